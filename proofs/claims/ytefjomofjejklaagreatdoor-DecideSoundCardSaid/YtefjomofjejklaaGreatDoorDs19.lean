/- Joined. -/
import Derived.Test.YtefjomofjejklaaGreatDoorDs18
namespace Go.Proofs.YtefjomofjejklaaGreatDoor
set_option maxRecDepth 100000
set_option maxHeartbeats 32000000
open Go.RowKit Go.Maps
theorem Xt {b y:Nat} {K:ZN} (h:y∈[b]):y∈b::K:=by rw[aG.1 h];simp
def RdS (K:ZN) (b:Nat) (lo:fT) (st:Option (List Rs)) (w:World):Prop:=∃(ra:OA) (rn rc:Nat) (wr:Bool),w.heap[b]?=some (.cells #[.slice lo.sa lo.sn lo.sc,.map (some lo.bm),.slice lo.fa lo.fn lo.fc,.slice ra rn rc,.bool wr] 97 (0,0))/\match st with
 | some rs=>wr=false/\iE (mask w (b::K)) rs ra rn rc
 | none=>wr=true
theorem RdS.cR {K:ZN} {b:Nat} {lo:fT} {st:Option (List Rs)} {w w':World} (h:RdS K b lo st w) (hx:Ext w w'):RdS K b lo st w':=by
 obtain⟨ra,rn,rc,wr,h1,h2⟩:=h;refine⟨ra,rn,rc,wr,hx.blk h1,?_⟩;cases st with
 | none=>exact h2
 | some rs=>exact⟨h2.1,h2.2.mono (cF (hx.cR []) (by simp))⟩
theorem iE.tail {w:World} {r:Rs} {t:List Rs} {bl off n c:Nat} (h:iE w (r::t) (some ⟨bl,off,none⟩) n c):iE w t (if c=1 then some ⟨bl,off,none⟩ else some ⟨bl,off+6,none⟩) (n - 1) (c - 1):=by
 obtain⟨vs,h1,h2,h3,h4,h5⟩:=h;cases vs with
 | nil=>have:=h1.1;simp at this
 | cons v vs =>
  refine⟨vs,⟨by simpa using h1.1,fun i g1 g2=>?_⟩,by simp at h2;omega,by omega,by split<;>exact a4Z ⟨_,_,rfl⟩,fun i hi=>?_⟩
  ·have:=h1.2 (i+1) (by simpa using g1) (by simpa using g2)
   rwa [List.getElem_cons_succ,List.getElem_cons_succ] at this
  obtain⟨b',off',e,h6⟩:=h5 (i+1) (by simpa using hi);simp only[a42,Addr.mk.injEq] at e;obtain⟨rfl,rfl,-⟩:=e;rw[bL (by simp at h2;omega)];refine⟨bl,off+6,rfl,fun j hj=>?_⟩;have:=h6 j (by simpa using hj);rw[show off+6+i*6+j=off+(i+1)*6+j by omega];simpa using this
def zRs:jf:=⟨⟨#[]⟩,false,⟨false,0,none,0,0⟩,none,0,0⟩
def aXU (K:ZN) (b:Nat) (lo:fT) (st:Option (List Rs)) (w:World) (e:Ending) (w':World):Prop:=ct [b] w w' /\
 ((∃r t v,st=some (r::t)/\e=.returned (.tuple #[v.val,.bool true])/\kC (mask w' (b::K)) r v/\RdS K b lo (some t) w')\/((∀r t,st≠some (r::t))/\e=.returned (.tuple #[zRs.val,.bool false])/\RdS K b lo none w'))
theorem SR {K:ZN} {b:Nat} {lo:fT} {st:Option (List Rs)} (w:World) (h:RdS K b lo st w):Calls Tryz.prog 74 #[.pointer (some ⟨b,0,none⟩)] w (aXU K b lo st w):=by
 obtain⟨ra,rn,rc,wr,hb,hst⟩:=h;have hbl:=bS hb;obtain⟨wa,cN⟩:∃wa,wa=w.alloc (.cells #[.string ⟨#[]⟩,.bool false,.bool false,.int .i64 0,.slice none 0 0,.slice none 0 0] 69):=⟨_,rfl⟩
 have dm:=ai (show Ext w wa by rw[cN];exact(Tz _).alloc _);have HB:=ai (dm.o.blk hb);have HA:=ai (show wa.heap[w.heap.size]?=some (.cells #[.string ⟨#[]⟩,.bool false,.bool false,.int .i64 0,.slice none 0 0,.slice none 0 0] 69 (0,0)) by rw[cN];exact bR w _);go_enter Tryz.func74,Tryz.ntmps74
 go_upto_region 1 with fail;rw[<-cN];clear cN;obtain⟨k0,k1,k2,k3,k4,kf⟩:=KT HB.o;have wP:=ai (show b<w.heap.size/\b∉[w.heap.size] from⟨hbl,by simp;omega⟩);have arc:(∃r t v bl off,st=some (r::t)/\wr=false/\ra=some ⟨bl,off,none⟩/\rn≠0/\kC (mask w (b::K)) r v/\iE (mask w (b::K)) t (if rc=1 then some ⟨bl,off,none⟩ else some ⟨bl,off+6,none⟩) (rn - 1) (rc - 1)/\rn<=rc/\wa.cell? ⟨bl,off,none⟩=some (.string v.name)/\wa.cell? ⟨bl,off+1,none⟩=some (.bool v.dg)/\wa.cell? ⟨bl,off+2,none⟩=some (.bool v.p.value)/\wa.cell? ⟨bl,off+3,none⟩=some (.int .i64 v.p.pick)/\wa.cell? ⟨bl,off+4,none⟩=some (.slice v.p.a v.p.n v.p.c)/\wa.cell? ⟨bl,off+5,none⟩=some (.slice v.a v.n v.c))\/((∀r t,st≠some (r::t))/\(wr=true\/(wr=false/\rn=0))):=by
  match st,hst with
  | none,h=>exact a4Z ⟨fun r t h=>(by cases h),aoX h⟩
  | some [],h=>exact a4Z ⟨fun r t h=>(by cases h),a4Z ⟨h.1,h.2.ln⟩⟩
  | some (r::t),h =>
   have hm:=h.2;have hle:=hm.ln;obtain⟨bl,off,v,rfl,hr,e0,e1,e2,e3,e4,e5⟩:=hm.nth (k:=0) (by simp);simp only[Nat.zero_mul,Nat.add_zero] at e0 e1 e2 e3 e4 e5;have hs:=cC w (b::K);exact aoX ⟨r,t,v,bl,off,rfl,h.1,rfl,by rw[hle];simp,hr,hm.tail,by obtain⟨_,_,q⟩:=hm;exact q.2.1,dm.o.cell (hs _ _ e0),dm.o.cell (hs _ _ e1),dm.o.cell (hs _ _ e2),dm.o.cell (hs _ _ e3),dm.o.cell (hs _ _ e4),dm.o.cell (hs _ _ e5)⟩
 clear hb hst hbl;rcases arc with ⟨r,t,v,bl,off,rfl,rfl,rfl,hn0,hr,ht,hle,e0,e1,e2,e3,e4,e5⟩|⟨hno,adI⟩
 ·have t1:((rn:Int)==0)=false:=by simp;omega
  have ti:(0:Int)<(rn:Int):=by omega
  have tl:(1:Int)<=(rn:Int):=by omega
  have tc:(rn:Int)<=(rc:Int):=by omega
  have HRR:=ai hr;obtain⟨A,hAd⟩:∃A,A=(if rc=1 then some (⟨bl,off,none⟩:Addr) else some ⟨bl,off+6,none⟩):=⟨_,rfl⟩
  rw[<-hAd] at ht;have WL:=ai ht;have HLE:=ai hle;have HN0:=ai hn0;clear hr ht hle hn0;go_upto_region 5 with fail;obtain⟨w4,hw4⟩:∃w4,w4=wa.alloc (.cells #[.string v.name,.bool v.dg,.bool v.p.value,v.p.pick,.slice v.p.a v.p.n v.p.c,.slice v.a v.n v.c] 69):=⟨_,rfl⟩
  have jl:=ai (show Ext wa w4 by rw[hw4];exact(Tz _).alloc _);have sI:=ai (show w4.heap[wa.heap.size]?=some (.cells #[.string v.name,.bool v.dg,.bool v.p.value,v.p.pick,.slice v.p.a v.p.n v.p.c,.slice v.a v.n v.c] 69 (0,0)) by rw[hw4];exact bR wa _);rw[<-hw4];clear hw4 e0 e1 e2 e3 e4 e5 k0 k1 k2 k3 k4 kf;obtain⟨k0,k1,k2,k3,k4,kf⟩:=KT (jl.o.blk HB.o);go_upto_region 6 with fail;rw[<-hAd];clear hAd;obtain⟨w5,p9⟩:∃w5,w5=w4.setCell ⟨b,3,none⟩ (.slice A (rn - 1) (rc - 1)):=⟨_,rfl⟩
  have hc5:ct [b] w4 w5:=by rw[p9];exact(ct.refl _ _).setCell (aoX (by simp)) _
  have uo:=ai (show w5.heap[b]?=some (.cells #[.slice lo.sa lo.sn lo.sc,.map (some lo.bm),.slice lo.fa lo.fn lo.fc,.slice A (rn - 1) (rc - 1),.bool false] 97 (0,0)) by rw[p9,aI _ _ _ _ _ _ (jl.o.blk HB.o)];simp);have CU:=ai (hc5.blk sI.o (by have:=wP.o;have:=dm.o.size;simp;omega));have Nn:=ai (hc5.blk (jl.o.blk HA.o) (by have:=wP.o;simp;omega));have pU:=ai (((dm.o.trans jl.o).cR [b]).then hc5);rw[<-p9];clear p9 hc5 k0 k1 k2 k3 k4 kf;obtain⟨r0,r1,r2,r3,r4,r5,rf⟩:=dH CU.o;obtain⟨q0,q1,q2,q3,q4,q5,qf⟩:=dH Nn.o;go_wp2_with fail;obtain⟨wz,eV⟩:∃wz,wz=fA w5 w.heap.size (.string v.name) (.bool v.dg) (.bool v.p.value) (.int .i64 v.p.pick) (.slice v.p.a v.p.n v.p.c) (.slice v.a v.n v.c):=⟨_,rfl⟩
  have HZ:=ai (show wz.heap[w.heap.size]?=some (.cells #[.string v.name,.bool v.dg,.bool v.p.value,v.p.pick,.slice v.p.a v.p.n v.p.c,.slice v.a v.n v.c] 69 (0,0)) by rw[eV];exact fH Nn.o);have HCZ:=ai (show ct [w.heap.size] w5 wz by rw[eV];exact fe _ _);unfold fA at eV;rw[<-eV];clear eV r0 r1 r2 r3 r4 r5 rf q0 q1 q2 q3 q4 q5 qf;obtain⟨z0,z1,z2,z3,z4,z5,zf⟩:=dH HZ.o;refine a5a (v:=.tuple #[v.val,.bool true]) (by simp[results,Tryz.results74,go_sem,jf.val,z0,z1,z2,z3,z4,z5]) rfl ?_;have U0:=pU.o.trans HCZ.o (fun y hy=>a4Z (by rw[aG.1 hy];exact aU _));have hs:=cF (N:=b::K) U0 (fun y hy=>aoX (Xt hy));exact⟨U0,aoX ⟨r,t,v,rfl,rfl,kC.mono HRR.o hs,_,_,_,_,HCZ.o.blk uo.o wP.o.2,rfl,WL.o.mono hs⟩⟩
 have jH:=ai hno;clear hno;have hgo:((wr=true)\/(wr=false/\((rn:Int)==0)=true)):=adI.imp id (fun h=>⟨h.1,by simp[h.2]⟩);clear adI;rcases hgo with rfl|⟨rfl,t1⟩
 all_goals
  go_upto_region 3 with fail;obtain⟨w3,hw3⟩:∃w3,w3=wa.setCell ⟨b,4,none⟩ (.bool true):=⟨_,rfl⟩
  have hc3:ct [b] wa w3:=by rw[hw3];exact(ct.refl _ _).setCell (aoX (by simp)) _
  have nU:=ai (show w3.heap[b]?=some (.cells #[.slice lo.sa lo.sn lo.sc,.map (some lo.bm),.slice lo.fa lo.fn lo.fc,.slice ra rn rc,.bool true] 97 (0,0)) by rw[hw3,aI _ _ _ _ _ _ HB.o];simp);have oD:=ai ((dm.o.cR [b]).then hc3);have HA3:=ai (hc3.blk HA.o (by have:=wP.o;simp;omega));rw[<-hw3];clear hw3 hc3 k0 k1 k2 k3 k4 kf;obtain⟨r0,r1,r2,r3,r4,r5,rf⟩:=dH HA3.o;go_wp2_with fail;obtain⟨wz,eV⟩:∃wz,wz=fA w3 w.heap.size (.string ⟨#[]⟩) (.bool false) (.bool false) (.int .i64 0) (.slice none 0 0) (.slice none 0 0):=⟨_,rfl⟩
  have HZ:=ai (show wz.heap[w.heap.size]?=some (.cells #[.string ⟨#[]⟩,.bool false,.bool false,.int .i64 0,.slice none 0 0,.slice none 0 0] 69 (0,0)) by rw[eV];exact fH HA3.o);have HCZ:=ai (show ct [w.heap.size] w3 wz by rw[eV];exact fe _ _);unfold fA at eV;rw[<-eV];clear eV r0 r1 r2 r3 r4 r5 rf;obtain⟨z0,z1,z2,z3,z4,z5,zf⟩:=dH HZ.o;refine a5a (v:=.tuple #[zRs.val,.bool false]) (by simp[results,Tryz.results74,go_sem,zRs,jf.val,z0,z1,z2,z3,z4,z5]) rfl ?_;exact⟨oD.o.trans HCZ.o (fun y hy=>a4Z (by rw[aG.1 hy];exact aU _)),a4Z ⟨jH.o,rfl,_,_,_,_,HCZ.o.blk nU.o wP.o.2,rfl⟩⟩
section
variable {P:Program} {ops:Array Oper} {π:Nat->Nat} {Q:Exit->Act->World->Prop} {m:Nat} {Er:World->World->Prop} {C:World->Prop} {k:Nat} {o:Oper} {r:List Oper} {ac:Act} {Φ FA:World->Prop} {A:Nat->Prop} {gh pf:ZN}
theorem uD {x:Operand} {p:Addr} (hop:o.op=.nilCheck x) (hx:ac.eval x=.pointer (some p)) (h:∀K:Act->Prop,(∀a,Vu P ops π Q m Er C (k+1) r a Φ FA A gh pf->K a)->K (ac.put o.dst (.pointer (some p)))) (hw:Region.wanted o (yielded ops ac.tmps)=true:=by rfl) (hk:Nat.ble (k+1) m=true:=by rfl):Vu P ops π Q m Er C k (o::r) ac Φ FA A gh pf:=by
 intro hl hπ;obtain⟨ho,hd,hr⟩:=XZ hl;obtain⟨t,ht⟩:=h (fun a=>Vu P ops π Q m Er C (k+1) r a Φ FA A gh pf) (fun _ h=>h) hr hπ;exact⟨.plain (.pointer (some p)) t,Nat.le_of_ble_eq_true hk,⟨o,ho,fun W hC=>aoX ⟨hw,aoX (by unfold execOp;rw[hop];simp only[hx];rfl)⟩⟩,by rw[hd];exact ht⟩
end
theorem anG {s:List Attr} {l:List cK} {f:ZI} {lo:fT} {n:Nat} {w:World} (h:WU w s l f lo n) {x:cK} {v:fM} (hp:PdR s l x) (hc:ij w x v) {r:Rs} {rv:jf} (hr:kC w r rv) :
  Calls Tryz.prog 75 #[lo.val,.iface 81 (.agg #[ v.kind,.string v.name,v.x.op,.string v.x.name,.slice v.x.aw v.x.nw v.x.cw,v.x.lo,v.x.hi,.slice v.x.aa v.x.na v.x.ca,.slice v.au v.nu v.cu,v.ck]),rv.val] w (cz (.bool (xE (CY s l f) x r)) w):=by
 obtain⟨c1,c2,c3,c4,c5,c6,c7,c8⟩:=hc;unfold xE;rw[<-c2];exact arK x.cond x.gH v.kind v.name v.x v.au v.nu v.cu v.ck w h hp.1 hp.2.1 hp.2.2 c4 c3 c7 hr
theorem ajV {w W:World} {b:Nat} (hx:Ext w W) (hb:w.heap.size<=b):Sub w (mask W [b]):=fun p v hp=>by
 have hl:=eB hp;rw[eA,bL (fun hm=>by rw[aG.1 hm] at hl;omega)];exact hx.sub p v hp
def RdQ (b:Nat) (lo:fT) (st:Option (List Rs)) (w:World) (e:Ending) (w':World):Prop:=e=.returned (.tuple #[])/\ct [b] w w'/\RdS [] b lo st w'
theorem aCz {A:Ex->Pr->Bool} {cs:List cK} {B:Bool} {st:Option (List Rs)} (h:∀r t,st≠some (r::t)):Ht A cs B st=none:=by
 unfold Ht;split
 ·rename_i r t;exact a40 rfl (h r t)
 rfl
theorem ant {A:Ex->Pr->Bool} {c:cK} {B:Bool} {st:Option (List Rs)} (h:∀r t,st≠some (r::t)):evS A B st c=none:=by
 unfold evS;split
 ·rename_i r t;exact a40 rfl (h r t)
 rfl
theorem xP {w0 w w':World} {b:Nat} (h0:Ext w0 w) (hb:w0.heap.size<=b) (hc:ct [b] w w'):Ext w0 w':=hc.ext h0 (fun y hy=>by rw[aG.1 hy];exact hb)
theorem J4 {s:List Attr} {l:List cK} {f:ZI} {lo:fT} {n b:Nat} {st:Option (List Rs)} (cs:List cK) (ca:OA) (cn cc:Nat) (B:Bool) {w0:World} (w:World) (h:WU w0 s l f lo n) (hx:Ext w0 w) (hb:w0.heap.size<=b) (hs:RdS [] b lo st w) (hl:cZ (mask w [b]) cs ca cn cc) (hp:∀x∈cs,PdR s l x) (hn:cn<=1000000) :
  Calls Tryz.prog 49 #[.pointer (some ⟨b,0,none⟩),.slice ca cn cc,.bool B] w (RdQ b lo (Ht (CY s l f) cs B st) w):=by
 have Gj:=ai (SR w hs);have HM:=ai (fun (k:Nat) (hk:k<cs.length) (v:fM) (r:Rs) (rv:jf) W (hW:Ext w0 W) (hv:ij W cs[k] v) (hr:kC W r rv)=>anG (h.ext hW) (hp _ (aD hk)) hv hr);have qL:b<w.heap.size:=by obtain⟨_,_,_,_,h1,_⟩:=hs;exact bS h1
 obtain⟨A,hA⟩:∃A,A=CY s l f:=⟨_,rfl⟩
 rw[<-hA] at HM ⊢;have HL:=ai hl;have HN:=ai hl.len;have HX:=ai hx;have iO:=ai (And.intro hb qL);clear h hx hb hs hl hp hA qL;unfold fT.val jf.val at HM;go_enter Tryz.func49,Tryz.ntmps49
 go_wp2_with fail;refine Gj.o.mono ?_;rintro e w1 ⟨hc1,⟨r,t,v,rfl,rfl,hr,hst⟩|⟨hno,rfl,hst⟩⟩
 case' inr =>
  have HQ:=ai (show RdQ b lo (Ht A cs B st) w (.returned (.tuple #[])) (w1.alloc (.cells #[.string ⟨#[]⟩,.bool false,.bool false,.int .i64 0,.slice none 0 0,.slice none 0 0] 69)) from⟨rfl,hc1.then (((Tz w1).alloc _).cR _),by rw[aCz hno];exact hst.cR ((Tz w1).alloc _)⟩);clear hc1 hno hst;unfold zRs jf.val;go_wp2_with fail;refine a5a (v:=.tuple #[]) (by simp[results,Tryz.results49,go_sem]) rfl ?_;exact HQ.o
 obtain⟨rn,ra,rp,ra',rn',rc'⟩:=v;unfold jf.val;go_upto_region 1 with fail;obtain⟨b6,lN⟩:∃b6,b6=w1.heap.size:=⟨_,rfl⟩
 obtain⟨w2,hw2⟩:∃w2,w2=w1.alloc (.cells #[.string rn,.bool ra,.bool rp.value,rp.pick,.slice rp.a rp.n rp.c,.slice ra' rn' rc'] 69):=⟨_,rfl⟩
 have hx2:Ext w1 w2:=by rw[hw2];exact(Tz _).alloc _
 have jO:=ai (show w2.heap[b6]?=some (.cells #[.string rn,.bool ra,.bool rp.value,rp.pick,.slice rp.a rp.n rp.c,.slice ra' rn' rc'] 69 (0,0)) by rw[hw2,lN];exact bR w1 _);have HST:=ai (hst.cR hx2);have iP:=ai (hc1.then (hx2.cR _));have HR:=ai (kC.mono hr ((cC _ _).trans hx2.sub));have Gl:=ai (show ra=r.dg from hr.app);rw[<-hw2,<-lN];clear hw2 lN hx2 hst hc1 hr;have A4:=ai (cZ.mono HL.o (cF (N:=[b]) iP.o (fun y hy=>aoX hy)));have dN:=ai (xP HX.o iO.o.1 iP.o);obtain⟨xa,xn,xc,xw,j6,-,sq⟩:=HST.o;have jm:=ai j6;clear j6 sq;go_wp2_with fail;go_loopw [19] (fun i wr=>∃k:Nat,i=.int .i64 k/\k<=cn/\(∀c∈cs.take k,(r.dg==B&&xE A c r)=false)/\Ext w2 wr) (fun i _=>cn - (intOf i).toNat)
 case atStart=>exact⟨0,rfl,Nat.zero_le _,by simp,Tz _⟩
 case round =>
  obtain⟨k,rfl,hk,hno,hx⟩:=hrel;have jH:=ai hno;have gZ:=ai hx;clear hno hx;by_cases hkn:k<cn
  ·have fq:k<cs.length:=by have:=HN.o;omega
   have t1:=ag ((k:Int)<(cn:Int));obtain⟨cb,ld,v,rfl,fO,hrow⟩:=(A4.o.mono ((cC _ _).trans gZ.o.sub)).at fq;obtain⟨c0,c1,c2,c3,c4,c5,c6,c7,c8,c9⟩:=hrow.BB;have OO:=ai (fun W (hW:Ext wr W)=>HM.o k fq v r ⟨rn,ra,rp,ra',rn',rc'⟩ W ((dN.o.trans gZ.o).trans hW) (fO.mono hW.sub) (kC.mono HR.o (gZ.o.trans hW).sub));obtain⟨Z,hZ⟩:∃Z,Z=xE A cs[k] r:=⟨_,rfl⟩
   rw[<-hZ] at OO;have uF:=ai (show cs.take (k+1)=cs.take k++[cs[k]] from aO fq);have HZ:=ai hZ;have HCM:=ai (aD fq);clear fO hrow hZ;obtain⟨wb,iV⟩:∃wb,wb=wr.alloc (.cells #[ v.kind,.string v.name,v.x.op,.string v.x.name,.slice v.x.aw v.x.nw v.x.cw,v.x.lo,v.x.hi,.slice v.x.aa v.x.na v.x.ca,.slice v.au v.nu v.cu,v.ck] 48):=⟨_,rfl⟩
   have jK:=ai (show Ext wr wb by rw[iV];exact(Tz _).alloc _);have hbb:=(show wb.heap[wr.heap.size]?=some (.cells #[ v.kind,.string v.name,v.x.op,.string v.x.name,.slice v.x.aw v.x.nw v.x.cw,v.x.lo,v.x.hi,.slice v.x.aa v.x.na v.x.ca,.slice v.au v.nu v.cu,v.ck] 48 (0,0)) by rw[iV];exact bR wr _)
   go_upto_region 5 with fail;rw[<-iV];clear iV c0 c1 c2 c3 c4 c5 c6 c7 c8 c9;obtain⟨x0,x1,x2,x3,x4,xf⟩:=KT ((gZ.o.trans jK.o).blk jm.o);obtain⟨r0,r1,r2,r3,r4,r5,rf⟩:=dH ((gZ.o.trans jK.o).blk jO.o);obtain⟨f0,f1,f2,f3,f4,f5,f6,f7,f8,f9,ff⟩:=rK hbb;obtain⟨C0,C1,C2,R0,R1,R2⟩:=wcn6 x0 x1 x2 r0 r1 r2;obtain⟨R3,R4,R5,F0,F1,F2⟩:=wcn6 r3 r4 r5 f0 f1 f2;obtain⟨F3,F4,F5,F6,F7,F8⟩:=wcn6 f3 f4 f5 f6 f7 f8;have F9:=bT f9;clear x0 x1 x2 x3 x4 xf r0 r1 r2 r3 r4 r5 rf f0 f1 f2 f3 f4 f5 f6 f7 f8 f9 ff hbb;by_cases hab:ra=B
   case neg =>
    have tq:(ra==B)=false:=by simp[hab]
    have HF:=ai (show (r.dg==B&&xE A cs[k] r)=false by rw[<-Gl.o,tq];rfl);clear hab;refine kT 15 ?_
    repeat first|(refine bZ ?_;intro K hK;go_big_quiet_op;go_big_quiet_on)|(refine uD rfl rfl ?_;intro K hK;go_simp;go_big_quiet_on)|(refine zX ?_;intro K hK;go_simp;go_big_quiet_on)
    refine gC fun w3 hx3 _ _=>?_
    have dS:=ai ((gZ.o.trans jK.o).trans hx3);clear hx3 C0 C1 C2 R0 R1 R2 R3 R4 R5 F0 F1 F2 F3 F4 F5 F6 F7 F8 F9;go_wp2_with fail;go_roundw
    case rel=>exact⟨k+1,by go_num,by omega,fun c hc=>by
     rw[uF.o] at hc;rcases aN.1 hc with h|h
     ·exact jH.o c h
     rw[aG.1 h];exact HF.o,dS.o⟩
    case measure=>simp[intOf];omega
   have tq:(ra==B)=true:=by simp[hab]
   have HAB:=ai (show (r.dg==B)=true by rw[<-Gl.o,tq]);clear hab;refine kT 15 ?_
   repeat first|(refine bZ ?_;intro K hK;go_big_quiet_op;go_big_quiet_on)|(refine uD rfl rfl ?_;intro K hK;go_simp;go_big_quiet_on)
   refine mU (fun W hW=>OO.o W (jK.o.trans hW)) ?_;intro K hK;go_simp;go_big_quiet_on
   repeat first|(refine bZ ?_;intro K hK;go_big_quiet_op;go_big_quiet_on)|(refine uD rfl rfl ?_;intro K hK;go_simp;go_big_quiet_on)
   refine gC fun w3 hx3 _ _=>?_
   have dS:=ai ((gZ.o.trans jK.o).trans hx3);clear hx3 C0 C1 C2 R0 R1 R2 R3 R4 R5 F0 F1 F2 F3 F4 F5 F6 F7 F8 F9;cases Z
   ·have HF:=ai (show (r.dg==B&&xE A cs[k] r)=false by rw[<-HZ.o];simp);go_wp2_with fail;go_roundw
    case rel=>exact⟨k+1,by go_num,by omega,fun c hc=>by
     rw[uF.o] at hc;rcases aN.1 hc with h|h
     ·exact jH.o c h
     rw[aG.1 h];exact HF.o,dS.o⟩
    case measure=>simp[intOf];omega
   have HQ:=ai (show Ht A cs B (some (r::t))=some t by
    unfold Ht
    show (if (cs.any fun c=>r.dg==B&&xE A c r)=true then some t else none)=_
    rw[bM (List.any_eq_true.2 ⟨cs[k],HCM.o,by rw[HAB.o,<-HZ.o];rfl⟩)])
   go_wp2_with fail;refine a5a (v:=.tuple #[]) (by simp[results,Tryz.results49,go_sem]) rfl ?_;exact⟨rfl,iP.o.then (dS.o.cR _),by rw[HQ.o];exact HST.o.cR dS.o⟩
  have t1:=ah ((k:Int)<(cn:Int));have HQ:=ai (show Ht A cs B (some (r::t))=none by
   unfold Ht
   show (if (cs.any fun c=>r.dg==B&&xE A c r)=true then some t else none)=_
   rw[bL];rw[Bool.not_eq_true,List.any_eq_false];intro c hc;have:=jH.o c (by rw[aS (by have:=HN.o;omega)];exact hc);rw[this];simp)
  obtain⟨x0,x1,x2,x3,x4,xf⟩:=KT (gZ.o.blk jm.o);go_wp2_with fail;refine a5a (v:=.tuple #[]) (by simp[results,Tryz.results49,go_sem]) rfl ?_;refine⟨rfl,(iP.o.then (gZ.o.cR _)).then ((ct.refl _ _).setCell (aoX (by simp)) _),?_⟩;rw[HQ.o];exact⟨xa,xn,xc,true,by rw[aI _ _ _ _ _ _ (gZ.o.blk jm.o)];simp,rfl⟩
def Db (b:Nat) (W W':World):Prop:=ct [b] W W'/\∀o:Nat,o<4->∀v,W.cell? ⟨b,o,none⟩=some v->W'.cell? ⟨b,o,none⟩=some v
theorem Db.refl (b:Nat) (W:World):Db b W W:=⟨ct.refl _ _,fun _ _ _ h=>h⟩
theorem Db.ext {b:Nat} {W W':World} (h:Ext W W'):Db b W W':=⟨h.cR _,fun _ _ _ q=>h.cell q⟩
theorem Db.trans {b:Nat} {W W' W2:World} (h:Db b W W') (k:Db b W' W2):Db b W W2:=⟨h.1.then k.1,fun o ho v q=>k.2 o ho v (h.2 o ho v q)⟩
theorem Db.put (W:World) (b:Nat) (u:Value):Db b W (W.setCell ⟨b,4,none⟩ u):=⟨(ct.refl _ _).setCell (aoX (by simp)) _,fun o ho v q=>by
 rw[World.cell?_setCell_other _ _ _ _ (fun e=>by simp only[Addr.mk.injEq] at e;omega)];exact q⟩
instance (b:Nat) (w:World):Nonempty (WIn (Db b w)):=⟨⟨w,Db.refl b w⟩⟩
theorem lz {b:Nat} {w:World} {p:Addr} {v:Value} (h:w.cell? p=some v) (hp:p.block∉[b]):∀τ:WIn (Db b w),τ.1.cell? p=some v:=fun τ=>τ.2.1.cell h hp
theorem Ut {b o:Nat} {w:World} {v:Value} (h:w.cell? ⟨b,o,none⟩=some v) (ho:o<4):∀τ:WIn (Db b w),τ.1.cell? ⟨b,o,none⟩=some v:=fun τ=>τ.2.2 o ho v h
theorem afv {K:ZN} {b:Nat} {lo:fT} {w:World} {xa:OA} {xn xc:Nat} {xw q:Bool} {st:Option (List Rs)} (h:w.heap[b]?=some (.cells #[.slice lo.sa lo.sn lo.sc,.map (some lo.bm),.slice lo.fa lo.fn lo.fc,.slice xa xn xc,.bool xw] 97 (0,0))) (hq:(q=false/\∃t,st=some t/\iE (mask w (b::K)) t xa xn xc)\/(q=true/\st=none)):RdS K b lo st (w.setCell ⟨b,4,none⟩ (.bool q)):=by
 refine⟨xa,xn,xc,q,by rw[aI _ _ _ _ _ _ h];simp,?_⟩;rcases hq with ⟨rfl,t,rfl,ht⟩|⟨rfl,rfl⟩
 ·exact⟨rfl,ht.mono (cF ((ct.refl _ _).setCell (aoX (by simp)) _) (fun y hy=>aoX (Xt hy)))⟩
 rfl
theorem anu (A:Ex->Pr->Bool) (B:Bool) (st:Option (List Rs)) (cs:List cK) (c:cK):oq A (cs++[c]) B st=evS A B (oq A cs B st) c:=by
 unfold oq;rw[List.foldl_append]
 rfl
theorem aIg {A:Ex->Pr->Bool} {B:Bool} {st:Option (List Rs)} {cs ds es:List cK} {c:cK} (h:∀r t,oq A ds B st≠some (r::t)) (hc:cs=ds++c::es):oq A cs B st=none:=by
 rw[hc];unfold oq;rw[List.foldl_append,aX]
 show es.foldl (evS A B) (evS A B (oq A ds B st) c)=none
 rw[ant h,aeb]
theorem IP {s:List Attr} {l:List cK} {f:ZI} {lo:fT} {n b:Nat} {st:Option (List Rs)} (cs:List cK) (ca:OA) (cn cc:Nat) (B:Bool) {w0:World} (w:World) (h:WU w0 s l f lo n) (hx:Ext w0 w) (hb:w0.heap.size<=b) (hs:RdS [] b lo st w) (hl:cZ (mask w [b]) cs ca cn cc) (hp:∀x∈cs,PdR s l x) (hn:cn<=1000000) :
  Calls Tryz.prog 48 #[.pointer (some ⟨b,0,none⟩),.slice ca cn cc,.bool B] w (RdQ b lo (oq (CY s l f) cs B st) w):=by
 have HM:=ai (fun (k:Nat) (hk:k<cs.length) (v:fM) (r:Rs) (rv:jf) W (hW:Ext w0 W) (hv:ij W cs[k] v) (hr:kC W r rv)=>anG (h.ext hW) (hp _ (aD hk)) hv hr);have qL:b<w.heap.size:=by obtain⟨_,_,_,_,h1,_⟩:=hs;exact bS h1
 obtain⟨A,hA⟩:∃A,A=CY s l f:=⟨_,rfl⟩
 rw[<-hA] at HM ⊢;have HL:=ai hl;have HN:=ai hl.len;have HX:=ai hx;have iO:=ai (And.intro hb qL);have wN:=ai hs;clear h hx hb hs hl hp hA qL;unfold fT.val jf.val at HM;go_enter Tryz.func48,Tryz.ntmps48
 go_wp2_with fail;go_loopw [12] (fun i wr=>∃k:Nat,i=.int .i64 k/\k<=cn/\RdS [] b lo (oq A (cs.take k) B st) wr/\ct [b] w wr) (fun i _=>cn - (intOf i).toNat)
 case atStart=>exact⟨0,rfl,Nat.zero_le _,wN.o,ct.refl _ _⟩
 case round =>
  obtain⟨k,rfl,hk,hst,hc⟩:=hrel;have HST:=ai hst;have HC:=ai hc;clear hst hc;by_cases hkn:k<cn
  ·have fq:k<cs.length:=by have:=HN.o;omega
   have t1:=ag ((k:Int)<(cn:Int));obtain⟨cb,ld,v,rfl,fO,hrow⟩:=(cZ.mono HL.o (cF (N:=[b]) HC.o (fun y hy=>aoX hy))).at fq;obtain⟨c0,c1,c2,c3,c4,c5,c6,c7,c8,c9⟩:=(hrow.mono (cC _ _)).BB;have OO:=ai (fun (r:Rs) (rv:jf) W (hW:ct [b] wr W) (hr:kC W r rv)=>HM.o k fq v r rv W (xP HX.o iO.o.1 (HC.o.then hW)) ((fO.mono (cF hW (fun y hy=>aoX hy))).mono (cC _ _)) hr);have uF:=ai (show cs.take (k+1)=cs.take k++[cs[k]] from aO fq);have YJ:=ai (show cs=cs.take k++cs[k]::cs.drop (k+1) by rw[<-List.drop_eq_getElem_cons fq,List.take_append_drop]);obtain⟨y,hy⟩:∃y,y=cs[k]:=⟨_,rfl⟩
   rw[<-hy] at OO uF YJ;clear hrow hy;obtain⟨bk,hbk⟩:∃bk,bk=wr.heap.size:=⟨_,rfl⟩
   obtain⟨wb,iV⟩:∃wb,wb=wr.alloc (.cells #[ v.kind,.string v.name,v.x.op,.string v.x.name,.slice v.x.aw v.x.nw v.x.cw,v.x.lo,v.x.hi,.slice v.x.aa v.x.na v.x.ca,.slice v.au v.nu v.cu,v.ck] 48):=⟨_,rfl⟩
   have hxb:Ext wr wb:=by rw[iV];exact(Tz _).alloc _
   have HBK:=ai (show wb.heap[bk]?=some (.cells #[ v.kind,.string v.name,v.x.op,.string v.x.name,.slice v.x.aw v.x.nw v.x.cw,v.x.lo,v.x.hi,.slice v.x.aa v.x.na v.x.ca,.slice v.au v.nu v.cu,v.ck] 48 (0,0)) by rw[iV,hbk];exact bR wr _);have si:=ai (HC.o.then (hxb.cR _));have jK:=ai hxb;have vt:=ai (show bk∉[b] by have:=iO.o.2;have:=HC.o.size;simp;omega);have Gj:=ai (SR wb (HST.o.cR hxb));go_upto_region 3 with fail;rw[<-iV,<-hbk];clear iV hbk hxb fO c0 c1 c2 c3 c4 c5 c6 c7 c8 c9;go_wp2_with fail;refine Gj.o.mono ?_;rintro e w1 ⟨hc1,⟨r,t,rv,hsk,rfl,hr,hst⟩|⟨hno,rfl,hst⟩⟩
   case' inr =>
    have HQ:=ai (show RdQ b lo (oq A cs B st) w (.returned (.tuple #[])) (w1.alloc (.cells #[.string ⟨#[]⟩,.bool false,.bool false,.int .i64 0,.slice none 0 0,.slice none 0 0] 69)) from⟨rfl,si.o.then (hc1.then (((Tz w1).alloc _).cR _)),by rw[aIg hno YJ.o];exact hst.cR ((Tz w1).alloc _)⟩);clear hc1 hno hst;unfold zRs jf.val;go_wp2_with fail;refine a5a (v:=.tuple #[]) (by simp[results,Tryz.results48,go_sem]) rfl ?_;exact HQ.o
   have Na:=ai hsk;clear hsk;obtain⟨xa,xn,xc,xw,j6,-,sq⟩:=id hst;have CA:=ai sq;obtain⟨rn,ra,rp,ra',rn',rc'⟩:=rv;unfold jf.val;go_upto_region 4 with fail;obtain⟨b6,lN⟩:∃b6,b6=w1.heap.size:=⟨_,rfl⟩
   obtain⟨w2,hw2⟩:∃w2,w2=w1.alloc (.cells #[.string rn,.bool ra,.bool rp.value,rp.pick,.slice rp.a rp.n rp.c,.slice ra' rn' rc'] 69):=⟨_,rfl⟩
   have hx2:Ext w1 w2:=by rw[hw2];exact(Tz _).alloc _
   have jO:=ai (show w2.heap[b6]?=some (.cells #[.string rn,.bool ra,.bool rp.value,rp.pick,.slice rp.a rp.n rp.c,.slice ra' rn' rc'] 69 (0,0)) by rw[hw2,lN];exact bR w1 _);have Yr:=ai (show b6∉[b]/\w.heap.size<=b6 by have:=iO.o.2;have:=si.o.size;have:=hc1.size;simp;omega);have iP:=ai (si.o.then (hc1.then (hx2.cR _)));have aGl:=ai (hx2.blk (hc1.blk HBK.o vt.o));have jm:=ai (hx2.blk j6);have M8:=ai (hst.cR hx2);have HRM:=ai (fun W (hW:ct [b] w2 W)=>sq.mono (cF ((hx2.cR [b]).then hW) (fun y hy=>aoX (Xt hy))));have Gl:=ai (show ra=r.dg from hr.app);rw[<-hw2,<-lN];have aok:=ai (fun W (hW:ct [b] w2 W)=>OO.o r ⟨rn,ra,rp,ra',rn',rc'⟩ W (((jK.o.cR [b]).then (hc1.then (hx2.cR _))).then hW) (kC.mono hr ((cF ((hx2.cR [b]).then hW) (fun y hy=>aoX (Xt hy))).trans (cC _ _))));have aF7:=ai (show ct [b] wr w2 from(jK.o.cR [b]).then (hc1.then (hx2.cR _)));clear hw2 lN hx2 hst hc1 hr j6 sq;go_upto_region 5 with fail;obtain⟨x0,x1,x2,x3,x4,xf⟩:=KT jm.o;obtain⟨r0,r1,r2,r3,r4,r5,rf⟩:=dH jO.o;obtain⟨f0,f1,f2,f3,f4,f5,f6,f7,f8,f9,ff⟩:=rK aGl.o;have C0:=Ut (b:=b) x0 (by decide);have C1:=Ut (b:=b) x1 (by decide);have C2:=Ut (b:=b) x2 (by decide);have R0:=lz r0 Yr.o.1;have R1:=lz r1 Yr.o.1;have R2:=lz r2 Yr.o.1;have R3:=lz r3 Yr.o.1;have R4:=lz r4 Yr.o.1;have R5:=lz r5 Yr.o.1;have F0:=lz f0 vt.o;have F1:=lz f1 vt.o;have F2:=lz f2 vt.o;have F3:=lz f3 vt.o;have F4:=lz f4 vt.o;have F5:=lz f5 vt.o;have F6:=lz f6 vt.o;have F7:=lz f7 vt.o;have F8:=lz f8 vt.o;have F9:=lz f9 vt.o;clear x0 x1 x2 x3 x4 xf r0 r1 r2 r3 r4 r5 rf f0 f1 f2 f3 f4 f5 f6 f7 f8 f9 ff;obtain⟨Z,hZ⟩:∃Z,Z=xE A y r:=⟨_,rfl⟩
   rw[<-hZ] at aok;have HZ:=ai hZ;clear hZ;by_cases hab:ra=B
   case neg =>
    have tq:(ra==B)=false:=by simp[hab]
    have HF:=ai (show (r.dg==B&&xE A y r)=false by rw[<-Gl.o,tq];rfl);clear hab;refine kG (m:=20) (Er:=Db b) (C:=Db b w2) (Φ:=fun W=>W.heap[b]?=some (.cells #[.slice lo.sa lo.sn lo.sc,.map (some lo.bm),.slice lo.fa lo.fn lo.fc,.slice xa xn xc,.bool xw] 97 (0,0))) (Db.refl b) (fun _ _ h=>Db.ext h) (fun _ _ h q=>h.trans q) (Db.ext (Tz w2).drew) ((Tz w2).drew.blk jm.o) (fun _ _ hx h=>hx.blk h) ?_
    repeat first|(refine bZ ?_;intro K hK;go_big_quiet_op;go_big_quiet_on)|(refine uD rfl rfl ?_;intro K hK;go_simp;go_big_quiet_on)|(refine zX ?_;intro K hK;go_simp;go_big_quiet_on)
    refine fZ undef (fun W=>RdS [] b lo (oq A (cs.take (k+1)) B st) W) (fun W hW h _=>?_) (fun _ _ hx h=>h.cR hx) ?_
    ·obtain⟨z0,z1,z2,z3,z4,zf⟩:=KT h;have HP:=ai (afv (K:=[]) (q:=true) (st:=oq A (cs.take (k+1)) B st) h (by rw[uF.o,anu,Na.o];exact a4Z ⟨rfl,by show (if (r.dg==B&&xE A y r)=true then some t else none)=none;rw[HF.o];rfl⟩));have HE:=ai (Db.put W b (.bool true));clear h;unfold bQ;go_simp;exact⟨HE.o,rfl,HP.o⟩
    intro K hK;go_simp;go_big_quiet_on;refine gC fun w4 gV hy4 _=>?_
    have oY:=ai hy4;have mo:=ai (show ct [b] w2 w4 from gV.1);clear gV hy4 C0 C1 C2 R0 R1 R2 R3 R4 R5 F0 F1 F2 F3 F4 F5 F6 F7 F8 F9;go_wp2_with fail;go_roundw
    case rel=>exact⟨k+1,by go_num,by omega,oY.o,iP.o.then mo.o⟩
    case measure=>simp[intOf];omega
   have tq:(ra==B)=true:=by simp[hab]
   have HAB:=ai (show (r.dg==B)=true by rw[<-Gl.o,tq]);clear hab;cases Z
   ·refine kG (m:=20) (Er:=Db b) (C:=Db b w2) (Φ:=fun W=>W.heap[b]?=some (.cells #[.slice lo.sa lo.sn lo.sc,.map (some lo.bm),.slice lo.fa lo.fn lo.fc,.slice xa xn xc,.bool xw] 97 (0,0))) (Db.refl b) (fun _ _ h=>Db.ext h) (fun _ _ h q=>h.trans q) (Db.ext (Tz w2).drew) ((Tz w2).drew.blk jm.o) (fun _ _ hx h=>hx.blk h) ?_
    repeat first|(refine bZ ?_;intro K hK;go_big_quiet_op;go_big_quiet_on)|(refine uD rfl rfl ?_;intro K hK;go_simp;go_big_quiet_on)
    refine fZ (.bool false) (fun W=>W.heap[b]?=some (.cells #[.slice lo.sa lo.sn lo.sc,.map (some lo.bm),.slice lo.fa lo.fn lo.fc,.slice xa xn xc,.bool xw] 97 (0,0))) (fun W hW h _=>?_) (fun _ _ hx h=>hx.blk h) ?_
    ·unfold bQ;go_simp;refine(aok.o W hW.1).mono ?_;rintro e wz ⟨rfl,hz⟩;exact⟨_,rfl,Db.ext hz,rfl,hz.blk h⟩
    intro K hK;go_simp;go_big_quiet_on
    repeat first|(refine bZ ?_;intro K hK;go_big_quiet_op;go_big_quiet_on)|(refine uD rfl rfl ?_;intro K hK;go_simp;go_big_quiet_on)
    refine fZ undef (fun W=>RdS [] b lo (oq A (cs.take (k+1)) B st) W) (fun W hW h _=>?_) (fun _ _ hx h=>h.cR hx) ?_
    ·obtain⟨z0,z1,z2,z3,z4,zf⟩:=KT h;have HP:=ai (afv (K:=[]) (q:=true) (st:=oq A (cs.take (k+1)) B st) h (by rw[uF.o,anu,Na.o];exact a4Z ⟨rfl,by show (if (r.dg==B&&xE A y r)=true then some t else none)=none;rw[<-HZ.o,HAB.o];rfl⟩));have HE:=ai (Db.put W b (.bool true));clear h;unfold bQ;go_simp;exact⟨HE.o,rfl,HP.o⟩
    intro K hK;go_simp;go_big_quiet_on;refine gC fun w4 gV hy4 _=>?_
    have oY:=ai hy4;have mo:=ai (show ct [b] w2 w4 from gV.1);clear gV hy4 C0 C1 C2 R0 R1 R2 R3 R4 R5 F0 F1 F2 F3 F4 F5 F6 F7 F8 F9;go_wp2_with fail;go_roundw
    case rel=>exact⟨k+1,by go_num,by omega,oY.o,iP.o.then mo.o⟩
    case measure=>simp[intOf];omega
   refine kG (m:=20) (Er:=Db b) (C:=Db b w2) (Φ:=fun W=>W.heap[b]?=some (.cells #[.slice lo.sa lo.sn lo.sc,.map (some lo.bm),.slice lo.fa lo.fn lo.fc,.slice xa xn xc,.bool xw] 97 (0,0))) (Db.refl b) (fun _ _ h=>Db.ext h) (fun _ _ h q=>h.trans q) (Db.ext (Tz w2).drew) ((Tz w2).drew.blk jm.o) (fun _ _ hx h=>hx.blk h) ?_
   repeat first|(refine bZ ?_;intro K hK;go_big_quiet_op;go_big_quiet_on)|(refine uD rfl rfl ?_;intro K hK;go_simp;go_big_quiet_on)
   refine fZ (.bool true) (fun W=>W.heap[b]?=some (.cells #[.slice lo.sa lo.sn lo.sc,.map (some lo.bm),.slice lo.fa lo.fn lo.fc,.slice xa xn xc,.bool xw] 97 (0,0))) (fun W hW h _=>?_) (fun _ _ hx h=>hx.blk h) ?_
   ·unfold bQ;go_simp;refine(aok.o W hW.1).mono ?_;rintro e wz ⟨rfl,hz⟩;exact⟨_,rfl,Db.ext hz,rfl,hz.blk h⟩
   intro K hK;go_simp;go_big_quiet_on
   repeat first|(refine bZ ?_;intro K hK;go_big_quiet_op;go_big_quiet_on)|(refine uD rfl rfl ?_;intro K hK;go_simp;go_big_quiet_on)
   refine fZ undef (fun W=>RdS [] b lo (oq A (cs.take (k+1)) B st) W) (fun W hW h _=>?_) (fun _ _ hx h=>h.cR hx) ?_
   ·obtain⟨z0,z1,z2,z3,z4,zf⟩:=KT h;have HP:=ai (afv (K:=[]) (q:=false) (st:=oq A (cs.take (k+1)) B st) h (by rw[uF.o,anu,Na.o];exact aoX ⟨rfl,t,by show (if (r.dg==B&&xE A y r)=true then some t else none)=some t;rw[<-HZ.o,HAB.o];rfl,HRM.o W hW.1⟩));have HE:=ai (Db.put W b (.bool false));clear h;unfold bQ;go_simp;exact⟨HE.o,rfl,HP.o⟩
   intro K hK;go_simp;go_big_quiet_on;refine gC fun w4 gV hy4 _=>?_
   have oY:=ai hy4;have mo:=ai (show ct [b] w2 w4 from gV.1);clear gV hy4 C0 C1 C2 R0 R1 R2 R3 R4 R5 F0 F1 F2 F3 F4 F5 F6 F7 F8 F9;go_wp2_with fail;go_roundw
   case rel=>exact⟨k+1,by go_num,by omega,oY.o,iP.o.then mo.o⟩
   case measure=>simp[intOf];omega
  have t1:=ah ((k:Int)<(cn:Int));have HQ:=ai (show cs.take k=cs from aS (by have:=HN.o;omega));go_wp2_with fail;refine a5a (v:=.tuple #[]) (by simp[results,Tryz.results48,go_sem]) rfl ?_;exact⟨rfl,HC.o,by have:=HST.o;rwa [HQ.o] at this⟩
def aSn (b:Nat) (lo:fT) (X:Option (List Rs×List cK)) (m:Nat) (w:World) (e:Ending) (w':World):Prop:=ct [b] w w'/\∃(F:List cK) (a:OA) (c:Nat),e=.returned (.slice a F.length c)/\cZ w' F a F.length c/\F.length<=m/\RdS [] b lo (X.map Prod.fst) w'/\∀q,X=some q->F=q.2
theorem Ms (A:Ex->Pr->Bool) (st:Option (List Rs)) (cs:List cK) (c:cK):RF A (cs++[c]) st=apS A (RF A cs st) c:=by
 unfold RF;rw[List.foldl_append]
 rfl
theorem axq {A:Ex->Pr->Bool} {st:Option (List Rs)} {cs ds es:List cK} {c:cK} (h:∀r t,(RF A ds st).map Prod.fst≠some (r::t)) (hc:cs=ds++c::es):RF A cs st=none:=by
 rw[hc];unfold RF at h ⊢;rw[List.foldl_append,aX];have:apS A (ds.foldl (apS A) (st.map fun rs=>(rs,[]))) c=none:=by
  revert h
  generalize ds.foldl (apS A) (st.map fun rs=>(rs,[]))=X;intro h
  match X,h with
  | none,_=>rfl
  | some ([],f),_=>rfl
  | some (r::t,f),h=>exact a40 rfl (h r t)
 rw[this,aeg]
theorem awB {b:Nat} {lo:fT} {st:Option (List Rs)} {w w':World} {v v':Value} (h:RdS (rowOf v) b lo st w) (hc:ct (rowOf v) w w') (hg:∀k,v'.ownBlock=some k->v.ownBlock=some k\/w.heap.size<=k) (hb:∀q∈rowOf v,b<q):RdS (rowOf v') b lo st w':=by
 obtain⟨ra,rn,rc,wr,h1,h2⟩:=h;refine⟨ra,rn,rc,wr,hc.blk h1 (fun hm=>by have:=hb _ hm;omega),?_⟩;cases st with
 | none=>exact h2
 | some rs =>
  have hk:=yD (bd:=b) (M:=[]) hc hg;rw[List.append_nil,List.append_nil] at hk;exact⟨h2.1,h2.2.mono hk⟩
theorem RdS.less {K:ZN} {b:Nat} {lo:fT} {st:Option (List Rs)} {w:World} (h:RdS K b lo st w):RdS [] b lo st w:=by
 obtain⟨ra,rn,rc,wr,h1,h2⟩:=h;refine⟨ra,rn,rc,wr,h1,?_⟩;cases st with
 | none=>exact h2
 | some rs=>exact⟨h2.1,h2.2.mono (cM _ (fun y hy=>Xt hy))⟩
theorem afy {s:List Attr} {l:List cK} {f:ZI} {lo:fT} {n b:Nat} {st:Option (List Rs)} (cs:List cK) (vs0:List fM) (ca:OA) (cn cc:Nat) {w0:World} (w:World) (h:WU w0 s l f lo n) (hx:Ext w0 w) (hb:w0.heap.size<=b) (hs:RdS [] b lo st w) (hcr0:vG w0 cs vs0) (hrw:eE (mask w [b]) 10 fM.cells vs0 ca cn cc) (hp:∀x∈cs,PdR s l x) (hn:cn<=1000000) :
  Calls Tryz.prog 50 #[.pointer (some ⟨b,0,none⟩),.slice ca cn cc] w (aSn b lo (RF (CY s l f) cs st) cs.length w):=by
 have HM:=ai (fun (k:Nat) (hk:k<cs.length) (v:fM) (r:Rs) (rv:jf) W (hW:Ext w0 W) (hv:ij W cs[k] v) (hr:kC W r rv)=>anG (h.ext hW) (hp _ (aD hk)) hv hr);have qL:b<w.heap.size:=by obtain⟨_,_,_,_,h1,_⟩:=hs;exact bS h1
 obtain⟨A,hA⟩:∃A,A=CY s l f:=⟨_,rfl⟩
 rw[<-hA] at HM ⊢;have aUp:=ai hcr0;have yM:=ai hrw;have HN:=ai (show cn=cs.length by rw[hrw.1,hcr0.1]);have HX:=ai hx;have iO:=ai (And.intro hb qL);have wN:=ai hs;clear h hx hb hs hcr0 hrw hp hA qL;unfold fT.val jf.val at HM;go_enter Tryz.func50,Tryz.ntmps50
 go_wp2_with fail;go_loopw [5,12] (fun lv i wr=>∃(k:Nat) (vs:List fM) (F:List cK),i=.int .i64 k/\k<=cn/\F.length<=k/\vG w0 F vs/\wr.ownsRow w.heap.size 48 10 lv F.length (vs.flatMap fM.cells)/\ct [b] w wr/\RdS (rowOf lv) b lo ((RF A (cs.take k) st).map Prod.fst) wr/\∀q,RF A (cs.take k) st=some q->F=q.2) (fun _ i _=>cn - (intOf i).toNat)
 case atStart=>exact⟨0,[],[],rfl,by omega,by simp,⟨rfl,fun i h=>by simp at h⟩,a4' _ _ _ _,ct.refl _ _,by cases st<;>exact wN.o,fun q hq=>by
  cases st with
  | none=>cases hq
  | some rs =>
   have:(rs,([]:List cK))=q:=by simpa[RF] using hq
   rw[<-this]⟩
 case round =>
  obtain⟨k,vs,F,rfl,hk,hfl,hcr,how,hc,hst,hF⟩:=hrel;obtain⟨la,lc,hlv⟩:=lF how;subst hlv;have HST:=ai hst;have HC:=ai hc;have xW:=ai hcr;have HOW:=ai how;have HFX:=ai hF;clear hst hc hcr how hF;by_cases hkn:k<cn
  ·have fq:k<cs.length:=by have:=HN.o;omega
   have t1:=ag ((k:Int)<(cn:Int));have hkv:k<vs0.length:=by have:=aUp.o.1;omega
   obtain⟨cb,ld,rfl,hrow⟩:∃cb ld,ca=some ⟨cb,ld,none⟩/\EM (mask wr [b]) cb (ld+k*10) vs0[k].cells:=by
    obtain⟨b',o',e,h⟩:=(yM.o.mono (cF (N:=[b]) HC.o (fun y hy=>aoX hy))).2.2.2 k hkv;exact⟨b',o',e,h⟩
   have fO:=aUp.o.2 k fq hkv;obtain⟨v,hv⟩:∃v,v=vs0[k]:=⟨_,rfl⟩
   rw[<-hv] at hrow fO;clear hv;have qC:=ai fO;obtain⟨c0,c1,c2,c3,c4,c5,c6,c7,c8,c9⟩:=(hrow.mono (cC _ _)).BB;have OO:=ai (fun (r:Rs) (rv:jf) W (hW:ct [b] wr W) (hr:kC W r rv)=>HM.o k fq v r rv W (xP HX.o iO.o.1 (HC.o.then hW)) (fO.mono (xP HX.o iO.o.1 (HC.o.then hW)).sub) hr);have uF:=ai (show cs.take (k+1)=cs.take k++[cs[k]] from aO fq);have YJ:=ai (show cs=cs.take k++cs[k]::cs.drop (k+1) by rw[<-List.drop_eq_getElem_cons fq,List.take_append_drop]);obtain⟨y,hy⟩:∃y,y=cs[k]:=⟨_,rfl⟩
   have aUr:=ai (show ij w0 y v by rw[hy];exact qC.o);rw[<-hy] at OO uF YJ;clear hrow hy;obtain⟨bk,hbk⟩:∃bk,bk=wr.heap.size:=⟨_,rfl⟩
   obtain⟨wb,iV⟩:∃wb,wb=wr.alloc (.cells #[ v.kind,.string v.name,v.x.op,.string v.x.name,.slice v.x.aw v.x.nw v.x.cw,v.x.lo,v.x.hi,.slice v.x.aa v.x.na v.x.ca,.slice v.au v.nu v.cu,v.ck] 48):=⟨_,rfl⟩
   have hxb:Ext wr wb:=by rw[iV];exact(Tz _).alloc _
   have HBK:=ai (show wb.heap[bk]?=some (.cells #[ v.kind,.string v.name,v.x.op,.string v.x.name,.slice v.x.aw v.x.nw v.x.cw,v.x.lo,v.x.hi,.slice v.x.aa v.x.na v.x.ca,.slice v.au v.nu v.cu,v.ck] 48 (0,0)) by rw[iV,hbk];exact bR wr _);have si:=ai (HC.o.then (hxb.cR _));have jK:=ai hxb;have vt:=ai (show bk∉[b] by have:=iO.o.2;have:=HC.o.size;simp;omega);have Gj:=ai (SR wb (HST.o.cR hxb));go_upto_region 5 with fail;rw[<-iV,<-hbk];clear iV hbk hxb fO c0 c1 c2 c3 c4 c5 c6 c7 c8 c9;go_wp2_with fail;refine Gj.o.mono ?_;rintro e w1 ⟨hc1,⟨r,t,rv,hsk,rfl,hr,hst⟩|⟨hno,rfl,hst⟩⟩
   case' inr =>
    have HQ:=ai (show aSn b lo (RF A cs st) cs.length w (.returned (.slice none 0 0)) (w1.alloc (.cells #[.string ⟨#[]⟩,.bool false,.bool false,.int .i64 0,.slice none 0 0,.slice none 0 0] 69)) from⟨si.o.then (hc1.then (((Tz w1).alloc _).cR _)),[],none,0,rfl,⟨[],⟨rfl,aU _,aoX ⟨rfl,rfl⟩,fun i h=>by simp at h⟩,rfl,fun i h=>by simp at h⟩,by simp,by rw[axq hno YJ.o];exact(hst.cR ((Tz w1).alloc _)).less,by rw[axq hno YJ.o];intro q hq;cases hq⟩);clear hc1 hno hst;unfold zRs jf.val;go_wp2_with fail;go_ret;exact HQ.o
   obtain⟨X1,hX1⟩:∃X1,X1=apS A (RF A (cs.take k) st) y:=⟨_,rfl⟩
   have dN:=ai hX1;have zi:=ai (show X1=if xE A y r=true then some (t,if r.dg=true then F++[y] else F) else none by
    obtain⟨q,hq,hq2⟩:=Option.map_eq_some_iff.1 hsk;have:=HFX.o q hq;rw[hX1,hq,show q=(r::t,F) from Prod.ext hq2 this.symm]
    rfl)
   clear hsk hX1;obtain⟨xa,xn,xc,xw,j6,-,sq⟩:=id hst;have CA:=ai sq;obtain⟨rn,ra,rp,ra',rn',rc'⟩:=rv;unfold jf.val;go_upto_region 6 with fail;obtain⟨b6,lN⟩:∃b6,b6=w1.heap.size:=⟨_,rfl⟩
   obtain⟨w2,hw2⟩:∃w2,w2=w1.alloc (.cells #[.string rn,.bool ra,.bool rp.value,rp.pick,.slice rp.a rp.n rp.c,.slice ra' rn' rc'] 69):=⟨_,rfl⟩
   have hx2:Ext w1 w2:=by rw[hw2];exact(Tz _).alloc _
   have jO:=ai (show w2.heap[b6]?=some (.cells #[.string rn,.bool ra,.bool rp.value,rp.pick,.slice rp.a rp.n rp.c,.slice ra' rn' rc'] 69 (0,0)) by rw[hw2,lN];exact bR w1 _);have Yr:=ai (show b6∉[b]/\w.heap.size<=b6 by have:=iO.o.2;have:=si.o.size;have:=hc1.size;simp;omega);have iP:=ai (si.o.then (hc1.then (hx2.cR _)));have aGl:=ai (hx2.blk (hc1.blk HBK.o vt.o));have jm:=ai (hx2.blk j6);have M8:=ai (hst.cR hx2);have HRM:=ai (fun W (hW:ct [b] w2 W)=>sq.mono (cF ((hx2.cR [b]).then hW) (fun y hy=>aoX (Xt hy))));have Gl:=ai (show ra=r.dg from hr.app);rw[<-hw2,<-lN];have aok:=ai (fun W (hW:ct [b] w2 W)=>OO.o r ⟨rn,ra,rp,ra',rn',rc'⟩ W (((jK.o.cR [b]).then (hc1.then (hx2.cR _))).then hW) (kC.mono hr ((cF ((hx2.cR [b]).then hW) (fun y hy=>aoX (Xt hy))).trans (cC _ _))));have aF7:=ai (show ct [b] wr w2 from(jK.o.cR [b]).then (hc1.then (hx2.cR _)));clear hw2 lN hx2 hst hc1 hr j6 sq;go_upto_region 8 with fail;obtain⟨x0,x1,x2,x3,x4,xf⟩:=KT jm.o;obtain⟨r0,r1,r2,r3,r4,r5,rf⟩:=dH jO.o;obtain⟨f0,f1,f2,f3,f4,f5,f6,f7,f8,f9,ff⟩:=rK aGl.o;have C0:=Ut (b:=b) x0 (by decide);have C1:=Ut (b:=b) x1 (by decide);have C2:=Ut (b:=b) x2 (by decide);have R0:=lz r0 Yr.o.1;have R1:=lz r1 Yr.o.1;have R2:=lz r2 Yr.o.1;have R3:=lz r3 Yr.o.1;have R4:=lz r4 Yr.o.1;have R5:=lz r5 Yr.o.1;have F0:=lz f0 vt.o;have F1:=lz f1 vt.o;have F2:=lz f2 vt.o;have F3:=lz f3 vt.o;have F4:=lz f4 vt.o;have F5:=lz f5 vt.o;have F6:=lz f6 vt.o;have F7:=lz f7 vt.o;have F8:=lz f8 vt.o;have F9:=lz f9 vt.o;clear x0 x1 x2 x3 x4 xf r0 r1 r2 r3 r4 r5 rf f0 f1 f2 f3 f4 f5 f6 f7 f8 f9 ff;obtain⟨Z,hZ⟩:∃Z,Z=xE A y r:=⟨_,rfl⟩
   rw[<-hZ] at aok zi;clear hZ;cases Z
   ·have dI:=ai (show X1.map Prod.fst=none by rw[zi.o];rfl);have dS:=ai (show ∀q,X1=some q->(if r.dg=true then F++[y] else F)=q.2 by rw[zi.o];intro q hq;cases hq);refine kG (m:=14) (Er:=Db b) (C:=Db b w2) (Φ:=fun W=>W.heap[b]?=some (.cells #[.slice lo.sa lo.sn lo.sc,.map (some lo.bm),.slice lo.fa lo.fn lo.fc,.slice xa xn xc,.bool xw] 97 (0,0))) (Db.refl b) (fun _ _ h=>Db.ext h) (fun _ _ h q=>h.trans q) (Db.ext (Tz w2).drew) ((Tz w2).drew.blk jm.o) (fun _ _ hx h=>hx.blk h) ?_
    repeat first|(refine bZ ?_;intro K hK;go_big_quiet_op;go_big_quiet_on)|(refine uD rfl rfl ?_;intro K hK;go_simp;go_big_quiet_on)
    refine fZ (.bool false) (fun W=>W.heap[b]?=some (.cells #[.slice lo.sa lo.sn lo.sc,.map (some lo.bm),.slice lo.fa lo.fn lo.fc,.slice xa xn xc,.bool xw] 97 (0,0))) (fun W hW h _=>?_) (fun _ _ hx h=>hx.blk h) ?_
    ·unfold bQ;go_simp;refine(aok.o W hW.1).mono ?_;rintro e wz ⟨rfl,hz⟩;exact⟨_,rfl,Db.ext hz,rfl,hz.blk h⟩
    intro K hK;go_simp;go_big_quiet_on
    repeat first|(refine bZ ?_;intro K hK;go_big_quiet_op;go_big_quiet_on)|(refine uD rfl rfl ?_;intro K hK;go_simp;go_big_quiet_on)
    refine fZ undef (fun W=>RdS (rowOf (.slice la F.length lc)) b lo (X1.map Prod.fst) W) (fun W hW h _=>?_) (fun _ _ hx h=>h.cR hx) ?_
    ·obtain⟨z0,z1,z2,z3,z4,zf⟩:=KT h;have HP:=ai (afv (K:=(rowOf (.slice la F.length lc))) (q:=true) (st:=X1.map Prod.fst) h (by exact a4Z ⟨rfl,dI.o⟩));have HE:=ai (Db.put W b (.bool true));clear h;unfold bQ;go_simp;exact⟨HE.o,rfl,HP.o⟩
    intro K hK;go_simp;go_big_quiet_on;refine gC fun w4 gV hy4 _=>?_
    have oY:=ai hy4;have mo:=ai (show ct [b] w2 w4 from gV.1);clear gV hy4 C0 C1 C2 R0 R1 R2 R3 R4 R5 F0 F1 F2 F3 F4 F5 F6 F7 F8 F9;have Em:=ai (cO HOW.o (aF7.o.then mo.o) (fun q hq hm=>by rw[aG.1 hm] at hq;have:=(HOW.o.lt b hq).1;have:=iO.o.2;omega));have nS:=ai (iP.o.then mo.o);obtain⟨r0,r1,r2,r3,r4,r5,rf⟩:=dH (mo.o.blk jO.o Yr.o.1);obtain⟨f0,f1,f2,f3,f4,f5,f6,f7,f8,f9,ff⟩:=rK (mo.o.blk aGl.o vt.o);have hsz:=nS.o.size;cases ra
    ·go_wp2_with fail;go_roundw
     case rel=>exact⟨k+1,vs,F,by go_num,by omega,by omega,xW.o,Em.o,nS.o,by rw[uF.o,Ms,<-dN.o];exact oY.o,by
      rw[uF.o,Ms,<-dN.o];intro q hq;have:=dS.o q hq;rw[<-Gl.o] at this;simpa using this⟩
     case measure=>simp[intOf];omega
    go_wp2_with (at_builtin;refine dA nr rfl _ _ rfl w.heap.size _ F.length _ rfl Em.o _ 1 1 rfl ?f0 rfl ?f1 ?f2 ?f3 hsz ?_)
    case f0=>simp
    case f1=>simp[Value.oneCell']
    case f2=>unfold maxLen;omega
    case f3=>omega
    intro v8 w8 dY iI gX;have zo:=ai dY;have CM:=ai (show ct [b] w w8 from nS.o.trans iI (fun q hq=>a4Z (Em.o.lt q (bV.1 hq)).1));have Ik:=ai (awB oY.o iI gX (fun q hq=>by have:=(Em.o.lt q (bV.1 hq)).1;have:=iO.o.2;omega));clear dY iI gX f0 f1 f2 f3 f4 f5 f6 f7 f8 f9 ff;go_wp2_with fail;go_roundw
    case rel=>exact⟨k+1,vs++[v],F++[y],by go_num,by omega,by simp;omega,xW.o.snoc aUr.o,by simpa[fM.cells] using zo.o,CM.o,by rw[uF.o,Ms,<-dN.o];exact Ik.o,by
     rw[uF.o,Ms,<-dN.o];intro q hq;have:=dS.o q hq;rw[<-Gl.o] at this;simpa using this⟩
    case measure=>simp[intOf];omega
   have dI:=ai (show X1.map Prod.fst=some t by rw[zi.o];rfl);have dS:=ai (show ∀q,X1=some q->(if r.dg=true then F++[y] else F)=q.2 by
    rw[zi.o];intro q hq;have e:(t,if r.dg=true then F++[y] else F)=q:=by simpa using hq
    rw[<-e])
   refine kG (m:=14) (Er:=Db b) (C:=Db b w2) (Φ:=fun W=>W.heap[b]?=some (.cells #[.slice lo.sa lo.sn lo.sc,.map (some lo.bm),.slice lo.fa lo.fn lo.fc,.slice xa xn xc,.bool xw] 97 (0,0))) (Db.refl b) (fun _ _ h=>Db.ext h) (fun _ _ h q=>h.trans q) (Db.ext (Tz w2).drew) ((Tz w2).drew.blk jm.o) (fun _ _ hx h=>hx.blk h) ?_
   repeat first|(refine bZ ?_;intro K hK;go_big_quiet_op;go_big_quiet_on)|(refine uD rfl rfl ?_;intro K hK;go_simp;go_big_quiet_on)
   refine fZ (.bool true) (fun W=>W.heap[b]?=some (.cells #[.slice lo.sa lo.sn lo.sc,.map (some lo.bm),.slice lo.fa lo.fn lo.fc,.slice xa xn xc,.bool xw] 97 (0,0))) (fun W hW h _=>?_) (fun _ _ hx h=>hx.blk h) ?_
   ·unfold bQ;go_simp;refine(aok.o W hW.1).mono ?_;rintro e wz ⟨rfl,hz⟩;exact⟨_,rfl,Db.ext hz,rfl,hz.blk h⟩
   intro K hK;go_simp;go_big_quiet_on
   repeat first|(refine bZ ?_;intro K hK;go_big_quiet_op;go_big_quiet_on)|(refine uD rfl rfl ?_;intro K hK;go_simp;go_big_quiet_on)
   refine fZ undef (fun W=>RdS (rowOf (.slice la F.length lc)) b lo (X1.map Prod.fst) W) (fun W hW h _=>?_) (fun _ _ hx h=>h.cR hx) ?_
   ·obtain⟨z0,z1,z2,z3,z4,zf⟩:=KT h;have HP:=ai (afv (K:=(rowOf (.slice la F.length lc))) (q:=false) (st:=X1.map Prod.fst) h (by exact aoX ⟨rfl,t,dI.o,HRM.o W hW.1⟩));have HE:=ai (Db.put W b (.bool false));clear h;unfold bQ;go_simp;exact⟨HE.o,rfl,HP.o⟩
   intro K hK;go_simp;go_big_quiet_on;refine gC fun w4 gV hy4 _=>?_
   have oY:=ai hy4;have mo:=ai (show ct [b] w2 w4 from gV.1);clear gV hy4 C0 C1 C2 R0 R1 R2 R3 R4 R5 F0 F1 F2 F3 F4 F5 F6 F7 F8 F9;have Em:=ai (cO HOW.o (aF7.o.then mo.o) (fun q hq hm=>by rw[aG.1 hm] at hq;have:=(HOW.o.lt b hq).1;have:=iO.o.2;omega));have nS:=ai (iP.o.then mo.o);obtain⟨r0,r1,r2,r3,r4,r5,rf⟩:=dH (mo.o.blk jO.o Yr.o.1);obtain⟨f0,f1,f2,f3,f4,f5,f6,f7,f8,f9,ff⟩:=rK (mo.o.blk aGl.o vt.o);have hsz:=nS.o.size;cases ra
   ·go_wp2_with fail;go_roundw
    case rel=>exact⟨k+1,vs,F,by go_num,by omega,by omega,xW.o,Em.o,nS.o,by rw[uF.o,Ms,<-dN.o];exact oY.o,by
     rw[uF.o,Ms,<-dN.o];intro q hq;have:=dS.o q hq;rw[<-Gl.o] at this;simpa using this⟩
    case measure=>simp[intOf];omega
   go_wp2_with (at_builtin;refine dA nr rfl _ _ rfl w.heap.size _ F.length _ rfl Em.o _ 1 1 rfl ?p0 rfl ?p1 ?p2 ?p3 hsz ?_)
   case p0=>simp
   case p1=>simp[Value.oneCell']
   case p2=>unfold maxLen;omega
   case p3=>omega
   intro v8 w8 dY iI gX;have zo:=ai dY;have CM:=ai (show ct [b] w w8 from nS.o.trans iI (fun q hq=>a4Z (Em.o.lt q (bV.1 hq)).1));have Ik:=ai (awB oY.o iI gX (fun q hq=>by have:=(Em.o.lt q (bV.1 hq)).1;have:=iO.o.2;omega));clear dY iI gX f0 f1 f2 f3 f4 f5 f6 f7 f8 f9 ff;go_wp2_with fail;go_roundw
   case rel=>exact⟨k+1,vs++[v],F++[y],by go_num,by omega,by simp;omega,xW.o.snoc aUr.o,by simpa[fM.cells] using zo.o,CM.o,by rw[uF.o,Ms,<-dN.o];exact Ik.o,by
    rw[uF.o,Ms,<-dN.o];intro q hq;have:=dS.o q hq;rw[<-Gl.o] at this;simpa using this⟩
   case measure=>simp[intOf];omega
  have t1:=ah ((k:Int)<(cn:Int));have HQ:=ai (show cs.take k=cs from aS (by have:=HN.o;omega));have vC:=xW.o.1;have hown:=HOW.o;rw[vC] at hown;obtain⟨a',c',hv,hr⟩:=eE.iZ fM.len hown;simp only[a45] at hv;obtain⟨rfl,-,rfl⟩:=hv;have WR:=ai (show cZ wr F la F.length lc from⟨vs,by rw[vC];exact hr,vC,fun i q1 q2=>(xW.o.2 i q1 q2).mono (xP HX.o iO.o.1 HC.o).sub⟩);clear hown hr vC;go_wp2_with fail;go_ret;exact⟨HC.o,F,_,_,rfl,WR.o,by have:=HN.o;omega,by have:=HST.o.less;rwa [HQ.o] at this,by have:=HFX.o;rwa [HQ.o] at this⟩
theorem DV (l:List cK) (a:OA) (n c:Nat) {w0:World} (w:World) (hl:cZ w0 l a n c) (h0:Ext w0 w) (hn:n<=1000000) :
  Calls Tryz.prog 29 #[.slice a n c] w (acd [2] l w0 w):=by
 have HX:=ai ((Tz w).alloc (.cells #[.int .i64 2] 3));have HOF:=ai (NR l [2] a n c (some ⟨w.heap.size,0,none⟩) 1 1 (w.alloc (.cells #[.int .i64 2] 3)) hl (h0.trans HX.o) hn (xI rfl) (by omega));clear hl h0;go_enter Tryz.func29,Tryz.ntmps29
 go_wp2_with fail;refine HOF.o.mono ?_;rintro r w1 ⟨u,vs,a',c',hu,rfl,h0,h1,h2⟩;have HQ:=ai (show acd [2] l w0 w (.returned (.slice a' u.length c')) w1 from⟨u,vs,a',c',hu,rfl,h0,h1.mono (cM _ (fun y hy=>by have:=HX.o.size;rw[a43] at hy ⊢;omega)),HX.o.trans h2⟩);clear hu h0 h1 h2;go_wp2_with fail;go_ret;exact HQ.o
theorem B9 (l:List cK) (a:OA) (n c:Nat) {w0:World} (w:World) (hl:cZ w0 l a n c) (h0:Ext w0 w) (hn:n<=1000000) :
  Calls Tryz.prog 30 #[.slice a n c] w (acd [4] l w0 w):=by
 have HX:=ai ((Tz w).alloc (.cells #[.int .i64 4] 3));have HOF:=ai (NR l [4] a n c (some ⟨w.heap.size,0,none⟩) 1 1 (w.alloc (.cells #[.int .i64 4] 3)) hl (h0.trans HX.o) hn (xI rfl) (by omega));clear hl h0;go_enter Tryz.func30,Tryz.ntmps30
 go_wp2_with fail;refine HOF.o.mono ?_;rintro r w1 ⟨u,vs,a',c',hu,rfl,h0,h1,h2⟩;have HQ:=ai (show acd [4] l w0 w (.returned (.slice a' u.length c')) w1 from⟨u,vs,a',c',hu,rfl,h0,h1.mono (cM _ (fun y hy=>by have:=HX.o.size;rw[a43] at hy ⊢;omega)),HX.o.trans h2⟩);clear hu h0 h1 h2;go_wp2_with fail;go_ret;exact HQ.o
theorem KQ (l:List cK) (a:OA) (n c:Nat) {w0:World} (w:World) (hl:cZ w0 l a n c) (h0:Ext w0 w) (hn:n<=1000000) :
  Calls Tryz.prog 31 #[.slice a n c] w (acd [3] l w0 w):=by
 have HX:=ai ((Tz w).alloc (.cells #[.int .i64 3] 3));have HOF:=ai (NR l [3] a n c (some ⟨w.heap.size,0,none⟩) 1 1 (w.alloc (.cells #[.int .i64 3] 3)) hl (h0.trans HX.o) hn (xI rfl) (by omega));clear hl h0;go_enter Tryz.func31,Tryz.ntmps31
 go_wp2_with fail;refine HOF.o.mono ?_;rintro r w1 ⟨u,vs,a',c',hu,rfl,h0,h1,h2⟩;have HQ:=ai (show acd [3] l w0 w (.returned (.slice a' u.length c')) w1 from⟨u,vs,a',c',hu,rfl,h0,h1.mono (cM _ (fun y hy=>by have:=HX.o.size;rw[a43] at hy ⊢;omega)),HX.o.trans h2⟩);clear hu h0 h1 h2;go_wp2_with fail;go_ret;exact HQ.o
theorem yB {ks:ZI} {l:List cK} {w0 w w':World} {r:Ending} {b:Nat} (h:acd ks l w0 w r w') (hx:Ext w0 w) (hb:b<w.heap.size) (h0:w0.heap.size<=b):∃vs a c,r=.returned (.slice a (kS ks l).length c)/\vG w0 (kS ks l) vs/\eE (mask w' [b]) 10 fM.cells vs a (kS ks l).length c/\cZ (mask w' [b]) (kS ks l) a (kS ks l).length c/\Ext w w':=by
 obtain⟨u,vs,a,c,rfl,h2,h3,h4,h5⟩:=h;have h6:eE (mask w' [b]) 10 fM.cells vs a (kS ks l).length c:=h4.mono (cM _ (fun y hy=>by rw[aG.1 hy];simpa using hb));exact⟨vs,a,c,h2,h3,h6,⟨vs,h6,h3.1,fun i q1 q2=>(h3.2 i q1 q2).mono (ajV (hx.trans h5) h0)⟩,h5⟩
theorem ad2 {b:Nat} {lo:fT} {st:Option (List Rs)} {w:World} (h:RdS [] b lo st w):∃(xa:OA) (xn xc:Nat) (xw:Bool),w.heap[b]?=some (.cells #[.slice lo.sa lo.sn lo.sc,.map (some lo.bm),.slice lo.fa lo.fn lo.fc,.slice xa xn xc,.bool xw] 97 (0,0))/\((xw=true/\Ri st=false)\/(xw=false/\xn≠0/\Ri st=false)\/(xw=false/\xn=0/\Ri st=true)):=by
 obtain⟨xa,xn,xc,xw,h1,h2⟩:=h;refine⟨xa,xn,xc,xw,h1,?_⟩
 match st,h2 with
 | none,h=>exact aoX ⟨h,rfl⟩
 | some [],h=>exact a4Z (a4Z ⟨h.1,h.2.ln,rfl⟩)
 | some (r::t),h=>exact a4Z (aoX ⟨h.1,by rw[h.2.ln];simp,rfl⟩)
noncomputable def aGI (s:List Attr) (l:List cK) (f:ZI) (d:rT) (rs:List Rs):Bool:=if jP s l f=0 then Lj (CY s l f) l d rs else false
theorem ai' (s:List Attr) (l:List cK) (f:ZI) (sv:Value) (a:OA) (n c:Nat) (fa:OA) (fn fc:Nat) (d:rT) (rs:List Rs) (ra:OA) (rn rc:Nat) (w:World) (hs:dB w s sv) (hf:∀x∈s,x.fits) (hsl:s.length<=1000000000000000) (hl:cZ w l a n c) (hn:n<=1000000) (hok:∀x∈l,x.fit) (hi:dG w f fa fn) (hfn:fn<=1000000000000000) (ho:dQ w) (hr:iE w rs ra rn rc) :
  Calls Tryz.prog 23 #[sv,.slice a n c,.slice fa fn fc,.agg #[ d.oP,d.lim,d.xV,d.xU,d.xN,.bool d.Bt,.slice ra rn rc]] w (cz (.bool (aGI s l f d rs)) w):=by
 obtain⟨sa,sn,sc,rfl,B6⟩:=hs.slice;have qw:=ai (fun W (hW:Ext w W)=>KM s l f _ a n c fa fn fc W (hs.ext hW) hf hsl (hl.ext hW) hn hok (hi.ext hW) hfn (ho.ext hW));have HDI:=ai (fun (h0:jP s l f=0) (lv:fT) W (hW:Ext w W) (h:AA W s l f lv n)=>show WU W s l f lv n from⟨h,(qN h0).1,(qN h0).2,hf,hok,by have h1:=h.ints.1;have h2:=hi.1;omega,ho.ext hW⟩);have Nj:=ai (fun (h0:jP s l f=0)=>aul (qN h0).1 hok);have tY:=ai (fun (ks:ZI)=>show (kS ks l).length<=1000000 from aV (amP ks l) (by rw[<-hl.len];exact hn));have HL:=ai hl;have qY:=ai hn;have HR:=ai hr;obtain⟨E,hE⟩:∃E,E=jP s l f:=⟨_,rfl⟩
 obtain⟨Z,hZ⟩:∃Z,Z=aGI s l f d rs:=⟨_,rfl⟩
 rw[<-hZ];unfold aGI at hZ;unfold as2 at qw;rw[<-hE] at qw HDI Nj hZ;have HZ:=ai hZ;clear hs hf hsl hl hn hok hi hfn ho B6 hE hZ hr;obtain⟨b7,hb7⟩:∃b7,b7=w.heap.size+1:=⟨_,rfl⟩
 obtain⟨wa,cN⟩:∃wa,wa=(w.alloc (.cells #[.slice sa sn sc] 24)).alloc (.cells #[ d.oP,d.lim,d.xV,d.xU,d.xN,.bool d.Bt,.slice ra rn rc] 57):=⟨_,rfl⟩
 have dm:=ai (show Ext w wa by rw[cN];exact((Tz _).alloc _).alloc _);have HA:=ai (show wa.heap[b7]?=some (.cells #[ d.oP,d.lim,d.xV,d.xU,d.xN,.bool d.Bt,.slice ra rn rc] 57 (0,0)) by rw[cN,hb7];exact cT (by simp));obtain⟨s0,sf⟩:=dO (show wa.heap[w.heap.size]?=some (.cells #[.slice sa sn sc] 24 (0,0)) by rw[cN];exact bU (bR w _));go_enter Tryz.func23,Tryz.ntmps23
 go_upto_region 1 with fail;rw[<-cN,<-hb7];clear cN hb7;go_wp2_with fail;refine(qw.o wa dm.o).mono ?_;rintro r w1 ⟨hx1,hr⟩;have dI:=ai (dm.o.trans hx1);have HB:=ai (hx1.blk HA.o);clear hx1 HA dm qw s0 sf;rcases hr with ⟨h1,rfl⟩|⟨h1,lo,rfl,aq5⟩
 ·have t1:(E != 0)=true:=by simp[h1]
  have HQ:=ai (show Z=false by rw[HZ.o,bL h1]);unfold oM;clear h1;go_wp2_with fail;go_ret;exact bW HQ.o.symm (dI.o.alloc _)
 have t1:(E != 0)=false:=by simp[h1]
 have HPD:=ai (Nj.o h1);have IE:=ai (show Z=Lj (CY s l f) l d rs by rw[HZ.o,bM h1]);have tU:=ai (HDI.o h1 lo w1 dI.o aq5);obtain⟨A,hA⟩:∃A,A=CY s l f:=⟨_,rfl⟩
 rw[<-hA] at IE;have HAA:=ai hA;clear h1 aq5 Nj HZ HDI hA;unfold fT.val;obtain⟨w2,hw2⟩:∃w2,w2=w1.alloc (.cells #[.slice lo.sa lo.sn lo.sc,.map (some lo.bm),.slice lo.fa lo.fn lo.fc] 74):=⟨_,rfl⟩
 have dN:=ai (show Ext w1 w2 by rw[hw2];exact(Tz _).alloc _);have A4:=ai (show w2.heap[w1.heap.size]?=some (.cells #[.slice lo.sa lo.sn lo.sc,.map (some lo.bm),.slice lo.fa lo.fn lo.fc] 74 (0,0)) by rw[hw2];exact bR w1 _);go_upto_region 2 with fail;rw[<-hw2];clear hw2;obtain⟨x0,x1,x2,xf⟩:=dM A4.o;obtain⟨d0,d1,d2,d3,d4,d5,d6,df⟩:=gR (dN.o.blk HB.o);go_upto_region 5 with fail;obtain⟨b,hb⟩:∃b,b=w2.heap.size:=⟨_,rfl⟩
 obtain⟨w3,hw3⟩:∃w3,w3=w2.alloc (.cells #[.slice lo.sa lo.sn lo.sc,.map (some lo.bm),.slice lo.fa lo.fn lo.fc,.slice ra rn rc,.bool false] 97):=⟨_,rfl⟩
 have dS:=ai (show Ext w2 w3 by rw[hw3];exact(Tz _).alloc _);have nL:=ai (show w3.heap[b]?=some (.cells #[.slice lo.sa lo.sn lo.sc,.map (some lo.bm),.slice lo.fa lo.fn lo.fc,.slice ra rn rc,.bool false] 97 (0,0)) by rw[hw3,hb];exact bR w2 _);rw[<-hw3,<-hb];have wH:=ai (show w1.heap.size<=b/\w.heap.size<=b by have h1:=dN.o.size;have h2:=dI.o.size;rw[hb];omega);clear hw3 hb x0 x1 x2 xf d0 d1 d2 d3 d4 d5 d6 df;obtain⟨d0,d1,d2,d3,d4,d5,d6,df⟩:=gR (dS.o.blk (dN.o.blk HB.o));go_upto_region 6 with fail;obtain⟨bq,hbq⟩:∃bq,bq=w3.heap.size:=⟨_,rfl⟩
 obtain⟨w4,hw4⟩:∃w4,w4=w3.alloc (.cells #[ d.oP,.int .i64 0,.int .i64 0,.int .i64 0,.int .i64 0,.bool false] 29):=⟨_,rfl⟩
 have gV:Ext w3 w4:=by rw[hw4];exact(Tz _).alloc _
 have HQ4:=ai (show w4.heap[bq]?=some (.cells #[ d.oP,.int .i64 0,.int .i64 0,.int .i64 0,.int .i64 0,.bool false] 29 (0,0)) by rw[hw4,hbq];exact bR w3 _);have qz:=ai ((dN.o.trans dS.o).trans gV);have jl:=ai (dI.o.trans qz.o);have CJ:=ai (qz.o.blk HB.o);have oY:=ai (show RdS [] b lo (some rs) w4 from⟨ra,rn,rc,false,gV.blk nL.o,rfl,HR.o.mono (ajV jl.o wH.o.2)⟩);have jL:=ai (show b<w4.heap.size/\bq∉[b]/\b7∉[b]/\w1.heap.size<=bq/\b7≠bq by
  have h1:=bS nL.o;have h2:=gV.size;have h3:=bS HB.o;have h4:=wH.o.1;have h5:=dN.o.size;have h6:=dS.o.size;rw[hbq];simp;omega)
 rw[<-hw4,<-hbq];clear hw4 hbq gV d0 d1 d2 d3 d4 d5 d6 df A4 dN dS nL HB HR;obtain⟨d0,d1,d2,d3,d4,d5,d6,df⟩:=gR CJ.o;clear d0 d1 d2 d3 d4 d5 d6 df;have adV:=ai jL.o.1;obtain⟨d0,d1,d2,d3,d4,d5,d6,df⟩:=gR CJ.o;by_cases hv1:d.oP=1
 case pos =>
  have t2:(d.oP==1)=true:=by simp[hv1]
  go_wp2_with fail;refine(DV l a n c (w0:=w1) w4 (HL.o.ext dI.o) qz.o qY.o).mono ?_;rintro r v4 hq;obtain⟨vs4,ca4,cc4,rfl,hcr,hrw,hic,qV⟩:=yB hq qz.o adV.o wH.o.1;have HT4:=ai (IP (kS [2] l) ca4 _ cc4 false v4 tU.o (qz.o.trans qV) wH.o.1 (oY.o.cR qV) hic (fun x hx=>HPD.o x (BI hx)) (tY.o [2]));rw[<-HAA.o] at HT4;have YE:=ai qV;clear hq hcr hrw hic qV;go_wp2_with fail;refine HT4.o.mono ?_;rintro r w5 ⟨rfl,hc,hst⟩;have nA:=ai hst;have hc2:=(YE.o.cR [b]).then hc
  have AB:=ai (xP qz.o wH.o.1 hc2);have VQ:=ai (show b<w5.heap.size by have h1:=adV.o;have h2:=hc2.size;omega);have HQ5:=ai (hc2.blk HQ4.o jL.o.2.1);have uV:=ai (hc2.blk CJ.o jL.o.2.2.1);clear hc hst hc2 HT4 YE qz adV HQ4 CJ oY;obtain⟨xa,xn,xc,xw,j6,hdn⟩:=ad2 nA.o;obtain⟨k0,k1,k2,k3,k4,kf⟩:=KT j6;obtain⟨q0,q1,q2,q3,q4,q5,qf⟩:=dH HQ5.o;obtain⟨d0,d1,d2,d3,d4,d5,d6,df⟩:=gR uV.o;have zi:=ai (dI.o.trans AB.o);have HZF:=ai (show Z=(Ri (oq A (kS [2] l) false (some rs))&&d.eqB ⟨1,0,0,0,0,false⟩) by rw[IE.o];unfold Lj;rw[bM hv1]);clear HQ5 uV AB j6;rcases hdn with ⟨rfl,hd⟩|⟨rfl,hn0,hd⟩|⟨rfl,rfl,hd⟩
  ·have HF:=ai (show Z=false by rw[HZF.o,hd];rfl);clear hd;go_wp2_with fail;go_ret;exact bW HF.o.symm zi.o
  ·have HF:=ai (show Z=false by rw[HZF.o,hd];rfl);have t3:((xn:Int)==0)=false:=by simp;omega
   clear hd hn0;go_wp2_with fail;go_ret;exact bW HF.o.symm zi.o
  have HF:=ai (show Z=d.eqB ⟨1,0,0,0,0,false⟩ by rw[HZF.o,hd];rfl);clear hd;go_wp2_with fail
  all_goals
   go_ret;exact bW (by rw[HF.o];simp[rT.eqB, *]) zi.o
 by_cases hv2:d.oP=2
 case pos =>
  have t1:(d.oP==1)=false:=by simp[hv2]
  have t2:(d.oP==2)=true:=by simp[hv2]
  go_wp2_with fail;refine(DV l a n c (w0:=w1) w4 (HL.o.ext dI.o) qz.o qY.o).mono ?_;rintro r v4 hq;obtain⟨vs4,ca4,cc4,rfl,hcr,hrw,hic,qV⟩:=yB hq qz.o adV.o wH.o.1;have HT4:=ai (J4 (kS [2] l) ca4 _ cc4 true v4 tU.o (qz.o.trans qV) wH.o.1 (oY.o.cR qV) hic (fun x hx=>HPD.o x (BI hx)) (tY.o [2]));rw[<-HAA.o] at HT4;have YE:=ai qV;clear hq hcr hrw hic qV;go_wp2_with fail;refine HT4.o.mono ?_;rintro r w5 ⟨rfl,hc,hst⟩;have nA:=ai hst;have hc2:=(YE.o.cR [b]).then hc
  have AB:=ai (xP qz.o wH.o.1 hc2);have VQ:=ai (show b<w5.heap.size by have h1:=adV.o;have h2:=hc2.size;omega);have HQ5:=ai (hc2.blk HQ4.o jL.o.2.1);have uV:=ai (hc2.blk CJ.o jL.o.2.2.1);clear hc hst hc2 HT4 YE qz adV HQ4 CJ oY;go_wp2_with fail;refine(B9 l a n c (w0:=w1) w5 (HL.o.ext dI.o) AB.o qY.o).mono ?_;rintro r v5 hq;obtain⟨vs5,ca5,cc5,rfl,hcr,hrw,hic,qV⟩:=yB hq AB.o VQ.o wH.o.1;have HT5:=ai (J4 (kS [4] l) ca5 _ cc5 false v5 tU.o (AB.o.trans qV) wH.o.1 (nA.o.cR qV) hic (fun x hx=>HPD.o x (BI hx)) (tY.o [4]));rw[<-HAA.o] at HT5;have HV5:=ai qV;clear hq hcr hrw hic qV;go_wp2_with fail;refine HT5.o.mono ?_;rintro r w6 ⟨rfl,hc,hst⟩;have vE:=ai hst;have hc2:=(HV5.o.cR [b]).then hc
  have Ey:=ai (xP AB.o wH.o.1 hc2);have asT:=ai (show b<w6.heap.size by have h1:=VQ.o;have h2:=hc2.size;omega);have HQ6:=ai (hc2.blk HQ5.o jL.o.2.1);have ER:=ai (hc2.blk uV.o jL.o.2.2.1);clear hc hst hc2 HT5 HV5 AB VQ HQ5 uV nA;obtain⟨xa,xn,xc,xw,j6,hdn⟩:=ad2 vE.o;obtain⟨k0,k1,k2,k3,k4,kf⟩:=KT j6;obtain⟨q0,q1,q2,q3,q4,q5,qf⟩:=dH HQ6.o;obtain⟨d0,d1,d2,d3,d4,d5,d6,df⟩:=gR ER.o;have zi:=ai (dI.o.trans Ey.o);have HZF:=ai (show Z=(Ri (Ht A (kS [4] l) false (Ht A (kS [2] l) true (some rs)))&&d.eqB ⟨2,0,0,0,0,false⟩) by rw[IE.o];unfold Lj;rw[bL hv1,bM hv2]);clear HQ6 ER Ey j6;rcases hdn with ⟨rfl,hd⟩|⟨rfl,hn0,hd⟩|⟨rfl,rfl,hd⟩
  ·have HF:=ai (show Z=false by rw[HZF.o,hd];rfl);clear hd;go_wp2_with fail;go_ret;exact bW HF.o.symm zi.o
  ·have HF:=ai (show Z=false by rw[HZF.o,hd];rfl);have t3:((xn:Int)==0)=false:=by simp;omega
   clear hd hn0;go_wp2_with fail;go_ret;exact bW HF.o.symm zi.o
  have HF:=ai (show Z=d.eqB ⟨2,0,0,0,0,false⟩ by rw[HZF.o,hd];rfl);clear hd;go_wp2_with fail
  all_goals
   go_ret;exact bW (by rw[HF.o];simp[rT.eqB, *]) zi.o
 by_cases hv3:d.oP=3
 case pos =>
  have t1:(d.oP==1)=false:=by simp[hv3]
  have t2:(d.oP==2)=false:=by simp[hv3]
  have t3:(d.oP==3)=true:=by simp[hv3]
  go_wp2_with fail;refine(DV l a n c (w0:=w1) w4 (HL.o.ext dI.o) qz.o qY.o).mono ?_;rintro r v4 hq;obtain⟨vs4,ca4,cc4,rfl,hcr,hrw,hic,qV⟩:=yB hq qz.o adV.o wH.o.1;have HT4:=ai (J4 (kS [2] l) ca4 _ cc4 true v4 tU.o (qz.o.trans qV) wH.o.1 (oY.o.cR qV) hic (fun x hx=>HPD.o x (BI hx)) (tY.o [2]));rw[<-HAA.o] at HT4;have YE:=ai qV;clear hq hcr hrw hic qV;go_wp2_with fail;refine HT4.o.mono ?_;rintro r w5 ⟨rfl,hc,hst⟩;have nA:=ai hst;have hc2:=(YE.o.cR [b]).then hc
  have AB:=ai (xP qz.o wH.o.1 hc2);have VQ:=ai (show b<w5.heap.size by have h1:=adV.o;have h2:=hc2.size;omega);have HQ5:=ai (hc2.blk HQ4.o jL.o.2.1);have uV:=ai (hc2.blk CJ.o jL.o.2.2.1);clear hc hst hc2 HT4 YE qz adV HQ4 CJ oY;go_wp2_with fail;refine(B9 l a n c (w0:=w1) w5 (HL.o.ext dI.o) AB.o qY.o).mono ?_;rintro r v5 hq;obtain⟨vs5,ca5,cc5,rfl,hcr,hrw,hic,qV⟩:=yB hq AB.o VQ.o wH.o.1;have HT5:=ai (IP (kS [4] l) ca5 _ cc5 true v5 tU.o (AB.o.trans qV) wH.o.1 (nA.o.cR qV) hic (fun x hx=>HPD.o x (BI hx)) (tY.o [4]));rw[<-HAA.o] at HT5;have HV5:=ai qV;clear hq hcr hrw hic qV;go_wp2_with fail;refine HT5.o.mono ?_;rintro r w6 ⟨rfl,hc,hst⟩;have vE:=ai hst;have hc2:=(HV5.o.cR [b]).then hc
  have Ey:=ai (xP AB.o wH.o.1 hc2);have asT:=ai (show b<w6.heap.size by have h1:=VQ.o;have h2:=hc2.size;omega);have HQ6:=ai (hc2.blk HQ5.o jL.o.2.1);have ER:=ai (hc2.blk uV.o jL.o.2.2.1);clear hc hst hc2 HT5 HV5 AB VQ HQ5 uV nA;go_wp2_with fail;refine(KQ l a n c (w0:=w1) w6 (HL.o.ext dI.o) Ey.o qY.o).mono ?_;rintro r v6 hq;obtain⟨vs6,ca6,cc6,rfl,hcr,hrw,hic,qV⟩:=yB hq Ey.o asT.o wH.o.1;have HT6:=ai (J4 (kS [3] l) ca6 _ cc6 true v6 tU.o (Ey.o.trans qV) wH.o.1 (vE.o.cR qV) hic (fun x hx=>HPD.o x (BI hx)) (tY.o [3]));rw[<-HAA.o] at HT6;have HV6:=ai qV;clear hq hcr hrw hic qV;go_wp2_with fail;refine HT6.o.mono ?_;rintro r w7 ⟨rfl,hc,hst⟩;have JG:=ai hst;have hc2:=(HV6.o.cR [b]).then hc
  have ahX:=ai (xP Ey.o wH.o.1 hc2);have aOX:=ai (show b<w7.heap.size by have h1:=asT.o;have h2:=hc2.size;omega);have HQ7:=ai (hc2.blk HQ6.o jL.o.2.1);have EP:=ai (hc2.blk ER.o jL.o.2.2.1);clear hc hst hc2 HT6 HV6 Ey asT HQ6 ER vE;obtain⟨xa,xn,xc,xw,j6,hdn⟩:=ad2 JG.o;obtain⟨k0,k1,k2,k3,k4,kf⟩:=KT j6;obtain⟨q0,q1,q2,q3,q4,q5,qf⟩:=dH HQ7.o;obtain⟨d0,d1,d2,d3,d4,d5,d6,df⟩:=gR EP.o;have zi:=ai (dI.o.trans ahX.o);have HZF:=ai (show Z=(Ri (Ht A (kS [3] l) true (oq A (kS [4] l) true (Ht A (kS [2] l) true (some rs))))&&d.eqB ⟨3,0,0,0,0,false⟩) by rw[IE.o];unfold Lj;rw[bL hv1,bL hv2,bM hv3]);clear HQ7 EP ahX j6;rcases hdn with ⟨rfl,hd⟩|⟨rfl,hn0,hd⟩|⟨rfl,rfl,hd⟩
  ·have HF:=ai (show Z=false by rw[HZF.o,hd];rfl);clear hd;go_wp2_with fail;go_ret;exact bW HF.o.symm zi.o
  ·have HF:=ai (show Z=false by rw[HZF.o,hd];rfl);have t3:((xn:Int)==0)=false:=by simp;omega
   clear hd hn0;go_wp2_with fail;go_ret;exact bW HF.o.symm zi.o
  have HF:=ai (show Z=d.eqB ⟨3,0,0,0,0,false⟩ by rw[HZF.o,hd];rfl);clear hd;go_wp2_with fail
  all_goals
   go_ret;exact bW (by rw[HF.o];simp[rT.eqB, *]) zi.o
 by_cases hv4:d.oP=4
 case pos =>
  have t1:(d.oP==1)=false:=by simp[hv4]
  have t2:(d.oP==2)=false:=by simp[hv4]
  have t3:(d.oP==3)=false:=by simp[hv4]
  have t4:(d.oP==4)=true:=by simp[hv4]
  go_wp2_with fail;refine(DV l a n c (w0:=w1) w4 (HL.o.ext dI.o) qz.o qY.o).mono ?_;rintro r v4 hq;obtain⟨vs4,ca4,cc4,rfl,hcr,hrw,hic,qV⟩:=yB hq qz.o adV.o wH.o.1;have HT4:=ai (J4 (kS [2] l) ca4 _ cc4 true v4 tU.o (qz.o.trans qV) wH.o.1 (oY.o.cR qV) hic (fun x hx=>HPD.o x (BI hx)) (tY.o [2]));rw[<-HAA.o] at HT4;have YE:=ai qV;clear hq hcr hrw hic qV;go_wp2_with fail;refine HT4.o.mono ?_;rintro r w5 ⟨rfl,hc,hst⟩;have nA:=ai hst;have hc2:=(YE.o.cR [b]).then hc
  have AB:=ai (xP qz.o wH.o.1 hc2);have VQ:=ai (show b<w5.heap.size by have h1:=adV.o;have h2:=hc2.size;omega);have HQ5:=ai (hc2.blk HQ4.o jL.o.2.1);have uV:=ai (hc2.blk CJ.o jL.o.2.2.1);clear hc hst hc2 HT4 YE qz adV HQ4 CJ oY;go_wp2_with fail;refine(B9 l a n c (w0:=w1) w5 (HL.o.ext dI.o) AB.o qY.o).mono ?_;rintro r v5 hq;obtain⟨vs5,ca5,cc5,rfl,hcr,hrw,hic,qV⟩:=yB hq AB.o VQ.o wH.o.1;have HT5:=ai (IP (kS [4] l) ca5 _ cc5 true v5 tU.o (AB.o.trans qV) wH.o.1 (nA.o.cR qV) hic (fun x hx=>HPD.o x (BI hx)) (tY.o [4]));rw[<-HAA.o] at HT5;have HV5:=ai qV;clear hq hcr hrw hic qV;go_wp2_with fail;refine HT5.o.mono ?_;rintro r w6 ⟨rfl,hc,hst⟩;have vE:=ai hst;have hc2:=(HV5.o.cR [b]).then hc
  have Ey:=ai (xP AB.o wH.o.1 hc2);have asT:=ai (show b<w6.heap.size by have h1:=VQ.o;have h2:=hc2.size;omega);have HQ6:=ai (hc2.blk HQ5.o jL.o.2.1);have ER:=ai (hc2.blk uV.o jL.o.2.2.1);clear hc hst hc2 HT5 HV5 AB VQ HQ5 uV nA;go_wp2_with fail;refine(KQ l a n c (w0:=w1) w6 (HL.o.ext dI.o) Ey.o qY.o).mono ?_;rintro r v6 hq;obtain⟨vs6,ca6,cc6,rfl,hcr,hrw,hic,qV⟩:=yB hq Ey.o asT.o wH.o.1;have HT6:=ai (IP (kS [3] l) ca6 _ cc6 false v6 tU.o (Ey.o.trans qV) wH.o.1 (vE.o.cR qV) hic (fun x hx=>HPD.o x (BI hx)) (tY.o [3]));rw[<-HAA.o] at HT6;have HV6:=ai qV;clear hq hcr hrw hic qV;go_wp2_with fail;refine HT6.o.mono ?_;rintro r w7 ⟨rfl,hc,hst⟩;have JG:=ai hst;have hc2:=(HV6.o.cR [b]).then hc
  have ahX:=ai (xP Ey.o wH.o.1 hc2);have aOX:=ai (show b<w7.heap.size by have h1:=asT.o;have h2:=hc2.size;omega);have HQ7:=ai (hc2.blk HQ6.o jL.o.2.1);have EP:=ai (hc2.blk ER.o jL.o.2.2.1);clear hc hst hc2 HT6 HV6 Ey asT HQ6 ER vE;go_wp2_with fail;refine(MS l a n c (w0:=w1) w7 (HL.o.ext dI.o) ahX.o qY.o).mono ?_;rintro r v7 hq;obtain⟨vs7,ca7,cc7,rfl,hcr,hrw,hic,qV⟩:=yB hq ahX.o aOX.o wH.o.1;have HT7:=ai (afy (kS lJ l) vs7 ca7 _ cc7 v7 tU.o (ahX.o.trans qV) wH.o.1 (JG.o.cR qV) hcr hrw (fun x hx=>HPD.o x (BI hx)) (tY.o lJ));rw[<-HAA.o] at HT7;have HV7:=ai qV;clear hq hcr hrw hic qV;go_wp2_with fail;refine HT7.o.mono ?_;rintro r w8 ⟨hc,F,fa8,fc8,rfl,hif,hfl,hst,hF⟩;have RZ:=ai (MN F fa8 F.length fc8 w8 hif (by have:=tY.o lJ;omega));obtain⟨R,hR⟩:∃R,R=Hw ⟨4,-1,0,0,0,false⟩ F:=⟨_,rfl⟩
  rw[<-hR] at RZ;have hc2:=(HV7.o.cR [b]).then hc
  have Ik:=ai hst;have aAH:=ai (xP ahX.o wH.o.1 hc2);have HQ8:=ai (hc2.blk HQ7.o jL.o.2.1);have YK:=ai (hc2.blk EP.o jL.o.2.2.1);have HZ8:=ai (show Z=(Ri ((RF A (kS lJ l) (oq A (kS [3] l) false (oq A (kS [4] l) true (Ht A (kS [2] l) true (some rs))))).map Prod.fst)&&d.eqB R) by
   rw[IE.o];unfold Lj;rw[bL hv1,bL hv2,bL hv3,bM hv4,hR]
   revert hF
   generalize (RF A (kS lJ l) (oq A (kS [3] l) false (oq A (kS [4] l) true (Ht A (kS [2] l) true (some rs)))))=X;intro hF
   match X,hF with
   | none,_=>rfl
   | some ([],F'),h=>rw[h _ rfl];rfl
   | some (y::t,F'),_=>rfl)
  clear hif hfl hst hF hR hc hc2 HT7 HV7 ahX aOX HQ7 EP JG;go_wp2_with fail;refine RZ.o.mono ?_;rintro r w9 ⟨rfl,ux⟩;have AM:=ai (Ik.o.cR ux);have HQ9:=ai (ux.blk HQ8.o);have HD9:=ai (ux.blk YK.o);have aIZ:=ai (aAH.o.trans ux);clear ux RZ aAH HQ8 YK Ik;unfold rT.cells;obtain⟨q0,q1,q2,q3,q4,q5,qf⟩:=dH HQ9.o;go_upto_region 22 with fail;obtain⟨wx,hwx⟩:∃wx,wx=fA w9 bq (.int .i64 R.oP) (.int .i64 R.lim) (.int .i64 R.xV) (.int .i64 R.xU) (.int .i64 R.xN) (.bool R.Bt):=⟨_,rfl⟩
  have hcx:ct [bq] w9 wx:=by rw[hwx];exact fe _ _
  have HQx:=ai (show wx.heap[bq]?=some (.cells #[ R.oP,R.lim,R.xV,R.xU,R.xN,.bool R.Bt] 29 (0,0)) by rw[hwx];exact fH HQ9.o);have HXx:=ai (hcx.ext aIZ.o (fun y hy=>by rw[aG.1 hy];exact jL.o.2.2.2.1));have HDx:=ai (hcx.blk HD9.o (by have:=jL.o.2.2.2.2;simpa using this));obtain⟨xa,xn,xc,xw,aRc,hdn⟩:=ad2 AM.o;have j6:=hcx.blk aRc (by have:=jL.o.2.1;simp at this ⊢;omega);unfold fA at hwx;rw[<-hwx];clear hwx hcx aRc q0 q1 q2 q3 q4 q5 qf AM HQ9 HD9 aIZ;obtain⟨k0,k1,k2,k3,k4,kf⟩:=KT j6;obtain⟨q0,q1,q2,q3,q4,q5,qf⟩:=dH HQx.o;obtain⟨d0,d1,d2,d3,d4,d5,d6,df⟩:=gR HDx.o;have zi:=ai (dI.o.trans HXx.o);have HZF:=ai (HZ8.o);clear HQx HDx HXx j6;rcases hdn with ⟨rfl,hd⟩|⟨rfl,hn0,hd⟩|⟨rfl,rfl,hd⟩
  ·have HF:=ai (show Z=false by rw[HZF.o,hd];rfl);clear hd;go_wp2_with fail;go_ret;exact bW HF.o.symm zi.o
  ·have HF:=ai (show Z=false by rw[HZF.o,hd];rfl);have t3:((xn:Int)==0)=false:=by simp;omega
   clear hd hn0;go_wp2_with fail;go_ret;exact bW HF.o.symm zi.o
  have HF:=ai (show Z=d.eqB R by rw[HZF.o,hd];rfl);clear hd;go_wp2_with fail
  all_goals
   go_ret;exact bW (by rw[HF.o];simp[rT.eqB, *]) zi.o
 have t1:(d.oP==1)=false:=by simpa using hv1
 have t2:(d.oP==2)=false:=by simpa using hv2
 have t3:(d.oP==3)=false:=by simpa using hv3
 have t4:(d.oP==4)=false:=by simpa using hv4
 have HF:=ai (show Z=false by rw[IE.o];unfold Lj;rw[bL hv1,bL hv2,bL hv3,bL hv4]);clear hv1 hv2 hv3 hv4;go_wp2_with fail;go_ret;exact bW HF.o.symm jl.o
def Xd:List Attr:=[uy,⟨⟨#[115,116,111,114,101,121,115]⟩,2,[],1,9⟩,⟨⟨#[97,108,97,114,109]⟩,3,[],0,0⟩]
def exF:Ex:=.mk 4 ⟨#[112,101,114,105,108]⟩ [⟨#[102,105,114,101]⟩] 0 0 []
def clF:cK:=⟨2,⟨#[102,105,114,101]⟩,exF,[],0⟩
def aSi (w:World) (e:Ending) (w':World):Prop:=∃v,e=.returned v/\dB w' Xd v/\Ext w w'
theorem atc (x n r:Int) (w:World) (hn:0<n) (hn2:n<=1000000000000000000) (hr:(x.tmod n+n).tmod n=r):Calls Tryz.prog 16 #[.int .i64 x,.int .i64 n] w (fun e w'=>e=.returned (.int .i64 r)/\w'=w):=by
 go_enter Tryz.func16,Tryz.ntmps16
 go_wp2_with fail;go_ret;have a1:=Int.tmod_lt_of_pos x hn;have a5:=Int.lt_tmod_of_pos x hn;rw[IntWalk.wrap64_in (x.tmod n+n) (by omega),hr];exact⟨rfl,rfl⟩
theorem aiz (w:World):Calls Tryz.prog 26 #[.int .i64 0] w (aSi w):=by
 go_enter Tryz.func26,Tryz.ntmps26
 go_wp2_with fail;refine(atc 0 6 0 _ (by omega) (by omega) (by decide)).mono ?_;rintro e w' ⟨rfl,rfl⟩;go_wp2_with fail;refine(Te _).mono ?_;rintro e w' ⟨g,rfl,hp,hx,hgn⟩;simp at hgn;have eV:=hx.size;simp at eV;have hb:=hx.blk (bR w _);have hlt:=bS hb;have c0:=bX hb 0;have cf:=ie hb;simp at c0;have HX:=ai (((Tz w).alloc _).trans hx);have HP:=ai hp;clear hx hb hp;go_wp2_with fail;refine a5a (v:=.agg #[.slice (some ⟨w'.heap.size,0,none⟩) 3 3]) (by simp[results,Tryz.results26,go_sem,c0,hlt]) rfl ?_;refine⟨_,rfl,?_,(HX.o.fV (by simp) _).alloc _⟩;refine Kq (Ub:=[⟨uy,some ⟨g,0,none⟩,4,4⟩,⟨⟨⟨#[115,116,111,114,101,121,115]⟩,2,[],1,9⟩,none,0,0⟩,⟨⟨⟨#[97,108,97,114,109]⟩,3,[],0,0⟩,none,0,0⟩]) (t:=101) ?_ rfl ?_
 ·simpa[qU.cells,uy] using bR (w'.setCell ⟨w.heap.size,0,none⟩ (.slice (some ⟨w'.heap.size,0,none⟩) 3 3)) (.cells #[.string uy.name,.int .i64 1,.slice (some ⟨g,0,none⟩) 4 4,.int .i64 0,.int .i64 0,.string ⟨#[115,116,111,114,101,121,115]⟩,.int .i64 2,.slice none 0 0,.int .i64 1,.int .i64 9,.string ⟨#[97,108,97,114,109]⟩,.int .i64 3,.slice none 0 0,.int .i64 0,.int .i64 0] 101)
 intro v hv;simp only[bz,bC,or_false] at hv;rcases hv with rfl|rfl|rfl
 ·exact PT HP.o (by omega) _ _
 ·exact ji _
 exact ji _
theorem aAq:jE Xd [clF] 0=0:=by
 unfold jE;rw[bL (by decide +kernel),bL (by decide +kernel),bL (by decide +kernel),bL (by decide +kernel)]
 show fG Xd [clF] []=0
 rw[fG]
theorem aEH:jQ [clF] 0=0:=by
 unfold jQ;rw[bL];rintro(h|h)
 ·exact a40 h (by decide +kernel)
 have h2:eH [clF] []=true:=h;rw[eH] at h2;cases h2
theorem aAp:(cV Xd [clF]).2=0:=by
 have h1:kZ (jE Xd [clF]) [clF].length=(0,0):=kz _ fun j hj=>by
  obtain rfl:j=0:=by simp at hj;omega
  exact aAq
 have h2:kZ (jQ [clF]) [clF].length=(0,0):=kz _ fun j hj=>by
  obtain rfl:j=0:=by simp at hj;omega
  exact aEH
 unfold cV;rw[bL (by decide +kernel),bL (by decide),h1,bL (by simp),bL (by
  rw[Classical.not_not];refine⟨[],List.nodup_nil,fun i=>⟨fun h=>by simp at h,fun h=>?_⟩,fun k i h=>by simp at h⟩;have h1:=mz h;obtain rfl:i=0:=by simp at h1;omega
  exact a40 h (by decide)),h2]
theorem asa (V:Ex->Bool):CN V [clF]=if V exF=true then ⟨4,-1,0,0,0,false⟩ else ⟨1,0,0,0,0,false⟩:=by
 have hw:nM V []=false:=by rw[nM]
 cases h:V exF<;>simp[CN,jC,ke,clF,hw,h,CP,N8,oU,pO]
theorem Vk (f:ZI) (h:jU Xd f=true):jP Xd [clF] f=0:=by
 unfold jP;rw[bL (by rw[aAp];decide),bL (by simp[h])]
theorem aEI:mS Xd [clF] [0,1,0]=⟨4,-1,0,0,0,false⟩:=by
 unfold mS;rw[bM (Vk _ (by decide +kernel)),asa,bM (by decide +kernel)]
theorem aAo:mS Xd [clF] [1,1,0]=⟨1,0,0,0,0,false⟩:=by
 unfold mS;rw[bM (Vk _ (by decide +kernel)),asa,bL (by decide +kernel)]
theorem aj7:∀x∈Xd,x.fits:=by
 intro x hx;simp only[Xd,bz,bC,or_false] at hx;rcases hx with rfl|rfl|rfl<;>refine⟨by decide,by simp[uy],fun x hx=>?_⟩<;>simp[uy] at hx
 rcases hx with rfl|rfl|rfl|rfl<;>decide
theorem axk:∀x∈[clF],x.fit:=by
 intro x hx;obtain rfl:=aG.1 hx;refine⟨by decide,?_,?_,?_,by simp[clF],by unfold clF nY;trivial⟩
 ·simp[clF,exF,Ex.fits,kE];decide
 ·simp[clF,exF,Ex.iT,mR]
 simp[clF,exF,Ex.vP,BF]
theorem vg (w:World) (ho:dQ w):Calls Tryz.prog 12 #[] w (cz (.bool true) w):=by
 have HO:=ai ho;clear ho;go_enter Tryz.func12,Tryz.ntmps12
 go_wp2_with fail;refine(aiz w).mono ?_;rintro r w1 ⟨sv,rfl,hs,hx1⟩;obtain⟨sa,sn,sc,rfl,-⟩:=hs.slice;have HS:=ai hs;have dI:=ai hx1;clear hs hx1;go_upto_region 2 with fail;obtain⟨w2,hw2⟩:∃w2,w2=w1.alloc (.cells #[.slice sa sn sc] 24):=⟨_,rfl⟩
 obtain⟨b1,hb1⟩:∃b1:Nat,b1=w1.heap.size:=⟨_,rfl⟩
 have dN:=ai (show Ext w1 w2 by rw[hw2];exact(Tz _).alloc _);have gG:=ai (show w2.heap[b1]?=some (.cells #[.slice sa sn sc] 24 (0,0)) by rw[hw2,hb1];exact bR w1 _);rw[<-hw2,<-hb1];clear hw2 hb1;go_upto_region 3 with fail;obtain⟨w3,hw3⟩:∃w3,w3=(w2.alloc (.cells #[.string ⟨#[102,105,114,101]⟩] 9)).alloc (.cells #[.int .i64 2,.string ⟨#[102,105,114,101]⟩,.int .i64 4,.string ⟨#[112,101,114,105,108]⟩,.slice (some ⟨w2.heap.size,0,none⟩) 1 1,.int .i64 0,.int .i64 0,.slice none 0 0,.slice none 0 0,.int .i64 0] 48):=⟨_,rfl⟩
 obtain⟨y,hy⟩:∃y:Nat,y=w2.heap.size:=⟨_,rfl⟩
 have hx3:Ext w2 w3:=by rw[hw3];exact((Tz _).alloc _).alloc _
 have qC:=ai (show cZ w3 [clF] (some ⟨y+1,0,none⟩) 1 1 from akK (v:=⟨2,⟨#[102,105,114,101]⟩,⟨4,⟨#[112,101,114,105,108]⟩,some ⟨y,0,none⟩,1,1,0,0,none,0,0⟩,none,0,0,0⟩) (t:=48) (by rw[hw3,hy];exact cT (by simp)) ⟨rfl,rfl,PU (xH (l:=[⟨#[102,105,114,101]⟩]) (t:=9) (by rw[hw3,hy];exact bU (bR w2 _)) rfl) 4 0 0 _,rfl,aU _,aoX ⟨rfl,rfl⟩,by unfold clF gK;trivial,rfl⟩);rw[<-hw3,<-hy];have dS:=ai (dN.o.trans hx3);have nW:=ai (hx3.blk gG.o);clear hw3 hy hx3;obtain⟨e0,ef⟩:=dO nW.o;obtain⟨w4,hw4⟩:∃w4,w4=w3.alloc (.cells #[.int .i64 0,.int .i64 1,.int .i64 0] 3):=⟨_,rfl⟩
 have gV:Ext w3 w4:=by rw[hw4];exact(Tz _).alloc _
 have Nj:=ai (sF Xd [clF] [0,1,0] (.agg #[.slice sa sn sc]) (some ⟨y+1,0,none⟩) 1 1 (some ⟨w3.heap.size,0,none⟩) 3 3 w4 (HS.o.ext (dS.o.trans gV)) aj7 (by simp[Xd]) (qC.o.ext gV) (by omega) axk (by rw[hw4];exact xI rfl) (by omega) (HO.o.ext (dI.o.trans (dS.o.trans gV))));unfold ahh at Nj;rw[aEI,Vk _ (by decide +kernel)] at Nj;unfold rT.cells at Nj;have jl:=ai (dI.o.trans (dS.o.trans gV));have FP:=ai (gV.blk nW.o);have mo:=ai (qC.o.ext gV);have oY:=ai (HS.o.ext (dS.o.trans gV));clear gV;go_wp2_with fail;rw[<-hw4];clear hw4 e0 ef nW qC HS dS dI;refine Nj.o.mono ?_;rintro r w5 ⟨rfl,dh⟩;go_upto_region 4 with fail;obtain⟨w6,rH⟩:∃w6,w6=w5.alloc (.cells #[.int .i64 4,.int .i64 (-1),.int .i64 0,.int .i64 0,.int .i64 0,.bool false] 29):=⟨_,rfl⟩
 have gN:Ext w5 w6:=by rw[rH];exact(Tz _).alloc _
 obtain⟨b2,hb2⟩:∃b2:Nat,b2=w5.heap.size:=⟨_,rfl⟩
 have ER:=ai (show w6.heap[b2]?=some (.cells #[.int .i64 4,.int .i64 (-1),.int .i64 0,.int .i64 0,.int .i64 0,.bool false] 29 (0,0)) by rw[rH,hb2];exact bR w5 _);rw[<-rH,<-hb2];have kR:=ai (jl.o.trans (dh.trans gN));have jO:=ai ((dh.trans gN).blk FP.o);have sK:=ai (mo.o.ext (dh.trans gN));have vE:=ai (oY.o.ext (dh.trans gN));clear rH hb2 gN dh Nj jl FP mo oY;obtain⟨e0,ef⟩:=dO jO.o;obtain⟨w7,wF⟩:∃w7,w7=w6.alloc (.cells #[.int .i64 1,.int .i64 1,.int .i64 0] 3):=⟨_,rfl⟩
 have ng:Ext w6 w7:=by rw[wF];exact(Tz _).alloc _
 have HPD:=ai (sF Xd [clF] [1,1,0] (.agg #[.slice sa sn sc]) (some ⟨y+1,0,none⟩) 1 1 (some ⟨w6.heap.size,0,none⟩) 3 3 w7 (vE.o.ext ng) aj7 (by simp[Xd]) (sK.o.ext ng) (by omega) axk (by rw[wF];exact xI rfl) (by omega) (HO.o.ext (kR.o.trans ng)));unfold ahh at HPD;rw[aAo,Vk _ (by decide +kernel)] at HPD;unfold rT.cells at HPD;have rZ:=ai (kR.o.trans ng);have EP:=ai (ng.blk ER.o);clear ng;go_wp2_with fail;rw[<-wF];clear wF e0 ef;refine HPD.o.mono ?_;rintro r w8 ⟨rfl,qW⟩;go_upto_region 5 with fail;obtain⟨w9,uj⟩:∃w9,w9=w8.alloc (.cells #[.int .i64 1,.int .i64 0,.int .i64 0,.int .i64 0,.int .i64 0,.bool false] 29):=⟨_,rfl⟩
 have ux:Ext w8 w9:=by rw[uj];exact(Tz _).alloc _
 obtain⟨b3,hb3⟩:∃b3:Nat,b3=w8.heap.size:=⟨_,rfl⟩
 have HD9:=ai (show w9.heap[b3]?=some (.cells #[.int .i64 1,.int .i64 0,.int .i64 0,.int .i64 0,.int .i64 0,.bool false] 29 (0,0)) by rw[uj,hb3];exact bR w8 _);rw[<-uj,<-hb3];have vL:=ai (rZ.o.trans (qW.trans ux));have HE9:=ai ((qW.trans ux).blk EP.o);clear uj hb3 ux qW;obtain⟨d0,d1,d2,d3,d4,d5,df⟩:=dH HE9.o;obtain⟨g0,g1,g2,g3,g4,g5,gf⟩:=dH HD9.o;go_wp2_with fail;go_ret;exact bW rfl vL.o
open Go.RowKit
theorem vD.fnl {w:World} {s:List Attr} {l:List cK} {f:ZI} {v:Yh} (h:vD w s l f v):v.fn<=1000:=by
 rw[h.ints.1,kA h.facts];exact(ei s h.mem).2.2
theorem UJ {W W':World} {g:Nat} (h:Ext W W'):Sub (mask W [g]) (mask W' [g]):=cF (h.cR []) (by simp)
theorem a6h {A:Ex->Pr->Bool} {V:Ex->Bool} {l:List cK} {d:rT} {L:List Rs} (h:aco A V l L) (hv:Lj A l d L=true) (hl:l.length<=10):SpN 1000000 L:=by
 have one:∀{cs:List cK} {b:Bool} {L:List Rs},MZ A V cs b L->∀r∈L,r.proof.iT 1000000/\r.gH.length<=1000000:=fun h r hr=>by
  rcases h with ⟨rfl,_⟩|⟨q,x,rfl,_,_,hp⟩
  ·simp at hr
  rw[aG.1 hr];exact hp.2
 have app:∀{L1 L2:List Rs},(∀r∈L1,r.proof.iT 1000000/\r.gH.length<=1000000)->(∀r∈L2,r.proof.iT 1000000/\r.gH.length<=1000000)->∀r∈L1++L2,r.proof.iT 1000000/\r.gH.length<=1000000:=fun h1 h2 r hr=>(aN.1 hr).elim (h1 r) (h2 r)
 refine⟨?_,?_⟩
 ·rw[(YO hv).1];have h2:=amP [2] l;have h3:=amP [3] l;have h4:=amP [4] l;have h5:=amP lJ l;unfold aRV;split
  ·omega
  split
  ·omega
  split<;>omega
 unfold aco at h;split at h
 ·exact h.2
 obtain⟨r1,r2,rfl,g1,g2⟩:=h;refine app (one g1) ?_;split at g2
 ·exact one g2
 obtain⟨r3,r4,rfl,g3,g4⟩:=g2;refine app g3.2 ?_;split at g4
 ·exact one g4
 obtain⟨r5,r6,rfl,g5,g6⟩:=g4;exact app g5.2 g6.2
theorem a6e (V:Ex->Bool) (l:List cK):(CN V l).oP=1\/(CN V l).oP=2\/(CN V l).oP=3\/(CN V l).oP=4:=by
 unfold CN;split
 ·exact aoX rfl
 split
 ·exact a4Z (aoX rfl)
 split
 ·exact a4Z (a4Z (aoX rfl))
 exact a4Z (a4Z (a4Z rfl))
def SdL (T:Int) (eZ hd:Nat) (wA w5:World) (i:Value) (W:World):Prop:=∃(k:Nat) (D:rT) (L:List Rs) (a:OA) (n c:Nat),i=.int .i64 ((k:Nat):Int)/\(k:Int)<=T/\SpN (1000000+k) L/\iE (mask W [eZ,hd]) L a n c/\W.heap[eZ]?=some (.cells #[ D.oP,D.lim,D.xV,D.xU,D.xN,.bool D.Bt,.slice a n c] 57 (0,0))/\cg wA W hd/\ct [eZ,hd] w5 W
theorem a5' (da:OA) (dn dc:Nat) (ha:OA) (hn hc:Nat) (tm:Int) (Dx:rT) (Lx:List Rs) (xa:OA) (xn xc:Nat) (w:World) (h10:dR w da dn) (hdn:dn<=1000000000000000) (h20:dR w ha hn) (hhn:hn<=1000000000000000) (ht8:(Lit.int .u8 tm).wf=true) (hx0:iE w Lx xa xn xc) (ho0:dQ w) :
  Calls Tryz.prog 10 #[.slice da dn dc,.slice ha hn hc,.int .u8 tm,.agg #[ Dx.oP,Dx.lim,Dx.xV,Dx.xU,Dx.xN,.bool Dx.Bt,.slice xa xn xc]] w (cz (.bool true) w):=by
 have ht0:0<=tm/\tm<=255:=by
  simp only[Lit.wf,aF,aH] at ht8;exact ht8
 obtain⟨T5,hT5⟩:∃T:Int,T=tm % 5:=⟨_,rfl⟩
 have hT0:0<=T5:=by omega
 have hT4:T5<=4:=by omega
 have hmod:tm.tmod 5=T5:=by rw[hT5,Int.tmod_eq_emod_of_nonneg ht0.1]
 obtain⟨wA,hwA⟩:∃wA,wA=w.alloc (.cells #[ Dx.oP,Dx.lim,Dx.xV,Dx.xU,Dx.xN,.bool Dx.Bt,.slice xa xn xc] 57):=⟨_,rfl⟩
 obtain⟨bx,j6⟩:∃b:Nat,b=w.heap.size:=⟨_,rfl⟩
 have hA:Ext w wA:=by rw[hwA];exact(Tz w).alloc _
 have HA:=ai hA;have jm:=ai (show wA.heap[bx]?=some (.cells #[ Dx.oP,Dx.lim,Dx.xV,Dx.xU,Dx.xN,.bool Dx.Bt,.slice xa xn xc] 57 (0,0)) by rw[hwA,j6];exact bR w _);have h1:dR wA da dn:=fun i hi=>by obtain⟨b,off,z,e,hc⟩:=h10 i hi;exact⟨b,off,z,e,hA.cell hc⟩
 have H2:=ai (show dR wA ha hn from fun i hi=>by obtain⟨b,off,z,e,hc⟩:=h20 i hi;exact⟨b,off,z,e,hA.cell hc⟩);have gZ:=ai (hx0.mono hA.sub);have ho:=ho0.ext hA;go_enter Tryz.func10,Tryz.ntmps10
 go_upto_region 1 with fail;rw[<-hwA,<-j6];clear hwA j6 hA h10 h20 hx0 ho0 hT5 ht8;have Rq:=ai (fun W (hW:Ext wA W)=>vg W (ho.ext hW));have HO:=ai ho;have GU:=ai (xF da dn dc wA h1 hdn);clear h1 ho;go_wp2_with fail;refine GU.o.mono ?_;rintro r w1 ⟨s,l,f,v,bd,rfl,Og,hd,hx1⟩;unfold Yh.val;go_upto_region 2 with fail;obtain⟨b3,hb3⟩:∃b3,b3=w1.heap.size:=⟨_,rfl⟩
 obtain⟨w2,hw2⟩:∃w2,w2=w1.alloc (.cells #[.slice v.sa v.sn v.sc,.slice v.la v.ln v.lc,.slice v.fa v.fn v.fc] 34):=⟨_,rfl⟩
 have hx2:Ext w1 w2:=by rw[hw2];exact(Tz _).alloc _
 have qO:=ai (show w2.heap[b3]?=some (.cells #[.slice v.sa v.sn v.sc,.slice v.la v.ln v.lc,.slice v.fa v.fn v.fc] 34 (0,0)) by rw[hw2,hb3];exact bR w1 _);have FN:=ai (Og.mono (UJ (g:=bd) hx2));have pY:=ai (hd.ext hx2);have dN:=ai (hx1.trans hx2);have pF:=ai (show bd<b3/\wA.heap.size<=bd/\b3<w2.heap.size from⟨by rw[hb3];exact hd.lt,by obtain⟨_,_,_,_,_,_,_,_,_,q⟩:=hd;exact q,by rw[hw2,hb3];simp⟩);rw[<-hw2,<-hb3];clear hw2 hb3 hx1 hx2 Og hd GU;have HER:=ai (KJ (s:=s) (l:=l) (f:=f) FN.o.cls FN.o.fac);have HXD:=ai (fun W (hW:ct [bd] w2 W)=>show Ext wA W from hW.ext dN.o (fun y hy=>by rw[aG.1 hy];exact pF.o.2.1));have HGV:=ai (fun W (hW:ct [bd] w2 W) (hd:cg wA W bd)=>show Calls Tryz.prog 24 #[.pointer (some ⟨bd,0,none⟩),.agg #[.slice v.sa v.sn v.sc],.slice v.la v.ln v.lc,.slice v.fa v.fn v.fc] W (GvQ (val s l f) (aco (CY s l f) (val s l f) l) l wA bd W) from aag v.fc ⟨FN.o.cls,FN.o.facts,iB FN.o.mem,hd,FN.o.x7.mono (cP hW (by simp)),FN.o.yT.mono (cP hW (by simp)),FN.o.ints.mono (cP hW (by simp))⟩);have HVF:=ai (fun W (hW:ct [bd] w2 W) (d:rT) (rs:List Rs) (ra:OA) (rn rc:Nat) (hr:iE W rs ra rn rc)=>show Calls Tryz.prog 23 #[.agg #[.slice v.sa v.sn v.sc],.slice v.la v.ln v.lc,.slice v.fa v.fn v.fc,.agg #[ d.oP,d.lim,d.xV,d.xU,d.xN,.bool d.Bt,.slice ra rn rc]] W (cz (.bool (Lj (CY s l f) l d rs)) W) from by
  have hi:=FN.o.mono (cP hW (by simp));have hm:=cC W [bd];have hvl:=hi.yT.len;have hfl:=hi.fnl;have vC:=hi.len;have hc:=ai' s l f _ v.la v.ln v.lc v.fa v.fn v.fc d rs ra rn rc W (hi.x7.mono hm) (iB hi.mem) (by have:=(ei s hi.mem).2.2;omega) (hi.yT.mono hm) (by omega) hi.Ca (hi.ints.mono hm) (by omega) (HO.o.ext (HXD.o W hW)) hr;unfold aGI at hc
  rwa [bM HER.o.1] at hc)
 obtain⟨D,hD⟩:∃D,D=CN (val s l f) l:=⟨_,rfl⟩
 obtain⟨T,hT⟩:∃T:rT->List Rs->Bool,T=Lj (CY s l f) l:=⟨_,rfl⟩
 have aT4:=ai (fun W (hW:ct [bd] w2 W) (hd:cg wA W bd)=>(HGV.o W hW hd).mono (fun e w' (q:GvQ (val s l f) (aco (CY s l f) (val s l f) l) l wA bd W e w')=>show ∃(L:List Rs) (a:OA) (c:Nat),e=.returned (.agg #[ D.oP,D.lim,D.xV,D.xU,D.xN,.bool D.Bt,.slice a L.length c])/\SpN 1000000 L/\iE w' L a L.length c/\cg wA w' bd/\ct [bd] W w' from by
  obtain⟨L,a,c,q1,q2,-,q3,q4,q5⟩:=q;exact⟨L,a,c,by rw[q1,hD],a6h q2 (aBi (fun _ _ h=>akf h) q2) FN.o.len,q3.mono (cC _ _),q4,q5⟩))
 have aSQ:=ai (fun W (hW:ct [bd] w2 W) (d:rT) (rs:List Rs) (ra:OA) (rn rc:Nat) (hr:iE W rs ra rn rc)=>HVF.o W hW d rs ra rn rc hr);have uF:=ai (show ∀d rs,T d rs=true->d=D from fun d rs h=>by rw[hT] at h;rw[hD];exact aKY (fun _ _ h=>akf h) h);have VN:=ai (fun W (hW:ct [bd] w2 W)=>show Calls Tryz.prog 13 #[.agg #[.slice v.sa v.sn v.sc],.slice v.la v.ln v.lc,.slice v.fa v.fn v.fc] W (cz (.tuple #[.agg #[ D.oP,D.lim,D.xV,D.xU,D.xN,.bool D.Bt],.int .i64 0]) W) from by
  have hi:=FN.o.mono (cP hW (by simp));have hm:=cC W [bd];have hvl:=hi.yT.len;have hfl:=hi.fnl;have vC:=hi.len;have hc:=sF s l f _ v.la v.ln v.lc v.fa v.fn v.fc W (hi.x7.mono hm) (iB hi.mem) (by have:=(ei s hi.mem).2.2;omega) (hi.yT.mono hm) (by omega) hi.Ca (hi.ints.mono hm) (by omega) (HO.o.ext (HXD.o W hW));unfold ahh at hc;rw[HER.o.1,HER.o.2,<-hD] at hc;exact hc)
 have HDV:=ai (show D.oP=1\/D.oP=2\/D.oP=3\/D.oP=4 by rw[hD];exact a6e _ _);rw[<-hT] at aSQ;clear hD hT HGV HVF HER;obtain⟨x0,x1,x2,xf⟩:=dM qO.o;go_wp2_with fail;refine(aT4.o w2 (ct.refl _ _) pY.o).mono ?_;rintro r W1 ⟨L,a,c,rfl,q1,q3,q6,q4⟩;clear x0 x1 x2 xf;have K8:=ai q1;have HIL:=ai q3;have tU:=ai q6;have mE:=ai q4;have nU:=ai (q4.blk qO.o (by have:=pF.o;simp;omega));have ajB:=ai (q4.blk (show w2.heap[bx]?=_ from(HXD.o w2 (ct.refl _ _)).blk jm.o) (by have:=bS jm.o;have:=pF.o;simp;omega));have fY:=ai (show bx<w2.heap.size/\bx<wA.heap.size from⟨bS ((HXD.o w2 (ct.refl _ _)).blk jm.o),bS jm.o⟩);obtain⟨n,hn'⟩:∃n,n=L.length:=⟨_,rfl⟩
 rw[<-hn'] at HIL ⊢;clear q1 q3 q4 q6 hn' pY qO;obtain⟨eZ,oN⟩:∃b,b=W1.heap.size:=⟨_,rfl⟩
 obtain⟨W3,hW3⟩:∃W,W=W1.alloc (.cells #[ D.oP,D.lim,D.xV,D.xU,D.xN,.bool D.Bt,.slice a n c] 57):=⟨_,rfl⟩
 have pG:=ai (show W3.heap[eZ]?=some (.cells #[ D.oP,D.lim,D.xV,D.xU,D.xN,.bool D.Bt,.slice a n c] 57 (0,0)) by rw[hW3,oN];exact bR W1 _);have dS:=ai (show Ext W1 W3 by rw[hW3];exact(Tz W1).alloc _);have ah3:=ai oN;go_upto_region 3 with fail;rw[<-hW3,<-oN];clear hW3 oN;go_wp2_with fail;refine(oG ha hn hc wA W3 H2.o ((HXD.o W1 mE.o).trans dS.o) hhn).mono ?_;rintro r w5 ⟨hd,rfl,hdk,dh,hle⟩;have HDH:=ai hdk;have gW:=ai (dS.o.trans dh);have kB:=ai (show bd<eZ/\b3<eZ/\bx<eZ/\eZ<hd/\wA.heap.size<=bd/\w2.heap.size<=eZ/\W1.heap.size<=eZ/\wA.heap.size<=eZ from by
  have h1:=mE.o.size;have h2:=pF.o;have h3:=fY.o;have h4:=ah3.o;have h5:=bS pG.o;have h6:=(HXD.o w2 (ct.refl _ _)).size;omega)
 have a6i:=ai (dh.blk pG.o);have a6q:=ai (HIL.o.mono (a5p (N:=[eZ,hd]) gW.o (fun y hy=>by have:=kB.o;simp only[bz,bC,or_false] at hy;omega)));have pU:=ai (mE.o.then (gW.o.cR _));have uV:=ai (tU.o.ext gW.o);have a0m:=ai (gW.o.blk nU.o);have asQ:=ai (gW.o.blk ajB.o);clear hdk dh hle HIL tU pG nU ajB dS;go_wp2_with fail;go_loopw [13] (SdL T5 eZ hd wA w5) (fun k _=>T5.toNat - (intOf k).toNat)
 case atStart=>exact⟨0,D,L,a,n,c,rfl,hT0,K8.o,a6q.o,a6i.o,HDH.o,ct.refl _ _⟩
 case round =>
  obtain⟨k,D',L',a',n',c',rfl,hk,B6,hil,hb,hdk,hcr⟩:=hrel;have a6p:=ai B6;have a6l:=ai hil;have HB':=ai hb;have a6m:=ai hdk;have xW:=ai hcr;clear B6 hil hb hdk hcr K8 a6q a6i HDH;obtain⟨c0,c1,c2,c3,c4,c5,c6,cf⟩:=gR HB'.o;by_cases hkT:(k:Int)<T5
  ·have t1:=ag ((k:Int)<T5) hkT;have Ym:=ai (IK (N:=1000000+k) (by omega) D' (M:=[eZ,hd]) (by simp) (fun y hy=>by
    have:=bS HB'.o;have:=a6m.o.lt;simp only[bz,bC,or_false] at hy;omega) a6m.o a6l.o a6p.o)
   go_wp2_with fail;refine Ym.o.mono ?_;rintro e w6 ⟨D2,L2,a2,n2,c2',rfl,hil,B6,hdk,hcr⟩;have a6v:=ai hil;have a6t:=ai B6;have a6x:=ai hdk;have iP:=ai hcr;have a6r:=ai (hcr.blk HB'.o (by have:=kB.o;simp;omega));clear hil B6 hdk hcr c0 c1 c2 c3 c4 c5 c6 cf Ym;obtain⟨W7,Yz⟩:∃W7,W7=j5 w6 eZ (.int .i64 D2.oP) (.int .i64 D2.lim) (.int .i64 D2.xV) (.int .i64 D2.xU) (.int .i64 D2.xN) (.bool D2.Bt) (.slice a2 n2 c2'):=⟨_,rfl⟩
   have si:=ai (show ct [eZ] w6 W7 by rw[Yz];exact pW w6 eZ);have CX:=ai (show W7.heap[eZ]?=some (.cells #[ D2.oP,D2.lim,D2.xV,D2.xU,D2.xN,.bool D2.Bt,.slice a2 n2 c2'] 57 (0,0)) by rw[Yz];exact sU a6r.o);obtain⟨c0,c1,c2,c3,c4,c5,c6,cf⟩:=gR a6r.o;unfold j5 at Yz;go_upto_region 6 with fail;rw[<-Yz];clear Yz c0 c1 c2 c3 c4 c5 c6 cf;have a6u:=ai (a6v.o.mono (cF si.o (by simp)));have a6w:=ai (a6x.o.cR si.o (by have:=kB.o;simp;omega) (by have:=kB.o;simp;omega));have Bv:=ai (show ct [eZ,hd] w5 W7 from(xW.o.then (iP.o.weak (by simp))).then (si.o.weak (by simp)));go_wp2_with fail;go_roundw
   case rel=>exact⟨k+1,D2,L2,a2,n2,c2',by go_num,by omega,a6t.o,a6u.o,CX.o,a6w.o,Bv.o⟩
   case measure=>simp[intOf];omega
  have t1:=ah ((k:Int)<T5) hkT;have nS:=ai (show ct [bd] w2 wr from pU.o.trans xW.o (fun y hy=>by have:=kB.o;simp only[bz,bC,or_false] at hy;exact a4Z (by omega)));have HDB:=ai (uV.o.cR xW.o (by have:=kB.o;simp;omega) (fun y hy=>by have:=kB.o;simp only[bz,bC,or_false] at hy;omega));have nU:=ai (xW.o.blk a0m.o (by have:=kB.o;simp;omega));have jm:=ai (xW.o.blk asQ.o (by have:=kB.o;simp;omega));have HIR:=ai (a6l.o.mono (cC _ _));have tF:=ai (gZ.o.mono (HXD.o wr nS.o).sub);clear xW a6l a6p a6m pU uV a0m asQ gW mE gZ c0 c1 c2 c3 c4 c5 c6 cf H2;obtain⟨x0,x1,x2,xf⟩:=dM nU.o;go_wp2_with fail;refine(VN.o wr nS.o).mono ?_;rintro r w8 ⟨rfl,qW⟩;obtain⟨b14,ai5⟩:∃b,b=w8.heap.size:=⟨_,rfl⟩
  obtain⟨W9,hW9⟩:∃W,W=w8.alloc (.cells #[ D.oP,D.lim,D.xV,D.xU,D.xN,.bool D.Bt] 29):=⟨_,rfl⟩
  have FP:=ai (show W9.heap[b14]?=some (.cells #[ D.oP,D.lim,D.xV,D.xU,D.xN,.bool D.Bt] 29 (0,0)) by rw[hW9,ai5];exact bR w8 _);have vL:=ai (show Ext wr W9 from qW.trans (by rw[hW9];exact(Tz w8).alloc _));go_upto_region 9 with fail;rw[<-hW9,<-ai5];clear hW9 ai5 qW x0 x1 x2 xf;have GW:=ai (nS.o.then (vL.o.cR _));have HDB:=ai (HDB.o.ext vL.o);have nU:=ai (vL.o.blk nU.o);have jm:=ai (vL.o.blk jm.o);have pG:=ai (vL.o.blk HB'.o);have HIR:=ai (HIR.o.mono vL.o.sub);have tF:=ai (tF.o.mono vL.o.sub);clear nS vL HB'
  go_cut [85] (fun s85 wx=>s85=.bool false/\Ext W9 wx)
  case first =>
   obtain⟨B1,hB1⟩:∃B1,B1=T Dx Lx:=⟨_,rfl⟩
   obtain⟨B2,hB2⟩:∃B2,B2=T D' L':=⟨_,rfl⟩
   have V1:=fun W (hW:Ext W9 W)=>aSQ.o W (GW.o.then (hW.cR _)) Dx Lx xa xn xc (tF.o.mono hW.sub)
   have V2:=fun W (hW:Ext W9 W)=>aSQ.o W (GW.o.then (hW.cR _)) D' L' a' n' c' (HIR.o.mono hW.sub)
   rw[<-hB1] at V1;rw[<-hB2] at V2;have VG:=ai V1;have JF:=ai V2;have HT1:=ai (show B1=true->D=Dx from fun h=>(uF.o _ _ (hB1.symm.trans h)).symm);have HT2:=ai (show B2=true->D=D' from fun h=>(uF.o _ _ (hB2.symm.trans h)).symm);clear V1 V2 hB1 hB2;cases B1
   case' true =>
    have e:=HT1.o rfl;subst e
   all_goals
    cases B2
    case' true =>
     have e:=HT2.o rfl;subst e
   all_goals
    clear HT1 HT2;obtain⟨x0,x1,x2,xf⟩:=dM nU.o;obtain⟨c0,c1,c2,c3,c4,c5,c6,cf⟩:=gR jm.o;go_wp2_with fail;refine(VG.o W9 (Tz _)).mono ?_;rintro r iL ⟨rfl,yP⟩;have kg:=ai yP;clear yP x0 x1 x2 xf c0 c1 c2 c3 c4 c5 c6 cf;obtain⟨x0,x1,x2,xf⟩:=dM (kg.o.blk nU.o);obtain⟨c0,c1,c2,c3,c4,c5,c6,cf⟩:=gR (kg.o.blk jm.o);obtain⟨d0,d1,d2,d3,d4,d5,d6,df⟩:=gR (kg.o.blk pG.o);obtain⟨y0,y1,y2,y3,y4,y5,yf⟩:=dH (kg.o.blk FP.o);go_wp2_with fail;refine(JF.o iL kg.o).mono ?_;rintro r pZ ⟨rfl,aHN⟩;have yX:=ai (kg.o.trans aHN);clear aHN x0 x1 x2 xf c0 c1 c2 c3 c4 c5 c6 cf d0 d1 d2 d3 d4 d5 d6 df y0 y1 y2 y3 y4 y5 yf;obtain⟨d0,d1,d2,d3,d4,d5,d6,df⟩:=gR (yX.o.blk pG.o);obtain⟨y0,y1,y2,y3,y4,y5,yf⟩:=dH (yX.o.blk FP.o);go_wp2_with fail
    go_meet
    case rel=>exact⟨rfl,yX.o⟩
  case rest =>
  obtain⟨rfl,vT⟩:=hcut;have ah6:=ai (GW.o.then (vT.cR _));have HDB:=ai (HDB.o.ext vT);have nU:=ai (vT.blk nU.o);clear vT GW jm pG FP HIR tF;obtain⟨x0,x1,x2,xf⟩:=dM nU.o;go_wp2_with fail;refine(aT4.o wc ah6.o HDB.o).mono ?_;rintro r LD ⟨L3,a3,c3,rfl,-,q3,-,q4⟩;have HI3:=ai q3;have aow:=ai (ah6.o.then q4);have nU:=ai (q4.blk nU.o (by have:=kB.o;have:=pF.o;simp;omega));obtain⟨n3,hn3⟩:∃n,n=L3.length:=⟨_,rfl⟩
  rw[<-hn3] at HI3 ⊢;clear q3 q4 hn3 ah6 HDB x0 x1 x2 xf;obtain⟨b16,aMx⟩:∃b,b=LD.heap.size:=⟨_,rfl⟩
  obtain⟨W14,a6g⟩:∃W,W=LD.alloc (.cells #[ D.oP,D.lim,D.xV,D.xU,D.xN,.bool D.Bt,.slice a3 n3 c3] 57):=⟨_,rfl⟩
  have asV:=ai (show W14.heap[b16]?=some (.cells #[ D.oP,D.lim,D.xV,D.xU,D.xN,.bool D.Bt,.slice a3 n3 c3] 57 (0,0)) by rw[a6g,aMx];exact bR LD _);have qz:=ai (show Ext LD W14 by rw[a6g];exact(Tz LD).alloc _);have a6k:=ai (show LD.heap.size<=b16 by omega);go_upto_region 12 with fail;rw[<-a6g,<-aMx];clear a6g aMx;obtain⟨c0,c1,c2,c3',c4,c5,c6,cf⟩:=gR asV.o;obtain⟨X,hX⟩:∃X,X=wrap64 (1+D.oP.tmod 4):=⟨_,rfl⟩
  have hXD:X≠D.oP:=by
   rcases HDV.o with h|h|h|h<;>(rw[hX,h];decide +kernel)
  obtain⟨W15,a6f⟩:∃W,W=W14.setCell ⟨b16,0,none⟩ (.int .i64 X):=⟨_,rfl⟩
  have HP:=ai (show ct [b16] W14 W15 by rw[a6f];exact afN _ _ _ _);have asV:=ai (show W15.heap[b16]?=some (.cells #[ X,D.lim,D.xV,D.xU,D.xN,.bool D.Bt,.slice a3 n3 c3] 57 (0,0)) by rw[a6f];have:=afJ (i:=0) asV.o (.int .i64 X);simpa using this);go_upto_region 13 with fail;rw[<-hX,<-a6f];have HTF:=ai (show T ⟨X,D.lim,D.xV,D.xU,D.xN,D.Bt⟩ L3=false from by
   cases h:T ⟨X,D.lim,D.xV,D.xU,D.xN,D.Bt⟩ L3
   ·rfl
   exact a40 (congrArg rT.oP (uF.o _ _ h)) hXD)
  have aZ0:=ai (show ct [bd] w2 W15 from(aow.o.then (qz.o.cR _)).trans HP.o (fun y hy=>by rw[aG.1 hy];have:=aow.o.size;have:=a6k.o;exact a4Z (by omega)));have V:=aSQ.o W15 aZ0.o ⟨X,D.lim,D.xV,D.xU,D.xN,D.Bt⟩ L3 a3 n3 c3 ((HI3.o.mono ((a5p (N:=[b16]) qz.o (fun y hy=>by rw[aG.1 hy];exact a6k.o)).trans (cF HP.o (by simp)))).mono (cC _ _));rw[HTF.o] at V;have HV:=ai V;have nU:=ai (HP.o.blk (qz.o.blk nU.o) (by have:=a6k.o;have:=bS nU.o;simp;omega));clear hX hXD a6f V HTF HP HI3 aow qz c0 c1 c2 c3' c4 c5 c6 cf;obtain⟨x0,x1,x2,xf⟩:=dM nU.o;obtain⟨c0,c1,c2,c3',c4,c5,c6,cf⟩:=gR asV.o;go_wp2_with fail;refine HV.o.mono ?_;rintro r w16 ⟨rfl,a6n⟩;have Ey:=ai (HXD.o w16 (aZ0.o.then (a6n.cR _)));clear a6n x0 x1 x2 xf c0 c1 c2 c3' c4 c5 c6 cf;go_wp2_with fail;refine(Rq.o w16 Ey.o).mono ?_;rintro r w17 ⟨rfl,TC⟩;have ahX:=ai (HA.o.trans (Ey.o.trans TC));clear TC;go_wp2_with fail;go_ret;exact bW rfl ahX.o
end Go.Proofs.YtefjomofjejklaaGreatDoor
