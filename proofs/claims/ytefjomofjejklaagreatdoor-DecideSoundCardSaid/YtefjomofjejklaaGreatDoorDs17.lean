/- Joined. -/
import Derived.Test.YtefjomofjejklaaGreatDoorDs16
namespace Go.Proofs.YtefjomofjejklaaGreatDoor
set_option maxRecDepth 100000
set_option maxHeartbeats 32000000
open Go.RowKit Go.Maps
def PvC (s:List Attr) (l:List cK) (x:cK):Prop:=Pv s l x.cond/\jY (Pv s l) x.gH/\mH x.gH<=1000000
theorem at4 {s:List Attr} {l:List cK} (h:(cV s l).2=0):∀x∈l,PvC s l x:=fun x hx=>by
 have hk:=Vh h x hx;have:=(wY (Vg h x hx)).2;exact⟨hk.cond,hk.wbs,by omega⟩
theorem aHH {w:World} {bd:Nat} {x:cK} {v:fM} (h:ij (mask w [bd]) x v):ahS w bd x.cond x.gH v.x v.au v.nu v.cu:=by
 obtain⟨-,-,h3,h4,h5,h6,h7,-⟩:=h;exact⟨h3,h4,h5,h6,h7⟩
theorem Ws {s:List Attr} {l:List cK} {f:ZI} {w0:World} {bd:Nat} {sa:OA} {sn sc:Nat} {a:OA} {n c:Nat} {fa:OA} {fn:Nat} (fc:Nat) {w:World} (h:ajF s l f w0 bd sa sn sc a n c fa fn w) {x:cK} {v:fM} (hp:PvC s l x) (hc:ij (mask w [bd]) x v) :
  Calls Tryz.prog 76 #[.pointer (some ⟨bd,0,none⟩),.agg #[.slice sa sn sc],.slice a n c,.agg #[ v.kind,.string v.name,v.x.op,.string v.x.name,.slice v.x.aw v.x.nw v.x.cw,v.x.lo,v.x.hi,.slice v.x.aa v.x.na v.x.ca,.slice v.au v.nu v.cu,v.ck],.slice fa fn fc] w (BkQ (PbK (CY s l f) x.name x.cond x.gH) w0 bd w):=by
 have pF:=ai (show bd<w.heap.size/\w0.heap.size<=bd from⟨h.oA.lt,by obtain⟨_,_,_,_,_,_,_,_,_,q⟩:=h.oA;exact q⟩);have HBK:=ai (fun (W:World) (hW:Ext w W)=>show Calls Tryz.prog 102 #[.pointer (some ⟨bd,0,none⟩),.agg #[.slice sa sn sc],.slice a n c,.agg #[.string v.name,v.x.op,.string v.x.name,.slice v.x.aw v.x.nw v.x.cw,v.x.lo,v.x.hi,.slice v.x.aa v.x.na v.x.ca,.slice v.au v.nu v.cu],.slice fa fn fc] W (BkQ (PbK (CY s l f) x.name x.cond x.gH) w0 bd W) from by
  rw[<-hc.2.1];exact arq fc (mH x.gH) x.cond x.gH v.name v.x v.au v.nu v.cu W (aU _) (h.cR (hW.cR _) (h.oA.ext hW)) hp.1 hp.2.1 hp.2.2 ((aHH hc).cR (hW.cR _)))
 obtain⟨P,hP⟩:∃P,P=PbK (CY s l f) x.name x.cond x.gH:=⟨_,rfl⟩
 rw[<-hP] at HBK ⊢;clear h hp hc hP;obtain⟨n0,hn0⟩:∃n0,n0=w.heap.size:=⟨_,rfl⟩
 obtain⟨w3,hw3⟩:∃w3,w3=((w.alloc (.cells #[.slice sa sn sc] 24)).alloc (.cells #[ v.kind,.string v.name,v.x.op,.string v.x.name,.slice v.x.aw v.x.nw v.x.cw,v.x.lo,v.x.hi,.slice v.x.aa v.x.na v.x.ca,.slice v.au v.nu v.cu,v.ck] 48)).alloc (.cells #[.string ⟨#[]⟩,.bool false,.bool false,.int .i64 0,.slice none 0 0,.slice none 0 0] 69):=⟨_,rfl⟩
 have dS:=ai (show Ext w w3 by rw[hw3];exact(((Tz _).alloc _).alloc _).alloc _);have tR:=ai (show w3.heap.size=w.heap.size+3 by rw[hw3];simp);obtain⟨s0,sf⟩:=dO (show w3.heap[n0]?=some (.cells #[.slice sa sn sc] 24 (0,0)) by rw[hw3,hn0];exact bU (bU (bR w _)));obtain⟨f0,f1,f2,f3,f4,f5,f6,f7,f8,f9,ff⟩:=rK (show w3.heap[n0+1]?=some (.cells #[ v.kind,.string v.name,v.x.op,.string v.x.name,.slice v.x.aw v.x.nw v.x.cw,v.x.lo,v.x.hi,.slice v.x.aa v.x.na v.x.ca,.slice v.au v.nu v.cu,v.ck] 48 (0,0)) by rw[hw3,hn0];exact bU (cT (by simp)));have H10:=ai (show w3.heap[n0+2]?=some (.cells #[.string ⟨#[]⟩,.bool false,.bool false,.int .i64 0,.slice none 0 0,.slice none 0 0] 69 (0,0)) by rw[hw3,hn0];exact cT (by simp));have HN:=ai hn0;go_enter Tryz.func76,Tryz.ntmps76
 go_upto_region 1 with fail;rw[<-hw3,<-hn0];clear hw3 hn0;go_wp2_with fail;refine(HBK.o w3 dS.o).mono ?_;rintro e w4 ⟨r,⟨vn,Q,⟨pb,pk,pa,pn,pc⟩,va,vm,vc⟩,rfl,hp,hi,hd,hc⟩;have HF:=ai (ahD (w:=w) (Bc:=n0+2) (hc.blk H10.o (by have:=HN.o;have:=pF.o;simp;omega)) hd ((dS.o.cR [bd]).then hc) (by have:=HN.o;omega) (by have:=HN.o;have:=pF.o;omega) (by have:=HN.o;have:=pF.o;omega) (kC.mono hi (cM _ (by intro y hy;have:=HN.o;have:=tR.o;simp only[bz,a43] at hy ⊢;omega))));have HP:=ai hp;obtain⟨q0,q1,q2,q3,q4,q5,qf⟩:=dH (hc.blk H10.o (by have:=HN.o;have:=pF.o;simp;omega));clear hp hi hd hc s0 sf f0 f1 f2 f3 f4 f5 f6 f7 f8 f9 ff;unfold jf.val;go_wp2_with fail;obtain⟨wz,eV⟩:∃wz,wz=fA w4 (n0+2) (.string vn) (.bool Q) (.bool pb) (.int .i64 pk) (.slice pa pn pc) (.slice va vm vc):=⟨_,rfl⟩
 rw[<-eV] at HF;unfold fA at eV;rw[<-eV];clear eV q0 q1 q2 q3 q4 q5 qf;obtain⟨q0,q1,q2,q3,q4,q5,qf⟩:=dH HF.o.1;refine a5a (v:=jf.val ⟨vn,Q,⟨pb,pk,pa,pn,pc⟩,va,vm,vc⟩) (by simp[results,Tryz.results76,go_sem,jf.val,q0,q1,q2,q3,q4,q5]) rfl ?_;exact⟨_,_,rfl,HP.o,HF.o.2.1,HF.o.2.2.1,HF.o.2.2.2⟩
def kr (lo hi:Int) (x:cK):Bool:=decide (lo<=x.kind)&&decide (x.kind<=hi)
def GdL (A:Ex->Pr->Bool) (cs:List cK) (L:List Rs):Prop:=Ei (xE A) cs L/\∀r∈L,r.proof.iT 1000000/\r.gH.length<=1000000
theorem aku {P:cK->Rs->Bool}:(cs:List cK)->(L:List Rs)->Ei P cs L->∀{x:cK} {r:Rs},P x r=true->Ei P (cs++[x]) (L++[r])
 | [],[],_,_,_,h=>⟨h,trivial⟩
 | _::cs,_::L,h,_,_,hp=>⟨h.1,aku cs L h.2 hp⟩
 | [],_::_,h,_,_,_=>h.elim
 | _::_,[],h,_,_,_=>h.elim
theorem GdL.snoc {A:Ex->Pr->Bool} {cs:List cK} {L:List Rs} (h:GdL A cs L) {x:cK} {r:Rs} (hp:PbK A x.name x.cond x.gH r):GdL A (cs++[x]) (L++[r]) :=
 ⟨aku cs L h.1 hp.1,fun y hy=>by
  rcases aN.1 hy with q|q
  ·exact h.2 y q
  rw[aG.1 q];exact hp.2⟩
def OnQ (P:List Rs->Prop) (w0:World) (bd:Nat) (w:World) (e:Ending) (w':World):Prop:=∃(L:List Rs) (vs:List jf) (a:OA) (c:Nat),e=.returned (.slice a L.length c)/\P L/\w'.ownsRow w.heap.size 69 6 (.slice a L.length c) L.length (vs.flatMap jf.cells)/\mj (mask w' (rowOf (.slice a L.length c)++List.range w.heap.size)) L vs/\cg w0 w' bd/\ct [bd] w w'
theorem UF {w:World} {b b':Nat} {T:TypeId} {s:Nat} {v:Value} {n:Nat} {cs:List Value} (h:w.ownsRow b T s v n cs) (hb:b'<=b):w.ownsRow b' T s v n cs:=by
 obtain⟨h1,h2⟩:=h;refine⟨h1,h2.imp id ?_⟩;rintro⟨g,cap,cur,q1,q2,q3⟩;exact⟨g,cap,cur,q1,aV hb q2,q3⟩
theorem azB {ρ:Operand->Value} {W:World} {dst:Option Tmp} {ty:TypeId} {pos:String} {after:Array Edge} {guard:Option (Nat×Bool)} {s x:Operand} {bd n1 k rn:Nat} {pre M N:ZN} {va:OA} {vc:Nat} {VS:List jf} {ra:OA} {rc:Nat} {L R:List Rs} {wi w0:World}
  (hN:N=rowOf (.slice va k vc)) (hO:wi.ownsRow n1 69 6 (.slice va k vc) k (VS.flatMap jf.cells)) (hL:mj (mask wi (pre++N++M)) L VS) (hbd:bd∈pre++N++M) (hbN:bd∉N) (Cr:n1<=wi.heap.size) (h0:∀y∈N,w0.heap.size<=y) (hk:k+rn<=100000000) (h:(ct [bd] wi W/\cg w0 W bd)/\iE (mask W (pre++N++M)) R ra rn rc) (hs:ρ s=.slice va k vc) (hx:ρ x=.slice ra rn rc) :
  bQ Tryz.prog { dst:=dst,op:=.call { callee:=.builtin .append,args:=#[s,x],argTypes:=#[55,55] },type:=ty,pos:=pos,after:=after,guard:=guard } ρ W (aGy (γ:=OA×Nat×List jf) (ct (bd::N)) (fun x=>.slice x.1 (k+rn) x.2.1) (fun x W=>(ct (bd::N) wi W/\cg w0 W bd)/\W.ownsRow n1 69 6 (.slice x.1 (k+rn) x.2.1) (k+rn) ((VS++x.2.2).flatMap jf.cells)/\mj (mask W (pre++rowOf (.slice x.1 (k+rn) x.2.1)++M)) (L++R) (VS++x.2.2)) W):=by
 obtain⟨us,hu1,hu2⟩:=h.2;have hsz:=h.1.1.size;refine Au s x n1 k va vc VS us hs ra rn rc hx hk (cO hO h.1.1 (fun q hq hm=>by rw[aG.1 hm] at hq;exact hbN (by rw[hN];exact bV.2 hq))) (hu2.mono (cC _ _)) (by omega) ?_;intro a' c' w' ho hc hg;have hkp:Sub (mask W (pre++N++M)) (mask w' (pre++rowOf (.slice a' (k+rn) c')++M)):=by
  rw[hN];exact Tq hc hg (fun y hy=>by simp[hy]) (fun y hy=>by
   simp only[aN] at hy ⊢;rcases hy with (h|h)|h
   ·exact aoX (aoX (aoX h))
   ·exact a4Z h
   exact aoX (a4Z h))
 have hkw:Sub (mask wi (pre++N++M)) (mask W (pre++N++M)):=cF h.1.1 (fun y hy=>aoX (by rw[aG.1 hy];exact hbd));rw[<-hN] at hc;exact⟨hc.weak (fun y hy=>aZ _ hy),(a',c',us),rfl,⟨(h.1.1.weak (by simp)).then (hc.weak (fun y hy=>aZ _ hy)),h.1.2.cR hc hbN h0⟩,ho,mj.append ((hL.mono hkw).mono hkp) (hu1.mono hkp)⟩
theorem ang {s:List Attr} {l:List cK} {f:ZI} {w0:World} {bd:Nat} {sa:OA} {sn sc:Nat} {a:OA} {n c:Nat} {fa:OA} {fn:Nat} (fc:Nat) (lo hi:Int) {w:World} (h:ajF s l f w0 bd sa sn sc a n c fa fn w) :
  Calls Tryz.prog 51 #[.pointer (some ⟨bd,0,none⟩),.agg #[.slice sa sn sc],.slice a n c,lo,hi,.slice fa fn fc] w (OnQ (GdL (CY s l f) (l.filter (kr lo hi))) w0 bd w):=by
 have HRE:=ai (fun (k:Nat) (hk:k<l.length) (v:fM) (W:World) (hW:ct [bd] w W) (hd:cg w0 W bd) (hc:ij (mask w [bd]) l[k] v)=>Ws fc (h.cR hW hd) (at4 h.ok _ (aD hk)) (hc.mono (cP hW (by simp))));have pF:=ai (show bd<w.heap.size/\w0.heap.size<=bd from⟨h.oA.lt,by obtain⟨_,_,_,_,_,_,_,_,_,q⟩:=h.oA;exact q⟩);have HDT:=ai h.dat;have OX:=ai (show n=l.length/\n<=1000000 by have h1:=h.dat.2.1.len;have h2:=(lK h.ok).len;omega);have yz:=ai h.oA;obtain⟨A,hA⟩:∃A,A=CY s l f:=⟨_,rfl⟩
 rw[<-hA] at HRE ⊢;clear h hA;obtain⟨n0,hn0⟩:∃n0,n0=w.heap.size:=⟨_,rfl⟩
 obtain⟨wa,cN⟩:∃wa,wa=w.alloc (.cells #[.slice sa sn sc] 24):=⟨_,rfl⟩
 have dm:=ai (show Ext w wa by rw[cN];exact(Tz _).alloc _);have HA:=ai (show wa.heap[n0]?=some (.cells #[.slice sa sn sc] 24 (0,0)) by rw[cN,hn0];exact bR w _);have HN:=ai (show n0=w.heap.size/\wa.heap.size=n0+1 from⟨hn0,by rw[cN,hn0];simp⟩);go_enter Tryz.func51,Tryz.ntmps51
 go_upto_region 1 with fail;rw[<-cN,<-hn0];clear cN hn0;have hnb:=OX.o.2;go_wp2_with fail;go_loopw [13,14] (fun lv i wr=>∃(k:Nat) (L:List Rs) (vs:List jf) (ua:OA) (un uc:Nat),i=.int .i64 k/\lv=.slice ua un uc/\k<=n/\un=L.length/\un<=k/\GdL A ((l.take k).filter (kr lo hi)) L/\wr.ownsRow wa.heap.size 69 6 (.slice ua un uc) un (vs.flatMap jf.cells)/\mj (mask wr (rowOf (.slice ua un uc)++List.range n0)) L vs/\cg w0 wr bd/\ct [bd] wa wr) (fun _ i _=>n - (intOf i).toNat)
 case atStart=>exact⟨0,[],[],none,0,0,rfl,rfl,Nat.zero_le _,rfl,aU _,⟨trivial,by simp⟩,a4' _ _ _ _,mj.nil _,yz.o.ext dm.o,ct.refl _ _⟩
 case round =>
  obtain⟨k,L,vs,ua,un,uc,rfl,rfl,hk,hun,aWa,hgd,how,sq,hd,hc⟩:=hrel;have R9:=ai hgd;have HOW:=ai how;have CA:=ai sq;have HDr:=ai hd;have HCr:=ai hc;have Nh:=ai hun;have nS:=ai ((dm.o.cR [bd]).then hc);have HAr:=ai (hc.blk HA.o (by have:=HN.o;have:=pF.o;simp;omega));clear hgd how sq hd hc hun;by_cases hkn:k<n
  ·have fq:k<l.length:=by have:=OX.o;omega
   have t1:=ag ((k:Int)<(n:Int));have tk0:(0:Int)<=(k:Int):=by omega
   have tk1:(k:Int)<(n:Int):=by omega
   obtain⟨b,off,v,rfl,agL,Oe⟩:=HDT.o.2.1.at fq;have rO:b∉[bd]:=fun hm=>by have c0:=Oe.BB.1;rw[eA,bM hm] at c0;cases c0
   have DK:b<w.heap.size:=eB (Oe.mono (cC _ _)).BB.1;obtain⟨c0,c1,c2,c3,c4,c5,c6,c7,c8,c9⟩:=(Oe.mono (cC _ _)).BB
   replace c0:=nS.o.cell c0 rO
   replace c1:=nS.o.cell c1 rO
   replace c2:=nS.o.cell c2 rO
   replace c3:=nS.o.cell c3 rO
   replace c4:=nS.o.cell c4 rO
   replace c5:=nS.o.cell c5 rO
   replace c6:=nS.o.cell c6 rO
   replace c7:=nS.o.cell c7 rO
   replace c8:=nS.o.cell c8 rO
   replace c9:=nS.o.cell c9 rO
   have OO:=ai (fun (W:World) (hW:ct [bd] wr W) (hd:cg w0 W bd)=>HRE.o k fq v W (nS.o.then hW) hd agL);have uF:=ai (show (l.take (k+1)).filter (kr lo hi)=if (decide (lo<=v.kind)&&decide (v.kind<=hi))=true then (l.take k).filter (kr lo hi)++[l[k]] else (l.take k).filter (kr lo hi) by
    rw[aO fq,List.filter_append,List.filter_cons,agL.1];unfold kr;split<;>simp)
   clear agL Oe;rcases ha:decide (lo<=v.kind) with _|_
   ·have HQ:=ai ha;go_wp2_with fail;go_roundw
    case rel=>exact⟨k+1,L,vs,ua,un,uc,by go_num,rfl,by omega,Nh.o,by omega,by rw[uF.o,HQ.o];exact R9.o,HOW.o,CA.o,HDr.o,HCr.o⟩
    case measure=>simp[intOf];omega
   rcases hb:decide (v.kind<=hi) with _|_
   ·have HQ:=ai hb;go_wp2_with fail;go_roundw
    case rel=>exact⟨k+1,L,vs,ua,un,uc,by go_num,rfl,by omega,Nh.o,by omega,by rw[uF.o,HQ.o];simpa using R9.o,HOW.o,CA.o,HDr.o,HCr.o⟩
    case measure=>simp[intOf];omega
   have WL:=ai (show (l.take (k+1)).filter (kr lo hi)=(l.take k).filter (kr lo hi)++[l[k]] by rw[uF.o,ha,hb];rfl);obtain⟨P,hP⟩:∃P,P=PbK A l[k].name l[k].cond l[k].gH:=⟨_,rfl⟩
   rw[<-hP] at OO;have HGS:=ai (show ∀X,P X->GdL A ((l.take (k+1)).filter (kr lo hi)) (L++[X]) from fun X hX=>by rw[WL.o];exact R9.o.snoc (by rw[<-hP];exact hX));go_upto_region 6 with fail;clear ha hb uF hP;obtain⟨N,hN⟩:∃N,N=rowOf (.slice ua un uc):=⟨_,rfl⟩
   have qY:=ai (show ∀y∈N,wa.heap.size<=y/\y<wr.heap.size from fun y hy=>by rw[hN] at hy;exact HOW.o.lt y (bV.1 hy));have vt:=ai (show bd∉N from fun hm=>by have:=(qY.o _ hm).1;have:=HN.o;have:=pF.o;omega);have hn0:n0∉bd::N:=fun hm=>by
    rcases bz.1 hm with h|h
    ·have:=HN.o;have:=pF.o;omega
    have:=(qY.o _ h).1;have:=HN.o;omega
   have XE:b∉bd::N:=fun hm=>by
    rcases bz.1 hm with h|h
    ·exact rO (by rw[h];simp)
    have:=(qY.o _ h).1;have:=HN.o;omega
   have qP:=ai hN;have Uk:=ai (show ∀(W:World),ct [bd] wr W->∀y∈[]++N++List.range n0,y∈List.range W.heap.size from fun W hW y hy=>by
    have h1:=hW.size;have h2:=nS.o.size;have h3:=HN.o;simp only[List.nil_append,aN,a43] at hy;rw[a43];rcases hy with hy|hy
    ·have:=(qY.o y hy).2;omega
    omega)
   clear hN;obtain⟨s0,sf⟩:=dO HAr.o;have S0:=cU s0 hn0;obtain⟨C0,C1,C2,C3,C4,C5⟩:=wgn6 XE c0 c1 c2 c3 c4 c5;obtain⟨C6,C7,C8⟩:=wgn3 XE c6 c7 c8;have C9:=cU c9 XE;clear hn0 XE rO DK;refine pT 12 (bd::N) (fun W=>ct [bd] wr W/\cg w0 W bd) ⟨(Tz wr).drew.cR _,HDr.o.ext (Tz wr).drew⟩ (fun _ _ hx h=>⟨h.1.then (hx.cR _),h.2.ext hx⟩) ?_
   repeat (refine bZ ?_;intro K hK;go_big_quiet_op;go_big_quiet_on)
   refine dP (γ:=Rs×jf) (fun x=>.agg #[.string x.2.name,.bool x.2.dg,.bool x.2.p.value,x.2.p.pick,.slice x.2.p.a x.2.p.n x.2.p.c,.slice x.2.a x.2.n x.2.c]) (fun x W=>(ct [bd] wr W/\cg w0 W bd)/\P x.1/\kC (mask W ([]++N++List.range n0)) x.1 x.2) (fun W hW h _=>?_) (fun x W W' hx h=>⟨⟨h.1.1.then (hx.cR _),h.1.2.ext hx⟩,h.2.1,kC.mono h.2.2 (cF (hx.cR []) (by simp))⟩) ?_ ⟨(.mk ⟨#[]⟩ false (.mk false 0 []) [],⟨⟨#[]⟩,false,⟨false,0,none,0,0⟩,none,0,0⟩)⟩
   ·unfold bQ;go_simp;refine(OO.o W h.1 h.2).mono ?_;rintro r wz ⟨X,xv,rfl,hp,hi,hd,hc⟩;exact⟨_,rfl,hc.weak (by simp),(X,xv),rfl,⟨h.1.then hc,hd⟩,hp,kC.mono hi (cM _ (Uk.o W h.1))⟩
   rintro⟨X,vn,Q',qv,va,vm,vc⟩ K hK;go_simp;go_big_quiet_on
   repeat (refine bZ ?_;intro K hK;go_big_quiet_op;go_big_quiet_on)
   refine dP (γ:=Nat) (fun g=>.slice (some ⟨g,0,none⟩) 1 1) (fun g W=>((ct [bd] wr W/\cg w0 W bd)/\iE (mask W ([]++N++List.range n0)) [X] (some ⟨g,0,none⟩) 1 1)/\P X) (fun W hW h _=>?_) (fun x W W' hx h=>⟨⟨⟨h.1.1.1.then (hx.cR _),h.1.1.2.ext hx⟩,h.1.2.mono (cF (hx.cR []) (by simp))⟩,h.2⟩) ?_ ⟨0⟩
   ·have HH:=ai h;have HYY:=ai (show ∀y∈[]++N++List.range n0,y<W.heap.size from fun y hy=>a43.1 (Uk.o W h.1.1 y hy));clear h;unfold bQ;go_simp;exact⟨((Tz W).alloc _).cR _,W.heap.size,rfl,⟨⟨HH.o.1.1.then (((Tz W).alloc _).cR _),HH.o.1.2.ext ((Tz W).alloc _)⟩,Jw (v:=⟨vn,Q',qv,va,vm,vc⟩) (bR W _) (fun hm=>a40 (HYY.o _ hm) (by omega)) (kC.mono HH.o.2.2 (cF (((Tz W).alloc _).cR []) (by simp)))⟩,HH.o.2.1⟩
   rintro g K hK;go_simp;go_big_quiet_on
   repeat (refine bZ ?_;intro K hK;go_big_quiet_op;go_big_quiet_on)
   refine dP (γ:=OA×Nat×List jf) (fun x=>.slice x.1 (un+1) x.2.1) (fun x W=>((ct (bd::N) wr W/\cg w0 W bd)/\W.ownsRow wa.heap.size 69 6 (.slice x.1 (un+1) x.2.1) (un+1) ((vs++x.2.2).flatMap jf.cells)/\mj (mask W ([]++rowOf (.slice x.1 (un+1) x.2.1)++List.range n0)) (L++[X]) (vs++x.2.2))/\P X) (fun W hW h _=>?_) (fun x W W' hx h=>⟨⟨⟨h.1.1.1.then (hx.cR _),h.1.1.2.ext hx⟩,cO h.1.2.1 (hx.cR []) (by simp),h.1.2.2.mono (cF (hx.cR []) (by simp))⟩,h.2⟩) ?_ ⟨(none,0,[])⟩
   ·exact(azB (pre:=[]) (M:=List.range n0) qP.o HOW.o (by rw[qP.o];exact CA.o) (by have:=HN.o;have:=pF.o;simp;omega) vt.o (by have:=HCr.o.size;omega) (fun y hy=>by have:=(qY.o y hy).1;have:=HN.o;have:=pF.o;omega) (by omega) h.1 rfl rfl).mono fun _ _ ⟨q1,x,q2,q3⟩=>⟨q1,x,q2,q3,h.2⟩
   rintro⟨ga,gc,us⟩ K hK;go_simp;go_big_quiet_on
   repeat (refine bZ ?_;intro K hK;go_big_quiet_op;go_big_quiet_on)
   refine nH fun w5 hc5 hy _=>?_
   obtain⟨⟨⟨-,oW⟩,ho5,hl5⟩,hpx⟩:=hy;dsimp only at ho5 hl5;have uV:=ai oW;have Da:=ai ho5;have HL5:=ai hl5;have N6:=ai (HGS.o X hpx);have pU:=ai (HCr.o.trans hc5 (fun y hy=>by
    rcases bz.1 hy with h|h
    ·exact aoX (by rw[h];simp)
    exact a4Z (qY.o y h).1))
   clear oW ho5 hl5 hpx hc5 S0 C0 C1 C2 C3 C4 C5 C6 C7 C8 C9 s0 sf c0 c1 c2 c3 c4 c5 c6 c7 c8 c9;go_wp2_with fail;go_roundw
   case rel=>exact⟨k+1,L++[X],vs++us,ga,un+1,gc,by go_num,rfl,by omega,by rw[bg,<-Nh.o];rfl,by omega,N6.o,Da.o,HL5.o,uV.o,pU.o⟩
   case measure=>simp[intOf];omega
  have t1:=ah ((k:Int)<(n:Int));have HQ:=ai (show OnQ (GdL A (l.filter (kr lo hi))) w0 bd w (.returned (.slice ua un uc)) wr from by
   have hgd:=R9.o;rw[aS (by have:=OX.o;omega)] at hgd;have e:=Nh.o;subst e;exact⟨L,vs,ua,uc,rfl,hgd,UF HOW.o (by have:=HN.o;omega),by rw[<-HN.o.1];exact CA.o,HDr.o,nS.o⟩)
  go_wp2_with fail;go_ret;exact HQ.o
theorem ars {s:List Attr} {l:List cK} {f:ZI} {w0:World} {bd:Nat} {sa:OA} {sn sc:Nat} {a:OA} {n c:Nat} {fa:OA} {fn:Nat} (fc:Nat) {w:World} (h:ajF s l f w0 bd sa sn sc a n c fa fn w) {x:cK} {v:fM} (hp:PvC s l x) (hc:ij (mask w [bd]) x v) :
  Calls Tryz.prog 64 #[.agg #[.slice sa sn sc],.slice a n c,.agg #[ v.kind,.string v.name,v.x.op,.string v.x.name,.slice v.x.aw v.x.nw v.x.cw,v.x.lo,v.x.hi,.slice v.x.aa v.x.na v.x.ca,.slice v.au v.nu v.cu,v.ck],.slice fa fn fc] w (cz (.bool (ke (val s l f) x)) w):=by
 have hs:=cC w [bd];have hv:=Dg h.ok h.fac h.fit fc (h.dat.1.mono hs) (h.dat.2.1.mono hs) (h.dat.2.2.mono hs);have hl:=ql x.gH;exact tJ hv.tr x v w (Tz w) hp.1 hp.2.1 (by have:=hp.2.2;omega) (hc.mono hs)
def MZ (A:Ex->Pr->Bool) (V:Ex->Bool) (cs:List cK) (b:Bool) (L:List Rs):Prop:=(L=[]/\∀x∈cs,ke V x≠b)\/∃r x,L=[r]/\x∈cs/\ke V x=b/\PbK A x.name x.cond x.gH r
theorem MZ.len {A:Ex->Pr->Bool} {V:Ex->Bool} {cs:List cK} {b:Bool} {L:List Rs} (h:MZ A V cs b L):L.length=0\/L.length=1:=by
 rcases h with ⟨rfl,_⟩|⟨r,x,rfl,_⟩
 ·exact aoX rfl
 exact a4Z rfl
theorem MZ.more {A:Ex->Pr->Bool} {V:Ex->Bool} {cs ds:List cK} {b:Bool} {L:List Rs} (h:MZ A V cs b L) (hd:L=[]->∀x∈ds,ke V x≠b):MZ A V (cs++ds) b L:=by
 rcases h with ⟨h1,h2⟩|⟨r,x,h1,h2,h3,h4⟩
 ·exact aoX ⟨h1,fun x hx=>(aN.1 hx).elim (h2 x) (hd h1 x)⟩
 exact a4Z ⟨r,x,h1,aN.2 (aoX h2),h3,h4⟩
theorem avb {s:List Attr} {l:List cK} {f:ZI} {w0:World} {bd:Nat} {sa:OA} {sn sc:Nat} {a:OA} {n c:Nat} {fa:OA} {fn:Nat} (fc:Nat) (kd:Int) (B:Bool) {w:World} (h:ajF s l f w0 bd sa sn sc a n c fa fn w) :
  Calls Tryz.prog 52 #[.pointer (some ⟨bd,0,none⟩),.agg #[.slice sa sn sc],.slice a n c,kd,.slice fa fn fc,.bool B] w (OnQ (MZ (CY s l f) (val s l f) (l.filter (fun x=>x.kind==kd)) B) w0 bd w):=by
 have HRE:=ai (fun (k:Nat) (hk:k<l.length) (v:fM) (W:World) (hW:ct [bd] w W) (hd:cg w0 W bd) (hc:ij (mask w [bd]) l[k] v)=>Ws fc (h.cR hW hd) (at4 h.ok _ (aD hk)) (hc.mono (cP hW (by simp))));have Gl:=ai (fun (k:Nat) (hk:k<l.length) (v:fM) (W:World) (hW:ct [bd] w W) (hd:cg w0 W bd) (hc:ij (mask w [bd]) l[k] v)=>ars fc (h.cR hW hd) (at4 h.ok _ (aD hk)) (hc.mono (cP hW (by simp))));have pF:=ai (show bd<w.heap.size/\w0.heap.size<=bd from⟨h.oA.lt,by obtain⟨_,_,_,_,_,_,_,_,_,q⟩:=h.oA;exact q⟩);have HDT:=ai h.dat;have OX:=ai (show n=l.length/\n<=1000000 by have h1:=h.dat.2.1.len;have h2:=(lK h.ok).len;omega);have yz:=ai h.oA;obtain⟨A,hA⟩:∃A,A=CY s l f:=⟨_,rfl⟩
 obtain⟨V,hV⟩:∃V,V=val s l f:=⟨_,rfl⟩
 rw[<-hA] at HRE ⊢;rw[<-hV] at Gl ⊢;clear h hA hV;obtain⟨n0,hn0⟩:∃n0,n0=w.heap.size:=⟨_,rfl⟩
 obtain⟨wa,cN⟩:∃wa,wa=w.alloc (.cells #[.slice sa sn sc] 24):=⟨_,rfl⟩
 have dm:=ai (show Ext w wa by rw[cN];exact(Tz _).alloc _);have HA:=ai (show wa.heap[n0]?=some (.cells #[.slice sa sn sc] 24 (0,0)) by rw[cN,hn0];exact bR w _);have HN:=ai (show n0=w.heap.size/\wa.heap.size=n0+1 from⟨hn0,by rw[cN,hn0];simp⟩);go_enter Tryz.func52,Tryz.ntmps52
 go_upto_region 1 with fail;rw[<-cN,<-hn0];clear cN hn0;have hnb:=OX.o.2;go_wp2_with fail;go_loopw [13,14] (fun lv i wr=>∃(k:Nat) (L:List Rs) (vs:List jf) (ua:OA) (un uc:Nat),i=.int .i64 k/\lv=.slice ua un uc/\k<=n/\un=L.length/\MZ A V ((l.take k).filter (fun x=>x.kind==kd)) B L/\wr.ownsRow wa.heap.size 69 6 (.slice ua un uc) un (vs.flatMap jf.cells)/\mj (mask wr (rowOf (.slice ua un uc)++List.range n0)) L vs/\cg w0 wr bd/\ct [bd] wa wr) (fun _ i _=>n - (intOf i).toNat)
 case atStart=>exact⟨0,[],[],none,0,0,rfl,rfl,Nat.zero_le _,rfl,aoX ⟨rfl,by simp⟩,a4' _ _ _ _,mj.nil _,yz.o.ext dm.o,ct.refl _ _⟩
 case round =>
  obtain⟨k,L,vs,ua,un,uc,rfl,rfl,hk,hun,hgd,how,sq,hd,hc⟩:=hrel;have R9:=ai hgd;have HOW:=ai how;have CA:=ai sq;have HDr:=ai hd;have HCr:=ai hc;have Nh:=ai hun;have nS:=ai ((dm.o.cR [bd]).then hc);have aTv:=ai (show n0∉[bd] by have:=HN.o;have:=pF.o;simp;omega);have HAr:=ai (hc.blk HA.o aTv.o);clear hgd how sq hd hc hun;by_cases hkn:k<n
  ·have fq:k<l.length:=by have:=OX.o;omega
   have t1:=ag ((k:Int)<(n:Int));have tk0:(0:Int)<=(k:Int):=by omega
   have tk1:(k:Int)<(n:Int):=by omega
   obtain⟨b,off,v,rfl,agL,Oe⟩:=HDT.o.2.1.at fq;have rO:b∉[bd]:=fun hm=>by have c0:=Oe.BB.1;rw[eA,bM hm] at c0;cases c0
   have DK:b<w.heap.size:=eB (Oe.mono (cC _ _)).BB.1;obtain⟨c0,c1,c2,c3,c4,c5,c6,c7,c8,c9⟩:=(Oe.mono (cC _ _)).BB
   replace c0:=nS.o.cell c0 rO
   replace c1:=nS.o.cell c1 rO
   replace c2:=nS.o.cell c2 rO
   replace c3:=nS.o.cell c3 rO
   replace c4:=nS.o.cell c4 rO
   replace c5:=nS.o.cell c5 rO
   replace c6:=nS.o.cell c6 rO
   replace c7:=nS.o.cell c7 rO
   replace c8:=nS.o.cell c8 rO
   replace c9:=nS.o.cell c9 rO
   have pX:=ai (And.intro aTv.o rO);have qC:=ai agL;have HAK:=ai (fun (W:World) (hW:ct [bd] wr W) (hd:cg w0 W bd)=>Gl.o k fq v W (nS.o.then hW) hd agL);obtain⟨T,hT⟩:∃T,T=ke V l[k]:=⟨_,rfl⟩
   rw[<-hT] at HAK;have HTV:=ai hT;have uF:=ai (show (l.take (k+1)).filter (fun x=>x.kind==kd)=if (v.kind==kd)=true then (l.take k).filter (fun x=>x.kind==kd)++[l[k]] else (l.take k).filter (fun x=>x.kind==kd) by
    rw[aO fq,List.filter_append,List.filter_cons,agL.1];split<;>simp)
   clear agL Oe DK rO hT;go_upto_region 5 with fail;rcases tC:(v.kind==kd) with _|_
   ·have HF:=ai (show MZ A V ((l.take (k+1)).filter (fun x=>x.kind==kd)) B L by rw[uF.o,tC];exact R9.o);obtain⟨s0,sf⟩:=dO HAr.o;have C0:=bT c0;refine kT 29 ?_
    repeat first|(refine bZ ?_;intro K hK;go_big_quiet_op;go_big_quiet_on)|(refine zX ?_;intro K hK;go_simp;go_big_quiet_on)
    refine gC fun w5 dh _ _=>?_
    have gW:=ai dh;clear dh C0 s0 sf c0 c1 c2 c3 c4 c5 c6 c7 c8 c9;go_wp2_with fail;go_roundw
    case rel=>exact⟨k+1,L,vs,ua,un,uc,by go_num,rfl,by omega,Nh.o,HF.o,cO HOW.o (gW.o.cR []) (by simp),CA.o.mono (cF (gW.o.cR []) (by simp)),HDr.o.ext gW.o,HCr.o.then (gW.o.cR _)⟩
    case measure=>simp[intOf];omega
   have WL:=ai (show (l.take (k+1)).filter (fun x=>x.kind==kd)=(l.take k).filter (fun x=>x.kind==kd)++[l[k]] by rw[uF.o,tC];rfl);clear uF;obtain⟨s0,sf⟩:=dO HAr.o;by_cases hTB:T=B
   case neg =>
    have tq:(T==B)=false:=by simp[hTB]
    have HF:=ai (show MZ A V ((l.take (k+1)).filter (fun x=>x.kind==kd)) B L by rw[WL.o];exact R9.o.more (fun _ x hx=>by rw[aG.1 hx,<-HTV.o];exact hTB));clear hTB;obtain⟨S0,C0,C1,C2,C3,C4⟩:=wcn6 s0 c0 c1 c2 c3 c4;obtain⟨C5,C6,C7⟩:=wcn3 c5 c6 c7;have C8:=bT c8;have C9:=bT c9;refine kT 29 ?_
    repeat (refine bZ ?_;intro K hK;go_big_quiet_op;go_big_quiet_on)
    refine mU (fun W hW=>HAK.o W (hW.cR _) (HDr.o.ext hW)) ?_;intro K hK;go_simp;go_big_quiet_on
    repeat first|(refine bZ ?_;intro K hK;go_big_quiet_op;go_big_quiet_on)|(refine zX ?_;intro K hK;go_simp;go_big_quiet_on)
    refine gC fun w5 dh _ _=>?_
    have gW:=ai dh;clear dh S0 C0 C1 C2 C3 C4 C5 C6 C7 C8 C9 s0 sf c0 c1 c2 c3 c4 c5 c6 c7 c8 c9;go_wp2_with fail;go_roundw
    case rel=>exact⟨k+1,L,vs,ua,un,uc,by go_num,rfl,by omega,Nh.o,HF.o,cO HOW.o (gW.o.cR []) (by simp),CA.o.mono (cF (gW.o.cR []) (by simp)),HDr.o.ext gW.o,HCr.o.then (gW.o.cR _)⟩
    case measure=>simp[intOf];omega
   have tq:(T==B)=true:=by simp[hTB]
   obtain⟨P,hP⟩:∃P,P=PbK A l[k].name l[k].cond l[k].gH:=⟨_,rfl⟩
   have HP:=ai hP;clear hP;have HGS:=ai (show ∀X,P X->MZ A V ((l.take (k+1)).filter (fun x=>x.kind==kd)) B [X] from fun X hX=>a4Z ⟨X,l[k],rfl,by rw[WL.o];simp,by rw[<-HTV.o];exact hTB,by rw[<-HP.o];exact hX⟩);have aJ3:=R9.o.len;rw[<-Nh.o] at aJ3;clear hTB;rcases aJ3 with h0|h1
   ·have tu:((un:Int)==0)=true:=by simp[h0]
    obtain⟨S0,C0,C1,C2,C3,C4⟩:=wcn6 s0 c0 c1 c2 c3 c4;obtain⟨C5,C6,C7⟩:=wcn3 c5 c6 c7;have C8:=bT c8;have C9:=bT c9;clear h0;refine kT 29 ?_
    repeat (refine bZ ?_;intro K hK;go_big_quiet_op;go_big_quiet_on)
    refine mU (fun W hW=>HAK.o W (hW.cR _) (HDr.o.ext hW)) ?_;intro K hK;go_simp;go_big_quiet_on
    repeat first|(refine bZ ?_;intro K hK;go_big_quiet_op;go_big_quiet_on)|(refine zX ?_;intro K hK;go_simp;go_big_quiet_on)
    refine gC fun w6 gN _ _=>?_
    have sK:=ai (nS.o.then (gN.cR _));have He:=ai (HCr.o.then (gN.cR _));have HSW:=ai (show wa.heap.size<=w6.heap.size from aV HCr.o.size gN.size);have ER:=ai (HDr.o.ext gN);have Ru:=ai (gN.blk HAr.o)
    replace c0:=gN.cell c0
    replace c1:=gN.cell c1
    replace c2:=gN.cell c2
    replace c3:=gN.cell c3
    replace c4:=gN.cell c4
    replace c5:=gN.cell c5
    replace c6:=gN.cell c6
    replace c7:=gN.cell c7
    replace c8:=gN.cell c8
    replace c9:=gN.cell c9
    clear gN S0 C0 C1 C2 C3 C4 C5 C6 C7 C8 C9 s0 sf tu;go_upto_region 6 with fail;have OO:=ai (fun (W:World) (hW:ct [bd] w6 W) (hd:cg w0 W bd)=>HRE.o k fq v W (sK.o.then hW) hd qC.o);rw[<-HP.o] at OO;have asB:=ai (show w.heap.size<=w6.heap.size/\wa.heap.size<=w6.heap.size from⟨sK.o.size,HSW.o⟩);obtain⟨s0,sf⟩:=dO Ru.o;have S0:=cU s0 pX.o.1
    replace c0:=cU c0 pX.o.2
    replace c1:=cU c1 pX.o.2
    replace c2:=cU c2 pX.o.2
    replace c3:=cU c3 pX.o.2
    replace c4:=cU c4 pX.o.2
    replace c5:=cU c5 pX.o.2
    replace c6:=cU c6 pX.o.2
    replace c7:=cU c7 pX.o.2
    replace c8:=cU c8 pX.o.2
    replace c9:=cU c9 pX.o.2
    refine pT 11 [bd] (fun W=>ct [bd] w6 W/\cg w0 W bd) ⟨(Tz _).drew.cR _,ER.o.ext (Tz _).drew⟩ (fun _ _ hx h=>⟨h.1.then (hx.cR _),h.2.ext hx⟩) ?_
    repeat (refine bZ ?_;intro K hK;go_big_quiet_op;go_big_quiet_on)
    refine dP (γ:=Rs×jf) (fun x=>.agg #[.string x.2.name,.bool x.2.dg,.bool x.2.p.value,x.2.p.pick,.slice x.2.p.a x.2.p.n x.2.p.c,.slice x.2.a x.2.n x.2.c]) (fun x W=>(ct [bd] w6 W/\cg w0 W bd)/\P x.1/\kC (mask W (List.range w6.heap.size)) x.1 x.2) (fun W hW h _=>?_) (fun x W W' hx h=>⟨⟨h.1.1.then (hx.cR _),h.1.2.ext hx⟩,h.2.1,kC.mono h.2.2 (cF (hx.cR []) (by simp))⟩) ?_ ⟨(.mk ⟨#[]⟩ false (.mk false 0 []) [],⟨⟨#[]⟩,false,⟨false,0,none,0,0⟩,none,0,0⟩)⟩
    ·unfold bQ;go_simp;have hsz:=h.1.size;refine(OO.o W h.1 h.2).mono ?_;rintro r wz ⟨X,xv,rfl,hp,hi,hd,hc⟩;exact⟨_,rfl,hc,(X,xv),rfl,⟨h.1.then hc,hd⟩,hp,kC.mono hi (cM _ (fun y hy=>by rw[a43] at hy ⊢;omega))⟩
    rintro⟨X,vn,Q',qv,va,vm,vc⟩ K hK;go_simp;go_big_quiet_on
    repeat (refine bZ ?_;intro K hK;go_big_quiet_op;go_big_quiet_on)
    refine dP (γ:=Nat) (fun g=>.slice (some ⟨g,0,none⟩) 1 1) (fun g W=>(ct [bd] w6 W/\cg w0 W bd)/\P X/\w6.heap.size<=g/\W.heap[g]?=some (.cells (jf.cells ⟨vn,Q',qv,va,vm,vc⟩).toArray 69 (0,0))/\kC (mask W (g::List.range n0)) X ⟨vn,Q',qv,va,vm,vc⟩) (fun W hW h _=>?_) (fun x W W' hx h=>⟨⟨h.1.1.then (hx.cR _),h.1.2.ext hx⟩,h.2.1,h.2.2.1,hx.blk h.2.2.2.1,kC.mono h.2.2.2.2 (cF (hx.cR []) (by simp))⟩) ?_ ⟨0⟩
    ·have HH:=ai h;have HYY:=ai h.1.1.size;clear h;unfold bQ;go_simp;exact⟨((Tz W).alloc _).cR _,W.heap.size,rfl,⟨HH.o.1.1.then (((Tz W).alloc _).cR _),HH.o.1.2.ext ((Tz W).alloc _)⟩,HH.o.2.1,HYY.o,bR W _,kC.mono (kC.mono HH.o.2.2 (Ch (fun y hy=>by have:=HN.o;have:=asB.o;rw[a43] at hy ⊢;omega) (a4Z (aU _)))) (cF (((Tz W).alloc _).cR []) (by simp))⟩
    rintro g K hK;go_simp;go_big_quiet_on
    repeat (refine bZ ?_;intro K hK;go_big_quiet_op;go_big_quiet_on)
    refine gC fun w7 rE hy _=>?_
    obtain⟨⟨-,hd7⟩,hpx,zR,hg2,hg3⟩:=hy;have EP:=ai hd7;have VJ:=ai (Ka (base:=wa.heap.size) hg2 (aV asB.o.2 zR));have WM:=ai (show mj (mask w7 (rowOf (.slice (some ⟨g,0,none⟩) 1 1)++List.range n0)) [X] [⟨vn,Q',qv,va,vm,vc⟩] from(mj.nil _).snoc hg3);have HG7:=ai (HGS.o X hpx);have Bv:=ai (He.o.then rE);clear hd7 hpx zR hg2 hg3 rE S0 s0 sf c0 c1 c2 c3 c4 c5 c6 c7 c8 c9;go_wp2_with fail;go_roundw
    case rel=>exact⟨k+1,[X],[⟨vn,Q',qv,va,vm,vc⟩],some ⟨g,0,none⟩,1,1,by go_num,rfl,by omega,rfl,HG7.o,VJ.o,WM.o,EP.o,Bv.o⟩
    case measure=>simp[intOf];omega
   have tu:((un:Int)==0)=false:=by simp[h1]
   have HU1:=ai h1;have S0:=cU s0 pX.o.1;obtain⟨C0,C1,C2,C3,C4,C5⟩:=wgn6 pX.o.2 c0 c1 c2 c3 c4 c5;obtain⟨C6,C7,C8⟩:=wgn3 pX.o.2 c6 c7 c8;have C9:=cU c9 pX.o.2;clear h1;refine pT 29 [bd] (fun W=>cg w0 W bd) (HDr.o.ext (Tz _).drew) (fun _ _ hx h=>h.ext hx) ?_
   repeat (refine bZ ?_;intro K hK;go_big_quiet_op;go_big_quiet_on)
   refine fZ (.bool T) (fun W=>cg w0 W bd) (fun W hW hd _=>?_) (fun _ _ hx h=>h.ext hx) ?_
   ·unfold bQ;go_simp;refine(HAK.o W hW hd).mono ?_;rintro r wz ⟨rfl,hz⟩;exact⟨_,rfl,hz.cR _,rfl,hd.ext hz⟩
   intro K hK;go_simp;go_big_quiet_on
   repeat (refine bZ ?_;intro K hK;go_big_quiet_op;go_big_quiet_on)
   refine dP (γ:=Int) (fun z=>.int .i64 z) (fun z W=>cg w0 W bd) (fun W hW hd _=>?_) (fun _ _ _ hx h=>h.ext hx) ?_ ⟨0⟩
   ·unfold bQ;go_simp;refine(dx hd 2 (by omega) (by omega)).mono ?_;rintro r wz ⟨z,rfl,-,-,hdz,U0⟩;exact⟨_,rfl,U0,z,rfl,hdz⟩
   intro z K hK;go_simp;go_big_quiet_on
   repeat (refine bZ ?_;intro K hK;go_big_quiet_op;go_big_quiet_on)
   refine gC fun w6 pI Ku _=>?_
   have sK:=ai (nS.o.then pI);have He:=ai (HCr.o.then pI);have Lb:=ai pI;have HSW:=ai (show wa.heap.size<=w6.heap.size from aV HCr.o.size pI.size);have ER:=ai Ku;have Ru:=ai (pI.blk HAr.o pX.o.1)
   replace c0:=pI.cell c0 pX.o.2
   replace c1:=pI.cell c1 pX.o.2
   replace c2:=pI.cell c2 pX.o.2
   replace c3:=pI.cell c3 pX.o.2
   replace c4:=pI.cell c4 pX.o.2
   replace c5:=pI.cell c5 pX.o.2
   replace c6:=pI.cell c6 pX.o.2
   replace c7:=pI.cell c7 pX.o.2
   replace c8:=pI.cell c8 pX.o.2
   replace c9:=pI.cell c9 pX.o.2
   clear pI Ku S0 C0 C1 C2 C3 C4 C5 C6 C7 C8 C9 s0 sf tu;by_cases hz:z=1
   case neg =>
    have tz:(z==1)=false:=by simp[hz]
    have HF:=ai (show MZ A V ((l.take (k+1)).filter (fun x=>x.kind==kd)) B L by
     rw[WL.o];refine R9.o.more (fun h=>?_);have:=Nh.o;rw[h] at this;exact a40 this (by rw[HU1.o];decide))
    clear hz c0 c1 c2 c3 c4 c5 c6 c7 c8 c9;go_wp2_with fail;go_roundw
    case rel=>exact⟨k+1,L,vs,ua,un,uc,by go_num,rfl,by omega,Nh.o,HF.o,cO HOW.o Lb.o (fun q hq hm=>by rw[aG.1 hm] at hq;have:=(HOW.o.lt bd hq).1;have:=HN.o;have:=pF.o;omega),CA.o.mono (cF Lb.o (fun y hy=>aoX (by rw[aG.1 hy];have:=HN.o;have:=pF.o;simp;omega))),ER.o,He.o⟩
    case measure=>simp[intOf];omega
   have tz:(z==1)=true:=by simp[hz]
   clear hz;go_upto_region 6 with fail;have OO:=ai (fun (W:World) (hW:ct [bd] w6 W) (hd:cg w0 W bd)=>HRE.o k fq v W (sK.o.then hW) hd qC.o);rw[<-HP.o] at OO;have asB:=ai (show w.heap.size<=w6.heap.size/\wa.heap.size<=w6.heap.size from⟨sK.o.size,HSW.o⟩);obtain⟨s0,sf⟩:=dO Ru.o;have S0:=cU s0 pX.o.1
   replace c0:=cU c0 pX.o.2
   replace c1:=cU c1 pX.o.2
   replace c2:=cU c2 pX.o.2
   replace c3:=cU c3 pX.o.2
   replace c4:=cU c4 pX.o.2
   replace c5:=cU c5 pX.o.2
   replace c6:=cU c6 pX.o.2
   replace c7:=cU c7 pX.o.2
   replace c8:=cU c8 pX.o.2
   replace c9:=cU c9 pX.o.2
   refine pT 11 [bd] (fun W=>ct [bd] w6 W/\cg w0 W bd) ⟨(Tz _).drew.cR _,ER.o.ext (Tz _).drew⟩ (fun _ _ hx h=>⟨h.1.then (hx.cR _),h.2.ext hx⟩) ?_
   repeat (refine bZ ?_;intro K hK;go_big_quiet_op;go_big_quiet_on)
   refine dP (γ:=Rs×jf) (fun x=>.agg #[.string x.2.name,.bool x.2.dg,.bool x.2.p.value,x.2.p.pick,.slice x.2.p.a x.2.p.n x.2.p.c,.slice x.2.a x.2.n x.2.c]) (fun x W=>(ct [bd] w6 W/\cg w0 W bd)/\P x.1/\kC (mask W (List.range w6.heap.size)) x.1 x.2) (fun W hW h _=>?_) (fun x W W' hx h=>⟨⟨h.1.1.then (hx.cR _),h.1.2.ext hx⟩,h.2.1,kC.mono h.2.2 (cF (hx.cR []) (by simp))⟩) ?_ ⟨(.mk ⟨#[]⟩ false (.mk false 0 []) [],⟨⟨#[]⟩,false,⟨false,0,none,0,0⟩,none,0,0⟩)⟩
   ·unfold bQ;go_simp;have hsz:=h.1.size;refine(OO.o W h.1 h.2).mono ?_;rintro r wz ⟨X,xv,rfl,hp,hi,hd,hc⟩;exact⟨_,rfl,hc,(X,xv),rfl,⟨h.1.then hc,hd⟩,hp,kC.mono hi (cM _ (fun y hy=>by rw[a43] at hy ⊢;omega))⟩
   rintro⟨X,vn,Q',qv,va,vm,vc⟩ K hK;go_simp;go_big_quiet_on
   repeat (refine bZ ?_;intro K hK;go_big_quiet_op;go_big_quiet_on)
   refine dP (γ:=Nat) (fun g=>.slice (some ⟨g,0,none⟩) 1 1) (fun g W=>(ct [bd] w6 W/\cg w0 W bd)/\P X/\w6.heap.size<=g/\W.heap[g]?=some (.cells (jf.cells ⟨vn,Q',qv,va,vm,vc⟩).toArray 69 (0,0))/\kC (mask W (g::List.range n0)) X ⟨vn,Q',qv,va,vm,vc⟩) (fun W hW h _=>?_) (fun x W W' hx h=>⟨⟨h.1.1.then (hx.cR _),h.1.2.ext hx⟩,h.2.1,h.2.2.1,hx.blk h.2.2.2.1,kC.mono h.2.2.2.2 (cF (hx.cR []) (by simp))⟩) ?_ ⟨0⟩
   ·have HH:=ai h;have HYY:=ai h.1.1.size;clear h;unfold bQ;go_simp;exact⟨((Tz W).alloc _).cR _,W.heap.size,rfl,⟨HH.o.1.1.then (((Tz W).alloc _).cR _),HH.o.1.2.ext ((Tz W).alloc _)⟩,HH.o.2.1,HYY.o,bR W _,kC.mono (kC.mono HH.o.2.2 (Ch (fun y hy=>by have:=HN.o;have:=asB.o;rw[a43] at hy ⊢;omega) (a4Z (aU _)))) (cF (((Tz W).alloc _).cR []) (by simp))⟩
   rintro g K hK;go_simp;go_big_quiet_on
   repeat (refine bZ ?_;intro K hK;go_big_quiet_op;go_big_quiet_on)
   refine gC fun w7 rE hy _=>?_
   obtain⟨⟨-,hd7⟩,hpx,zR,hg2,hg3⟩:=hy;have EP:=ai hd7;have VJ:=ai (Ka (base:=wa.heap.size) hg2 (aV asB.o.2 zR));have WM:=ai (show mj (mask w7 (rowOf (.slice (some ⟨g,0,none⟩) 1 1)++List.range n0)) [X] [⟨vn,Q',qv,va,vm,vc⟩] from(mj.nil _).snoc hg3);have HG7:=ai (HGS.o X hpx);have Bv:=ai (He.o.then rE);clear hd7 hpx zR hg2 hg3 rE S0 s0 sf c0 c1 c2 c3 c4 c5 c6 c7 c8 c9;go_wp2_with fail;go_roundw
   case rel=>exact⟨k+1,[X],[⟨vn,Q',qv,va,vm,vc⟩],some ⟨g,0,none⟩,1,1,by go_num,rfl,by omega,rfl,HG7.o,VJ.o,WM.o,EP.o,Bv.o⟩
   case measure=>simp[intOf];omega
  have t1:=ah ((k:Int)<(n:Int));have HQ:=ai (show OnQ (MZ A V (l.filter (fun x=>x.kind==kd)) B) w0 bd w (.returned (.slice ua un uc)) wr from by
   have hgd:=R9.o;rw[aS (by have:=OX.o;omega)] at hgd;have e:=Nh.o;subst e;exact⟨L,vs,ua,uc,rfl,hgd,UF HOW.o (by have:=HN.o;omega),by rw[<-HN.o.1];exact CA.o,HDr.o,nS.o⟩)
  go_wp2_with fail;go_ret;exact HQ.o
theorem UG (k:Int) (l:List cK):l.filter (fun x=>x.kind==k)=kS [k] l:=by
 unfold kS
 congr 1
 funext x
 simp[eq_comm,Bool.beq_eq_decide_eq]
theorem amW (k:Int) (l:List cK):l.filter (kr k k)=kS [k] l:=by
 rw[<-UG]
 congr 1
 funext x
 unfold kr;by_cases h:x.kind=k
 ·simp[h]
 have:(x.kind==k)=false:=by simpa using h
 rw[this];simp only[Bool.and_eq_false_iff,bI];omega
theorem aCX (l:List cK):l.filter (kr 5 9)=kS lJ l:=by
 unfold kS
 congr 1
 funext x
 unfold kr lJ;simp only[List.any_cons,List.any_nil,Bool.or_false];rw[bH];simp only[aF,aH,bG,a47];omega
def aco (A:Ex->Pr->Bool) (V:Ex->Bool) (l:List cK) (L:List Rs):Prop :=
 if (CN V l).oP=1 then GdL A (kS [2] l) L
 else ∃r1 r2,L=r1++r2/\MZ A V (kS [2] l) true r1/\(if (CN V l).oP=2 then MZ A V (kS [4] l) false r2
  else ∃r3 r4,r2=r3++r4/\GdL A (kS [4] l) r3/\(if (CN V l).oP=3 then MZ A V (kS [3] l) true r4
   else ∃r5 r6,r4=r5++r6/\GdL A (kS [3] l) r5/\GdL A (kS lJ l) r6))
def GvQ (V:Ex->Bool) (G:List Rs->Prop) (l:List cK) (w0:World) (bd:Nat) (w:World) (e:Ending) (w':World):Prop:=∃(L:List Rs) (a:OA) (c:Nat),e=.returned (.agg #[.int .i64 (CN V l).oP,.int .i64 (CN V l).lim,.int .i64 (CN V l).xV,.int .i64 (CN V l).xU,.int .i64 (CN V l).xN,.bool (CN V l).Bt,.slice a L.length c])/\G L/\L.length<=5000000/\iE (mask w' (List.range w.heap.size)) L a L.length c/\cg w0 w' bd/\ct [bd] w w'
theorem anf {w0 w W:World} {bd b8:Nat} {L:List Rs} {a:OA} {c:Nat} {v0 v1 v2 v3 v4 v5 v6:Value} (hb:W.heap[b8]?=some (.cells #[.int .i64 0,.int .i64 0,.int .i64 0,.int .i64 0,.int .i64 0,.bool false,.slice none 0 0] 57 (0,0))) (hd:cg w0 W bd) (hc:ct [bd] w W) (h1:w.heap.size<=b8) (h2:bd≠b8) (h3:w0.heap.size<=b8) (hr:iE (mask W (b8::List.range w.heap.size)) L a L.length c) :
  (j5 W b8 v0 v1 v2 v3 v4 v5 v6).heap[b8]?=some (.cells #[v0,v1,v2,v3,v4,v5,v6] 57 (0,0))/\iE (mask (j5 W b8 v0 v1 v2 v3 v4 v5 v6) (List.range w.heap.size)) L a L.length c/\cg w0 (j5 W b8 v0 v1 v2 v3 v4 v5 v6) bd/\ct [bd] w (j5 W b8 v0 v1 v2 v3 v4 v5 v6):=by
 have hp:ct [b8] W (j5 W b8 v0 v1 v2 v3 v4 v5 v6):=pW W b8;exact⟨sU hb,(hr.mono (cF hp (fun y hy=>aoX (by rw[aG.1 hy];simp)))).mono (cM _ (fun y hy=>aZ _ hy)),hd.cR hp (by simpa using h2) (fun y hy=>by rw[aG.1 hy];exact h3),hc.trans hp (fun y hy=>a4Z (by rw[aG.1 hy];exact h1))⟩
structure GSt (w0 w:World) (bd n0 b9 n3 n1:Nat) (sa:OA) (sn sc:Nat) (D:rT) (W:World) (va:OA) (k vc:Nat) (VS:List jf) (L:List Rs) (m:Nat):Prop where
 hb:W.heap[b9]?=some (.cells #[ D.oP,D.lim,D.xV,D.xU,D.xN,.bool D.Bt,.slice va k vc] 57 (0,0))
 h5:W.heap[n0]?=some (.cells #[.slice sa sn sc] 24 (0,0))
 h8:W.heap[n0+1]?=some (.cells #[.int .i64 0,.int .i64 0,.int .i64 0,.int .i64 0,.int .i64 0,.bool false,.slice none 0 0] 57 (0,0))
 ho:W.ownsRow n1 69 6 (.slice va k vc) k (VS.flatMap jf.cells)
 hl:mj (mask W ([b9]++rowOf (.slice va k vc)++List.range n3)) L VS
 hd:cg w0 W bd
 hc:ct [bd] w W
 hs:n1<=W.heap.size
 hk:k=L.length
 hm:k<=m
def GNm (w0 w:World) (bd n0 b9 n3 n1:Nat):Prop:=bd<w.heap.size/\w0.heap.size<=bd/\n0=w.heap.size/\n3=n0+2/\n3<=b9/\b9<n1
def GC (bd:Nat) (w0 wi:World) (K:ZN) (P:List Rs->Prop) (x:OA×Nat×Nat×List Rs) (W:World):Prop:=((ct [bd] wi W/\cg w0 W bd)/\iE (mask W K) x.2.2.2 x.1 x.2.1 x.2.2.1)/\P x.2.2.2/\x.2.1=x.2.2.2.length
theorem GC.ext {bd:Nat} {w0 wi W W':World} {K:ZN} {P:List Rs->Prop} {x:OA×Nat×Nat×List Rs} (h:GC bd w0 wi K P x W) (hx:Ext W W'):GC bd w0 wi K P x W':=⟨⟨⟨h.1.1.1.then (hx.cR _),h.1.1.2.ext hx⟩,h.1.2.mono (cF (hx.cR []) (by simp))⟩,h.2⟩
def GA (bd:Nat) (w0 wi:World) (b9 n3 n1 k rn:Nat) (N:ZN) (VS:List jf) (L R:List Rs) (P:List Rs->Prop) (x:OA×Nat×List jf) (W:World):Prop:=((ct (bd::N) wi W/\cg w0 W bd)/\W.ownsRow n1 69 6 (.slice x.1 (k+rn) x.2.1) (k+rn) ((VS++x.2.2).flatMap jf.cells)/\mj (mask W ([b9]++rowOf (.slice x.1 (k+rn) x.2.1)++List.range n3)) (L++R) (VS++x.2.2))/\P R/\rn=R.length
theorem GA.ext {bd:Nat} {w0 wi W W':World} {b9 n3 n1 k rn:Nat} {N:ZN} {VS:List jf} {L R:List Rs} {P:List Rs->Prop} {x:OA×Nat×List jf} (h:GA bd w0 wi b9 n3 n1 k rn N VS L R P x W) (hx:Ext W W'):GA bd w0 wi b9 n3 n1 k rn N VS L R P x W':=⟨⟨⟨h.1.1.1.then (hx.cR _),h.1.1.2.ext hx⟩,cO h.1.2.1 (hx.cR []) (by simp),h.1.2.2.mono (cF (hx.cR []) (by simp))⟩,h.2⟩
section
variable {w0 w wi W W':World} {bd n0 b9 n3 n1:Nat} {sa:OA} {sn sc:Nat} {D:rT} {va:OA} {k vc:Nat} {VS:List jf} {L:List Rs} {m:Nat} {P:List Rs->Prop}
theorem GSt.out (hn:GNm w0 w bd n0 b9 n3 n1) (h:GSt w0 w bd n0 b9 n3 n1 sa sn sc D W va k vc VS L m):bd∉rowOf (.slice va k vc)/\b9∉bd::rowOf (.slice va k vc)/\n0∉bd::rowOf (.slice va k vc)/\n0+1∉bd::rowOf (.slice va k vc)/\∀y∈rowOf (.slice va k vc),n1<=y/\y<W.heap.size:=by
 obtain⟨q1,q2,q3,q4,q5,q6⟩:=hn;have hN:∀y∈rowOf (.slice va k vc),n1<=y/\y<W.heap.size:=fun y hy=>h.ho.lt y (bV.1 hy)
 have hx:∀y,y<n1->y≠bd->y∉bd::rowOf (.slice va k vc):=fun y h1 h2 hm=>by
  rcases bz.1 hm with e|e
  ·exact h2 e
  have:=(hN y e).1;omega
 exact⟨fun hm=>by have:=(hN _ hm).1;omega,hx _ q6 (by omega),hx _ (by omega) (by omega),hx _ (by omega) (by omega),hN⟩
theorem GSt.call (hn:GNm w0 w bd n0 b9 n3 n1) (h:GSt w0 w bd n0 b9 n3 n1 sa sn sc D wi va k vc VS L m) (hW:ct [bd] wi W) {r:Ending} {wz:World} (q:OnQ P w0 bd W r wz):∃u,r=.returned u/\aGy (ct (bd::rowOf (.slice va k vc))) (fun x=>.slice x.1 x.2.1 x.2.2.1) (GC bd w0 wi ([b9]++rowOf (.slice va k vc)++List.range n3) P) W u wz:=by
 obtain⟨-,-,-,-,hN⟩:=h.out hn;obtain⟨q1,q2,q3,q4,q5,q6⟩:=hn;obtain⟨R,vs,a',c',rfl,hp,ho,hr,hd,hc⟩:=q;have hsz:=hW.size;have hs:=h.hs;have hK:∀y∈[b9]++rowOf (.slice va k vc)++List.range n3,y<W.heap.size:=fun y hy=>by
  simp only[a48,List.nil_append,bz,aN,a43] at hy;rcases hy with rfl|hy|hy
  ·omega
  ·have:=(hN y hy).2;omega
  omega
 exact⟨_,rfl,hc.weak (by simp),(a',R.length,c',R),rfl,⟨⟨hW.then hc,hd⟩,tH ho rfl (fun q hq hm=>by have:=(ho.lt q hq).1;have:=hK q hm;omega) (hr.mono (cM _ (fun y hy=>aN.2 (a4Z (a43.2 (hK y hy))))))⟩,hp,rfl⟩
theorem GSt.app {ρ:Operand->Value} {dst:Option Tmp} {ty:TypeId} {pos:String} {after:Array Edge} {guard:Option (Nat×Bool)} {s x:Operand} {ra:OA} {rn rc:Nat} {R:List Rs} (hn:GNm w0 w bd n0 b9 n3 n1) (h:GSt w0 w bd n0 b9 n3 n1 sa sn sc D wi va k vc VS L m) (hc:GC bd w0 wi ([b9]++rowOf (.slice va k vc)++List.range n3) P (ra,rn,rc,R) W) (hP:∀R,P R->R.length<=1000000) (hm:m<=10000000) (hs:ρ s=.slice va k vc) (hx:ρ x=.slice ra rn rc) :
  bQ Tryz.prog { dst:=dst,op:=.call { callee:=.builtin .append,args:=#[s,x],argTypes:=#[55,55] },type:=ty,pos:=pos,after:=after,guard:=guard } ρ W (aGy (ct (bd::rowOf (.slice va k vc))) (fun x=>.slice x.1 (k+rn) x.2.1) (GA bd w0 wi b9 n3 n1 k rn (rowOf (.slice va k vc)) VS L R P) W):=by
 obtain⟨o1,o2,o3,o4,hN⟩:=h.out hn;obtain⟨q1,q2,q3,q4,q5,q6⟩:=hn;have e:rn=R.length:=hc.2.2;have hR:R.length<=1000000:=hP R hc.2.1;have hkm:=h.hm;have hkr:k+rn<=100000000:=by omega
 exact(azB (rn:=rn) (R:=R) (pre:=[b9]) (M:=List.range n3) rfl h.ho h.hl (by simp;omega) o1 h.hs (fun y hy=>by have:=(hN y hy).1;omega) hkr hc.1 hs hx).mono fun _ _ ⟨q1,x,q2,q3⟩=>⟨q1,x,q2,q3,hc.2⟩
theorem GSt.store {rn:Nat} {R:List Rs} {va':OA} {vc':Nat} {us:List jf} (hn:GNm w0 w bd n0 b9 n3 n1) (h:GSt w0 w bd n0 b9 n3 n1 sa sn sc D wi va k vc VS L m) (hc:ct (bd::rowOf (.slice va k vc)) wi W') (ha:GA bd w0 wi b9 n3 n1 k rn (rowOf (.slice va k vc)) VS L R P (va',vc',us) W') (hP:∀R,P R->R.length<=1000000) :
  W'.heap[b9]?=some (.cells #[ D.oP,D.lim,D.xV,D.xU,D.xN,.bool D.Bt,.slice va k vc] 57 (0,0))/\GSt w0 w bd n0 b9 n3 n1 sa sn sc D (W'.setCell ⟨b9,6,none⟩ (.slice va' (k+rn) vc')) va' (k+rn) vc' (VS++us) (L++R) (m+1000000)/\P R:=by
 obtain⟨o1,o2,o3,o4,hN⟩:=h.out hn;obtain⟨q1,q2,q3,q4,q5,q6⟩:=hn;obtain⟨⟨⟨-,hd⟩,ho,hl⟩,hp,pq⟩:=ha;dsimp only at ho hl;have hb':=hc.blk h.hb o2;have hcs:ct [b9] W' (W'.setCell ⟨b9,6,none⟩ (.slice va' (k+rn) vc')):=(ct.refl _ _).setCell (aoX (by simp)) _;have hR:=hP R hp;have hs:=h.hs;have h1:=hc.size;have h2:=hcs.size;refine⟨hb',⟨by rw[aI _ _ _ _ _ _ hb'];simp,hcs.blk (hc.blk h.h5 o3) (by simp;omega),hcs.blk (hc.blk h.h8 o4) (by simp;omega),cO ho hcs (fun q hq hm=>by rw[aG.1 hm] at hq;have:=(ho.lt b9 hq).1;omega),hl.mono (cF hcs (fun y hy=>aoX (by rw[aG.1 hy];simp))),hd.cR hcs (by simp;omega) (fun y hy=>by rw[aG.1 hy];omega),(h.hc.trans hc (fun y hy=>?_)).trans hcs (fun y hy=>a4Z (by rw[aG.1 hy];omega)),by omega,by rw[bg,<-h.hk,pq],by have:=h.hm;omega⟩,hp⟩;rcases bz.1 hy with e|e
 ·exact aoX (by rw[e];simp)
 exact a4Z (by have:=(hN y e).1;omega)
theorem GSt.first {D0:Value} {e:Ending} {W:World} (hn:GNm w0 w bd n0 b9 n3 n1) (hb:wi.heap[b9]?=some (.cells #[ D.oP,D.lim,D.xV,D.xU,D.xN,.bool D.Bt,D0] 57 (0,0))) (h5:wi.heap[n0]?=some (.cells #[.slice sa sn sc] 24 (0,0))) (h8:wi.heap[n0+1]?=some (.cells #[.int .i64 0,.int .i64 0,.int .i64 0,.int .i64 0,.int .i64 0,.bool false,.slice none 0 0] 57 (0,0))) (hc:ct [bd] w wi) (hs:n1=wi.heap.size) (hP:∀R,P R->R.length<=1000000) (h:OnQ P w0 bd wi e W) :
  ∃L VS va k vc,e=.returned (.slice va k vc)/\P L/\W.heap[b9]?=some (.cells #[ D.oP,D.lim,D.xV,D.xU,D.xN,.bool D.Bt,D0] 57 (0,0))/\GSt w0 w bd n0 b9 n3 n1 sa sn sc D (W.setCell ⟨b9,6,none⟩ (.slice va k vc)) va k vc VS L 1000000:=by
 obtain⟨q1,q2,q3,q4,q5,q6⟩:=hn;obtain⟨L,VS,va,vc,rfl,hp,ho,hr,hd,hc'⟩:=h;have hb':=hc'.blk hb (by simp;omega);have hcs:ct [b9] W (W.setCell ⟨b9,6,none⟩ (.slice va L.length vc)):=(ct.refl _ _).setCell (aoX (by simp)) _;have h1:=hc'.size;have h2:=hcs.size;exact⟨L,VS,va,L.length,vc,rfl,hp,hb',by rw[aI _ _ _ _ _ _ hb'];simp,hcs.blk (hc'.blk h5 (by simp;omega)) (by simp;omega),hcs.blk (hc'.blk h8 (by simp;omega)) (by simp;omega),cO (UF ho (b':=n1) (by omega)) hcs (fun q hq hm=>by rw[aG.1 hm] at hq;have:=(ho.lt b9 hq).1;omega),(hr.mono (cM _ (by intro y hy;simp only[a48,List.nil_append,bz,a43,aN] at hy ⊢;rcases hy with rfl|hy|hy<;>first|exact aoX hy|exact a4Z (by omega)))).mono (cF hcs (fun y hy=>aoX (by rw[aG.1 hy];simp))),hd.cR hcs (by simp;omega) (fun y hy=>by rw[aG.1 hy];omega),(hc.then hc').trans hcs (fun y hy=>a4Z (by rw[aG.1 hy];omega)),by omega,rfl,hP L hp⟩
theorem GSt.fin {V:Ex->Bool} {l:List cK} {G:List Rs->Prop} (hn:GNm w0 w bd n0 b9 n3 n1) (h:GSt w0 w bd n0 b9 n3 n1 sa sn sc D W va k vc VS L m) (hD:D=CN V l) (hG:G L) (hm:m<=5000000) :
  (j5 W (n0+1) (.int .i64 D.oP) (.int .i64 D.lim) (.int .i64 D.xV) (.int .i64 D.xU) (.int .i64 D.xN) (.bool D.Bt) (.slice va k vc)).heap[n0+1]?=some (.cells #[ D.oP,D.lim,D.xV,D.xU,D.xN,.bool D.Bt,.slice va k vc] 57 (0,0))/\GvQ V G l w0 bd w (.returned (.agg #[ D.oP,D.lim,D.xV,D.xU,D.xN,.bool D.Bt,.slice va k vc])) (j5 W (n0+1) (.int .i64 D.oP) (.int .i64 D.lim) (.int .i64 D.xV) (.int .i64 D.xU) (.int .i64 D.xN) (.bool D.Bt) (.slice va k vc)):=by
 obtain⟨q1,q2,q3,q4,q5,q6⟩:=hn;have e:=h.hk;subst e;have hf:=anf (w:=w) (v0:=.int .i64 D.oP) (v1:=.int .i64 D.lim) (v2:=.int .i64 D.xV) (v3:=.int .i64 D.xU) (v4:=.int .i64 D.xN) (v5:=.bool D.Bt) (v6:=.slice va L.length vc) h.h8 h.hd h.hc (by omega) (by omega) (by omega) (tH h.ho rfl (fun q hq hm=>by have:=(h.ho.lt q hq).1;simp only[bz,a43] at hm;omega) (h.hl.mono (cM _ (by intro y hy;simp only[bz,a43,aN] at hy ⊢;omega))));exact⟨hf.1,L,va,vc,by rw[<-hD],hG,aV h.hm hm,hf.2.1,hf.2.2.1,hf.2.2.2⟩
end
theorem aag {s:List Attr} {l:List cK} {f:ZI} {w0:World} {bd:Nat} {sa:OA} {sn sc:Nat} {a:OA} {n c:Nat} {fa:OA} {fn:Nat} (fc:Nat) {w:World} (h:ajF s l f w0 bd sa sn sc a n c fa fn w) :
  Calls Tryz.prog 24 #[.pointer (some ⟨bd,0,none⟩),.agg #[.slice sa sn sc],.slice a n c,.slice fa fn fc] w (GvQ (val s l f) (aco (CY s l f) (val s l f) l) l w0 bd w):=by
 have Il:=ai (fun (lo hi:Int) (W:World) (hW:ct [bd] w W) (hd:cg w0 W bd)=>ang fc lo hi (h.cR hW hd));have HON:=ai (fun (kd:Int) (B:Bool) (W:World) (hW:ct [bd] w W) (hd:cg w0 W bd)=>avb fc kd B (h.cR hW hd));have HVD:=ai (fun (W:World) (hW:ct [bd] w W)=>zI (Dg h.ok h.fac h.fit fc ((h.dat.cR hW).1.mono (cC _ _)) ((h.dat.cR hW).2.1.mono (cC _ _)) ((h.dat.cR hW).2.2.mono (cC _ _))) W (Tz W));have pF:=ai (show bd<w.heap.size/\w0.heap.size<=bd from⟨h.oA.lt,by obtain⟨_,_,_,_,_,_,_,_,_,q⟩:=h.oA;exact q⟩);have HPE:=ai (fun (lo hi:Int) (R:List Rs) (hp:GdL (CY s l f) (l.filter (kr lo hi)) R)=>show R.length<=1000000 by rw[Ei.len _ _ hp.1];have h1:=List.length_filter_le (kr lo hi) l;have h2:=(lK h.ok).len;omega);have YF:=ai (fun (cs:List cK) (B:Bool) (R:List Rs) (hp:MZ (CY s l f) (val s l f) cs B R)=>show R.length<=1000000 by have:=hp.len;omega);have yz:=ai h.oA;obtain⟨A,hA⟩:∃A,A=CY s l f:=⟨_,rfl⟩
 obtain⟨V,hV⟩:∃V,V=val s l f:=⟨_,rfl⟩
 have aNG:=ai (fun (W:World) (hW:ct [bd] w W)=>show Calls Tryz.prog 36 #[.agg #[.slice sa sn sc],.slice a n c,.slice fa fn fc] W (cz (.agg (CN V l).cells) W) from by rw[hV];exact HVD.o W hW);rw[<-hA] at Il HON HPE YF ⊢;rw[<-hV] at HON YF ⊢;obtain⟨D,hD⟩:∃D,D=CN V l:=⟨_,rfl⟩
 rw[<-hD] at aNG;have HDE:=ai hD;unfold rT.cells at aNG;clear h hA hV hD HVD;obtain⟨n0,hn0⟩:∃n0,n0=w.heap.size:=⟨_,rfl⟩
 obtain⟨w2,hw2⟩:∃w2,w2=(w.alloc (.cells #[.slice sa sn sc] 24)).alloc (.cells #[.int .i64 0,.int .i64 0,.int .i64 0,.int .i64 0,.int .i64 0,.bool false,.slice none 0 0] 57):=⟨_,rfl⟩
 have dN:=ai (show Ext w w2 by rw[hw2];exact((Tz _).alloc _).alloc _);have H52:=ai (show w2.heap[n0]?=some (.cells #[.slice sa sn sc] 24 (0,0)) by rw[hw2,hn0];exact bU (bR w _));have H82:=ai (show w2.heap[n0+1]?=some (.cells #[.int .i64 0,.int .i64 0,.int .i64 0,.int .i64 0,.int .i64 0,.bool false,.slice none 0 0] 57 (0,0)) by rw[hw2,hn0];exact cT (by simp));have HN2:=ai (show w2.heap.size=n0+2 by rw[hw2,hn0];simp);go_enter Tryz.func24,Tryz.ntmps24
 go_upto_region 1 with fail;rw[<-hw2,<-hn0];have HN0:=ai hn0;clear hw2 hn0;obtain⟨s0,sf⟩:=dO H52.o;go_wp2_with fail;refine(aNG.o w2 (dN.o.cR _)).mono ?_;rintro r w3 ⟨rfl,hx3⟩;go_upto_region 2 with fail;obtain⟨n3,hn3⟩:∃n3,n3=n0+2:=⟨_,rfl⟩
 obtain⟨b9,Bb⟩:∃b9,b9=w3.heap.size:=⟨_,rfl⟩
 obtain⟨w4,hw4⟩:∃w4,w4=w3.alloc (.cells #[ D.oP,D.lim,D.xV,D.xU,D.xN,.bool D.Bt,.slice none 0 0] 57):=⟨_,rfl⟩
 have gV:Ext w3 w4:=by rw[hw4];exact(Tz _).alloc _
 obtain⟨n1,Cr⟩:∃n1,n1=w4.heap.size:=⟨_,rfl⟩
 have HN:=ai (show n0=w.heap.size/\n3=n0+2/\n3<=b9/\b9<n1/\n1=w4.heap.size from⟨HN0.o,hn3,by have:=HN2.o;have:=hx3.size;omega,by rw[Cr,hw4,Bb];simp,Cr⟩);have AQ:=ai (show GNm w0 w bd n0 b9 n3 n1 from⟨pF.o.1,pF.o.2,HN.o.1,HN.o.2.1,HN.o.2.2.1,HN.o.2.2.2.1⟩);have qD:=ai (show w4.heap[b9]?=some (.cells #[ D.oP,D.lim,D.xV,D.xU,D.xN,.bool D.Bt,.slice none 0 0] 57 (0,0)) by rw[hw4,Bb];exact bR w3 _);have H54:=ai ((hx3.trans gV).blk H52.o);have H84:=ai ((hx3.trans gV).blk H82.o);have mo:=ai (((dN.o.trans hx3).trans gV).cR [bd]);have CJ:=ai (yz.o.ext ((dN.o.trans hx3).trans gV));rw[<-hw4,<-Bb];clear hw4 Bb hn3 Cr hx3 gV s0 sf H52 H82 dN HN2;obtain⟨s0,sf⟩:=dO H54.o;obtain⟨d0,d1,d2,d3,d4,d5,d6,df⟩:=gR qD.o;by_cases hv1:D.oP=1
 case pos =>
  have t1:(D.oP==1)=true:=by simp[hv1]
  have VG:=ai hv1;clear hv1;go_wp2_with fail;refine(Il.o 2 2 w4 mo.o CJ.o).mono ?_;intro e w' hq;obtain⟨L5,VS5,va5,k5,vc5,rfl,hp,hb',hg⟩:=GSt.first AQ.o qD.o H54.o H84.o mo.o HN.o.2.2.2.2 (fun R=>HPE.o 2 2 _) hq;clear hq;obtain⟨w5,hw⟩:∃q,q=w'.setCell ⟨b9,6,none⟩ (.slice va5 k5 vc5):=⟨_,rfl⟩
  rw[<-hw] at hg;have N6:=ai hg;have HP5:=ai hp;clear hg hp d0 d1 d2 d3 d4 d5 d6 df s0 sf;obtain⟨d0,d1,d2,d3,d4,d5,d6,df⟩:=gR hb';go_upto_region 4 with fail;rw[<-hw];clear hw hb' d0 d1 d2 d3 d4 d5 d6 df qD H54 H84 mo;obtain⟨d0,d1,d2,d3,d4,d5,d6,df⟩:=gR N6.o.hb;obtain⟨d0,d1,d2,d3,d4,d5,d6,df⟩:=gR N6.o.hb;obtain⟨q0,q1,q2,q3,q4,q5,q6,qf⟩:=gR N6.o.h8;have HF:=ai (GSt.fin AQ.o N6.o (G:=aco A V l) HDE.o (by
   unfold aco;rw[<-HDE.o];rw[bM VG.o,<-amW];exact HP5.o) (by omega))
  go_wp2_with fail;obtain⟨wz,eV⟩:∃wz,wz=j5 w5 (n0+1) (.int .i64 D.oP) (.int .i64 D.lim) (.int .i64 D.xV) (.int .i64 D.xU) (.int .i64 D.xN) (.bool D.Bt) (.slice va5 k5 vc5):=⟨_,rfl⟩
  rw[<-eV] at HF;unfold j5 at eV;rw[<-eV];clear eV q0 q1 q2 q3 q4 q5 q6 qf;obtain⟨q0,q1,q2,q3,q4,q5,q6,qf⟩:=gR HF.o.1;refine a5a (v:=.agg #[ D.oP,D.lim,D.xV,D.xU,D.xN,.bool D.Bt,.slice va5 k5 vc5]) (by simp[results,Tryz.results24,go_sem,q0,q1,q2,q3,q4,q5,q6]) rfl ?_;exact HF.o.2
 have t1:(D.oP==1)=false:=by simpa using hv1
 go_wp2_with fail;refine(HON.o 2 true w4 mo.o CJ.o).mono ?_;intro e w' hq;obtain⟨L5,VS5,va5,k5,vc5,rfl,hp,hb',hg⟩:=GSt.first AQ.o qD.o H54.o H84.o mo.o HN.o.2.2.2.2 (fun R=>YF.o _ _ _) hq;clear hq;obtain⟨w5,hw⟩:∃q,q=w'.setCell ⟨b9,6,none⟩ (.slice va5 k5 vc5):=⟨_,rfl⟩
 rw[<-hw] at hg;have N6:=ai hg;have HP5:=ai hp;clear hg hp d0 d1 d2 d3 d4 d5 d6 df s0 sf;obtain⟨d0,d1,d2,d3,d4,d5,d6,df⟩:=gR hb';go_upto_region 6 with fail;rw[<-hw];clear hw hb' d0 d1 d2 d3 d4 d5 d6 df qD H54 H84 mo;obtain⟨d0,d1,d2,d3,d4,d5,d6,df⟩:=gR N6.o.hb;by_cases hv2:D.oP=2
 case pos =>
  have t2:(D.oP==2)=true:=by simp[hv2]
  have JF:=ai hv2;clear hv2;go_upto_region 7 with fail;have gW:=ai (GSt.out AQ.o N6.o);obtain⟨s0,sf⟩:=dO N6.o.h5;obtain⟨d0,d1,d2,d3,d4,d5,d6,df⟩:=gR N6.o.hb;have S0:=cU s0 gW.o.2.2.1;have D6:=cU d6 gW.o.2.1;have qC:=ai (fun W (hW:ct [bd] w5 W) (hd:cg w0 W bd)=>HON.o 4 false W (N6.o.hc.then hW) hd);refine pT 9 (bd::rowOf (.slice va5 k5 vc5)) (fun W=>ct [bd] w5 W/\cg w0 W bd) ⟨(Tz _).drew.cR _,N6.o.hd.ext (Tz _).drew⟩ (fun _ _ hx h=>⟨h.1.then (hx.cR _),h.2.ext hx⟩) ?_
  repeat (refine bZ ?_;intro K hK;go_big_quiet_op;go_big_quiet_on)
  refine dP (γ:=OA×Nat×Nat×List Rs) (fun x=>.slice x.1 x.2.1 x.2.2.1) (GC bd w0 w5 ([b9]++rowOf (.slice va5 k5 vc5)++List.range n3) (MZ A V (l.filter (fun x=>x.kind==4)) false)) (fun W hW h _=>?_) (fun _ _ _ hx h=>h.ext hx) ?_ ⟨(none,0,0,[])⟩
  ·unfold bQ;go_simp;exact(qC.o W h.1 h.2).mono fun _ _ q=>GSt.call AQ.o N6.o h.1 q
  rintro⟨ra,rn,rc,R6⟩ K hK;go_simp;go_big_quiet_on
  repeat (refine bZ ?_;intro K hK;go_big_quiet_op;go_big_quiet_on)
  refine dP (γ:=OA×Nat×List jf) (fun x=>.slice x.1 (k5+rn) x.2.1) (GA bd w0 w5 b9 n3 n1 k5 rn (rowOf (.slice va5 k5 vc5)) VS5 L5 R6 (MZ A V (l.filter (fun x=>x.kind==4)) false)) (fun W hW h _=>GSt.app AQ.o N6.o h (fun R=>YF.o _ _ _) (by omega) rfl rfl) (fun _ _ _ hx h=>h.ext hx) ?_ ⟨(none,0,[])⟩;rintro⟨va6,vc6,us6⟩ K hK;go_simp;go_big_quiet_on
  repeat (refine bZ ?_;intro K hK;go_big_quiet_op;go_big_quiet_on)
  refine nH fun w' hc hy _=>?_
  obtain⟨hb',hg,hp⟩:=GSt.store AQ.o N6.o hc hy (fun R=>YF.o _ _ _);obtain⟨k6,hk⟩:∃q,q=k5+rn:=⟨_,rfl⟩
  obtain⟨L6,hL⟩:∃q,q=L5++R6:=⟨_,rfl⟩
  rw[<-hk,<-hL] at hg;have aJg:=ai hL;clear hc hy hL S0 D6 gW qC;obtain⟨w6,hw⟩:∃q,q=w'.setCell ⟨b9,6,none⟩ (.slice va6 k6 vc6):=⟨_,rfl⟩
  rw[<-hw] at hg;have HG6:=ai hg;have Nc:=ai hp;clear hg hp d0 d1 d2 d3 d4 d5 d6 df s0 sf;obtain⟨d0,d1,d2,d3,d4,d5,d6,df⟩:=gR hb';go_upto_region 8 with fail;rw[<-hk,<-hw];clear hk hw hb' d0 d1 d2 d3 d4 d5 d6 df;obtain⟨d0,d1,d2,d3,d4,d5,d6,df⟩:=gR HG6.o.hb;obtain⟨d0,d1,d2,d3,d4,d5,d6,df⟩:=gR HG6.o.hb;obtain⟨q0,q1,q2,q3,q4,q5,q6,qf⟩:=gR HG6.o.h8;have HF:=ai (GSt.fin AQ.o HG6.o (G:=aco A V l) HDE.o (by
   unfold aco;rw[<-HDE.o];rw[bL hv1];simp only[bM JF.o];exact⟨L5,_,aJg.o,(by rw[<-UG];exact HP5.o),(by rw[<-UG];exact Nc.o)⟩) (by omega))
  go_wp2_with fail;obtain⟨wz,eV⟩:∃wz,wz=j5 w6 (n0+1) (.int .i64 D.oP) (.int .i64 D.lim) (.int .i64 D.xV) (.int .i64 D.xU) (.int .i64 D.xN) (.bool D.Bt) (.slice va6 k6 vc6):=⟨_,rfl⟩
  rw[<-eV] at HF;unfold j5 at eV;rw[<-eV];clear eV q0 q1 q2 q3 q4 q5 q6 qf;obtain⟨q0,q1,q2,q3,q4,q5,q6,qf⟩:=gR HF.o.1;refine a5a (v:=.agg #[ D.oP,D.lim,D.xV,D.xU,D.xN,.bool D.Bt,.slice va6 k6 vc6]) (by simp[results,Tryz.results24,go_sem,q0,q1,q2,q3,q4,q5,q6]) rfl ?_;exact HF.o.2
 have t2:(D.oP==2)=false:=by simpa using hv2
 go_upto_region 9 with fail;have gW:=ai (GSt.out AQ.o N6.o);obtain⟨s0,sf⟩:=dO N6.o.h5;obtain⟨d0,d1,d2,d3,d4,d5,d6,df⟩:=gR N6.o.hb;have S0:=cU s0 gW.o.2.2.1;have D6:=cU d6 gW.o.2.1;have qC:=ai (fun W (hW:ct [bd] w5 W) (hd:cg w0 W bd)=>Il.o 4 4 W (N6.o.hc.then hW) hd);refine pT 9 (bd::rowOf (.slice va5 k5 vc5)) (fun W=>ct [bd] w5 W/\cg w0 W bd) ⟨(Tz _).drew.cR _,N6.o.hd.ext (Tz _).drew⟩ (fun _ _ hx h=>⟨h.1.then (hx.cR _),h.2.ext hx⟩) ?_
 repeat (refine bZ ?_;intro K hK;go_big_quiet_op;go_big_quiet_on)
 refine dP (γ:=OA×Nat×Nat×List Rs) (fun x=>.slice x.1 x.2.1 x.2.2.1) (GC bd w0 w5 ([b9]++rowOf (.slice va5 k5 vc5)++List.range n3) (GdL A (l.filter (kr 4 4)))) (fun W hW h _=>?_) (fun _ _ _ hx h=>h.ext hx) ?_ ⟨(none,0,0,[])⟩
 ·unfold bQ;go_simp;exact(qC.o W h.1 h.2).mono fun _ _ q=>GSt.call AQ.o N6.o h.1 q
 rintro⟨ra,rn,rc,R6⟩ K hK;go_simp;go_big_quiet_on
 repeat (refine bZ ?_;intro K hK;go_big_quiet_op;go_big_quiet_on)
 refine dP (γ:=OA×Nat×List jf) (fun x=>.slice x.1 (k5+rn) x.2.1) (GA bd w0 w5 b9 n3 n1 k5 rn (rowOf (.slice va5 k5 vc5)) VS5 L5 R6 (GdL A (l.filter (kr 4 4)))) (fun W hW h _=>GSt.app AQ.o N6.o h (fun R=>HPE.o 4 4 _) (by omega) rfl rfl) (fun _ _ _ hx h=>h.ext hx) ?_ ⟨(none,0,[])⟩;rintro⟨va6,vc6,us6⟩ K hK;go_simp;go_big_quiet_on
 repeat (refine bZ ?_;intro K hK;go_big_quiet_op;go_big_quiet_on)
 refine nH fun w' hc hy _=>?_
 obtain⟨hb',hg,hp⟩:=GSt.store AQ.o N6.o hc hy (fun R=>HPE.o 4 4 _);obtain⟨k6,hk⟩:∃q,q=k5+rn:=⟨_,rfl⟩
 obtain⟨L6,hL⟩:∃q,q=L5++R6:=⟨_,rfl⟩
 rw[<-hk,<-hL] at hg;have aJg:=ai hL;clear hc hy hL S0 D6 gW qC;obtain⟨w6,hw⟩:∃q,q=w'.setCell ⟨b9,6,none⟩ (.slice va6 k6 vc6):=⟨_,rfl⟩
 rw[<-hw] at hg;have HG6:=ai hg;have Nc:=ai hp;clear hg hp d0 d1 d2 d3 d4 d5 d6 df s0 sf;obtain⟨d0,d1,d2,d3,d4,d5,d6,df⟩:=gR hb';go_upto_region 10 with fail;rw[<-hk,<-hw];clear hk hw hb' d0 d1 d2 d3 d4 d5 d6 df;obtain⟨d0,d1,d2,d3,d4,d5,d6,df⟩:=gR HG6.o.hb;by_cases hv3:D.oP=3
 case pos =>
  have t3:(D.oP==3)=true:=by simp[hv3]
  have HV3:=ai hv3;clear hv3;go_upto_region 11 with fail;have kR:=ai (GSt.out AQ.o HG6.o);obtain⟨s0,sf⟩:=dO HG6.o.h5;obtain⟨d0,d1,d2,d3,d4,d5,d6,df⟩:=gR HG6.o.hb;have S0:=cU s0 kR.o.2.2.1;have D6:=cU d6 kR.o.2.1;have qC:=ai (fun W (hW:ct [bd] w6 W) (hd:cg w0 W bd)=>HON.o 3 true W (HG6.o.hc.then hW) hd);refine pT 9 (bd::rowOf (.slice va6 k6 vc6)) (fun W=>ct [bd] w6 W/\cg w0 W bd) ⟨(Tz _).drew.cR _,HG6.o.hd.ext (Tz _).drew⟩ (fun _ _ hx h=>⟨h.1.then (hx.cR _),h.2.ext hx⟩) ?_
  repeat (refine bZ ?_;intro K hK;go_big_quiet_op;go_big_quiet_on)
  refine dP (γ:=OA×Nat×Nat×List Rs) (fun x=>.slice x.1 x.2.1 x.2.2.1) (GC bd w0 w6 ([b9]++rowOf (.slice va6 k6 vc6)++List.range n3) (MZ A V (l.filter (fun x=>x.kind==3)) true)) (fun W hW h _=>?_) (fun _ _ _ hx h=>h.ext hx) ?_ ⟨(none,0,0,[])⟩
  ·unfold bQ;go_simp;exact(qC.o W h.1 h.2).mono fun _ _ q=>GSt.call AQ.o HG6.o h.1 q
  rintro⟨ra,rn,rc,R7⟩ K hK;go_simp;go_big_quiet_on
  repeat (refine bZ ?_;intro K hK;go_big_quiet_op;go_big_quiet_on)
  refine dP (γ:=OA×Nat×List jf) (fun x=>.slice x.1 (k6+rn) x.2.1) (GA bd w0 w6 b9 n3 n1 k6 rn (rowOf (.slice va6 k6 vc6)) (VS5++us6) L6 R7 (MZ A V (l.filter (fun x=>x.kind==3)) true)) (fun W hW h _=>GSt.app AQ.o HG6.o h (fun R=>YF.o _ _ _) (by omega) rfl rfl) (fun _ _ _ hx h=>h.ext hx) ?_ ⟨(none,0,[])⟩;rintro⟨va7,vc7,us7⟩ K hK;go_simp;go_big_quiet_on
  repeat (refine bZ ?_;intro K hK;go_big_quiet_op;go_big_quiet_on)
  refine nH fun w' hc hy _=>?_
  obtain⟨hb',hg,hp⟩:=GSt.store AQ.o HG6.o hc hy (fun R=>YF.o _ _ _);obtain⟨k7,hk⟩:∃q,q=k6+rn:=⟨_,rfl⟩
  obtain⟨L7,hL⟩:∃q,q=L6++R7:=⟨_,rfl⟩
  rw[<-hk,<-hL] at hg;have aOe:=ai hL;clear hc hy hL S0 D6 kR qC;obtain⟨w7,hw⟩:∃q,q=w'.setCell ⟨b9,6,none⟩ (.slice va7 k7 vc7):=⟨_,rfl⟩
  rw[<-hw] at hg;have HG7:=ai hg;have HP7:=ai hp;clear hg hp d0 d1 d2 d3 d4 d5 d6 df s0 sf;obtain⟨d0,d1,d2,d3,d4,d5,d6,df⟩:=gR hb';go_upto_region 12 with fail;rw[<-hk,<-hw];clear hk hw hb' d0 d1 d2 d3 d4 d5 d6 df;obtain⟨d0,d1,d2,d3,d4,d5,d6,df⟩:=gR HG7.o.hb;obtain⟨d0,d1,d2,d3,d4,d5,d6,df⟩:=gR HG7.o.hb;obtain⟨q0,q1,q2,q3,q4,q5,q6,qf⟩:=gR HG7.o.h8;have HF:=ai (GSt.fin AQ.o HG7.o (G:=aco A V l) HDE.o (by
   unfold aco;rw[<-HDE.o];rw[bL hv1];simp only[bL hv2,bM HV3.o];exact⟨L5,R6++R7,(by rw[aOe.o,aJg.o,List.append_assoc]),(by rw[<-UG];exact HP5.o),R6,R7,rfl,(by rw[<-amW];exact Nc.o),(by rw[<-UG];exact HP7.o)⟩) (by omega))
  go_wp2_with fail;obtain⟨wz,eV⟩:∃wz,wz=j5 w7 (n0+1) (.int .i64 D.oP) (.int .i64 D.lim) (.int .i64 D.xV) (.int .i64 D.xU) (.int .i64 D.xN) (.bool D.Bt) (.slice va7 k7 vc7):=⟨_,rfl⟩
  rw[<-eV] at HF;unfold j5 at eV;rw[<-eV];clear eV q0 q1 q2 q3 q4 q5 q6 qf;obtain⟨q0,q1,q2,q3,q4,q5,q6,qf⟩:=gR HF.o.1;refine a5a (v:=.agg #[ D.oP,D.lim,D.xV,D.xU,D.xN,.bool D.Bt,.slice va7 k7 vc7]) (by simp[results,Tryz.results24,go_sem,q0,q1,q2,q3,q4,q5,q6]) rfl ?_;exact HF.o.2
 have t3:(D.oP==3)=false:=by simpa using hv3
 go_upto_region 13 with fail;have kR:=ai (GSt.out AQ.o HG6.o);obtain⟨s0,sf⟩:=dO HG6.o.h5;obtain⟨d0,d1,d2,d3,d4,d5,d6,df⟩:=gR HG6.o.hb;have S0:=cU s0 kR.o.2.2.1;have D6:=cU d6 kR.o.2.1;have qC:=ai (fun W (hW:ct [bd] w6 W) (hd:cg w0 W bd)=>Il.o 3 3 W (HG6.o.hc.then hW) hd);refine pT 9 (bd::rowOf (.slice va6 k6 vc6)) (fun W=>ct [bd] w6 W/\cg w0 W bd) ⟨(Tz _).drew.cR _,HG6.o.hd.ext (Tz _).drew⟩ (fun _ _ hx h=>⟨h.1.then (hx.cR _),h.2.ext hx⟩) ?_
 repeat (refine bZ ?_;intro K hK;go_big_quiet_op;go_big_quiet_on)
 refine dP (γ:=OA×Nat×Nat×List Rs) (fun x=>.slice x.1 x.2.1 x.2.2.1) (GC bd w0 w6 ([b9]++rowOf (.slice va6 k6 vc6)++List.range n3) (GdL A (l.filter (kr 3 3)))) (fun W hW h _=>?_) (fun _ _ _ hx h=>h.ext hx) ?_ ⟨(none,0,0,[])⟩
 ·unfold bQ;go_simp;exact(qC.o W h.1 h.2).mono fun _ _ q=>GSt.call AQ.o HG6.o h.1 q
 rintro⟨ra,rn,rc,R7⟩ K hK;go_simp;go_big_quiet_on
 repeat (refine bZ ?_;intro K hK;go_big_quiet_op;go_big_quiet_on)
 refine dP (γ:=OA×Nat×List jf) (fun x=>.slice x.1 (k6+rn) x.2.1) (GA bd w0 w6 b9 n3 n1 k6 rn (rowOf (.slice va6 k6 vc6)) (VS5++us6) L6 R7 (GdL A (l.filter (kr 3 3)))) (fun W hW h _=>GSt.app AQ.o HG6.o h (fun R=>HPE.o 3 3 _) (by omega) rfl rfl) (fun _ _ _ hx h=>h.ext hx) ?_ ⟨(none,0,[])⟩;rintro⟨va7,vc7,us7⟩ K hK;go_simp;go_big_quiet_on
 repeat (refine bZ ?_;intro K hK;go_big_quiet_op;go_big_quiet_on)
 refine nH fun w' hc hy _=>?_
 obtain⟨hb',hg,hp⟩:=GSt.store AQ.o HG6.o hc hy (fun R=>HPE.o 3 3 _);obtain⟨k7,hk⟩:∃q,q=k6+rn:=⟨_,rfl⟩
 obtain⟨L7,hL⟩:∃q,q=L6++R7:=⟨_,rfl⟩
 rw[<-hk,<-hL] at hg;have aOe:=ai hL;clear hc hy hL S0 D6 kR qC;obtain⟨w7,hw⟩:∃q,q=w'.setCell ⟨b9,6,none⟩ (.slice va7 k7 vc7):=⟨_,rfl⟩
 rw[<-hw] at hg;have HG7:=ai hg;have HP7:=ai hp;clear hg hp d0 d1 d2 d3 d4 d5 d6 df s0 sf;obtain⟨d0,d1,d2,d3,d4,d5,d6,df⟩:=gR hb';go_upto_region 14 with fail;rw[<-hk,<-hw];clear hk hw hb' d0 d1 d2 d3 d4 d5 d6 df;obtain⟨d0,d1,d2,d3,d4,d5,d6,df⟩:=gR HG7.o.hb;go_upto_region 14 with fail;have rZ:=ai (GSt.out AQ.o HG7.o);obtain⟨s0,sf⟩:=dO HG7.o.h5;obtain⟨d0,d1,d2,d3,d4,d5,d6,df⟩:=gR HG7.o.hb;have S0:=cU s0 rZ.o.2.2.1;have D6:=cU d6 rZ.o.2.1;have qC:=ai (fun W (hW:ct [bd] w7 W) (hd:cg w0 W bd)=>Il.o 5 9 W (HG7.o.hc.then hW) hd);refine pT 9 (bd::rowOf (.slice va7 k7 vc7)) (fun W=>ct [bd] w7 W/\cg w0 W bd) ⟨(Tz _).drew.cR _,HG7.o.hd.ext (Tz _).drew⟩ (fun _ _ hx h=>⟨h.1.then (hx.cR _),h.2.ext hx⟩) ?_
 repeat (refine bZ ?_;intro K hK;go_big_quiet_op;go_big_quiet_on)
 refine dP (γ:=OA×Nat×Nat×List Rs) (fun x=>.slice x.1 x.2.1 x.2.2.1) (GC bd w0 w7 ([b9]++rowOf (.slice va7 k7 vc7)++List.range n3) (GdL A (l.filter (kr 5 9)))) (fun W hW h _=>?_) (fun _ _ _ hx h=>h.ext hx) ?_ ⟨(none,0,0,[])⟩
 ·unfold bQ;go_simp;exact(qC.o W h.1 h.2).mono fun _ _ q=>GSt.call AQ.o HG7.o h.1 q
 rintro⟨ra,rn,rc,R8⟩ K hK;go_simp;go_big_quiet_on
 repeat (refine bZ ?_;intro K hK;go_big_quiet_op;go_big_quiet_on)
 refine dP (γ:=OA×Nat×List jf) (fun x=>.slice x.1 (k7+rn) x.2.1) (GA bd w0 w7 b9 n3 n1 k7 rn (rowOf (.slice va7 k7 vc7)) (VS5++us6++us7) L7 R8 (GdL A (l.filter (kr 5 9)))) (fun W hW h _=>GSt.app AQ.o HG7.o h (fun R=>HPE.o 5 9 _) (by omega) rfl rfl) (fun _ _ _ hx h=>h.ext hx) ?_ ⟨(none,0,[])⟩;rintro⟨va8,vc8,us8⟩ K hK;go_simp;go_big_quiet_on
 repeat (refine bZ ?_;intro K hK;go_big_quiet_op;go_big_quiet_on)
 refine nH fun w' hc hy _=>?_
 obtain⟨hb',hg,hp⟩:=GSt.store AQ.o HG7.o hc hy (fun R=>HPE.o 5 9 _);obtain⟨k8,hk⟩:∃q,q=k7+rn:=⟨_,rfl⟩
 obtain⟨L8,hL⟩:∃q,q=L7++R8:=⟨_,rfl⟩
 rw[<-hk,<-hL] at hg;have aZk:=ai hL;clear hc hy hL S0 D6 rZ qC;obtain⟨w8,hw⟩:∃q,q=w'.setCell ⟨b9,6,none⟩ (.slice va8 k8 vc8):=⟨_,rfl⟩
 rw[<-hw] at hg;have HG8:=ai hg;have HP8:=ai hp;clear hg hp d0 d1 d2 d3 d4 d5 d6 df s0 sf;obtain⟨d0,d1,d2,d3,d4,d5,d6,df⟩:=gR hb';go_upto_region 15 with fail;rw[<-hk,<-hw];clear hk hw hb' d0 d1 d2 d3 d4 d5 d6 df;obtain⟨d0,d1,d2,d3,d4,d5,d6,df⟩:=gR HG8.o.hb;obtain⟨d0,d1,d2,d3,d4,d5,d6,df⟩:=gR HG8.o.hb;obtain⟨q0,q1,q2,q3,q4,q5,q6,qf⟩:=gR HG8.o.h8;have HF:=ai (GSt.fin AQ.o HG8.o (G:=aco A V l) HDE.o (by
  unfold aco;rw[<-HDE.o];rw[bL hv1];simp only[bL hv2,bL hv3];exact⟨L5,R6++(R7++R8),(by rw[aZk.o,aOe.o,aJg.o,List.append_assoc,List.append_assoc]),(by rw[<-UG];exact HP5.o),R6,R7++R8,rfl,(by rw[<-amW];exact Nc.o),R7,R8,rfl,(by rw[<-amW];exact HP7.o),(by rw[<-aCX];exact HP8.o)⟩) (by omega))
 go_wp2_with fail;obtain⟨wz,eV⟩:∃wz,wz=j5 w8 (n0+1) (.int .i64 D.oP) (.int .i64 D.lim) (.int .i64 D.xV) (.int .i64 D.xU) (.int .i64 D.xN) (.bool D.Bt) (.slice va8 k8 vc8):=⟨_,rfl⟩
 rw[<-eV] at HF;unfold j5 at eV;rw[<-eV];clear eV q0 q1 q2 q3 q4 q5 q6 qf;obtain⟨q0,q1,q2,q3,q4,q5,q6,qf⟩:=gR HF.o.1;refine a5a (v:=.agg #[ D.oP,D.lim,D.xV,D.xU,D.xN,.bool D.Bt,.slice va8 k8 vc8]) (by simp[results,Tryz.results24,go_sem,q0,q1,q2,q3,q4,q5,q6]) rfl ?_;exact HF.o.2
theorem aCR {A:Ex->Pr->Bool} {V:Ex->Bool} (hA:∀e p,A e p=true->p.value=V e) {b:Bool}:(cs:List cK)->(L:List Rs)->Ei (xE A) cs L->(∀c∈cs,ke V c=b)->Ei (fun c r=>r.dg==b&&xE A c r) cs L
 | [],[],_,_=>trivial
 | c::cs,r::L,h,hv=>⟨(show (r.dg==b&&xE A c r)=true by rw[(BX hA h.1).1,hv c (by simp),h.1];simp),aCR hA cs L h.2 fun x hx=>hv x (aZ _ hx)⟩
 | [],_::_,h,_=>h.elim
 | _::_,[],h,_=>h.elim
section
variable {A:Ex->Pr->Bool} {V:Ex->Bool} (hA:∀e p,A e p=true->p.value=V e)
theorem aGJ {k:Int} {neg:Bool} {l:List cK} (h:jC V k neg l=false):∀c∈kS [k] l,ke V c=neg:=by
 rw[<-zD V k neg (!neg) rfl l,List.any_eq_false] at h;intro c hc;have:=h c hc;cases hv:ke V c<;>cases neg<;>simp[hv] at this ⊢
include hA in
theorem anw {k:Int} {neg:Bool} {l:List cK} {L t:List Rs} (h:GdL A (kS [k] l) L) (hs:jC V k neg l=false):oq A (kS [k] l) neg (some (L++t))=some t :=
 (U9 _ _ _ _ _).2 ⟨L,rfl,aCR hA _ _ h.1 (aGJ hs)⟩
include hA in
theorem Zx {k:Int} {b neg:Bool} (hb:b=!neg) {l:List cK} {L t:List Rs} (h:MZ A V (kS [k] l) b L) (hs:jC V k neg l=true):∃r,L=[r]/\Ht A (kS [k] l) b (some (r::t))=some t:=by
 rcases h with ⟨rfl,h⟩|⟨r,x,rfl,hx,hv,hp⟩
 ·rw[<-zD V k neg b hb l] at hs;obtain⟨c,hc,h2⟩:=List.any_eq_true.1 hs;exact a40 (by simpa using h2) (h c hc)
 exact⟨r,rfl,(ad3 _ _ _ _ _).2 ⟨r,x,rfl,hx,by rw[(BX hA hp.1).1,hv],hp.1⟩⟩
include hA in
theorem aBi {l:List cK} {L:List Rs} (h:aco A V l L):Lj A l (CN V l) L=true:=by
 unfold aco at h;unfold Lj;by_cases h1:jC V 2 false l=false
 ·have e:CN V l=⟨1,0,0,0,0,false⟩:=by unfold CN;rw[bM h1]
  rw[e] at h ⊢;rw[bM rfl] at h ⊢;have:=anw hA (t:=[]) h h1;rw[List.append_nil] at this;rw[this];rfl
 have h1':jC V 2 false l=true:=by simpa using h1
 by_cases h2:jC V 4 true l=true
 ·have e:CN V l=⟨2,0,0,0,0,false⟩:=by unfold CN;rw[bL h1,bM h2]
  rw[e] at h ⊢;rw[bL (by decide)] at h ⊢;obtain⟨r1,r2,rfl,g1,g2⟩:=h;rw[bM rfl] at g2 ⊢;obtain⟨x,rfl,q1⟩:=Zx hA (b:=true) (neg:=false) (t:=r2) rfl g1 h1';obtain⟨y,rfl,q2⟩:=Zx hA (b:=false) (neg:=true) (t:=[]) rfl g2 h2;rw[List.singleton_append,q1,q2];rfl
 have h2':jC V 4 true l=false:=by simpa using h2
 by_cases h3:jC V 3 false l=true
 ·have e:CN V l=⟨3,0,0,0,0,false⟩:=by unfold CN;rw[bL h1,bL h2,bM h3]
  rw[e] at h ⊢;rw[bL (by decide)] at h ⊢;obtain⟨r1,r2,rfl,g1,g2⟩:=h;rw[bL (by decide)] at g2 ⊢;obtain⟨r3,r4,rfl,g3,g4⟩:=g2;rw[bM rfl] at g4 ⊢;obtain⟨x,rfl,q1⟩:=Zx hA (b:=true) (neg:=false) (t:=r3++r4) rfl g1 h1';have q2:=anw hA (t:=r4) g3 h2';obtain⟨y,rfl,q3⟩:=Zx hA (b:=true) (neg:=false) (t:=[]) rfl g4 h3;rw[List.singleton_append,q1,q2,q3];rfl
 have h3':jC V 3 false l=false:=by simpa using h3
 have e:(CN V l).oP=4:=by unfold CN;rw[bL h1,bL h2,bL h3]
 rw[e,bL (by decide)] at h;rw[e,bL (by decide),bL (by decide),bL (by decide),bM rfl];obtain⟨r1,r2,rfl,g1,g2⟩:=h;rw[bL (by decide)] at g2;obtain⟨r3,r4,rfl,g3,g4⟩:=g2;rw[bL (by decide)] at g4;obtain⟨r5,r6,rfl,g5,g6⟩:=g4;obtain⟨x,rfl,q1⟩:=Zx hA (b:=true) (neg:=false) (t:=r3++(r5++r6)) rfl g1 h1';have q2:=anw hA (t:=r5++r6) g3 h2';have q3:=anw hA (t:=r6) g5 h3';have q4:RF A (kS lJ l) (some r6)=some ([],adQ (kS lJ l) r6):=(an9 _ _ _ _ _).2 ⟨r6,by simp,g6.1,rfl⟩;rw[List.singleton_append,q1,q2,q3,q4]
 show (CN V l).eqB (Hw ⟨4,-1,0,0,0,false⟩ (adQ (kS lJ l) r6))=true
 rw[agk hA _ _ g6.1,Fh];have:CN V l=⟨4,CP V l,oU V 6 l,oU V 7 l,oU V 8 l,jC V 9 false l⟩:=by unfold CN;rw[bL h1,bL h2,bL h3]
 rw[this];simp[rT.eqB,CP,oU]
def aRV (l:List cK) (v:Int):Nat:=if v=1 then (kS [2] l).length else if v=2 then 2 else if v=3 then 1+(kS [4] l).length+1 else 1+(kS [4] l).length+(kS [3] l).length+(kS lJ l).length
theorem YO {l:List cK} {d:rT} {rs:List Rs} (h:Lj A l d rs=true):rs.length=aRV l d.oP/\∀r∈rs,∃c∈l,xE A c r=true:=by
 have hone:∀{k:Int} {b:Bool} {st:Option (List Rs)} {t:List Rs},Ht A (kS [k] l) b st=some t->∃r,st=some (r::t)/\∃c∈l,xE A c r=true:=fun h=>by
  obtain⟨r,c,e,hc,-,h2⟩:=(ad3 _ _ _ _ _).1 h;unfold kS at hc;exact⟨r,e,c,(List.mem_filter.1 hc).1,h2⟩
 have hmem:∀{P:cK->Rs->Bool} (hP:∀c r,P c r=true->xE A c r=true) {ks:ZI} {L:List Rs},Ei P (kS ks l) L->∀r∈L,∃c∈l,xE A c r=true:=fun {P} hP {ks L} hm r hr=>by
  obtain⟨i,hi,rfl⟩:=bA hr;have hi2:i<(kS ks l).length:=by rw[<-Ei.len _ _ hm];exact hi
  have hc:=aD hi2;have hc2:(kS ks l)[i]∈l:=by
   unfold kS at hc ⊢;exact(List.mem_filter.1 hc).1
  exact⟨_,hc2,hP _ _ (Ei.at _ _ hm i hi2 hi)⟩
 have hev:∀{k:Int} {b:Bool} {st:Option (List Rs)} {t:List Rs},oq A (kS [k] l) b st=some t->∃L,st=some (L++t)/\L.length=(kS [k] l).length/\∀r∈L,∃c∈l,xE A c r=true:=fun h=>by
  obtain⟨L,e,hm⟩:=(U9 _ _ _ _ _).1 h;exact⟨L,e,Ei.len _ _ hm,hmem (fun c r h=>by simp only[aF] at h;exact h.2) hm⟩
 unfold Lj at h;unfold aRV;by_cases h1:d.oP=1
 ·rw[bM h1,aF,Ou] at h;obtain⟨L,e,h2,h3⟩:=hev h.1;rw[List.append_nil] at e;injection e with e
  rw[bM h1,e];exact⟨h2,h3⟩
 rw[bL h1] at h ⊢;by_cases h2:d.oP=2
 ·rw[bM h2,aF,Ou] at h;obtain⟨y,e1,g1⟩:=hone h.1;obtain⟨x,e2,g2⟩:=hone e1;injection e2 with e2
  rw[bM h2,e2];exact⟨rfl,fun r hr=>by simp only[bz,bC,or_false] at hr;rcases hr with rfl|rfl<;>assumption⟩
 rw[bL h2] at h ⊢;by_cases h3:d.oP=3
 ·rw[bM h3,aF,Ou] at h;obtain⟨y,e1,g1⟩:=hone h.1;obtain⟨L,e2,n2,g2⟩:=hev e1;obtain⟨x,e3,g3⟩:=hone e2;injection e3 with e3
  rw[bM h3,e3];refine⟨by simp[n2];omega,fun r hr=>?_⟩;simp only[bz,aN,bC,or_false] at hr;rcases hr with rfl|hr|rfl
  ·exact g3
  ·exact g2 r hr
  exact g1
 rw[bL h3] at h ⊢;by_cases h4:d.oP=4
 ·rw[bM h4] at h;split at h
  ·rename_i F hF
   obtain⟨L6,e0,hm,-⟩:=(an9 _ _ _ _ _).1 hF;rw[List.append_nil] at e0;obtain⟨L5,e1,n1,g1⟩:=hev e0;obtain⟨L4,e2,n2,g2⟩:=hev e1;obtain⟨x,e3,g3⟩:=hone e2;injection e3 with e3
   rw[e3];have n6:=Ei.len _ _ hm;refine⟨by simp[n1,n2,n6];omega,fun r hr=>?_⟩;simp only[bz,aN] at hr;rcases hr with rfl|hr|hr|hr
   ·exact g3
   ·exact g2 r hr
   ·exact g1 r hr
   exact hmem (fun _ _ h=>h) hm r hr
  cases h
 rw[bL h4] at h;cases h
include hA in
end
open Go.RowKit
structure Yh where
 sa:OA
 sn:Nat
 sc:Nat
 la:OA
 ln:Nat
 lc:Nat
 fa:OA
 fn:Nat
 fc:Nat
def Yh.val (v:Yh):Value:=.agg #[.slice v.sa v.sn v.sc,.slice v.la v.ln v.lc,.slice v.fa v.fn v.fc]
structure vD (w:World) (s:List Attr) (l:List cK) (f:ZI) (v:Yh):Prop where
 mem:s∈gi
 x7:dB w s (.agg #[.slice v.sa v.sn v.sc])
 yT:cZ w l v.la v.ln v.lc
 ai6:adZ s pcd l
 len:l.length<=10
 one:1<=l.length
 facts:fW s f=true
 ints:dG w f v.fa v.fn
theorem vD.mono {w w':World} {s:List Attr} {l:List cK} {f:ZI} {v:Yh} (h:vD w s l f v) (hs:Sub w w'):vD w' s l f v :=
 ⟨h.mem,h.x7.mono hs,h.yT.mono hs,h.ai6,h.len,h.one,h.facts,h.ints.mono hs⟩
theorem agP {c:cK} (h:Us c) (hn:c.name.size<=1000):c.fit:=by
 obtain⟨g1,g2,g3,g4,g5,g6⟩:=h;have hl:=ql c.gH;exact⟨by omega,g1,g2,iY _ (by omega),by omega,xh _ g5 (by omega)⟩
theorem vD.Ca {w:World} {s:List Attr} {l:List cK} {f:ZI} {v:Yh} (h:vD w s l f v):∀c∈l,c.fit:=fun c hc=>agP (h.ai6.1 c hc).1 (by have:=(h.ai6.1 c hc).2;have h3:pcd.size=2:=rfl;omega)
theorem afJ {w:World} {b i:Nat} {cs:Array Value} {t:TypeId} (h:w.heap[b]?=some (.cells cs t (0,0))) (v:Value):(w.setCell ⟨b,i,none⟩ v).heap[b]?=some (.cells (cs.setIfInBounds i v) t (0,0)):=Go.heap_setCell_same w b i cs t v h
theorem afN (w:World) (b i:Nat) (v:Value):ct [b] w (w.setCell ⟨b,i,none⟩ v):=(ct.refl _ w).setCell (aoX (by simp)) _
theorem Wj {W W':World} {K N:ZN} (h:ct K W W') (hk:∀y∈K,y∈N):Sub (mask W N) (mask W' N):=cF h fun y hy=>aoX (hk y hy)
def aIU (w:World) (e:Ending) (w':World):Prop:=∃s l f v bd,e=.returned (.tuple #[Yh.val v,.pointer (some ⟨bd,0,none⟩)])/\vD (mask w' [bd]) s l f v/\cg w w' bd/\Ext w w'
theorem xF (da:OA) (dn dc:Nat) (w0:World) (h:dR w0 da dn) (hdl:dn<=1000000000000000):Calls Tryz.prog 15 #[.slice da dn dc] w0 (aIU w0):=by
 have HI:=ai h;clear h;obtain⟨rb,hrb⟩:∃rb,rb=w0.heap.size:=⟨_,rfl⟩
 obtain⟨wa,cN⟩:∃wa,wa=w0.alloc (.cells #[.slice none 0 0,.slice none 0 0,.slice none 0 0] 34):=⟨_,rfl⟩
 have dm:=ai (show Ext w0 wa by rw[cN];exact(Tz _).alloc _);have HRA:=ai (show wa.heap[rb]?=some (.cells #[.slice none 0 0,.slice none 0 0,.slice none 0 0] 34 (0,0)) by rw[cN,hrb];exact bR w0 _);have HRE:=ai hrb;go_enter Tryz.func15,Tryz.ntmps15
 go_upto_region 1 with fail;rw[<-cN,<-hrb];clear cN hrb;go_wp2_with fail;refine(oG da dn dc w0 wa HI.o dm.o hdl).mono ?_;rintro e w1 ⟨bd,rfl,hd1,hx1,hbl⟩;go_upto_region 3 with fail;obtain⟨bw,qL⟩:∃bw,bw=w1.heap.size:=⟨_,rfl⟩
 obtain⟨w2,hw2⟩:∃w2,w2=w1.alloc (.cells #[.slice none 0 0,.slice none 0 0,.slice none 0 0] 34):=⟨_,rfl⟩
 have hx2:Ext w1 w2:=by rw[hw2];exact(Tz _).alloc _
 have qO:=ai (show w2.heap[bw]?=some (.cells #[.slice none 0 0,.slice none 0 0,.slice none 0 0] 34 (0,0)) by rw[hw2,qL];exact bR w1 _);have kB:=ai (show rb<bd/\bd<bw/\w0.heap.size<=rb by have:=bS HRA.o;have:=hd1.lt;have:=HRE.o;omega);rw[<-hw2,<-qL];clear hw2 qL;have pY:=ai (hd1.ext hx2);have jI:=ai (hx2.blk (hx1.blk HRA.o));clear hd1 hx1 hx2 hbl dm HRA HRE;go_wp2_with fail;refine(dx pY.o 6 (by omega) (by omega)).mono ?_;rintro e w3 ⟨z,rfl,hz0,hz1,CZ,hc3⟩;have HLB:=ai (show ∀y∈[bd,bw,rb],y<w3.heap.size from fun y hy=>by
  have h1:=bS qO.o;have h2:=kB.o;have h3:=hc3.size;simp only[bz,bC,or_false] at hy;rcases hy with rfl|rfl|rfl<;>omega)
 have wG:=ai CZ;have HW3:=ai (hc3.blk qO.o (by have:=kB.o;simp;omega));have nL:=ai (hc3.blk jI.o (by have:=kB.o;simp;omega));clear CZ hc3 pY qO jI;go_wp2_with fail;refine(xq z [bd,bw,rb] w3 HLB.o).mono ?_;rintro e w4 ⟨attrs,v,rfl,hat,AY,gV⟩;obtain⟨sa,sn,sc,rfl,B6⟩:=AY.slice;have qE:=ai hat;have sI:=ai (gV.blk nL.o);have CJ:=ai (wG.o.ext gV);have oY:=ai AY;have aFT:=ai (show ∀y∈[bd,bw,rb],y<w4.heap.size from fun y hy=>bF (HLB.o y hy) gV.size);have hw4:=gV.blk HW3.o;clear hat AY gV HW3 nL wG HLB B6;obtain⟨c0,c1,c2,cf⟩:=dM hw4;go_upto_region 4 with fail;obtain⟨w5,p9⟩:∃w5,w5=w4.setCell ⟨bw,0,none⟩ (.slice sa sn sc):=⟨_,rfl⟩
 have hc5:ct [bw] w4 w5:=by rw[p9];exact afN _ _ _ _
 have Sl:=ai (show w5.heap[bw]?=some (.cells #[.slice sa sn sc,.slice none 0 0,.slice none 0 0] 34 (0,0)) by rw[p9];have:=afJ (i:=0) hw4 (.slice sa sn sc);simpa using this);rw[<-p9];clear p9 hw4 c0 c1 c2 cf;have CU:=ai (hc5.blk sI.o (by have:=kB.o;simp;omega));have uV:=ai (CJ.o.cR hc5 (by have:=kB.o;simp;omega) (fun y hy=>by simp only[aG] at hy;have:=kB.o;omega));have nA:=ai (oY.o.mono (Wj hc5 (by simp)));have av8:=ai (show ∀y∈[bd,bw,rb],y<w5.heap.size from fun y hy=>bF (aFT.o y hy) hc5.size);clear hc5 sI CJ oY aFT;obtain⟨c0,c1,c2,cf⟩:=dM Sl.o;go_wp2_with fail;refine(DS (lD qE.o) (iB qE.o) uV.o sa sn sc [bd,bw,rb] (nA.o.mono (cM _ (by simp))) av8.o).mono ?_;rintro e w6 ⟨f,fa,fc,rfl,qx,-,hif,Ku,pI⟩;have AD:=ai qx;have awa:=ai hif;have ER:=ai Ku;have rH:=pI.blk Sl.o (by have:=kB.o;simp;omega);have RN:=ai (pI.blk CU.o (by have:=kB.o;simp;omega));have vE:=ai (nA.o.mono (Wj pI (by simp)));have aFS:=ai (show ∀y∈[bd,bw,rb],y<w6.heap.size from fun y hy=>bF (av8.o y hy) pI.size);clear qx hif Ku pI c0 c1 c2 cf uV Sl CU nA av8;obtain⟨c0,c1,c2,cf⟩:=dM rH;obtain⟨fn,hfn⟩:∃fn,fn=f.length:=⟨_,rfl⟩
 rw[<-hfn];rw[<-hfn] at awa;clear hfn;go_upto_region 5 with fail;obtain⟨w7,wF⟩:∃w7,w7=w6.setCell ⟨bw,2,none⟩ (.slice fa fn fc):=⟨_,rfl⟩
 have rE:ct [bw] w6 w7:=by rw[wF];exact afN _ _ _ _
 have HW7:=ai (show w7.heap[bw]?=some (.cells #[.slice sa sn sc,.slice none 0 0,.slice fa fn fc] 34 (0,0)) by rw[wF];have:=afJ (i:=2) rH (.slice fa fn fc);simpa using this);rw[<-wF];clear wF rH c0 c1 c2 cf;have WM:=ai (rE.blk RN.o (by have:=kB.o;simp;omega));have EP:=ai (ER.o.cR rE (by have:=kB.o;simp;omega) (fun y hy=>by simp only[aG] at hy;have:=kB.o;omega));have JG:=ai (vE.o.mono (Wj rE (by simp)));have aFX:=ai (awa.o.mono (Wj rE (by simp)));have aAP:=ai (show ∀y∈[bd,bw,rb],y<w7.heap.size from fun y hy=>bF (aFS.o y hy) rE.size);clear rE RN ER vE aFS awa;obtain⟨c0,c1,c2,cf⟩:=dM HW7.o;have qC:=ai (show Calls Tryz.prog 39 #[.pointer (some ⟨bd,0,none⟩),.agg #[.slice sa sn sc],.int .i64 9,.string ⟨#[99,45]⟩] w7 (aGu attrs pcd 9 w0 bd [bd,bw,rb] w7) from
  DL qE.o (ei attrs qE.o).1 (ei attrs qE.o).2.1 (ei attrs qE.o).2.2 EP.o sa sn sc [bd,bw,rb] (JG.o.mono (cM _ (by simp))) aAP.o 9 (by omega) pcd (by decide))
 go_wp2_with fail;refine qC.o.mono ?_;rintro e w8 ⟨l,la,ln,lc,rfl,hcl,Qb,sA,hl2,hd8,iI⟩;have Yq:=ai Qb;have QI:=ai (show l.length<=10 from hl2);have Sn:=ai sA;have aou:=ai hcl;have YK:=ai hd8;have gX:=iI.blk HW7.o (by have:=kB.o;simp;omega);have HR8:=ai (iI.blk WM.o (by have:=kB.o;simp;omega));have Ik:=ai (JG.o.mono (Wj iI (by simp)));have aFW:=ai (aFX.o.mono (Wj iI (by simp)));clear hcl Qb sA hl2 hd8 iI c0 c1 c2 cf EP HW7 WM JG aFX aAP qC;obtain⟨c0,c1,c2,cf⟩:=dM gX;go_upto_region 6 with fail;obtain⟨w9,uj⟩:∃w9,w9=w8.setCell ⟨bw,1,none⟩ (.slice la ln lc):=⟨_,rfl⟩
 have vH:ct [bw] w8 w9:=by rw[uj];exact afN _ _ _ _
 have HW9:=ai (show w9.heap[bw]?=some (.cells #[.slice sa sn sc,.slice la ln lc,.slice fa fn fc] 34 (0,0)) by rw[uj];have:=afJ (i:=1) gX (.slice la ln lc);simpa using this);rw[<-uj];clear uj gX c0 c1 c2 cf;have HR9:=ai (vH.blk HR8.o (by have:=kB.o;simp;omega));have HD9:=ai (YK.o.cR vH (by have:=kB.o;simp;omega) (fun y hy=>by simp only[aG] at hy;have:=kB.o;omega));have FN:=ai (show vD (mask w9 [bd,bw,rb]) attrs l f ⟨sa,sn,sc,la,ln,lc,fa,fn,fc⟩ from⟨qE.o,Ik.o.mono (Wj vH (by simp)),aou.o.mono (Wj vH (by simp)),Yq.o,QI.o,Sn.o,AD.o,aFW.o.mono (Wj vH (by simp))⟩);clear vH HR8 YK Ik aFW aou;obtain⟨c0,c1,c2,cf⟩:=dM HW9.o;obtain⟨r0,r1,r2,rf⟩:=dM HR9.o;go_wp2_with fail;obtain⟨wz,eV⟩:∃wz,wz=kW w9 rb (.slice sa sn sc) (.slice la ln lc) (.slice fa fn fc):=⟨_,rfl⟩
 have U0:ct [rb] w9 wz:=by rw[eV];exact rV _ _ _ _ _ (by simp)
 have HZ:wz.heap[rb]?=some (.cells #[.slice sa sn sc,.slice la ln lc,.slice fa fn fc] 34 (0,0)):=by rw[eV];exact rW HR9.o _ _ _
 unfold kW at eV;rw[<-eV];clear eV c0 c1 c2 cf r0 r1 r2 rf;obtain⟨z0,z1,z2,zf⟩:=dM HZ;have hdz:=HD9.o.cR U0 (by have:=kB.o;simp;omega) (fun y hy=>by simp only[aG] at hy;have:=kB.o;omega);refine a5a (v:=.tuple #[Yh.val ⟨sa,sn,sc,la,ln,lc,fa,fn,fc⟩,.pointer (some ⟨bd,0,none⟩)]) (by simp[results,Tryz.results15,go_sem,Yh.val,z0,z1,z2]) rfl ?_;exact⟨attrs,l,f,_,bd,rfl,(FN.o.mono (Wj U0 (by simp))).mono (cM _ (by simp)),hdz,by obtain⟨_,_,_,_,_,_,_,_,hxw,_⟩:=hdz;exact hxw⟩
theorem KJ {s:List Attr} {l:List cK} {f:ZI} (hc:(cV s l).2=0) (hf:jU s f=true):jP s l f=0/\mS s l f=CN (val s l f) l:=by
 have h0:jP s l f=0:=by
  unfold jP;rw[bL (by simp[hc]),bL (by simp[hf])]
 exact⟨h0,by unfold mS;rw[bM h0]⟩
theorem vD.cls {w:World} {s:List Attr} {l:List cK} {f:ZI} {v:Yh} (h:vD w s l f v):(cV s l).2=0:=by rw[U4 h.mem h.ai6]
theorem vD.fac {w:World} {s:List Attr} {l:List cK} {f:ZI} {v:Yh} (h:vD w s l f v):jU s f=true:=by
 unfold jU;rw[(lK h.cls).x7,h.facts]
 rfl
theorem mj.take {w:World} {L:List Rs} {vs:List jf} (h:mj w L vs) (m:Nat):mj w (L.take m) (vs.take m) :=
 ⟨by rw[List.length_take,List.length_take,h.1],fun i g1 g2=>by simp only[List.getElem_take];exact h.2 i _ _⟩
theorem mj.drop {w:World} {L:List Rs} {vs:List jf} (h:mj w L vs) (m:Nat):mj w (L.drop m) (vs.drop m) :=
 ⟨by rw[List.length_drop,List.length_drop,h.1],fun i g1 g2=>by simp only[List.getElem_drop];exact h.2 _ _ _⟩
theorem a5j {w:World} {vs:List jf} {a:OA} {n c m:Nat} (h:eE w 6 jf.cells vs a n c) (hm:m<=n):eE w 6 jf.cells (vs.take m) a m c:=by
 obtain⟨h2,h3,h4,h5⟩:=h;refine⟨by rw[List.length_take];omega,aV hm h3,h4,fun i hi=>?_⟩;obtain⟨b,off,e,hc⟩:=h5 i (by rw[List.length_take] at hi;omega);refine⟨b,off,e,fun j hj=>?_⟩;simp only[List.getElem_take] at hj ⊢;exact hc j hj
theorem a5k {w:World} {vs:List jf} {bl off n c m:Nat} (h:eE w 6 jf.cells vs (some ⟨bl,off,none⟩) n c) (hm:m<=n):eE w 6 jf.cells (vs.drop m) (if c=m then some ⟨bl,off,none⟩ else some ⟨bl,off+m*6,none⟩) (n - m) (c - m):=by
 obtain⟨h2,h3,h4,h5⟩:=h;refine⟨by rw[List.length_drop];omega,by omega,by split<;>exact a4Z ⟨_,_,rfl⟩,fun i hi=>?_⟩;rw[List.length_drop] at hi;rw[bL (by omega)];obtain⟨b',off',e,hc⟩:=h5 (m+i) (by omega);simp only[a42,Addr.mk.injEq,and_true] at e;obtain⟨rfl,rfl⟩:=e;refine⟨bl,off+m*6,rfl,fun j hj=>?_⟩;simp only[List.getElem_drop] at hj ⊢;rw[show off+m*6+i*6+j=off+(m+i)*6+j by omega];exact hc j hj
theorem a6y {ρ:Operand->Value} {W:World} {T:Value->World->Prop} {dst:Option Tmp} {ty:TypeId} {pos:String} {after:Array Edge} {guard:Option (Nat×Bool)}
  (s x:Operand) (base n:Nat) (a0:OA) (c0:Nat) (vs us:List jf) (hs:ρ s=.slice a0 n c0) (a:OA) (m c:Nat) (hx:ρ x=.slice a m c) (hn:n+m<=100000000)
  (hown:W.ownsRow base 69 6 (.slice a0 n c0) n (vs.flatMap jf.cells)) (hr:eE W 6 jf.cells us a m c) (hbase:base<=W.heap.size) (h1:c0=1->0<m->c0<n+m)
  (h:∀a' c' w',w'.ownsRow base 69 6 (.slice a' (n+m) c') (n+m) ((vs++us).flatMap jf.cells)->ErQ 6 base W w'->(m=0->c'=c0)->T (.slice a' (n+m) c') w') :
  bQ Tryz.prog { dst:=dst,op:=.call { callee:=.builtin .append,args:=#[s,x],argTypes:=#[55,55] },type:=ty,pos:=pos,after:=after,guard:=guard } ρ W T:=by
 have hmu:m=us.length:=hr.1;by_cases hm:m=0
 ·subst hm;obtain rfl:us=[]:=aR hmu.symm;obtain⟨i,hi,hz,hsz,hby⟩:=info_parts Qq.info;have hnc:n<=c0:=by
   rcases hown.2 with ⟨e,e2⟩|⟨g,cap,cur,e,_,_,hnc,_⟩
   ·cases e;exact aU _
   cases e;exact hnc
  have he:execOp ρ { dst:=dst,op:=.call { callee:=.builtin .append,args:=#[s,x],argTypes:=#[55,55] },type:=ty,pos:=pos,after:=after,guard:=guard }=(do pure (.value (<-Builtin.append_ #[55,55] ty #[.slice a0 n c0,.slice a 0 c]))):=by
   rw[<-hs,<-hx,BigFrame.execOp_builtin,BigFrame.builtin_append];simp
  have hrun:=Hl (P:=Tryz.prog) W 55 ty 69 i Qq.ht hi a0 n c0 hnc a c;unfold bQ;rw[he];simp only[Sem.run_bind,hrun];exact h a0 c0 W (by simpa using hown) (ErQ.of (Tz _)) fun _=>rfl
 have hlen:=eN jf.cells 6 (fun _=>rfl) us;obtain⟨b,off,rfl,-⟩:=hr.2.2.2 0 (by omega);exact cL Qq s x base n a0 c0 _ hs b off m c _ hx (by rw[hlen,hmu]) (aK' us) (by omega) hn (by omega) hown (atO hr) hbase (fun e=>h1 e (by omega)) fun g cap w' ho he=>h _ cap w' (by simpa using ho) he fun e=>a40 e hm
theorem a5p {W W':World} {N:ZN} (h:Ext W W') (hn:∀y∈N,W.heap.size<=y):Sub W (mask W' N):=fun p u hp=>by
 have hl:=eB hp;rw[eA,bL (fun hm=>by have:=hn _ hm;omega)];exact h.cell hp
def a5g (w:World) (B o:Nat) (x:jf):World:=(((((w.setCell ⟨B,o,none⟩ (.string x.name)).setCell ⟨B,o+1,none⟩ (.bool x.dg)).setCell ⟨B,o+2,none⟩ (.bool x.p.value)).setCell ⟨B,o+3,none⟩ (.int .i64 x.p.pick)).setCell ⟨B,o+4,none⟩ (.slice x.p.a x.p.n x.p.c)).setCell ⟨B,o+5,none⟩ (.slice x.a x.n x.c)
theorem a5w (w:World) (B o:Nat) (x:jf):ct [B] w (a5g w B o x):=by
 unfold a5g
 repeat (with_reducible (refine ct.setCell ?_ (aoX (by simp)) _))
 exact ct.refl _ _
theorem a5x {w:World} {B o:Nat} {x:jf} {c:Array Value} {t:TypeId} (h:w.heap[B]?=some (.cells c t (0,0))):(a5g w B o x).heap[B]?=some (.cells ((((((c.setIfInBounds o (.string x.name)).setIfInBounds (o+1) (.bool x.dg)).setIfInBounds (o+2) (.bool x.p.value)).setIfInBounds (o+3) (.int .i64 x.p.pick)).setIfInBounds (o+4) (.slice x.p.a x.p.n x.p.c)).setIfInBounds (o+5) (.slice x.a x.n x.c)) t (0,0)):=by
 unfold a5g;rw[aI _ _ _ _ _ _ (aI _ _ _ _ _ _ (aI _ _ _ _ _ _ (aI _ _ _ _ _ _ (aI _ _ _ _ _ _ (aI _ _ _ _ _ _ h)))))]
theorem a5s {w:World} {B o:Nat} {x:jf} {c:Array Value} {t:TypeId} (h:w.heap[B]?=some (.cells c t (0,0))) (hs:o+6<=c.size) (j:Nat):(a5g w B o x).cell? ⟨B,j,none⟩=if o<=j/\j<o+6 then x.cells[j - o]? else c[j]?:=by
 rw[bX (a5x h)];simp only[Array.getElem?_setIfInBounds,Array.size_setIfInBounds];by_cases hj:o<=j/\j<o+6
 ·rw[bM hj];obtain⟨i,rfl⟩:∃i,j=o+i:=⟨j - o,by omega⟩
  rw[Nat.add_sub_cancel_left];have hi:i=0\/i=1\/i=2\/i=3\/i=4\/i=5:=by omega
  rcases hi with rfl|rfl|rfl|rfl|rfl|rfl
  all_goals simp[jf.cells]
  all_goals omega
 rw[bL hj,bL (by omega),bL (by omega),bL (by omega),bL (by omega),bL (by omega),bL (by omega)]
theorem a5L {w W:World} {N:ZN} {g n cap k:Nat} {cur:Array Value} {t:TypeId} {L:List Rs} {vs:List jf} {r':Rs} {v':jf} (hb:w.heap[g]?=some (.cells cur t (0,0))) (hc:∀j,j<n*6->cur[j]?=(vs.flatMap jf.cells)[j]?) (hs:n*6<=cur.size) (hn:vs.length=n) (hk:k<n) (hcap:n<=cap) (hW:W=a5g w g (k*6) v') (hg:g∉N) (hR:mj (mask W N) L vs) (hr:kC (mask W N) r' v'):iE (mask W N) (L.set k r') (some ⟨g,0,none⟩) n cap:=by
 have hcell:=a5s (x:=v') (o:=k*6) hb (by omega);rw[<-hW] at hcell;refine⟨vs.set k v',⟨by simp[hR.1],fun i h1 h2=>?_⟩,by simp[hn],hcap,a4Z ⟨g,0,rfl⟩,fun i h2=>⟨g,0,rfl,fun j hj=>?_⟩⟩
 ·by_cases hik:i=k
  ·subst hik;simp only[List.getElem_set_self];exact hr
  simp only[List.getElem_set_ne (fun h=>hik (Eq.symm h))];exact hR.2 i (by simpa using h1) (by simpa using h2)
 have hj6:j<6:=by rw[jf.len] at hj;exact hj
 have hi:i<vs.length:=by simpa using h2
 rw[eA,bL hg,hcell];by_cases hik:i=k
 ·subst hik;rw[bM (by omega)];simp only[List.getElem_set_self];rw[show 0+i*6+j - i*6=j by omega,aT (by rw[jf.len];exact hj6)]
 rw[bL (by omega)];simp only[List.getElem_set_ne (fun h=>hik (Eq.symm h))];rw[hc (0+i*6+j) (by omega)];have hq:=iJ jf.cells 6 jf.len vs i hi j (by rw[jf.len];exact hj6);rw[Nat.zero_add,hq]
theorem TM {N N':Nat} (hN:N<=N') {p:Pr} (h:p.iT N):p.iT N':=by
 induction h with
 | mk hn _ ih=>exact .mk (aV hn hN) ih
theorem aH' {N:Nat} {v:Bool} {k:Int} {ps:List Pr} (hn:ps.length<=N) (h:∀q∈ps,q.iT N) {i:Nat} {q:Pr} (hq:q.iT (N+1)):(Pr.mk v k (ps.set i q)).iT (N+1) :=
 .mk (by simp;omega) fun x hx=>by
  rcases List.mem_or_eq_of_mem_set hx with hx|rfl
  ·exact TM (Nat.le_succ N) (h x hx)
  exact hq
theorem aka {w:World} {vs:List gS} {a:OA} {n c:Nat} (h:eE w 3 gS.cells vs a n c) (hn:0<n):∃b off,a=some ⟨b,off,none⟩/\∀j (hj:j<(vs.flatMap gS.cells).length),w.cell? ⟨b,off+j,none⟩=some (vs.flatMap gS.cells)[j]:=by
 obtain⟨b,off,rfl,_⟩:=h.2.2.2 0 (by have:=h.1;omega);refine⟨b,off,rfl,fun j hj=>?_⟩;have hlen:=eN gS.cells 3 gS.len vs;have hi:j / 3<vs.length:=by omega
 obtain⟨b',off',e3,hc⟩:=h.2.2.2 (j / 3) hi;simp only[a42,Addr.mk.injEq,and_true] at e3;obtain⟨rfl,rfl⟩:=e3;have h6:=hc (j % 3) (by rw[gS.len];omega);rw[show off+j / 3*3+j % 3=off+j by omega] at h6;rw[h6];have:=iJ gS.cells 3 gS.len vs (j / 3) hi (j % 3) (by rw[gS.len];omega);rw[show j / 3*3+j % 3=j by omega,aT hj] at this;exact this.symm
theorem T6 (xs:List gS):∀u∈xs.flatMap gS.cells,u.oneCell'=true:=by
 intro u hu;obtain⟨x,_,hx⟩:=List.mem_flatMap.1 hu;simp only[gS.cells,bz,bC,or_false] at hx;rcases hx with rfl|rfl|rfl<;>rfl
def S7 (w:World) (B o:Nat) (x:gS):World:=((w.setCell ⟨B,o,none⟩ (.bool x.value)).setCell ⟨B,o+1,none⟩ (.int .i64 x.pick)).setCell ⟨B,o+2,none⟩ (.slice x.a x.n x.c)
theorem afM (w:World) (B o:Nat) (x:gS) {N:ZN} (h:B∈N):ct N w (S7 w B o x):=by
 unfold S7
 repeat (with_reducible (refine ct.setCell ?_ ?_ _))
 exact ct.refl _ _
 all_goals exact aoX h
theorem ap8 {w:World} {B o:Nat} {x:gS} {c:Array Value} {t:TypeId} (h:w.heap[B]?=some (.cells c t (0,0))) (hs:o+3<=c.size) (j:Nat):(S7 w B o x).cell? ⟨B,j,none⟩=if o<=j/\j<o+3 then x.cells[j - o]? else c[j]?:=by
 have hb:(S7 w B o x).heap[B]?=some (.cells (((c.setIfInBounds o (.bool x.value)).setIfInBounds (o+1) (.int .i64 x.pick)).setIfInBounds (o+2) (.slice x.a x.n x.c)) t (0,0)):=by
  unfold S7;rw[aI _ _ _ _ _ _ (aI _ _ _ _ _ _ (aI _ _ _ _ _ _ h))]
 rw[bX hb];simp only[Array.getElem?_setIfInBounds,Array.size_setIfInBounds];by_cases hj:o<=j/\j<o+3
 ·rw[bM hj];obtain⟨i,rfl⟩:∃i,j=o+i:=⟨j - o,by omega⟩
  rw[Nat.add_sub_cancel_left];have hi:i=0\/i=1\/i=2:=by omega
  rcases hi with rfl|rfl|rfl
  all_goals simp[gS.cells]
  all_goals omega
 rw[bL hj,bL (by omega),bL (by omega),bL (by omega)]
theorem aK8 {w w5 W6 W:World} {bd be B g kk n cap:Nat} {M:ZN} {l:List Pr} {xs:List gS} {cur:Array Value} {q':Pr} {v':gS} {t:TypeId}
  (hR:Ii (mask w M) l xs) (Wq:bd∈M) (hxl:xs.length=n) (hgb:w5.heap[g]?=some (.cells cur t (0,0))) (hgc:∀j,j<n*3->cur[j]?=(xs.flatMap gS.cells)[j]?) (hk3:kk*3+3<=cur.size) (hkx:kk<xs.length)
  (hP:W6=S7 w5 g (kk*3) v') (hcb:ct [be] W6 W) (hc:ct [bd] w w5) (jA:gL (mask w5 (([be,B,g]:ZN)++M)) q' v') (Jz:be=w.heap.size) (hB:B=w.heap.size+1) (hg:g≠be/\g≠B/\w.heap.size<=g/\g<w5.heap.size) (hM:∀y∈M,y<w.heap.size) (hcap:n<=cap) (b:Bool) (k:Int) :
  gL (mask W (B::M)) (.mk b k (l.set kk q')) ⟨b,k,some ⟨g,0,none⟩,n,cap⟩:=by
 subst Jz hB;obtain⟨zR,hg2,hg4,hg5⟩:=hg;have hPc:ct [g] w5 W6:=by rw[hP];exact afM _ _ _ _ (by simp)
 have agN:=ap8 (x:=v') hgb hk3;rw[<-hP] at agN;have hgN:g∉(w.heap.size+1)::M:=fun h=>by
  simp only[bz] at h;rcases h with h|h
  ·omega
  have:=hM g h;omega
 refine .mk (xs.set kk v') ⟨by simp[hxl],hcap,a4Z ⟨g,0,rfl⟩,fun i h2=>⟨g,0,rfl,fun j hj=>?_⟩⟩ (by simp[hR.1]) fun i h1 h2=>?_
 ·have hj3:j<3:=by rw[gS.len] at hj;exact hj
  have hi:i<xs.length:=by simpa using h2
  rw[eA,bL hgN,hcb.cell' (by simp;omega) (by simp only;have:=hPc.size;omega),agN];by_cases hik:i=kk
  ·subst hik;rw[bM (by omega)];simp only[List.getElem_set_self];rw[show 0+i*3+j - i*3=j by omega,aT (by rw[gS.len];exact hj3)]
  rw[bL (by omega)];simp only[List.getElem_set_ne (fun h=>hik (Eq.symm h))];rw[hgc (0+i*3+j) (by omega)];have hq:=iJ gS.cells 3 gS.len xs i hi j (by rw[gS.len];exact hj3);rw[Nat.zero_add,hq]
 by_cases hik:i=kk
 ·subst hik;simp only[List.getElem_set_self];refine jA.mono (cQ fun y hy hn=>?_);simp only[bz,aN,not_or,bC,or_false] at hn ⊢;exact⟨⟨hn.1.2.1,hn.2⟩,(hcb.block y (bF hy hPc.size) (by simpa using hn.1.1)).trans (hPc.block y hy (by simpa using hn.1.2.2))⟩
 simp only[List.getElem_set_ne (fun h=>hik (Eq.symm h))];refine(hR.2 i (by simpa using h1) (by simpa using h2)).mono (cQ fun y hy hn=>?_);have h6:=hPc.size;have h7:=hc.size;have hyb:y∉[bd]:=fun h=>hn (by simp only[aG] at h;rw[h];exact Wq)
 simp only[bz,not_or];exact⟨⟨by omega,hn⟩,(hcb.block y (by omega) (by simp;omega)).trans ((hPc.block y (by omega) (by simp;omega)).trans (hc.block y hy hyb))⟩
theorem akh {w:World} {v:Bool} {k:Int} {ps:List Pr} {pv:gS} (h:gL w (.mk v k ps) pv):∃(vs:List gS),pv=⟨v,k,pv.a,pv.n,pv.c⟩/\eE w 3 gS.cells vs pv.a pv.n pv.c/\Ii w ps vs:=by
 cases h with
 | mk vs hr hl h=>exact⟨vs,rfl,hr,hl.symm,h⟩
theorem SA {w W:World} {bd:Nat} {M N:ZN} (h:ct [bd] w W) (hb:bd∈M) (hn:∀y∈N,w.heap.size<=y):Sub (mask w M) (mask W (N++M)):=cQ fun k hk hm =>
 ⟨fun h'=>by
  rcases aN.1 h' with h'|h'
  ·have:=hn k h';omega
  exact hm h',h.block k hk (fun h'=>hm (by simp only[aG] at h';rw[h'];exact hb))⟩
theorem EY {w w2 W:World} {bd be:Nat} {M:ZN} (h:ct [bd] w w2) (hc:ct [be] w2 W) (hb:bd∈M) (_hM:∀y∈M,y<w.heap.size) (Jz:be=w.heap.size):Sub (mask w M) (mask W ((be+1)::M)):=cQ fun k hk hm =>
 ⟨fun h'=>by
  rcases bz.1 h' with h'|h'
  ·omega
  exact hm h',(hc.block k (bF hk h.size) (fun h'=>by simp only[aG] at h';omega)).trans (h.block k hk (fun h'=>hm (by simp only[aG] at h';rw[h'];exact hb)))⟩
theorem ay4 {w:World} {v:Bool} {k:Int} {ps:List Pr} {xs:List gS} {a:OA} {n c:Nat} (hr:eE w 3 gS.cells xs a n c) (hp:Ii w ps xs) {m:Nat} (hm:m<=n):gL w (.mk v k (ps.take m)) ⟨v,k,a,m,c⟩:=by
 refine .mk (xs.take m) ⟨by rw[List.length_take];have:=hr.1;omega,aV hm hr.2.1,hr.2.2.1,fun i hi=>?_⟩ (by rw[List.length_take,List.length_take,hp.1]) fun i h1 h2=>?_
 ·have h3:i<xs.length:=by rw[List.length_take] at hi;omega
  obtain⟨b,off,e,hc⟩:=hr.2.2.2 i h3;refine⟨b,off,e,fun j hj=>?_⟩;simp only[List.getElem_take] at hj ⊢;exact hc j hj
 simp only[List.getElem_take];exact hp.2 i _ _
end Go.Proofs.YtefjomofjejklaaGreatDoor
