/-
  Texts of the claim, joined: RRea, RPic, DEx1.
-/
import Derived.Test.YtefjomofjejklaaGreatDoorDx25
namespace Go.Proofs.YtefjomofjejklaaGreatDoor
set_option maxRecDepth 100000
set_option maxHeartbeats 32000000
open Go.RowKit Go.Maps
structure aRd (w0:World) (sa:OA) (sn sc:Nat) (a:OA) (n c:Nat) (fa:OA) (fn fc:Nat) (V:Ex->Bool) (F:Ex->Pr) (P:Ex->Prop):Prop where
 truth:afO w0 sa sn sc a n c fa fn fc V P
 proof:∀W,Ext w0 W->∀e ev,P e->fC W e ev->Calls Tryz.prog 129 #[.agg #[.slice sa sn sc],.slice a n c,ev,.slice fa fn fc] W (fun r w'=>∃pv:jP,r=.returned (.agg #[.bool pv.value,.int .i64 pv.pick,.slice pv.a pv.n pv.c])/\jK (mask w' (List.range W.heap.size)) (F e) pv/\Ext W w')
 val:∀e,(F e).value=V e
def RRa (F:Ex->Pr) (u:List Wb) (P:Pr) (pv:jP) (nm:BA) (b9 n0 nu:Nat) (wl:World) (i:Value) (wr:World):Prop:=∃(k:Nat) (vs:List pO) (ua:OA) (uc:Nat),i=.int .i64 k/\k<=nu/\wr.heap[b9]?=some (.cells #[.string nm,.bool true,.bool pv.value,.int .i64 pv.pick,.slice pv.a pv.n pv.c,.slice ua k uc] 69 (0,0)) /\
 jK (mask wr (b9::rowOf (.slice ua k uc)++List.range n0)) P pv/\wr.ownsRow wl.heap.size 69 6 (.slice ua k uc) k (vs.flatMap pO.cells)/\wY (mask wr (b9::rowOf (.slice ua k uc)++List.range n0)) ((uZ F u).take k) vs/\dO [b9] wl wr
def RRf (F:Ex->Pr) (u:List Wb) (P:Pr) (pv:jP) (nm:BA) (b9 n0 nu:Nat) (wl:World) (i:Value) (wr:World):Prop:=∃(k:Nat),i=.int .i64 k/\k<=nu/\wr.heap[b9]?=some (.cells #[.string nm,.bool false,.bool pv.value,.int .i64 pv.pick,.slice pv.a pv.n pv.c,.slice none 0 0] 69 (0,0)) /\
 jK (mask wr (b9::rowOf (.slice none 0 0)++List.range n0)) P pv/\(∀x∈(uZ F u).take k,x.applies=false)/\Ext wl wr
theorem am7 {w0:World} {sa:OA} {sn sc:Nat} {a:OA} {n c:Nat} {fa:OA} {fn fc:Nat} {V:Ex->Bool} {F:Ex->Pr} {Pd':Ex->Prop} (hin:aRd w0 sa sn sc a n c fa fn fc V F Pd'):∀(m:Nat) (cond:Ex) (u:List Wb) (nm:BA) (x:fU) (au:OA) (nu cu:Nat) (w:World),qU u<=m->Ext w0 w->Pd' cond->nN Pd' u->qU u<=1000000->nu=u.length->fC w cond x.val->jJ w u au ->
  Calls Tryz.prog 99 #[.agg #[.slice sa sn sc],.slice a n c,.agg #[.string nm,.int .i64 x.op,.string x.name,.slice x.aw x.nw x.cw,.int .i64 x.lo,.int .i64 x.hi,.slice x.aa x.na x.ca,.slice au nu cu],.slice fa fn fc] w (asQ (rO nm (F cond) (uZ F u)) w):=by
 intro m;induction m using Nat.strongRecOn with
 | _ m ih =>
 intro cond u nm x au nu cu w hm hx0 hp hok hn6 hlen hex hd;have hwn:=wI u;have HRC:=ak (fun (k:Nat) (hk:k<u.length) (v:J4) W (hW:Ext w W) (hvn:v.name=u[k].name) (Bz:fC W u[k].cond v.x.val) (hvu:v.nu=u[k].jZ.length) (hvd:jJ W u[k].jZ v.au)=>show Calls Tryz.prog 99 #[.agg #[.slice sa sn sc],.slice a n c,.agg #[.string v.name,.int .i64 v.x.op,.string v.x.name,.slice v.x.aw v.x.nw v.x.cw,.int .i64 v.x.lo,.int .i64 v.x.hi,.slice v.x.aa v.x.na v.x.ca,.slice v.au v.nu v.cu],.slice fa fn fc] W (asQ (rO u[k].name (F u[k].cond) (uZ F u[k].jZ)) W) from by
  rw[<-hvn];exact ih (qU u[k].jZ) (by have:=Gn u k hk;omega) u[k].cond u[k].jZ v.name v.x v.au v.nu v.cu W (bg _) (hx0.trans hW) (pI u hok k hk).1 (pI u hok k hk).2.1 (by have:=Gn u k hk;omega) hvu Bz hvd)
 have hnu:nu<=1000000:=by omega
 have sS:=ak (fun W (hW:Ext w W)=>aaf hin.truth (qU u) cond u nm x au nu cu W (bg _) (hx0.trans hW) hp hok (by omega) hlen (hex.ext hW) (jJ.mono hW.sub _ _ hd));have HPF:=ak (fun W (hW:Ext w W)=>hin.proof W (hx0.trans hW) cond x.val hp (hex.ext hW));have HAN:=ak (show (uZ F u).any Rs.applies=wG V u from aeF hin.val u);obtain⟨P,hP⟩:∃P,P=F cond:=⟨_,rfl⟩
 have HVP:=ak (show P.value=V cond by rw[hP];exact hin.val cond);obtain⟨AP,hAP⟩:∃AP,AP=(V cond&&!wG V u):=⟨_,rfl⟩
 rw[<-hP] at HPF ⊢;rw[<-hAP] at sS;have Zp:=ak hAP;have HD:=ak hd;have HLEN:=ak hlen;unfold fU.val exV at HPF;clear ih hm hx0 hp hok hn6 hlen hex hd hwn hP hAP;obtain⟨b4,hb4⟩:∃b4,b4=w.heap.size:=⟨_,rfl⟩
 obtain⟨wa,dW⟩:∃wa,wa=((w.alloc (.cells #[.slice sa sn sc] 24)).alloc (.cells #[.string nm,.int .i64 x.op,.string x.name,.slice x.aw x.nw x.cw,.int .i64 x.lo,.int .i64 x.hi,.slice x.aa x.na x.ca,.slice au nu cu] 53)).alloc (.cells #[.string ⟨#[]⟩,.bool false,.bool false,.int .i64 0,.slice none 0 0,.slice none 0 0] 69):=⟨_,rfl⟩
 have fE:=ak (show Ext w wa by rw[dW];exact(((Ext.refl _).alloc _).alloc _).alloc _);have HA4:=ak (show wa.heap[b4]?=some (.cells #[.slice sa sn sc] 24 (0,0)) by rw[dW,hb4];exact dJ (dJ (dG w _)));have HA6:=ak (show wa.heap[b4+1]?=some (.cells #[.string nm,.int .i64 x.op,.string x.name,.slice x.aw x.nw x.cw,.int .i64 x.lo,.int .i64 x.hi,.slice x.aa x.na x.ca,.slice au nu cu] 53 (0,0)) by rw[dW,hb4];exact dJ (eH (by simp)));have HA8:=ak (show wa.heap[b4+1+1]?=some (.cells #[.string ⟨#[]⟩,.bool false,.bool false,.int .i64 0,.slice none 0 0,.slice none 0 0] 69 (0,0)) by rw[dW,hb4];exact eH (by simp));obtain⟨n0,hn0⟩:∃n0,n0=wa.heap.size:=⟨_,rfl⟩
 have HS:=ak (show b4=w.heap.size/\b4+3=n0/\n0=wa.heap.size from⟨hb4,by rw[hn0,dW,hb4];simp,hn0⟩);go_enter Tryz.func99,Tryz.ntmps99
 go_upto_region 1 with fail
 rw[<-dW,<-hb4];clear dW hb4 hn0;obtain⟨x0,xf⟩:=gQ HA4.o;obtain⟨y0,y1,y2,y3,y4,y5,y6,y7,yf⟩:=vN HA6.o;have X0:=dI x0;have Y0:=dI y0;have Y1:=dI y1;have Y2:=dI y2;have Y3:=dI y3;have Y4:=dI y4;have Y5:=dI y5;have Y6:=dI y6;have Y7:=dI y7;refine rZ (m:=16) (Er:=Ut wa.heap.size) (C:=Ext wa) (Φ:=fun _=>True) (Ut.refl _) (fun _ _ h=>Ut.of h) (fun _ _ h q=>Ut.ext h q) (Ext.refl wa).drew trivial (fun _ _ _ h=>h) ?_
 repeat (refine dQ ?_;intro K hK;go_big_quiet_op;go_big_quiet_on)
 refine tu (fun W hW=>sS.o W (fE.o.trans hW)) (hX:=fun _ _ h=>Ut.of h) ?_;intro K hK;go_simp;go_big_quiet_on
 repeat (refine dQ ?_;intro K hK;go_big_quiet_op;go_big_quiet_on)
 refine Gg (γ:=jP×Nat×Nat) (fun x=>.agg #[.bool x.1.value,.int .i64 x.1.pick,.slice x.1.a x.1.n x.1.c]) (fun x W=>∀g,(g<x.2.1\/x.2.2<=g)->jK (mask W (g::List.range n0)) P x.1) (fun x g=>g<x.2.1\/x.2.2<=g) (fun W hW _ _=>?_) (fun x W W' hx h g hg=>(h g hg).mono (fA (hx.fH []) (by simp))) ?_ ⟨(⟨false,0,none,0,0⟩,0,0)⟩
 ·unfold dF;go_simp;refine(HPF.o W (fE.o.trans hW)).mono ?_;rintro r wz ⟨v,rfl,h1,h2⟩;exact⟨_,rfl,Ut.of h2,(v,W.heap.size,wz.heap.size),rfl,fun g hg=>h1.mono (Vp (fun y hy=>by have:=hW.size;have:=HS.o;rw[List.mem_range] at hy ⊢;omega) (hg.imp (fun h=>by simpa using h) id)),fun g hg=>hg⟩
 rintro⟨⟨pb,pk,pa,pn,pc⟩,lo',hi'⟩ K hK;go_simp;go_big_quiet_on
 repeat (refine dQ ?_;intro K hK;go_big_quiet_op;go_big_quiet_on)
 refine Uj (fun g=>.pointer (some ⟨g,0,none⟩)) (fun g W=>wa.heap.size<=g/\∃c,W.heap[g]?=some (.cells c 69 (0,0))/\c.size=6) (fun W hW=>?_) (fun g W W' h ⟨k1,c,k2,k3⟩=>?_) (fun _ _ h=>h.size) ?_
 ·unfold dF;go_simp;exact⟨(Ext.refl W).alloc _,W.heap.size,rfl,bg _,by simp,hW.size,_,dG W _,rfl⟩
 ·obtain⟨c',e1,e2⟩:=h.shape k2 k3;exact⟨k1,c',e1,e2⟩
 intro b9 K hK;go_simp;go_big_quiet_on;refine lS undef (fun W=>wa.heap.size<=b9/\W.heap[b9]?=some (.cells #[.string nm,.bool AP,.bool pb,.int .i64 pk,.slice pa pn pc,.slice none 0 0] 69 (0,0))/\jK (mask W (b9::List.range n0)) P ⟨pb,pk,pa,pn,pc⟩) (fun W hW hq hF=>?_) (fun W W' h q=>⟨q.1,h.blk q.2.1,q.2.2.mono (fA (h.fH []) (by simp))⟩) ?_
 ·obtain⟨_,⟨hyl,cc,hyb,hcs⟩,_,hA⟩:=hF;obtain⟨v0,v1,v2,v3,v4,v5,rfl⟩:=ap1 hcs;obtain⟨z0,z1,z2,z3,z4,z5,zf⟩:=gJ hyb;have hlt:=dH hyb;have HP:=ak (jv hyb (v0:=.string nm) (v1:=.bool AP) (v2:=.bool pb) (v3:=.int .i64 pk) (v4:=.slice pa pn pc) (v5:=.slice none 0 0));have HQ:=ak (iY W b9 (v0:=.string nm) (v1:=.bool AP) (v2:=.bool pb) (v3:=.int .i64 pk) (v4:=.slice pa pn pc) (v5:=.slice none 0 0));have HY:=ak hyb;have HH:=ak (((hq b9 hA.2).mono (fA HQ.o (fun y hy=>Or.inl (by simp at hy;simp[hy])))));clear hyb hq hA hcs;unfold jE at HP HQ HH;unfold dF;go_simp;exact⟨⟨[b9],HQ.o,fun k hk=>by
   rw[aK.1 hk];exact⟨hyl,fun cs t hb _=>by
    rw[HY.o] at hb;simp only[Option.some.injEq,Obj.cells.injEq] at hb;obtain⟨_,rfl,_⟩:=hb;exact⟨_,HP.o,rfl⟩⟩⟩,rfl,HP.o,HH.o⟩
 intro K hK;go_simp;go_big_quiet_on;refine lH fun w1 hx hy _=>?_
 have fQ:=ak (fE.o.trans hx);have HB4:=ak (hx.blk HA4.o);have nM:=ak (hx.blk HA6.o);have Vd:=ak (hx.blk HA8.o);have HB9:=ak hy.2.1;have HL9:=ak (show n0<=b9 by have:=HS.o;have:=hy.1;omega);have HIP:=ak hy.2.2;have PE:=ak (show pb=P.value from hy.2.2.parts.1);have Em:=ak (show n0<=w1.heap.size by have:=hx.size;have:=HS.o;omega);clear hx hy x0 xf y0 y1 y2 y3 y4 y5 y6 y7 yf X0 Y0 Y1 Y2 Y3 Y4 Y5 Y6 Y7 HA4 HA6 HA8 sS HPF fE;obtain⟨r0,r1,r2,r3,r4,r5,rf⟩:=gJ HB9.o;cases pb
 ·have hap:AP=false:=by rw[Zp.o,<-HVP.o,<-PE.o];rfl
  subst hap;have HF:=ak (TF (v:=⟨nm,false,⟨false,pk,pa,pn,pc⟩,none,0,0⟩) (K:=List.range n0) (r:=rO nm P (uZ F u)) Vd.o fQ.o (by have:=HS.o;omega) (by have:=HS.o;simp;omega) (by have:=HS.o;simp;omega) (by unfold rO;rw[dw PE.o.symm];exact abK (HIP.o.mono (eG _ (fun y hy=>bH _ hy))) (XF _) _ _));obtain⟨q0,q1,q2,q3,q4,q5,qf⟩:=gJ Vd.o;go_wp2_with fail
  obtain⟨wz,hwz⟩:∃wz,wz=jE w1 (b4+1+1) (.string nm) (.bool false) (.bool false) (.int .i64 pk) (.slice pa pn pc) (.slice none 0 0):=⟨_,rfl⟩
  rw[<-hwz] at HF;unfold jE at hwz;rw[<-hwz];clear hwz q0 q1 q2 q3 q4 q5 qf;obtain⟨q0,q1,q2,q3,q4,q5,qf⟩:=gJ HF.o.1;refine bodyPost_ret (v:=pO.val ⟨nm,false,⟨false,pk,pa,pn,pc⟩,none,0,0⟩) (by simp[results,Tryz.results99,go_sem,pO.val,q0,q1,q2,q3,q4,q5]) rfl ?_;exact⟨_,rfl,HF.o.2.1,HF.o.2.2⟩
 have hvu:AP=!wG V u:=by rw[Zp.o,<-HVP.o,<-PE.o];rfl
 have HN:=ak (show (uZ F u).any Rs.applies=!AP by rw[hvu,HAN.o];simp);clear hvu Zp HAN HVP;have HPT:=ak (show P.value=true from PE.o.symm);clear PE;cases AP
 ·go_wp2_with fail
  go_loopw [10] (RRf F u P ⟨true,pk,pa,pn,pc⟩ nm b9 n0 nu w1) (fun i _=>nu - (intOf i).toNat)
  case atStart=>exact⟨0,rfl,Nat.zero_le _,HB9.o,HIP.o.mono (eG _ (by simp[rowOf,Value.ownBlock])),by simp,Ext.refl _⟩
  case round =>
   obtain⟨k,rfl,hk,I7,hip,hno,hce⟩:=hrel;have hc:dO [b9] w1 wr:=hce.fH _;obtain⟨wo,rfl⟩:∃wo:World,wo=wr:=⟨_,rfl⟩
   dsimp only at I7;have HX:=ak (show Ext w wo from hc.ext fQ.o (fun y hy=>by rw[aK.1 hy];have:=HS.o;have:=HL9.o;omega));have Yk:=ak (show wo.heap[b4]?=some (.cells #[.slice sa sn sc] 24 (0,0)) from hc.blk HB4.o (by have:=HS.o;have:=HL9.o;simp;omega));have HWB:=ak (show wo.heap[b4+1]?=some (.cells #[.string nm,.int .i64 x.op,.string x.name,.slice x.aw x.nw x.cw,.int .i64 x.lo,.int .i64 x.hi,.slice x.aa x.na x.ca,.slice au nu cu] 53 (0,0)) from hc.blk nM.o (by have:=HS.o;have:=HL9.o;simp;omega));have HW8:=ak (show wo.heap[b4+1+1]?=some (.cells #[.string ⟨#[]⟩,.bool false,.bool false,.int .i64 0,.slice none 0 0,.slice none 0 0] 69 (0,0)) from hc.blk Vd.o (by have:=HS.o;have:=HL9.o;simp;omega));have HW9:=ak I7;have HP:=ak hip;have aAu:=ak (bC Em.o hc.size);have HC:=ak hc;have aR2:=ak hno;have HE:=ak hce;clear I7 hip hno hc hce;by_cases hkn:k<nu
   ·have hkl:k<u.length:=by have:=HLEN.o;omega
    have t1:=ah ((k:Int)<(nu:Int));obtain⟨b,off,rfl,v,hvn,hrow,Bz,hvu,-,-,hvd⟩:=jJ.at u _ (jJ.mono HX.o.sub u _ HD.o) k hkl;obtain⟨c0,c1,c2,c3,c4,c5,c6,c7⟩:=hrow.eight;have xJ:=ak (fun W (hW:Ext wo W)=>HRC.o k hkl v W (HX.o.trans hW) hvn (Bz.ext hW) hvu (jJ.mono hW.sub _ _ hvd));obtain⟨X,hX⟩:∃X,X=rO u[k].name (F u[k].cond) (uZ F u[k].jZ):=⟨_,rfl⟩
    rw[<-hX] at xJ;have Iq:=ak (show (uZ F u).take (k+1)=(uZ F u).take k++[X]/\(uZ F u)[k]?=some X by
     have h1:=aeE F u k hkl;rw[<-hX] at h1;obtain⟨h2,h3⟩:=List.getElem?_eq_some_iff.1 h1;exact⟨by rw[aU h2,h3],h1⟩)
    clear hvn hrow Bz hvu hvd hX;obtain⟨x0,xf⟩:=gQ Yk.o;obtain⟨y0,y1,y2,y3,y4,y5,y6,y7,yf⟩:=vN HWB.o;have X0:=dI x0;have Y7:=dI y7;have D0:=dI c0;have D1:=dI c1;have D2:=dI c2;have D3:=dI c3;have D4:=dI c4;have D5:=dI c5;have D6:=dI c6;have D7:=dI c7;have b0:(0:Int)<=(k:Int):=by omega
    have b1:(k:Int)<(nu:Int):=by omega
    obtain⟨K0,hK0⟩:∃K0,K0=b9::rowOf (.slice none 0 0)++List.range n0:=⟨_,rfl⟩
    have HK0:=ak (show ∀y∈K0,y<wo.heap.size from fun y hy=>by
     have h1:=HS.o;have h2:=aAu.o;rw[hK0] at hy;simp only[List.cons_append,bK,aT,List.mem_range] at hy;rcases hy with rfl|hy|hy
     ·exact dH HW9.o
     ·first|(exact(HOW.o.lt y (dK.1 hy)).2)|(simp[rowOf,Value.ownBlock] at hy)
     omega)
    have HKE:=ak hK0;clear hK0;go_upto_region 7 with fail
    refine rZ (m:=11) (Er:=Ut wo.heap.size) (C:=Ext wo) (Φ:=fun _=>True) (Ut.refl _) (fun _ _ h=>Ut.of h) (fun _ _ h q=>Ut.ext h q) (Ext.refl wo).drew trivial (fun _ _ _ h=>h) ?_
    repeat (refine dQ ?_;intro K hK;go_big_quiet_op;go_big_quiet_on)
    refine Gg (γ:=pO×Nat×Nat) (fun x=>.agg #[.string x.1.name,.bool x.1.applies,.bool x.1.p.value,.int .i64 x.1.p.pick,.slice x.1.p.a x.1.p.n x.1.p.c,.slice x.1.a x.1.n x.1.c]) (fun x W=>∀g,(g<x.2.1\/x.2.2<=g)->yP (mask W (g::K0)) X x.1) (fun x g=>g<x.2.1\/x.2.2<=g) (fun W hW _ _=>?_) (fun x W W' hx h g hg=>(h g hg).mono (fA (hx.fH []) (by simp))) ?_ ⟨(⟨⟨#[]⟩,false,⟨false,0,none,0,0⟩,none,0,0⟩,0,0)⟩
    ·unfold dF;go_simp;refine(xJ.o W hW).mono ?_;rintro r wz ⟨v,rfl,h1,h2⟩;exact⟨_,rfl,Ut.of h2,(v,W.heap.size,wz.heap.size),rfl,fun g hg=>h1.mono (Vp (fun y hy=>List.mem_range.2 (bU (HK0.o y hy) hW.size)) (hg.imp (fun h=>by simpa using h) id)),fun g hg=>hg⟩
    rintro⟨⟨vn,Q,qv,va,vm,vc⟩,lo',hi'⟩ K hK;go_simp;go_big_quiet_on;refine Uj (fun g=>.pointer (some ⟨g,0,none⟩)) (fun g W=>wo.heap.size<=g/\∃c,W.heap[g]?=some (.cells c 69 (0,0))/\c.size=6) (fun W hW=>?_) (fun g W W' h ⟨k1,c,k2,k3⟩=>?_) (fun _ _ h=>h.size) ?_
    ·unfold dF;go_simp;exact⟨(Ext.refl W).alloc _,W.heap.size,rfl,bg _,by simp,hW.size,_,dG W _,rfl⟩
    ·obtain⟨c',e1,e2⟩:=h.shape k2 k3;exact⟨k1,c',e1,e2⟩
    intro b11 K hK;go_simp;go_big_quiet_on;refine lS undef (fun W=>W.heap[b11]?=some (.cells #[.string vn,.bool Q,.bool qv.value,.int .i64 qv.pick,.slice qv.a qv.n qv.c,.slice va vm vc] 69 (0,0))/\yP (mask W K0) X ⟨vn,Q,qv,va,vm,vc⟩) (fun W hW hq hF=>?_) (fun W W' h q=>⟨h.blk q.1,q.2.mono (fA (h.fH []) (by simp))⟩) ?_
    ·obtain⟨_,⟨hyl,cc,hyb,hcs⟩,_,hA⟩:=hF;obtain⟨v0,v1,v2,v3,v4,v5,rfl⟩:=ap1 hcs;obtain⟨z0,z1,z2,z3,z4,z5,zf⟩:=gJ hyb;have hlt:=dH hyb;have HP:=ak (jv hyb (v0:=.string vn) (v1:=.bool Q) (v2:=.bool qv.value) (v3:=.int .i64 qv.pick) (v4:=.slice qv.a qv.n qv.c) (v5:=.slice va vm vc));have HQ:=ak (iY W b11 (v0:=.string vn) (v1:=.bool Q) (v2:=.bool qv.value) (v3:=.int .i64 qv.pick) (v4:=.slice qv.a qv.n qv.c) (v5:=.slice va vm vc));have HY:=ak hyb;have HH:=ak (((hq b11 hA.2).mono (fA (iY W b11 (v0:=.string vn) (v1:=.bool Q) (v2:=.bool qv.value) (v3:=.int .i64 qv.pick) (v4:=.slice qv.a qv.n qv.c) (v5:=.slice va vm vc)) (fun y hy=>Or.inl (by simp at hy;simp[hy])))).mono (eG _ (fun y hy=>bH _ hy)));clear hyb hq hA hcs;unfold jE at HP HQ HH;unfold dF;go_simp;exact⟨⟨[b11],HQ.o,fun k hk=>by
      rw[aK.1 hk];exact⟨hyl,fun cs t hb _=>by
       rw[HY.o] at hb;simp only[Option.some.injEq,Obj.cells.injEq] at hb;obtain⟨_,rfl,_⟩:=hb;exact⟨_,HP.o,rfl⟩⟩⟩,rfl,HP.o,HH.o⟩
    intro K hK;go_simp;go_big_quiet_on;refine lH fun w7 hx hy _=>?_
    have kC:=ak hx;have uh:=ak hy.1;have HV:=ak (show yP (mask w7 (b9::rowOf (.slice none 0 0)++List.range n0)) X ⟨vn,Q,qv,va,vm,vc⟩ by rw[<-HKE.o];exact hy.2);have HQ:=ak (show Q=X.applies from hy.2.app);have axh:=ak (hx.blk HW9.o);clear hx hy x0 xf y0 y1 y2 y3 y4 y5 y6 y7 yf X0 Y7 D0 D1 D2 D3 D4 D5 D6 D7 c0 c1 c2 c3 c4 c5 c6 c7 xJ HKE HK0;obtain⟨r0,r1,r2,r3,r4,r5,rf⟩:=gJ axh.o;obtain⟨s0,s1,s2,s3,s4,s5,sf⟩:=gJ uh.o;have UQ:=dH uh.o;have a0b:=dH axh.o;have NT:=ak (show w1.heap.size<=wo.heap.size/\wo.heap.size<=w7.heap.size/\n0<=w1.heap.size/\b9<w1.heap.size from⟨HC.o.size,kC.o.size,Em.o,dH HB9.o⟩);have aUk:=kC.o.size;cases Q
    ·go_wp2_with fail
     go_roundw
     case rel =>
      refine⟨k+1,by go_num,by omega,axh.o,HP.o.mono (fA (kC.o.fH []) (by simp)),?_,HE.o.trans kC.o⟩;intro y hy;rw[Iq.o.1] at hy;rcases aT.1 hy with h|h
      ·exact aR2.o y h
      rw[aK.1 h];exact HQ.o.symm
     case measure=>simp[intOf];omega
    obtain⟨g,hg⟩:∃g,g=w7.heap.size:=⟨_,rfl⟩
    obtain⟨wy,hwy⟩:∃wy,wy=(w7.setCell ⟨b9,5,none⟩ (.slice (some ⟨w7.heap.size,0,none⟩) 1 1)).alloc (.cells #[.string vn,.bool true,.bool qv.value,.int .i64 qv.pick,.slice qv.a qv.n qv.c,.slice va vm vc] 69):=⟨_,rfl⟩
    have hcy:dO [b9] w7 wy:=by rw[hwy];exact((dO.refl _ _).setCell (Or.inl (by simp)) _).then (((Ext.refl _).alloc _).fH _)
    have hyg:wy.heap[g]?=some (.cells #[.string vn,.bool true,.bool qv.value,.int .i64 qv.pick,.slice qv.a qv.n qv.c,.slice va vm vc] 69 (0,0)):=by rw[hwy,hg];exact eH (by simp)
    have hy9:wy.heap[b9]?=some (.cells #[.string nm,.bool false,.bool true,.int .i64 pk,.slice pa pn pc,.slice (some ⟨g,0,none⟩) 1 1] 69 (0,0)):=by
     rw[hwy,hg];have:=dJ (o':=.cells #[.string vn,.bool true,.bool qv.value,.int .i64 qv.pick,.slice qv.a qv.n qv.c,.slice va vm vc] 69) (aO w7 b9 5 _ _ (.slice (some ⟨w7.heap.size,0,none⟩) 1 1) axh.o);simpa using this
    go_upto_region 12 with fail
    rw[<-hwy];have hcc:dO [b9] wo wy:=(kC.o.fH [b9]).then hcy
    have hgn:g∉List.range n0:=by have:=NT.o;rw[List.mem_range];omega
    have HF:=ak (TF (v:=⟨nm,false,⟨true,pk,pa,pn,pc⟩,some ⟨g,0,none⟩,1,1⟩) (K:=List.range n0) (r:=rO nm P (uZ F u)) (hcc.blk HW8.o (by have:=HS.o;have:=HL9.o;simp;omega)) (hcc.ext HX.o (fun y hy=>by rw[aK.1 hy];have:=HS.o;have:=HL9.o;omega)) (by have:=HS.o;omega) (by have:=HS.o;simp;omega) (by have:=HS.o;simp;omega) (by
     have e:rO nm P (uZ F u)=.mk nm false P [X]:=by
      unfold rO;rw[dh (by rw[HPT.o];simp),alq aR2.o Iq.o.2 HQ.o.symm]
     rw[e];have hl:∀y∈List.range n0,y∈b9::rowOf (.slice none 0 0)++List.range n0:=fun y hy=>by simp only[List.cons_append,bK,aT];exact Or.inr (Or.inr hy)
     have hm:∀{W:World},dO [b9] W wy->Sub (mask W (b9::rowOf (.slice none 0 0)++List.range n0)) (mask wy (List.range n0)):=fun h=>(fA h (fun y hy=>Or.inl (by rw[aK.1 hy];simp))).trans (eG _ hl)
     exact abK (HP.o.mono (hm hcc)) (agF hyg hgn (HV.o.mono (hm hcy))) _ _))
    have hb8:=hcc.blk HW8.o (by have:=HS.o;have:=HL9.o;simp;omega);clear hwy hcc hcy hyg hgn hg r0 r1 r2 r3 r4 r5 rf s0 s1 s2 s3 s4 s5 sf;obtain⟨r0,r1,r2,r3,r4,r5,rf⟩:=gJ hy9;obtain⟨q0,q1,q2,q3,q4,q5,qf⟩:=gJ hb8;go_wp2_with fail
    obtain⟨wz,hwz⟩:∃wz,wz=jE wy (b4+1+1) (.string nm) (.bool false) (.bool true) (.int .i64 pk) (.slice pa pn pc) (.slice (some ⟨g,0,none⟩) 1 1):=⟨_,rfl⟩
    rw[<-hwz] at HF;unfold jE at hwz;rw[<-hwz];clear hwz q0 q1 q2 q3 q4 q5 qf;obtain⟨q0,q1,q2,q3,q4,q5,qf⟩:=gJ HF.o.1;refine bodyPost_ret (v:=pO.val ⟨nm,false,⟨true,pk,pa,pn,pc⟩,some ⟨g,0,none⟩,1,1⟩) (by simp[results,Tryz.results99,go_sem,pO.val,q0,q1,q2,q3,q4,q5]) rfl ?_;exact⟨_,rfl,HF.o.2.1,HF.o.2.2⟩
   exfalso;have h1:=HN.o;have h2:(uZ F u).take k=uZ F u:=aY (by rw[QF];have:=HLEN.o;omega);have h3:=aR2.o;rw[h2] at h3;simp only[Bool.not_false,List.any_eq_true] at h1;obtain⟨y,hy,hya⟩:=h1;rw[h3 y hy] at hya;exact absurd hya (by simp)
 go_wp2_with fail
 go_loopw [10] (RRa F u P ⟨true,pk,pa,pn,pc⟩ nm b9 n0 nu w1) (fun i _=>nu - (intOf i).toNat)
 case atStart=>exact⟨0,[],none,0,rfl,Nat.zero_le _,HB9.o,HIP.o.mono (eG _ (by simp[rowOf,Value.ownBlock])),World.ownsRow_nil _ _ _ _,by rw[List.take_zero];exact wY.nil _,dO.refl _ _⟩
 case round =>
  obtain⟨k,vs,ua,uc,rfl,hk,I7,hip,hown,hrs,hc⟩:=hrel;obtain⟨wo,rfl⟩:∃wo:World,wo=wr:=⟨_,rfl⟩
  dsimp only at I7;have HX:=ak (show Ext w wo from hc.ext fQ.o (fun y hy=>by rw[aK.1 hy];have:=HS.o;have:=HL9.o;omega));have Yk:=ak (show wo.heap[b4]?=some (.cells #[.slice sa sn sc] 24 (0,0)) from hc.blk HB4.o (by have:=HS.o;have:=HL9.o;simp;omega));have HWB:=ak (show wo.heap[b4+1]?=some (.cells #[.string nm,.int .i64 x.op,.string x.name,.slice x.aw x.nw x.cw,.int .i64 x.lo,.int .i64 x.hi,.slice x.aa x.na x.ca,.slice au nu cu] 53 (0,0)) from hc.blk nM.o (by have:=HS.o;have:=HL9.o;simp;omega));have HW8:=ak (show wo.heap[b4+1+1]?=some (.cells #[.string ⟨#[]⟩,.bool false,.bool false,.int .i64 0,.slice none 0 0,.slice none 0 0] 69 (0,0)) from hc.blk Vd.o (by have:=HS.o;have:=HL9.o;simp;omega));have HW9:=ak I7;have HP:=ak hip;have aAu:=ak (bC Em.o hc.size);have HC:=ak hc;have HOW:=ak hown;have Si:=ak hrs;have HRW:=ak (show ∀y∈rowOf (.slice ua k uc),w1.heap.size<=y/\n0<=y/\y<wo.heap.size from fun y hy=>⟨(hown.lt y (dK.1 hy)).1,bC Em.o (hown.lt y (dK.1 hy)).1,(hown.lt y (dK.1 hy)).2⟩);clear I7 hip hown hrs hc;by_cases hkn:k<nu
  ·have hkl:k<u.length:=by have:=HLEN.o;omega
   have t1:=ah ((k:Int)<(nu:Int));obtain⟨b,off,rfl,v,hvn,hrow,Bz,hvu,-,-,hvd⟩:=jJ.at u _ (jJ.mono HX.o.sub u _ HD.o) k hkl;obtain⟨c0,c1,c2,c3,c4,c5,c6,c7⟩:=hrow.eight;have xJ:=ak (fun W (hW:Ext wo W)=>HRC.o k hkl v W (HX.o.trans hW) hvn (Bz.ext hW) hvu (jJ.mono hW.sub _ _ hvd));obtain⟨X,hX⟩:∃X,X=rO u[k].name (F u[k].cond) (uZ F u[k].jZ):=⟨_,rfl⟩
   rw[<-hX] at xJ;have Iq:=ak (show (uZ F u).take (k+1)=(uZ F u).take k++[X]/\(uZ F u)[k]?=some X by
    have h1:=aeE F u k hkl;rw[<-hX] at h1;obtain⟨h2,h3⟩:=List.getElem?_eq_some_iff.1 h1;exact⟨by rw[aU h2,h3],h1⟩)
   clear hvn hrow Bz hvu hvd hX;obtain⟨x0,xf⟩:=gQ Yk.o;obtain⟨y0,y1,y2,y3,y4,y5,y6,y7,yf⟩:=vN HWB.o;have X0:=dI x0;have Y7:=dI y7;have D0:=dI c0;have D1:=dI c1;have D2:=dI c2;have D3:=dI c3;have D4:=dI c4;have D5:=dI c5;have D6:=dI c6;have D7:=dI c7;have b0:(0:Int)<=(k:Int):=by omega
   have b1:(k:Int)<(nu:Int):=by omega
   obtain⟨K0,hK0⟩:∃K0,K0=b9::rowOf (.slice ua k uc)++List.range n0:=⟨_,rfl⟩
   have HK0:=ak (show ∀y∈K0,y<wo.heap.size from fun y hy=>by
    have h1:=HS.o;have h2:=aAu.o;rw[hK0] at hy;simp only[List.cons_append,bK,aT,List.mem_range] at hy;rcases hy with rfl|hy|hy
    ·exact dH HW9.o
    ·first|(exact(HOW.o.lt y (dK.1 hy)).2)|(simp[rowOf,Value.ownBlock] at hy)
    omega)
   have HKE:=ak hK0;clear hK0;go_upto_region 7 with fail
   refine rZ (m:=11) (Er:=Ut wo.heap.size) (C:=Ext wo) (Φ:=fun _=>True) (Ut.refl _) (fun _ _ h=>Ut.of h) (fun _ _ h q=>Ut.ext h q) (Ext.refl wo).drew trivial (fun _ _ _ h=>h) ?_
   repeat (refine dQ ?_;intro K hK;go_big_quiet_op;go_big_quiet_on)
   refine Gg (γ:=pO×Nat×Nat) (fun x=>.agg #[.string x.1.name,.bool x.1.applies,.bool x.1.p.value,.int .i64 x.1.p.pick,.slice x.1.p.a x.1.p.n x.1.p.c,.slice x.1.a x.1.n x.1.c]) (fun x W=>∀g,(g<x.2.1\/x.2.2<=g)->yP (mask W (g::K0)) X x.1) (fun x g=>g<x.2.1\/x.2.2<=g) (fun W hW _ _=>?_) (fun x W W' hx h g hg=>(h g hg).mono (fA (hx.fH []) (by simp))) ?_ ⟨(⟨⟨#[]⟩,false,⟨false,0,none,0,0⟩,none,0,0⟩,0,0)⟩
   ·unfold dF;go_simp;refine(xJ.o W hW).mono ?_;rintro r wz ⟨v,rfl,h1,h2⟩;exact⟨_,rfl,Ut.of h2,(v,W.heap.size,wz.heap.size),rfl,fun g hg=>h1.mono (Vp (fun y hy=>List.mem_range.2 (bU (HK0.o y hy) hW.size)) (hg.imp (fun h=>by simpa using h) id)),fun g hg=>hg⟩
   rintro⟨⟨vn,Q,qv,va,vm,vc⟩,lo',hi'⟩ K hK;go_simp;go_big_quiet_on;refine Uj (fun g=>.pointer (some ⟨g,0,none⟩)) (fun g W=>wo.heap.size<=g/\∃c,W.heap[g]?=some (.cells c 69 (0,0))/\c.size=6) (fun W hW=>?_) (fun g W W' h ⟨k1,c,k2,k3⟩=>?_) (fun _ _ h=>h.size) ?_
   ·unfold dF;go_simp;exact⟨(Ext.refl W).alloc _,W.heap.size,rfl,bg _,by simp,hW.size,_,dG W _,rfl⟩
   ·obtain⟨c',e1,e2⟩:=h.shape k2 k3;exact⟨k1,c',e1,e2⟩
   intro b11 K hK;go_simp;go_big_quiet_on;refine lS undef (fun W=>W.heap[b11]?=some (.cells #[.string vn,.bool Q,.bool qv.value,.int .i64 qv.pick,.slice qv.a qv.n qv.c,.slice va vm vc] 69 (0,0))/\yP (mask W K0) X ⟨vn,Q,qv,va,vm,vc⟩) (fun W hW hq hF=>?_) (fun W W' h q=>⟨h.blk q.1,q.2.mono (fA (h.fH []) (by simp))⟩) ?_
   ·obtain⟨_,⟨hyl,cc,hyb,hcs⟩,_,hA⟩:=hF;obtain⟨v0,v1,v2,v3,v4,v5,rfl⟩:=ap1 hcs;obtain⟨z0,z1,z2,z3,z4,z5,zf⟩:=gJ hyb;have hlt:=dH hyb;have HP:=ak (jv hyb (v0:=.string vn) (v1:=.bool Q) (v2:=.bool qv.value) (v3:=.int .i64 qv.pick) (v4:=.slice qv.a qv.n qv.c) (v5:=.slice va vm vc));have HQ:=ak (iY W b11 (v0:=.string vn) (v1:=.bool Q) (v2:=.bool qv.value) (v3:=.int .i64 qv.pick) (v4:=.slice qv.a qv.n qv.c) (v5:=.slice va vm vc));have HY:=ak hyb;have HH:=ak (((hq b11 hA.2).mono (fA (iY W b11 (v0:=.string vn) (v1:=.bool Q) (v2:=.bool qv.value) (v3:=.int .i64 qv.pick) (v4:=.slice qv.a qv.n qv.c) (v5:=.slice va vm vc)) (fun y hy=>Or.inl (by simp at hy;simp[hy])))).mono (eG _ (fun y hy=>bH _ hy)));clear hyb hq hA hcs;unfold jE at HP HQ HH;unfold dF;go_simp;exact⟨⟨[b11],HQ.o,fun k hk=>by
     rw[aK.1 hk];exact⟨hyl,fun cs t hb _=>by
      rw[HY.o] at hb;simp only[Option.some.injEq,Obj.cells.injEq] at hb;obtain⟨_,rfl,_⟩:=hb;exact⟨_,HP.o,rfl⟩⟩⟩,rfl,HP.o,HH.o⟩
   intro K hK;go_simp;go_big_quiet_on;refine lH fun w7 hx hy _=>?_
   have kC:=ak hx;have uh:=ak hy.1;have HV:=ak (show yP (mask w7 (b9::rowOf (.slice ua k uc)++List.range n0)) X ⟨vn,Q,qv,va,vm,vc⟩ by rw[<-HKE.o];exact hy.2);have HQ:=ak (show Q=X.applies from hy.2.app);have axh:=ak (hx.blk HW9.o);clear hx hy x0 xf y0 y1 y2 y3 y4 y5 y6 y7 yf X0 Y7 D0 D1 D2 D3 D4 D5 D6 D7 c0 c1 c2 c3 c4 c5 c6 c7 xJ HKE HK0;obtain⟨r0,r1,r2,r3,r4,r5,rf⟩:=gJ axh.o;obtain⟨s0,s1,s2,s3,s4,s5,sf⟩:=gJ uh.o;have UQ:=dH uh.o;have a0b:=dH axh.o;have axr:=ak (eF HOW.o (kC.o.fH []) (by simp));have NT:=ak (show w1.heap.size<=wo.heap.size/\wo.heap.size<=w7.heap.size/\n0<=w1.heap.size/\b9<w1.heap.size from⟨HC.o.size,kC.o.size,Em.o,dH HB9.o⟩);have aUk:=kC.o.size;go_wp2_with (at_builtin;refine fK X3 rfl _ _ rfl w1.heap.size _ k _ rfl axr.o _ 1 1 rfl ?f0 rfl ?f1 ?f2 ?f3 ?f4 ?_)
   case f0=>simp
   case f1=>simp[Value.oneCell']
   case f2=>unfold maxLen;omega
   case f3=>omega
   case f4=>have:=NT.o;omega
   intro v8 w8 ig hc8 hw8;obtain⟨ua2,uc2,rfl⟩:=iG ig;have h9r:b9∉rowOf (.slice ua k uc):=fun hm=>by have:=HRW.o _ hm;have:=NT.o;omega
   have HKP:=ak (FP (bd:=b9) (M:=List.range n0) hc8 hw8);have aWG:=ak (hc8.blk axh.o h9r);have aJS:=ak (show w8.ownsRow w1.heap.size 69 6 (.slice ua2 (k+1) uc2) (k+1) ((vs++[(⟨vn,Q,qv,va,vm,vc⟩:pO)]).flatMap pO.cells) by simpa[pO.cells] using ig);have MR:=ak (show dO [b9] w1 w8 from((HC.o.then (kC.o.fH [b9])).trans hc8 (fun y hy=>Or.inr (by have:=HRW.o y hy;have:=NT.o;omega))));clear ig hc8 hw8 r0 r1 r2 r3 r4 r5 rf s0 s1 s2 s3 s4 s5 sf h9r;obtain⟨r0,r1,r2,r3,r4,r5,rf⟩:=gJ aWG.o;obtain⟨wy,hwy⟩:∃wy,wy=w8.setCell ⟨b9,5,none⟩ (.slice ua2 (k+1) uc2):=⟨_,rfl⟩
   have NI:=ak (show dO [b9] w8 wy by rw[hwy];exact(dO.refl _ _).setCell (Or.inl (by simp)) _);have a1O:=ak (show wy.heap[b9]?=some (.cells #[.string nm,.bool true,.bool true,.int .i64 pk,.slice pa pn pc,.slice ua2 (k+1) uc2] 69 (0,0)) by rw[hwy,aO _ _ _ _ _ _ aWG.o];simp);go_upto_region 6 with fail
   rw[<-hwy];clear hwy r0 r1 r2 r3 r4 r5 rf;go_wp2_with fail
   go_roundw
   case rel =>
    have hK:∀W,dO [b9] w8 W->Sub (mask w8 (b9::rowOf (.slice ua2 (k+1) uc2)++List.range n0)) (mask W (b9::rowOf (.slice ua2 (k+1) uc2)++List.range n0)):=fun W h=>fA h (fun y hy=>Or.inl (by rw[aK.1 hy];simp))
    have hX:Sub (mask wo (b9::rowOf (.slice ua k uc)++List.range n0)) (mask w7 (b9::rowOf (.slice ua k uc)++List.range n0)):=fA (kC.o.fH []) (by simp);refine⟨k+1,vs++[⟨vn,Q,qv,va,vm,vc⟩],ua2,uc2,by go_num,by omega,a1O.o,((HP.o.mono hX).mono HKP.o).mono (hK _ NI.o),eF aJS.o NI.o (fun q hq hm=>by rw[aK.1 hm] at hq;have:=(aJS.o.lt b9 hq).1;have:=NT.o;omega),?_,MR.o.then NI.o⟩;rw[Iq.o.1];exact(((Si.o.mono hX).mono HKP.o).mono (hK _ NI.o)).snoc ((HV.o.mono HKP.o).mono (hK _ NI.o))
   case measure=>simp[intOf];omega
  have t1:=aj ((k:Int)<(nu:Int));have HF:=ak (TF (v:=⟨nm,true,⟨true,pk,pa,pn,pc⟩,ua,k,uc⟩) (K:=List.range n0) (r:=rO nm P (uZ F u)) HW8.o HX.o (by have:=HS.o;omega) (by have:=HS.o;simp;omega) (by have:=HS.o;simp;omega) (by
   have e:rO nm P (uZ F u)=.mk nm true P (uZ F u):=by
    unfold rO;rw[dh (by rw[HPT.o];simp),List.find?_eq_none.2 (fun y hy=>by have h1:=HN.o;simp only[Bool.not_true,List.any_eq_false] at h1;exact h1 y hy)]
   rw[e];have hm:Sub (mask wo (b9::rowOf (.slice ua k uc)++List.range n0)) (mask wo (List.range n0)):=eG _ (fun y hy=>by simp only[List.cons_append,bK,aT];exact Or.inr (Or.inr hy));have hl2:(uZ F u).length=k:=by rw[QF];have:=HLEN.o;omega
   have hrs:=Si.o;rw[aY (by omega)] at hrs;exact abK (HP.o.mono hm) (ZW HOW.o hl2.symm (fun q hq hm=>by have:=(HRW.o q (dK.2 hq)).2.1;rw[List.mem_range] at hm;omega) (hrs.mono hm)) _ _))
  obtain⟨x0,xf⟩:=gQ Yk.o;obtain⟨y0,y1,y2,y3,y4,y5,y6,y7,yf⟩:=vN HWB.o;obtain⟨q0,q1,q2,q3,q4,q5,qf⟩:=gJ HW8.o;obtain⟨r0,r1,r2,r3,r4,r5,rf⟩:=gJ HW9.o;go_wp2_with fail
  obtain⟨wz,hwz⟩:∃wz,wz=jE wo (b4+1+1) (.string nm) (.bool true) (.bool true) (.int .i64 pk) (.slice pa pn pc) (.slice ua k uc):=⟨_,rfl⟩
  rw[<-hwz] at HF;unfold jE at hwz;rw[<-hwz];clear hwz q0 q1 q2 q3 q4 q5 qf;obtain⟨q0,q1,q2,q3,q4,q5,qf⟩:=gJ HF.o.1;refine bodyPost_ret (v:=pO.val ⟨nm,true,⟨true,pk,pa,pn,pc⟩,ua,k,uc⟩) (by simp[results,Tryz.results99,go_sem,pO.val,q0,q1,q2,q3,q4,q5]) rfl ?_;exact⟨_,rfl,HF.o.2.1,HF.o.2.2⟩
structure aRe (w0:World) (sa:OA) (sn sc:Nat) (l:List dY) (a:OA) (n c:Nat) (fa:OA) (fn fc:Nat) (V:Ex->Bool) (F:Ex->Pr) (P:Ex->Prop):Prop where
 rr:aRd w0 sa sn sc a n c fa fn fc V F P
 WT:eX w0 l a n c
 few:n<=1000000
 ok:∀x∈l,P x.cond/\nN P x.jZ/\qU x.jZ<=1000000
theorem acD {w0:World} {sa:OA} {sn sc:Nat} {a:OA} {n c:Nat} {fa:OA} {fn fc:Nat} {V:Ex->Bool} {F:Ex->Pr} {P:Ex->Prop} (hr:aRd w0 sa sn sc a n c fa fn fc V F P) (x:dY) (v:jm) (w:World) (hx0:Ext w0 w) (hp:P x.cond) (hok:nN P x.jZ) (hnu:qU x.jZ<=1000000) (hi:kR w x v) :
  Calls Tryz.prog 73 #[.agg #[.slice sa sn sc],.slice a n c,.agg #[.int .i64 v.kind,.string v.name,.int .i64 v.x.op,.string v.x.name,.slice v.x.aw v.x.nw v.x.cw,.int .i64 v.x.lo,.int .i64 v.x.hi,.slice v.x.aa v.x.na v.x.ca,.slice v.au v.nu v.cu,.int .i64 v.amount],.slice fa fn fc] w (asQ (qF F x) w):=by
 obtain⟨-,hnm,hex,hlen,-,-,hd,-⟩:=hi;unfold qF;rw[<-hnm];have HB:=ak (fun (W:World) (hW:Ext w W)=>am7 hr (qU x.jZ) x.cond x.jZ v.name v.x v.au v.nu v.cu W (bg _) (hx0.trans hW) hp hok hnu hlen (hex.ext hW) (jJ.mono hW.sub _ _ hd));obtain⟨R,hR⟩:∃R,R=rO v.name (F x.cond) (uZ F x.jZ):=⟨_,rfl⟩
 rw[<-hR] at HB ⊢;clear hR hex hlen hd hr hnm;obtain⟨b1,hb1⟩:∃b1,b1=w.heap.size:=⟨_,rfl⟩
 obtain⟨wa,dW⟩:∃wa,wa=((w.alloc (.cells #[.slice sa sn sc] 24)).alloc (.cells #[.int .i64 v.kind,.string v.name,.int .i64 v.x.op,.string v.x.name,.slice v.x.aw v.x.nw v.x.cw,.int .i64 v.x.lo,.int .i64 v.x.hi,.slice v.x.aa v.x.na v.x.ca,.slice v.au v.nu v.cu,.int .i64 v.amount] 48)).alloc (.cells #[.string ⟨#[]⟩,.bool false,.bool false,.int .i64 0,.slice none 0 0,.slice none 0 0] 69):=⟨_,rfl⟩
 have fE:=ak (show Ext w wa by rw[dW];exact(((Ext.refl _).alloc _).alloc _).alloc _);obtain⟨s0,sf⟩:=gQ (show wa.heap[b1]?=some (.cells #[.slice sa sn sc] 24 (0,0)) by rw[dW,hb1];exact dJ (dJ (dG w _)));obtain⟨y0,y1,y2,y3,y4,y5,y6,y7,y8,y9,yf⟩:=wu (show wa.heap[b1+1]?=some (.cells #[.int .i64 v.kind,.string v.name,.int .i64 v.x.op,.string v.x.name,.slice v.x.aw v.x.nw v.x.cw,.int .i64 v.x.lo,.int .i64 v.x.hi,.slice v.x.aa v.x.na v.x.ca,.slice v.au v.nu v.cu,.int .i64 v.amount] 48 (0,0)) by rw[dW,hb1];exact dJ (eH (by simp)));have HA:=ak (show wa.heap[b1+1+1]?=some (.cells #[.string ⟨#[]⟩,.bool false,.bool false,.int .i64 0,.slice none 0 0,.slice none 0 0] 69 (0,0)) by rw[dW,hb1];exact eH (by simp));have HS:=ak hb1;go_enter Tryz.func73,Tryz.ntmps73
 go_upto_region 1 with fail
 rw[<-dW,<-hb1];clear dW hb1;go_wp2_with fail
 refine(HB.o wa fE.o).mono ?_;rintro r w1 ⟨⟨vn,Q,qv,va,vm,vc⟩,rfl,hrv,hx1⟩;unfold pO.val;have fQ:=ak (fE.o.trans hx1);have HF:=ak (TF (v:=⟨vn,Q,qv,va,vm,vc⟩) (K:=List.range wa.heap.size) (hx1.blk HA.o) fQ.o (by have:=HS.o;omega) (by have:=dH HA.o;simp;omega) (by have:=fE.o.size;simp;omega) hrv);obtain⟨q0,q1,q2,q3,q4,q5,qf⟩:=gJ (hx1.blk HA.o);clear hx1 hrv s0 sf y0 y1 y2 y3 y4 y5 y6 y7 y8 y9 yf;go_wp2_with fail
 obtain⟨wz,hwz⟩:∃wz,wz=jE w1 (b1+1+1) (.string vn) (.bool Q) (.bool qv.value) (.int .i64 qv.pick) (.slice qv.a qv.n qv.c) (.slice va vm vc):=⟨_,rfl⟩
 rw[<-hwz] at HF;unfold jE at hwz;rw[<-hwz];clear hwz q0 q1 q2 q3 q4 q5 qf;obtain⟨q0,q1,q2,q3,q4,q5,qf⟩:=gJ HF.o.1;refine bodyPost_ret (v:=pO.val ⟨vn,Q,qv,va,vm,vc⟩) (by simp[results,Tryz.results73,go_sem,pO.val,q0,q1,q2,q3,q4,q5]) rfl ?_;exact⟨_,rfl,HF.o.2.1,HF.o.2.2⟩
def aAm (L:List Rs) (k:Nat) (w:World) (e:Ending) (w':World):Prop:=k=L.length/\∃a c vs,e=.returned (.slice a k c)/\w'.ownsRow w.heap.size 69 6 (.slice a k c) k (vs.flatMap pO.cells)/\wY (mask w' (rowOf (.slice a k c)++List.range w.heap.size)) L vs/\Ext w w'
theorem ayY {w:World} {b b':Nat} {T:TypeId} {s:Nat} {v:Value} {n:Nat} {cs:List Value} (h:w.ownsRow b T s v n cs) (hb:b'<=b):w.ownsRow b' T s v n cs:=by
 refine⟨h.1,h.2.imp id ?_⟩;rintro⟨g,cap,cur,e,h1,h2⟩;exact⟨g,cap,cur,e,bC hb h1,h2⟩
theorem aAm.rss {L:List Rs} {k:Nat} {w:World} {e:Ending} {w':World} (h:aAm L k w e w'):∃a c,e=.returned (.slice a k c)/\nG (mask w' (List.range w.heap.size)) L a k c/\Ext w w':=by
 obtain⟨hk,a,c,vs,h1,h2,h3,h4⟩:=h;exact⟨a,c,h1,ZW h2 hk (fun q hq hm=>by have:=(h2.lt q hq).1;rw[List.mem_range] at hm;omega) (h3.mono (eG _ (fun y hy=>aT.2 (Or.inr hy)))),h4⟩
def VF (F:Ex->Pr) (V:Ex->Bool) (l:List dY) (kind:Int) (b:Bool):List Rs:=((l.find? fun x=>x.kind==kind&&oK V x==b).map (qF F)).toList
theorem aGG {F:Ex->Pr} {V:Ex->Bool} (h:∀e,(F e).value=V e) (l:List dY) (kind:Int) (b:Bool):VF F V l kind b=(((wJ [kind] l).map (qF F)).find? fun r=>r.applies==b).toList:=by
 unfold VF wJ;rw[List.find?_map,List.find?_filter];have e:(fun x:dY=>x.kind==kind&&oK V x==b)=fun x=>decide (([kind].any fun y=>y==x.kind)=true/\((fun r:Rs=>r.applies==b)∘qF F) x=true):=by
  funext x
  simp only[Function.comp,Xl h,List.any_cons,List.any_nil,Bool.or_false];rw[show (x.kind==kind)=(kind==x.kind) from by rw[bW,beq_iff_eq,beq_iff_eq];exact eq_comm];cases kind==x.kind<;>cases oK V x==b<;>rfl
 rw[e]
def ad3 (F:Ex->Pr) (l:List dY) (lo hi:Int):List Rs:=(l.filter fun x=>decide (lo<=x.kind)&&decide (x.kind<=hi)).map (qF F)
theorem am8 {w0:World} {sa:OA} {sn sc:Nat} {l:List dY} {a:OA} {n c:Nat} {fa:OA} {fn fc:Nat} {V:Ex->Bool} {F:Ex->Pr} {P:Ex->Prop} (hv:aRe w0 sa sn sc l a n c fa fn fc V F P) (kind:Int) (ap:Bool) (w:World) (hx0:Ext w0 w) :
  Calls Tryz.prog 46 #[.agg #[.slice sa sn sc],.slice a n c,.int .i64 kind,.slice fa fn fc,.bool ap] w (aAm (VF F V l kind ap) (VF F V l kind ap).length w):=by
 have HN:=ak hv.WT.len;have HC:=ak hv.WT;have hn:=hv.few;have aJv:=ak (fun (k:Nat) (hk:k<l.length) (v:jm) W (hW:Ext w W) (hcl:kR W l[k] v)=>acD hv.rr l[k] v W (hx0.trans hW) (hv.ok _ (aI hk)).1 (hv.ok _ (aI hk)).2.1 (hv.ok _ (aI hk)).2.2 hcl);have Zp:=ak (fun (k:Nat) (hk:k<l.length) (v:jm) W (hW:Ext w W) (hcl:kR W l[k] v)=>EG hv.rr.truth l[k] v W (hx0.trans hW) (hv.ok _ (aI hk)).1 (hv.ok _ (aI hk)).2.1 (by have:=(hv.ok _ (aI hk)).2.2;have:=wI l[k].jZ;omega) hcl);have HX0:=ak hx0;clear hv hx0;obtain⟨b0,hb0⟩:∃b0,b0=w.heap.size:=⟨_,rfl⟩
 obtain⟨wa,dW⟩:∃wa,wa=w.alloc (.cells #[.slice sa sn sc] 24):=⟨_,rfl⟩
 have fE:=ak (show Ext w wa by rw[dW];exact(Ext.refl _).alloc _);have Yt:=ak (show wa.heap[b0]?=some (.cells #[.slice sa sn sc] 24 (0,0)) by rw[dW,hb0];exact dG w _);have HS:=ak (show b0=w.heap.size/\b0<wa.heap.size from⟨hb0,by rw[dW,hb0];simp⟩);go_enter Tryz.func46,Tryz.ntmps46
 go_upto_region 1 with fail
 rw[<-dW,<-hb0];clear dW hb0;go_wp2_with fail
 go_loopw [11] (fun i wr=>∃k:Nat,i=.int .i64 k/\k<=n/\(∀x∈l.take k,(x.kind==kind&&oK V x==ap)=false)/\Ext wa wr) (fun i _=>n - (intOf i).toNat)
 case atStart=>exact⟨0,rfl,Nat.zero_le _,by simp,Ext.refl _⟩
 case round =>
  obtain⟨k,rfl,hk,hno,hx⟩:=hrel;obtain⟨wo,rfl⟩:∃wo:World,wo=wr:=⟨_,rfl⟩
  have lZ:=ak hno;have HX:=ak hx;obtain⟨s0,sf⟩:=gQ (hx.blk Yt.o);clear hno hx;by_cases hkn:k<n
  ·have hkl:k<l.length:=by have:=HN.o;omega
   have t1:=ah ((k:Int)<(n:Int));have tk0:(0:Int)<=(k:Int):=by omega
   have tk1:(k:Int)<(n:Int):=by omega
   obtain⟨b,off,v,rfl,hcl,hrow⟩:=(HC.o.ext (HX0.o.trans (fE.o.trans HX.o))).at hkl;obtain⟨c0,c1,c2,c3,c4,c5,c6,c7,c8,c9⟩:=hrow.ten;have hvk:v.kind=l[k].kind:=hcl.1;have xJ:=ak (fun W (hW:Ext wo W)=>Zp.o k hkl v W ((fE.o.trans HX.o).trans hW) (hcl.mono hW.sub));have HRK:=ak (fun W (hW:Ext wo W)=>aJv.o k hkl v W ((fE.o.trans HX.o).trans hW) (hcl.mono hW.sub));obtain⟨X,hX⟩:∃X,X=qF F l[k]:=⟨_,rfl⟩
   rw[<-hX] at HRK;have SK:=ak (show (v.kind==kind&&oK V l[k]==ap)=false->∀x∈l.take (k+1),(x.kind==kind&&oK V x==ap)=false from fun h x hx=>by
    rw[aU hkl] at hx;rcases aT.1 hx with hx|hx
    ·exact lZ.o x hx
    rw[aK.1 hx,<-hvk];exact h)
   have HYX:=ak (show (v.kind==kind&&oK V l[k]==ap)=true->VF F V l kind ap=[X] from fun h=>by
    unfold VF;have e:l=l.take k++l[k]::l.drop (k+1):=by rw[<-List.drop_eq_getElem_cons hkl,List.take_append_drop]
    have e2:l.find? (fun x=>x.kind==kind&&oK V x==ap)=some l[k]:=by
     rw[hvk] at h;rw[congrArg (List.find? (fun x=>x.kind==kind&&oK V x==ap)) e,List.find?_append,List.find?_eq_none.2 (fun y hy=>by rw[lZ.o y hy];simp),List.find?_cons,h]
     rfl
    rw[e2,hX];rfl)
   obtain⟨Q,hQ⟩:∃Q,Q=oK V l[k]:=⟨_,rfl⟩
   rw[<-hQ] at xJ SK HYX;have HKK:=ak (show ∀(W:World),Ext wo W->∀y∈List.range w.heap.size,y∈List.range W.heap.size from fun W hW y hy=>by
    have h1:=hW.size;have h2:=(fE.o.trans HX.o).size;rw[List.mem_range] at hy ⊢;omega)
   have Ei:=ak hrow;clear hrow hcl hvk hQ hX Zp aJv;cases hq:(v.kind==kind)
   ·have HQ:=ak hq;go_wp2_with fail
    go_quiet (fail)
    go_wp2_with fail
    go_roundw
    case rel=>exact⟨k+1,by go_num,by omega,SK.o (by rw[HQ.o];rfl),HX.o.drewN _⟩
    case measure=>simp[intOf];omega
   rcases hqa:(Q==ap) with _|_
   ·have HQ:=ak hqa;go_upto_region 4 with fail
    have C0:=dI c0;have C1:=dI c1;have C2:=dI c2;have C3:=dI c3;have C4:=dI c4;have C5:=dI c5;have C6:=dI c6;have C7:=dI c7;have C8:=dI c8;have C9:=dI c9;have S0:=dI s0;refine rC 19 ?_
    repeat (refine dQ ?_;intro K hK;go_big_quiet_op;go_big_quiet_on)
    refine tu (fun W hW=>xJ.o W hW) ?_;intro K hK;go_simp;go_big_quiet_on
    repeat (refine dQ ?_;intro K hK;go_big_quiet_op;go_big_quiet_on)
    refine lH fun W hW2 _ _=>?_
    clear C0 C1 C2 C3 C4 C5 C6 C7 C8 C9 S0;go_wp2_with fail
    go_roundw
    case rel=>exact⟨k+1,by go_num,by omega,SK.o (by rw[HQ.o,Bool.and_false]),HX.o.trans hW2⟩
    case measure=>simp[intOf];omega
   have HQ:=ak (show VF F V l kind ap=[X] from HYX.o (by rw[hq,hqa];rfl));go_upto_region 4 with fail
   have C0:=dI c0;have C1:=dI c1;have C2:=dI c2;have C3:=dI c3;have C4:=dI c4;have C5:=dI c5;have C6:=dI c6;have C7:=dI c7;have C8:=dI c8;have C9:=dI c9;have S0:=dI s0;refine rC 19 ?_
   repeat (refine dQ ?_;intro K hK;go_big_quiet_op;go_big_quiet_on)
   refine tu (fun W hW=>xJ.o W hW) ?_;intro K hK;go_simp;go_big_quiet_on
   repeat (refine dQ ?_;intro K hK;go_big_quiet_op;go_big_quiet_on)
   refine lH fun w5 hW2 _ _=>?_
   have HW2:=ak hW2;have e0:=hW2.cell s0;obtain⟨d0,d1,d2,d3,d4,d5,d6,d7,d8,d9⟩:=(Ei.o.mono hW2.sub).ten;have a2m:=ak (fun W' (hW:Ext w5 W')=>HRK.o W' (HW2.o.trans hW));have a2U:=ak (fun W' (hW:Ext w5 W')=>HKK.o W' (HW2.o.trans hW));clear C0 C1 C2 C3 C4 C5 C6 C7 C8 C9 S0 hW2 c0 c1 c2 c3 c4 c5 c6 c7 c8 c9 s0 sf HRK HKK xJ SK HYX;go_upto_region 5 with fail
   have C0:=dI d0;have C1:=dI d1;have C2:=dI d2;have C3:=dI d3;have C4:=dI d4;have C5:=dI d5;have C6:=dI d6;have C7:=dI d7;have C8:=dI d8;have C9:=dI d9;have S0:=dI e0;refine rZ (m:=9) (Er:=Ext) (C:=Ext w5) (Φ:=Ext w5) Ext.refl (fun _ _ h=>h) (fun _ _ h k=>h.trans k) (Ext.refl w5).drew (Ext.refl w5).drew (fun _ _ h k=>k.trans h) ?_
   repeat (refine dQ ?_;intro K hK;go_big_quiet_op;go_big_quiet_on)
   refine je (γ:=pO) (fun x=>.agg #[.string x.name,.bool x.applies,.bool x.p.value,.int .i64 x.p.pick,.slice x.p.a x.p.n x.p.c,.slice x.a x.n x.c]) (fun x W=>Ext w5 W/\yP (mask W (List.range w.heap.size)) X x) (fun W hW h _=>?_) (fun x W W' hx h=>⟨h.1.trans hx,h.2.mono (fA (hx.fH []) (by simp))⟩) ?_ ⟨⟨⟨#[]⟩,false,⟨false,0,none,0,0⟩,none,0,0⟩⟩
   ·unfold dF;go_simp;refine(a2m.o W h).mono ?_;rintro r wz ⟨v,rfl,h1,h2⟩;exact⟨_,rfl,h2,v,rfl,h.trans h2,h1.mono (eG _ (a2U.o W h))⟩
   rintro⟨vn,Q',qv,va,vm,vc⟩ K hK;go_simp;go_big_quiet_on
   repeat (refine dQ ?_;intro K hK;go_big_quiet_op;go_big_quiet_on)
   refine je (γ:=Nat) (fun g=>.slice (some ⟨g,0,none⟩) 1 1) (fun g W=>w.heap.size<=g/\W.heap[g]?=some (.cells (pO.cells ⟨vn,Q',qv,va,vm,vc⟩).toArray 69 (0,0))/\yP (mask W (rowOf (.slice (some ⟨g,0,none⟩) 1 1)++List.range w.heap.size)) X ⟨vn,Q',qv,va,vm,vc⟩) (fun W hW h _=>?_) (fun x W W' hx h=>⟨h.1,hx.blk h.2.1,h.2.2.mono (fA (hx.fH []) (by simp))⟩) ?_ ⟨0⟩
   ·have Si:=ak h.2;have HWX:=ak h.1;have HYY:=ak (show w.heap.size<=W.heap.size from by have h1:=h.1.size;have h2:=(fE.o.trans (HX.o.trans HW2.o)).size;omega);clear h;unfold dF;go_simp;exact⟨(Ext.refl W).alloc _,W.heap.size,rfl,HYY.o,dG W _,(Si.o.mono (Vp (fun y hy=>hy) (Or.inr (bg _)))).mono (fA (((Ext.refl W).alloc _).fH []) (by simp))⟩
   rintro g K hK;go_simp;go_big_quiet_on
   repeat (refine dQ ?_;intro K hK;go_big_quiet_op;go_big_quiet_on)
   refine zL fun W6 hx hy _=>?_
   have yC:=ak ((fE.o.trans (HX.o.trans HW2.o)).trans hx);have HY:=ak hy;clear hx hy;clear d0 d1 d2 d3 d4 d5 d6 d7 d8 d9 C0 C1 C2 C3 C4 C5 C6 C7 C8 C9 S0 e0;go_wp2_with fail
   go_ret;rw[HQ.o];exact⟨rfl,some ⟨g,0,none⟩,1,[⟨vn,Q',qv,va,vm,vc⟩],rfl,aaq HY.o.2.1 HY.o.1,wY.snoc (wY.nil _) HY.o.2.2,yC.o⟩
  have t1:=aj ((k:Int)<(n:Int));go_wp2_with fail
  go_ret;have hnil:VF F V l kind ap=[]:=by
   unfold VF;have hno:=lZ.o;rw[aY (by have:=HN.o;omega)] at hno;rw[List.find?_eq_none.2 (fun y hy=>by rw[hno y hy];simp)]
   rfl
  rw[hnil];exact⟨rfl,none,0,[],rfl,World.ownsRow_nil _ _ _ _,wY.nil _,fE.o.trans HX.o⟩
theorem aER (F:Ex->Pr) (lo hi:Int) {l:List dY} {k:Nat} (hk:k<l.length):ad3 F (l.take (k+1)) lo hi=ad3 F (l.take k) lo hi++(if (decide (lo<=l[k].kind)&&decide (l[k].kind<=hi))=true then [qF F l[k]] else []):=by
 unfold ad3;rw[aU hk,List.filter_append,List.map_append,List.filter_cons,List.filter_nil]
 congr 1
 cases decide (lo<=l[k].kind)&&decide (l[k].kind<=hi)<;>rfl
def AlI (F:Ex->Pr) (l:List dY) (lo hi:Int) (n0 nl:Nat) (wl:World) (u i:Value) (wr:World):Prop:=∃(k un:Nat) (vs:List pO) (ua:OA) (uc:Nat),i=.int .i64 k/\u=.slice ua un uc/\k<=nl/\un<=k/\un=(ad3 F (l.take k) lo hi).length/\wr.ownsRow wl.heap.size 69 6 (.slice ua un uc) un (vs.flatMap pO.cells)/\wY (mask wr (rowOf (.slice ua un uc)++List.range n0)) (ad3 F (l.take k) lo hi) vs/\Ext wl wr
theorem Xm {w0:World} {sa:OA} {sn sc:Nat} {l:List dY} {a:OA} {n c:Nat} {fa:OA} {fn fc:Nat} {V:Ex->Bool} {F:Ex->Pr} {P:Ex->Prop} (hv:aRe w0 sa sn sc l a n c fa fn fc V F P) (lo hi:Int) (w:World) (hx0:Ext w0 w) :
  Calls Tryz.prog 45 #[.agg #[.slice sa sn sc],.slice a n c,.int .i64 lo,.int .i64 hi,.slice fa fn fc] w (aAm (ad3 F l lo hi) (ad3 F l lo hi).length w):=by
 have HN:=ak hv.WT.len;have HC:=ak hv.WT;have hn:=hv.few;have aJv:=ak (fun (k:Nat) (hk:k<l.length) (v:jm) W (hW:Ext w W) (hcl:kR W l[k] v)=>acD hv.rr l[k] v W (hx0.trans hW) (hv.ok _ (aI hk)).1 (hv.ok _ (aI hk)).2.1 (hv.ok _ (aI hk)).2.2 hcl);have HX0:=ak hx0;clear hv hx0;obtain⟨b0,hb0⟩:∃b0,b0=w.heap.size:=⟨_,rfl⟩
 obtain⟨wa,dW⟩:∃wa,wa=w.alloc (.cells #[.slice sa sn sc] 24):=⟨_,rfl⟩
 have fE:=ak (show Ext w wa by rw[dW];exact(Ext.refl _).alloc _);have Yt:=ak (show wa.heap[b0]?=some (.cells #[.slice sa sn sc] 24 (0,0)) by rw[dW,hb0];exact dG w _);have HS:=ak (show b0=w.heap.size/\b0<wa.heap.size from⟨hb0,by rw[dW,hb0];simp⟩);go_enter Tryz.func45,Tryz.ntmps45
 go_upto_region 1 with fail
 rw[<-dW,<-hb0];clear dW hb0;go_wp2_with fail
 go_loopw [11,12] (AlI F l lo hi w.heap.size n wa) (fun _ i _=>n - (intOf i).toNat)
 case atStart=>exact⟨0,0,[],none,0,rfl,rfl,Nat.zero_le _,bg _,rfl,World.ownsRow_nil _ _ _ _,wY.nil _,Ext.refl _⟩
 case round =>
  obtain⟨k,un,vs,ua,uc,rfl,rfl,hk,hle,hun,hown,hrs,hx⟩:=hrel;obtain⟨wo,rfl⟩:∃wo:World,wo=wr:=⟨_,rfl⟩
  have HOW:=ak hown;have Si:=ak hrs;have HX:=ak hx;have HUN:=ak hun;obtain⟨s0,sf⟩:=gQ (hx.blk Yt.o);clear hown hrs hx hun;by_cases hkn:k<n
  ·have hkl:k<l.length:=by have:=HN.o;omega
   have t1:=ah ((k:Int)<(n:Int));have tk0:(0:Int)<=(k:Int):=by omega
   have tk1:(k:Int)<(n:Int):=by omega
   obtain⟨b,off,v,rfl,hcl0,hrow0⟩:=HC.o.at hkl;have hbl:=block_lt hrow0.ten.1;have hxo:=HX0.o.trans (fE.o.trans HX.o);have hcl:=hcl0.mono hxo.sub;have hrow:=hrow0.mono hxo.sub;obtain⟨c0,c1,c2,c3,c4,c5,c6,c7,c8,c9⟩:=hrow.ten;have hvk:v.kind=l[k].kind:=hcl.1;have HRK:=ak (fun W (hW:Ext wo W)=>aJv.o k hkl v W ((fE.o.trans HX.o).trans hW) (hcl.mono hW.sub));have HBL:=ak (show b<wa.heap.size by have:=(HX0.o.trans fE.o).size;dsimp only at hbl;omega);obtain⟨X,hX⟩:∃X,X=qF F l[k]:=⟨_,rfl⟩
   have Iq:=ak (aER F lo hi hkl);rw[<-hX] at HRK Iq;rw[<-hvk] at Iq;clear hcl0 hrow0 hbl hxo hcl hrow hvk hX aJv;rcases ha:decide (lo<=v.kind) with _|_
   ·have HQ:=ak ha;go_wp2_with fail
    go_roundw
    case rel=>exact⟨k+1,un,vs,ua,uc,by go_num,rfl,by omega,by omega,by rw[Iq.o,HQ.o];simpa using HUN.o,HOW.o,by rw[Iq.o,HQ.o];simpa using Si.o,HX.o⟩
    case measure=>simp[intOf];omega
   rcases hb:decide (v.kind<=hi) with _|_
   ·have HQ:=ak hb;go_wp2_with fail
    go_roundw
    case rel=>exact⟨k+1,un,vs,ua,uc,by go_num,rfl,by omega,by omega,by rw[Iq.o,HQ.o];simpa using HUN.o,HOW.o,by rw[Iq.o,HQ.o];simpa using Si.o,HX.o⟩
    case measure=>simp[intOf];omega
   have HTT:=ak (show ad3 F (l.take (k+1)) lo hi=ad3 F (l.take k) lo hi++[X] by rw[Iq.o,ha,hb];rfl);go_upto_region 6 with fail
   clear ha hb Iq;obtain⟨N,hN⟩:∃N,N=rowOf (.slice ua un uc):=⟨_,rfl⟩
   have Aj:=ak (show ∀y∈N,wa.heap.size<=y/\y<wo.heap.size from fun y hy=>by rw[hN] at hy;exact HOW.o.lt y (dK.1 hy));have hn0:b0∉N:=fun hm=>by have:=(Aj.o _ hm).1;have:=HS.o;omega
   have hnb:b∉N:=fun hm=>by have:=(Aj.o _ hm).1;have:=HBL.o;omega
   have wZ:=ak hN;have HKK:=ak (show ∀(W:World),Ext wo W->∀y∈N++List.range w.heap.size,y∈List.range W.heap.size from fun W hW y hy=>by
    have h1:=hW.size;have h2:=(fE.o.trans HX.o).size;rw[aT,List.mem_range] at hy;rw[List.mem_range];rcases hy with hy|hy
    ·have:=(Aj.o y hy).2;omega
    omega)
   clear hN;have C0:=kG c0 hnb;have C1:=kG c1 hnb;have C2:=kG c2 hnb;have C3:=kG c3 hnb;have C4:=kG c4 hnb;have C5:=kG c5 hnb;have C6:=kG c6 hnb;have C7:=kG c7 hnb;have C8:=kG c8 hnb;have C9:=kG c9 hnb;have S0:=kG s0 hn0;clear hn0 hnb;refine JR 11 N (fun W=>Ext wo W) (Ext.refl wo).drew (fun _ _ hx h=>h.trans hx) ?_
   repeat (refine dQ ?_;intro K hK;go_big_quiet_op;go_big_quiet_on)
   refine je (γ:=pO) (fun x=>.agg #[.string x.name,.bool x.applies,.bool x.p.value,.int .i64 x.p.pick,.slice x.p.a x.p.n x.p.c,.slice x.a x.n x.c]) (fun x W=>Ext wo W/\yP (mask W (N++List.range w.heap.size)) X x) (fun W hW h _=>?_) (fun x W W' hx h=>⟨h.1.trans hx,h.2.mono (fA (hx.fH []) (by simp))⟩) ?_ ⟨⟨⟨#[]⟩,false,⟨false,0,none,0,0⟩,none,0,0⟩⟩
   ·unfold dF;go_simp;refine(HRK.o W h).mono ?_;rintro r wz ⟨v,rfl,h1,h2⟩;exact⟨_,rfl,(fun (h:Ext _ _)=>h.fH N) h2,v,rfl,h.trans h2,h1.mono (eG _ (HKK.o W h))⟩
   rintro⟨vn,Q',qv,va,vm,vc⟩ K hK;go_simp;go_big_quiet_on
   repeat (refine dQ ?_;intro K hK;go_big_quiet_op;go_big_quiet_on)
   refine je (γ:=Nat) (fun g=>.slice (some ⟨g,0,none⟩) 1 1) (fun g W=>Ext wo W/\nG (mask W (N++List.range w.heap.size)) [X] (some ⟨g,0,none⟩) 1 1) (fun W hW h _=>?_) (fun x W W' hx h=>⟨h.1.trans hx,h.2.mono (fA (hx.fH []) (by simp))⟩) ?_ ⟨0⟩
   ·have Si:=ak h.2;have HWX:=ak h.1;have HYY:=ak (show ∀y∈N++List.range w.heap.size,y<W.heap.size from fun y hy=>List.mem_range.1 (HKK.o W h.1 y hy));clear h;unfold dF;go_simp;exact⟨(fun (h:Ext _ _)=>h.fH N) ((Ext.refl W).alloc _),W.heap.size,rfl,HWX.o.alloc _,agF (v:=⟨vn,Q',qv,va,vm,vc⟩) (dG W _) (fun hm=>absurd (HYY.o _ hm) (by omega)) (Si.o.mono (fA (((Ext.refl W).alloc _).fH []) (by simp)))⟩
   rintro g K hK;go_simp;go_big_quiet_on
   repeat (refine dQ ?_;intro K hK;go_big_quiet_op;go_big_quiet_on)
   refine je (γ:=OA×Nat×List pO) (fun x=>.slice x.1 (un+1) x.2.1) (fun x W=>W.ownsRow wa.heap.size 69 6 (.slice x.1 (un+1) x.2.1) (un+1) ((vs++x.2.2).flatMap pO.cells)/\wY (mask W (rowOf (.slice x.1 (un+1) x.2.1)++List.range w.heap.size)) (ad3 F (l.take k) lo hi++[X]) (vs++x.2.2)) (fun W hW h _=>?_) (fun x W W' hx h=>⟨eF h.1 (hx.fH []) (by simp),h.2.mono (fA (hx.fH []) (by simp))⟩) ?_ ⟨(none,0,[])⟩
   ·obtain⟨us,hu1,hu2⟩:=h.2;refine V6 _ _ wa.heap.size un ua uc vs us rfl (some ⟨g,0,none⟩) 1 1 rfl (by omega) (eF HOW.o (h.1.fH []) (by simp)) (hu2.mono (dU _ _)) (by have:=h.1.size;have:=HX.o.size;omega) ?_;intro a' c' w' ho hc hg;have hkp:Sub (mask W (N++List.range w.heap.size)) (mask w' (rowOf (.slice a' (un+1) c')++List.range w.heap.size)):=by
     rw[wZ.o];exact ak1 hc hg (fun y hy=>aT.2 (Or.inl hy)) (fun y hy=>by
      rcases aT.1 hy with h|h
      ·exact Or.inr h
      exact Or.inl (aT.2 (Or.inr h)))
    refine⟨by rw[wZ.o];exact hc,(a',c',us),rfl,ho,wY.append ((show wY (mask W (N++List.range w.heap.size)) (ad3 F (l.take k) lo hi) vs from by
     have:=Si.o;rw[<-wZ.o] at this;exact this.mono (fA (h.1.fH []) (by simp))).mono hkp) (hu1.mono hkp)⟩
   rintro⟨ga,gc,us⟩ K hK;go_simp;go_big_quiet_on;refine zL fun w5 hx hy _=>?_
   dsimp only at hy;have jY:=ak (hx.ext HX.o (fun y hy=>(Aj.o y hy).1));have Qk:=ak hy.1;have HL5:=ak hy.2;clear hx hy C0 C1 C2 C3 C4 C5 C6 C7 C8 C9 S0 c0 c1 c2 c3 c4 c5 c6 c7 c8 c9 s0 sf HKK wZ Aj;go_wp2_with fail
   go_roundw
   case rel=>exact⟨k+1,un+1,vs++us,ga,gc,by go_num,rfl,by omega,by omega,by rw[HTT.o,bI,<-HUN.o];rfl,Qk.o,by rw[HTT.o];exact HL5.o,jY.o⟩
   case measure=>simp[intOf];omega
  have t1:=aj ((k:Int)<(n:Int));go_wp2_with fail
  go_ret;have hun:=HUN.o;have hrs:=Si.o;rw[aY (by have:=HN.o;omega)] at hun hrs;rw[<-hun];exact⟨hun,ua,uc,vs,rfl,ayY HOW.o (by have:=HS.o;omega),hrs,fE.o.trans HX.o⟩
def amK (n1 n0 b9 k:Nat) (L:List Rs) (VS:List pO) (x:OA×Nat×List pO) (W:World):Prop:=W.ownsRow n1 69 6 (.slice x.1 k x.2.1) k ((VS++x.2.2).flatMap pO.cells)/\wY (mask W (b9::rowOf (.slice x.1 k x.2.1)++List.range n0)) L (VS++x.2.2)
theorem amK.ext {n1 n0 b9 k:Nat} {L:List Rs} {VS:List pO} {x:OA×Nat×List pO} {W W':World} (h:amK n1 n0 b9 k L VS x W) (hx:Ext W W'):amK n1 n0 b9 k L VS x W':=⟨eF h.1 (hx.fH []) (by simp),h.2.mono (fA (hx.fH []) (by simp))⟩
theorem LY {ρ:Operand->Value} {W:World} {dst:Option Tmp} {ty:TypeId} {pos:String} {after:Array Edge} {guard:Option (Nat×Bool)} {s x:Operand} {N:ZN} {n1 n0 b9 k rn:Nat} {va:OA} {vc:Nat} {VS:List pO} {ra:OA} {rc:Nat} {L R:List Rs} {wi:World}
  (hN:N=rowOf (.slice va k vc)) (hO:wi.ownsRow n1 69 6 (.slice va k vc) k (VS.flatMap pO.cells)) (hL:wY (mask wi (b9::rowOf (.slice va k vc)++List.range n0)) L VS) (hb:n1<=wi.heap.size) (hk:k+rn<=100000000) (h:Ext wi W/\nG (mask W (b9::N++List.range n0)) R ra rn rc) (hs:ρ s=.slice va k vc) (hx:ρ x=.slice ra rn rc) :
  dF Tryz.prog { dst:=dst,op:=.call { callee:=.builtin .append,args:=#[s,x],argTypes:=#[55,55] },type:=ty,pos:=pos,after:=after,guard:=guard } ρ W (aOY (dO N) (fun x=>.slice x.1 (k+rn) x.2.1) (amK n1 n0 b9 (k+rn) (L++R) VS) W):=by
 obtain⟨us,hu1,hu2⟩:=h.2;refine V6 s x n1 k va vc VS us hs ra rn rc hx hk (eF hO (h.1.fH []) (by simp)) (hu2.mono (dU _ _)) (bC hb h.1.size) ?_;intro a' c' w' ho hc hg;have hkp:Sub (mask W (b9::N++List.range n0)) (mask w' (b9::rowOf (.slice a' (k+rn) c')++List.range n0)):=by
  rw[hN];exact FP hc hg
 refine⟨by rw[hN];exact hc,(a',c',us),rfl,ho,wY.append ((show wY (mask W (b9::N++List.range n0)) L VS from by
  rw[hN];exact hL.mono (fA (h.1.fH []) (by simp))).mono hkp) (hu1.mono hkp)⟩
theorem ad1 {wi:World} {b9 n0 n1:Nat} {N:ZN} (h9:b9<wi.heap.size) (hN:∀y∈N,n1<=y/\y<wi.heap.size) (h0:n0<=wi.heap.size):∀W:World,Ext wi W->∀y∈b9::N++List.range n0,y∈List.range W.heap.size:=fun W hW y hy=>by
 have h2:=hW.size;rw[List.mem_range];simp only[List.cons_append,bK,aT,List.mem_range] at hy;rcases hy with rfl|hy|hy
 ·omega
 ·have:=(hN y hy).2;omega
 omega
theorem afM {wa wi w5:World} {b9 n1 k:Nat} {N K:ZN} {c0 c1 c2 c3 c4 c5 x S:Value} {T:TypeId} {cs:List Value} {L:List Rs} {vs:List pO} (hx:dO N wi w5) (hi:Ext wa wi) (hN:∀y∈N,wa.heap.size<=y) (hn:b9∉N) (h9:wi.heap[b9]?=some (.cells #[c0,c1,c2,c3,c4,c5,x] T (0,0))) (hA:wa.heap.size<=b9) (hb:b9<n1) (ho:w5.ownsRow n1 69 6 S k cs) (hl:wY (mask w5 K) L vs) (hK:b9∈K) :
  w5.heap[b9]?=some (.cells #[c0,c1,c2,c3,c4,c5,x] T (0,0))/\Ext wa (w5.setCell ⟨b9,6,none⟩ S)/\(w5.setCell ⟨b9,6,none⟩ S).heap[b9]?=some (.cells #[c0,c1,c2,c3,c4,c5,S] T (0,0))/\wi.heap.size<=(w5.setCell ⟨b9,6,none⟩ S).heap.size/\(w5.setCell ⟨b9,6,none⟩ S).ownsRow n1 69 6 S k cs/\wY (mask (w5.setCell ⟨b9,6,none⟩ S) K) L vs:=by
 have h95:=hx.blk h9 hn;have hcf:dO [b9] w5 (w5.setCell ⟨b9,6,none⟩ S):=(dO.refl _ _).setCell (Or.inl (by simp)) _;exact⟨h95,hcf.ext (hx.ext hi hN) (fun y hy=>by rw[aK.1 hy];exact hA),by rw[aO _ _ _ _ _ _ h95];simp,bC hx.size hcf.size,eF ho hcf (fun q hq hm=>by rw[aK.1 hm] at hq;have:=(ho.lt b9 hq).1;omega),hl.mono (fA hcf (fun y hy=>Or.inl (by rw[aK.1 hy];exact hK)))⟩
end Go.Proofs.YtefjomofjejklaaGreatDoor
