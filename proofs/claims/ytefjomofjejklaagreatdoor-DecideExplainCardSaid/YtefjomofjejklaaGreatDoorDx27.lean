/-
  Texts of the claim, joined: DExp, DExl.
-/
import Derived.Test.YtefjomofjejklaaGreatDoorDx26
namespace Go.Proofs.YtefjomofjejklaaGreatDoor
set_option maxRecDepth 100000
set_option maxHeartbeats 32000000
open Go.RowKit Go.Maps
theorem alM {s:List Attr} {l:List dY} {f:ZI} {lo:jH} {n:Nat} (a:OA) (nl c:Nat) (w:World) (h:DIn w s l f lo n) (hl:eX w l a nl c) (hn:nl<=1000000) :
  Calls Tryz.prog 44 #[lo.val,.slice a nl c] w (aAJ (Y8 (val s l f) l) (aly (pf s l f) l) w):=by
 obtain⟨b2,hb2⟩:∃b2,b2=w.heap.size:=⟨_,rfl⟩
 obtain⟨w1,hw1⟩:∃w1,w1=(w.alloc (.cells #[.slice lo.sa lo.sn lo.sc,.map (some lo.bm),.slice lo.fa lo.fn lo.fc] 74)).alloc (.cells #[.int .i64 0,.int .i64 0,.int .i64 0,.int .i64 0,.int .i64 0,.bool false,.slice none 0 0] 57):=⟨_,rfl⟩
 have hxa:Ext w w1:=by rw[hw1];exact((Ext.refl _).alloc _).alloc _
 have fE:=ak hxa;have aKl:=ak (show w1.heap[b2]?=some (.cells #[.slice lo.sa lo.sn lo.sc,.map (some lo.bm),.slice lo.fa lo.fn lo.fc] 74 (0,0)) by rw[hw1,hb2];exact dJ (dG w _));have aE2:=ak (show w1.heap[b2+1]?=some (.cells #[.int .i64 0,.int .i64 0,.int .i64 0,.int .i64 0,.int .i64 0,.bool false,.slice none 0 0] 57 (0,0)) by rw[hw1,hb2];exact eH (by simp));obtain⟨n0,hn0⟩:∃n0,n0=w1.heap.size:=⟨_,rfl⟩
 have Dn:=ak (show b2=w.heap.size/\b2+2=n0/\n0=w1.heap.size from⟨hb2,by rw[hn0,hw1,hb2];simp,hn0⟩);have hln:=hl.len;have hll:l.length<=1000000:=by omega
 have h1:=h.ext hxa;have hl1:=hl.ext hxa;have HTM:=ak (fun W (hW:Ext w1 W)=>show Calls Tryz.prog 32 #[.slice a nl c] W (aEV vF l w1 W) from ac0 l a nl c W hl1 hW hn);have HRT:=ak (fun (k:Nat) (hk:k<(wJ vF l).length) (v:jm) W (hW:Ext w1 W) (hv:kR w1 (wJ vF l)[k] v)=>ar7 (h1.ext hW) (aGH h.ok h.Ja _ (List.mem_filter.1 (aI hk)).1) (hv.mono hW.sub));obtain⟨I1,p1⟩:=azO (fid:=29) (a:=a) (nl:=nl) (c:=c) h1 hll (fun W hW=>ac1 l a nl c W (hl1.ext hW) hn);obtain⟨I2,p2⟩:=azO (fid:=30) (a:=a) (nl:=nl) (c:=c) h1 hll (fun W hW=>Uh l a nl c W (hl1.ext hW) hn);obtain⟨I3,p3⟩:=azO (fid:=31) (a:=a) (nl:=nl) (c:=c) h1 hll (fun W hW=>Ug l a nl c W (hl1.ext hW) hn);have hle:∀ks,(wJ ks l).length<=1000000:=fun ks=>bC (List.length_filter_le _ _) hll
 have HV:=ak (akw s l f);obtain⟨F,hF⟩:∃F,F=pf s l f:=⟨_,rfl⟩
 obtain⟨V,hV⟩:∃V,V=val s l f:=⟨_,rfl⟩
 rw[<-hF] at HRT HV;rw[<-hV] at HV;rw[<-hF,<-hV];obtain⟨R1,r1⟩:∃R1,R1=(wJ [2] l).map (qF F):=⟨_,rfl⟩
 obtain⟨R2,r2⟩:∃R2,R2=(wJ [4] l).map (qF F):=⟨_,rfl⟩
 obtain⟨R3,r3⟩:∃R3,R3=(wJ [3] l).map (qF F):=⟨_,rfl⟩
 obtain⟨R4,r4⟩:∃R4,R4=(wJ vF l).map (qF F):=⟨_,rfl⟩
 obtain⟨F1,e1⟩:∃F1,F1=R1.find? (fun r=>r.applies==true):=⟨_,rfl⟩
 obtain⟨F2,e2⟩:∃F2,F2=R2.find? (fun r=>r.applies==false):=⟨_,rfl⟩
 obtain⟨F3,e3⟩:∃F3,F3=R3.find? (fun r=>r.applies==true):=⟨_,rfl⟩
 obtain⟨D,hD⟩:∃D,D=Y8 V l:=⟨_,rfl⟩
 obtain⟨R,hR⟩:∃R,R=aly F l:=⟨_,rfl⟩
 rw[<-hD,<-hR];have HCS:=ak (apu HV.o l hD hR r1 r2 r3 r4 e1 e2 e3);have HF1:=ak (fun W (hW:Ext w1 W) K (hK:∀y∈K,y<W.heap.size) ga gn gc (hc:I1 W ga gn gc)=>p1.fir W hW K hK ga gn gc true hc);have HF2:=ak (fun W (hW:Ext w1 W) K (hK:∀y∈K,y<W.heap.size) ga gn gc (hc:I2 W ga gn gc)=>p2.fir W hW K hK ga gn gc false hc);have HF3:=ak (fun W (hW:Ext w1 W) K (hK:∀y∈K,y<W.heap.size) ga gn gc (hc:I3 W ga gn gc)=>p3.fir W hW K hK ga gn gc true hc);have qw:=ak (And.intro p1.of p1.ext);have HC2:=ak (And.intro p2.of p2.ext);have tH:=ak (And.intro p3.of p3.ext);have yS:=ak p1.rea;have HE2:=ak p2.rea;have HE3:=ak p3.rea;obtain⟨rn1,hr1⟩:∃rn1,rn1=(wJ [2] l).length:=⟨_,rfl⟩
 obtain⟨MG,hr2⟩:∃MG,MG=(wJ [4] l).length:=⟨_,rfl⟩
 obtain⟨Za,hr3⟩:∃Za,Za=(wJ [3] l).length:=⟨_,rfl⟩
 have OO:=ak (show rn1<=1000000/\MG<=1000000/\Za<=1000000/\R1.length=rn1/\R2.length=MG/\R3.length=Za from⟨by rw[hr1];exact hle _,by rw[hr2];exact hle _,by rw[hr3];exact hle _,by rw[r1,hr1,List.length_map],by rw[r2,hr2,List.length_map],by rw[r3,hr3,List.length_map]⟩);rw[<-hF,<-r1,<-e1] at HF1;rw[<-hF,<-r2,<-e2] at HF2;rw[<-hF,<-r3,<-e3] at HF3;rw[<-hF,<-r1,<-hr1] at yS;rw[<-hF,<-r2,<-hr2] at HE2;rw[<-hF,<-r3,<-hr3] at HE3;have HT4:=ak (And.intro r4 (hle vF));have aWJ:=ak r4;clear h hl hn hxa hn0 hln hll h1 hl1 p1 p2 p3 hle hF hV r1 r2 r3 r4 e1 e2 e3 hD hR hr1 hr2 hr3;unfold jH.val at HRT ⊢;have anW:=ak (Ext.refl w1);have HK1:=ak (show ∀y∈List.range n0,y<w1.heap.size from fun y hy=>by have:=Dn.o;rw[List.mem_range] at hy;omega);go_enter Tryz.func44,Tryz.ntmps44
 go_upto_region 1 with fail
 rw[<-hw1,<-hb2];clear hw1 hb2;obtain⟨x0,x1,x2,xf⟩:=fZ aKl.o;have X0:=dI x0;have X1:=dI x1;have X2:=dI x2;refine rZ (m:=10) (Er:=Ut w1.heap.size) (C:=Ext w1) (Φ:=fun _=>True) (Ut.refl _) (fun _ _ h=>Ut.of h) (fun _ _ h q=>Ut.ext h q) (Ext.refl w1).drew trivial (fun _ _ _ h=>h) ?_
 repeat (refine dQ ?_;intro K hK;go_big_quiet_op;go_big_quiet_on)
 refine je (γ:=OA×Nat×Nat) (fun x=>.slice x.1 x.2.1 x.2.2) (fun x W=>I1 W x.1 x.2.1 x.2.2) (fun W hW _ _=>?_) (fun x W W' hx h=>qw.o.2 x.1 x.2.1 x.2.2 W W' hx h) ?_ ⟨(none,0,0)⟩
 ·unfold dF;go_simp;refine(qw.o.1 W (anW.o.trans hW)).mono ?_;rintro r wz ⟨a,n,c,rfl,h1,h2⟩;exact⟨_,rfl,Ut.of h2,(a,n,c),rfl,h1⟩
 rintro⟨ga,gn,gc⟩ K hK;go_simp;go_big_quiet_on
 repeat (refine dQ ?_;intro K hK;go_big_quiet_op;go_big_quiet_on)
 refine Gg (γ:=pO×Bool×Nat×Nat) (fun x=>.tuple #[.agg #[.string x.1.name,.bool x.1.applies,.bool x.1.p.value,.int .i64 x.1.p.pick,.slice x.1.p.a x.1.p.n x.1.p.c,.slice x.1.a x.1.n x.1.c],.bool x.2.1]) (an9 F1 (List.range n0)) (fun x g=>g<x.2.2.1\/x.2.2.2<=g) (fun W hW h _=>?_) (fun x W W' hx h=>h.ext hx) ?_ ⟨(⟨⟨#[]⟩,false,⟨false,0,none,0,0⟩,none,0,0⟩,false,0,0)⟩
 ·unfold dF;go_simp;refine(HF1.o W (anW.o.trans hW) (List.range n0) (fun y hy=>bU (HK1.o y hy) hW.size) ga gn gc h).mono ?_;rintro r wz ⟨x,rfl,h1,h2,h3⟩;exact⟨_,rfl,Ut.of h1,x,rfl,h2,h3⟩
 rintro⟨rv,q1,lo',hi'⟩ K hK;go_simp;go_big_quiet_on
 repeat (refine dQ ?_;intro K hK;go_big_quiet_op;go_big_quiet_on)
 refine Uj (fun g=>.pointer (some ⟨g,0,none⟩)) (fun g W=>w1.heap.size<=g/\∃c,W.heap[g]?=some (.cells c 69 (0,0))/\c.size=6) (fun W hW=>?_) (fun g W W' h ⟨k1,c,k2,k3⟩=>?_) (fun _ _ h=>h.size) ?_
 ·unfold dF;go_simp;exact⟨(Ext.refl W).alloc _,W.heap.size,rfl,bg _,by simp,hW.size,_,dG W _,rfl⟩
 ·obtain⟨c',e1,e2⟩:=h.shape k2 k3;exact⟨k1,c',e1,e2⟩
 intro b5 K hK;go_simp;go_big_quiet_on;refine lS undef (fun W=>w1.heap.size<=b5/\W.heap[b5]?=some (.cells #[.string rv.name,.bool rv.applies,.bool rv.p.value,.int .i64 rv.p.pick,.slice rv.p.a rv.p.n rv.p.c,.slice rv.a rv.n rv.c] 69 (0,0))/\amG F1 (List.range n0) q1 rv W) (fun W hW hq hF=>?_) (fun W W' h q=>⟨q.1,h.blk q.2.1,q.2.2.ext h⟩) ?_
 ·obtain⟨_,⟨hyl,cc,hyb,hcs⟩,_,hA⟩:=hF;obtain⟨v0,v1,v2,v3,v4,v5,rfl⟩:=ap1 hcs;obtain⟨z0,z1,z2,z3,z4,z5,zf⟩:=gJ hyb;have hlt:=dH hyb;have HP:=ak (jv hyb (v0:=.string rv.name) (v1:=.bool rv.applies) (v2:=.bool rv.p.value) (v3:=.int .i64 rv.p.pick) (v4:=.slice rv.p.a rv.p.n rv.p.c) (v5:=.slice rv.a rv.n rv.c));have HQ:=ak (iY W b5 (v0:=.string rv.name) (v1:=.bool rv.applies) (v2:=.bool rv.p.value) (v3:=.int .i64 rv.p.pick) (v4:=.slice rv.p.a rv.p.n rv.p.c) (v5:=.slice rv.a rv.n rv.c));have HY:=ak hyb;have HH:=ak (hq.box hA.2 (iY W b5 (v0:=.string rv.name) (v1:=.bool rv.applies) (v2:=.bool rv.p.value) (v3:=.int .i64 rv.p.pick) (v4:=.slice rv.p.a rv.p.n rv.p.c) (v5:=.slice rv.a rv.n rv.c)));clear hyb hq hA hcs;unfold jE at HP HQ HH;unfold dF;go_simp;exact⟨⟨[b5],HQ.o,fun k hk=>by
   rw[aK.1 hk];exact⟨hyl,fun cs t hb _=>by
    rw[HY.o] at hb;simp only[Option.some.injEq,Obj.cells.injEq] at hb;obtain⟨_,rfl,_⟩:=hb;exact⟨_,HP.o,rfl⟩⟩⟩,rfl,HP.o,HH.o⟩
 intro K hK;go_simp;go_big_quiet_on
 repeat (refine dQ ?_;intro K hK;go_big_quiet_op;go_big_quiet_on)
 refine lH fun w2 hx hy _=>?_
 have afQ:=ak (anW.o.trans hx);have a3k:=ak hx;have aFb:=ak (hx.blk aKl.o);have aRH:=ak (hx.blk aE2.o);have aYb:=ak hy.2.1;have aSl:=ak hy.2.2;clear hx hy x0 x1 x2 xf X0 X1 X2;cases q1
 ·have hf:=aSl.o.no;obtain⟨rfl,rfl⟩:=HCS.o.1 hf;go_upto_region 3 with fail
  have hn2:b2∉[b2+1]:=by simp
  obtain⟨x0,x1,x2,xf⟩:=fZ aFb.o;have X0:=kG x0 hn2;have X1:=kG x1 hn2;have X2:=kG x2 hn2;refine JR 6 [b2+1] (fun W=>Ext w2 W) (Ext.refl w2).drew (fun _ _ hx h=>h.trans hx) ?_
  repeat (refine dQ ?_;intro K hK;go_big_quiet_op;go_big_quiet_on)
  refine je (γ:=OA×Nat×Nat) (fun x=>.slice x.1 x.2.1 x.2.2) (fun x W=>Ext w2 W/\I1 W x.1 x.2.1 x.2.2) (fun W hW h _=>?_) (fun x W W' hx h=>⟨h.1.trans hx,qw.o.2 x.1 x.2.1 x.2.2 W W' hx h.2⟩) ?_ ⟨(none,0,0)⟩
  ·unfold dF;go_simp;refine(qw.o.1 W (afQ.o.trans h)).mono ?_;rintro r wz ⟨a,n,c,rfl,h1,h2⟩;exact⟨_,rfl,h2.fH _,(a,n,c),rfl,h.trans h2,h1⟩
  rintro⟨ga,gn,gc⟩ K hK;go_simp;go_big_quiet_on
  repeat (refine dQ ?_;intro K hK;go_big_quiet_op;go_big_quiet_on)
  refine je (γ:=OA×Nat) (fun x=>.slice x.1 rn1 x.2) (fun x W=>Ext w2 W/\nG (mask W (List.range n0)) R x.1 rn1 x.2) (fun W hW h _=>?_) (fun x W W' hx h=>⟨h.1.trans hx,h.2.mono (fA (hx.fH []) (by simp))⟩) ?_ ⟨(none,0)⟩
  ·unfold dF;go_simp;refine(yS.o W (afQ.o.trans h.1) ga gn gc h.2).mono ?_;rintro r wz ⟨a,c,rfl,h1,h2⟩;exact⟨_,rfl,h2.fH _,(a,c),rfl,h.1.trans h2,h1.mono (eG _ (fun y hy=>by have:=(afQ.o.trans h.1).size;have:=Dn.o;rw[List.mem_range] at hy ⊢;omega))⟩
  rintro⟨ra,rc⟩ K hK;go_simp;go_big_quiet_on
  repeat (refine dQ ?_;intro K hK;go_big_quiet_op;go_big_quiet_on)
  refine lS (.agg #[.int .i64 1,.int .i64 0,.int .i64 0,.int .i64 0,.int .i64 0,.bool false,.slice ra rn1 rc]) (fun W=>Ext w2 W/\nG (mask W (List.range n0)) R ra rn1 rc) (fun W hW h _=>?_) (fun W W' hx h=>⟨h.1.trans hx,h.2.mono (fA (hx.fH []) (by simp))⟩) ?_
  ·unfold dF;go_simp;refine(LK 1 ra rn1 rc W).mono ?_;rintro r wz ⟨rfl,h2⟩;exact⟨_,rfl,h2.fH _,rfl,h.1.trans h2,h.2.mono (fA (h2.fH []) (by simp))⟩
  intro K hK;go_simp;go_big_quiet_on;refine lS undef (fun W=>W.heap[b2+1]?=some (.cells #[.int .i64 1,.int .i64 0,.int .i64 0,.int .i64 0,.int .i64 0,.bool false,.slice ra rn1 rc] 57 (0,0))/\nG (mask W (List.range n0)) R ra rn1 rc) (fun W hW h _=>?_) (fun W W' hx h=>⟨hx.blk h.1,h.2.mono (fA (hx.fH []) (by simp))⟩) ?_
  ·have HY:=ak (h.1.blk aRH.o);obtain⟨z0,z1,z2,z3,z4,z5,z6,zf⟩:=qj HY.o;have hlt:=dH HY.o;have HP:=ak (zA HY.o (v0:=.int .i64 1) (v1:=.int .i64 0) (v2:=.int .i64 0) (v3:=.int .i64 0) (v4:=.int .i64 0) (v5:=.bool false) (v6:=.slice ra rn1 rc));have HQ:=ak (vg W (b2+1) (v0:=.int .i64 1) (v1:=.int .i64 0) (v2:=.int .i64 0) (v3:=.int .i64 0) (v4:=.int .i64 0) (v5:=.bool false) (v6:=.slice ra rn1 rc));have HI:=ak h.2;clear h;unfold qG at HP HQ;unfold dF;go_simp;exact⟨HQ.o,rfl,HP.o,HI.o.mono (fA HQ.o (fun y hy=>Or.inl (by rw[aK.1 hy];have:=Dn.o;simp;omega)))⟩
  intro K hK;go_simp;go_big_quiet_on;refine lH fun w8 hc8 hy _=>?_
  have HF:=ak (show aAJ ⟨1,0,0,0,0,false⟩ R w (.returned (.agg #[.int .i64 1,.int .i64 0,.int .i64 0,.int .i64 0,.int .i64 0,.bool false,.slice ra rn1 rc])) w8 from aiO (D:=⟨1,0,0,0,0,false⟩) hy.2 (OO.o.2.2.2.1).symm (by have:=Dn.o;omega) (hc8.ext (fE.o.trans afQ.o) (fun y hy=>by rw[aK.1 hy];have:=Dn.o;omega)));obtain⟨q0,q1,q2,q3,q4,q5,q6,qf⟩:=qj hy.1;clear hc8 hy X0 X1 X2 x0 x1 x2 xf;go_wp2_with fail
  refine bodyPost_ret (v:=.agg #[.int .i64 1,.int .i64 0,.int .i64 0,.int .i64 0,.int .i64 0,.bool false,.slice ra rn1 rc]) (by simp[results,Tryz.results44,go_sem,q0,q1,q2,q3,q4,q5,q6]) rfl ?_;exact HF.o
 obtain⟨c1,hc1,hir⟩:=aSl.o.yes;have aNB:=ak (HCS.o.2 c1 hc1);have HIR:=ak hir;clear hc1 hir HCS aSl;obtain⟨s0,s1,s2,s3,s4,s5,sf⟩:=gJ aYb.o;go_upto_region 5 with fail
 obtain⟨g5,hg5⟩:∃g5,g5=w2.heap.size:=⟨_,rfl⟩
 obtain⟨w3,hw3⟩:∃w3,w3=w2.alloc (.cells #[.string rv.name,.bool rv.applies,.bool rv.p.value,.int .i64 rv.p.pick,.slice rv.p.a rv.p.n rv.p.c,.slice rv.a rv.n rv.c] 69):=⟨_,rfl⟩
 have hx3:Ext w2 w3:=by rw[hw3];exact(Ext.refl _).alloc _
 have hg3:w3.heap[g5]?=some (.cells #[.string rv.name,.bool rv.applies,.bool rv.p.value,.int .i64 rv.p.pick,.slice rv.p.a rv.p.n rv.p.c,.slice rv.a rv.n rv.c] 69 (0,0)):=by rw[hw3,hg5];exact dG w2 _
 rw[<-hw3,<-hg5];have aNb:=ak (afQ.o.trans hx3);have aKk:=ak (hx3.blk aFb.o);have a2d:=ak (hx3.blk aRH.o);have aUF:n0<=g5:=by have:=afQ.o.size;have:=Dn.o;omega
 have aNl:=ak (aaq (v:=rv) hg3 aUF);have aR6:=ak (show wY (mask w3 ((b2+1)::rowOf (.slice (some ⟨g5,0,none⟩) 1 1)++List.range n0)) [c1] [rv] from wY.snoc (wY.nil _) ((HIR.o.mono (ayf (fun y hy=>by
  simp only[List.cons_append,bK,aT,List.mem_range] at hy;rcases hy with rfl|hy|hy
  ·exact Or.inl (by have:=Dn.o;simp;omega)
  ·have:=dK.1 hy;simp only[Value.ownBlock,Option.some.injEq] at this;exact Or.inr (by omega)
  exact Or.inl (by simpa using hy)))).mono (fA (hx3.fH []) (by simp))))
 obtain⟨vs,hvs⟩:∃vs,vs=[rv]:=⟨_,rfl⟩
 rw[<-hvs] at aNl aR6;clear hvs hg5 hw3 hx3 hg3 aUF s0 s1 s2 s3 s4 s5 sf aYb HIR aRH aFb afQ a3k;obtain⟨K3,hK3⟩:∃K,K=(b2+1)::rowOf (.slice (some ⟨g5,0,none⟩) 1 1)++List.range n0:=⟨_,rfl⟩
 have HK3:=ak (show ∀y∈K3,y<w3.heap.size from fun y hy=>by
  rw[hK3] at hy;have h1:=Dn.o;have h2:=aNb.o.size;simp only[List.cons_append,bK,aT,List.mem_range] at hy;rcases hy with rfl|hy|hy
  ·omega
  ·exact(aNl.o.lt y (dK.1 hy)).2
  omega)
 have an4:=ak hK3;clear hK3;obtain⟨x0,x1,x2,xf⟩:=fZ aKk.o;have X0:=dI x0;have X1:=dI x1;have X2:=dI x2;refine rZ (m:=10) (Er:=Ut w3.heap.size) (C:=Ext w3) (Φ:=fun _=>True) (Ut.refl _) (fun _ _ h=>Ut.of h) (fun _ _ h q=>Ut.ext h q) (Ext.refl w3).drew trivial (fun _ _ _ h=>h) ?_
 repeat (refine dQ ?_;intro K hK;go_big_quiet_op;go_big_quiet_on)
 refine je (γ:=OA×Nat×Nat) (fun x=>.slice x.1 x.2.1 x.2.2) (fun x W=>I2 W x.1 x.2.1 x.2.2) (fun W hW _ _=>?_) (fun x W W' hx h=>HC2.o.2 x.1 x.2.1 x.2.2 W W' hx h) ?_ ⟨(none,0,0)⟩
 ·unfold dF;go_simp;refine(HC2.o.1 W (aNb.o.trans hW)).mono ?_;rintro r wz ⟨a,n,c,rfl,h1,h2⟩;exact⟨_,rfl,Ut.of h2,(a,n,c),rfl,h1⟩
 rintro⟨ga,gn,gc⟩ K hK;go_simp;go_big_quiet_on
 repeat (refine dQ ?_;intro K hK;go_big_quiet_op;go_big_quiet_on)
 refine Gg (γ:=pO×Bool×Nat×Nat) (fun x=>.tuple #[.agg #[.string x.1.name,.bool x.1.applies,.bool x.1.p.value,.int .i64 x.1.p.pick,.slice x.1.p.a x.1.p.n x.1.p.c,.slice x.1.a x.1.n x.1.c],.bool x.2.1]) (an9 F2 K3) (fun x g=>g<x.2.2.1\/x.2.2.2<=g) (fun W hW h _=>?_) (fun x W W' hx h=>h.ext hx) ?_ ⟨(⟨⟨#[]⟩,false,⟨false,0,none,0,0⟩,none,0,0⟩,false,0,0)⟩
 ·unfold dF;go_simp;refine(HF2.o W (aNb.o.trans hW) K3 (fun y hy=>bU (HK3.o y hy) hW.size) ga gn gc h).mono ?_;rintro r wz ⟨x,rfl,h1,h2,h3⟩;exact⟨_,rfl,Ut.of h1,x,rfl,h2,h3⟩
 rintro⟨TB,q2,lo',hi'⟩ K hK;go_simp;go_big_quiet_on
 repeat (refine dQ ?_;intro K hK;go_big_quiet_op;go_big_quiet_on)
 refine Uj (fun g=>.pointer (some ⟨g,0,none⟩)) (fun g W=>w3.heap.size<=g/\∃c,W.heap[g]?=some (.cells c 69 (0,0))/\c.size=6) (fun W hW=>?_) (fun g W W' h ⟨k1,c,k2,k3⟩=>?_) (fun _ _ h=>h.size) ?_
 ·unfold dF;go_simp;exact⟨(Ext.refl W).alloc _,W.heap.size,rfl,bg _,by simp,hW.size,_,dG W _,rfl⟩
 ·obtain⟨c',e1,e2⟩:=h.shape k2 k3;exact⟨k1,c',e1,e2⟩
 intro b8 K hK;go_simp;go_big_quiet_on;refine lS undef (fun W=>w3.heap.size<=b8/\W.heap[b8]?=some (.cells #[.string TB.name,.bool TB.applies,.bool TB.p.value,.int .i64 TB.p.pick,.slice TB.p.a TB.p.n TB.p.c,.slice TB.a TB.n TB.c] 69 (0,0))/\amG F2 K3 q2 TB W) (fun W hW hq hF=>?_) (fun W W' h q=>⟨q.1,h.blk q.2.1,q.2.2.ext h⟩) ?_
 ·obtain⟨_,⟨hyl,cc,hyb,hcs⟩,_,hA⟩:=hF;obtain⟨v0,v1,v2,v3,v4,v5,rfl⟩:=ap1 hcs;obtain⟨z0,z1,z2,z3,z4,z5,zf⟩:=gJ hyb;have hlt:=dH hyb;have HP:=ak (jv hyb (v0:=.string TB.name) (v1:=.bool TB.applies) (v2:=.bool TB.p.value) (v3:=.int .i64 TB.p.pick) (v4:=.slice TB.p.a TB.p.n TB.p.c) (v5:=.slice TB.a TB.n TB.c));have HQ:=ak (iY W b8 (v0:=.string TB.name) (v1:=.bool TB.applies) (v2:=.bool TB.p.value) (v3:=.int .i64 TB.p.pick) (v4:=.slice TB.p.a TB.p.n TB.p.c) (v5:=.slice TB.a TB.n TB.c));have HY:=ak hyb;have HH:=ak (hq.box hA.2 (iY W b8 (v0:=.string TB.name) (v1:=.bool TB.applies) (v2:=.bool TB.p.value) (v3:=.int .i64 TB.p.pick) (v4:=.slice TB.p.a TB.p.n TB.p.c) (v5:=.slice TB.a TB.n TB.c)));clear hyb hq hA hcs;unfold jE at HP HQ HH;unfold dF;go_simp;exact⟨⟨[b8],HQ.o,fun k hk=>by
   rw[aK.1 hk];exact⟨hyl,fun cs t hb _=>by
    rw[HY.o] at hb;simp only[Option.some.injEq,Obj.cells.injEq] at hb;obtain⟨_,rfl,_⟩:=hb;exact⟨_,HP.o,rfl⟩⟩⟩,rfl,HP.o,HH.o⟩
 intro K hK;go_simp;go_big_quiet_on
 repeat (refine dQ ?_;intro K hK;go_big_quiet_op;go_big_quiet_on)
 refine lH fun w4 hx hy _=>?_
 have axd:=ak (aNb.o.trans hx);have aSo:=ak hx;have a3L:=ak (hx.blk aKk.o);have a8e:=ak (hx.blk a2d.o);have aYa:=ak hy.2.1;have aNu:=ak hy.2.2;clear hx hy x0 x1 x2 xf X0 X1 X2;have aJQ:=ak (eF aNl.o (aSo.o.fH []) (by simp));have aR5:=ak (aR6.o.mono (fA (aSo.o.fH []) (by simp)));clear aNl aR6 aSo;cases q2
 case true =>
  obtain⟨x2,hx2,hir⟩:=aNu.o.yes;obtain⟨rfl,rfl⟩:=aNB.o.1 x2 hx2;have a2Y:=ak (show yP (mask w4 ((b2+1)::rowOf (.slice (some ⟨g5,0,none⟩) 1 1)++List.range n0)) x2 TB by rw[<-an4.o];exact hir);clear hx2 hir aNB aNu;go_upto_region 7 with fail
  obtain⟨s0,s1,s2,s3,s4,s5,sf⟩:=gJ aYa.o;go_wp2_with (at_builtin;refine fK X3 rfl _ _ rfl n0 _ 1 _ rfl aJQ.o _ 1 1 rfl ?f0 rfl ?f1 ?f2 ?f3 ?f4 ?_)
  case f0=>simp
  case f1=>simp[Value.oneCell']
  try (case f2=>unfold maxLen;have:=OO.o;omega)
  try (case f3=>have:=OO.o;omega)
  case f4=>have:=axd.o.size;have:=Dn.o;omega
  intro v8 w9 ig hc8 hw8;obtain⟨ha,hc,rfl⟩:=iG ig;have HKP:=ak (FP (bd:=b2+1) (M:=List.range n0) hc8 hw8);have hrw:∀y∈rowOf (.slice (some ⟨g5,0,none⟩) 1 1),n0<=y:=fun y hy=>(aJQ.o.lt y (dK.1 hy)).1
  have aAo:=ak (hc8.ext axd.o (fun y hy=>by have:=hrw y hy;have:=Dn.o;omega));have aJs:=ak (aAo.o.blk aE2.o);have aJO:=ak (show w9.ownsRow n0 69 6 (.slice ha (1+1) hc) (1+1) ((vs++[TB]).flatMap pO.cells) by simpa[pO.cells] using ig);have aJW:=ak (show wY (mask w9 ((b2+1)::rowOf (.slice ha (1+1) hc)++List.range n0)) ([c1]++[x2]) (vs++[TB]) from wY.snoc (aR5.o.mono HKP.o) (a2Y.o.mono HKP.o));clear ig hc8 hw8 s0 s1 s2 s3 s4 s5 sf hrw HKP;go_wp2_with fail
  refine(LK 2 ha (1+1) hc w9).mono ?_;rintro r w12 ⟨rfl,AB⟩;have afR:=ak (aAo.o.trans AB);have aia:=ak (AB.blk aJs.o);have HSS:=ak ((QC (n0:=n0) (L:=[c1,x2]) aJO.o (bg _) (by have h:=OO.o;first|rfl|(simp only[List.length_cons,bI,List.length_nil];omega)) aJW.o (fun y hy=>by simp only[List.cons_append,bK,aT];exact Or.inr (Or.inr hy))).mono (fA (AB.fH []) (by simp)));clear AB aAo aJs aJO aJW;obtain⟨q0,q1,q2,q3,q4,q5,q6,qf⟩:=qj aia.o;have HF:=ak (show aAJ ⟨2,0,0,0,0,false⟩ [c1,x2] w (.returned (.agg #[.int .i64 2,.int .i64 0,.int .i64 0,.int .i64 0,.int .i64 0,.bool false,.slice ha (1+1) hc])) (qG w12 (b2+1) (.int .i64 2) (.int .i64 0) (.int .i64 0) (.int .i64 0) (.int .i64 0) (.bool false) (.slice ha (1+1) hc))/\(qG w12 (b2+1) (.int .i64 2) (.int .i64 0) (.int .i64 0) (.int .i64 0) (.int .i64 0) (.bool false) (.slice ha (1+1) hc)).heap[b2+1]?=some (.cells #[.int .i64 2,.int .i64 0,.int .i64 0,.int .i64 0,.int .i64 0,.bool false,.slice ha (1+1) hc] 57 (0,0)) from
   ⟨aiO (D:=⟨2,0,0,0,0,false⟩) ((HSS.o).mono (fA (vg w12 (b2+1)) (fun y hy=>Or.inl (by rw[aK.1 hy];have:=Dn.o;simp;omega)))) (by have h:=OO.o;first|rfl|(simp only[List.length_cons,bI,List.length_nil];omega)) (by have:=Dn.o;omega) ((vg w12 (b2+1)).ext (fE.o.trans afR.o) (fun y hy=>by rw[aK.1 hy];have:=Dn.o;omega)),zA aia.o⟩)
  go_wp2_with fail
  obtain⟨wz,hwz⟩:∃wz,wz=qG w12 (b2+1) (.int .i64 2) (.int .i64 0) (.int .i64 0) (.int .i64 0) (.int .i64 0) (.bool false) (.slice ha (1+1) hc):=⟨_,rfl⟩
  rw[<-hwz] at HF;unfold qG at hwz;rw[<-hwz];clear hwz q0 q1 q2 q3 q4 q5 q6 qf;obtain⟨q0,q1,q2,q3,q4,q5,q6,qf⟩:=qj HF.o.2;refine bodyPost_ret (v:=.agg #[.int .i64 2,.int .i64 0,.int .i64 0,.int .i64 0,.int .i64 0,.bool false,.slice ha (1+1) hc]) (by simp[results,Tryz.results44,go_sem,q0,q1,q2,q3,q4,q5,q6]) rfl ?_;exact HF.o.1
 have hf2:=aNu.o.no;have aNA:=ak (aNB.o.2 hf2);clear hf2 aNB aNu aYa an4 HK3 HF2;go_upto_region 8 with fail
 obtain⟨N,hN⟩:∃N,N=rowOf (.slice (some ⟨g5,0,none⟩) 1 1):=⟨_,rfl⟩
 have Aj:=ak (show ∀y∈N,n0<=y/\y<w4.heap.size from fun y hy=>by rw[hN] at hy;exact aJQ.o.lt y (dK.1 hy));have hn2:b2∉N:=fun hm=>by have:=(Aj.o _ hm).1;have:=Dn.o;omega
 have wZ:=ak hN;obtain⟨x0,x1,x2,xf⟩:=fZ a3L.o;have X0:=kG x0 hn2;have X1:=kG x1 hn2;have X2:=kG x2 hn2;have HKK:=ak (ad1 (b9:=b2+1) (n0:=n0) (by have h1:=Dn.o;have h3:=axd.o.size;omega) Aj.o (by have h1:=Dn.o;have h3:=axd.o.size;omega));clear hN hn2;refine JR 6 N (fun W=>Ext w4 W) (Ext.refl w4).drew (fun _ _ hx h=>h.trans hx) ?_
 repeat (refine dQ ?_;intro K hK;go_big_quiet_op;go_big_quiet_on)
 refine je (γ:=OA×Nat×Nat) (fun x=>.slice x.1 x.2.1 x.2.2) (fun x W=>Ext w4 W/\I2 W x.1 x.2.1 x.2.2) (fun W hW h _=>?_) (fun x W W' hx h=>⟨h.1.trans hx,HC2.o.2 x.1 x.2.1 x.2.2 W W' hx h.2⟩) ?_ ⟨(none,0,0)⟩
 ·unfold dF;go_simp;refine(HC2.o.1 W (axd.o.trans h)).mono ?_;rintro r wz ⟨a,n,c,rfl,h1,h2⟩;exact⟨_,rfl,h2.fH _,(a,n,c),rfl,h.trans h2,h1⟩
 rintro⟨ga,gn,gc⟩ K hK;go_simp;go_big_quiet_on
 repeat (refine dQ ?_;intro K hK;go_big_quiet_op;go_big_quiet_on)
 refine je (γ:=OA×Nat) (fun x=>.slice x.1 MG x.2) (fun x W=>Ext w4 W/\nG (mask W ((b2+1)::N++List.range n0)) R2 x.1 MG x.2) (fun W hW h _=>?_) (fun x W W' hx h=>⟨h.1.trans hx,h.2.mono (fA (hx.fH []) (by simp))⟩) ?_ ⟨(none,0)⟩
 ·unfold dF;go_simp;refine(HE2.o W (axd.o.trans h.1) ga gn gc h.2).mono ?_;rintro r wz ⟨a,c,rfl,h1,h2⟩;exact⟨_,rfl,h2.fH _,(a,c),rfl,h.1.trans h2,h1.mono (eG _ (HKK.o W h.1))⟩
 rintro⟨ra,rc⟩ K hK;go_simp;go_big_quiet_on
 repeat (refine dQ ?_;intro K hK;go_big_quiet_op;go_big_quiet_on)
 refine je (fun x=>.slice x.1 (1+MG) x.2.1) (amK n0 n0 (b2+1) (1+MG) ([c1]++R2) vs) (fun W hW h _=>LY wZ.o aJQ.o aR5.o (by have:=axd.o.size;have:=Dn.o;omega) (by have:=OO.o;omega) h rfl rfl) (fun x W W' hx h=>h.ext hx) ?_ ⟨(none,0,[])⟩;rintro⟨ga5,gc5,us2⟩ K hK;go_simp;go_big_quiet_on;refine zL fun w5 hx hy _=>?_
 have aEX:=ak (hx.ext axd.o (fun y hy=>by have:=(Aj.o y hy).1;have:=Dn.o;omega));have aYr:=ak (aEX.o.blk aKl.o);have a2c:=ak (aEX.o.blk aE2.o);have aRV:=ak hy.1;have aXs:=ak hy.2;clear hx hy x0 x1 x2 xf X0 X1 X2 aJQ aR5 wZ HKK Aj;go_wp2_with fail
 obtain⟨K5,hK5⟩:∃K,K=(b2+1)::rowOf (.slice ga5 (1+MG) gc5)++List.range n0:=⟨_,rfl⟩
 have HK5:=ak (show ∀y∈K5,y<w5.heap.size from fun y hy=>by
  rw[hK5] at hy;have h1:=Dn.o;have h2:=aEX.o.size;simp only[List.cons_append,bK,aT,List.mem_range] at hy;rcases hy with rfl|hy|hy
  ·omega
  ·exact(aRV.o.lt y (dK.1 hy)).2
  omega)
 have aX3:=ak hK5;clear hK5;obtain⟨x0,x1,x2,xf⟩:=fZ aYr.o;have X0:=dI x0;have X1:=dI x1;have X2:=dI x2;refine rZ (m:=10) (Er:=Ut w5.heap.size) (C:=Ext w5) (Φ:=fun _=>True) (Ut.refl _) (fun _ _ h=>Ut.of h) (fun _ _ h q=>Ut.ext h q) (Ext.refl w5).drew trivial (fun _ _ _ h=>h) ?_
 repeat (refine dQ ?_;intro K hK;go_big_quiet_op;go_big_quiet_on)
 refine je (γ:=OA×Nat×Nat) (fun x=>.slice x.1 x.2.1 x.2.2) (fun x W=>I3 W x.1 x.2.1 x.2.2) (fun W hW _ _=>?_) (fun x W W' hx h=>tH.o.2 x.1 x.2.1 x.2.2 W W' hx h) ?_ ⟨(none,0,0)⟩
 ·unfold dF;go_simp;refine(tH.o.1 W (aEX.o.trans hW)).mono ?_;rintro r wz ⟨a,n,c,rfl,h1,h2⟩;exact⟨_,rfl,Ut.of h2,(a,n,c),rfl,h1⟩
 rintro⟨ga,gn,gc⟩ K hK;go_simp;go_big_quiet_on
 repeat (refine dQ ?_;intro K hK;go_big_quiet_op;go_big_quiet_on)
 refine Gg (γ:=pO×Bool×Nat×Nat) (fun x=>.tuple #[.agg #[.string x.1.name,.bool x.1.applies,.bool x.1.p.value,.int .i64 x.1.p.pick,.slice x.1.p.a x.1.p.n x.1.p.c,.slice x.1.a x.1.n x.1.c],.bool x.2.1]) (an9 F3 K5) (fun x g=>g<x.2.2.1\/x.2.2.2<=g) (fun W hW h _=>?_) (fun x W W' hx h=>h.ext hx) ?_ ⟨(⟨⟨#[]⟩,false,⟨false,0,none,0,0⟩,none,0,0⟩,false,0,0)⟩
 ·unfold dF;go_simp;refine(HF3.o W (aEX.o.trans hW) K5 (fun y hy=>bU (HK5.o y hy) hW.size) ga gn gc h).mono ?_;rintro r wz ⟨x,rfl,h1,h2,h3⟩;exact⟨_,rfl,Ut.of h1,x,rfl,h2,h3⟩
 rintro⟨rv3,q3,lo',hi'⟩ K hK;go_simp;go_big_quiet_on
 repeat (refine dQ ?_;intro K hK;go_big_quiet_op;go_big_quiet_on)
 refine Uj (fun g=>.pointer (some ⟨g,0,none⟩)) (fun g W=>w5.heap.size<=g/\∃c,W.heap[g]?=some (.cells c 69 (0,0))/\c.size=6) (fun W hW=>?_) (fun g W W' h ⟨k1,c,k2,k3⟩=>?_) (fun _ _ h=>h.size) ?_
 ·unfold dF;go_simp;exact⟨(Ext.refl W).alloc _,W.heap.size,rfl,bg _,by simp,hW.size,_,dG W _,rfl⟩
 ·obtain⟨c',e1,e2⟩:=h.shape k2 k3;exact⟨k1,c',e1,e2⟩
 intro b10 K hK;go_simp;go_big_quiet_on;refine lS undef (fun W=>w5.heap.size<=b10/\W.heap[b10]?=some (.cells #[.string rv3.name,.bool rv3.applies,.bool rv3.p.value,.int .i64 rv3.p.pick,.slice rv3.p.a rv3.p.n rv3.p.c,.slice rv3.a rv3.n rv3.c] 69 (0,0))/\amG F3 K5 q3 rv3 W) (fun W hW hq hF=>?_) (fun W W' h q=>⟨q.1,h.blk q.2.1,q.2.2.ext h⟩) ?_
 ·obtain⟨_,⟨hyl,cc,hyb,hcs⟩,_,hA⟩:=hF;obtain⟨v0,v1,v2,v3,v4,v5,rfl⟩:=ap1 hcs;obtain⟨z0,z1,z2,z3,z4,z5,zf⟩:=gJ hyb;have hlt:=dH hyb;have HP:=ak (jv hyb (v0:=.string rv3.name) (v1:=.bool rv3.applies) (v2:=.bool rv3.p.value) (v3:=.int .i64 rv3.p.pick) (v4:=.slice rv3.p.a rv3.p.n rv3.p.c) (v5:=.slice rv3.a rv3.n rv3.c));have HQ:=ak (iY W b10 (v0:=.string rv3.name) (v1:=.bool rv3.applies) (v2:=.bool rv3.p.value) (v3:=.int .i64 rv3.p.pick) (v4:=.slice rv3.p.a rv3.p.n rv3.p.c) (v5:=.slice rv3.a rv3.n rv3.c));have HY:=ak hyb;have HH:=ak (hq.box hA.2 (iY W b10 (v0:=.string rv3.name) (v1:=.bool rv3.applies) (v2:=.bool rv3.p.value) (v3:=.int .i64 rv3.p.pick) (v4:=.slice rv3.p.a rv3.p.n rv3.p.c) (v5:=.slice rv3.a rv3.n rv3.c)));clear hyb hq hA hcs;unfold jE at HP HQ HH;unfold dF;go_simp;exact⟨⟨[b10],HQ.o,fun k hk=>by
   rw[aK.1 hk];exact⟨hyl,fun cs t hb _=>by
    rw[HY.o] at hb;simp only[Option.some.injEq,Obj.cells.injEq] at hb;obtain⟨_,rfl,_⟩:=hb;exact⟨_,HP.o,rfl⟩⟩⟩,rfl,HP.o,HH.o⟩
 intro K hK;go_simp;go_big_quiet_on
 repeat (refine dQ ?_;intro K hK;go_big_quiet_op;go_big_quiet_on)
 refine lH fun w6 hx hy _=>?_
 have axc:=ak (aEX.o.trans hx);have aSn:=ak hx;have a3K:=ak (hx.blk aYr.o);have a8d:=ak (hx.blk a2c.o);have aX':=ak hy.2.1;have aNt:=ak hy.2.2;clear hx hy x0 x1 x2 xf X0 X1 X2;have aJP:=ak (eF aRV.o (aSn.o.fH []) (by simp));have aR4:=ak (aXs.o.mono (fA (aSn.o.fH []) (by simp)));clear aRV aXs aSn;cases q3
 case true =>
  obtain⟨x3,hx3,hir⟩:=aNt.o.yes;obtain⟨rfl,rfl⟩:=aNA.o.1 x3 hx3;have a2X:=ak (show yP (mask w6 ((b2+1)::rowOf (.slice ga5 (1+MG) gc5)++List.range n0)) x3 rv3 by rw[<-aX3.o];exact hir);clear hx3 hir aNA aNt;go_upto_region 11 with fail
  obtain⟨s0,s1,s2,s3,s4,s5,sf⟩:=gJ aX'.o;go_wp2_with (at_builtin;refine fK X3 rfl _ _ rfl n0 _ (1+MG) _ rfl aJP.o _ 1 1 rfl ?j0 rfl ?j1 ?j2 ?j3 ?j4 ?_)
  case j0=>simp
  case j1=>simp[Value.oneCell']
  try (case j2=>unfold maxLen;have:=OO.o;omega)
  try (case j3=>have:=OO.o;omega)
  case j4=>have:=axc.o.size;have:=Dn.o;omega
  intro v8 w9 ig hc8 hw8;obtain⟨ha,hc,rfl⟩:=iG ig;have HKP:=ak (FP (bd:=b2+1) (M:=List.range n0) hc8 hw8);have hrw:∀y∈rowOf (.slice ga5 (1+MG) gc5),n0<=y:=fun y hy=>(aJP.o.lt y (dK.1 hy)).1
  have aAo:=ak (hc8.ext axc.o (fun y hy=>by have:=hrw y hy;have:=Dn.o;omega));have aJs:=ak (aAo.o.blk aE2.o);have aJO:=ak (show w9.ownsRow n0 69 6 (.slice ha ((1+MG)+1) hc) ((1+MG)+1) (((vs++us2)++[rv3]).flatMap pO.cells) by simpa[pO.cells] using ig);have aJW:=ak (show wY (mask w9 ((b2+1)::rowOf (.slice ha ((1+MG)+1) hc)++List.range n0)) (([c1]++R2)++[x3]) ((vs++us2)++[rv3]) from wY.snoc (aR4.o.mono HKP.o) (a2X.o.mono HKP.o));clear ig hc8 hw8 s0 s1 s2 s3 s4 s5 sf hrw HKP;go_wp2_with fail
  refine(LK 3 ha ((1+MG)+1) hc w9).mono ?_;rintro r w12 ⟨rfl,AB⟩;have afR:=ak (aAo.o.trans AB);have aia:=ak (AB.blk aJs.o);have HSS:=ak ((QC (n0:=n0) (L:=([c1]++R2++[x3])) aJO.o (bg _) (by have h:=OO.o;first|rfl|(simp only[List.length_cons,bI,List.length_nil];omega)) aJW.o (fun y hy=>by simp only[List.cons_append,bK,aT];exact Or.inr (Or.inr hy))).mono (fA (AB.fH []) (by simp)));clear AB aAo aJs aJO aJW;obtain⟨q0,q1,q2,q3,q4,q5,q6,qf⟩:=qj aia.o;have HF:=ak (show aAJ ⟨3,0,0,0,0,false⟩ (c1::(R2++[x3])) w (.returned (.agg #[.int .i64 3,.int .i64 0,.int .i64 0,.int .i64 0,.int .i64 0,.bool false,.slice ha ((1+MG)+1) hc])) (qG w12 (b2+1) (.int .i64 3) (.int .i64 0) (.int .i64 0) (.int .i64 0) (.int .i64 0) (.bool false) (.slice ha ((1+MG)+1) hc))/\(qG w12 (b2+1) (.int .i64 3) (.int .i64 0) (.int .i64 0) (.int .i64 0) (.int .i64 0) (.bool false) (.slice ha ((1+MG)+1) hc)).heap[b2+1]?=some (.cells #[.int .i64 3,.int .i64 0,.int .i64 0,.int .i64 0,.int .i64 0,.bool false,.slice ha ((1+MG)+1) hc] 57 (0,0)) from
   ⟨aiO (D:=⟨3,0,0,0,0,false⟩) ((HSS.o).mono (fA (vg w12 (b2+1)) (fun y hy=>Or.inl (by rw[aK.1 hy];have:=Dn.o;simp;omega)))) (by have h:=OO.o;first|rfl|(simp only[List.length_cons,bI,List.length_nil];omega)) (by have:=Dn.o;omega) ((vg w12 (b2+1)).ext (fE.o.trans afR.o) (fun y hy=>by rw[aK.1 hy];have:=Dn.o;omega)),zA aia.o⟩)
  go_wp2_with fail
  obtain⟨wz,hwz⟩:∃wz,wz=qG w12 (b2+1) (.int .i64 3) (.int .i64 0) (.int .i64 0) (.int .i64 0) (.int .i64 0) (.bool false) (.slice ha ((1+MG)+1) hc):=⟨_,rfl⟩
  rw[<-hwz] at HF;unfold qG at hwz;rw[<-hwz];clear hwz q0 q1 q2 q3 q4 q5 q6 qf;obtain⟨q0,q1,q2,q3,q4,q5,q6,qf⟩:=qj HF.o.2;refine bodyPost_ret (v:=.agg #[.int .i64 3,.int .i64 0,.int .i64 0,.int .i64 0,.int .i64 0,.bool false,.slice ha ((1+MG)+1) hc]) (by simp[results,Tryz.results44,go_sem,q0,q1,q2,q3,q4,q5,q6]) rfl ?_;exact HF.o.1
 have hf3:=aNt.o.no;have aYc:=ak (aNA.o.2 hf3);clear hf3 aNA aNt aX' aX3 HK5 HF3;go_upto_region 12 with fail
 obtain⟨N,hN⟩:∃N,N=rowOf (.slice ga5 (1+MG) gc5):=⟨_,rfl⟩
 have Aj:=ak (show ∀y∈N,n0<=y/\y<w6.heap.size from fun y hy=>by rw[hN] at hy;exact aJP.o.lt y (dK.1 hy));have hn2:b2∉N:=fun hm=>by have:=(Aj.o _ hm).1;have:=Dn.o;omega
 have wZ:=ak hN;obtain⟨x0,x1,x2,xf⟩:=fZ a3K.o;have X0:=kG x0 hn2;have X1:=kG x1 hn2;have X2:=kG x2 hn2;have HKK:=ak (ad1 (b9:=b2+1) (n0:=n0) (by have h1:=Dn.o;have h3:=axc.o.size;omega) Aj.o (by have h1:=Dn.o;have h3:=axc.o.size;omega));clear hN hn2;refine JR 6 N (fun W=>Ext w6 W) (Ext.refl w6).drew (fun _ _ hx h=>h.trans hx) ?_
 repeat (refine dQ ?_;intro K hK;go_big_quiet_op;go_big_quiet_on)
 refine je (γ:=OA×Nat×Nat) (fun x=>.slice x.1 x.2.1 x.2.2) (fun x W=>Ext w6 W/\I3 W x.1 x.2.1 x.2.2) (fun W hW h _=>?_) (fun x W W' hx h=>⟨h.1.trans hx,tH.o.2 x.1 x.2.1 x.2.2 W W' hx h.2⟩) ?_ ⟨(none,0,0)⟩
 ·unfold dF;go_simp;refine(tH.o.1 W (axc.o.trans h)).mono ?_;rintro r wz ⟨a,n,c,rfl,h1,h2⟩;exact⟨_,rfl,h2.fH _,(a,n,c),rfl,h.trans h2,h1⟩
 rintro⟨ga,gn,gc⟩ K hK;go_simp;go_big_quiet_on
 repeat (refine dQ ?_;intro K hK;go_big_quiet_op;go_big_quiet_on)
 refine je (γ:=OA×Nat) (fun x=>.slice x.1 Za x.2) (fun x W=>Ext w6 W/\nG (mask W ((b2+1)::N++List.range n0)) R3 x.1 Za x.2) (fun W hW h _=>?_) (fun x W W' hx h=>⟨h.1.trans hx,h.2.mono (fA (hx.fH []) (by simp))⟩) ?_ ⟨(none,0)⟩
 ·unfold dF;go_simp;refine(HE3.o W (axc.o.trans h.1) ga gn gc h.2).mono ?_;rintro r wz ⟨a,c,rfl,h1,h2⟩;exact⟨_,rfl,h2.fH _,(a,c),rfl,h.1.trans h2,h1.mono (eG _ (HKK.o W h.1))⟩
 rintro⟨ra,rc⟩ K hK;go_simp;go_big_quiet_on
 repeat (refine dQ ?_;intro K hK;go_big_quiet_op;go_big_quiet_on)
 refine je (fun x=>.slice x.1 ((1+MG)+Za) x.2.1) (amK n0 n0 (b2+1) ((1+MG)+Za) (([c1]++R2)++R3) (vs++us2)) (fun W hW h _=>LY wZ.o aJP.o aR4.o (by have:=axc.o.size;have:=Dn.o;omega) (by have:=OO.o;omega) h rfl rfl) (fun x W W' hx h=>h.ext hx) ?_ ⟨(none,0,[])⟩;rintro⟨ga7,gc7,us3⟩ K hK;go_simp;go_big_quiet_on;refine zL fun w7 hx hy _=>?_
 have aNa:=ak (hx.ext axc.o (fun y hy=>by have:=(Aj.o y hy).1;have:=Dn.o;omega));have a3J:=ak (aNa.o.blk aKl.o);have a2b:=ak (aNa.o.blk aE2.o);have aRU:=ak hy.1;have aXr:=ak hy.2;clear hx hy x0 x1 x2 xf X0 X1 X2 aJP aR4 wZ HKK Aj;go_wp2_with fail
 refine(HTM.o w7 aNa.o).mono ?_;rintro r w8 ⟨T,tvs,ta,tc,hT,rfl,hcr,hrows,vM⟩;obtain⟨tn,htn⟩:∃tn,tn=T.length:=⟨_,rfl⟩
 rw[<-htn] at hrows;rw[<-htn];obtain⟨N7,hN7⟩:∃N7,N7=rowOf (.slice ga7 (1+MG+Za) gc7):=⟨_,rfl⟩
 have HN7:=ak (show ∀y∈N7,n0<=y/\y<w7.heap.size from fun y hy=>by rw[hN7] at hy;exact aRU.o.lt y (dK.1 hy));have HTT:=ak (show T=wJ vF l/\tn=T.length/\tn<=1000000 from⟨hT,htn,by rw[htn,hT];exact HT4.o.2⟩);have HTC:=ak hcr;have WL:=ak hrows;have aEW:=ak (aNa.o.trans vM);have U4:=ak vM.size;have a2j:=ak (fun (k:Nat) (hk:k<T.length) (v:jm) W (hW:Ext w1 W) (hv:kR w1 T[k] v)=>show Calls Tryz.prog 72 #[.agg #[.slice lo.sa lo.sn lo.sc,.map (some lo.bm),.slice lo.fa lo.fn lo.fc],.iface 81 (.agg #[.int .i64 v.kind,.string v.name,.int .i64 v.x.op,.string v.x.name,.slice v.x.aw v.x.nw v.x.cw,.int .i64 v.x.lo,.int .i64 v.x.hi,.slice v.x.aa v.x.na v.x.ca,.slice v.au v.nu v.cu,.int .i64 v.amount])] W (asQ (qF F T[k]) W) from by subst hT;exact HRT.o k hk v W hW hv);have hst:ExI V F T ([c1]++R2++R3) (1+MG+Za) tn n0 (b2+1) N7 w1 w8 (.slice ga7 (1+MG+Za) gc7) (.slice none 0 0) (.int .i64 0) w8:=⟨0,(vs++us2++us3),ga7,gc7,[],0,none,0,rfl,rfl,rfl,Nat.zero_le _,rfl,bg _,eF aRU.o (vM.fH []) (by simp),World.ownsRow_nil _ _ _ _,by simp[rowOf,Value.ownBlock],fun y hy=>Or.inl (by rw[hN7];exact hy),by
  rw[List.take_zero,List.map_nil,List.append_nil];exact(aXr.o.mono (fA (vM.fH []) (by simp))).mono (eG _ (fun y hy=>by simpa[rowOf,Value.ownBlock] using hy)),by rw[List.take_zero];exact⟨rfl,fun i h=>by simp at h⟩,aEW.o,dO.refl _ _⟩
 have HST:=ak hst;clear hst hT htn hcr hrows vM hN7 aRU aXr a2b a3J HTM HRT HT4;go_wp2_with fail
 go_loopw [7,12,73] (ExI V F T ([c1]++R2++R3) (1+MG+Za) tn n0 (b2+1) N7 w1 w8) (fun _ _ i _=>tn - (intOf i).toNat)
 case atStart=>exact HST.o
 case round =>
  obtain⟨k,vz,ga,gc,us,un,ca,cc,rfl,rfl,rfl,hk,hun,a6h,hor,hoc,hdj,hn7,hrs,hcr,hx,hcg⟩:=hrel;obtain⟨wo,rfl⟩:∃wo:World,wo=wr:=⟨_,rfl⟩
  have HOR:=ak hor;have HOC:=ak hoc;have HDJ:=ak hdj;have HM7:=ak hn7;have Si:=ak hrs;have Fe:=ak hcr;have HX:=ak hx;have HCG:=ak hcg;have HUN:=ak hun;have HB:=ak (hx.blk aKl.o);have HR:=ak (hx.blk aE2.o);clear hor hoc hdj hn7 hrs hcr hx hcg hun;have a6i:=HTT.o.2.2;by_cases hkn:k<tn
  ·have hkl:k<T.length:=by have:=HTT.o;omega
   have t1:=ah ((k:Int)<(tn:Int));have hkv:k<tvs.length:=by rw[<-HTC.o.1];exact hkl
   obtain⟨v,hv⟩:∃v,v=tvs[k]:=⟨_,rfl⟩
   obtain⟨tb,aZv,rfl,hrow⟩:=((WL.o.mono (fA HCG.o (fun y hy=>Or.inl (List.mem_range.2 (HN7.o y hy).2)))).mono (dU _ _)).2.2.2 k hkv;rw[<-hv] at hrow;obtain⟨c0,c1',c2,c3,c4,c5,c6,c7,c8,c9⟩:=(show OL wo tb (aZv+k*10) v.cells from hrow).ten;have vS:=ak (show kR w1 T[k] v by rw[hv];exact HTC.o.2 k hkl hkv);have HRK:=ak (fun W (hW:Ext wo W)=>a2j.o k hkl v W (HX.o.trans hW) vS.o);obtain⟨X,hX⟩:∃X,X=qF F T[k]:=⟨_,rfl⟩
   rw[<-hX] at HRK;have Iq:=ak (show (T.take (k+1)).map (qF F)=(T.take k).map (qF F)++[X] by rw[aU hkl,List.map_append,List.map_singleton,hX]);have aWC:=ak (show X.applies=oK V T[k] by rw[hX];exact Xl HV.o _);have HTF:=ak (ahY (oK V) hkl);clear hrow hX hv;obtain⟨wb,hwb⟩:∃wb,wb=wo.alloc (.cells #[.int .i64 v.kind,.string v.name,.int .i64 v.x.op,.string v.x.name,.slice v.x.aw v.x.nw v.x.cw,.int .i64 v.x.lo,.int .i64 v.x.hi,.slice v.x.aa v.x.na v.x.ca,.slice v.au v.nu v.cu,.int .i64 v.amount] 48):=⟨_,rfl⟩
   have HXB:=ak (show Ext wo wb by rw[hwb];exact(Ext.refl _).alloc _);have Mc:=ak (show wb.heap[wo.heap.size]?=some (.cells #[.int .i64 v.kind,.string v.name,.int .i64 v.x.op,.string v.x.name,.slice v.x.aw v.x.nw v.x.cw,.int .i64 v.x.lo,.int .i64 v.x.hi,.slice v.x.aa v.x.na v.x.ca,.slice v.au v.nu v.cu,.int .i64 v.amount] 48 (0,0)) by rw[hwb];exact dG wo _);go_upto_region 17 with fail
   rw[<-hwb];clear hwb c0 c1' c2 c3 c4 c5 c6 c7 c8 c9;obtain⟨x0,x1,x2,xf⟩:=fZ (HXB.o.blk HB.o);obtain⟨f0,f1,f2,f3,f4,f5,f6,f7,f8,f9,ff⟩:=Aa Mc.o;go_wp2_with fail
   refine(HRK.o wb HXB.o).mono ?_;rintro r w5 ⟨⟨vn,Q,qv,qa,qm,qc⟩,rfl,hrv,hx5⟩;unfold pO.val;clear x0 x1 x2 xf f0 f1 f2 f3 f4 f5 f6 f7 f8 f9 ff HRK;go_upto_region 18 with fail
   obtain⟨b9,I7⟩:∃b9,b9=w5.heap.size:=⟨_,rfl⟩
   obtain⟨w9,yY⟩:∃w9,w9=w5.alloc (.cells #[.string vn,.bool Q,.bool qv.value,.int .i64 qv.pick,.slice qv.a qv.n qv.c,.slice qa qm qc] 69):=⟨_,rfl⟩
   have Ae:Ext w5 w9:=by rw[yY];exact(Ext.refl _).alloc _
   have hxr:=(HXB.o.trans hx5).trans Ae;have HB9:=ak (show w9.heap[b9]?=some (.cells #[.string vn,.bool Q,.bool qv.value,.int .i64 qv.pick,.slice qv.a qv.n qv.c,.slice qa qm qc] 69 (0,0)) by rw[yY,I7];exact dG w5 _);have aOU:=ak ((hx5.trans Ae).blk Mc.o);have HV9:=ak (show yP (mask w9 ((b2+1)::rowOf (.slice ga ((1+MG+Za)+k) gc)++(rowOf (.slice ca un cc)++List.range n0))) X ⟨vn,Q,qv,qa,qm,qc⟩ from(hrv.mono (fA (Ae.fH []) (by simp))).mono (eG _ (fun y hy=>by
    have h1:=Dn.o;have h2:=HXB.o.size;have h3:=HX.o.size;rw[List.mem_range];simp only[List.cons_append,bK,aT,List.mem_range] at hy;rcases hy with rfl|hy|hy|hy
    ·omega
    ·have:=(HOR.o.lt y (dK.1 hy)).2;omega
    ·have:=(HOC.o.lt y (dK.1 hy)).2;omega
    omega)))
   have HQ:=ak (show Q=X.applies from hrv.app);rw[<-yY,<-I7];have aNm:=ak (eF HOR.o (hxr.fH []) (by simp));have aNn:=ak (eF HOC.o (hxr.fH []) (by simp));have aRI:=ak (Si.o.mono (fA (hxr.fH []) (by simp)));have Ai:=ak (HX.o.trans hxr);have aND:=ak (HCG.o.then (hxr.fH N7));have aWK:=ak (show w8.heap.size<=w9.heap.size from aND.o.size);have PU:=ak (show wo.heap.size<b9 by rw[I7];have h1:=(HXB.o.trans hx5).size;have h2:=dH Mc.o;have:=hx5.size;omega);clear yY I7 hrv hx5 Ae hxr HXB Si Mc HX HCG HB HR;obtain⟨s0,s1,s2,s3,s4,s5,sf⟩:=gJ HB9.o
   go_upto_if 83 with fail
   go_cut [12] (fun s12 wx=>∃(us2:List jm) (un2:Nat) (ca2:OA) (cc2:Nat),s12=.slice ca2 un2 cc2/\un2=us2.length/\un2<=k+1/\wx.ownsRow n0 69 6 (.slice ga ((1+MG+Za)+k) gc) ((1+MG+Za)+k) (vz.flatMap pO.cells)/\wx.ownsRow w8.heap.size 48 10 (.slice ca2 un2 cc2) un2 (us2.flatMap jm.cells)/\(∀y∈rowOf (.slice ca2 un2 cc2),y∉rowOf (.slice ga ((1+MG+Za)+k) gc))/\wY (mask wx ((b2+1)::rowOf (.slice ga ((1+MG+Za)+k) gc)++(rowOf (.slice ca2 un2 cc2)++List.range n0))) (([c1]++R2++R3)++(T.take k).map (qF F)) vz/\yP (mask wx ((b2+1)::rowOf (.slice ga ((1+MG+Za)+k) gc)++(rowOf (.slice ca2 un2 cc2)++List.range n0))) X ⟨vn,Q,qv,qa,qm,qc⟩/\wx.heap[b9]?=some (.cells #[.string vn,.bool Q,.bool qv.value,.int .i64 qv.pick,.slice qv.a qv.n qv.c,.slice qa qm qc] 69 (0,0))/\Dp w1 ((T.take (k+1)).filter (oK V)) us2/\Ext w1 wx/\dO N7 w8 wx)
   case first =>
    cases Q
    ·go_wp2_with fail
     go_meet
     case rel=>exact⟨us,un,ca,cc,rfl,HUN.o,by omega,aNm.o,aNn.o,HDJ.o,aRI.o,HV9.o,HB9.o,by rw[HTF.o,dh (by rw[<-aWC.o,<-HQ.o];simp)];exact Fe.o,Ai.o,aND.o⟩
    obtain⟨f0,f1,f2,f3,f4,f5,f6,f7,f8,f9,ff⟩:=Aa aOU.o;go_wp2_with (at_builtin;refine fK sQ rfl _ _ rfl w8.heap.size _ un _ rfl aNn.o _ 1 1 rfl ?k0 rfl ?k1 ?k2 ?k3 ?k4 ?_)
    case k0=>simp
    case k1=>simp[Value.oneCell']
    case k2=>unfold maxLen;have:=HTT.o;omega
    case k3=>have:=HTT.o;omega
    case k4=>exact aWK.o
    intro v8' w10 hown V3 avR;obtain⟨ca2,cc2,rfl⟩:=iG hown;have aJV:=ak (show w10.ownsRow w8.heap.size 48 10 (.slice ca2 (un+1) cc2) (un+1) ((us++[v]).flatMap jm.cells) by simpa[jm.cells] using hown);have HKP:=ak (ak1 (K:=((b2+1)::rowOf (.slice ga ((1+MG+Za)+k) gc)++(rowOf (.slice ca un cc)++List.range n0))) (K':=((b2+1)::rowOf (.slice ga ((1+MG+Za)+k) gc)++(rowOf (.slice ca2 (un+1) cc2)++List.range n0))) V3 avR (fun y hy=>by simp[hy]) (fun y hy=>by
     simp only[List.cons_append,bK,aT] at hy ⊢;rcases hy with h|h|h|h
     ·exact Or.inl (Or.inl h)
     ·exact Or.inl (Or.inr (Or.inl h))
     ·exact Or.inr h
     exact Or.inl (Or.inr (Or.inr (Or.inr h)))))
    have aXc:=ak (eF aNm.o V3 (fun q hq hm=>HDJ.o q hm (dK.2 hq)));have aJ':=ak (show ∀y∈rowOf (.slice ca2 (un+1) cc2),y∉rowOf (.slice ga ((1+MG+Za)+k) gc) from fun y hy hm=>by
     rcases avR y (dK.1 hy) with e|e
     ·exact HDJ.o y (dK.2 e) hm
     have:=(aNm.o.lt y (dK.1 hm)).2;omega)
    have hlo:∀y∈rowOf (.slice ca un cc),w8.heap.size<=y:=fun y hy=>(aNn.o.lt y (dK.1 hy)).1
    have ahi:=ak (V3.blk HB9.o (fun hm=>by have:=(HOC.o.lt b9 (dK.1 hm)).2;have:=PU.o;omega));have mX:=ak (V3.ext Ai.o (fun y hy=>by have:=hlo y hy;have:=aEW.o.size;omega));have aKg:=ak (aND.o.trans V3 (fun y hy=>Or.inr (hlo y hy)));clear hown V3 avR hlo f0 f1 f2 f3 f4 f5 f6 f7 f8 f9 ff;go_wp2_with fail
    go_meet
    case rel=>exact⟨us++[v],un+1,ca2,cc2,rfl,by rw[HUN.o];simp,by omega,aXc.o,aJV.o,aJ'.o,aRI.o.mono HKP.o,HV9.o.mono HKP.o,ahi.o,by rw[HTF.o,dw (by rw[<-aWC.o,<-HQ.o])];exact Fe.o.snoc vS.o,mX.o,aKg.o⟩
   case rest =>
    obtain⟨us2,un2,ca2,cc2,rfl,aUd,aUc,hor,hoc,hdj,hrs,hrv,I7,hcr,hx,hcg⟩:=hcut;obtain⟨wx,rfl⟩:∃W:World,W=wc:=⟨_,rfl⟩
    clear aNm aNn aRI Ai aND aWK PU HV9 HB9 HOR HOC HDJ Fe aOU;have aXf:=ak hoc;have a2l:=ak hrs;have aNg:=ak hrv;have a3A:=ak hcr;have a1T:=ak aUd;have gI:=ak hx;have aYj:=ak hcg;have aX7:=ak hdj;have aXb:=ak hor;clear hoc hrs hrv hcr aUd hx hcg hdj hor s0 s1 s2 s3 s4 s5 sf;obtain⟨s0,s1,s2,s3,s4,s5,sf⟩:=gJ I7;clear I7;go_wp2_with (at_builtin;refine fK X3 rfl _ _ rfl n0 _ ((1+MG+Za)+k) _ rfl aXb.o _ 1 1 rfl ?l0 rfl ?l1 ?l2 ?l3 ?l4 ?_)
    case l0=>simp
    case l1=>simp[Value.oneCell']
    case l2=>unfold maxLen;have:=HTT.o;have:=OO.o;omega
    case l3=>have:=HTT.o;have:=OO.o;omega
    case l4=>have:=gI.o.size;have:=Dn.o;omega
    intro v8' w10 hown V3 avR;obtain⟨ga2,gc2,rfl⟩:=iG hown;have aJV:=ak (show w10.ownsRow n0 69 6 (.slice ga2 ((1+MG+Za)+(k+1)) gc2) ((1+MG+Za)+(k+1)) ((vz++[(⟨vn,Q,qv,qa,qm,qc⟩:pO)]).flatMap pO.cells) by simpa[pO.cells,Nat.add_assoc] using hown);have HKP:=ak (ak1 (K:=((b2+1)::rowOf (.slice ga ((1+MG+Za)+k) gc)++(rowOf (.slice ca2 un2 cc2)++List.range n0))) (K':=((b2+1)::rowOf (.slice ga2 ((1+MG+Za)+(k+1)) gc2)++(rowOf (.slice ca2 un2 cc2)++List.range n0))) V3 avR (fun y hy=>by simp[hy]) (fun y hy=>by
     simp only[List.cons_append,bK,aT] at hy ⊢;rcases hy with h|h|h
     ·exact Or.inl (Or.inl h)
     ·exact Or.inr h
     exact Or.inl (Or.inr (Or.inr h))))
    have hlo:∀y∈rowOf (.slice ga ((1+MG+Za)+k) gc),n0<=y:=fun y hy=>(aXb.o.lt y (dK.1 hy)).1
    have mX:=ak (V3.ext gI.o (fun y hy=>by have:=hlo y hy;have:=Dn.o;omega));have aXg:=ak (eF aXf.o V3 (fun q hq hm=>aX7.o q (dK.2 hq) hm));have aJ':=ak (show ∀y∈rowOf (.slice ca2 un2 cc2),y∉rowOf (.slice ga2 ((1+MG+Za)+(k+1)) gc2) from fun y hy hm=>by
     rcases avR y (dK.1 hm) with e|e
     ·exact aX7.o y hy (dK.2 e)
     have:=(aXf.o.lt y (dK.1 hy)).2;omega)
    have a2Q:=ak (show ∀y∈rowOf (.slice ga2 ((1+MG+Za)+(k+1)) gc2),y∈N7\/w8.heap.size<=y from fun y hy=>by
     rcases avR y (dK.1 hy) with e|e
     ·exact HM7.o y (dK.2 e)
     exact Or.inr (bC aYj.o.size e))
    have aKg:=ak (aYj.o.trans V3 (fun y hy=>HM7.o y hy));clear hown V3 avR hlo s0 s1 s2 s3 s4 s5 sf;go_wp2_with fail
    go_roundw
    case rel=>exact⟨k+1,vz++[⟨vn,Q,qv,qa,qm,qc⟩],ga2,gc2,us2,un2,ca2,cc2,by go_num,rfl,rfl,by omega,a1T.o,aUc,aJV.o,aXg.o,aJ'.o,a2Q.o,by rw[show ([c1]++R2++R3)++(T.take (k+1)).map (qF F)=(([c1]++R2++R3)++(T.take k).map (qF F))++[X] by rw[Iq.o,<-List.append_assoc]];exact wY.snoc (a2l.o.mono HKP.o) (aNg.o.mono HKP.o),a3A.o,mX.o,aKg.o⟩
    case measure=>simp[intOf];omega
  have t1:=aj ((k:Int)<(tn:Int));have hkt:k=T.length:=by have:=HTT.o;omega
  have hcr:=Fe.o;have hrs:=Si.o;rw[aY (by omega)] at hcr hrs;have hcl:=aC7 HOC.o hcr HUN.o HX.o;obtain⟨hD,hR⟩:=aYc.o;obtain⟨d1,d2,d3,d4,d5,d6⟩:=D;have HIN:=acR (T.filter (oK V)) ca un cc wo hcl (by omega);rw[HTT.o.1,<-hD] at HIN;unfold Dec.cells at HIN;dsimp only at HIN;rw[HTT.o.1,<-aWJ.o] at hrs;have HIN:=ak HIN;have HRL:=ak hR;have hlen:(1+MG+Za)+k=R.length:=by
   have h:=OO.o;rw[hR,aWJ.o,<-HTT.o.1];simp only[List.length_cons,bI,List.length_map];omega
  have Bg:=ak hlen;have HSS:=ak (show nG (mask wo (List.range n0)) R ga ((1+MG+Za)+k) gc from QC (n0:=n0) HOR.o (bg _) hlen (by rw[hR,show c1::(R2++(R3++R4))=[c1]++R2++R3++R4 by simp];exact hrs) (fun y hy=>by simp only[List.cons_append,bK,aT];exact Or.inr (Or.inr (Or.inr hy))));clear hcr hrs hcl hD hR hlen aYc hkt;go_wp2_with fail
  refine HIN.o.mono ?_;rintro r w12 ⟨rfl,AB⟩;have afR:=ak (HX.o.trans AB);have aia:=ak (AB.blk HR.o);have SI:=ak (HSS.o.mono (fA (AB.fH []) (by simp)));clear AB HSS HX HR HB;obtain⟨q0,q1,q2,q3,q4,q5,q6,qf⟩:=qj aia.o;have HF:=ak (show aAJ ⟨d1,d2,d3,d4,d5,d6⟩ R w (.returned (.agg #[.int .i64 d1,.int .i64 d2,.int .i64 d3,.int .i64 d4,.int .i64 d5,.bool d6,.slice ga ((1+MG+Za)+k) gc])) (qG w12 (b2+1) (.int .i64 d1) (.int .i64 d2) (.int .i64 d3) (.int .i64 d4) (.int .i64 d5) (.bool d6) (.slice ga ((1+MG+Za)+k) gc))/\(qG w12 (b2+1) (.int .i64 d1) (.int .i64 d2) (.int .i64 d3) (.int .i64 d4) (.int .i64 d5) (.bool d6) (.slice ga ((1+MG+Za)+k) gc)).heap[b2+1]?=some (.cells #[.int .i64 d1,.int .i64 d2,.int .i64 d3,.int .i64 d4,.int .i64 d5,.bool d6,.slice ga ((1+MG+Za)+k) gc] 57 (0,0)) from
   ⟨aiO (D:=⟨d1,d2,d3,d4,d5,d6⟩) ((SI.o).mono (fA (vg w12 (b2+1)) (fun y hy=>Or.inl (by rw[aK.1 hy];have:=Dn.o;simp;omega)))) Bg.o (by have:=Dn.o;omega) ((vg w12 (b2+1)).ext (fE.o.trans afR.o) (fun y hy=>by rw[aK.1 hy];have:=Dn.o;omega)),zA aia.o⟩)
  go_wp2_with fail
  obtain⟨wz,hwz⟩:∃wz,wz=qG w12 (b2+1) (.int .i64 d1) (.int .i64 d2) (.int .i64 d3) (.int .i64 d4) (.int .i64 d5) (.bool d6) (.slice ga ((1+MG+Za)+k) gc):=⟨_,rfl⟩
  rw[<-hwz] at HF;unfold qG at hwz;rw[<-hwz];clear hwz q0 q1 q2 q3 q4 q5 q6 qf;obtain⟨q0,q1,q2,q3,q4,q5,q6,qf⟩:=qj HF.o.2;refine bodyPost_ret (v:=.agg #[.int .i64 d1,.int .i64 d2,.int .i64 d3,.int .i64 d4,.int .i64 d5,.bool d6,.slice ga ((1+MG+Za)+k) gc]) (by simp[results,Tryz.results44,go_sem,q0,q1,q2,q3,q4,q5,q6]) rfl ?_;exact HF.o.1
noncomputable def aaU (s:List Attr) (l:List dY) (f:ZI):List Rs:=open Classical in if nI s l f=0 then aly (pf s l f) l else []
def aBY (s:List Attr) (l:List dY) (f:ZI) (w:World) (e:Ending) (w':World):Prop:=∃a n c,e=.returned (.tuple #[.agg #[.int .i64 (qN s l f).ver,.int .i64 (qN s l f).lim,.int .i64 (qN s l f).Qg,.int .i64 (qN s l f).Qd,.int .i64 (qN s l f).Pq,.bool (qN s l f).avg,.slice a n c],.int .i64 (nI s l f)])/\nG (mask w' (List.range w.heap.size)) (aaU s l f) a n c/\Ext w w'
theorem alT (s:List Attr) (l:List dY) (f:ZI) (sv:Value) (a:OA) (n c:Nat) (fa:OA) (fn fc:Nat) (w:World) (hs:fJ w s sv) (hf:∀x∈s,x.fits) (hsl:s.length<=1000000000000000) (hl:eX w l a n c) (hn:n<=1000000) (hok:∀x∈l,x.fit) (hi:fO w f fa fn) (hfn:fn<=1000000000000000) (ho:gG w) :
  Calls Tryz.prog 20 #[sv,.slice a n c,.slice fa fn fc] w (aBY s l f w):=by
 obtain⟨sa,sn,sc,rfl,hsn⟩:=hs.slice;have vP:=ak (fun W (hW:Ext w W)=>aa4 s l f _ a n c fa fn fc W (hs.ext hW) hf hsl (hl.ext hW) hn hok (hi.ext hW) hfn (ho.ext hW));obtain⟨E,hE⟩:∃E,E=nI s l f:=⟨_,rfl⟩
 obtain⟨D,hD⟩:∃D,D=qN s l f:=⟨_,rfl⟩
 obtain⟨R,hR⟩:∃R,R=aaU s l f:=⟨_,rfl⟩
 unfold aBY;rw[<-hE,<-hD,<-hR];have HEX:=ak (fun (h0:E=0) (lv:jH) W (hW:Ext w W) (h:Hz W s l f lv n)=>show Calls Tryz.prog 44 #[lv.val,.slice a n c] W (aAJ D R W) from by
  rw[hE] at h0;have hd:D=Y8 (val s l f) l:=by rw[hD];unfold qN;rw[dw h0]
  have hr:R=aly (pf s l f) l:=by rw[hR];unfold aaU;rw[dw h0]
  rw[hd,hr];exact alM a n c W ⟨h,(zB h0).1,(zB h0).2,hf,hok,by have h1:=h.ints.1;have h2:=hi.1;omega,ho.ext hW⟩ (hl.ext hW) hn)
 have HRZ:=ak (show E≠0->D=⟨0,0,0,0,0,false⟩/\R=[] from fun h=>by rw[hE] at h;rw[hD,hR];unfold qN aaU;rw[dh h,dh h];exact⟨rfl,rfl⟩);unfold aB0 at vP;rw[<-hE] at vP;clear hs hf hsl hl hn hok hi hfn ho hsn hE hD hR;obtain⟨wa,dW⟩:∃wa,wa=(w.alloc (.cells #[.slice sa sn sc] 24)).alloc (.cells #[.int .i64 0,.int .i64 0,.int .i64 0,.int .i64 0,.int .i64 0,.bool false,.slice none 0 0] 57):=⟨_,rfl⟩
 have fE:=ak (show Ext w wa by rw[dW];exact((Ext.refl _).alloc _).alloc _);have HA:=ak (show wa.heap[w.heap.size+1]?=some (.cells #[.int .i64 0,.int .i64 0,.int .i64 0,.int .i64 0,.int .i64 0,.bool false,.slice none 0 0] 57 (0,0)) by rw[dW];exact eH (by simp));obtain⟨s0,sf⟩:=gQ (show wa.heap[w.heap.size]?=some (.cells #[.slice sa sn sc] 24 (0,0)) by rw[dW];exact dJ (dG w _));go_enter Tryz.func20,Tryz.ntmps20
 go_upto_region 1 with fail
 rw[<-dW];clear dW;obtain⟨bd,hbd⟩:∃bd,bd=w.heap.size+1:=⟨_,rfl⟩
 rw[<-hbd] at HA ⊢;have HLO:=ak (show w.heap.size<=bd by omega);clear hbd;go_wp2_with fail
 refine(vP.o wa fE.o).mono ?_;rintro r w1 ⟨hx1,hr⟩;have fQ:=ak (fE.o.trans hx1);have HB:=ak (hx1.blk HA.o);clear hx1 HA fE vP s0 sf;rcases hr with ⟨h1,rfl⟩|⟨h1,lo,rfl,hlo1⟩
 ·have t1:(E != 0)=true:=by simp[h1]
  obtain⟨rfl,rfl⟩:=HRZ.o h1;obtain⟨w2,hw2⟩:∃w2,w2=w1.alloc (.cells #[.slice none 0 0,.map none,.slice none 0 0] 74):=⟨_,rfl⟩
  have gI:=ak (show Ext w w2 by rw[hw2];exact fQ.o.alloc _);have aFb:=ak (show w2.heap[bd]?=some (.cells #[.int .i64 0,.int .i64 0,.int .i64 0,.int .i64 0,.int .i64 0,.bool false,.slice none 0 0] 57 (0,0)) by rw[hw2];exact dJ HB.o);unfold uz;clear h1;go_upto_region 2 with fail
  rw[<-hw2];clear hw2 fQ HB;obtain⟨q0,q1,q2,q3,q4,q5,q6,qf⟩:=qj aFb.o;have HF:=ak (show (qG w2 bd (.int .i64 0) (.int .i64 0) (.int .i64 0) (.int .i64 0) (.int .i64 0) (.bool false) (.slice none 0 0)).heap[bd]?=some (.cells #[.int .i64 0,.int .i64 0,.int .i64 0,.int .i64 0,.int .i64 0,.bool false,.slice none 0 0] 57 (0,0))/\dO [bd] w2 (qG w2 bd (.int .i64 0) (.int .i64 0) (.int .i64 0) (.int .i64 0) (.int .i64 0) (.bool false) (.slice none 0 0)) from⟨zA aFb.o,vg w2 bd⟩);go_wp2_with fail
  obtain⟨wz,hwz⟩:∃wz,wz=qG w2 bd (.int .i64 0) (.int .i64 0) (.int .i64 0) (.int .i64 0) (.int .i64 0) (.bool false) (.slice none 0 0):=⟨_,rfl⟩
  rw[<-hwz] at HF;unfold qG at hwz;rw[<-hwz];clear hwz q0 q1 q2 q3 q4 q5 q6 qf;obtain⟨q0,q1,q2,q3,q4,q5,q6,qf⟩:=qj HF.o.1;refine bodyPost_ret (v:=.tuple #[.agg #[.int .i64 0,.int .i64 0,.int .i64 0,.int .i64 0,.int .i64 0,.bool false,.slice none 0 0],.int .i64 E]) (by simp[results,Tryz.results20,go_sem,q0,q1,q2,q3,q4,q5,q6]) rfl ?_;exact⟨none,0,0,rfl,XF _,HF.o.2.ext gI.o (fun y hy=>by rw[aK.1 hy];exact HLO.o)⟩
 subst h1;have aXt:=ak hlo1;have aXW:=ak (fun W (hW:Ext w W) (h:Hz W s l f lo n)=>HEX.o rfl lo W hW h);unfold jH.val at aXW;unfold jH.val;clear hlo1 HEX HRZ;obtain⟨w2,hw2⟩:∃w2,w2=w1.alloc (.cells #[.slice lo.sa lo.sn lo.sc,.map (some lo.bm),.slice lo.fa lo.fn lo.fc] 74):=⟨_,rfl⟩
 have hx2:Ext w1 w2:=by rw[hw2];exact(Ext.refl _).alloc _
 have gI:=ak (fQ.o.trans hx2);have HB2:=ak (hx2.blk HB.o);have HL2:=ak (aXt.o.ext hx2);obtain⟨x0,x1,x2,xf⟩:=fZ (show w2.heap[w1.heap.size]?=some (.cells #[.slice lo.sa lo.sn lo.sc,.map (some lo.bm),.slice lo.fa lo.fn lo.fc] 74 (0,0)) by rw[hw2];exact dG w1 _);go_upto_region 2 with fail
 rw[<-hw2];clear hw2 fQ HB hx2 aXt;obtain⟨d1,d2,d3,d4,d5,d6⟩:=D;go_wp2_with fail
 refine(aXW.o w2 gI.o HL2.o).mono ?_;rintro r w3 ⟨ra,rc,rfl,hrs,hx3⟩;dsimp only;have aKk:=ak (hx3.blk HB2.o);have gU:=ak (gI.o.trans hx3);have Si:=ak (show nG (mask w3 (List.range (bd+1))) R ra R.length rc from hrs.mono (eG _ (fun y hy=>by have:=dH HB2.o;rw[List.mem_range] at hy ⊢;omega)));obtain⟨rn,hrn⟩:∃rn,rn=R.length:=⟨_,rfl⟩
 rw[<-hrn] at Si ⊢;clear hrs hx3 HB2 gI HL2 hrn x0 x1 x2 xf;obtain⟨q0,q1,q2,q3,q4,q5,q6,qf⟩:=qj aKk.o;have HF:=ak (show (qG w3 bd (.int .i64 d1) (.int .i64 d2) (.int .i64 d3) (.int .i64 d4) (.int .i64 d5) (.bool d6) (.slice ra rn rc)).heap[bd]?=some (.cells #[.int .i64 d1,.int .i64 d2,.int .i64 d3,.int .i64 d4,.int .i64 d5,.bool d6,.slice ra rn rc] 57 (0,0))/\dO [bd] w3 (qG w3 bd (.int .i64 d1) (.int .i64 d2) (.int .i64 d3) (.int .i64 d4) (.int .i64 d5) (.bool d6) (.slice ra rn rc)) from⟨zA aKk.o,vg w3 bd⟩);go_wp2_with fail
 obtain⟨wz,hwz⟩:∃wz,wz=qG w3 bd (.int .i64 d1) (.int .i64 d2) (.int .i64 d3) (.int .i64 d4) (.int .i64 d5) (.bool d6) (.slice ra rn rc):=⟨_,rfl⟩
 rw[<-hwz] at HF;unfold qG at hwz;rw[<-hwz];clear hwz q0 q1 q2 q3 q4 q5 q6 qf;obtain⟨q0,q1,q2,q3,q4,q5,q6,qf⟩:=qj HF.o.1;refine bodyPost_ret (v:=.tuple #[.agg #[.int .i64 d1,.int .i64 d2,.int .i64 d3,.int .i64 d4,.int .i64 d5,.bool d6,.slice ra rn rc],.int .i64 0]) (by simp[results,Tryz.results20,go_sem,q0,q1,q2,q3,q4,q5,q6]) rfl ?_;exact⟨ra,rn,rc,rfl,(Si.o.mono (fA HF.o.2 (fun y hy=>Or.inl (by rw[aK.1 hy];simp)))).mono (eG _ (fun y hy=>by have:=HLO.o;rw[List.mem_range] at hy ⊢;omega)),HF.o.2.ext gU.o (fun y hy=>by rw[aK.1 hy];exact HLO.o)⟩
end Go.Proofs.YtefjomofjejklaaGreatDoor
