/-
  Texts of the claim, joined: DEx0, PrArg, Prv2, DPr0, RPf0, RPfF, RPfD, RPfN.
-/
import Derived.Test.YtefjomofjejklaaGreatDoorDx23
import Derived.SliceStrings
namespace Go.Proofs.YtefjomofjejklaaGreatDoor
set_option maxRecDepth 100000
set_option maxHeartbeats 32000000
open Go.RowKit Go.Maps
def Ut (base:Nat) (W W':World):Prop:=∃N,dO N W W'/\∀k∈N,base<=k/\∀cs t,W.heap[k]?=some (.cells cs t (0,0))->cs.size=6->∃cs',W'.heap[k]?=some (.cells cs' t (0,0))/\cs'.size=6
theorem Ut.refl (base:Nat) (W:World):Ut base W W:=⟨[],dO.refl _ _,fun k hk=>by simp at hk⟩
theorem Ut.of {base:Nat} {W W':World} (h:Ext W W'):Ut base W W':=⟨[],h.fH [],fun k hk=>by simp at hk⟩
theorem Ut.ext {w W W':World} (h:Ext w W) (he:Ut w.heap.size W W'):Ext w W':=by
 obtain⟨N,hc,hN⟩:=he;exact hc.ext h fun y hy=>(hN y hy).1
theorem Ut.shape {base:Nat} {W W':World} (h:Ut base W W') {g:Nat} {cs:Array Value} {t:TypeId} (hg:W.heap[g]?=some (.cells cs t (0,0))) (h6:cs.size=6):∃cs',W'.heap[g]?=some (.cells cs' t (0,0))/\cs'.size=6:=by
 obtain⟨N,hc,hN⟩:=h;by_cases hm:g∈N
 ·exact(hN g hm).2 cs t hg h6
 exact⟨cs,hc.blk hg hm,h6⟩
theorem Ut.size {base:Nat} {W W':World} (h:Ut base W W'):W.heap.size<=W'.heap.size:=by
 obtain⟨N,hc,_⟩:=h;exact hc.size
theorem ap1 {c:Array Value} (h:c.size=6):∃v0 v1 v2 v3 v4 v5,c=#[v0,v1,v2,v3,v4,v5]:=by
 obtain⟨l⟩:=c
 match l,h with
 | [v0,v1,v2,v3,v4,v5],_=>exact⟨v0,v1,v2,v3,v4,v5,rfl⟩
theorem Vp {W:World} {K K':ZN} {g:Nat} (hK:∀y∈K',y∈K) (hg:g∈K\/W.heap.size<=g):Sub (mask W K) (mask W (g::K')):=fun p v hp=>by
 rw[iH] at hp ⊢;by_cases h:p.block∈K
 ·rw[dw h] at hp;cases hp
 rw[dh h] at hp;have hl:=block_lt hp;rw[dh fun hm=>?_]
 ·exact hp
 rcases bK.1 hm with e|e
 ·rcases hg with hg|hg
  ·exact h (by rw[e];exact hg)
  omega
 exact h (hK _ e)
theorem ayf {W:World} {K K':ZN} (h:∀y∈K',y∈K\/W.heap.size<=y):Sub (mask W K) (mask W K'):=fun p v hp=>by
 rw[iH] at hp ⊢;by_cases hk:p.block∈K
 ·rw[dw hk] at hp;cases hp
 rw[dh hk] at hp;have hl:=block_lt hp;rw[dh fun hm=>(h _ hm).elim hk (fun e=>by omega)];exact hp
def an9 (FD:Option Rs) (K:ZN) (x:pO×Bool×Nat×Nat) (W:World):Prop:=(x.2.1=false/\FD=none)\/(x.2.1=true/\∃r,FD=some r/\∀g,(g<x.2.2.1\/x.2.2.2<=g)->yP (mask W (g::K)) r x.1)
theorem an9.ext {FD:Option Rs} {K:ZN} {x:pO×Bool×Nat×Nat} {W W':World} (h:an9 FD K x W) (hx:Ext W W'):an9 FD K x W':=by
 rcases h with h|⟨h1,r,h2,h3⟩
 ·exact Or.inl h
 exact Or.inr ⟨h1,r,h2,fun g hg=>(h3 g hg).mono (fA (hx.fH []) (by simp))⟩
def amG (FD:Option Rs) (K:ZN) (q:Bool) (v:pO) (W:World):Prop:=(q=false/\FD=none)\/(q=true/\∃r,FD=some r/\yP (mask W K) r v)
theorem amG.ext {FD:Option Rs} {K:ZN} {q:Bool} {v:pO} {W W':World} (h:amG FD K q v W) (hx:Ext W W'):amG FD K q v W':=by
 rcases h with h|⟨h1,r,h2,h3⟩
 ·exact Or.inl h
 exact Or.inr ⟨h1,r,h2,h3.mono (fA (hx.fH []) (by simp))⟩
theorem amG.yes {FD:Option Rs} {K:ZN} {v:pO} {W:World} (h:amG FD K true v W):∃r,FD=some r/\yP (mask W K) r v:=by
 rcases h with ⟨h,_⟩|⟨_,h⟩
 ·cases h
 exact h
theorem amG.no {FD:Option Rs} {K:ZN} {v:pO} {W:World} (h:amG FD K false v W):FD=none:=by
 rcases h with ⟨_,h⟩|⟨h,_⟩
 ·exact h
 cases h
theorem an9.box {FD:Option Rs} {K:ZN} {g:Nat} {x:pO×Bool×Nat×Nat} {W W':World} (h:an9 FD K x W) (hg:g<x.2.2.1\/x.2.2.2<=g) (hc:dO [g] W W'):amG FD K x.2.1 x.1 W':=by
 rcases h with h|⟨h1,r,h2,h3⟩
 ·exact Or.inl h
 exact Or.inr ⟨h1,r,h2,((h3 g hg).mono (fA hc (fun y hy=>Or.inl (by simp at hy;simp[hy])))).mono (eG _ (fun y hy=>bH _ hy))⟩
theorem aMp {R:List Rs} {b:Bool} {W W':World} {e:Ending} {K:ZN} (h:aYY R b W e W') (hn:∀y∈K,y<W.heap.size):∃x:pO×Bool×Nat×Nat,e=.returned (.tuple #[.agg #[.string x.1.name,.bool x.1.applies,.bool x.1.p.value,.int .i64 x.1.p.pick,.slice x.1.p.a x.1.p.n x.1.p.c,.slice x.1.a x.1.n x.1.c],.bool x.2.1])/\Ext W W'/\an9 (R.find? fun r=>r.applies==b) K x W'/\∀g,(g<W.heap.size\/W'.heap.size<=g)->(g<x.2.2.1\/x.2.2.2<=g):=by
 obtain⟨hx,⟨h1,h2⟩|⟨r,v,h1,h2,h3⟩⟩:=h
 ·exact⟨(⟨⟨#[]⟩,false,⟨false,0,none,0,0⟩,none,0,0⟩,false,W.heap.size,W'.heap.size),h2,hx,Or.inl ⟨rfl,h1⟩,fun g hg=>hg⟩
 exact⟨(v,true,W.heap.size,W'.heap.size),h2,hx,Or.inr ⟨rfl,r,h1,fun g hg=>h3.mono (Vp (fun y hy=>List.mem_range.2 (hn y hy)) (hg.imp (fun h=>by simpa using h) id))⟩,fun g hg=>hg⟩
theorem wY.append {w:World} {l l':List Rs} {vs vs':List pO} (h:wY w l vs) (h':wY w l' vs'):wY w (l++l') (vs++vs'):=by
 refine⟨by simp[h.1,h'.1],fun i h1 h2=>?_⟩;by_cases hi:i<l.length
 ·have hi2:i<vs.length:=by rw[<-h.1];exact hi
  simp only[bT hi,bT hi2];exact h.2 i hi hi2
 have hi2:¬i<vs.length:=by rw[<-h.1];exact hi
 rw[cZ (by omega),cZ (by omega)];simp only[h.1];exact h'.2 (i - vs.length) (by have:=h.1;simp at h1;omega) (by simp at h2;omega)
theorem ayv {w:World} {b off n c:Nat} {vs:List pO} (h:iF w 6 pO.cells vs (some ⟨b,off,none⟩) n c):∀j (hj:j<(vs.flatMap pO.cells).length),w.cell? ⟨b,off+j,none⟩=some (vs.flatMap pO.cells)[j]:=by
 intro j hj;have hl:=iD pO.cells 6 (fun _=>rfl) vs;have hi:j / 6<vs.length:=by omega
 have hr:j % 6<(vs[j / 6]).cells.length:=by have:(vs[j / 6]).cells.length=6:=rfl;omega
 obtain⟨b',off',e,hc⟩:=h.2.2.2 (j / 6) hi;simp only[Option.some.injEq,Addr.mk.injEq,and_true] at e;obtain⟨rfl,rfl⟩:=e;have h1:=hc (j % 6) hr;have h2:=kJ pO.cells 6 (fun _=>rfl) vs (j / 6) hi (j % 6) hr;have e1:j / 6*6+j % 6=j:=by omega
 rw[e1,aZ hj] at h2;rw[Nat.add_assoc,e1] at h1;rw[h1,<-h2]
theorem V6 {ρ:Operand->Value} {W:World} {T:Value->World->Prop} {dst:Option Tmp} {ty:TypeId} {pos:String} {after:Array Edge} {guard:Option (Nat×Bool)}
  (s x:Operand) (base n:Nat) (a0:OA) (c0:Nat) (vs us:List pO) (hs:ρ s=.slice a0 n c0) (a:OA) (m c:Nat) (hx:ρ x=.slice a m c) (hn:n+m<=100000000)
  (hown:W.ownsRow base 69 6 (.slice a0 n c0) n (vs.flatMap pO.cells)) (hr:iF W 6 pO.cells us a m c) (hbase:base<=W.heap.size)
  (h:∀a' c' w',w'.ownsRow base 69 6 (.slice a' (n+m) c') (n+m) ((vs++us).flatMap pO.cells)->dO (rowOf (.slice a0 n c0)) W w'->(∀k,(Value.slice a' (n+m) c').ownBlock=some k->(Value.slice a0 n c0).ownBlock=some k\/W.heap.size<=k)->T (.slice a' (n+m) c') w') :
  dF Tryz.prog { dst:=dst,op:=.call { callee:=.builtin .append,args:=#[s,x],argTypes:=#[55,55] },type:=ty,pos:=pos,after:=after,guard:=guard } ρ W T:=by
 have hmu:m=us.length:=hr.1;by_cases hm:m=0
 ·subst hm;obtain rfl:us=[]:=aX hmu.symm;obtain⟨i,hi,hz,hsz,hby⟩:=info_parts X3.info;have hnc:n<=c0:=by
   rcases hown.2 with ⟨e,e2⟩|⟨g,cap,cur,e,_,_,hnc,_⟩
   ·cases e;exact bg _
   cases e;exact hnc
  have hrun:=Ob (P:=Tryz.prog) W 55 ty 69 i X3.ht hi a0 n c0 hnc a c;unfold dF;have he:execOp ρ { dst:=dst,op:=.call { callee:=.builtin .append,args:=#[s,x],argTypes:=#[55,55] },type:=ty,pos:=pos,after:=after,guard:=guard }=(do pure (.value (<-Builtin.append_ #[55,55] ty #[.slice a0 n c0,.slice a 0 c]))):=by
   rw[<-hs,<-hx,BigFrame.execOp_builtin,BigFrame.builtin_append];simp
  rw[he];simp only[Sem.run_bind,hrun];exact h a0 c0 W (by simpa using hown) (dO.refl _ _) fun k hk=>Or.inl hk
 have hlen:=iD pO.cells 6 (fun _=>rfl) us;obtain⟨b,off,rfl,-⟩:=hr.2.2.2 0 (by omega);refine sG X3 s x base _ n _ hs b off m c (us.flatMap pO.cells) hx (by rw[hlen,hmu]) (aPe us) (by omega) hn (by omega) hown (ayv hr) hbase ?_;intro g cap w' ho hg hw _;refine h (some ⟨g,0,none⟩) cap w' (by simpa using ho) (iM hg) fun k hk=>?_
 simp only[Value.ownBlock,Option.some.injEq] at hk;subst hk;exact hw.imp id fun e=>by omega
def qG (w:World) (B:Nat) (v0 v1 v2 v3 v4 v5 v6:Value):World:=((((((w.setCell ⟨B,0,none⟩ v0).setCell ⟨B,1,none⟩ v1).setCell ⟨B,2,none⟩ v2).setCell ⟨B,3,none⟩ v3).setCell ⟨B,4,none⟩ v4).setCell ⟨B,5,none⟩ v5).setCell ⟨B,6,none⟩ v6
theorem zA {w:World} {B:Nat} {u0 u1 u2 u3 u4 u5 u6 v0 v1 v2 v3 v4 v5 v6:Value} {t:TypeId} (h:w.heap[B]?=some (.cells #[u0,u1,u2,u3,u4,u5,u6] t (0,0))):(qG w B v0 v1 v2 v3 v4 v5 v6).heap[B]?=some (.cells #[v0,v1,v2,v3,v4,v5,v6] t (0,0)):=by
 unfold qG;rw[aO _ _ _ _ _ _ (aO _ _ _ _ _ _ (aO _ _ _ _ _ _ (aO _ _ _ _ _ _ (aO _ _ _ _ _ _ (aO _ _ _ _ _ _ (aO _ _ _ _ _ _ h))))))];simp
theorem vg (w:World) (B:Nat) {v0 v1 v2 v3 v4 v5 v6:Value}:dO [B] w (qG w B v0 v1 v2 v3 v4 v5 v6):=by
 unfold qG
 repeat (with_reducible (refine dO.setCell ?_ ?_ _))
 exact dO.refl _ _
 all_goals exact Or.inl (by simp)
theorem qj {w:World} {b:Nat} {v0 v1 v2 v3 v4 v5 v6:Value} {t:TypeId} (h:w.heap[b]?=some (.cells #[v0,v1,v2,v3,v4,v5,v6] t (0,0))) :
  w.cell? ⟨b,0,none⟩=some v0/\w.cell? ⟨b,1,none⟩=some v1/\w.cell? ⟨b,2,none⟩=some v2/\w.cell? ⟨b,3,none⟩=some v3/\w.cell? ⟨b,4,none⟩=some v4/\w.cell? ⟨b,5,none⟩=some v5/\w.cell? ⟨b,6,none⟩=some v6/\(∀o,w.frozen? ⟨b,o,none⟩=false) :=
 ⟨dM h 0,dM h 1,dM h 2,dM h 3,dM h 4,dM h 5,dM h 6,fun o=>jS h o⟩
theorem aaq {W:World} {g base:Nat} {v:pO} (h:W.heap[g]?=some (.cells v.cells.toArray 69 (0,0))) (hg:base<=g):W.ownsRow base 69 6 (.slice (some ⟨g,0,none⟩) 1 1) 1 ([v].flatMap pO.cells) :=
 ⟨rfl,Or.inr ⟨g,1,v.cells.toArray,rfl,hg,h,bg _,by unfold maxLen;omega,rfl,by simp[pO.cells]⟩⟩
theorem LK (vd:Int) (a:OA) (n c:Nat) (w:World):Calls Tryz.prog 70 #[.int .i64 vd,.slice a n c] w (dN (.agg #[.int .i64 vd,.int .i64 0,.int .i64 0,.int .i64 0,.int .i64 0,.bool false,.slice a n c]) w):=by
 obtain⟨wa,dW⟩:∃wa,wa=w.alloc (.cells #[.int .i64 0,.int .i64 0,.int .i64 0,.int .i64 0,.int .i64 0,.bool false,.slice none 0 0] 57):=⟨_,rfl⟩
 have fE:=ak (show Ext w wa by rw[dW];exact(Ext.refl _).alloc _);have HA:=ak (show wa.heap[w.heap.size]?=some (.cells #[.int .i64 0,.int .i64 0,.int .i64 0,.int .i64 0,.int .i64 0,.bool false,.slice none 0 0] 57 (0,0)) by rw[dW];exact dG w _);obtain⟨q0,q1,q2,q3,q4,q5,q6,qf⟩:=qj HA.o;go_enter Tryz.func70,Tryz.ntmps70
 go_upto_region 1 with fail
 rw[<-dW];clear dW;go_wp2_with fail
 obtain⟨wz,hwz⟩:∃wz,wz=qG wa w.heap.size (.int .i64 vd) (.int .i64 0) (.int .i64 0) (.int .i64 0) (.int .i64 0) (.bool false) (.slice a n c):=⟨_,rfl⟩
 have HZ:=ak (show wz.heap[w.heap.size]?=some (.cells #[.int .i64 vd,.int .i64 0,.int .i64 0,.int .i64 0,.int .i64 0,.bool false,.slice a n c] 57 (0,0))/\Ext w wz by rw[hwz];exact⟨zA HA.o,(vg wa w.heap.size).ext fE.o (fun y hy=>by rw[aK.1 hy];exact bg _)⟩);unfold qG at hwz;rw[<-hwz];clear hwz q0 q1 q2 q3 q4 q5 q6 qf;obtain⟨q0,q1,q2,q3,q4,q5,q6,qf⟩:=qj HZ.o.1;refine bodyPost_ret (v:=.agg #[.int .i64 vd,.int .i64 0,.int .i64 0,.int .i64 0,.int .i64 0,.bool false,.slice a n c]) (by simp[results,Tryz.results70,go_sem,q0,q1,q2,q3,q4,q5,q6]) rfl ?_;exact⟨rfl,HZ.o.2⟩
theorem ak1 {W w2:World} {v v':Value} {K K':ZN} (hc:dO (rowOf v) W w2) (hg:∀k,v'.ownBlock=some k->v.ownBlock=some k\/W.heap.size<=k) (h1:∀y∈rowOf v,y∈K) (h2:∀y∈K',y∈K\/y∈rowOf v'):Sub (mask W K) (mask w2 K') :=
 dX fun k hk hn=>⟨fun hm=>by
  rcases h2 k hm with h|h
  ·exact hn h
  rcases hg k (dK.1 h) with e|e
  ·exact hn (h1 k (dK.2 e))
  omega,hc.block k hk fun hm=>hn (h1 k hm)⟩
theorem aC7 {w W:World} {base n:Nat} {a:OA} {c:Nat} {l:List dY} {vs:List jm} (ho:W.ownsRow base 48 10 (.slice a n c) n (vs.flatMap jm.cells)) (hR:Dp w l vs) (hn:n=vs.length) (hx:Ext w W):eX W l a n c:=by
 have hn2:n=l.length:=by rw[hn,hR.1]
 subst hn2;obtain⟨a',c',e,h⟩:=Dz (M:=[]) ho (by simp) (hR.mono (hx.sub.trans (Iw _)));simp only[Value.slice.injEq,true_and] at e;obtain⟨rfl,rfl⟩:=e;exact h.mono (dU _ _)
def ExI (V:Ex->Bool) (F:Ex->Pr) (T:List dY) (L0:List Rs) (K0 tn n0 b4:Nat) (N7:ZN) (w1 w8:World) (v7 v12 i:Value) (wr:World):Prop:=∃(k:Nat) (vs:List pO) (ga:OA) (gc:Nat) (us:List jm) (un:Nat) (ca:OA) (cc:Nat),i=.int .i64 k/\v7=.slice ga (K0+k) gc/\v12=.slice ca un cc/\k<=tn/\un=us.length/\un<=k /\
 wr.ownsRow n0 69 6 (.slice ga (K0+k) gc) (K0+k) (vs.flatMap pO.cells)/\wr.ownsRow w8.heap.size 48 10 (.slice ca un cc) un (us.flatMap jm.cells)/\(∀y∈rowOf (.slice ca un cc),y∉rowOf (.slice ga (K0+k) gc))/\(∀y∈rowOf (.slice ga (K0+k) gc),y∈N7\/w8.heap.size<=y) /\
 wY (mask wr (b4::rowOf (.slice ga (K0+k) gc)++(rowOf (.slice ca un cc)++List.range n0))) (L0++(T.take k).map (qF F)) vs/\Dp w1 ((T.take k).filter (oK V)) us/\Ext w1 wr/\dO N7 w8 wr
def aAJ (D:Dec) (R:List Rs) (w:World) (e:Ending) (w':World):Prop:=∃a c,e=.returned (.agg #[.int .i64 D.ver,.int .i64 D.lim,.int .i64 D.Qg,.int .i64 D.Qd,.int .i64 D.Pq,.bool D.avg,.slice a R.length c])/\nG (mask w' (List.range w.heap.size)) R a R.length c/\Ext w w'
def aly (F:Ex->Pr) (l:List dY):List Rs:=match ((wJ [2] l).map (qF F)).find? (fun r=>r.applies==true) with
 | none=>(wJ [2] l).map (qF F)
 | some c=>match ((wJ [4] l).map (qF F)).find? (fun r=>r.applies==false) with
  | some b=>[c,b]
  | none=>match ((wJ [3] l).map (qF F)).find? (fun r=>r.applies==true) with
   | some x=>c::((wJ [4] l).map (qF F)++[x])
   | none=>c::((wJ [4] l).map (qF F)++((wJ [3] l).map (qF F)++(wJ vF l).map (qF F)))
theorem aiO {w0 W:World} {n0:Nat} {D:Dec} {R:List Rs} {a:OA} {n c:Nat} (hr:nG (mask W (List.range n0)) R a n c) (hn:n=R.length) (h0:w0.heap.size<=n0) (hx:Ext w0 W):aAJ D R w0 (.returned (.agg #[.int .i64 D.ver,.int .i64 D.lim,.int .i64 D.Qg,.int .i64 D.Qd,.int .i64 D.Pq,.bool D.avg,.slice a n c])) W:=by
 subst hn;exact⟨a,c,rfl,hr.mono (eG _ (fun y hy=>by rw[List.mem_range] at hy ⊢;omega)),hx⟩
theorem QC {W:World} {K:ZN} {n0 n:Nat} {base:Nat} {a:OA} {c:Nat} {L:List Rs} {vs:List pO} (ho:W.ownsRow base 69 6 (.slice a n c) n (vs.flatMap pO.cells)) (hb:n0<=base) (hn:n=L.length) (hr:wY (mask W K) L vs) (hK:∀y∈List.range n0,y∈K):nG (mask W (List.range n0)) L a n c :=
 ZW ho hn (fun q hq hm=>by have:=(ho.lt q hq).1;rw[List.mem_range] at hm;omega) (hr.mono (eG _ hK))
structure aS1 (s:List Attr) (l:List dY) (f:ZI) (lo:jH) (ks:ZI) (fid:FuncId) (a:OA) (nl c:Nat) (w:World) (IC:World->OA->Nat->Nat->Prop):Prop where
 of:∀W,Ext w W->Calls Tryz.prog fid #[.slice a nl c] W (fun r wz=>∃a n c,r=.returned (.slice a n c)/\IC wz a n c/\Ext W wz)
 ext:∀a n c W W',Ext W W'->IC W a n c->IC W' a n c
 fir:∀W,Ext w W->∀K,(∀y∈K,y<W.heap.size)->∀a n c ap,IC W a n c->Calls Tryz.prog 69 #[.agg #[.slice lo.sa lo.sn lo.sc,.map (some lo.bm),.slice lo.fa lo.fn lo.fc],.slice a n c,.bool ap] W (fun e W'=>∃x:pO×Bool×Nat×Nat,e=.returned (.tuple #[.agg #[.string x.1.name,.bool x.1.applies,.bool x.1.p.value,.int .i64 x.1.p.pick,.slice x.1.p.a x.1.p.n x.1.p.c,.slice x.1.a x.1.n x.1.c],.bool x.2.1])/\Ext W W'/\an9 (((wJ ks l).map (qF (pf s l f))).find? fun r=>r.applies==ap) K x W'/\∀g,(g<W.heap.size\/W'.heap.size<=g)->(g<x.2.2.1\/x.2.2.2<=g))
 rea:∀W,Ext w W->∀a n c,IC W a n c->Calls Tryz.prog 71 #[.agg #[.slice lo.sa lo.sn lo.sc,.map (some lo.bm),.slice lo.fa lo.fn lo.fc],.slice a n c] W (fun e W'=>∃a c,e=.returned (.slice a (wJ ks l).length c)/\nG (mask W' (List.range W.heap.size)) ((wJ ks l).map (qF (pf s l f))) a (wJ ks l).length c/\Ext W W')
 cls:∀W a n c,IC W a n c->eX W (wJ ks l) a n c
theorem azO {s:List Attr} {l:List dY} {f:ZI} {lo:jH} {m:Nat} {ks:ZI} {fid:FuncId} {a:OA} {nl c:Nat} {w:World} (h:DIn w s l f lo m) (hl:l.length<=1000000) (hof:∀W,Ext w W->Calls Tryz.prog fid #[.slice a nl c] W (OfQ ks l W)):∃IC,aS1 s l f lo ks fid a nl c w IC:=by
 have hle:(wJ ks l).length<=l.length:=by unfold wJ;exact List.length_filter_le _ _
 have hpd:∀x∈wJ ks l,PdR s l x:=fun x hx=>aGH h.ok h.Ja x (by unfold wJ at hx;exact(List.mem_filter.1 hx).1)
 refine⟨fun W a n c=>eX W (wJ ks l) a n c,fun W hW=>(hof W hW).mono ?_,fun _ _ _ _ _ hx h=>h.ext hx,fun W hW K hK a n c ap hc=>(asa (wJ ks l) a n c ap W (h.ext hW) hc hpd (by have:=hc.len;omega)).mono fun e W' hq=>aMp hq hK,fun W hW a n c hc=>(alJ (wJ ks l) a n c W (h.ext hW) hc hpd (by have:=hc.len;omega)).mono (fun e W' hq=>by unfold aWd at hq;rw[List.length_map] at hq;exact hq),fun _ _ _ _ h=>h⟩;rintro r wz ⟨u,a,c,rfl,rfl,h1,h2⟩;exact⟨a,_,c,rfl,h1,h2⟩
theorem alr {F:Ex->Pr} {V:Ex->Bool} (h:∀e,(F e).value=V e) (b:Bool) (L:List dY):((L.map (qF F)).find? (fun r=>r.applies==b)).isSome=L.any fun x=>oK V x==b:=by
 induction L with
 | nil=>rfl
 | cons x r ih =>
  rw[List.map_cons,List.find?_cons,List.any_cons,Xl h,<-ih];cases oK V x==b<;>rfl
theorem apu {F:Ex->Pr} {V:Ex->Bool} (h:∀e,(F e).value=V e) (l:List dY) {D:Dec} {R R1 R2 R3 R4:List Rs} {F1 F2 F3:Option Rs} (hD:D=Y8 V l) (hR:R=aly F l) (h1:R1=(wJ [2] l).map (qF F)) (h2:R2=(wJ [4] l).map (qF F)) (h3:R3=(wJ [3] l).map (qF F)) (h4:R4=(wJ vF l).map (qF F))
  (e1:F1=R1.find? fun r=>r.applies==true) (e2:F2=R2.find? fun r=>r.applies==false) (e3:F3=R3.find? fun r=>r.applies==true) :
  (F1=none->D=⟨1,0,0,0,0,false⟩/\R=R1)/\∀c,F1=some c->(∀b,F2=some b->D=⟨2,0,0,0,0,false⟩/\R=[c,b])/\(F2=none->(∀x,F3=some x->D=⟨3,0,0,0,0,false⟩/\R=c::(R2++[x]))/\(F3=none->D=Q8 ⟨4,-1,0,0,0,false⟩ ((wJ vF l).filter (oK V))/\R=c::(R2++(R3++R4)))):=by
 subst hD hR h1 h2 h3 h4;have a1:=alr h true (wJ [2] l);have a2:=alr h false (wJ [4] l);have a3:=alr h true (wJ [3] l);rw[Jk V 2 false true rfl,<-e1] at a1;rw[Jk V 4 true false rfl,<-e2] at a2;rw[Jk V 3 false true rfl,<-e3] at a3;unfold aly Y8;rw[<-e1,<-e2,<-e3,<-a1,<-a2,<-a3];refine⟨fun q1=>?_,fun c q1=>⟨fun b q2=>?_,fun q2=>⟨fun x q3=>?_,fun q3=>?_⟩⟩⟩
 ·rw[q1];exact⟨rfl,rfl⟩
 ·rw[q1,q2];exact⟨rfl,rfl⟩
 ·rw[q1,q2,q3];exact⟨rfl,rfl⟩
 rw[q1,q2,q3,Q7];refine⟨?_,rfl⟩;simp[Kw,vX]
open Go.ChangeShapes Go.WideShapes Go.ChangeAt Go.RowKit
inductive Pr.fit:Pr->Prop
 | mk {v:Bool} {k:Int} {ps:List Pr} (hn:ps.length<=1000000000000000) (h:∀q∈ps,q.fit):Pr.fit (.mk v k ps)
theorem atx {s:List Attr} {l:List dY} {f:ZI} {g:Nat} {op:Int} {name:BA} {words:ZB} {lo hi:Int} {args:List Ex} {V:Bool} (hop:op=7\/op=8) (hV:l7 s l f (g+1) (.mk op name words lo hi args)=V) (h8:V=decide (op=8)):∃j,∃h:j<args.length,l7 s l f (g+1) args[j]=V:=by
 rw[l7,uo] at hV;have key:∃e∈args,l7 s l f (g+1) e=V:=by
  rcases hop with rfl|rfl
  ·have e:V=false:=by rw[h8];rfl
   rw[dh (by decide),dw rfl,BI,e,List.all_eq_false] at hV;obtain⟨x,hx,hy⟩:=hV;exact⟨x,hx,by rw[l7,e];simpa using hy⟩
  have e:V=true:=by rw[h8];rfl
  rw[dh (by decide),dh (by decide),dw rfl,BH,e,List.any_eq_true] at hV;obtain⟨x,hx,hy⟩:=hV;exact⟨x,hx,by rw[l7,e];exact hy⟩
 obtain⟨e,he,hv⟩:=key;obtain⟨j,hj,rfl⟩:=bM he;exact⟨j,hj,hv⟩
open Go.RowKit
theorem jh {N:ZN} {w W:World} (h:dO N w W) {p:Addr} {v:Value} (hc:w.cell? p=some v) (hn:p.block∉N):W.cell? p=some v:=by
 have hb:=h.block p.block (block_lt hc) hn;unfold World.cell? at hc ⊢;rw[hb];exact hc
def aKw (wr:World) (_:ZN) (_:Nat->Value) (W:World):Prop:=Ext wr W
theorem ayT (p:Pr):p=.mk p.value p.pick p.args:=by cases p;rfl
theorem aGg {s:List Attr} {l:List dY} {f:ZI} {g:Nat} {op:Int} {name:BA} {words:ZB} {lo hi:Int} {args:List Ex} (h6:op≠6/\op≠7/\op≠8) (hdn:op=3->fG l name=none):CG s l f (g+1) (.mk op name words lo hi args)=.mk (l7 s l f (g+1) (.mk op name words lo hi args)) (-1) []:=by
 rw[<-La,ayT (CG s l f (g+1) (.mk op name words lo hi args))];simp only[Pr.value];rw[CG,pfE,dh h6.1,dh (by omega)];by_cases h3:op=3
 ·rw[dw h3,hdn h3];rfl
 rw[dh h3];rfl
theorem aLp {s:List Attr} {l:List dY} {f:ZI} {g:Nat} {name:BA} {words:ZB} {lo hi:Int} {args:List Ex} {d:Nat} (hd:fG l name=some d):CG s l f (g+1) (.mk 3 name words lo hi args)=.mk (l7 s l f (g+1) (.mk 3 name words lo hi args)) (-1) [CG s l f g (l.getD d iT).cond]:=by
 rw[<-La,ayT (CG s l f (g+1) (.mk 3 name words lo hi args))];simp only[Pr.value];have e:((fG l name).map fun d=>CG s l f g (l.getD d iT).cond)=some (CG s l f g (l.getD d iT).cond):=by rw[hd];rfl
 rw[CG,pfE,dh (by decide),dh (by decide),dw rfl,e]
 rfl
theorem aLo {s:List Attr} {l:List dY} {f:ZI} {g:Nat} {name:BA} {words:ZB} {lo hi:Int} {a:Ex} {r:List Ex}:CG s l f (g+1) (.mk 6 name words lo hi (a::r))=.mk (l7 s l f (g+1) (.mk 6 name words lo hi (a::r))) (-1) [CG s l f (g+1) a]:=by
 rw[<-La,ayT (CG s l f (g+1) (.mk 6 name words lo hi (a::r)))];simp only[Pr.value];rw[CG,pfE,dw rfl];simp only[ads]
 rfl
theorem aAW {s:List Attr} {l:List dY} {f:ZI} {g:Nat} {op:Int} {name:BA} {words:ZB} {lo hi:Int} {args:List Ex} (hop:op=7\/op=8):CG s l f (g+1) (.mk op name words lo hi args)=agi (decide (op=8)) (args.map (CG s l f (g+1))):=by
 rw[CG,pfE,dh (by omega),dw hop,TG]
 congr 1
theorem aLq {s:List Attr} {l:List dY} {f:ZI} {g:Nat} {op:Int} {name:BA} {words:ZB} {lo hi:Int} {args:List Ex} {V:Bool} (hop:op=7/\V=true\/op=8/\V=false) (hv:l7 s l f (g+1) (.mk op name words lo hi args)=V):CG s l f (g+1) (.mk op name words lo hi args)=.mk V (-1) (args.map (CG s l f (g+1))):=by
 have hd:(!decide (op=8))=V:=by rcases hop with ⟨rfl,rfl⟩|⟨rfl,rfl⟩<;>rfl
 rw[aAW (hop.imp And.left And.left),agh,hd];intro j q' hq';obtain⟨hj,rfl⟩:=List.getElem?_eq_some_iff.1 hq';rw[List.getElem_map,La];rw[l7,uo] at hv;rw[l7];have hj':j<args.length:=by simpa using hj
 rcases hop with ⟨rfl,rfl⟩|⟨rfl,rfl⟩
 ·rw[dh (by decide),dw rfl,BI] at hv;have:=aV.1 hv _ (aI hj');rw[this];decide
 rw[dh (by decide),dh (by decide),dw rfl,BH] at hv;have:=List.any_eq_false.1 hv _ (aI hj');simpa using this
theorem aLn {s:List Attr} {l:List dY} {f:ZI} {g:Nat} {op:Int} {name:BA} {words:ZB} {lo hi:Int} {args:List Ex} {V:Bool} (hop:op=7/\V=false\/op=8/\V=true) {k:Nat} (hk:k<args.length) (h1:(CG s l f (g+1) args[k]).value=V) (h2:∀j (h:j<args.length),j<k->(CG s l f (g+1) args[j]).value≠V):CG s l f (g+1) (.mk op name words lo hi args)=.mk V (k:Int) [CG s l f (g+1) args[k]]:=by
 have hd:decide (op=8)=V:=by rcases hop with ⟨rfl,rfl⟩|⟨rfl,rfl⟩<;>rfl
 rw[aAW (hop.imp And.left And.left),hd];refine ajT (by rw[List.getElem?_map,aZ hk];rfl) h1 fun j q' hj hq'=>?_
 obtain⟨hjl,rfl⟩:=List.getElem?_eq_some_iff.1 hq';rw[List.getElem_map];exact h2 j (by simpa using hjl) hj
structure ap9 (s:List Attr) (l:List dY) (f:ZI) (g:Nat) (op:Int) (name:BA) (args:List Ex) (lo hi:Int) (V:Bool) (w:World) (M:ZN) (a:OA) (n c:Nat) (fa:OA) (fn fc:Nat) (sa:OA) (sn sc:Nat) (aw:OA) (nw cw:Nat) (aa:OA) (na ca:Nat):Prop where
 tr:∀W,Ext w W->Calls Tryz.prog 127 #[.agg #[.slice sa sn sc],.slice a n c,exV op name aw nw cw lo hi aa na ca,.slice fa fn fc] W (dN (.bool V) W)
 arg:∀(j:Nat) (hj:j<args.length) (xv:Value) (N:ZN) (W:World),Ext w W->(∀y∈N,y<W.heap.size)->fC W args[j] xv->Calls Tryz.prog 129 #[.agg #[.slice sa sn sc],.slice a n c,xv,.slice fa fn fc] W (J6 (CG s l f (g+1) args[j]) N W)
 m:∀y∈M,y<w.heap.size
 x:iK w args aa
 na:na=args.length
 few:args.length<=1000000
def RpL (F:Ex->Pr) (args:List Ex) (V:Bool) (na b6 b11:Nat) (M:ZN) (Z0 Z1:Obj) (w:World) (i _x:Value) (wr:World):Prop:=∃(k:Nat) (pvs:List jP) (u:Value),i=.int .i64 k/\k<=na/\wr.ownsRow (b11+1) 67 3 u k (pvs.flatMap jP.cells) /\
 Oy (mask wr (rowOf u++(b6+1+1)::b11::M)) ((args.take k).map F) pvs/\wr.heap[b6]?=some Z0/\wr.heap[b6+1]?=some Z1/\wr.heap[b6+1+1]?=some vw/\wr.heap[b11]?=some (.cells #[.bool V,.int .i64 (-1),u] 67 (0,0))/\Ext w wr
def RpK (F:Ex->Pr) (args:List Ex) (V:Bool) (na b6 b11:Nat) (Z0 Z1:Obj) (w:World) (i _x:Value) (wr:World):Prop:=∃(k:Nat),i=.int .i64 k/\k<=na/\(∀j (h:j<args.length),j<k->(F args[j]).value≠V) /\
 wr.heap[b6]?=some Z0/\wr.heap[b6+1]?=some Z1/\wr.heap[b6+1+1]?=some vw/\wr.heap[b11]?=some (.cells #[.bool V,.int .i64 (-1),.slice none 0 0] 67 (0,0))/\Ext w wr
def aFg (wr:World) (b q:Nat) (L:ZN) (_:Nat->Value) (W:World):Prop:=dO [b] wr W/\(q∉L->Ext wr W)
def aSZ (b q k:Nat) (W W':World):Prop:=if k=q then dO [b] W W' else Ext W W'
theorem azF {wr:World} {b q:Nat} {vs:Nat->Value}:aFg wr b q [] vs wr.drew:=⟨((Ext.refl wr).drew).fH _,fun _=>(Ext.refl wr).drew⟩
theorem V5 {wr W W':World} {b q i:Nat} {L:ZN} {vs vs':Nat->Value} (h:aFg wr b q L vs W) (hx:Ext W W'):aFg wr b q (L++[i]) vs' W':=⟨h.1.then (hx.fH _),fun hq=>(h.2 fun h'=>hq (aQ _ h')).trans hx⟩
theorem aHS {wr W W':World} {b q:Nat} {L:ZN} {vs vs':Nat->Value} (h:aFg wr b q L vs W) (hc:dO [b] W W'):aFg wr b q (L++[q]) vs' W':=⟨h.1.then hc,fun hq=>absurd (by simp) hq⟩
theorem aCA {s:List Attr} {l:List dY} {f:ZI} {g:Nat} {name:BA} {words:ZB} {lo hi:Int} {args:List Ex} {V:Bool} {w:World} {M:ZN} {a:OA} {n c:Nat} {fa:OA} {fn fc:Nat} {sa:OA} {sn sc:Nat} {aw:OA} {nw cw:Nat} {aa:OA} {na ca:Nat} {op:Int} (hv:l7 s l f (g+1) (.mk op name words lo hi args)=V) (h6:op≠6/\op≠7/\op≠8) (hdn:op=3->fG l name=none) (hat:op=3->∃i,iE s name=some i)
  (hix:∀W,Ext w W->Calls Tryz.prog 91 #[.agg #[.slice sa sn sc],.string name] W (dN (yw (iE s name)) W)) (h:ap9 s l f g op name args lo hi V w M a n c fa fn fc sa sn sc aw nw cw aa na ca) :
  Calls Tryz.prog 129 #[.agg #[.slice sa sn sc],.slice a n c,exV op name aw nw cw lo hi aa na ca,.slice fa fn fc] w (J6 (CG s l f (g+1) (.mk op name words lo hi args)) M w):=by
 have HQ:=ak (show CG s l f (g+1) (.mk op name words lo hi args)=.mk V (-1) [] by rw[<-hv];exact aGg h6 hdn);have yD:=ak hix;have HAT:=ak hat;have H6:=ak h6;clear hv hdn hat hix h6;have WL:=ak h.tr;have qx:=ak h.arg;have HM:=ak h.m;have HX:=ak h.x;have nK:=ak h.na;have NU:=ak h.few;clear h;unfold exV at *;obtain⟨wa,dW⟩:∃wa,wa=((w.alloc (.cells #[.slice sa sn sc] 24)).alloc (.cells #[.int .i64 op,.string name,.slice aw nw cw,.int .i64 lo,.int .i64 hi,.slice aa na ca] 45)).alloc (.cells #[.bool false,.int .i64 0,.slice none 0 0] 67):=⟨_,rfl⟩
 have hxa:Ext w wa:=by rw[dW];exact(((Ext.refl _).alloc _).alloc _).alloc _
 obtain⟨b6,hb6⟩:∃b6:Nat,b6=w.heap.size:=⟨_,rfl⟩
 have hb0:wa.heap[b6]?=some (.cells #[.slice sa sn sc] 24 (0,0)):=by rw[dW,hb6];exact dJ (dJ (dG w _))
 have hb1:wa.heap[b6+1]?=some (.cells #[.int .i64 op,.string name,.slice aw nw cw,.int .i64 lo,.int .i64 hi,.slice aa na ca] 45 (0,0)):=by rw[dW,hb6];exact dJ (eH (by simp))
 have hb2:wa.heap[b6+1+1]?=some vw:=by rw[dW,hb6];exact eH (by simp)
 have fE:=ak hxa;have HB0:=ak hb0;have HB1:=ak hb1;have HB2:=ak hb2;have nM:=ak hb6;go_enter Tryz.func129,Tryz.ntmps129
 go_upto_region 1 with fail
 rw[<-dW,<-hb6];clear dW hb6;obtain⟨f0,f1,f2,f3,f4,f5,ff⟩:=eP hb1;obtain⟨e0,ef⟩:=gQ hb0;clear hxa hb0 hb1 hb2;go_wp2_with fail
 refine(WL.o wa fE.o).mono ?_;rintro r w1 ⟨rfl,hx1⟩;go_upto_region 2 with fail
 obtain⟨b11,tN⟩:∃b11:Nat,b11=w1.heap.size:=⟨_,rfl⟩
 obtain⟨w2,hw2⟩:∃w2,w2=w1.alloc (.cells #[.bool V,.int .i64 (-1),.slice none 0 0] 67):=⟨_,rfl⟩
 have hx2:Ext wa w2:=by rw[hw2];exact hx1.alloc _
 have HP2:=ak (show w2.heap[b11]?=some (.cells #[.bool V,.int .i64 (-1),.slice none 0 0] 67 (0,0)) by rw[hw2,tN];exact dG w1 _);have zH:b6+1+1<b11:=by have:=dH (hx1.blk HB2.o);omega
 rw[<-hw2,<-tN];clear hw2 tN hx1 f0 f1 f2 f3 f4 f5 ff e0 ef;have nH:=ak zH;have gI:=ak (fE.o.trans hx2);have HS2:=ak (hx2.blk HB0.o);have HE2:=ak (hx2.blk HB1.o);have HZ2:=ak (hx2.blk HB2.o);clear hx2 zH HB0 HB1 HB2 fE WL;obtain⟨f0,f1,f2,f3,f4,f5,ff⟩:=eP HE2.o;obtain⟨e0,ef⟩:=gQ HS2.o;clear qx HX nK NU;have t6:(op==6)=false:=by have:=H6.o;simp[this]
 have t7:(op==7)=false:=by have:=H6.o;simp[this]
 have t8:(op==8)=false:=by have:=H6.o;simp[this]
 by_cases h3:op=3
 case' pos =>
  subst h3;obtain⟨i,hi'⟩:=HAT.o rfl;have HI2:=ak (yD.o w2 gI.o);rw[hi',rY] at HI2;clear hi' yD t6 t7 t8;go_wp2_with fail
  refine HI2.o.mono ?_;rintro r W3 ⟨rfl,hx3⟩;have KL:=ak (hx3.blk HP2.o);have HZ3:=ak (hx3.blk HZ2.o);have gU:=ak (gI.o.trans hx3);clear hx3 f0 f1 f2 f3 f4 f5 ff e0 ef HI2;go_upto_region 21 with fail
 case' neg =>
  have t3:(op==3)=false:=by simp[h3]
  clear h3 yD;obtain⟨W3,hW3⟩:∃W3,W3=w2:=⟨_,rfl⟩
  have KL:=ak (show W3.heap[b11]?=some (.cells #[.bool V,.int .i64 (-1),.slice none 0 0] 67 (0,0)) by rw[hW3];exact HP2.o);have HZ3:=ak (show W3.heap[b6+1+1]?=some vw by rw[hW3];exact HZ2.o);have gU:=ak (show Ext w W3 by rw[hW3];exact gI.o);go_upto_region 21 with fail
  rw[<-hW3];clear hW3 f0 f1 f2 f3 f4 f5 ff e0 ef
 all_goals
  have HIP:=ak (Du (mask W3 ((b6+1+1)::M)) V (-1));obtain⟨p0,p1,p2,Ba⟩:=fZ KL.o;have hz:W3.heap[b6+1+1]?=some (.cells #[.bool false,.int .i64 0,.slice none 0 0] 67 (0,0)):=HZ3.o;obtain⟨r0,r1,r2,rf⟩:=fZ hz;have XJ:=dH hz;have HZ:=ak (show _/\_ from yu (w:=w) (M:=M) (pv:=⟨V,-1,none,0,0⟩) HZ3.o (by have:=nM.o;omega) gU.o HIP.o);simp only at HZ;go_wp2_with fail
  obtain⟨wz,hwz⟩:∃wz,wz=oq W3 (b6+1+1) (.bool V) (.int .i64 (-1)) (.slice none 0 0):=⟨_,rfl⟩
  rw[<-hwz] at HZ;unfold oq at hwz;rw[<-hwz];clear hwz;obtain⟨z0,z1,z2,zf⟩:=fZ HZ.o.1;refine bodyPost_ret (v:=jP.val ⟨V,-1,none,0,0⟩) (by simp[results,Tryz.results129,go_sem,jP.val,z0,z1,z2]) rfl ?_;rw[HQ.o];exact HZ.o.2
def aTG (d oZ cb:Nat) (v:jm) (w4:World) (M:ZN) (q:Pr) (b6 b11:Nat) (sa:OA) (sn sc:Nat) (n c:Nat) (fa:OA) (fn fc:Nat)  : Nat->Value->World->Prop
 | 0,u,_=>u=.agg #[.slice sa sn sc]
 | 1,u,_=>u=.slice (some ⟨cb,oZ,none⟩) n c
 | 2,u,_=>u=.slice (some ⟨cb,oZ,none⟩) n c
 | 3,u,_=>u=.int .i64 ((d:Nat):Int)
 | 4,u,_=>u=.pointer (some ⟨cb,oZ+d*10,none⟩)
 | 5,u,_=>u=.pointer (some ⟨cb,oZ+d*10+2,none⟩)
 | 6,u,_=>u=.agg #[.int .i64 v.x.op,.string v.x.name,.slice v.x.aw v.x.nw v.x.cw,.int .i64 v.x.lo,.int .i64 v.x.hi,.slice v.x.aa v.x.na v.x.ca]
 | 7,u,_=>u=.slice fa fn fc
 | 8,u,W=>∃(qv:jP),u=.agg #[.bool qv.value,.int .i64 qv.pick,.slice qv.a qv.n qv.c]/\jK (mask W ((b6+1+1)::b11::M)) q qv
 | 9,u,W=>∃(qv:jP) (y:Nat),u=.slice (some ⟨y,0,none⟩) 1 1/\(W.heap[y]?=some (.cells #[.bool qv.value,.int .i64 qv.pick,.slice qv.a qv.n qv.c] 67 (0,0))/\w4.heap.size<=y/\jK (mask W ((b6+1+1)::b11::M)) q qv)
 | _,u,_=>u=.pointer (some ⟨b11,2,none⟩)
theorem aGh {s:List Attr} {l:List dY} {f:ZI} {g:Nat} {name:BA} {words:ZB} {lo hi:Int} {args:List Ex} {V:Bool} {w:World} {M:ZN} {a:OA} {n c:Nat} {fa:OA} {fn fc:Nat} {sa:OA} {sn sc:Nat} {aw:OA} {nw cw:Nat} {aa:OA} {na ca:Nat} {d:Nat} (hv:l7 s l f (g+1) (.mk 3 name words lo hi args)=V) (hdf:fG l name=some d) (hat:iE s name=none)
  (hix:∀W,Ext w W->Calls Tryz.prog 91 #[.agg #[.slice sa sn sc],.string name] W (dN (yw (iE s name)) W)) (hcl:eX w l a n c)
  (hfi:∀W,Ext w W->Calls Tryz.prog 125 #[.slice a n c,.string name] W (dN (yw (fG l name)) W))
  (hdef:∀(xv:Value) (N:ZN) (W:World),Ext w W->(∀y∈N,y<W.heap.size)->fC W (l.getD d iT).cond xv->Calls Tryz.prog 129 #[.agg #[.slice sa sn sc],.slice a n c,xv,.slice fa fn fc] W (J6 (CG s l f g (l.getD d iT).cond) N W))
  (h:ap9 s l f g 3 name args lo hi V w M a n c fa fn fc sa sn sc aw nw cw aa na ca) :
  Calls Tryz.prog 129 #[.agg #[.slice sa sn sc],.slice a n c,exV 3 name aw nw cw lo hi aa na ca,.slice fa fn fc] w (J6 (CG s l f (g+1) (.mk 3 name words lo hi args)) M w):=by
 have HQ:=ak (show CG s l f (g+1) (.mk 3 name words lo hi args)=.mk V (-1) [CG s l f g (l.getD d iT).cond] by rw[<-hv];exact aLp hdf);have Yp:=ak (lG hdf).1;have HFI:=ak hfi;have HDF:=ak hdf;have HAT:=ak hat;have yD:=ak hix;have vS:=ak hcl;have HDE:=ak hdef;have hdn:d<n:=by have:=hcl.len;have:=Yp.o;omega
 clear hv hdf hfi hat hix hcl hdef;have WL:=ak h.tr;have qx:=ak h.arg;have HM:=ak h.m;have HX:=ak h.x;have nK:=ak h.na;have NU:=ak h.few;clear h;unfold exV at *;obtain⟨wa,dW⟩:∃wa,wa=((w.alloc (.cells #[.slice sa sn sc] 24)).alloc (.cells #[.int .i64 3,.string name,.slice aw nw cw,.int .i64 lo,.int .i64 hi,.slice aa na ca] 45)).alloc (.cells #[.bool false,.int .i64 0,.slice none 0 0] 67):=⟨_,rfl⟩
 have hxa:Ext w wa:=by rw[dW];exact(((Ext.refl _).alloc _).alloc _).alloc _
 obtain⟨b6,hb6⟩:∃b6:Nat,b6=w.heap.size:=⟨_,rfl⟩
 have hb0:wa.heap[b6]?=some (.cells #[.slice sa sn sc] 24 (0,0)):=by rw[dW,hb6];exact dJ (dJ (dG w _))
 have hb1:wa.heap[b6+1]?=some (.cells #[.int .i64 3,.string name,.slice aw nw cw,.int .i64 lo,.int .i64 hi,.slice aa na ca] 45 (0,0)):=by rw[dW,hb6];exact dJ (eH (by simp))
 have hb2:wa.heap[b6+1+1]?=some vw:=by rw[dW,hb6];exact eH (by simp)
 have fE:=ak hxa;have HB0:=ak hb0;have HB1:=ak hb1;have HB2:=ak hb2;have nM:=ak hb6;go_enter Tryz.func129,Tryz.ntmps129
 go_upto_region 1 with fail
 rw[<-dW,<-hb6];clear dW hb6;obtain⟨f0,f1,f2,f3,f4,f5,ff⟩:=eP hb1;obtain⟨e0,ef⟩:=gQ hb0;clear hxa hb0 hb1 hb2;go_wp2_with fail
 refine(WL.o wa fE.o).mono ?_;rintro r w1 ⟨rfl,hx1⟩;go_upto_region 2 with fail
 obtain⟨b11,tN⟩:∃b11:Nat,b11=w1.heap.size:=⟨_,rfl⟩
 obtain⟨w2,hw2⟩:∃w2,w2=w1.alloc (.cells #[.bool V,.int .i64 (-1),.slice none 0 0] 67):=⟨_,rfl⟩
 have hx2:Ext wa w2:=by rw[hw2];exact hx1.alloc _
 have HP2:=ak (show w2.heap[b11]?=some (.cells #[.bool V,.int .i64 (-1),.slice none 0 0] 67 (0,0)) by rw[hw2,tN];exact dG w1 _);have zH:b6+1+1<b11:=by have:=dH (hx1.blk HB2.o);omega
 rw[<-hw2,<-tN];clear hw2 tN hx1 f0 f1 f2 f3 f4 f5 ff e0 ef;have nH:=ak zH;have gI:=ak (fE.o.trans hx2);have HS2:=ak (hx2.blk HB0.o);have HE2:=ak (hx2.blk HB1.o);have HZ2:=ak (hx2.blk HB2.o);clear hx2 zH HB0 HB1 HB2 fE WL;obtain⟨f0,f1,f2,f3,f4,f5,ff⟩:=eP HE2.o;obtain⟨e0,ef⟩:=gQ HS2.o;have HI2:=ak (yD.o w2 gI.o);rw[HAT.o,FI] at HI2;clear qx HX nK NU;go_wp2_with fail
 refine HI2.o.mono ?_;rintro r w3 ⟨rfl,hx3⟩;have Kt:=ak (HFI.o w3 (gI.o.trans hx3));rw[HDF.o,rY] at Kt;obtain⟨f0,f1,f2,f3,f4,f5,ff⟩:=eP (hx3.blk HE2.o);go_wp2_with fail
 refine Kt.o.mono ?_;rintro r w4 ⟨rfl,hx4⟩;have hx34:=hx3.trans hx4;have xI:=ak (hx34.blk HS2.o);have HE4:=ak (hx34.blk HE2.o);have HP4:=ak (hx34.blk HP2.o);have HZ4:=ak (hx34.blk HZ2.o);have lN:=ak (gI.o.trans hx34);clear hx3 hx4 hx34 f0 f1 f2 f3 f4 f5 ff e0 ef HI2 Kt HS2 HE2 HP2 HZ2 gI;obtain⟨f0,f1,f2,f3,f4,f5,ff⟩:=eP HE4.o;obtain⟨e0,ef⟩:=gQ xI.o;obtain⟨cb,oZ,v,rfl,hcv,hrow⟩:=(vS.o.ext lN.o).at Yp.o;obtain⟨-,-,c2,c3,c4,c5,c6,c7,-,-⟩:=hrow.ten;have M6:=ak (show fC w4 (l.getD d iT).cond v.x.val by rw[vY Yp.o];exact hcv.2.2.1);have sV:=fun W (hW:Ext w4 W)=>HDE.o _ ((b6+1+1)::b11::M) W (lN.o.trans hW) (fun z hz=>by
  have h1:=nH.o;have h2:=nM.o;have h3:=hW.size;have h4:=dH HP4.o;have h5:=HM.o;simp only[bK] at hz;rcases hz with rfl|rfl|hz
  ·omega
  ·omega
  have:=h5 z hz;have:=lN.o.size;omega) (M6.o.ext hW)
 obtain⟨q,hq⟩:∃q,q=CG s l f g (l.getD d iT).cond:=⟨_,rfl⟩
 rw[<-hq] at sV HQ;unfold fU.val exV at sV;have xK:=ak sV;clear hq hcv hrow sV HDE vS;go_upto_region 7 with fail
 refine fM (n:=109) (m:=11) [9,10] (aKw w4) SX (zu (aTG d oZ cb v w4 M q b6 b11 sa sn sc n c fa fn fc )) (by kernel_rfl) (by kernel_rfl) (Nat.le_of_ble_eq_true rfl) ?gd ((Ext.refl w4).drew) ?_ ?_ ?_
 case gd =>
  intro i o j b hi ho hg;rcases ltc11 hi with rfl|rfl|rfl|rfl|rfl|rfl|rfl|rfl|rfl|rfl|rfl<;>(cases ho;first|(cases hg;done)|(cases hg;intro v W h;exact h))
 ·intro i k v W W' hi hk hne hout h hE;have hE:Ext W W':=hE;have hi':=ltc11 hi;clear hi hk hne hout;rcases hi' with rfl|rfl|rfl|rfl|rfl|rfl|rfl|rfl|rfl|rfl|rfl
  ·exact h
  ·exact h
  ·exact h
  ·exact h
  ·exact h
  ·exact h
  ·exact h
  ·exact h
  ·obtain⟨qv,e0,h⟩:=h;exact⟨qv,e0,h.mono (iy _ hE)⟩
  ·obtain⟨qv,y,e0,h⟩:=h;exact⟨qv,y,e0,⟨hE.blk h.1,h.2.1,h.2.2.mono (iy _ hE)⟩⟩
  exact h
 ·intro q op hq ho L vs W dR hcL hW hd ρ hρ;have hq':=ltc11 hq;clear hq;have o4:ρ (.tmp 4)=.pointer (some ⟨b6,0,none⟩):=hρ.out 4 rfl;have o1:ρ (.tmp 1)=.slice (some ⟨cb,oZ,none⟩) n c:=hρ.out 1 rfl;have o12:ρ (.tmp 12)=.int .i64 ((d:Nat):Int):=hρ.out 12 rfl;have i2:=hρ.i 2 45;have i3:=hρ.i 3 46;have i4:=hρ.i 4 47;have i5:=hρ.i 5 48;have o3:ρ (.tmp 3)=.slice fa fn fc:=hρ.out 3 rfl;have i0:=hρ.i 0 43;have i1:=hρ.i 1 44;have i6:=hρ.i 6 49;have i7:=hρ.i 7 50;have i8:=hρ.i 8 51;have o9:ρ (.tmp 9)=.pointer (some ⟨b11,0,none⟩):=hρ.out 9 rfl;have hc:=hρ.const;have hfn:=hρ.func;clear hρ;have HG:=ak hW;have HW:=ak (show Ext w4 W from hW);have fV:=ak dR;clear hW dR hcL;rcases hq' with rfl|rfl|rfl|rfl|rfl|rfl|rfl|rfl|rfl|rfl|rfl
  ·cases ho
   clear hd;have g0:=HW.o.cell e0;unfold dF;go_simp;exact⟨Ext.refl _,HW.o,rfl⟩
  ·cases ho
   clear hd;unfold dF;go_simp;exact⟨Ext.refl _,HW.o,rfl⟩
  ·cases ho
   clear hd;unfold dF;go_simp;exact⟨Ext.refl _,HW.o,rfl⟩
  ·cases ho
   clear hd;unfold dF;go_simp;exact⟨Ext.refl _,HW.o,rfl⟩
  ·cases ho
   have h2:vs 2=_:=hd ⟨2,.data⟩ (by simp) rfl;rw[h2] at i2;have h3:vs 3=_:=hd ⟨3,.data⟩ (by simp) rfl;rw[h3] at i3;clear hd;unfold dF;go_simp;exact⟨Ext.refl _,HW.o,rfl⟩
  ·cases ho
   have h4:vs 4=_:=hd ⟨4,.data⟩ (by simp) rfl;rw[h4] at i4;clear hd;unfold dF;go_simp;exact⟨Ext.refl _,HW.o,rfl⟩
  ·cases ho
   have h5:vs 5=_:=hd ⟨5,.data⟩ (by simp) rfl;rw[h5] at i5;clear hd;have g0:=HW.o.cell c2;have g1:=HW.o.cell c3;have g2:=HW.o.cell c4;have g3:=HW.o.cell c5;have g4:=HW.o.cell c6;have g5:=HW.o.cell c7;unfold dF;go_simp;exact⟨Ext.refl _,HW.o,rfl⟩
  ·cases ho
   clear hd;unfold dF;go_simp;exact⟨Ext.refl _,HW.o,rfl⟩
  ·cases ho
   have h0:vs 0=_:=hd ⟨0,.data⟩ (by simp) rfl;rw[h0] at i0;have h1:vs 1=_:=hd ⟨1,.data⟩ (by simp) rfl;rw[h1] at i1;have h6:vs 6=_:=hd ⟨6,.data⟩ (by simp) rfl;rw[h6] at i6;have h7:vs 7=_:=hd ⟨7,.data⟩ (by simp) rfl;rw[h7] at i7;clear hd;unfold dF;go_simp;refine(xK.o W HW.o).mono ?_;rintro e5 w5 ⟨qv,rfl,hq1,hx5⟩;exact⟨_,rfl,hx5,HW.o.trans hx5,qv,rfl,hq1⟩
  ·cases ho
   obtain⟨qv,h8,hs8⟩:∃(qv:jP),vs 8=.agg #[.bool qv.value,.int .i64 qv.pick,.slice qv.a qv.n qv.c]/\jK (mask W ((b6+1+1)::b11::M)) q qv:=hd ⟨8,.data⟩ (by simp) rfl;have U4:=ak hs8;clear hs8;rw[h8] at i8;clear hd;unfold dF;go_simp;exact⟨(Ext.refl W).alloc _,HW.o.alloc _,qv,W.heap.size,rfl,dG W _,HW.o.size,U4.o.mono (iy _ ((Ext.refl W).alloc _))⟩
  cases ho
  clear hd;unfold dF;go_simp;exact⟨Ext.refl _,HW.o,rfl⟩
 intro L vs W pR hW hR;rw[dh (by decide +kernel)];obtain⟨qv,y,h9,hs9⟩:∃(qv:jP) (y:Nat),vs 9=.slice (some ⟨y,0,none⟩) 1 1/\(W.heap[y]?=some (.cells #[.bool qv.value,.int .i64 qv.pick,.slice qv.a qv.n qv.c] 67 (0,0))/\w4.heap.size<=y/\jK (mask W ((b6+1+1)::b11::M)) q qv):=hR 9 (by simp) (by omega);have G8:=ak hs9;clear hs9;have h10:vs 10=.pointer (some ⟨b11,2,none⟩):=hR 10 (by simp) (by omega);refine lK rfl ?_
 change wpList _ _ _ [⟨none,.store _ (.tmp 53) (.tmp 52),_,_,_,none⟩] _ _
 simp only[acts,gK,List.range,List.range.loop,bF,dA,h9,h10];go_simp;have hW2:Ext w4 W:=hW;clear hR hW pR h9 h10;have PD:=ak G8.o;clear G8 f0 f1 f2 f3 f4 f5 ff e0 ef c2 c3 c4 c5 c6 c7;have qC:=ak hW2;obtain⟨W3,hW3⟩:∃W3,W3=W.setCell ⟨b11,2,none⟩ (.slice (some ⟨y,0,none⟩) 1 1):=⟨_,rfl⟩
 have hpw:W.heap[b11]?=some (.cells #[.bool V,.int .i64 (-1),.slice none 0 0] 67 (0,0)):=qC.o.blk HP4.o;have hc3:dO [b11] W W3:=by rw[hW3];exact pG _ _ _ _
 have KL:=ak (show W3.heap[b11]?=some (.cells #[.bool V,.int .i64 (-1),.slice (some ⟨y,0,none⟩) 1 1] 67 (0,0)) by rw[hW3];have:=oO (i:=2) hpw (.slice (some ⟨y,0,none⟩) 1 1);simpa using this);obtain⟨p0,p1,p2,Ba⟩:=fZ hpw;go_upto_region 21 with fail
 rw[<-hW3];clear hW3 p0 p1 p2 Ba hW2 hpw;have hlb:=dH HP4.o;have HZ3:=ak (hc3.blk (qC.o.blk HZ4.o) (by have:=nH.o;simp;omega));have gU:=ak (hc3.ext (lN.o.trans qC.o) (fun z hz=>by simp only[aK] at hz;have:=nH.o;have:=nM.o;omega));have HY3:=ak (hc3.blk PD.o.1 (by have:=PD.o.2.1;simp;omega));have Zk:=ak (show jK (mask W3 ((b6+1+1)::M)) q qv from(PD.o.2.2.mono (kW hc3 (fun z hz=>by simp only[aK] at hz;simp[hz]))).mono (eG _ (fun z hz=>by simp only[bK] at hz ⊢;rcases hz with h|h<;>simp[h])));have hys:=PD.o.2.1;clear hc3;have HIP:=ak (xE (v:=qv) (t:=67) HY3.o (fun hm=>by
  have h1:=nH.o;have h2:=nM.o;simp only[bK] at hm;rcases hm with hm|hm
  ·omega
  have:=HM.o _ hm;omega) Zk.o V (-1))
 obtain⟨p0,p1,p2,Ba⟩:=fZ KL.o;have hz:W3.heap[b6+1+1]?=some (.cells #[.bool false,.int .i64 0,.slice none 0 0] 67 (0,0)):=HZ3.o;obtain⟨r0,r1,r2,rf⟩:=fZ hz;have XJ:=dH hz;have HZ:=ak (show _/\_ from yu (w:=w) (M:=M) (pv:=⟨V,-1,some ⟨y,0,none⟩,1,1⟩) HZ3.o (by have:=nM.o;omega) gU.o HIP.o);simp only at HZ;go_wp2_with fail
 obtain⟨wz,hwz⟩:∃wz,wz=oq W3 (b6+1+1) (.bool V) (.int .i64 (-1)) (.slice (some ⟨y,0,none⟩) 1 1):=⟨_,rfl⟩
 rw[<-hwz] at HZ;unfold oq at hwz;rw[<-hwz];clear hwz;obtain⟨z0,z1,z2,zf⟩:=fZ HZ.o.1;refine bodyPost_ret (v:=jP.val ⟨V,-1,some ⟨y,0,none⟩,1,1⟩) (by simp[results,Tryz.results129,go_sem,jP.val,z0,z1,z2]) rfl ?_;rw[HQ.o];exact HZ.o.2
def aTF (w2:World) (M:ZN) (q:Pr) (b6 b11:Nat) (sa:OA) (sn sc:Nat) (a:OA) (n c:Nat) (fa:OA) (fn fc:Nat) (xb xo na ca:Nat) (x0:Int) (x1:BA) (rJ:OA) (rF rH:Nat) (x5 x6:Int) (rM:OA) (rG ca1:Nat)  : Nat->Value->World->Prop
 | 0,u,_=>u=.agg #[.slice sa sn sc]
 | 1,u,_=>u=.slice a n c
 | 2,u,_=>u=.pointer (some ⟨b6+1,5,none⟩)
 | 3,u,_=>u=.slice (some ⟨xb,xo,none⟩) na ca
 | 4,u,_=>u=.pointer (some ⟨xb,xo,none⟩)
 | 5,u,_=>u=.agg #[.int .i64 x0,.string x1,.slice rJ rF rH,.int .i64 x5,.int .i64 x6,.slice rM rG ca1]
 | 6,u,_=>u=.slice fa fn fc
 | 7,u,W=>∃(qv:jP),u=.agg #[.bool qv.value,.int .i64 qv.pick,.slice qv.a qv.n qv.c]/\jK (mask W ((b6+1+1)::b11::M)) q qv
 | 8,u,W=>∃(qv:jP) (y:Nat),u=.slice (some ⟨y,0,none⟩) 1 1/\(W.heap[y]?=some (.cells #[.bool qv.value,.int .i64 qv.pick,.slice qv.a qv.n qv.c] 67 (0,0))/\w2.heap.size<=y/\jK (mask W ((b6+1+1)::b11::M)) q qv)
 | _,u,_=>u=.pointer (some ⟨b11,2,none⟩)
theorem aGf {s:List Attr} {l:List dY} {f:ZI} {g:Nat} {name:BA} {words:ZB} {lo hi:Int} {args:List Ex} {V:Bool} {w:World} {M:ZN} {a:OA} {n c:Nat} {fa:OA} {fn fc:Nat} {sa:OA} {sn sc:Nat} {aw:OA} {nw cw:Nat} {aa:OA} {na ca:Nat} (hv:l7 s l f (g+1) (.mk 6 name words lo hi args)=V) (hl1:args.length=1) (h:ap9 s l f g 6 name args lo hi V w M a n c fa fn fc sa sn sc aw nw cw aa na ca) :
  Calls Tryz.prog 129 #[.agg #[.slice sa sn sc],.slice a n c,exV 6 name aw nw cw lo hi aa na ca,.slice fa fn fc] w (J6 (CG s l f (g+1) (.mk 6 name words lo hi args)) M w):=by
 obtain⟨a0,rfl⟩:=FN hl1;have HQ:=ak (show CG s l f (g+1) (.mk 6 name words lo hi [a0])=.mk V (-1) [CG s l f (g+1) a0] by rw[<-hv];exact aLo);clear hv hl1;have WL:=ak h.tr;have qx:=ak h.arg;have HM:=ak h.m;have HX:=ak h.x;have nK:=ak h.na;have NU:=ak h.few;clear h;unfold exV at *;obtain⟨wa,dW⟩:∃wa,wa=((w.alloc (.cells #[.slice sa sn sc] 24)).alloc (.cells #[.int .i64 6,.string name,.slice aw nw cw,.int .i64 lo,.int .i64 hi,.slice aa na ca] 45)).alloc (.cells #[.bool false,.int .i64 0,.slice none 0 0] 67):=⟨_,rfl⟩
 have hxa:Ext w wa:=by rw[dW];exact(((Ext.refl _).alloc _).alloc _).alloc _
 obtain⟨b6,hb6⟩:∃b6:Nat,b6=w.heap.size:=⟨_,rfl⟩
 have hb0:wa.heap[b6]?=some (.cells #[.slice sa sn sc] 24 (0,0)):=by rw[dW,hb6];exact dJ (dJ (dG w _))
 have hb1:wa.heap[b6+1]?=some (.cells #[.int .i64 6,.string name,.slice aw nw cw,.int .i64 lo,.int .i64 hi,.slice aa na ca] 45 (0,0)):=by rw[dW,hb6];exact dJ (eH (by simp))
 have hb2:wa.heap[b6+1+1]?=some vw:=by rw[dW,hb6];exact eH (by simp)
 have fE:=ak hxa;have HB0:=ak hb0;have HB1:=ak hb1;have HB2:=ak hb2;have nM:=ak hb6;go_enter Tryz.func129,Tryz.ntmps129
 go_upto_region 1 with fail
 rw[<-dW,<-hb6];clear dW hb6;obtain⟨f0,f1,f2,f3,f4,f5,ff⟩:=eP hb1;obtain⟨e0,ef⟩:=gQ hb0;clear hxa hb0 hb1 hb2;go_wp2_with fail
 refine(WL.o wa fE.o).mono ?_;rintro r w1 ⟨rfl,hx1⟩;go_upto_region 2 with fail
 obtain⟨b11,tN⟩:∃b11:Nat,b11=w1.heap.size:=⟨_,rfl⟩
 obtain⟨w2,hw2⟩:∃w2,w2=w1.alloc (.cells #[.bool V,.int .i64 (-1),.slice none 0 0] 67):=⟨_,rfl⟩
 have hx2:Ext wa w2:=by rw[hw2];exact hx1.alloc _
 have HP2:=ak (show w2.heap[b11]?=some (.cells #[.bool V,.int .i64 (-1),.slice none 0 0] 67 (0,0)) by rw[hw2,tN];exact dG w1 _);have zH:b6+1+1<b11:=by have:=dH (hx1.blk HB2.o);omega
 rw[<-hw2,<-tN];clear hw2 tN hx1 f0 f1 f2 f3 f4 f5 ff e0 ef;have nH:=ak zH;have gI:=ak (fE.o.trans hx2);have HS2:=ak (hx2.blk HB0.o);have HE2:=ak (hx2.blk HB1.o);have HZ2:=ak (hx2.blk HB2.o);clear hx2 zH HB0 HB1 HB2 fE WL;obtain⟨f0,f1,f2,f3,f4,f5,ff⟩:=eP HE2.o;obtain⟨e0,ef⟩:=gQ HS2.o;have hnp:0<na:=by have:=nK.o;simp at this;omega
 obtain⟨xb,xo,rfl,rJ,rF,rH,rM,rG,ca1,g0,g1,g2,g3,g4,g5,m6⟩:=iK.at [a0] _ (iK.ext gI.o [a0] _ HX.o) 0 (by simp);simp only[Nat.zero_mul,Nat.add_zero,bP] at g0 g1 g2 g3 g4 g5 m6;have M6:=ak m6;have sV:=fun W (hW:Ext w2 W)=>qx.o 0 (by simp) _ ((b6+1+1)::b11::M) W (gI.o.trans hW) (fun z hz=>by
  have h1:=nH.o;have h2:=nM.o;have h3:=hW.size;have h4:=dH HP2.o;have h5:=HM.o;simp only[bK] at hz;rcases hz with rfl|rfl|hz
  ·omega
  ·omega
  have:=h5 z hz;have:=gI.o.size;omega) (M6.o.ext hW)
 simp only[bP] at sV;obtain⟨q,hq⟩:∃q,q=CG s l f (g+1) a0:=⟨_,rfl⟩
 rw[<-hq] at sV HQ;unfold exV at sV;have xK:=ak sV;obtain⟨x0,hx0⟩:∃x0,x0=a0.op:=⟨_,rfl⟩
 obtain⟨x1,hx1⟩:∃x1,x1=a0.name:=⟨_,rfl⟩
 obtain⟨x5,hx5⟩:∃x5,x5=a0.lo:=⟨_,rfl⟩
 obtain⟨x6,hx6⟩:∃x6,x6=a0.hi:=⟨_,rfl⟩
 rw[<-hx0] at g0 xK;rw[<-hx1] at g1 xK;rw[<-hx5] at g3 xK;rw[<-hx6] at g4 xK;clear hq m6 sV hx0 hx1 hx5 hx6 qx;go_upto_region 9 with fail
 refine fM (n:=109) (m:=10) [8,9] (aKw w2) SX (zu (aTF w2 M q b6 b11 sa sn sc a n c fa fn fc xb xo na ca x0 x1 rJ rF rH x5 x6 rM rG ca1 )) (by kernel_rfl) (by kernel_rfl) (Nat.le_of_ble_eq_true rfl) ?gd ((Ext.refl w2).drew) ?_ ?_ ?_
 case gd =>
  intro i o j b hi ho hg;rcases ltc10 hi with rfl|rfl|rfl|rfl|rfl|rfl|rfl|rfl|rfl|rfl<;>(cases ho;first|(cases hg;done)|(cases hg;intro v W h;exact h))
 ·intro i k v W W' hi hk hne hout h hE;have hE:Ext W W':=hE;have hi':=ltc10 hi;clear hi hk hne hout;rcases hi' with rfl|rfl|rfl|rfl|rfl|rfl|rfl|rfl|rfl|rfl
  ·exact h
  ·exact h
  ·exact h
  ·exact h
  ·exact h
  ·exact h
  ·exact h
  ·obtain⟨qv,e0,h⟩:=h;exact⟨qv,e0,h.mono (iy _ hE)⟩
  ·obtain⟨qv,y,e0,h⟩:=h;exact⟨qv,y,e0,⟨hE.blk h.1,h.2.1,h.2.2.mono (iy _ hE)⟩⟩
  exact h
 ·intro q op hq ho L vs W dR hcL hW hd ρ hρ;have hq':=ltc10 hq;clear hq;have o4:ρ (.tmp 4)=.pointer (some ⟨b6,0,none⟩):=hρ.out 4 rfl;have o1:ρ (.tmp 1)=.slice a n c:=hρ.out 1 rfl;have o6:ρ (.tmp 6)=.pointer (some ⟨b6+1,0,none⟩):=hρ.out 6 rfl;have i2:=hρ.i 2 58;have i3:=hρ.i 3 59;have i4:=hρ.i 4 60;have o3:ρ (.tmp 3)=.slice fa fn fc:=hρ.out 3 rfl;have i0:=hρ.i 0 56;have i1:=hρ.i 1 57;have i5:=hρ.i 5 61;have i6:=hρ.i 6 62;have i7:=hρ.i 7 63;have o9:ρ (.tmp 9)=.pointer (some ⟨b11,0,none⟩):=hρ.out 9 rfl;have hc:=hρ.const;have hfn:=hρ.func;clear hρ;have HG:=ak hW;have HW:=ak (show Ext w2 W from hW);have fV:=ak dR;clear hW dR hcL;rcases hq' with rfl|rfl|rfl|rfl|rfl|rfl|rfl|rfl|rfl|rfl
  ·cases ho
   clear hd;have g0:=HW.o.cell e0;unfold dF;go_simp;exact⟨Ext.refl _,HW.o,rfl⟩
  ·cases ho
   clear hd;unfold dF;go_simp;exact⟨Ext.refl _,HW.o,rfl⟩
  ·cases ho
   clear hd;unfold dF;go_simp;exact⟨Ext.refl _,HW.o,rfl⟩
  ·cases ho
   have h2:vs 2=_:=hd ⟨2,.data⟩ (by simp) rfl;rw[h2] at i2;clear hd;have g5:=HW.o.cell f5;unfold dF;go_simp;exact⟨Ext.refl _,HW.o,rfl⟩
  ·cases ho
   have h3:vs 3=_:=hd ⟨3,.data⟩ (by simp) rfl;rw[h3] at i3;clear hd;unfold dF;go_simp;exact⟨Ext.refl _,HW.o,rfl⟩
  ·cases ho
   have h4:vs 4=_:=hd ⟨4,.data⟩ (by simp) rfl;rw[h4] at i4;clear hd;have g0:=HW.o.cell g0;have g1:=HW.o.cell g1;have g2:=HW.o.cell g2;have g3:=HW.o.cell g3;have g4:=HW.o.cell g4;have g5:=HW.o.cell g5;unfold dF;go_simp;exact⟨Ext.refl _,HW.o,rfl⟩
  ·cases ho
   clear hd;unfold dF;go_simp;exact⟨Ext.refl _,HW.o,rfl⟩
  ·cases ho
   have h0:vs 0=_:=hd ⟨0,.data⟩ (by simp) rfl;rw[h0] at i0;have h1:vs 1=_:=hd ⟨1,.data⟩ (by simp) rfl;rw[h1] at i1;have h5:vs 5=_:=hd ⟨5,.data⟩ (by simp) rfl;rw[h5] at i5;have h6:vs 6=_:=hd ⟨6,.data⟩ (by simp) rfl;rw[h6] at i6;clear hd;unfold dF;go_simp;refine(xK.o W HW.o).mono ?_;rintro e5 w5 ⟨qv,rfl,hq1,hx5⟩;exact⟨_,rfl,hx5,HW.o.trans hx5,qv,rfl,hq1⟩
  ·cases ho
   obtain⟨qv,h7,hs7⟩:∃(qv:jP),vs 7=.agg #[.bool qv.value,.int .i64 qv.pick,.slice qv.a qv.n qv.c]/\jK (mask W ((b6+1+1)::b11::M)) q qv:=hd ⟨7,.data⟩ (by simp) rfl;have YU:=ak hs7;clear hs7;rw[h7] at i7;clear hd;unfold dF;go_simp;exact⟨(Ext.refl W).alloc _,HW.o.alloc _,qv,W.heap.size,rfl,dG W _,HW.o.size,YU.o.mono (iy _ ((Ext.refl W).alloc _))⟩
  cases ho
  clear hd;unfold dF;go_simp;exact⟨Ext.refl _,HW.o,rfl⟩
 intro L vs W pR hW hR;rw[dh (by decide +kernel)];obtain⟨qv,y,h8,hs8⟩:∃(qv:jP) (y:Nat),vs 8=.slice (some ⟨y,0,none⟩) 1 1/\(W.heap[y]?=some (.cells #[.bool qv.value,.int .i64 qv.pick,.slice qv.a qv.n qv.c] 67 (0,0))/\w2.heap.size<=y/\jK (mask W ((b6+1+1)::b11::M)) q qv):=hR 8 (by simp) (by omega);have U4:=ak hs8;clear hs8;have h9:vs 9=.pointer (some ⟨b11,2,none⟩):=hR 9 (by simp) (by omega);refine lK rfl ?_
 change wpList _ _ _ [⟨none,.store _ (.tmp 65) (.tmp 64),_,_,_,none⟩] _ _
 simp only[acts,gK,List.range,List.range.loop,bF,dA,h8,h9];go_simp;have hW2:Ext w2 W:=hW;clear hR hW pR h8 h9;have PD:=ak U4.o;clear U4 f0 f1 f2 f3 f4 f5 ff e0 ef g0 g1 g2 g3 g4 g5;have qC:=ak hW2;obtain⟨W3,hW3⟩:∃W3,W3=W.setCell ⟨b11,2,none⟩ (.slice (some ⟨y,0,none⟩) 1 1):=⟨_,rfl⟩
 have hpw:W.heap[b11]?=some (.cells #[.bool V,.int .i64 (-1),.slice none 0 0] 67 (0,0)):=qC.o.blk HP2.o;have hc3:dO [b11] W W3:=by rw[hW3];exact pG _ _ _ _
 have KL:=ak (show W3.heap[b11]?=some (.cells #[.bool V,.int .i64 (-1),.slice (some ⟨y,0,none⟩) 1 1] 67 (0,0)) by rw[hW3];have:=oO (i:=2) hpw (.slice (some ⟨y,0,none⟩) 1 1);simpa using this);obtain⟨p0,p1,p2,Ba⟩:=fZ hpw;go_upto_region 21 with fail
 rw[<-hW3];clear hW3 p0 p1 p2 Ba hW2 hpw;have hlb:=dH HP2.o;have HZ3:=ak (hc3.blk (qC.o.blk HZ2.o) (by have:=nH.o;simp;omega));have gU:=ak (hc3.ext (gI.o.trans qC.o) (fun z hz=>by simp only[aK] at hz;have:=nH.o;have:=nM.o;omega));have HY3:=ak (hc3.blk PD.o.1 (by have:=PD.o.2.1;simp;omega));have Zk:=ak (show jK (mask W3 ((b6+1+1)::M)) q qv from(PD.o.2.2.mono (kW hc3 (fun z hz=>by simp only[aK] at hz;simp[hz]))).mono (eG _ (fun z hz=>by simp only[bK] at hz ⊢;rcases hz with h|h<;>simp[h])));have hys:=PD.o.2.1;clear hc3;have HIP:=ak (xE (v:=qv) (t:=67) HY3.o (fun hm=>by
  have h1:=nH.o;have h2:=nM.o;simp only[bK] at hm;rcases hm with hm|hm
  ·omega
  have:=HM.o _ hm;omega) Zk.o V (-1))
 obtain⟨p0,p1,p2,Ba⟩:=fZ KL.o;have hz:W3.heap[b6+1+1]?=some (.cells #[.bool false,.int .i64 0,.slice none 0 0] 67 (0,0)):=HZ3.o;obtain⟨r0,r1,r2,rf⟩:=fZ hz;have XJ:=dH hz;have HZ:=ak (show _/\_ from yu (w:=w) (M:=M) (pv:=⟨V,-1,some ⟨y,0,none⟩,1,1⟩) HZ3.o (by have:=nM.o;omega) gU.o HIP.o);simp only at HZ;go_wp2_with fail
 obtain⟨wz,hwz⟩:∃wz,wz=oq W3 (b6+1+1) (.bool V) (.int .i64 (-1)) (.slice (some ⟨y,0,none⟩) 1 1):=⟨_,rfl⟩
 rw[<-hwz] at HZ;unfold oq at hwz;rw[<-hwz];clear hwz;obtain⟨z0,z1,z2,zf⟩:=fZ HZ.o.1;refine bodyPost_ret (v:=jP.val ⟨V,-1,some ⟨y,0,none⟩,1,1⟩) (by simp[results,Tryz.results129,go_sem,jP.val,z0,z1,z2]) rfl ?_;rw[HQ.o];exact HZ.o.2
end Go.Proofs.YtefjomofjejklaaGreatDoor
