/- Joined. -/
import Derived.Test.YtefjomofjejklaaGreatDoorDs07
import Derived.StringKeys
import Derived.Maps.Range
import Derived.Lib.Builder
import Derived.Outline
import Derived.Laws.Cover1
import Derived.Sort.Walk0
import Derived.Shelf.SlGeneric
import Derived.Shelf.SlIter.Nil
import Derived.Shelf.SortM.Plain
import Derived.Shelf.SortM.SortNone
import Derived.Ground.GgzProg
import Derived.Ground.SlgmProg
namespace Go.Proofs.YtefjomofjejklaaGreatDoor
set_option maxRecDepth 100000
set_option maxHeartbeats 32000000
open Go.RowKit
def Ii (w:World) (l:List Pr) (vs:List gS):Prop:=l.length=vs.length/\∀i (h1:i<l.length) (h2:i<vs.length),gL w l[i] vs[i]
theorem Ii.mono {w w':World} {l:List Pr} {vs:List gS} (h:Ii w l vs) (hs:Sub w w'):Ii w' l vs:=⟨h.1,fun i h1 h2=>(h.2 i h1 h2).mono hs⟩
theorem Ii.nil (w:World):Ii w [] []:=⟨rfl,fun i h=>by simp at h⟩
theorem Ii.snoc {w:World} {l:List Pr} {vs:List gS} {c:Pr} {v:gS} (h:Ii w l vs) (hc:gL w c v):Ii w (l++[c]) (vs++[v]):=by
 refine⟨by simp[h.1],fun i h1 h2=>?_⟩;by_cases hi:i<l.length
 ·have hi2:i<vs.length:=by rw[<-h.1];exact hi
  simp only[bD hi,bD hi2];exact h.2 i hi hi2
 have e1:i=l.length:=by simp at h1;omega
 subst e1;simp only[bK (aU _),bK (show vs.length<=l.length by rw[h.1];exact aU _),Nat.sub_self,bB];simpa[h.1] using hc
theorem XS:uq 65 67 (.agg #[.bool false,.int .i64 0,.slice none 0 0]) 3 40:=⟨by kernel_rfl,by kernel_rfl,rfl,by decide⟩
theorem S9 {w:World} {M:ZN} {base:Nat} {v:Value} {l:List Pr} {vs:List gS} (h:w.ownsRow base 67 3 v l.length (vs.flatMap gS.cells)) (hM:∀k,v.ownBlock=some k->k∉M) (hR:Ii (mask w M) l vs) (b:Bool) (k:Int) :
  ∃a c,v=.slice a l.length c/\gL (mask w M) (.mk b k l) ⟨b,k,a,l.length,c⟩:=by
 have hl:=hR.1;rw[hl] at h;obtain⟨a,c,rfl,hr⟩:=eE.iZ gS.len h;refine⟨a,c,by rw[hl],.mk vs ⟨hl,by rw[hl];exact hr.2.1,hr.2.2.1,fun i h4=>?_⟩ hl.symm fun i h1 h2=>hR.2 i h1 h2⟩;obtain⟨b',off',e1,h5⟩:=hr.2.2.2 i h4;subst e1;exact⟨b',off',rfl,fun j hj=>by rw[eA,bL (hM _ rfl)];exact h5 j hj⟩
theorem yE (w:World) (b:Bool) (k:Int):gL w (.mk b k []) ⟨b,k,none,0,0⟩:=.mk [] ⟨rfl,aU _,aoX ⟨rfl,rfl⟩,fun i h=>by simp at h⟩ rfl fun i h=>by simp at h
theorem rX {w:World} {M:ZN} {g:Nat} {q:Pr} {v:gS} {t:TypeId} (h:w.heap[g]?=some (.cells v.cells.toArray t (0,0))) (hg:g∉M) (hq:gL (mask w M) q v) (b:Bool) (k:Int):gL (mask w M) (.mk b k [q]) ⟨b,k,some ⟨g,0,none⟩,1,1⟩:=by
 refine .mk [v] ⟨rfl,aU _,a4Z ⟨g,0,rfl⟩,fun i hi=>⟨g,0,rfl,fun j hj=>?_⟩⟩ rfl fun i h1 h2=>?_
 ·have h0:i=0:=by simp at hi;omega
  subst h0;simp only[bB] at hj ⊢;rw[eA,bL hg,bX h];simp
 have h0:i=0:=by simp at h1;omega
 subst h0;exact hq
mutual
theorem aw5 {D:BA->Option Nat} {s:BA} {n:Nat} (hn:D s=some n):(e:Ex)->s∈fX e->min n 2001<=wM D e
 | .mk op name words lo hi args,h=>by
  rw[fX,aN] at h;rw[wM];rcases h with h|h
  ·by_cases h3:op=3
   ·rw[bM h3] at h;have:s=name:=by simpa using h
    subst this;rw[bM h3,hn];simp only[Option.getD_some];omega
   rw[bL h3] at h;simp at h
  have:=aw4 hn args h;omega
theorem aw4 {D:BA->Option Nat} {s:BA} {n:Nat} (hn:D s=some n):(l:List Ex)->s∈iH l->min n 2001<=mI D l
 | [],h=>by rw[iH] at h;simp at h
 | e::r,h=>by
  rw[iH,aN] at h;rw[mI];rcases h with h|h
  ·have:=aw5 hn e h;omega
  have:=aw4 hn r h;omega
end
theorem ad9 {l:List cK} {e:Ex} {s:BA} {d:Nat} (hs:s∈fX e) (hd:dz l s=some d) {f:Nat} (h:jT l f (l.getD d fC).cond=2001):jT l (f+1) e=2001:=by
 have h1:=aan l (f+1) e;rw[jT] at h1 ⊢;have:=aw5 (D:=fun s=>(dz l s).map fun d=>jT l f (l.getD d fC).cond) (n:=2001) (by rw[hd];simp only[Option.map_some];rw[h]) e hs;omega
inductive Reach (l:List cK) (e:Ex):Nat->Prop
 | base {s:BA} {d:Nat}:s∈fX e->dz l s=some d->Reach l e d
 | step {d d':Nat} {s:BA}:Reach l e d->s∈fX (l.getD d fC).cond->dz l s=some d'->Reach l e d'
theorem Reach.large {l:List cK} {e:Ex} {d:Nat} (h:Reach l e d):(∀f,jT l f (l.getD d fC).cond=2001)->∀f,jT l f e=2001:=by
 induction h with
 | base hs hd =>
  intro h f;cases f with
  | zero=>rfl
  | succ f=>exact ad9 hs hd (h f)
 | step _ hs hd ih =>
  intro h;refine ih fun f=>?_
  cases f with
  | zero=>rfl
  | succ f=>exact ad9 hs hd (h f)
structure Used (l:List cK) (e:Ex) (u:List cK):Prop where
 defs:∀c∈u,c.kind=1/\∃d,dz l c.name=some d/\c.cond=(l.getD d fC).cond/\Reach l e d
 names:(u.map (·.name)).Nodup
 top:∀s∈fX e,∀d,dz l s=some d->s∈u.map (·.name)
 closed:∀c∈u,∀s∈fX c.cond,∀d,dz l s=some d->s∈u.map (·.name)
theorem Used.dz {l:List cK} {e:Ex} {u:List cK} (h:Used l e u) {i:Nat} (hi:i<u.length):dz u u[i].name=some i:=by
 unfold Proofs.YtefjomofjejklaaGreatDoor.dz;rw[aJ];refine⟨hi,?_,fun j hj=>?_⟩
 ·have:=(h.defs u[i] (aD hi)).1;simp[this]
 have hne:u[j].name≠u[i].name:=by
  have:=(List.pairwise_iff_getElem.1 h.names) j i (by simp;omega) (by simpa using hi) hj;simpa using this
 simp[hne]
theorem Used.at {l:List cK} {e:Ex} {u:List cK} (h:Used l e u) {s:BA} (hm:s∈u.map (·.name)):∃i d,i<u.length/\Proofs.YtefjomofjejklaaGreatDoor.dz u s=some i/\Proofs.YtefjomofjejklaaGreatDoor.dz l s=some d/\(u.getD i fC).cond=(l.getD d fC).cond:=by
 obtain⟨c,hc,rfl⟩:=List.mem_map.1 hm;obtain⟨i,hi,rfl⟩:=aW.1 hc;obtain⟨_,d,h1,h2,_⟩:=h.defs _ hc;exact⟨i,d,hi,h.dz hi,h1,by rw[fJ hi];exact h2⟩
theorem Used.only {l:List cK} {e:Ex} {u:List cK} (h:Used l e u) {s:BA} (hn:Proofs.YtefjomofjejklaaGreatDoor.dz l s=none):Proofs.YtefjomofjejklaaGreatDoor.dz u s=none:=by
 cases hd:Proofs.YtefjomofjejklaaGreatDoor.dz u s with
 | none=>rfl
 | some i =>
  have hi:=ot hd;have h1:=(tP hd).1;rw[fJ hi] at h1;obtain⟨_,d,h2,_⟩:=h.defs _ (aD hi);rw[h1,hn] at h2;cases h2
theorem Used.same {l:List cK} {e:Ex} {u:List cK} (h:Used l e u):∀f x,(∀s∈fX x,∀d,Proofs.YtefjomofjejklaaGreatDoor.dz l s=some d->s∈u.map (·.name))->jT u f x=jT l f x:=by
 intro f;induction f with
 | zero=>intro x _;rfl
 | succ f ih =>
  intro x hx;rw[jT,jT];refine tN _ fun s hs=>?_
  cases hd:Proofs.YtefjomofjejklaaGreatDoor.dz l s with
  | none=>rw[h.only hd];rfl
  | some d =>
   obtain⟨i,d',hi,h1,h2,h3⟩:=h.at (hx s hs d hd);rw[hd] at h2;cases h2
   rw[h1];simp only[Option.map_some,h3,a42];refine ih _ fun t ht d2 qd=>?_
   rw[<-h3,fJ hi] at ht;exact h.closed _ (aD hi) t ht d2 qd
theorem Used.len {l:List cK} {e:Ex} {u:List cK} (h:Used l e u):u.length<=l.length:=by
 have key:=vS (u.map fun c=>(Proofs.YtefjomofjejklaaGreatDoor.dz l c.name).getD 0) (List.range l.length) ?_ ?_
 ·simpa using key
 ·rw[List.Nodup,List.pairwise_map];have h1:=h.names;rw[List.Nodup,List.pairwise_map] at h1;refine h1.imp_of_mem fun {a b} ha hb hne he=>?_
  obtain⟨_,d,h2,_⟩:=h.defs a ha;obtain⟨_,d',h3,_⟩:=h.defs b hb;rw[h2,h3] at he;simp only[Option.getD_some] at he;subst he;exact hne ((tP h2).1.symm.trans (tP h3).1)
 intro x hx;obtain⟨c,hc,rfl⟩:=List.mem_map.1 hx;obtain⟨_,d,h2,_⟩:=h.defs c hc;rw[h2];exact a43.2 (ot h2)
theorem Used.good {l:List cK} {e:Ex} {u:List cK} (h:Used l e u) {o:ZN} (ht:Yi (u.map cK.tV) o) (hb:∀c∈u,qT c.cond=true) (he:qT e=true):szE (qG u o) e=dV l e:=by
 have hlt:∀i∈o,i<u.length:=fun i hi=>by simpa using ht.lt hi
 rw[ajX ht (fun i hi=>by rw[fJ (hlt i hi)];exact h.dz (hlt i hi)) (fun i hi=>by rw[fJ (hlt i hi)];exact hb _ (aD _)) e he];unfold dV;rw[<-h.same (l.length+1) e h.top,jT,jT];refine tN _ fun s hs=>?_
 cases hd:Proofs.YtefjomofjejklaaGreatDoor.dz u s with
 | none=>rfl
 | some i =>
  have hi:=ot hd;have hio:i∈o:=(ht.all i).2 (by rw[sY hi,(h.defs _ (aD hi)).1];rfl);obtain⟨q,hq⟩:=List.mem_iff_getElem?.1 hio;have hql:q<o.length:=(List.getElem?_eq_some_iff.1 hq).1;have h1:=ht.len;have h2:=h.len;simp only[List.length_map] at h1;simp only[Option.map_some,a42];exact Mh ht q i hq _ _ (by omega) (by omega)
theorem Used.aMQ {l:List cK} {e:Ex} {u:List cK} (h:Used l e u) {o:ZN} (ho:Lo (u.map cK.tV) o []) (hc:o.length<lY (u.map cK.tV)):dV l e=2001:=by
 have adI:∀f i,(hi:i<u.length)->i∉o->jT u f u[i].cond=2001:=by
  intro f;induction f with
  | zero=>intro i _ _;rfl
  | succ f ih =>
   intro i hi hio;have GL:iD (u.map cK.tV) i=true:=by rw[sY hi,(h.defs _ (aD hi)).1];rfl
   have hm:mY (u.map cK.tV) o i≠[]:=fun hm=>hio (by have:=(ho.ready i).2 ⟨GL,hm⟩;simpa using this)
   obtain⟨s,hs⟩:=List.exists_mem_of_ne_nil _ hm;obtain⟨h1,d,h2,h3⟩:=yh.1 hs;rw[xm hi,sx] at h1;rw[rA] at h2;have hdl:=ot h2;refine ad9 h1 h2 ?_;rw[fJ hdl];exact ih d hdl h3
 obtain⟨i,hi,hio⟩:∃i,i<u.length/\i∉o:=by
  refine Classical.byContradiction fun hn=>?_
  have:=vS _ o (List.nodup_range.filter (iD (u.map cK.tV))) fun i hi=>Classical.byContradiction fun hio=>hn ⟨i,by simpa using mz (Dv.1 hi),hio⟩
  unfold lY at hc;omega
 obtain⟨_,d,h1,h2,h3⟩:=h.defs _ (aD hi);refine h3.large (fun f=>?_) _;rw[<-h2,<-h.same f u[i].cond (h.closed _ (aD hi))];exact adI f i hi hio
open Go.RowKit Go.Maps
def Oh (v:Value):Option (DataW Value×List MemPlace):=some (.held v,[])
def K4 (D:DataW Value) (f:Lit->Option Value):Prop:=∀x,WideAt.IsKeyLit x->Maps.has D x=(f x).isSome/\∀v,f x=some v->∀z,D.atKey x z=.held v
def ig (w:World) (k:TypeId) (b n:Nat) (f:Lit->Option Value):Prop:=∃D:DataW Value,w.ownsMap Tryz.prog k Oh b n D/\K4 D f
open Classical in
noncomputable def Rw (f:Lit->Option Value) (x:Lit) (v:Option Value):Lit->Option Value:=fun y=>if y=x then v else f y
theorem Ny (f:Lit->Option Value) (x:Lit) (v:Option Value):Rw f x v x=v:=by simp[Rw]
theorem JV (f:Lit->Option Value) {x y:Lit} (v:Option Value) (h:y≠x):Rw f x v y=f y:=by simp[Rw,h]
theorem ig.made (w:World) (k:TypeId):ig (w.alloc (.map #[] 0)) k w.heap.size 0 (fun _=>none) :=
 ⟨.map [],World.ownsMap_made w _ k Oh,fun x _=>⟨rfl,fun v h=>by cases h⟩⟩
theorem ig.lt {w:World} {k:TypeId} {b n:Nat} {f:Lit->Option Value} (h:ig w k b n f):b<w.heap.size:=by obtain⟨D,h,_⟩:=h;exact h.lt
theorem ig.more {w:World} {k:TypeId} {b n n':Nat} {f:Lit->Option Value} (h:ig w k b n f) (hn:n<=n'):ig w k b n' f:=by obtain⟨D,h,hs⟩:=h;exact⟨D,h.mono hn,hs⟩
theorem ig.cR {w w':World} {k:TypeId} {b n:Nat} {f:Lit->Option Value} {N:ZN} (h:ig w k b n f) (hc:ct N w w') (hn:b∉N):ig w' k b n f:=by
 have hlt:=h.lt;obtain⟨D,⟨es,clock,hb,r⟩,hs⟩:=h;exact⟨D,⟨es,clock,(hc.block b hlt hn).trans hb,r⟩,hs⟩
theorem ig.ext {w w':World} {k:TypeId} {b n:Nat} {f:Lit->Option Value} (h:ig w k b n f) (he:Ext w w'):ig w' k b n f:=h.cR (he.cR []) (by simp)
theorem ig.congr {w:World} {k:TypeId} {b n:Nat} {f g:Lit->Option Value} (h:ig w k b n f) (e:∀x,f x=g x):ig w k b n g:=by rw[show g=f from funext fun x=>(e x).symm];exact h
theorem akP {w w':World} {b:Nat} (h:w.grownBy w' (some b)):ct [b] w w':=⟨h.os,h.tape,h.output,h.size,fun k hk hn=>h.block k hk (fun e=>hn (by simp at e;simp[e]))⟩
theorem K4.at {D:DataW Value} {f:Lit->Option Value} (h:K4 D f) {x:Lit} (hx:WideAt.IsKeyLit x) {v z:Value} (hv:DataW.held v=D.atKey x (.held z)):v=(f x).getD z:=by
 obtain⟨h1,h2⟩:=h x hx;cases hf:f x with
 | none =>
  rw[hf] at h1;rw[atKey_of_not_has h1] at hv;simpa using hv
 | some u =>
  rw[h2 u hf] at hv;simpa using hv
theorem K4.put {D:DataW Value} {f:Lit->Option Value} (h:K4 D f) (hD:IsMap D) {x:Lit} (hx:WideAt.IsKeyLit x) (v:Value):K4 (D.put x (.held v)) (Rw f x (some v)):=by
 intro y hy;by_cases e:y=x
 ·subst e;rw[Ny];refine⟨by rw[has_put_same hD hx];rfl,fun u hu z=>?_⟩;rw[atKey_put_same hD hx];cases hu;rfl
 rw[JV _ _ e];refine⟨by rw[has_put_other e];exact(h y hy).1,fun u hu z=>?_⟩;rw[atKey_put_other e];exact(h y hy).2 u hu z
theorem K4.del {D:DataW Value} {f:Lit->Option Value} (h:K4 D f) {x:Lit} (hx:WideAt.IsKeyLit x):K4 (D.del x) (Rw f x none):=by
 intro y hy;by_cases e:y=x
 ·subst e;rw[Ny];exact⟨by rw[has_del_same];rfl,fun u hu=>by cases hu⟩
 rw[JV _ _ e];refine⟨by rw[has_del_other e];exact(h y hy).1,fun u hu z=>?_⟩;rw[atKey_del_other e];exact(h y hy).2 u hu z
theorem K4.size {D:DataW Value} {f:Lit->Option Value} (h:K4 D f) {es:List (Lit×DataW Value)} (hD:D=.map es) (hk:∀p∈es,WideAt.IsKeyLit p.1):Maps.size D=0 ↔ ∀x,WideAt.IsKeyLit x->f x=none:=by
 subst hD;rw[size_eq];constructor
 ·intro h0 x hx;have:=(h x hx).1;rw[aR h0] at this;cases hf:f x with
  | none=>rfl
  | some u=>rw[hf] at this;simp[has_eq] at this
 intro h0;cases es with
 | nil=>rfl
 | cons p r =>
  have hp:=hk p (by simp);have:=(h p.1 hp).1;rw[h0 p.1 hp,has_eq] at this;simp[WideAt.sameKey_self hp] at this
section
variable (w:World) {ops:Array Oper} {rest:List Oper} {o:Oper} {a:Act} {Q:Exit->Act->World->Prop}
theorem gO (hg:o.guard=none) (m x:Operand) (t:TypeId) (hop:o.op=Op.lookup t m x true) (k e:TypeId) (K:Keyed Tryz.prog k) (ht:Tryz.prog.underlying t=some (.map k e)) {z:Value} (hz:(zeroValue e).run Tryz.prog w=.ok z w) (b n:Nat) (f:Lit->Option Value)
  (hm:a.eval m=.map (some b)) (hmap:ig w k b n f) (key:Value) (kl:Lit) (hx:a.eval x=key) (hkey:keyOf Tryz.prog k key=some kl) (fq:WideAt.IsKeyLit kl)
  (hK:wpList Tryz.prog ops Q rest (a.put o.dst (.tuple #[(f kl).getD z,.bool (f kl).isSome])) w):wpList Tryz.prog ops Q (o::rest) a w:=by
 obtain⟨D,hown,hf⟩:=hmap;refine wpList_lookup_own_ok w hg m x t hop k e K ht Oh hz (.held z) [] rfl b n D hm hown key kl hx hkey fun v ps hv=>?_
 have e1:DataW.held v=D.atKey kl (.held z):=by
  simp only[Oh,a42,Prod.mk.injEq] at hv;exact hv.1
 rw[hf.at fq e1,(hf kl fq).1];exact hK
theorem vM (hg:o.guard=none) (m x:Operand) (t:TypeId) (hop:o.op=Op.lookup t m x false) (k e:TypeId) (K:Keyed Tryz.prog k) (ht:Tryz.prog.underlying t=some (.map k e)) {z:Value} (hz:(zeroValue e).run Tryz.prog w=.ok z w) (b n:Nat) (f:Lit->Option Value)
  (hm:a.eval m=.map (some b)) (hmap:ig w k b n f) (key:Value) (kl:Lit) (hx:a.eval x=key) (hkey:keyOf Tryz.prog k key=some kl) (fq:WideAt.IsKeyLit kl)
  (hK:wpList Tryz.prog ops Q rest (a.put o.dst ((f kl).getD z)) w):wpList Tryz.prog ops Q (o::rest) a w:=by
 obtain⟨D,hown,hf⟩:=hmap;refine wpList_plain hg fun K' hK'=>?_
 obtain⟨v,ps,hrun,hv⟩:=hown.lookup K ht hz (zd:=.held z) (zp:=[]) rfl hkey;have e1:DataW.held v=D.atKey kl (.held z):=by
  simp only[Oh,a42,Prod.mk.injEq] at hv;exact hv.1
 rw[<-hf.at fq e1] at hK;unfold Oper.wp;simp[execOp,hop,hm,hx,hrun,Result.andThen];exact hK' _ _ hK
theorem lR (hg:o.guard=none) (m x v:Operand) (t:TypeId) (hop:o.op=Op.mapUpdate t m x v) (k e:TypeId) (K:Keyed Tryz.prog k) (ht:Tryz.prog.underlying t=some (.map k e)) (b n:Nat) (f:Lit->Option Value)
  (hm:a.eval m=.map (some b)) (hmap:ig w k b n f) (hn:n<maxLen) (key val:Value) (kl:Lit) (hx:a.eval x=key) (hv:a.eval v=val) (hkey:keyOf Tryz.prog k key=some kl) (fq:WideAt.IsKeyLit kl)
  (hK:∀w',ig w' k b (n+1) (Rw f kl (some val))->ct [b] w w'->wpList Tryz.prog ops Q rest (a.put o.dst undef) w'):wpList Tryz.prog ops Q (o::rest) a w:=by
 obtain⟨D,hown,hf⟩:=hmap;refine wpList_mapUpdate_own w hg m x v t hop k e K ht Oh b n D hm hown hn key val kl hx hv hkey (.held val) [] rfl fun w' h1 h2=>?_
 exact hK w' ⟨_,h1,hf.put hown.isMap fq val⟩ (akP h2)
theorem ael (hg:o.guard=none) (m x:Operand) (t k:TypeId) (hop:o.op=Op.call { callee:=Callee.builtin Builtin.delete,args:=#[m,x],argTypes:=#[t,k] }) (e:TypeId) (K:Keyed Tryz.prog k) (ht:Tryz.prog.underlying t=some (.map k e)) (b n:Nat) (f:Lit->Option Value)
  (hm:a.eval m=.map (some b)) (hmap:ig w k b n f) (key:Value) (kl:Lit) (hx:a.eval x=key) (hkey:keyOf Tryz.prog k key=some kl) (fq:WideAt.IsKeyLit kl)
  (hK:∀w',ig w' k b n (Rw f kl none)->ct [b] w w'->wpList Tryz.prog ops Q rest (a.put o.dst (.tuple #[])) w'):wpList Tryz.prog ops Q (o::rest) a w:=by
 obtain⟨D,hown,hf⟩:=hmap;refine wpList_delete_own w hg m x t k hop e K ht Oh b n D hm hown key kl hx hkey fun w' h1 h2=>?_
 exact hK w' ⟨_,h1,hf.del fq⟩ (akP h2.grown)
theorem Sr (hg:o.guard=none) (m:Operand) (t:TypeId) (hop:o.op=Op.call { callee:=Callee.builtin Builtin.len,args:=#[m],argTypes:=#[t] }) (k e:TypeId) (K:Keyed Tryz.prog k) (ht:Tryz.prog.underlying t=some (.map k e)) (b n:Nat) (f:Lit->Option Value)
  (hm:a.eval m=.map (some b)) (hmap:ig w k b n f)
  (hK:∀s:Nat,s<=n->(s=0 ↔ ∀x,WideAt.IsKeyLit x->f x=none)->wpList Tryz.prog ops Q rest (a.put o.dst (.int .i64 s)) w):wpList Tryz.prog ops Q (o::rest) a w:=by
 obtain⟨D,hown,hf⟩:=hmap;refine wpList_len_own w hg m t hop k e ht Oh b n D hm hown ?_;obtain⟨es,hes,_,hk⟩:=hown.entries K;exact hK _ hown.size_le (hf.size hes hk)
end
theorem ayB {e:TypeId} {g:Nat} {cur:Array Value} {xs:ZI} {w:World} (hg:w.heap[g]?=some (.cells cur e (0,0))) (h4:cur.toList.take xs.length=xs.map fun z=>Value.int .i64 z) {i:Nat} (hi:i<xs.length):w.cell? ⟨g,i,none⟩=some (.int .i64 xs[i])/\w.frozen? ⟨g,i,none⟩=false:=by
 have h5:(cur.toList.take xs.length)[i]?=some (.int .i64 xs[i]):=by rw[h4];simp[hi]
 rw[List.getElem?_take,bM hi] at h5;refine⟨?_,Lib.frozen_of_heap hg i⟩;rw[Lib.cell_of_heap hg];simpa using h5
theorem ayT (n b:Nat) (w:World):(method (n+1) 168 (.pointer (some ⟨b,0,none⟩)) "Push").run Tryz.prog w=.ok (233,.pointer (some ⟨b,0,none⟩)) w:=by kernel_rfl
theorem aCO (n b:Nat) (w:World):(method (n+1) 168 (.pointer (some ⟨b,0,none⟩)) "Pop").run Tryz.prog w=.ok (232,.pointer (some ⟨b,0,none⟩)) w:=by kernel_rfl
theorem aqv (n b:Nat) (v:Value) (w:World) (h:w.cell? ⟨b,0,none⟩=some v):(method (n+1) 168 (.pointer (some ⟨b,0,none⟩)) "Len").run Tryz.prog w=.ok (111,v) w:=by
 have e:(method (n+1) 168 (.pointer (some ⟨b,0,none⟩)) "Len").run Tryz.prog w=(loadVar 169 ⟨b,0,none⟩ >>= fun v=>pure (111,v)).run Tryz.prog w:=by kernel_rfl
 rw[e];simp[loadVar,go_sem,h]
theorem aby (n b:Nat) (v:Value) (w:World) (h:w.cell? ⟨b,0,none⟩=some v):(method (n+1) 168 (.pointer (some ⟨b,0,none⟩)) "Less").run Tryz.prog w=.ok (231,v) w:=by
 have e:(method (n+1) 168 (.pointer (some ⟨b,0,none⟩)) "Less").run Tryz.prog w=(loadVar 169 ⟨b,0,none⟩ >>= fun v=>pure (231,v)).run Tryz.prog w:=by kernel_rfl
 rw[e];simp[loadVar,go_sem,h]
theorem abx (n b:Nat) (v:Value) (w:World) (h:w.cell? ⟨b,0,none⟩=some v):(method (n+1) 168 (.pointer (some ⟨b,0,none⟩)) "Swap").run Tryz.prog w=.ok (235,v) w:=by
 have e:(method (n+1) 168 (.pointer (some ⟨b,0,none⟩)) "Swap").run Tryz.prog w=(loadVar 169 ⟨b,0,none⟩ >>= fun v=>pure (235,v)).run Tryz.prog w:=by kernel_rfl
 rw[e];simp[loadVar,go_sem,h]
theorem alz (n b:Nat) (w:World):(nilAhead (n+1) 168 (.pointer (some ⟨b,0,none⟩)) "Len").run Tryz.prog w=.ok (some false) w:=by kernel_rfl
theorem Ye (n b:Nat) (w:World):(nilAhead (n+1) 168 (.pointer (some ⟨b,0,none⟩)) "Less").run Tryz.prog w=.ok (some false) w:=by kernel_rfl
theorem Yd (n b:Nat) (w:World):(nilAhead (n+1) 168 (.pointer (some ⟨b,0,none⟩)) "Swap").run Tryz.prog w=.ok (some false) w:=by kernel_rfl
theorem avS (n b:Nat) (w:World):(nilAhead (n+1) 168 (.pointer (some ⟨b,0,none⟩)) "Push").run Tryz.prog w=.ok (some false) w:=by kernel_rfl
theorem aAB (n b:Nat) (w:World):(nilAhead (n+1) 168 (.pointer (some ⟨b,0,none⟩)) "Pop").run Tryz.prog w=.ok (some false) w:=by kernel_rfl
theorem PY (a:OA) (n c:Nat) (w:World):Calls Tryz.prog 111 #[.slice a n c] w (pg (.int .i64 n) w):=by
 go_enter Tryz.func111,Tryz.ntmps111
 go_wp2_with fail;go_ret;exact⟨rfl,rfl⟩
theorem TB (g n c i j:Nat) (x y:Int) (w:World) (hi:i<n) (hj:j<n) (h1:w.cell? ⟨g,i,none⟩=some (.int .i64 x)) (h2:w.cell? ⟨g,j,none⟩=some (.int .i64 y)) :
  Calls Tryz.prog 231 #[.slice (some ⟨g,0,none⟩) n c,.int .i64 i,.int .i64 j] w (cz (.bool (decide (x<y))) w):=by
 go_enter Tryz.func231,Tryz.ntmps231
 go_upto_region 1 with fail;go_quiet (fail)
 go_wp2_with fail;go_ret;exact⟨rfl,Ext.drewN (Tz _) _⟩
def abb (g n c i j:Nat) (x y:Int):List Value :=
 [.slice (some ⟨g,0,none⟩) n c,.int .i64 i,.slice (some ⟨g,0,none⟩) n c,.int .i64 j,.slice (some ⟨g,0,none⟩) n c,.int .i64 j,.pointer (some ⟨g,j,none⟩),.int .i64 y,.slice (some ⟨g,0,none⟩) n c,.int .i64 i,.pointer (some ⟨g,i,none⟩),.int .i64 x,.pointer (some ⟨g,i,none⟩),undef,.pointer (some ⟨g,j,none⟩)]
def RS (tab:List Value) (i:Nat) (u:Value) (_:World):Prop:=u=tab.getD i undef
def GS (w w1:World) (L:ZN) (W:World):Prop:=(13∉L->∃k,W=w.drewN k)/\(13∈L->∃k,W=w1.drewN k)
def ES (_:Nat) (_ _:World):Prop:=True
theorem GS.plain {w w1:World} {L:ZN} {W:World} (h:GS w w1 L W) {i:Nat} (hi:i≠13):GS w w1 (L++[i]) W:=by
 have hm:13∈L++[i] ↔ 13∈L:=by simp;omega
 unfold GS;rw[hm];exact h
theorem Sz {ops:Array Oper} {m:Nat} {L:ZN} {i:Nat} (hg:(13==i||fK ops m 13 i)=true) (hi:i∉L) (hL:∀j∈L,fK ops m j i=false):13∉L:=by
 intro h;rw[hL 13 h] at hg;simp only[Bool.or_false,a47] at hg;exact hi (hg ▸ h)
theorem Tw (g n c i j:Nat) (x y:Int) (w:World) (hi:i<n) (hj:j<n) (h1:w.cell? ⟨g,i,none⟩=some (.int .i64 x)) (h2:w.cell? ⟨g,j,none⟩=some (.int .i64 y)) (hf:∀k,w.frozen? ⟨g,k,none⟩=false) :
  Calls Tryz.prog 235 #[.slice (some ⟨g,0,none⟩) n c,.int .i64 i,.int .i64 j] w (fun e w'=>e=.returned (.tuple #[])/\∃k,w'=((w.setCell ⟨g,i,none⟩ (.int .i64 y)).setCell ⟨g,j,none⟩ (.int .i64 x)).drewN k):=by
 go_enter Tryz.func235,Tryz.ntmps235
 go_upto_region 0 with fail;refine kU (m:=15) [11,14] (GS w (w.setCell ⟨g,i,none⟩ (.int .i64 y))) ES (RS (abb g n c i j x y)) (by kernel_rfl) (by kernel_rfl) ⟨fun _=>⟨1,rfl⟩,fun h=>by simp at h⟩ (fun _ _ _ _ _ _ _ _ _ hR _=>hR) ?_ ?_
 ·intro q o hq ho L vs W yQ hnc hG hd ρ hρ;have jA:=ltc15 hq;clear hq;have o0:ρ (.tmp 0)=.slice (some ⟨g,0,none⟩) n c:=hρ.out 0 rfl;have o1:ρ (.tmp 1)=.int .i64 i:=hρ.out 1 rfl;have o2:ρ (.tmp 2)=.int .i64 j:=hρ.out 2 rfl;have hcs:=hρ.const;have HG:=ai hG;clear hG;rcases jA with rfl|rfl|rfl|rfl|rfl|rfl|rfl|rfl|rfl|rfl|rfl|rfl|rfl|rfl|rfl
  ·cases ho
   clear hρ hd;unfold bQ;go_simp;exact⟨trivial,HG.o.plain (by omega),rfl⟩
  ·cases ho
   clear hρ hd;unfold bQ;go_simp;exact⟨trivial,HG.o.plain (by omega),rfl⟩
  ·cases ho
   clear hρ hd;unfold bQ;go_simp;exact⟨trivial,HG.o.plain (by omega),rfl⟩
  ·cases ho
   clear hρ hd;unfold bQ;go_simp;exact⟨trivial,HG.o.plain (by omega),rfl⟩
  ·cases ho
   clear hρ hd;unfold bQ;go_simp;exact⟨trivial,HG.o.plain (by omega),rfl⟩
  ·cases ho
   clear hρ hd;unfold bQ;go_simp;exact⟨trivial,HG.o.plain (by omega),rfl⟩
  ·cases ho
   have i4:=hρ.i 4 10;have d4:vs 4=_:=hd ⟨4,.data⟩ (by simp) rfl;rw[d4] at i4;dsimp only[abb,List.getD_cons_zero,List.getD_cons_succ] at i4;have i5:=hρ.i 5 11;have d5:vs 5=_:=hd ⟨5,.data⟩ (by simp) rfl;rw[d5] at i5;dsimp only[abb,List.getD_cons_zero,List.getD_cons_succ] at i5;clear hρ hd;unfold bQ;go_simp;exact⟨trivial,HG.o.plain (by omega),rfl⟩
  ·cases ho
   have i6:=hρ.i 6 12;have d6:vs 6=_:=hd ⟨6,.data⟩ (by simp) rfl;rw[d6] at i6;dsimp only[abb,List.getD_cons_zero,List.getD_cons_succ] at i6;obtain⟨kw,rfl⟩:=HG.o.1 (Sz (by decide +kernel) yQ hnc);have c1:(w.drewN kw).cell? ⟨g,i,none⟩=some (.int .i64 x):=h1;have c2:(w.drewN kw).cell? ⟨g,j,none⟩=some (.int .i64 y):=h2;have cf:∀k,(w.drewN kw).frozen? ⟨g,k,none⟩=false:=hf;clear hρ hd;unfold bQ;go_simp;exact⟨trivial,HG.o.plain (by omega),rfl⟩
  ·cases ho
   clear hρ hd;unfold bQ;go_simp;exact⟨trivial,HG.o.plain (by omega),rfl⟩
  ·cases ho
   clear hρ hd;unfold bQ;go_simp;exact⟨trivial,HG.o.plain (by omega),rfl⟩
  ·cases ho
   have i8:=hρ.i 8 14;have d8:vs 8=_:=hd ⟨8,.data⟩ (by simp) rfl;rw[d8] at i8;dsimp only[abb,List.getD_cons_zero,List.getD_cons_succ] at i8;have i9:=hρ.i 9 15;have d9:vs 9=_:=hd ⟨9,.data⟩ (by simp) rfl;rw[d9] at i9;dsimp only[abb,List.getD_cons_zero,List.getD_cons_succ] at i9;clear hρ hd;unfold bQ;go_simp;exact⟨trivial,HG.o.plain (by omega),rfl⟩
  ·cases ho
   have i10:=hρ.i 10 16;have d10:vs 10=_:=hd ⟨10,.data⟩ (by simp) rfl;rw[d10] at i10;dsimp only[abb,List.getD_cons_zero,List.getD_cons_succ] at i10;obtain⟨kw,rfl⟩:=HG.o.1 (Sz (by decide +kernel) yQ hnc);have c1:(w.drewN kw).cell? ⟨g,i,none⟩=some (.int .i64 x):=h1;have c2:(w.drewN kw).cell? ⟨g,j,none⟩=some (.int .i64 y):=h2;have cf:∀k,(w.drewN kw).frozen? ⟨g,k,none⟩=false:=hf;clear hρ hd;unfold bQ;go_simp;exact⟨trivial,HG.o.plain (by omega),rfl⟩
  ·cases ho
   have i0:=hρ.i 0 6;have d0:vs 0=_:=hd ⟨0,.data⟩ (by simp) rfl;rw[d0] at i0;dsimp only[abb,List.getD_cons_zero,List.getD_cons_succ] at i0;have i1:=hρ.i 1 7;have d1:vs 1=_:=hd ⟨1,.data⟩ (by simp) rfl;rw[d1] at i1;dsimp only[abb,List.getD_cons_zero,List.getD_cons_succ] at i1;clear hρ hd;unfold bQ;go_simp;exact⟨trivial,HG.o.plain (by omega),rfl⟩
  ·cases ho
   have i12:=hρ.i 12 18;have d12:vs 12=_:=hd ⟨12,.data⟩ (by simp) rfl;rw[d12] at i12;dsimp only[abb,List.getD_cons_zero,List.getD_cons_succ] at i12;have i7:=hρ.i 7 13;have d7:vs 7=_:=hd ⟨7,.data⟩ (by simp) rfl;rw[d7] at i7;dsimp only[abb,List.getD_cons_zero,List.getD_cons_succ] at i7;obtain⟨kw,rfl⟩:=HG.o.1 (Sz (by decide +kernel) yQ hnc);have c1:(w.drewN kw).cell? ⟨g,i,none⟩=some (.int .i64 x):=h1;have c2:(w.drewN kw).cell? ⟨g,j,none⟩=some (.int .i64 y):=h2;have cf:∀k,(w.drewN kw).frozen? ⟨g,k,none⟩=false:=hf;clear hρ hd;unfold bQ;go_simp;exact⟨trivial,⟨fun h=>a40 (by simp) h,fun _=>⟨kw,rfl⟩⟩,rfl⟩
  cases ho
  have i2:=hρ.i 2 8;have d2:vs 2=_:=hd ⟨2,.data⟩ (by simp) rfl;rw[d2] at i2;dsimp only[abb,List.getD_cons_zero,List.getD_cons_succ] at i2;have i3:=hρ.i 3 9;have d3:vs 3=_:=hd ⟨3,.data⟩ (by simp) rfl;rw[d3] at i3;dsimp only[abb,List.getD_cons_zero,List.getD_cons_succ] at i3;clear hρ hd;unfold bQ;go_simp;exact⟨trivial,HG.o.plain (by omega),rfl⟩
 intro L vs W hall hG hR;rw[bL (by decide +kernel)];have r11:vs 11=.int .i64 x:=hR 11 (by simp) (by omega);have r14:vs 14=.pointer (some ⟨g,j,none⟩):=hR 14 (by simp) (by omega);obtain⟨kw,rfl⟩:=hG.2 (hall 13 (by omega));have c2:∃u,((w.setCell ⟨g,i,none⟩ (.int .i64 y)).drewN kw).cell? ⟨g,j,none⟩=some u:=by
  by_cases e:i=j
  ·subst e;exact⟨_,World.cell?_setCell_same' w ⟨g,i,none⟩ (.int .i64 y) (by simp[h1])⟩
  exact⟨_,(World.cell?_setCell_other w _ _ _ (by simp only[ne_eq,Addr.mk.injEq,true_and,and_true];omega)).trans h2⟩
 obtain⟨u,c2⟩:=c2;have cf:((w.setCell ⟨g,i,none⟩ (.int .i64 y)).drewN kw).frozen? ⟨g,j,none⟩=false:=(World.frozen?_setCell _ _ _ _).trans (hf j);clear hG hall hR;unfold wpOp;simp only[fL,dU,List.range,List.range.loop,aX,bN,r11,r14];go_simp;refine aoX ?_;go_wp2_with fail
 go_end0
 exact⟨rfl,kw,rfl⟩
structure tQ (B b g cap:Nat) (xs:ZI) (w:World):Prop where
 hB:B<=b
 hg:B<=g
 hgb:g≠b
 hb:w.heap[b]?=some (.cells #[.slice (some ⟨g,0,none⟩) xs.length cap] 171 (0,0))
 row:∃cur:Array Value,w.heap[g]?=some (.cells cur 3 (0,0))/\xs.length<=cap/\cap<=maxLen/\cur.size=cap/\cur.toList.take xs.length=xs.map fun z=>Value.int .i64 z
theorem tQ.cell {B b g cap:Nat} {xs:ZI} {w:World} (h:tQ B b g cap xs w) {i:Nat} (hi:i<xs.length):w.cell? ⟨g,i,none⟩=some (.int .i64 xs[i]):=by
 obtain⟨cur,h1,_,_,_,h5⟩:=h.row;exact(ayB h1 h5 hi).1
theorem tQ.free {B b g cap:Nat} {xs:ZI} {w:World} (h:tQ B b g cap xs w) (i:Nat):w.frozen? ⟨g,i,none⟩=false:=by
 obtain⟨cur,h1,_⟩:=h.row;exact Lib.frozen_of_heap h1 i
theorem tQ.head {B b g cap:Nat} {xs:ZI} {w:World} (h:tQ B b g cap xs w):w.cell? ⟨b,0,none⟩=some (.slice (some ⟨g,0,none⟩) xs.length cap):=bX h.hb 0
theorem tQ.cR {B b g cap:Nat} {xs:ZI} {w w':World} {N:ZN} (h:tQ B b g cap xs w) (hc:ct N w w') (h1:b∉N) (h2:g∉N):tQ B b g cap xs w':=by
 obtain⟨a1,a2,a3,a4,cur,a5,r⟩:=h;exact⟨a1,a2,a3,hc.blk a4 h1,cur,hc.blk a5 h2,r⟩
theorem tQ.ext {B b g cap:Nat} {xs:ZI} {w w':World} (h:tQ B b g cap xs w) (hx:Ext w w'):tQ B b g cap xs w':=h.cR (hx.cR []) (by simp) (by simp)
theorem tQ.set {B b g cap:Nat} {xs:ZI} {w:World} (h:tQ B b g cap xs w) (i:Nat) (z:Int):tQ B b g cap (xs.set i z) (w.setCell ⟨g,i,none⟩ (.int .i64 z)):=by
 obtain⟨a1,a2,a3,a4,cur,a5,a6,a7,a8,a9⟩:=h;refine⟨a1,a2,a3,?_,cur.setIfInBounds i (.int .i64 z),?_,by simpa using a6,a7,by simpa using a8,?_⟩
 ·rw[Below.heap_setCell _ _ _ _ (by simpa using fun h=>a3 h.symm)];simpa using a4
 ·simp[World.setCell,Array.getElem?_modify,a5]
 simp only[Array.toList_setIfInBounds,List.length_set];rw[List.take_set,a9,List.map_set]
theorem tQ.swap {B b g cap:Nat} {xs:ZI} {w:World} (h:tQ B b g cap xs w) {i j:Nat} (hi:i<xs.length) (hj:j<xs.length) (k:Nat) :
  tQ B b g cap ((xs.set i xs[j]).set j xs[i]) (((w.setCell ⟨g,i,none⟩ (.int .i64 xs[j])).setCell ⟨g,j,none⟩ (.int .i64 xs[i])).drewN k)/\ct [g] w (((w.setCell ⟨g,i,none⟩ (.int .i64 xs[j])).setCell ⟨g,j,none⟩ (.int .i64 xs[i])).drewN k) :=
 ⟨((h.set i xs[j]).set j xs[i]).ext ((Tz _).drewN k),(((ct.refl [g] w).setCell (aoX (by simp)) _).setCell (aoX (by simp)) _).drewN k⟩
def aSq (v:Value) (B b g cap:Nat) (xs:ZI) (w:World) (e:Ending) (w':World):Prop:=e=.returned v/\∃ys:ZI,ys.Perm xs/\tQ B b g cap ys w'/\ct [g] w w'
theorem aBq (B b g cap:Nat) (xs:ZI) (w:World) (h:tQ B b g cap xs w) (j:Nat) (hj:j<xs.length) :
  Calls Tryz.prog 143 #[.iface 168 (.pointer (some ⟨b,0,none⟩)),.int .i64 j] w (aSq (.tuple #[]) B b g cap xs w):=by
 obtain⟨cur,hr1,hr2,hr3,hr4,hr5⟩:=h.row;have hlen:xs.length<=9223372036854775807:=by unfold maxLen at hr3;omega
 have HP:=ai h;clear hr1 hr2 hr3 hr4 hr5 cur h;go_enter Tryz.func143,Tryz.ntmps143
 go_wp2_with fail;go_loopw [1,4] (fun t _ wr=>∃(k:Nat) (ys:ZI),t=.int .i64 k/\k<ys.length/\ys.length=xs.length/\ys.Perm xs/\tQ B b g cap ys wr/\ct [g] w wr) (fun t _ _=>(intOf t).toNat)
 case atStart=>exact⟨j,xs,rfl,hj,rfl,List.Perm.refl _,HP.o,ct.refl _ _⟩
 case round =>
  obtain⟨k,ys,rfl,hk,Et,hyp,hpl,hch⟩:=hrel;have Nb:=ai hpl;have HC:=ai hch;have HY:=ai hyp;have HYL:=ai Et;have akO:=hpl.head;have fq:k<=9223372036854775807:=by omega
  clear hpl hch hyp Et HP;have ha:=fun n=>Ye n b
  have hm:=fun n=>aby n b _ wr akO
  by_cases hk0:k=0
  ·subst hk0;go_wp2_with fail
   go_end0
   exact⟨rfl,ys,HY.o,Nb.o,HC.o⟩
  obtain⟨p,hp⟩:∃p:Nat,p=(k - 1) / 2:=⟨_,rfl⟩
  have q1:((k:Int) - 1).tdiv 2=(p:Int):=by
   rw[Int.tdiv_eq_ediv_of_nonneg (by omega)];omega
  have hpk:p<k:=by omega
  have hpy:p<ys.length:=by omega
  have t0:((p:Int)==(k:Int))=false:=by simp;omega
  have HHP:=ai hp;clear hp hk0;have L:=TB g ys.length cap k p ys[k] ys[p] wr hk hpy (Nb.o.cell hk) (Nb.o.cell hpy);have HL:=ai L;clear L;cases hd:decide (ys[k]<ys[p])
  all_goals
   have HD:=ai hd;clear hd;go_wp2_with fail;refine HL.o.mono ?_;rintro r w1 ⟨rfl,hx1⟩;rw[HD.o];have dI:=ai hx1;have hh1:=(Nb.o.ext hx1).head;clear hx1 hm ha akO;have ha:=fun n=>Yd n b
   have hm:=fun n=>abx n b _ w1 hh1
   go_wp2_with fail
  ·go_end0
   exact⟨rfl,ys,HY.o,Nb.o.ext dI.o,HC.o.then (dI.o.cR _)⟩
  refine(Tw g ys.length cap p k ys[p] ys[k] _ hpy hk ((Nb.o.ext dI.o).cell hpy) ((Nb.o.ext dI.o).cell hk) (Nb.o.ext dI.o).free).mono ?_;rintro r w2 ⟨rfl,q,rfl⟩;obtain⟨hp2,hc2⟩:=(Nb.o.ext dI.o).swap hpy hk q;have oZ:=ai hp2;have iP:=ai hc2;clear hp2 hc2;generalize ((w1.setCell ⟨g,p,none⟩ (.int .i64 ys[k])).setCell ⟨g,k,none⟩ (.int .i64 ys[p])).drewN q=w2 at *;clear hm ha hh1;go_wp2_with fail;go_roundw
  case rel=>exact⟨p,(ys.set p ys[k]).set k ys[p],rfl,by simp;omega,by simp;exact HYL.o,(List.set_set_perm hpy hk).trans HY.o,oZ.o,(HC.o.then (dI.o.cR _)).then iP.o⟩
  case measure=>simp[intOf];omega
def aNl (B b g cap:Nat) (xs:ZI) (w:World) (e:Ending) (w':World):Prop:=(∃u:Bool,e=.returned (.bool u))/\∃ys:ZI,ys.Perm xs/\(∀z,xs.getLast?=some z->ys.getLast?=some z)/\tQ B b g cap ys w'/\ct [g] w w'
theorem aqH {xs:ZI} {i:Nat} (h:i+1<xs.length) (z:Int):(xs.set i z).getLast?=xs.getLast?:=by
 rw[List.getLast?_eq_getElem?,List.getLast?_eq_getElem?];simp only[List.length_set];rw[List.getElem?_set_ne (by omega)]
theorem avv (B b g cap:Nat) (xs:ZI) (w:World) (h:tQ B b g cap xs w) (n:Nat) (hn:n+1=xs.length) (hn2:n<=1000000000000000) :
  Calls Tryz.prog 144 #[.iface 168 (.pointer (some ⟨b,0,none⟩)),.int .i64 0,.int .i64 n] w (aNl B b g cap xs w):=by
 have HP:=ai h;have HN:=ai hn;clear h hn;go_enter Tryz.func144,Tryz.ntmps144
 go_wp2_with fail;go_loopw [7,8,9,10] (fun t _ _ _ wr=>∃(k:Nat) (ys:ZI),t=.int .i64 k/\k<=n/\n+1=ys.length/\ys.Perm xs/\(∀z,xs.getLast?=some z->ys.getLast?=some z)/\tQ B b g cap ys wr/\ct [g] w wr) (fun t _ _ _ _=>n - (intOf t).toNat)
 case atStart=>exact⟨0,xs,rfl,by omega,HN.o,List.Perm.refl _,fun _ h=>h,HP.o,ct.refl _ _⟩
 case round =>
  obtain⟨k,ys,rfl,hk,Et,hyp,hla,hpl,hch⟩:=hrel;have Nb:=ai hpl;have HC:=ai hch;have HY:=ai hyp;have HYL:=ai Et;have HLA:=ai hla;have akO:=hpl.head;clear hpl hch hyp Et HP HN hla;obtain⟨j1,hj1⟩:∃j1:Nat,j1=2*k+1:=⟨_,rfl⟩
  have q1:(2*(k:Int)+1)=(j1:Int):=by omega
  have hkj:k<j1:=by omega
  have HJ1:=ai hj1;have t1:decide ((j1:Int)<0)=false:=by simp
  have a3L:j1<=2000000000000001:=by omega
  clear hj1;by_cases hlt:j1<n
  ·have t0:decide (n<=j1)=false:=by simp;omega
   have hy1:j1<ys.length:=by have:=HYL.o;omega
   have hyk:k<ys.length:=by have:=HYL.o;omega
   obtain⟨j2,hj2⟩:∃j2:Nat,j2=j1+1:=⟨_,rfl⟩
   have q2:((j1:Int)+1)=(j2:Int):=by omega
   have a3M:j1<j2:=by omega
   have a3K:j2<=n:=by omega
   clear hj2;by_cases h2:j2<n
   case' neg =>
    have t2:decide (j2<n)=false:=by simp;omega
    go_upto_region 8 with fail;obtain⟨j,hj⟩:∃j:Nat,j=j1:=⟨_,rfl⟩
    obtain⟨w1,hw1⟩:∃w1:World,w1=wr:=⟨_,rfl⟩
    have dI:=ai (show Ext wr w1 by rw[hw1];exact Tz _);rw[<-hj,<-hw1];have hjk:k<j/\j<n:=by omega
    clear hj hw1
   case' pos =>
    have t2:decide (j2<n)=true:=by simp;omega
    have hy2:j2<ys.length:=by have:=HYL.o;omega
    have HL:=ai (TB g ys.length cap j2 j1 ys[j2] ys[j1] wr hy2 hy1 (Nb.o.cell hy2) (Nb.o.cell hy1));have ha:=fun n=>Ye n b
    have hm:=fun n=>aby n b _ wr akO
    cases hd:decide (ys[j2]<ys[j1])
    case' false =>
     have HD:=ai hd;clear hd;go_wp2_with fail;refine HL.o.mono ?_;rintro r w1 ⟨rfl,hx1⟩;rw[HD.o];have dI:=ai hx1;clear hx1 hm ha akO HD;go_upto_region 8 with fail;obtain⟨j,hj⟩:∃j:Nat,j=j1:=⟨_,rfl⟩
     rw[<-hj];have hjk:k<j/\j<n:=by omega
     clear hj
    case' true =>
     have HD:=ai hd;clear hd;go_wp2_with fail;refine HL.o.mono ?_;rintro r w1 ⟨rfl,hx1⟩;rw[HD.o];have dI:=ai hx1;clear hx1 hm ha akO HD;go_upto_region 8 with fail;obtain⟨j,hj⟩:∃j:Nat,j=j2:=⟨_,rfl⟩
     rw[<-hj];have hjk:k<j/\j<n:=by omega
     clear hj
   all_goals
    obtain⟨hjk,hjn⟩:=hjk;have hyj:j<ys.length:=by have:=HYL.o;omega
    have hh1:=(Nb.o.ext dI.o).head;have ha:=fun n=>Ye n b
    have hm:=fun n=>aby n b _ w1 hh1
    have A4:=ai (TB g ys.length cap j k ys[j] ys[k] w1 hyj hyk ((Nb.o.ext dI.o).cell hyj) ((Nb.o.ext dI.o).cell hyk));cases hd:decide (ys[j]<ys[k])
    ·have HD:=ai hd;clear hd;go_wp2_with fail;refine A4.o.mono ?_;rintro r w2 ⟨rfl,hx2⟩;rw[HD.o];have dN:=ai hx2;clear hx2 hm ha hh1 HD;go_wp2_with fail;go_ret;exact⟨⟨_,rfl⟩,ys,HY.o,HLA.o,(Nb.o.ext dI.o).ext dN.o,(HC.o.then (dI.o.cR _)).then (dN.o.cR _)⟩
    have HD:=ai hd;clear hd;go_wp2_with fail;refine A4.o.mono ?_;rintro r w2 ⟨rfl,hx2⟩;rw[HD.o];have HPX:=ai ((Nb.o.ext dI.o).ext hx2);have Lb:=ai ((HC.o.then (dI.o.cR _)).then (hx2.cR _));have hh2:=HPX.o.head;clear hx2 hm ha hh1 HD;have ha:=fun n=>Yd n b
    have hm:=fun n=>abx n b _ w2 hh2
    go_wp2_with fail;refine(Tw g ys.length cap k j ys[k] ys[j] _ hyk hyj (HPX.o.cell hyk) (HPX.o.cell hyj) HPX.o.free).mono ?_;rintro r w3 ⟨rfl,q,rfl⟩;obtain⟨hp2,hc2⟩:=HPX.o.swap hyk hyj q;have oZ:=ai hp2;have iP:=ai hc2;clear hp2 hc2;generalize ((w2.setCell ⟨g,k,none⟩ (.int .i64 ys[j])).setCell ⟨g,j,none⟩ (.int .i64 ys[k])).drewN q=w3 at *;clear hm ha hh2;go_wp2_with fail;go_roundw
    case rel =>
     refine⟨j,(ys.set k ys[j]).set j ys[k],rfl,by omega,by simp;exact HYL.o,(List.set_set_perm hyk hyj).trans HY.o,fun z hz=>?_,oZ.o,Lb.o.then iP.o⟩;rw[aqH (by have:=HYL.o;simp;omega),aqH (by have:=HYL.o;omega)];exact HLA.o z hz
    case measure=>simp[intOf];omega
  have t0:decide (n<=j1)=true:=by simp;omega
  go_wp2_with fail;go_ret;exact⟨⟨_,rfl⟩,ys,HY.o,HLA.o,Nb.o,HC.o⟩
theorem aw7:uq 169 3 (.int .i64 0) 1 8:=⟨by kernel_rfl,by kernel_rfl,rfl,by omega⟩
structure Bu (B b:Nat) (v:Value) (xs:ZI) (w:World):Prop where
 hB:B<=b
 hb:w.heap[b]?=some (.cells #[v] 171 (0,0))
 own:w.ownsRow B 3 1 v xs.length (xs.map fun z=>Value.int .i64 z)
 ne:v.ownBlock≠some b
theorem Bu.cR {B b:Nat} {v:Value} {xs:ZI} {w w':World} {N:ZN} (h:Bu B b v xs w) (hc:ct N w w') (h1:b∉N) (h2:∀k,v.ownBlock=some k->k∉N):Bu B b v xs w':=by
 obtain⟨a1,a2,a3,a4⟩:=h;refine⟨a1,hc.blk a2 h1,?_,a4⟩;rcases a3 with ⟨l,h0|⟨g,cap,cur,e1,e2,e3,r⟩⟩
 ·exact⟨l,aoX h0⟩
 exact⟨l,a4Z ⟨g,cap,cur,e1,e2,hc.blk e3 (h2 g (by rw[e1];rfl)),r⟩⟩
theorem Bu.fresh (w:World):Bu w.heap.size w.heap.size (.slice none 0 0) [] (w.alloc (.cells #[.slice none 0 0] 171)) :=
 ⟨aU _,heap_alloc_new w _,a4' _ _ _ _,by simp[Value.ownBlock]⟩
theorem Bu.form {B b:Nat} {v:Value} {xs:ZI} {w:World} (h:Bu B b v xs w):∃a c,v=.slice a xs.length c:=by
 rcases h.own.2 with ⟨rfl,h0⟩|⟨g,cap,cur,rfl,_⟩
 ·exact⟨none,0,by rw[h0]⟩
 exact⟨_,_,rfl⟩
theorem Bu.g {B b:Nat} {v:Value} {xs:ZI} {w:World} (h:Bu B b v xs w) (hx:0<xs.length):∃g cap,v=.slice (some ⟨g,0,none⟩) xs.length cap/\tQ B b g cap xs w:=by
 obtain⟨a1,a2,a3,a4⟩:=h;rcases a3.2 with ⟨rfl,h0⟩|⟨g,cap,cur,rfl,h1,h2,h3,h4,h5,h6⟩
 ·omega
 exact⟨g,cap,rfl,a1,h1,fun e=>a4 (by rw[e];rfl),a2,cur,h2,h3,h4,by simpa using h5,by simpa using h6⟩
theorem tQ.v {B b g cap:Nat} {xs:ZI} {w:World} (h:tQ B b g cap xs w):Bu B b (.slice (some ⟨g,0,none⟩) xs.length cap) xs w:=by
 obtain⟨a1,a2,a3,a4,cur,h2,h3,h4,h5,h6⟩:=h;refine⟨a1,a4,⟨by simp,a4Z ⟨g,cap,cur,rfl,a2,h2,h3,h4,by simpa using h5,by simpa using h6⟩⟩,fun e=>a3 (by simpa[Value.ownBlock] using e)⟩
theorem lF {w:World} {base:Nat} {e:TypeId} {size:Nat} {v:Value} {n:Nat} {xs:List Value} (h:w.ownsRow base e size v n xs):∃a c,v=.slice a n c:=by
 rcases h.2 with ⟨rfl,h0⟩|⟨g,cap,cur,rfl,_⟩
 ·exact⟨none,0,by rw[h0]⟩
 exact⟨_,_,rfl⟩
def aKp (B b:Nat) (v:Value) (ok:ZI->Prop) (w:World) (e:Ending) (w':World):Prop:=e=.returned (.tuple #[])/\∃v' ys,ok ys/\Bu B b v' ys w'/\ct (b::rowOf v) w w'/\∀k,v'.ownBlock=some k->v.ownBlock=some k\/w.heap.size<=k
theorem aqP (B b:Nat) (v:Value) (xs:ZI) (z:Int) (w:World) (h:Bu B b v xs w) (hB:B<=w.heap.size) (hl:xs.length<=1000000000) :
  Calls Tryz.prog 233 #[.pointer (some ⟨b,0,none⟩),.iface 3 (.int .i64 z)] w (aKp B b v (·=xs++[z]) w):=by
 have HP:=ai h;have hb0:=bX h.hb 0;have Qd:=ie h.hb 0;have hlt:=bS h.hb;obtain⟨a,c,hv⟩:=h.form;subst hv;simp at hb0;have t1:(Value.iface 3 (.int .i64 z))=(Value.iface 3 (.int .i64 z)):=rfl;clear h t1;obtain⟨i0,hi,hz0,hz1,hz2⟩:=info_parts aw7.info;have hta:∀W:World,(Instr.typeAssert (.iface 3 (.int .i64 z)) 20 3 true).run Tryz.prog W=.ok (.tuple #[.int .i64 z,.bool true]) W:=fun W=>by kernel_rfl
 go_enter Tryz.func233,Tryz.ntmps233
 go_wp2_with (at_builtin;refine wpList_append_own_at _ rfl _ _ 169 rfl B 3 i0 (.int .i64 0) 1 8 aw7.ht hi hz0 hz1 hz2 rfl (by decide) _ xs.length _ rfl (HP.o.own.alloc _) ⟨w.heap.size,0,none⟩ 1 1 [.int .i64 z] rfl rfl ?c1 ?c2 ?c3 ?c4 ?c5 ?_)
 case c1=>exact cell_one_new _ _ _
 case c2=>simp[Value.oneCell']
 case c3=>unfold maxLen;omega
 case c4=>omega
 case c5=>simp;omega
 intro v' w' hown' au7 _ auX;have rO:some b≠(Value.slice a xs.length c).ownBlock:=fun e=>HP.o.ne e.symm
 have hb':w'.heap[b]?=some (.cells #[.slice a xs.length c] 171 (0,0)):=(au7.block b (by simp;omega) rO).trans (bU HP.o.hb);have hb1:=bX hb' 0;have hf1:=ie hb' 0;have sA:=bS hb';simp at hb1;have hvb:v'.ownBlock≠some b:=by
  rcases auX with e|e
  ·rw[e];exact fun h=>rO h.symm
  rw[e];simp;omega
 obtain⟨a',c',hv'⟩:=lF hown';subst hv';have gG:=ai hb';have HO:=ai hown';have HG:=ai au7;have HW:=ai auX;clear hb' hown' au7 auX hb0 Qd hta;go_wp2_with fail
 go_end0
 have hc1:ct (rowOf (.slice a xs.length c)) w w':=(((Tz w).alloc _).cR _).then (eX HG.o)
 have hc2:ct [b] w' (w'.setCell ⟨b,0,none⟩ (.slice a' (xs.length+1) c')):=(ct.refl _ _).setCell (aoX (by simp)) _;refine⟨rfl,.slice a' (xs.length+1) c',xs++[z],rfl,⟨HP.o.hB,?_,?_,hvb⟩,?_,?_⟩
 ·have:=aI w' b 0 _ _ (.slice a' (xs.length+1) c') gG.o;simpa using this
 ·have:=cO HO.o hc2 (fun k hk hm=>hvb (by simp at hm;rw[hk,hm]));simpa using this
 ·refine ct.trans (ct.trans (ct.refl (b::rowOf (.slice a xs.length c)) w) hc1 (fun x hx=>aoX (by simp[hx]))) hc2 (fun x hx=>aoX (by simp at hx;simp[hx]))
 intro k hk;rcases HW.o with e|e
 ·exact aoX (by rw[<-e];exact hk)
 rw[e] at hk;simp at hk;exact a4Z (by omega)
theorem anh {xs:ZI} (hx:0<xs.length):xs.getLast?=some (xs[xs.length - 1]'(by omega)):=by
 rw[List.getLast?_eq_getElem?,aT (by omega)]
theorem tQ.pop {B b g cap:Nat} {xs:ZI} {w:World} (h:tQ B b g cap xs w):tQ B b g cap xs.dropLast (w.setCell ⟨b,0,none⟩ (.slice (some ⟨g,0,none⟩) (xs.length - 1) cap)):=by
 obtain⟨a1,a2,a3,a4,cur,a5,a6,a7,a8,a9⟩:=h;refine⟨a1,a2,a3,?_,cur,?_,by simp;omega,a7,a8,?_⟩
 ·simp[World.setCell,Array.getElem?_modify,a4]
 ·rw[Below.heap_setCell _ _ _ _ (by simpa using a3)];exact a5
 have h5:cur.toList.take (xs.length - 1)=(cur.toList.take xs.length).take (xs.length - 1):=by rw[List.take_take];congr 1;omega
 simp only[List.length_dropLast];rw[h5,a9,<-List.map_take,List.dropLast_eq_take]
def aSp (B b:Nat) (v:Value) (ok:Int->ZI->Prop) (w:World) (e:Ending) (w':World):Prop :=
 ∃z v' ys,e=.returned (.iface 3 (.int .i64 z))/\ok z ys/\Bu B b v' ys w'/\ct (b::rowOf v) w w'/\∀k,v'.ownBlock=some k->v.ownBlock=some k\/w.heap.size<=k
theorem auT (B b g cap:Nat) (xs:ZI) (w:World) (h:tQ B b g cap xs w) (hx:0<xs.length) :
  Calls Tryz.prog 232 #[.pointer (some ⟨b,0,none⟩)] w (aSp B b (.slice (some ⟨g,0,none⟩) xs.length cap) (fun z ys=>xs.getLast?=some z/\ys=xs.dropLast) w):=by
 have HP:=ai h;have hh:=h.head;have hf:=ie h.hb 0;have hlt:=bS h.hb;have hc:=h.cell (i:=xs.length - 1) (by omega);have EI:=anh hx;obtain⟨n,hn⟩:∃n:Nat,n+1=xs.length:=⟨xs.length - 1,by omega⟩
 obtain⟨cur,hr1,hr2,hr3,hr4,hr5⟩:=h.row;have hn2:n+1<=9223372036854775807:=by unfold maxLen at hr3;omega
 have hcap:n+1<=cap:=by omega
 have e1:xs.length - 1=n:=by omega
 have Nb:=ai h.pop;simp only[e1] at hc EI;obtain⟨z,hz⟩:∃z,z=xs[n]'(by omega):=⟨_,rfl⟩
 rw[<-hz] at hc EI;rw[<-hn] at hh;have HLA:=ai EI;have HN:=ai hn;have HN2:=ai e1;have q1:(((n+1:Nat):Int) - 1)=(n:Int):=by omega
 have q2:((n:Int)+1 - 1)=(n:Int):=by omega
 rw[<-hn];clear h EI hr1 hr2 hr3 hr4 hr5 hz e1 hn;go_enter Tryz.func232,Tryz.ntmps232
 go_wp2_with fail;go_ret;have hp:=Nb.o;rw[HN2.o] at hp;have hv:=hp.v;rw[List.length_dropLast,HN2.o] at hv;exact⟨z,_,_,rfl,⟨HLA.o,rfl⟩,hv,(ct.refl _ _).setCell (aoX (by simp)) _,fun k hk=>aoX hk⟩
theorem ac1 (B b:Nat) (v:Value) (xs:ZI) (z:Int) (w:World) (h:Bu B b v xs w) (hB:B<=w.heap.size) (hl:xs.length<=100000000) :
  Calls Tryz.prog 110 #[.iface 168 (.pointer (some ⟨b,0,none⟩)),.iface 3 (.int .i64 z)] w (aKp B b v (fun ys=>ys.Perm (xs++[z])) w):=by
 have ha:=fun n=>avS n b
 have hm:=fun n W=>ayT n b W
 have HP:=ai h;clear h;go_enter Tryz.func110,Tryz.ntmps110
 go_wp2_with fail;refine(aqP B b v xs z w HP.o hB (by omega)).mono ?_;rintro r w1 ⟨rfl,v1,ys,rfl,hp1,hc1,hw1⟩;obtain⟨g,cap,rfl,zR⟩:=hp1.g (by simp);have QK:=ai zR;have mE:=ai hc1;have HW1:=ai hw1;have hh:=zR.head;obtain⟨n,hn⟩:∃n:Nat,n=xs.length:=⟨_,rfl⟩
 have e1:(xs++[z]).length=n+1:=by simp[hn]
 rw[e1] at hh;have HE:=ai e1;have hnb:n<=100000000:=by omega
 clear hp1 zR hc1 hw1 ha hm e1 hn hl;have ha:=fun n=>alz n b
 have hm:=fun k=>aqv k b _ w1 hh
 go_wp2_with fail;refine(PY _ _ _ _).mono ?_;rintro r w2 ⟨rfl,rfl⟩;have q1:(((n+1:Nat):Int) - 1)=(n:Int):=by omega
 have q2:((n:Int)+1 - 1)=(n:Int):=by omega
 clear ha hm;go_wp2_with fail;refine(aBq B b g cap _ _ QK.o n (by rw[HE.o];omega)).mono ?_;rintro r w3 ⟨rfl,ys,hy,hp3,hc3⟩;have EN:=ai hp3;have oD:=ai hc3;have HY:=ai hy;clear hp3 hc3 hy;go_wp2_with fail
 go_end0
 refine⟨rfl,_,ys,HY.o,EN.o.v,ct.trans mE.o oD.o (fun x hx=>?_),fun k hk=>?_⟩
 ·simp only[aG] at hx;subst hx;rcases HW1.o x rfl with e|e
  ·exact aoX (aZ _ (bV.2 e))
  exact a4Z e
 exact HW1.o k hk
theorem au1 (B b:Nat) (v:Value) (xs:ZI) (w:World) (h:Bu B b v xs w) (hx:0<xs.length) (hl:xs.length<=100000000) :
  Calls Tryz.prog 112 #[.iface 168 (.pointer (some ⟨b,0,none⟩))] w (aSp B b v (fun z ys=>xs.Perm (z::ys)) w):=by
 obtain⟨g,cap,rfl,hg⟩:=h.g hx;have HG:=ai hg;have hh:=hg.head;obtain⟨n,hn⟩:∃n:Nat,n+1=xs.length:=⟨xs.length - 1,by omega⟩
 rw[<-hn] at hh ⊢;have HN:=ai hn;have hnb:n<=100000000:=by omega
 have hn0:0<xs.length:=hx;have hnn:n<xs.length:=by omega
 clear h hg hn hx hl;have ha:=fun n=>alz n b
 have hm:=fun k=>aqv k b _ w hh
 have q1:(((n+1:Nat):Int) - 1)=(n:Int):=by omega
 have q2:((n:Int)+1 - 1)=(n:Int):=by omega
 go_enter Tryz.func112,Tryz.ntmps112
 go_wp2_with fail;refine(PY _ _ _ _).mono ?_;rintro r w1 ⟨rfl,rfl⟩;clear ha hm;have ha:=fun n=>Yd n b
 have hm:=fun k=>abx k b _ w hh
 go_wp2_with fail;refine(Tw g (n+1) cap 0 n xs[0] xs[n] w (by omega) (by omega) (HG.o.cell hn0) (HG.o.cell hnn) HG.o.free).mono ?_;rintro r w2 ⟨rfl,q,rfl⟩;obtain⟨hp2,hc2⟩:=HG.o.swap hn0 hnn q;generalize ((w.setCell ⟨g,0,none⟩ (.int .i64 xs[n])).setCell ⟨g,n,none⟩ (.int .i64 xs[0])).drewN q=w2 at *;have oZ:=ai hp2;have iP:=ai hc2;have HY2:=ai (show ((xs.set 0 xs[n]).set n xs[0]).Perm xs from List.set_set_perm hn0 hnn);have A4:=ai (show n+1=((xs.set 0 xs[n]).set n xs[0]).length by simp;exact HN.o);generalize (xs.set 0 xs[n]).set n xs[0]=ys at *;clear hp2 hc2 ha hm hh;go_wp2_with fail;refine(avv B b g cap ys w2 oZ.o n A4.o (by omega)).mono ?_;rintro r w3 ⟨⟨u,rfl⟩,zs,hzy,_,hp3,hc3⟩;have EN:=ai hp3;have oD:=ai hc3;have HZY:=ai hzy;have HL3:=ai (show zs.length=n+1 by rw[hzy.length_eq];exact A4.o.symm);have ha:=fun n=>aAB n b
 have hm:=fun n W=>aCO n b W
 clear hp3 hc3 hzy;go_wp2_with fail;refine(auT B b g cap zs _ EN.o (by rw[HL3.o];omega)).mono ?_;rintro r w4 ⟨z,v',us,rfl,⟨hla,rfl⟩,hp4,hc4,hw4⟩;have HP4:=ai hp4;have mo:=ai hc4;have QH:=ai hw4;have HLA:=ai hla;clear hp4 hc4 hw4 hla ha hm;go_wp2_with fail;go_ret;refine⟨z,v',_,rfl,?_,HP4.o,?_,fun k hk=>?_⟩
 ·refine(HY2.o.symm.trans HZY.o.symm).trans ?_;have e:zs.dropLast++[z]=zs:=by
   have:=HLA.o;rw[List.getLast?_eq_some_iff] at this;obtain⟨us,rfl⟩:=this;simp
  exact(List.Perm.of_eq e.symm).trans (List.perm_append_singleton _ _)
 ·refine((ct.trans (ct.trans (ct.refl _ _) iP.o ?_) oD.o ?_).trans mo.o ?_)
  ·intro x hx;exact aoX (by simp at hx;subst hx;simp[rowOf,Value.ownBlock])
  ·intro x hx;exact aoX (by simp at hx;subst hx;simp[rowOf,Value.ownBlock])
  intro x hx;exact aoX (by simpa[rowOf,Value.ownBlock] using hx)
 rcases QH.o k hk with e|e
 ·exact aoX e
 have:=iP.o.size;have:=oD.o.size;exact a4Z (by omega)
def kV (g:BA->Option Value):Lit->Option Value
 | .string bs=>g ⟨bs.toArray⟩
 | _=>none
def adG (g:Nat->Option Value):Lit->Option Value
 | .int .i64 z=>if 0<=z then g z.toNat else none
 | _=>none
theorem oQ (g:BA->Option Value) (s:BA):kV g (.string s.data.toList)=g s:=rfl
theorem awQ (g:Nat->Option Value) (i:Nat):adG g (.int .i64 i)=g i:=by simp[adG]
open Classical in
noncomputable def upS {α:Type} (g:BA->α) (s:BA) (v:α):BA->α:=fun t=>if t=s then v else g t
theorem xY {α:Type} (g:BA->α) (s:BA) (v:α):upS g s v s=v:=by simp[upS]
theorem sR {α:Type} (g:BA->α) {s t:BA} (v:α) (h:t≠s):upS g s v t=g t:=by simp[upS,h]
def VW {α:Type} (g:Nat->α) (s:Nat) (v:α):Nat->α:=fun t=>if t=s then v else g t
theorem zy {α:Type} (g:Nat->α) (s:Nat) (v:α):VW g s v s=v:=by simp[VW]
theorem sS {α:Type} (g:Nat->α) {s t:Nat} (v:α) (h:t≠s):VW g s v t=g t:=by simp[VW,h]
theorem Dm (g:BA->Option Value) (s:BA) (v:Option Value) (x:Lit):Rw (kV g) (.string s.data.toList) v x=kV (upS g s v) x:=by
 by_cases e:x=.string s.data.toList
 ·subst e;rw[Ny,oQ,xY]
 rw[JV _ _ e];cases x<;>try rfl
 rename_i bs
 simp only[kV];rw[sR];intro h
 apply e
 rw[<-h]
theorem aBO (g:Nat->Option Value) (i:Nat) (v:Option Value) (x:Lit):Rw (adG g) (.int .i64 i) v x=adG (VW g i v) x:=by
 by_cases e:x=.int .i64 i
 ·subst e;rw[Ny,awQ,zy]
 rw[JV _ _ e];cases x<;>try rfl
 rename_i k z
 cases k<;>try rfl
 simp only[adG];by_cases h0:0<=z
 ·rw[bM h0,bM h0,sS];intro h
  apply e
  congr 1
  omega
 rw[bL h0,bL h0]
inductive OK where
 | none|first|aJN|miss|aPM|ayv|atk (s:BA)|auE (i:Nat)|out
structure St where
 ρ:Nat->OK
 mb:Nat->Nat
 uv:BA->Option Value
 U:BA->ZN
 D:Nat->Prop
 S:Nat->Prop
 M:Nat->BA->Prop
 pv:Value
 R:ZI
 vo:Value
 O:ZN
open Classical in
noncomputable def Fb (M:BA->Prop):BA->Option Value:=fun s=>if M s then some (.agg #[]) else none
open Classical in
noncomputable def Gz (D:Nat->Prop) (mb:Nat->Nat):Nat->Option Value:=fun i=>if D i then some (.map (some (mb i))) else none
def zT (l:List uW):BA->Option Value:=fun s=>(gA l s).map fun (d:Nat)=>Value.int .i64 (d:Int)
def Q9 (l:ZN):List Value:=l.map fun (i:Nat)=>Value.int .i64 (i:Int)
structure OB (w0:World) (l:List uW) (bf bu bm bp t:Nat) (s:St) (w:World):Prop where
 ext:Ext w0 w
 fresh:∀k,w.heap.size<=k->s.ρ k=.none
 old:∀k,k<w0.heap.size->s.ρ k=.none
 rf:s.ρ bf=.first
 hf:ig w 9 bf t (kV (zT l))
 ru:s.ρ bu=.aJN
 hu:ig w 9 bu t (kV s.uv)
 rows:∀x v,s.uv x=some v->w.ownsRow w0.heap.size 3 1 v (s.U x).length (Q9 (s.U x))/\∀g,v.ownBlock=some g->s.ρ g=.atk x
 aG8:∀x,s.uv x=none->s.U x=[]
 rm:s.ρ bm=.miss
 hm:ig w 3 bm t (adG (Gz s.D s.mb))
 dom:∀i,s.D i->s.S i
 sets:∀i,s.S i->s.ρ (s.mb i)=.auE i/\ig w 9 (s.mb i) t (kV (Fb (s.M i)))
 rp:s.ρ bp=.aPM
 hp:Bu w0.heap.size bp s.pv s.R w
 rpv:∀g,s.pv.ownBlock=some g->s.ρ g=.ayv
 hv:w.ownsRow w0.heap.size 3 1 s.vo s.O.length (Q9 s.O)
 rv:∀g,s.vo.ownBlock=some g->s.ρ g=.out
section
variable {w0:World} {l:List uW} {bf bu bm bp t:Nat} {s:St} {w w':World}
theorem OB.cR (h:OB w0 l bf bu bm bp t s w) {N:ZN} (hc:ct N w w') (hN:∀k∈N,s.ρ k=.none) (hN0:∀k∈N,w0.heap.size<=k):OB w0 l bf bu bm bp t s w':=by
 have nn:∀k r,s.ρ k=r->r≠.none->k∉N:=fun k r h1 h2 h3=>h2 (by rw[<-h1];exact hN k h3)
 exact { h with
  ext:=hc.ext h.ext hN0
  fresh:=fun k hk=>h.fresh k (aV hc.size hk)
  hf:=h.hf.cR hc (nn _ _ h.rf (by simp))
  hu:=h.hu.cR hc (nn _ _ h.ru (by simp))
  rows:=fun x v hv=>⟨cO (h.rows x v hv).1 hc fun g hg=>nn _ _ ((h.rows x v hv).2 g hg) (by simp),(h.rows x v hv).2⟩
  hm:=h.hm.cR hc (nn _ _ h.rm (by simp))
  sets:=fun i hi=>⟨(h.sets i hi).1,(h.sets i hi).2.cR hc (nn _ _ (h.sets i hi).1 (by simp))⟩
  hp:=h.hp.cR hc (nn _ _ h.rp (by simp)) fun g hg=>nn _ _ (h.rpv g hg) (by simp)
  hv:=cO h.hv hc fun g hg=>nn _ _ (h.rv g hg) (by simp) }
theorem OB.Ot (h:OB w0 l bf bu bm bp t s w) (hx:Ext w w'):OB w0 l bf bu bm bp t s w':=h.cR (hx.cR []) (by simp) (by simp)
theorem OB.more (h:OB w0 l bf bu bm bp t s w) {t':Nat} (ht:t<=t'):OB w0 l bf bu bm bp t' s w :=
 {h with hf:=h.hf.more ht,hu:=h.hu.more ht,hm:=h.hm.more ht,sets:=fun i hi=>⟨(h.sets i hi).1,(h.sets i hi).2.more ht⟩ }
theorem OB.base (h:OB w0 l bf bu bm bp t s w) {k:Nat} {r:OK} (hk:s.ρ k=r) (hr:r≠.none):w0.heap.size<=k:=by
 rcases bJ k w0.heap.size with h'|h'
 ·exact a40 (hk.symm.trans (h.old k h')) hr
 exact h'
theorem apart {ρ:Nat->OK} {a b:Nat} {r q:OK} (ha:ρ a=r) (hb:ρ b=q) (h:r≠q):a∉[b]:=by
 intro hm;simp only[aG] at hm;subst hm;exact h (ha.symm.trans hb)
def St.Xr (s:St) (i b:Nat):St:={ s with ρ:=VW s.ρ b (.auE i),mb:=VW s.mb i b,S:=fun j=>j=i\/s.S j,M:=VW s.M i fun _=>False }
theorem aqu {D:Nat->Prop} {mb mb':Nat->Nat} (h2:∀i,D i->mb i=mb' i):Gz D mb=Gz D mb':=by
 funext i
 unfold Gz;by_cases hd:D i
 ·rw[bM hd,bM hd,h2 i hd]
 rw[bL hd,bL hd]
theorem auG (s:BA):Fb (fun _=>False) s=none:=by simp[Fb]
theorem OB.Xr (h:OB w0 l bf bu bm bp t s w) {i:Nat} (hi:¬s.S i):OB w0 l bf bu bm bp t (s.Xr i w.heap.size) (w.alloc (.map #[] 0)):=by
 have h':=h.Ot ((Tz w).alloc (.map #[] 0));have ne:∀k r,s.ρ k=r->r≠.none->VW s.ρ w.heap.size (.auE i) k=r:=fun k r h1 h2=>by
  rw[sS _ _ (fun e=>h2 (by rw[<-h1,e];exact h.fresh _ (aU _)))];exact h1
 exact { h' with
  fresh:=fun k hk=>by
   simp at hk
   show VW s.ρ w.heap.size (.auE i) k=.none
   rw[sS _ _ (by omega)];exact h.fresh k (by omega)
  old:=fun k hk=>by
   show VW s.ρ w.heap.size (.auE i) k=.none
   rw[sS _ _ (by have:=h.ext.size;omega)];exact h.old k hk
  rf:=ne _ _ h.rf (by simp)
  ru:=ne _ _ h.ru (by simp)
  rows:=fun x v hv=>⟨(h'.rows x v hv).1,fun g hg=>ne _ _ ((h'.rows x v hv).2 g hg) (by simp)⟩
  rm:=ne _ _ h.rm (by simp)
  hm:=by
   have e:Gz s.D (VW s.mb i w.heap.size)=Gz s.D s.mb:=aqu fun j hj=>sS _ _ fun e=>hi (by rw[<-e];exact h.dom j hj)
   show ig _ _ _ _ (adG (Gz s.D (VW s.mb i w.heap.size)))
   rw[e];exact h'.hm
  dom:=fun j hj=>a4Z (h.dom j hj)
  sets:=fun j hj=>by
   by_cases e:j=i
   ·subst e;refine⟨?_,?_⟩
    ·show VW s.ρ w.heap.size (.auE j) (VW s.mb j w.heap.size j)=_
     rw[zy,zy]
    show ig _ _ (VW s.mb j w.heap.size j) _ (kV (Fb (VW s.M j (fun _=>False) j)))
    rw[zy,zy];refine((ig.made w _).more (Nat.zero_le t)).congr fun x=>?_
    cases x<;>simp[kV,auG]
   have hj':s.S j:=hj.resolve_left e;refine⟨?_,?_⟩
   ·show VW s.ρ w.heap.size (.auE i) (VW s.mb i w.heap.size j)=_
    rw[sS s.mb _ e];exact ne _ _ (h.sets j hj').1 (by simp)
   show ig _ _ (VW s.mb i w.heap.size j) _ (kV (Fb (VW s.M i (fun _=>False) j)))
   rw[sS _ _ e,sS _ _ e];exact(h'.sets j hj').2
  rp:=ne _ _ h.rp (by simp)
  rpv:=fun g hg=>ne _ _ (h.rpv g hg) (by simp)
  rv:=fun g hg=>ne _ _ (h.rv g hg) (by simp) }
def St.aiu (s:St) (i:Nat) (m:BA->Prop):St:={ s with M:=VW s.M i m }
theorem OB.aiu (h:OB w0 l bf bu bm bp t s w) {i:Nat} (hi:s.S i) {m:BA->Prop} (hc:ct [s.mb i] w w') (hm:ig w' 9 (s.mb i) t (kV (Fb m))):OB w0 l bf bu bm bp t (s.aiu i m) w':=by
 have hr:=(h.sets i hi).1;exact { h with
  ext:=hc.ext h.ext (fun k hk=>by simp only[aG] at hk;subst hk;exact h.base hr (by simp))
  fresh:=fun k hk=>h.fresh k (aV hc.size hk)
  hf:=h.hf.cR hc (apart h.rf hr (by simp))
  hu:=h.hu.cR hc (apart h.ru hr (by simp))
  rows:=fun x v hv=>⟨cO (h.rows x v hv).1 hc fun g hg=>apart ((h.rows x v hv).2 g hg) hr (by simp),(h.rows x v hv).2⟩
  hm:=h.hm.cR hc (apart h.rm hr (by simp))
  sets:=fun j hj=>by
   by_cases e:j=i
   ·subst e;refine⟨hr,?_⟩
    show ig _ _ _ _ (kV (Fb (VW s.M j m j)))
    rw[zy];exact hm
   refine⟨(h.sets j hj).1,?_⟩
   show ig _ _ _ _ (kV (Fb (VW s.M i m j)))
   rw[sS _ _ e];exact(h.sets j hj).2.cR hc (apart (h.sets j hj).1 hr (by simpa using e))
  hp:=h.hp.cR hc (apart h.rp hr (by simp)) fun g hg=>apart (h.rpv g hg) hr (by simp)
  hv:=cO h.hv hc fun g hg=>apart (h.rv g hg) hr (by simp) }
def St.ax6 (s:St) (i:Nat):St:={ s with D:=fun j=>j=i\/s.D j }
theorem OB.ax6 (h:OB w0 l bf bu bm bp t s w) {i:Nat} (hi:s.S i) (hc:ct [bm] w w') (hm:ig w' 3 bm (t+1) (adG (VW (Gz s.D s.mb) i (some (.map (some (s.mb i))))))):OB w0 l bf bu bm bp (t+1) (s.ax6 i) w':=by
 have hr:=h.rm;have h1:=h.more (Nat.le_succ t);exact { h1 with
  ext:=hc.ext h.ext (fun k hk=>by simp only[aG] at hk;subst hk;exact h.base hr (by simp))
  fresh:=fun k hk=>h.fresh k (aV hc.size hk)
  hf:=h1.hf.cR hc (apart h.rf hr (by simp))
  hu:=h1.hu.cR hc (apart h.ru hr (by simp))
  rows:=fun x v hv=>⟨cO (h.rows x v hv).1 hc fun g hg=>apart ((h.rows x v hv).2 g hg) hr (by simp),(h.rows x v hv).2⟩
  hm:=by
   refine hm.congr fun x=>?_
   have e:VW (Gz s.D s.mb) i (some (.map (some (s.mb i))))=Gz (fun j=>j=i\/s.D j) s.mb:=by
    funext j
    by_cases e:j=i
    ·subst e;rw[zy];simp[Gz]
    rw[sS _ _ e];by_cases hd:s.D j<;>simp[Gz,e,hd]
   show _=adG (Gz (fun j=>j=i\/s.D j) s.mb) x
   rw[e]
  dom:=fun j hj=>by
   rcases hj with rfl|hj
   ·exact hi
   exact h.dom j hj
  sets:=fun j hj=>⟨(h1.sets j hj).1,(h1.sets j hj).2.cR hc (apart (h.sets j hj).1 hr (by simp))⟩
  hp:=h.hp.cR hc (apart h.rp hr (by simp)) fun g hg=>apart (h.rpv g hg) hr (by simp)
  hv:=cO h.hv hc fun g hg=>apart (h.rv g hg) hr (by simp) }
theorem FI {ρ:Nat->OK} {a b:Nat} {v:Value} {r q q':OK} (ha:ρ a=r) (hb:ρ b=q) (hv:∀g,v.ownBlock=some g->ρ g=q') (h:r≠q) (h':r≠q'):a∉b::rowOf v:=by
 intro hm;rcases bz.1 hm with rfl|hm
 ·exact h (ha.symm.trans hb)
 exact h' (ha.symm.trans (hv a (bV.1 hm)))
def yO (ρ:Nat->OK) (v:Value) (r:OK):Nat->OK:=fun k=>match v.ownBlock with|some g=>if k=g then r else ρ k|none=>ρ k
theorem Xg (ρ:Nat->OK) {v:Value} {r:OK} {g:Nat} (h:v.ownBlock=some g):yO ρ v r g=r:=by simp[yO,h]
theorem uG (ρ:Nat->OK) {v:Value} {r:OK} {k:Nat} (h:∀g,v.ownBlock=some g->k≠g):yO ρ v r k=ρ k:=by
 unfold yO;cases hv:v.ownBlock with
 | none=>rfl
 | some g=>simp[h g hv]
theorem SU {ρ:Nat->OK} {v v':Value} {r q:OK} {n k:Nat} (hk:ρ k=q) (hq:q≠r) (CQ:q≠.none) (hv:∀g,v.ownBlock=some g->ρ g=r) (hfresh:∀k,n<=k->ρ k=.none) (hw:∀g,v'.ownBlock=some g->v.ownBlock=some g\/n<=g):yO ρ v' r k=q:=by
 rw[uG,hk];intro g hg e;subst e;rcases hw k hg with h|h
 ·exact hq (hk.symm.trans (hv k h))
 exact CQ (hk.symm.trans (hfresh k h))
def St.abh (s:St) (pv:Value) (R:ZI):St:={ s with ρ:=yO s.ρ pv .ayv,pv:=pv,R:=R }
theorem OB.abh (h:OB w0 l bf bu bm bp t s w) {pv:Value} {R:ZI} (hp:Bu w0.heap.size bp pv R w') (hc:ct (bp::rowOf s.pv) w w') (hw:∀k,pv.ownBlock=some k->s.pv.ownBlock=some k\/w.heap.size<=k):OB w0 l bf bu bm bp t (s.abh pv R) w':=by
 have kp:∀{k q},s.ρ k=q->q≠.ayv->q≠.none->yO s.ρ pv .ayv k=q:=fun hk h1 h2=>SU hk h1 h2 h.rpv h.fresh hw
 have hlt:∀g,pv.ownBlock=some g->w0.heap.size<=g/\g<w'.heap.size:=fun g hg=>hp.own.lt g hg
 exact { h with
  ext:=hc.ext h.ext (fun k hk=>by
   rcases bz.1 hk with rfl|hk
   ·exact h.base h.rp (by simp)
   exact h.base (h.rpv k (bV.1 hk)) (by simp))
  fresh:=fun k hk=>by
   show yO s.ρ pv .ayv k=.none
   rw[uG _ (fun g hg=>by have:=(hlt g hg).2;omega)];exact h.fresh k (aV hc.size hk)
  old:=fun k hk=>by
   show yO s.ρ pv .ayv k=.none
   rw[uG _ (fun g hg=>by have:=(hlt g hg).1;omega)];exact h.old k hk
  rf:=kp h.rf (by simp) (by simp)
  hf:=h.hf.cR hc (FI h.rf h.rp h.rpv (by simp) (by simp))
  ru:=kp h.ru (by simp) (by simp)
  hu:=h.hu.cR hc (FI h.ru h.rp h.rpv (by simp) (by simp))
  rows:=fun x v hv=>⟨cO (h.rows x v hv).1 hc fun g hg=>FI ((h.rows x v hv).2 g hg) h.rp h.rpv (by simp) (by simp),fun g hg=>kp ((h.rows x v hv).2 g hg) (by simp) (by simp)⟩
  rm:=kp h.rm (by simp) (by simp)
  hm:=h.hm.cR hc (FI h.rm h.rp h.rpv (by simp) (by simp))
  sets:=fun j hj=>⟨kp (h.sets j hj).1 (by simp) (by simp),(h.sets j hj).2.cR hc (FI (h.sets j hj).1 h.rp h.rpv (by simp) (by simp))⟩
  rp:=kp h.rp (by simp) (by simp)
  hp:=hp
  rpv:=fun g hg=>Xg _ hg
  hv:=cO h.hv hc fun g hg=>FI (h.rv g hg) h.rp h.rpv (by simp) (by simp)
  rv:=fun g hg=>kp (h.rv g hg) (by simp) (by simp) }
theorem X9 {ρ:Nat->OK} {a:Nat} {v:Value} {r q:OK} (ha:ρ a=r) (hv:∀g,v.ownBlock=some g->ρ g=q) (h:r≠q):a∉rowOf v:=fun hm=>h (ha.symm.trans (hv a (bV.1 hm)))
def St.atI (s:St) (vo:Value) (O:ZN):St:={ s with ρ:=yO s.ρ vo .out,vo:=vo,O:=O }
theorem OB.atI (h:OB w0 l bf bu bm bp t s w) {vo:Value} {O:ZN} (hv:w'.ownsRow w0.heap.size 3 1 vo O.length (Q9 O)) (hc:ct (rowOf s.vo) w w') (hw:∀k,vo.ownBlock=some k->s.vo.ownBlock=some k\/w.heap.size<=k):OB w0 l bf bu bm bp t (s.atI vo O) w':=by
 have kp:∀{k q},s.ρ k=q->q≠.out->q≠.none->yO s.ρ vo .out k=q:=fun hk h1 h2=>SU hk h1 h2 h.rv h.fresh hw
 have hlt:∀g,vo.ownBlock=some g->w0.heap.size<=g/\g<w'.heap.size:=fun g hg=>hv.lt g hg
 exact { h with
  ext:=hc.ext h.ext (fun k hk=>h.base (h.rv k (bV.1 hk)) (by simp))
  fresh:=fun k hk=>by
   show yO s.ρ vo .out k=.none
   rw[uG _ (fun g hg=>by have:=(hlt g hg).2;omega)];exact h.fresh k (aV hc.size hk)
  old:=fun k hk=>by
   show yO s.ρ vo .out k=.none
   rw[uG _ (fun g hg=>by have:=(hlt g hg).1;omega)];exact h.old k hk
  rf:=kp h.rf (by simp) (by simp)
  hf:=h.hf.cR hc (X9 h.rf h.rv (by simp))
  ru:=kp h.ru (by simp) (by simp)
  hu:=h.hu.cR hc (X9 h.ru h.rv (by simp))
  rows:=fun x v hv'=>⟨cO (h.rows x v hv').1 hc fun g hg=>X9 ((h.rows x v hv').2 g hg) h.rv (by simp),fun g hg=>kp ((h.rows x v hv').2 g hg) (by simp) (by simp)⟩
  rm:=kp h.rm (by simp) (by simp)
  hm:=h.hm.cR hc (X9 h.rm h.rv (by simp))
  sets:=fun j hj=>⟨kp (h.sets j hj).1 (by simp) (by simp),(h.sets j hj).2.cR hc (X9 (h.sets j hj).1 h.rv (by simp))⟩
  rp:=kp h.rp (by simp) (by simp)
  hp:=h.hp.cR hc (X9 h.rp h.rv (by simp)) fun g hg=>X9 (h.rpv g hg) h.rv (by simp)
  rpv:=fun g hg=>kp (h.rpv g hg) (by simp) (by simp)
  hv:=hv
  rv:=fun g hg=>Xg _ hg }
noncomputable def St.apr (s:St) (x:BA) (v:Value) (u:ZN):St:={ s with ρ:=yO s.ρ v (.atk x),uv:=upS s.uv x (some v),U:=upS s.U x u }
def adx (s:St) (x:BA):Value:=(s.uv x).getD (.slice none 0 0)
theorem OB.UA (h:OB w0 l bf bu bm bp t s w) (x:BA):∀g,(adx s x).ownBlock=some g->s.ρ g=.atk x:=by
 intro g hg;unfold adx at hg;cases hu:s.uv x with
 | none=>rw[hu] at hg;simp[Value.ownBlock] at hg
 | some v=>rw[hu] at hg;exact(h.rows x v hu).2 g hg
theorem OB.Zh (h:OB w0 l bf bu bm bp t s w) (x:BA):w.ownsRow w0.heap.size 3 1 (adx s x) (s.U x).length (Q9 (s.U x)):=by
 unfold adx;cases hu:s.uv x with
 | none=>rw[h.aG8 x hu];exact a4' _ _ _ _
 | some v=>exact(h.rows x v hu).1
theorem OB.apr (h:OB w0 l bf bu bm bp t s w) {x:BA} {v:Value} {u:ZN} {w1:World} (hv:w1.ownsRow w0.heap.size 3 1 v u.length (Q9 u)) (hc:ct (rowOf (adx s x)) w w1) (hw:∀k,v.ownBlock=some k->(adx s x).ownBlock=some k\/w.heap.size<=k)
  (hc2:ct [bu] w1 w') (hm:ig w' 9 bu (t+1) (kV (upS s.uv x (some v)))):OB w0 l bf bu bm bp (t+1) (s.apr x v u) w':=by
 have hR:=h.UA x;have kp:∀{k q},s.ρ k=q->q≠.atk x->q≠.none->yO s.ρ v (.atk x) k=q:=fun hk h1 h2=>SU hk h1 h2 hR h.fresh hw
 have hlt:∀g,v.ownBlock=some g->w0.heap.size<=g/\g<w1.heap.size:=fun g hg=>hv.lt g hg
 have hbu:∀g,v.ownBlock=some g->g∉[bu]:=fun g hg hm=>by
  simp only[aG] at hm;subst hm;rcases hw g hg with h1|h1
  ·exact a40 (h.ru.symm.trans (hR g h1)) (by simp)
  exact a40 (h.ru.symm.trans (h.fresh g h1)) (by simp)
 have hcc:ct (bu::rowOf (adx s x)) w w':=ct.trans (ct.trans (ct.refl _ _) hc (fun k hk=>aoX (aZ _ hk))) hc2 (fun k hk=>aoX (by simp only[aG] at hk;simp[hk]));have h1:=h.more (Nat.le_succ t);exact { h1 with
  ext:=hcc.ext h.ext (fun k hk=>by
   rcases bz.1 hk with rfl|hk
   ·exact h.base h.ru (by simp)
   exact h.base (hR k (bV.1 hk)) (by simp))
  fresh:=fun k hk=>by
   show yO s.ρ v (.atk x) k=.none
   have:=hc2.size;rw[uG _ (fun g hg=>by have:=(hlt g hg).2;omega)];exact h.fresh k (aV hcc.size hk)
  old:=fun k hk=>by
   show yO s.ρ v (.atk x) k=.none
   rw[uG _ (fun g hg=>by have:=(hlt g hg).1;omega)];exact h.old k hk
  rf:=kp h.rf (by simp) (by simp)
  hf:=h1.hf.cR hcc (FI h.rf h.ru hR (by simp) (by simp))
  ru:=kp h.ru (by simp) (by simp)
  hu:=hm
  rows:=fun y u' hy=>by
   by_cases e:y=x
   ·subst e;have e1:upS s.uv y (some v) y=some v:=xY _ _ _;have e2:some v=some u':=e1.symm.trans hy;cases e2
    refine⟨?_,fun g hg=>Xg _ hg⟩
    show World.ownsRow _ _ _ _ _ (upS s.U y u y).length (Q9 (upS s.U y u y))
    rw[xY];exact cO hv hc2 hbu
   have e1:s.uv y=some u':=(sR s.uv (some v) e).symm.trans hy;obtain⟨r1,r2⟩:=h.rows y u' e1;refine⟨?_,fun g hg=>kp (r2 g hg) (by simpa using e) (by simp)⟩
   show World.ownsRow _ _ _ _ _ (upS s.U x u y).length (Q9 (upS s.U x u y))
   rw[sR _ _ e];exact cO r1 hcc fun g hg=>FI (r2 g hg) h.ru hR (by simp) (by simpa using e)
  aG8:=fun y hy=>by
   by_cases e:y=x
   ·subst e;have e1:upS s.uv y (some v) y=some v:=xY _ _ _;have e2:some v=none:=e1.symm.trans hy;cases e2
   have e1:s.uv y=none:=(sR s.uv (some v) e).symm.trans hy
   show upS s.U x u y=[]
   rw[sR _ _ e];exact h.aG8 y e1
  rm:=kp h.rm (by simp) (by simp)
  hm:=h1.hm.cR hcc (FI h.rm h.ru hR (by simp) (by simp))
  sets:=fun j hj=>⟨kp (h.sets j hj).1 (by simp) (by simp),(h1.sets j hj).2.cR hcc (FI (h.sets j hj).1 h.ru hR (by simp) (by simp))⟩
  rp:=kp h.rp (by simp) (by simp)
  hp:=h.hp.cR hcc (FI h.rp h.ru hR (by simp) (by simp)) fun g hg=>FI (h.rpv g hg) h.ru hR (by simp) (by simp)
  rpv:=fun g hg=>kp (h.rpv g hg) (by simp) (by simp)
  hv:=cO h.hv hcc fun g hg=>FI (h.rv g hg) h.ru hR (by simp) (by simp)
  rv:=fun g hg=>kp (h.rv g hg) (by simp) (by simp) }
end
theorem aBs:Tryz.prog.underlying 9=some .string:=by kernel_rfl
theorem gU:Keyed Tryz.prog 9:=string_keyed aBs
theorem ail:Tryz.prog.underlying 174=some (.map 9 176):=by kernel_rfl
def KW (w:World) (b n:Nat) (l:ZB):Prop:=∃D:DataW Unit,w.ownsMap Tryz.prog 9 unitElem b n D/\alC D l
theorem KW.cR {w w':World} {b n:Nat} {l:ZB} {N:ZN} (h:KW w b n l) (hc:ct N w w') (hn:b∉N):KW w' b n l:=by
 obtain⟨D,⟨es,clock,hb,r⟩,hs⟩:=h;exact⟨D,⟨es,clock,hc.blk hb hn,r⟩,hs⟩
theorem KW.lt {w:World} {b n:Nat} {l:ZB} (h:KW w b n l):b<w.heap.size:=by
 obtain⟨D,h,_⟩:=h;exact h.lt
theorem KW.mono {w:World} {b n n':Nat} {l:ZB} (h:KW w b n l) (hn:n<=n'):KW w b n' l:=by
 obtain⟨D,h,hs⟩:=h;exact⟨D,h.mono hn,hs⟩
def aGx (b n:Nat) (l:ZB) (w:World) (e:Ending) (w':World):Prop:=e=.returned (.tuple #[])/\KW w' b n l/\ct [b] w w'
theorem ct.aHd {w w':World} {b:Nat} (h:w.grownBy w' (some b)):ct [b] w w':=⟨h.os,h.tape,h.output,h.size,fun k hk hn=>h.block k hk (fun e=>hn (by simp at e;simp[e]))⟩
theorem NW {w:World} {M:ZN} {p:Addr} {v:Value} (h:(mask w M).cell? p=some v):w.cell? p=some v:=by
 rw[eA] at h;split at h
 ·cases h
 exact h
theorem ac7:(l:List Ex)->kE l->∀x∈l,x.fits
 | [],_,x,hx=>by simp at hx
 | a::r,h,x,hx=>by
  unfold kE at h;rcases bz.1 hx with rfl|hx
  ·exact h.1
  exact ac7 r h.2 x hx
theorem Mf {e:Ex} (h:e.fits):e.name.size<=1000000000000000/\∀x∈e.args,x.fits:=by
 cases e
 unfold Ex.fits at h;exact⟨h.1,ac7 _ h.2.2⟩
theorem aji (m:Nat):m<=1000000->∀(e:Ex) (v:Value) (w:World) (b n:Nat) (l:ZB),e.size<=m->e.fits->dw (mask w [b]) e v->KW w b n l->n+e.size<=1000000 ->
  Calls Tryz.prog 140 #[v,.map (some b)] w (aGx b (n+e.size) (l++fX e) w):=by
 induction m with
 | zero=>intro _ e v w b n l h;have:=size_pos e;omega
 | succ m ih =>
  intro Re e v w b n l hm hfit he abG hn;obtain⟨aw,nw,cw,aa,na,ca,rfl,hw,hna,hca,ha,hx⟩:=he.parts;have hS:e.size=1+sizes e.args:=e.size_eq;have hla:=eR e.args;obtain⟨hnm,qx⟩:=Mf hfit;have AD:=ai qx;have qL:=abG.lt;have HX:=ai ((Tz w).alloc (.cells #[ e.op,.string e.name,.slice aw nw cw,e.lo,e.hi,.slice aa na ca] 45));have jm:=ai (bR w (.cells #[ e.op,.string e.name,.slice aw nw cw,e.lo,e.hi,.slice aa na ca] 45));have zl:=ai (eU.mono (eG [b] HX.o) e.args aa hx);have Ij:=ai (abG.cR (HX.o.cR []) (by simp));have kJ:=ai hna;have AQ:=ai (akr e);have tR:=ai hS;have IH:=ai (ih (by omega));have Ks:na<=1000000:=by omega
  have hsz:sizes e.args<=m:=by omega
  have hn2:n+1+sizes e.args<=1000000:=by omega
  clear hw hna hca ha hx he abG hS hla hfit qx ih hm hn;generalize fX e=NE at *;generalize e.size=SE at *;unfold fN;go_enter Tryz.func140,Tryz.ntmps140
  go_upto_region 1 with fail;generalize w.alloc (.cells #[ e.op,.string e.name,.slice aw nw cw,e.lo,e.hi,.slice aa na ca] 45)=wb at *;have hz0:=HX.o.size;obtain⟨b0,b1,b2,b3,b4,b5,bf⟩:=cX jm.o;have Yw:=bS jm.o;by_cases h3:e.op=3
  case' pos =>
   have t3:(e.op==3)=true:=by simp[h3]
   obtain⟨D,hown,hsi⟩:=Ij.o;have HOW:=ai hown;have qP:=ai (show NE=[e.name]++iH e.args by rw[AQ.o,bM h3]);have HSI:=ai (hsi.put e.name (.agg []));clear hown hsi h3;go_wp2_with (at_mapUpdate;refine wpList_mapUpdate_own _ rfl _ _ _ 174 rfl 9 176 gU ail (unitElem (H:=Unit)) b n D rfl HOW.o ?c0 _ _ _ rfl rfl (Go.WideMaps.keyOf_string_mk aBs ?c1) _ [] unitElem_mk ?_)
   case c0=>unfold maxLen;omega
   case c1=>unfold maxLen;omega
   intro w1 hown1 aDn;have hc1:=ct.aHd aDn;have mE:=ai hc1;obtain⟨L,hL⟩:∃L,L=l++[e.name]:=⟨_,rfl⟩
   have Ae:=ai (show KW w1 b (n+1) L by rw[hL];exact⟨_,hown1,HSI.o⟩);have gG:=ai (hc1.blk jm.o (by simp;omega));have aTu:=ai (show L++iH e.args=l++NE by rw[hL,qP.o,List.append_assoc]);have hz1:=hc1.size;clear hown1 aDn hc1 HOW HSI qP hL b0 b1 b2 b3 b4 b5 bf Yw;go_upto_region 3 with fail
  case' neg =>
   have t3:(e.op==3)=false:=by simp[h3]
   have qP:=ai (show NE=iH e.args by rw[AQ.o,bL h3];simp);have mE:=ai (ct.refl [b] wb);obtain⟨L,hL⟩:∃L,L=l:=⟨_,rfl⟩
   have Ae:=ai (show KW wb b (n+1) L by rw[hL];exact Ij.o.mono (Nat.le_succ n));have gG:=jm;have aTu:=ai (show L++iH e.args=l++NE by rw[hL,qP.o]);have hz1:=aU wb.heap.size;clear h3 qP hL;go_upto_region 3 with fail;clear b0 b1 b2 b3 b4 b5 bf Yw
  all_goals
   obtain⟨b0,b1,b2,b3,b4,b5,bf⟩:=cX gG.o;have Yw:=bS gG.o;go_wp2_with fail;clear b0 b1 b2 b3 b4 b5 bf Yw
   go_loopg [16] na (fun g i wr=>∃j:Nat,j<=na/\g=na - j/\i=.int .i64 j/\KW wr b (n+1+sizes (e.args.take j)) (L++iH (e.args.take j))/\ct [b] wb wr)
   case atStart=>exact⟨0,by omega,rfl,rfl,by simpa[sizes,iH] using Ae.o,mE.o⟩
   case round =>
    obtain⟨j,hj,hgj,rfl,hs,hc⟩:=hrel;have Jp:=ai hgj;have HSJ:=ai hs;have HCJ:=ai hc;have hzr:=hc.size;clear hs hc hgj;by_cases hlt:j<na
    ·have hlt':j<e.args.length:=by have:=kJ.o;omega
     have td:decide ((j:Int)<(na:Int))=true:=by simp;omega
     obtain⟨bb,off,rfl,nJ,nD,nG,nK,nE,nI,c0,c1,c2,c3,c4,c5,c6⟩:=eU.at e.args _ (eU.mono HCJ.o.sub _ _ zl.o) j hlt';have sK:=ai c6
     replace c0:=NW c0
     replace c1:=NW c1
     replace c2:=NW c2
     replace c3:=NW c3
     replace c4:=NW c4
     replace c5:=NW c5
     have HST:=ai (eD e.args j hlt');have Uf:=ai (dX e.args (j+1));have HNT:=ai (acS e.args j hlt');have HFJ:=ai (AD.o _ (aD hlt'));clear c6;generalize e.args[j]=a at *;go_upto_region 6 with fail;have dm:=ai ((Tz wr).alloc (.cells #[ a.op,.string a.name,.slice nJ nD nG,a.lo,a.hi,.slice nK nE nI] 45));have oF:=ai (bR wr (.cells #[ a.op,.string a.name,.slice nJ nD nG,a.lo,a.hi,.slice nK nE nI] 45));clear c0 c1 c2 c3 c4 c5;generalize wr.alloc (.cells #[ a.op,.string a.name,.slice nJ nD nG,a.lo,a.hi,.slice nK nE nI] 45)=wa at *;obtain⟨a0,a1,a2,a3,a4,a5,af⟩:=cX oF.o;have hla:=bS oF.o;go_wp2_with fail;refine(IH.o a _ _ b _ _ (by have:=HST.o;have:=Uf.o;omega) HFJ.o (sK.o.mono (eG [b] dm.o)) (HSJ.o.cR (dm.o.cR []) (by simp)) (by have:=HST.o;have:=Uf.o;omega)).mono ?_;rintro r w2 ⟨rfl,hs2,hc2⟩;have oB:=ai (show KW w2 b (n+1+sizes (e.args.take (j+1))) (L++iH (e.args.take (j+1))) by
      rw[HST.o,HNT.o,<-List.append_assoc,<-Nat.add_assoc];exact hs2)
     have iP:=ai ((HCJ.o.then (dm.o.cR _)).then hc2);clear hs2 hc2 a0 a1 a2 a3 a4 a5 af hla;go_wp2_with fail
     go_roundg (na - (j+1))
     case measure=>have:=Jp.o;omega
     case rel=>exact⟨j+1,by omega,rfl,by go_num,oB.o,iP.o⟩
    have kH:=ai (show e.args.take j=e.args from aS (by have:=kJ.o;omega));have td:decide ((j:Int)<(na:Int))=false:=by simp;omega
    rw[kH.o] at HSJ;go_wp2_with fail
    go_end0
    refine⟨rfl,?_,(HX.o.cR _).then HCJ.o⟩;rw[tR.o,<-aTu.o,<-Nat.add_assoc];exact HSJ.o
def ajr (w:World) (base:Nat) (l:ZB) (v:Value):Prop:=w.ownsRow base 9 1 v l.length (l.flatMap iC)
def aIQ (l:ZB) (w:World) (e:Ending) (w':World):Prop:=∃(a:OA) (c:Nat),e=.returned (.slice a l.length c)/\fS w' l a l.length c/\Ext w w'
theorem aHe {s x:BA} {r:ZB} (h:Op.bytesLess s.toList x.toList=true):x9 s (x::r)=s::x::r:=by
 rw[Go.Proofs.bytesLess_eq,aH] at h;rw[x9,bM h]
theorem ayk {s x:BA} {r:ZB} (h1:Op.bytesLess s.toList x.toList=false) (h2:(s.toList==x.toList)=true):x9 s (x::r)=x::r:=by
 rw[Go.Proofs.bytesLess_eq,bI] at h1;rw[x9,bL h1,bM (by simpa using h2)]
theorem aHf {s x:BA} {r:ZB} (h1:Op.bytesLess s.toList x.toList=false) (h2:(s.toList==x.toList)=false):x9 s (x::r)=x::x9 s r:=by
 rw[Go.Proofs.bytesLess_eq,bI] at h1;rw[x9,bL h1,bL (by simpa using h2)]
theorem aIo {l:ZB} {k:Nat} (h:k<l.length):l.drop k=l[k]::l.drop (k+1):=by simp
theorem ayj (s:BA) (l:ZB) (a:OA) (n c:Nat) (w:World) (hs:fS w l a n c) (hn:n<=1000000) :
  Calls Tryz.prog 178 #[.slice a n c,.string s] w (aIQ (x9 s l) w):=by
 have HS:=ai hs;have HN:=ai hs.1;have qB:=ai (Zp s l);clear hs;go_enter Tryz.func178,Tryz.ntmps178
 go_wp2_with fail
 go_loopg [5,6,7] n (fun m u d i wr=>∃(k:Nat) (out:ZB) (done:Bool),k<=n/\m=n - k/\i=.int .i64 k/\d=.bool done/\out.length<=k+1/\(done=false->out.length<=k)/\ajr wr w.heap.size out u/\out++(if done then l.drop k else x9 s (l.drop k))=x9 s l/\Ext w wr)
 case atStart=>exact⟨0,[],false,by omega,rfl,rfl,rfl,by simp,by simp,a4' _ _ _ _,by simp,Tz _⟩
 case round =>
  obtain⟨k,out,done,hk,hm,rfl,rfl,hol,hod,hown,heq,hx⟩:=hrel;have HM:=ai hm;have HO:=ai hown;have Gk:=ai heq;have HX:=ai hx;have HOD:=ai hod;have hz:=hx.size;obtain⟨ua,uc,rfl,-,-⟩:=jR hown [] (by simp);clear hm hown heq hx hod;by_cases hlt:k<n
  ·have hlt':k<l.length:=by have:=HN.o;omega
   have td:decide ((k:Int)<(n:Int))=true:=by simp;omega
   obtain⟨b,off,rfl,hcell⟩:=HS.o.2.2.2 k hlt';have HC:=ai hcell
   replace hcell:=HX.o.cell hcell
   have HD:=ai (aIo hlt');have hbl:=eB hcell;simp only at hbl;generalize l[k]=x at *;have fin:∀(ayJ:ZB) (arI:Bool) (u2:Value) (w2:World),ayJ++(if arI then x::l.drop (k+1) else x9 s (x::l.drop (k+1)))=x9 s l->(arI=false->Op.bytesLess s.toList x.toList=false/\(s.toList==x.toList)=false)->ayJ++[x]++(if arI then l.drop (k+1) else x9 s (l.drop (k+1)))=x9 s l:=by
    intro ayJ arI u2 w2 h1 h2;cases arI
    ·obtain⟨h3,h4⟩:=h2 rfl;rw[bL (by simp),aHf h3 h4] at h1;rw[bL (by simp),<-h1];simp
    rw[bM rfl] at h1 ⊢;rw[<-h1];simp
   have VM:=ai fin;clear fin;have aJl:=ai (show out++(if done then x::l.drop (k+1) else x9 s (x::l.drop (k+1)))=x9 s l by rw[<-HD.o];exact Gk.o);clear Gk HD;cases done
   ·have a3h:out.length<=k:=HOD.o rfl;cases h1:Op.bytesLess s.toList x.toList
    ·cases h2:(s.toList==x.toList)
     case' false =>
      have Gj:=ai (VM.o out false (.bool false) wr aJl.o (fun _=>⟨h1,h2⟩));go_upto_region 10 with fail
     case' true =>
      have Gj:=ai (VM.o out true (.bool false) wr (by rw[bM rfl,<-ayk h1 h2];have:=aJl.o;rwa [bL (by simp)] at this) (fun h=>by cases h));go_upto_region 10 with fail
     all_goals
      clear h1 h2;have hz1:=HX.o.size;go_wp2_with (at_builtin;refine lu xM rfl _ _ rfl w.heap.size _ _ _ rfl HO.o _ 1 1 rfl ?c0 rfl ?c1 ?c2 ?c3 ?c4 ?_)
      case c0=>rfl
      case c1=>simp[Value.oneCell']
      case c2=>simp only[maxLen];omega
      case c3=>omega
      try (case c4=>omega)
      intro v2 w2 jt iA;have tX:=ai (show ajr w2 w.heap.size (out++[x]) v2 by unfold ajr;rw[bg,List.flatMap_append];exact jt);have dN:=ai (HX.o.grown iA (Ck HO.o));clear jt iA hcell;go_wp2_with fail
      go_roundg (n - (k+1))
      case measure=>have:=HM.o;omega
      case rel=>exact⟨k+1,out++[x],_,by omega,rfl,by go_num,rfl,by simp;omega,fun _=>by simp;omega,tX.o,Gj.o,dN.o⟩
    have Gj:=ai (VM.o (out++[s]) true (.bool false) wr (by rw[bM rfl,List.append_assoc];have:=aJl.o;rw[bL (by simp),aHe h1] at this;simpa using this) (fun h=>by cases h));have hz1:=HX.o.size;go_wp2_with (at_builtin;refine lu xM rfl _ _ rfl w.heap.size _ _ _ rfl HO.o _ 1 1 rfl ?c0 rfl ?c1 ?c2 ?c3 ?c4 ?_)
    case c0=>rfl
    case c1=>simp[Value.oneCell']
    case c2=>simp only[maxLen];omega
    case c3=>omega
    try (case c4=>omega)
    intro v2 w2 jt iA;have tX:=ai (show ajr w2 w.heap.size (out++[s]) v2 by unfold ajr;rw[bg,List.flatMap_append];exact jt);have dN:=ai (HX.o.grown iA (Ck HO.o));have au9:=dN.o.cell HC.o;have aMt:=eB au9;simp only at aMt;have hz2:=dN.o.size;have oC:=tX.o;unfold ajr at oC;have hl2:(out++[s]).length<=k+1:=by simp;omega
    generalize out++[s]=ayJ at *;obtain⟨ua2,uc2,rfl,-,-⟩:=jR oC [] (by simp);clear jt iA hcell oC h1;go_wp2_with (at_builtin;refine lu xM rfl _ _ rfl w.heap.size _ _ _ rfl tX.o _ 1 1 rfl ?d0 rfl ?d1 ?d2 ?d3 ?d4 ?_)
    case d0=>rfl
    case d1=>simp[Value.oneCell']
    case d2=>simp only[maxLen];omega
    case d3=>omega
    try (case d4=>omega)
    intro v4 w4 Cq DJ;have Em:=ai (show ajr w4 w.heap.size (ayJ++[x]) v4 by unfold ajr;rw[bg,List.flatMap_append];exact Cq);have jl:=ai (dN.o.grown DJ (Ck tX.o));clear Cq DJ au9;go_wp2_with fail
    go_roundg (n - (k+1))
    case measure=>have:=HM.o;omega
    case rel=>exact⟨k+1,ayJ++[x],true,by omega,rfl,by go_num,rfl,by simp;omega,fun h=>(by cases h),Em.o,Gj.o,jl.o⟩
   have Gj:=ai (VM.o out true (.bool false) wr aJl.o (fun h=>by cases h));have hz1:=HX.o.size;go_wp2_with (at_builtin;refine lu xM rfl _ _ rfl w.heap.size _ _ _ rfl HO.o _ 1 1 rfl ?c0 rfl ?c1 ?c2 ?c3 ?c4 ?_)
   case c0=>rfl
   case c1=>simp[Value.oneCell']
   case c2=>simp only[maxLen];omega
   case c3=>omega
   try (case c4=>omega)
   intro v2 w2 jt iA;have tX:=ai (show ajr w2 w.heap.size (out++[x]) v2 by unfold ajr;rw[bg,List.flatMap_append];exact jt);have dN:=ai (HX.o.grown iA (Ck HO.o));clear jt iA hcell;go_wp2_with fail
   go_roundg (n - (k+1))
   case measure=>have:=HM.o;omega
   case rel=>exact⟨k+1,out++[x],true,by omega,rfl,by go_num,rfl,by simp;omega,fun h=>(by cases h),tX.o,Gj.o,dN.o⟩
  have td:decide ((k:Int)<(n:Int))=false:=by simp;omega
  have YJ:=ai (show l.drop k=[] from List.drop_eq_nil_of_le (by have:=HN.o;omega));cases done
  ·have acj:=ai (show out++[s]=x9 s l by have:=Gk.o;rw[bL (by simp),YJ.o] at this;exact this);go_wp2_with (at_builtin;refine lu xM rfl _ _ rfl w.heap.size _ _ _ rfl HO.o _ 1 1 rfl ?c0 rfl ?c1 ?c2 ?c3 ?c4 ?_)
   case c0=>rfl
   case c1=>simp[Value.oneCell']
   case c2=>simp only[maxLen];omega
   case c3=>omega
   try (case c4=>omega)
   intro v2 w2 jt iA;have oC:w2.ownsRow w.heap.size 9 1 v2 (out++[s]).length ((out++[s]).flatMap iC):=by rw[bg,List.flatMap_append];exact jt
   have dN:=ai (HX.o.grown iA (Ck HO.o));obtain⟨ua2,uc2,rfl,-,hst⟩:=jR oC [] (by simp);have HST:=ai hst;clear jt iA oC hst;go_wp2_with fail;go_ret;refine⟨ua2,uc2,?_,?_,dN.o⟩
   ·rw[<-acj.o];rfl
   rw[<-acj.o];exact HST.o
  have acj:=ai (show out=x9 s l by have:=Gk.o;rw[bM rfl,YJ.o,List.append_nil] at this;exact this);obtain⟨ua2,uc2,e2,-,hst⟩:=jR HO.o [] (by simp);simp only[a45,true_and] at e2;obtain⟨rfl,rfl⟩:=e2;have HST:=ai hst;clear hst;go_wp2_with fail;go_ret;refine⟨ua,uc,?_,?_,HX.o⟩
  ·rw[<-acj.o];rfl
  rw[<-acj.o];exact HST.o
def Kz (m l:ZB):ZB:=m.foldl (fun l s=>x9 s l) l
theorem ac6 (m k l:ZB):Kz (m++k) l=Kz k (Kz m l):=by simp[Kz]
theorem aDS (l:ZB):Kz [] l=l:=rfl
theorem aDR (s:BA) (l:ZB):Kz [s] l=x9 s l:=rfl
theorem aDT (m l:ZB):(Kz m l).length<=m.length+l.length:=aai m l
mutual
theorem zM:(e:Ex)->(fX e).length<=e.size
 | .mk op name words lo hi args=>by
  have:=PG args;rw[fX,Ex.size,bg];split<;>simp<;>omega
theorem PG:(l:List Ex)->(iH l).length<=sizes l
 | []=>by simp[iH,sizes]
 | e::r=>by
  have:=zM e;have:=PG r;rw[iH,sizes,bg];omega
end
theorem ani (m:Nat):m<=1000000->∀(e:Ex) (v:Value) (w:World) (l:ZB) (a:OA) (n c:Nat),e.size<=m->dw w e v->fS w l a n c->n+e.size<=1000000 ->
  Calls Tryz.prog 159 #[.slice a n c,v] w (aIQ (Kz (fX e) l) w):=by
 induction m with
 | zero=>intro _ e v w l a n c h;have:=size_pos e;omega
 | succ m ih =>
  intro Re e v w l a n c hm he hs hn;obtain⟨aw,nw,cw,aa,na,ca,rfl,hw,hna,hca,ha,hx⟩:=he.parts;have hS:e.size=1+sizes e.args:=e.size_eq;have hla:=eR e.args;have HX:=ai ((Tz w).alloc (.cells #[ e.op,.string e.name,.slice aw nw cw,e.lo,e.hi,.slice aa na ca] 45));have jm:=ai (bR w (.cells #[ e.op,.string e.name,.slice aw nw cw,e.lo,e.hi,.slice aa na ca] 45));have zl:=ai (eU.ext HX.o e.args aa hx);have HS:=ai (hs.ext HX.o);have K8:=ai hs.1;have kJ:=ai hna;have AQ:=ai (akr e);have IH:=ai (ih (by omega));have Ks:na<=1000000:=by omega
  have hsz:sizes e.args<=m:=by omega
  have hn2:n+1+sizes e.args<=1000000:=by omega
  clear hw hna hca ha hx he hs hS hla ih hm hn;generalize fX e=NE at *;unfold fN;go_enter Tryz.func159,Tryz.ntmps159
  go_upto_region 1 with fail;generalize w.alloc (.cells #[ e.op,.string e.name,.slice aw nw cw,e.lo,e.hi,.slice aa na ca] 45)=wb at *;obtain⟨b0,b1,b2,b3,b4,b5,bf⟩:=cX jm.o;have Yw:=bS jm.o;by_cases h3:e.op=3
  case' pos =>
   have t3:(e.op==3)=true:=by simp[h3]
   have qP:=ai (show Kz NE l=Kz (iH e.args) (x9 e.name l) by rw[AQ.o,bM h3,ac6,aDR]);have hpl:=Zp e.name l;clear h3;go_wp2_with fail;refine(ayj e.name l a n c _ HS.o (by omega)).mono ?_;rintro r w1 ⟨a1,c1,rfl,hs1,hx1⟩;have Ae:=ai hs1;have dI:=ai hx1;have gG:=ai (hx1.blk jm.o);have sA:(x9 e.name l).length<=n+1:=by have:=K8.o;omega
   clear hs1 hx1 b0 b1 b2 b3 b4 b5 bf Yw HS K8 hpl;generalize x9 e.name l=l1 at *;obtain⟨n1,Cr⟩:∃n1,n1=l1.length:=⟨_,rfl⟩
   rw[<-Cr] at Ae sA ⊢;clear Cr;go_upto_region 3 with fail
  case' neg =>
   have t3:(e.op==3)=false:=by simp[h3]
   have qP:=ai (show Kz NE l=Kz (iH e.args) l by rw[AQ.o,bL h3];simp);have dI:=ai (Tz wb);have gG:=jm;have sA:n<=n+1:=by omega
   have Ae:=HS;clear h3 HS;obtain⟨l1,aL6⟩:∃l1,l1=l:=⟨_,rfl⟩
   have aTt:=ai (show Kz NE l=Kz (iH e.args) l1 by rw[aL6];exact qP.o);rw[<-aL6] at Ae K8;clear aL6 qP;have qP:=aTt;clear aTt;go_upto_region 3 with fail;clear b0 b1 b2 b3 b4 b5 bf Yw
  all_goals
   go_wp2_with fail
   go_loopg [0,5] na (fun g u i wr=>∃(j:Nat) (al:OA) (nl cl:Nat),j<=na/\g=na - j/\i=.int .i64 j/\u=.slice al nl cl/\nl<=n+1+(iH (e.args.take j)).length/\fS wr (Kz (iH (e.args.take j)) l1) al nl cl/\Ext wb wr)
   case atStart=>exact⟨0,_,_,_,by omega,rfl,rfl,rfl,by omega,by simpa[iH,aDS] using Ae.o,dI.o⟩
   case round =>
    obtain⟨j,al,nl,cl,hj,hgj,rfl,rfl,hnl,hsj,hxj⟩:=hrel;have Jp:=ai hgj;have HSJ:=ai hsj;have HXJ:=ai hxj;have OX:=ai hnl;have HBJ:=ai (hxj.blk jm.o);clear hsj hxj hgj hnl;obtain⟨b0,b1,b2,b3,b4,b5,bf⟩:=cX HBJ.o;have Yw:=bS HBJ.o;by_cases hlt:j<na
    ·have hlt':j<e.args.length:=by have:=kJ.o;omega
     have td:decide ((j:Int)<(na:Int))=true:=by simp;omega
     obtain⟨bb,off,rfl,nJ,nD,nG,nK,nE,nI,c0,c1,c2,c3,c4,c5,c6⟩:=eU.at e.args _ (eU.ext HXJ.o _ _ zl.o) j hlt';have sK:=ai c6;have HST:=ai (eD e.args j hlt');have Uf:=ai (dX e.args (j+1));have HNT:=ai (acS e.args j hlt');have aZc:=ai (PG (e.args.take j));clear c6;generalize e.args[j]=a' at *;go_wp2_with fail;refine(IH.o a' _ _ _ al nl cl (by have:=HST.o;have:=Uf.o;omega) sK.o HSJ.o (by have:=HST.o;have:=Uf.o;have:=OX.o;have:=aZc.o;omega)).mono ?_;rintro r w2 ⟨a2,c2',rfl,hs2,hx2⟩;have A4:=ai (show (Kz (fX a') (Kz (iH (e.args.take j)) l1)).length<=n+1+(iH (e.args.take (j+1))).length by
      have h1:=aDT (fX a') (Kz (iH (e.args.take j)) l1);have h2:=HSJ.o.1;have h3:=OX.o;rw[HNT.o,bg];omega)
     have oB:=ai (show fS w2 (Kz (iH (e.args.take (j+1))) l1) a2 (Kz (fX a') (Kz (iH (e.args.take j)) l1)).length c2' by rw[HNT.o,ac6];exact hs2);have dN:=ai (HXJ.o.trans hx2);clear hs2 hx2 c0 c1 c2 c3 c4 c5 b0 b1 b2 b3 b4 b5 bf Yw;generalize (Kz (fX a') (Kz (iH (e.args.take j)) l1)).length=n2 at *;go_wp2_with fail
     go_roundg (na - (j+1))
     case measure=>have:=Jp.o;omega
     case rel=>exact⟨j+1,a2,n2,c2',by omega,rfl,by go_num,rfl,A4.o,oB.o,dN.o⟩
    have kH:=ai (show e.args.take j=e.args from aS (by have:=kJ.o;omega));have td:decide ((j:Int)<(na:Int))=false:=by simp;omega
    rw[kH.o,<-qP.o] at HSJ;have tY:=ai HSJ.o.1;go_wp2_with fail;go_ret;refine⟨al,cl,?_,?_,HX.o.trans HXJ.o⟩
    ·rw[<-tY.o];rfl
    rw[<-tY.o];exact HSJ.o
theorem IM (e:Ex) (v:Value) (w:World) (hs:e.size<=900000) (he:dw w e v):Calls Tryz.prog 124 #[v] w (aIQ (jB (fX e)) w):=by
 obtain⟨aw,nw,cw,aa,na,ca,rfl,-,-,-,-,-⟩:=he.parts;have HX:=ai ((Tz w).alloc (.cells #[ e.op,.string e.name,.slice aw nw cw,e.lo,e.hi,.slice aa na ca] 45));have HE:=ai (he.ext HX.o);clear he;unfold fN at *;go_enter Tryz.func124,Tryz.ntmps124
 go_wp2_with fail;refine(ani 900000 (by omega) e _ _ [] none 0 0 hs HE.o ⟨rfl,aU 0,aoX ⟨rfl,rfl⟩,fun i hi=>by simp at hi⟩ (by omega)).mono ?_;rintro r w1 ⟨a1,c1,rfl,hs1,hx1⟩;have Ae:=ai hs1;have dI:=ai (HX.o.trans hx1);clear hs1 hx1;go_wp2_with fail;go_ret;exact⟨a1,c1,rfl,Ae.o,dI.o⟩
end Go.Proofs.YtefjomofjejklaaGreatDoor
namespace Go.Proofs
set_option maxRecDepth 100000
set_option maxHeartbeats 32000000
open Go.Shelf
def Tryz.keys42_ren:Go.Shelf.Ren:=⟨fun|7=>142|10=>172|n=>n,fun|23=>174|26=>9|3=>176|28=>207|0=>0|27=>206|33=>160|4=>4|n=>n,fun|n=>n⟩
theorem Tryz.keys42:Go.Proofs.SlLaysZ.n7 Tryz.prog Tryz.keys42_ren:={
 mixed:=by kernel_rfl
 f7:=⟨Tryz.f142.name,by decide,Tryz.func142.trans (congrArg some (by kernel_rfl))⟩
 f10:=⟨Tryz.f172.name,by decide,Tryz.func172.trans (congrArg some (by kernel_rfl))⟩
 t0:=Tryz.underlying0
 a0:=Tryz.isAgg0
 z0:=Tryz.sizeOf0
 v0:=Tryz.zeroValue0
 t4:=Tryz.underlying4
 a4:=Tryz.isAgg4
 z4:=Tryz.sizeOf4
 v4:=Tryz.zeroValue4
 t23:=Tryz.underlying174
 a23:=Tryz.isAgg174
 z23:=Tryz.sizeOf174
 v23:=Tryz.zeroValue174
 t26:=Tryz.underlying9
 a26:=Tryz.isAgg9
 z26:=Tryz.sizeOf9
 v26:=Tryz.zeroValue9
 t27:=Tryz.underlying206
 a27:=Tryz.isAgg206
 z27:=Tryz.sizeOf206
 v27:=Tryz.zeroValue206
 t28:=Tryz.underlying207
 a28:=Tryz.isAgg207
 z28:=Tryz.sizeOf207
 v28:=Tryz.zeroValue207
 t33:=Tryz.underlying160
 a33:=Tryz.isAgg160
 z33:=Tryz.sizeOf160
 v33:=Tryz.zeroValue160 }
def Tryz.sorted41_ren:Go.Shelf.Ren:=⟨fun|6=>141|8=>170|9=>171|11=>185|13=>187|12=>186|23=>199|24=>200|14=>190|15=>191|16=>192|17=>193|18=>194|19=>195|20=>196|21=>197|22=>198|25=>201|26=>202|27=>203|28=>204|29=>205|30=>206|31=>207|n=>n,fun|26=>9|28=>207|24=>42|0=>0|3=>3|37=>240|48=>254|50=>256|4=>4|40=>247|39=>246|45=>145|5=>5|9=>9|51=>257|55=>228|57=>262|58=>117|33=>160|n=>n,fun|n=>n⟩
theorem Tryz.sorted41:Go.Proofs.SlLaysZ.n6 Tryz.prog Tryz.sorted41_ren:={
 mixed:=by kernel_rfl
 f6:=⟨Tryz.f141.name,by decide,Tryz.func141.trans (congrArg some (by kernel_rfl))⟩
 f8:=⟨Tryz.f170.name,by decide,Tryz.func170.trans (congrArg some (by kernel_rfl))⟩
 f11:=⟨Tryz.f185.name,by decide,Tryz.func185.trans (congrArg some (by kernel_rfl))⟩
 t0:=Tryz.underlying0
 a0:=Tryz.isAgg0
 z0:=Tryz.sizeOf0
 v0:=Tryz.zeroValue0
 t24:=Tryz.underlying42
 a24:=Tryz.isAgg42
 z24:=Tryz.sizeOf42
 v24:=Tryz.zeroValue42
 t26:=Tryz.underlying9
 a26:=Tryz.isAgg9
 z26:=Tryz.sizeOf9
 v26:=Tryz.zeroValue9
 t28:=Tryz.underlying207
 a28:=Tryz.isAgg207
 z28:=Tryz.sizeOf207
 v28:=Tryz.zeroValue207
 i26:=by kernel_rfl }
def Tryz.sort61_ren:Go.Shelf.Ren:=⟨fun|6=>171|8=>187|9=>186|19=>199|20=>200|21=>190|22=>191|23=>192|24=>193|25=>194|26=>195|27=>196|28=>197|29=>198|36=>201|31=>202|32=>203|37=>204|38=>205|39=>206|41=>207|n=>n,fun|27=>42|29=>9|3=>3|32=>240|26=>42|0=>0|44=>254|46=>256|4=>4|36=>247|35=>246|41=>145|5=>5|9=>9|53=>257|57=>228|63=>262|64=>117|n=>n,fun|n=>n⟩
theorem Tryz.sort61:Go.Proofs.SlLaysM.n6 Tryz.prog Tryz.sort61_ren:={
 mixed:=by kernel_rfl
 f6:=⟨Tryz.f171.name,by decide,Tryz.func171.trans (congrArg some (by kernel_rfl))⟩
 f8:=Tryz.func187.trans (congrArg some (by kernel_rfl))
 f9:=⟨Tryz.f186.name,by decide,Tryz.func186.trans (congrArg some (by kernel_rfl))⟩
 f19:=Tryz.func199.trans (congrArg some (by kernel_rfl))
 f20:=Tryz.func200.trans (congrArg some (by kernel_rfl))
 f21:=⟨Tryz.f190.name,by decide,Tryz.func190.trans (congrArg some (by kernel_rfl))⟩
 f22:=⟨Tryz.f191.name,by decide,Tryz.func191.trans (congrArg some (by kernel_rfl))⟩
 f23:=⟨Tryz.f192.name,by decide,Tryz.func192.trans (congrArg some (by kernel_rfl))⟩
 f24:=⟨Tryz.f193.name,by decide,Tryz.func193.trans (congrArg some (by kernel_rfl))⟩
 f25:=⟨Tryz.f194.name,by decide,Tryz.func194.trans (congrArg some (by kernel_rfl))⟩
 f26:=⟨Tryz.f195.name,by decide,Tryz.func195.trans (congrArg some (by kernel_rfl))⟩
 f27:=⟨Tryz.f196.name,by decide,Tryz.func196.trans (congrArg some (by kernel_rfl))⟩
 f28:=⟨Tryz.f197.name,by decide,Tryz.func197.trans (congrArg some (by kernel_rfl))⟩
 f29:=⟨Tryz.f198.name,by decide,Tryz.func198.trans (congrArg some (by kernel_rfl))⟩
 f31:=Tryz.func202.trans (congrArg some (by kernel_rfl))
 f32:=Tryz.func203.trans (congrArg some (by kernel_rfl))
 f36:=⟨Tryz.f201.name,by decide,Tryz.func201.trans (congrArg some (by kernel_rfl))⟩
 f37:=⟨Tryz.f204.name,by decide,Tryz.func204.trans (congrArg some (by kernel_rfl))⟩
 f38:=⟨Tryz.f205.name,by decide,Tryz.func205.trans (congrArg some (by kernel_rfl))⟩
 f39:=⟨Tryz.f206.name,by decide,Tryz.func206.trans (congrArg some (by kernel_rfl))⟩
 f41:=⟨Tryz.f207.name,by decide,Tryz.func207.trans (congrArg some (by kernel_rfl))⟩
 t0:=Tryz.underlying0
 a0:=Tryz.isAgg0
 z0:=Tryz.sizeOf0
 v0:=Tryz.zeroValue0
 t3:=Tryz.underlying3
 a3:=Tryz.isAgg3
 z3:=Tryz.sizeOf3
 v3:=Tryz.zeroValue3
 t4:=Tryz.underlying4
 a4:=Tryz.isAgg4
 z4:=Tryz.sizeOf4
 v4:=Tryz.zeroValue4
 t5:=Tryz.underlying5
 a5:=Tryz.isAgg5
 z5:=Tryz.sizeOf5
 v5:=Tryz.zeroValue5
 t9:=Tryz.underlying9
 a9:=Tryz.isAgg9
 z9:=Tryz.sizeOf9
 v9:=Tryz.zeroValue9
 t26:=Tryz.underlying42
 a26:=Tryz.isAgg42
 z26:=Tryz.sizeOf42
 v26:=Tryz.zeroValue42
 t27:=Tryz.underlying42
 a27:=Tryz.isAgg42
 z27:=Tryz.sizeOf42
 v27:=Tryz.zeroValue42
 t29:=Tryz.underlying9
 a29:=Tryz.isAgg9
 z29:=Tryz.sizeOf9
 v29:=Tryz.zeroValue9
 t32:=Tryz.underlying240
 a32:=Tryz.isAgg240
 z32:=Tryz.sizeOf240
 v32:=Tryz.zeroValue240
 t35:=Tryz.underlying246
 a35:=Tryz.isAgg246
 z35:=Tryz.sizeOf246
 v35:=Tryz.zeroValue246
 t36:=Tryz.underlying247
 a36:=Tryz.isAgg247
 z36:=Tryz.sizeOf247
 v36:=Tryz.zeroValue247
 t41:=Tryz.underlying145
 a41:=Tryz.isAgg145
 z41:=Tryz.sizeOf145
 v41:=Tryz.zeroValue145
 t44:=Tryz.underlying254
 a44:=Tryz.isAgg254
 z44:=Tryz.sizeOf254
 v44:=Tryz.zeroValue254
 t46:=Tryz.underlying256
 a46:=Tryz.isAgg256
 z46:=Tryz.sizeOf256
 v46:=Tryz.zeroValue256
 t53:=Tryz.underlying257
 a53:=Tryz.isAgg257
 z53:=Tryz.sizeOf257
 v53:=Tryz.zeroValue257
 t57:=Tryz.underlying228
 a57:=Tryz.isAgg228
 z57:=Tryz.sizeOf228
 v57:=Tryz.zeroValue228
 t63:=Tryz.underlying262
 a63:=Tryz.isAgg262
 z63:=Tryz.sizeOf262
 v63:=Tryz.zeroValue262
 t64:=Tryz.underlying117
 a64:=Tryz.isAgg117
 z64:=Tryz.sizeOf117
 v64:=Tryz.zeroValue117 }
end Go.Proofs
