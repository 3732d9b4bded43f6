/-
  Texts of the claim, joined: Grow3, AppAt, GenB, PrMem, GrowGD, GrowS, GrowG, GnBx.
-/
import Derived.Maps.AppendAt
import Derived.Test.YtpkljcgihobaiaaGreatDoorVe10
namespace Go.Proofs.YtpkljcgihobaiaaGreatDoor
set_option maxRecDepth 100000
set_option maxHeartbeats 32000000
def GrG (wr W:World):Prop:=Ext wr W
def GrE (_:Nat) (W W':World):Prop:=Ext W W'
def GrP (R:Nat->Value->World->Prop) (j:Nat) (u:Value) (W:World):Prop:=R j u W
theorem wpOp_lastG {P:Program} {ops:Array Oper} {Q:Exit->Act->World->Prop} {a:Act} {w:World} {i:Nat} {o:Oper} (ho:ops[i]?=some o) (h:wpList P ops Q [o] a w):wpOp P ops Q i (fun a w=>Q .normal a w) a w:=by
 unfold wpOp
 rw[ho]
 exact h
open Go.RowKit
theorem wpList_append_at {t e:TypeId} {z:Value} {size bytes:Nat} (E:ElemT t e z size bytes) {ops:Array Oper} {rest:List Oper} {o:Oper} {a:Act} {Q:Exit->Act->World->Prop} {X:World} {arr:Array Value} {tt:TypeId}
  (hgd:o.guard=none) (s x:Operand) (ho:o.op=.call { callee:=.builtin .append,args:=#[s,x],argTypes:=#[t,t] }) (base:Nat) (v:Value) (n:Nat) (xs:List Value) (hs:a.eval s=v) (hown:X.ownsRow base e size v n xs)
  (B m c:Nat) (hx:a.eval x=.slice (some ⟨B,0,none⟩) m c) (hB:B=X.heap.size) (hl:arr.size=m * size) (h1:∀ u∈arr.toList,u.oneCell'=true) (hm:n+m<=maxLen) (hb:(n+m) * bytes<=140737488355328) (hbase:base<=X.heap.size)
  (h:∀ v' w',w'.ownsRow base e size v' (n+m) (xs++arr.toList)->Chg (rowOf v) X w'->(∀ k,v'.ownBlock=some k->v.ownBlock=some k\/X.heap.size<=k)->wpList Tryz.prog ops Q rest (a.put o.dst v') w'):wpList Tryz.prog ops Q (o::rest) a (X.alloc (.cells arr tt)):=by
 subst hB
 obtain⟨i,hi,hz,hsz,hby⟩:=info_parts E.info
 refine wpList_append_own_at (w:=X.alloc (.cells arr tt)) hgd s x t ho base e i z size bytes E.ht hi hz hsz hby E.hzs E.hsz v n xs hs (hown.alloc _) ⟨X.heap.size,0,none⟩ m c arr.toList hx (by simpa using hl) ?_ h1 hm hb (by simp;omega) ?_
 ·intro j u hu
  have:(⟨X.heap.size,0,none⟩:Addr).add j=⟨X.heap.size,j,none⟩:=by unfold Addr.add;split<;>simp_all
  rw[this,World.cell?_alloc_at _ _ _ _ rfl]
  simpa using hu
 intro v' w' h2 h3 _ h5
 refine h v' w' h2 ((((Ext.refl X).alloc _).chg _).trans (grown_chg h3) fun x hx=>Or.inl hx) fun k hk=>?_
 rcases h5 with e|e
 ·exact Or.inl (e ▸ hk)
 rw[e] at hk;simp at hk;exact Or.inr (by omega)
theorem Chg.weak {N M:ZN} {w w':World} (h:Chg N w w') (hs:∀ x∈N,x∈M):Chg M w w':=⟨h.os,h.tape,h.output,h.size,fun k hk hn=>h.block k hk fun hm=>hn (hs k hm)⟩
theorem owns_formG {w:World} {base:Nat} {e:TypeId} {size:Nat} {v:Value} {n:Nat} {xs:List Value} (h:w.ownsRow base e size v n xs):∃ a c,v=.slice a n c:=by
 rcases h.2 with ⟨rfl,rfl⟩|⟨g,cap,cur,rfl,_⟩
 ·exact⟨none,0,rfl⟩
 exact⟨_,cap,rfl⟩
def IsWb (w:World) (x:Wb) (v:WbV):Prop:=v.name=x.name/\IsEx w x.cond v.x.val/\v.nu=x.unl.length/\v.nu<=v.cu/\OkAddr v.au v.cu/\WbsD w x.unl v.au
theorem IsWb.mono {w w':World} {x:Wb} {v:WbV} (h:IsWb w x v) (hs:Sub w w'):IsWb w' x v:=⟨h.1,h.2.1.mono hs,h.2.2.1,h.2.2.2.1,h.2.2.2.2.1,WbsD.mono hs _ _ h.2.2.2.2.2⟩
def WbsR (w:World) (l:List Wb) (vs:List WbV):Prop:=l.length=vs.length/\∀ i (h1:i < l.length) (h2:i < vs.length),IsWb w l[i] vs[i]
theorem WbsR.mono {w w':World} {l:List Wb} {vs:List WbV} (h:WbsR w l vs) (hs:Sub w w'):WbsR w' l vs:=⟨h.1,fun i h1 h2=>(h.2 i h1 h2).mono hs⟩
theorem WbsR.nil (w:World):WbsR w [] []:=⟨rfl,fun i h=>by simp at h⟩
theorem WbsR.snoc {w:World} {l:List Wb} {vs:List WbV} {c:Wb} {v:WbV} (h:WbsR w l vs) (hc:IsWb w c v):WbsR w (l++[c]) (vs++[v]):=by
 refine⟨by simp[h.1],fun i h1 h2=>?_⟩
 by_cases hi:i < l.length
 ·have hi2:i < vs.length:=by rw[<-h.1];exact hi
  simp only[List.getElem_append_left hi,List.getElem_append_left hi2]
  exact h.2 i hi hi2
 have e1:i=l.length:=by simp at h1;omega
 subst e1
 simp only[List.getElem_append_right (Nat.le_refl _),List.getElem_append_right (show vs.length<=l.length by rw[h.1];exact Nat.le_refl _),Nat.sub_self,List.getElem_cons_zero]
 simpa [h.1] using hc
theorem elemWb:ElemT 65 121 (.agg #[.string ⟨#[]⟩,.int .i64 0,.string ⟨#[]⟩,.slice none 0 0,.int .i64 0,.int .i64 0,.slice none 0 0,.slice none 0 0]) 8 128:=⟨by kernel_rfl,by kernel_rfl,rfl,by decide⟩
theorem wbs_owns {w:World} {M:ZN} {base:Nat} {v:Value} {l:List Wb} {vs:List WbV} (h:w.ownsRow base 121 8 v l.length (vs.flatMap WbV.cells)) (hM:∀ k,v.ownBlock=some k->k∉M) (hR:WbsR (mask w M) l vs) :
  ∃ a c,v=.slice a l.length c/\l.length<=c/\OkAddr a c/\WbsD (mask w M) l a:=by
 rw[hR.1] at h
 obtain⟨a,c,rfl,hr⟩:=IsRows.of_owns WbV.len h
 refine⟨a,c,by rw[hR.1],by rw[hR.1];exact hr.2.1,hr.2.2.1,?_⟩
 match l,hR with
 | [],_=>unfold WbsD;trivial
 | e::r,hR =>
  obtain⟨b,off,rfl,h1⟩:=hr.2.2.2 0 (by rw[<-hR.1];simp)
  refine WbsD.of (e::r) off vs hR.1 fun i h3 h4=>?_
  obtain⟨q1,q2,q3,q4,q5,q6⟩:=hR.2 i h3 h4
  refine⟨q1,fun j hj=>?_,q2,q3,q4,q5,q6⟩
  obtain⟨b',off',e1,h5⟩:=hr.2.2.2 i h4
  simp only[Option.some.injEq,Addr.mk.injEq,and_true] at e1
  obtain⟨rfl,rfl⟩:=e1
  rw[mask_cell,if_neg (hM _ rfl),h5 j hj]
theorem wbOk_snoc:(l:List Wb)->(n:BA)->(c:Ex)->(u:List Wb)->wbOk l->n.size<=1000000000000000->c.fits->c.few->c.size<=1000000000000000->wbOk u->wbOk (l++[.mk n c u])
 | [],n,c,u,_,h1,h2,h3,h4,h5=>by simp only[List.nil_append,wbOk];exact⟨h1,h2,h3,h4,h5,trivial⟩
 | .mk n' c' u'::r,n,c,u,h,h1,h2,h3,h4,h5=>by
  rw[wbOk] at h
  rw[List.cons_append,wbOk]
  exact⟨h.1,h.2.1,h.2.2.1,h.2.2.2.1,h.2.2.2.2.1,wbOk_snoc r n c u h.2.2.2.2.2 h1 h2 h3 h4 h5⟩
theorem wbN_snoc:(l:List Wb)->(n:BA)->(c:Ex)->(u:List Wb)->wbN (l++[.mk n c u])=wbN l+1+wbN u
 | [],n,c,u=>by simp[wbN]
 | .mk n' c' u'::r,n,c,u=>by rw[List.cons_append,wbN,wbN,wbN_snoc r n c u];omega
def bndB:Nat->Nat|0=>0|d+1=>2 * (1+bndB d)
def BacksQ (d:Nat) (w0:World) (bd:Nat) (M:ZN) (w:World) (e:Ending) (w':World):Prop:=∃ l a n c,e=.returned (.slice a n c)/\n=l.length/\n<=c/\OkAddr a c/\WbsD (mask w' M) l a/\wbOk l/\wbN l<=bndB d/\DeckAt w0 w' bd/\Chg [bd] w w'
def GnG (w0 wr:World) (bd:Nat) (W:World):Prop:=DeckAt w0 W bd/\Chg [bd] wr W
def GnE (bd:Nat) (_:Nat) (W W':World):Prop:=Chg [bd] W W'
def GnB (bd q:Nat) (N:ZN) (k:Nat) (W W':World):Prop:=Chg (if k=q then bd::N else [bd]) W W'
def GnL (w0 wr:World) (bd q:Nat) (N:ZN) (L:ZN) (W:World):Prop:=DeckAt w0 W bd/\Chg (bd::N) wr W/\(q∉L->Chg [bd] wr W)
theorem gnl {w0 wr W W':World} {bd q:Nat} {N L:ZN} (h:DeckAt w0 W bd/\Chg [bd] wr W) (hd:DeckAt w0 W' bd) (hc:Chg [bd] W W'):GnL w0 wr bd q N L W' :=
 ⟨hd,(h.2.then hc).weak (fun y hy=>by simp at hy;simp[hy]),fun _=>h.2.then hc⟩
theorem mask_step {W W':World} {bd:Nat} {N:ZN} (h:Chg [bd] W W') (hb:bd∈N):Sub (mask W N) (mask W' N):=mask_sub_mask fun k hk hn=>⟨hn,h.block k hk fun hm=>hn (by simp only[List.mem_singleton] at hm;rw[hm];exact hb)⟩
def BkL (w0 w:World) (d bd bw:Nat) (M:ZN) (sa:OA) (sn sc:Nat) (v k:Value) (wr:World):Prop:=∃ (l:List Wb) (vs:List WbV) (q:Int),k=.int .i64 q/\q+l.length<=2/\0<=q/\wr.ownsRow (bw+1) 121 8 v l.length (vs.flatMap WbV.cells)/\WbsR (mask wr (bd::rowOf v++M)) l vs /\
 wbOk l/\wbN l<=l.length * (1+bndB d)/\DeckAt w0 wr bd/\Chg [bd] w wr/\wr.heap[bw]?=some (.cells #[.slice sa sn sc] 31 (0,0))
def PrsR (w:World) (l:List Pr) (vs:List PrV):Prop:=l.length=vs.length/\∀ i (h1:i < l.length) (h2:i < vs.length),IsPr w l[i] vs[i]
theorem PrsR.mono {w w':World} {l:List Pr} {vs:List PrV} (h:PrsR w l vs) (hs:Sub w w'):PrsR w' l vs:=⟨h.1,fun i h1 h2=>(h.2 i h1 h2).mono hs⟩
theorem PrsR.nil (w:World):PrsR w [] []:=⟨rfl,fun i h=>by simp at h⟩
theorem PrsR.snoc {w:World} {l:List Pr} {vs:List PrV} {c:Pr} {v:PrV} (h:PrsR w l vs) (hc:IsPr w c v):PrsR w (l++[c]) (vs++[v]):=by
 refine⟨by simp[h.1],fun i h1 h2=>?_⟩
 by_cases hi:i < l.length
 ·have hi2:i < vs.length:=by rw[<-h.1];exact hi
  simp only[List.getElem_append_left hi,List.getElem_append_left hi2]
  exact h.2 i hi hi2
 have e1:i=l.length:=by simp at h1;omega
 subst e1
 simp only[List.getElem_append_right (Nat.le_refl _),List.getElem_append_right (show vs.length<=l.length by rw[h.1];exact Nat.le_refl _),Nat.sub_self,List.getElem_cons_zero]
 simpa [h.1] using hc
theorem elemPr:ElemT 38 40 (.agg #[.bool false,.int .i64 0,.slice none 0 0]) 3 40:=⟨by kernel_rfl,by kernel_rfl,rfl,by decide⟩
theorem prs_owns {w:World} {M:ZN} {base:Nat} {v:Value} {l:List Pr} {vs:List PrV} (h:w.ownsRow base 40 3 v l.length (vs.flatMap PrV.cells)) (hM:∀ k,v.ownBlock=some k->k∉M) (hR:PrsR (mask w M) l vs) (b:Bool) (k:Int) :
  ∃ a c,v=.slice a l.length c/\IsPr (mask w M) (.mk b k l) ⟨b,k,a,l.length,c⟩:=by
 have hl:=hR.1
 rw[hl] at h
 obtain⟨a,c,rfl,hr⟩:=IsRows.of_owns PrV.len h
 refine⟨a,c,by rw[hl],.mk vs ⟨hl,by rw[hl];exact hr.2.1,hr.2.2.1,fun i h4=>?_⟩ hl.symm fun i h1 h2=>hR.2 i h1 h2⟩
 obtain⟨b',off',e1,h5⟩:=hr.2.2.2 i h4
 subst e1
 exact⟨b',off',rfl,fun j hj=>by rw[mask_cell,if_neg (hM _ rfl)];exact h5 j hj⟩
theorem isPr_none (w:World) (b:Bool) (k:Int):IsPr w (.mk b k []) ⟨b,k,none,0,0⟩:=.mk [] ⟨rfl,Nat.le_refl _,Or.inl ⟨rfl,rfl⟩,fun i h=>by simp at h⟩ rfl fun i h=>by simp at h
theorem isPr_one {w:World} {M:ZN} {g:Nat} {q:Pr} {v:PrV} {t:TypeId} (h:w.heap[g]?=some (.cells v.cells.toArray t (0,0))) (hg:g∉M) (hq:IsPr (mask w M) q v) (b:Bool) (k:Int):IsPr (mask w M) (.mk b k [q]) ⟨b,k,some ⟨g,0,none⟩,1,1⟩:=by
 refine .mk [v] ⟨rfl,Nat.le_refl _,Or.inr ⟨g,0,rfl⟩,fun i hi=>⟨g,0,rfl,fun j hj=>?_⟩⟩ rfl fun i h1 h2=>?_
 ·have h0:i=0:=by simp at hi;omega
  subst h0
  simp only[List.getElem_cons_zero] at hj ⊢
  rw[mask_cell,if_neg hg,blk_cell h]
  simp
 have h0:i=0:=by simp at h1;omega
 subst h0
 exact hq
def ProveQ (p:Pr) (M:ZN) (w:World) (e:Ending) (w':World):Prop:=∃ v:PrV,e=.returned v.val/\IsPr (mask w' M) p v/\Ext w w'
def isDataG (e:Edge):Bool:=match e.ground with|.data=>true|.guard=>true|_=>false
def okGrowG (ops:Array Oper) (m n:Nat):Bool :=
 Region.noSelect ops&&decide (m<=ops.size)&&decide (ops.size<=m+1) &&
 ((List.range ops.size).all fun i=>(List.range ops.size).all fun j=>i==j||dstAt ops i==none||dstAt ops i != dstAt ops j) &&
 ((List.range ops.size).all fun i=>match ops[i]? with
  | none=>false
  | some o=>((match o.guard with|none=>true|some (j,_)=>(match dstAt ops j with|none=>false|some t=>decide (t < n))&&o.after.any (fun e=>isDataG e&&e.on==j))||i==m)&&(o.after.all fun e=>(!Region.binds .any e||decide (e.on < i))&&(!isDataG e||Region.binds .any e)) &&
   ((List.range m).all fun j=>match dstAt ops j with
    | none=>true
    | some t=>!(o.looksAt ops).contains t||(i==m)||o.after.any (fun e=>Region.binds .any e&&e.on==j)) &&
   (i != m||(List.range m).all fun j=>o.after.any (fun e=>Region.binds .any e&&e.on==j)))
theorem okGrow_specG {ops:Array Oper} {m n:Nat} (h:okGrowG ops m n=true):Region.noSelect ops=true/\m<=ops.size/\ops.size<=m+1/\DstApart ops /\
  (∀ i o,ops[i]?=some o->(i < m->∀ j b,o.guard=some (j,b)->∃ t,dstAt ops j=some t/\t < n/\∃ e∈o.after,isDataG e=true/\e.on=j)/\(∀ e∈o.after,(Region.binds .any e=true->e.on < i)/\(isDataG e=true->Region.binds .any e=true))/\(i < m->∀ j t,j < m->dstAt ops j=some t->t∈o.looksAt ops->∃ e∈o.after,Region.binds .any e=true/\e.on=j) /\
   (i=m->∀ j,j < m->∃ e∈o.after,Region.binds .any e=true/\e.on=j)):=by
 simp only[okGrowG,Bool.and_eq_true,decide_eq_true_eq] at h
 obtain⟨⟨⟨⟨h1,h2⟩,h3⟩,h4⟩,h5⟩:=h
 refine⟨h1,h2,h3,?_,?_⟩
 ·intro i j d hi hj
  have li:i < ops.size:=by
   unfold dstAt at hi
   rcases Nat.lt_or_ge i ops.size with h|h
   ·exact h
   rw[Array.getElem?_eq_none h] at hi;simp at hi
  have lj:j < ops.size:=by
   unfold dstAt at hj
   rcases Nat.lt_or_ge j ops.size with h|h
   ·exact h
   rw[Array.getElem?_eq_none h] at hj;simp at hj
  have:=List.all_eq_true.1 (List.all_eq_true.1 h4 i (by simpa using li)) j (by simpa using lj)
  simpa [hi,hj] using this
 intro i o ho
 have li:i < ops.size:=(Array.getElem?_eq_some_iff.1 ho).1
 have h6:=List.all_eq_true.1 h5 i (by simpa using li)
 simp only[ho,Bool.and_eq_true] at h6
 obtain⟨⟨⟨g1,g2⟩,g3⟩,g4⟩:=h6
 refine⟨fun hm=>?_,fun e he=>?_,fun hm j t hjm hj ht=>?_,fun hm j hj=>?_⟩
 ·intro j b hg
  rcases Bool.or_eq_true_iff.1 g1 with g|g
  ·rw[hg] at g
   simp only[Bool.and_eq_true] at g
   cases hd:dstAt ops j with
   | none=>rw[hd] at g;simp at g
   | some t =>
    rw[hd] at g
    obtain⟨e,he,hb⟩:=Array.any_eq_true'.1 g.2
    simp only[Bool.and_eq_true,beq_iff_eq] at hb
    exact⟨t,rfl,by simpa using g.1,e,he,hb.1,hb.2⟩
  have:i=m:=by simpa using g
  omega
 ·have:=Array.all_eq_true_iff_forall_mem.1 g2 e he
  simp only[Bool.and_eq_true,Bool.or_eq_true,Bool.not_eq_true',decide_eq_true_eq] at this
  refine⟨fun hb=>?_,fun hb=>?_⟩
  ·rcases this.1 with h|h
   ·rw[hb] at h;cases h
   exact h
  rcases this.2 with h|h
  ·rw[hb] at h;cases h
  exact h
 ·have:=List.all_eq_true.1 g3 j (by simpa using hjm)
  rw[hj] at this
  simp only[Bool.or_eq_true,Bool.not_eq_true'] at this
  rcases this with (h|h)|h
  ·rw[List.contains_iff_mem.2 ht] at h;cases h
  ·have:i=m:=by simpa using h
   omega
  obtain⟨e,he,hb⟩:=Array.any_eq_true'.1 h
  simp only[Bool.and_eq_true,beq_iff_eq] at hb
  exact⟨e,he,hb.1,hb.2⟩
 subst hm
 rcases Bool.or_eq_true_iff.1 g4 with g|g
 ·simp at g
 have:=List.all_eq_true.1 g j (by simpa using hj)
 obtain⟨e,he,hb⟩:=Array.any_eq_true'.1 this
 simp only[Bool.and_eq_true,beq_iff_eq] at hb
 exact⟨e,he,hb.1,hb.2⟩
def looksToG (ops:Array Oper) (c i:Nat):Bool:=match ops[c]? with|none=>false|some o=>o.after.any fun e=>isDataG e&&e.on==i
def outlastsG (ops:Array Oper) (m:Nat) (Kp:ZN) (i k:Nat):Bool:=!comesAfter ops m i k&&(Kp.contains i||(List.range m).any fun c=>c != k&&!comesAfter ops m k c&&looksToG ops c i)
section
variable {P:Program} {ops:Array Oper} {Q:Exit->Act->World->Prop} {a:Act} {m:Nat} (Kp:ZN) (G:ZN->(Nat->Value)->World->Prop) (E:Nat->World->World->Prop) (R:Nat->Value->World->Prop)
theorem wpAny_growS {n:Nat} (hok:okGrowG ops m n=true) (hN:n<=a.tmps.size) (sk:Nat->Bool) (hSg:∀ i o,i < m->sk i=true->ops[i]?=some o->o.guard≠none) (hGd:∀ i o j b,i < m->ops[i]?=some o->o.guard=some (j,b)->∀ v W,R j v W->if sk i=true then v≠.bool b else v=.bool b) (hsk:∀ i,i < m->sk i=true->∀ L vs W,i∉L->G L vs W->E i W W/\G (L++[i]) (upd vs i undef) W/\R i undef W) (hRE:∀ i k v W W',i < m->k < m->i≠k->outlastsG ops m Kp i k=true->R i v W->E k W W'->R i v W')
  (hstep:∀ i o,i < m->sk i=false->ops[i]?=some o->∀ L vs W,i∉L->(∀ j∈L,comesAfter ops m j i=false)->G L vs W->(∀ e∈o.after,isDataG e=true->R e.on (vs e.on) W)->∀ ρ,Sees ops a m vs ρ->GivesOp P o ρ W (fun v W'=>E i W W'/\G (L++[i]) (upd vs i v) W'/\R i v W'))
  (hend:∀ L vs W,(∀ j,j < m->j∈L)->G L vs W->(∀ j∈Kp,j < m->R j (vs j) W)->if m=ops.size then Q .normal (acts ops a vs (List.range m)) W else wpOp P ops Q m (fun a w=>Q .normal a w) (acts ops a vs (List.range m)) W) :
  ∀ (fuel:Nat) (L:ZN) (vs:Nat->Value) (W:World) (listed:Array Bool),listed.size=ops.size->(∀ j,j < ops.size->(listed.getD j true=true ↔ j∈L))->L.Nodup->(∀ j∈L,j < m)->((List.range ops.size).filter (fun j=>!L.contains j)).length<=fuel->G L vs W->(∀ i∈L,∀ o,ops[i]?=some o->∀ e∈o.after,Region.binds .any e=true->e.on∈L)->(∀ j∈L,(j∈Kp\/∃ c,c < m/\c∉L/\looksToG ops c j=true)->R j (vs j) W) ->
   wpAny P .any ops Q fuel listed (acts ops a vs L) W:=by
 obtain⟨hns,hm1,hm2,hda,hspec⟩:=okGrow_specG hok
 have hperm:∀ L:ZN,L.Nodup->(∀ j∈L,j < m)->(∀ j,j < m->j∈L)->L.Perm (List.range m):=fun L h1 h2 h3 =>
  (List.perm_ext_iff_of_nodup h1 List.nodup_range).2 (fun j=>⟨fun h=>by simpa using h2 j h,fun h=>h3 j (by simpa using h)⟩)
 -- all below m are listed if none of them is ready
 have hall:∀ (L:ZN) (listed:Array Bool),listed.size=ops.size->(∀ j,j < ops.size->(listed.getD j true=true ↔ j∈L))->(∀ j∈Region.ready .any ops listed,¬ j < m)->∀ j,j < m->j∈L:=by
  intro L listed hsz hL hr j
  induction j using Nat.strongRecOn with
  | _ j ih =>
   intro hj
   by_cases hjL:j∈L
   ·exact hjL
   exfalso
   refine hr j ?_ hj
   have hjs:j < ops.size:=by omega
   rw[mem_ready]
   obtain⟨o,ho⟩:∃ o,ops[j]?=some o:=⟨ops[j],Array.getElem?_eq_getElem hjs⟩
   refine⟨?_,o,ho,fun e he hb=>?_⟩
   ·cases hx:listed.getD j true
    ·rfl
    exact absurd ((hL j hjs).1 hx) hjL
   have hlt:=((hspec j o ho).2.1 e he).1 hb
   have hm:=ih e.on hlt (by omega)
   have:=(hL e.on (by omega)).2 hm
   have hin:e.on < listed.size:=by rw[hsz];omega
   simpa [Array.getD,hin] using this
 -- what is asked when all below m are listed
 have hfin:∀ (L:ZN) (vs:Nat->Value) (W:World),L.Nodup->(∀ j∈L,j < m)->(∀ j,j < m->j∈L)->G L vs W->(∀ j∈L,(j∈Kp\/∃ c,c < m/\c∉L/\looksToG ops c j=true)->R j (vs j) W) ->
   if m=ops.size then Q .normal (acts ops a vs L) W else wpOp P ops Q m (fun a w=>Q .normal a w) (acts ops a vs L) W:=by
  intro L vs W hnd hLm hcov hE hR
  rw[acts_perm hda (hperm L hnd hLm hcov)]
  exact hend L vs W hcov hE (fun j hk hj=>hR j (hcov j hj) (Or.inl hk))
 intro fuel
 induction fuel with
 | zero =>
  intro L vs W listed hsz hL hnd hLm hlen hE hcl hR
  have hcov:∀ j,j < ops.size->j∈L:=fun j hj=>by
   have h0:=List.eq_nil_of_length_eq_zero (Nat.le_zero.1 hlen)
   have:j∉(List.range ops.size).filter (fun j=>!L.contains j):=by rw[h0];simp
   simpa [hj] using this
  have hmn:m=ops.size:=by
   rcases Nat.lt_or_ge m ops.size with h|h
   ·have:=hLm m (hcov m h);omega
   omega
  have hf:=hfin L vs W hnd hLm (fun j hj=>hcov j (by omega)) hE hR
  rw[if_pos hmn] at hf
  refine⟨?_,hf⟩
  rw[List.eq_nil_iff_forall_not_mem]
  intro j hj
  obtain⟨h0,o,ho,_⟩:=mem_ready.1 hj
  have:=(hL j (Array.getElem?_eq_some_iff.1 ho).1).2 (hcov j (Array.getElem?_eq_some_iff.1 ho).1)
  rw[this] at h0;cases h0
 | succ fuel ih =>
  intro L vs W listed hsz hL hnd hLm hlen hE hcl hR
  refine⟨fun hr=>?_,fun i hi=>?_⟩
  ·have hcov:=hall L listed hsz hL (by rw[hr];simp)
   have hf:=hfin L vs W hnd hLm hcov hE hR
   by_cases hmn:m=ops.size
   ·rw[if_pos hmn] at hf;exact hf
   exfalso
   have hms:m < ops.size:=by omega
   have:m∈Region.ready .any ops listed:=by
    rw[mem_ready]
    obtain⟨o,ho⟩:∃ o,ops[m]?=some o:=⟨ops[m],Array.getElem?_eq_getElem hms⟩
    refine⟨?_,o,ho,fun e he hb=>?_⟩
    ·cases hx:listed.getD m true
     ·rfl
     have:=hLm m ((hL m hms).1 hx);omega
    have hlt:=((hspec m o ho).2.1 e he).1 hb
    have:=(hL e.on (by omega)).2 (hcov e.on hlt)
    have hin:e.on < listed.size:=by rw[hsz];omega
    simpa [Array.getD,hin] using this
   rw[hr] at this
   simp at this
  obtain⟨h0,o,ho,hdep⟩:=mem_ready.1 hi
  have his:i < ops.size:=(Array.getElem?_eq_some_iff.1 ho).1
  have hiL:i∉L:=fun h=>by rw[(hL i his).2 h] at h0;cases h0
  have hdepL:∀ e∈o.after,Region.binds .any e=true->e.on∈L:=fun e he hb=>by
   have h1:=hdep e he hb
   have hlt:=((hspec i o ho).2.1 e he).1 hb
   have hin:e.on < listed.size:=by rw[hsz];omega
   exact(hL e.on (by omega)).1 (by simpa [Array.getD,hin] using h1)
  have hlist:∀ j,j < ops.size->((listed.setIfInBounds i true).getD j true=true ↔ j∈L++[i]):=fun j hj=>by
   by_cases hij:i=j
   ·subst hij;simp[hsz,his]
   rw[getD_set_ne true hij,hL j hj];simp;intro e;exact absurd e.symm hij
  by_cases him:i < m
  ·-- one of the operations that make memory
   have hnc:∀ j∈L,comesAfter ops m j i=false:=fun j hj=>by
    cases hx:comesAfter ops m j i
    ·rfl
    exact absurd (comesAfter_mem hcl m j i hj hx) hiL
   have hcont:∀ v W',E i W W'->G (L++[i]) (upd vs i v) W'->R i v W'->wpAny P .any ops Q fuel (listed.setIfInBounds i true) ((acts ops a vs L).put o.dst v) W':=by
    intro v W' hEW hE' hRv
    have e1:(acts ops a vs L).put o.dst v=acts ops a (upd vs i v) (L++[i]):=by
     rw[acts_snoc,acts_congr (vs:=upd vs i v) (vs':=vs) (fun j hj=>by unfold upd;rw[if_neg (fun e=>hiL (by rw[<-e];exact hj))])]
     simp[upd,dstAt,ho]
    rw[e1]
    refine ih (L++[i]) (upd vs i v) W' _ (by simpa using hsz) hlist ?_ ?_ ?_ hE' ?_ ?_
    ·rw[List.nodup_append]
     exact⟨hnd,by simp,fun x hx y hy e=>by simp at hy;subst hy;subst e;exact hiL hx⟩
    ·intro j hj
     rcases List.mem_append.1 hj with h|h
     ·exact hLm j h
     simp at h;omega
    ·have h1:(List.range ops.size).filter (fun j=>!(L++[i]).contains j)=((List.range ops.size).filter (fun j=>!L.contains j)).filter (fun j=>j != i):=by
      rw[List.filter_filter]
      congr 1
      funext j
      simp only[List.contains_append,Bool.not_or]
      rw[Bool.and_comm]
      congr 1
      rw[Bool.eq_iff_iff];simp[bne]
     have h2:(((List.range ops.size).filter (fun j=>!L.contains j)).filter (fun j=>j != i)).length < ((List.range ops.size).filter (fun j=>!L.contains j)).length:=by
      rw[List.length_filter_lt_length_iff_exists]
      exact⟨i,by simp[his,hiL],by simp⟩
     rw[h1];omega
    ·intro j hj o' ho' e he hb
     rcases List.mem_append.1 hj with h|h
     ·exact List.mem_append_left _ (hcl j h o' ho' e he hb)
     simp at h;subst h
     rw[ho] at ho'
     cases ho'
     exact List.mem_append_left _ (hdepL e he hb)
    intro j hj hlive
    rcases List.mem_append.1 hj with h|h
    ·have:upd vs i v j=vs j:=by unfold upd;rw[if_neg (fun e=>hiL (by rw[<-e];exact h))]
     rw[this]
     have hlive':j∈Kp\/∃ c,c < m/\c∉L/\looksToG ops c j=true:=hlive.imp id (fun ⟨c,h1,h2,h3⟩=>⟨c,h1,fun hc=>h2 (List.mem_append_left _ hc),h3⟩)
     refine hRE j i _ W W' (hLm j h) him (fun e=>hiL (e ▸ h)) ?_ (hR j h hlive') hEW
     unfold outlastsG
     rw[Bool.and_eq_true,Bool.not_eq_true',Bool.or_eq_true]
     refine⟨?_,?_⟩
     ·cases hx:comesAfter ops m j i
      ·rfl
      exact absurd (comesAfter_mem hcl m j i h hx) hiL
     rcases hlive with hk|⟨c,h1,h2,h3⟩
     ·exact Or.inl (List.contains_iff_mem.2 hk)
     refine Or.inr (List.any_eq_true.2 ⟨c,by simpa using h1,?_⟩)
     rw[h3,Bool.and_true,Bool.and_eq_true,bne_iff_ne,Bool.not_eq_true']
     refine⟨fun e=>by subst e;exact h2 (by simp),?_⟩
     cases hx:comesAfter ops m i c
     ·rfl
     exact absurd (List.mem_append_left _ (comesAfter_ready hcl ho hdepL m c hx)) h2
    simp at h;subst h;simpa [upd] using hRv
   cases hss:sk i
   case true =>
    unfold wpOp
    simp only[ho]
    cases hgd:o.guard with
    | none=>exact absurd hgd (hSg i o him hss ho)
    | some p =>
     obtain⟨j,b⟩:=p
     obtain⟨t,ht,htn,e,he,heD,rfl⟩:=(hspec i o ho).1 him j b hgd
     have hjL:=hdepL e he (((hspec i o ho).2.1 e he).2 heD)
     have hv:=hGd i o e.on b him ho hgd _ _ (hR e.on hjL (Or.inr ⟨i,him,hiL,by unfold looksToG;rw[ho];exact Array.any_eq_true'.2 ⟨e,he,by simp[heD]⟩⟩))
     rw[if_pos hss] at hv
     rw[if_neg (by
      unfold Region.wanted
      rw[hgd]
      have hev:=acts_eval_in hda (a:=a) (vs:=vs) hjL ht
      rw[if_pos (Nat.lt_of_lt_of_le htn hN)] at hev
      have hlt:t < (acts ops a vs L).tmps.size:=by rw[acts_size];exact Nat.lt_of_lt_of_le htn hN
      show ¬ (yielded ops (acts ops a vs L).tmps e.on==some b)=true
      simp only[Act.eval] at hev
      unfold yielded
      have hdd:(ops[e.on]?).bind (·.dst)=some t:=ht
      rw[hdd]
      simp only[Option.bind_some]
      rw[Array.getD_eq_getD_getElem?,Array.getElem?_eq_getElem hlt,Option.getD_some] at hev
      rw[Array.getElem?_eq_getElem hlt,hev]
      cases hvs:vs e.on<;>simp
      intro hb
      exact hv (by rw[hvs,hb]))]
     obtain⟨q1,q2,q3⟩:=hsk i him hss L vs W hiL hE
     exact hcont undef W q1 q2 q3
   have hg:=hstep i o him hss ho L vs W hiL hnc hE (fun e he hb=>hR _ (hdepL e he (((hspec i o ho).2.1 e he).2 hb)) (Or.inr ⟨i,him,hiL,by unfold looksToG;rw[ho];exact Array.any_eq_true'.2 ⟨e,he,by simp[hb]⟩⟩)) _ (sees_acts hda a m vs)
   have hex:execOp (acts ops a vs L).eval o=execOp (acts ops a vs (List.range m)).eval o:=by
    refine execOp_congr o (Region.noSelect_spec hns i o · · ho) (fun x hx=>?_)
    cases x with
    | tmp t =>
     have hlook:t∈o.looksAt ops:=List.mem_append_left _ (List.mem_filterMap.2 ⟨.tmp t,by simpa using hx,rfl⟩)
     by_cases hex:∃ j,j < m/\dstAt ops j=some t
     ·obtain⟨j,hjm,hj⟩:=hex
      obtain⟨e,he,hb,rfl⟩:=(hspec i o ho).2.2.1 him j t hjm hj hlook
      have hjL:=hdepL e he hb
      rw[acts_eval_in hda hjL hj,acts_eval_in hda (by simpa using hLm _ hjL) hj]
     have h1:∀ j,j < m->dstAt ops j≠some t:=fun j hjm hj=>hex ⟨j,hjm,hj⟩
     rw[acts_eval_out (fun j hjL=>h1 j (hLm j hjL)),acts_eval_out (fun j hjr=>h1 j (by simpa using hjr))]
    | const v=>rfl
    | global g=>rfl
    | func f=>rfl
   unfold wpOp
   simp only[ho]
   rw[if_pos (by
    unfold Region.wanted
    cases hgd:o.guard with
    | none=>rfl
    | some p =>
     obtain⟨j,b⟩:=p
     obtain⟨t,ht,htn,e,he,heD,rfl⟩:=(hspec i o ho).1 him j b hgd
     have hjL:=hdepL e he (((hspec i o ho).2.1 e he).2 heD)
     have hv:=hGd i o e.on b him ho hgd _ _ (hR e.on hjL (Or.inr ⟨i,him,hiL,by unfold looksToG;rw[ho];exact Array.any_eq_true'.2 ⟨e,he,by simp[heD]⟩⟩))
     rw[if_neg (by rw[hss];decide)] at hv
     have hev:=acts_eval_in hda (a:=a) (vs:=vs) hjL ht
     rw[if_pos (Nat.lt_of_lt_of_le htn hN),hv] at hev
     have hlt:t < (acts ops a vs L).tmps.size:=by rw[acts_size];exact Nat.lt_of_lt_of_le htn hN
     show (yielded ops (acts ops a vs L).tmps e.on==some b)=true
     simp only[Act.eval] at hev
     unfold yielded
     have hdd:(ops[e.on]?).bind (·.dst)=some t:=ht
     rw[hdd]
     simp only[Option.bind_some]
     rw[Array.getD_eq_getD_getElem?,Array.getElem?_eq_getElem hlt,Option.getD_some] at hev
     rw[Array.getElem?_eq_getElem hlt,hev]
     simp)]
   left
   refine Oper.wp_mono ?_ (hg.wp hex)
   rintro a' W' ⟨v,rfl,hEW,hE',hRv⟩
   exact hcont v W' hEW hE' hRv
  -- the last one
  obtain rfl:i=m:=by omega
  have hcov:∀ j,j < i->j∈L:=fun j hj=>by
   obtain⟨e,he,hb,rfl⟩:=(hspec i o ho).2.2.2 rfl j hj
   exact hdepL e he hb
  have hf:=hfin L vs W hnd hLm hcov hE hR
  rw[if_neg (by omega)] at hf
  refine wpOp_mono (fun a' W' hq=>?_) hf
  refine wpAny_done ?_ hq fuel
  rw[List.eq_nil_iff_forall_not_mem]
  intro j hj
  obtain⟨h0',o',ho',_⟩:=mem_ready.1 hj
  have hjs:=(Array.getElem?_eq_some_iff.1 ho').1
  have:j∈L++[i]:=by
   by_cases hji:j < i
   ·exact List.mem_append_left _ (hcov j hji)
   have:j=i:=by omega
   simp[this]
  rw[(hlist j hjs).2 this] at h0';cases h0'
theorem wp_region_growS {id:Nat} {w:World} (hm:P.follows .mixedOrders=true) {n:Nat} (hok:okGrowG ops m n=true) (hN:n<=a.tmps.size) (sk:Nat->Bool) (hSg:∀ i o,i < m->sk i=true->ops[i]?=some o->o.guard≠none) (hGd:∀ i o j b,i < m->ops[i]?=some o->o.guard=some (j,b)->∀ v W,R j v W->if sk i=true then v≠.bool b else v=.bool b) (hsk:∀ i,i < m->sk i=true->∀ L vs W,i∉L->G L vs W->E i W W/\G (L++[i]) (upd vs i undef) W/\R i undef W) (hG:G [] (fun _=>undef) w.drew) (hRE:∀ i k v W W',i < m->k < m->i≠k->outlastsG ops m Kp i k=true->R i v W->E k W W'->R i v W')
  (hstep:∀ i o,i < m->sk i=false->ops[i]?=some o->∀ L vs W,i∉L->(∀ j∈L,comesAfter ops m j i=false)->G L vs W->(∀ e∈o.after,isDataG e=true->R e.on (vs e.on) W)->∀ ρ,Sees ops a m vs ρ->GivesOp P o ρ W (fun v W'=>E i W W'/\G (L++[i]) (upd vs i v) W'/\R i v W'))
  (hend:∀ L vs W,(∀ j,j < m->j∈L)->G L vs W->(∀ j∈Kp,j < m->R j (vs j) W)->if m=ops.size then Q .normal (acts ops a vs (List.range m)) W else wpOp P ops Q m (fun a w=>Q .normal a w) (acts ops a vs (List.range m)) W) :
  (Code.region id ops true).wp P Q a w:=by
 refine wp_region_any hm ?_
 refine wpAny_growS Kp G E R hok hN sk hSg hGd hsk hRE hstep hend ops.size [] (fun _=>undef) _ _ (by simp) (fun j hj=>?_) List.nodup_nil (fun j hj=>by simp at hj) ?_ hG (fun j hj=>by simp at hj) (fun j hj=>by simp at hj)
 ·simp[hj]
 exact Nat.le_trans (List.length_filter_le _ _) (by simp)
end
section
variable {P:Program} {ops:Array Oper} {Q:Exit->Act->World->Prop} {a:Act} {m:Nat} (Kp:ZN) (G:ZN->(Nat->Value)->World->Prop) (E:Nat->World->World->Prop) (R:Nat->Value->World->Prop)
theorem wp_region_growLG {id:Nat} {w:World} (hm:P.follows .mixedOrders=true) {n:Nat} (hok:okGrowG ops m n=true) (hN:n<=a.tmps.size) (hGd:∀ i o j b,i < m->ops[i]?=some o->o.guard=some (j,b)->∀ v W,R j v W->v=.bool b) (hG:G [] (fun _=>undef) w.drew) (hRE:∀ i k v W W',i < m->k < m->i≠k->outlastsG ops m Kp i k=true->R i v W->E k W W'->R i v W')
  (hstep:∀ i o,i < m->ops[i]?=some o->∀ L vs W,i∉L->(∀ j∈L,comesAfter ops m j i=false)->G L vs W->(∀ e∈o.after,isDataG e=true->R e.on (vs e.on) W)->∀ ρ,Sees ops a m vs ρ->GivesOp P o ρ W (fun v W'=>E i W W'/\G (L++[i]) (upd vs i v) W'/\R i v W'))
  (hend:∀ L vs W,(∀ j,j < m->j∈L)->G L vs W->(∀ j∈Kp,j < m->R j (vs j) W)->if m=ops.size then Q .normal (acts ops a vs (List.range m)) W else wpOp P ops Q m (fun a w=>Q .normal a w) (acts ops a vs (List.range m)) W) :
  (Code.region id ops true).wp P Q a w:=by
 exact wp_region_growS Kp G E R hm hok hN (fun _=>false) (fun _ _ _ h=>by cases h) (fun i o j b hi ho hg v W hv=>by rw[if_neg (by decide)];exact hGd i o j b hi ho hg v W hv) (fun _ _ h=>by cases h) hG hRE (fun i o hi _ ho=>hstep i o hi ho) hend
end
def GnBx (w0:World) (Z:Obj) (Pd:World->Value->Prop) (M:ZN) (kc ka:Nat) (L:ZN) (vs:Nat->Value) (W:World):Prop :=
 Ext w0 W/\(ka∈L->∃ y,vs ka=.pointer (some ⟨y,0,none⟩)/\W.heap[y]?=some Z/\w0.heap.size<=y) /\
  (kc∈L->∃ Y:ZN,(∀ y,ka∈L->vs ka=.pointer (some ⟨y,0,none⟩)->y∈Y)/\Pd (mask W (Y++M)) (vs kc))
section
variable {w0 W W':World} {Z:Obj} {Pd:World->Value->Prop} {M:ZN} {kc ka:Nat} {L:ZN} {vs:Nat->Value}
theorem gnbx_start:GnBx w0 Z Pd M kc ka [] vs w0.drew:=⟨(Ext.refl w0).drew,fun h=>by simp at h,fun h=>by simp at h⟩
theorem gnbx_step {i:Nat} {v:Value} (hP:∀ W W' v,Sub W W'->Pd W v->Pd W' v) (h1:i≠kc) (h2:i≠ka) (h:GnBx w0 Z Pd M kc ka L vs W) (hx:Ext W W'):GnBx w0 Z Pd M kc ka (L++[i]) (upd vs i v) W':=by
 have m1:kc∈L++[i]->kc∈L:=fun hm=>by simp at hm;rcases hm with hm|hm;exact hm;exact absurd hm.symm h1
 have m2:ka∈L++[i]->ka∈L:=fun hm=>by simp at hm;rcases hm with hm|hm;exact hm;exact absurd hm.symm h2
 have u1:upd vs i v kc=vs kc:=by unfold upd;rw[if_neg (fun e=>h1 e.symm)]
 have u2:upd vs i v ka=vs ka:=by unfold upd;rw[if_neg (fun e=>h2 e.symm)]
 refine⟨h.1.trans hx,fun hm=>?_,fun hm=>?_⟩
 ·rw[u2]
  obtain⟨y,q1,q2,q3⟩:=h.2.1 (m2 hm)
  exact⟨y,q1,hx.blk q2,q3⟩
 rw[u1,u2]
 obtain⟨Y,q1,q2⟩:=h.2.2 (m1 hm)
 exact⟨Y,fun y hy=>q1 y (m2 hy),hP _ _ _ (mask_ext _ hx) q2⟩
theorem gnbx_call (hka:ka≠kc) (hM:∀ y∈M,y < w0.heap.size) (h:GnBx w0 Z Pd M kc ka L vs W):∃ Y:ZN,(∀ y∈Y++M,y < W.heap.size)/\∀ (v:Value) (W':World),Ext W W'->Pd (mask W' (Y++M)) v->GnBx w0 Z Pd M kc ka (L++[kc]) (upd vs kc v) W':=by
 have m2:ka∈L++[kc]->ka∈L:=fun hm=>by simp at hm;rcases hm with hm|hm;exact hm;exact absurd hm hka
 have u1:∀ v,upd vs kc v kc=v:=fun v=>by unfold upd;rw[if_pos rfl]
 have u2:∀ v,upd vs kc v ka=vs ka:=fun v=>by unfold upd;rw[if_neg hka]
 have hs:=h.1.size
 by_cases hk:ka∈L
 ·obtain⟨y,q1,q2,q3⟩:=h.2.1 hk
  refine⟨[y],fun z hz=>?_,fun v W' hx hp=>⟨h.1.trans hx,fun _=>?_,fun _=>?_⟩⟩
  ·rcases List.mem_append.1 hz with hz|hz
   ·simp only[List.mem_singleton] at hz;rw[hz];exact blk_lt q2
   have:=hM z hz;omega
  ·rw[u2];exact⟨y,q1,hx.blk q2,q3⟩
  refine⟨[y],fun z _ hz=>?_,by rw[u1];exact hp⟩
  rw[u2,q1] at hz
  simp only[Value.pointer.injEq,Option.some.injEq,Addr.mk.injEq,and_true] at hz
  simp[hz]
 refine⟨[],fun z hz=>?_,fun v W' hx hp=>⟨h.1.trans hx,fun hm=>absurd (m2 hm) hk,fun _=>⟨[],fun z hz _=>absurd (m2 hz) hk,by rw[u1];exact hp⟩⟩⟩
 have:=hM z (by simpa using hz);omega
theorem gnbx_alloc {arr:Array Value} {t:TypeId} (hP:∀ W W' v,Sub W W'->Pd W v->Pd W' v) (hka:ka≠kc) (hZ:Z=.cells arr t (0,0)) (h:GnBx w0 Z Pd M kc ka L vs W):GnBx w0 Z Pd M kc ka (L++[ka]) (upd vs ka (.pointer (some ⟨W.heap.size,0,none⟩))) (W.alloc (.cells arr t)):=by
 have m1:kc∈L++[ka]->kc∈L:=fun hm=>by simp at hm;rcases hm with hm|hm;exact hm;exact absurd hm.symm hka
 have hx:=(Ext.refl W).alloc (.cells arr t)
 have u1:∀ v,upd vs ka v ka=v:=fun v=>by unfold upd;rw[if_pos rfl]
 have u2:∀ v,upd vs ka v kc=vs kc:=fun v=>by unfold upd;rw[if_neg (fun e=>hka e.symm)]
 refine⟨h.1.trans hx,fun _=>⟨_,u1 _,by rw[hZ];exact alloc_new W _,h.1.size⟩,fun hm=>?_⟩
 obtain⟨Y,q1,q2⟩:=h.2.2 (m1 hm)
 refine⟨W.heap.size::Y,fun z _ hz=>?_,?_⟩
 ·rw[u1] at hz
  simp only[Value.pointer.injEq,Option.some.injEq,Addr.mk.injEq,and_true] at hz
  simp[hz]
 rw[u2]
 refine hP _ _ _ (mask_sub_mask fun k hk hn=>⟨fun hm=>?_,hx.block k hk⟩) q2
 simp only[List.cons_append,List.mem_cons] at hm
 rcases hm with hm|hm
 ·omega
 exact hn hm
theorem gnbx_end (hP:∀ W W' v,Sub W W'->Pd W v->Pd W' v) (h:GnBx w0 Z Pd M kc ka L vs W) (h1:kc∈L) (h2:ka∈L):∃ y,vs ka=.pointer (some ⟨y,0,none⟩)/\W.heap[y]?=some Z/\w0.heap.size<=y/\Pd (mask W (y::M)) (vs kc):=by
 obtain⟨y,q1,q2,q3⟩:=h.2.1 h2
 obtain⟨Y,q4,q5⟩:=h.2.2 h1
 refine⟨y,q1,q2,q3,hP _ _ _ (mask_less W fun z hz=>?_) q5⟩
 rcases List.mem_cons.1 hz with rfl|hz
 ·exact List.mem_append_left _ (q4 _ h2 q1)
 exact List.mem_append_right _ hz
end
end Go.Proofs.YtpkljcgihobaiaaGreatDoor
