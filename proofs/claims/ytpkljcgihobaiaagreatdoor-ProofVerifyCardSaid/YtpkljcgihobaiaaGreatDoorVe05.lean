/-
  Texts of the claim, joined: Spec10, Exp1, Val11, Plain1, Fmt, OkTree, Fmt2, Grow.
-/
import Derived.Test.YtpkljcgihobaiaaGreatDoorVe04
import Derived.Orders
namespace Go.Proofs.YtpkljcgihobaiaaGreatDoor
set_option maxRecDepth 100000
set_option maxHeartbeats 32000000
def firstI (f:Nat->Int):Nat->Nat×Int
 | 0=>(0,0)
 | n+1=>if (firstI f n).2≠0 then firstI f n else if f n≠0 then (n,f n) else (0,0)
theorem firstI_zero {f:Nat->Int}:(n:Nat)->(∀ j,j < n->f j=0)->firstI f n=(0,0)
 | 0,_=>rfl
 | n+1,h=>by rw[firstI,firstI_zero n fun j hj=>h j (by omega),h n (by omega)];simp
theorem firstI_hit {f:Nat->Int} {k:Nat} (hk:f k≠0) (h0:∀ j,j < k->f j=0):(n:Nat)->k < n->firstI f n=(k,f k)
 | 0,h=>by omega
 | n+1,h=>by
  by_cases e:k=n
  ·subst e
   rw[firstI,firstI_zero k h0];simp[hk]
  rw[firstI,firstI_hit hk h0 n (by omega)];simp[hk]
def attrAt (s:List Attr) (x:BA):Option Nat:=s.findIdx? fun a=>decide (a.name=x)
def farB (n:Int):Bool:=!numberB n
def attrErr (a:Attr):Int :=
 if a.kind=1 then (if a.lo≠0\/a.hi≠0 then 20 else if a.words.length=0 then 19 else if 12 < a.words.length then 4 else if a.words.all nameB=false then 6 else if decide a.words.Nodup=false then 8 else 0)
 else if a.kind=2 then (if 0 < a.words.length then 20 else if a.hi < a.lo\/farB a.lo=true\/farB a.hi=true then 1 else 0)
 else if a.kind=3 then (if 0 < a.words.length\/a.lo≠0\/a.hi≠0 then 20 else 0) else 11
def attr0:Attr:=⟨⟨#[]⟩,0,[],0,0⟩
def attrIErr (s:List Attr) (i:Nat):Int :=
 if nameB (s.getD i attr0).name=false then 6 else if (s.take i).any (fun b=>decide (b.name=(s.getD i attr0).name))=true then 8 else attrErr (s.getD i attr0)
def schemaErr (s:List Attr):Int:=if s.length=0 then 19 else if 6 < s.length then 4 else (firstI (attrIErr s) s.length).2
def defAt (l:List Cla) (x:BA):Option Nat:=l.findIdx? fun c=>(c.kind==1)&&decide (c.name=x)
def nodeErr (s:List Attr) (l:List Cla) (op:Int) (name:BA) (words:ZB) (lo hi:Int):Int :=
 if op=3 then (match attrAt s name with|none=>if (defAt l name).isSome then 0 else 7|some i=>if (s.getD i attr0).kind≠3 then 9 else 0)
 else if op=4 then (match attrAt s name with|none=>7|some i=>if (s.getD i attr0).kind≠1 then 9 else if words.all (fun x=>(s.getD i attr0).words.any fun y=>decide (y=x))=false then 7 else 0)
 else if op=5 then (match attrAt s name with|none=>7|some i=>if (s.getD i attr0).kind≠2 then 9 else if lo < (s.getD i attr0).lo\/(s.getD i attr0).hi < hi then 1 else 0)
 else 0
mutual
def nodesErr (s:List Attr) (l:List Cla):Ex->Int
 | .mk op name words lo hi args=>if nodeErr s l op name words lo hi≠0 then nodeErr s l op name words lo hi else nodesErrL s l args
def nodesErrL (s:List Attr) (l:List Cla):List Ex->Int
 | []=>0
 | e::r=>if nodesErr s l e≠0 then nodesErr s l e else nodesErrL s l r
end
theorem nodesErr_eq (s:List Attr) (l:List Cla) (e:Ex):nodesErr s l e=if nodeErr s l e.op e.name e.words e.lo e.hi≠0 then nodeErr s l e.op e.name e.words e.lo e.hi else nodesErrL s l e.args:=by cases e;rw[nodesErr];rfl
theorem nodesErrL_zero {s:List Attr} {l:List Cla}:(r:List Ex)->(∀ j (h:j < r.length),nodesErr s l r[j]=0)->nodesErrL s l r=0
 | [],_=>by rw[nodesErrL]
 | e::r,h=>by
  have h0:=h 0 (by simp)
  simp only[List.getElem_cons_zero] at h0
  rw[nodesErrL,h0]
  simp only[ne_eq,not_true_eq_false,if_false]
  exact nodesErrL_zero r fun j hj=>by have:=h (j+1) (by simpa using hj);simpa using this
theorem nodesErrL_hit {s:List Attr} {l:List Cla}:(r:List Ex)->(k:Nat)->(hk:k < r.length)->nodesErr s l r[k]≠0->(∀ j (h:j < k),nodesErr s l (r[j]'(by omega))=0)->nodesErrL s l r=nodesErr s l r[k]
 | [],k,hk,_,_=>by simp at hk
 | e::r,0,_,h,_=>by simp only[List.getElem_cons_zero] at h ⊢;rw[nodesErrL,if_pos h]
 | e::r,k+1,hk,h,h0=>by
  have h1:=h0 0 (by omega)
  simp only[List.getElem_cons_zero] at h1
  rw[nodesErrL,h1]
  simp only[ne_eq,not_true_eq_false,if_false,List.getElem_cons_succ] at h ⊢
  exact nodesErrL_hit r k (by simpa using hk) h fun j hj=>by have:=h0 (j+1) (by omega);simpa using this
mutual
def expE (D:BA->Option Nat):Ex->Nat
 | .mk op name _ _ _ args=>min ((if op=3 then (D name).getD 1 else 1)+expL D args) 2001
def expL (D:BA->Option Nat):List Ex->Nat
 | []=>0
 | e::r=>expE D e+expL D r
end
theorem expE_eq (D:BA->Option Nat) (e:Ex):expE D e=min ((if e.op=3 then (D e.name).getD 1 else 1)+expL D e.args) 2001:=by cases e;rw[expE];rfl
theorem expL_take_succ (D:BA->Option Nat):(l:List Ex)->(k:Nat)->(hk:k < l.length)->expL D (l.take (k+1))=expL D (l.take k)+expE D l[k]
 | [],k,hk=>by simp at hk
 | e::r,0,_=>by simp[expL]
 | e::r,k+1,hk=>by
  have:=expL_take_succ D r k (by simpa using hk)
  simp[expL] at this ⊢
  omega
theorem expL_take_le (D:BA->Option Nat):(l:List Ex)->(k:Nat)->expL D (l.take k)<=expL D l
 | [],k=>by simp[expL]
 | e::r,0=>by simp[expL]
 | e::r,k+1=>by
  have:=expL_take_le D r k
  simp[expL];omega
theorem expE_le (D:BA->Option Nat) (e:Ex):expE D e<=2001:=by rw[expE_eq];omega
def cla0:Cla:=⟨0,⟨#[]⟩,.mk 0 ⟨#[]⟩ [] 0 0 [],[],0⟩
def expF (l:List Cla):Nat->Ex->Nat
 | 0,_=>2001
 | f+1,e=>expE (fun s=>(defAt l s).map fun d=>expF l f (l.getD d cla0).cond) e
def expanded (l:List Cla) (e:Ex):Nat:=expF l (l.length+1) e
theorem expF_le (l:List Cla) (f:Nat) (e:Ex):expF l f e<=2001:=by cases f with|zero=>simp[expF]|succ f=>rw[expF];exact expE_le _ e
def cntBacks:List Wb->Nat
 | []=>0
 | .mk _ _ u::r=>1+min (cntBacks u) 41+cntBacks r
def backsB:Nat->List Wb->Bool
 | _,[]=>true
 | d,.mk n c u::r=>decide (d≠0)&&nameB n&&refExprB c&&backsB (d - 1) u&&backsB d r
def mostOf (kind:Int):Int:=if kind=5\/kind=6\/kind=7\/kind=10 then 1073741824 else if kind=8 then 1000000 else 0
def clauseB (c:Cla):Bool:=decide (1<=c.kind)&&decide (c.kind<=10)&&nameB c.name&&refExprB c.cond&&(decide (c.unl.length=0)||((c.kind==3)&&decide (cntBacks c.unl<=40)&&backsB 16 c.unl)) &&
 ((decide (mostOf c.kind=0)&&(c.amount==0))||(decide (0 < mostOf c.kind)&&decide (1<=c.amount)&&decide (c.amount<=mostOf c.kind)))
def backsErr (s:List Attr) (l:List Cla):List Wb->Int
 | []=>0
 | .mk _ c u::r=>if nodesErr s l c≠0 then nodesErr s l c else if backsErr s l u≠0 then backsErr s l u else backsErr s l r
def backsLarge (l:List Cla):List Wb->Bool
 | []=>false
 | .mk _ c u::r=>decide (2000 < expanded l c)||backsLarge l u||backsLarge l r
def findAt (l:List Cla) (x:BA):Option Nat:=l.findIdx? fun c=>decide (c.name=x)
def claErr (s:List Attr) (l:List Cla) (i:Nat):Int :=
 if clauseB (l.getD i cla0)=false then 5 else if (findAt l (l.getD i cla0).name).getD 0 < i then 8 else if (attrAt s (l.getD i cla0).name).isSome then 8 else
 if nodesErr s l (l.getD i cla0).cond≠0 then nodesErr s l (l.getD i cla0).cond else backsErr s l (l.getD i cla0).unl
def claLarge (l:List Cla) (i:Nat):Int:=if 2000 < expanded l (l.getD i cla0).cond\/backsLarge l (l.getD i cla0).unl=true then 4 else 0
def Cla.dfn (c:Cla):Dfn:=⟨c.kind==1,c.name,refNames (namesE c.cond)⟩
def Sorts (l:List Dfn):Prop:=∃ o,Topo l o
open Classical in
noncomputable def clausesErr (s:List Attr) (l:List Cla):Nat×Int :=
 if schemaErr s≠0 then (0,schemaErr s) else if 100 < l.length then (0,4) else if (firstI (claErr s l) l.length).2≠0 then firstI (claErr s l) l.length else
 if ¬ Sorts (l.map Cla.dfn) then (0,10) else firstI (claLarge l) l.length
mutual
def bareE:Ex->Bool
 | .mk op _ _ _ _ args=>(op != 3||args.isEmpty)&&bareL args
def bareL:List Ex->Bool
 | []=>true
 | e::r=>bareE e&&bareL r
end
mutual
def szE (D:BA->Option Nat):Ex->Nat
 | .mk op name _ _ _ args=>match (if op=3 then D name else none) with|some n=>n|none=>szL D 1 args
def szL (D:BA->Option Nat):Nat->List Ex->Nat
 | n,[]=>n
 | n,e::r=>szL D (min (n+szE D e) 2001) r
end
theorem szE_eq' (D:BA->Option Nat) (e:Ex):szE D e=match (if e.op=3 then D e.name else none) with|some n=>n|none=>szL D 1 e.args:=by cases e;rw[szE];rfl
theorem szL_snoc (D:BA->Option Nat):(l:List Ex)->(n:Nat)->(e:Ex)->szL D n (l++[e])=min (szL D n l+szE D e) 2001
 | [],n,e=>by simp[szL]
 | x::r,n,e=>by simp[szL,szL_snoc D r]
theorem szL_take_succ (D:BA->Option Nat) (l:List Ex) (n k:Nat) (h:k < l.length):szL D n (l.take (k+1))=min (szL D n (l.take k)+szE D l[k]) 2001:=by
 rw[List.take_succ_eq_append_getElem h,szL_snoc]
mutual
theorem szE_exp {D:BA->Option Nat} (hD:∀ s n,D s=some n->n<=2001):(e:Ex)->bareE e=true->szE D e=expE D e
 | .mk op name words lo hi args,h=>by
  rw[bareE,Bool.and_eq_true] at h
  rw[szE,expE]
  have hl:=szL_exp hD args h.2
  by_cases h3:op=3
  ·have ha:args=[]:=by
    have:=h.1
    rw[h3] at this
    simpa using this
   subst ha
   simp only[if_pos h3]
   cases hd:D name with
   | none=>simp[szL,expL]
   | some n=>have:=hD name n hd;simp[expL];omega
  simp only[if_neg h3]
  exact hl 1 (by omega)
theorem szL_exp {D:BA->Option Nat} (hD:∀ s n,D s=some n->n<=2001):(l:List Ex)->bareL l=true->∀ n,n<=2001->szL D n l=min (n+expL D l) 2001
 | [],_,n,hn=>by simp[szL,expL];omega
 | e::r,h,n,hn=>by
  rw[bareL,Bool.and_eq_true] at h
  rw[szL,expL,szL_exp hD r h.2 _ (by omega),szE_exp hD e h.1]
  omega
end
mutual
theorem expE_congr {D D':BA->Option Nat}:(e:Ex)->(∀ s∈namesE e,D s=D' s)->expE D e=expE D' e
 | .mk op name words lo hi args,h=>by
  rw[expE,expE]
  rw[namesE] at h
  rw[expL_congr args fun s hs=>h s (List.mem_append_right _ hs)]
  by_cases h3:op=3
  ·rw[if_pos h3,if_pos h3,h name (List.mem_append_left _ (by simp[h3]))]
  rw[if_neg h3,if_neg h3]
theorem expL_congr {D D':BA->Option Nat}:(l:List Ex)->(∀ s∈namesL l,D s=D' s)->expL D l=expL D' l
 | [],_=>by rw[expL,expL]
 | e::r,h=>by
  rw[namesL] at h
  rw[expL,expL,expE_congr e fun s hs=>h s (List.mem_append_left _ hs),expL_congr r fun s hs=>h s (List.mem_append_right _ hs)]
end
theorem findIdx_map {α β:Type} (f:α->β) (p:β->Bool) (l:List α):(l.map f).findIdx? p=l.findIdx? (fun x=>p (f x)):=by
 rw[List.findIdx?_map];rfl
theorem firstAt_dfn (l:List Cla) (s:BA):firstAt (l.map Cla.dfn) s=defAt l s:=by
 unfold firstAt defAt
 rw[findIdx_map]
 rfl
theorem getD_cla {l:List Cla} {i:Nat} (h:i < l.length):l.getD i cla0=l[i]:=by simp[h]
theorem isDef_dfn {l:List Cla} {i:Nat} (h:i < l.length):isDef (l.map Cla.dfn) i=(l[i].kind==1):=by
 unfold isDef
 simp[h,Cla.dfn]
theorem usesAt_dfn {l:List Cla} {i:Nat} (h:i < l.length):usesAt (l.map Cla.dfn) i=refNames (namesE l[i].cond):=by
 unfold usesAt
 simp[h,Cla.dfn]
theorem defAt_lt {l:List Cla} {s:BA} {d:Nat} (h:defAt l s=some d):d < l.length:=by
 unfold defAt at h
 rw[List.findIdx?_eq_some_iff_getElem] at h
 exact h.1
theorem defAt_name {l:List Cla} {s:BA} {d:Nat} (h:defAt l s=some d):(l.getD d cla0).name=s/\(l.getD d cla0).kind=1:=by
 have hd:=defAt_lt h
 unfold defAt at h
 rw[List.findIdx?_eq_some_iff_getElem] at h
 obtain⟨_,h1,_⟩:=h
 simp only[Bool.and_eq_true,beq_iff_eq,decide_eq_true_eq] at h1
 rw[getD_cla hd]
 exact⟨h1.2,h1.1⟩
theorem Topo.lt {l:List Dfn} {o:ZN} (h:Topo l o) {i:Nat} (hi:i∈o):i < l.length:=isDef_lt ((h.all i).1 hi)
theorem Topo.len {l:List Dfn} {o:ZN} (h:Topo l o):o.length<=l.length:=by
 have:=nodup_le o (List.range l.length) h.nodup fun x hx=>List.mem_range.2 (h.lt hx)
 simpa using this
theorem expF_stable {l:List Cla} {o:ZN} (h:Topo (l.map Cla.dfn) o):∀ (q d:Nat),o[q]?=some d->∀ f g,q < f->q < g->expF l f (l.getD d cla0).cond=expF l g (l.getD d cla0).cond:=by
 intro q
 induction q using Nat.strongRecOn with
 | ind q ih =>
  intro d hd f g hf hg
  obtain⟨f,rfl⟩:∃ k,f=k+1:=⟨f - 1,by omega⟩
  obtain⟨g,rfl⟩:∃ k,g=k+1:=⟨g - 1,by omega⟩
  rw[expF,expF]
  refine expE_congr _ fun s hs=>?_
  have hdl:d < l.length:=by simpa using h.lt (List.mem_of_getElem? hd)
  cases hda:defAt l s with
  | none=>rfl
  | some d' =>
   have h1:=h.after q d hd s (by rw[usesAt_dfn hdl,refNames_mem];rwa [getD_cla hdl] at hs) d' (by rw[firstAt_dfn];exact hda)
   obtain⟨q',hq'⟩:=List.mem_iff_getElem?.1 h1
   have hlt:q' < q:=by
    rcases Nat.lt_or_ge q' q with h'|h'
    ·exact h'
    rw[List.getElem?_eq_none (by simp;omega)] at hq';cases hq'
   rw[List.getElem?_take,if_pos hlt] at hq'
   simp only[Option.map_some,Option.some.injEq]
   exact ih q' hlt d' hq' f g (by omega) (by omega)
def sizesF (l:List Cla) (o:ZN):BA->Option Nat:=o.foldl (fun D i s=>if s=(l.getD i cla0).name then some (szE D (l.getD i cla0).cond) else D s) (fun _=>none)
theorem sizesF_snoc (l:List Cla) (o:ZN) (i:Nat) (s:BA):sizesF l (o++[i]) s=if s=(l.getD i cla0).name then some (szE (sizesF l o) (l.getD i cla0).cond) else sizesF l o s:=by simp[sizesF]
theorem sizesF_spec {l:List Cla} {o:ZN} (h:Topo (l.map Cla.dfn) o) (hu:∀ i∈o,defAt l (l.getD i cla0).name=some i) (hb:∀ i∈o,bareE (l.getD i cla0).cond=true) :
  ∀ p,p<=o.length->∀ s,sizesF l (o.take p) s=match defAt l s with|some d=>if d∈o.take p then some (expF l l.length (l.getD d cla0).cond) else none|none=>none:=by
 have hol:o.length<=l.length:=by simpa using h.len
 intro p
 induction p with
 | zero =>
  intro _ s
  simp only[List.take_zero,List.not_mem_nil,if_false]
  cases defAt l s<;>rfl
 | succ p ih =>
  intro hp s
  have hp':p < o.length:=by omega
  have IH:=ih (by omega)
  have hD:∀ s n,sizesF l (o.take p) s=some n->n<=2001:=by
   intro s n hn
   rw[IH s] at hn
   cases hd:defAt l s with
   | none=>rw[hd] at hn;cases hn
   | some d =>
    rw[hd] at hn
    simp only at hn
    split at hn
    ·cases hn;exact expF_le _ _ _
    cases hn
  have him:o[p]∈o:=List.getElem_mem hp'
  have hil:o[p] < l.length:=by simpa using h.lt him
  rw[List.take_succ_eq_append_getElem hp',sizesF_snoc]
  have key:szE (sizesF l (o.take p)) (l.getD o[p] cla0).cond=expF l l.length (l.getD o[p] cla0).cond:=by
   rw[szE_exp hD _ (hb _ him),expF_stable h p o[p] (List.getElem?_eq_getElem hp') l.length (l.length+1) (by omega) (by omega),expF]
   refine expE_congr _ fun t ht=>?_
   rw[IH t]
   cases hda:defAt l t with
   | none=>rfl
   | some d =>
    have h1:=h.after p o[p] (List.getElem?_eq_getElem hp') t (by rw[usesAt_dfn hil,refNames_mem];rwa [getD_cla hil] at ht) d (by rw[firstAt_dfn];exact hda)
    simp[h1]
  by_cases hs:s=(l.getD o[p] cla0).name
  ·rw[if_pos hs,key,hs,hu _ him]
   simp only[List.mem_append,List.mem_singleton,or_true,if_true]
  rw[if_neg hs,IH s]
  cases hd:defAt l s with
  | none=>rfl
  | some d =>
   have hne:d≠o[p]:=fun e=>hs (by rw[<-e];exact(defAt_name hd).1.symm)
   simp only[List.mem_append,List.mem_singleton,hne,or_false]
theorem sizes_exp {l:List Cla} {o:ZN} (h:Topo (l.map Cla.dfn) o) (hu:∀ i∈o,defAt l (l.getD i cla0).name=some i) (hb:∀ i∈o,bareE (l.getD i cla0).cond=true) (e:Ex) (he:bareE e=true):szE (sizesF l o) e=expanded l e:=by
 have hs:=sizesF_spec h hu hb o.length (Nat.le_refl _)
 rw[List.take_length] at hs
 have hD:∀ s n,sizesF l o s=some n->n<=2001:=by
  intro s n hn
  rw[hs s] at hn
  cases hd:defAt l s with
  | none=>rw[hd] at hn;cases hn
  | some d =>
   rw[hd] at hn
   simp only at hn
   split at hn
   ·cases hn;exact expF_le _ _ _
   cases hn
 rw[szE_exp hD e he,expanded,expF]
 refine expE_congr _ fun t ht=>?_
 rw[hs t]
 cases hda:defAt l t with
 | none=>rfl
 | some d =>
  have hdl:=defAt_lt hda
  have:d∈o:=(h.all d).2 (by rw[isDef_dfn hdl,<-getD_cla hdl,(defAt_name hda).2];rfl)
  simp[this]
def domB (a:Attr):Int×Int:=if a.kind=1 then (0,(a.words.length:Int) - 1) else if a.kind=2 then (a.lo,a.hi) else (0,1)
def factsAll:List Attr->ZI->Bool
 | [],[]=>true
 | a::r,v::q=>decide ((domB a).1<=v)&&decide (v<=(domB a).2)&&factsAll r q
 | _,_=>false
def factsB (s:List Attr) (f:ZI):Bool:=decide (schemaErr s=0)&&factsAll s f
theorem factsAll_len:{s:List Attr}->{f:ZI}->factsAll s f=true->f.length=s.length
 | [],[],_=>rfl
 | a::r,v::q,h=>by
  simp only[factsAll,Bool.and_eq_true] at h
  simp[factsAll_len h.2]
 | [],v::q,h=>by simp[factsAll] at h
 | a::r,[],h=>by simp[factsAll] at h
theorem factsAll_at:{s:List Attr}->{f:ZI}->factsAll s f=true->(i:Nat)->(hi:i < s.length)->(hj:i < f.length)->(domB s[i]).1<=f[i]/\f[i]<=(domB s[i]).2
 | a::r,v::q,h,0,_,_=>by
  simp only[factsAll,Bool.and_eq_true,decide_eq_true_eq] at h
  simpa using h.1
 | a::r,v::q,h,i+1,hi,hj=>by
  simp only[factsAll,Bool.and_eq_true] at h
  simpa using factsAll_at h.2 i (by simpa using hi) (by simpa using hj)
theorem factsAll_of:{s:List Attr}->{f:ZI}->f.length=s.length->(∀ i (hi:i < s.length) (hj:i < f.length),(domB s[i]).1<=f[i]/\f[i]<=(domB s[i]).2)->factsAll s f=true
 | [],[],_,_=>rfl
 | a::r,v::q,h,h2=>by
  have h0:=h2 0 (by simp) (by simp)
  simp only[List.getElem_cons_zero] at h0
  simp only[factsAll,Bool.and_eq_true,decide_eq_true_eq]
  exact⟨h0,factsAll_of (by simpa using h) fun i hi hj=>by have:=h2 (i+1) (by simpa using hi) (by simpa using hj);simpa using this⟩
 | [],v::q,h,_=>by simp at h
 | a::r,[],h,_=>by simp at h
def factV (s:List Attr) (f:ZI) (op:Int) (name:BA) (words:ZB) (lo hi:Int):Bool :=
 if op=1 then true else if op=2 then false else
 match attrAt s name with
 | none=>false
 | some i=>if op=4 then words.any (fun x=>decide (x=(s.getD i attr0).words.getD (f.getD i 0).toNat ⟨#[]⟩)) else if op=5 then decide (lo<=f.getD i 0)&&decide (f.getD i 0<=hi) else decide (f.getD i 0=1)
mutual
def valE (s:List Attr) (f:ZI) (D:BA->Option Bool):Ex->Bool
 | .mk op name words lo hi args=>if op=6 then !(valHd s f D args) else if op=7 then valAll s f D args else if op=8 then valAny s f D args else if op=3 then (D name).getD (factV s f op name words lo hi) else factV s f op name words lo hi
def valHd (s:List Attr) (f:ZI) (D:BA->Option Bool):List Ex->Bool
 | []=>false
 | e::_=>valE s f D e
def valAll (s:List Attr) (f:ZI) (D:BA->Option Bool):List Ex->Bool
 | []=>true
 | e::r=>valE s f D e&&valAll s f D r
def valAny (s:List Attr) (f:ZI) (D:BA->Option Bool):List Ex->Bool
 | []=>false
 | e::r=>valE s f D e||valAny s f D r
end
theorem valAll_iff {s:List Attr} {f:ZI} {D:BA->Option Bool}:(l:List Ex)->valAll s f D l=l.all (valE s f D)
 | []=>by rw[valAll];rfl
 | e::r=>by rw[valAll,valAll_iff r];rfl
theorem valAny_iff {s:List Attr} {f:ZI} {D:BA->Option Bool}:(l:List Ex)->valAny s f D l=l.any (valE s f D)
 | []=>by rw[valAny];rfl
 | e::r=>by rw[valAny,valAny_iff r];rfl
def valF (s:List Attr) (l:List Cla) (f:ZI):Nat->Ex->Bool
 | 0,_=>false
 | k+1,e=>valE s f (fun x=>(defAt l x).map fun d=>valF s l f k (l.getD d cla0).cond) e
def val (s:List Attr) (l:List Cla) (f:ZI) (e:Ex):Bool:=valF s l f (l.length+1) e
mutual
def pNodes:Ex->Bool
 | .mk op name words lo hi args=>nodeB (.mk op name words lo hi args)&&pNodesAll args
def pNodesAll:List Ex->Bool
 | []=>true
 | e::r=>pNodes e&&pNodesAll r
end
mutual
theorem validF_spec:(e:Ex)->(d n:Int)->n<=300->d<=17->((validF e d n).1=true ↔ (d+e.depth<=17/\n+e.size<=300/\pNodes e=true))/\((validF e d n).1=true->(validF e d n).2=n+e.size)
 | .mk op name words lo hi args,d,n,hn,hd=>by
  have hs:(Ex.mk op name words lo hi args).size=1+sizes args:=by simp[Ex.size]
  have hp:(Ex.mk op name words lo hi args).depth=depths args+1:=by simp[Ex.depth]
  rw[validF,hs,hp,pNodes]
  by_cases hc:300 < n+1\/16 < d\/nodeB (.mk op name words lo hi args)=false
  ·rw[if_pos hc]
   refine⟨⟨fun h=>by simp at h,fun ⟨h1,h2,h3⟩=>?_⟩,fun h=>by simp at h⟩
   rcases hc with hc|hc|hc
   ·omega
   ·omega
   rw[hc] at h3;simp at h3
  rw[if_neg hc]
  have hnb:nodeB (.mk op name words lo hi args)=true:=by
   cases hh:nodeB (.mk op name words lo hi args)
   ·exact absurd (Or.inr (Or.inr hh)) hc
   rfl
  obtain⟨h1,h2⟩:=validsF_spec args (d+1) (n+1) (by omega) (by omega)
  rw[hnb,Bool.true_and]
  refine⟨h1.trans ⟨fun ⟨a,b,c⟩=>⟨by omega,by omega,c⟩,fun ⟨a,b,c⟩=>⟨by omega,by omega,c⟩⟩,fun h=>by have:=h2 h;omega⟩
theorem validsF_spec:(l:List Ex)->(d n:Int)->n<=300->d<=17->((validsF l d n).1=true ↔ (d+depths l<=17/\n+sizes l<=300/\pNodesAll l=true))/\((validsF l d n).1=true->(validsF l d n).2=n+sizes l)
 | [],d,n,hn,hd=>by simp[validsF,depths,sizes,pNodesAll];omega
 | e::r,d,n,hn,hd=>by
  obtain⟨h1,h2⟩:=validF_spec e d n hn hd
  rw[validsF,depths,sizes,pNodesAll]
  by_cases hv:(validF e d n).1=true
  ·rw[if_pos hv]
   have e2:=h2 hv
   obtain⟨a1,a2,a3⟩:=h1.1 hv
   obtain⟨h3,h4⟩:=validsF_spec r d (validF e d n).2 (by omega) hd
   refine⟨h3.trans ⟨fun ⟨a,b,c⟩=>⟨by omega,by omega,by rw[a3,c];rfl⟩,fun ⟨a,b,c⟩=>⟨by omega,by omega,by rw[a3] at c;simpa using c⟩⟩,fun h=>by have:=h4 h;omega⟩
  rw[if_neg hv]
  refine⟨⟨fun h=>by simp at h,fun ⟨a,b,c⟩=>absurd (h1.2 ⟨by omega,by omega,?_⟩) hv⟩,fun h=>by simp at h⟩
  rw[Bool.and_eq_true] at c;exact c.1
end
theorem nodeB_ref (e:Ex) (h:e.args.length<=300):nodeB e=refNodeB e:=by
 obtain⟨op,name,words,lo,hi,args⟩:=e
 simp only[nodeB,refNodeB,refNode,Ex.op,Ex.name,Ex.words,Ex.lo,Ex.hi,Ex.args,wordsB] at *
 by_cases h1:1<=op/\op<=8
 ·have hk:op=1\/op=2\/op=3\/op=4\/op=5\/op=6\/op=7\/op=8:=by omega
  have hw:words.isEmpty=decide (words.length=0):=by cases words<;>simp
  have hw2:(words.length != 0)=decide (1<=words.length):=by cases words<;>simp
  rw[hw,hw2]
  rcases hk with rfl|rfl|rfl|rfl|rfl|rfl|rfl|rfl
  all_goals
   simp only[show ((1:Int).toNat)=1 from rfl,show ((2:Int).toNat)=2 from rfl,show ((3:Int).toNat)=3 from rfl,show ((4:Int).toNat)=4 from rfl,show ((5:Int).toNat)=5 from rfl,show ((6:Int).toNat)=6 from rfl,show ((7:Int).toNat)=7 from rfl,show ((8:Int).toNat)=8 from rfl,opLeast,opMost,opNamed]
   rw[Bool.eq_iff_iff]
   simp
   try grind
 simp[h1]
mutual
theorem pNodes_ref:(e:Ex)->e.size<=300->pNodes e=nodesB e
 | .mk op name words lo hi args,h=>by
  have hs:(Ex.mk op name words lo hi args).size=1+sizes args:=by simp[Ex.size]
  have hl:=length_le_sizes args
  rw[pNodes,nodesB,nodeB_ref _ (by simp only[Ex.args];omega),pNodesAll_ref args (by omega)]
theorem pNodesAll_ref:(l:List Ex)->sizes l<=300->pNodesAll l=nodesAll l
 | [],_=>by simp[pNodesAll,nodesAll]
 | e::r,h=>by
  rw[sizes] at h
  rw[pNodesAll,nodesAll,pNodes_ref e (by omega),pNodesAll_ref r (by omega)]
end
theorem validB_ref (e:Ex):validB e=refExprB e:=by
 unfold validB refExprB
 have h:=(validF_spec e 1 0 (by omega) (by omega)).1
 have e1:refSize e<=300 ↔ e.size<=300:=by unfold refSize;omega
 rw[Bool.eq_iff_iff,h,Bool.and_eq_true,Bool.and_eq_true]
 constructor
 ·rintro⟨a,b,c⟩
  refine⟨⟨?_,?_⟩,by rw[<-pNodes_ref e (by omega)];exact c⟩
  ·rw[decide_eq_false (by omega)];rfl
  rw[decide_eq_true_eq,e1];omega
 rintro⟨⟨a,b⟩,c⟩
 have a2:¬ 16 < e.depth:=fun h=>by rw[decide_eq_true h] at a;cases a
 have b2:=e1.1 (of_decide_eq_true b)
 exact⟨by omega,by omega,by rw[pNodes_ref e (by omega)];exact c⟩
def nameT (s:BA):Tok:=⟨1,s,0,0⟩
def markT (c:UInt8):Tok:=⟨4,⟨#[c]⟩,0,0⟩
def numT (n:Int):Tok:=⟨2,⟨#[]⟩,n,0⟩
def wTo:BA:=⟨#[116,111]⟩
def listedT:ZB->List Tok
 | []=>[]
 | [s]=>[nameT s]
 | s::r=>nameT s::markT 44::listedT r
def paren (op aop:Int):Bool:=aop==8||(aop==7&&op != 8)
mutual
def tokE:Ex->List Tok
 | .mk op name words lo hi args =>
  if op=1 then [nameT wTrue] else if op=2 then [nameT wFalse] else if op=3 then [nameT name] else
  if op=4 then [nameT name,nameT wIn,markT 40]++listedT words++[markT 41] else
  if op=5 then [nameT name,nameT wFrom,numT lo,nameT wTo,numT hi] else
  (if op=6 then [nameT wNot] else [])++tokArgs op args
def tokArgs (op:Int):List Ex->List Tok
 | []=>[]
 | a::r=>(if paren op a.op then [markT 40]++tokE a++[markT 41] else tokE a)++tokMore op r
def tokMore (op:Int):List Ex->List Tok
 | []=>[]
 | a::r=>[nameT (if op=7 then wAnd else wOr)]++(if paren op a.op then [markT 40]++tokE a++[markT 41] else tokE a)++tokMore op r
end
def okNode (e:Ex):Prop :=
 (e.op=1/\e.name=⟨#[]⟩/\e.words=[]/\e.lo=0/\e.hi=0/\e.args=[])\/(e.op=2/\e.name=⟨#[]⟩/\e.words=[]/\e.lo=0/\e.hi=0/\e.args=[]) \/
 (e.op=3/\nameB e.name=true/\e.words=[]/\e.lo=0/\e.hi=0/\e.args=[])\/(e.op=4/\nameB e.name=true/\wordsB e.words=true/\e.lo=0/\e.hi=0/\e.args=[]) \/
 (e.op=5/\nameB e.name=true/\e.words=[]/\numberB e.lo=true/\numberB e.hi=true/\e.lo<=e.hi/\e.args=[]) \/
 (e.op=6/\e.name=⟨#[]⟩/\e.words=[]/\e.lo=0/\e.hi=0/\e.args.length=1) \/
 ((e.op=7\/e.op=8)/\e.name=⟨#[]⟩/\e.words=[]/\e.lo=0/\e.hi=0/\2<=e.args.length)
mutual
def okTree:Ex->Prop
 | .mk op name words lo hi args=>okNode (.mk op name words lo hi args)/\okTrees args
def okTrees:List Ex->Prop
 | []=>True
 | e::r=>okTree e/\okTrees r
end
theorem refNode_ok (e:Ex):refNodeB e=true ↔ okNode e:=by
 obtain⟨op,name,words,lo,hi,args⟩:=e
 have hw:words=[] ↔ words.length=0:=by cases words<;>simp
 have ha:args=[] ↔ args.length=0:=by cases args<;>simp
 have hnm:name=⟨#[]⟩ ↔ name.toList.isEmpty=true:=by
  rw[List.isEmpty_iff,ByteArray.toList_eq]
  constructor
  ·rintro rfl;rfl
  intro h
  apply ByteArray.ext
  simpa using h
 simp only[refNodeB,refNode,okNode,Ex.op,Ex.name,Ex.words,Ex.lo,Ex.hi,Ex.args,wordsB,hw,ha,hnm]
 by_cases h1:1<=op/\op<=8
 ·have hk:op=1\/op=2\/op=3\/op=4\/op=5\/op=6\/op=7\/op=8:=by omega
  rcases hk with rfl|rfl|rfl|rfl|rfl|rfl|rfl|rfl
  all_goals
   simp
   try grind
 simp[h1]
 omega
mutual
theorem nodes_ok:(e:Ex)->(nodesB e=true ↔ okTree e)
 | .mk op name words lo hi args=>by
  rw[nodesB,okTree,Bool.and_eq_true,refNode_ok,nodesAll_ok args]
theorem nodesAll_ok:(l:List Ex)->(nodesAll l=true ↔ okTrees l)
 | []=>by simp[nodesAll,okTrees]
 | e::r=>by rw[nodesAll,okTrees,Bool.and_eq_true,nodes_ok e,nodesAll_ok r]
end
theorem okTrees_mem {l:List Ex} (h:okTrees l):∀ x∈l,okTree x:=by
 induction l with
 | nil=>intro x hx;simp at hx
 | cons e r ih =>
  unfold okTrees at h
  intro x hx
  rcases List.mem_cons.1 hx with rfl|hx
  ·exact h.1
  exact ih h.2 x hx
open Go.RowKit
def dstAt (ops:Array Oper) (j:Nat):Option Tmp:=(ops[j]?).bind (·.dst)
def acts (ops:Array Oper) (a:Act) (vs:Nat->Value) (L:ZN):Act:=L.foldl (fun b j=>b.put (dstAt ops j) (vs j)) a
theorem acts_snoc (ops:Array Oper) (a:Act) (vs:Nat->Value) (L:ZN) (i:Nat):acts ops a vs (L++[i])=(acts ops a vs L).put (dstAt ops i) (vs i):=by simp[acts]
theorem acts_congr {ops:Array Oper} {a:Act} {vs vs':Nat->Value} {L:ZN} (h:∀ j∈L,vs j=vs' j):acts ops a vs L=acts ops a vs' L:=by
 unfold acts
 induction L generalizing a with
 | nil=>rfl
 | cons x r ih=>simp only[List.foldl_cons,h x (by simp)];exact ih (fun j hj=>h j (List.mem_cons_of_mem _ hj))
theorem put_size (a:Act) (d:Option Tmp) (v:Value):(a.put d v).tmps.size=a.tmps.size:=by cases d<;>simp[Act.put]
theorem acts_size (ops:Array Oper) (a:Act) (vs:Nat->Value) (L:ZN):(acts ops a vs L).tmps.size=a.tmps.size:=by
 unfold acts
 induction L generalizing a with
 | nil=>rfl
 | cons x r ih=>rw[List.foldl_cons,ih,put_size]
def DstApart (ops:Array Oper):Prop:=∀ i j d,dstAt ops i=some d->dstAt ops j=some d->i=j
theorem put_eval_same (a:Act) (t:Tmp) (v:Value):(a.put (some t) v).eval (.tmp t)=if t < a.tmps.size then v else undef:=by
 by_cases h:t < a.tmps.size
 ·rw[if_pos h];simp[Act.put,Act.eval,h]
 rw[if_neg h]
 simp only[Act.put,Act.eval]
 rw[Array.setIfInBounds_eq_of_size_le (Nat.le_of_not_lt h)]
 simp
 rw[Array.getElem?_eq_none (Nat.le_of_not_lt h)];rfl
theorem acts_eval_in {ops:Array Oper} (hd:DstApart ops) {a:Act} {vs:Nat->Value} {L:ZN} {t:Tmp} {j:Nat} (hj:j∈L) (ht:dstAt ops j=some t):(acts ops a vs L).eval (.tmp t)=if t < a.tmps.size then vs j else undef:=by
 induction L generalizing a with
 | nil=>simp at hj
 | cons x r ih =>
  simp only[acts,List.foldl_cons]
  by_cases hjr:j∈r
  ·have:=ih (a:=a.put (dstAt ops x) (vs x)) hjr
   rw[put_size] at this
   exact this
  obtain rfl:j=x:=by rcases List.mem_cons.1 hj with h|h;exact h;exact absurd h hjr
  have:∀ (b:Act),(acts ops b vs r).eval (.tmp t)=b.eval (.tmp t):=by
   clear ih hj
   induction r with
   | nil=>intro b;rfl
   | cons y s ih =>
    intro b
    simp only[acts,List.foldl_cons]
    have h1:=ih (fun h=>hjr (List.mem_cons_of_mem _ h)) (b.put (dstAt ops y) (vs y))
    simp only[acts] at h1
    rw[h1]
    exact Act.eval_put (fun d hd' e=>by
     injection e with e
     subst e
     exact hjr (by rw[hd _ _ _ ht hd'];simp))
  have h2:=this (a.put (dstAt ops j) (vs j))
  simp only[acts] at h2
  rw[h2,ht,put_eval_same]
theorem acts_eval_out {ops:Array Oper} {a:Act} {vs:Nat->Value} {L:ZN} {t:Tmp} (ht:∀ j∈L,dstAt ops j≠some t):(acts ops a vs L).eval (.tmp t)=a.eval (.tmp t):=by
 induction L generalizing a with
 | nil=>rfl
 | cons x r ih =>
  simp only[acts,List.foldl_cons]
  have:=ih (a:=a.put (dstAt ops x) (vs x)) (fun j hj=>ht j (List.mem_cons_of_mem _ hj))
  simp only[acts] at this
  rw[this]
  exact Act.eval_put (fun d hd' e=>by injection e with e;subst e;exact ht x (by simp) hd')
theorem acts_perm {ops:Array Oper} (hd:DstApart ops) {a:Act} {vs:Nat->Value} {L L':ZN} (h:L.Perm L'):acts ops a vs L=acts ops a vs L':=by
 refine List.Perm.foldl_eq' h (fun x _ y _ z=>?_) a
 by_cases hxy:x=y
 ·subst hxy;rfl
 exact Act.put_comm _ _ _ (fun d hx hy=>hxy (hd _ _ _ hx hy))
def isData (e:Edge):Bool:=match e.ground with|.data=>true|_=>false
def okGrow (ops:Array Oper) (m:Nat):Bool :=
 Region.noSelect ops&&decide (m<=ops.size)&&decide (ops.size<=m+1) &&
 ((List.range ops.size).all fun i=>(List.range ops.size).all fun j=>i==j||dstAt ops i==none||dstAt ops i != dstAt ops j) &&
 ((List.range ops.size).all fun i=>match ops[i]? with
  | none=>false
  | some o=>(o.guard==none||i==m)&&(o.after.all fun e=>(!Region.binds .any e||decide (e.on < i))&&(!isData e||Region.binds .any e)) &&
   ((List.range m).all fun j=>match dstAt ops j with
    | none=>true
    | some t=>!(o.looksAt ops).contains t||(i==m)||o.after.any (fun e=>Region.binds .any e&&e.on==j)) &&
   (i != m||(List.range m).all fun j=>o.after.any (fun e=>Region.binds .any e&&e.on==j)))
theorem okGrow_spec {ops:Array Oper} {m:Nat} (h:okGrow ops m=true):Region.noSelect ops=true/\m<=ops.size/\ops.size<=m+1/\DstApart ops /\
  (∀ i o,ops[i]?=some o->(i < m->o.guard=none)/\(∀ e∈o.after,(Region.binds .any e=true->e.on < i)/\(isData e=true->Region.binds .any e=true))/\(i < m->∀ j t,j < m->dstAt ops j=some t->t∈o.looksAt ops->∃ e∈o.after,Region.binds .any e=true/\e.on=j) /\
   (i=m->∀ j,j < m->∃ e∈o.after,Region.binds .any e=true/\e.on=j)):=by
 simp only[okGrow,Bool.and_eq_true,decide_eq_true_eq] at h
 obtain⟨⟨⟨⟨h1,h2⟩,h3⟩,h4⟩,h5⟩:=h
 refine⟨h1,h2,h3,?_,?_⟩
 ·intro i j d hi hj
  have li:i < ops.size:=by
   unfold dstAt at hi
   rcases Nat.lt_or_ge i ops.size with h|h
   ·exact h
   rw[Array.getElem?_eq_none h] at hi;simp at hi
  have lj:j < ops.size:=by
   unfold dstAt at hj
   rcases Nat.lt_or_ge j ops.size with h|h
   ·exact h
   rw[Array.getElem?_eq_none h] at hj;simp at hj
  have:=List.all_eq_true.1 (List.all_eq_true.1 h4 i (by simpa using li)) j (by simpa using lj)
  simpa [hi,hj] using this
 intro i o ho
 have li:i < ops.size:=(Array.getElem?_eq_some_iff.1 ho).1
 have h6:=List.all_eq_true.1 h5 i (by simpa using li)
 simp only[ho,Bool.and_eq_true] at h6
 obtain⟨⟨⟨g1,g2⟩,g3⟩,g4⟩:=h6
 refine⟨fun hm=>?_,fun e he=>?_,fun hm j t hjm hj ht=>?_,fun hm j hj=>?_⟩
 ·rcases Bool.or_eq_true_iff.1 g1 with g|g
  ·simpa using g
  have:i=m:=by simpa using g
  omega
 ·have:=Array.all_eq_true_iff_forall_mem.1 g2 e he
  simp only[Bool.and_eq_true,Bool.or_eq_true,Bool.not_eq_true',decide_eq_true_eq] at this
  refine⟨fun hb=>?_,fun hb=>?_⟩
  ·rcases this.1 with h|h
   ·rw[hb] at h;cases h
   exact h
  rcases this.2 with h|h
  ·rw[hb] at h;cases h
  exact h
 ·have:=List.all_eq_true.1 g3 j (by simpa using hjm)
  rw[hj] at this
  simp only[Bool.or_eq_true,Bool.not_eq_true'] at this
  rcases this with (h|h)|h
  ·rw[List.contains_iff_mem.2 ht] at h;cases h
  ·have:i=m:=by simpa using h
   omega
  obtain⟨e,he,hb⟩:=Array.any_eq_true'.1 h
  simp only[Bool.and_eq_true,beq_iff_eq] at hb
  exact⟨e,he,hb.1,hb.2⟩
 subst hm
 rcases Bool.or_eq_true_iff.1 g4 with g|g
 ·simp at g
 have:=List.all_eq_true.1 g j (by simpa using hj)
 obtain⟨e,he,hb⟩:=Array.any_eq_true'.1 this
 simp only[Bool.and_eq_true,beq_iff_eq] at hb
 exact⟨e,he,hb.1,hb.2⟩
def GivesOp (P:Program) (o:Oper) (ρ:Operand->Value) (W:World) (T:Value->World->Prop):Prop:=match (execOp ρ o).run P W with
 | .ok (.value v) W'=>T v W'
 | .ok .skip W'=>T undef W'
 | .ok (.enter f args) W'=>Calls P f args W' (fun e W''=>∃ v,e=.returned v/\T v W'')
 | _=>False
theorem GivesOp.wp {P:Program} {o:Oper} {ρ:Operand->Value} {a':Act} {W:World} {T:Value->World->Prop} {Q:Exit->Act->World->Prop} (h:GivesOp P o ρ W T) (he:execOp a'.eval o=execOp ρ o) :
  o.wp P a' W (fun a'' W'=>∃ v,a''=a'.put o.dst v/\T v W') Q:=by
 unfold GivesOp at h
 unfold Oper.wp
 rw[he]
 generalize (execOp ρ o).run P W=r at *
 cases r with
 | ok n w' =>
  cases n<;>simp only at h<;>simp only[Oper.upon]
  case value v=>exact⟨v,rfl,h⟩
  case skip=>exact⟨undef,rfl,h⟩
  case enter f args =>
   refine Calls.mono h (fun e w'' he=>?_)
   obtain⟨v,rfl,ht⟩:=he
   exact⟨v,rfl,ht⟩
 | halt x w'=>simp only at h
structure Sees (ops:Array Oper) (a:Act) (m:Nat) (vs:Nat->Value) (ρ:Operand->Value):Prop where
 ins:∀ j t,j < m->dstAt ops j=some t->t < a.tmps.size->ρ (.tmp t)=vs j
 out:∀ t,((List.range m).all fun j=>dstAt ops j != some t)=true->ρ (.tmp t)=a.eval (.tmp t)
 const:∀ c,ρ (.const c)=c
 glob:∀ g,ρ (.global g)=.pointer (some ⟨g,0,none⟩)
 func:∀ f,ρ (.func f)=.func (.func f) #[] #[]
theorem sees_acts {ops:Array Oper} (hd:DstApart ops) (a:Act) (m:Nat) (vs:Nat->Value):Sees ops a m vs (acts ops a vs (List.range m)).eval where
 ins:=fun j t hj ht hs=>by rw[acts_eval_in hd (by simpa using hj) ht,if_pos hs]
 out:=fun t ht=>acts_eval_out (fun j hj=>by have:=List.all_eq_true.1 ht j hj;simpa using this)
 const:=fun _=>rfl
 glob:=fun _=>rfl
 func:=fun _=>rfl
def upd (vs:Nat->Value) (i:Nat) (v:Value):Nat->Value:=fun j=>if j=i then v else vs j
def comesAfter (ops:Array Oper):Nat->Nat->Nat->Bool
 | 0,_,_=>false
 | f+1,i,k=>match ops[i]? with
  | none=>false
  | some o=>o.after.any fun e=>Region.binds .any e&&(e.on==k||comesAfter ops f e.on k)
theorem comesAfter_mem {ops:Array Oper} {L:ZN} (hcl:∀ i∈L,∀ o,ops[i]?=some o->∀ e∈o.after,Region.binds .any e=true->e.on∈L):∀ (f i k:Nat),i∈L->comesAfter ops f i k=true->k∈L:=by
 intro f
 induction f with
 | zero=>intro i k _ h;simp[comesAfter] at h
 | succ f ih =>
  intro i k hi h
  rw[comesAfter] at h
  cases ho:ops[i]? with
  | none=>rw[ho] at h;cases h
  | some o =>
   rw[ho] at h
   obtain⟨e,he,hb⟩:=Array.any_eq_true'.1 h
   simp only[Bool.and_eq_true,Bool.or_eq_true,beq_iff_eq] at hb
   have hm:=hcl i hi o ho e he hb.1
   rcases hb.2 with h1|h1
   ·rw[<-h1];exact hm
   exact ih e.on k hm h1
theorem comesAfter_ready {ops:Array Oper} {L:ZN} (hcl:∀ i∈L,∀ o,ops[i]?=some o->∀ e∈o.after,Region.binds .any e=true->e.on∈L) {i:Nat} {o:Oper} (ho:ops[i]?=some o) (hd:∀ e∈o.after,Region.binds .any e=true->e.on∈L):∀ (f k:Nat),comesAfter ops f i k=true->k∈L:=by
 intro f k h
 cases f with
 | zero=>simp[comesAfter] at h
 | succ f =>
  rw[comesAfter,ho] at h
  obtain⟨e,he,hb⟩:=Array.any_eq_true'.1 h
  simp only[Bool.and_eq_true,Bool.or_eq_true,beq_iff_eq] at hb
  have hm:=hd e he hb.1
  rcases hb.2 with h1|h1
  ·rw[<-h1];exact hm
  exact comesAfter_mem hcl f e.on k hm h1
def looksTo (ops:Array Oper) (c i:Nat):Bool:=match ops[c]? with|none=>false|some o=>o.after.any fun e=>isData e&&e.on==i
def outlasts (ops:Array Oper) (m:Nat) (Kp:ZN) (i k:Nat):Bool:=!comesAfter ops m i k&&(Kp.contains i||(List.range m).any fun c=>c != k&&!comesAfter ops m k c&&looksTo ops c i)
section
variable {P:Program} {ops:Array Oper} {Q:Exit->Act->World->Prop} {a:Act} {m:Nat} (Kp:ZN) (G:ZN->World->Prop) (E:Nat->World->World->Prop) (R:Nat->Value->World->Prop)
theorem wpAny_grow (hok:okGrow ops m=true) (hRE:∀ i k v W W',i < m->k < m->i≠k->outlasts ops m Kp i k=true->R i v W->E k W W'->R i v W')
  (hstep:∀ i o,i < m->ops[i]?=some o->∀ L vs W,i∉L->(∀ j∈L,comesAfter ops m j i=false)->G L W->(∀ e∈o.after,isData e=true->R e.on (vs e.on) W)->∀ ρ,Sees ops a m vs ρ->GivesOp P o ρ W (fun v W'=>E i W W'/\G (L++[i]) W'/\R i v W'))
  (hend:∀ L vs W,(∀ j,j < m->j∈L)->G L W->(∀ j∈Kp,j < m->R j (vs j) W)->if m=ops.size then Q .normal (acts ops a vs (List.range m)) W else wpOp P ops Q m (fun a w=>Q .normal a w) (acts ops a vs (List.range m)) W) :
  ∀ (fuel:Nat) (L:ZN) (vs:Nat->Value) (W:World) (listed:Array Bool),listed.size=ops.size->(∀ j,j < ops.size->(listed.getD j true=true ↔ j∈L))->L.Nodup->(∀ j∈L,j < m)->((List.range ops.size).filter (fun j=>!L.contains j)).length<=fuel->G L W->(∀ i∈L,∀ o,ops[i]?=some o->∀ e∈o.after,Region.binds .any e=true->e.on∈L)->(∀ j∈L,(j∈Kp\/∃ c,c < m/\c∉L/\looksTo ops c j=true)->R j (vs j) W) ->
   wpAny P .any ops Q fuel listed (acts ops a vs L) W:=by
 obtain⟨hns,hm1,hm2,hda,hspec⟩:=okGrow_spec hok
 have hperm:∀ L:ZN,L.Nodup->(∀ j∈L,j < m)->(∀ j,j < m->j∈L)->L.Perm (List.range m):=fun L h1 h2 h3 =>
  (List.perm_ext_iff_of_nodup h1 List.nodup_range).2 (fun j=>⟨fun h=>by simpa using h2 j h,fun h=>h3 j (by simpa using h)⟩)
 -- all below m are listed if none of them is ready
 have hall:∀ (L:ZN) (listed:Array Bool),listed.size=ops.size->(∀ j,j < ops.size->(listed.getD j true=true ↔ j∈L))->(∀ j∈Region.ready .any ops listed,¬ j < m)->∀ j,j < m->j∈L:=by
  intro L listed hsz hL hr j
  induction j using Nat.strongRecOn with
  | _ j ih =>
   intro hj
   by_cases hjL:j∈L
   ·exact hjL
   exfalso
   refine hr j ?_ hj
   have hjs:j < ops.size:=by omega
   rw[mem_ready]
   obtain⟨o,ho⟩:∃ o,ops[j]?=some o:=⟨ops[j],Array.getElem?_eq_getElem hjs⟩
   refine⟨?_,o,ho,fun e he hb=>?_⟩
   ·cases hx:listed.getD j true
    ·rfl
    exact absurd ((hL j hjs).1 hx) hjL
   have hlt:=((hspec j o ho).2.1 e he).1 hb
   have hm:=ih e.on hlt (by omega)
   have:=(hL e.on (by omega)).2 hm
   have hin:e.on < listed.size:=by rw[hsz];omega
   simpa [Array.getD,hin] using this
 -- what is asked when all below m are listed
 have hfin:∀ (L:ZN) (vs:Nat->Value) (W:World),L.Nodup->(∀ j∈L,j < m)->(∀ j,j < m->j∈L)->G L W->(∀ j∈L,(j∈Kp\/∃ c,c < m/\c∉L/\looksTo ops c j=true)->R j (vs j) W) ->
   if m=ops.size then Q .normal (acts ops a vs L) W else wpOp P ops Q m (fun a w=>Q .normal a w) (acts ops a vs L) W:=by
  intro L vs W hnd hLm hcov hE hR
  rw[acts_perm hda (hperm L hnd hLm hcov)]
  exact hend L vs W hcov hE (fun j hk hj=>hR j (hcov j hj) (Or.inl hk))
 intro fuel
 induction fuel with
 | zero =>
  intro L vs W listed hsz hL hnd hLm hlen hE hcl hR
  have hcov:∀ j,j < ops.size->j∈L:=fun j hj=>by
   have h0:=List.eq_nil_of_length_eq_zero (Nat.le_zero.1 hlen)
   have:j∉(List.range ops.size).filter (fun j=>!L.contains j):=by rw[h0];simp
   simpa [hj] using this
  have hmn:m=ops.size:=by
   rcases Nat.lt_or_ge m ops.size with h|h
   ·have:=hLm m (hcov m h);omega
   omega
  have hf:=hfin L vs W hnd hLm (fun j hj=>hcov j (by omega)) hE hR
  rw[if_pos hmn] at hf
  refine⟨?_,hf⟩
  rw[List.eq_nil_iff_forall_not_mem]
  intro j hj
  obtain⟨h0,o,ho,_⟩:=mem_ready.1 hj
  have:=(hL j (Array.getElem?_eq_some_iff.1 ho).1).2 (hcov j (Array.getElem?_eq_some_iff.1 ho).1)
  rw[this] at h0;cases h0
 | succ fuel ih =>
  intro L vs W listed hsz hL hnd hLm hlen hE hcl hR
  refine⟨fun hr=>?_,fun i hi=>?_⟩
  ·have hcov:=hall L listed hsz hL (by rw[hr];simp)
   have hf:=hfin L vs W hnd hLm hcov hE hR
   by_cases hmn:m=ops.size
   ·rw[if_pos hmn] at hf;exact hf
   exfalso
   have hms:m < ops.size:=by omega
   have:m∈Region.ready .any ops listed:=by
    rw[mem_ready]
    obtain⟨o,ho⟩:∃ o,ops[m]?=some o:=⟨ops[m],Array.getElem?_eq_getElem hms⟩
    refine⟨?_,o,ho,fun e he hb=>?_⟩
    ·cases hx:listed.getD m true
     ·rfl
     have:=hLm m ((hL m hms).1 hx);omega
    have hlt:=((hspec m o ho).2.1 e he).1 hb
    have:=(hL e.on (by omega)).2 (hcov e.on hlt)
    have hin:e.on < listed.size:=by rw[hsz];omega
    simpa [Array.getD,hin] using this
   rw[hr] at this
   simp at this
  obtain⟨h0,o,ho,hdep⟩:=mem_ready.1 hi
  have his:i < ops.size:=(Array.getElem?_eq_some_iff.1 ho).1
  have hiL:i∉L:=fun h=>by rw[(hL i his).2 h] at h0;cases h0
  have hdepL:∀ e∈o.after,Region.binds .any e=true->e.on∈L:=fun e he hb=>by
   have h1:=hdep e he hb
   have hlt:=((hspec i o ho).2.1 e he).1 hb
   have hin:e.on < listed.size:=by rw[hsz];omega
   exact(hL e.on (by omega)).1 (by simpa [Array.getD,hin] using h1)
  have hlist:∀ j,j < ops.size->((listed.setIfInBounds i true).getD j true=true ↔ j∈L++[i]):=fun j hj=>by
   by_cases hij:i=j
   ·subst hij;simp[hsz,his]
   rw[getD_set_ne true hij,hL j hj];simp;intro e;exact absurd e.symm hij
  by_cases him:i < m
  ·-- one of the operations that make memory
   have hnc:∀ j∈L,comesAfter ops m j i=false:=fun j hj=>by
    cases hx:comesAfter ops m j i
    ·rfl
    exact absurd (comesAfter_mem hcl m j i hj hx) hiL
   have hg:=hstep i o him ho L vs W hiL hnc hE (fun e he hb=>hR _ (hdepL e he (((hspec i o ho).2.1 e he).2 hb)) (Or.inr ⟨i,him,hiL,by unfold looksTo;rw[ho];exact Array.any_eq_true'.2 ⟨e,he,by simp[hb]⟩⟩)) _ (sees_acts hda a m vs)
   have hex:execOp (acts ops a vs L).eval o=execOp (acts ops a vs (List.range m)).eval o:=by
    refine execOp_congr o (Region.noSelect_spec hns i o · · ho) (fun x hx=>?_)
    cases x with
    | tmp t =>
     have hlook:t∈o.looksAt ops:=List.mem_append_left _ (List.mem_filterMap.2 ⟨.tmp t,by simpa using hx,rfl⟩)
     by_cases hex:∃ j,j < m/\dstAt ops j=some t
     ·obtain⟨j,hjm,hj⟩:=hex
      obtain⟨e,he,hb,rfl⟩:=(hspec i o ho).2.2.1 him j t hjm hj hlook
      have hjL:=hdepL e he hb
      rw[acts_eval_in hda hjL hj,acts_eval_in hda (by simpa using hLm _ hjL) hj]
     have h1:∀ j,j < m->dstAt ops j≠some t:=fun j hjm hj=>hex ⟨j,hjm,hj⟩
     rw[acts_eval_out (fun j hjL=>h1 j (hLm j hjL)),acts_eval_out (fun j hjr=>h1 j (by simpa using hjr))]
    | const v=>rfl
    | global g=>rfl
    | func f=>rfl
   unfold wpOp
   simp only[ho]
   rw[if_pos (by unfold Region.wanted;rw[(hspec i o ho).1 him])]
   left
   refine Oper.wp_mono ?_ (hg.wp hex)
   rintro a' W' ⟨v,rfl,hEW,hE',hRv⟩
   have e1:(acts ops a vs L).put o.dst v=acts ops a (upd vs i v) (L++[i]):=by
    rw[acts_snoc,acts_congr (vs:=upd vs i v) (vs':=vs) (fun j hj=>by unfold upd;rw[if_neg (fun e=>hiL (by rw[<-e];exact hj))])]
    simp[upd,dstAt,ho]
   rw[e1]
   refine ih (L++[i]) (upd vs i v) W' _ (by simpa using hsz) hlist ?_ ?_ ?_ hE' ?_ ?_
   ·rw[List.nodup_append]
    exact⟨hnd,by simp,fun x hx y hy e=>by simp at hy;subst hy;subst e;exact hiL hx⟩
   ·intro j hj
    rcases List.mem_append.1 hj with h|h
    ·exact hLm j h
    simp at h;omega
   ·have h1:(List.range ops.size).filter (fun j=>!(L++[i]).contains j)=((List.range ops.size).filter (fun j=>!L.contains j)).filter (fun j=>j != i):=by
     rw[List.filter_filter]
     congr 1
     funext j
     simp only[List.contains_append,Bool.not_or]
     rw[Bool.and_comm]
     congr 1
     rw[Bool.eq_iff_iff];simp[bne]
    have h2:(((List.range ops.size).filter (fun j=>!L.contains j)).filter (fun j=>j != i)).length < ((List.range ops.size).filter (fun j=>!L.contains j)).length:=by
     rw[List.length_filter_lt_length_iff_exists]
     exact⟨i,by simp[his,hiL],by simp⟩
    rw[h1];omega
   ·intro j hj o' ho' e he hb
    rcases List.mem_append.1 hj with h|h
    ·exact List.mem_append_left _ (hcl j h o' ho' e he hb)
    simp at h;subst h
    rw[ho] at ho'
    cases ho'
    exact List.mem_append_left _ (hdepL e he hb)
   intro j hj hlive
   rcases List.mem_append.1 hj with h|h
   ·have:upd vs i v j=vs j:=by unfold upd;rw[if_neg (fun e=>hiL (by rw[<-e];exact h))]
    rw[this]
    have hlive':j∈Kp\/∃ c,c < m/\c∉L/\looksTo ops c j=true:=hlive.imp id (fun ⟨c,h1,h2,h3⟩=>⟨c,h1,fun hc=>h2 (List.mem_append_left _ hc),h3⟩)
    refine hRE j i _ W W' (hLm j h) him (fun e=>hiL (e ▸ h)) ?_ (hR j h hlive') hEW
    unfold outlasts
    rw[Bool.and_eq_true,Bool.not_eq_true',Bool.or_eq_true]
    refine⟨?_,?_⟩
    ·cases hx:comesAfter ops m j i
     ·rfl
     exact absurd (comesAfter_mem hcl m j i h hx) hiL
    rcases hlive with hk|⟨c,h1,h2,h3⟩
    ·exact Or.inl (List.contains_iff_mem.2 hk)
    refine Or.inr (List.any_eq_true.2 ⟨c,by simpa using h1,?_⟩)
    rw[h3,Bool.and_true,Bool.and_eq_true,bne_iff_ne,Bool.not_eq_true']
    refine⟨fun e=>by subst e;exact h2 (by simp),?_⟩
    cases hx:comesAfter ops m i c
    ·rfl
    exact absurd (List.mem_append_left _ (comesAfter_ready hcl ho hdepL m c hx)) h2
   simp at h;subst h;simpa [upd] using hRv
  -- the last one
  obtain rfl:i=m:=by omega
  have hcov:∀ j,j < i->j∈L:=fun j hj=>by
   obtain⟨e,he,hb,rfl⟩:=(hspec i o ho).2.2.2 rfl j hj
   exact hdepL e he hb
  have hf:=hfin L vs W hnd hLm hcov hE hR
  rw[if_neg (by omega)] at hf
  refine wpOp_mono (fun a' W' hq=>?_) hf
  refine wpAny_done ?_ hq fuel
  rw[List.eq_nil_iff_forall_not_mem]
  intro j hj
  obtain⟨h0',o',ho',_⟩:=mem_ready.1 hj
  have hjs:=(Array.getElem?_eq_some_iff.1 ho').1
  have:j∈L++[i]:=by
   by_cases hji:j < i
   ·exact List.mem_append_left _ (hcov j hji)
   have:j=i:=by omega
   simp[this]
  rw[(hlist j hjs).2 this] at h0';cases h0'
theorem wp_region_growL {id:Nat} {w:World} (hm:P.follows .mixedOrders=true) (hok:okGrow ops m=true) (hG:G [] w.drew) (hRE:∀ i k v W W',i < m->k < m->i≠k->outlasts ops m Kp i k=true->R i v W->E k W W'->R i v W')
  (hstep:∀ i o,i < m->ops[i]?=some o->∀ L vs W,i∉L->(∀ j∈L,comesAfter ops m j i=false)->G L W->(∀ e∈o.after,isData e=true->R e.on (vs e.on) W)->∀ ρ,Sees ops a m vs ρ->GivesOp P o ρ W (fun v W'=>E i W W'/\G (L++[i]) W'/\R i v W'))
  (hend:∀ L vs W,(∀ j,j < m->j∈L)->G L W->(∀ j∈Kp,j < m->R j (vs j) W)->if m=ops.size then Q .normal (acts ops a vs (List.range m)) W else wpOp P ops Q m (fun a w=>Q .normal a w) (acts ops a vs (List.range m)) W) :
  (Code.region id ops true).wp P Q a w:=by
 refine wp_region_any hm ?_
 refine wpAny_grow Kp G E R hok hRE hstep hend ops.size [] (fun _=>undef) _ _ (by simp) (fun j hj=>?_) List.nodup_nil (fun j hj=>by simp at hj) ?_ hG (fun j hj=>by simp at hj) (fun j hj=>by simp at hj)
 ·simp[hj]
 exact Nat.le_trans (List.length_filter_le _ _) (by simp)
end
section
variable {P:Program} {ops:Array Oper} {Q:Exit->Act->World->Prop} {a:Act} {m:Nat} (Kp:ZN) (G:World->Prop) (E:Nat->World->World->Prop) (R:Nat->Value->World->Prop)
theorem wp_region_grow {id:Nat} {w:World} (hm:P.follows .mixedOrders=true) (hok:okGrow ops m=true) (hG:G w.drew) (hRE:∀ i k v W W',i < m->k < m->i≠k->outlasts ops m Kp i k=true->R i v W->E k W W'->R i v W')
  (hstep:∀ i o,i < m->ops[i]?=some o->∀ vs W,G W->(∀ e∈o.after,isData e=true->R e.on (vs e.on) W)->∀ ρ,Sees ops a m vs ρ->GivesOp P o ρ W (fun v W'=>E i W W'/\G W'/\R i v W'))
  (hend:∀ vs W,G W->(∀ j∈Kp,j < m->R j (vs j) W)->if m=ops.size then Q .normal (acts ops a vs (List.range m)) W else wpOp P ops Q m (fun a w=>Q .normal a w) (acts ops a vs (List.range m)) W) :
  (Code.region id ops true).wp P Q a w :=
 wp_region_growL Kp (fun _ W=>G W) E R hm hok hG hRE (fun i o hi ho _ vs W _ _=>hstep i o hi ho vs W) (fun _ vs W _=>hend vs W)
end
theorem Sees.i {ops : Array Oper} {a : Act} {m : Nat} {vs : Nat -> Value} {ρ : Operand -> Value} (h : Sees ops a m vs ρ) (j t : Nat) (h1 : j < m := by omega) (h2 : dstAt ops j = some t := by rfl) (h3 : Nat.ble (t + 1) a.tmps.size = true := by rfl) : ρ (.tmp t) = vs j := h.ins j t h1 h2 (Nat.le_of_ble_eq_true h3)
end Go.Proofs.YtpkljcgihobaiaaGreatDoor
