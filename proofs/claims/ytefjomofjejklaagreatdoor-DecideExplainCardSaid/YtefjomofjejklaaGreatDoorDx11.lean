/-
  Texts of the claim, joined: Ord3, Ord4, Ord6, Ord5, Awk, Defd, GrowGD.
-/
import Derived.Test.YtefjomofjejklaaGreatDoorDx10
namespace Go.Proofs.YtefjomofjejklaaGreatDoor
set_option maxRecDepth 100000
set_option maxHeartbeats 32000000
open Go.RowKit Go.Maps
def Cl.dfn (c:Cl):zO:=⟨c.kind==1,c.name,lQ (jo c.cond)⟩
def L6 (w:World) (l:ZI) (a:OA) (n c:Nat):Prop :=
 n=l.length/\n<=c/\rP a c/\∀i (h:i<l.length),∃b off,a=some ⟨b,off,none⟩/\w.cell? ⟨b,off+i,none⟩=some (.int .i64 l[i])
theorem L6.mono {w w':World} {l:ZI} {a:OA} {n c:Nat} (h:L6 w l a n c) (he:Sub w w'):L6 w' l a n c :=
 ⟨h.1,h.2.1,h.2.2.1,fun i hi=>by obtain⟨b,off,h1,h2⟩:=h.2.2.2 i hi;exact⟨b,off,h1,he _ _ h2⟩⟩
def ints (o:ZN):ZI:=o.map fun (i:Nat)=>(i:Int)
def aRk (l:List zO) (w:World) (e:Ending) (w':World):Prop:=Ext w w' /\
 ((∃o a c,ad8 l o/\e=.returned (.tuple #[.slice a o.length c,.int .i64 0])/\L6 w' (ints o) a o.length c)\/(∃o,SH l o []/\o.length<countOf l/\e=.returned (.tuple #[.slice none 0 0,.int .i64 10])))
theorem XV {l:List zO} {k:Nat} (hk:k<l.length) (s:BA):firstAt (l.take (k+1)) s=match firstAt (l.take k) s with|some d=>some d|none=>if l[k].is=true/\l[k].name=s then some k else none:=by
 unfold firstAt;rw[aU hk,List.findIdx?_append];cases h:(l.take k).findIdx? fun d=>d.is&&decide (d.name=s) with
 | some d=>simp
 | none =>
  simp only[List.findIdx?_cons,List.findIdx?_nil,List.length_take];by_cases hc:l[k].is=true/\l[k].name=s
  ·simp[hc];omega
  rw[dh hc];have:(l[k].is&&decide (l[k].name=s))=false:=by
   simp only[Bool.and_eq_false_iff,bZ];by_cases h1:l[k].is=true
   ·exact Or.inr fun h2=>hc ⟨h1,h2⟩
   exact Or.inl (by simpa using h1)
  simp[this]
theorem Qq:Tryz.prog.underlying 136=some (.map 9 3):=by kernel_rfl
theorem aqz:Tryz.prog.underlying 173=some (.map 9 26):=by kernel_rfl
theorem ax6:Tryz.prog.underlying 172=some (.map 3 174):=by kernel_rfl
theorem aNZ:Tryz.prog.underlying 3=some (.int .i64):=by kernel_rfl
theorem ak0:Keyed Tryz.prog 3:=int_keyed aNZ
theorem OV (w:World):(zeroValue 3).run Tryz.prog w=.ok (.int .i64 0) w:=by kernel_rfl
theorem ati (w:World):(zeroValue 26).run Tryz.prog w=.ok (.slice none 0 0) w:=by kernel_rfl
theorem aAN (w:World):(zeroValue 174).run Tryz.prog w=.ok (.map none) w:=by kernel_rfl
theorem oI {s:BA} (h:s.size<=1000000000000000):keyOf Tryz.prog 9 (.string s)=some (.string s.data.toList):=Go.WideMaps.keyOf_string_mk aFH (by unfold maxLen;omega)
theorem azl {i:Nat} (h:i<=1000000000000000):keyOf Tryz.prog 3 (.int .i64 i)=some (.int .i64 i):=keyOf_int_mk aNZ (by simp[Lit.wf,IntKind.min,IntKind.max,IntKind.bits,IntKind.signed];omega)
theorem ahX {l:List zO} {s:BA} (h:firstAt l s=none):oh (ER l) (.string s.data.toList)=none:=by rw[tV,ER,h];rfl
theorem aaO {l:List zO} {s:BA} {d:Nat} (h:firstAt l s=some d):oh (ER l) (.string s.data.toList)=some (.int .i64 d):=by rw[tV,ER,h];rfl
theorem av7 {l:List zO} {k:Nat} (hk:k<l.length) (hd:l[k].is=true) (hf:firstAt (l.take k) l[k].name=none) (x:Lit):Y9 (oh (ER (l.take k))) (.string l[k].name.data.toList) (some (.int .i64 k)) x=oh (ER (l.take (k+1))) x:=by
 rw[Jm];cases x<;>try rfl
 rename_i bs
 simp only[oh];by_cases e:(⟨bs.toArray⟩:BA)=l[k].name
 ·rw[e,CO,ER,XV hk,hf];simp[hd]
 rw[yj _ _ e,ER,ER,XV hk];cases firstAt (l.take k) ⟨bs.toArray⟩ with
 | some d=>rfl
 | none =>
  have:¬(l[k].is=true/\l[k].name=⟨bs.toArray⟩):=fun h=>e h.2.symm
  rw[dh this]
theorem av8 {l:List zO} {k:Nat} (hk:k<l.length) (hd:l[k].is=false\/firstAt (l.take k) l[k].name≠none) (x:Lit):oh (ER (l.take k)) x=oh (ER (l.take (k+1))) x:=by
 cases x<;>try rfl
 rename_i bs
 simp only[oh,ER];rw[XV hk];cases h:firstAt (l.take k) ⟨bs.toArray⟩ with
 | some d=>rfl
 | none =>
  have:¬(l[k].is=true/\l[k].name=⟨bs.toArray⟩):=by
   rintro⟨h1,h2⟩;rcases hd with h3|h3
   ·rw[h3] at h1;cases h1
   rw[h2] at h3;exact h3 h
  rw[dh this]
def St0 (bf bu bm bp:Nat):St where
 ρ:=fun k=>if k=bf then .first else if k=bp then .pile else if k=bm then .miss else if k=bu then .users else .none
 mb:=fun _=>0
 uv:=fun _=>none
 U:=fun _=>[]
 D:=fun _=>False
 S:=fun _=>False
 M:=fun _ _=>False
 pv:=.slice none 0 0
 R:=[]
 vo:=.slice none 0 0
 O:=[]
theorem OB.start {w wr:World} {l:List zO} {bf t:Nat} (h:MapAt wr 9 bf t (oh (ER l))) (hx:Ext w wr) (hb:w.heap.size<=bf) :
  OB w l bf (wr.heap.size+2) (wr.heap.size+1) wr.heap.size t (St0 bf (wr.heap.size+2) (wr.heap.size+1) wr.heap.size) (((wr.alloc (.cells #[.slice none 0 0] 171)).alloc (.map #[] 0)).alloc (.map #[] 0)):=by
 have hlt:=h.lt;have hsz:=hx.size;have x1:Ext wr (wr.alloc (.cells #[.slice none 0 0] 171)):=(Ext.refl _).alloc _;have x2:=x1.alloc (.map #[] 0);have x3:=x2.alloc (.map #[] 0);have z1:(wr.alloc (.cells #[.slice none 0 0] 171)).heap.size=wr.heap.size+1:=by simp
 have z2:((wr.alloc (.cells #[.slice none 0 0] 171)).alloc (.map #[] 0)).heap.size=wr.heap.size+2:=by simp
 refine { ext:=hx.trans x3,fresh:=?_,old:=?_,rf:=?_,hf:=h.ext x3,ru:=?_,hu:=?_,rows:=?_,aLr:=fun _ _=>rfl,rm:=?_,hm:=?_,dom:=fun _ h=>h,sets:=fun _ h=>h.elim,rp:=?_,hp:=?_,rpv:=?_,hv:=World.ownsRow_nil _ _ _ _,rv:=?_ }
 ·intro k hk;simp at hk;simp only[St0];rw[dh (by omega),dh (by omega),dh (by omega),dh (by omega)]
 ·intro k hk;simp only[St0];rw[dh (by omega),dh (by omega),dh (by omega),dh (by omega)]
 ·simp[St0]
 ·simp only[St0];rw[dh (by omega),dh (by omega),dh (by omega),dw trivial]
 ·have:=MapAt.made ((wr.alloc (.cells #[.slice none 0 0] 171)).alloc (.map #[] 0)) 9;rw[z2] at this;exact(this.more (Nat.zero_le t)).congr fun x=>by cases x<;>rfl
 ·intro x v hv;cases hv
 ·simp only[St0];rw[dh (by omega),dh (by omega),dw trivial]
 ·have:=MapAt.made (wr.alloc (.cells #[.slice none 0 0] 171)) 3;rw[z1] at this;refine((this.more (Nat.zero_le t)).ext ((Ext.refl _).alloc _)).congr fun x=>?_
  cases x<;>try rfl
  rename_i q z
  cases q<;>try rfl
  simp[aiu,Nl,St0]
 ·simp only[St0];rw[dh (by omega),dw trivial]
 ·have:=G7.fresh wr;refine⟨by omega,?_,World.ownsRow_nil _ _ _ _,by simp[St0,Value.ownBlock]⟩;exact dJ (dJ (dG wr _))
 ·intro g hg;simp[St0,Value.ownBlock] at hg
 intro g hg;simp[St0,Value.ownBlock] at hg
theorem ji.fH {w w':World} {l:ZB} {a:OA} {n c:Nat} {N:ZN} (h:ji w l a n c) (hc:dO N w w') (hN:∀b off,a=some ⟨b,off,none⟩->b∉N):ji w' l a n c :=
 ⟨h.1,h.2.1,h.2.2.1,fun i hi=>by
  obtain⟨b,off,h1,h2⟩:=h.2.2.2 i hi;refine⟨b,off,h1,?_⟩;have hb:=block_lt h2;unfold World.cell? at h2 ⊢;rw[hc.block b hb (hN b off h1)];exact h2⟩
theorem auy {ρ:Nat->WJ} {v v':Value} {r:WJ} {n k:Nat} (hk:ρ k=.none) (hkn:k<n) (hr:r≠.none) (hv:∀g,v.ownBlock=some g->ρ g=r) (hw:∀g,v'.ownBlock=some g->v.ownBlock=some g\/n<=g):DN ρ v' r k=.none:=by
 rw[zC,hk];intro g hg e;subst e;rcases hw k hg with h|h
 ·exact hr ((hv k h).symm.trans hk)
 omega
open Classical in
noncomputable def UL (l:List zO) (k:Nat) (x:BA):ZN:=if (firstAt l x).isSome then (List.range k).filter fun i=>ku l i&&(lM l i).any fun y=>decide (y=x) else []
def RL (l:List zO) (k:Nat):ZN:=(List.range k).filter fun i=>ku l i&&(qV l [] i).isEmpty
def Ui (l:List zO) (k:Nat):Nat:=((List.range k).filter (ku l)).length
def QS (l:ZN):ZI:=l.map fun (i:Nat)=>(i:Int)
structure Ph2 (l:List zO) (k:Nat) (s:St):Prop where
 D:∀i,s.D i ↔ (i<k/\ku l i=true)
 S:∀i,s.S i ↔ (i<k/\ku l i=true)
 M:∀i,s.S i->∀x,s.M i x ↔ x∈qV l [] i
 U:∀x,s.U x=UL l k x
 R:s.R.Perm (QS (RL l k))
 vo:s.vo=.slice none 0 0
 O:s.O=[]
theorem Ph2.start (l:List zO) (bf bu bm bp:Nat):Ph2 l 0 (St0 bf bu bm bp) where
 D i:=by simp[St0]
 S i:=by simp[St0]
 M i h:=h.elim
 U x:=by simp[St0,UL]
 R:=by simp[St0,RL,QS]
 vo:=rfl
 O:=rfl
structure Ph3 (l:List zO) (k j:Nat) (s:St):Prop where
 D:∀i,s.D i ↔ (i<k/\ku l i=true)
 S:∀i,s.S i ↔ ((i<k/\ku l i=true)\/i=k)
 M:∀i,i<k->s.S i->∀x,s.M i x ↔ x∈qV l [] i
 Mk:∀x,s.M k x ↔ (x∈(lM l k).take j/\(firstAt l x).isSome=true)
 U:∀x,s.U x=if (firstAt l x).isSome=true/\x∈(lM l k).take j then UL l k x++[k] else UL l k x
 R:s.R.Perm (QS (RL l k))
 vo:s.vo=.slice none 0 0
 O:s.O=[]
theorem Ph2.skip {l:List zO} {k:Nat} {s:St} (h:Ph2 l k s) (hd:ku l k=false):Ph2 l (k+1) s/\Ui l (k+1)=Ui l k:=by
 have hi:∀i,(i<k+1/\ku l i=true) ↔ (i<k/\ku l i=true):=fun i=>by
  constructor
  ·rintro⟨h1,h2⟩;refine⟨?_,h2⟩;rcases cO i k with h'|h'
   ·exact h'
   obtain rfl:i=k:=by omega
   rw[hd] at h2;cases h2
  rintro⟨h1,h2⟩;exact⟨by omega,h2⟩
 refine⟨{ D:=fun i=>(h.D i).trans (hi i).symm,S:=fun i=>(h.S i).trans (hi i).symm,M:=h.M,U:=fun x=>?_,R:=?_,vo:=h.vo,O:=h.O },?_⟩
 ·rw[h.U];unfold UL;rw[List.range_succ,List.filter_append];simp[hd]
 ·refine h.R.trans (List.Perm.of_eq ?_);unfold RL;rw[List.range_succ,List.filter_append];simp[hd]
 unfold Ui;rw[List.range_succ,List.filter_append];simp[hd]
theorem Ph2.enter {l:List zO} {k:Nat} {s:St} (h:Ph2 l k s) (b:Nat):Ph3 l k 0 (s.adv k b) where
 D i:=h.D i
 S i:=by
  show (i=k\/s.S i) ↔ _
  rw[h.S];exact Or.comm
 M i hi hS x:=by
  show upN s.M k (fun _=>False) i x ↔ _
  rw[yt _ _ (by omega)];refine h.M i ?_ x;rcases hS with e|e
  ·omega
  exact e
 Mk x:=by
  show upN s.M k (fun _=>False) k x ↔ _
  rw[Ep];simp
 U x:=by
  show s.U x=_
  rw[h.U];simp
 R:=h.R
 vo:=h.vo
 O:=h.O
theorem Dq {α:Type} {l:List α} {j:Nat} (hj:j<l.length) (x:α):x∈l.take (j+1) ↔ x∈l.take j\/x=l[j]:=by
 rw[aU hj,aT,aK]
theorem Ph3.skip {l:List zO} {k j:Nat} {s:St} (h:Ph3 l k j s) (hj:j<(lM l k).length) (hf:firstAt l (lM l k)[j]=none):Ph3 l k (j+1) s:=by
 have hx:∀x,((firstAt l x).isSome=true/\x∈(lM l k).take (j+1)) ↔ ((firstAt l x).isSome=true/\x∈(lM l k).take j):=fun x=>by
  rw[Dq hj];constructor
  ·rintro⟨h1,h2|rfl⟩
   ·exact⟨h1,h2⟩
   rw[hf] at h1;cases h1
  rintro⟨h1,h2⟩;exact⟨h1,Or.inl h2⟩
 exact { h with
  Mk:=fun x=>by rw[h.Mk,and_comm,<-hx x,and_comm]
  U:=fun x=>by
   rw[h.U];by_cases hc:(firstAt l x).isSome=true/\x∈(lM l k).take j
   ·rw[dw hc,dw ((hx x).2 hc)]
   rw[dh hc,dh fun h'=>hc ((hx x).1 h')] }
theorem Ph3.step {l:List zO} {k j:Nat} {s:St} (h:Ph3 l k j s) (hj:j<(lM l k).length) (hf:(firstAt l (lM l k)[j]).isSome=true) (hnd:(lM l k).Nodup) (v:Value) :
  Ph3 l k (j+1) ((s.amZ k fun x=>x=(lM l k)[j]\/s.M k x).at7 (lM l k)[j] v (s.U (lM l k)[j]++[k])):=by
 have hnot:(lM l k)[j]∉(lM l k).take j:=by
  intro hm;obtain⟨q,hq,e⟩:=bD.1 hm;have hq':q<j:=by simp at hq;omega
  rw[List.getElem_take] at e;have:=(List.pairwise_iff_getElem.1 hnd) q j (by omega) hj hq';exact this e
 refine { D:=h.D,S:=h.S,M:=fun i hi hS x=>?_,Mk:=fun x=>?_,U:=fun x=>?_,R:=h.R,vo:=h.vo,O:=h.O }
 ·show upN s.M k _ i x ↔ _
  rw[yt _ _ (by omega)];exact h.M i hi hS x
 ·show upN s.M k _ k x ↔ _
  rw[Ep,Dq hj,h.Mk];constructor
  ·rintro(rfl|⟨h1,h2⟩)
   ·exact⟨Or.inr rfl,hf⟩
   exact⟨Or.inl h1,h2⟩
  rintro⟨h1|rfl,h2⟩
  ·exact Or.inr ⟨h1,h2⟩
  exact Or.inl rfl
 show upS s.U (lM l k)[j] (s.U (lM l k)[j]++[k]) x=_
 by_cases e:x=(lM l k)[j]
 ·rw[e,CO,dw ⟨hf,(Dq hj _).2 (Or.inr rfl)⟩,h.U,dh fun h'=>hnot h'.2]
 rw[yj _ _ e,h.U];have hx:((firstAt l x).isSome=true/\x∈(lM l k).take (j+1)) ↔ ((firstAt l x).isSome=true/\x∈(lM l k).take j):=by
  rw[Dq hj];exact⟨fun ⟨h1,h2⟩=>⟨h1,h2.resolve_right e⟩,fun ⟨h1,h2⟩=>⟨h1,Or.inl h2⟩⟩
 by_cases hc:(firstAt l x).isSome=true/\x∈(lM l k).take j
 ·rw[dw hc,dw (hx.2 hc)]
 rw[dh hc,dh fun h'=>hc (hx.1 h')]
theorem Lj {l:List zO} {x:BA}:(firstAt l x).isSome=true ↔ ∃d,firstAt l x=some d:=by
 cases firstAt l x<;>simp
theorem aBP {l:List zO} {k:Nat} (hd:ku l k=true) (x:BA):UL l (k+1) x=if (firstAt l x).isSome=true/\x∈lM l k then UL l k x++[k] else UL l k x:=by
 unfold UL;by_cases hs:(firstAt l x).isSome=true
 ·simp only[hs,if_true,true_and];rw[List.range_succ,List.filter_append];by_cases hm:x∈lM l k
  ·rw[dw hm]
   congr 1
   have:((lM l k).any fun y=>decide (y=x))=true:=List.any_eq_true.2 ⟨x,hm,by simp⟩;simp[hd,this]
  rw[dh hm];have:((lM l k).any fun y=>decide (y=x))=false:=by
   rw[List.any_eq_false];intro y hy;simp only[aN];intro e;exact hm (e ▸ hy)
  simp[hd,this]
 simp[hs]
theorem Ph3.leave {l:List zO} {k:Nat} {s:St} (h:Ph3 l k (lM l k).length s) (hd:ku l k=true) (he:qV l [] k≠[]):Ph2 l (k+1) (s.aCr k)/\Ui l (k+1)=Ui l k+1:=by
 have hi:∀i,(i<k+1/\ku l i=true) ↔ (i=k\/(i<k/\ku l i=true)):=fun i=>⟨fun ⟨h1,h2⟩=>by
  rcases cO i k with h'|h'
  ·exact Or.inr ⟨h',h2⟩
  ·exact Or.inl (by omega),fun h'=>by
  rcases h' with rfl|⟨h1,h2⟩
  ·exact⟨by omega,hd⟩
  exact⟨by omega,h2⟩⟩
 refine⟨{ D:=fun i=>?_,S:=fun i=>?_,M:=fun i hS x=>?_,U:=fun x=>?_,R:=?_,vo:=h.vo,O:=h.O },?_⟩
 ·show (i=k\/s.D i) ↔ _
  rw[h.D,hi]
 ·show s.S i ↔ _
  rw[h.S,hi,Or.comm]
 ·show s.M i x ↔ _
  by_cases e:i=k
  ·subst e;rw[h.Mk,List.take_length,CX];constructor
   ·rintro⟨h1,h2⟩;obtain⟨d,hd⟩:=Lj.1 h2;exact⟨h1,d,hd,by simp⟩
   rintro⟨h1,d,h2,_⟩;exact⟨h1,Lj.2 ⟨d,h2⟩⟩
  refine h.M i ?_ hS x;have:=(h.S i).1 hS;omega
 ·show s.U x=_
  rw[h.U,List.take_length,aBP hd]
 ·refine h.R.trans (List.Perm.of_eq ?_);unfold RL;rw[List.range_succ,List.filter_append];simp[hd,he]
 unfold Ui;rw[List.range_succ,List.filter_append];simp[hd]
theorem Ph3.leave0 {l:List zO} {k:Nat} {s:St} (h:Ph3 l k (lM l k).length s) (hd:ku l k=true) (he:qV l [] k=[]) {pv:Value} {R:ZI} (hR:R.Perm (s.R++[(k:Int)])):Ph2 l (k+1) ((s.aCr k).agj pv R)/\Ui l (k+1)=Ui l k+1:=by
 have hi:∀i,(i<k+1/\ku l i=true) ↔ (i=k\/(i<k/\ku l i=true)):=fun i=>⟨fun ⟨h1,h2⟩=>by
  rcases cO i k with h'|h'
  ·exact Or.inr ⟨h',h2⟩
  ·exact Or.inl (by omega),fun h'=>by
  rcases h' with rfl|⟨h1,h2⟩
  ·exact⟨by omega,hd⟩
  exact⟨by omega,h2⟩⟩
 refine⟨{ D:=fun i=>?_,S:=fun i=>?_,M:=fun i hS x=>?_,U:=fun x=>?_,R:=?_,vo:=h.vo,O:=h.O },?_⟩
 ·show (i=k\/s.D i) ↔ _
  rw[h.D,hi]
 ·show s.S i ↔ _
  rw[h.S,hi,Or.comm]
 ·show s.M i x ↔ _
  by_cases e:i=k
  ·subst e;rw[h.Mk,List.take_length,CX];constructor
   ·rintro⟨h1,h2⟩;obtain⟨d,hd⟩:=Lj.1 h2;exact⟨h1,d,hd,by simp⟩
   rintro⟨h1,d,h2,_⟩;exact⟨h1,Lj.2 ⟨d,h2⟩⟩
  refine h.M i ?_ hS x;have:=(h.S i).1 hS;omega
 ·show s.U x=_
  rw[h.U,List.take_length,aBP hd]
 ·refine hR.trans ?_;have e:QS (RL l (k+1))=QS (RL l k)++[(k:Int)]:=by
   unfold RL QS;rw[List.range_succ,List.filter_append,List.map_append];simp[hd,he]
  rw[e];exact List.Perm.append_right _ h.R
 unfold Ui;rw[List.range_succ,List.filter_append];simp[hd]
theorem MH (l:ZB):(lQ l).length<=l.length:=by have:=afk l [];simpa[lQ] using this
mutual
theorem abz:(e:Ex)->e.fits->∀x∈jo e,x.size<=1000000000000000
 | .mk op name words lo hi args,h,x,hx=>by
  obtain⟨h1,h2⟩:=TW h;rw[jo,aT] at hx;rcases hx with hx|hx
  ·split at hx
   ·simp at hx;subst hx;exact h1
   simp at hx
  exact akS args h2 x hx
theorem akS:(l:List Ex)->(∀y∈l,y.fits)->∀x∈kH l,x.size<=1000000000000000
 | [],_,x,hx=>by rw[kH] at hx;simp at hx
 | e::r,h,x,hx=>by
  rw[kH,aT] at hx;rcases hx with hx|hx
  ·exact abz e (h e (by simp)) x hx
  exact akS r (fun y hy=>h y (by simp[hy])) x hx
end
def tb (k:Nat):Nat:=1000+k*1000000
theorem aqF (k:Nat):tb k+1000000<=tb (k+1):=by unfold tb;omega
theorem aN1 {k:Nat} (h:k<=1000):tb k<=2000000000:=by unfold tb;omega
theorem aK9:1000<=tb 0:=by unfold tb;omega
theorem cnt_le (l:List zO) (k:Nat):Ui l k<=k:=by
 unfold Ui;have:=List.length_filter_le (ku l) (List.range k);simpa using this
theorem aOq (l:List zO) (k:Nat) (x:BA):(UL l k x).length<=k:=by
 unfold UL;split
 ·have:=List.length_filter_le (fun i=>ku l i&&(lM l i).any fun y=>decide (y=x)) (List.range k);simpa using this
 simp
theorem aWf (l:List zO) (k:Nat):(RL l k).length<=k:=by
 unfold RL;have:=List.length_filter_le (fun i=>ku l i&&(qV l [] i).isEmpty) (List.range k);simpa using this
structure Ph4 (l:List zO) (s:St):Prop where
 D:∀i,s.D i ↔ ku l i=true
 S:∀i,s.S i ↔ ku l i=true
 M:∀i,ku l i=true->∀x,s.M i x ↔ x∈qV l s.O i
 U:∀x,s.U x=UL l l.length x
 inv:∃R,s.R.Perm (QS R)/\SH l s.O R
theorem Ph2.finish {l:List zO} {s:St} (h:Ph2 l l.length s):Ph4 l s where
 D i:=(h.D i).trans ⟨fun h=>h.2,fun h=>⟨pY h,h⟩⟩
 S i:=(h.S i).trans ⟨fun h=>h.2,fun h=>⟨pY h,h⟩⟩
 M i hi x:=by rw[h.O];exact h.M i ((h.S i).2 ⟨pY hi,hi⟩) x
 U:=h.U
 inv:=⟨RL l l.length,h.R,by rw[h.O];exact SH.start l⟩
theorem aDc {R:ZN} {z:Int} {ys:ZI} (h:(QS R).Perm (z::ys)):∃(i:Nat) (R':ZN),z=i/\R.Perm (i::R')/\ys.Perm (QS R'):=by
 have hz:z∈QS R:=h.mem_iff.2 (by simp);obtain⟨i,hi,rfl⟩:=List.mem_map.1 hz;refine⟨i,R.erase i,rfl,List.perm_cons_erase hi,?_⟩;have h1:(QS R).Perm (QS (i::R.erase i)):=(List.perm_cons_erase hi).map _;have h2:(QS (i::R.erase i))=(i:Int)::QS (R.erase i):=rfl;rw[h2] at h1;exact List.Perm.cons_inv (h.symm.trans h1)
theorem acN {l:List zO} {o:ZN} {i u:Nat} (hf:firstAt l (nameAt l i)=some i) (x:BA):x∈qV l (o++[i]) u ↔ (x∈qV l o u/\x≠nameAt l i):=by
 rw[CX,CX];constructor
 ·rintro⟨h1,d,h2,h3⟩;simp only[aT,aK,not_or] at h3;refine⟨⟨h1,d,h2,h3.1⟩,fun e=>?_⟩;rw[e,hf] at h2;cases h2
  exact h3.2 rfl
 rintro⟨⟨h1,d,h2,h3⟩,h4⟩;refine⟨h1,d,h2,?_⟩;simp only[aT,aK,not_or];exact⟨h3,fun e=>h4 (by rw[<-e];exact(agP h2).2.symm)⟩
structure Ph5 (l:List zO) (o:ZN) (i:Nat) (R':ZN) (uv:BA->Option Value) (vo:Value) (j:Nat) (s:St):Prop where
 D:∀i,s.D i ↔ ku l i=true
 S:∀i,s.S i ↔ ku l i=true
 M:∀u,ku l u=true->∀x,s.M u x ↔ x∈qV l (if u∈(UL l l.length (nameAt l i)).take j then o++[i] else o) u
 U:∀x,s.U x=UL l l.length x
 uv:s.uv=uv
 O:s.O=o++[i]
 vo:s.vo=vo
 R:s.R.Perm (QS (R'++((UL l l.length (nameAt l i)).take j).filter fun u=>(qV l (o++[i]) u).isEmpty))
theorem aI5 (l:List zO) (k:Nat) (x:BA):(UL l k x).Nodup:=by
 unfold UL;split
 ·exact List.nodup_range.filter _
 exact List.nodup_nil
theorem aw3 {l:List zO} {x:BA} {d:Nat} (h:firstAt l x=some d):UL l l.length x=abt l x:=by
 unfold UL abt;rw[h];rfl
theorem aI6 {l:List zO} {k:Nat} {x:BA} {u:Nat} (h:u∈UL l k x):ku l u=true/\x∈lM l u:=by
 unfold UL at h;split at h
 ·simp only[List.mem_filter,aJ,List.any_eq_true,aN,exists_eq_right] at h;exact h.2
 simp at h
theorem Ph5.start {l:List zO} {s:St} {R':ZN} {i:Nat} {R1:ZI} {pv vo:Value} (h:Ph4 l s) (hR:R1.Perm (QS R')):Ph5 l s.O i R' s.uv vo 0 ((s.agj pv R1).ayp vo (s.O++[i])) where
 D:=h.D
 S:=h.S
 M u hu x:=by
  show s.M u x ↔ _
  simpa using h.M u hu x
 U:=h.U
 uv:=rfl
 O:=rfl
 vo:=rfl
 R:=by
  show R1.Perm _
  simpa using hR
theorem au8 {α:Type} {l:List α} (h:l.Nodup) {j:Nat} (hj:j<l.length):l[j]∉l.take j:=by
 intro hm;obtain⟨q,hq,e⟩:=bD.1 hm;have hq':q<j:=by simp at hq;omega
 rw[List.getElem_take] at e;exact(List.pairwise_iff_getElem.1 h) q j (by omega) hj hq' e
theorem Ph5.del {l:List zO} {o:ZN} {i:Nat} {R':ZN} {uv:BA->Option Value} {vo:Value} {j:Nat} {s:St} (h:Ph5 l o i R' uv vo j s) (hf:firstAt l (nameAt l i)=some i) (hj:j<(UL l l.length (nameAt l i)).length)
  {u:Nat} (hu:u=(UL l l.length (nameAt l i))[j]):(∀y,(s.M u y/\y≠nameAt l i) ↔ y∈qV l (o++[i]) u)/\((qV l (o++[i]) u).isEmpty=false->Ph5 l o i R' uv vo (j+1) (s.amZ u fun y=>s.M u y/\y≠nameAt l i)) /\
  ((qV l (o++[i]) u).isEmpty=true->∀pv R1,R1.Perm (s.R++[(u:Int)])->Ph5 l o i R' uv vo (j+1) ((s.amZ u fun y=>s.M u y/\y≠nameAt l i).agj pv R1)):=by
 have hud:=aI6 (show u∈UL l l.length (nameAt l i) by rw[hu];exact aI hj);have hnt:u∉(UL l l.length (nameAt l i)).take j:=by rw[hu];exact au8 (aI5 l _ _) hj
 have key:∀y,(s.M u y/\y≠nameAt l i) ↔ y∈qV l (o++[i]) u:=fun y=>by
  rw[h.M u hud.1,dh hnt,acN hf]
 have hM:∀v,ku l v=true->∀x,(upN s.M u fun y=>s.M u y/\y≠nameAt l i) v x ↔ x∈qV l (if v∈(UL l l.length (nameAt l i)).take (j+1) then o++[i] else o) v:=by
  intro v hv x;by_cases e:v=u
  ·subst e;rw[Ep,dw ((Dq hj _).2 (Or.inr hu))];exact key x
  rw[yt _ _ e,h.M v hv];have:v∈(UL l l.length (nameAt l i)).take (j+1) ↔ v∈(UL l l.length (nameAt l i)).take j:=by
   rw[Dq hj];exact⟨fun h=>h.resolve_right (by rw[<-hu];exact e),Or.inl⟩
  by_cases hc:v∈(UL l l.length (nameAt l i)).take j
  ·rw[dw hc,dw (this.2 hc)]
  rw[dh hc,dh fun h'=>hc (this.1 h')]
 refine⟨key,fun hne=>?_,fun hem pv R1 hR1=>?_⟩
 ·refine { h with M:=hM,R:=?_ };refine h.R.trans (List.Perm.of_eq ?_);rw[aU hj,List.filter_append,<-hu];simp[hne]
 refine { h with M:=hM,R:=?_ };refine hR1.trans ?_;rw[aU hj,List.filter_append,<-hu];have e:QS (R'++(((UL l l.length (nameAt l i)).take j).filter (fun u=>(qV l (o++[i]) u).isEmpty)++[u].filter fun u=>(qV l (o++[i]) u).isEmpty))=QS (R'++((UL l l.length (nameAt l i)).take j).filter fun u=>(qV l (o++[i]) u).isEmpty)++[(u:Int)]:=by
  simp[QS,hem]
 rw[e];exact List.Perm.append_right _ h.R
theorem Ph5.finish {l:List zO} {o:ZN} {i:Nat} {R R':ZN} {uv:BA->Option Value} {vo:Value} {s:St} (h:Ph5 l o i R' uv vo (UL l l.length (nameAt l i)).length s) (hf:firstAt l (nameAt l i)=some i) (hi:SH l o R) (hR:R.Perm (i::R')):Ph4 l s where
 D:=h.D
 S:=h.S
 M u hu x:=by
  rw[h.M u hu,h.O,List.take_length];by_cases hc:u∈UL l l.length (nameAt l i)
  ·rw[dw hc]
  rw[dh hc,acN hf];refine⟨fun hx=>⟨hx,fun e=>hc ?_⟩,fun hx=>hx.1⟩;have h1:=(CX.1 hx).1;rw[e] at h1;rw[aw3 hf];unfold abt;simp only[List.mem_filter,List.mem_range,aJ,List.any_eq_true,aN,exists_eq_right];exact⟨pY hu,hu,h1⟩
 U:=h.U
 inv:=by
  refine⟨R'++freed l o i,?_,by rw[h.O];exact hi.first hR hf⟩;have:=h.R;rw[List.take_length,aw3 hf] at this;exact this
theorem Ph4.other {l:List zO} {s:St} {R R':ZN} {i:Nat} {R1:ZI} {pv vo:Value} (h:Ph4 l s) (hi:SH l s.O R) (hR:R.Perm (i::R')) (hR1:R1.Perm (QS R')) (hn:∀x,firstAt l x≠some i):Ph4 l ((s.agj pv R1).ayp vo (s.O++[i])) where
 D:=h.D
 S:=h.S
 M u hu x:=by
  show s.M u x ↔ x∈qV l (s.O++[i]) u
  rw[h.M u hu,CX,CX];constructor
  ·rintro⟨h1,d,h2,h3⟩;refine⟨h1,d,h2,?_⟩;simp only[aT,aK,not_or];exact⟨h3,fun e=>hn x (by rw[h2,e])⟩
  rintro⟨h1,d,h2,h3⟩;simp only[aT,aK,not_or] at h3;exact⟨h1,d,h2,h3.1⟩
 U:=h.U
 inv:=⟨R',hR1,hi.other hR hn⟩
theorem aMP (l:List zO):Ui l l.length=countOf l:=rfl
theorem arS {l:List zO} {i:Nat} (h:ku l i=true):∃d,firstAt l (nameAt l i)=some d/\d<=i:=by
 have hlt:=pY h;cases hf:firstAt l (nameAt l i) with
 | none =>
  unfold firstAt at hf;rw[bJ] at hf;have:=hf l[i] (aI hlt);unfold ku at h;unfold nameAt at this;rw[aZ hlt] at h this;simp[h] at this
 | some d =>
  refine⟨d,rfl,?_⟩;unfold firstAt at hf;rw[aP] at hf;obtain⟨_,_,h3⟩:=hf;rcases cO i d with h'|h'
  ·have:=h3 i h';unfold ku at h;unfold nameAt at this;rw[aZ hlt] at h this;simp[h] at this
  exact h'
def L2 (w:World) (dl:List zO) (bf bu bm bp n:Nat) (cnt i:Value) (wr:World):Prop:=∃k t s,k<=n/\i=.int .i64 k/\cnt=.int .i64 (Ui dl k)/\t<=tb k/\OB w dl bf bu bm bp t s wr/\Ph2 dl k s
def L3 (w:World) (dl:List zO) (bf bu bm bp k nb:Nat) (names:ZB) (an:OA) (m cn:Nat) (i:Value) (wr:World):Prop:=∃j t s,j<=m/\i=.int .i64 j/\t<=tb k+3*j+1/\OB w dl bf bu bm bp t s wr/\Ph3 dl k j s/\s.mb k=nb /\
 ji wr names an m cn/\∀b off,an=some ⟨b,off,none⟩->s.ρ b=.none
def L4 (w:World) (dl:List zO) (bf bu bm bp t m:Nat) (ord:Value) (wr:World):Prop:=∃s,m=countOf dl - s.O.length/\OB w dl bf bu bm bp t s wr/\ord=s.vo/\Ph4 dl s
theorem arC {w:World} {base:Nat} {e:TypeId} {o:ZN} {a:OA} {n c:Nat} (h:w.ownsRow base e 1 (.slice a n c) o.length (YG o)) (hn:n=o.length):L6 w (ints o) a n c:=by
 subst hn;rcases h.2 with ⟨hv,h0⟩|⟨g,cap,cur,hv,_,hg,hle,_,_,_⟩
 ·simp only[Value.slice.injEq] at hv;obtain⟨rfl,_,rfl⟩:=hv;have:o=[]:=aX h0;subst this;exact⟨rfl,by simp,Or.inl ⟨rfl,rfl⟩,fun i hi=>by simp[ints] at hi⟩
 simp only[Value.slice.injEq] at hv;obtain⟨rfl,_,rfl⟩:=hv;refine⟨by simp[ints],hle,Or.inr ⟨g,0,rfl⟩,fun i hi=>⟨g,0,rfl,?_⟩⟩;have hi':i<o.length:=by simpa[ints] using hi
 rw[Nat.zero_add,h.cellAt i (by omega)];simp[YG,ints,hi']
def L5 (w:World) (dl:List zO) (bf bu bm bp t:Nat) (o:ZN) (i:Nat) (R':ZN) (uv:BA->Option Value) (vo:Value) (m:Nat) (q:Value) (wr:World):Prop:=∃j s,j<=m/\q=.int .i64 j/\OB w dl bf bu bm bp t s wr/\Ph5 dl o i R' uv vo j s
theorem qh:zh 26 3 (.int .i64 0) 1 8:=⟨by kernel_rfl,by kernel_rfl,rfl,by omega⟩
theorem aoX (m:BA->Prop) (x:BA) (y:Lit):Y9 (oh (Ld m)) (.string x.data.toList) (some (.agg #[])) y=oh (Ld fun z=>z=x\/m z) y:=by
 rw[Jm];cases y<;>try rfl
 rename_i bs
 simp only[oh];by_cases e:(⟨bs.toArray⟩:BA)=x
 ·rw[e,CO];simp[Ld]
 rw[yj _ _ e];by_cases h:m ⟨bs.toArray⟩<;>simp[Ld,e,h]
theorem aG3 (m:BA->Prop) (x:BA) (y:Lit):Y9 (oh (Ld m)) (.string x.data.toList) none y=oh (Ld fun z=>m z/\z≠x) y:=by
 rw[Jm];cases y<;>try rfl
 rename_i bs
 simp only[oh];by_cases e:(⟨bs.toArray⟩:BA)=x
 ·rw[e,CO];simp[Ld]
 rw[yj _ _ e];by_cases h:m ⟨bs.toArray⟩<;>simp[Ld,e,h]
theorem aov (m:BA->Prop):(∀x,WideAt.IsKeyLit x->oh (Ld m) x=none) ↔ ∀y,¬m y:=by
 constructor
 ·intro h y hy;have:=h (.string y.data.toList) trivial;rw[tV] at this;simp[Ld,hy] at this
 intro h x _;cases x<;>try rfl
 simp[oh,Ld,h]
theorem aFE {l:ZB} (h:Up l):l.Nodup:=h.imp fun {a b} hab e=>by rw[e] at hab;exact absurd hab (List.lt_irrefl _)
theorem Nh (l:List Cl) (a:OA) (n c:Nat) (w:World) (hl:NG w l a n c) (hn:n<=1000) (hsz:∀x∈l,x.cond.size<=100000/\x.cond.fits/\x.name.size<=1000000000000000) :
  Calls Tryz.prog 80 #[.slice a n c] w (aRk (l.map Cl.dfn) w):=by
 have HL:=ak hl;have HN:=ak hl.len;have zN:=ak hsz;obtain⟨dl,hdl⟩:∃dl,dl=l.map Cl.dfn:=⟨_,rfl⟩
 have Yp:=ak hdl;rw[<-hdl];clear hl hsz hdl;have hmm:=@run_makeMap Tryz.prog;have HM0:=ak (MapAt.made w 9);have HX0:=ak ((Ext.refl w).alloc (.map #[] 0));obtain⟨bf,hbf⟩:∃bf:Nat,bf=w.heap.size:=⟨_,rfl⟩
 rw[<-hbf] at HM0;have HBF:=ak hbf;go_enter Tryz.func80,Tryz.ntmps80
 go_wp2_with fail
 rw[<-hbf];clear hbf hmm;go_loopw [29] (fun i wr=>∃k:Nat,k<=n/\i=.int .i64 k/\MapAt wr 9 bf k (oh (ER (dl.take k)))/\Ext w wr) (fun i _=>n - (intOf i).toNat)
 case atStart =>
  refine⟨0,by omega,rfl,HM0.o.congr fun x=>?_,HX0.o⟩;cases x<;>simp[oh,ER,firstAt]
 case round =>
  obtain⟨k,hk,rfl,hmap,hx⟩:=hrel;have Kr:=ak hmap;have HX:=ak hx;have hbw:=hmap.lt;clear hmap hx HM0 HX0;by_cases hlt:k<n
  ·have hlt':k<l.length:=by have:=HN.o;omega
   have t1:decide ((k:Int)<(n:Int))=true:=by simp;omega
   obtain⟨b,off,v,rfl,q1,q2,q3,c0,c1,c2,c3,c4,c5,c6,c7,c8,c9⟩:=(HL.o.ext HX.o).aQX hlt';have hdk:dl[k]?=some l[k].dfn:=by rw[Yp.o];simp[hlt']
   have hns:v.name.size<=1000000000000000:=by rw[q2];exact(zN.o _ (aI hlt')).2.2
   have hblt:=block_lt c0;simp only at hblt;have aDE:k<dl.length:=by rw[Yp.o];simpa using hlt'
   have e0:dl[k]=l[k].dfn:=by simp only[Yp.o];simp
   have HEI:=ak (show dl[k].is=(v.kind==1) by rw[e0,q1];rfl);have SA:=ak (show dl[k].name=v.name by rw[e0,q2];rfl);have HST:=ak (@av7 dl k aDE);have Ym:=ak (@av8 dl k aDE);rw[SA.o,HEI.o] at HST Ym;clear e0 hdk q1 q2 q3 HEI SA;cases hfa:firstAt (dl.take k) v.name with
   | none =>
    have HF:=ak (ahX hfa);cases hkd:(v.kind==1)
    ·have U6:=ak (Ym.o (Or.inl hkd));go_wp2_with (at_lookup;refine jI _ rfl _ _ 136 rfl 9 3 jR Qq (OV _) bf k _ rfl (Kr.o.ext ((Ext.refl wr).alloc _)) _ _ rfl (oI hns) trivial ?_;rw[HF.o])
     go_roundw
     case rel=>exact⟨k+1,by omega,by go_num,((Kr.o.ext ((Ext.refl wr).alloc _)).more (by omega)).congr U6.o,HX.o.alloc _⟩
     case measure=>simp[intOf];omega
    have U6:=ak (HST.o hkd hfa);clear hfa;go_wp2_with (first
     | (at_lookup;refine jI _ rfl _ _ 136 rfl 9 3 jR Qq (OV _) bf k _ rfl (Kr.o.ext ((Ext.refl wr).alloc _)) _ _ rfl (oI hns) trivial ?_;rw[HF.o])
     | (at_mapUpdate;refine oU _ rfl _ _ _ 136 rfl 9 3 jR Qq bf k _ rfl (Kr.o.ext ((Ext.refl wr).alloc _)) ?c3 _ _ _ rfl rfl (oI hns) trivial ?_))
    case c3=>unfold maxLen;omega
    intro w1 hm1 hc1;have HM1:=ak (hm1.congr U6.o);have fQ:=ak (hc1.ext (HX.o.alloc _) (by rw[<-HBF.o];simp));clear hm1 hc1;go_wp2_with fail
    go_roundw
    case rel=>exact⟨k+1,by omega,by go_num,HM1.o,fQ.o⟩
    case measure=>simp[intOf];omega
   | some d =>
    have HF:=ak (aaO hfa);have U6:=ak (Ym.o (Or.inr (by rw[hfa];simp)));clear hfa;cases hkd:(v.kind==1)
    all_goals
     go_wp2_with (at_lookup;refine jI _ rfl _ _ 136 rfl 9 3 jR Qq (OV _) bf k _ rfl (Kr.o.ext ((Ext.refl wr).alloc _)) _ _ rfl (oI hns) trivial ?_;rw[HF.o])
     go_roundw
     case rel=>exact⟨k+1,by omega,by go_num,((Kr.o.ext ((Ext.refl wr).alloc _)).more (by omega)).congr U6.o,HX.o.alloc _⟩
     case measure=>simp[intOf];omega
  have hkn:k=dl.length:=by rw[Yp.o];have:=HN.o;simp;omega
  have HM1:=ak (show MapAt wr 9 bf 1000 (oh (ER dl)) by have:=Kr.o;rw[hkn,List.take_length] at this;exact this.more (by omega));have qC:=ak HX.o;have a0w:w.heap.size<=bf:=by rw[HBF.o];exact bg _
  have HOB:=ak (OB.start HM1.o HX.o a0w);have hmm:=@run_makeMap Tryz.prog;clear HM1 Kr hbw hkn;go_upto_region 13 with fail
  clear hmm hk hlt;generalize ((wr.alloc (.cells #[.slice none 0 0] 171)).alloc (.map #[] 0)).alloc (.map #[] 0)=wa at *;obtain⟨bp,hbp⟩:∃bp:Nat,bp=wr.heap.size:=⟨_,rfl⟩
  obtain⟨bm,hbm⟩:∃bm:Nat,bm=wr.heap.size+1:=⟨_,rfl⟩
  obtain⟨bu,hbu⟩:∃bu:Nat,bu=wr.heap.size+2:=⟨_,rfl⟩
  rw[show wr.heap.size+1+1=wr.heap.size+2 from rfl];rw[<-hbu,<-hbm,<-hbp] at HOB ⊢;clear hbp hbm hbu HX qC;go_wp2_with fail
  go_loopw [9,59] (L2 w dl bf bu bm bp n) (fun _ i _=>n - (intOf i).toNat)
  case atStart=>exact⟨0,1000,_,by omega,rfl,rfl,aK9,HOB.o,Ph2.start _ _ _ _ _⟩
  case round =>
   obtain⟨k2,t,s,hk2,rfl,rfl,ht,hob,hph⟩:=hrel;have yQ:=ak hob;have HP2:=ak hph;have hcl:=cnt_le dl k2;clear hob hph HOB;by_cases hlt:k2<n
   ·have hlt':k2<l.length:=by have:=HN.o;omega
    have t1:decide ((k2:Int)<(n:Int))=true:=by simp;omega
    obtain⟨b,off,v,rfl,q1,q2,q3,c0,c1,c2,c3,c4,c5,c6,c7,c8,c9⟩:=(HL.o.ext yQ.o.ext).aQX hlt';have hblt:=block_lt c0;simp only at hblt;have aDE:k2<dl.length:=by rw[Yp.o];simpa using hlt'
    have e0:dl[k2]=l[k2].dfn:=by simp only[Yp.o];simp
    have HDF:=ak (show ku dl k2=(v.kind==1) by unfold ku;rw[aZ aDE,e0,q1];rfl);have HUS:=ak (show lM dl k2=lQ (jo l[k2].cond) by unfold lM;rw[aZ aDE,e0];rfl);have Zk:=ak q3;obtain⟨hs1,hs2,hs3⟩:=zN.o _ (aI hlt');have HS2:=ak hs2;clear e0 q1 q2 q3 hs2;cases hkd:(v.kind==1)
    ·have tk:(v.kind != 1)=true:=by simp[bne,hkd]
     have HPS:=ak (HP2.o.skip (HDF.o.trans hkd));go_wp2_with fail
     go_roundw
     case rel=>exact⟨k2+1,t,s,by omega,by go_num,congrArg (fun q:Nat=>Value.int .i64 (q:Int)) HPS.o.2.symm,by have:=aqF k2;omega,yQ.o.Wi ((Ext.refl _).alloc _),HPS.o.1⟩
     case measure=>simp[intOf];omega
    have tk:(v.kind != 1)=false:=by simp[bne,hkd]
    have hmm:=@run_makeMap Tryz.prog;have HD:=ak (HDF.o.trans hkd);clear HDF;have hnb:¬s.S k2:=fun h=>by have:=(HP2.o.S k2).1 h;omega
    go_wp2_with fail
    clear hmm;obtain⟨nm,hnm⟩:∃nm,nm=lQ (jo l[k2].cond):=⟨_,rfl⟩
    have hnl:nm.length<=100000:=by rw[hnm];exact bC (MH _) (bC (EM _) hs1)
    have HUP:=ak (show nm.Nodup by rw[hnm];exact aFE (aht _));have NT:=ak (show ∀x∈nm,x.size<=1000000000000000 by
     intro x hx;rw[hnm,xP] at hx;exact abz _ HS2.o x hx)
    refine(Hg l[k2].cond _ _ (by omega) HS2.o (Zk.o.ext (((Ext.refl wr).alloc _).alloc _))).mono ?_;rw[<-hnm];rw[<-hnm] at HUS;rintro r w1 ⟨an,cn,rfl,hst,hx1,aUU⟩;have HST:=ak hst;have aPY:=(yQ.o.Wi ((Ext.refl wr).alloc (.cells (aF v) 48))).adv hnb;have Ad:=ak (aPY.Wi hx1);have KL:=ak (HP2.o.enter (wr.alloc (.cells (aF v) 48)).heap.size);have HFR:=ak (show ∀b off,an=some ⟨b,off,none⟩->(s.adv k2 (wr.alloc (.cells (aF v) 48)).heap.size).ρ b=.none from fun b off e=>aPY.fresh b (aUU b off e));obtain⟨nb,aP2⟩:∃nb:Nat,nb=wr.heap.size+1:=⟨_,rfl⟩
    have e4:(wr.alloc (.cells (aF v) 48)).heap.size=nb:=by rw[aP2];simp
    rw[e4] at Ad KL HFR;have GL:=ak (show (s.adv k2 nb).mb k2=nb by show upN s.mb k2 nb k2=nb;exact Ep _ _ _);rw[<-aP2];generalize s.adv k2 nb=s3 at *;clear aPY hx1 hst aUU e4 aP2 hnb c0 c1 c2 c3 c4 c5 c6 c7 c8 c9 yQ HP2 hkd tk hblt Zk HS2;clear hnm;go_wp2_with fail
    go_loopw [74] (L3 w dl bf bu bm bp k2 nb nm an nm.length cn) (fun i _=>nm.length - (intOf i).toNat)
    case atStart=>exact⟨0,t,s3,by omega,rfl,by omega,Ad.o,KL.o,GL.o,HST.o,HFR.o⟩
    case round =>
     obtain⟨j,t3,s,hj,rfl,ht3,hob,hph,hmb,hst,hfr⟩:=hrel;have HO:=ak hob;have HP:=ak hph;have HS:=ak hst;have HR:=ak hfr;have HMB:=ak hmb;have htb:=aN1 (show k2<=1000 by omega);clear hob hph hst hfr hmb Ad KL HST HFR GL;by_cases hjl:j<nm.length
     ·have tj:decide ((j:Int)<(nm.length:Int))=true:=by simp;omega
      obtain⟨bn,aC9,rfl,cn0⟩:=HS.o.2.2.2 j hjl;have hsz1:=NT.o _ (aI hjl);have hju:j<(lM dl k2).length:=by rw[HUS.o];exact hjl
      have HXJ:=ak (show (lM dl k2)[j]=nm[j] by simp only[HUS.o]);have hSk:s.S k2:=(HP.o.S k2).2 (Or.inr rfl);cases hfa:firstAt dl nm[j] with
      | none =>
       have HF:=ak (ahX hfa);have HPN:=ak (HP.o.skip hju (by rw[HXJ.o];exact hfa));clear hfa;go_wp2_with (at_lookup;refine jI _ rfl _ _ 136 rfl 9 3 jR Qq (OV _) bf t3 _ rfl HO.o.hf _ _ rfl (oI hsz1) trivial ?_;rw[HF.o])
       go_roundw
       case rel=>exact⟨j+1,t3,s,by omega,by go_num,by omega,HO.o,HPN.o,HMB.o,HS.o,HR.o⟩
       case measure=>simp[intOf];omega
      | some d =>
       have HF:=ak (aaO hfa);have HPN:=ak (HP.o.step hju (by rw[HXJ.o,hfa];rfl) (by rw[HUS.o];exact HUP.o));rw[HXJ.o] at HPN;obtain⟨x,hxx⟩:∃x,x=nm[j]:=⟨_,rfl⟩
       rw[<-hxx] at HF HPN hsz1 cn0;have HOM:=ak (HO.o.more (show t3<=t3+1 by omega));have Oz:=ak (HOM.o.sets k2 hSk).2;rw[HMB.o] at Oz;clear hfa hxx HXJ;go_wp2_with (first
        | (at_lookup;refine jI _ rfl _ _ 136 rfl 9 3 jR Qq (OV _) bf t3 _ rfl HO.o.hf _ _ rfl (oI hsz1) trivial ?_;rw[HF.o])
        | (at_mapUpdate;refine oU _ rfl _ _ _ 174 rfl 9 176 jR amQ nb (t3+1) _ rfl Oz.o ?c3 _ _ _ rfl rfl (oI hsz1) trivial ?_))
       case c3=>unfold maxLen;omega
       intro w2 hm2 hc2;obtain⟨s4,hs4⟩:∃s4,s4=s.amZ k2 fun z=>z=x\/s.M k2 z:=⟨_,rfl⟩
       rw[<-hs4] at HPN;have PG:=ak (show OB w dl bf bu bm bp (t3+2) s4 w2 by
        rw[hs4];refine(HOM.o.more (Nat.le_succ _)).amZ hSk (by rw[HMB.o];exact hc2) ?_;rw[HMB.o];exact hm2.congr (aoX _ x))
       have xI:=ak (HS.o.fH hc2 (fun b' off' e=>by
        intro hmem;simp only[aK] at hmem;have h1:=HR.o b' off' e;rw[hmem,<-HMB.o,((HO.o.sets k2 hSk).1)] at h1;cases h1))
       have HR4:=ak (show ∀b' off',some (⟨bn,aC9,none⟩:Addr)=some ⟨b',off',none⟩->s4.ρ b'=.none by rw[hs4];exact HR.o);have a2P:=ak (show s4.mb k2=nb by rw[hs4];exact HMB.o);have HU4:=ak (show s4.U x=s.U x by rw[hs4];rfl);have hul:(s4.U x).length<=1001:=by
        rw[HU4.o,HP.o.U];have:=aOq dl k2 x;split
        ·simp;omega
        omega
       clear hs4 hm2 hc2 HOM Oz HO HS HR HF cn0;obtain⟨ra,rc,hrv⟩:=pJ (PG.o.aeB x);have aE9:=ak (show (oh s4.uv (.string x.data.toList)).getD (.slice none 0 0)=.slice ra (s4.U x).length rc by rw[tV];exact hrv);have HOWN:=ak (PG.o.aeB x);rw[hrv] at HOWN;have HRV:=ak hrv;obtain⟨i0,hi,hz0,hz1,hz2⟩:=info_parts qh.info;have hwb:=PG.o.ext.size;obtain⟨ul,aPL⟩:∃ul,ul=(s4.U x).length:=⟨_,rfl⟩
       rw[<-aPL] at aE9 HOWN HRV hul;have a1U:=ak aPL;clear hrv aPL;go_wp2_with (first
        | (at_lookup;refine Ak _ rfl _ _ 173 rfl 9 26 jR aqz (ati _) bu (t3+2) _ rfl PG.o.hu _ _ rfl (oI hsz1) trivial ?_;rw[aE9.o])
        | (at_builtin;refine wpList_append_own_at _ rfl _ _ 26 rfl w.heap.size 3 i0 (.int .i64 0) 1 8 qh.ht hi hz0 hz1 hz2 rfl (by decide) _ ul _ rfl (HOWN.o.alloc _) ⟨w2.heap.size,0,none⟩ 1 1 [.int .i64 k2] rfl rfl ?c4 ?c5 ?c6 ?c7 ?c8 ?_))
       case c4=>exact cell_one_new _ _ _
       case c5=>simp[Value.oneCell']
       case c6=>unfold maxLen;omega
       case c7=>omega
       case c8=>simp;omega
       intro v5 w5 hown5 yH _ aT9;obtain⟨a5,c5,hv5⟩:=pJ hown5;subst hv5;have hc5:dO (rowOf (aik s4 x)) w2 w5:=by rw[HRV.o];exact(((Ext.refl w2).alloc _).fH _).then (iM yH)
       have xq:=ak hc5;have hr5:=PG.o.abv x;have HU5:=ak (PG.o.hu.fH hc5 (fun hm=>by
        have h1:=hr5 bu (dK.1 hm);rw[PG.o.ru] at h1;cases h1))
       have Zv:=ak (show ∀k,(Value.slice a5 (ul+1) c5).ownBlock=some k->(aik s4 x).ownBlock=some k\/w2.heap.size<=k by
        intro q hq;rw[HRV.o];rcases aT9 with e|e
        ·exact Or.inl (e ▸ hq)
        rw[e] at hq;simp at hq;exact Or.inr (by omega))
       have amy:=ak hown5;clear hown5 yH aT9 hc5 hr5 aE9 HOWN;go_wp2_with (at_mapUpdate;refine oU _ rfl _ _ _ 173 rfl 9 26 jR aqz bu (t3+2) _ rfl HU5.o ?c9 _ _ _ rfl rfl (oI hsz1) trivial ?_)
       case c9=>unfold maxLen;omega
       intro w6 hm6 hc6;have OQ:=ak (show OB w dl bf bu bm bp (t3+3) (s4.at7 x (.slice a5 (ul+1) c5) (s4.U x++[k2])) w6 by
        refine PG.o.at7 (u:=s4.U x++[k2]) ?_ xq.o Zv.o hc6 (hm6.congr (Jm _ _ _));have:=amy.o;rw[a1U.o] at this ⊢;simpa[YG] using this)
       have YX:=ak (HPN.o (.slice a5 (ul+1) c5));rw[<-HU4.o] at YX;have a7B:bn<w2.heap.size:=by
        obtain⟨b',off',e,hcc⟩:=xI.o.2.2.2 j hjl;have:=block_lt hcc;simp only[Option.some.injEq,Addr.mk.injEq,and_true] at e;simp only at this;omega
       have HR6:=ak (show ∀b' off',some (⟨bn,aC9,none⟩:Addr)=some ⟨b',off',none⟩->(s4.at7 x (.slice a5 (ul+1) c5) (s4.U x++[k2])).ρ b'=.none by
        intro b' off' e;have h1:=HR4.o b' off' e;simp only[Option.some.injEq,Addr.mk.injEq,and_true] at e;exact auy h1 (by omega) (by simp) (PG.o.abv x) Zv.o)
       have Fg:=ak ((xI.o.fH xq.o (fun b' off' e hm=>by
        have h1:=HR4.o b' off' e;rw[PG.o.abv x b' (dK.1 hm)] at h1;cases h1)).fH hc6 (fun b' off' e hm=>by
        simp only[aK] at hm;have h1:=HR4.o b' off' e;rw[hm,PG.o.ru] at h1;cases h1))
       have a2O:=ak (show (s4.at7 x (.slice a5 (ul+1) c5) (s4.U x++[k2])).mb k2=nb from a2P.o);generalize s4.at7 x (.slice a5 (ul+1) c5) (s4.U x++[k2])=s6 at *;clear hm6 hc6 HU5;go_wp2_with fail
       go_roundw
       case rel=>exact⟨j+1,t3+3,s6,by omega,by go_num,by omega,OQ.o,YX.o,a2O.o,Fg.o,HR6.o⟩
       case measure=>simp[intOf];omega
     have tj:decide ((j:Int)<(nm.length:Int))=false:=by simp;omega
     obtain rfl:j=nm.length:=by omega
     have HPE:=ak (show Ph3 dl k2 (lM dl k2).length s by rw[HUS.o];exact HP.o);have hSk:s.S k2:=(HP.o.S k2).2 (Or.inr rfl);have Oz:=ak (HO.o.sets k2 hSk).2;rw[HMB.o] at Oz;have HSR:=ak (HO.o.sets k2 hSk).1;rw[HMB.o] at HSR;have aVo:(∀y,¬s.M k2 y) ↔ qV dl [] k2=[]:=by
      rw[List.eq_nil_iff_forall_not_mem];refine forall_congr' fun y=>not_congr ?_
      rw[HPE.o.Mk,List.take_length,CX];constructor
      ·rintro⟨h1,h2⟩;obtain⟨d,hd⟩:=Lj.1 h2;exact⟨h1,d,hd,by simp⟩
      rintro⟨h1,d,h2,_⟩;exact⟨h1,Lj.2 ⟨d,h2⟩⟩
     have aX1:=ak aVo;have hkk:k2<=1000000000000000:=by omega
     clear aVo HS HR NT;go_wp2_with (at_mapUpdate;refine oU _ rfl _ _ _ 172 rfl 3 174 ak0 ax6 bm t3 _ rfl HO.o.hm ?c10 _ _ _ rfl rfl (azl hkk) trivial ?_)
     case c10=>unfold maxLen;omega
     intro w7 hm7 yM;have HO7:=ak (show OB w dl bf bu bm bp (t3+1) (s.aCr k2) w7 by
      refine HO.o.aCr hSk yM (hm7.congr fun x=>?_);rw[HMB.o];exact aF3 _ _ _ x)
     have aOB:=ak (Oz.o.fH yM (apart HSR.o HO.o.rm (by simp)));clear hm7 yM Oz HSR;go_wp2_with (at_len;refine ZA _ rfl _ 174 rfl 9 176 jR amQ nb t3 _ rfl aOB.o ?_)
     intro sz hsz0 hsz1;rw[aov,aX1.o] at hsz1;clear aOB aX1;by_cases hz:sz=0
     ·have HME:=ak (hsz1.1 hz);have tz:((sz:Int)==0)=true:=by simp;omega
      clear hsz1 hz;have hRl:s.R.length<=1000:=by
       rw[HPE.o.R.length_eq];have:=aWf dl k2;simp only[QS,List.length_map];omega
      have hwb:=HO7.o.ext.size;go_wp2_with fail
      refine(ahQ w.heap.size bp s.pv s.R k2 w7 HO7.o.hp hwb (by omega)).mono ?_;rintro r w8 ⟨rfl,pv8,R8,hR8,hp8,hc8,hw8⟩;have GK:=ak (HO7.o.agj hp8 hc8 hw8);have HP8:=ak (HPE.o.leave0 HD.o HME.o (pv:=pv8) hR8);clear hR8 hp8 hc8 hw8;go_wp2_with fail
      go_roundw
      case rel=>exact⟨k2+1,t3+1,_,by omega,by go_num,by rw[HP8.o.2];go_num,by have:=aqF k2;omega,GK.o,HP8.o.1⟩
      case measure=>simp[intOf];omega
     have HME:=ak (fun h=>hz (hsz1.2 h));have tz:((sz:Int)==0)=false:=by simp;omega
     clear hsz1 hz;have HP8:=ak (HPE.o.leave HD.o HME.o);go_wp2_with fail
     go_roundw
     case rel=>exact⟨k2+1,t3+1,_,by omega,by go_num,by rw[HP8.o.2];go_num,by have:=aqF k2;omega,HO7.o,HP8.o.1⟩
     case measure=>simp[intOf];omega
   have t1:decide ((k2:Int)<(n:Int))=false:=by simp;omega
   have hkd:k2=dl.length:=by rw[Yp.o];have:=HN.o;simp;omega
   have HP4:=ak (show Ph4 dl s by have:=HP2.o;rw[hkd] at this;exact this.finish);have hcn:(Ui dl k2)=countOf dl:=by rw[hkd];exact aMP dl
   have HVO:=ak HP2.o.vo;have HO0:=ak HP2.o.O;have htb:=aN1 (show k2<=1000 by omega);have hcb:countOf dl<=1000:=by rw[<-hcn];omega
   rw[hcn];clear hcn hkd HP2;go_wp2_with fail
   go_loopg [20] (countOf dl) (L4 w dl bf bu bm bp t)
   case atStart=>exact⟨s,by rw[HO0.o];rfl,yQ.o,HVO.o.symm,HP4.o⟩
   case round =>
    obtain⟨s,hm,hob,rfl,hph⟩:=hrel;have HO:=ak hob;have HP:=ak hph;have HM:=ak hm;obtain⟨R,hRp,hinv⟩:=hph.inv;have HRP:=ak hRp;have ahe:=ak hinv;have aVi:s.R.length=R.length:=by rw[hRp.length_eq];simp[QS]
    have hle:=hinv.le;have HRL:=ak aVi;obtain⟨pa,pc,hpv⟩:=hob.hp.form;have hpc:=dM hob.hp.hb 0;have aZ2:=dH hob.hp.hb;simp at hpc;rw[hpv] at hpc;obtain⟨oa,oc,hov⟩:=pJ hob.hv;rw[hov];have HOV:=ak hov;have PE:=ak hpv;have a6J:s.O.length+R.length<=1000:=by simp at hle;omega
    clear hob hph hm hRp hinv hpv hov yQ HP4 HVO HO0 hle;by_cases hR0:s.R.length=0
    ·have tr:decide ((0:Int)<(s.R.length:Int))=false:=by rw[hR0];rfl
     have hRn:R=[]:=aX (by have:=HRL.o;omega);have HI0:=ak (show SH dl s.O [] by have:=ahe.o;rw[hRn] at this;exact this);have HOW:=ak HO.o.hv;rw[HOV.o] at HOW;have Dl:=ak HO.o.ext;clear hRn;go_wp2_with fail
     refine(XI _ _ _ _).mono ?_;rintro r w1 ⟨rfl,rfl⟩;by_cases hcc:s.O.length<countOf dl
     ·have tc:decide (s.O.length<countOf dl)=true:=by simp[hcc]
      go_wp2_with fail
      go_ret2
      exact⟨Dl.o,Or.inr ⟨s.O,HI0.o,hcc,rfl⟩⟩
     have tc:decide (s.O.length<countOf dl)=false:=by simp[hcc]
     go_wp2_with fail
     go_ret2
     exact⟨Dl.o,Or.inl ⟨s.O,oa,oc,HI0.o.done (by omega),rfl,arC HOW.o rfl⟩⟩
    have tr:=ah ((0:Int)<(s.R.length:Int));go_wp2_with fail
    refine(XI _ _ _ _).mono ?_;rintro r w1 ⟨rfl,rfl⟩;go_wp2_with fail
    refine(azy w.heap.size bp s.pv s.R wr HO.o.hp (by omega) (by omega)).mono ?_;rintro r w1 ⟨z,pv1,R1,rfl,hR1,hp1,hc1,hw1⟩;obtain⟨i,R',rfl,hRR,aVj⟩:=aDc (HRP.o.symm.trans hR1);have PK:=ak (HO.o.agj hp1 hc1 hw1);have HRR:=ak hRR;have HR1:=ak aVj;have aQc:ku dl i=true:=((ahe.o.ready i).1 (by rw[aT];exact Or.inr (hRR.mem_iff.2 (by simp)))).1;have HID:=ak aQc;have aQb:=pY aQc;have hin:i<n:=by have:=HN.o;rw[Yp.o] at aQb;simp at aQb;omega
    have hta:∀W:World,(Instr.typeAssert (.iface 3 (.int .i64 (i:Int))) 20 3 true).run Tryz.prog W=.ok (.tuple #[.int .i64 (i:Int),.bool true]) W:=fun W=>by kernel_rfl
    clear hR1 hp1 hc1 hw1 hRR aVj aQc hpc aZ2;obtain⟨i0,hi0,hz0,hz1,hz2⟩:=info_parts qh.info;have hwb:=PK.o.ext.size;have HOWN:=ak PK.o.hv;have e7:(s.agj pv1 R1).vo=s.vo:=rfl;have e8:(s.agj pv1 R1).O=s.O:=rfl;rw[e7,e8,HOV.o] at HOWN;clear e7 e8;go_wp2_with (at_builtin;refine wpList_append_own_at _ rfl _ _ 26 rfl w.heap.size 3 i0 (.int .i64 0) 1 8 qh.ht hi0 hz0 hz1 hz2 rfl (by decide) _ s.O.length _ rfl (HOWN.o.alloc _) ⟨w1.heap.size,0,none⟩ 1 1 [.int .i64 i] rfl rfl ?d1 ?d2 ?d3 ?d4 ?d5 ?_)
    case d1=>exact cell_one_new _ _ _
    case d2=>simp[Value.oneCell']
    case d3=>unfold maxLen;omega
    case d4=>omega
    case d5=>simp;omega
    intro v2 w2 hown2 hgrow2 _ aT';obtain⟨a2,c2,hv2⟩:=pJ hown2;subst hv2;have Ad:=ak (show OB w dl bf bu bm bp t ((s.agj pv1 R1).ayp (.slice a2 (s.O.length+1) c2) (s.O++[i])) w2 by
     refine PK.o.ayp ?_ ?_ ?_
     ·have:=hown2;simpa[YG] using this
     ·show dO (rowOf s.vo) w1 w2
      rw[HOV.o];exact(((Ext.refl w1).alloc _).fH _).then (iM hgrow2)
     intro q hq
     show s.vo.ownBlock=some q\/_
     rw[HOV.o];rcases aT' with e|e
     ·exact Or.inl (e ▸ hq)
     rw[e] at hq;simp at hq;exact Or.inr (by omega))
    clear hown2 hgrow2 aT' HOWN hta;have hil:i<l.length:=by have:=HN.o;omega
    obtain⟨b,off,v,rfl,q1,q2,q3,c0,c1,k2',c3,c4,c5,c6,c7,c8,c9⟩:=(HL.o.ext Ad.o.ext).aQX hil;have e0:dl[i]=l[i].dfn:=by simp only[Yp.o];simp
    have nK:=ak (show nameAt dl i=v.name by unfold nameAt;rw[aZ aQb,e0,q2];rfl);have hns:v.name.size<=1000000000000000:=by rw[q2];exact(zN.o _ (aI hil)).2.2
    obtain⟨d,hd1,hd2⟩:=arS HID.o;rw[nK.o] at hd1;have HD1:=ak hd1;have HF:=ak (aaO hd1);have Zr:(0:Int)<=(i:Int):=by omega
    have ti1:(i:Int)<(n:Int):=by omega
    clear q1 q2 q3 c0 k2' c3 c4 c5 c6 c7 c8 c9 e0 hd1;by_cases hdi:d=i
    ·subst hdi;have td:((d:Int) != (d:Int))=false:=by simp
     have HP5:=ak (Ph5.start (R':=R') (i:=d) (pv:=pv1) (vo:=.slice a2 (s.O.length+1) c2) HP.o HR1.o);obtain⟨s5,hs5⟩:∃s5,s5=(s.agj pv1 R1).ayp (.slice a2 (s.O.length+1) c2) (s.O++[d]):=⟨_,rfl⟩
     rw[<-hs5] at Ad HP5;have aP3:=nK.o;obtain⟨ra,rc,hrv⟩:=pJ (Ad.o.aeB v.name);obtain⟨m5,hm5⟩:∃m5,m5=(s5.U v.name).length:=⟨_,rfl⟩
     have aP5:m5=(UL dl dl.length (nameAt dl d)).length:=by rw[hm5,HP5.o.U,aP3]
     have U9:=ak aP5;have a6O:m5<=1000:=by
      rw[aP5];have:=aOq dl dl.length (nameAt dl d);have h2:=HN.o;have h3:dl.length=l.length:=by rw[Yp.o];simp
      omega
     rw[<-hm5] at hrv;have aE9:=ak (show (oh s5.uv (.string v.name.data.toList)).getD (.slice none 0 0)=.slice ra m5 rc by rw[tV];exact hrv);have HUV:=ak (show aik s5 v.name=.slice ra m5 rc from hrv);obtain⟨uv,huv⟩:∃uv,uv=s.uv:=⟨_,rfl⟩
     have a1S:=ak (show (uv v.name).getD (.slice none 0 0)=.slice ra m5 rc by rw[huv,<-HP5.o.uv];exact hrv);rw[<-huv] at HP5;have Gm:=ak aP3;clear hs5 hrv hm5 aP5 huv aP3;go_wp2_with (first
      | (at_lookup;refine Ak _ rfl _ _ 136 rfl 9 3 jR Qq (OV _) bf t _ rfl Ad.o.hf _ _ rfl (oI hns) trivial ?_;rw[HF.o])
      | (at_lookup;refine Ak _ rfl _ _ 173 rfl 9 26 jR aqz (ati _) bu t _ rfl Ad.o.hu _ _ rfl (oI hns) trivial ?_;rw[aE9.o]))
     go_loopw [140] (L5 w dl bf bu bm bp t s.O d R' uv (.slice a2 (s.O.length+1) c2) m5) (fun q _=>m5 - (intOf q).toNat)
     case atStart=>exact⟨0,s5,by omega,rfl,Ad.o,HP5.o⟩
     case round =>
      obtain⟨j,s6,hj,rfl,aUB,aUx⟩:=hrel;have OQ:=ak aUB;have YX:=ak aUx;clear aUB aUx Ad HP5 aE9;by_cases hjl:j<m5
      ·have tj:decide ((j:Int)<(m5:Int))=true:=by simp;omega
       have hju:j<(UL dl dl.length (nameAt dl d)).length:=by have:=U9.o;omega
       have HFD:aA (firstAt dl (nameAt dl d)=some d):=ak (by rw[Gm.o];exact HD1.o);obtain⟨u,hu⟩:∃u,u=(UL dl dl.length (nameAt dl d))[j]:=⟨_,rfl⟩
       obtain⟨hkey,hgo,hgo0⟩:=YX.o.del HFD.o hju hu;have hud:=(aI6 (show u∈UL dl dl.length (nameAt dl d) by rw[hu];exact aI hju)).1;have hul:u<=1000000000000000:=by
         have h1:=pY hud;have h2:=HN.o;have h3:dl.length=l.length:=by rw[Yp.o];simp
         omega
       have hDu:s6.D u:=(YX.o.D u).2 hud;have hSu:s6.S u:=(YX.o.S u).2 hud;have hrow:=OQ.o.aeB v.name;have e5:aik s6 v.name=.slice ra m5 rc:=by unfold aik;rw[YX.o.uv];exact a1S.o
       rw[e5] at hrow;have hrl:(s6.U v.name).length=m5:=by rw[YX.o.U,<-Gm.o,<-U9.o]
       rw[hrl] at hrow;obtain⟨g5,hg5,cj⟩:∃g5,ra=some ⟨g5,0,none⟩/\wr.cell? ⟨g5,j,none⟩=some (.int .i64 u):=by
        rcases hrow.2 with ⟨_,h0⟩|⟨g,cap,cur,hv,_⟩
        ·omega
        simp only[Value.slice.injEq] at hv;obtain⟨rfl,_,rfl⟩:=hv;refine⟨g,rfl,?_⟩;have hcj:=hrow.cellAt j (by omega);rw[hcj,YX.o.U,<-Gm.o];simp[YG,hu,hju]
       subst hg5;have HGM:=ak (show (aiu (Nl s6.D s6.mb) (.int .i64 (u:Int))).getD (.map none)=.map (some (s6.mb u)) by rw[aBe];simp[Nl,hDu]);have HKEY:=ak hkey;have HGO:=ak hgo;have aSj:=ak hgo0;have a2J:aA (nameAt dl d=v.name):=Gm;clear hkey hgo hgo0 hrow e5 hrl hu;go_wp2_with (first
        | (at_lookup;refine Ak _ rfl _ _ 172 rfl 3 174 ak0 ax6 (aAN _) bm t _ rfl OQ.o.hm _ _ rfl (azl hul) trivial ?_;rw[HGM.o])
        | (at_delete;refine aiZ _ rfl _ _ 174 9 rfl 176 jR amQ (s6.mb u) t _ rfl (OQ.o.sets u hSu).2 _ _ rfl (oI hns) trivial ?_))
       intro w7 hm7 yM;have hSr:=(OQ.o.sets u hSu).1;have aX8:=ak (show MapAt w7 9 (s6.mb u) t (oh (Ld fun y=>s6.M u y/\y≠nameAt dl d)) by
        refine hm7.congr fun x=>?_
        rw[a2J.o];exact aG3 _ _ x)
       have HO7:=ak (OQ.o.amZ hSu yM aX8.o);have HEM:=ak (show (∀y,¬(s6.M u y/\y≠nameAt dl d)) ↔ (qV dl (s.O++[d]) u).isEmpty=true by
        rw[List.isEmpty_iff,List.eq_nil_iff_forall_not_mem];exact forall_congr' fun y=>not_congr (HKEY.o y))
       have aXT:=ak (show (aiu (Nl (s6.amZ u fun y=>s6.M u y/\y≠nameAt dl d).D (s6.amZ u fun y=>s6.M u y/\y≠nameAt dl d).mb) (.int .i64 (u:Int))).getD (.map none)=.map (some (s6.mb u)) from HGM.o);clear hm7 yM hSr cj;go_wp2_with (first
        | (at_lookup;refine Ak _ rfl _ _ 172 rfl 3 174 ak0 ax6 (aAN _) bm t _ rfl HO7.o.hm _ _ rfl (azl hul) trivial ?_;rw[aXT.o])
        | (at_len;refine ZA _ rfl _ 174 rfl 9 176 jR amQ (s6.mb u) t _ rfl aX8.o ?_))
       intro sz hsz0 hsz1;rw[aov,HEM.o] at hsz1;clear HEM HGM aXT HKEY;by_cases hz:sz=0
       ·have tz:((sz:Int)==0)=true:=by simp;omega
        have aSi:=ak (aSj.o (hsz1.1 hz));clear hsz1 hz HGO aSj;have aZR:=HO7.o.ext.size;have hRl:s6.R.length<=100000:=by
         rw[YX.o.R.length_eq];simp only[QS,List.length_map,bI];have h1:=List.length_filter_le (fun u=>(qV dl (s.O++[d]) u).isEmpty) ((UL dl dl.length (nameAt dl d)).take j);have h2:=HRR.o.length_eq;simp only[List.length_take,List.length_cons] at h1 h2;omega
        go_wp2_with fail
        refine(ahQ w.heap.size bp s6.pv s6.R u w7 HO7.o.hp aZR (by omega)).mono ?_;rintro r w8 ⟨rfl,pv8,R8,hR8,hp8,hc8,hw8⟩;have GK:=ak (HO7.o.agj hp8 hc8 hw8);have HP8:=ak (aSi.o pv8 R8 hR8);clear hR8 hp8 hc8 hw8;go_wp2_with fail
        go_roundw
        case rel=>exact⟨j+1,_,by omega,by go_num,GK.o,HP8.o⟩
        case measure=>simp[intOf];omega
       have tz:((sz:Int)==0)=false:=by simp;omega
       have aSi:=ak (HGO.o (by
        cases hb:(qV dl (s.O++[d]) u).isEmpty
        ·rfl
        exact absurd (hsz1.2 hb) hz))
       clear hsz1 hz HGO aSj;go_wp2_with fail
       go_roundw
       case rel=>exact⟨j+1,_,by omega,by go_num,HO7.o,aSi.o⟩
       case measure=>simp[intOf];omega
      have tj:decide ((j:Int)<(m5:Int))=false:=by simp;omega
      have HPF:=ak (show Ph4 dl s6 by
       have:=YX.o;rw[show j=(UL dl dl.length (nameAt dl d)).length by rw[<-U9.o];omega] at this;exact this.finish (by rw[Gm.o];exact HD1.o) ahe.o HRR.o)
      go_wp2_with fail
      go_roundg (countOf dl - (s.O.length+1))
      case rel=>exact⟨s6,by rw[YX.o.O];simp,OQ.o,YX.o.vo.symm,HPF.o⟩
      case measure =>
       have h1:=HM.o;have h2:=ahe.o.le;have h3:=HRR.o.length_eq;simp only[bI,List.length_cons] at h2 h3;omega
    have td:((d:Int) != (i:Int))=true:=by simp;omega
    have HPN:=ak (HP.o.other (pv:=pv1) (vo:=.slice a2 (s.O.length+1) c2) ahe.o HRR.o HR1.o (fun x hx=>hdi (by
     have h1:=(agP hx).2;rw[nK.o] at h1;rw[<-h1,HD1.o] at hx;exact Option.some.inj hx)))
    go_wp2_with (at_lookup;refine Ak _ rfl _ _ 136 rfl 9 3 jR Qq (OV _) bf t _ rfl Ad.o.hf _ _ rfl (oI hns) trivial ?_;rw[HF.o])
    go_roundg (countOf dl - (s.O.length+1))
    case rel=>exact⟨_,by show _=countOf dl - (s.O++[i]).length;simp,Ad.o,rfl,HPN.o⟩
    case measure =>
     have h1:=HM.o;have h2:=ahe.o.le;have h3:=HRR.o.length_eq;simp only[bI,List.length_cons] at h2 h3;omega
open Go.RowKit
theorem wR {op lo hi:Int} {s:BA} (h:s.size<=1000000000000000):(Ex.mk op s [] lo hi []).fits:=by
 unfold Ex.fits;exact⟨h,by simp,by unfold nJ;trivial⟩
theorem Aa {w:World} {b:Nat} {v0 v1 v2 v3 v4 v5 v6 v7 v8 v9:Value} {t:TypeId} (h:w.heap[b]?=some (.cells #[v0,v1,v2,v3,v4,v5,v6,v7,v8,v9] t (0,0))) :
  w.cell? ⟨b,0,none⟩=some v0/\w.cell? ⟨b,1,none⟩=some v1/\w.cell? ⟨b,2,none⟩=some v2/\w.cell? ⟨b,3,none⟩=some v3/\w.cell? ⟨b,4,none⟩=some v4/\w.cell? ⟨b,5,none⟩=some v5/\w.cell? ⟨b,6,none⟩=some v6/\w.cell? ⟨b,7,none⟩=some v7/\w.cell? ⟨b,8,none⟩=some v8/\w.cell? ⟨b,9,none⟩=some v9/\(∀j,w.frozen? ⟨b,j,none⟩=false) :=
 ⟨dM h 0,dM h 1,dM h 2,dM h 3,dM h 4,dM h 5,dM h 6,dM h 7,dM h 8,dM h 9,fun j=>jS h j⟩
theorem sQ:zh 25 48 (.agg #[.int .i64 0,.string ⟨#[]⟩,.int .i64 0,.string ⟨#[]⟩,.slice none 0 0,.int .i64 0,.int .i64 0,.slice none 0 0,.slice none 0 0,.int .i64 0]) 10 144:=⟨by kernel_rfl,by kernel_rfl,rfl,by decide⟩
def Dp (w:World) (l:List dY) (vs:List jm):Prop:=l.length=vs.length/\∀i (h1:i<l.length) (h2:i<vs.length),kR w l[i] vs[i]
theorem Dp.mono {w w':World} {l:List dY} {vs:List jm} (h:Dp w l vs) (hs:Sub w w'):Dp w' l vs:=⟨h.1,fun i h1 h2=>(h.2 i h1 h2).mono hs⟩
theorem Dp.snoc {w:World} {l:List dY} {vs:List jm} {c:dY} {v:jm} (h:Dp w l vs) (hc:kR w c v):Dp w (l++[c]) (vs++[v]):=by
 refine⟨by simp[h.1],fun i h1 h2=>?_⟩;by_cases hi:i<l.length
 ·have hi2:i<vs.length:=by rw[<-h.1];exact hi
  simp only[bT hi,bT hi2];exact h.2 i hi hi2
 have e1:i=l.length:=by simp at h1;omega
 subst e1;simp only[cZ (bg _),cZ (show vs.length<=l.length by rw[h.1];exact bg _),Nat.sub_self,bP];simpa[h.1] using hc
theorem Dz {w:World} {M:ZN} {base:Nat} {v:Value} {l:List dY} {vs:List jm} (h:w.ownsRow base 48 10 v l.length (vs.flatMap jm.cells)) (hM:∀k,v.ownBlock=some k->k∉M) (hR:Dp (mask w M) l vs) :
  ∃a c,v=.slice a l.length c/\eX (mask w M) l a l.length c:=by
 rw[hR.1] at h;obtain⟨a,c,rfl,hr⟩:=iF.kZ jm.len h;refine⟨a,c,by rw[hR.1],vs,?_,hR.1,hR.2⟩;refine⟨hR.1,by rw[hR.1];exact hr.2.1,hr.2.2.1,fun i hi=>?_⟩;obtain⟨b,off,e,hc⟩:=hr.2.2.2 i hi;subst e;refine⟨b,off,rfl,fun j hj=>?_⟩;rw[iH,dh (hM b rfl)];exact hc j hj
def qg (e:Edge):Bool:=match e.ground with|.data=>true|.guard=>true|_=>false
def aeR (ops:Array Oper) (m n:Nat):Bool :=
 Region.noSelect ops&&decide (m<=ops.size)&&decide (ops.size<=m+1) &&
 ((List.range ops.size).all fun i=>(List.range ops.size).all fun j=>i==j||gK ops i==none||gK ops i != gK ops j) &&
 ((List.range ops.size).all fun i=>match ops[i]? with
  | none=>false
  | some o=>((match o.guard with|none=>true|some (j,_)=>(match gK ops j with|none=>false|some t=>decide (t<n))&&o.after.any (fun e=>qg e&&e.on==j))||i==m)&&(o.after.all fun e=>(!Region.binds .any e||decide (e.on<i))&&(!qg e||Region.binds .any e)) &&
   ((List.range m).all fun j=>match gK ops j with
    | none=>true
    | some t=>!(o.looksAt ops).contains t||(i==m)||o.after.any (fun e=>Region.binds .any e&&e.on==j)) &&
   (i != m||(List.range m).all fun j=>o.after.any (fun e=>Region.binds .any e&&e.on==j)))
theorem arn {ops:Array Oper} {m n:Nat} (h:aeR ops m n=true):Region.noSelect ops=true/\m<=ops.size/\ops.size<=m+1/\NP ops /\
  (∀i o,ops[i]?=some o->(i<m->∀j b,o.guard=some (j,b)->∃t,gK ops j=some t/\t<n/\∃e∈o.after,qg e=true/\e.on=j)/\(∀e∈o.after,(Region.binds .any e=true->e.on<i)/\(qg e=true->Region.binds .any e=true))/\(i<m->∀j t,j<m->gK ops j=some t->t∈o.looksAt ops->∃e∈o.after,Region.binds .any e=true/\e.on=j) /\
   (i=m->∀j,j<m->∃e∈o.after,Region.binds .any e=true/\e.on=j)):=by
 simp only[aeR,aJ,aN] at h;obtain⟨⟨⟨⟨h1,h2⟩,h3⟩,h4⟩,h5⟩:=h;refine⟨h1,h2,h3,?_,?_⟩
 ·intro i j d hi hj;have li:i<ops.size:=by
   unfold gK at hi;rcases cO i ops.size with h|h
   ·exact h
   rw[Array.getElem?_eq_none h] at hi;simp at hi
  have lj:j<ops.size:=by
   unfold gK at hj;rcases cO j ops.size with h|h
   ·exact h
   rw[Array.getElem?_eq_none h] at hj;simp at hj
  have:=aV.1 (aV.1 h4 i (by simpa using li)) j (by simpa using lj);simpa[hi,hj] using this
 intro i o ho;have li:i<ops.size:=(aW.1 ho).1;have h6:=aV.1 h5 i (by simpa using li);simp only[ho,aJ] at h6;obtain⟨⟨⟨g1,g2⟩,g3⟩,g4⟩:=h6;refine⟨fun hm=>?_,fun e he=>?_,fun hm j t hjm hj ht=>?_,fun hm j hj=>?_⟩
 ·intro j b hg;rcases Bool.or_eq_true_iff.1 g1 with g|g
  ·rw[hg] at g;simp only[aJ] at g;cases hd:gK ops j with
   | none=>rw[hd] at g;simp at g
   | some t =>
    rw[hd] at g;obtain⟨e,he,hb⟩:=Array.any_eq_true'.1 g.2;simp only[aJ,beq_iff_eq] at hb;exact⟨t,rfl,by simpa using g.1,e,he,hb.1,hb.2⟩
  have:i=m:=by simpa using g
  omega
 ·have:=Array.all_eq_true_iff_forall_mem.1 g2 e he;simp only[aJ,bV,Bool.not_eq_true',aN] at this;refine⟨fun hb=>?_,fun hb=>?_⟩
  ·rcases this.1 with h|h
   ·rw[hb] at h;cases h
   exact h
  rcases this.2 with h|h
  ·rw[hb] at h;cases h
  exact h
 ·have:=aV.1 g3 j (by simpa using hjm);rw[hj] at this;simp only[bV,Bool.not_eq_true'] at this;rcases this with (h|h)|h
  ·rw[List.contains_iff_mem.2 ht] at h;cases h
  ·have:i=m:=by simpa using h
   omega
  obtain⟨e,he,hb⟩:=Array.any_eq_true'.1 h;simp only[aJ,beq_iff_eq] at hb;exact⟨e,he,hb.1,hb.2⟩
 subst hm;rcases Bool.or_eq_true_iff.1 g4 with g|g
 ·simp at g
 have:=aV.1 g j (by simpa using hj);obtain⟨e,he,hb⟩:=Array.any_eq_true'.1 this;simp only[aJ,beq_iff_eq] at hb;exact⟨e,he,hb.1,hb.2⟩
def QX (ops:Array Oper) (c i:Nat):Bool:=match ops[c]? with|none=>false|some o=>o.after.any fun e=>qg e&&e.on==i
def II (ops:Array Oper) (m:Nat) (Kp:ZN) (i k:Nat):Bool:=!jd ops m i k&&(Kp.contains i||(List.range m).any fun c=>c != k&&!jd ops m k c&&QX ops c i)
end Go.Proofs.YtefjomofjejklaaGreatDoor
