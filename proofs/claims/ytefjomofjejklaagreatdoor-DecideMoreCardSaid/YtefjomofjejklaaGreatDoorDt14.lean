/-
  Texts of the claim, joined: Ord2, Lay, Iter, Names5, Ord3, CExp1, Defs, CNode.
-/
import Derived.Test.YtefjomofjejklaaGreatDoorDt12
import Derived.Test.YtefjomofjejklaaGreatDoorDt13
import Derived.Shelf.SlGeneric
import Derived.Shelf.SlIter.Nil
import Derived.Shelf.SortM.Plain
import Derived.Shelf.SortM.SortNone
import Derived.Ground.GgzProg
import Derived.Ground.SlgmProg
namespace Go.Proofs.YtefjomofjejklaaGreatDoor
set_option maxRecDepth 100000
set_option maxHeartbeats 32000000
open Go.RowKit Go.Maps
def strF (g : BA -> Option Value) : Lit -> Option Value
 | .string bs => g ⟨bs.toArray⟩
 | _ => none
def intF (g : Nat -> Option Value) : Lit -> Option Value
 | .int .i64 z => if 0 <= z then g z.toNat else none
 | _ => none
theorem strF_at (g : BA -> Option Value) (s : BA) : strF g (.string s.data.toList) = g s := rfl
theorem intF_at (g : Nat -> Option Value) (i : Nat) : intF g (.int .i64 i) = g i := by simp [intF]
open Classical in
noncomputable def upS {α : Type} (g : BA -> α) (s : BA) (v : α) : BA -> α := fun t => if t = s then v else g t
theorem upS_same {α : Type} (g : BA -> α) (s : BA) (v : α) : upS g s v s = v := by simp [upS]
theorem upS_other {α : Type} (g : BA -> α) {s t : BA} (v : α) (h : t ≠ s) : upS g s v t = g t := by simp [upS, h]
def upN {α : Type} (g : Nat -> α) (s : Nat) (v : α) : Nat -> α := fun t => if t = s then v else g t
theorem upN_same {α : Type} (g : Nat -> α) (s : Nat) (v : α) : upN g s v s = v := by simp [upN]
theorem upN_other {α : Type} (g : Nat -> α) {s t : Nat} (v : α) (h : t ≠ s) : upN g s v t = g t := by simp [upN, h]
theorem setF_str (g : BA -> Option Value) (s : BA) (v : Option Value) (x : Lit) : setF (strF g) (.string s.data.toList) v x = strF (upS g s v) x := by
 by_cases e : x = .string s.data.toList
 ·subst e
  rw [setF_same, strF_at, upS_same]
 rw [setF_other _ _ e]
 cases x <;> try rfl
 rename_i bs
 simp only [strF]
 rw [upS_other]
 intro h
 apply e
 rw [<- h]
theorem setF_int (g : Nat -> Option Value) (i : Nat) (v : Option Value) (x : Lit) : setF (intF g) (.int .i64 i) v x = intF (upN g i v) x := by
 by_cases e : x = .int .i64 i
 ·subst e
  rw [setF_same, intF_at, upN_same]
 rw [setF_other _ _ e]
 cases x <;> try rfl
 rename_i k z
 cases k <;> try rfl
 simp only [intF]
 by_cases h0 : 0 <= z
 ·rw [if_pos h0, if_pos h0, upN_other]
  intro h
  apply e
  congr 1
  omega
 rw [if_neg h0, if_neg h0]
inductive Role where
 | none | first | users | miss | pile | prow | urow (s : BA) | mset (i : Nat) | out
structure St where
 ρ : Nat -> Role
 mb : Nat -> Nat
 uv : BA -> Option Value
 U : BA -> ZN
 D : Nat -> Prop
 S : Nat -> Prop
 M : Nat -> BA -> Prop
 pv : Value
 R : ZI
 vo : Value
 O : ZN
open Classical in
noncomputable def memF (M : BA -> Prop) : BA -> Option Value := fun s => if M s then some (.agg #[]) else none
open Classical in
noncomputable def missF (D : Nat -> Prop) (mb : Nat -> Nat) : Nat -> Option Value := fun i => if D i then some (.map (some (mb i))) else none
def firstF (l : List Dfn) : BA -> Option Value := fun s => (firstAt l s).map fun (d : Nat) => Value.int .i64 (d : Int)
def natVs (l : ZN) : List Value := l.map fun (i : Nat) => Value.int .i64 (i : Int)
structure OB (w0 : World) (l : List Dfn) (bf bu bm bp t : Nat) (s : St) (w : World) : Prop where
 ext : Ext w0 w
 fresh : ∀ k, w.heap.size <= k -> s.ρ k = .none
 old : ∀ k, k < w0.heap.size -> s.ρ k = .none
 rf : s.ρ bf = .first
 hf : MapAt w 9 bf t (strF (firstF l))
 ru : s.ρ bu = .users
 hu : MapAt w 9 bu t (strF s.uv)
 rows : ∀ x v, s.uv x = some v -> w.ownsRow w0.heap.size 3 1 v (s.U x).length (natVs (s.U x)) /\ ∀ g, v.ownBlock = some g -> s.ρ g = .urow x
 rown : ∀ x, s.uv x = none -> s.U x = []
 rm : s.ρ bm = .miss
 hm : MapAt w 3 bm t (intF (missF s.D s.mb))
 dom : ∀ i, s.D i -> s.S i
 sets : ∀ i, s.S i -> s.ρ (s.mb i) = .mset i /\ MapAt w 9 (s.mb i) t (strF (memF (s.M i)))
 rp : s.ρ bp = .pile
 hp : PileV w0.heap.size bp s.pv s.R w
 rpv : ∀ g, s.pv.ownBlock = some g -> s.ρ g = .prow
 hv : w.ownsRow w0.heap.size 3 1 s.vo s.O.length (natVs s.O)
 rv : ∀ g, s.vo.ownBlock = some g -> s.ρ g = .out
section
variable {w0 : World} {l : List Dfn} {bf bu bm bp t : Nat} {s : St} {w w' : World}
theorem OB.chg (h : OB w0 l bf bu bm bp t s w) {N : ZN} (hc : Chg N w w') (hN : ∀ k ∈ N, s.ρ k = .none) (hN0 : ∀ k ∈ N, w0.heap.size <= k) : OB w0 l bf bu bm bp t s w' := by
 have nn : ∀ k r, s.ρ k = r -> r ≠ .none -> k ∉ N := fun k r h1 h2 h3 => h2 (by rw [<- h1]; exact hN k h3)
 exact { h with
  ext := hc.ext h.ext hN0
  fresh := fun k hk => h.fresh k (Nat.le_trans hc.size hk)
  hf := h.hf.chg hc (nn _ _ h.rf (by simp))
  hu := h.hu.chg hc (nn _ _ h.ru (by simp))
  rows := fun x v hv => ⟨owns_chg (h.rows x v hv).1 hc fun g hg => nn _ _ ((h.rows x v hv).2 g hg) (by simp), (h.rows x v hv).2⟩
  hm := h.hm.chg hc (nn _ _ h.rm (by simp))
  sets := fun i hi => ⟨(h.sets i hi).1, (h.sets i hi).2.chg hc (nn _ _ (h.sets i hi).1 (by simp))⟩
  hp := h.hp.chg hc (nn _ _ h.rp (by simp)) fun g hg => nn _ _ (h.rpv g hg) (by simp)
  hv := owns_chg h.hv hc fun g hg => nn _ _ (h.rv g hg) (by simp) }
theorem OB.extd (h : OB w0 l bf bu bm bp t s w) (hx : Ext w w') : OB w0 l bf bu bm bp t s w' := h.chg (hx.chg []) (by simp) (by simp)
theorem OB.more (h : OB w0 l bf bu bm bp t s w) {t' : Nat} (ht : t <= t') : OB w0 l bf bu bm bp t' s w :=
 {h with hf := h.hf.more ht, hu := h.hu.more ht, hm := h.hm.more ht, sets := fun i hi => ⟨(h.sets i hi).1, (h.sets i hi).2.more ht⟩ }
theorem OB.base (h : OB w0 l bf bu bm bp t s w) {k : Nat} {r : Role} (hk : s.ρ k = r) (hr : r ≠ .none) : w0.heap.size <= k := by
 rcases Nat.lt_or_ge k w0.heap.size with h' | h'
 ·exact absurd (hk.symm.trans (h.old k h')) hr
 exact h'
theorem apart {ρ : Nat -> Role} {a b : Nat} {r q : Role} (ha : ρ a = r) (hb : ρ b = q) (h : r ≠ q) : a ∉ [b] := by
 intro hm
 simp only [List.mem_singleton] at hm
 subst hm
 exact h (ha.symm.trans hb)
def St.newSet (s : St) (i b : Nat) : St := { s with ρ := upN s.ρ b (.mset i), mb := upN s.mb i b, S := fun j => j = i \/ s.S j, M := upN s.M i fun _ => False }
theorem missF_congr {D : Nat -> Prop} {mb mb' : Nat -> Nat} (h2 : ∀ i, D i -> mb i = mb' i) : missF D mb = missF D mb' := by
 funext i
 unfold missF
 by_cases hd : D i
 ·rw [if_pos hd, if_pos hd, h2 i hd]
 rw [if_neg hd, if_neg hd]
theorem memF_false (s : BA) : memF (fun _ => False) s = none := by simp [memF]
theorem OB.newSet (h : OB w0 l bf bu bm bp t s w) {i : Nat} (hi : ¬ s.S i) : OB w0 l bf bu bm bp t (s.newSet i w.heap.size) (w.alloc (.map #[] 0)) := by
 have h' := h.extd ((Ext.refl w).alloc (.map #[] 0))
 have ne : ∀ k r, s.ρ k = r -> r ≠ .none -> upN s.ρ w.heap.size (.mset i) k = r := fun k r h1 h2 => by
  rw [upN_other _ _ (fun e => h2 (by rw [<- h1, e]; exact h.fresh _ (Nat.le_refl _)))]; exact h1
 exact { h' with
  fresh := fun k hk => by
   simp at hk
   show upN s.ρ w.heap.size (.mset i) k = .none
   rw [upN_other _ _ (by omega)]; exact h.fresh k (by omega)
  old := fun k hk => by
   show upN s.ρ w.heap.size (.mset i) k = .none
   rw [upN_other _ _ (by have := h.ext.size; omega)]; exact h.old k hk
  rf := ne _ _ h.rf (by simp)
  ru := ne _ _ h.ru (by simp)
  rows := fun x v hv => ⟨(h'.rows x v hv).1, fun g hg => ne _ _ ((h'.rows x v hv).2 g hg) (by simp)⟩
  rm := ne _ _ h.rm (by simp)
  hm := by
   have e : missF s.D (upN s.mb i w.heap.size) = missF s.D s.mb := missF_congr fun j hj => upN_other _ _ fun e => hi (by rw [<- e]; exact h.dom j hj)
   show MapAt _ _ _ _ (intF (missF s.D (upN s.mb i w.heap.size)))
   rw [e]; exact h'.hm
  dom := fun j hj => Or.inr (h.dom j hj)
  sets := fun j hj => by
   by_cases e : j = i
   ·subst e
    refine ⟨?_, ?_⟩
    ·show upN s.ρ w.heap.size (.mset j) (upN s.mb j w.heap.size j) = _
     rw [upN_same, upN_same]
    show MapAt _ _ (upN s.mb j w.heap.size j) _ (strF (memF (upN s.M j (fun _ => False) j)))
    rw [upN_same, upN_same]
    refine ((MapAt.made w _).more (Nat.zero_le t)).congr fun x => ?_
    cases x <;> simp [strF, memF_false]
   have hj' : s.S j := hj.resolve_left e
   refine ⟨?_, ?_⟩
   ·show upN s.ρ w.heap.size (.mset i) (upN s.mb i w.heap.size j) = _
    rw [upN_other s.mb _ e]
    exact ne _ _ (h.sets j hj').1 (by simp)
   show MapAt _ _ (upN s.mb i w.heap.size j) _ (strF (memF (upN s.M i (fun _ => False) j)))
   rw [upN_other _ _ e, upN_other _ _ e]
   exact (h'.sets j hj').2
  rp := ne _ _ h.rp (by simp)
  rpv := fun g hg => ne _ _ (h.rpv g hg) (by simp)
  rv := fun g hg => ne _ _ (h.rv g hg) (by simp) }
def St.setM (s : St) (i : Nat) (m : BA -> Prop) : St := { s with M := upN s.M i m }
theorem OB.setM (h : OB w0 l bf bu bm bp t s w) {i : Nat} (hi : s.S i) {m : BA -> Prop} (hc : Chg [s.mb i] w w') (hm : MapAt w' 9 (s.mb i) t (strF (memF m))) : OB w0 l bf bu bm bp t (s.setM i m) w' := by
 have hr := (h.sets i hi).1
 exact { h with
  ext := hc.ext h.ext (fun k hk => by simp only [List.mem_singleton] at hk; subst hk; exact h.base hr (by simp))
  fresh := fun k hk => h.fresh k (Nat.le_trans hc.size hk)
  hf := h.hf.chg hc (apart h.rf hr (by simp))
  hu := h.hu.chg hc (apart h.ru hr (by simp))
  rows := fun x v hv => ⟨owns_chg (h.rows x v hv).1 hc fun g hg => apart ((h.rows x v hv).2 g hg) hr (by simp), (h.rows x v hv).2⟩
  hm := h.hm.chg hc (apart h.rm hr (by simp))
  sets := fun j hj => by
   by_cases e : j = i
   ·subst e
    refine ⟨hr, ?_⟩
    show MapAt _ _ _ _ (strF (memF (upN s.M j m j)))
    rw [upN_same]; exact hm
   refine ⟨(h.sets j hj).1, ?_⟩
   show MapAt _ _ _ _ (strF (memF (upN s.M i m j)))
   rw [upN_other _ _ e]
   exact (h.sets j hj).2.chg hc (apart (h.sets j hj).1 hr (by simpa using e))
  hp := h.hp.chg hc (apart h.rp hr (by simp)) fun g hg => apart (h.rpv g hg) hr (by simp)
  hv := owns_chg h.hv hc fun g hg => apart (h.rv g hg) hr (by simp) }
def St.setD (s : St) (i : Nat) : St := { s with D := fun j => j = i \/ s.D j }
theorem OB.setD (h : OB w0 l bf bu bm bp t s w) {i : Nat} (hi : s.S i) (hc : Chg [bm] w w') (hm : MapAt w' 3 bm (t + 1) (intF (upN (missF s.D s.mb) i (some (.map (some (s.mb i))))))) : OB w0 l bf bu bm bp (t + 1) (s.setD i) w' := by
 have hr := h.rm
 have h1 := h.more (Nat.le_succ t)
 exact { h1 with
  ext := hc.ext h.ext (fun k hk => by simp only [List.mem_singleton] at hk; subst hk; exact h.base hr (by simp))
  fresh := fun k hk => h.fresh k (Nat.le_trans hc.size hk)
  hf := h1.hf.chg hc (apart h.rf hr (by simp))
  hu := h1.hu.chg hc (apart h.ru hr (by simp))
  rows := fun x v hv => ⟨owns_chg (h.rows x v hv).1 hc fun g hg => apart ((h.rows x v hv).2 g hg) hr (by simp), (h.rows x v hv).2⟩
  hm := by
   refine hm.congr fun x => ?_
   have e : upN (missF s.D s.mb) i (some (.map (some (s.mb i)))) = missF (fun j => j = i \/ s.D j) s.mb := by
    funext j
    by_cases e : j = i
    ·subst e; rw [upN_same]; simp [missF]
    rw [upN_other _ _ e]
    by_cases hd : s.D j <;> simp [missF, e, hd]
   show _ = intF (missF (fun j => j = i \/ s.D j) s.mb) x
   rw [e]
  dom := fun j hj => by
   rcases hj with rfl | hj
   ·exact hi
   exact h.dom j hj
  sets := fun j hj => ⟨(h1.sets j hj).1, (h1.sets j hj).2.chg hc (apart (h.sets j hj).1 hr (by simp))⟩
  hp := h.hp.chg hc (apart h.rp hr (by simp)) fun g hg => apart (h.rpv g hg) hr (by simp)
  hv := owns_chg h.hv hc fun g hg => apart (h.rv g hg) hr (by simp) }
theorem apart2 {ρ : Nat -> Role} {a b : Nat} {v : Value} {r q q' : Role} (ha : ρ a = r) (hb : ρ b = q) (hv : ∀ g, v.ownBlock = some g -> ρ g = q') (h : r ≠ q) (h' : r ≠ q') : a ∉ b :: rowOf v := by
 intro hm
 rcases List.mem_cons.1 hm with rfl | hm
 ·exact h (ha.symm.trans hb)
 exact h' (ha.symm.trans (hv a (mem_rowOf.1 hm)))
def rerole (ρ : Nat -> Role) (v : Value) (r : Role) : Nat -> Role := fun k => match v.ownBlock with | some g => if k = g then r else ρ k | none => ρ k
theorem rerole_own (ρ : Nat -> Role) {v : Value} {r : Role} {g : Nat} (h : v.ownBlock = some g) : rerole ρ v r g = r := by simp [rerole, h]
theorem rerole_other (ρ : Nat -> Role) {v : Value} {r : Role} {k : Nat} (h : ∀ g, v.ownBlock = some g -> k ≠ g) : rerole ρ v r k = ρ k := by
 unfold rerole
 cases hv : v.ownBlock with
 | none => rfl
 | some g => simp [h g hv]
theorem rerole_keep {ρ : Nat -> Role} {v v' : Value} {r q : Role} {n k : Nat} (hk : ρ k = q) (hq : q ≠ r) (hq0 : q ≠ .none) (hv : ∀ g, v.ownBlock = some g -> ρ g = r) (hfresh : ∀ k, n <= k -> ρ k = .none) (hw : ∀ g, v'.ownBlock = some g -> v.ownBlock = some g \/ n <= g) : rerole ρ v' r k = q := by
 rw [rerole_other, hk]
 intro g hg e
 subst e
 rcases hw k hg with h | h
 ·exact hq (hk.symm.trans (hv k h))
 exact hq0 (hk.symm.trans (hfresh k h))
def St.setP (s : St) (pv : Value) (R : ZI) : St := { s with ρ := rerole s.ρ pv .prow, pv := pv, R := R }
theorem OB.setP (h : OB w0 l bf bu bm bp t s w) {pv : Value} {R : ZI} (hp : PileV w0.heap.size bp pv R w') (hc : Chg (bp :: rowOf s.pv) w w') (hw : ∀ k, pv.ownBlock = some k -> s.pv.ownBlock = some k \/ w.heap.size <= k) : OB w0 l bf bu bm bp t (s.setP pv R) w' := by
 have kp : ∀ {k q}, s.ρ k = q -> q ≠ .prow -> q ≠ .none -> rerole s.ρ pv .prow k = q := fun hk h1 h2 => rerole_keep hk h1 h2 h.rpv h.fresh hw
 have hlt : ∀ g, pv.ownBlock = some g -> w0.heap.size <= g /\ g < w'.heap.size := fun g hg => hp.own.lt g hg
 exact { h with
  ext := hc.ext h.ext (fun k hk => by
   rcases List.mem_cons.1 hk with rfl | hk
   ·exact h.base h.rp (by simp)
   exact h.base (h.rpv k (mem_rowOf.1 hk)) (by simp))
  fresh := fun k hk => by
   show rerole s.ρ pv .prow k = .none
   rw [rerole_other _ (fun g hg => by have := (hlt g hg).2; omega)]
   exact h.fresh k (Nat.le_trans hc.size hk)
  old := fun k hk => by
   show rerole s.ρ pv .prow k = .none
   rw [rerole_other _ (fun g hg => by have := (hlt g hg).1; omega)]
   exact h.old k hk
  rf := kp h.rf (by simp) (by simp)
  hf := h.hf.chg hc (apart2 h.rf h.rp h.rpv (by simp) (by simp))
  ru := kp h.ru (by simp) (by simp)
  hu := h.hu.chg hc (apart2 h.ru h.rp h.rpv (by simp) (by simp))
  rows := fun x v hv => ⟨owns_chg (h.rows x v hv).1 hc fun g hg => apart2 ((h.rows x v hv).2 g hg) h.rp h.rpv (by simp) (by simp), fun g hg => kp ((h.rows x v hv).2 g hg) (by simp) (by simp)⟩
  rm := kp h.rm (by simp) (by simp)
  hm := h.hm.chg hc (apart2 h.rm h.rp h.rpv (by simp) (by simp))
  sets := fun j hj => ⟨kp (h.sets j hj).1 (by simp) (by simp), (h.sets j hj).2.chg hc (apart2 (h.sets j hj).1 h.rp h.rpv (by simp) (by simp))⟩
  rp := kp h.rp (by simp) (by simp)
  hp := hp
  rpv := fun g hg => rerole_own _ hg
  hv := owns_chg h.hv hc fun g hg => apart2 (h.rv g hg) h.rp h.rpv (by simp) (by simp)
  rv := fun g hg => kp (h.rv g hg) (by simp) (by simp) }
theorem apartV {ρ : Nat -> Role} {a : Nat} {v : Value} {r q : Role} (ha : ρ a = r) (hv : ∀ g, v.ownBlock = some g -> ρ g = q) (h : r ≠ q) : a ∉ rowOf v := fun hm => h (ha.symm.trans (hv a (mem_rowOf.1 hm)))
def St.setO (s : St) (vo : Value) (O : ZN) : St := { s with ρ := rerole s.ρ vo .out, vo := vo, O := O }
theorem OB.setO (h : OB w0 l bf bu bm bp t s w) {vo : Value} {O : ZN} (hv : w'.ownsRow w0.heap.size 3 1 vo O.length (natVs O)) (hc : Chg (rowOf s.vo) w w') (hw : ∀ k, vo.ownBlock = some k -> s.vo.ownBlock = some k \/ w.heap.size <= k) : OB w0 l bf bu bm bp t (s.setO vo O) w' := by
 have kp : ∀ {k q}, s.ρ k = q -> q ≠ .out -> q ≠ .none -> rerole s.ρ vo .out k = q := fun hk h1 h2 => rerole_keep hk h1 h2 h.rv h.fresh hw
 have hlt : ∀ g, vo.ownBlock = some g -> w0.heap.size <= g /\ g < w'.heap.size := fun g hg => hv.lt g hg
 exact { h with
  ext := hc.ext h.ext (fun k hk => h.base (h.rv k (mem_rowOf.1 hk)) (by simp))
  fresh := fun k hk => by
   show rerole s.ρ vo .out k = .none
   rw [rerole_other _ (fun g hg => by have := (hlt g hg).2; omega)]
   exact h.fresh k (Nat.le_trans hc.size hk)
  old := fun k hk => by
   show rerole s.ρ vo .out k = .none
   rw [rerole_other _ (fun g hg => by have := (hlt g hg).1; omega)]
   exact h.old k hk
  rf := kp h.rf (by simp) (by simp)
  hf := h.hf.chg hc (apartV h.rf h.rv (by simp))
  ru := kp h.ru (by simp) (by simp)
  hu := h.hu.chg hc (apartV h.ru h.rv (by simp))
  rows := fun x v hv' => ⟨owns_chg (h.rows x v hv').1 hc fun g hg => apartV ((h.rows x v hv').2 g hg) h.rv (by simp), fun g hg => kp ((h.rows x v hv').2 g hg) (by simp) (by simp)⟩
  rm := kp h.rm (by simp) (by simp)
  hm := h.hm.chg hc (apartV h.rm h.rv (by simp))
  sets := fun j hj => ⟨kp (h.sets j hj).1 (by simp) (by simp), (h.sets j hj).2.chg hc (apartV (h.sets j hj).1 h.rv (by simp))⟩
  rp := kp h.rp (by simp) (by simp)
  hp := h.hp.chg hc (apartV h.rp h.rv (by simp)) fun g hg => apartV (h.rpv g hg) h.rv (by simp)
  rpv := fun g hg => kp (h.rpv g hg) (by simp) (by simp)
  hv := hv
  rv := fun g hg => rerole_own _ hg }
noncomputable def St.setU (s : St) (x : BA) (v : Value) (u : ZN) : St := { s with ρ := rerole s.ρ v (.urow x), uv := upS s.uv x (some v), U := upS s.U x u }
def rowV (s : St) (x : BA) : Value := (s.uv x).getD (.slice none 0 0)
theorem OB.rowV_role (h : OB w0 l bf bu bm bp t s w) (x : BA) : ∀ g, (rowV s x).ownBlock = some g -> s.ρ g = .urow x := by
 intro g hg
 unfold rowV at hg
 cases hu : s.uv x with
 | none => rw [hu] at hg; simp [Value.ownBlock] at hg
 | some v => rw [hu] at hg; exact (h.rows x v hu).2 g hg
theorem OB.rowV_own (h : OB w0 l bf bu bm bp t s w) (x : BA) : w.ownsRow w0.heap.size 3 1 (rowV s x) (s.U x).length (natVs (s.U x)) := by
 unfold rowV
 cases hu : s.uv x with
 | none => rw [h.rown x hu]; exact World.ownsRow_nil _ _ _ _
 | some v => exact (h.rows x v hu).1
theorem OB.setU (h : OB w0 l bf bu bm bp t s w) {x : BA} {v : Value} {u : ZN} {w1 : World} (hv : w1.ownsRow w0.heap.size 3 1 v u.length (natVs u)) (hc : Chg (rowOf (rowV s x)) w w1) (hw : ∀ k, v.ownBlock = some k -> (rowV s x).ownBlock = some k \/ w.heap.size <= k)
  (hc2 : Chg [bu] w1 w') (hm : MapAt w' 9 bu (t + 1) (strF (upS s.uv x (some v)))) : OB w0 l bf bu bm bp (t + 1) (s.setU x v u) w' := by
 have hR := h.rowV_role x
 have kp : ∀ {k q}, s.ρ k = q -> q ≠ .urow x -> q ≠ .none -> rerole s.ρ v (.urow x) k = q := fun hk h1 h2 => rerole_keep hk h1 h2 hR h.fresh hw
 have hlt : ∀ g, v.ownBlock = some g -> w0.heap.size <= g /\ g < w1.heap.size := fun g hg => hv.lt g hg
 have hbu : ∀ g, v.ownBlock = some g -> g ∉ [bu] := fun g hg hm => by
  simp only [List.mem_singleton] at hm
  subst hm
  rcases hw g hg with h1 | h1
  ·exact absurd (h.ru.symm.trans (hR g h1)) (by simp)
  exact absurd (h.ru.symm.trans (h.fresh g h1)) (by simp)
 have hcc : Chg (bu :: rowOf (rowV s x)) w w' := Chg.trans (Chg.trans (Chg.refl _ _) hc (fun k hk => Or.inl (List.mem_cons_of_mem _ hk))) hc2 (fun k hk => Or.inl (by simp only [List.mem_singleton] at hk; simp [hk]))
 have h1 := h.more (Nat.le_succ t)
 exact { h1 with
  ext := hcc.ext h.ext (fun k hk => by
   rcases List.mem_cons.1 hk with rfl | hk
   ·exact h.base h.ru (by simp)
   exact h.base (hR k (mem_rowOf.1 hk)) (by simp))
  fresh := fun k hk => by
   show rerole s.ρ v (.urow x) k = .none
   have := hc2.size
   rw [rerole_other _ (fun g hg => by have := (hlt g hg).2; omega)]
   exact h.fresh k (Nat.le_trans hcc.size hk)
  old := fun k hk => by
   show rerole s.ρ v (.urow x) k = .none
   rw [rerole_other _ (fun g hg => by have := (hlt g hg).1; omega)]
   exact h.old k hk
  rf := kp h.rf (by simp) (by simp)
  hf := h1.hf.chg hcc (apart2 h.rf h.ru hR (by simp) (by simp))
  ru := kp h.ru (by simp) (by simp)
  hu := hm
  rows := fun y u' hy => by
   by_cases e : y = x
   ·subst e
    have e1 : upS s.uv y (some v) y = some v := upS_same _ _ _
    have e2 : some v = some u' := e1.symm.trans hy
    cases e2
    refine ⟨?_, fun g hg => rerole_own _ hg⟩
    show World.ownsRow _ _ _ _ _ (upS s.U y u y).length (natVs (upS s.U y u y))
    rw [upS_same]
    exact owns_chg hv hc2 hbu
   have e1 : s.uv y = some u' := (upS_other s.uv (some v) e).symm.trans hy
   obtain ⟨r1, r2⟩ := h.rows y u' e1
   refine ⟨?_, fun g hg => kp (r2 g hg) (by simpa using e) (by simp)⟩
   show World.ownsRow _ _ _ _ _ (upS s.U x u y).length (natVs (upS s.U x u y))
   rw [upS_other _ _ e]
   exact owns_chg r1 hcc fun g hg => apart2 (r2 g hg) h.ru hR (by simp) (by simpa using e)
  rown := fun y hy => by
   by_cases e : y = x
   ·subst e
    have e1 : upS s.uv y (some v) y = some v := upS_same _ _ _
    have e2 : some v = none := e1.symm.trans hy
    cases e2
   have e1 : s.uv y = none := (upS_other s.uv (some v) e).symm.trans hy
   show upS s.U x u y = []
   rw [upS_other _ _ e]
   exact h.rown y e1
  rm := kp h.rm (by simp) (by simp)
  hm := h1.hm.chg hcc (apart2 h.rm h.ru hR (by simp) (by simp))
  sets := fun j hj => ⟨kp (h.sets j hj).1 (by simp) (by simp), (h1.sets j hj).2.chg hcc (apart2 (h.sets j hj).1 h.ru hR (by simp) (by simp))⟩
  rp := kp h.rp (by simp) (by simp)
  hp := h.hp.chg hcc (apart2 h.rp h.ru hR (by simp) (by simp)) fun g hg => apart2 (h.rpv g hg) h.ru hR (by simp) (by simp)
  rpv := fun g hg => kp (h.rpv g hg) (by simp) (by simp)
  hv := owns_chg h.hv hcc fun g hg => apart2 (h.rv g hg) h.ru hR (by simp) (by simp)
  rv := fun g hg => kp (h.rv g hg) (by simp) (by simp) }
end
end Go.Proofs.YtefjomofjejklaaGreatDoor

/-
 DERIVED: THE SHELF's CONTRACTS AT THIS DUMP, IN PLAIN WORDS (tools/lay-plain.mjs out of 'TrydLay.lean', which tools/lay-shelf.mjs wrote): THE SAME DECLARATIONS UNDER THE SAME NAMES: 'import', 'namespace', 'open', 'def', 'theorem' AND NOTHING ELSE: no command of the shelf's: FOR A HAND-IN. Each laying: the table of numbers ('.._ren') and one theorem, a field a fact of the dump's own or the kernel's comparison; each contract: ONE APPLICATION.
-/
namespace Go.Proofs
set_option maxRecDepth 100000
set_option maxHeartbeats 32000000
open Go.Shelf
def Tryz.keys42_ren : Go.Shelf.Ren := ⟨fun | 7 => 142 | 10 => 172 | n => n, fun | 23 => 174 | 26 => 9 | 3 => 176 | 28 => 207 | 0 => 0 | 27 => 206 | 33 => 160 | 4 => 4 | n => n, fun | n => n⟩
theorem Tryz.keys42 : Go.Proofs.SlLaysZ.n7 Tryz.prog Tryz.keys42_ren := {
 mixed := by kernel_rfl
 f7 := ⟨Tryz.f142.name, by decide, Tryz.func142.trans (congrArg some (by kernel_rfl))⟩
 f10 := ⟨Tryz.f172.name, by decide, Tryz.func172.trans (congrArg some (by kernel_rfl))⟩
 t0 := Tryz.underlying0
 a0 := Tryz.isAgg0
 z0 := Tryz.sizeOf0
 v0 := Tryz.zeroValue0
 t4 := Tryz.underlying4
 a4 := Tryz.isAgg4
 z4 := Tryz.sizeOf4
 v4 := Tryz.zeroValue4
 t23 := Tryz.underlying174
 a23 := Tryz.isAgg174
 z23 := Tryz.sizeOf174
 v23 := Tryz.zeroValue174
 t26 := Tryz.underlying9
 a26 := Tryz.isAgg9
 z26 := Tryz.sizeOf9
 v26 := Tryz.zeroValue9
 t27 := Tryz.underlying206
 a27 := Tryz.isAgg206
 z27 := Tryz.sizeOf206
 v27 := Tryz.zeroValue206
 t28 := Tryz.underlying207
 a28 := Tryz.isAgg207
 z28 := Tryz.sizeOf207
 v28 := Tryz.zeroValue207
 t33 := Tryz.underlying160
 a33 := Tryz.isAgg160
 z33 := Tryz.sizeOf160
 v33 := Tryz.zeroValue160 }
def Tryz.sorted41_ren : Go.Shelf.Ren := ⟨fun | 6 => 141 | 8 => 170 | 9 => 171 | 11 => 185 | 13 => 187 | 12 => 186 | 23 => 199 | 24 => 200 | 14 => 190 | 15 => 191 | 16 => 192 | 17 => 193 | 18 => 194 | 19 => 195 | 20 => 196 | 21 => 197 | 22 => 198 | 25 => 201 | 26 => 202 | 27 => 203 | 28 => 204 | 29 => 205 | 30 => 206 | 31 => 207 | n => n, fun | 26 => 9 | 28 => 207 | 24 => 42 | 0 => 0 | 3 => 3 | 37 => 240 | 48 => 254 | 50 => 256 | 4 => 4 | 40 => 247 | 39 => 246 | 45 => 145 | 5 => 5 | 9 => 9 | 51 => 257 | 55 => 228 | 57 => 262 | 58 => 117 | 33 => 160 | n => n, fun | n => n⟩
theorem Tryz.sorted41 : Go.Proofs.SlLaysZ.n6 Tryz.prog Tryz.sorted41_ren := {
 mixed := by kernel_rfl
 f6 := ⟨Tryz.f141.name, by decide, Tryz.func141.trans (congrArg some (by kernel_rfl))⟩
 f8 := ⟨Tryz.f170.name, by decide, Tryz.func170.trans (congrArg some (by kernel_rfl))⟩
 f11 := ⟨Tryz.f185.name, by decide, Tryz.func185.trans (congrArg some (by kernel_rfl))⟩
 t0 := Tryz.underlying0
 a0 := Tryz.isAgg0
 z0 := Tryz.sizeOf0
 v0 := Tryz.zeroValue0
 t24 := Tryz.underlying42
 a24 := Tryz.isAgg42
 z24 := Tryz.sizeOf42
 v24 := Tryz.zeroValue42
 t26 := Tryz.underlying9
 a26 := Tryz.isAgg9
 z26 := Tryz.sizeOf9
 v26 := Tryz.zeroValue9
 t28 := Tryz.underlying207
 a28 := Tryz.isAgg207
 z28 := Tryz.sizeOf207
 v28 := Tryz.zeroValue207
 i26 := by kernel_rfl }
def Tryz.sort61_ren : Go.Shelf.Ren := ⟨fun | 6 => 171 | 8 => 187 | 9 => 186 | 19 => 199 | 20 => 200 | 21 => 190 | 22 => 191 | 23 => 192 | 24 => 193 | 25 => 194 | 26 => 195 | 27 => 196 | 28 => 197 | 29 => 198 | 36 => 201 | 31 => 202 | 32 => 203 | 37 => 204 | 38 => 205 | 39 => 206 | 41 => 207 | n => n, fun | 27 => 42 | 29 => 9 | 3 => 3 | 32 => 240 | 26 => 42 | 0 => 0 | 44 => 254 | 46 => 256 | 4 => 4 | 36 => 247 | 35 => 246 | 41 => 145 | 5 => 5 | 9 => 9 | 53 => 257 | 57 => 228 | 63 => 262 | 64 => 117 | n => n, fun | n => n⟩
theorem Tryz.sort61 : Go.Proofs.SlLaysM.n6 Tryz.prog Tryz.sort61_ren := {
 mixed := by kernel_rfl
 f6 := ⟨Tryz.f171.name, by decide, Tryz.func171.trans (congrArg some (by kernel_rfl))⟩
 f8 := Tryz.func187.trans (congrArg some (by kernel_rfl))
 f9 := ⟨Tryz.f186.name, by decide, Tryz.func186.trans (congrArg some (by kernel_rfl))⟩
 f19 := Tryz.func199.trans (congrArg some (by kernel_rfl))
 f20 := Tryz.func200.trans (congrArg some (by kernel_rfl))
 f21 := ⟨Tryz.f190.name, by decide, Tryz.func190.trans (congrArg some (by kernel_rfl))⟩
 f22 := ⟨Tryz.f191.name, by decide, Tryz.func191.trans (congrArg some (by kernel_rfl))⟩
 f23 := ⟨Tryz.f192.name, by decide, Tryz.func192.trans (congrArg some (by kernel_rfl))⟩
 f24 := ⟨Tryz.f193.name, by decide, Tryz.func193.trans (congrArg some (by kernel_rfl))⟩
 f25 := ⟨Tryz.f194.name, by decide, Tryz.func194.trans (congrArg some (by kernel_rfl))⟩
 f26 := ⟨Tryz.f195.name, by decide, Tryz.func195.trans (congrArg some (by kernel_rfl))⟩
 f27 := ⟨Tryz.f196.name, by decide, Tryz.func196.trans (congrArg some (by kernel_rfl))⟩
 f28 := ⟨Tryz.f197.name, by decide, Tryz.func197.trans (congrArg some (by kernel_rfl))⟩
 f29 := ⟨Tryz.f198.name, by decide, Tryz.func198.trans (congrArg some (by kernel_rfl))⟩
 f31 := Tryz.func202.trans (congrArg some (by kernel_rfl))
 f32 := Tryz.func203.trans (congrArg some (by kernel_rfl))
 f36 := ⟨Tryz.f201.name, by decide, Tryz.func201.trans (congrArg some (by kernel_rfl))⟩
 f37 := ⟨Tryz.f204.name, by decide, Tryz.func204.trans (congrArg some (by kernel_rfl))⟩
 f38 := ⟨Tryz.f205.name, by decide, Tryz.func205.trans (congrArg some (by kernel_rfl))⟩
 f39 := ⟨Tryz.f206.name, by decide, Tryz.func206.trans (congrArg some (by kernel_rfl))⟩
 f41 := ⟨Tryz.f207.name, by decide, Tryz.func207.trans (congrArg some (by kernel_rfl))⟩
 t0 := Tryz.underlying0
 a0 := Tryz.isAgg0
 z0 := Tryz.sizeOf0
 v0 := Tryz.zeroValue0
 t3 := Tryz.underlying3
 a3 := Tryz.isAgg3
 z3 := Tryz.sizeOf3
 v3 := Tryz.zeroValue3
 t4 := Tryz.underlying4
 a4 := Tryz.isAgg4
 z4 := Tryz.sizeOf4
 v4 := Tryz.zeroValue4
 t5 := Tryz.underlying5
 a5 := Tryz.isAgg5
 z5 := Tryz.sizeOf5
 v5 := Tryz.zeroValue5
 t9 := Tryz.underlying9
 a9 := Tryz.isAgg9
 z9 := Tryz.sizeOf9
 v9 := Tryz.zeroValue9
 t26 := Tryz.underlying42
 a26 := Tryz.isAgg42
 z26 := Tryz.sizeOf42
 v26 := Tryz.zeroValue42
 t27 := Tryz.underlying42
 a27 := Tryz.isAgg42
 z27 := Tryz.sizeOf42
 v27 := Tryz.zeroValue42
 t29 := Tryz.underlying9
 a29 := Tryz.isAgg9
 z29 := Tryz.sizeOf9
 v29 := Tryz.zeroValue9
 t32 := Tryz.underlying240
 a32 := Tryz.isAgg240
 z32 := Tryz.sizeOf240
 v32 := Tryz.zeroValue240
 t35 := Tryz.underlying246
 a35 := Tryz.isAgg246
 z35 := Tryz.sizeOf246
 v35 := Tryz.zeroValue246
 t36 := Tryz.underlying247
 a36 := Tryz.isAgg247
 z36 := Tryz.sizeOf247
 v36 := Tryz.zeroValue247
 t41 := Tryz.underlying145
 a41 := Tryz.isAgg145
 z41 := Tryz.sizeOf145
 v41 := Tryz.zeroValue145
 t44 := Tryz.underlying254
 a44 := Tryz.isAgg254
 z44 := Tryz.sizeOf254
 v44 := Tryz.zeroValue254
 t46 := Tryz.underlying256
 a46 := Tryz.isAgg256
 z46 := Tryz.sizeOf256
 v46 := Tryz.zeroValue256
 t53 := Tryz.underlying257
 a53 := Tryz.isAgg257
 z53 := Tryz.sizeOf257
 v53 := Tryz.zeroValue257
 t57 := Tryz.underlying228
 a57 := Tryz.isAgg228
 z57 := Tryz.sizeOf228
 v57 := Tryz.zeroValue228
 t63 := Tryz.underlying262
 a63 := Tryz.isAgg262
 z63 := Tryz.sizeOf262
 v63 := Tryz.zeroValue262
 t64 := Tryz.underlying117
 a64 := Tryz.isAgg117
 z64 := Tryz.sizeOf117
 v64 := Tryz.zeroValue117 }
end Go.Proofs

/-
 slices.Sorted(maps.Keys(m)) at this program: the shelf's contracts, as lay-iter.mjs lays them.
-/
namespace Go.Proofs
set_option maxRecDepth 100000
set_option maxHeartbeats 32000000
open Go.RowKit Go.Maps Go.Sort Go.Shelf
theorem Tryz.sorts41 (m : Nat) : AnyZ.SortsIn Tryz.prog Tryz.sorted41_ren Fence.wide m :=
 ⟨fun blk off cap ss W hH hblk hsz => callsIn_wide.2 (AnyM.slices_Sort_string Tryz.sort61 blk off cap ss W hH hblk hsz),
 fun p cap W => callsIn_wide.2 (AnyM.slices_Sort_string_none Tryz.sort61 p cap W)⟩
theorem Tryz.maps_Keys_42 (mb : Option Nat) (W : World) : CallsIn Fence.wide 5 Tryz.prog 142 #[.map mb] W fun e w' => e = .returned (.func (.func 172) #[] #[.pointer (some ⟨W.heap.size, 0, none⟩)]) /\ w' = W.alloc (.cells #[.map mb] 174) :=
 AnyZ.keys_in Tryz.keys42 Fence.wide 5 trivial rfl mb W
theorem Tryz.slices_Sorted_keys_41_42 {H : Type} (b nn : Nat) (D0 : DataW H) (R : Value -> Option (DataW H × List MemPlace)) (w : World) (hown : w.ownsMap Tryz.prog 9 R b nn D0) (hmax : Maps.size D0 <= maxLen) (hbytes : Maps.size D0 * 16 <= 140737488355328) :
  CallsIn Fence.wide 5 Tryz.prog 141 #[.func (.func 172) #[] #[.pointer (some ⟨w.heap.size, 0, none⟩)]] (w.alloc (.cells #[.map (some b)] 174)) fun e w' => ∃ (v : Value) (ss : List (List UInt8)), e = .returned v /\ ss.Perm (strKeys D0) /\
   w'.ownsRow (w.alloc (.cells #[.map (some b)] 174)).heap.size 9 1 v ss.length ((ss.mergeSort (fun x y => decide (x <= y))).map encStr) /\ (v = .slice none 0 0 ↔ ss = []) /\ Below (w.alloc (.cells #[.map (some b)] 174)).heap.size (w.alloc (.cells #[.map (some b)] 174)) w' := by
 have hbl := hown.lt
 have hseq : SeqGives Fence.wide 2 Tryz.prog 172 #[.pointer (some ⟨w.heap.size, 0, none⟩)] encStr (fun ss => ss.Perm (strKeys D0)) (Maps.size D0) (w.alloc (.cells #[.map (some b)] 174)) :=
  AnyZ.keys_gives (ρ := Tryz.keys42_ren) { Tryz.keys42 with } Fence.wide _ trivial rfl (by omega) w.heap.size b nn D0 _ (by simp) (by simp) (by
   obtain ⟨es, clock, hb, Ft, hs, hD⟩ := hown
   exact ⟨es, clock, (Below.heap_alloc _ _ b hbl).trans hb, Ft, hs, hD⟩)
 exact AnyZ.sorted_in Tryz.sorted41 Fence.wide 5 trivial trivial trivial trivial rfl (by omega) (Tryz.sorts41 _) (enters_of Tryz.func171 (by kernel_rfl) rfl) 172 #[.pointer (some ⟨w.heap.size, 0, none⟩)] trivial (enters_of Tryz.func172 (by kernel_rfl) rfl) _ _ hmax hbytes _ hseq
end Go.Proofs

namespace Go.Proofs.YtefjomofjejklaaGreatDoor
set_option maxRecDepth 100000
set_option maxHeartbeats 32000000
open Go.RowKit Go.Maps Go.Sort Go.Shelf
theorem strs_of_row {w : World} {base : Nat} {l : ZB} {v : Value} {n : Nat} (h : w.ownsRow base 9 1 v n ((l.map (·.data.toList)).map encStr)) (hn : n = l.length) : ∃ a c, v = .slice a l.length c /\ IsStrs w l a l.length c := by
 subst hn
 have e : (l.map (·.data.toList)).map encStr = l.flatMap strCells := by
  clear h
  induction l with
  | nil => rfl
  | cons x r ih => simp only [List.map_cons, ih, List.flatMap_cons, strCells]; rfl
 rw [e] at h
 obtain ⟨a, c, h1, _, h2⟩ := strs_of_owns h [] (by simp)
 exact ⟨a, c, h1, h2⟩
theorem size_owned {w : World} {b n : Nat} {D : DataW Unit} {R : Value -> Option (DataW Unit × List MemPlace)} (h : w.ownsMap Tryz.prog 9 R b n D) : Maps.size D <= n := by
 obtain ⟨es, clock, _, _, hs, rfl⟩ := h
 simp only [Maps.size]
 rw [length_sorted]
 simpa using hs
def PutQF (l : ZB) (w : World) (e : Ending) (w' : World) : Prop := ∃ (a : OA) (c : Nat), e = .returned (.slice a l.length c) /\ IsStrs w' l a l.length c /\ Ext w w' /\ ∀ b off, a = some ⟨b, off, none⟩ -> w.heap.size <= b
theorem synNamesF_calls (e : Ex) (v : Value) (w : World) (hs : e.size <= 900000) (hf : e.fits) (he : IsEx w e v) : Calls Tryz.prog 109 #[v] w (PutQF (refNames (namesE e)) w) := by
 obtain ⟨aw, nw, cw, aa, na, ca, rfl, -, -, -, -, -⟩ := he.parts
 have HX := hI (((Ext.refl w).alloc (.cells #[.int .i64 e.op, .string e.name, .slice aw nw cw, .int .i64 e.lo, .int .i64 e.hi, .slice aa na ca] 45)).alloc (.map #[] 0))
 have HSET := hI (show SetAt ((w.alloc (.cells #[.int .i64 e.op, .string e.name, .slice aw nw cw, .int .i64 e.lo, .int .i64 e.hi, .slice aa na ca] 45)).alloc (.map #[] 0)) (w.heap.size + 1) 0 [] from
  ⟨.map [], by have := World.ownsMap_made (H := Unit) (w.alloc (.cells #[.int .i64 e.op, .string e.name, .slice aw nw cw, .int .i64 e.lo, .int .i64 e.hi, .slice aa na ca] 45)) Tryz.prog 9 unitElem; simpa using this, setIs_nil⟩)
 have HE := hI (show IsEx (mask ((w.alloc (.cells #[.int .i64 e.op, .string e.name, .slice aw nw cw, .int .i64 e.lo, .int .i64 e.hi, .slice aa na ca] 45)).alloc (.map #[] 0)) [w.heap.size + 1]) e (exV e.op e.name aw nw cw e.lo e.hi aa na ca) from
  he.mono (fun p q hp => by
   have hb := block_lt hp
   rw [mask_cell, if_neg (by simp; omega)]
   exact HX.out.cell hp))
 have HC := hI (collect_calls 900000 (by omega) e _ _ _ _ _ hs hf HE.out HSET.out (by omega))
 have hmm := @run_makeMap Tryz.prog
 rw [List.nil_append] at HC
 clear he HSET HE
 unfold exV at *
 refine (callsIn_wide (n := 6)).1 ?_
 have hfK : Fence.wide.fn 142 := trivial
 have hfS : Fence.wide.fn 141 := trivial
 have hfC : Fence.wide.fn 140 := trivial
 refine callsIn_of_wp Tryz.func109 rfl trivial ?_ rfl
 simp only [Tryz.ntmps109, List.size_toArray, List.length_cons, List.length_nil, Nat.reduceAdd, Nat.reduceSub, Array.replicate_succ, Array.replicate_zero, List.push_toArray, List.append_toArray, List.nil_append, List.cons_append]
 gi_wp2_with (first
  | (gi_at_call 140; refine (callsIn_wide.2 HC.out).mono ?_; rintro r w1 ⟨rfl, hset1, hc1⟩)
  | (gi_at_call 142; refine (Tryz.maps_Keys_42 _ _).mono ?_; rintro r w' ⟨rfl, rfl⟩))
 obtain ⟨D, hown, hsi⟩ := hset1
 have hsize := size_owned hown
 have hwx := hc1.ext HX.out (by simp)
 have HX1 := hI hwx
 have HSI := hI hsi
 clear hc1 hsi hwx
 refine (Tryz.slices_Sorted_keys_41_42 (w.heap.size + 1) _ D _ w1 hown (by unfold maxLen; omega) (by omega)).mono ?_
 rintro r w2 ⟨v, ss, rfl, hS, hrow, -, hb⟩
 have hsame := names_same HSI.out hS
 have hlen : ss.length = (refNames (namesE e)).length := by
  have := congrArg List.length hsame
  simpa using this
 rw [hsame] at hrow
 have hfr := hrow.lt
 obtain ⟨ra, rc, rfl, hst⟩ := strs_of_row hrow hlen
 have HFR := hI (show ∀ b off, ra = some ⟨b, off, none⟩ -> w.heap.size <= b by
  intro b off e
  subst e
  have h1 := (hfr b rfl).1
  have h2 := HX1.out.size
  simp at h1
  omega)
 have HST := hI hst
 have HX2 := hI ((HX1.out.alloc (.cells #[.map (some (w.heap.size + 1))] 174)).trans hb)
 clear hrow hst hb hS hsame hlen hown hsize hfr
 gi_wp2_with (fail)
 go_ret
 exact ⟨ra, rc, rfl, HST.out, HX2.out, HFR.out⟩
open Go.RowKit Go.Maps
def Cl.dfn (c : Cl) : Dfn := ⟨c.kind == 1, c.name, refNames (namesE c.cond)⟩
def IsInts (w : World) (l : ZI) (a : OA) (n c : Nat) : Prop :=
 n = l.length /\ n <= c /\ OkAddr a c /\ ∀ i (h : i < l.length), ∃ b off, a = some ⟨b, off, none⟩ /\ w.cell? ⟨b, off + i, none⟩ = some (.int .i64 l[i])
theorem IsInts.mono {w w' : World} {l : ZI} {a : OA} {n c : Nat} (h : IsInts w l a n c) (he : Sub w w') : IsInts w' l a n c :=
 ⟨h.1, h.2.1, h.2.2.1, fun i hi => by obtain ⟨b, off, h1, h2⟩ := h.2.2.2 i hi; exact ⟨b, off, h1, he _ _ h2⟩⟩
def ints (o : ZN) : ZI := o.map fun (i : Nat) => (i : Int)
def OrdQ (l : List Dfn) (w : World) (e : Ending) (w' : World) : Prop := Ext w w' /\
 ((∃ o a c, Topo l o /\ e = .returned (.tuple #[.slice a o.length c, .int .i64 0]) /\ IsInts w' (ints o) a o.length c) \/ (∃ o, OInv l o [] /\ o.length < countOf l /\ e = .returned (.tuple #[.slice none 0 0, .int .i64 10])))
theorem first_take {l : List Dfn} {k : Nat} (hk : k < l.length) (s : BA) : firstAt (l.take (k + 1)) s = match firstAt (l.take k) s with | some d => some d | none => if l[k].is = true /\ l[k].name = s then some k else none := by
 unfold firstAt
 rw [List.take_succ_eq_append_getElem hk, List.findIdx?_append]
 cases h : (l.take k).findIdx? fun d => d.is && decide (d.name = s) with
 | some d => simp
 | none =>
  simp only [List.findIdx?_cons, List.findIdx?_nil, List.length_take]
  by_cases hc : l[k].is = true /\ l[k].name = s
  ·simp [hc]; omega
  rw [if_neg hc]
  have : (l[k].is && decide (l[k].name = s)) = false := by
   simp only [Bool.and_eq_false_iff, decide_eq_false_iff_not]
   by_cases h1 : l[k].is = true
   ·exact Or.inr fun h2 => hc ⟨h1, h2⟩
   exact Or.inl (by simpa using h1)
  simp [this]
theorem uMapSI : Tryz.prog.underlying 136 = some (.map 9 3) := by kernel_rfl
theorem uMapSIs : Tryz.prog.underlying 173 = some (.map 9 26) := by kernel_rfl
theorem uMapIM : Tryz.prog.underlying 172 = some (.map 3 174) := by kernel_rfl
theorem uInt3 : Tryz.prog.underlying 3 = some (.int .i64) := by kernel_rfl
theorem keyedInt : Keyed Tryz.prog 3 := int_keyed uInt3
theorem zeroInt (w : World) : (zeroValue 3).run Tryz.prog w = .ok (.int .i64 0) w := by kernel_rfl
theorem zeroInts (w : World) : (zeroValue 26).run Tryz.prog w = .ok (.slice none 0 0) w := by kernel_rfl
theorem zeroSet (w : World) : (zeroValue 174).run Tryz.prog w = .ok (.map none) w := by kernel_rfl
theorem keyStr {s : BA} (h : s.size <= 1000000000000000) : keyOf Tryz.prog 9 (.string s) = some (.string s.data.toList) := Go.WideMaps.keyOf_string_mk uStr2 (by unfold maxLen; omega)
theorem keyInt {i : Nat} (h : i <= 1000000000000000) : keyOf Tryz.prog 3 (.int .i64 i) = some (.int .i64 i) := keyOf_int_mk uInt3 (by simp [Lit.wf, IntKind.min, IntKind.max, IntKind.bits, IntKind.signed]; omega)
theorem firstF_none {l : List Dfn} {s : BA} (h : firstAt l s = none) : strF (firstF l) (.string s.data.toList) = none := by rw [strF_at, firstF, h]; rfl
theorem firstF_some {l : List Dfn} {s : BA} {d : Nat} (h : firstAt l s = some d) : strF (firstF l) (.string s.data.toList) = some (.int .i64 d) := by rw [strF_at, firstF, h]; rfl
theorem firstF_step {l : List Dfn} {k : Nat} (hk : k < l.length) (hd : l[k].is = true) (hf : firstAt (l.take k) l[k].name = none) (x : Lit) : setF (strF (firstF (l.take k))) (.string l[k].name.data.toList) (some (.int .i64 k)) x = strF (firstF (l.take (k + 1))) x := by
 rw [setF_str]
 cases x <;> try rfl
 rename_i bs
 simp only [strF]
 by_cases e : (⟨bs.toArray⟩ : BA) = l[k].name
 ·rw [e, upS_same, firstF, first_take hk, hf]
  simp [hd]
 rw [upS_other _ _ e, firstF, firstF, first_take hk]
 cases firstAt (l.take k) ⟨bs.toArray⟩ with
 | some d => rfl
 | none =>
  have : ¬ (l[k].is = true /\ l[k].name = ⟨bs.toArray⟩) := fun h => e h.2.symm
  rw [if_neg this]
theorem firstF_skip {l : List Dfn} {k : Nat} (hk : k < l.length) (hd : l[k].is = false \/ firstAt (l.take k) l[k].name ≠ none) (x : Lit) : strF (firstF (l.take k)) x = strF (firstF (l.take (k + 1))) x := by
 cases x <;> try rfl
 rename_i bs
 simp only [strF, firstF]
 rw [first_take hk]
 cases h : firstAt (l.take k) ⟨bs.toArray⟩ with
 | some d => rfl
 | none =>
  have : ¬ (l[k].is = true /\ l[k].name = ⟨bs.toArray⟩) := by
   rintro ⟨h1, h2⟩
   rcases hd with h3 | h3
   ·rw [h3] at h1; cases h1
   rw [h2] at h3; exact h3 h
  rw [if_neg this]
def natF (D : BA -> Option Nat) : BA -> Option Value := fun s => (D s).map fun (n : Nat) => Value.int .i64 (n : Int)
mutual
theorem szE_le {D : BA -> Option Nat} (hD : ∀ s n, D s = some n -> n <= 2001) : (e : Ex) -> szE D e <= 2001
 | .mk op name _ _ _ args => by
  rw [szE]
  have hl := szL_le hD args 1 (by omega)
  by_cases h3 : op = 3
  ·rw [if_pos h3]
   cases hd : D name with
   | none => exact hl
   | some n => exact hD name n hd
  rw [if_neg h3]
  exact hl
theorem szL_le {D : BA -> Option Nat} (hD : ∀ s n, D s = some n -> n <= 2001) : (l : List Ex) -> ∀ n, n <= 2001 -> szL D n l <= 2001
 | [], n, hn => by simp [szL]; omega
 | e :: r, n, hn => by
  rw [szL]
  exact szL_le hD r _ (by omega)
end
def CExpL (D : BA -> Option Nat) (na : Nat) (args : List Ex) (w1 : World) (t i : Value) (wr : World) : Prop := ∃ k : Nat, i = .int .i64 k /\ k <= na /\ t = .int .i64 ((szL D 1 (args.take k) : Nat) : Int) /\ szL D 1 (args.take k) <= 2001 /\ Ext w1 wr
theorem cexp_calls (D : BA -> Option Nat) (hD : ∀ s n, D s = some n -> n <= 2001) (bm nm : Nat) : ∀ (m : Nat) (e : Ex) (ev : Value) (w : World), e.size <= m -> m <= 1000000000000000 -> e.fits -> MapAt w 9 bm nm (strF (natF D)) -> IsEx w e ev ->
  Calls Tryz.prog 83 #[.map (some bm), ev] w (GivesE (.int .i64 (szE D e)) w) := by
 intro m
 induction m with
 | zero => intro e ev w h; have := size_pos e; omega
 | succ m ihm =>
  intro e ev w hm hMM hfit hmap he
  obtain ⟨aw, nw, cw, aa, na, ca, rfl, hw, hna, hca, ha, hx⟩ := he.parts
  obtain ⟨hnm, hfa⟩ := fits_parts2 hfit
  have hS : e.size = 1 + sizes e.args := e.size_eq
  have hla := length_le_sizes e.args
  have hna2 : na <= 1000000000000000 := by omega
  have hszm : sizes e.args <= m := by omega
  have HM := hI hmap
  have HX := hI hx
  have HNA := hI hna
  have HFA := hI hfa
  have HSL := hI (szE_le hD)
  have HEQ := hI (szE_eq' D e)
  have IHM := hI ihm
  clear hw hna hca ha hx he hS hla ihm hm hfa hfit hmap
  unfold exV
  obtain ⟨wa, hwa⟩ : ∃ wa, wa = w.alloc (.cells #[.int .i64 e.op, .string e.name, .slice aw nw cw, .int .i64 e.lo, .int .i64 e.hi, .slice aa na ca] 45) := ⟨_, rfl⟩
  have hxa : Ext w wa := by rw [hwa]; exact (Ext.refl _).alloc _
  have hb1 : wa.heap[w.heap.size]? = some (.cells #[.int .i64 e.op, .string e.name, .slice aw nw cw, .int .i64 e.lo, .int .i64 e.hi, .slice aa na ca] 45 (0, 0)) := by rw [hwa]; exact alloc_new w _
  have HXA := hI hxa
  have HB1 := hI hb1
  obtain ⟨f0, f1, f2, f3, f4, f5, ff⟩ := blk6 hb1
  have hltw := blk_lt hb1
  have HMA := hI (HM.out.ext hxa)
  clear hxa hb1
  by_cases hdef : e.op = 3 /\ (D e.name).isSome = true
  ·obtain ⟨h3, hds⟩ := hdef
   obtain ⟨q, hq⟩ := Option.isSome_iff_exists.1 hds
   have t3 : (e.op == 3) = true := by simp [h3]
   have HQ := hI (show szE D e = q by rw [HEQ.out, if_pos h3, hq])
   have HF := hI (show strF (natF D) (.string e.name.data.toList) = some (.int .i64 q) by rw [strF_at, natF, hq]; rfl)
   clear hds hq h3 HEQ
   go_enter Tryz.func83, Tryz.ntmps83
   go_upto_region 2 with fail
   rw [<- hwa]
   clear hwa
   go_wp2_with (at_lookup; refine wpList_map_ok _ rfl _ _ 136 rfl 9 3 keyedStr uMapSI (zeroInt _) bm nm _ rfl HMA.out _ _ rfl (keyStr hnm) trivial ?_; rw [HF.out])
   go_ret
   exact givesE_of (by rw [HQ.out]) HXA.out
  have HQ := hI (show szE D e = szL D 1 e.args by
   rw [HEQ.out]
   by_cases h3 : e.op = 3
   ·rw [if_pos h3]
    cases hd : D e.name with
    | none => rfl
    | some q => exact absurd ⟨h3, by rw [hd]; rfl⟩ hdef
   rw [if_neg h3])
  clear HEQ
  by_cases h3 : e.op = 3
  case' pos =>
   have t3 : (e.op == 3) = true := by simp [h3]
   have HF := hI (show strF (natF D) (.string e.name.data.toList) = none by
    rw [strF_at, natF]
    cases hd : D e.name with
    | none => rfl
    | some q => exact absurd ⟨h3, by rw [hd]; rfl⟩ hdef)
   clear h3 hdef
   go_enter Tryz.func83, Tryz.ntmps83
   go_upto_region 2 with fail
   rw [<- hwa]
   clear hwa
   go_wp2_with (at_lookup; refine wpList_map_ok _ rfl _ _ 136 rfl 9 3 keyedStr uMapSI (zeroInt _) bm nm _ rfl HMA.out _ _ rfl (keyStr hnm) trivial ?_; rw [HF.out])
   clear HF
  case' neg =>
   have t3 : (e.op == 3) = false := by simp [h3]
   clear h3 hdef
   go_enter Tryz.func83, Tryz.ntmps83
   go_wp2_with fail
   rw [<- hwa]
   clear hwa
  all_goals
   clear f0 f1 f2 f3 f4 f5 ff
   go_loopw [7, 25] (CExpL D na e.args wa) (fun _ i _ => na - (intOf i).toNat)
   case atStart => exact ⟨0, rfl, by omega, by simp [szL], by simp [szL], Ext.refl _⟩
   case round =>
    obtain ⟨k, rfl, hk, rfl, hle, hxr⟩ := hrel
    have HXR := hI hxr
    clear hxr
    obtain ⟨N, hN⟩ : ∃ N, N = szL D 1 (e.args.take k) := ⟨_, rfl⟩
    rw [<- hN] at hle ⊢
    have HNN := hI hN
    clear hN
    by_cases hkn : k < na
    ·have hka : k < e.args.length := by have := HNA.out; omega
     have t1 : decide ((k : Int) < (na : Int)) = true := decide_eq_true (by omega)
     obtain ⟨b, off, rfl, aw1, nw1, cw1, aa1, na1, ca1, h0, h1, h2, h3, h4, h5, h6⟩ := ExsD.at e.args _ (ExsD.ext (HXA.out.trans HXR.out) e.args _ HX.out) k hka
     have H6 := hI h6
     have hs1 := sizes_take_succ e.args k hka
     have hs2 := sizes_take_le e.args (k + 1)
     have hk1 : e.args[k].size <= m := by omega
     have HTS := hI (szL_take_succ D e.args 1 k hka)
     have hel := HSL.out e.args[k]
     have hblt := block_lt h0
     simp only at hblt
     clear h6 hs1 hs2
     obtain ⟨wx, hwx⟩ : ∃ wx, wx = wr.alloc (.cells #[.int .i64 e.args[k].op, .string e.args[k].name, .slice aw1 nw1 cw1, .int .i64 e.args[k].lo, .int .i64 e.args[k].hi, .slice aa1 na1 ca1] 45) := ⟨_, rfl⟩
     have HXX := hI (show Ext wr wx by rw [hwx]; exact (Ext.refl _).alloc _)
     go_wp2_with fail
     rw [<- hwx]
     clear hwx
     refine (IHM.out e.args[k] _ _ hk1 (by omega) (HFA.out _ (List.getElem_mem hka)) (HMA.out.ext (HXR.out.trans HXX.out)) (H6.out.ext HXX.out)).mono ?_
     rintro r w3 ⟨rfl, hx3⟩
     have HX3 := hI (HXR.out.trans (HXX.out.trans hx3))
     clear hx3 h0 h1 h2 h3 h4 h5
     go_wp2_with fail
     all_goals
      go_roundw
      case rel => exact ⟨k + 1, by go_num, by omega, by rw [HTS.out, <- HNN.out]; congr 1; omega, by rw [HTS.out]; omega, HX3.out⟩
      case measure => simp [intOf]; omega
    have t1 : decide ((k : Int) < (na : Int)) = false := decide_eq_false (by omega)
    have HR := hI (show N = szE D e by rw [HQ.out, HNN.out, List.take_of_length_le (by have := HNA.out; omega)])
    have HXE := hI (HXA.out.trans HXR.out)
    go_wp2_with fail
    go_ret
    exact givesE_of (by rw [<- HR.out]) HXE.out
theorem uMapSE : Tryz.prog.underlying 131 = some (.map 9 45) := by kernel_rfl
theorem zeroEx (w : World) : (zeroValue 45).run Tryz.prog w = .ok (.agg #[.int .i64 0, .string ⟨#[]⟩, .slice none 0 0, .int .i64 0, .int .i64 0, .slice none 0 0]) w := by kernel_rfl
theorem defAt_take {l : List Cla} {k : Nat} (hk : k < l.length) (s : BA) : defAt (l.take (k + 1)) s = match defAt (l.take k) s with | some d => some d | none => if l[k].kind = 1 /\ l[k].name = s then some k else none := by
 have h := first_take (l := l.map Cla.dfn) (k := k) (by simpa using hk) s
 rw [<- List.map_take, <- List.map_take, firstAt_dfn, firstAt_dfn] at h
 rw [h]
 cases defAt (l.take k) s <;> simp [Cla.dfn]
def DefsG (w : World) (l : List Cla) (g : BA -> Option Value) : Prop := ∀ s, (defAt l s = none -> g s = none) /\ ∀ d, defAt l s = some d -> ∃ v, g s = some v /\ IsEx w (l.getD d cla0).cond v
theorem DefsG.ext {w w' : World} {l : List Cla} {g : BA -> Option Value} (h : DefsG w l g) (hx : Ext w w') : DefsG w' l g := fun s => ⟨(h s).1, fun d hd => by obtain ⟨v, h1, h2⟩ := (h s).2 d hd; exact ⟨v, h1, h2.ext hx⟩⟩
def DefsAt (w : World) (l : List Cla) (b n : Nat) : Prop := ∃ g, MapAt w 9 b n (strF g) /\ DefsG w l g
theorem DefsAt.ext {w w' : World} {l : List Cla} {b n : Nat} (h : DefsAt w l b n) (hx : Ext w w') : DefsAt w' l b n := by
 obtain ⟨g, h1, h2⟩ := h
 exact ⟨g, h1.ext hx, h2.ext hx⟩
theorem getD_take {l : List Cla} {k d : Nat} (hd : d < k) : (l.take k).getD d cla0 = l.getD d cla0 := by simp [List.getD, hd]
theorem DefsG.skip {w : World} {l : List Cla} {k : Nat} {g : BA -> Option Value} (hk : k < l.length) (h : DefsG w (l.take k) g) (hs : l[k].kind ≠ 1 \/ defAt (l.take k) l[k].name ≠ none) : DefsG w (l.take (k + 1)) g := by
 intro s
 have hdd : ∀ d, defAt (l.take k) s = some d -> d < k := fun d hd => by have := defAt_lt hd; simp at this; omega
 have key : defAt (l.take (k + 1)) s = defAt (l.take k) s := by
  rw [defAt_take hk]
  cases hd : defAt (l.take k) s with
  | some d => rfl
  | none =>
   rw [if_neg]
   rintro ⟨h1, h2⟩
   rcases hs with h3 | h3
   ·exact h3 h1
   rw [h2] at h3; exact h3 hd
 rw [key]
 refine ⟨(h s).1, fun d hd => ?_⟩
 have := hdd d hd
 rw [getD_take (by omega), <- getD_take (k := k) this]
 exact (h s).2 d hd
theorem DefsG.step {w : World} {l : List Cla} {k : Nat} {g : BA -> Option Value} (hk : k < l.length) (h : DefsG w (l.take k) g) (hk1 : l[k].kind = 1) (hn : defAt (l.take k) l[k].name = none) {v : Value} (hv : IsEx w l[k].cond v) : DefsG w (l.take (k + 1)) (upS g l[k].name (some v)) := by
 intro s
 rw [defAt_take hk]
 by_cases e : s = l[k].name
 ·subst e
  rw [hn, upS_same]
  simp only [hk1, and_self, if_true]
  refine ⟨fun h => by simp at h, fun d hd => ?_⟩
  obtain rfl : k = d := by simpa using hd
  rw [getD_take (by omega), getD_cla hk]
  exact ⟨v, rfl, hv⟩
 rw [upS_other _ _ e]
 cases hd : defAt (l.take k) s with
 | none =>
  have : ¬ (l[k].kind = 1 /\ l[k].name = s) := fun h => e h.2.symm
  simp only [if_neg this]
  exact ⟨fun _ => (h s).1 hd, fun d hd' => by cases hd'⟩
 | some d =>
  have hdk : d < k := by have := defAt_lt hd; simp at this; omega
  refine ⟨fun h => by simp at h, fun d' hd' => ?_⟩
  obtain rfl : d = d' := by simpa using hd'
  rw [getD_take (by omega), <- getD_take (k := k) hdk]
  exact (h s).2 d hd
def DefsQ (l : List Cla) (n : Nat) (w : World) (e : Ending) (w' : World) : Prop := ∃ b, e = .returned (.map (some b)) /\ DefsAt w' l b n /\ Ext w w'
theorem definitions_calls (l : List Cla) (a : OA) (n c : Nat) (w : World) (hl : IsClas w l a n c) (hn : n <= 1000000) (hsz : ∀ x ∈ l, x.name.size <= 1000000000000000) :
  Calls Tryz.prog 78 #[.slice a n c] w (DefsQ l n w) := by
 have HL := hI hl
 have HN := hI hl.len
 have HSZ := hI hsz
 clear hl hsz
 have hmm := @run_makeMap Tryz.prog
 have HM0 := hI (MapAt.made w 9)
 have HX0 := hI ((Ext.refl w).alloc (.map #[] 0))
 obtain ⟨bf, hbf⟩ : ∃ bf : Nat, bf = w.heap.size := ⟨_, rfl⟩
 rw [<- hbf] at HM0
 have HBF := hI hbf
 go_enter Tryz.func78, Tryz.ntmps78
 go_wp2_with fail
 rw [<- hbf]
 clear hbf hmm
 go_loopw [11] (fun i wr => ∃ (k : Nat) (g : BA -> Option Value), k <= n /\ i = .int .i64 k /\ MapAt wr 9 bf k (strF g) /\ DefsG w (l.take k) g /\ Ext w wr) (fun i _ => n - (intOf i).toNat)
 case atStart =>
  refine ⟨0, fun _ => none, by omega, rfl, HM0.out.congr fun x => ?_, fun s => ⟨fun _ => rfl, fun d hd => ?_⟩, HX0.out⟩
  ·cases x <;> simp [strF]
  simp [defAt] at hd
 case round =>
  obtain ⟨k, g, hk, rfl, hmap, hg, hx⟩ := hrel
  have HMP := hI hmap
  have HX := hI hx
  have HG := hI hg
  have hbw := hmap.lt
  clear hmap hx hg HM0 HX0
  by_cases hlt : k < n
  ·have hlt' : k < l.length := by have := HN.out; omega
   have t1 : decide ((k : Int) < (n : Int)) = true := decide_eq_true (by omega)
   obtain ⟨cb, coff, v, rfl, hcla, hrow⟩ := HL.out.at hlt'
   obtain ⟨c0, c1, c2, c3, c4, c5, c6, c7, c8, c9⟩ := (hrow.mono HX.out.sub).ten
   have hns : v.name.size <= 1000000000000000 := by rw [hcla.2.1]; exact HSZ.out _ (List.getElem_mem hlt')
   have hblt := block_lt c0
   simp only at hblt
   have HEX := hI (show IsEx w l[k].cond (.agg #[.int .i64 v.x.op, .string v.x.name, .slice v.x.aw v.x.nw v.x.cw, .int .i64 v.x.lo, .int .i64 v.x.hi, .slice v.x.aa v.x.na v.x.ca]) from hcla.2.2.1)
   have HEK := hI (show l[k].kind = v.kind from hcla.1.symm)
   have HEN := hI (show l[k].name = v.name from hcla.2.1.symm)
   have HST := hI (fun h1 h2 => HG.out.step hlt' h1 h2 HEX.out)
   have HSK := hI (HG.out.skip hlt')
   rw [HEK.out, HEN.out] at HST HSK
   clear hcla hrow
   cases hfa : defAt (l.take k) v.name with
   | none =>
    have HF := hI (show strF g (.string v.name.data.toList) = none by rw [strF_at]; exact (HG.out _).1 hfa)
    cases hkd : (v.kind == 1)
    ·have HKN := hI (HSK.out (Or.inl (by simpa using hkd)))
     go_wp2_with (at_lookup; refine wpList_map_ok _ rfl _ _ 131 rfl 9 45 keyedStr uMapSE (zeroEx _) bf k _ rfl (HMP.out.ext ((Ext.refl wr).alloc _)) _ _ rfl (keyStr hns) trivial ?_; rw [HF.out])
     go_roundw
     case rel => exact ⟨k + 1, g, by omega, by go_num, (HMP.out.ext (((Ext.refl wr).alloc _).alloc _)).more (by omega), HKN.out, (HX.out.alloc _).alloc _⟩
     case measure => simp [intOf]; omega
    have HKN := hI (HST.out (by simpa using hkd) hfa)
    clear hfa
    go_wp2_with (first
     | (at_lookup; refine wpList_map_ok _ rfl _ _ 131 rfl 9 45 keyedStr uMapSE (zeroEx _) bf k _ rfl (HMP.out.ext ((Ext.refl wr).alloc _)) _ _ rfl (keyStr hns) trivial ?_; rw [HF.out])
     | (at_mapUpdate; refine wpList_map_put _ rfl _ _ _ 131 rfl 9 45 keyedStr uMapSE bf k _ rfl (HMP.out.ext (((Ext.refl wr).alloc _).alloc _)) ?c3 _ _ _ rfl rfl (keyStr hns) trivial ?_))
    case c3 => unfold maxLen; omega
    intro w1 hm1 hc1
    have HM1 := hI (hm1.congr (setF_str g v.name _))
    have HX1 := hI (hc1.ext ((HX.out.alloc _).alloc _) (by rw [<- HBF.out]; simp))
    clear hm1 hc1
    go_wp2_with fail
    go_roundw
    case rel => exact ⟨k + 1, _, by omega, by go_num, HM1.out, HKN.out, HX1.out⟩
    case measure => simp [intOf]; omega
   | some d =>
    obtain ⟨u, hu, hux⟩ := (HG.out v.name).2 d hfa
    obtain ⟨aw, nw, cw, aa, na, ca, rfl, -, -, -, -, -⟩ := hux.parts
    have HF := hI (show strF g (.string v.name.data.toList) = some _ by rw [strF_at]; exact hu)
    have HKN := hI (HSK.out (Or.inr (by rw [hfa]; simp)))
    unfold exV at HF
    clear hfa hu hux
    cases hkd : (v.kind == 1)
    all_goals
     go_wp2_with (at_lookup; refine wpList_map_ok _ rfl _ _ 131 rfl 9 45 keyedStr uMapSE (zeroEx _) bf k _ rfl (HMP.out.ext ((Ext.refl wr).alloc _)) _ _ rfl (keyStr hns) trivial ?_; rw [HF.out])
     go_roundw
     case rel => exact ⟨k + 1, g, by omega, by go_num, (HMP.out.ext (((Ext.refl wr).alloc _).alloc _)).more (by omega), HKN.out, (HX.out.alloc _).alloc _⟩
     case measure => simp [intOf]; omega
  have t1 : decide ((k : Int) < (n : Int)) = false := decide_eq_false (by omega)
  have hkn : k = n := by omega
  have HGE := hI (show DefsAt wr l bf n from ⟨g, by rw [<- hkn]; exact HMP.out, by have := HG.out.ext HX.out; rwa [List.take_of_length_le (by have := HN.out; omega)] at this⟩)
  clear hkn
  go_wp2_with fail
  go_ret
  exact ⟨bf, rfl, HGE.out, HX.out⟩
def kindFor (op : Int) : Int := if op = 3 then 3 else if op = 4 then 1 else if op = 5 then 2 else 0
def cnodeErr (s : List Attr) (l : List Cla) (op : Int) (name : BA) (words : ZB) (lo hi : Int) : Int :=
 if kindFor op = 0 then 0 else match attrAt s name with
 | none => if op = 3 /\ (defAt l name).isSome = true then 0 else 7
 | some i => if (s.getD i attr0).kind ≠ kindFor op then 9 else if (words.all fun x => decide (x ∈ (s.getD i attr0).words)) = false then 7 else if lo < (s.getD i attr0).lo \/ (s.getD i attr0).hi < hi then 1 else 0
theorem cnode_none {s : List Attr} {l : List Cla} {op : Int} {name : BA} {words : ZB} {lo hi : Int} (hk : kindFor op ≠ 0) (h : attrAt s name = none) : cnodeErr s l op name words lo hi = if op = 3 /\ (defAt l name).isSome = true then 0 else 7 := by
 unfold cnodeErr; rw [if_neg hk, h]
theorem cnode_some {s : List Attr} {l : List Cla} {op : Int} {name : BA} {words : ZB} {lo hi : Int} (hk : kindFor op ≠ 0) {i : Nat} (h : attrAt s name = some i) (hi' : i < s.length) : cnodeErr s l op name words lo hi =
  if s[i].kind ≠ kindFor op then 9 else if (words.all fun x => decide (x ∈ s[i].words)) = false then 7 else if lo < s[i].lo \/ s[i].hi < hi then 1 else 0 := by
 unfold cnodeErr; rw [if_neg hk, h]
 simp only [getD_attr hi']
theorem cnode_calls (s : List Attr) (sv : Value) (l : List Cla) (bm nm : Nat) (e : Ex) (ev : Value) (w : World) (hs : IsSchema w s sv) (hf : ∀ x ∈ s, x.fits) (hsl : s.length <= 1000000000000000) (hd : DefsAt w l bm nm) (he : IsEx w e ev) (hew : e.words.length <= 1000000000000000) (hen : e.name.size <= 1000000000000000) :
  Calls Tryz.prog 169 #[sv, .map (some bm), ev] w (GivesE (.int .i64 (cnodeErr s l e.op e.name e.words e.lo e.hi)) w) := by
 obtain ⟨sa, sn, sc, rfl, hsn⟩ := hs.slice
 obtain ⟨aw, nw, cw, aa, na, ca, rfl, hw, hna, hca, ha, hx⟩ := he.parts
 have HS := hI hs
 have HF := hI hf
 have HD := hI hd
 have HW := hI hw
 have HSN := hI hsn
 have HNW := hI hw.1
 have hnw : nw <= 1000000000000000 := by rw [hw.1]; exact hew
 have hsn2 : sn <= 1000000000000000 := by omega
 clear hs hf hd hw hsn he hna hca ha hx hew
 unfold exV
 obtain ⟨op, name, words, lo, hi, args⟩ := e
 simp only [Ex.op, Ex.name, Ex.words, Ex.lo, Ex.hi] at *
 obtain ⟨wa, hwa⟩ : ∃ wa, wa = (w.alloc (.cells #[.slice sa sn sc] 24)).alloc (.cells #[.int .i64 op, .string name, .slice aw nw cw, .int .i64 lo, .int .i64 hi, .slice aa na ca] 45) := ⟨_, rfl⟩
 have hxa : Ext w wa := by rw [hwa]; exact ((Ext.refl _).alloc _).alloc _
 have hb0 : wa.heap[w.heap.size]? = some (.cells #[.slice sa sn sc] 24 (0, 0)) := by rw [hwa]; exact blk_alloc (alloc_new w _)
 have hb1 : wa.heap[w.heap.size + 1]? = some (.cells #[.int .i64 op, .string name, .slice aw nw cw, .int .i64 lo, .int .i64 hi, .slice aa na ca] 45 (0, 0)) := by rw [hwa]; exact alloc_atR (by simp)
 have HI := hI (sIndex_calls s _ name wa (HS.out.ext hxa) (by have := HSN.out; omega))
 have HXA := hI hxa
 have HB0 := hI hb0
 have HB1 := hI hb1
 obtain ⟨E, hE⟩ : ∃ E, E = cnodeErr s l op name words lo hi := ⟨_, rfl⟩
 rw [<- hE]
 have HE := hI hE
 clear hE
 obtain ⟨a0, af⟩ := blk1 hb0
 obtain ⟨b0, b1, b2, b3, b4, b5, bf⟩ := blk6 hb1
 have hlt1 := blk_lt hb1
 clear hxa hb0 hb1
 by_cases hop : op = 3 \/ op = 4 \/ op = 5
 case neg =>
  have HR := hI (show E = 0 by
   rw [HE.out, cnodeErr, if_pos]
   unfold kindFor
   rw [if_neg (by omega), if_neg (by omega), if_neg (by omega)])
  have e3 : (op == 3) = false := by simp; omega
  have e4 : (op == 4) = false := by simp; omega
  have e5 : (op == 5) = false := by simp; omega
  clear hop
  go_enter Tryz.func169, Tryz.ntmps169
  go_upto_region 1 with fail
  rw [<- hwa]
  clear hwa
  go_wp2_with fail
  go_ret
  exact givesE_of (by rw [HR.out]) HXA.out
 obtain ⟨kd, hkd⟩ : ∃ kd : Int, (op = 3 /\ kd = 3) \/ (op = 4 /\ kd = 1) \/ (op = 5 /\ kd = 2) := by
  rcases hop with h | h | h
  ·exact ⟨3, Or.inl ⟨h, rfl⟩⟩
  ·exact ⟨1, Or.inr (Or.inl ⟨h, rfl⟩)⟩
  exact ⟨2, Or.inr (Or.inr ⟨h, rfl⟩)⟩
 have hkf : kindFor op = kd /\ kd ≠ 0 := by
  rcases hkd with ⟨rfl, rfl⟩ | ⟨rfl, rfl⟩ | ⟨rfl, rfl⟩ <;> exact ⟨rfl, by decide⟩
 clear hop
 have HK0 := hI (show kindFor op ≠ 0 by rw [hkf.1]; exact hkf.2)
 have HKF := hI hkf.1
 clear hkf
 cases ho : attrAt s name with
 | none =>
  rw [ho, optV_none] at HI
  have HQ := hI (show E = if op = 3 /\ (defAt l name).isSome = true then 0 else 7 by rw [HE.out]; exact cnode_none HK0.out ho)
  clear ho HE HK0 HKF
  obtain ⟨g, hmap, hg⟩ := HD.out
  have HMP := hI hmap
  have HG := hI hg
  clear hmap hg
  cases hda : defAt l name with
  | none =>
   have HFN := hI (show strF g (.string name.data.toList) = none by rw [strF_at]; exact (HG.out _).1 hda)
   have HR := hI (show E = 7 by rw [HQ.out, hda]; simp)
   clear hda HQ
   rcases hkd with ⟨rfl, rfl⟩ | ⟨rfl, rfl⟩ | ⟨rfl, rfl⟩
   all_goals
    go_enter Tryz.func169, Tryz.ntmps169
    go_upto_region 1 with fail
    rw [<- hwa]
    clear hwa
    go_wp2_with fail
    refine HI.out.mono ?_
    rintro r w3 ⟨rfl, hx3⟩
    have HX3 := hI (HXA.out.trans hx3)
    have HM3 := hI (HMP.out.ext HX3.out)
    clear b0 b1 b2 b3 b4 b5 bf a0 af hlt1
    obtain ⟨b0, b1, b2, b3, b4, b5, bf⟩ := blk6 (hx3.blk HB1.out)
    have hlt := blk_lt (hx3.blk HB1.out)
    clear hx3
    go_wp2_with (at_lookup; refine wpList_map_ok _ rfl _ _ 131 rfl 9 45 keyedStr uMapSE (zeroEx _) bm nm _ rfl HM3.out _ _ rfl (keyStr hen) trivial ?_; rw [HFN.out])
    go_ret
    exact givesE_of (by rw [HR.out]) (HX3.out.alloc _)
  | some d =>
   obtain ⟨u, hu, hux⟩ := (HG.out name).2 d hda
   obtain ⟨aw', nw', cw', aa', na', ca', rfl, -, -, -, -, -⟩ := hux.parts
   have HFN := hI (show strF g (.string name.data.toList) = some _ by rw [strF_at]; exact hu)
   unfold exV at HFN
   have HR := hI (show E = if op = 3 then 0 else 7 by rw [HQ.out, hda]; simp)
   clear hda HQ hu hux
   rcases hkd with ⟨rfl, rfl⟩ | ⟨rfl, rfl⟩ | ⟨rfl, rfl⟩
   all_goals
    go_enter Tryz.func169, Tryz.ntmps169
    go_upto_region 1 with fail
    rw [<- hwa]
    clear hwa
    go_wp2_with fail
    refine HI.out.mono ?_
    rintro r w3 ⟨rfl, hx3⟩
    have HX3 := hI (HXA.out.trans hx3)
    have HM3 := hI (HMP.out.ext HX3.out)
    clear b0 b1 b2 b3 b4 b5 bf a0 af hlt1
    obtain ⟨b0, b1, b2, b3, b4, b5, bf⟩ := blk6 (hx3.blk HB1.out)
    have hlt := blk_lt (hx3.blk HB1.out)
    clear hx3
    go_wp2_with (at_lookup; refine wpList_map_ok _ rfl _ _ 131 rfl 9 45 keyedStr uMapSE (zeroEx _) bm nm _ rfl HM3.out _ _ rfl (keyStr hen) trivial ?_; rw [HFN.out])
    go_ret
    exact givesE_of (by rw [HR.out]; decide) (HX3.out.alloc _)
 | some i =>
  rw [ho, optV_some] at HI
  have his := attrAt_lt ho
  have hin : i < sn := by have := HSN.out; omega
  have HQ := hI (show E = if s[i].kind ≠ kd then 9 else if (words.all fun x => decide (x ∈ s[i].words)) = false then 7 else if lo < s[i].lo \/ s[i].hi < hi then 1 else 0 by rw [HE.out, cnode_some HK0.out ho his, HKF.out])
  clear ho HE HK0 HKF
  have ti0 : (0 : Int) <= (i : Int) := by omega
  have ti1 : (i : Int) < (sn : Int) := by omega
  have hfi := HF.out _ (List.getElem_mem his)
  have hxn0 := hfi.2.1
  clear hfi
  by_cases hk : s[i].kind = kd
  case neg =>
   have tk : (s[i].kind != kd) = true := by simp [hk]
   have HR := hI (show E = 9 by rw [HQ.out, if_pos hk])
   clear hk HQ
   rcases hkd with ⟨rfl, rfl⟩ | ⟨rfl, rfl⟩ | ⟨rfl, rfl⟩
   all_goals
    go_enter Tryz.func169, Tryz.ntmps169
    go_upto_region 1 with fail
    rw [<- hwa]
    clear hwa
    go_wp2_with fail
    refine HI.out.mono ?_
    rintro r w3 ⟨rfl, hx3⟩
    have HX3 := hI (HXA.out.trans hx3)
    clear b0 b1 b2 b3 b4 b5 bf a0 af hlt1
    obtain ⟨d0, df⟩ := blk1 (hx3.blk HB0.out)
    have hlt := blk_lt (hx3.blk HB1.out)
    obtain ⟨sb, soff, xw, xn, xc, rfl, g0, g1, g2, g3, g4, g5⟩ := (HS.out.ext HX3.out).cells his
    clear hx3 g5
    go_wp2_with fail
    go_ret
    exact givesE_of (by rw [HR.out]) (HX3.out.alloc _)
  have tk : (s[i].kind != kd) = false := by simp [hk]
  have HR := hI (show E = if (words.all fun x => decide (x ∈ s[i].words)) = false then 7 else if lo < s[i].lo \/ s[i].hi < hi then 1 else 0 by rw [HQ.out, if_neg (by simpa using hk)])
  clear hk HQ
  rcases hkd with ⟨rfl, rfl⟩ | ⟨rfl, rfl⟩ | ⟨rfl, rfl⟩
  all_goals
   go_enter Tryz.func169, Tryz.ntmps169
   go_upto_region 1 with fail
   rw [<- hwa]
   clear hwa
   go_wp2_with fail
   refine HI.out.mono ?_
   rintro r w3 ⟨rfl, hx3⟩
   have HX3 := hI (HXA.out.trans hx3)
   clear b0 b1 b2 b3 b4 b5 bf a0 af hlt1
   obtain ⟨d0, df⟩ := blk1 (hx3.blk HB0.out)
   have HB13 := hI (hx3.blk HB1.out)
   have hlt := blk_lt (hx3.blk HB1.out)
   obtain ⟨sb, soff, xw, xn, xc, rfl, g0, g1, g2, g3, g4, g5⟩ := (HS.out.ext HX3.out).cells his
   have HG5 := hI g5
   have hxn : xn <= 1000000000000000 := by rw [g5.1]; exact hxn0
   clear hx3 g5
   go_upto_region 17 with fail
   obtain ⟨wb, hwb⟩ : ∃ wb, wb = w3.alloc (.cells #[.string s[i].name, .int .i64 s[i].kind, .slice xw xn xc, .int .i64 s[i].lo, .int .i64 s[i].hi] 101) := ⟨_, rfl⟩
   rw [<- hwb]
   have hxb : Ext w3 wb := by rw [hwb]; exact (Ext.refl _).alloc _
   have hbb : wb.heap[w3.heap.size]? = some (.cells #[.string s[i].name, .int .i64 s[i].kind, .slice xw xn xc, .int .i64 s[i].lo, .int .i64 s[i].hi] 101 (0, 0)) := by rw [hwb]; exact alloc_new w3 _
   have HBB := hI hbb
   have HB6 := hI (hxb.blk HB13.out)
   have HXB := hI (HX3.out.trans hxb)
   have HGB := hI (HG5.out.ext hxb)
   have HWB := hI (HW.out.ext HXB.out)
   obtain ⟨p0, p1, p2, p3, p4, pf⟩ := blk5b hbb
   obtain ⟨q0, q1, q2, q3, q4, q5, qf⟩ := blk6 HB6.out
   have hltb := blk_lt hbb
   clear hwb hxb hbb d0 df g0 g1 g2 g3 g4 HG5 hlt
   go_wp2_with fail
   go_loop [57] (fun t => ∃ k : Nat, t = .int .i64 k /\ k <= nw /\ (∀ j (h : j < words.length), j < k -> decide (words[j] ∈ s[i].words) = true)) (fun t => nw - (intOf t).toNat)
   case atStart => exact ⟨0, rfl, by omega, fun j _ h => by omega⟩
   case round =>
    obtain ⟨k, rfl, hk, hall⟩ := hrel
    have HALL := hI hall
    clear hall
    by_cases hkn : k < nw
    ·have hkw : k < words.length := by have := HNW.out; omega
     have t1 : decide ((k : Int) < (nw : Int)) = true := decide_eq_true (by omega)
     obtain ⟨wb', woff, rfl, cw0⟩ := HWB.out.2.2.2 k hkw
     cases hany : decide (words[k] ∈ s[i].words)
     ·have HA := hI hany
      have HR2 := hI (show E = 7 by
       rw [HR.out, if_pos]
       rw [List.all_eq_false]
       exact ⟨words[k], List.getElem_mem hkw, by rw [hany]; simp⟩)
      clear hany
      go_wp2_with fail
      refine (contains_calls _ _ _ _ _ _ hxn HGB.out).mono ?_
      rintro e w' ⟨rfl, rfl⟩
      rw [HA.out]
      go_wp2_with fail
      go_ret
      exact givesE_of (by rw [HR2.out]) HXB.out
     have HA := hI hany
     clear hany
     go_wp2_with fail
     refine (contains_calls _ _ _ _ _ _ hxn HGB.out).mono ?_
     rintro e w' ⟨rfl, rfl⟩
     rw [HA.out]
     go_wp2_with fail
     go_round
     case rel =>
      refine ⟨k + 1, by go_num, by omega, fun j hj hjk => ?_⟩
      by_cases e : j = k
      ·subst e; exact HA.out
      exact HALL.out j hj (by omega)
     case measure => simp [intOf]; omega
    have t1 : decide ((k : Int) < (nw : Int)) = false := decide_eq_false (by omega)
    have HR2 := hI (show E = if lo < s[i].lo \/ s[i].hi < hi then 1 else 0 by
     rw [HR.out, if_neg]
     rw [Bool.not_eq_false, List.all_eq_true]
     intro y hy
     obtain ⟨j, hj, rfl⟩ := List.mem_iff_getElem.1 hy
     exact HALL.out j hj (by have := HNW.out; omega))
    clear HALL
    go_wp2_with fail
    all_goals (go_ret; exact givesE_of (by rw [HR2.out]; simp_all <;> omega) HXB.out)
end Go.Proofs.YtefjomofjejklaaGreatDoor
