/-
  Texts of the claim, joined: Ord2, Lay, Iter, Names5, Ord3, Ord4, Ord6.
-/
import Derived.Test.YtefjomofjejklaaGreatDoorDv10
import Derived.Shelf.SlGeneric
import Derived.Shelf.SlIter.Nil
import Derived.Shelf.SortM.Plain
import Derived.Shelf.SortM.SortNone
import Derived.Ground.GgzProg
import Derived.Ground.SlgmProg
import Derived.Test.YtefjomofjejklaaGreatDoorDv09
namespace Go.Proofs.YtefjomofjejklaaGreatDoor
set_option maxRecDepth 100000
set_option maxHeartbeats 32000000
open Go.RowKit Go.Maps
def strF (g : BA -> Option Value) : Lit -> Option Value
 | .string bs => g ⟨bs.toArray⟩
 | _ => none
def intF (g : Nat -> Option Value) : Lit -> Option Value
 | .int .i64 z => if 0 <= z then g z.toNat else none
 | _ => none
theorem strF_at (g : BA -> Option Value) (s : BA) : strF g (.string s.data.toList) = g s := rfl
theorem intF_at (g : Nat -> Option Value) (i : Nat) : intF g (.int .i64 i) = g i := by simp [intF]
open Classical in
noncomputable def upS {α : Type} (g : BA -> α) (s : BA) (v : α) : BA -> α := fun t => if t = s then v else g t
theorem upS_same {α : Type} (g : BA -> α) (s : BA) (v : α) : upS g s v s = v := by simp [upS]
theorem upS_other {α : Type} (g : BA -> α) {s t : BA} (v : α) (h : t ≠ s) : upS g s v t = g t := by simp [upS, h]
def upN {α : Type} (g : Nat -> α) (s : Nat) (v : α) : Nat -> α := fun t => if t = s then v else g t
theorem upN_same {α : Type} (g : Nat -> α) (s : Nat) (v : α) : upN g s v s = v := by simp [upN]
theorem upN_other {α : Type} (g : Nat -> α) {s t : Nat} (v : α) (h : t ≠ s) : upN g s v t = g t := by simp [upN, h]
theorem setF_str (g : BA -> Option Value) (s : BA) (v : Option Value) (x : Lit) : setF (strF g) (.string s.data.toList) v x = strF (upS g s v) x := by
 by_cases e : x = .string s.data.toList
 ·subst e
  rw [setF_same, strF_at, upS_same]
 rw [setF_other _ _ e]
 cases x <;> try rfl
 rename_i bs
 simp only [strF]
 rw [upS_other]
 intro h
 apply e
 rw [<- h]
theorem setF_int (g : Nat -> Option Value) (i : Nat) (v : Option Value) (x : Lit) : setF (intF g) (.int .i64 i) v x = intF (upN g i v) x := by
 by_cases e : x = .int .i64 i
 ·subst e
  rw [setF_same, intF_at, upN_same]
 rw [setF_other _ _ e]
 cases x <;> try rfl
 rename_i k z
 cases k <;> try rfl
 simp only [intF]
 by_cases h0 : 0 <= z
 ·rw [if_pos h0, if_pos h0, upN_other]
  intro h
  apply e
  congr 1
  omega
 rw [if_neg h0, if_neg h0]
inductive Role where
 | none | first | users | miss | pile | prow | urow (s : BA) | mset (i : Nat) | out
structure St where
 ρ : Nat -> Role
 mb : Nat -> Nat
 uv : BA -> Option Value
 U : BA -> ZN
 D : Nat -> Prop
 S : Nat -> Prop
 M : Nat -> BA -> Prop
 pv : Value
 R : ZI
 vo : Value
 O : ZN
open Classical in
noncomputable def memF (M : BA -> Prop) : BA -> Option Value := fun s => if M s then some (.agg #[]) else none
open Classical in
noncomputable def missF (D : Nat -> Prop) (mb : Nat -> Nat) : Nat -> Option Value := fun i => if D i then some (.map (some (mb i))) else none
def firstF (l : List Dfn) : BA -> Option Value := fun s => (firstAt l s).map fun (d : Nat) => Value.int .i64 (d : Int)
def natVs (l : ZN) : List Value := l.map fun (i : Nat) => Value.int .i64 (i : Int)
structure OB (w0 : World) (l : List Dfn) (bf bu bm bp t : Nat) (s : St) (w : World) : Prop where
 ext : Ext w0 w
 fresh : ∀ k, w.heap.size <= k -> s.ρ k = .none
 old : ∀ k, k < w0.heap.size -> s.ρ k = .none
 rf : s.ρ bf = .first
 hf : MapAt w 9 bf t (strF (firstF l))
 ru : s.ρ bu = .users
 hu : MapAt w 9 bu t (strF s.uv)
 rows : ∀ x v, s.uv x = some v -> w.ownsRow w0.heap.size 3 1 v (s.U x).length (natVs (s.U x)) /\ ∀ g, v.ownBlock = some g -> s.ρ g = .urow x
 rown : ∀ x, s.uv x = none -> s.U x = []
 rm : s.ρ bm = .miss
 hm : MapAt w 3 bm t (intF (missF s.D s.mb))
 dom : ∀ i, s.D i -> s.S i
 sets : ∀ i, s.S i -> s.ρ (s.mb i) = .mset i /\ MapAt w 9 (s.mb i) t (strF (memF (s.M i)))
 rp : s.ρ bp = .pile
 hp : PileV w0.heap.size bp s.pv s.R w
 rpv : ∀ g, s.pv.ownBlock = some g -> s.ρ g = .prow
 hv : w.ownsRow w0.heap.size 3 1 s.vo s.O.length (natVs s.O)
 rv : ∀ g, s.vo.ownBlock = some g -> s.ρ g = .out
section
variable {w0 : World} {l : List Dfn} {bf bu bm bp t : Nat} {s : St} {w w' : World}
theorem OB.chg (h : OB w0 l bf bu bm bp t s w) {N : ZN} (hc : Chg N w w') (hN : ∀ k ∈ N, s.ρ k = .none) (hN0 : ∀ k ∈ N, w0.heap.size <= k) : OB w0 l bf bu bm bp t s w' := by
 have nn : ∀ k r, s.ρ k = r -> r ≠ .none -> k ∉ N := fun k r h1 h2 h3 => h2 (by rw [<- h1]; exact hN k h3)
 exact { h with
  ext := hc.ext h.ext hN0
  fresh := fun k hk => h.fresh k (Nat.le_trans hc.size hk)
  hf := h.hf.chg hc (nn _ _ h.rf (by simp))
  hu := h.hu.chg hc (nn _ _ h.ru (by simp))
  rows := fun x v hv => ⟨owns_chg (h.rows x v hv).1 hc fun g hg => nn _ _ ((h.rows x v hv).2 g hg) (by simp), (h.rows x v hv).2⟩
  hm := h.hm.chg hc (nn _ _ h.rm (by simp))
  sets := fun i hi => ⟨(h.sets i hi).1, (h.sets i hi).2.chg hc (nn _ _ (h.sets i hi).1 (by simp))⟩
  hp := h.hp.chg hc (nn _ _ h.rp (by simp)) fun g hg => nn _ _ (h.rpv g hg) (by simp)
  hv := owns_chg h.hv hc fun g hg => nn _ _ (h.rv g hg) (by simp) }
theorem OB.extd (h : OB w0 l bf bu bm bp t s w) (hx : Ext w w') : OB w0 l bf bu bm bp t s w' := h.chg (hx.chg []) (by simp) (by simp)
theorem OB.more (h : OB w0 l bf bu bm bp t s w) {t' : Nat} (ht : t <= t') : OB w0 l bf bu bm bp t' s w :=
 {h with hf := h.hf.more ht, hu := h.hu.more ht, hm := h.hm.more ht, sets := fun i hi => ⟨(h.sets i hi).1, (h.sets i hi).2.more ht⟩ }
theorem OB.base (h : OB w0 l bf bu bm bp t s w) {k : Nat} {r : Role} (hk : s.ρ k = r) (hr : r ≠ .none) : w0.heap.size <= k := by
 rcases Nat.lt_or_ge k w0.heap.size with h' | h'
 ·exact absurd (hk.symm.trans (h.old k h')) hr
 exact h'
theorem apart {ρ : Nat -> Role} {a b : Nat} {r q : Role} (ha : ρ a = r) (hb : ρ b = q) (h : r ≠ q) : a ∉ [b] := by
 intro hm
 simp only [List.mem_singleton] at hm
 subst hm
 exact h (ha.symm.trans hb)
def St.newSet (s : St) (i b : Nat) : St := { s with ρ := upN s.ρ b (.mset i), mb := upN s.mb i b, S := fun j => j = i \/ s.S j, M := upN s.M i fun _ => False }
theorem missF_congr {D : Nat -> Prop} {mb mb' : Nat -> Nat} (h2 : ∀ i, D i -> mb i = mb' i) : missF D mb = missF D mb' := by
 funext i
 unfold missF
 by_cases hd : D i
 ·rw [if_pos hd, if_pos hd, h2 i hd]
 rw [if_neg hd, if_neg hd]
theorem memF_false (s : BA) : memF (fun _ => False) s = none := by simp [memF]
theorem OB.newSet (h : OB w0 l bf bu bm bp t s w) {i : Nat} (hi : ¬ s.S i) : OB w0 l bf bu bm bp t (s.newSet i w.heap.size) (w.alloc (.map #[] 0)) := by
 have h' := h.extd ((Ext.refl w).alloc (.map #[] 0))
 have ne : ∀ k r, s.ρ k = r -> r ≠ .none -> upN s.ρ w.heap.size (.mset i) k = r := fun k r h1 h2 => by
  rw [upN_other _ _ (fun e => h2 (by rw [<- h1, e]; exact h.fresh _ (Nat.le_refl _)))]; exact h1
 exact { h' with
  fresh := fun k hk => by
   simp at hk
   show upN s.ρ w.heap.size (.mset i) k = .none
   rw [upN_other _ _ (by omega)]; exact h.fresh k (by omega)
  old := fun k hk => by
   show upN s.ρ w.heap.size (.mset i) k = .none
   rw [upN_other _ _ (by have := h.ext.size; omega)]; exact h.old k hk
  rf := ne _ _ h.rf (by simp)
  ru := ne _ _ h.ru (by simp)
  rows := fun x v hv => ⟨(h'.rows x v hv).1, fun g hg => ne _ _ ((h'.rows x v hv).2 g hg) (by simp)⟩
  rm := ne _ _ h.rm (by simp)
  hm := by
   have e : missF s.D (upN s.mb i w.heap.size) = missF s.D s.mb := missF_congr fun j hj => upN_other _ _ fun e => hi (by rw [<- e]; exact h.dom j hj)
   show MapAt _ _ _ _ (intF (missF s.D (upN s.mb i w.heap.size)))
   rw [e]; exact h'.hm
  dom := fun j hj => Or.inr (h.dom j hj)
  sets := fun j hj => by
   by_cases e : j = i
   ·subst e
    refine ⟨?_, ?_⟩
    ·show upN s.ρ w.heap.size (.mset j) (upN s.mb j w.heap.size j) = _
     rw [upN_same, upN_same]
    show MapAt _ _ (upN s.mb j w.heap.size j) _ (strF (memF (upN s.M j (fun _ => False) j)))
    rw [upN_same, upN_same]
    refine ((MapAt.made w _).more (Nat.zero_le t)).congr fun x => ?_
    cases x <;> simp [strF, memF_false]
   have hj' : s.S j := hj.resolve_left e
   refine ⟨?_, ?_⟩
   ·show upN s.ρ w.heap.size (.mset i) (upN s.mb i w.heap.size j) = _
    rw [upN_other s.mb _ e]
    exact ne _ _ (h.sets j hj').1 (by simp)
   show MapAt _ _ (upN s.mb i w.heap.size j) _ (strF (memF (upN s.M i (fun _ => False) j)))
   rw [upN_other _ _ e, upN_other _ _ e]
   exact (h'.sets j hj').2
  rp := ne _ _ h.rp (by simp)
  rpv := fun g hg => ne _ _ (h.rpv g hg) (by simp)
  rv := fun g hg => ne _ _ (h.rv g hg) (by simp) }
def St.setM (s : St) (i : Nat) (m : BA -> Prop) : St := { s with M := upN s.M i m }
theorem OB.setM (h : OB w0 l bf bu bm bp t s w) {i : Nat} (hi : s.S i) {m : BA -> Prop} (hc : Chg [s.mb i] w w') (hm : MapAt w' 9 (s.mb i) t (strF (memF m))) : OB w0 l bf bu bm bp t (s.setM i m) w' := by
 have hr := (h.sets i hi).1
 exact { h with
  ext := hc.ext h.ext (fun k hk => by simp only [List.mem_singleton] at hk; subst hk; exact h.base hr (by simp))
  fresh := fun k hk => h.fresh k (Nat.le_trans hc.size hk)
  hf := h.hf.chg hc (apart h.rf hr (by simp))
  hu := h.hu.chg hc (apart h.ru hr (by simp))
  rows := fun x v hv => ⟨owns_chg (h.rows x v hv).1 hc fun g hg => apart ((h.rows x v hv).2 g hg) hr (by simp), (h.rows x v hv).2⟩
  hm := h.hm.chg hc (apart h.rm hr (by simp))
  sets := fun j hj => by
   by_cases e : j = i
   ·subst e
    refine ⟨hr, ?_⟩
    show MapAt _ _ _ _ (strF (memF (upN s.M j m j)))
    rw [upN_same]; exact hm
   refine ⟨(h.sets j hj).1, ?_⟩
   show MapAt _ _ _ _ (strF (memF (upN s.M i m j)))
   rw [upN_other _ _ e]
   exact (h.sets j hj).2.chg hc (apart (h.sets j hj).1 hr (by simpa using e))
  hp := h.hp.chg hc (apart h.rp hr (by simp)) fun g hg => apart (h.rpv g hg) hr (by simp)
  hv := owns_chg h.hv hc fun g hg => apart (h.rv g hg) hr (by simp) }
def St.setD (s : St) (i : Nat) : St := { s with D := fun j => j = i \/ s.D j }
theorem OB.setD (h : OB w0 l bf bu bm bp t s w) {i : Nat} (hi : s.S i) (hc : Chg [bm] w w') (hm : MapAt w' 3 bm (t + 1) (intF (upN (missF s.D s.mb) i (some (.map (some (s.mb i))))))) : OB w0 l bf bu bm bp (t + 1) (s.setD i) w' := by
 have hr := h.rm
 have h1 := h.more (Nat.le_succ t)
 exact { h1 with
  ext := hc.ext h.ext (fun k hk => by simp only [List.mem_singleton] at hk; subst hk; exact h.base hr (by simp))
  fresh := fun k hk => h.fresh k (Nat.le_trans hc.size hk)
  hf := h1.hf.chg hc (apart h.rf hr (by simp))
  hu := h1.hu.chg hc (apart h.ru hr (by simp))
  rows := fun x v hv => ⟨owns_chg (h.rows x v hv).1 hc fun g hg => apart ((h.rows x v hv).2 g hg) hr (by simp), (h.rows x v hv).2⟩
  hm := by
   refine hm.congr fun x => ?_
   have e : upN (missF s.D s.mb) i (some (.map (some (s.mb i)))) = missF (fun j => j = i \/ s.D j) s.mb := by
    funext j
    by_cases e : j = i
    ·subst e; rw [upN_same]; simp [missF]
    rw [upN_other _ _ e]
    by_cases hd : s.D j <;> simp [missF, e, hd]
   show _ = intF (missF (fun j => j = i \/ s.D j) s.mb) x
   rw [e]
  dom := fun j hj => by
   rcases hj with rfl | hj
   ·exact hi
   exact h.dom j hj
  sets := fun j hj => ⟨(h1.sets j hj).1, (h1.sets j hj).2.chg hc (apart (h.sets j hj).1 hr (by simp))⟩
  hp := h.hp.chg hc (apart h.rp hr (by simp)) fun g hg => apart (h.rpv g hg) hr (by simp)
  hv := owns_chg h.hv hc fun g hg => apart (h.rv g hg) hr (by simp) }
theorem apart2 {ρ : Nat -> Role} {a b : Nat} {v : Value} {r q q' : Role} (ha : ρ a = r) (hb : ρ b = q) (hv : ∀ g, v.ownBlock = some g -> ρ g = q') (h : r ≠ q) (h' : r ≠ q') : a ∉ b :: rowOf v := by
 intro hm
 rcases List.mem_cons.1 hm with rfl | hm
 ·exact h (ha.symm.trans hb)
 exact h' (ha.symm.trans (hv a (mem_rowOf.1 hm)))
def rerole (ρ : Nat -> Role) (v : Value) (r : Role) : Nat -> Role := fun k => match v.ownBlock with | some g => if k = g then r else ρ k | none => ρ k
theorem rerole_own (ρ : Nat -> Role) {v : Value} {r : Role} {g : Nat} (h : v.ownBlock = some g) : rerole ρ v r g = r := by simp [rerole, h]
theorem rerole_other (ρ : Nat -> Role) {v : Value} {r : Role} {k : Nat} (h : ∀ g, v.ownBlock = some g -> k ≠ g) : rerole ρ v r k = ρ k := by
 unfold rerole
 cases hv : v.ownBlock with
 | none => rfl
 | some g => simp [h g hv]
theorem rerole_keep {ρ : Nat -> Role} {v v' : Value} {r q : Role} {n k : Nat} (hk : ρ k = q) (hq : q ≠ r) (hq0 : q ≠ .none) (hv : ∀ g, v.ownBlock = some g -> ρ g = r) (hfresh : ∀ k, n <= k -> ρ k = .none) (hw : ∀ g, v'.ownBlock = some g -> v.ownBlock = some g \/ n <= g) : rerole ρ v' r k = q := by
 rw [rerole_other, hk]
 intro g hg e
 subst e
 rcases hw k hg with h | h
 ·exact hq (hk.symm.trans (hv k h))
 exact hq0 (hk.symm.trans (hfresh k h))
def St.setP (s : St) (pv : Value) (R : ZI) : St := { s with ρ := rerole s.ρ pv .prow, pv := pv, R := R }
theorem OB.setP (h : OB w0 l bf bu bm bp t s w) {pv : Value} {R : ZI} (hp : PileV w0.heap.size bp pv R w') (hc : Chg (bp :: rowOf s.pv) w w') (hw : ∀ k, pv.ownBlock = some k -> s.pv.ownBlock = some k \/ w.heap.size <= k) : OB w0 l bf bu bm bp t (s.setP pv R) w' := by
 have kp : ∀ {k q}, s.ρ k = q -> q ≠ .prow -> q ≠ .none -> rerole s.ρ pv .prow k = q := fun hk h1 h2 => rerole_keep hk h1 h2 h.rpv h.fresh hw
 have hlt : ∀ g, pv.ownBlock = some g -> w0.heap.size <= g /\ g < w'.heap.size := fun g hg => hp.own.lt g hg
 exact { h with
  ext := hc.ext h.ext (fun k hk => by
   rcases List.mem_cons.1 hk with rfl | hk
   ·exact h.base h.rp (by simp)
   exact h.base (h.rpv k (mem_rowOf.1 hk)) (by simp))
  fresh := fun k hk => by
   show rerole s.ρ pv .prow k = .none
   rw [rerole_other _ (fun g hg => by have := (hlt g hg).2; omega)]
   exact h.fresh k (Nat.le_trans hc.size hk)
  old := fun k hk => by
   show rerole s.ρ pv .prow k = .none
   rw [rerole_other _ (fun g hg => by have := (hlt g hg).1; omega)]
   exact h.old k hk
  rf := kp h.rf (by simp) (by simp)
  hf := h.hf.chg hc (apart2 h.rf h.rp h.rpv (by simp) (by simp))
  ru := kp h.ru (by simp) (by simp)
  hu := h.hu.chg hc (apart2 h.ru h.rp h.rpv (by simp) (by simp))
  rows := fun x v hv => ⟨owns_chg (h.rows x v hv).1 hc fun g hg => apart2 ((h.rows x v hv).2 g hg) h.rp h.rpv (by simp) (by simp), fun g hg => kp ((h.rows x v hv).2 g hg) (by simp) (by simp)⟩
  rm := kp h.rm (by simp) (by simp)
  hm := h.hm.chg hc (apart2 h.rm h.rp h.rpv (by simp) (by simp))
  sets := fun j hj => ⟨kp (h.sets j hj).1 (by simp) (by simp), (h.sets j hj).2.chg hc (apart2 (h.sets j hj).1 h.rp h.rpv (by simp) (by simp))⟩
  rp := kp h.rp (by simp) (by simp)
  hp := hp
  rpv := fun g hg => rerole_own _ hg
  hv := owns_chg h.hv hc fun g hg => apart2 (h.rv g hg) h.rp h.rpv (by simp) (by simp)
  rv := fun g hg => kp (h.rv g hg) (by simp) (by simp) }
theorem apartV {ρ : Nat -> Role} {a : Nat} {v : Value} {r q : Role} (ha : ρ a = r) (hv : ∀ g, v.ownBlock = some g -> ρ g = q) (h : r ≠ q) : a ∉ rowOf v := fun hm => h (ha.symm.trans (hv a (mem_rowOf.1 hm)))
def St.setO (s : St) (vo : Value) (O : ZN) : St := { s with ρ := rerole s.ρ vo .out, vo := vo, O := O }
theorem OB.setO (h : OB w0 l bf bu bm bp t s w) {vo : Value} {O : ZN} (hv : w'.ownsRow w0.heap.size 3 1 vo O.length (natVs O)) (hc : Chg (rowOf s.vo) w w') (hw : ∀ k, vo.ownBlock = some k -> s.vo.ownBlock = some k \/ w.heap.size <= k) : OB w0 l bf bu bm bp t (s.setO vo O) w' := by
 have kp : ∀ {k q}, s.ρ k = q -> q ≠ .out -> q ≠ .none -> rerole s.ρ vo .out k = q := fun hk h1 h2 => rerole_keep hk h1 h2 h.rv h.fresh hw
 have hlt : ∀ g, vo.ownBlock = some g -> w0.heap.size <= g /\ g < w'.heap.size := fun g hg => hv.lt g hg
 exact { h with
  ext := hc.ext h.ext (fun k hk => h.base (h.rv k (mem_rowOf.1 hk)) (by simp))
  fresh := fun k hk => by
   show rerole s.ρ vo .out k = .none
   rw [rerole_other _ (fun g hg => by have := (hlt g hg).2; omega)]
   exact h.fresh k (Nat.le_trans hc.size hk)
  old := fun k hk => by
   show rerole s.ρ vo .out k = .none
   rw [rerole_other _ (fun g hg => by have := (hlt g hg).1; omega)]
   exact h.old k hk
  rf := kp h.rf (by simp) (by simp)
  hf := h.hf.chg hc (apartV h.rf h.rv (by simp))
  ru := kp h.ru (by simp) (by simp)
  hu := h.hu.chg hc (apartV h.ru h.rv (by simp))
  rows := fun x v hv' => ⟨owns_chg (h.rows x v hv').1 hc fun g hg => apartV ((h.rows x v hv').2 g hg) h.rv (by simp), fun g hg => kp ((h.rows x v hv').2 g hg) (by simp) (by simp)⟩
  rm := kp h.rm (by simp) (by simp)
  hm := h.hm.chg hc (apartV h.rm h.rv (by simp))
  sets := fun j hj => ⟨kp (h.sets j hj).1 (by simp) (by simp), (h.sets j hj).2.chg hc (apartV (h.sets j hj).1 h.rv (by simp))⟩
  rp := kp h.rp (by simp) (by simp)
  hp := h.hp.chg hc (apartV h.rp h.rv (by simp)) fun g hg => apartV (h.rpv g hg) h.rv (by simp)
  rpv := fun g hg => kp (h.rpv g hg) (by simp) (by simp)
  hv := hv
  rv := fun g hg => rerole_own _ hg }
noncomputable def St.setU (s : St) (x : BA) (v : Value) (u : ZN) : St := { s with ρ := rerole s.ρ v (.urow x), uv := upS s.uv x (some v), U := upS s.U x u }
def rowV (s : St) (x : BA) : Value := (s.uv x).getD (.slice none 0 0)
theorem OB.rowV_role (h : OB w0 l bf bu bm bp t s w) (x : BA) : ∀ g, (rowV s x).ownBlock = some g -> s.ρ g = .urow x := by
 intro g hg
 unfold rowV at hg
 cases hu : s.uv x with
 | none => rw [hu] at hg; simp [Value.ownBlock] at hg
 | some v => rw [hu] at hg; exact (h.rows x v hu).2 g hg
theorem OB.rowV_own (h : OB w0 l bf bu bm bp t s w) (x : BA) : w.ownsRow w0.heap.size 3 1 (rowV s x) (s.U x).length (natVs (s.U x)) := by
 unfold rowV
 cases hu : s.uv x with
 | none => rw [h.rown x hu]; exact World.ownsRow_nil _ _ _ _
 | some v => exact (h.rows x v hu).1
theorem OB.setU (h : OB w0 l bf bu bm bp t s w) {x : BA} {v : Value} {u : ZN} {w1 : World} (hv : w1.ownsRow w0.heap.size 3 1 v u.length (natVs u)) (hc : Chg (rowOf (rowV s x)) w w1) (hw : ∀ k, v.ownBlock = some k -> (rowV s x).ownBlock = some k \/ w.heap.size <= k)
  (hc2 : Chg [bu] w1 w') (hm : MapAt w' 9 bu (t + 1) (strF (upS s.uv x (some v)))) : OB w0 l bf bu bm bp (t + 1) (s.setU x v u) w' := by
 have hR := h.rowV_role x
 have kp : ∀ {k q}, s.ρ k = q -> q ≠ .urow x -> q ≠ .none -> rerole s.ρ v (.urow x) k = q := fun hk h1 h2 => rerole_keep hk h1 h2 hR h.fresh hw
 have hlt : ∀ g, v.ownBlock = some g -> w0.heap.size <= g /\ g < w1.heap.size := fun g hg => hv.lt g hg
 have hbu : ∀ g, v.ownBlock = some g -> g ∉ [bu] := fun g hg hm => by
  simp only [List.mem_singleton] at hm
  subst hm
  rcases hw g hg with h1 | h1
  ·exact absurd (h.ru.symm.trans (hR g h1)) (by simp)
  exact absurd (h.ru.symm.trans (h.fresh g h1)) (by simp)
 have hcc : Chg (bu :: rowOf (rowV s x)) w w' := Chg.trans (Chg.trans (Chg.refl _ _) hc (fun k hk => Or.inl (List.mem_cons_of_mem _ hk))) hc2 (fun k hk => Or.inl (by simp only [List.mem_singleton] at hk; simp [hk]))
 have h1 := h.more (Nat.le_succ t)
 exact { h1 with
  ext := hcc.ext h.ext (fun k hk => by
   rcases List.mem_cons.1 hk with rfl | hk
   ·exact h.base h.ru (by simp)
   exact h.base (hR k (mem_rowOf.1 hk)) (by simp))
  fresh := fun k hk => by
   show rerole s.ρ v (.urow x) k = .none
   have := hc2.size
   rw [rerole_other _ (fun g hg => by have := (hlt g hg).2; omega)]
   exact h.fresh k (Nat.le_trans hcc.size hk)
  old := fun k hk => by
   show rerole s.ρ v (.urow x) k = .none
   rw [rerole_other _ (fun g hg => by have := (hlt g hg).1; omega)]
   exact h.old k hk
  rf := kp h.rf (by simp) (by simp)
  hf := h1.hf.chg hcc (apart2 h.rf h.ru hR (by simp) (by simp))
  ru := kp h.ru (by simp) (by simp)
  hu := hm
  rows := fun y u' hy => by
   by_cases e : y = x
   ·subst e
    have e1 : upS s.uv y (some v) y = some v := upS_same _ _ _
    have e2 : some v = some u' := e1.symm.trans hy
    cases e2
    refine ⟨?_, fun g hg => rerole_own _ hg⟩
    show World.ownsRow _ _ _ _ _ (upS s.U y u y).length (natVs (upS s.U y u y))
    rw [upS_same]
    exact owns_chg hv hc2 hbu
   have e1 : s.uv y = some u' := (upS_other s.uv (some v) e).symm.trans hy
   obtain ⟨r1, r2⟩ := h.rows y u' e1
   refine ⟨?_, fun g hg => kp (r2 g hg) (by simpa using e) (by simp)⟩
   show World.ownsRow _ _ _ _ _ (upS s.U x u y).length (natVs (upS s.U x u y))
   rw [upS_other _ _ e]
   exact owns_chg r1 hcc fun g hg => apart2 (r2 g hg) h.ru hR (by simp) (by simpa using e)
  rown := fun y hy => by
   by_cases e : y = x
   ·subst e
    have e1 : upS s.uv y (some v) y = some v := upS_same _ _ _
    have e2 : some v = none := e1.symm.trans hy
    cases e2
   have e1 : s.uv y = none := (upS_other s.uv (some v) e).symm.trans hy
   show upS s.U x u y = []
   rw [upS_other _ _ e]
   exact h.rown y e1
  rm := kp h.rm (by simp) (by simp)
  hm := h1.hm.chg hcc (apart2 h.rm h.ru hR (by simp) (by simp))
  sets := fun j hj => ⟨kp (h.sets j hj).1 (by simp) (by simp), (h1.sets j hj).2.chg hcc (apart2 (h.sets j hj).1 h.ru hR (by simp) (by simp))⟩
  rp := kp h.rp (by simp) (by simp)
  hp := h.hp.chg hcc (apart2 h.rp h.ru hR (by simp) (by simp)) fun g hg => apart2 (h.rpv g hg) h.ru hR (by simp) (by simp)
  rpv := fun g hg => kp (h.rpv g hg) (by simp) (by simp)
  hv := owns_chg h.hv hcc fun g hg => apart2 (h.rv g hg) h.ru hR (by simp) (by simp)
  rv := fun g hg => kp (h.rv g hg) (by simp) (by simp) }
end
end Go.Proofs.YtefjomofjejklaaGreatDoor

/-
 DERIVED: THE SHELF's CONTRACTS AT THIS DUMP, IN PLAIN WORDS (tools/lay-plain.mjs out of 'TrydLay.lean', which tools/lay-shelf.mjs wrote): THE SAME DECLARATIONS UNDER THE SAME NAMES: 'import', 'namespace', 'open', 'def', 'theorem' AND NOTHING ELSE: no command of the shelf's: FOR A HAND-IN. Each laying: the table of numbers ('.._ren') and one theorem, a field a fact of the dump's own or the kernel's comparison; each contract: ONE APPLICATION.
-/
namespace Go.Proofs
set_option maxRecDepth 100000
set_option maxHeartbeats 32000000
open Go.Shelf
def Tryz.keys42_ren : Go.Shelf.Ren := ⟨fun | 7 => 142 | 10 => 172 | n => n, fun | 23 => 174 | 26 => 9 | 3 => 176 | 28 => 207 | 0 => 0 | 27 => 206 | 33 => 160 | 4 => 4 | n => n, fun | n => n⟩
theorem Tryz.keys42 : Go.Proofs.SlLaysZ.n7 Tryz.prog Tryz.keys42_ren := {
 mixed := by kernel_rfl
 f7 := ⟨Tryz.f142.name, by decide, Tryz.func142.trans (congrArg some (by kernel_rfl))⟩
 f10 := ⟨Tryz.f172.name, by decide, Tryz.func172.trans (congrArg some (by kernel_rfl))⟩
 t0 := Tryz.underlying0
 a0 := Tryz.isAgg0
 z0 := Tryz.sizeOf0
 v0 := Tryz.zeroValue0
 t4 := Tryz.underlying4
 a4 := Tryz.isAgg4
 z4 := Tryz.sizeOf4
 v4 := Tryz.zeroValue4
 t23 := Tryz.underlying174
 a23 := Tryz.isAgg174
 z23 := Tryz.sizeOf174
 v23 := Tryz.zeroValue174
 t26 := Tryz.underlying9
 a26 := Tryz.isAgg9
 z26 := Tryz.sizeOf9
 v26 := Tryz.zeroValue9
 t27 := Tryz.underlying206
 a27 := Tryz.isAgg206
 z27 := Tryz.sizeOf206
 v27 := Tryz.zeroValue206
 t28 := Tryz.underlying207
 a28 := Tryz.isAgg207
 z28 := Tryz.sizeOf207
 v28 := Tryz.zeroValue207
 t33 := Tryz.underlying160
 a33 := Tryz.isAgg160
 z33 := Tryz.sizeOf160
 v33 := Tryz.zeroValue160 }
def Tryz.sorted41_ren : Go.Shelf.Ren := ⟨fun | 6 => 141 | 8 => 170 | 9 => 171 | 11 => 185 | 13 => 187 | 12 => 186 | 23 => 199 | 24 => 200 | 14 => 190 | 15 => 191 | 16 => 192 | 17 => 193 | 18 => 194 | 19 => 195 | 20 => 196 | 21 => 197 | 22 => 198 | 25 => 201 | 26 => 202 | 27 => 203 | 28 => 204 | 29 => 205 | 30 => 206 | 31 => 207 | n => n, fun | 26 => 9 | 28 => 207 | 24 => 42 | 0 => 0 | 3 => 3 | 37 => 240 | 48 => 254 | 50 => 256 | 4 => 4 | 40 => 247 | 39 => 246 | 45 => 145 | 5 => 5 | 9 => 9 | 51 => 257 | 55 => 228 | 57 => 262 | 58 => 117 | 33 => 160 | n => n, fun | n => n⟩
theorem Tryz.sorted41 : Go.Proofs.SlLaysZ.n6 Tryz.prog Tryz.sorted41_ren := {
 mixed := by kernel_rfl
 f6 := ⟨Tryz.f141.name, by decide, Tryz.func141.trans (congrArg some (by kernel_rfl))⟩
 f8 := ⟨Tryz.f170.name, by decide, Tryz.func170.trans (congrArg some (by kernel_rfl))⟩
 f11 := ⟨Tryz.f185.name, by decide, Tryz.func185.trans (congrArg some (by kernel_rfl))⟩
 t0 := Tryz.underlying0
 a0 := Tryz.isAgg0
 z0 := Tryz.sizeOf0
 v0 := Tryz.zeroValue0
 t24 := Tryz.underlying42
 a24 := Tryz.isAgg42
 z24 := Tryz.sizeOf42
 v24 := Tryz.zeroValue42
 t26 := Tryz.underlying9
 a26 := Tryz.isAgg9
 z26 := Tryz.sizeOf9
 v26 := Tryz.zeroValue9
 t28 := Tryz.underlying207
 a28 := Tryz.isAgg207
 z28 := Tryz.sizeOf207
 v28 := Tryz.zeroValue207
 i26 := by kernel_rfl }
def Tryz.sort61_ren : Go.Shelf.Ren := ⟨fun | 6 => 171 | 8 => 187 | 9 => 186 | 19 => 199 | 20 => 200 | 21 => 190 | 22 => 191 | 23 => 192 | 24 => 193 | 25 => 194 | 26 => 195 | 27 => 196 | 28 => 197 | 29 => 198 | 36 => 201 | 31 => 202 | 32 => 203 | 37 => 204 | 38 => 205 | 39 => 206 | 41 => 207 | n => n, fun | 27 => 42 | 29 => 9 | 3 => 3 | 32 => 240 | 26 => 42 | 0 => 0 | 44 => 254 | 46 => 256 | 4 => 4 | 36 => 247 | 35 => 246 | 41 => 145 | 5 => 5 | 9 => 9 | 53 => 257 | 57 => 228 | 63 => 262 | 64 => 117 | n => n, fun | n => n⟩
theorem Tryz.sort61 : Go.Proofs.SlLaysM.n6 Tryz.prog Tryz.sort61_ren := {
 mixed := by kernel_rfl
 f6 := ⟨Tryz.f171.name, by decide, Tryz.func171.trans (congrArg some (by kernel_rfl))⟩
 f8 := Tryz.func187.trans (congrArg some (by kernel_rfl))
 f9 := ⟨Tryz.f186.name, by decide, Tryz.func186.trans (congrArg some (by kernel_rfl))⟩
 f19 := Tryz.func199.trans (congrArg some (by kernel_rfl))
 f20 := Tryz.func200.trans (congrArg some (by kernel_rfl))
 f21 := ⟨Tryz.f190.name, by decide, Tryz.func190.trans (congrArg some (by kernel_rfl))⟩
 f22 := ⟨Tryz.f191.name, by decide, Tryz.func191.trans (congrArg some (by kernel_rfl))⟩
 f23 := ⟨Tryz.f192.name, by decide, Tryz.func192.trans (congrArg some (by kernel_rfl))⟩
 f24 := ⟨Tryz.f193.name, by decide, Tryz.func193.trans (congrArg some (by kernel_rfl))⟩
 f25 := ⟨Tryz.f194.name, by decide, Tryz.func194.trans (congrArg some (by kernel_rfl))⟩
 f26 := ⟨Tryz.f195.name, by decide, Tryz.func195.trans (congrArg some (by kernel_rfl))⟩
 f27 := ⟨Tryz.f196.name, by decide, Tryz.func196.trans (congrArg some (by kernel_rfl))⟩
 f28 := ⟨Tryz.f197.name, by decide, Tryz.func197.trans (congrArg some (by kernel_rfl))⟩
 f29 := ⟨Tryz.f198.name, by decide, Tryz.func198.trans (congrArg some (by kernel_rfl))⟩
 f31 := Tryz.func202.trans (congrArg some (by kernel_rfl))
 f32 := Tryz.func203.trans (congrArg some (by kernel_rfl))
 f36 := ⟨Tryz.f201.name, by decide, Tryz.func201.trans (congrArg some (by kernel_rfl))⟩
 f37 := ⟨Tryz.f204.name, by decide, Tryz.func204.trans (congrArg some (by kernel_rfl))⟩
 f38 := ⟨Tryz.f205.name, by decide, Tryz.func205.trans (congrArg some (by kernel_rfl))⟩
 f39 := ⟨Tryz.f206.name, by decide, Tryz.func206.trans (congrArg some (by kernel_rfl))⟩
 f41 := ⟨Tryz.f207.name, by decide, Tryz.func207.trans (congrArg some (by kernel_rfl))⟩
 t0 := Tryz.underlying0
 a0 := Tryz.isAgg0
 z0 := Tryz.sizeOf0
 v0 := Tryz.zeroValue0
 t3 := Tryz.underlying3
 a3 := Tryz.isAgg3
 z3 := Tryz.sizeOf3
 v3 := Tryz.zeroValue3
 t4 := Tryz.underlying4
 a4 := Tryz.isAgg4
 z4 := Tryz.sizeOf4
 v4 := Tryz.zeroValue4
 t5 := Tryz.underlying5
 a5 := Tryz.isAgg5
 z5 := Tryz.sizeOf5
 v5 := Tryz.zeroValue5
 t9 := Tryz.underlying9
 a9 := Tryz.isAgg9
 z9 := Tryz.sizeOf9
 v9 := Tryz.zeroValue9
 t26 := Tryz.underlying42
 a26 := Tryz.isAgg42
 z26 := Tryz.sizeOf42
 v26 := Tryz.zeroValue42
 t27 := Tryz.underlying42
 a27 := Tryz.isAgg42
 z27 := Tryz.sizeOf42
 v27 := Tryz.zeroValue42
 t29 := Tryz.underlying9
 a29 := Tryz.isAgg9
 z29 := Tryz.sizeOf9
 v29 := Tryz.zeroValue9
 t32 := Tryz.underlying240
 a32 := Tryz.isAgg240
 z32 := Tryz.sizeOf240
 v32 := Tryz.zeroValue240
 t35 := Tryz.underlying246
 a35 := Tryz.isAgg246
 z35 := Tryz.sizeOf246
 v35 := Tryz.zeroValue246
 t36 := Tryz.underlying247
 a36 := Tryz.isAgg247
 z36 := Tryz.sizeOf247
 v36 := Tryz.zeroValue247
 t41 := Tryz.underlying145
 a41 := Tryz.isAgg145
 z41 := Tryz.sizeOf145
 v41 := Tryz.zeroValue145
 t44 := Tryz.underlying254
 a44 := Tryz.isAgg254
 z44 := Tryz.sizeOf254
 v44 := Tryz.zeroValue254
 t46 := Tryz.underlying256
 a46 := Tryz.isAgg256
 z46 := Tryz.sizeOf256
 v46 := Tryz.zeroValue256
 t53 := Tryz.underlying257
 a53 := Tryz.isAgg257
 z53 := Tryz.sizeOf257
 v53 := Tryz.zeroValue257
 t57 := Tryz.underlying228
 a57 := Tryz.isAgg228
 z57 := Tryz.sizeOf228
 v57 := Tryz.zeroValue228
 t63 := Tryz.underlying262
 a63 := Tryz.isAgg262
 z63 := Tryz.sizeOf262
 v63 := Tryz.zeroValue262
 t64 := Tryz.underlying117
 a64 := Tryz.isAgg117
 z64 := Tryz.sizeOf117
 v64 := Tryz.zeroValue117 }
end Go.Proofs

/-
 slices.Sorted(maps.Keys(m)) at this program: the shelf's contracts, as lay-iter.mjs lays them.
-/
namespace Go.Proofs
set_option maxRecDepth 100000
set_option maxHeartbeats 32000000
open Go.RowKit Go.Maps Go.Sort Go.Shelf
theorem Tryz.sorts41 (m : Nat) : AnyZ.SortsIn Tryz.prog Tryz.sorted41_ren Fence.wide m :=
 ⟨fun blk off cap ss W hH hblk hsz => callsIn_wide.2 (AnyM.slices_Sort_string Tryz.sort61 blk off cap ss W hH hblk hsz),
 fun p cap W => callsIn_wide.2 (AnyM.slices_Sort_string_none Tryz.sort61 p cap W)⟩
theorem Tryz.maps_Keys_42 (mb : Option Nat) (W : World) : CallsIn Fence.wide 5 Tryz.prog 142 #[.map mb] W fun e w' => e = .returned (.func (.func 172) #[] #[.pointer (some ⟨W.heap.size, 0, none⟩)]) /\ w' = W.alloc (.cells #[.map mb] 174) :=
 AnyZ.keys_in Tryz.keys42 Fence.wide 5 trivial rfl mb W
theorem Tryz.slices_Sorted_keys_41_42 {H : Type} (b nn : Nat) (D0 : DataW H) (R : Value -> Option (DataW H × List MemPlace)) (w : World) (hown : w.ownsMap Tryz.prog 9 R b nn D0) (hmax : Maps.size D0 <= maxLen) (hbytes : Maps.size D0 * 16 <= 140737488355328) :
  CallsIn Fence.wide 5 Tryz.prog 141 #[.func (.func 172) #[] #[.pointer (some ⟨w.heap.size, 0, none⟩)]] (w.alloc (.cells #[.map (some b)] 174)) fun e w' => ∃ (v : Value) (ss : List (List UInt8)), e = .returned v /\ ss.Perm (strKeys D0) /\
   w'.ownsRow (w.alloc (.cells #[.map (some b)] 174)).heap.size 9 1 v ss.length ((ss.mergeSort (fun x y => decide (x <= y))).map encStr) /\ (v = .slice none 0 0 ↔ ss = []) /\ Below (w.alloc (.cells #[.map (some b)] 174)).heap.size (w.alloc (.cells #[.map (some b)] 174)) w' := by
 have hbl := hown.lt
 have hseq : SeqGives Fence.wide 2 Tryz.prog 172 #[.pointer (some ⟨w.heap.size, 0, none⟩)] encStr (fun ss => ss.Perm (strKeys D0)) (Maps.size D0) (w.alloc (.cells #[.map (some b)] 174)) :=
  AnyZ.keys_gives (ρ := Tryz.keys42_ren) { Tryz.keys42 with } Fence.wide _ trivial rfl (by omega) w.heap.size b nn D0 _ (by simp) (by simp) (by
   obtain ⟨es, clock, hb, Ft, hs, hD⟩ := hown
   exact ⟨es, clock, (Below.heap_alloc _ _ b hbl).trans hb, Ft, hs, hD⟩)
 exact AnyZ.sorted_in Tryz.sorted41 Fence.wide 5 trivial trivial trivial trivial rfl (by omega) (Tryz.sorts41 _) (enters_of Tryz.func171 (by kernel_rfl) rfl) 172 #[.pointer (some ⟨w.heap.size, 0, none⟩)] trivial (enters_of Tryz.func172 (by kernel_rfl) rfl) _ _ hmax hbytes _ hseq
end Go.Proofs

namespace Go.Proofs.YtefjomofjejklaaGreatDoor
set_option maxRecDepth 100000
set_option maxHeartbeats 32000000
open Go.RowKit Go.Maps Go.Sort Go.Shelf
theorem strs_of_row {w : World} {base : Nat} {l : ZB} {v : Value} {n : Nat} (h : w.ownsRow base 9 1 v n ((l.map (·.data.toList)).map encStr)) (hn : n = l.length) : ∃ a c, v = .slice a l.length c /\ IsStrs w l a l.length c := by
 subst hn
 have e : (l.map (·.data.toList)).map encStr = l.flatMap strCells := by
  clear h
  induction l with
  | nil => rfl
  | cons x r ih => simp only [List.map_cons, ih, List.flatMap_cons, strCells]; rfl
 rw [e] at h
 obtain ⟨a, c, h1, _, h2⟩ := strs_of_owns h [] (by simp)
 exact ⟨a, c, h1, h2⟩
theorem size_owned {w : World} {b n : Nat} {D : DataW Unit} {R : Value -> Option (DataW Unit × List MemPlace)} (h : w.ownsMap Tryz.prog 9 R b n D) : Maps.size D <= n := by
 obtain ⟨es, clock, _, _, hs, rfl⟩ := h
 simp only [Maps.size]
 rw [length_sorted]
 simpa using hs
def PutQF (l : ZB) (w : World) (e : Ending) (w' : World) : Prop := ∃ (a : OA) (c : Nat), e = .returned (.slice a l.length c) /\ IsStrs w' l a l.length c /\ Ext w w' /\ ∀ b off, a = some ⟨b, off, none⟩ -> w.heap.size <= b
theorem synNamesF_calls (e : Ex) (v : Value) (w : World) (hs : e.size <= 900000) (hf : e.fits) (he : IsEx w e v) : Calls Tryz.prog 109 #[v] w (PutQF (refNames (namesE e)) w) := by
 obtain ⟨aw, nw, cw, aa, na, ca, rfl, -, -, -, -, -⟩ := he.parts
 have HX := hI (((Ext.refl w).alloc (.cells #[.int .i64 e.op, .string e.name, .slice aw nw cw, .int .i64 e.lo, .int .i64 e.hi, .slice aa na ca] 45)).alloc (.map #[] 0))
 have HSET := hI (show SetAt ((w.alloc (.cells #[.int .i64 e.op, .string e.name, .slice aw nw cw, .int .i64 e.lo, .int .i64 e.hi, .slice aa na ca] 45)).alloc (.map #[] 0)) (w.heap.size + 1) 0 [] from
  ⟨.map [], by have := World.ownsMap_made (H := Unit) (w.alloc (.cells #[.int .i64 e.op, .string e.name, .slice aw nw cw, .int .i64 e.lo, .int .i64 e.hi, .slice aa na ca] 45)) Tryz.prog 9 unitElem; simpa using this, setIs_nil⟩)
 have HE := hI (show IsEx (mask ((w.alloc (.cells #[.int .i64 e.op, .string e.name, .slice aw nw cw, .int .i64 e.lo, .int .i64 e.hi, .slice aa na ca] 45)).alloc (.map #[] 0)) [w.heap.size + 1]) e (exV e.op e.name aw nw cw e.lo e.hi aa na ca) from
  he.mono (fun p q hp => by
   have hb := block_lt hp
   rw [mask_cell, if_neg (by simp; omega)]
   exact HX.out.cell hp))
 have HC := hI (collect_calls 900000 (by omega) e _ _ _ _ _ hs hf HE.out HSET.out (by omega))
 have hmm := @run_makeMap Tryz.prog
 rw [List.nil_append] at HC
 clear he HSET HE
 unfold exV at *
 refine (callsIn_wide (n := 6)).1 ?_
 have hfK : Fence.wide.fn 142 := trivial
 have hfS : Fence.wide.fn 141 := trivial
 have hfC : Fence.wide.fn 140 := trivial
 refine callsIn_of_wp Tryz.func109 rfl trivial ?_ rfl
 simp only [Tryz.ntmps109, List.size_toArray, List.length_cons, List.length_nil, Nat.reduceAdd, Nat.reduceSub, Array.replicate_succ, Array.replicate_zero, List.push_toArray, List.append_toArray, List.nil_append, List.cons_append]
 gi_wp2_with (first
  | (gi_at_call 140; refine (callsIn_wide.2 HC.out).mono ?_; rintro r w1 ⟨rfl, hset1, hc1⟩)
  | (gi_at_call 142; refine (Tryz.maps_Keys_42 _ _).mono ?_; rintro r w' ⟨rfl, rfl⟩))
 obtain ⟨D, hown, hsi⟩ := hset1
 have hsize := size_owned hown
 have hwx := hc1.ext HX.out (by simp)
 have HX1 := hI hwx
 have HSI := hI hsi
 clear hc1 hsi hwx
 refine (Tryz.slices_Sorted_keys_41_42 (w.heap.size + 1) _ D _ w1 hown (by unfold maxLen; omega) (by omega)).mono ?_
 rintro r w2 ⟨v, ss, rfl, hS, hrow, -, hb⟩
 have hsame := names_same HSI.out hS
 have hlen : ss.length = (refNames (namesE e)).length := by
  have := congrArg List.length hsame
  simpa using this
 rw [hsame] at hrow
 have hfr := hrow.lt
 obtain ⟨ra, rc, rfl, hst⟩ := strs_of_row hrow hlen
 have HFR := hI (show ∀ b off, ra = some ⟨b, off, none⟩ -> w.heap.size <= b by
  intro b off e
  subst e
  have h1 := (hfr b rfl).1
  have h2 := HX1.out.size
  simp at h1
  omega)
 have HST := hI hst
 have HX2 := hI ((HX1.out.alloc (.cells #[.map (some (w.heap.size + 1))] 174)).trans hb)
 clear hrow hst hb hS hsame hlen hown hsize hfr
 gi_wp2_with (fail)
 go_ret
 exact ⟨ra, rc, rfl, HST.out, HX2.out, HFR.out⟩
open Go.RowKit Go.Maps
def Cl.dfn (c : Cl) : Dfn := ⟨c.kind == 1, c.name, refNames (namesE c.cond)⟩
def IsInts (w : World) (l : ZI) (a : OA) (n c : Nat) : Prop :=
 n = l.length /\ n <= c /\ OkAddr a c /\ ∀ i (h : i < l.length), ∃ b off, a = some ⟨b, off, none⟩ /\ w.cell? ⟨b, off + i, none⟩ = some (.int .i64 l[i])
theorem IsInts.mono {w w' : World} {l : ZI} {a : OA} {n c : Nat} (h : IsInts w l a n c) (he : Sub w w') : IsInts w' l a n c :=
 ⟨h.1, h.2.1, h.2.2.1, fun i hi => by obtain ⟨b, off, h1, h2⟩ := h.2.2.2 i hi; exact ⟨b, off, h1, he _ _ h2⟩⟩
def ints (o : ZN) : ZI := o.map fun (i : Nat) => (i : Int)
def OrdQ (l : List Dfn) (w : World) (e : Ending) (w' : World) : Prop := Ext w w' /\
 ((∃ o a c, Topo l o /\ e = .returned (.tuple #[.slice a o.length c, .int .i64 0]) /\ IsInts w' (ints o) a o.length c) \/ (∃ o, OInv l o [] /\ o.length < countOf l /\ e = .returned (.tuple #[.slice none 0 0, .int .i64 10])))
theorem first_take {l : List Dfn} {k : Nat} (hk : k < l.length) (s : BA) : firstAt (l.take (k + 1)) s = match firstAt (l.take k) s with | some d => some d | none => if l[k].is = true /\ l[k].name = s then some k else none := by
 unfold firstAt
 rw [List.take_succ_eq_append_getElem hk, List.findIdx?_append]
 cases h : (l.take k).findIdx? fun d => d.is && decide (d.name = s) with
 | some d => simp
 | none =>
  simp only [List.findIdx?_cons, List.findIdx?_nil, List.length_take]
  by_cases hc : l[k].is = true /\ l[k].name = s
  ·simp [hc]; omega
  rw [if_neg hc]
  have : (l[k].is && decide (l[k].name = s)) = false := by
   simp only [Bool.and_eq_false_iff, decide_eq_false_iff_not]
   by_cases h1 : l[k].is = true
   ·exact Or.inr fun h2 => hc ⟨h1, h2⟩
   exact Or.inl (by simpa using h1)
  simp [this]
theorem uMapSI : Tryz.prog.underlying 136 = some (.map 9 3) := by kernel_rfl
theorem uMapSIs : Tryz.prog.underlying 173 = some (.map 9 26) := by kernel_rfl
theorem uMapIM : Tryz.prog.underlying 172 = some (.map 3 174) := by kernel_rfl
theorem uInt3 : Tryz.prog.underlying 3 = some (.int .i64) := by kernel_rfl
theorem keyedInt : Keyed Tryz.prog 3 := int_keyed uInt3
theorem zeroInt (w : World) : (zeroValue 3).run Tryz.prog w = .ok (.int .i64 0) w := by kernel_rfl
theorem zeroInts (w : World) : (zeroValue 26).run Tryz.prog w = .ok (.slice none 0 0) w := by kernel_rfl
theorem zeroSet (w : World) : (zeroValue 174).run Tryz.prog w = .ok (.map none) w := by kernel_rfl
theorem keyStr {s : BA} (h : s.size <= 1000000000000000) : keyOf Tryz.prog 9 (.string s) = some (.string s.data.toList) := Go.WideMaps.keyOf_string_mk uStr2 (by unfold maxLen; omega)
theorem keyInt {i : Nat} (h : i <= 1000000000000000) : keyOf Tryz.prog 3 (.int .i64 i) = some (.int .i64 i) := keyOf_int_mk uInt3 (by simp [Lit.wf, IntKind.min, IntKind.max, IntKind.bits, IntKind.signed]; omega)
theorem firstF_none {l : List Dfn} {s : BA} (h : firstAt l s = none) : strF (firstF l) (.string s.data.toList) = none := by rw [strF_at, firstF, h]; rfl
theorem firstF_some {l : List Dfn} {s : BA} {d : Nat} (h : firstAt l s = some d) : strF (firstF l) (.string s.data.toList) = some (.int .i64 d) := by rw [strF_at, firstF, h]; rfl
theorem firstF_step {l : List Dfn} {k : Nat} (hk : k < l.length) (hd : l[k].is = true) (hf : firstAt (l.take k) l[k].name = none) (x : Lit) : setF (strF (firstF (l.take k))) (.string l[k].name.data.toList) (some (.int .i64 k)) x = strF (firstF (l.take (k + 1))) x := by
 rw [setF_str]
 cases x <;> try rfl
 rename_i bs
 simp only [strF]
 by_cases e : (⟨bs.toArray⟩ : BA) = l[k].name
 ·rw [e, upS_same, firstF, first_take hk, hf]
  simp [hd]
 rw [upS_other _ _ e, firstF, firstF, first_take hk]
 cases firstAt (l.take k) ⟨bs.toArray⟩ with
 | some d => rfl
 | none =>
  have : ¬ (l[k].is = true /\ l[k].name = ⟨bs.toArray⟩) := fun h => e h.2.symm
  rw [if_neg this]
theorem firstF_skip {l : List Dfn} {k : Nat} (hk : k < l.length) (hd : l[k].is = false \/ firstAt (l.take k) l[k].name ≠ none) (x : Lit) : strF (firstF (l.take k)) x = strF (firstF (l.take (k + 1))) x := by
 cases x <;> try rfl
 rename_i bs
 simp only [strF, firstF]
 rw [first_take hk]
 cases h : firstAt (l.take k) ⟨bs.toArray⟩ with
 | some d => rfl
 | none =>
  have : ¬ (l[k].is = true /\ l[k].name = ⟨bs.toArray⟩) := by
   rintro ⟨h1, h2⟩
   rcases hd with h3 | h3
   ·rw [h3] at h1; cases h1
   rw [h2] at h3; exact h3 h
  rw [if_neg this]
def St0 (bf bu bm bp : Nat) : St where
 ρ := fun k => if k = bf then .first else if k = bp then .pile else if k = bm then .miss else if k = bu then .users else .none
 mb := fun _ => 0
 uv := fun _ => none
 U := fun _ => []
 D := fun _ => False
 S := fun _ => False
 M := fun _ _ => False
 pv := .slice none 0 0
 R := []
 vo := .slice none 0 0
 O := []
theorem OB.start {w wr : World} {l : List Dfn} {bf t : Nat} (h : MapAt wr 9 bf t (strF (firstF l))) (hx : Ext w wr) (hb : w.heap.size <= bf) :
  OB w l bf (wr.heap.size + 2) (wr.heap.size + 1) wr.heap.size t (St0 bf (wr.heap.size + 2) (wr.heap.size + 1) wr.heap.size) (((wr.alloc (.cells #[.slice none 0 0] 171)).alloc (.map #[] 0)).alloc (.map #[] 0)) := by
 have hlt := h.lt
 have hsz := hx.size
 have x1 : Ext wr (wr.alloc (.cells #[.slice none 0 0] 171)) := (Ext.refl _).alloc _
 have x2 := x1.alloc (.map #[] 0)
 have x3 := x2.alloc (.map #[] 0)
 have z1 : (wr.alloc (.cells #[.slice none 0 0] 171)).heap.size = wr.heap.size + 1 := by simp
 have z2 : ((wr.alloc (.cells #[.slice none 0 0] 171)).alloc (.map #[] 0)).heap.size = wr.heap.size + 2 := by simp
 refine { ext := hx.trans x3, fresh := ?_, old := ?_, rf := ?_, hf := h.ext x3, ru := ?_, hu := ?_, rows := ?_, rown := fun _ _ => rfl, rm := ?_, hm := ?_, dom := fun _ h => h, sets := fun _ h => h.elim, rp := ?_, hp := ?_, rpv := ?_, hv := World.ownsRow_nil _ _ _ _, rv := ?_ }
 ·intro k hk
  simp at hk
  simp only [St0]
  rw [if_neg (by omega), if_neg (by omega), if_neg (by omega), if_neg (by omega)]
 ·intro k hk
  simp only [St0]
  rw [if_neg (by omega), if_neg (by omega), if_neg (by omega), if_neg (by omega)]
 ·simp [St0]
 ·simp only [St0]
  rw [if_neg (by omega), if_neg (by omega), if_neg (by omega), if_pos trivial]
 ·have := MapAt.made ((wr.alloc (.cells #[.slice none 0 0] 171)).alloc (.map #[] 0)) 9
  rw [z2] at this
  exact (this.more (Nat.zero_le t)).congr fun x => by cases x <;> rfl
 ·intro x v hv; cases hv
 ·simp only [St0]
  rw [if_neg (by omega), if_neg (by omega), if_pos trivial]
 ·have := MapAt.made (wr.alloc (.cells #[.slice none 0 0] 171)) 3
  rw [z1] at this
  refine ((this.more (Nat.zero_le t)).ext ((Ext.refl _).alloc _)).congr fun x => ?_
  cases x <;> try rfl
  rename_i q z
  cases q <;> try rfl
  simp [intF, missF, St0]
 ·simp only [St0]
  rw [if_neg (by omega), if_pos trivial]
 ·have := PileV.fresh wr
  refine ⟨by omega, ?_, World.ownsRow_nil _ _ _ _, by simp [St0, Value.ownBlock]⟩
  exact blk_alloc (blk_alloc (alloc_new wr _))
 ·intro g hg; simp [St0, Value.ownBlock] at hg
 intro g hg; simp [St0, Value.ownBlock] at hg
theorem IsStrs.chg {w w' : World} {l : ZB} {a : OA} {n c : Nat} {N : ZN} (h : IsStrs w l a n c) (hc : Chg N w w') (hN : ∀ b off, a = some ⟨b, off, none⟩ -> b ∉ N) : IsStrs w' l a n c :=
 ⟨h.1, h.2.1, h.2.2.1, fun i hi => by
  obtain ⟨b, off, h1, h2⟩ := h.2.2.2 i hi
  refine ⟨b, off, h1, ?_⟩
  have hb := block_lt h2
  unfold World.cell? at h2 ⊢
  rw [hc.block b hb (hN b off h1)]
  exact h2⟩
theorem rerole_none {ρ : Nat -> Role} {v v' : Value} {r : Role} {n k : Nat} (hk : ρ k = .none) (hkn : k < n) (hr : r ≠ .none) (hv : ∀ g, v.ownBlock = some g -> ρ g = r) (hw : ∀ g, v'.ownBlock = some g -> v.ownBlock = some g \/ n <= g) : rerole ρ v' r k = .none := by
 rw [rerole_other, hk]
 intro g hg e
 subst e
 rcases hw k hg with h | h
 ·exact hr ((hv k h).symm.trans hk)
 omega
open Classical in
noncomputable def UL (l : List Dfn) (k : Nat) (x : BA) : ZN := if (firstAt l x).isSome then (List.range k).filter fun i => isDef l i && (usesAt l i).any fun y => decide (y = x) else []
def RL (l : List Dfn) (k : Nat) : ZN := (List.range k).filter fun i => isDef l i && (missL l [] i).isEmpty
def cntTo (l : List Dfn) (k : Nat) : Nat := ((List.range k).filter (isDef l)).length
def natI (l : ZN) : ZI := l.map fun (i : Nat) => (i : Int)
structure Ph2 (l : List Dfn) (k : Nat) (s : St) : Prop where
 D : ∀ i, s.D i ↔ (i < k /\ isDef l i = true)
 S : ∀ i, s.S i ↔ (i < k /\ isDef l i = true)
 M : ∀ i, s.S i -> ∀ x, s.M i x ↔ x ∈ missL l [] i
 U : ∀ x, s.U x = UL l k x
 R : s.R.Perm (natI (RL l k))
 vo : s.vo = .slice none 0 0
 O : s.O = []
theorem Ph2.start (l : List Dfn) (bf bu bm bp : Nat) : Ph2 l 0 (St0 bf bu bm bp) where
 D i := by simp [St0]
 S i := by simp [St0]
 M i h := h.elim
 U x := by simp [St0, UL]
 R := by simp [St0, RL, natI]
 vo := rfl
 O := rfl
structure Ph3 (l : List Dfn) (k j : Nat) (s : St) : Prop where
 D : ∀ i, s.D i ↔ (i < k /\ isDef l i = true)
 S : ∀ i, s.S i ↔ ((i < k /\ isDef l i = true) \/ i = k)
 M : ∀ i, i < k -> s.S i -> ∀ x, s.M i x ↔ x ∈ missL l [] i
 Mk : ∀ x, s.M k x ↔ (x ∈ (usesAt l k).take j /\ (firstAt l x).isSome = true)
 U : ∀ x, s.U x = if (firstAt l x).isSome = true /\ x ∈ (usesAt l k).take j then UL l k x ++ [k] else UL l k x
 R : s.R.Perm (natI (RL l k))
 vo : s.vo = .slice none 0 0
 O : s.O = []
theorem Ph2.skip {l : List Dfn} {k : Nat} {s : St} (h : Ph2 l k s) (hd : isDef l k = false) : Ph2 l (k + 1) s /\ cntTo l (k + 1) = cntTo l k := by
 have hi : ∀ i, (i < k + 1 /\ isDef l i = true) ↔ (i < k /\ isDef l i = true) := fun i => by
  constructor
  ·rintro ⟨h1, h2⟩
   refine ⟨?_, h2⟩
   rcases Nat.lt_or_ge i k with h' | h'
   ·exact h'
   obtain rfl : i = k := by omega
   rw [hd] at h2; cases h2
  rintro ⟨h1, h2⟩; exact ⟨by omega, h2⟩
 refine ⟨{ D := fun i => (h.D i).trans (hi i).symm, S := fun i => (h.S i).trans (hi i).symm, M := h.M, U := fun x => ?_, R := ?_, vo := h.vo, O := h.O }, ?_⟩
 ·rw [h.U]
  unfold UL
  rw [List.range_succ, List.filter_append]
  simp [hd]
 ·refine h.R.trans (List.Perm.of_eq ?_)
  unfold RL
  rw [List.range_succ, List.filter_append]
  simp [hd]
 unfold cntTo
 rw [List.range_succ, List.filter_append]
 simp [hd]
theorem Ph2.enter {l : List Dfn} {k : Nat} {s : St} (h : Ph2 l k s) (b : Nat) : Ph3 l k 0 (s.newSet k b) where
 D i := h.D i
 S i := by
  show (i = k \/ s.S i) ↔ _
  rw [h.S]; exact Or.comm
 M i hi hS x := by
  show upN s.M k (fun _ => False) i x ↔ _
  rw [upN_other _ _ (by omega)]
  refine h.M i ?_ x
  rcases hS with e | e
  ·omega
  exact e
 Mk x := by
  show upN s.M k (fun _ => False) k x ↔ _
  rw [upN_same]; simp
 U x := by
  show s.U x = _
  rw [h.U]; simp
 R := h.R
 vo := h.vo
 O := h.O
theorem take_succ_mem {α : Type} {l : List α} {j : Nat} (hj : j < l.length) (x : α) : x ∈ l.take (j + 1) ↔ x ∈ l.take j \/ x = l[j] := by
 rw [List.take_succ_eq_append_getElem hj, List.mem_append, List.mem_singleton]
theorem Ph3.skip {l : List Dfn} {k j : Nat} {s : St} (h : Ph3 l k j s) (hj : j < (usesAt l k).length) (hf : firstAt l (usesAt l k)[j] = none) : Ph3 l k (j + 1) s := by
 have hx : ∀ x, ((firstAt l x).isSome = true /\ x ∈ (usesAt l k).take (j + 1)) ↔ ((firstAt l x).isSome = true /\ x ∈ (usesAt l k).take j) := fun x => by
  rw [take_succ_mem hj]
  constructor
  ·rintro ⟨h1, h2 | rfl⟩
   ·exact ⟨h1, h2⟩
   rw [hf] at h1; cases h1
  rintro ⟨h1, h2⟩; exact ⟨h1, Or.inl h2⟩
 exact { h with
  Mk := fun x => by rw [h.Mk, and_comm, <- hx x, and_comm]
  U := fun x => by
   rw [h.U]
   by_cases hc : (firstAt l x).isSome = true /\ x ∈ (usesAt l k).take j
   ·rw [if_pos hc, if_pos ((hx x).2 hc)]
   rw [if_neg hc, if_neg fun h' => hc ((hx x).1 h')] }
theorem Ph3.step {l : List Dfn} {k j : Nat} {s : St} (h : Ph3 l k j s) (hj : j < (usesAt l k).length) (hf : (firstAt l (usesAt l k)[j]).isSome = true) (hnd : (usesAt l k).Nodup) (v : Value) :
  Ph3 l k (j + 1) ((s.setM k fun x => x = (usesAt l k)[j] \/ s.M k x).setU (usesAt l k)[j] v (s.U (usesAt l k)[j] ++ [k])) := by
 have hnot : (usesAt l k)[j] ∉ (usesAt l k).take j := by
  intro hm
  obtain ⟨q, hq, e⟩ := List.mem_iff_getElem.1 hm
  have hq' : q < j := by simp at hq; omega
  rw [List.getElem_take] at e
  have := (List.pairwise_iff_getElem.1 hnd) q j (by omega) hj hq'
  exact this e
 refine { D := h.D, S := h.S, M := fun i hi hS x => ?_, Mk := fun x => ?_, U := fun x => ?_, R := h.R, vo := h.vo, O := h.O }
 ·show upN s.M k _ i x ↔ _
  rw [upN_other _ _ (by omega)]
  exact h.M i hi hS x
 ·show upN s.M k _ k x ↔ _
  rw [upN_same, take_succ_mem hj, h.Mk]
  constructor
  ·rintro (rfl | ⟨h1, h2⟩)
   ·exact ⟨Or.inr rfl, hf⟩
   exact ⟨Or.inl h1, h2⟩
  rintro ⟨h1 | rfl, h2⟩
  ·exact Or.inr ⟨h1, h2⟩
  exact Or.inl rfl
 show upS s.U (usesAt l k)[j] (s.U (usesAt l k)[j] ++ [k]) x = _
 by_cases e : x = (usesAt l k)[j]
 ·rw [e, upS_same, if_pos ⟨hf, (take_succ_mem hj _).2 (Or.inr rfl)⟩, h.U, if_neg fun h' => hnot h'.2]
 rw [upS_other _ _ e, h.U]
 have hx : ((firstAt l x).isSome = true /\ x ∈ (usesAt l k).take (j + 1)) ↔ ((firstAt l x).isSome = true /\ x ∈ (usesAt l k).take j) := by
  rw [take_succ_mem hj]
  exact ⟨fun ⟨h1, h2⟩ => ⟨h1, h2.resolve_right e⟩, fun ⟨h1, h2⟩ => ⟨h1, Or.inl h2⟩⟩
 by_cases hc : (firstAt l x).isSome = true /\ x ∈ (usesAt l k).take j
 ·rw [if_pos hc, if_pos (hx.2 hc)]
 rw [if_neg hc, if_neg fun h' => hc (hx.1 h')]
theorem isSome_iff {l : List Dfn} {x : BA} : (firstAt l x).isSome = true ↔ ∃ d, firstAt l x = some d := by
 cases firstAt l x <;> simp
theorem UL_succ {l : List Dfn} {k : Nat} (hd : isDef l k = true) (x : BA) : UL l (k + 1) x = if (firstAt l x).isSome = true /\ x ∈ usesAt l k then UL l k x ++ [k] else UL l k x := by
 unfold UL
 by_cases hs : (firstAt l x).isSome = true
 ·simp only [hs, if_true, true_and]
  rw [List.range_succ, List.filter_append]
  by_cases hm : x ∈ usesAt l k
  ·rw [if_pos hm]
   congr 1
   have : ((usesAt l k).any fun y => decide (y = x)) = true := List.any_eq_true.2 ⟨x, hm, by simp⟩
   simp [hd, this]
  rw [if_neg hm]
  have : ((usesAt l k).any fun y => decide (y = x)) = false := by
   rw [List.any_eq_false]
   intro y hy
   simp only [decide_eq_true_eq]
   intro e
   exact hm (e ▸ hy)
  simp [hd, this]
 simp [hs]
theorem Ph3.leave {l : List Dfn} {k : Nat} {s : St} (h : Ph3 l k (usesAt l k).length s) (hd : isDef l k = true) (he : missL l [] k ≠ []) : Ph2 l (k + 1) (s.setD k) /\ cntTo l (k + 1) = cntTo l k + 1 := by
 have hi : ∀ i, (i < k + 1 /\ isDef l i = true) ↔ (i = k \/ (i < k /\ isDef l i = true)) := fun i => ⟨fun ⟨h1, h2⟩ => by
  rcases Nat.lt_or_ge i k with h' | h'
  ·exact Or.inr ⟨h', h2⟩
  ·exact Or.inl (by omega), fun h' => by
  rcases h' with rfl | ⟨h1, h2⟩
  ·exact ⟨by omega, hd⟩
  exact ⟨by omega, h2⟩⟩
 refine ⟨{ D := fun i => ?_, S := fun i => ?_, M := fun i hS x => ?_, U := fun x => ?_, R := ?_, vo := h.vo, O := h.O }, ?_⟩
 ·show (i = k \/ s.D i) ↔ _
  rw [h.D, hi]
 ·show s.S i ↔ _
  rw [h.S, hi, Or.comm]
 ·show s.M i x ↔ _
  by_cases e : i = k
  ·subst e
   rw [h.Mk, List.take_length, mem_miss]
   constructor
   ·rintro ⟨h1, h2⟩
    obtain ⟨d, hd⟩ := isSome_iff.1 h2
    exact ⟨h1, d, hd, by simp⟩
   rintro ⟨h1, d, h2, _⟩
   exact ⟨h1, isSome_iff.2 ⟨d, h2⟩⟩
  refine h.M i ?_ hS x
  have := (h.S i).1 hS
  omega
 ·show s.U x = _
  rw [h.U, List.take_length, UL_succ hd]
 ·refine h.R.trans (List.Perm.of_eq ?_)
  unfold RL
  rw [List.range_succ, List.filter_append]
  simp [hd, he]
 unfold cntTo
 rw [List.range_succ, List.filter_append]
 simp [hd]
theorem Ph3.leave0 {l : List Dfn} {k : Nat} {s : St} (h : Ph3 l k (usesAt l k).length s) (hd : isDef l k = true) (he : missL l [] k = []) {pv : Value} {R : ZI} (hR : R.Perm (s.R ++ [(k : Int)])) : Ph2 l (k + 1) ((s.setD k).setP pv R) /\ cntTo l (k + 1) = cntTo l k + 1 := by
 have hi : ∀ i, (i < k + 1 /\ isDef l i = true) ↔ (i = k \/ (i < k /\ isDef l i = true)) := fun i => ⟨fun ⟨h1, h2⟩ => by
  rcases Nat.lt_or_ge i k with h' | h'
  ·exact Or.inr ⟨h', h2⟩
  ·exact Or.inl (by omega), fun h' => by
  rcases h' with rfl | ⟨h1, h2⟩
  ·exact ⟨by omega, hd⟩
  exact ⟨by omega, h2⟩⟩
 refine ⟨{ D := fun i => ?_, S := fun i => ?_, M := fun i hS x => ?_, U := fun x => ?_, R := ?_, vo := h.vo, O := h.O }, ?_⟩
 ·show (i = k \/ s.D i) ↔ _
  rw [h.D, hi]
 ·show s.S i ↔ _
  rw [h.S, hi, Or.comm]
 ·show s.M i x ↔ _
  by_cases e : i = k
  ·subst e
   rw [h.Mk, List.take_length, mem_miss]
   constructor
   ·rintro ⟨h1, h2⟩
    obtain ⟨d, hd⟩ := isSome_iff.1 h2
    exact ⟨h1, d, hd, by simp⟩
   rintro ⟨h1, d, h2, _⟩
   exact ⟨h1, isSome_iff.2 ⟨d, h2⟩⟩
  refine h.M i ?_ hS x
  have := (h.S i).1 hS
  omega
 ·show s.U x = _
  rw [h.U, List.take_length, UL_succ hd]
 ·refine hR.trans ?_
  have e : natI (RL l (k + 1)) = natI (RL l k) ++ [(k : Int)] := by
   unfold RL natI
   rw [List.range_succ, List.filter_append, List.map_append]
   simp [hd, he]
  rw [e]
  exact List.Perm.append_right _ h.R
 unfold cntTo
 rw [List.range_succ, List.filter_append]
 simp [hd]
theorem refNames_len2 (l : ZB) : (refNames l).length <= l.length := by have := fold_len l []; simpa [refNames] using this
mutual
theorem names_fit : (e : Ex) -> e.fits -> ∀ x ∈ namesE e, x.size <= 1000000000000000
 | .mk op name words lo hi args, h, x, hx => by
  obtain ⟨h1, h2⟩ := fits_parts2 h
  rw [namesE, List.mem_append] at hx
  rcases hx with hx | hx
  ·split at hx
   ·simp at hx; subst hx; exact h1
   simp at hx
  exact namesL_fit args h2 x hx
theorem namesL_fit : (l : List Ex) -> (∀ y ∈ l, y.fits) -> ∀ x ∈ namesL l, x.size <= 1000000000000000
 | [], _, x, hx => by rw [namesL] at hx; simp at hx
 | e :: r, h, x, hx => by
  rw [namesL, List.mem_append] at hx
  rcases hx with hx | hx
  ·exact names_fit e (h e (by simp)) x hx
  exact namesL_fit r (fun y hy => h y (by simp [hy])) x hx
end
def tb (k : Nat) : Nat := 1000 + k * 1000000
theorem tb_succ (k : Nat) : tb k + 1000000 <= tb (k + 1) := by unfold tb; omega
theorem tb_le {k : Nat} (h : k <= 1000) : tb k <= 2000000000 := by unfold tb; omega
theorem tb_zero : 1000 <= tb 0 := by unfold tb; omega
theorem cnt_le (l : List Dfn) (k : Nat) : cntTo l k <= k := by
 unfold cntTo
 have := List.length_filter_le (isDef l) (List.range k)
 simpa using this
theorem UL_le (l : List Dfn) (k : Nat) (x : BA) : (UL l k x).length <= k := by
 unfold UL
 split
 ·have := List.length_filter_le (fun i => isDef l i && (usesAt l i).any fun y => decide (y = x)) (List.range k)
  simpa using this
 simp
theorem RL_le (l : List Dfn) (k : Nat) : (RL l k).length <= k := by
 unfold RL
 have := List.length_filter_le (fun i => isDef l i && (missL l [] i).isEmpty) (List.range k)
 simpa using this
structure Ph4 (l : List Dfn) (s : St) : Prop where
 D : ∀ i, s.D i ↔ isDef l i = true
 S : ∀ i, s.S i ↔ isDef l i = true
 M : ∀ i, isDef l i = true -> ∀ x, s.M i x ↔ x ∈ missL l s.O i
 U : ∀ x, s.U x = UL l l.length x
 inv : ∃ R, s.R.Perm (natI R) /\ OInv l s.O R
theorem Ph2.finish {l : List Dfn} {s : St} (h : Ph2 l l.length s) : Ph4 l s where
 D i := (h.D i).trans ⟨fun h => h.2, fun h => ⟨isDef_lt h, h⟩⟩
 S i := (h.S i).trans ⟨fun h => h.2, fun h => ⟨isDef_lt h, h⟩⟩
 M i hi x := by rw [h.O]; exact h.M i ((h.S i).2 ⟨isDef_lt hi, hi⟩) x
 U := h.U
 inv := ⟨RL l l.length, h.R, by rw [h.O]; exact OInv.start l⟩
theorem natI_perm {R : ZN} {z : Int} {ys : ZI} (h : (natI R).Perm (z :: ys)) : ∃ (i : Nat) (R' : ZN), z = i /\ R.Perm (i :: R') /\ ys.Perm (natI R') := by
 have hz : z ∈ natI R := h.mem_iff.2 (by simp)
 obtain ⟨i, hi, rfl⟩ := List.mem_map.1 hz
 refine ⟨i, R.erase i, rfl, List.perm_cons_erase hi, ?_⟩
 have h1 : (natI R).Perm (natI (i :: R.erase i)) := (List.perm_cons_erase hi).map _
 have h2 : (natI (i :: R.erase i)) = (i : Int) :: natI (R.erase i) := rfl
 rw [h2] at h1
 exact List.Perm.cons_inv (h.symm.trans h1)
theorem mem_miss_snoc {l : List Dfn} {o : ZN} {i u : Nat} (hf : firstAt l (nameAt l i) = some i) (x : BA) : x ∈ missL l (o ++ [i]) u ↔ (x ∈ missL l o u /\ x ≠ nameAt l i) := by
 rw [mem_miss, mem_miss]
 constructor
 ·rintro ⟨h1, d, h2, h3⟩
  simp only [List.mem_append, List.mem_singleton, not_or] at h3
  refine ⟨⟨h1, d, h2, h3.1⟩, fun e => ?_⟩
  rw [e, hf] at h2
  cases h2
  exact h3.2 rfl
 rintro ⟨⟨h1, d, h2, h3⟩, h4⟩
 refine ⟨h1, d, h2, ?_⟩
 simp only [List.mem_append, List.mem_singleton, not_or]
 exact ⟨h3, fun e => h4 (by rw [<- e]; exact (first_def h2).2.symm)⟩
structure Ph5 (l : List Dfn) (o : ZN) (i : Nat) (R' : ZN) (uv : BA -> Option Value) (vo : Value) (j : Nat) (s : St) : Prop where
 D : ∀ i, s.D i ↔ isDef l i = true
 S : ∀ i, s.S i ↔ isDef l i = true
 M : ∀ u, isDef l u = true -> ∀ x, s.M u x ↔ x ∈ missL l (if u ∈ (UL l l.length (nameAt l i)).take j then o ++ [i] else o) u
 U : ∀ x, s.U x = UL l l.length x
 uv : s.uv = uv
 O : s.O = o ++ [i]
 vo : s.vo = vo
 R : s.R.Perm (natI (R' ++ ((UL l l.length (nameAt l i)).take j).filter fun u => (missL l (o ++ [i]) u).isEmpty))
theorem UL_nodup (l : List Dfn) (k : Nat) (x : BA) : (UL l k x).Nodup := by
 unfold UL
 split
 ·exact List.nodup_range.filter _
 exact List.nodup_nil
theorem UL_users {l : List Dfn} {x : BA} {d : Nat} (h : firstAt l x = some d) : UL l l.length x = usersOf l x := by
 unfold UL usersOf
 rw [h]; rfl
theorem UL_def {l : List Dfn} {k : Nat} {x : BA} {u : Nat} (h : u ∈ UL l k x) : isDef l u = true /\ x ∈ usesAt l u := by
 unfold UL at h
 split at h
 ·simp only [List.mem_filter, Bool.and_eq_true, List.any_eq_true, decide_eq_true_eq, exists_eq_right] at h
  exact h.2
 simp at h
theorem Ph5.start {l : List Dfn} {s : St} {R' : ZN} {i : Nat} {R1 : ZI} {pv vo : Value} (h : Ph4 l s) (hR : R1.Perm (natI R')) : Ph5 l s.O i R' s.uv vo 0 ((s.setP pv R1).setO vo (s.O ++ [i])) where
 D := h.D
 S := h.S
 M u hu x := by
  show s.M u x ↔ _
  simpa using h.M u hu x
 U := h.U
 uv := rfl
 O := rfl
 vo := rfl
 R := by
  show R1.Perm _
  simpa using hR
theorem not_take {α : Type} {l : List α} (h : l.Nodup) {j : Nat} (hj : j < l.length) : l[j] ∉ l.take j := by
 intro hm
 obtain ⟨q, hq, e⟩ := List.mem_iff_getElem.1 hm
 have hq' : q < j := by simp at hq; omega
 rw [List.getElem_take] at e
 exact (List.pairwise_iff_getElem.1 h) q j (by omega) hj hq' e
theorem Ph5.del {l : List Dfn} {o : ZN} {i : Nat} {R' : ZN} {uv : BA -> Option Value} {vo : Value} {j : Nat} {s : St} (h : Ph5 l o i R' uv vo j s) (hf : firstAt l (nameAt l i) = some i) (hj : j < (UL l l.length (nameAt l i)).length)
  {u : Nat} (hu : u = (UL l l.length (nameAt l i))[j]) : (∀ y, (s.M u y /\ y ≠ nameAt l i) ↔ y ∈ missL l (o ++ [i]) u) /\ ((missL l (o ++ [i]) u).isEmpty = false -> Ph5 l o i R' uv vo (j + 1) (s.setM u fun y => s.M u y /\ y ≠ nameAt l i)) /\
  ((missL l (o ++ [i]) u).isEmpty = true -> ∀ pv R1, R1.Perm (s.R ++ [(u : Int)]) -> Ph5 l o i R' uv vo (j + 1) ((s.setM u fun y => s.M u y /\ y ≠ nameAt l i).setP pv R1)) := by
 have hud := UL_def (show u ∈ UL l l.length (nameAt l i) by rw [hu]; exact List.getElem_mem hj)
 have hnt : u ∉ (UL l l.length (nameAt l i)).take j := by rw [hu]; exact not_take (UL_nodup l _ _) hj
 have key : ∀ y, (s.M u y /\ y ≠ nameAt l i) ↔ y ∈ missL l (o ++ [i]) u := fun y => by
  rw [h.M u hud.1, if_neg hnt, mem_miss_snoc hf]
 have hM : ∀ v, isDef l v = true -> ∀ x, (upN s.M u fun y => s.M u y /\ y ≠ nameAt l i) v x ↔ x ∈ missL l (if v ∈ (UL l l.length (nameAt l i)).take (j + 1) then o ++ [i] else o) v := by
  intro v hv x
  by_cases e : v = u
  ·subst e
   rw [upN_same, if_pos ((take_succ_mem hj _).2 (Or.inr hu))]
   exact key x
  rw [upN_other _ _ e, h.M v hv]
  have : v ∈ (UL l l.length (nameAt l i)).take (j + 1) ↔ v ∈ (UL l l.length (nameAt l i)).take j := by
   rw [take_succ_mem hj]
   exact ⟨fun h => h.resolve_right (by rw [<- hu]; exact e), Or.inl⟩
  by_cases hc : v ∈ (UL l l.length (nameAt l i)).take j
  ·rw [if_pos hc, if_pos (this.2 hc)]
  rw [if_neg hc, if_neg fun h' => hc (this.1 h')]
 refine ⟨key, fun hne => ?_, fun hem pv R1 hR1 => ?_⟩
 ·refine { h with M := hM, R := ?_ }
  refine h.R.trans (List.Perm.of_eq ?_)
  rw [List.take_succ_eq_append_getElem hj, List.filter_append, <- hu]
  simp [hne]
 refine { h with M := hM, R := ?_ }
 refine hR1.trans ?_
 rw [List.take_succ_eq_append_getElem hj, List.filter_append, <- hu]
 have e : natI (R' ++ (((UL l l.length (nameAt l i)).take j).filter (fun u => (missL l (o ++ [i]) u).isEmpty) ++ [u].filter fun u => (missL l (o ++ [i]) u).isEmpty)) = natI (R' ++ ((UL l l.length (nameAt l i)).take j).filter fun u => (missL l (o ++ [i]) u).isEmpty) ++ [(u : Int)] := by
  simp [natI, hem]
 rw [e]
 exact List.Perm.append_right _ h.R
theorem Ph5.finish {l : List Dfn} {o : ZN} {i : Nat} {R R' : ZN} {uv : BA -> Option Value} {vo : Value} {s : St} (h : Ph5 l o i R' uv vo (UL l l.length (nameAt l i)).length s) (hf : firstAt l (nameAt l i) = some i) (hi : OInv l o R) (hR : R.Perm (i :: R')) : Ph4 l s where
 D := h.D
 S := h.S
 M u hu x := by
  rw [h.M u hu, h.O, List.take_length]
  by_cases hc : u ∈ UL l l.length (nameAt l i)
  ·rw [if_pos hc]
  rw [if_neg hc, mem_miss_snoc hf]
  refine ⟨fun hx => ⟨hx, fun e => hc ?_⟩, fun hx => hx.1⟩
  have h1 := (mem_miss.1 hx).1
  rw [e] at h1
  rw [UL_users hf]
  unfold usersOf
  simp only [List.mem_filter, List.mem_range, Bool.and_eq_true, List.any_eq_true, decide_eq_true_eq, exists_eq_right]
  exact ⟨isDef_lt hu, hu, h1⟩
 U := h.U
 inv := by
  refine ⟨R' ++ freed l o i, ?_, by rw [h.O]; exact hi.first hR hf⟩
  have := h.R
  rw [List.take_length, UL_users hf] at this
  exact this
theorem Ph4.other {l : List Dfn} {s : St} {R R' : ZN} {i : Nat} {R1 : ZI} {pv vo : Value} (h : Ph4 l s) (hi : OInv l s.O R) (hR : R.Perm (i :: R')) (hR1 : R1.Perm (natI R')) (hn : ∀ x, firstAt l x ≠ some i) : Ph4 l ((s.setP pv R1).setO vo (s.O ++ [i])) where
 D := h.D
 S := h.S
 M u hu x := by
  show s.M u x ↔ x ∈ missL l (s.O ++ [i]) u
  rw [h.M u hu, mem_miss, mem_miss]
  constructor
  ·rintro ⟨h1, d, h2, h3⟩
   refine ⟨h1, d, h2, ?_⟩
   simp only [List.mem_append, List.mem_singleton, not_or]
   exact ⟨h3, fun e => hn x (by rw [h2, e])⟩
  rintro ⟨h1, d, h2, h3⟩
  simp only [List.mem_append, List.mem_singleton, not_or] at h3
  exact ⟨h1, d, h2, h3.1⟩
 U := h.U
 inv := ⟨R', hR1, hi.other hR hn⟩
theorem cnt_all (l : List Dfn) : cntTo l l.length = countOf l := rfl
theorem first_of_def {l : List Dfn} {i : Nat} (h : isDef l i = true) : ∃ d, firstAt l (nameAt l i) = some d /\ d <= i := by
 have hlt := isDef_lt h
 cases hf : firstAt l (nameAt l i) with
 | none =>
  unfold firstAt at hf
  rw [List.findIdx?_eq_none_iff] at hf
  have := hf l[i] (List.getElem_mem hlt)
  unfold isDef at h
  unfold nameAt at this
  rw [List.getElem?_eq_getElem hlt] at h this
  simp [h] at this
 | some d =>
  refine ⟨d, rfl, ?_⟩
  unfold firstAt at hf
  rw [List.findIdx?_eq_some_iff_getElem] at hf
  obtain ⟨_, _, h3⟩ := hf
  rcases Nat.lt_or_ge i d with h' | h'
  ·have := h3 i h'
   unfold isDef at h
   unfold nameAt at this
   rw [List.getElem?_eq_getElem hlt] at h this
   simp [h] at this
  exact h'
end Go.Proofs.YtefjomofjejklaaGreatDoor
