/-
  Texts of the claim, joined: Heap7, Ord2, Lay, Iter, Names5, Ord3, Ord4.
-/
import Derived.Test.YtpkljcgihobaiaaGreatDoorSg12
import Derived.Shelf.SlGeneric
import Derived.Shelf.SlIter.Nil
import Derived.Shelf.SortM.Plain
import Derived.Shelf.SortM.SortNone
import Derived.Ground.GgzProg
import Derived.Ground.SlgmProg
namespace Go.Proofs.YtpkljcgihobaiaaGreatDoor
open Go.RowKit
theorem getLast_cell {xs : List Int} (hx : 0 < xs.length) : xs.getLast? = some (xs[xs.length - 1]'(by omega)) := by
  rw [List.getLast?_eq_getElem?, List.getElem?_eq_getElem (by omega)]
theorem PileG.pop {B b g cap : Nat} {xs : List Int} {w : World} (h : PileG B b g cap xs w) : PileG B b g cap xs.dropLast (w.setCell ⟨b, 0, none⟩ (.slice (some ⟨g, 0, none⟩) (xs.length - 1) cap)) := by
  obtain ⟨a1, a2, a3, a4, cur, a5, a6, a7, a8, a9⟩ := h
  refine ⟨a1, a2, a3, ?_, cur, ?_, by simp; omega, a7, a8, ?_⟩
  · simp [World.setCell, Array.getElem?_modify, a4]
  · rw [Below.heap_setCell _ _ _ _ (by simpa using a3)]; exact a5
  · have h5 : cur.toList.take (xs.length - 1) = (cur.toList.take xs.length).take (xs.length - 1) := by rw [List.take_take]; congr 1; omega
    simp only [List.length_dropLast]
    rw [h5, a9, ← List.map_take, List.dropLast_eq_take]
def PopQ (B b : Nat) (v : Value) (ok : Int → List Int → Prop) (w : World) (e : Ending) (w' : World) : Prop :=
  ∃ z v' ys, e = .returned (.iface 3 (.int .i64 z)) ∧ ok z ys ∧ PileV B b v' ys w' ∧ Chg (b :: rowOf v) w w' ∧ ∀ k, v'.ownBlock = some k → v.ownBlock = some k ∨ w.heap.size ≤ k
set_option maxRecDepth 100000 in
set_option maxHeartbeats 1000000 in
theorem ipop_calls (B b g cap : Nat) (xs : List Int) (w : World) (h : PileG B b g cap xs w) (hx : 0 < xs.length) :
    Calls Tryz.prog 178 #[.pointer (some ⟨b, 0, none⟩)] w (PopQ B b (.slice (some ⟨g, 0, none⟩) xs.length cap) (fun z ys => xs.getLast? = some z ∧ ys = xs.dropLast) w) := by
  have HP := Lib.hid h
  have hh := h.head
  have hf := blk_free h.hb 0
  have hlt := blk_lt h.hb
  have hc := h.cell (i := xs.length - 1) (by omega)
  have hlast := getLast_cell hx
  obtain ⟨n, hn⟩ : ∃ n : Nat, n + 1 = xs.length := ⟨xs.length - 1, by omega⟩
  obtain ⟨cur, hr1, hr2, hr3, hr4, hr5⟩ := h.row
  have hn2 : n + 1 ≤ 9223372036854775807 := by unfold maxLen at hr3; omega
  have hcap : n + 1 ≤ cap := by omega
  have e1 : xs.length - 1 = n := by omega
  have HPL := Lib.hid h.pop
  simp only [e1] at hc hlast
  obtain ⟨z, hz⟩ : ∃ z, z = xs[n]'(by omega) := ⟨_, rfl⟩
  rw [← hz] at hc hlast
  rw [← hn] at hh
  have HLA := Lib.hid hlast
  have HN := Lib.hid hn
  have HN2 := Lib.hid e1
  have q1 : (((n + 1 : Nat) : Int) - 1) = (n : Int) := by omega
  have q2 : ((n : Int) + 1 - 1) = (n : Int) := by omega
  rw [← hn]
  clear h hlast hr1 hr2 hr3 hr4 hr5 hz e1 hn
  go_enter Tryz.func178, Tryz.ntmps178
  go_wp2_with fail
  go_ret
  have hp := HPL.out
  rw [HN2.out] at hp
  have hv := hp.v
  rw [List.length_dropLast, HN2.out] at hv
  exact ⟨z, _, _, rfl, ⟨HLA.out, rfl⟩, hv, (Chg.refl _ _).setCell (Or.inl (by simp)) _, fun k hk => Or.inl hk⟩
set_option maxRecDepth 100000 in
set_option maxHeartbeats 1000000 in
theorem hpush_calls (B b : Nat) (v : Value) (xs : List Int) (z : Int) (w : World) (h : PileV B b v xs w) (hB : B ≤ w.heap.size) (hl : xs.length ≤ 100000000) :
    Calls Tryz.prog 95 #[.iface 130 (.pointer (some ⟨b, 0, none⟩)), .iface 3 (.int .i64 z)] w (PushQ B b v (fun ys => ys.Perm (xs ++ [z])) w) := by
  have ha := fun n => ahead_push n b
  have hm := fun n W => meth_push n b W
  have HP := Lib.hid h
  clear h
  go_enter Tryz.func95, Tryz.ntmps95
  go_wp2_with fail
  refine (ipush_calls B b v xs z w HP.out hB (by omega)).mono ?_
  rintro r w1 ⟨rfl, v1, ys, rfl, hp1, hc1, hw1⟩
  obtain ⟨g, cap, rfl, hg1⟩ := hp1.g (by simp)
  have HG1 := Lib.hid hg1
  have HC1 := Lib.hid hc1
  have HW1 := Lib.hid hw1
  have hh := hg1.head
  obtain ⟨n, hn⟩ : ∃ n : Nat, n = xs.length := ⟨_, rfl⟩
  have e1 : (xs ++ [z]).length = n + 1 := by simp [hn]
  rw [e1] at hh
  have HE := Lib.hid e1
  have hnb : n ≤ 100000000 := by omega
  clear hp1 hg1 hc1 hw1 ha hm e1 hn hl
  have ha := fun n => ahead_len n b
  have hm := fun k => meth_len k b _ w1 hh
  go_wp2_with fail
  refine (ilen_calls _ _ _ _).mono ?_
  rintro r w2 ⟨rfl, rfl⟩
  have q1 : (((n + 1 : Nat) : Int) - 1) = (n : Int) := by omega
  have q2 : ((n : Int) + 1 - 1) = (n : Int) := by omega
  clear ha hm
  go_wp2_with fail
  refine (up_calls B b g cap _ _ HG1.out n (by rw [HE.out]; omega)).mono ?_
  rintro r w3 ⟨rfl, ys, hy, hp3, hc3⟩
  have HP3 := Lib.hid hp3
  have HC3 := Lib.hid hc3
  have HY := Lib.hid hy
  clear hp3 hc3 hy
  go_wp2_with fail
  go_end0
  refine ⟨rfl, _, ys, HY.out, HP3.out.v, Chg.trans HC1.out HC3.out (fun x hx => ?_), fun k hk => ?_⟩
  · simp only [List.mem_singleton] at hx
    subst hx
    rcases HW1.out x rfl with e | e
    · exact Or.inl (List.mem_cons_of_mem _ (mem_rowOf.2 e))
    · exact Or.inr e
  · exact HW1.out k hk
set_option maxRecDepth 100000 in
set_option maxHeartbeats 1000000 in
theorem hpop_calls (B b : Nat) (v : Value) (xs : List Int) (w : World) (h : PileV B b v xs w) (hx : 0 < xs.length) (hl : xs.length ≤ 100000000) :
    Calls Tryz.prog 97 #[.iface 130 (.pointer (some ⟨b, 0, none⟩))] w (PopQ B b v (fun z ys => xs.Perm (z :: ys)) w) := by
  obtain ⟨g, cap, rfl, hg⟩ := h.g hx
  have HG := Lib.hid hg
  have hh := hg.head
  obtain ⟨n, hn⟩ : ∃ n : Nat, n + 1 = xs.length := ⟨xs.length - 1, by omega⟩
  rw [← hn] at hh ⊢
  have HN := Lib.hid hn
  have hnb : n ≤ 100000000 := by omega
  have hn0 : 0 < xs.length := hx
  have hnn : n < xs.length := by omega
  clear h hg hn hx hl
  have ha := fun n => ahead_len n b
  have hm := fun k => meth_len k b _ w hh
  have q1 : (((n + 1 : Nat) : Int) - 1) = (n : Int) := by omega
  have q2 : ((n : Int) + 1 - 1) = (n : Int) := by omega
  go_enter Tryz.func97, Tryz.ntmps97
  go_wp2_with fail
  refine (ilen_calls _ _ _ _).mono ?_
  rintro r w1 ⟨rfl, rfl⟩
  clear ha hm
  have ha := fun n => ahead_swap n b
  have hm := fun k => meth_swap k b _ w hh
  go_wp2_with fail
  refine (iswap_calls g (n + 1) cap 0 n xs[0] xs[n] w (by omega) (by omega) (HG.out.cell hn0) (HG.out.cell hnn) HG.out.free).mono ?_
  rintro r w2 ⟨rfl, q, rfl⟩
  obtain ⟨hp2, hc2⟩ := HG.out.swap hn0 hnn q
  generalize ((w.setCell ⟨g, 0, none⟩ (.int .i64 xs[n])).setCell ⟨g, n, none⟩ (.int .i64 xs[0])).drewN q = w2 at *
  have HP2 := Lib.hid hp2
  have HC2 := Lib.hid hc2
  have HY2 := Lib.hid (show ((xs.set 0 xs[n]).set n xs[0]).Perm xs from List.set_set_perm hn0 hnn)
  have HL2 := Lib.hid (show n + 1 = ((xs.set 0 xs[n]).set n xs[0]).length by simp; exact HN.out)
  generalize (xs.set 0 xs[n]).set n xs[0] = ys at *
  clear hp2 hc2 ha hm hh
  go_wp2_with fail
  refine (down_calls B b g cap ys w2 HP2.out n HL2.out (by omega)).mono ?_
  rintro r w3 ⟨⟨u, rfl⟩, zs, hzy, _, hp3, hc3⟩
  have HP3 := Lib.hid hp3
  have HC3 := Lib.hid hc3
  have HZY := Lib.hid hzy
  have HL3 := Lib.hid (show zs.length = n + 1 by rw [hzy.length_eq]; exact HL2.out.symm)
  have ha := fun n => ahead_pop n b
  have hm := fun n W => meth_pop n b W
  clear hp3 hc3 hzy
  go_wp2_with fail
  refine (ipop_calls B b g cap zs _ HP3.out (by rw [HL3.out]; omega)).mono ?_
  rintro r w4 ⟨z, v', us, rfl, ⟨hla, rfl⟩, hp4, hc4, hw4⟩
  have HP4 := Lib.hid hp4
  have HC4 := Lib.hid hc4
  have HW4 := Lib.hid hw4
  have HLA := Lib.hid hla
  clear hp4 hc4 hw4 hla ha hm
  go_wp2_with fail
  go_ret
  refine ⟨z, v', _, rfl, ?_, HP4.out, ?_, fun k hk => ?_⟩
  · refine (HY2.out.symm.trans HZY.out.symm).trans ?_
    have e : zs.dropLast ++ [z] = zs := by
      have := HLA.out
      rw [List.getLast?_eq_some_iff] at this
      obtain ⟨us, rfl⟩ := this
      simp
    exact (List.Perm.of_eq e.symm).trans (List.perm_append_singleton _ _)
  · refine ((Chg.trans (Chg.trans (Chg.refl _ _) HC2.out ?_) HC3.out ?_).trans HC4.out ?_)
    · intro x hx; exact Or.inl (by simp at hx; subst hx; simp [rowOf, Value.ownBlock])
    · intro x hx; exact Or.inl (by simp at hx; subst hx; simp [rowOf, Value.ownBlock])
    · intro x hx; exact Or.inl (by simpa [rowOf, Value.ownBlock] using hx)
  · rcases HW4.out k hk with e | e
    · exact Or.inl e
    · have := HC2.out.size
      have := HC3.out.size
      exact Or.inr (by omega)
open Go.RowKit Go.Maps
def strF (g : ByteArray → Option Value) : Lit → Option Value
  | .string bs => g ⟨bs.toArray⟩
  | _ => none
def intF (g : Nat → Option Value) : Lit → Option Value
  | .int .i64 z => if 0 ≤ z then g z.toNat else none
  | _ => none
theorem strF_at (g : ByteArray → Option Value) (s : ByteArray) : strF g (.string s.data.toList) = g s := rfl
theorem intF_at (g : Nat → Option Value) (i : Nat) : intF g (.int .i64 i) = g i := by simp [intF]
open Classical in
noncomputable def upS {α : Type} (g : ByteArray → α) (s : ByteArray) (v : α) : ByteArray → α := fun t => if t = s then v else g t
theorem upS_same {α : Type} (g : ByteArray → α) (s : ByteArray) (v : α) : upS g s v s = v := by simp [upS]
theorem upS_other {α : Type} (g : ByteArray → α) {s t : ByteArray} (v : α) (h : t ≠ s) : upS g s v t = g t := by simp [upS, h]
def upN {α : Type} (g : Nat → α) (s : Nat) (v : α) : Nat → α := fun t => if t = s then v else g t
theorem upN_same {α : Type} (g : Nat → α) (s : Nat) (v : α) : upN g s v s = v := by simp [upN]
theorem upN_other {α : Type} (g : Nat → α) {s t : Nat} (v : α) (h : t ≠ s) : upN g s v t = g t := by simp [upN, h]
theorem setF_str (g : ByteArray → Option Value) (s : ByteArray) (v : Option Value) (x : Lit) : setF (strF g) (.string s.data.toList) v x = strF (upS g s v) x := by
  by_cases e : x = .string s.data.toList
  · subst e
    rw [setF_same, strF_at, upS_same]
  · rw [setF_other _ _ e]
    cases x <;> try rfl
    rename_i bs
    simp only [strF]
    rw [upS_other]
    intro h
    apply e
    rw [← h]
theorem setF_int (g : Nat → Option Value) (i : Nat) (v : Option Value) (x : Lit) : setF (intF g) (.int .i64 i) v x = intF (upN g i v) x := by
  by_cases e : x = .int .i64 i
  · subst e
    rw [setF_same, intF_at, upN_same]
  · rw [setF_other _ _ e]
    cases x <;> try rfl
    rename_i k z
    cases k <;> try rfl
    simp only [intF]
    by_cases h0 : 0 ≤ z
    · rw [if_pos h0, if_pos h0, upN_other]
      intro h
      apply e
      congr 1
      omega
    · rw [if_neg h0, if_neg h0]
inductive Role where
  | none | first | users | miss | pile | prow | urow (s : ByteArray) | mset (i : Nat) | out
structure St where
  ρ : Nat → Role
  mb : Nat → Nat
  uv : ByteArray → Option Value
  U : ByteArray → List Nat
  D : Nat → Prop
  S : Nat → Prop
  M : Nat → ByteArray → Prop
  pv : Value
  R : List Int
  vo : Value
  O : List Nat
open Classical in
noncomputable def memF (M : ByteArray → Prop) : ByteArray → Option Value := fun s => if M s then some (.agg #[]) else none
open Classical in
noncomputable def missF (D : Nat → Prop) (mb : Nat → Nat) : Nat → Option Value := fun i => if D i then some (.map (some (mb i))) else none
def firstF (l : List Dfn) : ByteArray → Option Value := fun s => (firstAt l s).map fun (d : Nat) => Value.int .i64 (d : Int)
def natVs (l : List Nat) : List Value := l.map fun (i : Nat) => Value.int .i64 (i : Int)
structure OB (w0 : World) (l : List Dfn) (bf bu bm bp t : Nat) (s : St) (w : World) : Prop where
  ext : Ext w0 w
  fresh : ∀ k, w.heap.size ≤ k → s.ρ k = .none
  old : ∀ k, k < w0.heap.size → s.ρ k = .none
  rf : s.ρ bf = .first
  hf : MapAt w 9 bf t (strF (firstF l))
  ru : s.ρ bu = .users
  hu : MapAt w 9 bu t (strF s.uv)
  rows : ∀ x v, s.uv x = some v → w.ownsRow w0.heap.size 3 1 v (s.U x).length (natVs (s.U x)) ∧ ∀ g, v.ownBlock = some g → s.ρ g = .urow x
  rown : ∀ x, s.uv x = none → s.U x = []
  rm : s.ρ bm = .miss
  hm : MapAt w 3 bm t (intF (missF s.D s.mb))
  dom : ∀ i, s.D i → s.S i
  sets : ∀ i, s.S i → s.ρ (s.mb i) = .mset i ∧ MapAt w 9 (s.mb i) t (strF (memF (s.M i)))
  rp : s.ρ bp = .pile
  hp : PileV w0.heap.size bp s.pv s.R w
  rpv : ∀ g, s.pv.ownBlock = some g → s.ρ g = .prow
  hv : w.ownsRow w0.heap.size 3 1 s.vo s.O.length (natVs s.O)
  rv : ∀ g, s.vo.ownBlock = some g → s.ρ g = .out
section
variable {w0 : World} {l : List Dfn} {bf bu bm bp t : Nat} {s : St} {w w' : World}
theorem OB.chg (h : OB w0 l bf bu bm bp t s w) {N : List Nat} (hc : Chg N w w') (hN : ∀ k ∈ N, s.ρ k = .none) (hN0 : ∀ k ∈ N, w0.heap.size ≤ k) : OB w0 l bf bu bm bp t s w' := by
  have nn : ∀ k r, s.ρ k = r → r ≠ .none → k ∉ N := fun k r h1 h2 h3 => h2 (by rw [← h1]; exact hN k h3)
  exact { h with
    ext := hc.ext h.ext hN0
    fresh := fun k hk => h.fresh k (Nat.le_trans hc.size hk)
    hf := h.hf.chg hc (nn _ _ h.rf (by simp))
    hu := h.hu.chg hc (nn _ _ h.ru (by simp))
    rows := fun x v hv => ⟨owns_chg (h.rows x v hv).1 hc fun g hg => nn _ _ ((h.rows x v hv).2 g hg) (by simp), (h.rows x v hv).2⟩
    hm := h.hm.chg hc (nn _ _ h.rm (by simp))
    sets := fun i hi => ⟨(h.sets i hi).1, (h.sets i hi).2.chg hc (nn _ _ (h.sets i hi).1 (by simp))⟩
    hp := h.hp.chg hc (nn _ _ h.rp (by simp)) fun g hg => nn _ _ (h.rpv g hg) (by simp)
    hv := owns_chg h.hv hc fun g hg => nn _ _ (h.rv g hg) (by simp) }
theorem OB.extd (h : OB w0 l bf bu bm bp t s w) (hx : Ext w w') : OB w0 l bf bu bm bp t s w' := h.chg (hx.chg []) (by simp) (by simp)
theorem OB.more (h : OB w0 l bf bu bm bp t s w) {t' : Nat} (ht : t ≤ t') : OB w0 l bf bu bm bp t' s w :=
  { h with hf := h.hf.more ht, hu := h.hu.more ht, hm := h.hm.more ht, sets := fun i hi => ⟨(h.sets i hi).1, (h.sets i hi).2.more ht⟩ }
theorem OB.base (h : OB w0 l bf bu bm bp t s w) {k : Nat} {r : Role} (hk : s.ρ k = r) (hr : r ≠ .none) : w0.heap.size ≤ k := by
  rcases Nat.lt_or_ge k w0.heap.size with h' | h'
  · exact absurd (hk.symm.trans (h.old k h')) hr
  · exact h'
theorem apart {ρ : Nat → Role} {a b : Nat} {r q : Role} (ha : ρ a = r) (hb : ρ b = q) (h : r ≠ q) : a ∉ [b] := by
  intro hm
  simp only [List.mem_singleton] at hm
  subst hm
  exact h (ha.symm.trans hb)
def St.newSet (s : St) (i b : Nat) : St := { s with ρ := upN s.ρ b (.mset i), mb := upN s.mb i b, S := fun j => j = i ∨ s.S j, M := upN s.M i fun _ => False }
theorem missF_congr {D : Nat → Prop} {mb mb' : Nat → Nat} (h2 : ∀ i, D i → mb i = mb' i) : missF D mb = missF D mb' := by
  funext i
  unfold missF
  by_cases hd : D i
  · rw [if_pos hd, if_pos hd, h2 i hd]
  · rw [if_neg hd, if_neg hd]
theorem memF_false (s : ByteArray) : memF (fun _ => False) s = none := by simp [memF]
theorem OB.newSet (h : OB w0 l bf bu bm bp t s w) {i : Nat} (hi : ¬ s.S i) : OB w0 l bf bu bm bp t (s.newSet i w.heap.size) (w.alloc (.map #[] 0)) := by
  have h' := h.extd ((Ext.refl w).alloc (.map #[] 0))
  have ne : ∀ k r, s.ρ k = r → r ≠ .none → upN s.ρ w.heap.size (.mset i) k = r := fun k r h1 h2 => by
    rw [upN_other _ _ (fun e => h2 (by rw [← h1, e]; exact h.fresh _ (Nat.le_refl _)))]; exact h1
  exact { h' with
    fresh := fun k hk => by
      simp at hk
      show upN s.ρ w.heap.size (.mset i) k = .none
      rw [upN_other _ _ (by omega)]; exact h.fresh k (by omega)
    old := fun k hk => by
      show upN s.ρ w.heap.size (.mset i) k = .none
      rw [upN_other _ _ (by have := h.ext.size; omega)]; exact h.old k hk
    rf := ne _ _ h.rf (by simp)
    ru := ne _ _ h.ru (by simp)
    rows := fun x v hv => ⟨(h'.rows x v hv).1, fun g hg => ne _ _ ((h'.rows x v hv).2 g hg) (by simp)⟩
    rm := ne _ _ h.rm (by simp)
    hm := by
      have e : missF s.D (upN s.mb i w.heap.size) = missF s.D s.mb := missF_congr fun j hj => upN_other _ _ fun e => hi (by rw [← e]; exact h.dom j hj)
      show MapAt _ _ _ _ (intF (missF s.D (upN s.mb i w.heap.size)))
      rw [e]; exact h'.hm
    dom := fun j hj => Or.inr (h.dom j hj)
    sets := fun j hj => by
      by_cases e : j = i
      · subst e
        refine ⟨?_, ?_⟩
        · show upN s.ρ w.heap.size (.mset j) (upN s.mb j w.heap.size j) = _
          rw [upN_same, upN_same]
        · show MapAt _ _ (upN s.mb j w.heap.size j) _ (strF (memF (upN s.M j (fun _ => False) j)))
          rw [upN_same, upN_same]
          refine ((MapAt.made w _).more (Nat.zero_le t)).congr fun x => ?_
          cases x <;> simp [strF, memF_false]
      · have hj' : s.S j := hj.resolve_left e
        refine ⟨?_, ?_⟩
        · show upN s.ρ w.heap.size (.mset i) (upN s.mb i w.heap.size j) = _
          rw [upN_other s.mb _ e]
          exact ne _ _ (h.sets j hj').1 (by simp)
        · show MapAt _ _ (upN s.mb i w.heap.size j) _ (strF (memF (upN s.M i (fun _ => False) j)))
          rw [upN_other _ _ e, upN_other _ _ e]
          exact (h'.sets j hj').2
    rp := ne _ _ h.rp (by simp)
    rpv := fun g hg => ne _ _ (h.rpv g hg) (by simp)
    rv := fun g hg => ne _ _ (h.rv g hg) (by simp) }
def St.setM (s : St) (i : Nat) (m : ByteArray → Prop) : St := { s with M := upN s.M i m }
theorem OB.setM (h : OB w0 l bf bu bm bp t s w) {i : Nat} (hi : s.S i) {m : ByteArray → Prop} (hc : Chg [s.mb i] w w') (hm : MapAt w' 9 (s.mb i) t (strF (memF m))) : OB w0 l bf bu bm bp t (s.setM i m) w' := by
  have hr := (h.sets i hi).1
  exact { h with
    ext := hc.ext h.ext (fun k hk => by simp only [List.mem_singleton] at hk; subst hk; exact h.base hr (by simp))
    fresh := fun k hk => h.fresh k (Nat.le_trans hc.size hk)
    hf := h.hf.chg hc (apart h.rf hr (by simp))
    hu := h.hu.chg hc (apart h.ru hr (by simp))
    rows := fun x v hv => ⟨owns_chg (h.rows x v hv).1 hc fun g hg => apart ((h.rows x v hv).2 g hg) hr (by simp), (h.rows x v hv).2⟩
    hm := h.hm.chg hc (apart h.rm hr (by simp))
    sets := fun j hj => by
      by_cases e : j = i
      · subst e
        refine ⟨hr, ?_⟩
        show MapAt _ _ _ _ (strF (memF (upN s.M j m j)))
        rw [upN_same]; exact hm
      · refine ⟨(h.sets j hj).1, ?_⟩
        show MapAt _ _ _ _ (strF (memF (upN s.M i m j)))
        rw [upN_other _ _ e]
        exact (h.sets j hj).2.chg hc (apart (h.sets j hj).1 hr (by simpa using e))
    hp := h.hp.chg hc (apart h.rp hr (by simp)) fun g hg => apart (h.rpv g hg) hr (by simp)
    hv := owns_chg h.hv hc fun g hg => apart (h.rv g hg) hr (by simp) }
def St.setD (s : St) (i : Nat) : St := { s with D := fun j => j = i ∨ s.D j }
theorem OB.setD (h : OB w0 l bf bu bm bp t s w) {i : Nat} (hi : s.S i) (hc : Chg [bm] w w') (hm : MapAt w' 3 bm (t + 1) (intF (upN (missF s.D s.mb) i (some (.map (some (s.mb i))))))) : OB w0 l bf bu bm bp (t + 1) (s.setD i) w' := by
  have hr := h.rm
  have h1 := h.more (Nat.le_succ t)
  exact { h1 with
    ext := hc.ext h.ext (fun k hk => by simp only [List.mem_singleton] at hk; subst hk; exact h.base hr (by simp))
    fresh := fun k hk => h.fresh k (Nat.le_trans hc.size hk)
    hf := h1.hf.chg hc (apart h.rf hr (by simp))
    hu := h1.hu.chg hc (apart h.ru hr (by simp))
    rows := fun x v hv => ⟨owns_chg (h.rows x v hv).1 hc fun g hg => apart ((h.rows x v hv).2 g hg) hr (by simp), (h.rows x v hv).2⟩
    hm := by
      refine hm.congr fun x => ?_
      have e : upN (missF s.D s.mb) i (some (.map (some (s.mb i)))) = missF (fun j => j = i ∨ s.D j) s.mb := by
        funext j
        by_cases e : j = i
        · subst e; rw [upN_same]; simp [missF]
        · rw [upN_other _ _ e]
          by_cases hd : s.D j <;> simp [missF, e, hd]
      show _ = intF (missF (fun j => j = i ∨ s.D j) s.mb) x
      rw [e]
    dom := fun j hj => by
      rcases hj with rfl | hj
      · exact hi
      · exact h.dom j hj
    sets := fun j hj => ⟨(h1.sets j hj).1, (h1.sets j hj).2.chg hc (apart (h.sets j hj).1 hr (by simp))⟩
    hp := h.hp.chg hc (apart h.rp hr (by simp)) fun g hg => apart (h.rpv g hg) hr (by simp)
    hv := owns_chg h.hv hc fun g hg => apart (h.rv g hg) hr (by simp) }
theorem apart2 {ρ : Nat → Role} {a b : Nat} {v : Value} {r q q' : Role} (ha : ρ a = r) (hb : ρ b = q) (hv : ∀ g, v.ownBlock = some g → ρ g = q') (h : r ≠ q) (h' : r ≠ q') : a ∉ b :: rowOf v := by
  intro hm
  rcases List.mem_cons.1 hm with rfl | hm
  · exact h (ha.symm.trans hb)
  · exact h' (ha.symm.trans (hv a (mem_rowOf.1 hm)))
def rerole (ρ : Nat → Role) (v : Value) (r : Role) : Nat → Role := fun k => match v.ownBlock with | some g => if k = g then r else ρ k | none => ρ k
theorem rerole_own (ρ : Nat → Role) {v : Value} {r : Role} {g : Nat} (h : v.ownBlock = some g) : rerole ρ v r g = r := by simp [rerole, h]
theorem rerole_other (ρ : Nat → Role) {v : Value} {r : Role} {k : Nat} (h : ∀ g, v.ownBlock = some g → k ≠ g) : rerole ρ v r k = ρ k := by
  unfold rerole
  cases hv : v.ownBlock with
  | none => rfl
  | some g => simp [h g hv]
theorem rerole_keep {ρ : Nat → Role} {v v' : Value} {r q : Role} {n k : Nat} (hk : ρ k = q) (hq : q ≠ r) (hq0 : q ≠ .none) (hv : ∀ g, v.ownBlock = some g → ρ g = r) (hfresh : ∀ k, n ≤ k → ρ k = .none) (hw : ∀ g, v'.ownBlock = some g → v.ownBlock = some g ∨ n ≤ g) : rerole ρ v' r k = q := by
  rw [rerole_other, hk]
  intro g hg e
  subst e
  rcases hw k hg with h | h
  · exact hq (hk.symm.trans (hv k h))
  · exact hq0 (hk.symm.trans (hfresh k h))
def St.setP (s : St) (pv : Value) (R : List Int) : St := { s with ρ := rerole s.ρ pv .prow, pv := pv, R := R }
theorem OB.setP (h : OB w0 l bf bu bm bp t s w) {pv : Value} {R : List Int} (hp : PileV w0.heap.size bp pv R w') (hc : Chg (bp :: rowOf s.pv) w w') (hw : ∀ k, pv.ownBlock = some k → s.pv.ownBlock = some k ∨ w.heap.size ≤ k) : OB w0 l bf bu bm bp t (s.setP pv R) w' := by
  have kp : ∀ {k q}, s.ρ k = q → q ≠ .prow → q ≠ .none → rerole s.ρ pv .prow k = q := fun hk h1 h2 => rerole_keep hk h1 h2 h.rpv h.fresh hw
  have hlt : ∀ g, pv.ownBlock = some g → w0.heap.size ≤ g ∧ g < w'.heap.size := fun g hg => hp.own.lt g hg
  exact { h with
    ext := hc.ext h.ext (fun k hk => by
      rcases List.mem_cons.1 hk with rfl | hk
      · exact h.base h.rp (by simp)
      · exact h.base (h.rpv k (mem_rowOf.1 hk)) (by simp))
    fresh := fun k hk => by
      show rerole s.ρ pv .prow k = .none
      rw [rerole_other _ (fun g hg => by have := (hlt g hg).2; omega)]
      exact h.fresh k (Nat.le_trans hc.size hk)
    old := fun k hk => by
      show rerole s.ρ pv .prow k = .none
      rw [rerole_other _ (fun g hg => by have := (hlt g hg).1; omega)]
      exact h.old k hk
    rf := kp h.rf (by simp) (by simp)
    hf := h.hf.chg hc (apart2 h.rf h.rp h.rpv (by simp) (by simp))
    ru := kp h.ru (by simp) (by simp)
    hu := h.hu.chg hc (apart2 h.ru h.rp h.rpv (by simp) (by simp))
    rows := fun x v hv => ⟨owns_chg (h.rows x v hv).1 hc fun g hg => apart2 ((h.rows x v hv).2 g hg) h.rp h.rpv (by simp) (by simp), fun g hg => kp ((h.rows x v hv).2 g hg) (by simp) (by simp)⟩
    rm := kp h.rm (by simp) (by simp)
    hm := h.hm.chg hc (apart2 h.rm h.rp h.rpv (by simp) (by simp))
    sets := fun j hj => ⟨kp (h.sets j hj).1 (by simp) (by simp), (h.sets j hj).2.chg hc (apart2 (h.sets j hj).1 h.rp h.rpv (by simp) (by simp))⟩
    rp := kp h.rp (by simp) (by simp)
    hp := hp
    rpv := fun g hg => rerole_own _ hg
    hv := owns_chg h.hv hc fun g hg => apart2 (h.rv g hg) h.rp h.rpv (by simp) (by simp)
    rv := fun g hg => kp (h.rv g hg) (by simp) (by simp) }
theorem apartV {ρ : Nat → Role} {a : Nat} {v : Value} {r q : Role} (ha : ρ a = r) (hv : ∀ g, v.ownBlock = some g → ρ g = q) (h : r ≠ q) : a ∉ rowOf v := fun hm => h (ha.symm.trans (hv a (mem_rowOf.1 hm)))
def St.setO (s : St) (vo : Value) (O : List Nat) : St := { s with ρ := rerole s.ρ vo .out, vo := vo, O := O }
theorem OB.setO (h : OB w0 l bf bu bm bp t s w) {vo : Value} {O : List Nat} (hv : w'.ownsRow w0.heap.size 3 1 vo O.length (natVs O)) (hc : Chg (rowOf s.vo) w w') (hw : ∀ k, vo.ownBlock = some k → s.vo.ownBlock = some k ∨ w.heap.size ≤ k) : OB w0 l bf bu bm bp t (s.setO vo O) w' := by
  have kp : ∀ {k q}, s.ρ k = q → q ≠ .out → q ≠ .none → rerole s.ρ vo .out k = q := fun hk h1 h2 => rerole_keep hk h1 h2 h.rv h.fresh hw
  have hlt : ∀ g, vo.ownBlock = some g → w0.heap.size ≤ g ∧ g < w'.heap.size := fun g hg => hv.lt g hg
  exact { h with
    ext := hc.ext h.ext (fun k hk => h.base (h.rv k (mem_rowOf.1 hk)) (by simp))
    fresh := fun k hk => by
      show rerole s.ρ vo .out k = .none
      rw [rerole_other _ (fun g hg => by have := (hlt g hg).2; omega)]
      exact h.fresh k (Nat.le_trans hc.size hk)
    old := fun k hk => by
      show rerole s.ρ vo .out k = .none
      rw [rerole_other _ (fun g hg => by have := (hlt g hg).1; omega)]
      exact h.old k hk
    rf := kp h.rf (by simp) (by simp)
    hf := h.hf.chg hc (apartV h.rf h.rv (by simp))
    ru := kp h.ru (by simp) (by simp)
    hu := h.hu.chg hc (apartV h.ru h.rv (by simp))
    rows := fun x v hv' => ⟨owns_chg (h.rows x v hv').1 hc fun g hg => apartV ((h.rows x v hv').2 g hg) h.rv (by simp), fun g hg => kp ((h.rows x v hv').2 g hg) (by simp) (by simp)⟩
    rm := kp h.rm (by simp) (by simp)
    hm := h.hm.chg hc (apartV h.rm h.rv (by simp))
    sets := fun j hj => ⟨kp (h.sets j hj).1 (by simp) (by simp), (h.sets j hj).2.chg hc (apartV (h.sets j hj).1 h.rv (by simp))⟩
    rp := kp h.rp (by simp) (by simp)
    hp := h.hp.chg hc (apartV h.rp h.rv (by simp)) fun g hg => apartV (h.rpv g hg) h.rv (by simp)
    rpv := fun g hg => kp (h.rpv g hg) (by simp) (by simp)
    hv := hv
    rv := fun g hg => rerole_own _ hg }
noncomputable def St.setU (s : St) (x : ByteArray) (v : Value) (u : List Nat) : St := { s with ρ := rerole s.ρ v (.urow x), uv := upS s.uv x (some v), U := upS s.U x u }
def rowV (s : St) (x : ByteArray) : Value := (s.uv x).getD (.slice none 0 0)
theorem OB.rowV_role (h : OB w0 l bf bu bm bp t s w) (x : ByteArray) : ∀ g, (rowV s x).ownBlock = some g → s.ρ g = .urow x := by
  intro g hg
  unfold rowV at hg
  cases hu : s.uv x with
  | none => rw [hu] at hg; simp [Value.ownBlock] at hg
  | some v => rw [hu] at hg; exact (h.rows x v hu).2 g hg
theorem OB.rowV_own (h : OB w0 l bf bu bm bp t s w) (x : ByteArray) : w.ownsRow w0.heap.size 3 1 (rowV s x) (s.U x).length (natVs (s.U x)) := by
  unfold rowV
  cases hu : s.uv x with
  | none => rw [h.rown x hu]; exact World.ownsRow_nil _ _ _ _
  | some v => exact (h.rows x v hu).1
theorem OB.setU (h : OB w0 l bf bu bm bp t s w) {x : ByteArray} {v : Value} {u : List Nat} {w1 : World} (hv : w1.ownsRow w0.heap.size 3 1 v u.length (natVs u)) (hc : Chg (rowOf (rowV s x)) w w1) (hw : ∀ k, v.ownBlock = some k → (rowV s x).ownBlock = some k ∨ w.heap.size ≤ k)
    (hc2 : Chg [bu] w1 w') (hm : MapAt w' 9 bu (t + 1) (strF (upS s.uv x (some v)))) : OB w0 l bf bu bm bp (t + 1) (s.setU x v u) w' := by
  have hR := h.rowV_role x
  have kp : ∀ {k q}, s.ρ k = q → q ≠ .urow x → q ≠ .none → rerole s.ρ v (.urow x) k = q := fun hk h1 h2 => rerole_keep hk h1 h2 hR h.fresh hw
  have hlt : ∀ g, v.ownBlock = some g → w0.heap.size ≤ g ∧ g < w1.heap.size := fun g hg => hv.lt g hg
  have hbu : ∀ g, v.ownBlock = some g → g ∉ [bu] := fun g hg hm => by
    simp only [List.mem_singleton] at hm
    subst hm
    rcases hw g hg with h1 | h1
    · exact absurd (h.ru.symm.trans (hR g h1)) (by simp)
    · exact absurd (h.ru.symm.trans (h.fresh g h1)) (by simp)
  have hcc : Chg (bu :: rowOf (rowV s x)) w w' := Chg.trans (Chg.trans (Chg.refl _ _) hc (fun k hk => Or.inl (List.mem_cons_of_mem _ hk))) hc2 (fun k hk => Or.inl (by simp only [List.mem_singleton] at hk; simp [hk]))
  have h1 := h.more (Nat.le_succ t)
  exact { h1 with
    ext := hcc.ext h.ext (fun k hk => by
      rcases List.mem_cons.1 hk with rfl | hk
      · exact h.base h.ru (by simp)
      · exact h.base (hR k (mem_rowOf.1 hk)) (by simp))
    fresh := fun k hk => by
      show rerole s.ρ v (.urow x) k = .none
      have := hc2.size
      rw [rerole_other _ (fun g hg => by have := (hlt g hg).2; omega)]
      exact h.fresh k (Nat.le_trans hcc.size hk)
    old := fun k hk => by
      show rerole s.ρ v (.urow x) k = .none
      rw [rerole_other _ (fun g hg => by have := (hlt g hg).1; omega)]
      exact h.old k hk
    rf := kp h.rf (by simp) (by simp)
    hf := h1.hf.chg hcc (apart2 h.rf h.ru hR (by simp) (by simp))
    ru := kp h.ru (by simp) (by simp)
    hu := hm
    rows := fun y u' hy => by
      by_cases e : y = x
      · subst e
        have e1 : upS s.uv y (some v) y = some v := upS_same _ _ _
        have e2 : some v = some u' := e1.symm.trans hy
        cases e2
        refine ⟨?_, fun g hg => rerole_own _ hg⟩
        show World.ownsRow _ _ _ _ _ (upS s.U y u y).length (natVs (upS s.U y u y))
        rw [upS_same]
        exact owns_chg hv hc2 hbu
      · have e1 : s.uv y = some u' := (upS_other s.uv (some v) e).symm.trans hy
        obtain ⟨r1, r2⟩ := h.rows y u' e1
        refine ⟨?_, fun g hg => kp (r2 g hg) (by simpa using e) (by simp)⟩
        show World.ownsRow _ _ _ _ _ (upS s.U x u y).length (natVs (upS s.U x u y))
        rw [upS_other _ _ e]
        exact owns_chg r1 hcc fun g hg => apart2 (r2 g hg) h.ru hR (by simp) (by simpa using e)
    rown := fun y hy => by
      by_cases e : y = x
      · subst e
        have e1 : upS s.uv y (some v) y = some v := upS_same _ _ _
        have e2 : some v = none := e1.symm.trans hy
        cases e2
      · have e1 : s.uv y = none := (upS_other s.uv (some v) e).symm.trans hy
        show upS s.U x u y = []
        rw [upS_other _ _ e]
        exact h.rown y e1
    rm := kp h.rm (by simp) (by simp)
    hm := h1.hm.chg hcc (apart2 h.rm h.ru hR (by simp) (by simp))
    sets := fun j hj => ⟨kp (h.sets j hj).1 (by simp) (by simp), (h1.sets j hj).2.chg hcc (apart2 (h.sets j hj).1 h.ru hR (by simp) (by simp))⟩
    rp := kp h.rp (by simp) (by simp)
    hp := h.hp.chg hcc (apart2 h.rp h.ru hR (by simp) (by simp)) fun g hg => apart2 (h.rpv g hg) h.ru hR (by simp) (by simp)
    rpv := fun g hg => kp (h.rpv g hg) (by simp) (by simp)
    hv := owns_chg h.hv hcc fun g hg => apart2 (h.rv g hg) h.ru hR (by simp) (by simp)
    rv := fun g hg => kp (h.rv g hg) (by simp) (by simp) }
end
end Go.Proofs.YtpkljcgihobaiaaGreatDoor

/-
  DERIVED: THE SHELF's CONTRACTS AT THIS DUMP, IN PLAIN WORDS (tools/lay-plain.mjs out of 'TrydLay.lean', which tools/lay-shelf.mjs wrote): THE SAME DECLARATIONS UNDER THE SAME NAMES: 'import', 'namespace', 'open', 'def', 'theorem' AND NOTHING ELSE: no command of the shelf's: FOR A HAND-IN. Each laying: the table of numbers ('.._ren') and one theorem, a field a fact of the dump's own or the kernel's comparison; each contract: ONE APPLICATION.
-/
namespace Go.Proofs
open Go.Shelf
def Tryz.keys42_ren : Go.Shelf.Ren := ⟨fun | 7 => 116 | 10 => 131 | n => n, fun | 23 => 136 | 26 => 9 | 3 => 137 | 28 => 157 | 0 => 0 | 27 => 156 | 33 => 116 | 4 => 4 | n => n, fun | n => n⟩
theorem Tryz.keys42 : Go.Proofs.SlLaysZ.n7 Tryz.prog Tryz.keys42_ren := {
  mixed := by kernel_rfl
  f7 := ⟨Tryz.f116.name, by decide, Tryz.func116.trans (congrArg some (by kernel_rfl))⟩
  f10 := ⟨Tryz.f131.name, by decide, Tryz.func131.trans (congrArg some (by kernel_rfl))⟩
  t0 := Tryz.underlying0
  a0 := Tryz.isAgg0
  z0 := Tryz.sizeOf0
  v0 := Tryz.zeroValue0
  t4 := Tryz.underlying4
  a4 := Tryz.isAgg4
  z4 := Tryz.sizeOf4
  v4 := Tryz.zeroValue4
  t23 := Tryz.underlying136
  a23 := Tryz.isAgg136
  z23 := Tryz.sizeOf136
  v23 := Tryz.zeroValue136
  t26 := Tryz.underlying9
  a26 := Tryz.isAgg9
  z26 := Tryz.sizeOf9
  v26 := Tryz.zeroValue9
  t27 := Tryz.underlying156
  a27 := Tryz.isAgg156
  z27 := Tryz.sizeOf156
  v27 := Tryz.zeroValue156
  t28 := Tryz.underlying157
  a28 := Tryz.isAgg157
  z28 := Tryz.sizeOf157
  v28 := Tryz.zeroValue157
  t33 := Tryz.underlying116
  a33 := Tryz.isAgg116
  z33 := Tryz.sizeOf116
  v33 := Tryz.zeroValue116 }
def Tryz.sorted41_ren : Go.Shelf.Ren := ⟨fun | 6 => 115 | 8 => 129 | 9 => 130 | 11 => 137 | 13 => 139 | 12 => 138 | 23 => 151 | 24 => 152 | 14 => 142 | 15 => 143 | 16 => 144 | 17 => 145 | 18 => 146 | 19 => 147 | 20 => 148 | 21 => 149 | 22 => 150 | 25 => 153 | 26 => 154 | 27 => 155 | 28 => 156 | 29 => 157 | 30 => 158 | 31 => 159 | n => n, fun | 26 => 9 | 28 => 157 | 24 => 23 | 0 => 0 | 3 => 3 | 37 => 179 | 48 => 192 | 50 => 194 | 4 => 4 | 40 => 185 | 39 => 184 | 45 => 79 | 5 => 5 | 9 => 9 | 51 => 195 | 55 => 167 | 57 => 200 | 58 => 88 | 33 => 116 | n => n, fun | n => n⟩
theorem Tryz.sorted41 : Go.Proofs.SlLaysZ.n6 Tryz.prog Tryz.sorted41_ren := {
  mixed := by kernel_rfl
  f6 := ⟨Tryz.f115.name, by decide, Tryz.func115.trans (congrArg some (by kernel_rfl))⟩
  f8 := ⟨Tryz.f129.name, by decide, Tryz.func129.trans (congrArg some (by kernel_rfl))⟩
  f11 := ⟨Tryz.f137.name, by decide, Tryz.func137.trans (congrArg some (by kernel_rfl))⟩
  t0 := Tryz.underlying0
  a0 := Tryz.isAgg0
  z0 := Tryz.sizeOf0
  v0 := Tryz.zeroValue0
  t24 := Tryz.underlying23
  a24 := Tryz.isAgg23
  z24 := Tryz.sizeOf23
  v24 := Tryz.zeroValue23
  t26 := Tryz.underlying9
  a26 := Tryz.isAgg9
  z26 := Tryz.sizeOf9
  v26 := Tryz.zeroValue9
  t28 := Tryz.underlying157
  a28 := Tryz.isAgg157
  z28 := Tryz.sizeOf157
  v28 := Tryz.zeroValue157
  i26 := by kernel_rfl }
def Tryz.sort61_ren : Go.Shelf.Ren := ⟨fun | 6 => 130 | 8 => 139 | 9 => 138 | 19 => 151 | 20 => 152 | 21 => 142 | 22 => 143 | 23 => 144 | 24 => 145 | 25 => 146 | 26 => 147 | 27 => 148 | 28 => 149 | 29 => 150 | 36 => 153 | 31 => 154 | 32 => 155 | 37 => 156 | 38 => 157 | 39 => 158 | 41 => 159 | n => n, fun | 27 => 23 | 29 => 9 | 3 => 3 | 32 => 179 | 26 => 23 | 0 => 0 | 44 => 192 | 46 => 194 | 4 => 4 | 36 => 185 | 35 => 184 | 41 => 79 | 5 => 5 | 9 => 9 | 53 => 195 | 57 => 167 | 63 => 200 | 64 => 88 | n => n, fun | n => n⟩
theorem Tryz.sort61 : Go.Proofs.SlLaysM.n6 Tryz.prog Tryz.sort61_ren := {
  mixed := by kernel_rfl
  f6 := ⟨Tryz.f130.name, by decide, Tryz.func130.trans (congrArg some (by kernel_rfl))⟩
  f8 := Tryz.func139.trans (congrArg some (by kernel_rfl))
  f9 := ⟨Tryz.f138.name, by decide, Tryz.func138.trans (congrArg some (by kernel_rfl))⟩
  f19 := Tryz.func151.trans (congrArg some (by kernel_rfl))
  f20 := Tryz.func152.trans (congrArg some (by kernel_rfl))
  f21 := ⟨Tryz.f142.name, by decide, Tryz.func142.trans (congrArg some (by kernel_rfl))⟩
  f22 := ⟨Tryz.f143.name, by decide, Tryz.func143.trans (congrArg some (by kernel_rfl))⟩
  f23 := ⟨Tryz.f144.name, by decide, Tryz.func144.trans (congrArg some (by kernel_rfl))⟩
  f24 := ⟨Tryz.f145.name, by decide, Tryz.func145.trans (congrArg some (by kernel_rfl))⟩
  f25 := ⟨Tryz.f146.name, by decide, Tryz.func146.trans (congrArg some (by kernel_rfl))⟩
  f26 := ⟨Tryz.f147.name, by decide, Tryz.func147.trans (congrArg some (by kernel_rfl))⟩
  f27 := ⟨Tryz.f148.name, by decide, Tryz.func148.trans (congrArg some (by kernel_rfl))⟩
  f28 := ⟨Tryz.f149.name, by decide, Tryz.func149.trans (congrArg some (by kernel_rfl))⟩
  f29 := ⟨Tryz.f150.name, by decide, Tryz.func150.trans (congrArg some (by kernel_rfl))⟩
  f31 := Tryz.func154.trans (congrArg some (by kernel_rfl))
  f32 := Tryz.func155.trans (congrArg some (by kernel_rfl))
  f36 := ⟨Tryz.f153.name, by decide, Tryz.func153.trans (congrArg some (by kernel_rfl))⟩
  f37 := ⟨Tryz.f156.name, by decide, Tryz.func156.trans (congrArg some (by kernel_rfl))⟩
  f38 := ⟨Tryz.f157.name, by decide, Tryz.func157.trans (congrArg some (by kernel_rfl))⟩
  f39 := ⟨Tryz.f158.name, by decide, Tryz.func158.trans (congrArg some (by kernel_rfl))⟩
  f41 := ⟨Tryz.f159.name, by decide, Tryz.func159.trans (congrArg some (by kernel_rfl))⟩
  t0 := Tryz.underlying0
  a0 := Tryz.isAgg0
  z0 := Tryz.sizeOf0
  v0 := Tryz.zeroValue0
  t3 := Tryz.underlying3
  a3 := Tryz.isAgg3
  z3 := Tryz.sizeOf3
  v3 := Tryz.zeroValue3
  t4 := Tryz.underlying4
  a4 := Tryz.isAgg4
  z4 := Tryz.sizeOf4
  v4 := Tryz.zeroValue4
  t5 := Tryz.underlying5
  a5 := Tryz.isAgg5
  z5 := Tryz.sizeOf5
  v5 := Tryz.zeroValue5
  t9 := Tryz.underlying9
  a9 := Tryz.isAgg9
  z9 := Tryz.sizeOf9
  v9 := Tryz.zeroValue9
  t26 := Tryz.underlying23
  a26 := Tryz.isAgg23
  z26 := Tryz.sizeOf23
  v26 := Tryz.zeroValue23
  t27 := Tryz.underlying23
  a27 := Tryz.isAgg23
  z27 := Tryz.sizeOf23
  v27 := Tryz.zeroValue23
  t29 := Tryz.underlying9
  a29 := Tryz.isAgg9
  z29 := Tryz.sizeOf9
  v29 := Tryz.zeroValue9
  t32 := Tryz.underlying179
  a32 := Tryz.isAgg179
  z32 := Tryz.sizeOf179
  v32 := Tryz.zeroValue179
  t35 := Tryz.underlying184
  a35 := Tryz.isAgg184
  z35 := Tryz.sizeOf184
  v35 := Tryz.zeroValue184
  t36 := Tryz.underlying185
  a36 := Tryz.isAgg185
  z36 := Tryz.sizeOf185
  v36 := Tryz.zeroValue185
  t41 := Tryz.underlying79
  a41 := Tryz.isAgg79
  z41 := Tryz.sizeOf79
  v41 := Tryz.zeroValue79
  t44 := Tryz.underlying192
  a44 := Tryz.isAgg192
  z44 := Tryz.sizeOf192
  v44 := Tryz.zeroValue192
  t46 := Tryz.underlying194
  a46 := Tryz.isAgg194
  z46 := Tryz.sizeOf194
  v46 := Tryz.zeroValue194
  t53 := Tryz.underlying195
  a53 := Tryz.isAgg195
  z53 := Tryz.sizeOf195
  v53 := Tryz.zeroValue195
  t57 := Tryz.underlying167
  a57 := Tryz.isAgg167
  z57 := Tryz.sizeOf167
  v57 := Tryz.zeroValue167
  t63 := Tryz.underlying200
  a63 := Tryz.isAgg200
  z63 := Tryz.sizeOf200
  v63 := Tryz.zeroValue200
  t64 := Tryz.underlying88
  a64 := Tryz.isAgg88
  z64 := Tryz.sizeOf88
  v64 := Tryz.zeroValue88 }
end Go.Proofs

/-
  slices.Sorted(maps.Keys(m)) at this program: the shelf's contracts, as lay-iter.mjs lays them.
-/
namespace Go.Proofs
open Go.RowKit Go.Maps Go.Sort Go.Shelf
theorem Tryz.sorts41 (m : Nat) : AnyZ.SortsIn Tryz.prog Tryz.sorted41_ren Fence.wide m :=
  ⟨fun blk off cap ss W hH hblk hsz => callsIn_wide.2 (AnyM.slices_Sort_string Tryz.sort61 blk off cap ss W hH hblk hsz),
   fun p cap W => callsIn_wide.2 (AnyM.slices_Sort_string_none Tryz.sort61 p cap W)⟩
theorem Tryz.maps_Keys_42 (mb : Option Nat) (W : World) : CallsIn Fence.wide 5 Tryz.prog 116 #[.map mb] W fun e w' => e = .returned (.func (.func 131) #[] #[.pointer (some ⟨W.heap.size, 0, none⟩)]) ∧ w' = W.alloc (.cells #[.map mb] 136) :=
  AnyZ.keys_in Tryz.keys42 Fence.wide 5 trivial rfl mb W
set_option maxHeartbeats 1000000 in
theorem Tryz.slices_Sorted_keys_41_42 {H : Type} (b nn : Nat) (D0 : DataW H) (R : Value → Option (DataW H × List MemPlace)) (w : World) (hown : w.ownsMap Tryz.prog 9 R b nn D0) (hmax : Maps.size D0 ≤ maxLen) (hbytes : Maps.size D0 * 16 ≤ 140737488355328) :
    CallsIn Fence.wide 5 Tryz.prog 115 #[.func (.func 131) #[] #[.pointer (some ⟨w.heap.size, 0, none⟩)]] (w.alloc (.cells #[.map (some b)] 136)) fun e w' => ∃ (v : Value) (ss : List (List UInt8)), e = .returned v ∧ ss.Perm (strKeys D0) ∧
      w'.ownsRow (w.alloc (.cells #[.map (some b)] 136)).heap.size 9 1 v ss.length ((ss.mergeSort (fun x y => decide (x ≤ y))).map encStr) ∧ (v = .slice none 0 0 ↔ ss = []) ∧ Below (w.alloc (.cells #[.map (some b)] 136)).heap.size (w.alloc (.cells #[.map (some b)] 136)) w' := by
  have hbl := hown.lt
  have hseq : SeqGives Fence.wide 2 Tryz.prog 131 #[.pointer (some ⟨w.heap.size, 0, none⟩)] encStr (fun ss => ss.Perm (strKeys D0)) (Maps.size D0) (w.alloc (.cells #[.map (some b)] 136)) :=
    AnyZ.keys_gives (ρ := Tryz.keys42_ren) { Tryz.keys42 with } Fence.wide _ trivial rfl (by omega) w.heap.size b nn D0 _ (by simp) (by simp) (by
      obtain ⟨es, clock, hb, Ft, hs, hD⟩ := hown
      exact ⟨es, clock, (Below.heap_alloc _ _ b hbl).trans hb, Ft, hs, hD⟩)
  exact AnyZ.sorted_in Tryz.sorted41 Fence.wide 5 trivial trivial trivial trivial rfl (by omega) (Tryz.sorts41 _) (enters_of Tryz.func130 (by kernel_rfl) rfl) 131 #[.pointer (some ⟨w.heap.size, 0, none⟩)] trivial (enters_of Tryz.func131 (by kernel_rfl) rfl) _ _ hmax hbytes _ hseq
end Go.Proofs

namespace Go.Proofs.YtpkljcgihobaiaaGreatDoor
open Go.RowKit Go.Maps Go.Sort Go.Shelf
theorem strs_of_row {w : World} {base : Nat} {l : List ByteArray} {v : Value} {n : Nat} (h : w.ownsRow base 9 1 v n ((l.map (·.data.toList)).map encStr)) (hn : n = l.length) : ∃ a c, v = .slice a l.length c ∧ IsStrs w l a l.length c := by
  subst hn
  have e : (l.map (·.data.toList)).map encStr = l.flatMap strCells := by
    clear h
    induction l with
    | nil => rfl
    | cons x r ih => simp only [List.map_cons, ih, List.flatMap_cons, strCells]; rfl
  rw [e] at h
  obtain ⟨a, c, h1, _, h2⟩ := strs_of_owns h [] (by simp)
  exact ⟨a, c, h1, h2⟩
theorem size_owned {w : World} {b n : Nat} {D : DataW Unit} {R : Value → Option (DataW Unit × List MemPlace)} (h : w.ownsMap Tryz.prog 9 R b n D) : Maps.size D ≤ n := by
  obtain ⟨es, clock, _, _, hs, rfl⟩ := h
  simp only [Maps.size]
  rw [length_sorted]
  simpa using hs
def PutQF (l : List ByteArray) (w : World) (e : Ending) (w' : World) : Prop := ∃ (a : Option Addr) (c : Nat), e = .returned (.slice a l.length c) ∧ IsStrs w' l a l.length c ∧ Ext w w' ∧ ∀ b off, a = some ⟨b, off, none⟩ → w.heap.size ≤ b
set_option maxRecDepth 100000 in
set_option maxHeartbeats 4000000 in
theorem synNamesF_calls (e : Ex) (v : Value) (w : World) (hs : e.size ≤ 900000) (hf : e.fits) (he : IsEx w e v) : Calls Tryz.prog 94 #[v] w (PutQF (refNames (namesE e)) w) := by
  obtain ⟨aw, nw, cw, aa, na, ca, rfl, -, -, -, -, -⟩ := he.parts
  have HX := Lib.hid (((Ext.refl w).alloc (.cells #[.int .i64 e.op, .string e.name, .slice aw nw cw, .int .i64 e.lo, .int .i64 e.hi, .slice aa na ca] 26)).alloc (.map #[] 0))
  have HSET := Lib.hid (show SetAt ((w.alloc (.cells #[.int .i64 e.op, .string e.name, .slice aw nw cw, .int .i64 e.lo, .int .i64 e.hi, .slice aa na ca] 26)).alloc (.map #[] 0)) (w.heap.size + 1) 0 [] from
    ⟨.map [], by have := World.ownsMap_made (H := Unit) (w.alloc (.cells #[.int .i64 e.op, .string e.name, .slice aw nw cw, .int .i64 e.lo, .int .i64 e.hi, .slice aa na ca] 26)) Tryz.prog 9 unitElem; simpa using this, setIs_nil⟩)
  have HE := Lib.hid (show IsEx (mask ((w.alloc (.cells #[.int .i64 e.op, .string e.name, .slice aw nw cw, .int .i64 e.lo, .int .i64 e.hi, .slice aa na ca] 26)).alloc (.map #[] 0)) [w.heap.size + 1]) e (exV e.op e.name aw nw cw e.lo e.hi aa na ca) from
    he.mono (fun p q hp => by
      have hb := block_lt hp
      rw [mask_cell, if_neg (by simp; omega)]
      exact HX.out.cell hp))
  have HC := Lib.hid (collect_calls 900000 (by omega) e _ _ _ _ _ hs hf HE.out HSET.out (by omega))
  have hmm := @run_makeMap Tryz.prog
  rw [List.nil_append] at HC
  clear he HSET HE
  unfold exV at *
  refine (callsIn_wide (n := 6)).1 ?_
  have hfK : Fence.wide.fn 116 := trivial
  have hfS : Fence.wide.fn 115 := trivial
  have hfC : Fence.wide.fn 114 := trivial
  refine callsIn_of_wp Tryz.func94 rfl trivial ?_ rfl
  simp only [Tryz.ntmps94, List.size_toArray, List.length_cons, List.length_nil, Nat.reduceAdd, Nat.reduceSub, Array.replicate_succ, Array.replicate_zero, List.push_toArray, List.append_toArray, List.nil_append, List.cons_append]
  gi_wp2_with (first
    | (gi_at_call 114; refine (callsIn_wide.2 HC.out).mono ?_; rintro r w1 ⟨rfl, hset1, hc1⟩)
    | (gi_at_call 116; refine (Tryz.maps_Keys_42 _ _).mono ?_; rintro r w' ⟨rfl, rfl⟩))
  obtain ⟨D, hown, hsi⟩ := hset1
  have hsize := size_owned hown
  have hwx := hc1.ext HX.out (by simp)
  have HX1 := Lib.hid hwx
  have HSI := Lib.hid hsi
  clear hc1 hsi hwx
  refine (Tryz.slices_Sorted_keys_41_42 (w.heap.size + 1) _ D _ w1 hown (by unfold maxLen; omega) (by omega)).mono ?_
  rintro r w2 ⟨v, ss, rfl, hS, hrow, -, hb⟩
  have hsame := names_same HSI.out hS
  have hlen : ss.length = (refNames (namesE e)).length := by
    have := congrArg List.length hsame
    simpa using this
  rw [hsame] at hrow
  have hfr := hrow.lt
  obtain ⟨ra, rc, rfl, hst⟩ := strs_of_row hrow hlen
  have HFR := Lib.hid (show ∀ b off, ra = some ⟨b, off, none⟩ → w.heap.size ≤ b by
    intro b off e
    subst e
    have h1 := (hfr b rfl).1
    have h2 := HX1.out.size
    simp at h1
    omega)
  have HST := Lib.hid hst
  have HX2 := Lib.hid ((HX1.out.alloc (.cells #[.map (some (w.heap.size + 1))] 136)).trans hb)
  clear hrow hst hb hS hsame hlen hown hsize hfr
  gi_wp2_with (fail)
  go_ret
  exact ⟨ra, rc, rfl, HST.out, HX2.out, HFR.out⟩
open Go.RowKit Go.Maps
def Cl.dfn (c : Cl) : Dfn := ⟨c.kind == 1, c.name, refNames (namesE c.cond)⟩
def IsInts (w : World) (l : List Int) (a : Option Addr) (n c : Nat) : Prop :=
  n = l.length ∧ n ≤ c ∧ OkAddr a c ∧ ∀ i (h : i < l.length), ∃ b off, a = some ⟨b, off, none⟩ ∧ w.cell? ⟨b, off + i, none⟩ = some (.int .i64 l[i])
theorem IsInts.mono {w w' : World} {l : List Int} {a : Option Addr} {n c : Nat} (h : IsInts w l a n c) (he : Sub w w') : IsInts w' l a n c :=
  ⟨h.1, h.2.1, h.2.2.1, fun i hi => by obtain ⟨b, off, h1, h2⟩ := h.2.2.2 i hi; exact ⟨b, off, h1, he _ _ h2⟩⟩
def ints (o : List Nat) : List Int := o.map fun (i : Nat) => (i : Int)
def OrdQ (l : List Dfn) (w : World) (e : Ending) (w' : World) : Prop := Ext w w' ∧
  ((∃ o a c, Topo l o ∧ e = .returned (.tuple #[.slice a o.length c, .int .i64 0]) ∧ IsInts w' (ints o) a o.length c) ∨ (∃ o, OInv l o [] ∧ o.length < countOf l ∧ e = .returned (.tuple #[.slice none 0 0, .int .i64 10])))
theorem first_take {l : List Dfn} {k : Nat} (hk : k < l.length) (s : ByteArray) : firstAt (l.take (k + 1)) s = match firstAt (l.take k) s with | some d => some d | none => if l[k].is = true ∧ l[k].name = s then some k else none := by
  unfold firstAt
  rw [List.take_succ_eq_append_getElem hk, List.findIdx?_append]
  cases h : (l.take k).findIdx? fun d => d.is && decide (d.name = s) with
  | some d => simp
  | none =>
    simp only [List.findIdx?_cons, List.findIdx?_nil, List.length_take]
    by_cases hc : l[k].is = true ∧ l[k].name = s
    · simp [hc]; omega
    · rw [if_neg hc]
      have : (l[k].is && decide (l[k].name = s)) = false := by
        simp only [Bool.and_eq_false_iff, decide_eq_false_iff_not]
        by_cases h1 : l[k].is = true
        · exact Or.inr fun h2 => hc ⟨h1, h2⟩
        · exact Or.inl (by simpa using h1)
      simp [this]
theorem uMapSI : Tryz.prog.underlying 109 = some (.map 9 3) := by kernel_rfl
theorem uMapSIs : Tryz.prog.underlying 135 = some (.map 9 22) := by kernel_rfl
theorem uMapIM : Tryz.prog.underlying 134 = some (.map 3 136) := by kernel_rfl
theorem uInt3 : Tryz.prog.underlying 3 = some (.int .i64) := by kernel_rfl
theorem keyedInt : Keyed Tryz.prog 3 := int_keyed uInt3
theorem zeroInt (w : World) : (zeroValue 3).run Tryz.prog w = .ok (.int .i64 0) w := by kernel_rfl
theorem zeroInts (w : World) : (zeroValue 22).run Tryz.prog w = .ok (.slice none 0 0) w := by kernel_rfl
theorem zeroSet (w : World) : (zeroValue 136).run Tryz.prog w = .ok (.map none) w := by kernel_rfl
theorem keyStr {s : ByteArray} (h : s.size ≤ 1000000000000000) : keyOf Tryz.prog 9 (.string s) = some (.string s.data.toList) := Go.WideMaps.keyOf_string_mk uStr2 (by unfold maxLen; omega)
theorem keyInt {i : Nat} (h : i ≤ 1000000000000000) : keyOf Tryz.prog 3 (.int .i64 i) = some (.int .i64 i) := keyOf_int_mk uInt3 (by simp [Lit.wf, IntKind.min, IntKind.max, IntKind.bits, IntKind.signed]; omega)
theorem firstF_none {l : List Dfn} {s : ByteArray} (h : firstAt l s = none) : strF (firstF l) (.string s.data.toList) = none := by rw [strF_at, firstF, h]; rfl
theorem firstF_some {l : List Dfn} {s : ByteArray} {d : Nat} (h : firstAt l s = some d) : strF (firstF l) (.string s.data.toList) = some (.int .i64 d) := by rw [strF_at, firstF, h]; rfl
theorem firstF_step {l : List Dfn} {k : Nat} (hk : k < l.length) (hd : l[k].is = true) (hf : firstAt (l.take k) l[k].name = none) (x : Lit) : setF (strF (firstF (l.take k))) (.string l[k].name.data.toList) (some (.int .i64 k)) x = strF (firstF (l.take (k + 1))) x := by
  rw [setF_str]
  cases x <;> try rfl
  rename_i bs
  simp only [strF]
  by_cases e : (⟨bs.toArray⟩ : ByteArray) = l[k].name
  · rw [e, upS_same, firstF, first_take hk, hf]
    simp [hd]
  · rw [upS_other _ _ e, firstF, firstF, first_take hk]
    cases firstAt (l.take k) ⟨bs.toArray⟩ with
    | some d => rfl
    | none =>
      have : ¬ (l[k].is = true ∧ l[k].name = ⟨bs.toArray⟩) := fun h => e h.2.symm
      rw [if_neg this]
theorem firstF_skip {l : List Dfn} {k : Nat} (hk : k < l.length) (hd : l[k].is = false ∨ firstAt (l.take k) l[k].name ≠ none) (x : Lit) : strF (firstF (l.take k)) x = strF (firstF (l.take (k + 1))) x := by
  cases x <;> try rfl
  rename_i bs
  simp only [strF, firstF]
  rw [first_take hk]
  cases h : firstAt (l.take k) ⟨bs.toArray⟩ with
  | some d => rfl
  | none =>
    have : ¬ (l[k].is = true ∧ l[k].name = ⟨bs.toArray⟩) := by
      rintro ⟨h1, h2⟩
      rcases hd with h3 | h3
      · rw [h3] at h1; cases h1
      · rw [h2] at h3; exact h3 h
    rw [if_neg this]
open Go.RowKit Go.Maps
def St0 (bf bu bm bp : Nat) : St where
  ρ := fun k => if k = bf then .first else if k = bp then .pile else if k = bm then .miss else if k = bu then .users else .none
  mb := fun _ => 0
  uv := fun _ => none
  U := fun _ => []
  D := fun _ => False
  S := fun _ => False
  M := fun _ _ => False
  pv := .slice none 0 0
  R := []
  vo := .slice none 0 0
  O := []
theorem OB.start {w wr : World} {l : List Dfn} {bf t : Nat} (h : MapAt wr 9 bf t (strF (firstF l))) (hx : Ext w wr) (hb : w.heap.size ≤ bf) :
    OB w l bf (wr.heap.size + 2) (wr.heap.size + 1) wr.heap.size t (St0 bf (wr.heap.size + 2) (wr.heap.size + 1) wr.heap.size) (((wr.alloc (.cells #[.slice none 0 0] 133)).alloc (.map #[] 0)).alloc (.map #[] 0)) := by
  have hlt := h.lt
  have hsz := hx.size
  have x1 : Ext wr (wr.alloc (.cells #[.slice none 0 0] 133)) := (Ext.refl _).alloc _
  have x2 := x1.alloc (.map #[] 0)
  have x3 := x2.alloc (.map #[] 0)
  have z1 : (wr.alloc (.cells #[.slice none 0 0] 133)).heap.size = wr.heap.size + 1 := by simp
  have z2 : ((wr.alloc (.cells #[.slice none 0 0] 133)).alloc (.map #[] 0)).heap.size = wr.heap.size + 2 := by simp
  refine { ext := hx.trans x3, fresh := ?_, old := ?_, rf := ?_, hf := h.ext x3, ru := ?_, hu := ?_, rows := ?_, rown := fun _ _ => rfl, rm := ?_, hm := ?_, dom := fun _ h => h, sets := fun _ h => h.elim, rp := ?_, hp := ?_, rpv := ?_, hv := World.ownsRow_nil _ _ _ _, rv := ?_ }
  · intro k hk
    simp at hk
    simp only [St0]
    rw [if_neg (by omega), if_neg (by omega), if_neg (by omega), if_neg (by omega)]
  · intro k hk
    simp only [St0]
    rw [if_neg (by omega), if_neg (by omega), if_neg (by omega), if_neg (by omega)]
  · simp [St0]
  · simp only [St0]
    rw [if_neg (by omega), if_neg (by omega), if_neg (by omega), if_pos trivial]
  · have := MapAt.made ((wr.alloc (.cells #[.slice none 0 0] 133)).alloc (.map #[] 0)) 9
    rw [z2] at this
    exact (this.more (Nat.zero_le t)).congr fun x => by cases x <;> rfl
  · intro x v hv; cases hv
  · simp only [St0]
    rw [if_neg (by omega), if_neg (by omega), if_pos trivial]
  · have := MapAt.made (wr.alloc (.cells #[.slice none 0 0] 133)) 3
    rw [z1] at this
    refine ((this.more (Nat.zero_le t)).ext ((Ext.refl _).alloc _)).congr fun x => ?_
    cases x <;> try rfl
    rename_i q z
    cases q <;> try rfl
    simp [intF, missF, St0]
  · simp only [St0]
    rw [if_neg (by omega), if_pos trivial]
  · have := PileV.fresh wr
    refine ⟨by omega, ?_, World.ownsRow_nil _ _ _ _, by simp [St0, Value.ownBlock]⟩
    exact blk_alloc (blk_alloc (alloc_new wr _))
  · intro g hg; simp [St0, Value.ownBlock] at hg
  · intro g hg; simp [St0, Value.ownBlock] at hg
theorem IsStrs.chg {w w' : World} {l : List ByteArray} {a : Option Addr} {n c : Nat} {N : List Nat} (h : IsStrs w l a n c) (hc : Chg N w w') (hN : ∀ b off, a = some ⟨b, off, none⟩ → b ∉ N) : IsStrs w' l a n c :=
  ⟨h.1, h.2.1, h.2.2.1, fun i hi => by
    obtain ⟨b, off, h1, h2⟩ := h.2.2.2 i hi
    refine ⟨b, off, h1, ?_⟩
    have hb := block_lt h2
    unfold World.cell? at h2 ⊢
    rw [hc.block b hb (hN b off h1)]
    exact h2⟩
theorem rerole_none {ρ : Nat → Role} {v v' : Value} {r : Role} {n k : Nat} (hk : ρ k = .none) (hkn : k < n) (hr : r ≠ .none) (hv : ∀ g, v.ownBlock = some g → ρ g = r) (hw : ∀ g, v'.ownBlock = some g → v.ownBlock = some g ∨ n ≤ g) : rerole ρ v' r k = .none := by
  rw [rerole_other, hk]
  intro g hg e
  subst e
  rcases hw k hg with h | h
  · exact hr ((hv k h).symm.trans hk)
  · omega
open Classical in
noncomputable def UL (l : List Dfn) (k : Nat) (x : ByteArray) : List Nat := if (firstAt l x).isSome then (List.range k).filter fun i => isDef l i && (usesAt l i).any fun y => decide (y = x) else []
def RL (l : List Dfn) (k : Nat) : List Nat := (List.range k).filter fun i => isDef l i && (missL l [] i).isEmpty
def cntTo (l : List Dfn) (k : Nat) : Nat := ((List.range k).filter (isDef l)).length
def natI (l : List Nat) : List Int := l.map fun (i : Nat) => (i : Int)
structure Ph2 (l : List Dfn) (k : Nat) (s : St) : Prop where
  D : ∀ i, s.D i ↔ (i < k ∧ isDef l i = true)
  S : ∀ i, s.S i ↔ (i < k ∧ isDef l i = true)
  M : ∀ i, s.S i → ∀ x, s.M i x ↔ x ∈ missL l [] i
  U : ∀ x, s.U x = UL l k x
  R : s.R.Perm (natI (RL l k))
  vo : s.vo = .slice none 0 0
  O : s.O = []
theorem Ph2.start (l : List Dfn) (bf bu bm bp : Nat) : Ph2 l 0 (St0 bf bu bm bp) where
  D i := by simp [St0]
  S i := by simp [St0]
  M i h := h.elim
  U x := by simp [St0, UL]
  R := by simp [St0, RL, natI]
  vo := rfl
  O := rfl
structure Ph3 (l : List Dfn) (k j : Nat) (s : St) : Prop where
  D : ∀ i, s.D i ↔ (i < k ∧ isDef l i = true)
  S : ∀ i, s.S i ↔ ((i < k ∧ isDef l i = true) ∨ i = k)
  M : ∀ i, i < k → s.S i → ∀ x, s.M i x ↔ x ∈ missL l [] i
  Mk : ∀ x, s.M k x ↔ (x ∈ (usesAt l k).take j ∧ (firstAt l x).isSome = true)
  U : ∀ x, s.U x = if (firstAt l x).isSome = true ∧ x ∈ (usesAt l k).take j then UL l k x ++ [k] else UL l k x
  R : s.R.Perm (natI (RL l k))
  vo : s.vo = .slice none 0 0
  O : s.O = []
theorem Ph2.skip {l : List Dfn} {k : Nat} {s : St} (h : Ph2 l k s) (hd : isDef l k = false) : Ph2 l (k + 1) s ∧ cntTo l (k + 1) = cntTo l k := by
  have hi : ∀ i, (i < k + 1 ∧ isDef l i = true) ↔ (i < k ∧ isDef l i = true) := fun i => by
    constructor
    · rintro ⟨h1, h2⟩
      refine ⟨?_, h2⟩
      rcases Nat.lt_or_ge i k with h' | h'
      · exact h'
      · obtain rfl : i = k := by omega
        rw [hd] at h2; cases h2
    · rintro ⟨h1, h2⟩; exact ⟨by omega, h2⟩
  refine ⟨{ D := fun i => (h.D i).trans (hi i).symm, S := fun i => (h.S i).trans (hi i).symm, M := h.M, U := fun x => ?_, R := ?_, vo := h.vo, O := h.O }, ?_⟩
  · rw [h.U]
    unfold UL
    rw [List.range_succ, List.filter_append]
    simp [hd]
  · refine h.R.trans (List.Perm.of_eq ?_)
    unfold RL
    rw [List.range_succ, List.filter_append]
    simp [hd]
  · unfold cntTo
    rw [List.range_succ, List.filter_append]
    simp [hd]
theorem Ph2.enter {l : List Dfn} {k : Nat} {s : St} (h : Ph2 l k s) (b : Nat) : Ph3 l k 0 (s.newSet k b) where
  D i := h.D i
  S i := by
    show (i = k ∨ s.S i) ↔ _
    rw [h.S]; exact Or.comm
  M i hi hS x := by
    show upN s.M k (fun _ => False) i x ↔ _
    rw [upN_other _ _ (by omega)]
    refine h.M i ?_ x
    rcases hS with e | e
    · omega
    · exact e
  Mk x := by
    show upN s.M k (fun _ => False) k x ↔ _
    rw [upN_same]; simp
  U x := by
    show s.U x = _
    rw [h.U]; simp
  R := h.R
  vo := h.vo
  O := h.O
theorem take_succ_mem {α : Type} {l : List α} {j : Nat} (hj : j < l.length) (x : α) : x ∈ l.take (j + 1) ↔ x ∈ l.take j ∨ x = l[j] := by
  rw [List.take_succ_eq_append_getElem hj, List.mem_append, List.mem_singleton]
theorem Ph3.skip {l : List Dfn} {k j : Nat} {s : St} (h : Ph3 l k j s) (hj : j < (usesAt l k).length) (hf : firstAt l (usesAt l k)[j] = none) : Ph3 l k (j + 1) s := by
  have hx : ∀ x, ((firstAt l x).isSome = true ∧ x ∈ (usesAt l k).take (j + 1)) ↔ ((firstAt l x).isSome = true ∧ x ∈ (usesAt l k).take j) := fun x => by
    rw [take_succ_mem hj]
    constructor
    · rintro ⟨h1, h2 | rfl⟩
      · exact ⟨h1, h2⟩
      · rw [hf] at h1; cases h1
    · rintro ⟨h1, h2⟩; exact ⟨h1, Or.inl h2⟩
  exact { h with
    Mk := fun x => by rw [h.Mk, and_comm, ← hx x, and_comm]
    U := fun x => by
      rw [h.U]
      by_cases hc : (firstAt l x).isSome = true ∧ x ∈ (usesAt l k).take j
      · rw [if_pos hc, if_pos ((hx x).2 hc)]
      · rw [if_neg hc, if_neg fun h' => hc ((hx x).1 h')] }
theorem Ph3.step {l : List Dfn} {k j : Nat} {s : St} (h : Ph3 l k j s) (hj : j < (usesAt l k).length) (hf : (firstAt l (usesAt l k)[j]).isSome = true) (hnd : (usesAt l k).Nodup) (v : Value) :
    Ph3 l k (j + 1) ((s.setM k fun x => x = (usesAt l k)[j] ∨ s.M k x).setU (usesAt l k)[j] v (s.U (usesAt l k)[j] ++ [k])) := by
  have hnot : (usesAt l k)[j] ∉ (usesAt l k).take j := by
    intro hm
    obtain ⟨q, hq, e⟩ := List.mem_iff_getElem.1 hm
    have hq' : q < j := by simp at hq; omega
    rw [List.getElem_take] at e
    have := (List.pairwise_iff_getElem.1 hnd) q j (by omega) hj hq'
    exact this e
  refine { D := h.D, S := h.S, M := fun i hi hS x => ?_, Mk := fun x => ?_, U := fun x => ?_, R := h.R, vo := h.vo, O := h.O }
  · show upN s.M k _ i x ↔ _
    rw [upN_other _ _ (by omega)]
    exact h.M i hi hS x
  · show upN s.M k _ k x ↔ _
    rw [upN_same, take_succ_mem hj, h.Mk]
    constructor
    · rintro (rfl | ⟨h1, h2⟩)
      · exact ⟨Or.inr rfl, hf⟩
      · exact ⟨Or.inl h1, h2⟩
    · rintro ⟨h1 | rfl, h2⟩
      · exact Or.inr ⟨h1, h2⟩
      · exact Or.inl rfl
  · show upS s.U (usesAt l k)[j] (s.U (usesAt l k)[j] ++ [k]) x = _
    by_cases e : x = (usesAt l k)[j]
    · rw [e, upS_same, if_pos ⟨hf, (take_succ_mem hj _).2 (Or.inr rfl)⟩, h.U, if_neg fun h' => hnot h'.2]
    · rw [upS_other _ _ e, h.U]
      have hx : ((firstAt l x).isSome = true ∧ x ∈ (usesAt l k).take (j + 1)) ↔ ((firstAt l x).isSome = true ∧ x ∈ (usesAt l k).take j) := by
        rw [take_succ_mem hj]
        exact ⟨fun ⟨h1, h2⟩ => ⟨h1, h2.resolve_right e⟩, fun ⟨h1, h2⟩ => ⟨h1, Or.inl h2⟩⟩
      by_cases hc : (firstAt l x).isSome = true ∧ x ∈ (usesAt l k).take j
      · rw [if_pos hc, if_pos (hx.2 hc)]
      · rw [if_neg hc, if_neg fun h' => hc (hx.1 h')]
theorem isSome_iff {l : List Dfn} {x : ByteArray} : (firstAt l x).isSome = true ↔ ∃ d, firstAt l x = some d := by
  cases firstAt l x <;> simp
theorem UL_succ {l : List Dfn} {k : Nat} (hd : isDef l k = true) (x : ByteArray) : UL l (k + 1) x = if (firstAt l x).isSome = true ∧ x ∈ usesAt l k then UL l k x ++ [k] else UL l k x := by
  unfold UL
  by_cases hs : (firstAt l x).isSome = true
  · simp only [hs, if_true, true_and]
    rw [List.range_succ, List.filter_append]
    by_cases hm : x ∈ usesAt l k
    · rw [if_pos hm]
      congr 1
      have : ((usesAt l k).any fun y => decide (y = x)) = true := List.any_eq_true.2 ⟨x, hm, by simp⟩
      simp [hd, this]
    · rw [if_neg hm]
      have : ((usesAt l k).any fun y => decide (y = x)) = false := by
        rw [List.any_eq_false]
        intro y hy
        simp only [decide_eq_true_eq]
        intro e
        exact hm (e ▸ hy)
      simp [hd, this]
  · simp [hs]
theorem Ph3.leave {l : List Dfn} {k : Nat} {s : St} (h : Ph3 l k (usesAt l k).length s) (hd : isDef l k = true) (he : missL l [] k ≠ []) : Ph2 l (k + 1) (s.setD k) ∧ cntTo l (k + 1) = cntTo l k + 1 := by
  have hi : ∀ i, (i < k + 1 ∧ isDef l i = true) ↔ (i = k ∨ (i < k ∧ isDef l i = true)) := fun i => ⟨fun ⟨h1, h2⟩ => by
    rcases Nat.lt_or_ge i k with h' | h'
    · exact Or.inr ⟨h', h2⟩
    · exact Or.inl (by omega), fun h' => by
    rcases h' with rfl | ⟨h1, h2⟩
    · exact ⟨by omega, hd⟩
    · exact ⟨by omega, h2⟩⟩
  refine ⟨{ D := fun i => ?_, S := fun i => ?_, M := fun i hS x => ?_, U := fun x => ?_, R := ?_, vo := h.vo, O := h.O }, ?_⟩
  · show (i = k ∨ s.D i) ↔ _
    rw [h.D, hi]
  · show s.S i ↔ _
    rw [h.S, hi, Or.comm]
  · show s.M i x ↔ _
    by_cases e : i = k
    · subst e
      rw [h.Mk, List.take_length, mem_miss]
      constructor
      · rintro ⟨h1, h2⟩
        obtain ⟨d, hd⟩ := isSome_iff.1 h2
        exact ⟨h1, d, hd, by simp⟩
      · rintro ⟨h1, d, h2, _⟩
        exact ⟨h1, isSome_iff.2 ⟨d, h2⟩⟩
    · refine h.M i ?_ hS x
      have := (h.S i).1 hS
      omega
  · show s.U x = _
    rw [h.U, List.take_length, UL_succ hd]
  · refine h.R.trans (List.Perm.of_eq ?_)
    unfold RL
    rw [List.range_succ, List.filter_append]
    simp [hd, he]
  · unfold cntTo
    rw [List.range_succ, List.filter_append]
    simp [hd]
theorem Ph3.leave0 {l : List Dfn} {k : Nat} {s : St} (h : Ph3 l k (usesAt l k).length s) (hd : isDef l k = true) (he : missL l [] k = []) {pv : Value} {R : List Int} (hR : R.Perm (s.R ++ [(k : Int)])) : Ph2 l (k + 1) ((s.setD k).setP pv R) ∧ cntTo l (k + 1) = cntTo l k + 1 := by
  have hi : ∀ i, (i < k + 1 ∧ isDef l i = true) ↔ (i = k ∨ (i < k ∧ isDef l i = true)) := fun i => ⟨fun ⟨h1, h2⟩ => by
    rcases Nat.lt_or_ge i k with h' | h'
    · exact Or.inr ⟨h', h2⟩
    · exact Or.inl (by omega), fun h' => by
    rcases h' with rfl | ⟨h1, h2⟩
    · exact ⟨by omega, hd⟩
    · exact ⟨by omega, h2⟩⟩
  refine ⟨{ D := fun i => ?_, S := fun i => ?_, M := fun i hS x => ?_, U := fun x => ?_, R := ?_, vo := h.vo, O := h.O }, ?_⟩
  · show (i = k ∨ s.D i) ↔ _
    rw [h.D, hi]
  · show s.S i ↔ _
    rw [h.S, hi, Or.comm]
  · show s.M i x ↔ _
    by_cases e : i = k
    · subst e
      rw [h.Mk, List.take_length, mem_miss]
      constructor
      · rintro ⟨h1, h2⟩
        obtain ⟨d, hd⟩ := isSome_iff.1 h2
        exact ⟨h1, d, hd, by simp⟩
      · rintro ⟨h1, d, h2, _⟩
        exact ⟨h1, isSome_iff.2 ⟨d, h2⟩⟩
    · refine h.M i ?_ hS x
      have := (h.S i).1 hS
      omega
  · show s.U x = _
    rw [h.U, List.take_length, UL_succ hd]
  · refine hR.trans ?_
    have e : natI (RL l (k + 1)) = natI (RL l k) ++ [(k : Int)] := by
      unfold RL natI
      rw [List.range_succ, List.filter_append, List.map_append]
      simp [hd, he]
    rw [e]
    exact List.Perm.append_right _ h.R
  · unfold cntTo
    rw [List.range_succ, List.filter_append]
    simp [hd]
theorem refNames_len2 (l : List ByteArray) : (refNames l).length ≤ l.length := by have := fold_len l []; simpa [refNames] using this
mutual
theorem names_fit : (e : Ex) → e.fits → ∀ x ∈ namesE e, x.size ≤ 1000000000000000
  | .mk op name words lo hi args, h, x, hx => by
    obtain ⟨h1, h2⟩ := fits_parts2 h
    rw [namesE, List.mem_append] at hx
    rcases hx with hx | hx
    · split at hx
      · simp at hx; subst hx; exact h1
      · simp at hx
    · exact namesL_fit args h2 x hx
theorem namesL_fit : (l : List Ex) → (∀ y ∈ l, y.fits) → ∀ x ∈ namesL l, x.size ≤ 1000000000000000
  | [], _, x, hx => by rw [namesL] at hx; simp at hx
  | e :: r, h, x, hx => by
    rw [namesL, List.mem_append] at hx
    rcases hx with hx | hx
    · exact names_fit e (h e (by simp)) x hx
    · exact namesL_fit r (fun y hy => h y (by simp [hy])) x hx
end
def tb (k : Nat) : Nat := 1000 + k * 1000000
theorem tb_succ (k : Nat) : tb k + 1000000 ≤ tb (k + 1) := by unfold tb; omega
theorem tb_le {k : Nat} (h : k ≤ 1000) : tb k ≤ 2000000000 := by unfold tb; omega
theorem tb_zero : 1000 ≤ tb 0 := by unfold tb; omega
theorem cnt_le (l : List Dfn) (k : Nat) : cntTo l k ≤ k := by
  unfold cntTo
  have := List.length_filter_le (isDef l) (List.range k)
  simpa using this
theorem UL_le (l : List Dfn) (k : Nat) (x : ByteArray) : (UL l k x).length ≤ k := by
  unfold UL
  split
  · have := List.length_filter_le (fun i => isDef l i && (usesAt l i).any fun y => decide (y = x)) (List.range k)
    simpa using this
  · simp
theorem RL_le (l : List Dfn) (k : Nat) : (RL l k).length ≤ k := by
  unfold RL
  have := List.length_filter_le (fun i => isDef l i && (missL l [] i).isEmpty) (List.range k)
  simpa using this
end Go.Proofs.YtpkljcgihobaiaaGreatDoor
