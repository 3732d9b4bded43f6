/-
  Texts of the claim, joined: Heap7, Ord2, Names1, Level1, Level2, Level3.
-/
import Derived.Test.YtfjlglefodndjaaBe05
import Derived.Test.YtfjlglefodndjaaBe04
import Derived.Test.YtfjlglefodndjaaBe01
import Derived.Maps.OwnSet
import Derived.Sort.KeysCollected
import Derived.Test.YtfjlglefodndjaaBe03
import Derived.Deep.AppendLies
import Derived.Deep.RegionLaw
import Derived.RegionTactic
namespace Go.Proofs.Ytfjlglefodndjaa
open Go.RowKit

theorem getLast_cell {xs : List Int} (hx : 0 < xs.length) : xs.getLast? = some (xs[xs.length - 1]'(by omega)) := by
  rw [List.getLast?_eq_getElem?, List.getElem?_eq_getElem (by omega)]
theorem PileG.pop {B b g cap : Nat} {xs : List Int} {w : World} (h : PileG B b g cap xs w) : PileG B b g cap xs.dropLast (w.setCell ⟨b, 0, none⟩ (.slice (some ⟨g, 0, none⟩) (xs.length - 1) cap)) := by
  obtain ⟨a1, a2, a3, a4, cur, a5, a6, a7, a8, a9⟩ := h
  refine ⟨a1, a2, a3, ?_, cur, ?_, by simp; omega, a7, a8, ?_⟩
  · simp [World.setCell, Array.getElem?_modify, a4]
  · rw [Below.heap_setCell _ _ _ _ (by simpa using a3)]; exact a5
  · have h5 : cur.toList.take (xs.length - 1) = (cur.toList.take xs.length).take (xs.length - 1) := by rw [List.take_take]; congr 1; omega
    simp only [List.length_dropLast]
    rw [h5, a9, ← List.map_take, List.dropLast_eq_take]
/-- What a pop leaves. -/
def PopQ (B b : Nat) (v : Value) (ok : Int → List Int → Prop) (w : World) (e : Ending) (w' : World) : Prop :=
  ∃ z v' ys, e = .returned (.iface 3 (.int .i64 z)) ∧ ok z ys ∧ PileV B b v' ys w' ∧ Chg (b :: rowOf v) w w' ∧ ∀ k, v'.ownBlock = some k → v.ownBlock = some k ∨ w.heap.size ≤ k
set_option maxRecDepth 100000 in
set_option maxHeartbeats 1000000 in
theorem ipop_calls (B b g cap : Nat) (xs : List Int) (w : World) (h : PileG B b g cap xs w) (hx : 0 < xs.length) :
    Calls Try.prog 114 #[.pointer (some ⟨b, 0, none⟩)] w (PopQ B b (.slice (some ⟨g, 0, none⟩) xs.length cap) (fun z ys => xs.getLast? = some z ∧ ys = xs.dropLast) w) := by
  have HP := Lib.hid h
  have hh := h.head
  have hf := blk_free h.hb 0
  have hlt := blk_lt h.hb
  have hc := h.cell (i := xs.length - 1) (by omega)
  have hlast := getLast_cell hx
  obtain ⟨n, hn⟩ : ∃ n : Nat, n + 1 = xs.length := ⟨xs.length - 1, by omega⟩
  obtain ⟨cur, hr1, hr2, hr3, hr4, hr5⟩ := h.row
  have hn2 : n + 1 ≤ 9223372036854775807 := by unfold maxLen at hr3; omega
  have hcap : n + 1 ≤ cap := by omega
  have e1 : xs.length - 1 = n := by omega
  have HPL := Lib.hid h.pop
  simp only [e1] at hc hlast
  obtain ⟨z, hz⟩ : ∃ z, z = xs[n]'(by omega) := ⟨_, rfl⟩
  rw [← hz] at hc hlast
  rw [← hn] at hh
  have HLA := Lib.hid hlast
  have HN := Lib.hid hn
  have HN2 := Lib.hid e1
  have q1 : (((n + 1 : Nat) : Int) - 1) = (n : Int) := by omega
  have q2 : ((n : Int) + 1 - 1) = (n : Int) := by omega
  rw [← hn]
  clear h hlast hr1 hr2 hr3 hr4 hr5 hz e1 hn
  go_enter Try.func114, Try.ntmps114
  go_wp2_with fail
  go_ret
  have hp := HPL.out
  rw [HN2.out] at hp
  have hv := hp.v
  rw [List.length_dropLast, HN2.out] at hv
  exact ⟨z, _, _, rfl, ⟨HLA.out, rfl⟩, hv, (Chg.refl _ _).setCell (Or.inl (by simp)) _, fun k hk => Or.inl hk⟩
set_option maxRecDepth 100000 in
set_option maxHeartbeats 1000000 in
theorem hpush_calls (B b : Nat) (v : Value) (xs : List Int) (z : Int) (w : World) (h : PileV B b v xs w) (hB : B ≤ w.heap.size) (hl : xs.length ≤ 100000000) :
    Calls Try.prog 16 #[.iface 53 (.pointer (some ⟨b, 0, none⟩)), .iface 3 (.int .i64 z)] w (PushQ B b v (fun ys => ys.Perm (xs ++ [z])) w) := by
  have ha := fun n => ahead_push n b
  have hm := fun n W => meth_push n b W
  have HP := Lib.hid h
  clear h
  go_enter Try.func16, Try.ntmps16
  go_wp2_with fail
  refine (ipush_calls B b v xs z w HP.out hB (by omega)).mono ?_
  rintro r w1 ⟨rfl, v1, ys, rfl, hp1, hc1, hw1⟩
  obtain ⟨g, cap, rfl, hg1⟩ := hp1.g (by simp)
  have HG1 := Lib.hid hg1
  have HC1 := Lib.hid hc1
  have HW1 := Lib.hid hw1
  have hh := hg1.head
  obtain ⟨n, hn⟩ : ∃ n : Nat, n = xs.length := ⟨_, rfl⟩
  have e1 : (xs ++ [z]).length = n + 1 := by simp [hn]
  rw [e1] at hh
  have HE := Lib.hid e1
  have hnb : n ≤ 100000000 := by omega
  clear hp1 hg1 hc1 hw1 ha hm e1 hn hl
  have ha := fun n => ahead_len n b
  have hm := fun k => meth_len k b _ w1 hh
  go_wp2_with fail
  refine (ilen_calls _ _ _ _).mono ?_
  rintro r w2 ⟨rfl, rfl⟩
  have q1 : (((n + 1 : Nat) : Int) - 1) = (n : Int) := by omega
  have q2 : ((n : Int) + 1 - 1) = (n : Int) := by omega
  clear ha hm
  go_wp2_with fail
  refine (up_calls B b g cap _ _ HG1.out n (by rw [HE.out]; omega)).mono ?_
  rintro r w3 ⟨rfl, ys, hy, hp3, hc3⟩
  have HP3 := Lib.hid hp3
  have HC3 := Lib.hid hc3
  have HY := Lib.hid hy
  clear hp3 hc3 hy
  go_wp2_with fail
  go_end0
  refine ⟨rfl, _, ys, HY.out, HP3.out.v, Chg.trans HC1.out HC3.out (fun x hx => ?_), fun k hk => ?_⟩
  · simp only [List.mem_singleton] at hx
    subst hx
    rcases HW1.out x rfl with e | e
    · exact Or.inl (List.mem_cons_of_mem _ (mem_rowOf.2 e))
    · exact Or.inr e
  · exact HW1.out k hk
set_option maxRecDepth 100000 in
set_option maxHeartbeats 1000000 in
theorem hpop_calls (B b : Nat) (v : Value) (xs : List Int) (w : World) (h : PileV B b v xs w) (hx : 0 < xs.length) (hl : xs.length ≤ 100000000) :
    Calls Try.prog 18 #[.iface 53 (.pointer (some ⟨b, 0, none⟩))] w (PopQ B b v (fun z ys => xs.Perm (z :: ys)) w) := by
  obtain ⟨g, cap, rfl, hg⟩ := h.g hx
  have HG := Lib.hid hg
  have hh := hg.head
  obtain ⟨n, hn⟩ : ∃ n : Nat, n + 1 = xs.length := ⟨xs.length - 1, by omega⟩
  rw [← hn] at hh ⊢
  have HN := Lib.hid hn
  have hnb : n ≤ 100000000 := by omega
  have hn0 : 0 < xs.length := hx
  have hnn : n < xs.length := by omega
  clear h hg hn hx hl
  have ha := fun n => ahead_len n b
  have hm := fun k => meth_len k b _ w hh
  have q1 : (((n + 1 : Nat) : Int) - 1) = (n : Int) := by omega
  have q2 : ((n : Int) + 1 - 1) = (n : Int) := by omega
  go_enter Try.func18, Try.ntmps18
  go_wp2_with fail
  refine (ilen_calls _ _ _ _).mono ?_
  rintro r w1 ⟨rfl, rfl⟩
  clear ha hm
  have ha := fun n => ahead_swap n b
  have hm := fun k => meth_swap k b _ w hh
  go_wp2_with fail
  refine (iswap_calls g (n + 1) cap 0 n xs[0] xs[n] w (by omega) (by omega) (HG.out.cell hn0) (HG.out.cell hnn) HG.out.free).mono ?_
  rintro r w2 ⟨rfl, q, rfl⟩
  obtain ⟨hp2, hc2⟩ := HG.out.swap hn0 hnn q
  generalize ((w.setCell ⟨g, 0, none⟩ (.int .i64 xs[n])).setCell ⟨g, n, none⟩ (.int .i64 xs[0])).drewN q = w2 at *
  have HP2 := Lib.hid hp2
  have HC2 := Lib.hid hc2
  have HY2 := Lib.hid (show ((xs.set 0 xs[n]).set n xs[0]).Perm xs from List.set_set_perm hn0 hnn)
  have HL2 := Lib.hid (show n + 1 = ((xs.set 0 xs[n]).set n xs[0]).length by simp; exact HN.out)
  generalize (xs.set 0 xs[n]).set n xs[0] = ys at *
  clear hp2 hc2 ha hm hh
  go_wp2_with fail
  refine (down_calls B b g cap ys w2 HP2.out n HL2.out (by omega)).mono ?_
  rintro r w3 ⟨⟨u, rfl⟩, zs, hzy, _, hp3, hc3⟩
  have HP3 := Lib.hid hp3
  have HC3 := Lib.hid hc3
  have HZY := Lib.hid hzy
  have HL3 := Lib.hid (show zs.length = n + 1 by rw [hzy.length_eq]; exact HL2.out.symm)
  have ha := fun n => ahead_pop n b
  have hm := fun n W => meth_pop n b W
  clear hp3 hc3 hzy
  go_wp2_with fail
  refine (ipop_calls B b g cap zs _ HP3.out (by rw [HL3.out]; omega)).mono ?_
  rintro r w4 ⟨z, v', us, rfl, ⟨hla, rfl⟩, hp4, hc4, hw4⟩
  have HP4 := Lib.hid hp4
  have HC4 := Lib.hid hc4
  have HW4 := Lib.hid hw4
  have HLA := Lib.hid hla
  clear hp4 hc4 hw4 hla ha hm
  go_wp2_with fail
  go_ret
  refine ⟨z, v', _, rfl, ?_, HP4.out, ?_, fun k hk => ?_⟩
  · refine (HY2.out.symm.trans HZY.out.symm).trans ?_
    have e : zs.dropLast ++ [z] = zs := by
      have := HLA.out
      rw [List.getLast?_eq_some_iff] at this
      obtain ⟨us, rfl⟩ := this
      simp
    exact (List.Perm.of_eq e.symm).trans (List.perm_append_singleton _ _)
  · refine ((Chg.trans (Chg.trans (Chg.refl _ _) HC2.out ?_) HC3.out ?_).trans HC4.out ?_)
    · intro x hx; exact Or.inl (by simp at hx; subst hx; simp [rowOf, Value.ownBlock])
    · intro x hx; exact Or.inl (by simp at hx; subst hx; simp [rowOf, Value.ownBlock])
    · intro x hx; exact Or.inl (by simpa [rowOf, Value.ownBlock] using hx)
  · rcases HW4.out k hk with e | e
    · exact Or.inl e
    · have := HC2.out.size
      have := HC3.out.size
      exact Or.inr (by omega)
end Go.Proofs.Ytfjlglefodndjaa

namespace Go.Proofs.Ytfjlglefodndjaa
open Go.RowKit Go.Maps

/-! What check.Order keeps in memory. Each block has one role. -/
def strF (g : ByteArray → Option Value) : Lit → Option Value
  | .string bs => g ⟨bs.toArray⟩
  | _ => none
def intF (g : Nat → Option Value) : Lit → Option Value
  | .int .i64 z => if 0 ≤ z then g z.toNat else none
  | _ => none
theorem strF_at (g : ByteArray → Option Value) (s : ByteArray) : strF g (.string s.data.toList) = g s := rfl
theorem intF_at (g : Nat → Option Value) (i : Nat) : intF g (.int .i64 i) = g i := by simp [intF]
open Classical in
noncomputable def upS {α : Type} (g : ByteArray → α) (s : ByteArray) (v : α) : ByteArray → α := fun t => if t = s then v else g t
theorem upS_same {α : Type} (g : ByteArray → α) (s : ByteArray) (v : α) : upS g s v s = v := by simp [upS]
theorem upS_other {α : Type} (g : ByteArray → α) {s t : ByteArray} (v : α) (h : t ≠ s) : upS g s v t = g t := by simp [upS, h]
def upN {α : Type} (g : Nat → α) (s : Nat) (v : α) : Nat → α := fun t => if t = s then v else g t
theorem upN_same {α : Type} (g : Nat → α) (s : Nat) (v : α) : upN g s v s = v := by simp [upN]
theorem upN_other {α : Type} (g : Nat → α) {s t : Nat} (v : α) (h : t ≠ s) : upN g s v t = g t := by simp [upN, h]
theorem setF_str (g : ByteArray → Option Value) (s : ByteArray) (v : Option Value) (x : Lit) : setF (strF g) (.string s.data.toList) v x = strF (upS g s v) x := by
  by_cases e : x = .string s.data.toList
  · subst e
    rw [setF_same, strF_at, upS_same]
  · rw [setF_other _ _ e]
    cases x <;> try rfl
    rename_i bs
    simp only [strF]
    rw [upS_other]
    intro h
    apply e
    rw [← h]
theorem setF_int (g : Nat → Option Value) (i : Nat) (v : Option Value) (x : Lit) : setF (intF g) (.int .i64 i) v x = intF (upN g i v) x := by
  by_cases e : x = .int .i64 i
  · subst e
    rw [setF_same, intF_at, upN_same]
  · rw [setF_other _ _ e]
    cases x <;> try rfl
    rename_i k z
    cases k <;> try rfl
    simp only [intF]
    by_cases h0 : 0 ≤ z
    · rw [if_pos h0, if_pos h0, upN_other]
      intro h
      apply e
      congr 1
      omega
    · rw [if_neg h0, if_neg h0]

inductive Role where
  | none | first | users | miss | pile | prow | urow (s : ByteArray) | mset (i : Nat) | out
/-- The state: roles; the set of i lies in block mb i; the users of s are U s, in the slice uv s; the sets are those of S, of which missing has those of D; the set of i has the names M i; the pile pv has R; the order vo has O. -/
structure St where
  ρ : Nat → Role
  mb : Nat → Nat
  uv : ByteArray → Option Value
  U : ByteArray → List Nat
  D : Nat → Prop
  S : Nat → Prop
  M : Nat → ByteArray → Prop
  pv : Value
  R : List Int
  vo : Value
  O : List Nat
open Classical in
noncomputable def memF (M : ByteArray → Prop) : ByteArray → Option Value := fun s => if M s then some (.agg #[]) else none
open Classical in
noncomputable def missF (D : Nat → Prop) (mb : Nat → Nat) : Nat → Option Value := fun i => if D i then some (.map (some (mb i))) else none
def firstF (l : List Dfn) : ByteArray → Option Value := fun s => (firstAt l s).map fun (d : Nat) => Value.int .i64 (d : Int)
def natVs (l : List Nat) : List Value := l.map fun (i : Nat) => Value.int .i64 (i : Int)
structure OB (w0 : World) (l : List Dfn) (bf bu bm bp t : Nat) (s : St) (w : World) : Prop where
  ext : Ext w0 w
  fresh : ∀ k, w.heap.size ≤ k → s.ρ k = .none
  old : ∀ k, k < w0.heap.size → s.ρ k = .none
  rf : s.ρ bf = .first
  hf : MapAt w 9 bf t (strF (firstF l))
  ru : s.ρ bu = .users
  hu : MapAt w 9 bu t (strF s.uv)
  rows : ∀ x v, s.uv x = some v → w.ownsRow w0.heap.size 3 1 v (s.U x).length (natVs (s.U x)) ∧ ∀ g, v.ownBlock = some g → s.ρ g = .urow x
  rown : ∀ x, s.uv x = none → s.U x = []
  rm : s.ρ bm = .miss
  hm : MapAt w 3 bm t (intF (missF s.D s.mb))
  dom : ∀ i, s.D i → s.S i
  sets : ∀ i, s.S i → s.ρ (s.mb i) = .mset i ∧ MapAt w 9 (s.mb i) t (strF (memF (s.M i)))
  rp : s.ρ bp = .pile
  hp : PileV w0.heap.size bp s.pv s.R w
  rpv : ∀ g, s.pv.ownBlock = some g → s.ρ g = .prow
  hv : w.ownsRow w0.heap.size 3 1 s.vo s.O.length (natVs s.O)
  rv : ∀ g, s.vo.ownBlock = some g → s.ρ g = .out

section
variable {w0 : World} {l : List Dfn} {bf bu bm bp t : Nat} {s : St} {w w' : World}
/-- Only blocks without a role have changed. -/
theorem OB.chg (h : OB w0 l bf bu bm bp t s w) {N : List Nat} (hc : Chg N w w') (hN : ∀ k ∈ N, s.ρ k = .none) (hN0 : ∀ k ∈ N, w0.heap.size ≤ k) : OB w0 l bf bu bm bp t s w' := by
  have nn : ∀ k r, s.ρ k = r → r ≠ .none → k ∉ N := fun k r h1 h2 h3 => h2 (by rw [← h1]; exact hN k h3)
  exact { h with
    ext := hc.ext h.ext hN0
    fresh := fun k hk => h.fresh k (Nat.le_trans hc.size hk)
    hf := h.hf.chg hc (nn _ _ h.rf (by simp))
    hu := h.hu.chg hc (nn _ _ h.ru (by simp))
    rows := fun x v hv => ⟨owns_chg (h.rows x v hv).1 hc fun g hg => nn _ _ ((h.rows x v hv).2 g hg) (by simp), (h.rows x v hv).2⟩
    hm := h.hm.chg hc (nn _ _ h.rm (by simp))
    sets := fun i hi => ⟨(h.sets i hi).1, (h.sets i hi).2.chg hc (nn _ _ (h.sets i hi).1 (by simp))⟩
    hp := h.hp.chg hc (nn _ _ h.rp (by simp)) fun g hg => nn _ _ (h.rpv g hg) (by simp)
    hv := owns_chg h.hv hc fun g hg => nn _ _ (h.rv g hg) (by simp) }
theorem OB.extd (h : OB w0 l bf bu bm bp t s w) (hx : Ext w w') : OB w0 l bf bu bm bp t s w' := h.chg (hx.chg []) (by simp) (by simp)
theorem OB.more (h : OB w0 l bf bu bm bp t s w) {t' : Nat} (ht : t ≤ t') : OB w0 l bf bu bm bp t' s w :=
  { h with hf := h.hf.more ht, hu := h.hu.more ht, hm := h.hm.more ht, sets := fun i hi => ⟨(h.sets i hi).1, (h.sets i hi).2.more ht⟩ }
/-- A block with a role is new in this call. -/
theorem OB.base (h : OB w0 l bf bu bm bp t s w) {k : Nat} {r : Role} (hk : s.ρ k = r) (hr : r ≠ .none) : w0.heap.size ≤ k := by
  rcases Nat.lt_or_ge k w0.heap.size with h' | h'
  · exact absurd (hk.symm.trans (h.old k h')) hr
  · exact h'
theorem OB.lt (h : OB w0 l bf bu bm bp t s w) {k : Nat} {r : Role} (hk : s.ρ k = r) (hr : r ≠ .none) : k < w.heap.size := by
  rcases Nat.lt_or_ge k w.heap.size with h' | h'
  · exact h'
  · exact absurd (hk.symm.trans (h.fresh k h')) hr
/-- The same roles, seen as apart. -/
theorem apart {ρ : Nat → Role} {a b : Nat} {r q : Role} (ha : ρ a = r) (hb : ρ b = q) (h : r ≠ q) : a ∉ [b] := by
  intro hm
  simp only [List.mem_singleton] at hm
  subst hm
  exact h (ha.symm.trans hb)
/-- A new set for i. -/
def St.newSet (s : St) (i b : Nat) : St := { s with ρ := upN s.ρ b (.mset i), mb := upN s.mb i b, S := fun j => j = i ∨ s.S j, M := upN s.M i fun _ => False }
theorem missF_congr {D : Nat → Prop} {mb mb' : Nat → Nat} (h2 : ∀ i, D i → mb i = mb' i) : missF D mb = missF D mb' := by
  funext i
  unfold missF
  by_cases hd : D i
  · rw [if_pos hd, if_pos hd, h2 i hd]
  · rw [if_neg hd, if_neg hd]
theorem memF_false (s : ByteArray) : memF (fun _ => False) s = none := by simp [memF]
theorem OB.newSet (h : OB w0 l bf bu bm bp t s w) {i : Nat} (hi : ¬ s.S i) : OB w0 l bf bu bm bp t (s.newSet i w.heap.size) (w.alloc (.map #[] 0)) := by
  have h' := h.extd ((Ext.refl w).alloc (.map #[] 0))
  have ne : ∀ k r, s.ρ k = r → r ≠ .none → upN s.ρ w.heap.size (.mset i) k = r := fun k r h1 h2 => by
    rw [upN_other _ _ (fun e => h2 (by rw [← h1, e]; exact h.fresh _ (Nat.le_refl _)))]; exact h1
  exact { h' with
    fresh := fun k hk => by
      simp at hk
      show upN s.ρ w.heap.size (.mset i) k = .none
      rw [upN_other _ _ (by omega)]; exact h.fresh k (by omega)
    old := fun k hk => by
      show upN s.ρ w.heap.size (.mset i) k = .none
      rw [upN_other _ _ (by have := h.ext.size; omega)]; exact h.old k hk
    rf := ne _ _ h.rf (by simp)
    ru := ne _ _ h.ru (by simp)
    rows := fun x v hv => ⟨(h'.rows x v hv).1, fun g hg => ne _ _ ((h'.rows x v hv).2 g hg) (by simp)⟩
    rm := ne _ _ h.rm (by simp)
    hm := by
      have e : missF s.D (upN s.mb i w.heap.size) = missF s.D s.mb := missF_congr fun j hj => upN_other _ _ fun e => hi (by rw [← e]; exact h.dom j hj)
      show MapAt _ _ _ _ (intF (missF s.D (upN s.mb i w.heap.size)))
      rw [e]; exact h'.hm
    dom := fun j hj => Or.inr (h.dom j hj)
    sets := fun j hj => by
      by_cases e : j = i
      · subst e
        refine ⟨?_, ?_⟩
        · show upN s.ρ w.heap.size (.mset j) (upN s.mb j w.heap.size j) = _
          rw [upN_same, upN_same]
        · show MapAt _ _ (upN s.mb j w.heap.size j) _ (strF (memF (upN s.M j (fun _ => False) j)))
          rw [upN_same, upN_same]
          refine ((MapAt.made w _).more (Nat.zero_le t)).congr fun x => ?_
          cases x <;> simp [strF, memF_false]
      · have hj' : s.S j := hj.resolve_left e
        refine ⟨?_, ?_⟩
        · show upN s.ρ w.heap.size (.mset i) (upN s.mb i w.heap.size j) = _
          rw [upN_other s.mb _ e]
          exact ne _ _ (h.sets j hj').1 (by simp)
        · show MapAt _ _ (upN s.mb i w.heap.size j) _ (strF (memF (upN s.M i (fun _ => False) j)))
          rw [upN_other _ _ e, upN_other _ _ e]
          exact (h'.sets j hj').2
    rp := ne _ _ h.rp (by simp)
    rpv := fun g hg => ne _ _ (h.rpv g hg) (by simp)
    rv := fun g hg => ne _ _ (h.rv g hg) (by simp) }
/-- The names of the set of i change. -/
def St.setM (s : St) (i : Nat) (m : ByteArray → Prop) : St := { s with M := upN s.M i m }
theorem OB.setM (h : OB w0 l bf bu bm bp t s w) {i : Nat} (hi : s.S i) {m : ByteArray → Prop} (hc : Chg [s.mb i] w w') (hm : MapAt w' 9 (s.mb i) t (strF (memF m))) : OB w0 l bf bu bm bp t (s.setM i m) w' := by
  have hr := (h.sets i hi).1
  exact { h with
    ext := hc.ext h.ext (fun k hk => by simp only [List.mem_singleton] at hk; subst hk; exact h.base hr (by simp))
    fresh := fun k hk => h.fresh k (Nat.le_trans hc.size hk)
    hf := h.hf.chg hc (apart h.rf hr (by simp))
    hu := h.hu.chg hc (apart h.ru hr (by simp))
    rows := fun x v hv => ⟨owns_chg (h.rows x v hv).1 hc fun g hg => apart ((h.rows x v hv).2 g hg) hr (by simp), (h.rows x v hv).2⟩
    hm := h.hm.chg hc (apart h.rm hr (by simp))
    sets := fun j hj => by
      by_cases e : j = i
      · subst e
        refine ⟨hr, ?_⟩
        show MapAt _ _ _ _ (strF (memF (upN s.M j m j)))
        rw [upN_same]; exact hm
      · refine ⟨(h.sets j hj).1, ?_⟩
        show MapAt _ _ _ _ (strF (memF (upN s.M i m j)))
        rw [upN_other _ _ e]
        exact (h.sets j hj).2.chg hc (apart (h.sets j hj).1 hr (by simpa using e))
    hp := h.hp.chg hc (apart h.rp hr (by simp)) fun g hg => apart (h.rpv g hg) hr (by simp)
    hv := owns_chg h.hv hc fun g hg => apart (h.rv g hg) hr (by simp) }
/-- missing[i] is set. -/
def St.setD (s : St) (i : Nat) : St := { s with D := fun j => j = i ∨ s.D j }
theorem OB.setD (h : OB w0 l bf bu bm bp t s w) {i : Nat} (hi : s.S i) (hc : Chg [bm] w w') (hm : MapAt w' 3 bm (t + 1) (intF (upN (missF s.D s.mb) i (some (.map (some (s.mb i))))))) : OB w0 l bf bu bm bp (t + 1) (s.setD i) w' := by
  have hr := h.rm
  have h1 := h.more (Nat.le_succ t)
  exact { h1 with
    ext := hc.ext h.ext (fun k hk => by simp only [List.mem_singleton] at hk; subst hk; exact h.base hr (by simp))
    fresh := fun k hk => h.fresh k (Nat.le_trans hc.size hk)
    hf := h1.hf.chg hc (apart h.rf hr (by simp))
    hu := h1.hu.chg hc (apart h.ru hr (by simp))
    rows := fun x v hv => ⟨owns_chg (h.rows x v hv).1 hc fun g hg => apart ((h.rows x v hv).2 g hg) hr (by simp), (h.rows x v hv).2⟩
    hm := by
      refine hm.congr fun x => ?_
      have e : upN (missF s.D s.mb) i (some (.map (some (s.mb i)))) = missF (fun j => j = i ∨ s.D j) s.mb := by
        funext j
        by_cases e : j = i
        · subst e; rw [upN_same]; simp [missF]
        · rw [upN_other _ _ e]
          by_cases hd : s.D j <;> simp [missF, e, hd]
      show _ = intF (missF (fun j => j = i ∨ s.D j) s.mb) x
      rw [e]
    dom := fun j hj => by
      rcases hj with rfl | hj
      · exact hi
      · exact h.dom j hj
    sets := fun j hj => ⟨(h1.sets j hj).1, (h1.sets j hj).2.chg hc (apart (h.sets j hj).1 hr (by simp))⟩
    hp := h.hp.chg hc (apart h.rp hr (by simp)) fun g hg => apart (h.rpv g hg) hr (by simp)
    hv := owns_chg h.hv hc fun g hg => apart (h.rv g hg) hr (by simp) }
theorem apart2 {ρ : Nat → Role} {a b : Nat} {v : Value} {r q q' : Role} (ha : ρ a = r) (hb : ρ b = q) (hv : ∀ g, v.ownBlock = some g → ρ g = q') (h : r ≠ q) (h' : r ≠ q') : a ∉ b :: rowOf v := by
  intro hm
  rcases List.mem_cons.1 hm with rfl | hm
  · exact h (ha.symm.trans hb)
  · exact h' (ha.symm.trans (hv a (mem_rowOf.1 hm)))
/-- The roles after a row has moved to a new block. -/
def rerole (ρ : Nat → Role) (v : Value) (r : Role) : Nat → Role := fun k => match v.ownBlock with | some g => if k = g then r else ρ k | none => ρ k
theorem rerole_own (ρ : Nat → Role) {v : Value} {r : Role} {g : Nat} (h : v.ownBlock = some g) : rerole ρ v r g = r := by simp [rerole, h]
theorem rerole_other (ρ : Nat → Role) {v : Value} {r : Role} {k : Nat} (h : ∀ g, v.ownBlock = some g → k ≠ g) : rerole ρ v r k = ρ k := by
  unfold rerole
  cases hv : v.ownBlock with
  | none => rfl
  | some g => simp [h g hv]
/-- A block with another role keeps it: the row lies where it lay, or in a new block. -/
theorem rerole_keep {ρ : Nat → Role} {v v' : Value} {r q : Role} {n k : Nat} (hk : ρ k = q) (hq : q ≠ r) (hq0 : q ≠ .none) (hv : ∀ g, v.ownBlock = some g → ρ g = r) (hfresh : ∀ k, n ≤ k → ρ k = .none) (hw : ∀ g, v'.ownBlock = some g → v.ownBlock = some g ∨ n ≤ g) : rerole ρ v' r k = q := by
  rw [rerole_other, hk]
  intro g hg e
  subst e
  rcases hw k hg with h | h
  · exact hq (hk.symm.trans (hv k h))
  · exact hq0 (hk.symm.trans (hfresh k h))
/-- The pile has changed. -/
def St.setP (s : St) (pv : Value) (R : List Int) : St := { s with ρ := rerole s.ρ pv .prow, pv := pv, R := R }
theorem OB.setP (h : OB w0 l bf bu bm bp t s w) {pv : Value} {R : List Int} (hp : PileV w0.heap.size bp pv R w') (hc : Chg (bp :: rowOf s.pv) w w') (hw : ∀ k, pv.ownBlock = some k → s.pv.ownBlock = some k ∨ w.heap.size ≤ k) : OB w0 l bf bu bm bp t (s.setP pv R) w' := by
  have kp : ∀ {k q}, s.ρ k = q → q ≠ .prow → q ≠ .none → rerole s.ρ pv .prow k = q := fun hk h1 h2 => rerole_keep hk h1 h2 h.rpv h.fresh hw
  have hlt : ∀ g, pv.ownBlock = some g → w0.heap.size ≤ g ∧ g < w'.heap.size := fun g hg => hp.own.lt g hg
  exact { h with
    ext := hc.ext h.ext (fun k hk => by
      rcases List.mem_cons.1 hk with rfl | hk
      · exact h.base h.rp (by simp)
      · exact h.base (h.rpv k (mem_rowOf.1 hk)) (by simp))
    fresh := fun k hk => by
      show rerole s.ρ pv .prow k = .none
      rw [rerole_other _ (fun g hg => by have := (hlt g hg).2; omega)]
      exact h.fresh k (Nat.le_trans hc.size hk)
    old := fun k hk => by
      show rerole s.ρ pv .prow k = .none
      rw [rerole_other _ (fun g hg => by have := (hlt g hg).1; omega)]
      exact h.old k hk
    rf := kp h.rf (by simp) (by simp)
    hf := h.hf.chg hc (apart2 h.rf h.rp h.rpv (by simp) (by simp))
    ru := kp h.ru (by simp) (by simp)
    hu := h.hu.chg hc (apart2 h.ru h.rp h.rpv (by simp) (by simp))
    rows := fun x v hv => ⟨owns_chg (h.rows x v hv).1 hc fun g hg => apart2 ((h.rows x v hv).2 g hg) h.rp h.rpv (by simp) (by simp), fun g hg => kp ((h.rows x v hv).2 g hg) (by simp) (by simp)⟩
    rm := kp h.rm (by simp) (by simp)
    hm := h.hm.chg hc (apart2 h.rm h.rp h.rpv (by simp) (by simp))
    sets := fun j hj => ⟨kp (h.sets j hj).1 (by simp) (by simp), (h.sets j hj).2.chg hc (apart2 (h.sets j hj).1 h.rp h.rpv (by simp) (by simp))⟩
    rp := kp h.rp (by simp) (by simp)
    hp := hp
    rpv := fun g hg => rerole_own _ hg
    hv := owns_chg h.hv hc fun g hg => apart2 (h.rv g hg) h.rp h.rpv (by simp) (by simp)
    rv := fun g hg => kp (h.rv g hg) (by simp) (by simp) }
theorem apartV {ρ : Nat → Role} {a : Nat} {v : Value} {r q : Role} (ha : ρ a = r) (hv : ∀ g, v.ownBlock = some g → ρ g = q) (h : r ≠ q) : a ∉ rowOf v := fun hm => h (ha.symm.trans (hv a (mem_rowOf.1 hm)))
/-- The order grows. -/
def St.setO (s : St) (vo : Value) (O : List Nat) : St := { s with ρ := rerole s.ρ vo .out, vo := vo, O := O }
theorem OB.setO (h : OB w0 l bf bu bm bp t s w) {vo : Value} {O : List Nat} (hv : w'.ownsRow w0.heap.size 3 1 vo O.length (natVs O)) (hc : Chg (rowOf s.vo) w w') (hw : ∀ k, vo.ownBlock = some k → s.vo.ownBlock = some k ∨ w.heap.size ≤ k) : OB w0 l bf bu bm bp t (s.setO vo O) w' := by
  have kp : ∀ {k q}, s.ρ k = q → q ≠ .out → q ≠ .none → rerole s.ρ vo .out k = q := fun hk h1 h2 => rerole_keep hk h1 h2 h.rv h.fresh hw
  have hlt : ∀ g, vo.ownBlock = some g → w0.heap.size ≤ g ∧ g < w'.heap.size := fun g hg => hv.lt g hg
  exact { h with
    ext := hc.ext h.ext (fun k hk => h.base (h.rv k (mem_rowOf.1 hk)) (by simp))
    fresh := fun k hk => by
      show rerole s.ρ vo .out k = .none
      rw [rerole_other _ (fun g hg => by have := (hlt g hg).2; omega)]
      exact h.fresh k (Nat.le_trans hc.size hk)
    old := fun k hk => by
      show rerole s.ρ vo .out k = .none
      rw [rerole_other _ (fun g hg => by have := (hlt g hg).1; omega)]
      exact h.old k hk
    rf := kp h.rf (by simp) (by simp)
    hf := h.hf.chg hc (apartV h.rf h.rv (by simp))
    ru := kp h.ru (by simp) (by simp)
    hu := h.hu.chg hc (apartV h.ru h.rv (by simp))
    rows := fun x v hv' => ⟨owns_chg (h.rows x v hv').1 hc fun g hg => apartV ((h.rows x v hv').2 g hg) h.rv (by simp), fun g hg => kp ((h.rows x v hv').2 g hg) (by simp) (by simp)⟩
    rm := kp h.rm (by simp) (by simp)
    hm := h.hm.chg hc (apartV h.rm h.rv (by simp))
    sets := fun j hj => ⟨kp (h.sets j hj).1 (by simp) (by simp), (h.sets j hj).2.chg hc (apartV (h.sets j hj).1 h.rv (by simp))⟩
    rp := kp h.rp (by simp) (by simp)
    hp := h.hp.chg hc (apartV h.rp h.rv (by simp)) fun g hg => apartV (h.rpv g hg) h.rv (by simp)
    rpv := fun g hg => kp (h.rpv g hg) (by simp) (by simp)
    hv := hv
    rv := fun g hg => rerole_own _ hg }
/-- users[x] has grown: its row first, then the map. -/
noncomputable def St.setU (s : St) (x : ByteArray) (v : Value) (u : List Nat) : St := { s with ρ := rerole s.ρ v (.urow x), uv := upS s.uv x (some v), U := upS s.U x u }
def rowV (s : St) (x : ByteArray) : Value := (s.uv x).getD (.slice none 0 0)
theorem OB.rowV_role (h : OB w0 l bf bu bm bp t s w) (x : ByteArray) : ∀ g, (rowV s x).ownBlock = some g → s.ρ g = .urow x := by
  intro g hg
  unfold rowV at hg
  cases hu : s.uv x with
  | none => rw [hu] at hg; simp [Value.ownBlock] at hg
  | some v => rw [hu] at hg; exact (h.rows x v hu).2 g hg
theorem OB.rowV_own (h : OB w0 l bf bu bm bp t s w) (x : ByteArray) : w.ownsRow w0.heap.size 3 1 (rowV s x) (s.U x).length (natVs (s.U x)) := by
  unfold rowV
  cases hu : s.uv x with
  | none => rw [h.rown x hu]; exact World.ownsRow_nil _ _ _ _
  | some v => exact (h.rows x v hu).1
theorem OB.setU (h : OB w0 l bf bu bm bp t s w) {x : ByteArray} {v : Value} {u : List Nat} {w1 : World} (hv : w1.ownsRow w0.heap.size 3 1 v u.length (natVs u)) (hc : Chg (rowOf (rowV s x)) w w1) (hw : ∀ k, v.ownBlock = some k → (rowV s x).ownBlock = some k ∨ w.heap.size ≤ k)
    (hc2 : Chg [bu] w1 w') (hm : MapAt w' 9 bu (t + 1) (strF (upS s.uv x (some v)))) : OB w0 l bf bu bm bp (t + 1) (s.setU x v u) w' := by
  have hR := h.rowV_role x
  have kp : ∀ {k q}, s.ρ k = q → q ≠ .urow x → q ≠ .none → rerole s.ρ v (.urow x) k = q := fun hk h1 h2 => rerole_keep hk h1 h2 hR h.fresh hw
  have hlt : ∀ g, v.ownBlock = some g → w0.heap.size ≤ g ∧ g < w1.heap.size := fun g hg => hv.lt g hg
  have hbu : ∀ g, v.ownBlock = some g → g ∉ [bu] := fun g hg hm => by
    simp only [List.mem_singleton] at hm
    subst hm
    rcases hw g hg with h1 | h1
    · exact absurd (h.ru.symm.trans (hR g h1)) (by simp)
    · exact absurd (h.ru.symm.trans (h.fresh g h1)) (by simp)
  have hcc : Chg (bu :: rowOf (rowV s x)) w w' := Chg.trans (Chg.trans (Chg.refl _ _) hc (fun k hk => Or.inl (List.mem_cons_of_mem _ hk))) hc2 (fun k hk => Or.inl (by simp only [List.mem_singleton] at hk; simp [hk]))
  have h1 := h.more (Nat.le_succ t)
  exact { h1 with
    ext := hcc.ext h.ext (fun k hk => by
      rcases List.mem_cons.1 hk with rfl | hk
      · exact h.base h.ru (by simp)
      · exact h.base (hR k (mem_rowOf.1 hk)) (by simp))
    fresh := fun k hk => by
      show rerole s.ρ v (.urow x) k = .none
      have := hc2.size
      rw [rerole_other _ (fun g hg => by have := (hlt g hg).2; omega)]
      exact h.fresh k (Nat.le_trans hcc.size hk)
    old := fun k hk => by
      show rerole s.ρ v (.urow x) k = .none
      rw [rerole_other _ (fun g hg => by have := (hlt g hg).1; omega)]
      exact h.old k hk
    rf := kp h.rf (by simp) (by simp)
    hf := h1.hf.chg hcc (apart2 h.rf h.ru hR (by simp) (by simp))
    ru := kp h.ru (by simp) (by simp)
    hu := hm
    rows := fun y u' hy => by
      by_cases e : y = x
      · subst e
        have e1 : upS s.uv y (some v) y = some v := upS_same _ _ _
        have e2 : some v = some u' := e1.symm.trans hy
        cases e2
        refine ⟨?_, fun g hg => rerole_own _ hg⟩
        show World.ownsRow _ _ _ _ _ (upS s.U y u y).length (natVs (upS s.U y u y))
        rw [upS_same]
        exact owns_chg hv hc2 hbu
      · have e1 : s.uv y = some u' := (upS_other s.uv (some v) e).symm.trans hy
        obtain ⟨r1, r2⟩ := h.rows y u' e1
        refine ⟨?_, fun g hg => kp (r2 g hg) (by simpa using e) (by simp)⟩
        show World.ownsRow _ _ _ _ _ (upS s.U x u y).length (natVs (upS s.U x u y))
        rw [upS_other _ _ e]
        exact owns_chg r1 hcc fun g hg => apart2 (r2 g hg) h.ru hR (by simp) (by simpa using e)
    rown := fun y hy => by
      by_cases e : y = x
      · subst e
        have e1 : upS s.uv y (some v) y = some v := upS_same _ _ _
        have e2 : some v = none := e1.symm.trans hy
        cases e2
      · have e1 : s.uv y = none := (upS_other s.uv (some v) e).symm.trans hy
        show upS s.U x u y = []
        rw [upS_other _ _ e]
        exact h.rown y e1
    rm := kp h.rm (by simp) (by simp)
    hm := h1.hm.chg hcc (apart2 h.rm h.ru hR (by simp) (by simp))
    sets := fun j hj => ⟨kp (h.sets j hj).1 (by simp) (by simp), (h1.sets j hj).2.chg hcc (apart2 (h.sets j hj).1 h.ru hR (by simp) (by simp))⟩
    rp := kp h.rp (by simp) (by simp)
    hp := h.hp.chg hcc (apart2 h.rp h.ru hR (by simp) (by simp)) fun g hg => apart2 (h.rpv g hg) h.ru hR (by simp) (by simp)
    rpv := fun g hg => kp (h.rpv g hg) (by simp) (by simp)
    hv := owns_chg h.hv hcc fun g hg => apart2 (h.rv g hg) h.ru hR (by simp) (by simp)
    rv := fun g hg => kp (h.rv g hg) (by simp) (by simp) }
end
end Go.Proofs.Ytfjlglefodndjaa

namespace Go.Proofs.Ytfjlglefodndjaa
open Go.RowKit Go.Maps

mutual
/-- The names that are used, as they are met. -/
def namesE : Ex → List ByteArray
  | .mk op name _ _ _ args => (if op = 3 then [name] else []) ++ namesL args
def namesL : List Ex → List ByteArray
  | [] => []
  | e :: r => namesE e ++ namesL r
end
theorem namesE_eq (e : Ex) : namesE e = (if e.op = 3 then [e.name] else []) ++ namesL e.args := by cases e; rw [namesE]; rfl
theorem namesL_snoc (l : List Ex) (e : Ex) : namesL (l ++ [e]) = namesL l ++ namesE e := by
  induction l with
  | nil => simp [namesL]
  | cons a r ih => simp [namesL, ih]
theorem namesL_take (l : List Ex) (k : Nat) (h : k < l.length) : namesL (l.take (k + 1)) = namesL (l.take k) ++ namesE l[k] := by
  rw [List.take_succ_eq_append_getElem h, namesL_snoc]

/-- A map that is the set of these names. -/
def SetIs (D : DataW Unit) (l : List ByteArray) : Prop := ∃ es, D = .map es ∧ (∀ p ∈ es, ∃ s, p.1 = .string s) ∧ (strKeys D).Nodup ∧ ∀ s, s ∈ strKeys D ↔ ∃ x ∈ l, x.data.toList = s
theorem setIs_nil : SetIs (.map []) [] := ⟨[], rfl, by simp, by simp [strKeys], by simp [strKeys]⟩
theorem insert_perm {H : Type} (x : Lit × DataW H) : (l : List (Lit × DataW H)) → (DataW.insert x l).Perm (x :: l)
  | [] => List.Perm.refl _
  | y :: r => by
    rw [DataW.insert]
    split
    · exact List.Perm.refl _
    · exact ((insert_perm x r).cons y).trans (List.Perm.swap x y r)
theorem SetIs.put {D : DataW Unit} {l : List ByteArray} (h : SetIs D l) (x : ByteArray) (d : DataW Unit) : SetIs (D.put (.string x.data.toList) d) (l ++ [x]) := by
  obtain ⟨es, rfl, hs, hn, hm⟩ := h
  have hp := insert_perm ((.string x.data.toList, d) : Lit × DataW Unit) (es.filter fun p => !p.1.sameKey (.string x.data.toList))
  have hk : (strKeys (DataW.put (.map es) (.string x.data.toList) d)).Perm (x.data.toList :: strKeys (H := Unit) (.map (es.filter fun p => !p.1.sameKey (.string x.data.toList)))) := by
    simp only [DataW.put, strKeys]
    exact hp.map _
  have hf : ∀ s, s ∈ strKeys (H := Unit) (.map (es.filter fun p => !p.1.sameKey (.string x.data.toList))) ↔ s ∈ strKeys (H := Unit) (.map es) ∧ s ≠ x.data.toList := by
    intro s
    simp only [strKeys, List.mem_map, List.mem_filter]
    constructor
    · rintro ⟨p, ⟨h1, h2⟩, rfl⟩
      obtain ⟨t, ht⟩ := hs p h1
      refine ⟨⟨p, h1, rfl⟩, fun e => ?_⟩
      rw [ht] at h2 e
      simp only [strOf] at e
      subst e
      simp [Lit.sameKey] at h2
    · rintro ⟨⟨p, h1, rfl⟩, h2⟩
      obtain ⟨t, ht⟩ := hs p h1
      refine ⟨p, ⟨h1, ?_⟩, rfl⟩
      rw [ht] at h2 ⊢
      simp only [strOf] at h2
      simpa [Lit.sameKey] using h2
  refine ⟨_, rfl, fun p hp' => ?_, ?_, fun s => ?_⟩
  · have := hp.mem_iff.1 hp'
    rcases List.mem_cons.1 this with rfl | h1
    · exact ⟨_, rfl⟩
    · exact hs p (List.mem_filter.1 h1).1
  · rw [hk.nodup_iff, List.nodup_cons]
    refine ⟨fun h => ((hf _).1 h).2 rfl, ?_⟩
    have : (strKeys (H := Unit) (.map (es.filter fun p => !p.1.sameKey (.string x.data.toList)))).Sublist (strKeys (H := Unit) (.map es)) := by
      simp only [strKeys]
      exact (List.filter_sublist).map _
    exact hn.sublist this
  · rw [hk.mem_iff, List.mem_cons, hf, hm]
    constructor
    · rintro (rfl | ⟨⟨y, h1, h2⟩, _⟩)
      · exact ⟨x, by simp, rfl⟩
      · exact ⟨y, by simp [h1], h2⟩
    · rintro ⟨y, h1, rfl⟩
      rcases List.mem_append.1 h1 with h1 | h1
      · by_cases e : y.data.toList = x.data.toList
        · exact Or.inl e
        · exact Or.inr ⟨⟨y, h1, rfl⟩, e⟩
      · rw [List.mem_singleton.1 h1]; exact Or.inl rfl

/-- The reference's put: a string into an ascending list. -/
def putL (s : ByteArray) : List ByteArray → List ByteArray
  | [] => [s]
  | x :: r => if s.toList < x.toList then s :: x :: r else if s.toList = x.toList then x :: r else x :: putL s r
def refNames (l : List ByteArray) : List ByteArray := l.foldl (fun l s => putL s l) []
def Up (l : List ByteArray) : Prop := l.Pairwise (fun a b => a.toList < b.toList)
theorem lt_or {a b : List UInt8} (h1 : ¬ a < b) (h2 : a ≠ b) : b < a := by
  by_cases h : b < a
  · exact h
  · exact absurd (List.le_antisymm (List.not_lt.1 h) (List.not_lt.1 h1)) h2
theorem putL_mem (s y : ByteArray) : (l : List ByteArray) → (y ∈ putL s l ↔ y = s ∨ y ∈ l)
  | [] => by simp [putL]
  | x :: r => by
    rw [putL]
    split
    · simp
    · split
      · rename_i h1 h2
        have := toList_inj h2
        subst this
        simp
      · simp only [List.mem_cons, putL_mem s y r]
        constructor
        · rintro (h | h | h)
          · exact Or.inr (Or.inl h)
          · exact Or.inl h
          · exact Or.inr (Or.inr h)
        · rintro (h | h | h)
          · exact Or.inr (Or.inl h)
          · exact Or.inl h
          · exact Or.inr (Or.inr h)
theorem putL_up (s : ByteArray) : (l : List ByteArray) → Up l → Up (putL s l)
  | [], _ => by simp [putL, Up]
  | x :: r, h => by
    obtain ⟨h1, h2⟩ := List.pairwise_cons.1 h
    rw [putL]
    split
    · rename_i hlt
      refine List.pairwise_cons.2 ⟨fun y hy => ?_, h⟩
      rcases List.mem_cons.1 hy with rfl | hy
      · exact hlt
      · exact List.lt_trans hlt (h1 y hy)
    · split
      · exact h
      · rename_i n1 n2
        refine List.pairwise_cons.2 ⟨fun y hy => ?_, putL_up s r h2⟩
        rcases (putL_mem s y r).1 hy with rfl | hy
        · exact lt_or n1 n2
        · exact h1 y hy
theorem fold_up (m : List ByteArray) : ∀ l, Up l → Up (m.foldl (fun l s => putL s l) l) := by
  induction m with
  | nil => intro l h; exact h
  | cons a r ih => intro l h; exact ih _ (putL_up a l h)
theorem fold_mem (m : List ByteArray) : ∀ l y, y ∈ m.foldl (fun l s => putL s l) l ↔ y ∈ m ∨ y ∈ l := by
  induction m with
  | nil => intro l y; simp
  | cons a r ih =>
    intro l y
    rw [List.foldl_cons, ih, putL_mem, List.mem_cons]
    constructor
    · rintro (h | h | h)
      · exact Or.inl (Or.inr h)
      · exact Or.inl (Or.inl h)
      · exact Or.inr h
    · rintro ((h | h) | h)
      · exact Or.inr (Or.inl h)
      · exact Or.inl h
      · exact Or.inr (Or.inr h)
theorem refNames_up (l : List ByteArray) : Up (refNames l) := fold_up l [] (by simp [Up])
theorem refNames_mem (l : List ByteArray) (y : ByteArray) : y ∈ refNames l ↔ y ∈ l := by rw [refNames, fold_mem]; simp
theorem putL_len (s : ByteArray) : (l : List ByteArray) → (putL s l).length ≤ l.length + 1
  | [] => by simp [putL]
  | x :: r => by
    have := putL_len s r
    rw [putL]
    split
    · simp
    · split <;> simp <;> omega
theorem fold_len (m : List ByteArray) : ∀ l : List ByteArray, (m.foldl (fun l s => putL s l) l).length ≤ m.length + l.length := by
  induction m with
  | nil => intro l; simp
  | cons a r ih => intro l; have := ih (putL a l); have := putL_len a l; simp only [List.foldl_cons, List.length_cons]; omega
/-- What the program's Names hands back is what the reference's does. -/
theorem names_same {D : DataW Unit} {l : List ByteArray} {ss : List (List UInt8)} (h : SetIs D l) (hp : ss.Perm (strKeys D)) : (ss.mergeSort (fun x y => decide (x ≤ y))) = (refNames l).map (·.data.toList) := by
  obtain ⟨es, rfl, hs, hn, hm⟩ := h
  have tr : ∀ a b c : List UInt8, decide (a ≤ b) = true → decide (b ≤ c) = true → decide (a ≤ c) = true := fun a b c h1 h2 => by simp only [decide_eq_true_eq] at *; exact List.le_trans h1 h2
  have tto : ∀ a b : List UInt8, (decide (a ≤ b) || decide (b ≤ a)) = true := fun a b => by simp only [Bool.or_eq_true, decide_eq_true_eq]; exact List.le_total a b
  have hu := refNames_up l
  have eL : ∀ x : ByteArray, x.toList = x.data.toList := fun x => ByteArray.toList_eq x
  have hup : ((refNames l).map (·.data.toList)).Pairwise (fun a b => a < b) := by
    refine List.pairwise_map.2 (hu.imp fun {a b} h => ?_)
    rwa [eL, eL] at h
  have hnd : ((refNames l).map (·.data.toList)).Nodup := hup.imp fun {a b} h e => by subst e; exact List.lt_irrefl _ h
  have hperm : ((refNames l).map (·.data.toList)).Perm (strKeys (H := Unit) (.map es)) := by
    refine (List.perm_ext_iff_of_nodup hnd hn).2 fun s => ?_
    rw [hm, List.mem_map]
    constructor
    · rintro ⟨x, hx, rfl⟩; exact ⟨x, (refNames_mem l x).1 hx, rfl⟩
    · rintro ⟨x, hx, rfl⟩; exact ⟨x, (refNames_mem l x).2 hx, rfl⟩
  refine List.Perm.eq_of_pairwise (le := fun a b => decide (a ≤ b) = true) (fun a b _ _ h1 h2 => ?_) (List.pairwise_mergeSort tr tto ss) (hup.imp fun {a b} h => ?_) (((List.mergeSort_perm ss _).trans hp).trans hperm.symm)
  · simp only [decide_eq_true_eq] at h1 h2; exact List.le_antisymm h1 h2
  · simp only [decide_eq_true_eq]; exact List.le_of_lt h
end Go.Proofs.Ytfjlglefodndjaa

namespace Go.Proofs.Ytfjlglefodndjaa
open Go.RowKit

structure Lvl where
  nots : Nat
  ands : List Part
  ors : List Part
structure LvlV where
  nots : Nat
  va : Value
  vo : Value
def LvlV.cells (l : LvlV) : List Value := [.int .i64 l.nots, l.va, l.vo]
def LvlV.rows (l : LvlV) : List Nat := rowOf l.va ++ rowOf l.vo
def sumPot : List Part → Nat
  | [] => 0
  | p :: r => p.size + 1 + sumPot r
def Lvl.pot (l : Lvl) : Nat := l.nots + sumPot l.ands + sumPot l.ors
def potAll : List Lvl → Nat
  | [] => 0
  | l :: r => l.pot + potAll r

end Go.Proofs.Ytfjlglefodndjaa

namespace Go.Proofs.Ytfjlglefodndjaa
open Go.RowKit

theorem flatMap_snoc (l : List LvlV) (x : LvlV) : (l ++ [x]).flatMap LvlV.cells = l.flatMap LvlV.cells ++ x.cells := by simp
theorem rows_snoc (l : List LvlV) (x : LvlV) : (l ++ [x]).flatMap LvlV.rows = l.flatMap LvlV.rows ++ x.rows := by simp
theorem set_last (l : List LvlV) (x : LvlV) (j : Nat) (u : Value) : ((l ++ [x]).flatMap LvlV.cells).set (l.length * 3 + j) u = l.flatMap LvlV.cells ++ x.cells.set j u := by
  rw [flatMap_snoc]
  have hl := length_flatMap_of LvlV.cells 3 (fun _ => rfl) l
  rw [List.set_append_right _ _ (by omega), hl]
  congr 1
  congr 1
  omega

end Go.Proofs.Ytfjlglefodndjaa

namespace Go.Proofs.Ytfjlglefodndjaa
open Go.RowKit

/-- append, as one step of a region that draws its order. -/
theorem step_append1 {t e : TypeId} {z : Value} {size bytes : Nat} (E : ElemT t e z size bytes) {ops : Array Oper} {o : Oper} {a : Act} {K : Act → World → Prop} {Q : Exit → Act → World → Prop} {Z : Prop} {W : World}
    (hgd : o.guard = none) (s x : Operand) (ho : o.op = .call { callee := .builtin .append, args := #[s, x], argTypes := #[t, t] }) (base : Nat) (v : Value) (n : Nat) (xs : List Value) (hs : a.eval s = v)
    (B m c : Nat) (news : List Value) (hx : a.eval x = .slice (some ⟨B, 0, none⟩) m c) (hl : news.length = m * size) (h1 : ∀ u ∈ news, u.oneCell' = true) (hm : 0 < m) (hn : n + m ≤ 100000000) (hb : bytes ≤ 1000) (H : Nat)
    (hown : W.ownsRow base e size v n xs) (hnews : ∀ j (h : j < news.length), W.cell? ⟨B, j, none⟩ = some news[j]) (hbase : base ≤ W.heap.size) (hH : W.heap.size = H)
    (h : ∀ g cap w', w'.ownsRow base e size (.slice (some ⟨g, 0, none⟩) (n + m) cap) (n + m) (xs ++ news) → W.grownBy w' v.ownBlock → (v.ownBlock = some g ∨ g = H) → g < w'.heap.size → K (a.put o.dst (.slice (some ⟨g, 0, none⟩) (n + m) cap)) w') :
    if Region.wanted o (yielded ops a.tmps) = true then Oper.wp Try.prog o a W K Q else Z := by
  obtain ⟨i, hi, hz, hsz, hby⟩ := info_parts E.info
  refine step_append_lies W hgd s x t ho base e i z size bytes E.ht hi hz hsz hby E.hzs E.hsz v n xs hs hown ⟨B, 0, none⟩ m c news hx hl ?_ h1 hm (by simp only [maxLen]; omega) ?_ hbase H hH h
  · intro j u hu
    obtain ⟨hj, rfl⟩ := List.getElem?_eq_some_iff.1 hu
    have : (⟨B, 0, none⟩ : Addr).add j = ⟨B, j, none⟩ := by unfold Addr.add; split <;> simp_all
    rw [this]
    exact hnews j hj
  · calc (n + m) * bytes ≤ 100000000 * 1000 := Nat.mul_le_mul hn hb
      _ ≤ 140737488355328 := by omega

def itF : Nat → Part → Part
  | 0, p => p
  | n + 1, p => composedF 6 [itF n p]
theorem itF_size (n : Nat) (p : Part) : (itF n p).size = p.size + n := by
  induction n with
  | zero => rfl
  | succ n ih => rw [itF, composedF]; split <;> simp [sumSize, ih] <;> omega
theorem itF_tidy (n : Nat) (p : Part) (h : p.depth ≤ p.size) : (itF n p).depth ≤ (itF n p).size := by
  induction n with
  | zero => exact h
  | succ n ih => rw [itF, composedF]; split <;> simp [sumSize, maxDepth] <;> omega

theorem potAll_snoc (l : List Lvl) (t : Lvl) : potAll (l ++ [t]) = potAll l + t.pot := by
  induction l with
  | nil => simp [potAll]
  | cons a r ih => simp [potAll, ih]; omega
theorem sumPot_snoc (l : List Part) (p : Part) : sumPot (l ++ [p]) = sumPot l + (p.size + 1) := by
  induction l with
  | nil => simp [sumPot]
  | cons a r ih => simp [sumPot, ih]; omega
theorem sumPot_eq (l : List Part) : sumPot l = sumSize l + l.length := by
  induction l with
  | nil => simp [sumPot, sumSize]
  | cons a r ih => simp [sumPot, sumSize, ih]; omega

theorem Chg.mono {N N' : List Nat} {a b : World} (h : Chg N a b) (hN : ∀ y ∈ N, y ∈ N') : Chg N' a b := ⟨h.os, h.tape, h.output, h.size, fun k hk hn => h.block k hk (fun h' => hn (hN k h'))⟩
theorem set_tail (l : List LvlV) (C : List Value) (j : Nat) (u : Value) : (l.flatMap LvlV.cells ++ C).set (l.length * 3 + j) u = l.flatMap LvlV.cells ++ C.set j u := by
  have hl := length_flatMap_of LvlV.cells 3 (fun _ => rfl) l
  rw [List.set_append_right _ _ (by omega), hl]
  congr 1
  congr 1
  omega

theorem PartsR.snoc {w : World} {ps : List Part} {vs : List PartV} {p : Part} {v : PartV} (h : PartsR w ps vs) (hp : PartR w p v) : PartsR w (ps ++ [p]) (vs ++ [v]) := by
  refine ⟨by simp [h.1], fun i h1 h2 => ?_⟩
  by_cases hi : i < ps.length
  · rw [List.getElem_append_left hi, List.getElem_append_left (by rw [← h.1]; exact hi)]
    exact h.2 i hi _
  · have e : i = ps.length := by simp at h1; omega
    subst e
    rw [List.getElem_append_right (Nat.le_refl _), List.getElem_append_right (by rw [h.1]; exact Nat.le_refl _)]
    simpa using hp

theorem Chg.grown {N : List Nat} {a w w' : World} {row : Option Nat} (h : Chg N a w) (hg : w.grownBy w' row) (hr : ∀ y, row = some y → y ∈ N ∨ a.heap.size ≤ y) : Chg N a w' :=
  ⟨hg.os.trans h.os, hg.tape.trans h.tape, hg.output.trans h.output, Nat.le_trans h.size hg.size, fun y hy hn =>
    (hg.block y (Nat.lt_of_lt_of_le hy h.size) (fun e => by rcases hr y e.symm with h' | h'; exact hn h'; omega)).trans (h.block y hy hn)⟩

end Go.Proofs.Ytfjlglefodndjaa
