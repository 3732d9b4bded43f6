/-
  Texts of the claim, joined: Text2, RJoin1, RJoin2, Schema.
-/
import Derived.Test.YtaepiiediblleaaDoorVa12
import Derived.Test.YtaepiiediblleaaDoorVa06
import Derived.Laws.IdiomStrings
import Derived.Deep.DeepCutAuto
import Derived.Deep.LoopGhost
import Derived.Test.YtaepiiediblleaaDoorVa05
namespace Go.Proofs.YtaepiiediblleaaDoor

/-- A piece of a text: a blank, or a token. -/
inductive Pc where
  | sp
  | tk (t : Tok)
def tokB (t : Tok) : List UInt8 := if t.kind = 2 then decB t.num else t.text.data.toList
def Pc.bytes : Pc → List UInt8
  | .sp => [32]
  | .tk t => tokB t
def pcsB (l : List Pc) : List UInt8 := l.flatMap Pc.bytes
def toksOf : List Pc → List Tok
  | [] => []
  | .sp :: r => toksOf r
  | .tk t :: r => t :: toksOf r
theorem pcsB_append (a b : List Pc) : pcsB (a ++ b) = pcsB a ++ pcsB b := by simp [pcsB]
theorem toksOf_append : (a b : List Pc) → toksOf (a ++ b) = toksOf a ++ toksOf b
  | [], b => rfl
  | .sp :: r, b => by simp [toksOf, toksOf_append r b]
  | .tk t :: r, b => by simp [toksOf, toksOf_append r b]
/-- A token that can be written. -/
def goodT (t : Tok) : Prop := t.pos = 0 ∧ ((t.kind = 1 ∧ wordB t.text = true ∧ t.num = 0) ∨ (t.kind = 2 ∧ t.text = ⟨#[]⟩ ∧ -17592186044416 ≤ t.num ∧ t.num ≤ 17592186044416) ∨ (t.kind = 4 ∧ t.num = 0 ∧ ∃ c : UInt8, t.text = ⟨#[c]⟩ ∧ markB (c.toNat : Int) = true))
/-- Between two tokens of which none is a mark there is a blank. -/
def sepA : Bool → List Pc → Bool
  | _, [] => true
  | _, .sp :: r => sepA false r
  | p, .tk t :: r => (!p || t.kind == 4) && sepA (t.kind != 4) r
def endA : Bool → List Pc → Bool
  | p, [] => p
  | _, .sp :: r => endA false r
  | _, .tk t :: r => endA (t.kind != 4) r
theorem sepA_append : (a b : List Pc) → (p : Bool) → sepA p (a ++ b) = (sepA p a && sepA (endA p a) b)
  | [], b, p => by simp [sepA, endA]
  | .sp :: r, b, p => by simp [sepA, endA, sepA_append r b]
  | .tk t :: r, b, p => by simp [sepA, endA, sepA_append r b, Bool.and_assoc]
theorem sepA_false {l : List Pc} {p : Bool} (h : sepA p l = true) : sepA false l = true := by
  cases l with
  | nil => rfl
  | cons x r =>
    cases x with
    | sp => simpa [sepA] using h
    | tk t => simp only [sepA, Bool.and_eq_true] at h ⊢; exact ⟨by simp, h.2⟩
theorem goodT_ne {t : Tok} (h : goodT t) : ∃ c r, tokB t = c :: r ∧ (c.toNat : Int) ≠ 32 ∧ (c.toNat : Int) ≠ 10 ∧ (c.toNat : Int) ≠ 35 ∧ (t.kind = 4 → inWordB (c.toNat : Int) = false) := by
  obtain ⟨_, ⟨h1, h2, _⟩ | ⟨h1, h2, h3, h4⟩ | ⟨h1, _, c, h2, h3⟩⟩ := h
  · have hw := h2
    simp only [wordB, Bool.and_eq_true, bne_iff_ne] at hw
    obtain ⟨⟨⟨⟨h0, _⟩, h5⟩, _⟩, _⟩ := hw
    have h0' : 0 < t.text.size := by omega
    rw [byteAt_lt h0'] at h5
    have e : tokB t = t.text.data.toList := by rw [tokB, if_neg (by omega)]
    cases hb : t.text.data.toList with
    | nil =>
      have : t.text.data.toList.length = 0 := by rw [hb]; rfl
      rw [Array.length_toList] at this
      have e2 : t.text.data.size = t.text.size := rfl
      omega
    | cons c r =>
      have hc : t.text[0] = c := by
        rw [ByteArray.getElem_eq_getElem_data, ← Array.getElem_toList]
        simp only [hb, List.getElem_cons_zero]
      rw [hc] at h5
      simp [letterB] at h5
      exact ⟨c, r, by rw [e, hb], by omega, by omega, by omega, fun h => by omega⟩
  · have e : tokB t = decB t.num := by rw [tokB, if_pos h1]
    rw [e, decB]
    split
    · exact ⟨45, _, rfl, by decide, by decide, by decide, fun h => by omega⟩
    · cases hb : digs 20 t.num.natAbs with
      | nil => exact absurd hb (digs_ne 19 _)
      | cons c r =>
        have := digs_all 20 t.num.natAbs c (by rw [hb]; simp)
        unfold isDig at this
        exact ⟨c, r, rfl, by omega, by omega, by omega, fun h => by omega⟩
  · have e : tokB t = [c] := by rw [tokB, if_neg (by omega), h2]
    have hc : c.toNat = 59 ∨ c.toNat = 58 ∨ c.toNat = 44 ∨ c.toNat = 40 ∨ c.toNat = 41 := by simp [markB] at h3; omega
    exact ⟨c, [], e, by omega, by omega, by omega, fun _ => by simp [inWordB, letterB, digitB]; omega⟩
theorem tokenF_good {s : ByteArray} {t : Tok} {i : Nat} (h : goodT t) (ha : AtB s i (tokB t)) (hi : i ≤ s.size) (hn : t.kind ≠ 4 → inWordB (byteAt s (i + (tokB t).length)) = false) : tokenF s i = (⟨t.kind, t.text, t.num, i⟩, ((i + (tokB t).length : Nat) : Int), 0) := by
  obtain ⟨_, ⟨h1, h2, h3⟩ | ⟨h1, h2, h3, h4⟩ | ⟨h1, h4, c, h2, h3⟩⟩ := h
  · have e : tokB t = t.text.data.toList := by rw [tokB, if_neg (by omega)]
    rw [e] at ha hn ⊢
    rw [tokenF_word h2 ha hi (hn (by omega)), h1, h3]
  · have e : tokB t = decB t.num := by rw [tokB, if_pos h1]
    rw [e] at ha hn ⊢
    rw [tokenF_number h3 h4 ha hi (hn (by omega)), h1, h2]
  · have e : tokB t = [c] := by rw [tokB, if_neg (by omega), h2]
    rw [e] at ha ⊢
    rw [tokenF_mark h3 ha hi, h1, h2, h4]; rfl
/-- A token without its place. -/
def zp (t : Tok) : Tok := ⟨t.kind, t.text, t.num, 0⟩
/-- A text of pieces is divided into their tokens. -/
theorem scan_pcs {s : ByteArray} : (l : List Pc) → (i : Nat) → (acc : List Tok) → (f : Nat) → i ≤ s.size → AtB s i (pcsB l) → i + (pcsB l).length = s.size → sepA false l = true → (∀ t ∈ toksOf l, goodT t) → acc.length + (toksOf l).length ≤ 4000 → s.size - i ≤ f →
    ∃ ts, scanF s f i acc = (acc ++ ts, 0, 0) ∧ ts.map zp = toksOf l
  | [], i, acc, f, hi, _, hl, _, _, _, hf => by
    refine ⟨[], ?_, rfl⟩
    simp [pcsB] at hl
    cases f with
    | zero => simp [scanF]
    | succ f => rw [scanF, if_pos (by omega)]; simp
  | .sp :: r, i, acc, f, hi, ha, hl, hs, hg, hn, hf => by
    have e : pcsB (.sp :: r) = 32 :: pcsB r := rfl
    rw [e] at ha hl
    have hb := ha.byte
    obtain ⟨h1, _⟩ := ha.1
    obtain ⟨g, rfl⟩ : ∃ g, f = g + 1 := ⟨f - 1, by omega⟩
    obtain ⟨ts, h2, h3⟩ := scan_pcs r (i + 1) acc g h1 ha.2 (by simp at hl; omega) (by simpa [sepA] using hs) hg hn (by omega)
    refine ⟨ts, ?_, h3⟩
    rw [scanF, if_neg (by omega), if_pos (by rw [hb]; rfl), h2]
  | .tk t :: r, i, acc, f, hi, ha, hl, hs, hg, hn, hf => by
    have e : pcsB (.tk t :: r) = tokB t ++ pcsB r := rfl
    rw [e] at ha hl
    rw [AtB.append] at ha
    have hgt := hg t (by simp [toksOf])
    obtain ⟨c, q, hc, c1, c2, c3, _⟩ := goodT_ne hgt
    have hb : byteAt s i = (c.toNat : Int) := by have := ha.1; rw [hc] at this; exact this.byte
    have h1 : i < s.size := by have := ha.1; rw [hc] at this; exact this.1.1
    obtain ⟨g, rfl⟩ : ∃ g, f = g + 1 := ⟨f - 1, by omega⟩
    have hle := AtB.le _ i hi ha.1
    have hsr : sepA (t.kind != 4) r = true := by simp only [sepA, Bool.and_eq_true] at hs; exact hs.2
    have hnext : t.kind ≠ 4 → inWordB (byteAt s (i + (tokB t).length)) = false := by
      intro hk
      have hp : (t.kind != 4) = true := by simpa using hk
      rw [hp] at hsr
      cases r with
      | nil =>
        have : ¬ i + (tokB t).length < s.size := by simp [pcsB] at hl; omega
        rw [byteAt, dif_neg this]; decide
      | cons x r' =>
        cases x with
        | sp => have h2 : AtB s (i + (tokB t).length) (32 :: pcsB r') := ha.2; rw [h2.byte]; decide
        | tk u =>
          have h2 : AtB s (i + (tokB t).length) (tokB u ++ pcsB r') := ha.2
          rw [AtB.append] at h2
          simp only [sepA, Bool.and_eq_true, Bool.not_true, Bool.false_or, beq_iff_eq] at hsr
          obtain ⟨c', q', hc', _, _, _, h4⟩ := goodT_ne (hg u (by simp [toksOf]))
          have h3 := h2.1
          rw [hc'] at h3
          rw [h3.byte]; exact h4 hsr.1
    have htok := tokenF_good hgt ha.1 hi hnext
    obtain ⟨ts, h2, h3⟩ := scan_pcs r (i + (tokB t).length) (acc ++ [⟨t.kind, t.text, t.num, i⟩]) g hle ha.2 (by rw [List.length_append] at hl; omega) (sepA_false hsr) (fun u hu => hg u (by simp [toksOf, hu])) (by simp [toksOf] at hn ⊢; omega) (by rw [hc]; simp; omega)
    refine ⟨⟨t.kind, t.text, t.num, i⟩ :: ts, ?_, ?_⟩
    · rw [scanF_tok h1 (by rw [hb]; simpa using c1) (by rw [hb]; simpa using c2) (by rw [hb]; simpa using c3), htok, tokStep_go (by simp [toksOf] at hn; omega), h2]
      · simp
      · by_cases hk2 : t.kind = 2
        · refine Or.inr ?_
          have h5 := hnext (by omega)
          by_cases hlt : i + (tokB t).length < s.size
          · refine Or.inr ⟨hlt, ?_⟩
            rw [byteAt_lt hlt] at h5
            simp only [inWordB, Bool.or_eq_false_iff] at h5
            exact ⟨h5.1.1, h5.2⟩
          · exact Or.inl hlt
        · exact Or.inl (by simpa using hk2)
    · have hp := hgt.1
      simp only [List.map_cons, toksOf, h3, zp]
      cases t; simp at hp; subst hp; rfl
theorem pcs_no64 : (l : List Pc) → (∀ t ∈ toksOf l, goodT t) → ∀ c ∈ pcsB l, (c.toNat : Int) ≠ 64
  | [], _, c, h => by simp [pcsB] at h
  | .sp :: r, hg, c, h => by
    have e : pcsB (.sp :: r) = 32 :: pcsB r := rfl
    rw [e] at h
    rcases List.mem_cons.1 h with rfl | h
    · decide
    · exact pcs_no64 r hg c h
  | .tk t :: r, hg, c, h => by
    have e : pcsB (.tk t :: r) = tokB t ++ pcsB r := rfl
    rw [e] at h
    rcases List.mem_append.1 h with h | h
    · obtain ⟨_, ⟨h1, h2, h3⟩ | ⟨h1, h2, h3, h4⟩ | ⟨h1, h4, d, h2, h3⟩⟩ := hg t (by simp [toksOf])
      · rw [tokB, if_neg (by omega)] at h
        simp only [wordB, Bool.and_eq_true, beq_iff_eq] at h2
        obtain ⟨j, hj, rfl⟩ := List.getElem_of_mem h
        have hj' : j < t.text.size := by simpa using hj
        have := spanF_all inWordB t.text t.text.size 0 j hj' (by omega) (by rw [h2.2]; exact hj')
        simp only [ByteArray.getElem_eq_getElem_data] at this
        simp only [Array.getElem_toList]
        intro h64
        rw [h64] at this
        revert this; decide
      · rw [tokB, if_pos h1, decB] at h
        have key : ∀ x ∈ digs 20 t.num.natAbs, (x.toNat : Int) ≠ 64 := fun x hx => by have := digs_all _ _ x hx; unfold isDig at this; omega
        split at h
        · rcases List.mem_cons.1 h with rfl | h
          · decide
          · exact key c h
        · exact key c h
      · rw [tokB, if_neg (by omega), h2] at h
        simp at h; subst h
        intro h64; rw [h64] at h3; revert h3; decide
    · exact pcs_no64 r (fun u hu => hg u (by simp [toksOf, hu])) c h
theorem scanAll_pcs {l : List Pc} (hs : sepA false l = true) (hg : ∀ t ∈ toksOf l, goodT t) (hn : (toksOf l).length ≤ 4000) (hb : (pcsB l).length ≤ 16384) : ∃ ts, scanAll ⟨(pcsB l).toArray⟩ = (ts, 0, 0) ∧ ts.map zp = toksOf l := by
  have hsz : (⟨(pcsB l).toArray⟩ : ByteArray).size = (pcsB l).length := by simp [ByteArray.size]
  obtain ⟨ts, h1, h2⟩ := scan_pcs (s := ⟨(pcsB l).toArray⟩) l 0 [] (⟨(pcsB l).toArray⟩ : ByteArray).size (by omega) (atB_self _) (by omega) hs hg (by simpa using hn) (by omega)
  refine ⟨ts, ?_, h2⟩
  rw [scanAll, if_neg (by omega), h1]; rfl
theorem no64_pcs {l : List Pc} (hg : ∀ t ∈ toksOf l, goodT t) : ∀ i, i < (⟨(pcsB l).toArray⟩ : ByteArray).size → byteAt ⟨(pcsB l).toArray⟩ i ≠ 64 := by
  intro i hi
  rw [byteAt_lt hi]
  refine pcs_no64 l hg _ ?_
  rw [ByteArray.getElem_eq_getElem_data]
  simp
theorem atT_of_map {ts : List Tok} : (l : List Tok) → (k : Nat) → (∀ t ∈ l, t.pos = 0) → (ts.drop k).map zp = l ++ (ts.drop (k + l.length)).map zp → AtT ts k l
  | [], _, _, _ => trivial
  | x :: r, k, hp, h => by
    cases hd : ts.drop k with
    | nil => rw [hd] at h; simp at h
    | cons y q =>
      rw [hd] at h
      simp only [List.map_cons, List.cons_append, List.cons.injEq] at h
      have hk : ts[k]? = some y := by rw [← List.head?_drop, hd]; rfl
      refine ⟨⟨y.pos, ?_⟩, atT_of_map r (k + 1) (fun t ht => hp t (List.mem_cons_of_mem _ ht)) ?_⟩
      · rw [hk, ← h.1]; rfl
      · have e : ts.drop (k + 1) = q := by rw [← List.drop_drop, hd]; rfl
        rw [e, h.2, show k + 1 + r.length = k + (x :: r).length by simp; omega]
theorem atT_all {ts l : List Tok} (h : ts.map zp = l) : AtT ts 0 l ∧ ts.length = l.length := by
  have hl : ts.length = l.length := by rw [← h]; simp
  refine ⟨atT_of_map l 0 (fun t ht => by rw [← h] at ht; obtain ⟨u, _, rfl⟩ := List.mem_map.1 ht; rfl) ?_, hl⟩
  simp [h, ← hl]

/-- How Join puts tokens one after the other. -/
def closes (b : List UInt8) : Bool := b == [59] || b == [58] || b == [44] || b == [41]
def joinPc : Bool → List Tok → List Pc
  | _, [] => []
  | g, t :: r => (if !g && !closes (tokB t) then [.sp, .tk t] else [.tk t]) ++ joinPc (tokB t == [40]) r
def gluedA : Bool → List Tok → Bool
  | g, [] => g
  | _, t :: r => gluedA (tokB t == [40]) r
theorem joinPc_append : (a b : List Tok) → (g : Bool) → joinPc g (a ++ b) = joinPc g a ++ joinPc (gluedA g a) b
  | [], b, g => by simp [joinPc, gluedA]
  | t :: r, b, g => by simp [joinPc, gluedA, joinPc_append r b]
theorem gluedA_snoc : (a : List Tok) → (g : Bool) → (t : Tok) → gluedA g (a ++ [t]) = (tokB t == [40])
  | [], g, t => by simp [gluedA]
  | x :: r, g, t => by simp [gluedA, gluedA_snoc r]
theorem toksOf_joinPc : (l : List Tok) → (g : Bool) → toksOf (joinPc g l) = l
  | [], g => rfl
  | t :: r, g => by
    rw [joinPc, toksOf_append, toksOf_joinPc r]
    split <;> rfl
theorem good_mark {t : Tok} (h : goodT t) {c : UInt8} (hc : tokB t = [c]) (hm : markB (c.toNat : Int) = true) : t.kind = 4 := by
  obtain ⟨_, ⟨h1, h2, h3⟩ | ⟨h1, h2, h3, h4⟩ | ⟨h1, h4, d, h2, h3⟩⟩ := h
  · exfalso
    simp only [wordB, Bool.and_eq_true, bne_iff_ne] at h2
    obtain ⟨⟨⟨⟨h0, _⟩, h5⟩, _⟩, _⟩ := h2
    have h0' : 0 < t.text.size := by omega
    rw [byteAt_lt h0', ByteArray.getElem_eq_getElem_data] at h5
    rw [tokB, if_neg (by omega)] at hc
    have : t.text.data[0]'h0' = c := by rw [← Array.getElem_toList]; simp only [hc, List.getElem_cons_zero]
    rw [this] at h5
    simp [letterB] at h5
    simp [markB] at hm
    omega
  · exfalso
    rw [tokB, if_pos h1, decB] at hc
    have hm' : c.toNat = 59 ∨ c.toNat = 58 ∨ c.toNat = 44 ∨ c.toNat = 40 ∨ c.toNat = 41 := by simp [markB] at hm; omega
    split at hc
    · simp only [List.cons.injEq] at hc
      exact digs_ne 19 _ hc.2
    · have := digs_all 20 t.num.natAbs c (by rw [hc]; simp)
      unfold isDig at this
      omega
  · exact h1
theorem sepA_joinPc : (l : List Tok) → (g p : Bool) → (∀ t ∈ l, goodT t) → (g = true → p = false) → sepA p (joinPc g l) = true
  | [], g, p, _, _ => rfl
  | t :: r, g, p, hg, hp => by
    have hgt := hg t (by simp)
    have ih := sepA_joinPc r (tokB t == [40]) (t.kind != 4) (fun u hu => hg u (List.mem_cons_of_mem _ hu)) (fun h => by
      have := good_mark hgt (c := 40) (by simpa using h) (by decide)
      simp [this])
    rw [joinPc]
    split
    · simp only [List.cons_append, List.nil_append, sepA, ih, Bool.not_false, Bool.true_or, Bool.and_true]
    · rename_i hc
      simp only [List.cons_append, List.nil_append, sepA, ih, Bool.and_true, Bool.or_eq_true, Bool.not_eq_true', beq_iff_eq]
      cases hgg : g with
      | true => exact Or.inl (hp hgg)
      | false =>
        right
        rw [hgg] at hc
        have hcl : closes (tokB t) = true := by simpa using hc
        simp only [closes, Bool.or_eq_true, beq_iff_eq] at hcl
        rcases hcl with ((h | h) | h) | h
        · exact good_mark hgt h (by decide)
        · exact good_mark hgt h (by decide)
        · exact good_mark hgt h (by decide)
        · exact good_mark hgt h (by decide)
/-- The bytes of an expression's text, as pieces. -/
def fmtPc (e : Ex) : List Pc := joinPc true (tokE e)
def fmtB (e : Ex) : List UInt8 := pcsB (fmtPc e)
end Go.Proofs.YtaepiiediblleaaDoor

namespace Go.Proofs.YtaepiiediblleaaDoor
open Go.RowKit

theorem rvalid_calls (n : Int) (w : World) : Calls Tryd.prog 65 #[.int .i64 n] w (Gives (.bool (decide (-17592186044416 ≤ n) && decide (n ≤ 17592186044416))) w) := by
  cases h1 : decide (-17592186044416 ≤ n)
  · go_enter Tryd.func65, Tryd.ntmps65
    go_wp2_with fail
    go_ret
    exact gives_bool rfl
  · go_enter Tryd.func65, Tryd.ntmps65
    go_wp2_with fail
    go_ret
    exact gives_bool (by simp)

theorem uBy : Tryd.prog.underlying 5 = some (.int .u8) := by kernel_rfl
theorem uBs : Tryd.prog.underlying 148 = some (.slice 5) := by kernel_rfl
theorem uSt : Tryd.prog.underlying 9 = some .string := by kernel_rfl
/-- string([]byte{c}) -/
theorem conv_byte (w : World) (x : Nat) (hx : x = w.heap.size) (c : Int) (t : TypeId) : Sem.run Tryd.prog (convert 148 9 (.slice (some ⟨x, 0, none⟩) 1 1)) (w.alloc (.cells #[.int .u8 c] t)) = .ok (.string ⟨#[UInt8.ofNat c.toNat]⟩) (w.alloc (.cells #[.int .u8 c] t)) := by
  subst hx
  rw [run_convert_bytes_string _ _ _ 5 _ _ _ uBs uBy uSt]
  have := run_bytesToString (P := Tryd.prog) (w.alloc (.cells #[.int .u8 c] t)) ⟨w.heap.size, 0, none⟩ 1 1 [c] (by
    refine run_loadCells_list (P := Tryd.prog) _ _ [.int .u8 c] (fun j v hj => ?_)
    have hj0 : j = 0 := by
      have := (List.getElem?_eq_some_iff.1 hj).1
      simpa using this
    subst hj0
    have : (⟨w.heap.size, 0, none⟩ : Addr).add 0 = ⟨w.heap.size, 0, none⟩ := by unfold Addr.add; split <;> simp_all
    rw [this, World.cell?_alloc_at _ _ _ _ rfl]
    simpa using hj)
  rw [this]
  rfl

/-- What digits has still to do. -/
def DigI (D : List UInt8) (m : Nat) (b : List UInt8) : Prop := (m = 0 ∧ b = D ∧ b ≠ []) ∨ ∃ f, m < 10 ^ f ∧ digs f m ++ b = D ∧ (0 < m ∨ b = []) ∧ 0 < f
theorem digI_step {D : List UInt8} {m : Nat} {b : List UInt8} (h : DigI D m b) (hg : 0 < m ∨ b = []) : DigI D (m / 10) (UInt8.ofNat (48 + m % 10) :: b) := by
  rcases h with ⟨h1, _, h3⟩ | ⟨f, h1, h2, _, h4⟩
  · rcases hg with hg | hg
    · omega
    · exact absurd hg h3
  · obtain ⟨f, rfl⟩ : ∃ g, f = g + 1 := ⟨f - 1, by omega⟩
    rw [digs] at h2
    split at h2
    · rename_i hm
      refine Or.inl ⟨by omega, ?_, by simp⟩
      rw [Nat.mod_eq_of_lt hm]; simpa using h2
    · refine Or.inr ⟨f, by rw [Nat.pow_succ] at h1; omega, by simpa using h2, Or.inl (by omega), ?_⟩
      rcases Nat.eq_zero_or_pos f with rfl | hf
      · simp at h1; omega
      · exact hf
theorem digI_done {D : List UInt8} {m : Nat} {b : List UInt8} (h : DigI D m b) (hm : m = 0) (hb : b ≠ []) : b = D := by
  rcases h with ⟨_, h2, _⟩ | ⟨f, _, _, h3, _⟩
  · exact h2
  · rcases h3 with h3 | h3
    · omega
    · exact absurd h3 hb
theorem app_one (x : UInt8) (b : List UInt8) : (⟨#[x]⟩ ++ ⟨b.toArray⟩ : ByteArray) = ⟨(x :: b).toArray⟩ := by
  apply ByteArray.ext
  simp
def emptyS : Value → Nat
  | .string b => if b.size = 0 then 1 else 0
  | _ => 0
def bstr (b : List UInt8) : Value := .string ⟨b.toArray⟩

set_option maxRecDepth 100000 in
set_option maxHeartbeats 1000000 in
theorem digits_calls (n : Nat) (hn : n ≤ 17592186044416) (w : World) : Calls Tryd.prog 94 #[.int .i64 n, .int .i64 1] w (GivesE (bstr (digs 20 n)) w) := by
  have kc := conv_byte
  have h0 := Lib.hid (show DigI (digs 20 n) n [] from Or.inr ⟨20, by omega, by simp, Or.inr rfl, by omega⟩)
  go_enter Tryd.func94, Tryd.ntmps94
  go_wp2_with fail
  go_loopw [0, 5] (fun u s wr => ∃ (m : Nat) (b : List UInt8), u = .int .i64 m ∧ s = .string ⟨b.toArray⟩ ∧ m ≤ 17592186044416 ∧ b.length + m ≤ 18000000000000 ∧ DigI (digs 20 n) m b ∧ Ext w wr) (fun u s _ => (intOf u).toNat + emptyS s)
  case atStart => exact ⟨n, [], rfl, rfl, hn, by simp; omega, h0.out, Ext.refl w⟩
  case round =>
    obtain ⟨m, b, rfl, rfl, hm, hbl, hD, hx⟩ := hrel
    have HD := Lib.hid hD
    have HX := Lib.hid hx
    clear hD hx
    have HA := Lib.hid (app_one (48 + UInt8.ofNat (m % 10)) b)
    by_cases hm0 : 0 < m
    · have t1 : decide (0 < (m : Int)) = true := by simp; omega
      have t2 : decide (0 < m) = true := by simp; omega
      have HGO := Lib.hid (show DigI (digs 20 n) (m / 10) ((48 + UInt8.ofNat (m % 10)) :: b) by have := digI_step HD.out (Or.inl hm0); rwa [UInt8.ofNat_add] at this)
      clear HD
      go_wp2_with fail
      refine ⟨⟨m / 10, _ :: b, by go_num, by rw [HA.out], by omega, by simp; omega, HGO.out, HX.out.alloc _⟩, ?_⟩
      rw [HA.out]
      simp [intOf, emptyS, ByteArray.size]
      omega
    · have t1 : decide (0 < (m : Int)) = false := by simp; omega
      have t2 : decide (0 < m) = false := by simp; omega
      have HM0 := Lib.hid (show m = 0 by omega)
      cases b with
      | nil =>
        have HGO := Lib.hid (show DigI (digs 20 n) (m / 10) ((48 + UInt8.ofNat (m % 10)) :: []) by have := digI_step HD.out (Or.inr rfl); rwa [UInt8.ofNat_add] at this)
        clear HD
        go_wp2_with fail
        refine ⟨⟨m / 10, _ :: [], by go_num, by rw [HA.out], by omega, by simp; omega, HGO.out, HX.out.alloc _⟩, ?_⟩
        rw [HA.out]
        have := HM0.out
        simp [intOf, emptyS, ByteArray.size]
        omega
      | cons c r =>
        have HEND := Lib.hid (digI_done HD.out HM0.out (by simp))
        go_wp2_with fail
        go_ret
        exact ⟨by rw [HEND.out]; rfl, HX.out⟩

theorem digs_le : (f n : Nat) → (digs f n).length ≤ f
  | 0, n => by simp [digs]
  | f + 1, n => by
    have := digs_le f (n / 10)
    rw [digs]; split
    · simp
    · simp; omega
theorem decimal_calls (n : Int) (h1 : -17592186044416 ≤ n) (h2 : n ≤ 17592186044416) (w : World) : Calls Tryd.prog 66 #[.int .i64 n] w (GivesE (bstr (decB n)) w) := by
  by_cases hn : n < 0
  · have t1 : decide (n < 0) = true := by simpa using hn
    have HE := Lib.hid (show decB n = 45 :: digs 20 n.natAbs by rw [decB, if_pos hn])
    have HN := Lib.hid (show -n = (n.natAbs : Int) by omega)
    have hle : n.natAbs ≤ 17592186044416 := by omega
    have HC := Lib.hid (show Calls Tryd.prog 94 #[.int .i64 (-n), .int .i64 1] w (GivesE (bstr (digs 20 n.natAbs)) w) by have := digits_calls _ hle w; rwa [← HN.out] at this)
    clear hle
    go_enter Tryd.func66, Tryd.ntmps66
    go_wp2_with fail
    refine HC.out.mono ?_
    rintro r w1 ⟨rfl, hx⟩
    unfold bstr
    have HX := Lib.hid hx
    clear hx
    have hD := digs_le 20 n.natAbs
    generalize digs 20 n.natAbs = D at *
    go_wp2_with fail
    go_ret
    exact ⟨by rw [HE.out, bstr, ← app_one 45 D]; rfl, HX.out⟩
  · have t1 : decide (n < 0) = false := by simpa using hn
    have HE := Lib.hid (show decB n = digs 20 n.natAbs by rw [decB, if_neg hn])
    have HN := Lib.hid (show n = (n.natAbs : Int) by omega)
    have hle : n.natAbs ≤ 17592186044416 := by omega
    have HC := Lib.hid (show Calls Tryd.prog 94 #[.int .i64 n, .int .i64 1] w (GivesE (bstr (digs 20 n.natAbs)) w) by have := digits_calls _ hle w; rwa [← HN.out] at this)
    go_enter Tryd.func66, Tryd.ntmps66
    go_wp2_with fail
    refine HC.out.mono ?_
    rintro r w1 ⟨rfl, hx⟩
    unfold bstr
    go_wp2_with fail
    go_ret
    exact ⟨by rw [HE.out]; rfl, hx⟩

/-- A text of one byte that is a mark. -/
theorem rmark_calls (c : UInt8) (hm : markB (c.toNat : Int) = true) (w : World) : Calls Tryd.prog 68 #[.string ⟨#[c]⟩] w (Gives (.bool true) w) := by
  have hc : c = 59 ∨ c = 58 ∨ c = 44 ∨ c = 40 ∨ c = 41 := by
    have : c.toNat = 59 ∨ c.toNat = 58 ∨ c.toNat = 44 ∨ c.toNat = 40 ∨ c.toNat = 41 := by simp [markB] at hm; omega
    rcases this with h | h | h | h | h
    · exact Or.inl (toNat_inj h)
    · exact Or.inr (Or.inl (toNat_inj h))
    · exact Or.inr (Or.inr (Or.inl (toNat_inj h)))
    · exact Or.inr (Or.inr (Or.inr (Or.inl (toNat_inj h))))
    · exact Or.inr (Or.inr (Or.inr (Or.inr (toNat_inj h))))
  clear hm
  rcases hc with rfl | rfl | rfl | rfl | rfl
  all_goals
    go_enter Tryd.func68, Tryd.ntmps68
    go_wp2_with fail
    go_ret
    exact gives_bool rfl

def WrittenQ (b : List UInt8) (w : World) (e : Ending) (w' : World) : Prop := e = .returned (.tuple #[bstr b, .int .i64 0]) ∧ Ext w w'
set_option maxRecDepth 100000 in
set_option maxHeartbeats 1000000 in
theorem written_calls (t : Tok) (hg : goodT t) (w : World) : Calls Tryd.prog 47 #[tokV t] w (WrittenQ (tokB t) w) := by
  obtain ⟨hp, hg⟩ := hg
  clear hp
  obtain ⟨h1, h2, h3⟩ | ⟨h1, h2, h3, h4⟩ | ⟨h1, h4, c, h2, h3⟩ := hg
  · have HE := Lib.hid (show bstr (tokB t) = .string t.text by rw [tokB, if_neg (by omega)]; simp [bstr])
    have HW := Lib.hid h2
    have hsz : t.text.size ≤ 1000000000000000 := by simp only [wordB, Bool.and_eq_true, decide_eq_true_eq] at h2; have := h2.1.1.1.2; omega
    have HX := Lib.hid ((Ext.refl w).alloc (.cells #[.int .i64 1, .string t.text, .int .i64 0, .int .i64 t.pos] 61))
    unfold tokV
    rw [h1, h3]
    clear h1 h2 h3
    go_enter Tryd.func47, Tryd.ntmps47
    go_wp2_with fail
    refine (rword_calls _ _ hsz).mono ?_
    rintro r w1 ⟨rfl, rfl⟩
    rw [HW.out]
    go_wp2_with fail
    refine bodyPost_ret (v := .tuple #[.string t.text, .int .i64 0]) (by simp [results, Tryd.results47, go_sem]) rfl ⟨?_, HX.out⟩
    rw [HE.out]
  · have HE := Lib.hid (show bstr (tokB t) = bstr (decB t.num) by rw [tokB, if_pos h1])
    have HX := Lib.hid ((Ext.refl w).alloc (.cells #[.int .i64 2, .string ⟨#[]⟩, .int .i64 t.num, .int .i64 t.pos] 61))
    have HV := Lib.hid (show (decide (-17592186044416 ≤ t.num) && decide (t.num ≤ 17592186044416)) = true by simp [h3, h4])
    have HC := Lib.hid (decimal_calls t.num h3 h4)
    unfold tokV
    rw [h1, h2]
    clear h1 h2 h3 h4
    go_enter Tryd.func47, Tryd.ntmps47
    go_wp2_with fail
    refine (rvalid_calls _ _).mono ?_
    rintro r w1 ⟨rfl, rfl⟩
    rw [HV.out]
    go_wp2_with fail
    refine (HC.out _).mono ?_
    rintro r w1 ⟨rfl, hx⟩
    have HX1 := Lib.hid (HX.out.trans hx)
    clear hx
    unfold bstr
    go_wp2_with fail
    refine bodyPost_ret (v := .tuple #[bstr (decB t.num), .int .i64 0]) (by simp [results, Tryd.results47, go_sem, bstr]) rfl ⟨?_, HX1.out⟩
    rw [HE.out]
  · have HE := Lib.hid (show bstr (tokB t) = .string ⟨#[c]⟩ by rw [tokB, if_neg (by omega), h2]; rfl)
    have HX := Lib.hid ((Ext.refl w).alloc (.cells #[.int .i64 4, .string ⟨#[c]⟩, .int .i64 0, .int .i64 t.pos] 61))
    have HC := Lib.hid (rmark_calls c h3)
    unfold tokV
    rw [h1, h2, h4]
    clear h1 h2 h3 h4
    go_enter Tryd.func47, Tryd.ntmps47
    go_wp2_with fail
    refine (HC.out _).mono ?_
    rintro r w1 ⟨rfl, rfl⟩
    go_wp2_with fail
    refine bodyPost_ret (v := .tuple #[.string ⟨#[c]⟩, .int .i64 0]) (by simp [results, Tryd.results47, go_sem]) rfl ⟨?_, HX.out⟩
    rw [HE.out]
end Go.Proofs.YtaepiiediblleaaDoor

namespace Go.Proofs.YtaepiiediblleaaDoor
open Go.RowKit

/-- Join's two results. -/
def JoinQ (b : List UInt8) (er : Int) (w : World) (e : Ending) (w' : World) : Prop := e = .returned (.tuple #[bstr b, .int .i64 er]) ∧ Ext w w'
theorem app_str (a b : List UInt8) : (⟨a.toArray⟩ ++ ⟨b.toArray⟩ : ByteArray) = ⟨(a ++ b).toArray⟩ := by
  apply ByteArray.ext
  simp
theorem pcs_snoc (l : List Tok) (t : Tok) : pcsB (joinPc true (l ++ [t])) = pcsB (joinPc true l) ++ ((if !gluedA true l && !closes (tokB t) then [32] else []) ++ tokB t) := by
  rw [joinPc_append, pcsB_append]
  simp only [joinPc, List.append_nil]
  split <;> simp [pcsB, Pc.bytes]
theorem pcs_take (l : List Tok) (k : Nat) : (pcsB (joinPc true (l.take k))).length ≤ (pcsB (joinPc true l)).length := by
  have h := joinPc_append (l.take k) (l.drop k) true
  rw [List.take_append_drop] at h
  rw [h, pcsB_append, List.length_append]; omega
theorem toks_at {w : World} {l : List Tok} {a : Option Addr} {n c : Nat} (h : IsToks w l a n c) {k : Nat} (hk : k < l.length) : ∃ b off, a = some ⟨b, off, none⟩ ∧ w.cell? ⟨b, off + k * 4, none⟩ = some (.int .i64 l[k].kind) ∧ w.cell? ⟨b, off + k * 4 + 1, none⟩ = some (.string l[k].text) ∧ w.cell? ⟨b, off + k * 4 + 2, none⟩ = some (.int .i64 l[k].num) ∧ w.cell? ⟨b, off + k * 4 + 3, none⟩ = some (.int .i64 l[k].pos) := by
  obtain ⟨b, off, e, hc⟩ := h.2.2.2 k hk
  exact ⟨b, off, e, hc 0 (by simp [tokCells]), hc 1 (by simp [tokCells]), hc 2 (by simp [tokCells]), hc 3 (by simp [tokCells])⟩

set_option maxRecDepth 100000 in
set_option maxHeartbeats 2000000 in
theorem join_calls (l : List Tok) (a : Option Addr) (n c : Nat) (w : World) (ht : IsToks w l a n c) (hg : ∀ t ∈ l, goodT t) (hn : n ≤ 4000) (hb : (pcsB (joinPc true l)).length ≤ 16384) :
    Calls Tryd.prog 30 #[.slice a n c] w (JoinQ (pcsB (joinPc true l)) 0 w) := by
  have HT := Lib.hid ht
  have HN := Lib.hid ht.1
  have HGD := Lib.hid hg
  have HBL := Lib.hid hb
  clear ht hg hb
  go_enter Tryd.func30, Tryd.ntmps30
  go_wp2_with fail
  go_loopg [4, 5, 6] n (fun g o s i wr => ∃ k : Nat, k ≤ n ∧ g = n - k ∧ i = .int .i64 k ∧ o = bstr (pcsB (joinPc true (l.take k))) ∧ s = .bool (gluedA true (l.take k)) ∧ Ext w wr)
  case atStart => exact ⟨0, by omega, rfl, rfl, rfl, rfl, Ext.refl w⟩
  case round =>
    obtain ⟨k, hk, hgk, rfl, rfl, rfl, hx⟩ := hrel
    have HGN := Lib.hid hgk
    have HX := Lib.hid hx
    clear hgk hx
    by_cases hlt : k < n
    · have hlt' : k < l.length := by have := HN.out; omega
      have t1 : decide ((k : Int) < (n : Int)) = true := by simp; omega
      obtain ⟨b, off, rfl, h0, h1, h2, h3⟩ := toks_at HT.out hlt'
      replace h0 := HX.out.cell h0
      replace h1 := HX.out.cell h1
      replace h2 := HX.out.cell h2
      replace h3 := HX.out.cell h3
      have HE := Lib.hid (show l.take (k + 1) = l.take k ++ [l[k]] by simp)
      have HW := Lib.hid (written_calls l[k] (HGD.out _ (List.getElem_mem hlt')))
      unfold tokV at HW
      have HPC := Lib.hid (show pcsB (joinPc true (l.take (k + 1))) = pcsB (joinPc true (l.take k)) ++ ((if !gluedA true (l.take k) && !closes (tokB l[k]) then [32] else []) ++ tokB l[k]) by rw [HE.out, pcs_snoc])
      have HGL := Lib.hid (show gluedA true (l.take (k + 1)) = (tokB l[k] == [40]) by rw [HE.out, gluedA_snoc])
      have hlen : (pcsB (joinPc true (l.take k))).length ≤ 16384 := Nat.le_trans (pcs_take l k) HBL.out
      have hlen2 : (tokB l[k]).length ≤ 16384 := by
        have h1 := Nat.le_trans (pcs_take l (k + 1)) HBL.out
        rw [HPC.out, List.length_append, List.length_append] at h1
        omega
      go_wp2_with fail
      refine (HW.out _).mono ?_
      rintro r w1 ⟨rfl, hx1⟩
      have HX1 := Lib.hid (HX.out.trans hx1)
      clear hx1 h0 h1 h2 h3
      generalize pcsB (joinPc true (l.take k)) = O at *
      generalize tokB l[k] = T at *
      generalize gluedA true (l.take k) = G at *
      unfold bstr
      go_upto_region 10 with fail
      go_cut [46] (fun s46 wx => s46 = .bool (!G && !closes T) ∧ w1 = wx)
      case first =>
        have hl : (⟨T.toArray⟩ : ByteArray).toList = T := by rw [ByteArray.toList_eq]
        have HC := Lib.hid (show closes T = (T == [59] || T == [58] || T == [44] || T == [41]) from rfl)
        cases G with
        | true =>
          go_wp2_with fail
          go_meet
          case rel => exact ⟨rfl, rfl⟩
        | false =>
          cases h59 : (T == [59]) with
          | true =>
            have HP := Lib.hid (show (!false && !closes T) = false by rw [HC.out, h59]; rfl)
            go_wp2_with fail
            go_meet
            case rel => exact ⟨by rw [HP.out], rfl⟩
          | false =>
          cases h58 : (T == [58]) with
          | true =>
            have HP := Lib.hid (show (!false && !closes T) = false by rw [HC.out, h59, h58]; rfl)
            go_wp2_with fail
            go_meet
            case rel => exact ⟨by rw [HP.out], rfl⟩
          | false =>
          cases h44 : (T == [44]) with
          | true =>
            have HP := Lib.hid (show (!false && !closes T) = false by rw [HC.out, h59, h58, h44]; rfl)
            go_wp2_with fail
            go_meet
            case rel => exact ⟨by rw [HP.out], rfl⟩
          | false =>
            have HP := Lib.hid (show (!false && !closes T) = !(T == [41]) by rw [HC.out, h59, h58, h44]; rfl)
            cases h41 : (T == [41]) with
            | true =>
              rw [h41] at HP
              go_wp2_with fail
              go_meet
              case rel => exact ⟨by rw [HP.out]; rfl, rfl⟩
            | false =>
              rw [h41] at HP
              go_wp2_with fail
              go_meet
              case rel => exact ⟨by rw [HP.out]; rfl, rfl⟩
      case rest =>
        obtain ⟨rfl, rfl⟩ := hcut
        have HA1 := Lib.hid (app_str O [32])
        have HA2 := Lib.hid (app_str O T)
        have HA3 := Lib.hid (app_str (O ++ [32]) T)
        have hl : (⟨T.toArray⟩ : ByteArray).toList = T := by rw [ByteArray.toList_eq]
        cases hsp : (!G && !closes T) with
        | true =>
          have HPC2 := Lib.hid (show pcsB (joinPc true (l.take (k + 1))) = O ++ [32] ++ T by rw [HPC.out, hsp]; simp)
          clear HPC hsp
          go_wp2_with fail
          go_roundg (n - (k + 1))
          case measure => have := HGN.out; omega
          case rel => exact ⟨k + 1, by omega, rfl, by go_num, by rw [HPC2.out, bstr, ← HA3.out, ← HA1.out], by rw [HGL.out], HX1.out⟩
        | false =>
          have HPC2 := Lib.hid (show pcsB (joinPc true (l.take (k + 1))) = O ++ T by rw [HPC.out, hsp]; simp)
          clear HPC hsp
          go_wp2_with fail
          go_roundg (n - (k + 1))
          case measure => have := HGN.out; omega
          case rel => exact ⟨k + 1, by omega, rfl, by go_num, by rw [HPC2.out, bstr, ← HA2.out], by rw [HGL.out], HX1.out⟩
    · have HE2 := Lib.hid (show l.take k = l from List.take_of_length_le (by have := HN.out; omega))
      have t1 : decide ((k : Int) < (n : Int)) = false := by simp; omega
      have hlen : (pcsB (joinPc true (l.take k))).length ≤ 16384 := Nat.le_trans (pcs_take l k) HBL.out
      rw [HE2.out] at hlen ⊢
      unfold bstr
      generalize pcsB (joinPc true l) = O at *
      have tO : decide (16384 < (O.length : Int)) = false := by simp; omega
      have tO2 : decide (16384 < O.length) = false := by simp; omega
      go_wp2_with fail
      refine bodyPost_ret (v := .tuple #[bstr O, .int .i64 0]) (by simp [results, Tryd.results30, go_sem, bstr]) rfl ⟨rfl, HX.out⟩
end Go.Proofs.YtaepiiediblleaaDoor

namespace Go.Proofs.YtaepiiediblleaaDoor
open Go.RowKit

structure Attr where
  name : ByteArray
  kind : Int
  words : List ByteArray
  lo : Int
  hi : Int
/-- An attribute in memory: five cells. -/
def AttrAt (w : World) (x : Attr) (b off : Nat) : Prop := ∃ aw nw cw, w.cell? ⟨b, off, none⟩ = some (.string x.name) ∧ w.cell? ⟨b, off + 1, none⟩ = some (.int .i64 x.kind) ∧ w.cell? ⟨b, off + 2, none⟩ = some (.slice aw nw cw) ∧ w.cell? ⟨b, off + 3, none⟩ = some (.int .i64 x.lo) ∧
  w.cell? ⟨b, off + 4, none⟩ = some (.int .i64 x.hi) ∧ IsStrs w x.words aw nw cw
def IsSchema (w : World) (l : List Attr) (v : Value) : Prop := ∃ a n c, v = .agg #[.slice a n c] ∧ n = l.length ∧ n ≤ c ∧ OkAddr a c ∧ ∀ i (h : i < l.length), ∃ b off, a = some ⟨b, off, none⟩ ∧ AttrAt w l[i] b (off + i * 5)
theorem AttrAt.mono {w w' : World} {x : Attr} {b off : Nat} (h : AttrAt w x b off) (hs : Sub w w') : AttrAt w' x b off := by
  obtain ⟨aw, nw, cw, h0, h1, h2, h3, h4, h5⟩ := h
  exact ⟨aw, nw, cw, hs _ _ h0, hs _ _ h1, hs _ _ h2, hs _ _ h3, hs _ _ h4, h5.mono hs⟩
theorem IsSchema.mono {w w' : World} {l : List Attr} {v : Value} (h : IsSchema w l v) (hs : Sub w w') : IsSchema w' l v := by
  obtain ⟨a, n, c, h1, h2, h3, h4, h5⟩ := h
  exact ⟨a, n, c, h1, h2, h3, h4, fun i hi => by obtain ⟨b, off, e1, e2⟩ := h5 i hi; exact ⟨b, off, e1, e2.mono hs⟩⟩

def aPeril : Attr := ⟨⟨#[112, 101, 114, 105, 108]⟩, 1, [⟨#[102, 105, 114, 101]⟩, ⟨#[102, 108, 111, 111, 100]⟩, ⟨#[119, 105, 110, 100]⟩, ⟨#[116, 104, 101, 102, 116]⟩], 0, 0⟩
def schemas : List (List Attr) := [[aPeril, ⟨⟨#[115, 116, 111, 114, 101, 121, 115]⟩, 2, [], 1, 9⟩, ⟨⟨#[97, 108, 97, 114, 109]⟩, 3, [], 0, 0⟩],
  [⟨⟨#[110]⟩, 2, [], -5, 20⟩],
  [⟨⟨#[97]⟩, 3, [], 0, 0⟩, ⟨⟨#[114, 111, 108, 101]⟩, 1, [⟨#[99, 114, 101, 119]⟩, ⟨#[103, 117, 101, 115, 116]⟩], 0, 0⟩, ⟨⟨#[98]⟩, 3, [], 0, 0⟩],
  [⟨⟨#[110]⟩, 2, [], -1000000000, 1000000000⟩, ⟨⟨#[116]⟩, 3, [], 0, 0⟩],
  [⟨⟨#[111, 110, 101]⟩, 1, [⟨#[111, 110, 108, 121]⟩], 0, 0⟩, aPeril, ⟨⟨#[110]⟩, 2, [], 0, 6⟩, ⟨⟨#[116]⟩, 3, [], 0, 0⟩],
  [⟨⟨#[116]⟩, 3, [], 0, 0⟩]]

theorem within_calls (x n : Int) (w : World) (hn : 0 < n) (hn2 : n ≤ 1000000000000000000) : Calls Tryd.prog 45 #[.int .i64 x, .int .i64 n] w (fun e w' => ∃ r : Int, e = .returned (.int .i64 r) ∧ 0 ≤ r ∧ r < n ∧ w = w') := by
  go_enter Tryd.func45, Tryd.ntmps45
  go_wp2_with fail
  go_ret
  have a1 := Int.tmod_lt_of_pos x hn
  have a5 := Int.lt_tmod_of_pos x hn
  rw [IntWalk.wrap64_in (x.tmod n + n) (by omega)]
  exact ⟨_, rfl, Int.tmod_nonneg n (by omega), Int.tmod_lt_of_pos (x.tmod n + n) hn, rfl⟩

/-- Strings outside of a block that is written. -/
theorem isStrs_set {w : World} {l : List ByteArray} {g n c : Nat} (h : IsStrs w l (some ⟨g, 0, none⟩) n c) {b : Nat} (hb : g ≠ b) (u : Value) (o : Obj) : IsStrs ((w.setCell ⟨b, 0, none⟩ u).alloc o) l (some ⟨g, 0, none⟩) n c := by
  refine ⟨h.1, h.2.1, h.2.2.1, fun i hi => ?_⟩
  obtain ⟨b', off, e1, e2⟩ := h.2.2.2 i hi
  simp only [Option.some.injEq, Addr.mk.injEq, and_true] at e1
  obtain ⟨rfl, rfl⟩ := e1
  refine ⟨g, 0, rfl, Ext.cell ((Ext.refl _).alloc o) ?_⟩
  rw [World.cell?_setCell_other _ _ _ _ (fun e => hb (by injection e with e1; exact e1.symm))]
  exact e2
def PerilQ (w : World) (e : Ending) (w' : World) : Prop := ∃ g, e = .returned (.agg #[.string aPeril.name, .int .i64 1, .slice (some ⟨g, 0, none⟩) 4 4, .int .i64 0, .int .i64 0]) ∧ IsStrs w' aPeril.words (some ⟨g, 0, none⟩) 4 4 ∧ Ext w w' ∧ w.heap.size < g
/-- Strings that lie in a block of their own. -/
theorem isStrs_block {w : World} {g : Nat} {l : List ByteArray} {t : TypeId} (h : w.heap[g]? = some (.cells (l.map Value.string).toArray t (0, 0))) {n : Nat} (hn : n = l.length) : IsStrs w l (some ⟨g, 0, none⟩) n n := by
  subst hn
  refine ⟨rfl, Nat.le_refl _, Or.inr ⟨g, 0, rfl⟩, fun i hi => ⟨g, 0, rfl, ?_⟩⟩
  rw [Nat.zero_add, blk_cell h]
  simp [hi]
structure AttrV where
  x : Attr
  a : Option Addr
  n : Nat
  c : Nat
def AttrV.cells (v : AttrV) : List Value := [.string v.x.name, .int .i64 v.x.kind, .slice v.a v.n v.c, .int .i64 v.x.lo, .int .i64 v.x.hi]
theorem isStrs_nil (w : World) : IsStrs w [] none 0 0 := ⟨rfl, by omega, Or.inl ⟨rfl, rfl⟩, fun i hi => by simp at hi⟩
theorem isSchema_block {w : World} {g : Nat} {avs : List AttrV} {t : TypeId} (h : w.heap[g]? = some (.cells (avs.flatMap AttrV.cells).toArray t (0, 0))) {n : Nat} (hn : n = avs.length) (hs : ∀ v ∈ avs, IsStrs w v.x.words v.a v.n v.c) : IsSchema w (avs.map (·.x)) (.agg #[.slice (some ⟨g, 0, none⟩) n n]) := by
  subst hn
  refine ⟨some ⟨g, 0, none⟩, _, _, rfl, by simp, Nat.le_refl _, Or.inr ⟨g, 0, rfl⟩, fun i hi => ⟨g, 0, rfl, ?_⟩⟩
  have hi' : i < avs.length := by simpa using hi
  have key : ∀ j (hj : j < 5), w.cell? ⟨g, i * 5 + j, none⟩ = some ((avs[i].cells)[j]'(by simp [AttrV.cells]; omega)) := by
    intro j hj
    rw [blk_cell h]
    have := flatMap_at AttrV.cells 5 (fun _ => rfl) avs i hi' j (by simp [AttrV.cells]; omega)
    simpa using this
  have e : (avs.map (·.x))[i] = avs[i].x := by simp
  rw [e, Nat.zero_add]
  exact ⟨avs[i].a, avs[i].n, avs[i].c, key 0 (by omega), key 1 (by omega), key 2 (by omega), key 3 (by omega), key 4 (by omega), hs _ (List.getElem_mem hi')⟩

set_option maxRecDepth 100000 in
theorem peril_calls (w : World) : Calls Tryd.prog 46 #[] w (PerilQ w) := by
  go_enter Tryd.func46, Tryd.ntmps46
  go_wp2_with fail
  refine bodyPost_ret (v := .agg #[.string aPeril.name, .int .i64 1, .slice (some ⟨w.heap.size + 1, 0, none⟩) 4 4, .int .i64 0, .int .i64 0]) (by simp [results, Tryd.results46, go_sem, aPeril]) rfl ?_
  refine ⟨_, rfl, isStrs_block (l := aPeril.words) (t := 9) ?_ rfl, ((Ext.refl w).alloc _).alloc _, by omega⟩
  have := alloc_new (w.alloc (.cells #[.string aPeril.name, .int .i64 1, .slice (some ⟨w.heap.size + 1, 0, none⟩) 4 4, .int .i64 0, .int .i64 0] 79)) (.cells (aPeril.words.map Value.string).toArray 9)
  simpa [aPeril] using this

theorem isStrs_mask {w : World} {M : List Nat} {l : List ByteArray} {a : Option Addr} {n c : Nat} (h : IsStrs w l a n c) (ha : ∀ b off, a = some ⟨b, off, none⟩ → b ∉ M) : IsStrs (mask w M) l a n c := by
  refine ⟨h.1, h.2.1, h.2.2.1, fun i hi => ?_⟩
  obtain ⟨b, off, e, hc⟩ := h.2.2.2 i hi
  exact ⟨b, off, e, by rw [mask_cell, if_neg (ha b off e)]; exact hc⟩
theorem mask_blk {w : World} {M : List Nat} {g : Nat} {o : Obj} (h : w.heap[g]? = some o) (hg : g ∉ M) : (mask w M).heap[g]? = some o := by
  unfold mask
  simp only [Array.getElem?_mapIdx, h, Option.map_some, hg, if_false]
def SchemaQ (M : List Nat) (w : World) (e : Ending) (w' : World) : Prop := ∃ l v, e = .returned v ∧ l ∈ schemas ∧ IsSchema (mask w' M) l v ∧ Ext w w'
theorem schemaQ_mk {w W : World} {g n : Nat} {l : List Attr} {M : List Nat} (hM : ∀ y ∈ M, y < w.heap.size) (avs : List AttrV) {t : TypeId} (hg : w.heap.size ≤ g) (ha : ∀ v ∈ avs, ∀ b off, v.a = some ⟨b, off, none⟩ → w.heap.size ≤ b) (h : W.heap[g]? = some (.cells (avs.flatMap AttrV.cells).toArray t (0, 0))) (hn : n = avs.length) (hl : avs.map (·.x) = l) (hm : l ∈ schemas) (hs : ∀ v ∈ avs, IsStrs W v.x.words v.a v.n v.c) (hx : Ext w W) :
    SchemaQ M w (.returned (.agg #[.slice (some ⟨g, 0, none⟩) n n])) W :=
  ⟨l, _, rfl, hm, hl ▸ isSchema_block (mask_blk h (fun hh => by have := hM _ hh; omega)) hn (fun v hv => isStrs_mask (hs v hv) (fun b off e hh => by have := hM _ hh; have := ha v hv b off e; omega)), hx⟩

set_option maxRecDepth 100000 in
set_option maxHeartbeats 1000000 in
theorem schema_calls (k : Int) (M : List Nat) (w : World) (hM : ∀ y ∈ M, y < w.heap.size) : Calls Tryd.prog 28 #[.int .i64 k] w (SchemaQ M w) := by
  have HMM := Lib.hid hM
  clear hM
  go_enter Tryd.func28, Tryd.ntmps28
  go_wp2_with fail
  refine (within_calls _ _ _ (by omega) (by omega)).mono ?_
  rintro e w' ⟨r, rfl, h0, h1, rfl⟩
  have h : r = 0 ∨ r = 1 ∨ r = 2 ∨ r = 3 ∨ r = 4 ∨ r = 5 := by omega
  clear h0 h1
  rcases h with rfl | rfl | rfl | rfl | rfl | rfl
  · go_wp2_with fail
    refine (peril_calls _).mono ?_
    rintro e w' ⟨g, rfl, hp, hx, hgn⟩
    simp at hgn
    have hwz := hx.size
    simp at hwz
    have hb := hx.blk (alloc_new w _)
    have hlt := blk_lt hb
    have c0 := blk_cell hb 0
    have cf := blk_free hb
    simp at c0
    have HX := Lib.hid (((Ext.refl w).alloc _).trans hx)
    have HP := Lib.hid hp
    clear hx hb hp
    go_wp2_with fail
    refine bodyPost_ret (v := .agg #[.slice (some ⟨w'.heap.size, 0, none⟩) 3 3]) (by simp [results, Tryd.results28, go_sem, c0, hlt]) rfl ?_
    refine schemaQ_mk HMM.out [⟨aPeril, some ⟨g, 0, none⟩, 4, 4⟩, ⟨⟨⟨#[115, 116, 111, 114, 101, 121, 115]⟩, 2, [], 1, 9⟩, none, 0, 0⟩, ⟨⟨⟨#[97, 108, 97, 114, 109]⟩, 3, [], 0, 0⟩, none, 0, 0⟩] (t := 79) (by omega) (by intro v hv b off he; simp only [List.mem_cons, List.not_mem_nil, or_false] at hv; (repeat' (rcases hv with rfl | hv)) <;> (try subst hv) <;> simp at he <;> omega) ?_ rfl rfl (by simp [schemas]) ?_ ?_
    · simpa [AttrV.cells, aPeril] using alloc_new (w'.setCell ⟨w.heap.size, 0, none⟩ (.slice (some ⟨w'.heap.size, 0, none⟩) 3 3)) (.cells #[.string aPeril.name, .int .i64 1, .slice (some ⟨g, 0, none⟩) 4 4, .int .i64 0, .int .i64 0, .string ⟨#[115, 116, 111, 114, 101, 121, 115]⟩, .int .i64 2, .slice none 0 0, .int .i64 1, .int .i64 9, .string ⟨#[97, 108, 97, 114, 109]⟩, .int .i64 3, .slice none 0 0, .int .i64 0, .int .i64 0] 79)
    · intro v hv
      simp only [List.mem_cons, List.not_mem_nil, or_false] at hv
      rcases hv with rfl | rfl | rfl
      · exact isStrs_set HP.out (by omega) _ _
      · exact isStrs_nil _
      · exact isStrs_nil _
    · exact (HX.out.setAbove (by simp) _).alloc _
  · go_wp2_with fail
    refine bodyPost_ret (v := .agg #[.slice (some ⟨w.heap.size + 1, 0, none⟩) 1 1]) (by simp [results, Tryd.results28, go_sem]) rfl ?_
    refine schemaQ_mk HMM.out [⟨⟨⟨#[110]⟩, 2, [], -5, 20⟩, none, 0, 0⟩] (t := 79) (by omega) (by intro v hv b off he; simp only [List.mem_cons, List.not_mem_nil, or_false] at hv; (repeat' (rcases hv with rfl | hv)) <;> (try subst hv) <;> simp at he <;> omega) ?_ rfl rfl (by simp [schemas]) (by intro v hv; simp at hv; subst hv; exact isStrs_nil _) (((Ext.refl w).alloc _).alloc _)
    simpa [AttrV.cells] using alloc_new (w.alloc (.cells #[.slice (some ⟨w.heap.size + 1, 0, none⟩) 1 1] 50)) (.cells #[.string ⟨#[110]⟩, .int .i64 2, .slice none 0 0, .int .i64 (-5), .int .i64 20] 79)
  · go_wp2_with fail
    refine bodyPost_ret (v := .agg #[.slice (some ⟨w.heap.size + 2, 0, none⟩) 3 3]) (by simp [results, Tryd.results28, go_sem]) rfl ?_
    refine schemaQ_mk HMM.out [⟨⟨⟨#[97]⟩, 3, [], 0, 0⟩, none, 0, 0⟩, ⟨⟨⟨#[114, 111, 108, 101]⟩, 1, [⟨#[99, 114, 101, 119]⟩, ⟨#[103, 117, 101, 115, 116]⟩], 0, 0⟩, some ⟨w.heap.size + 1, 0, none⟩, 2, 2⟩, ⟨⟨⟨#[98]⟩, 3, [], 0, 0⟩, none, 0, 0⟩] (t := 79) (by omega) (by intro v hv b off he; simp only [List.mem_cons, List.not_mem_nil, or_false] at hv; (repeat' (rcases hv with rfl | hv)) <;> (try subst hv) <;> simp at he <;> omega) ?_ rfl rfl (by simp [schemas]) ?_ ((((Ext.refl w).alloc _).alloc _).alloc _)
    · simpa [AttrV.cells] using alloc_new ((w.alloc (.cells #[.slice (some ⟨w.heap.size + 2, 0, none⟩) 3 3] 50)).alloc (.cells #[.string ⟨#[99, 114, 101, 119]⟩, .string ⟨#[103, 117, 101, 115, 116]⟩] 9)) (.cells #[.string ⟨#[97]⟩, .int .i64 3, .slice none 0 0, .int .i64 0, .int .i64 0, .string ⟨#[114, 111, 108, 101]⟩, .int .i64 1, .slice (some ⟨w.heap.size + 1, 0, none⟩) 2 2, .int .i64 0, .int .i64 0, .string ⟨#[98]⟩, .int .i64 3, .slice none 0 0, .int .i64 0, .int .i64 0] 79)
    · intro v hv
      simp only [List.mem_cons, List.not_mem_nil, or_false] at hv
      rcases hv with rfl | rfl | rfl
      · exact isStrs_nil _
      · refine isStrs_block (t := 9) (blk_alloc ?_) rfl
        simpa using alloc_new (w.alloc (.cells #[.slice (some ⟨w.heap.size + 2, 0, none⟩) 3 3] 50)) (.cells #[.string ⟨#[99, 114, 101, 119]⟩, .string ⟨#[103, 117, 101, 115, 116]⟩] 9)
      · exact isStrs_nil _
  · go_wp2_with fail
    refine bodyPost_ret (v := .agg #[.slice (some ⟨w.heap.size + 1, 0, none⟩) 2 2]) (by simp [results, Tryd.results28, go_sem]) rfl ?_
    refine schemaQ_mk HMM.out [⟨⟨⟨#[110]⟩, 2, [], -1000000000, 1000000000⟩, none, 0, 0⟩, ⟨⟨⟨#[116]⟩, 3, [], 0, 0⟩, none, 0, 0⟩] (t := 79) (by omega) (by intro v hv b off he; simp only [List.mem_cons, List.not_mem_nil, or_false] at hv; (repeat' (rcases hv with rfl | hv)) <;> (try subst hv) <;> simp at he <;> omega) ?_ rfl rfl (by simp [schemas]) ?_ (((Ext.refl w).alloc _).alloc _)
    · simpa [AttrV.cells] using alloc_new (w.alloc (.cells #[.slice (some ⟨w.heap.size + 1, 0, none⟩) 2 2] 50)) (.cells #[.string ⟨#[110]⟩, .int .i64 2, .slice none 0 0, .int .i64 (-1000000000), .int .i64 1000000000, .string ⟨#[116]⟩, .int .i64 3, .slice none 0 0, .int .i64 0, .int .i64 0] 79)
    · intro v hv
      simp only [List.mem_cons, List.not_mem_nil, or_false] at hv
      rcases hv with rfl | rfl <;> exact isStrs_nil _
  · go_wp2_with fail
    refine (peril_calls _).mono ?_
    rintro e w' ⟨g, rfl, hp, hx, hgn⟩
    simp at hgn
    have hwz := hx.size
    simp at hwz
    have HO := Lib.hid (hx.blk (alloc_new (w.alloc (.cells #[.slice none 0 0] 50)) (.cells #[.string ⟨#[111, 110, 108, 121]⟩] 9)))
    have hb := hx.blk (blk_alloc (o' := .cells #[.string ⟨#[111, 110, 108, 121]⟩] 9) (alloc_new w (.cells #[.slice none 0 0] 50)))
    have hlt := blk_lt hb
    have c0 := blk_cell hb 0
    have cf := blk_free hb
    simp at c0
    have HX := Lib.hid ((((Ext.refl w).alloc _).alloc _).trans hx)
    have HP := Lib.hid hp
    clear hx hb hp
    go_wp2_with fail
    refine bodyPost_ret (v := .agg #[.slice (some ⟨w'.heap.size, 0, none⟩) 4 4]) (by simp [results, Tryd.results28, go_sem, c0, hlt]) rfl ?_
    refine schemaQ_mk HMM.out [⟨⟨⟨#[111, 110, 101]⟩, 1, [⟨#[111, 110, 108, 121]⟩], 0, 0⟩, some ⟨w.heap.size + 1, 0, none⟩, 1, 1⟩, ⟨aPeril, some ⟨g, 0, none⟩, 4, 4⟩, ⟨⟨⟨#[110]⟩, 2, [], 0, 6⟩, none, 0, 0⟩, ⟨⟨⟨#[116]⟩, 3, [], 0, 0⟩, none, 0, 0⟩] (t := 79) (by omega) (by intro v hv b off he; simp only [List.mem_cons, List.not_mem_nil, or_false] at hv; (repeat' (rcases hv with rfl | hv)) <;> (try subst hv) <;> simp at he <;> omega) ?_ rfl rfl (by simp [schemas]) ?_ ?_
    · simpa [AttrV.cells, aPeril] using alloc_new (w'.setCell ⟨w.heap.size, 0, none⟩ (.slice (some ⟨w'.heap.size, 0, none⟩) 4 4)) (.cells #[.string ⟨#[111, 110, 101]⟩, .int .i64 1, .slice (some ⟨w.heap.size + 1, 0, none⟩) 1 1, .int .i64 0, .int .i64 0, .string aPeril.name, .int .i64 1, .slice (some ⟨g, 0, none⟩) 4 4, .int .i64 0, .int .i64 0, .string ⟨#[110]⟩, .int .i64 2, .slice none 0 0, .int .i64 0, .int .i64 6, .string ⟨#[116]⟩, .int .i64 3, .slice none 0 0, .int .i64 0, .int .i64 0] 79)
    · intro v hv
      simp only [List.mem_cons, List.not_mem_nil, or_false] at hv
      rcases hv with rfl | rfl | rfl | rfl
      · refine isStrs_set (isStrs_block (t := 9) (l := [⟨#[111, 110, 108, 121]⟩]) ?_ rfl) (by simp) _ _
        simpa using HO.out
      · exact isStrs_set HP.out (by omega) _ _
      · exact isStrs_nil _
      · exact isStrs_nil _
    · exact (HX.out.setAbove (by simp) _).alloc _
  · go_wp2_with fail
    refine bodyPost_ret (v := .agg #[.slice (some ⟨w.heap.size + 1, 0, none⟩) 1 1]) (by simp [results, Tryd.results28, go_sem]) rfl ?_
    refine schemaQ_mk HMM.out [⟨⟨⟨#[116]⟩, 3, [], 0, 0⟩, none, 0, 0⟩] (t := 79) (by omega) (by intro v hv b off he; simp only [List.mem_cons, List.not_mem_nil, or_false] at hv; (repeat' (rcases hv with rfl | hv)) <;> (try subst hv) <;> simp at he <;> omega) ?_ rfl rfl (by simp [schemas]) (by intro v hv; simp at hv; subst hv; exact isStrs_nil _) (((Ext.refl w).alloc _).alloc _)
    simpa [AttrV.cells] using alloc_new (w.alloc (.cells #[.slice (some ⟨w.heap.size + 1, 0, none⟩) 1 1] 50)) (.cells #[.string ⟨#[116]⟩, .int .i64 3, .slice none 0 0, .int .i64 0, .int .i64 0] 79)
end Go.Proofs.YtaepiiediblleaaDoor
