/-
  Texts of the claim, joined: Text1, Parse5, Text2, RJoin1, RJoin2.
-/
import Derived.Test.YtaepiiediblleaaGreatDoorFo11
import Derived.Test.YtaepiiediblleaaGreatDoorFo10
import Derived.Test.YtaepiiediblleaaGreatDoorFo08
import Derived.Laws.IdiomStrings
import Derived.Deep.DeepCutAuto
import Derived.Deep.LoopGhost
namespace Go.Proofs.YtaepiiediblleaaGreatDoor

/-- These bytes stand in a text from an offset on. -/
def AtB (s : ByteArray) : Nat → List UInt8 → Prop
  | _, [] => True
  | i, c :: r => (∃ h : i < s.size, s[i] = c) ∧ AtB s (i + 1) r
theorem AtB.append {s : ByteArray} : (a b : List UInt8) → (i : Nat) → AtB s i (a ++ b) ↔ AtB s i a ∧ AtB s (i + a.length) b
  | [], b, i => by simp [AtB]
  | c :: r, b, i => by
    simp only [List.cons_append, AtB, AtB.append r b (i + 1), List.length_cons]
    rw [show i + 1 + r.length = i + (r.length + 1) by omega]
    exact and_assoc.symm
theorem AtB.get {s : ByteArray} : (b : List UInt8) → (i : Nat) → AtB s i b → ∀ j (hj : j < b.length), ∃ h : i + j < s.size, s[i + j] = b[j]
  | [], i, _, j, hj => by simp at hj
  | c :: r, i, h, 0, _ => by simpa using h.1
  | c :: r, i, h, j + 1, hj => by
    obtain ⟨h1, h2⟩ := AtB.get r (i + 1) h.2 j (by simpa using hj)
    have e : i + 1 + j = i + (j + 1) := by omega
    simp only [e] at h2
    exact ⟨by omega, by simpa using h2⟩
theorem AtB.of_get {s : ByteArray} : (b : List UInt8) → (i : Nat) → (∀ j (hj : j < b.length), ∃ h : i + j < s.size, s[i + j] = b[j]) → AtB s i b
  | [], i, _ => trivial
  | c :: r, i, h => by
    obtain ⟨g1, g2⟩ := h 0 (by simp)
    refine ⟨⟨by simpa using g1, by simpa using g2⟩, AtB.of_get r (i + 1) fun j hj => ?_⟩
    obtain ⟨h1, h2⟩ := h (j + 1) (by simpa using hj)
    have e : i + (j + 1) = i + 1 + j := by omega
    simp only [e] at h2
    exact ⟨by omega, by simpa using h2⟩
theorem AtB.le {s : ByteArray} : (b : List UInt8) → (i : Nat) → i ≤ s.size → AtB s i b → i + b.length ≤ s.size
  | [], i, hi, _ => by simpa using hi
  | c :: r, i, _, h => by
    obtain ⟨h1, _⟩ := h.1
    have := AtB.le r (i + 1) h1 h.2
    simp; omega
theorem atB_self (b : List UInt8) : AtB ⟨b.toArray⟩ 0 b := AtB.of_get b 0 fun j hj => by
  have h : 0 + j < (⟨b.toArray⟩ : ByteArray).size := by simp [ByteArray.size]; omega
  refine ⟨h, ?_⟩
  simp [ByteArray.getElem_eq_getElem_data]
theorem AtB.extract {s : ByteArray} {b : List UInt8} {i : Nat} (h : AtB s i b) (hi : i ≤ s.size) : s.extract i (i + b.length) = ⟨b.toArray⟩ := by
  have hle := AtB.le b i hi h
  apply ByteArray.ext
  apply Array.ext
  · rw [ByteArray.data_extract]
    simp only [Array.size_extract, List.size_toArray]
    have : s.data.size = s.size := rfl
    omega
  · intro j h1 h2
    obtain ⟨h3, h4⟩ := AtB.get b i h j (by simpa using h2)
    simp only [ByteArray.data_extract, Array.getElem_extract, List.getElem_toArray]
    rw [← h4]; rfl
theorem AtB.byte {s : ByteArray} {c : UInt8} {r : List UInt8} {i : Nat} (h : AtB s i (c :: r)) : byteAt s i = (c.toNat : Int) := by
  obtain ⟨h1, h2⟩ := h.1
  rw [byteAt_lt h1, h2]
theorem AtB.span {p : Int → Bool} {s : ByteArray} : (b : List UInt8) → (i : Nat) → AtB s i b → (∀ c ∈ b, p (c.toNat : Int) = true) → p (byteAt s (i + b.length)) = false → spanF p s (s.size - i) i = i + b.length
  | [], i, _, _, h => by
    simp only [List.length_nil, Nat.add_zero] at *
    by_cases hi : i < s.size
    · rw [byteAt_lt hi] at h; exact spanF_stop hi h
    · exact spanF_end hi
  | c :: r, i, h, hall, hend => by
    obtain ⟨⟨h1, h2⟩, h3⟩ := h
    have e : i + (c :: r).length = i + 1 + r.length := by simp; omega
    rw [e] at hend ⊢
    rw [spanF_step h1 (by rw [h2]; exact hall c (by simp)), AtB.span r (i + 1) h3 (fun x hx => hall x (List.mem_cons_of_mem _ hx)) hend]

/-- A word is read as one. -/
theorem tokenF_word {s t : ByteArray} {i : Nat} (hw : wordB t = true) (ha : AtB s i t.data.toList) (hi : i ≤ s.size) (hn : inWordB (byteAt s (i + t.data.toList.length)) = false) : tokenF s i = (⟨1, t, 0, i⟩, ((i + t.data.toList.length : Nat) : Int), 0) := by
  have hsp := AtB.span (p := inWordB) t.data.toList i ha (fun c hc => by
    simp only [wordB, Bool.and_eq_true, beq_iff_eq] at hw
    obtain ⟨j, hj, rfl⟩ := List.getElem_of_mem hc
    have hj' : j < t.size := by simpa using hj
    have := spanF_all inWordB t t.size 0 j hj' (by omega) (by rw [hw.2]; exact hj')
    simpa [ByteArray.getElem_eq_getElem_data] using this) hn
  have hex := ha.extract hi
  have et : (⟨t.data.toList.toArray⟩ : ByteArray) = t := by cases t; simp
  rw [et] at hex
  have hl : letterB (byteAt s i) = true := by
    have hw' := hw
    simp only [wordB, Bool.and_eq_true, bne_iff_ne] at hw'
    obtain ⟨⟨⟨⟨h0, _⟩, h1⟩, _⟩, _⟩ := hw'
    have h0' : 0 < t.size := by omega
    obtain ⟨h3, h4⟩ := AtB.get _ i ha 0 (by simpa using h0')
    rw [byteAt_lt h0'] at h1
    have h3' : i < s.size := by simpa using h3
    have h4' : s[i] = t[0] := by simpa [ByteArray.getElem_eq_getElem_data] using h4
    rw [byteAt_lt h3', h4']; exact h1
  rw [tokenF, if_pos hl, hsp, hex, if_pos hw]

/-- The digits of a number. -/
def digs : Nat → Nat → List UInt8
  | 0, _ => []
  | f + 1, n => if n < 10 then [UInt8.ofNat (48 + n)] else digs f (n / 10) ++ [UInt8.ofNat (48 + n % 10)]
/-- A number in decimal. -/
def decB (n : Int) : List UInt8 := if n < 0 then 45 :: digs 20 n.natAbs else digs 20 n.natAbs
def isDig (c : UInt8) : Prop := 48 ≤ c.toNat ∧ c.toNat ≤ 57
theorem isDig_of {n : Nat} (h : n < 10) : isDig (UInt8.ofNat (48 + n)) := by
  have : (UInt8.ofNat (48 + n)).toNat = 48 + n := by rw [UInt8.toNat_ofNat']; omega
  unfold isDig; omega
theorem digs_all : (f n : Nat) → ∀ c ∈ digs f n, isDig c
  | 0, n, c, h => by simp [digs] at h
  | f + 1, n, c, h => by
    rw [digs] at h
    split at h
    · rename_i hn; rw [List.mem_singleton.1 h]; exact isDig_of hn
    · rcases List.mem_append.1 h with h | h
      · exact digs_all f _ c h
      · rw [List.mem_singleton.1 h]; exact isDig_of (by omega)
def valD (n : Int) (b : List UInt8) : Int := b.foldl (fun a c => a * 10 + ((c.toNat : Int) - 48)) n
theorem valD_digs : (f n : Nat) → n < 10 ^ f → valD 0 (digs f n) = n
  | 0, n, h => by simp at h; simp [digs, valD, h]
  | f + 1, n, h => by
    rw [digs]
    split
    · rename_i hn
      have : (UInt8.ofNat (48 + n)).toNat = 48 + n := by rw [UInt8.toNat_ofNat']; omega
      simp only [valD, List.foldl_cons, List.foldl_nil, this]; omega
    · have h1 : n / 10 < 10 ^ f := by rw [Nat.pow_succ] at h; omega
      have ih := valD_digs f (n / 10) h1
      have : (UInt8.ofNat (48 + n % 10)).toNat = 48 + n % 10 := by rw [UInt8.toNat_ofNat']; omega
      unfold valD at *
      rw [List.foldl_append, ih]
      simp only [List.foldl_cons, List.foldl_nil, this]; omega
theorem valD_ge : (b : List UInt8) → (n : Int) → 0 ≤ n → (∀ c ∈ b, isDig c) → n ≤ valD n b
  | [], n, _, _ => by simp [valD]
  | c :: r, n, h, hall => by
    have hc := hall c (by simp)
    unfold isDig at hc
    have := valD_ge r (n * 10 + ((c.toNat : Int) - 48)) (by omega) (fun x hx => hall x (List.mem_cons_of_mem _ hx))
    simp only [valD, List.foldl_cons] at this ⊢
    omega
theorem digs_ne (f n : Nat) : digs (f + 1) n ≠ [] := by
  rw [digs]; split <;> simp
theorem digs_head : (f n : Nat) → 0 < n → n < 10 ^ f → ∃ c r, digs f n = c :: r ∧ c.toNat ≠ 48
  | 0, n, h, h2 => by simp at h2; omega
  | f + 1, n, h, h2 => by
    rw [digs]
    split
    · rename_i hn
      have : (UInt8.ofNat (48 + n)).toNat = 48 + n := by rw [UInt8.toNat_ofNat']; omega
      exact ⟨_, _, rfl, by omega⟩
    · obtain ⟨c, r, h3, h4⟩ := digs_head f (n / 10) (by omega) (by rw [Nat.pow_succ] at h2; omega)
      exact ⟨c, r ++ _, by rw [h3]; rfl, h4⟩
theorem decF_digits {s : ByteArray} : (b : List UInt8) → (k : Nat) → (n : Int) → AtB s k b → k + b.length = s.size → 0 ≤ n → (∀ c ∈ b, isDig c) → valD n b ≤ 17592186044416 → decF s (s.size - k) k n = some (valD n b)
  | [], k, n, _, hk, _, _, _ => by rw [decF_end (by simp at hk; omega)]; simp [valD]
  | c :: r, k, n, h, hk, hn, hall, hv => by
    obtain ⟨⟨h1, h2⟩, h3⟩ := h
    have hc := hall c (by simp)
    unfold isDig at hc
    have hr : ∀ x ∈ r, isDig x := fun x hx => hall x (List.mem_cons_of_mem _ hx)
    have hge := valD_ge r (n * 10 + ((c.toNat : Int) - 48)) (by omega) hr
    have e : valD n (c :: r) = valD (n * 10 + ((c.toNat : Int) - 48)) r := rfl
    rw [e] at hv ⊢
    rw [decF_step h1 (by rw [h2]; omega), h2]
    exact decF_digits r (k + 1) _ h3 (by simp at hk; omega) (by omega) hr hv
theorem numOf_digits (neg : Bool) {m : Nat} (hm : m ≤ 17592186044416) (h0 : neg = true → 0 < m) : numOf neg ⟨(digs 20 m).toArray⟩ = (if neg then -(m : Int) else m, 0) := by
  have hp : m < 10 ^ 20 := by omega
  have hat := atB_self (digs 20 m)
  have hsz : (⟨(digs 20 m).toArray⟩ : ByteArray).size = (digs 20 m).length := by simp [ByteArray.size]
  have hne : (digs 20 m).length ≠ 0 := fun h => digs_ne 19 m (List.eq_nil_of_length_eq_zero h)
  have hd := decF_digits (digs 20 m) 0 0 hat (by rw [hsz]; omega) (by omega) (digs_all 20 m) (by rw [valD_digs 20 m hp]; omega)
  rw [valD_digs 20 m hp] at hd
  rw [numOf, if_neg, hd]
  rintro (h | ⟨h1, h2⟩)
  · omega
  · rcases Nat.eq_zero_or_pos m with rfl | hpos
    · rcases h2 with h2 | h2
      · have := h0 h2; omega
      · rw [hsz] at h2; revert h2; decide
    · obtain ⟨c, r, h3, h4⟩ := digs_head 20 m hpos hp
      rw [h3] at hat h1
      rw [hat.byte] at h1
      exact h4 (by omega)
theorem toNat_inj {a b : UInt8} (h : a.toNat = b.toNat) : a = b := UInt8.toNat_inj.1 h
/-- A number is read as one. -/
theorem tokenF_number {s : ByteArray} {n : Int} {i : Nat} (h1 : -17592186044416 ≤ n) (h2 : n ≤ 17592186044416) (ha : AtB s i (decB n)) (hi : i ≤ s.size) (hn : inWordB (byteAt s (i + (decB n).length)) = false) : tokenF s i = (⟨2, ⟨#[]⟩, n, i⟩, ((i + (decB n).length : Nat) : Int), 0) := by
  have hnd : digitB (byteAt s (i + (decB n).length)) = false := by simp [inWordB] at hn; simp [hn]
  have hdig : ∀ c ∈ digs 20 n.natAbs, digitB (c.toNat : Int) = true := fun c hc => by have := digs_all _ _ c hc; unfold isDig at this; simp [digitB]; omega
  have hex := ha.extract hi
  obtain ⟨c, r, hcr⟩ : ∃ c r, digs 20 n.natAbs = c :: r := by
    cases h : digs 20 n.natAbs with
    | nil => exact absurd h (digs_ne 19 _)
    | cons c r => exact ⟨c, r, rfl⟩
  have hc : isDig c := digs_all 20 n.natAbs c (by rw [hcr]; simp)
  unfold isDig at hc
  by_cases hneg : n < 0
  · have e : decB n = 45 :: digs 20 n.natAbs := by rw [decB, if_pos hneg]
    rw [e] at ha hex hnd ⊢
    have hb := ha.byte
    have hsp := AtB.span (p := digitB) (digs 20 n.natAbs) (i + 1) ha.2 hdig (by simpa [Nat.add_assoc, Nat.add_comm 1] using hnd)
    have e2 : i + (45 :: digs 20 n.natAbs).length = i + 1 + (digs 20 n.natAbs).length := by simp; omega
    rw [e2] at hex ⊢
    have hnum : numberF (⟨(45 :: digs 20 n.natAbs).toArray⟩ : ByteArray) = (n, 0) := by
      have ha2 := atB_self (45 :: digs 20 n.natAbs)
      rw [numberF, if_pos (by rw [ha2.byte]; rfl)]
      have h3 := AtB.extract (s := ⟨(45 :: digs 20 n.natAbs).toArray⟩) (i := 1) ha2.2 (by simp [ByteArray.size])
      rw [show (⟨(45 :: digs 20 n.natAbs).toArray⟩ : ByteArray).size = 1 + (digs 20 n.natAbs).length by simp [ByteArray.size]; omega, h3, numOf_digits true (by omega) (by omega)]
      simp; omega
    rw [tokenF, if_neg (by rw [hb]; decide), if_pos (by rw [hb]; decide), hsp, hex, hnum, if_pos rfl]
  · have e : decB n = digs 20 n.natAbs := by rw [decB, if_neg hneg]
    rw [e] at ha hex hnd ⊢
    have ha' := ha
    rw [hcr] at ha'
    have hb := ha'.byte
    have hsp := AtB.span (p := digitB) r (i + 1) ha'.2 (fun x hx => hdig x (by rw [hcr]; exact List.mem_cons_of_mem _ hx)) (by rw [hcr] at hnd; simpa [Nat.add_assoc, Nat.add_comm 1] using hnd)
    have e2 : i + (digs 20 n.natAbs).length = i + 1 + r.length := by rw [hcr]; simp; omega
    rw [e2] at hex ⊢
    have hnum : numberF (⟨(digs 20 n.natAbs).toArray⟩ : ByteArray) = (n, 0) := by
      have ha2 := atB_self (digs 20 n.natAbs)
      rw [hcr] at ha2
      rw [numberF, if_neg (by rw [hcr, ha2.byte]; omega), numOf_digits false (by omega) (by simp)]
      simp; omega
    have hdg : digitB (byteAt s i) = true := by rw [hb]; simp [digitB]; omega
    have hlt : letterB (byteAt s i) = false := by rw [hb]; simp [letterB]; omega
    rw [tokenF, if_neg (by rw [hlt]; simp), if_pos (by rw [hdg]; rfl), hsp, hex, hnum, if_pos rfl]
/-- A mark is read as one. -/
theorem tokenF_mark {s : ByteArray} {c : UInt8} {i : Nat} (hm : markB (c.toNat : Int) = true) (ha : AtB s i [c]) (hi : i ≤ s.size) : tokenF s i = (⟨4, ⟨#[c]⟩, 0, i⟩, ((i + 1 : Nat) : Int), 0) := by
  have hex := ha.extract hi
  have hb := ha.byte
  simp only [List.length_singleton] at hex
  have hc : c.toNat = 59 ∨ c.toNat = 58 ∨ c.toNat = 44 ∨ c.toNat = 40 ∨ c.toNat = 41 := by simp [markB] at hm; omega
  rw [tokenF, if_neg (by rw [hb]; simp [letterB]; omega), if_neg (by rw [hb]; simp [digitB]; omega), if_pos (by rw [hb]; exact hm), hex]
end Go.Proofs.YtaepiiediblleaaGreatDoor

namespace Go.Proofs.YtaepiiediblleaaGreatDoor
open Go.RowKit

/-- What the scanner makes of a text. -/
def scanAll (s : ByteArray) : List Tok × Int × Int := if 16384 < s.size then ([], 0, 4) else scanF s s.size 0 []
def ParseQ (e : Ex) (er : Int) (M : List Nat) (w : World) (r : Ending) (w' : World) : Prop := ∃ (x : ExV) (off : Int), r = .returned (.tuple #[x.val, .int .i64 off, .int .i64 er]) ∧ IsEx (mask w' M) e x.val ∧ (er = 0 → off = 0) ∧ Ext w w'

set_option maxRecDepth 100000 in
set_option maxHeartbeats 2000000 in
theorem Parse_ok (s : ByteArray) (toks : List Tok) (e : Ex) (w : World) (ho : HasOps w) (hs : s.size ≤ 1000000000000000) (h64 : ∀ i, i < s.size → byteAt s i ≠ 64) (hS : scanAll s = (toks, 0, 0)) (htn : toks.length ≤ 1000000) (hsz : ∀ t ∈ toks, t.text.size ≤ 1000000000000000)
    (hT : tokensF toks 0 = (e, (toks.length : Int), 0, 0)) (M : List Nat) (hM : ∀ y ∈ M, y < w.heap.size) : Calls Tryz.prog 18 #[.string s] w (ParseQ e 0 M w) := by
  have HO := Lib.hid ho
  have HSC := Lib.hid (scan_calls s)
  have HS := Lib.hid hS
  have HT := Lib.hid hT
  have HZ := Lib.hid hsz
  have H64 := Lib.hid h64
  have HMM := Lib.hid hM
  clear ho hS hT hsz h64 hM HSC
  go_enter Tryz.func18, Tryz.ntmps18
  go_wp2_with fail
  refine (scan_calls s _ hs H64.out).mono ?_
  rw [show (if 16384 < s.size then (([], 0, 4) : List Tok × Int × Int) else scanF s s.size 0 []) = (toks, 0, 0) from HS.out]
  rintro r w1 ⟨a, n, c, rfl, hl, hx⟩
  have hb := hx.blk (alloc_new w (.cells #[.int .i64 0, .string ⟨#[]⟩, .slice none 0 0, .int .i64 0, .int .i64 0, .slice none 0 0] 28))
  have HX1 := Lib.hid (((Ext.refl w).alloc _).trans hx)
  have HL := Lib.hid hl
  have HN := Lib.hid hl.1
  have HB := Lib.hid hb
  have hn1 : n ≤ 1000000 := by have := hl.1; simp only at this; omega
  have HM1 := Lib.hid (show ∀ y ∈ w.heap.size :: M, y < w1.heap.size from fun y hy => by
    have h1 := blk_lt hb
    rcases List.mem_cons.1 hy with rfl | hy
    · exact h1
    · have := HMM.out y hy; omega)
  clear hx hl hb
  simp only at HL HN
  go_wp2_with fail
  refine (Tokens_calls toks a n c 0 w1 HL.out (HO.out.ext HX1.out) hn1 HZ.out (w.heap.size :: M) HM1.out).mono ?_
  rw [HT.out]
  rintro r w2 ⟨x, rfl, hix, hx2⟩
  have hb := hx2.blk HB.out
  have hlt := blk_lt hb
  obtain ⟨b0, b1, b2, b3, b4, b5, bf⟩ := blk6 hb
  have HX2 := Lib.hid (HX1.out.trans hx2)
  have HIX := Lib.hid hix
  have tn : decide ((toks.length : Int) < (n : Int)) = false := by have := HN.out; simp; omega
  have tn2 : decide (toks.length < n) = false := by have := HN.out; simp; omega
  clear hix hx2 hb HX1 HB
  unfold ExV.val exV
  simp only
  go_wp2_with fail
  refine bodyPost_ret (v := .tuple #[x.val, .int .i64 0, .int .i64 0]) (by simp [results, Tryz.results18, go_sem, ExV.val, exV, b0, b1, b2, b3, b4, b5, hlt]) rfl ?_
  refine ⟨x, 0, rfl, HIX.out.mono ((Chg.sub ?_).trans (mask_less _ (fun y hy => List.mem_cons_of_mem _ hy))), fun _ => rfl, ?_⟩
  · repeat (with_reducible (first | refine Chg.alloc ?_ _ | refine Chg.setCell ?_ ?_ _ | refine Chg.drew ?_ | refine Chg.drewN ?_ _))
    exact Chg.refl _ _
    all_goals (refine Or.inl ?_; simp)
  · repeat (with_reducible (first | refine Ext.alloc ?_ _ | refine Ext.setAbove ?_ ?_ _ | refine Ext.drew ?_ | refine Ext.drewN ?_ _))
    exact HX2.out
    all_goals simp
end Go.Proofs.YtaepiiediblleaaGreatDoor

namespace Go.Proofs.YtaepiiediblleaaGreatDoor

/-- A piece of a text: a blank, or a token. -/
inductive Pc where
  | sp
  | tk (t : Tok)
def tokB (t : Tok) : List UInt8 := if t.kind = 2 then decB t.num else t.text.data.toList
def Pc.bytes : Pc → List UInt8
  | .sp => [32]
  | .tk t => tokB t
def pcsB (l : List Pc) : List UInt8 := l.flatMap Pc.bytes
def toksOf : List Pc → List Tok
  | [] => []
  | .sp :: r => toksOf r
  | .tk t :: r => t :: toksOf r
theorem pcsB_append (a b : List Pc) : pcsB (a ++ b) = pcsB a ++ pcsB b := by simp [pcsB]
theorem toksOf_append : (a b : List Pc) → toksOf (a ++ b) = toksOf a ++ toksOf b
  | [], b => rfl
  | .sp :: r, b => by simp [toksOf, toksOf_append r b]
  | .tk t :: r, b => by simp [toksOf, toksOf_append r b]
/-- A token that can be written. -/
def goodT (t : Tok) : Prop := t.pos = 0 ∧ ((t.kind = 1 ∧ wordB t.text = true ∧ t.num = 0) ∨ (t.kind = 2 ∧ t.text = ⟨#[]⟩ ∧ -17592186044416 ≤ t.num ∧ t.num ≤ 17592186044416) ∨ (t.kind = 4 ∧ t.num = 0 ∧ ∃ c : UInt8, t.text = ⟨#[c]⟩ ∧ markB (c.toNat : Int) = true))
/-- Between two tokens of which none is a mark there is a blank. -/
def sepA : Bool → List Pc → Bool
  | _, [] => true
  | _, .sp :: r => sepA false r
  | p, .tk t :: r => (!p || t.kind == 4) && sepA (t.kind != 4) r
def endA : Bool → List Pc → Bool
  | p, [] => p
  | _, .sp :: r => endA false r
  | _, .tk t :: r => endA (t.kind != 4) r
theorem sepA_append : (a b : List Pc) → (p : Bool) → sepA p (a ++ b) = (sepA p a && sepA (endA p a) b)
  | [], b, p => by simp [sepA, endA]
  | .sp :: r, b, p => by simp [sepA, endA, sepA_append r b]
  | .tk t :: r, b, p => by simp [sepA, endA, sepA_append r b, Bool.and_assoc]
theorem sepA_false {l : List Pc} {p : Bool} (h : sepA p l = true) : sepA false l = true := by
  cases l with
  | nil => rfl
  | cons x r =>
    cases x with
    | sp => simpa [sepA] using h
    | tk t => simp only [sepA, Bool.and_eq_true] at h ⊢; exact ⟨by simp, h.2⟩
theorem goodT_ne {t : Tok} (h : goodT t) : ∃ c r, tokB t = c :: r ∧ (c.toNat : Int) ≠ 32 ∧ (c.toNat : Int) ≠ 10 ∧ (c.toNat : Int) ≠ 35 ∧ (t.kind = 4 → inWordB (c.toNat : Int) = false) := by
  obtain ⟨_, ⟨h1, h2, _⟩ | ⟨h1, h2, h3, h4⟩ | ⟨h1, _, c, h2, h3⟩⟩ := h
  · have hw := h2
    simp only [wordB, Bool.and_eq_true, bne_iff_ne] at hw
    obtain ⟨⟨⟨⟨h0, _⟩, h5⟩, _⟩, _⟩ := hw
    have h0' : 0 < t.text.size := by omega
    rw [byteAt_lt h0'] at h5
    have e : tokB t = t.text.data.toList := by rw [tokB, if_neg (by omega)]
    cases hb : t.text.data.toList with
    | nil =>
      have : t.text.data.toList.length = 0 := by rw [hb]; rfl
      rw [Array.length_toList] at this
      have e2 : t.text.data.size = t.text.size := rfl
      omega
    | cons c r =>
      have hc : t.text[0] = c := by
        rw [ByteArray.getElem_eq_getElem_data, ← Array.getElem_toList]
        simp only [hb, List.getElem_cons_zero]
      rw [hc] at h5
      simp [letterB] at h5
      exact ⟨c, r, by rw [e, hb], by omega, by omega, by omega, fun h => by omega⟩
  · have e : tokB t = decB t.num := by rw [tokB, if_pos h1]
    rw [e, decB]
    split
    · exact ⟨45, _, rfl, by decide, by decide, by decide, fun h => by omega⟩
    · cases hb : digs 20 t.num.natAbs with
      | nil => exact absurd hb (digs_ne 19 _)
      | cons c r =>
        have := digs_all 20 t.num.natAbs c (by rw [hb]; simp)
        unfold isDig at this
        exact ⟨c, r, rfl, by omega, by omega, by omega, fun h => by omega⟩
  · have e : tokB t = [c] := by rw [tokB, if_neg (by omega), h2]
    have hc : c.toNat = 59 ∨ c.toNat = 58 ∨ c.toNat = 44 ∨ c.toNat = 40 ∨ c.toNat = 41 := by simp [markB] at h3; omega
    exact ⟨c, [], e, by omega, by omega, by omega, fun _ => by simp [inWordB, letterB, digitB]; omega⟩
theorem tokenF_good {s : ByteArray} {t : Tok} {i : Nat} (h : goodT t) (ha : AtB s i (tokB t)) (hi : i ≤ s.size) (hn : t.kind ≠ 4 → inWordB (byteAt s (i + (tokB t).length)) = false) : tokenF s i = (⟨t.kind, t.text, t.num, i⟩, ((i + (tokB t).length : Nat) : Int), 0) := by
  obtain ⟨_, ⟨h1, h2, h3⟩ | ⟨h1, h2, h3, h4⟩ | ⟨h1, h4, c, h2, h3⟩⟩ := h
  · have e : tokB t = t.text.data.toList := by rw [tokB, if_neg (by omega)]
    rw [e] at ha hn ⊢
    rw [tokenF_word h2 ha hi (hn (by omega)), h1, h3]
  · have e : tokB t = decB t.num := by rw [tokB, if_pos h1]
    rw [e] at ha hn ⊢
    rw [tokenF_number h3 h4 ha hi (hn (by omega)), h1, h2]
  · have e : tokB t = [c] := by rw [tokB, if_neg (by omega), h2]
    rw [e] at ha ⊢
    rw [tokenF_mark h3 ha hi, h1, h2, h4]; rfl
/-- A token without its place. -/
def zp (t : Tok) : Tok := ⟨t.kind, t.text, t.num, 0⟩
/-- A text of pieces is divided into their tokens. -/
theorem scan_pcs {s : ByteArray} : (l : List Pc) → (i : Nat) → (acc : List Tok) → (f : Nat) → i ≤ s.size → AtB s i (pcsB l) → i + (pcsB l).length = s.size → sepA false l = true → (∀ t ∈ toksOf l, goodT t) → acc.length + (toksOf l).length ≤ 4000 → s.size - i ≤ f →
    ∃ ts, scanF s f i acc = (acc ++ ts, 0, 0) ∧ ts.map zp = toksOf l
  | [], i, acc, f, hi, _, hl, _, _, _, hf => by
    refine ⟨[], ?_, rfl⟩
    simp [pcsB] at hl
    cases f with
    | zero => simp [scanF]
    | succ f => rw [scanF, if_pos (by omega)]; simp
  | .sp :: r, i, acc, f, hi, ha, hl, hs, hg, hn, hf => by
    have e : pcsB (.sp :: r) = 32 :: pcsB r := rfl
    rw [e] at ha hl
    have hb := ha.byte
    obtain ⟨h1, _⟩ := ha.1
    obtain ⟨g, rfl⟩ : ∃ g, f = g + 1 := ⟨f - 1, by omega⟩
    obtain ⟨ts, h2, h3⟩ := scan_pcs r (i + 1) acc g h1 ha.2 (by simp at hl; omega) (by simpa [sepA] using hs) hg hn (by omega)
    refine ⟨ts, ?_, h3⟩
    rw [scanF, if_neg (by omega), if_pos (by rw [hb]; rfl), h2]
  | .tk t :: r, i, acc, f, hi, ha, hl, hs, hg, hn, hf => by
    have e : pcsB (.tk t :: r) = tokB t ++ pcsB r := rfl
    rw [e] at ha hl
    rw [AtB.append] at ha
    have hgt := hg t (by simp [toksOf])
    obtain ⟨c, q, hc, c1, c2, c3, _⟩ := goodT_ne hgt
    have hb : byteAt s i = (c.toNat : Int) := by have := ha.1; rw [hc] at this; exact this.byte
    have h1 : i < s.size := by have := ha.1; rw [hc] at this; exact this.1.1
    obtain ⟨g, rfl⟩ : ∃ g, f = g + 1 := ⟨f - 1, by omega⟩
    have hle := AtB.le _ i hi ha.1
    have hsr : sepA (t.kind != 4) r = true := by simp only [sepA, Bool.and_eq_true] at hs; exact hs.2
    have hnext : t.kind ≠ 4 → inWordB (byteAt s (i + (tokB t).length)) = false := by
      intro hk
      have hp : (t.kind != 4) = true := by simpa using hk
      rw [hp] at hsr
      cases r with
      | nil =>
        have : ¬ i + (tokB t).length < s.size := by simp [pcsB] at hl; omega
        rw [byteAt, dif_neg this]; decide
      | cons x r' =>
        cases x with
        | sp => have h2 : AtB s (i + (tokB t).length) (32 :: pcsB r') := ha.2; rw [h2.byte]; decide
        | tk u =>
          have h2 : AtB s (i + (tokB t).length) (tokB u ++ pcsB r') := ha.2
          rw [AtB.append] at h2
          simp only [sepA, Bool.and_eq_true, Bool.not_true, Bool.false_or, beq_iff_eq] at hsr
          obtain ⟨c', q', hc', _, _, _, h4⟩ := goodT_ne (hg u (by simp [toksOf]))
          have h3 := h2.1
          rw [hc'] at h3
          rw [h3.byte]; exact h4 hsr.1
    have htok := tokenF_good hgt ha.1 hi hnext
    obtain ⟨ts, h2, h3⟩ := scan_pcs r (i + (tokB t).length) (acc ++ [⟨t.kind, t.text, t.num, i⟩]) g hle ha.2 (by rw [List.length_append] at hl; omega) (sepA_false hsr) (fun u hu => hg u (by simp [toksOf, hu])) (by simp [toksOf] at hn ⊢; omega) (by rw [hc]; simp; omega)
    refine ⟨⟨t.kind, t.text, t.num, i⟩ :: ts, ?_, ?_⟩
    · rw [scanF_tok h1 (by rw [hb]; simpa using c1) (by rw [hb]; simpa using c2) (by rw [hb]; simpa using c3), htok, tokStep_go (by simp [toksOf] at hn; omega), h2]
      · simp
      · by_cases hk2 : t.kind = 2
        · refine Or.inr ?_
          have h5 := hnext (by omega)
          by_cases hlt : i + (tokB t).length < s.size
          · refine Or.inr ⟨hlt, ?_⟩
            rw [byteAt_lt hlt] at h5
            simp only [inWordB, Bool.or_eq_false_iff] at h5
            exact ⟨h5.1.1, h5.2⟩
          · exact Or.inl hlt
        · exact Or.inl (by simpa using hk2)
    · have hp := hgt.1
      simp only [List.map_cons, toksOf, h3, zp]
      cases t; simp at hp; subst hp; rfl
theorem pcs_no64 : (l : List Pc) → (∀ t ∈ toksOf l, goodT t) → ∀ c ∈ pcsB l, (c.toNat : Int) ≠ 64
  | [], _, c, h => by simp [pcsB] at h
  | .sp :: r, hg, c, h => by
    have e : pcsB (.sp :: r) = 32 :: pcsB r := rfl
    rw [e] at h
    rcases List.mem_cons.1 h with rfl | h
    · decide
    · exact pcs_no64 r hg c h
  | .tk t :: r, hg, c, h => by
    have e : pcsB (.tk t :: r) = tokB t ++ pcsB r := rfl
    rw [e] at h
    rcases List.mem_append.1 h with h | h
    · obtain ⟨_, ⟨h1, h2, h3⟩ | ⟨h1, h2, h3, h4⟩ | ⟨h1, h4, d, h2, h3⟩⟩ := hg t (by simp [toksOf])
      · rw [tokB, if_neg (by omega)] at h
        simp only [wordB, Bool.and_eq_true, beq_iff_eq] at h2
        obtain ⟨j, hj, rfl⟩ := List.getElem_of_mem h
        have hj' : j < t.text.size := by simpa using hj
        have := spanF_all inWordB t.text t.text.size 0 j hj' (by omega) (by rw [h2.2]; exact hj')
        simp only [ByteArray.getElem_eq_getElem_data] at this
        simp only [Array.getElem_toList]
        intro h64
        rw [h64] at this
        revert this; decide
      · rw [tokB, if_pos h1, decB] at h
        have key : ∀ x ∈ digs 20 t.num.natAbs, (x.toNat : Int) ≠ 64 := fun x hx => by have := digs_all _ _ x hx; unfold isDig at this; omega
        split at h
        · rcases List.mem_cons.1 h with rfl | h
          · decide
          · exact key c h
        · exact key c h
      · rw [tokB, if_neg (by omega), h2] at h
        simp at h; subst h
        intro h64; rw [h64] at h3; revert h3; decide
    · exact pcs_no64 r (fun u hu => hg u (by simp [toksOf, hu])) c h
theorem scanAll_pcs {l : List Pc} (hs : sepA false l = true) (hg : ∀ t ∈ toksOf l, goodT t) (hn : (toksOf l).length ≤ 4000) (hb : (pcsB l).length ≤ 16384) : ∃ ts, scanAll ⟨(pcsB l).toArray⟩ = (ts, 0, 0) ∧ ts.map zp = toksOf l := by
  have hsz : (⟨(pcsB l).toArray⟩ : ByteArray).size = (pcsB l).length := by simp [ByteArray.size]
  obtain ⟨ts, h1, h2⟩ := scan_pcs (s := ⟨(pcsB l).toArray⟩) l 0 [] (⟨(pcsB l).toArray⟩ : ByteArray).size (by omega) (atB_self _) (by omega) hs hg (by simpa using hn) (by omega)
  refine ⟨ts, ?_, h2⟩
  rw [scanAll, if_neg (by omega), h1]; rfl
theorem no64_pcs {l : List Pc} (hg : ∀ t ∈ toksOf l, goodT t) : ∀ i, i < (⟨(pcsB l).toArray⟩ : ByteArray).size → byteAt ⟨(pcsB l).toArray⟩ i ≠ 64 := by
  intro i hi
  rw [byteAt_lt hi]
  refine pcs_no64 l hg _ ?_
  rw [ByteArray.getElem_eq_getElem_data]
  simp
theorem atT_of_map {ts : List Tok} : (l : List Tok) → (k : Nat) → (∀ t ∈ l, t.pos = 0) → (ts.drop k).map zp = l ++ (ts.drop (k + l.length)).map zp → AtT ts k l
  | [], _, _, _ => trivial
  | x :: r, k, hp, h => by
    cases hd : ts.drop k with
    | nil => rw [hd] at h; simp at h
    | cons y q =>
      rw [hd] at h
      simp only [List.map_cons, List.cons_append, List.cons.injEq] at h
      have hk : ts[k]? = some y := by rw [← List.head?_drop, hd]; rfl
      refine ⟨⟨y.pos, ?_⟩, atT_of_map r (k + 1) (fun t ht => hp t (List.mem_cons_of_mem _ ht)) ?_⟩
      · rw [hk, ← h.1]; rfl
      · have e : ts.drop (k + 1) = q := by rw [← List.drop_drop, hd]; rfl
        rw [e, h.2, show k + 1 + r.length = k + (x :: r).length by simp; omega]
theorem atT_all {ts l : List Tok} (h : ts.map zp = l) : AtT ts 0 l ∧ ts.length = l.length := by
  have hl : ts.length = l.length := by rw [← h]; simp
  refine ⟨atT_of_map l 0 (fun t ht => by rw [← h] at ht; obtain ⟨u, _, rfl⟩ := List.mem_map.1 ht; rfl) ?_, hl⟩
  simp [h, ← hl]

/-- How Join puts tokens one after the other. -/
def closes (b : List UInt8) : Bool := b == [59] || b == [58] || b == [44] || b == [41]
def joinPc : Bool → List Tok → List Pc
  | _, [] => []
  | g, t :: r => (if !g && !closes (tokB t) then [.sp, .tk t] else [.tk t]) ++ joinPc (tokB t == [40]) r
def gluedA : Bool → List Tok → Bool
  | g, [] => g
  | _, t :: r => gluedA (tokB t == [40]) r
theorem joinPc_append : (a b : List Tok) → (g : Bool) → joinPc g (a ++ b) = joinPc g a ++ joinPc (gluedA g a) b
  | [], b, g => by simp [joinPc, gluedA]
  | t :: r, b, g => by simp [joinPc, gluedA, joinPc_append r b]
theorem gluedA_snoc : (a : List Tok) → (g : Bool) → (t : Tok) → gluedA g (a ++ [t]) = (tokB t == [40])
  | [], g, t => by simp [gluedA]
  | x :: r, g, t => by simp [gluedA, gluedA_snoc r]
theorem toksOf_joinPc : (l : List Tok) → (g : Bool) → toksOf (joinPc g l) = l
  | [], g => rfl
  | t :: r, g => by
    rw [joinPc, toksOf_append, toksOf_joinPc r]
    split <;> rfl
theorem good_mark {t : Tok} (h : goodT t) {c : UInt8} (hc : tokB t = [c]) (hm : markB (c.toNat : Int) = true) : t.kind = 4 := by
  obtain ⟨_, ⟨h1, h2, h3⟩ | ⟨h1, h2, h3, h4⟩ | ⟨h1, h4, d, h2, h3⟩⟩ := h
  · exfalso
    simp only [wordB, Bool.and_eq_true, bne_iff_ne] at h2
    obtain ⟨⟨⟨⟨h0, _⟩, h5⟩, _⟩, _⟩ := h2
    have h0' : 0 < t.text.size := by omega
    rw [byteAt_lt h0', ByteArray.getElem_eq_getElem_data] at h5
    rw [tokB, if_neg (by omega)] at hc
    have : t.text.data[0]'h0' = c := by rw [← Array.getElem_toList]; simp only [hc, List.getElem_cons_zero]
    rw [this] at h5
    simp [letterB] at h5
    simp [markB] at hm
    omega
  · exfalso
    rw [tokB, if_pos h1, decB] at hc
    have hm' : c.toNat = 59 ∨ c.toNat = 58 ∨ c.toNat = 44 ∨ c.toNat = 40 ∨ c.toNat = 41 := by simp [markB] at hm; omega
    split at hc
    · simp only [List.cons.injEq] at hc
      exact digs_ne 19 _ hc.2
    · have := digs_all 20 t.num.natAbs c (by rw [hc]; simp)
      unfold isDig at this
      omega
  · exact h1
theorem sepA_joinPc : (l : List Tok) → (g p : Bool) → (∀ t ∈ l, goodT t) → (g = true → p = false) → sepA p (joinPc g l) = true
  | [], g, p, _, _ => rfl
  | t :: r, g, p, hg, hp => by
    have hgt := hg t (by simp)
    have ih := sepA_joinPc r (tokB t == [40]) (t.kind != 4) (fun u hu => hg u (List.mem_cons_of_mem _ hu)) (fun h => by
      have := good_mark hgt (c := 40) (by simpa using h) (by decide)
      simp [this])
    rw [joinPc]
    split
    · simp only [List.cons_append, List.nil_append, sepA, ih, Bool.not_false, Bool.true_or, Bool.and_true]
    · rename_i hc
      simp only [List.cons_append, List.nil_append, sepA, ih, Bool.and_true, Bool.or_eq_true, Bool.not_eq_true', beq_iff_eq]
      cases hgg : g with
      | true => exact Or.inl (hp hgg)
      | false =>
        right
        rw [hgg] at hc
        have hcl : closes (tokB t) = true := by simpa using hc
        simp only [closes, Bool.or_eq_true, beq_iff_eq] at hcl
        rcases hcl with ((h | h) | h) | h
        · exact good_mark hgt h (by decide)
        · exact good_mark hgt h (by decide)
        · exact good_mark hgt h (by decide)
        · exact good_mark hgt h (by decide)
/-- The bytes of an expression's text, as pieces. -/
def fmtPc (e : Ex) : List Pc := joinPc true (tokE e)
def fmtB (e : Ex) : List UInt8 := pcsB (fmtPc e)
end Go.Proofs.YtaepiiediblleaaGreatDoor

namespace Go.Proofs.YtaepiiediblleaaGreatDoor
open Go.RowKit

theorem rvalid_calls (n : Int) (w : World) : Calls Tryz.prog 85 #[.int .i64 n] w (Gives (.bool (decide (-17592186044416 ≤ n) && decide (n ≤ 17592186044416))) w) := by
  cases h1 : decide (-17592186044416 ≤ n)
  · go_enter Tryz.func85, Tryz.ntmps85
    go_wp2_with fail
    go_ret
    exact gives_bool rfl
  · go_enter Tryz.func85, Tryz.ntmps85
    go_wp2_with fail
    go_ret
    exact gives_bool (by simp)

theorem uBy : Tryz.prog.underlying 5 = some (.int .u8) := by kernel_rfl
theorem uBs : Tryz.prog.underlying 102 = some (.slice 5) := by kernel_rfl
theorem uSt : Tryz.prog.underlying 9 = some .string := by kernel_rfl
/-- string([]byte{c}) -/
theorem conv_byte (w : World) (x : Nat) (hx : x = w.heap.size) (c : Int) (t : TypeId) : Sem.run Tryz.prog (convert 102 9 (.slice (some ⟨x, 0, none⟩) 1 1)) (w.alloc (.cells #[.int .u8 c] t)) = .ok (.string ⟨#[UInt8.ofNat c.toNat]⟩) (w.alloc (.cells #[.int .u8 c] t)) := by
  subst hx
  rw [run_convert_bytes_string _ _ _ 5 _ _ _ uBs uBy uSt]
  have := run_bytesToString (P := Tryz.prog) (w.alloc (.cells #[.int .u8 c] t)) ⟨w.heap.size, 0, none⟩ 1 1 [c] (by
    refine run_loadCells_list (P := Tryz.prog) _ _ [.int .u8 c] (fun j v hj => ?_)
    have hj0 : j = 0 := by
      have := (List.getElem?_eq_some_iff.1 hj).1
      simpa using this
    subst hj0
    have : (⟨w.heap.size, 0, none⟩ : Addr).add 0 = ⟨w.heap.size, 0, none⟩ := by unfold Addr.add; split <;> simp_all
    rw [this, World.cell?_alloc_at _ _ _ _ rfl]
    simpa using hj)
  rw [this]
  rfl

/-- What digits has still to do. -/
def DigI (D : List UInt8) (m : Nat) (b : List UInt8) : Prop := (m = 0 ∧ b = D ∧ b ≠ []) ∨ ∃ f, m < 10 ^ f ∧ digs f m ++ b = D ∧ (0 < m ∨ b = []) ∧ 0 < f
theorem digI_step {D : List UInt8} {m : Nat} {b : List UInt8} (h : DigI D m b) (hg : 0 < m ∨ b = []) : DigI D (m / 10) (UInt8.ofNat (48 + m % 10) :: b) := by
  rcases h with ⟨h1, _, h3⟩ | ⟨f, h1, h2, _, h4⟩
  · rcases hg with hg | hg
    · omega
    · exact absurd hg h3
  · obtain ⟨f, rfl⟩ : ∃ g, f = g + 1 := ⟨f - 1, by omega⟩
    rw [digs] at h2
    split at h2
    · rename_i hm
      refine Or.inl ⟨by omega, ?_, by simp⟩
      rw [Nat.mod_eq_of_lt hm]; simpa using h2
    · refine Or.inr ⟨f, by rw [Nat.pow_succ] at h1; omega, by simpa using h2, Or.inl (by omega), ?_⟩
      rcases Nat.eq_zero_or_pos f with rfl | hf
      · simp at h1; omega
      · exact hf
theorem digI_done {D : List UInt8} {m : Nat} {b : List UInt8} (h : DigI D m b) (hm : m = 0) (hb : b ≠ []) : b = D := by
  rcases h with ⟨_, h2, _⟩ | ⟨f, _, _, h3, _⟩
  · exact h2
  · rcases h3 with h3 | h3
    · omega
    · exact absurd h3 hb
theorem app_one (x : UInt8) (b : List UInt8) : (⟨#[x]⟩ ++ ⟨b.toArray⟩ : ByteArray) = ⟨(x :: b).toArray⟩ := by
  apply ByteArray.ext
  simp
def emptyS : Value → Nat
  | .string b => if b.size = 0 then 1 else 0
  | _ => 0
def bstr (b : List UInt8) : Value := .string ⟨b.toArray⟩

set_option maxRecDepth 100000 in
set_option maxHeartbeats 1000000 in
theorem digits_calls (n : Nat) (hn : n ≤ 17592186044416) (w : World) : Calls Tryz.prog 109 #[.int .i64 n, .int .i64 1] w (GivesE (bstr (digs 20 n)) w) := by
  have kc := conv_byte
  have h0 := Lib.hid (show DigI (digs 20 n) n [] from Or.inr ⟨20, by omega, by simp, Or.inr rfl, by omega⟩)
  go_enter Tryz.func109, Tryz.ntmps109
  go_wp2_with fail
  go_loopw [0, 5] (fun u s wr => ∃ (m : Nat) (b : List UInt8), u = .int .i64 m ∧ s = .string ⟨b.toArray⟩ ∧ m ≤ 17592186044416 ∧ b.length + m ≤ 18000000000000 ∧ DigI (digs 20 n) m b ∧ Ext w wr) (fun u s _ => (intOf u).toNat + emptyS s)
  case atStart => exact ⟨n, [], rfl, rfl, hn, by simp; omega, h0.out, Ext.refl w⟩
  case round =>
    obtain ⟨m, b, rfl, rfl, hm, hbl, hD, hx⟩ := hrel
    have HD := Lib.hid hD
    have HX := Lib.hid hx
    clear hD hx
    have HA := Lib.hid (app_one (48 + UInt8.ofNat (m % 10)) b)
    by_cases hm0 : 0 < m
    · have t1 : decide (0 < (m : Int)) = true := by simp; omega
      have t2 : decide (0 < m) = true := by simp; omega
      have HGO := Lib.hid (show DigI (digs 20 n) (m / 10) ((48 + UInt8.ofNat (m % 10)) :: b) by have := digI_step HD.out (Or.inl hm0); rwa [UInt8.ofNat_add] at this)
      clear HD
      go_wp2_with fail
      refine ⟨⟨m / 10, _ :: b, by go_num, by rw [HA.out], by omega, by simp; omega, HGO.out, HX.out.alloc _⟩, ?_⟩
      rw [HA.out]
      simp [intOf, emptyS, ByteArray.size]
      omega
    · have t1 : decide (0 < (m : Int)) = false := by simp; omega
      have t2 : decide (0 < m) = false := by simp; omega
      have HM0 := Lib.hid (show m = 0 by omega)
      cases b with
      | nil =>
        have HGO := Lib.hid (show DigI (digs 20 n) (m / 10) ((48 + UInt8.ofNat (m % 10)) :: []) by have := digI_step HD.out (Or.inr rfl); rwa [UInt8.ofNat_add] at this)
        clear HD
        go_wp2_with fail
        refine ⟨⟨m / 10, _ :: [], by go_num, by rw [HA.out], by omega, by simp; omega, HGO.out, HX.out.alloc _⟩, ?_⟩
        rw [HA.out]
        have := HM0.out
        simp [intOf, emptyS, ByteArray.size]
        omega
      | cons c r =>
        have HEND := Lib.hid (digI_done HD.out HM0.out (by simp))
        go_wp2_with fail
        go_ret
        exact ⟨by rw [HEND.out]; rfl, HX.out⟩

theorem digs_le : (f n : Nat) → (digs f n).length ≤ f
  | 0, n => by simp [digs]
  | f + 1, n => by
    have := digs_le f (n / 10)
    rw [digs]; split
    · simp
    · simp; omega
theorem decimal_calls (n : Int) (h1 : -17592186044416 ≤ n) (h2 : n ≤ 17592186044416) (w : World) : Calls Tryz.prog 86 #[.int .i64 n] w (GivesE (bstr (decB n)) w) := by
  by_cases hn : n < 0
  · have t1 : decide (n < 0) = true := by simpa using hn
    have HE := Lib.hid (show decB n = 45 :: digs 20 n.natAbs by rw [decB, if_pos hn])
    have HN := Lib.hid (show -n = (n.natAbs : Int) by omega)
    have hle : n.natAbs ≤ 17592186044416 := by omega
    have HC := Lib.hid (show Calls Tryz.prog 109 #[.int .i64 (-n), .int .i64 1] w (GivesE (bstr (digs 20 n.natAbs)) w) by have := digits_calls _ hle w; rwa [← HN.out] at this)
    clear hle
    go_enter Tryz.func86, Tryz.ntmps86
    go_wp2_with fail
    refine HC.out.mono ?_
    rintro r w1 ⟨rfl, hx⟩
    unfold bstr
    have HX := Lib.hid hx
    clear hx
    have hD := digs_le 20 n.natAbs
    generalize digs 20 n.natAbs = D at *
    go_wp2_with fail
    go_ret
    exact ⟨by rw [HE.out, bstr, ← app_one 45 D]; rfl, HX.out⟩
  · have t1 : decide (n < 0) = false := by simpa using hn
    have HE := Lib.hid (show decB n = digs 20 n.natAbs by rw [decB, if_neg hn])
    have HN := Lib.hid (show n = (n.natAbs : Int) by omega)
    have hle : n.natAbs ≤ 17592186044416 := by omega
    have HC := Lib.hid (show Calls Tryz.prog 109 #[.int .i64 n, .int .i64 1] w (GivesE (bstr (digs 20 n.natAbs)) w) by have := digits_calls _ hle w; rwa [← HN.out] at this)
    go_enter Tryz.func86, Tryz.ntmps86
    go_wp2_with fail
    refine HC.out.mono ?_
    rintro r w1 ⟨rfl, hx⟩
    unfold bstr
    go_wp2_with fail
    go_ret
    exact ⟨by rw [HE.out]; rfl, hx⟩

/-- A text of one byte that is a mark. -/
theorem rmark_calls (c : UInt8) (hm : markB (c.toNat : Int) = true) (w : World) : Calls Tryz.prog 60 #[.string ⟨#[c]⟩] w (Gives (.bool true) w) := by
  have hc : c = 59 ∨ c = 58 ∨ c = 44 ∨ c = 40 ∨ c = 41 := by
    have : c.toNat = 59 ∨ c.toNat = 58 ∨ c.toNat = 44 ∨ c.toNat = 40 ∨ c.toNat = 41 := by simp [markB] at hm; omega
    rcases this with h | h | h | h | h
    · exact Or.inl (toNat_inj h)
    · exact Or.inr (Or.inl (toNat_inj h))
    · exact Or.inr (Or.inr (Or.inl (toNat_inj h)))
    · exact Or.inr (Or.inr (Or.inr (Or.inl (toNat_inj h))))
    · exact Or.inr (Or.inr (Or.inr (Or.inr (toNat_inj h))))
  clear hm
  rcases hc with rfl | rfl | rfl | rfl | rfl
  all_goals
    go_enter Tryz.func60, Tryz.ntmps60
    go_wp2_with fail
    go_ret
    exact gives_bool rfl

def WrittenQ (b : List UInt8) (w : World) (e : Ending) (w' : World) : Prop := e = .returned (.tuple #[bstr b, .int .i64 0]) ∧ Ext w w'
set_option maxRecDepth 100000 in
set_option maxHeartbeats 1000000 in
theorem written_calls (t : Tok) (hg : goodT t) (w : World) : Calls Tryz.prog 48 #[tokV t] w (WrittenQ (tokB t) w) := by
  obtain ⟨hp, hg⟩ := hg
  clear hp
  obtain ⟨h1, h2, h3⟩ | ⟨h1, h2, h3, h4⟩ | ⟨h1, h4, c, h2, h3⟩ := hg
  · have HE := Lib.hid (show bstr (tokB t) = .string t.text by rw [tokB, if_neg (by omega)]; simp [bstr])
    have HW := Lib.hid h2
    have hsz : t.text.size ≤ 1000000000000000 := by simp only [wordB, Bool.and_eq_true, decide_eq_true_eq] at h2; have := h2.1.1.1.2; omega
    have HX := Lib.hid ((Ext.refl w).alloc (.cells #[.int .i64 1, .string t.text, .int .i64 0, .int .i64 t.pos] 73))
    unfold tokV
    rw [h1, h3]
    clear h1 h2 h3
    go_enter Tryz.func48, Tryz.ntmps48
    go_wp2_with fail
    refine (rword_calls _ _ hsz).mono ?_
    rintro r w1 ⟨rfl, rfl⟩
    rw [HW.out]
    go_wp2_with fail
    refine bodyPost_ret (v := .tuple #[.string t.text, .int .i64 0]) (by simp [results, Tryz.results48, go_sem]) rfl ⟨?_, HX.out⟩
    rw [HE.out]
  · have HE := Lib.hid (show bstr (tokB t) = bstr (decB t.num) by rw [tokB, if_pos h1])
    have HX := Lib.hid ((Ext.refl w).alloc (.cells #[.int .i64 2, .string ⟨#[]⟩, .int .i64 t.num, .int .i64 t.pos] 73))
    have HV := Lib.hid (show (decide (-17592186044416 ≤ t.num) && decide (t.num ≤ 17592186044416)) = true by simp [h3, h4])
    have HC := Lib.hid (decimal_calls t.num h3 h4)
    unfold tokV
    rw [h1, h2]
    clear h1 h2 h3 h4
    go_enter Tryz.func48, Tryz.ntmps48
    go_wp2_with fail
    refine (rvalid_calls _ _).mono ?_
    rintro r w1 ⟨rfl, rfl⟩
    rw [HV.out]
    go_wp2_with fail
    refine (HC.out _).mono ?_
    rintro r w1 ⟨rfl, hx⟩
    have HX1 := Lib.hid (HX.out.trans hx)
    clear hx
    unfold bstr
    go_wp2_with fail
    refine bodyPost_ret (v := .tuple #[bstr (decB t.num), .int .i64 0]) (by simp [results, Tryz.results48, go_sem, bstr]) rfl ⟨?_, HX1.out⟩
    rw [HE.out]
  · have HE := Lib.hid (show bstr (tokB t) = .string ⟨#[c]⟩ by rw [tokB, if_neg (by omega), h2]; rfl)
    have HX := Lib.hid ((Ext.refl w).alloc (.cells #[.int .i64 4, .string ⟨#[c]⟩, .int .i64 0, .int .i64 t.pos] 73))
    have HC := Lib.hid (rmark_calls c h3)
    unfold tokV
    rw [h1, h2, h4]
    clear h1 h2 h3 h4
    go_enter Tryz.func48, Tryz.ntmps48
    go_wp2_with fail
    refine (HC.out _).mono ?_
    rintro r w1 ⟨rfl, rfl⟩
    go_wp2_with fail
    refine bodyPost_ret (v := .tuple #[.string ⟨#[c]⟩, .int .i64 0]) (by simp [results, Tryz.results48, go_sem]) rfl ⟨?_, HX.out⟩
    rw [HE.out]
end Go.Proofs.YtaepiiediblleaaGreatDoor

namespace Go.Proofs.YtaepiiediblleaaGreatDoor
open Go.RowKit

/-- Join's two results. -/
def JoinQ (b : List UInt8) (er : Int) (w : World) (e : Ending) (w' : World) : Prop := e = .returned (.tuple #[bstr b, .int .i64 er]) ∧ Ext w w'
theorem app_str (a b : List UInt8) : (⟨a.toArray⟩ ++ ⟨b.toArray⟩ : ByteArray) = ⟨(a ++ b).toArray⟩ := by
  apply ByteArray.ext
  simp
theorem pcs_snoc (l : List Tok) (t : Tok) : pcsB (joinPc true (l ++ [t])) = pcsB (joinPc true l) ++ ((if !gluedA true l && !closes (tokB t) then [32] else []) ++ tokB t) := by
  rw [joinPc_append, pcsB_append]
  simp only [joinPc, List.append_nil]
  split <;> simp [pcsB, Pc.bytes]
theorem pcs_take (l : List Tok) (k : Nat) : (pcsB (joinPc true (l.take k))).length ≤ (pcsB (joinPc true l)).length := by
  have h := joinPc_append (l.take k) (l.drop k) true
  rw [List.take_append_drop] at h
  rw [h, pcsB_append, List.length_append]; omega
theorem toks_at {w : World} {l : List Tok} {a : Option Addr} {n c : Nat} (h : IsToks w l a n c) {k : Nat} (hk : k < l.length) : ∃ b off, a = some ⟨b, off, none⟩ ∧ w.cell? ⟨b, off + k * 4, none⟩ = some (.int .i64 l[k].kind) ∧ w.cell? ⟨b, off + k * 4 + 1, none⟩ = some (.string l[k].text) ∧ w.cell? ⟨b, off + k * 4 + 2, none⟩ = some (.int .i64 l[k].num) ∧ w.cell? ⟨b, off + k * 4 + 3, none⟩ = some (.int .i64 l[k].pos) := by
  obtain ⟨b, off, e, hc⟩ := h.2.2.2 k hk
  exact ⟨b, off, e, hc 0 (by simp [tokCells]), hc 1 (by simp [tokCells]), hc 2 (by simp [tokCells]), hc 3 (by simp [tokCells])⟩

set_option maxRecDepth 100000 in
set_option maxHeartbeats 2000000 in
theorem join_calls (l : List Tok) (a : Option Addr) (n c : Nat) (w : World) (ht : IsToks w l a n c) (hg : ∀ t ∈ l, goodT t) (hn : n ≤ 4000) (hb : (pcsB (joinPc true l)).length ≤ 16384) :
    Calls Tryz.prog 25 #[.slice a n c] w (JoinQ (pcsB (joinPc true l)) 0 w) := by
  have HT := Lib.hid ht
  have HN := Lib.hid ht.1
  have HGD := Lib.hid hg
  have HBL := Lib.hid hb
  clear ht hg hb
  go_enter Tryz.func25, Tryz.ntmps25
  go_wp2_with fail
  go_loopg [4, 5, 6] n (fun g o s i wr => ∃ k : Nat, k ≤ n ∧ g = n - k ∧ i = .int .i64 k ∧ o = bstr (pcsB (joinPc true (l.take k))) ∧ s = .bool (gluedA true (l.take k)) ∧ Ext w wr)
  case atStart => exact ⟨0, by omega, rfl, rfl, rfl, rfl, Ext.refl w⟩
  case round =>
    obtain ⟨k, hk, hgk, rfl, rfl, rfl, hx⟩ := hrel
    have HGN := Lib.hid hgk
    have HX := Lib.hid hx
    clear hgk hx
    by_cases hlt : k < n
    · have hlt' : k < l.length := by have := HN.out; omega
      have t1 : decide ((k : Int) < (n : Int)) = true := by simp; omega
      obtain ⟨b, off, rfl, h0, h1, h2, h3⟩ := toks_at HT.out hlt'
      replace h0 := HX.out.cell h0
      replace h1 := HX.out.cell h1
      replace h2 := HX.out.cell h2
      replace h3 := HX.out.cell h3
      have HE := Lib.hid (show l.take (k + 1) = l.take k ++ [l[k]] by simp)
      have HW := Lib.hid (written_calls l[k] (HGD.out _ (List.getElem_mem hlt')))
      unfold tokV at HW
      have HPC := Lib.hid (show pcsB (joinPc true (l.take (k + 1))) = pcsB (joinPc true (l.take k)) ++ ((if !gluedA true (l.take k) && !closes (tokB l[k]) then [32] else []) ++ tokB l[k]) by rw [HE.out, pcs_snoc])
      have HGL := Lib.hid (show gluedA true (l.take (k + 1)) = (tokB l[k] == [40]) by rw [HE.out, gluedA_snoc])
      have hlen : (pcsB (joinPc true (l.take k))).length ≤ 16384 := Nat.le_trans (pcs_take l k) HBL.out
      have hlen2 : (tokB l[k]).length ≤ 16384 := by
        have h1 := Nat.le_trans (pcs_take l (k + 1)) HBL.out
        rw [HPC.out, List.length_append, List.length_append] at h1
        omega
      go_wp2_with fail
      refine (HW.out _).mono ?_
      rintro r w1 ⟨rfl, hx1⟩
      have HX1 := Lib.hid (HX.out.trans hx1)
      clear hx1 h0 h1 h2 h3
      generalize pcsB (joinPc true (l.take k)) = O at *
      generalize tokB l[k] = T at *
      generalize gluedA true (l.take k) = G at *
      unfold bstr
      go_upto_region 10 with fail
      go_cut [46] (fun s46 wx => s46 = .bool (!G && !closes T) ∧ w1 = wx)
      case first =>
        have hl : (⟨T.toArray⟩ : ByteArray).toList = T := by rw [ByteArray.toList_eq]
        have HC := Lib.hid (show closes T = (T == [59] || T == [58] || T == [44] || T == [41]) from rfl)
        cases G with
        | true =>
          go_wp2_with fail
          go_meet
          case rel => exact ⟨rfl, rfl⟩
        | false =>
          cases h59 : (T == [59]) with
          | true =>
            have HP := Lib.hid (show (!false && !closes T) = false by rw [HC.out, h59]; rfl)
            go_wp2_with fail
            go_meet
            case rel => exact ⟨by rw [HP.out], rfl⟩
          | false =>
          cases h58 : (T == [58]) with
          | true =>
            have HP := Lib.hid (show (!false && !closes T) = false by rw [HC.out, h59, h58]; rfl)
            go_wp2_with fail
            go_meet
            case rel => exact ⟨by rw [HP.out], rfl⟩
          | false =>
          cases h44 : (T == [44]) with
          | true =>
            have HP := Lib.hid (show (!false && !closes T) = false by rw [HC.out, h59, h58, h44]; rfl)
            go_wp2_with fail
            go_meet
            case rel => exact ⟨by rw [HP.out], rfl⟩
          | false =>
            have HP := Lib.hid (show (!false && !closes T) = !(T == [41]) by rw [HC.out, h59, h58, h44]; rfl)
            cases h41 : (T == [41]) with
            | true =>
              rw [h41] at HP
              go_wp2_with fail
              go_meet
              case rel => exact ⟨by rw [HP.out]; rfl, rfl⟩
            | false =>
              rw [h41] at HP
              go_wp2_with fail
              go_meet
              case rel => exact ⟨by rw [HP.out]; rfl, rfl⟩
      case rest =>
        obtain ⟨rfl, rfl⟩ := hcut
        have HA1 := Lib.hid (app_str O [32])
        have HA2 := Lib.hid (app_str O T)
        have HA3 := Lib.hid (app_str (O ++ [32]) T)
        have hl : (⟨T.toArray⟩ : ByteArray).toList = T := by rw [ByteArray.toList_eq]
        cases hsp : (!G && !closes T) with
        | true =>
          have HPC2 := Lib.hid (show pcsB (joinPc true (l.take (k + 1))) = O ++ [32] ++ T by rw [HPC.out, hsp]; simp)
          clear HPC hsp
          go_wp2_with fail
          go_roundg (n - (k + 1))
          case measure => have := HGN.out; omega
          case rel => exact ⟨k + 1, by omega, rfl, by go_num, by rw [HPC2.out, bstr, ← HA3.out, ← HA1.out], by rw [HGL.out], HX1.out⟩
        | false =>
          have HPC2 := Lib.hid (show pcsB (joinPc true (l.take (k + 1))) = O ++ T by rw [HPC.out, hsp]; simp)
          clear HPC hsp
          go_wp2_with fail
          go_roundg (n - (k + 1))
          case measure => have := HGN.out; omega
          case rel => exact ⟨k + 1, by omega, rfl, by go_num, by rw [HPC2.out, bstr, ← HA2.out], by rw [HGL.out], HX1.out⟩
    · have HE2 := Lib.hid (show l.take k = l from List.take_of_length_le (by have := HN.out; omega))
      have t1 : decide ((k : Int) < (n : Int)) = false := by simp; omega
      have hlen : (pcsB (joinPc true (l.take k))).length ≤ 16384 := Nat.le_trans (pcs_take l k) HBL.out
      rw [HE2.out] at hlen ⊢
      unfold bstr
      generalize pcsB (joinPc true l) = O at *
      have tO : decide (16384 < (O.length : Int)) = false := by simp; omega
      have tO2 : decide (16384 < O.length) = false := by simp; omega
      go_wp2_with fail
      refine bodyPost_ret (v := .tuple #[bstr O, .int .i64 0]) (by simp [results, Tryz.results25, go_sem, bstr]) rfl ⟨rfl, HX.out⟩
end Go.Proofs.YtaepiiediblleaaGreatDoor
