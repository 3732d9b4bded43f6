/-
  Texts of the claim, joined: Text1, Parse5, Text2, LawExpr, Plain2, Plain1.
-/
import Derived.Test.YtfjlglefodndjaaDoorDo19
import Derived.Test.YtfjlglefodndjaaDoorDo06
import Derived.Test.YtfjlglefodndjaaDoorDo09
import Derived.Test.YtfjlglefodndjaaDoorDo10
namespace Go.Proofs.YtfjlglefodndjaaDoor

/-- These bytes stand in a text from an offset on. -/
def AtB (s : ByteArray) : Nat → List UInt8 → Prop
  | _, [] => True
  | i, c :: r => (∃ h : i < s.size, s[i] = c) ∧ AtB s (i + 1) r
theorem AtB.append {s : ByteArray} : (a b : List UInt8) → (i : Nat) → AtB s i (a ++ b) ↔ AtB s i a ∧ AtB s (i + a.length) b
  | [], b, i => by simp [AtB]
  | c :: r, b, i => by
    simp only [List.cons_append, AtB, AtB.append r b (i + 1), List.length_cons]
    rw [show i + 1 + r.length = i + (r.length + 1) by omega]
    exact and_assoc.symm
theorem AtB.get {s : ByteArray} : (b : List UInt8) → (i : Nat) → AtB s i b → ∀ j (hj : j < b.length), ∃ h : i + j < s.size, s[i + j] = b[j]
  | [], i, _, j, hj => by simp at hj
  | c :: r, i, h, 0, _ => by simpa using h.1
  | c :: r, i, h, j + 1, hj => by
    obtain ⟨h1, h2⟩ := AtB.get r (i + 1) h.2 j (by simpa using hj)
    have e : i + 1 + j = i + (j + 1) := by omega
    simp only [e] at h2
    exact ⟨by omega, by simpa using h2⟩
theorem AtB.of_get {s : ByteArray} : (b : List UInt8) → (i : Nat) → (∀ j (hj : j < b.length), ∃ h : i + j < s.size, s[i + j] = b[j]) → AtB s i b
  | [], i, _ => trivial
  | c :: r, i, h => by
    obtain ⟨g1, g2⟩ := h 0 (by simp)
    refine ⟨⟨by simpa using g1, by simpa using g2⟩, AtB.of_get r (i + 1) fun j hj => ?_⟩
    obtain ⟨h1, h2⟩ := h (j + 1) (by simpa using hj)
    have e : i + (j + 1) = i + 1 + j := by omega
    simp only [e] at h2
    exact ⟨by omega, by simpa using h2⟩
theorem AtB.le {s : ByteArray} : (b : List UInt8) → (i : Nat) → i ≤ s.size → AtB s i b → i + b.length ≤ s.size
  | [], i, hi, _ => by simpa using hi
  | c :: r, i, _, h => by
    obtain ⟨h1, _⟩ := h.1
    have := AtB.le r (i + 1) h1 h.2
    simp; omega
theorem atB_self (b : List UInt8) : AtB ⟨b.toArray⟩ 0 b := AtB.of_get b 0 fun j hj => by
  have h : 0 + j < (⟨b.toArray⟩ : ByteArray).size := by simp [ByteArray.size]; omega
  refine ⟨h, ?_⟩
  simp [ByteArray.getElem_eq_getElem_data]
theorem AtB.extract {s : ByteArray} {b : List UInt8} {i : Nat} (h : AtB s i b) (hi : i ≤ s.size) : s.extract i (i + b.length) = ⟨b.toArray⟩ := by
  have hle := AtB.le b i hi h
  apply ByteArray.ext
  apply Array.ext
  · rw [ByteArray.data_extract]
    simp only [Array.size_extract, List.size_toArray]
    have : s.data.size = s.size := rfl
    omega
  · intro j h1 h2
    obtain ⟨h3, h4⟩ := AtB.get b i h j (by simpa using h2)
    simp only [ByteArray.data_extract, Array.getElem_extract, List.getElem_toArray]
    rw [← h4]; rfl
theorem AtB.byte {s : ByteArray} {c : UInt8} {r : List UInt8} {i : Nat} (h : AtB s i (c :: r)) : byteAt s i = (c.toNat : Int) := by
  obtain ⟨h1, h2⟩ := h.1
  rw [byteAt_lt h1, h2]
theorem AtB.span {p : Int → Bool} {s : ByteArray} : (b : List UInt8) → (i : Nat) → AtB s i b → (∀ c ∈ b, p (c.toNat : Int) = true) → p (byteAt s (i + b.length)) = false → spanF p s (s.size - i) i = i + b.length
  | [], i, _, _, h => by
    simp only [List.length_nil, Nat.add_zero] at *
    by_cases hi : i < s.size
    · rw [byteAt_lt hi] at h; exact spanF_stop hi h
    · exact spanF_end hi
  | c :: r, i, h, hall, hend => by
    obtain ⟨⟨h1, h2⟩, h3⟩ := h
    have e : i + (c :: r).length = i + 1 + r.length := by simp; omega
    rw [e] at hend ⊢
    rw [spanF_step h1 (by rw [h2]; exact hall c (by simp)), AtB.span r (i + 1) h3 (fun x hx => hall x (List.mem_cons_of_mem _ hx)) hend]

/-- A word is read as one. -/
theorem tokenF_word {s t : ByteArray} {i : Nat} (hw : wordB t = true) (ha : AtB s i t.data.toList) (hi : i ≤ s.size) (hn : inWordB (byteAt s (i + t.data.toList.length)) = false) : tokenF s i = (⟨1, t, 0, i⟩, ((i + t.data.toList.length : Nat) : Int), 0) := by
  have hsp := AtB.span (p := inWordB) t.data.toList i ha (fun c hc => by
    simp only [wordB, Bool.and_eq_true, beq_iff_eq] at hw
    obtain ⟨j, hj, rfl⟩ := List.getElem_of_mem hc
    have hj' : j < t.size := by simpa using hj
    have := spanF_all inWordB t t.size 0 j hj' (by omega) (by rw [hw.2]; exact hj')
    simpa [ByteArray.getElem_eq_getElem_data] using this) hn
  have hex := ha.extract hi
  have et : (⟨t.data.toList.toArray⟩ : ByteArray) = t := by cases t; simp
  rw [et] at hex
  have hl : letterB (byteAt s i) = true := by
    have hw' := hw
    simp only [wordB, Bool.and_eq_true, bne_iff_ne] at hw'
    obtain ⟨⟨⟨⟨h0, _⟩, h1⟩, _⟩, _⟩ := hw'
    have h0' : 0 < t.size := by omega
    obtain ⟨h3, h4⟩ := AtB.get _ i ha 0 (by simpa using h0')
    rw [byteAt_lt h0'] at h1
    have h3' : i < s.size := by simpa using h3
    have h4' : s[i] = t[0] := by simpa [ByteArray.getElem_eq_getElem_data] using h4
    rw [byteAt_lt h3', h4']; exact h1
  rw [tokenF, if_pos hl, hsp, hex, if_pos hw]

/-- The digits of a number. -/
def digs : Nat → Nat → List UInt8
  | 0, _ => []
  | f + 1, n => if n < 10 then [UInt8.ofNat (48 + n)] else digs f (n / 10) ++ [UInt8.ofNat (48 + n % 10)]
/-- A number in decimal. -/
def decB (n : Int) : List UInt8 := if n < 0 then 45 :: digs 20 n.natAbs else digs 20 n.natAbs
def isDig (c : UInt8) : Prop := 48 ≤ c.toNat ∧ c.toNat ≤ 57
theorem isDig_of {n : Nat} (h : n < 10) : isDig (UInt8.ofNat (48 + n)) := by
  have : (UInt8.ofNat (48 + n)).toNat = 48 + n := by rw [UInt8.toNat_ofNat']; omega
  unfold isDig; omega
theorem digs_all : (f n : Nat) → ∀ c ∈ digs f n, isDig c
  | 0, n, c, h => by simp [digs] at h
  | f + 1, n, c, h => by
    rw [digs] at h
    split at h
    · rename_i hn; rw [List.mem_singleton.1 h]; exact isDig_of hn
    · rcases List.mem_append.1 h with h | h
      · exact digs_all f _ c h
      · rw [List.mem_singleton.1 h]; exact isDig_of (by omega)
def valD (n : Int) (b : List UInt8) : Int := b.foldl (fun a c => a * 10 + ((c.toNat : Int) - 48)) n
theorem valD_digs : (f n : Nat) → n < 10 ^ f → valD 0 (digs f n) = n
  | 0, n, h => by simp at h; simp [digs, valD, h]
  | f + 1, n, h => by
    rw [digs]
    split
    · rename_i hn
      have : (UInt8.ofNat (48 + n)).toNat = 48 + n := by rw [UInt8.toNat_ofNat']; omega
      simp only [valD, List.foldl_cons, List.foldl_nil, this]; omega
    · have h1 : n / 10 < 10 ^ f := by rw [Nat.pow_succ] at h; omega
      have ih := valD_digs f (n / 10) h1
      have : (UInt8.ofNat (48 + n % 10)).toNat = 48 + n % 10 := by rw [UInt8.toNat_ofNat']; omega
      unfold valD at *
      rw [List.foldl_append, ih]
      simp only [List.foldl_cons, List.foldl_nil, this]; omega
theorem valD_ge : (b : List UInt8) → (n : Int) → 0 ≤ n → (∀ c ∈ b, isDig c) → n ≤ valD n b
  | [], n, _, _ => by simp [valD]
  | c :: r, n, h, hall => by
    have hc := hall c (by simp)
    unfold isDig at hc
    have := valD_ge r (n * 10 + ((c.toNat : Int) - 48)) (by omega) (fun x hx => hall x (List.mem_cons_of_mem _ hx))
    simp only [valD, List.foldl_cons] at this ⊢
    omega
theorem digs_ne (f n : Nat) : digs (f + 1) n ≠ [] := by
  rw [digs]; split <;> simp
theorem digs_head : (f n : Nat) → 0 < n → n < 10 ^ f → ∃ c r, digs f n = c :: r ∧ c.toNat ≠ 48
  | 0, n, h, h2 => by simp at h2; omega
  | f + 1, n, h, h2 => by
    rw [digs]
    split
    · rename_i hn
      have : (UInt8.ofNat (48 + n)).toNat = 48 + n := by rw [UInt8.toNat_ofNat']; omega
      exact ⟨_, _, rfl, by omega⟩
    · obtain ⟨c, r, h3, h4⟩ := digs_head f (n / 10) (by omega) (by rw [Nat.pow_succ] at h2; omega)
      exact ⟨c, r ++ _, by rw [h3]; rfl, h4⟩
theorem decF_digits {s : ByteArray} : (b : List UInt8) → (k : Nat) → (n : Int) → AtB s k b → k + b.length = s.size → 0 ≤ n → (∀ c ∈ b, isDig c) → valD n b ≤ 17592186044416 → decF s (s.size - k) k n = some (valD n b)
  | [], k, n, _, hk, _, _, _ => by rw [decF_end (by simp at hk; omega)]; simp [valD]
  | c :: r, k, n, h, hk, hn, hall, hv => by
    obtain ⟨⟨h1, h2⟩, h3⟩ := h
    have hc := hall c (by simp)
    unfold isDig at hc
    have hr : ∀ x ∈ r, isDig x := fun x hx => hall x (List.mem_cons_of_mem _ hx)
    have hge := valD_ge r (n * 10 + ((c.toNat : Int) - 48)) (by omega) hr
    have e : valD n (c :: r) = valD (n * 10 + ((c.toNat : Int) - 48)) r := rfl
    rw [e] at hv ⊢
    rw [decF_step h1 (by rw [h2]; omega), h2]
    exact decF_digits r (k + 1) _ h3 (by simp at hk; omega) (by omega) hr hv
theorem numOf_digits (neg : Bool) {m : Nat} (hm : m ≤ 17592186044416) (h0 : neg = true → 0 < m) : numOf neg ⟨(digs 20 m).toArray⟩ = (if neg then -(m : Int) else m, 0) := by
  have hp : m < 10 ^ 20 := by omega
  have hat := atB_self (digs 20 m)
  have hsz : (⟨(digs 20 m).toArray⟩ : ByteArray).size = (digs 20 m).length := by simp [ByteArray.size]
  have hne : (digs 20 m).length ≠ 0 := fun h => digs_ne 19 m (List.eq_nil_of_length_eq_zero h)
  have hd := decF_digits (digs 20 m) 0 0 hat (by rw [hsz]; omega) (by omega) (digs_all 20 m) (by rw [valD_digs 20 m hp]; omega)
  rw [valD_digs 20 m hp] at hd
  rw [numOf, if_neg, hd]
  rintro (h | ⟨h1, h2⟩)
  · omega
  · rcases Nat.eq_zero_or_pos m with rfl | hpos
    · rcases h2 with h2 | h2
      · have := h0 h2; omega
      · rw [hsz] at h2; revert h2; decide
    · obtain ⟨c, r, h3, h4⟩ := digs_head 20 m hpos hp
      rw [h3] at hat h1
      rw [hat.byte] at h1
      exact h4 (by omega)
theorem toNat_inj {a b : UInt8} (h : a.toNat = b.toNat) : a = b := UInt8.toNat_inj.1 h
/-- A number is read as one. -/
theorem tokenF_number {s : ByteArray} {n : Int} {i : Nat} (h1 : -17592186044416 ≤ n) (h2 : n ≤ 17592186044416) (ha : AtB s i (decB n)) (hi : i ≤ s.size) (hn : inWordB (byteAt s (i + (decB n).length)) = false) : tokenF s i = (⟨2, ⟨#[]⟩, n, i⟩, ((i + (decB n).length : Nat) : Int), 0) := by
  have hnd : digitB (byteAt s (i + (decB n).length)) = false := by simp [inWordB] at hn; simp [hn]
  have hdig : ∀ c ∈ digs 20 n.natAbs, digitB (c.toNat : Int) = true := fun c hc => by have := digs_all _ _ c hc; unfold isDig at this; simp [digitB]; omega
  have hex := ha.extract hi
  obtain ⟨c, r, hcr⟩ : ∃ c r, digs 20 n.natAbs = c :: r := by
    cases h : digs 20 n.natAbs with
    | nil => exact absurd h (digs_ne 19 _)
    | cons c r => exact ⟨c, r, rfl⟩
  have hc : isDig c := digs_all 20 n.natAbs c (by rw [hcr]; simp)
  unfold isDig at hc
  by_cases hneg : n < 0
  · have e : decB n = 45 :: digs 20 n.natAbs := by rw [decB, if_pos hneg]
    rw [e] at ha hex hnd ⊢
    have hb := ha.byte
    have hsp := AtB.span (p := digitB) (digs 20 n.natAbs) (i + 1) ha.2 hdig (by simpa [Nat.add_assoc, Nat.add_comm 1] using hnd)
    have e2 : i + (45 :: digs 20 n.natAbs).length = i + 1 + (digs 20 n.natAbs).length := by simp; omega
    rw [e2] at hex ⊢
    have hnum : numberF (⟨(45 :: digs 20 n.natAbs).toArray⟩ : ByteArray) = (n, 0) := by
      have ha2 := atB_self (45 :: digs 20 n.natAbs)
      rw [numberF, if_pos (by rw [ha2.byte]; rfl)]
      have h3 := AtB.extract (s := ⟨(45 :: digs 20 n.natAbs).toArray⟩) (i := 1) ha2.2 (by simp [ByteArray.size])
      rw [show (⟨(45 :: digs 20 n.natAbs).toArray⟩ : ByteArray).size = 1 + (digs 20 n.natAbs).length by simp [ByteArray.size]; omega, h3, numOf_digits true (by omega) (by omega)]
      simp; omega
    rw [tokenF, if_neg (by rw [hb]; decide), if_pos (by rw [hb]; decide), hsp, hex, hnum, if_pos rfl]
  · have e : decB n = digs 20 n.natAbs := by rw [decB, if_neg hneg]
    rw [e] at ha hex hnd ⊢
    have ha' := ha
    rw [hcr] at ha'
    have hb := ha'.byte
    have hsp := AtB.span (p := digitB) r (i + 1) ha'.2 (fun x hx => hdig x (by rw [hcr]; exact List.mem_cons_of_mem _ hx)) (by rw [hcr] at hnd; simpa [Nat.add_assoc, Nat.add_comm 1] using hnd)
    have e2 : i + (digs 20 n.natAbs).length = i + 1 + r.length := by rw [hcr]; simp; omega
    rw [e2] at hex ⊢
    have hnum : numberF (⟨(digs 20 n.natAbs).toArray⟩ : ByteArray) = (n, 0) := by
      have ha2 := atB_self (digs 20 n.natAbs)
      rw [hcr] at ha2
      rw [numberF, if_neg (by rw [hcr, ha2.byte]; omega), numOf_digits false (by omega) (by simp)]
      simp; omega
    have hdg : digitB (byteAt s i) = true := by rw [hb]; simp [digitB]; omega
    have hlt : letterB (byteAt s i) = false := by rw [hb]; simp [letterB]; omega
    rw [tokenF, if_neg (by rw [hlt]; simp), if_pos (by rw [hdg]; rfl), hsp, hex, hnum, if_pos rfl]
/-- A mark is read as one. -/
theorem tokenF_mark {s : ByteArray} {c : UInt8} {i : Nat} (hm : markB (c.toNat : Int) = true) (ha : AtB s i [c]) (hi : i ≤ s.size) : tokenF s i = (⟨4, ⟨#[c]⟩, 0, i⟩, ((i + 1 : Nat) : Int), 0) := by
  have hex := ha.extract hi
  have hb := ha.byte
  simp only [List.length_singleton] at hex
  have hc : c.toNat = 59 ∨ c.toNat = 58 ∨ c.toNat = 44 ∨ c.toNat = 40 ∨ c.toNat = 41 := by simp [markB] at hm; omega
  rw [tokenF, if_neg (by rw [hb]; simp [letterB]; omega), if_neg (by rw [hb]; simp [digitB]; omega), if_pos (by rw [hb]; exact hm), hex]
end Go.Proofs.YtfjlglefodndjaaDoor

namespace Go.Proofs.YtfjlglefodndjaaDoor
open Go.RowKit

/-- What the scanner makes of a text. -/
def scanAll (s : ByteArray) : List Tok × Int × Int := if 16384 < s.size then ([], 0, 4) else scanF s s.size 0 []
def ParseQ (e : Ex) (er : Int) (M : List Nat) (w : World) (r : Ending) (w' : World) : Prop := ∃ (x : ExV) (off : Int), r = .returned (.tuple #[x.val, .int .i64 off, .int .i64 er]) ∧ IsEx (mask w' M) e x.val ∧ (er = 0 → off = 0) ∧ Ext w w'

end Go.Proofs.YtfjlglefodndjaaDoor

namespace Go.Proofs.YtfjlglefodndjaaDoor

/-- A piece of a text: a blank, or a token. -/
inductive Pc where
  | sp
  | tk (t : Tok)
def tokB (t : Tok) : List UInt8 := if t.kind = 2 then decB t.num else t.text.data.toList
def Pc.bytes : Pc → List UInt8
  | .sp => [32]
  | .tk t => tokB t
def pcsB (l : List Pc) : List UInt8 := l.flatMap Pc.bytes
def toksOf : List Pc → List Tok
  | [] => []
  | .sp :: r => toksOf r
  | .tk t :: r => t :: toksOf r
theorem pcsB_append (a b : List Pc) : pcsB (a ++ b) = pcsB a ++ pcsB b := by simp [pcsB]
theorem toksOf_append : (a b : List Pc) → toksOf (a ++ b) = toksOf a ++ toksOf b
  | [], b => rfl
  | .sp :: r, b => by simp [toksOf, toksOf_append r b]
  | .tk t :: r, b => by simp [toksOf, toksOf_append r b]
/-- A token that can be written. -/
def goodT (t : Tok) : Prop := t.pos = 0 ∧ ((t.kind = 1 ∧ wordB t.text = true ∧ t.num = 0) ∨ (t.kind = 2 ∧ t.text = ⟨#[]⟩ ∧ -17592186044416 ≤ t.num ∧ t.num ≤ 17592186044416) ∨ (t.kind = 4 ∧ t.num = 0 ∧ ∃ c : UInt8, t.text = ⟨#[c]⟩ ∧ markB (c.toNat : Int) = true))
/-- Between two tokens of which none is a mark there is a blank. -/
def sepA : Bool → List Pc → Bool
  | _, [] => true
  | _, .sp :: r => sepA false r
  | p, .tk t :: r => (!p || t.kind == 4) && sepA (t.kind != 4) r
def endA : Bool → List Pc → Bool
  | p, [] => p
  | _, .sp :: r => endA false r
  | _, .tk t :: r => endA (t.kind != 4) r
theorem sepA_append : (a b : List Pc) → (p : Bool) → sepA p (a ++ b) = (sepA p a && sepA (endA p a) b)
  | [], b, p => by simp [sepA, endA]
  | .sp :: r, b, p => by simp [sepA, endA, sepA_append r b]
  | .tk t :: r, b, p => by simp [sepA, endA, sepA_append r b, Bool.and_assoc]
theorem sepA_false {l : List Pc} {p : Bool} (h : sepA p l = true) : sepA false l = true := by
  cases l with
  | nil => rfl
  | cons x r =>
    cases x with
    | sp => simpa [sepA] using h
    | tk t => simp only [sepA, Bool.and_eq_true] at h ⊢; exact ⟨by simp, h.2⟩
theorem goodT_ne {t : Tok} (h : goodT t) : ∃ c r, tokB t = c :: r ∧ (c.toNat : Int) ≠ 32 ∧ (c.toNat : Int) ≠ 10 ∧ (c.toNat : Int) ≠ 35 ∧ (t.kind = 4 → inWordB (c.toNat : Int) = false) := by
  obtain ⟨_, ⟨h1, h2, _⟩ | ⟨h1, h2, h3, h4⟩ | ⟨h1, _, c, h2, h3⟩⟩ := h
  · have hw := h2
    simp only [wordB, Bool.and_eq_true, bne_iff_ne] at hw
    obtain ⟨⟨⟨⟨h0, _⟩, h5⟩, _⟩, _⟩ := hw
    have h0' : 0 < t.text.size := by omega
    rw [byteAt_lt h0'] at h5
    have e : tokB t = t.text.data.toList := by rw [tokB, if_neg (by omega)]
    cases hb : t.text.data.toList with
    | nil =>
      have : t.text.data.toList.length = 0 := by rw [hb]; rfl
      rw [Array.length_toList] at this
      have e2 : t.text.data.size = t.text.size := rfl
      omega
    | cons c r =>
      have hc : t.text[0] = c := by
        rw [ByteArray.getElem_eq_getElem_data, ← Array.getElem_toList]
        simp only [hb, List.getElem_cons_zero]
      rw [hc] at h5
      simp [letterB] at h5
      exact ⟨c, r, by rw [e, hb], by omega, by omega, by omega, fun h => by omega⟩
  · have e : tokB t = decB t.num := by rw [tokB, if_pos h1]
    rw [e, decB]
    split
    · exact ⟨45, _, rfl, by decide, by decide, by decide, fun h => by omega⟩
    · cases hb : digs 20 t.num.natAbs with
      | nil => exact absurd hb (digs_ne 19 _)
      | cons c r =>
        have := digs_all 20 t.num.natAbs c (by rw [hb]; simp)
        unfold isDig at this
        exact ⟨c, r, rfl, by omega, by omega, by omega, fun h => by omega⟩
  · have e : tokB t = [c] := by rw [tokB, if_neg (by omega), h2]
    have hc : c.toNat = 59 ∨ c.toNat = 58 ∨ c.toNat = 44 ∨ c.toNat = 40 ∨ c.toNat = 41 := by simp [markB] at h3; omega
    exact ⟨c, [], e, by omega, by omega, by omega, fun _ => by simp [inWordB, letterB, digitB]; omega⟩
theorem tokenF_good {s : ByteArray} {t : Tok} {i : Nat} (h : goodT t) (ha : AtB s i (tokB t)) (hi : i ≤ s.size) (hn : t.kind ≠ 4 → inWordB (byteAt s (i + (tokB t).length)) = false) : tokenF s i = (⟨t.kind, t.text, t.num, i⟩, ((i + (tokB t).length : Nat) : Int), 0) := by
  obtain ⟨_, ⟨h1, h2, h3⟩ | ⟨h1, h2, h3, h4⟩ | ⟨h1, h4, c, h2, h3⟩⟩ := h
  · have e : tokB t = t.text.data.toList := by rw [tokB, if_neg (by omega)]
    rw [e] at ha hn ⊢
    rw [tokenF_word h2 ha hi (hn (by omega)), h1, h3]
  · have e : tokB t = decB t.num := by rw [tokB, if_pos h1]
    rw [e] at ha hn ⊢
    rw [tokenF_number h3 h4 ha hi (hn (by omega)), h1, h2]
  · have e : tokB t = [c] := by rw [tokB, if_neg (by omega), h2]
    rw [e] at ha ⊢
    rw [tokenF_mark h3 ha hi, h1, h2, h4]; rfl
/-- A token without its place. -/
def zp (t : Tok) : Tok := ⟨t.kind, t.text, t.num, 0⟩
/-- A text of pieces is divided into their tokens. -/
theorem scan_pcs {s : ByteArray} : (l : List Pc) → (i : Nat) → (acc : List Tok) → (f : Nat) → i ≤ s.size → AtB s i (pcsB l) → i + (pcsB l).length = s.size → sepA false l = true → (∀ t ∈ toksOf l, goodT t) → acc.length + (toksOf l).length ≤ 4000 → s.size - i ≤ f →
    ∃ ts, scanF s f i acc = (acc ++ ts, 0, 0) ∧ ts.map zp = toksOf l
  | [], i, acc, f, hi, _, hl, _, _, _, hf => by
    refine ⟨[], ?_, rfl⟩
    simp [pcsB] at hl
    cases f with
    | zero => simp [scanF]
    | succ f => rw [scanF, if_pos (by omega)]; simp
  | .sp :: r, i, acc, f, hi, ha, hl, hs, hg, hn, hf => by
    have e : pcsB (.sp :: r) = 32 :: pcsB r := rfl
    rw [e] at ha hl
    have hb := ha.byte
    obtain ⟨h1, _⟩ := ha.1
    obtain ⟨g, rfl⟩ : ∃ g, f = g + 1 := ⟨f - 1, by omega⟩
    obtain ⟨ts, h2, h3⟩ := scan_pcs r (i + 1) acc g h1 ha.2 (by simp at hl; omega) (by simpa [sepA] using hs) hg hn (by omega)
    refine ⟨ts, ?_, h3⟩
    rw [scanF, if_neg (by omega), if_pos (by rw [hb]; rfl), h2]
  | .tk t :: r, i, acc, f, hi, ha, hl, hs, hg, hn, hf => by
    have e : pcsB (.tk t :: r) = tokB t ++ pcsB r := rfl
    rw [e] at ha hl
    rw [AtB.append] at ha
    have hgt := hg t (by simp [toksOf])
    obtain ⟨c, q, hc, c1, c2, c3, _⟩ := goodT_ne hgt
    have hb : byteAt s i = (c.toNat : Int) := by have := ha.1; rw [hc] at this; exact this.byte
    have h1 : i < s.size := by have := ha.1; rw [hc] at this; exact this.1.1
    obtain ⟨g, rfl⟩ : ∃ g, f = g + 1 := ⟨f - 1, by omega⟩
    have hle := AtB.le _ i hi ha.1
    have hsr : sepA (t.kind != 4) r = true := by simp only [sepA, Bool.and_eq_true] at hs; exact hs.2
    have hnext : t.kind ≠ 4 → inWordB (byteAt s (i + (tokB t).length)) = false := by
      intro hk
      have hp : (t.kind != 4) = true := by simpa using hk
      rw [hp] at hsr
      cases r with
      | nil =>
        have : ¬ i + (tokB t).length < s.size := by simp [pcsB] at hl; omega
        rw [byteAt, dif_neg this]; decide
      | cons x r' =>
        cases x with
        | sp => have h2 : AtB s (i + (tokB t).length) (32 :: pcsB r') := ha.2; rw [h2.byte]; decide
        | tk u =>
          have h2 : AtB s (i + (tokB t).length) (tokB u ++ pcsB r') := ha.2
          rw [AtB.append] at h2
          simp only [sepA, Bool.and_eq_true, Bool.not_true, Bool.false_or, beq_iff_eq] at hsr
          obtain ⟨c', q', hc', _, _, _, h4⟩ := goodT_ne (hg u (by simp [toksOf]))
          have h3 := h2.1
          rw [hc'] at h3
          rw [h3.byte]; exact h4 hsr.1
    have htok := tokenF_good hgt ha.1 hi hnext
    obtain ⟨ts, h2, h3⟩ := scan_pcs r (i + (tokB t).length) (acc ++ [⟨t.kind, t.text, t.num, i⟩]) g hle ha.2 (by rw [List.length_append] at hl; omega) (sepA_false hsr) (fun u hu => hg u (by simp [toksOf, hu])) (by simp [toksOf] at hn ⊢; omega) (by rw [hc]; simp; omega)
    refine ⟨⟨t.kind, t.text, t.num, i⟩ :: ts, ?_, ?_⟩
    · rw [scanF_tok h1 (by rw [hb]; simpa using c1) (by rw [hb]; simpa using c2) (by rw [hb]; simpa using c3), htok, tokStep_go (by simp [toksOf] at hn; omega), h2]
      · simp
      · by_cases hk2 : t.kind = 2
        · refine Or.inr ?_
          have h5 := hnext (by omega)
          by_cases hlt : i + (tokB t).length < s.size
          · refine Or.inr ⟨hlt, ?_⟩
            rw [byteAt_lt hlt] at h5
            simp only [inWordB, Bool.or_eq_false_iff] at h5
            exact ⟨h5.1.1, h5.2⟩
          · exact Or.inl hlt
        · exact Or.inl (by simpa using hk2)
    · have hp := hgt.1
      simp only [List.map_cons, toksOf, h3, zp]
      cases t; simp at hp; subst hp; rfl
theorem pcs_no64 : (l : List Pc) → (∀ t ∈ toksOf l, goodT t) → ∀ c ∈ pcsB l, (c.toNat : Int) ≠ 64
  | [], _, c, h => by simp [pcsB] at h
  | .sp :: r, hg, c, h => by
    have e : pcsB (.sp :: r) = 32 :: pcsB r := rfl
    rw [e] at h
    rcases List.mem_cons.1 h with rfl | h
    · decide
    · exact pcs_no64 r hg c h
  | .tk t :: r, hg, c, h => by
    have e : pcsB (.tk t :: r) = tokB t ++ pcsB r := rfl
    rw [e] at h
    rcases List.mem_append.1 h with h | h
    · obtain ⟨_, ⟨h1, h2, h3⟩ | ⟨h1, h2, h3, h4⟩ | ⟨h1, h4, d, h2, h3⟩⟩ := hg t (by simp [toksOf])
      · rw [tokB, if_neg (by omega)] at h
        simp only [wordB, Bool.and_eq_true, beq_iff_eq] at h2
        obtain ⟨j, hj, rfl⟩ := List.getElem_of_mem h
        have hj' : j < t.text.size := by simpa using hj
        have := spanF_all inWordB t.text t.text.size 0 j hj' (by omega) (by rw [h2.2]; exact hj')
        simp only [ByteArray.getElem_eq_getElem_data] at this
        simp only [Array.getElem_toList]
        intro h64
        rw [h64] at this
        revert this; decide
      · rw [tokB, if_pos h1, decB] at h
        have key : ∀ x ∈ digs 20 t.num.natAbs, (x.toNat : Int) ≠ 64 := fun x hx => by have := digs_all _ _ x hx; unfold isDig at this; omega
        split at h
        · rcases List.mem_cons.1 h with rfl | h
          · decide
          · exact key c h
        · exact key c h
      · rw [tokB, if_neg (by omega), h2] at h
        simp at h; subst h
        intro h64; rw [h64] at h3; revert h3; decide
    · exact pcs_no64 r (fun u hu => hg u (by simp [toksOf, hu])) c h
theorem scanAll_pcs {l : List Pc} (hs : sepA false l = true) (hg : ∀ t ∈ toksOf l, goodT t) (hn : (toksOf l).length ≤ 4000) (hb : (pcsB l).length ≤ 16384) : ∃ ts, scanAll ⟨(pcsB l).toArray⟩ = (ts, 0, 0) ∧ ts.map zp = toksOf l := by
  have hsz : (⟨(pcsB l).toArray⟩ : ByteArray).size = (pcsB l).length := by simp [ByteArray.size]
  obtain ⟨ts, h1, h2⟩ := scan_pcs (s := ⟨(pcsB l).toArray⟩) l 0 [] (⟨(pcsB l).toArray⟩ : ByteArray).size (by omega) (atB_self _) (by omega) hs hg (by simpa using hn) (by omega)
  refine ⟨ts, ?_, h2⟩
  rw [scanAll, if_neg (by omega), h1]; rfl
theorem no64_pcs {l : List Pc} (hg : ∀ t ∈ toksOf l, goodT t) : ∀ i, i < (⟨(pcsB l).toArray⟩ : ByteArray).size → byteAt ⟨(pcsB l).toArray⟩ i ≠ 64 := by
  intro i hi
  rw [byteAt_lt hi]
  refine pcs_no64 l hg _ ?_
  rw [ByteArray.getElem_eq_getElem_data]
  simp
theorem atT_of_map {ts : List Tok} : (l : List Tok) → (k : Nat) → (∀ t ∈ l, t.pos = 0) → (ts.drop k).map zp = l ++ (ts.drop (k + l.length)).map zp → AtT ts k l
  | [], _, _, _ => trivial
  | x :: r, k, hp, h => by
    cases hd : ts.drop k with
    | nil => rw [hd] at h; simp at h
    | cons y q =>
      rw [hd] at h
      simp only [List.map_cons, List.cons_append, List.cons.injEq] at h
      have hk : ts[k]? = some y := by rw [← List.head?_drop, hd]; rfl
      refine ⟨⟨y.pos, ?_⟩, atT_of_map r (k + 1) (fun t ht => hp t (List.mem_cons_of_mem _ ht)) ?_⟩
      · rw [hk, ← h.1]; rfl
      · have e : ts.drop (k + 1) = q := by rw [← List.drop_drop, hd]; rfl
        rw [e, h.2, show k + 1 + r.length = k + (x :: r).length by simp; omega]
theorem atT_all {ts l : List Tok} (h : ts.map zp = l) : AtT ts 0 l ∧ ts.length = l.length := by
  have hl : ts.length = l.length := by rw [← h]; simp
  refine ⟨atT_of_map l 0 (fun t ht => by rw [← h] at ht; obtain ⟨u, _, rfl⟩ := List.mem_map.1 ht; rfl) ?_, hl⟩
  simp [h, ← hl]

/-- How Join puts tokens one after the other. -/
def closes (b : List UInt8) : Bool := b == [59] || b == [58] || b == [44] || b == [41]
def joinPc : Bool → List Tok → List Pc
  | _, [] => []
  | g, t :: r => (if !g && !closes (tokB t) then [.sp, .tk t] else [.tk t]) ++ joinPc (tokB t == [40]) r
def gluedA : Bool → List Tok → Bool
  | g, [] => g
  | _, t :: r => gluedA (tokB t == [40]) r
theorem joinPc_append : (a b : List Tok) → (g : Bool) → joinPc g (a ++ b) = joinPc g a ++ joinPc (gluedA g a) b
  | [], b, g => by simp [joinPc, gluedA]
  | t :: r, b, g => by simp [joinPc, gluedA, joinPc_append r b]
theorem gluedA_snoc : (a : List Tok) → (g : Bool) → (t : Tok) → gluedA g (a ++ [t]) = (tokB t == [40])
  | [], g, t => by simp [gluedA]
  | x :: r, g, t => by simp [gluedA, gluedA_snoc r]
theorem toksOf_joinPc : (l : List Tok) → (g : Bool) → toksOf (joinPc g l) = l
  | [], g => rfl
  | t :: r, g => by
    rw [joinPc, toksOf_append, toksOf_joinPc r]
    split <;> rfl
theorem good_mark {t : Tok} (h : goodT t) {c : UInt8} (hc : tokB t = [c]) (hm : markB (c.toNat : Int) = true) : t.kind = 4 := by
  obtain ⟨_, ⟨h1, h2, h3⟩ | ⟨h1, h2, h3, h4⟩ | ⟨h1, h4, d, h2, h3⟩⟩ := h
  · exfalso
    simp only [wordB, Bool.and_eq_true, bne_iff_ne] at h2
    obtain ⟨⟨⟨⟨h0, _⟩, h5⟩, _⟩, _⟩ := h2
    have h0' : 0 < t.text.size := by omega
    rw [byteAt_lt h0', ByteArray.getElem_eq_getElem_data] at h5
    rw [tokB, if_neg (by omega)] at hc
    have : t.text.data[0]'h0' = c := by rw [← Array.getElem_toList]; simp only [hc, List.getElem_cons_zero]
    rw [this] at h5
    simp [letterB] at h5
    simp [markB] at hm
    omega
  · exfalso
    rw [tokB, if_pos h1, decB] at hc
    have hm' : c.toNat = 59 ∨ c.toNat = 58 ∨ c.toNat = 44 ∨ c.toNat = 40 ∨ c.toNat = 41 := by simp [markB] at hm; omega
    split at hc
    · simp only [List.cons.injEq] at hc
      exact digs_ne 19 _ hc.2
    · have := digs_all 20 t.num.natAbs c (by rw [hc]; simp)
      unfold isDig at this
      omega
  · exact h1
theorem sepA_joinPc : (l : List Tok) → (g p : Bool) → (∀ t ∈ l, goodT t) → (g = true → p = false) → sepA p (joinPc g l) = true
  | [], g, p, _, _ => rfl
  | t :: r, g, p, hg, hp => by
    have hgt := hg t (by simp)
    have ih := sepA_joinPc r (tokB t == [40]) (t.kind != 4) (fun u hu => hg u (List.mem_cons_of_mem _ hu)) (fun h => by
      have := good_mark hgt (c := 40) (by simpa using h) (by decide)
      simp [this])
    rw [joinPc]
    split
    · simp only [List.cons_append, List.nil_append, sepA, ih, Bool.not_false, Bool.true_or, Bool.and_true]
    · rename_i hc
      simp only [List.cons_append, List.nil_append, sepA, ih, Bool.and_true, Bool.or_eq_true, Bool.not_eq_true', beq_iff_eq]
      cases hgg : g with
      | true => exact Or.inl (hp hgg)
      | false =>
        right
        rw [hgg] at hc
        have hcl : closes (tokB t) = true := by simpa using hc
        simp only [closes, Bool.or_eq_true, beq_iff_eq] at hcl
        rcases hcl with ((h | h) | h) | h
        · exact good_mark hgt h (by decide)
        · exact good_mark hgt h (by decide)
        · exact good_mark hgt h (by decide)
        · exact good_mark hgt h (by decide)
/-- The bytes of an expression's text, as pieces. -/
def fmtPc (e : Ex) : List Pc := joinPc true (tokE e)
def fmtB (e : Ex) : List UInt8 := pcsB (fmtPc e)
end Go.Proofs.YtfjlglefodndjaaDoor

namespace Go.Proofs.YtfjlglefodndjaaDoor
open Go.RowKit

instance okAttrDec (a : Attr) : Decidable (OkAttr a) := by unfold OkAttr; infer_instance
theorem schemas_ok : ∀ l ∈ schemas, (∀ a ∈ l, OkAttr a) ∧ l ≠ [] ∧ l.length ≤ 1000 := by
  have h : ∀ l ∈ schemas, (∀ a ∈ l, OkAttr a) ∧ l.length ≠ 0 ∧ l.length ≤ 1000 := by decide +kernel
  intro l hl
  obtain ⟨h1, h2, h3⟩ := h l hl
  exact ⟨h1, fun e => h2 (by rw [e]; rfl), h3⟩
def defOld : List ByteArray := [⟨#[100, 101, 102]⟩, ⟨#[111, 108, 100]⟩]
/-- An expression was made; nothing that was there has changed. -/
def LawExprQ (M : List Nat) (w : World) (e : Ending) (w' : World) : Prop := ∃ (x : Ex) (v : ExV) (attrs : List Attr), e = .returned v.val ∧ attrs ∈ schemas ∧ MadeE attrs defOld 5 x ∧ IsEx (mask w' M) x v.val ∧ Ext w w'

end Go.Proofs.YtfjlglefodndjaaDoor

namespace Go.Proofs.YtfjlglefodndjaaDoor

theorem goodT_name {s : ByteArray} (h : wordB s = true) : goodT (nameT s) := ⟨rfl, Or.inl ⟨rfl, h, rfl⟩⟩
theorem goodT_mark {c : UInt8} (h : markB (c.toNat : Int) = true) : goodT (markT c) := ⟨rfl, Or.inr (Or.inr ⟨rfl, rfl, c, rfl, h⟩)⟩
theorem goodT_num {n : Int} (h : numberB n = true) : goodT (numT n) := by
  simp [numberB] at h
  exact ⟨rfl, Or.inr (Or.inl ⟨rfl, rfl, by simp only [numT]; omega, by simp only [numT]; omega⟩)⟩
theorem nameB_wordB {s : ByteArray} (h : nameB s = true) : wordB s = true := by simp only [nameB, Bool.and_eq_true] at h; exact h.1
theorem words_ok : wordB wTrue = true ∧ wordB wFalse = true ∧ wordB wIn = true ∧ wordB wFrom = true ∧ wordB wTo = true ∧ wordB wNot = true ∧ wordB wAnd = true ∧ wordB wOr = true := by decide +kernel
theorem good_listed : (l : List ByteArray) → (∀ x ∈ l, nameB x = true) → ∀ t ∈ listedT l, goodT t
  | [], _, t, h => by simp [listedT] at h
  | [a], hn, t, h => by simp [listedT] at h; subst h; exact goodT_name (nameB_wordB (hn a (by simp)))
  | a :: b :: r, hn, t, h => by
    rw [listedT] at h
    rcases List.mem_cons.1 h with rfl | h
    · exact goodT_name (nameB_wordB (hn a (by simp)))
    · rcases List.mem_cons.1 h with rfl | h
      · exact goodT_mark (by decide)
      · exact good_listed (b :: r) (fun x hx => hn x (List.mem_cons_of_mem _ hx)) t h
    all_goals simp
theorem good_argT {op : Int} {a : Ex} (h : ∀ t ∈ tokE a, goodT t) : ∀ t ∈ argT op a, goodT t := by
  intro t ht
  unfold argT at ht
  split at ht
  · simp only [List.mem_append, List.mem_singleton] at ht
    rcases ht with (rfl | ht) | rfl
    · exact goodT_mark (by decide)
    · exact h t ht
    · exact goodT_mark (by decide)
  · exact h t ht
theorem good_tokMore {op : Int} : (l : List Ex) → (∀ a ∈ l, ∀ t ∈ tokE a, goodT t) → ∀ t ∈ tokMore op l, goodT t
  | [], _, t, h => by simp [tokMore] at h
  | a :: r, ha, t, h => by
    rw [tokMore_cons] at h
    rcases List.mem_cons.1 h with rfl | h
    · split
      · exact goodT_name words_ok.2.2.2.2.2.2.1
      · exact goodT_name words_ok.2.2.2.2.2.2.2
    · rcases List.mem_append.1 h with h | h
      · exact good_argT (ha a (by simp)) t h
      · exact good_tokMore r (fun x hx => ha x (List.mem_cons_of_mem _ hx)) t h
theorem good_tokArgs {op : Int} (l : List Ex) (ha : ∀ a ∈ l, ∀ t ∈ tokE a, goodT t) : ∀ t ∈ tokArgs op l, goodT t := by
  intro t h
  cases l with
  | nil => simp [tokArgs] at h
  | cons a r =>
    rw [tokArgs_cons] at h
    rcases List.mem_append.1 h with h | h
    · exact good_argT (ha a (by simp)) t h
    · exact good_tokMore r (fun x hx => ha x (List.mem_cons_of_mem _ hx)) t h
theorem okTree_parts {e : Ex} (h : okTree e) : okNode e ∧ ∀ x ∈ e.args, okTree x := by
  cases e; unfold okTree at h; exact ⟨h.1, okTrees_mem h.2⟩
theorem okTree_mk {e : Ex} (h1 : okNode e) (h2 : ∀ x ∈ e.args, okTree x) : okTree e := by
  cases e with
  | mk op name words lo hi args =>
    unfold okTree
    refine ⟨h1, ?_⟩
    simp only [Ex.args] at h2
    clear h1
    induction args with
    | nil => unfold okTrees; trivial
    | cons a r ih => unfold okTrees; exact ⟨h2 a (by simp), ih (fun x hx => h2 x (List.mem_cons_of_mem _ hx))⟩
/-- The tokens of an expression, by its operator. -/
theorem tokE_eq (e : Ex) : tokE e = if e.op = 1 then [nameT wTrue] else if e.op = 2 then [nameT wFalse] else if e.op = 3 then [nameT e.name] else
    if e.op = 4 then [nameT e.name, nameT wIn, markT 40] ++ listedT e.words ++ [markT 41] else
    if e.op = 5 then [nameT e.name, nameT wFrom, numT e.lo, nameT wTo, numT e.hi] else
    (if e.op = 6 then [nameT wNot] else []) ++ tokArgs e.op e.args := by cases e; rw [tokE]; rfl
/-- The tokens of a valid expression can be written. -/
theorem good_tokE (m : Nat) : ∀ e : Ex, e.size ≤ m → okTree e → ∀ t ∈ tokE e, goodT t := by
  induction m with
  | zero => intro e h; have := e.size_eq; omega
  | succ m ih =>
    intro e hm hok
    obtain ⟨hn, ha⟩ := okTree_parts hok
    have hargs : ∀ a ∈ e.args, ∀ t ∈ tokE a, goodT t := fun a haa => ih a (by have := sizes_mem haa; have := e.size_eq; omega) (ha a haa)
    intro t ht
    rw [tokE_eq] at ht
    rcases hn with ⟨h1, _⟩ | ⟨h1, _⟩ | ⟨h1, h2, _⟩ | ⟨h1, h2, h3, _⟩ | ⟨h1, h2, _, h4, h5, _⟩ | ⟨h1, _⟩ | ⟨h1, _⟩
    · simp [h1] at ht; subst ht; exact goodT_name words_ok.1
    · simp [h1] at ht; subst ht; exact goodT_name words_ok.2.1
    · simp [h1] at ht; subst ht; exact goodT_name (nameB_wordB h2)
    · rw [h1] at ht
      simp only [wordsB, Bool.and_eq_true, List.all_eq_true] at h3
      simp [-List.append_assoc] at ht
      rcases ht with rfl | rfl | rfl | ht | rfl
      · exact goodT_name (nameB_wordB h2)
      · exact goodT_name words_ok.2.2.1
      · exact goodT_mark (by decide)
      · exact good_listed _ h3.1.2 t ht
      · exact goodT_mark (by decide)
    · rw [h1] at ht
      simp at ht
      rcases ht with rfl | rfl | rfl | rfl | rfl
      · exact goodT_name (nameB_wordB h2)
      · exact goodT_name words_ok.2.2.2.1
      · exact goodT_num h4
      · exact goodT_name words_ok.2.2.2.2.1
      · exact goodT_num h5
    · rw [h1] at ht
      simp at ht
      rcases ht with rfl | ht
      · exact goodT_name words_ok.2.2.2.2.2.1
      · exact good_tokArgs _ hargs t ht
    · have ht' : t ∈ tokArgs e.op e.args := by rcases h1 with h1 | h1 <;> (rw [h1] at ht ⊢; simpa using ht)
      exact good_tokArgs _ hargs t ht'

/-- Bytes of tokens, with a blank each. -/
def wts : List Tok → Nat
  | [] => 0
  | t :: r => (tokB t).length + 1 + wts r
theorem wts_append : (a b : List Tok) → wts (a ++ b) = wts a + wts b
  | [], b => by simp [wts]
  | t :: r, b => by simp [wts, wts_append r b]; omega
theorem pcsB_joinPc_le : (l : List Tok) → (g : Bool) → (pcsB (joinPc g l)).length ≤ wts l
  | [], g => by simp [joinPc, pcsB]
  | t :: r, g => by
    have ih := pcsB_joinPc_le r (tokB t == [40])
    rw [joinPc, pcsB_append, List.length_append, wts]
    split
    · simp [pcsB, Pc.bytes] at ih ⊢; omega
    · simp [pcsB, Pc.bytes] at ih ⊢; omega
theorem digs_len : (f n k : Nat) → n < 10 ^ (k + 1) → (digs f n).length ≤ k + 1
  | 0, n, k, _ => by simp [digs]
  | f + 1, n, k, h => by
    rw [digs]
    split
    · simp
    · cases k with
      | zero => rename_i hn; simp at h; omega
      | succ k =>
        have := digs_len f (n / 10) k (by rw [Nat.pow_succ] at h; omega)
        simp; omega
theorem wts_num {n : Int} (h : numberB n = true) (r : List Tok) : wts (numT n :: r) ≤ 12 + wts r := by
  simp [numberB] at h
  have := digs_len 20 n.natAbs 9 (by omega)
  have h2 : (decB n).length ≤ 11 := by
    unfold decB
    split
    · simp only [List.length_cons]; omega
    · omega
  have e : tokB (numT n) = decB n := by rw [tokB, if_pos (show (numT n).kind = 2 from rfl)]; rfl
  simp only [wts, e] ; omega
theorem wts_name (s : ByteArray) (r : List Tok) : wts (nameT s :: r) = s.size + 1 + wts r := by
  have e : tokB (nameT s) = s.data.toList := by rw [tokB, if_neg (by simp [nameT])]; rfl
  simp only [wts, e, Array.length_toList]; rfl
theorem wts_mark (c : UInt8) (r : List Tok) : wts (markT c :: r) = 2 + wts r := by
  have e : tokB (markT c) = [c] := by rw [tokB, if_neg (by simp [markT])]; rfl
  simp only [wts, e]; rfl

theorem wts_nil : wts [] = 0 := rfl
def okAttr2 (a : Attr) : Bool := nameB a.name && decide (a.name.size ≤ 7) && (a.kind != 1 || (decide (a.words.length ≤ 4) && a.words.all fun x => nameB x && decide (x.size ≤ 5))) && (a.kind != 2 || (decide (-1000000000 ≤ a.lo) && decide (a.hi ≤ 1000000000)))
theorem schemas_ok2 : (schemas.all fun l => l.all okAttr2) = true := by decide +kernel
theorem defOld_ok : (defOld.all fun x => nameB x && decide (x.size ≤ 7)) = true := by decide +kernel
def boundT : Nat → Nat | 0 => 11 | d + 1 => 3 * boundT d + 8
def boundB : Nat → Nat | 0 => 45 | d + 1 => 3 * boundB d + 20
def boundS : Nat → Nat | 0 => 1 | d + 1 => 3 * boundS d + 1
/-- What is known of an expression that was made. -/
structure Fine (d : Nat) (e : Ex) : Prop where
  ok : okTree e
  len : (tokE e).length ≤ boundT d
  wt : wts (tokE e) ≤ boundB d
  size : e.size ≤ boundS d
  depth : e.depth ≤ d + 1
theorem boundT_le (d : Nat) : 11 ≤ boundT d := by induction d with | zero => simp [boundT] | succ d ih => simp only [boundT]; omega
theorem boundB_le (d : Nat) : 45 ≤ boundB d := by induction d with | zero => simp [boundB] | succ d ih => simp only [boundB]; omega
theorem boundS_le (d : Nat) : 1 ≤ boundS d := by induction d with | zero => simp [boundS] | succ d ih => simp only [boundS]; omega
theorem fine_leaf {d : Nat} {e : Ex} (ha : e.args = []) (hn : okNode e) (h1 : (tokE e).length ≤ 11) (h2 : wts (tokE e) ≤ 45) : Fine d e where
  ok := okTree_mk hn (by rw [ha]; simp)
  len := by have := boundT_le d; omega
  wt := by have := boundB_le d; omega
  size := by have := boundS_le d; rw [e.size_eq, ha]; simp [sizes]; omega
  depth := by rw [e.depth_eq, ha]; simp [depths]
theorem listedT_wts : (l : List ByteArray) → (∀ x ∈ l, x.size ≤ 5) → wts (listedT l) ≤ 8 * l.length
  | [], _ => by simp [listedT, wts_nil]
  | [a], h => by have := h a (by simp); simp only [listedT, wts_name, wts_nil, List.length_singleton]; omega
  | a :: b :: r, h => by
    have h1 := h a (by simp)
    have := listedT_wts (b :: r) (fun x hx => h x (List.mem_cons_of_mem _ hx))
    rw [listedT, wts_name, wts_mark]
    simp only [List.length_cons] at this ⊢
    omega
    all_goals simp
theorem listedT_len2 : (l : List ByteArray) → (listedT l).length ≤ 2 * l.length
  | [] => by simp [listedT]
  | [a] => by simp [listedT]
  | a :: b :: r => by have := listedT_len2 (b :: r); simp only [listedT, List.length_cons] at this ⊢; omega
theorem atom_fine {attrs : List Attr} (hs : attrs ∈ schemas) {e : Ex} (h : AtomOf attrs defOld e) (d : Nat) : Fine d e := by
  have hat : ∀ a ∈ attrs, okAttr2 a = true := fun a ha => List.all_eq_true.1 (List.all_eq_true.1 schemas_ok2 attrs hs) a ha
  obtain ⟨ha, h⟩ := h
  rcases h with ⟨h1, h2, h3, h4, h5⟩ | ⟨h1, h2, h3, h4, h5⟩ | ⟨h1, h2, h3, h4, h5⟩ | ⟨h1, ⟨a, haa, hk, hnm, hne, hnd, hin⟩, h4, h5⟩ | ⟨h1, ⟨a, haa, hk, hnm, hl1, hl2, hl3⟩, h3⟩
  · have e1 : tokE e = [nameT wTrue] := by rw [tokE_eq, if_pos h1]
    exact fine_leaf ha (Or.inl ⟨h1, h2, h3, h4, h5, ha⟩) (by rw [e1]; simp) (by rw [e1, wts_name]; simp only [wts_nil]; decide)
  · have e1 : tokE e = [nameT wFalse] := by rw [tokE_eq, h1]; rfl
    exact fine_leaf ha (Or.inr (Or.inl ⟨h1, h2, h3, h4, h5, ha⟩)) (by rw [e1]; simp) (by rw [e1, wts_name]; simp only [wts_nil]; decide)
  · have e1 : tokE e = [nameT e.name] := by rw [tokE_eq, h1]; rfl
    have hn : nameB e.name = true ∧ e.name.size ≤ 7 := by
      rcases h2 with h2 | ⟨a, haa, _, h2⟩
      · have := List.all_eq_true.1 defOld_ok _ h2
        simpa using this
      · have := hat a haa
        simp only [okAttr2, Bool.and_eq_true, decide_eq_true_eq] at this
        rw [h2]; exact this.1.1
    exact fine_leaf ha (Or.inr (Or.inr (Or.inl ⟨h1, hn.1, h3, h4, h5, ha⟩))) (by rw [e1]; simp) (by rw [e1, wts_name]; simp only [wts_nil]; omega)
  · have e1 : tokE e = [nameT e.name, nameT wIn, markT 40] ++ listedT e.words ++ [markT 41] := by rw [tokE_eq, h1]; rfl
    have hq := hat a haa
    simp only [okAttr2, hk, Bool.and_eq_true, decide_eq_true_eq, bne_self_eq_false, Bool.false_or, List.all_eq_true] at hq
    obtain ⟨⟨⟨hq1, hq2⟩, hq3, hq4⟩, _⟩ := hq
    have hlen : e.words.length ≤ 4 := Nat.le_trans (List.Nodup.length_le_of_subset hnd (fun x hx => hin x hx)) hq3
    have hl0 : e.words.length ≠ 0 := fun h => hne (List.eq_nil_of_length_eq_zero h)
    refine fine_leaf ha (Or.inr (Or.inr (Or.inr (Or.inl ⟨h1, by rw [hnm]; exact hq1, ?_, h4, h5, ha⟩)))) ?_ ?_
    · simp only [wordsB, Bool.and_eq_true, bne_iff_ne, decide_eq_true_eq, List.all_eq_true]
      exact ⟨⟨⟨by simpa using hl0, by omega⟩, fun x hx => (hq4 x (hin x hx)).1⟩, hnd⟩
    · have := listedT_len2 e.words
      rw [e1]; simp; 
      have h8 : (listedT e.words).length ≤ 7 := by
        match e.words, hlen, hl0 with
        | [_], _, _ => simp [listedT]
        | [_, _], _, _ => simp [listedT]
        | [_, _, _], _, _ => simp [listedT]
        | [_, _, _, _], _, _ => simp [listedT]
      omega
    · have := listedT_wts e.words (fun x hx => (hq4 x (hin x hx)).2)
      have h7 : e.name.size ≤ 7 := by rw [hnm]; exact hq2
      have hz : wIn.size = 2 := rfl
      have h9 : wts (listedT e.words) ≤ 30 := by
        have hx : ∀ x ∈ e.words, x.size ≤ 5 := fun x hx => (hq4 x (hin x hx)).2
        revert hx
        match e.words, hlen, hl0 with
        | [a], _, _ => intro hx; have := hx a (by simp); simp only [listedT, wts_name, wts_nil]; omega
        | [a, b], _, _ => intro hx; have := hx a (by simp); have := hx b (by simp); simp only [listedT, wts_name, wts_mark, wts_nil]; omega
        | [a, b, c], _, _ => intro hx; have := hx a (by simp); have := hx b (by simp); have := hx c (by simp); simp only [listedT, wts_name, wts_mark, wts_nil]; omega
        | [a, b, c, d], _, _ => intro hx; have := hx a (by simp); have := hx b (by simp); have := hx c (by simp); have := hx d (by simp); simp only [listedT, wts_name, wts_mark, wts_nil]; omega
      rw [e1, wts_append, wts_append, wts_name, wts_name, wts_mark, wts_mark]; simp only [wts_nil]; omega
  · have e1 : tokE e = [nameT e.name, nameT wFrom, numT e.lo, nameT wTo, numT e.hi] := by rw [tokE_eq, h1]; rfl
    have hq := hat a haa
    simp only [okAttr2, hk, Bool.and_eq_true, decide_eq_true_eq, bne_self_eq_false, Bool.false_or] at hq
    obtain ⟨⟨⟨hq1, hq2⟩, _⟩, hq3, hq4⟩ := hq
    have hlo : numberB e.lo = true := by simp [numberB]; omega
    have hhi : numberB e.hi = true := by simp [numberB]; omega
    refine fine_leaf ha (Or.inr (Or.inr (Or.inr (Or.inr (Or.inl ⟨h1, by rw [hnm]; exact hq1, h3, hlo, hhi, hl2, ha⟩))))) (by rw [e1]; simp) ?_
    have h7 : e.name.size ≤ 7 := by rw [hnm]; exact hq2
    have hz : wFrom.size = 4 := rfl
    have hz2 : wTo.size = 2 := rfl
    have w5 := wts_num hhi []
    have w3 := wts_num hlo [nameT wTo, numT e.hi]
    rw [e1, wts_name, wts_name]
    rw [wts_name] at w3
    simp only [wts_nil] at w5
    omega
theorem argT_len (op : Int) (a : Ex) : (argT op a).length ≤ (tokE a).length + 2 ∧ wts (argT op a) ≤ wts (tokE a) + 4 := by
  unfold argT
  split
  · rw [wts_append, wts_append, wts_mark, wts_mark]; simp [wts_nil]; omega
  · omega
theorem fine_step {d : Nat} {e : Ex} (h : e.op = 6 ∧ e.args.length = 1 ∨ (e.op = 7 ∨ e.op = 8) ∧ 2 ≤ e.args.length ∧ e.args.length ≤ 3) (h1 : e.name = ⟨#[]⟩) (h2 : e.words = []) (h3 : e.lo = 0) (h4 : e.hi = 0) (ha : ∀ x ∈ e.args, Fine d x) : Fine (d + 1) e := by
  have hw : ∀ op : Int, (nameT (if op = 7 then wAnd else wOr)).text.size ≤ 3 := fun op => by split <;> decide
  have hwt : ∀ (op : Int) (r : List Tok), wts (nameT (if op = 7 then wAnd else wOr) :: r) ≤ 4 + wts r := fun op r => by rw [wts_name]; have := hw op; simp only [nameT] at this; omega
  have hb := boundT_le d
  have hb2 := boundB_le d
  rcases h with ⟨hop, hl⟩ | ⟨hop, hl, hl3⟩
  · obtain ⟨x, hx⟩ : ∃ x, e.args = [x] := by
      match e.args, hl with
      | [x], _ => exact ⟨x, rfl⟩
    have fx := ha x (by rw [hx]; simp)
    have hal := argT_len 6 x
    have e1 : tokE e = nameT wNot :: argT 6 x := by rw [tokE_eq, hop, hx]; simp [tokArgs_cons, tokMore]
    refine ⟨okTree_mk (Or.inr (Or.inr (Or.inr (Or.inr (Or.inr (Or.inl ⟨hop, h1, h2, h3, h4, hl⟩)))))) (fun y hy => (ha y hy).ok), ?_, ?_, ?_, ?_⟩
    · have := fx.len; rw [e1]; simp only [boundT, List.length_cons]; omega
    · have := fx.wt
      have hz : wNot.size = 3 := rfl
      rw [e1, wts_name]; simp only [boundB]; omega
    · have := fx.size; rw [e.size_eq, hx]; simp only [sizes, boundS]; omega
    · have := fx.depth; rw [e.depth_eq, hx]; simp only [depths]; omega
  · have e1 : tokE e = tokArgs e.op e.args := by rw [tokE_eq]; rcases hop with hop | hop <;> (rw [hop]; rfl)
    refine ⟨okTree_mk (Or.inr (Or.inr (Or.inr (Or.inr (Or.inr (Or.inr ⟨hop, h1, h2, h3, h4, hl⟩)))))) (fun y hy => (ha y hy).ok), ?_, ?_, ?_, ?_⟩
    all_goals
      obtain ⟨x, y, hxy⟩ | ⟨x, y, z, hxyz⟩ : (∃ x y, e.args = [x, y]) ∨ ∃ x y z, e.args = [x, y, z] := by
        match e.args, hl, hl3 with
        | [x, y], _, _ => exact Or.inl ⟨x, y, rfl⟩
        | [x, y, z], _, _ => exact Or.inr ⟨x, y, z, rfl⟩
    · have fx := (ha x (by rw [hxy]; simp)).len; have fy := (ha y (by rw [hxy]; simp)).len
      have ax := argT_len e.op x; have ay := argT_len e.op y
      rw [e1, hxy, tokArgs_cons, tokMore_cons]; simp only [tokMore, List.length_append, List.length_cons, List.length_nil, boundT]; omega
    · have fx := (ha x (by rw [hxyz]; simp)).len; have fy := (ha y (by rw [hxyz]; simp)).len; have fz := (ha z (by rw [hxyz]; simp)).len
      have ax := argT_len e.op x; have ay := argT_len e.op y; have az := argT_len e.op z
      rw [e1, hxyz, tokArgs_cons, tokMore_cons, tokMore_cons]; simp only [tokMore, List.length_append, List.length_cons, List.length_nil, boundT]; omega
    · have fx := (ha x (by rw [hxy]; simp)).wt; have fy := (ha y (by rw [hxy]; simp)).wt
      have ax := argT_len e.op x; have ay := argT_len e.op y
      have w1 := hwt e.op (argT e.op y ++ [])
      rw [e1, hxy, tokArgs_cons, tokMore_cons, wts_append]; simp only [tokMore, boundB, wts_append, wts_nil] at w1 ⊢; omega
    · have fx := (ha x (by rw [hxyz]; simp)).wt; have fy := (ha y (by rw [hxyz]; simp)).wt; have fz := (ha z (by rw [hxyz]; simp)).wt
      have ax := argT_len e.op x; have ay := argT_len e.op y; have az := argT_len e.op z
      have w1 := hwt e.op (argT e.op y ++ tokMore e.op [z])
      have w2 := hwt e.op (argT e.op z ++ [])
      rw [e1, hxyz, tokArgs_cons, tokMore_cons, wts_append]
      rw [tokMore_cons] at w1 ⊢
      simp only [tokMore, boundB, wts_append, wts_nil] at w1 w2 ⊢; omega
    · have fx := (ha x (by rw [hxy]; simp)).size; have fy := (ha y (by rw [hxy]; simp)).size
      rw [e.size_eq, hxy]; simp only [sizes, boundS]; omega
    · have fx := (ha x (by rw [hxyz]; simp)).size; have fy := (ha y (by rw [hxyz]; simp)).size; have fz := (ha z (by rw [hxyz]; simp)).size
      rw [e.size_eq, hxyz]; simp only [sizes, boundS]; omega
    · have fx := (ha x (by rw [hxy]; simp)).depth; have fy := (ha y (by rw [hxy]; simp)).depth
      rw [e.depth_eq, hxy]; simp only [depths]; omega
    · have fx := (ha x (by rw [hxyz]; simp)).depth; have fy := (ha y (by rw [hxyz]; simp)).depth; have fz := (ha z (by rw [hxyz]; simp)).depth
      rw [e.depth_eq, hxyz]; simp only [depths]; omega
theorem made_fine {attrs : List Attr} (hs : attrs ∈ schemas) : (d : Nat) → (e : Ex) → MadeE attrs defOld (d + 1) e → Fine d e
  | 0, e, h => by
    rcases h with h | ⟨hl, _, _, _, _, h⟩
    · exact atom_fine hs h 0
    · exfalso
      cases hx : e.args with
      | nil => rw [hx] at hl; simp at hl
      | cons x r => exact h x (by rw [hx]; simp)
  | d + 1, e, h => by
    rcases h with h | ⟨hl, h1, h2, h3, h4, h⟩
    · exact atom_fine hs h _
    · exact fine_step hl h1 h2 h3 h4 (fun x hx => made_fine hs d x (h x hx))
end Go.Proofs.YtfjlglefodndjaaDoor

namespace Go.Proofs.YtfjlglefodndjaaDoor

mutual
def pNodes : Ex → Bool
  | .mk op name words lo hi args => nodeB (.mk op name words lo hi args) && pNodesAll args
def pNodesAll : List Ex → Bool
  | [] => true
  | e :: r => pNodes e && pNodesAll r
end
mutual
theorem validF_spec : (e : Ex) → (d n : Int) → n ≤ 300 → d ≤ 17 → ((validF e d n).1 = true ↔ (d + e.depth ≤ 17 ∧ n + e.size ≤ 300 ∧ pNodes e = true)) ∧ ((validF e d n).1 = true → (validF e d n).2 = n + e.size)
  | .mk op name words lo hi args, d, n, hn, hd => by
    have hs : (Ex.mk op name words lo hi args).size = 1 + sizes args := by simp [Ex.size]
    have hp : (Ex.mk op name words lo hi args).depth = depths args + 1 := by simp [Ex.depth]
    rw [validF, hs, hp, pNodes]
    by_cases hc : 300 < n + 1 ∨ 16 < d ∨ nodeB (.mk op name words lo hi args) = false
    · rw [if_pos hc]
      refine ⟨⟨fun h => by simp at h, fun ⟨h1, h2, h3⟩ => ?_⟩, fun h => by simp at h⟩
      rcases hc with hc | hc | hc
      · omega
      · omega
      · rw [hc] at h3; simp at h3
    · rw [if_neg hc]
      have hnb : nodeB (.mk op name words lo hi args) = true := by
        cases hh : nodeB (.mk op name words lo hi args)
        · exact absurd (Or.inr (Or.inr hh)) hc
        · rfl
      obtain ⟨h1, h2⟩ := validsF_spec args (d + 1) (n + 1) (by omega) (by omega)
      rw [hnb, Bool.true_and]
      refine ⟨h1.trans ⟨fun ⟨a, b, c⟩ => ⟨by omega, by omega, c⟩, fun ⟨a, b, c⟩ => ⟨by omega, by omega, c⟩⟩, fun h => by have := h2 h; omega⟩
theorem validsF_spec : (l : List Ex) → (d n : Int) → n ≤ 300 → d ≤ 17 → ((validsF l d n).1 = true ↔ (d + depths l ≤ 17 ∧ n + sizes l ≤ 300 ∧ pNodesAll l = true)) ∧ ((validsF l d n).1 = true → (validsF l d n).2 = n + sizes l)
  | [], d, n, hn, hd => by simp [validsF, depths, sizes, pNodesAll]; omega
  | e :: r, d, n, hn, hd => by
    obtain ⟨h1, h2⟩ := validF_spec e d n hn hd
    rw [validsF, depths, sizes, pNodesAll]
    by_cases hv : (validF e d n).1 = true
    · rw [if_pos hv]
      have e2 := h2 hv
      obtain ⟨a1, a2, a3⟩ := h1.1 hv
      obtain ⟨h3, h4⟩ := validsF_spec r d (validF e d n).2 (by omega) hd
      refine ⟨h3.trans ⟨fun ⟨a, b, c⟩ => ⟨by omega, by omega, by rw [a3, c]; rfl⟩, fun ⟨a, b, c⟩ => ⟨by omega, by omega, by rw [a3] at c; simpa using c⟩⟩, fun h => by have := h4 h; omega⟩
    · rw [if_neg hv]
      refine ⟨⟨fun h => by simp at h, fun ⟨a, b, c⟩ => absurd (h1.2 ⟨by omega, by omega, ?_⟩) hv⟩, fun h => by simp at h⟩
      rw [Bool.and_eq_true] at c; exact c.1
end

theorem nodeB_ref (e : Ex) (h : e.args.length ≤ 300) : nodeB e = refNodeB e := by
  obtain ⟨op, name, words, lo, hi, args⟩ := e
  simp only [nodeB, refNodeB, refNode, Ex.op, Ex.name, Ex.words, Ex.lo, Ex.hi, Ex.args, wordsB] at *
  by_cases h1 : 1 ≤ op ∧ op ≤ 8
  · have hk : op = 1 ∨ op = 2 ∨ op = 3 ∨ op = 4 ∨ op = 5 ∨ op = 6 ∨ op = 7 ∨ op = 8 := by omega
    have hw : words.isEmpty = decide (words.length = 0) := by cases words <;> simp
    have hw2 : (words.length != 0) = decide (1 ≤ words.length) := by cases words <;> simp
    rw [hw, hw2]
    rcases hk with rfl | rfl | rfl | rfl | rfl | rfl | rfl | rfl
    all_goals
      simp only [show ((1 : Int).toNat) = 1 from rfl, show ((2 : Int).toNat) = 2 from rfl, show ((3 : Int).toNat) = 3 from rfl, show ((4 : Int).toNat) = 4 from rfl, show ((5 : Int).toNat) = 5 from rfl, show ((6 : Int).toNat) = 6 from rfl, show ((7 : Int).toNat) = 7 from rfl, show ((8 : Int).toNat) = 8 from rfl, opLeast, opMost, opNamed]
      rw [Bool.eq_iff_iff]
      simp
      try grind
  · simp [h1]
mutual
theorem pNodes_ref : (e : Ex) → e.size ≤ 300 → pNodes e = nodesB e
  | .mk op name words lo hi args, h => by
    have hs : (Ex.mk op name words lo hi args).size = 1 + sizes args := by simp [Ex.size]
    have hl := length_le_sizes args
    rw [pNodes, nodesB, nodeB_ref _ (by simp only [Ex.args]; omega), pNodesAll_ref args (by omega)]
theorem pNodesAll_ref : (l : List Ex) → sizes l ≤ 300 → pNodesAll l = nodesAll l
  | [], _ => by simp [pNodesAll, nodesAll]
  | e :: r, h => by
    rw [sizes] at h
    rw [pNodesAll, nodesAll, pNodes_ref e (by omega), pNodesAll_ref r (by omega)]
end
/-- The program's Valid and the reference's are one. -/
theorem validB_ref (e : Ex) : validB e = refExprB e := by
  unfold validB refExprB
  have h := (validF_spec e 1 0 (by omega) (by omega)).1
  have e1 : refSize e ≤ 300 ↔ e.size ≤ 300 := by unfold refSize; omega
  rw [Bool.eq_iff_iff, h, Bool.and_eq_true, Bool.and_eq_true]
  constructor
  · rintro ⟨a, b, c⟩
    refine ⟨⟨?_, ?_⟩, by rw [← pNodes_ref e (by omega)]; exact c⟩
    · rw [decide_eq_false (by omega)]; rfl
    · rw [decide_eq_true_eq, e1]; omega
  · rintro ⟨⟨a, b⟩, c⟩
    have a2 : ¬ 16 < e.depth := fun h => by rw [decide_eq_true h] at a; cases a
    have b2 := e1.1 (of_decide_eq_true b)
    exact ⟨by omega, by omega, by rw [pNodes_ref e (by omega)]; exact c⟩
end Go.Proofs.YtfjlglefodndjaaDoor
