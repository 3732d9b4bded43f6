/-
  Texts of the claim, joined: Text2, Grow2.
-/
import Derived.Test.YtfjlglefodndjaaGreatDoorCe15
import Derived.Test.YtfjlglefodndjaaGreatDoorCe10
import Derived.Test.YtfjlglefodndjaaGreatDoorCe04
import Derived.BigFrame
import Derived.Deep.AppendLies
namespace Go.Proofs.YtfjlglefodndjaaGreatDoor

/-- A piece of a text: a blank, or a token. -/
inductive Pc where
  | sp
  | tk (t : Tok)
def tokB (t : Tok) : List UInt8 := if t.kind = 2 then decB t.num else t.text.data.toList
def Pc.bytes : Pc → List UInt8
  | .sp => [32]
  | .tk t => tokB t
def pcsB (l : List Pc) : List UInt8 := l.flatMap Pc.bytes
def toksOf : List Pc → List Tok
  | [] => []
  | .sp :: r => toksOf r
  | .tk t :: r => t :: toksOf r
theorem pcsB_append (a b : List Pc) : pcsB (a ++ b) = pcsB a ++ pcsB b := by simp [pcsB]
theorem toksOf_append : (a b : List Pc) → toksOf (a ++ b) = toksOf a ++ toksOf b
  | [], b => rfl
  | .sp :: r, b => by simp [toksOf, toksOf_append r b]
  | .tk t :: r, b => by simp [toksOf, toksOf_append r b]
/-- A token that can be written. -/
def goodT (t : Tok) : Prop := t.pos = 0 ∧ ((t.kind = 1 ∧ wordB t.text = true ∧ t.num = 0) ∨ (t.kind = 2 ∧ t.text = ⟨#[]⟩ ∧ -17592186044416 ≤ t.num ∧ t.num ≤ 17592186044416) ∨ (t.kind = 4 ∧ t.num = 0 ∧ ∃ c : UInt8, t.text = ⟨#[c]⟩ ∧ markB (c.toNat : Int) = true))
/-- Between two tokens of which none is a mark there is a blank. -/
def sepA : Bool → List Pc → Bool
  | _, [] => true
  | _, .sp :: r => sepA false r
  | p, .tk t :: r => (!p || t.kind == 4) && sepA (t.kind != 4) r
def endA : Bool → List Pc → Bool
  | p, [] => p
  | _, .sp :: r => endA false r
  | _, .tk t :: r => endA (t.kind != 4) r
theorem sepA_append : (a b : List Pc) → (p : Bool) → sepA p (a ++ b) = (sepA p a && sepA (endA p a) b)
  | [], b, p => by simp [sepA, endA]
  | .sp :: r, b, p => by simp [sepA, endA, sepA_append r b]
  | .tk t :: r, b, p => by simp [sepA, endA, sepA_append r b, Bool.and_assoc]
theorem sepA_false {l : List Pc} {p : Bool} (h : sepA p l = true) : sepA false l = true := by
  cases l with
  | nil => rfl
  | cons x r =>
    cases x with
    | sp => simpa [sepA] using h
    | tk t => simp only [sepA, Bool.and_eq_true] at h ⊢; exact ⟨by simp, h.2⟩
theorem goodT_ne {t : Tok} (h : goodT t) : ∃ c r, tokB t = c :: r ∧ (c.toNat : Int) ≠ 32 ∧ (c.toNat : Int) ≠ 10 ∧ (c.toNat : Int) ≠ 35 ∧ (t.kind = 4 → inWordB (c.toNat : Int) = false) := by
  obtain ⟨_, ⟨h1, h2, _⟩ | ⟨h1, h2, h3, h4⟩ | ⟨h1, _, c, h2, h3⟩⟩ := h
  · have hw := h2
    simp only [wordB, Bool.and_eq_true, bne_iff_ne] at hw
    obtain ⟨⟨⟨⟨h0, _⟩, h5⟩, _⟩, _⟩ := hw
    have h0' : 0 < t.text.size := by omega
    rw [byteAt_lt h0'] at h5
    have e : tokB t = t.text.data.toList := by rw [tokB, if_neg (by omega)]
    cases hb : t.text.data.toList with
    | nil =>
      have : t.text.data.toList.length = 0 := by rw [hb]; rfl
      rw [Array.length_toList] at this
      have e2 : t.text.data.size = t.text.size := rfl
      omega
    | cons c r =>
      have hc : t.text[0] = c := by
        rw [ByteArray.getElem_eq_getElem_data, ← Array.getElem_toList]
        simp only [hb, List.getElem_cons_zero]
      rw [hc] at h5
      simp [letterB] at h5
      exact ⟨c, r, by rw [e, hb], by omega, by omega, by omega, fun h => by omega⟩
  · have e : tokB t = decB t.num := by rw [tokB, if_pos h1]
    rw [e, decB]
    split
    · exact ⟨45, _, rfl, by decide, by decide, by decide, fun h => by omega⟩
    · cases hb : digs 20 t.num.natAbs with
      | nil => exact absurd hb (digs_ne 19 _)
      | cons c r =>
        have := digs_all 20 t.num.natAbs c (by rw [hb]; simp)
        unfold isDig at this
        exact ⟨c, r, rfl, by omega, by omega, by omega, fun h => by omega⟩
  · have e : tokB t = [c] := by rw [tokB, if_neg (by omega), h2]
    have hc : c.toNat = 59 ∨ c.toNat = 58 ∨ c.toNat = 44 ∨ c.toNat = 40 ∨ c.toNat = 41 := by simp [markB] at h3; omega
    exact ⟨c, [], e, by omega, by omega, by omega, fun _ => by simp [inWordB, letterB, digitB]; omega⟩
theorem tokenF_good {s : ByteArray} {t : Tok} {i : Nat} (h : goodT t) (ha : AtB s i (tokB t)) (hi : i ≤ s.size) (hn : t.kind ≠ 4 → inWordB (byteAt s (i + (tokB t).length)) = false) : tokenF s i = (⟨t.kind, t.text, t.num, i⟩, ((i + (tokB t).length : Nat) : Int), 0) := by
  obtain ⟨_, ⟨h1, h2, h3⟩ | ⟨h1, h2, h3, h4⟩ | ⟨h1, h4, c, h2, h3⟩⟩ := h
  · have e : tokB t = t.text.data.toList := by rw [tokB, if_neg (by omega)]
    rw [e] at ha hn ⊢
    rw [tokenF_word h2 ha hi (hn (by omega)), h1, h3]
  · have e : tokB t = decB t.num := by rw [tokB, if_pos h1]
    rw [e] at ha hn ⊢
    rw [tokenF_number h3 h4 ha hi (hn (by omega)), h1, h2]
  · have e : tokB t = [c] := by rw [tokB, if_neg (by omega), h2]
    rw [e] at ha ⊢
    rw [tokenF_mark h3 ha hi, h1, h2, h4]; rfl
/-- A token without its place. -/
def zp (t : Tok) : Tok := ⟨t.kind, t.text, t.num, 0⟩
/-- A text of pieces is divided into their tokens. -/
theorem scan_pcs {s : ByteArray} : (l : List Pc) → (i : Nat) → (acc : List Tok) → (f : Nat) → i ≤ s.size → AtB s i (pcsB l) → i + (pcsB l).length = s.size → sepA false l = true → (∀ t ∈ toksOf l, goodT t) → acc.length + (toksOf l).length ≤ 4000 → s.size - i ≤ f →
    ∃ ts, scanF s f i acc = (acc ++ ts, 0, 0) ∧ ts.map zp = toksOf l
  | [], i, acc, f, hi, _, hl, _, _, _, hf => by
    refine ⟨[], ?_, rfl⟩
    simp [pcsB] at hl
    cases f with
    | zero => simp [scanF]
    | succ f => rw [scanF, if_pos (by omega)]; simp
  | .sp :: r, i, acc, f, hi, ha, hl, hs, hg, hn, hf => by
    have e : pcsB (.sp :: r) = 32 :: pcsB r := rfl
    rw [e] at ha hl
    have hb := ha.byte
    obtain ⟨h1, _⟩ := ha.1
    obtain ⟨g, rfl⟩ : ∃ g, f = g + 1 := ⟨f - 1, by omega⟩
    obtain ⟨ts, h2, h3⟩ := scan_pcs r (i + 1) acc g h1 ha.2 (by simp at hl; omega) (by simpa [sepA] using hs) hg hn (by omega)
    refine ⟨ts, ?_, h3⟩
    rw [scanF, if_neg (by omega), if_pos (by rw [hb]; rfl), h2]
  | .tk t :: r, i, acc, f, hi, ha, hl, hs, hg, hn, hf => by
    have e : pcsB (.tk t :: r) = tokB t ++ pcsB r := rfl
    rw [e] at ha hl
    rw [AtB.append] at ha
    have hgt := hg t (by simp [toksOf])
    obtain ⟨c, q, hc, c1, c2, c3, _⟩ := goodT_ne hgt
    have hb : byteAt s i = (c.toNat : Int) := by have := ha.1; rw [hc] at this; exact this.byte
    have h1 : i < s.size := by have := ha.1; rw [hc] at this; exact this.1.1
    obtain ⟨g, rfl⟩ : ∃ g, f = g + 1 := ⟨f - 1, by omega⟩
    have hle := AtB.le _ i hi ha.1
    have hsr : sepA (t.kind != 4) r = true := by simp only [sepA, Bool.and_eq_true] at hs; exact hs.2
    have hnext : t.kind ≠ 4 → inWordB (byteAt s (i + (tokB t).length)) = false := by
      intro hk
      have hp : (t.kind != 4) = true := by simpa using hk
      rw [hp] at hsr
      cases r with
      | nil =>
        have : ¬ i + (tokB t).length < s.size := by simp [pcsB] at hl; omega
        rw [byteAt, dif_neg this]; decide
      | cons x r' =>
        cases x with
        | sp => have h2 : AtB s (i + (tokB t).length) (32 :: pcsB r') := ha.2; rw [h2.byte]; decide
        | tk u =>
          have h2 : AtB s (i + (tokB t).length) (tokB u ++ pcsB r') := ha.2
          rw [AtB.append] at h2
          simp only [sepA, Bool.and_eq_true, Bool.not_true, Bool.false_or, beq_iff_eq] at hsr
          obtain ⟨c', q', hc', _, _, _, h4⟩ := goodT_ne (hg u (by simp [toksOf]))
          have h3 := h2.1
          rw [hc'] at h3
          rw [h3.byte]; exact h4 hsr.1
    have htok := tokenF_good hgt ha.1 hi hnext
    obtain ⟨ts, h2, h3⟩ := scan_pcs r (i + (tokB t).length) (acc ++ [⟨t.kind, t.text, t.num, i⟩]) g hle ha.2 (by rw [List.length_append] at hl; omega) (sepA_false hsr) (fun u hu => hg u (by simp [toksOf, hu])) (by simp [toksOf] at hn ⊢; omega) (by rw [hc]; simp; omega)
    refine ⟨⟨t.kind, t.text, t.num, i⟩ :: ts, ?_, ?_⟩
    · rw [scanF_tok h1 (by rw [hb]; simpa using c1) (by rw [hb]; simpa using c2) (by rw [hb]; simpa using c3), htok, tokStep_go (by simp [toksOf] at hn; omega), h2]
      · simp
      · by_cases hk2 : t.kind = 2
        · refine Or.inr ?_
          have h5 := hnext (by omega)
          by_cases hlt : i + (tokB t).length < s.size
          · refine Or.inr ⟨hlt, ?_⟩
            rw [byteAt_lt hlt] at h5
            simp only [inWordB, Bool.or_eq_false_iff] at h5
            exact ⟨h5.1.1, h5.2⟩
          · exact Or.inl hlt
        · exact Or.inl (by simpa using hk2)
    · have hp := hgt.1
      simp only [List.map_cons, toksOf, h3, zp]
      cases t; simp at hp; subst hp; rfl
theorem pcs_no64 : (l : List Pc) → (∀ t ∈ toksOf l, goodT t) → ∀ c ∈ pcsB l, (c.toNat : Int) ≠ 64
  | [], _, c, h => by simp [pcsB] at h
  | .sp :: r, hg, c, h => by
    have e : pcsB (.sp :: r) = 32 :: pcsB r := rfl
    rw [e] at h
    rcases List.mem_cons.1 h with rfl | h
    · decide
    · exact pcs_no64 r hg c h
  | .tk t :: r, hg, c, h => by
    have e : pcsB (.tk t :: r) = tokB t ++ pcsB r := rfl
    rw [e] at h
    rcases List.mem_append.1 h with h | h
    · obtain ⟨_, ⟨h1, h2, h3⟩ | ⟨h1, h2, h3, h4⟩ | ⟨h1, h4, d, h2, h3⟩⟩ := hg t (by simp [toksOf])
      · rw [tokB, if_neg (by omega)] at h
        simp only [wordB, Bool.and_eq_true, beq_iff_eq] at h2
        obtain ⟨j, hj, rfl⟩ := List.getElem_of_mem h
        have hj' : j < t.text.size := by simpa using hj
        have := spanF_all inWordB t.text t.text.size 0 j hj' (by omega) (by rw [h2.2]; exact hj')
        simp only [ByteArray.getElem_eq_getElem_data] at this
        simp only [Array.getElem_toList]
        intro h64
        rw [h64] at this
        revert this; decide
      · rw [tokB, if_pos h1, decB] at h
        have key : ∀ x ∈ digs 20 t.num.natAbs, (x.toNat : Int) ≠ 64 := fun x hx => by have := digs_all _ _ x hx; unfold isDig at this; omega
        split at h
        · rcases List.mem_cons.1 h with rfl | h
          · decide
          · exact key c h
        · exact key c h
      · rw [tokB, if_neg (by omega), h2] at h
        simp at h; subst h
        intro h64; rw [h64] at h3; revert h3; decide
    · exact pcs_no64 r (fun u hu => hg u (by simp [toksOf, hu])) c h
theorem scanAll_pcs {l : List Pc} (hs : sepA false l = true) (hg : ∀ t ∈ toksOf l, goodT t) (hn : (toksOf l).length ≤ 4000) (hb : (pcsB l).length ≤ 16384) : ∃ ts, scanAll ⟨(pcsB l).toArray⟩ = (ts, 0, 0) ∧ ts.map zp = toksOf l := by
  have hsz : (⟨(pcsB l).toArray⟩ : ByteArray).size = (pcsB l).length := by simp [ByteArray.size]
  obtain ⟨ts, h1, h2⟩ := scan_pcs (s := ⟨(pcsB l).toArray⟩) l 0 [] (⟨(pcsB l).toArray⟩ : ByteArray).size (by omega) (atB_self _) (by omega) hs hg (by simpa using hn) (by omega)
  refine ⟨ts, ?_, h2⟩
  rw [scanAll, if_neg (by omega), h1]; rfl
theorem no64_pcs {l : List Pc} (hg : ∀ t ∈ toksOf l, goodT t) : ∀ i, i < (⟨(pcsB l).toArray⟩ : ByteArray).size → byteAt ⟨(pcsB l).toArray⟩ i ≠ 64 := by
  intro i hi
  rw [byteAt_lt hi]
  refine pcs_no64 l hg _ ?_
  rw [ByteArray.getElem_eq_getElem_data]
  simp
theorem atT_of_map {ts : List Tok} : (l : List Tok) → (k : Nat) → (∀ t ∈ l, t.pos = 0) → (ts.drop k).map zp = l ++ (ts.drop (k + l.length)).map zp → AtT ts k l
  | [], _, _, _ => trivial
  | x :: r, k, hp, h => by
    cases hd : ts.drop k with
    | nil => rw [hd] at h; simp at h
    | cons y q =>
      rw [hd] at h
      simp only [List.map_cons, List.cons_append, List.cons.injEq] at h
      have hk : ts[k]? = some y := by rw [← List.head?_drop, hd]; rfl
      refine ⟨⟨y.pos, ?_⟩, atT_of_map r (k + 1) (fun t ht => hp t (List.mem_cons_of_mem _ ht)) ?_⟩
      · rw [hk, ← h.1]; rfl
      · have e : ts.drop (k + 1) = q := by rw [← List.drop_drop, hd]; rfl
        rw [e, h.2, show k + 1 + r.length = k + (x :: r).length by simp; omega]
theorem atT_all {ts l : List Tok} (h : ts.map zp = l) : AtT ts 0 l ∧ ts.length = l.length := by
  have hl : ts.length = l.length := by rw [← h]; simp
  refine ⟨atT_of_map l 0 (fun t ht => by rw [← h] at ht; obtain ⟨u, _, rfl⟩ := List.mem_map.1 ht; rfl) ?_, hl⟩
  simp [h, ← hl]

/-- How Join puts tokens one after the other. -/
def closes (b : List UInt8) : Bool := b == [59] || b == [58] || b == [44] || b == [41]
def joinPc : Bool → List Tok → List Pc
  | _, [] => []
  | g, t :: r => (if !g && !closes (tokB t) then [.sp, .tk t] else [.tk t]) ++ joinPc (tokB t == [40]) r
def gluedA : Bool → List Tok → Bool
  | g, [] => g
  | _, t :: r => gluedA (tokB t == [40]) r
theorem joinPc_append : (a b : List Tok) → (g : Bool) → joinPc g (a ++ b) = joinPc g a ++ joinPc (gluedA g a) b
  | [], b, g => by simp [joinPc, gluedA]
  | t :: r, b, g => by simp [joinPc, gluedA, joinPc_append r b]
theorem gluedA_snoc : (a : List Tok) → (g : Bool) → (t : Tok) → gluedA g (a ++ [t]) = (tokB t == [40])
  | [], g, t => by simp [gluedA]
  | x :: r, g, t => by simp [gluedA, gluedA_snoc r]
theorem toksOf_joinPc : (l : List Tok) → (g : Bool) → toksOf (joinPc g l) = l
  | [], g => rfl
  | t :: r, g => by
    rw [joinPc, toksOf_append, toksOf_joinPc r]
    split <;> rfl
theorem good_mark {t : Tok} (h : goodT t) {c : UInt8} (hc : tokB t = [c]) (hm : markB (c.toNat : Int) = true) : t.kind = 4 := by
  obtain ⟨_, ⟨h1, h2, h3⟩ | ⟨h1, h2, h3, h4⟩ | ⟨h1, h4, d, h2, h3⟩⟩ := h
  · exfalso
    simp only [wordB, Bool.and_eq_true, bne_iff_ne] at h2
    obtain ⟨⟨⟨⟨h0, _⟩, h5⟩, _⟩, _⟩ := h2
    have h0' : 0 < t.text.size := by omega
    rw [byteAt_lt h0', ByteArray.getElem_eq_getElem_data] at h5
    rw [tokB, if_neg (by omega)] at hc
    have : t.text.data[0]'h0' = c := by rw [← Array.getElem_toList]; simp only [hc, List.getElem_cons_zero]
    rw [this] at h5
    simp [letterB] at h5
    simp [markB] at hm
    omega
  · exfalso
    rw [tokB, if_pos h1, decB] at hc
    have hm' : c.toNat = 59 ∨ c.toNat = 58 ∨ c.toNat = 44 ∨ c.toNat = 40 ∨ c.toNat = 41 := by simp [markB] at hm; omega
    split at hc
    · simp only [List.cons.injEq] at hc
      exact digs_ne 19 _ hc.2
    · have := digs_all 20 t.num.natAbs c (by rw [hc]; simp)
      unfold isDig at this
      omega
  · exact h1
theorem sepA_joinPc : (l : List Tok) → (g p : Bool) → (∀ t ∈ l, goodT t) → (g = true → p = false) → sepA p (joinPc g l) = true
  | [], g, p, _, _ => rfl
  | t :: r, g, p, hg, hp => by
    have hgt := hg t (by simp)
    have ih := sepA_joinPc r (tokB t == [40]) (t.kind != 4) (fun u hu => hg u (List.mem_cons_of_mem _ hu)) (fun h => by
      have := good_mark hgt (c := 40) (by simpa using h) (by decide)
      simp [this])
    rw [joinPc]
    split
    · simp only [List.cons_append, List.nil_append, sepA, ih, Bool.not_false, Bool.true_or, Bool.and_true]
    · rename_i hc
      simp only [List.cons_append, List.nil_append, sepA, ih, Bool.and_true, Bool.or_eq_true, Bool.not_eq_true', beq_iff_eq]
      cases hgg : g with
      | true => exact Or.inl (hp hgg)
      | false =>
        right
        rw [hgg] at hc
        have hcl : closes (tokB t) = true := by simpa using hc
        simp only [closes, Bool.or_eq_true, beq_iff_eq] at hcl
        rcases hcl with ((h | h) | h) | h
        · exact good_mark hgt h (by decide)
        · exact good_mark hgt h (by decide)
        · exact good_mark hgt h (by decide)
        · exact good_mark hgt h (by decide)
/-- The bytes of an expression's text, as pieces. -/
def fmtPc (e : Ex) : List Pc := joinPc true (tokE e)
def fmtB (e : Ex) : List UInt8 := pcsB (fmtPc e)
end Go.Proofs.YtfjlglefodndjaaGreatDoor

namespace Go.Proofs.YtfjlglefodndjaaGreatDoor
open Go.RowKit

/-- append, as one step of a region that makes memory. -/
theorem gives_append {t e : TypeId} {z : Value} {size bytes : Nat} (E : ElemT t e z size bytes) {ρ : Operand → Value} {W : World} {T : Value → World → Prop} {dst : Option Tmp} {ty : TypeId} {pos : String} {after : Array Edge} {guard : Option (Nat × Bool)}
    (s x : Operand) (base : Nat) (v : Value) (n : Nat) (xs : List Value) (hs : ρ s = v) (B m c : Nat) (news : List Value) (hx : ρ x = .slice (some ⟨B, 0, none⟩) m c) (hl : news.length = m * size) (h1 : ∀ u ∈ news, u.oneCell' = true) (hm : 0 < m) (hn : n + m ≤ 100000000) (hb : bytes ≤ 1000)
    (hown : W.ownsRow base e size v n xs) (hnews : ∀ j (h : j < news.length), W.cell? ⟨B, j, none⟩ = some news[j]) (hbase : base ≤ W.heap.size)
    (h : ∀ g cap w', w'.ownsRow base e size (.slice (some ⟨g, 0, none⟩) (n + m) cap) (n + m) (xs ++ news) → W.grownBy w' v.ownBlock → (v.ownBlock = some g ∨ g = W.heap.size) → g < w'.heap.size → T (.slice (some ⟨g, 0, none⟩) (n + m) cap) w') :
    GivesOp Tryz.prog { dst := dst, op := .call { callee := .builtin .append, args := #[s, x], argTypes := #[t, t] }, type := ty, pos := pos, after := after, guard := guard } ρ W T := by
  obtain ⟨i, hi, hz, hsz, hby⟩ := info_parts E.info
  obtain ⟨g, cap, w', hrun, h2, h3, h4, h5⟩ := run_append_lies (P := Tryz.prog) W t ty base e i z size bytes E.ht hi hz hsz hby E.hzs E.hsz v n xs hown ⟨B, 0, none⟩ m c news hl (by
      intro j u hu
      obtain ⟨hj, rfl⟩ := List.getElem?_eq_some_iff.1 hu
      have : (⟨B, 0, none⟩ : Addr).add j = ⟨B, j, none⟩ := by unfold Addr.add; split <;> simp_all
      rw [this]
      exact hnews j hj) h1 hm (by simp only [maxLen]; omega) (by
      calc (n + m) * bytes ≤ 100000000 * 1000 := Nat.mul_le_mul hn hb
        _ ≤ 140737488355328 := by omega) hbase _ rfl
  unfold GivesOp
  have he : execOp ρ { dst := dst, op := .call { callee := .builtin .append, args := #[s, x], argTypes := #[t, t] }, type := ty, pos := pos, after := after, guard := guard } = (do pure (.value (← Builtin.append_ #[t, t] ty #[v, .slice (some ⟨B, 0, none⟩) m c]))) := by
    rw [← hs, ← hx, BigFrame.execOp_builtin, BigFrame.builtin_append]; simp
  rw [he]
  simp only [Sem.run_bind, hrun]
  exact h g cap w' h2 h3 h4 h5

theorem alloc_at {w : World} {o : Obj} {n : Nat} (h : n = w.heap.size) : (w.alloc o).heap[n]? = some o := by subst h; exact alloc_new w o
end Go.Proofs.YtfjlglefodndjaaGreatDoor
