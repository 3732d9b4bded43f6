import Derived.Test.YtaepiiediblleaaDoorLex4
import Derived.Test.YtaepiiediblleaaDoorRowsOf
import Derived.WalkMore
import Derived.Deep.LoopGhost
namespace Go.Proofs.YtaepiiediblleaaDoor
open Go.RowKit

def tokCells (t : Tok) : List Value := [.int .i64 t.kind, .string t.text, .int .i64 t.num, .int .i64 t.pos]
abbrev IsToks (w : World) (l : List Tok) (a : Option Addr) (n c : Nat) : Prop := IsRows w 4 tokCells l a n c

theorem elemTok : ElemT 54 61 (.agg #[.int .i64 0, .string ⟨#[]⟩, .int .i64 0, .int .i64 0]) 4 40 := ⟨by kernel_rfl, by kernel_rfl, rfl, by decide⟩

/-- The tokens of a text from i on, after those of acc: the tokens, the offset of an error, and the error. -/
def scanF (s : ByteArray) : Nat → Nat → List Tok → List Tok × Int × Int
  | 0, _, acc => (acc, 0, 0)
  | f + 1, i, acc =>
    if s.size ≤ i then (acc, 0, 0) else
    if byteAt s i == 32 || byteAt s i == 10 then scanF s f (i + 1) acc else
    if byteAt s i == 35 then scanF s f (spanF inLineB s (s.size - i) i) acc else
    if (tokenF s i).2.2 ≠ 0 then ([], i, (tokenF s i).2.2) else
    if acc.length = 4000 then ([], i, 4) else
    if (tokenF s i).1.kind = 2 ∧ (tokenF s i).2.1 < s.size ∧ (letterB (byteAt s (tokenF s i).2.1.toNat) || byteAt s (tokenF s i).2.1.toNat == 45) then ([], (tokenF s i).2.1, 5) else
    scanF s f (tokenF s i).2.1.toNat (acc ++ [(tokenF s i).1])

/-- What is done with a token. -/
def tokStep (s : ByteArray) (g k : Nat) (acc : List Tok) (T : Tok × Int × Int) : List Tok × Int × Int :=
  if T.2.2 ≠ 0 then ([], (k : Int), T.2.2) else
  if acc.length = 4000 then ([], (k : Int), 4) else
  if T.1.kind = 2 ∧ T.2.1 < s.size ∧ (letterB (byteAt s T.2.1.toNat) || byteAt s T.2.1.toNat == 45) then ([], T.2.1, 5) else
  scanF s g T.2.1.toNat (acc ++ [T.1])
theorem scanF_tok {s : ByteArray} {g k : Nat} {acc : List Tok} (hlt : k < s.size) (h1 : (byteAt s k == 32) = false) (h2 : (byteAt s k == 10) = false) (h3 : (byteAt s k == 35) = false) :
    scanF s (g + 1) k acc = tokStep s g k acc (tokenF s k) := by
  rw [scanF, if_neg (show ¬ s.size ≤ k by omega), if_neg (show ¬ (byteAt s k == 32 || byteAt s k == 10) = true by simp [h1, h2]), if_neg (show ¬ (byteAt s k == 35) = true by simp [h3])]
  rfl

theorem tokStep_stop {s : ByteArray} {g k n : Nat} {acc : List Tok} {T : Tok} (h4 : ¬ acc.length = 4000) (h1 : (T.kind == 2) = true) (h2 : n < s.size) (h3 : letterB (s[n].toNat : Int) = true ∨ ((s[n].toNat : Int) == 45) = true) :
    tokStep s g k acc (T, (n : Int), 0) = ([], (n : Int), 5) := by
  rw [tokStep, if_neg (by simp), if_neg h4, if_pos]
  refine ⟨by simpa using h1, by simpa using h2, ?_⟩
  simp only [Int.toNat_natCast]
  rw [byteAt_lt h2]
  rcases h3 with h3 | h3 <;> simp [h3]
theorem tokStep_go {s : ByteArray} {g k n : Nat} {acc : List Tok} {T : Tok} (h4 : ¬ acc.length = 4000) (h : (T.kind == 2) = false ∨ ¬ n < s.size ∨ ∃ h2 : n < s.size, letterB (s[n].toNat : Int) = false ∧ ((s[n].toNat : Int) == 45) = false) :
    tokStep s g k acc (T, (n : Int), 0) = scanF s g n (acc ++ [T]) := by
  rw [tokStep, if_neg (by simp), if_neg h4, if_neg]
  · simp only [Int.toNat_natCast]
  · rintro ⟨h1, h2, h3⟩
    rcases h with h | h | ⟨h5, h6, h7⟩
    · simp at h; exact h h1
    · exact h (by simpa using h2)
    · simp only [Int.toNat_natCast] at h3
      rw [byteAt_lt h5, h6, h7] at h3
      simp at h3

theorem tokenF_next {s : ByteArray} {i : Nat} (hi : i < s.size) (h : (tokenF s i).2.2 = 0) : ∃ n : Nat, (tokenF s i).2.1 = n ∧ i < n ∧ n ≤ s.size := by
  unfold tokenF at *
  have h1 := spanF_bd inWordB s (s.size - i) i (by omega)
  have h2 := spanF_bd digitB s (s.size - (i + 1)) (i + 1) (by omega)
  split
  · rename_i hl
    split
    · refine ⟨_, rfl, ?_, h1.2⟩
      have hw : inWordB (s[i].toNat : Int) = true := by rw [← byteAt_lt hi]; simp [inWordB, hl]
      have := spanF_step (p := inWordB) hi hw
      have h3 := spanF_bd inWordB s (s.size - (i + 1)) (i + 1) (by omega)
      omega
    · rename_i hw; rw [if_pos hl, if_neg hw] at h; simp at h
  · rename_i hl
    split
    · rename_i hd
      split
      · exact ⟨_, rfl, by omega, h2.2⟩
      · rename_i hn; rw [if_neg hl, if_pos hd, if_neg hn] at h; exact absurd h hn
    · rename_i hd
      split
      · exact ⟨i + 1, rfl, by omega, by omega⟩
      · rename_i hm; rw [if_neg hl, if_neg hd, if_neg hm] at h; simp at h

/-- What Scan hands back. -/
def ScanQ (R : List Tok × Int × Int) (w : World) (e : Ending) (w' : World) : Prop :=
  ∃ a n c, e = .returned (.tuple #[.slice a n c, .int .i64 R.2.1, .int .i64 R.2.2]) ∧ IsToks w' R.1 a n c ∧ Ext w w'
theorem isRows_nil {α : Type} (w : World) (size : Nat) (f : α → List Value) : IsRows w size f [] none 0 0 := ⟨rfl, by omega, Or.inl ⟨rfl, rfl⟩, fun i hi => by simp at hi⟩
theorem scanQ_err {R : List Tok × Int × Int} {a b : Int} {w w' : World} (h : R = ([], a, b)) (hx : Ext w w') : ScanQ R w (.returned (.tuple #[.slice none 0 0, .int .i64 a, .int .i64 b])) w' := by
  subst h; exact ⟨none, 0, 0, rfl, isRows_nil _ _ _, hx⟩

set_option maxRecDepth 100000 in
set_option maxHeartbeats 2000000 in
theorem scan_calls (s : ByteArray) (w : World) (hs : s.size ≤ 1000000000000000) (h64 : ∀ i, i < s.size → byteAt s i ≠ 64) :
    Calls Tryd.prog 32 #[.string s] w (ScanQ (if 16384 < s.size then ([], 0, 4) else scanF s s.size 0 []) w) := by
  by_cases hbig : 16384 < s.size
  · rw [if_pos hbig]
    go_enter Tryd.func32, Tryd.ntmps32
    go_wp2_with fail
    go_step3
    go_wp2_with fail
    try rw [Exit.noGoto_ret]
    go_ret3
    exact scanQ_err rfl (Ext.refl _)
  · rw [if_neg hbig]
    obtain ⟨R, hR⟩ : ∃ R, R = scanF s s.size 0 [] := ⟨_, rfl⟩
    rw [← hR]
    have HR := Lib.hid hR
    have H64 := Lib.hid h64
    clear hR h64
    go_enter Tryd.func32, Tryd.ntmps32
    go_wp2_with fail
    go_step3
    go_wp2_with fail
    go_step3
    go_wp2_with fail
    go_loopg [5, 6] s.size (fun m v i wr => ∃ (k f : Nat) (acc : List Tok), k ≤ s.size ∧ m = s.size - k ∧ i = .int .i64 k ∧ s.size - k ≤ f ∧ acc.length ≤ 4000 ∧ wr.ownsRow w.heap.size 61 4 v acc.length (acc.flatMap tokCells) ∧ Ext w wr ∧ scanF s f k acc = R)
    case atStart => exact ⟨0, s.size, [], by omega, rfl, rfl, by omega, by simp, World.ownsRow_nil _ _ _ _, Ext.refl _, HR.out.symm⟩
    case round =>
      obtain ⟨k, f, acc, hk, hgk, rfl, hf, hacc, hown, hx, hsc⟩ := hrel
      have HG := Lib.hid hgk
      have HO := Lib.hid hown
      have HX := Lib.hid hx
      have HS := Lib.hid hsc
      clear hown hx hsc hgk
      by_cases hlt : k < s.size
      · obtain ⟨g, rfl⟩ : ∃ g, f = g + 1 := ⟨f - 1, by omega⟩
        have hb := byteAt_lt hlt
        have hn64 := H64.out k hlt
        by_cases h1 : byteAt s k = 32 ∨ byteAt s k = 10
        · have HN := Lib.hid (show scanF s g (k + 1) acc = R by rw [← HS.out, scanF, if_neg (by omega), if_pos (by simpa using h1)])
          rw [hb] at h1
          have t : ((s[k].toNat : Int) == 32) = true ∨ (((s[k].toNat : Int) == 32) = false ∧ ((s[k].toNat : Int) == 10) = true) := by
            by_cases h : (s[k].toNat : Int) = 32
            · exact Or.inl (by simp [h])
            · exact Or.inr ⟨by simp [h], by rcases h1 with h1 | h1; exact absurd h1 h; simp [h1]⟩
          clear h1 hb hn64
          rcases t with t | ⟨t, t2⟩
          all_goals
            go_wp2_with fail
            go_roundg (s.size - (k + 1))
            case measure => have := HG.out; omega
            case rel => exact ⟨k + 1, g, acc, by omega, rfl, by go_num, by omega, hacc, HO.out, HX.out, HN.out⟩
        · rw [hb] at h1
          have t1 : ((s[k].toNat : Int) == 32) = false := by simp; omega
          have t2 : ((s[k].toNat : Int) == 10) = false := by simp; omega
          by_cases h2 : (s[k].toNat : Int) = 35
          · have t3 : ((s[k].toNat : Int) == 35) = true := by simp [h2]
            have HN := Lib.hid (show scanF s g (spanF inLineB s (s.size - k) k) acc = R by rw [← HS.out, scanF, if_neg (by omega), hb, if_neg (by simp [t1, t2]), if_pos t3])
            have hbd := spanF_bd inLineB s (s.size - (k + 1)) (k + 1) (by omega)
            rw [← spanF_step (p := inLineB) hlt (by simp [inLineB, h2])] at hbd
            have HP := Lib.hid (span_calls 53 inLineB inLine_calls s k · hs enter_inLine)
            clear h1 h2 hb hn64
            generalize spanF inLineB s (s.size - k) k = e at *
            obtain ⟨b1, b2⟩ := hbd
            go_wp2_with fail
            refine (HP.out _).mono ?_
            rintro r w' ⟨rfl, rfl⟩
            go_wp2_with fail
            go_roundg (s.size - e)
            case measure => have := HG.out; omega
            case rel => exact ⟨e, g, acc, by omega, rfl, rfl, by omega, hacc, HO.out, HX.out, HN.out⟩
          · have t3 : ((s[k].toNat : Int) == 35) = false := by simpa using h2
            have HN := Lib.hid (show tokStep s g k acc (tokenF s k) = R by rw [← HS.out, scanF_tok hlt (by rw [hb]; exact t1) (by rw [hb]; exact t2) (by rw [hb]; exact t3)])
            have HT := Lib.hid (token_calls s k · hs hlt hn64)
            have HX1 := Lib.hid (tokenF_next hlt)
            clear h1 h2 hb hn64
            generalize tokenF s k = T at *
            obtain ⟨T, nx, er⟩ := T
            simp only at HN HX1
            by_cases h3 : er = 0
            · subst h3
              obtain ⟨n, rfl, b1, b2⟩ := HX1.out rfl
              by_cases h4 : acc.length = 4000
              · have H := Lib.hid (show R = ([], (k : Int), 4) by rw [← HN.out]; simp [tokStep, h4])
                have t4 : ((acc.length : Int) == 4000) = true := by simp [h4]
                obtain ⟨a, c, rfl, hrows⟩ := IsRows.of_owns (f := tokCells) (fun _ => rfl) HO.out
                have HRR := Lib.hid hrows
                clear hrows h4
                go_wp2_with fail
                refine (HT.out _).mono ?_
                rintro r w1 ⟨rfl, hw1⟩
                have HW1 := Lib.hid hw1
                clear hw1
                unfold tokV
                go_wp2_with fail
                try rw [Exit.noGoto_ret]
                go_ret3
                exact scanQ_err H.out ((HX.out.trans HW1.out).alloc _)
              · have t4 : ((acc.length : Int) == 4000) = false := by simp; omega
                obtain ⟨a, c, rfl, hrows⟩ := IsRows.of_owns (f := tokCells) (fun _ => rfl) HO.out
                clear hrows
                go_wp2_with fail
                refine (HT.out _).mono ?_
                rintro r w1 ⟨rfl, hw1⟩
                have HW1 := Lib.hid hw1
                have hx := HX.out.trans hw1
                clear hw1
                unfold tokV
                have HOW := Lib.hid ((owns_ext HO.out HW1.out).alloc (.cells #[.int .i64 T.kind, .string T.text, .int .i64 T.num, .int .i64 T.pos] 61))
                have hz := hx.size
                go_wp2_with (at_builtin; refine wpList_append_new elemTok rfl _ _ rfl w.heap.size _ _ _ rfl HOW.out _ 1 1 rfl ?c0 rfl ?c1 ?c2 ?c3 ?c4 ?_)
                case c0 => simp
                case c1 => simp [Value.oneCell']
                case c2 => simp only [maxLen]; omega
                case c3 => omega
                case c4 => simp; omega
                intro v2 w2 hown2 hgrow2
                have HX2 := Lib.hid (((HX.out.trans HW1.out).alloc _).grown hgrow2 (owns_base HOW.out))
                have hk0 : w2.cell? ⟨w1.heap.size, 0, none⟩ = some (.int .i64 T.kind) := hgrow2.cell (by go_simp) (by
                  intro e
                  have := ((owns_ext HO.out HW1.out).lt _ e.symm).2
                  simp at this)
                have HO2 := Lib.hid hown2
                have hL := Lib.hid (show (acc ++ [T]).length = acc.length + 1 by simp)
                have hF := Lib.hid (show (acc ++ [T]).flatMap tokCells = acc.flatMap tokCells ++ [.int .i64 T.kind, .string T.text, .int .i64 T.num, .int .i64 T.pos] by simp [tokCells])
                have cs : ((T.kind == 2) = false ∨ ((T.kind == 2) = true ∧ ¬ n < s.size)) ∨ ((T.kind == 2) = true ∧ ∃ hn : n < s.size, (letterB (s[n].toNat : Int) = true ∨ (letterB (s[n].toNat : Int) = false ∧ ((s[n].toNat : Int) == 45) = true)) ∨ (letterB (s[n].toNat : Int) = false ∧ ((s[n].toNat : Int) == 45) = false)) := by
                  cases h5 : T.kind == 2
                  · exact Or.inl (Or.inl rfl)
                  · by_cases h6 : n < s.size
                    · refine Or.inr ⟨rfl, h6, ?_⟩
                      cases letterB (s[n].toNat : Int) <;> cases ((s[n].toNat : Int) == 45) <;> simp
                    · exact Or.inl (Or.inr ⟨rfl, h6⟩)
                clear hown2 hgrow2 hx HOW HX1
                rcases cs with (t5 | ⟨t5, t6⟩) | ⟨t5, t6, (t7 | ⟨t7, t8⟩) | ⟨t7, t8⟩⟩
                · have HG2 := Lib.hid ((tokStep_go h4 (Or.inl t5)).symm.trans HN.out)
                  go_wp2_with fail
                  go_roundg (s.size - n)
                  case measure => have := HG.out; omega
                  case rel => exact ⟨n, g, acc ++ [T], by omega, rfl, rfl, by omega, by rw [hL.out]; omega, by rw [hL.out, hF.out]; exact HO2.out, HX2.out, HG2.out⟩
                · have HG2 := Lib.hid ((tokStep_go h4 (Or.inr (Or.inl t6))).symm.trans HN.out)
                  go_wp2_with fail
                  go_roundg (s.size - n)
                  case measure => have := HG.out; omega
                  case rel => exact ⟨n, g, acc ++ [T], by omega, rfl, rfl, by omega, by rw [hL.out]; omega, by rw [hL.out, hF.out]; exact HO2.out, HX2.out, HG2.out⟩
                · have HG2 := Lib.hid ((tokStep_stop h4 t5 t6 (Or.inl t7)).symm.trans HN.out)
                  have T7 := Lib.hid t7
                  clear t7
                  go_wp2_with fail
                  refine (letter_calls _ _).mono ?_
                  rintro r w' ⟨rfl, rfl⟩
                  rw [T7.out]
                  go_wp2_with fail
                  try rw [Exit.noGoto_ret]
                  go_ret3
                  exact scanQ_err HG2.out.symm HX2.out
                · have HG2 := Lib.hid ((tokStep_stop h4 t5 t6 (Or.inr t8)).symm.trans HN.out)
                  have T7 := Lib.hid t7
                  clear t7
                  go_wp2_with fail
                  refine (letter_calls _ _).mono ?_
                  rintro r w' ⟨rfl, rfl⟩
                  rw [T7.out]
                  go_wp2_with fail
                  try rw [Exit.noGoto_ret]
                  go_ret3
                  exact scanQ_err HG2.out.symm HX2.out
                · have HG2 := Lib.hid ((tokStep_go h4 (Or.inr (Or.inr ⟨t6, t7, t8⟩))).symm.trans HN.out)
                  have T7 := Lib.hid t7
                  clear t7
                  go_wp2_with fail
                  refine (letter_calls _ _).mono ?_
                  rintro r w' ⟨rfl, rfl⟩
                  rw [T7.out]
                  go_wp2_with fail
                  go_roundg (s.size - n)
                  case measure => have := HG.out; omega
                  case rel => exact ⟨n, g, acc ++ [T], by omega, rfl, rfl, by omega, by rw [hL.out]; omega, by rw [hL.out, hF.out]; exact HO2.out, HX2.out, HG2.out⟩
            · have H := Lib.hid (show R = ([], (k : Int), er) by rw [← HN.out]; simp [tokStep, h3])
              have t4 : (er == 0) = false := by simpa using h3
              clear h3
              go_wp2_with fail
              refine (HT.out _).mono ?_
              rintro r w1 ⟨rfl, hw1⟩
              have HW1 := Lib.hid hw1
              clear hw1
              unfold tokV
              go_wp2_with fail
              try rw [Exit.noGoto_ret]
              go_ret3
              exact scanQ_err H.out ((HX.out.trans HW1.out).alloc _)
      · have HN := Lib.hid (show (acc, (0 : Int), (0 : Int)) = R by
          rw [← HS.out]; cases f with
          | zero => rfl
          | succ f => rw [scanF, if_pos (by omega)])
        go_wp2_with fail
        try rw [Exit.noGoto_ret]
        go_ret3
        obtain ⟨a, c, rfl, hrows⟩ := IsRows.of_owns (f := tokCells) (fun _ => rfl) HO.out
        rw [← HN.out]
        exact ⟨a, acc.length, c, rfl, hrows, HX.out⟩
end Go.Proofs.YtaepiiediblleaaDoor
