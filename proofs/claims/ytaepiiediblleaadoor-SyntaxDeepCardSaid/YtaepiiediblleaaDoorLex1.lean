import Derived.Test.YtaepiiediblleaaDoorBase
namespace Go.Proofs.YtaepiiediblleaaDoor
open Go.RowKit

def letterB (c : Int) : Bool := decide (97 ≤ c ∧ c ≤ 122)
def digitB (c : Int) : Bool := decide (48 ≤ c ∧ c ≤ 57)
def inWordB (c : Int) : Bool := letterB c || digitB c || (c == 45)
def inHourB (c : Int) : Bool := digitB c || (c == 45) || (c == 84)
def inLineB (c : Int) : Bool := c != 10
def markB (c : Int) : Bool := (c == 59) || (c == 58) || (c == 44) || (c == 40) || (c == 41)

/-- The call returns v and leaves the world alone. -/
def Gives (v : Value) (w : World) (e : Ending) (w' : World) : Prop := e = .returned v ∧ w = w'
theorem gives_bool {a b : Bool} {w : World} (h : a = b) : Gives (.bool b) w (.returned (.bool a)) w := by subst h; exact ⟨rfl, rfl⟩
theorem gives_int {k : IntKind} {a b : Int} {w : World} (h : a = b) : Gives (.int k b) w (.returned (.int k a)) w := by subst h; exact ⟨rfl, rfl⟩

/-- The call returns v; nothing that was in memory has changed. -/
def GivesE (v : Value) (w : World) (e : Ending) (w' : World) : Prop := e = .returned v ∧ Ext w w'
theorem givesE_bool {a b : Bool} {w w' : World} (h : a = b) (hx : Ext w w') : GivesE (.bool b) w (.returned (.bool a)) w' := by subst h; exact ⟨rfl, hx⟩
theorem givesE_int {k : IntKind} {a b : Int} {w w' : World} (h : a = b) (hx : Ext w w') : GivesE (.int k b) w (.returned (.int k a)) w' := by subst h; exact ⟨rfl, hx⟩

theorem letter_calls (c : Int) (w : World) : Calls Tryd.prog 55 #[.int .u8 c] w (Gives (.bool (letterB c)) w) := by
  go_enter Tryd.func55, Tryd.ntmps55
  go_wp2_with fail
  all_goals (go_ret; exact gives_bool (by simp [letterB]; omega))

theorem digit_calls (c : Int) (w : World) : Calls Tryd.prog 71 #[.int .u8 c] w (Gives (.bool (digitB c)) w) := by
  go_enter Tryd.func71, Tryd.ntmps71
  go_wp2_with fail
  all_goals (go_ret; exact gives_bool (by simp [digitB]; omega))

theorem inLine_calls (c : Int) (w : World) : Calls Tryd.prog 53 #[.int .u8 c] w (Gives (.bool (inLineB c)) w) := by
  go_enter Tryd.func53, Tryd.ntmps53
  go_wp2_with fail
  go_ret
  exact gives_bool rfl

theorem inWord_calls (c : Int) (w : World) : Calls Tryd.prog 69 #[.int .u8 c] w (Gives (.bool (inWordB c)) w) := by
  go_enter Tryd.func69, Tryd.ntmps69
  go_wp2_with (first
    | (go_at_call 55; refine (letter_calls _ _).mono ?_; rintro e w' ⟨rfl, rfl⟩)
    | (go_at_call 71; refine (digit_calls _ _).mono ?_; rintro e w' ⟨rfl, rfl⟩))
  all_goals (go_ret; exact gives_bool (by simp_all [inWordB]))

theorem inHour_calls (c : Int) (w : World) : Calls Tryd.prog 73 #[.int .u8 c] w (Gives (.bool (inHourB c)) w) := by
  go_enter Tryd.func73, Tryd.ntmps73
  go_wp2_with (first
    | (go_at_call 71; refine (digit_calls _ _).mono ?_; rintro e w' ⟨rfl, rfl⟩))
  all_goals (go_ret; exact gives_bool (by simp_all [inHourB]))

theorem mark_calls (c : Int) (w : World) : Calls Tryd.prog 75 #[.int .u8 c] w (Gives (.bool (markB c)) w) := by
  go_enter Tryd.func75, Tryd.ntmps75
  go_wp2_with fail
  all_goals (go_ret; exact gives_bool (by simp_all [markB]))

/-- A function value for span: it answers p, and leaves the world alone. -/
def Kind (f : FuncId) (p : Int → Bool) : Prop := ∀ (c : Int) (w : World), Calls Tryd.prog f #[.int .u8 c] w (Gives (.bool (p c)) w)

/-- The offset of the first byte from i on that is not of a kind. -/
def spanF (p : Int → Bool) (s : ByteArray) : Nat → Nat → Nat
  | 0, i => i
  | n + 1, i => if h : i < s.size then (if p (s[i].toNat : Int) then spanF p s n (i + 1) else i) else i

theorem spanF_step {p : Int → Bool} {s : ByteArray} {k : Nat} (h : k < s.size) (hp : p (s[k].toNat : Int) = true) : spanF p s (s.size - k) k = spanF p s (s.size - (k + 1)) (k + 1) := by
  obtain ⟨n, hn⟩ : ∃ n, s.size - k = n + 1 := ⟨s.size - k - 1, by omega⟩
  rw [hn, show s.size - (k + 1) = n by omega, spanF, dif_pos h, if_pos hp]
theorem spanF_stop {p : Int → Bool} {s : ByteArray} {k : Nat} (h : k < s.size) (hp : p (s[k].toNat : Int) = false) : spanF p s (s.size - k) k = k := by
  obtain ⟨n, hn⟩ : ∃ n, s.size - k = n + 1 := ⟨s.size - k - 1, by omega⟩
  rw [hn, spanF, dif_pos h, if_neg (by simp [hp])]
theorem spanF_end {p : Int → Bool} {s : ByteArray} {k : Nat} (h : ¬ k < s.size) : spanF p s (s.size - k) k = k := by
  rw [show s.size - k = 0 by omega, spanF]

set_option maxRecDepth 100000 in
theorem span_calls (f : FuncId) (p : Int → Bool) (hf : Kind f p) (s : ByteArray) (i : Nat) (w : World) (hs : s.size ≤ 1000000000000000)
    (hc : ∀ (c : Int) (w : World), Sem.run Tryd.prog (callFunc f #[.int .u8 c]) w = .ok (.enter f #[.int .u8 c]) w) :
    Calls Tryd.prog 52 #[.string s, .int .i64 i, .func (.func f) #[] #[]] w (Gives (.int .i64 (spanF p s (s.size - i) i)) w) := by
  have HF := Lib.hid hf
  clear hf
  go_enter Tryd.func52, Tryd.ntmps52
  go_wp2_with fail
  go_loop [1] (fun t => ∃ k : Nat, t = .int .i64 k ∧ spanF p s (s.size - k) k = spanF p s (s.size - i) i) (fun t => s.size - (intOf t).toNat)
  case atStart => exact ⟨i, rfl, rfl⟩
  case round =>
    obtain ⟨k, rfl, hk⟩ := hrel
    have HK := Lib.hid hk
    clear hk
    by_cases hlt : k < s.size
    · cases hp : p (s[k].toNat : Int)
      · have HP := Lib.hid hp
        clear hp
        go_wp2_with fail
        refine (HF.out _ _).mono ?_
        rintro e w' ⟨rfl, rfl⟩
        rw [HP.out]
        go_wp2_with fail
        go_ret
        exact gives_int (by rw [← HK.out, spanF_stop hlt HP.out])
      · have HP := Lib.hid hp
        clear hp
        go_wp2_with fail
        refine (HF.out _ _).mono ?_
        rintro e w' ⟨rfl, rfl⟩
        rw [HP.out]
        go_wp2_with fail
        go_round
        case rel => exact ⟨k + 1, by go_num, by rw [← HK.out, spanF_step hlt HP.out]⟩
        case measure => simp [intOf]; omega
    · go_wp2_with fail
      go_ret
      exact gives_int (by rw [← HK.out, spanF_end hlt])

theorem enter_inWord (c : Int) (w : World) : Sem.run Tryd.prog (callFunc 69 #[.int .u8 c]) w = .ok (.enter 69 #[.int .u8 c]) w := by kernel_rfl
theorem enter_inLine (c : Int) (w : World) : Sem.run Tryd.prog (callFunc 53 #[.int .u8 c]) w = .ok (.enter 53 #[.int .u8 c]) w := by kernel_rfl
theorem enter_inHour (c : Int) (w : World) : Sem.run Tryd.prog (callFunc 73 #[.int .u8 c]) w = .ok (.enter 73 #[.int .u8 c]) w := by kernel_rfl
theorem enter_digit (c : Int) (w : World) : Sem.run Tryd.prog (callFunc 71 #[.int .u8 c]) w = .ok (.enter 71 #[.int .u8 c]) w := by kernel_rfl

def reservedWords : List (List UInt8) := [[97, 110, 100], [97, 118, 101, 114, 97, 103, 101], [99, 111, 105, 110, 115, 117, 114, 97, 110, 99, 101], [99, 111, 110, 100, 105, 116, 105, 111, 110], [99, 111, 118, 101, 114], [100, 101, 100, 117, 99, 116, 105, 98, 108, 101], [100, 101, 102, 105, 110, 101], [101, 110, 100], [101, 110, 100, 111, 114, 115, 101], [101, 120, 99, 108, 117, 100, 101], [102, 97, 108, 115, 101], [102, 114, 97, 110, 99, 104, 105, 115, 101], [102, 114, 111, 109], [105, 110], [108, 105, 109, 105, 116], [110, 111, 116], [111, 114], [114, 101, 109, 111, 118, 101], [115, 117, 98, 108, 105, 109, 105, 116], [116, 111], [116, 114, 117, 101], [117, 110, 108, 101, 115, 115], [119, 104, 101, 110]]
def reservedB (s : ByteArray) : Bool := reservedWords.any fun x => s.toList == x
set_option maxHeartbeats 1000000 in
theorem reserved_calls (s : ByteArray) (w : World) : Calls Tryd.prog 105 #[.string s] w (Gives (.bool (reservedB s)) w) := by
  go_enter Tryd.func105, Tryd.ntmps105
  go_wp2_with fail
  all_goals (go_ret; exact gives_bool (by simp_all [reservedB, reservedWords]))
end Go.Proofs.YtaepiiediblleaaDoor
