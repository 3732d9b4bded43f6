/-
  Texts of the claim, joined: Args, Shelf, Ref1, Level1, Level2.
-/
import Derived.Test.YtaepiiediblleaaGreatDoorBa01
import Derived.Test.YtaepiiediblleaaGreatDoorBa05
import Derived.WalkKit
import Derived.Carry
import Derived.ChangeSlices
import Derived.SizedLaws
import Derived.Shelf.Strings.Builder1
import Derived.Shelf.Strings.BuilderF
import Derived.Shelf.Strings.BuilderK
import Derived.Shelf.Strconv.Itoa0
import Derived.Shelf.Strconv.Itoa1
import Derived.Shelf.LaysM
import Derived.Shelf.Strconv.Itoa2
import Derived.Shelf.Strconv.Itoa3
import Derived.Shelf.Bits.Mul64
import Derived.Test.YtaepiiediblleaaGreatDoorProg
import Derived.Test.YtaepiiediblleaaGreatDoorBa03
import Derived.Deep.AppendLies
import Derived.Deep.RegionLaw
namespace Go.Proofs.YtaepiiediblleaaGreatDoor
open Go.ChangeShapes Go.WideShapes Go.ChangeAt Go.RowKit

theorem laidOut : laidOutB Tryz.prog = true := by kernel_rfl
/-- The types can be read again. -/
def rowedB (P : Program) (ts : List TypeId) : Bool := ts.all fun t => P.readableRec t && decide (t < P.types.size)
theorem args_again {H : Type} {enc : TypeId × Value → H} {P : Program} (hl : laidOutB P = true) {W W' : World} (hb : Ext W W') : ∀ {ts : List TypeId} {vs : List Value} {ds : List (DataW H)} {ps : List MemPlace}, rowedB P ts = true → DataW.TrodAll enc P W 0 (fun _ => true) true ts vs ds ps → (∀ x ∈ ps, x.block < W.heap.size) → DataW.TrodAll enc P W' 0 (fun b => decide (b < W.heap.size)) true ts vs ds ps
  | [], [], [], _, _, h, _ => h
  | t :: ts, v :: vs, d :: ds, ps, hr, h, hlt => by
    obtain ⟨p, q, h1, h2, e⟩ := h
    simp only [rowedB, List.all_cons, Bool.and_eq_true, decide_eq_true_eq] at hr
    subst e
    exact ⟨p, q, Below.trod hl hr.1.1 hr.1.2 h1 hb (fun x hx => hlt x (by simp [hx])), args_again hl hb (by simpa [rowedB] using hr.2) h2 (fun x hx => hlt x (by simp [hx])), rfl⟩
  | [], _ :: _, _, _, _, h, _ => by simp [DataW.TrodAll] at h
  | [], [], _ :: _, _, _, h, _ => by simp [DataW.TrodAll] at h
  | _ :: _, [], _, _, _, h, _ => by simp [DataW.TrodAll] at h
  | _ :: _, _ :: _, [], _, _, h, _ => by simp [DataW.TrodAll] at h
set_option maxRecDepth 100000 in
/-- A law answers true and has only made memory: its arguments read as before. -/
theorem law_post2 {H : Type} {enc : TypeId × Value → H} {f : Func} {s : ChangeSpec} {W W' : World} {args : Array Value} {ds : List (DataW H)} {before : List MemPlace}
    (hW : DataW.Whole enc Tryz.prog f.params.toList s.vars false W args.toList ds [] before) (hv : s.vars = []) (hrt : f.resultTypes = #[4]) (hfn : (s.fn H (ds ++ [])).results = [.lit (.bool true)]) (hfa : (s.fn H (ds ++ [])).args = ds) (hfv : (s.fn H (ds ++ [])).vars = []) (hrw : rowedB Tryz.prog f.params.toList = true)
    (hx : Ext W W') : s.post enc Tryz.prog f false true false false W args (.bool true) W' := by
  have hW2 := hW
  obtain ⟨p, q, hA, hV, rfl, hfz, hnd⟩ := hW2
  rw [hv] at hV
  obtain ⟨_, rfl⟩ := trodVars_none hV
  have hlt : ∀ x ∈ p ++ [], x.block < W.heap.size := fun x hx => by simpa using hW.lt x hx
  simp only [List.append_nil] at *
  have hres : ∀ (b : Nat) (sp : Nat → Bool) (hd : Bool), DataW.TrodAll enc Tryz.prog W' b sp hd f.resultTypes.toList ((Value.bool true).resultList f.resultTypes.size) (s.fn H (ds ++ [])).results [] := by
    intro b sp hd
    rw [hrt, List.append_nil, hfn]
    exact trodAll_cons_mk (shut_bool uB _) trodAll_mk0
  refine ⟨ds, [], p, [], p, [], hW, hres _ _ _, by rw [List.append_nil, hfa]; exact args_again laidOut hx hrw hA hlt, ?_, World.keptBut_mono (fun p hp => hp) (Below.frame hx _), fun h => by cases h⟩
  rw [hv, List.append_nil, hfv]
  rfl
theorem uIs : Tryz.prog.underlying 23 = some (.slice 3) := by kernel_rfl
theorem bInt : Tryz.prog.bytesOf 3 = 8 := by kernel_rfl
set_option maxRecDepth 100000 in
/-- An argument of type []int. -/
theorem ints_arg {H : Type} {enc : TypeId × Value → H} {W : World} {base : Nat} {v : Value} {d : DataW H} {p : List MemPlace} {ts : List TypeId} {ds : List (DataW H)} {j : Nat} (hval : Value.okWide Tryz.prog W .any base 23 v) (h : DataW.Trod enc Tryz.prog W 0 (fun _ => true) true 23 v d p)
    (hs : (DataW.weightsEach Tryz.prog ts ds).all (· ≤ reachBytes) = true) (ht : ts[j]? = some 23) (hd : ds[j]? = some d) : ∃ a n c, v = .slice a n c ∧ IntsAt W a n ∧ n ≤ 1000000000000000 := by
  obtain ⟨a, n, c, rfl⟩ := okWide_slice uIs hval
  refine ⟨a, n, c, rfl, ?_⟩
  obtain ⟨fuel, hf⟩ := h
  rcases open_ints uIs uI cI hf with ⟨hcs, hx⟩ | ⟨ad, len, cap, zs, hcs, _, hl, hm, hz, hx, hcell, hw⟩
  · simp [Value.cells] at hcs
    obtain ⟨rfl, rfl, rfl⟩ := hcs
    exact ⟨fun i hi => by omega, by omega⟩
  · simp [Value.cells] at hcs
    obtain ⟨rfl, rfl, rfl⟩ := hcs
    simp only [Prod.mk.injEq] at hx
    obtain ⟨rfl, rfl⟩ := hx
    simp only [if_true] at hz
    have hb := sized_slice hs ht hd uIs
    rw [bInt] at hb
    simp only [lits, List.length_map, List.length_take, List.length_drop] at hb
    have hr := reachBytes_lt
    refine ⟨fun i hi => ?_, by omega⟩
    obtain ⟨b, off, spot⟩ := ad
    have h0 := hcell 0 (by omega)
    have hsp : spot = none := by
      cases spot with
      | none => rfl
      | some x =>
        exfalso
        simp only [Addr.add, if_true, World.cell?] at h0
        split at h0 <;> simp at h0
    subst hsp
    have := hcell i (by omega)
    refine ⟨b, off, zs.getD i 0, rfl, ?_⟩
    rw [← this]
    congr 1
    unfold Addr.add
    split <;> simp_all
end Go.Proofs.YtaepiiediblleaaGreatDoor

/-
  The shelf's contracts of strings.Builder (Len, String) and strconv.Itoa at this program, in plain words (lay-shelf.mjs, lay-plain.mjs).
-/
namespace Go.Proofs
open Go.Shelf Go.RowKit Go.Sort
def Tryz.lays170_ren : Go.Shelf.Ren := ⟨fun | 170 => 66 | n => n, fun | 70 => 101 | 3 => 3 | 0 => 0 | 72 => 104 | 37 => 102 | 5 => 5 | n => n, fun | n => n⟩
theorem Tryz.lays170 : Go.Proofs.Lays.n170 Tryz.prog Tryz.lays170_ren := {
  mixed := by kernel_rfl
  f170 := Tryz.func66.trans (congrArg some (by kernel_rfl))
  t0 := Tryz.underlying0
  a0 := Tryz.isAgg0
  z0 := Tryz.sizeOf0
  v0 := Tryz.zeroValue0
  t3 := Tryz.underlying3
  a3 := Tryz.isAgg3
  z3 := Tryz.sizeOf3
  v3 := Tryz.zeroValue3
  t37 := Tryz.underlying102
  a37 := Tryz.isAgg102
  z37 := Tryz.sizeOf102
  v37 := Tryz.zeroValue102
  t70 := Tryz.underlying101
  a70 := Tryz.isAgg101
  z70 := Tryz.sizeOf101
  v70 := Tryz.zeroValue101
  t72 := Tryz.underlying104
  a72 := Tryz.isAgg104
  z72 := Tryz.sizeOf104
  v72 := Tryz.zeroValue104 }
theorem Tryz.Builder_Len (B b : Nat) (bs : List Value) (w : World) (h : Lib.IsBuilder 104 5 B b bs w) :
    Calls Tryz.prog 66 #[.pointer (some ⟨b, 0, none⟩)] w fun e w' => e = .returned (.int .i64 bs.length) ∧ w' = w := Any.Builder_Len Tryz.lays170 B b bs w h
def Tryz.lays169_ren : Go.Shelf.Ren := ⟨fun | 169 => 67 | n => n, fun | 70 => 101 | 9 => 9 | 0 => 0 | 72 => 104 | 37 => 102 | 127 => 132 | 3 => 3 | 5 => 5 | n => n, fun | n => n⟩
theorem Tryz.lays169 : Go.Proofs.Lays.n169 Tryz.prog Tryz.lays169_ren := {
  mixed := by kernel_rfl
  f169 := Tryz.func67.trans (congrArg some (by kernel_rfl))
  t0 := Tryz.underlying0
  a0 := Tryz.isAgg0
  z0 := Tryz.sizeOf0
  v0 := Tryz.zeroValue0
  t3 := Tryz.underlying3
  a3 := Tryz.isAgg3
  z3 := Tryz.sizeOf3
  v3 := Tryz.zeroValue3
  t9 := Tryz.underlying9
  a9 := Tryz.isAgg9
  z9 := Tryz.sizeOf9
  v9 := Tryz.zeroValue9
  t37 := Tryz.underlying102
  a37 := Tryz.isAgg102
  z37 := Tryz.sizeOf102
  v37 := Tryz.zeroValue102
  t70 := Tryz.underlying101
  a70 := Tryz.isAgg101
  z70 := Tryz.sizeOf101
  v70 := Tryz.zeroValue101
  t72 := Tryz.underlying104
  a72 := Tryz.isAgg104
  z72 := Tryz.sizeOf104
  v72 := Tryz.zeroValue104
  t127 := Tryz.underlying132
  a127 := Tryz.isAgg132
  z127 := Tryz.sizeOf132
  v127 := Tryz.zeroValue132 }
theorem Tryz.Builder_Extra_169 : Builder.Extra Tryz.prog Tryz.lays169_ren := {
  sizeBuilder := by kernel_rfl
  liesBuilder := by kernel_rfl
  t5 := Tryz.underlying5
  a5 := Tryz.isAgg5
  z5 := Tryz.sizeOf5
  v5 := Tryz.zeroValue5
  infoByte := by kernel_rfl
  cellsByte := by kernel_rfl
  sizeByte := by kernel_rfl
  neB5 := by decide }
theorem Tryz.Builder_String_any (B b : Nat) (l : List UInt8) (w : World) (h : Lib.IsBuilder 104 5 B b (Lib.byteCells l) w) (hBw : B ≤ w.heap.size) :
    Calls Tryz.prog 67 #[.pointer (some ⟨b, 0, none⟩)] w fun e w' => e = .returned (.string ⟨l.toArray⟩) ∧ Below B w w' := Any.Builder_String_any Tryz.lays169 Tryz.Builder_Extra_169 B b l w h hBw
def Tryz.laysM171_ren : Go.Shelf.Ren := ⟨fun | 171 => 92 | 243 => 115 | 246 => 127 | 283 => 136 | 284 => 137 | 285 => 138 | 286 => 139 | 129 => 145 | 317 => 144 | 318 => 146 | 319 => 147 | 320 => 148 | 337 => 153 | 338 => 154 | n => n, fun | 3 => 3 | 9 => 9 | 2 => 2 | 4 => 4 | 171 => 148 | 0 => 0 | 53 => 149 | 37 => 102 | 5 => 5 | 173 => 152 | 212 => 161 | 51 => 162 | 20 => 20 | 213 => 163 | 46 => 155 | 232 => 171 | 233 => 172 | n => n, fun | 17 => 2 | 18 => 3 | 19 => 4 | n => n⟩
theorem Tryz.laysM171 : Go.Proofs.LaysM.n171 Tryz.prog Tryz.laysM171_ren := {
  mixed := by kernel_rfl
  f129 := Tryz.func145.trans (congrArg some (by kernel_rfl))
  f171 := Tryz.func92.trans (congrArg some (by kernel_rfl))
  f243 := Tryz.func115.trans (congrArg some (by kernel_rfl))
  f246 := Tryz.func127.trans (congrArg some (by kernel_rfl))
  f283 := Tryz.func136.trans (congrArg some (by kernel_rfl))
  f284 := Tryz.func137.trans (congrArg some (by kernel_rfl))
  f285 := Tryz.func138.trans (congrArg some (by kernel_rfl))
  f286 := Tryz.func139.trans (congrArg some (by kernel_rfl))
  f317 := Tryz.func144.trans (congrArg some (by kernel_rfl))
  f318 := Tryz.func146.trans (congrArg some (by kernel_rfl))
  f319 := Tryz.func147.trans (congrArg some (by kernel_rfl))
  f320 := Tryz.func148.trans (congrArg some (by kernel_rfl))
  f337 := Tryz.func153.trans (congrArg some (by kernel_rfl))
  f338 := Tryz.func154.trans (congrArg some (by kernel_rfl))
  t0 := Tryz.underlying0
  a0 := Tryz.isAgg0
  z0 := Tryz.sizeOf0
  v0 := Tryz.zeroValue0
  t2 := Tryz.underlying2
  a2 := Tryz.isAgg2
  z2 := Tryz.sizeOf2
  v2 := Tryz.zeroValue2
  t3 := Tryz.underlying3
  a3 := Tryz.isAgg3
  z3 := Tryz.sizeOf3
  v3 := Tryz.zeroValue3
  t4 := Tryz.underlying4
  a4 := Tryz.isAgg4
  z4 := Tryz.sizeOf4
  v4 := Tryz.zeroValue4
  t5 := Tryz.underlying5
  a5 := Tryz.isAgg5
  z5 := Tryz.sizeOf5
  v5 := Tryz.zeroValue5
  t9 := Tryz.underlying9
  a9 := Tryz.isAgg9
  z9 := Tryz.sizeOf9
  v9 := Tryz.zeroValue9
  t20 := Tryz.underlying20
  a20 := Tryz.isAgg20
  z20 := Tryz.sizeOf20
  v20 := Tryz.zeroValue20
  t37 := Tryz.underlying102
  a37 := Tryz.isAgg102
  z37 := Tryz.sizeOf102
  v37 := Tryz.zeroValue102
  t46 := Tryz.underlying155
  a46 := Tryz.isAgg155
  z46 := Tryz.sizeOf155
  v46 := Tryz.zeroValue155
  t51 := Tryz.underlying162
  a51 := Tryz.isAgg162
  z51 := Tryz.sizeOf162
  v51 := Tryz.zeroValue162
  t53 := Tryz.underlying149
  a53 := Tryz.isAgg149
  z53 := Tryz.sizeOf149
  v53 := Tryz.zeroValue149
  t171 := Tryz.underlying148
  a171 := Tryz.isAgg148
  z171 := Tryz.sizeOf148
  v171 := Tryz.zeroValue148
  t173 := Tryz.underlying152
  a173 := Tryz.isAgg152
  z173 := Tryz.sizeOf152
  v173 := Tryz.zeroValue152
  t212 := Tryz.underlying161
  a212 := Tryz.isAgg161
  z212 := Tryz.sizeOf161
  v212 := Tryz.zeroValue161
  t213 := Tryz.underlying163
  a213 := Tryz.isAgg163
  z213 := Tryz.sizeOf163
  t232 := Tryz.underlying171
  a232 := Tryz.isAgg171
  z232 := Tryz.sizeOf171
  v232 := Tryz.zeroValue171
  t233 := Tryz.underlying172
  a233 := Tryz.isAgg172
  z233 := Tryz.sizeOf172
  v233 := Tryz.zeroValue172
  g17 := by kernel_rfl
  g18 := by kernel_rfl
  g19 := by kernel_rfl
  i0 := by kernel_rfl
  i2 := by kernel_rfl
  i3 := by kernel_rfl
  i4 := by kernel_rfl
  i5 := by kernel_rfl
  i9 := by kernel_rfl
  i20 := by kernel_rfl
  i37 := by kernel_rfl
  i46 := by kernel_rfl
  i51 := by kernel_rfl
  i53 := by kernel_rfl
  i171 := by kernel_rfl
  i173 := by kernel_rfl
  i212 := by kernel_rfl
  i232 := by kernel_rfl
  i233 := by kernel_rfl
  m17 := by kernel_rfl
  m18 := by kernel_rfl
  m19 := by kernel_rfl }
theorem Tryz.strconv_Itoa (n : Int) (h0 : -9223372036854775808 ≤ n) (h1 : n ≤ 9223372036854775807) (w : World) (htab : Lib.TabIs Tryz.prog w "internal/strconv.uint64pow10" .u64 Lib.pow10Tab) :
    Calls Tryz.prog 92 #[.int .i64 n] w fun e w' => e = .returned (.string ⟨(Lib.itoa n).toArray⟩) ∧ ∃ k os, w' = grow (w.drewN k) os := Any.strconv_Itoa Tryz.laysM171 n h0 h1 w htab
end Go.Proofs

namespace Go.Proofs.YtaepiiediblleaaGreatDoor
open Go.RowKit

theorem rletter_calls (c : Int) (w : World) : Calls Tryz.prog 31 #[.int .u8 c] w (Gives (.bool (letterB c)) w) := by
  go_enter Tryz.func31, Tryz.ntmps31
  go_wp2_with fail
  all_goals (go_ret; exact gives_bool (by simp [letterB]; omega))
theorem rdigit_calls (c : Int) (w : World) : Calls Tryz.prog 57 #[.int .u8 c] w (Gives (.bool (digitB c)) w) := by
  go_enter Tryz.func57, Tryz.ntmps57
  go_wp2_with fail
  all_goals (go_ret; exact gives_bool (by simp [digitB]; omega))
theorem far_calls (n : Int) (w : World) : Calls Tryz.prog 108 #[.int .i64 n] w (Gives (.bool (!numberB n)) w) := by
  go_enter Tryz.func108, Tryz.ntmps108
  go_wp2_with fail
  all_goals (go_ret; exact gives_bool (by rw [Bool.eq_iff_iff]; simp [numberB]; omega))
set_option maxHeartbeats 1000000 in
theorem rreserved_calls (s : ByteArray) (w : World) : Calls Tryz.prog 125 #[.string s] w (Gives (.bool (reservedB s)) w) := by
  go_enter Tryz.func125, Tryz.ntmps125
  go_wp2_with fail
  all_goals (go_ret; exact gives_bool (by simp_all [reservedB, reservedWords]))

theorem spanF_every (p : Int → Bool) (s : ByteArray) : ∀ (m k : Nat), s.size - k = m → k ≤ s.size → (spanF p s (s.size - k) k = s.size ↔ ∀ j (h : j < s.size), k ≤ j → p (s[j].toNat : Int) = true) := by
  intro m
  induction m with
  | zero =>
    intro k hm hk
    rw [spanF_end (by omega)]
    exact ⟨fun _ j h hj => by omega, fun _ => by omega⟩
  | succ m ih =>
    intro k hm hk
    have hlt : k < s.size := by omega
    cases hp : p (s[k].toNat : Int)
    · rw [spanF_stop hlt hp]
      exact ⟨fun h => by omega, fun h => by rw [h k hlt (Nat.le_refl _)] at hp; cases hp⟩
    · rw [spanF_step hlt hp, ih (k + 1) (by omega) (by omega)]
      refine ⟨fun h j hj hkj => ?_, fun h j hj hkj => h j hj (by omega)⟩
      by_cases e : j = k
      · subst e; exact hp
      · exact h j hj (by omega)
theorem wordB_of {s : ByteArray} (h0 : s.size ≠ 0) (h1 : s.size ≤ 16) (h2 : letterB (byteAt s 0) = true) (h3 : byteAt s (s.size - 1) ≠ 45) (h : ∀ j (hj : j < s.size), inWordB (s[j].toNat : Int) = true) : wordB s = true := by
  have := (spanF_every inWordB s _ 0 rfl (by omega)).2 (fun j hj _ => h j hj)
  rw [Nat.sub_zero] at this
  simp [wordB, h0, h1, h2, h3, this]
theorem wordB_no {s : ByteArray} {j : Nat} (hj : j < s.size) (h : inWordB (s[j].toNat : Int) = false) : wordB s = false := by
  cases hb : wordB s
  · rfl
  simp only [wordB, Bool.and_eq_true, beq_iff_eq] at hb
  have := (spanF_every inWordB s _ 0 rfl (by omega)).1 (by rw [Nat.sub_zero]; exact hb.2) j hj (by omega)
  rw [h] at this; cases this

set_option maxRecDepth 100000 in
set_option maxHeartbeats 1000000 in
theorem rword_calls (s : ByteArray) (w : World) (hs : s.size ≤ 1000000000000000) : Calls Tryz.prog 56 #[.string s] w (Gives (.bool (wordB s)) w) := by
  by_cases h0 : s.size = 0
  · have H := Lib.hid (show wordB s = false by simp [wordB, h0])
    have hz : decide ((s.size : Int) < 1) = true := by simp [h0]
    clear h0
    go_enter Tryz.func56, Tryz.ntmps56
    go_wp2_with fail
    go_ret
    exact gives_bool (by rw [H.out])
  have hz : decide ((s.size : Int) < 1) = false := by simp; omega
  by_cases h1 : s.size ≤ 16
  · have hb0 := byteAt_lt (show 0 < s.size by omega)
    have hb1 := byteAt_lt (show s.size - 1 < s.size by omega)
    have hz2 : decide ((16 : Int) < s.size) = false := by simp; omega
    cases h2 : letterB (s[0]'(by omega)).toNat
    · have H := Lib.hid (show wordB s = false by simp [wordB, hb0, h2])
      have H2 := Lib.hid h2
      clear h2 hb0 hb1
      go_enter Tryz.func56, Tryz.ntmps56
      go_wp2_with fail
      refine (rletter_calls _ _).mono ?_
      rintro e w' ⟨rfl, rfl⟩
      rw [H2.out]
      go_wp2_with fail
      go_ret
      exact gives_bool (by rw [H.out])
    · have H2 := Lib.hid h2
      have HB0 := Lib.hid hb0
      have HB1 := Lib.hid hb1
      clear h2 hb0 hb1
      have e1 : ((s.size : Int) - 1).toNat = s.size - 1 := by omega
      cases h3 : ((s[s.size - 1]'(by omega)).toNat : Int) == 45
      · have HY := Lib.hid (show (∀ j (hj : j < s.size), inWordB (s[j].toNat : Int) = true) → wordB s = true from fun h => wordB_of h0 h1 (by rw [HB0.out]; exact H2.out) (by rw [HB1.out]; simpa using h3) h)
        go_enter Tryz.func56, Tryz.ntmps56
        go_wp2_with fail
        refine (rletter_calls _ _).mono ?_
        rintro e w' ⟨rfl, rfl⟩
        rw [H2.out]
        go_wp2_with fail
        go_loop [3] (fun i => ∃ k : Nat, i = .int .i64 k ∧ k ≤ s.size ∧ ∀ j (hj : j < s.size), j < k → inWordB (s[j].toNat : Int) = true) (fun i => s.size - (intOf i).toNat)
        case atStart => exact ⟨0, rfl, by omega, fun j _ h => by omega⟩
        case round =>
          obtain ⟨k, rfl, hk, hall⟩ := hrel
          have HA := Lib.hid hall
          clear hall
          by_cases hlt : k < s.size
          · have HN := Lib.hid (fun h => wordB_no (s := s) hlt h)
            cases h4 : letterB (s[k].toNat : Int)
            · cases h5 : digitB (s[k].toNat : Int)
              · cases h6 : ((s[k].toNat : Int) == 45)
                · have H := Lib.hid (HN.out (by simp [inWordB, h4, h5, h6]))
                  have h6' : ((s[k].toNat : Int) != 45) = true := by simpa using h6
                  have H4 := Lib.hid h4
                  have H5 := Lib.hid h5
                  clear h4 h5
                  go_wp2_with fail
                  refine (rletter_calls _ _).mono ?_
                  rintro e w' ⟨rfl, rfl⟩
                  rw [H4.out]
                  go_wp2_with fail
                  refine (rdigit_calls _ _).mono ?_
                  rintro e w' ⟨rfl, rfl⟩
                  rw [H5.out]
                  go_wp2_with fail
                  go_ret
                  exact gives_bool (by rw [H.out])
                · have H := Lib.hid (show inWordB (s[k].toNat : Int) = true by simp [inWordB, h4, h5, h6])
                  have h6' : ((s[k].toNat : Int) != 45) = false := by simpa using h6
                  have H4 := Lib.hid h4
                  have H5 := Lib.hid h5
                  clear h4 h5
                  go_wp2_with fail
                  refine (rletter_calls _ _).mono ?_
                  rintro e w' ⟨rfl, rfl⟩
                  rw [H4.out]
                  go_wp2_with fail
                  refine (rdigit_calls _ _).mono ?_
                  rintro e w' ⟨rfl, rfl⟩
                  rw [H5.out]
                  go_wp2_with fail
                  go_round
                  case rel => exact ⟨k + 1, by go_num, by omega, fun j hj hjk => by
                    by_cases e : j = k
                    · subst e; exact H.out
                    · exact HA.out j hj (by omega)⟩
                  case measure => simp [intOf]; omega
              · have H := Lib.hid (show inWordB (s[k].toNat : Int) = true by simp [inWordB, h4, h5])
                have H4 := Lib.hid h4
                have H5 := Lib.hid h5
                clear h4 h5
                go_wp2_with fail
                refine (rletter_calls _ _).mono ?_
                rintro e w' ⟨rfl, rfl⟩
                rw [H4.out]
                go_wp2_with fail
                refine (rdigit_calls _ _).mono ?_
                rintro e w' ⟨rfl, rfl⟩
                rw [H5.out]
                go_wp2_with fail
                go_round
                case rel => exact ⟨k + 1, by go_num, by omega, fun j hj hjk => by
                  by_cases e : j = k
                  · subst e; exact H.out
                  · exact HA.out j hj (by omega)⟩
                case measure => simp [intOf]; omega
            · have H := Lib.hid (show inWordB (s[k].toNat : Int) = true by simp [inWordB, h4])
              have H4 := Lib.hid h4
              clear h4
              go_wp2_with fail
              refine (rletter_calls _ _).mono ?_
              rintro e w' ⟨rfl, rfl⟩
              rw [H4.out]
              go_wp2_with fail
              go_round
              case rel => exact ⟨k + 1, by go_num, by omega, fun j hj hjk => by
                by_cases e : j = k
                · subst e; exact H.out
                · exact HA.out j hj (by omega)⟩
              case measure => simp [intOf]; omega
          · go_wp2_with fail
            go_ret
            exact gives_bool (by rw [HY.out (fun j hj => HA.out j hj (by omega))])
      · have H := Lib.hid (show wordB s = false by simp [wordB, HB0.out, HB1.out, H2.out, h1, h0]; intro h; simp at h3; omega)
        go_enter Tryz.func56, Tryz.ntmps56
        go_wp2_with fail
        refine (rletter_calls _ _).mono ?_
        rintro e w' ⟨rfl, rfl⟩
        rw [H2.out]
        go_wp2_with fail
        go_ret
        exact gives_bool (by rw [H.out])
  · have H := Lib.hid (show wordB s = false by simp [wordB]; omega)
    have hz2 : decide ((16 : Int) < s.size) = true := by simp; omega
    go_enter Tryz.func56, Tryz.ntmps56
    go_wp2_with fail
    go_ret
    exact gives_bool (by rw [H.out])
theorem rname_calls (s : ByteArray) (w : World) (hs : s.size ≤ 1000000000000000) : Calls Tryz.prog 105 #[.string s] w (Gives (.bool (nameB s)) w) := by
  go_enter Tryz.func105, Tryz.ntmps105
  go_wp2_with (first
    | (go_at_call 56; refine (rword_calls _ _ hs).mono ?_; rintro e w' ⟨rfl, rfl⟩)
    | (go_at_call 125; refine (rreserved_calls _ _).mono ?_; rintro e w' ⟨rfl, rfl⟩))
  all_goals (go_ret; exact gives_bool (by simp_all [nameB]))

set_option maxRecDepth 100000 in
theorem names_calls (l : List ByteArray) (a : Option Addr) (n c : Nat) (w : World) (hl : IsStrs w l a n c) (hn : n ≤ 1000000000000000) (hsz : ∀ x ∈ l, x.size ≤ 1000000000000000) :
    Calls Tryz.prog 106 #[.slice a n c] w (Gives (.bool (l.all nameB)) w) := by
  have HL := Lib.hid hl
  have HZ := Lib.hid hsz
  have hnl := Lib.hid hl.1
  clear hl hsz
  go_enter Tryz.func106, Tryz.ntmps106
  go_wp2_with fail
  go_loop [3] (fun t => ∃ k : Nat, t = .int .i64 k ∧ k ≤ n ∧ ∀ j (hj : j < l.length), j < k → nameB l[j] = true) (fun t => n - (intOf t).toNat)
  case atStart => exact ⟨0, rfl, by omega, fun j _ h => by omega⟩
  case round =>
    obtain ⟨k, rfl, hk, hlo⟩ := hrel
    have HO := Lib.hid hlo
    clear hlo
    by_cases hlt : k < n
    · have hlt' : k < l.length := by have := hnl.out; omega
      have hsk := HZ.out _ (List.getElem_mem hlt')
      obtain ⟨b, off, rfl, hcell⟩ := HL.out.2.2.2 k hlt'
      cases h3 : nameB l[k]
      · have H := Lib.hid (show l.all nameB = false by
          rw [List.all_eq_false]; exact ⟨l[k], List.getElem_mem hlt', by simp [h3]⟩)
        have H3 := Lib.hid h3
        clear h3
        go_wp2_with fail
        refine (rname_calls _ _ hsk).mono ?_
        rintro e w' ⟨rfl, rfl⟩
        rw [H3.out]
        go_wp2_with fail
        go_ret
        exact gives_bool (by rw [H.out])
      · have H3 := Lib.hid h3
        clear h3
        go_wp2_with fail
        refine (rname_calls _ _ hsk).mono ?_
        rintro e w' ⟨rfl, rfl⟩
        rw [H3.out]
        go_wp2_with fail
        go_round
        case rel => exact ⟨k + 1, by go_num, by omega, fun j hj hjk => by
          by_cases e : j = k
          · subst e; exact H3.out
          · exact HO.out j hj (by omega)⟩
        case measure => simp [intOf]; omega
    · go_wp2_with fail
      go_ret
      exact gives_bool (by
        symm
        rw [List.all_eq_true]
        intro x hx
        obtain ⟨j, hj, rfl⟩ := List.getElem_of_mem hx
        exact HO.out j hj (by have := hnl.out; omega))

theorem nodup_of {l : List ByteArray} {n : Nat} (hn : n = l.length) (h : ∀ i j (hi : i < l.length) (hj : j < l.length), i < n → j < i → l[i] ≠ l[j]) : l.Nodup := by
  rw [List.Nodup, List.pairwise_iff_getElem]
  intro i j hi hj hij e
  exact h j i hj hi (by omega) hij e.symm

/-- A value is handed back; memory is as it was. -/
def GivesD (v : Value) (w : World) (e : Ending) (w' : World) : Prop := e = .returned v ∧ ∃ n, w' = w.drewN n
theorem drewN_drewN (w : World) (a b : Nat) : (w.drewN a).drewN b = w.drewN (a + b) := by simp [World.drewN, Nat.add_assoc]
theorem givesD_bool {a b : Bool} {w w' : World} (h : a = b) (hx : ∃ n, w' = w.drewN n) : GivesD (.bool b) w (.returned (.bool a)) w' := by subst h; exact ⟨rfl, hx⟩
set_option maxRecDepth 100000 in
set_option maxHeartbeats 1000000 in
theorem distinct_calls (l : List ByteArray) (a : Option Addr) (n c : Nat) (w : World) (hl : IsStrs w l a n c) (hn : n ≤ 1000000000000000) :
    Calls Tryz.prog 107 #[.slice a n c] w (GivesD (.bool (decide l.Nodup)) w) := by
  have HL := Lib.hid hl
  have hnl := Lib.hid hl.1
  clear hl
  go_enter Tryz.func107, Tryz.ntmps107
  go_wp2_with fail
  go_loopw [3, 4] (fun t _ wr => ∃ k : Nat, t = .int .i64 k ∧ k ≤ n ∧ (∀ i j (hi : i < l.length) (hj : j < l.length), i < k → j < i → l[i] ≠ l[j]) ∧ ∃ q, wr = w.drewN q) (fun t _ _ => n - (intOf t).toNat)
  case atStart => exact ⟨0, rfl, by omega, fun i j _ _ h => by omega, 0, rfl⟩
  case round =>
    obtain ⟨k, rfl, hk, hlo, q, rfl⟩ := hrel
    have HO := Lib.hid hlo
    clear hlo
    by_cases hlt : k < n
    · have hlt' : k < l.length := by have := hnl.out; omega
      go_wp2_with fail
      go_loopw [4] (fun t wr2 => ∃ m : Nat, t = .int .i64 m ∧ m ≤ k ∧ (∀ j (hj : j < l.length), j < m → l[k] ≠ l[j]) ∧ ∃ q, wr2 = w.drewN q) (fun t _ => k - (intOf t).toNat)
      case atStart => exact ⟨0, rfl, by omega, fun j _ h => by omega, q, rfl⟩
      case round =>
        obtain ⟨m, rfl, hm, hne, q2, rfl⟩ := hrel
        have HE := Lib.hid hne
        clear hne
        by_cases hmk : m < k
        · have hmk' : m < l.length := by omega
          obtain ⟨b, off, rfl, hc1⟩ := HL.out.2.2.2 k hlt'
          obtain ⟨b', off', e, hc2⟩ := HL.out.2.2.2 m hmk'
          simp only [Option.some.injEq, Addr.mk.injEq, and_true] at e
          obtain ⟨rfl, rfl⟩ := e
          have ti0 : (0 : Int) ≤ (k : Int) := by omega
          have ti1 : (k : Int) < (n : Int) := by omega
          have tj0 : (0 : Int) ≤ (m : Int) := by omega
          have tj1 : (m : Int) < (n : Int) := by omega
          cases he : (l[k].toList == l[m].toList)
          · have HQ := Lib.hid he
            go_wp2_with fail
            go_quiet (fail)
            go_wp2_with fail
            go_roundw
            case rel =>
              refine ⟨m + 1, by go_num, by omega, fun j hj hjm => ?_, _, rfl⟩
              by_cases e : j = m
              · subst e; intro h; have := HQ.out; rw [h] at this; simp at this
              · exact HE.out j hj (by omega)
            case measure => simp [intOf]; omega
          · have H := Lib.hid (show decide l.Nodup = false by
              rw [decide_eq_false_iff_not]
              intro hnd
              have h1 := toList_inj (beq_iff_eq.1 he)
              rw [List.Nodup, List.pairwise_iff_getElem] at hnd
              exact hnd m k hmk' hlt' hmk h1.symm)
            go_wp2_with fail
            go_quiet (fail)
            go_wp2_with fail
            go_ret
            exact givesD_bool (by rw [H.out]) ⟨_, drewN_drewN _ _ _⟩
        · go_wp2_with fail
          go_roundw
          case rel =>
            refine ⟨k + 1, by go_num, by omega, fun i j hi hj hik hji => ?_, q2, rfl⟩
            by_cases e : i = k
            · subst e; exact HE.out j hj (by omega)
            · exact HO.out i j hi hj (by omega) hji
          case measure => simp [intOf]; omega
    · go_wp2_with fail
      go_ret
      exact givesD_bool (by
        symm
        rw [decide_eq_true_eq]
        exact nodup_of hnl.out (fun i j hi hj hin hji => HO.out i j hi hj (by omega) hji)) ⟨q, rfl⟩
end Go.Proofs.YtaepiiediblleaaGreatDoor

namespace Go.Proofs.YtaepiiediblleaaGreatDoor
open Go.RowKit

set_option maxRecDepth 100000 in
theorem top_calls (g n cap bp : Nat) (w : World) (c2 : w.cell? ⟨bp, 2, none⟩ = some (.slice (some ⟨g, 0, none⟩) n cap)) (hn : 0 < n) (hn2 : n ≤ 1000000000000000) :
    Calls Tryz.prog 76 #[.pointer (some ⟨bp, 0, none⟩)] w (GivesE (.pointer (some ⟨g, (n - 1) * 3, none⟩)) w) := by
  have t1 : (0 : Int) ≤ (n : Int) - 1 := by omega
  have t2 : (n : Int) - 1 < (n : Int) := by omega
  have t3 : ((n : Int) - 1).toNat = n - 1 := by omega
  have t4 : 1 ≤ n := hn
  go_enter Tryz.func76, Tryz.ntmps76
  go_wp2_with fail
  go_quiet (fail)
  go_wp2_with fail
  go_ret
  refine ⟨?_, Ext.drewN (Ext.refl w) _⟩
  simp

structure Lvl where
  nots : Nat
  ands : List Part
  ors : List Part
structure LvlV where
  nots : Nat
  va : Value
  vo : Value
def LvlV.cells (l : LvlV) : List Value := [.int .i64 l.nots, l.va, l.vo]
def LvlV.rows (l : LvlV) : List Nat := rowOf l.va ++ rowOf l.vo
/-- Parts in a row of their own. -/
def OwnParts (w : World) (base : Nat) (K : List Nat) (l : List Part) (v : Value) : Prop := ∃ vs : List PartV, w.ownsRow base 56 8 v l.length (vs.flatMap PartV.cells) ∧ PartsR (mask w K) l vs
def LvlR (w : World) (base : Nat) (K : List Nat) (l : Lvl) (v : LvlV) : Prop := v.nots = l.nots ∧ OwnParts w base K l.ands v.va ∧ OwnParts w base K l.ors v.vo

def sumPot : List Part → Nat
  | [] => 0
  | p :: r => p.size + 1 + sumPot r
def Lvl.pot (l : Lvl) : Nat := l.nots + sumPot l.ands + sumPot l.ors
def potAll : List Lvl → Nat
  | [] => 0
  | l :: r => l.pot + potAll r

/-- The parser in memory, with its levels. M: the blocks that it writes; K: those that the data of its parts avoid. -/
structure PI (toks : List Tok) (ta : Option Addr) (tn tc : Nat) (w0 w : World) (bp k : Nat) (vl : Value) (lv : List Lvl) (lvs : List LvlV) (M K : List Nat) : Prop where
  pc : PC toks ta tn tc w0 w bp k vl
  own : w.ownsRow w0.heap.size 51 3 vl lvs.length (lvs.flatMap LvlV.cells)
  len : lv.length = lvs.length
  lvl : ∀ i (h1 : i < lv.length) (h2 : i < lvs.length), LvlR w w0.heap.size K lv[i] lvs[i]
  hM : M = bp :: (rowOf vl ++ lvs.flatMap LvlV.rows)
  nd : M.Nodup
  hK : ∀ x ∈ M, x ∈ K
  hKlt : ∀ x ∈ K, x < w.heap.size
  pot : potAll lv ≤ 2 * k
  cnt : lv.length ≤ k + 1
  tidy : ∀ l ∈ lv, Tidy l.ands ∧ Tidy l.ors
  small : tn ≤ 1000000

theorem OwnParts.chg {w w' : World} {base : Nat} {K K' : List Nat} {l : List Part} {v : Value} {N : List Nat} (h : OwnParts w base K l v) (hc : Chg N w w') (hN : ∀ x, v.ownBlock = some x → x ∉ N) (hs : Sub (mask w K) (mask w' K')) : OwnParts w' base K' l v := by
  obtain ⟨vs, h1, h2⟩ := h
  exact ⟨vs, owns_chg h1 hc hN, h2.mono hs⟩
theorem LvlR.chg {w w' : World} {base : Nat} {K K' : List Nat} {l : Lvl} {v : LvlV} {N : List Nat} (h : LvlR w base K l v) (hc : Chg N w w') (hN : ∀ x ∈ v.rows, x ∉ N) (hs : Sub (mask w K) (mask w' K')) : LvlR w' base K' l v :=
  ⟨h.1, h.2.1.chg hc (fun x hx => hN x (List.mem_append_left _ (mem_rowOf.2 hx))) hs, h.2.2.chg hc (fun x hx => hN x (List.mem_append_right _ (mem_rowOf.2 hx))) hs⟩

/-- Everything that the parser's invariant says of memory stays if only blocks outside of M change. -/
theorem PI.chg {toks : List Tok} {ta : Option Addr} {tn tc : Nat} {w0 w : World} {bp k : Nat} {vl : Value} {lv : List Lvl} {lvs : List LvlV} {M K : List Nat} (h : PI toks ta tn tc w0 w bp k vl lv lvs M K) {w' : World} {N K' : List Nat} (hc : Chg N w w')
    (hN : ∀ x ∈ M, x ∉ N) (hN0 : ∀ x ∈ N, w0.heap.size ≤ x) (hs : Sub (mask w K) (mask w' K')) (hK : ∀ x ∈ M, x ∈ K') (hKlt : ∀ x ∈ K', x < w'.heap.size) : PI toks ta tn tc w0 w' bp k vl lv lvs M K' := by
  have hm : ∀ x, x ∈ bp :: (rowOf vl ++ lvs.flatMap LvlV.rows) → x ∉ N := fun x hx => hN x (h.hM ▸ hx)
  refine ⟨h.pc.chg hc (hm bp (by simp)) hN0, owns_chg h.own hc (fun x hx => hm x (by simp [mem_rowOf.2 hx])), h.len, fun i h1 h2 => (h.lvl i h1 h2).chg hc (fun x hx => hm x ?_) hs, h.hM, h.nd, hK, hKlt, h.pot, h.cnt, h.tidy, h.small⟩
  refine List.mem_cons_of_mem _ (List.mem_append_right _ (List.mem_flatMap.2 ⟨lvs[i], List.getElem_mem h2, hx⟩))
theorem PI.ext {toks : List Tok} {ta : Option Addr} {tn tc : Nat} {w0 w : World} {bp k : Nat} {vl : Value} {lv : List Lvl} {lvs : List LvlV} {M K : List Nat} (h : PI toks ta tn tc w0 w bp k vl lv lvs M K) {w' : World} (hx : Ext w w') : PI toks ta tn tc w0 w' bp k vl lv lvs M K :=
  h.chg (hx.chg []) (by simp) (by simp) (mask_ext K hx) h.hK (fun x hx' => Nat.lt_of_lt_of_le (h.hKlt x hx') hx.size)

/-- The last level, in memory. -/
theorem PI.last {toks : List Tok} {ta : Option Addr} {tn tc : Nat} {w0 w : World} {bp k : Nat} {vl : Value} {lv : List Lvl} {lvs : List LvlV} {M K : List Nat} (h : PI toks ta tn tc w0 w bp k vl lv lvs M K) (hl : 0 < lvs.length) :
    ∃ g cap, vl = .slice (some ⟨g, 0, none⟩) lvs.length cap ∧ g ∈ M ∧ g ≠ bp ∧ w0.heap.size ≤ g ∧ g < w.heap.size ∧ w.cell? ⟨g, (lvs.length - 1) * 3, none⟩ = some (.int .i64 (lvs[lvs.length - 1]).nots) ∧ w.cell? ⟨g, (lvs.length - 1) * 3 + 1, none⟩ = some (lvs[lvs.length - 1]).va ∧
      w.cell? ⟨g, (lvs.length - 1) * 3 + 2, none⟩ = some (lvs[lvs.length - 1]).vo ∧ (∀ j, w.frozen? ⟨g, j, none⟩ = false) := by
  have hown := h.own
  rcases hown.2 with ⟨_, h0⟩ | ⟨g, cap, cur, rfl, hb, hg, hle, _, _, _⟩
  · omega
  · obtain ⟨a, c, e1, hr⟩ := IsRows.of_owns (f := LvlV.cells) (fun _ => rfl) hown
    simp only [Value.slice.injEq, true_and] at e1
    obtain ⟨rfl, rfl⟩ := e1
    obtain ⟨b, off, e2, hc⟩ := hr.2.2.2 (lvs.length - 1) (by omega)
    simp only [Option.some.injEq, Addr.mk.injEq, and_true] at e2
    obtain ⟨rfl, rfl⟩ := e2
    have c0 := hc 0 (by simp [LvlV.cells])
    have c1 := hc 1 (by simp [LvlV.cells])
    have c2 := hc 2 (by simp [LvlV.cells])
    simp only [LvlV.cells, List.getElem_cons_zero, List.getElem_cons_succ, Nat.add_zero, Nat.zero_add] at c0 c1 c2
    have hgM : g ∈ M := by rw [h.hM]; simp [rowOf, Value.ownBlock]
    refine ⟨g, cap, rfl, hgM, ?_, hb, blk_lt hg, c0, c1, c2, fun j => blk_free hg j⟩
    intro e
    have := h.nd
    rw [h.hM] at this
    simp [rowOf, Value.ownBlock, e] at this
end Go.Proofs.YtaepiiediblleaaGreatDoor

namespace Go.Proofs.YtaepiiediblleaaGreatDoor
open Go.RowKit

theorem top_calls' (g m cap bp : Nat) (w : World) (c2 : w.cell? ⟨bp, 2, none⟩ = some (.slice (some ⟨g, 0, none⟩) (m + 1) cap)) (hn2 : m ≤ 1000000) :
    Calls Tryz.prog 76 #[.pointer (some ⟨bp, 0, none⟩)] w (GivesE (.pointer (some ⟨g, m * 3, none⟩)) w) := top_calls g (m + 1) cap bp w c2 (by omega) (by omega)

theorem flatMap_snoc (l : List LvlV) (x : LvlV) : (l ++ [x]).flatMap LvlV.cells = l.flatMap LvlV.cells ++ x.cells := by simp
theorem rows_snoc (l : List LvlV) (x : LvlV) : (l ++ [x]).flatMap LvlV.rows = l.flatMap LvlV.rows ++ x.rows := by simp
theorem set_last (l : List LvlV) (x : LvlV) (j : Nat) (u : Value) : ((l ++ [x]).flatMap LvlV.cells).set (l.length * 3 + j) u = l.flatMap LvlV.cells ++ x.cells.set j u := by
  rw [flatMap_snoc]
  have hl := length_flatMap_of LvlV.cells 3 (fun _ => rfl) l
  rw [List.set_append_right _ _ (by omega), hl]
  congr 1
  congr 1
  omega

/-- The last level, in memory. -/
theorem PI.at {toks : List Tok} {ta : Option Addr} {tn tc : Nat} {w0 w : World} {bp k : Nat} {vl : Value} {lv : List Lvl} {l : List LvlV} {x : LvlV} {M K : List Nat} (h : PI toks ta tn tc w0 w bp k vl lv (l ++ [x]) M K) :
    ∃ g cap, vl = .slice (some ⟨g, 0, none⟩) (l.length + 1) cap ∧ g ∈ M ∧ g ≠ bp ∧ w0.heap.size ≤ g ∧ g < w.heap.size ∧ w.cell? ⟨g, l.length * 3, none⟩ = some (.int .i64 x.nots) ∧ w.cell? ⟨g, l.length * 3 + 1, none⟩ = some x.va ∧
      w.cell? ⟨g, l.length * 3 + 2, none⟩ = some x.vo ∧ (∀ j, w.frozen? ⟨g, j, none⟩ = false) ∧ l.length ≤ 1000000 := by
  obtain ⟨g, cap, h1, h2, h3, h4, h5, h6, h7, h8, h9⟩ := h.last (by simp)
  have e : (l ++ [x]).length - 1 = l.length := by simp
  have e2 : (l ++ [x])[(l ++ [x]).length - 1]'(by simp) = x := by simp
  rw [e2] at h6 h7 h8
  rw [e] at h6 h7 h8
  simp only [List.length_append, List.length_singleton] at h1
  refine ⟨g, cap, h1, h2, h3, h4, h5, h6, h7, h8, h9, ?_⟩
  have := h.cnt
  have := h.len
  have := h.pc.hk
  have := h.small
  simp at *
  omega

theorem PI.lastR {toks : List Tok} {ta : Option Addr} {tn tc : Nat} {w0 w : World} {bp k : Nat} {vl : Value} {li : List Lvl} {t : Lvl} {l : List LvlV} {x : LvlV} {M K : List Nat} (h : PI toks ta tn tc w0 w bp k vl (li ++ [t]) (l ++ [x]) M K) (hll : li.length = l.length) : LvlR w w0.heap.size K t x := by
  have := h.lvl li.length (by simp) (by simp; omega)
  simpa [List.getElem_append_right, hll] using this
theorem PI.rowsNot {toks : List Tok} {ta : Option Addr} {tn tc : Nat} {w0 w : World} {bp k : Nat} {vl : Value} {lv : List Lvl} {l : List LvlV} {x : LvlV} {M K : List Nat} (h : PI toks ta tn tc w0 w bp k vl lv (l ++ [x]) M K) : ∀ y ∈ x.rows, y ∉ rowOf vl ∧ y ≠ bp ∧ y ∈ M := by
  intro y hy
  have hnM := h.nd
  rw [h.hM, rows_snoc] at hnM
  rw [List.nodup_cons, List.nodup_append] at hnM
  refine ⟨fun h1 => hnM.2.2.2 y h1 y (List.mem_append_right _ hy) rfl, fun e => hnM.1 (by subst e; exact List.mem_append_right _ (List.mem_append_right _ hy)), ?_⟩
  rw [h.hM, rows_snoc]
  exact List.mem_cons_of_mem _ (List.mem_append_right _ (List.mem_append_right _ hy))
theorem PI.rowsNd {toks : List Tok} {ta : Option Addr} {tn tc : Nat} {w0 w : World} {bp k : Nat} {vl : Value} {lv : List Lvl} {l : List LvlV} {x : LvlV} {M K : List Nat} (h : PI toks ta tn tc w0 w bp k vl lv (l ++ [x]) M K) : x.rows.Nodup := by
  have hnM := h.nd
  rw [h.hM, rows_snoc, List.nodup_cons, List.nodup_append, List.nodup_append] at hnM
  exact hnM.2.2.1.2.1

/-- The last level is replaced. -/
theorem PI.replace {toks : List Tok} {ta : Option Addr} {tn tc : Nat} {w0 w w' : World} {bp k : Nat} {vl : Value} {li : List Lvl} {t t' : Lvl} {l : List LvlV} {x x' : LvlV} {M K K' N : List Nat} {k' : Nat}
    (h : PI toks ta tn tc w0 w bp k vl (li ++ [t]) (l ++ [x]) M K) (hll : li.length = l.length) (hpc : PC toks ta tn tc w0 w' bp k' vl) (hk : k ≤ k') (hc : Chg N w w') (hN : ∀ y ∈ N, y ∈ bp :: (rowOf vl ++ x.rows) ∨ y ∉ M) (hs : Sub (mask w K) (mask w' K'))
    (hown : w'.ownsRow w0.heap.size 51 3 vl (l.length + 1) (l.flatMap LvlV.cells ++ x'.cells)) (hnew : LvlR w' w0.heap.size K' t' x') (hr : ∀ y ∈ x'.rows, y ∈ x.rows ∨ w.heap.size ≤ y) (hnd : x'.rows.Nodup)
    (hK : ∀ y ∈ bp :: (rowOf vl ++ (l ++ [x']).flatMap LvlV.rows), y ∈ K') (hKlt : ∀ y ∈ K', y < w'.heap.size) (hpot : potAll (li ++ [t']) ≤ 2 * k') (htidy : Tidy t'.ands ∧ Tidy t'.ors) :
    PI toks ta tn tc w0 w' bp k' vl (li ++ [t']) (l ++ [x']) (bp :: (rowOf vl ++ (l ++ [x']).flatMap LvlV.rows)) K' := by
  have hnM := h.nd
  rw [h.hM, rows_snoc] at hnM
  have hlt : ∀ y ∈ M, y < w.heap.size := fun y hy => h.hKlt y (h.hK y hy)
  rw [h.hM, rows_snoc] at hlt
  refine ⟨hpc, ?_, by simpa using hll, ?_, rfl, ?_, hK, hKlt, hpot, ?_, ?_, h.small⟩
  · rw [flatMap_snoc]; simpa using hown
  · intro i h1 h2
    by_cases hi : i < li.length
    · have hi' : i < l.length := by omega
      have := h.lvl i (by simp; omega) (by simp; omega)
      simp only [List.getElem_append_left hi, List.getElem_append_left hi'] at this ⊢
      refine this.chg hc (fun y hy hyN => ?_) hs
      have hyl : y ∈ l.flatMap LvlV.rows := List.mem_flatMap.2 ⟨l[i], List.getElem_mem hi', hy⟩
      rcases hN y hyN with hb | hb
      · rw [show bp :: (rowOf vl ++ (l.flatMap LvlV.rows ++ x.rows)) = [bp] ++ (rowOf vl ++ (l.flatMap LvlV.rows ++ x.rows)) from rfl] at hnM
        rw [List.nodup_append] at hnM
        obtain ⟨_, hn1, hn2⟩ := hnM
        rw [List.nodup_append] at hn1
        obtain ⟨_, hn3, hn4⟩ := hn1
        rw [List.nodup_append] at hn3
        rcases List.mem_cons.1 hb with rfl | hb
        · exact hn2 y (by simp) y (List.mem_append_right _ (List.mem_append_left _ hyl)) rfl
        · rcases List.mem_append.1 hb with hb | hb
          · exact hn4 y hb y (List.mem_append_left _ hyl) rfl
          · exact hn3.2.2 y hyl y hb rfl
      · exact hb (by rw [h.hM, rows_snoc]; exact List.mem_cons_of_mem _ (List.mem_append_right _ (List.mem_append_left _ hyl)))
    · have hi1 : i = li.length := by simp at h1; omega
      subst hi1
      simp only [List.getElem_append_right (Nat.le_refl _), List.getElem_append_right (show l.length ≤ li.length by omega)]
      simpa using hnew
  · rw [rows_snoc]
    have key : ∀ (A B C D : List Nat), (A ++ (B ++ (C ++ D))).Nodup → ∀ E : List Nat, E.Nodup → (∀ y ∈ E, y ∈ D ∨ ∀ z ∈ A ++ (B ++ C), y ≠ z) → (A ++ (B ++ (C ++ E))).Nodup := by
      intro A B C D h1 E h2 h3
      have e1 : A ++ (B ++ (C ++ D)) = (A ++ (B ++ C)) ++ D := by simp
      have e2 : A ++ (B ++ (C ++ E)) = (A ++ (B ++ C)) ++ E := by simp
      rw [e1, List.nodup_append] at h1
      rw [e2, List.nodup_append]
      refine ⟨h1.1, h2, fun a ha b hb e => ?_⟩
      rcases h3 b hb with h4 | h4
      · exact h1.2.2 a ha b h4 e
      · exact h4 a ha e.symm
    refine key [bp] (rowOf vl) (l.flatMap LvlV.rows) x.rows hnM x'.rows hnd (fun y hy => ?_)
    rcases hr y hy with h4 | h4
    · exact Or.inl h4
    · refine Or.inr fun z hz e => ?_
      have := hlt z (by
        rcases List.mem_append.1 hz with hz | hz
        · simp at hz; subst hz; simp
        · rcases List.mem_append.1 hz with hz | hz
          · exact List.mem_cons_of_mem _ (List.mem_append_left _ hz)
          · exact List.mem_cons_of_mem _ (List.mem_append_right _ (List.mem_append_left _ hz)))
      omega
  · have := h.cnt
    simp at this ⊢
    omega
  · intro y hy
    rcases List.mem_append.1 hy with hy | hy
    · exact h.tidy y (List.mem_append_left _ hy)
    · simp at hy; subst hy; exact htidy
end Go.Proofs.YtaepiiediblleaaGreatDoor
