/-
  Texts of the claim, joined: Parse2, Parse3.
-/
import Derived.Test.YtaepiiediblleaaGreatDoorFo03
namespace Go.Proofs.YtaepiiediblleaaGreatDoor
open Go.RowKit

/-- The parser at the k-th token, in the world w; its tokens lie in w0. -/
structure PC (toks : List Tok) (ta : Option Addr) (tn tc : Nat) (w0 w : World) (bp k : Nat) (vl : Value) : Prop where
  ht : IsToks w0 toks ta tn tc
  hx : Ext w0 w
  hb : PB w bp ta tn tc k vl
  hbp : w0.heap.size ≤ bp
  hk : k ≤ tn
  htn : tn ≤ 1000000000000000
  hz : ∀ t ∈ toks, t.text.size ≤ 1000000000000000

theorem PC.step {toks : List Tok} {ta : Option Addr} {tn tc : Nat} {w0 w : World} {bp k : Nat} {vl : Value} (h : PC toks ta tn tc w0 w bp k vl) {w' : World} {k' : Nat} {vl' : Value} (hc : Chg [bp] w w') (hb : PB w' bp ta tn tc k' vl') (hk : k' ≤ tn) : PC toks ta tn tc w0 w' bp k' vl' :=
  ⟨h.ht, hc.ext h.hx (by simpa using h.hbp), hb, h.hbp, hk, h.htn, h.hz⟩
theorem PC.ext {toks : List Tok} {ta : Option Addr} {tn tc : Nat} {w0 w : World} {bp k : Nat} {vl : Value} (h : PC toks ta tn tc w0 w bp k vl) {w' : World} (hx : Ext w w') : PC toks ta tn tc w0 w' bp k vl :=
  ⟨h.ht, h.hx.trans hx, hx.blk h.hb, h.hbp, h.hk, h.htn, h.hz⟩
theorem PC.cells {toks : List Tok} {ta : Option Addr} {tn tc : Nat} {w0 w : World} {bp k : Nat} {vl : Value} (h : PC toks ta tn tc w0 w bp k vl) :
    w.cell? ⟨bp, 0, none⟩ = some (.slice ta tn tc) ∧ w.cell? ⟨bp, 1, none⟩ = some (.int .i64 k) ∧ w.cell? ⟨bp, 2, none⟩ = some vl ∧ (∀ j, w.frozen? ⟨bp, j, none⟩ = false) ∧ bp < w.heap.size := by
  obtain ⟨c0, c1, c2, cf⟩ := blk3 h.hb
  exact ⟨c0, c1, c2, cf, blk_lt h.hb⟩
theorem PC.tok {toks : List Tok} {ta : Option Addr} {tn tc : Nat} {w0 w : World} {bp k : Nat} {vl : Value} (h : PC toks ta tn tc w0 w bp k vl) (hk : k < tn) :
    ∃ (T : Tok) (b off : Nat), toks[k]? = some T ∧ T.text.size ≤ 1000000000000000 ∧ ta = some ⟨b, off, none⟩ ∧ b < w0.heap.size ∧ w.cell? ⟨b, off + k * 4, none⟩ = some (.int .i64 T.kind) ∧ w.cell? ⟨b, off + k * 4 + 1, none⟩ = some (.string T.text) ∧ w.cell? ⟨b, off + k * 4 + 2, none⟩ = some (.int .i64 T.num) := by
  have hlt : k < toks.length := by have := h.ht.1; omega
  obtain ⟨b, off, rfl, hcells⟩ := h.ht.2.2.2 k hlt
  have g0 := hcells 0 (by simp [tokCells])
  have g1 := hcells 1 (by simp [tokCells])
  have g2 := hcells 2 (by simp [tokCells])
  have hbl := block_lt g0
  simp only [tokCells, List.getElem_cons_zero, List.getElem_cons_succ, Nat.add_zero] at g0 g1 g2
  exact ⟨toks[k], b, off, List.getElem?_eq_getElem hlt, h.hz _ (List.getElem_mem hlt), rfl, hbl, h.hx.cell g0, h.hx.cell g1, h.hx.cell g2⟩
theorem PC.past {toks : List Tok} {ta : Option Addr} {tn tc : Nat} {w0 w : World} {bp k : Nat} {vl : Value} (h : PC toks ta tn tc w0 w bp k vl) (hk : ¬ k < tn) : toks[k]? = none ∧ k = tn := by
  refine ⟨List.getElem?_eq_none (by have := h.ht.1; omega), by have := h.hk; omega⟩
theorem PC.accept {toks : List Tok} {ta : Option Addr} {tn tc : Nat} {w0 w : World} {bp k : Nat} {vl : Value} (h : PC toks ta tn tc w0 w bp k vl) (kind : Int) (text : ByteArray) :
    Calls Tryz.prog 43 #[.pointer (some ⟨bp, 0, none⟩), .int .i64 kind, .string text] w (fun e w' => e = .returned (.bool (acceptB toks k kind text)) ∧ Chg [bp] w w' ∧ PC toks ta tn tc w0 w' bp (if acceptB toks k kind text then k + 1 else k) vl) := by
  refine (accept_calls toks ta tn tc w0 w bp k vl kind text h.ht h.hx h.hb h.hk h.htn).mono ?_
  rintro e w' ⟨he, hb, hc⟩
  refine ⟨he, hc, h.step hc hb ?_⟩
  split
  · rename_i ha
    by_cases hlt : k < tn
    · omega
    · rw [acceptB, (h.past hlt).1] at ha; cases ha
  · exact h.hk

theorem quiet_gives {f : FuncId} {args : Array Value} {w : World} {n : Nat} {v : Value} (h : Calls Tryz.prog f args (w.drewN n) (Gives v (w.drewN n))) : Calls Tryz.prog f args (w.drewN n) fun e w'' => e = .returned v ∧ ∃ m, w'' = w.drewN m :=
  h.mono fun _ _ ⟨he, hm⟩ => ⟨he, n, hm.symm⟩

def nameTokB (toks : List Tok) (k : Nat) : Bool := match toks[k]? with | some t => (t.kind == 1) && nameB t.text | none => false

set_option maxRecDepth 100000 in
set_option maxHeartbeats 1000000 in
theorem isName_calls {toks : List Tok} {ta : Option Addr} {tn tc : Nat} {w0 w : World} {bp k : Nat} {vl : Value} (h : PC toks ta tn tc w0 w bp k vl) :
    Calls Tryz.prog 77 #[.pointer (some ⟨bp, 0, none⟩)] w (GivesE (.bool (nameTokB toks k)) w) := by
  obtain ⟨c0, c1, c2, cf, hlt⟩ := h.cells
  have htn := h.htn
  by_cases h1 : k < tn
  · obtain ⟨T, b, off, hT, hTs, rfl, hbw, g0, g1, g2⟩ := h.tok h1
    have HA := Lib.hid (show nameTokB toks k = ((T.kind == 1) && nameB T.text) by rw [nameTokB, hT])
    generalize nameTokB toks k = B at *
    have ti : (k : Int) < (tn : Int) := by omega
    have ti0 : (0 : Int) ≤ (k : Int) := by omega
    have td : decide ((k : Int) < (tn : Int)) = true := by simp; omega
    clear h hT hbw
    cases t2 : T.kind == 1
    · have H := Lib.hid (show B = false by rw [HA.out, t2]; rfl)
      go_enter Tryz.func77, Tryz.ntmps77
      go_wp2_with fail
      go_quiet (fail)
      go_wp2_with fail
      go_ret
      exact givesE_bool H.out.symm (Ext.drewN (Ext.refl w) _)
    · have H := Lib.hid (show B = nameB T.text by rw [HA.out, t2]; rfl)
      go_enter Tryz.func77, Tryz.ntmps77
      go_wp2_with fail
      go_quiet ((go_at_call 101; exact quiet_gives (name_calls _ _ hTs)))
      go_wp2_with fail
      go_ret
      exact givesE_bool H.out.symm (Ext.drewN (Ext.refl w) _)
  · have H := Lib.hid (show nameTokB toks k = false by rw [nameTokB, (h.past h1).1])
    generalize nameTokB toks k = B at *
    have td : decide ((k : Int) < (tn : Int)) = false := by simp; omega
    clear h
    go_enter Tryz.func77, Tryz.ntmps77
    go_wp2_with fail
    go_quiet (fail)
    go_wp2_with fail
    go_ret
    exact givesE_bool H.out.symm (Ext.drewN (Ext.refl w) _)

/-- The number, the error and the place after a bound. -/
def boundF (toks : List Tok) (k : Nat) (least : Int) : Int × Int × Nat := match toks[k]? with
  | some t => if t.kind = 2 then (if numberB t.num = true ∧ least ≤ t.num then (t.num, 0, k + 1) else (0, 1, k)) else (0, 5, k)
  | none => (0, 5, k)

/-- What bound does. -/
def BoundQ (R : Int × Int × Nat) (toks : List Tok) (ta : Option Addr) (tn tc : Nat) (w0 w : World) (bp : Nat) (vl : Value) (e : Ending) (w' : World) : Prop :=
  e = .returned (.tuple #[.int .i64 R.1, .int .i64 R.2.1]) ∧ Chg [bp] w w' ∧ PC toks ta tn tc w0 w' bp R.2.2 vl
theorem boundQ_mk {toks : List Tok} {ta : Option Addr} {tn tc : Nat} {w0 w : World} {bp k : Nat} {vl : Value} (h : PC toks ta tn tc w0 w bp k vl) {R : Int × Int × Nat} {a b : Int} {w' : World} (hR : R = (a, b, k)) (hx : Ext w w') : BoundQ R toks ta tn tc w0 w bp vl (.returned (.tuple #[.int .i64 a, .int .i64 b])) w' := by
  subst hR; exact ⟨rfl, hx.chg _, h.ext hx⟩
theorem PC.next {toks : List Tok} {ta : Option Addr} {tn tc : Nat} {w0 w : World} {bp k : Nat} {vl : Value} (h : PC toks ta tn tc w0 w bp k vl) (hk : k < tn) : PC toks ta tn tc w0 (w.setCell ⟨bp, 1, none⟩ (.int .i64 ((k : Int) + 1))) bp (k + 1) vl :=
  h.step ((Chg.refl [bp] w).setCell (Or.inl (by simp)) _) (by have := heap_setCell_same w bp 1 _ _ (.int .i64 ((k : Int) + 1)) h.hb; exact this) (by omega)

set_option maxRecDepth 100000 in
set_option maxHeartbeats 1000000 in
theorem bound_calls {toks : List Tok} {ta : Option Addr} {tn tc : Nat} {w0 w : World} {bp k : Nat} {vl : Value} (h : PC toks ta tn tc w0 w bp k vl) (least : Int) :
    Calls Tryz.prog 103 #[.pointer (some ⟨bp, 0, none⟩), .int .i64 least] w (BoundQ (boundF toks k least) toks ta tn tc w0 w bp vl) := by
  obtain ⟨c0, c1, c2, cf, hlt⟩ := h.cells
  have HP := Lib.hid h
  have htn := h.htn
  by_cases h1 : k < tn
  · obtain ⟨T, b, off, hT, hTs, rfl, hbw, g0, g1, g2⟩ := h.tok h1
    have HA := Lib.hid (show boundF toks k least = if T.kind = 2 then (if numberB T.num = true ∧ least ≤ T.num then (T.num, 0, k + 1) else (0, 1, k)) else (0, 5, k) by rw [boundF, hT])
    generalize boundF toks k least = R at *
    have ti : (k : Int) < (tn : Int) := by omega
    have ti0 : (0 : Int) ≤ (k : Int) := by omega
    have td : ((k : Int) == (tn : Int)) = false := by simp; omega
    have hne : b ≠ bp := by have := h.hbp; omega
    clear h hT hbw
    by_cases h2 : T.kind = 2
    · have t2 : (T.kind != 2) = false := by simpa using h2
      cases h3 : numberB T.num
      · have H := Lib.hid (show R = (0, 1, k) by rw [HA.out, if_pos h2, if_neg (by simp [h3])])
        have H3 := Lib.hid h3
        clear h3 h2
        go_enter Tryz.func103, Tryz.ntmps103
        go_wp2_with fail
        go_quiet (fail)
        go_wp2_with fail
        go_quiet (fail)
        go_wp2_with fail
        refine (number_calls _ _).mono ?_
        rintro r w1 ⟨rfl, rfl⟩
        rw [H3.out]
        go_wp2_with fail
        go_ret2
        exact boundQ_mk HP.out H.out (Ext.drewN (Ext.refl w) _)
      · have H3 := Lib.hid h3
        by_cases h4 : least ≤ T.num
        · have H := Lib.hid (show R = (T.num, 0, k + 1) by rw [HA.out, if_pos h2, if_pos ⟨h3, h4⟩])
          have t4 : decide (T.num < least) = false := by simp; omega
          clear h3 h2
          go_enter Tryz.func103, Tryz.ntmps103
          go_wp2_with fail
          go_quiet (fail)
          go_wp2_with fail
          go_quiet (fail)
          go_wp2_with fail
          refine (number_calls _ _).mono ?_
          rintro r w1 ⟨rfl, rfl⟩
          rw [H3.out]
          go_wp2_with fail
          go_ret2
          rw [H.out]
          have hP := HP.out.next h1
          refine ⟨rfl, ?_, ?_⟩
          · exact ((Chg.refl [bp] w).setCell (Or.inl (by simp)) _).drewN _
          · exact hP.ext (Ext.drewN (Ext.refl _) _)
        · have H := Lib.hid (show R = (0, 1, k) by rw [HA.out, if_pos h2, if_neg (by simp [h4])])
          have t4 : decide (T.num < least) = true := by simp; omega
          clear h3 h2
          go_enter Tryz.func103, Tryz.ntmps103
          go_wp2_with fail
          go_quiet (fail)
          go_wp2_with fail
          go_quiet (fail)
          go_wp2_with fail
          refine (number_calls _ _).mono ?_
          rintro r w1 ⟨rfl, rfl⟩
          rw [H3.out]
          go_wp2_with fail
          go_ret2
          exact boundQ_mk HP.out H.out (Ext.drewN (Ext.refl w) _)
    · have H := Lib.hid (show R = (0, 5, k) by rw [HA.out, if_neg h2])
      have t2 : (T.kind != 2) = true := by simpa using h2
      go_enter Tryz.func103, Tryz.ntmps103
      go_wp2_with fail
      go_quiet (fail)
      go_wp2_with fail
      go_ret2
      exact boundQ_mk HP.out H.out (Ext.drewN (Ext.refl w) _)
  · have H := Lib.hid (show boundF toks k least = (0, 5, k) by rw [boundF, (h.past h1).1])
    generalize boundF toks k least = R at *
    have td : ((k : Int) == (tn : Int)) = true := by have := (h.past h1).2; simp [this]
    clear h
    go_enter Tryz.func103, Tryz.ntmps103
    go_wp2_with fail
    go_quiet (fail)
    go_wp2_with fail
    go_ret2
    exact boundQ_mk HP.out H.out (Ext.drewN (Ext.refl w) _)

/-- The two numbers, the error and the place after an interval. -/
def intervalF (toks : List Tok) (k : Nat) : Int × Int × Int × Nat :=
  let a := boundF toks k (-1000000000)
  if a.2.1 ≠ 0 then (0, 0, a.2.1, a.2.2) else
  if acceptB toks a.2.2 1 ⟨#[116, 111]⟩ = false then (0, 0, 5, a.2.2) else
  let b := boundF toks (a.2.2 + 1) a.1
  (a.1, b.1, b.2.1, b.2.2)

def IntervalQ (R : Int × Int × Int × Nat) (toks : List Tok) (ta : Option Addr) (tn tc : Nat) (w0 w : World) (bp : Nat) (vl : Value) (e : Ending) (w' : World) : Prop :=
  e = .returned (.tuple #[.int .i64 R.1, .int .i64 R.2.1, .int .i64 R.2.2.1]) ∧ Chg [bp] w w' ∧ PC toks ta tn tc w0 w' bp R.2.2.2 vl
theorem intervalQ_mk {toks : List Tok} {ta : Option Addr} {tn tc : Nat} {w0 w : World} {bp k : Nat} {vl : Value} {R : Int × Int × Int × Nat} {a b c : Int} {w' : World} (hR : R = (a, b, c, k)) (hc : Chg [bp] w w') (h : PC toks ta tn tc w0 w' bp k vl) : IntervalQ R toks ta tn tc w0 w bp vl (.returned (.tuple #[.int .i64 a, .int .i64 b, .int .i64 c])) w' := by
  subst hR; exact ⟨rfl, hc, h⟩
theorem Chg.then {N : List Nat} {a b c : World} (h : Chg N a b) (k : Chg N b c) : Chg N a c := h.trans k fun _ hx => Or.inl hx

set_option maxRecDepth 100000 in
theorem interval_calls {toks : List Tok} {ta : Option Addr} {tn tc : Nat} {w0 w : World} {bp k : Nat} {vl : Value} (h : PC toks ta tn tc w0 w bp k vl) :
    Calls Tryz.prog 79 #[.pointer (some ⟨bp, 0, none⟩)] w (IntervalQ (intervalF toks k) toks ta tn tc w0 w bp vl) := by
  have H1 := Lib.hid (bound_calls h (-1000000000))
  have HR := Lib.hid (show intervalF toks k = (if (boundF toks k (-1000000000)).2.1 ≠ 0 then (0, 0, (boundF toks k (-1000000000)).2.1, (boundF toks k (-1000000000)).2.2) else
    if acceptB toks (boundF toks k (-1000000000)).2.2 1 ⟨#[116, 111]⟩ = false then (0, 0, 5, (boundF toks k (-1000000000)).2.2) else
    ((boundF toks k (-1000000000)).1, (boundF toks ((boundF toks k (-1000000000)).2.2 + 1) (boundF toks k (-1000000000)).1).1, (boundF toks ((boundF toks k (-1000000000)).2.2 + 1) (boundF toks k (-1000000000)).1).2.1, (boundF toks ((boundF toks k (-1000000000)).2.2 + 1) (boundF toks k (-1000000000)).1).2.2)) from rfl)
  generalize intervalF toks k = R at *
  generalize boundF toks k (-1000000000) = A at *
  obtain ⟨lo, e1, k1⟩ := A
  simp only at HR
  clear h
  by_cases h1 : e1 = 0
  · subst h1
    cases h2 : acceptB toks k1 1 ⟨#[116, 111]⟩
    · have H := Lib.hid (show R = (0, 0, 5, k1) by rw [HR.out]; simp [h2])
      have H2 := Lib.hid h2
      clear h2
      go_enter Tryz.func79, Tryz.ntmps79
      go_wp2_with fail
      refine (H1.out).mono ?_
      rintro r w1 ⟨rfl, hc1, hp1⟩
      have HP1 := Lib.hid hp1
      have HC1 := Lib.hid hc1
      clear hp1 hc1
      go_wp2_with fail
      refine (HP1.out.accept _ _).mono ?_
      rintro r w2 ⟨rfl, hc2, hp2⟩
      rw [H2.out] at hp2 ⊢
      have HP2 := Lib.hid hp2
      have HC2 := Lib.hid hc2
      clear hp2 hc2
      go_wp2_with fail
      go_ret3
      exact intervalQ_mk H.out (HC1.out.then HC2.out) HP2.out
    · have H := Lib.hid (show R = (lo, (boundF toks (k1 + 1) lo).1, (boundF toks (k1 + 1) lo).2.1, (boundF toks (k1 + 1) lo).2.2) by rw [HR.out]; simp [h2])
      have H2 := Lib.hid h2
      clear h2
      go_enter Tryz.func79, Tryz.ntmps79
      go_wp2_with fail
      refine (H1.out).mono ?_
      rintro r w1 ⟨rfl, hc1, hp1⟩
      have HP1 := Lib.hid hp1
      have HC1 := Lib.hid hc1
      clear hp1 hc1
      go_wp2_with fail
      refine (HP1.out.accept _ _).mono ?_
      rintro r w2 ⟨rfl, hc2, hp2⟩
      rw [H2.out] at hp2 ⊢
      have HP2 := Lib.hid hp2
      have HC2 := Lib.hid hc2
      clear hp2 hc2
      go_wp2_with fail
      refine (bound_calls HP2.out _).mono ?_
      rintro r w3 ⟨rfl, hc3, hp3⟩
      have HP3 := Lib.hid hp3
      have HC3 := Lib.hid hc3
      clear hp3 hc3
      go_wp2_with fail
      go_ret3
      exact intervalQ_mk H.out ((HC1.out.then HC2.out).then HC3.out) HP3.out
  · have H := Lib.hid (show R = (0, 0, e1, k1) by rw [HR.out]; simp [h1])
    have t1 : (e1 != 0) = true := by simpa using h1
    have t2 : (e1 == 0) = false := by simpa using h1
    clear h1
    go_enter Tryz.func79, Tryz.ntmps79
    go_wp2_with fail
    refine (H1.out).mono ?_
    rintro r w1 ⟨rfl, hc1, hp1⟩
    have HP1 := Lib.hid hp1
    have HC1 := Lib.hid hc1
    clear hp1 hc1
    go_wp2_with fail
    go_ret3
    exact intervalQ_mk H.out HC1.out HP1.out
end Go.Proofs.YtaepiiediblleaaGreatDoor

namespace Go.Proofs.YtaepiiediblleaaGreatDoor
open Go.RowKit

theorem elemStr : ElemT 25 9 (.string ⟨#[]⟩) 1 16 := ⟨by kernel_rfl, by kernel_rfl, rfl, by decide⟩

theorem owns_chg {N : List Nat} {w w' : World} {base : Nat} {e : TypeId} {size : Nat} {v : Value} {n : Nat} {xs : List Value} (h : w.ownsRow base e size v n xs) (hc : Chg N w w') (hN : ∀ k, v.ownBlock = some k → k ∉ N) : w'.ownsRow base e size v n xs := by
  refine ⟨h.1, ?_⟩
  rcases h.2 with hn | ⟨g, cap, cur, rfl, hb, hgg, rest⟩
  · exact .inl hn
  · refine .inr ⟨g, cap, cur, rfl, hb, ?_, rest⟩
    rw [hc.block g (Array.getElem?_eq_some_iff.1 hgg).1 (hN g rfl)]
    exact hgg
theorem PC.chg {toks : List Tok} {ta : Option Addr} {tn tc : Nat} {w0 w : World} {bp k : Nat} {vl : Value} (h : PC toks ta tn tc w0 w bp k vl) {w' : World} {N : List Nat} (hc : Chg N w w') (hN : bp ∉ N) (hN0 : ∀ x ∈ N, w0.heap.size ≤ x) : PC toks ta tn tc w0 w' bp k vl :=
  ⟨h.ht, hc.ext h.hx hN0, (hc.block bp (blk_lt h.hb) hN).trans h.hb, h.hbp, h.hk, h.htn, h.hz⟩
/-- What an append may have changed. -/
def rowOf (v : Value) : List Nat := match v.ownBlock with | some k => [k] | none => []
theorem mem_rowOf {v : Value} {k : Nat} : k ∈ rowOf v ↔ v.ownBlock = some k := by
  unfold rowOf
  cases v.ownBlock with
  | none => simp
  | some x => simp [eq_comm]
theorem grown_chg {w w' : World} {v : Value} (h : w.grownBy w' v.ownBlock) : Chg (rowOf v) w w' :=
  ⟨h.os, h.tape, h.output, h.size, fun k hk hn => h.block k hk (fun e => hn (mem_rowOf.2 e.symm))⟩

def strCells (s : ByteArray) : List Value := [.string s]
theorem strs_of_owns {w : World} {base : Nat} {l : List ByteArray} {v : Value} (h : w.ownsRow base 9 1 v l.length (l.flatMap strCells)) (M : List Nat) (hM : ∀ x ∈ M, x < base) : ∃ a c, v = .slice a l.length c ∧ IsStrs (mask w M) l a l.length c ∧ IsStrs w l a l.length c := by
  have hlt := h.lt
  obtain ⟨a, c, rfl, hr⟩ := IsRows.of_owns (f := strCells) (fun _ => rfl) h
  have hs : IsStrs w l a l.length c := ⟨hr.1, hr.2.1, hr.2.2.1, fun i hi => by
    obtain ⟨b, off, e1, e2⟩ := hr.2.2.2 i hi
    have := e2 0 (by simp [strCells])
    simp only [strCells, List.getElem_cons_zero, Nat.mul_one, Nat.add_zero] at this
    exact ⟨b, off, e1, this⟩⟩
  refine ⟨a, c, rfl, ⟨hs.1, hs.2.1, hs.2.2.1, fun i hi => ?_⟩, hs⟩
  obtain ⟨b, off, e1, e2⟩ := hs.2.2.2 i hi
  refine ⟨b, off, e1, ?_⟩
  rw [mask_cell, if_neg, e2]
  intro hm
  have h1 := hM _ hm
  have h2 := (hlt b (by rw [e1]; rfl)).1
  simp only at h1
  omega

def textAt (toks : List Tok) (k : Nat) : ByteArray := match toks[k]? with | some t => t.text | none => ⟨#[]⟩
/-- The words of a list from the k-th token on, after acc: the words, the error, the place. -/
def listLoop (toks : List Tok) : Nat → Nat → List ByteArray → List ByteArray × Int × Nat
  | 0, k, _ => ([], 5, k)
  | f + 1, k, acc =>
    if nameTokB toks k = false then ([], 5, k) else
    if acc.length = 12 then ([], 4, k) else
    if textAt toks k ∈ acc then ([], 8, k) else
    if acceptB toks (k + 1) 4 ⟨#[44]⟩ = true then listLoop toks f (k + 2) (acc ++ [textAt toks k]) else
    if acceptB toks (k + 1) 4 ⟨#[41]⟩ = true then (acc ++ [textAt toks k], 0, k + 2) else ([], 5, k + 1)
def listF (toks : List Tok) (k : Nat) : List ByteArray × Int × Nat := if acceptB toks k 4 ⟨#[40]⟩ = true then listLoop toks 14 (k + 1) [] else ([], 5, k)

def ListQ (R : List ByteArray × Int × Nat) (toks : List Tok) (ta : Option Addr) (tn tc : Nat) (w0 w : World) (bp : Nat) (vl : Value) (e : Ending) (w' : World) : Prop :=
  ∃ a n c, e = .returned (.tuple #[.slice a n c, .int .i64 R.2.1]) ∧ (∀ M : List Nat, (∀ x ∈ M, x < w.heap.size) → IsStrs (mask w' M) R.1 a n c) ∧ Chg [bp] w w' ∧ PC toks ta tn tc w0 w' bp R.2.2 vl
theorem listQ_err {toks : List Tok} {ta : Option Addr} {tn tc : Nat} {w0 w : World} {bp k : Nat} {vl : Value} {R : List ByteArray × Int × Nat} {b : Int} {w' : World} (hR : R = ([], b, k)) (hc : Chg [bp] w w') (h : PC toks ta tn tc w0 w' bp k vl) : ListQ R toks ta tn tc w0 w bp vl (.returned (.tuple #[.slice none 0 0, .int .i64 b])) w' := by
  subst hR; exact ⟨none, 0, 0, rfl, fun M _ => ⟨rfl, by omega, Or.inl ⟨rfl, rfl⟩, fun i hi => by simp at hi⟩, hc, h⟩

theorem nameTok_lt {toks : List Tok} {ta : Option Addr} {tn tc : Nat} {w0 w : World} {bp k : Nat} {vl : Value} (h : PC toks ta tn tc w0 w bp k vl) (hn : nameTokB toks k = true) : k < tn := by
  by_cases hlt : k < tn
  · exact hlt
  · rw [nameTokB, (h.past hlt).1] at hn; cases hn

/-- At the head of a round. -/
def ListI (R : List ByteArray × Int × Nat) (toks : List Tok) (ta : Option Addr) (tn tc : Nat) (w0 w : World) (bp : Nat) (vl : Value) (m : Nat) (v : Value) (wr : World) : Prop :=
  ∃ (k : Nat) (acc : List ByteArray), m = 13 - acc.length ∧ acc.length ≤ 12 ∧ wr.ownsRow w.heap.size 9 1 v acc.length (acc.flatMap strCells) ∧ PC toks ta tn tc w0 wr bp k vl ∧ Chg [bp] w wr ∧ listLoop toks (14 - acc.length) k acc = R

set_option maxRecDepth 100000 in
set_option maxHeartbeats 2000000 in
theorem list_calls {toks : List Tok} {ta : Option Addr} {tn tc : Nat} {w0 w : World} {bp k : Nat} {vl : Value} (h : PC toks ta tn tc w0 w bp k vl) :
    Calls Tryz.prog 78 #[.pointer (some ⟨bp, 0, none⟩)] w (ListQ (listF toks k) toks ta tn tc w0 w bp vl) := by
  have HP := Lib.hid h
  have hbw := h.cells.2.2.2.2
  have hw0 := h.hx.size
  have hbp := h.hbp
  cases h1 : acceptB toks k 4 ⟨#[40]⟩
  · have H := Lib.hid (show listF toks k = ([], 5, k) by rw [listF, if_neg (by simp [h1])])
    have H1 := Lib.hid h1
    generalize listF toks k = R at *
    clear h h1
    go_enter Tryz.func78, Tryz.ntmps78
    go_wp2_with fail
    refine (HP.out.accept _ _).mono ?_
    rintro r w1 ⟨rfl, hc1, hp1⟩
    rw [H1.out] at hp1 ⊢
    have HP1 := Lib.hid hp1
    have HC1 := Lib.hid hc1
    clear hp1 hc1
    go_wp2_with fail
    go_ret2
    exact listQ_err H.out HC1.out HP1.out
  · have H := Lib.hid (show listF toks k = listLoop toks 14 (k + 1) [] by rw [listF, if_pos h1])
    have H1 := Lib.hid h1
    generalize listF toks k = R at *
    clear h h1
    go_enter Tryz.func78, Tryz.ntmps78
    go_wp2_with fail
    refine (HP.out.accept _ _).mono ?_
    rintro r w1 ⟨rfl, hc1, hp1⟩
    rw [H1.out] at hp1 ⊢
    have HP1 := Lib.hid hp1
    have HC1 := Lib.hid hc1
    clear hp1 hc1
    go_wp2_with fail
    go_loopg [4] 13 (ListI R toks ta tn tc w0 w bp vl)
    case atStart => exact ⟨k + 1, [], rfl, by simp, World.ownsRow_nil _ _ _ _, HP1.out, HC1.out, H.out.symm⟩
    case round =>
      clear HP1 HC1 HP H1 H
      obtain ⟨k1, acc, hm, hacc, hown, hp, hc, hloop⟩ := hrel
      have HM := Lib.hid hm
      have HO := Lib.hid hown
      have HP := Lib.hid hp
      have HC := Lib.hid hc
      have HL := Lib.hid hloop
      have htn := hp.htn
      clear hm hown hp hc hloop
      obtain ⟨a, c, rfl, -, hstr⟩ := strs_of_owns HO.out [] (by simp)
      have HSTR := Lib.hid hstr
      clear hstr
      cases h1 : nameTokB toks k1
      · have H := Lib.hid (show R = ([], 5, k1) by rw [← HL.out, show 14 - acc.length = (13 - acc.length) + 1 by omega, listLoop, if_pos h1])
        have H1 := Lib.hid h1
        clear h1
        go_wp2_with fail
        refine (isName_calls HP.out).mono ?_
        rintro r w1 ⟨rfl, hx1⟩
        rw [H1.out]
        have HX1 := Lib.hid hx1
        clear hx1
        go_wp2_with fail
        go_ret2
        exact listQ_err H.out (HC.out.then (HX1.out.chg _)) (HP.out.ext HX1.out)
      · have hlt := nameTok_lt HP.out h1
        have HL1 := Lib.hid (show R = if acc.length = 12 then ([], 4, k1) else
            if textAt toks k1 ∈ acc then ([], 8, k1) else
            if acceptB toks (k1 + 1) 4 ⟨#[44]⟩ = true then listLoop toks (13 - acc.length) (k1 + 2) (acc ++ [textAt toks k1]) else
            if acceptB toks (k1 + 1) 4 ⟨#[41]⟩ = true then (acc ++ [textAt toks k1], 0, k1 + 2) else ([], 5, k1 + 1) by
          rw [← HL.out, show 14 - acc.length = (13 - acc.length) + 1 by omega, listLoop, if_neg (show ¬ nameTokB toks k1 = false by simp [h1])])
        have H1 := Lib.hid h1
        clear h1 HL
        go_wp2_with fail
        refine (isName_calls HP.out).mono ?_
        rintro r w1 ⟨rfl, hx1⟩
        rw [H1.out]
        have hp1 := HP.out.ext hx1
        have HP1 := Lib.hid hp1
        have HC1 := Lib.hid (HC.out.then (hx1.chg _))
        have HO1 := Lib.hid (owns_ext HO.out hx1)
        have HSTR1 := Lib.hid (HSTR.out.ext hx1)
        clear HP HC HO HSTR
        obtain ⟨c0, c1, c2, cf, hb1⟩ := hp1.cells
        obtain ⟨T, b, off, hT, hTs, rfl, hbw1, g0, g1, g2⟩ := hp1.tok hlt
        have HT := Lib.hid (show textAt toks k1 = T.text by rw [textAt, hT])
        have ti : (k1 : Int) < (tn : Int) := by omega
        have ti0 : (0 : Int) ≤ (k1 : Int) := by omega
        clear hT hp1 hx1
        by_cases h4 : acc.length = 12
        · have H := Lib.hid (show R = ([], 4, k1) by rw [HL1.out, if_pos h4])
          have t4 : ((acc.length : Int) == 12) = true := by simp [h4]
          clear h4
          go_wp2_with fail
          go_quiet (fail)
          go_wp2_with fail
          go_ret2
          exact listQ_err H.out (HC1.out.drewN _) (HP1.out.ext (Ext.drewN (Ext.refl _) _))
        · have t4 : ((acc.length : Int) == 12) = false := by simp; omega
          by_cases h5 : T.text ∈ acc
          · have H := Lib.hid (show R = ([], 8, k1) by rw [HL1.out, if_neg h4, HT.out, if_pos h5])
            have H5 := Lib.hid h5
            clear h5 h4
            go_wp2_with fail
            go_quiet (fail)
            go_wp2_with fail
            refine (contains_calls acc _ _ _ _ _ (by omega) (HSTR1.out.ext (Ext.drewN (Ext.refl _) _))).mono ?_
            rintro r w2 ⟨rfl, rfl⟩
            rw [decide_eq_true H5.out]
            go_wp2_with fail
            go_ret2
            exact listQ_err H.out (HC1.out.drewN _) (HP1.out.ext (Ext.drewN (Ext.refl _) _))
          · have HL2 := Lib.hid (show R = if acceptB toks (k1 + 1) 4 ⟨#[44]⟩ = true then listLoop toks (13 - acc.length) (k1 + 2) (acc ++ [T.text]) else
                if acceptB toks (k1 + 1) 4 ⟨#[41]⟩ = true then (acc ++ [T.text], 0, k1 + 2) else ([], 5, k1 + 1) by rw [HL1.out, if_neg h4, HT.out, if_neg h5])
            have H5 := Lib.hid h5
            clear h5 HL1 HT
            go_wp2_with fail
            go_quiet (fail)
            go_wp2_with fail
            refine (contains_calls acc _ _ _ _ _ (by omega) (HSTR1.out.ext (Ext.drewN (Ext.refl _) _))).mono ?_
            rintro r w2 ⟨rfl, rfl⟩
            rw [decide_eq_false H5.out]
            have HOW := Lib.hid (fun n => owns_ext HO1.out (Ext.drewN (Ext.refl w1) n))
            have hz := HC1.out.size
            go_wp2_with (at_builtin; refine wpList_append_new elemStr rfl _ _ rfl w.heap.size _ _ _ rfl (HOW.out _) _ 1 1 rfl ?c0 rfl ?c1 ?c2 ?c3 ?c4 ?_)
            case c0 => simp
            case c1 => simp [Value.oneCell']
            case c2 => simp only [maxLen]; omega
            case c3 => omega
            case c4 => simpa using hz
            intro v2 w2 hown2 hgrow2
            have hcg : Chg (rowOf (.slice a acc.length c)) w1 w2 := ((Chg.refl _ w1).drewN _).then (grown_chg hgrow2)
            have hrow : ∀ x ∈ rowOf (.slice a acc.length c), w.heap.size ≤ x := fun x hx => (HO1.out.lt x (mem_rowOf.1 hx)).1
            have hp2 := HP1.out.chg hcg (fun hx => by have := hrow _ hx; omega) (fun x hx => by have := hrow x hx; omega)
            have HP2 := Lib.hid hp2
            have HC2 := Lib.hid (HC1.out.trans hcg (fun x hx => Or.inr (hrow x hx)))
            have HO2 := Lib.hid (show w2.ownsRow w.heap.size 9 1 v2 (acc ++ [T.text]).length ((acc ++ [T.text]).flatMap strCells) by simpa [strCells] using hown2)
            clear HP1 HC1 HO1 HSTR1 HOW hown2 hgrow2 hcg hrow c0 c1 c2 cf g0 g1 g2 hb1
            obtain ⟨c0, c1, c2, cf, hb2⟩ := hp2.cells
            clear hp2
            have HN := Lib.hid (HP2.out.next hlt)
            have HCN := Lib.hid (HC2.out.setCell (p := ⟨bp, 1, none⟩) (Or.inl (by simp)) (.int .i64 ((k1 : Int) + 1)))
            have HON := Lib.hid (owns_chg HO2.out ((Chg.refl [bp] w2).setCell (p := ⟨bp, 1, none⟩) (Or.inl (by simp)) (.int .i64 ((k1 : Int) + 1))) (fun x hx => by have := (HO2.out.lt x hx).1; simp; omega))
            go_wp2_with fail
            clear HP2 HC2 HO2 c0 c1 c2 cf hb2
            generalize w2.setCell ⟨bp, 1, none⟩ (.int .i64 ((k1 : Int) + 1)) = w3 at *
            cases h6 : acceptB toks (k1 + 1) 4 ⟨#[44]⟩
            · have HL3 := Lib.hid (show R = if acceptB toks (k1 + 1) 4 ⟨#[41]⟩ = true then (acc ++ [T.text], 0, k1 + 2) else ([], 5, k1 + 1) by rw [HL2.out, if_neg (by simp [h6])])
              have H6 := Lib.hid h6
              clear h6 HL2
              refine (HN.out.accept _ _).mono ?_
              rintro r w4 ⟨rfl, hc4, hp4⟩
              rw [H6.out] at hp4 ⊢
              have HP4 := Lib.hid hp4
              have HC4 := Lib.hid (HCN.out.then hc4)
              have HO4 := Lib.hid (owns_chg HON.out hc4 (fun x hx => by have := (HON.out.lt x hx).1; simp; omega))
              clear hp4 hc4
              go_wp2_with fail
              cases h7 : acceptB toks (k1 + 1) 4 ⟨#[41]⟩
              · have H := Lib.hid (show R = ([], 5, k1 + 1) by rw [HL3.out, if_neg (by simp [h7])])
                have H7 := Lib.hid h7
                clear h7
                refine (HP4.out.accept _ _).mono ?_
                rintro r w5 ⟨rfl, hc5, hp5⟩
                simp only [Bool.false_eq_true, if_false] at hp5 ⊢
                rw [H7.out] at hp5 ⊢
                have HP5 := Lib.hid hp5
                have HC5 := Lib.hid (HC4.out.then hc5)
                clear hp5 hc5
                go_wp2_with fail
                go_ret2
                exact listQ_err H.out HC5.out HP5.out
              · have H := Lib.hid (show R = (acc ++ [T.text], 0, k1 + 2) by rw [HL3.out, if_pos h7])
                have H7 := Lib.hid h7
                clear h7
                refine (HP4.out.accept _ _).mono ?_
                rintro r w5 ⟨rfl, hc5, hp5⟩
                simp only [Bool.false_eq_true, if_false] at hp5 ⊢
                rw [H7.out] at hp5 ⊢
                have HP5 := Lib.hid hp5
                have HC5 := Lib.hid (HC4.out.then hc5)
                have HO5 := Lib.hid (owns_chg HO4.out hc5 (fun x hx => by have := (HO4.out.lt x hx).1; simp; omega))
                clear hp5 hc5
                go_wp2_with fail
                go_ret2
                rw [H.out]
                obtain ⟨a5, c5, rfl, -⟩ := strs_of_owns HO5.out [] (by simp)
                refine ⟨a5, _, c5, rfl, fun M hM => ?_, HC5.out, HP5.out⟩
                obtain ⟨a6, c6, e6, h8, -⟩ := strs_of_owns HO5.out M hM
                simp only [Value.slice.injEq] at e6
                obtain ⟨rfl, -, rfl⟩ := e6
                exact h8
            · have H := Lib.hid (show R = listLoop toks (13 - acc.length) (k1 + 2) (acc ++ [T.text]) by rw [HL2.out, if_pos h6])
              have H6 := Lib.hid h6
              clear h6 HL2
              refine (HN.out.accept _ _).mono ?_
              rintro r w4 ⟨rfl, hc4, hp4⟩
              rw [H6.out] at hp4 ⊢
              have HP4 := Lib.hid hp4
              have HC4 := Lib.hid (HCN.out.then hc4)
              have HO4 := Lib.hid (owns_chg HON.out hc4 (fun x hx => by have := (HON.out.lt x hx).1; simp; omega))
              clear hp4 hc4
              go_wp2_with fail
              go_roundg (12 - acc.length)
              case measure => have := HM.out; omega
              case rel => exact ⟨k1 + 2, acc ++ [T.text], by simp only [List.length_append, List.length_singleton]; omega, by simp only [List.length_append, List.length_singleton]; omega, HO4.out, HP4.out, HC4.out, by rw [H.out]; simp only [List.length_append, List.length_singleton]; rw [show 14 - (acc.length + 1) = 13 - acc.length by omega]⟩
end Go.Proofs.YtaepiiediblleaaGreatDoor
