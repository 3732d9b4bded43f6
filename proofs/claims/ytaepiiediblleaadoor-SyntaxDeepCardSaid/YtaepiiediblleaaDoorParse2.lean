import Derived.Test.YtaepiiediblleaaDoorParse1
namespace Go.Proofs.YtaepiiediblleaaDoor
open Go.RowKit

/-- The parser at the k-th token, in the world w; its tokens lie in w0. -/
structure PC (toks : List Tok) (ta : Option Addr) (tn tc : Nat) (w0 w : World) (bp k : Nat) (vl : Value) : Prop where
  ht : IsToks w0 toks ta tn tc
  hx : Ext w0 w
  hb : PB w bp ta tn tc k vl
  hbp : w0.heap.size ≤ bp
  hk : k ≤ tn
  htn : tn ≤ 1000000000000000
  hz : ∀ t ∈ toks, t.text.size ≤ 1000000000000000

theorem PC.step {toks : List Tok} {ta : Option Addr} {tn tc : Nat} {w0 w : World} {bp k : Nat} {vl : Value} (h : PC toks ta tn tc w0 w bp k vl) {w' : World} {k' : Nat} {vl' : Value} (hc : Chg [bp] w w') (hb : PB w' bp ta tn tc k' vl') (hk : k' ≤ tn) : PC toks ta tn tc w0 w' bp k' vl' :=
  ⟨h.ht, hc.ext h.hx (by simpa using h.hbp), hb, h.hbp, hk, h.htn, h.hz⟩
theorem PC.ext {toks : List Tok} {ta : Option Addr} {tn tc : Nat} {w0 w : World} {bp k : Nat} {vl : Value} (h : PC toks ta tn tc w0 w bp k vl) {w' : World} (hx : Ext w w') : PC toks ta tn tc w0 w' bp k vl :=
  ⟨h.ht, h.hx.trans hx, hx.blk h.hb, h.hbp, h.hk, h.htn, h.hz⟩
theorem PC.cells {toks : List Tok} {ta : Option Addr} {tn tc : Nat} {w0 w : World} {bp k : Nat} {vl : Value} (h : PC toks ta tn tc w0 w bp k vl) :
    w.cell? ⟨bp, 0, none⟩ = some (.slice ta tn tc) ∧ w.cell? ⟨bp, 1, none⟩ = some (.int .i64 k) ∧ w.cell? ⟨bp, 2, none⟩ = some vl ∧ (∀ j, w.frozen? ⟨bp, j, none⟩ = false) ∧ bp < w.heap.size := by
  obtain ⟨c0, c1, c2, cf⟩ := blk3 h.hb
  exact ⟨c0, c1, c2, cf, blk_lt h.hb⟩
theorem PC.tok {toks : List Tok} {ta : Option Addr} {tn tc : Nat} {w0 w : World} {bp k : Nat} {vl : Value} (h : PC toks ta tn tc w0 w bp k vl) (hk : k < tn) :
    ∃ (T : Tok) (b off : Nat), toks[k]? = some T ∧ T.text.size ≤ 1000000000000000 ∧ ta = some ⟨b, off, none⟩ ∧ b < w0.heap.size ∧ w.cell? ⟨b, off + k * 4, none⟩ = some (.int .i64 T.kind) ∧ w.cell? ⟨b, off + k * 4 + 1, none⟩ = some (.string T.text) ∧ w.cell? ⟨b, off + k * 4 + 2, none⟩ = some (.int .i64 T.num) := by
  have hlt : k < toks.length := by have := h.ht.1; omega
  obtain ⟨b, off, rfl, hcells⟩ := h.ht.2.2.2 k hlt
  have g0 := hcells 0 (by simp [tokCells])
  have g1 := hcells 1 (by simp [tokCells])
  have g2 := hcells 2 (by simp [tokCells])
  have hbl := block_lt g0
  simp only [tokCells, List.getElem_cons_zero, List.getElem_cons_succ, Nat.add_zero] at g0 g1 g2
  exact ⟨toks[k], b, off, List.getElem?_eq_getElem hlt, h.hz _ (List.getElem_mem hlt), rfl, hbl, h.hx.cell g0, h.hx.cell g1, h.hx.cell g2⟩
theorem PC.past {toks : List Tok} {ta : Option Addr} {tn tc : Nat} {w0 w : World} {bp k : Nat} {vl : Value} (h : PC toks ta tn tc w0 w bp k vl) (hk : ¬ k < tn) : toks[k]? = none ∧ k = tn := by
  refine ⟨List.getElem?_eq_none (by have := h.ht.1; omega), by have := h.hk; omega⟩
theorem PC.accept {toks : List Tok} {ta : Option Addr} {tn tc : Nat} {w0 w : World} {bp k : Nat} {vl : Value} (h : PC toks ta tn tc w0 w bp k vl) (kind : Int) (text : ByteArray) :
    Calls Tryd.prog 81 #[.pointer (some ⟨bp, 0, none⟩), .int .i64 kind, .string text] w (fun e w' => e = .returned (.bool (acceptB toks k kind text)) ∧ Chg [bp] w w' ∧ PC toks ta tn tc w0 w' bp (if acceptB toks k kind text then k + 1 else k) vl) := by
  refine (accept_calls toks ta tn tc w0 w bp k vl kind text h.ht h.hx h.hb h.hk h.htn).mono ?_
  rintro e w' ⟨he, hb, hc⟩
  refine ⟨he, hc, h.step hc hb ?_⟩
  split
  · rename_i ha
    by_cases hlt : k < tn
    · omega
    · rw [acceptB, (h.past hlt).1] at ha; cases ha
  · exact h.hk

theorem quiet_gives {f : FuncId} {args : Array Value} {w : World} {n : Nat} {v : Value} (h : Calls Tryd.prog f args (w.drewN n) (Gives v (w.drewN n))) : Calls Tryd.prog f args (w.drewN n) fun e w'' => e = .returned v ∧ ∃ m, w'' = w.drewN m :=
  h.mono fun _ _ ⟨he, hm⟩ => ⟨he, n, hm.symm⟩

def nameTokB (toks : List Tok) (k : Nat) : Bool := match toks[k]? with | some t => (t.kind == 1) && nameB t.text | none => false

set_option maxRecDepth 100000 in
set_option maxHeartbeats 1000000 in
theorem isName_calls {toks : List Tok} {ta : Option Addr} {tn tc : Nat} {w0 w : World} {bp k : Nat} {vl : Value} (h : PC toks ta tn tc w0 w bp k vl) :
    Calls Tryd.prog 100 #[.pointer (some ⟨bp, 0, none⟩)] w (GivesE (.bool (nameTokB toks k)) w) := by
  obtain ⟨c0, c1, c2, cf, hlt⟩ := h.cells
  have htn := h.htn
  by_cases h1 : k < tn
  · obtain ⟨T, b, off, hT, hTs, rfl, hbw, g0, g1, g2⟩ := h.tok h1
    have HA := Lib.hid (show nameTokB toks k = ((T.kind == 1) && nameB T.text) by rw [nameTokB, hT])
    generalize nameTokB toks k = B at *
    have ti : (k : Int) < (tn : Int) := by omega
    have ti0 : (0 : Int) ≤ (k : Int) := by omega
    have td : decide ((k : Int) < (tn : Int)) = true := by simp; omega
    clear h hT hbw
    cases t2 : T.kind == 1
    · have H := Lib.hid (show B = false by rw [HA.out, t2]; rfl)
      go_enter Tryd.func100, Tryd.ntmps100
      go_wp2_with fail
      go_quiet (fail)
      go_wp2_with fail
      go_ret
      exact givesE_bool H.out.symm (Ext.drewN (Ext.refl w) _)
    · have H := Lib.hid (show B = nameB T.text by rw [HA.out, t2]; rfl)
      go_enter Tryd.func100, Tryd.ntmps100
      go_wp2_with fail
      go_quiet ((go_at_call 82; exact quiet_gives (name_calls _ _ hTs)))
      go_wp2_with fail
      go_ret
      exact givesE_bool H.out.symm (Ext.drewN (Ext.refl w) _)
  · have H := Lib.hid (show nameTokB toks k = false by rw [nameTokB, (h.past h1).1])
    generalize nameTokB toks k = B at *
    have td : decide ((k : Int) < (tn : Int)) = false := by simp; omega
    clear h
    go_enter Tryd.func100, Tryd.ntmps100
    go_wp2_with fail
    go_quiet (fail)
    go_wp2_with fail
    go_ret
    exact givesE_bool H.out.symm (Ext.drewN (Ext.refl w) _)

/-- The number, the error and the place after a bound. -/
def boundF (toks : List Tok) (k : Nat) (least : Int) : Int × Int × Nat := match toks[k]? with
  | some t => if t.kind = 2 then (if numberB t.num = true ∧ least ≤ t.num then (t.num, 0, k + 1) else (0, 1, k)) else (0, 5, k)
  | none => (0, 5, k)

/-- What bound does. -/
def BoundQ (R : Int × Int × Nat) (toks : List Tok) (ta : Option Addr) (tn tc : Nat) (w0 w : World) (bp : Nat) (vl : Value) (e : Ending) (w' : World) : Prop :=
  e = .returned (.tuple #[.int .i64 R.1, .int .i64 R.2.1]) ∧ Chg [bp] w w' ∧ PC toks ta tn tc w0 w' bp R.2.2 vl
theorem boundQ_mk {toks : List Tok} {ta : Option Addr} {tn tc : Nat} {w0 w : World} {bp k : Nat} {vl : Value} (h : PC toks ta tn tc w0 w bp k vl) {R : Int × Int × Nat} {a b : Int} {w' : World} (hR : R = (a, b, k)) (hx : Ext w w') : BoundQ R toks ta tn tc w0 w bp vl (.returned (.tuple #[.int .i64 a, .int .i64 b])) w' := by
  subst hR; exact ⟨rfl, hx.chg _, h.ext hx⟩
theorem PC.next {toks : List Tok} {ta : Option Addr} {tn tc : Nat} {w0 w : World} {bp k : Nat} {vl : Value} (h : PC toks ta tn tc w0 w bp k vl) (hk : k < tn) : PC toks ta tn tc w0 (w.setCell ⟨bp, 1, none⟩ (.int .i64 ((k : Int) + 1))) bp (k + 1) vl :=
  h.step ((Chg.refl [bp] w).setCell (Or.inl (by simp)) _) (by have := heap_setCell_same w bp 1 _ _ (.int .i64 ((k : Int) + 1)) h.hb; exact this) (by omega)

set_option maxRecDepth 100000 in
set_option maxHeartbeats 1000000 in
theorem bound_calls {toks : List Tok} {ta : Option Addr} {tn tc : Nat} {w0 w : World} {bp k : Nat} {vl : Value} (h : PC toks ta tn tc w0 w bp k vl) (least : Int) :
    Calls Tryd.prog 123 #[.pointer (some ⟨bp, 0, none⟩), .int .i64 least] w (BoundQ (boundF toks k least) toks ta tn tc w0 w bp vl) := by
  obtain ⟨c0, c1, c2, cf, hlt⟩ := h.cells
  have HP := Lib.hid h
  have htn := h.htn
  by_cases h1 : k < tn
  · obtain ⟨T, b, off, hT, hTs, rfl, hbw, g0, g1, g2⟩ := h.tok h1
    have HA := Lib.hid (show boundF toks k least = if T.kind = 2 then (if numberB T.num = true ∧ least ≤ T.num then (T.num, 0, k + 1) else (0, 1, k)) else (0, 5, k) by rw [boundF, hT])
    generalize boundF toks k least = R at *
    have ti : (k : Int) < (tn : Int) := by omega
    have ti0 : (0 : Int) ≤ (k : Int) := by omega
    have td : ((k : Int) == (tn : Int)) = false := by simp; omega
    have hne : b ≠ bp := by have := h.hbp; omega
    clear h hT hbw
    by_cases h2 : T.kind = 2
    · have t2 : (T.kind != 2) = false := by simpa using h2
      cases h3 : numberB T.num
      · have H := Lib.hid (show R = (0, 1, k) by rw [HA.out, if_pos h2, if_neg (by simp [h3])])
        have H3 := Lib.hid h3
        clear h3 h2
        go_enter Tryd.func123, Tryd.ntmps123
        go_wp2_with fail
        go_quiet (fail)
        go_wp2_with fail
        go_quiet (fail)
        go_wp2_with fail
        refine (number_calls _ _).mono ?_
        rintro r w1 ⟨rfl, rfl⟩
        rw [H3.out]
        go_wp2_with fail
        go_ret2
        exact boundQ_mk HP.out H.out (Ext.drewN (Ext.refl w) _)
      · have H3 := Lib.hid h3
        by_cases h4 : least ≤ T.num
        · have H := Lib.hid (show R = (T.num, 0, k + 1) by rw [HA.out, if_pos h2, if_pos ⟨h3, h4⟩])
          have t4 : decide (T.num < least) = false := by simp; omega
          clear h3 h2
          go_enter Tryd.func123, Tryd.ntmps123
          go_wp2_with fail
          go_quiet (fail)
          go_wp2_with fail
          go_quiet (fail)
          go_wp2_with fail
          refine (number_calls _ _).mono ?_
          rintro r w1 ⟨rfl, rfl⟩
          rw [H3.out]
          go_wp2_with fail
          go_ret2
          rw [H.out]
          have hP := HP.out.next h1
          refine ⟨rfl, ?_, ?_⟩
          · exact ((Chg.refl [bp] w).setCell (Or.inl (by simp)) _).drewN _
          · exact hP.ext (Ext.drewN (Ext.refl _) _)
        · have H := Lib.hid (show R = (0, 1, k) by rw [HA.out, if_pos h2, if_neg (by simp [h4])])
          have t4 : decide (T.num < least) = true := by simp; omega
          clear h3 h2
          go_enter Tryd.func123, Tryd.ntmps123
          go_wp2_with fail
          go_quiet (fail)
          go_wp2_with fail
          go_quiet (fail)
          go_wp2_with fail
          refine (number_calls _ _).mono ?_
          rintro r w1 ⟨rfl, rfl⟩
          rw [H3.out]
          go_wp2_with fail
          go_ret2
          exact boundQ_mk HP.out H.out (Ext.drewN (Ext.refl w) _)
    · have H := Lib.hid (show R = (0, 5, k) by rw [HA.out, if_neg h2])
      have t2 : (T.kind != 2) = true := by simpa using h2
      go_enter Tryd.func123, Tryd.ntmps123
      go_wp2_with fail
      go_quiet (fail)
      go_wp2_with fail
      go_ret2
      exact boundQ_mk HP.out H.out (Ext.drewN (Ext.refl w) _)
  · have H := Lib.hid (show boundF toks k least = (0, 5, k) by rw [boundF, (h.past h1).1])
    generalize boundF toks k least = R at *
    have td : ((k : Int) == (tn : Int)) = true := by have := (h.past h1).2; simp [this]
    clear h
    go_enter Tryd.func123, Tryd.ntmps123
    go_wp2_with fail
    go_quiet (fail)
    go_wp2_with fail
    go_ret2
    exact boundQ_mk HP.out H.out (Ext.drewN (Ext.refl w) _)

/-- The two numbers, the error and the place after an interval. -/
def intervalF (toks : List Tok) (k : Nat) : Int × Int × Int × Nat :=
  let a := boundF toks k (-1000000000)
  if a.2.1 ≠ 0 then (0, 0, a.2.1, a.2.2) else
  if acceptB toks a.2.2 1 ⟨#[116, 111]⟩ = false then (0, 0, 5, a.2.2) else
  let b := boundF toks (a.2.2 + 1) a.1
  (a.1, b.1, b.2.1, b.2.2)

def IntervalQ (R : Int × Int × Int × Nat) (toks : List Tok) (ta : Option Addr) (tn tc : Nat) (w0 w : World) (bp : Nat) (vl : Value) (e : Ending) (w' : World) : Prop :=
  e = .returned (.tuple #[.int .i64 R.1, .int .i64 R.2.1, .int .i64 R.2.2.1]) ∧ Chg [bp] w w' ∧ PC toks ta tn tc w0 w' bp R.2.2.2 vl
theorem intervalQ_mk {toks : List Tok} {ta : Option Addr} {tn tc : Nat} {w0 w : World} {bp k : Nat} {vl : Value} {R : Int × Int × Int × Nat} {a b c : Int} {w' : World} (hR : R = (a, b, c, k)) (hc : Chg [bp] w w') (h : PC toks ta tn tc w0 w' bp k vl) : IntervalQ R toks ta tn tc w0 w bp vl (.returned (.tuple #[.int .i64 a, .int .i64 b, .int .i64 c])) w' := by
  subst hR; exact ⟨rfl, hc, h⟩
theorem Chg.then {N : List Nat} {a b c : World} (h : Chg N a b) (k : Chg N b c) : Chg N a c := h.trans k fun _ hx => Or.inl hx

set_option maxRecDepth 100000 in
theorem interval_calls {toks : List Tok} {ta : Option Addr} {tn tc : Nat} {w0 w : World} {bp k : Nat} {vl : Value} (h : PC toks ta tn tc w0 w bp k vl) :
    Calls Tryd.prog 102 #[.pointer (some ⟨bp, 0, none⟩)] w (IntervalQ (intervalF toks k) toks ta tn tc w0 w bp vl) := by
  have H1 := Lib.hid (bound_calls h (-1000000000))
  have HR := Lib.hid (show intervalF toks k = (if (boundF toks k (-1000000000)).2.1 ≠ 0 then (0, 0, (boundF toks k (-1000000000)).2.1, (boundF toks k (-1000000000)).2.2) else
    if acceptB toks (boundF toks k (-1000000000)).2.2 1 ⟨#[116, 111]⟩ = false then (0, 0, 5, (boundF toks k (-1000000000)).2.2) else
    ((boundF toks k (-1000000000)).1, (boundF toks ((boundF toks k (-1000000000)).2.2 + 1) (boundF toks k (-1000000000)).1).1, (boundF toks ((boundF toks k (-1000000000)).2.2 + 1) (boundF toks k (-1000000000)).1).2.1, (boundF toks ((boundF toks k (-1000000000)).2.2 + 1) (boundF toks k (-1000000000)).1).2.2)) from rfl)
  generalize intervalF toks k = R at *
  generalize boundF toks k (-1000000000) = A at *
  obtain ⟨lo, e1, k1⟩ := A
  simp only at HR
  clear h
  by_cases h1 : e1 = 0
  · subst h1
    cases h2 : acceptB toks k1 1 ⟨#[116, 111]⟩
    · have H := Lib.hid (show R = (0, 0, 5, k1) by rw [HR.out]; simp [h2])
      have H2 := Lib.hid h2
      clear h2
      go_enter Tryd.func102, Tryd.ntmps102
      go_wp2_with fail
      refine (H1.out).mono ?_
      rintro r w1 ⟨rfl, hc1, hp1⟩
      have HP1 := Lib.hid hp1
      have HC1 := Lib.hid hc1
      clear hp1 hc1
      go_wp2_with fail
      refine (HP1.out.accept _ _).mono ?_
      rintro r w2 ⟨rfl, hc2, hp2⟩
      rw [H2.out] at hp2 ⊢
      have HP2 := Lib.hid hp2
      have HC2 := Lib.hid hc2
      clear hp2 hc2
      go_wp2_with fail
      go_ret3
      exact intervalQ_mk H.out (HC1.out.then HC2.out) HP2.out
    · have H := Lib.hid (show R = (lo, (boundF toks (k1 + 1) lo).1, (boundF toks (k1 + 1) lo).2.1, (boundF toks (k1 + 1) lo).2.2) by rw [HR.out]; simp [h2])
      have H2 := Lib.hid h2
      clear h2
      go_enter Tryd.func102, Tryd.ntmps102
      go_wp2_with fail
      refine (H1.out).mono ?_
      rintro r w1 ⟨rfl, hc1, hp1⟩
      have HP1 := Lib.hid hp1
      have HC1 := Lib.hid hc1
      clear hp1 hc1
      go_wp2_with fail
      refine (HP1.out.accept _ _).mono ?_
      rintro r w2 ⟨rfl, hc2, hp2⟩
      rw [H2.out] at hp2 ⊢
      have HP2 := Lib.hid hp2
      have HC2 := Lib.hid hc2
      clear hp2 hc2
      go_wp2_with fail
      refine (bound_calls HP2.out _).mono ?_
      rintro r w3 ⟨rfl, hc3, hp3⟩
      have HP3 := Lib.hid hp3
      have HC3 := Lib.hid hc3
      clear hp3 hc3
      go_wp2_with fail
      go_ret3
      exact intervalQ_mk H.out ((HC1.out.then HC2.out).then HC3.out) HP3.out
  · have H := Lib.hid (show R = (0, 0, e1, k1) by rw [HR.out]; simp [h1])
    have t1 : (e1 != 0) = true := by simpa using h1
    have t2 : (e1 == 0) = false := by simpa using h1
    clear h1
    go_enter Tryd.func102, Tryd.ntmps102
    go_wp2_with fail
    refine (H1.out).mono ?_
    rintro r w1 ⟨rfl, hc1, hp1⟩
    have HP1 := Lib.hid hp1
    have HC1 := Lib.hid hc1
    clear hp1 hc1
    go_wp2_with fail
    go_ret3
    exact intervalQ_mk H.out HC1.out HP1.out
end Go.Proofs.YtaepiiediblleaaDoor
