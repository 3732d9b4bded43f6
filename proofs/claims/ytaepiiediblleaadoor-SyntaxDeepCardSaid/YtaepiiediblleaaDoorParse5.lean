import Derived.Test.YtaepiiediblleaaDoorTokens
namespace Go.Proofs.YtaepiiediblleaaDoor
open Go.RowKit

/-- What the scanner makes of a text. -/
def scanAll (s : ByteArray) : List Tok × Int × Int := if 16384 < s.size then ([], 0, 4) else scanF s s.size 0 []
def ParseQ (e : Ex) (er : Int) (M : List Nat) (w : World) (r : Ending) (w' : World) : Prop := ∃ (x : ExV) (off : Int), r = .returned (.tuple #[x.val, .int .i64 off, .int .i64 er]) ∧ IsEx (mask w' M) e x.val ∧ (er = 0 → off = 0) ∧ Ext w w'

set_option maxRecDepth 100000 in
set_option maxHeartbeats 2000000 in
theorem Parse_ok (s : ByteArray) (toks : List Tok) (e : Ex) (w : World) (ho : HasOps w) (hs : s.size ≤ 1000000000000000) (h64 : ∀ i, i < s.size → byteAt s i ≠ 64) (hS : scanAll s = (toks, 0, 0)) (htn : toks.length ≤ 1000000) (hsz : ∀ t ∈ toks, t.text.size ≤ 1000000000000000)
    (hT : tokensF toks 0 = (e, (toks.length : Int), 0, 0)) (M : List Nat) (hM : ∀ y ∈ M, y < w.heap.size) : Calls Tryd.prog 10 #[.string s] w (ParseQ e 0 M w) := by
  have HO := Lib.hid ho
  have HSC := Lib.hid (scan_calls s)
  have HS := Lib.hid hS
  have HT := Lib.hid hT
  have HZ := Lib.hid hsz
  have H64 := Lib.hid h64
  have HMM := Lib.hid hM
  clear ho hS hT hsz h64 hM HSC
  go_enter Tryd.func10, Tryd.ntmps10
  go_wp2_with fail
  refine (scan_calls s _ hs H64.out).mono ?_
  rw [show (if 16384 < s.size then (([], 0, 4) : List Tok × Int × Int) else scanF s s.size 0 []) = (toks, 0, 0) from HS.out]
  rintro r w1 ⟨a, n, c, rfl, hl, hx⟩
  have hb := hx.blk (alloc_new w (.cells #[.int .i64 0, .string ⟨#[]⟩, .slice none 0 0, .int .i64 0, .int .i64 0, .slice none 0 0] 26))
  have HX1 := Lib.hid (((Ext.refl w).alloc _).trans hx)
  have HL := Lib.hid hl
  have HN := Lib.hid hl.1
  have HB := Lib.hid hb
  have hn1 : n ≤ 1000000 := by have := hl.1; simp only at this; omega
  have HM1 := Lib.hid (show ∀ y ∈ w.heap.size :: M, y < w1.heap.size from fun y hy => by
    have h1 := blk_lt hb
    rcases List.mem_cons.1 hy with rfl | hy
    · exact h1
    · have := HMM.out y hy; omega)
  clear hx hl hb
  simp only at HL HN
  go_wp2_with fail
  refine (Tokens_calls toks a n c 0 w1 HL.out (HO.out.ext HX1.out) hn1 HZ.out (w.heap.size :: M) HM1.out).mono ?_
  rw [HT.out]
  rintro r w2 ⟨x, rfl, hix, hx2⟩
  have hb := hx2.blk HB.out
  have hlt := blk_lt hb
  obtain ⟨b0, b1, b2, b3, b4, b5, bf⟩ := blk6 hb
  have HX2 := Lib.hid (HX1.out.trans hx2)
  have HIX := Lib.hid hix
  have tn : decide ((toks.length : Int) < (n : Int)) = false := by have := HN.out; simp; omega
  have tn2 : decide (toks.length < n) = false := by have := HN.out; simp; omega
  clear hix hx2 hb HX1 HB
  unfold ExV.val exV
  simp only
  go_wp2_with fail
  refine bodyPost_ret (v := .tuple #[x.val, .int .i64 0, .int .i64 0]) (by simp [results, Tryd.results10, go_sem, ExV.val, exV, b0, b1, b2, b3, b4, b5, hlt]) rfl ?_
  refine ⟨x, 0, rfl, HIX.out.mono ((Chg.sub ?_).trans (mask_less _ (fun y hy => List.mem_cons_of_mem _ hy))), fun _ => rfl, ?_⟩
  · repeat (with_reducible (first | refine Chg.alloc ?_ _ | refine Chg.setCell ?_ ?_ _ | refine Chg.drew ?_ | refine Chg.drewN ?_ _))
    exact Chg.refl _ _
    all_goals (refine Or.inl ?_; simp)
  · repeat (with_reducible (first | refine Ext.alloc ?_ _ | refine Ext.setAbove ?_ ?_ _ | refine Ext.drew ?_ | refine Ext.drewN ?_ _))
    exact HX2.out
    all_goals simp
end Go.Proofs.YtaepiiediblleaaDoor
