import Derived.Test.YtaepiiediblleaaDoorLevel10
import Derived.Test.YtaepiiediblleaaDoorGram
namespace Go.Proofs.YtaepiiediblleaaDoor
open Go.RowKit

/-- What Tokens hands back: the expression, the next index, the index of an error, the error. -/
def tokensF (toks : List Tok) (i : Int) : Ex × Int × Int × Int :=
  if i < 0 ∨ (toks.length : Int) < i then (ex0, 0, 0, 1) else
  if (run toks true i.toNat [] lvl0).2.1 ≠ 0 then (ex0, 0, (run toks true i.toNat [] lvl0).2.2, (run toks true i.toNat [] lvl0).2.1) else
  if 300 < (run toks true i.toNat [] lvl0).1.size ∨ 16 < (run toks true i.toNat [] lvl0).1.depth then (ex0, 0, i, 4) else
  ((run toks true i.toNat [] lvl0).1.ex, (run toks true i.toNat [] lvl0).2.2, 0, 0)
def TokensQ (R : Ex × Int × Int × Int) (M : List Nat) (w : World) (e : Ending) (w' : World) : Prop :=
  ∃ x : ExV, e = .returned (.tuple #[x.val, .int .i64 R.2.1, .int .i64 R.2.2.1, .int .i64 R.2.2.2]) ∧ IsEx (mask w' M) R.1 x.val ∧ Ext w w'

def exV0 : ExV := ⟨0, ⟨#[]⟩, none, 0, 0, 0, 0, none, 0, 0⟩
theorem tokensQ_err {R : Ex × Int × Int × Int} {M : List Nat} {a b c : Int} {w w' : World} (h : R = (ex0, a, b, c)) (hx : Ext w w') : TokensQ R M w (.returned (.tuple #[exV0.val, .int .i64 a, .int .i64 b, .int .i64 c])) w' := by
  subst h; exact ⟨exV0, rfl, isEx0 _, hx⟩

theorem Chg.sub {N : List Nat} {w w' : World} (h : Chg N w w') : Sub (mask w N) (mask w' N) := mask_sub_mask fun k hk hn => ⟨hn, h.block k hk hn⟩
theorem mask_less {M N : List Nat} (w : World) (h : ∀ y ∈ M, y ∈ N) : Sub (mask w N) (mask w M) := mask_sub_mask fun k _ hn => ⟨fun h' => hn (h k h'), rfl⟩
/-- The parser, as Tokens makes it. -/
theorem start_ps {toks : List Tok} {ta : Option Addr} {tn tc k : Nat} {w : World} {c0 : Array Value} {t0 : TypeId} (ht : IsToks w toks ta tn tc) (htn : tn ≤ 1000000) (hk : k ≤ tn) (hsz : ∀ t ∈ toks, t.text.size ≤ 1000000000000000) (M : List Nat) (hM : ∀ y ∈ M, y < w.heap.size) :
    PS toks ta tn tc w (((w.alloc (.cells c0 t0)).alloc (.cells #[.int .i64 0, .slice none 0 0, .slice none 0 0] 91)).alloc (.cells #[.slice ta tn tc, .int .i64 k, .slice (some ⟨w.heap.size + 1, 0, none⟩) 1 1] 94)) (w.heap.size + 2) k [] lvl0
      [w.heap.size + 2, w.heap.size + 1] (w.heap.size :: M) := by
  have hx : Ext w (((w.alloc (.cells c0 t0)).alloc (.cells #[.int .i64 0, .slice none 0 0, .slice none 0 0] 91)).alloc (.cells #[.slice ta tn tc, .int .i64 k, .slice (some ⟨w.heap.size + 1, 0, none⟩) 1 1] 94)) := (((Ext.refl w).alloc _).alloc _).alloc _
  have hp := alloc_new ((w.alloc (.cells c0 t0)).alloc (.cells #[.int .i64 0, .slice none 0 0, .slice none 0 0] 91)) (.cells #[.slice ta tn tc, .int .i64 k, .slice (some ⟨w.heap.size + 1, 0, none⟩) 1 1] 94)
  have hl := blk_alloc (o' := .cells #[.slice ta tn tc, .int .i64 k, .slice (some ⟨w.heap.size + 1, 0, none⟩) 1 1] 94) (alloc_new (w.alloc (.cells c0 t0)) (.cells #[.int .i64 0, .slice none 0 0, .slice none 0 0] 91))
  have hs : (((w.alloc (.cells c0 t0)).alloc (.cells #[.int .i64 0, .slice none 0 0, .slice none 0 0] 91)).alloc (.cells #[.slice ta tn tc, .int .i64 k, .slice (some ⟨w.heap.size + 1, 0, none⟩) 1 1] 94)).heap.size = w.heap.size + 3 := by simp
  have e1 : (w.alloc (.cells c0 t0)).heap.size = w.heap.size + 1 := by simp
  have e2 : ((w.alloc (.cells c0 t0)).alloc (.cells #[.int .i64 0, .slice none 0 0, .slice none 0 0] 91)).heap.size = w.heap.size + 2 := by simp
  rw [e2] at hp
  rw [e1] at hl
  generalize (((w.alloc (.cells c0 t0)).alloc (.cells #[.int .i64 0, .slice none 0 0, .slice none 0 0] 91)).alloc (.cells #[.slice ta tn tc, .int .i64 k, .slice (some ⟨w.heap.size + 1, 0, none⟩) 1 1] 94)) = W at *
  have nilOwn : OwnParts W w.heap.size ((w.heap.size :: M) ++ [w.heap.size + 2, w.heap.size + 1]) [] (.slice none 0 0) := ⟨[], World.ownsRow_nil _ _ _ _, rfl, fun i h => by simp at h⟩
  refine ⟨.slice (some ⟨w.heap.size + 1, 0, none⟩) 1 1, [], lvlV0, ⟨⟨ht, hx, hp, by omega, hk, by omega, hsz⟩, ?_, rfl, ?_, ?_, ?_, ?_, ?_, ?_, ?_, ?_, htn⟩, rfl⟩
  · exact ⟨rfl, Or.inr ⟨w.heap.size + 1, 1, #[.int .i64 0, .slice none 0 0, .slice none 0 0], rfl, by omega, hl, by simp, by unfold maxLen; omega, rfl, rfl⟩⟩
  · intro i h1 h2
    obtain rfl : i = 0 := by simp at h1; exact h1
    exact ⟨rfl, nilOwn, nilOwn⟩
  · rfl
  · simp
  · intro x hx; exact List.mem_append_right _ hx
  · intro x hx
    rw [hs]
    rcases List.mem_append.1 hx with hx | hx
    · rcases List.mem_cons.1 hx with rfl | hx
      · omega
      · have := hM x hx; omega
    · simp at hx; omega
  · simp [potAll, Lvl.pot, lvl0, sumPot]
  · simp
  · intro l hl; simp at hl; subst hl; exact ⟨fun p hp => by simp [lvl0] at hp, fun p hp => by simp [lvl0] at hp⟩

set_option maxRecDepth 100000 in
set_option maxHeartbeats 2000000 in
theorem Tokens_calls (toks : List Tok) (ta : Option Addr) (tn tc : Nat) (i : Int) (w : World) (ht : IsToks w toks ta tn tc) (ho : HasOps w) (htn : tn ≤ 1000000) (hsz : ∀ t ∈ toks, t.text.size ≤ 1000000000000000) (M : List Nat) (hM : ∀ y ∈ M, y < w.heap.size) :
    Calls Tryd.prog 33 #[.slice ta tn tc, .int .i64 i] w (TokensQ (tokensF toks i) M w) := by
  have HT := Lib.hid ht
  have HO := Lib.hid ho
  have HZ := Lib.hid hsz
  have HN := Lib.hid ht.1
  have HMM := Lib.hid hM
  clear ht ho hsz hM
  by_cases h1 : i < 0
  · have HR := Lib.hid (show tokensF toks i = (ex0, 0, 0, 1) by rw [tokensF, if_pos (Or.inl h1)])
    generalize tokensF toks i = R at *
    have t1 : decide (i < 0) = true := by simpa using h1
    go_enter Tryd.func33, Tryd.ntmps33
    go_wp2_with fail
    refine bodyPost_ret (v := .tuple #[exV0.val, .int .i64 0, .int .i64 0, .int .i64 1]) (by simp [results, Tryd.results33, go_sem, exV0, ExV.val, exV]) rfl ?_
    exact tokensQ_err HR.out ((Ext.refl w).alloc _)
  by_cases h2 : (tn : Int) < i
  · have HR := Lib.hid (show tokensF toks i = (ex0, 0, 0, 1) by rw [tokensF, if_pos (Or.inr (by rw [← HN.out]; exact h2))])
    generalize tokensF toks i = R at *
    have t1 : decide (i < 0) = false := by simpa using h1
    have t2 : decide ((tn : Int) < i) = true := by simpa using h2
    go_enter Tryd.func33, Tryd.ntmps33
    go_wp2_with fail
    refine bodyPost_ret (v := .tuple #[exV0.val, .int .i64 0, .int .i64 0, .int .i64 1]) (by simp [results, Tryd.results33, go_sem, exV0, ExV.val, exV]) rfl ?_
    exact tokensQ_err HR.out ((Ext.refl w).alloc _)
  obtain ⟨k, rfl⟩ : ∃ k : Nat, i = (k : Int) := ⟨i.toNat, by omega⟩
  have hk : k ≤ tn := by omega
  have HR := Lib.hid (show tokensF toks k = if (run toks true k [] lvl0).2.1 ≠ 0 then (ex0, 0, ((run toks true k [] lvl0).2.2 : Int), (run toks true k [] lvl0).2.1) else
      if 300 < (run toks true k [] lvl0).1.size ∨ 16 < (run toks true k [] lvl0).1.depth then (ex0, 0, (k : Int), 4) else
      ((run toks true k [] lvl0).1.ex, ((run toks true k [] lvl0).2.2 : Int), 0, 0) by
    rw [tokensF, if_neg (by rw [← HN.out]; omega), Int.toNat_natCast])
  generalize tokensF toks k = R at *
  have t1 : decide ((k : Int) < 0) = false := by simp
  have t2 : decide ((tn : Int) < (k : Int)) = false := by simp; omega
  have t3 : decide (tn < k) = false := by simp; omega
  clear h1 h2
  have HP := Lib.hid (fun (c0 : Array Value) (t0 : TypeId) => start_ps (c0 := c0) (t0 := t0) HT.out htn hk HZ.out M HMM.out)
  have HE := Lib.hid (show ∀ a b c, Ext w (((w.alloc a).alloc b).alloc c) from fun a b c => (((Ext.refl w).alloc _).alloc _).alloc _)
  have HRU := Lib.hid (show runF toks tn (2 * (tn - k) + 2) true k [] lvl0 = run toks true k [] lvl0 by rw [HN.out]; rfl)
  go_enter Tryd.func33, Tryd.ntmps33
  go_wp2_with fail
  refine (expression_calls (HP.out _ _) HO.out).mono ?_
  rw [HRU.out]
  generalize run toks true k [] lvl0 = RR at *
  obtain ⟨q, er, k1⟩ := RR
  rintro r w1 ⟨v, vl, rfl, hv, hpb, hc⟩
  have hb0 := hc.blk (blk_alloc (o' := .cells #[.slice ta tn tc, .int .i64 k, .slice (some ⟨w.heap.size + 1, 0, none⟩) 1 1] 94) (blk_alloc (o' := .cells #[.int .i64 0, .slice none 0 0, .slice none 0 0] 91) (alloc_new w (.cells #[.int .i64 0, .string ⟨#[]⟩, .slice none 0 0, .int .i64 0, .int .i64 0, .slice none 0 0] 26)))) (by simp)
  have HX1 := Lib.hid (hc.ext (HE.out _ _ _) (by simp))
  have HV := Lib.hid hv
  unfold PB at hpb
  have hltp := blk_lt hpb
  have hlt0 := blk_lt hb0
  obtain ⟨c0, c1, c2, cf⟩ := blk3 hpb
  obtain ⟨b0, b1, b2, b3, b4, b5, bf⟩ := blk6 hb0
  clear hc hv hpb hb0
  simp only at HR HV c1
  by_cases her : er = 0
  · subst her
    simp only [ne_eq, not_true_eq_false, if_false] at HR
    unfold PartV.val
    go_wp2_with fail
    refine (beyond_calls _ _ _ _ _ _ _ _ _).mono ?_
    rintro r w2 ⟨rfl, hx2⟩
    have hC2 := Lib.hid (show Chg (w.heap.size :: M) w1 w2 from ((Chg.refl _ w1).alloc _).then (hx2.chg _))
    have hp2 := hx2.blk (alloc_new w1 (.cells #[.int .i64 v.x.op, .string v.x.name, .slice v.x.aw v.x.nw v.x.cw, .int .i64 v.x.lo, .int .i64 v.x.hi, .slice v.x.aa v.x.na v.x.ca, .int .i64 v.size, .int .i64 v.depth] 96))
    have hE2 : Ext w1 w2 := ((Ext.refl w1).alloc _).trans hx2
    have hz2 := hE2.size
    have hq2 := blk_lt hp2
    obtain ⟨p0, p1, p2, p3, p4, p5, p6, p7, pf⟩ := blk8 hp2
    replace b0 := hE2.cell b0
    replace b1 := hE2.cell b1
    replace b2 := hE2.cell b2
    replace b3 := hE2.cell b3
    replace b4 := hE2.cell b4
    replace b5 := hE2.cell b5
    replace c1 := hE2.cell c1
    have bf2 : ∀ j, w2.frozen? ⟨w.heap.size, j, none⟩ = false := fun j => by rw [World.frozen?_of_block (hE2.block _ hlt0)]; exact bf j
    have HX2 := Lib.hid (HX1.out.trans hE2)
    have hlt2 : w.heap.size < w2.heap.size := by omega
    clear hx2 hp2 hE2 bf cf c0 c2 HX1
    by_cases hbig : 300 < q.size ∨ 16 < q.depth
    · have HR1 := Lib.hid (show R = (ex0, 0, (k : Int), 4) by rw [HR.out, if_pos hbig])
      have tb : (decide (300 < (v.size : Int)) || decide (16 < (v.depth : Int))) = true := by have h1 := HV.out.1; have h2 := HV.out.2.1; rw [h1, h2]; simp; omega
      rw [tb]
      clear HR hbig tb
      go_wp2_with fail
      refine bodyPost_ret (v := .tuple #[exV0.val, .int .i64 0, .int .i64 k, .int .i64 4]) (by simp [results, Tryd.results33, go_sem, exV0, ExV.val, exV, b0, b1, b2, b3, b4, b5, hlt2]) rfl ?_
      refine tokensQ_err HR1.out ?_
      repeat (with_reducible (refine Ext.setAbove ?_ ?_ _))
      exact HX2.out
      all_goals simp
    · have HR1 := Lib.hid (show R = (q.ex, (k1 : Int), 0, 0) by rw [HR.out, if_neg hbig])
      have tb : (decide (300 < (v.size : Int)) || decide (16 < (v.depth : Int))) = false := by have h1 := HV.out.1; have h2 := HV.out.2.1; rw [h1, h2]; simp; omega
      rw [tb]
      clear HR hbig tb
      go_wp2_with fail
      go_region
      all_goals
        go_wp2_with fail
        refine bodyPost_ret (v := .tuple #[v.x.val, .int .i64 k1, .int .i64 0, .int .i64 0]) (by simp [results, Tryd.results33, go_sem, ExV.val, exV, b0, b1, b2, b3, b4, b5, hlt2]) rfl ?_
        rw [HR1.out]
        refine ⟨v.x, rfl, HV.out.2.2.mono ((Chg.sub ?_).trans (mask_less _ (fun y hy => List.mem_cons_of_mem _ hy))), ?_⟩
        · refine Chg.then hC2.out ?_
          repeat (with_reducible (first | refine Chg.setCell ?_ ?_ _ | refine Chg.drew ?_ | refine Chg.drewN ?_ _))
          exact Chg.refl _ _
          all_goals (refine Or.inl ?_; simp)
        · repeat (with_reducible (first | refine Ext.setAbove ?_ ?_ _ | refine Ext.drew ?_ | refine Ext.drewN ?_ _))
          exact HX2.out
          all_goals simp
  · have HR1 := Lib.hid (show R = (ex0, 0, (k1 : Int), er) by rw [HR.out, if_pos her])
    have te : (er == 0) = false := by simpa using her
    have te2 : (er != 0) = true := by simpa using her
    clear HR her
    unfold PartV.val
    go_wp2_with fail
    go_region
    all_goals
      go_wp2_with fail
      refine bodyPost_ret (v := .tuple #[exV0.val, .int .i64 0, .int .i64 k1, .int .i64 er]) (by simp [results, Tryd.results33, go_sem, exV0, ExV.val, exV, b0, b1, b2, b3, b4, b5, hlt0]) rfl ?_
      refine tokensQ_err HR1.out ?_
      repeat (with_reducible (first | refine Ext.setAbove ?_ ?_ _ | refine Ext.drew ?_ | refine Ext.drewN ?_ _ | refine Ext.alloc ?_ _))
      exact HX1.out
      all_goals simp
end Go.Proofs.YtaepiiediblleaaDoor
