/-
  Texts of the claim, joined: Slim, Prf2, RExprE, EvalE, Made10, DFacts, Eval, PV.
-/
import Derived.Test.YtpkljcgihobaiaaGreatDoorSo22
namespace Go.Proofs.YtpkljcgihobaiaaGreatDoor
set_option maxRecDepth 100000
set_option maxHeartbeats 32000000
theorem slim_mk {op lo hi : Int} {name : BA} {words : ZB} {args : List Ex} (h1 : args.length <= 1000000000000000) (h2 : ∀ x ∈ args, x.slim) : (Ex.mk op name words lo hi args).slim := by
 unfold Ex.slim; exact ⟨h1, (slimAll_iff _).2 h2⟩
theorem pfE_eq (s : List Attr) (f : ZI) (D : BA -> Option Pr) (e : Ex) : pfE s f D e = if e.op = 6 then notP (pfHd s f D e.args) else if e.op = 7 \/ e.op = 8 then sevP (decide (e.op = 8)) (pfL s f D e.args) else refP (if e.op = 3 then D e.name else none) (factV s f e.op e.name e.words e.lo e.hi) := by cases e; rw [pfE]; rfl
theorem sevP_value (d : Bool) (l : List Pr) : (sevP d l).value = if l.any (fun q => q.value == d) then d else !d := by
 unfold sevP
 cases h : l.findIdx? (fun q => q.value == d) with
 | none =>
  rw [List.findIdx?_eq_none_iff] at h
  rw [if_neg]
  ·rfl
  simp only [List.any_eq_true, not_exists, not_and]
  intro x hx; simp [h x hx]
 | some k =>
  rw [List.findIdx?_eq_some_iff_getElem] at h
  obtain ⟨hk, h1, _⟩ := h
  rw [if_pos]
  ·rfl
  exact List.any_eq_true.2 ⟨_, List.getElem_mem hk, h1⟩
mutual
theorem pfE_value {s : List Attr} {f : ZI} {D : BA -> Option Pr} {V : BA -> Option Bool} (h : ∀ x, V x = (D x).map Pr.value) : (e : Ex) -> (pfE s f D e).value = valE s f V e
 | .mk op name words lo hi args => by
  have hl := pfL_value (s := s) (f := f) h args
  rw [pfE, valE]
  by_cases h6 : op = 6
  ·rw [if_pos h6, if_pos h6]
   have h2 : (pfHd s f D args).value = valHd s f V args := hl.1
   rw [<- h2]; rfl
  rw [if_neg h6, if_neg h6]
  by_cases h7 : op = 7
  ·rw [if_pos (Or.inl h7), if_pos h7, sevP_value, valAll_iff]
   have h8 : decide (op = 8) = false := by simp [h7]
   rw [h8]
   have e1 : (pfL s f D args).any (fun q => q.value == false) = !(args.all (valE s f V)) := by
    rw [hl.2 (fun b => b == false)]
    induction args with
    | nil => rfl
    | cons a r _ => simp [List.not_all_eq_any_not]
   rw [e1]
   cases args.all (valE s f V) <;> rfl
  by_cases h8 : op = 8
  ·rw [if_pos (Or.inr h8), if_neg h7, if_pos h8, sevP_value, valAny_iff]
   have h9 : decide (op = 8) = true := by simp [h8]
   rw [h9]
   have e1 : (pfL s f D args).any (fun q => q.value == true) = args.any (valE s f V) := by
    rw [hl.2 (fun b => b == true)]
    congr 1
    funext x; simp
   rw [e1]
   cases args.any (valE s f V) <;> rfl
  rw [if_neg (by omega), if_neg h7, if_neg h8]
  by_cases h3 : op = 3
  ·rw [if_pos h3, if_pos h3, h name]
   cases D name <;> rfl
  rw [if_neg h3, if_neg h3]; rfl
theorem pfL_value {s : List Attr} {f : ZI} {D : BA -> Option Pr} {V : BA -> Option Bool} (h : ∀ x, V x = (D x).map Pr.value) : (l : List Ex) -> (pfHd s f D l).value = valHd s f V l /\ ∀ g : Bool -> Bool, (pfL s f D l).any (fun q => g q.value) = l.any (fun e => g (valE s f V e))
 | [] => ⟨by rw [pfHd, valHd]; rfl, fun g => by rw [pfL]; rfl⟩
 | e :: r => by
  have h1 := pfE_value (s := s) (f := f) h e
  have h2 := (pfL_value (s := s) (f := f) h r).2
  refine ⟨by rw [pfHd, valHd, h1], fun g => ?_⟩
  rw [pfL, List.any_cons, List.any_cons, h1, h2 g]
end
theorem pfF_value (s : List Attr) (l : List Cla) (f : ZI) : (k : Nat) -> (e : Ex) -> (pfF s l f k e).value = valF s l f k e
 | 0, _ => rfl
 | k + 1, e => by
  rw [pfF, valF]
  refine pfE_value (fun x => ?_) e
  cases defAt l x with
  | none => rfl
  | some d => simp only [Option.map_some, Option.some.injEq]; exact (pfF_value s l f k _).symm
open Go.RowKit
theorem rExprErr_calls (s : List Attr) (l : List Cla) (a : OA) (n c : Nat) (e : Ex) (ev sv : Value) (w : World) (hf : ∀ x ∈ s, x.fits) (hsl : s.length <= 1000000000000000) (hl : IsClas w l a n c) (hn : n <= 1000000000000000) (hfew : e.few) (hfit : e.fits) (hslim : e.slim) (hs : IsSchema w s sv) (he : IsEx w e ev) :
  Calls Tryz.prog 34 #[sv, .slice a n c, ev] w (GivesE (.int .i64 (exprErr s l e)) w) := by
 obtain ⟨sa, sn, sc, rfl, hsn⟩ := hs.slice
 have HV := hI (fun (W : World) (hW : Ext w W) => rSchema_calls s (.agg #[.slice sa sn sc]) W (hs.ext hW) hf hsl)
 have HD := hI (fun (W : World) (hW : Ext w W) => rexpr_slim e ev W (he.ext hW) hslim hfit hfew)
 have HX := hI (fun (W : World) (hW : Ext w W) (hz : refExprB e = true) => rnodesErr_calls s l hf hsl a n c hn e.size e ev (.agg #[.slice sa sn sc]) W (Nat.le_refl _) (by
  rw [refExprB, Bool.and_eq_true, Bool.and_eq_true] at hz
  have h2 := hz.1.2
  simp only [decide_eq_true_eq] at h2
  unfold refSize at h2; omega) hfew (hs.ext hW) (hl.ext hW) (he.ext hW))
 obtain ⟨aw, nw, cw, aa, na, ca, rfl, -⟩ := he.parts
 obtain ⟨R, hR⟩ : ∃ R, R = exprErr s l e := ⟨_, rfl⟩
 rw [<- hR]
 have HR := hI (show R = if schemaErr s ≠ 0 then schemaErr s else if refExprB e = false then 5 else nodesErr s l e from hR)
 obtain ⟨E, hE⟩ : ∃ E, E = schemaErr s := ⟨_, rfl⟩
 rw [<- hE] at HV HR
 obtain ⟨N, hN⟩ : ∃ N, N = nodesErr s l e := ⟨_, rfl⟩
 rw [<- hN] at HR HX
 obtain ⟨B, hB⟩ : ∃ B, B = refExprB e := ⟨_, rfl⟩
 rw [<- hB] at HR HX HD
 clear hf hl hfew hfit hslim hs he hR hsn hE hN hB
 unfold exV at *
 obtain ⟨wa, hwa⟩ : ∃ wa, wa = (w.alloc (.cells #[.slice sa sn sc] 31)).alloc (.cells #[.int .i64 e.op, .string e.name, .slice aw nw cw, .int .i64 e.lo, .int .i64 e.hi, .slice aa na ca] 26) := ⟨_, rfl⟩
 have hxa : Ext w wa := by rw [hwa]; exact ((Ext.refl _).alloc _).alloc _
 have hb0 : wa.heap[w.heap.size]? = some (.cells #[.slice sa sn sc] 31 (0, 0)) := by rw [hwa]; exact blk_alloc (alloc_new w _)
 have hb1 : wa.heap[w.heap.size + 1]? = some (.cells #[.int .i64 e.op, .string e.name, .slice aw nw cw, .int .i64 e.lo, .int .i64 e.hi, .slice aa na ca] 26 (0, 0)) := by rw [hwa]; exact alloc_atR (by simp)
 have HXA := hI hxa
 have HB0 := hI hb0
 have HB1 := hI hb1
 obtain ⟨a0, af⟩ := blk1 hb0
 have hlt1 := blk_lt hb1
 have HV1 := hI (HV.out wa hxa)
 clear hxa hb0 hb1 HV
 go_enter Tryz.func34, Tryz.ntmps34
 go_upto_region 1 with fail
 rw [<- hwa]
 clear hwa
 go_wp2_with fail
 refine HV1.out.mono ?_
 rintro r w3 ⟨rfl, hx3⟩
 have HX3 := hI (HXA.out.trans hx3)
 have HB03 := hI (hx3.blk HB0.out)
 have HB13 := hI (hx3.blk HB1.out)
 clear hx3 a0 af hlt1 HV1
 by_cases hz : E = 0
 case neg =>
  have tz : (E != 0) = true := by simp [hz]
  have HQ := hI (show R = E by rw [HR.out, if_pos hz])
  clear hz
  go_wp2_with fail
  go_ret
  exact givesE_of (by rw [HQ.out]) HX3.out
 have tz : (E != 0) = false := by simp [hz]
 have HQ := hI (show R = if B = false then 5 else N by rw [HR.out, if_neg (by simpa using hz)])
 clear hz HR
 obtain ⟨f0, f1, f2, f3, f4, f5, ff⟩ := blk6 HB13.out
 have hlt1 := blk_lt HB13.out
 go_wp2_with fail
 refine (HD.out w3 HX3.out).mono ?_
 rintro r w5 ⟨rfl, hx5⟩
 have HX5 := hI (HX3.out.trans hx5)
 have HB05 := hI (hx5.blk HB03.out)
 have HB15 := hI (hx5.blk HB13.out)
 clear hx5 f0 f1 f2 f3 f4 f5 ff hlt1 HD
 cases B
 ·go_wp2_with fail
  go_ret
  exact givesE_of (by rw [HQ.out]; rfl) HX5.out
 obtain ⟨a0, af⟩ := blk1 HB05.out
 obtain ⟨f0, f1, f2, f3, f4, f5, ff⟩ := blk6 HB15.out
 have hlt1 := blk_lt HB15.out
 go_wp2_with fail
 refine (HX.out w5 HX5.out (by trivial)).mono ?_
 rintro r w6 ⟨rfl, hx6⟩
 have HX6 := hI (HX5.out.trans hx6)
 clear hx6
 go_wp2_with fail
 go_ret
 exact givesE_of (by rw [HQ.out]; rfl) HX6.out
theorem rEvalError_calls (s : List Attr) (l : List Cla) (e : Ex) (f : ZI) (ev sv : Value) (a : OA) (n c : Nat) (fa : OA) (fn fc : Nat) (w : World) (hs : IsSchema w s sv) (hf : ∀ x ∈ s, x.fits) (hsl : s.length <= 1000000000000000) (hl : IsClas w l a n c) (hn : n <= 1000000) (hok : ∀ x ∈ l, x.fit) (he : IsEx w e ev) (hfew : e.few) (hfit : e.fits) (hslim : e.slim) (hi : IsIntF w f fa fn) :
  Calls Tryz.prog 14 #[sv, .slice a n c, ev, .slice fa fn fc] w (GivesE (.int .i64 (evalErr s l e f)) w) := by
 obtain ⟨sa, sn, sc, rfl, hsn⟩ := hs.slice
 have HCL := hI (fun W (hW : Ext w W) => rClauses_calls s l _ a n c W (hs.ext hW) hf hsl (hl.ext hW) (by omega) hok)
 have HEX := hI (fun W (hW : Ext w W) => rExprErr_calls s l a n c e ev _ W hf hsl (hl.ext hW) (by omega) hfew hfit hslim (hs.ext hW) (he.ext hW))
 have HXP := hI (fun (h1 : (clausesErr s l).2 = 0) (h2 : exprErr s l e = 0) W (hW : Ext w W) => rExpanded_calls l a n c hn (fun x hx => by have := (chk_of h1).size x hx; omega) e ev W (by have := ref_size (exprErr_ref h2); omega) (hl.ext hW) (he.ext hW))
 have HFC := hI (fun W (hW : Ext w W) => rFacts_calls s _ f fa fn fc W (hs.ext hW) hf hsl (hi.ext hW))
 obtain ⟨aw, nw, cw, aa, na, ca, rfl, -⟩ := he.parts
 obtain ⟨R, hR⟩ : ∃ R, R = evalErr s l e f := ⟨_, rfl⟩
 rw [<- hR]
 unfold evalErr at hR
 obtain ⟨⟨i0, E1⟩, hE1⟩ : ∃ E : Nat × Int, E = clausesErr s l := ⟨_, rfl⟩
 rw [<- hE1] at HCL hR
 have HXP1 := hI (fun (h1 : E1 = 0) => HXP.out (by rw [<- hE1]; exact h1))
 clear HXP
 obtain ⟨E2, hE2⟩ : ∃ E, E = exprErr s l e := ⟨_, rfl⟩
 rw [<- hE2] at HEX hR
 have HXP := hI (fun (h1 : E1 = 0) (h2 : E2 = 0) => HXP1.out h1 (by rw [<- hE2]; exact h2))
 clear HXP1
 obtain ⟨X, hX⟩ : ∃ X, X = expanded l e := ⟨_, rfl⟩
 rw [<- hX] at HXP hR
 obtain ⟨B, hB⟩ : ∃ B, B = factsB s f := ⟨_, rfl⟩
 rw [<- hB] at HFC hR
 have HR := hI hR
 clear hs hf hsl hl hok he hfew hfit hslim hi hsn hR hE1 hE2 hX hB
 unfold exV at *
 obtain ⟨wa, hwa⟩ : ∃ wa, wa = (w.alloc (.cells #[.slice sa sn sc] 31)).alloc (.cells #[.int .i64 e.op, .string e.name, .slice aw nw cw, .int .i64 e.lo, .int .i64 e.hi, .slice aa na ca] 26) := ⟨_, rfl⟩
 have hxa : Ext w wa := by rw [hwa]; exact ((Ext.refl _).alloc _).alloc _
 have hb0 : wa.heap[w.heap.size]? = some (.cells #[.slice sa sn sc] 31 (0, 0)) := by rw [hwa]; exact blk_alloc (alloc_new w _)
 have hb1 : wa.heap[w.heap.size + 1]? = some (.cells #[.int .i64 e.op, .string e.name, .slice aw nw cw, .int .i64 e.lo, .int .i64 e.hi, .slice aa na ca] 26 (0, 0)) := by rw [hwa]; exact alloc_atR (by simp)
 have HXA := hI hxa
 have HB0 := hI hb0
 have HB1 := hI hb1
 obtain ⟨e0, ef⟩ := blk1 hb0
 clear hxa hb0 hb1
 unfold clsV at HCL
 go_enter Tryz.func14, Tryz.ntmps14
 go_upto_region 1 with fail
 rw [<- hwa]
 clear hwa
 go_wp2_with fail
 refine (HCL.out wa HXA.out).mono ?_
 rintro r w1 ⟨rfl, hx1⟩
 have HX1 := hI (HXA.out.trans hx1)
 have HB01 := hI (hx1.blk HB0.out)
 have HB11 := hI (hx1.blk HB1.out)
 clear hx1 e0 ef HCL
 by_cases h1 : E1 = 0
 case neg =>
  have t1 : (E1 != 0) = true := by simp [h1]
  have HQ := hI (show R = E1 by rw [HR.out, if_pos h1])
  clear h1
  go_wp2_with fail
  go_ret
  exact givesE_of (by rw [HQ.out]) HX1.out
 have t1 : (E1 != 0) = false := by simp [h1]
 have HR2 := hI (show R = if E2 ≠ 0 then E2 else if 2000 < X then 4 else if B = false then 16 else 0 by rw [HR.out, if_neg (by simpa using h1)])
 have HXP1 := hI (HXP.out h1)
 clear h1 HR HXP
 obtain ⟨e0, ef⟩ := blk1 HB01.out
 obtain ⟨f0, f1, f2, f3, f4, f5, ff⟩ := blk6 HB11.out
 go_wp2_with fail
 refine (HEX.out w1 HX1.out).mono ?_
 rintro r w2 ⟨rfl, hx2⟩
 have HX2 := hI (HX1.out.trans hx2)
 have HB02 := hI (hx2.blk HB01.out)
 have HB12 := hI (hx2.blk HB11.out)
 clear hx2 e0 ef f0 f1 f2 f3 f4 f5 ff HEX
 by_cases h2 : E2 = 0
 case neg =>
  have t2 : (E2 != 0) = true := by simp [h2]
  have HQ := hI (show R = E2 by rw [HR2.out, if_pos h2])
  clear h2
  go_wp2_with fail
  go_ret
  exact givesE_of (by rw [HQ.out]) HX2.out
 have t2 : (E2 != 0) = false := by simp [h2]
 have HR3 := hI (show R = if 2000 < X then 4 else if B = false then 16 else 0 by rw [HR2.out, if_neg (by simpa using h2)])
 have HXP2 := hI (HXP1.out h2)
 clear h2 HR2 HXP1
 obtain ⟨f0, f1, f2, f3, f4, f5, ff⟩ := blk6 HB12.out
 go_wp2_with fail
 refine (HXP2.out w2 HX2.out).mono ?_
 rintro r w3 ⟨rfl, hx3⟩
 have HX3 := hI (HX2.out.trans hx3)
 have HB03 := hI (hx3.blk HB02.out)
 clear hx3 f0 f1 f2 f3 f4 f5 ff HXP2
 by_cases h3 : 2000 < X
 case pos =>
  have t3 : decide ((2000 : Int) < (X : Int)) = true := decide_eq_true (by omega)
  have HQ := hI (show R = 4 by rw [HR3.out, if_pos h3])
  clear h3
  go_wp2_with fail
  go_ret
  exact givesE_of (by rw [HQ.out]) HX3.out
 have t3 : decide ((2000 : Int) < (X : Int)) = false := decide_eq_false (by omega)
 have HR4 := hI (show R = if B = false then 16 else 0 by rw [HR3.out, if_neg h3])
 clear h3 HR3
 obtain ⟨e0, ef⟩ := blk1 HB03.out
 go_wp2_with fail
 refine (HFC.out w3 HX3.out).mono ?_
 rintro r w4 ⟨rfl, hx4⟩
 have HX4 := hI (HX3.out.trans hx4)
 clear hx4
 cases B
 ·have HQ := hI (show R = 16 by rw [HR4.out]; rfl)
  go_wp2_with fail
  go_ret
  exact givesE_of (by rw [HQ.out]) HX4.out
 have HQ := hI (show R = 0 by rw [HR4.out]; rfl)
 go_wp2_with fail
 go_ret
 exact givesE_of (by rw [HQ.out]) HX4.out
def pcd : BA := ⟨#[99, 45]⟩
theorem new_callsB (la : OA) (ln lc : Nat) (w0 w : World) (h : IntsAt w0 la ln) (hx : Ext w0 w) (hl : ln <= 1000000000000000) : Calls Tryz.prog 20 #[.slice la ln lc] w (fun e w' => ∃ bd, e = .returned (.pointer (some ⟨bd, 0, none⟩)) /\ DeckAt w0 w' bd /\ Ext w w' /\ w.heap.size <= bd) := by
 have HX := hI hx
 clear hx
 go_enter Tryz.func20, Tryz.ntmps20
 go_wp2_with fail
 go_ret
 exact ⟨w.heap.size, rfl, ⟨la, ln, lc, 0, alloc_new w _, by omega, hl, h, HX.out.trans ((Ext.refl w).alloc _), HX.out.size⟩, (Ext.refl w).alloc _, Nat.le_refl _⟩
def intCells (z : Int) : List Value := [.int .i64 z]
def FctQ (attrs : List Attr) (w0 : World) (bd : Nat) (M : ZN) (w : World) (e : Ending) (w' : World) : Prop := ∃ (f : ZI) (a : OA) (c : Nat), e = .returned (.slice a f.length c) /\ factsAll attrs f = true /\ f.length <= 1000 /\ IsIntF (mask w' M) f a f.length /\ DeckAt w0 w' bd /\ Chg [bd] w w'
def FctL (attrs : List Attr) (w0 w : World) (bd bs base : Nat) (o : Obj) (v i : Value) (wr : World) : Prop := ∃ f : ZI, i = .int .i64 (f.length : Nat) /\ f.length <= attrs.length /\ (∀ j (h1 : j < attrs.length) (h2 : j < f.length), (domB attrs[j]).1 <= f[j] /\ f[j] <= (domB attrs[j]).2) /\ wr.ownsRow base 3 1 v f.length (f.flatMap intCells) /\ wr.heap[bs]? = some o /\ DeckAt w0 wr bd /\ Chg [bd] w wr
theorem schemas_err : (schemas.all fun l => decide (schemaErr l = 0) && l.all fun a => decide (a.name.size <= 1000) && (decide (a.words.length <= 1000) && a.words.all fun x => decide (x.size <= 1000))) = true := by decide +kernel
theorem schema_zero {l : List Attr} (h : l ∈ schemas) : schemaErr l = 0 := by
 have := List.all_eq_true.1 schemas_err l h
 simp only [Bool.and_eq_true, decide_eq_true_eq] at this
 exact this.1
theorem ints_own {w : World} {M : ZN} {base : Nat} {v : Value} {f : ZI} (h : w.ownsRow base 3 1 v f.length (f.flatMap intCells)) (hM : ∀ k, v.ownBlock = some k -> k ∉ M) : ∃ a c, v = .slice a f.length c /\ IsIntF (mask w M) f a f.length := by
 obtain ⟨a, c, rfl, hr⟩ := IsRows.of_owns (f := intCells) (fun _ => rfl) h
 refine ⟨a, c, rfl, rfl, fun i hi => ?_⟩
 obtain ⟨b, off, rfl, hc⟩ := hr.2.2.2 i hi
 refine ⟨b, off, rfl, ?_⟩
 have := hc 0 (by simp [intCells])
 rw [mask_cell, if_neg (hM _ rfl)]
 simpa [intCells] using this
theorem own_snoc {w : World} {base : Nat} {v : Value} {f : ZI} {k : Nat} {z : Int} (hk : k = f.length) (h : w.ownsRow base 3 1 v (k + 1) (f.flatMap intCells ++ (#[Value.int .i64 z] : Array Value).toList)) : w.ownsRow base 3 1 v (f ++ [z]).length ((f ++ [z]).flatMap intCells) := by
 have : (f ++ [z]).length = k + 1 := by simp [hk]
 rw [this]
 simpa [intCells] using h
theorem dfacts_calls {attrs : List Attr} (h0 : schemaErr attrs = 0) (hf : ∀ x ∈ attrs, x.fits) {w0 w : World} {bd : Nat} (hd : DeckAt w0 w bd) (sa : OA) (sn sc : Nat) (M : ZN) (hs : IsSchema (mask w [bd]) attrs (.agg #[.slice sa sn sc])) (hM : ∀ y ∈ M, y < w.heap.size) :
  Calls Tryz.prog 22 #[.pointer (some ⟨bd, 0, none⟩), .agg #[.slice sa sn sc]] w (FctQ attrs w0 bd M w) := by
 obtain ⟨q1, q2, q3⟩ := schema_attrs h0
 have hbw := hd.lt
 have HSN := hI (show sn = attrs.length by obtain ⟨a', n', c', e', h', -⟩ := hs.parts; simp at e'; omega)
 have HDOM := hI (fun (i : Nat) (hi : i < attrs.length) W (hW : Chg [bd] w W) => rDomain_calls attrs (.agg #[.slice sa sn sc]) i W (((hs.mono (mask_step hW (by simp))).mono (mask_sub _ _))) hf (by omega) h0 hi)
 have HAD := hI (fun (i : Nat) (hi : i < attrs.length) => attr_dom (q3 i hi).1)
 have HD := hI hd
 have HM := hI hM
 have HW0 := hI (show w0.heap.size <= w.heap.size by obtain ⟨_, _, _, _, _, _, _, _, hxw, _⟩ := hd; exact hxw.size)
 clear hs hM hf q1 q3 h0 hd
 obtain ⟨wa, hwa⟩ : ∃ wa, wa = w.alloc (.cells #[.slice sa sn sc] 31) := ⟨_, rfl⟩
 have hxa : Ext w wa := by rw [hwa]; exact (Ext.refl _).alloc _
 have HB0 := hI (show wa.heap[w.heap.size]? = some (.cells #[.slice sa sn sc] 31 (0, 0)) by rw [hwa]; exact alloc_new w _)
 have HDA := hI (HD.out.ext hxa)
 have HCA := hI (hxa.chg [bd])
 clear hxa
 go_enter Tryz.func22, Tryz.ntmps22
 go_upto_region 1 with fail
 rw [<- hwa]
 clear hwa
 go_wp2_with fail
 go_loopw [5, 6] (FctL attrs w0 w bd w.heap.size (w.heap.size + 1) (.cells #[.slice sa sn sc] 31 (0, 0))) (fun _ i _ => sn - (intOf i).toNat)
 case atStart => exact ⟨[], rfl, by simp, fun j _ h => by simp at h, ⟨rfl, Or.inl ⟨rfl, rfl⟩⟩, HB0.out, HDA.out, HCA.out⟩
 case round =>
  obtain ⟨f, rfl, hk, hall, hown, hb0, hd, hc⟩ := hrel
  obtain ⟨k, hkf⟩ : ∃ k, k = f.length := ⟨_, rfl⟩
  rw [<- hkf] at hown hk ⊢
  have HKF := hI hkf
  have HALL := hI hall
  have HOWN := hI hown
  have HBB := hI hb0
  have HDR := hI hd
  have HCR := hI hc
  obtain ⟨e0, ef⟩ := blk1 hb0
  have HRO := hI (show ∀ z ∈ rowOf u5, w.heap.size + 1 <= z /\ z < wr.heap.size from fun z hz => ⟨(hown.lt z (mem_rowOf.1 hz)).1, (hown.lt z (mem_rowOf.1 hz)).2⟩)
  clear hkf hall hown hb0 hd hc
  by_cases hkn : k < sn
  ·have hka : k < attrs.length := by have := HSN.out; omega
   have t1 : decide ((k : Int) < (sn : Int)) = true := decide_eq_true (by omega)
   have HDK := hI (HDOM.out k hka wr HCR.out)
   obtain ⟨hlh, hlo, hhi, -, -⟩ := HAD.out k hka
   unfold domV at HDK
   obtain ⟨lo, hlov⟩ : ∃ lo, lo = (domB attrs[k]).1 := ⟨_, rfl⟩
   obtain ⟨hi, hhiv⟩ : ∃ hi, hi = (domB attrs[k]).2 := ⟨_, rfl⟩
   rw [<- hlov, <- hhiv] at HDK
   rw [<- hlov] at hlh hlo
   rw [<- hhiv] at hlh hhi
   have HLV := hI hlov
   have HHV := hI hhiv
   clear hlov hhiv
   go_wp2_with fail
   refine HDK.out.mono ?_
   rintro r w1 ⟨rfl, hx1⟩
   have HD1 := hI (HDR.out.ext hx1)
   have HC1 := hI (HCR.out.then (hx1.chg [bd]))
   have HB1 := hI (hx1.blk HBB.out)
   have HO1 := hI (owns_ext HOWN.out hx1)
   have HR1 := hI (show ∀ z ∈ rowOf u5, w.heap.size + 1 <= z /\ z < w1.heap.size from fun z hz => by have := HRO.out z hz; have := hx1.size; omega)
   clear hx1 e0 ef HDR HCR HBB HOWN HRO HDK
   go_wp2_with fail
   refine (next_calls HD1.out (hi - lo + 1) (by omega) (by omega)).mono ?_
   rintro r w2 ⟨r1, rfl, hr1, hr2, hd2, hc2⟩
   have HD2 := hI hd2
   have HC2 := hI (HC1.out.then hc2)
   have HB2 := hI (hc2.blk HB1.out (by simp; omega))
   have HO2 := hI (owns_chg HO1.out hc2 (fun q hq hm => by have := (HR1.out q (mem_rowOf.2 hq)).1; simp only [List.mem_singleton] at hm; omega))
   have HR2 := hI (show ∀ z ∈ rowOf u5, w.heap.size + 1 <= z /\ z < w2.heap.size from fun z hz => by have := HR1.out z hz; have := hc2.size; omega)
   clear hd2 hc2 HD1 HC1 HB1 HO1 HR1
   have HLH := hI (show lo <= hi /\ 0 <= r1 /\ r1 < hi - lo + 1 from ⟨hlh, hr1, hr2⟩)
   go_wp2_with fail
   refine (next_calls HD2.out 5 (by omega) (by omega)).mono ?_
   rintro r w3 ⟨r3, rfl, hr3, hr4, hd3, hc3⟩
   have HD3 := hI hd3
   have HC3 := hI (HC2.out.then hc3)
   have HB3 := hI (hc3.blk HB2.out (by simp; omega))
   have HO3 := hI (owns_chg HO2.out hc3 (fun q hq hm => by have := (HR2.out q (mem_rowOf.2 hq)).1; simp only [List.mem_singleton] at hm; omega))
   have HR3 := hI (show ∀ z ∈ rowOf u5, w.heap.size + 1 <= z /\ z < w3.heap.size from fun z hz => by have := HR2.out z hz; have := hc3.size; omega)
   clear hd3 hc3 HD2 HC2 HB2 HO2 HR2 hlh hlo hhi hr1 hr2
   rcases (by omega : r3 = 0 \/ r3 = 1 \/ r3 = 2 \/ (r3 ≠ 0 /\ r3 ≠ 1 /\ r3 ≠ 2)) with rfl | rfl | rfl | ⟨q0, q1, q2⟩
   case' inl => go_upto_region 14 with fail
   case' inr.inl => go_upto_region 14 with fail
   case' inr.inr.inl =>
    go_wp2_with fail
    refine (next_calls HD3.out 12 (by omega) (by omega)).mono ?_
    rintro r w3 ⟨r5, rfl, hr5, hr6, hd3, hc3⟩
    have HD3 := hI hd3
    have HC3 := hI (HC3.out.then hc3)
    have HB3 := hI (hc3.blk HB3.out (by simp; omega))
    have HO3 := hI (owns_chg HO3.out hc3 (fun q hq hm => by have := (HR3.out q (mem_rowOf.2 hq)).1; simp only [List.mem_singleton] at hm; omega))
    have HR3 := hI (show ∀ z ∈ rowOf u5, w.heap.size + 1 <= z /\ z < w3.heap.size from fun z hz => by have := HR3.out z hz; have := hc3.size; omega)
    clear hd3 hc3
    go_upto_region 14 with fail
   case' inr.inr.inr =>
    have t0 : (r3 == 0) = false := by simp [q0]
    have t2 : (r3 == 1) = false := by simp [q1]
    have t3 : (r3 == 2) = false := by simp [q2]
    go_upto_region 14 with fail
   all_goals
    have hsx := HC3.out.size
    have hblt := blk_lt HB3.out
    go_wp2_with (at_builtin; refine wpList_append_at elemInts rfl _ _ rfl (w.heap.size + 1) _ k _ rfl HO3.out _ 1 1 rfl ?f0 rfl ?f1 ?f2 ?f3 ?f4 ?_)
    case f0 => simp
    case f1 => simp [Value.oneCell']
    case f2 => unfold maxLen; omega
    case f3 => omega
    case f4 => omega
    intro v8 w8 hown8 hc8 hw8
    have HO8 := hI (own_snoc HKF.out hown8)
    have HB8 := hI (hc8.blk HB3.out (fun hm => by have := (HR3.out _ hm).1; omega))
    have HD8 := hI (HD3.out.chg hc8 (fun hm => by have := (HR3.out _ hm).1; omega) (fun y hy => by have := (HR3.out _ hy).1; have := HW0.out; omega))
    have HC8 := hI (HC3.out.trans hc8 (fun y hy => Or.inr (by have := (HR3.out _ hy).1; omega)))
    obtain ⟨a8, c8, hv8⟩ := owns_formG hown8
    subst hv8
    clear hown8 hc8 hw8
    go_wp2_with fail
    go_roundw
    case rel =>
     have hlh := HLH.out
     refine ⟨f ++ [_], ?_, ?_, fun j h1 h2 => ?_, HO8.out, HB8.out, HD8.out, HC8.out⟩
     ·rw [List.length_append, <- HKF.out]
      go_num
     ·rw [List.length_append, <- HKF.out]; simp; omega
     by_cases e : j < f.length
     ·rw [List.getElem_append_left e]; exact HALL.out j h1 e
     have hjk : j = k := by have := HKF.out; simp at h2; omega
     subst hjk
     rw [List.getElem_append_right (by omega)]
     simp only [List.getElem_singleton]
     rw [<- HLV.out, <- HHV.out]
     exact ⟨by omega, by omega⟩
    case measure => simp [intOf]; omega
  have t1 : decide ((k : Int) < (sn : Int)) = false := decide_eq_false (by omega)
  have hk2 : k = attrs.length := by have := HSN.out; omega
  have hos := HOWN.out
  rw [HKF.out] at hos
  obtain ⟨a', c', rfl, hii⟩ := ints_own (M := M) hos (fun z hz hm => by have := (HRO.out z (mem_rowOf.2 hz)).1; have := HM.out z hm; omega)
  have HII := hI hii
  clear hos hii
  go_wp2_with fail
  go_ret
  exact ⟨f, a', c', by rw [<- HKF.out]; rfl, factsAll_of (by rw [<- HKF.out]; exact hk2) HALL.out, by rw [<- HKF.out]; omega, HII.out, HDR.out, HCR.out⟩
open Go.RowKit Go.Maps
structure In11 (w : World) (s : List Attr) (l : List Cla) (e : Ex) (f : ZI) (sv ev : Value) (a : OA) (n c : Nat) (fa : OA) (fn : Nat) : Prop where
 sch : IsSchema w s sv
 sfit : ∀ x ∈ s, x.fits
 slen : s.length <= 1000000000000000
 clas : IsClas w l a n c
 cn : n <= 1000000
 cfit : ∀ x ∈ l, x.fit
 ex : IsEx w e ev
 few : e.few
 fit : e.fits
 slim : e.slim
 ints : IsIntF w f fa fn
 fnl : fn <= 1000000000000000
 ops : HasOps w
theorem In11.ext {w w' : World} {s : List Attr} {l : List Cla} {e : Ex} {f : ZI} {sv ev : Value} {a : OA} {n c : Nat} {fa : OA} {fn : Nat} (h : In11 w s l e f sv ev a n c fa fn) (hx : Ext w w') : In11 w' s l e f sv ev a n c fa fn :=
 ⟨h.sch.ext hx, h.sfit, h.slen, h.clas.ext hx, h.cn, h.cfit, h.ex.ext hx, h.few, h.fit, h.slim, h.ints.ext hx, h.fnl, h.ops.ext hx⟩
theorem In11.checked {w : World} {s : List Attr} {l : List Cla} {e : Ex} {f : ZI} {sv ev : Value} {a : OA} {n c : Nat} {fa : OA} {fn : Nat} (h : In11 w s l e f sv ev a n c fa fn) (fc : Nat) : Calls Tryz.prog 31 #[sv, .slice a n c, ev, .slice fa fn fc] w (CheckedQ s l e f n w) :=
 checked_calls s l e f ev sv a n c fa fn fc w h.sch h.sfit h.slen h.clas h.cn h.cfit h.ex h.few h.fit h.ints h.fnl h.ops
theorem In11.evalError {w : World} {s : List Attr} {l : List Cla} {e : Ex} {f : ZI} {sv ev : Value} {a : OA} {n c : Nat} {fa : OA} {fn : Nat} (h : In11 w s l e f sv ev a n c fa fn) (fc : Nat) : Calls Tryz.prog 14 #[sv, .slice a n c, ev, .slice fa fn fc] w (GivesE (.int .i64 (evalErr s l e f)) w) :=
 rEvalError_calls s l e f ev sv a n c fa fn fc w h.sch h.sfit h.slen h.clas h.cn h.cfit h.ex h.few h.fit h.slim h.ints
theorem In11.prove {w : World} {s : List Attr} {l : List Cla} {e : Ex} {f : ZI} (ho : Ok11 s l e f) {lv : LossV} {nm : Nat} {ev : Value} (M : ZN) (hM : ∀ y ∈ M, y < w.heap.size) (hl : IsLoss w s l f lv nm) (he : IsEx w e ev) : Calls Tryz.prog 32 #[lv.val, ev] w (ProveQ (pf s l f e) M w) :=
 prove_calls s l f ho.chk ho.facts lv nm (l.length + 1) 300 e ev M w ho.size (by omega) ho.tree ho.node ho.exp hM hl he
def prN : Value := .agg #[.bool false, .int .i64 0, .slice none 0 0]
def ProvedQ (s : List Attr) (l : List Cla) (e : Ex) (f : ZI) (M : ZN) (w : World) (r : Ending) (w' : World) : Prop := Ext w w' /\ ((evalErr s l e f ≠ 0 /\ r = .returned (.tuple #[prN, .int .i64 (evalErr s l e f)])) \/ (evalErr s l e f = 0 /\ ∃ pv : PrV, r = .returned (.tuple #[pv.val, .int .i64 0]) /\ IsPr (mask w' M) (pf s l f e) pv))
theorem proved_calls (s : List Attr) (l : List Cla) (e : Ex) (f : ZI) (sv ev : Value) (a : OA) (n c : Nat) (fa : OA) (fn fc : Nat) (M : ZN) (w : World) (hi : In11 w s l e f sv ev a n c fa fn) (hM : ∀ y ∈ M, y < w.heap.size) :
  Calls Tryz.prog 13 #[sv, .slice a n c, ev, .slice fa fn fc] w (ProvedQ s l e f M w) := by
 obtain ⟨sa, sn, sc, rfl, -⟩ := hi.sch.slice
 have HCK := hI (fun W (hW : Ext w W) => (hi.ext hW).checked fc)
 obtain ⟨aw, nw, cw, aa, na, ca, rfl, -⟩ := hi.ex.parts
 have HVA := hI (fun (h0 : evalErr s l e f = 0) (lv : LossV) (N : ZN) W (hW : Ext w W) (hN : ∀ y ∈ N, y < W.heap.size) (hl : IsLoss W s l f lv n) => In11.prove (evalErr_ok h0) N hN hl (hi.ex.ext hW))
 unfold CheckedQ at HCK
 obtain ⟨RQ, hRQ⟩ : ∃ RQ, RQ = ProvedQ s l e f M w := ⟨_, rfl⟩
 rw [<- hRQ]
 unfold ProvedQ at hRQ
 obtain ⟨E, hE⟩ : ∃ E, E = evalErr s l e f := ⟨_, rfl⟩
 rw [<- hE] at HCK HVA hRQ
 obtain ⟨q, hq⟩ : ∃ q, q = pf s l f e := ⟨_, rfl⟩
 rw [<- hq] at HVA hRQ
 have HRQ := hI hRQ
 have HM := hI hM
 clear hi hE hq hRQ hM
 unfold exV at *
 obtain ⟨wa, hwa⟩ : ∃ wa, wa = ((w.alloc (.cells #[.slice sa sn sc] 31)).alloc (.cells #[.int .i64 e.op, .string e.name, .slice aw nw cw, .int .i64 e.lo, .int .i64 e.hi, .slice aa na ca] 26)).alloc (.cells #[.bool false, .int .i64 0, .slice none 0 0] 40) := ⟨_, rfl⟩
 have hxa : Ext w wa := by rw [hwa]; exact (((Ext.refl _).alloc _).alloc _).alloc _
 have hb0 : wa.heap[w.heap.size]? = some (.cells #[.slice sa sn sc] 31 (0, 0)) := by rw [hwa]; exact blk_alloc (blk_alloc (alloc_new w _))
 have hb1 : wa.heap[w.heap.size + 1]? = some (.cells #[.int .i64 e.op, .string e.name, .slice aw nw cw, .int .i64 e.lo, .int .i64 e.hi, .slice aa na ca] 26 (0, 0)) := by rw [hwa]; exact blk_alloc (alloc_atR (by simp))
 have hb2 : wa.heap[w.heap.size + 1 + 1]? = some prZero := by rw [hwa]; exact alloc_atR (by simp)
 have HXA := hI hxa
 have HB1 := hI hb1
 have HB2 := hI hb2
 obtain ⟨e0, ef⟩ := blk1 hb0
 obtain ⟨f0, f1, f2, f3, f4, f5, ff⟩ := blk6 hb1
 clear hxa hb0 hb1 hb2
 go_enter Tryz.func13, Tryz.ntmps13
 go_upto_region 1 with fail
 rw [<- hwa]
 clear hwa
 go_wp2_with fail
 refine (HCK.out wa HXA.out).mono ?_
 rintro r w1 ⟨hx1, ⟨hz, rfl⟩ | ⟨hz, lv, rfl, hls⟩⟩
 ·have t1 : (E != 0) = true := by simp [hz]
  have HZ := hI hz
  have HX1 := hI (HXA.out.trans hx1)
  have HB21 := hI (hx1.blk HB2.out)
  clear hx1 hz e0 ef f0 f1 f2 f3 f4 f5 ff HCK HVA
  unfold lossZero
  obtain ⟨w2, hw2⟩ : ∃ w2, w2 = w1.alloc (.cells #[.slice none 0 0, .map none, .slice none 0 0] 71) := ⟨_, rfl⟩
  have hx2 : Ext w1 w2 := by rw [hw2]; exact (Ext.refl _).alloc _
  go_upto_region 2 with fail
  rw [<- hw2]
  clear hw2
  have HX2 := hI (HX1.out.trans hx2)
  have HB22 := hI (hx2.blk HB21.out)
  clear hx2 HB21 HX1
  obtain ⟨r0, r1, r2, rf⟩ := blk3 HB22.out
  have hltr := blk_lt HB22.out
  go_wp2_with fail
  obtain ⟨wz, hwz⟩ : ∃ wz, wz = put3 w2 (w.heap.size + 1 + 1) (.bool false) (.int .i64 0) (.slice none 0 0) := ⟨_, rfl⟩
  have HZB := hI (show wz.heap[w.heap.size + 1 + 1]? = some (.cells #[.bool false, .int .i64 0, .slice none 0 0] 40 (0, 0)) by rw [hwz]; exact put3_blk HB22.out _ _ _)
  have HXZ := hI (show Ext w wz by rw [hwz]; exact (put3_chg w2 (w.heap.size + 1 + 1) (.bool false) (.int .i64 0) (.slice none 0 0) (N := [w.heap.size + 1 + 1]) (by simp)).ext HX2.out (fun y hy => by simp only [List.mem_singleton] at hy; omega))
  unfold put3 at hwz
  rw [<- hwz]
  clear hwz
  obtain ⟨z0, z1, z2, zf⟩ := blk3 HZB.out
  refine bodyPost_ret (v := .tuple #[prN, .int .i64 E]) (by simp [results, Tryz.results13, go_sem, prN, z0, z1, z2]) rfl ?_
  rw [HRQ.out]
  exact ⟨HXZ.out, Or.inl ⟨HZ.out, rfl⟩⟩
 have HX1 := hI (HXA.out.trans hx1)
 have HB11 := hI (hx1.blk HB1.out)
 have HB21 := hI (hx1.blk HB2.out)
 have HLS := hI hls
 subst hz
 obtain ⟨la, ln, lc, bm, fa', fn', fc'⟩ := lv
 have HVV := hI (fun (N : ZN) W (hW : Ext w1 W) hN => HVA.out rfl ⟨la, ln, lc, bm, fa', fn', fc'⟩ N W (HX1.out.trans hW) hN (HLS.out.ext hW))
 clear hx1 hls e0 ef f0 f1 f2 f3 f4 f5 ff HCK HVA
 unfold LossV.val at *
 simp only at *
 go_upto_region 2 with fail
 obtain ⟨y, hy⟩ : ∃ y : Nat, y = w1.heap.size := ⟨_, rfl⟩
 obtain ⟨w2, hw2⟩ : ∃ w2, w2 = w1.alloc (.cells #[.slice la ln lc, .map (some bm), .slice fa' fn' fc'] 71) := ⟨_, rfl⟩
 have hx2 : Ext w1 w2 := by rw [hw2]; exact (Ext.refl _).alloc _
 have HBL := hI (show w2.heap[y]? = some (.cells #[.slice la ln lc, .map (some bm), .slice fa' fn' fc'] 71 (0, 0)) by rw [hw2, hy]; exact alloc_new w1 _)
 rw [<- hw2, <- hy]
 clear hw2 hy
 have HX2 := hI (HX1.out.trans hx2)
 have HB22 := hI (hx2.blk HB21.out)
 obtain ⟨f0, f1, f2, f3, f4, f5, ff⟩ := blk6 (hx2.blk HB11.out)
 obtain ⟨l0, l1, l2, lf⟩ := blk3 HBL.out
 have HVW := hI (fun (N : ZN) hN => HVV.out N w2 hx2 hN)
 clear hx2 HB11 HB21 HVV
 go_wp2_with fail
 refine (HVW.out ((w.heap.size + 1 + 1) :: M) (fun z hz => by
  have h1 := blk_lt HB22.out
  have h2 := HX2.out.size
  simp only [List.mem_cons] at hz
  rcases hz with rfl | hz
  ·omega
  have := HM.out z hz; omega)).mono ?_
 rintro r w5 ⟨pv, rfl, hpv, hx5⟩
 have HX5 := hI (HX2.out.trans hx5)
 have HB25 := hI (hx5.blk HB22.out)
 have HPV := hI hpv
 clear hx5 hpv f0 f1 f2 f3 f4 f5 ff l0 l1 l2 lf
 obtain ⟨pb, pk, pa, pn, pc⟩ := pv
 unfold PrV.val
 obtain ⟨r0, r1, r2, rf⟩ := blk3 HB25.out
 have hltr := blk_lt HB25.out
 have HZ := hI (prove_fin (w := w) (M := M) (pv := ⟨pb, pk, pa, pn, pc⟩) HB25.out (by omega) HX5.out HPV.out)
 simp only at HZ
 go_wp2_with fail
 obtain ⟨wz, hwz⟩ : ∃ wz, wz = put3 w5 (w.heap.size + 1 + 1) (.bool pb) (.int .i64 pk) (.slice pa pn pc) := ⟨_, rfl⟩
 rw [<- hwz] at HZ
 unfold put3 at hwz
 rw [<- hwz]
 clear hwz
 obtain ⟨z0, z1, z2, zf⟩ := blk3 HZ.out.1
 refine bodyPost_ret (v := .tuple #[PrV.val ⟨pb, pk, pa, pn, pc⟩, .int .i64 0]) (by simp [results, Tryz.results13, go_sem, PrV.val, z0, z1, z2]) rfl ?_
 rw [HRQ.out]
 obtain ⟨pv', hpe, hpi, hpx⟩ := HZ.out.2
 exact ⟨hpx, Or.inr ⟨by first | rfl | trivial, pv', by
  have : (PrV.val ⟨pb, pk, pa, pn, pc⟩) = pv'.val := by simpa using hpe
  rw [this], hpi⟩⟩
end Go.Proofs.YtpkljcgihobaiaaGreatDoor
