/-
  Texts of the claim, joined: Args, Laid, Names1, Level1, Level2, Level3.
-/
import Derived.Test.YtaepiiediblleaaDoorNa01
import Derived.Test.YtaepiiediblleaaDoorNa05
import Derived.WalkKit
import Derived.Carry
import Derived.ChangeSlices
import Derived.SizedLaws
import Derived.Test.YtaepiiediblleaaDoorRows
import Derived.Maps.OwnSet
import Derived.Sort.KeysCollected
import Derived.Deep.AppendLies
import Derived.Deep.RegionLaw
import Derived.RegionTactic
namespace Go.Proofs.YtaepiiediblleaaDoor
open Go.ChangeShapes Go.WideShapes Go.ChangeAt Go.RowKit

theorem laidOut : laidOutB Tryd.prog = true := by kernel_rfl
/-- The types can be read again. -/
def rowedB (P : Program) (ts : List TypeId) : Bool := ts.all fun t => P.readableRec t && decide (t < P.types.size)
theorem args_again {H : Type} {enc : TypeId × Value → H} {P : Program} (hl : laidOutB P = true) {W W' : World} (hb : Ext W W') : ∀ {ts : List TypeId} {vs : List Value} {ds : List (DataW H)} {ps : List MemPlace}, rowedB P ts = true → DataW.TrodAll enc P W 0 (fun _ => true) true ts vs ds ps → (∀ x ∈ ps, x.block < W.heap.size) → DataW.TrodAll enc P W' 0 (fun b => decide (b < W.heap.size)) true ts vs ds ps
  | [], [], [], _, _, h, _ => h
  | t :: ts, v :: vs, d :: ds, ps, hr, h, hlt => by
    obtain ⟨p, q, h1, h2, e⟩ := h
    simp only [rowedB, List.all_cons, Bool.and_eq_true, decide_eq_true_eq] at hr
    subst e
    exact ⟨p, q, Below.trod hl hr.1.1 hr.1.2 h1 hb (fun x hx => hlt x (by simp [hx])), args_again hl hb (by simpa [rowedB] using hr.2) h2 (fun x hx => hlt x (by simp [hx])), rfl⟩
  | [], _ :: _, _, _, _, h, _ => by simp [DataW.TrodAll] at h
  | [], [], _ :: _, _, _, h, _ => by simp [DataW.TrodAll] at h
  | _ :: _, [], _, _, _, h, _ => by simp [DataW.TrodAll] at h
  | _ :: _, _ :: _, [], _, _, h, _ => by simp [DataW.TrodAll] at h
set_option maxRecDepth 100000 in
/-- A law answers true and has only made memory: its arguments read as before. -/
theorem law_post2 {H : Type} {enc : TypeId × Value → H} {f : Func} {s : ChangeSpec} {W W' : World} {args : Array Value} {ds : List (DataW H)} {before : List MemPlace}
    (hW : DataW.Whole enc Tryd.prog f.params.toList s.vars false W args.toList ds [] before) (hv : s.vars = []) (hrt : f.resultTypes = #[4]) (hfn : (s.fn H (ds ++ [])).results = [.lit (.bool true)]) (hfa : (s.fn H (ds ++ [])).args = ds) (hfv : (s.fn H (ds ++ [])).vars = []) (hrw : rowedB Tryd.prog f.params.toList = true)
    (hx : Ext W W') : s.post enc Tryd.prog f false true false false W args (.bool true) W' := by
  have hW2 := hW
  obtain ⟨p, q, hA, hV, rfl, hfz, hnd⟩ := hW2
  rw [hv] at hV
  obtain ⟨_, rfl⟩ := trodVars_none hV
  have hlt : ∀ x ∈ p ++ [], x.block < W.heap.size := fun x hx => by simpa using hW.lt x hx
  simp only [List.append_nil] at *
  have hres : ∀ (b : Nat) (sp : Nat → Bool) (hd : Bool), DataW.TrodAll enc Tryd.prog W' b sp hd f.resultTypes.toList ((Value.bool true).resultList f.resultTypes.size) (s.fn H (ds ++ [])).results [] := by
    intro b sp hd
    rw [hrt, List.append_nil, hfn]
    exact trodAll_cons_mk (shut_bool uB _) trodAll_mk0
  refine ⟨ds, [], p, [], p, [], hW, hres _ _ _, by rw [List.append_nil, hfa]; exact args_again laidOut hx hrw hA hlt, ?_, World.keptBut_mono (fun p hp => hp) (Below.frame hx _), fun h => by cases h⟩
  rw [hv, List.append_nil, hfv]
  rfl
theorem uIs : Tryd.prog.underlying 22 = some (.slice 3) := by kernel_rfl
theorem bInt : Tryd.prog.bytesOf 3 = 8 := by kernel_rfl
set_option maxRecDepth 100000 in
/-- An argument of type []int. -/
theorem ints_arg {H : Type} {enc : TypeId × Value → H} {W : World} {base : Nat} {v : Value} {d : DataW H} {p : List MemPlace} {ts : List TypeId} {ds : List (DataW H)} {j : Nat} (hval : Value.okWide Tryd.prog W .any base 22 v) (h : DataW.Trod enc Tryd.prog W 0 (fun _ => true) true 22 v d p)
    (hs : (DataW.weightsEach Tryd.prog ts ds).all (· ≤ reachBytes) = true) (ht : ts[j]? = some 22) (hd : ds[j]? = some d) : ∃ a n c, v = .slice a n c ∧ IntsAt W a n ∧ n ≤ 1000000000000000 := by
  obtain ⟨a, n, c, rfl⟩ := okWide_slice uIs hval
  refine ⟨a, n, c, rfl, ?_⟩
  obtain ⟨fuel, hf⟩ := h
  rcases open_ints uIs uI cI hf with ⟨hcs, hx⟩ | ⟨ad, len, cap, zs, hcs, _, hl, hm, hz, hx, hcell, hw⟩
  · simp [Value.cells] at hcs
    obtain ⟨rfl, rfl, rfl⟩ := hcs
    exact ⟨fun i hi => by omega, by omega⟩
  · simp [Value.cells] at hcs
    obtain ⟨rfl, rfl, rfl⟩ := hcs
    simp only [Prod.mk.injEq] at hx
    obtain ⟨rfl, rfl⟩ := hx
    simp only [if_true] at hz
    have hb := sized_slice hs ht hd uIs
    rw [bInt] at hb
    simp only [lits, List.length_map, List.length_take, List.length_drop] at hb
    have hr := reachBytes_lt
    refine ⟨fun i hi => ?_, by omega⟩
    obtain ⟨b, off, spot⟩ := ad
    have h0 := hcell 0 (by omega)
    have hsp : spot = none := by
      cases spot with
      | none => rfl
      | some x =>
        exfalso
        simp only [Addr.add, if_true, World.cell?] at h0
        split at h0 <;> simp at h0
    subst hsp
    have := hcell i (by omega)
    refine ⟨b, off, zs.getD i 0, rfl, ?_⟩
    rw [← this]
    congr 1
    unfold Addr.add
    split <;> simp_all
end Go.Proofs.YtaepiiediblleaaDoor

namespace Go.Proofs.YtaepiiediblleaaDoor
open Go.ChangeShapes Go.WideShapes Go.ChangeAt Go.WideMaps Go.WideElems Go.RowKit

set_option maxRecDepth 100000 in
/-- What the condition on the package's table gives. -/
theorem hasOps_of_laid {W : World} (h : laidMetH Tryd.prog Rows.syntaxDeepRow.laid W) : HasOps W := by
  rw [MakeChecks.laidMetH_plain _ _ _ (by kernel_rfl)] at h
  obtain ⟨ps, ⟨g0, t0, cs0, f0, p0, q0, hg0, ht0, hv0, hd0, ⟨g1, t1, cs1, f1, p1, q1, hg1, ht1, hv1, hd1, _, _⟩, _⟩, _, _⟩ := h
  obtain rfl := Option.some.inj (gOps.symm.trans hg1)
  obtain rfl := Option.some.inj (tOps.symm.trans ht1)
  obtain ⟨xs, m, rfl, hx, hlen, hn, hel⟩ := DataW.trod_array uOps hd1
  simp only [Prod.mk.injEq] at hx
  have hx1 := hx.1
  intro k hk
  have hD : (xs.map (·.1))[k]? = some (.agg [.lit (.string (opWord k).data.toList), .lit (.bool (opNamed k)), .lit (.int .i64 (opLeast k)), .lit (.int .i64 (opMost k)), .lit (.int .i64 (opBinds k))]) := by
    unfold Rows.laid_treaty_syntax_operators at hx1
    injection hx1 with hx1
    rw [← hx1]
    have hk' : k = 0 ∨ k = 1 ∨ k = 2 ∨ k = 3 ∨ k = 4 ∨ k = 5 ∨ k = 6 ∨ k = 7 ∨ k = 8 := by omega
    rcases hk' with rfl | rfl | rfl | rfl | rfl | rfl | rfl | rfl | rfl <;> rfl
  rw [List.getElem?_map] at hD
  have hek := hel k hk
  cases hy : xs[k]? with
  | none => rw [hy] at hD; cases hD
  | some y =>
    rw [hy] at hD hek
    simp only [Option.map_some, Option.some.injEq] at hD
    rw [cOp] at hek
    have hc := op_cells hek hD
    have key : ∀ j, j < 5 → W.cell? ⟨0, k * 5 + j, none⟩ = ([.string (opWord k), .bool (opNamed k), .int .i64 (opLeast k), .int .i64 (opMost k), .int .i64 (opBinds k)] : List Value)[j]? := by
      intro j hj
      have e1 : (⟨(opWord k).data.toList.toArray⟩ : ByteArray) = opWord k := by simp
      rw [World.var?_cell hg1 hv1 (k * 5 + j), ← e1, ← hc, List.getElem?_take, if_pos hj, List.getElem?_drop]
      simp
    have k0 := key 0 (by omega)
    rw [Nat.add_zero] at k0
    exact ⟨k0, key 1 (by omega), key 2 (by omega), key 3 (by omega), key 4 (by omega)⟩
end Go.Proofs.YtaepiiediblleaaDoor

namespace Go.Proofs.YtaepiiediblleaaDoor
open Go.RowKit Go.Maps

mutual
/-- The names that are used, as they are met. -/
def namesE : Ex → List ByteArray
  | .mk op name _ _ _ args => (if op = 3 then [name] else []) ++ namesL args
def namesL : List Ex → List ByteArray
  | [] => []
  | e :: r => namesE e ++ namesL r
end
theorem namesE_eq (e : Ex) : namesE e = (if e.op = 3 then [e.name] else []) ++ namesL e.args := by cases e; rw [namesE]; rfl
theorem namesL_snoc (l : List Ex) (e : Ex) : namesL (l ++ [e]) = namesL l ++ namesE e := by
  induction l with
  | nil => simp [namesL]
  | cons a r ih => simp [namesL, ih]
theorem namesL_take (l : List Ex) (k : Nat) (h : k < l.length) : namesL (l.take (k + 1)) = namesL (l.take k) ++ namesE l[k] := by
  rw [List.take_succ_eq_append_getElem h, namesL_snoc]

/-- A map that is the set of these names. -/
def SetIs (D : DataW Unit) (l : List ByteArray) : Prop := ∃ es, D = .map es ∧ (∀ p ∈ es, ∃ s, p.1 = .string s) ∧ (strKeys D).Nodup ∧ ∀ s, s ∈ strKeys D ↔ ∃ x ∈ l, x.data.toList = s
theorem setIs_nil : SetIs (.map []) [] := ⟨[], rfl, by simp, by simp [strKeys], by simp [strKeys]⟩
theorem insert_perm {H : Type} (x : Lit × DataW H) : (l : List (Lit × DataW H)) → (DataW.insert x l).Perm (x :: l)
  | [] => List.Perm.refl _
  | y :: r => by
    rw [DataW.insert]
    split
    · exact List.Perm.refl _
    · exact ((insert_perm x r).cons y).trans (List.Perm.swap x y r)
theorem SetIs.put {D : DataW Unit} {l : List ByteArray} (h : SetIs D l) (x : ByteArray) (d : DataW Unit) : SetIs (D.put (.string x.data.toList) d) (l ++ [x]) := by
  obtain ⟨es, rfl, hs, hn, hm⟩ := h
  have hp := insert_perm ((.string x.data.toList, d) : Lit × DataW Unit) (es.filter fun p => !p.1.sameKey (.string x.data.toList))
  have hk : (strKeys (DataW.put (.map es) (.string x.data.toList) d)).Perm (x.data.toList :: strKeys (H := Unit) (.map (es.filter fun p => !p.1.sameKey (.string x.data.toList)))) := by
    simp only [DataW.put, strKeys]
    exact hp.map _
  have hf : ∀ s, s ∈ strKeys (H := Unit) (.map (es.filter fun p => !p.1.sameKey (.string x.data.toList))) ↔ s ∈ strKeys (H := Unit) (.map es) ∧ s ≠ x.data.toList := by
    intro s
    simp only [strKeys, List.mem_map, List.mem_filter]
    constructor
    · rintro ⟨p, ⟨h1, h2⟩, rfl⟩
      obtain ⟨t, ht⟩ := hs p h1
      refine ⟨⟨p, h1, rfl⟩, fun e => ?_⟩
      rw [ht] at h2 e
      simp only [strOf] at e
      subst e
      simp [Lit.sameKey] at h2
    · rintro ⟨⟨p, h1, rfl⟩, h2⟩
      obtain ⟨t, ht⟩ := hs p h1
      refine ⟨p, ⟨h1, ?_⟩, rfl⟩
      rw [ht] at h2 ⊢
      simp only [strOf] at h2
      simpa [Lit.sameKey] using h2
  refine ⟨_, rfl, fun p hp' => ?_, ?_, fun s => ?_⟩
  · have := hp.mem_iff.1 hp'
    rcases List.mem_cons.1 this with rfl | h1
    · exact ⟨_, rfl⟩
    · exact hs p (List.mem_filter.1 h1).1
  · rw [hk.nodup_iff, List.nodup_cons]
    refine ⟨fun h => ((hf _).1 h).2 rfl, ?_⟩
    have : (strKeys (H := Unit) (.map (es.filter fun p => !p.1.sameKey (.string x.data.toList)))).Sublist (strKeys (H := Unit) (.map es)) := by
      simp only [strKeys]
      exact (List.filter_sublist).map _
    exact hn.sublist this
  · rw [hk.mem_iff, List.mem_cons, hf, hm]
    constructor
    · rintro (rfl | ⟨⟨y, h1, h2⟩, _⟩)
      · exact ⟨x, by simp, rfl⟩
      · exact ⟨y, by simp [h1], h2⟩
    · rintro ⟨y, h1, rfl⟩
      rcases List.mem_append.1 h1 with h1 | h1
      · by_cases e : y.data.toList = x.data.toList
        · exact Or.inl e
        · exact Or.inr ⟨⟨y, h1, rfl⟩, e⟩
      · rw [List.mem_singleton.1 h1]; exact Or.inl rfl

/-- The reference's put: a string into an ascending list. -/
def putL (s : ByteArray) : List ByteArray → List ByteArray
  | [] => [s]
  | x :: r => if s.toList < x.toList then s :: x :: r else if s.toList = x.toList then x :: r else x :: putL s r
def refNames (l : List ByteArray) : List ByteArray := l.foldl (fun l s => putL s l) []
def Up (l : List ByteArray) : Prop := l.Pairwise (fun a b => a.toList < b.toList)
theorem lt_or {a b : List UInt8} (h1 : ¬ a < b) (h2 : a ≠ b) : b < a := by
  by_cases h : b < a
  · exact h
  · exact absurd (List.le_antisymm (List.not_lt.1 h) (List.not_lt.1 h1)) h2
theorem putL_mem (s y : ByteArray) : (l : List ByteArray) → (y ∈ putL s l ↔ y = s ∨ y ∈ l)
  | [] => by simp [putL]
  | x :: r => by
    rw [putL]
    split
    · simp
    · split
      · rename_i h1 h2
        have := toList_inj h2
        subst this
        simp
      · simp only [List.mem_cons, putL_mem s y r]
        constructor
        · rintro (h | h | h)
          · exact Or.inr (Or.inl h)
          · exact Or.inl h
          · exact Or.inr (Or.inr h)
        · rintro (h | h | h)
          · exact Or.inr (Or.inl h)
          · exact Or.inl h
          · exact Or.inr (Or.inr h)
theorem putL_up (s : ByteArray) : (l : List ByteArray) → Up l → Up (putL s l)
  | [], _ => by simp [putL, Up]
  | x :: r, h => by
    obtain ⟨h1, h2⟩ := List.pairwise_cons.1 h
    rw [putL]
    split
    · rename_i hlt
      refine List.pairwise_cons.2 ⟨fun y hy => ?_, h⟩
      rcases List.mem_cons.1 hy with rfl | hy
      · exact hlt
      · exact List.lt_trans hlt (h1 y hy)
    · split
      · exact h
      · rename_i n1 n2
        refine List.pairwise_cons.2 ⟨fun y hy => ?_, putL_up s r h2⟩
        rcases (putL_mem s y r).1 hy with rfl | hy
        · exact lt_or n1 n2
        · exact h1 y hy
theorem fold_up (m : List ByteArray) : ∀ l, Up l → Up (m.foldl (fun l s => putL s l) l) := by
  induction m with
  | nil => intro l h; exact h
  | cons a r ih => intro l h; exact ih _ (putL_up a l h)
theorem fold_mem (m : List ByteArray) : ∀ l y, y ∈ m.foldl (fun l s => putL s l) l ↔ y ∈ m ∨ y ∈ l := by
  induction m with
  | nil => intro l y; simp
  | cons a r ih =>
    intro l y
    rw [List.foldl_cons, ih, putL_mem, List.mem_cons]
    constructor
    · rintro (h | h | h)
      · exact Or.inl (Or.inr h)
      · exact Or.inl (Or.inl h)
      · exact Or.inr h
    · rintro ((h | h) | h)
      · exact Or.inr (Or.inl h)
      · exact Or.inl h
      · exact Or.inr (Or.inr h)
theorem refNames_up (l : List ByteArray) : Up (refNames l) := fold_up l [] (by simp [Up])
theorem refNames_mem (l : List ByteArray) (y : ByteArray) : y ∈ refNames l ↔ y ∈ l := by rw [refNames, fold_mem]; simp
theorem putL_len (s : ByteArray) : (l : List ByteArray) → (putL s l).length ≤ l.length + 1
  | [] => by simp [putL]
  | x :: r => by
    have := putL_len s r
    rw [putL]
    split
    · simp
    · split <;> simp <;> omega
theorem fold_len (m : List ByteArray) : ∀ l : List ByteArray, (m.foldl (fun l s => putL s l) l).length ≤ m.length + l.length := by
  induction m with
  | nil => intro l; simp
  | cons a r ih => intro l; have := ih (putL a l); have := putL_len a l; simp only [List.foldl_cons, List.length_cons]; omega
/-- What the program's Names hands back is what the reference's does. -/
theorem names_same {D : DataW Unit} {l : List ByteArray} {ss : List (List UInt8)} (h : SetIs D l) (hp : ss.Perm (strKeys D)) : (ss.mergeSort (fun x y => decide (x ≤ y))) = (refNames l).map (·.data.toList) := by
  obtain ⟨es, rfl, hs, hn, hm⟩ := h
  have tr : ∀ a b c : List UInt8, decide (a ≤ b) = true → decide (b ≤ c) = true → decide (a ≤ c) = true := fun a b c h1 h2 => by simp only [decide_eq_true_eq] at *; exact List.le_trans h1 h2
  have to : ∀ a b : List UInt8, (decide (a ≤ b) || decide (b ≤ a)) = true := fun a b => by simp only [Bool.or_eq_true, decide_eq_true_eq]; exact List.le_total a b
  have hu := refNames_up l
  have eL : ∀ x : ByteArray, x.toList = x.data.toList := fun x => ByteArray.toList_eq x
  have hup : ((refNames l).map (·.data.toList)).Pairwise (fun a b => a < b) := by
    refine List.pairwise_map.2 (hu.imp fun {a b} h => ?_)
    rwa [eL, eL] at h
  have hnd : ((refNames l).map (·.data.toList)).Nodup := hup.imp fun {a b} h e => by subst e; exact List.lt_irrefl _ h
  have hperm : ((refNames l).map (·.data.toList)).Perm (strKeys (H := Unit) (.map es)) := by
    refine (List.perm_ext_iff_of_nodup hnd hn).2 fun s => ?_
    rw [hm, List.mem_map]
    constructor
    · rintro ⟨x, hx, rfl⟩; exact ⟨x, (refNames_mem l x).1 hx, rfl⟩
    · rintro ⟨x, hx, rfl⟩; exact ⟨x, (refNames_mem l x).2 hx, rfl⟩
  refine List.Perm.eq_of_pairwise (le := fun a b => decide (a ≤ b) = true) (fun a b _ _ h1 h2 => ?_) (List.pairwise_mergeSort tr to ss) (hup.imp fun {a b} h => ?_) (((List.mergeSort_perm ss _).trans hp).trans hperm.symm)
  · simp only [decide_eq_true_eq] at h1 h2; exact List.le_antisymm h1 h2
  · simp only [decide_eq_true_eq]; exact List.le_of_lt h
end Go.Proofs.YtaepiiediblleaaDoor

namespace Go.Proofs.YtaepiiediblleaaDoor
open Go.RowKit

set_option maxRecDepth 100000 in
theorem top_calls (g n cap bp : Nat) (w : World) (c2 : w.cell? ⟨bp, 2, none⟩ = some (.slice (some ⟨g, 0, none⟩) n cap)) (hn : 0 < n) (hn2 : n ≤ 1000000000000000) :
    Calls Tryd.prog 99 #[.pointer (some ⟨bp, 0, none⟩)] w (GivesE (.pointer (some ⟨g, (n - 1) * 3, none⟩)) w) := by
  have t1 : (0 : Int) ≤ (n : Int) - 1 := by omega
  have t2 : (n : Int) - 1 < (n : Int) := by omega
  have t3 : ((n : Int) - 1).toNat = n - 1 := by omega
  have t4 : 1 ≤ n := hn
  go_enter Tryd.func99, Tryd.ntmps99
  go_wp2_with fail
  go_quiet (fail)
  go_wp2_with fail
  go_ret
  refine ⟨?_, Ext.drewN (Ext.refl w) _⟩
  simp

structure Lvl where
  nots : Nat
  ands : List Part
  ors : List Part
structure LvlV where
  nots : Nat
  va : Value
  vo : Value
def LvlV.cells (l : LvlV) : List Value := [.int .i64 l.nots, l.va, l.vo]
def LvlV.rows (l : LvlV) : List Nat := rowOf l.va ++ rowOf l.vo
/-- Parts in a row of their own. -/
def OwnParts (w : World) (base : Nat) (K : List Nat) (l : List Part) (v : Value) : Prop := ∃ vs : List PartV, w.ownsRow base 96 8 v l.length (vs.flatMap PartV.cells) ∧ PartsR (mask w K) l vs
def LvlR (w : World) (base : Nat) (K : List Nat) (l : Lvl) (v : LvlV) : Prop := v.nots = l.nots ∧ OwnParts w base K l.ands v.va ∧ OwnParts w base K l.ors v.vo

def sumPot : List Part → Nat
  | [] => 0
  | p :: r => p.size + 1 + sumPot r
def Lvl.pot (l : Lvl) : Nat := l.nots + sumPot l.ands + sumPot l.ors
def potAll : List Lvl → Nat
  | [] => 0
  | l :: r => l.pot + potAll r

/-- The parser in memory, with its levels. M: the blocks that it writes; K: those that the data of its parts avoid. -/
structure PI (toks : List Tok) (ta : Option Addr) (tn tc : Nat) (w0 w : World) (bp k : Nat) (vl : Value) (lv : List Lvl) (lvs : List LvlV) (M K : List Nat) : Prop where
  pc : PC toks ta tn tc w0 w bp k vl
  own : w.ownsRow w0.heap.size 91 3 vl lvs.length (lvs.flatMap LvlV.cells)
  len : lv.length = lvs.length
  lvl : ∀ i (h1 : i < lv.length) (h2 : i < lvs.length), LvlR w w0.heap.size K lv[i] lvs[i]
  hM : M = bp :: (rowOf vl ++ lvs.flatMap LvlV.rows)
  nd : M.Nodup
  hK : ∀ x ∈ M, x ∈ K
  hKlt : ∀ x ∈ K, x < w.heap.size
  pot : potAll lv ≤ 2 * k
  cnt : lv.length ≤ k + 1
  tidy : ∀ l ∈ lv, Tidy l.ands ∧ Tidy l.ors
  small : tn ≤ 1000000

theorem OwnParts.chg {w w' : World} {base : Nat} {K K' : List Nat} {l : List Part} {v : Value} {N : List Nat} (h : OwnParts w base K l v) (hc : Chg N w w') (hN : ∀ x, v.ownBlock = some x → x ∉ N) (hs : Sub (mask w K) (mask w' K')) : OwnParts w' base K' l v := by
  obtain ⟨vs, h1, h2⟩ := h
  exact ⟨vs, owns_chg h1 hc hN, h2.mono hs⟩
theorem LvlR.chg {w w' : World} {base : Nat} {K K' : List Nat} {l : Lvl} {v : LvlV} {N : List Nat} (h : LvlR w base K l v) (hc : Chg N w w') (hN : ∀ x ∈ v.rows, x ∉ N) (hs : Sub (mask w K) (mask w' K')) : LvlR w' base K' l v :=
  ⟨h.1, h.2.1.chg hc (fun x hx => hN x (List.mem_append_left _ (mem_rowOf.2 hx))) hs, h.2.2.chg hc (fun x hx => hN x (List.mem_append_right _ (mem_rowOf.2 hx))) hs⟩

/-- Everything that the parser's invariant says of memory stays if only blocks outside of M change. -/
theorem PI.chg {toks : List Tok} {ta : Option Addr} {tn tc : Nat} {w0 w : World} {bp k : Nat} {vl : Value} {lv : List Lvl} {lvs : List LvlV} {M K : List Nat} (h : PI toks ta tn tc w0 w bp k vl lv lvs M K) {w' : World} {N K' : List Nat} (hc : Chg N w w')
    (hN : ∀ x ∈ M, x ∉ N) (hN0 : ∀ x ∈ N, w0.heap.size ≤ x) (hs : Sub (mask w K) (mask w' K')) (hK : ∀ x ∈ M, x ∈ K') (hKlt : ∀ x ∈ K', x < w'.heap.size) : PI toks ta tn tc w0 w' bp k vl lv lvs M K' := by
  have hm : ∀ x, x ∈ bp :: (rowOf vl ++ lvs.flatMap LvlV.rows) → x ∉ N := fun x hx => hN x (h.hM ▸ hx)
  refine ⟨h.pc.chg hc (hm bp (by simp)) hN0, owns_chg h.own hc (fun x hx => hm x (by simp [mem_rowOf.2 hx])), h.len, fun i h1 h2 => (h.lvl i h1 h2).chg hc (fun x hx => hm x ?_) hs, h.hM, h.nd, hK, hKlt, h.pot, h.cnt, h.tidy, h.small⟩
  refine List.mem_cons_of_mem _ (List.mem_append_right _ (List.mem_flatMap.2 ⟨lvs[i], List.getElem_mem h2, hx⟩))
theorem PI.ext {toks : List Tok} {ta : Option Addr} {tn tc : Nat} {w0 w : World} {bp k : Nat} {vl : Value} {lv : List Lvl} {lvs : List LvlV} {M K : List Nat} (h : PI toks ta tn tc w0 w bp k vl lv lvs M K) {w' : World} (hx : Ext w w') : PI toks ta tn tc w0 w' bp k vl lv lvs M K :=
  h.chg (hx.chg []) (by simp) (by simp) (mask_ext K hx) h.hK (fun x hx' => Nat.lt_of_lt_of_le (h.hKlt x hx') hx.size)

/-- The last level, in memory. -/
theorem PI.last {toks : List Tok} {ta : Option Addr} {tn tc : Nat} {w0 w : World} {bp k : Nat} {vl : Value} {lv : List Lvl} {lvs : List LvlV} {M K : List Nat} (h : PI toks ta tn tc w0 w bp k vl lv lvs M K) (hl : 0 < lvs.length) :
    ∃ g cap, vl = .slice (some ⟨g, 0, none⟩) lvs.length cap ∧ g ∈ M ∧ g ≠ bp ∧ w0.heap.size ≤ g ∧ g < w.heap.size ∧ w.cell? ⟨g, (lvs.length - 1) * 3, none⟩ = some (.int .i64 (lvs[lvs.length - 1]).nots) ∧ w.cell? ⟨g, (lvs.length - 1) * 3 + 1, none⟩ = some (lvs[lvs.length - 1]).va ∧
      w.cell? ⟨g, (lvs.length - 1) * 3 + 2, none⟩ = some (lvs[lvs.length - 1]).vo ∧ (∀ j, w.frozen? ⟨g, j, none⟩ = false) := by
  have hown := h.own
  rcases hown.2 with ⟨_, h0⟩ | ⟨g, cap, cur, rfl, hb, hg, hle, _, _, _⟩
  · omega
  · obtain ⟨a, c, e1, hr⟩ := IsRows.of_owns (f := LvlV.cells) (fun _ => rfl) hown
    simp only [Value.slice.injEq, true_and] at e1
    obtain ⟨rfl, rfl⟩ := e1
    obtain ⟨b, off, e2, hc⟩ := hr.2.2.2 (lvs.length - 1) (by omega)
    simp only [Option.some.injEq, Addr.mk.injEq, and_true] at e2
    obtain ⟨rfl, rfl⟩ := e2
    have c0 := hc 0 (by simp [LvlV.cells])
    have c1 := hc 1 (by simp [LvlV.cells])
    have c2 := hc 2 (by simp [LvlV.cells])
    simp only [LvlV.cells, List.getElem_cons_zero, List.getElem_cons_succ, Nat.add_zero, Nat.zero_add] at c0 c1 c2
    have hgM : g ∈ M := by rw [h.hM]; simp [rowOf, Value.ownBlock]
    refine ⟨g, cap, rfl, hgM, ?_, hb, blk_lt hg, c0, c1, c2, fun j => blk_free hg j⟩
    intro e
    have := h.nd
    rw [h.hM] at this
    simp [rowOf, Value.ownBlock, e] at this
end Go.Proofs.YtaepiiediblleaaDoor

namespace Go.Proofs.YtaepiiediblleaaDoor
open Go.RowKit

theorem top_calls' (g m cap bp : Nat) (w : World) (c2 : w.cell? ⟨bp, 2, none⟩ = some (.slice (some ⟨g, 0, none⟩) (m + 1) cap)) (hn2 : m ≤ 1000000) :
    Calls Tryd.prog 99 #[.pointer (some ⟨bp, 0, none⟩)] w (GivesE (.pointer (some ⟨g, m * 3, none⟩)) w) := top_calls g (m + 1) cap bp w c2 (by omega) (by omega)

theorem flatMap_snoc (l : List LvlV) (x : LvlV) : (l ++ [x]).flatMap LvlV.cells = l.flatMap LvlV.cells ++ x.cells := by simp
theorem rows_snoc (l : List LvlV) (x : LvlV) : (l ++ [x]).flatMap LvlV.rows = l.flatMap LvlV.rows ++ x.rows := by simp
theorem set_last (l : List LvlV) (x : LvlV) (j : Nat) (u : Value) : ((l ++ [x]).flatMap LvlV.cells).set (l.length * 3 + j) u = l.flatMap LvlV.cells ++ x.cells.set j u := by
  rw [flatMap_snoc]
  have hl := length_flatMap_of LvlV.cells 3 (fun _ => rfl) l
  rw [List.set_append_right _ _ (by omega), hl]
  congr 1
  congr 1
  omega

/-- The last level, in memory. -/
theorem PI.at {toks : List Tok} {ta : Option Addr} {tn tc : Nat} {w0 w : World} {bp k : Nat} {vl : Value} {lv : List Lvl} {l : List LvlV} {x : LvlV} {M K : List Nat} (h : PI toks ta tn tc w0 w bp k vl lv (l ++ [x]) M K) :
    ∃ g cap, vl = .slice (some ⟨g, 0, none⟩) (l.length + 1) cap ∧ g ∈ M ∧ g ≠ bp ∧ w0.heap.size ≤ g ∧ g < w.heap.size ∧ w.cell? ⟨g, l.length * 3, none⟩ = some (.int .i64 x.nots) ∧ w.cell? ⟨g, l.length * 3 + 1, none⟩ = some x.va ∧
      w.cell? ⟨g, l.length * 3 + 2, none⟩ = some x.vo ∧ (∀ j, w.frozen? ⟨g, j, none⟩ = false) ∧ l.length ≤ 1000000 := by
  obtain ⟨g, cap, h1, h2, h3, h4, h5, h6, h7, h8, h9⟩ := h.last (by simp)
  have e : (l ++ [x]).length - 1 = l.length := by simp
  have e2 : (l ++ [x])[(l ++ [x]).length - 1]'(by simp) = x := by simp
  rw [e2] at h6 h7 h8
  rw [e] at h6 h7 h8
  simp only [List.length_append, List.length_singleton] at h1
  refine ⟨g, cap, h1, h2, h3, h4, h5, h6, h7, h8, h9, ?_⟩
  have := h.cnt
  have := h.len
  have := h.pc.hk
  have := h.small
  simp at *
  omega

theorem PI.lastR {toks : List Tok} {ta : Option Addr} {tn tc : Nat} {w0 w : World} {bp k : Nat} {vl : Value} {li : List Lvl} {t : Lvl} {l : List LvlV} {x : LvlV} {M K : List Nat} (h : PI toks ta tn tc w0 w bp k vl (li ++ [t]) (l ++ [x]) M K) (hll : li.length = l.length) : LvlR w w0.heap.size K t x := by
  have := h.lvl li.length (by simp) (by simp; omega)
  simpa [List.getElem_append_right, hll] using this
theorem PI.rowsNot {toks : List Tok} {ta : Option Addr} {tn tc : Nat} {w0 w : World} {bp k : Nat} {vl : Value} {lv : List Lvl} {l : List LvlV} {x : LvlV} {M K : List Nat} (h : PI toks ta tn tc w0 w bp k vl lv (l ++ [x]) M K) : ∀ y ∈ x.rows, y ∉ rowOf vl ∧ y ≠ bp ∧ y ∈ M := by
  intro y hy
  have hnM := h.nd
  rw [h.hM, rows_snoc] at hnM
  rw [List.nodup_cons, List.nodup_append] at hnM
  refine ⟨fun h1 => hnM.2.2.2 y h1 y (List.mem_append_right _ hy) rfl, fun e => hnM.1 (by subst e; exact List.mem_append_right _ (List.mem_append_right _ hy)), ?_⟩
  rw [h.hM, rows_snoc]
  exact List.mem_cons_of_mem _ (List.mem_append_right _ (List.mem_append_right _ hy))
theorem PI.rowsNd {toks : List Tok} {ta : Option Addr} {tn tc : Nat} {w0 w : World} {bp k : Nat} {vl : Value} {lv : List Lvl} {l : List LvlV} {x : LvlV} {M K : List Nat} (h : PI toks ta tn tc w0 w bp k vl lv (l ++ [x]) M K) : x.rows.Nodup := by
  have hnM := h.nd
  rw [h.hM, rows_snoc, List.nodup_cons, List.nodup_append, List.nodup_append] at hnM
  exact hnM.2.2.1.2.1

/-- The last level is replaced. -/
theorem PI.replace {toks : List Tok} {ta : Option Addr} {tn tc : Nat} {w0 w w' : World} {bp k : Nat} {vl : Value} {li : List Lvl} {t t' : Lvl} {l : List LvlV} {x x' : LvlV} {M K K' N : List Nat} {k' : Nat}
    (h : PI toks ta tn tc w0 w bp k vl (li ++ [t]) (l ++ [x]) M K) (hll : li.length = l.length) (hpc : PC toks ta tn tc w0 w' bp k' vl) (hk : k ≤ k') (hc : Chg N w w') (hN : ∀ y ∈ N, y ∈ bp :: (rowOf vl ++ x.rows) ∨ y ∉ M) (hs : Sub (mask w K) (mask w' K'))
    (hown : w'.ownsRow w0.heap.size 91 3 vl (l.length + 1) (l.flatMap LvlV.cells ++ x'.cells)) (hnew : LvlR w' w0.heap.size K' t' x') (hr : ∀ y ∈ x'.rows, y ∈ x.rows ∨ w.heap.size ≤ y) (hnd : x'.rows.Nodup)
    (hK : ∀ y ∈ bp :: (rowOf vl ++ (l ++ [x']).flatMap LvlV.rows), y ∈ K') (hKlt : ∀ y ∈ K', y < w'.heap.size) (hpot : potAll (li ++ [t']) ≤ 2 * k') (htidy : Tidy t'.ands ∧ Tidy t'.ors) :
    PI toks ta tn tc w0 w' bp k' vl (li ++ [t']) (l ++ [x']) (bp :: (rowOf vl ++ (l ++ [x']).flatMap LvlV.rows)) K' := by
  have hnM := h.nd
  rw [h.hM, rows_snoc] at hnM
  have hlt : ∀ y ∈ M, y < w.heap.size := fun y hy => h.hKlt y (h.hK y hy)
  rw [h.hM, rows_snoc] at hlt
  refine ⟨hpc, ?_, by simpa using hll, ?_, rfl, ?_, hK, hKlt, hpot, ?_, ?_, h.small⟩
  · rw [flatMap_snoc]; simpa using hown
  · intro i h1 h2
    by_cases hi : i < li.length
    · have hi' : i < l.length := by omega
      have := h.lvl i (by simp; omega) (by simp; omega)
      simp only [List.getElem_append_left hi, List.getElem_append_left hi'] at this ⊢
      refine this.chg hc (fun y hy hyN => ?_) hs
      have hyl : y ∈ l.flatMap LvlV.rows := List.mem_flatMap.2 ⟨l[i], List.getElem_mem hi', hy⟩
      rcases hN y hyN with hb | hb
      · rw [show bp :: (rowOf vl ++ (l.flatMap LvlV.rows ++ x.rows)) = [bp] ++ (rowOf vl ++ (l.flatMap LvlV.rows ++ x.rows)) from rfl] at hnM
        rw [List.nodup_append] at hnM
        obtain ⟨_, hn1, hn2⟩ := hnM
        rw [List.nodup_append] at hn1
        obtain ⟨_, hn3, hn4⟩ := hn1
        rw [List.nodup_append] at hn3
        rcases List.mem_cons.1 hb with rfl | hb
        · exact hn2 y (by simp) y (List.mem_append_right _ (List.mem_append_left _ hyl)) rfl
        · rcases List.mem_append.1 hb with hb | hb
          · exact hn4 y hb y (List.mem_append_left _ hyl) rfl
          · exact hn3.2.2 y hyl y hb rfl
      · exact hb (by rw [h.hM, rows_snoc]; exact List.mem_cons_of_mem _ (List.mem_append_right _ (List.mem_append_left _ hyl)))
    · have hi1 : i = li.length := by simp at h1; omega
      subst hi1
      simp only [List.getElem_append_right (Nat.le_refl _), List.getElem_append_right (show l.length ≤ li.length by omega)]
      simpa using hnew
  · rw [rows_snoc]
    have key : ∀ (A B C D : List Nat), (A ++ (B ++ (C ++ D))).Nodup → ∀ E : List Nat, E.Nodup → (∀ y ∈ E, y ∈ D ∨ ∀ z ∈ A ++ (B ++ C), y ≠ z) → (A ++ (B ++ (C ++ E))).Nodup := by
      intro A B C D h1 E h2 h3
      have e1 : A ++ (B ++ (C ++ D)) = (A ++ (B ++ C)) ++ D := by simp
      have e2 : A ++ (B ++ (C ++ E)) = (A ++ (B ++ C)) ++ E := by simp
      rw [e1, List.nodup_append] at h1
      rw [e2, List.nodup_append]
      refine ⟨h1.1, h2, fun a ha b hb e => ?_⟩
      rcases h3 b hb with h4 | h4
      · exact h1.2.2 a ha b h4 e
      · exact h4 a ha e.symm
    refine key [bp] (rowOf vl) (l.flatMap LvlV.rows) x.rows hnM x'.rows hnd (fun y hy => ?_)
    rcases hr y hy with h4 | h4
    · exact Or.inl h4
    · refine Or.inr fun z hz e => ?_
      have := hlt z (by
        rcases List.mem_append.1 hz with hz | hz
        · simp at hz; subst hz; simp
        · rcases List.mem_append.1 hz with hz | hz
          · exact List.mem_cons_of_mem _ (List.mem_append_left _ hz)
          · exact List.mem_cons_of_mem _ (List.mem_append_right _ (List.mem_append_left _ hz)))
      omega
  · have := h.cnt
    simp at this ⊢
    omega
  · intro y hy
    rcases List.mem_append.1 hy with hy | hy
    · exact h.tidy y (List.mem_append_left _ hy)
    · simp at hy; subst hy; exact htidy
end Go.Proofs.YtaepiiediblleaaDoor

namespace Go.Proofs.YtaepiiediblleaaDoor
open Go.RowKit

/-- append, as one step of a region that draws its order. -/
theorem step_append1 {t e : TypeId} {z : Value} {size bytes : Nat} (E : ElemT t e z size bytes) {ops : Array Oper} {o : Oper} {a : Act} {K : Act → World → Prop} {Q : Exit → Act → World → Prop} {Z : Prop} {W : World}
    (hgd : o.guard = none) (s x : Operand) (ho : o.op = .call { callee := .builtin .append, args := #[s, x], argTypes := #[t, t] }) (base : Nat) (v : Value) (n : Nat) (xs : List Value) (hs : a.eval s = v)
    (B m c : Nat) (news : List Value) (hx : a.eval x = .slice (some ⟨B, 0, none⟩) m c) (hl : news.length = m * size) (h1 : ∀ u ∈ news, u.oneCell' = true) (hm : 0 < m) (hn : n + m ≤ 100000000) (hb : bytes ≤ 1000) (H : Nat)
    (hown : W.ownsRow base e size v n xs) (hnews : ∀ j (h : j < news.length), W.cell? ⟨B, j, none⟩ = some news[j]) (hbase : base ≤ W.heap.size) (hH : W.heap.size = H)
    (h : ∀ g cap w', w'.ownsRow base e size (.slice (some ⟨g, 0, none⟩) (n + m) cap) (n + m) (xs ++ news) → W.grownBy w' v.ownBlock → (v.ownBlock = some g ∨ g = H) → g < w'.heap.size → K (a.put o.dst (.slice (some ⟨g, 0, none⟩) (n + m) cap)) w') :
    if Region.wanted o (yielded ops a.tmps) = true then Oper.wp Tryd.prog o a W K Q else Z := by
  obtain ⟨i, hi, hz, hsz, hby⟩ := info_parts E.info
  refine step_append_lies W hgd s x t ho base e i z size bytes E.ht hi hz hsz hby E.hzs E.hsz v n xs hs hown ⟨B, 0, none⟩ m c news hx hl ?_ h1 hm (by simp only [maxLen]; omega) ?_ hbase H hH h
  · intro j u hu
    obtain ⟨hj, rfl⟩ := List.getElem?_eq_some_iff.1 hu
    have : (⟨B, 0, none⟩ : Addr).add j = ⟨B, j, none⟩ := by unfold Addr.add; split <;> simp_all
    rw [this]
    exact hnews j hj
  · calc (n + m) * bytes ≤ 100000000 * 1000 := Nat.mul_le_mul hn hb
      _ ≤ 140737488355328 := by omega

def itF : Nat → Part → Part
  | 0, p => p
  | n + 1, p => composedF 6 [itF n p]
theorem itF_size (n : Nat) (p : Part) : (itF n p).size = p.size + n := by
  induction n with
  | zero => rfl
  | succ n ih => rw [itF, composedF]; split <;> simp [sumSize, ih] <;> omega
theorem itF_tidy (n : Nat) (p : Part) (h : p.depth ≤ p.size) : (itF n p).depth ≤ (itF n p).size := by
  induction n with
  | zero => exact h
  | succ n ih => rw [itF, composedF]; split <;> simp [sumSize, maxDepth] <;> omega

theorem potAll_snoc (l : List Lvl) (t : Lvl) : potAll (l ++ [t]) = potAll l + t.pot := by
  induction l with
  | nil => simp [potAll]
  | cons a r ih => simp [potAll, ih]; omega
theorem sumPot_snoc (l : List Part) (p : Part) : sumPot (l ++ [p]) = sumPot l + (p.size + 1) := by
  induction l with
  | nil => simp [sumPot]
  | cons a r ih => simp [sumPot, ih]; omega
theorem sumPot_eq (l : List Part) : sumPot l = sumSize l + l.length := by
  induction l with
  | nil => simp [sumPot, sumSize]
  | cons a r ih => simp [sumPot, sumSize, ih]; omega

/-- The operand with its negations, in the block box. -/
def AddI (w1 : World) (box : Nat) (K : List Nat) (p : Part) (n : Nat) (i : Value) (wr : World) : Prop :=
  ∃ (j : Nat) (v : PartV), j ≤ n ∧ i = .int .i64 j ∧ Chg [box] w1 wr ∧ wr.heap[box]? = some (.cells v.cells.toArray 96 (0, 0)) ∧ PartR (mask wr (box :: K)) (itF j p) v

/-- What add does: the last level has one part more. -/
def AddQ (toks : List Tok) (ta : Option Addr) (tn tc : Nat) (w0 w : World) (bp k : Nat) (vl : Value) (li : List Lvl) (t' : Lvl) (l : List LvlV) (M X : List Nat) (e : Ending) (w' : World) : Prop :=
  e = .returned (.tuple #[]) ∧ ∃ x' M', PI toks ta tn tc w0 w' bp k vl (li ++ [t']) (l ++ [x']) M' (X ++ M') ∧ Chg M w w' ∧ ∀ y ∈ M', y ∈ M ∨ w.heap.size ≤ y

theorem Chg.mono {N N' : List Nat} {a b : World} (h : Chg N a b) (hN : ∀ y ∈ N, y ∈ N') : Chg N' a b := ⟨h.os, h.tape, h.output, h.size, fun k hk hn => h.block k hk (fun h' => hn (hN k h'))⟩
theorem set_tail (l : List LvlV) (C : List Value) (j : Nat) (u : Value) : (l.flatMap LvlV.cells ++ C).set (l.length * 3 + j) u = l.flatMap LvlV.cells ++ C.set j u := by
  have hl := length_flatMap_of LvlV.cells 3 (fun _ => rfl) l
  rw [List.set_append_right _ _ (by omega), hl]
  congr 1
  congr 1
  omega

theorem PartsR.snoc {w : World} {ps : List Part} {vs : List PartV} {p : Part} {v : PartV} (h : PartsR w ps vs) (hp : PartR w p v) : PartsR w (ps ++ [p]) (vs ++ [v]) := by
  refine ⟨by simp [h.1], fun i h1 h2 => ?_⟩
  by_cases hi : i < ps.length
  · rw [List.getElem_append_left hi, List.getElem_append_left (by rw [← h.1]; exact hi)]
    exact h.2 i hi _
  · have e : i = ps.length := by simp at h1; omega
    subst e
    rw [List.getElem_append_right (Nat.le_refl _), List.getElem_append_right (by rw [h.1]; exact Nat.le_refl _)]
    simpa using hp

theorem Chg.grown {N : List Nat} {a w w' : World} {row : Option Nat} (h : Chg N a w) (hg : w.grownBy w' row) (hr : ∀ y, row = some y → y ∈ N ∨ a.heap.size ≤ y) : Chg N a w' :=
  ⟨hg.os.trans h.os, hg.tape.trans h.tape, hg.output.trans h.output, Nat.le_trans h.size hg.size, fun y hy hn =>
    (hg.block y (Nat.lt_of_lt_of_le hy h.size) (fun e => by rcases hr y e.symm with h' | h'; exact hn h'; omega)).trans (h.block y hy hn)⟩

/-- A row of parts of the last level has grown by one part: the new state. -/
theorem add_fin {toks : List Tok} {ta : Option Addr} {tn tc : Nat} {w0 w wr w5 w6 : World} {bp k g cap : Nat} {li : List Lvl} {t : Lvl} {l : List LvlV} {x : LvlV} {M X : List Nat} {box : Nat} {o : Obj} {vas : List PartV} {vj : PartV} {q : Part} {g6 cap6 : Nat}
    (hcw : Chg [box] w wr) (hbox : box = w.heap.size)
    (h4 : PI toks ta tn tc w0 wr bp k (.slice (some ⟨g, 0, none⟩) (l.length + 1) cap) (li ++ [t]) (l ++ [x]) M (box :: (X ++ M))) (hll : li.length = l.length) (hC5 : Chg [g] wr w5)
    (d6 : w5.ownsRow w0.heap.size 91 3 (.slice (some ⟨g, 0, none⟩) (l.length + 1) cap) (l.length + 1) (((l ++ [x]).flatMap LvlV.cells).set (l.length * 3) (.int .i64 0)))
    (d5 : LvlR w5 w0.heap.size (box :: (X ++ M)) t x) (hpva : PartsR (mask w5 (box :: (X ++ M))) t.ands vas)
    (ho6 : w6.ownsRow w0.heap.size 96 8 (.slice (some ⟨g6, 0, none⟩) (t.ands.length + 1) cap6) (t.ands.length + 1) (vas.flatMap PartV.cells ++ vj.cells))
    (hg6 : ((w5.alloc o).drew).grownBy w6 x.va.ownBlock) (hl6 : x.va.ownBlock = some g6 ∨ g6 = w5.heap.size + 1) (hlt6 : g6 < w6.heap.size)
    (hq : PartR (mask wr (box :: (X ++ M))) q vj) (hqt : q.depth ≤ q.size) (hpot : potAll (li ++ [⟨0, t.ands ++ [q], t.ors⟩]) ≤ 2 * k) :
    ∃ x' M', PI toks ta tn tc w0 (w6.setCell ⟨g, l.length * 3 + 1, none⟩ (.slice (some ⟨g6, 0, none⟩) (t.ands.length + 1) cap6)) bp k (.slice (some ⟨g, 0, none⟩) (l.length + 1) cap) (li ++ [⟨0, t.ands ++ [q], t.ors⟩]) (l ++ [x']) M' (X ++ M') ∧
      Chg M w (w6.setCell ⟨g, l.length * 3 + 1, none⟩ (.slice (some ⟨g6, 0, none⟩) (t.ands.length + 1) cap6)) ∧ ∀ y ∈ M', y ∈ M ∨ w.heap.size ≤ y := by
  have hgM : g ∈ M := by rw [h4.hM]; simp [rowOf, Value.ownBlock]
  have hvg : rowOf (.slice (some ⟨g, 0, none⟩) (l.length + 1) cap) = [g] := rfl
  have hrn := h4.rowsNot
  rw [hvg] at hrn
  have hgr : g < wr.heap.size := h4.hKlt g (h4.hK g hgM)
  have hwr : ∀ y ∈ M, y < wr.heap.size := fun y hy => h4.hKlt y (h4.hK y hy)
  have hsz5 := hC5.size
  have hsz6 := hg6.size
  simp at hsz6
  have hva : ∀ y, x.va.ownBlock = some y → y ∈ x.rows := fun y hy => List.mem_append_left _ (mem_rowOf.2 hy)
  have hg6x : g6 ≠ g := by
    rcases hl6 with h | h
    · intro e; subst e; exact (hrn _ (hva _ h)).1 (by simp)
    · have := hsz5; omega
  -- what has changed since wr, and since w5
  have hc57 : Chg (g :: rowOf x.va) w5 (w6.setCell ⟨g, l.length * 3 + 1, none⟩ (.slice (some ⟨g6, 0, none⟩) (t.ands.length + 1) cap6)) :=
    (((Chg.refl (g :: rowOf x.va) w5).alloc o).drew.grown hg6 (fun y hy => Or.inl (by simp [mem_rowOf.2 hy]))).setCell (Or.inl (by simp)) _
  have hc7 : Chg (g :: rowOf x.va) wr (w6.setCell ⟨g, l.length * 3 + 1, none⟩ (.slice (some ⟨g6, 0, none⟩) (t.ands.length + 1) cap6)) := (hC5.mono (by simp)).then hc57
  have hs7 : (w6.setCell ⟨g, l.length * 3 + 1, none⟩ (.slice (some ⟨g6, 0, none⟩) (t.ands.length + 1) cap6)).heap.size = w6.heap.size := by simp
  have hNM : ∀ y ∈ g :: rowOf x.va, y ∈ M := fun y hy => by
    rcases List.mem_cons.1 hy with rfl | hy
    · exact hgM
    · exact (hrn y (hva y (mem_rowOf.1 hy))).2.2
  -- the new set of blocks
  have hx'r : (LvlV.mk 0 (.slice (some ⟨g6, 0, none⟩) (t.ands.length + 1) cap6) x.vo).rows = g6 :: rowOf x.vo := rfl
  have hM' : ∀ y ∈ bp :: ([g] ++ (l ++ [LvlV.mk 0 (.slice (some ⟨g6, 0, none⟩) (t.ands.length + 1) cap6) x.vo]).flatMap LvlV.rows), (y ∈ M ∧ y < w6.heap.size) ∨ (w5.heap.size ≤ y ∧ y < w6.heap.size) := by
    intro y hy
    have inM : y ∈ M → (y ∈ M ∧ y < w6.heap.size) ∨ (w5.heap.size ≤ y ∧ y < w6.heap.size) := fun h => Or.inl ⟨h, by have := hwr y h; omega⟩
    rw [rows_snoc, hx'r] at hy
    rcases List.mem_cons.1 hy with rfl | hy
    · exact inM (by rw [h4.hM]; simp)
    · rcases List.mem_append.1 hy with hy | hy
      · simp at hy; subst hy; exact inM hgM
      · rcases List.mem_append.1 hy with hy | hy
        · exact inM (by rw [h4.hM, rows_snoc]; exact List.mem_cons_of_mem _ (List.mem_append_right _ (List.mem_append_left _ hy)))
        · rcases List.mem_cons.1 hy with rfl | hy
          · rcases hl6 with h | h
            · exact inM (hrn _ (hva _ h)).2.2
            · exact Or.inr ⟨by omega, hlt6⟩
          · exact inM (hrn y (List.mem_append_right _ hy)).2.2
  have hsub5 : Sub (mask w5 (box :: (X ++ M))) (mask (w6.setCell ⟨g, l.length * 3 + 1, none⟩ (.slice (some ⟨g6, 0, none⟩) (t.ands.length + 1) cap6)) (X ++ (bp :: ([g] ++ (l ++ [LvlV.mk 0 (.slice (some ⟨g6, 0, none⟩) (t.ands.length + 1) cap6) x.vo]).flatMap LvlV.rows)))) :=
    mask_sub_mask fun y hy hn => by
      simp only [List.mem_cons, List.mem_append, not_or] at hn
      exact ⟨fun h => by
        rcases List.mem_append.1 h with h | h
        · exact hn.2.1 h
        · rcases hM' y h with ⟨h1, _⟩ | ⟨h1, _⟩; exact hn.2.2 h1; omega, hc57.block y hy (fun h => hn.2.2 (hNM y h))⟩
  have hsub : Sub (mask wr (box :: (X ++ M))) (mask (w6.setCell ⟨g, l.length * 3 + 1, none⟩ (.slice (some ⟨g6, 0, none⟩) (t.ands.length + 1) cap6)) (X ++ (bp :: ([g] ++ (l ++ [LvlV.mk 0 (.slice (some ⟨g6, 0, none⟩) (t.ands.length + 1) cap6) x.vo]).flatMap LvlV.rows)))) :=
    mask_sub_mask fun y hy hn => by
      simp only [List.mem_cons, List.mem_append, not_or] at hn
      exact ⟨fun h => by
        rcases List.mem_append.1 h with h | h
        · exact hn.2.1 h
        · rcases hM' y h with ⟨h1, _⟩ | ⟨h1, _⟩; exact hn.2.2 h1; omega, hc7.block y hy (fun h => hn.2.2 (hNM y h))⟩
  have hnd := h4.rowsNd
  have hvo : ∀ y, x.vo.ownBlock = some y → y ∉ g :: rowOf x.va := by
    intro y hy h
    rcases List.mem_cons.1 h with rfl | h
    · exact (hrn y (List.mem_append_right _ (mem_rowOf.2 hy))).1 (by simp)
    · unfold LvlV.rows at hnd
      rw [List.nodup_append] at hnd
      exact hnd.2.2 y h y (mem_rowOf.2 hy) rfl
  refine ⟨LvlV.mk 0 (.slice (some ⟨g6, 0, none⟩) (t.ands.length + 1) cap6) x.vo, _, h4.replace (N := g :: rowOf x.va) hll ?_ (Nat.le_refl _) hc7 ?_ hsub ?_ ?_ ?_ ?_ (fun y hy => List.mem_append_right _ hy) ?_ hpot ?_, ?_, ?_⟩
  · refine h4.pc.chg hc7 (fun h => ?_) (fun y hy => ?_)
    · rcases List.mem_cons.1 h with e | h
      · have := h4.nd; rw [h4.hM] at this; simp [rowOf, Value.ownBlock, e] at this
      · exact (hrn bp (hva bp (mem_rowOf.1 h))).2.1 rfl
    · rcases List.mem_cons.1 hy with rfl | hy
      · exact (h4.own.lt y rfl).1
      · obtain ⟨vs, h1, _⟩ := (h4.lastR hll).2.1
        exact (h1.lt y (mem_rowOf.1 hy)).1
  · intro y hy
    rcases List.mem_cons.1 hy with rfl | hy
    · exact Or.inl (by simp [rowOf, Value.ownBlock])
    · exact Or.inl (List.mem_cons_of_mem _ (List.mem_append_right _ (hva y (mem_rowOf.1 hy))))
  · have h1 : w6.ownsRow w0.heap.size 91 3 (.slice (some ⟨g, 0, none⟩) (l.length + 1) cap) (l.length + 1) (((l ++ [x]).flatMap LvlV.cells).set (l.length * 3) (.int .i64 0)) :=
      owns_chg d6 (((Chg.refl (rowOf x.va) w5).alloc o).drew.grown hg6 (fun y hy => Or.inl (mem_rowOf.2 hy))) (fun y hy h => by
        simp [Value.ownBlock] at hy; subst hy
        exact (hrn g (hva g (mem_rowOf.1 h))).1 (by simp))
    have h2 := (h1.stored (l.length * 3 + 1) (.slice (some ⟨g6, 0, none⟩) (t.ands.length + 1) cap6)).1
    rw [flatMap_snoc] at h2
    have e0 := set_tail l x.cells 0 (.int .i64 0)
    rw [Nat.add_zero] at e0
    rw [e0, set_tail] at h2
    exact h2
  · refine ⟨rfl, ⟨vas ++ [vj], ?_, (hpva.mono hsub5).snoc (hq.mono hsub)⟩, ?_⟩
    · have := owns_chg ho6 ((Chg.refl [g] w6).setCell (p := ⟨g, l.length * 3 + 1, none⟩) (Or.inl (by simp)) (.slice (some ⟨g6, 0, none⟩) (t.ands.length + 1) cap6)) (fun y hy => by simp [Value.ownBlock] at hy; subst hy; simpa using hg6x)
      simpa using this
    · obtain ⟨vs, h1, h2⟩ := d5.2.2
      exact ⟨vs, owns_chg h1 hc57 hvo, h2.mono hsub5⟩
  · intro y hy
    rw [hx'r] at hy
    rcases List.mem_cons.1 hy with rfl | hy
    · rcases hl6 with h | h
      · exact Or.inl (hva _ h)
      · exact Or.inr (by omega)
    · exact Or.inl (List.mem_append_right _ hy)
  · rw [hx'r, List.nodup_cons]
    unfold LvlV.rows at hnd
    rw [List.nodup_append] at hnd
    refine ⟨fun h => ?_, hnd.2.1⟩
    rcases hl6 with h' | h'
    · exact hvo g6 (mem_rowOf.1 h) (List.mem_cons_of_mem _ (mem_rowOf.2 h'))
    · have := hwr g6 (hrn g6 (List.mem_append_right _ h)).2.2
      omega
  · intro y hy
    rw [hs7]
    rcases List.mem_append.1 hy with hy | hy
    · have := h4.hKlt y (List.mem_cons_of_mem _ (List.mem_append_left _ hy)); omega
    · rcases hM' y hy with ⟨_, h⟩ | ⟨_, h⟩ <;> exact h
  · have := h4.tidy t (by simp)
    refine ⟨fun z hz => ?_, this.2⟩
    rcases List.mem_append.1 hz with hz | hz
    · exact this.1 z hz
    · simp at hz; subst hz; exact hqt
  · have := hcw.trans (N' := g :: rowOf x.va) hc7
    refine ⟨hc7.os.trans hcw.os, hc7.tape.trans hcw.tape, hc7.output.trans hcw.output, Nat.le_trans hcw.size hc7.size, fun y hy hn => ?_⟩
    exact (hc7.block y (Nat.lt_of_lt_of_le hy hcw.size) (fun h => hn (hNM y h))).trans (hcw.block y hy (by simp; omega))
  · intro y hy
    rcases hM' y hy with ⟨h, _⟩ | ⟨h, _⟩
    · exact Or.inl h
    · exact Or.inr (by have := hcw.size; omega)

set_option maxRecDepth 100000 in
set_option maxHeartbeats 4000000 in
theorem add_calls {toks : List Tok} {ta : Option Addr} {tn tc : Nat} {w0 w : World} {bp k : Nat} {vl : Value} {li : List Lvl} {t : Lvl} {l : List LvlV} {x : LvlV} {M X : List Nat} (h : PI toks ta tn tc w0 w bp k vl (li ++ [t]) (l ++ [x]) M (X ++ M)) (hll : li.length = l.length)
    (p : Part) (v : PartV) (hp : PartR (mask w (X ++ M)) p v) (hpt : p.depth ≤ p.size) (hpot : potAll (li ++ [t]) + p.size + 1 ≤ 2 * k) :
    Calls Tryd.prog 78 #[.pointer (some ⟨bp, 0, none⟩), v.val] w (AddQ toks ta tn tc w0 w bp k vl li ⟨0, t.ands ++ [itF t.nots p], t.ors⟩ l M X) := by
  have HI := Lib.hid h
  have hsm := h.small
  have hkt := h.pc.hk
  obtain ⟨g, cap, rfl, hgM, hgb, hg0, hgw, -, -, -, -, hl6⟩ := h.at
  have hbw := h.pc.cells.2.2.2.2
  have hxn : x.nots = t.nots := by
    have := (h.lvl li.length (by simp) (by simp; omega)).1
    simpa [List.getElem_append_right, hll] using this
  have HXN := Lib.hid hxn
  have HP := Lib.hid hp
  have HB := Lib.hid (show ∀ o, Ext w (w.alloc o) from fun o => (Ext.refl w).alloc o)
  have hpb : t.nots ≤ 2 * k := by have := h.pot; rw [potAll_snoc] at this; unfold Lvl.pot at this; omega
  have hps : p.size ≤ 2 * k := by omega
  clear h hp hxn
  unfold PartV.val
  go_enter Tryd.func78, Tryd.ntmps78
  go_wp2_with fail
  have hI1 := Lib.hid (HI.out.ext (HB.out (.cells v.cells.toArray 96)))
  refine (top_calls' g l.length cap bp _ ?_ ?_).mono ?_
  · exact hI1.out.pc.cells.2.2.1
  · exact hl6
  rintro r w1 ⟨rfl, hx1⟩
  have hI2 := Lib.hid (hI1.out.ext hx1)
  have hE1 := Lib.hid (show Ext w w1 from (HB.out _).trans hx1)
  have hbx := Lib.hid (hx1.blk (alloc_new w _))
  have hz1 := blk_lt hbx.out
  clear hx1 hI1
  obtain ⟨g', cap', e1, -, -, -, hgw1, c0, c1, c2, cf, -⟩ := hI2.out.at
  simp only [Value.slice.injEq, Option.some.injEq, Addr.mk.injEq, and_true, true_and] at e1
  obtain ⟨rfl, rfl⟩ := e1
  rw [HXN.out] at c0
  have hS := Lib.hid (show Sub (mask w (X ++ M)) (mask w1 (w.heap.size :: (X ++ M))) from mask_sub_mask fun y hy hn => ⟨by rw [List.mem_cons, not_or]; exact ⟨by omega, hn⟩, hE1.out.block y hy⟩)
  have hI3 := Lib.hid (show PI toks ta tn tc w0 w1 bp k _ (li ++ [t]) (l ++ [x]) M (w.heap.size :: (X ++ M)) from HI.out.chg (hE1.out.chg []) (by simp) (by simp) hS.out (fun y hy => List.mem_cons_of_mem _ (HI.out.hK y hy)) (fun y hy => by
    rcases List.mem_cons.1 hy with rfl | hy
    · exact hz1
    · have := HI.out.hKlt y hy; omega))
  clear hI2
  go_wp2_with fail
  go_loopw [11] (AddI w1 w.heap.size (X ++ M) p t.nots) (fun i _ => t.nots - (intOf i).toNat)
  case atStart => exact ⟨0, v, by omega, rfl, Chg.refl _ _, hbx.out, HP.out.mono hS.out⟩
  case round =>
    obtain ⟨j, vj, hj, rfl, hcj, hbj, hpj⟩ := hrel
    have HCJ := Lib.hid hcj
    have HBJ := Lib.hid hbj
    have HPJ := Lib.hid hpj
    have hzj := blk_lt hbj
    unfold PartV.cells at hbj
    obtain ⟨b0, b1, b2, b3, b4, b5, b6, b7, bf⟩ := blk8 hbj
    clear hcj hbj hpj
    by_cases hlt : j < t.nots
    · go_wp2_with fail
      refine (composed_calls 6 [itF j p] [vj] _ 1 1 (w.heap.size :: (X ++ M)) _ ?_ ?_ ?_ ?_ ?_ ?_).mono ?_
      · refine ⟨rfl, by omega, Or.inr ⟨_, _, rfl⟩, fun i hi => ⟨_, _, rfl, fun y hy => ?_⟩⟩
        obtain rfl : i = 0 := by simp at hi; exact hi
        have := World.cell?_alloc_at (w := wr) (#[.int .i64 vj.x.op, .string vj.x.name, .slice vj.x.aw vj.x.nw vj.x.cw, .int .i64 vj.x.lo, .int .i64 vj.x.hi, .slice vj.x.aa vj.x.na vj.x.ca, .int .i64 vj.size, .int .i64 vj.depth]) 96 wr.heap.size y rfl
        simp only [Nat.zero_mul, Nat.zero_add]
        rw [this]
        simp [PartV.cells]
      · refine ⟨rfl, fun i h1 h2 => ?_⟩
        obtain rfl : i = 0 := by simp at h1; exact h1
        exact HPJ.out.mono (mask_ext _ ((Ext.refl wr).alloc _))
      · intro y hy
        rcases List.mem_cons.1 hy with rfl | hy
        · simp; omega
        · have := HI.out.hKlt y hy; simp; omega
      · intro z hz
        simp at hz; subst hz
        exact itF_tidy _ _ hpt
      · simp only [sumSize, itF_size]; omega
      · omega
      rintro r w2 ⟨v2, rfl, hv2, hx2⟩
      have HV2 := Lib.hid hv2
      have HX2 := Lib.hid (((Ext.refl wr).alloc _).trans hx2)
      have hb2 := HX2.out.blk HBJ.out
      have hz2 := blk_lt hb2
      have HB2 := Lib.hid hb2
      unfold PartV.cells at hb2
      clear b0 b1 b2 b3 b4 b5 b6 b7 bf
      obtain ⟨b0, b1, b2, b3, b4, b5, b6, b7, bf⟩ := blk8 hb2
      clear hv2 hx2 hb2 c0 c1 c2 cf
      unfold PartV.val
      go_wp2_with fail
      go_roundw
      case rel =>
        refine ⟨j + 1, v2, by omega, by go_num, ?_, ?_, ?_⟩
        · refine HCJ.out.then (Chg.then (HX2.out.chg _) ?_)
          repeat (with_reducible (refine Chg.setCell ?_ ?_ _))
          exact Chg.refl _ _
          all_goals (refine Or.inl ?_; simp)
        · rw [heap_setCell_same _ _ _ _ _ _ (heap_setCell_same _ _ _ _ _ _ (heap_setCell_same _ _ _ _ _ _ (heap_setCell_same _ _ _ _ _ _ (heap_setCell_same _ _ _ _ _ _ (heap_setCell_same _ _ _ _ _ _ (heap_setCell_same _ _ _ _ _ _ (heap_setCell_same _ _ _ _ _ _ HB2.out)))))))]
          rfl
        · refine HV2.out.mono (mask_sub_mask fun y hy hn => ⟨hn, ?_⟩)
          simp only [List.mem_cons, not_or] at hn
          repeat (rw [heap_setCell_other _ _ _ _ (by simp only; exact hn.1)])
      case measure => simp [intOf]; omega
    · have hjn : j = t.nots := by omega
      rw [hjn] at HPJ
      have hI4 := Lib.hid (show PI toks ta tn tc w0 wr bp k _ (li ++ [t]) (l ++ [x]) M (w.heap.size :: (X ++ M)) from hI3.out.chg HCJ.out (fun y hy => by have := HI.out.hKlt y (HI.out.hK y hy); simp; omega) (by simp; have := HI.out.pc.hx.size; omega) (mask_sub_mask fun y hy hn => ⟨hn, HCJ.out.block y hy (by rw [List.mem_cons, not_or] at hn; simpa using hn.1)⟩) (fun y hy => List.mem_cons_of_mem _ (HI.out.hK y hy)) (fun y hy => by
        rcases List.mem_cons.1 hy with rfl | hy
        · exact hzj
        · have := HI.out.hKlt y hy; omega))
      clear c0 c1 c2 cf hI3 hbx hjn
      obtain ⟨g', cap', e1, -, -, -, hgw2, c0, c1, c2, cf, -⟩ := hI4.out.at
      simp only [Value.slice.injEq, Option.some.injEq, Addr.mk.injEq, and_true, true_and] at e1
      obtain ⟨rfl, rfl⟩ := e1
      have hgx : ∀ y ∈ x.rows, y ≠ g := fun y hy e => (hI4.out.rowsNot y hy).1 (by subst e; simp [rowOf, Value.ownBlock])
      have hC5 := Lib.hid ((Chg.refl [g] wr).setCell (p := ⟨g, l.length * 3, none⟩) (Or.inl (by simp)) (.int .i64 0))
      have d1 := Lib.hid (show (wr.setCell ⟨g, l.length * 3, none⟩ (.int .i64 0)).cell? ⟨g, l.length * 3 + 1, none⟩ = some x.va by rw [World.cell?_setCell_other _ _ _ _ (by simp)]; exact c1)
      have d2 := Lib.hid (show (wr.setCell ⟨g, l.length * 3, none⟩ (.int .i64 0)).heap[w.heap.size]? = some (.cells vj.cells.toArray 96 (0, 0)) from (heap_setCell_other _ _ _ _ (by simp; omega)).trans HBJ.out)
      have d3 := Lib.hid (show ∀ y, (wr.setCell ⟨g, l.length * 3, none⟩ (.int .i64 0)).frozen? ⟨g, y, none⟩ = false from fun y => by simpa using cf y)
      have d4 := Lib.hid (show g < (wr.setCell ⟨g, l.length * 3, none⟩ (.int .i64 0)).heap.size by simpa using hgw2)
      have d5 := Lib.hid ((hI4.out.lastR hll).chg (K' := w.heap.size :: (X ++ M)) hC5.out (fun y hy => by simpa using hgx y hy) (mask_sub_mask fun y hy hn => ⟨hn, hC5.out.block y hy (by simp; intro e; subst e; exact hn (List.mem_cons_of_mem _ (HI.out.hK _ hgM)))⟩))
      have hown4 : wr.ownsRow w0.heap.size 91 3 (.slice (some ⟨g, 0, none⟩) (l.length + 1) cap) (l.length + 1) ((l ++ [x]).flatMap LvlV.cells) := by
        have := hI4.out.own; rwa [List.length_append, List.length_singleton] at this
      have d6 := Lib.hid (hown4.stored (l.length * 3) (.int .i64 0)).1
      clear hown4
      have hzz : (wr.setCell ⟨g, l.length * 3, none⟩ (.int .i64 0)).heap.size = wr.heap.size := by simp
      go_wp2_with fail
      clear c0 c1 c2 cf b0 b1 b2 b3 b4 b5 b6 b7 bf
      generalize wr.setCell ⟨g, l.length * 3, none⟩ (.int .i64 0) = w5 at *
      have hB5 := d2.out
      unfold PartV.cells at hB5
      obtain ⟨b0, b1, b2, b3, b4, b5, b6, b7, bf⟩ := blk8 hB5
      have c1 := d1.out
      have cf := d3.out
      have hg5 := d4.out
      have hz5 : w.heap.size < w5.heap.size := blk_lt hB5
      have HZ5 := Lib.hid hzz
      clear hB5 hzz
      obtain ⟨vas, hova, hpva⟩ := d5.out.2.1
      have HOVA := Lib.hid hova
      have HPVA := Lib.hid hpva
      have hb5 : w0.heap.size ≤ w5.heap.size := by omega
      have hlen : t.ands.length ≤ 2 * k := by have := HI.out.pot; rw [potAll_snoc] at this; unfold Lvl.pot at this; rw [sumPot_eq] at this; omega
      clear hova hpva
      have HNW : Hid (∀ j (hj : j < vj.cells.length), ((w5.alloc (.cells #[.int .i64 vj.x.op, .string vj.x.name, .slice vj.x.aw vj.x.nw vj.x.cw, .int .i64 vj.x.lo, .int .i64 vj.x.hi, .slice vj.x.aa vj.x.na vj.x.ca, .int .i64 vj.size, .int .i64 vj.depth] 96)).drew).cell? ⟨w5.heap.size, j, none⟩ = some vj.cells[j]) := by
        intro j hj
        show (w5.alloc _).cell? _ = _
        rw [World.cell?_alloc_at _ _ _ _ rfl]
        simp [PartV.cells]
      have HNE := Lib.hid (show some g ≠ x.va.ownBlock from fun e => hgx g (List.mem_append_left _ (mem_rowOf.2 e.symm)) rfl)
      go_region_law ((refine step_append1 info_part rfl _ _ rfl w0.heap.size _ t.ands.length _ rfl _ 1 1 vj.cells rfl rfl (by simp [PartV.cells, Value.oneCell']) (by omega) (by omega) (by omega) (w5.heap.size + 1) (owns_ext HOVA.out ((Ext.refl w5).alloc _).drew) HNW.out (by simp; omega) (by simp) ?_; intro g6 cap6 w6 ho6 hg6 hl6' hlt6; have e1 : w6.cell? ⟨g, l.length * 3 + 1, none⟩ = some x.va := hg6.cell ((((Ext.refl w5).alloc _).drew).cell c1) HNE.out; have e2 : w6.frozen? ⟨g, l.length * 3 + 1, none⟩ = false := by rw [World.frozen?_of_block (hg6.block g (by simp; omega) HNE.out)]; exact (((Ext.refl w5).alloc _).drew.frozen c1).trans (cf _)))
      all_goals
        go_end0
        exact ⟨rfl, add_fin (hE1.out.chg [w.heap.size] |>.then HCJ.out) rfl hI4.out hll hC5.out d6.out d5.out HPVA.out ho6 hg6 hl6' hlt6 HPJ.out (itF_tidy _ _ hpt) (by
          rw [potAll_snoc] at hpot ⊢
          unfold Lvl.pot at hpot ⊢
          rw [sumPot_snoc, itF_size]
          simp only
          omega)⟩
end Go.Proofs.YtaepiiediblleaaDoor
