/-
  Texts of the claim, joined: Defd, GrowG, GenL, Fmt, Fmt2.
-/
import Derived.Test.YtfjlglefodndjaaDoorDo18
import Derived.Test.YtfjlglefodndjaaDoorDo09
import Derived.Test.YtfjlglefodndjaaDoorDo04
import Derived.Test.YtfjlglefodndjaaDoorDo13
import Derived.Test.YtfjlglefodndjaaDoorDo02
import Derived.Deep.DeepCutAuto
import Derived.Test.YtfjlglefodndjaaDoorDo06
import Derived.Test.YtfjlglefodndjaaDoorDo14
namespace Go.Proofs.YtfjlglefodndjaaDoor
open Go.RowKit

theorem elemCla : ElemT 29 28 (.agg #[.int .i64 0, .string ⟨#[]⟩, .int .i64 0, .string ⟨#[]⟩, .slice none 0 0, .int .i64 0, .int .i64 0, .slice none 0 0, .slice none 0 0, .int .i64 0]) 10 144 := ⟨by kernel_rfl, by kernel_rfl, rfl, by decide⟩
/-- A name of one byte. -/
def Nm1 (s : ByteArray) : Prop := ∃ b : UInt8, s = ⟨#[b]⟩
/-- The conditions that defined makes. -/
def CondOk (e : Ex) : Prop := e = exTrue ∨ (∃ s, Nm1 s ∧ e = exNm s) ∨ ∃ ns : List ByteArray, (∀ s ∈ ns, Nm1 s) ∧ ns.length ≤ 3 ∧ e = .mk 7 ⟨#[]⟩ [] 0 0 (ns.map exNm)
def DfnOk (c : Cla) : Prop := (c.kind = 1 ∨ c.kind = 2) ∧ Nm1 c.name ∧ CondOk c.cond ∧ c.unl = [] ∧ c.amount = 0
/-- Clauses and their cells. -/
def ClasR (w : World) (l : List Cla) (vs : List ClV) : Prop := l.length = vs.length ∧ ∀ i (h1 : i < l.length) (h2 : i < vs.length), IsCla w l[i] vs[i]
theorem ClasR.mono {w w' : World} {l : List Cla} {vs : List ClV} (h : ClasR w l vs) (hs : Sub w w') : ClasR w' l vs := ⟨h.1, fun i h1 h2 => (h.2 i h1 h2).mono hs⟩
theorem ClasR.snoc {w : World} {l : List Cla} {vs : List ClV} {c : Cla} {v : ClV} (h : ClasR w l vs) (hc : IsCla w c v) : ClasR w (l ++ [c]) (vs ++ [v]) := by
  refine ⟨by simp [h.1], fun i h1 h2 => ?_⟩
  by_cases hi : i < l.length
  · have hi2 : i < vs.length := by rw [← h.1]; exact hi
    simp only [List.getElem_append_left hi, List.getElem_append_left hi2]
    exact h.2 i hi hi2
  · have e1 : i = l.length := by simp at h1; omega
    subst e1
    simp only [List.getElem_append_right (Nat.le_refl _), List.getElem_append_right (show vs.length ≤ l.length by rw [h.1]; exact Nat.le_refl _), Nat.sub_self, List.getElem_cons_zero]
    simpa [h.1] using hc
/-- Clauses in a row that the call owns. -/
theorem clas_owns {w : World} {M : List Nat} {base : Nat} {v : Value} {l : List Cla} {vs : List ClV} (h : w.ownsRow base 28 10 v l.length (vs.flatMap ClV.cells)) (hM : ∀ k, v.ownBlock = some k → k ∉ M) (hR : ClasR (mask w M) l vs) :
    ∃ a c, v = .slice a l.length c ∧ IsClas (mask w M) l a l.length c := by
  rw [hR.1] at h
  obtain ⟨a, c, rfl, hr⟩ := IsRows.of_owns ClV.len h
  refine ⟨a, c, by rw [hR.1], vs, ?_, hR.1, hR.2⟩
  refine ⟨hR.1, by rw [hR.1]; exact hr.2.1, hr.2.2.1, fun i hi => ?_⟩
  obtain ⟨b, off, e, hc⟩ := hr.2.2.2 i hi
  subst e
  refine ⟨b, off, rfl, fun j hj => ?_⟩
  rw [mask_cell, if_neg (hM b rfl)]
  exact hc j hj
def xvNs (ns : List ByteArray) : List ExV := ns.map xvN
theorem exs_names {w : World} (ns : List ByteArray) : ExsR w (ns.map exNm) (xvNs ns) := by
  refine ⟨by simp [xvNs], fun i h1 h2 => ?_⟩
  simp only [List.getElem_map, xvNs]
  exact isEx_plain w 3 0 0 _
def DefQ (w : World) (e : Ending) (w' : World) : Prop := ∃ l a n c, e = .returned (.slice a n c) ∧ IsClas w' l a n c ∧ (∀ x ∈ l, DfnOk x) ∧ l.length ≤ 9 ∧ Ext w w'
end Go.Proofs.YtfjlglefodndjaaDoor

namespace Go.Proofs.YtfjlglefodndjaaDoor
open Go.RowKit

/-! The law of XGrow for regions with guarded operations, where every guard is met: what the guards look at is known. -/
/-- An edge by which a value goes. -/
def isDataG (e : Edge) : Bool := match e.ground with | .data => true | .guard => true | _ => false
/-- What is asked of the operations below m: no guard, no select; they look at slots of operations alone that come before them; the m-th (if there is one) comes last. -/
def okGrowG (ops : Array Oper) (m n : Nat) : Bool :=
  Region.noSelect ops && decide (m ≤ ops.size) && decide (ops.size ≤ m + 1) &&
  ((List.range ops.size).all fun i => (List.range ops.size).all fun j => i == j || dstAt ops i == none || dstAt ops i != dstAt ops j) &&
  ((List.range ops.size).all fun i => match ops[i]? with
    | none => false
    | some o => ((match o.guard with | none => true | some (j, _) => (match dstAt ops j with | none => false | some t => decide (t < n)) && o.after.any (fun e => isDataG e && e.on == j)) || i == m) && (o.after.all fun e => (!Region.binds .any e || decide (e.on < i)) && (!isDataG e || Region.binds .any e)) &&
      ((List.range m).all fun j => match dstAt ops j with
        | none => true
        | some t => !(o.looksAt ops).contains t || (i == m) || o.after.any (fun e => Region.binds .any e && e.on == j)) &&
      (i != m || (List.range m).all fun j => o.after.any (fun e => Region.binds .any e && e.on == j)))

theorem okGrow_specG {ops : Array Oper} {m n : Nat} (h : okGrowG ops m n = true) : Region.noSelect ops = true ∧ m ≤ ops.size ∧ ops.size ≤ m + 1 ∧ DstApart ops ∧
    (∀ i o, ops[i]? = some o → (i < m → ∀ j b, o.guard = some (j, b) → ∃ t, dstAt ops j = some t ∧ t < n ∧ ∃ e ∈ o.after, isDataG e = true ∧ e.on = j) ∧ (∀ e ∈ o.after, (Region.binds .any e = true → e.on < i) ∧ (isDataG e = true → Region.binds .any e = true)) ∧ (i < m → ∀ j t, j < m → dstAt ops j = some t → t ∈ o.looksAt ops → ∃ e ∈ o.after, Region.binds .any e = true ∧ e.on = j) ∧
      (i = m → ∀ j, j < m → ∃ e ∈ o.after, Region.binds .any e = true ∧ e.on = j)) := by
  simp only [okGrowG, Bool.and_eq_true, decide_eq_true_eq] at h
  obtain ⟨⟨⟨⟨h1, h2⟩, h3⟩, h4⟩, h5⟩ := h
  refine ⟨h1, h2, h3, ?_, ?_⟩
  · intro i j d hi hj
    have li : i < ops.size := by
      unfold dstAt at hi
      rcases Nat.lt_or_ge i ops.size with h | h
      · exact h
      · rw [Array.getElem?_eq_none h] at hi; simp at hi
    have lj : j < ops.size := by
      unfold dstAt at hj
      rcases Nat.lt_or_ge j ops.size with h | h
      · exact h
      · rw [Array.getElem?_eq_none h] at hj; simp at hj
    have := List.all_eq_true.1 (List.all_eq_true.1 h4 i (by simpa using li)) j (by simpa using lj)
    simpa [hi, hj] using this
  · intro i o ho
    have li : i < ops.size := (Array.getElem?_eq_some_iff.1 ho).1
    have h6 := List.all_eq_true.1 h5 i (by simpa using li)
    simp only [ho, Bool.and_eq_true] at h6
    obtain ⟨⟨⟨g1, g2⟩, g3⟩, g4⟩ := h6
    refine ⟨fun hm => ?_, fun e he => ?_, fun hm j t hjm hj ht => ?_, fun hm j hj => ?_⟩
    · intro j b hg
      rcases Bool.or_eq_true_iff.1 g1 with g | g
      · rw [hg] at g
        simp only [Bool.and_eq_true] at g
        cases hd : dstAt ops j with
        | none => rw [hd] at g; simp at g
        | some t =>
          rw [hd] at g
          obtain ⟨e, he, hb⟩ := Array.any_eq_true'.1 g.2
          simp only [Bool.and_eq_true, beq_iff_eq] at hb
          exact ⟨t, rfl, by simpa using g.1, e, he, hb.1, hb.2⟩
      · have : i = m := by simpa using g
        omega
    · have := Array.all_eq_true_iff_forall_mem.1 g2 e he
      simp only [Bool.and_eq_true, Bool.or_eq_true, Bool.not_eq_true', decide_eq_true_eq] at this
      refine ⟨fun hb => ?_, fun hb => ?_⟩
      · rcases this.1 with h | h
        · rw [hb] at h; cases h
        · exact h
      · rcases this.2 with h | h
        · rw [hb] at h; cases h
        · exact h
    · have := List.all_eq_true.1 g3 j (by simpa using hjm)
      rw [hj] at this
      simp only [Bool.or_eq_true, Bool.not_eq_true'] at this
      rcases this with (h | h) | h
      · rw [List.contains_iff_mem.2 ht] at h; cases h
      · have : i = m := by simpa using h
        omega
      · obtain ⟨e, he, hb⟩ := Array.any_eq_true'.1 h
        simp only [Bool.and_eq_true, beq_iff_eq] at hb
        exact ⟨e, he, hb.1, hb.2⟩
    · subst hm
      rcases Bool.or_eq_true_iff.1 g4 with g | g
      · simp at g
      · have := List.all_eq_true.1 g j (by simpa using hj)
        obtain ⟨e, he, hb⟩ := Array.any_eq_true'.1 this
        simp only [Bool.and_eq_true, beq_iff_eq] at hb
        exact ⟨e, he, hb.1, hb.2⟩

/-- Operation c looks at what operation i left. -/
def looksToG (ops : Array Oper) (c i : Nat) : Bool := match ops[c]? with | none => false | some o => o.after.any fun e => isDataG e && e.on == i
/-- What operation i left must outlast operation k. -/
def outlastsG (ops : Array Oper) (m : Nat) (Kp : List Nat) (i k : Nat) : Bool := !comesAfter ops m i k && (Kp.contains i || (List.range m).any fun c => c != k && !comesAfter ops m k c && looksToG ops c i)

section
variable {P : Program} {ops : Array Oper} {Q : Exit → Act → World → Prop} {a : Act} {m : Nat} (Kp : List Nat) (G : List Nat → (Nat → Value) → World → Prop) (E : Nat → World → World → Prop) (R : Nat → Value → World → Prop)

theorem wpAny_growG {n : Nat} (hok : okGrowG ops m n = true) (hN : n ≤ a.tmps.size) (hGd : ∀ i o j b, i < m → ops[i]? = some o → o.guard = some (j, b) → ∀ v W, R j v W → v = .bool b) (hRE : ∀ i k v W W', i < m → k < m → i ≠ k → outlastsG ops m Kp i k = true → R i v W → E k W W' → R i v W')
    (hstep : ∀ i o, i < m → ops[i]? = some o → ∀ L vs W, i ∉ L → (∀ j ∈ L, comesAfter ops m j i = false) → G L vs W → (∀ e ∈ o.after, isDataG e = true → R e.on (vs e.on) W) → ∀ ρ, Sees ops a m vs ρ → GivesOp P o ρ W (fun v W' => E i W W' ∧ G (L ++ [i]) (upd vs i v) W' ∧ R i v W'))
    (hend : ∀ L vs W, (∀ j, j < m → j ∈ L) → G L vs W → (∀ j ∈ Kp, j < m → R j (vs j) W) → if m = ops.size then Q .normal (acts ops a vs (List.range m)) W else wpOp P ops Q m (fun a w => Q .normal a w) (acts ops a vs (List.range m)) W) :
    ∀ (fuel : Nat) (L : List Nat) (vs : Nat → Value) (W : World) (listed : Array Bool), listed.size = ops.size → (∀ j, j < ops.size → (listed.getD j true = true ↔ j ∈ L)) → L.Nodup → (∀ j ∈ L, j < m) → ((List.range ops.size).filter (fun j => !L.contains j)).length ≤ fuel → G L vs W → (∀ i ∈ L, ∀ o, ops[i]? = some o → ∀ e ∈ o.after, Region.binds .any e = true → e.on ∈ L) → (∀ j ∈ L, (j ∈ Kp ∨ ∃ c, c < m ∧ c ∉ L ∧ looksToG ops c j = true) → R j (vs j) W) →
      wpAny P .any ops Q fuel listed (acts ops a vs L) W := by
  obtain ⟨hns, hm1, hm2, hda, hspec⟩ := okGrow_specG hok
  have hperm : ∀ L : List Nat, L.Nodup → (∀ j ∈ L, j < m) → (∀ j, j < m → j ∈ L) → L.Perm (List.range m) := fun L h1 h2 h3 =>
    (List.perm_ext_iff_of_nodup h1 List.nodup_range).2 (fun j => ⟨fun h => by simpa using h2 j h, fun h => h3 j (by simpa using h)⟩)
  -- all below m are listed if none of them is ready
  have hall : ∀ (L : List Nat) (listed : Array Bool), listed.size = ops.size → (∀ j, j < ops.size → (listed.getD j true = true ↔ j ∈ L)) → (∀ j ∈ Region.ready .any ops listed, ¬ j < m) → ∀ j, j < m → j ∈ L := by
    intro L listed hsz hL hr j
    induction j using Nat.strongRecOn with
    | _ j ih =>
      intro hj
      by_cases hjL : j ∈ L
      · exact hjL
      · exfalso
        refine hr j ?_ hj
        have hjs : j < ops.size := by omega
        rw [mem_ready]
        obtain ⟨o, ho⟩ : ∃ o, ops[j]? = some o := ⟨ops[j], Array.getElem?_eq_getElem hjs⟩
        refine ⟨?_, o, ho, fun e he hb => ?_⟩
        · cases hx : listed.getD j true
          · rfl
          · exact absurd ((hL j hjs).1 hx) hjL
        · have hlt := ((hspec j o ho).2.1 e he).1 hb
          have hm := ih e.on hlt (by omega)
          have := (hL e.on (by omega)).2 hm
          have hin : e.on < listed.size := by rw [hsz]; omega
          simpa [Array.getD, hin] using this
  -- what is asked when all below m are listed
  have hfin : ∀ (L : List Nat) (vs : Nat → Value) (W : World), L.Nodup → (∀ j ∈ L, j < m) → (∀ j, j < m → j ∈ L) → G L vs W → (∀ j ∈ L, (j ∈ Kp ∨ ∃ c, c < m ∧ c ∉ L ∧ looksToG ops c j = true) → R j (vs j) W) →
      if m = ops.size then Q .normal (acts ops a vs L) W else wpOp P ops Q m (fun a w => Q .normal a w) (acts ops a vs L) W := by
    intro L vs W hnd hLm hcov hE hR
    rw [acts_perm hda (hperm L hnd hLm hcov)]
    exact hend L vs W hcov hE (fun j hk hj => hR j (hcov j hj) (Or.inl hk))
  intro fuel
  induction fuel with
  | zero =>
    intro L vs W listed hsz hL hnd hLm hlen hE hcl hR
    have hcov : ∀ j, j < ops.size → j ∈ L := fun j hj => by
      have h0 := List.eq_nil_of_length_eq_zero (Nat.le_zero.1 hlen)
      have : j ∉ (List.range ops.size).filter (fun j => !L.contains j) := by rw [h0]; simp
      simpa [hj] using this
    have hmn : m = ops.size := by
      rcases Nat.lt_or_ge m ops.size with h | h
      · have := hLm m (hcov m h); omega
      · omega
    have hf := hfin L vs W hnd hLm (fun j hj => hcov j (by omega)) hE hR
    rw [if_pos hmn] at hf
    refine ⟨?_, hf⟩
    rw [List.eq_nil_iff_forall_not_mem]
    intro j hj
    obtain ⟨h0, o, ho, _⟩ := mem_ready.1 hj
    have := (hL j (Array.getElem?_eq_some_iff.1 ho).1).2 (hcov j (Array.getElem?_eq_some_iff.1 ho).1)
    rw [this] at h0; cases h0
  | succ fuel ih =>
    intro L vs W listed hsz hL hnd hLm hlen hE hcl hR
    refine ⟨fun hr => ?_, fun i hi => ?_⟩
    · have hcov := hall L listed hsz hL (by rw [hr]; simp)
      have hf := hfin L vs W hnd hLm hcov hE hR
      by_cases hmn : m = ops.size
      · rw [if_pos hmn] at hf; exact hf
      · exfalso
        have hms : m < ops.size := by omega
        have : m ∈ Region.ready .any ops listed := by
          rw [mem_ready]
          obtain ⟨o, ho⟩ : ∃ o, ops[m]? = some o := ⟨ops[m], Array.getElem?_eq_getElem hms⟩
          refine ⟨?_, o, ho, fun e he hb => ?_⟩
          · cases hx : listed.getD m true
            · rfl
            · have := hLm m ((hL m hms).1 hx); omega
          · have hlt := ((hspec m o ho).2.1 e he).1 hb
            have := (hL e.on (by omega)).2 (hcov e.on hlt)
            have hin : e.on < listed.size := by rw [hsz]; omega
            simpa [Array.getD, hin] using this
        rw [hr] at this
        simp at this
    · obtain ⟨h0, o, ho, hdep⟩ := mem_ready.1 hi
      have his : i < ops.size := (Array.getElem?_eq_some_iff.1 ho).1
      have hiL : i ∉ L := fun h => by rw [(hL i his).2 h] at h0; cases h0
      have hdepL : ∀ e ∈ o.after, Region.binds .any e = true → e.on ∈ L := fun e he hb => by
        have h1 := hdep e he hb
        have hlt := ((hspec i o ho).2.1 e he).1 hb
        have hin : e.on < listed.size := by rw [hsz]; omega
        exact (hL e.on (by omega)).1 (by simpa [Array.getD, hin] using h1)
      have hlist : ∀ j, j < ops.size → ((listed.setIfInBounds i true).getD j true = true ↔ j ∈ L ++ [i]) := fun j hj => by
        by_cases hij : i = j
        · subst hij; simp [hsz, his]
        · rw [getD_set_ne true hij, hL j hj]; simp; intro e; exact absurd e.symm hij
      by_cases him : i < m
      · -- one of the operations that make memory
        have hnc : ∀ j ∈ L, comesAfter ops m j i = false := fun j hj => by
          cases hx : comesAfter ops m j i
          · rfl
          · exact absurd (comesAfter_mem hcl m j i hj hx) hiL
        have hg := hstep i o him ho L vs W hiL hnc hE (fun e he hb => hR _ (hdepL e he (((hspec i o ho).2.1 e he).2 hb)) (Or.inr ⟨i, him, hiL, by unfold looksToG; rw [ho]; exact Array.any_eq_true'.2 ⟨e, he, by simp [hb]⟩⟩)) _ (sees_acts hda a m vs)
        have hex : execOp (acts ops a vs L).eval o = execOp (acts ops a vs (List.range m)).eval o := by
          refine execOp_congr o (Region.noSelect_spec hns i o · · ho) (fun x hx => ?_)
          cases x with
          | tmp t =>
            have hlook : t ∈ o.looksAt ops := List.mem_append_left _ (List.mem_filterMap.2 ⟨.tmp t, by simpa using hx, rfl⟩)
            by_cases hex : ∃ j, j < m ∧ dstAt ops j = some t
            · obtain ⟨j, hjm, hj⟩ := hex
              obtain ⟨e, he, hb, rfl⟩ := (hspec i o ho).2.2.1 him j t hjm hj hlook
              have hjL := hdepL e he hb
              rw [acts_eval_in hda hjL hj, acts_eval_in hda (by simpa using hLm _ hjL) hj]
            · have h1 : ∀ j, j < m → dstAt ops j ≠ some t := fun j hjm hj => hex ⟨j, hjm, hj⟩
              rw [acts_eval_out (fun j hjL => h1 j (hLm j hjL)), acts_eval_out (fun j hjr => h1 j (by simpa using hjr))]
          | const v => rfl
          | global g => rfl
          | func f => rfl
        unfold wpOp
        simp only [ho]
        rw [if_pos (by
          unfold Region.wanted
          cases hgd : o.guard with
          | none => rfl
          | some p =>
            obtain ⟨j, b⟩ := p
            obtain ⟨t, ht, htn, e, he, heD, rfl⟩ := (hspec i o ho).1 him j b hgd
            have hjL := hdepL e he (((hspec i o ho).2.1 e he).2 heD)
            have hv := hGd i o e.on b him ho hgd _ _ (hR e.on hjL (Or.inr ⟨i, him, hiL, by unfold looksToG; rw [ho]; exact Array.any_eq_true'.2 ⟨e, he, by simp [heD]⟩⟩))
            have hev := acts_eval_in hda (a := a) (vs := vs) hjL ht
            rw [if_pos (Nat.lt_of_lt_of_le htn hN), hv] at hev
            have hlt : t < (acts ops a vs L).tmps.size := by rw [acts_size]; exact Nat.lt_of_lt_of_le htn hN
            show (yielded ops (acts ops a vs L).tmps e.on == some b) = true
            simp only [Act.eval] at hev
            unfold yielded
            have hdd : (ops[e.on]?).bind (·.dst) = some t := ht
            rw [hdd]
            simp only [Option.bind_some]
            rw [Array.getD_eq_getD_getElem?, Array.getElem?_eq_getElem hlt, Option.getD_some] at hev
            rw [Array.getElem?_eq_getElem hlt, hev]
            simp)]
        left
        refine Oper.wp_mono ?_ (hg.wp hex)
        rintro a' W' ⟨v, rfl, hEW, hE', hRv⟩
        have e1 : (acts ops a vs L).put o.dst v = acts ops a (upd vs i v) (L ++ [i]) := by
          rw [acts_snoc, acts_congr (vs := upd vs i v) (vs' := vs) (fun j hj => by unfold upd; rw [if_neg (fun e => hiL (by rw [← e]; exact hj))])]
          simp [upd, dstAt, ho]
        rw [e1]
        refine ih (L ++ [i]) (upd vs i v) W' _ (by simpa using hsz) hlist ?_ ?_ ?_ hE' ?_ ?_
        · rw [List.nodup_append]
          exact ⟨hnd, by simp, fun x hx y hy e => by simp at hy; subst hy; subst e; exact hiL hx⟩
        · intro j hj
          rcases List.mem_append.1 hj with h | h
          · exact hLm j h
          · simp at h; omega
        · have h1 : (List.range ops.size).filter (fun j => !(L ++ [i]).contains j) = ((List.range ops.size).filter (fun j => !L.contains j)).filter (fun j => j != i) := by
            rw [List.filter_filter]
            congr 1
            funext j
            simp only [List.contains_append, Bool.not_or]
            rw [Bool.and_comm]
            congr 1
            rw [Bool.eq_iff_iff]; simp [bne]
          have h2 : (((List.range ops.size).filter (fun j => !L.contains j)).filter (fun j => j != i)).length < ((List.range ops.size).filter (fun j => !L.contains j)).length := by
            rw [List.length_filter_lt_length_iff_exists]
            exact ⟨i, by simp [his, hiL], by simp⟩
          rw [h1]; omega
        · intro j hj o' ho' e he hb
          rcases List.mem_append.1 hj with h | h
          · exact List.mem_append_left _ (hcl j h o' ho' e he hb)
          · simp at h; subst h
            rw [ho] at ho'
            cases ho'
            exact List.mem_append_left _ (hdepL e he hb)
        · intro j hj hlive
          rcases List.mem_append.1 hj with h | h
          · have : upd vs i v j = vs j := by unfold upd; rw [if_neg (fun e => hiL (by rw [← e]; exact h))]
            rw [this]
            have hlive' : j ∈ Kp ∨ ∃ c, c < m ∧ c ∉ L ∧ looksToG ops c j = true := hlive.imp id (fun ⟨c, h1, h2, h3⟩ => ⟨c, h1, fun hc => h2 (List.mem_append_left _ hc), h3⟩)
            refine hRE j i _ W W' (hLm j h) him (fun e => hiL (e ▸ h)) ?_ (hR j h hlive') hEW
            unfold outlastsG
            rw [Bool.and_eq_true, Bool.not_eq_true', Bool.or_eq_true]
            refine ⟨?_, ?_⟩
            · cases hx : comesAfter ops m j i
              · rfl
              · exact absurd (comesAfter_mem hcl m j i h hx) hiL
            · rcases hlive with hk | ⟨c, h1, h2, h3⟩
              · exact Or.inl (List.contains_iff_mem.2 hk)
              · refine Or.inr (List.any_eq_true.2 ⟨c, by simpa using h1, ?_⟩)
                rw [h3, Bool.and_true, Bool.and_eq_true, bne_iff_ne, Bool.not_eq_true']
                refine ⟨fun e => by subst e; exact h2 (by simp), ?_⟩
                cases hx : comesAfter ops m i c
                · rfl
                · exact absurd (List.mem_append_left _ (comesAfter_ready hcl ho hdepL m c hx)) h2
          · simp at h; subst h; simpa [upd] using hRv
      · -- the last one
        obtain rfl : i = m := by omega
        have hcov : ∀ j, j < i → j ∈ L := fun j hj => by
          obtain ⟨e, he, hb, rfl⟩ := (hspec i o ho).2.2.2 rfl j hj
          exact hdepL e he hb
        have hf := hfin L vs W hnd hLm hcov hE hR
        rw [if_neg (by omega)] at hf
        refine wpOp_mono (fun a' W' hq => ?_) hf
        refine wpAny_done ?_ hq fuel
        rw [List.eq_nil_iff_forall_not_mem]
        intro j hj
        obtain ⟨h0', o', ho', _⟩ := mem_ready.1 hj
        have hjs := (Array.getElem?_eq_some_iff.1 ho').1
        have : j ∈ L ++ [i] := by
          by_cases hji : j < i
          · exact List.mem_append_left _ (hcov j hji)
          · have : j = i := by omega
            simp [this]
        rw [(hlist j hjs).2 this] at h0'; cases h0'

/-- A region whose operations (but for the last one) only make memory, in whatever order; what holds of the world may depend on what has been done. -/
theorem wp_region_growLG {id : Nat} {w : World} (hm : P.follows .mixedOrders = true) {n : Nat} (hok : okGrowG ops m n = true) (hN : n ≤ a.tmps.size) (hGd : ∀ i o j b, i < m → ops[i]? = some o → o.guard = some (j, b) → ∀ v W, R j v W → v = .bool b) (hG : G [] (fun _ => undef) w.drew) (hRE : ∀ i k v W W', i < m → k < m → i ≠ k → outlastsG ops m Kp i k = true → R i v W → E k W W' → R i v W')
    (hstep : ∀ i o, i < m → ops[i]? = some o → ∀ L vs W, i ∉ L → (∀ j ∈ L, comesAfter ops m j i = false) → G L vs W → (∀ e ∈ o.after, isDataG e = true → R e.on (vs e.on) W) → ∀ ρ, Sees ops a m vs ρ → GivesOp P o ρ W (fun v W' => E i W W' ∧ G (L ++ [i]) (upd vs i v) W' ∧ R i v W'))
    (hend : ∀ L vs W, (∀ j, j < m → j ∈ L) → G L vs W → (∀ j ∈ Kp, j < m → R j (vs j) W) → if m = ops.size then Q .normal (acts ops a vs (List.range m)) W else wpOp P ops Q m (fun a w => Q .normal a w) (acts ops a vs (List.range m)) W) :
    (Code.region id ops true).wp P Q a w := by
  refine wp_region_any hm ?_
  refine wpAny_growG Kp G E R hok hN hGd hRE hstep hend ops.size [] (fun _ => undef) _ _ (by simp) (fun j hj => ?_) List.nodup_nil (fun j hj => by simp at hj) ?_ hG (fun j hj => by simp at hj) (fun j hj => by simp at hj)
  · simp [hj]
  · exact Nat.le_trans (List.length_filter_le _ _) (by simp)
end
end Go.Proofs.YtfjlglefodndjaaDoor

namespace Go.Proofs.YtfjlglefodndjaaDoor
open Go.RowKit

/-! The generator: a list of clauses. -/
def exT : Ex := .mk 1 ⟨#[]⟩ [] 0 0 []
def ClaG (attrs : List Attr) (names : List ByteArray) (kd : Int) (nm : ByteArray) (c : Cla) : Prop := c.kind = kd ∧ c.name = nm ∧ MadeE attrs names 3 c.cond ∧ (kd = 3 ∨ c.unl = []) ∧ AmtOk kd c.amount ∧ CGood c
def FirstOk (attrs : List Attr) (p : ByteArray) (c : Cla) : Prop := c.kind = 2 ∧ c.name = lettersB p 0 ∧ (MadeE attrs [] 3 c.cond ∨ c.cond = exT) ∧ c.unl = [] ∧ c.amount = 0
def GLOk (attrs : List Attr) (p : ByteArray) (l : List Cla) : Prop := (∀ c ∈ l, CGood c ∧ c.name.size ≤ p.size + 2) ∧ ((∃ c, l = [c] ∧ FirstOk attrs p c) ∨ clausesErr attrs l = (0, 0))
def zeroClO : Obj := .cells #[.int .i64 0, .string ⟨#[]⟩, .int .i64 0, .string ⟨#[]⟩, .slice none 0 0, .int .i64 0, .int .i64 0, .slice none 0 0, .slice none 0 0, .int .i64 0] 28 (0, 0)
/-- Only an empty block, or the last row, changes. -/
def GnA (a b k : Nat) (W W' : World) : Prop := (k ≠ a → k ≠ b → Ext W W') ∧ (k = a → ∃ x, Chg [x] W W' ∧ W.heap[x]? = some (.cells #[] 28 (0, 0))) ∧ (k = b → True)
theorem gna {a b k : Nat} {W W' : World} (h : Ext W W') (ha : k ≠ a) (_hb : k ≠ b) : GnA a b k W W' := ⟨fun _ _ => h, fun e => absurd e ha, fun _ => trivial⟩
theorem owns_extG {w w' : World} {base : Nat} {e : TypeId} {size : Nat} {v : Value} {n : Nat} {xs : List Value} (h : w.ownsRow base e size v n xs) (hx : Ext w w') : w'.ownsRow base e size v n xs := owns_chg h (hx.chg []) (by simp)
section
variable {w0 w2 W W' : World} {attrs : List Attr} {names : List ByteArray} {bd : Nat} {N : List Nat} {nm : ByteArray} {L : List Nat} {vs : Nat → Value}
theorem mask_stepO {g : Nat} (h : Chg [bd] W W') (hb : bd ∈ N) : Sub (mask W (N ++ [g])) (mask W' (N ++ [g])) := mask_step h (by simp [hb])
end
theorem owns_lowG {w : World} {base base' : Nat} {e : TypeId} {size : Nat} {v : Value} {n : Nat} {xs : List Value} (h : w.ownsRow base e size v n xs) (hb : base' ≤ base) : w.ownsRow base' e size v n xs := by
  refine ⟨h.1, ?_⟩
  rcases h.2 with h2 | ⟨g, cap, cur, h3, h4, h5⟩
  · exact Or.inl h2
  · exact Or.inr ⟨g, cap, cur, h3, Nat.le_trans hb h4, h5⟩
theorem keep_rows {W w2 : World} {bd : Nat} {M : List Nat} {v v' : Value} (hc : Chg (rowOf v) W w2) (hg : ∀ k, v'.ownBlock = some k → v.ownBlock = some k ∨ W.heap.size ≤ k) : Sub (mask W (bd :: rowOf v ++ M)) (mask w2 (bd :: rowOf v' ++ M)) := by
  refine mask_sub_mask fun k hk hn => ⟨fun hm => ?_, hc.block k hk fun hm => hn (by simp [hm])⟩
  simp only [List.cons_append, List.mem_cons, List.mem_append] at hm hn
  rcases hm with h | h | h
  · exact hn (Or.inl h)
  · rcases hg k (mem_rowOf.1 h) with e | e
    · exact hn (Or.inr (Or.inl (mem_rowOf.2 e)))
    · omega
  · exact hn (Or.inr (Or.inr h))
--BEGIN DEF L2
def gl2R (attrs : List Attr) (names : List ByteArray) (p : ByteArray) (bd lw : Nat) (N : List Nat) (sa : Option Addr) (sn sc : Nat) (kd : Int) (nm : ByteArray) : Nat → Value → World → Prop
  | 0, u, _ => u = .pointer (some ⟨bd, 0, none⟩)
  | 1, u, _ => u = .agg #[.slice sa sn sc]
  | 2, u, _ => u = .string p
  | 3, u, _ => u = .string (lettersB p 0)
  | 4, u, W => ∃ (c : Cla) (cv : ClV), u = .agg #[.int .i64 cv.kind, .string cv.name, .int .i64 cv.x.op, .string cv.x.name, .slice cv.x.aw cv.x.nw cv.x.cw, .int .i64 cv.x.lo, .int .i64 cv.x.hi, .slice cv.x.aa cv.x.na cv.x.ca, .slice cv.au cv.nu cv.cu, .int .i64 cv.amount] ∧ (IsCla (mask W N) c cv ∧ ClaG attrs names kd nm c)
  | 5, u, W => ∃ (c : Cla) (cv : ClV) (g : Nat), u = .slice (some ⟨g, 0, none⟩) 1 1 ∧ (W.heap[g]? = some (.cells cv.cells.toArray 28 (0, 0)) ∧ lw ≤ g ∧ g ≠ bd ∧ IsCla (mask W N) c cv ∧ ClaG attrs names kd nm c)
  | _, u, W => ∃ (c : Cla) (cv : ClV) (g : Nat), u = .slice (some ⟨g, 0, none⟩) 1 1 ∧ (W.heap[g]? = some (.cells cv.cells.toArray 28 (0, 0)) ∧ lw ≤ g ∧ g ≠ bd ∧ IsCla (mask W N) c cv ∧ ClaG attrs names kd nm c)
--END DEF L2
--BEGIN DEF L8
def gl8R (p : ByteArray) (bd : Nat) (sa : Option Addr) (sn sc : Nat) (K : Nat) (nm : ByteArray) (an : Option Addr) (names : List ByteArray) (cn : Nat) : Nat → Value → World → Prop
  | 0, u, _ => u = .pointer (some ⟨bd, 0, none⟩)
  | 1, u, _ => u = .agg #[.slice sa sn sc]
  | 2, u, _ => u = .pointer (some ⟨bd, 0, none⟩)
  | 3, u, _ => ∃ (kd : Int), u = .int .i64 kd ∧ (1 ≤ kd ∧ kd ≤ 10)
  | 4, u, _ => u = .string p
  | 5, u, _ => u = .int .i64 ((K : Nat) : Int)
  | 6, u, _ => u = .string nm
  | 7, u, _ => u = .slice an names.length cn
  | 8, u, _ => u = u ∧ True
  | _, u, _ => u = u ∧ True
--END DEF L8
--BEGIN DEF L9
def gl9R (B lg lc : Nat) (l : List Cla) (cvs : List ClV) (cv : ClV) : Nat → Value → World → Prop
  | 0, u, W => ∃ (g : Nat), u = .slice (some ⟨g, 0, none⟩) 0 0 ∧ (B ≤ g ∧ W.heap[g]? = some (.cells #[] 28 (0, 0)))
  | 1, u, _ => u = .slice (some ⟨lg, 0, none⟩) l.length lc
  | 2, u, W => ∃ (g : Nat) (cp : Nat), u = .slice (some ⟨g, 0, none⟩) l.length cp ∧ (W.ownsRow B 28 10 (.slice (some ⟨g, 0, none⟩) l.length cp) l.length (cvs.flatMap ClV.cells))
  | 3, u, _ => u = .agg #[.int .i64 cv.kind, .string cv.name, .int .i64 cv.x.op, .string cv.x.name, .slice cv.x.aw cv.x.nw cv.x.cw, .int .i64 cv.x.lo, .int .i64 cv.x.hi, .slice cv.x.aa cv.x.na cv.x.ca, .slice cv.au cv.nu cv.cu, .int .i64 cv.amount]
  | 4, u, W => ∃ (y : Nat), u = .slice (some ⟨y, 0, none⟩) 1 1 ∧ (W.heap[y]? = some (.cells cv.cells.toArray 28 (0, 0)))
  | 5, u, W => ∃ (g : Nat) (cp : Nat), u = .slice (some ⟨g, 0, none⟩) (l.length + 1) cp ∧ (W.ownsRow B 28 10 (.slice (some ⟨g, 0, none⟩) (l.length + 1) cp) (l.length + 1) (cvs.flatMap ClV.cells ++ cv.cells))
  | _, u, W => ∃ (g : Nat) (cp : Nat), u = .slice (some ⟨g, 0, none⟩) (l.length + 1) cp ∧ (W.ownsRow B 28 10 (.slice (some ⟨g, 0, none⟩) (l.length + 1) cp) (l.length + 1) (cvs.flatMap ClV.cells ++ cv.cells))
--END DEF L9
theorem clausesErr_zero {s : List Attr} {l : List Cla} (h : (clausesErr s l).2 = 0) : clausesErr s l = (0, 0) := by
  have key : ∀ (f : Nat → Int) (n : Nat), (firstI f n).2 = 0 → firstI f n = (0, 0) := by
    intro f n
    induction n with
    | zero => intro _; rfl
    | succ n ih =>
      intro h
      rw [firstI] at h ⊢
      by_cases h1 : (firstI f n).2 ≠ 0
      · rw [if_pos h1] at h; exact absurd h h1
      · rw [if_neg h1] at h ⊢
        by_cases h2 : f n ≠ 0
        · rw [if_pos h2] at h; exact absurd h h2
        · rw [if_neg h2]
  unfold clausesErr at h ⊢
  split at h
  · rename_i h1; exact absurd h h1
  · split at h
    · simp at h
    · split at h
      · rename_i h1; exact absurd h h1
      · split at h
        · simp at h
        · rename_i h1 h2 h3 h4
          rw [if_neg h1, if_neg h2, if_neg h3, if_neg h4]
          exact key _ _ h
theorem attrs_fits {attrs : List Attr} (h : attrs ∈ schemas) : ∀ x ∈ attrs, x.fits := by
  intro x hx
  have := List.all_eq_true.1 (List.all_eq_true.1 schemas_ok3 attrs h) x hx
  simp only [Bool.and_eq_true, decide_eq_true_eq, List.all_eq_true] at this
  exact ⟨by omega, by omega, fun y hy => by have := this.2.2 y hy; omega⟩
def put10 (w : World) (B : Nat) (v : ClV) : World := (((((((((w.setCell ⟨B, 0, none⟩ (.int .i64 v.kind)).setCell ⟨B, 1, none⟩ (.string v.name)).setCell ⟨B, 2, none⟩ (.int .i64 v.x.op)).setCell ⟨B, 3, none⟩ (.string v.x.name)).setCell ⟨B, 4, none⟩ (.slice v.x.aw v.x.nw v.x.cw)).setCell ⟨B, 5, none⟩ (.int .i64 v.x.lo)).setCell ⟨B, 6, none⟩ (.int .i64 v.x.hi)).setCell ⟨B, 7, none⟩ (.slice v.x.aa v.x.na v.x.ca)).setCell ⟨B, 8, none⟩ (.slice v.au v.nu v.cu)).setCell ⟨B, 9, none⟩ (.int .i64 v.amount)
theorem put10_blk {w : World} {B : Nat} (h : w.heap[B]? = some zeroClO) (v : ClV) : (put10 w B v).heap[B]? = some (.cells v.cells.toArray 28 (0, 0)) := by
  unfold put10
  unfold zeroClO at h
  rw [heap_setCell_same _ _ _ _ _ _ (heap_setCell_same _ _ _ _ _ _ (heap_setCell_same _ _ _ _ _ _ (heap_setCell_same _ _ _ _ _ _ (heap_setCell_same _ _ _ _ _ _ (heap_setCell_same _ _ _ _ _ _ (heap_setCell_same _ _ _ _ _ _ (heap_setCell_same _ _ _ _ _ _ (heap_setCell_same _ _ _ _ _ _ (heap_setCell_same _ _ _ _ _ _ h)))))))))]
  simp [ClV.cells]
theorem put10_chg (w : World) (B : Nat) (v : ClV) : Chg [B] w (put10 w B v) := by
  unfold put10
  repeat (with_reducible (refine Chg.setCell ?_ (Or.inl (by simp)) _))
  exact Chg.refl _ _
end Go.Proofs.YtfjlglefodndjaaDoor

namespace Go.Proofs.YtfjlglefodndjaaDoor

def nameT (s : ByteArray) : Tok := ⟨1, s, 0, 0⟩
def markT (c : UInt8) : Tok := ⟨4, ⟨#[c]⟩, 0, 0⟩
def numT (n : Int) : Tok := ⟨2, ⟨#[]⟩, n, 0⟩
def wTo : ByteArray := ⟨#[116, 111]⟩

/-- Names with commas between them. -/
def listedT : List ByteArray → List Tok
  | [] => []
  | [s] => [nameT s]
  | s :: r => nameT s :: markT 44 :: listedT r

def paren (op aop : Int) : Bool := aop == 8 || (aop == 7 && op != 8)
mutual
/-- The tokens of an expression. -/
def tokE : Ex → List Tok
  | .mk op name words lo hi args =>
    if op = 1 then [nameT wTrue] else if op = 2 then [nameT wFalse] else if op = 3 then [nameT name] else
    if op = 4 then [nameT name, nameT wIn, markT 40] ++ listedT words ++ [markT 41] else
    if op = 5 then [nameT name, nameT wFrom, numT lo, nameT wTo, numT hi] else
    (if op = 6 then [nameT wNot] else []) ++ tokArgs op args
def tokArgs (op : Int) : List Ex → List Tok
  | [] => []
  | a :: r => (if paren op a.op then [markT 40] ++ tokE a ++ [markT 41] else tokE a) ++ tokMore op r
def tokMore (op : Int) : List Ex → List Tok
  | [] => []
  | a :: r => [nameT (if op = 7 then wAnd else wOr)] ++ (if paren op a.op then [markT 40] ++ tokE a ++ [markT 41] else tokE a) ++ tokMore op r
end

/-- From the k-th token on these tokens stand in the list, wherever in the text. -/
def AtT (toks : List Tok) : Nat → List Tok → Prop
  | _, [] => True
  | k, x :: r => (∃ p, toks[k]? = some ⟨x.kind, x.text, x.num, p⟩) ∧ AtT toks (k + 1) r
theorem AtT.append {toks : List Tok} : (l m : List Tok) → (k : Nat) → AtT toks k (l ++ m) ↔ AtT toks k l ∧ AtT toks (k + l.length) m
  | [], m, k => by simp [AtT]
  | x :: r, m, k => by
    simp only [List.cons_append, AtT, AtT.append r m (k + 1), List.length_cons]
    rw [show k + 1 + r.length = k + (r.length + 1) by omega]
    exact and_assoc.symm

theorem accept_at {toks : List Tok} {k : Nat} {kind : Int} {text : ByteArray} {x : Tok} (h : ∃ p, toks[k]? = some ⟨x.kind, x.text, x.num, p⟩) : acceptB toks k kind text = ((x.kind == kind) && decide (x.text = text)) := by
  obtain ⟨p, h⟩ := h; rw [acceptB, h]
theorem nameTok_at {toks : List Tok} {k : Nat} {x : Tok} (h : ∃ p, toks[k]? = some ⟨x.kind, x.text, x.num, p⟩) : nameTokB toks k = ((x.kind == 1) && nameB x.text) := by
  obtain ⟨p, h⟩ := h; rw [nameTokB, h]
theorem text_at {toks : List Tok} {k : Nat} {x : Tok} (h : ∃ p, toks[k]? = some ⟨x.kind, x.text, x.num, p⟩) : textAt toks k = x.text := by
  obtain ⟨p, h⟩ := h; rw [textAt, h]

/-- The fields of a node are those of its operator. -/
def okNode (e : Ex) : Prop :=
  (e.op = 1 ∧ e.name = ⟨#[]⟩ ∧ e.words = [] ∧ e.lo = 0 ∧ e.hi = 0 ∧ e.args = []) ∨ (e.op = 2 ∧ e.name = ⟨#[]⟩ ∧ e.words = [] ∧ e.lo = 0 ∧ e.hi = 0 ∧ e.args = []) ∨
  (e.op = 3 ∧ nameB e.name = true ∧ e.words = [] ∧ e.lo = 0 ∧ e.hi = 0 ∧ e.args = []) ∨ (e.op = 4 ∧ nameB e.name = true ∧ wordsB e.words = true ∧ e.lo = 0 ∧ e.hi = 0 ∧ e.args = []) ∨
  (e.op = 5 ∧ nameB e.name = true ∧ e.words = [] ∧ numberB e.lo = true ∧ numberB e.hi = true ∧ e.lo ≤ e.hi ∧ e.args = []) ∨
  (e.op = 6 ∧ e.name = ⟨#[]⟩ ∧ e.words = [] ∧ e.lo = 0 ∧ e.hi = 0 ∧ e.args.length = 1) ∨
  ((e.op = 7 ∨ e.op = 8) ∧ e.name = ⟨#[]⟩ ∧ e.words = [] ∧ e.lo = 0 ∧ e.hi = 0 ∧ 2 ≤ e.args.length)
mutual
def okTree : Ex → Prop
  | .mk op name words lo hi args => okNode (.mk op name words lo hi args) ∧ okTrees args
def okTrees : List Ex → Prop
  | [] => True
  | e :: r => okTree e ∧ okTrees r
end

theorem nameB_word {s : ByteArray} (h : nameB s = true) : s ≠ wTrue ∧ s ≠ wFalse ∧ s ≠ wNot ∧ s ≠ wIn ∧ s ≠ wFrom ∧ s ≠ wAnd ∧ s ≠ wOr ∧ s ≠ wTo := by
  simp only [nameB, Bool.and_eq_true, Bool.not_eq_true'] at h
  have h := h.2
  refine ⟨?_, ?_, ?_, ?_, ?_, ?_, ?_, ?_⟩ <;> (rintro rfl; revert h; decide +kernel)

/-- What follows: no and, no or (no list, no range either). -/
def Ends (toks : List Tok) (k : Nat) : Prop := acceptB toks k 1 wAnd = false ∧ acceptB toks k 1 wOr = false ∧ acceptB toks k 1 wIn = false ∧ acceptB toks k 1 wFrom = false

theorem list_read {toks : List Tok} : (ws : List ByteArray) → ws ≠ [] → (k f : Nat) → (acc : List ByteArray) → AtT toks k (listedT ws ++ [markT 41]) → (acc ++ ws).length ≤ 12 → (∀ x ∈ ws, nameB x = true) → (acc ++ ws).Nodup → ws.length ≤ f →
    listLoop toks f k acc = (acc ++ ws, 0, k + (listedT ws).length + 1)
  | [], h, _, _, _, _, _, _, _, _ => absurd rfl h
  | [s], _, k, f, acc, hat, hl, hn, hd, hf => by
    obtain ⟨f, rfl⟩ : ∃ g, f = g + 1 := ⟨f - 1, by simp at hf; omega⟩
    simp only [listedT, List.cons_append, List.nil_append, AtT] at hat
    obtain ⟨h1, h2, _⟩ := hat
    have hs := hn s (by simp)
    have hm : s ∉ acc := by
      rw [List.nodup_append] at hd
      exact fun h => hd.2.2 s h s (by simp) rfl
    rw [listLoop, if_neg (by rw [nameTok_at h1]; simp [nameT, hs]), if_neg (by simp at hl; omega), if_neg (by rw [text_at h1]; exact hm), if_neg (by rw [accept_at h2]; simp [markT]), if_pos (by rw [accept_at h2]; simp [markT]), text_at h1]
    simp [listedT, nameT]
  | s :: s2 :: r, _, k, f, acc, hat, hl, hn, hd, hf => by
    obtain ⟨f, rfl⟩ : ∃ g, f = g + 1 := ⟨f - 1, by simp at hf; omega⟩
    simp only [listedT, List.cons_append, AtT] at hat
    obtain ⟨h1, h2, h3⟩ := hat
    have hs := hn s (by simp)
    have hm : s ∉ acc := by
      rw [List.nodup_append] at hd
      exact fun h => hd.2.2 s h s (by simp) rfl
    rw [listLoop, if_neg (by rw [nameTok_at h1]; simp [nameT, hs]), if_neg (by simp at hl; omega), if_neg (by rw [text_at h1]; exact hm), if_pos (by rw [accept_at h2]; simp [markT]), text_at h1]
    have e : acc ++ [(nameT s).text] ++ (s2 :: r) = acc ++ s :: s2 :: r := by simp [nameT]
    rw [list_read (s2 :: r) (by simp) (k + 2) f (acc ++ [(nameT s).text]) h3 (by rw [e]; exact hl) (fun x hx => hn x (List.mem_cons_of_mem _ hx)) (by rw [e]; exact hd) (by simp at hf ⊢; omega), e]
    simp [listedT]
    omega
end Go.Proofs.YtfjlglefodndjaaDoor

namespace Go.Proofs.YtfjlglefodndjaaDoor

/-- The tokens of an argument. -/
def argT (op : Int) (a : Ex) : List Tok := if paren op a.op then [markT 40] ++ tokE a ++ [markT 41] else tokE a
theorem tokArgs_cons (op : Int) (a : Ex) (r : List Ex) : tokArgs op (a :: r) = argT op a ++ tokMore op r := by rw [tokArgs]; rfl
theorem tokMore_cons (op : Int) (a : Ex) (r : List Ex) : tokMore op (a :: r) = nameT (if op = 7 then wAnd else wOr) :: (argT op a ++ tokMore op r) := by rw [tokMore]; simp [argT]

/-- What follows is no word that goes on with an atom. -/
def NoTail (toks : List Tok) (k : Nat) : Prop := acceptB toks k 1 wIn = false ∧ acceptB toks k 1 wFrom = false
theorem noTail_name {toks : List Tok} {k : Nat} {s : ByteArray} (h : ∃ p, toks[k]? = some ⟨(nameT s).kind, (nameT s).text, (nameT s).num, p⟩) (h1 : s ≠ wIn) (h2 : s ≠ wFrom) : NoTail toks k := by
  constructor <;> (rw [accept_at h]; simp [nameT, h1, h2])
theorem noTail_mark {toks : List Tok} {k : Nat} {c : UInt8} (h : ∃ p, toks[k]? = some ⟨(markT c).kind, (markT c).text, (markT c).num, p⟩) : NoTail toks k := by
  constructor <;> (rw [accept_at h]; simp [markT])
theorem wAnd_ne : wAnd ≠ wIn ∧ wAnd ≠ wFrom ∧ wOr ≠ wIn ∧ wOr ≠ wFrom ∧ wOr ≠ wAnd ∧ wNot ≠ wTrue ∧ wNot ≠ wFalse := by decide +kernel
theorem ends_mark {toks : List Tok} {k : Nat} {c : UInt8} (h : ∃ p, toks[k]? = some ⟨(markT c).kind, (markT c).text, (markT c).num, p⟩) : acceptB toks k 1 wAnd = false ∧ acceptB toks k 1 wOr = false := by
  constructor <;> (rw [accept_at h]; simp [markT])

/-- What the tokens of an expression are read as. -/
def Reads (toks : List Tok) (e : Ex) : Prop := ∀ k, AtT toks k (tokE e) → NoTail toks (k + (tokE e).length) →
  (e.op ≠ 7 → e.op ≠ 8 → Gr toks .neg k [] e 0 (k + (tokE e).length)) ∧ (e.op = 7 → acceptB toks (k + (tokE e).length) 1 wAnd = false → Gr toks .ands k [] e 0 (k + (tokE e).length)) ∧
  (e.op = 8 → acceptB toks (k + (tokE e).length) 1 wAnd = false → acceptB toks (k + (tokE e).length) 1 wOr = false → Gr toks .ors k [] e 0 (k + (tokE e).length))

theorem Reads.ands {toks : List Tok} {e : Ex} (h : Reads toks e) (h8 : e.op ≠ 8) {k : Nat} (ha : AtT toks k (tokE e)) (ht : NoTail toks (k + (tokE e).length)) (h1 : acceptB toks (k + (tokE e).length) 1 wAnd = false) : Gr toks .ands k [] e 0 (k + (tokE e).length) := by
  by_cases h7 : e.op = 7
  · exact (h k ha ht).2.1 h7 h1
  · exact Gr.andStop (acc := []) ((h k ha ht).1 h7 h8) h1
theorem Reads.ors {toks : List Tok} {e : Ex} (h : Reads toks e) {k : Nat} (ha : AtT toks k (tokE e)) (ht : NoTail toks (k + (tokE e).length)) (h1 : acceptB toks (k + (tokE e).length) 1 wAnd = false) (h2 : acceptB toks (k + (tokE e).length) 1 wOr = false) : Gr toks .ors k [] e 0 (k + (tokE e).length) := by
  by_cases h8 : e.op = 8
  · exact (h k ha ht).2.2 h8 h1 h2
  · exact Gr.orStop (acc := []) (h.ands h8 ha ht h1) h2
theorem not_mark {toks : List Tok} {k : Nat} {c : UInt8} (h : ∃ p, toks[k]? = some ⟨(markT c).kind, (markT c).text, (markT c).num, p⟩) : acceptB toks k 1 wNot = false := by rw [accept_at h]; simp [markT]
/-- An expression in parentheses. -/
theorem Reads.parens {toks : List Tok} {e : Ex} (h : Reads toks e) {k : Nat} (ha : AtT toks k ([markT 40] ++ tokE e ++ [markT 41])) : Gr toks .neg k [] e 0 (k + ([markT 40] ++ tokE e ++ [markT 41]).length) := by
  rw [AtT.append, AtT.append] at ha
  obtain ⟨⟨h1, h2⟩, h3⟩ := ha
  have ho : ∃ p, toks[k]? = some ⟨(markT 40).kind, (markT 40).text, (markT 40).num, p⟩ := h1.1
  simp only [List.length_singleton] at h2
  have hl : k + ([markT 40] ++ tokE e).length = k + 1 + (tokE e).length := by simp; omega
  rw [hl] at h3
  have hc : ∃ p, toks[k + 1 + (tokE e).length]? = some ⟨(markT 41).kind, (markT 41).text, (markT 41).num, p⟩ := h3.1
  have hg := h.ors h2 (noTail_mark hc) (ends_mark hc).1 (ends_mark hc).2
  have := Gr.negAtom (not_mark ho) (Gr.parenOk (by rw [accept_at ho]; simp [markT]) hg (by rw [accept_at hc]; simp [markT]))
  rw [show k + ([markT 40] ++ tokE e ++ [markT 41]).length = k + 1 + (tokE e).length + 1 by simp; omega]
  exact this
/-- An argument of not, or of and. -/
theorem Reads.argNeg {toks : List Tok} {e : Ex} (h : Reads toks e) {op : Int} (hop : op ≠ 8) {k : Nat} (ha : AtT toks k (argT op e)) (ht : NoTail toks (k + (argT op e).length)) : Gr toks .neg k [] e 0 (k + (argT op e).length) := by
  unfold argT at *
  by_cases hp : paren op e.op = true
  · rw [if_pos hp] at *
    exact h.parens ha
  · rw [if_neg hp] at *
    simp only [paren, Bool.or_eq_true, Bool.and_eq_true, beq_iff_eq, bne_iff_ne, not_or, not_and] at hp
    exact (h k ha ht).1 (fun e7 => hp.2 e7 hop) hp.1
/-- An argument of or. -/
theorem Reads.argAnds {toks : List Tok} {e : Ex} (h : Reads toks e) {k : Nat} (ha : AtT toks k (argT 8 e)) (ht : NoTail toks (k + (argT 8 e).length)) (h1 : acceptB toks (k + (argT 8 e).length) 1 wAnd = false) : Gr toks .ands k [] e 0 (k + (argT 8 e).length) := by
  unfold argT at *
  by_cases hp : paren 8 e.op = true
  · rw [if_pos hp] at *
    exact Gr.andStop (acc := []) (h.parens ha) h1
  · rw [if_neg hp] at *
    simp only [paren, Bool.or_eq_true, Bool.and_eq_true, beq_iff_eq, bne_iff_ne, not_or, not_and] at hp
    exact h.ands hp.1 ha ht h1

/-- Arguments of and. -/
theorem ands_read {toks : List Tok} : (r : List Ex) → (a : Ex) → (∀ x ∈ a :: r, Reads toks x) → (acc : List Ex) → (k : Nat) → AtT toks k (argT 7 a ++ tokMore 7 r) → NoTail toks (k + (argT 7 a ++ tokMore 7 r).length) → acceptB toks (k + (argT 7 a ++ tokMore 7 r).length) 1 wAnd = false →
    Gr toks .ands k acc (joinE 7 (acc ++ a :: r)) 0 (k + (argT 7 a ++ tokMore 7 r).length)
  | [], a, hr, acc, k, ha, ht, h1 => by
    simp only [tokMore, List.append_nil] at *
    exact Gr.andStop ((hr a (by simp)).argNeg (by decide) ha ht) h1
  | b :: r, a, hr, acc, k, ha, ht, h1 => by
    rw [tokMore_cons, if_pos rfl, AtT.append] at ha
    obtain ⟨ha1, hw, ha2⟩ := ha
    have hlen : k + (argT 7 a ++ tokMore 7 (b :: r)).length = k + (argT 7 a).length + 1 + (argT 7 b ++ tokMore 7 r).length := by rw [tokMore_cons]; simp; omega
    rw [hlen] at ht h1 ⊢
    have hg := (hr a (by simp)).argNeg (op := 7) (by decide) ha1 (noTail_name hw wAnd_ne.1 wAnd_ne.2.1)
    have ih := ands_read r b (fun x hx => hr x (List.mem_cons_of_mem _ hx)) (acc ++ [a]) (k + (argT 7 a).length + 1) ha2 ht h1
    refine Gr.andStep hg (by rw [accept_at hw]; simp [nameT]) ?_
    simpa using ih
/-- Arguments of or. -/
theorem ors_read {toks : List Tok} : (r : List Ex) → (a : Ex) → (∀ x ∈ a :: r, Reads toks x) → (acc : List Ex) → (k : Nat) → AtT toks k (argT 8 a ++ tokMore 8 r) → NoTail toks (k + (argT 8 a ++ tokMore 8 r).length) → acceptB toks (k + (argT 8 a ++ tokMore 8 r).length) 1 wAnd = false → acceptB toks (k + (argT 8 a ++ tokMore 8 r).length) 1 wOr = false →
    Gr toks .ors k acc (joinE 8 (acc ++ a :: r)) 0 (k + (argT 8 a ++ tokMore 8 r).length)
  | [], a, hr, acc, k, ha, ht, h1, h2 => by
    simp only [tokMore, List.append_nil] at *
    exact Gr.orStop ((hr a (by simp)).argAnds ha ht h1) h2
  | b :: r, a, hr, acc, k, ha, ht, h1, h2 => by
    rw [tokMore_cons, if_neg (by decide), AtT.append] at ha
    obtain ⟨ha1, hw, ha2⟩ := ha
    have hlen : k + (argT 8 a ++ tokMore 8 (b :: r)).length = k + (argT 8 a).length + 1 + (argT 8 b ++ tokMore 8 r).length := by rw [tokMore_cons]; simp; omega
    rw [hlen] at ht h1 h2 ⊢
    have hg := (hr a (by simp)).argAnds ha1 (noTail_name hw wAnd_ne.2.2.1 wAnd_ne.2.2.2.1) (by rw [accept_at hw]; simp [nameT, wAnd_ne.2.2.2.2.1])
    have ih := ors_read r b (fun x hx => hr x (List.mem_cons_of_mem _ hx)) (acc ++ [a]) (k + (argT 8 a).length + 1) ha2 ht h1 h2
    refine Gr.orStep hg (by rw [accept_at hw]; simp [nameT]) ?_
    simpa using ih
theorem okTrees_mem {l : List Ex} (h : okTrees l) : ∀ x ∈ l, okTree x := by
  induction l with
  | nil => intro x hx; simp at hx
  | cons e r ih =>
    unfold okTrees at h
    intro x hx
    rcases List.mem_cons.1 hx with rfl | hx
    · exact h.1
    · exact ih h.2 x hx
theorem operand_gr {toks : List Tok} {k : Nat} {e : Ex} {n : Nat} (h1 : acceptB toks k 4 ⟨#[40]⟩ = false) (h2 : acceptB toks k 1 wNot = false) (h3 : operandF toks k = (⟨e, 1, 1⟩, 0, n)) : Gr toks .neg k [] e 0 n := by
  have := Gr.negAtom h2 (Gr.operand h1)
  rw [h3] at this
  exact this
theorem name_start {toks : List Tok} {k : Nat} {s : ByteArray} (h : ∃ p, toks[k]? = some ⟨(nameT s).kind, (nameT s).text, (nameT s).num, p⟩) (hs : s ≠ wNot) : acceptB toks k 4 ⟨#[40]⟩ = false ∧ acceptB toks k 1 wNot = false := by
  constructor <;> (rw [accept_at h]; simp [nameT, hs])
theorem reads_ok (toks : List Tok) (m : Nat) : ∀ e : Ex, e.size ≤ m → okTree e → Reads toks e := by
  induction m with
  | zero => intro e h; have := e.size_eq; omega
  | succ m ih =>
    intro e hm hok k ha ht
    have hsz := e.size_eq
    have hargs : ∀ x ∈ e.args, Reads toks x := fun x hx => ih x (by have := sizes_mem hx; omega) (by
      cases e; unfold okTree at hok; exact okTrees_mem hok.2 x hx)
    have hnode : okNode e := by cases e; unfold okTree at hok; exact hok.1
    obtain ⟨op, name, words, lo, hi, args⟩ := e
    simp only [Ex.op, Ex.name, Ex.words, Ex.lo, Ex.hi, Ex.args, okNode] at hnode hargs ⊢
    rcases hnode with ⟨rfl, rfl, rfl, rfl, rfl, rfl⟩ | ⟨rfl, rfl, rfl, rfl, rfl, rfl⟩ | ⟨rfl, hn, rfl, rfl, rfl, rfl⟩ | ⟨rfl, hn, hw, rfl, rfl, rfl⟩ | ⟨rfl, hn, rfl, hl, hh, hlh, rfl⟩ | ⟨rfl, rfl, rfl, rfl, rfl, hl⟩ | ⟨hop, rfl, rfl, rfl, rfl, hl⟩
    · refine ⟨fun _ _ => ?_, fun h => by simp at h, fun h => by simp at h⟩
      simp only [tokE, if_true, AtT] at ha ⊢
      have hs := name_start ha.1 (by decide +kernel)
      exact operand_gr hs.1 hs.2 (by rw [operandF, if_pos (by rw [accept_at ha.1]; simp [nameT])]; rfl)
    · refine ⟨fun _ _ => ?_, fun h => by simp at h, fun h => by simp at h⟩
      have e0 : tokE (.mk 2 ⟨#[]⟩ [] 0 0 []) = [nameT wFalse] := by simp [tokE]
      rw [e0] at ha ⊢
      simp only [AtT] at ha
      have hs := name_start ha.1 (by decide +kernel)
      exact operand_gr hs.1 hs.2 (by rw [operandF, if_neg (by rw [accept_at ha.1]; simp [nameT, (by decide +kernel : wFalse ≠ wTrue)]), if_pos (by rw [accept_at ha.1]; simp [nameT])]; rfl)
    · refine ⟨fun _ _ => ?_, fun h => by simp at h, fun h => by simp at h⟩
      have e0 : tokE (.mk 3 name [] 0 0 []) = [nameT name] := by simp [tokE]
      rw [e0] at ha ht ⊢
      simp only [AtT] at ha
      obtain ⟨n1, n2, n3, _⟩ := nameB_word hn
      have hs := name_start ha.1 n3
      refine operand_gr hs.1 hs.2 ?_
      rw [operandF, if_neg (by rw [accept_at ha.1]; simp [nameT, n1]), if_neg (by rw [accept_at ha.1]; simp [nameT, n2]), if_neg (by rw [nameTok_at ha.1]; simp [nameT, hn]), if_neg (by have := ht.1; simp at this; simp [this]), if_neg (by have := ht.2; simp at this; simp [this]), text_at ha.1]
      rfl
    · refine ⟨fun _ _ => ?_, fun h => by simp at h, fun h => by simp at h⟩
      have e0 : tokE (.mk 4 name words 0 0 []) = [nameT name, nameT wIn, markT 40] ++ (listedT words ++ [markT 41]) := by simp [tokE]
      rw [e0, AtT.append] at ha
      rw [e0] at ht ⊢
      obtain ⟨⟨a1, a2, a3, _⟩, a4⟩ := ha
      obtain ⟨n1, n2, n3, _⟩ := nameB_word hn
      have hs := name_start a1 n3
      simp only [wordsB, Bool.and_eq_true, bne_iff_ne, decide_eq_true_eq, List.all_eq_true] at hw
      have hlist : listF toks (k + 2) = (words, 0, k + ([nameT name, nameT wIn, markT 40] ++ (listedT words ++ [markT 41])).length) := by
        rw [listF, if_pos (by rw [accept_at a3]; simp [markT]), list_read words (fun e => hw.1.1.1 (by rw [e]; rfl)) (k + 3) 14 [] a4 (by simpa using hw.1.1.2) hw.1.2 (by simpa using hw.2) (by have := hw.1.1.2; omega)]
        simp
        omega
      refine operand_gr hs.1 hs.2 ?_
      rw [operandF, if_neg (by rw [accept_at a1]; simp [nameT, n1]), if_neg (by rw [accept_at a1]; simp [nameT, n2]), if_neg (by rw [nameTok_at a1]; simp [nameT, hn]), if_pos (by rw [accept_at a2]; simp [nameT]), hlist, text_at a1]
      rfl
    · refine ⟨fun _ _ => ?_, fun h => by simp at h, fun h => by simp at h⟩
      have e0 : tokE (.mk 5 name [] lo hi []) = [nameT name, nameT wFrom, numT lo, nameT wTo, numT hi] := by simp [tokE]
      rw [e0] at ha ht ⊢
      obtain ⟨a1, a2, ⟨p3, a3⟩, a4, ⟨p5, a5⟩, _⟩ := ha
      obtain ⟨n1, n2, n3, _⟩ := nameB_word hn
      have hs := name_start a1 n3
      have hb1 : boundF toks (k + 2) (-1000000000) = (lo, 0, k + 3) := by
        have hlo : -1000000000 ≤ lo := by simp [numberB] at hl; exact hl.1
        rw [boundF, a3]
        simp [numT, hl, hlo]
      have hb2 : boundF toks (k + 4) lo = (hi, 0, k + 5) := by
        rw [boundF, a5]
        simp [numT, hh, hlh]
      have hint : intervalF toks (k + 2) = (lo, hi, 0, k + 5) := by
        unfold intervalF
        simp only [hb1]
        rw [if_neg (by simp), if_neg (by rw [show (⟨#[116, 111]⟩ : ByteArray) = wTo from rfl, accept_at a4]; simp [nameT])]
        simp only [hb2]
      refine operand_gr hs.1 hs.2 ?_
      rw [operandF, if_neg (by rw [accept_at a1]; simp [nameT, n1]), if_neg (by rw [accept_at a1]; simp [nameT, n2]), if_neg (by rw [nameTok_at a1]; simp [nameT, hn]), if_neg (by rw [accept_at a2]; simp [nameT, (by decide +kernel : wFrom ≠ wIn)]), if_pos (by rw [accept_at a2]; simp [nameT]), hint, text_at a1]
      rfl
    · refine ⟨fun _ _ => ?_, fun h => by simp at h, fun h => by simp at h⟩
      obtain ⟨x, rfl⟩ : ∃ x, args = [x] := by
        match args, hl with
        | [x], _ => exact ⟨x, rfl⟩
      have e0 : tokE (.mk 6 ⟨#[]⟩ [] 0 0 [x]) = nameT wNot :: argT 6 x := by
        rw [tokE]; simp [tokArgs_cons, tokMore]
      rw [e0] at ha ht ⊢
      have hlen : k + (nameT wNot :: argT 6 x).length = k + 1 + (argT 6 x).length := by simp; omega
      rw [hlen] at ht ⊢
      exact Gr.notOk (by rw [accept_at ha.1]; simp [nameT]) ((hargs x (by simp)).argNeg (by decide) ha.2 ht)
    · obtain ⟨a, b, r, rfl⟩ : ∃ a b r, args = a :: b :: r := by
        match args, hl with
        | a :: b :: r, _ => exact ⟨a, b, r, rfl⟩
      rcases hop with rfl | rfl
      · have e0 : tokE (.mk 7 ⟨#[]⟩ [] 0 0 (a :: b :: r)) = argT 7 a ++ tokMore 7 (b :: r) := by rw [tokE]; simp [tokArgs_cons]
        rw [e0] at ha ht ⊢
        exact ⟨fun h => absurd rfl h, fun _ h1 => ands_read (b :: r) a hargs [] k ha ht h1, fun h => by simp at h⟩
      · have e0 : tokE (.mk 8 ⟨#[]⟩ [] 0 0 (a :: b :: r)) = argT 8 a ++ tokMore 8 (b :: r) := by rw [tokE]; simp [tokArgs_cons]
        rw [e0] at ha ht ⊢
        exact ⟨fun _ h => absurd rfl h, fun h => by simp at h, fun _ h1 h2 => ors_read (b :: r) a hargs [] k ha ht h1 h2⟩
/-- The tokens of an expression at the end of a list are read as the expression. -/
theorem run_ok {toks : List Tok} {e : Ex} {k : Nat} (hok : okTree e) (ha : AtT toks k (tokE e)) (hend : toks.length ≤ k + (tokE e).length) : run toks true k [] lvl0 = (partOf e, 0, k + (tokE e).length) := by
  have hno : ∀ kind text, acceptB toks (k + (tokE e).length) kind text = false := fun kind text => by rw [acceptB, List.getElem?_eq_none hend]
  have := Gr.run ((reads_ok toks e.size e (Nat.le_refl _) hok).ors ha ⟨hno _ _, hno _ _⟩ (hno _ _) (hno _ _))
  simpa using this
end Go.Proofs.YtfjlglefodndjaaDoor
