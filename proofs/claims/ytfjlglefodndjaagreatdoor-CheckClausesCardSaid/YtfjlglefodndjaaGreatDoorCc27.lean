/-
  Texts of the claim, joined: Sizes, Reach0, Reach, Expd, CClas.
-/
import Derived.Test.YtfjlglefodndjaaGreatDoorCc24
import Derived.Test.YtfjlglefodndjaaGreatDoorCc07
import Derived.Test.YtfjlglefodndjaaGreatDoorCc19
import Derived.Test.YtfjlglefodndjaaGreatDoorCc18
import Derived.Test.YtfjlglefodndjaaGreatDoorCc14
import Derived.Test.YtfjlglefodndjaaGreatDoorCc20
import Derived.Test.YtfjlglefodndjaaGreatDoorCc13
import Derived.Test.YtfjlglefodndjaaGreatDoorCc26
namespace Go.Proofs.YtfjlglefodndjaaGreatDoor
open Go.RowKit Go.Maps

/-! check.sizes: the sizes of definitions in an order. -/
theorem sizesF_le (l : List Cla) : (o : List Nat) → ∀ s n, sizesF l o s = some n → n ≤ 2001 := by
  intro o
  generalize hm : o.length = m
  induction m generalizing o with
  | zero => intro s n h; rw [List.eq_nil_of_length_eq_zero hm] at h; simp [sizesF] at h
  | succ m ih =>
    intro s n h
    have hne : o ≠ [] := by intro e; rw [e] at hm; cases hm
    obtain ⟨r, i, rfl⟩ : ∃ r i, o = r ++ [i] := ⟨o.dropLast, o.getLast hne, (List.dropLast_concat_getLast hne).symm⟩
    have hr := ih r (by simpa using hm)
    rw [sizesF_snoc] at h
    by_cases e : s = (l.getD i cla0).name
    · rw [if_pos e] at h
      cases h
      exact szE_le hr _
    · rw [if_neg e] at h
      exact hr s n h
theorem natF_step {l : List Cla} {o : List Nat} {i : Nat} (x : Lit) : setF (strF (natF (sizesF l o))) (.string (l.getD i cla0).name.data.toList) (some (.int .i64 (szE (sizesF l o) (l.getD i cla0).cond))) x = strF (natF (sizesF l (o ++ [i]))) x := by
  rw [setF_str]
  cases x <;> try rfl
  rename_i bs
  simp only [strF]
  by_cases e : (⟨bs.toArray⟩ : ByteArray) = (l.getD i cla0).name
  · rw [e, upS_same, natF, sizesF_snoc, if_pos rfl]
    rfl
  · rw [upS_other _ _ e, natF, natF, sizesF_snoc, if_neg e]
theorem wpOp_last {P : Program} {ops : Array Oper} {Q : Exit → Act → World → Prop} {a : Act} {w : World} {i : Nat} {o : Oper} (ho : ops[i]? = some o) (h : wpList P ops Q [o] a w) : wpOp P ops Q i (fun a w => Q .normal a w) a w := by
  unfold wpOp
  rw [ho]
  exact h
def sizV (bf cb coff n c i : Nat) (v : ClV) (z : Nat) : Nat → Value
  | 0 => .map (some bf) | 6 => .map (some bf)
  | 1 => .slice (some ⟨cb, coff, none⟩) n c | 7 => .slice (some ⟨cb, coff, none⟩) n c
  | 2 => .int .i64 i | 8 => .int .i64 i
  | 3 => .pointer (some ⟨cb, coff + i * 10, none⟩) | 9 => .pointer (some ⟨cb, coff + i * 10, none⟩)
  | 4 => .pointer (some ⟨cb, coff + i * 10 + 1, none⟩) | 10 => .pointer (some ⟨cb, coff + i * 10 + 2, none⟩)
  | 5 => .string v.name
  | 11 => .agg #[.int .i64 v.x.op, .string v.x.name, .slice v.x.aw v.x.nw v.x.cw, .int .i64 v.x.lo, .int .i64 v.x.hi, .slice v.x.aa v.x.na v.x.ca]
  | _ => .int .i64 z
def SizG (wr W : World) : Prop := Ext wr W
def SizE (_ : Nat) (W W' : World) : Prop := Ext W W'
def SizR (f : Nat → Value) (j : Nat) (u : Value) (_ : World) : Prop := u = f j
def SizesQ (l : List Cla) (o : List Nat) (w : World) (e : Ending) (w' : World) : Prop := ∃ b, e = .returned (.map (some b)) ∧ MapAt w' 9 b o.length (strF (natF (sizesF l o))) ∧ Ext w w'
set_option maxRecDepth 100000 in
set_option maxHeartbeats 8000000 in
theorem sizes_calls (l : List Cla) (a : Option Addr) (n c : Nat) (o : List Nat) (oa : Option Addr) (oc : Nat) (w : World) (hl : IsClas w l a n c) (_hn : n ≤ 1000000) (ho : IsInts w (ints o) oa o.length oc) (hol : o.length ≤ 1000000) (hlt : ∀ i ∈ o, i < l.length)
    (hsz : ∀ x ∈ l, x.name.size ≤ 1000000000000000 ∧ x.cond.size ≤ 1000000000000000 ∧ x.cond.fits) :
    Calls Tryz.prog 30 #[.slice a n c, .slice oa o.length oc] w (SizesQ l o w) := by
  have HL := Lib.hid hl
  have HN := Lib.hid hl.len
  have HSZ := Lib.hid hsz
  have HO := Lib.hid ho
  have HLT := Lib.hid hlt
  clear hl hsz ho hlt
  have hmm := @run_makeMap Tryz.prog
  have HM0 := Lib.hid (MapAt.made w 9)
  have HX0 := Lib.hid ((Ext.refl w).alloc (.map #[] 0))
  obtain ⟨bf, hbf⟩ : ∃ bf : Nat, bf = w.heap.size := ⟨_, rfl⟩
  rw [← hbf] at HM0
  have HBF := Lib.hid hbf
  go_enter Tryz.func30, Tryz.ntmps30
  go_wp2_with fail
  rw [← hbf]
  clear hbf hmm
  go_loopw [11] (fun i wr => ∃ k : Nat, k ≤ o.length ∧ i = .int .i64 k ∧ MapAt wr 9 bf k (strF (natF (sizesF l (o.take k)))) ∧ Ext w wr) (fun i _ => o.length - (intOf i).toNat)
  case atStart =>
    refine ⟨0, by omega, rfl, HM0.out.congr fun x => ?_, HX0.out⟩
    cases x <;> simp [strF, natF, sizesF]
  case round =>
    obtain ⟨k, hk, rfl, hmap, hx⟩ := hrel
    have HMP := Lib.hid hmap
    have HX := Lib.hid hx
    have hbw := hmap.lt
    clear hmap hx HM0 HX0
    by_cases hlt : k < o.length
    · have t1 : decide ((k : Int) < (o.length : Int)) = true := decide_eq_true (by omega)
      obtain ⟨ob, ooff, rfl, oc1⟩ := (HO.out.mono HX.out.sub).2.2.2 k (by simpa [ints] using hlt)
      obtain ⟨i, hi⟩ : ∃ i, i = o[k] := ⟨_, rfl⟩
      have e1 : (ints o)[k]'(by simpa [ints] using hlt) = (i : Int) := by simp [ints, hi]
      rw [e1] at oc1
      have hil : i < l.length := HLT.out i (by rw [hi]; exact List.getElem_mem hlt)
      have hin : i < n := by have := HN.out; omega
      obtain ⟨cb, coff, v, rfl, hcla, hrow⟩ := (HL.out.ext HX.out).at hil
      obtain ⟨c0, c1, c2, c3, c4, c5, c6, c7, c8, c9⟩ := hrow.ten
      have hszi := HSZ.out _ (List.getElem_mem hil)
      have hns : v.name.size ≤ 1000000000000000 := by rw [hcla.2.1]; exact hszi.1
      have HEX := Lib.hid (show IsEx wr l[i].cond (.agg #[.int .i64 v.x.op, .string v.x.name, .slice v.x.aw v.x.nw v.x.cw, .int .i64 v.x.lo, .int .i64 v.x.hi, .slice v.x.aa v.x.na v.x.ca]) from hcla.2.2.1)
      have HST := Lib.hid (@natF_step l (o.take k) i)
      have e2 : o.take k ++ [i] = o.take (k + 1) := by rw [hi, List.take_succ_eq_append_getElem hlt]
      rw [getD_cla hil, ← hcla.2.1, e2] at HST
      have HSI := Lib.hid hszi
      have ti0 : (0 : Int) ≤ (i : Int) := by omega
      have ti1 : (i : Int) < (n : Int) := by omega
      clear hcla hrow e1 e2 hi hszi
      go_upto_region 5 with fail
      have HCE := Lib.hid (fun (W : World) (hW : Ext wr W) => cexp_calls (sizesF l (o.take k)) (sizesF_le l _) bf k 1000000000000000 l[i].cond _ W HSI.out.2.1 (by omega) HSI.out.2.2 (HMP.out.ext hW) (HEX.out.ext hW))
      obtain ⟨Z, hZ⟩ : ∃ Z, Z = szE (sizesF l (o.take k)) l[i].cond := ⟨_, rfl⟩
      rw [← hZ] at HCE HST
      clear hZ
      refine wp_region_grow (m := 13) [0, 5, 12] (SizG wr) SizE (SizR (sizV bf cb coff n c i v Z)) (by kernel_rfl) (by kernel_rfl) ((Ext.refl wr).drew) ?_ ?_ ?_
      · exact fun _ _ _ _ _ _ _ _ _ h _ => h
      · intro q op hq ho vs W hW hd ρ hρ
        have hq' : q = 0 ∨ q = 1 ∨ q = 2 ∨ q = 3 ∨ q = 4 ∨ q = 5 ∨ q = 6 ∨ q = 7 ∨ q = 8 ∨ q = 9 ∨ q = 10 ∨ q = 11 ∨ q = 12 := by omega
        clear hq
        have o5 : ρ (.tmp 5) = .map (some bf) := hρ.out 5 rfl
        have o0 : ρ (.tmp 0) = .slice (some ⟨cb, coff, none⟩) n c := hρ.out 0 rfl
        have o7 : ρ (.tmp 7) = .int .i64 i := hρ.out 7 rfl
        have i1 := hρ.ins 1 16 (by omega) rfl (Nat.le_of_ble_eq_true rfl)
        have i2 := hρ.ins 2 17 (by omega) rfl (Nat.le_of_ble_eq_true rfl)
        have i3 := hρ.ins 3 18 (by omega) rfl (Nat.le_of_ble_eq_true rfl)
        have i4 := hρ.ins 4 19 (by omega) rfl (Nat.le_of_ble_eq_true rfl)
        have i7 := hρ.ins 7 22 (by omega) rfl (Nat.le_of_ble_eq_true rfl)
        have i8 := hρ.ins 8 23 (by omega) rfl (Nat.le_of_ble_eq_true rfl)
        have i9 := hρ.ins 9 24 (by omega) rfl (Nat.le_of_ble_eq_true rfl)
        have i10 := hρ.ins 10 25 (by omega) rfl (Nat.le_of_ble_eq_true rfl)
        have i6 := hρ.ins 6 21 (by omega) rfl (Nat.le_of_ble_eq_true rfl)
        have i11 := hρ.ins 11 26 (by omega) rfl (Nat.le_of_ble_eq_true rfl)
        have hc := hρ.const
        have hfn := hρ.func
        clear hρ
        have hW : Ext wr W := hW
        have HW := Lib.hid hW
        clear hW
        rcases hq' with rfl | rfl | rfl | rfl | rfl | rfl | rfl | rfl | rfl | rfl | rfl | rfl | rfl
        · cases ho; unfold GivesOp; go_simp; exact ⟨Ext.refl W, rfl⟩
        · cases ho; unfold GivesOp; go_simp; exact ⟨Ext.refl W, rfl⟩
        · cases ho; unfold GivesOp; go_simp; exact ⟨Ext.refl W, rfl⟩
        · cases ho
          have h1 : vs 1 = _ := hd ⟨1, .data⟩ (by simp) rfl
          have h2 : vs 2 = _ := hd ⟨2, .data⟩ (by simp) rfl
          rw [h1] at i1; rw [h2] at i2
          simp only [sizV] at i1 i2
          unfold GivesOp; go_simp; exact ⟨Ext.refl W, rfl⟩
        · cases ho
          have h3 : vs 3 = _ := hd ⟨3, .data⟩ (by simp) rfl
          rw [h3] at i3
          simp only [sizV] at i3
          unfold GivesOp; go_simp; exact ⟨Ext.refl W, rfl⟩
        · cases ho
          have h4 : vs 4 = _ := hd ⟨4, .data⟩ (by simp) rfl
          rw [h4] at i4
          simp only [sizV] at i4
          have g1 := HW.out.cell c1
          unfold GivesOp; go_simp; exact ⟨Ext.refl W, rfl⟩
        · cases ho; unfold GivesOp; go_simp; exact ⟨Ext.refl W, rfl⟩
        · cases ho; unfold GivesOp; go_simp; exact ⟨Ext.refl W, rfl⟩
        · cases ho; unfold GivesOp; go_simp; exact ⟨Ext.refl W, rfl⟩
        · cases ho
          have h1 : vs 7 = _ := hd ⟨7, .data⟩ (by simp) rfl
          have h2 : vs 8 = _ := hd ⟨8, .data⟩ (by simp) rfl
          rw [h1] at i7; rw [h2] at i8
          simp only [sizV] at i7 i8
          unfold GivesOp; go_simp; exact ⟨Ext.refl W, rfl⟩
        · cases ho
          have h3 : vs 9 = _ := hd ⟨9, .data⟩ (by simp) rfl
          rw [h3] at i9
          simp only [sizV] at i9
          unfold GivesOp; go_simp; exact ⟨Ext.refl W, rfl⟩
        · cases ho
          have h4 : vs 10 = _ := hd ⟨10, .data⟩ (by simp) rfl
          rw [h4] at i10
          simp only [sizV] at i10
          have g2 := HW.out.cell c2
          have g3 := HW.out.cell c3
          have g4 := HW.out.cell c4
          have g5 := HW.out.cell c5
          have g6 := HW.out.cell c6
          have g7 := HW.out.cell c7
          unfold GivesOp; go_simp; exact ⟨Ext.refl W, rfl⟩
        · cases ho
          have h6 : vs 6 = _ := hd ⟨6, .data⟩ (by simp) rfl
          have h11 : vs 11 = _ := hd ⟨11, .data⟩ (by simp) rfl
          rw [h6] at i6; rw [h11] at i11
          simp only [sizV] at i6 i11
          unfold GivesOp
          go_simp
          refine (HCE.out W HW.out).mono ?_
          rintro r w3 ⟨rfl, hx3⟩
          exact ⟨_, rfl, hx3, HW.out.trans hx3, rfl⟩ 
      · intro vs W hW hR
        rw [if_neg (by decide +kernel)]
        have h0 : vs 0 = _ := hR 0 (by simp) (by omega)
        have h5 : vs 5 = _ := hR 5 (by simp) (by omega)
        have h12 : vs 12 = _ := hR 12 (by simp) (by omega)
        simp only [sizV] at h0 h5 h12
        simp only [acts, dstAt, List.range, List.range.loop, List.foldl_cons, List.foldl_nil, h0, h5, h12]
        have hmx := HMP.out.ext hW
        refine wpOp_last rfl ?_
        change wpList _ _ _ [⟨none, .mapUpdate _ (.tmp 15) (.tmp 20) (.tmp 27), _, _, _, none⟩] _ _
        go_simp
        refine wpList_map_put _ rfl _ _ _ 65 rfl 9 3 keyedStr uMapSI bf k _ rfl hmx ?c3 _ _ _ rfl rfl (keyStr hns) trivial ?_
        case c3 => unfold maxLen; omega
        intro w1 hm1 hc1
        have HM1 := Lib.hid (hm1.congr HST.out)
        have HX1 := Lib.hid (hc1.ext (HX.out.trans hW) (by rw [← HBF.out]; simp))
        clear hm1 hc1
        go_wp2_with fail
        go_roundw
        case rel => exact ⟨k + 1, by omega, by go_num, HM1.out, HX1.out⟩
        case measure => simp [intOf]; omega
    · have t1 : decide ((k : Int) < (o.length : Int)) = false := decide_eq_false (by omega)
      have HGE := Lib.hid (show MapAt wr 9 bf o.length (strF (natF (sizesF l o))) by have := HMP.out; rw [List.take_of_length_le (by omega)] at this; exact this.more hk)
      go_wp2_with fail
      go_ret
      exact ⟨bf, rfl, HGE.out, HX.out⟩
end Go.Proofs.YtfjlglefodndjaaGreatDoor

namespace Go.Proofs.YtfjlglefodndjaaGreatDoor
open Go.RowKit Go.Maps

/-! check.reached: the plain invariants. -/
def nmsOf (u : List Cla) : List ByteArray := u.map (·.name)
def ClosedE (l u : List Cla) (x : Ex) : Prop := ∀ s ∈ namesE x, ∀ d, defAt l s = some d → s ∈ nmsOf u
structure RP (l : List Cla) (e : Ex) (u : List Cla) (xs : List Ex) : Prop where
  defs : ∀ c ∈ u, c.kind = 1 ∧ ∃ d, defAt l c.name = some d ∧ c.cond = (l.getD d cla0).cond ∧ Reach l e d
  names : (nmsOf u).Nodup
  top : e ∈ xs ∨ ClosedE l u e
  closed : ∀ c ∈ u, c.cond ∈ xs ∨ ClosedE l u c.cond
  stack : ∀ x ∈ xs, x = e ∨ ∃ c ∈ u, c.cond = x
  slen : xs.length ≤ u.length + 1
structure RPi (l : List Cla) (e : Ex) (u : List Cla) (xs : List Ex) (x : Ex) (ns : List ByteArray) (j : Nat) : Prop where
  defs : ∀ c ∈ u, c.kind = 1 ∧ ∃ d, defAt l c.name = some d ∧ c.cond = (l.getD d cla0).cond ∧ Reach l e d
  names : (nmsOf u).Nodup
  top : e ∈ xs ∨ e = x ∨ ClosedE l u e
  closed : ∀ c ∈ u, c.cond ∈ xs ∨ c.cond = x ∨ ClosedE l u c.cond
  stack : ∀ y ∈ xs, y = e ∨ ∃ c ∈ u, c.cond = y
  cur : x = e ∨ ∃ c ∈ u, c.cond = x
  done : ∀ i (h : i < ns.length), i < j → ∀ d, defAt l ns[i] = some d → ns[i] ∈ nmsOf u
  slen : xs.length ≤ u.length
theorem RP.start (l : List Cla) (e : Ex) : RP l e [] [e] := ⟨by simp, by simp [nmsOf], Or.inl (by simp), by simp, fun x hx => Or.inl (by simpa using hx), by simp⟩
theorem RP.pop {l : List Cla} {e : Ex} {u : List Cla} {xs : List Ex} {x : Ex} (h : RP l e u (xs ++ [x])) (ns : List ByteArray) : RPi l e u xs x ns 0 := by
  refine ⟨h.defs, h.names, ?_, fun c hc => ?_, fun y hy => h.stack y (by simp [hy]), h.stack x (by simp), fun i _ h => by omega, by have := h.slen; simpa using this⟩
  · rcases h.top with h1 | h1
    · rcases List.mem_append.1 h1 with h2 | h2
      · exact Or.inl h2
      · exact Or.inr (Or.inl (by simpa using h2))
    · exact Or.inr (Or.inr h1)
  · rcases h.closed c hc with h1 | h1
    · rcases List.mem_append.1 h1 with h2 | h2
      · exact Or.inl h2
      · exact Or.inr (Or.inl (by simpa using h2))
    · exact Or.inr (Or.inr h1)
theorem RPi.end {l : List Cla} {e : Ex} {u : List Cla} {xs : List Ex} {x : Ex} {ns : List ByteArray} {j : Nat} (h : RPi l e u xs x ns j) (hj : ns.length ≤ j) (hns : ∀ s, s ∈ ns ↔ s ∈ namesE x) : RP l e u xs := by
  have hx : ClosedE l u x := fun s hs d hd => by
    obtain ⟨i, hi, rfl⟩ := List.mem_iff_getElem.1 ((hns s).2 hs)
    exact h.done i hi (by omega) d hd
  refine ⟨h.defs, h.names, ?_, fun c hc => ?_, h.stack, Nat.le_succ_of_le h.slen⟩
  · rcases h.top with h1 | rfl | h1
    · exact Or.inl h1
    · exact Or.inr hx
    · exact Or.inr h1
  · rcases h.closed c hc with h1 | h1 | h1
    · exact Or.inl h1
    · exact Or.inr (h1 ▸ hx)
    · exact Or.inr h1
theorem RPi.skip {l : List Cla} {e : Ex} {u : List Cla} {xs : List Ex} {x : Ex} {ns : List ByteArray} {j : Nat} (h : RPi l e u xs x ns j) (hj : j < ns.length) (hs : defAt l ns[j] = none ∨ ns[j] ∈ nmsOf u) : RPi l e u xs x ns (j + 1) :=
  ⟨h.defs, h.names, h.top, h.closed, h.stack, h.cur, fun i hi hij d hd => by
    by_cases e' : i = j
    · subst e'
      rcases hs with h1 | h1
      · rw [h1] at hd; cases hd
      · exact h1
    · exact h.done i hi (by omega) d hd, h.slen⟩
theorem nmsOf_snoc (u : List Cla) (c : Cla) : nmsOf (u ++ [c]) = nmsOf u ++ [c.name] := by simp [nmsOf]
theorem RPi.step {l : List Cla} {e : Ex} {u : List Cla} {xs : List Ex} {x : Ex} {ns : List ByteArray} {j : Nat} (h : RPi l e u xs x ns j) (hj : j < ns.length) (hns : ∀ s, s ∈ ns ↔ s ∈ namesE x) {d : Nat} (hd : defAt l ns[j] = some d) (hn : ns[j] ∉ nmsOf u) {c : Cla} (hk : c.kind = 1) (hnm : c.name = ns[j]) (hc : c.cond = (l.getD d cla0).cond) :
    RPi l e (u ++ [c]) (xs ++ [c.cond]) x ns (j + 1) := by
  have up : ∀ y, ClosedE l u y → ClosedE l (u ++ [c]) y := fun y hy s hs d hd => by rw [nmsOf_snoc]; exact List.mem_append_left _ (hy s hs d hd)
  refine ⟨fun c' hc' => ?_, ?_, ?_, fun c' hc' => ?_, fun y hy => ?_, ?_, fun i hi hij d' hd' => ?_, by have := h.slen; simp; omega⟩
  · rcases List.mem_append.1 hc' with h1 | h1
    · exact h.defs c' h1
    · obtain rfl : c' = c := by simpa using h1
      refine ⟨hk, d, by rw [hnm]; exact hd, hc, ?_⟩
      have hm := (hns _).1 (List.getElem_mem hj)
      rcases h.cur with rfl | ⟨c2, h2, rfl⟩
      · exact Reach.base hm hd
      · obtain ⟨_, d2, g1, g2, g3⟩ := h.defs c2 h2
        exact Reach.step g3 (g2 ▸ hm) hd
  · rw [nmsOf_snoc, List.nodup_append]
    refine ⟨h.names, by simp, fun a ha b hb e => ?_⟩
    simp only [List.mem_singleton] at hb
    subst e hb
    exact hn (hnm ▸ ha)
  · rcases h.top with h1 | h1 | h1
    · exact Or.inl (List.mem_append_left _ h1)
    · exact Or.inr (Or.inl h1)
    · exact Or.inr (Or.inr (up _ h1))
  · rcases List.mem_append.1 hc' with h1 | h1
    · rcases h.closed c' h1 with h2 | h2 | h2
      · exact Or.inl (List.mem_append_left _ h2)
      · exact Or.inr (Or.inl h2)
      · exact Or.inr (Or.inr (up _ h2))
    · obtain rfl : c' = c := by simpa using h1
      exact Or.inl (by simp)
  · rcases List.mem_append.1 hy with h1 | h1
    · rcases h.stack y h1 with h2 | ⟨c2, h2, h3⟩
      · exact Or.inl h2
      · exact Or.inr ⟨c2, List.mem_append_left _ h2, h3⟩
    · exact Or.inr ⟨c, by simp, (List.mem_singleton.1 h1).symm⟩
  · rcases h.cur with h1 | ⟨c2, h2, h3⟩
    · exact Or.inl h1
    · exact Or.inr ⟨c2, List.mem_append_left _ h2, h3⟩
  · rw [nmsOf_snoc]
    by_cases e' : i = j
    · subst e'; simp [hnm]
    · exact List.mem_append_left _ (h.done i hi (by omega) d' hd')
theorem RP.used {l : List Cla} {e : Ex} {u : List Cla} (h : RP l e u []) : Used l e u :=
  ⟨h.defs, h.names, fun s hs d hd => by rcases h.top with h1 | h1; · simp at h1
                                        · exact h1 s hs d hd,
   fun c hc s hs d hd => by rcases h.closed c hc with h1 | h1; · simp at h1
                            · exact h1 s hs d hd⟩
theorem defs_len {l : List Cla} {e : Ex} {u : List Cla} (h1 : ∀ c ∈ u, c.kind = 1 ∧ ∃ d, defAt l c.name = some d ∧ c.cond = (l.getD d cla0).cond ∧ Reach l e d) (h2 : (nmsOf u).Nodup) : u.length ≤ l.length := by
  have key := nodup_le (u.map fun c => (defAt l c.name).getD 0) (List.range l.length) ?_ ?_
  · simpa using key
  · rw [List.Nodup, List.pairwise_map]
    rw [List.Nodup, nmsOf, List.pairwise_map] at h2
    refine h2.imp_of_mem fun {a b} ha hb hne he => ?_
    obtain ⟨_, d, g2, _⟩ := h1 a ha
    obtain ⟨_, d', g3, _⟩ := h1 b hb
    rw [g2, g3] at he
    simp only [Option.getD_some] at he
    subst he
    exact hne ((defAt_name g2).1.symm.trans (defAt_name g3).1)
  · intro x hx
    obtain ⟨c, hc, rfl⟩ := List.mem_map.1 hx
    obtain ⟨_, d, g2, _⟩ := h1 c hc
    rw [g2]
    exact List.mem_range.2 (defAt_lt g2)

/-! What it keeps in memory. -/
structure RcS (w : World) (bs : Nat) (lv xv : Value) (u : List Cla) (vs : List ClV) (xs : List Ex) (evs : List ExV) (wr : World) : Prop where
  ext : Ext w wr
  cla : ClasR w u vs
  own : wr.ownsRow w.heap.size 38 10 lv u.length (vs.flatMap ClV.cells)
  ex : ExsR w xs evs
  xown : wr.ownsRow w.heap.size 29 6 xv xs.length (evs.flatMap ExV.cells)
  seen : MapAt wr 9 bs u.length (strF (memF fun s => s ∈ nmsOf u))
  bsn : w.heap.size ≤ bs
  d1 : ∀ g, lv.ownBlock = some g → g ≠ bs
  d2 : ∀ g, xv.ownBlock = some g → g ≠ bs
  d3 : ∀ g, lv.ownBlock = some g → xv.ownBlock ≠ some g
theorem RcS.extd {w : World} {bs : Nat} {lv xv : Value} {u : List Cla} {vs : List ClV} {xs : List Ex} {evs : List ExV} {wr wr' : World} (h : RcS w bs lv xv u vs xs evs wr) (hx : Ext wr wr') : RcS w bs lv xv u vs xs evs wr' :=
  { h with ext := h.ext.trans hx, own := owns_chg h.own (hx.chg []) (by simp), xown := owns_chg h.xown (hx.chg []) (by simp), seen := h.seen.ext hx }
theorem flat_take {xs : List ExV} {x : ExV} : ((xs ++ [x]).flatMap ExV.cells).take (xs.length * 6) = xs.flatMap ExV.cells := by
  rw [List.flatMap_append, List.take_left']
  clear x
  induction xs with
  | nil => rfl
  | cons y r ih => simp only [List.flatMap_cons, List.length_append, exV_len, ih, List.length_cons]; omega
theorem owns_drop {w : World} {base : Nat} {g n cap : Nat} {xs : List ExV} {x : ExV} (hn : n = xs.length) (h : w.ownsRow base 29 6 (.slice (some ⟨g, 0, none⟩) (n + 1) cap) (n + 1) ((xs ++ [x]).flatMap ExV.cells)) :
    w.ownsRow base 29 6 (.slice (some ⟨g, 0, none⟩) n cap) n (xs.flatMap ExV.cells) := by
  obtain ⟨h1, h2⟩ := h
  have hl : (xs.flatMap ExV.cells).length = n * 6 := by
    subst hn
    clear h1 h2 x
    induction xs with
    | nil => rfl
    | cons y r ih => simp only [List.flatMap_cons, List.length_append, exV_len, ih, List.length_cons]; omega
  refine ⟨hl, Or.inr ?_⟩
  rcases h2 with ⟨h3, _⟩ | ⟨g', cap', cur, h3, h4, h5, h6, h7, h8, h9⟩
  · simp at h3
  · simp only [Value.slice.injEq, Option.some.injEq, Addr.mk.injEq, and_true, true_and] at h3
    obtain ⟨rfl, rfl⟩ := h3
    refine ⟨g, cap, cur, rfl, h4, h5, by omega, h7, h8, ?_⟩
    have e1 : cur.toList.take (n * 6) = (cur.toList.take ((n + 1) * 6)).take (n * 6) := by rw [List.take_take]; congr 1; omega
    rw [e1, h9, hn, flat_take]
/-- The last expression's cells. -/
theorem owns_last {w : World} {base : Nat} {n : Nat} {v : Value} {xs : List ExV} {x : ExV} (hn : n = xs.length) (h : w.ownsRow base 29 6 v (n + 1) ((xs ++ [x]).flatMap ExV.cells)) :
    ∃ g cap, v = .slice (some ⟨g, 0, none⟩) (n + 1) cap ∧ w.cell? ⟨g, n * 6, none⟩ = some (.int .i64 x.op) ∧ w.cell? ⟨g, n * 6 + 1, none⟩ = some (.string x.name) ∧ w.cell? ⟨g, n * 6 + 2, none⟩ = some (.slice x.aw x.nw x.cw) ∧ w.cell? ⟨g, n * 6 + 3, none⟩ = some (.int .i64 x.lo) ∧ w.cell? ⟨g, n * 6 + 4, none⟩ = some (.int .i64 x.hi) ∧ w.cell? ⟨g, n * 6 + 5, none⟩ = some (.slice x.aa x.na x.ca) := by
  subst hn
  have e0 : xs.length + 1 = (xs ++ [x]).length := by simp
  rw [e0] at h
  obtain ⟨a, c, rfl, hr⟩ := IsRows.of_owns exV_len h
  obtain ⟨b, off, rfl, hc⟩ := hr.2.2.2 xs.length (by simp)
  have ha : off = 0 := by
    obtain ⟨_, h2⟩ := h
    rcases h2 with ⟨h3, _⟩ | ⟨g', cap', cur, h3, _⟩
    · simp at h3
    · simp only [Value.slice.injEq, Option.some.injEq, Addr.mk.injEq, and_true] at h3
      exact h3.1.2
  subst ha
  have key : ∀ j (hj : j < 6), w.cell? ⟨b, xs.length * 6 + j, none⟩ = some (x.cells[j]'(by rw [exV_len]; exact hj)) := fun j hj => by
    have := hc j (by rw [exV_len]; exact hj)
    simpa using this
  refine ⟨b, c, by simp, ?_, ?_, ?_, ?_, ?_, ?_⟩
  · exact key 0 (by omega)
  · exact key 1 (by omega)
  · exact key 2 (by omega)
  · exact key 3 (by omega)
  · exact key 4 (by omega)
  · exact key 5 (by omega)
theorem owns_bounds {w : World} {base : Nat} {e : TypeId} {size g n cap : Nat} {xs : List Value} (h : w.ownsRow base e size (.slice (some ⟨g, 0, none⟩) n cap) n xs) : base ≤ g ∧ n ≤ cap ∧ g < w.heap.size ∧ cap ≤ maxLen := by
  obtain ⟨_, h2⟩ := h
  rcases h2 with ⟨h3, _⟩ | ⟨g', cap', cur, h3, h4, h5, h6, h7, _⟩
  · simp at h3
  · simp only [Value.slice.injEq, Option.some.injEq, Addr.mk.injEq, and_true, true_and] at h3
    obtain ⟨rfl, rfl⟩ := h3
    exact ⟨h4, h6, blk_lt h5, h7⟩
theorem RcS.step {w W w3 w8 w9 : World} {bs : Nat} {lv xv lv' xv' : Value} {u : List Cla} {vs : List ClV} {xs : List Ex} {evs : List ExV} (h : RcS w bs lv xv u vs xs evs W) {c : Cla} {cv : ClV} (hcv : IsCla w c cv) {x : Ex} {ev : ExV} (hev : IsEx w x ev.val) {F : Lit → Option Value}
    (hm : MapAt w3 9 bs (u.length + 1) F) (hF : ∀ y, F y = strF (memF fun s => s ∈ nmsOf (u ++ [c])) y) (hc3 : Chg [bs] W w3)
    (ho8 : w8.ownsRow w.heap.size 38 10 lv' (u.length + 1) (vs.flatMap ClV.cells ++ cv.cells)) (hc8 : Chg (rowOf lv) w3 w8) (hw8 : ∀ k, lv'.ownBlock = some k → lv.ownBlock = some k ∨ w3.heap.size ≤ k)
    (ho9 : w9.ownsRow w.heap.size 29 6 xv' (xs.length + 1) (evs.flatMap ExV.cells ++ ev.cells)) (hc9 : Chg (rowOf xv) w8 w9) (hw9 : ∀ k, xv'.ownBlock = some k → xv.ownBlock = some k ∨ w8.heap.size ≤ k) :
    RcS w bs lv' xv' (u ++ [c]) (vs ++ [cv]) (xs ++ [x]) (evs ++ [ev]) w9 := by
  have s3 := hc3.size
  have s8 := hc8.size
  have hbl := hm.lt
  have xlt : ∀ q, xv.ownBlock = some q → q < W.heap.size := fun q hq => (h.xown.lt q hq).2
  have llt : ∀ q, lv.ownBlock = some q → q < W.heap.size := fun q hq => (h.own.lt q hq).2
  exact {
    ext := hc9.ext (hc8.ext (hc3.ext h.ext (by simpa using h.bsn)) fun q hq => (h.own.lt q (mem_rowOf.1 hq)).1) fun q hq => (h.xown.lt q (mem_rowOf.1 hq)).1
    cla := h.cla.snoc hcv
    own := by
      have := owns_chg ho8 hc9 fun q hq hm => by
        have h2 := mem_rowOf.1 hm
        rcases hw8 q hq with h1 | h1
        · exact h.d3 q h1 h2
        · have := xlt q h2; omega
      simpa using this
    ex := h.ex.snoc hev
    xown := by simpa using ho9
    seen := by
      have := ((hm.chg hc8 fun hm => h.d1 bs (mem_rowOf.1 hm) rfl).chg hc9 fun hm => h.d2 bs (mem_rowOf.1 hm) rfl).congr hF
      simpa using this
    bsn := h.bsn
    d1 := fun q hq e => by
      rcases hw8 q hq with h1 | h1
      · exact h.d1 q h1 e
      · omega
    d2 := fun q hq e => by
      rcases hw9 q hq with h1 | h1
      · exact h.d2 q h1 e
      · omega
    d3 := fun q hq hq2 => by
      have h8 := (ho8.lt q hq).2
      rcases hw9 q hq2 with h2 | h2
      · rcases hw8 q hq with h1 | h1
        · exact h.d3 q h1 h2
        · have := xlt q h2; omega
      · omega }
theorem owns_new (w : World) (arr : Array Value) (e : TypeId) {size n base : Nat} (hs : arr.size = n * size) (hn : n ≤ maxLen) (hb : base ≤ w.heap.size) : (w.alloc (.cells arr e)).ownsRow base e size (.slice (some ⟨w.heap.size, 0, none⟩) n n) n arr.toList :=
  ⟨by simpa using hs, Or.inr ⟨w.heap.size, n, arr, rfl, hb, alloc_new w _, Nat.le_refl _, hn, hs, by rw [List.take_of_length_le (by simp; omega)]⟩⟩
end Go.Proofs.YtfjlglefodndjaaGreatDoor

namespace Go.Proofs.YtfjlglefodndjaaGreatDoor
open Go.RowKit Go.Maps

/-! check.reached: the walk. -/
theorem zeroUnit (w : World) : (zeroValue 86).run Tryz.prog w = .ok (.agg #[]) w := by kernel_rfl
def ReachQ (l : List Cla) (e : Ex) (w : World) (r : Ending) (w' : World) : Prop := ∃ u a n c, r = .returned (.slice a n c) ∧ IsClas w' u a n c ∧ Used l e u ∧ Ext w w'
/-- The outer loop. -/
def RL1 (w : World) (l : List Cla) (e : Ex) (bs m : Nat) (lv xv : Value) (wr : World) : Prop := ∃ u vs xs evs, m = 2 * (l.length - u.length) + xs.length ∧ RcS w bs lv xv u vs xs evs wr ∧ RP l e u xs
/-- The inner loop. -/
def RL2 (w : World) (l : List Cla) (e x : Ex) (ns : List ByteArray) (na : Option Addr) (nc bs m : Nat) (lv xv i : Value) (wr : World) : Prop := ∃ u vs xs evs j, i = .int .i64 (j : Nat) ∧ j ≤ ns.length ∧ 2 * (l.length - u.length) + xs.length ≤ m ∧ RcS w bs lv xv u vs xs evs wr ∧ RPi l e u xs x ns j ∧ IsStrs wr ns na ns.length nc ∧ (∀ b off, na = some ⟨b, off, none⟩ → b ≠ bs ∧ some b ≠ lv.ownBlock ∧ some b ≠ xv.ownBlock)
theorem exs_last {w : World} {xs : List Ex} {evs : List ExV} (h : ExsR w xs evs) (hne : xs ≠ []) : ∃ xs' x evs' v, xs = xs' ++ [x] ∧ evs = evs' ++ [v] ∧ ExsR w xs' evs' ∧ IsEx w x v.val := by
  obtain ⟨xs', x, rfl⟩ : ∃ r i, xs = r ++ [i] := ⟨xs.dropLast, xs.getLast hne, (List.dropLast_concat_getLast hne).symm⟩
  have hne2 : evs ≠ [] := by intro e0; have := h.1; rw [e0] at this; simp at this
  obtain ⟨evs', v, rfl⟩ : ∃ r i, evs = r ++ [i] := ⟨evs.dropLast, evs.getLast hne2, (List.dropLast_concat_getLast hne2).symm⟩
  have hl : xs'.length = evs'.length := by have := h.1; simpa using this
  refine ⟨xs', x, evs', v, rfl, rfl, ⟨hl, fun i h1 h2 => ?_⟩, ?_⟩
  · have := h.2 i (by simp; omega) (by simp; omega)
    rwa [List.getElem_append_left h1, List.getElem_append_left h2] at this
  · have := h.2 xs'.length (by simp) (by simp; omega)
    rw [List.getElem_append_right (Nat.le_refl _)] at this
    simpa [hl] using this
theorem to_mask_nil (w : World) : Sub w (mask w []) := fun p v h => by rw [mask_cell, if_neg (by simp)]; exact h
theorem cond_of {l u : List Cla} {e : Ex} (h1 : ∀ c ∈ u, c.kind = 1 ∧ ∃ d, defAt l c.name = some d ∧ c.cond = (l.getD d cla0).cond ∧ Reach l e d) (hsz : ∀ x ∈ l, x.cond.size ≤ 100000 ∧ x.cond.fits) {c : Cla} (hc : c ∈ u) : c.cond.size ≤ 100000 ∧ c.cond.fits := by
  obtain ⟨_, d, hd, h2, _⟩ := h1 c hc
  rw [h2, getD_cla (defAt_lt hd)]
  exact hsz _ (List.getElem_mem _)
end Go.Proofs.YtfjlglefodndjaaGreatDoor

namespace Go.Proofs.YtfjlglefodndjaaGreatDoor
open Go.RowKit Go.Maps

/-! check.Expanded. -/
--BEGIN DEF E1
def expd1R (l : List Cla) (e : Ex) (aw : Option Addr) (nw cw : Nat) (aa : Option Addr) (na ca : Nat) (a : Option Addr) (n c : Nat) : Nat → Value → World → Prop
  | 0, u, _ => u = .slice a n c
  | 1, u, W => ∃ bd, u = .map (some bd) ∧ DefsAt W l bd n
  | 2, u, _ => u = .agg #[.int .i64 e.op, .string e.name, .slice aw nw cw, .int .i64 e.lo, .int .i64 e.hi, .slice aa na ca]
  | 3, u, W => ∃ us ua un uc, u = .slice ua un uc ∧ (IsClas W us ua un uc ∧ Used l e us)
  | _, u, W => ∃ us ua un uc, u = .slice ua un uc ∧ (IsClas W us ua un uc ∧ Used l e us)
--END DEF E1
--BEGIN DEF E5
def expd5R (_l : List Cla) (e : Ex) (aw : Option Addr) (nw cw : Nat) (aa : Option Addr) (na ca : Nat) (_a : Option Addr) (_n _c : Nat) (us : List Cla) (ua : Option Addr) (un uc : Nat) (oa : Option Addr) (oc : Nat) (o : List Nat) (R : Nat) : Nat → Value → World → Prop
  | 0, u, _ => u = .slice ua un uc
  | 1, u, _ => u = .slice oa o.length oc
  | 2, u, W => ∃ bd, u = .map (some bd) ∧ MapAt W 9 bd o.length (strF (natF (sizesF us o)))
  | 3, u, _ => u = .agg #[.int .i64 e.op, .string e.name, .slice aw nw cw, .int .i64 e.lo, .int .i64 e.hi, .slice aa na ca]
  | 4, u, _ => u = .int .i64 R
  | _, u, _ => u = .int .i64 R
--END DEF E5
end Go.Proofs.YtfjlglefodndjaaGreatDoor

namespace Go.Proofs.YtfjlglefodndjaaGreatDoor
open Go.RowKit Go.Maps

/-! check.Clauses. -/
mutual
theorem okTree_bare : (e : Ex) → okTree e → bareE e = true
  | .mk op name words lo hi args, h => by
    rw [okTree] at h
    obtain ⟨hn, ha⟩ := h
    rw [bareE, okTrees_bare args ha, Bool.and_true]
    unfold okNode at hn
    simp only [Ex.op, Ex.args, Ex.name, Ex.words, Ex.lo, Ex.hi] at hn
    by_cases h3 : op = 3
    · have : args = [] := by
        rcases hn with ⟨h, -⟩ | ⟨h, -⟩ | ⟨-, -, -, -, -, h⟩ | ⟨h, -⟩ | ⟨h, -⟩ | ⟨h, -⟩ | ⟨h, -⟩
        · omega
        · omega
        · exact h
        · omega
        · omega
        · omega
        · omega
      simp [this]
    · simp [h3]
theorem okTrees_bare : (l : List Ex) → okTrees l → bareL l = true
  | [], _ => by rw [bareL]
  | e :: r, h => by
    rw [okTrees] at h
    rw [bareL, okTree_bare e h.1, okTrees_bare r h.2]; rfl
end
theorem ref_bare {e : Ex} (h : refExprB e = true) : bareE e = true := okTree_bare e (ref_okTree h)
theorem claLarge_conds {l : List Cla} {i : Nat} (hi : i < l.length) : claLarge l i = if (condsC l[i]).any (fun x => decide (2000 < expanded l x)) = true then 4 else 0 := by
  unfold claLarge
  rw [getD_cla hi, backsLarge_conds]
  simp only [condsC, List.any_cons, Bool.or_eq_true, decide_eq_true_eq]
/-- The definitions' names differ. -/
theorem defs_own {s : List Attr} {l : List Cla} (h : ∀ j, j < l.length → claErr s l j = 0) {i : Nat} (hi : i < l.length) (hk : l[i].kind = 1) : defAt l l[i].name = some i := by
  have h0 := h i hi
  rw [← ccErr_eq s l hi] at h0
  unfold ccErr at h0
  have hnone : findAt (l.take i) l[i].name = none := by
    cases hf : findAt (l.take i) l[i].name with
    | none => rfl
    | some q =>
      rw [hf] at h0
      split at h0
      · cases h0
      · simp at h0
  unfold defAt
  rw [List.findIdx?_eq_some_iff_getElem]
  refine ⟨hi, by simp [hk], fun j hj => ?_⟩
  unfold findAt at hnone
  rw [List.findIdx?_eq_none_iff] at hnone
  have := hnone l[j] (List.mem_iff_getElem.2 ⟨j, by simp; omega, by simp⟩)
  simp only [decide_eq_false_iff_not] at this
  simp [this]
--BEGIN DEF K10
def cclas10R (sa : Option Addr) (sn sc bm b off n c k : Nat) (v : ClV) (E : Int) : Nat → Value → World → Prop
  | 0, u, _ => u = .agg #[.slice sa sn sc]
  | 1, u, _ => u = .map (some bm)
  | 2, u, _ => u = .slice (some ⟨b, off, none⟩) n c
  | 3, u, _ => u = .int .i64 ((k : Nat) : Int)
  | 4, u, _ => u = .slice (some ⟨b, off, none⟩) k c
  | 5, u, _ => u = .agg #[.int .i64 v.kind, .string v.name, .int .i64 v.x.op, .string v.x.name, .slice v.x.aw v.x.nw v.x.cw, .int .i64 v.x.lo, .int .i64 v.x.hi, .slice v.x.aa v.x.na v.x.ca, .slice v.au v.nu v.cu, .int .i64 v.amount]
  | 6, u, _ => u = .int .i64 E
  | _, u, _ => u = .int .i64 E
--END DEF K10
def CcL2 (l : List Cla) (n : Nat) (w3 : World) (t : Value) (wr : World) : Prop := ∃ k : Nat, t = .int .i64 ((k : Nat) : Int) ∧ k ≤ n ∧ (∀ j, j < k → claLarge l j = 0) ∧ Ext w3 wr
set_option maxRecDepth 100000 in
set_option maxHeartbeats 16000000 in
theorem cClauses_calls (s : List Attr) (l : List Cla) (sv : Value) (a : Option Addr) (n c : Nat) (w : World) (hs : IsSchema w s sv) (hf : ∀ x ∈ s, x.fits) (hsl : s.length ≤ 1000000000000000) (hl : IsClas w l a n c) (hn : n ≤ 1000000000000000) (hok : ∀ x ∈ l, x.fit) (ho : HasOps w) :
    Calls Tryz.prog 13 #[sv, .slice a n c] w (GivesE (clsV (clausesErr s l)) w) := by
  obtain ⟨sa, sn, sc, rfl, hsn⟩ := hs.slice
  have HL := Lib.hid hl
  have HN := Lib.hid hl.len
  have HOK := Lib.hid hok
  have hnc : n ≤ c := by obtain ⟨vs, h1, _⟩ := hl; exact h1.2.1
  have HVA := Lib.hid (fun (W : World) (hW : Ext w W) => sValidate_calls s (.agg #[.slice sa sn sc]) W (hs.ext hW) hf hsl)
  have HCC := Lib.hid (fun (hz : schemaErr s = 0) (bm nm : Nat) (ba : Option Addr) (bn bc i : Nat) (hi : i < l.length) (v : ClV) (W : World) (hW : Ext w W) (hd : DefsAt W l bm nm) (hb : IsClas W (l.take i) ba bn bc) (hbn : bn ≤ 1000000000000000) (hc : IsCla W l[i] v) => cclause_calls s hz l (l.take i) hf hsl bm nm ba bn bc l[i] v (.agg #[.slice sa sn sc]) W (hok _ (List.getElem_mem hi)) (ho.ext hW) (hs.ext hW) hd hb hbn hc)
  obtain ⟨R, hR⟩ : ∃ R, R = clausesErr s l := ⟨_, rfl⟩
  rw [← hR]
  have HR := Lib.hid hR
  obtain ⟨wa, hwa⟩ : ∃ wa, wa = w.alloc (.cells #[.slice sa sn sc] 24) := ⟨_, rfl⟩
  have hxa : Ext w wa := by rw [hwa]; exact (Ext.refl _).alloc _
  have hb : wa.heap[w.heap.size]? = some (.cells #[.slice sa sn sc] 24 (0, 0)) := by rw [hwa]; exact alloc_new w _
  have HXA := Lib.hid hxa
  have HBA := Lib.hid hb
  obtain ⟨d0, df⟩ := blk1 hb
  have hlta := blk_lt hb
  clear hs hl hf hok hR hsn hxa hb ho
  go_enter Tryz.func13, Tryz.ntmps13
  go_upto_region 1 with fail
  rw [← hwa]
  clear hwa
  go_wp2_with fail
  refine (HVA.out wa HXA.out).mono ?_
  rintro r w1 ⟨rfl, hx1⟩
  have HX1 := Lib.hid (HXA.out.trans hx1)
  have HB1 := Lib.hid (hx1.blk HBA.out)
  clear hx1 d0 df HVA hlta
  by_cases hse : schemaErr s = 0
  case neg =>
    have tz : (schemaErr s != 0) = true := by simp [hse]
    have HQ := Lib.hid (HR.out.trans (cls_bad hse))
    go_wp2_with fail
    go_ret2
    exact givesE_cls HQ.out HX1.out
  have tz : (schemaErr s != 0) = false := by simp [hse]
  have HSE := Lib.hid hse
  clear hse
  by_cases hm : 100 < n
  · have tm : decide ((100 : Int) < (n : Int)) = true := decide_eq_true (by omega)
    have HQ := Lib.hid (HR.out.trans (cls_many HSE.out (by have := HN.out; omega)))
    go_wp2_with fail
    go_ret2
    exact givesE_cls HQ.out HX1.out
  have tm : decide ((100 : Int) < (n : Int)) = false := decide_eq_false (by omega)
  have HM := Lib.hid (show ¬ 100 < l.length by have := HN.out; omega)
  go_wp2_with fail
  refine (definitions_calls l a n c w1 (HL.out.ext HX1.out) (by omega) fun x hx => (HOK.out x hx).1).mono ?_
  rintro r w2 ⟨bm, rfl, hd2, hx2⟩
  have HD2 := Lib.hid hd2
  have HX2 := Lib.hid (HX1.out.trans hx2)
  have HB2 := Lib.hid (hx2.blk HB1.out)
  clear hd2 hx2
  go_wp2_with fail
  go_loopw [30] (fun t wr => ∃ k : Nat, t = .int .i64 ((k : Nat) : Int) ∧ k ≤ n ∧ (∀ j, j < k → claErr s l j = 0) ∧ Ext w2 wr) (fun t _ => n - (intOf t).toNat)
  case atStart => exact ⟨0, rfl, by omega, fun j h => by omega, Ext.refl _⟩
  case round =>
    obtain ⟨k, rfl, hk, hno, hxr⟩ := hrel
    have HNO := Lib.hid hno
    have HXR := Lib.hid hxr
    clear hno hxr
    by_cases hkn : k < n
    · have hkl : k < l.length := by have := HN.out; omega
      have t1 : decide ((k : Int) < (n : Int)) = true := decide_eq_true (by omega)
      obtain ⟨b, off, v, rfl, hcla, hrow⟩ := (HL.out.ext (HX2.out.trans HXR.out)).at hkl
      obtain ⟨c0, c1, c2, c3, c4, c5, c6, c7, c8, c9⟩ := hrow.ten
      have ti0 : (0 : Int) ≤ (k : Int) := by omega
      have ti1 : (k : Int) ≤ (n : Int) := by omega
      have hkc : k ≤ c := by omega
      have HCE := Lib.hid (ccErr_eq s l hkl)
      have HHIT := Lib.hid (fun (e : Int) (h : claErr s l k = e) (h0 : e ≠ 0) => HR.out.trans (by rw [cls_hit HSE.out HM.out hkl HNO.out (by rw [h]; exact h0), h]))
      obtain ⟨y, hy⟩ : ∃ y, y = wr.heap.size := ⟨_, rfl⟩
      obtain ⟨wx, hwx⟩ : ∃ wx, wx = wr.alloc (.cells #[.int .i64 v.kind, .string v.name, .int .i64 v.x.op, .string v.x.name, .slice v.x.aw v.x.nw v.x.cw, .int .i64 v.x.lo, .int .i64 v.x.hi, .slice v.x.aa v.x.na v.x.ca, .slice v.au v.nu v.cu, .int .i64 v.amount] 38) := ⟨_, rfl⟩
      have hxx : Ext wr wx := by rw [hwx]; exact (Ext.refl _).alloc _
      have hby : wx.heap[y]? = some (.cells #[.int .i64 v.kind, .string v.name, .int .i64 v.x.op, .string v.x.name, .slice v.x.aw v.x.nw v.x.cw, .int .i64 v.x.lo, .int .i64 v.x.hi, .slice v.x.aa v.x.na v.x.ca, .slice v.au v.nu v.cu, .int .i64 v.amount] 38 (0, 0)) := by rw [hwx, hy]; exact alloc_new wr _
      have HXX := Lib.hid (HXR.out.trans hxx)
      have HCF := Lib.hid (fun (W : World) (hW : Ext wx W) => HCC.out HSE.out bm n (some ⟨b, off, none⟩) k c k hkl v W ((HX2.out.trans HXX.out).trans hW) (HD2.out.ext (HXX.out.trans hW)) ((HL.out.ext ((HX2.out.trans HXX.out).trans hW)).take (by omega)) (by omega) (hcla.mono (hxx.trans hW).sub))
      rw [HCE.out] at HCF
      obtain ⟨E, hE⟩ : ∃ E, E = claErr s l k := ⟨_, rfl⟩
      rw [← hE] at HCF
      have HE := Lib.hid hE
      clear hcla hrow hE HCE
      go_upto_region 10 with fail
      rw [← hwx, ← hy]
      clear hwx hy c0 c1 c2 c3 c4 c5 c6 c7 c8 c9
      obtain ⟨d0, df⟩ := blk1 ((HXX.out).blk HB2.out)
      obtain ⟨b0, b1, b2, b3, b4, b5, b6, b7, b8, b9, bf⟩ := blk10r hby
      clear hxx hby
      --BEGIN K10
      refine wp_region_grow (m := 8) [7] (GrG wx) GrE (GrP (cclas10R sa sn sc bm b off n c k v E)) (by kernel_rfl) (by kernel_rfl) ((Ext.refl wx).drew) ?_ ?_ ?_
      · intro i k v W W' hi hk hne hout h hE
        have hE : Ext W W' := hE
        have hi' : i = 0 ∨ i = 1 ∨ i = 2 ∨ i = 3 ∨ i = 4 ∨ i = 5 ∨ i = 6 ∨ i = 7 := by omega
        clear hi hk hne hout
        rcases hi' with rfl | rfl | rfl | rfl | rfl | rfl | rfl | rfl
        · exact h
        · exact h
        · exact h
        · exact h
        · exact h
        · exact h
        · exact h
        · exact h
      · intro q op hq ho vs W hW hd ρ hρ
        have hq' : q = 0 ∨ q = 1 ∨ q = 2 ∨ q = 3 ∨ q = 4 ∨ q = 5 ∨ q = 6 ∨ q = 7 := by omega
        clear hq
        have o2 : ρ (.tmp 2) = .pointer (some ⟨w.heap.size, 0, none⟩) := hρ.out 2 rfl
        have o7 : ρ (.tmp 7) = .map (some bm) := hρ.out 7 rfl
        have o1 : ρ (.tmp 1) = .slice (some ⟨b, off, none⟩) n c := hρ.out 1 rfl
        have o8 : ρ (.tmp 8) = .int .i64 ((k : Nat) : Int) := hρ.out 8 rfl
        have i2 := hρ.ins 2 37 (by omega) rfl (Nat.le_of_ble_eq_true rfl)
        have i3 := hρ.ins 3 38 (by omega) rfl (Nat.le_of_ble_eq_true rfl)
        have o9 : ρ (.tmp 9) = .pointer (some ⟨y, 0, none⟩) := hρ.out 9 rfl
        have i0 := hρ.ins 0 35 (by omega) rfl (Nat.le_of_ble_eq_true rfl)
        have i1 := hρ.ins 1 36 (by omega) rfl (Nat.le_of_ble_eq_true rfl)
        have i4 := hρ.ins 4 39 (by omega) rfl (Nat.le_of_ble_eq_true rfl)
        have i5 := hρ.ins 5 40 (by omega) rfl (Nat.le_of_ble_eq_true rfl)
        have i6 := hρ.ins 6 41 (by omega) rfl (Nat.le_of_ble_eq_true rfl)
        have hc := hρ.const
        have hfn := hρ.func
        clear hρ
        have HW := Lib.hid (show Ext wx W from hW)
        rcases hq' with rfl | rfl | rfl | rfl | rfl | rfl | rfl | rfl
        · cases ho
          clear hd
          have g0 := HW.out.cell d0
          unfold GivesOp
          go_simp
          exact ⟨Ext.refl W, rfl⟩
        · cases ho
          clear hd
          unfold GivesOp
          go_simp
          exact ⟨Ext.refl W, rfl⟩
        · cases ho
          clear hd
          unfold GivesOp
          go_simp
          exact ⟨Ext.refl W, rfl⟩
        · cases ho
          clear hd
          unfold GivesOp
          go_simp
          exact ⟨Ext.refl W, rfl⟩
        · cases ho
          have h2 : vs 2 = .slice (some ⟨b, off, none⟩) n c := hd ⟨2, .data⟩ (by simp) rfl
          rw [h2] at i2
          have h3 : vs 3 = .int .i64 ((k : Nat) : Int) := hd ⟨3, .data⟩ (by simp) rfl
          rw [h3] at i3
          clear hd
          unfold GivesOp
          go_simp
          exact ⟨Ext.refl W, rfl⟩
        · cases ho
          clear hd
          have g0 := HW.out.cell b0
          have g1 := HW.out.cell b1
          have g2 := HW.out.cell b2
          have g3 := HW.out.cell b3
          have g4 := HW.out.cell b4
          have g5 := HW.out.cell b5
          have g6 := HW.out.cell b6
          have g7 := HW.out.cell b7
          have g8 := HW.out.cell b8
          have g9 := HW.out.cell b9
          unfold GivesOp
          go_simp
          exact ⟨Ext.refl W, rfl⟩
        · cases ho
          have h0 : vs 0 = .agg #[.slice sa sn sc] := hd ⟨0, .data⟩ (by simp) rfl
          rw [h0] at i0
          have h1 : vs 1 = .map (some bm) := hd ⟨1, .data⟩ (by simp) rfl
          rw [h1] at i1
          have h4 : vs 4 = .slice (some ⟨b, off, none⟩) k c := hd ⟨4, .data⟩ (by simp) rfl
          rw [h4] at i4
          have h5 : vs 5 = .agg #[.int .i64 v.kind, .string v.name, .int .i64 v.x.op, .string v.x.name, .slice v.x.aw v.x.nw v.x.cw, .int .i64 v.x.lo, .int .i64 v.x.hi, .slice v.x.aa v.x.na v.x.ca, .slice v.au v.nu v.cu, .int .i64 v.amount] := hd ⟨5, .data⟩ (by simp) rfl
          rw [h5] at i5
          clear hd
          unfold GivesOp
          go_simp
          refine (HCF.out W HW.out).mono ?_
          rintro r5 w5 ⟨rfl, hx5⟩
          exact ⟨_, rfl, hx5, HW.out.trans hx5, rfl⟩
        · cases ho
          have h6 : vs 6 = .int .i64 E := hd ⟨6, .data⟩ (by simp) rfl
          rw [h6] at i6
          clear hd
          unfold GivesOp
          go_simp
          exact ⟨Ext.refl W, rfl⟩
      intro vs W hW hR
      rw [if_pos (by decide +kernel)]
      have h7 : vs 7 = .int .i64 E := hR 7 (by simp) (by omega)
      simp only [acts, dstAt, List.range, List.range.loop, List.foldl_cons, List.foldl_nil, h7]
      go_simp
      have hW2 : Ext wx W := hW
      clear hR hW h7
      --END K10
      have HX10 := Lib.hid (HXX.out.trans hW2)
      clear hW2 d0 df b0 b1 b2 b3 b4 b5 b6 b7 b8 b9 bf HCF
      by_cases hz : E = 0
      · have tz0 : (E != 0) = false := by simp [hz]
        have HZ := Lib.hid (HE.out.symm.trans hz)
        clear hz
        go_wp2_with fail
        go_roundw
        case rel =>
          refine ⟨k + 1, by go_num, by omega, fun j hj => ?_, HX10.out⟩
          by_cases e0 : j = k
          · subst e0; exact HZ.out
          · exact HNO.out j (by omega)
        case measure => simp [intOf]; omega
      · have tz0 : (E != 0) = true := by simp [hz]
        have HQ := Lib.hid (HHIT.out E HE.out.symm hz)
        clear hz
        go_wp2_with fail
        go_ret2
        exact givesE_cls HQ.out (HX2.out.trans HX10.out)
    · have t1 : decide ((k : Int) < (n : Int)) = false := decide_eq_false (by omega)
      have HNA := Lib.hid (show ∀ j, j < l.length → claErr s l j = 0 from fun j hj => HNO.out j (by have := HN.out; omega))
      have HSZ := Lib.hid (show ∀ x ∈ l, x.name.size ≤ 1000000000000000 ∧ x.cond.size ≤ 100000 ∧ x.cond.fits ∧ (∀ y ∈ condsC x, refExprB y = true) ∧ wbN x.unl ≤ 40 by
        intro x hx
        obtain ⟨j, hj, rfl⟩ := List.mem_iff_getElem.1 hx
        have hv := claErr_valid (HNA.out j hj) hj
        have hf := HOK.out _ hx
        exact ⟨hf.1, refExprB_size (clauseB_cond hv), hf.2.1, (clause_refs hv).1, (clause_refs hv).2⟩)
      have HXW := Lib.hid (HX2.out.trans HXR.out)
      clear HNO
      go_wp2_with fail
      refine (order_calls (l.map Cla.cl) a n c wr (HL.out.ext HXW.out).cls (by omega) (by
        intro x hx
        obtain ⟨c', hc', rfl⟩ := List.mem_map.1 hx
        have := HSZ.out c' hc'
        exact ⟨this.2.1, this.2.2.1, this.1⟩)).mono ?_
      rw [show (l.map Cla.cl).map Cl.dfn = l.map Cla.dfn by rw [List.map_map]; rfl]
      rintro r w3 ⟨hx3, ⟨o, oa, oc, ht, rfl, hoi⟩ | ⟨o, q1, q2, rfl⟩⟩
      · have HT := Lib.hid ht
        have HOI := Lib.hid hoi
        have HX3 := Lib.hid (HXW.out.trans hx3)
        have HSO := Lib.hid (show Sorts (l.map Cla.dfn) from ⟨o, ht⟩)
        have hol : o.length ≤ 1000 := by have h1 := ht.len; have := HN.out; simp at h1; omega
        have HSE2 := Lib.hid (fun (x : Ex) (hx : bareE x = true) => sizes_exp ht (fun i hi => by
          have hil : i < l.length := by simpa using ht.lt hi
          rw [getD_cla hil]
          exact defs_own HNA.out hil (by have := (ht.all i).1 hi; rw [isDef_dfn hil] at this; simpa using this)) (fun i hi => by
          have hil : i < l.length := by simpa using ht.lt hi
          rw [getD_cla hil]
          exact ref_bare ((HSZ.out _ (List.getElem_mem hil)).2.2.2.1 _ (by simp [condsC]))) x hx)
        clear ht hoi hx3
        go_wp2_with fail
        refine (sizes_calls l a n c o oa oc w3 (HL.out.ext HX3.out) (by omega) HOI.out (by omega) (fun i hi => by simpa using HT.out.lt hi) (fun x hx => by have := HSZ.out x hx; exact ⟨this.1, by omega, this.2.2.1⟩)).mono ?_
        rintro r w4 ⟨bs, rfl, hm4, hx4⟩
        have HM4 := Lib.hid hm4
        have HX4 := Lib.hid (HX3.out.trans hx4)
        clear hm4 hx4
        go_wp2_with fail
        go_loopw [60] (CcL2 l n w4) (fun t _ => n - (intOf t).toNat)
        case atStart => exact ⟨0, rfl, by omega, fun j h => by omega, Ext.refl _⟩
        case round =>
          obtain ⟨k2, rfl, hk2, hno, hxr⟩ := hrel
          obtain ⟨wo, rfl⟩ : ∃ wo : World, wo = wr := ⟨_, rfl⟩
          have HNO := Lib.hid hno
          have HXR2 := Lib.hid hxr
          clear hno hxr
          by_cases hkn2 : k2 < n
          · have hkl : k2 < l.length := by have := HN.out; omega
            have t2 : decide ((k2 : Int) < (n : Int)) = true := decide_eq_true (by omega)
            obtain ⟨b, off, v, rfl, hcla, hrow⟩ := (HL.out.ext (HX4.out.trans HXR2.out)).at hkl
            obtain ⟨c0, c1, c2, c3, c4, c5, c6, c7, c8, c9⟩ := hrow.ten
            have HFT := Lib.hid (condsC_fit (HOK.out _ (List.getElem_mem hkl)))
            have HRF := Lib.hid (HSZ.out _ (List.getElem_mem hkl)).2.2.2.1
            have hwb := (HSZ.out _ (List.getElem_mem hkl)).2.2.2.2
            have HLG := Lib.hid (claLarge_conds hkl)
            have HHIT := Lib.hid (fun (h : claLarge l k2 = 4) => HR.out.trans (cls_large HSE.out HM.out HNA.out HSO.out hkl HNO.out h))
            have HCN := Lib.hid (fun (W : World) (hW : Ext wo W) => conditions_calls l[k2] v W (hcla.mono hW.sub) (by omega))
            have HCL := Lib.hid (condsC_len l[k2])
            clear hcla hrow
            go_wp2_with fail
            refine (HCN.out _ ((Ext.refl wo).alloc _)).mono ?_
            rintro r w6 ⟨ea, en, ek, rfl, hen, henk, hed, hx6⟩
            have HX6 := Lib.hid ((HXR2.out.alloc _).trans hx6)
            have HED := Lib.hid hed
            have HEN := Lib.hid hen
            have hen2 : en ≤ 41 := by have := HCL.out; omega
            clear hx6 hed hen c0 c1 c2 c3 c4 c5 c6 c7 c8 c9 HCN
            go_wp2_with fail
            go_loopw [68] (fun t wr => ∃ q : Nat, t = .int .i64 ((q : Nat) : Int) ∧ q ≤ en ∧ (∀ j (h : j < (condsC l[k2]).length), j < q → ¬ 2000 < expanded l (condsC l[k2])[j]) ∧ Ext w6 wr) (fun t _ => en - (intOf t).toNat)
            case atStart => exact ⟨0, rfl, by omega, fun j _ h => by omega, Ext.refl _⟩
            case round =>
              obtain ⟨q, rfl, hq, hall, hxq⟩ := hrel
              have HALL := Lib.hid hall
              have HXQ := Lib.hid hxq
              clear hall hxq
              by_cases hqn : q < en
              · have hql : q < (condsC l[k2]).length := by have := HEN.out; omega
                have t3 : decide ((q : Int) < (en : Int)) = true := decide_eq_true (by omega)
                obtain ⟨b', off', rfl, aw1, nw1, cw1, aa1, na1, ca1, h0, h1, h2, h3, h4, h5, h6⟩ := ExsD.at (condsC l[k2]) _ (ExsD.ext HXQ.out (condsC l[k2]) _ HED.out) q hql
                have hmem := List.getElem_mem hql
                have hxs := refExprB_size (HRF.out _ hmem)
                have HCX := Lib.hid (fun (W : World) (hW : Ext wr W) => cexp_calls (sizesF l o) (sizesF_le l o) bs o.length 1000000000000000 (condsC l[k2])[q] _ W (by omega) (by omega) (HFT.out _ hmem).1 (HM4.out.ext ((HX6.out.trans HXQ.out).trans hW)) (h6.ext hW))
                have hblt := block_lt h0
                simp only at hblt
                rw [HSE2.out _ (ref_bare (HRF.out _ hmem))] at HCX
                unfold exV at HCX
                obtain ⟨E, hE⟩ : ∃ E, E = expanded l (condsC l[k2])[q] := ⟨_, rfl⟩
                rw [← hE] at HCX
                have hel : E ≤ 2001 := by rw [hE]; exact expF_le l _ _
                have HE := Lib.hid hE
                clear h6 hE
                go_wp2_with fail
                refine (HCX.out _ ((Ext.refl wr).alloc _)).mono ?_
                rintro r w7 ⟨rfl, hx7⟩
                have HX7 := Lib.hid ((HXQ.out.alloc _).trans hx7)
                clear hx7 h0 h1 h2 h3 h4 h5 HCX
                by_cases hlg : 2000 < E
                · have t4 : decide ((2000 : Int) < (E : Int)) = true := decide_eq_true (by omega)
                  have HQ := Lib.hid (HHIT.out (by
                    rw [HLG.out, if_pos]
                    rw [List.any_eq_true]
                    exact ⟨_, hmem, by rw [← HE.out]; simpa using hlg⟩))
                  clear hmem
                  go_wp2_with fail
                  go_ret2
                  exact givesE_cls HQ.out (HX4.out.trans (HX6.out.trans HX7.out))
                · have t4 : decide ((2000 : Int) < (E : Int)) = false := decide_eq_false (by omega)
                  have HNL := Lib.hid (show ¬ 2000 < expanded l (condsC l[k2])[q] by rw [← HE.out]; exact hlg)
                  clear hmem hlg
                  go_wp2_with fail
                  go_roundw
                  case rel =>
                    refine ⟨q + 1, by go_num, by omega, fun j hj hjk => ?_, HX7.out⟩
                    by_cases e0 : j = q
                    · subst e0; exact HNL.out
                    · exact HALL.out j hj (by omega)
                  case measure => simp [intOf]; omega
              · have t3 : decide ((q : Int) < (en : Int)) = false := decide_eq_false (by omega)
                have HZ := Lib.hid (show claLarge l k2 = 0 by
                  rw [HLG.out, if_neg]
                  rw [Bool.not_eq_true, List.any_eq_false]
                  intro x hx
                  obtain ⟨j, hj, rfl⟩ := List.mem_iff_getElem.1 hx
                  simpa using HALL.out j hj (by have := HEN.out; omega))
                go_wp2_with fail
                go_roundw
                case rel =>
                  refine ⟨k2 + 1, by go_num, by omega, fun j hj => ?_, HX6.out.trans HXQ.out⟩
                  by_cases e0 : j = k2
                  · subst e0; exact HZ.out
                  · exact HNO.out j (by omega)
                case measure => simp [intOf]; omega
          · have t2 : decide ((k2 : Int) < (n : Int)) = false := decide_eq_false (by omega)
            have HQ := Lib.hid (HR.out.trans (cls_good HSE.out HM.out HNA.out HSO.out fun j hj => HNO.out j (by have := HN.out; omega)))
            go_wp2_with fail
            go_ret2
            exact givesE_cls HQ.out (HX4.out.trans HXR2.out)
      · have HQ := Lib.hid (HR.out.trans (cls_cycle HSE.out HM.out HNA.out (q1.none q2)))
        have HX3 := Lib.hid (HXW.out.trans hx3)
        clear hx3 q1 q2
        go_wp2_with fail
        go_ret2
        exact givesE_cls HQ.out HX3.out
end Go.Proofs.YtfjlglefodndjaaGreatDoor
