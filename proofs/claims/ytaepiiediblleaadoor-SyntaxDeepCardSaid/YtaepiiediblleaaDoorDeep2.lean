import Derived.Test.YtaepiiediblleaaDoorDeep1
import Derived.Test.YtaepiiediblleaaDoorLevel3
import Derived.Test.YtaepiiediblleaaDoorGrow2
namespace Go.Proofs.YtaepiiediblleaaDoor
open Go.RowKit

def wideE (op : Int) (n : Nat) (e : Ex) : Ex := .mk op ⟨#[]⟩ [] 0 0 (List.replicate n e)
theorem wide_valid : ∀ b, validB (wideE 7 299 (atomE b)) = true ∧ validB (wideE 7 300 (atomE b)) = false ∧ (wideE 7 300 (atomE b)).size = 301 := by decide +kernel
theorem fitsAll_replicate (n : Nat) (e : Ex) (h : e.fits) : fitsAll (List.replicate n e) := by
  induction n with
  | zero => simp [fitsAll]
  | succ n ih => rw [List.replicate_succ, fitsAll]; exact ⟨h, ih⟩
theorem wide_fits (n : Nat) (b : Bool) : (wideE 7 n (atomE b)).fits := by
  unfold wideE Ex.fits
  exact ⟨by decide, by simp, fitsAll_replicate n _ (atom_fits b)⟩
def rep (n : Nat) (b : Bool) : List Value := (List.replicate n (atomV b)).flatMap ExV.cells
theorem rep_snoc (n : Nat) (b : Bool) : rep n b ++ (atomV b).cells = rep (n + 1) b := by
  unfold rep
  rw [List.replicate_succ', List.flatMap_append]
  simp
theorem rep_exs (w : World) (n : Nat) (b : Bool) : ExsR w (List.replicate n (atomE b)) (List.replicate n (atomV b)) := ⟨by simp, fun i h1 h2 => by simp only [List.getElem_replicate]; exact atom_is w b⟩

/-- After k rounds: f has k arguments. -/
def WideI (b : Bool) (w : World) (i : Value) (wr : World) : Prop := ∃ (k : Nat) (v : Value), k ≤ 299 ∧ i = .int .i64 ((k : Int) + 1) ∧ wr.heap[w.heap.size]? = some (.cells (atomV b).cells.toArray 26 (0, 0)) ∧
  wr.heap[w.heap.size + 1]? = some (.cells #[.int .i64 7, .string ⟨#[]⟩, .slice none 0 0, .int .i64 0, .int .i64 0, v] 26 (0, 0)) ∧ wr.ownsRow (w.heap.size + 2) 26 6 v k (rep k b) ∧ Ext w wr

/-- What the operations of 'append(append([]api.Expr{}, f.Args...), e)' leave. -/
def R16 (base bf g cap : Nat) (nb : Bool) : Nat → Value → World → Prop
  | 0, v, W => ∃ x, v = .slice (some ⟨x, 0, none⟩) 0 0 ∧ base ≤ x ∧ W.heap[x]? = some (.cells #[] 26 (0, 0))
  | 1, v, _ => v = .pointer (some ⟨bf, 5, none⟩)
  | 2, v, _ => v = .slice (some ⟨g, 0, none⟩) 299 cap
  | 3, v, W => ∃ x c, v = .slice (some ⟨x, 0, none⟩) 299 c ∧ base ≤ x ∧ W.ownsRow base 26 6 (.slice (some ⟨x, 0, none⟩) 299 c) 299 (rep 299 nb)
  | 4, v, _ => v = (atomV nb).val
  | 5, v, W => ∃ x, v = .slice (some ⟨x, 0, none⟩) 1 1 ∧ W.heap[x]? = some (.cells (atomV nb).cells.toArray 26 (0, 0))
  | 6, v, W => ∃ x c, v = .slice (some ⟨x, 0, none⟩) 300 c ∧ W.ownsRow base 26 6 (.slice (some ⟨x, 0, none⟩) 300 c) 300 (rep 300 nb)
  | 7, v, W => ∃ x c, v = exV 7 ⟨#[]⟩ none 0 0 0 0 (some ⟨x, 0, none⟩) 300 c ∧ W.ownsRow base 26 6 (.slice (some ⟨x, 0, none⟩) 300 c) 300 (rep 300 nb)
  | 8, v, W => ∃ x, v = .pointer (some ⟨x, 0, none⟩) ∧ base ≤ x ∧ W.heap[x]? = some (.cells exV0.cells.toArray 26 (0, 0))
  | _, _, _ => True

def E16 : Nat → World → World → Prop
  | 3, W, W' => ∃ x, W.grownBy W' (some x) ∧ W.heap[x]? = some (.cells #[] 26 (0, 0))
  | 6, W, W' => ∃ x cur, W.grownBy W' (some x) ∧ W.heap[x]? = some (.cells cur 26 (0, 0)) ∧ 1794 ≤ cur.size
  | _, W, W' => Ext W W'
theorem grown_blk {W W' : World} {x y : Nat} {o : Obj} (h : W.grownBy W' (some x)) (hy : W.heap[y]? = some o) (hne : y ≠ x) : W'.heap[y]? = some o := by
  rw [h.block y (blk_lt hy) (fun e => hne (Option.some.inj e))]; exact hy
theorem r16_keeps {ops : Array Oper} {base bf g cap : Nat} {nb : Bool} (hops : (!outlasts ops 9 [7, 8] 0 3 && !outlasts ops 9 [7, 8] 6 3 && !outlasts ops 9 [7, 8] 7 3 && !outlasts ops 9 [7, 8] 3 6 && !outlasts ops 9 [7, 8] 5 6 && !outlasts ops 9 [7, 8] 7 6) = true) :
    ∀ i k v W W', i < 9 → k < 9 → i ≠ k → outlasts ops 9 [7, 8] i k = true → R16 base bf g cap nb i v W → E16 k W W' → R16 base bf g cap nb i v W' := by
  intro i k v W W' hi hk hne ho hR hE
  simp only [Bool.and_eq_true, Bool.not_eq_true'] at hops
  obtain ⟨⟨⟨⟨⟨q1, q2⟩, q3⟩, q4⟩, q5⟩, q6⟩ := hops
  have h3 : k = 3 → i ≠ 0 ∧ i ≠ 3 ∧ i ≠ 6 ∧ i ≠ 7 := by
    rintro rfl
    exact ⟨(fun e => by subst e; rw [q1] at ho; cases ho), hne, (fun e => by subst e; rw [q2] at ho; cases ho), (fun e => by subst e; rw [q3] at ho; cases ho)⟩
  have h6 : k = 6 → i ≠ 3 ∧ i ≠ 5 ∧ i ≠ 6 ∧ i ≠ 7 := by
    rintro rfl
    exact ⟨(fun e => by subst e; rw [q4] at ho; cases ho), (fun e => by subst e; rw [q5] at ho; cases ho), hne, (fun e => by subst e; rw [q6] at ho; cases ho)⟩
  have hi' : i = 0 ∨ i = 1 ∨ i = 2 ∨ i = 3 ∨ i = 4 ∨ i = 5 ∨ i = 6 ∨ i = 7 ∨ i = 8 := by omega
  by_cases k3 : k = 3
  · subst k3
    obtain ⟨n0, n3, n6, n7⟩ := h3 rfl
    obtain ⟨x, hg, hx⟩ := hE
    have key : ∀ (y : Nat) (cs : Array Value), W.heap[y]? = some (.cells cs 26 (0, 0)) → cs.size ≠ 0 → W'.heap[y]? = some (.cells cs 26 (0, 0)) := fun y cs hy hs => grown_blk hg hy (fun e => by subst e; rw [hx] at hy; cases hy; simp at hs)
    rcases hi' with rfl | rfl | rfl | rfl | rfl | rfl | rfl | rfl | rfl
    · exact absurd rfl n0
    · exact hR
    · exact hR
    · exact absurd rfl n3
    · exact hR
    · obtain ⟨y, h1, h2⟩ := hR
      exact ⟨y, h1, key y _ h2 (by simp [ExV.cells])⟩
    · exact absurd rfl n6
    · exact absurd rfl n7
    · obtain ⟨y, h1, h2, h4⟩ := hR
      exact ⟨y, h1, h2, key y _ h4 (by simp [ExV.cells])⟩
  · by_cases k6 : k = 6
    · subst k6
      obtain ⟨n3, n5, n6, n7⟩ := h6 rfl
      obtain ⟨x, cur, hg, hx, hsz⟩ := hE
      have key : ∀ (y : Nat) (cs : Array Value), W.heap[y]? = some (.cells cs 26 (0, 0)) → cs.size < 1794 → W'.heap[y]? = some (.cells cs 26 (0, 0)) := fun y cs hy hs => grown_blk hg hy (fun e => by subst e; rw [hx] at hy; cases hy; omega)
      rcases hi' with rfl | rfl | rfl | rfl | rfl | rfl | rfl | rfl | rfl
      · obtain ⟨y, h1, h2, h4⟩ := hR
        exact ⟨y, h1, h2, key y _ h4 (by simp)⟩
      · exact hR
      · exact hR
      · exact absurd rfl n3
      · exact hR
      · exact absurd rfl n5
      · exact absurd rfl n6
      · exact absurd rfl n7
      · obtain ⟨y, h1, h2, h4⟩ := hR
        exact ⟨y, h1, h2, key y _ h4 (by simp [ExV.cells])⟩
    · have hX : Ext W W' := by
        unfold E16 at hE
        split at hE
        · exact absurd rfl k3
        · exact absurd rfl k6
        · exact hE
      rcases hi' with rfl | rfl | rfl | rfl | rfl | rfl | rfl | rfl | rfl
      · obtain ⟨y, h1, h2, h4⟩ := hR; exact ⟨y, h1, h2, hX.blk h4⟩
      · exact hR
      · exact hR
      · obtain ⟨y, c, h1, h2, h4⟩ := hR; exact ⟨y, c, h1, h2, owns_ext h4 hX⟩
      · exact hR
      · obtain ⟨y, h1, h2⟩ := hR; exact ⟨y, h1, hX.blk h2⟩
      · obtain ⟨y, c, h1, h2⟩ := hR; exact ⟨y, c, h1, owns_ext h2 hX⟩
      · obtain ⟨y, c, h1, h2⟩ := hR; exact ⟨y, c, h1, owns_ext h2 hX⟩
      · obtain ⟨y, h1, h2, h4⟩ := hR; exact ⟨y, h1, h2, hX.blk h4⟩
theorem rep_len (n : Nat) (b : Bool) : (rep n b).length = n * 6 := by unfold rep; rw [length_flatMap_of ExV.cells 6 exV_len]; simp
theorem rep_one (n : Nat) (b : Bool) : ∀ u ∈ rep n b, u.oneCell' = true := by
  intro u hu
  unfold rep at hu
  obtain ⟨x, _, hx⟩ := List.mem_flatMap.1 hu
  simp only [ExV.cells, List.mem_cons, List.not_mem_nil, or_false] at hx
  rcases hx with rfl | rfl | rfl | rfl | rfl | rfl <;> rfl
theorem owns_at {W : World} {base g n cap : Nat} {e : TypeId} {size : Nat} {xs : List Value} (h : W.ownsRow base e size (.slice (some ⟨g, 0, none⟩) n cap) n xs) : ∀ j (hj : j < xs.length), W.cell? ⟨g, j, none⟩ = some xs[j] := fun j hj => by
  rw [h.cellAt j (by rw [← h.1]; exact hj), List.getElem?_eq_getElem hj]

theorem wide_is {W : World} {base g n cap : Nat} {b : Bool} (h : W.ownsRow base 26 6 (.slice (some ⟨g, 0, none⟩) n cap) n (rep n b)) : IsEx W (wideE 7 n (atomE b)) (exV 7 ⟨#[]⟩ none 0 0 0 0 (some ⟨g, 0, none⟩) n cap) := by
  have h' : W.ownsRow base 26 6 (.slice (some ⟨g, 0, none⟩) n cap) (List.replicate n (atomE b)).length (rep n b) := by simpa using h
  obtain ⟨a, c, e1, h1, h2, h3⟩ := exs_owns (M := []) h' (by simp) (rep_exs _ n b)
  simp only [Value.slice.injEq] at e1
  obtain ⟨rfl, e2, rfl⟩ := e1
  unfold wideE
  exact IsEx.mk ⟨rfl, by omega, Or.inl ⟨rfl, rfl⟩, fun i hi => by simp at hi⟩ e2 (by simpa using h1) h2 (ExsD.mono (mask_sub _ _) _ _ h3)
set_option maxRecDepth 100000 in
set_option maxHeartbeats 8000000 in
theorem wide_calls (name : Bool) (w : World) (ho : HasOps w) : Calls Tryd.prog 5 #[.bool false, .bool name] w (GivesE (.bool true) w) := by
  have HO := Lib.hid ho
  clear ho
  obtain ⟨nb, hnb⟩ : ∃ nb, nb = name := ⟨_, rfl⟩
  have HNB := Lib.hid hnb
  clear hnb
  cases name
  all_goals
    go_enter Tryd.func5, Tryd.ntmps5
    go_wp2_with fail
    go_loopw [9] (WideI nb w) (fun i _ => 300 - (intOf i).toNat)
    case atStart =>
      refine ⟨0, .slice none 0 0, by omega, rfl, ?_, ?_, World.ownsRow_nil _ _ _ _, ((Ext.refl w).alloc _).alloc _⟩
      · rw [HNB.out]; exact blk_alloc (alloc_new w _)
      · have := alloc_new (w.alloc (.cells (atomV nb).cells.toArray 26)) (.cells #[.int .i64 7, .string ⟨#[]⟩, .slice none 0 0, .int .i64 0, .int .i64 0, .slice none 0 0] 26)
        rw [show (w.alloc (.cells (atomV nb).cells.toArray 26)).heap.size = w.heap.size + 1 by simp, HNB.out] at this
        exact this
    case round =>
      obtain ⟨k, v, hk, rfl, hb, hf, hown, hE⟩ := hrel
      have HB := Lib.hid hb
      have HF := Lib.hid hf
      have HOW := Lib.hid hown
      have HE := Lib.hid hE
      have hlt := blk_lt hb
      have hltf := blk_lt hf
      unfold ExV.cells at hb
      obtain ⟨b0, b1, b2, b3, b4, b5, bf⟩ := blk6 hb
      obtain ⟨f0, f1, f2, f3, f4, f5, ff⟩ := blk6 hf
      clear hb hf hown hE
      by_cases hk2 : k < 299
      · go_wp2_with (at_builtin; refine wpList_append_new elemEx rfl _ _ rfl (w.heap.size + 2) _ _ _ rfl HOW.out _ 1 1 rfl ?c0 rfl ?c1 ?c2 ?c3 ?c4 ?_)
        case c0 => rfl
        case c1 => simp [Value.oneCell']
        case c2 => unfold maxLen; omega
        case c3 => omega
        case c4 => omega
        intro v2 w2 hown2 hgrow2
        have hcg : Chg (rowOf v) wr w2 := grown_chg hgrow2
        have hrow : ∀ x ∈ rowOf v, w.heap.size + 2 ≤ x := fun x hx => (HOW.out.lt x (mem_rowOf.1 hx)).1
        have hb2 := hcg.blk HB.out (fun h => by have := hrow _ h; omega)
        have hf2 := hcg.blk HF.out (fun h => by have := hrow _ h; omega)
        have HB2 := Lib.hid hb2
        have HF2 := Lib.hid hf2
        have HE2 := Lib.hid (hcg.ext HE.out (fun x hx => by have := hrow x hx; omega))
        have HOW2 := Lib.hid (show w2.ownsRow (w.heap.size + 2) 26 6 v2 (k + 1) (rep (k + 1) nb) by
          rw [← rep_snoc]; exact hown2)
        have hltf2 := blk_lt hf2
        obtain ⟨g2, cap2, rfl, _, _⟩ := HOW2.out.form (by omega)
        clear f0 f1 f2 f3 f4 f5 ff b0 b1 b2 b3 b4 b5 bf hcg hrow hb2 hown2 hgrow2
        obtain ⟨f0, f1, f2, f3, f4, f5, ff⟩ := blk6 hf2
        clear hf2
        go_wp2_with fail
        go_roundw
        case rel =>
          refine ⟨k + 1, .slice (some ⟨g2, 0, none⟩) (k + 1) cap2, by omega, by go_num, ?_, ?_, ?_, HE2.out.setAbove (by simp) _⟩
          · rw [heap_setCell_other _ _ _ _ (by simp)]; exact HB2.out
          · rw [heap_setCell_same _ _ _ _ _ _ HF2.out]; rfl
          · exact owns_chg HOW2.out ((Chg.refl [w.heap.size + 1] w2).setCell (Or.inl (by simp)) _) (fun x hx => by have := (HOW2.out.lt x hx).1; simp; omega)
        case measure => simp [intOf]; omega
      · obtain rfl : k = 299 := by omega
        obtain ⟨g, cap, cur, rfl, hg0, hgb, _⟩ : ∃ g cap cur, v = .slice (some ⟨g, 0, none⟩) 299 cap ∧ w.heap.size + 2 ≤ g ∧ wr.heap[g]? = some (.cells cur 26 (0, 0)) ∧ 299 ≤ cap := by
          rcases HOW.out.2 with ⟨_, h⟩ | ⟨g, cap, cur, h1, h2, h3, h4, _⟩
          · omega
          · exact ⟨g, cap, cur, h1, h2, h3, h4⟩
        have hgl := blk_lt hgb
        clear hgb
        have HWE := Lib.hid (fun (W : World) (h : Ext wr W) => owns_ext HOW.out h)
        go_wp2_with fail
        refine wp_region_grow (m := 9) [7, 8] (fun W => Ext wr W) E16 (R16 wr.heap.size (w.heap.size + 1) g cap nb) (by kernel_rfl) (by kernel_rfl) ((Ext.refl wr).drew) ?_ ?_ ?_
        · exact r16_keeps (by kernel_rfl)
        · intro i o hi ho vs W hW hd ρ hρ
          have hi' : i = 0 ∨ i = 1 ∨ i = 2 ∨ i = 3 ∨ i = 4 ∨ i = 5 ∨ i = 6 ∨ i = 7 ∨ i = 8 := by omega
          clear hi
          have i0 := hρ.ins 0 51 (by omega) rfl (Nat.le_of_ble_eq_true rfl)
          have i1 := hρ.ins 1 52 (by omega) rfl (Nat.le_of_ble_eq_true rfl)
          have i2 := hρ.ins 2 53 (by omega) rfl (Nat.le_of_ble_eq_true rfl)
          have i3 := hρ.ins 3 54 (by omega) rfl (Nat.le_of_ble_eq_true rfl)
          have i4 := hρ.ins 4 55 (by omega) rfl (Nat.le_of_ble_eq_true rfl)
          have i5 := hρ.ins 5 56 (by omega) rfl (Nat.le_of_ble_eq_true rfl)
          have i6 := hρ.ins 6 57 (by omega) rfl (Nat.le_of_ble_eq_true rfl)
          have o8 : ρ (.tmp 8) = .pointer (some ⟨w.heap.size + 1, 0, none⟩) := hρ.out 8 rfl
          have o5 : ρ (.tmp 5) = .pointer (some ⟨w.heap.size, 0, none⟩) := hρ.out 5 rfl
          have hc := hρ.const
          clear hρ
          have hws := hW.size
          rcases hi' with rfl | rfl | rfl | rfl | rfl | rfl | rfl | rfl | rfl
          · cases ho
            unfold GivesOp
            go_simp
            exact ⟨(Ext.refl W).alloc _, hW.alloc _, W.heap.size, rfl, hws, alloc_new W _⟩
          · cases ho
            unfold GivesOp
            go_simp
            exact ⟨Ext.refl W, rfl⟩
          · cases ho
            have h1 : vs 1 = _ := hd ⟨1, .data⟩ (by simp) rfl
            rw [h1] at i1
            have hf := hW.cell f5
            unfold GivesOp
            go_simp
            exact ⟨Ext.refl W, rfl⟩
          · cases ho
            obtain ⟨x, h0, hx1, hx2⟩ := hd ⟨0, .data⟩ (by simp) rfl
            have h2 : vs 2 = _ := hd ⟨2, .data⟩ (by simp) rfl
            rw [h0] at i0
            rw [h2] at i2
            refine gives_append elemEx _ _ wr.heap.size _ 0 [] i0 g 299 cap (rep 299 nb) i2 (rep_len 299 nb) (rep_one 299 nb) (by omega) (by omega) (by omega) ⟨rfl, Or.inr ⟨x, 0, #[], rfl, hx1, hx2, Nat.le_refl _, by unfold maxLen; omega, rfl, rfl⟩⟩ (owns_at (HWE.out W hW)) hws ?_
            intro g6 cap6 w6 ho6 hg6 hl6 hlt6
            exact ⟨⟨x, hg6, hx2⟩, Ext.grown hW hg6 (fun k hk => by cases hk; exact hx1), g6, cap6, rfl, (owns_base ho6 _ rfl), ho6⟩
          · cases ho
            have c0 := hW.cell b0
            have c1 := hW.cell b1
            have c2 := hW.cell b2
            have c3 := hW.cell b3
            have c4 := hW.cell b4
            have c5 := hW.cell b5
            unfold GivesOp
            go_simp
            exact ⟨Ext.refl W, rfl⟩
          · cases ho
            have h4 : vs 4 = _ := hd ⟨4, .data⟩ (by simp) rfl
            rw [h4] at i4
            unfold ExV.val exV at i4
            unfold GivesOp
            go_simp
            exact ⟨(Ext.refl W).alloc _, hW.alloc _, W.heap.size, rfl, alloc_new W _⟩
          · cases ho
            obtain ⟨x, c, h3, hx1, hx2⟩ := hd ⟨3, .data⟩ (by simp) rfl
            obtain ⟨y, h5, hy⟩ := hd ⟨5, .data⟩ (by simp) rfl
            rw [h3] at i3
            rw [h5] at i5
            refine gives_append elemEx _ _ wr.heap.size _ 299 _ i3 y 1 1 (atomV nb).cells i5 rfl (by intro u hu; exact rep_one 1 nb u (by simpa [rep] using hu)) (by omega) (by omega) (by omega) hx2 (fun j hj => by rw [blk_cell hy]; simp [hj]) hws ?_
            intro g7 cap7 w7 ho7 hg7 hl7 hlt7
            rw [rep_snoc] at ho7
            obtain ⟨cur, hcur, hcs⟩ : ∃ cur, W.heap[x]? = some (.cells cur 26 (0, 0)) ∧ 1794 ≤ cur.size := by
              rcases hx2.2 with ⟨h, _⟩ | ⟨g', cap', cur, h1, _, h2, h4, _, h5, _⟩
              · cases h
              · cases h1; exact ⟨cur, h2, by omega⟩
            exact ⟨⟨x, cur, hg7, hcur, hcs⟩, Ext.grown hW hg7 (fun k hk => by cases hk; exact hx1), g7, cap7, rfl, ho7⟩
          · cases ho
            obtain ⟨x, c, h6, hx1⟩ := hd ⟨6, .data⟩ (by simp) rfl
            rw [h6] at i6
            unfold GivesOp
            go_simp
            exact ⟨Ext.refl W, x, c, rfl, hx1⟩
          · cases ho
            unfold GivesOp
            go_simp
            exact ⟨(Ext.refl W).alloc _, hW.alloc _, W.heap.size, rfl, hws, alloc_new W _⟩
        · intro vs W hW hR
          rw [if_neg (by decide +kernel)]
          obtain ⟨x, c, h7, hx1⟩ := hR 7 (by simp) (by omega)
          obtain ⟨y, h8, hy1, hy2⟩ := hR 8 (by simp) (by omega)
          unfold exV at h7
          unfold exV0 ExV.cells at hy2
          have hyl := blk_lt hy2
          obtain ⟨y0, y1, y2, y3, y4, y5, yf⟩ := blk6 hy2
          unfold wpOp
          simp only [acts, dstAt, List.range, List.range.loop, List.foldl_cons, List.foldl_nil, h7, h8]
          go_simp
          refine Or.inl ?_
          have hP : Chg [y] W (put6 W y ⟨7, ⟨#[]⟩, none, 0, 0, 0, 0, some ⟨x, 0, none⟩, 300, c⟩) := put6_chg _ _ _ (by simp)
          have hPb := put6_blk (t := 26) (y := exV0) hy2 ⟨7, ⟨#[]⟩, none, 0, 0, 0, 0, some ⟨x, 0, none⟩, 300, c⟩
          have hxy : x ≠ y := by
            rcases hx1.2 with ⟨h, _⟩ | ⟨g', cap', cur, h1, _, h2, h4, _, h5, _⟩
            · cases h
            · cases h1
              intro e; subst e
              rw [h2] at hy2
              cases hy2
              simp at h5
              omega
          unfold put6 at hP hPb
          simp only at hP hPb
          generalize ((((((W.setCell ⟨y, 0, none⟩ (.int .i64 7)).setCell ⟨y, 1, none⟩ (.string ⟨#[]⟩)).setCell ⟨y, 2, none⟩ (.slice none 0 0)).setCell ⟨y, 3, none⟩ (.int .i64 0)).setCell ⟨y, 4, none⟩ (.int .i64 0)).setCell ⟨y, 5, none⟩ (.slice (some ⟨x, 0, none⟩) 300 c)) = W6 at *
          have hE6 : Ext wr W6 := hP.ext hW (by simpa using hy1)
          have hown6 := owns_chg hx1 hP (by intro k hk; cases hk; simpa using hxy)
          have HV := Lib.hid (wide_is (HWE.out W6 hE6))
          have HV2 := Lib.hid (wide_is hown6)
          have HE6 := Lib.hid hE6
          have HY := Lib.hid hPb
          have hyl6 := blk_lt hPb
          replace f0 := hE6.cell f0
          replace f1 := hE6.cell f1
          replace f2 := hE6.cell f2
          replace f3 := hE6.cell f3
          replace f4 := hE6.cell f4
          replace f5 := hE6.cell f5
          have hltf6 : w.heap.size + 1 < W6.heap.size := by have := hE6.size; omega
          clear hP hPb hown6 hE6 hW hR hx1 h7 h8 hy1 hy2 hyl y0 y1 y2 y3 y4 y5 yf b0 b1 b2 b3 b4 b5 bf ff
          go_wp2_with fail
          refine (Valid_calls _ _ _ HV.out (HO.out.ext (HE.out.trans HE6.out)) (wide_fits 299 nb)).mono ?_
          rintro r w1 ⟨rfl, hx1⟩
          rw [(wide_valid nb).1]
          have HX1 := Lib.hid hx1
          have hby := hx1.blk HY.out
          have hylt := blk_lt hby
          have HY1 := Lib.hid hby
          unfold ExV.cells at hby
          obtain ⟨y0, y1, y2, y3, y4, y5, yf⟩ := blk6 hby
          clear hby hx1 f0 f1 f2 f3 f4 f5
          go_wp2_with fail
          refine (Valid_calls _ _ _ (HV2.out.ext HX1.out) (HO.out.ext ((HE.out.trans HE6.out).trans HX1.out)) (wide_fits 300 nb)).mono ?_
          rintro r w2 ⟨rfl, hx2⟩
          rw [(wide_valid nb).2.1]
          have HX2 := Lib.hid (HX1.out.trans hx2)
          have hby := hx2.blk HY1.out
          have hylt2 := blk_lt hby
          unfold ExV.cells at hby
          clear y0 y1 y2 y3 y4 y5 yf hx2
          obtain ⟨y0, y1, y2, y3, y4, y5, yf⟩ := blk6 hby
          clear hby
          go_wp2_with fail
          refine (size_calls 301 _ _ _ (by rw [(wide_valid nb).2.2]; omega) (by omega) (HV2.out.ext HX2.out)).mono ?_
          rintro r w3 ⟨rfl, hx3⟩
          rw [(wide_valid nb).2.2]
          have HX3 := Lib.hid ((HE.out.trans HE6.out).trans (HX2.out.trans hx3))
          clear y0 y1 y2 y3 y4 y5 yf hx3
          go_wp2_with fail
          refine (awake_calls _ (HO.out.ext HX3.out)).mono ?_
          rintro r w4 ⟨rfl, hx4⟩
          go_wp2_with fail
          go_ret
          exact ⟨rfl, HX3.out.trans hx4⟩
end Go.Proofs.YtaepiiediblleaaDoor
