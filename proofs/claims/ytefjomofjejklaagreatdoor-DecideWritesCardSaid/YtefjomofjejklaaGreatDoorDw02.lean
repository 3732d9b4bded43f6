/-
  Texts of the claim, joined: Ch3, RVer, Val11, Fmt, OkTree, Fmt2, LawExpr, Plain2.
-/
import Derived.Test.YtefjomofjejklaaGreatDoorDw01
namespace Go.Proofs.YtefjomofjejklaaGreatDoor
set_option maxRecDepth 100000
set_option maxHeartbeats 32000000
open Go.RowKit
section
variable {P : Program} {ops : Array Oper} {Q : Exit -> Act -> World -> Prop} {m : Nat} {Er : World -> World -> Prop} {C : World -> Prop} {k : Nat} {o : Oper} {r l : List Oper} {ac : Act} {Φ FA : World -> Prop} {gh pf : ZN}
def Chn (P : Program) (ops : Array Oper) (Q : Exit -> Act -> World -> Prop) (m : Nat) (Er : World -> World -> Prop) (C : World -> Prop) (k : Nat) (l : List Oper) (ac : Act) (Φ FA : World -> Prop) (gh pf : ZN) : Prop := (∀ j, l[j]? = ops[k + j]?) -> ∃ t, Ok P ops Q m Er C t k ac Φ FA gh pf
theorem chn_hd (h : ∀ j, (o :: r)[j]? = ops[k + j]?) : ops[k]? = some o /\ dstAt ops k = o.dst /\ ∀ j, r[j]? = ops[k + 1 + j]? := by
 have h0 : ops[k]? = some o := by simpa using (h 0).symm
 exact ⟨h0, by unfold dstAt; rw [h0]; rfl, fun j => by have := h (j + 1); simpa [Nat.add_assoc, Nat.add_comm 1 j] using this⟩
theorem det_quiet {W : World} {v : Value} {D : World -> Prop} (hn : noCall o = true) (hw : Region.wanted o (yielded ops ac.tmps) = true) (h : o.quietAt P ac D W v) : Det P ops o ac W v W := by
 unfold Oper.quietAt at h
 have hne := fun f args W' => noCall_enter hn ac.eval P W f args W'
 unfold Det
 refine Or.inl ⟨hw, ?_⟩
 revert h hne
 generalize (execOp ac.eval o).run P W = q
 intro h hne
 cases q with
 | ok n w' =>
  cases n <;> simp only [Oper.quietUpon] at h
  case value u => obtain ⟨rfl, rfl⟩ := h; exact Or.inl rfl
  case skip => obtain ⟨rfl, rfl⟩ := h; exact Or.inr ⟨rfl, rfl⟩
  case enter f args => exact absurd rfl (hne f args w')
 | halt x w' => simp only [Oper.quietUpon] at h
structure KnownP (Er : World -> World -> Prop) (v : Value) (Φ' : World -> Prop) (W : World) (u : Value) (W' : World) : Prop where
 er : Er W W'
 val : u = v
 phi : Φ' W'
structure CallP {γ : Type} (Er : World -> World -> Prop) (val : γ -> Value) (Φ' : γ -> World -> Prop) (W : World) (u : Value) (W' : World) : Prop where
 er : Er W W'
 ex : ∃ c, u = val c /\ Φ' c W'
structure NewP (val : Nat -> Value) (F : Nat -> World -> Prop) (W : World) (u : Value) (W' : World) : Prop where
 er : Ext W W'
 ex : ∃ g, u = val g /\ F g W'
theorem chn_plain (h : ∀ K : Act -> Prop, (∀ a, Chn P ops Q m Er C (k + 1) r a Φ FA gh pf -> K a) -> o.quiet P ac (fun w => ∃ τ : WIn C, w = τ.1) K) (hw : Region.wanted o (yielded ops ac.tmps) = true := by rfl) (hk : Nat.ble (k + 1) m = true := by rfl) (hn : noCall o = true := by rfl) : Chn P ops Q m Er C k (o :: r) ac Φ FA gh pf := by
 intro hl
 obtain ⟨ho, hd, hr⟩ := chn_hd hl
 obtain ⟨v, hv, hn'⟩ := h (fun a => Chn P ops Q m Er C (k + 1) r a Φ FA gh pf) (fun _ h => h)
 obtain ⟨t, ht⟩ := hn' hr
 exact ⟨.plain v t, Nat.le_of_ble_eq_true hk, ⟨o, ho, fun W hC => det_quiet hn hw (hv W ⟨⟨W, hC⟩, rfl⟩)⟩, by rw [hd]; exact ht⟩
theorem chn_new (val : Nat -> Value) (F : Nat -> World -> Prop) (h : ∀ W, C W -> GivesOp P o ac.eval W (NewP val F W)) (hs : ∀ g W W', Er W W' -> F g W -> F g W')
  (hx : ∀ g, ∀ K : Act -> Prop, (∀ a, Chn P ops Q m Er C (k + 1) r a Φ (fun W => FA W /\ F g W) (k :: gh) pf -> K a) -> K (ac.put o.dst (val g))) (hw : Region.wanted o (yielded ops ac.tmps) = true := by rfl) (hk : Nat.ble (k + 1) m = true := by rfl) (hn : noCall o = true := by rfl) : Chn P ops Q m Er C k (o :: r) ac Φ FA gh pf := by
 intro hl
 obtain ⟨ho, hd, hr⟩ := chn_hd hl
 have hy : ∀ g, ∃ t, Ok P ops Q m Er C t (k + 1) (ac.put o.dst (val g)) Φ (fun W => FA W /\ F g W) (k :: gh) pf := fun g => hx g (fun a => Chn P ops Q m Er C (k + 1) r a Φ (fun W => FA W /\ F g W) (k :: gh) pf) (fun _ h => h) hr
 refine ⟨.alloc val F (fun g => (hy g).choose), Nat.le_of_ble_eq_true hk, ⟨o, ho, fun W hC => ?_⟩, hs, fun g => by rw [hd]; exact (hy g).choose_spec⟩
 have h1 := h W hC
 have hne := fun f args W' => noCall_enter hn ac.eval P W f args W'
 unfold GivesOp at h1
 unfold Det
 revert h1 hne
 generalize (execOp ac.eval o).run P W = q
 intro h1 hne
 split at h1
 ·obtain ⟨a1, g, rfl, a3⟩ := h1
  exact ⟨g, _, Or.inl ⟨hw, Or.inl rfl⟩, a1, a3⟩
 ·obtain ⟨a1, g, a2, a3⟩ := h1
  exact ⟨g, _, Or.inl ⟨hw, Or.inr ⟨rfl, a2.symm⟩⟩, a1, a3⟩
 ·exact absurd rfl (hne _ _ _)
 exact h1.elim
theorem chn_call {γ : Type} (val : γ -> Value) (Φ' : γ -> World -> Prop) (h : ∀ W, C W -> Φ W -> FA W -> GivesOp P o ac.eval W (CallP Er val Φ' W)) (hs : ∀ c W W', Ext W W' -> Φ' c W -> Φ' c W')
  (hx : ∀ c, ∀ K : Act -> Prop, (∀ a, Chn P ops Q m Er C (k + 1) r a (Φ' c) FA (k :: gh) pf -> K a) -> K (ac.put o.dst (val c))) (hne : Nonempty γ := by infer_instance) (hw : Region.wanted o (yielded ops ac.tmps) = true := by rfl) (hk : Nat.ble (k + 1) m = true := by rfl)
  (hg : gh.all (fun j => comesAfter ops m k j) = true := by kernel_rfl) (hp : pf.all (fun j => comesAfter ops m k j) = true := by kernel_rfl) : Chn P ops Q m Er C k (o :: r) ac Φ FA gh pf := by
 intro hl
 obtain ⟨ho, hd, hr⟩ := chn_hd hl
 have hy : ∀ c, ∃ t, Ok P ops Q m Er C t (k + 1) (ac.put o.dst (val c)) (Φ' c) FA (k :: gh) pf := fun c => hx c (fun a => Chn P ops Q m Er C (k + 1) r a (Φ' c) FA (k :: gh) pf) (fun _ h => h) hr
 exact ⟨.call γ val Φ' (fun c => (hy c).choose), Nat.le_of_ble_eq_true hk, hg, hp, ⟨o, ho, fun W h1 h2 h3 => by unfold Outs; rw [if_pos hw]; exact (h W h1 h2 h3).mono fun _ _ q => ⟨q.er, q.ex⟩⟩, hne, hs, fun c => by rw [hd]; exact (hy c).choose_spec⟩
theorem chn_known (v : Value) (Φ' : World -> Prop) (h : ∀ W, C W -> Φ W -> FA W -> GivesOp P o ac.eval W (KnownP Er v Φ' W)) (hs : ∀ W W', Ext W W' -> Φ' W -> Φ' W')
  (hx : ∀ K : Act -> Prop, (∀ a, Chn P ops Q m Er C (k + 1) r a Φ' FA (k :: gh) pf -> K a) -> K (ac.put o.dst v)) (hw : Region.wanted o (yielded ops ac.tmps) = true := by rfl) (hk : Nat.ble (k + 1) m = true := by rfl)
  (hg : gh.all (fun j => comesAfter ops m k j) = true := by kernel_rfl) (hp : pf.all (fun j => comesAfter ops m k j) = true := by kernel_rfl) : Chn P ops Q m Er C k (o :: r) ac Φ FA gh pf :=
 chn_call (γ := Unit) (fun _ => v) (fun _ => Φ') (fun W h1 h2 h3 => (h W h1 h2 h3).mono fun _ _ ⟨q1, q2, q3⟩ => ⟨q1, (), q2, q3⟩) (fun _ => hs) (fun _ => hx) ⟨()⟩ hw hk hg hp
theorem chn_ge {f : FuncId} {args : Array Value} {v : Value} (h : ∀ W, C W -> Calls P f args W (GivesE v W))
  (hx : ∀ K : Act -> Prop, (∀ a, Chn P ops Q m Er C (k + 1) r a Φ FA (k :: gh) pf -> K a) -> K (ac.put o.dst v)) (hs : ∀ W W', Ext W W' -> Φ W -> Φ W' := by exact fun _ _ _ h => h) (hX : ∀ W W', Ext W W' -> Er W W' := by first | exact fun _ _ h => h | exact fun _ _ h => h.shp _ | exact fun _ _ h => h.chg _) (he : ∀ (W : World) (T : Value -> World -> Prop), Calls P f args W (fun e W' => ∃ u, e = .returned u /\ T u W') -> GivesOp P o ac.eval W T := by intro _ _ _; unfold GivesOp; go_simp <;> assumption) (hw : Region.wanted o (yielded ops ac.tmps) = true := by rfl) (hk : Nat.ble (k + 1) m = true := by rfl)
  (hg : gh.all (fun j => comesAfter ops m k j) = true := by kernel_rfl) (hp : pf.all (fun j => comesAfter ops m k j) = true := by kernel_rfl) : Chn P ops Q m Er C k (o :: r) ac Φ FA gh pf :=
 chn_known v Φ (fun W h1 h2 _ => he W _ ((h W h1).mono fun _ _ ⟨q1, q2⟩ => ⟨v, q1, hX _ _ q2, rfl, hs _ _ q2 h2⟩)) hs hx hw hk hg hp
theorem chn_tail (h : ∀ W, C W -> Φ W -> FA W -> wpList P ops Q l ac W) (hk : k = m := by rfl) : Chn P ops Q m Er C k l ac Φ FA gh pf := fun hl => ⟨.done, hk, fun W h1 h2 h3 => by
 have : ops.toList.drop m = l := by
  apply List.ext_getElem?
  intro j
  rw [List.getElem?_drop, hl j, <- hk, Array.getElem?_toList]
 rw [this]
 exact h W h1 h2 h3⟩
theorem chn_nil (h : ∀ W, C W -> Φ W -> FA W -> Q .normal ac W) (hk : k = m := by rfl) : Chn P ops Q m Er C k [] ac Φ FA gh pf := chn_tail h hk
theorem chn_start {id : Nat} {a : Act} {w : World} (hR : ∀ W, Er W W) (hXE : ∀ W W', Ext W W' -> Er W W') (hCE : ∀ W W', C W -> Er W W' -> C W') (hC : C w.drew) (hΦ : Φ w.drew) (hs : ∀ W W', Ext W W' -> Φ W -> Φ W')
  (h : Chn P l.toArray Q m Er C 0 l a Φ (fun _ => True) [] []) (hm : P.follows .mixedOrders = true := by kernel_rfl) (hok : okCh l.toArray m = true := by kernel_rfl) : (Code.region id l.toArray true).wp P Q a w :=
 wp_region_chn hm hok hR hXE hCE hC hΦ hs (h fun j => by simp)
theorem chn_ext {id : Nat} {a : Act} {w : World} (m : Nat) (h : Chn P l.toArray Q m Ext (Ext w) 0 l a (fun _ => True) (fun _ => True) [] []) (hm : P.follows .mixedOrders = true := by kernel_rfl) (hok : okCh l.toArray m = true := by kernel_rfl) : (Code.region id l.toArray true).wp P Q a w :=
 chn_start Ext.refl (fun _ _ h => h) (fun _ _ h k => h.trans k) (Ext.refl w).drew trivial (fun _ _ _ h => h) h hm hok
end
instance (w : World) : Nonempty (WIn (Ext w)) := ⟨⟨w, Ext.refl w⟩⟩
instance (N : ZN) (w : World) : Nonempty (WIn (Chg N w)) := ⟨⟨w, Chg.refl N w⟩⟩
theorem win_cell {w : World} {p : Addr} {v : Value} (h : w.cell? p = some v) : ∀ τ : WIn (Ext w), τ.1.cell? p = some v := fun τ => τ.2.cell h
structure Dec where
 ver : Int
 lim : Int
 ded : Int
 fra : Int
 coi : Int
 avg : Bool
def Dec.cells (d : Dec) : Array Value := #[.int .i64 d.ver, .int .i64 d.lim, .int .i64 d.ded, .int .i64 d.fra, .int .i64 d.coi, .bool d.avg]
def limS (V : Ex -> Bool) (m : Int) (x : Cla) : Int := if (x.kind == 5 && claV V x && (decide (m < 0) || decide (x.amount < m))) = true then x.amount else m
def limK (V : Ex -> Bool) (l : List Cla) : Int := l.foldl (limS V) (-1)
def vdB (V : Ex -> Bool) (l : List Cla) : Dec :=
 if someB V 2 false l = false then ⟨1, 0, 0, 0, 0, false⟩ else if someB V 4 true l = true then ⟨2, 0, 0, 0, 0, false⟩ else if someB V 3 false l = true then ⟨3, 0, 0, 0, 0, false⟩
 else ⟨4, limK V l, greatK V 6 l, greatK V 7 l, greatK V 8 l, someB V 9 false l⟩
theorem blk6d {w : World} {b : Nat} {v0 v1 v2 v3 v4 v5 : Value} {t : TypeId} (h : w.heap[b]? = some (.cells #[v0, v1, v2, v3, v4, v5] t (0, 0))) :
  w.cell? ⟨b, 0, none⟩ = some v0 /\ w.cell? ⟨b, 1, none⟩ = some v1 /\ w.cell? ⟨b, 2, none⟩ = some v2 /\ w.cell? ⟨b, 3, none⟩ = some v3 /\ w.cell? ⟨b, 4, none⟩ = some v4 /\ w.cell? ⟨b, 5, none⟩ = some v5 /\ (∀ o, w.frozen? ⟨b, o, none⟩ = false) :=
 ⟨blk_cell h 0, blk_cell h 1, blk_cell h 2, blk_cell h 3, blk_cell h 4, blk_cell h 5, fun o => blk_free h o⟩
def put6d (w : World) (B : Nat) (v0 v1 v2 v3 v4 v5 : Value) : World := (((((w.setCell ⟨B, 0, none⟩ v0).setCell ⟨B, 1, none⟩ v1).setCell ⟨B, 2, none⟩ v2).setCell ⟨B, 3, none⟩ v3).setCell ⟨B, 4, none⟩ v4).setCell ⟨B, 5, none⟩ v5
theorem put6d_blk {w : World} {B : Nat} {u0 u1 u2 u3 u4 u5 v0 v1 v2 v3 v4 v5 : Value} {t : TypeId} (h : w.heap[B]? = some (.cells #[u0, u1, u2, u3, u4, u5] t (0, 0))) : (put6d w B v0 v1 v2 v3 v4 v5).heap[B]? = some (.cells #[v0, v1, v2, v3, v4, v5] t (0, 0)) := by
 unfold put6d
 rw [heap_setCell_same _ _ _ _ _ _ (heap_setCell_same _ _ _ _ _ _ (heap_setCell_same _ _ _ _ _ _ (heap_setCell_same _ _ _ _ _ _ (heap_setCell_same _ _ _ _ _ _ (heap_setCell_same _ _ _ _ _ _ h)))))]
 rfl
theorem put6d_chg (w : World) (B : Nat) {v0 v1 v2 v3 v4 v5 : Value} : Chg [B] w (put6d w B v0 v1 v2 v3 v4 v5) := by
 unfold put6d
 repeat (with_reducible (refine Chg.setCell ?_ ?_ _))
 exact Chg.refl _ _
 all_goals exact Or.inl (by simp)
def DecO (d : Dec) : Obj := .cells d.cells 29 (0, 0)
def domB (a : Attr) : Int × Int := if a.kind = 1 then (0, (a.words.length : Int) - 1) else if a.kind = 2 then (a.lo, a.hi) else (0, 1)
def factsAll : List Attr -> ZI -> Bool
 | [], [] => true
 | a :: r, v :: q => decide ((domB a).1 <= v) && decide (v <= (domB a).2) && factsAll r q
 | _, _ => false
def factsB (s : List Attr) (f : ZI) : Bool := decide (schemaErr s = 0) && factsAll s f
theorem factsAll_len : {s : List Attr} -> {f : ZI} -> factsAll s f = true -> f.length = s.length
 | [], [], _ => rfl
 | a :: r, v :: q, h => by
  simp only [factsAll, Bool.and_eq_true] at h
  simp [factsAll_len h.2]
 | [], v :: q, h => by simp [factsAll] at h
 | a :: r, [], h => by simp [factsAll] at h
theorem factsAll_at : {s : List Attr} -> {f : ZI} -> factsAll s f = true -> (i : Nat) -> (hi : i < s.length) -> (hj : i < f.length) -> (domB s[i]).1 <= f[i] /\ f[i] <= (domB s[i]).2
 | a :: r, v :: q, h, 0, _, _ => by
  simp only [factsAll, Bool.and_eq_true, decide_eq_true_eq] at h
  simpa using h.1
 | a :: r, v :: q, h, i + 1, hi, hj => by
  simp only [factsAll, Bool.and_eq_true] at h
  simpa using factsAll_at h.2 i (by simpa using hi) (by simpa using hj)
theorem factsAll_of : {s : List Attr} -> {f : ZI} -> f.length = s.length -> (∀ i (hi : i < s.length) (hj : i < f.length), (domB s[i]).1 <= f[i] /\ f[i] <= (domB s[i]).2) -> factsAll s f = true
 | [], [], _, _ => rfl
 | a :: r, v :: q, h, h2 => by
  have h0 := h2 0 (by simp) (by simp)
  simp only [List.getElem_cons_zero] at h0
  simp only [factsAll, Bool.and_eq_true, decide_eq_true_eq]
  exact ⟨h0, factsAll_of (by simpa using h) fun i hi hj => by have := h2 (i + 1) (by simpa using hi) (by simpa using hj); simpa using this⟩
 | [], v :: q, h, _ => by simp at h
 | a :: r, [], h, _ => by simp at h
def factV (s : List Attr) (f : ZI) (op : Int) (name : BA) (words : ZB) (lo hi : Int) : Bool :=
 if op = 1 then true else if op = 2 then false else
 match attrAt s name with
 | none => false
 | some i => if op = 4 then words.any (fun x => decide (x = (s.getD i attr0).words.getD (f.getD i 0).toNat ⟨#[]⟩)) else if op = 5 then decide (lo <= f.getD i 0) && decide (f.getD i 0 <= hi) else decide (f.getD i 0 = 1)
mutual
def valE (s : List Attr) (f : ZI) (D : BA -> Option Bool) : Ex -> Bool
 | .mk op name words lo hi args => if op = 6 then !(valHd s f D args) else if op = 7 then valAll s f D args else if op = 8 then valAny s f D args else if op = 3 then (D name).getD (factV s f op name words lo hi) else factV s f op name words lo hi
def valHd (s : List Attr) (f : ZI) (D : BA -> Option Bool) : List Ex -> Bool
 | [] => false
 | e :: _ => valE s f D e
def valAll (s : List Attr) (f : ZI) (D : BA -> Option Bool) : List Ex -> Bool
 | [] => true
 | e :: r => valE s f D e && valAll s f D r
def valAny (s : List Attr) (f : ZI) (D : BA -> Option Bool) : List Ex -> Bool
 | [] => false
 | e :: r => valE s f D e || valAny s f D r
end
theorem valAll_iff {s : List Attr} {f : ZI} {D : BA -> Option Bool} : (l : List Ex) -> valAll s f D l = l.all (valE s f D)
 | [] => by rw [valAll]; rfl
 | e :: r => by rw [valAll, valAll_iff r]; rfl
theorem valAny_iff {s : List Attr} {f : ZI} {D : BA -> Option Bool} : (l : List Ex) -> valAny s f D l = l.any (valE s f D)
 | [] => by rw [valAny]; rfl
 | e :: r => by rw [valAny, valAny_iff r]; rfl
def valF (s : List Attr) (l : List Cla) (f : ZI) : Nat -> Ex -> Bool
 | 0, _ => false
 | k + 1, e => valE s f (fun x => (defAt l x).map fun d => valF s l f k (l.getD d cla0).cond) e
def val (s : List Attr) (l : List Cla) (f : ZI) (e : Ex) : Bool := valF s l f (l.length + 1) e
mutual
theorem valE_congr {s : List Attr} {f : ZI} {D D' : BA -> Option Bool} : (e : Ex) -> (∀ x ∈ namesE e, D x = D' x) -> valE s f D e = valE s f D' e
 | .mk op name words lo hi args, h => by
  have h2 : ∀ x ∈ namesL args, D x = D' x := fun x hx => h x (by rw [namesE]; exact List.mem_append_right _ hx)
  obtain ⟨q1, q2, q3⟩ := valL_congr args h2
  rw [valE, valE, q1, q2, q3]
  by_cases h3 : op = 3
  ·rw [h name (by rw [namesE, h3]; simp)]
  simp [h3]
theorem valL_congr {s : List Attr} {f : ZI} {D D' : BA -> Option Bool} : (l : List Ex) -> (∀ x ∈ namesL l, D x = D' x) -> valHd s f D l = valHd s f D' l /\ valAll s f D l = valAll s f D' l /\ valAny s f D l = valAny s f D' l
 | [], _ => ⟨by rw [valHd, valHd], by rw [valAll, valAll], by rw [valAny, valAny]⟩
 | e :: r, h => by
  have h1 := valE_congr (s := s) (f := f) e fun x hx => h x (by rw [namesL]; exact List.mem_append_left _ hx)
  obtain ⟨_, q2, q3⟩ := valL_congr (s := s) (f := f) r fun x hx => h x (by rw [namesL]; exact List.mem_append_right _ hx)
  exact ⟨by rw [valHd, valHd, h1], by rw [valAll, valAll, h1, q2], by rw [valAny, valAny, h1, q3]⟩
end
theorem expE_name {D : BA -> Option Nat} : (e : Ex) -> expE D e <= 2000 -> ∀ x n, x ∈ namesE e -> D x = some n -> n <= 2000
 | .mk op name words lo hi args, h, x, n, hx, hD => by
  rw [expE] at h
  rw [namesE] at hx
  rcases List.mem_append.1 hx with h1 | h1
  ·by_cases h3 : op = 3
   ·simp [h3] at h1; subst h1
    simp [h3, hD] at h; omega
   simp [h3] at h1
  exact expL_name args (by omega) x n h1 hD
where
 expL_name {D : BA -> Option Nat} : (l : List Ex) -> expL D l <= 2000 -> ∀ x n, x ∈ namesL l -> D x = some n -> n <= 2000
  | [], _, x, n, hx, _ => by rw [namesL] at hx; simp at hx
  | e :: r, h, x, n, hx, hD => by
   rw [expL] at h
   rw [namesL] at hx
   rcases List.mem_append.1 hx with h1 | h1
   ·exact expE_name e (by omega) x n h1 hD
   exact expL_name r (by omega) x n h1 hD
theorem valF_stable (s : List Attr) (l : List Cla) (f : ZI) : (k m : Nat) -> (e : Ex) -> expF l k e <= 2000 -> k <= m -> valF s l f k e = valF s l f m e
 | 0, _, e, h, _ => by simp [expF] at h
 | k + 1, 0, e, _, hm => by omega
 | k + 1, m + 1, e, h, hm => by
  rw [valF, valF]
  refine valE_congr e fun x hx => ?_
  cases hd : defAt l x with
  | none => rfl
  | some d =>
   rw [expF] at h
   have := expE_name e h x (expF l k (l.getD d cla0).cond) hx (by rw [hd]; rfl)
   simp only [Option.map_some, Option.some.injEq]
   exact valF_stable s l f k m _ this (by omega)
def nameT (s : BA) : Tok := ⟨1, s, 0, 0⟩
def markT (c : UInt8) : Tok := ⟨4, ⟨#[c]⟩, 0, 0⟩
def numT (n : Int) : Tok := ⟨2, ⟨#[]⟩, n, 0⟩
def wTo : BA := ⟨#[116, 111]⟩
def listedT : ZB -> List Tok
 | [] => []
 | [s] => [nameT s]
 | s :: r => nameT s :: markT 44 :: listedT r
def paren (op aop : Int) : Bool := aop == 8 || (aop == 7 && op != 8)
mutual
def tokE : Ex -> List Tok
 | .mk op name words lo hi args =>
  if op = 1 then [nameT wTrue] else if op = 2 then [nameT wFalse] else if op = 3 then [nameT name] else
  if op = 4 then [nameT name, nameT wIn, markT 40] ++ listedT words ++ [markT 41] else
  if op = 5 then [nameT name, nameT wFrom, numT lo, nameT wTo, numT hi] else
  (if op = 6 then [nameT wNot] else []) ++ tokArgs op args
def tokArgs (op : Int) : List Ex -> List Tok
 | [] => []
 | a :: r => (if paren op a.op then [markT 40] ++ tokE a ++ [markT 41] else tokE a) ++ tokMore op r
def tokMore (op : Int) : List Ex -> List Tok
 | [] => []
 | a :: r => [nameT (if op = 7 then wAnd else wOr)] ++ (if paren op a.op then [markT 40] ++ tokE a ++ [markT 41] else tokE a) ++ tokMore op r
end
def okNode (e : Ex) : Prop :=
 (e.op = 1 /\ e.name = ⟨#[]⟩ /\ e.words = [] /\ e.lo = 0 /\ e.hi = 0 /\ e.args = []) \/ (e.op = 2 /\ e.name = ⟨#[]⟩ /\ e.words = [] /\ e.lo = 0 /\ e.hi = 0 /\ e.args = []) \/
 (e.op = 3 /\ nameB e.name = true /\ e.words = [] /\ e.lo = 0 /\ e.hi = 0 /\ e.args = []) \/ (e.op = 4 /\ nameB e.name = true /\ wordsB e.words = true /\ e.lo = 0 /\ e.hi = 0 /\ e.args = []) \/
 (e.op = 5 /\ nameB e.name = true /\ e.words = [] /\ numberB e.lo = true /\ numberB e.hi = true /\ e.lo <= e.hi /\ e.args = []) \/
 (e.op = 6 /\ e.name = ⟨#[]⟩ /\ e.words = [] /\ e.lo = 0 /\ e.hi = 0 /\ e.args.length = 1) \/
 ((e.op = 7 \/ e.op = 8) /\ e.name = ⟨#[]⟩ /\ e.words = [] /\ e.lo = 0 /\ e.hi = 0 /\ 2 <= e.args.length)
mutual
def okTree : Ex -> Prop
 | .mk op name words lo hi args => okNode (.mk op name words lo hi args) /\ okTrees args
def okTrees : List Ex -> Prop
 | [] => True
 | e :: r => okTree e /\ okTrees r
end
theorem refNode_ok (e : Ex) : refNodeB e = true ↔ okNode e := by
 obtain ⟨op, name, words, lo, hi, args⟩ := e
 have hw : words = [] ↔ words.length = 0 := by cases words <;> simp
 have ha : args = [] ↔ args.length = 0 := by cases args <;> simp
 have hnm : name = ⟨#[]⟩ ↔ name.toList.isEmpty = true := by
  rw [List.isEmpty_iff, ByteArray.toList_eq]
  constructor
  ·rintro rfl; rfl
  intro h
  apply ByteArray.ext
  simpa using h
 simp only [refNodeB, refNode, okNode, Ex.op, Ex.name, Ex.words, Ex.lo, Ex.hi, Ex.args, wordsB, hw, ha, hnm]
 by_cases h1 : 1 <= op /\ op <= 8
 ·have hk : op = 1 \/ op = 2 \/ op = 3 \/ op = 4 \/ op = 5 \/ op = 6 \/ op = 7 \/ op = 8 := by omega
  rcases hk with rfl | rfl | rfl | rfl | rfl | rfl | rfl | rfl
  all_goals
   simp
   try grind
 simp [h1]
 omega
mutual
theorem nodes_ok : (e : Ex) -> (nodesB e = true ↔ okTree e)
 | .mk op name words lo hi args => by
  rw [nodesB, okTree, Bool.and_eq_true, refNode_ok, nodesAll_ok args]
theorem nodesAll_ok : (l : List Ex) -> (nodesAll l = true ↔ okTrees l)
 | [] => by simp [nodesAll, okTrees]
 | e :: r => by rw [nodesAll, okTrees, Bool.and_eq_true, nodes_ok e, nodesAll_ok r]
end
theorem okTrees_mem {l : List Ex} (h : okTrees l) : ∀ x ∈ l, okTree x := by
 induction l with
 | nil => intro x hx; simp at hx
 | cons e r ih =>
  unfold okTrees at h
  intro x hx
  rcases List.mem_cons.1 hx with rfl | hx
  ·exact h.1
  exact ih h.2 x hx
instance okAttrDec (a : Attr) : Decidable (OkAttr a) := by unfold OkAttr; infer_instance
theorem schemas_ok : ∀ l ∈ schemas, (∀ a ∈ l, OkAttr a) /\ l ≠ [] /\ l.length <= 1000 := by
 have h : ∀ l ∈ schemas, (∀ a ∈ l, OkAttr a) /\ l.length ≠ 0 /\ l.length <= 1000 := by decide +kernel
 intro l hl
 obtain ⟨h1, h2, h3⟩ := h l hl
 exact ⟨h1, fun e => h2 (by rw [e]; rfl), h3⟩
theorem okTree_parts {e : Ex} (h : okTree e) : okNode e /\ ∀ x ∈ e.args, okTree x := by
 cases e; unfold okTree at h; exact ⟨h.1, okTrees_mem h.2⟩
theorem okTree_mk {e : Ex} (h1 : okNode e) (h2 : ∀ x ∈ e.args, okTree x) : okTree e := by
 cases e with
 | mk op name words lo hi args =>
  unfold okTree
  refine ⟨h1, ?_⟩
  simp only [Ex.args] at h2
  clear h1
  induction args with
  | nil => unfold okTrees; trivial
  | cons a r ih => unfold okTrees; exact ⟨h2 a (by simp), ih (fun x hx => h2 x (List.mem_cons_of_mem _ hx))⟩
def okAttr2 (a : Attr) : Bool := nameB a.name && decide (a.name.size <= 7) && (a.kind != 1 || (decide (a.words.length <= 4) && a.words.all fun x => nameB x && decide (x.size <= 5))) && (a.kind != 2 || (decide (-1000000000 <= a.lo) && decide (a.hi <= 1000000000)))
theorem schemas_ok2 : (schemas.all fun l => l.all okAttr2) = true := by decide +kernel
end Go.Proofs.YtefjomofjejklaaGreatDoor
