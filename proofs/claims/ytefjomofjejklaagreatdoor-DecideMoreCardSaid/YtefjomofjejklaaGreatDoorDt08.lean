/-
  Texts of the claim, joined: Ch3, RVer, Exp1, Val11, Fmt, OkTree, Fmt2.
-/
import Derived.Test.YtefjomofjejklaaGreatDoorDt07
namespace Go.Proofs.YtefjomofjejklaaGreatDoor
set_option maxRecDepth 100000
set_option maxHeartbeats 32000000
open Go.RowKit
section
variable {P : Program} {ops : Array Oper} {π : Nat -> Nat} {Q : Exit -> Act -> World -> Prop} {m : Nat} {Er : World -> World -> Prop} {C : World -> Prop} {k : Nat} {o : Oper} {r l : List Oper} {ac : Act} {Φ FA : World -> Prop} {A : Nat -> Prop} {gh pf : ZN}
theorem Ok.weak : ∀ (t : Tr) (k : Nat) (ac : Act) (Φ FA FA' : World -> Prop) (A : Nat -> Prop) (gh pf : ZN), (∀ W, FA' W -> FA W) -> Ok P ops π Q m Er C t k ac Φ FA A gh pf -> Ok P ops π Q m Er C t k ac Φ FA' A gh pf := by
 intro t
 induction t with
 | done => intro k ac Φ FA FA' A gh pf hw h; exact ⟨h.1, fun W h1 h2 h3 => h.2 W h1 h2 (hw W h3)⟩
 | plain v next ih => intro k ac Φ FA FA' A gh pf hw h; exact ⟨h.1, h.2.1, ih _ _ _ _ _ _ _ _ hw h.2.2⟩
 | later v next ih =>
  intro k ac Φ FA FA' A gh pf hw ⟨h1, h2, ⟨o, h3, h4⟩, h5⟩
  exact ⟨h1, h2, ⟨o, h3, fun W q1 q2 q3 => h4 W q1 q2 (hw W q3)⟩, ih _ _ _ _ _ _ _ _ hw h5⟩
 | alloc val F U next ih => intro k ac Φ FA FA' A gh pf hw h; exact ⟨h.1, h.2.1, h.2.2.1, fun g => ih g _ _ _ _ _ _ _ _ (fun W q => ⟨hw W q.1, q.2⟩) (h.2.2.2 g)⟩
 | call γ val Φ' Ap next ih =>
  intro k ac Φ FA FA' A gh pf hw ⟨h1, h2, h3, ⟨o, h4, h5⟩, h6, h7, h8⟩
  exact ⟨h1, h2, h3, ⟨o, h4, fun W q1 q2 q3 => h5 W q1 q2 (hw W q3)⟩, h6, h7, fun c => ih c _ _ _ _ _ _ _ _ hw (h8 c)⟩
def Chn (P : Program) (ops : Array Oper) (π : Nat -> Nat) (Q : Exit -> Act -> World -> Prop) (m : Nat) (Er : World -> World -> Prop) (C : World -> Prop) (k : Nat) (l : List Oper) (ac : Act) (Φ FA : World -> Prop) (A : Nat -> Prop) (gh pf : ZN) : Prop := (∀ j, l[j]? = ops[π (k + j)]?) -> (∀ j, m <= j -> π j = j) -> ∃ t, Ok P ops π Q m Er C t k ac Φ FA A gh pf
theorem chn_hd (h : ∀ j, (o :: r)[j]? = ops[π (k + j)]?) : ops[π k]? = some o /\ dstAt ops (π k) = o.dst /\ ∀ j, r[j]? = ops[π (k + 1 + j)]? := by
 have h0 : ops[π k]? = some o := by simpa using (h 0).symm
 exact ⟨h0, by unfold dstAt; rw [h0]; rfl, fun j => by have := h (j + 1); rw [Nat.add_assoc, Nat.add_comm 1 j]; simpa using this⟩
theorem det_quiet {W : World} {v : Value} {D : World -> Prop} (hn : noCall o = true) (hw : Region.wanted o (yielded ops ac.tmps) = true) (h : o.quietAt P ac D W v) : Det P ops o ac W v W := by
 unfold Oper.quietAt at h
 have hne := fun f args W' => noCall_enter hn ac.eval P W f args W'
 unfold Det
 refine Or.inl ⟨hw, ?_⟩
 revert h hne
 generalize (execOp ac.eval o).run P W = q
 intro h hne
 cases q with
 | ok n w' =>
  cases n <;> simp only [Oper.quietUpon] at h
  case value u => obtain ⟨rfl, rfl⟩ := h; exact Or.inl rfl
  case skip => obtain ⟨rfl, rfl⟩ := h; exact Or.inr ⟨rfl, rfl⟩
  case enter f args => exact absurd rfl (hne f args w')
 | halt x w' => simp only [Oper.quietUpon] at h
structure KnownP (Er : World -> World -> Prop) (v : Value) (Φ' : World -> Prop) (W : World) (u : Value) (W' : World) : Prop where
 er : Er W W'
 val : u = v
 phi : Φ' W'
structure CallP {γ : Type} (Er : World -> World -> Prop) (val : γ -> Value) (Φ' : γ -> World -> Prop) (W : World) (u : Value) (W' : World) : Prop where
 er : Er W W'
 ex : ∃ c, u = val c /\ Φ' c W'
structure CallA {γ : Type} (Er : World -> World -> Prop) (val : γ -> Value) (Φ' : γ -> World -> Prop) (Ap : γ -> Nat -> Prop) (W : World) (u : Value) (W' : World) : Prop where
 er : Er W W'
 ex : ∃ c, u = val c /\ Φ' c W' /\ ∀ g, (g < W.heap.size \/ W'.heap.size <= g) -> Ap c g
structure NewP (val : Nat -> Value) (F : Nat -> World -> Prop) (W : World) (u : Value) (W' : World) : Prop where
 er : Ext W W'
 ex : ∃ g, u = val g /\ F g W'
structure BoxP (val : Nat -> Value) (F : Nat -> World -> Prop) (W : World) (u : Value) (W' : World) : Prop where
 er : Ext W W'
 ex : ∃ g, u = val g /\ W.heap.size <= g /\ g < W'.heap.size /\ F g W'
theorem chn_plain (h : ∀ K : Act -> Prop, (∀ a, Chn P ops π Q m Er C (k + 1) r a Φ FA A gh pf -> K a) -> o.quiet P ac (fun w => ∃ τ : WIn C, w = τ.1) K) (hw : Region.wanted o (yielded ops ac.tmps) = true := by rfl) (hk : Nat.ble (k + 1) m = true := by rfl) (hn : noCall o = true := by rfl) : Chn P ops π Q m Er C k (o :: r) ac Φ FA A gh pf := by
 intro hl hπ
 obtain ⟨ho, hd, hr⟩ := chn_hd hl
 obtain ⟨v, hv, hn'⟩ := h (fun a => Chn P ops π Q m Er C (k + 1) r a Φ FA A gh pf) (fun _ h => h)
 obtain ⟨t, ht⟩ := hn' hr hπ
 exact ⟨.plain v t, Nat.le_of_ble_eq_true hk, ⟨o, ho, fun W hC => det_quiet hn hw (hv W ⟨⟨W, hC⟩, rfl⟩)⟩, by rw [hd]; exact ht⟩
theorem gives_det {val : Nat -> Value} {T : Value -> World -> Prop} {G : Nat -> World -> World -> Prop} (hw : Region.wanted o (yielded ops ac.tmps) = true) (hn : noCall o = true) {W : World} (hT : ∀ u W', T u W' -> ∃ g, u = val g /\ G g W W') (h1 : GivesOp P o ac.eval W T) : ∃ g W', Det P ops o ac W (val g) W' /\ G g W W' := by
 have hne := fun f args W' => noCall_enter hn ac.eval P W f args W'
 unfold GivesOp at h1
 unfold Det
 revert h1 hne
 generalize (execOp ac.eval o).run P W = q
 intro h1 hne
 split at h1
 ·obtain ⟨g, rfl, a3⟩ := hT _ _ h1
  exact ⟨g, _, Or.inl ⟨hw, Or.inl rfl⟩, a3⟩
 ·obtain ⟨g, a2, a3⟩ := hT _ _ h1
  exact ⟨g, _, Or.inl ⟨hw, Or.inr ⟨rfl, a2.symm⟩⟩, a3⟩
 ·exact absurd rfl (hne _ _ _)
 exact h1.elim
theorem chn_new (val : Nat -> Value) (F : Nat -> World -> Prop) (h : ∀ W, C W -> GivesOp P o ac.eval W (NewP val F W)) (hs : ∀ g W W', Er W W' -> F g W -> F g W')
  (hx : ∀ g, ∀ K : Act -> Prop, (∀ a, Chn P ops π Q m Er C (k + 1) r a Φ (fun W => FA W /\ F g W) A (π k :: gh) pf -> K a) -> K (ac.put o.dst (val g))) (hw : Region.wanted o (yielded ops ac.tmps) = true := by rfl) (hk : Nat.ble (k + 1) m = true := by rfl) (hn : noCall o = true := by rfl) : Chn P ops π Q m Er C k (o :: r) ac Φ FA A gh pf := by
 intro hl hπ
 obtain ⟨ho, hd, hr⟩ := chn_hd hl
 have hy : ∀ g, ∃ t, Ok P ops π Q m Er C t (k + 1) (ac.put o.dst (val g)) Φ (fun W => FA W /\ F g W) A (π k :: gh) pf := fun g => hx g (fun a => Chn P ops π Q m Er C (k + 1) r a Φ (fun W => FA W /\ F g W) A (π k :: gh) pf) (fun _ h => h) hr hπ
 exact ⟨.alloc val F false (fun g => (hy g).choose), Nat.le_of_ble_eq_true hk, ⟨o, ho, fun W hC => by
  obtain ⟨g, W', h1, h2, h3⟩ := gives_det (G := fun g W W' => Ext W W' /\ F g W') hw hn (fun u W' ⟨q1, g, q2, q3⟩ => ⟨g, q2, q1, q3⟩) (h W hC)
  exact ⟨g, W', h1, h2, h3, fun e => by cases e⟩⟩, ⟨hs, fun e => by cases e⟩, fun g => by rw [hd]; exact Ok.weak _ _ _ _ _ _ _ _ _ (fun W q => ⟨q.1, q.2.1⟩) (hy g).choose_spec⟩
theorem chn_box (val : Nat -> Value) (F : Nat -> World -> Prop) (h : ∀ W, C W -> GivesOp P o ac.eval W (BoxP val F W)) (hs : ∀ g W W', Er W W' -> F g W -> F g W') (hz : ∀ W W', Er W W' -> W.heap.size <= W'.heap.size)
  (hx : ∀ g, ∀ K : Act -> Prop, (∀ a, Chn P ops π Q m Er C (k + 1) r a Φ (fun W => FA W /\ F g W /\ g < W.heap.size /\ A g) A (π k :: gh) pf -> K a) -> K (ac.put o.dst (val g))) (hw : Region.wanted o (yielded ops ac.tmps) = true := by rfl) (hk : Nat.ble (k + 1) m = true := by rfl) (hn : noCall o = true := by rfl) : Chn P ops π Q m Er C k (o :: r) ac Φ FA A gh pf := by
 intro hl hπ
 obtain ⟨ho, hd, hr⟩ := chn_hd hl
 have hy : ∀ g, ∃ t, Ok P ops π Q m Er C t (k + 1) (ac.put o.dst (val g)) Φ (fun W => FA W /\ F g W /\ g < W.heap.size /\ A g) A (π k :: gh) pf := fun g => hx g (fun a => Chn P ops π Q m Er C (k + 1) r a Φ (fun W => FA W /\ F g W /\ g < W.heap.size /\ A g) A (π k :: gh) pf) (fun _ h => h) hr hπ
 exact ⟨.alloc val F true (fun g => (hy g).choose), Nat.le_of_ble_eq_true hk, ⟨o, ho, fun W hC => by
  obtain ⟨g, W', h1, h2, h3, h4, h5⟩ := gives_det (G := fun g W W' => Ext W W' /\ W.heap.size <= g /\ g < W'.heap.size /\ F g W') hw hn (fun u W' ⟨q1, g, q2, q3⟩ => ⟨g, q2, q1, q3⟩) (h W hC)
  exact ⟨g, W', h1, h2, h5, fun _ => ⟨h3, h4⟩⟩⟩, ⟨hs, fun _ => hz⟩, fun g => by rw [hd]; exact Ok.weak _ _ _ _ _ _ _ _ _ (fun W q => ⟨q.1, q.2.1, (q.2.2 rfl).1, (q.2.2 rfl).2⟩) (hy g).choose_spec⟩
theorem chn_callA {γ : Type} (val : γ -> Value) (Φ' : γ -> World -> Prop) (Ap : γ -> Nat -> Prop) (h : ∀ W, C W -> Φ W -> FA W -> GivesOp P o ac.eval W (CallA Er val Φ' Ap W)) (hs : ∀ c W W', Ext W W' -> Φ' c W -> Φ' c W')
  (hx : ∀ c, ∀ K : Act -> Prop, (∀ a, Chn P ops π Q m Er C (k + 1) r a (Φ' c) FA (fun g => A g /\ Ap c g) (π k :: gh) pf -> K a) -> K (ac.put o.dst (val c))) (hne : Nonempty γ := by infer_instance) (hw : Region.wanted o (yielded ops ac.tmps) = true := by rfl) (hk : Nat.ble (k + 1) m = true := by rfl)
  (hg : gh.all (fun j => comesAfter ops m (π k) j) = true := by kernel_rfl) (hp : pf.all (fun j => comesAfter ops m (π k) j) = true := by kernel_rfl) : Chn P ops π Q m Er C k (o :: r) ac Φ FA A gh pf := by
 intro hl hπ
 obtain ⟨ho, hd, hr⟩ := chn_hd hl
 have hy : ∀ c, ∃ t, Ok P ops π Q m Er C t (k + 1) (ac.put o.dst (val c)) (Φ' c) FA (fun g => A g /\ Ap c g) (π k :: gh) pf := fun c => hx c (fun a => Chn P ops π Q m Er C (k + 1) r a (Φ' c) FA (fun g => A g /\ Ap c g) (π k :: gh) pf) (fun _ h => h) hr hπ
 exact ⟨.call γ val Φ' Ap (fun c => (hy c).choose), Nat.le_of_ble_eq_true hk, hg, hp, ⟨o, ho, fun W h1 h2 h3 => by unfold Outs; rw [if_pos hw]; exact (h W h1 h2 h3).mono fun _ _ q => ⟨q.er, q.ex⟩⟩, hne, hs, fun c => by rw [hd]; exact (hy c).choose_spec⟩
theorem chn_call {γ : Type} (val : γ -> Value) (Φ' : γ -> World -> Prop) (h : ∀ W, C W -> Φ W -> FA W -> GivesOp P o ac.eval W (CallP Er val Φ' W)) (hs : ∀ c W W', Ext W W' -> Φ' c W -> Φ' c W')
  (hx : ∀ c, ∀ K : Act -> Prop, (∀ a, Chn P ops π Q m Er C (k + 1) r a (Φ' c) FA (fun g => A g /\ True) (π k :: gh) pf -> K a) -> K (ac.put o.dst (val c))) (hne : Nonempty γ := by infer_instance) (hw : Region.wanted o (yielded ops ac.tmps) = true := by rfl) (hk : Nat.ble (k + 1) m = true := by rfl)
  (hg : gh.all (fun j => comesAfter ops m (π k) j) = true := by kernel_rfl) (hp : pf.all (fun j => comesAfter ops m (π k) j) = true := by kernel_rfl) : Chn P ops π Q m Er C k (o :: r) ac Φ FA A gh pf :=
 chn_callA val Φ' (fun _ _ => True) (fun W h1 h2 h3 => (h W h1 h2 h3).mono fun _ _ ⟨q1, c, q2, q3⟩ => ⟨q1, c, q2, q3, fun _ _ => trivial⟩) hs hx hne hw hk hg hp
theorem chn_known (v : Value) (Φ' : World -> Prop) (h : ∀ W, C W -> Φ W -> FA W -> GivesOp P o ac.eval W (KnownP Er v Φ' W)) (hs : ∀ W W', Ext W W' -> Φ' W -> Φ' W')
  (hx : ∀ K : Act -> Prop, (∀ a, Chn P ops π Q m Er C (k + 1) r a Φ' FA (fun g => A g /\ True) (π k :: gh) pf -> K a) -> K (ac.put o.dst v)) (hw : Region.wanted o (yielded ops ac.tmps) = true := by rfl) (hk : Nat.ble (k + 1) m = true := by rfl)
  (hg : gh.all (fun j => comesAfter ops m (π k) j) = true := by kernel_rfl) (hp : pf.all (fun j => comesAfter ops m (π k) j) = true := by kernel_rfl) : Chn P ops π Q m Er C k (o :: r) ac Φ FA A gh pf :=
 chn_call (γ := Unit) (fun _ => v) (fun _ => Φ') (fun W h1 h2 h3 => (h W h1 h2 h3).mono fun _ _ ⟨q1, q2, q3⟩ => ⟨q1, (), q2, q3⟩) (fun _ => hs) (fun _ => hx) ⟨()⟩ hw hk hg hp
theorem chn_ge {f : FuncId} {args : Array Value} {v : Value} (h : ∀ W, C W -> Calls P f args W (GivesE v W))
  (hx : ∀ K : Act -> Prop, (∀ a, Chn P ops π Q m Er C (k + 1) r a Φ FA (fun g => A g /\ True) (π k :: gh) pf -> K a) -> K (ac.put o.dst v)) (hs : ∀ W W', Ext W W' -> Φ W -> Φ W' := by exact fun _ _ _ h => h) (hX : ∀ W W', Ext W W' -> Er W W' := by first | exact fun _ _ h => h | exact fun _ _ h => h.shp _ | exact fun _ _ h => h.chg _) (he : ∀ (W : World) (T : Value -> World -> Prop), Calls P f args W (fun e W' => ∃ u, e = .returned u /\ T u W') -> GivesOp P o ac.eval W T := by intro _ _ _; unfold GivesOp; go_simp <;> assumption) (hw : Region.wanted o (yielded ops ac.tmps) = true := by rfl) (hk : Nat.ble (k + 1) m = true := by rfl)
  (hg : gh.all (fun j => comesAfter ops m (π k) j) = true := by kernel_rfl) (hp : pf.all (fun j => comesAfter ops m (π k) j) = true := by kernel_rfl) : Chn P ops π Q m Er C k (o :: r) ac Φ FA A gh pf :=
 chn_known v Φ (fun W h1 h2 _ => he W _ ((h W h1).mono fun _ _ ⟨q1, q2⟩ => ⟨v, q1, hX _ _ q2, rfl, hs _ _ q2 h2⟩)) hs hx hw hk hg hp
theorem chn_tail (h : ∀ W, C W -> Φ W -> FA W -> wpList P ops Q l ac W) (hk : k = m := by rfl) : Chn P ops π Q m Er C k l ac Φ FA A gh pf := fun hl hπ => ⟨.done, hk, fun W h1 h2 h3 => by
 have : ops.toList.drop m = l := by
  apply List.ext_getElem?
  intro j
  rw [List.getElem?_drop, hl j, hπ _ (by omega), <- hk, Array.getElem?_toList]
 rw [this]
 exact h W h1 h2 h3⟩
theorem chn_nil (h : ∀ W, C W -> Φ W -> FA W -> Q .normal ac W) (hk : k = m := by rfl) : Chn P ops π Q m Er C k [] ac Φ FA A gh pf := chn_tail h hk
theorem chn_start {id : Nat} {a : Act} {w : World} (hR : ∀ W, Er W W) (hXE : ∀ W W', Ext W W' -> Er W W') (hCE : ∀ W W', C W -> Er W W' -> C W') (hC : C w.drew) (hΦ : Φ w.drew) (hs : ∀ W W', Ext W W' -> Φ W -> Φ W')
  (h : Chn P l.toArray (fun k => k) Q m Er C 0 l a Φ (fun _ => True) (fun _ => True) [] []) (hm : P.follows .mixedOrders = true := by kernel_rfl) (hok : okCh l.toArray m = true := by kernel_rfl) : (Code.region id l.toArray true).wp P Q a w :=
 wp_region_chn hm hok (lin_id hok) hR hXE hCE hC hΦ hs (h (fun j => by simp) fun _ _ => rfl)
theorem chn_ext {id : Nat} {a : Act} {w : World} (m : Nat) (h : Chn P l.toArray (fun k => k) Q m Ext (Ext w) 0 l a (fun _ => True) (fun _ => True) (fun _ => True) [] []) (hm : P.follows .mixedOrders = true := by kernel_rfl) (hok : okCh l.toArray m = true := by kernel_rfl) : (Code.region id l.toArray true).wp P Q a w :=
 chn_start Ext.refl (fun _ _ h => h) (fun _ _ h k => h.trans k) (Ext.refl w).drew trivial (fun _ _ _ h => h) h hm hok
end
instance (w : World) : Nonempty (WIn (Ext w)) := ⟨⟨w, Ext.refl w⟩⟩
instance (N : ZN) (w : World) : Nonempty (WIn (Chg N w)) := ⟨⟨w, Chg.refl N w⟩⟩
theorem win_cell {w : World} {p : Addr} {v : Value} (h : w.cell? p = some v) : ∀ τ : WIn (Ext w), τ.1.cell? p = some v := fun τ => τ.2.cell h
structure Dec where
 ver : Int
 lim : Int
 ded : Int
 fra : Int
 coi : Int
 avg : Bool
def Dec.cells (d : Dec) : Array Value := #[.int .i64 d.ver, .int .i64 d.lim, .int .i64 d.ded, .int .i64 d.fra, .int .i64 d.coi, .bool d.avg]
def limS (V : Ex -> Bool) (m : Int) (x : Cla) : Int := if (x.kind == 5 && claV V x && (decide (m < 0) || decide (x.amount < m))) = true then x.amount else m
def limK (V : Ex -> Bool) (l : List Cla) : Int := l.foldl (limS V) (-1)
def vdB (V : Ex -> Bool) (l : List Cla) : Dec :=
 if someB V 2 false l = false then ⟨1, 0, 0, 0, 0, false⟩ else if someB V 4 true l = true then ⟨2, 0, 0, 0, 0, false⟩ else if someB V 3 false l = true then ⟨3, 0, 0, 0, 0, false⟩
 else ⟨4, limK V l, greatK V 6 l, greatK V 7 l, greatK V 8 l, someB V 9 false l⟩
theorem blk6d {w : World} {b : Nat} {v0 v1 v2 v3 v4 v5 : Value} {t : TypeId} (h : w.heap[b]? = some (.cells #[v0, v1, v2, v3, v4, v5] t (0, 0))) :
  w.cell? ⟨b, 0, none⟩ = some v0 /\ w.cell? ⟨b, 1, none⟩ = some v1 /\ w.cell? ⟨b, 2, none⟩ = some v2 /\ w.cell? ⟨b, 3, none⟩ = some v3 /\ w.cell? ⟨b, 4, none⟩ = some v4 /\ w.cell? ⟨b, 5, none⟩ = some v5 /\ (∀ o, w.frozen? ⟨b, o, none⟩ = false) :=
 ⟨blk_cell h 0, blk_cell h 1, blk_cell h 2, blk_cell h 3, blk_cell h 4, blk_cell h 5, fun o => blk_free h o⟩
def put6d (w : World) (B : Nat) (v0 v1 v2 v3 v4 v5 : Value) : World := (((((w.setCell ⟨B, 0, none⟩ v0).setCell ⟨B, 1, none⟩ v1).setCell ⟨B, 2, none⟩ v2).setCell ⟨B, 3, none⟩ v3).setCell ⟨B, 4, none⟩ v4).setCell ⟨B, 5, none⟩ v5
theorem put6d_blk {w : World} {B : Nat} {u0 u1 u2 u3 u4 u5 v0 v1 v2 v3 v4 v5 : Value} {t : TypeId} (h : w.heap[B]? = some (.cells #[u0, u1, u2, u3, u4, u5] t (0, 0))) : (put6d w B v0 v1 v2 v3 v4 v5).heap[B]? = some (.cells #[v0, v1, v2, v3, v4, v5] t (0, 0)) := by
 unfold put6d
 rw [heap_setCell_same _ _ _ _ _ _ (heap_setCell_same _ _ _ _ _ _ (heap_setCell_same _ _ _ _ _ _ (heap_setCell_same _ _ _ _ _ _ (heap_setCell_same _ _ _ _ _ _ (heap_setCell_same _ _ _ _ _ _ h)))))]
 rfl
theorem put6d_chg (w : World) (B : Nat) {v0 v1 v2 v3 v4 v5 : Value} : Chg [B] w (put6d w B v0 v1 v2 v3 v4 v5) := by
 unfold put6d
 repeat (with_reducible (refine Chg.setCell ?_ ?_ _))
 exact Chg.refl _ _
 all_goals exact Or.inl (by simp)
def DecO (d : Dec) : Obj := .cells d.cells 29 (0, 0)
mutual
def bareE : Ex -> Bool
 | .mk op _ _ _ _ args => (op != 3 || args.isEmpty) && bareL args
def bareL : List Ex -> Bool
 | [] => true
 | e :: r => bareE e && bareL r
end
mutual
def szE (D : BA -> Option Nat) : Ex -> Nat
 | .mk op name _ _ _ args => match (if op = 3 then D name else none) with | some n => n | none => szL D 1 args
def szL (D : BA -> Option Nat) : Nat -> List Ex -> Nat
 | n, [] => n
 | n, e :: r => szL D (min (n + szE D e) 2001) r
end
theorem szE_eq' (D : BA -> Option Nat) (e : Ex) : szE D e = match (if e.op = 3 then D e.name else none) with | some n => n | none => szL D 1 e.args := by cases e; rw [szE]; rfl
theorem szL_snoc (D : BA -> Option Nat) : (l : List Ex) -> (n : Nat) -> (e : Ex) -> szL D n (l ++ [e]) = min (szL D n l + szE D e) 2001
 | [], n, e => by simp [szL]
 | x :: r, n, e => by simp [szL, szL_snoc D r]
theorem szL_take_succ (D : BA -> Option Nat) (l : List Ex) (n k : Nat) (h : k < l.length) : szL D n (l.take (k + 1)) = min (szL D n (l.take k) + szE D l[k]) 2001 := by
 rw [List.take_succ_eq_append_getElem h, szL_snoc]
mutual
theorem szE_exp {D : BA -> Option Nat} (hD : ∀ s n, D s = some n -> n <= 2001) : (e : Ex) -> bareE e = true -> szE D e = expE D e
 | .mk op name words lo hi args, h => by
  rw [bareE, Bool.and_eq_true] at h
  rw [szE, expE]
  have hl := szL_exp hD args h.2
  by_cases h3 : op = 3
  ·have ha : args = [] := by
    have := h.1
    rw [h3] at this
    simpa using this
   subst ha
   simp only [if_pos h3]
   cases hd : D name with
   | none => simp [szL, expL]
   | some n => have := hD name n hd; simp [expL]; omega
  simp only [if_neg h3]
  exact hl 1 (by omega)
theorem szL_exp {D : BA -> Option Nat} (hD : ∀ s n, D s = some n -> n <= 2001) : (l : List Ex) -> bareL l = true -> ∀ n, n <= 2001 -> szL D n l = min (n + expL D l) 2001
 | [], _, n, hn => by simp [szL, expL]; omega
 | e :: r, h, n, hn => by
  rw [bareL, Bool.and_eq_true] at h
  rw [szL, expL, szL_exp hD r h.2 _ (by omega), szE_exp hD e h.1]
  omega
end
mutual
theorem expE_congr {D D' : BA -> Option Nat} : (e : Ex) -> (∀ s ∈ namesE e, D s = D' s) -> expE D e = expE D' e
 | .mk op name words lo hi args, h => by
  rw [expE, expE]
  rw [namesE] at h
  rw [expL_congr args fun s hs => h s (List.mem_append_right _ hs)]
  by_cases h3 : op = 3
  ·rw [if_pos h3, if_pos h3, h name (List.mem_append_left _ (by simp [h3]))]
  rw [if_neg h3, if_neg h3]
theorem expL_congr {D D' : BA -> Option Nat} : (l : List Ex) -> (∀ s ∈ namesL l, D s = D' s) -> expL D l = expL D' l
 | [], _ => by rw [expL, expL]
 | e :: r, h => by
  rw [namesL] at h
  rw [expL, expL, expE_congr e fun s hs => h s (List.mem_append_left _ hs), expL_congr r fun s hs => h s (List.mem_append_right _ hs)]
end
theorem findIdx_map {α β : Type} (f : α -> β) (p : β -> Bool) (l : List α) : (l.map f).findIdx? p = l.findIdx? (fun x => p (f x)) := by
 rw [List.findIdx?_map]; rfl
theorem firstAt_dfn (l : List Cla) (s : BA) : firstAt (l.map Cla.dfn) s = defAt l s := by
 unfold firstAt defAt
 rw [findIdx_map]
 rfl
theorem getD_cla {l : List Cla} {i : Nat} (h : i < l.length) : l.getD i cla0 = l[i] := by simp [h]
theorem isDef_dfn {l : List Cla} {i : Nat} (h : i < l.length) : isDef (l.map Cla.dfn) i = (l[i].kind == 1) := by
 unfold isDef
 simp [h, Cla.dfn]
theorem usesAt_dfn {l : List Cla} {i : Nat} (h : i < l.length) : usesAt (l.map Cla.dfn) i = refNames (namesE l[i].cond) := by
 unfold usesAt
 simp [h, Cla.dfn]
theorem defAt_lt {l : List Cla} {s : BA} {d : Nat} (h : defAt l s = some d) : d < l.length := by
 unfold defAt at h
 rw [List.findIdx?_eq_some_iff_getElem] at h
 exact h.1
theorem defAt_name {l : List Cla} {s : BA} {d : Nat} (h : defAt l s = some d) : (l.getD d cla0).name = s /\ (l.getD d cla0).kind = 1 := by
 have hd := defAt_lt h
 unfold defAt at h
 rw [List.findIdx?_eq_some_iff_getElem] at h
 obtain ⟨_, h1, _⟩ := h
 simp only [Bool.and_eq_true, beq_iff_eq, decide_eq_true_eq] at h1
 rw [getD_cla hd]
 exact ⟨h1.2, h1.1⟩
theorem Topo.lt {l : List Dfn} {o : ZN} (h : Topo l o) {i : Nat} (hi : i ∈ o) : i < l.length := isDef_lt ((h.all i).1 hi)
theorem Topo.len {l : List Dfn} {o : ZN} (h : Topo l o) : o.length <= l.length := by
 have := nodup_le o (List.range l.length) h.nodup fun x hx => List.mem_range.2 (h.lt hx)
 simpa using this
theorem expF_stable {l : List Cla} {o : ZN} (h : Topo (l.map Cla.dfn) o) : ∀ (q d : Nat), o[q]? = some d -> ∀ f g, q < f -> q < g -> expF l f (l.getD d cla0).cond = expF l g (l.getD d cla0).cond := by
 intro q
 induction q using Nat.strongRecOn with
 | ind q ih =>
  intro d hd f g hf hg
  obtain ⟨f, rfl⟩ : ∃ k, f = k + 1 := ⟨f - 1, by omega⟩
  obtain ⟨g, rfl⟩ : ∃ k, g = k + 1 := ⟨g - 1, by omega⟩
  rw [expF, expF]
  refine expE_congr _ fun s hs => ?_
  have hdl : d < l.length := by simpa using h.lt (List.mem_of_getElem? hd)
  cases hda : defAt l s with
  | none => rfl
  | some d' =>
   have h1 := h.after q d hd s (by rw [usesAt_dfn hdl, refNames_mem]; rwa [getD_cla hdl] at hs) d' (by rw [firstAt_dfn]; exact hda)
   obtain ⟨q', hq'⟩ := List.mem_iff_getElem?.1 h1
   have hlt : q' < q := by
    rcases Nat.lt_or_ge q' q with h' | h'
    ·exact h'
    rw [List.getElem?_eq_none (by simp; omega)] at hq'; cases hq'
   rw [List.getElem?_take, if_pos hlt] at hq'
   simp only [Option.map_some, Option.some.injEq]
   exact ih q' hlt d' hq' f g (by omega) (by omega)
def sizesF (l : List Cla) (o : ZN) : BA -> Option Nat := o.foldl (fun D i s => if s = (l.getD i cla0).name then some (szE D (l.getD i cla0).cond) else D s) (fun _ => none)
theorem sizesF_snoc (l : List Cla) (o : ZN) (i : Nat) (s : BA) : sizesF l (o ++ [i]) s = if s = (l.getD i cla0).name then some (szE (sizesF l o) (l.getD i cla0).cond) else sizesF l o s := by simp [sizesF]
theorem sizesF_spec {l : List Cla} {o : ZN} (h : Topo (l.map Cla.dfn) o) (hu : ∀ i ∈ o, defAt l (l.getD i cla0).name = some i) (hb : ∀ i ∈ o, bareE (l.getD i cla0).cond = true) :
  ∀ p, p <= o.length -> ∀ s, sizesF l (o.take p) s = match defAt l s with | some d => if d ∈ o.take p then some (expF l l.length (l.getD d cla0).cond) else none | none => none := by
 have hol : o.length <= l.length := by simpa using h.len
 intro p
 induction p with
 | zero =>
  intro _ s
  simp only [List.take_zero, List.not_mem_nil, if_false]
  cases defAt l s <;> rfl
 | succ p ih =>
  intro hp s
  have hp' : p < o.length := by omega
  have IH := ih (by omega)
  have hD : ∀ s n, sizesF l (o.take p) s = some n -> n <= 2001 := by
   intro s n hn
   rw [IH s] at hn
   cases hd : defAt l s with
   | none => rw [hd] at hn; cases hn
   | some d =>
    rw [hd] at hn
    simp only at hn
    split at hn
    ·cases hn; exact expF_le _ _ _
    cases hn
  have him : o[p] ∈ o := List.getElem_mem hp'
  have hil : o[p] < l.length := by simpa using h.lt him
  rw [List.take_succ_eq_append_getElem hp', sizesF_snoc]
  have key : szE (sizesF l (o.take p)) (l.getD o[p] cla0).cond = expF l l.length (l.getD o[p] cla0).cond := by
   rw [szE_exp hD _ (hb _ him), expF_stable h p o[p] (List.getElem?_eq_getElem hp') l.length (l.length + 1) (by omega) (by omega), expF]
   refine expE_congr _ fun t ht => ?_
   rw [IH t]
   cases hda : defAt l t with
   | none => rfl
   | some d =>
    have h1 := h.after p o[p] (List.getElem?_eq_getElem hp') t (by rw [usesAt_dfn hil, refNames_mem]; rwa [getD_cla hil] at ht) d (by rw [firstAt_dfn]; exact hda)
    simp [h1]
  by_cases hs : s = (l.getD o[p] cla0).name
  ·rw [if_pos hs, key, hs, hu _ him]
   simp only [List.mem_append, List.mem_singleton, or_true, if_true]
  rw [if_neg hs, IH s]
  cases hd : defAt l s with
  | none => rfl
  | some d =>
   have hne : d ≠ o[p] := fun e => hs (by rw [<- e]; exact (defAt_name hd).1.symm)
   simp only [List.mem_append, List.mem_singleton, hne, or_false]
theorem sizes_exp {l : List Cla} {o : ZN} (h : Topo (l.map Cla.dfn) o) (hu : ∀ i ∈ o, defAt l (l.getD i cla0).name = some i) (hb : ∀ i ∈ o, bareE (l.getD i cla0).cond = true) (e : Ex) (he : bareE e = true) : szE (sizesF l o) e = expanded l e := by
 have hs := sizesF_spec h hu hb o.length (Nat.le_refl _)
 rw [List.take_length] at hs
 have hD : ∀ s n, sizesF l o s = some n -> n <= 2001 := by
  intro s n hn
  rw [hs s] at hn
  cases hd : defAt l s with
  | none => rw [hd] at hn; cases hn
  | some d =>
   rw [hd] at hn
   simp only at hn
   split at hn
   ·cases hn; exact expF_le _ _ _
   cases hn
 rw [szE_exp hD e he, expanded, expF]
 refine expE_congr _ fun t ht => ?_
 rw [hs t]
 cases hda : defAt l t with
 | none => rfl
 | some d =>
  have hdl := defAt_lt hda
  have : d ∈ o := (h.all d).2 (by rw [isDef_dfn hdl, <- getD_cla hdl, (defAt_name hda).2]; rfl)
  simp [this]
def domB (a : Attr) : Int × Int := if a.kind = 1 then (0, (a.words.length : Int) - 1) else if a.kind = 2 then (a.lo, a.hi) else (0, 1)
def factsAll : List Attr -> ZI -> Bool
 | [], [] => true
 | a :: r, v :: q => decide ((domB a).1 <= v) && decide (v <= (domB a).2) && factsAll r q
 | _, _ => false
def factsB (s : List Attr) (f : ZI) : Bool := decide (schemaErr s = 0) && factsAll s f
theorem factsAll_len : {s : List Attr} -> {f : ZI} -> factsAll s f = true -> f.length = s.length
 | [], [], _ => rfl
 | a :: r, v :: q, h => by
  simp only [factsAll, Bool.and_eq_true] at h
  simp [factsAll_len h.2]
 | [], v :: q, h => by simp [factsAll] at h
 | a :: r, [], h => by simp [factsAll] at h
theorem factsAll_at : {s : List Attr} -> {f : ZI} -> factsAll s f = true -> (i : Nat) -> (hi : i < s.length) -> (hj : i < f.length) -> (domB s[i]).1 <= f[i] /\ f[i] <= (domB s[i]).2
 | a :: r, v :: q, h, 0, _, _ => by
  simp only [factsAll, Bool.and_eq_true, decide_eq_true_eq] at h
  simpa using h.1
 | a :: r, v :: q, h, i + 1, hi, hj => by
  simp only [factsAll, Bool.and_eq_true] at h
  simpa using factsAll_at h.2 i (by simpa using hi) (by simpa using hj)
theorem factsAll_of : {s : List Attr} -> {f : ZI} -> f.length = s.length -> (∀ i (hi : i < s.length) (hj : i < f.length), (domB s[i]).1 <= f[i] /\ f[i] <= (domB s[i]).2) -> factsAll s f = true
 | [], [], _, _ => rfl
 | a :: r, v :: q, h, h2 => by
  have h0 := h2 0 (by simp) (by simp)
  simp only [List.getElem_cons_zero] at h0
  simp only [factsAll, Bool.and_eq_true, decide_eq_true_eq]
  exact ⟨h0, factsAll_of (by simpa using h) fun i hi hj => by have := h2 (i + 1) (by simpa using hi) (by simpa using hj); simpa using this⟩
 | [], v :: q, h, _ => by simp at h
 | a :: r, [], h, _ => by simp at h
def factV (s : List Attr) (f : ZI) (op : Int) (name : BA) (words : ZB) (lo hi : Int) : Bool :=
 if op = 1 then true else if op = 2 then false else
 match attrAt s name with
 | none => false
 | some i => if op = 4 then words.any (fun x => decide (x = (s.getD i attr0).words.getD (f.getD i 0).toNat ⟨#[]⟩)) else if op = 5 then decide (lo <= f.getD i 0) && decide (f.getD i 0 <= hi) else decide (f.getD i 0 = 1)
mutual
def valE (s : List Attr) (f : ZI) (D : BA -> Option Bool) : Ex -> Bool
 | .mk op name words lo hi args => if op = 6 then !(valHd s f D args) else if op = 7 then valAll s f D args else if op = 8 then valAny s f D args else if op = 3 then (D name).getD (factV s f op name words lo hi) else factV s f op name words lo hi
def valHd (s : List Attr) (f : ZI) (D : BA -> Option Bool) : List Ex -> Bool
 | [] => false
 | e :: _ => valE s f D e
def valAll (s : List Attr) (f : ZI) (D : BA -> Option Bool) : List Ex -> Bool
 | [] => true
 | e :: r => valE s f D e && valAll s f D r
def valAny (s : List Attr) (f : ZI) (D : BA -> Option Bool) : List Ex -> Bool
 | [] => false
 | e :: r => valE s f D e || valAny s f D r
end
theorem valAll_iff {s : List Attr} {f : ZI} {D : BA -> Option Bool} : (l : List Ex) -> valAll s f D l = l.all (valE s f D)
 | [] => by rw [valAll]; rfl
 | e :: r => by rw [valAll, valAll_iff r]; rfl
theorem valAny_iff {s : List Attr} {f : ZI} {D : BA -> Option Bool} : (l : List Ex) -> valAny s f D l = l.any (valE s f D)
 | [] => by rw [valAny]; rfl
 | e :: r => by rw [valAny, valAny_iff r]; rfl
def valF (s : List Attr) (l : List Cla) (f : ZI) : Nat -> Ex -> Bool
 | 0, _ => false
 | k + 1, e => valE s f (fun x => (defAt l x).map fun d => valF s l f k (l.getD d cla0).cond) e
def val (s : List Attr) (l : List Cla) (f : ZI) (e : Ex) : Bool := valF s l f (l.length + 1) e
mutual
theorem valE_congr {s : List Attr} {f : ZI} {D D' : BA -> Option Bool} : (e : Ex) -> (∀ x ∈ namesE e, D x = D' x) -> valE s f D e = valE s f D' e
 | .mk op name words lo hi args, h => by
  have h2 : ∀ x ∈ namesL args, D x = D' x := fun x hx => h x (by rw [namesE]; exact List.mem_append_right _ hx)
  obtain ⟨q1, q2, q3⟩ := valL_congr args h2
  rw [valE, valE, q1, q2, q3]
  by_cases h3 : op = 3
  ·rw [h name (by rw [namesE, h3]; simp)]
  simp [h3]
theorem valL_congr {s : List Attr} {f : ZI} {D D' : BA -> Option Bool} : (l : List Ex) -> (∀ x ∈ namesL l, D x = D' x) -> valHd s f D l = valHd s f D' l /\ valAll s f D l = valAll s f D' l /\ valAny s f D l = valAny s f D' l
 | [], _ => ⟨by rw [valHd, valHd], by rw [valAll, valAll], by rw [valAny, valAny]⟩
 | e :: r, h => by
  have h1 := valE_congr (s := s) (f := f) e fun x hx => h x (by rw [namesL]; exact List.mem_append_left _ hx)
  obtain ⟨_, q2, q3⟩ := valL_congr (s := s) (f := f) r fun x hx => h x (by rw [namesL]; exact List.mem_append_right _ hx)
  exact ⟨by rw [valHd, valHd, h1], by rw [valAll, valAll, h1, q2], by rw [valAny, valAny, h1, q3]⟩
end
theorem expE_name {D : BA -> Option Nat} : (e : Ex) -> expE D e <= 2000 -> ∀ x n, x ∈ namesE e -> D x = some n -> n <= 2000
 | .mk op name words lo hi args, h, x, n, hx, hD => by
  rw [expE] at h
  rw [namesE] at hx
  rcases List.mem_append.1 hx with h1 | h1
  ·by_cases h3 : op = 3
   ·simp [h3] at h1; subst h1
    simp [h3, hD] at h; omega
   simp [h3] at h1
  exact expL_name args (by omega) x n h1 hD
where
 expL_name {D : BA -> Option Nat} : (l : List Ex) -> expL D l <= 2000 -> ∀ x n, x ∈ namesL l -> D x = some n -> n <= 2000
  | [], _, x, n, hx, _ => by rw [namesL] at hx; simp at hx
  | e :: r, h, x, n, hx, hD => by
   rw [expL] at h
   rw [namesL] at hx
   rcases List.mem_append.1 hx with h1 | h1
   ·exact expE_name e (by omega) x n h1 hD
   exact expL_name r (by omega) x n h1 hD
theorem valF_stable (s : List Attr) (l : List Cla) (f : ZI) : (k m : Nat) -> (e : Ex) -> expF l k e <= 2000 -> k <= m -> valF s l f k e = valF s l f m e
 | 0, _, e, h, _ => by simp [expF] at h
 | k + 1, 0, e, _, hm => by omega
 | k + 1, m + 1, e, h, hm => by
  rw [valF, valF]
  refine valE_congr e fun x hx => ?_
  cases hd : defAt l x with
  | none => rfl
  | some d =>
   rw [expF] at h
   have := expE_name e h x (expF l k (l.getD d cla0).cond) hx (by rw [hd]; rfl)
   simp only [Option.map_some, Option.some.injEq]
   exact valF_stable s l f k m _ this (by omega)
def nameT (s : BA) : Tok := ⟨1, s, 0, 0⟩
def markT (c : UInt8) : Tok := ⟨4, ⟨#[c]⟩, 0, 0⟩
def numT (n : Int) : Tok := ⟨2, ⟨#[]⟩, n, 0⟩
def wTo : BA := ⟨#[116, 111]⟩
def listedT : ZB -> List Tok
 | [] => []
 | [s] => [nameT s]
 | s :: r => nameT s :: markT 44 :: listedT r
def paren (op aop : Int) : Bool := aop == 8 || (aop == 7 && op != 8)
mutual
def tokE : Ex -> List Tok
 | .mk op name words lo hi args =>
  if op = 1 then [nameT wTrue] else if op = 2 then [nameT wFalse] else if op = 3 then [nameT name] else
  if op = 4 then [nameT name, nameT wIn, markT 40] ++ listedT words ++ [markT 41] else
  if op = 5 then [nameT name, nameT wFrom, numT lo, nameT wTo, numT hi] else
  (if op = 6 then [nameT wNot] else []) ++ tokArgs op args
def tokArgs (op : Int) : List Ex -> List Tok
 | [] => []
 | a :: r => (if paren op a.op then [markT 40] ++ tokE a ++ [markT 41] else tokE a) ++ tokMore op r
def tokMore (op : Int) : List Ex -> List Tok
 | [] => []
 | a :: r => [nameT (if op = 7 then wAnd else wOr)] ++ (if paren op a.op then [markT 40] ++ tokE a ++ [markT 41] else tokE a) ++ tokMore op r
end
def okNode (e : Ex) : Prop :=
 (e.op = 1 /\ e.name = ⟨#[]⟩ /\ e.words = [] /\ e.lo = 0 /\ e.hi = 0 /\ e.args = []) \/ (e.op = 2 /\ e.name = ⟨#[]⟩ /\ e.words = [] /\ e.lo = 0 /\ e.hi = 0 /\ e.args = []) \/
 (e.op = 3 /\ nameB e.name = true /\ e.words = [] /\ e.lo = 0 /\ e.hi = 0 /\ e.args = []) \/ (e.op = 4 /\ nameB e.name = true /\ wordsB e.words = true /\ e.lo = 0 /\ e.hi = 0 /\ e.args = []) \/
 (e.op = 5 /\ nameB e.name = true /\ e.words = [] /\ numberB e.lo = true /\ numberB e.hi = true /\ e.lo <= e.hi /\ e.args = []) \/
 (e.op = 6 /\ e.name = ⟨#[]⟩ /\ e.words = [] /\ e.lo = 0 /\ e.hi = 0 /\ e.args.length = 1) \/
 ((e.op = 7 \/ e.op = 8) /\ e.name = ⟨#[]⟩ /\ e.words = [] /\ e.lo = 0 /\ e.hi = 0 /\ 2 <= e.args.length)
mutual
def okTree : Ex -> Prop
 | .mk op name words lo hi args => okNode (.mk op name words lo hi args) /\ okTrees args
def okTrees : List Ex -> Prop
 | [] => True
 | e :: r => okTree e /\ okTrees r
end
theorem refNode_ok (e : Ex) : refNodeB e = true ↔ okNode e := by
 obtain ⟨op, name, words, lo, hi, args⟩ := e
 have hw : words = [] ↔ words.length = 0 := by cases words <;> simp
 have ha : args = [] ↔ args.length = 0 := by cases args <;> simp
 have hnm : name = ⟨#[]⟩ ↔ name.toList.isEmpty = true := by
  rw [List.isEmpty_iff, ByteArray.toList_eq]
  constructor
  ·rintro rfl; rfl
  intro h
  apply ByteArray.ext
  simpa using h
 simp only [refNodeB, refNode, okNode, Ex.op, Ex.name, Ex.words, Ex.lo, Ex.hi, Ex.args, wordsB, hw, ha, hnm]
 by_cases h1 : 1 <= op /\ op <= 8
 ·have hk : op = 1 \/ op = 2 \/ op = 3 \/ op = 4 \/ op = 5 \/ op = 6 \/ op = 7 \/ op = 8 := by omega
  rcases hk with rfl | rfl | rfl | rfl | rfl | rfl | rfl | rfl
  all_goals
   simp
   try grind
 simp [h1]
 omega
mutual
theorem nodes_ok : (e : Ex) -> (nodesB e = true ↔ okTree e)
 | .mk op name words lo hi args => by
  rw [nodesB, okTree, Bool.and_eq_true, refNode_ok, nodesAll_ok args]
theorem nodesAll_ok : (l : List Ex) -> (nodesAll l = true ↔ okTrees l)
 | [] => by simp [nodesAll, okTrees]
 | e :: r => by rw [nodesAll, okTrees, Bool.and_eq_true, nodes_ok e, nodesAll_ok r]
end
theorem okTrees_mem {l : List Ex} (h : okTrees l) : ∀ x ∈ l, okTree x := by
 induction l with
 | nil => intro x hx; simp at hx
 | cons e r ih =>
  unfold okTrees at h
  intro x hx
  rcases List.mem_cons.1 hx with rfl | hx
  ·exact h.1
  exact ih h.2 x hx
end Go.Proofs.YtefjomofjejklaaGreatDoor
