/- Joined. -/
import Derived.Test.YtefjomofjejklaaGreatDoorDs03
namespace Go.Proofs.YtefjomofjejklaaGreatDoor
set_option maxRecDepth 100000
set_option maxHeartbeats 32000000
open Go.RowKit
section
variable {P:Program} {ops:Array Oper} {π:Nat->Nat} {Q:Exit->Act->World->Prop} {m:Nat} {Er:World->World->Prop} {C:World->Prop} {k:Nat} {o:Oper} {r l:List Oper} {ac:Act} {Φ FA:World->Prop} {A:Nat->Prop} {gh pf:ZN}
theorem Ok.weak:∀(t:Tr) (k:Nat) (ac:Act) (Φ FA FA':World->Prop) (A:Nat->Prop) (gh pf:ZN),(∀W,FA' W->FA W)->Ok P ops π Q m Er C t k ac Φ FA A gh pf->Ok P ops π Q m Er C t k ac Φ FA' A gh pf:=by
 intro t;induction t with
 | done=>intro k ac Φ FA FA' A gh pf hw h;exact⟨h.1,fun W h1 h2 h3=>h.2 W h1 h2 (hw W h3)⟩
 | plain v next ih=>intro k ac Φ FA FA' A gh pf hw h;exact⟨h.1,h.2.1,ih _ _ _ _ _ _ _ _ hw h.2.2⟩
 | later v next ih =>
  intro k ac Φ FA FA' A gh pf hw ⟨h1,h2,⟨o,h3,h4⟩,h5⟩;exact⟨h1,h2,⟨o,h3,fun W q1 q2 q3=>h4 W q1 q2 (hw W q3)⟩,ih _ _ _ _ _ _ _ _ hw h5⟩
 | alloc val F U next ih=>intro k ac Φ FA FA' A gh pf hw h;exact⟨h.1,h.2.1,h.2.2.1,fun g=>ih g _ _ _ _ _ _ _ _ (fun W q=>⟨hw W q.1,q.2⟩) (h.2.2.2 g)⟩
 | call γ val Φ' Ap next ih =>
  intro k ac Φ FA FA' A gh pf hw ⟨h1,h2,h3,⟨o,h4,h5⟩,h6,h7,h8⟩;exact⟨h1,h2,h3,⟨o,h4,fun W q1 q2 q3=>h5 W q1 q2 (hw W q3)⟩,h6,h7,fun c=>ih c _ _ _ _ _ _ _ _ hw (h8 c)⟩
def Vu (P:Program) (ops:Array Oper) (π:Nat->Nat) (Q:Exit->Act->World->Prop) (m:Nat) (Er:World->World->Prop) (C:World->Prop) (k:Nat) (l:List Oper) (ac:Act) (Φ FA:World->Prop) (A:Nat->Prop) (gh pf:ZN):Prop:=(∀j,l[j]?=ops[π (k+j)]?)->(∀j,m<=j->π j=j)->∃t,Ok P ops π Q m Er C t k ac Φ FA A gh pf
theorem XZ (h:∀j,(o::r)[j]?=ops[π (k+j)]?):ops[π k]?=some o/\dU ops (π k)=o.dst/\∀j,r[j]?=ops[π (k+1+j)]?:=by
 have h0:ops[π k]?=some o:=by simpa using (h 0).symm
 exact⟨h0,by unfold dU;rw[h0];rfl,fun j=>by have:=h (j+1);rw[Nat.add_assoc,Nat.add_comm 1 j];simpa using this⟩
theorem ald {W:World} {v:Value} {D:World->Prop} (hn:Tj o=true) (hw:Region.wanted o (yielded ops ac.tmps)=true) (h:o.quietAt P ac D W v):Det P ops o ac W v W:=by
 unfold Oper.quietAt at h;have hne:=fun f args W'=>ZC hn ac.eval P W f args W'
 unfold Det;refine aoX ⟨hw,?_⟩
 revert h hne
 generalize (execOp ac.eval o).run P W=q;intro h hne;cases q with
 | ok n w' =>
  cases n<;>simp only[Oper.quietUpon] at h
  case value u=>obtain⟨rfl,rfl⟩:=h;exact aoX rfl
  case skip=>obtain⟨rfl,rfl⟩:=h;exact a4Z ⟨rfl,rfl⟩
  case enter f args=>exact a40 rfl (hne f args w')
 | halt x w'=>simp only[Oper.quietUpon] at h
structure aNs (Er:World->World->Prop) (v:Value) (Φ':World->Prop) (W:World) (u:Value) (W':World):Prop where
 er:Er W W'
 val:u=v
 phi:Φ' W'
structure aGy {γ:Type} (Er:World->World->Prop) (val:γ->Value) (Φ':γ->World->Prop) (W:World) (u:Value) (W':World):Prop where
 er:Er W W'
 ex:∃c,u=val c/\Φ' c W'
structure aVp {γ:Type} (Er:World->World->Prop) (val:γ->Value) (Φ':γ->World->Prop) (Ap:γ->Nat->Prop) (W:World) (u:Value) (W':World):Prop where
 er:Er W W'
 ex:∃c,u=val c/\Φ' c W'/\∀g,(g<W.heap.size\/W'.heap.size<=g)->Ap c g
structure aX2 (val:Nat->Value) (F:Nat->World->Prop) (W:World) (u:Value) (W':World):Prop where
 er:Ext W W'
 ex:∃g,u=val g/\F g W'
structure a0Z (val:Nat->Value) (F:Nat->World->Prop) (W:World) (u:Value) (W':World):Prop where
 er:Ext W W'
 ex:∃g,u=val g/\W.heap.size<=g/\g<W'.heap.size/\F g W'
theorem bZ (h:∀K:Act->Prop,(∀a,Vu P ops π Q m Er C (k+1) r a Φ FA A gh pf->K a)->o.quiet P ac (fun w=>∃τ:WIn C,w=τ.1) K) (hw:Region.wanted o (yielded ops ac.tmps)=true:=by rfl) (hk:Nat.ble (k+1) m=true:=by rfl) (hn:Tj o=true:=by rfl):Vu P ops π Q m Er C k (o::r) ac Φ FA A gh pf:=by
 intro hl hπ;obtain⟨ho,hd,hr⟩:=XZ hl;obtain⟨v,hv,hn'⟩:=h (fun a=>Vu P ops π Q m Er C (k+1) r a Φ FA A gh pf) (fun _ h=>h);obtain⟨t,ht⟩:=hn' hr hπ;exact⟨.plain v t,Nat.le_of_ble_eq_true hk,⟨o,ho,fun W hC=>ald hn hw (hv W ⟨⟨W,hC⟩,rfl⟩)⟩,by rw[hd];exact ht⟩
theorem zX (h:∀K:Act->Prop,(∀a,Vu P ops π Q m Er C (k+1) r a Φ FA A gh pf->K a)->K (ac.put o.dst undef)) (hw:Region.wanted o (yielded ops ac.tmps)=false:=by rfl) (hk:Nat.ble (k+1) m=true:=by rfl):Vu P ops π Q m Er C k (o::r) ac Φ FA A gh pf:=by
 intro hl hπ;obtain⟨ho,hd,hr⟩:=XZ hl;obtain⟨t,ht⟩:=h (fun a=>Vu P ops π Q m Er C (k+1) r a Φ FA A gh pf) (fun _ h=>h) hr hπ;exact⟨.plain undef t,Nat.le_of_ble_eq_true hk,⟨o,ho,fun W hC=>a4Z ⟨hw,rfl,rfl⟩⟩,by rw[hd];exact ht⟩
theorem akW {val:Nat->Value} {T:Value->World->Prop} {G:Nat->World->World->Prop} (hw:Region.wanted o (yielded ops ac.tmps)=true) (hn:Tj o=true) {W:World} (hT:∀u W',T u W'->∃g,u=val g/\G g W W') (h1:bQ P o ac.eval W T):∃g W',Det P ops o ac W (val g) W'/\G g W W':=by
 have hne:=fun f args W'=>ZC hn ac.eval P W f args W'
 unfold bQ at h1;unfold Det
 revert h1 hne
 generalize (execOp ac.eval o).run P W=q;intro h1 hne;split at h1
 ·obtain⟨g,rfl,a3⟩:=hT _ _ h1;exact⟨g,_,aoX ⟨hw,aoX rfl⟩,a3⟩
 ·obtain⟨g,a2,a3⟩:=hT _ _ h1;exact⟨g,_,aoX ⟨hw,a4Z ⟨rfl,a2.symm⟩⟩,a3⟩
 ·exact a40 rfl (hne _ _ _)
 exact h1.elim
theorem Az (val:Nat->Value) (F:Nat->World->Prop) (h:∀W,C W->bQ P o ac.eval W (aX2 val F W)) (hs:∀g W W',Er W W'->F g W->F g W')
  (hx:∀g,∀K:Act->Prop,(∀a,Vu P ops π Q m Er C (k+1) r a Φ (fun W=>FA W/\F g W) A (π k::gh) pf->K a)->K (ac.put o.dst (val g))) (hw:Region.wanted o (yielded ops ac.tmps)=true:=by rfl) (hk:Nat.ble (k+1) m=true:=by rfl) (hn:Tj o=true:=by rfl):Vu P ops π Q m Er C k (o::r) ac Φ FA A gh pf:=by
 intro hl hπ;obtain⟨ho,hd,hr⟩:=XZ hl;have hy:∀g,∃t,Ok P ops π Q m Er C t (k+1) (ac.put o.dst (val g)) Φ (fun W=>FA W/\F g W) A (π k::gh) pf:=fun g=>hx g (fun a=>Vu P ops π Q m Er C (k+1) r a Φ (fun W=>FA W/\F g W) A (π k::gh) pf) (fun _ h=>h) hr hπ
 exact⟨.alloc val F false (fun g=>(hy g).choose),Nat.le_of_ble_eq_true hk,⟨o,ho,fun W hC=>by
  obtain⟨g,W',h1,h2,h3⟩:=akW (G:=fun g W W'=>Ext W W'/\F g W') hw hn (fun u W' ⟨q1,g,q2,q3⟩=>⟨g,q2,q1,q3⟩) (h W hC);exact⟨g,W',h1,h2,h3,fun e=>by cases e⟩⟩,⟨hs,fun e=>by cases e⟩,fun g=>by rw[hd];exact Ok.weak _ _ _ _ _ _ _ _ _ (fun W q=>⟨q.1,q.2.1⟩) (hy g).choose_spec⟩
theorem Jj (val:Nat->Value) (F:Nat->World->Prop) (h:∀W,C W->bQ P o ac.eval W (a0Z val F W)) (hs:∀g W W',Er W W'->F g W->F g W') (hz:∀W W',Er W W'->W.heap.size<=W'.heap.size)
  (hx:∀g,∀K:Act->Prop,(∀a,Vu P ops π Q m Er C (k+1) r a Φ (fun W=>FA W/\F g W/\g<W.heap.size/\A g) A (π k::gh) pf->K a)->K (ac.put o.dst (val g))) (hw:Region.wanted o (yielded ops ac.tmps)=true:=by rfl) (hk:Nat.ble (k+1) m=true:=by rfl) (hn:Tj o=true:=by rfl):Vu P ops π Q m Er C k (o::r) ac Φ FA A gh pf:=by
 intro hl hπ;obtain⟨ho,hd,hr⟩:=XZ hl;have hy:∀g,∃t,Ok P ops π Q m Er C t (k+1) (ac.put o.dst (val g)) Φ (fun W=>FA W/\F g W/\g<W.heap.size/\A g) A (π k::gh) pf:=fun g=>hx g (fun a=>Vu P ops π Q m Er C (k+1) r a Φ (fun W=>FA W/\F g W/\g<W.heap.size/\A g) A (π k::gh) pf) (fun _ h=>h) hr hπ
 exact⟨.alloc val F true (fun g=>(hy g).choose),Nat.le_of_ble_eq_true hk,⟨o,ho,fun W hC=>by
  obtain⟨g,W',h1,h2,h3,h4,h5⟩:=akW (G:=fun g W W'=>Ext W W'/\W.heap.size<=g/\g<W'.heap.size/\F g W') hw hn (fun u W' ⟨q1,g,q2,q3⟩=>⟨g,q2,q1,q3⟩) (h W hC);exact⟨g,W',h1,h2,h5,fun _=>⟨h3,h4⟩⟩⟩,⟨hs,fun _=>hz⟩,fun g=>by rw[hd];exact Ok.weak _ _ _ _ _ _ _ _ _ (fun W q=>⟨q.1,q.2.1,(q.2.2 rfl).1,(q.2.2 rfl).2⟩) (hy g).choose_spec⟩
theorem yK {γ:Type} (val:γ->Value) (Φ':γ->World->Prop) (Ap:γ->Nat->Prop) (h:∀W,C W->Φ W->FA W->bQ P o ac.eval W (aVp Er val Φ' Ap W)) (hs:∀c W W',Ext W W'->Φ' c W->Φ' c W')
  (hx:∀c,∀K:Act->Prop,(∀a,Vu P ops π Q m Er C (k+1) r a (Φ' c) FA (fun g=>A g/\Ap c g) (π k::gh) pf->K a)->K (ac.put o.dst (val c))) (hne:Nonempty γ:=by infer_instance) (hw:Region.wanted o (yielded ops ac.tmps)=true:=by rfl) (hk:Nat.ble (k+1) m=true:=by rfl)
  (hg:gh.all (fun j=>fK ops m (π k) j)=true:=by kernel_rfl) (hp:pf.all (fun j=>fK ops m (π k) j)=true:=by kernel_rfl):Vu P ops π Q m Er C k (o::r) ac Φ FA A gh pf:=by
 intro hl hπ;obtain⟨ho,hd,hr⟩:=XZ hl;have hy:∀c,∃t,Ok P ops π Q m Er C t (k+1) (ac.put o.dst (val c)) (Φ' c) FA (fun g=>A g/\Ap c g) (π k::gh) pf:=fun c=>hx c (fun a=>Vu P ops π Q m Er C (k+1) r a (Φ' c) FA (fun g=>A g/\Ap c g) (π k::gh) pf) (fun _ h=>h) hr hπ
 exact⟨.call γ val Φ' Ap (fun c=>(hy c).choose),Nat.le_of_ble_eq_true hk,hg,hp,⟨o,ho,fun W h1 h2 h3=>by unfold aaM;rw[bM hw];exact(h W h1 h2 h3).mono fun _ _ q=>⟨q.er,q.ex⟩⟩,hne,hs,fun c=>by rw[hd];exact(hy c).choose_spec⟩
theorem dP {γ:Type} (val:γ->Value) (Φ':γ->World->Prop) (h:∀W,C W->Φ W->FA W->bQ P o ac.eval W (aGy Er val Φ' W)) (hs:∀c W W',Ext W W'->Φ' c W->Φ' c W')
  (hx:∀c,∀K:Act->Prop,(∀a,Vu P ops π Q m Er C (k+1) r a (Φ' c) FA (fun g=>A g/\True) (π k::gh) pf->K a)->K (ac.put o.dst (val c))) (hne:Nonempty γ:=by infer_instance) (hw:Region.wanted o (yielded ops ac.tmps)=true:=by rfl) (hk:Nat.ble (k+1) m=true:=by rfl)
  (hg:gh.all (fun j=>fK ops m (π k) j)=true:=by kernel_rfl) (hp:pf.all (fun j=>fK ops m (π k) j)=true:=by kernel_rfl):Vu P ops π Q m Er C k (o::r) ac Φ FA A gh pf :=
 yK val Φ' (fun _ _=>True) (fun W h1 h2 h3=>(h W h1 h2 h3).mono fun _ _ ⟨q1,c,q2,q3⟩=>⟨q1,c,q2,q3,fun _ _=>trivial⟩) hs hx hne hw hk hg hp
theorem fZ (v:Value) (Φ':World->Prop) (h:∀W,C W->Φ W->FA W->bQ P o ac.eval W (aNs Er v Φ' W)) (hs:∀W W',Ext W W'->Φ' W->Φ' W')
  (hx:∀K:Act->Prop,(∀a,Vu P ops π Q m Er C (k+1) r a Φ' FA (fun g=>A g/\True) (π k::gh) pf->K a)->K (ac.put o.dst v)) (hw:Region.wanted o (yielded ops ac.tmps)=true:=by rfl) (hk:Nat.ble (k+1) m=true:=by rfl)
  (hg:gh.all (fun j=>fK ops m (π k) j)=true:=by kernel_rfl) (hp:pf.all (fun j=>fK ops m (π k) j)=true:=by kernel_rfl):Vu P ops π Q m Er C k (o::r) ac Φ FA A gh pf :=
 dP (γ:=Unit) (fun _=>v) (fun _=>Φ') (fun W h1 h2 h3=>(h W h1 h2 h3).mono fun _ _ ⟨q1,q2,q3⟩=>⟨q1,(),q2,q3⟩) (fun _=>hs) (fun _=>hx) ⟨()⟩ hw hk hg hp
theorem mU {f:FuncId} {args:Array Value} {v:Value} (h:∀W,C W->Calls P f args W (cz v W))
  (hx:∀K:Act->Prop,(∀a,Vu P ops π Q m Er C (k+1) r a Φ FA (fun g=>A g/\True) (π k::gh) pf->K a)->K (ac.put o.dst v)) (hs:∀W W',Ext W W'->Φ W->Φ W':=by exact fun _ _ _ h=>h) (hX:∀W W',Ext W W'->Er W W':=by first|exact fun _ _ h=>h|exact fun _ _ h=>h.shp _|exact fun _ _ h=>h.cR _) (he:∀(W:World) (T:Value->World->Prop),Calls P f args W (fun e W'=>∃u,e=.returned u/\T u W')->bQ P o ac.eval W T:=by intro _ _ _;unfold bQ;go_simp<;>assumption) (hw:Region.wanted o (yielded ops ac.tmps)=true:=by rfl) (hk:Nat.ble (k+1) m=true:=by rfl)
  (hg:gh.all (fun j=>fK ops m (π k) j)=true:=by kernel_rfl) (hp:pf.all (fun j=>fK ops m (π k) j)=true:=by kernel_rfl):Vu P ops π Q m Er C k (o::r) ac Φ FA A gh pf :=
 fZ v Φ (fun W h1 h2 _=>he W _ ((h W h1).mono fun _ _ ⟨q1,q2⟩=>⟨v,q1,hX _ _ q2,rfl,hs _ _ q2 h2⟩)) hs hx hw hk hg hp
theorem nH (h:∀W,C W->Φ W->FA W->wpList P ops Q l ac W) (hk:k=m:=by rfl):Vu P ops π Q m Er C k l ac Φ FA A gh pf:=fun hl hπ=>⟨.done,hk,fun W h1 h2 h3=>by
 have:ops.toList.drop m=l:=by
  apply List.ext_getElem?
  intro j;rw[List.getElem?_drop,hl j,hπ _ (by omega),<-hk,Array.getElem?_toList]
 rw[this];exact h W h1 h2 h3⟩
theorem gC (h:∀W,C W->Φ W->FA W->Q .normal ac W) (hk:k=m:=by rfl):Vu P ops π Q m Er C k [] ac Φ FA A gh pf:=nH h hk
theorem kG {id:Nat} {a:Act} {w:World} (hR:∀W,Er W W) (hXE:∀W W',Ext W W'->Er W W') (hCE:∀W W',C W->Er W W'->C W') (hC:C w.drew) (hΦ:Φ w.drew) (hs:∀W W',Ext W W'->Φ W->Φ W')
  (h:Vu P l.toArray (fun k=>k) Q m Er C 0 l a Φ (fun _=>True) (fun _=>True) [] []) (hm:P.follows .mixedOrders=true:=by kernel_rfl) (hok:adA l.toArray m=true:=by kernel_rfl):(Code.region id l.toArray true).wp P Q a w :=
 VU hm hok (aLu hok) hR hXE hCE hC hΦ hs (h (fun j=>by simp) fun _ _=>rfl)
def aPT (p:ZN) (l:List Oper) (m:Nat):List Oper:=p.filterMap (fun i=>l[i]?)++l.drop m
theorem aMV {id:Nat} {a:Act} {w:World} (p s:ZN) (hR:∀W,Er W W) (hXE:∀W W',Ext W W'->Er W W') (hCE:∀W W',C W->Er W W'->C W') (hC:C w.drew) (hΦ:Φ w.drew) (hs:∀W W',Ext W W'->Φ W->Φ W')
  (h:Vu P l.toArray (fun k=>p.getD k k) Q m Er C 0 (aPT p l m) a Φ (fun _=>True) (fun _=>True) [] []) (hm:P.follows .mixedOrders=true:=by kernel_rfl) (hok:adA l.toArray m=true:=by kernel_rfl) (hp:aLv l.toArray m p s=true:=by kernel_rfl):(Code.region id l.toArray true).wp P Q a w:=by
 obtain⟨hL,hpm⟩:=aLt hp;obtain⟨-,hml,-⟩:=Jv hok;refine VU hm hok hL hR hXE hCE hC hΦ hs (h (fun j=>?_) fun j hj=>?_)
 ·have hgo:∀q:ZN,(∀i∈q,i<m)->q.filterMap (fun i=>l[i]?)=q.map fun i=>l.getD i default:=by
   intro q;induction q with
   | nil=>intro _;rfl
   | cons x r ih =>
    intro hq;have hx:x<l.length:=bF (hq x (by simp)) (by simpa using hml);rw[List.filterMap_cons,aT hx,List.map_cons,ih fun i hi=>hq i (by simp[hi])];simp[hx]
  have hall:∀i∈p,i<m:=fun i hi=>by
   obtain⟨k,hk,rfl⟩:=bA hi;have:=(hL.lt k (by omega)).1;simpa[hk] using this
  unfold aPT;rw[hgo p hall,Nat.zero_add]
  show _=l.toArray[p.getD j j]?
  by_cases hj:j<m
  ·have hjp:j<p.length:=by omega
   have h1:=(hL.lt j hj).1;have h2:p.getD j j<l.length:=bF h1 (by simpa using hml);rw[List.getElem?_append_left (by simpa using hjp),List.getElem?_map,aT hjp];have e:p.getD j j=p[j]:=by simp[hjp]
   rw[e] at h2 ⊢;simp[h2]
  rw[List.getElem?_append_right (by simp;omega),List.getElem?_drop];have e:p.getD j j=j:=by simp[show ¬j<p.length by omega]
  rw[e,List.length_map,hpm,Nat.add_sub_cancel' (by omega)];simp
 show p.getD j j=j
 simp[show ¬j<p.length by omega]
theorem kT {id:Nat} {a:Act} {w:World} (m:Nat) (h:Vu P l.toArray (fun k=>k) Q m Ext (Ext w) 0 l a (fun _=>True) (fun _=>True) (fun _=>True) [] []) (hm:P.follows .mixedOrders=true:=by kernel_rfl) (hok:adA l.toArray m=true:=by kernel_rfl):(Code.region id l.toArray true).wp P Q a w :=
 kG Tz (fun _ _ h=>h) (fun _ _ h k=>h.trans k) (Tz w).drew trivial (fun _ _ _ h=>h) h hm hok
theorem pT {id:Nat} {a:Act} {w:World} (m:Nat) (N:ZN) (Φ:World->Prop) (hΦ:Φ w.drew) (hs:∀W W',Ext W W'->Φ W->Φ W') (h:Vu P l.toArray (fun k=>k) Q m (ct N) (ct N w) 0 l a Φ (fun _=>True) (fun _=>True) [] []) (hm:P.follows .mixedOrders=true:=by kernel_rfl) (hok:adA l.toArray m=true:=by kernel_rfl):(Code.region id l.toArray true).wp P Q a w :=
 kG (ct.refl N) (fun _ _ h=>h.cR N) (fun _ _ h k=>h.then k) ((Tz w).drew.cR N) hΦ hs h hm hok
end
instance (w:World):Nonempty (WIn (Ext w)):=⟨⟨w,Tz w⟩⟩
instance (N:ZN) (w:World):Nonempty (WIn (ct N w)):=⟨⟨w,ct.refl N w⟩⟩
theorem bT {w:World} {p:Addr} {v:Value} (h:w.cell? p=some v):∀τ:WIn (Ext w),τ.1.cell? p=some v:=fun τ=>τ.2.cell h
theorem cU {w:World} {N:ZN} {p:Addr} {v:Value} (h:w.cell? p=some v) (hp:p.block∉N):∀τ:WIn (ct N w),τ.1.cell? p=some v:=fun τ=>by rw[World.cell?_of_block (τ.2.block _ (eB h) hp)];exact h
theorem wcn6 {w0 w1 w2 w3 w4 w5:World} {p0 p1 p2 p3 p4 p5:Addr} {v0 v1 v2 v3 v4 v5:Value} (h0:w0.cell? p0=some v0) (h1:w1.cell? p1=some v1) (h2:w2.cell? p2=some v2) (h3:w3.cell? p3=some v3) (h4:w4.cell? p4=some v4) (h5:w5.cell? p5=some v5):(∀τ:WIn (Ext w0),τ.1.cell? p0=some v0)/\(∀τ:WIn (Ext w1),τ.1.cell? p1=some v1)/\(∀τ:WIn (Ext w2),τ.1.cell? p2=some v2)/\(∀τ:WIn (Ext w3),τ.1.cell? p3=some v3)/\(∀τ:WIn (Ext w4),τ.1.cell? p4=some v4)/\(∀τ:WIn (Ext w5),τ.1.cell? p5=some v5):=⟨bT h0,bT h1,bT h2,bT h3,bT h4,bT h5⟩
theorem wgn6 {w:World} {N:ZN} {b o0 o1 o2 o3 o4 o5:Nat} {v0 v1 v2 v3 v4 v5:Value} (h:b∉N) (h0:w.cell? ⟨b,o0,none⟩=some v0) (h1:w.cell? ⟨b,o1,none⟩=some v1) (h2:w.cell? ⟨b,o2,none⟩=some v2) (h3:w.cell? ⟨b,o3,none⟩=some v3) (h4:w.cell? ⟨b,o4,none⟩=some v4) (h5:w.cell? ⟨b,o5,none⟩=some v5):(∀τ:WIn (ct N w),τ.1.cell? ⟨b,o0,none⟩=some v0)/\(∀τ:WIn (ct N w),τ.1.cell? ⟨b,o1,none⟩=some v1)/\(∀τ:WIn (ct N w),τ.1.cell? ⟨b,o2,none⟩=some v2)/\(∀τ:WIn (ct N w),τ.1.cell? ⟨b,o3,none⟩=some v3)/\(∀τ:WIn (ct N w),τ.1.cell? ⟨b,o4,none⟩=some v4)/\(∀τ:WIn (ct N w),τ.1.cell? ⟨b,o5,none⟩=some v5):=⟨cU h0 h,cU h1 h,cU h2 h,cU h3 h,cU h4 h,cU h5 h⟩
theorem wcn3 {w0 w1 w2:World} {p0 p1 p2:Addr} {v0 v1 v2:Value} (h0:w0.cell? p0=some v0) (h1:w1.cell? p1=some v1) (h2:w2.cell? p2=some v2):(∀τ:WIn (Ext w0),τ.1.cell? p0=some v0)/\(∀τ:WIn (Ext w1),τ.1.cell? p1=some v1)/\(∀τ:WIn (Ext w2),τ.1.cell? p2=some v2):=⟨bT h0,bT h1,bT h2⟩
theorem wgn3 {w:World} {N:ZN} {b o0 o1 o2:Nat} {v0 v1 v2:Value} (h:b∉N) (h0:w.cell? ⟨b,o0,none⟩=some v0) (h1:w.cell? ⟨b,o1,none⟩=some v1) (h2:w.cell? ⟨b,o2,none⟩=some v2):(∀τ:WIn (ct N w),τ.1.cell? ⟨b,o0,none⟩=some v0)/\(∀τ:WIn (ct N w),τ.1.cell? ⟨b,o1,none⟩=some v1)/\(∀τ:WIn (ct N w),τ.1.cell? ⟨b,o2,none⟩=some v2):=⟨cU h0 h,cU h1 h,cU h2 h⟩
end Go.Proofs.YtefjomofjejklaaGreatDoor
