/-
  Texts of the claim, joined: GrowS, GrowG, GenL, LawExpr, Made10, Val11.
-/
import Derived.Test.YtefjomofjejklaaGreatDoorDx11
namespace Go.Proofs.YtefjomofjejklaaGreatDoor
set_option maxRecDepth 100000
set_option maxHeartbeats 32000000
open Go.RowKit
section
variable {P:Program} {ops:Array Oper} {Q:Exit->Act->World->Prop} {a:Act} {m:Nat} (Kp:ZN) (G:ZN->(Nat->Value)->World->Prop) (E:Nat->World->World->Prop) (R:Nat->Value->World->Prop)
theorem atl {n:Nat} (hok:aeR ops m n=true) (hN:n<=a.tmps.size) (sk:Nat->Bool) (hSg:∀i o,i<m->sk i=true->ops[i]?=some o->o.guard≠none) (hGd:∀i o j b,i<m->ops[i]?=some o->o.guard=some (j,b)->∀v W,R j v W->if sk i=true then v≠.bool b else v=.bool b) (hsk:∀i,i<m->sk i=true->∀L vs W,i∉L->G L vs W->E i W W/\G (L++[i]) (upd vs i undef) W/\R i undef W) (hRE:∀i k v W W',i<m->k<m->i≠k->II ops m Kp i k=true->R i v W->E k W W'->R i v W')
  (hstep:∀i o,i<m->sk i=false->ops[i]?=some o->∀L vs W,i∉L->(∀j∈L,jd ops m j i=false)->G L vs W->(∀e∈o.after,qg e=true->R e.on (vs e.on) W)->∀ρ,aAk ops a m vs ρ->dF P o ρ W (fun v W'=>E i W W'/\G (L++[i]) (upd vs i v) W'/\R i v W'))
  (hend:∀L vs W,(∀j,j<m->j∈L)->G L vs W->(∀j∈Kp,j<m->R j (vs j) W)->if m=ops.size then Q .normal (acts ops a vs (List.range m)) W else wpOp P ops Q m (fun a w=>Q .normal a w) (acts ops a vs (List.range m)) W) :
  ∀(fuel:Nat) (L:ZN) (vs:Nat->Value) (W:World) (listed:Array Bool),listed.size=ops.size->(∀j,j<ops.size->(listed.getD j true=true ↔ j∈L))->L.Nodup->(∀j∈L,j<m)->((List.range ops.size).filter (fun j=>!L.contains j)).length<=fuel->G L vs W->(∀i∈L,∀o,ops[i]?=some o->∀e∈o.after,Region.binds .any e=true->e.on∈L)->(∀j∈L,(j∈Kp\/∃c,c<m/\c∉L/\QX ops c j=true)->R j (vs j) W) ->
   wpAny P .any ops Q fuel listed (acts ops a vs L) W:=by
 obtain⟨hns,hm1,hm2,hda,hspec⟩:=arn hok;have hperm:∀L:ZN,L.Nodup->(∀j∈L,j<m)->(∀j,j<m->j∈L)->L.Perm (List.range m):=fun L h1 h2 h3 =>
  (List.perm_ext_iff_of_nodup h1 List.nodup_range).2 (fun j=>⟨fun h=>by simpa using h2 j h,fun h=>h3 j (by simpa using h)⟩)
 have hall:∀(L:ZN) (listed:Array Bool),listed.size=ops.size->(∀j,j<ops.size->(listed.getD j true=true ↔ j∈L))->(∀j∈Region.ready .any ops listed,¬j<m)->∀j,j<m->j∈L:=by
  intro L listed hsz hL hr j;induction j using Nat.strongRecOn with
  | _ j ih =>
   intro hj;by_cases Zt:j∈L
   ·exact Zt
   exfalso;refine hr j ?_ hj;have hjs:j<ops.size:=by omega
   rw[mem_ready];obtain⟨o,ho⟩:∃o,ops[j]?=some o:=⟨ops[j],bG hjs⟩
   refine⟨?_,o,ho,fun e he hb=>?_⟩
   ·cases hx:listed.getD j true
    ·rfl
    exact absurd ((hL j hjs).1 hx) Zt
   have hlt:=((hspec j o ho).2.1 e he).1 hb;have hm:=ih e.on hlt (by omega);have:=(hL e.on (by omega)).2 hm;have hin:e.on<listed.size:=by rw[hsz];omega
   simpa[Array.getD,hin] using this
 have hfin:∀(L:ZN) (vs:Nat->Value) (W:World),L.Nodup->(∀j∈L,j<m)->(∀j,j<m->j∈L)->G L vs W->(∀j∈L,(j∈Kp\/∃c,c<m/\c∉L/\QX ops c j=true)->R j (vs j) W) ->
   if m=ops.size then Q .normal (acts ops a vs L) W else wpOp P ops Q m (fun a w=>Q .normal a w) (acts ops a vs L) W:=by
  intro L vs W hnd pR hcov hE hR;rw[ab6 hda (hperm L hnd pR hcov)];exact hend L vs W hcov hE (fun j hk hj=>hR j (hcov j hj) (Or.inl hk))
 intro fuel;induction fuel with
 | zero =>
  intro L vs W listed hsz hL hnd pR hlen hE hcl hR;have hcov:∀j,j<ops.size->j∈L:=fun j hj=>by
   have h0:=aX (Nat.le_zero.1 hlen);have:j∉(List.range ops.size).filter (fun j=>!L.contains j):=by rw[h0];simp
   simpa[hj] using this
  have hmn:m=ops.size:=by
   rcases cO m ops.size with h|h
   ·have:=pR m (hcov m h);omega
   omega
  have hf:=hfin L vs W hnd pR (fun j hj=>hcov j (by omega)) hE hR;rw[dw hmn] at hf;refine⟨?_,hf⟩;rw[List.eq_nil_iff_forall_not_mem];intro j hj;obtain⟨h0,o,ho,_⟩:=mem_ready.1 hj;have:=(hL j (aW.1 ho).1).2 (hcov j (aW.1 ho).1);rw[this] at h0;cases h0
 | succ fuel ih =>
  intro L vs W listed hsz hL hnd pR hlen hE hcl hR;refine⟨fun hr=>?_,fun i hi=>?_⟩
  ·have hcov:=hall L listed hsz hL (by rw[hr];simp);have hf:=hfin L vs W hnd pR hcov hE hR;by_cases hmn:m=ops.size
   ·rw[dw hmn] at hf;exact hf
   exfalso;have hms:m<ops.size:=by omega
   have:m∈Region.ready .any ops listed:=by
    rw[mem_ready];obtain⟨o,ho⟩:∃o,ops[m]?=some o:=⟨ops[m],bG hms⟩
    refine⟨?_,o,ho,fun e he hb=>?_⟩
    ·cases hx:listed.getD m true
     ·rfl
     have:=pR m ((hL m hms).1 hx);omega
    have hlt:=((hspec m o ho).2.1 e he).1 hb;have:=(hL e.on (by omega)).2 (hcov e.on hlt);have hin:e.on<listed.size:=by rw[hsz];omega
    simpa[Array.getD,hin] using this
   rw[hr] at this;simp at this
  obtain⟨h0,o,ho,azE⟩:=mem_ready.1 hi;have his:i<ops.size:=(aW.1 ho).1;have hiL:i∉L:=fun h=>by rw[(hL i his).2 h] at h0;cases h0
  have Nv:∀e∈o.after,Region.binds .any e=true->e.on∈L:=fun e he hb=>by
   have h1:=azE e he hb;have hlt:=((hspec i o ho).2.1 e he).1 hb;have hin:e.on<listed.size:=by rw[hsz];omega
   exact(hL e.on (by omega)).1 (by simpa[Array.getD,hin] using h1)
  have hlist:∀j,j<ops.size->((listed.setIfInBounds i true).getD j true=true ↔ j∈L++[i]):=fun j hj=>by
   by_cases hij:i=j
   ·subst hij;simp[hsz,his]
   rw[getD_set_ne true hij,hL j hj];simp;intro e;exact absurd e.symm hij
  by_cases him:i<m
  ·
   have hnc:∀j∈L,jd ops m j i=false:=fun j hj=>by
    cases hx:jd ops m j i
    ·rfl
    exact absurd (AV hcl m j i hj hx) hiL
   have hcont:∀v W',E i W W'->G (L++[i]) (upd vs i v) W'->R i v W'->wpAny P .any ops Q fuel (listed.setIfInBounds i true) ((acts ops a vs L).put o.dst v) W':=by
    intro v W' hEW hE' hRv;have e1:(acts ops a vs L).put o.dst v=acts ops a (upd vs i v) (L++[i]):=by
     rw[ab5,ad7 (vs:=upd vs i v) (vs':=vs) (fun j hj=>by unfold upd;rw[dh (fun e=>hiL (by rw[<-e];exact hj))])];simp[upd,gK,ho]
    rw[e1];refine ih (L++[i]) (upd vs i v) W' _ (by simpa using hsz) hlist ?_ ?_ ?_ hE' ?_ ?_
    ·rw[List.nodup_append];exact⟨hnd,by simp,fun x hx y hy e=>by simp at hy;subst hy;subst e;exact hiL hx⟩
    ·intro j hj;rcases aT.1 hj with h|h
     ·exact pR j h
     simp at h;omega
    ·have h1:(List.range ops.size).filter (fun j=>!(L++[i]).contains j)=((List.range ops.size).filter (fun j=>!L.contains j)).filter (fun j=>j != i):=by
      rw[List.filter_filter]
      congr 1
      funext j
      simp only[List.contains_append,Bool.not_or];rw[Bool.and_comm]
      congr 1
      rw[bW];simp[bne]
     have h2:(((List.range ops.size).filter (fun j=>!L.contains j)).filter (fun j=>j != i)).length<((List.range ops.size).filter (fun j=>!L.contains j)).length:=by
      rw[List.length_filter_lt_length_iff_exists];exact⟨i,by simp[his,hiL],by simp⟩
     rw[h1];omega
    ·intro j hj o' ho' e he hb;rcases aT.1 hj with h|h
     ·exact aQ _ (hcl j h o' ho' e he hb)
     simp at h;subst h;rw[ho] at ho';cases ho'
     exact aQ _ (Nv e he hb)
    intro j hj hlive;rcases aT.1 hj with h|h
    ·have:upd vs i v j=vs j:=by unfold upd;rw[dh (fun e=>hiL (by rw[<-e];exact h))]
     rw[this];have azB:j∈Kp\/∃c,c<m/\c∉L/\QX ops c j=true:=hlive.imp id (fun ⟨c,h1,h2,h3⟩=>⟨c,h1,fun hc=>h2 (aQ _ hc),h3⟩);refine hRE j i _ W W' (pR j h) him (fun e=>hiL (e ▸ h)) ?_ (hR j h azB) hEW;unfold II;rw[aJ,Bool.not_eq_true',bV];refine⟨?_,?_⟩
     ·cases hx:jd ops m j i
      ·rfl
      exact absurd (AV hcl m j i h hx) hiL
     rcases hlive with hk|⟨c,h1,h2,h3⟩
     ·exact Or.inl (List.contains_iff_mem.2 hk)
     refine Or.inr (List.any_eq_true.2 ⟨c,by simpa using h1,?_⟩);rw[h3,Bool.and_true,aJ,bne_iff_ne,Bool.not_eq_true'];refine⟨fun e=>by subst e;exact h2 (by simp),?_⟩;cases hx:jd ops m i c
     ·rfl
     exact absurd (aQ _ (LV hcl ho Nv m c hx)) h2
    simp at h;subst h;simpa[upd] using hRv
   cases hss:sk i
   case true =>
    unfold wpOp;simp only[ho];cases hgd:o.guard with
    | none=>exact absurd hgd (hSg i o him hss ho)
    | some p =>
     obtain⟨j,b⟩:=p;obtain⟨t,ht,htn,e,he,heD,rfl⟩:=(hspec i o ho).1 him j b hgd;have Zt:=Nv e he (((hspec i o ho).2.1 e he).2 heD);have hv:=hGd i o e.on b him ho hgd _ _ (hR e.on Zt (Or.inr ⟨i,him,hiL,by unfold QX;rw[ho];exact Array.any_eq_true'.2 ⟨e,he,by simp[heD]⟩⟩));rw[dw hss] at hv;rw[dh (by
      unfold Region.wanted;rw[hgd];have hev:=zM hda (a:=a) (vs:=vs) Zt ht;rw[dw (bU htn hN)] at hev;have hlt:t<(acts ops a vs L).tmps.size:=by rw[ag9];exact bU htn hN
      show ¬(yielded ops (acts ops a vs L).tmps e.on==some b)=true
      simp only[Act.eval] at hev;unfold yielded;have hdd:(ops[e.on]?).bind (·.dst)=some t:=ht;rw[hdd];simp only[Option.bind_some];rw[Array.getD_eq_getD_getElem?,bG hlt,Option.getD_some] at hev;rw[bG hlt,hev];cases hvs:vs e.on<;>simp
      intro hb;exact hv (by rw[hvs,hb]))]
     obtain⟨q1,q2,q3⟩:=hsk i him hss L vs W hiL hE;exact hcont undef W q1 q2 q3
   have hg:=hstep i o him hss ho L vs W hiL hnc hE (fun e he hb=>hR _ (Nv e he (((hspec i o ho).2.1 e he).2 hb)) (Or.inr ⟨i,him,hiL,by unfold QX;rw[ho];exact Array.any_eq_true'.2 ⟨e,he,by simp[hb]⟩⟩)) _ (aoy hda a m vs);have hex:execOp (acts ops a vs L).eval o=execOp (acts ops a vs (List.range m)).eval o:=by
    refine execOp_congr o (Region.noSelect_spec hns i o · · ho) (fun x hx=>?_);cases x with
    | tmp t =>
     have hlook:t∈o.looksAt ops:=aQ _ (List.mem_filterMap.2 ⟨.tmp t,by simpa using hx,rfl⟩);by_cases hex:∃j,j<m/\gK ops j=some t
     ·obtain⟨j,hjm,hj⟩:=hex;obtain⟨e,he,hb,rfl⟩:=(hspec i o ho).2.2.1 him j t hjm hj hlook;have Zt:=Nv e he hb;rw[zM hda Zt hj,zM hda (by simpa using pR _ Zt) hj]
     have h1:∀j,j<m->gK ops j≠some t:=fun j hjm hj=>hex ⟨j,hjm,hj⟩
     rw[DF (fun j Zt=>h1 j (pR j Zt)),DF (fun j hjr=>h1 j (by simpa using hjr))]
    | const v=>rfl
    | global g=>rfl
    | func f=>rfl
   unfold wpOp;simp only[ho];rw[dw (by
    unfold Region.wanted;cases hgd:o.guard with
    | none=>rfl
    | some p =>
     obtain⟨j,b⟩:=p;obtain⟨t,ht,htn,e,he,heD,rfl⟩:=(hspec i o ho).1 him j b hgd;have Zt:=Nv e he (((hspec i o ho).2.1 e he).2 heD);have hv:=hGd i o e.on b him ho hgd _ _ (hR e.on Zt (Or.inr ⟨i,him,hiL,by unfold QX;rw[ho];exact Array.any_eq_true'.2 ⟨e,he,by simp[heD]⟩⟩));rw[dh (by rw[hss];decide)] at hv;have hev:=zM hda (a:=a) (vs:=vs) Zt ht;rw[dw (bU htn hN),hv] at hev;have hlt:t<(acts ops a vs L).tmps.size:=by rw[ag9];exact bU htn hN
     show (yielded ops (acts ops a vs L).tmps e.on==some b)=true
     simp only[Act.eval] at hev;unfold yielded;have hdd:(ops[e.on]?).bind (·.dst)=some t:=ht;rw[hdd];simp only[Option.bind_some];rw[Array.getD_eq_getD_getElem?,bG hlt,Option.getD_some] at hev;rw[bG hlt,hev];simp)]
   left
   refine Oper.wp_mono ?_ (hg.wp hex);rintro a' W' ⟨v,rfl,hEW,hE',hRv⟩;exact hcont v W' hEW hE' hRv
  obtain rfl:i=m:=by omega
  have hcov:∀j,j<i->j∈L:=fun j hj=>by
   obtain⟨e,he,hb,rfl⟩:=(hspec i o ho).2.2.2 rfl j hj;exact Nv e he hb
  have hf:=hfin L vs W hnd pR hcov hE hR;rw[dh (by omega)] at hf;refine wpOp_mono (fun a' W' hq=>?_) hf;refine wpAny_done ?_ hq fuel;rw[List.eq_nil_iff_forall_not_mem];intro j hj;obtain⟨h0',o',ho',_⟩:=mem_ready.1 hj;have hjs:=(aW.1 ho').1;have:j∈L++[i]:=by
   by_cases hji:j<i
   ·exact aQ _ (hcov j hji)
   have:j=i:=by omega
   simp[this]
  rw[(hlist j hjs).2 this] at h0';cases h0'
theorem lJ {id:Nat} {w:World} (hm:P.follows .mixedOrders=true) {n:Nat} (hok:aeR ops m n=true) (hN:n<=a.tmps.size) (sk:Nat->Bool) (hSg:∀i o,i<m->sk i=true->ops[i]?=some o->o.guard≠none) (hGd:∀i o j b,i<m->ops[i]?=some o->o.guard=some (j,b)->∀v W,R j v W->if sk i=true then v≠.bool b else v=.bool b) (hsk:∀i,i<m->sk i=true->∀L vs W,i∉L->G L vs W->E i W W/\G (L++[i]) (upd vs i undef) W/\R i undef W) (hG:G [] (fun _=>undef) w.drew) (hRE:∀i k v W W',i<m->k<m->i≠k->II ops m Kp i k=true->R i v W->E k W W'->R i v W')
  (hstep:∀i o,i<m->sk i=false->ops[i]?=some o->∀L vs W,i∉L->(∀j∈L,jd ops m j i=false)->G L vs W->(∀e∈o.after,qg e=true->R e.on (vs e.on) W)->∀ρ,aAk ops a m vs ρ->dF P o ρ W (fun v W'=>E i W W'/\G (L++[i]) (upd vs i v) W'/\R i v W'))
  (hend:∀L vs W,(∀j,j<m->j∈L)->G L vs W->(∀j∈Kp,j<m->R j (vs j) W)->if m=ops.size then Q .normal (acts ops a vs (List.range m)) W else wpOp P ops Q m (fun a w=>Q .normal a w) (acts ops a vs (List.range m)) W) :
  (Code.region id ops true).wp P Q a w:=by
 refine wp_region_any hm ?_;refine atl Kp G E R hok hN sk hSg hGd hsk hRE hstep hend ops.size [] (fun _=>undef) _ _ (by simp) (fun j hj=>?_) List.nodup_nil (fun j hj=>by simp at hj) ?_ hG (fun j hj=>by simp at hj) (fun j hj=>by simp at hj)
 ·simp[hj]
 exact bC (List.length_filter_le _ _) (by simp)
end
section
variable {P:Program} {ops:Array Oper} {Q:Exit->Act->World->Prop} {a:Act} {m:Nat} (Kp:ZN) (G:ZN->(Nat->Value)->World->Prop) (E:Nat->World->World->Prop) (R:Nat->Value->World->Prop)
theorem fM {id:Nat} {w:World} (hm:P.follows .mixedOrders=true) {n:Nat} (hok:aeR ops m n=true) (hN:n<=a.tmps.size) (hGd:∀i o j b,i<m->ops[i]?=some o->o.guard=some (j,b)->∀v W,R j v W->v=.bool b) (hG:G [] (fun _=>undef) w.drew) (hRE:∀i k v W W',i<m->k<m->i≠k->II ops m Kp i k=true->R i v W->E k W W'->R i v W')
  (hstep:∀i o,i<m->ops[i]?=some o->∀L vs W,i∉L->(∀j∈L,jd ops m j i=false)->G L vs W->(∀e∈o.after,qg e=true->R e.on (vs e.on) W)->∀ρ,aAk ops a m vs ρ->dF P o ρ W (fun v W'=>E i W W'/\G (L++[i]) (upd vs i v) W'/\R i v W'))
  (hend:∀L vs W,(∀j,j<m->j∈L)->G L vs W->(∀j∈Kp,j<m->R j (vs j) W)->if m=ops.size then Q .normal (acts ops a vs (List.range m)) W else wpOp P ops Q m (fun a w=>Q .normal a w) (acts ops a vs (List.range m)) W) :
  (Code.region id ops true).wp P Q a w:=by
 exact lJ Kp G E R hm hok hN (fun _=>false) (fun _ _ _ h=>by cases h) (fun i o j b hi ho hg v W hv=>by rw[dh (by decide)];exact hGd i o j b hi ho hg v W hv) (fun _ _ h=>by cases h) hG hRE (fun i o hi _ ho=>hstep i o hi ho) hend
end
def exT:Ex:=.mk 1 ⟨#[]⟩ [] 0 0 []
def Zq (attrs:List Attr) (names:ZB) (kd:Int) (nm:BA) (c:dY):Prop:=c.kind=kd/\c.name=nm/\tY attrs names 3 c.cond/\((kd=3/\YS attrs names c.jZ/\qU c.jZ<=6)\/c.jZ=[])/\aKD kd c.amount/\abn c
def aiX (attrs:List Attr) (p:BA) (c:dY):Prop:=c.kind=2/\c.name=Dc p 0/\(tY attrs [] 3 c.cond\/c.cond=exT)/\c.jZ=[]/\c.amount=0
def aiI (attrs:List Attr) (p:BA) (l:List dY):Prop:=(∀c∈l,abn c/\c.name.size=p.size+2)/\((∃c,l=[c]/\aiX attrs p c)\/eU attrs l=(0,0))
def Md:Obj:=.cells #[.int .i64 0,.string ⟨#[]⟩,.int .i64 0,.string ⟨#[]⟩,.slice none 0 0,.int .i64 0,.int .i64 0,.slice none 0 0,.slice none 0 0,.int .i64 0] 48 (0,0)
def GnA (a b k:Nat) (W W':World):Prop:=(k≠a->k≠b->Ext W W')/\(k=a->∃x,dO [x] W W'/\W.heap[x]?=some (.cells #[] 48 (0,0)))/\(k=b->True)
theorem gna {a b k:Nat} {W W':World} (h:Ext W W') (ha:k≠a) (_hb:k≠b):GnA a b k W W':=⟨fun _ _=>h,fun e=>absurd e ha,fun _=>trivial⟩
theorem oN {w w':World} {base:Nat} {e:TypeId} {size:Nat} {v:Value} {n:Nat} {xs:List Value} (h:w.ownsRow base e size v n xs) (hx:Ext w w'):w'.ownsRow base e size v n xs:=eF h (hx.fH []) (by simp)
def GnV (w0 w2:World) (attrs:List Attr) (names:ZB) (bd:Nat) (N:ZN) (nm:BA) (L:ZN) (vs:Nat->Value) (W:World):Prop:=dS w0 W bd/\dO [bd] w2 W /\
 (8∈L->∃c cv,vs 8=clV cv/\kR (mask W N) c cv/\Zq attrs names c.kind nm c)/\(9∈L->∃g,vs 9=.pointer (some ⟨g,0,none⟩)/\W.heap[g]?=some Md/\w2.heap.size<=g) /\
 (8∈L->9∈L->∃c cv g,vs 8=clV cv/\vs 9=.pointer (some ⟨g,0,none⟩)/\kR (mask W (N++[g])) c cv/\Zq attrs names c.kind nm c/\W.heap[g]?=some Md/\w2.heap.size<=g)
section
variable {w0 w2 W W':World} {attrs:List Attr} {names:ZB} {bd:Nat} {N:ZN} {nm:BA} {L:ZN} {vs:Nat->Value}
theorem Nw {i:Nat} {v:Value} (h8:i≠8) (h9:i≠9) (h:GnV w0 w2 attrs names bd (bd::N) nm L vs W) (hd:dS w0 W' bd) (hc:dO [bd] W W'):GnV w0 w2 attrs names bd (bd::N) nm (L++[i]) (upd vs i v) W':=by
 have e8:upd vs i v 8=vs 8:=by unfold upd;rw[dh (Ne.symm h8)]
 have e9:upd vs i v 9=vs 9:=by unfold upd;rw[dh (Ne.symm h9)]
 have hbd:=h.1.lt;refine⟨hd,h.2.1.then hc,fun hm=>?_,fun hm=>?_,fun hm hm2=>?_⟩
 ·rw[e8];obtain⟨c,cv,q1,q2,q3⟩:=h.2.2.1 (by rcases aT.1 hm with h'|h';exact h';simp at h';omega);exact⟨c,cv,q1,q2.mono (dZ hc (by simp)),q3⟩
 ·rw[e9];obtain⟨g,q1,q2,q3⟩:=h.2.2.2.1 (by rcases aT.1 hm with h'|h';exact h';simp at h';omega);have hb0:bd<w2.heap.size\/g≠bd:=by
   by_cases e:g=bd
   ·subst e;exfalso;obtain⟨la,ln,lc,k,hb,_⟩:=h.1;rw[q2] at hb;cases hb
   exact Or.inr e
  have hgb:g≠bd:=by
   intro e;subst e;obtain⟨la,ln,lc,k,hb,_⟩:=h.1;rw[q2] at hb;cases hb
  exact⟨g,q1,hc.blk q2 (by simpa using hgb),q3⟩
 rw[e8,e9];obtain⟨c,cv,g,q1,q2,q3,q4,q5,q6⟩:=h.2.2.2.2 (by rcases aT.1 hm with h'|h';exact h';simp at h';omega) (by rcases aT.1 hm2 with h'|h';exact h';simp at h';omega);have hgb:g≠bd:=by
  intro e;subst e;obtain⟨la,ln,lc,k,hb,_⟩:=h.1;rw[q5] at hb;cases hb
 exact⟨c,cv,g,q1,q2,q3.mono (dZ hc (by simp)),q4,hc.blk q5 (by simpa using hgb),q6⟩
theorem aHR (h:GnV w0 w2 attrs names bd N nm L vs W):∃Z:ZN,(∀y∈Z,y<W.heap.size)/\(9∈L->∃g,Z=[g]/\vs 9=.pointer (some ⟨g,0,none⟩)/\W.heap[g]?=some Md/\w2.heap.size<=g)/\True:=by
 by_cases h9:9∈L
 ·obtain⟨g,q1,q2,q3⟩:=h.2.2.2.1 h9;exact⟨[g],by simp;exact dH q2,fun _=>⟨g,rfl,q1,q2,q3⟩,trivial⟩
 exact⟨[],by simp,fun h'=>absurd h' h9,trivial⟩
theorem aVA {c:dY} {cv:jm} {Z:ZN} (h:GnV w0 w2 attrs names bd (bd::N) nm L vs W) (hd:dS w0 W' bd) (hc:dO [bd] W W') (hi:kR (mask W' ((bd::N)++Z)) c cv) (hg:Zq attrs names c.kind nm c) (hz:9∈L->∃g,Z=[g]/\vs 9=.pointer (some ⟨g,0,none⟩)/\W.heap[g]?=some Md/\w2.heap.size<=g) (_:True):GnV w0 w2 attrs names bd (bd::N) nm (L++[8]) (upd vs 8 (clV cv)) W':=by
 have e8:upd vs 8 (clV cv) 8=clV cv:=by simp[upd]
 have e9:upd vs 8 (clV cv) 9=vs 9:=by simp[upd]
 have gb:∀g,W.heap[g]?=some Md->W'.heap[g]?=some Md:=fun g q=>hc.blk q (by
  intro e;simp at e;subst e;obtain⟨la,ln,lc,k,hb,_⟩:=h.1;rw[q] at hb;cases hb)
 refine⟨hd,h.2.1.then hc,fun _=>⟨c,cv,e8,hi.mono (eG _ (fun y hy=>by simp at hy ⊢;rcases hy with h|h<;>simp[h])),hg⟩,fun hm=>?_,fun _ hm=>?_⟩
 ·rw[e9];obtain⟨g,_,q1,q2,q3⟩:=hz (by simpa using hm);exact⟨g,q1,gb g q2,q3⟩
 rw[e8,e9];obtain⟨g,rfl,q1,q2,q3⟩:=hz (by simpa using hm);exact⟨c,cv,g,rfl,q1,hi,hg,gb g q2,q3⟩
theorem aVz (h:GnV w0 w2 attrs names bd N nm L vs W) (_:9∉L):GnV w0 w2 attrs names bd N nm (L++[9]) (upd vs 9 (.pointer (some ⟨W.heap.size,0,none⟩))) (W.alloc Md):=by
 have e8:upd vs 9 (.pointer (some ⟨W.heap.size,0,none⟩)) 8=vs 8:=by simp[upd]
 have e9:upd vs 9 (.pointer (some ⟨W.heap.size,0,none⟩)) 9=.pointer (some ⟨W.heap.size,0,none⟩):=by simp[upd]
 have hz:=h.2.1.size;refine⟨h.1.ext ((Ext.refl W).alloc _),h.2.1.then (((Ext.refl W).alloc _).fH _),fun hm=>?_,fun _=>⟨W.heap.size,e9,dG W _,hz⟩,fun hm _=>?_⟩
 ·rw[e8];obtain⟨c,cv,q1,q2,q3⟩:=h.2.2.1 (by simpa using hm);exact⟨c,cv,q1,q2.mono (dX fun k hk hn=>⟨hn,Below.heap_alloc W _ k hk⟩),q3⟩
 rw[e8,e9];obtain⟨c,cv,q1,q2,q3⟩:=h.2.2.1 (by simpa using hm);exact⟨c,cv,W.heap.size,q1,rfl,q2.mono (dX fun k hk hn=>⟨by simp only[aT,aK,not_or];exact⟨hn,by omega⟩,Below.heap_alloc W _ k hk⟩),q3,dG W _,hz⟩
end
theorem aC1 {w:World} {base base':Nat} {e:TypeId} {size:Nat} {v:Value} {n:Nat} {xs:List Value} (h:w.ownsRow base e size v n xs) (hb:base'<=base):w.ownsRow base' e size v n xs:=by
 refine⟨h.1,?_⟩;rcases h.2 with h2|⟨g,cap,cur,h3,h4,h5⟩
 ·exact Or.inl h2
 exact Or.inr ⟨g,cap,cur,h3,bC hb h4,h5⟩
theorem FP {W w2:World} {bd:Nat} {M:ZN} {v v':Value} (hc:dO (rowOf v) W w2) (hg:∀k,v'.ownBlock=some k->v.ownBlock=some k\/W.heap.size<=k):Sub (mask W (bd::rowOf v++M)) (mask w2 (bd::rowOf v'++M)):=by
 refine dX fun k hk hn=>⟨fun hm=>?_,hc.block k hk fun hm=>hn (by simp[hm])⟩
 simp only[List.cons_append,bK,aT] at hm hn;rcases hm with h|h|h
 ·exact hn (Or.inl h)
 ·rcases hg k (dK.1 h) with e|e
  ·exact hn (Or.inr (Or.inl (dK.2 e)))
  omega
 exact hn (Or.inr (Or.inr h))
def a0K (attrs:List Attr) (names:ZB) (p:BA) (bd lw:Nat) (N:ZN) (sa:OA) (sn sc:Nat) (kd:Int) (nm:BA):Nat->Value->World->Prop
 | 0,u,_=>u=.pointer (some ⟨bd,0,none⟩)
 | 1,u,_=>u=.agg #[.slice sa sn sc]
 | 2,u,_=>u=.string p
 | 3,u,_=>u=.string (Dc p 0)
 | 4,u,W=>∃(c:dY) (cv:jm),u=.agg #[.int .i64 cv.kind,.string cv.name,.int .i64 cv.x.op,.string cv.x.name,.slice cv.x.aw cv.x.nw cv.x.cw,.int .i64 cv.x.lo,.int .i64 cv.x.hi,.slice cv.x.aa cv.x.na cv.x.ca,.slice cv.au cv.nu cv.cu,.int .i64 cv.amount]/\(kR (mask W N) c cv/\Zq attrs names kd nm c)
 | 5,u,W=>∃(c:dY) (cv:jm) (g:Nat),u=.slice (some ⟨g,0,none⟩) 1 1/\(W.heap[g]?=some (.cells cv.cells.toArray 48 (0,0))/\lw<=g/\g≠bd/\kR (mask W N) c cv/\Zq attrs names kd nm c)
 | _,u,W=>∃(c:dY) (cv:jm) (g:Nat),u=.slice (some ⟨g,0,none⟩) 1 1/\(W.heap[g]?=some (.cells cv.cells.toArray 48 (0,0))/\lw<=g/\g≠bd/\kR (mask W N) c cv/\Zq attrs names kd nm c)
def a0J (p:BA) (bd:Nat) (sa:OA) (sn sc:Nat) (K:Nat) (nm:BA) (an:OA) (names:ZB) (cn:Nat):Nat->Value->World->Prop
 | 0,u,_=>u=.pointer (some ⟨bd,0,none⟩)
 | 1,u,_=>u=.agg #[.slice sa sn sc]
 | 2,u,_=>u=.pointer (some ⟨bd,0,none⟩)
 | 3,u,_=>∃(kd:Int),u=.int .i64 kd/\(1<=kd/\kd<=10)
 | 4,u,_=>u=.string p
 | 5,u,_=>u=.int .i64 ((K:Nat):Int)
 | 6,u,_=>u=.string nm
 | 7,u,_=>u=.slice an names.length cn
 | 8,u,_=>u=u/\True
 | _,u,_=>u=u/\True
def a0I (B lg lc:Nat) (l:List dY) (cvs:List jm) (cv:jm):Nat->Value->World->Prop
 | 0,u,W=>∃(g:Nat),u=.slice (some ⟨g,0,none⟩) 0 0/\(B<=g/\W.heap[g]?=some (.cells #[] 48 (0,0)))
 | 1,u,_=>u=.slice (some ⟨lg,0,none⟩) l.length lc
 | 2,u,W=>∃(g:Nat) (cp:Nat),u=.slice (some ⟨g,0,none⟩) l.length cp/\(W.ownsRow B 48 10 (.slice (some ⟨g,0,none⟩) l.length cp) l.length (cvs.flatMap jm.cells))
 | 3,u,_=>u=.agg #[.int .i64 cv.kind,.string cv.name,.int .i64 cv.x.op,.string cv.x.name,.slice cv.x.aw cv.x.nw cv.x.cw,.int .i64 cv.x.lo,.int .i64 cv.x.hi,.slice cv.x.aa cv.x.na cv.x.ca,.slice cv.au cv.nu cv.cu,.int .i64 cv.amount]
 | 4,u,W=>∃(y:Nat),u=.slice (some ⟨y,0,none⟩) 1 1/\(W.heap[y]?=some (.cells cv.cells.toArray 48 (0,0)))
 | 5,u,W=>∃(g:Nat) (cp:Nat),u=.slice (some ⟨g,0,none⟩) (l.length+1) cp/\(W.ownsRow B 48 10 (.slice (some ⟨g,0,none⟩) (l.length+1) cp) (l.length+1) (cvs.flatMap jm.cells++cv.cells))
 | _,u,W=>∃(g:Nat) (cp:Nat),u=.slice (some ⟨g,0,none⟩) (l.length+1) cp/\(W.ownsRow B 48 10 (.slice (some ⟨g,0,none⟩) (l.length+1) cp) (l.length+1) (cvs.flatMap jm.cells++cv.cells))
def a4G (w0 w:World) (attrs:List Attr) (p:BA) (bd bs _lw g:Nat) (N:ZN) (sa:OA) (sn sc:Nat) (wx:World):Prop:=∃(c:dY) (cv:jm),wx.heap[g]?=some (.cells cv.cells.toArray 48 (0,0))/\kR (mask wx N) c cv/\aiX attrs p c/\abn c/\dS w0 wx bd/\dO [bd] w wx/\wx.heap[bs]?=some (.cells #[.slice sa sn sc] 24 (0,0))
structure GLp (w0 w:World) (attrs:List Attr) (p:BA) (bd bs lw n:Nat) (M:ZN) (sa:OA) (sn sc:Nat) (nv lv:Value) (K:Nat) (names:ZB) (l:List dY) (cvs:List jm) (wr:World):Prop where
 k1:1<=K
 kn:K<=n+1
 lk:l.length<=K
 l1:1<=l.length
 nk:names.length<=K
 nsz:∀x∈names,x.size<=1000
 aiq:wr.ownsRow lw 9 1 nv names.length (names.flatMap strCells)
 ais:wr.ownsRow lw 48 10 lv l.length (cvs.flatMap jm.cells)
 WT:Dp (mask wr (bd::rowOf nv++M)) l cvs
 apart:∀g,lv.ownBlock=some g->nv.ownBlock≠some g
 ok:aiI attrs p l
 yN:dS w0 wr bd
 fH:dO [bd] w wr
 box:wr.heap[bs]?=some (.cells #[.slice sa sn sc] 24 (0,0))
def GLq (w0 w:World) (attrs:List Attr) (p:BA) (bd bs lw n:Nat) (M:ZN) (sa:OA) (sn sc:Nat) (nv lv k:Value) (wr:World):Prop:=∃(K:Nat) (names:ZB) (l:List dY) (cvs:List jm),k=.int .i64 ((K:Nat):Int)/\GLp w0 w attrs p bd bs lw n M sa sn sc nv lv K names l cvs wr
theorem GLp.Wi {w0 w:World} {attrs:List Attr} {p:BA} {bd bs lw n:Nat} {M:ZN} {sa:OA} {sn sc:Nat} {nv lv:Value} {K:Nat} {names:ZB} {l:List dY} {cvs:List jm} {wr wr':World} (h:GLp w0 w attrs p bd bs lw n M sa sn sc nv lv K names l cvs wr) (hx:Ext wr wr'):GLp w0 w attrs p bd bs lw n M sa sn sc nv lv K names l cvs wr' :=
 {h with aiq:=oN h.aiq hx,ais:=oN h.ais hx,WT:=h.WT.mono (dZ (hx.fH [bd]) (by simp)),yN:=h.yN.ext hx,fH:=h.fH.then (hx.fH _),box:=hx.blk h.box }
theorem aiA {s:List Attr} {l:List dY} (h:(eU s l).2=0):eU s l=(0,0):=by
 have key:∀(f:Nat->Int) (n:Nat),(oC f n).2=0->oC f n=(0,0):=by
  intro f n;induction n with
  | zero=>intro _;rfl
  | succ n ih =>
   intro h;rw[oC] at h ⊢;by_cases h1:(oC f n).2≠0
   ·rw[dw h1] at h;exact absurd h h1
   rw[dh h1] at h ⊢;by_cases h2:f n≠0
   ·rw[dw h2] at h;exact absurd h h2
   rw[dh h2]
 unfold eU at h ⊢;split at h
 ·rename_i h1;exact absurd h h1
 split at h
 ·simp at h
 split at h
 ·rename_i h1;exact absurd h h1
 split at h
 ·simp at h
 rename_i h1 h2 h3 h4
 rw[dh h1,dh h2,dh h3,dh h4];exact key _ _ h
theorem kM {attrs:List Attr} (h:attrs∈jw):∀x∈attrs,x.fits:=by
 intro x hx;have:=aV.1 (aV.1 ahp attrs h) x hx;simp only[aJ,aN,aV] at this;exact⟨by omega,by omega,fun y hy=>by have:=this.2.2 y hy;omega⟩
def aoI (w:World) (B:Nat) (v:jm):World:=(((((((((w.setCell ⟨B,0,none⟩ (.int .i64 v.kind)).setCell ⟨B,1,none⟩ (.string v.name)).setCell ⟨B,2,none⟩ (.int .i64 v.x.op)).setCell ⟨B,3,none⟩ (.string v.x.name)).setCell ⟨B,4,none⟩ (.slice v.x.aw v.x.nw v.x.cw)).setCell ⟨B,5,none⟩ (.int .i64 v.x.lo)).setCell ⟨B,6,none⟩ (.int .i64 v.x.hi)).setCell ⟨B,7,none⟩ (.slice v.x.aa v.x.na v.x.ca)).setCell ⟨B,8,none⟩ (.slice v.au v.nu v.cu)).setCell ⟨B,9,none⟩ (.int .i64 v.amount)
theorem aCP {w:World} {B:Nat} (h:w.heap[B]?=some Md) (v:jm):(aoI w B v).heap[B]?=some (.cells v.cells.toArray 48 (0,0)):=by
 unfold aoI;unfold Md at h;rw[aO _ _ _ _ _ _ (aO _ _ _ _ _ _ (aO _ _ _ _ _ _ (aO _ _ _ _ _ _ (aO _ _ _ _ _ _ (aO _ _ _ _ _ _ (aO _ _ _ _ _ _ (aO _ _ _ _ _ _ (aO _ _ _ _ _ _ (aO _ _ _ _ _ _ h)))))))))];simp[jm.cells]
theorem aCO (w:World) (B:Nat) (v:jm):dO [B] w (aoI w B v):=by
 unfold aoI
 repeat (with_reducible (refine dO.setCell ?_ (Or.inl (by simp)) _))
 exact dO.refl _ _
def aKy (attrs:List Attr) (p:BA) (n:Nat) (w0:World) (bd:Nat) (M:ZN) (w:World) (e:Ending) (w':World):Prop:=∃l a ln c,e=.returned (.slice a ln c)/\eX (mask w' M) l a ln c/\aiI attrs p l/\1<=l.length/\l.length<=n+1/\dS w0 w' bd/\dO [bd] w w'
theorem JG {attrs:List Attr} (hat:attrs∈jw) (hok:∀a∈attrs,Yj a) (hne:attrs≠[]) (hl:attrs.length<=1000) {w0 w:World} {bd:Nat} (hd:dS w0 w bd) (sa:OA) (sn sc:Nat) (M:ZN) (hs:fJ (mask w [bd]) attrs (.agg #[.slice sa sn sc])) (hM:∀y∈M,y<w.heap.size) (n:Nat) (hn:n<=50) (p:BA) (hp:p.size<=100) :
  Calls Tryz.prog 39 #[.pointer (some ⟨bd,0,none⟩),.agg #[.slice sa sn sc],.int .i64 (n:Nat),.string p] w (aKy attrs p n w0 bd M w):=by
 have hbw:=hd.lt;obtain⟨wr,hwr⟩:∃wr,wr=w.alloc (.cells #[.slice sa sn sc] 24):=⟨_,rfl⟩
 obtain⟨bs,hbs⟩:∃bs,bs=w.heap.size:=⟨_,rfl⟩
 have hxa:Ext w wr:=by rw[hwr];exact(Ext.refl w).alloc _
 have fE:=ak hxa;have lV:=ak (show wr.heap[bs]?=some (.cells #[.slice sa sn sc] 24 (0,0)) by rw[hwr,hbs];exact dG w _);have HDK:=ak (hd.ext hxa);have HS:=ak hs;have HM:=ak hM;have nZ:=ak (show bd<bs/\bs=w.heap.size/\wr.heap.size=w.heap.size+1 from⟨by omega,hbs,by rw[hwr];simp⟩);have Zm:=ak hok;have HDS:=ak (show w0.heap.size<=w.heap.size by obtain⟨_,_,_,_,_,_,_,_,hxw,_⟩:=hd;exact hxw.size);have HPS:=ak (show p.size<=1000 by omega);go_enter Tryz.func39,Tryz.ntmps39
 go_upto_region 2 with fail
 rw[<-hwr,<-hbs];clear hwr hbs hxa hd hs hM hok hbw;obtain⟨lw,hlw⟩:∃lw,lw=w.heap.size+1:=⟨_,rfl⟩
 have HLW:=ak (show lw<=wr.heap.size by have:=nZ.o;omega);obtain⟨names,azz⟩:∃names:ZB,names=[]:=⟨_,rfl⟩
 obtain⟨kd,hkd⟩:∃kd:Int,kd=2:=⟨_,rfl⟩
 obtain⟨nm,hnm⟩:∃nm,nm=Dc p 0:=⟨_,rfl⟩
 obtain⟨N,hN⟩:∃N,N=bd::M:=⟨_,rfl⟩
 have Aj:=ak (show bd∈N by rw[hN];simp);have vS:=ak (show ∀W,dS w0 W bd->dO [bd] wr W->Calls Tryz.prog 19 #[.pointer (some ⟨bd,0,none⟩),.agg #[.slice sa sn sc],.int .i64 2,.string (Dc p 0),.slice none 0 0] W (aNR attrs names kd nm w0 bd N W) from fun W hd hW=>by
  rw[azz,hkd,hnm];exact MN hat [] Zm.o hne hl (by simp) (by simp) hd sa sn sc none 0 0 N (HS.o.mono (dZ ((fE.o.fH [bd]).then hW) (by simp))) (kX _) (fun y hy=>by
   rw[hN] at hy;have h1:=hW.size;have h2:=nZ.o;rcases bK.1 hy with rfl|h
   ·omega
   have:=HM.o y h;omega) 2 _)
 have wZ:=ak (show N=bd::M/\names=[]/\kd=2/\nm=Dc p 0/\lw=w.heap.size+1 from⟨hN,azz,hkd,hnm,hlw⟩);clear hN azz hkd hnm hlw;refine iP (m:=7) [6] (GnG w0 wr bd) (GnE bd) (zu (a0K attrs names p bd lw N sa sn sc kd nm)) (by kernel_rfl) (by kernel_rfl) ⟨HDK.o.ext ((Ext.refl wr).drew),((Ext.refl wr).drew).fH _⟩ ?_ ?_ ?_
 ·intro i k v W W' hi hk hne hout h hE;have hE:dO [bd] W W':=hE;have hi':=ltc7 hi;clear hi hk hne hout;rcases hi' with rfl|rfl|rfl|rfl|rfl|rfl|rfl
  ·exact h
  ·exact h
  ·exact h
  ·exact h
  ·obtain⟨c,cv,e0,h⟩:=h;exact⟨c,cv,e0,⟨h.1.mono (dZ hE Aj.o),h.2⟩⟩
  ·obtain⟨c,cv,g,e0,h⟩:=h;exact⟨c,cv,g,e0,⟨hE.blk h.1 (by simpa using h.2.2.1),h.2.1,h.2.2.1,h.2.2.2.1.mono (dZ hE Aj.o),h.2.2.2.2⟩⟩
  obtain⟨c,cv,g,e0,h⟩:=h;exact⟨c,cv,g,e0,⟨hE.blk h.1 (by simpa using h.2.2.1),h.2.1,h.2.2.1,h.2.2.2.1.mono (dZ hE Aj.o),h.2.2.2.2⟩⟩
 ·intro q op hq ho vs W hW hd ρ hρ;have hq':=ltc7 hq;clear hq;have o0:ρ (.tmp 0)=.pointer (some ⟨bd,0,none⟩):=hρ.out 0 rfl;have o5:ρ (.tmp 5)=.pointer (some ⟨bs,0,none⟩):=hρ.out 5 rfl;have o3:ρ (.tmp 3)=.string p:=hρ.out 3 rfl;have i2:=hρ.i 2 18;have i0:=hρ.i 0 16;have i1:=hρ.i 1 17;have i3:=hρ.i 3 19;have i4:=hρ.i 4 20;have i5:=hρ.i 5 21;have hc:=hρ.const;have hfn:=hρ.func;clear hρ;have HW:=ak (show dS w0 W bd/\dO [bd] wr W from hW);rcases hq' with rfl|rfl|rfl|rfl|rfl|rfl|rfl
  ·cases ho
   clear hd;unfold dF;go_simp;exact⟨dO.refl _ _,rfl⟩
  ·cases ho
   clear hd;obtain⟨g7,gf7⟩:=gQ (HW.o.2.blk lV.o (by have:=nZ.o;simp;omega));unfold dF;go_simp;exact⟨dO.refl _ _,rfl⟩
  ·cases ho
   clear hd;unfold dF;go_simp;exact⟨dO.refl _ _,rfl⟩
  ·cases ho
   have h2:vs 2=_:=hd ⟨2,.data⟩ (by simp) rfl;rw[h2] at i2;clear hd;unfold dF;go_simp;refine(acP p 0 (by omega) HPS.o W).mono ?_;rintro e5 w5 ⟨rfl,hx5⟩;exact⟨_,rfl,hx5.fH _,⟨HW.o.1.ext hx5,HW.o.2.then (hx5.fH _)⟩,rfl⟩
  ·cases ho
   have h0:vs 0=_:=hd ⟨0,.data⟩ (by simp) rfl;rw[h0] at i0;have h1:vs 1=_:=hd ⟨1,.data⟩ (by simp) rfl;rw[h1] at i1;have h3:vs 3=_:=hd ⟨3,.data⟩ (by simp) rfl;rw[h3] at i3;clear hd;unfold dF;go_simp;refine(vS.o W HW.o.1 HW.o.2).mono ?_;rintro e5 w5 ⟨c,cv,rfl,k1,k2,k3,k4,k5,k6,hi5,hd5,hc5⟩;exact⟨_,rfl,hc5,⟨hd5,HW.o.2.then hc5⟩,c,cv,rfl,hi5,k1,k2,k3,k4,k5,k6⟩
  ·cases ho
   obtain⟨c,cv,h4,hs4⟩:∃(c:dY) (cv:jm),vs 4=.agg #[.int .i64 cv.kind,.string cv.name,.int .i64 cv.x.op,.string cv.x.name,.slice cv.x.aw cv.x.nw cv.x.cw,.int .i64 cv.x.lo,.int .i64 cv.x.hi,.slice cv.x.aa cv.x.na cv.x.ca,.slice cv.au cv.nu cv.cu,.int .i64 cv.amount]/\(kR (mask W N) c cv/\Zq attrs names kd nm c):=hd ⟨4,.data⟩ (by simp) rfl;have xI:=ak hs4;clear hs4;rw[h4] at i4;clear hd;unfold dF;go_simp;exact⟨((Ext.refl W).alloc _).fH _,⟨HW.o.1.ext ((Ext.refl W).alloc _),HW.o.2.then (((Ext.refl W).alloc _).fH _)⟩,c,cv,W.heap.size,rfl,dG W _,by have:=HW.o.2.size;have:=HLW.o;omega,by have:=HW.o.1.lt;omega,xI.o.1.mono (dZ (((Ext.refl W).alloc _).fH [bd]) Aj.o),xI.o.2⟩
  cases ho
  obtain⟨c,cv,g,h5,hs5⟩:∃(c:dY) (cv:jm) (g:Nat),vs 5=.slice (some ⟨g,0,none⟩) 1 1/\(W.heap[g]?=some (.cells cv.cells.toArray 48 (0,0))/\lw<=g/\g≠bd/\kR (mask W N) c cv/\Zq attrs names kd nm c):=hd ⟨5,.data⟩ (by simp) rfl;have uj:=ak hs5;clear hs5;rw[h5] at i5;clear hd;unfold dF;go_simp;exact⟨dO.refl _ _,_,_,_,rfl,uj.o⟩
 intro vs W hW hR;rw[dw (by decide +kernel)];obtain⟨c,cv,g,h6,hs6⟩:∃(c:dY) (cv:jm) (g:Nat),vs 6=.slice (some ⟨g,0,none⟩) 1 1/\(W.heap[g]?=some (.cells cv.cells.toArray 48 (0,0))/\lw<=g/\g≠bd/\kR (mask W N) c cv/\Zq attrs names kd nm c):=hR 6 (by simp) (by omega);have Fg:=ak hs6;clear hs6;simp only[acts,gK,List.range,List.range.loop,bF,dA,h6];go_simp;have hW2:dS w0 W bd/\dO [bd] wr W:=hW;clear hR hW h6;have HW2:=ak hW2;obtain⟨hgb,hgl,hgd,hgi,hgc⟩:=Fg.o;have HGB:=ak hgb;have HGI:=ak hgi;have HGC:=ak hgc;have HGL:=ak (And.intro hgl hgd);have HW3:=ak (show dO [bd] w W from(fE.o.fH [bd]).then hW2.2);have NJ:=ak (hW2.2.blk lV.o (by have:=nZ.o;simp;omega));clear hgb hgl hgd hgi hgc hW2 Fg;go_wp2_with fail
 refine(fF HW2.o.1 3 (by omega) (by omega)).mono ?_;rintro e w5 ⟨z,rfl,hz0,hz1,hd5,hc5⟩;have aQd:=hc5.blk HGB.o (by have:=HGL.o;simp;omega);have HG5:=ak aQd;have HD5:=ak hd5;have xq:=ak (HW3.o.then hc5);have HI5:=ak (HGI.o.mono (dZ hc5 Aj.o));have jY:=ak (hc5.blk NJ.o (by have:=nZ.o;simp;omega));obtain⟨c0,c1,c2,c3,c4,c5,c6,c7,c8,c9,cf⟩:=wu aQd;have Zo:=ak (show aiX attrs p c from by
  obtain⟨_,e2,e3,e4,_⟩:=wZ.o;obtain⟨k1,k2,k3,k4,k5,k6⟩:=HGC.o;rw[e2] at k3;refine⟨by rw[k1,e3],by rw[k2,e4],Or.inl k3,?_,?_⟩
  ·rcases k4 with h|h
   ·have:=h.1;omega
   exact h
  rw[e3] at k5;rcases k5 with ⟨_,h⟩|⟨h,_⟩
  ·exact h
  simp[ny] at h)
 clear hd5 hc5 aQd HGB HGI HW2 HW3 NJ vS HDK lV
 go_upto_if 24 with fail
 go_cut [] (a4G w0 w attrs p bd bs lw g N sa sn sc)
 case first =>
  by_cases hz:0<z
  ·have tz:=ah (0<z) hz;go_wp2_with fail
   go_meet
   case rel =>
    have hcs:dO [g] w5 ((((((w5.setCell ⟨g,2,none⟩ (.int .i64 1)).setCell ⟨g,3,none⟩ (.string ⟨#[]⟩)).setCell ⟨g,4,none⟩ (.slice none 0 0)).setCell ⟨g,5,none⟩ (.int .i64 0)).setCell ⟨g,6,none⟩ (.int .i64 0)).setCell ⟨g,7,none⟩ (.slice none 0 0)):=by
     repeat (with_reducible (refine dO.setCell ?_ (Or.inl (by simp)) _))
     exact dO.refl _ _
    obtain⟨i1,i2,i3,i4,i5,i6,i7,i8⟩:=HI5.o;obtain⟨f1,f2,f3,f4,f5⟩:=Zo.o;refine⟨⟨c.kind,c.name,exT,c.jZ,c.amount⟩,⟨cv.kind,cv.name,⟨1,⟨#[]⟩,none,0,0,0,0,none,0,0⟩,cv.au,cv.nu,cv.cu,cv.amount⟩,?_,⟨i1,i2,iJ _ 1 0 0 _,i4,i5,i6,?_,i8⟩,⟨f1,f2,Or.inr rfl,f4,f5⟩,?_,?_,?_,?_⟩
    ·have hh:=aO _ g 7 _ _ (.slice none 0 0) (aO _ g 6 _ _ (.int .i64 0) (aO _ g 5 _ _ (.int .i64 0) (aO _ g 4 _ _ (.slice none 0 0) (aO _ g 3 _ _ (.string ⟨#[]⟩) (aO _ g 2 _ _ (.int .i64 1) HG5.o)))));rw[hh];simp[jm.cells]
    ·rw[f4];unfold jJ;trivial
    ·obtain⟨k1,k2,k3,k4,k5,k6⟩:=HGC.o.2.2.2.2.2;exact⟨by unfold exT;exact wR (by show 0<=_;omega),by unfold exT Ex.few qM;exact⟨by simp,trivial⟩,by simp[exT,Ex.size,sizes],by unfold exT vJ;simp[JX],k5,k6⟩
    ·exact HD5.o.fH hcs (by have:=HGL.o;simp;omega) (fun y hy=>by simp only[aK] at hy;have:=HGL.o;have:=wZ.o;have:=HDS.o;omega)
    ·exact xq.o.trans hcs (fun y hy=>by simp only[aK] at hy;have:=HGL.o;have:=wZ.o;exact Or.inr (by omega))
    exact hcs.blk jY.o (by have:=HGL.o;have:=wZ.o;have:=nZ.o;simp;omega)
  have tz:=aj (0<z) hz;go_wp2_with fail
  go_meet
  case rel=>exact⟨c,cv,HG5.o,HI5.o,Zo.o,HGC.o.2.2.2.2.2,HD5.o,xq.o,jY.o⟩
 case rest =>
  obtain⟨wx,rfl⟩:∃wx:World,wx=wc:=⟨_,rfl⟩
  obtain⟨c',cv',hb6,hi6,hf6,EO,hd6,hc6,hx6⟩:=hcut;clear c0 c1 c2 c3 c4 c5 c6 c7 c8 c9 cf HG5 HD5 xq HI5 jY Zo HGC;have HGP:=ak (show GLp w0 w attrs p bd bs lw n M sa sn sc (.slice none 0 0) (.slice (some ⟨g,0,none⟩) 1 1) 1 [] [c'] [cv'] wx from
   {k1:=by omega,kn:=by omega,lk:=by simp,l1:=by simp,nk:=by simp,nsz:=by simp,aiq:=World.ownsRow_nil _ _ _ _
    ais:=⟨rfl,Or.inr ⟨g,1,_,rfl,HGL.o.1,hb6,bg _,by unfold maxLen;omega,rfl,by simp[jm.cells]⟩⟩
    WT:=by
     refine⟨rfl,fun i h1 h2=>?_⟩;obtain rfl:i=0:=by simpa using h1
     have:=hi6;rw[wZ.o.1] at this;exact this
    apart:=by simp[Value.ownBlock]
    ok:=⟨fun y hy=>by
     obtain rfl:y=c':=by simpa using hy
     exact⟨EO,by rw[hf6.2.1,acQ]⟩,Or.inl ⟨c',rfl,hf6⟩⟩
    yN:=hd6,fH:=hc6,box:=hx6 })
  have HLE:=ak wZ.o.2.2.2.2;clear hb6 hi6 hf6 EO hd6 hc6 hx6 wZ Aj HGL fE HLW;go_wp2_with fail
  go_loopw [9,10,11] (GLq w0 w attrs p bd bs lw n M sa sn sc) (fun _ _ k _=>n+1 - (intOf k).toNat)
  case atStart=>exact⟨1,[],[c'],[cv'],rfl,HGP.o⟩
  case round =>
   obtain⟨K,names,l,cvs,rfl,hgp⟩:=hrel;clear HGP;obtain⟨an,cn,hnv⟩:=iG hgp.aiq;subst hnv;obtain⟨lg,lc,rfl,-,-⟩:=hgp.ais.form hgp.l1;have HGP:=ak hgp;have hK1:=hgp.k1;have hKn:=hgp.kn;have hlk:=hgp.lk;have hl1:=hgp.l1;have hdk:=hgp.yN;have HDK:=ak hdk;clear hgp hdk;have aRX:=ak (show ∀W,Ext wr W->∃a c,Value.slice (some ⟨lg,0,none⟩) l.length lc=.slice a l.length c/\aKy attrs p n w0 bd M w (.returned (.slice a l.length c)) W from fun W hx=>by
    have h:=HGP.o.Wi hx;obtain⟨a',c',hv,hcl⟩:=Dz (M:=M) h.ais (fun k hk hm=>by have h1:=(h.ais.lt k hk).1;have:=HM.o k hm;have:=HLE.o;omega) (h.WT.mono (eG _ (fun y hy=>by simp[hy])));exact⟨a',c',hv,l,a',l.length,c',rfl,hcl,h.ok,h.l1,by have:=h.lk;omega,h.yN,h.fH⟩)
   by_cases hkn:K<=n
   ·have tk:=ah ((K:Int)<=(n:Int));go_wp2_with fail
    refine(azj HDK.o).mono ?_;rintro r w2 ⟨lb,rfl,hx2⟩;cases lb
    ·obtain⟨a',c',hv,hq⟩:=aRX.o w2 hx2;have HV:=ak hv;have HQ:=ak hq;clear hv hq hx2;go_wp2_with fail
     go_ret;rw[HV.o];exact HQ.o
    have HG2:=ak (HGP.o.Wi hx2);clear hx2 HGP HDK aRX;go_upto_region 8 with fail
    have HDK:=ak HG2.o.yN;have lV:=ak HG2.o.box;have HLW:=ak (show lw<=w2.heap.size by have:=(HG2.o.ais.lt lg rfl);omega);have HKB:=ak (show K<=51 by omega);have HNL:=ak (show names.length<=51 by have:=HG2.o.nk;omega);obtain⟨N0,hN0⟩:∃N0,N0=rowOf (.slice an names.length cn)++M:=⟨_,rfl⟩
    obtain⟨nm,hnm⟩:∃nm,nm=Dc p K:=⟨_,rfl⟩
    have Gm:=ak hnm.symm;have GL:=ak (show ∀y∈bd::N0,y<w2.heap.size by
     intro y hy;rw[hN0] at hy;have h4:=nZ.o;have h5:=HLW.o;have h6:=HLE.o;simp only[bK,aT] at hy;rcases hy with rfl|h|h
     ·omega
     ·exact(HG2.o.aiq.lt y (dK.1 h)).2
     have:=HM.o y h;omega)
    have vS:=ak (show ∀kd W M',dS w0 W bd->dO [bd] w2 W->(∀y∈M',y<W.heap.size)->Calls Tryz.prog 19 #[.pointer (some ⟨bd,0,none⟩),.agg #[.slice sa sn sc],.int .i64 kd,.string nm,.slice an names.length cn] W (aNR attrs names kd nm w0 bd M' W) from fun kd W M' hd hW hM'=>by
     have hbd:bd<lw:=by have:=nZ.o;have:=HLE.o;omega
     obtain⟨a',c',hv,h1,h2⟩:=mD HG2.o.aiq [bd] (by simp;exact hbd);simp only[Value.slice.injEq] at hv;obtain⟨rfl,_,rfl⟩:=hv;exact MN hat names Zm.o hne hl (by have:=HNL.o;omega) HG2.o.nsz hd sa sn sc _ _ _ M' (HS.o.mono (dZ (HG2.o.fH.then hW) (by simp))) (h1.mono (dZ hW (by simp))) hM' kd _)
    have wZ:=ak hN0;clear hN0 hnm;refine fM (n:=0) (m:=10) [] (GnV w0 w2 attrs names bd (bd::N0) nm) (GnE bd) (zu (a0J p bd sa sn sc K nm an names cn)) (by kernel_rfl) (by kernel_rfl) (Nat.le_of_ble_eq_true rfl) ?gd ⟨HDK.o.ext ((Ext.refl w2).drew),((Ext.refl w2).drew).fH _,fun h=>by simp at h,fun h=>by simp at h,fun h=>by simp at h⟩ ?_ ?_ ?_
    case gd =>
     intro i o j b hi ho hg;rcases ltc10 hi with rfl|rfl|rfl|rfl|rfl|rfl|rfl|rfl|rfl|rfl<;>(cases ho;first|(cases hg;done)|(cases hg;intro v W h;exact h))
    ·intro i k v W W' hi hk hne hout h hE;have hE:dO [bd] W W':=hE;have hi':=ltc10 hi;clear hi hk hne hout;rcases hi' with rfl|rfl|rfl|rfl|rfl|rfl|rfl|rfl|rfl|rfl
     ·exact h
     ·exact h
     ·exact h
     ·obtain⟨kd,e0,h⟩:=h;exact⟨kd,e0,h⟩
     ·exact h
     ·exact h
     ·exact h
     ·exact h
     ·obtain⟨e0,h⟩:=h;exact⟨e0,trivial⟩
     obtain⟨e0,h⟩:=h;exact⟨e0,trivial⟩
    ·intro q op hq ho L vs W dR hcL hW hd ρ hρ;have hq':=ltc10 hq;clear hq;have o0:ρ (.tmp 0)=.pointer (some ⟨bd,0,none⟩):=hρ.out 0 rfl;have o5:ρ (.tmp 5)=.pointer (some ⟨bs,0,none⟩):=hρ.out 5 rfl;have i2:=hρ.i 2 40;have o3:ρ (.tmp 3)=.string p:=hρ.out 3 rfl;have o11:ρ (.tmp 11)=.int .i64 ((K:Nat):Int):=hρ.out 11 rfl;have i4:=hρ.i 4 42;have i5:=hρ.i 5 43;have o9:ρ (.tmp 9)=.slice an names.length cn:=hρ.out 9 rfl;have i0:=hρ.i 0 38;have i1:=hρ.i 1 39;have i3:=hρ.i 3 41;have i6:=hρ.i 6 44;have i7:=hρ.i 7 45;have hc:=hρ.const;have hfn:=hρ.func;clear hρ;have HG:=ak hW;have HW:=ak (show dS w0 W bd/\dO [bd] w2 W from⟨hW.1,hW.2.1⟩);have fV:=ak dR;clear hW dR hcL;rcases hq' with rfl|rfl|rfl|rfl|rfl|rfl|rfl|rfl|rfl|rfl
     ·cases ho
      clear hd;unfold dF;go_simp;exact⟨dO.refl _ _,Nw (by decide) (by decide) HG.o HW.o.1 (dO.refl _ _),rfl⟩
     ·cases ho
      clear hd;obtain⟨g7,gf7⟩:=gQ (HW.o.2.blk lV.o (by have:=nZ.o;simp;omega));unfold dF;go_simp;exact⟨dO.refl _ _,Nw (by decide) (by decide) HG.o HW.o.1 (dO.refl _ _),rfl⟩
     ·cases ho
      clear hd;unfold dF;go_simp;exact⟨dO.refl _ _,Nw (by decide) (by decide) HG.o HW.o.1 (dO.refl _ _),rfl⟩
     ·cases ho
      have h2:vs 2=_:=hd ⟨2,.data⟩ (by simp) rfl;rw[h2] at i2;clear hd;unfold dF;go_simp;refine(lX HW.o.1 1 10 (by omega) (by omega) (by omega)).mono ?_;rintro e5 w5 ⟨z,rfl,hz0,hz1,hd5,hc5⟩;exact⟨_,rfl,hc5,Nw (by decide) (by decide) HG.o hd5 hc5,z,rfl,by omega,by omega⟩
     ·cases ho
      clear hd;unfold dF;go_simp;exact⟨dO.refl _ _,Nw (by decide) (by decide) HG.o HW.o.1 (dO.refl _ _),rfl⟩
     ·cases ho
      clear hd;unfold dF;go_simp;exact⟨dO.refl _ _,Nw (by decide) (by decide) HG.o HW.o.1 (dO.refl _ _),rfl⟩
     ·cases ho
      have h4:vs 4=_:=hd ⟨4,.data⟩ (by simp) rfl;rw[h4] at i4;have h5:vs 5=_:=hd ⟨5,.data⟩ (by simp) rfl;rw[h5] at i5;clear hd;unfold dF;go_simp;refine(acP p K (by have:=HKB.o;omega) HPS.o W).mono ?_;rintro e5 w5 ⟨rfl,hx5⟩;rw[Gm.o];exact⟨_,rfl,hx5.fH _,Nw (by decide) (by decide) HG.o (HW.o.1.ext hx5) (hx5.fH _),rfl⟩
     ·cases ho
      clear hd;unfold dF;go_simp;exact⟨dO.refl _ _,Nw (by decide) (by decide) HG.o HW.o.1 (dO.refl _ _),rfl⟩
     ·cases ho
      have h0:vs 0=_:=hd ⟨0,.data⟩ (by simp) rfl;rw[h0] at i0;have h1:vs 1=_:=hd ⟨1,.data⟩ (by simp) rfl;rw[h1] at i1;obtain⟨kd,h3,hs3⟩:∃(kd:Int),vs 3=.int .i64 kd/\(1<=kd/\kd<=10):=hd ⟨3,.data⟩ (by simp) rfl;have Ko:=ak hs3;clear hs3;rw[h3] at i3;have h6:vs 6=_:=hd ⟨6,.data⟩ (by simp) rfl;rw[h6] at i6;have h7:vs 7=_:=hd ⟨7,.data⟩ (by simp) rfl;rw[h7] at i7;clear hd;unfold dF;go_simp;obtain⟨Z,hz1,hz2,hz3⟩:=aHR HG.o;refine(vS.o kd W ((bd::N0)++Z) HW.o.1 HW.o.2 (fun y hy=>by
       rcases aT.1 hy with h|h
       ·exact bU (GL.o y h) HW.o.2.size
       exact hz1 y h)).mono ?_
      rintro e5 w5 ⟨c,cv,rfl,k1,k2,k3,k4,k5,k6,hi5,hd5,hc5⟩;exact⟨_,rfl,hc5,aVA HG.o hd5 hc5 hi5 ⟨rfl,k2,k3,by rw[k1];exact k4,by rw[k1];exact k5,k6⟩ hz2 hz3,rfl,trivial⟩
     cases ho
     clear hd;unfold dF;go_simp;exact⟨((Ext.refl W).alloc _).fH _,aVz HG.o fV.o,rfl,trivial⟩
    intro L vs W pR hW hR;rw[dh (by decide +kernel)];obtain⟨c,cv,g,h8,h9,q1,q2,q3,q4⟩:=hW.2.2.2.2 (pR 8 (by omega)) (pR 9 (by omega));have U4:=ak (And.intro q1 q2);have G8:=ak (And.intro q3 q4);clear q1 q2 q3 q4;unfold clV at h8;refine lK rfl ?_
    change wpList _ _ _ [⟨none,.store _ (.tmp 12) (.tmp 46),_,_,_,none⟩] _ _
    simp only[acts,gK,List.range,List.range.loop,bF,dA,h8,h9];go_simp;have hW2:dS w0 W bd/\dO [bd] w2 W:=⟨hW.1,hW.2.1⟩
    clear hR hW pR h8 h9;have HW2:=ak hW2;obtain⟨bc,hbc⟩:∃bc,bc=g:=⟨_,rfl⟩
    rw[<-hbc] at U4 G8 ⊢;clear hbc hW2;have hbl:=dH G8.o.1;have hz0:=G8.o.1;unfold Md at hz0;obtain⟨c0,c1,c2,c3,c4,c5,c6,c7,c8,c9,cf⟩:=wu hz0;clear hz0;go_upto_region 9 with fail
    have hP:=aCO W bc cv;have hPb:=aCP G8.o.1 cv;obtain⟨w4,hw4⟩:∃w4,w4=aoI W bc cv:=⟨_,rfl⟩
    rw[<-hw4] at hP hPb;have hw5:=hw4;unfold aoI at hw5;rw[<-hw5];have HP:=ak hP;have HPB:=ak hPb;have a3X:=ak (show bc≠bd from fun e=>by
     have h1:=G8.o.1;rw[e] at h1;obtain⟨la,ln,lc',k,hb,_⟩:=HW2.o.1;rw[h1] at hb;cases hb)
    have Vb:=ak (show lw<=bc/\bc≠bd/\w2.heap.size<=bc from by have h1:=G8.o.2;have h3:=HLW.o;exact⟨by omega,a3X.o,by omega⟩);have HBD:=ak (show bd<lw by have:=nZ.o;have:=HLE.o;omega);clear hw4 hw5 c0 c1 c2 c3 c4 c5 c6 c7 c8 c9 cf;obtain⟨c0,c1,c2,c3,c4,c5,c6,c7,c8,c9,cf⟩:=wu (show w4.heap[bc]?=some (.cells (aF cv) 48 (0,0)) from hPb);clear hP hPb;have yT:=ak (show dO [bd,bc] w2 w4 from(HW2.o.2.weak (by simp)).then (HP.o.weak (by simp)));have aRD:=ak (show w2.heap.size<=W.heap.size/\W.heap.size<=w4.heap.size from⟨HW2.o.2.size,HP.o.size⟩);have HOL:=ak (eF HG2.o.ais yT.o (fun q hq hm=>by
     have h1:=HG2.o.ais.lt q hq;have:=HBD.o;have:=Vb.o;simp only[bK,bQ,or_false] at hm;omega))
    have HON:=ak (eF HG2.o.aiq yT.o (fun q hq hm=>by
     have h1:=HG2.o.aiq.lt q hq;have:=HBD.o;have:=Vb.o;simp only[bK,bQ,or_false] at hm;omega))
    have HFL:=ak (show (cvs.flatMap jm.cells).length=l.length*10 from HOL.o.1);have HF1:=ak (show ∀u∈cvs.flatMap jm.cells,u.oneCell'=true by
     intro u hu;obtain⟨v,_,hv⟩:=List.mem_flatMap.1 hu;simp only[jm.cells,bK,bQ,or_false] at hv;rcases hv with rfl|rfl|rfl|rfl|rfl|rfl|rfl|rfl|rfl|rfl<;>rfl)
    have HL0:=ak (show 0<l.length by omega);have HLB:=ak (show l.length+1<=60 by omega);obtain⟨B,hB⟩:∃B,B=w4.heap.size:=⟨_,rfl⟩
    have HBL:=ak (show B<=w4.heap.size by omega);have DJ:=ak (show w4.heap.size<=B by omega);clear hB;obtain⟨w3,rfl⟩:∃w3:World,w3=W:=⟨_,rfl⟩
    refine iP (m:=7) [6] (GrG w4) (GnA 2 5) (zu (a0I B lg lc l cvs cv)) (by kernel_rfl) (by kernel_rfl) ((Ext.refl w4).drew) ?_ ?_ ?_
    ·intro i k v W W' hi hk hne hout h hE;have hi':=ltc7 hi;clear hi hk;by_cases hk:k=2
     ·subst hk;obtain⟨x,hE,hx0⟩:=hE.2.1 rfl;rcases hi' with rfl|rfl|rfl|rfl|rfl|rfl|rfl
      ·exact absurd hout (by decide +kernel)
      ·exact h
      ·exact absurd rfl hne
      ·exact h
      ·obtain⟨y,e0,h⟩:=h;exact⟨y,e0,hE.blk h (by simp only[aK];intro e;subst e;rw[h] at hx0;cases hx0)⟩
      ·exact absurd hout (by decide +kernel)
      exact absurd hout (by decide +kernel)
     by_cases hk:k=5
     ·subst hk;rcases hi' with rfl|rfl|rfl|rfl|rfl|rfl|rfl
      ·exact absurd hout (by decide +kernel)
      ·exact h
      ·exact absurd hout (by decide +kernel)
      ·exact h
      ·exact absurd hout (by decide +kernel)
      ·exact absurd rfl hne
      exact absurd hout (by decide +kernel)
     have hE:Ext W W':=(hE.1 ‹_› ‹_›)
     rcases hi' with rfl|rfl|rfl|rfl|rfl|rfl|rfl
     ·obtain⟨g,e0,h⟩:=h;exact⟨g,e0,⟨h.1,hE.blk h.2⟩⟩
     ·exact h
     ·obtain⟨g,cp,e0,h⟩:=h;exact⟨g,cp,e0,oN h hE⟩
     ·exact h
     ·obtain⟨y,e0,h⟩:=h;exact⟨y,e0,hE.blk h⟩
     ·obtain⟨g,cp,e0,h⟩:=h;exact⟨g,cp,e0,oN h hE⟩
     obtain⟨g,cp,e0,h⟩:=h;exact⟨g,cp,e0,oN h hE⟩
    ·intro q op hq ho vs W hW hd ρ hρ;have hq':=ltc7 hq;clear hq;have o10:ρ (.tmp 10)=.slice (some ⟨lg,0,none⟩) l.length lc:=hρ.out 10 rfl;have i0:=hρ.i 0 47;have i1:=hρ.i 1 48;have o12:ρ (.tmp 12)=.pointer (some ⟨bc,0,none⟩):=hρ.out 12 rfl;have i3:=hρ.i 3 50;have i2:=hρ.i 2 49;have i4:=hρ.i 4 51;have i5:=hρ.i 5 52;have hc:=hρ.const;have hfn:=hρ.func;clear hρ;have HW:=ak (show Ext w4 W from hW);rcases hq' with rfl|rfl|rfl|rfl|rfl|rfl|rfl
     ·cases ho
      clear hd;unfold dF;go_simp;exact⟨gna ((Ext.refl W).alloc _) (by decide) (by decide),HW.o.alloc _,W.heap.size,rfl,by have:=HW.o.size;have:=HBL.o;omega,dG W _⟩
     ·cases ho
      clear hd;unfold dF;go_simp;exact⟨gna (Ext.refl _) (by decide) (by decide),rfl⟩
     ·cases ho
      obtain⟨g,h0,hs0⟩:∃(g:Nat),vs 0=.slice (some ⟨g,0,none⟩) 0 0/\(B<=g/\W.heap[g]?=some (.cells #[] 48 (0,0))):=hd ⟨0,.data⟩ (by simp) rfl;have Dn:=ak hs0;clear hs0;rw[h0] at i0;have h1:vs 1=_:=hd ⟨1,.data⟩ (by simp) rfl;rw[h1] at i1;clear hd;refine mF sQ _ _ B _ 0 [] i0 lg l.length lc (cvs.flatMap jm.cells) i1 HFL.o HF1.o HL0.o (by have:=HLB.o;omega) (by omega) ⟨rfl,Or.inr ⟨g,0,#[],rfl,Dn.o.1,Dn.o.2,bg _,by unfold maxLen;omega,rfl,rfl⟩⟩ (fun j hj=>by rw[(oN HOL.o HW.o).cellAt j (by rw[<-HFL.o];exact hj)];exact aZ hj) (by have:=HW.o.size;have:=HBL.o;omega) ?_;intro g6 cap6 w6 Lm EO hl6 FT;simp only[Nat.zero_add,List.nil_append] at Lm ⊢;exact⟨⟨fun h=>absurd rfl h,fun _=>⟨g,(iM EO).weak (fun y hy=>by simpa[rowOf,Value.ownBlock] using hy),Dn.o.2⟩,fun h=>absurd h (by decide)⟩,Ext.grown HW.o EO (fun k hk=>by have hk2:g=k:=(by simpa[Value.ownBlock] using hk);have:=Dn.o.1;have:=DJ.o;omega),g6,cap6,rfl,Lm⟩
     ·cases ho
      clear hd;have g0:=HW.o.cell c0;have g1:=HW.o.cell c1;have g2:=HW.o.cell c2;have g3:=HW.o.cell c3;have g4:=HW.o.cell c4;have g5:=HW.o.cell c5;have g6:=HW.o.cell c6;have g7:=HW.o.cell c7;have g8:=HW.o.cell c8;have g9:=HW.o.cell c9;unfold dF;go_simp;exact⟨gna (Ext.refl _) (by decide) (by decide),rfl⟩
     ·cases ho
      have h3:vs 3=_:=hd ⟨3,.data⟩ (by simp) rfl;rw[h3] at i3;clear hd;unfold dF;go_simp;exact⟨gna ((Ext.refl W).alloc _) (by decide) (by decide),HW.o.alloc _,W.heap.size,rfl,dG W _⟩
     ·cases ho
      obtain⟨g,cp,h2,hs2⟩:∃(g:Nat) (cp:Nat),vs 2=.slice (some ⟨g,0,none⟩) l.length cp/\(W.ownsRow B 48 10 (.slice (some ⟨g,0,none⟩) l.length cp) l.length (cvs.flatMap jm.cells)):=hd ⟨2,.data⟩ (by simp) rfl;have HS2:=ak hs2;clear hs2;rw[h2] at i2;obtain⟨y,h4,hs4⟩:∃(y:Nat),vs 4=.slice (some ⟨y,0,none⟩) 1 1/\(W.heap[y]?=some (.cells cv.cells.toArray 48 (0,0))):=hd ⟨4,.data⟩ (by simp) rfl;have xI:=ak hs4;clear hs4;rw[h4] at i4;clear hd;refine mF sQ _ _ B _ l.length (cvs.flatMap jm.cells) i2 y 1 1 cv.cells i4 rfl (by simp[jm.cells,Value.oneCell']) (by omega) (by have:=HLB.o;omega) (by omega) HS2.o (fun j hj=>by rw[dM xI.o];simp) (by have:=HW.o.size;have:=HBL.o;omega) ?_;intro g7 afJ w7 ho7 TU hl7 UQ;exact⟨⟨fun _ h=>absurd rfl h,fun h=>absurd h (by decide),fun _=>trivial⟩,Ext.grown HW.o TU (fun k hk=>by have hk2:g=k:=(by simpa[Value.ownBlock] using hk);have:=(HS2.o.lt g rfl).1;have:=DJ.o;omega),g7,afJ,rfl,ho7⟩
     cases ho
     obtain⟨g,cp,h5,hs5⟩:∃(g:Nat) (cp:Nat),vs 5=.slice (some ⟨g,0,none⟩) (l.length+1) cp/\(W.ownsRow B 48 10 (.slice (some ⟨g,0,none⟩) (l.length+1) cp) (l.length+1) (cvs.flatMap jm.cells++cv.cells)):=hd ⟨5,.data⟩ (by simp) rfl;have uj:=ak hs5;clear hs5;rw[h5] at i5;clear hd;unfold dF;go_simp;exact⟨gna (Ext.refl _) (by decide) (by decide),_,_,rfl,uj.o⟩
    intro vs W hW hR;rw[dw (by decide +kernel)];obtain⟨g,cp,h6,hs6⟩:∃(g:Nat) (cp:Nat),vs 6=.slice (some ⟨g,0,none⟩) (l.length+1) cp/\(W.ownsRow B 48 10 (.slice (some ⟨g,0,none⟩) (l.length+1) cp) (l.length+1) (cvs.flatMap jm.cells++cv.cells)):=hR 6 (by simp) (by omega);have Fg:=ak hs6;clear hs6;simp only[acts,gK,List.range,List.range.loop,bF,dA,h6];go_simp;have hW2:Ext w4 W:=hW;clear hR hW h6;have qC:=ak hW2;have HOM:=ak (aC1 Fg.o (show lw<=B by have:=DJ.o;have:=aRD.o;have:=HLW.o;omega));have HKI:=ak U4.o.2;have ug:=ak (show dO [bd] w w4 from(HG2.o.fH.trans yT.o (fun y hy=>by
     simp only[bK,bQ,or_false] at hy;rcases hy with rfl|rfl
     ·exact Or.inl (by simp)
     have:=Vb.o;have:=HLE.o;exact Or.inr (by omega))))
    have HD4:=ak (show dS w0 w4 bd from HW2.o.1.fH HP.o (by have:=Vb.o;simp;omega) (fun y hy=>by simp only[aK] at hy;have:=Vb.o;have:=HLE.o;have:=HDS.o;omega));have HNW:=ak (show Sub (mask w2 (bd::N0)) (mask W (bd::N0)) from(fA yT.o (fun y hy=>by
     simp only[bK,bQ,or_false] at hy;rcases hy with rfl|rfl
     ·exact Or.inl (by simp)
     exact Or.inr Vb.o.2.2)).trans (dZ (hW2.fH [bd]) (by simp)))
    have HCI:=ak (show kR (mask W (bd::N0)) c cv from((U4.o.1.mono (fA HP.o (fun y hy=>by simp only[aK] at hy;exact Or.inl (by simp[hy])))).mono (eG _ (fun y hy=>aQ _ hy))).mono (dZ (hW2.fH [bd]) (by simp)));have HGW:=ak (show GLp w0 w attrs p bd bs lw n M sa sn sc (.slice an names.length cn) (.slice (some ⟨lg,0,none⟩) l.length lc) K names l cvs W from
     {HG2.o with
       aiq:=oN HON.o hW2,ais:=oN HOL.o hW2
       WT:=by
        have:=HG2.o.WT.mono (show Sub (mask w2 (bd::rowOf (.slice an names.length cn)++M)) (mask W (bd::rowOf (.slice an names.length cn)++M)) by have:=HNW.o;rw[wZ.o] at this;exact this);exact this
       yN:=HD4.o.ext hW2,fH:=ug.o.then (hW2.fH _)
       box:=hW2.blk (yT.o.blk HG2.o.box (by
        have:=nZ.o;have:=Vb.o;have:=HLE.o;simp only[bK,bQ,or_false,not_or];omega)) })
    have HMC:=ak (show Dp (mask W (bd::N0)) (l++[c]) (cvs++[cv]) from by
     have h1:=HGW.o.WT;have h2:=wZ.o;rw[List.cons_append,<-h2] at h1;exact h1.snoc HCI.o)
    have a3O:=ak (hW2.blk HPB.o);have hcn:=HCI.o.2.1;have aUD:c.name.size=p.size+2:=by rw[HKI.o.2.1,<-Gm.o,acQ]
    have NW:=ak (And.intro hcn aUD);have hWs:=hW2.size;have HGR:=ak (show B<=g/\g<W.heap.size from by
     have:=Fg.o.lt g rfl;exact⟨this.1,this.2⟩)
    clear hW2 hcn aUD c0 c1 c2 c3 c4 c5 c6 c7 c8 c9 cf Fg U4 HCI HNW HW2 HOL HON HFL HF1 yT HP HPB;have aSA:=ak (show eX W (l++[c]) (some ⟨g,0,none⟩) (l.length+1) cp from by
     have ho:=HOM.o;obtain⟨a',c',hv,hcl⟩:=Dz (M:=[]) (l:=l++[c]) (vs:=cvs++[cv]) (by simpa using ho) (by simp) (HMC.o.mono ((dU _ _).trans (fun p' v' h=>by rw[iH,dh (by simp)];exact h)));simp only[Value.slice.injEq,bI,List.length_singleton] at hv;obtain⟨rfl,_,rfl⟩:=hv;have:=hcl.mono (dU _ _);simpa using this)
    have a2B:=ak (show ∀x∈l++[c],x.okk from fun x hx=>by
     have key:∀y:dY,abn y->y.name.size<=1000->y.okk:=fun y hy h=>by
      obtain⟨g1,g2,g3,g4,g5,g6⟩:=hy;exact⟨⟨by omega,g1,g2,by omega,g5,by omega⟩,by omega⟩
     rcases aT.1 hx with h|h
     ·have:=HGW.o.ok.1 x h;exact key x this.1 (by omega)
     obtain rfl:x=c:=by simpa using h
     exact key x HKI.o.2.2.2.2.2 (by have:=NW.o.2;omega))
    obtain⟨b0,bf⟩:=gQ HGW.o.box;have HRC:=ak (uw attrs (l++[c]) _ _ (l.length+1) cp W ((HS.o.mono (dZ HGW.o.fH (by simp))).mono (dU _ _)) (kM hat) (by omega) aSA.o (by omega) fun x hx=>(a2B.o x hx).fit);obtain⟨E,hE⟩:∃E,E=eU attrs (l++[c]):=⟨_,rfl⟩
    rw[<-hE] at HRC;have HEE:=ak hE;clear hE;obtain⟨E1,E2⟩:=E;unfold aa6 at HRC;simp only at HRC;go_wp2_with fail
    refine HRC.o.mono ?_;rintro r w6 ⟨rfl,hx6⟩;have HG6:=ak (HGW.o.Wi hx6);obtain⟨d0,d1,d2,d3,d4,d5,d6,d7,d8,d9,df⟩:=wu (show w6.heap[bc]?=some (.cells (aF cv) 48 (0,0)) from hx6.blk a3O.o);have oL:=ak hx6;clear hx6 HRC b0 bf;by_cases hz:E2=0
    case neg =>
     have tz:(E2 != 0)=true:=by simp[hz]
     clear hz;go_wp2_with fail
     go_roundw
     case rel=>exact⟨K+1,names,l,cvs,by go_num,{ HG6.o with k1:=by omega,kn:=by omega,lk:=by omega,nk:=Nat.le_succ_of_le HG6.o.nk }⟩
     case measure=>simp[intOf];omega
    subst hz;have HZ:=ak (aiA (s:=attrs) (l:=l++[c]) (by rw[<-HEE.o]));have aiE:=ak (show aiI attrs p (l++[c]) from⟨fun x hx=>by
     rcases aT.1 hx with h|h
     ·exact HG6.o.ok.1 x h
     obtain rfl:x=c:=by simpa using h
     exact⟨HKI.o.2.2.2.2.2,NW.o.2⟩,Or.inr HZ.o⟩)
    have OQ:=ak (oN HOM.o oL.o);have HM6:=ak (HMC.o.mono (dZ (oL.o.fH [bd]) (by simp)));have h6s:=oL.o.size;have hap:∀q,(Value.slice (some ⟨g,0,none⟩) (l.length+1) cp).ownBlock=some q->(Value.slice an names.length cn).ownBlock≠some q:=fun q hq hq2=>by
     have h1:=(HG2.o.aiq.lt q hq2).2;have h2:g=q:=by simpa[Value.ownBlock] using hq
     have:=HGR.o;have:=DJ.o;have:=aRD.o;omega
    have Zp:=ak hap;clear hap;have TZ:((0:Int) != 0)=false:=rfl;cases hkd:(cv.kind==1)
    ·go_wp2_with fail
     go_roundw
     case rel=>exact⟨K+1,names,l++[c],cvs++[cv],by go_num,{ HG6.o with k1:=by omega,kn:=by omega,lk:=by simp;omega,l1:=by simp,nk:=Nat.le_succ_of_le HG6.o.nk,ais:=(by have:=OQ.o;simpa using this),WT:=(by have:=HM6.o;rw[wZ.o] at this;exact this),apart:=Zp.o,ok:=aiE.o }⟩
     case measure=>simp[intOf];omega
    have HN6:=ak HG6.o.aiq;have hnk:=HG6.o.nk;go_wp2_with (at_builtin;refine fK Cb rfl _ _ rfl lw _ names.length _ rfl HN6.o _ 1 1 rfl ?f0 rfl ?f1 ?f2 ?f3 ?f4 ?_)
    case f0=>simp
    case f1=>simp[Value.oneCell']
    case f2=>unfold maxLen;omega
    case f3=>omega
    case f4=>have:=HLW.o;have:=aRD.o;omega
    intro v8 w8 ig hc8 hw8;obtain⟨a8,c8,OI⟩:=iG ig;subst OI;have hrow:∀y∈rowOf (.slice an names.length cn),lw<=y:=fun y hy=>(HN6.o.lt y (dK.1 hy)).1
    have hlw:=HLE.o;have hbs:=nZ.o;have HG8:=ak (show GLp w0 w attrs p bd bs lw n M sa sn sc (.slice a8 (names.length+1) c8) (.slice (some ⟨g,0,none⟩) (l.length+1) cp) (K+1) (names++[cv.name]) (l++[c]) (cvs++[cv]) w8 from
     {k1:=by omega,kn:=by omega,lk:=by simp;omega,l1:=by simp,nk:=by simp;omega
      nsz:=fun x hx=>by
       rcases aT.1 hx with h|h
       ·exact HG6.o.nsz x h
       obtain rfl:x=cv.name:=by simpa using h
       rw[NW.o.1];have:=NW.o.2;omega
      aiq:=by simpa[strCells] using ig
      ais:=by
       have:=eF OQ.o hc8 (fun q hq hm=>Zp.o q hq (dK.1 hm));simpa using this
      WT:=by
       have h1:=HM6.o;rw[wZ.o] at h1;exact h1.mono (FP hc8 hw8)
      apart:=fun q hq hq2=>by
       rcases hw8 q hq2 with h|h
       ·exact Zp.o q hq h
       have h2:g=q:=by simpa[Value.ownBlock] using hq
       have:=HGR.o;omega
      ok:=aiE.o
      yN:=HG6.o.yN.fH hc8 (fun hm=>by have:=hrow bd hm;omega) (fun y hy=>by have:=hrow y hy;have:=HDS.o;omega)
      fH:=HG6.o.fH.trans hc8 (fun y hy=>by have:=hrow y hy;exact Or.inr (by omega))
      box:=hc8.blk HG6.o.box (fun hm=>by have:=hrow bs hm;omega) })
    clear ig hc8 hw8 hrow hlw hbs d0 d1 d2 d3 d4 d5 d6 d7 d8 d9 df;go_wp2_with fail
    go_roundw
    case rel=>exact⟨K+1,names++[cv.name],l++[c],cvs++[cv],by go_num,HG8.o⟩
    case measure=>simp[intOf];omega
   have tk:=aj ((K:Int)<=(n:Int));obtain⟨a',c',hv,hq⟩:=aRX.o wr (Ext.refl _);have HV:=ak hv;have HQ:=ak hq;clear hv hq;go_wp2_with fail
   go_ret;rw[HV.o];exact HQ.o
instance aTk (a:Attr):Decidable (Yj a):=by unfold Yj;infer_instance
theorem gY:∀l∈jw,(∀a∈l,Yj a)/\l≠[]/\l.length<=1000:=by
 have h:∀l∈jw,(∀a∈l,Yj a)/\l.length≠0/\l.length<=1000:=by decide +kernel
 intro l hl;obtain⟨h1,h2,h3⟩:=h l hl;exact⟨h1,fun e=>h2 (by rw[e];rfl),h3⟩
def pcd:BA:=⟨#[99,45]⟩
theorem sU (la:OA) (ln lc:Nat) (w0 w:World) (h:gB w0 la ln) (hx:Ext w0 w) (hl:ln<=1000000000000000):Calls Tryz.prog 17 #[.slice la ln lc] w (fun e w'=>∃bd,e=.returned (.pointer (some ⟨bd,0,none⟩))/\dS w0 w' bd/\Ext w w'/\w.heap.size<=bd):=by
 have HX:=ak hx;clear hx;go_enter Tryz.func17,Tryz.ntmps17
 go_wp2_with fail
 go_ret;exact⟨w.heap.size,rfl,⟨la,ln,lc,0,dG w _,by omega,hl,h,HX.o.trans ((Ext.refl w).alloc _),HX.o.size⟩,(Ext.refl w).alloc _,bg _⟩
def DU (a:Attr):Int×Int:=if a.kind=1 then (0,(a.words.length:Int) - 1) else if a.kind=2 then (a.lo,a.hi) else (0,1)
def jq:List Attr->ZI->Bool
 | [],[]=>true
 | a::r,v::q=>decide ((DU a).1<=v)&&decide (v<=(DU a).2)&&jq r q
 | _,_=>false
def mJ (s:List Attr) (f:ZI):Bool:=decide (fD s=0)&&jq s f
theorem nD:{s:List Attr}->{f:ZI}->jq s f=true->f.length=s.length
 | [],[],_=>rfl
 | a::r,v::q,h=>by
  simp only[jq,aJ] at h;simp[nD h.2]
 | [],v::q,h=>by simp[jq] at h
 | a::r,[],h=>by simp[jq] at h
theorem aaR:{s:List Attr}->{f:ZI}->jq s f=true->(i:Nat)->(hi:i<s.length)->(hj:i<f.length)->(DU s[i]).1<=f[i]/\f[i]<=(DU s[i]).2
 | a::r,v::q,h,0,_,_=>by
  simp only[jq,aJ,aN] at h;simpa using h.1
 | a::r,v::q,h,i+1,hi,hj=>by
  simp only[jq,aJ] at h;simpa using aaR h.2 i (by simpa using hi) (by simpa using hj)
theorem TY:{s:List Attr}->{f:ZI}->f.length=s.length->(∀i (hi:i<s.length) (hj:i<f.length),(DU s[i]).1<=f[i]/\f[i]<=(DU s[i]).2)->jq s f=true
 | [],[],_,_=>rfl
 | a::r,v::q,h,h2=>by
  have h0:=h2 0 (by simp) (by simp);simp only[bP] at h0;simp only[jq,aJ,aN];exact⟨h0,TY (by simpa using h) fun i hi hj=>by have:=h2 (i+1) (by simpa using hi) (by simpa using hj);simpa using this⟩
 | [],v::q,h,_=>by simp at h
 | a::r,[],h,_=>by simp at h
def yZ (s:List Attr) (f:ZI) (op:Int) (name:BA) (words:ZB) (lo hi:Int):Bool :=
 if op=1 then true else if op=2 then false else
 match iE s name with
 | none=>false
 | some i=>if op=4 then words.any (fun x=>decide (x=(s.getD i wO).words.getD (f.getD i 0).toNat ⟨#[]⟩)) else if op=5 then decide (lo<=f.getD i 0)&&decide (f.getD i 0<=hi) else decide (f.getD i 0=1)
mutual
def uo (s:List Attr) (f:ZI) (D:BA->Option Bool):Ex->Bool
 | .mk op name words lo hi args=>if op=6 then !(OE s f D args) else if op=7 then Ig s f D args else if op=8 then Ie s f D args else if op=3 then (D name).getD (yZ s f op name words lo hi) else yZ s f op name words lo hi
def OE (s:List Attr) (f:ZI) (D:BA->Option Bool):List Ex->Bool
 | []=>false
 | e::_=>uo s f D e
def Ig (s:List Attr) (f:ZI) (D:BA->Option Bool):List Ex->Bool
 | []=>true
 | e::r=>uo s f D e&&Ig s f D r
def Ie (s:List Attr) (f:ZI) (D:BA->Option Bool):List Ex->Bool
 | []=>false
 | e::r=>uo s f D e||Ie s f D r
end
theorem BI {s:List Attr} {f:ZI} {D:BA->Option Bool}:(l:List Ex)->Ig s f D l=l.all (uo s f D)
 | []=>by rw[Ig];rfl
 | e::r=>by rw[Ig,BI r];rfl
theorem BH {s:List Attr} {f:ZI} {D:BA->Option Bool}:(l:List Ex)->Ie s f D l=l.any (uo s f D)
 | []=>by rw[Ie];rfl
 | e::r=>by rw[Ie,BH r];rfl
def l7 (s:List Attr) (l:List dY) (f:ZI):Nat->Ex->Bool
 | 0,_=>false
 | k+1,e=>uo s f (fun x=>(fG l x).map fun d=>l7 s l f k (l.getD d iT).cond) e
def val (s:List Attr) (l:List dY) (f:ZI) (e:Ex):Bool:=l7 s l f (l.length+1) e
mutual
theorem Qo {s:List Attr} {f:ZI} {D D':BA->Option Bool}:(e:Ex)->(∀x∈jo e,D x=D' x)->uo s f D e=uo s f D' e
 | .mk op name words lo hi args,h=>by
  have h2:∀x∈kH args,D x=D' x:=fun x hx=>h x (by rw[jo];exact aS _ hx)
  obtain⟨q1,q2,q3⟩:=ai9 args h2;rw[uo,uo,q1,q2,q3];by_cases h3:op=3
  ·rw[h name (by rw[jo,h3];simp)]
  simp[h3]
theorem ai9 {s:List Attr} {f:ZI} {D D':BA->Option Bool}:(l:List Ex)->(∀x∈kH l,D x=D' x)->OE s f D l=OE s f D' l/\Ig s f D l=Ig s f D' l/\Ie s f D l=Ie s f D' l
 | [],_=>⟨by rw[OE,OE],by rw[Ig,Ig],by rw[Ie,Ie]⟩
 | e::r,h=>by
  have h1:=Qo (s:=s) (f:=f) e fun x hx=>h x (by rw[kH];exact aQ _ hx)
  obtain⟨_,q2,q3⟩:=ai9 (s:=s) (f:=f) r fun x hx=>h x (by rw[kH];exact aS _ hx)
  exact⟨by rw[OE,OE,h1],by rw[Ig,Ig,h1,q2],by rw[Ie,Ie,h1,q3]⟩
end
theorem abS {D:BA->Option Nat}:(e:Ex)->Bf D e<=2000->∀x n,x∈jo e->D x=some n->n<=2000
 | .mk op name words lo hi args,h,x,n,hx,hD=>by
  rw[Bf] at h;rw[jo] at hx;rcases aT.1 hx with h1|h1
  ·by_cases h3:op=3
   ·simp[h3] at h1;subst h1;simp[h3,hD] at h;omega
   simp[h3] at h1
  exact apw args (by omega) x n h1 hD
where
 apw {D:BA->Option Nat}:(l:List Ex)->qB D l<=2000->∀x n,x∈kH l->D x=some n->n<=2000
  | [],_,x,n,hx,_=>by rw[kH] at hx;simp at hx
  | e::r,h,x,n,hx,hD=>by
   rw[qB] at h;rw[kH] at hx;rcases aT.1 hx with h1|h1
   ·exact abS e (by omega) x n h1 hD
   exact apw r (by omega) x n h1 hD
theorem ZE (s:List Attr) (l:List dY) (f:ZI):(k m:Nat)->(e:Ex)->mG l k e<=2000->k<=m->l7 s l f k e=l7 s l f m e
 | 0,_,e,h,_=>by simp[mG] at h
 | k+1,0,e,_,hm=>by omega
 | k+1,m+1,e,h,hm=>by
  rw[l7,l7];refine Qo e fun x hx=>?_
  cases hd:fG l x with
  | none=>rfl
  | some d =>
   rw[mG] at h;have:=abS e h x (mG l k (l.getD d iT).cond) hx (by rw[hd];rfl);simp only[Option.map_some,Option.some.injEq];exact ZE s l f k m _ this (by omega)
end Go.Proofs.YtefjomofjejklaaGreatDoor
