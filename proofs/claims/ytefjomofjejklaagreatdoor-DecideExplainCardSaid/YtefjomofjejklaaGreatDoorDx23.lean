/-
  Texts of the claim, joined: Use2, Rs0, DRea, DRes, More.
-/
import Derived.Test.YtefjomofjejklaaGreatDoorDx22
namespace Go.Proofs.YtefjomofjejklaaGreatDoor
set_option maxRecDepth 100000
set_option maxHeartbeats 32000000
mutual
theorem agv {s:List Attr} {f:ZI} {D D':BA->Option Pr}:(e:Ex)->(∀x∈jo e,D x=D' x)->pfE s f D e=pfE s f D' e
 | .mk op name words lo hi args,h=>by
  obtain⟨q1,q2⟩:=aoM (s:=s) (f:=f) args fun x hx=>h x (by rw[jo];exact aS _ hx)
  rw[pfE,pfE,q1,q2];by_cases h3:op=3
  ·rw[h name (by rw[jo,h3];simp)]
  simp[h3]
theorem aoM {s:List Attr} {f:ZI} {D D':BA->Option Pr}:(l:List Ex)->(∀x∈kH l,D x=D' x)->ads s f D l=ads s f D' l/\pfL s f D l=pfL s f D' l
 | [],_=>⟨by rw[ads,ads],by rw[pfL,pfL]⟩
 | e::r,h=>by
  have h1:=agv (s:=s) (f:=f) e fun x hx=>h x (by rw[kH];exact aQ _ hx)
  have h2:=(aoM (s:=s) (f:=f) r fun x hx=>h x (by rw[kH];exact aS _ hx)).2;exact⟨by rw[ads,ads,h1],by rw[pfL,pfL,h1,h2]⟩
end
mutual
theorem adr {s:List Attr} {f:ZI} {D D':BA->Option (Pr->Bool)}:(e:Ex)->(∀x∈jo e,D x=D' x)->∀p,Bc s f D e p=Bc s f D' e p
 | .mk op name words lo hi args,h,p=>by
  obtain⟨q1,q2⟩:=aku (s:=s) (f:=f) args fun x hx=>h x (by rw[jo];exact aS _ hx)
  have hD:(if op=3 then D name else none)=(if op=3 then D' name else none):=by
   by_cases h3:op=3
   ·rw[dw h3,dw h3,h name (by rw[jo,h3];simp)]
   rw[dh h3,dh h3]
  have a1:zD s f D args=zD s f D' args:=funext fun k=>funext fun q=>q1 k q
  have a2:∀v ps,qH s f D v args ps=qH s f D' v args ps:=q2;cases p with
  | mk v k ps=>rw[Bc,Bc,hD,a1,a2]
theorem aku {s:List Attr} {f:ZI} {D D':BA->Option (Pr->Bool)}:(l:List Ex)->(∀x∈kH l,D x=D' x)->(∀k q,zD s f D l k q=zD s f D' l k q)/\(∀v ps,qH s f D v l ps=qH s f D' v l ps)
 | [],_=>⟨fun k q=>by rw[zD,zD],fun v ps=>by cases ps<;>rw[qH,qH]⟩
 | e::r,h=>by
  have h1:=adr (s:=s) (f:=f) e fun x hx=>h x (by rw[kH];exact aQ _ hx)
  obtain⟨h2,h3⟩:=aku (s:=s) (f:=f) r fun x hx=>h x (by rw[kH];exact aS _ hx)
  refine⟨fun k q=>?_,fun v ps=>?_⟩
  ·cases k with
   | zero=>rw[zD,zD,h1]
   | succ k=>rw[zD,zD,h2]
  cases ps with
  | nil=>rw[qH,qH]
  | cons q t=>rw[qH,qH,h1,h3]
end
theorem akx (s:List Attr) (l:List dY) (f:ZI):(k m:Nat)->(e:Ex)->mG l k e<=2000->k<=m->Proofs.YtefjomofjejklaaGreatDoor.CG s l f k e=Proofs.YtefjomofjejklaaGreatDoor.CG s l f m e
 | 0,_,e,h,_=>by simp[mG] at h
 | k+1,0,e,_,hm=>by omega
 | k+1,m+1,e,h,hm=>by
  rw[Proofs.YtefjomofjejklaaGreatDoor.CG,Proofs.YtefjomofjejklaaGreatDoor.CG];refine agv e fun x hx=>?_
  cases hd:Proofs.YtefjomofjejklaaGreatDoor.fG l x with
  | none=>rfl
  | some d =>
   rw[mG] at h;have:=abS e h x (mG l k (l.getD d iT).cond) hx (by rw[hd];rfl);simp only[Option.map_some,Option.some.injEq];exact akx s l f k m _ this (by omega)
theorem ahz (s:List Attr) (l:List dY) (f:ZI):(k m:Nat)->(e:Ex)->mG l k e<=2000->k<=m->Proofs.YtefjomofjejklaaGreatDoor.lD s l f k e=Proofs.YtefjomofjejklaaGreatDoor.lD s l f m e
 | 0,_,e,h,_=>by simp[mG] at h
 | k+1,0,e,_,hm=>by omega
 | k+1,m+1,e,h,hm=>by
  funext p
  rw[Proofs.YtefjomofjejklaaGreatDoor.lD,Proofs.YtefjomofjejklaaGreatDoor.lD];refine adr e (fun x hx=>?_) p;cases hd:Proofs.YtefjomofjejklaaGreatDoor.fG l x with
  | none=>rfl
  | some d =>
   rw[mG] at h;have:=abS e h x (mG l k (l.getD d iT).cond) hx (by rw[hd];rfl);simp only[Option.map_some,Option.some.injEq];exact ahz s l f k m _ this (by omega)
theorem Used.CG {l:List dY} {e:Ex} {u:List dY} (h:Used l e u) (s:List Attr) (f:ZI):∀k x,(∀t∈jo x,∀d,Proofs.YtefjomofjejklaaGreatDoor.fG l t=some d->t∈u.map (·.name))->Proofs.YtefjomofjejklaaGreatDoor.CG s u f k x=Proofs.YtefjomofjejklaaGreatDoor.CG s l f k x/\Proofs.YtefjomofjejklaaGreatDoor.lD s u f k x=Proofs.YtefjomofjejklaaGreatDoor.lD s l f k x:=by
 intro k;induction k with
 | zero=>intro x _;exact⟨rfl,rfl⟩
 | succ k ih =>
  intro x hx;have key:∀t∈jo x,(Proofs.YtefjomofjejklaaGreatDoor.fG u t=none/\Proofs.YtefjomofjejklaaGreatDoor.fG l t=none)\/∃i d,Proofs.YtefjomofjejklaaGreatDoor.fG u t=some i/\Proofs.YtefjomofjejklaaGreatDoor.fG l t=some d/\Proofs.YtefjomofjejklaaGreatDoor.CG s u f k (u.getD i iT).cond=Proofs.YtefjomofjejklaaGreatDoor.CG s l f k (l.getD d iT).cond/\Proofs.YtefjomofjejklaaGreatDoor.lD s u f k (u.getD i iT).cond=Proofs.YtefjomofjejklaaGreatDoor.lD s l f k (l.getD d iT).cond:=fun t ht=>by
   cases hd:Proofs.YtefjomofjejklaaGreatDoor.fG l t with
   | none=>exact Or.inl ⟨h.only hd,rfl⟩
   | some d =>
    obtain⟨i,d',hi,h1,h2,h3⟩:=h.at (hx t ht d hd);rw[hd] at h2;cases h2
    refine Or.inr ⟨i,d,h1,rfl,?_⟩;rw[h3];refine ih _ fun t2 ht2 d2 hd2=>?_
    rw[<-h3,iZ hi] at ht2;exact h.closed _ (aI hi) t2 ht2 d2 hd2
  constructor
  ·rw[Proofs.YtefjomofjejklaaGreatDoor.CG,Proofs.YtefjomofjejklaaGreatDoor.CG];refine agv _ fun t ht=>?_
   rcases key t ht with ⟨h1,h2⟩|⟨i,d,h1,h2,h3,-⟩
   ·rw[h1,h2];rfl
   rw[h1,h2];exact congrArg some h3
  funext p
  rw[Proofs.YtefjomofjejklaaGreatDoor.lD,Proofs.YtefjomofjejklaaGreatDoor.lD];refine adr _ (fun t ht=>?_) p;rcases key t ht with ⟨h1,h2⟩|⟨i,d,h1,h2,-,h3⟩
  ·rw[h1,h2];rfl
  rw[h1,h2];exact congrArg some h3
theorem J5.pf {s:List Attr} {l:List dY} {e:Ex} {u:List dY} {f:ZI} (h:J5 l e u) (hx:expanded l e<=2000):Proofs.YtefjomofjejklaaGreatDoor.pf s u f e=Proofs.YtefjomofjejklaaGreatDoor.pf s l f e/\Proofs.YtefjomofjejklaaGreatDoor.prv s u f e=Proofs.YtefjomofjejklaaGreatDoor.prv s l f e:=by
 obtain⟨hu,hm⟩:=h;have hss:=hu.ax7 hx;have hsz:=hu.size hss hu.top;have hle:=hu.len;obtain⟨h1,h2⟩:=hu.CG s f (l.length+1) e hu.top;unfold Proofs.YtefjomofjejklaaGreatDoor.pf;constructor
 ·rw[akx s u f (u.length+1) (l.length+1) e (by unfold expanded at hsz hx;omega) (by omega),h1]
 funext p
 unfold Proofs.YtefjomofjejklaaGreatDoor.prv;rw[ahz s u f (u.length+1) (l.length+1) e (by unfold expanded at hsz hx;omega) (by omega),h2]
open Go.RowKit
inductive Rs where
 | mk (name:BA) (applies:Bool) (proof:Pr) (jZ:List Rs)
def Rs.name:Rs->BA
 | .mk n _ _ _=>n
def Rs.applies:Rs->Bool
 | .mk _ a _ _=>a
def rO (n:BA) (p:Pr) (us:List Rs):Rs:=if p.value=false then .mk n false p [] else match us.find? Rs.applies with
 | some x=>.mk n false p [x]
 | none=>.mk n true p us
def uZ (F:Ex->Pr):List Wb->List Rs
 | []=>[]
 | .mk n c u::r=>rO n (F c) (uZ F u)::uZ F r
def qF (F:Ex->Pr) (c:dY):Rs:=rO c.name (F c.cond) (uZ F c.jZ)
theorem QF (F:Ex->Pr):(u:List Wb)->(uZ F u).length=u.length
 | []=>by rw[uZ];rfl
 | .mk n c u::r=>by rw[uZ,List.length_cons,List.length_cons,QF F r]
theorem aeE (F:Ex->Pr):(u:List Wb)->(k:Nat)->(h:k<u.length)->(uZ F u)[k]?=some (rO u[k].name (F u[k].cond) (uZ F u[k].jZ))
 | .mk n c u::r,0,_=>by rw[uZ];rfl
 | .mk n c u::r,k+1,h=>by rw[uZ];simpa using aeE F r k (by simpa using h)
theorem aac (n:BA) (p:Pr) (us:List Rs):(rO n p us).applies=(p.value&&!us.any Rs.applies):=by
 unfold rO;by_cases hp:p.value=false
 ·rw[dw hp,hp];rfl
 rw[dh hp];have hp2:p.value=true:=by simpa using hp
 rw[hp2];cases h:us.find? Rs.applies with
 | none =>
  rw[List.find?_eq_none] at h;have:us.any Rs.applies=false:=by simpa using h
  rw[this];rfl
 | some x =>
  have:us.any Rs.applies=true:=List.any_eq_true.2 ⟨x,List.mem_of_find?_eq_some h,List.find?_some h⟩;rw[this];rfl
theorem aeF {F:Ex->Pr} {V:Ex->Bool} (h:∀e,(F e).value=V e):(u:List Wb)->(uZ F u).any Rs.applies=wG V u
 | []=>by rw[uZ,wG];rfl
 | .mk n c u::r=>by rw[uZ,wG,List.any_cons,aac,aeF h u,aeF h r,h]
theorem Xl {F:Ex->Pr} {V:Ex->Bool} (h:∀e,(F e).value=V e) (c:dY):(qF F c).applies=oK V c:=by
 unfold qF oK;rw[aac,aeF h,h]
structure pO where
 name:BA
 applies:Bool
 p:jP
 a:OA
 n:Nat
 c:Nat
def pO.cells (v:pO):List Value:=[.string v.name,.bool v.applies,.bool v.p.value,.int .i64 v.p.pick,.slice v.p.a v.p.n v.p.c,.slice v.a v.n v.c]
def pO.val (v:pO):Value:=.agg #[.string v.name,.bool v.applies,.bool v.p.value,.int .i64 v.p.pick,.slice v.p.a v.p.n v.p.c,.slice v.a v.n v.c]
theorem pO.len (v:pO):v.cells.length=6:=rfl
inductive yP (w:World):Rs->pO->Prop
 | mk {nm:BA} {b:Bool} {p:Pr} {us:List Rs} {pv:jP} {a:OA} {n c:Nat} (vs:List pO) (hp:jK w p pv) (hr:iF w 6 pO.cells vs a n c) (hl:vs.length=us.length)
   (h:∀i (h1:i<us.length) (h2:i<vs.length),yP w us[i] vs[i]):yP w (.mk nm b p us) ⟨nm,b,pv,a,n,c⟩
theorem yP.mono {w w':World} {p:Rs} {v:pO} (h:yP w p v) (hs:Sub w w'):yP w' p v:=by
 induction h with
 | mk vs hp hr hl _ ih=>exact .mk vs (hp.mono hs) (hr.mono hs) hl ih
def wY (w:World) (l:List Rs) (vs:List pO):Prop:=l.length=vs.length/\∀i (h1:i<l.length) (h2:i<vs.length),yP w l[i] vs[i]
theorem wY.mono {w w':World} {l:List Rs} {vs:List pO} (h:wY w l vs) (hs:Sub w w'):wY w' l vs:=⟨h.1,fun i h1 h2=>(h.2 i h1 h2).mono hs⟩
theorem wY.nil (w:World):wY w [] []:=⟨rfl,fun i h=>by simp at h⟩
theorem wY.snoc {w:World} {l:List Rs} {vs:List pO} {c:Rs} {v:pO} (h:wY w l vs) (hc:yP w c v):wY w (l++[c]) (vs++[v]):=by
 refine⟨by simp[h.1],fun i h1 h2=>?_⟩;by_cases hi:i<l.length
 ·have hi2:i<vs.length:=by rw[<-h.1];exact hi
  simp only[bT hi,bT hi2];exact h.2 i hi hi2
 have e1:i=l.length:=by simp at h1;omega
 subst e1;simp only[cZ (bg _),cZ (show vs.length<=l.length by rw[h.1];exact bg _),Nat.sub_self,bP];simpa[h.1] using hc
theorem X3:zh 55 69 (.agg #[.string ⟨#[]⟩,.bool false,.bool false,.int .i64 0,.slice none 0 0,.slice none 0 0]) 6 88:=⟨by kernel_rfl,by kernel_rfl,rfl,by decide⟩
def nG (w:World) (l:List Rs) (a:OA) (n c:Nat):Prop:=∃vs,wY w l vs/\iF w 6 pO.cells vs a n c
theorem nG.mono {w w':World} {l:List Rs} {a:OA} {n c:Nat} (h:nG w l a n c) (hs:Sub w w'):nG w' l a n c:=by
 obtain⟨vs,h1,h2⟩:=h;exact⟨vs,h1.mono hs,h2.mono hs⟩
theorem ZW {w:World} {M:ZN} {base:Nat} {a:OA} {n c:Nat} {l:List Rs} {vs:List pO} (h:w.ownsRow base 69 6 (.slice a n c) n (vs.flatMap pO.cells)) (hn:n=l.length) (hM:∀k,(Value.slice a n c).ownBlock=some k->k∉M) (hR:wY (mask w M) l vs):nG (mask w M) l a n c:=by
 subst hn;have hl:=hR.1;rw[hl] at h;obtain⟨a',c',e,hr⟩:=iF.kZ pO.len h;simp only[Value.slice.injEq] at e;obtain⟨rfl,-,rfl⟩:=e;refine⟨vs,hR,hl,by rw[hl];exact hr.2.1,hr.2.2.1,fun i h4=>?_⟩;obtain⟨b',off',e1,h5⟩:=hr.2.2.2 i h4;subst e1;exact⟨b',off',rfl,fun j hj=>by rw[iH,dh (hM _ rfl)];exact h5 j hj⟩
theorem abK {w:World} {p:Pr} {pv:jP} {us:List Rs} {a:OA} {n c:Nat} (hp:jK w p pv) (h:nG w us a n c) (nm:BA) (b:Bool):yP w (.mk nm b p us) ⟨nm,b,pv,a,n,c⟩:=by
 obtain⟨vs,h1,h2⟩:=h;exact .mk vs hp h2 h1.1.symm h1.2
theorem XF (w:World):nG w [] none 0 0:=⟨[],wY.nil w,rfl,bg _,Or.inl ⟨rfl,rfl⟩,fun i h=>by simp at h⟩
theorem agF {w:World} {M:ZN} {g:Nat} {q:Rs} {v:pO} {t:TypeId} (h:w.heap[g]?=some (.cells v.cells.toArray t (0,0))) (hg:g∉M) (hq:yP (mask w M) q v):nG (mask w M) [q] (some ⟨g,0,none⟩) 1 1:=by
 refine⟨[v],⟨rfl,fun i h1 h2=>?_⟩,rfl,bg _,Or.inr ⟨g,0,rfl⟩,fun i hi=>⟨g,0,rfl,fun j hj=>?_⟩⟩
 ·have h0:i=0:=by simp at h1;omega
  subst h0;exact hq
 have h0:i=0:=by simp at hi;omega
 subst h0;simp only[bP] at hj ⊢;rw[iH,dh hg,dM h];simp
def asQ (r:Rs) (w:World) (e:Ending) (w':World):Prop:=∃v:pO,e=.returned v.val/\yP (mask w' (List.range w.heap.size)) r v/\Ext w w'
open Go.RowKit Go.Maps
structure asR (T:TypeId) (p:Value) (nm:BA) (x:fU) (au:OA) (nu cu:Nat) (fw fn fu:FuncId):Prop where
 mw:∀(n:Nat) (W:World),(method (n+1) T p "treaty/decide.when").run Tryz.prog W=.ok (fw,p) W
 mn:∀(n:Nat) (W:World),(method (n+1) T p "treaty/decide.name").run Tryz.prog W=.ok (fn,p) W
 mu:∀(n:Nat) (W:World),(method (n+1) T p "treaty/decide.unless").run Tryz.prog W=.ok (fu,p) W
 ew:∀W,Sem.run Tryz.prog (callFunc fw #[p]) W=.ok (.enter fw #[p]) W
 en:∀W,Sem.run Tryz.prog (callFunc fn #[p]) W=.ok (.enter fn #[p]) W
 eu:∀W,Sem.run Tryz.prog (callFunc fu #[p]) W=.ok (.enter fu #[p]) W
 cw:∀W,Calls Tryz.prog fw #[p] W (dN (.agg #[.int .i64 x.op,.string x.name,.slice x.aw x.nw x.cw,.int .i64 x.lo,.int .i64 x.hi,.slice x.aa x.na x.ca]) W)
 cn:∀W,Calls Tryz.prog fn #[p] W (dN (.string nm) W)
 cu:∀W,Calls Tryz.prog fu #[p] W (dN (.slice au nu cu) W)
theorem ab7 (nm:BA) (x:fU) (au:OA) (nu cu:Nat) (w:World):Calls Tryz.prog 228 #[.agg #[.string nm,.int .i64 x.op,.string x.name,.slice x.aw x.nw x.cw,.int .i64 x.lo,.int .i64 x.hi,.slice x.aa x.na x.ca,.slice au nu cu]] w (dN (.string nm) w):=by
 obtain⟨wa,dW⟩:∃wa,wa=w.alloc (.cells #[.string nm,.int .i64 x.op,.string x.name,.slice x.aw x.nw x.cw,.int .i64 x.lo,.int .i64 x.hi,.slice x.aa x.na x.ca,.slice au nu cu] 113):=⟨_,rfl⟩
 have fE:=ak (show Ext w wa by rw[dW];exact(Ext.refl _).alloc _);obtain⟨f0,f1,f2,f3,f4,f5,f6,f7,ff⟩:=vN (show wa.heap[w.heap.size]?=some (.cells #[.string nm,.int .i64 x.op,.string x.name,.slice x.aw x.nw x.cw,.int .i64 x.lo,.int .i64 x.hi,.slice x.aa x.na x.ca,.slice au nu cu] 113 (0,0)) by rw[dW];exact dG w _);go_enter Tryz.func228,Tryz.ntmps228
 go_upto_region 1 with fail
 rw[<-dW];clear dW;go_wp2_with fail
 go_ret;exact⟨rfl,fE.o⟩
theorem aie (n:Nat) (nm:BA) (x:fU) (au:OA) (nu cu:Nat) (W:World):(method (n+1) 113 (.agg #[.string nm,.int .i64 x.op,.string x.name,.slice x.aw x.nw x.cw,.int .i64 x.lo,.int .i64 x.hi,.slice x.aa x.na x.ca,.slice au nu cu]) "treaty/decide.name").run Tryz.prog W=.ok (228,.agg #[.string nm,.int .i64 x.op,.string x.name,.slice x.aw x.nw x.cw,.int .i64 x.lo,.int .i64 x.hi,.slice x.aa x.na x.ca,.slice au nu cu]) W:=by kernel_rfl
theorem Zz (nm:BA) (x:fU) (au:OA) (nu cu:Nat):asR 113 (.agg #[.string nm,.int .i64 x.op,.string x.name,.slice x.aw x.nw x.cw,.int .i64 x.lo,.int .i64 x.hi,.slice x.aa x.na x.ca,.slice au nu cu]) nm x au nu cu 230 228 229 :=
 ⟨fun n W=>Yx n nm x au nu cu W,fun n W=>aie n nm x au nu cu W,fun n W=>Tc n nm x au nu cu W,fun W=>by kernel_rfl,fun W=>by kernel_rfl,fun W=>by kernel_rfl,fun W=>OD nm x au nu cu W,fun W=>ab7 nm x au nu cu W,fun W=>KC nm x au nu cu W⟩
theorem ag4 (kd:Int) (nm:BA) (x:fU) (au:OA) (nu cu:Nat) (am:Int) (w:World):Calls Tryz.prog 225 #[.agg #[.int .i64 kd,.string nm,.int .i64 x.op,.string x.name,.slice x.aw x.nw x.cw,.int .i64 x.lo,.int .i64 x.hi,.slice x.aa x.na x.ca,.slice au nu cu,.int .i64 am]] w (dN (.string nm) w):=by
 obtain⟨wa,dW⟩:∃wa,wa=w.alloc (.cells #[.int .i64 kd,.string nm,.int .i64 x.op,.string x.name,.slice x.aw x.nw x.cw,.int .i64 x.lo,.int .i64 x.hi,.slice x.aa x.na x.ca,.slice au nu cu,.int .i64 am] 81):=⟨_,rfl⟩
 have fE:=ak (show Ext w wa by rw[dW];exact(Ext.refl _).alloc _);obtain⟨f0,f1,f2,f3,f4,f5,f6,f7,f8,f9,ff⟩:=wu (show wa.heap[w.heap.size]?=some (.cells #[.int .i64 kd,.string nm,.int .i64 x.op,.string x.name,.slice x.aw x.nw x.cw,.int .i64 x.lo,.int .i64 x.hi,.slice x.aa x.na x.ca,.slice au nu cu,.int .i64 am] 81 (0,0)) by rw[dW];exact dG w _);go_enter Tryz.func225,Tryz.ntmps225
 go_upto_region 1 with fail
 rw[<-dW];clear dW;go_wp2_with fail
 go_ret;exact⟨rfl,fE.o⟩
theorem asw (n:Nat) (kd:Int) (nm:BA) (x:fU) (au:OA) (nu cu:Nat) (am:Int) (W:World):(method (n+1) 81 (.agg #[.int .i64 kd,.string nm,.int .i64 x.op,.string x.name,.slice x.aw x.nw x.cw,.int .i64 x.lo,.int .i64 x.hi,.slice x.aa x.na x.ca,.slice au nu cu,.int .i64 am]) "treaty/decide.name").run Tryz.prog W=.ok (225,.agg #[.int .i64 kd,.string nm,.int .i64 x.op,.string x.name,.slice x.aw x.nw x.cw,.int .i64 x.lo,.int .i64 x.hi,.slice x.aa x.na x.ca,.slice au nu cu,.int .i64 am]) W:=by kernel_rfl
theorem ah5 (kd:Int) (nm:BA) (x:fU) (au:OA) (nu cu:Nat) (am:Int):asR 81 (.agg #[.int .i64 kd,.string nm,.int .i64 x.op,.string x.name,.slice x.aw x.nw x.cw,.int .i64 x.lo,.int .i64 x.hi,.slice x.aa x.na x.ca,.slice au nu cu,.int .i64 am]) nm x au nu cu 227 225 226 :=
 ⟨fun n W=>afF n kd nm x au nu cu am W,fun n W=>asw n kd nm x au nu cu am W,fun n W=>aa7 n kd nm x au nu cu am W,fun W=>by kernel_rfl,fun W=>by kernel_rfl,fun W=>by kernel_rfl,fun W=>WA kd nm x au nu cu am W,fun W=>ag4 kd nm x au nu cu am W,fun W=>Rz kd nm x au nu cu am W⟩
theorem DIn.prove {w:World} {s:List Attr} {l:List dY} {f:ZI} {lo:jH} {n:Nat} (h:DIn w s l f lo n) {e:Ex} {ev:Value} (he:fC w e ev) (hp:Pd s l e) {u:List dY} {a:OA} {c:Nat} (hu:J5 l e u) (hc:eX w u a u.length c) (M:ZN) (hM:∀y∈M,y<w.heap.size) :
  Calls Tryz.prog 98 #[.agg #[.slice lo.sa lo.sn lo.sc],.slice a u.length c,ev,.slice lo.fa lo.fn lo.fc] w (fun r w'=>∃pv:jP,r=.returned (.tuple #[.agg #[.bool pv.value,.int .i64 pv.pick,.slice pv.a pv.n pv.c],.int .i64 0])/\jK (mask w' M) (pf s l f e) pv/\Ext w w'):=by
 obtain⟨p1,p2,p3,p4,p5,p6⟩:=hp;obtain⟨q1,-⟩:=hu.eval h.ok p1 p2 p3 h.facts;obtain⟨q3,-⟩:=hu.pf (s:=s) (f:=f) p3;refine(O1 s u e f _ ev a u.length c lo.fa lo.fn lo.fc M w ⟨h.loss.DK,h.amX,h.slen,hc,by have:=hu.1.len;have:=(qO h.ok).len;omega,fun x hx=>h.Ja x (hu.2 x hx),he,p4,p5,p6,h.loss.ints,h.fnl,h.ops⟩ hM).mono ?_;rintro r w' ⟨hx,⟨h1,-⟩|⟨-,pv,h1,h2⟩⟩
 ·exact absurd q1 h1
 rw[q3] at h2;exact⟨pv,h1,h2,hx⟩
theorem aCL {w:World} {B:Nat} {a0 a1 a2 a3 a4 a5 v2 v3 v4:Value} {t:TypeId} (h:w.heap[B]?=some (.cells #[a0,a1,a2,a3,a4,a5] t (0,0))):(((w.setCell ⟨B,2,none⟩ v2).setCell ⟨B,3,none⟩ v3).setCell ⟨B,4,none⟩ v4).heap[B]?=some (.cells #[a0,a1,v2,v3,v4,a5] t (0,0)):=by
 rw[aO _ _ _ _ _ _ (aO _ _ _ _ _ _ (aO _ _ _ _ _ _ h))];simp
theorem aCK (w:World) (B:Nat) {v2 v3 v4:Value}:dO [B] w (((w.setCell ⟨B,2,none⟩ v2).setCell ⟨B,3,none⟩ v3).setCell ⟨B,4,none⟩ v4) :=
 (((dO.refl _ w).setCell (Or.inl (by simp)) _).setCell (Or.inl (by simp)) _).setCell (Or.inl (by simp)) _
theorem kG {w:World} {N:ZN} {p:Addr} {v:Value} (h:w.cell? p=some v) (hp:p.block∉N):∀τ:WIn (dO N w),τ.1.cell? p=some v:=fun τ=>τ.2.cell h hp
theorem alq {l:List Rs} {k:Nat} {x:Rs} (h:∀y∈l.take k,y.applies=false) (hk:l[k]?=some x) (hx:x.applies=true):l.find? Rs.applies=some x:=by
 obtain⟨hlt,hx'⟩:=List.getElem?_eq_some_iff.1 hk;have e:l=l.take k++x::l.drop (k+1):=by rw[<-hx',<-List.drop_eq_getElem_cons hlt,List.take_append_drop]
 rw[e,List.find?_append,List.find?_eq_none.2 (fun y hy=>by rw[h y hy];simp)];simp[hx]
theorem yP.app {w:World} {r:Rs} {v:pO} (h:yP w r v):v.applies=r.applies:=by cases h;rfl
theorem TF {w W:World} {b4:Nat} {K:ZN} {r:Rs} {v:pO} (hb:W.heap[b4]?=some (.cells #[.string ⟨#[]⟩,.bool false,.bool false,.int .i64 0,.slice none 0 0,.slice none 0 0] 69 (0,0))) (hx:Ext w W) (h4:w.heap.size<=b4) (hk:b4∈K) (hle:∀y,y<w.heap.size->y∈K) (hr:yP (mask W K) r v) :
  (jE W b4 (.string v.name) (.bool v.applies) (.bool v.p.value) (.int .i64 v.p.pick) (.slice v.p.a v.p.n v.p.c) (.slice v.a v.n v.c)).heap[b4]?=some (.cells #[.string v.name,.bool v.applies,.bool v.p.value,.int .i64 v.p.pick,.slice v.p.a v.p.n v.p.c,.slice v.a v.n v.c] 69 (0,0))/\yP (mask (jE W b4 (.string v.name) (.bool v.applies) (.bool v.p.value) (.int .i64 v.p.pick) (.slice v.p.a v.p.n v.p.c) (.slice v.a v.n v.c)) (List.range w.heap.size)) r v/\Ext w (jE W b4 (.string v.name) (.bool v.applies) (.bool v.p.value) (.int .i64 v.p.pick) (.slice v.p.a v.p.n v.p.c) (.slice v.a v.n v.c)):=by
 have hc:dO [b4] W (jE W b4 (.string v.name) (.bool v.applies) (.bool v.p.value) (.int .i64 v.p.pick) (.slice v.p.a v.p.n v.p.c) (.slice v.a v.n v.c)):=iY W b4;refine⟨jv hb,(hr.mono (fA hc (fun y hy=>Or.inl (by rw[aK.1 hy];exact hk)))).mono (eG _ (fun y hy=>hle y (List.mem_range.1 hy))),hc.ext hx (fun y hy=>by rw[aK.1 hy];exact h4)⟩
def ReI (F:Ex->Pr) (u:List Wb) (P:Pr) (pv:jP) (nm:BA) (b6 n3 nu:Nat) (wl:World) (i:Value) (wr:World):Prop:=∃(k:Nat) (vs:List pO) (ua:OA) (uc:Nat),i=.int .i64 k/\k<=nu/\wr.heap[b6]?=some (.cells #[.string nm,.bool true,.bool pv.value,.int .i64 pv.pick,.slice pv.a pv.n pv.c,.slice ua k uc] 69 (0,0)) /\
 jK (mask wr (b6::rowOf (.slice ua k uc)++List.range n3)) P pv/\wr.ownsRow wl.heap.size 69 6 (.slice ua k uc) k (vs.flatMap pO.cells)/\wY (mask wr (b6::rowOf (.slice ua k uc)++List.range n3)) ((uZ F u).take k) vs/\(∀x∈(uZ F u).take k,x.applies=false)/\dO [b6] wl wr
theorem apD {s:List Attr} {l:List dY} {f:ZI} {lo:jH} {n:Nat} {T:TypeId} {pt:Value} {nm:BA} {x:fU} {au:OA} {nu cu:Nat} {fw fn fu:FuncId} (hpt:asR T pt nm x au nu cu fw fn fu) (cond:Ex) (u:List Wb) (w:World) (h:DIn w s l f lo n) (hp:Pd s l cond) (hnu:nu<=1000000) (hlen:nu=u.length) (hex:fC w cond x.val) (hd:jJ w u au)
  (hrec:∀(k:Nat) (hk:k<u.length) (v:J4) (W:World),Ext w W->v.name=u[k].name->fC W u[k].cond v.x.val->v.nu=u[k].jZ.length->jJ W u[k].jZ v.au->Calls Tryz.prog 72 #[lo.val,.iface 113 (.agg #[.string v.name,.int .i64 v.x.op,.string v.x.name,.slice v.x.aw v.x.nw v.x.cw,.int .i64 v.x.lo,.int .i64 v.x.hi,.slice v.x.aa v.x.na v.x.ca,.slice v.au v.nu v.cu])] W (asQ (rO u[k].name (pf s l f u[k].cond) (uZ (pf s l f) u[k].jZ)) W)) :
  Calls Tryz.prog 72 #[lo.val,.iface T pt] w (asQ (rO nm (pf s l f cond) (uZ (pf s l f) u)) w):=by
 have hck:=qO h.ok;have hsz:=(GU hp.1).2;have HU:=ak (fun W (hW:Ext w W)=>adb s l f cond x.val lo n W (h.loss.ext hW) (by have:=hck.len;omega) (hex.ext hW) ⟨by omega,hp.2.2.2.2.1⟩ (fun x hx=>⟨by have:=(GU (hck.good x hx).2.2.1).2;omega,(h.Ja x hx).2.1⟩));have HE:=ak (fun W (hW:Ext w W) (u:List dY) (a:OA) (c:Nat) (hu:J5 l cond u) (hc:eX W u a u.length c) (M:ZN) (hM:∀y∈M,y<W.heap.size)=>(h.ext hW).prove (hex.ext hW) hp hu hc M hM);obtain⟨F,hF⟩:∃F,F=pf s l f:=⟨_,rfl⟩
 rw[<-hF] at hrec HE ⊢;obtain⟨U,hU⟩:∃U:List dY->Prop,U=J5 l cond:=⟨_,rfl⟩
 unfold aBO at HU;have HU2:=ak (fun W (hW:Ext w W)=>(HU.o W hW).mono (fun r w' (hq:∃u a c,r=.returned (.slice a u.length c)/\eX w' u a u.length c/\J5 l cond u/\Ext W w')=>by rw[<-hU] at hq;exact hq));rw[<-hU] at HE;have HRC:=ak hrec;have HD:=ak hd;have HLEN:=ak hlen;obtain⟨P,hP⟩:∃P,P=F cond:=⟨_,rfl⟩
 rw[<-hP] at HE ⊢;have HPT:=ak hpt;have hm1:=hpt.mw;have hm2:=hpt.mn;have hm3:=hpt.mu;have he1:=hpt.ew;have he2:=hpt.en;have he3:=hpt.eu;clear h hp hck hsz hU HU hF hP hlen hex hd hrec hpt;unfold fU.val exV at HU2 HE;unfold jH.val at HU2;unfold jH.val at HRC ⊢;obtain⟨b2,hb2⟩:∃b2,b2=w.heap.size:=⟨_,rfl⟩
 obtain⟨wa,dW⟩:∃wa,wa=(w.alloc (.cells #[.slice lo.sa lo.sn lo.sc,.map (some lo.bm),.slice lo.fa lo.fn lo.fc] 74)).alloc (.cells #[.string ⟨#[]⟩,.bool false,.bool false,.int .i64 0,.slice none 0 0,.slice none 0 0] 69):=⟨_,rfl⟩
 have fE:=ak (show Ext w wa by rw[dW];exact((Ext.refl _).alloc _).alloc _);have HA2:=ak (show wa.heap[b2]?=some (.cells #[.slice lo.sa lo.sn lo.sc,.map (some lo.bm),.slice lo.fa lo.fn lo.fc] 74 (0,0)) by rw[dW,hb2];exact dJ (dG w _));have HA4:=ak (show wa.heap[b2+1]?=some (.cells #[.string ⟨#[]⟩,.bool false,.bool false,.int .i64 0,.slice none 0 0,.slice none 0 0] 69 (0,0)) by rw[dW,hb2];exact eH (by simp));have HS2:=ak (show b2=w.heap.size/\b2+2<=wa.heap.size from⟨hb2,by rw[dW,hb2];simp⟩);go_enter Tryz.func72,Tryz.ntmps72
 go_upto_region 1 with fail
 rw[<-dW,<-hb2];clear dW hb2;go_wp2_with fail
 refine(HPT.o.cw wa).mono ?_;rintro r w1 ⟨rfl,hx1⟩;go_upto_region 2 with fail
 obtain⟨b5,hb5⟩:∃b5,b5=w1.heap.size:=⟨_,rfl⟩
 obtain⟨w2,hw2⟩:∃w2,w2=w1.alloc (.cells #[.int .i64 x.op,.string x.name,.slice x.aw x.nw x.cw,.int .i64 x.lo,.int .i64 x.hi,.slice x.aa x.na x.ca] 45):=⟨_,rfl⟩
 have gI:=ak (show Ext wa w2 from hx1.trans (by rw[hw2];exact(Ext.refl _).alloc _));have HE5:=ak (show w2.heap[b5]?=some (.cells #[.int .i64 x.op,.string x.name,.slice x.aw x.nw x.cw,.int .i64 x.lo,.int .i64 x.hi,.slice x.aa x.na x.ca] 45 (0,0)) by rw[hw2,hb5];exact dG w1 _);have uj:=ak (show b2+2<=b5 by have:=HS2.o.2;have:=hx1.size;omega);rw[<-hw2,<-hb5];clear hw2 hb5 hx1;go_wp2_with fail
 refine(HPT.o.cn w2).mono ?_;rintro r w1 ⟨rfl,hx1⟩;go_upto_region 3 with fail
 obtain⟨b6,hb6⟩:∃b6,b6=w1.heap.size:=⟨_,rfl⟩
 obtain⟨w3,hw3⟩:∃w3,w3=w1.alloc (.cells #[.string nm,.bool false,.bool false,.int .i64 0,.slice none 0 0,.slice none 0 0] 69):=⟨_,rfl⟩
 have hx3:Ext w2 w3:=hx1.trans (by rw[hw3];exact(Ext.refl _).alloc _);have gU:=ak ((fE.o.trans gI.o).trans hx3);have H2:=ak ((gI.o.trans hx3).blk HA2.o);have H4:=ak ((gI.o.trans hx3).blk HA4.o);have H5:=ak (hx3.blk HE5.o);have H6:=ak (show w3.heap[b6]?=some (.cells #[.string nm,.bool false,.bool false,.int .i64 0,.slice none 0 0,.slice none 0 0] 69 (0,0)) by rw[hw3,hb6];exact dG w1 _);have HS:=ak (show b2=w.heap.size/\b2+2<=b5/\b5<b6/\b6<w3.heap.size by
  have h1:=dH HE5.o;have h2:=hx1.size;refine⟨HS2.o.1,uj.o,by omega,?_⟩;rw[hw3,hb6];simp)
 rw[<-hw3,<-hb6];clear hw3 hb6 hx1 hx3 fE gI HA2 HA4 HE5 HS2 uj;obtain⟨n3,hn3⟩:∃n3,n3=w3.heap.size:=⟨_,rfl⟩
 rw[<-hn3] at HS;have HN3:=ak hn3;clear hn3;have hne2:b2∉[b6]:=by have:=HS.o;simp;omega
 have hne5:b5∉[b6]:=by have:=HS.o;simp;omega
 obtain⟨x0,x1,x2,xf⟩:=fZ H2.o;obtain⟨f0,f1,f2,f3,f4,f5,ff⟩:=eP H5.o;have C0:=kG x0 hne2;have C1:=kG x1 hne2;have C2:=kG x2 hne2;have D0:=kG f0 hne5;have D1:=kG f1 hne5;have D2:=kG f2 hne5;have D3:=kG f3 hne5;have D4:=kG f4 hne5;have D5:=kG f5 hne5;have qC:=ak (fun W (hW:dO [b6] w3 W)=>show Ext w W from hW.ext gU.o (fun y hy=>by rw[aK.1 hy];have:=HS.o;omega));refine JR 14 [b6] (fun W=>W.heap[b6]?=some (.cells #[.string nm,.bool false,.bool false,.int .i64 0,.slice none 0 0,.slice none 0 0] 69 (0,0))) ((Ext.refl w3).drew.blk H6.o) (fun _ _ hx h=>hx.blk h) ?_
 repeat (refine dQ ?_;intro K hK;go_big_quiet_op;go_big_quiet_on)
 refine je (γ:=List dY×OA×Nat) (fun x=>.slice x.2.1 x.1.length x.2.2) (fun x W=>W.heap[b6]?=some (.cells #[.string nm,.bool false,.bool false,.int .i64 0,.slice none 0 0,.slice none 0 0] 69 (0,0))/\U x.1/\eX W x.1 x.2.1 x.1.length x.2.2) (fun W hW h6 _=>?_) (fun x W W' hx h=>⟨hx.blk h.1,h.2.1,h.2.2.ext hx⟩) ?_ ⟨([],none,0)⟩
 ·unfold dF;go_simp;refine(HU2.o W (qC.o W hW)).mono ?_;rintro r w1 ⟨u,a,c,rfl,h1,h2,h3⟩;exact⟨_,rfl,h3.fH _,(u,a,c),rfl,h3.blk h6,h2,h1⟩
 rintro⟨u',a,c⟩ K hK;go_simp;go_big_quiet_on
 repeat (refine dQ ?_;intro K hK;go_big_quiet_op;go_big_quiet_on)
 refine je (γ:=jP) (fun pv=>.tuple #[.agg #[.bool pv.value,.int .i64 pv.pick,.slice pv.a pv.n pv.c],.int .i64 0]) (fun pv W=>W.heap[b6]?=some (.cells #[.string nm,.bool false,.bool false,.int .i64 0,.slice none 0 0,.slice none 0 0] 69 (0,0))/\jK (mask W (List.range n3)) P pv) (fun W hW h _=>?_) (fun pv W W' hx h=>⟨hx.blk h.1,h.2.mono (fA (hx.fH []) (by simp))⟩) ?_ ⟨⟨false,0,none,0,0⟩⟩
 ·unfold dF;go_simp;refine(HE.o W (qC.o W hW) u' a c h.2.1 h.2.2 (List.range n3) (fun y hy=>by have:=hW.size;have:=HN3.o;rw[List.mem_range] at hy;omega)).mono ?_;rintro r w1 ⟨pv,rfl,h1,h3⟩;exact⟨_,rfl,h3.fH _,pv,rfl,h3.blk h.1,h1⟩
 rintro⟨pb,pk,pa,pn,pc⟩ K hK;go_simp;go_big_quiet_on
 repeat (refine dQ ?_;intro K hK;go_big_quiet_op;go_big_quiet_on)
 refine lS undef (fun W=>W.heap[b6]?=some (.cells #[.string nm,.bool false,.bool pb,.int .i64 pk,.slice pa pn pc,.slice none 0 0] 69 (0,0))/\jK (mask W (List.range n3)) P ⟨pb,pk,pa,pn,pc⟩) (fun W hW h _=>?_) (fun W W' hx h=>⟨hx.blk h.1,h.2.mono (fA (hx.fH []) (by simp))⟩) ?_
 ·obtain⟨z0,z1,z2,z3,z4,z5,zf⟩:=gJ h.1;have hlt:=dH h.1;have HP:=ak (aCL h.1 (v2:=.bool pb) (v3:=.int .i64 pk) (v4:=.slice pa pn pc));have HQ:=ak (aCK W b6 (v2:=.bool pb) (v3:=.int .i64 pk) (v4:=.slice pa pn pc));have HI:=ak h.2;clear h;unfold dF;go_simp;exact⟨HQ.o,rfl,HP.o,HI.o.mono (fA HQ.o (fun y hy=>Or.inl (by rw[aK.1 hy];have:=HS.o;simp;omega)))⟩
 intro K hK;go_simp;go_big_quiet_on;refine lH fun w4 hc4 hy _=>?_
 have lN:=ak (qC.o w4 hc4);have HB2:=ak (hc4.blk H2.o hne2);have HB4:=ak (hc4.blk H4.o (by have:=HS.o;simp;omega));have nM:=ak hy.1;have HIP:=ak hy.2;have HN4:=ak (show n3<=w4.heap.size by have:=hc4.size;have:=HN3.o;omega);have PE:=ak (show pb=P.value from hy.2.parts.1);clear hc4 hy x0 x1 x2 xf f0 f1 f2 f3 f4 f5 ff C0 C1 C2 D0 D1 D2 D3 D4 D5 H2 H4 H5 H6 qC gU HU2 HE hne2 hne5 HN3 hm1 hm2 he1 he2;obtain⟨r0,r1,r2,r3,r4,r5,rf⟩:=gJ nM.o;cases pb
 ·obtain⟨q0,q1,q2,q3,q4,q5,qf⟩:=gJ HB4.o;have HF:=ak (TF (v:=⟨nm,false,⟨false,pk,pa,pn,pc⟩,none,0,0⟩) (K:=List.range n3) (r:=rO nm P (uZ F u)) HB4.o lN.o (by have:=HS.o;omega) (by have:=HS.o;simp;omega) (by have:=HS.o;simp;omega) (by unfold rO;rw[dw PE.o.symm];exact abK HIP.o (XF _) _ _));go_wp2_with fail
  obtain⟨wz,hwz⟩:∃wz,wz=jE w4 (b2+1) (.string nm) (.bool false) (.bool false) (.int .i64 pk) (.slice pa pn pc) (.slice none 0 0):=⟨_,rfl⟩
  rw[<-hwz] at HF;unfold jE at hwz;rw[<-hwz];clear hwz q0 q1 q2 q3 q4 q5 qf;obtain⟨q0,q1,q2,q3,q4,q5,qf⟩:=gJ HF.o.1;refine bodyPost_ret (v:=pO.val ⟨nm,false,⟨false,pk,pa,pn,pc⟩,none,0,0⟩) (by simp[results,Tryz.results72,go_sem,pO.val,q0,q1,q2,q3,q4,q5]) rfl ?_;exact⟨_,rfl,HF.o.2.1,HF.o.2.2⟩
 go_upto_region 7 with fail
 obtain⟨w5,hw5⟩:∃w5,w5=w4.setCell ⟨b6,1,none⟩ (.bool true):=⟨_,rfl⟩
 have hc5:dO [b6] w4 w5:=by rw[hw5];exact(dO.refl _ _).setCell (Or.inl (by simp)) _
 have h65:w5.heap[b6]?=some (.cells #[.string nm,.bool true,.bool true,.int .i64 pk,.slice pa pn pc,.slice none 0 0] 69 (0,0)):=by rw[hw5,aO _ _ _ _ _ _ nM.o];simp
 rw[<-hw5];clear hw5 r0 r1 r2 r3 r4 r5 rf;go_wp2_with fail
 refine(HPT.o.cu w5).mono ?_;rintro r w6 ⟨rfl,hx6⟩;have hc6:=hc5.then (hx6.fH [b6])
 have oL:=ak (hc6.ext lN.o (fun y hy=>by rw[aK.1 hy];have:=HS.o;omega));have HC2:=ak (hc6.blk HB2.o (by have:=HS.o;simp;omega));have ug:=ak (hc6.blk HB4.o (by have:=HS.o;simp;omega));have Fj:=ak (hx6.blk h65);have aJ1:=ak (HIP.o.mono (fA hc6 (fun y hy=>Or.inl (by rw[aK.1 hy];have:=HS.o;simp;omega))));have HN6:=ak (bC HN4.o hc6.size);clear hc5 hc6 h65 hx6 nM HIP HN4 HB2 HB4 lN hm3 he3 HPT;go_wp2_with fail
 go_loopw [37] (ReI F u P ⟨true,pk,pa,pn,pc⟩ nm b6 n3 nu w6) (fun i _=>nu - (intOf i).toNat)
 case atStart=>exact⟨0,[],none,0,rfl,Nat.zero_le _,Fj.o,aJ1.o.mono (eG _ (by have:=HS.o;simp[rowOf,Value.ownBlock];omega)),World.ownsRow_nil _ _ _ _,by rw[List.take_zero];exact wY.nil _,by simp,dO.refl _ _⟩
 case round =>
  obtain⟨k,vs,ua,uc,rfl,hk,hb6,hip,hown,hrs,hno,hc⟩:=hrel;obtain⟨wo,rfl⟩:∃wo:World,wo=wr:=⟨_,rfl⟩
  dsimp only at hb6;have HX:=ak (hc.ext oL.o (fun y hy=>by rw[aK.1 hy];have:=HS.o;omega));have HW2:=ak (hc.blk HC2.o (by have:=HS.o;simp;omega));have Yk:=ak (hc.blk ug.o (by have:=HS.o;simp;omega));have HW6:=ak hb6;have HIP:=ak hip;have HOW:=ak hown;have Si:=ak hrs;have lZ:=ak hno;have HC:=ak hc;have aAu:=ak (bC HN6.o hc.size);have HRW:=ak (show ∀y∈rowOf (.slice ua k uc),w6.heap.size<=y/\n3<=y/\y<wo.heap.size from fun y hy=>⟨(hown.lt y (dK.1 hy)).1,bC HN6.o (hown.lt y (dK.1 hy)).1,(hown.lt y (dK.1 hy)).2⟩);clear hb6 hip hown hrs hno hc HC2 ug Fj aJ1;by_cases hkn:k<nu
  ·have hkl:k<u.length:=by have:=HLEN.o;omega
   have t1:=ah ((k:Int)<(nu:Int));obtain⟨b,off,rfl,v,hvn,hrow,Bz,hvu,-,-,hvd⟩:=jJ.at u _ (jJ.mono HX.o.sub u _ HD.o) k hkl;obtain⟨c0,c1,c2,c3,c4,c5,c6,c7⟩:=hrow.eight;have xJ:=ak (fun W (hW:Ext wo W)=>HRC.o k hkl v W (HX.o.trans hW) hvn (Bz.ext hW) hvu (jJ.mono hW.sub _ _ hvd));obtain⟨X,hX⟩:∃X,X=rO u[k].name (F u[k].cond) (uZ F u[k].jZ):=⟨_,rfl⟩
   rw[<-hX] at xJ;have Iq:=ak (show (uZ F u).take (k+1)=(uZ F u).take k++[X]/\(uZ F u)[k]?=some X by
    have h1:=aeE F u k hkl;rw[<-hX] at h1;obtain⟨h2,h3⟩:=List.getElem?_eq_some_iff.1 h1;exact⟨by rw[aU h2,h3],h1⟩)
   clear hvn hrow Bz hvu hvd hX;obtain⟨x0,x1,x2,xf⟩:=fZ HW2.o;obtain⟨wb,hwb⟩:∃wb,wb=wo.alloc (.cells #[.string v.name,.int .i64 v.x.op,.string v.x.name,.slice v.x.aw v.x.nw v.x.cw,.int .i64 v.x.lo,.int .i64 v.x.hi,.slice v.x.aa v.x.na v.x.ca,.slice v.au v.nu v.cu] 53):=⟨_,rfl⟩
   have HXB:=ak (show Ext wo wb by rw[hwb];exact(Ext.refl _).alloc _);have hb8:wb.heap[wo.heap.size]?=some (.cells #[.string v.name,.int .i64 v.x.op,.string v.x.name,.slice v.x.aw v.x.nw v.x.cw,.int .i64 v.x.lo,.int .i64 v.x.hi,.slice v.x.aa v.x.na v.x.ca,.slice v.au v.nu v.cu] 53 (0,0)):=by rw[hwb];exact dG wo _
   go_upto_region 10 with fail
   rw[<-hwb];clear hwb x0 x1 x2 xf;obtain⟨x0,x1,x2,xf⟩:=fZ (HXB.o.blk HW2.o);obtain⟨f0,f1,f2,f3,f4,f5,f6,f7,ff⟩:=vN hb8;clear hb8;go_wp2_with fail
   refine(xJ.o wb HXB.o).mono ?_;rintro r w5 ⟨⟨vn,Q,qv,va,vm,vc⟩,rfl,hrv,hx5⟩;unfold pO.val;clear c0 c1 c2 c3 c4 c5 c6 c7 x0 x1 x2 xf f0 f1 f2 f3 f4 f5 f6 f7 ff xJ;go_upto_region 11 with fail
   obtain⟨b9,I7⟩:∃b9,b9=w5.heap.size:=⟨_,rfl⟩
   obtain⟨w7,hw7⟩:∃w7,w7=w5.alloc (.cells #[.string vn,.bool Q,.bool qv.value,.int .i64 qv.pick,.slice qv.a qv.n qv.c,.slice va vm vc] 69):=⟨_,rfl⟩
   have hx7:Ext w5 w7:=by rw[hw7];exact(Ext.refl _).alloc _
   have kC:=ak ((HXB.o.trans hx5).trans hx7);have HB9:=ak (show w7.heap[b9]?=some (.cells #[.string vn,.bool Q,.bool qv.value,.int .i64 qv.pick,.slice qv.a qv.n qv.c,.slice va vm vc] 69 (0,0)) by rw[hw7,I7];exact dG w5 _);have HV:=ak (show yP (mask w7 (b6::rowOf (.slice ua k uc)++List.range n3)) X ⟨vn,Q,qv,va,vm,vc⟩ from(hrv.mono (fA (hx7.fH []) (by simp))).mono (eG _ (fun y hy=>by
    have h1:=HS.o;have h2:=aAu.o;have h3:=HXB.o.size;rw[List.mem_range];simp only[List.cons_append,bK,aT,List.mem_range] at hy;rcases hy with rfl|hy|hy
    ·omega
    ·have:=HRW.o y hy;omega
    omega)))
   have HQ:=ak (show Q=X.applies from hrv.app);have a4b:=ak (show wo.heap.size<=b9 by rw[I7];exact(HXB.o.trans hx5).size);rw[<-hw7,<-I7];have axr:=ak (eF HOW.o (kC.o.fH []) (by simp));have aRy:=ak (kC.o.blk HW6.o);clear hw7 I7 hrv hx5 hx7 HXB;obtain⟨r0,r1,r2,r3,r4,r5,rf⟩:=gJ aRy.o;obtain⟨s0,s1,s2,s3,s4,s5,sf⟩:=gJ HB9.o;have NT:=ak (show w6.heap.size<=wo.heap.size/\wo.heap.size<=w7.heap.size/\n3<=w6.heap.size/\n3<=b9 from⟨HC.o.size,kC.o.size,HN6.o,by have:=aAu.o;have:=a4b.o;omega⟩);have aUk:=kC.o.size;have UQ:=dH HB9.o;cases Q
   ·go_wp2_with (at_builtin;refine fK X3 rfl _ _ rfl w6.heap.size _ k _ rfl axr.o _ 1 1 rfl ?f0 rfl ?f1 ?f2 ?f3 ?f4 ?_)
    case f0=>simp
    case f1=>simp[Value.oneCell']
    case f2=>unfold maxLen;omega
    case f3=>omega
    case f4=>have:=NT.o;omega
    intro v8 w8 ig hc8 hw8;obtain⟨ua2,uc2,rfl⟩:=iG ig;have h6r:b6∉rowOf (.slice ua k uc):=fun hm=>by have:=HRW.o _ hm;have:=HS.o;omega
    have HKP:=ak (FP (bd:=b6) (M:=List.range n3) hc8 hw8);have aWH:=ak (hc8.blk aRy.o h6r);have aJS:=ak (show w8.ownsRow w6.heap.size 69 6 (.slice ua2 (k+1) uc2) (k+1) ((vs++[(⟨vn,false,qv,va,vm,vc⟩:pO)]).flatMap pO.cells) by simpa[pO.cells] using ig);have MR:=ak (show dO [b6] w6 w8 from((HC.o.then (kC.o.fH [b6])).trans hc8 (fun y hy=>Or.inr (by have:=HRW.o y hy;have:=NT.o;omega))));clear ig hc8 hw8 r0 r1 r2 r3 r4 r5 rf s0 s1 s2 s3 s4 s5 sf h6r;obtain⟨r0,r1,r2,r3,r4,r5,rf⟩:=gJ aWH.o;obtain⟨w9,yY⟩:∃w9,w9=w8.setCell ⟨b6,5,none⟩ (.slice ua2 (k+1) uc2):=⟨_,rfl⟩
    have NI:=ak (show dO [b6] w8 w9 by rw[yY];exact(dO.refl _ _).setCell (Or.inl (by simp)) _);have a1P:=ak (show w9.heap[b6]?=some (.cells #[.string nm,.bool true,.bool true,.int .i64 pk,.slice pa pn pc,.slice ua2 (k+1) uc2] 69 (0,0)) by rw[yY,aO _ _ _ _ _ _ aWH.o];simp);go_upto_region 16 with fail
    rw[<-yY];clear yY r0 r1 r2 r3 r4 r5 rf;go_wp2_with fail
    go_roundw
    case rel =>
     have hK:∀W,dO [b6] w8 W->Sub (mask w8 (b6::rowOf (.slice ua2 (k+1) uc2)++List.range n3)) (mask W (b6::rowOf (.slice ua2 (k+1) uc2)++List.range n3)):=fun W h=>fA h (fun y hy=>Or.inl (by rw[aK.1 hy];simp))
     have hX:Sub (mask wo (b6::rowOf (.slice ua k uc)++List.range n3)) (mask w7 (b6::rowOf (.slice ua k uc)++List.range n3)):=fA (kC.o.fH []) (by simp);refine⟨k+1,vs++[⟨vn,false,qv,va,vm,vc⟩],ua2,uc2,by go_num,by omega,a1P.o,((HIP.o.mono hX).mono HKP.o).mono (hK _ NI.o),eF aJS.o NI.o (fun q hq hm=>by rw[aK.1 hm] at hq;have:=(aJS.o.lt b6 hq).1;have:=HS.o;have:=NT.o;omega),?_,?_,MR.o.then NI.o⟩
     ·rw[Iq.o.1];exact(((Si.o.mono hX).mono HKP.o).mono (hK _ NI.o)).snoc ((HV.o.mono HKP.o).mono (hK _ NI.o))
     intro y hy;rw[Iq.o.1] at hy;rcases aT.1 hy with h|h
     ·exact lZ.o y h
     rw[aK.1 h];exact HQ.o.symm
    case measure=>simp[intOf];omega
   go_upto_region 13 with fail
   obtain⟨w8,hw8⟩:∃w8,w8=w7.setCell ⟨b6,1,none⟩ (.bool false):=⟨_,rfl⟩
   have hc8:dO [b6] w7 w8:=by rw[hw8];exact(dO.refl _ _).setCell (Or.inl (by simp)) _
   have h96:b9∉[b6]:=by have:=NT.o;have:=HS.o;simp;omega
   have h86:w8.heap[b6]?=some (.cells #[.string nm,.bool false,.bool true,.int .i64 pk,.slice pa pn pc,.slice ua k uc] 69 (0,0)):=by rw[hw8,aO _ _ _ _ _ _ aRy.o];simp
   have h98:=hc8.blk HB9.o h96;rw[<-hw8];clear hw8 r0 r1 r2 r3 r4 r5 rf s0 s1 s2 s3 s4 s5 sf;obtain⟨r0,r1,r2,r3,r4,r5,rf⟩:=gJ h86;obtain⟨s0,s1,s2,s3,s4,s5,sf⟩:=gJ h98;have a5i:=dH h86;go_upto_region 14 with fail
   obtain⟨g,hg⟩:∃g,g=w8.heap.size:=⟨_,rfl⟩
   obtain⟨w9,yY⟩:∃w9,w9=(w8.setCell ⟨b6,5,none⟩ (.slice (some ⟨w8.heap.size,0,none⟩) 1 1)).alloc (.cells #[.string vn,.bool true,.bool qv.value,.int .i64 qv.pick,.slice qv.a qv.n qv.c,.slice va vm vc] 69):=⟨_,rfl⟩
   have Af:dO [b6] w8 w9:=by rw[yY];exact((dO.refl _ _).setCell (Or.inl (by simp)) _).then (((Ext.refl _).alloc _).fH _)
   have h9g:w9.heap[g]?=some (.cells #[.string vn,.bool true,.bool qv.value,.int .i64 qv.pick,.slice qv.a qv.n qv.c,.slice va vm vc] 69 (0,0)):=by rw[yY,hg];exact eH (by simp)
   have a0F:w9.heap[b6]?=some (.cells #[.string nm,.bool false,.bool true,.int .i64 pk,.slice pa pn pc,.slice (some ⟨g,0,none⟩) 1 1] 69 (0,0)):=by
    rw[yY,hg];have:=dJ (o':=.cells #[.string vn,.bool true,.bool qv.value,.int .i64 qv.pick,.slice qv.a qv.n qv.c,.slice va vm vc] 69) (aO w8 b6 5 _ _ (.slice (some ⟨w8.heap.size,0,none⟩) 1 1) h86);simpa using this
   rw[<-yY];have hcc:dO [b6] wo w9:=((kC.o.fH [b6]).then hc8).then Af
   have aU9:dO [b6] w7 w9:=hc8.then Af
   have hgn:g∉List.range n3:=by have:=NT.o;have:=hc8.size;have:=aAu.o;rw[List.mem_range];omega
   have HF:=ak (TF (v:=⟨nm,false,⟨true,pk,pa,pn,pc⟩,some ⟨g,0,none⟩,1,1⟩) (K:=List.range n3) (r:=rO nm P (uZ F u)) (hcc.blk Yk.o (by have:=HS.o;simp;omega)) (hcc.ext HX.o (fun y hy=>by rw[aK.1 hy];have:=HS.o;omega)) (by have:=HS.o;omega) (by have:=HS.o;simp;omega) (by have:=HS.o;simp;omega) (by
    have e:rO nm P (uZ F u)=.mk nm false P [X]:=by
     unfold rO;rw[dh (by rw[<-PE.o];simp),alq lZ.o Iq.o.2 HQ.o.symm]
    rw[e];have hl:∀y∈List.range n3,y∈b6::rowOf (.slice ua k uc)++List.range n3:=fun y hy=>by simp only[List.cons_append,bK,aT];exact Or.inr (Or.inr hy)
    have hm:∀{W:World},dO [b6] W w9->Sub (mask W (b6::rowOf (.slice ua k uc)++List.range n3)) (mask w9 (List.range n3)):=fun h=>(fA h (fun y hy=>Or.inl (by rw[aK.1 hy];simp))).trans (eG _ hl)
    exact abK (HIP.o.mono (hm hcc)) (agF h9g hgn (HV.o.mono (hm aU9))) _ _))
   have hb4:=hcc.blk Yk.o (by have:=HS.o;simp;omega);clear yY hc8 h86 h98 Af h9g hcc aU9 hgn hg r0 r1 r2 r3 r4 r5 rf s0 s1 s2 s3 s4 s5 sf;obtain⟨r0,r1,r2,r3,r4,r5,rf⟩:=gJ a0F;obtain⟨q0,q1,q2,q3,q4,q5,qf⟩:=gJ hb4;go_wp2_with fail
   obtain⟨wz,hwz⟩:∃wz,wz=jE w9 (b2+1) (.string nm) (.bool false) (.bool true) (.int .i64 pk) (.slice pa pn pc) (.slice (some ⟨g,0,none⟩) 1 1):=⟨_,rfl⟩
   rw[<-hwz] at HF;unfold jE at hwz;rw[<-hwz];clear hwz q0 q1 q2 q3 q4 q5 qf;obtain⟨q0,q1,q2,q3,q4,q5,qf⟩:=gJ HF.o.1;refine bodyPost_ret (v:=pO.val ⟨nm,false,⟨true,pk,pa,pn,pc⟩,some ⟨g,0,none⟩,1,1⟩) (by simp[results,Tryz.results72,go_sem,pO.val,q0,q1,q2,q3,q4,q5]) rfl ?_;exact⟨_,rfl,HF.o.2.1,HF.o.2.2⟩
  have t1:=aj ((k:Int)<(nu:Int));have HF:=ak (TF (v:=⟨nm,true,⟨true,pk,pa,pn,pc⟩,ua,k,uc⟩) (K:=List.range n3) (r:=rO nm P (uZ F u)) Yk.o HX.o (by have:=HS.o;omega) (by have:=HS.o;simp;omega) (by have:=HS.o;simp;omega) (by
   have hkl:(uZ F u).length=k:=by rw[QF];have:=HLEN.o;omega
   have hno:=lZ.o;have hrs:=Si.o;rw[aY (by omega)] at hno hrs;have e:rO nm P (uZ F u)=.mk nm true P (uZ F u):=by
    unfold rO;rw[dh (by rw[<-PE.o];simp),List.find?_eq_none.2 (fun y hy=>by rw[hno y hy];simp)]
   rw[e];have hl:∀y∈List.range n3,y∈b6::rowOf (.slice ua k uc)++List.range n3:=fun y hy=>by simp only[List.cons_append,bK,aT];exact Or.inr (Or.inr hy)
   exact abK (HIP.o.mono (eG _ hl)) (ZW HOW.o hkl.symm (fun q hq hm=>by have:=(HRW.o q (dK.2 hq)).2.1;rw[List.mem_range] at hm;omega) (hrs.mono (eG _ hl))) _ _))
  obtain⟨r0,r1,r2,r3,r4,r5,rf⟩:=gJ HW6.o;obtain⟨q0,q1,q2,q3,q4,q5,qf⟩:=gJ Yk.o;go_wp2_with fail
  obtain⟨wz,hwz⟩:∃wz,wz=jE wo (b2+1) (.string nm) (.bool true) (.bool true) (.int .i64 pk) (.slice pa pn pc) (.slice ua k uc):=⟨_,rfl⟩
  rw[<-hwz] at HF;unfold jE at hwz;rw[<-hwz];clear hwz q0 q1 q2 q3 q4 q5 qf;obtain⟨q0,q1,q2,q3,q4,q5,qf⟩:=gJ HF.o.1;refine bodyPost_ret (v:=pO.val ⟨nm,true,⟨true,pk,pa,pn,pc⟩,ua,k,uc⟩) (by simp[results,Tryz.results72,go_sem,pO.val,q0,q1,q2,q3,q4,q5]) rfl ?_;exact⟨_,rfl,HF.o.2.1,HF.o.2.2⟩
theorem aEb {s:List Attr} {l:List dY} {f:ZI} {lo:jH} {n:Nat}:∀(m:Nat) (cond:Ex) (u:List Wb) (nm:BA) (x:fU) (au:OA) (nu cu:Nat) (w:World),qU u<=m->DIn w s l f lo n->Pd s l cond->nN (Pd s l) u->qU u<=1000000->nu=u.length->fC w cond x.val->jJ w u au ->
  Calls Tryz.prog 72 #[lo.val,.iface 113 (.agg #[.string nm,.int .i64 x.op,.string x.name,.slice x.aw x.nw x.cw,.int .i64 x.lo,.int .i64 x.hi,.slice x.aa x.na x.ca,.slice au nu cu])] w (asQ (rO nm (pf s l f cond) (uZ (pf s l f) u)) w):=by
 intro m;induction m using Nat.strongRecOn with
 | _ m ih =>
  intro cond u nm x au nu cu w hm h hp hok hnu hlen hex hd;have hl:=wI u;refine apD (Zz nm x au nu cu) cond u w h hp (by omega) hlen hex hd fun k hk v W hW hvn Bz hvu hvd=>?_
  have hat:=Gn u k hk;rw[<-hvn];exact ih (qU u[k].jZ) (by omega) u[k].cond u[k].jZ v.name v.x v.au v.nu v.cu W (bg _) (h.ext hW) (pI u hok k hk).1 (pI u hok k hk).2.1 (by omega) hvu Bz hvd
theorem awk {s:List Attr} {l:List dY} {f:ZI} {lo:jH} {n:Nat} (cond:Ex) (u:List Wb) (kd:Int) (nm:BA) (x:fU) (au:OA) (nu cu:Nat) (am:Int) (w:World) (h:DIn w s l f lo n) (hp:Pd s l cond) (hok:nN (Pd s l) u) (hn:qU u<=1000000) (hlen:nu=u.length) (hex:fC w cond x.val) (hd:jJ w u au) :
  Calls Tryz.prog 72 #[lo.val,.iface 81 (.agg #[.int .i64 kd,.string nm,.int .i64 x.op,.string x.name,.slice x.aw x.nw x.cw,.int .i64 x.lo,.int .i64 x.hi,.slice x.aa x.na x.ca,.slice au nu cu,.int .i64 am])] w (asQ (rO nm (pf s l f cond) (uZ (pf s l f) u)) w):=by
 have hl:=wI u;refine apD (ah5 kd nm x au nu cu am) cond u w h hp (by omega) hlen hex hd fun k hk v W hW hvn Bz hvu hvd=>?_
 have hat:=Gn u k hk;rw[<-hvn];exact aEb (qU u[k].jZ) u[k].cond u[k].jZ v.name v.x v.au v.nu v.cu W (bg _) (h.ext hW) (pI u hok k hk).1 (pI u hok k hk).2.1 (by omega) hvu Bz hvd
def PdR (s:List Attr) (l:List dY) (x:dY):Prop:=Pd s l x.cond/\nN (Pd s l) x.jZ/\qU x.jZ<=1000000
theorem aGH {s:List Attr} {l:List dY} (hc:(eU s l).2=0) (hf:∀x∈l,x.fit):∀x∈l,PdR s l x:=fun x hx=>by
 obtain⟨h1,h2,-⟩:=ayW hc hf x hx;have:=(EW (afE hc x hx)).2;exact⟨h1,h2,by omega⟩
theorem ar7 {s:List Attr} {l:List dY} {f:ZI} {lo:jH} {n:Nat} {w:World} (h:DIn w s l f lo n) {x:dY} {v:jm} (hp:PdR s l x) (hc:kR w x v) :
  Calls Tryz.prog 72 #[lo.val,.iface 81 (.agg #[.int .i64 v.kind,.string v.name,.int .i64 v.x.op,.string v.x.name,.slice v.x.aw v.x.nw v.x.cw,.int .i64 v.x.lo,.int .i64 v.x.hi,.slice v.x.aa v.x.na v.x.ca,.slice v.au v.nu v.cu,.int .i64 v.amount])] w (asQ (qF (pf s l f) x) w):=by
 obtain⟨c1,c2,c3,c4,c5,c6,c7,c8⟩:=hc;unfold qF;rw[<-c2];exact awk x.cond x.jZ v.kind v.name v.x v.au v.nu v.cu v.amount w h hp.1 hp.2.1 hp.2.2 c4 c3 c7
def aWd (L:List Rs) (w:World) (e:Ending) (w':World):Prop:=∃a c,e=.returned (.slice a L.length c)/\nG (mask w' (List.range w.heap.size)) L a L.length c/\Ext w w'
def aYY (L:List Rs) (b:Bool) (w:World) (e:Ending) (w':World):Prop:=Ext w w'/\((L.find? (fun r=>r.applies==b)=none/\e=.returned (.tuple #[.agg #[.string ⟨#[]⟩,.bool false,.bool false,.int .i64 0,.slice none 0 0,.slice none 0 0],.bool false]))\/∃r v,L.find? (fun r=>r.applies==b)=some r/\e=.returned (.tuple #[.agg #[.string v.name,.bool v.applies,.bool v.p.value,.int .i64 v.p.pick,.slice v.p.a v.p.n v.p.c,.slice v.a v.n v.c],.bool true])/\yP (mask w' (List.range w.heap.size)) r v)
def a1h (F:Ex->Pr) (L:List dY) (b2 n0 nu:Nat) (wl:World) (u i:Value) (wr:World):Prop:=∃(k:Nat) (vs:List pO) (ua:OA) (uc:Nat),i=.int .i64 k/\u=.slice ua k uc/\k<=nu/\wr.ownsRow wl.heap.size 69 6 (.slice ua k uc) k (vs.flatMap pO.cells)/\wY (mask wr (b2::rowOf (.slice ua k uc)++List.range n0)) ((L.take k).map (qF F)) vs/\Ext wl wr
theorem aPe (vs:List pO):∀u∈vs.flatMap pO.cells,u.oneCell'=true:=by
 intro u hu;obtain⟨v,_,hv⟩:=List.mem_flatMap.1 hu;simp only[pO.cells,bK,bQ,or_false] at hv;rcases hv with rfl|rfl|rfl|rfl|rfl|rfl<;>rfl
theorem alJ {s:List Attr} {l:List dY} {f:ZI} {lo:jH} {n:Nat} (L:List dY) (a:OA) (nl c:Nat) (w:World) (h:DIn w s l f lo n) (hl:eX w L a nl c) (hp:∀x∈L,PdR s l x) (hn:nl<=1000000) :
  Calls Tryz.prog 71 #[lo.val,.slice a nl c] w (aWd (L.map (qF (pf s l f))) w):=by
 have HR:=ak (fun (k:Nat) (hk:k<L.length) (v:jm) W (hW:Ext w W) (hv:kR w L[k] v)=>ar7 (h.ext hW) (hp _ (aI hk)) (hv.mono hW.sub));obtain⟨F,hF⟩:∃F,F=pf s l f:=⟨_,rfl⟩
 rw[<-hF] at HR ⊢;have HL:=ak hl;have HN:=ak hl.len;clear h hp hF hl;unfold jH.val at HR ⊢;obtain⟨b2,hb2⟩:∃b2,b2=w.heap.size:=⟨_,rfl⟩
 obtain⟨wa,dW⟩:∃wa,wa=w.alloc (.cells #[.slice lo.sa lo.sn lo.sc,.map (some lo.bm),.slice lo.fa lo.fn lo.fc] 74):=⟨_,rfl⟩
 have fE:=ak (show Ext w wa by rw[dW];exact(Ext.refl _).alloc _);have HA:=ak (show wa.heap[b2]?=some (.cells #[.slice lo.sa lo.sn lo.sc,.map (some lo.bm),.slice lo.fa lo.fn lo.fc] 74 (0,0)) by rw[dW,hb2];exact dG w _);have HS:=ak (show b2=w.heap.size/\b2<wa.heap.size from⟨hb2,by rw[dW,hb2];simp⟩);go_enter Tryz.func71,Tryz.ntmps71
 go_upto_region 1 with fail
 rw[<-dW,<-hb2];clear dW hb2;go_wp2_with fail
 go_loopw [5,10] (a1h F L b2 w.heap.size nl wa) (fun _ i _=>nl - (intOf i).toNat)
 case atStart=>exact⟨0,[],none,0,rfl,rfl,Nat.zero_le _,World.ownsRow_nil _ _ _ _,by simpa using wY.nil _,Ext.refl _⟩
 case round =>
  obtain⟨k,vs,ua,uc,rfl,rfl,hk,hown,hrs,hx⟩:=hrel;obtain⟨wo,rfl⟩:∃wo:World,wo=wr:=⟨_,rfl⟩
  have HOW:=ak hown;have Si:=ak hrs;have HX:=ak (fE.o.trans hx);have HXL:=ak hx;have HB:=ak (hx.blk HA.o);clear hown hrs hx;by_cases hkn:k<nl
  ·have hkl:k<L.length:=by have:=HN.o;omega
   have t1:=ah ((k:Int)<(nl:Int));obtain⟨cb,oZ,v,rfl,jr,hrow⟩:=HL.o.at hkl;obtain⟨c0,c1,c2,c3,c4,c5,c6,c7,c8,c9⟩:=(hrow.mono HX.o.sub).ten;have HRK:=ak (fun W (hW:Ext wo W)=>HR.o k hkl v W (HX.o.trans hW) jr);obtain⟨X,hX⟩:∃X,X=qF F L[k]:=⟨_,rfl⟩
   rw[<-hX] at HRK;have Iq:=ak (show (L.take (k+1)).map (qF F)=(L.take k).map (qF F)++[X] by rw[aU hkl,List.map_append,List.map_singleton,hX]);clear jr hrow hX;obtain⟨wb,hwb⟩:∃wb,wb=wo.alloc (.cells #[.int .i64 v.kind,.string v.name,.int .i64 v.x.op,.string v.x.name,.slice v.x.aw v.x.nw v.x.cw,.int .i64 v.x.lo,.int .i64 v.x.hi,.slice v.x.aa v.x.na v.x.ca,.slice v.au v.nu v.cu,.int .i64 v.amount] 48):=⟨_,rfl⟩
   have HXB:=ak (show Ext wo wb by rw[hwb];exact(Ext.refl _).alloc _);have hb:=(show wb.heap[wo.heap.size]?=some (.cells #[.int .i64 v.kind,.string v.name,.int .i64 v.x.op,.string v.x.name,.slice v.x.aw v.x.nw v.x.cw,.int .i64 v.x.lo,.int .i64 v.x.hi,.slice v.x.aa v.x.na v.x.ca,.slice v.au v.nu v.cu,.int .i64 v.amount] 48 (0,0)) by rw[hwb];exact dG wo _)
   have HRW:=ak (show ∀y∈rowOf (.slice ua k uc),wa.heap.size<=y/\y<wo.heap.size from fun y hy=>HOW.o.lt y (dK.1 hy));obtain⟨x0,x1,x2,xf⟩:=fZ (HXB.o.blk HB.o);obtain⟨f0,f1,f2,f3,f4,f5,f6,f7,f8,f9,ff⟩:=Aa hb;go_upto_region 5 with fail
   rw[<-hwb];clear hwb hb c0 c1 c2 c3 c4 c5 c6 c7 c8 c9;go_wp2_with fail
   refine(HRK.o wb HXB.o).mono ?_;rintro r w5 ⟨rv,rfl,hrv,hx5⟩;unfold pO.val;have jY:=ak (HXB.o.trans hx5);have a2x:=ak (eF HOW.o (jY.o.fH []) (by simp));have HRV:=ak (show yP (mask w5 (b2::rowOf (.slice ua k uc)++List.range w.heap.size)) X rv from hrv.mono (eG _ (fun y hy=>by
    have q2:=HS.o;have q3:=HXB.o.size;have q4:=HXL.o.size;rw[List.mem_range];simp only[List.cons_append,bK,aT,List.mem_range] at hy;rcases hy with rfl|hy|hy
    ·omega
    ·have:=(HRW.o y hy).2;omega
    omega)))
   have zN:=ak (show wa.heap.size<=w5.heap.size by have:=jY.o.size;have:=HXL.o.size;omega);clear hrv hx5 x0 x1 x2 xf f0 f1 f2 f3 f4 f5 f6 f7 f8 f9 ff HRK;go_wp2_with (at_builtin;refine fK X3 rfl _ _ rfl wa.heap.size _ k _ rfl a2x.o _ 1 1 rfl ?f0 rfl ?f1 ?f2 ?f3 ?f4 ?_)
   case f0=>simp
   case f1=>simp[Value.oneCell']
   case f2=>unfold maxLen;omega
   case f3=>omega
   case f4=>exact zN.o
   intro v8 w8 ig hc8 hw8;obtain⟨ga,gc,rfl⟩:=iG ig;have HKP:=ak (FP (bd:=b2) (M:=List.range w.heap.size) hc8 hw8);have HY:=ak (show w8.ownsRow wa.heap.size 69 6 (.slice ga (k+1) gc) (k+1) ((vs++[rv]).flatMap pO.cells)/\wY (mask w8 (b2::rowOf (.slice ga (k+1) gc)++List.range w.heap.size)) ((L.take k).map (qF F)++[X]) (vs++[rv]) from
    ⟨by simpa[pO.cells] using ig,wY.snoc ((Si.o.mono (fA (jY.o.fH []) (by simp))).mono HKP.o) (HRV.o.mono HKP.o)⟩)
   have xH:=ak (show Ext wa w8 from hc8.ext (HXL.o.trans jY.o) (fun y hy=>(HRW.o y hy).1));clear ig hc8 hw8;go_wp2_with fail
   go_roundw
   case rel=>exact⟨k+1,vs++[rv],ga,gc,by go_num,rfl,by omega,HY.o.1,by rw[Iq.o];exact HY.o.2,xH.o⟩
   case measure=>simp[intOf];omega
  have t1:=aj ((k:Int)<(nl:Int));go_wp2_with fail
  go_ret;have hkl:k=L.length:=by have:=HN.o;omega
  have hrs:=Si.o;rw[aY (by omega)] at hrs;refine⟨ua,uc,by rw[List.length_map,<-hkl];rfl,?_,HX.o⟩;rw[List.length_map,<-hkl];exact ZW HOW.o (by simp[hkl]) (fun q hq hm=>by have:=(HOW.o.lt q hq).1;have:=HS.o;rw[List.mem_range] at hm;omega) (hrs.mono (eG _ (fun y hy=>by simp only[List.cons_append,bK,aT];exact Or.inr (Or.inr hy))))
theorem asa {s:List Attr} {l:List dY} {f:ZI} {lo:jH} {n:Nat} (L:List dY) (a:OA) (nl c:Nat) (ap:Bool) (w:World) (h:DIn w s l f lo n) (hl:eX w L a nl c) (hp:∀x∈L,PdR s l x) (hn:nl<=1000000) :
  Calls Tryz.prog 69 #[lo.val,.slice a nl c,.bool ap] w (aYY (L.map (qF (pf s l f))) ap w):=by
 have HR:=ak (fun (k:Nat) (hk:k<L.length) (v:jm) W (hW:Ext w W) (hv:kR w L[k] v)=>ar7 (h.ext hW) (hp _ (aI hk)) (hv.mono hW.sub));obtain⟨F,hF⟩:∃F,F=pf s l f:=⟨_,rfl⟩
 rw[<-hF] at HR ⊢;have HL:=ak hl;have HN:=ak hl.len;clear h hp hF hl;unfold jH.val at HR ⊢;obtain⟨b2,hb2⟩:∃b2,b2=w.heap.size:=⟨_,rfl⟩
 obtain⟨wa,dW⟩:∃wa,wa=(w.alloc (.cells #[.slice lo.sa lo.sn lo.sc,.map (some lo.bm),.slice lo.fa lo.fn lo.fc] 74)).alloc (.cells #[.string ⟨#[]⟩,.bool false,.bool false,.int .i64 0,.slice none 0 0,.slice none 0 0] 69):=⟨_,rfl⟩
 have fE:=ak (show Ext w wa by rw[dW];exact((Ext.refl _).alloc _).alloc _);have HA:=ak (show wa.heap[b2]?=some (.cells #[.slice lo.sa lo.sn lo.sc,.map (some lo.bm),.slice lo.fa lo.fn lo.fc] 74 (0,0)) by rw[dW,hb2];exact dJ (dG w _));have HA4:=ak (show wa.heap[b2+1]?=some (.cells #[.string ⟨#[]⟩,.bool false,.bool false,.int .i64 0,.slice none 0 0,.slice none 0 0] 69 (0,0)) by rw[dW,hb2];exact eH (by simp));have HS:=ak (show b2=w.heap.size/\b2+1<wa.heap.size from⟨hb2,by rw[dW,hb2];simp⟩);go_enter Tryz.func69,Tryz.ntmps69
 go_upto_region 1 with fail
 rw[<-dW,<-hb2];clear dW hb2;go_wp2_with fail
 go_loopw [13] (fun i wr=>∃k:Nat,i=.int .i64 k/\k<=nl/\(∀r∈(L.take k).map (qF F),(r.applies==ap)=false)/\Ext wa wr) (fun i _=>nl - (intOf i).toNat)
 case atStart=>exact⟨0,rfl,Nat.zero_le _,by simp,Ext.refl _⟩
 case round =>
  obtain⟨k,rfl,hk,hno,hx⟩:=hrel;obtain⟨wo,rfl⟩:∃wo:World,wo=wr:=⟨_,rfl⟩
  have lZ:=ak hno;have HX:=ak (fE.o.trans hx);have HXL:=ak hx;have HB:=ak (hx.blk HA.o);have HB4:=ak (hx.blk HA4.o);clear hno hx;by_cases hkn:k<nl
  ·have hkl:k<L.length:=by have:=HN.o;omega
   have t1:=ah ((k:Int)<(nl:Int));obtain⟨cb,oZ,v,rfl,jr,hrow⟩:=HL.o.at hkl;obtain⟨c0,c1,c2,c3,c4,c5,c6,c7,c8,c9⟩:=(hrow.mono HX.o.sub).ten;have HRK:=ak (fun W (hW:Ext wo W)=>HR.o k hkl v W (HX.o.trans hW) jr);obtain⟨X,hX⟩:∃X,X=qF F L[k]:=⟨_,rfl⟩
   rw[<-hX] at HRK;have Iq:=ak (show (L.take (k+1)).map (qF F)=(L.take k).map (qF F)++[X] by rw[aU hkl,List.map_append,List.map_singleton,hX]);have HTX:=ak (show (L.map (qF F))=(L.take k).map (qF F)++X::(L.drop (k+1)).map (qF F) by
    rw[hX,<-List.map_cons,<-List.drop_eq_getElem_cons hkl,<-List.map_append,List.take_append_drop])
   clear jr hrow hX;obtain⟨wb,hwb⟩:∃wb,wb=wo.alloc (.cells #[.int .i64 v.kind,.string v.name,.int .i64 v.x.op,.string v.x.name,.slice v.x.aw v.x.nw v.x.cw,.int .i64 v.x.lo,.int .i64 v.x.hi,.slice v.x.aa v.x.na v.x.ca,.slice v.au v.nu v.cu,.int .i64 v.amount] 48):=⟨_,rfl⟩
   have HXB:=ak (show Ext wo wb by rw[hwb];exact(Ext.refl _).alloc _);have hb:=(show wb.heap[wo.heap.size]?=some (.cells #[.int .i64 v.kind,.string v.name,.int .i64 v.x.op,.string v.x.name,.slice v.x.aw v.x.nw v.x.cw,.int .i64 v.x.lo,.int .i64 v.x.hi,.slice v.x.aa v.x.na v.x.ca,.slice v.au v.nu v.cu,.int .i64 v.amount] 48 (0,0)) by rw[hwb];exact dG wo _)
   go_upto_region 4 with fail
   rw[<-hwb];clear hwb c0 c1 c2 c3 c4 c5 c6 c7 c8 c9;obtain⟨x0,x1,x2,xf⟩:=fZ (HXB.o.blk HB.o);obtain⟨f0,f1,f2,f3,f4,f5,f6,f7,f8,f9,ff⟩:=Aa hb;go_wp2_with fail
   refine(HRK.o wb HXB.o).mono ?_;rintro r w5 ⟨⟨vn,Q,qv,va,vm,vc⟩,rfl,hrv,hx5⟩;unfold pO.val;clear x0 x1 x2 xf f0 f1 f2 f3 f4 f5 f6 f7 f8 f9 ff HRK hb;go_upto_region 5 with fail
   obtain⟨b9,I7⟩:∃b9,b9=w5.heap.size:=⟨_,rfl⟩
   obtain⟨w7,hw7⟩:∃w7,w7=w5.alloc (.cells #[.string vn,.bool Q,.bool qv.value,.int .i64 qv.pick,.slice qv.a qv.n qv.c,.slice va vm vc] 69):=⟨_,rfl⟩
   have hx7:Ext w5 w7:=by rw[hw7];exact(Ext.refl _).alloc _
   have kC:=ak ((HXB.o.trans hx5).trans hx7);have HB9:=ak (show w7.heap[b9]?=some (.cells #[.string vn,.bool Q,.bool qv.value,.int .i64 qv.pick,.slice qv.a qv.n qv.c,.slice va vm vc] 69 (0,0)) by rw[hw7,I7];exact dG w5 _);have HV:=ak (show yP (mask w7 (List.range wa.heap.size)) X ⟨vn,Q,qv,va,vm,vc⟩ from(hrv.mono (fA (hx7.fH []) (by simp))).mono (eG _ (fun y hy=>by
    have h1:=HXL.o.size;have h2:=HXB.o.size;rw[List.mem_range] at hy ⊢;omega)))
   have HQ:=ak (show Q=X.applies from hrv.app);rw[<-hw7,<-I7];clear hw7 I7 hrv hx5 hx7 HXB;obtain⟨s0,s1,s2,s3,s4,s5,sf⟩:=gJ HB9.o;by_cases hQ:Q=ap
   ·have tq:(Q==ap)=true:=by simp[hQ]
    have HF:=ak (TF (v:=⟨vn,Q,qv,va,vm,vc⟩) (K:=List.range wa.heap.size) (kC.o.blk HB4.o) (HX.o.trans kC.o) (by have:=HS.o;omega) (by have:=HS.o;simp;omega) (by have:=HS.o;simp;omega) HV.o);have HFD:=ak (show (L.map (qF F)).find? (fun r=>r.applies==ap)=some X by
     rw[HTX.o,List.find?_append,List.find?_eq_none.2 (fun y hy=>by rw[lZ.o y hy];simp)];simp[<-HQ.o,hQ])
    obtain⟨q0,q1,q2,q3,q4,q5,qf⟩:=gJ (kC.o.blk HB4.o);clear hQ;go_wp2_with fail
    obtain⟨wz,hwz⟩:∃wz,wz=jE w7 (b2+1) (.string vn) (.bool Q) (.bool qv.value) (.int .i64 qv.pick) (.slice qv.a qv.n qv.c) (.slice va vm vc):=⟨_,rfl⟩
    rw[<-hwz] at HF;unfold jE at hwz;rw[<-hwz];clear hwz q0 q1 q2 q3 q4 q5 qf;obtain⟨q0,q1,q2,q3,q4,q5,qf⟩:=gJ HF.o.1;refine bodyPost_ret (v:=.tuple #[.agg #[.string vn,.bool Q,.bool qv.value,.int .i64 qv.pick,.slice qv.a qv.n qv.c,.slice va vm vc],.bool true]) (by simp[results,Tryz.results69,go_sem,q0,q1,q2,q3,q4,q5]) rfl ?_;exact⟨HF.o.2.2,Or.inr ⟨X,⟨vn,Q,qv,va,vm,vc⟩,HFD.o,rfl,HF.o.2.1⟩⟩
   have tq:(Q==ap)=false:=by simp[hQ]
   have HQF:=ak hQ;clear hQ;go_wp2_with fail
   go_roundw
   case rel=>exact⟨k+1,by go_num,by omega,fun r hr=>by
    rw[Iq.o] at hr;rcases aT.1 hr with h|h
    ·exact lZ.o r h
    rw[aK.1 h,<-HQ.o];simp[HQF.o],HXL.o.trans kC.o⟩
   case measure=>simp[intOf];omega
  have t1:=aj ((k:Int)<(nl:Int));have hFD:(L.map (qF F)).find? (fun r=>r.applies==ap)=none:=by
   rw[List.find?_eq_none];have hno:=lZ.o;rw[aY (by have:=HN.o;omega)] at hno;exact fun y hy=>by rw[hno y hy];simp
  have HFD:=ak hFD;obtain⟨q0,q1,q2,q3,q4,q5,qf⟩:=gJ HB4.o;clear hFD;go_wp2_with fail
  obtain⟨wz,hwz⟩:∃wz,wz=jE wo (b2+1) (.string ⟨#[]⟩) (.bool false) (.bool false) (.int .i64 0) (.slice none 0 0) (.slice none 0 0):=⟨_,rfl⟩
  have HZ:=ak (show wz.heap[b2+1]?=some (.cells #[.string ⟨#[]⟩,.bool false,.bool false,.int .i64 0,.slice none 0 0,.slice none 0 0] 69 (0,0))/\Ext w wz by rw[hwz];exact⟨jv HB4.o,(iY wo (b2+1)).ext HX.o (fun y hy=>by rw[aK.1 hy];have:=HS.o;omega)⟩);unfold jE at hwz;rw[<-hwz];clear hwz q0 q1 q2 q3 q4 q5 qf;obtain⟨q0,q1,q2,q3,q4,q5,qf⟩:=gJ HZ.o.1;refine bodyPost_ret (v:=.tuple #[.agg #[.string ⟨#[]⟩,.bool false,.bool false,.int .i64 0,.slice none 0 0,.slice none 0 0],.bool false]) (by simp[results,Tryz.results69,go_sem,q0,q1,q2,q3,q4,q5]) rfl ?_;exact⟨HZ.o.2,Or.inl ⟨HFD.o,rfl⟩⟩
theorem sG {t e:TypeId} {z:Value} {size bytes:Nat} (E:zh t e z size bytes) {ρ:Operand->Value} {W:World} {T:Value->World->Prop} {dst:Option Tmp} {ty:TypeId} {pos:String} {after:Array Edge} {guard:Option (Nat×Bool)}
  (s x:Operand) (base:Nat) (v:Value) (n:Nat) (xs:List Value) (hs:ρ s=v) (B off m c:Nat) (news:List Value) (hx:ρ x=.slice (some ⟨B,off,none⟩) m c) (hl:news.length=m*size) (h1:∀u∈news,u.oneCell'=true) (hm:0<m) (hn:n+m<=100000000) (hb:bytes<=1000)
  (hown:W.ownsRow base e size v n xs) (hnews:∀j (h:j<news.length),W.cell? ⟨B,off+j,none⟩=some news[j]) (hbase:base<=W.heap.size)
  (h:∀g cap w',w'.ownsRow base e size (.slice (some ⟨g,0,none⟩) (n+m) cap) (n+m) (xs++news)->W.grownBy w' v.ownBlock->(v.ownBlock=some g\/g=W.heap.size)->g<w'.heap.size->T (.slice (some ⟨g,0,none⟩) (n+m) cap) w') :
  dF Tryz.prog { dst:=dst,op:=.call { callee:=.builtin .append,args:=#[s,x],argTypes:=#[t,t] },type:=ty,pos:=pos,after:=after,guard:=guard } ρ W T:=by
 obtain⟨i,hi,hz,hsz,hby⟩:=info_parts E.info;obtain⟨g,cap,w',hrun,h2,h3,h4,h5⟩:=run_append_lies (P:=Tryz.prog) W t ty base e i z size bytes E.ht hi hz hsz hby E.hzs E.hsz v n xs hown ⟨B,off,none⟩ m c news hl (by
   intro j u hu;obtain⟨hj,rfl⟩:=List.getElem?_eq_some_iff.1 hu;have:(⟨B,off,none⟩:Addr).add j=⟨B,off+j,none⟩:=by unfold Addr.add;split<;>simp_all
   rw[this];exact hnews j hj) h1 hm (by simp only[maxLen];omega) (by
   calc (n+m)*bytes<=100000000*1000:=Nat.mul_le_mul hn hb
    _<=140737488355328:=by omega) hbase _ rfl
 unfold dF;have he:execOp ρ { dst:=dst,op:=.call { callee:=.builtin .append,args:=#[s,x],argTypes:=#[t,t] },type:=ty,pos:=pos,after:=after,guard:=guard }=(do pure (.value (<-Builtin.append_ #[t,t] ty #[v,.slice (some ⟨B,off,none⟩) m c]))):=by
  rw[<-hs,<-hx,BigFrame.execOp_builtin,BigFrame.builtin_append];simp
 rw[he];simp only[Sem.run_bind,hrun];exact h g cap w' h2 h3 h4 h5
end Go.Proofs.YtefjomofjejklaaGreatDoor
