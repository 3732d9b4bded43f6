/- Joined. -/
import Derived.Test.YtefjomofjejklaaGreatDoorDs14
namespace Go.Proofs.YtefjomofjejklaaGreatDoor
set_option maxRecDepth 100000
set_option maxHeartbeats 32000000
theorem Used.atp {l:List cK} {e:Ex} {u:List cK} (h:Used l e u) (hx:dV l e<=2000):vZ (u.map cK.tV):=by
 have hmax:∀k,∀o,RH (u.map cK.tV) o->lY (u.map cK.tV) - o.length<=k->∃o,RH (u.map cK.tV) o/\∀i,iD (u.map cK.tV) i=true->i∉o->mY (u.map cK.tV) o i≠[]:=by
  intro k;induction k with
  | zero =>
   intro o ho hk;refine⟨o,ho,fun i hd hi=>?_⟩;have:=ho.lt hd hi;omega
  | succ k ih =>
   intro o ho hk;by_cases hs:∀i,iD (u.map cK.tV) i=true->i∉o->mY (u.map cK.tV) o i≠[]
   ·exact⟨o,ho,hs⟩
   obtain⟨i,hd,hi,hm⟩:∃i,iD (u.map cK.tV) i=true/\i∉o/\mY (u.map cK.tV) o i=[]:=by
    refine Classical.byContradiction fun hn=>hs fun i h1 h2 h3=>hn ⟨i,h1,h2,h3⟩
   refine ih (o++[i]) (ho.snoc hd hi hm) ?_;have:=ho.lt hd hi;simp only[bg,List.length_singleton];omega
 obtain⟨o,ho,hs⟩:=hmax _ [] (RH.start _) (aU _);refine⟨o,ho.done fun i hd=>Classical.byContradiction fun hi=>?_⟩;have adI:∀f i,(hi:i<u.length)->i∉o->jT u f u[i].cond=2001:=by
  intro f;induction f with
  | zero=>intro i _ _;rfl
  | succ f ih =>
   intro i hi hio;have GL:iD (u.map cK.tV) i=true:=by rw[sY hi,(h.defs _ (aD hi)).1];rfl
   obtain⟨s,hs⟩:=List.exists_mem_of_ne_nil _ (hs i GL hio);obtain⟨h1,d,h2,h3⟩:=yh.1 hs;rw[xm hi,sx] at h1;rw[rA] at h2;have hdl:=ot h2;refine ad9 h1 h2 ?_;rw[fJ hdl];exact ih d hdl h3
 have hil:i<u.length:=by simpa using mz hd
 obtain⟨_,d,h1,h2,h3⟩:=h.defs _ (aD hil);have:=h3.large (fun f=>by
  rw[<-h2,<-h.same f u[i].cond (h.closed _ (aD hil))];exact adI f i hil hi) (l.length+1)
 unfold dV at hx;omega
theorem Used.size {l:List cK} {e:Ex} {u:List cK} (h:Used l e u) (hs:vZ (u.map cK.tV)) {x:Ex} (hx:∀s∈fX x,∀d,Proofs.YtefjomofjejklaaGreatDoor.dz l s=some d->s∈u.map (·.name)):dV u x=dV l x:=by
 obtain⟨o,ht⟩:=hs;unfold dV;rw[<-h.same (l.length+1) x hx,jT,jT];refine tN _ fun s hs=>?_
 cases hd:Proofs.YtefjomofjejklaaGreatDoor.dz u s with
 | none=>rfl
 | some i =>
  have hi:=ot hd;have hio:i∈o:=(ht.all i).2 (by rw[sY hi,(h.defs _ (aD hi)).1];rfl);obtain⟨q,hq⟩:=List.mem_iff_getElem?.1 hio;have hql:q<o.length:=(List.getElem?_eq_some_iff.1 hq).1;have h1:=ht.len;have h2:=h.len;simp only[List.length_map] at h1;simp only[Option.map_some,a42];exact Mh ht q i hq _ _ (by omega) (by omega)
theorem Used.jN {l:List cK} {e:Ex} {u:List cK} (h:Used l e u) (s:List Attr) (f:ZI):∀k x,(∀t∈fX x,∀d,Proofs.YtefjomofjejklaaGreatDoor.dz l t=some d->t∈u.map (·.name))->Proofs.YtefjomofjejklaaGreatDoor.jN s u f k x=Proofs.YtefjomofjejklaaGreatDoor.jN s l f k x:=by
 intro k;induction k with
 | zero=>intro x _;rfl
 | succ k ih =>
  intro x hx;rw[Proofs.YtefjomofjejklaaGreatDoor.jN,Proofs.YtefjomofjejklaaGreatDoor.jN];refine JK _ fun t ht=>?_
  cases hd:Proofs.YtefjomofjejklaaGreatDoor.dz l t with
  | none=>rw[h.only hd];rfl
  | some d =>
   obtain⟨i,d',hi,h1,h2,h3⟩:=h.at (hx t ht d hd);rw[hd] at h2;cases h2
   rw[h1];simp only[Option.map_some,h3,a42];refine ih _ fun t2 ht2 d2 qd=>?_
   rw[<-h3,fJ hi] at ht2;exact h.closed _ (aD hi) t2 ht2 d2 qd
theorem Used.nodes {l:List cK} {e:Ex} {u:List cK} (h:Used l e u) (s:List Attr):(x:Ex)->(∀t∈fX x,∀d,Proofs.YtefjomofjejklaaGreatDoor.dz l t=some d->t∈u.map (·.name))->dr s u x=dr s l x
 | .mk op name words lo hi args,hx=>by
  have hn:fB s u op name words lo hi=fB s l op name words lo hi:=by
   unfold fB;by_cases h3:op=3
   ·rw[bM h3,bM h3];cases eO s name with
    | some i=>rfl
    | none =>
     cases hd:Proofs.YtefjomofjejklaaGreatDoor.dz l name with
     | none=>rw[h.only hd]
     | some d =>
      obtain⟨i,_,_,h1,_⟩:=h.at (hx name (by rw[fX,h3];simp) d hd);rw[h1]
      rfl
   rw[bL h3,bL h3]
  rw[dr,dr,hn,Kf args fun t ht=>hx t (by rw[fX];exact aL _ ht)]
where
 Kf:(r:List Ex)->(∀t∈iH r,∀d,Proofs.YtefjomofjejklaaGreatDoor.dz l t=some d->t∈u.map (·.name))->dZ s u r=dZ s l r
  | [],_=>by rw[dZ,dZ]
  | x::r,hx=>by
   rw[dZ,dZ,Used.nodes h s x fun t ht=>hx t (by rw[iH];exact aK _ ht),Kf r fun t ht=>hx t (by rw[iH];exact aL _ ht)]
theorem Vg {s:List Attr} {l:List cK} (h:(cV s l).2=0):∀c∈l,gQ c=true:=by
 have hc:=lK h;unfold cV at h;rw[bL (by simp[hc.x7]),bL (by have:=hc.len;omega)] at h;by_cases h3:(kZ (jE s l) l.length).2≠0
 ·rw[bM h3] at h;exact a40 h h3
 have h1:=kO l.length (by simpa using h3);intro c hc;obtain⟨i,hi,rfl⟩:=bA hc;have g:=h1 i hi;unfold jE at g;rw[ry hi] at g;by_cases q1:gQ l[i]=false
 ·rw[bM q1] at g;cases g
 simpa using q1
def Ee (l:List cK) (e:Ex) (u:List cK):Prop:=Used l e u/\∀c∈u,c∈l
theorem Ee.err {s:List Attr} {l:List cK} {e:Ex} {u:List cK} (h:Ee l e u) (hc:(cV s l).2=0) (hx:dV l e<=2000):(cV s u).2=0:=by
 obtain⟨hu,hm⟩:=h;have hck:=lK hc;have Yu:=hu.atp hx;have hlen:u.length<=l.length:=hu.len
 have hdf:∀c∈u,gQ c=true/\eO s c.name=none/\dr s l c.cond=0/\c.gH=[]/\dV l c.cond<=2000:=by
  intro c hcu;obtain⟨q1,q2,q3,q4,q5⟩:=hck.good c (hm c hcu);have hcb:=(Vg hc) c (hm c hcu);have hk:=(hu.defs c hcu).1;refine⟨hcb,q5,q2,?_,hck.exp c (hm c hcu)⟩;simp only[gQ,aF,bG,aH,a47] at hcb;obtain⟨⟨_,a5⟩,_⟩:=hcb;rcases a5 with a5|⟨⟨b1,_⟩,_⟩
  ·exact aR a5
  omega
 have hz:∀i,i<u.length->jE s u i=0:=by
  intro i hi;have hcu:=aD hi;obtain⟨q1,q2,q3,q4,q5⟩:=hdf _ hcu;unfold jE;rw[fJ hi];rw[bL (by simp[q1]),bL ?_,bL (by simp[q2]),bL ?_,q4]
  ·rw[fG]
  ·rw[hu.nodes s u[i].cond (hu.closed _ hcu),q3];simp
  have:findAt u u[i].name=some i:=by
   unfold findAt;rw[aJ];refine⟨hi,by simp,fun j hj=>?_⟩;have:=(List.pairwise_iff_getElem.1 hu.names) j i (by simp;omega) (by simpa using hi) hj;simpa using this
  rw[this];simp
 have hg:∀i,i<u.length->jQ u i=0:=by
  intro i hi;have hcu:=aD hi;obtain⟨_,_,_,q4,q5⟩:=hdf _ hcu;unfold jQ;rw[fJ hi,q4,hu.size Yu (hu.closed _ hcu),bL];rw[eH];simp;omega
 unfold cV;rw[bL (by simp[hck.x7]),bL (by have:=hck.len;omega),kz _ hz];rw[bL (by simp),bL (by simp[Yu]),kz _ hg]
theorem Ee.eval {s:List Attr} {l:List cK} {e:Ex} {u:List cK} {f:ZI} (h:Ee l e u) (hc:(cV s l).2=0) (hr:eW e=true) (hn:dr s l e=0) (hx:dV l e<=2000) (hf:jU s f=true):jM s u e f=0/\val s u f e=val s l f e:=by
 have h1:=h.err hc hx;obtain⟨hu,hm⟩:=h;have Yu:=hu.atp hx;have hsz:=hu.size Yu hu.top;have hck:=lK hc;refine⟨?_,?_⟩
 ·unfold jM;rw[bL (by simp[h1]),bL ?_,bL (by omega),bL (by simp[hf])];unfold qu;rw[bL (by simp[hck.x7]),zV,bL (by simp[hr]),hu.nodes s e hu.top,hn];simp
 unfold val;have hle:=hu.len;rw[Sv s u f (u.length+1) (l.length+1) e (by unfold dV at hsz hx;omega) (by omega),hu.jN s f (l.length+1) e hu.top]
open Go.RowKit Go.Maps
theorem atn:Tryz.prog.underlying 186=some (.map 9 4):=by kernel_rfl
theorem aBb (w:World):(zeroValue 4).run Tryz.prog w=.ok (.bool false) w:=by kernel_rfl
theorem QV (w:World) {ops:Array Oper} {rest:List Oper} {o:Oper} {a:Act} {Q:Exit->Act->World->Prop} (hw:Region.wanted o (yielded ops a.tmps)=true) (m x:Operand) (t:TypeId) (hop:o.op=Op.lookup t m x false) (k e:TypeId) (K:Keyed Tryz.prog k) (ht:Tryz.prog.underlying t=some (.map k e)) {z:Value} (hz:(zeroValue e).run Tryz.prog w=.ok z w) (b n:Nat) (f:Lit->Option Value)
  (hm:a.eval m=.map (some b)) (hmap:ig w k b n f) (key:Value) (kl:Lit) (hx:a.eval x=key) (hkey:keyOf Tryz.prog k key=some kl) (fq:WideAt.IsKeyLit kl)
  (hK:wpList Tryz.prog ops Q rest (a.put o.dst ((f kl).getD z)) w):wpList Tryz.prog ops Q (o::rest) a w:=by
 obtain⟨D,hown,hf⟩:=hmap;refine wpList_step fun K' hK'=>?_
 rw[bM hw];obtain⟨v,ps,hrun,hv⟩:=hown.lookup K ht hz (zd:=.held z) (zp:=[]) rfl hkey;have e1:DataW.held v=D.atKey kl (.held z):=by
  simp only[Oh,a42,Prod.mk.injEq] at hv;exact hv.1
 rw[<-hf.at fq e1] at hK;unfold Oper.wp;simp[execOp,hop,hm,hx,hrun,Result.andThen];exact hK' _ _ hK
open Classical in
noncomputable def memT (M:BA->Prop):BA->Option Value:=fun s=>if M s then some (.bool true) else none
theorem ayU (m:BA->Prop) (x:BA) (y:Lit):Rw (kV (memT m)) (.string x.data.toList) (some (.bool true)) y=kV (memT fun z=>z=x\/m z) y:=by
 rw[Dm]
 congr 1
 funext z
 by_cases h:z=x
 ·subst h;rw[xY];simp[memT]
 rw[sR _ _ h];by_cases hm:m z<;>simp[memT,h,hm]
structure UsS (w:World) (lo:fT) (lv:Value) (u:List cK) (vs:List fM) (wr:World):Prop where
 ext:Ext w wr
 OV:vG w u vs
 own:wr.ownsRow (w.heap.size+5) 48 10 lv u.length (vs.flatMap fM.cells)
 seen:ig wr 9 (w.heap.size+3) u.length (kV (memT fun s=>s∈ye u))
 bx:wr.heap[w.heap.size]?=some (.cells #[.slice lo.sa lo.sn lo.sc,.map (some lo.bm),.slice lo.fa lo.fn lo.fc] 74 (0,0))
 bl:wr.heap[w.heap.size+2]?=some (.cells #[lv] 25 (0,0))
 bq:wr.heap[w.heap.size+4]?=some (.cells #[.map (some (w.heap.size+3))] 186 (0,0))
theorem UsS.Ot {w:World} {lo:fT} {lv:Value} {u:List cK} {vs:List fM} {wr wr':World} (h:UsS w lo lv u vs wr) (hx:Ext wr wr'):UsS w lo lv u vs wr' :=
 ⟨h.ext.trans hx,h.OV,cO h.own (hx.cR []) (by simp),h.seen.ext hx,hx.blk h.bx,hx.blk h.bl,hx.blk h.bq⟩
theorem UsS.step {w W w3 w8:World} {lo:fT} {lv lv':Value} {u:List cK} {vs:List fM} (h:UsS w lo lv u vs W) {c:cK} {cv:fM} (hcv:ij w c cv)
  (hm:ig w3 9 (w.heap.size+3) (u.length+1) (Rw (kV (memT fun s=>s∈ye u)) (.string c.name.data.toList) (some (.bool true)))) (hc3:ct [w.heap.size+3] W w3)
  (ho8:w8.ownsRow (w.heap.size+5) 48 10 lv' (u.length+1) (vs.flatMap fM.cells++cv.cells)) (iI:ct (rowOf lv) w3 w8) :
  UsS w lo lv' (u++[c]) (vs++[cv]) (w8.setCell ⟨w.heap.size+2,0,none⟩ lv')/\(∀q,q<w.heap.size->True):=by
 have vH:ct [w.heap.size+2] w8 (w8.setCell ⟨w.heap.size+2,0,none⟩ lv'):=(ct.refl _ _).setCell (aoX (by simp)) _;have hr:∀q∈rowOf lv,w.heap.size+5<=q:=fun q hq=>(h.own.lt q (bV.1 hq)).1
 have hr':∀q,lv'.ownBlock=some q->w.heap.size+5<=q:=fun q hq=>(ho8.lt q hq).1
 refine⟨{
  ext:=vH.ext (iI.ext (hc3.ext h.ext (by simp)) fun q hq=>by have:=hr q hq;omega) (by simp)
  OV:=h.OV.snoc hcv
  own:=by
   have:=cO ho8 vH fun q hq hm=>by
    have:=hr' q hq;simp only[aG] at hm;omega
   simpa using this
  seen:=by
   have:=((hm.cR iI fun hm=>by have:=hr _ hm;omega).cR vH (by simp)).congr (ayU _ c.name);refine(show (u++[c]).length=u.length+1 by simp) ▸ this.congr fun y=>?_
   congr 2
   funext z
   rw[Kg];simp[or_comm]
  bx:=vH.blk (iI.blk (hc3.blk h.bx (by simp)) fun hm=>by have:=hr _ hm;omega) (by simp)
  bl:=aI w8 _ 0 _ _ lv' (iI.blk (hc3.blk h.bl (by simp)) fun hm=>by have:=hr _ hm;omega)
  bq:=vH.blk (iI.blk (hc3.blk h.bq (by simp)) fun hm=>by have:=hr _ hm;omega) (by simp) },fun _ _=>trivial⟩
theorem RPi.first {l:List cK} (e:Ex) (ns:ZB):RPi l e [] [] e ns 0:=⟨by simp,by simp[ye],a4Z (aoX rfl),by simp,by simp,aoX rfl,fun i _ h=>by omega,by simp⟩
theorem RP.aVV {l:List cK} {e:Ex} {u:List cK} {xs:List Ex} {x:Ex} (h:RP l e u (x::xs)) (ns:ZB):RPi l e u xs x ns 0:=by
 refine⟨h.defs,h.names,?_,fun c hc=>?_,fun y hy=>h.stack y (by simp[hy]),h.stack x (by simp),fun i _ h=>by omega,by have:=h.SH;simpa using this⟩
 ·rcases h.top with h1|h1
  ·rcases bz.1 h1 with h2|h2
   ·exact a4Z (aoX h2)
   exact aoX h2
  exact a4Z (a4Z h1)
 rcases h.closed c hc with h1|h1
 ·rcases bz.1 h1 with h2|h2
  ·exact a4Z (aoX h2)
  exact aoX h2
 exact a4Z (a4Z h1)
def aVl (w:World) (lo:fT) (l:List cK) (e:Ex) (u:List cK) (xs:List Ex) (r:Ending) (w':World):Prop:=r=.returned (.tuple #[])/\∃t lv' vs',UsS w lo lv' (u++t) vs' w'/\RP l e (u++t) (xs++t.map (·.cond))/\∀c∈t,c∈l
theorem aoV (l:List cK) (e x:Ex) (ev:Value) (lo:fT) (n:Nat) (w W:World) (g:BA->Option Value) (lv:Value) (u:List cK) (vs:List fM) (xs:List Ex) (hmp:ig w 9 lo.bm n (kV g)) (hdg:Im w l g) (hl:l.length<=100000) (hx:dw W x ev) (hxs:x.size<=100000/\x.fits) (hus:UsS w lo lv u vs W) (hrp:RPi l e u xs x (jB (fX x)) 0) :
  Calls Tryz.prog 117 #[ev,.pointer (some ⟨w.heap.size,0,none⟩),.pointer (some ⟨w.heap.size+4,0,none⟩),.pointer (some ⟨w.heap.size+2,0,none⟩)] W (aVl w lo l e u xs):=by
 obtain⟨aw,nw,cw,aa,na,ca,rfl,-⟩:=hx.parts;have En:=ai hmp;have HDG:=ai hdg;have HE:=ai hx;have HUS:=ai hus;have HRP:=ai hrp;have Jm:=ai hxs;clear hmp hdg hx hus hrp hxs;unfold fN;obtain⟨wa,cN⟩:∃wa,wa=W.alloc (.cells #[ x.op,.string x.name,.slice aw nw cw,x.lo,x.hi,.slice aa na ca] 45):=⟨_,rfl⟩
 have gB:Ext W wa:=by rw[cN];exact(Tz _).alloc _
 obtain⟨f0,f1,f2,f3,f4,f5,ff⟩:=cX (show wa.heap[W.heap.size]?=some (.cells #[ x.op,.string x.name,.slice aw nw cw,x.lo,x.hi,.slice aa na ca] 45 (0,0)) by rw[cN];exact bR W _);have HUA:=ai (HUS.o.Ot gB);have HEA:=ai (HE.o.ext gB);clear gB HUS HE;go_enter Tryz.func117,Tryz.ntmps117
 go_upto_region 1 with fail;rw[<-cN];clear cN;go_wp2_with fail;refine(BD x _ wa (by have:=Jm.o.1;omega) Jm.o.2 HEA.o).mono ?_;obtain⟨ns,zP⟩:∃ns,ns=jB (fX x):=⟨_,rfl⟩
 have AQ:=ai (show ∀s,s∈ns ↔ s∈fX x by intro s;rw[zP,sx]);rw[<-zP] at HRP ⊢;have G7:=ai (show ∀s∈ns,s.size<=1000000000000000 from fun s hs=>UI x Jm.o.2 s ((AQ.o s).1 hs));have hnl:ns.length<=100000:=by rw[zP];exact aV (FY _) (aV (zM _) Jm.o.1)
 clear zP;rintro r w5 ⟨sa,sc,rfl,hst,dh,hfr⟩;have HST:=ai hst;have HU5:=ai (HUA.o.Ot dh);have HFR:=ai (show ∀b off,sa=some ⟨b,off,none⟩->b≠w.heap.size+3/\b≠w.heap.size+2/\some b≠lv.ownBlock from fun b' off' e'=>by
  have h1:=hfr b' off' e';have h2:=bS HUA.o.bq;refine⟨by omega,by omega,fun e2=>?_⟩;have:=(HUA.o.own.lt b' e2.symm).2;omega)
 clear hst dh hfr f0 f1 f2 f3 f4 f5 ff HUA;go_wp2_with fail;go_loopw [12] (fun i wr=>∃t lv' vs' j,i=.int .i64 (j:Nat)/\j<=ns.length/\UsS w lo lv' (u++t) vs' wr/\RPi l e (u++t) (xs++t.map (·.cond)) x ns j/\(∀c∈t,c∈l)/\fS wr ns sa ns.length sc/\(∀b off,sa=some ⟨b,off,none⟩->b≠w.heap.size+3/\b≠w.heap.size+2/\some b≠lv'.ownBlock)) (fun i _=>ns.length - (intOf i).toNat)
 case atStart=>exact⟨[],lv,vs,0,rfl,by omega,by simpa using HU5.o,by simpa using HRP.o,by simp,HST.o,HFR.o⟩
 case round =>
  obtain⟨t,lv2,vs2,j,rfl,hj,hu2,hp2,htl,aC',hfr2⟩:=hrel;obtain⟨la2,lc2,aL2⟩:=lF hu2.own;subst aL2;have jI:=ai hu2;have oZ:=ai hp2;have HTL:=ai htl;have oB:=ai aC';have Ez:=ai hfr2;have hul:=Ow hp2.defs hp2.names;clear hu2 hp2 htl aC' hfr2 HU5 HRP HST HFR;obtain⟨u2,hu2⟩:∃u2,u2=u++t:=⟨_,rfl⟩
  rw[<-hu2] at jI oZ hul Ez;have HU2:=ai hu2;clear hu2;by_cases hjl:j<ns.length
  ·have tj:=ag ((j:Int)<(ns.length:Int));obtain⟨bn,ayN,rfl,cn0⟩:=oB.o.2.2.2 j hjl;have uM:=G7.o _ (aD hjl);obtain⟨x0,x1,x2,xf⟩:=dM jI.o.bx;obtain⟨q0,qf⟩:=dO jI.o.bq;obtain⟨l0,lf⟩:=dO jI.o.bl;cases hda:dz l ns[j] with
   | none =>
    have HF:=ai (show kV g (.string ns[j].data.toList)=none by rw[oQ];exact(HDG.o _).1 hda);have Na:=ai (oZ.o.skip hjl (aoX hda));clear hda;go_wp2_with (at_lookup;refine gO _ rfl _ _ 72 rfl 9 48 gU atm (aBa _) lo.bm n _ rfl (En.o.ext jI.o.ext) _ _ rfl (lB uM) trivial ?_;rw[HF.o]);go_roundw
    case rel=>exact⟨t,_,vs2,j+1,by go_num,by omega,HU2.o ▸ jI.o.Ot ((Tz wr).alloc _),HU2.o ▸ Na.o,HTL.o,oB.o.ext ((Tz wr).alloc _),Ez.o⟩
    case measure=>simp[intOf];omega
   | some d =>
    obtain⟨v,hu,hux⟩:=(HDG.o ns[j]).2 d hda;have HF:=ai (show kV g (.string ns[j].data.toList)=some _ by rw[oQ];exact hu);unfold aMT at HF;have HUX:=ai hux;have hdl:=ot hda;obtain⟨wx,hwx⟩:∃wx,wx=wr.alloc (.cells #[ v.kind,.string v.name,v.x.op,.string v.x.name,.slice v.x.aw v.x.nw v.x.cw,v.x.lo,v.x.hi,.slice v.x.aa v.x.na v.x.ca,.slice v.au v.nu v.cu,v.ck] 48):=⟨_,rfl⟩
    have dm:=ai (show Ext wr wx by rw[hwx];exact(Tz _).alloc _);have pX:=ai (show wx.heap[wr.heap.size]?=some (.cells #[ v.kind,.string v.name,v.x.op,.string v.x.name,.slice v.x.aw v.x.nw v.x.cw,v.x.lo,v.x.hi,.slice v.x.aa v.x.na v.x.ca,.slice v.au v.nu v.cu,v.ck] 48 (0,0)) by rw[hwx];exact bR wr _);have hsx:wx.heap.size=wr.heap.size+1:=by rw[hwx];simp
    have a4S:=ai hsx;clear hsx;go_upto_region 5 with (at_lookup;refine gO _ rfl _ _ 72 rfl 9 48 gU atm (aBa _) lo.bm n _ rfl (En.o.ext jI.o.ext) _ _ rfl (lB uM) trivial ?_;rw[HF.o]);rw[<-hwx];clear hwx x0 x1 x2 xf q0 qf l0 lf cn0;obtain⟨q0,qf⟩:=dO (dm.o.blk jI.o.bq);obtain⟨l0,lf⟩:=dO (dm.o.blk jI.o.bl);obtain⟨f0,f1,f2,f3,f4,f5,f6,f7,f8,f9,ff⟩:=rK pX.o;by_cases hmem:ns[j]∈ye u2
    ·have K8:=ai (show kV (memT fun s=>s∈ye u2) (.string ns[j].data.toList)=some (.bool true) by rw[oQ];simp[memT,hmem]);have Na:=ai (oZ.o.skip hjl (a4Z hmem));clear hda hmem hu hux;go_wp2_with (first
      | (at_lookup;refine QV _ (by rfl) _ _ 186 rfl 9 4 gU atn (aBb _) (w.heap.size+3) u2.length _ rfl (jI.o.seen.ext dm.o) _ _ rfl (lB uM) trivial ?_;rw[K8.o]))
     go_roundw
     case rel=>exact⟨t,_,vs2,j+1,by go_num,by omega,HU2.o ▸ jI.o.Ot dm.o,HU2.o ▸ Na.o,HTL.o,oB.o.ext dm.o,Ez.o⟩
     case measure=>simp[intOf];omega
    have K8:=ai (show kV (memT fun s=>s∈ye u2) (.string ns[j].data.toList)=none by rw[oQ];simp[memT,hmem]);have hdn:=tP hda;have HST:=ai (oZ.o.step hjl AQ.o hda hmem (c:=l.getD d fC) hdn.2 hdn.1 rfl);have HDN:=ai hdn.1;have HCM:=ai (show l.getD d fC∈l by rw[fJ hdl];exact aD _);clear hda hmem hu hux hdn;go_wp2_with (first
     | (at_lookup;refine QV _ (by rfl) _ _ 186 rfl 9 4 gU atn (aBb _) (w.heap.size+3) u2.length _ rfl (jI.o.seen.ext dm.o) _ _ rfl (lB uM) trivial ?_;rw[K8.o])
     | (at_mapUpdate;refine lR _ rfl _ _ _ 186 rfl 9 4 gU atn (w.heap.size+3) u2.length _ rfl (jI.o.seen.ext dm.o) ?c3 _ _ _ rfl rfl (lB uM) trivial ?_))
    case c3=>unfold maxLen;omega
    intro w3 hm3 hc3;have yM:=ai (jI.o.Ot dm.o);have hwr:w.heap.size+4<wr.heap.size:=bS jI.o.bq;have j6:=hc3.blk pX.o (by simp;omega);clear f0 f1 f2 f3 f4 f5 f6 f7 f8 f9 ff q0 qf l0 lf;obtain⟨f0,f1,f2,f3,f4,f5,f6,f7,f8,f9,ff⟩:=rK j6;obtain⟨k0,kf⟩:=dO (hc3.blk yM.o.bl (by simp));have HW3:=ai hc3;have HM3:=ai hm3;have vF:=ai (cO yM.o.own hc3 fun q hq hm=>by have:=(yM.o.own.lt q hq).1;simp only[aG] at hm;omega);have h3s:=hc3.size;have aXf:wr.heap.size<=w3.heap.size:=aV dm.o.size hc3.size;clear hm3 hc3 HF K8 j6;go_wp2_with (at_builtin;refine dA nr rfl _ _ rfl (w.heap.size+5) _ u2.length _ rfl vF.o _ 1 1 rfl ?f0 rfl ?f1 ?f2 ?f3 ?f4 ?_)
    case f0=>simp
    case f1=>simp[Value.oneCell']
    case f2=>unfold maxLen;omega
    case f3=>omega
    case f4=>omega
    intro v8 w8 dY iI gX;obtain⟨a8,c8,Iv⟩:=lF dY;subst Iv;obtain⟨m0,mf⟩:=dO (iI.blk (HW3.o.blk yM.o.bl (by simp)) fun hm=>by have:=(yM.o.own.lt _ (bV.1 hm)).1;omega);have HR9:=ai (yM.o.step (c:=l.getD d fC) (cv:=v) HUX.o (by rw[HDN.o];exact HM3.o) HW3.o dY iI).1;have AM:=ai (((oB.o.ext dm.o).cR HW3.o (fun b' off' e' hm=>(Ez.o b' off' e').1 (by simpa using hm))).cR iI (fun b' off' e' hm=>(Ez.o b' off' e').2.2 (bV.1 hm).symm));have HF9:=ai (show ∀b off,some (⟨bn,ayN,none⟩:Addr)=some ⟨b,off,none⟩->b≠w.heap.size+3/\b≠w.heap.size+2/\some b≠(Value.slice a8 (u2.length+1) c8).ownBlock from fun b' off' e'=>by
     obtain⟨p1,p2,p3⟩:=Ez.o b' off' e';have hbl:b'<wr.heap.size:=by
      obtain⟨bb,oo,ee,cc⟩:=oB.o.2.2.2 j hjl;rw[ee] at e';simp only[a42,Addr.mk.injEq,and_true] at e';have:=eB cc;simp only at this;omega
     refine⟨p1,p2,fun e2=>?_⟩;rcases gX b' e2.symm with h|h
     ·exact p3 h.symm
     omega)
    have adS:=ai (AM.o.cR (show ct [w.heap.size+2] w8 (w8.setCell ⟨w.heap.size+2,0,none⟩ (.slice a8 (u2.length+1) c8)) from(ct.refl _ _).setCell (aoX (by simp)) _) (fun b' off' e' hm=>(Ez.o b' off' e').2.1 (by simpa using hm)));clear dY iI gX AM f0 f1 f2 f3 f4 f5 f6 f7 f8 f9 ff k0 kf;go_wp2_with fail;go_roundw
    case rel =>
     have e1:u++(t++[l.getD d fC])=u2++[l.getD d fC]:=by rw[HU2.o];simp
     refine⟨t++[l.getD d fC],_,_,j+1,by go_num,by omega,by rw[e1];exact HR9.o,by rw[e1];have:=HST.o;simpa using this,?_,adS.o,HF9.o⟩;intro c hc;rcases aN.1 hc with h|h
     ·exact HTL.o c h
     rw[aG.1 h];exact HCM.o
    case measure=>simp[intOf];omega
  have tj:=ah ((j:Int)<(ns.length:Int));have HPE:=ai (oZ.o.end (by omega) AQ.o);go_wp2_with fail
  go_end0
  exact⟨rfl,t,_,vs2,HU2.o ▸ jI.o,HU2.o ▸ HPE.o,HTL.o⟩
def axv (l:List cK) (e:Ex) (w:World) (r:Ending) (w':World):Prop:=∃u a c,r=.returned (.slice a u.length c)/\cZ w' u a u.length c/\Ee l e u/\Ext w w'
theorem Xa (s:List Attr) (l:List cK) (f:ZI) (e:Ex) (ev:Value) (lo:fT) (n:Nat) (w:World) (hlo:AA w s l f lo n) (hl:l.length<=100000) (he:dw w e ev) (hes:e.size<=100000/\e.fits) (hsz:∀x∈l,x.cond.size<=100000/\x.cond.fits) :
  Calls Tryz.prog 87 #[lo.val,ev] w (axv l e w):=by
 obtain⟨g,hmp,hdg⟩:=hlo.defs;obtain⟨aw,nw,cw,aa,na,ca,rfl,-⟩:=he.parts;have HAD:=ai (fun (W:World) (x:Ex) (xv lv:Value) (u:List cK) (vs:List fM) (xs:List Ex) (h1:dw W x xv) (h2:x.size<=100000/\x.fits) (h3:UsS w lo lv u vs W) (h4:RPi l e u xs x (jB (fX x)) 0)=>aoV l e x xv lo n w W g lv u vs xs hmp hdg hl h1 h2 h3 h4);have HE:=ai he;have tR:=ai hsz;have HES:=ai hes;clear hmp hdg he hsz hes hlo;obtain⟨EV,hEV⟩:∃EV,EV=fN e.op e.name aw nw cw e.lo e.hi aa na ca:=⟨_,rfl⟩
 have azs:=hEV;unfold fN at hEV;unfold fT.val;have hmm:=@run_makeMap Tryz.prog;have hmf:∀(fn:Fn) (first cap:Array Value) (w:World),(Instr.makeFunc fn first cap).run Tryz.prog w=.ok (.func fn first cap) w:=fun _ _ _ _=>rfl
 obtain⟨wa,cN⟩:∃wa,wa=(((((w.alloc (.cells #[.slice lo.sa lo.sn lo.sc,.map (some lo.bm),.slice lo.fa lo.fn lo.fc] 74)).alloc (.cells #[ e.op,.string e.name,.slice aw nw cw,e.lo,e.hi,.slice aa na ca] 45)).alloc (.cells #[.slice none 0 0] 25)).alloc (.map #[] 0)).alloc (.cells #[.map (some (w.heap.size+3))] 186)):=⟨_,rfl⟩
 have HE0:=ai (show wa.heap[w.heap.size+1]?=some (.cells #[ e.op,.string e.name,.slice aw nw cw,e.lo,e.hi,.slice aa na ca] 45 (0,0)) by rw[cN];exact bU (bU (bU (cT (by simp)))));have HUS:=ai (show UsS w lo (.slice none 0 0) [] [] wa from {
  ext:=by rw[cN];exact(((((Tz _).alloc _).alloc _).alloc _).alloc _).alloc _
  OV:=⟨rfl,fun i h=>by simp at h⟩
  own:=a4' _ _ _ _
  seen:=by
   have h0:=ig.made (((w.alloc (.cells #[.slice lo.sa lo.sn lo.sc,.map (some lo.bm),.slice lo.fa lo.fn lo.fc] 74)).alloc (.cells #[ e.op,.string e.name,.slice aw nw cw,e.lo,e.hi,.slice aa na ca] 45)).alloc (.cells #[.slice none 0 0] 25)) 9;rw[cN];refine((by simpa using h0:ig _ _ (w.heap.size+3) 0 _).ext ((Tz _).alloc _)).congr fun x=>?_
   cases x<;>simp[kV,memT,ye]
  bx:=by rw[cN];exact bU (bU (bU (bU (bR w _))))
  bl:=by rw[cN];exact bU (bU (cT (by simp)))
  bq:=by rw[cN];exact cT (by simp) })
 obtain⟨f0,f1,f2,f3,f4,f5,ff⟩:=cX HE0.o;rw[<-azs,hEV];go_enter Tryz.func87,Tryz.ntmps87
 go_upto_region 3 with fail;rw[<-cN];clear cN;go_wp2_with fail;rw[<-hEV];refine(HAD.o wa e _ _ [] [] [] (by rw[azs];exact HE.o.ext HUS.o.ext) HES.o HUS.o (RPi.first e _)).mono ?_;rintro r w1 ⟨rfl,t0,lv0,vs0,hu0,hp0,ht0⟩;have HU0:=ai hu0;have HP0:=ai hp0;have OW:=ai ht0;clear hu0 hp0 ht0 f0 f1 f2 f3 f4 f5 ff HE0 HUS;go_wp2_with fail;go_loopw [8] (fun i wr=>∃u lv vs k,i=.int .i64 (k:Nat)/\k<=u.length/\UsS w lo lv u vs wr/\RP l e u ((u.drop k).map (·.cond))/\∀c∈u,c∈l) (fun i _=>l.length - (intOf i).toNat)
 case atStart=>exact⟨t0,lv0,vs0,0,rfl,by omega,by simpa using HU0.o,by simpa using HP0.o,OW.o⟩
 case round =>
  obtain⟨u,lv,vs,k,rfl,hk,hu,hp,hm⟩:=hrel;obtain⟨la,lc,hlv⟩:=lF hu.own;subst hlv;have HU:=ai hu;have HP:=ai hp;have HM:=ai hm;have hul:=Ow hp.defs hp.names;obtain⟨a',c',hv,hcl⟩:=yJ (M:=[]) hu.own (by simp) (hu.OV.mono (hu.ext.sub.trans (Cf _)));simp only[a45,true_and] at hv;obtain⟨rfl,rfl⟩:=hv;have qC:=ai (hcl.mono (cC _ _));obtain⟨l0,lf⟩:=dO hu.bl;clear hu hp hm hcl HU0 HP0 OW;by_cases hlt:k<u.length
  ·have t1:=ag ((k:Int)<(u.length:Int));obtain⟨cb,ld,v,rfl,fO,hrow⟩:=qC.o.at hlt;obtain⟨c0,c1,c2,c3,c4,c5,c6,c7,c8,c9⟩:=hrow.BB;have zq:=ai fO.2.2.1;have hsx:u[k].cond.size<=100000/\u[k].cond.fits:=tR.o _ (HM.o _ (aD hlt));have HPF:=ai (show RP l e u (u[k].cond::(u.drop (k+1)).map (·.cond)) by have:=HP.o;rw[List.drop_eq_getElem_cons hlt,List.map_cons] at this;exact this);have He:=ai (HAD.o wr u[k].cond _ _ u vs _ zq.o hsx HU.o (HPF.o.aVV _));unfold dK.val fN at He;clear fO hrow hsx;go_wp2_with fail;refine He.o.mono ?_;rintro r w1 ⟨rfl,t1,lv1,vs1,hu1,hp1,ht1⟩;have HU1:=ai hu1;have CD:=ai hp1;have HT1:=ai ht1;have sA:=Ow hp1.defs hp1.names;clear hu1 hp1 ht1 c0 c1 c2 c3 c4 c5 c6 c7 c8 c9 l0 lf;go_wp2_with fail;go_roundw
   case rel =>
    refine⟨u++t1,lv1,vs1,k+1,by go_num,by simp;omega,HU1.o,?_,?_⟩
    ·rw[List.drop_append_of_le_length (by omega),List.map_append];exact CD.o
    intro c hc;rcases aN.1 hc with h|h
    ·exact HM.o c h
    exact HT1.o c h
   case measure=>simp at sA;simp[intOf];omega
  have t1:=ah ((k:Int)<(u.length:Int));go_wp2_with fail;go_ret;refine⟨u,_,_,rfl,qC.o,⟨?_,HM.o⟩,HU.o.ext⟩;have:=HP.o;rw[List.drop_eq_nil_of_le (by omega)] at this;exact this.used
def Pd (s:List Attr) (l:List cK) (e:Ex):Prop:=eW e=true/\dr s l e=0/\dV l e<=2000/\e.iT/\e.fits/\e.vP
structure WU (w:World) (s:List Attr) (l:List cK) (f:ZI) (lo:fT) (n:Nat):Prop where
 agl:AA w s l f lo n
 ok:(cV s l).2=0
 facts:jU s f=true
 ais:∀x∈s,x.fits
 Ca:∀x∈l,x.fit
 fnl:lo.fn<=1000000000000000
 ops:dQ w
theorem WU.ext {w w':World} {s:List Attr} {l:List cK} {f:ZI} {lo:fT} {n:Nat} (h:WU w s l f lo n) (hx:Ext w w'):WU w' s l f lo n:=⟨h.agl.ext hx,h.ok,h.facts,h.ais,h.Ca,h.fnl,h.ops.ext hx⟩
theorem WU.SH {w:World} {s:List Attr} {l:List cK} {f:ZI} {lo:fT} {n:Nat} (h:WU w s l f lo n):s.length<=1000000000000000:=by
 have hs:=h.agl.x7.parts;obtain⟨_,_,_,e,h1,_⟩:=hs;have:=(iQ (lK h.ok).x7).2.1;omega
theorem WU.eval {w:World} {s:List Attr} {l:List cK} {f:ZI} {lo:fT} {n:Nat} (h:WU w s l f lo n) {e:Ex} {ev:Value} (he:dw w e ev) (hp:Pd s l e) {u:List cK} {a:OA} {c:Nat} (hu:Ee l e u) (hc:cZ w u a u.length c) :
  Calls Tryz.prog 86 #[.agg #[.slice lo.sa lo.sn lo.sc],.slice a u.length c,ev,.slice lo.fa lo.fn lo.fc] w (cz (.tuple #[.bool (val s l f e),.int .i64 0]) w):=by
 obtain⟨p1,p2,p3,p4,p5,p6⟩:=hp;obtain⟨q1,q2⟩:=hu.eval h.ok p1 p2 p3 h.facts;have h1:=XR s u e f _ ev a u.length c lo.fa lo.fn lo.fc w ⟨h.agl.x7,h.ais,h.SH,hc,by have:=hu.1.len;have:=(lK h.ok).len;omega,fun x hx=>h.Ca x (hu.2 x hx),he,p4,p5,p6,h.agl.ints,h.fnl,h.ops⟩;unfold aao Rg at h1;rw[bM q1,q1,q2] at h1;exact h1
theorem ac2 {s:List Attr} {l:List cK} {f:ZI} {lo:fT} {n:Nat} {e:Ex} {ev:Value} (w:World) (h:WU w s l f lo n) (he:dw w e ev) (hp:Pd s l e) :
  Calls Tryz.prog 59 #[lo.val,ev] w (cz (.bool (val s l f e)) w):=by
 have hck:=lK h.ok;have hsz:=(Bf hp.1).2;have HU:=ai (fun W (hW:Ext w W)=>Xa s l f e ev lo n W (h.agl.ext hW) (by have:=hck.len;omega) (he.ext hW) ⟨by omega,hp.2.2.2.2.1⟩ (fun x hx=>⟨by have:=(Bf (hck.good x hx).2.2.1).2;omega,(h.Ca x hx).2.1⟩));have HE:=ai (fun W (hW:Ext w W) (u:List cK) (a:OA) (c:Nat) (hu:Ee l e u) (hc:cZ W u a u.length c)=>(h.ext hW).eval (he.ext hW) hp hu hc);obtain⟨aw,nw,cw,aa,na,ca,rfl,-⟩:=he.parts;obtain⟨V,hV⟩:∃V,V=val s l f e:=⟨_,rfl⟩
 rw[<-hV] at HE ⊢;obtain⟨U,hU⟩:∃U:List cK->Prop,U=Ee l e:=⟨_,rfl⟩
 unfold axv at HU;have HU2:=ai (fun W (hW:Ext w W)=>(HU.o W hW).mono (fun r w' (hq:∃u a c,r=.returned (.slice a u.length c)/\cZ w' u a u.length c/\Ee l e u/\Ext W w')=>by rw[<-hU] at hq;exact hq));rw[<-hU] at HE;clear h he hp hV hck hsz hU HU;unfold fN fT.val at *;obtain⟨wa,cN⟩:∃wa,wa=(w.alloc (.cells #[.slice lo.sa lo.sn lo.sc,.map (some lo.bm),.slice lo.fa lo.fn lo.fc] 74)).alloc (.cells #[ e.op,.string e.name,.slice aw nw cw,e.lo,e.hi,.slice aa na ca] 45):=⟨_,rfl⟩
 have dm:=ai (show Ext w wa by rw[cN];exact((Tz _).alloc _).alloc _);obtain⟨x0,x1,x2,xf⟩:=dM (show wa.heap[w.heap.size]?=some (.cells #[.slice lo.sa lo.sn lo.sc,.map (some lo.bm),.slice lo.fa lo.fn lo.fc] 74 (0,0)) by rw[cN];exact bU (bR w _));obtain⟨f0,f1,f2,f3,f4,f5,ff⟩:=cX (show wa.heap[w.heap.size+1]?=some (.cells #[ e.op,.string e.name,.slice aw nw cw,e.lo,e.hi,.slice aa na ca] 45 (0,0)) by rw[cN];exact cT (by simp));obtain⟨C0,C1,C2,D0,D1,D2⟩:=wcn6 x0 x1 x2 f0 f1 f2;obtain⟨D3,D4,D5⟩:=wcn3 f3 f4 f5;go_enter Tryz.func59,Tryz.ntmps59
 go_upto_region 1 with fail;rw[<-cN];clear cN;refine kT 14 ?_
 repeat (refine bZ ?_;intro K hK;go_big_quiet_op;go_big_quiet_on)
 refine dP (γ:=List cK×OA×Nat) (fun x=>.slice x.2.1 x.1.length x.2.2) (fun x W=>U x.1/\cZ W x.1 x.2.1 x.1.length x.2.2) (fun W hW _ _=>?_) (fun x W W' hx h=>⟨h.1,h.2.ext hx⟩) ?_ ⟨([],none,0)⟩
 ·unfold bQ;go_simp;refine(HU2.o W (dm.o.trans hW)).mono ?_;rintro r w1 ⟨u,a,c,rfl,h1,h2,h3⟩;exact⟨_,rfl,h3,(u,a,c),rfl,h2,h1⟩
 rintro⟨u,a,c⟩ K hK;go_simp;go_big_quiet_on
 repeat (refine bZ ?_;intro K hK;go_big_quiet_op;go_big_quiet_on)
 refine fZ (.tuple #[.bool V,.int .i64 0]) (fun _=>True) (fun W hW hu _=>?_) (fun _ _ _ h=>h) ?_
 ·unfold bQ;go_simp;refine(HE.o W (dm.o.trans hW) u a c hu.1 hu.2).mono ?_;rintro r w1 ⟨rfl,hx1⟩;exact⟨_,rfl,hx1,rfl,trivial⟩
 intro K hK;go_simp;go_big_quiet_on
 repeat (refine bZ ?_;intro K hK;go_big_quiet_op;go_big_quiet_on)
 refine gC fun w2 hx2 _ _=>?_
 have dN:=ai (dm.o.trans hx2);clear hx2;go_wp2_with fail;go_ret;exact bW (by simp) dN.o
theorem Ip (nm:BA) (x:dK) (au:OA) (nu cu:Nat) (w:World):Calls Tryz.prog 230 #[.agg #[.string nm,x.op,.string x.name,.slice x.aw x.nw x.cw,x.lo,x.hi,.slice x.aa x.na x.ca,.slice au nu cu]] w (cz (.agg #[ x.op,.string x.name,.slice x.aw x.nw x.cw,x.lo,x.hi,.slice x.aa x.na x.ca]) w):=by
 obtain⟨wa,cN⟩:∃wa,wa=(w.alloc (.cells #[.string nm,x.op,.string x.name,.slice x.aw x.nw x.cw,x.lo,x.hi,.slice x.aa x.na x.ca,.slice au nu cu] 113)).alloc (.cells #[.int .i64 0,.string ⟨#[]⟩,.slice none 0 0,.int .i64 0,.int .i64 0,.slice none 0 0] 45):=⟨_,rfl⟩
 have dm:=ai (show Ext w wa by rw[cN];exact((Tz _).alloc _).alloc _);obtain⟨f0,f1,f2,f3,f4,f5,f6,f7,ff⟩:=oO (show wa.heap[w.heap.size]?=some (.cells #[.string nm,x.op,.string x.name,.slice x.aw x.nw x.cw,x.lo,x.hi,.slice x.aa x.na x.ca,.slice au nu cu] 113 (0,0)) by rw[cN];exact bU (bR w _));have HR:=ai (show wa.heap[w.heap.size+1]?=some (.cells #[.int .i64 0,.string ⟨#[]⟩,.slice none 0 0,.int .i64 0,.int .i64 0,.slice none 0 0] 45 (0,0)) by rw[cN];exact cT (by simp));obtain⟨g0,g1,g2,g3,g4,g5,gf⟩:=cX HR.o;go_enter Tryz.func230,Tryz.ntmps230
 go_upto_region 1 with fail;rw[<-cN];clear cN;go_wp2_with fail;obtain⟨w8,gX⟩:∃w8,w8=fA wa (w.heap.size+1) (.int .i64 x.op) (.string x.name) (.slice x.aw x.nw x.cw) (.int .i64 x.lo) (.int .i64 x.hi) (.slice x.aa x.na x.ca):=⟨_,rfl⟩
 have nB:=ai (show Ext w w8 by rw[gX];exact(fe _ _).ext dm.o (by simp));have h8:w8.heap[w.heap.size+1]?=some (.cells #[ x.op,.string x.name,.slice x.aw x.nw x.cw,x.lo,x.hi,.slice x.aa x.na x.ca] 45 (0,0)):=by rw[gX];exact fH HR.o
 unfold fA at gX;rw[<-gX];clear gX g0 g1 g2 g3 g4 g5 gf;obtain⟨g0,g1,g2,g3,g4,g5,gf⟩:=cX h8;refine a5a (v:=.agg #[ x.op,.string x.name,.slice x.aw x.nw x.cw,x.lo,x.hi,.slice x.aa x.na x.ca]) (by simp[results,Tryz.results230,go_sem,g0,g1,g2,g3,g4,g5]) rfl ?_;exact⟨rfl,nB.o⟩
theorem EB (nm:BA) (x:dK) (au:OA) (nu cu:Nat) (w:World):Calls Tryz.prog 229 #[.agg #[.string nm,x.op,.string x.name,.slice x.aw x.nw x.cw,x.lo,x.hi,.slice x.aa x.na x.ca,.slice au nu cu]] w (cz (.slice au nu cu) w):=by
 obtain⟨wa,cN⟩:∃wa,wa=w.alloc (.cells #[.string nm,x.op,.string x.name,.slice x.aw x.nw x.cw,x.lo,x.hi,.slice x.aa x.na x.ca,.slice au nu cu] 113):=⟨_,rfl⟩
 have dm:=ai (show Ext w wa by rw[cN];exact(Tz _).alloc _);obtain⟨f0,f1,f2,f3,f4,f5,f6,f7,ff⟩:=oO (show wa.heap[w.heap.size]?=some (.cells #[.string nm,x.op,.string x.name,.slice x.aw x.nw x.cw,x.lo,x.hi,.slice x.aa x.na x.ca,.slice au nu cu] 113 (0,0)) by rw[cN];exact bR w _);go_enter Tryz.func229,Tryz.ntmps229
 go_upto_region 1 with fail;rw[<-cN];clear cN;go_wp2_with fail;go_ret;exact⟨rfl,dm.o⟩
theorem QU (n:Nat) (nm:BA) (x:dK) (au:OA) (nu cu:Nat) (W:World):(method (n+1) 113 (.agg #[.string nm,x.op,.string x.name,.slice x.aw x.nw x.cw,x.lo,x.hi,.slice x.aa x.na x.ca,.slice au nu cu]) "treaty/decide.when").run Tryz.prog W=.ok (230,.agg #[.string nm,x.op,.string x.name,.slice x.aw x.nw x.cw,x.lo,x.hi,.slice x.aa x.na x.ca,.slice au nu cu]) W:=by kernel_rfl
theorem LA (n:Nat) (nm:BA) (x:dK) (au:OA) (nu cu:Nat) (W:World):(method (n+1) 113 (.agg #[.string nm,x.op,.string x.name,.slice x.aw x.nw x.cw,x.lo,x.hi,.slice x.aa x.na x.ca,.slice au nu cu]) "treaty/decide.unless").run Tryz.prog W=.ok (229,.agg #[.string nm,x.op,.string x.name,.slice x.aw x.nw x.cw,x.lo,x.hi,.slice x.aa x.na x.ca,.slice au nu cu]) W:=by kernel_rfl
theorem OD (kd:Int) (nm:BA) (x:dK) (au:OA) (nu cu:Nat) (am:Int) (w:World):Calls Tryz.prog 227 #[.agg #[ kd,.string nm,x.op,.string x.name,.slice x.aw x.nw x.cw,x.lo,x.hi,.slice x.aa x.na x.ca,.slice au nu cu,am]] w (cz (.agg #[ x.op,.string x.name,.slice x.aw x.nw x.cw,x.lo,x.hi,.slice x.aa x.na x.ca]) w):=by
 obtain⟨wa,cN⟩:∃wa,wa=(w.alloc (.cells #[ kd,.string nm,x.op,.string x.name,.slice x.aw x.nw x.cw,x.lo,x.hi,.slice x.aa x.na x.ca,.slice au nu cu,am] 81)).alloc (.cells #[.int .i64 0,.string ⟨#[]⟩,.slice none 0 0,.int .i64 0,.int .i64 0,.slice none 0 0] 45):=⟨_,rfl⟩
 have dm:=ai (show Ext w wa by rw[cN];exact((Tz _).alloc _).alloc _);obtain⟨f0,f1,f2,f3,f4,f5,f6,f7,f8,f9,ff⟩:=rB (show wa.heap[w.heap.size]?=some (.cells #[ kd,.string nm,x.op,.string x.name,.slice x.aw x.nw x.cw,x.lo,x.hi,.slice x.aa x.na x.ca,.slice au nu cu,am] 81 (0,0)) by rw[cN];exact bU (bR w _));have HR:=ai (show wa.heap[w.heap.size+1]?=some (.cells #[.int .i64 0,.string ⟨#[]⟩,.slice none 0 0,.int .i64 0,.int .i64 0,.slice none 0 0] 45 (0,0)) by rw[cN];exact cT (by simp));obtain⟨g0,g1,g2,g3,g4,g5,gf⟩:=cX HR.o;go_enter Tryz.func227,Tryz.ntmps227
 go_upto_region 1 with fail;rw[<-cN];clear cN;go_wp2_with fail;obtain⟨w8,gX⟩:∃w8,w8=fA wa (w.heap.size+1) (.int .i64 x.op) (.string x.name) (.slice x.aw x.nw x.cw) (.int .i64 x.lo) (.int .i64 x.hi) (.slice x.aa x.na x.ca):=⟨_,rfl⟩
 have nB:=ai (show Ext w w8 by rw[gX];exact(fe _ _).ext dm.o (by simp));have h8:w8.heap[w.heap.size+1]?=some (.cells #[ x.op,.string x.name,.slice x.aw x.nw x.cw,x.lo,x.hi,.slice x.aa x.na x.ca] 45 (0,0)):=by rw[gX];exact fH HR.o
 unfold fA at gX;rw[<-gX];clear gX g0 g1 g2 g3 g4 g5 gf;obtain⟨g0,g1,g2,g3,g4,g5,gf⟩:=cX h8;refine a5a (v:=.agg #[ x.op,.string x.name,.slice x.aw x.nw x.cw,x.lo,x.hi,.slice x.aa x.na x.ca]) (by simp[results,Tryz.results227,go_sem,g0,g1,g2,g3,g4,g5]) rfl ?_;exact⟨rfl,nB.o⟩
theorem KR (kd:Int) (nm:BA) (x:dK) (au:OA) (nu cu:Nat) (am:Int) (w:World):Calls Tryz.prog 226 #[.agg #[ kd,.string nm,x.op,.string x.name,.slice x.aw x.nw x.cw,x.lo,x.hi,.slice x.aa x.na x.ca,.slice au nu cu,am]] w (cz (.slice au nu cu) w):=by
 obtain⟨wa,cN⟩:∃wa,wa=w.alloc (.cells #[ kd,.string nm,x.op,.string x.name,.slice x.aw x.nw x.cw,x.lo,x.hi,.slice x.aa x.na x.ca,.slice au nu cu,am] 81):=⟨_,rfl⟩
 have dm:=ai (show Ext w wa by rw[cN];exact(Tz _).alloc _);obtain⟨f0,f1,f2,f3,f4,f5,f6,f7,f8,f9,ff⟩:=rB (show wa.heap[w.heap.size]?=some (.cells #[ kd,.string nm,x.op,.string x.name,.slice x.aw x.nw x.cw,x.lo,x.hi,.slice x.aa x.na x.ca,.slice au nu cu,am] 81 (0,0)) by rw[cN];exact bR w _);go_enter Tryz.func226,Tryz.ntmps226
 go_upto_region 1 with fail;rw[<-cN];clear cN;go_wp2_with fail;go_ret;exact⟨rfl,dm.o⟩
theorem aaD (n:Nat) (kd:Int) (nm:BA) (x:dK) (au:OA) (nu cu:Nat) (am:Int) (W:World):(method (n+1) 81 (.agg #[ kd,.string nm,x.op,.string x.name,.slice x.aw x.nw x.cw,x.lo,x.hi,.slice x.aa x.na x.ca,.slice au nu cu,am]) "treaty/decide.when").run Tryz.prog W=.ok (227,.agg #[ kd,.string nm,x.op,.string x.name,.slice x.aw x.nw x.cw,x.lo,x.hi,.slice x.aa x.na x.ca,.slice au nu cu,am]) W:=by kernel_rfl
theorem T4 (n:Nat) (kd:Int) (nm:BA) (x:dK) (au:OA) (nu cu:Nat) (am:Int) (W:World):(method (n+1) 81 (.agg #[ kd,.string nm,x.op,.string x.name,.slice x.aw x.nw x.cw,x.lo,x.hi,.slice x.aa x.na x.ca,.slice au nu cu,am]) "treaty/decide.unless").run Tryz.prog W=.ok (226,.agg #[ kd,.string nm,x.op,.string x.name,.slice x.aw x.nw x.cw,x.lo,x.hi,.slice x.aa x.na x.ca,.slice au nu cu,am]) W:=by kernel_rfl
theorem arS {s:List Attr} {l:List cK} {f:ZI} {lo:fT} {n:Nat}:∀(m:Nat) (cond:Ex) (u:List Wb) (nm:BA) (x:dK) (au:OA) (nu cu:Nat) (w:World),mH u<=m->WU w s l f lo n->Pd s l cond->jY (Pd s l) u->nu<=1000000000000000->nu=u.length->dw w cond x.val->gK w u au ->
  Calls Tryz.prog 33 #[lo.val,.iface 113 (.agg #[.string nm,x.op,.string x.name,.slice x.aw x.nw x.cw,x.lo,x.hi,.slice x.aa x.na x.ca,.slice au nu cu])] w (cz (.bool (val s l f cond&&!nM (val s l f) u)) w):=by
 intro m;induction m using Nat.strongRecOn with
 | _ m ih =>
  intro cond u nm x au nu cu w hm h hp hok ZW hlen hex hd;have HH:=ai (fun (W:World) (hW:Ext w W)=>ac2 W (h.ext hW) (hex.ext hW) hp);have HIH:=ai (fun (k:Nat) (hk:k<u.length) (v:Cz) (W:World) (hW:Ext w W) (wU:dw W u[k].cond v.x.val) (Co:v.nu=u[k].gH.length) (PZ:gK W u[k].gH v.au)=>ih (mH u[k].gH) (by have:=zw u k hk;omega) u[k].cond u[k].gH v.name v.x v.au v.nu v.cu W (aU _) (h.ext hW) (j7 u hok k hk).1 (j7 u hok k hk).2.1 (by have:=(j7 u hok k hk).2.2;omega) Co wU PZ);have HD:=ai hd;have qB:=ai hlen;obtain⟨T,hT⟩:∃T,T=val s l f cond:=⟨_,rfl⟩
  rw[<-hT] at HH ⊢;clear ih hm h hp hok hlen hex hd hT;have HW:=ai (fun W=>Ip nm x au nu cu W);have Nh:=ai (fun W=>EB nm x au nu cu W);have hm1:=fun (n:Nat) (W:World)=>QU n nm x au nu cu W
  have hm2:=fun (n:Nat) (W:World)=>LA n nm x au nu cu W
  unfold dK.val fN fT.val at HH;unfold fT.val at HIH ⊢;obtain⟨wa,cN⟩:∃wa,wa=w.alloc (.cells #[.slice lo.sa lo.sn lo.sc,.map (some lo.bm),.slice lo.fa lo.fn lo.fc] 74):=⟨_,rfl⟩
  have dm:=ai (show Ext w wa by rw[cN];exact(Tz _).alloc _);have HA:=ai (show wa.heap[w.heap.size]?=some (.cells #[.slice lo.sa lo.sn lo.sc,.map (some lo.bm),.slice lo.fa lo.fn lo.fc] 74 (0,0)) by rw[cN];exact bR w _);obtain⟨x0,x1,x2,xf⟩:=dM HA.o;obtain⟨C0,C1,C2⟩:=wcn3 x0 x1 x2;go_enter Tryz.func33,Tryz.ntmps33
  go_upto_region 1 with fail;rw[<-cN];clear cN;refine kT 5 ?_
  repeat (refine bZ ?_;intro K hK;go_big_quiet_op;go_big_quiet_on)
  refine mU (fun W hW=>HW.o W) ?_;intro K hK;go_simp;go_big_quiet_on;refine mU (fun W hW=>HH.o W (dm.o.trans hW)) ?_;intro K hK;go_simp;go_big_quiet_on
  repeat (refine bZ ?_;intro K hK;go_big_quiet_op;go_big_quiet_on)
  refine gC fun w1 hx1 _ _=>?_
  have dI:=ai (dm.o.trans hx1);have HB:=ai (hx1.blk HA.o);clear hx1 x0 x1 x2 xf C0 C1 C2 HA dm HH HW;cases T
  ·go_wp2_with fail;go_ret;exact bW (by simp) dI.o
  go_wp2_with fail;refine(Nh.o w1).mono ?_;rintro r w2 ⟨rfl,hx2⟩;have dN:=ai (dI.o.trans hx2);have fY:=ai (hx2.blk HB.o);clear hx2 HB dI Nh hm1 hm2;go_wp2_with fail;go_loopw [15] (BkI (val s l f) u nu w2) (fun i _=>nu - (intOf i).toNat)
  case atStart=>exact⟨0,rfl,Nat.zero_le _,rfl,Tz _⟩
  case round =>
   obtain⟨k,rfl,hk,hv,hx⟩:=hrel;have HV:=ai hv;have HX:=ai (dN.o.trans hx);have BO:=ai hx;have nU:=ai (hx.blk fY.o);clear hv hx;by_cases hkn:k<nu
   ·have fq:k<u.length:=by have:=qB.o;omega
    have t1:=ag ((k:Int)<(nu:Int));obtain⟨b,off,rfl,v,Co,hrow,wU,Sg,-,-,PZ⟩:=gK.at u _ (gK.mono HX.o.sub u _ HD.o) k fq;obtain⟨c0,c1,c2,c3,c4,c5,c6,c7⟩:=hrow.eight;have se:=ai (fun W (hW:Ext wr W)=>HIH.o k fq v W (HX.o.trans hW) (wU.ext hW) Sg (gK.mono hW.sub _ _ PZ));have HST:=ai (aa4 (val s l f) fq);obtain⟨Q,hQ⟩:∃Q,Q=(val s l f u[k].cond&&!nM (val s l f) u[k].gH):=⟨_,rfl⟩
    rw[<-hQ] at se HST;clear Co hrow wU Sg PZ hQ HIH;obtain⟨x0,x1,x2,xf⟩:=dM nU.o;obtain⟨wb,iV⟩:∃wb,wb=wr.alloc (.cells #[.string v.name,v.x.op,.string v.x.name,.slice v.x.aw v.x.nw v.x.cw,v.x.lo,v.x.hi,.slice v.x.aa v.x.na v.x.ca,.slice v.au v.nu v.cu] 53):=⟨_,rfl⟩
    have jK:=ai (show Ext wr wb by rw[iV];exact(Tz _).alloc _);have VB:wb.heap[wr.heap.size]?=some (.cells #[.string v.name,v.x.op,.string v.x.name,.slice v.x.aw v.x.nw v.x.cw,v.x.lo,v.x.hi,.slice v.x.aa v.x.na v.x.ca,.slice v.au v.nu v.cu] 53 (0,0)):=by rw[iV];exact bR wr _
    go_upto_region 6 with fail;rw[<-iV];clear iV x0 x1 x2 xf;obtain⟨x0,x1,x2,xf⟩:=dM (jK.o.blk nU.o);obtain⟨f0,f1,f2,f3,f4,f5,f6,f7,ff⟩:=oO VB;clear VB;go_wp2_with fail;refine(se.o wb jK.o).mono ?_;rintro r w5 ⟨rfl,dh⟩;have gW:=ai (jK.o.trans dh);clear dh f0 f1 f2 f3 f4 f5 f6 f7 ff x0 x1 x2 xf c0 c1 c2 c3 c4 c5 c6 c7;cases Q
    ·go_wp2_with fail;go_roundw
     case rel=>exact⟨k+1,by go_num,by omega,by rw[HV.o,HST.o];rfl,BO.o.trans gW.o⟩
     case measure=>simp[intOf];omega
    have HQ:=ai (show nM (val s l f) u=true by rw[HV.o,HST.o];rfl);go_wp2_with fail;go_ret;exact bW (by rw[HQ.o];rfl) (HX.o.trans gW.o)
   have t1:=ah ((k:Int)<(nu:Int));have HQ:=ai (show nM (val s l f) u=false by
    rw[HV.o,show k=u.length by have:=qB.o;omega,List.drop_length,nM])
   go_wp2_with fail;go_ret;exact bW (by rw[HQ.o];rfl) HX.o
theorem WD {s:List Attr} {l:List cK} {f:ZI} {lo:fT} {n:Nat} (cond:Ex) (u:List Wb) (kd:Int) (nm:BA) (x:dK) (au:OA) (nu cu:Nat) (am:Int) (w:World) (h:WU w s l f lo n) (hp:Pd s l cond) (hok:jY (Pd s l) u) (ZW:nu<=1000000000000000) (hlen:nu=u.length) (hex:dw w cond x.val) (hd:gK w u au) :
  Calls Tryz.prog 33 #[lo.val,.iface 81 (.agg #[ kd,.string nm,x.op,.string x.name,.slice x.aw x.nw x.cw,x.lo,x.hi,.slice x.aa x.na x.ca,.slice au nu cu,am])] w (cz (.bool (val s l f cond&&!nM (val s l f) u)) w):=by
 have HH:=ai (fun (W:World) (hW:Ext w W)=>ac2 W (h.ext hW) (hex.ext hW) hp);have HIH:=ai (fun (k:Nat) (hk:k<u.length) (v:Cz) (W:World) (hW:Ext w W) (wU:dw W u[k].cond v.x.val) (Co:v.nu=u[k].gH.length) (PZ:gK W u[k].gH v.au)=>arS (mH u[k].gH) u[k].cond u[k].gH v.name v.x v.au v.nu v.cu W (aU _) (h.ext hW) (j7 u hok k hk).1 (j7 u hok k hk).2.1 (by have:=(j7 u hok k hk).2.2;omega) Co wU PZ);have HD:=ai hd;have qB:=ai hlen;obtain⟨T,hT⟩:∃T,T=val s l f cond:=⟨_,rfl⟩
 rw[<-hT] at HH ⊢;clear h hp hok hlen hex hd hT;have HW:=ai (fun W=>OD kd nm x au nu cu am W);have Nh:=ai (fun W=>KR kd nm x au nu cu am W);have hm1:=fun (n:Nat) (W:World)=>aaD n kd nm x au nu cu am W
 have hm2:=fun (n:Nat) (W:World)=>T4 n kd nm x au nu cu am W
 unfold dK.val fN fT.val at HH;unfold fT.val at HIH ⊢;obtain⟨wa,cN⟩:∃wa,wa=w.alloc (.cells #[.slice lo.sa lo.sn lo.sc,.map (some lo.bm),.slice lo.fa lo.fn lo.fc] 74):=⟨_,rfl⟩
 have dm:=ai (show Ext w wa by rw[cN];exact(Tz _).alloc _);have HA:=ai (show wa.heap[w.heap.size]?=some (.cells #[.slice lo.sa lo.sn lo.sc,.map (some lo.bm),.slice lo.fa lo.fn lo.fc] 74 (0,0)) by rw[cN];exact bR w _);obtain⟨x0,x1,x2,xf⟩:=dM HA.o;obtain⟨C0,C1,C2⟩:=wcn3 x0 x1 x2;go_enter Tryz.func33,Tryz.ntmps33
 go_upto_region 1 with fail;rw[<-cN];clear cN;refine kT 5 ?_
 repeat (refine bZ ?_;intro K hK;go_big_quiet_op;go_big_quiet_on)
 refine mU (fun W hW=>HW.o W) ?_;intro K hK;go_simp;go_big_quiet_on;refine mU (fun W hW=>HH.o W (dm.o.trans hW)) ?_;intro K hK;go_simp;go_big_quiet_on
 repeat (refine bZ ?_;intro K hK;go_big_quiet_op;go_big_quiet_on)
 refine gC fun w1 hx1 _ _=>?_
 have dI:=ai (dm.o.trans hx1);have HB:=ai (hx1.blk HA.o);clear hx1 x0 x1 x2 xf C0 C1 C2 HA dm HH HW;cases T
 ·go_wp2_with fail;go_ret;exact bW (by simp) dI.o
 go_wp2_with fail;refine(Nh.o w1).mono ?_;rintro r w2 ⟨rfl,hx2⟩;have dN:=ai (dI.o.trans hx2);have fY:=ai (hx2.blk HB.o);clear hx2 HB dI Nh hm1 hm2;go_wp2_with fail;go_loopw [15] (BkI (val s l f) u nu w2) (fun i _=>nu - (intOf i).toNat)
 case atStart=>exact⟨0,rfl,Nat.zero_le _,rfl,Tz _⟩
 case round =>
  obtain⟨k,rfl,hk,hv,hx⟩:=hrel;have HV:=ai hv;have HX:=ai (dN.o.trans hx);have BO:=ai hx;have nU:=ai (hx.blk fY.o);clear hv hx;by_cases hkn:k<nu
  ·have fq:k<u.length:=by have:=qB.o;omega
   have t1:=ag ((k:Int)<(nu:Int));obtain⟨b,off,rfl,v,Co,hrow,wU,Sg,-,-,PZ⟩:=gK.at u _ (gK.mono HX.o.sub u _ HD.o) k fq;obtain⟨c0,c1,c2,c3,c4,c5,c6,c7⟩:=hrow.eight;have se:=ai (fun W (hW:Ext wr W)=>HIH.o k fq v W (HX.o.trans hW) (wU.ext hW) Sg (gK.mono hW.sub _ _ PZ));have HST:=ai (aa4 (val s l f) fq);obtain⟨Q,hQ⟩:∃Q,Q=(val s l f u[k].cond&&!nM (val s l f) u[k].gH):=⟨_,rfl⟩
   rw[<-hQ] at se HST;clear Co hrow wU Sg PZ hQ HIH;obtain⟨x0,x1,x2,xf⟩:=dM nU.o;obtain⟨wb,iV⟩:∃wb,wb=wr.alloc (.cells #[.string v.name,v.x.op,.string v.x.name,.slice v.x.aw v.x.nw v.x.cw,v.x.lo,v.x.hi,.slice v.x.aa v.x.na v.x.ca,.slice v.au v.nu v.cu] 53):=⟨_,rfl⟩
   have jK:=ai (show Ext wr wb by rw[iV];exact(Tz _).alloc _);have VB:wb.heap[wr.heap.size]?=some (.cells #[.string v.name,v.x.op,.string v.x.name,.slice v.x.aw v.x.nw v.x.cw,v.x.lo,v.x.hi,.slice v.x.aa v.x.na v.x.ca,.slice v.au v.nu v.cu] 53 (0,0)):=by rw[iV];exact bR wr _
   go_upto_region 6 with fail;rw[<-iV];clear iV x0 x1 x2 xf;obtain⟨x0,x1,x2,xf⟩:=dM (jK.o.blk nU.o);obtain⟨f0,f1,f2,f3,f4,f5,f6,f7,ff⟩:=oO VB;clear VB;go_wp2_with fail;refine(se.o wb jK.o).mono ?_;rintro r w5 ⟨rfl,dh⟩;have gW:=ai (jK.o.trans dh);clear dh f0 f1 f2 f3 f4 f5 f6 f7 ff x0 x1 x2 xf c0 c1 c2 c3 c4 c5 c6 c7;cases Q
   ·go_wp2_with fail;go_roundw
    case rel=>exact⟨k+1,by go_num,by omega,by rw[HV.o,HST.o];rfl,BO.o.trans gW.o⟩
    case measure=>simp[intOf];omega
   have HQ:=ai (show nM (val s l f) u=true by rw[HV.o,HST.o];rfl);go_wp2_with fail;go_ret;exact bW (by rw[HQ.o];rfl) (HX.o.trans gW.o)
  have t1:=ah ((k:Int)<(nu:Int));have HQ:=ai (show nM (val s l f) u=false by
   rw[HV.o,show k=u.length by have:=qB.o;omega,List.drop_length,nM])
  go_wp2_with fail;go_ret;exact bW (by rw[HQ.o];rfl) HX.o
def amI (l:ZI) (x:Int):Int:=match l.findIdx? (fun y=>y==x) with|some i=>i|none => -1
theorem aCp {l:ZI} {x:Int} {k:Nat} (hk:k<l.length) (h1:∀j (hj:j<l.length),j<k->(l[j]==x)=false) (h2:(l[k]==x)=true):amI l x=k:=by
 unfold amI;rw[show l.findIdx? (fun y=>y==x)=some k from by
  rw[aJ];exact⟨hk,h2,fun j hj=>by simpa using h1 j (by omega) hj⟩]
theorem ayA {l:ZI} {x:Int} (h1:∀j (hj:j<l.length),(l[j]==x)=false):amI l x = -1:=by
 unfold amI;rw[show l.findIdx? (fun y=>y==x)=none from by
  rw[bh];intro y hy;obtain⟨j,hj,rfl⟩:=bA hy;exact h1 j hj]
theorem aCq (l:ZI) (x:Int):decide (0<=amI l x)=l.any (·==x):=by
 unfold amI;cases h:l.findIdx? (fun y=>y==x) with
 | none =>
  rw[bh] at h;have:l.any (·==x)=false:=by
   rw[List.any_eq_false];intro y hy;simpa using h y hy
  rw[this]
  rfl
 | some i =>
  rw[aJ] at h;obtain⟨hi,h2,_⟩:=h;have:l.any (·==x)=true:=List.any_eq_true.2 ⟨_,aD hi,h2⟩;rw[this];simp
theorem am3 (l:ZI) (x:Int) (a:OA) (n c:Nat) (w:World) (hn:n<=1000000000000000) (hl:dG w l a n) :
  Calls Tryz.prog 114 #[.slice a n c,x] w (pg (.int .i64 (amI l x)) w):=by
 have HL:=ai hl;have OX:=ai hl.1;obtain⟨R,hR⟩:∃R,R=amI l x:=⟨_,rfl⟩
 rw[<-hR];have HR:=ai hR;clear hl hR;go_enter Tryz.func114,Tryz.ntmps114
 go_wp2_with fail
 go_loop [8] (fun t=>∃k:Nat,t=.int .i64 k/\k<=n/\∀j (hj:j<l.length),j<k->(l[j]==x)=false) (fun t=>n - (intOf t).toNat)
 case atStart=>exact⟨0,rfl,by omega,fun _ _ h=>by omega⟩
 case round =>
  obtain⟨k,rfl,hk,hne⟩:=hrel;have HE:=ai hne;clear hne;by_cases hlt:k<n
  ·have hlt':k<l.length:=by have:=OX.o;omega
   have t1:=ag ((k:Int)<(n:Int));obtain⟨b,off,rfl,hcell⟩:=HL.o.2 k hlt';obtain⟨q,hq⟩:∃q,q=l[k]:=⟨_,rfl⟩
   rw[<-hq] at hcell;have HQ:=ai hq;clear hq;cases hx:(x==q)
   ·go_wp2_with fail
    go_round
    case rel =>
     refine⟨k+1,by go_num,by omega,?_⟩;intro j hj hj2;by_cases hjk:j<k
     ·exact HE.o j hj hjk
     obtain rfl:j=k:=by omega
     rw[<-HQ.o];rw[beq_eq_false_iff_ne] at hx ⊢;exact fun e=>hx e.symm
    case measure=>simp[intOf];omega
   have HH:=ai (show R=(k:Int) by rw[HR.o];exact aCp hlt' HE.o (by rw[<-HQ.o];rw[a47] at hx ⊢;exact hx.symm));go_wp2_with fail;go_ret;exact sZ HH.o.symm
  have t1:=ah ((k:Int)<(n:Int));have HH:=ai (show R = -1 by rw[HR.o];exact ayA (fun j hj=>HE.o j hj (by have:=OX.o;omega)));go_wp2_with fail;go_ret;exact sZ HH.o.symm
theorem adK (l:ZI) (x:Int) (a:OA) (n c:Nat) (w:World) (hn:n<=1000000000000000) (hl:dG w l a n) :
  Calls Tryz.prog 85 #[.slice a n c,x] w (pg (.bool (l.any (·==x))) w):=by
 have HC:=ai (am3 l x a n c w hn hl);rw[<-aCq];obtain⟨R,hR⟩:∃R,R=amI l x:=⟨_,rfl⟩
 rw[<-hR] at HC ⊢;clear hR hl;go_enter Tryz.func85,Tryz.ntmps85
 go_wp2_with fail;refine HC.o.mono ?_;rintro e w' ⟨rfl,rfl⟩;go_wp2_with fail;go_ret;exact fU rfl
def kS (ks:ZI) (l:List cK):List cK:=l.filter fun x=>ks.any (·==x.kind)
theorem aCD (ks:ZI) {l:List cK} {k:Nat} (hk:k<l.length):kS ks (l.take (k+1))=if ks.any (·==l[k].kind)=true then kS ks (l.take k)++[l[k]] else kS ks (l.take k):=by
 unfold kS;rw[aO hk,List.filter_append,List.filter_cons];cases ks.any (·==l[k].kind)<;>simp
theorem amP (ks:ZI) (l:List cK):(kS ks l).length<=l.length:=List.length_filter_le _ _
def OfQ (ks:ZI) (l:List cK) (w:World) (r:Ending) (w':World):Prop:=∃u a c,u=kS ks l/\r=.returned (.slice a u.length c)/\cZ w' u a u.length c/\Ext w w'
def acd (ks:ZI) (l:List cK) (w0 w:World) (r:Ending) (w':World):Prop:=∃u vs a c,u=kS ks l/\r=.returned (.slice a u.length c)/\vG w0 u vs/\eE (mask w' (List.range w.heap.size)) 10 fM.cells vs a u.length c/\Ext w w'
theorem acd.of {ks:ZI} {l:List cK} {w:World} {r:Ending} {w':World} (h:acd ks l w w r w'):OfQ ks l w r w':=by
 obtain⟨u,vs,a,c,h1,h2,h3,h4,h5⟩:=h;exact⟨u,a,c,h1,h2,⟨vs,h4.mono (cC _ _),h3.1,fun i q1 q2=>(h3.2 i q1 q2).mono h5.sub⟩,h5⟩
theorem NR (l:List cK) (ks:ZI) (a:OA) (n c:Nat) (ka:OA) (kn kc:Nat) {w0:World} (w:World) (hl:cZ w0 l a n c) (h0:Ext w0 w) (hn:n<=1000000) (hk:dG w ks ka kn) (hkn:kn<=100) :
  Calls Tryz.prog 58 #[.slice a n c,.slice ka kn kc] w (acd ks l w0 w):=by
 have HCT:=ai (fun (x:Int) W (hW:Ext w W)=>adK ks x ka kn kc W (by omega) (hk.ext hW));have HL:=ai hl;have H0:=ai h0;have HN:=ai hl.len;clear hl hk h0;go_enter Tryz.func58,Tryz.ntmps58
 go_wp2_with fail;go_loopw [5,10] (fun lv i wr=>∃(k:Nat) (vs:List fM) (u:List cK),i=.int .i64 k/\k<=n/\u=kS ks (l.take k)/\u.length<=k/\vG w0 u vs/\wr.ownsRow w.heap.size 48 10 lv u.length (vs.flatMap fM.cells)/\Ext w wr) (fun _ i _=>n - (intOf i).toNat)
 case atStart=>exact⟨0,[],[],rfl,by omega,rfl,by simp,⟨rfl,fun i h=>by simp at h⟩,a4' _ _ _ _,Tz _⟩
 case round =>
  obtain⟨k,vs,u,rfl,aDm,hu,hul,hcr,hown,hx⟩:=hrel;obtain⟨la,lc,hlv⟩:=lF hown;subst hlv;have HU:=ai hu;have xW:=ai hcr;have kD:=ai hown;have HX:=ai hx;clear hu hcr hown hx;by_cases hlt:k<n
  ·have fq:k<l.length:=by have:=HN.o;omega
   have t1:=ag ((k:Int)<(n:Int));obtain⟨cb,ld,v,rfl,fO,hrow⟩:=HL.o.at fq;obtain⟨c0,c1,c2,c3,c4,c5,c6,c7,c8,c9⟩:=(hrow.mono (H0.o.trans HX.o).sub).BB;have qC:=ai fO;obtain⟨B,hB⟩:∃B,B=ks.any (·==v.kind):=⟨_,rfl⟩
   have HST:=ai (show kS ks (l.take (k+1))=if B=true then u++[l[k]] else u by rw[aCD ks fq,hB,fO.1,HU.o]);have Lb:=ai (fun W (hW:Ext w W)=>HCT.o v.kind W hW);rw[<-hB] at Lb;clear fO hrow hB;obtain⟨wb,iV⟩:∃wb,wb=wr.alloc (.cells #[ v.kind,.string v.name,v.x.op,.string v.x.name,.slice v.x.aw v.x.nw v.x.cw,v.x.lo,v.x.hi,.slice v.x.aa v.x.na v.x.ca,.slice v.au v.nu v.cu,v.ck] 48):=⟨_,rfl⟩
   have jK:=ai (show Ext wr wb by rw[iV];exact(Tz _).alloc _);have hb:=(show wb.heap[wr.heap.size]?=some (.cells #[ v.kind,.string v.name,v.x.op,.string v.x.name,.slice v.x.aw v.x.nw v.x.cw,v.x.lo,v.x.hi,.slice v.x.aa v.x.na v.x.ca,.slice v.au v.nu v.cu,v.ck] 48 (0,0)) by rw[iV];exact bR wr _)
   have hsb:w.heap.size<=wb.heap.size:=aV HX.o.size jK.o.size;obtain⟨f0,f1,f2,f3,f4,f5,f6,f7,f8,f9,ff⟩:=rK hb;go_upto_region 5 with fail;rw[<-iV];clear iV hb c0 c1 c2 c3 c4 c5 c6 c7 c8 c9;go_wp2_with fail;refine(Lb.o wb (HX.o.trans jK.o)).mono ?_;rintro e w' ⟨rfl,rfl⟩;cases B
   case false =>
    go_wp2_with fail;go_roundw
    case rel=>exact⟨k+1,vs,u,by go_num,by omega,by rw[HST.o];rfl,by omega,xW.o,cO kD.o (jK.o.cR []) (by simp),HX.o.trans jK.o⟩
    case measure=>simp[intOf];omega
   case true =>
    have vF:=ai (cO kD.o (jK.o.cR []) (by simp));go_wp2_with (at_builtin;refine dA nr rfl _ _ rfl w.heap.size _ u.length _ rfl vF.o _ 1 1 rfl ?f0 rfl ?f1 ?f2 ?f3 ?f4 ?_)
    case f0=>simp
    case f1=>simp[Value.oneCell']
    case f2=>unfold maxLen;omega
    case f3=>omega
    case f4=>omega
    intro v8 w8 dY iI gX;have zo:=ai dY;have nB:=ai (iI.ext (HX.o.trans jK.o) fun q hq=>(vF.o.lt q (bV.1 hq)).1);clear dY iI gX f0 f1 f2 f3 f4 f5 f6 f7 f8 f9 ff;go_wp2_with fail;go_roundw
    case rel=>exact⟨k+1,vs++[v],u++[l[k]],by go_num,by omega,by rw[HST.o];rfl,by simp;omega,xW.o.snoc qC.o,by simpa[fM.cells] using zo.o,nB.o⟩
    case measure=>simp[intOf];omega
  have t1:=ah ((k:Int)<(n:Int));have HQ:=ai (show u=kS ks l by rw[HU.o,aS (by have:=HN.o;omega)]);have vC:=xW.o.1;have hown:=kD.o;rw[vC] at hown;obtain⟨a',c',hv,hr⟩:=eE.iZ fM.len hown;simp only[a45] at hv;obtain⟨rfl,-,rfl⟩:=hv;have yM:=ai (show eE (mask wr (List.range w.heap.size)) 10 fM.cells vs la u.length lc from⟨vC,by rw[vC];exact hr.2.1,hr.2.2.1,fun i hi=>by
   obtain⟨b',off',e1,h5⟩:=hr.2.2.2 i hi;subst e1;refine⟨b',off',rfl,fun j hj=>?_⟩;rw[eA,bL (fun hm=>by have h1:=(kD.o.lt b' rfl).1;have h2:b'<w.heap.size:=a43.1 hm;omega)];exact h5 j hj⟩)
  clear hown hr vC;go_wp2_with fail;go_ret;exact⟨u,vs,_,_,HQ.o,rfl,xW.o,yM.o,HX.o⟩
theorem af7 (l:List cK) (ks:ZI) (a:OA) (n c:Nat) (ka:OA) (kn kc:Nat) (w:World) (hl:cZ w l a n c) (hn:n<=1000000) (hk:dG w ks ka kn) (hkn:kn<=100) :
  Calls Tryz.prog 58 #[.slice a n c,.slice ka kn kc] w (OfQ ks l w) :=
 (NR l ks a n c ka kn kc w hl (Tz w) hn hk hkn).mono fun _ _ h=>h.of
theorem xI {W:World} {ks:ZI} {vs:Array Value} {t:TypeId} (hv:vs.toList=ks.map (fun x=>Value.int .i64 x)):dG (W.alloc (.cells vs t)) ks (some ⟨W.heap.size,0,none⟩) ks.length:=by
 refine⟨rfl,fun i hi=>⟨W.heap.size,0,rfl,?_⟩⟩;rw[Nat.zero_add,bX (bR W (.cells vs t)) i];have:vs[i]?=vs.toList[i]?:=by simp
 rw[this,hv];simp[hi]
theorem WE (l:List cK) (a:OA) (n c:Nat) (w:World) (hl:cZ w l a n c) (hn:n<=1000000) :
  Calls Tryz.prog 29 #[.slice a n c] w (OfQ [2] l w):=by
 have HX:=ai ((Tz w).alloc (.cells #[.int .i64 2] 3));have HOF:=ai (af7 l [2] a n c (some ⟨w.heap.size,0,none⟩) 1 1 (w.alloc (.cells #[.int .i64 2] 3)) (hl.ext HX.o) hn (xI rfl) (by omega));clear hl;go_enter Tryz.func29,Tryz.ntmps29
 go_wp2_with fail;refine HOF.o.mono ?_;rintro r w1 ⟨u,a',c',hu,rfl,h1,h2⟩;have HQ:=ai (show OfQ [2] l w (.returned (.slice a' u.length c')) w1 from⟨u,a',c',hu,rfl,h1,HX.o.trans h2⟩);clear hu h1 h2;go_wp2_with fail;go_ret;exact HQ.o
theorem Mn (l:List cK) (a:OA) (n c:Nat) (w:World) (hl:cZ w l a n c) (hn:n<=1000000) :
  Calls Tryz.prog 30 #[.slice a n c] w (OfQ [4] l w):=by
 have HX:=ai ((Tz w).alloc (.cells #[.int .i64 4] 3));have HOF:=ai (af7 l [4] a n c (some ⟨w.heap.size,0,none⟩) 1 1 (w.alloc (.cells #[.int .i64 4] 3)) (hl.ext HX.o) hn (xI rfl) (by omega));clear hl;go_enter Tryz.func30,Tryz.ntmps30
 go_wp2_with fail;refine HOF.o.mono ?_;rintro r w1 ⟨u,a',c',hu,rfl,h1,h2⟩;have HQ:=ai (show OfQ [4] l w (.returned (.slice a' u.length c')) w1 from⟨u,a',c',hu,rfl,h1,HX.o.trans h2⟩);clear hu h1 h2;go_wp2_with fail;go_ret;exact HQ.o
theorem Mm (l:List cK) (a:OA) (n c:Nat) (w:World) (hl:cZ w l a n c) (hn:n<=1000000) :
  Calls Tryz.prog 31 #[.slice a n c] w (OfQ [3] l w):=by
 have HX:=ai ((Tz w).alloc (.cells #[.int .i64 3] 3));have HOF:=ai (af7 l [3] a n c (some ⟨w.heap.size,0,none⟩) 1 1 (w.alloc (.cells #[.int .i64 3] 3)) (hl.ext HX.o) hn (xI rfl) (by omega));clear hl;go_enter Tryz.func31,Tryz.ntmps31
 go_wp2_with fail;refine HOF.o.mono ?_;rintro r w1 ⟨u,a',c',hu,rfl,h1,h2⟩;have HQ:=ai (show OfQ [3] l w (.returned (.slice a' u.length c')) w1 from⟨u,a',c',hu,rfl,h1,HX.o.trans h2⟩);clear hu h1 h2;go_wp2_with fail;go_ret;exact HQ.o
theorem MS (l:List cK) (a:OA) (n c:Nat) {w0:World} (w:World) (hl:cZ w0 l a n c) (h0:Ext w0 w) (hn:n<=1000000) :
  Calls Tryz.prog 32 #[.slice a n c] w (acd [5,6,7,8,9] l w0 w):=by
 have HX:=ai ((Tz w).alloc (.cells #[.int .i64 5,.int .i64 6,.int .i64 7,.int .i64 8,.int .i64 9] 3));have HOF:=ai (NR l [5,6,7,8,9] a n c (some ⟨w.heap.size,0,none⟩) 5 5 (w.alloc (.cells #[.int .i64 5,.int .i64 6,.int .i64 7,.int .i64 8,.int .i64 9] 3)) hl (h0.trans HX.o) hn (xI rfl) (by omega));clear hl h0;go_enter Tryz.func32,Tryz.ntmps32
 go_wp2_with fail;refine HOF.o.mono ?_;rintro r w1 ⟨u,vs,a',c',hu,rfl,h0,h1,h2⟩;have HQ:=ai (show acd [5,6,7,8,9] l w0 w (.returned (.slice a' u.length c')) w1 from⟨u,vs,a',c',hu,rfl,h0,h1.mono (cM _ (fun y hy=>by have:=HX.o.size;rw[a43] at hy ⊢;omega)),HX.o.trans h2⟩);clear hu h0 h1 h2;go_wp2_with fail;go_ret;exact HQ.o
theorem anP (l:List cK) (a:OA) (n c:Nat) (w:World) (hl:cZ w l a n c) (hn:n<=1000000) :
  Calls Tryz.prog 32 #[.slice a n c] w (OfQ [5,6,7,8,9] l w) :=
 (MS l a n c w hl (Tz w) hn).mono fun _ _ h=>h.of
def PdC (s:List Attr) (l:List cK) (x:cK):Prop:=Pd s l x.cond/\jY (Pd s l) x.gH/\x.gH.length<=1000000000000000
theorem avA {s:List Attr} {l:List cK} {f:ZI} {lo:fT} {m:Nat} (L:List cK) (a:OA) (n c:Nat) (B:Bool) (w:World) (h:WU w s l f lo m) (hl:cZ w L a n c) (hn:n<=1000000) (hp:∀x∈L,PdC s l x) :
  Calls Tryz.prog 28 #[lo.val,.slice a n c,.bool B] w (cz (.bool (L.any fun x=>ke (val s l f) x==B)) w):=by
 have Gl:=ai (fun (k:Nat) (hk:k<L.length) (v:fM) (W:World) (hW:Ext w W) (hc:ij W L[k] v)=>WD L[k].cond L[k].gH v.kind v.name v.x v.au v.nu v.cu v.ck W (h.ext hW) (hp _ (aD hk)).1 (hp _ (aD hk)).2.1 (by rw[hc.2.2.2.1];exact(hp _ (aD hk)).2.2) hc.2.2.2.1 hc.2.2.1 hc.2.2.2.2.2.2.1);have HL:=ai hl;have HN:=ai hl.len;clear h hl hp;obtain⟨R,hR⟩:∃R,R=L.any fun x=>ke (val s l f) x==B:=⟨_,rfl⟩
 rw[<-hR];have HR:=ai hR;clear hR;unfold fT.val at *;obtain⟨wa,cN⟩:∃wa,wa=w.alloc (.cells #[.slice lo.sa lo.sn lo.sc,.map (some lo.bm),.slice lo.fa lo.fn lo.fc] 74):=⟨_,rfl⟩
 have dm:=ai (show Ext w wa by rw[cN];exact(Tz _).alloc _);have HA:=ai (show wa.heap[w.heap.size]?=some (.cells #[.slice lo.sa lo.sn lo.sc,.map (some lo.bm),.slice lo.fa lo.fn lo.fc] 74 (0,0)) by rw[cN];exact bR w _);go_enter Tryz.func28,Tryz.ntmps28
 go_upto_region 1 with fail;rw[<-cN];clear cN;go_wp2_with fail;go_loopw [11] (fun i wr=>∃k:Nat,i=.int .i64 k/\k<=n/\(∀j (hj:j<L.length),j<k->(ke (val s l f) L[j]==B)=false)/\Ext wa wr) (fun i _=>n - (intOf i).toNat)
 case atStart=>exact⟨0,rfl,Nat.zero_le _,fun _ _ h=>by omega,Tz _⟩
 case round =>
  obtain⟨k,rfl,hk,hne,hx⟩:=hrel;have HE:=ai hne;have HX:=ai hx;clear hne hx;by_cases hlt:k<n
  ·have fq:k<L.length:=by have:=HN.o;omega
   have t1:=ag ((k:Int)<(n:Int));obtain⟨cb,ld,v,rfl,fO,hrow⟩:=HL.o.at fq;obtain⟨c0,c1,c2,c3,c4,c5,c6,c7,c8,c9⟩:=(hrow.mono (dm.o.trans HX.o).sub).BB;have se:=ai (fun W (hW:Ext w W)=>Gl.o k fq v W hW (fO.mono hW.sub));obtain⟨Q,hQ⟩:∃Q,Q=ke (val s l f) L[k]:=⟨_,rfl⟩
   rw[show (val s l f L[k].cond&&!nM (val s l f) L[k].gH)=Q from hQ.symm] at se;have HQ:=ai hQ;obtain⟨wb,iV⟩:∃wb,wb=wr.alloc (.cells #[ v.kind,.string v.name,v.x.op,.string v.x.name,.slice v.x.aw v.x.nw v.x.cw,v.x.lo,v.x.hi,.slice v.x.aa v.x.na v.x.ca,.slice v.au v.nu v.cu,v.ck] 48):=⟨_,rfl⟩
   have jK:=ai (show Ext wr wb by rw[iV];exact(Tz _).alloc _);have hb:=(show wb.heap[wr.heap.size]?=some (.cells #[ v.kind,.string v.name,v.x.op,.string v.x.name,.slice v.x.aw v.x.nw v.x.cw,v.x.lo,v.x.hi,.slice v.x.aa v.x.na v.x.ca,.slice v.au v.nu v.cu,v.ck] 48 (0,0)) by rw[iV];exact bR wr _)
   obtain⟨x0,x1,x2,xf⟩:=dM (jK.o.blk (HX.o.blk HA.o));obtain⟨f0,f1,f2,f3,f4,f5,f6,f7,f8,f9,ff⟩:=rK hb;go_upto_region 4 with fail;rw[<-iV];clear iV hb c0 c1 c2 c3 c4 c5 c6 c7 c8 c9 fO hrow hQ;go_wp2_with fail;refine(se.o wb ((dm.o.trans HX.o).trans jK.o)).mono ?_;rintro e w5 ⟨rfl,dh⟩;have gW:=ai ((HX.o.trans jK.o).trans dh);clear dh f0 f1 f2 f3 f4 f5 f6 f7 f8 f9 ff x0 x1 x2 xf;cases hqb:(Q==B)
   ·go_wp2_with fail;go_roundw
    case rel =>
     refine⟨k+1,by go_num,by omega,?_,gW.o⟩;intro j hj hj2;by_cases hjk:j<k
     ·exact HE.o j hj hjk
     obtain rfl:j=k:=by omega
     rw[<-HQ.o];exact hqb
    case measure=>simp[intOf];omega
   have HH:=ai (show R=true by rw[HR.o];exact List.any_eq_true.2 ⟨_,aD fq,by rw[<-HQ.o];exact hqb⟩);go_wp2_with fail;go_ret;exact bW HH.o.symm (dm.o.trans gW.o)
  have t1:=ah ((k:Int)<(n:Int));have HH:=ai (show R=false by
   rw[HR.o,List.any_eq_false];intro x hx;obtain⟨j,hj,rfl⟩:=bA hx;rw[HE.o j hj (by have:=HN.o;omega)];simp)
  go_wp2_with fail;go_ret;exact bW HH.o.symm (dm.o.trans HX.o)
def aqT (d:rT) (c:cK):rT :=
 if c.kind=5 then (if d.lim<0\/c.ck<d.lim then { d with lim:=c.ck } else d)
 else if c.kind=6 then { d with xV:=max d.xV c.ck }
 else if c.kind=7 then { d with xU:=max d.xU c.ck }
 else if c.kind=8 then { d with xN:=max d.xN c.ck }
 else if c.kind=9 then { d with Bt:=true } else d
def Hw (d:rT) (L:List cK):rT:=L.foldl aqT d
theorem ay7 (d:rT) {L:List cK} {k:Nat} (hk:k<L.length):Hw d (L.take (k+1))=aqT (Hw d (L.take k)) L[k]:=by
 unfold Hw;rw[aO hk,List.foldl_append]
 rfl
def lJ:ZI:=[5,6,7,8,9]
theorem aHI (V:Ex->Bool) (d:rT) (x:cK):(if (lJ.any (·==x.kind)&&ke V x)=true then aqT d x else d)=⟨d.oP,N8 V d.lim x,pO V 6 d.xV x,pO V 7 d.xU x,pO V 8 d.xN x,d.Bt||(x.kind==9&&(ke V x != false))⟩:=by
 unfold N8 pO aqT lJ;obtain⟨kd,nm,c,u,am⟩:=x;obtain⟨a,b,d6,d7,d8,d9⟩:=d;simp only[List.any_cons,List.any_nil,Bool.or_false];generalize ke V ⟨kd,nm,c,u,am⟩=Q;by_cases h5:kd=5
 ·subst h5;cases Q<;>simp<;>(split<;>rfl)
 by_cases h6:kd=6
 ·subst h6;cases Q<;>simp
 by_cases h7:kd=7
 ·subst h7;cases Q<;>simp
 by_cases h8:kd=8
 ·subst h8;cases Q<;>simp
 by_cases h9:kd=9
 ·subst h9;cases Q<;>simp
 have e5:((5:Int)==kd)=false:=by simp;omega
 have e6:((6:Int)==kd)=false:=by simp;omega
 have e7:((7:Int)==kd)=false:=by simp;omega
 have e8:((8:Int)==kd)=false:=by simp;omega
 have e9:((9:Int)==kd)=false:=by simp;omega
 have f5:(kd==5)=false:=by simp;omega
 have f6:(kd==6)=false:=by simp;omega
 have f7:(kd==7)=false:=by simp;omega
 have f8:(kd==8)=false:=by simp;omega
 have f9:(kd==9)=false:=by simp;omega
 simp[e5,e6,e7,e8,e9,f5,f6,f7,f8,f9]
theorem Fh (V:Ex->Bool):(l:List cK)->(d:rT)->Hw d ((kS lJ l).filter (ke V))=⟨d.oP,l.foldl (N8 V) d.lim,l.foldl (pO V 6) d.xV,l.foldl (pO V 7) d.xU,l.foldl (pO V 8) d.xN,d.Bt||jC V 9 false l⟩
 | [],d=>by cases d;simp[Hw,kS,jC]
 | x::r,d=>by
  have ih:=Fh V r (if (lJ.any (·==x.kind)&&ke V x)=true then aqT d x else d);have e:Hw d ((kS lJ (x::r)).filter (ke V))=Hw (if (lJ.any (·==x.kind)&&ke V x)=true then aqT d x else d) ((kS lJ r).filter (ke V)):=by
   unfold kS;rw[List.filter_cons];cases lJ.any (·==x.kind)
   ·simp
   cases hq:ke V x
   ·simp[hq]
   simp[hq,Hw]
  rw[e,ih,aHI];simp only[aX,jC,Bool.or_assoc]
theorem zD (V:Ex->Bool) (k:Int) (neg B:Bool) (hB:B=!neg):(l:List cK)->((kS [k] l).any fun x=>ke V x==B)=jC V k neg l
 | []=>rfl
 | x::r=>by
  have ih:=zD V k neg B hB r;rw[jC,<-ih];unfold kS;rw[List.filter_cons];have e:([k].any (·==x.kind))=(x.kind==k):=by
   simp only[List.any_cons,List.any_nil,Bool.or_false];by_cases h:x.kind=k
   ·rw[h]
   rw[beq_eq_false_iff_ne.2 h,beq_eq_false_iff_ne.2 (fun e=>h e.symm)]
  rw[e];cases x.kind==k
  ·simp
  subst hB;rw[bM rfl,List.any_cons]
  congr 1
  cases ke V x<;>cases neg<;>rfl
theorem Ox {w:World} {B:Nat} {d d':rT} (i:Nat) (v:Value) (h:w.heap[B]?=some (EA d)) (e:d.cells.setIfInBounds i v=d'.cells):(w.setCell ⟨B,i,none⟩ v).heap[B]?=some (EA d'):=by
 have:=aI w B i _ _ v h;rw[e] at this;exact this
theorem MN (L:List cK) (a:OA) (n c:Nat) (w:World) (hl:cZ w L a n c) (hn:n<=1000000) :
  Calls Tryz.prog 34 #[.slice a n c] w (cz (.agg (Hw ⟨4,-1,0,0,0,false⟩ L).cells) w):=by
 have HL:=ai hl;have HN:=ai hl.len;obtain⟨D0,hD0⟩:∃D0:rT,D0=⟨4,-1,0,0,0,false⟩:=⟨_,rfl⟩
 rw[<-hD0];obtain⟨R,hR⟩:∃R,R=Hw D0 L:=⟨_,rfl⟩
 rw[<-hR];have HR:=ai hR;have HD0:=ai hD0;clear hl hR hD0;obtain⟨wa,cN⟩:∃wa,wa=(w.alloc (.cells #[.int .i64 0,.int .i64 0,.int .i64 0,.int .i64 0,.int .i64 0,.bool false] 29)).alloc (.cells #[.int .i64 4,.int .i64 (-1),.int .i64 0,.int .i64 0,.int .i64 0,.bool false] 29):=⟨_,rfl⟩
 have dm:=ai (show Ext w wa by rw[cN];exact((Tz _).alloc _).alloc _);have HA:=ai (show wa.heap[w.heap.size]?=some (EA ⟨0,0,0,0,0,false⟩) by rw[cN];exact bU (bR w _));have HB:=ai (show wa.heap[w.heap.size+1]?=some (EA D0) by rw[cN,HD0.o];exact cT (by simp));go_enter Tryz.func34,Tryz.ntmps34
 go_upto_region 2 with fail;rw[<-cN];clear cN;obtain⟨b0,hb0⟩:∃b0,b0=w.heap.size:=⟨_,rfl⟩
 rw[<-hb0] at HA HB ⊢;have hlo:w.heap.size<=b0:=by omega
 clear hb0;go_wp2_with fail;go_loopw [9] (fun i wr=>∃(k:Nat) (d:rT),i=.int .i64 k/\k<=n/\d=Hw D0 (L.take k)/\wr.heap[b0]?=some (EA ⟨0,0,0,0,0,false⟩)/\wr.heap[b0+1]?=some (EA d)/\Ext w wr) (fun i _=>n - (intOf i).toNat)
 case atStart=>exact⟨0,D0,rfl,Nat.zero_le _,rfl,HA.o,HB.o,dm.o⟩
 case round =>
  obtain⟨k,d,rfl,hk,hd,h0,h1,hx⟩:=hrel;have HD:=ai hd;have H0:=ai h0;have H1:=ai h1;have HX:=ai hx;have kI:=bS h1;clear hd h0 h1 hx HA HB dm;by_cases hlt:k<n
  ·have fq:k<L.length:=by have:=HN.o;omega
   have t1:=ag ((k:Int)<(n:Int));obtain⟨cb,ld,v,rfl,fO,hrow⟩:=HL.o.at fq;obtain⟨c0,c1,c2,c3,c4,c5,c6,c7,c8,c9⟩:=(hrow.mono HX.o.sub).BB;have HST:=ai (show Hw D0 (L.take (k+1))=aqT d L[k] by rw[ay7 D0 fq,HD.o]);have hvk:v.kind=L[k].kind:=fO.1;have hva:v.ck=L[k].ck:=fO.2.2.2.2.2.2.2;unfold aqT at HST;rw[<-hvk,<-hva] at HST;clear fO hrow hvk hva;obtain⟨wb,iV⟩:∃wb,wb=wr.alloc (.cells #[ v.kind,.string v.name,v.x.op,.string v.x.name,.slice v.x.aw v.x.nw v.x.cw,v.x.lo,v.x.hi,.slice v.x.aa v.x.na v.x.ca,.slice v.au v.nu v.cu,v.ck] 48):=⟨_,rfl⟩
   have jK:=ai (show Ext wr wb by rw[iV];exact(Tz _).alloc _);have hb:=(show wb.heap[wr.heap.size]?=some (.cells #[ v.kind,.string v.name,v.x.op,.string v.x.name,.slice v.x.aw v.x.nw v.x.cw,v.x.lo,v.x.hi,.slice v.x.aa v.x.na v.x.ca,.slice v.au v.nu v.cu,v.ck] 48 (0,0)) by rw[iV];exact bR wr _)
   obtain⟨f0,f1,f2,f3,f4,f5,f6,f7,f8,f9,ff⟩:=rK hb;have G0:=ai (jK.o.blk H0.o);have G1:=ai (jK.o.blk H1.o);have yx:=ai (HX.o.trans jK.o);have g1:=G1.o;unfold EA rT.cells at g1;obtain⟨d0,d1,d2,d3,d4,d5,df⟩:=dH g1;go_upto_region 5 with fail;rw[<-iV];clear iV hb c0 c1 c2 c3 c4 c5 c6 c7 c8 c9 g1 H0 H1 HX jK;by_cases k5:v.kind=5
   ·have q5:(v.kind==5)=true:=by simp[k5]
    rw[bM k5] at HST;clear k5;cases t2:decide (d.lim<0)
    ·cases t3:decide (v.ck<d.lim)
     ·have HQ:=ai (show Hw D0 (L.take (k+1))=d by rw[HST.o,bL];simp only[bI] at t2 t3;omega);go_wp2_with fail;go_roundw
      case rel=>exact⟨k+1,d,by go_num,by omega,HQ.o.symm,G0.o,G1.o,yx.o⟩
      case measure=>simp[intOf];omega
     have HQ:=ai (show Hw D0 (L.take (k+1))={ d with lim:=v.ck } by rw[HST.o,bM (a4Z (of_decide_eq_true t3))]);go_wp2_with fail;go_roundw
     case rel=>exact⟨k+1,{ d with lim:=v.ck },by go_num,by omega,HQ.o.symm,(show ct [b0+1] wb (wb.setCell ⟨b0+1,1,none⟩ (.int .i64 v.ck)) from(ct.refl _ _).setCell (aoX (by simp)) _).blk G0.o (by simp),Ox 1 (.int .i64 v.ck) G1.o rfl,(show ct [b0+1] wb (wb.setCell ⟨b0+1,1,none⟩ (.int .i64 v.ck)) from(ct.refl _ _).setCell (aoX (by simp)) _).ext yx.o (by simp;omega)⟩
     case measure=>simp[intOf];omega
    have HQ:=ai (show Hw D0 (L.take (k+1))={ d with lim:=v.ck } by rw[HST.o,bM (aoX (of_decide_eq_true t2))]);go_wp2_with fail;go_roundw
    case rel=>exact⟨k+1,{ d with lim:=v.ck },by go_num,by omega,HQ.o.symm,(show ct [b0+1] wb (wb.setCell ⟨b0+1,1,none⟩ (.int .i64 v.ck)) from(ct.refl _ _).setCell (aoX (by simp)) _).blk G0.o (by simp),Ox 1 (.int .i64 v.ck) G1.o rfl,(show ct [b0+1] wb (wb.setCell ⟨b0+1,1,none⟩ (.int .i64 v.ck)) from(ct.refl _ _).setCell (aoX (by simp)) _).ext yx.o (by simp;omega)⟩
    case measure=>simp[intOf];omega
   have q5:(v.kind==5)=false:=by simp[k5]
   rw[bL k5] at HST;clear k5;by_cases k6:v.kind=6
   ·have q6:(v.kind==6)=true:=by simp[k6]
    rw[bM k6] at HST;have HQ:=ai (show Hw D0 (L.take (k+1))={ d with xV:=max d.xV v.ck } from HST.o);clear k6;go_wp2_with fail;go_roundw
    case rel=>exact⟨k+1,{ d with xV:=max d.xV v.ck },by go_num,by omega,HQ.o.symm,(show ct [b0+1] wb (wb.setCell ⟨b0+1,2,none⟩ (.int .i64 (max d.xV v.ck))) from(ct.refl _ _).setCell (aoX (by simp)) _).blk G0.o (by simp),Ox 2 (.int .i64 (max d.xV v.ck)) G1.o rfl,(show ct [b0+1] wb (wb.setCell ⟨b0+1,2,none⟩ (.int .i64 (max d.xV v.ck))) from(ct.refl _ _).setCell (aoX (by simp)) _).ext yx.o (by simp;omega)⟩
    case measure=>simp[intOf];omega
   have q6:(v.kind==6)=false:=by simp[k6]
   rw[bL k6] at HST;clear k6;by_cases k7:v.kind=7
   ·have q7:(v.kind==7)=true:=by simp[k7]
    rw[bM k7] at HST;have HQ:=ai (show Hw D0 (L.take (k+1))={ d with xU:=max d.xU v.ck } from HST.o);clear k7;go_wp2_with fail;go_roundw
    case rel=>exact⟨k+1,{ d with xU:=max d.xU v.ck },by go_num,by omega,HQ.o.symm,(show ct [b0+1] wb (wb.setCell ⟨b0+1,3,none⟩ (.int .i64 (max d.xU v.ck))) from(ct.refl _ _).setCell (aoX (by simp)) _).blk G0.o (by simp),Ox 3 (.int .i64 (max d.xU v.ck)) G1.o rfl,(show ct [b0+1] wb (wb.setCell ⟨b0+1,3,none⟩ (.int .i64 (max d.xU v.ck))) from(ct.refl _ _).setCell (aoX (by simp)) _).ext yx.o (by simp;omega)⟩
    case measure=>simp[intOf];omega
   have q7:(v.kind==7)=false:=by simp[k7]
   rw[bL k7] at HST;clear k7;by_cases k8:v.kind=8
   ·have q8:(v.kind==8)=true:=by simp[k8]
    rw[bM k8] at HST;have HQ:=ai (show Hw D0 (L.take (k+1))={ d with xN:=max d.xN v.ck } from HST.o);clear k8;go_wp2_with fail;go_roundw
    case rel=>exact⟨k+1,{ d with xN:=max d.xN v.ck },by go_num,by omega,HQ.o.symm,(show ct [b0+1] wb (wb.setCell ⟨b0+1,4,none⟩ (.int .i64 (max d.xN v.ck))) from(ct.refl _ _).setCell (aoX (by simp)) _).blk G0.o (by simp),Ox 4 (.int .i64 (max d.xN v.ck)) G1.o rfl,(show ct [b0+1] wb (wb.setCell ⟨b0+1,4,none⟩ (.int .i64 (max d.xN v.ck))) from(ct.refl _ _).setCell (aoX (by simp)) _).ext yx.o (by simp;omega)⟩
    case measure=>simp[intOf];omega
   have q8:(v.kind==8)=false:=by simp[k8]
   rw[bL k8] at HST;clear k8;by_cases k9:v.kind=9
   ·have q9:(v.kind==9)=true:=by simp[k9]
    rw[bM k9] at HST;clear k9;go_wp2_with fail;go_roundw
    case rel=>exact⟨k+1,{ d with Bt:=true },by go_num,by omega,HST.o.symm,(show ct [b0+1] wb (wb.setCell ⟨b0+1,5,none⟩ (.bool true)) from(ct.refl _ _).setCell (aoX (by simp)) _).blk G0.o (by simp),Ox 5 (.bool true) G1.o rfl,(show ct [b0+1] wb (wb.setCell ⟨b0+1,5,none⟩ (.bool true)) from(ct.refl _ _).setCell (aoX (by simp)) _).ext yx.o (by simp;omega)⟩
    case measure=>simp[intOf];omega
   have q9:(v.kind==9)=false:=by simp[k9]
   rw[bL k9] at HST;clear k9;go_wp2_with fail;go_roundw
   case rel=>exact⟨k+1,d,by go_num,by omega,HST.o.symm,G0.o,G1.o,yx.o⟩
   case measure=>simp[intOf];omega
  have t1:=ah ((k:Int)<(n:Int));have HQ:=ai (show R=d by rw[HR.o,HD.o,aS (by have:=HN.o;omega)]);have h1:=H1.o;have h0:=H0.o;unfold EA rT.cells at h0 h1;obtain⟨d0,d1,d2,d3,d4,d5,df⟩:=dH h1;obtain⟨z0,z1,z2,z3,z4,z5,zf⟩:=dH h0;go_wp2_with fail;obtain⟨w8,gX⟩:∃w8,w8=fA wr b0 (.int .i64 d.oP) (.int .i64 d.lim) (.int .i64 d.xV) (.int .i64 d.xU) (.int .i64 d.xN) (.bool d.Bt):=⟨_,rfl⟩
  have nB:=ai (show Ext w w8 by rw[gX];exact(fe _ _).ext HX.o (by simp;omega));have h8:w8.heap[b0]?=some (.cells #[ d.oP,d.lim,d.xV,d.xU,d.xN,.bool d.Bt] 29 (0,0)):=by rw[gX];exact fH h0
  unfold fA at gX;rw[<-gX];clear gX z0 z1 z2 z3 z4 z5 zf h0 h1;obtain⟨z0,z1,z2,z3,z4,z5,zf⟩:=dH h8;refine a5a (v:=.agg R.cells) (by rw[HQ.o];simp[results,Tryz.results34,go_sem,rT.cells,z0,z1,z2,z3,z4,z5]) rfl ?_;exact⟨rfl,nB.o⟩
open Go.RowKit
inductive Rs where
 | mk (name:BA) (dg:Bool) (proof:Pr) (gH:List Rs)
def Rs.dg:Rs->Bool
 | .mk _ a _ _=>a
def Rs.proof:Rs->Pr
 | .mk _ _ p _=>p
def Rs.gH:Rs->List Rs
 | .mk _ _ _ u=>u
structure jf where
 name:BA
 dg:Bool
 p:gS
 a:OA
 n:Nat
 c:Nat
def jf.cells (v:jf):List Value:=[.string v.name,.bool v.dg,.bool v.p.value,.int .i64 v.p.pick,.slice v.p.a v.p.n v.p.c,.slice v.a v.n v.c]
def jf.val (v:jf):Value:=.agg #[.string v.name,.bool v.dg,.bool v.p.value,.int .i64 v.p.pick,.slice v.p.a v.p.n v.p.c,.slice v.a v.n v.c]
theorem jf.len (v:jf):v.cells.length=6:=rfl
inductive kC (w:World):Rs->jf->Prop
 | mk {nm:BA} {b:Bool} {p:Pr} {us:List Rs} {pv:gS} {a:OA} {n c:Nat} (vs:List jf) (hp:gL w p pv) (hr:eE w 6 jf.cells vs a n c) (hl:vs.length=us.length)
   (h:∀i (h1:i<us.length) (h2:i<vs.length),kC w us[i] vs[i]):kC w (.mk nm b p us) ⟨nm,b,pv,a,n,c⟩
theorem kC.mono {w w':World} {p:Rs} {v:jf} (h:kC w p v) (hs:Sub w w'):kC w' p v:=by
 induction h with
 | mk vs hp hr hl _ ih=>exact .mk vs (hp.mono hs) (hr.mono hs) hl ih
def mj (w:World) (l:List Rs) (vs:List jf):Prop:=l.length=vs.length/\∀i (h1:i<l.length) (h2:i<vs.length),kC w l[i] vs[i]
theorem mj.mono {w w':World} {l:List Rs} {vs:List jf} (h:mj w l vs) (hs:Sub w w'):mj w' l vs:=⟨h.1,fun i h1 h2=>(h.2 i h1 h2).mono hs⟩
theorem mj.nil (w:World):mj w [] []:=⟨rfl,fun i h=>by simp at h⟩
theorem mj.snoc {w:World} {l:List Rs} {vs:List jf} {c:Rs} {v:jf} (h:mj w l vs) (hc:kC w c v):mj w (l++[c]) (vs++[v]):=by
 refine⟨by simp[h.1],fun i h1 h2=>?_⟩;by_cases hi:i<l.length
 ·have hi2:i<vs.length:=by rw[<-h.1];exact hi
  simp only[bD hi,bD hi2];exact h.2 i hi hi2
 have e1:i=l.length:=by simp at h1;omega
 subst e1;simp only[bK (aU _),bK (show vs.length<=l.length by rw[h.1];exact aU _),Nat.sub_self,bB];simpa[h.1] using hc
theorem Qq:uq 55 69 (.agg #[.string ⟨#[]⟩,.bool false,.bool false,.int .i64 0,.slice none 0 0,.slice none 0 0]) 6 88:=⟨by kernel_rfl,by kernel_rfl,rfl,by decide⟩
def iE (w:World) (l:List Rs) (a:OA) (n c:Nat):Prop:=∃vs,mj w l vs/\eE w 6 jf.cells vs a n c
theorem iE.mono {w w':World} {l:List Rs} {a:OA} {n c:Nat} (h:iE w l a n c) (hs:Sub w w'):iE w' l a n c:=by
 obtain⟨vs,h1,h2⟩:=h;exact⟨vs,h1.mono hs,h2.mono hs⟩
theorem tH {w:World} {M:ZN} {base:Nat} {a:OA} {n c:Nat} {l:List Rs} {vs:List jf} (h:w.ownsRow base 69 6 (.slice a n c) n (vs.flatMap jf.cells)) (hn:n=l.length) (hM:∀k,(Value.slice a n c).ownBlock=some k->k∉M) (hR:mj (mask w M) l vs):iE (mask w M) l a n c:=by
 subst hn;have hl:=hR.1;rw[hl] at h;obtain⟨a',c',e,hr⟩:=eE.iZ jf.len h;simp only[a45] at e;obtain⟨rfl,-,rfl⟩:=e;refine⟨vs,hR,hl,by rw[hl];exact hr.2.1,hr.2.2.1,fun i h4=>?_⟩;obtain⟨b',off',e1,h5⟩:=hr.2.2.2 i h4;subst e1;exact⟨b',off',rfl,fun j hj=>by rw[eA,bL (hM _ rfl)];exact h5 j hj⟩
theorem Gc {w:World} {p:Pr} {pv:gS} {us:List Rs} {a:OA} {n c:Nat} (hp:gL w p pv) (h:iE w us a n c) (nm:BA) (b:Bool):kC w (.mk nm b p us) ⟨nm,b,pv,a,n,c⟩:=by
 obtain⟨vs,h1,h2⟩:=h;exact .mk vs hp h2 h1.1.symm h1.2
theorem Fg (w:World):iE w [] none 0 0:=⟨[],mj.nil w,rfl,aU _,aoX ⟨rfl,rfl⟩,fun i h=>by simp at h⟩
theorem Jw {w:World} {M:ZN} {g:Nat} {q:Rs} {v:jf} {t:TypeId} (h:w.heap[g]?=some (.cells v.cells.toArray t (0,0))) (hg:g∉M) (hq:kC (mask w M) q v):iE (mask w M) [q] (some ⟨g,0,none⟩) 1 1:=by
 refine⟨[v],⟨rfl,fun i h1 h2=>?_⟩,rfl,aU _,a4Z ⟨g,0,rfl⟩,fun i hi=>⟨g,0,rfl,fun j hj=>?_⟩⟩
 ·have h0:i=0:=by simp at h1;omega
  subst h0;exact hq
 have h0:i=0:=by simp at hi;omega
 subst h0;simp only[bB] at hj ⊢;rw[eA,bL hg,bX h];simp
def api (Y:Rs->Bool):List Rs->Bool
 | [x]=>x.dg&&Y x
 | _=>false
def abz (n:BA) (acc:Pr->Bool) (e:Bool) (N:List Rs->Bool) (Y:Rs->Bool):Rs->Bool
 | .mk rn ra rp ru=>decide (rn=n)&&acc rp&&(if (!rp.value||e)=true then ra==rp.value&&ru.isEmpty else if ra=true then N ru else api Y ru)
def qK (A:Ex->Pr->Bool):List Wb->(List Rs->Bool)×(Rs->Bool)
 | []=>(fun rs=>rs.isEmpty,fun _=>false)
 | .mk n c u::t=>(fun rs=>match rs with
   | []=>false
   | r::rs=>!r.dg&&abz n (A c) u.isEmpty (qK A u).1 (qK A u).2 r&&(qK A t).1 rs,fun r=>abz n (A c) u.isEmpty (qK A u).1 (qK A u).2 r||(qK A t).2 r)
def I8 (A:Ex->Pr->Bool) (n:BA) (c:Ex) (u:List Wb) (r:Rs):Bool:=abz n (A c) u.isEmpty (qK A u).1 (qK A u).2 r
def xE (A:Ex->Pr->Bool) (c:cK) (r:Rs):Bool:=I8 A c.name c.cond c.gH r
theorem ayV (A:Ex->Pr->Bool) {u:List Wb} {rs:List Rs} {k:Nat} (h1:k<u.length) (h2:k<rs.length):(qK A (u.drop k)).1 (rs.drop k)=(!rs[k].dg&&I8 A u[k].name u[k].cond u[k].gH rs[k]&&(qK A (u.drop (k+1))).1 (rs.drop (k+1))):=by
 rw[List.drop_eq_getElem_cons h1,List.drop_eq_getElem_cons h2];generalize hw:u[k]=x;cases x
 rw[qK]
 rfl
theorem aCS (A:Ex->Pr->Bool) {u:List Wb} {k:Nat} (h1:k<u.length) (r:Rs):(qK A (u.drop k)).2 r=(I8 A u[k].name u[k].cond u[k].gH r||(qK A (u.drop (k+1))).2 r):=by
 rw[List.drop_eq_getElem_cons h1];generalize hw:u[k]=x;cases x
 rw[qK]
 rfl
theorem aqx (A:Ex->Pr->Bool):(u:List Wb)->(rs:List Rs)->(qK A u).1 rs=true->rs.length=u.length
 | [],rs,h=>by
  rw[qK] at h;simpa using h
 | .mk n c u::t,[],h=>by rw[qK] at h;cases h
 | .mk n c u::t,r::rs,h=>by
  rw[qK] at h;simp only[aF] at h;simp[aqx A t rs h.2]
theorem PK {A:Ex->Pr->Bool} {V:Ex->Bool} (h:∀e p,A e p=true->p.value=V e) {n:BA} {c:Ex} {u:List Wb} (hN:∀rs,(qK A u).1 rs=true->nM V u=false) (hY:∀r,(qK A u).2 r=true->r.dg=true->nM V u=true) {r:Rs} (hm:I8 A n c u r=true):r.dg=(V c&&!nM V u)/\r.proof.value=V c:=by
 obtain⟨rn,ra,rp,ru⟩:=r;unfold I8 abz at hm;simp only[aF] at hm;obtain⟨⟨-,hp⟩,hm⟩:=hm;have hv:=h c rp hp;refine⟨?_,hv⟩
 show ra=_
 rw[<-hv];by_cases he:(!rp.value||u.isEmpty)=true
 ·rw[bM he] at hm;simp only[aF,a47] at hm;rw[hm.1];cases hb:rp.value
  ·rfl
  rw[hb] at he;have:u=[]:=by simpa using he
  rw[this,nM];rfl
 rw[bL he] at hm;have hb:rp.value=true:=by cases hb:rp.value<;>simp[hb] at he ⊢
 rw[hb];by_cases ha:ra=true
 ·rw[bM ha] at hm;rw[hN ru hm,ha];rfl
 rw[bL ha] at hm
 match ru,hm with
 | [x],hm =>
  simp only[api,aF] at hm;rw[hY x hm.2 hm.1];simpa using ha
theorem zN {A:Ex->Pr->Bool} {V:Ex->Bool} (h:∀e p,A e p=true->p.value=V e):(u:List Wb)->(∀rs,(qK A u).1 rs=true->nM V u=false)/\(∀r,(qK A u).2 r=true->r.dg=true->nM V u=true)
 | []=>by
  rw[qK,nM];exact⟨fun _ _=>rfl,fun r h=>by cases h⟩
 | .mk n c u::t=>by
  have hu:=zN h u;have ht:=zN h t;have hs:=fun r=>PK (n:=n) (c:=c) (r:=r) h hu.1 hu.2
  unfold I8 at hs;rw[qK,nM];refine⟨fun rs sq=>?_,fun r hr ha=>?_⟩
  ·cases rs with
   | nil=>cases sq
   | cons r rs =>
    simp only[aF,Bool.not_eq_true'] at sq;rw[ht.1 _ sq.2,<-(hs r sq.1.2).1,sq.1.1];rfl
  simp only[bG] at hr;rcases hr with hr|hr
  ·rw[<-(hs r hr).1,ha];rfl
  rw[ht.2 r hr ha];simp
theorem BX {A:Ex->Pr->Bool} {V:Ex->Bool} (h:∀e p,A e p=true->p.value=V e) {c:cK} {r:Rs} (hm:xE A c r=true):r.dg=ke V c/\r.proof.value=V c.cond :=
 PK h (zN h _).1 (zN h _).2 hm
def Ht (A:Ex->Pr->Bool) (cs:List cK) (b:Bool):Option (List Rs)->Option (List Rs)
 | some (r::t)=>if (cs.any fun c=>r.dg==b&&xE A c r)=true then some t else none
 | _=>none
def evS (A:Ex->Pr->Bool) (b:Bool) (st:Option (List Rs)) (c:cK):Option (List Rs):=match st with
 | some (r::t)=>if (r.dg==b&&xE A c r)=true then some t else none
 | _=>none
def oq (A:Ex->Pr->Bool) (cs:List cK) (b:Bool) (st:Option (List Rs)):Option (List Rs):=cs.foldl (evS A b) st
def apS (A:Ex->Pr->Bool) (st:Option (List Rs×List cK)) (c:cK):Option (List Rs×List cK):=match st with
 | some (r::t,f)=>if xE A c r=true then some (t,if r.dg=true then f++[c] else f) else none
 | _=>none
def RF (A:Ex->Pr->Bool) (cs:List cK) (st:Option (List Rs)):Option (List Rs×List cK):=cs.foldl (apS A) (st.map fun rs=>(rs,[]))
def Ri:Option (List Rs)->Bool
 | some []=>true
 | _=>false
def rT.eqB (a b:rT):Bool:=a.oP==b.oP&&a.lim==b.lim&&a.xV==b.xV&&a.xU==b.xU&&a.xN==b.xN&&a.Bt==b.Bt
theorem rT.eq_of {a b:rT} (h:a.eqB b=true):a=b:=by
 obtain⟨a1,a2,a3,a4,a5,a6⟩:=a;obtain⟨b1,b2,b3,b4,b5,b6⟩:=b;simp only[rT.eqB,aF,a47] at h;obtain⟨⟨⟨⟨⟨rfl,rfl⟩,rfl⟩,rfl⟩,rfl⟩,rfl⟩:=h
 rfl
def Lj (A:Ex->Pr->Bool) (l:List cK) (d:rT) (rs:List Rs):Bool :=
 if d.oP=1 then Ri (oq A (kS [2] l) false (some rs))&&d.eqB ⟨1,0,0,0,0,false⟩
 else if d.oP=2 then Ri (Ht A (kS [4] l) false (Ht A (kS [2] l) true (some rs)))&&d.eqB ⟨2,0,0,0,0,false⟩
 else if d.oP=3 then Ri (Ht A (kS [3] l) true (oq A (kS [4] l) true (Ht A (kS [2] l) true (some rs))))&&d.eqB ⟨3,0,0,0,0,false⟩
 else if d.oP=4 then match RF A (kS lJ l) (oq A (kS [3] l) false (oq A (kS [4] l) true (Ht A (kS [2] l) true (some rs)))) with
  | some ([],F)=>d.eqB (Hw ⟨4,-1,0,0,0,false⟩ F)
  | _=>false
 else false
def Ei (P:cK->Rs->Bool):List cK->List Rs->Prop
 | [],[]=>True
 | c::cs,r::rs=>P c r=true/\Ei P cs rs
 | _,_=>False
theorem Ei.len {P:cK->Rs->Bool}:(cs:List cK)->(rs:List Rs)->Ei P cs rs->rs.length=cs.length
 | [],[],_=>rfl
 | c::cs,r::rs,h=>by simp[Ei.len cs rs h.2]
 | [],r::rs,h=>h.elim
 | c::cs,[],h=>h.elim
theorem Ei.at {P:cK->Rs->Bool}:(cs:List cK)->(rs:List Rs)->Ei P cs rs->∀i (h1:i<cs.length) (h2:i<rs.length),P cs[i] rs[i]=true
 | c::cs,r::rs,h,0,_,_=>h.1
 | c::cs,r::rs,h,i+1,h1,h2=>Ei.at cs rs h.2 i (by simpa using h1) (by simpa using h2)
theorem Ei.all {P:cK->Rs->Bool} {Q:cK->Prop} (hq:∀c r,P c r=true->Q c):(cs:List cK)->(rs:List Rs)->Ei P cs rs->∀c∈cs,Q c
 | c::cs,r::rs,h,x,hx=>by
  rcases bz.1 hx with rfl|hx
  ·exact hq _ _ h.1
  exact Ei.all hq cs rs h.2 x hx
theorem aeb (A:Ex->Pr->Bool) (b:Bool) (cs:List cK):cs.foldl (evS A b) none=none:=by
 induction cs with
 | nil=>rfl
 | cons c cs ih=>exact ih
theorem aeg (A:Ex->Pr->Bool) (cs:List cK):cs.foldl (apS A) none=none:=by
 induction cs with
 | nil=>rfl
 | cons c cs ih=>exact ih
theorem aD8 (A:Ex->Pr->Bool) (b:Bool):(cs:List cK)->(rs t:List Rs)->(cs.foldl (evS A b) (some rs)=some t ↔ ∃r0,rs=r0++t/\Ei (fun c r=>r.dg==b&&xE A c r) cs r0)
 | [],rs,t=>by
  constructor
  ·intro h;have h:rs=t:=by simpa using h
   exact⟨[],by simp[h],trivial⟩
  rintro⟨r0,h,hm⟩;cases r0 with
  | nil=>simp[h]
  | cons=>exact hm.elim
 | c::cs,[],t=>by
  constructor
  ·intro h;rw[aX,show evS A b (some []) c=none from rfl,aeb] at h;cases h
  rintro⟨r0,h,hm⟩;cases r0 with
  | nil=>exact hm.elim
  | cons=>simp at h
 | c::cs,r::rs,t=>by
  rw[aX];by_cases hc:(r.dg==b&&xE A c r)=true
  ·rw[show evS A b (some (r::rs)) c=some rs by simp only[evS,bM hc]];rw[aD8 A b cs rs t];constructor
   ·rintro⟨r0,h,hm⟩;exact⟨r::r0,by rw[h];rfl,hc,hm⟩
   rintro⟨r0,h,hm⟩;cases r0 with
   | nil=>exact hm.elim
   | cons x r0 =>
    simp only[a48,a5c] at h;exact⟨r0,h.2,hm.2⟩
  rw[show evS A b (some (r::rs)) c=none by simp only[evS,bL hc]];rw[aeb];constructor
  ·intro h;cases h
  rintro⟨r0,h,hm⟩;cases r0 with
  | nil=>exact hm.elim
  | cons x r0 =>
   simp only[a48,a5c] at h;rw[<-h.1] at hm;exact a40 hm.1 hc
def adQ:List cK->List Rs->List cK
 | c::cs,r::rs=>if r.dg=true then c::adQ cs rs else adQ cs rs
 | _,_=>[]
theorem aER (A:Ex->Pr->Bool):(cs:List cK)->(rs:List Rs)->(f:List cK)->(t:List Rs)->(F:List cK)->(cs.foldl (apS A) (some (rs,f))=some (t,F) ↔ ∃r0,rs=r0++t/\Ei (xE A) cs r0/\F=f++adQ cs r0)
 | [],rs,f,t,F=>by
  constructor
  ·intro h;have h:rs=t/\f=F:=by simpa using h
   exact⟨[],by simp[h.1],trivial,by simp[adQ,h.2]⟩
  rintro⟨r0,h,hm,hf⟩;cases r0 with
  | nil=>simp[h,hf,adQ]
  | cons=>exact hm.elim
 | c::cs,[],f,t,F=>by
  constructor
  ·intro h;rw[aX,show apS A (some ([],f)) c=none from rfl,aeg] at h;cases h
  rintro⟨r0,h,hm,-⟩;cases r0 with
  | nil=>exact hm.elim
  | cons=>simp at h
 | c::cs,r::rs,f,t,F=>by
  rw[aX];by_cases hc:xE A c r=true
  ·rw[show apS A (some (r::rs,f)) c=some (rs,if r.dg=true then f++[c] else f) by simp only[apS,bM hc]];rw[aER A cs rs _ t F];constructor
   ·rintro⟨r0,h,hm,hf⟩;refine⟨r::r0,by rw[h];rfl,⟨hc,hm⟩,?_⟩;rw[hf,adQ];split<;>simp
   rintro⟨r0,h,hm,hf⟩;cases r0 with
   | nil=>exact hm.elim
   | cons x r0 =>
    simp only[a48,a5c] at h;refine⟨r0,h.2,hm.2,?_⟩;rw[hf,adQ,<-h.1];split<;>simp
  rw[show apS A (some (r::rs,f)) c=none by simp only[apS,bL hc]];rw[aeg];constructor
  ·intro h;cases h
  rintro⟨r0,h,hm,-⟩;cases r0 with
  | nil=>exact hm.elim
  | cons x r0 =>
   simp only[a48,a5c] at h;rw[<-h.1] at hm;exact a40 hm.1 hc
theorem ad3 (A:Ex->Pr->Bool) (cs:List cK) (b:Bool) (st:Option (List Rs)) (t:List Rs):Ht A cs b st=some t ↔ ∃r c,st=some (r::t)/\c∈cs/\r.dg=b/\xE A c r=true:=by
 unfold Ht;split
 ·rename_i r t'
  split
  ·rename_i h
   obtain⟨c,hc,h⟩:=List.any_eq_true.1 h;simp only[aF,a47] at h;constructor
   ·intro e;injection e with e
    subst e;exact⟨r,c,rfl,hc,h⟩
   rintro⟨r',c',e,-⟩;simp only[a42,a5c] at e;rw[e.2]
  rename_i h
  constructor
  ·intro e;cases e
  rintro⟨r',c',e,hc,h1,h2⟩;simp only[a42,a5c] at e;exact a40 (List.any_eq_true.2 ⟨c',hc,by rw[e.1,h1,h2];simp⟩) h
 rename_i h
 constructor
 ·intro e;cases e
 rintro⟨r,c,e,-⟩;exact a40 e (h _ _)
theorem U9 (A:Ex->Pr->Bool) (cs:List cK) (b:Bool) (st:Option (List Rs)) (t:List Rs):oq A cs b st=some t ↔ ∃r0,st=some (r0++t)/\Ei (fun c r=>r.dg==b&&xE A c r) cs r0:=by
 unfold oq;cases st with
 | none =>
  rw[aeb];exact⟨fun h=>(by cases h),fun ⟨_,h,_⟩=>(by cases h)⟩
 | some rs =>
  rw[aD8];exact⟨fun ⟨r0,h1,h2⟩=>⟨r0,by rw[h1],h2⟩,fun ⟨r0,h1,h2⟩=>⟨r0,by simpa using h1,h2⟩⟩
theorem an9 (A:Ex->Pr->Bool) (cs:List cK) (st:Option (List Rs)) (t:List Rs) (F:List cK):RF A cs st=some (t,F) ↔ ∃r0,st=some (r0++t)/\Ei (xE A) cs r0/\F=adQ cs r0:=by
 unfold RF;cases st with
 | none =>
  rw[show Option.map (fun rs=>(rs,([]:List cK))) none=none from rfl,aeg];exact⟨fun h=>(by cases h),fun ⟨_,h,_⟩=>(by cases h)⟩
 | some rs =>
  rw[show Option.map (fun rs=>(rs,([]:List cK))) (some rs)=some (rs,[]) from rfl,aER];exact⟨fun ⟨r0,h1,h2,h3⟩=>⟨r0,by rw[h1],h2,by simpa using h3⟩,fun ⟨r0,h1,h2,h3⟩=>⟨r0,by simpa using h1,h2,by simpa using h3⟩⟩
theorem Ou (st:Option (List Rs)):Ri st=true ↔ st=some []:=by
 unfold Ri;split<;>simp_all
section
variable {A:Ex->Pr->Bool} {V:Ex->Bool} (hA:∀e p,A e p=true->p.value=V e)
theorem aIL {k:Int} {b:Bool} {neg:Bool} (hb:b=!neg) {l:List cK} {c:cK} (hc:c∈kS [k] l) (hv:ke V c=b):jC V k neg l=true:=by
 rw[<-zD V k neg b hb l];exact List.any_eq_true.2 ⟨c,hc,by rw[hv];simp⟩
theorem aIM {k:Int} {b:Bool} {neg:Bool} (hb:b=neg) {l:List cK} (h:∀c∈kS [k] l,ke V c=b):jC V k neg l=false:=by
 rw[<-zD V k neg (!neg) rfl l,List.any_eq_false];intro c hc;rw[h c hc,hb];simp
include hA
theorem aCQ {b:Bool} {cs:List cK} {rs:List Rs} (h:Ei (fun c r=>r.dg==b&&xE A c r) cs rs):∀c∈cs,ke V c=b :=
 Ei.all (fun c r h=>by
  simp only[aF,a47] at h;rw[<-(BX hA h.2).1,h.1]) cs rs h
theorem agk:(cs:List cK)->(rs:List Rs)->Ei (xE A) cs rs->adQ cs rs=cs.filter (ke V)
 | [],[],_=>rfl
 | c::cs,r::rs,h=>by
  rw[adQ,List.filter_cons,agk cs rs h.2,(BX hA h.1).1]
 | [],r::rs,h=>h.elim
 | c::cs,[],h=>h.elim
theorem aKY {l:List cK} {d:rT} {rs:List Rs} (h:Lj A l d rs=true):d=CN V l:=by
 have hone:∀{k:Int} {b neg:Bool} {st:Option (List Rs)} {t:List Rs},b=(!neg)->Ht A (kS [k] l) b st=some t->jC V k neg l=true:=fun hb h=>by
  obtain⟨r,c,-,hc,h1,h2⟩:=(ad3 _ _ _ _ _).1 h;exact aIL hb hc (by rw[<-(BX hA h2).1,h1])
 have hev:∀{k:Int} {b neg:Bool} {st:Option (List Rs)} {t:List Rs},b=neg->oq A (kS [k] l) b st=some t->jC V k neg l=false:=fun hb h=>by
  obtain⟨r0,-,hm⟩:=(U9 _ _ _ _ _).1 h;exact aIM hb (aCQ hA hm)
 have hst:∀{cs:List cK} {b:Bool} {st:Option (List Rs)} {t:List Rs},oq A cs b st=some t->∃t',st=some t':=fun h=>by
  obtain⟨r0,e,-⟩:=(U9 _ _ _ _ _).1 h;exact⟨_,e⟩
 have hso:∀{cs:List cK} {b:Bool} {st:Option (List Rs)} {t:List Rs},Ht A cs b st=some t->∃t',st=some t':=fun h=>by
  obtain⟨r,c,e,-⟩:=(ad3 _ _ _ _ _).1 h;exact⟨_,e⟩
 unfold Lj at h;unfold CN;by_cases h1:d.oP=1
 ·rw[bM h1,aF,Ou] at h;rw[hev rfl h.1,bM rfl];exact rT.eq_of h.2
 rw[bL h1] at h;by_cases h2:d.oP=2
 ·rw[bM h2,aF,Ou] at h;obtain⟨t,ht⟩:=hso h.1;rw[hone (neg:=false) rfl ht,bL (by simp),hone (neg:=true) rfl h.1,bM rfl];exact rT.eq_of h.2
 rw[bL h2] at h;by_cases h3:d.oP=3
 ·rw[bM h3,aF,Ou] at h;obtain⟨t,ht⟩:=hso h.1;obtain⟨t',ht'⟩:=hst ht;rw[hone (neg:=false) rfl ht',bL (by simp),hev (neg:=true) rfl ht,bL (by simp),hone (neg:=false) rfl h.1,bM rfl];exact rT.eq_of h.2
 rw[bL h3] at h;by_cases h4:d.oP=4
 ·rw[bM h4] at h;split at h
  ·rename_i F hF
   obtain⟨r0,e0,hm,hf⟩:=(an9 _ _ _ _ _).1 hF;obtain⟨t',ht'⟩:=hst e0;obtain⟨t2,ht2⟩:=hst ht';rw[hone (neg:=false) rfl ht2,bL (by simp),hev (neg:=true) rfl ht',bL (by simp),hev (neg:=false) rfl e0,bL (by simp),rT.eq_of h,hf,agk hA _ _ hm,Fh];simp[CP,oU]
  cases h
 rw[bL h4] at h;cases h
end
mutual
theorem abt {s:List Attr} {f:ZI} {D D':BA->Option Pr}:(e:Ex)->(∀x∈fX e,D x=D' x)->UE s f D e=UE s f D' e
 | .mk op name words lo hi args,h=>by
  obtain⟨q1,q2⟩:=akj (s:=s) (f:=f) args fun x hx=>h x (by rw[fX];exact aL _ hx)
  rw[UE,UE,q1,q2];by_cases h3:op=3
  ·rw[h name (by rw[fX,h3];simp)]
  simp[h3]
theorem akj {s:List Attr} {f:ZI} {D D':BA->Option Pr}:(l:List Ex)->(∀x∈iH l,D x=D' x)->Xn s f D l=Xn s f D' l/\pfL s f D l=pfL s f D' l
 | [],_=>⟨by rw[Xn,Xn],by rw[pfL,pfL]⟩
 | e::r,h=>by
  have h1:=abt (s:=s) (f:=f) e fun x hx=>h x (by rw[iH];exact aK _ hx)
  have h2:=(akj (s:=s) (f:=f) r fun x hx=>h x (by rw[iH];exact aL _ hx)).2;exact⟨by rw[Xn,Xn,h1],by rw[pfL,pfL,h1,h2]⟩
end
mutual
theorem Xm {s:List Attr} {f:ZI} {D D':BA->Option (Pr->Bool)}:(e:Ex)->(∀x∈fX e,D x=D' x)->∀p,wI s f D e p=wI s f D' e p
 | .mk op name words lo hi args,h,p=>by
  obtain⟨q1,q2⟩:=afQ (s:=s) (f:=f) args fun x hx=>h x (by rw[fX];exact aL _ hx)
  have hD:(if op=3 then D name else none)=(if op=3 then D' name else none):=by
   by_cases h3:op=3
   ·rw[bM h3,bM h3,h name (by rw[fX,h3];simp)]
   rw[bL h3,bL h3]
  have a1:uH s f D args=uH s f D' args:=funext fun k=>funext fun q=>q1 k q
  have a2:∀v ps,mM s f D v args ps=mM s f D' v args ps:=q2;cases p with
  | mk v k ps=>rw[wI,wI,hD,a1,a2]
theorem afQ {s:List Attr} {f:ZI} {D D':BA->Option (Pr->Bool)}:(l:List Ex)->(∀x∈iH l,D x=D' x)->(∀k q,uH s f D l k q=uH s f D' l k q)/\(∀v ps,mM s f D v l ps=mM s f D' v l ps)
 | [],_=>⟨fun k q=>by rw[uH,uH],fun v ps=>by cases ps<;>rw[mM,mM]⟩
 | e::r,h=>by
  have h1:=Xm (s:=s) (f:=f) e fun x hx=>h x (by rw[iH];exact aK _ hx)
  obtain⟨h2,h3⟩:=afQ (s:=s) (f:=f) r fun x hx=>h x (by rw[iH];exact aL _ hx)
  refine⟨fun k q=>?_,fun v ps=>?_⟩
  ·cases k with
   | zero=>rw[uH,uH,h1]
   | succ k=>rw[uH,uH,h2]
  cases ps with
  | nil=>rw[mM,mM]
  | cons q t=>rw[mM,mM,h1,h3]
end
theorem afT (s:List Attr) (l:List cK) (f:ZI):(k m:Nat)->(e:Ex)->jT l k e<=2000->k<=m->Proofs.YtefjomofjejklaaGreatDoor.xT s l f k e=Proofs.YtefjomofjejklaaGreatDoor.xT s l f m e
 | 0,_,e,h,_=>by simp[jT] at h
 | k+1,0,e,_,hm=>by omega
 | k+1,m+1,e,h,hm=>by
  rw[Proofs.YtefjomofjejklaaGreatDoor.xT,Proofs.YtefjomofjejklaaGreatDoor.xT];refine abt e fun x hx=>?_
  cases hd:Proofs.YtefjomofjejklaaGreatDoor.dz l x with
  | none=>rfl
  | some d =>
   rw[jT] at h;have:=U8 e h x (jT l k (l.getD d fC).cond) hx (by rw[hd];rfl);simp only[Option.map_some,a42];exact afT s l f k m _ this (by omega)
theorem acJ (s:List Attr) (l:List cK) (f:ZI):(k m:Nat)->(e:Ex)->jT l k e<=2000->k<=m->Proofs.YtefjomofjejklaaGreatDoor.js s l f k e=Proofs.YtefjomofjejklaaGreatDoor.js s l f m e
 | 0,_,e,h,_=>by simp[jT] at h
 | k+1,0,e,_,hm=>by omega
 | k+1,m+1,e,h,hm=>by
  funext p
  rw[Proofs.YtefjomofjejklaaGreatDoor.js,Proofs.YtefjomofjejklaaGreatDoor.js];refine Xm e (fun x hx=>?_) p;cases hd:Proofs.YtefjomofjejklaaGreatDoor.dz l x with
  | none=>rfl
  | some d =>
   rw[jT] at h;have:=U8 e h x (jT l k (l.getD d fC).cond) hx (by rw[hd];rfl);simp only[Option.map_some,a42];exact acJ s l f k m _ this (by omega)
theorem Used.xT {l:List cK} {e:Ex} {u:List cK} (h:Used l e u) (s:List Attr) (f:ZI):∀k x,(∀t∈fX x,∀d,Proofs.YtefjomofjejklaaGreatDoor.dz l t=some d->t∈u.map (·.name))->Proofs.YtefjomofjejklaaGreatDoor.xT s u f k x=Proofs.YtefjomofjejklaaGreatDoor.xT s l f k x/\Proofs.YtefjomofjejklaaGreatDoor.js s u f k x=Proofs.YtefjomofjejklaaGreatDoor.js s l f k x:=by
 intro k;induction k with
 | zero=>intro x _;exact⟨rfl,rfl⟩
 | succ k ih =>
  intro x hx;have key:∀t∈fX x,(Proofs.YtefjomofjejklaaGreatDoor.dz u t=none/\Proofs.YtefjomofjejklaaGreatDoor.dz l t=none)\/∃i d,Proofs.YtefjomofjejklaaGreatDoor.dz u t=some i/\Proofs.YtefjomofjejklaaGreatDoor.dz l t=some d/\Proofs.YtefjomofjejklaaGreatDoor.xT s u f k (u.getD i fC).cond=Proofs.YtefjomofjejklaaGreatDoor.xT s l f k (l.getD d fC).cond/\Proofs.YtefjomofjejklaaGreatDoor.js s u f k (u.getD i fC).cond=Proofs.YtefjomofjejklaaGreatDoor.js s l f k (l.getD d fC).cond:=fun t ht=>by
   cases hd:Proofs.YtefjomofjejklaaGreatDoor.dz l t with
   | none=>exact aoX ⟨h.only hd,rfl⟩
   | some d =>
    obtain⟨i,d',hi,h1,h2,h3⟩:=h.at (hx t ht d hd);rw[hd] at h2;cases h2
    refine a4Z ⟨i,d,h1,rfl,?_⟩;rw[h3];refine ih _ fun t2 ht2 d2 qd=>?_
    rw[<-h3,fJ hi] at ht2;exact h.closed _ (aD hi) t2 ht2 d2 qd
  constructor
  ·rw[Proofs.YtefjomofjejklaaGreatDoor.xT,Proofs.YtefjomofjejklaaGreatDoor.xT];refine abt _ fun t ht=>?_
   rcases key t ht with ⟨h1,h2⟩|⟨i,d,h1,h2,h3,-⟩
   ·rw[h1,h2];rfl
   rw[h1,h2];exact congrArg some h3
  funext p
  rw[Proofs.YtefjomofjejklaaGreatDoor.js,Proofs.YtefjomofjejklaaGreatDoor.js];refine Xm _ (fun t ht=>?_) p;rcases key t ht with ⟨h1,h2⟩|⟨i,d,h1,h2,-,h3⟩
  ·rw[h1,h2];rfl
  rw[h1,h2];exact congrArg some h3
theorem Ee.pf {s:List Attr} {l:List cK} {e:Ex} {u:List cK} {f:ZI} (h:Ee l e u) (hx:dV l e<=2000):Proofs.YtefjomofjejklaaGreatDoor.pf s u f e=Proofs.YtefjomofjejklaaGreatDoor.pf s l f e/\Proofs.YtefjomofjejklaaGreatDoor.CY s u f e=Proofs.YtefjomofjejklaaGreatDoor.CY s l f e:=by
 obtain⟨hu,hm⟩:=h;have Yu:=hu.atp hx;have hsz:=hu.size Yu hu.top;have hle:=hu.len;obtain⟨h1,h2⟩:=hu.xT s f (l.length+1) e hu.top;unfold Proofs.YtefjomofjejklaaGreatDoor.pf;constructor
 ·rw[afT s u f (u.length+1) (l.length+1) e (by unfold dV at hsz hx;omega) (by omega),h1]
 funext p
 unfold Proofs.YtefjomofjejklaaGreatDoor.CY;rw[acJ s u f (u.length+1) (l.length+1) e (by unfold dV at hsz hx;omega) (by omega),h2]
end Go.Proofs.YtefjomofjejklaaGreatDoor
