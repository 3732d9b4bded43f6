/-
  Texts of the claim, joined: Used1, Value, Eval, Holds, DApp.
-/
import Derived.Test.YtefjomofjejklaaGreatDoorDx19
namespace Go.Proofs.YtefjomofjejklaaGreatDoor
set_option maxRecDepth 100000
set_option maxHeartbeats 32000000
open Go.RowKit Go.Maps
theorem ax5:Tryz.prog.underlying 186=some (.map 9 4):=by kernel_rfl
theorem aFr (w:World):(zeroValue 4).run Tryz.prog w=.ok (.bool false) w:=by kernel_rfl
theorem Yy (w:World) {ops:Array Oper} {rest:List Oper} {o:Oper} {a:Act} {Q:Exit->Act->World->Prop} (hw:Region.wanted o (yielded ops a.tmps)=true) (m x:Operand) (t:TypeId) (hop:o.op=Op.lookup t m x false) (k e:TypeId) (K:Keyed Tryz.prog k) (ht:Tryz.prog.underlying t=some (.map k e)) {z:Value} (hz:(zeroValue e).run Tryz.prog w=.ok z w) (b n:Nat) (f:Lit->Option Value)
  (hm:a.eval m=.map (some b)) (hmap:MapAt w k b n f) (key:Value) (kl:Lit) (hx:a.eval x=key) (hkey:keyOf Tryz.prog k key=some kl) (hkl:WideAt.IsKeyLit kl)
  (hK:wpList Tryz.prog ops Q rest (a.put o.dst ((f kl).getD z)) w):wpList Tryz.prog ops Q (o::rest) a w:=by
 obtain⟨D,hown,hf⟩:=hmap;refine wpList_step fun K' hK'=>?_
 rw[dw hw];obtain⟨v,ps,hrun,hv⟩:=hown.lookup K ht hz (zd:=.held z) (zp:=[]) rfl hkey;have e1:DataW.held v=D.atKey kl (.held z):=by
  simp only[VZ,Option.some.injEq,Prod.mk.injEq] at hv;exact hv.1
 rw[<-hf.at hkl e1] at hK;unfold Oper.wp;simp[execOp,hop,hm,hx,hrun,Result.andThen];exact hK' _ _ hK
open Classical in
noncomputable def memT (M:BA->Prop):BA->Option Value:=fun s=>if M s then some (.bool true) else none
theorem aDf (m:BA->Prop) (x:BA) (y:Lit):Y9 (oh (memT m)) (.string x.data.toList) (some (.bool true)) y=oh (memT fun z=>z=x\/m z) y:=by
 rw[Jm]
 congr 1
 funext z
 by_cases h:z=x
 ·subst h;rw[CO];simp[memT]
 rw[yj _ _ h];by_cases hm:m z<;>simp[memT,h,hm]
structure UsS (w:World) (lo:jH) (lv:Value) (u:List dY) (vs:List jm) (wr:World):Prop where
 ext:Ext w wr
 WT:Dp w u vs
 own:wr.ownsRow (w.heap.size+5) 48 10 lv u.length (vs.flatMap jm.cells)
 seen:MapAt wr 9 (w.heap.size+3) u.length (oh (memT fun s=>s∈CU u))
 bx:wr.heap[w.heap.size]?=some (.cells #[.slice lo.sa lo.sn lo.sc,.map (some lo.bm),.slice lo.fa lo.fn lo.fc] 74 (0,0))
 bl:wr.heap[w.heap.size+2]?=some (.cells #[lv] 25 (0,0))
 bq:wr.heap[w.heap.size+4]?=some (.cells #[.map (some (w.heap.size+3))] 186 (0,0))
theorem UsS.Wi {w:World} {lo:jH} {lv:Value} {u:List dY} {vs:List jm} {wr wr':World} (h:UsS w lo lv u vs wr) (hx:Ext wr wr'):UsS w lo lv u vs wr' :=
 ⟨h.ext.trans hx,h.WT,eF h.own (hx.fH []) (by simp),h.seen.ext hx,hx.blk h.bx,hx.blk h.bl,hx.blk h.bq⟩
theorem UsS.step {w W w3 w8:World} {lo:jH} {lv lv':Value} {u:List dY} {vs:List jm} (h:UsS w lo lv u vs W) {c:dY} {cv:jm} (hcv:kR w c cv)
  (hm:MapAt w3 9 (w.heap.size+3) (u.length+1) (Y9 (oh (memT fun s=>s∈CU u)) (.string c.name.data.toList) (some (.bool true)))) (hc3:dO [w.heap.size+3] W w3)
  (ho8:w8.ownsRow (w.heap.size+5) 48 10 lv' (u.length+1) (vs.flatMap jm.cells++cv.cells)) (hc8:dO (rowOf lv) w3 w8) :
  UsS w lo lv' (u++[c]) (vs++[cv]) (w8.setCell ⟨w.heap.size+2,0,none⟩ lv')/\(∀q,q<w.heap.size->True):=by
 have Af:dO [w.heap.size+2] w8 (w8.setCell ⟨w.heap.size+2,0,none⟩ lv'):=(dO.refl _ _).setCell (Or.inl (by simp)) _;have hr:∀q∈rowOf lv,w.heap.size+5<=q:=fun q hq=>(h.own.lt q (dK.1 hq)).1
 have hr':∀q,lv'.ownBlock=some q->w.heap.size+5<=q:=fun q hq=>(ho8.lt q hq).1
 refine⟨{
  ext:=Af.ext (hc8.ext (hc3.ext h.ext (by simp)) fun q hq=>by have:=hr q hq;omega) (by simp)
  WT:=h.WT.snoc hcv
  own:=by
   have:=eF ho8 Af fun q hq hm=>by
    have:=hr' q hq;simp only[aK] at hm;omega
   simpa using this
  seen:=by
   have:=((hm.fH hc8 fun hm=>by have:=hr _ hm;omega).fH Af (by simp)).congr (aDf _ c.name);refine(show (u++[c]).length=u.length+1 by simp) ▸ this.congr fun y=>?_
   congr 2
   funext z
   rw[QO];simp[or_comm]
  bx:=Af.blk (hc8.blk (hc3.blk h.bx (by simp)) fun hm=>by have:=hr _ hm;omega) (by simp)
  bl:=aO w8 _ 0 _ _ lv' (hc8.blk (hc3.blk h.bl (by simp)) fun hm=>by have:=hr _ hm;omega)
  bq:=Af.blk (hc8.blk (hc3.blk h.bq (by simp)) fun hm=>by have:=hr _ hm;omega) (by simp) },fun _ _=>trivial⟩
theorem RPi.first {l:List dY} (e:Ex) (ns:ZB):RPi l e [] [] e ns 0:=⟨by simp,by simp[CU],Or.inr (Or.inl rfl),by simp,by simp,Or.inl rfl,fun i _ h=>by omega,by simp⟩
theorem RP.aZC {l:List dY} {e:Ex} {u:List dY} {xs:List Ex} {x:Ex} (h:RP l e u (x::xs)) (ns:ZB):RPi l e u xs x ns 0:=by
 refine⟨h.defs,h.names,?_,fun c hc=>?_,fun y hy=>h.stack y (by simp[hy]),h.stack x (by simp),fun i _ h=>by omega,by have:=h.slen;simpa using this⟩
 ·rcases h.top with h1|h1
  ·rcases bK.1 h1 with h2|h2
   ·exact Or.inr (Or.inl h2)
   exact Or.inl h2
  exact Or.inr (Or.inr h1)
 rcases h.closed c hc with h1|h1
 ·rcases bK.1 h1 with h2|h2
  ·exact Or.inr (Or.inl h2)
  exact Or.inl h2
 exact Or.inr (Or.inr h1)
def aY5 (w:World) (lo:jH) (l:List dY) (e:Ex) (u:List dY) (xs:List Ex) (r:Ending) (w':World):Prop:=r=.returned (.tuple #[])/\∃t lv' vs',UsS w lo lv' (u++t) vs' w'/\RP l e (u++t) (xs++t.map (·.cond))/\∀c∈t,c∈l
theorem aty (l:List dY) (e x:Ex) (ev:Value) (lo:jH) (n:Nat) (w W:World) (g:BA->Option Value) (lv:Value) (u:List dY) (vs:List jm) (xs:List Ex) (hmp:MapAt w 9 lo.bm n (oh g)) (hdg:a8k w l g) (hl:l.length<=100000) (hx:fC W x ev) (hxs:x.size<=100000/\x.fits) (hus:UsS w lo lv u vs W) (hrp:RPi l e u xs x (lQ (jo x)) 0) :
  Calls Tryz.prog 117 #[ev,.pointer (some ⟨w.heap.size,0,none⟩),.pointer (some ⟨w.heap.size+4,0,none⟩),.pointer (some ⟨w.heap.size+2,0,none⟩)] W (aY5 w lo l e u xs):=by
 obtain⟨aw,nw,cw,aa,na,ca,rfl,-⟩:=hx.parts;have Kr:=ak hmp;have HDG:=ak hdg;have HE:=ak hx;have HUS:=ak hus;have HRP:=ak hrp;have PD:=ak hxs;clear hmp hdg hx hus hrp hxs;unfold exV;obtain⟨wa,dW⟩:∃wa,wa=W.alloc (.cells #[.int .i64 x.op,.string x.name,.slice aw nw cw,.int .i64 x.lo,.int .i64 x.hi,.slice aa na ca] 45):=⟨_,rfl⟩
 have hxa:Ext W wa:=by rw[dW];exact(Ext.refl _).alloc _
 obtain⟨f0,f1,f2,f3,f4,f5,ff⟩:=eP (show wa.heap[W.heap.size]?=some (.cells #[.int .i64 x.op,.string x.name,.slice aw nw cw,.int .i64 x.lo,.int .i64 x.hi,.slice aa na ca] 45 (0,0)) by rw[dW];exact dG W _);have HUA:=ak (HUS.o.Wi hxa);have HEA:=ak (HE.o.ext hxa);clear hxa HUS HE;go_enter Tryz.func117,Tryz.ntmps117
 go_upto_region 1 with fail
 rw[<-dW];clear dW;go_wp2_with fail
 refine(Hg x _ wa (by have:=PD.o.1;omega) PD.o.2 HEA.o).mono ?_;obtain⟨ns,hns⟩:∃ns,ns=lQ (jo x):=⟨_,rfl⟩
 have Gm:=ak (show ∀s,s∈ns ↔ s∈jo x by intro s;rw[hns,xP]);rw[<-hns] at HRP ⊢;have NT:=ak (show ∀s∈ns,s.size<=1000000000000000 from fun s hs=>abz x PD.o.2 s ((Gm.o s).1 hs));have hnl:ns.length<=100000:=by rw[hns];exact bC (MH _) (bC (EM _) PD.o.1)
 clear hns;rintro r w5 ⟨sa,sc,rfl,hst,hx5,hfr⟩;have HST:=ak hst;have HU5:=ak (HUA.o.Wi hx5);have HFR:=ak (show ∀b off,sa=some ⟨b,off,none⟩->b≠w.heap.size+3/\b≠w.heap.size+2/\some b≠lv.ownBlock from fun b' off' e'=>by
  have h1:=hfr b' off' e';have h2:=dH HUA.o.bq;refine⟨by omega,by omega,fun e2=>?_⟩;have:=(HUA.o.own.lt b' e2.symm).2;omega)
 clear hst hx5 hfr f0 f1 f2 f3 f4 f5 ff HUA;go_wp2_with fail
 go_loopw [12] (fun i wr=>∃t lv' vs' j,i=.int .i64 (j:Nat)/\j<=ns.length/\UsS w lo lv' (u++t) vs' wr/\RPi l e (u++t) (xs++t.map (·.cond)) x ns j/\(∀c∈t,c∈l)/\ji wr ns sa ns.length sc/\(∀b off,sa=some ⟨b,off,none⟩->b≠w.heap.size+3/\b≠w.heap.size+2/\some b≠lv'.ownBlock)) (fun i _=>ns.length - (intOf i).toNat)
 case atStart=>exact⟨[],lv,vs,0,rfl,by omega,by simpa using HU5.o,by simpa using HRP.o,by simp,HST.o,HFR.o⟩
 case round =>
  obtain⟨t,lv2,vs2,j,rfl,hj,hu2,hp2,htl,hst2,hfr2⟩:=hrel;obtain⟨la2,lc2,hlv2⟩:=pJ hu2.own;subst hlv2;have HR2:=ak hu2;have HP2:=ak hp2;have HTL:=ak htl;have HS2:=ak hst2;have HF2:=ak hfr2;have hul:=Wn hp2.defs hp2.names;clear hu2 hp2 htl hst2 hfr2 HU5 HRP HST HFR;obtain⟨u2,hu2⟩:∃u2,u2=u++t:=⟨_,rfl⟩
  rw[<-hu2] at HR2 HP2 hul HF2;have HU2:=ak hu2;clear hu2;by_cases hjl:j<ns.length
  ·have tj:=ah ((j:Int)<(ns.length:Int));obtain⟨bn,aC9,rfl,cn0⟩:=HS2.o.2.2.2 j hjl;have hsz1:=NT.o _ (aI hjl);obtain⟨x0,x1,x2,xf⟩:=fZ HR2.o.bx;obtain⟨q0,qf⟩:=gQ HR2.o.bq;obtain⟨l0,lf⟩:=gQ HR2.o.bl;cases hda:fG l ns[j] with
   | none =>
    have HF:=ak (show oh g (.string ns[j].data.toList)=none by rw[tV];exact(HDG.o _).1 hda);have Ym:=ak (HP2.o.skip hjl (Or.inl hda));clear hda;go_wp2_with (at_lookup;refine jI _ rfl _ _ 72 rfl 9 48 jR ax4 (aFq _) lo.bm n _ rfl (Kr.o.ext HR2.o.ext) _ _ rfl (oI hsz1) trivial ?_;rw[HF.o])
    go_roundw
    case rel=>exact⟨t,_,vs2,j+1,by go_num,by omega,HU2.o ▸ HR2.o.Wi ((Ext.refl wr).alloc _),HU2.o ▸ Ym.o,HTL.o,HS2.o.ext ((Ext.refl wr).alloc _),HF2.o⟩
    case measure=>simp[intOf];omega
   | some d =>
    obtain⟨v,hu,hux⟩:=(HDG.o ns[j]).2 d hda;have HF:=ak (show oh g (.string ns[j].data.toList)=some _ by rw[tV];exact hu);unfold aQO at HF;have HUX:=ak hux;have hdl:=sH hda;obtain⟨wx,hwx⟩:∃wx,wx=wr.alloc (.cells #[.int .i64 v.kind,.string v.name,.int .i64 v.x.op,.string v.x.name,.slice v.x.aw v.x.nw v.x.cw,.int .i64 v.x.lo,.int .i64 v.x.hi,.slice v.x.aa v.x.na v.x.ca,.slice v.au v.nu v.cu,.int .i64 v.amount] 48):=⟨_,rfl⟩
    have fE:=ak (show Ext wr wx by rw[hwx];exact(Ext.refl _).alloc _);have GL:=ak (show wx.heap[wr.heap.size]?=some (.cells #[.int .i64 v.kind,.string v.name,.int .i64 v.x.op,.string v.x.name,.slice v.x.aw v.x.nw v.x.cw,.int .i64 v.x.lo,.int .i64 v.x.hi,.slice v.x.aa v.x.na v.x.ca,.slice v.au v.nu v.cu,.int .i64 v.amount] 48 (0,0)) by rw[hwx];exact dG wr _);have hsx:wx.heap.size=wr.heap.size+1:=by rw[hwx];simp
    have a8c:=ak hsx;clear hsx;go_upto_region 5 with (at_lookup;refine jI _ rfl _ _ 72 rfl 9 48 jR ax4 (aFq _) lo.bm n _ rfl (Kr.o.ext HR2.o.ext) _ _ rfl (oI hsz1) trivial ?_;rw[HF.o])
    rw[<-hwx];clear hwx x0 x1 x2 xf q0 qf l0 lf cn0;obtain⟨q0,qf⟩:=gQ (fE.o.blk HR2.o.bq);obtain⟨l0,lf⟩:=gQ (fE.o.blk HR2.o.bl);obtain⟨f0,f1,f2,f3,f4,f5,f6,f7,f8,f9,ff⟩:=Aa GL.o;by_cases hmem:ns[j]∈CU u2
    ·have RY:=ak (show oh (memT fun s=>s∈CU u2) (.string ns[j].data.toList)=some (.bool true) by rw[tV];simp[memT,hmem]);have Ym:=ak (HP2.o.skip hjl (Or.inr hmem));clear hda hmem hu hux;go_wp2_with (first
      | (at_lookup;refine Yy _ (by rfl) _ _ 186 rfl 9 4 jR ax5 (aFr _) (w.heap.size+3) u2.length _ rfl (HR2.o.seen.ext fE.o) _ _ rfl (oI hsz1) trivial ?_;rw[RY.o]))
     go_roundw
     case rel=>exact⟨t,_,vs2,j+1,by go_num,by omega,HU2.o ▸ HR2.o.Wi fE.o,HU2.o ▸ Ym.o,HTL.o,HS2.o.ext fE.o,HF2.o⟩
     case measure=>simp[intOf];omega
    have RY:=ak (show oh (memT fun s=>s∈CU u2) (.string ns[j].data.toList)=none by rw[tV];simp[memT,hmem]);have hdn:=yJ hda;have HST:=ak (HP2.o.step hjl Gm.o hda hmem (c:=l.getD d iT) hdn.2 hdn.1 rfl);have HDN:=ak hdn.1;have HCM:=ak (show l.getD d iT∈l by rw[iZ hdl];exact aI _);clear hda hmem hu hux hdn;go_wp2_with (first
     | (at_lookup;refine Yy _ (by rfl) _ _ 186 rfl 9 4 jR ax5 (aFr _) (w.heap.size+3) u2.length _ rfl (HR2.o.seen.ext fE.o) _ _ rfl (oI hsz1) trivial ?_;rw[RY.o])
     | (at_mapUpdate;refine oU _ rfl _ _ _ 186 rfl 9 4 jR ax5 (w.heap.size+3) u2.length _ rfl (HR2.o.seen.ext fE.o) ?c3 _ _ _ rfl rfl (oI hsz1) trivial ?_))
    case c3=>unfold maxLen;omega
    intro w3 hm3 hc3;have HRW:=ak (HR2.o.Wi fE.o);have hwr:w.heap.size+4<wr.heap.size:=dH HR2.o.bq;have hbx:=hc3.blk GL.o (by simp;omega);clear f0 f1 f2 f3 f4 f5 f6 f7 f8 f9 ff q0 qf l0 lf;obtain⟨f0,f1,f2,f3,f4,f5,f6,f7,f8,f9,ff⟩:=Aa hbx;obtain⟨k0,kf⟩:=gQ (hc3.blk HRW.o.bl (by simp));have HW3:=ak hc3;have HM3:=ak hm3;have Ad:=ak (eF HRW.o.own hc3 fun q hq hm=>by have:=(HRW.o.own.lt q hq).1;simp only[aK] at hm;omega);have h3s:=hc3.size;have a0H:wr.heap.size<=w3.heap.size:=bC fE.o.size hc3.size;clear hm3 hc3 HF RY hbx;go_wp2_with (at_builtin;refine fK sQ rfl _ _ rfl (w.heap.size+5) _ u2.length _ rfl Ad.o _ 1 1 rfl ?f0 rfl ?f1 ?f2 ?f3 ?f4 ?_)
    case f0=>simp
    case f1=>simp[Value.oneCell']
    case f2=>unfold maxLen;omega
    case f3=>omega
    case f4=>omega
    intro v8 w8 ig hc8 hw8;obtain⟨a8,c8,OI⟩:=pJ ig;subst OI;obtain⟨m0,mf⟩:=gQ (hc8.blk (HW3.o.blk HRW.o.bl (by simp)) fun hm=>by have:=(HRW.o.own.lt _ (dK.1 hm)).1;omega);have HR9:=ak (HRW.o.step (c:=l.getD d iT) (cv:=v) HUX.o (by rw[HDN.o];exact HM3.o) HW3.o ig hc8).1;have G8:=ak (((HS2.o.ext fE.o).fH HW3.o (fun b' off' e' hm=>(HF2.o b' off' e').1 (by simpa using hm))).fH hc8 (fun b' off' e' hm=>(HF2.o b' off' e').2.2 (dK.1 hm).symm));have HF9:=ak (show ∀b off,some (⟨bn,aC9,none⟩:Addr)=some ⟨b,off,none⟩->b≠w.heap.size+3/\b≠w.heap.size+2/\some b≠(Value.slice a8 (u2.length+1) c8).ownBlock from fun b' off' e'=>by
     obtain⟨p1,p2,p3⟩:=HF2.o b' off' e';have hbl:b'<wr.heap.size:=by
      obtain⟨bb,oo,ee,cc⟩:=HS2.o.2.2.2 j hjl;rw[ee] at e';simp only[Option.some.injEq,Addr.mk.injEq,and_true] at e';have:=block_lt cc;simp only at this;omega
     refine⟨p1,p2,fun e2=>?_⟩;rcases hw8 b' e2.symm with h|h
     ·exact p3 h.symm
     omega)
    have aiD:=ak (G8.o.fH (show dO [w.heap.size+2] w8 (w8.setCell ⟨w.heap.size+2,0,none⟩ (.slice a8 (u2.length+1) c8)) from(dO.refl _ _).setCell (Or.inl (by simp)) _) (fun b' off' e' hm=>(HF2.o b' off' e').2.1 (by simpa using hm)));clear ig hc8 hw8 G8 f0 f1 f2 f3 f4 f5 f6 f7 f8 f9 ff k0 kf;go_wp2_with fail
    go_roundw
    case rel =>
     have e1:u++(t++[l.getD d iT])=u2++[l.getD d iT]:=by rw[HU2.o];simp
     refine⟨t++[l.getD d iT],_,_,j+1,by go_num,by omega,by rw[e1];exact HR9.o,by rw[e1];have:=HST.o;simpa using this,?_,aiD.o,HF9.o⟩;intro c hc;rcases aT.1 hc with h|h
     ·exact HTL.o c h
     rw[aK.1 h];exact HCM.o
    case measure=>simp[intOf];omega
  have tj:=aj ((j:Int)<(ns.length:Int));have HPE:=ak (HP2.o.end (by omega) Gm.o);go_wp2_with fail
  go_end0
  exact⟨rfl,t,_,vs2,HU2.o ▸ HR2.o,HU2.o ▸ HPE.o,HTL.o⟩
def aBO (l:List dY) (e:Ex) (w:World) (r:Ending) (w':World):Prop:=∃u a c,r=.returned (.slice a u.length c)/\eX w' u a u.length c/\J5 l e u/\Ext w w'
theorem adb (s:List Attr) (l:List dY) (f:ZI) (e:Ex) (ev:Value) (lo:jH) (n:Nat) (w:World) (hlo:Hz w s l f lo n) (hl:l.length<=100000) (he:fC w e ev) (hes:e.size<=100000/\e.fits) (hsz:∀x∈l,x.cond.size<=100000/\x.cond.fits) :
  Calls Tryz.prog 87 #[lo.val,ev] w (aBO l e w):=by
 obtain⟨g,hmp,hdg⟩:=hlo.defs;obtain⟨aw,nw,cw,aa,na,ca,rfl,-⟩:=he.parts;have HAD:=ak (fun (W:World) (x:Ex) (xv lv:Value) (u:List dY) (vs:List jm) (xs:List Ex) (h1:fC W x xv) (h2:x.size<=100000/\x.fits) (h3:UsS w lo lv u vs W) (h4:RPi l e u xs x (lQ (jo x)) 0)=>aty l e x xv lo n w W g lv u vs xs hmp hdg hl h1 h2 h3 h4);have HE:=ak he;have zN:=ak hsz;have HES:=ak hes;clear hmp hdg he hsz hes hlo;obtain⟨EV,hEV⟩:∃EV,EV=exV e.op e.name aw nw cw e.lo e.hi aa na ca:=⟨_,rfl⟩
 have aDK:=hEV;unfold exV at hEV;unfold jH.val;have hmm:=@run_makeMap Tryz.prog;have hmf:∀(fn:Fn) (first cap:Array Value) (w:World),(Instr.makeFunc fn first cap).run Tryz.prog w=.ok (.func fn first cap) w:=fun _ _ _ _=>rfl
 obtain⟨wa,dW⟩:∃wa,wa=(((((w.alloc (.cells #[.slice lo.sa lo.sn lo.sc,.map (some lo.bm),.slice lo.fa lo.fn lo.fc] 74)).alloc (.cells #[.int .i64 e.op,.string e.name,.slice aw nw cw,.int .i64 e.lo,.int .i64 e.hi,.slice aa na ca] 45)).alloc (.cells #[.slice none 0 0] 25)).alloc (.map #[] 0)).alloc (.cells #[.map (some (w.heap.size+3))] 186)):=⟨_,rfl⟩
 have HE0:=ak (show wa.heap[w.heap.size+1]?=some (.cells #[.int .i64 e.op,.string e.name,.slice aw nw cw,.int .i64 e.lo,.int .i64 e.hi,.slice aa na ca] 45 (0,0)) by rw[dW];exact dJ (dJ (dJ (eH (by simp)))));have HUS:=ak (show UsS w lo (.slice none 0 0) [] [] wa from {
  ext:=by rw[dW];exact(((((Ext.refl _).alloc _).alloc _).alloc _).alloc _).alloc _
  WT:=⟨rfl,fun i h=>by simp at h⟩
  own:=World.ownsRow_nil _ _ _ _
  seen:=by
   have h0:=MapAt.made (((w.alloc (.cells #[.slice lo.sa lo.sn lo.sc,.map (some lo.bm),.slice lo.fa lo.fn lo.fc] 74)).alloc (.cells #[.int .i64 e.op,.string e.name,.slice aw nw cw,.int .i64 e.lo,.int .i64 e.hi,.slice aa na ca] 45)).alloc (.cells #[.slice none 0 0] 25)) 9;rw[dW];refine((by simpa using h0:MapAt _ _ (w.heap.size+3) 0 _).ext ((Ext.refl _).alloc _)).congr fun x=>?_
   cases x<;>simp[oh,memT,CU]
  bx:=by rw[dW];exact dJ (dJ (dJ (dJ (dG w _))))
  bl:=by rw[dW];exact dJ (dJ (eH (by simp)))
  bq:=by rw[dW];exact eH (by simp) })
 obtain⟨f0,f1,f2,f3,f4,f5,ff⟩:=eP HE0.o;rw[<-aDK,hEV];go_enter Tryz.func87,Tryz.ntmps87
 go_upto_region 3 with fail
 rw[<-dW];clear dW;go_wp2_with fail
 rw[<-hEV];refine(HAD.o wa e _ _ [] [] [] (by rw[aDK];exact HE.o.ext HUS.o.ext) HES.o HUS.o (RPi.first e _)).mono ?_;rintro r w1 ⟨rfl,t0,lv0,vs0,hu0,hp0,ht0⟩;have HU0:=ak hu0;have HP0:=ak hp0;have HT0:=ak ht0;clear hu0 hp0 ht0 f0 f1 f2 f3 f4 f5 ff HE0 HUS;go_wp2_with fail
 go_loopw [8] (fun i wr=>∃u lv vs k,i=.int .i64 (k:Nat)/\k<=u.length/\UsS w lo lv u vs wr/\RP l e u ((u.drop k).map (·.cond))/\∀c∈u,c∈l) (fun i _=>l.length - (intOf i).toNat)
 case atStart=>exact⟨t0,lv0,vs0,0,rfl,by omega,by simpa using HU0.o,by simpa using HP0.o,HT0.o⟩
 case round =>
  obtain⟨u,lv,vs,k,rfl,hk,hu,hp,hm⟩:=hrel;obtain⟨la,lc,hlv⟩:=pJ hu.own;subst hlv;have HU:=ak hu;have HP:=ak hp;have HM:=ak hm;have hul:=Wn hp.defs hp.names;obtain⟨a',c',hv,hcl⟩:=Dz (M:=[]) hu.own (by simp) (hu.WT.mono (hu.ext.sub.trans (Iw _)));simp only[Value.slice.injEq,true_and] at hv;obtain⟨rfl,rfl⟩:=hv;have vS:=ak (hcl.mono (dU _ _));obtain⟨l0,lf⟩:=gQ hu.bl;clear hu hp hm hcl HU0 HP0 HT0;by_cases hlt:k<u.length
  ·have t1:=ah ((k:Int)<(u.length:Int));obtain⟨cb,oZ,v,rfl,jr,hrow⟩:=vS.o.at hlt;obtain⟨c0,c1,c2,c3,c4,c5,c6,c7,c8,c9⟩:=hrow.ten;have HEX:=ak jr.2.2.1;have hsx:u[k].cond.size<=100000/\u[k].cond.fits:=zN.o _ (HM.o _ (aI hlt));have HPF:=ak (show RP l e u (u[k].cond::(u.drop (k+1)).map (·.cond)) by have:=HP.o;rw[List.drop_eq_getElem_cons hlt,List.map_cons] at this;exact this);have Sl:=ak (HAD.o wr u[k].cond _ _ u vs _ HEX.o hsx HU.o (HPF.o.aZC _));unfold fU.val exV at Sl;clear jr hrow hsx;go_wp2_with fail
   refine Sl.o.mono ?_;rintro r w1 ⟨rfl,t1,lv1,vs1,hu1,hp1,ht1⟩;have HU1:=ak hu1;have IX:=ak hp1;have HT1:=ak ht1;have hl1:=Wn hp1.defs hp1.names;clear hu1 hp1 ht1 c0 c1 c2 c3 c4 c5 c6 c7 c8 c9 l0 lf;go_wp2_with fail
   go_roundw
   case rel =>
    refine⟨u++t1,lv1,vs1,k+1,by go_num,by simp;omega,HU1.o,?_,?_⟩
    ·rw[List.drop_append_of_le_length (by omega),List.map_append];exact IX.o
    intro c hc;rcases aT.1 hc with h|h
    ·exact HM.o c h
    exact HT1.o c h
   case measure=>simp at hl1;simp[intOf];omega
  have t1:=aj ((k:Int)<(u.length:Int));go_wp2_with fail
  go_ret;refine⟨u,_,_,rfl,vS.o,⟨?_,HM.o⟩,HU.o.ext⟩;have:=HP.o;rw[List.drop_eq_nil_of_le (by omega)] at this;exact this.used
def fvV (lv:Value):Value:=.func (.func 116) #[lv] #[]
def aL1 (o:Option Nat):Int:=match o with|some k=>k|none => -1
theorem arF (lv:Value) (args:List Ex) (aa:OA) (na ca:Nat) (P:Ex->Bool) (w:World) (hna:na=args.length) (hn2:na<=1000000) (hx:iK w args aa)
  (hc:∀(j:Nat) (hj:j<args.length) (xv:Value) (W:World),Ext w W->fC W args[j] xv->Calls Tryz.prog 116 #[lv,xv] W (dN (.bool (P args[j])) W)) :
  Calls Tryz.prog 174 #[.slice aa na ca,fvV lv] w (dN (.int .i64 (aL1 (args.findIdx? P))) w):=by
 have HX:=ak hx;have nK:=ak hna;have HC:=ak hc;obtain⟨R,hR⟩:∃R,R=aL1 (args.findIdx? P):=⟨_,rfl⟩
 rw[<-hR];have HR:=ak hR;clear hx hna hc hR;unfold fvV;go_enter Tryz.func174,Tryz.ntmps174
 go_wp2_with fail
 go_loopw [8] (fun i wr=>∃k:Nat,i=.int .i64 k/\k<=na/\(∀j (h:j<args.length),j<k->P args[j]=false)/\Ext w wr) (fun i _=>na - (intOf i).toNat)
 case atStart=>exact⟨0,rfl,by omega,fun j _ h=>by omega,Ext.refl _⟩
 case round =>
  obtain⟨k,rfl,hk,hno,hxr⟩:=hrel;have lZ:=ak hno;have kC:=ak hxr;clear hno hxr;by_cases hkn:k<na
  ·have hka:k<args.length:=by have:=nK.o;omega
   have t1:=ah ((k:Int)<(na:Int));obtain⟨b,off,rfl,rJ,rF,rH,rM,rG,ca1,h0,h1,h2,h3,h4,h5,h6⟩:=iK.at args _ (iK.ext kC.o args _ HX.o) k hka;have HAK:=ak (HC.o k hka _ wr kC.o h6);obtain⟨B,hB⟩:∃B,B=P args[k]:=⟨_,rfl⟩
   rw[<-hB] at HAK;have nZ:=ak hB;unfold exV at HAK;clear h6 hB;go_wp2_with fail
   refine HAK.o.mono ?_;rintro r w3 ⟨rfl,hx3⟩;have gU:=ak (kC.o.trans hx3);clear hx3;cases B
   ·go_wp2_with fail
    go_roundw
    case rel =>
     refine⟨k+1,by go_num,by omega,fun j hj hjk=>?_,gU.o⟩;by_cases e:j=k
     ·subst e;exact nZ.o.symm
     exact lZ.o j hj (by omega)
    case measure=>simp[intOf];omega
   have HF:=ak (show R=(k:Int) by rw[HR.o,Rj hka nZ.o.symm fun j hj hjk=>lZ.o j hj hjk];rfl);go_wp2_with fail
   go_ret;exact dP (by rw[HF.o]) gU.o
  have t1:=aj ((k:Int)<(na:Int));have HF:=ak (show R = -1 by rw[HR.o,Ls fun j hj=>lZ.o j hj (by have:=nK.o;omega)];rfl);go_wp2_with fail
  go_ret;exact dP (by rw[HF.o]) kC.o
theorem aix (lv:Value) (args:List Ex) (aa:OA) (na ca:Nat) (P:Ex->Bool) (w:World) (hna:na=args.length) (hn2:na<=1000000) (hx:iK w args aa)
  (hc:∀(j:Nat) (hj:j<args.length) (xv:Value) (W:World),Ext w W->fC W args[j] xv->Calls Tryz.prog 116 #[lv,xv] W (dN (.bool (P args[j])) W)) :
  Calls Tryz.prog 147 #[.slice aa na ca,fvV lv] w (dN (.bool (args.any P)) w):=by
 have HI:=ak (arF lv args aa na ca P w hna hn2 hx hc);obtain⟨R,hR⟩:∃R,R=args.any P:=⟨_,rfl⟩
 rw[<-hR];have HR:=ak hR;clear hx hna hc hR;unfold fvV at *;cases hf:args.findIdx? P with
 | none =>
  rw[hf] at HI;have HF:=ak (show R=false by
   rw[HR.o,List.any_eq_false];intro x hx;rw[bJ] at hf;simp[hf x hx])
  unfold aL1 at HI;go_enter Tryz.func147,Tryz.ntmps147
  go_wp2_with fail
  refine HI.o.mono ?_;rintro r w3 ⟨rfl,hx3⟩;have gU:=ak hx3;clear hx3;go_wp2_with fail
  go_ret;exact dL (by rw[HF.o]) gU.o
 | some k =>
  rw[hf] at HI;have HF:=ak (show R=true by
   rw[HR.o,List.any_eq_true];rw[aP] at hf;obtain⟨hk,h1,_⟩:=hf;exact⟨_,aI hk,h1⟩)
  have t1:=ah ((0:Int)<=(k:Int));unfold aL1 at HI;go_enter Tryz.func147,Tryz.ntmps147
  go_wp2_with fail
  refine HI.o.mono ?_;rintro r w3 ⟨rfl,hx3⟩;have gU:=ak hx3;clear hx3;go_wp2_with fail
  go_ret;exact dL (by rw[HF.o]) gU.o
theorem Lc {s:List Attr} {l:List dY} (hc:Chk s l) {e:Ex} (ht:jA e) (h:fB s l e=0):((e.op≠6/\e.op≠7/\e.op≠8)/\(e.op=3->fG l e.name=none))\/(e.op=3/\iE s e.name=none/\∃d,fG l e.name=some d)\/(e.op=6/\e.args.length=1)\/e.op=7\/e.op=8:=by
 rcases agx ht h with h1|h1|⟨h1,i,h2,-⟩|⟨h1,h3,d,h2⟩|⟨h1,i,h2,h3⟩|⟨h1,i,h2,-⟩|⟨h1,h2⟩|h1|h1
 ·exact Or.inl ⟨by omega,fun h=>by omega⟩
 ·exact Or.inl ⟨by omega,fun h=>by omega⟩
 ·refine Or.inl ⟨by omega,fun _=>?_⟩;cases hd:fG l e.name with
  | none=>rfl
  | some d=>rw[hc.apart hd] at h2;cases h2
 ·exact Or.inr (Or.inl ⟨h1,h3,d,h2⟩)
 ·exact Or.inl ⟨by omega,fun h=>by omega⟩
 ·exact Or.inl ⟨by omega,fun h=>by omega⟩
 ·exact Or.inr (Or.inr (Or.inl ⟨h1,h2⟩))
 ·exact Or.inr (Or.inr (Or.inr (Or.inl h1)))
 exact Or.inr (Or.inr (Or.inr (Or.inr h1)))
def a05 (s:List Attr) (f:ZI) (V:BA->Option Bool) (args:List Ex) (na:Nat) (w:World) (i:Value) (wr:World):Prop:=∃k:Nat,i=.int .i64 k/\k<=na/\(∀j (h:j<args.length),j<k->uo s f V args[j]=true)/\Ext w wr
theorem atv (s:List Attr) (l:List dY) (f:ZI) (hc:Chk s l) (hfa:jq s f=true) (lv:jH) (nm:Nat):∀(g m:Nat) (e:Ex) (ev:Value) (w:World),e.size<=m->m<=1000000->jA e->fB s l e=0->mG l g e<=2000->Gy w s l f lv nm->fC w e ev ->
  Calls Tryz.prog 116 #[lv.val,ev] w (dN (.bool (l7 s l f g e)) w):=by
 intro g;induction g with
 | zero=>intro m e ev w _ _ _ _ h;simp[mG] at h
 | succ g ihg =>
  intro m;induction m with
  | zero=>intro e ev w h;have:=size_pos e;omega
  | succ m ihm =>
   intro e ev w hm YJ hok hnd hex hl he;have Ns:=Lc hc hok hnd;have hfw:=Qe hok hnd;obtain⟨-,Zd⟩:=Bv hnd;obtain⟨ald,Zc⟩:=kP hok;have Ze:=Rn (D:=Zu l g) (e:=e) (by rw[<-mW];exact hex);have aaL:=XW (D:=Zu l g) (e:=e) (by rw[<-mW];exact hex);have Kt:=ak (fun h5 W (hW:Ext w W)=>adN s l f lv nm hc.DK hfa e ev W (hl.ext hW) (he.ext hW) hok h5);have HDC:=ak (fun W (hW:Ext w W)=>LM s l f lv nm e ev W (hl.ext hW) (he.ext hW) (by have:=(O7 hok).2;omega));obtain⟨aw,nw,cw,aa,na,ca,rfl,hw,hna,hca,ha,hx⟩:=he.parts;have hS:e.size=1+sizes e.args:=e.size_eq;have hla:=iI e.args;obtain⟨op,name,words,lo,hi,args⟩:=e;simp only[Ex.op,Ex.name,Ex.words,Ex.lo,Ex.hi,Ex.args] at *;have Q9:na<=1000000:=by omega
   have aHm:sizes args<=m:=by omega
   obtain⟨R,hR⟩:∃R,R=l7 s l f (g+1) (.mk op name words lo hi args):=⟨_,rfl⟩
   rw[<-hR];obtain⟨V,hV⟩:∃V,V=(fun x=>(fG l x).map fun d=>l7 s l f g (l.getD d iT).cond):=⟨_,rfl⟩
   have hvf:∀e,l7 s l f (g+1) e=uo s f V e:=fun e=>by rw[hV];rfl
   rw[hvf,uo] at hR;have HR:=ak hR;have HX:=ak hx;have nK:=ak hna;have qx:=ak (fun (j:Nat) (hj:j<args.length) (xv:Value) (W:World) (hW:Ext w W) (hxv:fC W args[j] xv)=>show Calls Tryz.prog 116 #[lv.val,xv] W (dN (.bool (uo s f V args[j])) W) from by
    rw[<-hvf];exact ihm args[j] xv W (by have h1:=iq args j hj;have h2:=gV args (j+1);omega) (by omega) (Zc _ (aI hj)) (Zd j hj) (by rw[mW];exact Ze j hj) (hl.ext hW) hxv)
   have Jb:=ak (fun (h3:op=3) (d:Nat) (hd:fG l name=some d) (xv:Value) (W:World) (hW:Ext w W) (hxv:fC W (l.getD d iT).cond xv)=>ihg 300 (l.getD d iT).cond xv W (hc.cond (lG hd).1).2.2 (by omega) (hc.cond (lG hd).1).1 (hc.cond (lG hd).1).2.1 (aaL h3 (by unfold Zu;rw[hd];rfl)) (hl.ext hW) hxv);have HVV:=ak (show ∀d,fG l name=some d->V name=some (l7 s l f g (l.getD d iT).cond) from fun d hd=>by rw[hV];simp only[hd];rfl);have Ur:=ak (show fG l name=none->V name=none from fun hd=>by rw[hV];simp only[hd];rfl);have Kv:=ak hfw;clear hc hfa hl hx hw hna hca ha hS hla ihg ihm hm Zd Zc Ze aaL ald hok hnd hex he hR hvf hV hfw;obtain⟨sa,sn,sc,bm,fa,fn,fc⟩:=lv;unfold exV jH.val at *;simp only at *;obtain⟨wa,dW⟩:∃wa,wa=(w.alloc (.cells #[.slice sa sn sc,.map (some bm),.slice fa fn fc] 183)).alloc (.cells #[.int .i64 op,.string name,.slice aw nw cw,.int .i64 lo,.int .i64 hi,.slice aa na ca] 45):=⟨_,rfl⟩
   have hxa:Ext w wa:=by rw[dW];exact((Ext.refl _).alloc _).alloc _
   have hb0:wa.heap[w.heap.size]?=some (.cells #[.slice sa sn sc,.map (some bm),.slice fa fn fc] 183 (0,0)):=by rw[dW];exact dJ (dG w _)
   have hb1:wa.heap[w.heap.size+1]?=some (.cells #[.int .i64 op,.string name,.slice aw nw cw,.int .i64 lo,.int .i64 hi,.slice aa na ca] 45 (0,0)):=by rw[dW];exact eH (by simp)
   have fE:=ak hxa;have HB0:=ak hb0;have HB1:=ak hb1;obtain⟨f0,f1,f2,f3,f4,f5,ff⟩:=eP hb1;obtain⟨e0,e1,e2,ef⟩:=fZ hb0;have nP:=dH hb1;clear hxa hb0 hb1;have hmf:∀(fn:Fn) (first cap:Array Value) (w:World),(Instr.makeFunc fn first cap).run Tryz.prog w=.ok (.func fn first cap) w:=fun _ _ _ _=>rfl
   rcases Ns with ⟨h6,hdn⟩|⟨rfl,hat,d,hdf⟩|⟨rfl,hl1⟩|rfl|rfl
   case inr.inr.inl =>
    have hj:0<args.length:=by omega
    have HQ:=ak (show R=!(uo s f V args[0]) by
     rw[HR.o,dw rfl,ai',aZ hj];rfl)
    have hnp:0<na:=by have:=nK.o;omega
    obtain⟨b,off,rfl,rJ,rF,rH,rM,rG,ca1,h0,h1,h2,h3,h4,h5,h6⟩:=iK.at args _ (iK.ext fE.o args _ HX.o) 0 hj;have HA0:=ak (qx.o 0 hj _ wa fE.o h6);simp only[Nat.zero_mul,Nat.add_zero] at h0 h1 h2 h3 h4 h5;obtain⟨B,hB⟩:∃B,B=uo s f V args[0]:=⟨_,rfl⟩
    rw[<-hB] at HQ HA0;unfold exV at HA0;clear hl1 hB qx Jb h6;go_enter Tryz.func116,Tryz.ntmps116
    go_upto_region 1 with fail
    rw[<-dW];clear dW;go_wp2_with fail
    refine HA0.o.mono ?_;rintro r w3 ⟨rfl,hx3⟩;have gU:=ak (fE.o.trans hx3);clear hx3;go_wp2_with fail
    go_ret;exact dL (by rw[HQ.o]) gU.o
   ·have t6:(op==6)=false:=by simp[h6.1]
    have t7:(op==7)=false:=by simp[h6.2.1]
    have t8:(op==8)=false:=by simp[h6.2.2]
    have HQ:=ak (show R=yZ s f op name words lo hi by
     rw[HR.o,dh h6.1,dh h6.2.1,dh h6.2.2];by_cases h3:op=3
     ·rw[dw h3,Ur.o (hdn h3)];rfl
     rw[dh h3])
    have as3:=ak (Kt.o (Kv.o h6 hdn));obtain⟨B,hB⟩:∃B,B=yZ s f op name words lo hi:=⟨_,rfl⟩
    rw[<-hB] at HQ as3;have HDN:=ak hdn;clear h6 hdn hB qx Jb Kt Kv;go_enter Tryz.func116,Tryz.ntmps116
    go_upto_region 1 with fail
    rw[<-dW];clear dW;go_wp2_with fail
    refine(HDC.o wa fE.o).mono ?_;rintro r w3 ⟨hx3,hq⟩;rcases hq with ⟨h3,d,v,hd,-⟩|⟨-,rfl⟩
    ·rw[HDN.o h3] at hd;cases hd
    have gU:=ak (fE.o.trans hx3);have Bl:=ak (hx3.blk HB0.o);have rX:=ak (hx3.blk HB1.o);clear f0 f1 f2 f3 f4 f5 ff e0 e1 e2 ef nP hx3;obtain⟨f0,f1,f2,f3,f4,f5,ff⟩:=eP rX.o;obtain⟨e0,e1,e2,ef⟩:=fZ Bl.o;have nP:=dH rX.o;have hlt0:=dH Bl.o;unfold aaV;go_wp2_with fail
    refine(as3.o _ (gU.o.alloc _)).mono ?_;rintro r w5 ⟨rfl,hx5⟩;have jY:=ak ((gU.o.alloc _).trans hx5);clear hx5;go_wp2_with fail
    go_ret;exact dL (by rw[HQ.o]) jY.o
   ·have HQ:=ak (show R=l7 s l f g (l.getD d iT).cond by
     rw[HR.o,dh (by decide),dh (by decide),dh (by decide),dw rfl,HVV.o d hdf];rfl)
    have HDF:=ak (Jb.o rfl d hdf);obtain⟨B,hB⟩:∃B,B=l7 s l f g (l.getD d iT).cond:=⟨_,rfl⟩
    rw[<-hB] at HQ HDF;have Yq:=ak hdf;clear hat hdf hB qx Jb Kt Kv;go_enter Tryz.func116,Tryz.ntmps116
    go_upto_region 1 with fail
    rw[<-dW];clear dW;go_wp2_with fail
    refine(HDC.o wa fE.o).mono ?_;rintro r w3 ⟨hx3,hq⟩;rcases hq with ⟨-,d',v,hd,rfl,hv⟩|⟨hd,-⟩
    case inr =>
     rcases hd with hd|hd
     ·exact absurd rfl hd
     rw[Yq.o] at hd;cases hd
    rw[Yq.o] at hd;obtain rfl:d=d':=by simpa using hd
    have gU:=ak (fE.o.trans hx3);have HEX:=ak hv;clear f0 f1 f2 f3 f4 f5 ff e0 e1 e2 ef nP hx3 hv hd;have HDG:=ak (fun W (hW:Ext w3 W)=>HDF.o v.val W (gU.o.trans hW) (HEX.o.ext hW));unfold fU.val exV at *;go_wp2_with fail
    refine(HDG.o _ ((Ext.refl w3).alloc _)).mono ?_;rintro r w5 ⟨rfl,hx5⟩;have jY:=ak ((gU.o.alloc _).trans hx5);clear hx5;go_wp2_with fail
    go_ret;exact dL (by rw[HQ.o]) jY.o
   ·have HQ:=ak (show R=args.all (uo s f V) by rw[HR.o,dh (by decide),dw rfl,BI]);clear Jb Kt Kv;go_enter Tryz.func116,Tryz.ntmps116
    go_upto_region 1 with fail
    rw[<-dW];clear dW;go_wp2_with fail
    clear f0 f1 f2 f3 f4 f5 ff e0 e1 e2 ef nP;go_loopw [34] (a05 s f V args na w) (fun i _=>na - (intOf i).toNat)
    case atStart=>exact⟨0,rfl,by omega,fun j _ h=>by omega,fE.o⟩
    case round =>
     obtain⟨k,rfl,hk,hall,hxr⟩:=hrel;have qE:=ak hall;have kC:=ak hxr;clear hall hxr;by_cases hkn:k<na
     ·have hka:k<args.length:=by have:=nK.o;omega
      have t1:=ah ((k:Int)<(na:Int));obtain⟨b,off,rfl,rJ,rF,rH,rM,rG,ca1,h0,h1,h2,h3,h4,h5,h6⟩:=iK.at args _ (iK.ext kC.o args _ HX.o) k hka;have H6:=ak h6;have HAK:=ak (fun W (hW:Ext wr W)=>qx.o k hka _ W (kC.o.trans hW) (H6.o.ext hW));obtain⟨B,hB⟩:∃B,B=uo s f V args[k]:=⟨_,rfl⟩
      rw[<-hB] at HAK;have nZ:=ak hB;unfold exV at HAK;clear h6 hB;go_wp2_with fail
      refine(HAK.o _ ((Ext.refl wr).alloc _)).mono ?_;rintro r w3 ⟨rfl,hx3⟩;have gU:=ak ((kC.o.alloc _).trans hx3);clear hx3 h0 h1 h2 h3 h4 h5;cases B
      ·have HF:=ak (show R=false by rw[HQ.o,List.all_eq_false];exact⟨_,aI hka,by rw[<-nZ.o];simp⟩);go_wp2_with fail
       go_ret;exact dL (by rw[HF.o]) gU.o
      go_wp2_with fail
      go_roundw
      case rel =>
       refine⟨k+1,by go_num,by omega,fun j hj hjk=>?_,gU.o⟩;by_cases e:j=k
       ·subst e;exact nZ.o.symm
       exact qE.o j hj (by omega)
      case measure=>simp[intOf];omega
     have t1:=aj ((k:Int)<(na:Int));have HF:=ak (show R=true by
      rw[HQ.o,aV];intro x hx;obtain⟨j,hj,rfl⟩:=bM hx;exact qE.o j hj (by have:=nK.o;omega))
     go_wp2_with fail
     go_ret;exact dL (by rw[HF.o]) kC.o
   have HQ:=ak (show R=args.any (uo s f V) by rw[HR.o,dh (by decide),dh (by decide),dw rfl,BH]);have HCF:=ak (aix (.agg #[.slice sa sn sc,.map (some bm),.slice fa fn fc]) args aa na ca (uo s f V) wa nK.o Q9 (iK.ext fE.o args _ HX.o) fun j hj xv W hW hxv=>qx.o j hj xv W (fE.o.trans hW) hxv);obtain⟨B,hB⟩:∃B,B=args.any (uo s f V):=⟨_,rfl⟩
   rw[<-hB] at HQ HCF;unfold fvV at HCF;clear Jb Kt Kv hB;go_enter Tryz.func116,Tryz.ntmps116
   go_upto_region 1 with fail
   rw[<-dW];clear dW;go_wp2_with fail
   refine HCF.o.mono ?_;rintro r w3 ⟨rfl,hx3⟩;have gU:=ak (fE.o.trans hx3);clear hx3;go_wp2_with fail
   go_ret;exact dL (by rw[HQ.o]) gU.o
structure RN (w:World) (s:List Attr) (l:List dY) (e:Ex) (f:ZI) (sv ev:Value) (a:OA) (n c:Nat) (fa:OA) (fn:Nat):Prop where
 DK:fJ w s sv
 amX:∀x∈s,x.fits
 slen:s.length<=1000000000000000
 FY:eX w l a n c
 cn:n<=1000000
 Ja:∀x∈l,x.fit
 ex:fC w e ev
 few:e.few
 fit:e.fits
 Ar:e.Ar
 ints:fO w f fa fn
 fnl:fn<=1000000000000000
 ops:gG w
theorem RN.ext {w w':World} {s:List Attr} {l:List dY} {e:Ex} {f:ZI} {sv ev:Value} {a:OA} {n c:Nat} {fa:OA} {fn:Nat} (h:RN w s l e f sv ev a n c fa fn) (hx:Ext w w'):RN w' s l e f sv ev a n c fa fn :=
 ⟨h.DK.ext hx,h.amX,h.slen,h.FY.ext hx,h.cn,h.Ja,h.ex.ext hx,h.few,h.fit,h.Ar,h.ints.ext hx,h.fnl,h.ops.ext hx⟩
theorem RN.checked {w:World} {s:List Attr} {l:List dY} {e:Ex} {f:ZI} {sv ev:Value} {a:OA} {n c:Nat} {fa:OA} {fn:Nat} (h:RN w s l e f sv ev a n c fa fn) (fc:Nat):Calls Tryz.prog 115 #[sv,.slice a n c,ev,.slice fa fn fc] w (WR s l e f n w) :=
 anN s l e f ev sv a n c fa fn fc w h.DK h.amX h.slen h.FY h.cn h.Ja h.ex h.few h.fit h.ints h.fnl h.ops
theorem RN.truth {w:World} {s:List Attr} {l:List dY} {e:Ex} {f:ZI} {sv ev:Value} {a:OA} {n c:Nat} {fa:OA} {fn:Nat} (h:RN w s l e f sv ev a n c fa fn) (ho:Zh s l e f) (fc:Nat):Calls Tryz.prog 127 #[sv,.slice a n c,ev,.slice fa fn fc] w (dN (.bool (val s l f e)) w) :=
 BN s l f ho.chk ho.facts h.amX a n c fa fn fc (l.length+1) 300 e ev sv w ho.size (by omega) ho.tree ho.node ho.exp h.DK h.FY h.ex h.ints
theorem RN.value {w:World} {s:List Attr} {l:List dY} {e:Ex} {f:ZI} (ho:Zh s l e f) {lv:jH} {nm:Nat} {ev:Value} (hl:Gy w s l f lv nm) (he:fC w e ev):Calls Tryz.prog 116 #[lv.val,ev] w (dN (.bool (val s l f e)) w) :=
 atv s l f ho.chk ho.facts lv nm (l.length+1) 300 e ev w ho.size (by omega) ho.tree ho.node ho.exp hl he
open Classical in
noncomputable def YK (s:List Attr) (l:List dY) (e:Ex) (f:ZI):Bool:=if lY s l e f=0 then val s l f e else false
noncomputable def afq (s:List Attr) (l:List dY) (e:Ex) (f:ZI):Value:=.tuple #[.bool (YK s l e f),.int .i64 (lY s l e f)]
theorem adP (s:List Attr) (l:List dY) (e:Ex) (f:ZI) (sv ev:Value) (a:OA) (n c:Nat) (fa:OA) (fn fc:Nat) (w:World) (hi:RN w s l e f sv ev a n c fa fn) :
  Calls Tryz.prog 86 #[sv,.slice a n c,ev,.slice fa fn fc] w (dN (afq s l e f) w):=by
 obtain⟨sa,sn,sc,rfl,-⟩:=hi.DK.slice;have vP:=ak (fun W (hW:Ext w W)=>(hi.ext hW).checked fc);have HEX:=ak hi.ex;obtain⟨aw,nw,cw,aa,na,ca,rfl,-⟩:=hi.ex.parts;have HVA:=ak (fun (h0:lY s l e f=0) (lv:jH) W (hW:Ext w W) (hl:Gy W s l f lv n)=>RN.value (Il h0) hl (hi.ex.ext hW));unfold WR at vP;obtain⟨EV,hEV⟩:∃EV,EV=afq s l e f:=⟨_,rfl⟩
 rw[<-hEV];unfold afq YK at hEV;obtain⟨E,hE⟩:∃E,E=lY s l e f:=⟨_,rfl⟩
 rw[<-hE] at vP HVA hEV;obtain⟨V,hV⟩:∃V,V=val s l f e:=⟨_,rfl⟩
 rw[<-hV] at HVA hEV;have yS:=ak (show E≠0->EV=.tuple #[.bool false,.int .i64 E] from fun h=>by rw[hEV,dh h]);have HE2:=ak (show E=0->EV=.tuple #[.bool V,.int .i64 E] from fun h=>by rw[hEV,dw h]);clear hi hE hV hEV;unfold exV at *;obtain⟨wa,dW⟩:∃wa,wa=(w.alloc (.cells #[.slice sa sn sc] 24)).alloc (.cells #[.int .i64 e.op,.string e.name,.slice aw nw cw,.int .i64 e.lo,.int .i64 e.hi,.slice aa na ca] 45):=⟨_,rfl⟩
 have hxa:Ext w wa:=by rw[dW];exact((Ext.refl _).alloc _).alloc _
 have hb0:wa.heap[w.heap.size]?=some (.cells #[.slice sa sn sc] 24 (0,0)):=by rw[dW];exact dJ (dG w _)
 have hb1:wa.heap[w.heap.size+1]?=some (.cells #[.int .i64 e.op,.string e.name,.slice aw nw cw,.int .i64 e.lo,.int .i64 e.hi,.slice aa na ca] 45 (0,0)):=by rw[dW];exact eH (by simp)
 have fE:=ak hxa;have HB1:=ak hb1;obtain⟨e0,ef⟩:=gQ hb0;obtain⟨f0,f1,f2,f3,f4,f5,ff⟩:=eP hb1;clear hxa hb0 hb1;go_enter Tryz.func86,Tryz.ntmps86
 go_upto_region 1 with fail
 rw[<-dW];clear dW;go_wp2_with fail
 refine(vP.o wa fE.o).mono ?_;rintro r w1 ⟨hx1,⟨hz,rfl⟩|⟨hz,lv,rfl,hls⟩⟩
 ·have fQ:=ak (fE.o.trans hx1);have t1:(E != 0)=true:=by simp[hz]
  have HZ:=ak hz;clear hx1 hz e0 ef f0 f1 f2 f3 f4 f5 ff vP HVA;unfold uz;go_wp2_with fail
  go_ret2
  exact⟨by rw[yS.o HZ.o];rfl,fQ.o.alloc _⟩
 have fQ:=ak (fE.o.trans hx1);have uh:=ak (hx1.blk HB1.o);have HVV:=ak (fun W (hW:Ext w1 W)=>HVA.o hz lv W (fQ.o.trans hW) (hls.ext hW));subst hz;obtain⟨la,ln,lc,bm,fa',fn',fc'⟩:=lv;clear hx1 hls e0 ef f0 f1 f2 f3 f4 f5 ff vP HVA;obtain⟨f0,f1,f2,f3,f4,f5,ff⟩:=eP uh.o;have hlt1:=dH uh.o;unfold jH.val at *;go_wp2_with fail
 refine(HVV.o _ ((Ext.refl w1).alloc _)).mono ?_;rintro r w3 ⟨rfl,hx3⟩;have gU:=ak ((fQ.o.alloc _).trans hx3);clear hx3;go_wp2_with fail
 go_ret2
 exact⟨by rw[HE2.o trivial];rfl,gU.o⟩
def Pd (s:List Attr) (l:List dY) (e:Ex):Prop:=iL e=true/\fB s l e=0/\expanded l e<=2000/\e.few/\e.fits/\e.Ar
structure DIn (w:World) (s:List Attr) (l:List dY) (f:ZI) (lo:jH) (n:Nat):Prop where
 loss:Hz w s l f lo n
 ok:(eU s l).2=0
 facts:mJ s f=true
 amX:∀x∈s,x.fits
 Ja:∀x∈l,x.fit
 fnl:lo.fn<=1000000000000000
 ops:gG w
theorem DIn.ext {w w':World} {s:List Attr} {l:List dY} {f:ZI} {lo:jH} {n:Nat} (h:DIn w s l f lo n) (hx:Ext w w'):DIn w' s l f lo n:=⟨h.loss.ext hx,h.ok,h.facts,h.amX,h.Ja,h.fnl,h.ops.ext hx⟩
theorem DIn.slen {w:World} {s:List Attr} {l:List dY} {f:ZI} {lo:jH} {n:Nat} (h:DIn w s l f lo n):s.length<=1000000000000000:=by
 have hs:=h.loss.DK.parts;obtain⟨_,_,_,e,h1,_⟩:=hs;have:=(kN (qO h.ok).DK).2.1;omega
theorem DIn.eval {w:World} {s:List Attr} {l:List dY} {f:ZI} {lo:jH} {n:Nat} (h:DIn w s l f lo n) {e:Ex} {ev:Value} (he:fC w e ev) (hp:Pd s l e) {u:List dY} {a:OA} {c:Nat} (hu:J5 l e u) (hc:eX w u a u.length c) :
  Calls Tryz.prog 86 #[.agg #[.slice lo.sa lo.sn lo.sc],.slice a u.length c,ev,.slice lo.fa lo.fn lo.fc] w (dN (.tuple #[.bool (val s l f e),.int .i64 0]) w):=by
 obtain⟨p1,p2,p3,p4,p5,p6⟩:=hp;obtain⟨q1,q2⟩:=hu.eval h.ok p1 p2 p3 h.facts;have h1:=adP s u e f _ ev a u.length c lo.fa lo.fn lo.fc w ⟨h.loss.DK,h.amX,h.slen,hc,by have:=hu.1.len;have:=(qO h.ok).len;omega,fun x hx=>h.Ja x (hu.2 x hx),he,p4,p5,p6,h.loss.ints,h.fnl,h.ops⟩;unfold afq YK at h1;rw[dw q1,q1,q2] at h1;exact h1
theorem ahR {s:List Attr} {l:List dY} {f:ZI} {lo:jH} {n:Nat} {e:Ex} {ev:Value} (w:World) (h:DIn w s l f lo n) (he:fC w e ev) (hp:Pd s l e) :
  Calls Tryz.prog 59 #[lo.val,ev] w (dN (.bool (val s l f e)) w):=by
 have hck:=qO h.ok;have hsz:=(GU hp.1).2;have HU:=ak (fun W (hW:Ext w W)=>adb s l f e ev lo n W (h.loss.ext hW) (by have:=hck.len;omega) (he.ext hW) ⟨by omega,hp.2.2.2.2.1⟩ (fun x hx=>⟨by have:=(GU (hck.good x hx).2.2.1).2;omega,(h.Ja x hx).2.1⟩));have HE:=ak (fun W (hW:Ext w W) (u:List dY) (a:OA) (c:Nat) (hu:J5 l e u) (hc:eX W u a u.length c)=>(h.ext hW).eval (he.ext hW) hp hu hc);obtain⟨aw,nw,cw,aa,na,ca,rfl,-⟩:=he.parts;obtain⟨V,hV⟩:∃V,V=val s l f e:=⟨_,rfl⟩
 rw[<-hV] at HE ⊢;obtain⟨U,hU⟩:∃U:List dY->Prop,U=J5 l e:=⟨_,rfl⟩
 unfold aBO at HU;have HU2:=ak (fun W (hW:Ext w W)=>(HU.o W hW).mono (fun r w' (hq:∃u a c,r=.returned (.slice a u.length c)/\eX w' u a u.length c/\J5 l e u/\Ext W w')=>by rw[<-hU] at hq;exact hq));rw[<-hU] at HE;clear h he hp hV hck hsz hU HU;unfold exV jH.val at *;obtain⟨wa,dW⟩:∃wa,wa=(w.alloc (.cells #[.slice lo.sa lo.sn lo.sc,.map (some lo.bm),.slice lo.fa lo.fn lo.fc] 74)).alloc (.cells #[.int .i64 e.op,.string e.name,.slice aw nw cw,.int .i64 e.lo,.int .i64 e.hi,.slice aa na ca] 45):=⟨_,rfl⟩
 have fE:=ak (show Ext w wa by rw[dW];exact((Ext.refl _).alloc _).alloc _);obtain⟨x0,x1,x2,xf⟩:=fZ (show wa.heap[w.heap.size]?=some (.cells #[.slice lo.sa lo.sn lo.sc,.map (some lo.bm),.slice lo.fa lo.fn lo.fc] 74 (0,0)) by rw[dW];exact dJ (dG w _));obtain⟨f0,f1,f2,f3,f4,f5,ff⟩:=eP (show wa.heap[w.heap.size+1]?=some (.cells #[.int .i64 e.op,.string e.name,.slice aw nw cw,.int .i64 e.lo,.int .i64 e.hi,.slice aa na ca] 45 (0,0)) by rw[dW];exact eH (by simp));have C0:=dI x0;have C1:=dI x1;have C2:=dI x2;have D0:=dI f0;have D1:=dI f1;have D2:=dI f2;have D3:=dI f3;have D4:=dI f4;have D5:=dI f5;go_enter Tryz.func59,Tryz.ntmps59
 go_upto_region 1 with fail
 rw[<-dW];clear dW;refine rC 14 ?_
 repeat (refine dQ ?_;intro K hK;go_big_quiet_op;go_big_quiet_on)
 refine je (γ:=List dY×OA×Nat) (fun x=>.slice x.2.1 x.1.length x.2.2) (fun x W=>U x.1/\eX W x.1 x.2.1 x.1.length x.2.2) (fun W hW _ _=>?_) (fun x W W' hx h=>⟨h.1,h.2.ext hx⟩) ?_ ⟨([],none,0)⟩
 ·unfold dF;go_simp;refine(HU2.o W (fE.o.trans hW)).mono ?_;rintro r w1 ⟨u,a,c,rfl,h1,h2,h3⟩;exact⟨_,rfl,h3,(u,a,c),rfl,h2,h1⟩
 rintro⟨u,a,c⟩ K hK;go_simp;go_big_quiet_on
 repeat (refine dQ ?_;intro K hK;go_big_quiet_op;go_big_quiet_on)
 refine lS (.tuple #[.bool V,.int .i64 0]) (fun _=>True) (fun W hW hu _=>?_) (fun _ _ _ h=>h) ?_
 ·unfold dF;go_simp;refine(HE.o W (fE.o.trans hW) u a c hu.1 hu.2).mono ?_;rintro r w1 ⟨rfl,hx1⟩;exact⟨_,rfl,hx1,rfl,trivial⟩
 intro K hK;go_simp;go_big_quiet_on
 repeat (refine dQ ?_;intro K hK;go_big_quiet_op;go_big_quiet_on)
 refine lH fun w2 hx2 _ _=>?_
 have gI:=ak (fE.o.trans hx2);clear hx2;go_wp2_with fail
 go_ret;exact dL (by simp) gI.o
theorem OD (nm:BA) (x:fU) (au:OA) (nu cu:Nat) (w:World):Calls Tryz.prog 230 #[.agg #[.string nm,.int .i64 x.op,.string x.name,.slice x.aw x.nw x.cw,.int .i64 x.lo,.int .i64 x.hi,.slice x.aa x.na x.ca,.slice au nu cu]] w (dN (.agg #[.int .i64 x.op,.string x.name,.slice x.aw x.nw x.cw,.int .i64 x.lo,.int .i64 x.hi,.slice x.aa x.na x.ca]) w):=by
 obtain⟨wa,dW⟩:∃wa,wa=(w.alloc (.cells #[.string nm,.int .i64 x.op,.string x.name,.slice x.aw x.nw x.cw,.int .i64 x.lo,.int .i64 x.hi,.slice x.aa x.na x.ca,.slice au nu cu] 113)).alloc (.cells #[.int .i64 0,.string ⟨#[]⟩,.slice none 0 0,.int .i64 0,.int .i64 0,.slice none 0 0] 45):=⟨_,rfl⟩
 have fE:=ak (show Ext w wa by rw[dW];exact((Ext.refl _).alloc _).alloc _);obtain⟨f0,f1,f2,f3,f4,f5,f6,f7,ff⟩:=vN (show wa.heap[w.heap.size]?=some (.cells #[.string nm,.int .i64 x.op,.string x.name,.slice x.aw x.nw x.cw,.int .i64 x.lo,.int .i64 x.hi,.slice x.aa x.na x.ca,.slice au nu cu] 113 (0,0)) by rw[dW];exact dJ (dG w _));have HR:=ak (show wa.heap[w.heap.size+1]?=some (.cells #[.int .i64 0,.string ⟨#[]⟩,.slice none 0 0,.int .i64 0,.int .i64 0,.slice none 0 0] 45 (0,0)) by rw[dW];exact eH (by simp));obtain⟨g0,g1,g2,g3,g4,g5,gf⟩:=eP HR.o;go_enter Tryz.func230,Tryz.ntmps230
 go_upto_region 1 with fail
 rw[<-dW];clear dW;go_wp2_with fail
 obtain⟨w8,hw8⟩:∃w8,w8=jE wa (w.heap.size+1) (.int .i64 x.op) (.string x.name) (.slice x.aw x.nw x.cw) (.int .i64 x.lo) (.int .i64 x.hi) (.slice x.aa x.na x.ca):=⟨_,rfl⟩
 have rD:=ak (show Ext w w8 by rw[hw8];exact(iY _ _).ext fE.o (by simp));have h8:w8.heap[w.heap.size+1]?=some (.cells #[.int .i64 x.op,.string x.name,.slice x.aw x.nw x.cw,.int .i64 x.lo,.int .i64 x.hi,.slice x.aa x.na x.ca] 45 (0,0)):=by rw[hw8];exact jv HR.o
 unfold jE at hw8;rw[<-hw8];clear hw8 g0 g1 g2 g3 g4 g5 gf;obtain⟨g0,g1,g2,g3,g4,g5,gf⟩:=eP h8;refine bodyPost_ret (v:=.agg #[.int .i64 x.op,.string x.name,.slice x.aw x.nw x.cw,.int .i64 x.lo,.int .i64 x.hi,.slice x.aa x.na x.ca]) (by simp[results,Tryz.results230,go_sem,g0,g1,g2,g3,g4,g5]) rfl ?_;exact⟨rfl,rD.o⟩
theorem KC (nm:BA) (x:fU) (au:OA) (nu cu:Nat) (w:World):Calls Tryz.prog 229 #[.agg #[.string nm,.int .i64 x.op,.string x.name,.slice x.aw x.nw x.cw,.int .i64 x.lo,.int .i64 x.hi,.slice x.aa x.na x.ca,.slice au nu cu]] w (dN (.slice au nu cu) w):=by
 obtain⟨wa,dW⟩:∃wa,wa=w.alloc (.cells #[.string nm,.int .i64 x.op,.string x.name,.slice x.aw x.nw x.cw,.int .i64 x.lo,.int .i64 x.hi,.slice x.aa x.na x.ca,.slice au nu cu] 113):=⟨_,rfl⟩
 have fE:=ak (show Ext w wa by rw[dW];exact(Ext.refl _).alloc _);obtain⟨f0,f1,f2,f3,f4,f5,f6,f7,ff⟩:=vN (show wa.heap[w.heap.size]?=some (.cells #[.string nm,.int .i64 x.op,.string x.name,.slice x.aw x.nw x.cw,.int .i64 x.lo,.int .i64 x.hi,.slice x.aa x.na x.ca,.slice au nu cu] 113 (0,0)) by rw[dW];exact dG w _);go_enter Tryz.func229,Tryz.ntmps229
 go_upto_region 1 with fail
 rw[<-dW];clear dW;go_wp2_with fail
 go_ret;exact⟨rfl,fE.o⟩
theorem Yx (n:Nat) (nm:BA) (x:fU) (au:OA) (nu cu:Nat) (W:World):(method (n+1) 113 (.agg #[.string nm,.int .i64 x.op,.string x.name,.slice x.aw x.nw x.cw,.int .i64 x.lo,.int .i64 x.hi,.slice x.aa x.na x.ca,.slice au nu cu]) "treaty/decide.when").run Tryz.prog W=.ok (230,.agg #[.string nm,.int .i64 x.op,.string x.name,.slice x.aw x.nw x.cw,.int .i64 x.lo,.int .i64 x.hi,.slice x.aa x.na x.ca,.slice au nu cu]) W:=by kernel_rfl
theorem Tc (n:Nat) (nm:BA) (x:fU) (au:OA) (nu cu:Nat) (W:World):(method (n+1) 113 (.agg #[.string nm,.int .i64 x.op,.string x.name,.slice x.aw x.nw x.cw,.int .i64 x.lo,.int .i64 x.hi,.slice x.aa x.na x.ca,.slice au nu cu]) "treaty/decide.unless").run Tryz.prog W=.ok (229,.agg #[.string nm,.int .i64 x.op,.string x.name,.slice x.aw x.nw x.cw,.int .i64 x.lo,.int .i64 x.hi,.slice x.aa x.na x.ca,.slice au nu cu]) W:=by kernel_rfl
theorem WA (kd:Int) (nm:BA) (x:fU) (au:OA) (nu cu:Nat) (am:Int) (w:World):Calls Tryz.prog 227 #[.agg #[.int .i64 kd,.string nm,.int .i64 x.op,.string x.name,.slice x.aw x.nw x.cw,.int .i64 x.lo,.int .i64 x.hi,.slice x.aa x.na x.ca,.slice au nu cu,.int .i64 am]] w (dN (.agg #[.int .i64 x.op,.string x.name,.slice x.aw x.nw x.cw,.int .i64 x.lo,.int .i64 x.hi,.slice x.aa x.na x.ca]) w):=by
 obtain⟨wa,dW⟩:∃wa,wa=(w.alloc (.cells #[.int .i64 kd,.string nm,.int .i64 x.op,.string x.name,.slice x.aw x.nw x.cw,.int .i64 x.lo,.int .i64 x.hi,.slice x.aa x.na x.ca,.slice au nu cu,.int .i64 am] 81)).alloc (.cells #[.int .i64 0,.string ⟨#[]⟩,.slice none 0 0,.int .i64 0,.int .i64 0,.slice none 0 0] 45):=⟨_,rfl⟩
 have fE:=ak (show Ext w wa by rw[dW];exact((Ext.refl _).alloc _).alloc _);obtain⟨f0,f1,f2,f3,f4,f5,f6,f7,f8,f9,ff⟩:=wu (show wa.heap[w.heap.size]?=some (.cells #[.int .i64 kd,.string nm,.int .i64 x.op,.string x.name,.slice x.aw x.nw x.cw,.int .i64 x.lo,.int .i64 x.hi,.slice x.aa x.na x.ca,.slice au nu cu,.int .i64 am] 81 (0,0)) by rw[dW];exact dJ (dG w _));have HR:=ak (show wa.heap[w.heap.size+1]?=some (.cells #[.int .i64 0,.string ⟨#[]⟩,.slice none 0 0,.int .i64 0,.int .i64 0,.slice none 0 0] 45 (0,0)) by rw[dW];exact eH (by simp));obtain⟨g0,g1,g2,g3,g4,g5,gf⟩:=eP HR.o;go_enter Tryz.func227,Tryz.ntmps227
 go_upto_region 1 with fail
 rw[<-dW];clear dW;go_wp2_with fail
 obtain⟨w8,hw8⟩:∃w8,w8=jE wa (w.heap.size+1) (.int .i64 x.op) (.string x.name) (.slice x.aw x.nw x.cw) (.int .i64 x.lo) (.int .i64 x.hi) (.slice x.aa x.na x.ca):=⟨_,rfl⟩
 have rD:=ak (show Ext w w8 by rw[hw8];exact(iY _ _).ext fE.o (by simp));have h8:w8.heap[w.heap.size+1]?=some (.cells #[.int .i64 x.op,.string x.name,.slice x.aw x.nw x.cw,.int .i64 x.lo,.int .i64 x.hi,.slice x.aa x.na x.ca] 45 (0,0)):=by rw[hw8];exact jv HR.o
 unfold jE at hw8;rw[<-hw8];clear hw8 g0 g1 g2 g3 g4 g5 gf;obtain⟨g0,g1,g2,g3,g4,g5,gf⟩:=eP h8;refine bodyPost_ret (v:=.agg #[.int .i64 x.op,.string x.name,.slice x.aw x.nw x.cw,.int .i64 x.lo,.int .i64 x.hi,.slice x.aa x.na x.ca]) (by simp[results,Tryz.results227,go_sem,g0,g1,g2,g3,g4,g5]) rfl ?_;exact⟨rfl,rD.o⟩
theorem Rz (kd:Int) (nm:BA) (x:fU) (au:OA) (nu cu:Nat) (am:Int) (w:World):Calls Tryz.prog 226 #[.agg #[.int .i64 kd,.string nm,.int .i64 x.op,.string x.name,.slice x.aw x.nw x.cw,.int .i64 x.lo,.int .i64 x.hi,.slice x.aa x.na x.ca,.slice au nu cu,.int .i64 am]] w (dN (.slice au nu cu) w):=by
 obtain⟨wa,dW⟩:∃wa,wa=w.alloc (.cells #[.int .i64 kd,.string nm,.int .i64 x.op,.string x.name,.slice x.aw x.nw x.cw,.int .i64 x.lo,.int .i64 x.hi,.slice x.aa x.na x.ca,.slice au nu cu,.int .i64 am] 81):=⟨_,rfl⟩
 have fE:=ak (show Ext w wa by rw[dW];exact(Ext.refl _).alloc _);obtain⟨f0,f1,f2,f3,f4,f5,f6,f7,f8,f9,ff⟩:=wu (show wa.heap[w.heap.size]?=some (.cells #[.int .i64 kd,.string nm,.int .i64 x.op,.string x.name,.slice x.aw x.nw x.cw,.int .i64 x.lo,.int .i64 x.hi,.slice x.aa x.na x.ca,.slice au nu cu,.int .i64 am] 81 (0,0)) by rw[dW];exact dG w _);go_enter Tryz.func226,Tryz.ntmps226
 go_upto_region 1 with fail
 rw[<-dW];clear dW;go_wp2_with fail
 go_ret;exact⟨rfl,fE.o⟩
theorem afF (n:Nat) (kd:Int) (nm:BA) (x:fU) (au:OA) (nu cu:Nat) (am:Int) (W:World):(method (n+1) 81 (.agg #[.int .i64 kd,.string nm,.int .i64 x.op,.string x.name,.slice x.aw x.nw x.cw,.int .i64 x.lo,.int .i64 x.hi,.slice x.aa x.na x.ca,.slice au nu cu,.int .i64 am]) "treaty/decide.when").run Tryz.prog W=.ok (227,.agg #[.int .i64 kd,.string nm,.int .i64 x.op,.string x.name,.slice x.aw x.nw x.cw,.int .i64 x.lo,.int .i64 x.hi,.slice x.aa x.na x.ca,.slice au nu cu,.int .i64 am]) W:=by kernel_rfl
theorem aa7 (n:Nat) (kd:Int) (nm:BA) (x:fU) (au:OA) (nu cu:Nat) (am:Int) (W:World):(method (n+1) 81 (.agg #[.int .i64 kd,.string nm,.int .i64 x.op,.string x.name,.slice x.aw x.nw x.cw,.int .i64 x.lo,.int .i64 x.hi,.slice x.aa x.na x.ca,.slice au nu cu,.int .i64 am]) "treaty/decide.unless").run Tryz.prog W=.ok (226,.agg #[.int .i64 kd,.string nm,.int .i64 x.op,.string x.name,.slice x.aw x.nw x.cw,.int .i64 x.lo,.int .i64 x.hi,.slice x.aa x.na x.ca,.slice au nu cu,.int .i64 am]) W:=by kernel_rfl
theorem aww {s:List Attr} {l:List dY} {f:ZI} {lo:jH} {n:Nat}:∀(m:Nat) (cond:Ex) (u:List Wb) (nm:BA) (x:fU) (au:OA) (nu cu:Nat) (w:World),qU u<=m->DIn w s l f lo n->Pd s l cond->nN (Pd s l) u->nu<=1000000000000000->nu=u.length->fC w cond x.val->jJ w u au ->
  Calls Tryz.prog 33 #[lo.val,.iface 113 (.agg #[.string nm,.int .i64 x.op,.string x.name,.slice x.aw x.nw x.cw,.int .i64 x.lo,.int .i64 x.hi,.slice x.aa x.na x.ca,.slice au nu cu])] w (dN (.bool (val s l f cond&&!wG (val s l f) u)) w):=by
 intro m;induction m using Nat.strongRecOn with
 | _ m ih =>
  intro cond u nm x au nu cu w hm h hp hok hnu hlen hex hd;have HH:=ak (fun (W:World) (hW:Ext w W)=>ahR W (h.ext hW) (hex.ext hW) hp);have HIH:=ak (fun (k:Nat) (hk:k<u.length) (v:J4) (W:World) (hW:Ext w W) (Bz:fC W u[k].cond v.x.val) (hvn:v.nu=u[k].jZ.length) (hvd:jJ W u[k].jZ v.au)=>ih (qU u[k].jZ) (by have:=Gn u k hk;omega) u[k].cond u[k].jZ v.name v.x v.au v.nu v.cu W (bg _) (h.ext hW) (pI u hok k hk).1 (pI u hok k hk).2.1 (by have:=(pI u hok k hk).2.2;omega) hvn Bz hvd);have HD:=ak hd;have HLEN:=ak hlen;obtain⟨T,hT⟩:∃T,T=val s l f cond:=⟨_,rfl⟩
  rw[<-hT] at HH ⊢;clear ih hm h hp hok hlen hex hd hT;have HW:=ak (fun W=>OD nm x au nu cu W);have HUN:=ak (fun W=>KC nm x au nu cu W);have hm1:=fun (n:Nat) (W:World)=>Yx n nm x au nu cu W
  have hm2:=fun (n:Nat) (W:World)=>Tc n nm x au nu cu W
  unfold fU.val exV jH.val at HH;unfold jH.val at HIH ⊢;obtain⟨wa,dW⟩:∃wa,wa=w.alloc (.cells #[.slice lo.sa lo.sn lo.sc,.map (some lo.bm),.slice lo.fa lo.fn lo.fc] 74):=⟨_,rfl⟩
  have fE:=ak (show Ext w wa by rw[dW];exact(Ext.refl _).alloc _);have HA:=ak (show wa.heap[w.heap.size]?=some (.cells #[.slice lo.sa lo.sn lo.sc,.map (some lo.bm),.slice lo.fa lo.fn lo.fc] 74 (0,0)) by rw[dW];exact dG w _);obtain⟨x0,x1,x2,xf⟩:=fZ HA.o;have C0:=dI x0;have C1:=dI x1;have C2:=dI x2;go_enter Tryz.func33,Tryz.ntmps33
  go_upto_region 1 with fail
  rw[<-dW];clear dW;refine rC 5 ?_
  repeat (refine dQ ?_;intro K hK;go_big_quiet_op;go_big_quiet_on)
  refine tu (fun W hW=>HW.o W) ?_;intro K hK;go_simp;go_big_quiet_on;refine tu (fun W hW=>HH.o W (fE.o.trans hW)) ?_;intro K hK;go_simp;go_big_quiet_on
  repeat (refine dQ ?_;intro K hK;go_big_quiet_op;go_big_quiet_on)
  refine lH fun w1 hx1 _ _=>?_
  have fQ:=ak (fE.o.trans hx1);have HB:=ak (hx1.blk HA.o);clear hx1 x0 x1 x2 xf C0 C1 C2 HA fE HH HW;cases T
  ·go_wp2_with fail
   go_ret;exact dL (by simp) fQ.o
  go_wp2_with fail
  refine(HUN.o w1).mono ?_;rintro r w2 ⟨rfl,hx2⟩;have gI:=ak (fQ.o.trans hx2);have HB2:=ak (hx2.blk HB.o);clear hx2 HB fQ HUN hm1 hm2;go_wp2_with fail
  go_loopw [15] (BkI (val s l f) u nu w2) (fun i _=>nu - (intOf i).toNat)
  case atStart=>exact⟨0,rfl,Nat.zero_le _,rfl,Ext.refl _⟩
  case round =>
   obtain⟨k,rfl,hk,hv,hx⟩:=hrel;have HV:=ak hv;have HX:=ak (gI.o.trans hx);have HX0:=ak hx;have HB3:=ak (hx.blk HB2.o);clear hv hx;by_cases hkn:k<nu
   ·have hkl:k<u.length:=by have:=HLEN.o;omega
    have t1:=ah ((k:Int)<(nu:Int));obtain⟨b,off,rfl,v,hvn,hrow,Bz,hvu,-,-,hvd⟩:=jJ.at u _ (jJ.mono HX.o.sub u _ HD.o) k hkl;obtain⟨c0,c1,c2,c3,c4,c5,c6,c7⟩:=hrow.eight;have xJ:=ak (fun W (hW:Ext wr W)=>HIH.o k hkl v W (HX.o.trans hW) (Bz.ext hW) hvu (jJ.mono hW.sub _ _ hvd));have HST:=ak (af5 (val s l f) hkl);obtain⟨Q,hQ⟩:∃Q,Q=(val s l f u[k].cond&&!wG (val s l f) u[k].jZ):=⟨_,rfl⟩
    rw[<-hQ] at xJ HST;clear hvn hrow Bz hvu hvd hQ HIH;obtain⟨x0,x1,x2,xf⟩:=fZ HB3.o;obtain⟨wb,hwb⟩:∃wb,wb=wr.alloc (.cells #[.string v.name,.int .i64 v.x.op,.string v.x.name,.slice v.x.aw v.x.nw v.x.cw,.int .i64 v.x.lo,.int .i64 v.x.hi,.slice v.x.aa v.x.na v.x.ca,.slice v.au v.nu v.cu] 53):=⟨_,rfl⟩
    have HXB:=ak (show Ext wr wb by rw[hwb];exact(Ext.refl _).alloc _);have hb8:wb.heap[wr.heap.size]?=some (.cells #[.string v.name,.int .i64 v.x.op,.string v.x.name,.slice v.x.aw v.x.nw v.x.cw,.int .i64 v.x.lo,.int .i64 v.x.hi,.slice v.x.aa v.x.na v.x.ca,.slice v.au v.nu v.cu] 53 (0,0)):=by rw[hwb];exact dG wr _
    go_upto_region 6 with fail
    rw[<-hwb];clear hwb x0 x1 x2 xf;obtain⟨x0,x1,x2,xf⟩:=fZ (HXB.o.blk HB3.o);obtain⟨f0,f1,f2,f3,f4,f5,f6,f7,ff⟩:=vN hb8;clear hb8;go_wp2_with fail
    refine(xJ.o wb HXB.o).mono ?_;rintro r w5 ⟨rfl,hx5⟩;have jY:=ak (HXB.o.trans hx5);clear hx5 f0 f1 f2 f3 f4 f5 f6 f7 ff x0 x1 x2 xf c0 c1 c2 c3 c4 c5 c6 c7;cases Q
    ·go_wp2_with fail
     go_roundw
     case rel=>exact⟨k+1,by go_num,by omega,by rw[HV.o,HST.o];rfl,HX0.o.trans jY.o⟩
     case measure=>simp[intOf];omega
    have HQ:=ak (show wG (val s l f) u=true by rw[HV.o,HST.o];rfl);go_wp2_with fail
    go_ret;exact dL (by rw[HQ.o];rfl) (HX.o.trans jY.o)
   have t1:=aj ((k:Int)<(nu:Int));have HQ:=ak (show wG (val s l f) u=false by
    rw[HV.o,show k=u.length by have:=HLEN.o;omega,List.drop_length,wG])
   go_wp2_with fail
   go_ret;exact dL (by rw[HQ.o];rfl) HX.o
theorem acZ {s:List Attr} {l:List dY} {f:ZI} {lo:jH} {n:Nat} (cond:Ex) (u:List Wb) (kd:Int) (nm:BA) (x:fU) (au:OA) (nu cu:Nat) (am:Int) (w:World) (h:DIn w s l f lo n) (hp:Pd s l cond) (hok:nN (Pd s l) u) (hnu:nu<=1000000000000000) (hlen:nu=u.length) (hex:fC w cond x.val) (hd:jJ w u au) :
  Calls Tryz.prog 33 #[lo.val,.iface 81 (.agg #[.int .i64 kd,.string nm,.int .i64 x.op,.string x.name,.slice x.aw x.nw x.cw,.int .i64 x.lo,.int .i64 x.hi,.slice x.aa x.na x.ca,.slice au nu cu,.int .i64 am])] w (dN (.bool (val s l f cond&&!wG (val s l f) u)) w):=by
 have HH:=ak (fun (W:World) (hW:Ext w W)=>ahR W (h.ext hW) (hex.ext hW) hp);have HIH:=ak (fun (k:Nat) (hk:k<u.length) (v:J4) (W:World) (hW:Ext w W) (Bz:fC W u[k].cond v.x.val) (hvn:v.nu=u[k].jZ.length) (hvd:jJ W u[k].jZ v.au)=>aww (qU u[k].jZ) u[k].cond u[k].jZ v.name v.x v.au v.nu v.cu W (bg _) (h.ext hW) (pI u hok k hk).1 (pI u hok k hk).2.1 (by have:=(pI u hok k hk).2.2;omega) hvn Bz hvd);have HD:=ak hd;have HLEN:=ak hlen;obtain⟨T,hT⟩:∃T,T=val s l f cond:=⟨_,rfl⟩
 rw[<-hT] at HH ⊢;clear h hp hok hlen hex hd hT;have HW:=ak (fun W=>WA kd nm x au nu cu am W);have HUN:=ak (fun W=>Rz kd nm x au nu cu am W);have hm1:=fun (n:Nat) (W:World)=>afF n kd nm x au nu cu am W
 have hm2:=fun (n:Nat) (W:World)=>aa7 n kd nm x au nu cu am W
 unfold fU.val exV jH.val at HH;unfold jH.val at HIH ⊢;obtain⟨wa,dW⟩:∃wa,wa=w.alloc (.cells #[.slice lo.sa lo.sn lo.sc,.map (some lo.bm),.slice lo.fa lo.fn lo.fc] 74):=⟨_,rfl⟩
 have fE:=ak (show Ext w wa by rw[dW];exact(Ext.refl _).alloc _);have HA:=ak (show wa.heap[w.heap.size]?=some (.cells #[.slice lo.sa lo.sn lo.sc,.map (some lo.bm),.slice lo.fa lo.fn lo.fc] 74 (0,0)) by rw[dW];exact dG w _);obtain⟨x0,x1,x2,xf⟩:=fZ HA.o;have C0:=dI x0;have C1:=dI x1;have C2:=dI x2;go_enter Tryz.func33,Tryz.ntmps33
 go_upto_region 1 with fail
 rw[<-dW];clear dW;refine rC 5 ?_
 repeat (refine dQ ?_;intro K hK;go_big_quiet_op;go_big_quiet_on)
 refine tu (fun W hW=>HW.o W) ?_;intro K hK;go_simp;go_big_quiet_on;refine tu (fun W hW=>HH.o W (fE.o.trans hW)) ?_;intro K hK;go_simp;go_big_quiet_on
 repeat (refine dQ ?_;intro K hK;go_big_quiet_op;go_big_quiet_on)
 refine lH fun w1 hx1 _ _=>?_
 have fQ:=ak (fE.o.trans hx1);have HB:=ak (hx1.blk HA.o);clear hx1 x0 x1 x2 xf C0 C1 C2 HA fE HH HW;cases T
 ·go_wp2_with fail
  go_ret;exact dL (by simp) fQ.o
 go_wp2_with fail
 refine(HUN.o w1).mono ?_;rintro r w2 ⟨rfl,hx2⟩;have gI:=ak (fQ.o.trans hx2);have HB2:=ak (hx2.blk HB.o);clear hx2 HB fQ HUN hm1 hm2;go_wp2_with fail
 go_loopw [15] (BkI (val s l f) u nu w2) (fun i _=>nu - (intOf i).toNat)
 case atStart=>exact⟨0,rfl,Nat.zero_le _,rfl,Ext.refl _⟩
 case round =>
  obtain⟨k,rfl,hk,hv,hx⟩:=hrel;have HV:=ak hv;have HX:=ak (gI.o.trans hx);have HX0:=ak hx;have HB3:=ak (hx.blk HB2.o);clear hv hx;by_cases hkn:k<nu
  ·have hkl:k<u.length:=by have:=HLEN.o;omega
   have t1:=ah ((k:Int)<(nu:Int));obtain⟨b,off,rfl,v,hvn,hrow,Bz,hvu,-,-,hvd⟩:=jJ.at u _ (jJ.mono HX.o.sub u _ HD.o) k hkl;obtain⟨c0,c1,c2,c3,c4,c5,c6,c7⟩:=hrow.eight;have xJ:=ak (fun W (hW:Ext wr W)=>HIH.o k hkl v W (HX.o.trans hW) (Bz.ext hW) hvu (jJ.mono hW.sub _ _ hvd));have HST:=ak (af5 (val s l f) hkl);obtain⟨Q,hQ⟩:∃Q,Q=(val s l f u[k].cond&&!wG (val s l f) u[k].jZ):=⟨_,rfl⟩
   rw[<-hQ] at xJ HST;clear hvn hrow Bz hvu hvd hQ HIH;obtain⟨x0,x1,x2,xf⟩:=fZ HB3.o;obtain⟨wb,hwb⟩:∃wb,wb=wr.alloc (.cells #[.string v.name,.int .i64 v.x.op,.string v.x.name,.slice v.x.aw v.x.nw v.x.cw,.int .i64 v.x.lo,.int .i64 v.x.hi,.slice v.x.aa v.x.na v.x.ca,.slice v.au v.nu v.cu] 53):=⟨_,rfl⟩
   have HXB:=ak (show Ext wr wb by rw[hwb];exact(Ext.refl _).alloc _);have hb8:wb.heap[wr.heap.size]?=some (.cells #[.string v.name,.int .i64 v.x.op,.string v.x.name,.slice v.x.aw v.x.nw v.x.cw,.int .i64 v.x.lo,.int .i64 v.x.hi,.slice v.x.aa v.x.na v.x.ca,.slice v.au v.nu v.cu] 53 (0,0)):=by rw[hwb];exact dG wr _
   go_upto_region 6 with fail
   rw[<-hwb];clear hwb x0 x1 x2 xf;obtain⟨x0,x1,x2,xf⟩:=fZ (HXB.o.blk HB3.o);obtain⟨f0,f1,f2,f3,f4,f5,f6,f7,ff⟩:=vN hb8;clear hb8;go_wp2_with fail
   refine(xJ.o wb HXB.o).mono ?_;rintro r w5 ⟨rfl,hx5⟩;have jY:=ak (HXB.o.trans hx5);clear hx5 f0 f1 f2 f3 f4 f5 f6 f7 ff x0 x1 x2 xf c0 c1 c2 c3 c4 c5 c6 c7;cases Q
   ·go_wp2_with fail
    go_roundw
    case rel=>exact⟨k+1,by go_num,by omega,by rw[HV.o,HST.o];rfl,HX0.o.trans jY.o⟩
    case measure=>simp[intOf];omega
   have HQ:=ak (show wG (val s l f) u=true by rw[HV.o,HST.o];rfl);go_wp2_with fail
   go_ret;exact dL (by rw[HQ.o];rfl) (HX.o.trans jY.o)
  have t1:=aj ((k:Int)<(nu:Int));have HQ:=ak (show wG (val s l f) u=false by
   rw[HV.o,show k=u.length by have:=HLEN.o;omega,List.drop_length,wG])
  go_wp2_with fail
  go_ret;exact dL (by rw[HQ.o];rfl) HX.o
end Go.Proofs.YtefjomofjejklaaGreatDoor
