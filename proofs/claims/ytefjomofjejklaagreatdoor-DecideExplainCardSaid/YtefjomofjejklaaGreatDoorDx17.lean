/-
  Texts of the claim, joined: Reach, Expd, CClas, Chkd, RApp.
-/
import Derived.Test.YtefjomofjejklaaGreatDoorDx16
namespace Go.Proofs.YtefjomofjejklaaGreatDoor
set_option maxRecDepth 100000
set_option maxHeartbeats 32000000
open Go.RowKit Go.Maps
theorem aee (w:World):(zeroValue 176).run Tryz.prog w=.ok (.agg #[]) w:=by kernel_rfl
def aJa (l:List dY) (e:Ex) (w:World) (r:Ending) (w':World):Prop:=∃u a n c,r=.returned (.slice a n c)/\eX w' u a n c/\Used l e u/\Ext w w'
def RL1 (w:World) (l:List dY) (e:Ex) (bs m:Nat) (lv xv:Value) (wr:World):Prop:=∃u vs xs evs,m=2*(l.length - u.length)+xs.length/\RcS w bs lv xv u vs xs evs wr/\RP l e u xs
def RL2 (w:World) (l:List dY) (e x:Ex) (ns:ZB) (na:OA) (nc bs m:Nat) (lv xv i:Value) (wr:World):Prop:=∃u vs xs evs j,i=.int .i64 (j:Nat)/\j<=ns.length/\2*(l.length - u.length)+xs.length<=m/\RcS w bs lv xv u vs xs evs wr/\RPi l e u xs x ns j/\ji wr ns na ns.length nc/\(∀b off,na=some ⟨b,off,none⟩->b≠bs/\some b≠lv.ownBlock/\some b≠xv.ownBlock)
theorem aH5 {w:World} {xs:List Ex} {evs:List fU} (h:yV w xs evs) (hne:xs≠[]):∃xs' x arY v,xs=xs'++[x]/\evs=arY++[v]/\yV w xs' arY/\fC w x v.val:=by
 obtain⟨xs',x,rfl⟩:∃r i,xs=r++[i]:=⟨xs.dropLast,xs.getLast hne,(List.dropLast_concat_getLast hne).symm⟩
 have hne2:evs≠[]:=by intro e0;have:=h.1;rw[e0] at this;simp at this
 obtain⟨arY,v,rfl⟩:∃r i,evs=r++[i]:=⟨evs.dropLast,evs.getLast hne2,(List.dropLast_concat_getLast hne2).symm⟩
 have hl:xs'.length=arY.length:=by have:=h.1;simpa using this
 refine⟨xs',x,arY,v,rfl,rfl,⟨hl,fun i h1 h2=>?_⟩,?_⟩
 ·have:=h.2 i (by simp;omega) (by simp;omega)
  rwa [bT h1,bT h2] at this
 have:=h.2 xs'.length (by simp) (by simp;omega);rw[cZ (bg _)] at this;simpa[hl] using this
theorem Iw (w:World):Sub w (mask w []):=fun p v h=>by rw[iH,dh (by simp)];exact h
theorem aMN {l u:List dY} {e:Ex} (h1:∀c∈u,c.kind=1/\∃d,fG l c.name=some d/\c.cond=(l.getD d iT).cond/\Reach l e d) (hsz:∀x∈l,x.cond.size<=100000/\x.cond.fits) {c:dY} (hc:c∈u):c.cond.size<=100000/\c.cond.fits:=by
 obtain⟨_,d,hd,h2,_⟩:=h1 c hc;rw[h2,iZ (sH hd)];exact hsz _ (aI _)
theorem am' (l:List dY) (e:Ex) (ev:Value) (b n:Nat) (w:World) (hd:Cm w l b n) (he:fC w e ev) (hes:e.size<=100000/\e.fits) (hl:l.length<=100000) (hsz:∀x∈l,x.cond.size<=100000/\x.cond.fits) :
  Calls Tryz.prog 173 #[.map (some b),ev] w (aJa l e w):=by
 obtain⟨g,hmp,hdg⟩:=hd;obtain⟨aw,nw,cw,aa,na,ca,rfl,-⟩:=he.parts;have Kr:=ak hmp;have HDG:=ak hdg;have HE:=ak he;have zN:=ak hsz;have HES:=ak hes;clear hmp hdg he hsz hes;unfold exV;have hmm:=@run_makeMap Tryz.prog;obtain⟨wa,dW⟩:∃wa,wa=w.alloc (.cells #[.int .i64 e.op,.string e.name,.slice aw nw cw,.int .i64 e.lo,.int .i64 e.hi,.slice aa na ca] 45):=⟨_,rfl⟩
 have hxa:Ext w wa:=by rw[dW];exact(Ext.refl _).alloc _
 have hb1:wa.heap[w.heap.size]?=some (.cells #[.int .i64 e.op,.string e.name,.slice aw nw cw,.int .i64 e.lo,.int .i64 e.hi,.slice aa na ca] 45 (0,0)):=by rw[dW];exact dG w _
 have hsa:wa.heap.size=w.heap.size+1:=by rw[dW];simp
 have fE:=ak hxa;have HSA:=ak hsa;clear hsa;go_enter Tryz.func173,Tryz.ntmps173
 go_upto_region 1 with fail
 rw[<-dW];clear dW;obtain⟨bs,hbs⟩:∃bs,bs=wa.heap.size:=⟨_,rfl⟩
 have HM0:=ak (MapAt.made wa 9);rw[<-hbs] at HM0;have PU:=ak hbs;go_upto_region 3 with fail
 rw[<-hbs];clear hbs;obtain⟨wb,hwb⟩:∃wb,wb=wa.alloc (.map #[] 0):=⟨_,rfl⟩
 have HXB:=ak (show Ext wa wb by rw[hwb];exact(Ext.refl _).alloc _);obtain⟨f0,f1,f2,f3,f4,f5,ff⟩:=eP (HXB.o.blk hb1);rw[<-hwb] at HM0 ⊢;have hsb:wb.heap.size=w.heap.size+2:=by rw[hwb];simp;have:=HSA.o;omega
 have HSB:=ak hsb;clear hwb hb1 hsb;go_wp2_with fail
 have Si:=ak (show RcS w bs (.slice none 0 0) (.slice (some ⟨wb.heap.size,0,none⟩) 1 1) [] [] [e] [⟨e.op,e.name,aw,nw,cw,e.lo,e.hi,aa,na,ca⟩] (wb.alloc (.cells #[.int .i64 e.op,.string e.name,.slice aw nw cw,.int .i64 e.lo,.int .i64 e.hi,.slice aa na ca] 45)) from
  {ext:=(fE.o.trans HXB.o).alloc _
   WT:=⟨rfl,fun i h=>by simp at h⟩
   own:=World.ownsRow_nil _ _ _ _
   ex:=⟨rfl,fun i h1 h2=>by
     obtain rfl:i=0:=by simp at h1;exact h1
     exact HE.o⟩
   aiY:=aGJ wb _ _ (n:=1) (by simp) (by unfold maxLen;omega) (by have:=HSB.o;omega)
   seen:=(HM0.o.ext ((Ext.refl _).alloc _)).congr fun x=>by cases x<;>simp[oh,Ld,CU]
   bsn:=by have:=PU.o;have:=HSA.o;omega
   d1:=by simp[Value.ownBlock]
   d2:=by simp[Value.ownBlock];have:=PU.o;have:=HSA.o;have:=HSB.o;omega
   d3:=by simp[Value.ownBlock] })
 clear f0 f1 f2 f3 f4 f5 ff HM0 HXB fE
 go_loopg [5,7] (2*l.length+1) (RL1 w l e bs)
 case atStart=>exact⟨[],[],[e],_,rfl,Si.o,RP.start l e⟩
 case round =>
  obtain⟨u,vs,xs,evs,hm,hrs,hrp⟩:=hrel;obtain⟨wo,rfl⟩:∃wo:World,wo=wr:=⟨_,rfl⟩
  clear Si;have HM:=ak hm;have HR:=ak hrs;have HP:=ak hrp;have hul:=Wn hrp.defs hrp.names;obtain⟨la,lc,hlv⟩:=pJ hrs.own;subst hlv;clear hm;by_cases hne:xs=[]
  ·subst hne;obtain⟨xa,xc,hxv⟩:=pJ hrs.aiY;subst hxv;obtain⟨a',c',hv,hcl⟩:=Dz (M:=[]) hrs.own (by simp) (hrs.WT.mono (hrs.ext.sub.trans (Iw _)));have vS:=ak hcl;have HV:=ak hv;clear hrs hrp hv hcl;go_wp2_with fail
   go_ret;rw[HV.o];exact⟨u,a',_,c',rfl,vS.o.mono (dU _ _),HP.o.used,HR.o.ext⟩
  obtain⟨xs',x,arY,v,rfl,rfl,hx1,hx2⟩:=aH5 hrs.ex hne;obtain⟨n',hn'⟩:∃n',n'=xs'.length:=⟨_,rfl⟩
  have hl':n'=arY.length:=by rw[hn'];exact hx1.1
  have hxo:=hrs.aiY;have e0:(xs'++[x]).length=n'+1:=by simp[hn']
  rw[e0] at hxo;obtain⟨g2,cap,rfl,c0,c1,c2,c3,c4,c5⟩:=aC2 hl' hxo;have hsx:x.size<=100000/\x.fits:=by
   rcases hrp.stack x (by simp) with rfl|⟨c,hc,rfl⟩
   ·exact HES.o
   exact aMN hrp.defs zN.o hc
  have gI:=ak (hx2.ext hrs.ext);have PD:=ak hsx;have Bg:=ak hn';have HL':=ak hl';obtain⟨hg2,hcap,hgw,-⟩:=au2 hxo;have HRI:=ak (show RcS w bs (.slice la u.length lc) (.slice (some ⟨g2,0,none⟩) n' cap) u vs xs' arY wo from { hrs with ex:=hx1,aiY:=(by rw[<-hn'];exact aC3 hl' hxo),d2:=(fun g hg=>hrs.d2 g (by simpa[Value.ownBlock] using hg)),d3:=fun g hg hg2=>hrs.d3 g hg (by simpa[Value.ownBlock] using hg2) });have HPP:=ak (hrp.pop (lQ (jo x)));have hnn:n'<=u.length:=by have:=hrp.slen;simp at this;omega
  clear hrs hrp hx1 hx2 hsx hn' hl' hxo e0 hne;have e1:(((n'+1:Nat):Int) - 1)=(n':Int):=by omega
  have t1:=ah ((0:Int)<((n'+1:Nat):Int));go_wp2_with fail
  refine(Hg x _ wo (by have:=PD.o.1;omega) PD.o.2 gI.o).mono ?_;obtain⟨ns,hns⟩:∃ns,ns=lQ (jo x):=⟨_,rfl⟩
  have Gm:=ak (show ∀s,s∈ns ↔ s∈jo x by intro s;rw[hns,xP]);rw[<-hns] at HPP ⊢;have NT:=ak (show ∀s∈ns,s.size<=1000000000000000 from fun s hs=>abz x PD.o.2 s ((Gm.o s).1 hs));have hnl:ns.length<=100000:=by rw[hns];exact bC (MH _) (bC (EM _) PD.o.1)
  clear hns;rintro r w5 ⟨sa,sc,rfl,hst,hx5,hfr⟩;have HST:=ak hst;have hbw:=HRI.o.seen.lt;have HFR:=ak (show ∀b off,sa=some ⟨b,off,none⟩->b≠bs/\some b≠(Value.slice la u.length lc).ownBlock/\some b≠(Value.slice (some ⟨g2,0,none⟩) n' cap).ownBlock from fun b' off' e'=>by
   have h1:=hfr b' off' e';refine⟨by omega,fun e2=>?_,fun e2=>?_⟩
   ·have:=(HRI.o.own.lt b' e2.symm).2;omega
   simp[Value.ownBlock] at e2;omega)
  have Kq:=ak (HRI.o.Wi hx5);clear hst hx5 hfr HRI c0 c1 c2 c3 c4 c5 gI PD;go_wp2_with fail
  go_loopw [5,7,35] (RL2 w l e x ns sa sc bs (2*(l.length - u.length)+n')) (fun _ _ i _=>ns.length - (intOf i).toNat)
  case atStart=>exact⟨u,vs,xs',arY,0,rfl,by omega,by have:=Bg.o;omega,Kq.o,HPP.o,HST.o,HFR.o⟩
  case round =>
   obtain⟨u2,vs2,xs2,ev2,j,rfl,hj,hm2,hr2,hp2,hst2,hfr2⟩:=hrel;obtain⟨la2,lc2,hlv2⟩:=pJ hr2.own;subst hlv2;obtain⟨xa2,xc2,aZM⟩:=pJ hr2.aiY;subst aZM;have HR2:=ak hr2;have HP2:=ak hp2;have HS2:=ak hst2;have HF2:=ak hfr2;have Zn:=ak hm2;have hu2:=Wn hp2.defs hp2.names;have a6c:=hp2.slen;clear hr2 hp2 hst2 hfr2 hm2 Kq HPP HST HFR;by_cases hjl:j<ns.length
   ·have tj:=ah ((j:Int)<(ns.length:Int));obtain⟨bn,aC9,rfl,cn0⟩:=HS2.o.2.2.2 j hjl;have hsz1:=NT.o _ (aI hjl);have qC:=ak HR2.o.ext;by_cases hmem:ns[j]∈CU u2
    ·have RY:=ak (show oh (Ld fun s=>s∈CU u2) (.string ns[j].data.toList)=some (.agg #[]) by rw[tV];simp[Ld,hmem]);have Ym:=ak (HP2.o.skip hjl (Or.inr hmem));cases hda:fG l ns[j] with
     | none =>
      have HF:=ak (show oh g (.string ns[j].data.toList)=none by rw[tV];exact(HDG.o _).1 hda);clear hda hmem;go_wp2_with (first
       | (at_lookup;refine jI _ rfl _ _ 131 rfl 9 45 jR KT (Ql _) b n _ rfl (Kr.o.ext qC.o) _ _ rfl (oI hsz1) trivial ?_;rw[HF.o])
       | (at_lookup;refine jI _ rfl _ _ 174 rfl 9 176 jR amQ (aee _) bs u2.length _ rfl (HR2.o.seen.ext ((Ext.refl wr).alloc _)) _ _ rfl (oI hsz1) trivial ?_;rw[RY.o]))
      go_roundw
      case rel=>exact⟨u2,vs2,xs2,ev2,j+1,by go_num,by omega,Zn.o,HR2.o.Wi (((Ext.refl wr).alloc _).alloc _),Ym.o,HS2.o.ext (((Ext.refl wr).alloc _).alloc _),HF2.o⟩
      case measure=>simp[intOf];omega
     | some d =>
      obtain⟨uv,hu,hux⟩:=(HDG.o ns[j]).2 d hda;obtain⟨aw2,nw2,cw2,aa2,na2,ca2,rfl,-,-,-,-,-⟩:=hux.parts;have HF:=ak (show oh g (.string ns[j].data.toList)=some _ by rw[tV];exact hu);unfold exV at HF;clear hda hmem hu hux;go_wp2_with (first
       | (at_lookup;refine jI _ rfl _ _ 131 rfl 9 45 jR KT (Ql _) b n _ rfl (Kr.o.ext qC.o) _ _ rfl (oI hsz1) trivial ?_;rw[HF.o])
       | (at_lookup;refine jI _ rfl _ _ 174 rfl 9 176 jR amQ (aee _) bs u2.length _ rfl (HR2.o.seen.ext ((Ext.refl wr).alloc _)) _ _ rfl (oI hsz1) trivial ?_;rw[RY.o]))
      go_roundw
      case rel=>exact⟨u2,vs2,xs2,ev2,j+1,by go_num,by omega,Zn.o,HR2.o.Wi (((Ext.refl wr).alloc _).alloc _),Ym.o,HS2.o.ext (((Ext.refl wr).alloc _).alloc _),HF2.o⟩
      case measure=>simp[intOf];omega
    have RY:=ak (show oh (Ld fun s=>s∈CU u2) (.string ns[j].data.toList)=none by rw[tV];simp[Ld,hmem]);cases hda:fG l ns[j] with
    | none =>
     have Ym:=ak (HP2.o.skip hjl (Or.inl hda));have HF:=ak (show oh g (.string ns[j].data.toList)=none by rw[tV];exact(HDG.o _).1 hda);clear hda hmem;go_wp2_with (first
      | (at_lookup;refine jI _ rfl _ _ 131 rfl 9 45 jR KT (Ql _) b n _ rfl (Kr.o.ext qC.o) _ _ rfl (oI hsz1) trivial ?_;rw[HF.o])
      | (at_lookup;refine jI _ rfl _ _ 174 rfl 9 176 jR amQ (aee _) bs u2.length _ rfl (HR2.o.seen.ext ((Ext.refl wr).alloc _)) _ _ rfl (oI hsz1) trivial ?_;rw[RY.o]))
     go_roundw
     case rel=>exact⟨u2,vs2,xs2,ev2,j+1,by go_num,by omega,Zn.o,HR2.o.Wi (((Ext.refl wr).alloc _).alloc _),Ym.o,HS2.o.ext (((Ext.refl wr).alloc _).alloc _),HF2.o⟩
     case measure=>simp[intOf];omega
    | some d =>
     obtain⟨uv,hu,hux⟩:=(HDG.o ns[j]).2 d hda;have aPK:=hux;obtain⟨aw2,nw2,cw2,aa2,na2,ca2,rfl,-,-,-,-,-⟩:=hux.parts;have HF:=ak (show oh g (.string ns[j].data.toList)=some _ by rw[tV];exact hu);obtain⟨xe,hxe⟩:∃xe,xe=(l.getD d iT).cond:=⟨_,rfl⟩
     rw[<-hxe] at HF aPK;have HST:=ak (HP2.o.step hjl Gm.o hda hmem (c:=⟨1,ns[j],xe,[],0⟩) rfl rfl hxe);have HUX:=ak aPK;unfold exV at HF;clear hda hmem hu hux aPK hxe;go_wp2_with (first
      | (at_lookup;refine jI _ rfl _ _ 131 rfl 9 45 jR KT (Ql _) b n _ rfl (Kr.o.ext qC.o) _ _ rfl (oI hsz1) trivial ?_;rw[HF.o])
      | (at_lookup;refine jI _ rfl _ _ 174 rfl 9 176 jR amQ (aee _) bs u2.length _ rfl (HR2.o.seen.ext ((Ext.refl wr).alloc _)) _ _ rfl (oI hsz1) trivial ?_;rw[RY.o])
      | (at_mapUpdate;refine oU _ rfl _ _ _ 174 rfl 9 176 jR amQ bs u2.length _ rfl (HR2.o.seen.ext (((Ext.refl wr).alloc _).alloc _)) ?c3 _ _ _ rfl rfl (oI hsz1) trivial ?_))
     case c3=>unfold maxLen;omega
     intro w3 hm3 hc3;have hbx:=hc3.blk (((Ext.refl _).alloc _).blk (dG wr (.cells #[.int .i64 xe.op,.string xe.name,.slice aw2 nw2 cw2,.int .i64 xe.lo,.int .i64 xe.hi,.slice aa2 na2 ca2] 45))) (by have:=HR2.o.seen.lt;simp;omega);have lV:=ak hbx;obtain⟨f0,f1,f2,f3,f4,f5,ff⟩:=eP hbx;have HW3:=ak hc3;have HM3:=ak hm3;have HRW:=ak (HR2.o.Wi (((Ext.refl wr).alloc (.cells #[.int .i64 xe.op,.string xe.name,.slice aw2 nw2 cw2,.int .i64 xe.lo,.int .i64 xe.hi,.slice aa2 na2 ca2] 45)).alloc (.cells #[] 176)));have Ad:=ak (eF HRW.o.own hc3 fun q hq hm=>by simp only[aK] at hm;exact HRW.o.d1 q hq hm);have h3s:=hc3.size;have a0H:wr.heap.size<=w3.heap.size:=bC (((Ext.refl wr).alloc _).alloc _).size hc3.size;have hww:=HRW.o.ext.size;clear hm3 hc3 HF RY hbx;go_wp2_with (at_builtin;refine fK sQ rfl _ _ rfl w.heap.size _ u2.length _ rfl Ad.o _ 1 1 rfl ?f0 rfl ?f1 ?f2 ?f3 ?f4 ?_)
     case f0=>simp
     case f1=>simp[Value.oneCell']
     case f2=>unfold maxLen;omega
     case f3=>omega
     case f4=>omega
     intro v8 w8 ig hc8 hw8;obtain⟨a8,c8,OI⟩:=pJ ig;subst OI;obtain⟨f0,f1,f2,f3,f4,f5,ff⟩:=eP (hc8.blk lV.o fun hm=>by have:=(HR2.o.own.lt _ (dK.1 hm)).2;omega);have rD:=ak (eF (eF HRW.o.aiY HW3.o fun q hq hm=>by simp only[aK] at hm;exact HRW.o.d2 q hq hm) hc8 fun q hq hm=>HRW.o.d3 q (dK.1 hm) hq);have GK:=ak ig;have MR:=ak hc8;have HW8:=ak hw8;have h8s:=hc8.size;clear ig hc8 hw8;go_wp2_with (at_builtin;refine fK JH rfl _ _ rfl w.heap.size _ xs2.length _ rfl rD.o _ 1 1 rfl ?g0 rfl ?g1 ?g2 ?g3 ?g4 ?_)
     case g0=>simp
     case g1=>simp[Value.oneCell']
     case g2=>unfold maxLen;omega
     case g3=>omega
     case g4=>omega
     intro v9 w9 G5 Af yY;obtain⟨a9,c9,hv9⟩:=pJ G5;subst hv9;have HR9:=ak (HRW.o.step (c:=⟨1,ns[j],xe,[],0⟩) (cv:=⟨1,ns[j],⟨xe.op,xe.name,aw2,nw2,cw2,xe.lo,xe.hi,aa2,na2,ca2⟩,none,0,0,0⟩) ⟨rfl,rfl,HUX.o,rfl,bg _,Or.inl ⟨rfl,rfl⟩,by simp only;unfold jJ;trivial,rfl⟩ (x:=xe) (ev:=⟨xe.op,xe.name,aw2,nw2,cw2,xe.lo,xe.hi,aa2,na2,ca2⟩) HUX.o HM3.o (fun y=>by
      rw[aoX]
      congr 2
      funext z
      rw[QO];simp[or_comm]) HW3.o GK.o MR.o HW8.o G5 Af yY)
     have G8:=ak ((((HS2.o.ext (((Ext.refl wr).alloc _).alloc _)).fH HW3.o (fun b' off' e' hm=>(HF2.o b' off' e').1 (by simpa using hm))).fH MR.o (fun b' off' e' hm=>(HF2.o b' off' e').2.1 (dK.1 hm).symm)).fH Af (fun b' off' e' hm=>(HF2.o b' off' e').2.2 (dK.1 hm).symm));have HF9:=ak (show ∀b off,some (⟨bn,aC9,none⟩:Addr)=some ⟨b,off,none⟩->b≠bs/\some b≠(Value.slice a8 (u2.length+1) c8).ownBlock/\some b≠(Value.slice a9 (xs2.length+1) c9).ownBlock from fun b' off' e'=>by
      obtain⟨q1,q2,q3⟩:=HF2.o b' off' e';have hbl:b'<wr.heap.size:=by
       simp only[Option.some.injEq,Addr.mk.injEq,and_true] at e';have:=block_lt cn0;simp only at this;omega
      refine⟨q1,fun e2=>?_,fun e2=>?_⟩
      ·rcases HW8.o b' e2.symm with h|h
       ·exact q2 h.symm
       omega
      rcases yY b' e2.symm with h|h
      ·exact q3 h.symm
      omega)
     clear G5 Af yY f0 f1 f2 f3 f4 f5 ff cn0;go_wp2_with fail
     go_roundw
     case rel =>
      have hmm:2*(l.length - (u2++[(⟨1,ns[j],xe,[],0⟩:dY)]).length)+(xs2++[xe]).length<=2*(l.length - u.length)+n':=by
       have h1:=Zn.o;have h2:=Wn HST.o.defs HST.o.names;simp only[bI,List.length_singleton] at h2 ⊢;omega
      exact⟨u2++[⟨1,ns[j],xe,[],0⟩],_,xs2++[xe],_,j+1,by go_num,by omega,hmm,HR9.o,HST.o,G8.o,HF9.o⟩
     case measure=>simp[intOf];omega
   have tj:=aj ((j:Int)<(ns.length:Int));have HPE:=ak (HP2.o.end (by omega) Gm.o);go_wp2_with fail
   go_roundg (2*(l.length - u2.length)+xs2.length)
   case rel=>exact⟨u2,vs2,xs2,ev2,rfl,HR2.o,HPE.o⟩
   case measure=>have h1:=HM.o;have h2:=Zn.o;have h3:=Bg.o;simp at h1;omega
def aQD (l:List dY) (e:Ex) (aw:OA) (nw cw:Nat) (aa:OA) (na ca:Nat) (a:OA) (n c:Nat):Nat->Value->World->Prop
 | 0,u,_=>u=.slice a n c
 | 1,u,W=>∃bd,u=.map (some bd)/\Cm W l bd n
 | 2,u,_=>u=.agg #[.int .i64 e.op,.string e.name,.slice aw nw cw,.int .i64 e.lo,.int .i64 e.hi,.slice aa na ca]
 | 3,u,W=>∃us ua un uc,u=.slice ua un uc/\(eX W us ua un uc/\Used l e us)
 | _,u,W=>∃us ua un uc,u=.slice ua un uc/\(eX W us ua un uc/\Used l e us)
def aQC (_l:List dY) (e:Ex) (aw:OA) (nw cw:Nat) (aa:OA) (na ca:Nat) (_a:OA) (_n _c:Nat) (us:List dY) (ua:OA) (un uc:Nat) (oa:OA) (oc:Nat) (o:ZN) (R:Nat):Nat->Value->World->Prop
 | 0,u,_=>u=.slice ua un uc
 | 1,u,_=>u=.slice oa o.length oc
 | 2,u,W=>∃bd,u=.map (some bd)/\MapAt W 9 bd o.length (oh (aaw (uY us o)))
 | 3,u,_=>u=.agg #[.int .i64 e.op,.string e.name,.slice aw nw cw,.int .i64 e.lo,.int .i64 e.hi,.slice aa na ca]
 | 4,u,_=>u=.int .i64 R
 | _,u,_=>u=.int .i64 R
theorem Hw (l:List dY) (a:OA) (n c:Nat) (e:Ex) (ev:Value) (w:World) (hl:eX w l a n c) (he:fC w e ev) (hes:e.size<=100000/\e.fits/\vJ e=true) (hn:n<=1000) (hsz:∀x∈l,x.name.size<=1000000000000000/\x.cond.size<=100000/\x.cond.fits/\vJ x.cond=true) :
  Calls Tryz.prog 146 #[.slice a n c,ev] w (dN (.int .i64 (expanded l e:Nat)) w):=by
 have hln:=hl.len;obtain⟨aw,nw,cw,aa,na,ca,rfl,-⟩:=he.parts;have HL:=ak hl;have HE:=ak he;have HES:=ak hes;have zN:=ak hsz;have Bg:=ak hln;have HR:=ak (show ∀b m W,Cm W l b m->Ext w W->Calls Tryz.prog 173 #[.map (some b),exV e.op e.name aw nw cw e.lo e.hi aa na ca] W (aJa l e W) from fun b m W hd hx=>am' l e _ b m W hd (he.ext hx) ⟨hes.1,hes.2.1⟩ (by omega) fun x hx=>⟨(hsz x hx).2.1,(hsz x hx).2.2.1⟩);clear hl he hes hsz hln;unfold exV at HR;unfold exV;obtain⟨wa,dW⟩:∃wa,wa=w.alloc (.cells #[.int .i64 e.op,.string e.name,.slice aw nw cw,.int .i64 e.lo,.int .i64 e.hi,.slice aa na ca] 45):=⟨_,rfl⟩
 have hxa:Ext w wa:=by rw[dW];exact(Ext.refl _).alloc _
 have hb1:wa.heap[w.heap.size]?=some (.cells #[.int .i64 e.op,.string e.name,.slice aw nw cw,.int .i64 e.lo,.int .i64 e.hi,.slice aa na ca] 45 (0,0)):=by rw[dW];exact dG w _
 have fE:=ak hxa;have HB1:=ak hb1;clear hxa;go_enter Tryz.func146,Tryz.ntmps146
 go_upto_region 1 with fail
 rw[<-dW];clear dW;obtain⟨f0,f1,f2,f3,f4,f5,ff⟩:=eP hb1;clear hb1;have HD:=ak (fun (W:World) (hW:Ext wa W)=>JL l a n c W (HL.o.ext (fE.o.trans hW)) (by omega) fun x hx=>(zN.o x hx).1);refine iP (m:=5) [4] (GrG wa) SX (zu (aQD l e aw nw cw aa na ca a n c)) (by kernel_rfl) (by kernel_rfl) ((Ext.refl wa).drew) ?_ ?_ ?_
 ·intro i k v W W' hi hk hne hout h hE;have hE:Ext W W':=hE;have hi':=ltc5 hi;clear hi hk hne hout;rcases hi' with rfl|rfl|rfl|rfl|rfl
  ·exact h
  ·obtain⟨bd,e0,h⟩:=h;exact⟨bd,e0,h.ext hE⟩
  ·exact h
  ·obtain⟨us,ua,un,uc,e0,h⟩:=h;exact⟨us,ua,un,uc,e0,⟨h.1.ext hE,h.2⟩⟩
  obtain⟨us,ua,un,uc,e0,h⟩:=h;exact⟨us,ua,un,uc,e0,⟨h.1.ext hE,h.2⟩⟩
 ·intro q op hq ho vs W hW hd ρ hρ;have hq':=ltc5 hq;clear hq;have o0:ρ (.tmp 0)=.slice a n c:=hρ.out 0 rfl;have i0:=hρ.i 0 8;have o3:ρ (.tmp 3)=.pointer (some ⟨w.heap.size,0,none⟩):=hρ.out 3 rfl;have i1:=hρ.i 1 9;have i2:=hρ.i 2 10;have i3:=hρ.i 3 11;have hc:=hρ.const;have hfn:=hρ.func;clear hρ;have HW:=ak (show Ext wa W from hW);rcases hq' with rfl|rfl|rfl|rfl|rfl
  ·cases ho
   clear hd;unfold dF;go_simp;exact⟨Ext.refl W,rfl⟩
  ·cases ho
   have h0:vs 0=_:=hd ⟨0,.data⟩ (by simp) rfl;rw[h0] at i0;clear hd;unfold dF;go_simp;refine(HD.o W HW.o).mono ?_;rintro r w5 ⟨bd,rfl,hd5,hx5⟩;exact⟨_,rfl,hx5,HW.o.trans hx5,_,rfl,hd5⟩
  ·cases ho
   clear hd;have g0:=HW.o.cell f0;have g1:=HW.o.cell f1;have g2:=HW.o.cell f2;have g3:=HW.o.cell f3;have g4:=HW.o.cell f4;have g5:=HW.o.cell f5;unfold dF;go_simp;exact⟨Ext.refl W,rfl⟩
  ·cases ho
   obtain⟨bd,h1,hs1⟩:∃bd,vs 1=.map (some bd)/\Cm W l bd n:=hd ⟨1,.data⟩ (by simp) rfl;have Fh:=ak hs1;clear hs1;rw[h1] at i1;have h2:vs 2=_:=hd ⟨2,.data⟩ (by simp) rfl;rw[h2] at i2;clear hd;unfold dF;go_simp;refine(HR.o _ n W Fh.o (fE.o.trans HW.o)).mono ?_;rintro r w5 ⟨us,ua,un,uc,rfl,hc5,hu5,hx5⟩;exact⟨_,rfl,hx5,HW.o.trans hx5,_,_,_,_,rfl,hc5,hu5⟩
  cases ho
  obtain⟨us,ua,un,uc,h3,hs3⟩:∃us ua un uc,vs 3=.slice ua un uc/\(eX W us ua un uc/\Used l e us):=hd ⟨3,.data⟩ (by simp) rfl;have Ko:=ak hs3;clear hs3;rw[h3] at i3;clear hd;unfold dF;go_simp;exact⟨Ext.refl W,_,_,_,_,rfl,Ko.o⟩
 intro vs W hW hR;rw[dw (by decide +kernel)];obtain⟨us,ua,un,uc,h4,hs4⟩:∃us ua un uc,vs 4=.slice ua un uc/\(eX W us ua un uc/\Used l e us):=hR 4 (by simp) (by omega);have xI:=ak hs4;clear hs4;simp only[acts,gK,List.range,List.range.loop,bF,dA,h4];go_simp;have hW2:Ext wa W:=hW;clear hR hW h4;obtain⟨w2,hw2⟩:∃w2,w2=W:=⟨_,rfl⟩
 rw[<-hw2] at hW2 xI ⊢;have hle:us.length<=1000:=by have:=xI.o.2.len;have:=Bg.o;omega
 have gI:=ak (fE.o.trans hW2);have HB2:=ak (hW2.blk HB1.o);clear hw2 hW2 f0 f1 f2 f3 f4 f5 ff;have HUS:=ak (xI.o.2);have vS:=ak (xI.o.1);have HUN:=ak xI.o.1.len;have HUZ:=ak (show ∀x∈us,x.name.size<=1000000000000000/\x.cond.size<=100000/\x.cond.fits/\vJ x.cond=true by
  intro x hx;obtain⟨_,d,h1,h2,_⟩:=HUS.o.defs x hx;have hd:=sH h1;have:=zN.o _ (aI hd);rw[h2,iZ hd];refine⟨?_,this.2⟩;rw[<-(yJ h1).1,iZ hd];exact this.1)
 clear xI;go_wp2_with fail
 refine(Nh (us.map dY.cl) ua un uc w2 vS.o.cls (by have:=Bg.o;have:=HUN.o;omega) (by
  intro x hx;obtain⟨c',hc',rfl⟩:=List.mem_map.1 hx;have:=HUZ.o c' hc';exact⟨this.2.1,this.2.2.1,this.1⟩)).mono ?_
 rw[show (us.map dY.cl).map Cl.dfn=us.map dY.dfn by rw[List.map_map];rfl];rintro r w3 ⟨hx3,⟨o,oa,oc,ht,rfl,hoi⟩|⟨o,h1,h2,rfl⟩⟩
 ·have HT:=ak ht;have HOI:=ak hoi;have gU:=ak (gI.o.trans hx3);obtain⟨f0,f1,f2,f3,f4,f5,ff⟩:=eP (hx3.blk HB2.o);have a3B:=ak (vS.o.ext hx3);have hol:o.length<=1000:=by have h1:=ht.len;simp at h1;omega
  clear ht hoi hx3;go_upto_region 5 with fail
  have HSI:=ak (fun (W:World) (hW:Ext w3 W)=>aho us ua un uc o oa oc W (a3B.o.ext hW) (by have:=Bg.o;have:=HUN.o;omega) (HOI.o.mono hW.sub) (by omega) (fun i hi=>by have:=HT.o.lt hi;simpa using this) (fun x hx=>⟨(HUZ.o x hx).1,bC (HUZ.o x hx).2.1 (by omega),(HUZ.o x hx).2.2.1⟩));have HCE:=ak (fun (bd:Nat) (W:World) (hW:Ext w3 W) (hm:MapAt W 9 bd o.length (oh (aaw (uY us o))))=>adW (uY us o) (agd us o) bd o.length 1000000000000000 e _ W (by have:=HES.o.1;omega) (by omega) HES.o.2.1 hm (HE.o.ext (gU.o.trans hW)));obtain⟨R,hR⟩:∃R,R=szE (uY us o) e:=⟨_,rfl⟩
  have HRR:=ak (hR.trans (HUS.o.good HT.o (fun c hc=>(HUZ.o c hc).2.2.2) HES.o.2.2));rw[<-hR] at HCE;clear hR;unfold exV at HCE;refine iP (m:=6) [5] (GrG w3) SX (zu (aQC l e aw nw cw aa na ca a n c us ua un uc oa oc o R)) (by kernel_rfl) (by kernel_rfl) ((Ext.refl w3).drew) ?_ ?_ ?_
  ·intro i k v W W' hi hk hne hout h hE;have hE:Ext W W':=hE;have hi':=ltc6 hi;clear hi hk hne hout;rcases hi' with rfl|rfl|rfl|rfl|rfl|rfl
   ·exact h
   ·exact h
   ·obtain⟨bd,e0,h⟩:=h;exact⟨bd,e0,h.ext hE⟩
   ·exact h
   ·exact h
   exact h
  ·intro q op hq ho vs W hW hd ρ hρ;have hq':=ltc6 hq;clear hq;have o5:ρ (.tmp 5)=.slice ua un uc:=hρ.out 5 rfl;have o6:ρ (.tmp 6)=.slice oa o.length oc:=hρ.out 6 rfl;have i0:=hρ.i 0 19;have i1:=hρ.i 1 20;have o3:ρ (.tmp 3)=.pointer (some ⟨w.heap.size,0,none⟩):=hρ.out 3 rfl;have i2:=hρ.i 2 21;have i3:=hρ.i 3 22;have i4:=hρ.i 4 23;have hc:=hρ.const;have hfn:=hρ.func;clear hρ;have HW:=ak (show Ext w3 W from hW);rcases hq' with rfl|rfl|rfl|rfl|rfl|rfl
   ·cases ho
    clear hd;unfold dF;go_simp;exact⟨Ext.refl W,rfl⟩
   ·cases ho
    clear hd;unfold dF;go_simp;exact⟨Ext.refl W,rfl⟩
   ·cases ho
    have h0:vs 0=_:=hd ⟨0,.data⟩ (by simp) rfl;rw[h0] at i0;have h1:vs 1=_:=hd ⟨1,.data⟩ (by simp) rfl;rw[h1] at i1;clear hd;unfold dF;go_simp;refine(HSI.o W HW.o).mono ?_;rintro r w5 ⟨bd,rfl,hd5,hx5⟩;exact⟨_,rfl,hx5,HW.o.trans hx5,_,rfl,hd5⟩
   ·cases ho
    clear hd;have g0:=HW.o.cell f0;have g1:=HW.o.cell f1;have g2:=HW.o.cell f2;have g3:=HW.o.cell f3;have g4:=HW.o.cell f4;have g5:=HW.o.cell f5;unfold dF;go_simp;exact⟨Ext.refl W,rfl⟩
   ·cases ho
    obtain⟨bd,h2,hs2⟩:∃bd,vs 2=.map (some bd)/\MapAt W 9 bd o.length (oh (aaw (uY us o))):=hd ⟨2,.data⟩ (by simp) rfl;have HS2:=ak hs2;clear hs2;rw[h2] at i2;have h3:vs 3=_:=hd ⟨3,.data⟩ (by simp) rfl;rw[h3] at i3;clear hd;unfold dF;go_simp;refine(HCE.o _ W HW.o HS2.o).mono ?_;rintro r w5 ⟨rfl,hx5⟩;exact⟨_,rfl,hx5,HW.o.trans hx5,rfl⟩
   cases ho
   have h4:vs 4=_:=hd ⟨4,.data⟩ (by simp) rfl;rw[h4] at i4;clear hd;unfold dF;go_simp;exact⟨Ext.refl W,rfl⟩
  intro vs W hW hR;rw[dw (by decide +kernel)];have h5:vs 5=.int .i64 R:=hR 5 (by simp) (by omega);simp only[acts,gK,List.range,List.range.loop,bF,dA,h5];go_simp;have hW2:Ext w3 W:=hW;clear hR hW h5;go_wp2_with fail
  go_ret;exact dP (by rw[HRR.o]) (gU.o.trans hW2)
 have gU:=ak (gI.o.trans hx3);have HRR:=ak (HUS.o.cyclic h1 h2);clear hx3 h1 h2;go_wp2_with fail
 go_ret;exact dP (by rw[HRR.o];rfl) gU.o
mutual
theorem ahB:(e:Ex)->jA e->vJ e=true
 | .mk op name words lo hi args,h=>by
  rw[jA] at h;obtain⟨hn,ha⟩:=h;rw[vJ,aeQ args ha,Bool.and_true];unfold EH at hn;simp only[Ex.op,Ex.args,Ex.name,Ex.words,Ex.lo,Ex.hi] at hn;by_cases h3:op=3
  ·have:args=[]:=by
    rcases hn with ⟨h,-⟩|⟨h,-⟩|⟨-,-,-,-,-,h⟩|⟨h,-⟩|⟨h,-⟩|⟨h,-⟩|⟨h,-⟩
    ·omega
    ·omega
    ·exact h
    ·omega
    ·omega
    ·omega
    omega
   simp[this]
  simp[h3]
theorem aeQ:(l:List Ex)->zG l->JX l=true
 | [],_=>by rw[JX]
 | e::r,h=>by
  rw[zG] at h;rw[JX,ahB e h.1,aeQ r h.2];rfl
end
theorem aeC {e:Ex} (h:iL e=true):vJ e=true:=ahB e (aj7 h)
theorem al4 {l:List dY} {i:Nat} (hi:i<l.length):mg l i=if (oJ l[i]).any (fun x=>decide (2000<expanded l x))=true then 4 else 0:=by
 unfold mg;rw[iZ hi,LW];simp only[oJ,List.any_cons,bV,aN]
theorem aIo {s:List Attr} {l:List dY} (h:∀j,j<l.length->lU s l j=0) {i:Nat} (hi:i<l.length) (hk:l[i].kind=1):fG l l[i].name=some i:=by
 have h0:=h i hi;rw[<-awK s l hi] at h0;unfold awL at h0;have hnone:findAt (l.take i) l[i].name=none:=by
  cases hf:findAt (l.take i) l[i].name with
  | none=>rfl
  | some q =>
   rw[hf] at h0;split at h0
   ·cases h0
   simp at h0
 unfold fG;rw[aP];refine⟨hi,by simp[hk],fun j hj=>?_⟩;unfold findAt at hnone;rw[bJ] at hnone;have:=hnone l[j] (bD.2 ⟨j,by simp;omega,by simp⟩);simp only[bZ] at this;simp[this]
def aIF (sa:OA) (sn sc bm b off n c k:Nat) (v:jm) (E:Int):Nat->Value->World->Prop
 | 0,u,_=>u=.agg #[.slice sa sn sc]
 | 1,u,_=>u=.map (some bm)
 | 2,u,_=>u=.slice (some ⟨b,off,none⟩) n c
 | 3,u,_=>u=.int .i64 ((k:Nat):Int)
 | 4,u,_=>u=.slice (some ⟨b,off,none⟩) k c
 | 5,u,_=>u=.agg #[.int .i64 v.kind,.string v.name,.int .i64 v.x.op,.string v.x.name,.slice v.x.aw v.x.nw v.x.cw,.int .i64 v.x.lo,.int .i64 v.x.hi,.slice v.x.aa v.x.na v.x.ca,.slice v.au v.nu v.cu,.int .i64 v.amount]
 | 6,u,_=>u=.int .i64 E
 | _,u,_=>u=.int .i64 E
def a4J (l:List dY) (n:Nat) (w3:World) (t:Value) (wr:World):Prop:=∃k:Nat,t=.int .i64 ((k:Nat):Int)/\k<=n/\(∀j,j<k->mg l j=0)/\Ext w3 wr
theorem AY (s:List Attr) (l:List dY) (sv:Value) (a:OA) (n c:Nat) (w:World) (hs:fJ w s sv) (hf:∀x∈s,x.fits) (hsl:s.length<=1000000000000000) (hl:eX w l a n c) (hn:n<=1000000000000000) (hok:∀x∈l,x.fit) (ho:gG w) :
  Calls Tryz.prog 56 #[sv,.slice a n c] w (dN (aa6 (eU s l)) w):=by
 obtain⟨sa,sn,sc,rfl,hsn⟩:=hs.slice;have HL:=ak hl;have HN:=ak hl.len;have Ej:=ak hok;have hnc:n<=c:=by obtain⟨vs,h1,_⟩:=hl;exact h1.2.1
 have HVA:=ak (fun (W:World) (hW:Ext w W)=>Ho s (.agg #[.slice sa sn sc]) W (hs.ext hW) hf hsl);have HCC:=ak (fun (hz:fD s=0) (bm nm:Nat) (ba:OA) (bn bc i:Nat) (hi:i<l.length) (v:jm) (W:World) (hW:Ext w W) (hd:Cm W l bm nm) (hb:eX W (l.take i) ba bn bc) (hbn:bn<=1000000000000000) (hc:kR W l[i] v)=>anQ s hz l (l.take i) hf hsl bm nm ba bn bc l[i] v (.agg #[.slice sa sn sc]) W (hok _ (aI hi)) (ho.ext hW) (hs.ext hW) hd hb hbn hc);obtain⟨R,hR⟩:∃R,R=eU s l:=⟨_,rfl⟩
 rw[<-hR];have HR:=ak hR;obtain⟨wa,dW⟩:∃wa,wa=w.alloc (.cells #[.slice sa sn sc] 24):=⟨_,rfl⟩
 have hxa:Ext w wa:=by rw[dW];exact(Ext.refl _).alloc _
 have hb:wa.heap[w.heap.size]?=some (.cells #[.slice sa sn sc] 24 (0,0)):=by rw[dW];exact dG w _
 have fE:=ak hxa;have sS:=ak hb;obtain⟨d0,df⟩:=gQ hb;have azA:=dH hb;clear hs hl hf hok hR hsn hxa hb ho;go_enter Tryz.func56,Tryz.ntmps56
 go_upto_region 1 with fail
 rw[<-dW];clear dW;go_wp2_with fail
 refine(HVA.o wa fE.o).mono ?_;rintro r w1 ⟨rfl,hx1⟩;have fQ:=ak (fE.o.trans hx1);have HB1:=ak (hx1.blk sS.o);clear hx1 d0 df HVA azA;by_cases hse:fD s=0
 case neg =>
  have tz:(fD s != 0)=true:=by simp[hse]
  have HQ:=ak (HR.o.trans (aBE hse));go_wp2_with fail
  go_ret2
  exact qL HQ.o fQ.o
 have tz:(fD s != 0)=false:=by simp[hse]
 have U8:=ak hse;clear hse;by_cases hm:100<n
 ·have tm:=ah ((100:Int)<(n:Int));have HQ:=ak (HR.o.trans (awz U8.o (by have:=HN.o;omega)));go_wp2_with fail
  go_ret2
  exact qL HQ.o fQ.o
 have tm:=aj ((100:Int)<(n:Int));have HM:=ak (show ¬100<l.length by have:=HN.o;omega);go_wp2_with fail
 refine(JL l a n c w1 (HL.o.ext fQ.o) (by omega) fun x hx=>(Ej.o x hx).1).mono ?_;rintro r w2 ⟨bm,rfl,hd2,hx2⟩;have HD2:=ak hd2;have gI:=ak (fQ.o.trans hx2);have HB2:=ak (hx2.blk HB1.o);clear hd2 hx2;go_wp2_with fail
 go_loopw [30] (fun t wr=>∃k:Nat,t=.int .i64 ((k:Nat):Int)/\k<=n/\(∀j,j<k->lU s l j=0)/\Ext w2 wr) (fun t _=>n - (intOf t).toNat)
 case atStart=>exact⟨0,rfl,by omega,fun j h=>by omega,Ext.refl _⟩
 case round =>
  obtain⟨k,rfl,hk,hno,hxr⟩:=hrel;have lZ:=ak hno;have kC:=ak hxr;clear hno hxr;by_cases hkn:k<n
  ·have hkl:k<l.length:=by have:=HN.o;omega
   have t1:=ah ((k:Int)<(n:Int));obtain⟨b,off,v,rfl,jr,hrow⟩:=(HL.o.ext (gI.o.trans kC.o)).at hkl;obtain⟨c0,c1,c2,c3,c4,c5,c6,c7,c8,c9⟩:=hrow.ten;have Zr:(0:Int)<=(k:Int):=by omega
   have ti1:(k:Int)<=(n:Int):=by omega
   have hkc:k<=c:=by omega
   have HCE:=ak (awK s l hkl);have GH:=ak (fun (e:Int) (h:lU s l k=e) (h0:e≠0)=>HR.o.trans (by rw[aBD U8.o HM.o hkl lZ.o (by rw[h];exact h0),h]));obtain⟨y,hy⟩:∃y,y=wr.heap.size:=⟨_,rfl⟩
   obtain⟨wx,hwx⟩:∃wx,wx=wr.alloc (.cells #[.int .i64 v.kind,.string v.name,.int .i64 v.x.op,.string v.x.name,.slice v.x.aw v.x.nw v.x.cw,.int .i64 v.x.lo,.int .i64 v.x.hi,.slice v.x.aa v.x.na v.x.ca,.slice v.au v.nu v.cu,.int .i64 v.amount] 48):=⟨_,rfl⟩
   have hxx:Ext wr wx:=by rw[hwx];exact(Ext.refl _).alloc _
   have hby:wx.heap[y]?=some (.cells #[.int .i64 v.kind,.string v.name,.int .i64 v.x.op,.string v.x.name,.slice v.x.aw v.x.nw v.x.cw,.int .i64 v.x.lo,.int .i64 v.x.hi,.slice v.x.aa v.x.na v.x.ca,.slice v.au v.nu v.cu,.int .i64 v.amount] 48 (0,0)):=by rw[hwx,hy];exact dG wr _
   have Dl:=ak (kC.o.trans hxx);have HCF:=ak (fun (W:World) (hW:Ext wx W)=>HCC.o U8.o bm n (some ⟨b,off,none⟩) k c k hkl v W ((gI.o.trans Dl.o).trans hW) (HD2.o.ext (Dl.o.trans hW)) ((HL.o.ext ((gI.o.trans Dl.o).trans hW)).take (by omega)) (by omega) (jr.mono (hxx.trans hW).sub));rw[HCE.o] at HCF;obtain⟨E,hE⟩:∃E,E=lU s l k:=⟨_,rfl⟩
   rw[<-hE] at HCF;have HE:=ak hE;clear jr hrow hE HCE;go_upto_region 10 with fail
   rw[<-hwx,<-hy];clear hwx hy c0 c1 c2 c3 c4 c5 c6 c7 c8 c9;obtain⟨d0,df⟩:=gQ ((Dl.o).blk HB2.o);obtain⟨b0,b1,b2,b3,b4,b5,b6,b7,b8,b9,bf⟩:=wu hby;clear hxx hby;refine iP (m:=8) [7] (GrG wx) SX (zu (aIF sa sn sc bm b off n c k v E)) (by kernel_rfl) (by kernel_rfl) ((Ext.refl wx).drew) ?_ ?_ ?_
   ·intro i k v W W' hi hk hne hout h hE;have hE:Ext W W':=hE;have hi':=ltc8 hi;clear hi hk hne hout;rcases hi' with rfl|rfl|rfl|rfl|rfl|rfl|rfl|rfl
    ·exact h
    ·exact h
    ·exact h
    ·exact h
    ·exact h
    ·exact h
    ·exact h
    exact h
   ·intro q op hq ho vs W hW hd ρ hρ;have hq':=ltc8 hq;clear hq;have o2:ρ (.tmp 2)=.pointer (some ⟨w.heap.size,0,none⟩):=hρ.out 2 rfl;have o7:ρ (.tmp 7)=.map (some bm):=hρ.out 7 rfl;have o1:ρ (.tmp 1)=.slice (some ⟨b,off,none⟩) n c:=hρ.out 1 rfl;have o8:ρ (.tmp 8)=.int .i64 ((k:Nat):Int):=hρ.out 8 rfl;have i2:=hρ.i 2 37;have i3:=hρ.i 3 38;have o9:ρ (.tmp 9)=.pointer (some ⟨y,0,none⟩):=hρ.out 9 rfl;have i0:=hρ.i 0 35;have i1:=hρ.i 1 36;have i4:=hρ.i 4 39;have i5:=hρ.i 5 40;have i6:=hρ.i 6 41;have hc:=hρ.const;have hfn:=hρ.func;clear hρ;have HW:=ak (show Ext wx W from hW);rcases hq' with rfl|rfl|rfl|rfl|rfl|rfl|rfl|rfl
    ·cases ho
     clear hd;have g0:=HW.o.cell d0;unfold dF;go_simp;exact⟨Ext.refl W,rfl⟩
    ·cases ho
     clear hd;unfold dF;go_simp;exact⟨Ext.refl W,rfl⟩
    ·cases ho
     clear hd;unfold dF;go_simp;exact⟨Ext.refl W,rfl⟩
    ·cases ho
     clear hd;unfold dF;go_simp;exact⟨Ext.refl W,rfl⟩
    ·cases ho
     have h2:vs 2=_:=hd ⟨2,.data⟩ (by simp) rfl;rw[h2] at i2;have h3:vs 3=_:=hd ⟨3,.data⟩ (by simp) rfl;rw[h3] at i3;clear hd;unfold dF;go_simp;exact⟨Ext.refl W,rfl⟩
    ·cases ho
     clear hd;have g0:=HW.o.cell b0;have g1:=HW.o.cell b1;have g2:=HW.o.cell b2;have g3:=HW.o.cell b3;have g4:=HW.o.cell b4;have g5:=HW.o.cell b5;have g6:=HW.o.cell b6;have g7:=HW.o.cell b7;have g8:=HW.o.cell b8;have g9:=HW.o.cell b9;unfold dF;go_simp;exact⟨Ext.refl W,rfl⟩
    ·cases ho
     have h0:vs 0=_:=hd ⟨0,.data⟩ (by simp) rfl;rw[h0] at i0;have h1:vs 1=_:=hd ⟨1,.data⟩ (by simp) rfl;rw[h1] at i1;have h4:vs 4=_:=hd ⟨4,.data⟩ (by simp) rfl;rw[h4] at i4;have h5:vs 5=_:=hd ⟨5,.data⟩ (by simp) rfl;rw[h5] at i5;clear hd;unfold dF;go_simp;refine(HCF.o W HW.o).mono ?_;rintro r5 w5 ⟨rfl,hx5⟩;exact⟨_,rfl,hx5,HW.o.trans hx5,rfl⟩
    cases ho
    have h6:vs 6=_:=hd ⟨6,.data⟩ (by simp) rfl;rw[h6] at i6;clear hd;unfold dF;go_simp;exact⟨Ext.refl W,rfl⟩
   intro vs W hW hR;rw[dw (by decide +kernel)];have h7:vs 7=.int .i64 E:=hR 7 (by simp) (by omega);simp only[acts,gK,List.range,List.range.loop,bF,dA,h7];go_simp;have hW2:Ext wx W:=hW;clear hR hW h7;have mX:=ak (Dl.o.trans hW2);clear hW2 d0 df b0 b1 b2 b3 b4 b5 b6 b7 b8 b9 bf HCF;by_cases hz:E=0
   ·have tz0:(E != 0)=false:=by simp[hz]
    have HZ:=ak (HE.o.symm.trans hz);clear hz;go_wp2_with fail
    go_roundw
    case rel =>
     refine⟨k+1,by go_num,by omega,fun j hj=>?_,mX.o⟩;by_cases e0:j=k
     ·subst e0;exact HZ.o
     exact lZ.o j (by omega)
    case measure=>simp[intOf];omega
   have tz0:(E != 0)=true:=by simp[hz]
   have HQ:=ak (GH.o E HE.o.symm hz);clear hz;go_wp2_with fail
   go_ret2
   exact qL HQ.o (gI.o.trans mX.o)
  have t1:=aj ((k:Int)<(n:Int));have nK:=ak (show ∀j,j<l.length->lU s l j=0 from fun j hj=>lZ.o j (by have:=HN.o;omega));have zN:=ak (show ∀x∈l,x.name.size<=1000000000000000/\x.cond.size<=100000/\x.cond.fits/\(∀y∈oJ x,iL y=true)/\qU x.jZ<=40 by
   intro x hx;obtain⟨j,hj,rfl⟩:=bD.1 hx;have hv:=Yd (nK.o j hj) hj;have hf:=Ej.o _ hx;exact⟨hf.1,GV (Px hv),hf.2.1,(EW hv).1,(EW hv).2⟩)
  have qC:=ak (gI.o.trans kC.o);clear lZ;go_wp2_with fail
  refine(Nh (l.map dY.cl) a n c wr (HL.o.ext qC.o).cls (by omega) (by
   intro x hx;obtain⟨c',hc',rfl⟩:=List.mem_map.1 hx;have:=zN.o c' hc';exact⟨this.2.1,this.2.2.1,this.1⟩)).mono ?_
  rw[show (l.map dY.cl).map Cl.dfn=l.map dY.dfn by rw[List.map_map];rfl];rintro r w3 ⟨hx3,⟨o,oa,oc,ht,rfl,hoi⟩|⟨o,q1,q2,rfl⟩⟩
  ·have HT:=ak ht;have HOI:=ak hoi;have gU:=ak (qC.o.trans hx3);have HSO:=ak (show Sorts (l.map dY.dfn) from⟨o,ht⟩);have hol:o.length<=1000:=by have h1:=ht.len;have:=HN.o;simp at h1;omega
   have a14:=ak (fun (x:Ex) (hx:vJ x=true)=>aoq ht (fun i hi=>by
    have hil:i<l.length:=by simpa using ht.lt hi
    rw[iZ hil];exact aIo nK.o hil (by have:=(ht.all i).1 hi;rw[yx hil] at this;simpa using this)) (fun i hi=>by
    have hil:i<l.length:=by simpa using ht.lt hi
    rw[iZ hil];exact aeC ((zN.o _ (aI hil)).2.2.2.1 _ (by simp[oJ]))) x hx)
   clear ht hoi hx3;go_wp2_with fail
   refine(aho l a n c o oa oc w3 (HL.o.ext gU.o) (by omega) HOI.o (by omega) (fun i hi=>by simpa using HT.o.lt hi) (fun x hx=>by have:=zN.o x hx;exact⟨this.1,by omega,this.2.2.1⟩)).mono ?_;rintro r w4 ⟨bs,rfl,hm4,hx4⟩;have HM4:=ak hm4;have lN:=ak (gU.o.trans hx4);clear hm4 hx4;go_wp2_with fail
   go_loopw [60] (a4J l n w4) (fun t _=>n - (intOf t).toNat)
   case atStart=>exact⟨0,rfl,by omega,fun j h=>by omega,Ext.refl _⟩
   case round =>
    obtain⟨k2,rfl,hk2,hno,hxr⟩:=hrel;obtain⟨wo,rfl⟩:∃wo:World,wo=wr:=⟨_,rfl⟩
    have lZ:=ak hno;have axe:=ak hxr;clear hno hxr;by_cases hkn2:k2<n
    ·have hkl:k2<l.length:=by have:=HN.o;omega
     have t2:=ah ((k2:Int)<(n:Int));obtain⟨b,off,v,rfl,jr,hrow⟩:=(HL.o.ext (lN.o.trans axe.o)).at hkl;obtain⟨c0,c1,c2,c3,c4,c5,c6,c7,c8,c9⟩:=hrow.ten;have HFT:=ak (alX (Ej.o _ (aI hkl)));have HRF:=ak (zN.o _ (aI hkl)).2.2.2.1;have hwb:=(zN.o _ (aI hkl)).2.2.2.2;have HLG:=ak (al4 hkl);have GH:=ak (fun (h:mg l k2=4)=>HR.o.trans (ag3 U8.o HM.o nK.o HSO.o hkl lZ.o h));have NW:=ak (fun (W:World) (hW:Ext wo W)=>Wx l[k2] v W (jr.mono hW.sub) (by omega));have vS:=ak (adT l[k2]);clear jr hrow;go_wp2_with fail
     refine(NW.o _ ((Ext.refl wo).alloc _)).mono ?_;rintro r w6 ⟨ea,en,ek,rfl,hen,a0o,hed,hx6⟩;have oL:=ak ((axe.o.alloc _).trans hx6);have HED:=ak hed;have SA:=ak hen;have aHz:en<=41:=by have:=vS.o;omega
     clear hx6 hed hen c0 c1 c2 c3 c4 c5 c6 c7 c8 c9 NW;go_wp2_with fail
     go_loopw [68] (fun t wr=>∃q:Nat,t=.int .i64 ((q:Nat):Int)/\q<=en/\(∀j (h:j<(oJ l[k2]).length),j<q->¬2000<expanded l (oJ l[k2])[j])/\Ext w6 wr) (fun t _=>en - (intOf t).toNat)
     case atStart=>exact⟨0,rfl,by omega,fun j _ h=>by omega,Ext.refl _⟩
     case round =>
      obtain⟨q,rfl,hq,hall,hxq⟩:=hrel;have qE:=ak hall;have HXQ:=ak hxq;clear hall hxq;by_cases hqn:q<en
      ·have hql:q<(oJ l[k2]).length:=by have:=SA.o;omega
       have t3:=ah ((q:Int)<(en:Int));obtain⟨b',off',rfl,rJ,rF,rH,rM,rG,ca1,h0,h1,h2,h3,h4,h5,h6⟩:=iK.at (oJ l[k2]) _ (iK.ext HXQ.o (oJ l[k2]) _ HED.o) q hql;have hmem:=aI hql;have hxs:=GV (HRF.o _ hmem);have Us:=ak (fun (W:World) (hW:Ext wr W)=>adW (uY l o) (agd l o) bs o.length 1000000000000000 (oJ l[k2])[q] _ W (by omega) (by omega) (HFT.o _ hmem).1 (HM4.o.ext ((oL.o.trans HXQ.o).trans hW)) (h6.ext hW));have hblt:=block_lt h0;simp only at hblt;rw[a14.o _ (aeC (HRF.o _ hmem))] at Us;unfold exV at Us;obtain⟨E,hE⟩:∃E,E=expanded l (oJ l[k2])[q]:=⟨_,rfl⟩
       rw[<-hE] at Us;have hel:E<=2001:=by rw[hE];exact afp l _ _
       have HE:=ak hE;clear h6 hE;go_wp2_with fail
       refine(Us.o _ ((Ext.refl wr).alloc _)).mono ?_;rintro r w7 ⟨rfl,hx7⟩;have xH:=ak ((HXQ.o.alloc _).trans hx7);clear hx7 h0 h1 h2 h3 h4 h5 Us;by_cases hlg:2000<E
       ·have t4:=ah ((2000:Int)<(E:Int));have HQ:=ak (GH.o (by
         rw[HLG.o,dw];rw[List.any_eq_true];exact⟨_,hmem,by rw[<-HE.o];simpa using hlg⟩))
        clear hmem;go_wp2_with fail
        go_ret2
        exact qL HQ.o (lN.o.trans (oL.o.trans xH.o))
       have t4:=aj ((2000:Int)<(E:Int));have HNL:=ak (show ¬2000<expanded l (oJ l[k2])[q] by rw[<-HE.o];exact hlg);clear hmem hlg;go_wp2_with fail
       go_roundw
       case rel =>
        refine⟨q+1,by go_num,by omega,fun j hj hjk=>?_,xH.o⟩;by_cases e0:j=q
        ·subst e0;exact HNL.o
        exact qE.o j hj (by omega)
       case measure=>simp[intOf];omega
      have t3:=aj ((q:Int)<(en:Int));have HZ:=ak (show mg l k2=0 by
       rw[HLG.o,dh];rw[Bool.not_eq_true,List.any_eq_false];intro x hx;obtain⟨j,hj,rfl⟩:=bD.1 hx;simpa using qE.o j hj (by have:=SA.o;omega))
      go_wp2_with fail
      go_roundw
      case rel =>
       refine⟨k2+1,by go_num,by omega,fun j hj=>?_,oL.o.trans HXQ.o⟩;by_cases e0:j=k2
       ·subst e0;exact HZ.o
       exact lZ.o j (by omega)
      case measure=>simp[intOf];omega
    have t2:=aj ((k2:Int)<(n:Int));have HQ:=ak (HR.o.trans (afD U8.o HM.o nK.o HSO.o fun j hj=>lZ.o j (by have:=HN.o;omega)));go_wp2_with fail
    go_ret2
    exact qL HQ.o (lN.o.trans axe.o)
  have HQ:=ak (HR.o.trans (apL U8.o HM.o nK.o (q1.none q2)));have gU:=ak (qC.o.trans hx3);clear hx3 q1 q2;go_wp2_with fail
  go_ret2
  exact qL HQ.o gU.o
def oq (w:World) (B:Nat) (v0 v1 v2:Value):World:=((w.setCell ⟨B,0,none⟩ v0).setCell ⟨B,1,none⟩ v1).setCell ⟨B,2,none⟩ v2
theorem xC {w:World} {B:Nat} {u0 u1 u2:Value} {t:TypeId} (h:w.heap[B]?=some (.cells #[u0,u1,u2] t (0,0))) (v0 v1 v2:Value):(oq w B v0 v1 v2).heap[B]?=some (.cells #[v0,v1,v2] t (0,0)):=by
 unfold oq;have h0:=aO w B 0 _ _ v0 h;have h1:=aO _ B 1 _ _ v1 h0;have h2:=aO _ B 2 _ _ v2 h1;rw[h2];rfl
theorem xB (w:World) (B:Nat) (v0 v1 v2:Value) {N:ZN} (h:B∈N):dO N w (oq w B v0 v1 v2):=by
 unfold oq;exact(((dO.refl _ _).setCell (Or.inl h) _).setCell (Or.inl h) _).setCell (Or.inl h) _
def uz:Value:=.agg #[.slice none 0 0,.map none,.slice none 0 0]
def WR (s:List Attr) (l:List dY) (e:Ex) (f:ZI) (n:Nat) (w:World) (r:Ending) (w':World):Prop:=Ext w w'/\((lY s l e f≠0/\r=.returned (.tuple #[uz,.int .i64 (lY s l e f)]))\/(lY s l e f=0/\∃lv:jH,r=.returned (.tuple #[lv.val,.int .i64 0])/\Gy w' s l f lv n))
theorem Chk.fresh {s:List Attr} {l:List dY} (h:Chk s l) {k:Nat} (hk:k<l.length):fG (l.take k) l[k].name=none:=by
 cases hd:fG (l.take k) l[k].name with
 | none=>rfl
 | some d =>
  obtain⟨h1,_,h3⟩:=lG hd;have hdk:d<k:=by simp at h1;omega
  have:=h.uniq k d hk hdk;rw[getD_take hdk] at h3;rw[h3,vY hk] at this;exact absurd rfl this
theorem anN (s:List Attr) (l:List dY) (e:Ex) (f:ZI) (ev sv:Value) (a:OA) (n c:Nat) (fa:OA) (fn fc:Nat) (w:World) (hs:fJ w s sv) (hf:∀x∈s,x.fits) (hsl:s.length<=1000000000000000) (hl:eX w l a n c) (hn:n<=1000000) (hok:∀x∈l,x.fit) (he:fC w e ev) (hfew:e.few) (hfit:e.fits) (hi:fO w f fa fn) (hfn:fn<=1000000000000000) (ho:gG w) :
  Calls Tryz.prog 115 #[sv,.slice a n c,ev,.slice fa fn fc] w (WR s l e f n w):=by
 obtain⟨sa,sn,sc,rfl,hsn⟩:=hs.slice;have vS:=ak (fun W (hW:Ext w W)=>AY s l _ a n c W (hs.ext hW) hf hsl (hl.ext hW) (by omega) hok (ho.ext hW));have HEX:=ak (fun W (hW:Ext w W)=>Dj s l a n c e ev _ W hf hsl (hl.ext hW) hn (fun x hx=>(hok x hx).1) hfew hfit (ho.ext hW) (hs.ext hW) (he.ext hW));have HXP:=ak (fun (h1:(eU s l).2=0) (h2:uU s l e=0) W (hW:Ext w W)=>Hw l a n c e ev W (hl.ext hW) (he.ext hW) ⟨by have:=aj6 (aaT h2);omega,hfit,aeC (aaT h2)⟩ (by rw[hl.len];have:=(qO h1).len;omega) (fun x hx=>⟨(hok x hx).1,by have:=(qO h1).size x hx;omega,(hok x hx).2.1,aeC ((qO h1).good x hx).2.2.1⟩));have Kt:=ak (fun W (hW:Ext w W)=>Xj s _ f fa fn fc W (hs.ext hW) hf hsl (hi.ext hW) hfn);have vP:=ak (fun (h1:(eU s l).2=0)=>qO h1);have HL:=ak hl;have HS:=ak hs;have HI:=ak hi;have zN:=ak (fun x hx=>(hok x hx).1);have HN:=ak hl.len;obtain⟨aw,nw,cw,aa,na,ca,rfl,-⟩:=he.parts;obtain⟨R,hR⟩:∃R,R=lY s l e f:=⟨_,rfl⟩
 unfold WR;rw[<-hR];unfold lY at hR;obtain⟨⟨i0,E1⟩,hE1⟩:∃E:Nat×Int,E=eU s l:=⟨_,rfl⟩
 rw[<-hE1] at vS hR;have ams:=ak (fun (h1:E1=0)=>HXP.o (by rw[<-hE1];exact h1));have aKe:=ak (fun (h1:E1=0)=>vP.o (by rw[<-hE1];exact h1));clear HXP vP;obtain⟨E2,hE2⟩:∃E,E=uU s l e:=⟨_,rfl⟩
 rw[<-hE2] at HEX hR;have HXP:=ak (fun (h1:E1=0) (h2:E2=0)=>ams.o h1 (by rw[<-hE2];exact h2));clear ams;obtain⟨X,hX⟩:∃X,X=expanded l e:=⟨_,rfl⟩
 rw[<-hX] at HXP hR;obtain⟨B,hB⟩:∃B,B=mJ s f:=⟨_,rfl⟩
 rw[<-hB] at Kt hR;have HR:=ak hR;clear hs hf hsl hl hok he hfew hfit hi hsn hR hE1 hE2 hX hB ho;unfold exV at *;obtain⟨wa,dW⟩:∃wa,wa=((w.alloc (.cells #[.slice sa sn sc] 24)).alloc (.cells #[.int .i64 e.op,.string e.name,.slice aw nw cw,.int .i64 e.lo,.int .i64 e.hi,.slice aa na ca] 45)).alloc (.cells #[.slice none 0 0,.map none,.slice none 0 0] 183):=⟨_,rfl⟩
 have hxa:Ext w wa:=by rw[dW];exact(((Ext.refl _).alloc _).alloc _).alloc _
 have hb0:wa.heap[w.heap.size]?=some (.cells #[.slice sa sn sc] 24 (0,0)):=by rw[dW];exact dJ (dJ (dG w _))
 have hb1:wa.heap[w.heap.size+1]?=some (.cells #[.int .i64 e.op,.string e.name,.slice aw nw cw,.int .i64 e.lo,.int .i64 e.hi,.slice aa na ca] 45 (0,0)):=by rw[dW];exact dJ (eH (by simp))
 have hb2:wa.heap[w.heap.size+1+1]?=some (.cells #[.slice none 0 0,.map none,.slice none 0 0] 183 (0,0)):=by rw[dW];exact eH (by simp)
 have fE:=ak hxa;have HB0:=ak hb0;have HB1:=ak hb1;have HB2:=ak hb2;obtain⟨e0,ef⟩:=gQ hb0;clear hxa hb0 hb1 hb2;unfold aa6 at vS;go_enter Tryz.func115,Tryz.ntmps115
 go_upto_region 1 with fail
 rw[<-dW];clear dW;go_wp2_with fail
 refine(vS.o wa fE.o).mono ?_;rintro r w1 ⟨rfl,hx1⟩;have fQ:=ak (fE.o.trans hx1);have abl:=ak (hx1.blk HB0.o);have uh:=ak (hx1.blk HB1.o);have SV:=ak (hx1.blk HB2.o);clear hx1 e0 ef vS HB0 HB1 HB2;by_cases h1:E1=0
 case neg =>
  have t1:(E1 != 0)=true:=by simp[h1]
  have HQ:=ak (show R=E1 by rw[HR.o,dw h1]);have HNZ:=ak h1;clear h1;obtain⟨r0,r1,r2,rf⟩:=fZ SV.o;go_wp2_with fail
  obtain⟨wz,hwz⟩:∃wz,wz=oq w1 (w.heap.size+1+1) (.slice none 0 0) (.map none) (.slice none 0 0):=⟨_,rfl⟩
  have HZ:=ak (show wz.heap[w.heap.size+1+1]?=some (.cells #[.slice none 0 0,.map none,.slice none 0 0] 183 (0,0)) by rw[hwz];exact xC SV.o _ _ _);have yC:=ak (show Ext w wz by rw[hwz];exact(xB w1 (w.heap.size+1+1) (.slice none 0 0) (.map none) (.slice none 0 0) (N:=[w.heap.size+1+1]) (by simp)).ext fQ.o (fun y hy=>by simp only[aK] at hy;omega));unfold oq at hwz;rw[<-hwz];clear hwz;obtain⟨z0,z1,z2,zf⟩:=fZ HZ.o;refine bodyPost_ret (v:=.tuple #[uz,.int .i64 E1]) (by simp[results,Tryz.results115,go_sem,uz,z0,z1,z2]) rfl ?_;exact⟨yC.o,Or.inl ⟨by rw[HQ.o];exact HNZ.o,by rw[HQ.o]⟩⟩
 have t1:(E1 != 0)=false:=by simp[h1]
 have HR2:=ak (show R=if E2≠0 then E2 else if 2000<X then 4 else if B=false then 16 else 0 by rw[HR.o,dh (by simpa using h1)]);have ams:=ak (HXP.o h1);have vP:=ak (aKe.o h1);clear h1 HR HXP aKe;obtain⟨e0,ef⟩:=gQ abl.o;obtain⟨f0,f1,f2,f3,f4,f5,ff⟩:=eP uh.o;go_wp2_with fail
 refine(HEX.o w1 fQ.o).mono ?_;rintro r w2 ⟨rfl,hx2⟩;have gI:=ak (fQ.o.trans hx2);have amE:=ak (hx2.blk abl.o);have G9:=ak (hx2.blk uh.o);have abk:=ak (hx2.blk SV.o);clear hx2 e0 ef f0 f1 f2 f3 f4 f5 ff HEX;by_cases h2:E2=0
 case neg =>
  have t2:(E2 != 0)=true:=by simp[h2]
  have HQ:=ak (show R=E2 by rw[HR2.o,dw h2]);have HNZ:=ak h2;clear h2;obtain⟨r0,r1,r2,rf⟩:=fZ abk.o;go_wp2_with fail
  obtain⟨wz,hwz⟩:∃wz,wz=oq w2 (w.heap.size+1+1) (.slice none 0 0) (.map none) (.slice none 0 0):=⟨_,rfl⟩
  have HZ:=ak (show wz.heap[w.heap.size+1+1]?=some (.cells #[.slice none 0 0,.map none,.slice none 0 0] 183 (0,0)) by rw[hwz];exact xC abk.o _ _ _);have yC:=ak (show Ext w wz by rw[hwz];exact(xB w2 (w.heap.size+1+1) (.slice none 0 0) (.map none) (.slice none 0 0) (N:=[w.heap.size+1+1]) (by simp)).ext gI.o (fun y hy=>by simp only[aK] at hy;omega));unfold oq at hwz;rw[<-hwz];clear hwz;obtain⟨z0,z1,z2,zf⟩:=fZ HZ.o;refine bodyPost_ret (v:=.tuple #[uz,.int .i64 E2]) (by simp[results,Tryz.results115,go_sem,uz,z0,z1,z2]) rfl ?_;exact⟨yC.o,Or.inl ⟨by rw[HQ.o];exact HNZ.o,by rw[HQ.o]⟩⟩
 have t2:(E2 != 0)=false:=by simp[h2]
 have HR3:=ak (show R=if 2000<X then 4 else if B=false then 16 else 0 by rw[HR2.o,dh (by simpa using h2)]);have aJl:=ak (ams.o h2);clear h2 HR2 ams;obtain⟨f0,f1,f2,f3,f4,f5,ff⟩:=eP G9.o;go_wp2_with fail
 refine(aJl.o w2 gI.o).mono ?_;rintro r w3 ⟨rfl,hx3⟩;have gU:=ak (gI.o.trans hx3);have Bl:=ak (hx3.blk amE.o);have SQ:=ak (hx3.blk abk.o);clear hx3 f0 f1 f2 f3 f4 f5 ff aJl;by_cases h3:2000<X
 case pos =>
  have t3:=ah ((2000:Int)<(X:Int));have HQ:=ak (show R=4 by rw[HR3.o,dw h3]);clear h3;obtain⟨r0,r1,r2,rf⟩:=fZ SQ.o;go_wp2_with fail
  obtain⟨wz,hwz⟩:∃wz,wz=oq w3 (w.heap.size+1+1) (.slice none 0 0) (.map none) (.slice none 0 0):=⟨_,rfl⟩
  have HZ:=ak (show wz.heap[w.heap.size+1+1]?=some (.cells #[.slice none 0 0,.map none,.slice none 0 0] 183 (0,0)) by rw[hwz];exact xC SQ.o _ _ _);have yC:=ak (show Ext w wz by rw[hwz];exact(xB w3 (w.heap.size+1+1) (.slice none 0 0) (.map none) (.slice none 0 0) (N:=[w.heap.size+1+1]) (by simp)).ext gU.o (fun y hy=>by simp only[aK] at hy;omega));unfold oq at hwz;rw[<-hwz];clear hwz;obtain⟨z0,z1,z2,zf⟩:=fZ HZ.o;refine bodyPost_ret (v:=.tuple #[uz,.int .i64 4]) (by simp[results,Tryz.results115,go_sem,uz,z0,z1,z2]) rfl ?_;exact⟨yC.o,Or.inl ⟨by rw[HQ.o];decide,by rw[HQ.o]⟩⟩
 have t3:=aj ((2000:Int)<(X:Int));have HR4:=ak (show R=if B=false then 16 else 0 by rw[HR3.o,dh h3]);clear h3 HR3;obtain⟨e0,ef⟩:=gQ Bl.o;go_wp2_with fail
 refine(Kt.o w3 gU.o).mono ?_;rintro r w4 ⟨rfl,hx4⟩;have lN:=ak (gU.o.trans hx4);have aFe:=ak (hx4.blk Bl.o);have ata:=ak (hx4.blk SQ.o);clear hx4 e0 ef Kt;cases B
 case false =>
  have HQ:=ak (show R=16 by rw[HR4.o];rfl);obtain⟨r0,r1,r2,rf⟩:=fZ ata.o;go_wp2_with fail
  obtain⟨wz,hwz⟩:∃wz,wz=oq w4 (w.heap.size+1+1) (.slice none 0 0) (.map none) (.slice none 0 0):=⟨_,rfl⟩
  have HZ:=ak (show wz.heap[w.heap.size+1+1]?=some (.cells #[.slice none 0 0,.map none,.slice none 0 0] 183 (0,0)) by rw[hwz];exact xC ata.o _ _ _);have yC:=ak (show Ext w wz by rw[hwz];exact(xB w4 (w.heap.size+1+1) (.slice none 0 0) (.map none) (.slice none 0 0) (N:=[w.heap.size+1+1]) (by simp)).ext lN.o (fun y hy=>by simp only[aK] at hy;omega));unfold oq at hwz;rw[<-hwz];clear hwz;obtain⟨z0,z1,z2,zf⟩:=fZ HZ.o;refine bodyPost_ret (v:=.tuple #[uz,.int .i64 16]) (by simp[results,Tryz.results115,go_sem,uz,z0,z1,z2]) rfl ?_;exact⟨yC.o,Or.inl ⟨by rw[HQ.o];decide,by rw[HQ.o]⟩⟩
 have HQ:=ak (show R=0 by rw[HR4.o];rfl);have hmm:=@run_makeMap Tryz.prog;have HM0:=ak (MapAt.made w4 9);have HX0:=ak ((Ext.refl w4).alloc (.map #[] 0));obtain⟨bf,hbf⟩:∃bf:Nat,bf=w4.heap.size:=⟨_,rfl⟩
 have HBF:=ak hbf;have DJ:=ak (show w.heap.size+1+1<bf by rw[hbf];exact dH ata.o);go_wp2_with fail
 rw[<-hbf];rw[<-hbf] at HM0;clear hbf hmm;go_loopw [47] (fun i wr=>∃(k:Nat) (g:BA->Option Value),k<=n/\i=.int .i64 k/\MapAt wr 9 bf k (oh g)/\YZ w (l.take k) g/\wr.heap[w.heap.size]?=some (.cells #[.slice sa sn sc] 24 (0,0))/\wr.heap[w.heap.size+1+1]?=some (.cells #[.slice none 0 0,.map none,.slice none 0 0] 183 (0,0))/\Ext w wr) (fun i _=>n - (intOf i).toNat)
 case atStart =>
  refine⟨0,fun _=>none,by omega,rfl,HM0.o.congr fun x=>?_,fun s=>⟨fun _=>rfl,fun d hd=>?_⟩,HX0.o.blk aFe.o,HX0.o.blk ata.o,lN.o.trans HX0.o⟩
  ·cases x<;>simp[oh]
  simp[fG] at hd
 case round =>
  obtain⟨k,g,hk,rfl,hmap,hg,hb0,hb2,hx⟩:=hrel;have Kr:=ak hmap;have HX:=ak hx;have HG:=ak hg;have sS:=ak hb0;have Fp:=ak hb2;have hbw:=hmap.lt;clear hmap hx hg HM0 HX0 hb0 hb2;by_cases hlt:k<n
  ·have hlt':k<l.length:=by have:=HN.o;omega
   have t1:=ah ((k:Int)<(n:Int));obtain⟨cb,oZ,v,rfl,jr,hrow⟩:=HL.o.at hlt';obtain⟨c0,c1,c2,c3,c4,c5,c6,c7,c8,c9⟩:=(hrow.mono HX.o.sub).ten;have hns:v.name.size<=1000000000000000:=by rw[jr.2.1];exact zN.o _ (aI hlt')
   have hblt:=block_lt c0;simp only at hblt;have aSp:=ak (show fC w l[k].cond (.agg #[.int .i64 v.x.op,.string v.x.name,.slice v.x.aw v.x.nw v.x.cw,.int .i64 v.x.lo,.int .i64 v.x.hi,.slice v.x.aa v.x.na v.x.ca]) from jr.2.2.1);have HEK:=ak (show l[k].kind=v.kind from jr.1.symm);have SA:=ak (show l[k].name=v.name from jr.2.1.symm);have HFR:=ak (vP.o.fresh hlt');rw[SA.o] at HFR;have HST:=ak (fun h1 h2=>HG.o.step hlt' h1 h2 aSp.o);have Ym:=ak (HG.o.skip hlt');rw[HEK.o,SA.o] at HST Ym;clear jr hrow;cases hkd:(v.kind==1)
   ·have U6:=ak (Ym.o (Or.inl (by simpa using hkd)));go_wp2_with fail
    go_roundw
    case rel =>
     have hxa:=(Ext.refl wr).alloc (.cells #[.int .i64 v.kind,.string v.name,.int .i64 v.x.op,.string v.x.name,.slice v.x.aw v.x.nw v.x.cw,.int .i64 v.x.lo,.int .i64 v.x.hi,.slice v.x.aa v.x.na v.x.ca,.slice v.au v.nu v.cu,.int .i64 v.amount] 48);exact⟨k+1,g,by omega,by go_num,(Kr.o.ext hxa).more (by omega),U6.o,hxa.blk sS.o,hxa.blk Fp.o,HX.o.trans hxa⟩
    case measure=>simp[intOf];omega
   have U6:=ak (HST.o (by simpa using hkd) HFR.o);go_wp2_with (at_mapUpdate;refine oU _ rfl _ _ _ 131 rfl 9 45 jR KT bf k _ rfl (Kr.o.ext ((Ext.refl wr).alloc _)) ?c3 _ _ _ rfl rfl (oI hns) trivial ?_)
   case c3=>unfold maxLen;omega
   intro w6 hm1 hc1;have hxa:=(Ext.refl wr).alloc (.cells #[.int .i64 v.kind,.string v.name,.int .i64 v.x.op,.string v.x.name,.slice v.x.aw v.x.nw v.x.cw,.int .i64 v.x.lo,.int .i64 v.x.hi,.slice v.x.aa v.x.na v.x.ca,.slice v.au v.nu v.cu,.int .i64 v.amount] 48);have hxm:Ext w w6:=hc1.ext (HX.o.trans hxa) (fun y hy=>by simp only[aK] at hy;have:=DJ.o;omega);have aKs:=ak (hc1.blk (hxa.blk sS.o) (by have:=DJ.o;simp;omega));have amD:=ak (hc1.blk (hxa.blk Fp.o) (by have:=DJ.o;simp;omega));have HM1:=ak (hm1.congr (Jm g v.name _));have fQ:=ak hxm;clear hm1 hc1 hxa hxm;go_wp2_with fail
   go_roundw
   case rel=>exact⟨k+1,_,by omega,by go_num,HM1.o,U6.o,aKs.o,amD.o,fQ.o⟩
   case measure=>simp[intOf];omega
  have t1:=aj ((k:Int)<(n:Int));have U6:=ak (show k=n by omega);obtain⟨e0,ef⟩:=gQ sS.o;obtain⟨r0,r1,r2,rf⟩:=fZ Fp.o;go_wp2_with fail
  obtain⟨wz,hwz⟩:∃wz,wz=oq wr (w.heap.size+1+1) (.slice sa sn sc) (.map (some bf)) (.slice fa fn fc):=⟨_,rfl⟩
  have HZ:=ak (show wz.heap[w.heap.size+1+1]?=some (.cells #[.slice sa sn sc,.map (some bf),.slice fa fn fc] 183 (0,0)) by rw[hwz];exact xC Fp.o _ _ _);have hcz:dO [w.heap.size+1+1] wr wz:=by rw[hwz];exact xB wr (w.heap.size+1+1) (.slice sa sn sc) (.map (some bf)) (.slice fa fn fc) (by simp)
  have yC:=ak (hcz.ext HX.o (fun y hy=>by simp only[aK] at hy;omega));have HLZ:=ak (show Gy wz s l f ⟨sa,sn,sc,bf,fa,fn,fc⟩ n from⟨HS.o.ext yC.o,by
   exact⟨g,by rw[<-U6.o];exact Kr.o.fH hcz (by have:=DJ.o;simp;omega),by have:=HG.o.ext yC.o;rwa [aY (by have:=HN.o;omega)] at this⟩,HI.o.ext yC.o⟩)
  unfold oq at hwz;rw[<-hwz];clear hwz hcz;obtain⟨z0,z1,z2,zf⟩:=fZ HZ.o;refine bodyPost_ret (v:=.tuple #[jH.val ⟨sa,sn,sc,bf,fa,fn,fc⟩,.int .i64 0]) (by simp[results,Tryz.results115,go_sem,jH.val,z0,z1,z2]) rfl ?_;exact⟨yC.o,Or.inr ⟨by rw[HQ.o],_,rfl,HLZ.o⟩⟩
open Go.RowKit
def wG (V:Ex->Bool):List Wb->Bool
 | []=>false
 | .mk _ c u::r=>(V c&&!wG V u)||wG V r
def nN (P:Ex->Prop):List Wb->Prop
 | []=>True
 | .mk _ c u::r=>P c/\nN P u/\u.length<=1000000000000000/\nN P r
theorem af5 (V:Ex->Bool) {l:List Wb} {k:Nat} (hk:k<l.length):wG V (l.drop k)=((V l[k].cond&&!wG V l[k].jZ)||wG V (l.drop (k+1))):=by
 rw[List.drop_eq_getElem_cons hk];cases h:l[k] with
 | mk n c u=>rw[wG];rfl
theorem pI {P:Ex->Prop}:(l:List Wb)->nN P l->(k:Nat)->(hk:k<l.length)->P l[k].cond/\nN P l[k].jZ/\l[k].jZ.length<=1000000000000000
 | [],_,k,hk=>by simp at hk
 | .mk n c u::r,h,0,_=>by
  unfold nN at h;exact⟨h.1,h.2.1,h.2.2.1⟩
 | .mk n c u::r,h,k+1,hk=>by
  unfold nN at h;simpa using pI r h.2.2.2 k (by simpa using hk)
def afO (w0:World) (sa:OA) (sn sc:Nat) (a:OA) (n c:Nat) (fa:OA) (fn fc:Nat) (V:Ex->Bool) (P:Ex->Prop):Prop :=
 ∀(e:Ex) (x:fU) (W:World),Ext w0 W->P e->fC W e x.val->Calls Tryz.prog 127 #[.agg #[.slice sa sn sc],.slice a n c,x.val,.slice fa fn fc] W (dN (.bool (V e)) W)
def aV6 (nm:BA) (x:fU) (au:OA) (nu cu:Nat):Obj:=.cells #[.string nm,.int .i64 x.op,.string x.name,.slice x.aw x.nw x.cw,.int .i64 x.lo,.int .i64 x.hi,.slice x.aa x.na x.ca,.slice au nu cu] 53 (0,0)
def BkI (V:Ex->Bool) (u:List Wb) (n:Nat) (w:World) (i:Value) (wr:World):Prop:=∃k:Nat,i=.int .i64 k/\k<=n/\wG V u=wG V (u.drop k)/\Ext w wr
def aTI (b0:Nat) (sa:OA) (sn sc:Nat) (a:OA) (n c:Nat) (fa:OA) (fn fc:Nat) (b off k nu cu:Nat) (v:J4) (Q:Bool):Nat->Value->World->Prop
 | 0,u,_=>u=.agg #[.slice sa sn sc]
 | 1,u,_=>u=.slice a n c
 | 2,u,_=>u=.pointer (some ⟨b0+1,7,none⟩)
 | 3,u,_=>u=.slice (some ⟨b,off,none⟩) nu cu
 | 4,u,_=>u=.int .i64 k
 | 5,u,_=>u=.pointer (some ⟨b,off+k*8,none⟩)
 | 6,u,_=>u=.agg #[.string v.name,.int .i64 v.x.op,.string v.x.name,.slice v.x.aw v.x.nw v.x.cw,.int .i64 v.x.lo,.int .i64 v.x.hi,.slice v.x.aa v.x.na v.x.ca,.slice v.au v.nu v.cu]
 | 7,u,_=>u=.slice fa fn fc
 | _,u,_=>u=.bool Q
theorem aaf {w0:World} {sa:OA} {sn sc:Nat} {a:OA} {n c:Nat} {fa:OA} {fn fc:Nat} {V:Ex->Bool} {P:Ex->Prop} (ht:afO w0 sa sn sc a n c fa fn fc V P):∀(m:Nat) (cond:Ex) (u:List Wb) (nm:BA) (x:fU) (au:OA) (nu cu:Nat) (w:World),qU u<=m->Ext w0 w->P cond->nN P u->nu<=1000000000000000->nu=u.length->fC w cond x.val->jJ w u au ->
  Calls Tryz.prog 97 #[.agg #[.slice sa sn sc],.slice a n c,.agg #[.string nm,.int .i64 x.op,.string x.name,.slice x.aw x.nw x.cw,.int .i64 x.lo,.int .i64 x.hi,.slice x.aa x.na x.ca,.slice au nu cu],.slice fa fn fc] w (dN (.bool (V cond&&!wG V u)) w):=by
 intro m;induction m using Nat.strongRecOn with
 | _ m ih =>
  intro cond u nm x au nu cu w hm hx0 hp hok hnu hlen hex hd;have HT:=ak (fun (W:World) (hW:Ext w W)=>ht cond x W (hx0.trans hW) hp (hex.ext hW));have HIH:=ak (fun (k:Nat) (hk:k<u.length) (v:J4) (W:World) (hW:Ext w W) (Bz:fC W u[k].cond v.x.val) (hvn:v.nu=u[k].jZ.length) (hvd:jJ W u[k].jZ v.au)=>ih (qU u[k].jZ) (by have:=Gn u k hk;omega) u[k].cond u[k].jZ v.name v.x v.au v.nu v.cu W (bg _) (hx0.trans hW) (pI u hok k hk).1 (pI u hok k hk).2.1 (by have:=(pI u hok k hk).2.2;omega) hvn Bz hvd);have HD:=ak hd;have HLEN:=ak hlen;unfold fU.val exV at HT;obtain⟨T,hT⟩:∃T,T=V cond:=⟨_,rfl⟩
  rw[<-hT] at HT ⊢;clear ih hm hx0 hp hok hlen hex hd hT;obtain⟨wa,dW⟩:∃wa,wa=(w.alloc (.cells #[.slice sa sn sc] 24)).alloc (.cells #[.string nm,.int .i64 x.op,.string x.name,.slice x.aw x.nw x.cw,.int .i64 x.lo,.int .i64 x.hi,.slice x.aa x.na x.ca,.slice au nu cu] 53):=⟨_,rfl⟩
  have fE:=ak (show Ext w wa by rw[dW];exact((Ext.refl _).alloc _).alloc _);have HA4:=ak (show wa.heap[w.heap.size]?=some (.cells #[.slice sa sn sc] 24 (0,0)) by rw[dW];exact dJ (dG w _));have HA6:=ak (show wa.heap[w.heap.size+1]?=some (aV6 nm x au nu cu) by rw[dW];exact alloc_at (by simp));obtain⟨s0,sf⟩:=gQ HA4.o;obtain⟨y0,y1,y2,y3,y4,y5,y6,y7,yf⟩:=vN HA6.o;go_enter Tryz.func97,Tryz.ntmps97
  go_upto_region 1 with fail
  rw[<-dW];clear dW;go_wp2_with fail
  refine(HT.o wa fE.o).mono ?_;rintro r w1 ⟨rfl,hx1⟩;have fQ:=ak (fE.o.trans hx1);have HB4:=ak (hx1.blk HA4.o);have nM:=ak (hx1.blk HA6.o);clear hx1 s0 sf y0 y1 y2 y3 y4 y5 y6 y7 yf HA4 HA6 HT fE;cases T
  ·go_wp2_with fail
   go_ret;exact dL (by simp) fQ.o
  go_wp2_with fail
  go_loopw [9] (BkI V u nu w1) (fun i _=>nu - (intOf i).toNat)
  case atStart=>exact⟨0,rfl,Nat.zero_le _,rfl,Ext.refl _⟩
  case round =>
   obtain⟨k,rfl,hk,hv,hx⟩:=hrel;obtain⟨wo,rfl⟩:∃wo:World,wo=wr:=⟨_,rfl⟩
   have HV:=ak hv;have HX:=ak hx;obtain⟨b0,hb0⟩:∃b0,b0=w.heap.size:=⟨_,rfl⟩
   rw[<-hb0] at HB4 nM ⊢;obtain⟨s0,sf⟩:=gQ (hx.blk HB4.o);obtain⟨y0,y1,y2,y3,y4,y5,y6,y7,yf⟩:=vN (hx.blk nM.o);clear hv hx hb0;by_cases hkn:k<nu
   ·have hkl:k<u.length:=by have:=HLEN.o;omega
    have t1:=ah ((k:Int)<(nu:Int));have tk0:(0:Int)<=(k:Int):=by omega
    have tk1:(k:Int)<(nu:Int):=by omega
    obtain⟨b,off,rfl,v,hvn,hrow,Bz,hvu,-,-,hvd⟩:=jJ.at u _ (jJ.mono (fQ.o.trans HX.o).sub u _ HD.o) k hkl;obtain⟨c0,c1,c2,c3,c4,c5,c6,c7⟩:=hrow.eight;have xJ:=ak (fun W (hW:Ext wo W)=>HIH.o k hkl v W ((fQ.o.trans HX.o).trans hW) (Bz.ext hW) hvu (jJ.mono hW.sub _ _ hvd));have HST:=ak (af5 V hkl);obtain⟨Q,hQ⟩:∃Q,Q=(V u[k].cond&&!wG V u[k].jZ):=⟨_,rfl⟩
    rw[<-hQ] at xJ HST;clear hvn hrow Bz hvu hvd hQ HIH;go_upto_region 6 with fail
    refine iP (m:=9) [8] (GrG wo) SX (zu (aTI b0 sa sn sc a n c fa fn fc b off k nu cu v Q)) (by kernel_rfl) (by kernel_rfl) ((Ext.refl wo).drew) ?_ ?_ ?_
    ·intro i k v W W' hi hk hne hout h hE;have hE:Ext W W':=hE;have hi':=ltc9 hi;clear hi hk hne hout;rcases hi' with rfl|rfl|rfl|rfl|rfl|rfl|rfl|rfl|rfl
     ·exact h
     ·exact h
     ·exact h
     ·exact h
     ·exact h
     ·exact h
     ·exact h
     ·exact h
     exact h
    ·intro q op hq ho vs W hW hd ρ hρ;have hq':=ltc9 hq;clear hq;have o4:ρ (.tmp 4)=.pointer (some ⟨b0,0,none⟩):=hρ.out 4 rfl;have o1:ρ (.tmp 1)=.slice a n c:=hρ.out 1 rfl;have o6:ρ (.tmp 6)=.pointer (some ⟨b0+1,0,none⟩):=hρ.out 6 rfl;have i2:=hρ.i 2 26;have o9:ρ (.tmp 9)=.int .i64 k:=hρ.out 9 rfl;have i3:=hρ.i 3 27;have i4:=hρ.i 4 28;have i5:=hρ.i 5 29;have o3:ρ (.tmp 3)=.slice fa fn fc:=hρ.out 3 rfl;have i0:=hρ.i 0 24;have i1:=hρ.i 1 25;have i6:=hρ.i 6 30;have i7:=hρ.i 7 31;have hc:=hρ.const;have hfn:=hρ.func;clear hρ;have HW:=ak (show Ext wo W from hW);rcases hq' with rfl|rfl|rfl|rfl|rfl|rfl|rfl|rfl|rfl
     ·cases ho
      clear hd;have g0:=HW.o.cell s0;unfold dF;go_simp;exact⟨Ext.refl W,rfl⟩
     ·cases ho
      clear hd;unfold dF;go_simp;exact⟨Ext.refl W,rfl⟩
     ·cases ho
      clear hd;unfold dF;go_simp;exact⟨Ext.refl W,rfl⟩
     ·cases ho
      have h2:vs 2=_:=hd ⟨2,.data⟩ (by simp) rfl;rw[h2] at i2;clear hd;have g0:=HW.o.cell y7;unfold dF;go_simp;exact⟨Ext.refl W,rfl⟩
     ·cases ho
      clear hd;unfold dF;go_simp;exact⟨Ext.refl W,rfl⟩
     ·cases ho
      have h3:vs 3=_:=hd ⟨3,.data⟩ (by simp) rfl;rw[h3] at i3;have h4:vs 4=_:=hd ⟨4,.data⟩ (by simp) rfl;rw[h4] at i4;clear hd;unfold dF;go_simp;exact⟨Ext.refl W,rfl⟩
     ·cases ho
      have h5:vs 5=_:=hd ⟨5,.data⟩ (by simp) rfl;rw[h5] at i5;clear hd;have g0:=HW.o.cell c0;have g1:=HW.o.cell c1;have g2:=HW.o.cell c2;have g3:=HW.o.cell c3;have g4:=HW.o.cell c4;have g5:=HW.o.cell c5;have g6:=HW.o.cell c6;have g7:=HW.o.cell c7;unfold dF;go_simp;exact⟨Ext.refl W,rfl⟩
     ·cases ho
      clear hd;unfold dF;go_simp;exact⟨Ext.refl W,rfl⟩
     cases ho
     have h0:vs 0=_:=hd ⟨0,.data⟩ (by simp) rfl;rw[h0] at i0;have h1:vs 1=_:=hd ⟨1,.data⟩ (by simp) rfl;rw[h1] at i1;have h6:vs 6=_:=hd ⟨6,.data⟩ (by simp) rfl;rw[h6] at i6;have h7:vs 7=_:=hd ⟨7,.data⟩ (by simp) rfl;rw[h7] at i7;clear hd;unfold dF;go_simp;refine(xJ.o W HW.o).mono ?_;rintro r w5 ⟨rfl,hx5⟩;exact⟨_,rfl,hx5,HW.o.trans hx5,rfl⟩
    intro vs W hW hR;rw[dw (by decide +kernel)];have h8:vs 8=.bool Q:=hR 8 (by simp) (by omega);simp only[acts,gK,List.range,List.range.loop,bF,dA,h8];go_simp;have hW2:Ext wo W:=hW;clear hR hW h8;cases Q
    ·go_wp2_with fail
     go_roundw
     case rel=>exact⟨k+1,by go_num,by omega,by rw[HV.o,HST.o];rfl,HX.o.trans hW2⟩
     case measure=>simp[intOf];omega
    have HQ:=ak (show wG V u=true by rw[HV.o,HST.o];rfl);go_wp2_with fail
    go_ret;exact dL (by rw[HQ.o];rfl) ((fQ.o.trans HX.o).trans hW2)
   have t1:=aj ((k:Int)<(nu:Int));have HQ:=ak (show wG V u=false by
    rw[HV.o,show k=u.length by have:=HLEN.o;omega,List.drop_length,wG])
   go_wp2_with fail
   go_ret;exact dL (by rw[HQ.o];rfl) (fQ.o.trans HX.o)
def oK (V:Ex->Bool) (x:dY):Bool:=V x.cond&&!wG V x.jZ
theorem EG {w0:World} {sa:OA} {sn sc:Nat} {a:OA} {n c:Nat} {fa:OA} {fn fc:Nat} {V:Ex->Bool} {P:Ex->Prop} (ht:afO w0 sa sn sc a n c fa fn fc V P) (x:dY) (v:jm) (w:World) (hx0:Ext w0 w) (hp:P x.cond) (hok:nN P x.jZ) (hnu:x.jZ.length<=1000000000000000) (hi:kR w x v) :
  Calls Tryz.prog 64 #[.agg #[.slice sa sn sc],.slice a n c,.agg #[.int .i64 v.kind,.string v.name,.int .i64 v.x.op,.string v.x.name,.slice v.x.aw v.x.nw v.x.cw,.int .i64 v.x.lo,.int .i64 v.x.hi,.slice v.x.aa v.x.na v.x.ca,.slice v.au v.nu v.cu,.int .i64 v.amount],.slice fa fn fc] w (dN (.bool (oK V x)) w):=by
 obtain⟨-,-,hex,hlen,-,-,hd,-⟩:=hi;have HB:=ak (fun (W:World) (hW:Ext w W)=>aaf ht (qU x.jZ) x.cond x.jZ ⟨#[]⟩ v.x v.au v.nu v.cu W (bg _) (hx0.trans hW) hp hok (by omega) hlen (hex.ext hW) (jJ.mono hW.sub _ _ hd));obtain⟨R,hR⟩:∃R,R=oK V x:=⟨_,rfl⟩
 rw[<-hR];have hR':(V x.cond&&!wG V x.jZ)=R:=hR.symm;rw[hR'] at HB;clear hR hR' hex hlen hd;obtain⟨wa,dW⟩:∃wa,wa=(w.alloc (.cells #[.slice sa sn sc] 24)).alloc (.cells #[.int .i64 v.kind,.string v.name,.int .i64 v.x.op,.string v.x.name,.slice v.x.aw v.x.nw v.x.cw,.int .i64 v.x.lo,.int .i64 v.x.hi,.slice v.x.aa v.x.na v.x.ca,.slice v.au v.nu v.cu,.int .i64 v.amount] 48):=⟨_,rfl⟩
 have fE:=ak (show Ext w wa by rw[dW];exact((Ext.refl _).alloc _).alloc _);obtain⟨s0,sf⟩:=gQ (show wa.heap[w.heap.size]?=some (.cells #[.slice sa sn sc] 24 (0,0)) by rw[dW];exact dJ (dG w _));obtain⟨y0,y1,y2,y3,y4,y5,y6,y7,y8,y9,yf⟩:=wu (show wa.heap[w.heap.size+1]?=some (.cells #[.int .i64 v.kind,.string v.name,.int .i64 v.x.op,.string v.x.name,.slice v.x.aw v.x.nw v.x.cw,.int .i64 v.x.lo,.int .i64 v.x.hi,.slice v.x.aa v.x.na v.x.ca,.slice v.au v.nu v.cu,.int .i64 v.amount] 48 (0,0)) by rw[dW];exact alloc_at (by simp));go_enter Tryz.func64,Tryz.ntmps64
 go_upto_region 1 with fail
 rw[<-dW];clear dW;go_wp2_with fail
 refine(HB.o wa fE.o).mono ?_;rintro r w1 ⟨rfl,hx1⟩;have fQ:=ak (fE.o.trans hx1);clear hx1;go_wp2_with fail
 go_ret;exact dL rfl fQ.o
end Go.Proofs.YtefjomofjejklaaGreatDoor
