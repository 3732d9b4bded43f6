/-
  Texts of the claim, joined: Conds, SCla, SWord, CCla, Sizes, Reach0.
-/
import Derived.Test.YtefjomofjejklaaGreatDoorDx15
namespace Go.Proofs.YtefjomofjejklaaGreatDoor
set_option maxRecDepth 100000
set_option maxHeartbeats 32000000
open Go.RowKit
def uH:List Wb->List Ex
 | []=>[]
 | .mk _ c u::r=>c::(uH u++uH r)
theorem adS:(l:List Wb)->(uH l).length=qU l
 | []=>by simp[uH,qU]
 | .mk n c u::r=>by simp[uH,qU,adS u,adS r];omega
theorem Wu:(l:List Wb)->(k:Nat)->(hk:k<l.length)->uH (l.take (k+1))=uH (l.take k)++l[k].cond::uH l[k].jZ
 | [],k,hk=>by simp at hk
 | .mk n c u::r,0,_=>by simp[uH,Wb.cond,Wb.jZ]
 | .mk n c u::r,k+1,hk=>by
  have:=Wu r k (by simpa using hk);simp[uH] at this ⊢;rw[this]
def GnX (k:Nat) (W W':World):Prop:=k≠4->k≠7->Ext W W'
def aNN (V:Value) (wr:World) (L:ZN) (_:Nat->Value) (W:World):Prop:=dO (rowOf V) wr W/\(4∉L->7∉L->Ext wr W)
theorem V4 {V:Value} {wr W W':World} {L:ZN} {vs:Nat->Value} {i:Nat} {v:Value} (h:aNN V wr L vs W) (hx:Ext W W'):aNN V wr (L++[i]) (upd vs i v) W' :=
 ⟨h.1.then (hx.fH _),fun h4 h7=>(h.2 (fun hm=>h4 (aQ _ hm)) (fun hm=>h7 (aQ _ hm))).trans hx⟩
theorem aBh {V:Value} {wr W':World} {L:ZN} {vs:Nat->Value} {i:Nat} {v:Value} (hi:i=4\/i=7) (hc:dO (rowOf V) wr W'):aNN V wr (L++[i]) (upd vs i v) W' :=
 ⟨hc,fun h4 h7=>by rcases hi with rfl|rfl;exact absurd (by simp) h4;exact absurd (by simp) h7⟩
theorem yV.app {w:World} {l l':List Ex} {xs xs':List fU} (h:yV w l xs) (h':yV w l' xs'):yV w (l++l') (xs++xs'):=by
 refine⟨by simp[h.1,h'.1],fun i h1 h2=>?_⟩;by_cases hi:i<l.length
 ·have hi2:i<xs.length:=by rw[<-h.1];exact hi
  simp only[bT hi,bT hi2];exact h.2 i hi hi2
 have hi2:xs.length<=i:=by have:=h.1;omega
 simp only[cZ (Nat.le_of_not_lt hi),cZ hi2];have e:=h.1;have:=h'.2 (i - l.length) (by simp at h1;omega) (by simp at h2;omega);simpa[e] using this
def a4s (w0:World) (B:Nat) (l:List Wb) (V:Value) (n:Nat) (zs:List Value) (w:World) (e:Ending) (w':World):Prop:=∃(v:Value) (ys:List fU),e=.returned v/\w'.ownsRow B 45 6 v (n+qU l) (zs++ys.flatMap fU.cells)/\yV w0 (uH l) ys /\
 dO (rowOf V) w w'/\(∀k,v.ownBlock=some k->V.ownBlock=some k\/w.heap.size<=k)
def a4t (w0:World) (B:Nat) (l:List Wb) (V:Value) (n:Nat) (zs:List Value) (w:World) (nl:Nat) (v t:Value) (wr:World):Prop:=∃(k:Nat) (ys:List fU),t=.int .i64 ((k:Nat):Int)/\k<=nl/\wr.ownsRow B 45 6 v (n+qU (l.take k)) (zs++ys.flatMap fU.cells)/\yV w0 (uH (l.take k)) ys /\
 dO (rowOf V) w wr/\(∀k,v.ownBlock=some k->V.ownBlock=some k\/w.heap.size<=k)
def aVE (w0 wx:World) (B:Nat) (va:OA) (vn vc:Nat) (zk:List Value) (rv:J4) (U:List Wb) (y:Nat):Nat->Value->World->Prop
 | 0,u,_=>u=(.slice va vn vc)
 | 1,u,_=>u=.pointer (some ⟨y,1,none⟩)
 | 2,u,_=>u=.agg #[.int .i64 rv.x.op,.string rv.x.name,.slice rv.x.aw rv.x.nw rv.x.cw,.int .i64 rv.x.lo,.int .i64 rv.x.hi,.slice rv.x.aa rv.x.na rv.x.ca]
 | 3,u,W=>∃(g:Nat),u=.slice (some ⟨g,0,none⟩) 1 1/\W.heap[g]?=some (.cells rv.x.cells.toArray 45 (0,0))
 | 4,u,W=>∃(gg:Nat) (cp:Nat),u=.slice (some ⟨gg,0,none⟩) (vn+1) cp/\(W.ownsRow B 45 6 (.slice (some ⟨gg,0,none⟩) (vn+1) cp) (vn+1) (zk++rv.x.cells)/\(Value.ownBlock (.slice va vn vc)=some gg\/wx.heap.size<=gg))
 | 5,u,_=>u=.pointer (some ⟨y,7,none⟩)
 | 6,u,_=>u=.slice rv.au rv.nu rv.cu
 | _,u,W=>∃(v2:Value) (ysn:List fU),u=v2/\(W.ownsRow B 45 6 v2 (vn+1+qU U) (zk++rv.x.cells++ysn.flatMap fU.cells)/\yV w0 (uH U) ysn/\∀q,v2.ownBlock=some q->Value.ownBlock (.slice va vn vc)=some q\/wx.heap.size<=q)
theorem agV {w0:World} (fm:Nat):∀(l:List Wb) (a:OA) (nl c B:Nat) (V:Value) (n:Nat) (zs:List Value) (w:World),qU l<fm->nl=l.length->n+qU l<=10000->jJ w0 l a->Ext w0 w->w0.heap.size<=B->B<=w.heap.size->w.ownsRow B 45 6 V n zs ->
  Calls Tryz.prog 113 #[V,.slice a nl c] w (a4s w0 B l V n zs w):=by
 induction fm with
 | zero=>intro l a nl c B V n zs w h;omega
 | succ fm ih =>
  intro l a nl c B V n zs w hfm hln hnb hdat hx0 hB hBw hown;have HD:=ak hdat;have HN:=ak hln;have HX0:=ak hx0;have aJT:=ak hown;have IH:=ak ih;have HB:=ak hB;have DJ:=ak hBw;have hwl:=wI l;have hnl:nl<=10000:=by omega
  clear hdat hln hx0 ih hown;go_enter Tryz.func113,Tryz.ntmps113
  go_wp2_with fail
  go_loopw [0,9] (a4t w0 B l V n zs w nl) (fun _ t _=>nl - (intOf t).toNat)
  case atStart=>exact⟨0,[],rfl,by omega,by simpa[qU] using aJT.o,by simp[uH,yV.nil],dO.refl _ _,fun k hk=>Or.inl hk⟩
  case round =>
   obtain⟨k,ys,rfl,hk,how,hys,hch,hfr⟩:=hrel;obtain⟨va,vc,hv⟩:=iG how;subst hv;obtain⟨vn,hvn⟩:∃vn,vn=n+qU (l.take k):=⟨_,rfl⟩
   rw[<-hvn] at how hfr ⊢;have Ur:=ak hvn;have hvb:vn<=10000:=by have:=MV l k;omega
   obtain⟨zk,hzk⟩:∃zk,zk=zs++ys.flatMap fU.cells:=⟨_,rfl⟩
   rw[<-hzk] at how;have HZK:=ak hzk;have HOW:=ak how;have HYS:=ak hys;have HCH:=ak hch;have HFR:=ak hfr;have kC:=ak (show Ext w0 wr from hch.ext HX0.o (fun y hy=>by have:=(aJT.o.lt y (dK.1 hy)).1;have:=HB.o;omega));clear hvn hzk how hys hch hfr;by_cases hkn:k<nl
   case neg =>
    have t1:=aj ((k:Int)<(nl:Int));have HT:=ak (show l.take k=l from aY (by have:=HN.o;omega));go_wp2_with fail
    go_ret;refine⟨_,ys,rfl,?_,?_,HCH.o,HFR.o⟩
    ·have h1:=HOW.o;have h2:=Ur.o;rw[HT.o] at h2;rw[<-h2,<-HZK.o];exact h1
    have:=HYS.o
    rwa [HT.o] at this
   have hkl:k<l.length:=by have:=HN.o;omega
   have t1:=ah ((k:Int)<(nl:Int));obtain⟨b,off,rfl,rv,hv0,hrow,hv2,hv3,hv4,hv5,hv6⟩:=jJ.at l _ HD.o k hkl;obtain⟨c0,c1,c2,c3,c4,c5,c6,c7⟩:=(hrow.mono kC.o.sub).eight;have hwn:=Gn l k hkl;have HU:=ak hv6;have HUN:=ak hv3;have HEX:=ak hv2;have Iq:=ak (Me l k hkl);have HCT:=ak (Wu l k hkl);have HTL:=ak (MV l (k+1));have aZS:vn+1+qU l[k].jZ<=10000:=by have h1:=MV l (k+1);have h2:=Me l k hkl;have h3:=Ur.o;omega
   have aUe:qU l[k].jZ<fm:=by omega
   clear hrow hv0 hv2 hv3 hv4 hv5 hv6;obtain⟨y,hy⟩:∃y,y=wr.heap.size:=⟨_,rfl⟩
   obtain⟨wx,hwx⟩:∃wx,wx=wr.alloc (.cells #[.string rv.name,.int .i64 rv.x.op,.string rv.x.name,.slice rv.x.aw rv.x.nw rv.x.cw,.int .i64 rv.x.lo,.int .i64 rv.x.hi,.slice rv.x.aa rv.x.na rv.x.ca,.slice rv.au rv.nu rv.cu] 53):=⟨_,rfl⟩
   have lV:=ak (show wx.heap[y]?=some (.cells #[.string rv.name,.int .i64 rv.x.op,.string rv.x.name,.slice rv.x.aw rv.x.nw rv.x.cw,.int .i64 rv.x.lo,.int .i64 rv.x.hi,.slice rv.x.aa rv.x.na rv.x.ca,.slice rv.au rv.nu rv.cu] 53 (0,0)) by rw[hwx,hy];exact dG wr _);have Dl:=ak (show Ext wr wx by rw[hwx];exact(Ext.refl _).alloc _);have HYN:=ak (show y∉rowOf (.slice va vn vc) from fun h=>by have:=(HOW.o.lt y (dK.1 h)).2;omega);have HOX:=ak (oN HOW.o Dl.o);have HYW:=ak (show wr.heap.size<=y by omega);go_upto_region 4 with fail
   rw[<-hwx,<-hy];clear hwx c0 c1 c2 c3 c4 c5 c6 c7 hy;obtain⟨U,hU⟩:∃U,U=l[k].jZ:=⟨_,rfl⟩
   rw[<-hU] at HU HUN aZS aUe Iq HCT;have NJ:=ak (show B<=wx.heap.size from bC DJ.o (bC HCH.o.size Dl.o.size));clear hU;refine fM (n:=0) (m:=8) [7] (aNN (.slice va vn vc) wx) GnX (zu (aVE w0 wx B va vn vc zk rv U y)) (by kernel_rfl) (by kernel_rfl) (Nat.le_of_ble_eq_true rfl) ?gd ⟨((Ext.refl wx).drew).fH _,fun _ _=>(Ext.refl wx).drew⟩ ?_ ?_ ?_
   case gd =>
    intro i o j b hi ho hg;rcases ltc8 hi with rfl|rfl|rfl|rfl|rfl|rfl|rfl|rfl<;>(cases ho;first|(cases hg;done)|(cases hg;intro v W h;exact h))
   ·intro i k v W W' hi hk hne hout h hE;have hi':=ltc8 hi;clear hi hk;by_cases hk:k=4
    ·subst hk;rcases hi' with rfl|rfl|rfl|rfl|rfl|rfl|rfl|rfl
     ·exact h
     ·exact h
     ·exact h
     ·exact absurd hout (by decide +kernel)
     ·exact absurd rfl hne
     ·exact h
     ·exact h
     exact absurd hout (by decide +kernel)
    by_cases hk:k=7
    ·subst hk;rcases hi' with rfl|rfl|rfl|rfl|rfl|rfl|rfl|rfl
     ·exact h
     ·exact h
     ·exact h
     ·exact absurd hout (by decide +kernel)
     ·exact absurd hout (by decide +kernel)
     ·exact h
     ·exact h
     exact absurd rfl hne
    have hE:Ext W W':=(hE ‹_› ‹_›)
    rcases hi' with rfl|rfl|rfl|rfl|rfl|rfl|rfl|rfl
    ·exact h
    ·exact h
    ·exact h
    ·obtain⟨g,e0,h⟩:=h;exact⟨g,e0,hE.blk h⟩
    ·obtain⟨gg,cp,e0,h⟩:=h;exact⟨gg,cp,e0,⟨oN h.1 hE,h.2⟩⟩
    ·exact h
    ·exact h
    obtain⟨v2,ysn,e0,h⟩:=h;exact⟨v2,ysn,e0,⟨oN h.1 hE,h.2⟩⟩
   ·intro q op hq ho L vs W dR hcL hW hd ρ hρ;have hq':=ltc8 hq;clear hq;have o0:ρ (.tmp 0)=(.slice va vn vc):=hρ.out 0 rfl;have o6:ρ (.tmp 6)=.pointer (some ⟨y,0,none⟩):=hρ.out 6 rfl;have i1:=hρ.i 1 14;have i2:=hρ.i 2 15;have i0:=hρ.i 0 13;have i3:=hρ.i 3 16;have i5:=hρ.i 5 18;have i4:=hρ.i 4 17;have i6:=hρ.i 6 19;have hc:=hρ.const;have hfn:=hρ.func;clear hρ;rcases hq' with rfl|rfl|rfl|rfl|rfl|rfl|rfl|rfl
    ·have HG:=ak hW;have HW:=ak (show dO (rowOf (.slice va vn vc)) wx W from hW.1);have fV:=ak dR;clear hW dR hcL;cases ho
     clear hd;unfold dF;go_simp;exact⟨fun _ _=>Ext.refl W,V4 HG.o (Ext.refl W),rfl⟩
    ·have HG:=ak hW;have HW:=ak (show dO (rowOf (.slice va vn vc)) wx W from hW.1);have fV:=ak dR;clear hW dR hcL;cases ho
     clear hd;unfold dF;go_simp;exact⟨fun _ _=>Ext.refl W,V4 HG.o (Ext.refl W),rfl⟩
    ·have HG:=ak hW;have HW:=ak (show dO (rowOf (.slice va vn vc)) wx W from hW.1);have fV:=ak dR;clear hW dR hcL;cases ho
     have h1:vs 1=_:=hd ⟨1,.data⟩ (by simp) rfl;rw[h1] at i1;clear hd;obtain⟨g0,g1,g2,g3,g4,g5,g6,g7,gf⟩:=vN (HW.o.blk lV.o HYN.o);unfold dF;go_simp;exact⟨fun _ _=>Ext.refl W,V4 HG.o (Ext.refl W),rfl⟩
    ·have HG:=ak hW;have HW:=ak (show dO (rowOf (.slice va vn vc)) wx W from hW.1);have fV:=ak dR;clear hW dR hcL;cases ho
     have h2:vs 2=_:=hd ⟨2,.data⟩ (by simp) rfl;rw[h2] at i2;clear hd;unfold dF;go_simp;exact⟨fun _ _=>(Ext.refl W).alloc _,V4 HG.o ((Ext.refl W).alloc _),W.heap.size,rfl,dG W _⟩
    ·have HN7:=ak (show 7∉L from fun h=>absurd (hcL 7 h) (by decide +kernel));have HG:=ak hW;have HW:=ak (show dO (rowOf (.slice va vn vc)) wx W from hW.1);have fV:=ak dR;clear hW dR hcL;cases ho
     have h0:vs 0=_:=hd ⟨0,.data⟩ (by simp) rfl;rw[h0] at i0;obtain⟨g,h3,hs3⟩:∃(g:Nat),vs 3=.slice (some ⟨g,0,none⟩) 1 1/\W.heap[g]?=some (.cells rv.x.cells.toArray 45 (0,0)):=hd ⟨3,.data⟩ (by simp) rfl;have Ko:=ak hs3;clear hs3;rw[h3] at i3;clear hd;have qC:=ak (HG.o.2 fV.o HN7.o);refine mF JH _ _ B _ vn zk i0 g 1 1 rv.x.cells i3 rfl (by simp[fU.cells,Value.oneCell']) (by omega) (by omega) (by omega) (oN HOX.o qC.o) (fun j hj=>by rw[dM Ko.o];simp[hj]) (by have:=NJ.o;have:=qC.o.size;omega) ?_;intro g6 cap6 w6 Lm EO hl6 FT;exact⟨fun h=>absurd rfl h,aBh (Or.inl rfl) (HW.o.then (iM EO)),g6,cap6,rfl,Lm,by rcases hl6 with h|h;exact Or.inl h;exact Or.inr (by have:=qC.o.size;omega)⟩
    ·have HG:=ak hW;have HW:=ak (show dO (rowOf (.slice va vn vc)) wx W from hW.1);have fV:=ak dR;clear hW dR hcL;cases ho
     clear hd;unfold dF;go_simp;exact⟨fun _ _=>Ext.refl W,V4 HG.o (Ext.refl W),rfl⟩
    ·have HG:=ak hW;have HW:=ak (show dO (rowOf (.slice va vn vc)) wx W from hW.1);have fV:=ak dR;clear hW dR hcL;cases ho
     have h5:vs 5=_:=hd ⟨5,.data⟩ (by simp) rfl;rw[h5] at i5;clear hd;obtain⟨g0,g1,g2,g3,g4,g5,g6,g7,gf⟩:=vN (HW.o.blk lV.o HYN.o);unfold dF;go_simp;exact⟨fun _ _=>Ext.refl W,V4 HG.o (Ext.refl W),rfl⟩
    have HG:=ak hW;have HW:=ak (show dO (rowOf (.slice va vn vc)) wx W from hW.1);have fV:=ak dR;clear hW dR hcL;cases ho
    obtain⟨gg,cp,h4,hs4⟩:∃(gg:Nat) (cp:Nat),vs 4=.slice (some ⟨gg,0,none⟩) (vn+1) cp/\(W.ownsRow B 45 6 (.slice (some ⟨gg,0,none⟩) (vn+1) cp) (vn+1) (zk++rv.x.cells)/\(Value.ownBlock (.slice va vn vc)=some gg\/wx.heap.size<=gg)):=hd ⟨4,.data⟩ (by simp) rfl;have xI:=ak hs4;clear hs4;rw[h4] at i4;have h6:vs 6=_:=hd ⟨6,.data⟩ (by simp) rfl;rw[h6] at i6;clear hd;unfold dF;go_simp;have a1F:Ext w0 W:=HW.o.ext (kC.o.trans Dl.o) (fun q hq=>by have:=(HOX.o.lt q (dK.1 hq)).1;have:=HB.o;omega);refine(IH.o U rv.au rv.nu rv.cu B _ (vn+1) _ W aUe HUN.o (by omega) HU.o a1F HB.o (by have:=NJ.o;have:=HW.o.size;omega) xI.o.1).mono ?_;rintro r w6 ⟨v6,ys6,rfl,k1,k2,k3,k4⟩;have hrow:∀q,some gg=some q->q∈rowOf (.slice va vn vc)\/wx.heap.size<=q:=fun q hq=>by
     obtain rfl:gg=q:=by simpa using hq
     rcases xI.o.2 with h|h
     ·exact Or.inl (dK.2 h)
     exact Or.inr h
    exact⟨_,rfl,fun _ h=>absurd rfl h,aBh (Or.inr rfl) (HW.o.trans k3 (fun q hq=>hrow q (dK.1 hq))),v6,ys6,rfl,k1,k2,fun q hq=>by
     rcases k4 q hq with h|h
     ·exact(hrow q h).imp dK.1 id
     exact Or.inr (by have:=HW.o.size;omega)⟩
   intro L vs W pR hW hR;rw[dh (by decide +kernel)];obtain⟨v2,ysn,h7,hs7⟩:∃(v2:Value) (ysn:List fU),vs 7=v2/\(W.ownsRow B 45 6 v2 (vn+1+qU U) (zk++rv.x.cells++ysn.flatMap fU.cells)/\yV w0 (uH U) ysn/\∀q,v2.ownBlock=some q->Value.ownBlock (.slice va vn vc)=some q\/wx.heap.size<=q):=hR 7 (by simp) (by omega);have YU:=ak hs7;clear hs7;refine lK rfl ?_
   change wpList _ _ _ [⟨some 0,.assign (.tmp 20),_,_,_,none⟩] _ _
   simp only[acts,gK,List.range,List.range.loop,bF,dA,h7];go_simp;have hW2:dO (rowOf (.slice va vn vc)) wx W:=hW.1;clear hR hW pR h7;obtain⟨h1,h2,h3⟩:=YU.o;have GK:=ak h1;have HY8:=ak h2;have HF8:=ak h3;have MR:=ak (show dO (rowOf (.slice va vn vc)) wx W from hW2);clear YU hW2 h1 h2 h3;go_wp2_with fail
   go_roundw
   case rel =>
    refine⟨k+1,ys++rv.x::ysn,by go_num,by omega,?_,?_,?_,?_⟩
    ·have h1:=GK.o;have h2:vn+1+qU U=n+qU (l.take (k+1)):=by have:=Ur.o;have:=Iq.o;omega
     rw[h2,HZK.o] at h1;simpa using h1
    ·rw[HCT.o];refine HYS.o.app ?_;have h1:yV w0 [l[k].cond] [rv.x]:=(yV.nil w0).snoc HEX.o;have:=h1.app HY8.o;simpa using this
    ·refine(HCH.o.then (Dl.o.fH _)).trans MR.o fun y hy=>?_
     rcases HFR.o y (dK.1 hy) with h|h
     ·exact Or.inl (dK.2 h)
     exact Or.inr h
    intro q hq;rcases HF8.o q hq with h|h
    ·exact HFR.o q h
    exact Or.inr (by have h1:=HCH.o.size;have h2:=Dl.o.size;omega)
   case measure=>simp[intOf];omega
def KwQ (k:Int) (w:World) (e:Ending) (w':World):Prop:=∃s:BA,e=.returned (.string s)/\s.toList.isEmpty=!decide (1<=k/\k<=10)/\w=w'
theorem ant (k:Int) (w:World):Calls Tryz.prog 181 #[.int .i64 k] w (KwQ k w):=by
 by_cases h:1<=k/\k<=10
 ·have HD:=ak (show (!decide (1<=k/\k<=10))=false by rw[dB h];rfl);unfold KwQ;rw[HD.o];clear HD;have hk:k=1\/k=2\/k=3\/k=4\/k=5\/k=6\/k=7\/k=8\/k=9\/k=10:=by omega
  clear h;rcases hk with rfl|rfl|rfl|rfl|rfl|rfl|rfl|rfl|rfl|rfl
  all_goals
   go_enter Tryz.func181,Tryz.ntmps181
   go_wp2_with fail
   go_ret;exact⟨_,rfl,by decide +kernel,rfl⟩
 have HD:=ak (show (!decide (1<=k/\k<=10))=true by rw[dD h];rfl);unfold KwQ;rw[HD.o];have e1:(k==1)=false:=by simp;omega
 have e2:(k==2)=false:=by simp;omega
 have e3:(k==3)=false:=by simp;omega
 have e4:(k==4)=false:=by simp;omega
 have e5:(k==5)=false:=by simp;omega
 have e6:(k==6)=false:=by simp;omega
 have e7:(k==7)=false:=by simp;omega
 have e8:(k==8)=false:=by simp;omega
 have e9:(k==9)=false:=by simp;omega
 have e10:(k==10)=false:=by simp;omega
 clear h;go_enter Tryz.func181,Tryz.ntmps181
 go_wp2_with fail
 go_ret;exact⟨_,rfl,by decide +kernel,rfl⟩
theorem ali (k:Int) (w:World):Calls Tryz.prog 182 #[.int .i64 k] w (Gives (.int .i64 (ny k)) w):=by
 obtain⟨E,hE⟩:∃E,E=ny k:=⟨_,rfl⟩
 rw[<-hE];by_cases h:k=5\/k=6\/k=7\/k=10\/k=8
 ·have HE:=ak hE;clear hE;rcases h with rfl|rfl|rfl|rfl|rfl
  all_goals
   go_enter Tryz.func182,Tryz.ntmps182
   go_wp2_with fail
   go_ret;exact yA (by rw[HE.o];rfl)
 have HE:=ak (show E=0 by rw[hE];unfold ny;rw[dh (by omega),dh (by omega)]);have e5:(k==5)=false:=by simp;omega
 have e6:(k==6)=false:=by simp;omega
 have e7:(k==7)=false:=by simp;omega
 have e8:(k==8)=false:=by simp;omega
 have e10:(k==10)=false:=by simp;omega
 clear h hE;go_enter Tryz.func182,Tryz.ntmps182
 go_wp2_with fail
 go_ret;exact yA (by rw[HE.o])
theorem adV:(l:List Wb)->kK l<=qU l
 | []=>by simp[kK]
 | .mk n c u::r=>by
  have h1:=adV u;have h2:=adV r;rw[kK,qU];omega
theorem aB8:(l:List Wb)->kK l<=40->qU l<=40
 | [],_=>by simp[qU]
 | .mk n c u::r,h=>by
  rw[kK] at h;have key:∀l:List Wb,kK l<=40->qU l<=kK l:=by
   intro l;induction l using qU.induct with
   | case1=>intro _;simp[qU]
   | case2 n c u r ih1 ih2 =>
    intro h;rw[kK] at h ⊢;have h1:=ih1 (by omega);have h2:=ih2 (by omega);rw[qU];omega
  have h1:=key u (by omega);have h2:=key r (by omega);rw[qU];omega
theorem aMO (l:List Wb):decide (kK l<=40)=decide (0+qU l<=40):=by
 have h1:=adV l;have h2:=aB8 l;rw[decide_eq_decide];constructor
 ·intro h;have:=h2 h;omega
 intro h;omega
theorem al2 (c:dY):jO c=(decide (1<=c.kind/\c.kind<=10)&&nameB c.name&&iL c.cond&&(decide (c.jZ.length=0)||(c.kind==3))&&(decide (min 1 (ny c.kind)<=c.amount)&&decide (c.amount<=ny c.kind))&&(pW 16 c.jZ&&decide (0+qU c.jZ<=40))):=by
 have hm:0<=ny c.kind:=by unfold ny;split<;>(try split)<;>omega
 have h1:((decide (ny c.kind=0)&&(c.amount==0))||(decide (0<ny c.kind)&&decide (1<=c.amount)&&decide (c.amount<=ny c.kind)))=(decide (min 1 (ny c.kind)<=c.amount)&&decide (c.amount<=ny c.kind)):=by
  generalize ny c.kind=m at *;generalize c.amount=a;rw[bW];simp only[bV,aJ,aN,beq_iff_eq];omega
 unfold jO;rw[h1,aMO];have h2:(decide (1<=c.kind)&&decide (c.kind<=10))=decide (1<=c.kind/\c.kind<=10):=by simp
 rw[h2];generalize (decide (min 1 (ny c.kind)<=c.amount)&&decide (c.amount<=ny c.kind))=A;by_cases hl:c.jZ.length=0
 ·have:c.jZ=[]:=aX hl;rw[this];simp[pW,qU]
 simp only[hl,decide_false,Bool.false_or];cases decide (1<=c.kind/\c.kind<=10)<;>cases nameB c.name<;>cases iL c.cond<;>cases (c.kind==3)<;>cases decide (0+qU c.jZ<=40)<;>cases pW 16 c.jZ<;>cases A<;>rfl
theorem am1 (c:dY) (v:jm) (w:World) (hc:kR w c v) (ho:gG w) (hok:c.fit) :
  Calls Tryz.prog 166 #[.agg #[.int .i64 v.kind,.string v.name,.int .i64 v.x.op,.string v.x.name,.slice v.x.aw v.x.nw v.x.cw,.int .i64 v.x.lo,.int .i64 v.x.hi,.slice v.x.aa v.x.na v.x.ca,.slice v.au v.nu v.cu,.int .i64 v.amount]] w (dN (.bool (jO c)) w):=by
 obtain⟨hk,hnm,hex,hnu,-,-,hwb,ham⟩:=hc;obtain⟨ho1,ho2,ho3,ho4,ho5,Lm⟩:=hok;rw[hk,hnm,ham];have HEX:=ak hex;have HWB:=ak hwb;have HNU:=ak hnu;have HO:=ak ho;have yQ:=ak ho2;have OQ:=ak Lm;have aHs:v.nu<=1000000000000000:=by rw[hnu];exact ho5
 obtain⟨R,hR⟩:∃R,R=jO c:=⟨_,rfl⟩
 rw[<-hR];rw[al2] at hR;have HR:=ak hR;clear hk hnm hex hnu hwb ham ho2 ho3 ho4 ho5 Lm hR ho;obtain⟨kind,name,cond,jZ,amount⟩:=c;simp only at *;obtain⟨vk,vn,x,au,nu,cu,va⟩:=v;simp only at *;obtain⟨wa,dW⟩:∃wa,wa=w.alloc (.cells (aG kind name x au nu cu amount) 48):=⟨_,rfl⟩
 have hxa:Ext w wa:=by rw[dW];exact(Ext.refl _).alloc _
 have hb:wa.heap[w.heap.size]?=some (.cells (aG kind name x au nu cu amount) 48 (0,0)):=by rw[dW];exact dG w _
 have fE:=ak hxa;have HB:=ak hb;obtain⟨b0,b1,b2,b3,b4,b5,b6,b7,b8,b9,bf⟩:=wu hb;have nP:=dH hb;clear hxa hb;go_enter Tryz.func166,Tryz.ntmps166
 go_upto_region 1 with fail
 rw[<-dW];clear dW;go_wp2_with fail
 refine(ant kind wa).mono ?_;rintro r w1 ⟨s,rfl,hs,rfl⟩;cases hkd:decide (1<=kind/\kind<=10)
 ·rw[hkd] at hs HR;have HF:=ak (show R=false by rw[HR.o];rfl);have hs2:s.toList.isEmpty=true:=hs;clear hs hkd;go_wp2_with fail
  go_ret;exact jg (by rw[HF.o]) fE.o
 rw[hkd] at hs HR;have hs2:s.toList.isEmpty=false:=hs;rw[Bool.true_and] at HR;clear hs hkd;go_wp2_with fail
 refine(wQ _ _ ho1).mono ?_;rintro r w1 ⟨rfl,rfl⟩;cases hnb:nameB name
 ·rw[hnb] at HR;have HF:=ak (show R=false by rw[HR.o];rfl);clear hnb;go_wp2_with fail
  go_ret;exact jg (by rw[HF.o]) fE.o
 rw[hnb,Bool.true_and] at HR;clear hnb;go_wp2_with fail
 refine(wF cond _ _ (HEX.o.ext fE.o) (HO.o.ext fE.o) yQ.o).mono ?_;rintro r w2 ⟨rfl,hx2⟩;rw[Eo];have gI:=ak (fE.o.trans hx2);have HB2:=ak (hx2.blk HB.o);clear hx2 b0 b1 b2 b3 b4 b5 b6 b7 b8 b9 bf nP;obtain⟨b0,b1,b2,b3,b4,b5,b6,b7,b8,b9,bf⟩:=wu HB2.o;have nP:=dH HB2.o;cases hxb:iL cond
 ·rw[hxb] at HR;have HF:=ak (show R=false by rw[HR.o];rfl);clear hxb;go_wp2_with fail
  go_ret;exact jg (by rw[HF.o]) gI.o
 rw[hxb,Bool.true_and] at HR;clear hxb;by_cases hbad:kind≠3/\0<nu
 ·obtain⟨h3,h0⟩:=hbad;have t3:(kind != 3)=true:=by simp[h3]
  have t0:=ah ((0:Int)<(nu:Int));have HF:=ak (show R=false by
   have e0:=aj (jZ.length=0) (by have:=HNU.o;omega);have e3:(kind==3)=false:=by simp[h3]
   rw[HR.o,e0,e3];rfl)
  clear h3;go_wp2_with fail
  go_ret;exact jg (by rw[HF.o]) gI.o
 have HR2:=ak (show R=(decide (min 1 (ny kind)<=amount)&&decide (amount<=ny kind)&&(pW 16 jZ&&decide (0+qU jZ<=40))) by
  rw[HR.o];by_cases h0:nu=0
  ·have e0:=ah (jZ.length=0) (by have:=HNU.o;omega);rw[e0];simp
  have e3:(kind==3)=true:=by
   by_cases h3:kind=3
   ·simp[h3]
   exact absurd ⟨h3,by omega⟩ hbad
  rw[e3];simp)
 clear HR;obtain⟨M,hM⟩:∃M,M=ny kind:=⟨_,rfl⟩
 have hM0:0<=M/\M<=1073741824:=by rw[hM];unfold ny;split<;>(try split)<;>omega
 rw[<-hM] at HR2;have HM:=ak hM;clear hM;obtain⟨hM0,hM1⟩:=hM0;by_cases h3:kind=3
 case' pos =>
  have t3:(kind != 3)=false:=by simp[h3]
  clear hbad h3
 case' neg =>
  have t3:(kind != 3)=true:=by simp[h3]
  have hn0:nu=0:=by
   rcases Nat.eq_zero_or_pos nu with h|h
   ·exact h
   exact absurd ⟨h3,h⟩ hbad
  have t0:=aj ((0:Int)<(nu:Int));have t00:=aj (0<nu);clear hbad h3 hn0
 all_goals
  go_wp2_with fail
  refine(ali kind w2).mono ?_;rintro r w3 ⟨rfl,rfl⟩;rw[<-HM.o];clear HM;rcases(show M=0\/1<=M by omega) with h0|h1
  case inl =>
   subst h0;have hmin:min (1:Int) 0=0:=by decide
   by_cases hlo:amount<0
   ·have t4:=ah (amount<0) hlo;have HF:=ak (show R=false by
     have:decide (min 1 0<=amount)=false:=dD (by omega);rw[HR2.o,this];rfl)
    clear hlo;go_wp2_with fail
    go_ret;exact jg (by rw[HF.o]) gI.o
   have t4:=aj (amount<0) hlo;by_cases hhi:0<amount
   ·have t5:=ah (0<amount) hhi;have HF:=ak (show R=false by
     have:decide (amount<=0)=false:=dD (by omega);rw[HR2.o,this];simp)
    clear hlo hhi;go_wp2_with fail
    go_ret;exact jg (by rw[HF.o]) gI.o
   have t5:=aj (0<amount) hhi;have HR3:=ak (show R=(pW 16 jZ&&decide (0+qU jZ<=40)) by
    have e1:=ah (min 1 0<=amount);have e2:=ah (amount<=0);rw[HR2.o,e1,e2];rfl)
   clear hlo hhi HR2;go_wp2_with fail
   have HWF:=ak (Ve HO.o (qU jZ+1) jZ au _ cu 1 0 w2.heap.size (w2.alloc (.cells #[.int .i64 0] 3)) (by omega) aHs OQ.o (by omega) (by omega) (by omega) HNU.o
    (jJ.mono (fun p v hp=>by
     have hlt:p.block<w2.heap.size:=block_lt (gI.o.cell hp);rw[iH,dh (by simp;omega)];exact((Ext.refl w2).alloc _).cell (gI.o.cell hp)) _ _ HWB.o) (gI.o.alloc _) gI.o.size (dG w2 _))
   refine HWF.o.mono ?_;rintro r w4 ⟨m4,rfl,-,-,-,hch⟩;have lN:=ak (hch.ext (gI.o.alloc _) (by have:=gI.o.size;simpa using this));clear hch;go_wp2_with fail
   go_ret;exact jg (by rw[HR3.o,Nat.zero_add]) lN.o
  have t6:=ah (1<=M) h1;have hmin:min (1:Int) M=1:=by omega
  by_cases hlo:amount<1
  ·have t4:=ah (amount<1) hlo;have HF:=ak (show R=false by
    have:decide (min 1 M<=amount)=false:=dD (by omega);rw[HR2.o,this];rfl)
   clear hlo;go_wp2_with fail
   go_ret;exact jg (by rw[HF.o]) gI.o
  have t4:=aj (amount<1) hlo;by_cases hhi:M<amount
  ·have t5:=ah (M<amount) hhi;have HF:=ak (show R=false by
    have:decide (amount<=M)=false:=dD (by omega);rw[HR2.o,this];simp)
   clear hlo hhi;go_wp2_with fail
   go_ret;exact jg (by rw[HF.o]) gI.o
  have t5:=aj (M<amount) hhi;have HR3:=ak (show R=(pW 16 jZ&&decide (0+qU jZ<=40)) by
   have e1:=ah (min 1 M<=amount);have e2:=ah (amount<=M);rw[HR2.o,e1,e2];rfl)
  clear hlo hhi HR2;go_wp2_with fail
  have HWF:=ak (Ve HO.o (qU jZ+1) jZ au _ cu 1 0 w2.heap.size (w2.alloc (.cells #[.int .i64 0] 3)) (by omega) aHs OQ.o (by omega) (by omega) (by omega) HNU.o
   (jJ.mono (fun p v hp=>by
    have hlt:p.block<w2.heap.size:=block_lt (gI.o.cell hp);rw[iH,dh (by simp;omega)];exact((Ext.refl w2).alloc _).cell (gI.o.cell hp)) _ _ HWB.o) (gI.o.alloc _) gI.o.size (dG w2 _))
  refine HWF.o.mono ?_;rintro r w4 ⟨m4,rfl,-,-,-,hch⟩;have lN:=ak (hch.ext (gI.o.alloc _) (by have:=gI.o.size;simpa using this));clear hch;go_wp2_with fail
  go_ret;exact jg (by rw[HR3.o,Nat.zero_add]) lN.o
def Wy (l:List dY):Bool:=decide (l.length<=40)&&l.all jO
theorem ajU (l:List dY) (a:OA) (n c:Nat) (w:World) (hl:eX w l a n c) (ho:gG w) (hok:∀x∈l,x.fit) (hn:n<=1000000000000000) :
  Calls Tryz.prog 136 #[.slice a n c] w (dN (.bool (Wy l)) w):=by
 have HL:=ak hl;have HN:=ak hl.len;have HO:=ak ho;have Ej:=ak hok;obtain⟨R,hR⟩:∃R,R=Wy l:=⟨_,rfl⟩
 rw[<-hR];have HR:=ak (show R=(decide (l.length<=40)&&l.all jO) from hR);clear hl ho hok hR;by_cases h40:40<n
 ·have t0:=ah ((40:Int)<(n:Int));have HF:=ak (show R=false by rw[HR.o,dD (by have:=HN.o;omega)];rfl);go_enter Tryz.func136,Tryz.ntmps136
  go_wp2_with fail
  go_ret;exact jg (by rw[HF.o]) (Ext.refl _)
 have t0:=aj ((40:Int)<(n:Int));have HR2:=ak (show R=l.all jO by rw[HR.o,dB (by have:=HN.o;omega)];rfl);clear HR;go_enter Tryz.func136,Tryz.ntmps136
 go_wp2_with fail
 go_loopw [10] (fun t wr=>∃k:Nat,t=.int .i64 k/\k<=n/\(∀j (h:j<l.length),j<k->jO l[j]=true)/\Ext w wr) (fun t _=>n - (intOf t).toNat)
 case atStart=>exact⟨0,rfl,by omega,fun j _ h=>by omega,Ext.refl _⟩
 case round =>
  obtain⟨k,rfl,hk,hall,hxr⟩:=hrel;have qE:=ak hall;have kC:=ak hxr;clear hall hxr;by_cases hkn:k<n
  ·have hkl:k<l.length:=by have:=HN.o;omega
   have t1:=ah ((k:Int)<(n:Int));obtain⟨b,off,v,rfl,jr,hrow⟩:=(HL.o.ext kC.o).at hkl;obtain⟨c0,c1,c2,c3,c4,c5,c6,c7,c8,c9⟩:=hrow.ten;have HC:=ak (fun (W:World) (hW:Ext wr W)=>am1 l[k] v W (jr.mono hW.sub) (HO.o.ext (kC.o.trans hW)) (Ej.o _ (aI hkl)));clear jr hrow;cases hcb:jO l[k]
   ·have yT:=ak hcb;have HF:=ak (show R=false by
     rw[HR2.o,List.all_eq_false];exact⟨l[k],aI hkl,by rw[hcb];simp⟩)
    clear hcb;go_wp2_with fail
    refine(HC.o _ ((Ext.refl wr).alloc _)).mono ?_;rintro r w3 ⟨rfl,hx3⟩;rw[yT.o];have gU:=ak ((kC.o.alloc _).trans hx3);clear hx3 c0 c1 c2 c3 c4 c5 c6 c7 c8 c9;go_wp2_with fail
    go_ret;exact jg (by rw[HF.o]) gU.o
   have yT:=ak hcb;clear hcb;go_wp2_with fail
   refine(HC.o _ ((Ext.refl wr).alloc _)).mono ?_;rintro r w3 ⟨rfl,hx3⟩;rw[yT.o];have gU:=ak ((kC.o.alloc _).trans hx3);clear hx3 c0 c1 c2 c3 c4 c5 c6 c7 c8 c9;go_wp2_with fail
   go_roundw
   case rel =>
    refine⟨k+1,by go_num,by omega,fun j hj hjk=>?_,gU.o⟩;by_cases e:j=k
    ·subst e;exact yT.o
    exact qE.o j hj (by omega)
   case measure=>simp[intOf];omega
  have t1:=aj ((k:Int)<(n:Int));have HF:=ak (show R=true by
   rw[HR2.o,aV];intro x hx;obtain⟨j,hj,rfl⟩:=bD.1 hx;exact qE.o j hj (by have:=HN.o;omega))
  go_wp2_with fail
  go_ret;exact jg (by rw[HF.o]) kC.o
theorem am6 (l:List dY) (a:OA) (n c:Nat) (w:World) (hl:eX w l a n c) (ho:gG w) (hok:∀x∈l,x.fit) (hn:n<=1000000000000000) :
  Calls Tryz.prog 106 #[.agg #[.slice a n c,.slice none 0 0]] w (dN (.bool (Wy l)) w):=by
 obtain⟨wa,dW⟩:∃wa,wa=w.alloc (.cells #[.slice a n c,.slice none 0 0] 166):=⟨_,rfl⟩
 have hxa:Ext w wa:=by rw[dW];exact(Ext.refl _).alloc _
 have hb:wa.heap[w.heap.size]?=some (.cells #[.slice a n c,.slice none 0 0] 166 (0,0)):=by rw[dW];exact dG w _
 obtain⟨b0,b1,bf⟩:=zT hb;have nP:=dH hb;have fE:=ak hxa;have HB:=ak hb;have HC:=ak (ajU l a n c wa (hl.ext hxa) (ho.ext hxa) hok hn);obtain⟨R,hR⟩:∃R,R=Wy l:=⟨_,rfl⟩
 rw[<-hR] at HC ⊢;clear hl ho hok hR hxa hb;go_enter Tryz.func106,Tryz.ntmps106
 go_upto_region 1 with fail
 rw[<-dW];clear dW;go_wp2_with fail
 refine HC.o.mono ?_;rintro r w3 ⟨rfl,hx3⟩;have gU:=ak (fE.o.trans hx3);have HB3:=ak (hx3.blk HB.o);clear hx3 b0 b1 bf nP;obtain⟨b0,b1,bf⟩:=zT HB3.o;have nP:=dH HB3.o;cases R
 ·go_wp2_with fail
  go_ret;exact jg rfl gU.o
 go_wp2_with fail
 go_loop [18] (fun t=>t=.int .i64 0) (fun _=>0)
 case atStart=>exact rfl
 case round =>
  subst hrel;go_wp2_with fail
  go_ret;exact jg rfl gU.o
theorem apc {w:World} {g:Nat} {v:jm} {x:dY} {t:TypeId} (h:w.heap[g]?=some (.cells v.cells.toArray t (0,0))) (hx:kR w x v):eX w [x] (some ⟨g,0,none⟩) 1 1:=by
 refine⟨[v],⟨rfl,bg _,Or.inr ⟨g,0,rfl⟩,fun i hi=>⟨g,0,rfl,fun j hj=>?_⟩⟩,rfl,fun i h1 h2=>?_⟩
 ·obtain rfl:i=0:=by simp at hi;omega
  rw[dM h];simp only[bP,Nat.zero_mul,Nat.zero_add,Nat.add_zero] at hj ⊢;simp[hj]
 obtain rfl:i=0:=by simp at h1;omega
 exact hx
theorem asv (c:dY):Wy [c]=jO c:=by simp[Wy]
open Go.RowKit Go.Maps
def oJ (c:dY):List Ex:=c.cond::uH c.jZ
theorem adT (c:dY):(oJ c).length=1+qU c.jZ:=by simp[oJ,adS];omega
theorem Jj (w:World):Sub w (mask w []):=fun p v hp=>by rw[iH,dh (by simp)];exact hp
theorem aoQ (w:World) (arr:Array Value) (e:TypeId) {size n base:Nat} (hs:arr.size=n*size) (hn:n<=maxLen) (hb:base<=w.heap.size):(w.alloc (.cells arr e)).ownsRow base e size (.slice (some ⟨w.heap.size,0,none⟩) n n) n arr.toList :=
 ⟨by simpa using hs,Or.inr ⟨w.heap.size,n,arr,rfl,hb,dG w _,bg _,hn,hs,by rw[aY (by simp;omega)]⟩⟩
def aY6 (c:dY) (w:World) (e:Ending) (w':World):Prop:=∃a n k,e=.returned (.slice a n k)/\n=(oJ c).length/\n<=k/\iK w' (oJ c) a/\Ext w w'
theorem Wx (c:dY) (v:jm) (w:World) (hc:kR w c v) (hn:qU c.jZ<=9000) :
  Calls Tryz.prog 82 #[.agg #[.int .i64 v.kind,.string v.name,.int .i64 v.x.op,.string v.x.name,.slice v.x.aw v.x.nw v.x.cw,.int .i64 v.x.lo,.int .i64 v.x.hi,.slice v.x.aa v.x.na v.x.ca,.slice v.au v.nu v.cu,.int .i64 v.amount]] w (aY6 c w):=by
 obtain⟨-,-,hex,hnu,-,-,hwb,-⟩:=hc;have HEX:=ak hex;have HWB:=ak hwb;have HNU:=ak hnu;obtain⟨wa,dW⟩:∃wa,wa=w.alloc (.cells (aF v) 48):=⟨_,rfl⟩
 have hxa:Ext w wa:=by rw[dW];exact(Ext.refl _).alloc _
 have hb:wa.heap[w.heap.size]?=some (.cells (aF v) 48 (0,0)):=by rw[dW];exact dG w _
 have fE:=ak hxa;obtain⟨b0,b1,b2,b3,b4,b5,b6,b7,b8,b9,bf⟩:=wu hb;have nP:=dH hb;clear hxa hb hex hwb hnu;go_enter Tryz.func82,Tryz.ntmps82
 go_upto_region 1 with fail
 rw[<-dW];clear dW;obtain⟨wx,hwx⟩:∃wx,wx=wa.alloc (.cells (aB v.x) 45):=⟨_,rfl⟩
 have Dl:=ak (show Ext wa wx by rw[hwx];exact(Ext.refl _).alloc _);have HOW:=ak (show wx.ownsRow wa.heap.size 45 6 (.slice (some ⟨wa.heap.size,0,none⟩) 1 1) 1 v.x.cells by rw[hwx];exact aoQ wa #[.int .i64 v.x.op,.string v.x.name,.slice v.x.aw v.x.nw v.x.cw,.int .i64 v.x.lo,.int .i64 v.x.hi,.slice v.x.aa v.x.na v.x.ca] 45 (by simp) (by unfold maxLen;omega) (bg _));have HEC:=ak (agV (qU c.jZ+1) c.jZ v.au v.nu v.cu wa.heap.size (.slice (some ⟨wa.heap.size,0,none⟩) 1 1) 1 v.x.cells wx (by omega) HNU.o (by omega) HWB.o (fE.o.trans Dl.o) fE.o.size Dl.o.size HOW.o);go_wp2_with fail
 rw[<-hwx];clear hwx;refine HEC.o.mono ?_;rintro r w3 ⟨v3,ys,rfl,hown,hys,hch,hfr⟩;have Ad:=ak hown;have HY3:=ak hys;have gU:=ak (show Ext w w3 from hch.ext (fE.o.trans Dl.o) (fun y hy=>by have h1:=(HOW.o.lt y (dK.1 hy)).1;have:=fE.o.size;omega));clear hown hys hch hfr b0 b1 b2 b3 b4 b5 b6 b7 b8 b9 bf nP HEC;obtain⟨a3,c3,hv3⟩:=iG Ad.o;subst hv3;go_wp2_with fail
 go_ret;have hl:(oJ c).length=1+qU c.jZ:=adT c;have hR:yV w (oJ c) (v.x::ys):=by
  have h1:yV w [c.cond] [v.x]:=(yV.nil w).snoc HEX.o;simpa[oJ] using h1.app HY3.o
 obtain⟨a',c',e',h1,h2,h3⟩:=Rk (M:=[]) (l:=oJ c) (xs:=v.x::ys) (by rw[hl];simpa using Ad.o) (by simp) (hR.mono (gU.o.sub.trans (Jj _)));rw[hl] at e';simp only[Value.slice.injEq,true_and] at e';obtain⟨rfl,rfl⟩:=e';exact⟨_,_,_,rfl,hl.symm,by rw[<-hl];exact h1,iK.mono (dU _ _) _ _ h3,gU.o⟩
theorem acM (s:List Attr) (l:List dY):(a b:List Ex)->gW s l (a++b)=if gW s l a≠0 then gW s l a else gW s l b
 | [],b=>by simp[gW]
 | e::r,b=>by
  have ih:=acM s l r b;simp only[List.cons_append];rw[gW,gW,ih];by_cases h:fB s l e≠0
  ·rw[dw h,dw h,dw h]
  rw[dh h,dh h]
theorem RF (s:List Attr) (l:List dY):(u:List Wb)->iW s l u=gW s l (uH u)
 | []=>by rw[iW,uH,gW]
 | .mk n c u::r=>by
  rw[iW,uH,gW,acM,RF s l u,RF s l r]
theorem LW (l:List dY):(u:List Wb)->iC l u=(uH u).any fun x=>decide (2000<expanded l x)
 | []=>by rw[iC,uH];rfl
 | .mk n c u::r=>by
  rw[iC,uH,LW l u,LW l r];simp[List.any_append,Bool.or_assoc]
theorem adY:(d:Nat)->(u:List Wb)->pW d u=true->∀x∈uH u,iL x=true
 | _,[],_,x,hx=>by simp[uH] at hx
 | d,.mk n c u::r,h,x,hx=>by
  rw[pW] at h;simp only[aJ] at h;rw[uH] at hx;rcases bK.1 hx with rfl|hx
  ·exact h.1.1.2
  rcases aT.1 hx with hx|hx
  ·exact adY _ u h.1.2 x hx
  exact adY _ r h.2 x hx
theorem EW {c:dY} (h:jO c=true):(∀x∈oJ c,iL x=true)/\qU c.jZ<=40:=by
 have h0:=Px h;rw[al2] at h;simp only[aJ,aN] at h;refine⟨fun x hx=>?_,by have:=h.2.2;omega⟩;rcases bK.1 hx with rfl|hx
 ·exact h0
 exact adY _ _ h.2.1 x hx
theorem ag2:(u:List Wb)->su u->∀x∈uH u,x.fits/\x.few
 | [],_,x,hx=>by simp[uH] at hx
 | .mk n c u::r,h,x,hx=>by
  rw[su] at h;rw[uH] at hx;rcases bK.1 hx with rfl|hx
  ·exact⟨h.2.1,h.2.2.1⟩
  rcases aT.1 hx with hx|hx
  ·exact ag2 u h.2.2.2.2.2.1 x hx
  exact ag2 r h.2.2.2.2.2.2 x hx
theorem alX {c:dY} (h:c.fit):∀x∈oJ c,x.fits/\x.few:=fun x hx=>by
 rcases bK.1 hx with rfl|hx
 ·exact⟨h.2.1,h.2.2.1⟩
 exact ag2 _ h.2.2.2.2.2 x hx
def awL (s:List Attr) (l:List dY) (bef:List dY) (c:dY):Int :=
 if jO c=false then 5 else if (findAt bef c.name).isSome then 8 else if (iE s c.name).isSome then 8 else gW s l (oJ c)
theorem awK (s:List Attr) (l:List dY) {i:Nat} (hi:i<l.length):awL s l (l.take i) l[i]=lU s l i:=by
 unfold awL lU;rw[iZ hi];have hf:(findAt (l.take i) l[i].name).isSome=decide ((findAt l l[i].name).getD 0<i):=by
  unfold findAt;cases h:l.findIdx? (fun c=>decide (c.name=l[i].name)) with
  | none =>
   rw[bJ] at h;have:=h l[i] (aI hi);simp at this
  | some f =>
   rw[aP] at h;obtain⟨hf,h1,h2⟩:=h;by_cases hfi:f<i
   ·have:(l.take i).findIdx? (fun c=>decide (c.name=l[i].name))=some f:=by
     rw[aP];exact⟨by simp;omega,by simpa using h1,fun j hj=>by simpa using h2 j hj⟩
    rw[this];simp[hfi]
   have:(l.take i).findIdx? (fun c=>decide (c.name=l[i].name))=none:=by
    rw[bJ];intro x hx;obtain⟨j,hj,rfl⟩:=bD.1 hx;have:=h2 j (by simp at hj;omega);simpa using this
   rw[this];simp[hfi]
 rw[hf,RF];have hc:gW s l (oJ l[i])=if fB s l l[i].cond≠0 then fB s l l[i].cond else gW s l (uH l[i].jZ):=by rw[oJ,gW]
 rw[hc];simp only[aN]
theorem anQ (s:List Attr) (hse:fD s=0) (l bef:List dY) (hf:∀x∈s,x.fits) (hsl:s.length<=1000000000000000) (bm nm:Nat) (ba:OA) (bn bc:Nat) (c:dY) (v:jm) (sv:Value) (w:World) (hok:c.fit) (ho:gG w) (hs:fJ w s sv) (hd:Cm w l bm nm) (hb:eX w bef ba bn bc) (hbn:bn<=1000000000000000) (hc:kR w c v) :
  Calls Tryz.prog 79 #[sv,.map (some bm),.slice ba bn bc,.agg #[.int .i64 v.kind,.string v.name,.int .i64 v.x.op,.string v.x.name,.slice v.x.aw v.x.nw v.x.cw,.int .i64 v.x.lo,.int .i64 v.x.hi,.slice v.x.aa v.x.na v.x.ca,.slice v.au v.nu v.cu,.int .i64 v.amount]] w (dN (.int .i64 (awL s l bef c)) w):=by
 obtain⟨sa,sn,sc,rfl,hsn⟩:=hs.slice;have HS:=ak hs;have HD:=ak hd;have HC:=ak hc;have Ej:=ak hok;have HVA:=ak (fun (W:World) (hW:Ext w W) (g:Nat) (hg:W.heap[g]?=some (.cells v.cells.toArray 48 (0,0)))=>am6 [c] (some ⟨g,0,none⟩) 1 1 W (apc hg (hc.mono hW.sub)) (ho.ext hW) (by simpa using hok) (by omega));have HFI:=ak (fun (W:World) (hW:Ext w W)=>auf bef ba bn bc v.name W (hb.ext hW) hbn);have yD:=ak (fun (W:World) (hW:Ext w W)=>OX s (.agg #[.slice sa sn sc]) v.name W (hs.ext hW) hsl);have NR:=ak (fun (e:Ex) (ev:Value) (W:World) (hW:Ext w W) (h1:e.few) (h2:e.fits) (he:fC W e ev)=>Uk s hse l hf hsl bm nm e ev (.agg #[.slice sa sn sc]) W h1 h2 (ho.ext hW) (hs.ext hW) (hd.ext hW) he);rw[asv] at HVA;have hnm:v.name=c.name:=hc.2.1;obtain⟨R,hR⟩:∃R,R=awL s l bef c:=⟨_,rfl⟩
 rw[<-hR];have HR:=ak (show R=if jO c=false then 5 else if (findAt bef v.name).isSome then 8 else if (iE s v.name).isSome then 8 else gW s l (oJ c) by rw[hnm];exact hR);clear hnm;obtain⟨wa,dW⟩:∃wa,wa=(w.alloc (.cells #[.slice sa sn sc] 24)).alloc (.cells (aF v) 48):=⟨_,rfl⟩
 have hxa:Ext w wa:=by rw[dW];exact((Ext.refl _).alloc _).alloc _
 have hb0:wa.heap[w.heap.size]?=some (.cells #[.slice sa sn sc] 24 (0,0)):=by rw[dW];exact dJ (dG w _)
 have hb1:wa.heap[w.heap.size+1]?=some (.cells (aF v) 48 (0,0)):=by rw[dW];exact eH (by simp)
 have fE:=ak hxa;have HB0:=ak hb0;have HB1:=ak hb1;obtain⟨b0,b1,b2,b3,b4,b5,b6,b7,b8,b9,bf⟩:=wu hb1;have hlt1:=dH hb1;clear hs hd hc hok hb ho hR hsn hxa hb0 hb1 hf;go_enter Tryz.func79,Tryz.ntmps79
 go_upto_region 1 with fail
 rw[<-dW];clear dW;obtain⟨wx,hwx⟩:∃wx,wx=wa.alloc (.cells (aF v) 48):=⟨_,rfl⟩
 have hxx:Ext wa wx:=by rw[hwx];exact(Ext.refl _).alloc _
 have lV:=ak (show wx.heap[wa.heap.size]?=some (.cells v.cells.toArray 48 (0,0)) by rw[hwx];exact dG wa _);have Dl:=ak (fE.o.trans hxx);have HB0:=ak (hxx.blk HB0.o);have HB1:=ak (hxx.blk HB1.o);clear hxx;go_wp2_with fail
 rw[<-hwx];clear hwx;refine(HVA.o wx Dl.o wa.heap.size lV.o).mono ?_;rintro r w3 ⟨rfl,hx3⟩;have gU:=ak (Dl.o.trans hx3);have Bl:=ak (hx3.blk HB0.o);have rX:=ak (hx3.blk HB1.o);clear hx3 b0 b1 b2 b3 b4 b5 b6 b7 b8 b9 bf hlt1 HVA;obtain⟨CB,hCB⟩:∃CB,CB=jO c:=⟨_,rfl⟩
 rw[<-hCB] at HR ⊢;have yT:=ak hCB;clear hCB;cases CB
 ·have HQ:=ak (show R=5 by rw[HR.o];rfl);go_wp2_with fail
  go_ret;exact dP (by rw[HQ.o]) gU.o
 have HR2:=ak (show R=if (findAt bef v.name).isSome then 8 else if (iE s v.name).isSome then 8 else gW s l (oJ c) by rw[HR.o];rfl);clear HR;obtain⟨b0,b1,b2,b3,b4,b5,b6,b7,b8,b9,bf⟩:=wu rX.o;have hlt1:=dH rX.o;obtain⟨q,hq⟩:∃q,q=(findAt bef v.name).getD 0:=⟨_,rfl⟩
 obtain⟨fb,hfb⟩:∃fb,fb=(findAt bef v.name).isSome:=⟨_,rfl⟩
 have HFV:=ak (show yw (findAt bef v.name)=.tuple #[.int .i64 (q:Nat),.bool fb] by rw[hq,hfb];rfl);rw[<-hfb] at HR2;clear hq hfb;go_wp2_with fail
 refine(HFI.o w3 gU.o).mono ?_;rw[HFV.o];rintro r w4 ⟨rfl,hx4⟩;have lN:=ak (gU.o.trans hx4);have aFe:=ak (hx4.blk Bl.o);have Mc:=ak (hx4.blk rX.o);clear hx4 b0 b1 b2 b3 b4 b5 b6 b7 b8 b9 bf hlt1 HFI HFV;cases fb
 case true =>
  have HQ:=ak (show R=8 by rw[HR2.o];rfl);go_wp2_with fail
  go_ret;exact dP (by rw[HQ.o]) lN.o
 have HR3:=ak (show R=if (iE s v.name).isSome then 8 else gW s l (oJ c) by rw[HR2.o];rfl);clear HR2;obtain⟨a0,af⟩:=gQ aFe.o;obtain⟨b0,b1,b2,b3,b4,b5,b6,b7,b8,b9,bf⟩:=wu Mc.o;have hlt1:=dH Mc.o;obtain⟨q,hq⟩:∃q,q=(iE s v.name).getD 0:=⟨_,rfl⟩
 obtain⟨fb,hfb⟩:∃fb,fb=(iE s v.name).isSome:=⟨_,rfl⟩
 have HFV:=ak (show yw (iE s v.name)=.tuple #[.int .i64 (q:Nat),.bool fb] by rw[hq,hfb];rfl);rw[<-hfb] at HR3;clear hq hfb;go_wp2_with fail
 refine(yD.o w4 lN.o).mono ?_;rw[HFV.o];rintro r w5 ⟨rfl,hx5⟩;have jY:=ak (lN.o.trans hx5);have aSW:=ak (hx5.blk aFe.o);have Ir:=ak (hx5.blk Mc.o);clear hx5 a0 af b0 b1 b2 b3 b4 b5 b6 b7 b8 b9 bf hlt1 yD HFV;cases fb
 case true =>
  have HQ:=ak (show R=8 by rw[HR3.o];rfl);go_wp2_with fail
  go_ret;exact dP (by rw[HQ.o]) jY.o
 have HR4:=ak (show R=gW s l (oJ c) by rw[HR3.o];rfl);clear HR3;obtain⟨b0,b1,b2,b3,b4,b5,b6,b7,b8,b9,bf⟩:=wu Ir.o;have hlt1:=dH Ir.o;have hwb:=(EW yT.o.symm).2;have HRF:=ak (EW yT.o.symm).1;have HFT:=ak (alX Ej.o);have NW:=ak (Wx c v w5 (HC.o.mono jY.o.sub) (by omega));go_wp2_with fail
 refine NW.o.mono ?_;rintro r w6 ⟨ea,en,ek,rfl,hen,a0o,hed,hx6⟩;have oL:=ak (jY.o.trans hx6);have aKs:=ak (hx6.blk aSW.o);have HED:=ak hed;have SA:=ak hen;have aHz:en<=41:=by have:=adT c;omega
 clear hx6 hed hen b0 b1 b2 b3 b4 b5 b6 b7 b8 b9 bf hlt1 NW;go_wp2_with fail
 go_loopw [40] (fun t wr=>∃k:Nat,t=.int .i64 k/\k<=en/\(∀j (h:j<(oJ c).length),j<k->fB s l (oJ c)[j]=0)/\wr.heap[w.heap.size]?=some (.cells #[.slice sa sn sc] 24 (0,0))/\Ext w6 wr) (fun t _=>en - (intOf t).toNat)
 case atStart=>exact⟨0,rfl,by omega,fun j _ h=>by omega,aKs.o,Ext.refl _⟩
 case round =>
  obtain⟨k,rfl,hk,hall,hbx,hxr⟩:=hrel;have qE:=ak hall;have NJ:=ak hbx;have kC:=ak hxr;obtain⟨a0,af⟩:=gQ hbx;have hlt0:=dH hbx;clear hall hbx hxr;by_cases hkn:k<en
  ·have hkl:k<(oJ c).length:=by have:=SA.o;omega
   have t1:=ah ((k:Int)<(en:Int));obtain⟨b,off,rfl,rJ,rF,rH,rM,rG,ca1,h0,h1,h2,h3,h4,h5,h6⟩:=iK.at (oJ c) _ (iK.ext kC.o (oJ c) _ HED.o) k hkl;have hmem:=aI hkl;have Us:=ak (fun (W:World) (hW:Ext wr W)=>NR.o (oJ c)[k] _ W ((oL.o.trans kC.o).trans hW) (HFT.o _ hmem).2 (HFT.o _ hmem).1 (h6.ext hW));have HEE:=ak (show ET s l (oJ c)[k]=fB s l (oJ c)[k] by unfold ET;rw[HRF.o _ hmem];simp);have hblt:=block_lt h0;simp only at hblt;unfold exV at Us;clear h6 hmem;rw[HEE.o] at Us;obtain⟨E1,hE1⟩:∃E1,E1=fB s l (oJ c)[k]:=⟨_,rfl⟩
   rw[<-hE1] at Us;have yS:=ak hE1;clear hE1;go_wp2_with fail
   refine(Us.o _ ((Ext.refl wr).alloc _)).mono ?_;rintro r w7 ⟨rfl,hx7⟩;have xH:=ak ((kC.o.alloc _).trans hx7);have NK:=ak (hx7.blk (dJ NJ.o));clear hx7 h0 h1 h2 h3 h4 h5 a0 af hlt0 Us;by_cases hz1:E1=0
   ·have tz1:(E1 != 0)=false:=by simp[hz1]
    have HZ1:=ak (yS.o.symm.trans hz1);clear hz1;go_wp2_with fail
    go_roundw
    case rel =>
     refine⟨k+1,by go_num,by omega,fun j hj hjk=>?_,NK.o,xH.o⟩;by_cases e0:j=k
     ·subst e0;exact HZ1.o
     exact qE.o j hj (by omega)
    case measure=>simp[intOf];omega
   have tz1:(E1 != 0)=true:=by simp[hz1]
   have HQ:=ak (show R=E1 by rw[HR4.o,MI (oJ c) k hkl (by rw[<-yS.o];exact hz1) (fun j hj=>qE.o j (by omega) hj),yS.o]);clear hz1;go_wp2_with fail
   go_ret;exact dP (by rw[HQ.o]) (oL.o.trans xH.o)
  have t1:=aj ((k:Int)<(en:Int));have HQ:=ak (show R=0 by rw[HR4.o,yG (oJ c) fun j hj=>qE.o j hj (by have:=SA.o;omega)]);go_wp2_with fail
  go_ret;exact dP (by rw[HQ.o]) (oL.o.trans kC.o)
theorem agd (l:List dY):(o:ZN)->∀s n,uY l o s=some n->n<=2001:=by
 intro o;generalize hm:o.length=m;induction m generalizing o with
 | zero=>intro s n h;rw[aX hm] at h;simp[uY] at h
 | succ m ih =>
  intro s n h;have hne:o≠[]:=by intro e;rw[e] at hm;cases hm
  obtain⟨r,i,rfl⟩:∃r i,o=r++[i]:=⟨o.dropLast,o.getLast hne,(List.dropLast_concat_getLast hne).symm⟩
  have hr:=ih r (by simpa using hm);rw[Tq] at h;by_cases e:s=(l.getD i iT).name
  ·rw[dw e] at h;cases h
   exact aFP hr _
  rw[dh e] at h;exact hr s n h
theorem aDd {l:List dY} {o:ZN} {i:Nat} (x:Lit):Y9 (oh (aaw (uY l o))) (.string (l.getD i iT).name.data.toList) (some (.int .i64 (szE (uY l o) (l.getD i iT).cond))) x=oh (aaw (uY l (o++[i]))) x:=by
 rw[Jm];cases x<;>try rfl
 rename_i bs
 simp only[oh];by_cases e:(⟨bs.toArray⟩:BA)=(l.getD i iT).name
 ·rw[e,CO,aaw,Tq,dw rfl]
  rfl
 rw[yj _ _ e,aaw,aaw,Tq,dh e]
theorem aB1 {P:Program} {ops:Array Oper} {Q:Exit->Act->World->Prop} {a:Act} {w:World} {i:Nat} {o:Oper} (ho:ops[i]?=some o) (h:wpList P ops Q [o] a w):wpOp P ops Q i (fun a w=>Q .normal a w) a w:=by
 unfold wpOp;rw[ho];exact h
def aqN (bf cb oZ n c i:Nat) (v:jm) (z:Nat):Nat->Value
 | 0=>.map (some bf)|6=>.map (some bf)
 | 1=>.slice (some ⟨cb,oZ,none⟩) n c|7=>.slice (some ⟨cb,oZ,none⟩) n c
 | 2=>.int .i64 i|8=>.int .i64 i
 | 3=>.pointer (some ⟨cb,oZ+i*10,none⟩)|9=>.pointer (some ⟨cb,oZ+i*10,none⟩)
 | 4=>.pointer (some ⟨cb,oZ+i*10+1,none⟩)|10=>.pointer (some ⟨cb,oZ+i*10+2,none⟩)
 | 5=>.string v.name
 | 11=>.agg #[.int .i64 v.x.op,.string v.x.name,.slice v.x.aw v.x.nw v.x.cw,.int .i64 v.x.lo,.int .i64 v.x.hi,.slice v.x.aa v.x.na v.x.ca]
 | _=>.int .i64 z
def a1b (wr W:World):Prop:=Ext wr W
def a1c (_:Nat) (W W':World):Prop:=Ext W W'
def a1a (f:Nat->Value) (j:Nat) (u:Value) (_:World):Prop:=u=f j
def aQ7 (l:List dY) (o:ZN) (w:World) (e:Ending) (w':World):Prop:=∃b,e=.returned (.map (some b))/\MapAt w' 9 b o.length (oh (aaw (uY l o)))/\Ext w w'
theorem aho (l:List dY) (a:OA) (n c:Nat) (o:ZN) (oa:OA) (oc:Nat) (w:World) (hl:eX w l a n c) (_hn:n<=1000000) (ho:L6 w (ints o) oa o.length oc) (hol:o.length<=1000000) (hlt:∀i∈o,i<l.length)
  (hsz:∀x∈l,x.name.size<=1000000000000000/\x.cond.size<=1000000000000000/\x.cond.fits) :
  Calls Tryz.prog 81 #[.slice a n c,.slice oa o.length oc] w (aQ7 l o w):=by
 have HL:=ak hl;have HN:=ak hl.len;have zN:=ak hsz;have HO:=ak ho;have nH:=ak hlt;clear hl hsz ho hlt;have hmm:=@run_makeMap Tryz.prog;have HM0:=ak (MapAt.made w 9);have HX0:=ak ((Ext.refl w).alloc (.map #[] 0));obtain⟨bf,hbf⟩:∃bf:Nat,bf=w.heap.size:=⟨_,rfl⟩
 rw[<-hbf] at HM0;have HBF:=ak hbf;go_enter Tryz.func81,Tryz.ntmps81
 go_wp2_with fail
 rw[<-hbf];clear hbf hmm;go_loopw [11] (fun i wr=>∃k:Nat,k<=o.length/\i=.int .i64 k/\MapAt wr 9 bf k (oh (aaw (uY l (o.take k))))/\Ext w wr) (fun i _=>o.length - (intOf i).toNat)
 case atStart =>
  refine⟨0,by omega,rfl,HM0.o.congr fun x=>?_,HX0.o⟩;cases x<;>simp[oh,aaw,uY]
 case round =>
  obtain⟨k,hk,rfl,hmap,hx⟩:=hrel;have Kr:=ak hmap;have HX:=ak hx;have hbw:=hmap.lt;clear hmap hx HM0 HX0;by_cases hlt:k<o.length
  ·have t1:=ah ((k:Int)<(o.length:Int));obtain⟨ob,aZD,rfl,oc1⟩:=(HO.o.mono HX.o.sub).2.2.2 k (by simpa[ints] using hlt);obtain⟨i,hi⟩:∃i,i=o[k]:=⟨_,rfl⟩
   have e1:(ints o)[k]'(by simpa[ints] using hlt)=(i:Int):=by simp[ints,hi]
   rw[e1] at oc1;have hil:i<l.length:=nH.o i (by rw[hi];exact aI hlt);have hin:i<n:=by have:=HN.o;omega
   obtain⟨cb,oZ,v,rfl,jr,hrow⟩:=(HL.o.ext HX.o).at hil;obtain⟨c0,c1,c2,c3,c4,c5,c6,c7,c8,c9⟩:=hrow.ten;have aPM:=zN.o _ (aI hil);have hns:v.name.size<=1000000000000000:=by rw[jr.2.1];exact aPM.1
   have HEX:=ak (show fC wr l[i].cond (.agg #[.int .i64 v.x.op,.string v.x.name,.slice v.x.aw v.x.nw v.x.cw,.int .i64 v.x.lo,.int .i64 v.x.hi,.slice v.x.aa v.x.na v.x.ca]) from jr.2.2.1);have HST:=ak (@aDd l (o.take k) i);have e2:o.take k++[i]=o.take (k+1):=by rw[hi,aU hlt]
   rw[iZ hil,<-jr.2.1,e2] at HST;have HSI:=ak aPM;have Zr:(0:Int)<=(i:Int):=by omega
   have ti1:(i:Int)<(n:Int):=by omega
   clear jr hrow e1 e2 hi aPM;go_upto_region 5 with fail
   have HCE:=ak (fun (W:World) (hW:Ext wr W)=>adW (uY l (o.take k)) (agd l _) bf k 1000000000000000 l[i].cond _ W HSI.o.2.1 (by omega) HSI.o.2.2 (Kr.o.ext hW) (HEX.o.ext hW));obtain⟨Z,hZ⟩:∃Z,Z=szE (uY l (o.take k)) l[i].cond:=⟨_,rfl⟩
   rw[<-hZ] at HCE HST;clear hZ;refine iP (m:=13) [0,5,12] (a1b wr) a1c (a1a (aqN bf cb oZ n c i v Z)) (by kernel_rfl) (by kernel_rfl) ((Ext.refl wr).drew) ?_ ?_ ?_
   ·exact fun _ _ _ _ _ _ _ _ _ h _=>h
   ·intro q op hq ho vs W hW hd ρ hρ;have hq':=ltc13 hq;clear hq;have o5:ρ (.tmp 5)=.map (some bf):=hρ.out 5 rfl;have o0:ρ (.tmp 0)=.slice (some ⟨cb,oZ,none⟩) n c:=hρ.out 0 rfl;have o7:ρ (.tmp 7)=.int .i64 i:=hρ.out 7 rfl;have i1:=hρ.i 1 16;have i2:=hρ.i 2 17;have i3:=hρ.i 3 18;have i4:=hρ.i 4 19;have i7:=hρ.i 7 22;have i8:=hρ.i 8 23;have i9:=hρ.i 9 24;have AA:=hρ.i 10 25;have i6:=hρ.i 6 21;have i11:=hρ.i 11 26;have hc:=hρ.const;have hfn:=hρ.func;clear hρ;have hW:Ext wr W:=hW;have HW:=ak hW;clear hW;rcases hq' with rfl|rfl|rfl|rfl|rfl|rfl|rfl|rfl|rfl|rfl|rfl|rfl|rfl
    ·cases ho;unfold dF;go_simp;exact⟨Ext.refl W,rfl⟩
    ·cases ho;unfold dF;go_simp;exact⟨Ext.refl W,rfl⟩
    ·cases ho;unfold dF;go_simp;exact⟨Ext.refl W,rfl⟩
    ·cases ho
     have h1:vs 1=_:=hd ⟨1,.data⟩ (by simp) rfl;have h2:vs 2=_:=hd ⟨2,.data⟩ (by simp) rfl;rw[h1] at i1;rw[h2] at i2;simp only[aqN] at i1 i2;unfold dF;go_simp;exact⟨Ext.refl W,rfl⟩
    ·cases ho
     have h3:vs 3=_:=hd ⟨3,.data⟩ (by simp) rfl;rw[h3] at i3;simp only[aqN] at i3;unfold dF;go_simp;exact⟨Ext.refl W,rfl⟩
    ·cases ho
     have h4:vs 4=_:=hd ⟨4,.data⟩ (by simp) rfl;rw[h4] at i4;simp only[aqN] at i4;have g1:=HW.o.cell c1;unfold dF;go_simp;exact⟨Ext.refl W,rfl⟩
    ·cases ho;unfold dF;go_simp;exact⟨Ext.refl W,rfl⟩
    ·cases ho;unfold dF;go_simp;exact⟨Ext.refl W,rfl⟩
    ·cases ho;unfold dF;go_simp;exact⟨Ext.refl W,rfl⟩
    ·cases ho
     have h1:vs 7=_:=hd ⟨7,.data⟩ (by simp) rfl;have h2:vs 8=_:=hd ⟨8,.data⟩ (by simp) rfl;rw[h1] at i7;rw[h2] at i8;simp only[aqN] at i7 i8;unfold dF;go_simp;exact⟨Ext.refl W,rfl⟩
    ·cases ho
     have h3:vs 9=_:=hd ⟨9,.data⟩ (by simp) rfl;rw[h3] at i9;simp only[aqN] at i9;unfold dF;go_simp;exact⟨Ext.refl W,rfl⟩
    ·cases ho
     have h4:vs 10=_:=hd ⟨10,.data⟩ (by simp) rfl;rw[h4] at AA;simp only[aqN] at AA;have g2:=HW.o.cell c2;have g3:=HW.o.cell c3;have g4:=HW.o.cell c4;have g5:=HW.o.cell c5;have g6:=HW.o.cell c6;have g7:=HW.o.cell c7;unfold dF;go_simp;exact⟨Ext.refl W,rfl⟩
    cases ho
    have h6:vs 6=_:=hd ⟨6,.data⟩ (by simp) rfl;have h11:vs 11=_:=hd ⟨11,.data⟩ (by simp) rfl;rw[h6] at i6;rw[h11] at i11;simp only[aqN] at i6 i11;unfold dF;go_simp;refine(HCE.o W HW.o).mono ?_;rintro r w3 ⟨rfl,hx3⟩;exact⟨_,rfl,hx3,HW.o.trans hx3,rfl⟩
   intro vs W hW hR;rw[dh (by decide +kernel)];have h0:vs 0=_:=hR 0 (by simp) (by omega);have h5:vs 5=_:=hR 5 (by simp) (by omega);have h12:vs 12=_:=hR 12 (by simp) (by omega);simp only[aqN] at h0 h5 h12;simp only[acts,gK,List.range,List.range.loop,bF,dA,h0,h5,h12];have hmx:=Kr.o.ext hW;refine aB1 rfl ?_
   change wpList _ _ _ [⟨none,.mapUpdate _ (.tmp 15) (.tmp 20) (.tmp 27),_,_,_,none⟩] _ _
   go_simp;refine oU _ rfl _ _ _ 136 rfl 9 3 jR Qq bf k _ rfl hmx ?c3 _ _ _ rfl rfl (oI hns) trivial ?_
   case c3=>unfold maxLen;omega
   intro w1 hm1 hc1;have HM1:=ak (hm1.congr HST.o);have fQ:=ak (hc1.ext (HX.o.trans hW) (by rw[<-HBF.o];simp));clear hm1 hc1;go_wp2_with fail
   go_roundw
   case rel=>exact⟨k+1,by omega,by go_num,HM1.o,fQ.o⟩
   case measure=>simp[intOf];omega
  have t1:=aj ((k:Int)<(o.length:Int));have HGE:=ak (show MapAt wr 9 bf o.length (oh (aaw (uY l o))) by have:=Kr.o;rw[aY (by omega)] at this;exact this.more hk);go_wp2_with fail
  go_ret;exact⟨bf,rfl,HGE.o,HX.o⟩
def CU (u:List dY):ZB:=u.map (·.name)
def Yv (l u:List dY) (x:Ex):Prop:=∀s∈jo x,∀d,fG l s=some d->s∈CU u
structure RP (l:List dY) (e:Ex) (u:List dY) (xs:List Ex):Prop where
 defs:∀c∈u,c.kind=1/\∃d,fG l c.name=some d/\c.cond=(l.getD d iT).cond/\Reach l e d
 names:(CU u).Nodup
 top:e∈xs\/Yv l u e
 closed:∀c∈u,c.cond∈xs\/Yv l u c.cond
 stack:∀x∈xs,x=e\/∃c∈u,c.cond=x
 slen:xs.length<=u.length+1
structure RPi (l:List dY) (e:Ex) (u:List dY) (xs:List Ex) (x:Ex) (ns:ZB) (j:Nat):Prop where
 defs:∀c∈u,c.kind=1/\∃d,fG l c.name=some d/\c.cond=(l.getD d iT).cond/\Reach l e d
 names:(CU u).Nodup
 top:e∈xs\/e=x\/Yv l u e
 closed:∀c∈u,c.cond∈xs\/c.cond=x\/Yv l u c.cond
 stack:∀y∈xs,y=e\/∃c∈u,c.cond=y
 cur:x=e\/∃c∈u,c.cond=x
 done:∀i (h:i<ns.length),i<j->∀d,fG l ns[i]=some d->ns[i]∈CU u
 slen:xs.length<=u.length
theorem RP.start (l:List dY) (e:Ex):RP l e [] [e]:=⟨by simp,by simp[CU],Or.inl (by simp),by simp,fun x hx=>Or.inl (by simpa using hx),by simp⟩
theorem RP.pop {l:List dY} {e:Ex} {u:List dY} {xs:List Ex} {x:Ex} (h:RP l e u (xs++[x])) (ns:ZB):RPi l e u xs x ns 0:=by
 refine⟨h.defs,h.names,?_,fun c hc=>?_,fun y hy=>h.stack y (by simp[hy]),h.stack x (by simp),fun i _ h=>by omega,by have:=h.slen;simpa using this⟩
 ·rcases h.top with h1|h1
  ·rcases aT.1 h1 with h2|h2
   ·exact Or.inl h2
   exact Or.inr (Or.inl (by simpa using h2))
  exact Or.inr (Or.inr h1)
 rcases h.closed c hc with h1|h1
 ·rcases aT.1 h1 with h2|h2
  ·exact Or.inl h2
  exact Or.inr (Or.inl (by simpa using h2))
 exact Or.inr (Or.inr h1)
theorem RPi.end {l:List dY} {e:Ex} {u:List dY} {xs:List Ex} {x:Ex} {ns:ZB} {j:Nat} (h:RPi l e u xs x ns j) (hj:ns.length<=j) (hns:∀s,s∈ns ↔ s∈jo x):RP l e u xs:=by
 have hx:Yv l u x:=fun s hs d hd=>by
  obtain⟨i,hi,rfl⟩:=bD.1 ((hns s).2 hs);exact h.done i hi (by omega) d hd
 refine⟨h.defs,h.names,?_,fun c hc=>?_,h.stack,Nat.le_succ_of_le h.slen⟩
 ·rcases h.top with h1|rfl|h1
  ·exact Or.inl h1
  ·exact Or.inr hx
  exact Or.inr h1
 rcases h.closed c hc with h1|h1|h1
 ·exact Or.inl h1
 ·exact Or.inr (h1 ▸ hx)
 exact Or.inr h1
theorem RPi.skip {l:List dY} {e:Ex} {u:List dY} {xs:List Ex} {x:Ex} {ns:ZB} {j:Nat} (h:RPi l e u xs x ns j) (hj:j<ns.length) (hs:fG l ns[j]=none\/ns[j]∈CU u):RPi l e u xs x ns (j+1) :=
 ⟨h.defs,h.names,h.top,h.closed,h.stack,h.cur,fun i hi hij d hd=>by
  by_cases e':i=j
  ·subst e';rcases hs with h1|h1
   ·rw[h1] at hd;cases hd
   exact h1
  exact h.done i hi (by omega) d hd,h.slen⟩
theorem QO (u:List dY) (c:dY):CU (u++[c])=CU u++[c.name]:=by simp[CU]
theorem RPi.step {l:List dY} {e:Ex} {u:List dY} {xs:List Ex} {x:Ex} {ns:ZB} {j:Nat} (h:RPi l e u xs x ns j) (hj:j<ns.length) (hns:∀s,s∈ns ↔ s∈jo x) {d:Nat} (hd:fG l ns[j]=some d) (hn:ns[j]∉CU u) {c:dY} (hk:c.kind=1) (hnm:c.name=ns[j]) (hc:c.cond=(l.getD d iT).cond) :
  RPi l e (u++[c]) (xs++[c.cond]) x ns (j+1):=by
 have up:∀y,Yv l u y->Yv l (u++[c]) y:=fun y hy s hs d hd=>by rw[QO];exact aQ _ (hy s hs d hd)
 refine⟨fun c' hc'=>?_,?_,?_,fun c' hc'=>?_,fun y hy=>?_,?_,fun i hi hij d' hd'=>?_,by have:=h.slen;simp;omega⟩
 ·rcases aT.1 hc' with h1|h1
  ·exact h.defs c' h1
  obtain rfl:c'=c:=by simpa using h1
  refine⟨hk,d,by rw[hnm];exact hd,hc,?_⟩;have hm:=(hns _).1 (aI hj);rcases h.cur with rfl|⟨c2,h2,rfl⟩
  ·exact Reach.base hm hd
  obtain⟨_,d2,g1,g2,g3⟩:=h.defs c2 h2;exact Reach.step g3 (g2 ▸ hm) hd
 ·rw[QO,List.nodup_append];refine⟨h.names,by simp,fun a ha b hb e=>?_⟩;simp only[aK] at hb;subst e hb;exact hn (hnm ▸ ha)
 ·rcases h.top with h1|h1|h1
  ·exact Or.inl (aQ _ h1)
  ·exact Or.inr (Or.inl h1)
  exact Or.inr (Or.inr (up _ h1))
 ·rcases aT.1 hc' with h1|h1
  ·rcases h.closed c' h1 with h2|h2|h2
   ·exact Or.inl (aQ _ h2)
   ·exact Or.inr (Or.inl h2)
   exact Or.inr (Or.inr (up _ h2))
  obtain rfl:c'=c:=by simpa using h1
  exact Or.inl (by simp)
 ·rcases aT.1 hy with h1|h1
  ·rcases h.stack y h1 with h2|⟨c2,h2,h3⟩
   ·exact Or.inl h2
   exact Or.inr ⟨c2,aQ _ h2,h3⟩
  exact Or.inr ⟨c,by simp,(aK.1 h1).symm⟩
 ·rcases h.cur with h1|⟨c2,h2,h3⟩
  ·exact Or.inl h1
  exact Or.inr ⟨c2,aQ _ h2,h3⟩
 rw[QO];by_cases e':i=j
 ·subst e';simp[hnm]
 exact aQ _ (h.done i hi (by omega) d' hd')
theorem RP.used {l:List dY} {e:Ex} {u:List dY} (h:RP l e u []):Used l e u :=
 ⟨h.defs,h.names,fun s hs d hd=>by
   rcases h.top with h1|h1;· simp at h1
   exact h1 s hs d hd,
 fun c hc s hs d hd=>by
   rcases h.closed c hc with h1|h1;· simp at h1
   exact h1 s hs d hd⟩
theorem Wn {l:List dY} {e:Ex} {u:List dY} (h1:∀c∈u,c.kind=1/\∃d,fG l c.name=some d/\c.cond=(l.getD d iT).cond/\Reach l e d) (h2:(CU u).Nodup):u.length<=l.length:=by
 have key:=Az (u.map fun c=>(fG l c.name).getD 0) (List.range l.length) ?_ ?_
 ·simpa using key
 ·rw[List.Nodup,List.pairwise_map];rw[List.Nodup,CU,List.pairwise_map] at h2;refine h2.imp_of_mem fun {a b} ha hb hne he=>?_
  obtain⟨_,d,g2,_⟩:=h1 a ha;obtain⟨_,d',g3,_⟩:=h1 b hb;rw[g2,g3] at he;simp only[Option.getD_some] at he;subst he;exact hne ((yJ g2).1.symm.trans (yJ g3).1)
 intro x hx;obtain⟨c,hc,rfl⟩:=List.mem_map.1 hx;obtain⟨_,d,g2,_⟩:=h1 c hc;rw[g2];exact List.mem_range.2 (sH g2)
structure RcS (w:World) (bs:Nat) (lv xv:Value) (u:List dY) (vs:List jm) (xs:List Ex) (evs:List fU) (wr:World):Prop where
 ext:Ext w wr
 WT:Dp w u vs
 own:wr.ownsRow w.heap.size 48 10 lv u.length (vs.flatMap jm.cells)
 ex:yV w xs evs
 aiY:wr.ownsRow w.heap.size 45 6 xv xs.length (evs.flatMap fU.cells)
 seen:MapAt wr 9 bs u.length (oh (Ld fun s=>s∈CU u))
 bsn:w.heap.size<=bs
 d1:∀g,lv.ownBlock=some g->g≠bs
 d2:∀g,xv.ownBlock=some g->g≠bs
 d3:∀g,lv.ownBlock=some g->xv.ownBlock≠some g
theorem RcS.Wi {w:World} {bs:Nat} {lv xv:Value} {u:List dY} {vs:List jm} {xs:List Ex} {evs:List fU} {wr wr':World} (h:RcS w bs lv xv u vs xs evs wr) (hx:Ext wr wr'):RcS w bs lv xv u vs xs evs wr' :=
 {h with ext:=h.ext.trans hx,own:=eF h.own (hx.fH []) (by simp),aiY:=eF h.aiY (hx.fH []) (by simp),seen:=h.seen.ext hx }
theorem aDV {xs:List fU} {x:fU}:((xs++[x]).flatMap fU.cells).take (xs.length*6)=xs.flatMap fU.cells:=by
 rw[List.flatMap_append,List.take_left'];clear x;induction xs with
 | nil=>rfl
 | cons y r ih=>simp only[List.flatMap_cons,bI,tX,ih,List.length_cons];omega
theorem aC3 {w:World} {base:Nat} {g n cap:Nat} {xs:List fU} {x:fU} (hn:n=xs.length) (h:w.ownsRow base 45 6 (.slice (some ⟨g,0,none⟩) (n+1) cap) (n+1) ((xs++[x]).flatMap fU.cells)) :
  w.ownsRow base 45 6 (.slice (some ⟨g,0,none⟩) n cap) n (xs.flatMap fU.cells):=by
 obtain⟨h1,h2⟩:=h;have hl:(xs.flatMap fU.cells).length=n*6:=by
  subst hn;clear h1 h2 x;induction xs with
  | nil=>rfl
  | cons y r ih=>simp only[List.flatMap_cons,bI,tX,ih,List.length_cons];omega
 refine⟨hl,Or.inr ?_⟩;rcases h2 with ⟨h3,_⟩|⟨g',cap',cur,h3,h4,h5,h6,h7,h8,h9⟩
 ·simp at h3
 simp only[Value.slice.injEq,Option.some.injEq,Addr.mk.injEq,and_true,true_and] at h3;obtain⟨rfl,rfl⟩:=h3;refine⟨g,cap,cur,rfl,h4,h5,by omega,h7,h8,?_⟩;have e1:cur.toList.take (n*6)=(cur.toList.take ((n+1)*6)).take (n*6):=by rw[List.take_take];congr 1;omega
 rw[e1,h9,hn,aDV]
theorem aC2 {w:World} {base:Nat} {n:Nat} {v:Value} {xs:List fU} {x:fU} (hn:n=xs.length) (h:w.ownsRow base 45 6 v (n+1) ((xs++[x]).flatMap fU.cells)) :
  ∃g cap,v=.slice (some ⟨g,0,none⟩) (n+1) cap/\w.cell? ⟨g,n*6,none⟩=some (.int .i64 x.op)/\w.cell? ⟨g,n*6+1,none⟩=some (.string x.name)/\w.cell? ⟨g,n*6+2,none⟩=some (.slice x.aw x.nw x.cw)/\w.cell? ⟨g,n*6+3,none⟩=some (.int .i64 x.lo)/\w.cell? ⟨g,n*6+4,none⟩=some (.int .i64 x.hi)/\w.cell? ⟨g,n*6+5,none⟩=some (.slice x.aa x.na x.ca):=by
 subst hn;have e0:xs.length+1=(xs++[x]).length:=by simp
 rw[e0] at h;obtain⟨a,c,rfl,hr⟩:=iF.kZ tX h;obtain⟨b,off,rfl,hc⟩:=hr.2.2.2 xs.length (by simp);have ha:off=0:=by
  obtain⟨_,h2⟩:=h;rcases h2 with ⟨h3,_⟩|⟨g',cap',cur,h3,_⟩
  ·simp at h3
  simp only[Value.slice.injEq,Option.some.injEq,Addr.mk.injEq,and_true] at h3;exact h3.1.2
 subst ha;have key:∀j (hj:j<6),w.cell? ⟨b,xs.length*6+j,none⟩=some (x.cells[j]'(by rw[tX];exact hj)):=fun j hj=>by
  have:=hc j (by rw[tX];exact hj);simpa using this
 refine⟨b,c,by simp,?_,?_,?_,?_,?_,?_⟩
 ·exact key 0 (by omega)
 ·exact key 1 (by omega)
 ·exact key 2 (by omega)
 ·exact key 3 (by omega)
 ·exact key 4 (by omega)
 exact key 5 (by omega)
theorem au2 {w:World} {base:Nat} {e:TypeId} {size g n cap:Nat} {xs:List Value} (h:w.ownsRow base e size (.slice (some ⟨g,0,none⟩) n cap) n xs):base<=g/\n<=cap/\g<w.heap.size/\cap<=maxLen:=by
 obtain⟨_,h2⟩:=h;rcases h2 with ⟨h3,_⟩|⟨g',cap',cur,h3,h4,h5,h6,h7,_⟩
 ·simp at h3
 simp only[Value.slice.injEq,Option.some.injEq,Addr.mk.injEq,and_true,true_and] at h3;obtain⟨rfl,rfl⟩:=h3;exact⟨h4,h6,dH h5,h7⟩
theorem RcS.step {w W w3 w8 w9:World} {bs:Nat} {lv xv lv' xv':Value} {u:List dY} {vs:List jm} {xs:List Ex} {evs:List fU} (h:RcS w bs lv xv u vs xs evs W) {c:dY} {cv:jm} (hcv:kR w c cv) {x:Ex} {ev:fU} (hev:fC w x ev.val) {F:Lit->Option Value}
  (hm:MapAt w3 9 bs (u.length+1) F) (hF:∀y,F y=oh (Ld fun s=>s∈CU (u++[c])) y) (hc3:dO [bs] W w3)
  (ho8:w8.ownsRow w.heap.size 48 10 lv' (u.length+1) (vs.flatMap jm.cells++cv.cells)) (hc8:dO (rowOf lv) w3 w8) (hw8:∀k,lv'.ownBlock=some k->lv.ownBlock=some k\/w3.heap.size<=k)
  (ho9:w9.ownsRow w.heap.size 45 6 xv' (xs.length+1) (evs.flatMap fU.cells++ev.cells)) (Af:dO (rowOf xv) w8 w9) (yY:∀k,xv'.ownBlock=some k->xv.ownBlock=some k\/w8.heap.size<=k) :
  RcS w bs lv' xv' (u++[c]) (vs++[cv]) (xs++[x]) (evs++[ev]) w9:=by
 have s3:=hc3.size;have s8:=hc8.size;have hbl:=hm.lt;have xlt:∀q,xv.ownBlock=some q->q<W.heap.size:=fun q hq=>(h.aiY.lt q hq).2
 have llt:∀q,lv.ownBlock=some q->q<W.heap.size:=fun q hq=>(h.own.lt q hq).2
 exact {
  ext:=Af.ext (hc8.ext (hc3.ext h.ext (by simpa using h.bsn)) fun q hq=>(h.own.lt q (dK.1 hq)).1) fun q hq=>(h.aiY.lt q (dK.1 hq)).1
  WT:=h.WT.snoc hcv
  own:=by
   have:=eF ho8 Af fun q hq hm=>by
    have h2:=dK.1 hm;rcases hw8 q hq with h1|h1
    ·exact h.d3 q h1 h2
    have:=xlt q h2;omega
   simpa using this
  ex:=h.ex.snoc hev
  aiY:=by simpa using ho9
  seen:=by
   have:=((hm.fH hc8 fun hm=>h.d1 bs (dK.1 hm) rfl).fH Af fun hm=>h.d2 bs (dK.1 hm) rfl).congr hF;simpa using this
  bsn:=h.bsn
  d1:=fun q hq e=>by
   rcases hw8 q hq with h1|h1
   ·exact h.d1 q h1 e
   omega
  d2:=fun q hq e=>by
   rcases yY q hq with h1|h1
   ·exact h.d2 q h1 e
   omega
  d3:=fun q hq hq2=>by
   have h8:=(ho8.lt q hq).2;rcases yY q hq2 with h2|h2
   ·rcases hw8 q hq with h1|h1
    ·exact h.d3 q h1 h2
    have:=xlt q h2;omega
   omega }
theorem aGJ (w:World) (arr:Array Value) (e:TypeId) {size n base:Nat} (hs:arr.size=n*size) (hn:n<=maxLen) (hb:base<=w.heap.size):(w.alloc (.cells arr e)).ownsRow base e size (.slice (some ⟨w.heap.size,0,none⟩) n n) n arr.toList :=
 ⟨by simpa using hs,Or.inr ⟨w.heap.size,n,arr,rfl,hb,dG w _,bg _,hn,hs,by rw[aY (by simp;omega)]⟩⟩
end Go.Proofs.YtefjomofjejklaaGreatDoor
