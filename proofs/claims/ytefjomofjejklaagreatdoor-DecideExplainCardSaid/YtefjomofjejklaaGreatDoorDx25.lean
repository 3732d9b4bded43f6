/-
  Texts of the claim, joined: RPfA, RPfO, RPf, PfFit.
-/
import Derived.Test.YtefjomofjejklaaGreatDoorDx24
namespace Go.Proofs.YtefjomofjejklaaGreatDoor
set_option maxRecDepth 100000
set_option maxHeartbeats 32000000
open Go.RowKit Go.Maps
def aPh (_op:Int) (b6:Nat) (sa:OA) (sn sc:Nat) (a:OA) (n c:Nat) (fa:OA) (fn fc:Nat) (k:Nat) (_name:BA) (_aw:OA) (_nw _cw:Nat) (_lo _hi:Int) (xb xo na ca:Nat) (x0:Int) (x1:BA) (rJ:OA) (rF rH:Nat) (x5 x6:Int) (rM:OA) (rG ca1:Nat)  : Nat->Value->World->Prop
 | 0,u,_=>u=.agg #[.slice sa sn sc]
 | 1,u,_=>u=.slice a n c
 | 2,u,_=>u=.pointer (some ⟨b6+1,5,none⟩)
 | 3,u,_=>u=.slice (some ⟨xb,xo,none⟩) na ca
 | 4,u,_=>u=.int .i64 ((k:Nat):Int)
 | 5,u,_=>u=.pointer (some ⟨xb,xo+k*6,none⟩)
 | 6,u,_=>u=.agg #[.int .i64 x0,.string x1,.slice rJ rF rH,.int .i64 x5,.int .i64 x6,.slice rM rG ca1]
 | 7,u,_=>u=.slice fa fn fc
 | 8,u,_=>u=u/\True
 | _,u,_=>u=u/\True
theorem aur {s:List Attr} {l:List dY} {f:ZI} {g:Nat} {name:BA} {words:ZB} {lo hi:Int} {args:List Ex} {V:Bool} {w:World} {M:ZN} {a:OA} {n c:Nat} {fa:OA} {fn fc:Nat} {sa:OA} {sn sc:Nat} {aw:OA} {nw cw:Nat} {aa:OA} {na ca:Nat} {op:Int} (hop:op=7/\V=true\/op=8/\V=false) (hv:l7 s l f (g+1) (.mk op name words lo hi args)=V) (h:ap9 s l f g op name args lo hi V w M a n c fa fn fc sa sn sc aw nw cw aa na ca) :
  Calls Tryz.prog 129 #[.agg #[.slice sa sn sc],.slice a n c,exV op name aw nw cw lo hi aa na ca,.slice fa fn fc] w (J6 (CG s l f (g+1) (.mk op name words lo hi args)) M w):=by
 have HQ:=ak (show CG s l f (g+1) (.mk op name words lo hi args)=.mk V (-1) (args.map (CG s l f (g+1))) from aLq hop hv);clear hv;have WL:=ak h.tr;have qx:=ak h.arg;have HM:=ak h.m;have HX:=ak h.x;have nK:=ak h.na;have NU:=ak h.few;clear h;unfold exV at *;obtain⟨wa,dW⟩:∃wa,wa=((w.alloc (.cells #[.slice sa sn sc] 24)).alloc (.cells #[.int .i64 op,.string name,.slice aw nw cw,.int .i64 lo,.int .i64 hi,.slice aa na ca] 45)).alloc (.cells #[.bool false,.int .i64 0,.slice none 0 0] 67):=⟨_,rfl⟩
 have hxa:Ext w wa:=by rw[dW];exact(((Ext.refl _).alloc _).alloc _).alloc _
 obtain⟨b6,hb6⟩:∃b6:Nat,b6=w.heap.size:=⟨_,rfl⟩
 have hb0:wa.heap[b6]?=some (.cells #[.slice sa sn sc] 24 (0,0)):=by rw[dW,hb6];exact dJ (dJ (dG w _))
 have hb1:wa.heap[b6+1]?=some (.cells #[.int .i64 op,.string name,.slice aw nw cw,.int .i64 lo,.int .i64 hi,.slice aa na ca] 45 (0,0)):=by rw[dW,hb6];exact dJ (eH (by simp))
 have hb2:wa.heap[b6+1+1]?=some vw:=by rw[dW,hb6];exact eH (by simp)
 have fE:=ak hxa;have HB0:=ak hb0;have HB1:=ak hb1;have HB2:=ak hb2;have nM:=ak hb6;go_enter Tryz.func129,Tryz.ntmps129
 go_upto_region 1 with fail
 rw[<-dW,<-hb6];clear dW hb6;obtain⟨f0,f1,f2,f3,f4,f5,ff⟩:=eP hb1;obtain⟨e0,ef⟩:=gQ hb0;clear hxa hb0 hb1 hb2;go_wp2_with fail
 refine(WL.o wa fE.o).mono ?_;rintro r w1 ⟨rfl,hx1⟩;go_upto_region 2 with fail
 obtain⟨b11,tN⟩:∃b11:Nat,b11=w1.heap.size:=⟨_,rfl⟩
 obtain⟨w2,hw2⟩:∃w2,w2=w1.alloc (.cells #[.bool V,.int .i64 (-1),.slice none 0 0] 67):=⟨_,rfl⟩
 have hx2:Ext wa w2:=by rw[hw2];exact hx1.alloc _
 have HP2:=ak (show w2.heap[b11]?=some (.cells #[.bool V,.int .i64 (-1),.slice none 0 0] 67 (0,0)) by rw[hw2,tN];exact dG w1 _);have zH:b6+1+1<b11:=by have:=dH (hx1.blk HB2.o);omega
 rw[<-hw2,<-tN];clear hw2 tN hx1 f0 f1 f2 f3 f4 f5 ff e0 ef;have nH:=ak zH;have gI:=ak (fE.o.trans hx2);have HS2:=ak (hx2.blk HB0.o);have HE2:=ak (hx2.blk HB1.o);have HZ2:=ak (hx2.blk HB2.o);clear hx2 zH HB0 HB1 HB2 fE WL;obtain⟨f0,f1,f2,f3,f4,f5,ff⟩:=eP HE2.o;obtain⟨e0,ef⟩:=gQ HS2.o;have t6:(op==6)=false:=by rcases hop with ⟨rfl,-⟩|⟨rfl,-⟩<;>rfl
 have t3:(op==3)=false:=by rcases hop with ⟨rfl,-⟩|⟨rfl,-⟩<;>rfl
 obtain⟨p0,p1,p2,Ba⟩:=fZ HP2.o;rcases hop with ⟨hop,hV⟩|⟨hop,hV⟩
 case' inl=>have t7:(op==7)=true:=by rw[hop];rfl
 case' inr =>
  have t7:(op==7)=false:=by rw[hop];rfl
  have t8:(op==8)=true:=by rw[hop];rfl
 all_goals
 clear hop;go_upto_region 13 with fail
 clear hV f0 f1 f2 f3 f4 f5 ff e0 ef p0 p1 p2 Ba;go_wp2_with fail
 go_loopw [15,16] (RpL (CG s l f (g+1)) args V na b6 b11 M (.cells #[.slice sa sn sc] 24 (0,0)) (.cells #[.int .i64 op,.string name,.slice aw nw cw,.int .i64 lo,.int .i64 hi,.slice aa na ca] 45 (0,0)) w) (fun i _ _=>na - (intOf i).toNat)
 case atStart=>exact⟨0,[],.slice none 0 0,rfl,by omega,World.ownsRow_nil _ _ _ _,Oy.nil _,HS2.o,HE2.o,HZ2.o,HP2.o,gI.o⟩
 case round =>
  obtain⟨k,pvs,u,rfl,hk,hown,VY,hb0,hb1,hb2,hbp,hxr⟩:=hrel;obtain⟨ua,uc,hu⟩:=iG hown;subst hu;have HOW:=ak hown;have aea:=ak VY;have Zo:=ak hb0;have qw:=ak hb1;have HC2:=ak hb2;have HBP:=ak hbp;have kC:=ak hxr;have zN:=ak (show b11+1<=wr.heap.size from dH hbp);have hnk:na<=1000000:=by have:=nK.o;have:=NU.o;omega
  obtain⟨e0,ef⟩:=gQ hb0;obtain⟨f0,f1,f2,f3,f4,f5,ff⟩:=eP hb1;clear hown VY hb0 hb1 hb2 hbp hxr HS2 HE2 HZ2 HP2 gI;by_cases hkn:k<na
  ·have hka:k<args.length:=by have:=nK.o;omega
   have t1:=ah ((k:Int)<(na:Int));have Zw:=ak (show ∀z∈rowOf (.slice ua k uc),b11+1<=z/\z<wr.heap.size from fun z hz=>HOW.o.lt z (dK.1 hz));have OU:=ak (show ∀y∈(rowOf (.slice ua k uc)++(b6+1+1)::b11::M),y<wr.heap.size from fun z hz=>by
    have h1:=nH.o;have h2:=nM.o;have h4:=zN.o;have h5:=HM.o;simp only[aT,bK] at hz;rcases hz with hz|rfl|rfl|hz
    ·exact(Zw.o z hz).2
    ·omega
    ·omega
    have:=h5 z hz;have:=kC.o.size;omega)
   obtain⟨xb,xo,rfl,rJ,rF,rH,rM,rG,ca1,g0,g1,g2,g3,g4,g5,m6⟩:=iK.at args _ (iK.ext kC.o args _ HX.o) k hka;have M6:=ak m6;have sV:=fun (N:ZN) W (hW:Ext wr W) hN=>qx.o k hka _ N W (kC.o.trans hW) hN (M6.o.ext hW)
   obtain⟨q,hq⟩:∃q,q=CG s l f (g+1) args[k]:=⟨_,rfl⟩
   rw[<-hq] at sV;have HQK:=ak hq;unfold exV at sV;have xK:=ak sV;obtain⟨x0,hx0⟩:∃x0,x0=args[k].op:=⟨_,rfl⟩
   obtain⟨x1,hx1⟩:∃x1,x1=args[k].name:=⟨_,rfl⟩
   obtain⟨x5,hx5⟩:∃x5,x5=args[k].lo:=⟨_,rfl⟩
   obtain⟨x6,hx6⟩:∃x6,x6=args[k].hi:=⟨_,rfl⟩
   rw[<-hx0] at g0 xK;rw[<-hx1] at g1 xK;rw[<-hx5] at g3 xK;rw[<-hx6] at g4 xK;clear hq m6 sV hx0 hx1 hx5 hx6;go_upto_region 16 with fail
   refine fM (n:=109) (m:=10) [] (afZ wr vw (PdP q) (rowOf (.slice ua k uc)++(b6+1+1)::b11::M) 8 9) SX (zu (aPh op b6 sa sn sc a n c fa fn fc k name aw nw cw lo hi xb xo na ca x0 x1 rJ rF rH x5 x6 rM rG ca1 )) (by kernel_rfl) (by kernel_rfl) (Nat.le_of_ble_eq_true rfl) ?gd XP ?_ ?_ ?_
   case gd =>
    intro i o j b hi ho hg;rcases ltc10 hi with rfl|rfl|rfl|rfl|rfl|rfl|rfl|rfl|rfl|rfl<;>(cases ho;first|(cases hg;done)|(cases hg;intro v W h;exact h))
   ·intro i k v W W' hi hk hne hout h hE;have hE:Ext W W':=hE;have hi':=ltc10 hi;clear hi hk hne hout;rcases hi' with rfl|rfl|rfl|rfl|rfl|rfl|rfl|rfl|rfl|rfl
    ·exact h
    ·exact h
    ·exact h
    ·exact h
    ·exact h
    ·exact h
    ·exact h
    ·exact h
    ·obtain⟨e0,h⟩:=h;exact⟨e0,trivial⟩
    obtain⟨e0,h⟩:=h;exact⟨e0,trivial⟩
   ·intro q op hq ho L vs W dR hcL hW hd ρ hρ;have hq':=ltc10 hq;clear hq;have o4:ρ (.tmp 4)=.pointer (some ⟨b6,0,none⟩):=hρ.out 4 rfl;have o1:ρ (.tmp 1)=.slice a n c:=hρ.out 1 rfl;have o6:ρ (.tmp 6)=.pointer (some ⟨b6+1,0,none⟩):=hρ.out 6 rfl;have i2:=hρ.i 2 84;have o15:ρ (.tmp 15)=.int .i64 ((k:Nat):Int):=hρ.out 15 rfl;have i3:=hρ.i 3 85;have i4:=hρ.i 4 86;have i5:=hρ.i 5 87;have o3:ρ (.tmp 3)=.slice fa fn fc:=hρ.out 3 rfl;have i0:=hρ.i 0 82;have i1:=hρ.i 1 83;have i6:=hρ.i 6 88;have i7:=hρ.i 7 89;have hc:=hρ.const;have hfn:=hρ.func;clear hρ;have HG:=ak hW;have HW:=ak (show Ext wr W from hW.1);have fV:=ak dR;clear hW dR hcL;rcases hq' with rfl|rfl|rfl|rfl|rfl|rfl|rfl|rfl|rfl|rfl
    ·cases ho
     clear hd;have g0:=HW.o.cell e0;unfold dF;go_simp;exact⟨Ext.refl W,mV (ou _) (by decide) (by decide) HG.o (Ext.refl W),rfl⟩
    ·cases ho
     clear hd;unfold dF;go_simp;exact⟨Ext.refl W,mV (ou _) (by decide) (by decide) HG.o (Ext.refl W),rfl⟩
    ·cases ho
     clear hd;unfold dF;go_simp;exact⟨Ext.refl W,mV (ou _) (by decide) (by decide) HG.o (Ext.refl W),rfl⟩
    ·cases ho
     have h2:vs 2=_:=hd ⟨2,.data⟩ (by simp) rfl;rw[h2] at i2;clear hd;have g5:=HW.o.cell f5;unfold dF;go_simp;exact⟨Ext.refl W,mV (ou _) (by decide) (by decide) HG.o (Ext.refl W),rfl⟩
    ·cases ho
     clear hd;unfold dF;go_simp;exact⟨Ext.refl W,mV (ou _) (by decide) (by decide) HG.o (Ext.refl W),rfl⟩
    ·cases ho
     have h3:vs 3=_:=hd ⟨3,.data⟩ (by simp) rfl;rw[h3] at i3;have h4:vs 4=_:=hd ⟨4,.data⟩ (by simp) rfl;rw[h4] at i4;clear hd;unfold dF;go_simp;exact⟨Ext.refl W,mV (ou _) (by decide) (by decide) HG.o (Ext.refl W),rfl⟩
    ·cases ho
     have h5:vs 5=_:=hd ⟨5,.data⟩ (by simp) rfl;rw[h5] at i5;clear hd;have g0:=HW.o.cell g0;have g1:=HW.o.cell g1;have g2:=HW.o.cell g2;have g3:=HW.o.cell g3;have g4:=HW.o.cell g4;have g5:=HW.o.cell g5;unfold dF;go_simp;exact⟨Ext.refl W,mV (ou _) (by decide) (by decide) HG.o (Ext.refl W),rfl⟩
    ·cases ho
     clear hd;unfold dF;go_simp;exact⟨Ext.refl W,mV (ou _) (by decide) (by decide) HG.o (Ext.refl W),rfl⟩
    ·cases ho
     have h0:vs 0=_:=hd ⟨0,.data⟩ (by simp) rfl;rw[h0] at i0;have h1:vs 1=_:=hd ⟨1,.data⟩ (by simp) rfl;rw[h1] at i1;have h6:vs 6=_:=hd ⟨6,.data⟩ (by simp) rfl;rw[h6] at i6;have h7:vs 7=_:=hd ⟨7,.data⟩ (by simp) rfl;rw[h7] at i7;clear hd;unfold dF;go_simp;obtain⟨Y,hY1,hY2⟩:=agK (by decide) OU.o HG.o;refine(xK.o (Y++(rowOf (.slice ua k uc)++(b6+1+1)::b11::M)) W HW.o hY1).mono ?_;rintro e5 w5 ⟨pv,rfl,hpv,hx5⟩;exact⟨_,rfl,hx5,hY2 _ _ hx5 ⟨_,rfl,hpv⟩,rfl,trivial⟩
    cases ho
    clear hd;unfold dF;go_simp;exact⟨(Ext.refl W).alloc _,XQ (ou _) (by decide) rfl HG.o,rfl,trivial⟩
   intro L vs W pR hW hR;rw[dh (by decide +kernel)];obtain⟨y,h9,q1,q2,pv,h8,q3⟩:=afh (ou _) hW (pR 8 (by omega)) (pR 9 (by omega));have HYB:=ak (And.intro q1 q2);have PE:=ak q3;clear q1 q2 q3;unfold jP.val at h8;refine lK rfl ?_
   change wpList _ _ _ [⟨none,.store _ (.tmp 16) (.tmp 90),_,_,_,none⟩] _ _
   simp only[acts,gK,List.range,List.range.loop,bF,dA,h8,h9];go_simp;have hW2:Ext wr W:=hW.1;clear hR hW pR h8 h9
   obtain⟨pb,pk,pa,pn,pc⟩:=pv;have HPP:=ak (show pb=q.value from PE.o.parts.1);obtain⟨W1,hW1⟩:∃W1,W1=oq W y (.bool pb) (.int .i64 pk) (.slice pa pn pc):=⟨_,rfl⟩
   have hyb:W.heap[y]?=some vw:=HYB.o.1;have HY1:=ak (show W1.heap[y]?=some (.cells #[.bool pb,.int .i64 pk,.slice pa pn pc] 67 (0,0)) by rw[hW1];exact xC hyb _ _ _);have hcy:dO [y] W W1:=by rw[hW1];exact xB W y (.bool pb) (.int .i64 pk) (.slice pa pn pc) (by simp)
   have hys:wr.heap.size<=y:=HYB.o.2;have Dl:=ak (show Ext wr W1 from hcy.ext hW2 (fun z hz=>by simp only[aK] at hz;omega));have aJB:=ak (show jK (mask W1 (rowOf (.slice ua k uc)++(b6+1+1)::b11::M)) q ⟨pb,pk,pa,pn,pc⟩ from PE.o.mono (dX fun k hk hn=>⟨fun hm=>hn (bH _ hm),hcy.block k hk fun hm=>hn (by simp only[aK] at hm;simp[hm])⟩));obtain⟨u0,u1,u2,uf⟩:=fZ hyb;have hlty:=dH hyb;clear f0 f1 f2 f3 f4 f5 ff e0 ef g0 g1 g2 g3 g4 g5 hyb hcy PE HYB hW2;go_upto_region 17 with fail
   unfold oq at hW1;rw[<-hW1];clear hW1 u0 u1 u2 uf hlty;have a2y:=ak (jF HOW.o Dl.o);have amw:=ak (aea.o.mono (iy _ Dl.o));have HD0:=ak (Dl.o.blk Zo.o);have HD1:=ak (Dl.o.blk qw.o);have HD2:=ak (Dl.o.blk HC2.o);have aFd:=ak (Dl.o.blk HBP.o);have fQ:=ak (kC.o.trans Dl.o);have aEZ:=ak (show b11+1<=W1.heap.size by have:=zN.o;have:=Dl.o.size;omega);clear HOW aea Zo qw HC2 HBP kC Dl OU;go_upto_region 18 with fail
   obtain⟨w6,hw6⟩:∃w6,w6=W1.alloc (.cells #[.bool pb,.int .i64 pk,.slice pa pn pc] 67):=⟨_,rfl⟩
   obtain⟨u0,u1,u2,uf⟩:=fZ HY1.o;obtain⟨p0,p1,p2,Ba⟩:=fZ aFd.o;clear hw6;have hsz1:b11+1<=W1.heap.size:=aEZ.o;go_wp2_with (at_builtin;refine fK adQ rfl _ _ rfl (b11+1) _ k _ rfl a2y.o _ 1 1 rfl ?f0 rfl ?f1 ?f2 ?f3 ?f4 ?_)
   case f0=>simp
   case f1=>simp[Value.oneCell']
   case f2=>unfold maxLen;omega
   case f3=>omega
   case f4=>omega
   intro v8 w8 ig hc8 hw8;have GK:=ak (show w8.ownsRow (b11+1) 67 3 v8 (k+1) ((pvs++[(⟨pb,pk,pa,pn,pc⟩:jP)]).flatMap jP.cells) by simpa[jP.cells] using ig);have s2:Sub (mask W1 (rowOf (.slice ua k uc)++(b6+1+1)::b11::M)) (mask w8 (rowOf v8++(b6+1+1)::b11::M)):=ags hc8 hw8;have HP8:=ak (show Oy (mask w8 (rowOf v8++(b6+1+1)::b11::M)) ((args.take (k+1)).map (CG s l f (g+1))) (pvs++[(⟨pb,pk,pa,pn,pc⟩:jP)]) by
    rw[UA hka,<-HQK.o];exact(amw.o.mono s2).snoc (aJB.o.mono s2))
   have hfr:∀z,z<b11+1->z∉rowOf (.slice ua k uc):=fun z hz hm=>by have:=(Zw.o z hm).1;omega
   have HG0:=ak (hc8.blk HD0.o (hfr _ (by have:=nH.o;omega)));have Yo:=ak (hc8.blk HD1.o (hfr _ (by have:=nH.o;omega)));have HG2:=ak (hc8.blk HD2.o (hfr _ (by have:=nH.o;omega)));have HGP:=ak (hc8.blk aFd.o (hfr _ (by omega)));have rD:=ak (hc8.ext fQ.o (fun z hz=>by have:=(Zw.o z hz).1;have:=nH.o;have:=nM.o;omega));obtain⟨a8,c8,OI⟩:=iG ig;subst OI;clear ig hc8 hw8 s2 hfr u0 u1 u2 uf p0 p1 p2 Ba hsz1;obtain⟨W3,hW3⟩:∃W3,W3=w8.setCell ⟨b11,2,none⟩ (.slice a8 (k+1) c8):=⟨_,rfl⟩
   have hc3:dO [b11] w8 W3:=by rw[hW3];exact pG _ _ _ _
   have KL:=ak (show W3.heap[b11]?=some (.cells #[.bool V,.int .i64 (-1),.slice a8 (k+1) c8] 67 (0,0)) by rw[hW3];have:=oO (i:=2) HGP.o (.slice a8 (k+1) c8);simpa using this);obtain⟨p0,p1,p2,Ba⟩:=fZ HGP.o;go_upto_region 15 with fail
   rw[<-hW3];clear hW3 p0 p1 p2 Ba;have HH0:=ak (hc3.blk HG0.o (by have:=nH.o;simp;omega));have HH1:=ak (hc3.blk Yo.o (by have:=nH.o;simp;omega));have HH2:=ak (hc3.blk HG2.o (by have:=nH.o;simp;omega));have Ad:=ak (eF GK.o hc3 (fun z hz hm=>by simp only[aK] at hm;have:=(GK.o.lt z hz).1;omega));have aRT:=ak (HP8.o.mono (kW hc3 (fun z hz=>by simp only[aK] at hz;simp[hz])));have gU:=ak (hc3.ext rD.o (fun z hz=>by simp only[aK] at hz;have:=nH.o;have:=nM.o;omega));clear hc3;go_wp2_with fail
   go_roundw
   case rel=>exact⟨k+1,pvs++[⟨pb,pk,pa,pn,pc⟩],.slice a8 (k+1) c8,by go_num,by omega,Ad.o,aRT.o,HH0.o,HH1.o,HH2.o,KL.o,gU.o⟩
   case measure=>simp[intOf];omega
  have t1:=aj ((k:Int)<(na:Int));obtain rfl:k=na:=by omega
  have hl0:args.take k=args:=aY (by have:=nK.o;omega);have HIP:=ak (show jK (mask wr ((b6+1+1)::M)) (.mk V (-1) (args.map (CG s l f (g+1)))) ⟨V,-1,ua,k,uc⟩ by
   have hln:(args.map (CG s l f (g+1))).length=k:=by simpa using nK.o.symm
   have hos:wr.ownsRow (b11+1) 67 3 (.slice ua k uc) (args.map (CG s l f (g+1))).length (pvs.flatMap jP.cells):=by rw[hln];exact HOW.o
   have hps:=aea.o;rw[hl0] at hps;obtain⟨a',c',he,hip⟩:=aaj (M:=(b6+1+1)::M) hos (fun z hz hm=>by
    have h1:=(HOW.o.lt z hz).1;have h2:=nM.o;have h3:=nH.o;simp only[bK] at hm;rcases hm with hm|hm
    ·omega
    have:=HM.o z hm;omega) (hps.mono (eG _ (fun z hz=>by simp only[bK,aT] at hz ⊢;rcases hz with h|h<;>simp[h]))) V (-1)
   simp only[Value.slice.injEq] at he;obtain⟨rfl,h2,rfl⟩:=he;rw[<-h2] at hip;exact hip)
  obtain⟨W3,hW3⟩:∃W3,W3=wr:=⟨_,rfl⟩
  rw[<-hW3] at HIP HC2 HBP kC f5 ⊢;have KL:=ak HBP.o;have HZ3:=ak HC2.o;have gU:=ak kC.o;clear hW3 hl0;obtain⟨p0,p1,p2,Ba⟩:=fZ KL.o;have hz:W3.heap[b6+1+1]?=some (.cells #[.bool false,.int .i64 0,.slice none 0 0] 67 (0,0)):=HZ3.o;obtain⟨r0,r1,r2,rf⟩:=fZ hz;have XJ:=dH hz;have HZ:=ak (show _/\_ from yu (w:=w) (M:=M) (pv:=⟨V,-1,ua,k,uc⟩) HZ3.o (by have:=nM.o;omega) gU.o HIP.o);simp only at HZ;go_wp2_with fail
  obtain⟨wz,hwz⟩:∃wz,wz=oq W3 (b6+1+1) (.bool V) (.int .i64 (-1)) (.slice ua k uc):=⟨_,rfl⟩
  rw[<-hwz] at HZ;unfold oq at hwz;rw[<-hwz];clear hwz;obtain⟨z0,z1,z2,zf⟩:=fZ HZ.o.1;refine bodyPost_ret (v:=jP.val ⟨V,-1,ua,k,uc⟩) (by simp[results,Tryz.results129,go_sem,jP.val,z0,z1,z2]) rfl ?_;rw[HQ.o];exact HZ.o.2
open Go.RowKit
def aPg (_op:Int) (b6:Nat) (sa:OA) (sn sc:Nat) (a:OA) (n c:Nat) (fa:OA) (fn fc:Nat) (k:Nat) (_name:BA) (_aw:OA) (_nw _cw:Nat) (_lo _hi:Int) (xb xo na ca:Nat) (x0:Int) (x1:BA) (rJ:OA) (rF rH:Nat) (x5 x6:Int) (rM:OA) (rG ca1:Nat)  : Nat->Value->World->Prop
 | 0,u,_=>u=.agg #[.slice sa sn sc]
 | 1,u,_=>u=.slice a n c
 | 2,u,_=>u=.pointer (some ⟨b6+1,5,none⟩)
 | 3,u,_=>u=.slice (some ⟨xb,xo,none⟩) na ca
 | 4,u,_=>u=.int .i64 ((k:Nat):Int)
 | 5,u,_=>u=.pointer (some ⟨xb,xo+k*6,none⟩)
 | 6,u,_=>u=.agg #[.int .i64 x0,.string x1,.slice rJ rF rH,.int .i64 x5,.int .i64 x6,.slice rM rG ca1]
 | 7,u,_=>u=.slice fa fn fc
 | 8,u,_=>u=u/\True
 | _,u,_=>u=u/\True
def aPf (b11 _y k:Nat) (V:Bool) (pk:Int) (pa:OA) (pn pc:Nat):Nat->Value->World->Prop
 | 0,u,_=>u=.int .i64 ((k:Nat):Int)
 | 1,u,_=>u=.agg #[.bool V,.int .i64 pk,.slice pa pn pc]
 | 2,u,W=>∃(y2:Nat),u=.slice (some ⟨y2,0,none⟩) 1 1/\(W.heap[y2]?=some (.cells #[.bool V,.int .i64 pk,.slice pa pn pc] 67 (0,0))/\b11<y2)
 | 3,u,_=>u=.pointer (some ⟨b11,1,none⟩)
 | 4,_,W=>W.heap[b11]?=some (.cells #[.bool V,.int .i64 (k:Int),.slice none 0 0] 67 (0,0))
 | _,u,_=>u=.pointer (some ⟨b11,2,none⟩)
theorem auq {s:List Attr} {l:List dY} {f:ZI} {g:Nat} {name:BA} {words:ZB} {lo hi:Int} {args:List Ex} {V:Bool} {w:World} {M:ZN} {a:OA} {n c:Nat} {fa:OA} {fn fc:Nat} {sa:OA} {sn sc:Nat} {aw:OA} {nw cw:Nat} {aa:OA} {na ca:Nat} {op:Int} (hop:op=7/\V=false\/op=8/\V=true) (hv:l7 s l f (g+1) (.mk op name words lo hi args)=V) (h:ap9 s l f g op name args lo hi V w M a n c fa fn fc sa sn sc aw nw cw aa na ca) :
  Calls Tryz.prog 129 #[.agg #[.slice sa sn sc],.slice a n c,exV op name aw nw cw lo hi aa na ca,.slice fa fn fc] w (J6 (CG s l f (g+1) (.mk op name words lo hi args)) M w):=by
 have HQ1:=ak (show ∀(k:Nat) (hk:k<args.length),(CG s l f (g+1) args[k]).value=V->(∀j (h:j<args.length),j<k->(CG s l f (g+1) args[j]).value≠V)->CG s l f (g+1) (.mk op name words lo hi args)=.mk V (k:Int) [CG s l f (g+1) args[k]] from fun k hk h1 h2=>aLn hop hk h1 h2);obtain⟨j0,hj0,hjv⟩:=atx (hop.imp And.left And.left) hv (by rcases hop with ⟨rfl,rfl⟩|⟨rfl,rfl⟩<;>rfl);have HJV:=ak hjv;clear hv hjv;have WL:=ak h.tr;have qx:=ak h.arg;have HM:=ak h.m;have HX:=ak h.x;have nK:=ak h.na;have NU:=ak h.few;clear h;unfold exV at *;obtain⟨wa,dW⟩:∃wa,wa=((w.alloc (.cells #[.slice sa sn sc] 24)).alloc (.cells #[.int .i64 op,.string name,.slice aw nw cw,.int .i64 lo,.int .i64 hi,.slice aa na ca] 45)).alloc (.cells #[.bool false,.int .i64 0,.slice none 0 0] 67):=⟨_,rfl⟩
 have hxa:Ext w wa:=by rw[dW];exact(((Ext.refl _).alloc _).alloc _).alloc _
 obtain⟨b6,hb6⟩:∃b6:Nat,b6=w.heap.size:=⟨_,rfl⟩
 have hb0:wa.heap[b6]?=some (.cells #[.slice sa sn sc] 24 (0,0)):=by rw[dW,hb6];exact dJ (dJ (dG w _))
 have hb1:wa.heap[b6+1]?=some (.cells #[.int .i64 op,.string name,.slice aw nw cw,.int .i64 lo,.int .i64 hi,.slice aa na ca] 45 (0,0)):=by rw[dW,hb6];exact dJ (eH (by simp))
 have hb2:wa.heap[b6+1+1]?=some vw:=by rw[dW,hb6];exact eH (by simp)
 have fE:=ak hxa;have HB0:=ak hb0;have HB1:=ak hb1;have HB2:=ak hb2;have nM:=ak hb6;go_enter Tryz.func129,Tryz.ntmps129
 go_upto_region 1 with fail
 rw[<-dW,<-hb6];clear dW hb6;obtain⟨f0,f1,f2,f3,f4,f5,ff⟩:=eP hb1;obtain⟨e0,ef⟩:=gQ hb0;clear hxa hb0 hb1 hb2;go_wp2_with fail
 refine(WL.o wa fE.o).mono ?_;rintro r w1 ⟨rfl,hx1⟩;go_upto_region 2 with fail
 obtain⟨b11,tN⟩:∃b11:Nat,b11=w1.heap.size:=⟨_,rfl⟩
 obtain⟨w2,hw2⟩:∃w2,w2=w1.alloc (.cells #[.bool V,.int .i64 (-1),.slice none 0 0] 67):=⟨_,rfl⟩
 have hx2:Ext wa w2:=by rw[hw2];exact hx1.alloc _
 have HP2:=ak (show w2.heap[b11]?=some (.cells #[.bool V,.int .i64 (-1),.slice none 0 0] 67 (0,0)) by rw[hw2,tN];exact dG w1 _);have zH:b6+1+1<b11:=by have:=dH (hx1.blk HB2.o);omega
 rw[<-hw2,<-tN];clear hw2 tN hx1 f0 f1 f2 f3 f4 f5 ff e0 ef;have nH:=ak zH;have gI:=ak (fE.o.trans hx2);have HS2:=ak (hx2.blk HB0.o);have HE2:=ak (hx2.blk HB1.o);have HZ2:=ak (hx2.blk HB2.o);clear hx2 zH HB0 HB1 HB2 fE WL;obtain⟨f0,f1,f2,f3,f4,f5,ff⟩:=eP HE2.o;obtain⟨e0,ef⟩:=gQ HS2.o;have t6:(op==6)=false:=by rcases hop with ⟨rfl,-⟩|⟨rfl,-⟩<;>rfl
 have t3:(op==3)=false:=by rcases hop with ⟨rfl,-⟩|⟨rfl,-⟩<;>rfl
 obtain⟨p0,p1,p2,Ba⟩:=fZ HP2.o;rcases hop with ⟨hop,hV⟩|⟨hop,hV⟩
 case' inl=>have t7:(op==7)=true:=by rw[hop];rfl
 case' inr =>
  have t7:(op==7)=false:=by rw[hop];rfl
  have t8:(op==8)=true:=by rw[hop];rfl
 all_goals
 clear hop;go_upto_region 13 with fail
 clear hV f0 f1 f2 f3 f4 f5 ff e0 ef p0 p1 p2 Ba;go_wp2_with fail
 go_loopw [15,16] (RpK (CG s l f (g+1)) args V na b6 b11 (.cells #[.slice sa sn sc] 24 (0,0)) (.cells #[.int .i64 op,.string name,.slice aw nw cw,.int .i64 lo,.int .i64 hi,.slice aa na ca] 45 (0,0)) w) (fun i _ _=>na - (intOf i).toNat)
 case atStart=>exact⟨0,rfl,by omega,fun j _ h=>by omega,HS2.o,HE2.o,HZ2.o,HP2.o,gI.o⟩
 case round =>
  obtain⟨k,rfl,hk,hno,hb0,hb1,hb2,hbp,hxr⟩:=hrel;have lZ:=ak hno;have Zo:=ak hb0;have qw:=ak hb1;have HC2:=ak hb2;have HBP:=ak hbp;have kC:=ak hxr;have zN:=ak (show b11+1<=wr.heap.size from dH hbp);have hnk:na<=1000000:=by have:=nK.o;have:=NU.o;omega
  obtain⟨e0,ef⟩:=gQ hb0;obtain⟨f0,f1,f2,f3,f4,f5,ff⟩:=eP hb1;clear hno hb0 hb1 hb2 hbp hxr HS2 HE2 HZ2 HP2 gI;by_cases hkn:k<na
  ·have hka:k<args.length:=by have:=nK.o;omega
   have t1:=ah ((k:Int)<(na:Int));have OU:=ak (show ∀y∈((b6+1+1)::b11::M),y<wr.heap.size from fun z hz=>by
    have h1:=nH.o;have h2:=nM.o;have h4:=zN.o;have h5:=HM.o;simp only[bK] at hz;rcases hz with rfl|rfl|hz
    ·omega
    ·omega
    have:=h5 z hz;have:=kC.o.size;omega)
   obtain⟨xb,xo,rfl,rJ,rF,rH,rM,rG,ca1,g0,g1,g2,g3,g4,g5,m6⟩:=iK.at args _ (iK.ext kC.o args _ HX.o) k hka;have M6:=ak m6;have sV:=fun (N:ZN) W (hW:Ext wr W) hN=>qx.o k hka _ N W (kC.o.trans hW) hN (M6.o.ext hW)
   obtain⟨q,hq⟩:∃q,q=CG s l f (g+1) args[k]:=⟨_,rfl⟩
   rw[<-hq] at sV;have HQK:=ak hq;unfold exV at sV;have xK:=ak sV;obtain⟨x0,hx0⟩:∃x0,x0=args[k].op:=⟨_,rfl⟩
   obtain⟨x1,hx1⟩:∃x1,x1=args[k].name:=⟨_,rfl⟩
   obtain⟨x5,hx5⟩:∃x5,x5=args[k].lo:=⟨_,rfl⟩
   obtain⟨x6,hx6⟩:∃x6,x6=args[k].hi:=⟨_,rfl⟩
   rw[<-hx0] at g0 xK;rw[<-hx1] at g1 xK;rw[<-hx5] at g3 xK;rw[<-hx6] at g4 xK;clear hq m6 sV hx0 hx1 hx5 hx6;go_upto_region 16 with fail
   refine fM (n:=109) (m:=10) [] (afZ wr vw (PdP q) ((b6+1+1)::b11::M) 8 9) SX (zu (aPg op b6 sa sn sc a n c fa fn fc k name aw nw cw lo hi xb xo na ca x0 x1 rJ rF rH x5 x6 rM rG ca1 )) (by kernel_rfl) (by kernel_rfl) (Nat.le_of_ble_eq_true rfl) ?gd XP ?_ ?_ ?_
   case gd =>
    intro i o j b hi ho hg;rcases ltc10 hi with rfl|rfl|rfl|rfl|rfl|rfl|rfl|rfl|rfl|rfl<;>(cases ho;first|(cases hg;done)|(cases hg;intro v W h;exact h))
   ·intro i k v W W' hi hk hne hout h hE;have hE:Ext W W':=hE;have hi':=ltc10 hi;clear hi hk hne hout;rcases hi' with rfl|rfl|rfl|rfl|rfl|rfl|rfl|rfl|rfl|rfl
    ·exact h
    ·exact h
    ·exact h
    ·exact h
    ·exact h
    ·exact h
    ·exact h
    ·exact h
    ·obtain⟨e0,h⟩:=h;exact⟨e0,trivial⟩
    obtain⟨e0,h⟩:=h;exact⟨e0,trivial⟩
   ·intro q op hq ho L vs W dR hcL hW hd ρ hρ;have hq':=ltc10 hq;clear hq;have o4:ρ (.tmp 4)=.pointer (some ⟨b6,0,none⟩):=hρ.out 4 rfl;have o1:ρ (.tmp 1)=.slice a n c:=hρ.out 1 rfl;have o6:ρ (.tmp 6)=.pointer (some ⟨b6+1,0,none⟩):=hρ.out 6 rfl;have i2:=hρ.i 2 84;have o15:ρ (.tmp 15)=.int .i64 ((k:Nat):Int):=hρ.out 15 rfl;have i3:=hρ.i 3 85;have i4:=hρ.i 4 86;have i5:=hρ.i 5 87;have o3:ρ (.tmp 3)=.slice fa fn fc:=hρ.out 3 rfl;have i0:=hρ.i 0 82;have i1:=hρ.i 1 83;have i6:=hρ.i 6 88;have i7:=hρ.i 7 89;have hc:=hρ.const;have hfn:=hρ.func;clear hρ;have HG:=ak hW;have HW:=ak (show Ext wr W from hW.1);have fV:=ak dR;clear hW dR hcL;rcases hq' with rfl|rfl|rfl|rfl|rfl|rfl|rfl|rfl|rfl|rfl
    ·cases ho
     clear hd;have g0:=HW.o.cell e0;unfold dF;go_simp;exact⟨Ext.refl W,mV (ou _) (by decide) (by decide) HG.o (Ext.refl W),rfl⟩
    ·cases ho
     clear hd;unfold dF;go_simp;exact⟨Ext.refl W,mV (ou _) (by decide) (by decide) HG.o (Ext.refl W),rfl⟩
    ·cases ho
     clear hd;unfold dF;go_simp;exact⟨Ext.refl W,mV (ou _) (by decide) (by decide) HG.o (Ext.refl W),rfl⟩
    ·cases ho
     have h2:vs 2=_:=hd ⟨2,.data⟩ (by simp) rfl;rw[h2] at i2;clear hd;have g5:=HW.o.cell f5;unfold dF;go_simp;exact⟨Ext.refl W,mV (ou _) (by decide) (by decide) HG.o (Ext.refl W),rfl⟩
    ·cases ho
     clear hd;unfold dF;go_simp;exact⟨Ext.refl W,mV (ou _) (by decide) (by decide) HG.o (Ext.refl W),rfl⟩
    ·cases ho
     have h3:vs 3=_:=hd ⟨3,.data⟩ (by simp) rfl;rw[h3] at i3;have h4:vs 4=_:=hd ⟨4,.data⟩ (by simp) rfl;rw[h4] at i4;clear hd;unfold dF;go_simp;exact⟨Ext.refl W,mV (ou _) (by decide) (by decide) HG.o (Ext.refl W),rfl⟩
    ·cases ho
     have h5:vs 5=_:=hd ⟨5,.data⟩ (by simp) rfl;rw[h5] at i5;clear hd;have g0:=HW.o.cell g0;have g1:=HW.o.cell g1;have g2:=HW.o.cell g2;have g3:=HW.o.cell g3;have g4:=HW.o.cell g4;have g5:=HW.o.cell g5;unfold dF;go_simp;exact⟨Ext.refl W,mV (ou _) (by decide) (by decide) HG.o (Ext.refl W),rfl⟩
    ·cases ho
     clear hd;unfold dF;go_simp;exact⟨Ext.refl W,mV (ou _) (by decide) (by decide) HG.o (Ext.refl W),rfl⟩
    ·cases ho
     have h0:vs 0=_:=hd ⟨0,.data⟩ (by simp) rfl;rw[h0] at i0;have h1:vs 1=_:=hd ⟨1,.data⟩ (by simp) rfl;rw[h1] at i1;have h6:vs 6=_:=hd ⟨6,.data⟩ (by simp) rfl;rw[h6] at i6;have h7:vs 7=_:=hd ⟨7,.data⟩ (by simp) rfl;rw[h7] at i7;clear hd;unfold dF;go_simp;obtain⟨Y,hY1,hY2⟩:=agK (by decide) OU.o HG.o;refine(xK.o (Y++((b6+1+1)::b11::M)) W HW.o hY1).mono ?_;rintro e5 w5 ⟨pv,rfl,hpv,hx5⟩;exact⟨_,rfl,hx5,hY2 _ _ hx5 ⟨_,rfl,hpv⟩,rfl,trivial⟩
    cases ho
    clear hd;unfold dF;go_simp;exact⟨(Ext.refl W).alloc _,XQ (ou _) (by decide) rfl HG.o,rfl,trivial⟩
   intro L vs W pR hW hR;rw[dh (by decide +kernel)];obtain⟨y,h9,q1,q2,pv,h8,q3⟩:=afh (ou _) hW (pR 8 (by omega)) (pR 9 (by omega));have HYB:=ak (And.intro q1 q2);have PE:=ak q3;clear q1 q2 q3;unfold jP.val at h8;refine lK rfl ?_
   change wpList _ _ _ [⟨none,.store _ (.tmp 16) (.tmp 90),_,_,_,none⟩] _ _
   simp only[acts,gK,List.range,List.range.loop,bF,dA,h8,h9];go_simp;have hW2:Ext wr W:=hW.1;clear hR hW pR h8 h9
   obtain⟨pb,pk,pa,pn,pc⟩:=pv;have HPP:=ak (show pb=q.value from PE.o.parts.1);obtain⟨W1,hW1⟩:∃W1,W1=oq W y (.bool pb) (.int .i64 pk) (.slice pa pn pc):=⟨_,rfl⟩
   have hyb:W.heap[y]?=some vw:=HYB.o.1;have HY1:=ak (show W1.heap[y]?=some (.cells #[.bool pb,.int .i64 pk,.slice pa pn pc] 67 (0,0)) by rw[hW1];exact xC hyb _ _ _);have hcy:dO [y] W W1:=by rw[hW1];exact xB W y (.bool pb) (.int .i64 pk) (.slice pa pn pc) (by simp)
   have hys:wr.heap.size<=y:=HYB.o.2;have Dl:=ak (show Ext wr W1 from hcy.ext hW2 (fun z hz=>by simp only[aK] at hz;omega));have aJB:=ak (show jK (mask W1 ((b6+1+1)::b11::M)) q ⟨pb,pk,pa,pn,pc⟩ from PE.o.mono (dX fun k hk hn=>⟨fun hm=>hn (bH _ hm),hcy.block k hk fun hm=>hn (by simp only[aK] at hm;simp[hm])⟩));obtain⟨u0,u1,u2,uf⟩:=fZ hyb;have hlty:=dH hyb;clear f0 f1 f2 f3 f4 f5 ff e0 ef g0 g1 g2 g3 g4 g5 hyb hcy PE HYB hW2;go_upto_region 17 with fail
   unfold oq at hW1;rw[<-hW1];clear hW1 u0 u1 u2 uf hlty;have HD0:=ak (Dl.o.blk Zo.o);have HD1:=ak (Dl.o.blk qw.o);have HD2:=ak (Dl.o.blk HC2.o);have aFd:=ak (Dl.o.blk HBP.o);have fQ:=ak (kC.o.trans Dl.o);have aEZ:=ak (show b11<y/\y<W1.heap.size from⟨by have:=zN.o;omega,dH HY1.o⟩);clear Zo qw HC2 HBP kC Dl OU hys;obtain⟨u0,u1,u2,uf⟩:=fZ HY1.o;obtain⟨p0,p1,p2,Ba⟩:=fZ aFd.o;by_cases hpV:pb=V
   ·replace hpV:=hpV.symm
    subst hpV;have HQ:=ak (show CG s l f (g+1) (.mk op name words lo hi args)=.mk V (k:Int) [q] by rw[HQK.o];exact HQ1.o k hka (by rw[<-HQK.o];exact HPP.o.symm) lZ.o);clear HQ1 lZ;go_upto_region 20 with fail
    have axt:=ak (show b11∉([]:ZN) by simp);refine fM (n:=109) (m:=6) [2,4,5] (aFg W1 b11 4) (aSZ b11 4) (zu (aPf b11 y k V pk pa pn pc)) (by kernel_rfl) (by kernel_rfl) (Nat.le_of_ble_eq_true rfl) ?gd azF ?_ ?_ ?_
    case gd =>
     intro i o j b hi ho hg;rcases ltc6 hi with rfl|rfl|rfl|rfl|rfl|rfl<;>(cases ho;first|(cases hg;done)|(cases hg;intro v W h;exact h))
    ·intro i k v W W' hi hk hne hout h hE;have hi':=ltc6 hi;clear hi hk;by_cases hk:k=4
     ·subst hk;have hE:dO [b11] W W':=by have h9:=hE;unfold aSZ at h9;rwa [dw rfl] at h9
      rcases hi' with rfl|rfl|rfl|rfl|rfl|rfl
      ·exact h
      ·exact h
      ·obtain⟨y2,e0,h⟩:=h;exact⟨y2,e0,⟨hE.blk h.1 (by have:=h.2;simp;omega),h.2⟩⟩
      ·exact h
      ·exact absurd rfl hne
      exact h
     have hE:Ext W W':=(by have h9:=hE;unfold aSZ at h9;rwa [dh hk] at h9)
     rcases hi' with rfl|rfl|rfl|rfl|rfl|rfl
     ·exact h
     ·exact h
     ·obtain⟨y2,e0,h⟩:=h;exact⟨y2,e0,⟨hE.blk h.1,h.2⟩⟩
     ·exact h
     ·exact hE.blk h
     exact h
    ·intro q op hq ho L vs W dR hcL hW hd ρ hρ;have hq':=ltc6 hq;clear hq;have o15:ρ (.tmp 15)=.int .i64 ((k:Nat):Int):=hρ.out 15 rfl;have o16:ρ (.tmp 16)=.pointer (some ⟨y,0,none⟩):=hρ.out 16 rfl;have i1:=hρ.i 1 104;have o9:ρ (.tmp 9)=.pointer (some ⟨b11,0,none⟩):=hρ.out 9 rfl;have i3:=hρ.i 3 106;have i0:=hρ.i 0 103;have hc:=hρ.const;have hfn:=hρ.func;clear hρ;have HG:=ak hW;have HW:=ak (show dO [b11] W1 W from hW.1);have fV:=ak dR;clear hW dR hcL;rcases hq' with rfl|rfl|rfl|rfl|rfl|rfl
     ·cases ho
      clear hd;unfold dF;go_simp;exact⟨Ext.refl _,V5 HG.o (Ext.refl _),rfl⟩
     ·cases ho
      clear hd;have g0:=jh HW.o u0 (by have:=aEZ.o;simp;omega);have g1:=jh HW.o u1 (by have:=aEZ.o;simp;omega);have g2:=jh HW.o u2 (by have:=aEZ.o;simp;omega);unfold dF;go_simp;exact⟨Ext.refl _,V5 HG.o (Ext.refl _),rfl⟩
     ·cases ho
      have h1:vs 1=_:=hd ⟨1,.data⟩ (by simp) rfl;rw[h1] at i1;clear hd;unfold dF;go_simp;exact⟨(Ext.refl W).alloc _,V5 HG.o ((Ext.refl W).alloc _),W.heap.size,rfl,dG W _,by have:=aEZ.o;have:=HW.o.size;omega⟩
     ·cases ho
      clear hd;unfold dF;go_simp;exact⟨Ext.refl _,V5 HG.o (Ext.refl _),rfl⟩
     ·cases ho
      have h3:vs 3=_:=hd ⟨3,.data⟩ (by simp) rfl;rw[h3] at i3;have h0:vs 0=_:=hd ⟨0,.data⟩ (by simp) rfl;rw[h0] at i0;clear hd;have hpb:=(HG.o.2 fV.o).blk aFd.o;obtain⟨v0,v1,v2,vf⟩:=fZ hpb;unfold dF;go_simp;have hcs:dO [b11] W (W.setCell ⟨b11,1,none⟩ (.int .i64 (k:Int))):=pG _ _ _ _;have hst:(W.setCell ⟨b11,1,none⟩ (.int .i64 (k:Int))).heap[b11]?=some (.cells #[.bool V,.int .i64 (k:Int),.slice none 0 0] 67 (0,0)):=by have:=oO (i:=1) hpb (.int .i64 (k:Int));simpa using this
      exact⟨hcs,aHS HG.o hcs,hst⟩
     cases ho
     clear hd;unfold dF;go_simp;exact⟨Ext.refl _,V5 HG.o (Ext.refl _),rfl⟩
    intro L vs W pR hW hR;rw[dh (by decide +kernel)];obtain⟨y2,h2,hs2⟩:∃(y2:Nat),vs 2=.slice (some ⟨y2,0,none⟩) 1 1/\(W.heap[y2]?=some (.cells #[.bool V,.int .i64 pk,.slice pa pn pc] 67 (0,0))/\b11<y2):=hR 2 (by simp) (by omega);have HS2:=ak hs2;clear hs2;have xI:=ak (show W.heap[b11]?=some (.cells #[.bool V,.int .i64 (k:Int),.slice none 0 0] 67 (0,0)) from hR 4 (by simp) (by omega));have h5:vs 5=.pointer (some ⟨b11,2,none⟩):=hR 5 (by simp) (by omega);refine lK rfl ?_
    change wpList _ _ _ [⟨none,.store _ (.tmp 107) (.tmp 105),_,_,_,none⟩] _ _
    simp only[acts,gK,List.range,List.range.loop,bF,dA,h2,h5];go_simp;have hW2:dO [b11] W1 W:=hW.1;clear hR hW pR h2 h5;have PD:=ak HS2.o;have HSB:=ak xI.o;clear HS2 xI u0 u1 u2 uf p0 p1 p2 Ba;have qC:=ak hW2;obtain⟨W3,hW3⟩:∃W3,W3=W.setCell ⟨b11,2,none⟩ (.slice (some ⟨y2,0,none⟩) 1 1):=⟨_,rfl⟩
    have hpw:W.heap[b11]?=some (.cells #[.bool V,.int .i64 (k:Int),.slice none 0 0] 67 (0,0)):=HSB.o;have hc3:dO [b11] W W3:=by rw[hW3];exact pG _ _ _ _
    have KL:=ak (show W3.heap[b11]?=some (.cells #[.bool V,.int .i64 (k:Int),.slice (some ⟨y2,0,none⟩) 1 1] 67 (0,0)) by rw[hW3];have:=oO (i:=2) hpw (.slice (some ⟨y2,0,none⟩) 1 1);simpa using this);obtain⟨p0,p1,p2,Ba⟩:=fZ hpw;go_upto_region 21 with fail
    rw[<-hW3];clear hW3 p0 p1 p2 Ba hW2 hpw;have HZ3:=ak (hc3.blk (qC.o.blk HD2.o (by have:=nH.o;simp;omega)) (by have:=nH.o;simp;omega));have gU:=ak (hc3.ext (qC.o.ext fQ.o (fun z hz=>by simp only[aK] at hz;have:=nH.o;have:=nM.o;omega)) (fun z hz=>by simp only[aK] at hz;have:=nH.o;have:=nM.o;omega));have HY3:=ak (hc3.blk PD.o.1 (by have:=PD.o.2;simp;omega));have Zk:=ak (show jK (mask W3 ((b6+1+1)::M)) q ⟨V,pk,pa,pn,pc⟩ from((aJB.o.mono (kW qC.o (fun z hz=>by simp only[aK] at hz;simp[hz]))).mono (kW hc3 (fun z hz=>by simp only[aK] at hz;simp[hz]))).mono (eG _ (fun z hz=>by simp only[bK] at hz ⊢;rcases hz with h|h<;>simp[h])));have hys:=PD.o.2;clear hc3;have HIP:=ak (xE (v:=⟨V,pk,pa,pn,pc⟩) (t:=67) HY3.o (fun hm=>by
     have h1:=nH.o;have h2:=nM.o;simp only[bK] at hm;rcases hm with hm|hm
     ·omega
     have:=HM.o _ hm;omega) Zk.o V (k:Int))
    obtain⟨p0,p1,p2,Ba⟩:=fZ KL.o;have hz:W3.heap[b6+1+1]?=some (.cells #[.bool false,.int .i64 0,.slice none 0 0] 67 (0,0)):=HZ3.o;obtain⟨r0,r1,r2,rf⟩:=fZ hz;have XJ:=dH hz;have HZ:=ak (show _/\_ from yu (w:=w) (M:=M) (pv:=⟨V,k,some ⟨y2,0,none⟩,1,1⟩) HZ3.o (by have:=nM.o;omega) gU.o HIP.o);simp only at HZ;go_wp2_with fail
    obtain⟨wz,hwz⟩:∃wz,wz=oq W3 (b6+1+1) (.bool V) (.int .i64 (k:Int)) (.slice (some ⟨y2,0,none⟩) 1 1):=⟨_,rfl⟩
    rw[<-hwz] at HZ;unfold oq at hwz;rw[<-hwz];clear hwz;obtain⟨z0,z1,z2,zf⟩:=fZ HZ.o.1;refine bodyPost_ret (v:=jP.val ⟨V,k,some ⟨y2,0,none⟩,1,1⟩) (by simp[results,Tryz.results129,go_sem,jP.val,z0,z1,z2]) rfl ?_;rw[HQ.o];exact HZ.o.2
   obtain⟨nV,hnV⟩:∃nV,nV=pb:=⟨_,rfl⟩
   have t9:(pb==V)=false:=by simp[hpV]
   have HNP:=ak hpV;clear hpV hnV;go_upto_region 15 with fail
   clear u0 u1 u2 uf p0 p1 p2 Ba;go_wp2_with fail
   go_roundw
   case rel=>exact⟨k+1,by go_num,by omega,fun j hj hjk=>by
    rcases cO j k with h|h
    ·exact lZ.o j hj h
    have:j=k:=by omega
    subst this;rw[<-HQK.o,<-HPP.o];exact HNP.o,HD0.o,HD1.o,HD2.o,aFd.o,fQ.o⟩
   case measure=>simp[intOf];omega
  exfalso;exact lZ.o j0 hj0 (by have:=nK.o;omega) (by rw[La];exact HJV.o)
theorem aeA (s:List Attr) (l:List dY) (f:ZI) (hc:Chk s l) (hfa:jq s f=true) (hsf:∀x∈s,x.fits) (a:OA) (n c:Nat) (fa:OA) (fn fc:Nat) (sa:OA) (sn sc:Nat):∀(g m:Nat) (e:Ex) (ev:Value) (M:ZN) (w:World),e.size<=m->m<=1000000->jA e->fB s l e=0->mG l g e<=2000->(∀y∈M,y<w.heap.size)->fJ w s (.agg #[.slice sa sn sc])->eX w l a n c->fO w f fa fn->fC w e ev ->
  Calls Tryz.prog 129 #[.agg #[.slice sa sn sc],.slice a n c,ev,.slice fa fn fc] w (J6 (CG s l f g e) M w):=by
 intro g;induction g with
 | zero=>intro m e ev M w _ _ _ _ h;simp[mG] at h
 | succ g ihg =>
  intro m;induction m with
  | zero=>intro e ev M w h;have:=size_pos e;omega
  | succ m ihm =>
   intro e ev M w hm YJ hok hnd hex hM hs hl hi he;have Ns:=Lc hc hok hnd;have hfw:=Qe hok hnd;have WL:=fun W (hW:Ext w W)=>BN s l f hc hfa hsf a n c fa fn fc (g+1) (m+1) e ev (.agg #[.slice sa sn sc]) W hm YJ hok hnd hex (hs.mono hW.sub) (hl.ext hW) (he.ext hW) (hi.mono hW.sub)
   obtain⟨-,Zd⟩:=Bv hnd;obtain⟨ald,Zc⟩:=kP hok;have Ze:=Rn (D:=Zu l g) (e:=e) (by rw[<-mW];exact hex);have aaL:=XW (D:=Zu l g) (e:=e) (by rw[<-mW];exact hex);have qx:=fun (j:Nat) (hj:j<e.args.length) (xv:Value) (N:ZN) (W:World) (hW:Ext w W) (hN:∀y∈N,y<W.heap.size) (hxv:fC W e.args[j] xv)=>ihm e.args[j] xv N W (by have h1:=iq e.args j hj;have h2:=gV e.args (j+1);have h3:=e.size_eq;omega) (by omega) (Zc _ (aI hj)) (Zd j hj) (by rw[mW];exact Ze j hj) hN (hs.mono hW.sub) (hl.ext hW) (hi.mono hW.sub) hxv
   have Jb:=fun (h3:e.op=3) (d:Nat) (hdd:fG l e.name=some d) (xv:Value) (N:ZN) (W:World) (hW:Ext w W) (hN:∀y∈N,y<W.heap.size) (hxv:fC W (l.getD d iT).cond xv)=>ihg 300 (l.getD d iT).cond xv N W (hc.cond (lG hdd).1).2.2 (by omega) (hc.cond (lG hdd).1).1 (hc.cond (lG hdd).1).2.1 (aaL h3 (by unfold Zu;rw[hdd];rfl)) hN (hs.mono hW.sub) (hl.ext hW) (hi.mono hW.sub) hxv
   have aDx:=(kN hc.DK).2.1;have yD:=fun W (hW:Ext w W)=>Fz s (.agg #[.slice sa sn sc]) e.name W (hs.mono hW.sub) (by omega)
   have HDN:=fun W (hW:Ext w W)=>(BP l a n c e.name W (hl.ext hW) (by have:=hl.len;have:=hc.len;omega)).mono (R':=dN (yw (fG l e.name)) W) fun r w' h=>⟨h.1,h.2 ▸ Ext.refl _⟩
   obtain⟨aw,nw,cw,aa,na,ca,rfl,hw,hna,hca,ha,hx⟩:=he.parts;have Q9:e.args.length<=1000000:=by have h1:=iI e.args;have h3:=e.size_eq;omega
   obtain⟨op,name,words,lo,hi',args⟩:=e;simp only[Ex.op,Ex.name,Ex.words,Ex.lo,Ex.hi,Ex.args] at *;have HI:∀V,l7 s l f (g+1) (.mk op name words lo hi' args)=V->ap9 s l f g op name args lo hi' V w M a n c fa fn fc sa sn sc aw nw cw aa na ca:=fun V hV=>⟨by rw[<-hV];exact WL,qx,hM,hx,hna,Q9⟩
   rcases Ns with ⟨h6,hdn⟩|⟨rfl,hat,d,hdf⟩|⟨rfl,hl1⟩|rfl|rfl
   ·refine aCA rfl h6 hdn (fun h3=>?_) yD (HI _ rfl);subst h3;rcases hfw h6 hdn with h|h|⟨-,h⟩|⟨h,-⟩|⟨h,-⟩
    ·omega
    ·omega
    ·exact h
    ·omega
    omega
   ·exact aGh rfl hdf hat yD hl HDN (Jb rfl d hdf) (HI _ rfl)
   ·exact aGf rfl hl1 (HI _ rfl)
   ·cases hv:l7 s l f (g+1) (.mk 7 name words lo hi' args)
    ·exact auq (Or.inl ⟨rfl,rfl⟩) hv (HI _ hv)
    exact aur (Or.inl ⟨rfl,rfl⟩) hv (HI _ hv)
   cases hv:l7 s l f (g+1) (.mk 8 name words lo hi' args)
   ·exact aur (Or.inr ⟨rfl,rfl⟩) hv (HI _ hv)
   exact auq (Or.inr ⟨rfl,rfl⟩) hv (HI _ hv)
theorem ara:pr0.fit:=.mk (by simp) (by simp)
theorem aF2 {d:Bool} {l:List Pr} (hl:l.length<=1000000000000000) (h:∀q∈l,q.fit):(agi d l).fit:=by
 unfold agi;split
 ·rename_i k hk
  refine .mk (by simp) fun q hq=>?_
  simp only[aK] at hq;subst hq;by_cases hkl:k<l.length
  ·rw[List.getD_eq_getElem?_getD,aZ hkl];exact h _ (aI hkl)
  rw[List.getD_eq_getElem?_getD,List.getElem?_eq_none (by omega)];exact ara
 exact .mk hl h
theorem aLG {s:List Attr} {f:ZI} {D:BA->Option Pr} (hD:∀x p,D x=some p->p.fit):∀(m:Nat) (e:Ex),e.size<=m->m<=1000000->(pfE s f D e).fit:=by
 intro m;induction m with
 | zero=>intro e h;have:=size_pos e;omega
 | succ m ih =>
  intro e hm hM;have hargs:∀x∈e.args,(pfE s f D x).fit:=fun x hx=>by
   obtain⟨j,hj,rfl⟩:=bM hx;have h1:=iq e.args j hj;have h2:=gV e.args (j+1);have h3:=e.size_eq;exact ih _ (by omega) (by omega)
  have hlen:e.args.length<=1000000:=by have h1:=iI e.args;have h3:=e.size_eq;omega
  rw[aPq];by_cases h6:e.op=6
  ·rw[dw h6,aA1];unfold notP;refine .mk (by simp) fun q hq=>?_
   simp only[aK] at hq;subst hq;cases ha:e.args with
   | nil=>exact ara
   | cons x r=>exact hargs x (by rw[ha];simp)
  rw[dh h6];by_cases h78:e.op=7\/e.op=8
  ·rw[dw h78,TG];refine aF2 (by simp;omega) fun q hq=>?_
   obtain⟨x,hx,rfl⟩:=List.mem_map.1 hq;exact hargs x hx
  rw[dh h78];unfold aPj;split
  ·rename_i q hq
   refine .mk (by simp) fun p hp=>?_
   simp only[aK] at hp;subst hp;by_cases h3:e.op=3
   ·rw[dw h3] at hq;exact hD _ _ hq
   rw[dh h3] at hq;cases hq
  exact .mk (by simp) (by simp)
theorem arf {s:List Attr} {l:List dY} {f:ZI} (hc:Chk s l):∀(k:Nat) (e:Ex),e.size<=1000000->(CG s l f k e).fit:=by
 intro k;induction k with
 | zero=>intro e _;exact ara
 | succ k ih =>
  intro e he;rw[CG];refine aLG (fun x p hp=>?_) 1000000 e he (bg _);cases hd:fG l x with
  | none=>rw[hd] at hp;cases hp
  | some d =>
   rw[hd] at hp;simp only[Option.map_some,Option.some.injEq] at hp;rw[<-hp];exact ih _ (bC (hc.cond (lG hd).1).2.2 (by omega))
end Go.Proofs.YtefjomofjejklaaGreatDoor
