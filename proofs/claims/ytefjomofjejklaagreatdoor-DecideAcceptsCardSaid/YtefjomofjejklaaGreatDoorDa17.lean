/- Joined. -/
import Derived.Test.YtefjomofjejklaaGreatDoorDa16
namespace Go.Proofs.YtefjomofjejklaaGreatDoor
set_option maxRecDepth 100000
set_option maxHeartbeats 32000000
open Go.RowKit
def aRQ (d ld cb:Nat) (v:fM) (bd _b6 eZ:Nat) (sa:OA) (sn sc:Nat) (n c:Nat) (fa:OA) (fn fc:Nat) (N:ZN) (Q:Pr->Prop)  : Nat->Value->World->Prop
 | 0,u,_=>u=.pointer (some ⟨bd,0,none⟩)
 | 1,u,_=>u=.agg #[.slice sa sn sc]
 | 2,u,_=>u=.slice (some ⟨cb,ld,none⟩) n c
 | 3,u,_=>u=.slice (some ⟨cb,ld,none⟩) n c
 | 4,u,_=>u=.int .i64 ((d:Nat):Int)
 | 5,u,_=>u=.pointer (some ⟨cb,ld+d*10,none⟩)
 | 6,u,_=>u=.pointer (some ⟨cb,ld+d*10+2,none⟩)
 | 7,u,_=>u=.agg #[.int .i64 v.x.op,.string v.x.name,.slice v.x.aw v.x.nw v.x.cw,.int .i64 v.x.lo,.int .i64 v.x.hi,.slice v.x.aa v.x.na v.x.ca]
 | 8,u,_=>u=.slice fa fn fc
 | 9,u,W=>∃(q:Pr) (qv:gS),u=.agg #[.bool qv.value,.int .i64 qv.pick,.slice qv.a qv.n qv.c]/\(gL (mask W N) q qv/\Q q)
 | 10,u,W=>∃(q:Pr) (qv:gS) (y:Nat),u=.slice (some ⟨y,0,none⟩) 1 1/\(W.heap[y]?=some (.cells #[.bool qv.value,.int .i64 qv.pick,.slice qv.a qv.n qv.c] 67 (0,0))/\eZ<y/\gL (mask W N) q qv/\Q q)
 | _,u,_=>u=.pointer (some ⟨eZ,2,none⟩)
theorem aIq {s:List Attr} {l:List cK} {f:ZI} {g:Nat} {name:BA} {words:ZB} {lo hi:Int} {args:List Ex} {V:Bool} {w0 w:World} {bd:Nat} {M:ZN} {a:OA} {n c:Nat} {fa:OA} {fn fc:Nat} {sa:OA} {sn sc:Nat} {aw:OA} {nw cw:Nat} {aa:OA} {na ca:Nat} {d:Nat} (hv:jN s l f (g+1) (.mk 3 name words lo hi args)=V) (hdf:dz l name=some d) (ZZ:findAt l name=some d) (hat:eO s name=none) (aDg:n<=100)
  (hix:∀W,ct [bd] w W->Calls Tryz.prog 91 #[.agg #[.slice sa sn sc],.string name] W (cz (sX (eO s name)) W)) (hcl:cZ (mask w [bd]) l a n c)
  (GL:∀(xv:Value) (N:ZN) (W:World),ct [bd] w W->(∀y∈N,y<W.heap.size)->cg w0 W bd->dw (mask W [bd]) (l.getD d fC).cond xv->Calls Tryz.prog 132 #[.pointer (some ⟨bd,0,none⟩),.agg #[.slice sa sn sc],.slice a n c,xv,.slice fa fn fc] W (aic (fun p=>js s l f g (l.getD d fC).cond p=true/\p.iT 1000000) w0 bd N W))
  (h:alN s l f g 3 name args lo hi V w0 w bd M a n c fa fn fc sa sn sc aw nw cw aa na ca) :
  Calls Tryz.prog 132 #[.pointer (some ⟨bd,0,none⟩),.agg #[.slice sa sn sc],.slice a n c,fN 3 name aw nw cw lo hi aa na ca,.slice fa fn fc] w (aic (fun p=>js s l f (g+1) (.mk 3 name words lo hi args) p=true/\p.iT 1000000) w0 bd M w):=by
 have HQ:=ai (show ∀q,js s l f g (l.getD d fC).cond q=true->js s l f (g+1) (.mk 3 name words lo hi args) (.mk V (-1) [q])=true from fun q hq=>by rw[<-hv];exact aHh hdf hq);have hdl:=(ju hdf).1;have HFI:=ai ZZ;have qE:=ai hat;have tF:=ai hix;have qC:=ai hcl;have HDE:=ai GL;have hdn:d<n:=by have:=hcl.len;omega
 have QL:=ai hdl;clear hv hdf ZZ hat hix hcl GL hdl;have OL:=ai h.tr;have HTA:=ai h.ta;have mF:=ai h.arg;have HM:=ai h.m;have HD:=ai h.d;have HX:=ai h.x;have kJ:=ai h.na;have G8:=ai h.iT;have qL:=h.d.lt;have Ng:=ai (show w0.heap.size<=w.heap.size by obtain⟨_,_,_,_,_,_,_,_,hxw,_⟩:=h.d;exact hxw.size);clear h;unfold fN at *;obtain⟨wa,cN⟩:∃wa,wa=((w.alloc (.cells #[.slice sa sn sc] 24)).alloc (.cells #[.int .i64 3,.string name,.slice aw nw cw,.int .i64 lo,.int .i64 hi,.slice aa na ca] 45)).alloc (.cells #[.bool false,.int .i64 0,.slice none 0 0] 67):=⟨_,rfl⟩
 have gB:Ext w wa:=by rw[cN];exact(((Tz _).alloc _).alloc _).alloc _
 obtain⟨b6,lN⟩:∃b6:Nat,b6=w.heap.size:=⟨_,rfl⟩
 have hb0:wa.heap[b6]?=some (.cells #[.slice sa sn sc] 24 (0,0)):=by rw[cN,lN];exact bU (bU (bR w _))
 have hb1:wa.heap[b6+1]?=some (.cells #[.int .i64 3,.string name,.slice aw nw cw,.int .i64 lo,.int .i64 hi,.slice aa na ca] 45 (0,0)):=by rw[cN,lN];exact bU (cT (by simp))
 have hb2:wa.heap[b6+1+1]?=some qI:=by rw[cN,lN];exact cT (by simp)
 have dm:=ai gB;have iO:=ai hb0;have gG:=ai hb1;have fY:=ai hb2;have jO:=ai (show bd<b6/\b6=w.heap.size from⟨by omega,lN⟩);go_enter Tryz.func132,Tryz.ntmps132
 go_upto_region 1 with fail
 rw[<-cN,<-lN];clear cN lN qL;obtain⟨f0,f1,f2,f3,f4,f5,ff⟩:=cX hb1;obtain⟨e0,ef⟩:=dO hb0;clear gB hb0 hb1 hb2;go_wp2_with fail
 refine(OL.o wa (dm.o.cR _)).mono ?_;rintro r w1 ⟨rfl,hx1⟩;go_upto_region 2 with fail
 obtain⟨eZ,oN⟩:∃eZ:Nat,eZ=w1.heap.size:=⟨_,rfl⟩
 obtain⟨w2,hw2⟩:∃w2,w2=w1.alloc (.cells #[.bool V,.int .i64 (-1),.slice none 0 0] 67):=⟨_,rfl⟩
 have hx2:Ext wa w2:=by rw[hw2];exact hx1.alloc _
 have oZ:=ai (show w2.heap[eZ]?=some (.cells #[.bool V,.int .i64 (-1),.slice none 0 0] 67 (0,0)) by rw[hw2,oN];exact bR w1 _);have uN:b6+1+1<eZ:=by have:=bS (hx1.blk fY.o);omega
 rw[<-hw2,<-oN];clear hw2 oN hx1 f0 f1 f2 f3 f4 f5 ff e0 ef;have kB:=ai uN;have dN:=ai (dm.o.trans hx2);have oB:=ai (hx2.blk iO.o);have kH:=ai (hx2.blk gG.o);have IE:=ai (hx2.blk fY.o);have pY:=ai (HD.o.ext (dm.o.trans hx2));have iP:=ai ((dm.o.trans hx2).cR [bd]);clear hx2 uN iO gG fY dm OL;obtain⟨f0,f1,f2,f3,f4,f5,ff⟩:=cX kH.o;obtain⟨e0,ef⟩:=dO oB.o;have FO:=ai (tF.o w2 iP.o);rw[qE.o,Al] at FO;clear HTA mF HX kJ G8;go_wp2_with fail
 refine FO.o.mono ?_;rintro r w3 ⟨rfl,hx3⟩;have El:=ai (hx3.blk oB.o);have Vr:=ai (hx3.blk kH.o);have EN:=ai (hx3.blk oZ.o);have HZ3:=ai (hx3.blk IE.o);have yz:=ai (pY.o.ext hx3);have oD:=ai (iP.o.then (hx3.cR [bd]));clear hx3 f0 f1 f2 f3 f4 f5 ff e0 ef FO oB kH oZ IE pY iP;have Eo:=ai (Gs l a n c name w3 ((qC.o.mono (cP oD.o (by simp))).mono (cC _ _)) (by omega));rw[HFI.o] at Eo;obtain⟨f0,f1,f2,f3,f4,f5,ff⟩:=cX Vr.o;obtain⟨e0,ef⟩:=dO El.o;obtain⟨cb,ld,v,rfl,hcv,hrow⟩:=qC.o.at QL.o;have aq3:cb∉[bd]:=fun hm=>by have:=hrow.BB.1;rw[eA,bM hm] at this;cases this
 obtain⟨-,-,m2,m3,m4,m5,m6,m7,-,-⟩:=hrow.BB;have c2:=fR oD.o (cC _ _ _ _ m2) aq3;have c3:=fR oD.o (cC _ _ _ _ m3) aq3;have c4:=fR oD.o (cC _ _ _ _ m4) aq3;have c5:=fR oD.o (cC _ _ _ _ m5) aq3;have c6:=fR oD.o (cC _ _ _ _ m6) aq3;have c7:=fR oD.o (cC _ _ _ _ m7) aq3;have Gj:=ai aq3;have M6:=ai (show dw (mask w [bd]) (l.getD d fC).cond v.x.val by rw[ry QL.o];exact hcv.2.2.1);have YH:=ai (show b6∉[bd] by have:=jO.o;simp;omega);have HN7:=ai (show b6+1∉[bd] by have:=jO.o;simp;omega);obtain⟨Q,hQ⟩:∃Q:Pr->Prop,Q=fun q=>js s l f g (l.getD d fC).cond q=true/\q.iT 1000000:=⟨_,rfl⟩
 have HQD:=ai hQ;obtain⟨N,hN⟩:∃N:ZN,N=bd::(b6+1+1)::eZ::M:=⟨_,rfl⟩
 have qP:=ai hN;have pX:=ai (show bd∈N by rw[hN];simp);have oH:=fun W (hW:ct [bd] w3 W) (hd:cg w0 W bd)=>HDE.o _ N W (oD.o.then hW) (fun z hz=>by
  have h1:=kB.o;have h2:=jO.o;have h3:=hW.size;have h4:=bS EN.o;have h5:=HM.o;rw[hN] at hz;simp only[bz] at hz;rcases hz with rfl|rfl|rfl|hz
  ·omega
  ·omega
  ·omega
  have:=h5 z hz;have:=oD.o.size;omega) hd (M6.o.mono (cP (oD.o.then hW) (by simp)))
 rw[<-hQ] at oH;unfold dK.val fN at oH;have sr:=ai oH;have HLW:=ai (bS EN.o);clear hQ hN m2 m3 m4 m5 m6 m7 hcv hrow oH aq3 qC;go_wp2_with fail
 refine Eo.o.mono ?_;rintro r w4 ⟨rfl,rfl⟩;rw[nX];go_upto_region 9 with fail
 refine fk (m:=12) [10,11] (GnG w0 w3 bd) (GnE bd) (uz (aRQ d ld cb v bd b6 eZ sa sn sc n c fa fn fc N Q )) (by kernel_rfl) (by kernel_rfl) ⟨yz.o.ext ((Tz w3).drew),((Tz w3).drew).cR _⟩ ?_ ?_ ?_
 ·intro i k v W W' hi hk hne hout h hE;have hE:ct [bd] W W':=hE;have hi':=ltc12 hi;clear hi hk hne hout;rcases hi' with rfl|rfl|rfl|rfl|rfl|rfl|rfl|rfl|rfl|rfl|rfl|rfl
  ·exact h
  ·exact h
  ·exact h
  ·exact h
  ·exact h
  ·exact h
  ·exact h
  ·exact h
  ·exact h
  ·obtain⟨q,qv,e0,h⟩:=h;exact⟨q,qv,e0,⟨h.1.mono (cP hE pX.o),h.2⟩⟩
  ·obtain⟨q,qv,y,e0,h⟩:=h;exact⟨q,qv,y,e0,⟨hE.blk h.1 (by have:=h.2.1;have:=kB.o;have:=jO.o;simp;omega),h.2.1,h.2.2.1.mono (cP hE pX.o),h.2.2.2⟩⟩
  exact h
 ·intro q op hq ho vs W hW hd ρ hρ;have jA:=ltc12 hq;clear hq;have o0:ρ (.tmp 0)=.pointer (some ⟨bd,0,none⟩):=hρ.out 0 rfl;have o6:ρ (.tmp 6)=.pointer (some ⟨b6,0,none⟩):=hρ.out 6 rfl;have o2:ρ (.tmp 2)=.slice (some ⟨cb,ld,none⟩) n c:=hρ.out 2 rfl;have o14:ρ (.tmp 14)=.int .i64 ((d:Nat):Int):=hρ.out 14 rfl;have i3:=hρ.i 3 60;have i4:=hρ.i 4 61;have i5:=hρ.i 5 62;have i6:=hρ.i 6 63;have o4:ρ (.tmp 4)=.slice fa fn fc:=hρ.out 4 rfl;have i0:=hρ.i 0 57;have i1:=hρ.i 1 58;have i2:=hρ.i 2 59;have i7:=hρ.i 7 64;have i8:=hρ.i 8 65;have i9:=hρ.i 9 66;have o11:ρ (.tmp 11)=.pointer (some ⟨eZ,0,none⟩):=hρ.out 11 rfl;have hc:=hρ.const;have hfn:=hρ.func;clear hρ;have HW:=ai (show cg w0 W bd/\ct [bd] w3 W from hW);rcases jA with rfl|rfl|rfl|rfl|rfl|rfl|rfl|rfl|rfl|rfl|rfl|rfl
  ·cases ho
   clear hd;unfold bQ;go_simp;exact⟨ct.refl _ _,rfl⟩
  ·cases ho
   clear hd;have g0:=fR HW.o.2 e0 YH.o;unfold bQ;go_simp;exact⟨ct.refl _ _,rfl⟩
  ·cases ho
   clear hd;unfold bQ;go_simp;exact⟨ct.refl _ _,rfl⟩
  ·cases ho
   clear hd;unfold bQ;go_simp;exact⟨ct.refl _ _,rfl⟩
  ·cases ho
   clear hd;unfold bQ;go_simp;exact⟨ct.refl _ _,rfl⟩
  ·cases ho
   have h3:vs 3=_:=hd ⟨3,.data⟩ (by simp) rfl;rw[h3] at i3;have h4:vs 4=_:=hd ⟨4,.data⟩ (by simp) rfl;rw[h4] at i4;clear hd;unfold bQ;go_simp;exact⟨ct.refl _ _,rfl⟩
  ·cases ho
   have h5:vs 5=_:=hd ⟨5,.data⟩ (by simp) rfl;rw[h5] at i5;clear hd;unfold bQ;go_simp;exact⟨ct.refl _ _,rfl⟩
  ·cases ho
   have h6:vs 6=_:=hd ⟨6,.data⟩ (by simp) rfl;rw[h6] at i6;clear hd;have g0:=fR HW.o.2 c2 Gj.o;have g1:=fR HW.o.2 c3 Gj.o;have g2:=fR HW.o.2 c4 Gj.o;have g3:=fR HW.o.2 c5 Gj.o;have g4:=fR HW.o.2 c6 Gj.o;have g5:=fR HW.o.2 c7 Gj.o;unfold bQ;go_simp;exact⟨ct.refl _ _,rfl⟩
  ·cases ho
   clear hd;unfold bQ;go_simp;exact⟨ct.refl _ _,rfl⟩
  ·cases ho
   have h0:vs 0=_:=hd ⟨0,.data⟩ (by simp) rfl;rw[h0] at i0;have h1:vs 1=_:=hd ⟨1,.data⟩ (by simp) rfl;rw[h1] at i1;have h2:vs 2=_:=hd ⟨2,.data⟩ (by simp) rfl;rw[h2] at i2;have h7:vs 7=_:=hd ⟨7,.data⟩ (by simp) rfl;rw[h7] at i7;have h8:vs 8=_:=hd ⟨8,.data⟩ (by simp) rfl;rw[h8] at i8;clear hd;unfold bQ;go_simp;refine(sr.o W HW.o.2 HW.o.1).mono ?_;rintro e5 w5 ⟨q,qv,rfl,hq1,hq2,oW,hc5⟩;exact⟨_,rfl,hc5,⟨oW,HW.o.2.then hc5⟩,q,qv,rfl,hq2,hq1⟩
  ·cases ho
   obtain⟨q,qv,h9,VA⟩:∃(q:Pr) (qv:gS),vs 9=.agg #[.bool qv.value,.int .i64 qv.pick,.slice qv.a qv.n qv.c]/\(gL (mask W N) q qv/\Q q):=hd ⟨9,.data⟩ (by simp) rfl;have AM:=ai VA;clear VA;rw[h9] at i9;clear hd;unfold bQ;go_simp;exact⟨((Tz W).alloc _).cR _,⟨HW.o.1.ext ((Tz W).alloc _),HW.o.2.then (((Tz W).alloc _).cR _)⟩,q,qv,W.heap.size,rfl,bR W _,by have:=HLW.o;have:=HW.o.2.size;omega,AM.o.1.mono (eG _ ((Tz W).alloc _)),AM.o.2⟩
  cases ho
  clear hd;unfold bQ;go_simp;exact⟨ct.refl _ _,rfl⟩
 intro vs W hW hR;rw[bL (by decide +kernel)];obtain⟨q,qv,y,h10,adH⟩:∃(q:Pr) (qv:gS) (y:Nat),vs 10=.slice (some ⟨y,0,none⟩) 1 1/\(W.heap[y]?=some (.cells #[.bool qv.value,.int .i64 qv.pick,.slice qv.a qv.n qv.c] 67 (0,0))/\eZ<y/\gL (mask W N) q qv/\Q q):=hR 10 (by simp) (by omega);have adS:=ai adH;clear adH;have h11:vs 11=.pointer (some ⟨eZ,2,none⟩):=hR 11 (by simp) (by omega);refine jx rfl ?_
 change wpList _ _ _ [⟨none,.store _ (.tmp 68) (.tmp 67),_,_,_,none⟩] _ _
 simp only[fL,dU,List.range,List.range.loop,aX,bN,h10,h11];go_simp;have hW2:cg w0 W bd/\ct [bd] w3 W:=hW;clear hR hW h10 h11;have Jm:=ai adS.o;clear adS f0 f1 f2 f3 f4 f5 ff e0 ef c2 c3 c4 c5 c6 c7;have AM:=ai Jm.o;have mJ:=ai hW2;obtain⟨W3,hW3⟩:∃W3,W3=W.setCell ⟨eZ,2,none⟩ (.slice (some ⟨y,0,none⟩) 1 1):=⟨_,rfl⟩
 have hpw:W.heap[eZ]?=some (.cells #[.bool V,.int .i64 (-1),.slice none 0 0] 67 (0,0)):=mJ.o.2.blk EN.o (by have:=kB.o;have:=jO.o;simp;omega);have hc3:ct [eZ] W W3:=by rw[hW3];exact lX _ _ _ _
 have HP4:=ai (show W3.heap[eZ]?=some (.cells #[.bool V,.int .i64 (-1),.slice (some ⟨y,0,none⟩) 1 1] 67 (0,0)) by rw[hW3];have:=lH (i:=2) hpw (.slice (some ⟨y,0,none⟩) 1 1);simpa using this);obtain⟨p0,p1,p2,wu⟩:=dM hpw;go_upto_region 22 with fail
 rw[<-hW3];clear hW3 p0 p1 p2 wu hW2 hpw;have HZ4:=ai (hc3.blk (mJ.o.2.blk HZ3.o (by have:=jO.o;simp;omega)) (by have:=kB.o;simp;omega));have wG:=ai (mJ.o.1.cR hc3 (by have:=kB.o;have:=jO.o;simp;omega) (fun z hz=>by simp only[aG] at hz;have:=kB.o;have:=jO.o;have:=Ng.o;omega));have mo:=ai ((oD.o.then mJ.o.2).trans hc3 (fun z hz=>by simp only[aG] at hz;have:=kB.o;have:=jO.o;exact a4Z (by omega)));have HY3:=ai (hc3.blk AM.o.1 (by have:=AM.o.2.1;simp;omega));have RT:=ai (show gL (mask W3 ((b6+1+1)::M)) q qv from(AM.o.2.2.1.mono (jh hc3 (fun z hz=>by simp only[aG] at hz;rw[hz,qP.o];simp))).mono (cM _ (fun z hz=>by rw[qP.o];simp only[bz] at hz ⊢;rcases hz with h|h<;>simp[h])));have HQQ:=ai AM.o.2.2.2;have hys:=AM.o.2.1;clear hc3;obtain⟨p0,p1,p2,wu⟩:=dM HP4.o;have hz:W3.heap[b6+1+1]?=some (.cells #[.bool false,.int .i64 0,.slice none 0 0] 67 (0,0)):=HZ4.o;obtain⟨r0,r1,r2,rf⟩:=dM hz;have P9:=bS hz;have HZ:=ai (Fs (w:=w) (M:=M) (pv:=⟨V,-1,some ⟨y,0,none⟩,1,1⟩) HZ4.o (by have:=jO.o;omega) Ng.o (by have:=jO.o;omega) wG.o mo.o
  (rX (v:=qv) (t:=67) HY3.o (fun hm=>by
   have h1:=kB.o;have h2:=jO.o;simp only[bz] at hm;rcases hm with hm|hm
   ·omega
   have:=HM.o _ hm;omega) RT.o V (-1)))
 simp only at HZ;go_wp2_with fail
 obtain⟨wz,eV⟩:∃wz,wz=kW W3 (b6+1+1) (.bool V) (.int .i64 (-1)) (.slice (some ⟨y,0,none⟩) 1 1):=⟨_,rfl⟩
 rw[<-eV] at HZ;unfold kW at eV;rw[<-eV];clear eV;obtain⟨z0,z1,z2,zf⟩:=dM HZ.o.1;refine a5a (v:=gS.val ⟨V,-1,some ⟨y,0,none⟩,1,1⟩) (by simp[results,Tryz.results132,go_sem,gS.val,z0,z1,z2]) rfl ?_;rw[HQD.o] at HQQ;exact⟨_,_,rfl,⟨HQ.o q HQQ.o.1,.mk (by simp) (fun x hx=>by simp only[aG] at hx;rw[hx];exact HQQ.o.2)⟩,HZ.o.2⟩
def aRR (bd b6 eZ:Nat) (sa:OA) (sn sc:Nat) (a:OA) (n c:Nat) (fa:OA) (fn fc:Nat) (N:ZN) (Q:Pr->Prop) (xb xo na ca:Nat) (x0:Int) (x1:BA) (nJ:OA) (nD nG:Nat) (x5 x6:Int) (nK:OA) (nE nI:Nat)  : Nat->Value->World->Prop
 | 0,u,_=>u=.pointer (some ⟨bd,0,none⟩)
 | 1,u,_=>u=.agg #[.slice sa sn sc]
 | 2,u,_=>u=.slice a n c
 | 3,u,_=>u=.pointer (some ⟨b6+1,5,none⟩)
 | 4,u,_=>u=.slice (some ⟨xb,xo,none⟩) na ca
 | 5,u,_=>u=.pointer (some ⟨xb,xo,none⟩)
 | 6,u,_=>u=.agg #[.int .i64 x0,.string x1,.slice nJ nD nG,.int .i64 x5,.int .i64 x6,.slice nK nE nI]
 | 7,u,_=>u=.slice fa fn fc
 | 8,u,W=>∃(q:Pr) (qv:gS),u=.agg #[.bool qv.value,.int .i64 qv.pick,.slice qv.a qv.n qv.c]/\(gL (mask W N) q qv/\Q q)
 | 9,u,W=>∃(q:Pr) (qv:gS) (y:Nat),u=.slice (some ⟨y,0,none⟩) 1 1/\(W.heap[y]?=some (.cells #[.bool qv.value,.int .i64 qv.pick,.slice qv.a qv.n qv.c] 67 (0,0))/\eZ<y/\gL (mask W N) q qv/\Q q)
 | _,u,_=>u=.pointer (some ⟨eZ,2,none⟩)
theorem aIp {s:List Attr} {l:List cK} {f:ZI} {g:Nat} {name:BA} {words:ZB} {lo hi:Int} {args:List Ex} {V:Bool} {w0 w:World} {bd:Nat} {M:ZN} {a:OA} {n c:Nat} {fa:OA} {fn fc:Nat} {sa:OA} {sn sc:Nat} {aw:OA} {nw cw:Nat} {aa:OA} {na ca:Nat} (hv:jN s l f (g+1) (.mk 6 name words lo hi args)=V) (sA:args.length=1) (h:alN s l f g 6 name args lo hi V w0 w bd M a n c fa fn fc sa sn sc aw nw cw aa na ca) :
  Calls Tryz.prog 132 #[.pointer (some ⟨bd,0,none⟩),.agg #[.slice sa sn sc],.slice a n c,fN 6 name aw nw cw lo hi aa na ca,.slice fa fn fc] w (aic (fun p=>js s l f (g+1) (.mk 6 name words lo hi args) p=true/\p.iT 1000000) w0 bd M w):=by
 obtain⟨a0,rfl⟩:=Ao sA;have HQ:=ai (show ∀q,js s l f (g+1) a0 q=true->js s l f (g+1) (.mk 6 name words lo hi [a0]) (.mk V (-1) [q])=true from fun q hq=>by rw[<-hv];exact aHg hq);clear hv sA;have OL:=ai h.tr;have HTA:=ai h.ta;have mF:=ai h.arg;have HM:=ai h.m;have HD:=ai h.d;have HX:=ai h.x;have kJ:=ai h.na;have G8:=ai h.iT;have qL:=h.d.lt;have Ng:=ai (show w0.heap.size<=w.heap.size by obtain⟨_,_,_,_,_,_,_,_,hxw,_⟩:=h.d;exact hxw.size);clear h;unfold fN at *;obtain⟨wa,cN⟩:∃wa,wa=((w.alloc (.cells #[.slice sa sn sc] 24)).alloc (.cells #[.int .i64 6,.string name,.slice aw nw cw,.int .i64 lo,.int .i64 hi,.slice aa na ca] 45)).alloc (.cells #[.bool false,.int .i64 0,.slice none 0 0] 67):=⟨_,rfl⟩
 have gB:Ext w wa:=by rw[cN];exact(((Tz _).alloc _).alloc _).alloc _
 obtain⟨b6,lN⟩:∃b6:Nat,b6=w.heap.size:=⟨_,rfl⟩
 have hb0:wa.heap[b6]?=some (.cells #[.slice sa sn sc] 24 (0,0)):=by rw[cN,lN];exact bU (bU (bR w _))
 have hb1:wa.heap[b6+1]?=some (.cells #[.int .i64 6,.string name,.slice aw nw cw,.int .i64 lo,.int .i64 hi,.slice aa na ca] 45 (0,0)):=by rw[cN,lN];exact bU (cT (by simp))
 have hb2:wa.heap[b6+1+1]?=some qI:=by rw[cN,lN];exact cT (by simp)
 have dm:=ai gB;have iO:=ai hb0;have gG:=ai hb1;have fY:=ai hb2;have jO:=ai (show bd<b6/\b6=w.heap.size from⟨by omega,lN⟩);go_enter Tryz.func132,Tryz.ntmps132
 go_upto_region 1 with fail
 rw[<-cN,<-lN];clear cN lN qL;obtain⟨f0,f1,f2,f3,f4,f5,ff⟩:=cX hb1;obtain⟨e0,ef⟩:=dO hb0;clear gB hb0 hb1 hb2;go_wp2_with fail
 refine(OL.o wa (dm.o.cR _)).mono ?_;rintro r w1 ⟨rfl,hx1⟩;go_upto_region 2 with fail
 obtain⟨eZ,oN⟩:∃eZ:Nat,eZ=w1.heap.size:=⟨_,rfl⟩
 obtain⟨w2,hw2⟩:∃w2,w2=w1.alloc (.cells #[.bool V,.int .i64 (-1),.slice none 0 0] 67):=⟨_,rfl⟩
 have hx2:Ext wa w2:=by rw[hw2];exact hx1.alloc _
 have oZ:=ai (show w2.heap[eZ]?=some (.cells #[.bool V,.int .i64 (-1),.slice none 0 0] 67 (0,0)) by rw[hw2,oN];exact bR w1 _);have uN:b6+1+1<eZ:=by have:=bS (hx1.blk fY.o);omega
 rw[<-hw2,<-oN];clear hw2 oN hx1 f0 f1 f2 f3 f4 f5 ff e0 ef;have kB:=ai uN;have dN:=ai (dm.o.trans hx2);have oB:=ai (hx2.blk iO.o);have kH:=ai (hx2.blk gG.o);have IE:=ai (hx2.blk fY.o);have pY:=ai (HD.o.ext (dm.o.trans hx2));have iP:=ai ((dm.o.trans hx2).cR [bd]);clear hx2 uN iO gG fY dm OL;obtain⟨f0,f1,f2,f3,f4,f5,ff⟩:=cX kH.o;obtain⟨e0,ef⟩:=dO oB.o;have hnp:0<na:=by have:=kJ.o;simp at this;omega
 obtain⟨xb,xo,rfl,nJ,nD,nG,nK,nE,nI,m0,m1,m2,m3,m4,m5,m6⟩:=eU.at [a0] _ (eU.mono (cP iP.o (by simp)) [a0] _ HX.o) 0 (by simp);simp only[Nat.zero_mul,Nat.add_zero,bB] at m0 m1 m2 m3 m4 m5 m6;have hnx:xb∉[bd]:=fun hm=>by rw[eA,bM hm] at m0;cases m0
 have g0:=cC _ _ _ _ m0;have g1:=cC _ _ _ _ m1;have g2:=cC _ _ _ _ m2;have g3:=cC _ _ _ _ m3;have g4:=cC _ _ _ _ m4;have g5:=cC _ _ _ _ m5;have M6:=ai m6;have YH:=ai (show b6∉[bd] by have:=jO.o;simp;omega);have HN7:=ai (show b6+1∉[bd] by have:=jO.o;simp;omega);have Gj:=ai hnx;obtain⟨Q,hQ⟩:∃Q:Pr->Prop,Q=fun q=>js s l f (g+1) a0 q=true/\q.iT 1000000:=⟨_,rfl⟩
 have HQD:=ai hQ;obtain⟨N,hN⟩:∃N:ZN,N=bd::(b6+1+1)::eZ::M:=⟨_,rfl⟩
 have qP:=ai hN;have pX:=ai (show bd∈N by rw[hN];simp);have oH:=fun W (hW:ct [bd] w2 W) (hd:cg w0 W bd)=>mF.o 0 (by simp) _ N W (iP.o.then hW) (fun z hz=>by
  have h1:=kB.o;have h2:=jO.o;have h3:=hW.size;have h4:=bS oZ.o;have h5:=HM.o;rw[hN] at hz;simp only[bz] at hz;rcases hz with rfl|rfl|rfl|hz
  ·omega
  ·omega
  ·omega
  have:=h5 z hz;have:=iP.o.size;omega) hd (M6.o.mono (cP hW (by simp)))
 simp only[bB] at oH;rw[<-hQ] at oH;unfold fN at oH;have sr:=ai oH;obtain⟨x0,hx0⟩:∃x0,x0=a0.op:=⟨_,rfl⟩
 obtain⟨x1,hx1⟩:∃x1,x1=a0.name:=⟨_,rfl⟩
 obtain⟨x5,dh⟩:∃x5,x5=a0.lo:=⟨_,rfl⟩
 obtain⟨x6,gN⟩:∃x6,x6=a0.hi:=⟨_,rfl⟩
 rw[<-hx0] at g0 sr;rw[<-hx1] at g1 sr;rw[<-dh] at g3 sr;rw[<-gN] at g4 sr;have yz:=ai pY.o;have HLW:=ai (bS oZ.o);clear hQ hN m0 m1 m2 m3 m4 m5 m6 oH hx0 hx1 dh gN hnx mF HTA;go_upto_region 4 with fail
 refine fk (m:=11) [9,10] (GnG w0 w2 bd) (GnE bd) (uz (aRR bd b6 eZ sa sn sc a n c fa fn fc N Q xb xo na ca x0 x1 nJ nD nG x5 x6 nK nE nI )) (by kernel_rfl) (by kernel_rfl) ⟨yz.o.ext ((Tz w2).drew),((Tz w2).drew).cR _⟩ ?_ ?_ ?_
 ·intro i k v W W' hi hk hne hout h hE;have hE:ct [bd] W W':=hE;have hi':=ltc11 hi;clear hi hk hne hout;rcases hi' with rfl|rfl|rfl|rfl|rfl|rfl|rfl|rfl|rfl|rfl|rfl
  ·exact h
  ·exact h
  ·exact h
  ·exact h
  ·exact h
  ·exact h
  ·exact h
  ·exact h
  ·obtain⟨q,qv,e0,h⟩:=h;exact⟨q,qv,e0,⟨h.1.mono (cP hE pX.o),h.2⟩⟩
  ·obtain⟨q,qv,y,e0,h⟩:=h;exact⟨q,qv,y,e0,⟨hE.blk h.1 (by have:=h.2.1;have:=kB.o;have:=jO.o;simp;omega),h.2.1,h.2.2.1.mono (cP hE pX.o),h.2.2.2⟩⟩
  exact h
 ·intro q op hq ho vs W hW hd ρ hρ;have jA:=ltc11 hq;clear hq;have o0:ρ (.tmp 0)=.pointer (some ⟨bd,0,none⟩):=hρ.out 0 rfl;have o6:ρ (.tmp 6)=.pointer (some ⟨b6,0,none⟩):=hρ.out 6 rfl;have o2:ρ (.tmp 2)=.slice a n c:=hρ.out 2 rfl;have o8:ρ (.tmp 8)=.pointer (some ⟨b6+1,0,none⟩):=hρ.out 8 rfl;have i3:=hρ.i 3 31;have i4:=hρ.i 4 32;have i5:=hρ.i 5 33;have o4:ρ (.tmp 4)=.slice fa fn fc:=hρ.out 4 rfl;have i0:=hρ.i 0 28;have i1:=hρ.i 1 29;have i2:=hρ.i 2 30;have i6:=hρ.i 6 34;have i7:=hρ.i 7 35;have i8:=hρ.i 8 36;have o11:ρ (.tmp 11)=.pointer (some ⟨eZ,0,none⟩):=hρ.out 11 rfl;have hc:=hρ.const;have hfn:=hρ.func;clear hρ;have HW:=ai (show cg w0 W bd/\ct [bd] w2 W from hW);rcases jA with rfl|rfl|rfl|rfl|rfl|rfl|rfl|rfl|rfl|rfl|rfl
  ·cases ho
   clear hd;unfold bQ;go_simp;exact⟨ct.refl _ _,rfl⟩
  ·cases ho
   clear hd;have g0:=fR HW.o.2 e0 YH.o;unfold bQ;go_simp;exact⟨ct.refl _ _,rfl⟩
  ·cases ho
   clear hd;unfold bQ;go_simp;exact⟨ct.refl _ _,rfl⟩
  ·cases ho
   clear hd;unfold bQ;go_simp;exact⟨ct.refl _ _,rfl⟩
  ·cases ho
   have h3:vs 3=_:=hd ⟨3,.data⟩ (by simp) rfl;rw[h3] at i3;clear hd;have g5:=fR HW.o.2 f5 HN7.o;unfold bQ;go_simp;exact⟨ct.refl _ _,rfl⟩
  ·cases ho
   have h4:vs 4=_:=hd ⟨4,.data⟩ (by simp) rfl;rw[h4] at i4;clear hd;unfold bQ;go_simp;exact⟨ct.refl _ _,rfl⟩
  ·cases ho
   have h5:vs 5=_:=hd ⟨5,.data⟩ (by simp) rfl;rw[h5] at i5;clear hd;have g0:=fR HW.o.2 g0 Gj.o;have g1:=fR HW.o.2 g1 Gj.o;have g2:=fR HW.o.2 g2 Gj.o;have g3:=fR HW.o.2 g3 Gj.o;have g4:=fR HW.o.2 g4 Gj.o;have g5:=fR HW.o.2 g5 Gj.o;unfold bQ;go_simp;exact⟨ct.refl _ _,rfl⟩
  ·cases ho
   clear hd;unfold bQ;go_simp;exact⟨ct.refl _ _,rfl⟩
  ·cases ho
   have h0:vs 0=_:=hd ⟨0,.data⟩ (by simp) rfl;rw[h0] at i0;have h1:vs 1=_:=hd ⟨1,.data⟩ (by simp) rfl;rw[h1] at i1;have h2:vs 2=_:=hd ⟨2,.data⟩ (by simp) rfl;rw[h2] at i2;have h6:vs 6=_:=hd ⟨6,.data⟩ (by simp) rfl;rw[h6] at i6;have h7:vs 7=_:=hd ⟨7,.data⟩ (by simp) rfl;rw[h7] at i7;clear hd;unfold bQ;go_simp;refine(sr.o W HW.o.2 HW.o.1).mono ?_;rintro e5 w5 ⟨q,qv,rfl,hq1,hq2,oW,hc5⟩;exact⟨_,rfl,hc5,⟨oW,HW.o.2.then hc5⟩,q,qv,rfl,hq2,hq1⟩
  ·cases ho
   obtain⟨q,qv,h8,hs8⟩:∃(q:Pr) (qv:gS),vs 8=.agg #[.bool qv.value,.int .i64 qv.pick,.slice qv.a qv.n qv.c]/\(gL (mask W N) q qv/\Q q):=hd ⟨8,.data⟩ (by simp) rfl;have Ik:=ai hs8;clear hs8;rw[h8] at i8;clear hd;unfold bQ;go_simp;exact⟨((Tz W).alloc _).cR _,⟨HW.o.1.ext ((Tz W).alloc _),HW.o.2.then (((Tz W).alloc _).cR _)⟩,q,qv,W.heap.size,rfl,bR W _,by have:=HLW.o;have:=HW.o.2.size;omega,Ik.o.1.mono (eG _ ((Tz W).alloc _)),Ik.o.2⟩
  cases ho
  clear hd;unfold bQ;go_simp;exact⟨ct.refl _ _,rfl⟩
 intro vs W hW hR;rw[bL (by decide +kernel)];obtain⟨q,qv,y,h9,VA⟩:∃(q:Pr) (qv:gS) (y:Nat),vs 9=.slice (some ⟨y,0,none⟩) 1 1/\(W.heap[y]?=some (.cells #[.bool qv.value,.int .i64 qv.pick,.slice qv.a qv.n qv.c] 67 (0,0))/\eZ<y/\gL (mask W N) q qv/\Q q):=hR 9 (by simp) (by omega);have AM:=ai VA;clear VA;have h10:vs 10=.pointer (some ⟨eZ,2,none⟩):=hR 10 (by simp) (by omega);refine jx rfl ?_
 change wpList _ _ _ [⟨none,.store _ (.tmp 38) (.tmp 37),_,_,_,none⟩] _ _
 simp only[fL,dU,List.range,List.range.loop,aX,bN,h9,h10];go_simp;have hW2:cg w0 W bd/\ct [bd] w2 W:=hW;clear hR hW h9 h10;have Jm:=ai AM.o;clear AM f0 f1 f2 f3 f4 f5 ff e0 ef g0 g1 g2 g3 g4 g5;have AM:=ai Jm.o;have mJ:=ai hW2;obtain⟨W3,hW3⟩:∃W3,W3=W.setCell ⟨eZ,2,none⟩ (.slice (some ⟨y,0,none⟩) 1 1):=⟨_,rfl⟩
 have hpw:W.heap[eZ]?=some (.cells #[.bool V,.int .i64 (-1),.slice none 0 0] 67 (0,0)):=mJ.o.2.blk oZ.o (by have:=kB.o;have:=jO.o;simp;omega);have hc3:ct [eZ] W W3:=by rw[hW3];exact lX _ _ _ _
 have EN:=ai (show W3.heap[eZ]?=some (.cells #[.bool V,.int .i64 (-1),.slice (some ⟨y,0,none⟩) 1 1] 67 (0,0)) by rw[hW3];have:=lH (i:=2) hpw (.slice (some ⟨y,0,none⟩) 1 1);simpa using this);obtain⟨p0,p1,p2,wu⟩:=dM hpw;go_upto_region 22 with fail
 rw[<-hW3];clear hW3 p0 p1 p2 wu hW2 hpw;have HZ3:=ai (hc3.blk (mJ.o.2.blk IE.o (by have:=jO.o;simp;omega)) (by have:=kB.o;simp;omega));have wG:=ai (mJ.o.1.cR hc3 (by have:=kB.o;have:=jO.o;simp;omega) (fun z hz=>by simp only[aG] at hz;have:=kB.o;have:=jO.o;have:=Ng.o;omega));have oD:=ai ((iP.o.then mJ.o.2).trans hc3 (fun z hz=>by simp only[aG] at hz;have:=kB.o;have:=jO.o;exact a4Z (by omega)));have HY3:=ai (hc3.blk AM.o.1 (by have:=AM.o.2.1;simp;omega));have RT:=ai (show gL (mask W3 ((b6+1+1)::M)) q qv from(AM.o.2.2.1.mono (jh hc3 (fun z hz=>by simp only[aG] at hz;rw[hz,qP.o];simp))).mono (cM _ (fun z hz=>by rw[qP.o];simp only[bz] at hz ⊢;rcases hz with h|h<;>simp[h])));have HQQ:=ai AM.o.2.2.2;have hys:=AM.o.2.1;clear hc3;obtain⟨p0,p1,p2,wu⟩:=dM EN.o;have hz:W3.heap[b6+1+1]?=some (.cells #[.bool false,.int .i64 0,.slice none 0 0] 67 (0,0)):=HZ3.o;obtain⟨r0,r1,r2,rf⟩:=dM hz;have P9:=bS hz;have HZ:=ai (Fs (w:=w) (M:=M) (pv:=⟨V,-1,some ⟨y,0,none⟩,1,1⟩) HZ3.o (by have:=jO.o;omega) Ng.o (by have:=jO.o;omega) wG.o oD.o
  (rX (v:=qv) (t:=67) HY3.o (fun hm=>by
   have h1:=kB.o;have h2:=jO.o;simp only[bz] at hm;rcases hm with hm|hm
   ·omega
   have:=HM.o _ hm;omega) RT.o V (-1)))
 simp only at HZ;go_wp2_with fail
 obtain⟨wz,eV⟩:∃wz,wz=kW W3 (b6+1+1) (.bool V) (.int .i64 (-1)) (.slice (some ⟨y,0,none⟩) 1 1):=⟨_,rfl⟩
 rw[<-eV] at HZ;unfold kW at eV;rw[<-eV];clear eV;obtain⟨z0,z1,z2,zf⟩:=dM HZ.o.1;refine a5a (v:=gS.val ⟨V,-1,some ⟨y,0,none⟩,1,1⟩) (by simp[results,Tryz.results132,go_sem,gS.val,z0,z1,z2]) rfl ?_;rw[HQD.o] at HQQ;exact⟨_,_,rfl,⟨HQ.o q HQQ.o.1,.mk (by simp) (fun x hx=>by simp only[aG] at hx;rw[hx];exact HQQ.o.2)⟩,HZ.o.2⟩
def aEg (_op:Int) (_V:Bool) (bd b6 eZ:Nat) (sa:OA) (sn sc:Nat) (a:OA) (n c:Nat) (fa:OA) (fn fc:Nat) (N M:ZN) (Q:Pr->Prop) (k:Nat) (ps:List Pr) (pvs:List gS) (ua:OA) (uc:Nat) (xb xo na ca:Nat) (x0:Int) (x1:BA) (nJ:OA) (nD nG:Nat) (x5 x6:Int) (nK:OA) (nE nI:Nat)  : Nat->Value->World->Prop
 | 0,u,_=>u=.pointer (some ⟨eZ,2,none⟩)
 | 1,u,_=>u=.slice ua k uc
 | 2,u,_=>u=.pointer (some ⟨bd,0,none⟩)
 | 3,u,_=>u=.agg #[.slice sa sn sc]
 | 4,u,_=>u=.slice a n c
 | 5,u,_=>u=.pointer (some ⟨b6+1,5,none⟩)
 | 6,u,_=>u=.slice (some ⟨xb,xo,none⟩) na ca
 | 7,u,_=>u=.int .i64 ((k:Nat):Int)
 | 8,u,_=>u=.pointer (some ⟨xb,xo+k*6,none⟩)
 | 9,u,_=>u=.agg #[ x0,.string x1,.slice nJ nD nG,x5,x6,.slice nK nE nI]
 | 10,u,_=>u=.slice fa fn fc
 | 11,u,W=>∃(q:Pr) (qv:gS),u=.agg #[.bool qv.value,qv.pick,.slice qv.a qv.n qv.c]/\(gL (mask W N) q qv/\Q q)
 | 12,u,W=>∃(q:Pr) (qv:gS) (y:Nat),u=.slice (some ⟨y,0,none⟩) 1 1/\(W.heap[y]?=some (.cells qv.cells.toArray 67 (0,0))/\eZ<y/\gL (mask W N) q qv/\Q q)
 | 13,u,W=>∃(q:Pr) (qv:gS) (v2:Value),u=v2/\(W.ownsRow (eZ+1) 67 3 v2 (k+1) (pvs.flatMap gS.cells++qv.cells)/\Ii (mask W (bd::rowOf v2++(b6+1+1)::eZ::M)) (ps++[q]) (pvs++[qv])/\Q q)
 | _,u,_=>u=.pointer (some ⟨eZ,2,none⟩)
theorem axc {s:List Attr} {l:List cK} {f:ZI} {g:Nat} {name:BA} {words:ZB} {lo hi:Int} {args:List Ex} {V:Bool} {w0 w:World} {bd:Nat} {M:ZN} {a:OA} {n c:Nat} {fa:OA} {fn fc:Nat} {sa:OA} {sn sc:Nat} {aw:OA} {nw cw:Nat} {aa:OA} {na ca:Nat} {op:Int} (hop:op=7/\V=true\/op=8/\V=false) (hv:jN s l f (g+1) (.mk op name words lo hi args)=V) (h:alN s l f g op name args lo hi V w0 w bd M a n c fa fn fc sa sn sc aw nw cw aa na ca) :
  Calls Tryz.prog 132 #[.pointer (some ⟨bd,0,none⟩),.agg #[.slice sa sn sc],.slice a n c,fN op name aw nw cw lo hi aa na ca,.slice fa fn fc] w (aic (fun p=>js s l f (g+1) (.mk op name words lo hi args) p=true/\p.iT 1000000) w0 bd M w):=by
 have HQ:=ai (show ∀ps:List Pr,args.length=ps.length->(∀i (h1:i<args.length) (h2:i<ps.length),js s l f (g+1) args[i] ps[i]=true)->js s l f (g+1) (.mk op name words lo hi args) (.mk V (-1) ps)=true from fun ps hl hp=>aHi (hop.imp And.left And.left) hv (by rcases hop with ⟨rfl,rfl⟩|⟨rfl,rfl⟩<;>rfl) hl hp);obtain⟨P,hP⟩:∃P:Nat->Pr->Prop,P=fun j p=>(∀h:j<args.length,js s l f (g+1) args[j] p=true)/\p.iT 1000000:=⟨_,rfl⟩
 have HPE:=ai hP;clear hv hP;have OL:=ai h.tr;have HTA:=ai h.ta;have mF:=ai h.arg;have HM:=ai h.m;have HD:=ai h.d;have HX:=ai h.x;have kJ:=ai h.na;have G8:=ai h.iT;have qL:=h.d.lt;have Ng:=ai (show w0.heap.size<=w.heap.size by obtain⟨_,_,_,_,_,_,_,_,hxw,_⟩:=h.d;exact hxw.size);clear h;unfold fN at *;obtain⟨wa,cN⟩:∃wa,wa=((w.alloc (.cells #[.slice sa sn sc] 24)).alloc (.cells #[ op,.string name,.slice aw nw cw,lo,hi,.slice aa na ca] 45)).alloc (.cells #[.bool false,.int .i64 0,.slice none 0 0] 67):=⟨_,rfl⟩
 have gB:Ext w wa:=by rw[cN];exact(((Tz _).alloc _).alloc _).alloc _
 obtain⟨b6,lN⟩:∃b6:Nat,b6=w.heap.size:=⟨_,rfl⟩
 have hb0:wa.heap[b6]?=some (.cells #[.slice sa sn sc] 24 (0,0)):=by rw[cN,lN];exact bU (bU (bR w _))
 have hb1:wa.heap[b6+1]?=some (.cells #[ op,.string name,.slice aw nw cw,lo,hi,.slice aa na ca] 45 (0,0)):=by rw[cN,lN];exact bU (cT (by simp))
 have hb2:wa.heap[b6+1+1]?=some qI:=by rw[cN,lN];exact cT (by simp)
 have dm:=ai gB;have iO:=ai hb0;have gG:=ai hb1;have fY:=ai hb2;have jO:=ai (show bd<b6/\b6=w.heap.size from⟨by omega,lN⟩);go_enter Tryz.func132,Tryz.ntmps132
 go_upto_region 1 with fail
 rw[<-cN,<-lN];clear cN lN qL;obtain⟨f0,f1,f2,f3,f4,f5,ff⟩:=cX hb1;obtain⟨e0,ef⟩:=dO hb0;clear gB hb0 hb1 hb2;go_wp2_with fail
 refine(OL.o wa (dm.o.cR _)).mono ?_;rintro r w1 ⟨rfl,hx1⟩;go_upto_region 2 with fail
 obtain⟨eZ,oN⟩:∃eZ:Nat,eZ=w1.heap.size:=⟨_,rfl⟩
 obtain⟨w2,hw2⟩:∃w2,w2=w1.alloc (.cells #[.bool V,.int .i64 (-1),.slice none 0 0] 67):=⟨_,rfl⟩
 have hx2:Ext wa w2:=by rw[hw2];exact hx1.alloc _
 have oZ:=ai (show w2.heap[eZ]?=some (.cells #[.bool V,.int .i64 (-1),.slice none 0 0] 67 (0,0)) by rw[hw2,oN];exact bR w1 _);have uN:b6+1+1<eZ:=by have:=bS (hx1.blk fY.o);omega
 rw[<-hw2,<-oN];clear hw2 oN hx1 f0 f1 f2 f3 f4 f5 ff e0 ef;have kB:=ai uN;have dN:=ai (dm.o.trans hx2);have oB:=ai (hx2.blk iO.o);have kH:=ai (hx2.blk gG.o);have IE:=ai (hx2.blk fY.o);have pY:=ai (HD.o.ext (dm.o.trans hx2));have iP:=ai ((dm.o.trans hx2).cR [bd]);clear hx2 uN iO gG fY dm OL;obtain⟨f0,f1,f2,f3,f4,f5,ff⟩:=cX kH.o;obtain⟨e0,ef⟩:=dO oB.o;obtain⟨p0,p1,p2,wu⟩:=dM oZ.o;have t6:(op==6)=false:=by rcases hop with ⟨rfl,-⟩|⟨rfl,-⟩<;>rfl
 have t3:(op==3)=false:=by rcases hop with ⟨rfl,-⟩|⟨rfl,-⟩<;>rfl
 rcases hop with ⟨hop,hV⟩|⟨hop,hV⟩
 case' inl=>have t7:(op==7)=true:=by rw[hop];rfl
 case' inr =>
  have t7:(op==7)=false:=by rw[hop];rfl
  have t8:(op==8)=true:=by rw[hop];rfl
 all_goals
 clear hop;go_upto_region 13 with fail
 clear hV f0 f1 f2 f3 f4 f5 ff e0 ef p0 p1 p2 wu;go_wp2_with fail
 go_loopw [16] (a0I P V na bd b6 eZ M (.cells #[.slice sa sn sc] 24 (0,0)) (.cells #[ op,.string name,.slice aw nw cw,lo,hi,.slice aa na ca] 45 (0,0)) w0 w) (fun i _=>na - (intOf i).toNat)
 case atStart=>exact⟨0,[],[],.slice none 0 0,rfl,by omega,rfl,fun j h=>by simp at h,a4' _ _ _ _,Ii.nil _,oB.o,kH.o,IE.o,oZ.o,pY.o,iP.o⟩
 case round =>
  obtain⟨k,ps,pvs,u,rfl,hk,hpl,hpp,hown,Of,hb0,hb1,hb2,U1,hdk,Kv⟩:=hrel;obtain⟨ua,uc,hu⟩:=eP hown;subst hu;have Nb:=ai hpl;have Rp:=ai hpp;have HOW:=ai hown;have Yo:=ai Of;have Sa:=ai hb0;have mE:=ai hb1;have aOS:=ai hb2;have HBP:=ai U1;have yz:=ai hdk;have HCG:=ai Kv;have tR:=ai (show eZ+1<=wr.heap.size from bS U1);have hnk:na<=1000000:=by have:=kJ.o;have:=G8.o;omega
  obtain⟨e0,ef⟩:=dO hb0;obtain⟨f0,f1,f2,f3,f4,f5,ff⟩:=cX hb1;obtain⟨p0,p1,p2,wu⟩:=dM U1;clear hpl hpp hown Of hb0 hb1 hb2 U1 hdk Kv oB kH IE oZ pY iP dN;by_cases hkn:k<na
  ·have hka:k<args.length:=by have:=kJ.o;omega
   have t1:=ag ((k:Int)<(na:Int));obtain⟨xb,xo,rfl,nJ,nD,nG,nK,nE,nI,m0,m1,m2,m3,m4,m5,m6⟩:=eU.at args _ HX.o k hka;have hxl:xb<w.heap.size:=by have:=eB (cC _ _ _ _ m0);simpa using this
   have TD:xb∉[bd]:=fun hm=>by rw[eA,bM hm] at m0;cases m0
   have g0:=fR HCG.o (cC _ _ _ _ m0) TD;have g1:=fR HCG.o (cC _ _ _ _ m1) TD;have g2:=fR HCG.o (cC _ _ _ _ m2) TD;have g3:=fR HCG.o (cC _ _ _ _ m3) TD;have g4:=fR HCG.o (cC _ _ _ _ m4) TD;have g5:=fR HCG.o (cC _ _ _ _ m5) TD;have M6:=ai m6;obtain⟨N,hN⟩:∃N,N=bd::rowOf (.slice ua k uc)++(b6+1+1)::eZ::M:=⟨_,rfl⟩
   have qP:=ai hN;have HBU:=ai (show bd∉rowOf (.slice ua k uc) from ND HOW.o (by have:=jO.o;have:=kB.o;omega));have pX:=ai (show bd∈N by rw[hN];simp);have YH:=ai (show b6∉bd::rowOf (.slice ua k uc) by rw[bz,not_or];exact⟨by have:=jO.o;omega,ND HOW.o (by have:=kB.o;omega)⟩);have HN7:=ai (show b6+1∉bd::rowOf (.slice ua k uc) by rw[bz,not_or];exact⟨by have:=jO.o;omega,ND HOW.o (by have:=kB.o;omega)⟩);have HN8:=ai (show b6+1+1∉bd::rowOf (.slice ua k uc) by rw[bz,not_or];exact⟨by have:=jO.o;omega,ND HOW.o (by have:=kB.o;omega)⟩);have ah3:=ai (show eZ∉bd::rowOf (.slice ua k uc) by rw[bz,not_or];exact⟨by have:=jO.o;have:=kB.o;omega,ND HOW.o (by omega)⟩);have Gj:=ai (show xb∉bd::rowOf (.slice ua k uc) by rw[bz,not_or];exact⟨by simpa using TD,ND HOW.o (by have:=jO.o;have:=kB.o;omega)⟩);have nS:=ai (show ∀W,ct (bd::rowOf (.slice ua k uc)) wr W->ct [bd] w W from fun W hW=>HCG.o.trans hW (fun z hz=>by
    rcases bz.1 hz with h|h
    ·exact aoX (by simp[h])
    have:=(HOW.o.lt z (bV.1 h)).1;have:=jO.o;have:=kB.o;exact a4Z (by omega)))
   obtain⟨Q,hQ⟩:∃Q:Pr->Prop,Q=fun q=>js s l f (g+1) args[k] q=true/\q.iT 1000000:=⟨_,rfl⟩
   have HQD:=ai (show ∀q,Q q->P k q from fun q hq=>by rw[HPE.o];rw[hQ] at hq;exact⟨fun _=>hq.1,hq.2⟩);have oH:=fun W (hW:ct (bd::rowOf (.slice ua k uc)) wr W) (hd:cg w0 W bd)=>mF.o k hka _ N W (nS.o W hW) (fun z hz=>by
    have h1:=kB.o;have h2:=jO.o;have h3:=hW.size;have h4:=tR.o;have h5:=HM.o;rw[hN] at hz;simp only[a48,bz,aN] at hz;rcases hz with rfl|hz|rfl|rfl|hz
    ·omega
    ·have:=(HOW.o.lt z (bV.1 hz)).2;omega
    ·omega
    ·omega
    have:=h5 z hz;have:=HCG.o.size;omega) hd (M6.o.mono (cP (nS.o W hW) (by simp)))
   rw[<-hQ] at oH;unfold fN at oH;have sr:=ai oH;obtain⟨x0,hx0⟩:∃x0,x0=args[k].op:=⟨_,rfl⟩
   obtain⟨x1,hx1⟩:∃x1,x1=args[k].name:=⟨_,rfl⟩
   obtain⟨x5,dh⟩:∃x5,x5=args[k].lo:=⟨_,rfl⟩
   obtain⟨x6,gN⟩:∃x6,x6=args[k].hi:=⟨_,rfl⟩
   rw[<-hx0] at g0 sr;rw[<-hx1] at g1 sr;rw[<-dh] at g3 sr;rw[<-gN] at g4 sr;have HWR:=ai (show ∀W,ct [bd] wr W->Ii (mask W N) ps pvs from fun W hW=>by rw[hN];exact Yo.o.mono (cP hW (by simp)));have HKB:=ai (show k<1000000 by have:=G8.o;omega);have HLW:=ai (show eZ<wr.heap.size by have:=tR.o;omega);clear hQ hN m0 m1 m2 m3 m4 m5 m6 oH hx0 hx1 dh gN TD hxl mF HTA Yo;go_upto_region 16 with fail
   refine dF (n:=139) (m:=15) [13,14] (awl w0 wr bd 13 (rowOf (.slice ua k uc))) (GnB bd 13 (rowOf (.slice ua k uc))) (uz (aEg op V bd b6 eZ sa sn sc a n c fa fn fc N M Q k ps pvs ua uc xb xo na ca x0 x1 nJ nD nG x5 x6 nK nE nI )) (by kernel_rfl) (by kernel_rfl) (Nat.le_of_ble_eq_true rfl) ?gd (agS yz.o) ?_ ?_ ?_
   case gd =>
    intro i o j b hi ho hg;rcases ltc15 hi with rfl|rfl|rfl|rfl|rfl|rfl|rfl|rfl|rfl|rfl|rfl|rfl|rfl|rfl|rfl<;>(cases ho;first|(cases hg;done)|(cases hg;intro v W h;exact h))
   ·intro i k v W W' hi hk hne hout h hE;have hi':=ltc15 hi;clear hi hk;by_cases hk:k=13
    ·subst hk;rcases hi' with rfl|rfl|rfl|rfl|rfl|rfl|rfl|rfl|rfl|rfl|rfl|rfl|rfl|rfl|rfl
     ·exact h
     ·exact h
     ·exact h
     ·exact h
     ·exact h
     ·exact h
     ·exact h
     ·exact h
     ·exact h
     ·exact h
     ·exact h
     ·exact a40 hout (by decide +kernel)
     ·exact a40 hout (by decide +kernel)
     ·exact a40 rfl hne
     exact h
    have hE:ct [bd] W W':=(by have h9:=hE;unfold GnB at h9;rwa [bL hk] at h9)
    rcases hi' with rfl|rfl|rfl|rfl|rfl|rfl|rfl|rfl|rfl|rfl|rfl|rfl|rfl|rfl|rfl
    ·exact h
    ·exact h
    ·exact h
    ·exact h
    ·exact h
    ·exact h
    ·exact h
    ·exact h
    ·exact h
    ·exact h
    ·exact h
    ·obtain⟨q,qv,e0,h⟩:=h;exact⟨q,qv,e0,⟨h.1.mono (cP hE pX.o),h.2⟩⟩
    ·obtain⟨q,qv,y,e0,h⟩:=h;exact⟨q,qv,y,e0,⟨hE.blk h.1 (by have:=h.2.1;have:=kB.o;have:=jO.o;simp;omega),h.2.1,h.2.2.1.mono (cP hE pX.o),h.2.2.2⟩⟩
    ·obtain⟨q,qv,v2,e0,h⟩:=h;exact⟨q,qv,v2,e0,⟨cO h.1 hE (fun z hz hm=>by simp only[aG] at hm;have:=(h.1.lt z hz).1;have:=jO.o;have:=kB.o;omega),h.2.1.mono (cP hE (by simp)),h.2.2⟩⟩
    exact h
   ·intro q op hq ho L vs W cG dD hW hd ρ hρ;have jA:=ltc15 hq;clear hq;have o11:ρ (.tmp 11)=.pointer (some ⟨eZ,0,none⟩):=hρ.out 11 rfl;have i0:=hρ.i 0 85;have o0:ρ (.tmp 0)=.pointer (some ⟨bd,0,none⟩):=hρ.out 0 rfl;have o6:ρ (.tmp 6)=.pointer (some ⟨b6,0,none⟩):=hρ.out 6 rfl;have o2:ρ (.tmp 2)=.slice a n c:=hρ.out 2 rfl;have o8:ρ (.tmp 8)=.pointer (some ⟨b6+1,0,none⟩):=hρ.out 8 rfl;have i5:=hρ.i 5 90;have o16:ρ (.tmp 16)=.int .i64 ((k:Nat):Int):=hρ.out 16 rfl;have i6:=hρ.i 6 91;have i7:=hρ.i 7 92;have i8:=hρ.i 8 93;have o4:ρ (.tmp 4)=.slice fa fn fc:=hρ.out 4 rfl;have i2:=hρ.i 2 87;have i3:=hρ.i 3 88;have i4:=hρ.i 4 89;have i9:=hρ.i 9 94;have i10:=hρ.i 10 95;have i11:=hρ.i 11 96;have i1:=hρ.i 1 86;have i12:=hρ.i 12 97;have hc:=hρ.const;have hfn:=hρ.func;clear hρ;have HG:=ai hW;have HW:=ai (show cg w0 W bd/\ct (bd::rowOf (.slice ua k uc)) wr W from⟨hW.1,hW.2.1⟩);have dL:=ai cG;clear hW cG dD;have kf0:=fR HW.o.2 e0 YH.o;have kf1:=fR HW.o.2 f5 HN7.o;have kf2:=fR HW.o.2 p2 ah3.o;have kf3:=fR HW.o.2 g0 Gj.o;have kf4:=fR HW.o.2 g1 Gj.o;have kf5:=fR HW.o.2 g2 Gj.o;have kf6:=fR HW.o.2 g3 Gj.o;have kf7:=fR HW.o.2 g4 Gj.o;have kf8:=fR HW.o.2 g5 Gj.o;by_cases P8:q=11
    ·subst P8;clear jA;cases ho
     have h2:vs 2=_:=hd ⟨2,.data⟩ (by simp) rfl;rw[h2] at i2;have h3:vs 3=_:=hd ⟨3,.data⟩ (by simp) rfl;rw[h3] at i3;have h4:vs 4=_:=hd ⟨4,.data⟩ (by simp) rfl;rw[h4] at i4;have h9:vs 9=_:=hd ⟨9,.data⟩ (by simp) rfl;rw[h9] at i9;have h10:vs 10=_:=hd ⟨10,.data⟩ (by simp) rfl;rw[h10] at i10;clear hd;unfold bQ;go_simp;refine(sr.o W HW.o.2 HW.o.1).mono ?_;rintro e5 w5 ⟨q,qv,rfl,hq1,hq2,oW,hc5⟩;exact⟨_,rfl,hc5,JA HG.o oW hc5,q,qv,rfl,hq2,hq1⟩
    by_cases Jd:q=12
    ·subst Jd;clear jA;cases ho
     obtain⟨q,qv,h11,P8⟩:∃(q:Pr) (qv:gS),vs 11=.agg #[.bool qv.value,qv.pick,.slice qv.a qv.n qv.c]/\(gL (mask W N) q qv/\Q q):=hd ⟨11,.data⟩ (by simp) rfl;have K9:=ai P8;clear P8;rw[h11] at i11;clear hd;unfold bQ;go_simp;exact⟨((Tz W).alloc _).cR _,JA HG.o (HW.o.1.ext ((Tz W).alloc _)) (((Tz W).alloc _).cR _),q,qv,W.heap.size,rfl,bR W _,by have:=HLW.o;have:=HW.o.2.size;omega,K9.o.1.mono (eG _ ((Tz W).alloc _)),K9.o.2⟩
    by_cases MP:q=13
    ·subst MP;clear jA;cases ho
     have h1:vs 1=_:=hd ⟨1,.data⟩ (by simp) rfl;rw[h1] at i1;obtain⟨q,qv,y,h12,Jd⟩:∃(q:Pr) (qv:gS) (y:Nat),vs 12=.slice (some ⟨y,0,none⟩) 1 1/\(W.heap[y]?=some (.cells qv.cells.toArray 67 (0,0))/\eZ<y/\gL (mask W N) q qv/\Q q):=hd ⟨12,.data⟩ (by simp) rfl;have Lp:=ai Jd;clear Jd;rw[h12] at i12;clear hd;have arf:=HG.o.2.2 dL.o;have ho0:=cO HOW.o arf (fun z hz hm=>by simp only[aG] at hm;have:=(HOW.o.lt z hz).1;have:=jO.o;have:=kB.o;omega);refine jS XS _ _ (eZ+1) _ k _ i1 y 1 1 qv.cells i12 rfl (by simp[gS.cells,Value.oneCell']) (by omega) (by have:=HKB.o;omega) (by omega) ho0 (fun j hj=>by rw[bX Lp.o.1];simp) (by have:=arf.size;have:=tR.o;omega) ?_;intro g2 cap z2 ho2 hg2 hw2 hlt2;have Kv:ct (rowOf (.slice ua k uc)) W z2:=eX hg2;have hcb:ct (bd::rowOf (.slice ua k uc)) W z2:=Kv.weak (fun y hy=>aZ _ hy);have hkeep:Sub (mask W N) (mask z2 (bd::rowOf (.slice (some ⟨g2,0,none⟩) (k+1) cap)++(b6+1+1)::eZ::M)):=aB5 qP.o Kv hw2;exact⟨hcb,arp HG.o (HW.o.1.cR Kv HBU.o (fun z hz=>by have:=(HOW.o.lt z (bV.1 hz)).1;have:=jO.o;have:=kB.o;have:=Ng.o;omega)) hcb,q,qv,_,rfl,ho2,((HWR.o W arf).mono hkeep).snoc (Lp.o.2.2.1.mono hkeep),Lp.o.2.2.2⟩
    rcases jA with rfl|rfl|rfl|rfl|rfl|rfl|rfl|rfl|rfl|rfl|rfl|rfl|rfl|rfl|rfl
    all_goals first|(exact a40 rfl P8;done)|(exact a40 rfl Jd;done)|(exact a40 rfl MP;done)|skip
    all_goals
     cases ho
     simp[mA,uz,aEg] at hd;clear P8 Jd MP;unfold bQ;go_simp;exact⟨ct.refl _ _,JA HG.o HW.o.1 (ct.refl _ _),rfl⟩
   intro L vs W l7 hW hR;rw[bL (by decide +kernel)];obtain⟨q,qv,v2,Kw,MP⟩:∃(q:Pr) (qv:gS) (v2:Value),vs 13=v2/\(W.ownsRow (eZ+1) 67 3 v2 (k+1) (pvs.flatMap gS.cells++qv.cells)/\Ii (mask W (bd::rowOf v2++(b6+1+1)::eZ::M)) (ps++[q]) (pvs++[qv])/\Q q):=hR 13 (by simp) (by omega);have VH:=ai MP;clear MP;have Lf:vs 14=.pointer (some ⟨eZ,2,none⟩):=hR 14 (by simp) (by omega);refine jx rfl ?_
   change wpList _ _ _ [⟨none,.store _ (.tmp 99) (.tmp 98),_,_,_,none⟩] _ _
   simp only[fL,dU,List.range,List.range.loop,aX,bN,Kw,Lf];go_simp;have hW2:cg w0 W bd/\ct (bd::rowOf (.slice ua k uc)) wr W:=⟨hW.1,hW.2.1⟩
   clear hR hW l7 Kw Lf;have qO:=ai hW2;obtain⟨a2,c2,hv2⟩:=eP VH.o.1;subst hv2;have Jm:=ai VH.o;clear VH f0 f1 f2 f3 f4 f5 ff e0 ef p0 p1 p2 wu g0 g1 g2 g3 g4 g5 hW2;have hpw:W.heap[eZ]?=some (.cells #[.bool V,.int .i64 (-1),.slice ua k uc] 67 (0,0)):=qO.o.2.blk HBP.o ah3.o;obtain⟨W3,hW3⟩:∃W3,W3=W.setCell ⟨eZ,2,none⟩ (.slice a2 (k+1) c2):=⟨_,rfl⟩
   have hc3:ct [eZ] W W3:=by rw[hW3];exact lX _ _ _ _
   have EN:=ai (show W3.heap[eZ]?=some (.cells #[.bool V,.int .i64 (-1),.slice a2 (k+1) c2] 67 (0,0)) by rw[hW3];have:=lH (i:=2) hpw (.slice a2 (k+1) c2);simpa using this);obtain⟨p0,p1,p2,wu⟩:=dM hpw;go_upto_region 15 with fail
   rw[<-hW3];clear hW3 p0 p1 p2 wu hpw;have HD0:=ai (hc3.blk (qO.o.2.blk Sa.o YH.o) (by have:=kB.o;simp;omega));have tU:=ai (hc3.blk (qO.o.2.blk mE.o HN7.o) (by have:=kB.o;simp;omega));have pY:=ai (hc3.blk (qO.o.2.blk aOS.o HN8.o) (by have:=kB.o;simp;omega));have vF:=ai (cO Jm.o.1 hc3 (fun z hz hm=>by simp only[aG] at hm;have:=(Jm.o.1.lt z hz).1;omega));have aNY:=ai (Jm.o.2.1.mono (jh hc3 (fun z hz=>by simp only[aG] at hz;simp[hz])));have awb:=ai (qO.o.1.cR hc3 (by have:=kB.o;have:=jO.o;simp;omega) (fun z hz=>by simp only[aG] at hz;have:=kB.o;have:=jO.o;have:=Ng.o;omega));have oD:=ai ((nS.o W qO.o.2).trans hc3 (fun z hz=>by simp only[aG] at hz;have:=kB.o;have:=jO.o;exact a4Z (by omega)));have HQQ:=ai (HQD.o q Jm.o.2.2);clear hc3;go_wp2_with fail
   go_roundw
   case rel=>exact⟨k+1,ps++[q],pvs++[qv],.slice a2 (k+1) c2,by go_num,by omega,by have:=Nb.o;simp[this],aC5 Rp.o (by rw[Nb.o];exact HQQ.o),by have:=vF.o;simpa using this,aNY.o,HD0.o,tU.o,pY.o,EN.o,awb.o,oD.o⟩
   case measure=>simp[intOf];omega
  have t1:=ah ((k:Int)<(na:Int));obtain rfl:k=na:=by omega
  have RY:=ai (show gL (mask wr ((b6+1+1)::M)) (.mk V (-1) ps) ⟨V,-1,ua,k,uc⟩ by
   have hos:wr.ownsRow (eZ+1) 67 3 (.slice ua k uc) ps.length (pvs.flatMap gS.cells):=by rw[Nb.o];exact HOW.o
   obtain⟨a',c',he,Ll⟩:=S9 (M:=(b6+1+1)::M) hos (fun z hz hm=>by
    have h1:=(HOW.o.lt z hz).1;have h2:=jO.o;have h3:=kB.o;simp only[bz] at hm;rcases hm with hm|hm
    ·omega
    have:=HM.o z hm;omega) (Yo.o.mono (cM _ (fun z hz=>by simp only[a48,bz,aN] at hz ⊢;rcases hz with h|h<;>simp[h]))) V (-1)
   simp only[a45] at he;obtain⟨rfl,h2,rfl⟩:=he;rw[<-h2] at Ll;exact Ll)
  have HZ:=ai (Fs (w:=w) (M:=M) (pv:=⟨V,-1,ua,k,uc⟩) aOS.o (by have:=jO.o;omega) Ng.o (by have:=jO.o;omega) yz.o HCG.o RY.o);simp only at HZ;have hz:wr.heap[b6+1+1]?=some (.cells #[.bool false,.int .i64 0,.slice none 0 0] 67 (0,0)):=aOS.o;obtain⟨r0,r1,r2,rf⟩:=dM hz;have P9:=bS hz;go_wp2_with fail
  obtain⟨wz,eV⟩:∃wz,wz=kW wr (b6+1+1) (.bool V) (.int .i64 (-1)) (.slice ua k uc):=⟨_,rfl⟩
  rw[<-eV] at HZ;unfold kW at eV;rw[<-eV];clear eV;obtain⟨z0,z1,z2,zf⟩:=dM HZ.o.1;refine a5a (v:=gS.val ⟨V,-1,ua,k,uc⟩) (by simp[results,Tryz.results132,go_sem,gS.val,z0,z1,z2]) rfl ?_;have hpp:=Rp.o;rw[HPE.o] at hpp;exact⟨_,_,rfl,⟨HQ.o ps (by rw[Nb.o];exact kJ.o.symm) (fun i h1 h2=>(hpp i h2).1 h1),.mk (by have:=Nb.o;have:=G8.o;have:=kJ.o;omega) (fun x hx=>by obtain⟨i,hi,rfl⟩:=bA hx;exact(hpp i hi).2)⟩,HZ.o.2⟩
def aEf (_op:Int) (V T:Bool) (b6 eZ:Nat) (sa:OA) (sn sc:Nat) (a:OA) (n c:Nat) (fa:OA) (fn fc:Nat) (k:Nat) (xb xo na ca:Nat) (x0:Int) (x1:BA) (nJ:OA) (nD nG:Nat) (x5 x6:Int) (nK:OA) (nE nI:Nat)  : Nat->Value->World->Prop
 | 0,u,_=>u=.agg #[.slice sa sn sc]
 | 1,u,_=>u=.slice a n c
 | 2,u,_=>u=.pointer (some ⟨b6+1,5,none⟩)
 | 3,u,_=>u=.slice (some ⟨xb,xo,none⟩) na ca
 | 4,u,_=>u=.int .i64 ((k:Nat):Int)
 | 5,u,_=>u=.pointer (some ⟨xb,xo+k*6,none⟩)
 | 6,u,_=>u=.agg #[ x0,.string x1,.slice nJ nD nG,x5,x6,.slice nK nE nI]
 | 7,u,_=>u=.slice fa fn fc
 | 8,u,_=>u=.bool T
 | 9,u,_=>u=.pointer (some ⟨eZ,0,none⟩)
 | 10,u,_=>u=.bool V
 | _,u,_=>u=.bool (T != V)
def aEe (_op:Int) (V:Bool) (bd b6 eZ:Nat) (sa:OA) (sn sc:Nat) (a:OA) (n c:Nat) (fa:OA) (fn fc:Nat) (N:ZN) (Q:Pr->Prop) (k:Nat) (xb xo na ca:Nat) (x0:Int) (x1:BA) (nJ:OA) (nD nG:Nat) (x5 x6:Int) (nK:OA) (nE nI:Nat)  : Nat->Value->World->Prop
 | 0,u,_=>u=.int .i64 ((k:Nat):Int)
 | 1,u,_=>u=.pointer (some ⟨bd,0,none⟩)
 | 2,u,_=>u=.agg #[.slice sa sn sc]
 | 3,u,_=>u=.slice a n c
 | 4,u,_=>u=.pointer (some ⟨b6+1,5,none⟩)
 | 5,u,_=>u=.slice (some ⟨xb,xo,none⟩) na ca
 | 6,u,_=>u=.int .i64 ((k:Nat):Int)
 | 7,u,_=>u=.pointer (some ⟨xb,xo+k*6,none⟩)
 | 8,u,_=>u=.agg #[ x0,.string x1,.slice nJ nD nG,x5,x6,.slice nK nE nI]
 | 9,u,_=>u=.slice fa fn fc
 | 10,u,W=>∃(q:Pr) (qv:gS),u=.agg #[.bool qv.value,qv.pick,.slice qv.a qv.n qv.c]/\(gL (mask W N) q qv/\Q q)
 | 11,u,W=>∃(q:Pr) (qv:gS) (y:Nat),u=.slice (some ⟨y,0,none⟩) 1 1/\(W.heap[y]?=some (.cells #[.bool qv.value,qv.pick,.slice qv.a qv.n qv.c] 67 (0,0))/\eZ<y/\gL (mask W N) q qv/\Q q)
 | 12,u,_=>u=.pointer (some ⟨eZ,1,none⟩)
 | 13,_,W=>W.heap[eZ]?=some (.cells #[.bool V,.int .i64 (k:Int),.slice none 0 0] 67 (0,0))
 | _,u,_=>u=.pointer (some ⟨eZ,2,none⟩)
theorem axb {s:List Attr} {l:List cK} {f:ZI} {g:Nat} {name:BA} {words:ZB} {lo hi:Int} {args:List Ex} {V:Bool} {w0 w:World} {bd:Nat} {M:ZN} {a:OA} {n c:Nat} {fa:OA} {fn fc:Nat} {sa:OA} {sn sc:Nat} {aw:OA} {nw cw:Nat} {aa:OA} {na ca:Nat} {op:Int} (hop:op=7/\V=false\/op=8/\V=true) (hv:jN s l f (g+1) (.mk op name words lo hi args)=V) (h:alN s l f g op name args lo hi V w0 w bd M a n c fa fn fc sa sn sc aw nw cw aa na ca) :
  Calls Tryz.prog 132 #[.pointer (some ⟨bd,0,none⟩),.agg #[.slice sa sn sc],.slice a n c,fN op name aw nw cw lo hi aa na ca,.slice fa fn fc] w (aic (fun p=>js s l f (g+1) (.mk op name words lo hi args) p=true/\p.iT 1000000) w0 bd M w):=by
 have HQ:=ai (show ∀(k:Nat) (hk:k<args.length) (q:Pr),jN s l f (g+1) args[k]=V->js s l f (g+1) args[k] q=true->js s l f (g+1) (.mk op name words lo hi args) (.mk V (k:Int) [q])=true from fun k hk q h1 h2=>aCj (hop.imp And.left And.left) (by rcases hop with ⟨rfl,rfl⟩|⟨rfl,rfl⟩<;>rfl) hk h1 h2);obtain⟨j0,hj0,hjv⟩:=aoU (hop.imp And.left And.left) hv (by rcases hop with ⟨rfl,rfl⟩|⟨rfl,rfl⟩<;>rfl);have HJV:=ai hjv;clear hv hjv;have OL:=ai h.tr;have HTA:=ai h.ta;have mF:=ai h.arg;have HM:=ai h.m;have HD:=ai h.d;have HX:=ai h.x;have kJ:=ai h.na;have G8:=ai h.iT;have qL:=h.d.lt;have Ng:=ai (show w0.heap.size<=w.heap.size by obtain⟨_,_,_,_,_,_,_,_,hxw,_⟩:=h.d;exact hxw.size);clear h;unfold fN at *;obtain⟨wa,cN⟩:∃wa,wa=((w.alloc (.cells #[.slice sa sn sc] 24)).alloc (.cells #[ op,.string name,.slice aw nw cw,lo,hi,.slice aa na ca] 45)).alloc (.cells #[.bool false,.int .i64 0,.slice none 0 0] 67):=⟨_,rfl⟩
 have gB:Ext w wa:=by rw[cN];exact(((Tz _).alloc _).alloc _).alloc _
 obtain⟨b6,lN⟩:∃b6:Nat,b6=w.heap.size:=⟨_,rfl⟩
 have hb0:wa.heap[b6]?=some (.cells #[.slice sa sn sc] 24 (0,0)):=by rw[cN,lN];exact bU (bU (bR w _))
 have hb1:wa.heap[b6+1]?=some (.cells #[ op,.string name,.slice aw nw cw,lo,hi,.slice aa na ca] 45 (0,0)):=by rw[cN,lN];exact bU (cT (by simp))
 have hb2:wa.heap[b6+1+1]?=some qI:=by rw[cN,lN];exact cT (by simp)
 have dm:=ai gB;have iO:=ai hb0;have gG:=ai hb1;have fY:=ai hb2;have jO:=ai (show bd<b6/\b6=w.heap.size from⟨by omega,lN⟩);go_enter Tryz.func132,Tryz.ntmps132
 go_upto_region 1 with fail
 rw[<-cN,<-lN];clear cN lN qL;obtain⟨f0,f1,f2,f3,f4,f5,ff⟩:=cX hb1;obtain⟨e0,ef⟩:=dO hb0;clear gB hb0 hb1 hb2;go_wp2_with fail
 refine(OL.o wa (dm.o.cR _)).mono ?_;rintro r w1 ⟨rfl,hx1⟩;go_upto_region 2 with fail
 obtain⟨eZ,oN⟩:∃eZ:Nat,eZ=w1.heap.size:=⟨_,rfl⟩
 obtain⟨w2,hw2⟩:∃w2,w2=w1.alloc (.cells #[.bool V,.int .i64 (-1),.slice none 0 0] 67):=⟨_,rfl⟩
 have hx2:Ext wa w2:=by rw[hw2];exact hx1.alloc _
 have oZ:=ai (show w2.heap[eZ]?=some (.cells #[.bool V,.int .i64 (-1),.slice none 0 0] 67 (0,0)) by rw[hw2,oN];exact bR w1 _);have uN:b6+1+1<eZ:=by have:=bS (hx1.blk fY.o);omega
 rw[<-hw2,<-oN];clear hw2 oN hx1 f0 f1 f2 f3 f4 f5 ff e0 ef;have kB:=ai uN;have dN:=ai (dm.o.trans hx2);have oB:=ai (hx2.blk iO.o);have kH:=ai (hx2.blk gG.o);have IE:=ai (hx2.blk fY.o);have pY:=ai (HD.o.ext (dm.o.trans hx2));have iP:=ai ((dm.o.trans hx2).cR [bd]);clear hx2 uN iO gG fY dm OL;obtain⟨f0,f1,f2,f3,f4,f5,ff⟩:=cX kH.o;obtain⟨e0,ef⟩:=dO oB.o;obtain⟨p0,p1,p2,wu⟩:=dM oZ.o;have hjn:j0<na:=by have:=kJ.o;omega
 have hnk:na<=1000000:=by have:=kJ.o;have:=G8.o;omega
 have t6:(op==6)=false:=by rcases hop with ⟨rfl,-⟩|⟨rfl,-⟩<;>rfl
 have t3:(op==3)=false:=by rcases hop with ⟨rfl,-⟩|⟨rfl,-⟩<;>rfl
 rcases hop with ⟨hop,hV⟩|⟨hop,hV⟩
 case' inl=>have t7:(op==7)=true:=by rw[hop];rfl
 case' inr =>
  have t7:(op==7)=false:=by rw[hop];rfl
  have t8:(op==8)=true:=by rw[hop];rfl
 all_goals
 clear hop;go_upto_region 18 with fail
 clear hV p0 p1 p2 wu e0 ef;have aTs:=ai (dx pY.o (na:Int) (by omega) (by omega));go_wp2_with fail
 refine aTs.o.mono ?_;rintro r w4 ⟨z,rfl,hz0,hz1,Si,hc4⟩;obtain⟨k0,rfl⟩:∃k0:Nat,z=k0:=⟨z.toNat,by omega⟩
 have mo:=ai (iP.o.then hc4);have CJ:=ai Si;have oY:=ai (hc4.blk oB.o (by have:=jO.o;simp;omega));have HE4:=ai (hc4.blk kH.o (by have:=jO.o;simp;omega));have HZ4:=ai (hc4.blk IE.o (by have:=jO.o;simp;omega));have HP4:=ai (hc4.blk oZ.o (by have:=jO.o;have:=kB.o;simp;omega));have hk0:k0<na:=by omega
 clear Si hc4 hz0 hz1 f0 f1 f2 f3 f4 f5 ff aTs oB kH IE oZ pY iP dN;go_wp2_with fail
 go_loopw [17] (a0J na w4) (fun i _=>(j0+na - (intOf i).toNat) % na)
 case atStart=>exact⟨k0,rfl,hk0,Tz _⟩
 case round =>
  obtain⟨k,rfl,hk,lM⟩:=hrel;have hka:k<args.length:=by have:=kJ.o;omega
  have xW:=ai (mo.o.then (lM.cR [bd]));have gZ:=ai lM;have nA:=ai (lM.blk oY.o);have HE5:=ai (lM.blk HE4.o);have HZ5:=ai (lM.blk HZ4.o);have HP5:=ai (lM.blk HP4.o);have uV:=ai (CJ.o.ext lM);obtain⟨e0,ef⟩:=dO nA.o;obtain⟨f0,f1,f2,f3,f4,f5,ff⟩:=cX HE5.o;obtain⟨p0,p1,p2,wu⟩:=dM HP5.o;clear lM;obtain⟨xb,xo,rfl,nJ,nD,nG,nK,nE,nI,m0,m1,m2,m3,m4,m5,m6⟩:=eU.at args _ HX.o k hka;have hxl:xb<w.heap.size:=by have:=eB (cC _ _ _ _ m0);simpa using this
  have TD:xb∉[bd]:=fun hm=>by rw[eA,bM hm] at m0;cases m0
  have g0:=fR xW.o (cC _ _ _ _ m0) TD;have g1:=fR xW.o (cC _ _ _ _ m1) TD;have g2:=fR xW.o (cC _ _ _ _ m2) TD;have g3:=fR xW.o (cC _ _ _ _ m3) TD;have g4:=fR xW.o (cC _ _ _ _ m4) TD;have g5:=fR xW.o (cC _ _ _ _ m5) TD;have M6:=ai m6;obtain⟨T,hT⟩:∃T,T=jN s l f (g+1) args[k]:=⟨_,rfl⟩
  have aHY:=fun W (hW:Ext wr W)=>HTA.o k hka _ W (xW.o.then (hW.cR [bd])) (M6.o.mono (cP (xW.o.then (hW.cR [bd])) (by simp)))
  rw[<-hT] at aHY;unfold fN at aHY;have sr:=ai aHY;obtain⟨x0,hx0⟩:∃x0,x0=args[k].op:=⟨_,rfl⟩
  obtain⟨x1,hx1⟩:∃x1,x1=args[k].name:=⟨_,rfl⟩
  obtain⟨x5,dh⟩:∃x5,x5=args[k].lo:=⟨_,rfl⟩
  obtain⟨x6,gN⟩:∃x6,x6=args[k].hi:=⟨_,rfl⟩
  rw[<-hx0] at g0 sr;rw[<-hx1] at g1 sr;rw[<-dh] at g3 sr;rw[<-gN] at g4 sr;have WL:=ai hT;clear m0 m1 m2 m3 m4 m5 m6 aHY hT;have BO:=ai hx0;have dI:=ai hx1;have gW:=ai dh;have kR:=ai gN;clear hx0 hx1 dh gN;go_wp2_with fail
  refine dF (n:=139) (m:=12) [11] (aGs wr) Lu (uz (aEf op V T b6 eZ sa sn sc a n c fa fn fc k xb xo na ca x0 x1 nJ nD nG x5 x6 nK nE nI )) (by kernel_rfl) (by kernel_rfl) (Nat.le_of_ble_eq_true rfl) ?gd ((Tz wr).drew) ?_ ?_ ?_
  case gd =>
   intro i o j b hi ho hg;rcases ltc12 hi with rfl|rfl|rfl|rfl|rfl|rfl|rfl|rfl|rfl|rfl|rfl|rfl<;>(cases ho;first|(cases hg;done)|(cases hg;intro v W h;exact h))
  ·intro i k v W W' hi hk hne hout h hE;have hE:Ext W W':=hE;have hi':=ltc12 hi;clear hi hk hne hout;rcases hi' with rfl|rfl|rfl|rfl|rfl|rfl|rfl|rfl|rfl|rfl|rfl|rfl
   ·exact h
   ·exact h
   ·exact h
   ·exact h
   ·exact h
   ·exact h
   ·exact h
   ·exact h
   ·exact h
   ·exact h
   ·exact h
   exact h
  ·intro q op hq ho L vs W cG dD hW hd ρ hρ;have jA:=ltc12 hq;clear hq;have o6:ρ (.tmp 6)=.pointer (some ⟨b6,0,none⟩):=hρ.out 6 rfl;have o2:ρ (.tmp 2)=.slice a n c:=hρ.out 2 rfl;have o8:ρ (.tmp 8)=.pointer (some ⟨b6+1,0,none⟩):=hρ.out 8 rfl;have i2:=hρ.i 2 108;have o17:ρ (.tmp 17)=.int .i64 ((k:Nat):Int):=hρ.out 17 rfl;have i3:=hρ.i 3 109;have i4:=hρ.i 4 110;have i5:=hρ.i 5 111;have o4:ρ (.tmp 4)=.slice fa fn fc:=hρ.out 4 rfl;have i0:=hρ.i 0 106;have i1:=hρ.i 1 107;have i6:=hρ.i 6 112;have i7:=hρ.i 7 113;have o11:ρ (.tmp 11)=.pointer (some ⟨eZ,0,none⟩):=hρ.out 11 rfl;have i9:=hρ.i 9 115;have i8:=hρ.i 8 114;have i10:=hρ.i 10 116;have hc:=hρ.const;have hfn:=hρ.func;clear hρ;have HG:=ai hW;have HW:=ai (show Ext wr W from hW);have dL:=ai cG;clear hW cG dD;have kf0:=HW.o.cell e0;have kf1:=HW.o.cell f5;have kf2:=HW.o.cell p0;have kf3:=HW.o.cell g0;have kf4:=HW.o.cell g1;have kf5:=HW.o.cell g2;have kf6:=HW.o.cell g3;have kf7:=HW.o.cell g4;have kf8:=HW.o.cell g5;by_cases hs8:q=8
   ·subst hs8;clear jA;cases ho
    have h0:vs 0=_:=hd ⟨0,.data⟩ (by simp) rfl;rw[h0] at i0;have h1:vs 1=_:=hd ⟨1,.data⟩ (by simp) rfl;rw[h1] at i1;have h6:vs 6=_:=hd ⟨6,.data⟩ (by simp) rfl;rw[h6] at i6;have h7:vs 7=_:=hd ⟨7,.data⟩ (by simp) rfl;rw[h7] at i7;clear hd;unfold bQ;go_simp;refine(sr.o W HW.o).mono ?_;rintro e5 w5 ⟨rfl,dh⟩;exact⟨_,rfl,dh,HW.o.trans dh,rfl⟩
   rcases jA with rfl|rfl|rfl|rfl|rfl|rfl|rfl|rfl|rfl|rfl|rfl|rfl
   all_goals first|(exact a40 rfl hs8;done)|skip
   all_goals
    cases ho
    simp[mA,uz,aEf] at hd;clear hs8;unfold bQ;go_simp;exact⟨Tz _,HW.o,rfl⟩
  intro L vs W l7 hW hR;rw[bM (by decide +kernel)];have h11:vs 11=.bool (T != V):=hR 11 (by simp) (by omega);simp only[fL,dU,List.range,List.range.loop,aX,bN,h11];go_simp;have hW2:Ext wr W:=hW;clear hR hW l7 h11;by_cases hTV:T=V
  ·rw[show (T != V)=false by simp[hTV]]
   replace hTV:=hTV.symm
   subst hTV
   have mJ:=ai hW2;have nS:=ai (xW.o.then (hW2.cR [bd]));have vE:=ai (hW2.blk nA.o);have HE6:=ai (hW2.blk HE5.o);have HZ6:=ai (hW2.blk HZ5.o);have Nc:=ai (hW2.blk HP5.o);have yz:=ai (uV.o.ext hW2);obtain⟨v4,hv4⟩:∃v4,v4=W:=⟨_,rfl⟩
   rw[<-hv4] at mJ nS vE HE6 HZ6 Nc yz hW2;rw[<-hv4];clear hv4;have HG:=ai (show ∀(p:Addr) (v:Value),wr.cell? p=some v->v4.cell? p=some v from fun _ _ h=>mJ.o.cell h)
   replace g0:=HG.o _ _ g0
   replace g1:=HG.o _ _ g1
   replace g2:=HG.o _ _ g2
   replace g3:=HG.o _ _ g3
   replace g4:=HG.o _ _ g4
   replace g5:=HG.o _ _ g5
   clear f0 f1 f2 f3 f4 f5 ff e0 ef p0 p1 p2 wu hW2 nA HE5 HZ5 HP5 uV sr HTA xW;obtain⟨e0,ef⟩:=dO vE.o;obtain⟨f0,f1,f2,f3,f4,f5,ff⟩:=cX HE6.o;have YH:=ai (show b6∉[bd,eZ] by have:=jO.o;have:=kB.o;simp;omega);have HN7:=ai (show b6+1∉[bd,eZ] by have:=jO.o;have:=kB.o;simp;omega);have HN8:=ai (show b6+1+1∉[bd,eZ] by have:=jO.o;have:=kB.o;simp;omega);have ah3:=ai (show eZ∉[bd] by have:=jO.o;have:=kB.o;simp;omega);have Gj:=ai (show xb∉[bd,eZ] by have:=jO.o;have:=kB.o;simp only[bz,bC,or_false,not_or];exact⟨by simpa using TD,by omega⟩);obtain⟨Q,hQ⟩:∃Q:Pr->Prop,Q=fun q=>js s l f (g+1) args[k] q=true/\q.iT 1000000:=⟨_,rfl⟩
   have HQD:=ai hQ;obtain⟨N,hN⟩:∃N:ZN,N=bd::(b6+1+1)::eZ::M:=⟨_,rfl⟩
   have qP:=ai hN;have pX:=ai (show bd∈N by rw[hN];simp);have HNC:=ai (show ∀y∈[bd,eZ],y∈N by rw[hN];intro y hy;simp only[bz,bC,or_false] at hy ⊢;rcases hy with h|h<;>simp[h]);have Lb:=ai (show ∀W,ct [bd,eZ] v4 W->ct [bd] w W from fun W hW=>nS.o.trans hW (fun z hz=>by
    simp only[bz,bC,or_false] at hz;rcases hz with h|h
    ·exact aoX (by simp[h])
    have:=jO.o;have:=kB.o;exact a4Z (by omega)))
   have oH:=fun W (hW:ct [bd,eZ] v4 W) (hd:cg w0 W bd)=>mF.o k hka _ N W (Lb.o W hW) (fun z hz=>by
    have h1:=kB.o;have h2:=jO.o;have h3:=hW.size;have h4:=bS Nc.o;have h5:=HM.o;rw[hN] at hz;simp only[bz] at hz;rcases hz with rfl|rfl|rfl|hz
    ·omega
    ·omega
    ·omega
    have:=h5 z hz;have:=nS.o.size;omega) hd (M6.o.mono (cP (Lb.o W hW) (by simp)))
   rw[<-hQ] at oH;unfold fN at oH;rw[<-BO.o,<-dI.o,<-gW.o,<-kR.o] at oH;have sr:=ai oH;have HLW:=ai (bS Nc.o);clear hQ hN oH TD hxl mF;go_upto_region 21 with fail
   refine dF (n:=139) (m:=15) [11,13,14] (awl w0 v4 bd 13 [eZ]) (GnB bd 13 [eZ]) (uz (aEe op V bd b6 eZ sa sn sc a n c fa fn fc N Q k xb xo na ca x0 x1 nJ nD nG x5 x6 nK nE nI )) (by kernel_rfl) (by kernel_rfl) (Nat.le_of_ble_eq_true rfl) ?gd (agS yz.o) ?_ ?_ ?_
   case gd =>
    intro i o j b hi ho hg;rcases ltc15 hi with rfl|rfl|rfl|rfl|rfl|rfl|rfl|rfl|rfl|rfl|rfl|rfl|rfl|rfl|rfl<;>(cases ho;first|(cases hg;done)|(cases hg;intro v W h;exact h))
   ·intro i k v W W' hi hk hne hout h hE;have hi':=ltc15 hi;clear hi hk;by_cases hk:k=13
    ·subst hk;have hE:ct [bd,eZ] W W':=by have h9:=hE;unfold GnB at h9;rwa [bM rfl] at h9
     rcases hi' with rfl|rfl|rfl|rfl|rfl|rfl|rfl|rfl|rfl|rfl|rfl|rfl|rfl|rfl|rfl
     ·exact h
     ·exact h
     ·exact h
     ·exact h
     ·exact h
     ·exact h
     ·exact h
     ·exact h
     ·exact h
     ·exact h
     ·obtain⟨q,qv,e0,h⟩:=h;exact⟨q,qv,e0,⟨h.1.mono (jh hE HNC.o),h.2⟩⟩
     ·obtain⟨q,qv,y,e0,h⟩:=h;exact⟨q,qv,y,e0,⟨hE.blk h.1 (by have:=h.2.1;have:=kB.o;have:=jO.o;simp;omega),h.2.1,h.2.2.1.mono (jh hE HNC.o),h.2.2.2⟩⟩
     ·exact h
     ·exact a40 rfl hne
     exact h
    have hE:ct [bd] W W':=(by have h9:=hE;unfold GnB at h9;rwa [bL hk] at h9)
    rcases hi' with rfl|rfl|rfl|rfl|rfl|rfl|rfl|rfl|rfl|rfl|rfl|rfl|rfl|rfl|rfl
    ·exact h
    ·exact h
    ·exact h
    ·exact h
    ·exact h
    ·exact h
    ·exact h
    ·exact h
    ·exact h
    ·exact h
    ·obtain⟨q,qv,e0,h⟩:=h;exact⟨q,qv,e0,⟨h.1.mono (cP hE pX.o),h.2⟩⟩
    ·obtain⟨q,qv,y,e0,h⟩:=h;exact⟨q,qv,y,e0,⟨hE.blk h.1 (by have:=h.2.1;have:=kB.o;have:=jO.o;simp;omega),h.2.1,h.2.2.1.mono (cP hE pX.o),h.2.2.2⟩⟩
    ·exact h
    ·exact hE.blk h ah3.o
    exact h
   ·intro q op hq ho L vs W cG dD hW hd ρ hρ;have jA:=ltc15 hq;clear hq;have o17:ρ (.tmp 17)=.int .i64 ((k:Nat):Int):=hρ.out 17 rfl;have o0:ρ (.tmp 0)=.pointer (some ⟨bd,0,none⟩):=hρ.out 0 rfl;have o6:ρ (.tmp 6)=.pointer (some ⟨b6,0,none⟩):=hρ.out 6 rfl;have o2:ρ (.tmp 2)=.slice a n c:=hρ.out 2 rfl;have o8:ρ (.tmp 8)=.pointer (some ⟨b6+1,0,none⟩):=hρ.out 8 rfl;have i4:=hρ.i 4 128;have i5:=hρ.i 5 129;have i6:=hρ.i 6 130;have i7:=hρ.i 7 131;have o4:ρ (.tmp 4)=.slice fa fn fc:=hρ.out 4 rfl;have i1:=hρ.i 1 125;have i2:=hρ.i 2 126;have i3:=hρ.i 3 127;have i8:=hρ.i 8 132;have i9:=hρ.i 9 133;have i10:=hρ.i 10 134;have o11:ρ (.tmp 11)=.pointer (some ⟨eZ,0,none⟩):=hρ.out 11 rfl;have i12:=hρ.i 12 136;have i0:=hρ.i 0 124;have hc:=hρ.const;have hfn:=hρ.func;clear hρ;have HG:=ai hW;have HW:=ai (show cg w0 W bd/\ct [bd,eZ] v4 W from⟨hW.1,hW.2.1⟩);have dL:=ai cG;clear hW cG dD;have kf0:=fR HW.o.2 e0 YH.o;have kf1:=fR HW.o.2 f5 HN7.o;have kf2:=fR HW.o.2 g0 Gj.o;have kf3:=fR HW.o.2 g1 Gj.o;have kf4:=fR HW.o.2 g2 Gj.o;have kf5:=fR HW.o.2 g3 Gj.o;have kf6:=fR HW.o.2 g4 Gj.o;have kf7:=fR HW.o.2 g5 Gj.o;by_cases adH:q=10
    ·subst adH;clear jA;cases ho
     have h1:vs 1=_:=hd ⟨1,.data⟩ (by simp) rfl;rw[h1] at i1;have h2:vs 2=_:=hd ⟨2,.data⟩ (by simp) rfl;rw[h2] at i2;have h3:vs 3=_:=hd ⟨3,.data⟩ (by simp) rfl;rw[h3] at i3;have h8:vs 8=_:=hd ⟨8,.data⟩ (by simp) rfl;rw[h8] at i8;have h9:vs 9=_:=hd ⟨9,.data⟩ (by simp) rfl;rw[h9] at i9;clear hd;unfold bQ;go_simp;refine(sr.o W HW.o.2 HW.o.1).mono ?_;rintro e5 w5 ⟨q,qv,rfl,hq1,hq2,oW,hc5⟩;exact⟨_,rfl,hc5,JA HG.o oW hc5,q,qv,rfl,hq2,hq1⟩
    by_cases P8:q=11
    ·subst P8;clear jA;cases ho
     obtain⟨q,qv,h10,adH⟩:∃(q:Pr) (qv:gS),vs 10=.agg #[.bool qv.value,qv.pick,.slice qv.a qv.n qv.c]/\(gL (mask W N) q qv/\Q q):=hd ⟨10,.data⟩ (by simp) rfl;have adS:=ai adH;clear adH;rw[h10] at i10;clear hd;unfold bQ;go_simp;exact⟨((Tz W).alloc _).cR _,JA HG.o (HW.o.1.ext ((Tz W).alloc _)) (((Tz W).alloc _).cR _),q,qv,W.heap.size,rfl,bR W _,by have:=HLW.o;have:=HW.o.2.size;omega,adS.o.1.mono (eG _ ((Tz W).alloc _)),adS.o.2⟩
    by_cases MP:q=13
    ·subst MP;clear jA;cases ho
     have h12:vs 12=_:=hd ⟨12,.data⟩ (by simp) rfl;rw[h12] at i12;have h0:vs 0=_:=hd ⟨0,.data⟩ (by simp) rfl;rw[h0] at i0;clear hd;have hpb:=(HG.o.2.2 dL.o).blk Nc.o ah3.o;obtain⟨v0,v1,v2,vf⟩:=dM hpb;unfold bQ;go_simp;have hcs:ct [eZ] W (W.setCell ⟨eZ,1,none⟩ (.int .i64 (k:Int))):=lX _ _ _ _;have hcb:ct [bd,eZ] W (W.setCell ⟨eZ,1,none⟩ (.int .i64 (k:Int))):=hcs.weak (fun y hy=>by simp at hy;simp[hy]);have hst:(W.setCell ⟨eZ,1,none⟩ (.int .i64 (k:Int))).heap[eZ]?=some (.cells #[.bool V,.int .i64 (k:Int),.slice none 0 0] 67 (0,0)):=by have:=lH (i:=1) hpb (.int .i64 (k:Int));simpa using this
     exact⟨hcb,arp HG.o (HW.o.1.cR hcs (by have:=jO.o;have:=kB.o;simp;omega) (fun z hz=>by simp only[aG] at hz;have:=kB.o;have:=jO.o;have:=Ng.o;omega)) hcb,hst⟩
    rcases jA with rfl|rfl|rfl|rfl|rfl|rfl|rfl|rfl|rfl|rfl|rfl|rfl|rfl|rfl|rfl
    all_goals first|(exact a40 rfl adH;done)|(exact a40 rfl P8;done)|(exact a40 rfl MP;done)|skip
    all_goals
     cases ho
     simp[mA,uz,aEe] at hd;clear adH P8 MP;unfold bQ;go_simp;exact⟨ct.refl _ _,JA HG.o HW.o.1 (ct.refl _ _),rfl⟩
   intro L vs W l7 hW hR;rw[bL (by decide +kernel)];obtain⟨q,qv,y,h11,P8⟩:∃(q:Pr) (qv:gS) (y:Nat),vs 11=.slice (some ⟨y,0,none⟩) 1 1/\(W.heap[y]?=some (.cells #[.bool qv.value,qv.pick,.slice qv.a qv.n qv.c] 67 (0,0))/\eZ<y/\gL (mask W N) q qv/\Q q):=hR 11 (by simp) (by omega);have K9:=ai P8;clear P8;have VH:=ai (show W.heap[eZ]?=some (.cells #[.bool V,.int .i64 (k:Int),.slice none 0 0] 67 (0,0)) from hR 13 (by simp) (by omega));have Lf:vs 14=.pointer (some ⟨eZ,2,none⟩):=hR 14 (by simp) (by omega);refine jx rfl ?_
   change wpList _ _ _ [⟨none,.store _ (.tmp 137) (.tmp 135),_,_,_,none⟩] _ _
   simp only[fL,dU,List.range,List.range.loop,aX,bN,h11,Lf];go_simp;have hW2:cg w0 W bd/\ct [bd,eZ] v4 W:=⟨hW.1,hW.2.1⟩
   clear hR hW l7 h11 Lf;have Jm:=ai K9.o;have Yn:=ai VH.o;clear K9 VH f0 f1 f2 f3 f4 f5 ff e0 ef g0 g1 g2 g3 g4 g5;have AM:=ai Jm.o;have mJ:=ai hW2;obtain⟨W3,hW3⟩:∃W3,W3=W.setCell ⟨eZ,2,none⟩ (.slice (some ⟨y,0,none⟩) 1 1):=⟨_,rfl⟩
   have hpw:W.heap[eZ]?=some (.cells #[.bool V,.int .i64 (k:Int),.slice none 0 0] 67 (0,0)):=Yn.o;have hc3:ct [eZ] W W3:=by rw[hW3];exact lX _ _ _ _
   have EN:=ai (show W3.heap[eZ]?=some (.cells #[.bool V,.int .i64 (k:Int),.slice (some ⟨y,0,none⟩) 1 1] 67 (0,0)) by rw[hW3];have:=lH (i:=2) hpw (.slice (some ⟨y,0,none⟩) 1 1);simpa using this);obtain⟨p0,p1,p2,wu⟩:=dM hpw;go_upto_region 22 with fail
   rw[<-hW3];clear hW3 p0 p1 p2 wu hW2 hpw;have HZ3:=ai (hc3.blk (mJ.o.2.blk HZ6.o HN8.o) (by have:=kB.o;simp;omega));have wG:=ai (mJ.o.1.cR hc3 (by have:=kB.o;have:=jO.o;simp;omega) (fun z hz=>by simp only[aG] at hz;have:=kB.o;have:=jO.o;have:=Ng.o;omega));have oD:=ai ((Lb.o W mJ.o.2).trans hc3 (fun z hz=>by simp only[aG] at hz;have:=kB.o;have:=jO.o;exact a4Z (by omega)));have HY3:=ai (hc3.blk AM.o.1 (by have:=AM.o.2.1;simp;omega));have RT:=ai (show gL (mask W3 ((b6+1+1)::M)) q qv from(AM.o.2.2.1.mono (jh hc3 (fun z hz=>by simp only[aG] at hz;rw[hz,qP.o];simp))).mono (cM _ (fun z hz=>by rw[qP.o];simp only[bz] at hz ⊢;rcases hz with h|h<;>simp[h])));have HQQ:=ai AM.o.2.2.2;have hys:=AM.o.2.1;clear hc3;obtain⟨p0,p1,p2,wu⟩:=dM EN.o;have hz:W3.heap[b6+1+1]?=some (.cells #[.bool false,.int .i64 0,.slice none 0 0] 67 (0,0)):=HZ3.o;obtain⟨r0,r1,r2,rf⟩:=dM hz;have P9:=bS hz;have HZ:=ai (Fs (w:=w) (M:=M) (pv:=⟨V,(k:Int),some ⟨y,0,none⟩,1,1⟩) HZ3.o (by have:=jO.o;omega) Ng.o (by have:=jO.o;omega) wG.o oD.o
    (rX (v:=qv) (t:=67) HY3.o (fun hm=>by
     have h1:=kB.o;have h2:=jO.o;simp only[bz] at hm;rcases hm with hm|hm
     ·omega
     have:=HM.o _ hm;omega) RT.o V (k:Int)))
   simp only at HZ;go_wp2_with fail
   obtain⟨wz,eV⟩:∃wz,wz=kW W3 (b6+1+1) (.bool V) (.int .i64 (k:Int)) (.slice (some ⟨y,0,none⟩) 1 1):=⟨_,rfl⟩
   rw[<-eV] at HZ;unfold kW at eV;rw[<-eV];clear eV;obtain⟨z0,z1,z2,zf⟩:=dM HZ.o.1;refine a5a (v:=gS.val ⟨V,(k:Int),some ⟨y,0,none⟩,1,1⟩) (by simp[results,Tryz.results132,go_sem,gS.val,z0,z1,z2]) rfl ?_;rw[HQD.o] at HQQ;exact⟨_,_,rfl,⟨HQ.o k hka q WL.o.symm HQQ.o.1,.mk (by simp) (fun x hx=>by simp only[aG] at hx;rw[hx];exact HQQ.o.2)⟩,HZ.o.2⟩
  have hne:k≠j0:=fun e=>by subst e;rw[HJV.o] at WL;exact hTV WL.o
  rw[show (T != V)=true by simp[hTV]];have mJ:=ai (gZ.o.trans hW2)
  replace f5:=hW2.cell f5
  clear f0 f1 f2 f3 f4 ff e0 ef p0 p1 p2 wu hW2 g0 g1 g2 g3 g4 g5;have hr:((k:Int)+1).tmod (na:Int)=(((k+1) % na:Nat):Int):=by
   rw[Int.tmod_eq_emod_of_nonneg (by omega)];norm_cast
  go_wp2_with fail
  go_roundw
  case rel=>exact⟨(k+1) % na,by first|rfl|(rw[hr])|(simp[hr])|(congr 1),(UB hk hjn hne).1,mJ.o⟩
  case measure =>
   have:=(UB hk hjn hne).2;have hr2:(((k:Int)+1) % (na:Int)).toNat=(k+1) % na:=by
    have e:((k:Int)+1) % (na:Int)=(((k+1) % na:Nat):Int):=by norm_cast
    rw[e,Int.toNat_natCast]
   simpa[intOf,hr2] using this
theorem aav (s:List Attr) (l:List cK) (f:ZI) (hc:Chk s l) (qx:fW s f=true) (Hy:∀x∈s,x.fits) (a:OA) (n c:Nat) (fa:OA) (fn fc:Nat) (sa:OA) (sn sc:Nat) (w0:World) (bd:Nat):∀(g m:Nat) (e:Ex) (ev:Value) (M:ZN) (w:World),e.size<=m->m<=1000000->gq e->dr s l e=0->jT l g e<=2000->(∀y∈M,y<w.heap.size)->cg w0 w bd->aGv s l f bd sa sn sc a n c fa fn w->dw (mask w [bd]) e ev ->
  Calls Tryz.prog 132 #[.pointer (some ⟨bd,0,none⟩),.agg #[.slice sa sn sc],.slice a n c,ev,.slice fa fn fc] w (aic (fun p=>js s l f g e p=true/\p.iT 1000000) w0 bd M w):=by
 intro g;induction g with
 | zero=>intro m e ev M w _ _ _ _ h;simp[jT] at h
 | succ g ihg =>
  intro m;induction m with
  | zero=>intro e ev M w h;have:=size_pos e;omega
  | succ m ihm =>
   intro e ev M w hm Re hok hnd hex hM hd hin he;have GG:=Fa hc hok hnd;have hfw:=JB hok hnd;have OL:=fun W (hW:ct [bd] w W)=>xz s l f hc qx Hy a n c fa fn fc (g+1) (m+1) e ev (.agg #[.slice sa sn sc]) W hm Re hok hnd hex ((hin.cR hW).1.mono (cC _ _)) ((hin.cR hW).2.1.mono (cC _ _)) ((he.mono (cP hW (by simp))).mono (cC _ _)) ((hin.cR hW).2.2.mono (cC _ _))
   obtain⟨-,RA⟩:=wT hnd;obtain⟨agE,Rz⟩:=iR hok;have RB:=KF (D:=Sj l g) (e:=e) (by rw[<-j9];exact hex);have TG:=Qn (D:=Sj l g) (e:=e) (by rw[<-j9];exact hex);have HTA:=fun (j:Nat) (hj:j<e.args.length) (xv:Value) W (hW:ct [bd] w W) (qV:dw (mask W [bd]) e.args[j] xv)=>xz s l f hc qx Hy a n c fa fn fc (g+1) m e.args[j] xv (.agg #[.slice sa sn sc]) W (by have h1:=eD e.args j hj;have h2:=dX e.args (j+1);have h3:=e.size_eq;omega) (by omega) (Rz _ (aD hj)) (RA j hj) (by rw[j9];exact RB j hj) ((hin.cR hW).1.mono (cC _ _)) ((hin.cR hW).2.1.mono (cC _ _)) (qV.mono (cC _ _)) ((hin.cR hW).2.2.mono (cC _ _))
   have mF:=fun (j:Nat) (hj:j<e.args.length) (xv:Value) (N:ZN) (W:World) (hW:ct [bd] w W) (hN:∀y∈N,y<W.heap.size) (hD:cg w0 W bd) (qV:dw (mask W [bd]) e.args[j] xv)=>ihm e.args[j] xv N W (by have h1:=eD e.args j hj;have h2:=dX e.args (j+1);have h3:=e.size_eq;omega) (by omega) (Rz _ (aD hj)) (RA j hj) (by rw[j9];exact RB j hj) hN hD (hin.cR hW) qV
   have CW:=fun (h3:e.op=3) (d:Nat) (hdd:dz l e.name=some d) (xv:Value) (N:ZN) (W:World) (hW:ct [bd] w W) (hN:∀y∈N,y<W.heap.size) (hD:cg w0 W bd) (qV:dw (mask W [bd]) (l.getD d fC).cond xv)=>ihg 300 (l.getD d fC).cond xv N W (hc.cond (ju hdd).1).2.2 (by omega) (hc.cond (ju hdd).1).1 (hc.cond (ju hdd).1).2.1 (TG h3 (by unfold Sj;rw[hdd];rfl)) hN hD (hin.cR hW) qV
   have azc:=(iQ hc.x7).2.1;have tF:=fun W (hW:ct [bd] w W)=>Ai s (.agg #[.slice sa sn sc]) e.name W ((hin.cR hW).1.mono (cC _ _)) (by omega)
   obtain⟨aw,nw,cw,aa,na,ca,rfl,hw,hna,hca,ha,hx⟩:=he.parts;have Ks:e.args.length<=1000000:=by have h1:=eR e.args;have h3:=e.size_eq;omega
   obtain⟨op,name,words,lo,hi,args⟩:=e;simp only[Ex.op,Ex.name,Ex.words,Ex.lo,Ex.hi,Ex.args] at *;have hnl:=hin.2.1.len;have aDg:n<=100:=by rw[hnl];exact hc.len
   have HI:∀V,jN s l f (g+1) (.mk op name words lo hi args)=V->alN s l f g op name args lo hi V w0 w bd M a n c fa fn fc sa sn sc aw nw cw aa na ca:=fun V hV=>⟨by rw[<-hV];exact OL,HTA,mF,hM,hd,hx,hna,Ks⟩
   rcases GG with ⟨h6,hdn⟩|⟨rfl,hat,d,hdf⟩|⟨rfl,sA⟩|rfl|rfl
   ·refine aEd rfl h6 hdn (fun h3=>?_) tF (HI _ rfl);subst h3;rcases hfw h6 hdn with h|h|⟨-,h⟩|⟨h,-⟩|⟨h,-⟩
    ·omega
    ·omega
    ·exact h
    ·omega
    omega
   ·exact aIq rfl hdf (aDY hc hdf) hat aDg tF hin.2.1 (CW rfl d hdf) (HI _ rfl)
   ·exact aIp rfl sA (HI _ rfl)
   ·cases hv:jN s l f (g+1) (.mk 7 name words lo hi args)
    ·exact axb (aoX ⟨rfl,rfl⟩) hv (HI _ hv)
    exact axc (aoX ⟨rfl,rfl⟩) hv (HI _ hv)
   cases hv:jN s l f (g+1) (.mk 8 name words lo hi args)
   ·exact axc (a4Z ⟨rfl,rfl⟩) hv (HI _ hv)
   exact axb (a4Z ⟨rfl,rfl⟩) hv (HI _ hv)
end Go.Proofs.YtefjomofjejklaaGreatDoor
