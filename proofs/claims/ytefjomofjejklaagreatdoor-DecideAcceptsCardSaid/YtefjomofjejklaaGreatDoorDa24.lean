/- Joined. -/
import Derived.Test.YtefjomofjejklaaGreatDoorDa23
import Derived.Test.YtefjomofjejklaaGreatDoorDa22
namespace Go.Proofs.YtefjomofjejklaaGreatDoor
set_option maxRecDepth 100000
set_option maxHeartbeats 32000000
open Go.RowKit Go.Maps
theorem DV (l:List cK) (a:OA) (n c:Nat) {w0:World} (w:World) (hl:cZ w0 l a n c) (h0:Ext w0 w) (hn:n<=1000000) :
  Calls Tryz.prog 29 #[.slice a n c] w (acd [2] l w0 w):=by
 have HX:=ai ((Tz w).alloc (.cells #[.int .i64 2] 3));have HOF:=ai (NR l [2] a n c (some ⟨w.heap.size,0,none⟩) 1 1 (w.alloc (.cells #[.int .i64 2] 3)) hl (h0.trans HX.o) hn (xI rfl) (by omega));clear hl h0;go_enter Tryz.func29,Tryz.ntmps29
 go_wp2_with fail;refine HOF.o.mono ?_;rintro r w1 ⟨u,vs,a',c',hu,rfl,h0,h1,h2⟩;have HQ:=ai (show acd [2] l w0 w (.returned (.slice a' u.length c')) w1 from⟨u,vs,a',c',hu,rfl,h0,h1.mono (cM _ (fun y hy=>by have:=HX.o.size;rw[a43] at hy ⊢;omega)),HX.o.trans h2⟩);clear hu h0 h1 h2;go_wp2_with fail
 go_ret;exact HQ.o
theorem B9 (l:List cK) (a:OA) (n c:Nat) {w0:World} (w:World) (hl:cZ w0 l a n c) (h0:Ext w0 w) (hn:n<=1000000) :
  Calls Tryz.prog 30 #[.slice a n c] w (acd [4] l w0 w):=by
 have HX:=ai ((Tz w).alloc (.cells #[.int .i64 4] 3));have HOF:=ai (NR l [4] a n c (some ⟨w.heap.size,0,none⟩) 1 1 (w.alloc (.cells #[.int .i64 4] 3)) hl (h0.trans HX.o) hn (xI rfl) (by omega));clear hl h0;go_enter Tryz.func30,Tryz.ntmps30
 go_wp2_with fail;refine HOF.o.mono ?_;rintro r w1 ⟨u,vs,a',c',hu,rfl,h0,h1,h2⟩;have HQ:=ai (show acd [4] l w0 w (.returned (.slice a' u.length c')) w1 from⟨u,vs,a',c',hu,rfl,h0,h1.mono (cM _ (fun y hy=>by have:=HX.o.size;rw[a43] at hy ⊢;omega)),HX.o.trans h2⟩);clear hu h0 h1 h2;go_wp2_with fail
 go_ret;exact HQ.o
theorem KQ (l:List cK) (a:OA) (n c:Nat) {w0:World} (w:World) (hl:cZ w0 l a n c) (h0:Ext w0 w) (hn:n<=1000000) :
  Calls Tryz.prog 31 #[.slice a n c] w (acd [3] l w0 w):=by
 have HX:=ai ((Tz w).alloc (.cells #[.int .i64 3] 3));have HOF:=ai (NR l [3] a n c (some ⟨w.heap.size,0,none⟩) 1 1 (w.alloc (.cells #[.int .i64 3] 3)) hl (h0.trans HX.o) hn (xI rfl) (by omega));clear hl h0;go_enter Tryz.func31,Tryz.ntmps31
 go_wp2_with fail;refine HOF.o.mono ?_;rintro r w1 ⟨u,vs,a',c',hu,rfl,h0,h1,h2⟩;have HQ:=ai (show acd [3] l w0 w (.returned (.slice a' u.length c')) w1 from⟨u,vs,a',c',hu,rfl,h0,h1.mono (cM _ (fun y hy=>by have:=HX.o.size;rw[a43] at hy ⊢;omega)),HX.o.trans h2⟩);clear hu h0 h1 h2;go_wp2_with fail
 go_ret;exact HQ.o
theorem yB {ks:ZI} {l:List cK} {w0 w w':World} {r:Ending} {b:Nat} (h:acd ks l w0 w r w') (hx:Ext w0 w) (hb:b<w.heap.size) (h0:w0.heap.size<=b):∃vs a c,r=.returned (.slice a (kS ks l).length c)/\vG w0 (kS ks l) vs/\eE (mask w' [b]) 10 fM.cells vs a (kS ks l).length c/\cZ (mask w' [b]) (kS ks l) a (kS ks l).length c/\Ext w w':=by
 obtain⟨u,vs,a,c,rfl,h2,h3,h4,h5⟩:=h;have h6:eE (mask w' [b]) 10 fM.cells vs a (kS ks l).length c:=h4.mono (cM _ (fun y hy=>by rw[aG.1 hy];simpa using hb));exact⟨vs,a,c,h2,h3,h6,⟨vs,h6,h3.1,fun i q1 q2=>(h3.2 i q1 q2).mono (ajV (hx.trans h5) h0)⟩,h5⟩
theorem ad2 {b:Nat} {lo:fT} {st:Option (List Rs)} {w:World} (h:RdS [] b lo st w):∃(xa:OA) (xn xc:Nat) (xw:Bool),w.heap[b]?=some (.cells #[.slice lo.sa lo.sn lo.sc,.map (some lo.bm),.slice lo.fa lo.fn lo.fc,.slice xa xn xc,.bool xw] 97 (0,0))/\((xw=true/\Ri st=false)\/(xw=false/\xn≠0/\Ri st=false)\/(xw=false/\xn=0/\Ri st=true)):=by
 obtain⟨xa,xn,xc,xw,h1,h2⟩:=h;refine⟨xa,xn,xc,xw,h1,?_⟩
 match st,h2 with
 | none,h=>exact aoX ⟨h,rfl⟩
 | some [],h=>exact a4Z (a4Z ⟨h.1,h.2.ln,rfl⟩)
 | some (r::t),h=>exact a4Z (aoX ⟨h.1,by rw[h.2.ln];simp,rfl⟩)
noncomputable def aGI (s:List Attr) (l:List cK) (f:ZI) (d:rT) (rs:List Rs):Bool:=if jP s l f=0 then Lj (CY s l f) l d rs else false
theorem ai' (s:List Attr) (l:List cK) (f:ZI) (sv:Value) (a:OA) (n c:Nat) (fa:OA) (fn fc:Nat) (d:rT) (rs:List Rs) (ra:OA) (rn rc:Nat) (w:World) (hs:dB w s sv) (hf:∀x∈s,x.fits) (hsl:s.length<=1000000000000000) (hl:cZ w l a n c) (hn:n<=1000000) (hok:∀x∈l,x.fit) (hi:dG w f fa fn) (hfn:fn<=1000000000000000) (ho:dQ w) (hr:iE w rs ra rn rc) :
  Calls Tryz.prog 23 #[sv,.slice a n c,.slice fa fn fc,.agg #[ d.oP,d.lim,d.xV,d.xU,d.xN,.bool d.Bt,.slice ra rn rc]] w (cz (.bool (aGI s l f d rs)) w):=by
 obtain⟨sa,sn,sc,rfl,B6⟩:=hs.slice;have qw:=ai (fun W (hW:Ext w W)=>KM s l f _ a n c fa fn fc W (hs.ext hW) hf hsl (hl.ext hW) hn hok (hi.ext hW) hfn (ho.ext hW));have HDI:=ai (fun (h0:jP s l f=0) (lv:fT) W (hW:Ext w W) (h:AA W s l f lv n)=>show WU W s l f lv n from⟨h,(qN h0).1,(qN h0).2,hf,hok,by have h1:=h.ints.1;have h2:=hi.1;omega,ho.ext hW⟩);have Nj:=ai (fun (h0:jP s l f=0)=>aul (qN h0).1 hok);have tY:=ai (fun (ks:ZI)=>show (kS ks l).length<=1000000 from aV (amP ks l) (by rw[<-hl.len];exact hn));have HL:=ai hl;have qY:=ai hn;have HR:=ai hr;obtain⟨E,hE⟩:∃E,E=jP s l f:=⟨_,rfl⟩
 obtain⟨Z,hZ⟩:∃Z,Z=aGI s l f d rs:=⟨_,rfl⟩
 rw[<-hZ];unfold aGI at hZ;unfold as2 at qw;rw[<-hE] at qw HDI Nj hZ;have HZ:=ai hZ;clear hs hf hsl hl hn hok hi hfn ho B6 hE hZ hr;obtain⟨b7,hb7⟩:∃b7,b7=w.heap.size+1:=⟨_,rfl⟩
 obtain⟨wa,cN⟩:∃wa,wa=(w.alloc (.cells #[.slice sa sn sc] 24)).alloc (.cells #[ d.oP,d.lim,d.xV,d.xU,d.xN,.bool d.Bt,.slice ra rn rc] 57):=⟨_,rfl⟩
 have dm:=ai (show Ext w wa by rw[cN];exact((Tz _).alloc _).alloc _);have HA:=ai (show wa.heap[b7]?=some (.cells #[ d.oP,d.lim,d.xV,d.xU,d.xN,.bool d.Bt,.slice ra rn rc] 57 (0,0)) by rw[cN,hb7];exact cT (by simp));obtain⟨s0,sf⟩:=dO (show wa.heap[w.heap.size]?=some (.cells #[.slice sa sn sc] 24 (0,0)) by rw[cN];exact bU (bR w _));go_enter Tryz.func23,Tryz.ntmps23
 go_upto_region 1 with fail;rw[<-cN,<-hb7];clear cN hb7;go_wp2_with fail;refine(qw.o wa dm.o).mono ?_;rintro r w1 ⟨hx1,hr⟩;have dI:=ai (dm.o.trans hx1);have HB:=ai (hx1.blk HA.o);clear hx1 HA dm qw s0 sf;rcases hr with ⟨h1,rfl⟩|⟨h1,lo,rfl,aq5⟩
 ·have t1:(E != 0)=true:=by simp[h1]
  have HQ:=ai (show Z=false by rw[HZ.o,bL h1]);unfold oM;clear h1;go_wp2_with fail
  go_ret;exact bW HQ.o.symm (dI.o.alloc _)
 have t1:(E != 0)=false:=by simp[h1]
 have HPD:=ai (Nj.o h1);have IE:=ai (show Z=Lj (CY s l f) l d rs by rw[HZ.o,bM h1]);have tU:=ai (HDI.o h1 lo w1 dI.o aq5);obtain⟨A,hA⟩:∃A,A=CY s l f:=⟨_,rfl⟩
 rw[<-hA] at IE;have HAA:=ai hA;clear h1 aq5 Nj HZ HDI hA;unfold fT.val;obtain⟨w2,hw2⟩:∃w2,w2=w1.alloc (.cells #[.slice lo.sa lo.sn lo.sc,.map (some lo.bm),.slice lo.fa lo.fn lo.fc] 74):=⟨_,rfl⟩
 have dN:=ai (show Ext w1 w2 by rw[hw2];exact(Tz _).alloc _);have A4:=ai (show w2.heap[w1.heap.size]?=some (.cells #[.slice lo.sa lo.sn lo.sc,.map (some lo.bm),.slice lo.fa lo.fn lo.fc] 74 (0,0)) by rw[hw2];exact bR w1 _);go_upto_region 2 with fail
 rw[<-hw2];clear hw2;obtain⟨x0,x1,x2,xf⟩:=dM A4.o;obtain⟨d0,d1,d2,d3,d4,d5,d6,df⟩:=gR (dN.o.blk HB.o);go_upto_region 5 with fail
 obtain⟨b,hb⟩:∃b,b=w2.heap.size:=⟨_,rfl⟩
 obtain⟨w3,hw3⟩:∃w3,w3=w2.alloc (.cells #[.slice lo.sa lo.sn lo.sc,.map (some lo.bm),.slice lo.fa lo.fn lo.fc,.slice ra rn rc,.bool false] 97):=⟨_,rfl⟩
 have dS:=ai (show Ext w2 w3 by rw[hw3];exact(Tz _).alloc _);have nL:=ai (show w3.heap[b]?=some (.cells #[.slice lo.sa lo.sn lo.sc,.map (some lo.bm),.slice lo.fa lo.fn lo.fc,.slice ra rn rc,.bool false] 97 (0,0)) by rw[hw3,hb];exact bR w2 _);rw[<-hw3,<-hb];have wH:=ai (show w1.heap.size<=b/\w.heap.size<=b by have h1:=dN.o.size;have h2:=dI.o.size;rw[hb];omega);clear hw3 hb x0 x1 x2 xf d0 d1 d2 d3 d4 d5 d6 df;obtain⟨d0,d1,d2,d3,d4,d5,d6,df⟩:=gR (dS.o.blk (dN.o.blk HB.o));go_upto_region 6 with fail
 obtain⟨bq,hbq⟩:∃bq,bq=w3.heap.size:=⟨_,rfl⟩
 obtain⟨w4,hw4⟩:∃w4,w4=w3.alloc (.cells #[ d.oP,.int .i64 0,.int .i64 0,.int .i64 0,.int .i64 0,.bool false] 29):=⟨_,rfl⟩
 have gV:Ext w3 w4:=by rw[hw4];exact(Tz _).alloc _
 have HQ4:=ai (show w4.heap[bq]?=some (.cells #[ d.oP,.int .i64 0,.int .i64 0,.int .i64 0,.int .i64 0,.bool false] 29 (0,0)) by rw[hw4,hbq];exact bR w3 _);have qz:=ai ((dN.o.trans dS.o).trans gV);have jl:=ai (dI.o.trans qz.o);have CJ:=ai (qz.o.blk HB.o);have oY:=ai (show RdS [] b lo (some rs) w4 from⟨ra,rn,rc,false,gV.blk nL.o,rfl,HR.o.mono (ajV jl.o wH.o.2)⟩);have jL:=ai (show b<w4.heap.size/\bq∉[b]/\b7∉[b]/\w1.heap.size<=bq/\b7≠bq by
  have h1:=bS nL.o;have h2:=gV.size;have h3:=bS HB.o;have h4:=wH.o.1;have h5:=dN.o.size;have h6:=dS.o.size;rw[hbq];simp;omega)
 rw[<-hw4,<-hbq];clear hw4 hbq gV d0 d1 d2 d3 d4 d5 d6 df A4 dN dS nL HB HR;obtain⟨d0,d1,d2,d3,d4,d5,d6,df⟩:=gR CJ.o;clear d0 d1 d2 d3 d4 d5 d6 df;have adV:=ai jL.o.1;obtain⟨d0,d1,d2,d3,d4,d5,d6,df⟩:=gR CJ.o;by_cases hv1:d.oP=1
 case pos =>
  have t2:(d.oP==1)=true:=by simp[hv1]
  go_wp2_with fail;refine(DV l a n c (w0:=w1) w4 (HL.o.ext dI.o) qz.o qY.o).mono ?_;rintro r v4 hq;obtain⟨vs4,ca4,cc4,rfl,hcr,hrw,hic,qV⟩:=yB hq qz.o adV.o wH.o.1;have HT4:=ai (IP (kS [2] l) ca4 _ cc4 false v4 tU.o (qz.o.trans qV) wH.o.1 (oY.o.cR qV) hic (fun x hx=>HPD.o x (BI hx)) (tY.o [2]));rw[<-HAA.o] at HT4;have YE:=ai qV;clear hq hcr hrw hic qV;go_wp2_with fail
  refine HT4.o.mono ?_;rintro r w5 ⟨rfl,hc,hst⟩;have nA:=ai hst;have hc2:=(YE.o.cR [b]).then hc
  have AB:=ai (xP qz.o wH.o.1 hc2);have VQ:=ai (show b<w5.heap.size by have h1:=adV.o;have h2:=hc2.size;omega);have HQ5:=ai (hc2.blk HQ4.o jL.o.2.1);have uV:=ai (hc2.blk CJ.o jL.o.2.2.1);clear hc hst hc2 HT4 YE qz adV HQ4 CJ oY;obtain⟨xa,xn,xc,xw,j6,hdn⟩:=ad2 nA.o;obtain⟨k0,k1,k2,k3,k4,kf⟩:=KT j6;obtain⟨q0,q1,q2,q3,q4,q5,qf⟩:=dH HQ5.o;obtain⟨d0,d1,d2,d3,d4,d5,d6,df⟩:=gR uV.o;have zi:=ai (dI.o.trans AB.o);have HZF:=ai (show Z=(Ri (oq A (kS [2] l) false (some rs))&&d.eqB ⟨1,0,0,0,0,false⟩) by rw[IE.o];unfold Lj;rw[bM hv1]);clear HQ5 uV AB j6;rcases hdn with ⟨rfl,hd⟩|⟨rfl,hn0,hd⟩|⟨rfl,rfl,hd⟩
  ·have HF:=ai (show Z=false by rw[HZF.o,hd];rfl);clear hd;go_wp2_with fail
   go_ret;exact bW HF.o.symm zi.o
  ·have HF:=ai (show Z=false by rw[HZF.o,hd];rfl);have t3:((xn:Int)==0)=false:=by simp;omega
   clear hd hn0;go_wp2_with fail;go_ret;exact bW HF.o.symm zi.o
  have HF:=ai (show Z=d.eqB ⟨1,0,0,0,0,false⟩ by rw[HZF.o,hd];rfl);clear hd;go_wp2_with fail
  all_goals
   go_ret;exact bW (by rw[HF.o];simp[rT.eqB, *]) zi.o
 by_cases hv2:d.oP=2
 case pos =>
  have t1:(d.oP==1)=false:=by simp[hv2]
  have t2:(d.oP==2)=true:=by simp[hv2]
  go_wp2_with fail;refine(DV l a n c (w0:=w1) w4 (HL.o.ext dI.o) qz.o qY.o).mono ?_;rintro r v4 hq;obtain⟨vs4,ca4,cc4,rfl,hcr,hrw,hic,qV⟩:=yB hq qz.o adV.o wH.o.1;have HT4:=ai (J4 (kS [2] l) ca4 _ cc4 true v4 tU.o (qz.o.trans qV) wH.o.1 (oY.o.cR qV) hic (fun x hx=>HPD.o x (BI hx)) (tY.o [2]));rw[<-HAA.o] at HT4;have YE:=ai qV;clear hq hcr hrw hic qV;go_wp2_with fail
  refine HT4.o.mono ?_;rintro r w5 ⟨rfl,hc,hst⟩;have nA:=ai hst;have hc2:=(YE.o.cR [b]).then hc
  have AB:=ai (xP qz.o wH.o.1 hc2);have VQ:=ai (show b<w5.heap.size by have h1:=adV.o;have h2:=hc2.size;omega);have HQ5:=ai (hc2.blk HQ4.o jL.o.2.1);have uV:=ai (hc2.blk CJ.o jL.o.2.2.1);clear hc hst hc2 HT4 YE qz adV HQ4 CJ oY;go_wp2_with fail
  refine(B9 l a n c (w0:=w1) w5 (HL.o.ext dI.o) AB.o qY.o).mono ?_;rintro r v5 hq;obtain⟨vs5,ca5,cc5,rfl,hcr,hrw,hic,qV⟩:=yB hq AB.o VQ.o wH.o.1;have HT5:=ai (J4 (kS [4] l) ca5 _ cc5 false v5 tU.o (AB.o.trans qV) wH.o.1 (nA.o.cR qV) hic (fun x hx=>HPD.o x (BI hx)) (tY.o [4]));rw[<-HAA.o] at HT5;have HV5:=ai qV;clear hq hcr hrw hic qV;go_wp2_with fail
  refine HT5.o.mono ?_;rintro r w6 ⟨rfl,hc,hst⟩;have vE:=ai hst;have hc2:=(HV5.o.cR [b]).then hc
  have Ey:=ai (xP AB.o wH.o.1 hc2);have asT:=ai (show b<w6.heap.size by have h1:=VQ.o;have h2:=hc2.size;omega);have HQ6:=ai (hc2.blk HQ5.o jL.o.2.1);have ER:=ai (hc2.blk uV.o jL.o.2.2.1);clear hc hst hc2 HT5 HV5 AB VQ HQ5 uV nA;obtain⟨xa,xn,xc,xw,j6,hdn⟩:=ad2 vE.o;obtain⟨k0,k1,k2,k3,k4,kf⟩:=KT j6;obtain⟨q0,q1,q2,q3,q4,q5,qf⟩:=dH HQ6.o;obtain⟨d0,d1,d2,d3,d4,d5,d6,df⟩:=gR ER.o;have zi:=ai (dI.o.trans Ey.o);have HZF:=ai (show Z=(Ri (Ht A (kS [4] l) false (Ht A (kS [2] l) true (some rs)))&&d.eqB ⟨2,0,0,0,0,false⟩) by rw[IE.o];unfold Lj;rw[bL hv1,bM hv2]);clear HQ6 ER Ey j6;rcases hdn with ⟨rfl,hd⟩|⟨rfl,hn0,hd⟩|⟨rfl,rfl,hd⟩
  ·have HF:=ai (show Z=false by rw[HZF.o,hd];rfl);clear hd;go_wp2_with fail
   go_ret;exact bW HF.o.symm zi.o
  ·have HF:=ai (show Z=false by rw[HZF.o,hd];rfl);have t3:((xn:Int)==0)=false:=by simp;omega
   clear hd hn0;go_wp2_with fail;go_ret;exact bW HF.o.symm zi.o
  have HF:=ai (show Z=d.eqB ⟨2,0,0,0,0,false⟩ by rw[HZF.o,hd];rfl);clear hd;go_wp2_with fail
  all_goals
   go_ret;exact bW (by rw[HF.o];simp[rT.eqB, *]) zi.o
 by_cases hv3:d.oP=3
 case pos =>
  have t1:(d.oP==1)=false:=by simp[hv3]
  have t2:(d.oP==2)=false:=by simp[hv3]
  have t3:(d.oP==3)=true:=by simp[hv3]
  go_wp2_with fail;refine(DV l a n c (w0:=w1) w4 (HL.o.ext dI.o) qz.o qY.o).mono ?_;rintro r v4 hq;obtain⟨vs4,ca4,cc4,rfl,hcr,hrw,hic,qV⟩:=yB hq qz.o adV.o wH.o.1;have HT4:=ai (J4 (kS [2] l) ca4 _ cc4 true v4 tU.o (qz.o.trans qV) wH.o.1 (oY.o.cR qV) hic (fun x hx=>HPD.o x (BI hx)) (tY.o [2]));rw[<-HAA.o] at HT4;have YE:=ai qV;clear hq hcr hrw hic qV;go_wp2_with fail
  refine HT4.o.mono ?_;rintro r w5 ⟨rfl,hc,hst⟩;have nA:=ai hst;have hc2:=(YE.o.cR [b]).then hc
  have AB:=ai (xP qz.o wH.o.1 hc2);have VQ:=ai (show b<w5.heap.size by have h1:=adV.o;have h2:=hc2.size;omega);have HQ5:=ai (hc2.blk HQ4.o jL.o.2.1);have uV:=ai (hc2.blk CJ.o jL.o.2.2.1);clear hc hst hc2 HT4 YE qz adV HQ4 CJ oY;go_wp2_with fail
  refine(B9 l a n c (w0:=w1) w5 (HL.o.ext dI.o) AB.o qY.o).mono ?_;rintro r v5 hq;obtain⟨vs5,ca5,cc5,rfl,hcr,hrw,hic,qV⟩:=yB hq AB.o VQ.o wH.o.1;have HT5:=ai (IP (kS [4] l) ca5 _ cc5 true v5 tU.o (AB.o.trans qV) wH.o.1 (nA.o.cR qV) hic (fun x hx=>HPD.o x (BI hx)) (tY.o [4]));rw[<-HAA.o] at HT5;have HV5:=ai qV;clear hq hcr hrw hic qV;go_wp2_with fail
  refine HT5.o.mono ?_;rintro r w6 ⟨rfl,hc,hst⟩;have vE:=ai hst;have hc2:=(HV5.o.cR [b]).then hc
  have Ey:=ai (xP AB.o wH.o.1 hc2);have asT:=ai (show b<w6.heap.size by have h1:=VQ.o;have h2:=hc2.size;omega);have HQ6:=ai (hc2.blk HQ5.o jL.o.2.1);have ER:=ai (hc2.blk uV.o jL.o.2.2.1);clear hc hst hc2 HT5 HV5 AB VQ HQ5 uV nA;go_wp2_with fail
  refine(KQ l a n c (w0:=w1) w6 (HL.o.ext dI.o) Ey.o qY.o).mono ?_;rintro r v6 hq;obtain⟨vs6,ca6,cc6,rfl,hcr,hrw,hic,qV⟩:=yB hq Ey.o asT.o wH.o.1;have HT6:=ai (J4 (kS [3] l) ca6 _ cc6 true v6 tU.o (Ey.o.trans qV) wH.o.1 (vE.o.cR qV) hic (fun x hx=>HPD.o x (BI hx)) (tY.o [3]));rw[<-HAA.o] at HT6;have HV6:=ai qV;clear hq hcr hrw hic qV;go_wp2_with fail
  refine HT6.o.mono ?_;rintro r w7 ⟨rfl,hc,hst⟩;have JG:=ai hst;have hc2:=(HV6.o.cR [b]).then hc
  have ahX:=ai (xP Ey.o wH.o.1 hc2);have aOX:=ai (show b<w7.heap.size by have h1:=asT.o;have h2:=hc2.size;omega);have HQ7:=ai (hc2.blk HQ6.o jL.o.2.1);have EP:=ai (hc2.blk ER.o jL.o.2.2.1);clear hc hst hc2 HT6 HV6 Ey asT HQ6 ER vE;obtain⟨xa,xn,xc,xw,j6,hdn⟩:=ad2 JG.o;obtain⟨k0,k1,k2,k3,k4,kf⟩:=KT j6;obtain⟨q0,q1,q2,q3,q4,q5,qf⟩:=dH HQ7.o;obtain⟨d0,d1,d2,d3,d4,d5,d6,df⟩:=gR EP.o;have zi:=ai (dI.o.trans ahX.o);have HZF:=ai (show Z=(Ri (Ht A (kS [3] l) true (oq A (kS [4] l) true (Ht A (kS [2] l) true (some rs))))&&d.eqB ⟨3,0,0,0,0,false⟩) by rw[IE.o];unfold Lj;rw[bL hv1,bL hv2,bM hv3]);clear HQ7 EP ahX j6;rcases hdn with ⟨rfl,hd⟩|⟨rfl,hn0,hd⟩|⟨rfl,rfl,hd⟩
  ·have HF:=ai (show Z=false by rw[HZF.o,hd];rfl);clear hd;go_wp2_with fail
   go_ret;exact bW HF.o.symm zi.o
  ·have HF:=ai (show Z=false by rw[HZF.o,hd];rfl);have t3:((xn:Int)==0)=false:=by simp;omega
   clear hd hn0;go_wp2_with fail;go_ret;exact bW HF.o.symm zi.o
  have HF:=ai (show Z=d.eqB ⟨3,0,0,0,0,false⟩ by rw[HZF.o,hd];rfl);clear hd;go_wp2_with fail
  all_goals
   go_ret;exact bW (by rw[HF.o];simp[rT.eqB, *]) zi.o
 by_cases hv4:d.oP=4
 case pos =>
  have t1:(d.oP==1)=false:=by simp[hv4]
  have t2:(d.oP==2)=false:=by simp[hv4]
  have t3:(d.oP==3)=false:=by simp[hv4]
  have t4:(d.oP==4)=true:=by simp[hv4]
  go_wp2_with fail;refine(DV l a n c (w0:=w1) w4 (HL.o.ext dI.o) qz.o qY.o).mono ?_;rintro r v4 hq;obtain⟨vs4,ca4,cc4,rfl,hcr,hrw,hic,qV⟩:=yB hq qz.o adV.o wH.o.1;have HT4:=ai (J4 (kS [2] l) ca4 _ cc4 true v4 tU.o (qz.o.trans qV) wH.o.1 (oY.o.cR qV) hic (fun x hx=>HPD.o x (BI hx)) (tY.o [2]));rw[<-HAA.o] at HT4;have YE:=ai qV;clear hq hcr hrw hic qV;go_wp2_with fail
  refine HT4.o.mono ?_;rintro r w5 ⟨rfl,hc,hst⟩;have nA:=ai hst;have hc2:=(YE.o.cR [b]).then hc
  have AB:=ai (xP qz.o wH.o.1 hc2);have VQ:=ai (show b<w5.heap.size by have h1:=adV.o;have h2:=hc2.size;omega);have HQ5:=ai (hc2.blk HQ4.o jL.o.2.1);have uV:=ai (hc2.blk CJ.o jL.o.2.2.1);clear hc hst hc2 HT4 YE qz adV HQ4 CJ oY;go_wp2_with fail
  refine(B9 l a n c (w0:=w1) w5 (HL.o.ext dI.o) AB.o qY.o).mono ?_;rintro r v5 hq;obtain⟨vs5,ca5,cc5,rfl,hcr,hrw,hic,qV⟩:=yB hq AB.o VQ.o wH.o.1;have HT5:=ai (IP (kS [4] l) ca5 _ cc5 true v5 tU.o (AB.o.trans qV) wH.o.1 (nA.o.cR qV) hic (fun x hx=>HPD.o x (BI hx)) (tY.o [4]));rw[<-HAA.o] at HT5;have HV5:=ai qV;clear hq hcr hrw hic qV;go_wp2_with fail
  refine HT5.o.mono ?_;rintro r w6 ⟨rfl,hc,hst⟩;have vE:=ai hst;have hc2:=(HV5.o.cR [b]).then hc
  have Ey:=ai (xP AB.o wH.o.1 hc2);have asT:=ai (show b<w6.heap.size by have h1:=VQ.o;have h2:=hc2.size;omega);have HQ6:=ai (hc2.blk HQ5.o jL.o.2.1);have ER:=ai (hc2.blk uV.o jL.o.2.2.1);clear hc hst hc2 HT5 HV5 AB VQ HQ5 uV nA;go_wp2_with fail
  refine(KQ l a n c (w0:=w1) w6 (HL.o.ext dI.o) Ey.o qY.o).mono ?_;rintro r v6 hq;obtain⟨vs6,ca6,cc6,rfl,hcr,hrw,hic,qV⟩:=yB hq Ey.o asT.o wH.o.1;have HT6:=ai (IP (kS [3] l) ca6 _ cc6 false v6 tU.o (Ey.o.trans qV) wH.o.1 (vE.o.cR qV) hic (fun x hx=>HPD.o x (BI hx)) (tY.o [3]));rw[<-HAA.o] at HT6;have HV6:=ai qV;clear hq hcr hrw hic qV;go_wp2_with fail
  refine HT6.o.mono ?_;rintro r w7 ⟨rfl,hc,hst⟩;have JG:=ai hst;have hc2:=(HV6.o.cR [b]).then hc
  have ahX:=ai (xP Ey.o wH.o.1 hc2);have aOX:=ai (show b<w7.heap.size by have h1:=asT.o;have h2:=hc2.size;omega);have HQ7:=ai (hc2.blk HQ6.o jL.o.2.1);have EP:=ai (hc2.blk ER.o jL.o.2.2.1);clear hc hst hc2 HT6 HV6 Ey asT HQ6 ER vE;go_wp2_with fail
  refine(MS l a n c (w0:=w1) w7 (HL.o.ext dI.o) ahX.o qY.o).mono ?_;rintro r v7 hq;obtain⟨vs7,ca7,cc7,rfl,hcr,hrw,hic,qV⟩:=yB hq ahX.o aOX.o wH.o.1;have HT7:=ai (afy (kS lJ l) vs7 ca7 _ cc7 v7 tU.o (ahX.o.trans qV) wH.o.1 (JG.o.cR qV) hcr hrw (fun x hx=>HPD.o x (BI hx)) (tY.o lJ));rw[<-HAA.o] at HT7;have HV7:=ai qV;clear hq hcr hrw hic qV;go_wp2_with fail
  refine HT7.o.mono ?_;rintro r w8 ⟨hc,F,fa8,fc8,rfl,hif,hfl,hst,hF⟩;have RZ:=ai (MN F fa8 F.length fc8 w8 hif (by have:=tY.o lJ;omega));obtain⟨R,hR⟩:∃R,R=Hw ⟨4,-1,0,0,0,false⟩ F:=⟨_,rfl⟩
  rw[<-hR] at RZ;have hc2:=(HV7.o.cR [b]).then hc
  have Ik:=ai hst;have aAH:=ai (xP ahX.o wH.o.1 hc2);have HQ8:=ai (hc2.blk HQ7.o jL.o.2.1);have YK:=ai (hc2.blk EP.o jL.o.2.2.1);have HZ8:=ai (show Z=(Ri ((RF A (kS lJ l) (oq A (kS [3] l) false (oq A (kS [4] l) true (Ht A (kS [2] l) true (some rs))))).map Prod.fst)&&d.eqB R) by
   rw[IE.o];unfold Lj;rw[bL hv1,bL hv2,bL hv3,bM hv4,hR]
   revert hF
   generalize (RF A (kS lJ l) (oq A (kS [3] l) false (oq A (kS [4] l) true (Ht A (kS [2] l) true (some rs)))))=X;intro hF
   match X,hF with
   | none,_=>rfl
   | some ([],F'),h=>rw[h _ rfl];rfl
   | some (y::t,F'),_=>rfl)
  clear hif hfl hst hF hR hc hc2 HT7 HV7 ahX aOX HQ7 EP JG;go_wp2_with fail;refine RZ.o.mono ?_;rintro r w9 ⟨rfl,ux⟩;have AM:=ai (Ik.o.cR ux);have HQ9:=ai (ux.blk HQ8.o);have HD9:=ai (ux.blk YK.o);have aIZ:=ai (aAH.o.trans ux);clear ux RZ aAH HQ8 YK Ik;unfold rT.cells;obtain⟨q0,q1,q2,q3,q4,q5,qf⟩:=dH HQ9.o;go_upto_region 22 with fail
  obtain⟨wx,hwx⟩:∃wx,wx=fA w9 bq (.int .i64 R.oP) (.int .i64 R.lim) (.int .i64 R.xV) (.int .i64 R.xU) (.int .i64 R.xN) (.bool R.Bt):=⟨_,rfl⟩
  have hcx:ct [bq] w9 wx:=by rw[hwx];exact fe _ _
  have HQx:=ai (show wx.heap[bq]?=some (.cells #[ R.oP,R.lim,R.xV,R.xU,R.xN,.bool R.Bt] 29 (0,0)) by rw[hwx];exact fH HQ9.o);have HXx:=ai (hcx.ext aIZ.o (fun y hy=>by rw[aG.1 hy];exact jL.o.2.2.2.1));have HDx:=ai (hcx.blk HD9.o (by have:=jL.o.2.2.2.2;simpa using this));obtain⟨xa,xn,xc,xw,aRc,hdn⟩:=ad2 AM.o;have j6:=hcx.blk aRc (by have:=jL.o.2.1;simp at this ⊢;omega);unfold fA at hwx;rw[<-hwx];clear hwx hcx aRc q0 q1 q2 q3 q4 q5 qf AM HQ9 HD9 aIZ;obtain⟨k0,k1,k2,k3,k4,kf⟩:=KT j6;obtain⟨q0,q1,q2,q3,q4,q5,qf⟩:=dH HQx.o;obtain⟨d0,d1,d2,d3,d4,d5,d6,df⟩:=gR HDx.o;have zi:=ai (dI.o.trans HXx.o);have HZF:=ai (HZ8.o);clear HQx HDx HXx j6;rcases hdn with ⟨rfl,hd⟩|⟨rfl,hn0,hd⟩|⟨rfl,rfl,hd⟩
  ·have HF:=ai (show Z=false by rw[HZF.o,hd];rfl);clear hd;go_wp2_with fail
   go_ret;exact bW HF.o.symm zi.o
  ·have HF:=ai (show Z=false by rw[HZF.o,hd];rfl);have t3:((xn:Int)==0)=false:=by simp;omega
   clear hd hn0;go_wp2_with fail;go_ret;exact bW HF.o.symm zi.o
  have HF:=ai (show Z=d.eqB R by rw[HZF.o,hd];rfl);clear hd;go_wp2_with fail
  all_goals
   go_ret;exact bW (by rw[HF.o];simp[rT.eqB, *]) zi.o
 have t1:(d.oP==1)=false:=by simpa using hv1
 have t2:(d.oP==2)=false:=by simpa using hv2
 have t3:(d.oP==3)=false:=by simpa using hv3
 have t4:(d.oP==4)=false:=by simpa using hv4
 have HF:=ai (show Z=false by rw[IE.o];unfold Lj;rw[bL hv1,bL hv2,bL hv3,bL hv4]);clear hv1 hv2 hv3 hv4;go_wp2_with fail
 go_ret;exact bW HF.o.symm jl.o
open Go.RowKit
structure Yh where
 sa:OA
 sn:Nat
 sc:Nat
 la:OA
 ln:Nat
 lc:Nat
 fa:OA
 fn:Nat
 fc:Nat
def Yh.val (v:Yh):Value:=.agg #[.slice v.sa v.sn v.sc,.slice v.la v.ln v.lc,.slice v.fa v.fn v.fc]
structure vD (w:World) (s:List Attr) (l:List cK) (f:ZI) (v:Yh):Prop where
 mem:s∈gi
 x7:dB w s (.agg #[.slice v.sa v.sn v.sc])
 yT:cZ w l v.la v.ln v.lc
 ai6:adZ s pcd l
 len:l.length<=10
 one:1<=l.length
 facts:fW s f=true
 ints:dG w f v.fa v.fn
theorem vD.mono {w w':World} {s:List Attr} {l:List cK} {f:ZI} {v:Yh} (h:vD w s l f v) (hs:Sub w w'):vD w' s l f v :=
 ⟨h.mem,h.x7.mono hs,h.yT.mono hs,h.ai6,h.len,h.one,h.facts,h.ints.mono hs⟩
theorem agP {c:cK} (h:Us c) (hn:c.name.size<=1000):c.fit:=by
 obtain⟨g1,g2,g3,g4,g5,g6⟩:=h;have hl:=ql c.gH;exact⟨by omega,g1,g2,iY _ (by omega),by omega,xh _ g5 (by omega)⟩
theorem vD.Ca {w:World} {s:List Attr} {l:List cK} {f:ZI} {v:Yh} (h:vD w s l f v):∀c∈l,c.fit:=fun c hc=>agP (h.ai6.1 c hc).1 (by have:=(h.ai6.1 c hc).2;have h3:pcd.size=2:=rfl;omega)
theorem afJ {w:World} {b i:Nat} {cs:Array Value} {t:TypeId} (h:w.heap[b]?=some (.cells cs t (0,0))) (v:Value):(w.setCell ⟨b,i,none⟩ v).heap[b]?=some (.cells (cs.setIfInBounds i v) t (0,0)):=Go.heap_setCell_same w b i cs t v h
theorem afN (w:World) (b i:Nat) (v:Value):ct [b] w (w.setCell ⟨b,i,none⟩ v):=(ct.refl _ w).setCell (aoX (by simp)) _
theorem Wj {W W':World} {K N:ZN} (h:ct K W W') (hk:∀y∈K,y∈N):Sub (mask W N) (mask W' N):=cF h fun y hy=>aoX (hk y hy)
def aIU (w:World) (e:Ending) (w':World):Prop:=∃s l f v bd,e=.returned (.tuple #[Yh.val v,.pointer (some ⟨bd,0,none⟩)])/\vD (mask w' [bd]) s l f v/\cg w w' bd/\Ext w w'
theorem xF (da:OA) (dn dc:Nat) (w0:World) (h:dR w0 da dn) (hdl:dn<=1000000000000000):Calls Tryz.prog 15 #[.slice da dn dc] w0 (aIU w0):=by
 have HI:=ai h;clear h;obtain⟨rb,hrb⟩:∃rb,rb=w0.heap.size:=⟨_,rfl⟩
 obtain⟨wa,cN⟩:∃wa,wa=w0.alloc (.cells #[.slice none 0 0,.slice none 0 0,.slice none 0 0] 34):=⟨_,rfl⟩
 have dm:=ai (show Ext w0 wa by rw[cN];exact(Tz _).alloc _);have HRA:=ai (show wa.heap[rb]?=some (.cells #[.slice none 0 0,.slice none 0 0,.slice none 0 0] 34 (0,0)) by rw[cN,hrb];exact bR w0 _);have HRE:=ai hrb;go_enter Tryz.func15,Tryz.ntmps15
 go_upto_region 1 with fail;rw[<-cN,<-hrb];clear cN hrb;go_wp2_with fail;refine(oG da dn dc w0 wa HI.o dm.o hdl).mono ?_;rintro e w1 ⟨bd,rfl,hd1,hx1,hbl⟩;go_upto_region 3 with fail
 obtain⟨bw,qL⟩:∃bw,bw=w1.heap.size:=⟨_,rfl⟩
 obtain⟨w2,hw2⟩:∃w2,w2=w1.alloc (.cells #[.slice none 0 0,.slice none 0 0,.slice none 0 0] 34):=⟨_,rfl⟩
 have hx2:Ext w1 w2:=by rw[hw2];exact(Tz _).alloc _
 have qO:=ai (show w2.heap[bw]?=some (.cells #[.slice none 0 0,.slice none 0 0,.slice none 0 0] 34 (0,0)) by rw[hw2,qL];exact bR w1 _);have kB:=ai (show rb<bd/\bd<bw/\w0.heap.size<=rb by have:=bS HRA.o;have:=hd1.lt;have:=HRE.o;omega);rw[<-hw2,<-qL];clear hw2 qL;have pY:=ai (hd1.ext hx2);have jI:=ai (hx2.blk (hx1.blk HRA.o));clear hd1 hx1 hx2 hbl dm HRA HRE;go_wp2_with fail
 refine(dx pY.o 6 (by omega) (by omega)).mono ?_;rintro e w3 ⟨z,rfl,hz0,hz1,CZ,hc3⟩;have HLB:=ai (show ∀y∈[bd,bw,rb],y<w3.heap.size from fun y hy=>by
  have h1:=bS qO.o;have h2:=kB.o;have h3:=hc3.size;simp only[bz,bC,or_false] at hy;rcases hy with rfl|rfl|rfl<;>omega)
 have wG:=ai CZ;have HW3:=ai (hc3.blk qO.o (by have:=kB.o;simp;omega));have nL:=ai (hc3.blk jI.o (by have:=kB.o;simp;omega));clear CZ hc3 pY qO jI;go_wp2_with fail
 refine(xq z [bd,bw,rb] w3 HLB.o).mono ?_;rintro e w4 ⟨attrs,v,rfl,hat,AY,gV⟩;obtain⟨sa,sn,sc,rfl,B6⟩:=AY.slice;have qE:=ai hat;have sI:=ai (gV.blk nL.o);have CJ:=ai (wG.o.ext gV);have oY:=ai AY;have aFT:=ai (show ∀y∈[bd,bw,rb],y<w4.heap.size from fun y hy=>bF (HLB.o y hy) gV.size);have hw4:=gV.blk HW3.o;clear hat AY gV HW3 nL wG HLB B6;obtain⟨c0,c1,c2,cf⟩:=dM hw4;go_upto_region 4 with fail
 obtain⟨w5,p9⟩:∃w5,w5=w4.setCell ⟨bw,0,none⟩ (.slice sa sn sc):=⟨_,rfl⟩
 have hc5:ct [bw] w4 w5:=by rw[p9];exact afN _ _ _ _
 have Sl:=ai (show w5.heap[bw]?=some (.cells #[.slice sa sn sc,.slice none 0 0,.slice none 0 0] 34 (0,0)) by rw[p9];have:=afJ (i:=0) hw4 (.slice sa sn sc);simpa using this);rw[<-p9];clear p9 hw4 c0 c1 c2 cf;have CU:=ai (hc5.blk sI.o (by have:=kB.o;simp;omega));have uV:=ai (CJ.o.cR hc5 (by have:=kB.o;simp;omega) (fun y hy=>by simp only[aG] at hy;have:=kB.o;omega));have nA:=ai (oY.o.mono (Wj hc5 (by simp)));have av8:=ai (show ∀y∈[bd,bw,rb],y<w5.heap.size from fun y hy=>bF (aFT.o y hy) hc5.size);clear hc5 sI CJ oY aFT;obtain⟨c0,c1,c2,cf⟩:=dM Sl.o;go_wp2_with fail
 refine(DS (lD qE.o) (iB qE.o) uV.o sa sn sc [bd,bw,rb] (nA.o.mono (cM _ (by simp))) av8.o).mono ?_;rintro e w6 ⟨f,fa,fc,rfl,qx,-,hif,Ku,pI⟩;have AD:=ai qx;have awa:=ai hif;have ER:=ai Ku;have rH:=pI.blk Sl.o (by have:=kB.o;simp;omega);have RN:=ai (pI.blk CU.o (by have:=kB.o;simp;omega));have vE:=ai (nA.o.mono (Wj pI (by simp)));have aFS:=ai (show ∀y∈[bd,bw,rb],y<w6.heap.size from fun y hy=>bF (av8.o y hy) pI.size);clear qx hif Ku pI c0 c1 c2 cf uV Sl CU nA av8;obtain⟨c0,c1,c2,cf⟩:=dM rH;obtain⟨fn,hfn⟩:∃fn,fn=f.length:=⟨_,rfl⟩
 rw[<-hfn];rw[<-hfn] at awa;clear hfn;go_upto_region 5 with fail;obtain⟨w7,wF⟩:∃w7,w7=w6.setCell ⟨bw,2,none⟩ (.slice fa fn fc):=⟨_,rfl⟩
 have rE:ct [bw] w6 w7:=by rw[wF];exact afN _ _ _ _
 have HW7:=ai (show w7.heap[bw]?=some (.cells #[.slice sa sn sc,.slice none 0 0,.slice fa fn fc] 34 (0,0)) by rw[wF];have:=afJ (i:=2) rH (.slice fa fn fc);simpa using this);rw[<-wF];clear wF rH c0 c1 c2 cf;have WM:=ai (rE.blk RN.o (by have:=kB.o;simp;omega));have EP:=ai (ER.o.cR rE (by have:=kB.o;simp;omega) (fun y hy=>by simp only[aG] at hy;have:=kB.o;omega));have JG:=ai (vE.o.mono (Wj rE (by simp)));have aFX:=ai (awa.o.mono (Wj rE (by simp)));have aAP:=ai (show ∀y∈[bd,bw,rb],y<w7.heap.size from fun y hy=>bF (aFS.o y hy) rE.size);clear rE RN ER vE aFS awa;obtain⟨c0,c1,c2,cf⟩:=dM HW7.o;have qC:=ai (show Calls Tryz.prog 39 #[.pointer (some ⟨bd,0,none⟩),.agg #[.slice sa sn sc],.int .i64 9,.string ⟨#[99,45]⟩] w7 (aGu attrs pcd 9 w0 bd [bd,bw,rb] w7) from
  DL qE.o (ei attrs qE.o).1 (ei attrs qE.o).2.1 (ei attrs qE.o).2.2 EP.o sa sn sc [bd,bw,rb] (JG.o.mono (cM _ (by simp))) aAP.o 9 (by omega) pcd (by decide))
 go_wp2_with fail;refine qC.o.mono ?_;rintro e w8 ⟨l,la,ln,lc,rfl,hcl,Qb,sA,hl2,hd8,iI⟩;have Yq:=ai Qb;have QI:=ai (show l.length<=10 from hl2);have Sn:=ai sA;have aou:=ai hcl;have YK:=ai hd8;have gX:=iI.blk HW7.o (by have:=kB.o;simp;omega);have HR8:=ai (iI.blk WM.o (by have:=kB.o;simp;omega));have Ik:=ai (JG.o.mono (Wj iI (by simp)));have aFW:=ai (aFX.o.mono (Wj iI (by simp)));clear hcl Qb sA hl2 hd8 iI c0 c1 c2 cf EP HW7 WM JG aFX aAP qC;obtain⟨c0,c1,c2,cf⟩:=dM gX;go_upto_region 6 with fail
 obtain⟨w9,uj⟩:∃w9,w9=w8.setCell ⟨bw,1,none⟩ (.slice la ln lc):=⟨_,rfl⟩
 have vH:ct [bw] w8 w9:=by rw[uj];exact afN _ _ _ _
 have HW9:=ai (show w9.heap[bw]?=some (.cells #[.slice sa sn sc,.slice la ln lc,.slice fa fn fc] 34 (0,0)) by rw[uj];have:=afJ (i:=1) gX (.slice la ln lc);simpa using this);rw[<-uj];clear uj gX c0 c1 c2 cf;have HR9:=ai (vH.blk HR8.o (by have:=kB.o;simp;omega));have HD9:=ai (YK.o.cR vH (by have:=kB.o;simp;omega) (fun y hy=>by simp only[aG] at hy;have:=kB.o;omega));have FN:=ai (show vD (mask w9 [bd,bw,rb]) attrs l f ⟨sa,sn,sc,la,ln,lc,fa,fn,fc⟩ from⟨qE.o,Ik.o.mono (Wj vH (by simp)),aou.o.mono (Wj vH (by simp)),Yq.o,QI.o,Sn.o,AD.o,aFW.o.mono (Wj vH (by simp))⟩);clear vH HR8 YK Ik aFW aou;obtain⟨c0,c1,c2,cf⟩:=dM HW9.o;obtain⟨r0,r1,r2,rf⟩:=dM HR9.o;go_wp2_with fail
 obtain⟨wz,eV⟩:∃wz,wz=kW w9 rb (.slice sa sn sc) (.slice la ln lc) (.slice fa fn fc):=⟨_,rfl⟩
 have U0:ct [rb] w9 wz:=by rw[eV];exact rV _ _ _ _ _ (by simp)
 have HZ:wz.heap[rb]?=some (.cells #[.slice sa sn sc,.slice la ln lc,.slice fa fn fc] 34 (0,0)):=by rw[eV];exact rW HR9.o _ _ _
 unfold kW at eV;rw[<-eV];clear eV c0 c1 c2 cf r0 r1 r2 rf;obtain⟨z0,z1,z2,zf⟩:=dM HZ;have hdz:=HD9.o.cR U0 (by have:=kB.o;simp;omega) (fun y hy=>by simp only[aG] at hy;have:=kB.o;omega);refine a5a (v:=.tuple #[Yh.val ⟨sa,sn,sc,la,ln,lc,fa,fn,fc⟩,.pointer (some ⟨bd,0,none⟩)]) (by simp[results,Tryz.results15,go_sem,Yh.val,z0,z1,z2]) rfl ?_;exact⟨attrs,l,f,_,bd,rfl,(FN.o.mono (Wj U0 (by simp))).mono (cM _ (by simp)),hdz,by obtain⟨_,_,_,_,_,_,_,_,hxw,_⟩:=hdz;exact hxw⟩
def Xd:List Attr:=[uy,⟨⟨#[115,116,111,114,101,121,115]⟩,2,[],1,9⟩,⟨⟨#[97,108,97,114,109]⟩,3,[],0,0⟩]
def exF:Ex:=.mk 4 ⟨#[112,101,114,105,108]⟩ [⟨#[102,105,114,101]⟩] 0 0 []
def clF:cK:=⟨2,⟨#[102,105,114,101]⟩,exF,[],0⟩
def aSi (w:World) (e:Ending) (w':World):Prop:=∃v,e=.returned v/\dB w' Xd v/\Ext w w'
theorem atc (x n r:Int) (w:World) (hn:0<n) (hn2:n<=1000000000000000000) (hr:(x.tmod n+n).tmod n=r):Calls Tryz.prog 16 #[.int .i64 x,.int .i64 n] w (fun e w'=>e=.returned (.int .i64 r)/\w'=w):=by
 go_enter Tryz.func16,Tryz.ntmps16
 go_wp2_with fail;go_ret;have a1:=Int.tmod_lt_of_pos x hn;have a5:=Int.lt_tmod_of_pos x hn;rw[IntWalk.wrap64_in (x.tmod n+n) (by omega),hr];exact⟨rfl,rfl⟩
theorem aiz (w:World):Calls Tryz.prog 26 #[.int .i64 0] w (aSi w):=by
 go_enter Tryz.func26,Tryz.ntmps26
 go_wp2_with fail;refine(atc 0 6 0 _ (by omega) (by omega) (by decide)).mono ?_;rintro e w' ⟨rfl,rfl⟩;go_wp2_with fail
 refine(Te _).mono ?_;rintro e w' ⟨g,rfl,hp,hx,hgn⟩;simp at hgn;have eV:=hx.size;simp at eV;have hb:=hx.blk (bR w _);have hlt:=bS hb;have c0:=bX hb 0;have cf:=ie hb;simp at c0;have HX:=ai (((Tz w).alloc _).trans hx);have HP:=ai hp;clear hx hb hp;go_wp2_with fail
 refine a5a (v:=.agg #[.slice (some ⟨w'.heap.size,0,none⟩) 3 3]) (by simp[results,Tryz.results26,go_sem,c0,hlt]) rfl ?_;refine⟨_,rfl,?_,(HX.o.fV (by simp) _).alloc _⟩;refine Kq (Ub:=[⟨uy,some ⟨g,0,none⟩,4,4⟩,⟨⟨⟨#[115,116,111,114,101,121,115]⟩,2,[],1,9⟩,none,0,0⟩,⟨⟨⟨#[97,108,97,114,109]⟩,3,[],0,0⟩,none,0,0⟩]) (t:=101) ?_ rfl ?_
 ·simpa[qU.cells,uy] using bR (w'.setCell ⟨w.heap.size,0,none⟩ (.slice (some ⟨w'.heap.size,0,none⟩) 3 3)) (.cells #[.string uy.name,.int .i64 1,.slice (some ⟨g,0,none⟩) 4 4,.int .i64 0,.int .i64 0,.string ⟨#[115,116,111,114,101,121,115]⟩,.int .i64 2,.slice none 0 0,.int .i64 1,.int .i64 9,.string ⟨#[97,108,97,114,109]⟩,.int .i64 3,.slice none 0 0,.int .i64 0,.int .i64 0] 101)
 intro v hv;simp only[bz,bC,or_false] at hv;rcases hv with rfl|rfl|rfl
 ·exact PT HP.o (by omega) _ _
 ·exact ji _
 exact ji _
theorem aAq:jE Xd [clF] 0=0:=by
 unfold jE;rw[bL (by decide +kernel),bL (by decide +kernel),bL (by decide +kernel),bL (by decide +kernel)]
 show fG Xd [clF] []=0
 rw[fG]
theorem aEH:jQ [clF] 0=0:=by
 unfold jQ;rw[bL];rintro(h|h)
 ·exact a40 h (by decide +kernel)
 have h2:eH [clF] []=true:=h;rw[eH] at h2;cases h2
theorem aAp:(cV Xd [clF]).2=0:=by
 have h1:kZ (jE Xd [clF]) [clF].length=(0,0):=kz _ fun j hj=>by
  obtain rfl:j=0:=by simp at hj;omega
  exact aAq
 have h2:kZ (jQ [clF]) [clF].length=(0,0):=kz _ fun j hj=>by
  obtain rfl:j=0:=by simp at hj;omega
  exact aEH
 unfold cV;rw[bL (by decide +kernel),bL (by decide),h1,bL (by simp),bL (by
  rw[Classical.not_not];refine⟨[],List.nodup_nil,fun i=>⟨fun h=>by simp at h,fun h=>?_⟩,fun k i h=>by simp at h⟩;have h1:=mz h;obtain rfl:i=0:=by simp at h1;omega
  exact a40 h (by decide)),h2]
theorem asa (V:Ex->Bool):CN V [clF]=if V exF=true then ⟨4,-1,0,0,0,false⟩ else ⟨1,0,0,0,0,false⟩:=by
 have hw:nM V []=false:=by rw[nM]
 cases h:V exF<;>simp[CN,jC,ke,clF,hw,h,CP,N8,oU,pO]
theorem Vk (f:ZI) (h:jU Xd f=true):jP Xd [clF] f=0:=by
 unfold jP;rw[bL (by rw[aAp];decide),bL (by simp[h])]
theorem aEI:mS Xd [clF] [0,1,0]=⟨4,-1,0,0,0,false⟩:=by
 unfold mS;rw[bM (Vk _ (by decide +kernel)),asa,bM (by decide +kernel)]
theorem aAo:mS Xd [clF] [1,1,0]=⟨1,0,0,0,0,false⟩:=by
 unfold mS;rw[bM (Vk _ (by decide +kernel)),asa,bL (by decide +kernel)]
theorem aj7:∀x∈Xd,x.fits:=by
 intro x hx;simp only[Xd,bz,bC,or_false] at hx;rcases hx with rfl|rfl|rfl<;>refine⟨by decide,by simp[uy],fun x hx=>?_⟩<;>simp[uy] at hx
 rcases hx with rfl|rfl|rfl|rfl<;>decide
theorem axk:∀x∈[clF],x.fit:=by
 intro x hx;obtain rfl:=aG.1 hx;refine⟨by decide,?_,?_,?_,by simp[clF],by unfold clF nY;trivial⟩
 ·simp[clF,exF,Ex.fits,kE];decide
 ·simp[clF,exF,Ex.iT,mR]
 simp[clF,exF,Ex.vP,BF]
theorem vg (w:World) (ho:dQ w):Calls Tryz.prog 12 #[] w (cz (.bool true) w):=by
 have HO:=ai ho;clear ho;go_enter Tryz.func12,Tryz.ntmps12
 go_wp2_with fail;refine(aiz w).mono ?_;rintro r w1 ⟨sv,rfl,hs,hx1⟩;obtain⟨sa,sn,sc,rfl,-⟩:=hs.slice;have HS:=ai hs;have dI:=ai hx1;clear hs hx1;go_upto_region 2 with fail
 obtain⟨w2,hw2⟩:∃w2,w2=w1.alloc (.cells #[.slice sa sn sc] 24):=⟨_,rfl⟩
 obtain⟨b1,hb1⟩:∃b1:Nat,b1=w1.heap.size:=⟨_,rfl⟩
 have dN:=ai (show Ext w1 w2 by rw[hw2];exact(Tz _).alloc _);have gG:=ai (show w2.heap[b1]?=some (.cells #[.slice sa sn sc] 24 (0,0)) by rw[hw2,hb1];exact bR w1 _);rw[<-hw2,<-hb1];clear hw2 hb1;go_upto_region 3 with fail
 obtain⟨w3,hw3⟩:∃w3,w3=(w2.alloc (.cells #[.string ⟨#[102,105,114,101]⟩] 9)).alloc (.cells #[.int .i64 2,.string ⟨#[102,105,114,101]⟩,.int .i64 4,.string ⟨#[112,101,114,105,108]⟩,.slice (some ⟨w2.heap.size,0,none⟩) 1 1,.int .i64 0,.int .i64 0,.slice none 0 0,.slice none 0 0,.int .i64 0] 48):=⟨_,rfl⟩
 obtain⟨y,hy⟩:∃y:Nat,y=w2.heap.size:=⟨_,rfl⟩
 have hx3:Ext w2 w3:=by rw[hw3];exact((Tz _).alloc _).alloc _
 have qC:=ai (show cZ w3 [clF] (some ⟨y+1,0,none⟩) 1 1 from akK (v:=⟨2,⟨#[102,105,114,101]⟩,⟨4,⟨#[112,101,114,105,108]⟩,some ⟨y,0,none⟩,1,1,0,0,none,0,0⟩,none,0,0,0⟩) (t:=48) (by rw[hw3,hy];exact cT (by simp)) ⟨rfl,rfl,PU (xH (l:=[⟨#[102,105,114,101]⟩]) (t:=9) (by rw[hw3,hy];exact bU (bR w2 _)) rfl) 4 0 0 _,rfl,aU _,aoX ⟨rfl,rfl⟩,by unfold clF gK;trivial,rfl⟩);rw[<-hw3,<-hy];have dS:=ai (dN.o.trans hx3);have nW:=ai (hx3.blk gG.o);clear hw3 hy hx3;obtain⟨e0,ef⟩:=dO nW.o;obtain⟨w4,hw4⟩:∃w4,w4=w3.alloc (.cells #[.int .i64 0,.int .i64 1,.int .i64 0] 3):=⟨_,rfl⟩
 have gV:Ext w3 w4:=by rw[hw4];exact(Tz _).alloc _
 have Nj:=ai (sF Xd [clF] [0,1,0] (.agg #[.slice sa sn sc]) (some ⟨y+1,0,none⟩) 1 1 (some ⟨w3.heap.size,0,none⟩) 3 3 w4 (HS.o.ext (dS.o.trans gV)) aj7 (by simp[Xd]) (qC.o.ext gV) (by omega) axk (by rw[hw4];exact xI rfl) (by omega) (HO.o.ext (dI.o.trans (dS.o.trans gV))));unfold ahh at Nj;rw[aEI,Vk _ (by decide +kernel)] at Nj;unfold rT.cells at Nj;have jl:=ai (dI.o.trans (dS.o.trans gV));have FP:=ai (gV.blk nW.o);have mo:=ai (qC.o.ext gV);have oY:=ai (HS.o.ext (dS.o.trans gV));clear gV;go_wp2_with fail
 rw[<-hw4];clear hw4 e0 ef nW qC HS dS dI;refine Nj.o.mono ?_;rintro r w5 ⟨rfl,dh⟩;go_upto_region 4 with fail;obtain⟨w6,rH⟩:∃w6,w6=w5.alloc (.cells #[.int .i64 4,.int .i64 (-1),.int .i64 0,.int .i64 0,.int .i64 0,.bool false] 29):=⟨_,rfl⟩
 have gN:Ext w5 w6:=by rw[rH];exact(Tz _).alloc _
 obtain⟨b2,hb2⟩:∃b2:Nat,b2=w5.heap.size:=⟨_,rfl⟩
 have ER:=ai (show w6.heap[b2]?=some (.cells #[.int .i64 4,.int .i64 (-1),.int .i64 0,.int .i64 0,.int .i64 0,.bool false] 29 (0,0)) by rw[rH,hb2];exact bR w5 _);rw[<-rH,<-hb2];have kR:=ai (jl.o.trans (dh.trans gN));have jO:=ai ((dh.trans gN).blk FP.o);have sK:=ai (mo.o.ext (dh.trans gN));have vE:=ai (oY.o.ext (dh.trans gN));clear rH hb2 gN dh Nj jl FP mo oY;obtain⟨e0,ef⟩:=dO jO.o;obtain⟨w7,wF⟩:∃w7,w7=w6.alloc (.cells #[.int .i64 1,.int .i64 1,.int .i64 0] 3):=⟨_,rfl⟩
 have ng:Ext w6 w7:=by rw[wF];exact(Tz _).alloc _
 have HPD:=ai (sF Xd [clF] [1,1,0] (.agg #[.slice sa sn sc]) (some ⟨y+1,0,none⟩) 1 1 (some ⟨w6.heap.size,0,none⟩) 3 3 w7 (vE.o.ext ng) aj7 (by simp[Xd]) (sK.o.ext ng) (by omega) axk (by rw[wF];exact xI rfl) (by omega) (HO.o.ext (kR.o.trans ng)));unfold ahh at HPD;rw[aAo,Vk _ (by decide +kernel)] at HPD;unfold rT.cells at HPD;have rZ:=ai (kR.o.trans ng);have EP:=ai (ng.blk ER.o);clear ng;go_wp2_with fail
 rw[<-wF];clear wF e0 ef;refine HPD.o.mono ?_;rintro r w8 ⟨rfl,qW⟩;go_upto_region 5 with fail;obtain⟨w9,uj⟩:∃w9,w9=w8.alloc (.cells #[.int .i64 1,.int .i64 0,.int .i64 0,.int .i64 0,.int .i64 0,.bool false] 29):=⟨_,rfl⟩
 have ux:Ext w8 w9:=by rw[uj];exact(Tz _).alloc _
 obtain⟨b3,hb3⟩:∃b3:Nat,b3=w8.heap.size:=⟨_,rfl⟩
 have HD9:=ai (show w9.heap[b3]?=some (.cells #[.int .i64 1,.int .i64 0,.int .i64 0,.int .i64 0,.int .i64 0,.bool false] 29 (0,0)) by rw[uj,hb3];exact bR w8 _);rw[<-uj,<-hb3];have vL:=ai (rZ.o.trans (qW.trans ux));have HE9:=ai ((qW.trans ux).blk EP.o);clear uj hb3 ux qW;obtain⟨d0,d1,d2,d3,d4,d5,df⟩:=dH HE9.o;obtain⟨g0,g1,g2,g3,g4,g5,gf⟩:=dH HD9.o;go_wp2_with fail
 go_ret;exact bW rfl vL.o
theorem KJ {s:List Attr} {l:List cK} {f:ZI} (hc:(cV s l).2=0) (hf:jU s f=true):jP s l f=0/\mS s l f=CN (val s l f) l:=by
 have h0:jP s l f=0:=by
  unfold jP;rw[bL (by simp[hc]),bL (by simp[hf])]
 exact⟨h0,by unfold mS;rw[bM h0]⟩
theorem vD.cls {w:World} {s:List Attr} {l:List cK} {f:ZI} {v:Yh} (h:vD w s l f v):(cV s l).2=0:=by rw[U4 h.mem h.ai6]
theorem vD.fac {w:World} {s:List Attr} {l:List cK} {f:ZI} {v:Yh} (h:vD w s l f v):jU s f=true:=by
 unfold jU;rw[(lK h.cls).x7,h.facts]
 rfl
theorem vD.fnl {w:World} {s:List Attr} {l:List cK} {f:ZI} {v:Yh} (h:vD w s l f v):v.fn<=1000:=by
 rw[h.ints.1,kA h.facts];exact(ei s h.mem).2.2
theorem UJ {W W':World} {g:Nat} (h:Ext W W'):Sub (mask W [g]) (mask W' [g]):=cF (h.cR []) (by simp)
theorem ahk (da:OA) (dn dc:Nat) (w:World) (h1:dR w da dn) (hdn:dn<=1000000000000000) (ho:dQ w) :
  Calls Tryz.prog 9 #[.slice da dn dc] w (cz (.bool true) w):=by
 have Rq:=ai (fun W (hW:Ext w W)=>vg W (ho.ext hW));have HO:=ai ho;have GU:=ai (xF da dn dc w h1 hdn);clear h1 ho;go_enter Tryz.func9,Tryz.ntmps9
 go_wp2_with fail;refine GU.o.mono ?_;rintro r w1 ⟨s,l,f,v,bd,rfl,Og,hd,hx1⟩;unfold Yh.val;go_upto_region 2 with fail;obtain⟨b3,hb3⟩:∃b3,b3=w1.heap.size:=⟨_,rfl⟩
 obtain⟨w2,hw2⟩:∃w2,w2=w1.alloc (.cells #[.slice v.sa v.sn v.sc,.slice v.la v.ln v.lc,.slice v.fa v.fn v.fc] 34):=⟨_,rfl⟩
 have hx2:Ext w1 w2:=by rw[hw2];exact(Tz _).alloc _
 have qO:=ai (show w2.heap[b3]?=some (.cells #[.slice v.sa v.sn v.sc,.slice v.la v.ln v.lc,.slice v.fa v.fn v.fc] 34 (0,0)) by rw[hw2,hb3];exact bR w1 _);have FN:=ai (Og.mono (UJ (g:=bd) hx2));have pY:=ai (hd.ext hx2);have dN:=ai (hx1.trans hx2);have pF:=ai (show bd<b3/\w.heap.size<=bd/\b3<w2.heap.size from⟨by rw[hb3];exact hd.lt,by obtain⟨_,_,_,_,_,_,_,_,_,q⟩:=hd;exact q,by rw[hw2,hb3];simp⟩);rw[<-hw2,<-hb3];clear hw2 hb3 hx1 hx2 Og hd GU;have HER:=ai (KJ (s:=s) (l:=l) (f:=f) FN.o.cls FN.o.fac);have HXD:=ai (fun W (hW:ct [bd] w2 W)=>show Ext w W from hW.ext dN.o (fun y hy=>by rw[aG.1 hy];exact pF.o.2.1));have HGV:=ai (fun W (hW:ct [bd] w2 W) (hd:cg w W bd)=>show Calls Tryz.prog 24 #[.pointer (some ⟨bd,0,none⟩),.agg #[.slice v.sa v.sn v.sc],.slice v.la v.ln v.lc,.slice v.fa v.fn v.fc] W (GvQ (val s l f) (aco (CY s l f) (val s l f) l) l w bd W) from aag v.fc ⟨FN.o.cls,FN.o.facts,iB FN.o.mem,hd,FN.o.x7.mono (cP hW (by simp)),FN.o.yT.mono (cP hW (by simp)),FN.o.ints.mono (cP hW (by simp))⟩);have HVF:=ai (fun W (hW:ct [bd] w2 W) (d:rT) (rs:List Rs) (ra:OA) (rn rc:Nat) (hr:iE W rs ra rn rc)=>show Calls Tryz.prog 23 #[.agg #[.slice v.sa v.sn v.sc],.slice v.la v.ln v.lc,.slice v.fa v.fn v.fc,.agg #[ d.oP,d.lim,d.xV,d.xU,d.xN,.bool d.Bt,.slice ra rn rc]] W (cz (.bool (Lj (CY s l f) l d rs)) W) from by
  have hi:=FN.o.mono (cP hW (by simp));have hm:=cC W [bd];have hvl:=hi.yT.len;have hfl:=hi.fnl;have vC:=hi.len;have hc:=ai' s l f _ v.la v.ln v.lc v.fa v.fn v.fc d rs ra rn rc W (hi.x7.mono hm) (iB hi.mem) (by have:=(ei s hi.mem).2.2;omega) (hi.yT.mono hm) (by omega) hi.Ca (hi.ints.mono hm) (by omega) (HO.o.ext (HXD.o W hW)) hr;unfold aGI at hc
  rwa [bM HER.o.1] at hc)
 obtain⟨D,hD⟩:∃D,D=CN (val s l f) l:=⟨_,rfl⟩
 have aT4:=ai (fun W (hW:ct [bd] w2 W) (hd:cg w W bd)=>(HGV.o W hW hd).mono (fun e w' (q:GvQ (val s l f) (aco (CY s l f) (val s l f) l) l w bd W e w')=>show ∃(L:List Rs) (a:OA) (c:Nat),e=.returned (.agg #[ D.oP,D.lim,D.xV,D.xU,D.xN,.bool D.Bt,.slice a L.length c])/\Lj (CY s l f) l D L=true/\iE w' L a L.length c/\ct [bd] W w' from by
  obtain⟨L,a,c,q1,q2,-,q3,-,q4⟩:=q;exact⟨L,a,c,by rw[q1,hD],by rw[hD];exact aBi (fun _ _ h=>akf h) q2,q3.mono (cC _ _),q4⟩))
 obtain⟨T,hT⟩:∃T:List Rs->Bool,T=Lj (CY s l f) l D:=⟨_,rfl⟩
 have aSQ:=ai (fun W (hW:ct [bd] w2 W) (rs:List Rs) (ra:OA) (rn rc:Nat) (hr:iE W rs ra rn rc)=>HVF.o W hW D rs ra rn rc hr);rw[<-hT] at aT4 aSQ;clear hD hT HGV HVF;obtain⟨x0,x1,x2,xf⟩:=dM qO.o;have hnb:b3∉[bd]:=by have:=pF.o;simp;omega
 have C0:=cU x0 hnb;have C1:=cU x1 hnb;have C2:=cU x2 hnb;refine pT 19 [bd] (fun W=>cg w W bd) (pY.o.ext (Tz _).drew) (fun _ _ hx h=>h.ext hx) ?_
 repeat (refine bZ ?_;intro K hK;go_big_quiet_op;go_big_quiet_on)
 refine dP (γ:=List Rs×OA×Nat) (fun x=>.agg #[ D.oP,D.lim,D.xV,D.xU,D.xN,.bool D.Bt,.slice x.2.1 x.1.length x.2.2]) (fun x W=>T x.1=true/\iE W x.1 x.2.1 x.1.length x.2.2) (fun W hW hd _=>?_) (fun x W W' hx h=>⟨h.1,h.2.mono hx.sub⟩) ?_ ⟨([],none,0)⟩
 ·unfold bQ;go_simp;refine(aT4.o W hW hd).mono ?_;rintro r wz ⟨L,a,c,rfl,q1,q2,q3⟩;exact⟨_,rfl,q3,(L,a,c),rfl,q1,q2⟩
 rintro⟨L,la,lc⟩ K hK;go_simp;go_big_quiet_on
 repeat (refine bZ ?_;intro K hK;go_big_quiet_op;go_big_quiet_on)
 refine fZ (.bool true) (fun _=>True) (fun W hW h _=>?_) (fun _ _ _ h=>h) ?_
 ·unfold bQ;go_simp;refine(aSQ.o W hW L la L.length lc h.2).mono ?_;rintro r wz ⟨rfl,hz⟩;exact⟨_,rfl,hz.cR _,by rw[h.1],trivial⟩
 intro K hK;go_simp;go_big_quiet_on
 repeat (refine bZ ?_;intro K hK;go_big_quiet_op;go_big_quiet_on)
 refine fZ (.bool true) (fun _=>True) (fun W hW h _=>?_) (fun _ _ _ h=>h) ?_
 ·unfold bQ;go_simp;refine(Rq.o W (HXD.o W hW)).mono ?_;rintro r wz ⟨rfl,hz⟩;exact⟨_,rfl,hz.cR _,rfl,trivial⟩
 intro K hK;go_simp;go_big_quiet_on
 repeat (refine bZ ?_;intro K hK;go_big_quiet_op;go_big_quiet_on)
 refine gC fun w3 hc3 _ _=>?_
 have dS:=ai (HXD.o w3 hc3);clear hc3 C0 C1 C2 x0 x1 x2 xf hnb;go_wp2_with fail
 go_ret;exact bW rfl dS.o
end Go.Proofs.YtefjomofjejklaaGreatDoor
