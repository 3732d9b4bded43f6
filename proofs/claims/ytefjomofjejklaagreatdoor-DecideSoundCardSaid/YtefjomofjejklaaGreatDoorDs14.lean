/- Joined. -/
import Derived.Test.YtefjomofjejklaaGreatDoorDs13
import Derived.Deep.CutBlock
import Derived.Shelf.SlicesQ.Reverse
import Derived.RangeFuncNested
import Derived.RangeFuncBound
import Derived.RangeFuncCalls
import Derived.RangeFuncLeaves
import Derived.RangeFuncBox
import Derived.Shelf.Abstract
import Derived.Shelf.RegionOpen
import Derived.OwnWalkIn
import Derived.TacticsInMore
import Derived.LoopNIn
import Derived.LoopIn
import Derived.Maps.OwnIn
namespace Go.Proofs.YtefjomofjejklaaGreatDoor
set_option maxRecDepth 100000
set_option maxHeartbeats 32000000
open Go.RowKit
theorem aIp {s:List Attr} {l:List cK} {f:ZI} {g:Nat} {name:BA} {words:ZB} {lo hi:Int} {args:List Ex} {V:Bool} {w0 w:World} {bd:Nat} {M:ZN} {a:OA} {n c:Nat} {fa:OA} {fn fc:Nat} {sa:OA} {sn sc:Nat} {aw:OA} {nw cw:Nat} {aa:OA} {na ca:Nat} (hv:jN s l f (g+1) (.mk 6 name words lo hi args)=V) (sA:args.length=1) (h:alN s l f g 6 name args lo hi V w0 w bd M a n c fa fn fc sa sn sc aw nw cw aa na ca) :
  Calls Tryz.prog 132 #[.pointer (some ⟨bd,0,none⟩),.agg #[.slice sa sn sc],.slice a n c,fN 6 name aw nw cw lo hi aa na ca,.slice fa fn fc] w (aic (fun p=>js s l f (g+1) (.mk 6 name words lo hi args) p=true/\p.iT 1000000) w0 bd M w):=by
 obtain⟨a0,rfl⟩:=Ao sA;have HQ:=ai (show ∀q,js s l f (g+1) a0 q=true->js s l f (g+1) (.mk 6 name words lo hi [a0]) (.mk V (-1) [q])=true from fun q hq=>by rw[<-hv];exact aHg hq);clear hv sA;have OL:=ai h.tr;have HTA:=ai h.ta;have mF:=ai h.arg;have HM:=ai h.m;have HD:=ai h.d;have HX:=ai h.x;have kJ:=ai h.na;have G8:=ai h.iT;have qL:=h.d.lt;have Ng:=ai (show w0.heap.size<=w.heap.size by obtain⟨_,_,_,_,_,_,_,_,hxw,_⟩:=h.d;exact hxw.size);clear h;unfold fN at *;obtain⟨wa,cN⟩:∃wa,wa=((w.alloc (.cells #[.slice sa sn sc] 24)).alloc (.cells #[.int .i64 6,.string name,.slice aw nw cw,lo,hi,.slice aa na ca] 45)).alloc (.cells #[.bool false,.int .i64 0,.slice none 0 0] 67):=⟨_,rfl⟩
 have gB:Ext w wa:=by rw[cN];exact(((Tz _).alloc _).alloc _).alloc _
 obtain⟨b6,lN⟩:∃b6:Nat,b6=w.heap.size:=⟨_,rfl⟩
 have hb0:wa.heap[b6]?=some (.cells #[.slice sa sn sc] 24 (0,0)):=by rw[cN,lN];exact bU (bU (bR w _))
 have hb1:wa.heap[b6+1]?=some (.cells #[.int .i64 6,.string name,.slice aw nw cw,lo,hi,.slice aa na ca] 45 (0,0)):=by rw[cN,lN];exact bU (cT (by simp))
 have hb2:wa.heap[b6+1+1]?=some qI:=by rw[cN,lN];exact cT (by simp)
 have dm:=ai gB;have iO:=ai hb0;have gG:=ai hb1;have fY:=ai hb2;have jO:=ai (show bd<b6/\b6=w.heap.size from⟨by omega,lN⟩);go_enter Tryz.func132,Tryz.ntmps132
 go_upto_region 1 with fail;rw[<-cN,<-lN];clear cN lN qL;obtain⟨f0,f1,f2,f3,f4,f5,ff⟩:=cX hb1;obtain⟨e0,ef⟩:=dO hb0;clear gB hb0 hb1 hb2;go_wp2_with fail;refine(OL.o wa (dm.o.cR _)).mono ?_;rintro r w1 ⟨rfl,hx1⟩;go_upto_region 2 with fail;obtain⟨eZ,oN⟩:∃eZ:Nat,eZ=w1.heap.size:=⟨_,rfl⟩
 obtain⟨w2,hw2⟩:∃w2,w2=w1.alloc (.cells #[.bool V,.int .i64 (-1),.slice none 0 0] 67):=⟨_,rfl⟩
 have hx2:Ext wa w2:=by rw[hw2];exact hx1.alloc _
 have oZ:=ai (show w2.heap[eZ]?=some (.cells #[.bool V,.int .i64 (-1),.slice none 0 0] 67 (0,0)) by rw[hw2,oN];exact bR w1 _);have uN:b6+1+1<eZ:=by have:=bS (hx1.blk fY.o);omega
 rw[<-hw2,<-oN];clear hw2 oN hx1 f0 f1 f2 f3 f4 f5 ff e0 ef;have kB:=ai uN;have dN:=ai (dm.o.trans hx2);have oB:=ai (hx2.blk iO.o);have kH:=ai (hx2.blk gG.o);have IE:=ai (hx2.blk fY.o);have pY:=ai (HD.o.ext (dm.o.trans hx2));have iP:=ai ((dm.o.trans hx2).cR [bd]);clear hx2 uN iO gG fY dm OL;obtain⟨f0,f1,f2,f3,f4,f5,ff⟩:=cX kH.o;obtain⟨e0,ef⟩:=dO oB.o;have hnp:0<na:=by have:=kJ.o;simp at this;omega
 obtain⟨xb,xo,rfl,nJ,nD,nG,nK,nE,nI,m0,m1,m2,m3,m4,m5,m6⟩:=eU.at [a0] _ (eU.mono (cP iP.o (by simp)) [a0] _ HX.o) 0 (by simp);simp only[Nat.zero_mul,Nat.add_zero,bB] at m0 m1 m2 m3 m4 m5 m6;have hnx:xb∉[bd]:=fun hm=>by rw[eA,bM hm] at m0;cases m0
 have g0:=cC _ _ _ _ m0;have g1:=cC _ _ _ _ m1;have g2:=cC _ _ _ _ m2;have g3:=cC _ _ _ _ m3;have g4:=cC _ _ _ _ m4;have g5:=cC _ _ _ _ m5;have M6:=ai m6;have YH:=ai (show b6∉[bd] by have:=jO.o;simp;omega);have HN7:=ai (show b6+1∉[bd] by have:=jO.o;simp;omega);have Gj:=ai hnx;obtain⟨Q,hQ⟩:∃Q:Pr->Prop,Q=fun q=>js s l f (g+1) a0 q=true/\q.iT 1000000:=⟨_,rfl⟩
 have HQD:=ai hQ;obtain⟨N,hN⟩:∃N:ZN,N=bd::(b6+1+1)::eZ::M:=⟨_,rfl⟩
 have qP:=ai hN;have pX:=ai (show bd∈N by rw[hN];simp);have oH:=fun W (hW:ct [bd] w2 W) (hd:cg w0 W bd)=>mF.o 0 (by simp) _ N W (iP.o.then hW) (fun z hz=>by
  have h1:=kB.o;have h2:=jO.o;have h3:=hW.size;have h4:=bS oZ.o;have h5:=HM.o;rw[hN] at hz;simp only[bz] at hz;rcases hz with rfl|rfl|rfl|hz
  ·omega
  ·omega
  ·omega
  have:=h5 z hz;have:=iP.o.size;omega) hd (M6.o.mono (cP hW (by simp)))
 simp only[bB] at oH;rw[<-hQ] at oH;unfold fN at oH;have sr:=ai oH;obtain⟨x0,hx0⟩:∃x0,x0=a0.op:=⟨_,rfl⟩
 obtain⟨x1,hx1⟩:∃x1,x1=a0.name:=⟨_,rfl⟩
 obtain⟨x5,dh⟩:∃x5,x5=a0.lo:=⟨_,rfl⟩
 obtain⟨x6,gN⟩:∃x6,x6=a0.hi:=⟨_,rfl⟩
 rw[<-hx0] at g0 sr;rw[<-hx1] at g1 sr;rw[<-dh] at g3 sr;rw[<-gN] at g4 sr;have yz:=ai pY.o;have HLW:=ai (bS oZ.o);clear hQ hN m0 m1 m2 m3 m4 m5 m6 oH hx0 hx1 dh gN hnx mF HTA;go_upto_region 4 with fail;have Z0:=cU e0 YH.o;obtain⟨Z1,Z2,Z3,Z4,Z5,Z6⟩:=wgn6 HN7.o f0 f1 f2 f3 f4 f5;obtain⟨Z7,Z8,Z9,Z10,Z11,Z12⟩:=wgn6 Gj.o g0 g1 g2 g3 g4 g5;refine pT 11 [bd] (fun W=>cg w0 W bd) (yz.o.ext (Tz _).drew) (fun _ _ hx h=>h.ext hx) ?_
 repeat (refine bZ ?_;intro Ka cH;go_big_quiet_op;go_big_quiet_on)
 refine dP (γ:=Pr×gS) (fun x=>.agg #[.bool x.2.value,x.2.pick,.slice x.2.a x.2.n x.2.c]) (fun x W=>gL (mask W N) x.1 x.2/\Q x.1/\cg w0 W bd) (fun W hW hd _=>?_) (fun x _ _ hx h=>⟨h.1.mono (cF (hx.cR []) (by simp)),h.2.1,h.2.2.ext hx⟩) ?_ ⟨(.mk false 0 [],⟨false,0,none,0,0⟩)⟩
 ·unfold bQ;go_simp;refine(sr.o W hW hd).mono ?_;rintro e5 w5 ⟨q,qv,rfl,hq1,hq2,oW,hc5⟩;exact⟨_,rfl,hc5,(q,qv),rfl,hq2,hq1,oW⟩
 rintro⟨q,qv⟩ Ka cH;go_simp;go_big_quiet_on;refine Az (fun y=>.slice (some ⟨y,0,none⟩) 1 1) (fun y W=>W.heap[y]?=some (.cells #[.bool qv.value,qv.pick,.slice qv.a qv.n qv.c] 67 (0,0))/\eZ<y) (fun W hW=>?_) (fun y W W' h r=>⟨h.blk r.1 (by have:=r.2;have:=kB.o;have:=jO.o;simp;omega),r.2⟩) ?_
 ·unfold bQ;go_simp;exact⟨(Tz W).alloc _,W.heap.size,rfl,bR W _,by have:=HLW.o;have:=hW.size;omega⟩
 intro y Ka cH;go_simp;go_big_quiet_on
 repeat (refine bZ ?_;intro Ka cH;go_big_quiet_op;go_big_quiet_on)
 refine nH fun W hW hy hf=>?_
 have AM:=ai (show W.heap[y]?=some (.cells #[.bool qv.value,qv.pick,.slice qv.a qv.n qv.c] 67 (0,0))/\eZ<y/\gL (mask W N) q qv/\Q q from⟨hf.2.1,hf.2.2,hy.1,hy.2.1⟩);have hW2:cg w0 W bd/\ct [bd] w2 W:=⟨hy.2.2,hW⟩
 clear hy hf hW Z0 Z1 Z2 Z3 Z4 Z5 Z6 Z7 Z8 Z9 Z10 Z11 Z12;have Jm:=ai AM.o;clear AM f0 f1 f2 f3 f4 f5 ff e0 ef g0 g1 g2 g3 g4 g5;have AM:=ai Jm.o;have mJ:=ai hW2;obtain⟨W3,hW3⟩:∃W3,W3=W.setCell ⟨eZ,2,none⟩ (.slice (some ⟨y,0,none⟩) 1 1):=⟨_,rfl⟩
 have hpw:W.heap[eZ]?=some (.cells #[.bool V,.int .i64 (-1),.slice none 0 0] 67 (0,0)):=mJ.o.2.blk oZ.o (by have:=kB.o;have:=jO.o;simp;omega);have hc3:ct [eZ] W W3:=by rw[hW3];exact lX _ _ _ _
 have EN:=ai (show W3.heap[eZ]?=some (.cells #[.bool V,.int .i64 (-1),.slice (some ⟨y,0,none⟩) 1 1] 67 (0,0)) by rw[hW3];have:=lH (i:=2) hpw (.slice (some ⟨y,0,none⟩) 1 1);simpa using this);obtain⟨p0,p1,p2,wu⟩:=dM hpw;go_upto_region 22 with fail;rw[<-hW3];clear hW3 p0 p1 p2 wu hW2 hpw;have HZ3:=ai (hc3.blk (mJ.o.2.blk IE.o (by have:=jO.o;simp;omega)) (by have:=kB.o;simp;omega));have wG:=ai (mJ.o.1.cR hc3 (by have:=kB.o;have:=jO.o;simp;omega) (fun z hz=>by simp only[aG] at hz;have:=kB.o;have:=jO.o;have:=Ng.o;omega));have oD:=ai ((iP.o.then mJ.o.2).trans hc3 (fun z hz=>by simp only[aG] at hz;have:=kB.o;have:=jO.o;exact a4Z (by omega)));have HY3:=ai (hc3.blk AM.o.1 (by have:=AM.o.2.1;simp;omega));have RT:=ai (show gL (mask W3 ((b6+1+1)::M)) q qv from(AM.o.2.2.1.mono (jh hc3 (fun z hz=>by simp only[aG] at hz;rw[hz,qP.o];simp))).mono (cM _ (fun z hz=>by rw[qP.o];simp only[bz] at hz ⊢;rcases hz with h|h<;>simp[h])));have HQQ:=ai AM.o.2.2.2;have hys:=AM.o.2.1;clear hc3;obtain⟨p0,p1,p2,wu⟩:=dM EN.o;have hz:W3.heap[b6+1+1]?=some (.cells #[.bool false,.int .i64 0,.slice none 0 0] 67 (0,0)):=HZ3.o;obtain⟨r0,r1,r2,rf⟩:=dM hz;have P9:=bS hz;have HZ:=ai (Fs (w:=w) (M:=M) (pv:=⟨V,-1,some ⟨y,0,none⟩,1,1⟩) HZ3.o (by have:=jO.o;omega) Ng.o (by have:=jO.o;omega) wG.o oD.o
  (rX (v:=qv) (t:=67) HY3.o (fun hm=>by
   have h1:=kB.o;have h2:=jO.o;simp only[bz] at hm;rcases hm with hm|hm
   ·omega
   have:=HM.o _ hm;omega) RT.o V (-1)))
 simp only at HZ;go_wp2_with fail;obtain⟨wz,eV⟩:∃wz,wz=kW W3 (b6+1+1) (.bool V) (.int .i64 (-1)) (.slice (some ⟨y,0,none⟩) 1 1):=⟨_,rfl⟩
 rw[<-eV] at HZ;unfold kW at eV;rw[<-eV];clear eV;obtain⟨z0,z1,z2,zf⟩:=dM HZ.o.1;refine a5a (v:=gS.val ⟨V,-1,some ⟨y,0,none⟩,1,1⟩) (by simp[results,Tryz.results132,go_sem,gS.val,z0,z1,z2]) rfl ?_;rw[HQD.o] at HQQ;exact⟨_,_,rfl,⟨HQ.o q HQQ.o.1,.mk (by simp) (fun x hx=>by simp only[aG] at hx;rw[hx];exact HQQ.o.2)⟩,HZ.o.2⟩
theorem axc {s:List Attr} {l:List cK} {f:ZI} {g:Nat} {name:BA} {words:ZB} {lo hi:Int} {args:List Ex} {V:Bool} {w0 w:World} {bd:Nat} {M:ZN} {a:OA} {n c:Nat} {fa:OA} {fn fc:Nat} {sa:OA} {sn sc:Nat} {aw:OA} {nw cw:Nat} {aa:OA} {na ca:Nat} {op:Int} (hop:op=7/\V=true\/op=8/\V=false) (hv:jN s l f (g+1) (.mk op name words lo hi args)=V) (h:alN s l f g op name args lo hi V w0 w bd M a n c fa fn fc sa sn sc aw nw cw aa na ca) :
  Calls Tryz.prog 132 #[.pointer (some ⟨bd,0,none⟩),.agg #[.slice sa sn sc],.slice a n c,fN op name aw nw cw lo hi aa na ca,.slice fa fn fc] w (aic (fun p=>js s l f (g+1) (.mk op name words lo hi args) p=true/\p.iT 1000000) w0 bd M w):=by
 have HQ:=ai (show ∀ps:List Pr,args.length=ps.length->(∀i (h1:i<args.length) (h2:i<ps.length),js s l f (g+1) args[i] ps[i]=true)->js s l f (g+1) (.mk op name words lo hi args) (.mk V (-1) ps)=true from fun ps hl hp=>aHi (hop.imp And.left And.left) hv (by rcases hop with ⟨rfl,rfl⟩|⟨rfl,rfl⟩<;>rfl) hl hp);obtain⟨P,hP⟩:∃P:Nat->Pr->Prop,P=fun j p=>(∀h:j<args.length,js s l f (g+1) args[j] p=true)/\p.iT 1000000:=⟨_,rfl⟩
 have HPE:=ai hP;clear hv hP;have OL:=ai h.tr;have HTA:=ai h.ta;have mF:=ai h.arg;have HM:=ai h.m;have HD:=ai h.d;have HX:=ai h.x;have kJ:=ai h.na;have G8:=ai h.iT;have qL:=h.d.lt;have Ng:=ai (show w0.heap.size<=w.heap.size by obtain⟨_,_,_,_,_,_,_,_,hxw,_⟩:=h.d;exact hxw.size);clear h;unfold fN at *;obtain⟨wa,cN⟩:∃wa,wa=((w.alloc (.cells #[.slice sa sn sc] 24)).alloc (.cells #[ op,.string name,.slice aw nw cw,lo,hi,.slice aa na ca] 45)).alloc (.cells #[.bool false,.int .i64 0,.slice none 0 0] 67):=⟨_,rfl⟩
 have gB:Ext w wa:=by rw[cN];exact(((Tz _).alloc _).alloc _).alloc _
 obtain⟨b6,lN⟩:∃b6:Nat,b6=w.heap.size:=⟨_,rfl⟩
 have hb0:wa.heap[b6]?=some (.cells #[.slice sa sn sc] 24 (0,0)):=by rw[cN,lN];exact bU (bU (bR w _))
 have hb1:wa.heap[b6+1]?=some (.cells #[ op,.string name,.slice aw nw cw,lo,hi,.slice aa na ca] 45 (0,0)):=by rw[cN,lN];exact bU (cT (by simp))
 have hb2:wa.heap[b6+1+1]?=some qI:=by rw[cN,lN];exact cT (by simp)
 have dm:=ai gB;have iO:=ai hb0;have gG:=ai hb1;have fY:=ai hb2;have jO:=ai (show bd<b6/\b6=w.heap.size from⟨by omega,lN⟩);go_enter Tryz.func132,Tryz.ntmps132
 go_upto_region 1 with fail;rw[<-cN,<-lN];clear cN lN qL;obtain⟨f0,f1,f2,f3,f4,f5,ff⟩:=cX hb1;obtain⟨e0,ef⟩:=dO hb0;clear gB hb0 hb1 hb2;go_wp2_with fail;refine(OL.o wa (dm.o.cR _)).mono ?_;rintro r w1 ⟨rfl,hx1⟩;go_upto_region 2 with fail;obtain⟨eZ,oN⟩:∃eZ:Nat,eZ=w1.heap.size:=⟨_,rfl⟩
 obtain⟨w2,hw2⟩:∃w2,w2=w1.alloc (.cells #[.bool V,.int .i64 (-1),.slice none 0 0] 67):=⟨_,rfl⟩
 have hx2:Ext wa w2:=by rw[hw2];exact hx1.alloc _
 have oZ:=ai (show w2.heap[eZ]?=some (.cells #[.bool V,.int .i64 (-1),.slice none 0 0] 67 (0,0)) by rw[hw2,oN];exact bR w1 _);have uN:b6+1+1<eZ:=by have:=bS (hx1.blk fY.o);omega
 rw[<-hw2,<-oN];clear hw2 oN hx1 f0 f1 f2 f3 f4 f5 ff e0 ef;have kB:=ai uN;have dN:=ai (dm.o.trans hx2);have oB:=ai (hx2.blk iO.o);have kH:=ai (hx2.blk gG.o);have IE:=ai (hx2.blk fY.o);have pY:=ai (HD.o.ext (dm.o.trans hx2));have iP:=ai ((dm.o.trans hx2).cR [bd]);clear hx2 uN iO gG fY dm OL;obtain⟨f0,f1,f2,f3,f4,f5,ff⟩:=cX kH.o;obtain⟨e0,ef⟩:=dO oB.o;obtain⟨p0,p1,p2,wu⟩:=dM oZ.o;have t6:(op==6)=false:=by rcases hop with ⟨rfl,-⟩|⟨rfl,-⟩<;>rfl
 have t3:(op==3)=false:=by rcases hop with ⟨rfl,-⟩|⟨rfl,-⟩<;>rfl
 rcases hop with ⟨hop,hV⟩|⟨hop,hV⟩
 case' inl=>have t7:(op==7)=true:=by rw[hop];rfl
 case' inr =>
  have t7:(op==7)=false:=by rw[hop];rfl
  have t8:(op==8)=true:=by rw[hop];rfl
 all_goals
 clear hop;go_upto_region 13 with fail;clear hV f0 f1 f2 f3 f4 f5 ff e0 ef p0 p1 p2 wu;go_wp2_with fail;go_loopw [16] (a0I P V na bd b6 eZ M (.cells #[.slice sa sn sc] 24 (0,0)) (.cells #[ op,.string name,.slice aw nw cw,lo,hi,.slice aa na ca] 45 (0,0)) w0 w) (fun i _=>na - (intOf i).toNat)
 case atStart=>exact⟨0,[],[],.slice none 0 0,rfl,by omega,rfl,fun j h=>by simp at h,a4' _ _ _ _,Ii.nil _,oB.o,kH.o,IE.o,oZ.o,pY.o,iP.o⟩
 case round =>
  obtain⟨k,ps,pvs,u,rfl,hk,hpl,hpp,hown,Of,hb0,hb1,hb2,U1,hdk,Kv⟩:=hrel;obtain⟨ua,uc,hu⟩:=eP hown;subst hu;have Nb:=ai hpl;have Rp:=ai hpp;have HOW:=ai hown;have Yo:=ai Of;have Sa:=ai hb0;have mE:=ai hb1;have aOS:=ai hb2;have HBP:=ai U1;have yz:=ai hdk;have HCG:=ai Kv;have tR:=ai (show eZ+1<=wr.heap.size from bS U1);have hnk:na<=1000000:=by have:=kJ.o;have:=G8.o;omega
  obtain⟨e0,ef⟩:=dO hb0;obtain⟨f0,f1,f2,f3,f4,f5,ff⟩:=cX hb1;obtain⟨p0,p1,p2,wu⟩:=dM U1;clear hpl hpp hown Of hb0 hb1 hb2 U1 hdk Kv oB kH IE oZ pY iP dN;by_cases hkn:k<na
  ·have hka:k<args.length:=by have:=kJ.o;omega
   have t1:=ag ((k:Int)<(na:Int));obtain⟨xb,xo,rfl,nJ,nD,nG,nK,nE,nI,m0,m1,m2,m3,m4,m5,m6⟩:=eU.at args _ HX.o k hka;have hxl:xb<w.heap.size:=by have:=eB (cC _ _ _ _ m0);simpa using this
   have TD:xb∉[bd]:=fun hm=>by rw[eA,bM hm] at m0;cases m0
   have g0:=fR HCG.o (cC _ _ _ _ m0) TD;have g1:=fR HCG.o (cC _ _ _ _ m1) TD;have g2:=fR HCG.o (cC _ _ _ _ m2) TD;have g3:=fR HCG.o (cC _ _ _ _ m3) TD;have g4:=fR HCG.o (cC _ _ _ _ m4) TD;have g5:=fR HCG.o (cC _ _ _ _ m5) TD;have M6:=ai m6;obtain⟨N,hN⟩:∃N,N=bd::rowOf (.slice ua k uc)++(b6+1+1)::eZ::M:=⟨_,rfl⟩
   have qP:=ai hN;have HBU:=ai (show bd∉rowOf (.slice ua k uc) from ND HOW.o (by have:=jO.o;have:=kB.o;omega));have pX:=ai (show bd∈N by rw[hN];simp);have YH:=ai (show b6∉bd::rowOf (.slice ua k uc) by rw[bz,not_or];exact⟨by have:=jO.o;omega,ND HOW.o (by have:=kB.o;omega)⟩);have HN7:=ai (show b6+1∉bd::rowOf (.slice ua k uc) by rw[bz,not_or];exact⟨by have:=jO.o;omega,ND HOW.o (by have:=kB.o;omega)⟩);have HN8:=ai (show b6+1+1∉bd::rowOf (.slice ua k uc) by rw[bz,not_or];exact⟨by have:=jO.o;omega,ND HOW.o (by have:=kB.o;omega)⟩);have ah3:=ai (show eZ∉bd::rowOf (.slice ua k uc) by rw[bz,not_or];exact⟨by have:=jO.o;have:=kB.o;omega,ND HOW.o (by omega)⟩);have Gj:=ai (show xb∉bd::rowOf (.slice ua k uc) by rw[bz,not_or];exact⟨by simpa using TD,ND HOW.o (by have:=jO.o;have:=kB.o;omega)⟩);have nS:=ai (show ∀W,ct (bd::rowOf (.slice ua k uc)) wr W->ct [bd] w W from fun W hW=>HCG.o.trans hW (fun z hz=>by
    rcases bz.1 hz with h|h
    ·exact aoX (by simp[h])
    have:=(HOW.o.lt z (bV.1 h)).1;have:=jO.o;have:=kB.o;exact a4Z (by omega)))
   obtain⟨Q,hQ⟩:∃Q:Pr->Prop,Q=fun q=>js s l f (g+1) args[k] q=true/\q.iT 1000000:=⟨_,rfl⟩
   have HQD:=ai (show ∀q,Q q->P k q from fun q hq=>by rw[HPE.o];rw[hQ] at hq;exact⟨fun _=>hq.1,hq.2⟩);have oH:=fun W (hW:ct (bd::rowOf (.slice ua k uc)) wr W) (hd:cg w0 W bd)=>mF.o k hka _ N W (nS.o W hW) (fun z hz=>by
    have h1:=kB.o;have h2:=jO.o;have h3:=hW.size;have h4:=tR.o;have h5:=HM.o;rw[hN] at hz;simp only[a48,bz,aN] at hz;rcases hz with rfl|hz|rfl|rfl|hz
    ·omega
    ·have:=(HOW.o.lt z (bV.1 hz)).2;omega
    ·omega
    ·omega
    have:=h5 z hz;have:=HCG.o.size;omega) hd (M6.o.mono (cP (nS.o W hW) (by simp)))
   rw[<-hQ] at oH;unfold fN at oH;have sr:=ai oH;obtain⟨x0,hx0⟩:∃x0,x0=args[k].op:=⟨_,rfl⟩
   obtain⟨x1,hx1⟩:∃x1,x1=args[k].name:=⟨_,rfl⟩
   obtain⟨x5,dh⟩:∃x5,x5=args[k].lo:=⟨_,rfl⟩
   obtain⟨x6,gN⟩:∃x6,x6=args[k].hi:=⟨_,rfl⟩
   rw[<-hx0] at g0 sr;rw[<-hx1] at g1 sr;rw[<-dh] at g3 sr;rw[<-gN] at g4 sr;have HWR:=ai (show ∀W,ct [bd] wr W->Ii (mask W N) ps pvs from fun W hW=>by rw[hN];exact Yo.o.mono (cP hW (by simp)));have HKB:=ai (show k<1000000 by have:=G8.o;omega);have HLW:=ai (show eZ<wr.heap.size by have:=tR.o;omega);clear hQ hN m0 m1 m2 m3 m4 m5 m6 oH hx0 hx1 dh gN TD hxl mF HTA Yo;go_upto_region 16 with fail;have Z0:=cU e0 YH.o;obtain⟨Z1,Z2,Z3,Z4,Z5,Z6⟩:=wgn6 HN7.o f0 f1 f2 f3 f4 f5;obtain⟨Z7,Z8,Z9⟩:=wgn3 ah3.o p0 p1 p2;obtain⟨Z10,Z11,Z12,Z13,Z14,Z15⟩:=wgn6 Gj.o g0 g1 g2 g3 g4 g5;refine pT 15 (bd::rowOf (.slice ua k uc)) (fun W=>cg w0 W bd/\ct [bd] wr W) ⟨yz.o.ext (Tz _).drew,(Tz _).drew.cR _⟩ (fun _ _ hx h=>⟨h.1.ext hx,h.2.then (hx.cR _)⟩) ?_
   repeat (refine bZ ?_;intro Ka cH;go_big_quiet_op;go_big_quiet_on)
   refine dP (γ:=Pr×gS) (fun x=>.agg #[.bool x.2.value,x.2.pick,.slice x.2.a x.2.n x.2.c]) (fun x W=>gL (mask W N) x.1 x.2/\Q x.1/\cg w0 W bd/\ct [bd] wr W) (fun W hW hd _=>?_) (fun x _ _ hx h=>⟨h.1.mono (cF (hx.cR []) (by simp)),h.2.1,h.2.2.1.ext hx,h.2.2.2.then (hx.cR _)⟩) ?_ ⟨(.mk false 0 [],⟨false,0,none,0,0⟩)⟩
   ·unfold bQ;go_simp;refine(sr.o W hW hd.1).mono ?_;rintro e5 w5 ⟨q,qv,rfl,hq1,hq2,oW,hc5⟩;exact⟨_,rfl,hc5.weak (by simp),(q,qv),rfl,hq2,hq1,oW,hd.2.then hc5⟩
   rintro⟨q,qv⟩ Ka cH;go_simp;go_big_quiet_on;refine Az (fun y=>.slice (some ⟨y,0,none⟩) 1 1) (fun y W=>W.heap[y]?=some (.cells #[.bool qv.value,qv.pick,.slice qv.a qv.n qv.c] 67 (0,0))/\wr.heap.size<=y) (fun W hW=>?_) (fun y W W' h r=>⟨h.blk r.1 (fun hm=>by
    have h1:=r.2;rcases bz.1 hm with e|e
    ·have:=kB.o;have:=jO.o;have:=HLW.o;omega
    have:=(HOW.o.lt y (bV.1 e)).2;omega),r.2⟩) ?_
   ·unfold bQ;go_simp;exact⟨(Tz W).alloc _,W.heap.size,rfl,bR W _,hW.size⟩
   intro y Ka cH;go_simp;go_big_quiet_on;refine dP (γ:=Nat×Nat) (fun x=>.slice (some ⟨x.1,0,none⟩) (k+1) x.2) (fun x W=>W.ownsRow (eZ+1) 67 3 (.slice (some ⟨x.1,0,none⟩) (k+1) x.2) (k+1) (pvs.flatMap gS.cells++qv.cells)/\Ii (mask W (bd::rowOf (.slice (some ⟨x.1,0,none⟩) (k+1) x.2)++(b6+1+1)::eZ::M)) (ps++[q]) (pvs++[qv])/\Q q/\cg w0 W bd) (fun W hW h hf=>?_) (fun x _ _ hx h=>⟨cO h.1 (hx.cR []) (by simp),h.2.1.mono (cF (hx.cR []) (by simp)),h.2.2.1,h.2.2.2.ext hx⟩) ?_ ⟨(0,0)⟩
   ·have arf:=h.2.2.2;have ho0:=cO HOW.o arf (fun z hz hm=>by simp only[aG] at hm;have:=(HOW.o.lt z hz).1;have:=jO.o;have:=kB.o;omega);refine jS XS _ _ (eZ+1) _ k _ rfl y 1 1 qv.cells rfl rfl (by simp[gS.cells,Value.oneCell']) (by omega) (by have:=HKB.o;omega) (by omega) ho0 (fun j hj=>by rw[bX hf.2.1];simp;exact aT (l:=qv.cells) hj) (by have:=arf.size;have:=tR.o;omega) ?_;intro g2 cap z2 ho2 hg2 hw2 hlt2;have Kv:ct (rowOf (.slice ua k uc)) W z2:=eX hg2;have hkeep:Sub (mask W N) (mask z2 (bd::rowOf (.slice (some ⟨g2,0,none⟩) (k+1) cap)++(b6+1+1)::eZ::M)):=aB5 qP.o Kv hw2;exact⟨Kv.weak (fun y hy=>aZ _ hy),(g2,cap),rfl,ho2,((HWR.o W arf).mono hkeep).snoc (h.1.mono hkeep),h.2.1,h.2.2.1.cR Kv HBU.o (fun z hz=>by have:=(HOW.o.lt z (bV.1 hz)).1;have:=jO.o;have:=kB.o;have:=Ng.o;omega)⟩
   rintro⟨g2,cap⟩ Ka cH;go_simp;go_big_quiet_on
   repeat (refine bZ ?_;intro Ka cH;go_big_quiet_op;go_big_quiet_on)
   refine nH fun W hW hy _=>?_
   obtain⟨v2,hv2⟩:∃v2,v2=Value.slice (some ⟨g2,0,none⟩) (k+1) cap:=⟨_,rfl⟩
   have VH:=ai (show W.ownsRow (eZ+1) 67 3 v2 (k+1) (pvs.flatMap gS.cells++qv.cells)/\Ii (mask W (bd::rowOf v2++(b6+1+1)::eZ::M)) (ps++[q]) (pvs++[qv])/\Q q from by rw[hv2];exact⟨hy.1,hy.2.1,hy.2.2.1⟩);rw[<-hv2];have hW2:cg w0 W bd/\ct (bd::rowOf (.slice ua k uc)) wr W:=⟨hy.2.2.2,hW⟩
   clear hv2 hy hW Z0 Z1 Z2 Z3 Z4 Z5 Z6 Z7 Z8 Z9 Z10 Z11 Z12 Z13 Z14 Z15;have qO:=ai hW2;obtain⟨a2,c2,hv2⟩:=eP VH.o.1;subst hv2;have Jm:=ai VH.o;clear VH f0 f1 f2 f3 f4 f5 ff e0 ef p0 p1 p2 wu g0 g1 g2 g3 g4 g5 hW2;have hpw:W.heap[eZ]?=some (.cells #[.bool V,.int .i64 (-1),.slice ua k uc] 67 (0,0)):=qO.o.2.blk HBP.o ah3.o;obtain⟨W3,hW3⟩:∃W3,W3=W.setCell ⟨eZ,2,none⟩ (.slice a2 (k+1) c2):=⟨_,rfl⟩
   have hc3:ct [eZ] W W3:=by rw[hW3];exact lX _ _ _ _
   have EN:=ai (show W3.heap[eZ]?=some (.cells #[.bool V,.int .i64 (-1),.slice a2 (k+1) c2] 67 (0,0)) by rw[hW3];have:=lH (i:=2) hpw (.slice a2 (k+1) c2);simpa using this);obtain⟨p0,p1,p2,wu⟩:=dM hpw;go_upto_region 15 with fail;rw[<-hW3];clear hW3 p0 p1 p2 wu hpw;have HD0:=ai (hc3.blk (qO.o.2.blk Sa.o YH.o) (by have:=kB.o;simp;omega));have tU:=ai (hc3.blk (qO.o.2.blk mE.o HN7.o) (by have:=kB.o;simp;omega));have pY:=ai (hc3.blk (qO.o.2.blk aOS.o HN8.o) (by have:=kB.o;simp;omega));have vF:=ai (cO Jm.o.1 hc3 (fun z hz hm=>by simp only[aG] at hm;have:=(Jm.o.1.lt z hz).1;omega));have aNY:=ai (Jm.o.2.1.mono (jh hc3 (fun z hz=>by simp only[aG] at hz;simp[hz])));have awb:=ai (qO.o.1.cR hc3 (by have:=kB.o;have:=jO.o;simp;omega) (fun z hz=>by simp only[aG] at hz;have:=kB.o;have:=jO.o;have:=Ng.o;omega));have oD:=ai ((nS.o W qO.o.2).trans hc3 (fun z hz=>by simp only[aG] at hz;have:=kB.o;have:=jO.o;exact a4Z (by omega)));have HQQ:=ai (HQD.o q Jm.o.2.2);clear hc3;go_wp2_with fail;go_roundw
   case rel=>exact⟨k+1,ps++[q],pvs++[qv],.slice a2 (k+1) c2,by go_num,by omega,by have:=Nb.o;simp[this],aC5 Rp.o (by rw[Nb.o];exact HQQ.o),by have:=vF.o;simpa using this,aNY.o,HD0.o,tU.o,pY.o,EN.o,awb.o,oD.o⟩
   case measure=>simp[intOf];omega
  have t1:=ah ((k:Int)<(na:Int));obtain rfl:k=na:=by omega
  have RY:=ai (show gL (mask wr ((b6+1+1)::M)) (.mk V (-1) ps) ⟨V,-1,ua,k,uc⟩ by
   have hos:wr.ownsRow (eZ+1) 67 3 (.slice ua k uc) ps.length (pvs.flatMap gS.cells):=by rw[Nb.o];exact HOW.o
   obtain⟨a',c',he,Ll⟩:=S9 (M:=(b6+1+1)::M) hos (fun z hz hm=>by
    have h1:=(HOW.o.lt z hz).1;have h2:=jO.o;have h3:=kB.o;simp only[bz] at hm;rcases hm with hm|hm
    ·omega
    have:=HM.o z hm;omega) (Yo.o.mono (cM _ (fun z hz=>by simp only[a48,bz,aN] at hz ⊢;rcases hz with h|h<;>simp[h]))) V (-1)
   simp only[a45] at he;obtain⟨rfl,h2,rfl⟩:=he;rw[<-h2] at Ll;exact Ll)
  have HZ:=ai (Fs (w:=w) (M:=M) (pv:=⟨V,-1,ua,k,uc⟩) aOS.o (by have:=jO.o;omega) Ng.o (by have:=jO.o;omega) yz.o HCG.o RY.o);simp only at HZ;have hz:wr.heap[b6+1+1]?=some (.cells #[.bool false,.int .i64 0,.slice none 0 0] 67 (0,0)):=aOS.o;obtain⟨r0,r1,r2,rf⟩:=dM hz;have P9:=bS hz;go_wp2_with fail;obtain⟨wz,eV⟩:∃wz,wz=kW wr (b6+1+1) (.bool V) (.int .i64 (-1)) (.slice ua k uc):=⟨_,rfl⟩
  rw[<-eV] at HZ;unfold kW at eV;rw[<-eV];clear eV;obtain⟨z0,z1,z2,zf⟩:=dM HZ.o.1;refine a5a (v:=gS.val ⟨V,-1,ua,k,uc⟩) (by simp[results,Tryz.results132,go_sem,gS.val,z0,z1,z2]) rfl ?_;have hpp:=Rp.o;rw[HPE.o] at hpp;exact⟨_,_,rfl,⟨HQ.o ps (by rw[Nb.o];exact kJ.o.symm) (fun i h1 h2=>(hpp i h2).1 h1),.mk (by have:=Nb.o;have:=G8.o;have:=kJ.o;omega) (fun x hx=>by obtain⟨i,hi,rfl⟩:=bA hx;exact(hpp i hi).2)⟩,HZ.o.2⟩
theorem axb {s:List Attr} {l:List cK} {f:ZI} {g:Nat} {name:BA} {words:ZB} {lo hi:Int} {args:List Ex} {V:Bool} {w0 w:World} {bd:Nat} {M:ZN} {a:OA} {n c:Nat} {fa:OA} {fn fc:Nat} {sa:OA} {sn sc:Nat} {aw:OA} {nw cw:Nat} {aa:OA} {na ca:Nat} {op:Int} (hop:op=7/\V=false\/op=8/\V=true) (hv:jN s l f (g+1) (.mk op name words lo hi args)=V) (h:alN s l f g op name args lo hi V w0 w bd M a n c fa fn fc sa sn sc aw nw cw aa na ca) :
  Calls Tryz.prog 132 #[.pointer (some ⟨bd,0,none⟩),.agg #[.slice sa sn sc],.slice a n c,fN op name aw nw cw lo hi aa na ca,.slice fa fn fc] w (aic (fun p=>js s l f (g+1) (.mk op name words lo hi args) p=true/\p.iT 1000000) w0 bd M w):=by
 have HQ:=ai (show ∀(k:Nat) (hk:k<args.length) (q:Pr),jN s l f (g+1) args[k]=V->js s l f (g+1) args[k] q=true->js s l f (g+1) (.mk op name words lo hi args) (.mk V (k:Int) [q])=true from fun k hk q h1 h2=>aCj (hop.imp And.left And.left) (by rcases hop with ⟨rfl,rfl⟩|⟨rfl,rfl⟩<;>rfl) hk h1 h2);obtain⟨j0,hj0,hjv⟩:=aoU (hop.imp And.left And.left) hv (by rcases hop with ⟨rfl,rfl⟩|⟨rfl,rfl⟩<;>rfl);have HJV:=ai hjv;clear hv hjv;have OL:=ai h.tr;have HTA:=ai h.ta;have mF:=ai h.arg;have HM:=ai h.m;have HD:=ai h.d;have HX:=ai h.x;have kJ:=ai h.na;have G8:=ai h.iT;have qL:=h.d.lt;have Ng:=ai (show w0.heap.size<=w.heap.size by obtain⟨_,_,_,_,_,_,_,_,hxw,_⟩:=h.d;exact hxw.size);clear h;unfold fN at *;obtain⟨wa,cN⟩:∃wa,wa=((w.alloc (.cells #[.slice sa sn sc] 24)).alloc (.cells #[ op,.string name,.slice aw nw cw,lo,hi,.slice aa na ca] 45)).alloc (.cells #[.bool false,.int .i64 0,.slice none 0 0] 67):=⟨_,rfl⟩
 have gB:Ext w wa:=by rw[cN];exact(((Tz _).alloc _).alloc _).alloc _
 obtain⟨b6,lN⟩:∃b6:Nat,b6=w.heap.size:=⟨_,rfl⟩
 have hb0:wa.heap[b6]?=some (.cells #[.slice sa sn sc] 24 (0,0)):=by rw[cN,lN];exact bU (bU (bR w _))
 have hb1:wa.heap[b6+1]?=some (.cells #[ op,.string name,.slice aw nw cw,lo,hi,.slice aa na ca] 45 (0,0)):=by rw[cN,lN];exact bU (cT (by simp))
 have hb2:wa.heap[b6+1+1]?=some qI:=by rw[cN,lN];exact cT (by simp)
 have dm:=ai gB;have iO:=ai hb0;have gG:=ai hb1;have fY:=ai hb2;have jO:=ai (show bd<b6/\b6=w.heap.size from⟨by omega,lN⟩);go_enter Tryz.func132,Tryz.ntmps132
 go_upto_region 1 with fail;rw[<-cN,<-lN];clear cN lN qL;obtain⟨f0,f1,f2,f3,f4,f5,ff⟩:=cX hb1;obtain⟨e0,ef⟩:=dO hb0;clear gB hb0 hb1 hb2;go_wp2_with fail;refine(OL.o wa (dm.o.cR _)).mono ?_;rintro r w1 ⟨rfl,hx1⟩;go_upto_region 2 with fail;obtain⟨eZ,oN⟩:∃eZ:Nat,eZ=w1.heap.size:=⟨_,rfl⟩
 obtain⟨w2,hw2⟩:∃w2,w2=w1.alloc (.cells #[.bool V,.int .i64 (-1),.slice none 0 0] 67):=⟨_,rfl⟩
 have hx2:Ext wa w2:=by rw[hw2];exact hx1.alloc _
 have oZ:=ai (show w2.heap[eZ]?=some (.cells #[.bool V,.int .i64 (-1),.slice none 0 0] 67 (0,0)) by rw[hw2,oN];exact bR w1 _);have uN:b6+1+1<eZ:=by have:=bS (hx1.blk fY.o);omega
 rw[<-hw2,<-oN];clear hw2 oN hx1 f0 f1 f2 f3 f4 f5 ff e0 ef;have kB:=ai uN;have dN:=ai (dm.o.trans hx2);have oB:=ai (hx2.blk iO.o);have kH:=ai (hx2.blk gG.o);have IE:=ai (hx2.blk fY.o);have pY:=ai (HD.o.ext (dm.o.trans hx2));have iP:=ai ((dm.o.trans hx2).cR [bd]);clear hx2 uN iO gG fY dm OL;obtain⟨f0,f1,f2,f3,f4,f5,ff⟩:=cX kH.o;obtain⟨e0,ef⟩:=dO oB.o;obtain⟨p0,p1,p2,wu⟩:=dM oZ.o;have hjn:j0<na:=by have:=kJ.o;omega
 have hnk:na<=1000000:=by have:=kJ.o;have:=G8.o;omega
 have t6:(op==6)=false:=by rcases hop with ⟨rfl,-⟩|⟨rfl,-⟩<;>rfl
 have t3:(op==3)=false:=by rcases hop with ⟨rfl,-⟩|⟨rfl,-⟩<;>rfl
 rcases hop with ⟨hop,hV⟩|⟨hop,hV⟩
 case' inl=>have t7:(op==7)=true:=by rw[hop];rfl
 case' inr =>
  have t7:(op==7)=false:=by rw[hop];rfl
  have t8:(op==8)=true:=by rw[hop];rfl
 all_goals
 clear hop;go_upto_region 18 with fail;clear hV p0 p1 p2 wu e0 ef;have aTs:=ai (dx pY.o (na:Int) (by omega) (by omega));go_wp2_with fail;refine aTs.o.mono ?_;rintro r w4 ⟨z,rfl,hz0,hz1,Si,hc4⟩;obtain⟨k0,rfl⟩:∃k0:Nat,z=k0:=⟨z.toNat,by omega⟩
 have mo:=ai (iP.o.then hc4);have CJ:=ai Si;have oY:=ai (hc4.blk oB.o (by have:=jO.o;simp;omega));have HE4:=ai (hc4.blk kH.o (by have:=jO.o;simp;omega));have HZ4:=ai (hc4.blk IE.o (by have:=jO.o;simp;omega));have HP4:=ai (hc4.blk oZ.o (by have:=jO.o;have:=kB.o;simp;omega));have hk0:k0<na:=by omega
 clear Si hc4 hz0 hz1 f0 f1 f2 f3 f4 f5 ff aTs oB kH IE oZ pY iP dN;go_wp2_with fail;go_loopw [17] (a0J na w4) (fun i _=>(j0+na - (intOf i).toNat) % na)
 case atStart=>exact⟨k0,rfl,hk0,Tz _⟩
 case round =>
  obtain⟨k,rfl,hk,lM⟩:=hrel;have hka:k<args.length:=by have:=kJ.o;omega
  have xW:=ai (mo.o.then (lM.cR [bd]));have gZ:=ai lM;have nA:=ai (lM.blk oY.o);have HE5:=ai (lM.blk HE4.o);have HZ5:=ai (lM.blk HZ4.o);have HP5:=ai (lM.blk HP4.o);have uV:=ai (CJ.o.ext lM);obtain⟨e0,ef⟩:=dO nA.o;obtain⟨f0,f1,f2,f3,f4,f5,ff⟩:=cX HE5.o;obtain⟨p0,p1,p2,wu⟩:=dM HP5.o;clear lM;obtain⟨xb,xo,rfl,nJ,nD,nG,nK,nE,nI,m0,m1,m2,m3,m4,m5,m6⟩:=eU.at args _ HX.o k hka;have hxl:xb<w.heap.size:=by have:=eB (cC _ _ _ _ m0);simpa using this
  have TD:xb∉[bd]:=fun hm=>by rw[eA,bM hm] at m0;cases m0
  have g0:=fR xW.o (cC _ _ _ _ m0) TD;have g1:=fR xW.o (cC _ _ _ _ m1) TD;have g2:=fR xW.o (cC _ _ _ _ m2) TD;have g3:=fR xW.o (cC _ _ _ _ m3) TD;have g4:=fR xW.o (cC _ _ _ _ m4) TD;have g5:=fR xW.o (cC _ _ _ _ m5) TD;have M6:=ai m6;obtain⟨T,hT⟩:∃T,T=jN s l f (g+1) args[k]:=⟨_,rfl⟩
  have aHY:=fun W (hW:Ext wr W)=>HTA.o k hka _ W (xW.o.then (hW.cR [bd])) (M6.o.mono (cP (xW.o.then (hW.cR [bd])) (by simp)))
  rw[<-hT] at aHY;unfold fN at aHY;have sr:=ai aHY;obtain⟨x0,hx0⟩:∃x0,x0=args[k].op:=⟨_,rfl⟩
  obtain⟨x1,hx1⟩:∃x1,x1=args[k].name:=⟨_,rfl⟩
  obtain⟨x5,dh⟩:∃x5,x5=args[k].lo:=⟨_,rfl⟩
  obtain⟨x6,gN⟩:∃x6,x6=args[k].hi:=⟨_,rfl⟩
  rw[<-hx0] at g0 sr;rw[<-hx1] at g1 sr;rw[<-dh] at g3 sr;rw[<-gN] at g4 sr;have WL:=ai hT;clear m0 m1 m2 m3 m4 m5 m6 aHY hT;have BO:=ai hx0;have dI:=ai hx1;have gW:=ai dh;have kR:=ai gN;clear hx0 hx1 dh gN;go_wp2_with fail;obtain⟨Z0,Z1,Z2,Z3,Z4,Z5⟩:=wcn6 e0 f5 p0 g0 g1 g2;obtain⟨Z6,Z7,Z8⟩:=wcn3 g3 g4 g5;refine kT 12 ?_
  repeat first|(refine bZ ?_;intro Ka cH;go_big_quiet_op;go_big_quiet_on)|(refine zX ?_;intro Ka cH;go_simp;go_big_quiet_on)
  refine mU (fun W hW=>sr.o W hW) ?_;intro Ka cH;go_simp;go_big_quiet_on
  repeat first|(refine bZ ?_;intro Ka cH;go_big_quiet_op;go_big_quiet_on)|(refine zX ?_;intro Ka cH;go_simp;go_big_quiet_on)
  refine gC fun W hW2 _ _=>?_
  clear Z0 Z1 Z2 Z3 Z4 Z5 Z6 Z7 Z8
  try rw[show (!(T==V))=(T != V) from rfl]
  by_cases hTV:T=V
  ·rw[show (T != V)=false by simp[hTV]]
   replace hTV:=hTV.symm
   subst hTV
   have mJ:=ai hW2;have nS:=ai (xW.o.then (hW2.cR [bd]));have vE:=ai (hW2.blk nA.o);have HE6:=ai (hW2.blk HE5.o);have HZ6:=ai (hW2.blk HZ5.o);have Nc:=ai (hW2.blk HP5.o);have yz:=ai (uV.o.ext hW2);obtain⟨v4,hv4⟩:∃v4,v4=W:=⟨_,rfl⟩
   rw[<-hv4] at mJ nS vE HE6 HZ6 Nc yz hW2;rw[<-hv4];clear hv4;have HG:=ai (show ∀(p:Addr) (v:Value),wr.cell? p=some v->v4.cell? p=some v from fun _ _ h=>mJ.o.cell h)
   replace g0:=HG.o _ _ g0
   replace g1:=HG.o _ _ g1
   replace g2:=HG.o _ _ g2
   replace g3:=HG.o _ _ g3
   replace g4:=HG.o _ _ g4
   replace g5:=HG.o _ _ g5
   clear f0 f1 f2 f3 f4 f5 ff e0 ef p0 p1 p2 wu hW2 nA HE5 HZ5 HP5 uV sr HTA xW;obtain⟨e0,ef⟩:=dO vE.o;obtain⟨f0,f1,f2,f3,f4,f5,ff⟩:=cX HE6.o;have YH:=ai (show b6∉[bd,eZ] by have:=jO.o;have:=kB.o;simp;omega);have HN7:=ai (show b6+1∉[bd,eZ] by have:=jO.o;have:=kB.o;simp;omega);have HN8:=ai (show b6+1+1∉[bd,eZ] by have:=jO.o;have:=kB.o;simp;omega);have ah3:=ai (show eZ∉[bd] by have:=jO.o;have:=kB.o;simp;omega);have Gj:=ai (show xb∉[bd,eZ] by have:=jO.o;have:=kB.o;simp only[bz,bC,or_false,not_or];exact⟨by simpa using TD,by omega⟩);obtain⟨Q,hQ⟩:∃Q:Pr->Prop,Q=fun q=>js s l f (g+1) args[k] q=true/\q.iT 1000000:=⟨_,rfl⟩
   have HQD:=ai hQ;obtain⟨N,hN⟩:∃N:ZN,N=bd::(b6+1+1)::eZ::M:=⟨_,rfl⟩
   have qP:=ai hN;have pX:=ai (show bd∈N by rw[hN];simp);have HNC:=ai (show ∀y∈[bd,eZ],y∈N by rw[hN];intro y hy;simp only[bz,bC,or_false] at hy ⊢;rcases hy with h|h<;>simp[h]);have Lb:=ai (show ∀W,ct [bd,eZ] v4 W->ct [bd] w W from fun W hW=>nS.o.trans hW (fun z hz=>by
    simp only[bz,bC,or_false] at hz;rcases hz with h|h
    ·exact aoX (by simp[h])
    have:=jO.o;have:=kB.o;exact a4Z (by omega)))
   have oH:=fun W (hW:ct [bd,eZ] v4 W) (hd:cg w0 W bd)=>mF.o k hka _ N W (Lb.o W hW) (fun z hz=>by
    have h1:=kB.o;have h2:=jO.o;have h3:=hW.size;have h4:=bS Nc.o;have h5:=HM.o;rw[hN] at hz;simp only[bz] at hz;rcases hz with rfl|rfl|rfl|hz
    ·omega
    ·omega
    ·omega
    have:=h5 z hz;have:=nS.o.size;omega) hd (M6.o.mono (cP (Lb.o W hW) (by simp)))
   rw[<-hQ] at oH;unfold fN at oH;rw[<-BO.o,<-dI.o,<-gW.o,<-kR.o] at oH;have sr:=ai oH;have HLW:=ai (bS Nc.o);clear hQ hN oH TD hxl mF;go_upto_region 21 with fail;have Z0:=cU e0 YH.o;obtain⟨Z1,Z2,Z3,Z4,Z5,Z6⟩:=wgn6 HN7.o f0 f1 f2 f3 f4 f5;obtain⟨Z7,Z8,Z9,Z10,Z11,Z12⟩:=wgn6 Gj.o g0 g1 g2 g3 g4 g5;refine aMV [0,1,2,3,4,5,6,7,8,9,10,12,13,11,14] [0,1,2,3,4,5,6,7,8,9,10,13,11,12,14] (m:=15) (Er:=ct [bd,eZ]) (C:=ct [bd,eZ] v4) (Φ:=fun W=>cg w0 W bd/\ct [bd] v4 W) (fun _=>ct.refl _ _) (fun _ _ h=>h.cR _) (fun _ _ h q=>h.then q) ((Tz _).drew.cR _) ⟨yz.o.ext (Tz _).drew,(Tz _).drew.cR _⟩ (fun _ _ hx h=>⟨h.1.ext hx,h.2.then (hx.cR _)⟩) ?_;simp only[aPT,List.filterMap_cons,List.filterMap_nil,List.getElem?_cons_zero,List.getElem?_cons_succ,List.drop_succ_cons,List.drop_zero,a48,List.nil_append]
   repeat (refine bZ ?_;intro Ka cH;go_big_quiet_op;go_big_quiet_on)
   refine dP (γ:=Pr×gS) (fun x=>.agg #[.bool x.2.value,x.2.pick,.slice x.2.a x.2.n x.2.c]) (fun x W=>gL (mask W N) x.1 x.2/\Q x.1/\cg w0 W bd/\ct [bd] v4 W) (fun W hW hd _=>?_) (fun x _ _ hx h=>⟨h.1.mono (cF (hx.cR []) (by simp)),h.2.1,h.2.2.1.ext hx,h.2.2.2.then (hx.cR _)⟩) ?_ ⟨(.mk false 0 [],⟨false,0,none,0,0⟩)⟩
   ·unfold bQ;go_simp;refine(sr.o W hW hd.1).mono ?_;rintro e5 w5 ⟨q,qv,rfl,hq1,hq2,oW,hc5⟩;exact⟨_,rfl,hc5.weak (by simp),(q,qv),rfl,hq2,hq1,oW,hd.2.then hc5⟩
   rintro⟨q,qv⟩ Ka cH;go_simp;go_big_quiet_on
   repeat (refine bZ ?_;intro Ka cH;go_big_quiet_op;go_big_quiet_on)
   refine fZ undef (fun W=>W.heap[eZ]?=some (.cells #[.bool V,.int .i64 (k:Int),.slice none 0 0] 67 (0,0))/\gL (mask W N) q qv/\Q q/\cg w0 W bd) (fun W hW h _=>?_) (fun _ _ hx h=>⟨hx.blk h.1,h.2.1.mono (cF (hx.cR []) (by simp)),h.2.2.1,h.2.2.2.ext hx⟩) ?_
   ·have hpb:=h.2.2.2.blk Nc.o ah3.o;obtain⟨v0,v1,v2,vf⟩:=dM hpb;have hcs:ct [eZ] W (W.setCell ⟨eZ,1,none⟩ (.int .i64 (k:Int))):=lX _ _ _ _;have hst:(W.setCell ⟨eZ,1,none⟩ (.int .i64 (k:Int))).heap[eZ]?=some (.cells #[.bool V,.int .i64 (k:Int),.slice none 0 0] 67 (0,0)):=by have:=lH (i:=1) hpb (.int .i64 (k:Int));simpa using this
    have HH:=ai h;have HT:=ai hst;clear h hst hpb;unfold bQ;go_simp;exact⟨hcs.weak (fun y hy=>by simp at hy;simp[hy]),rfl,HT.o,HH.o.1.mono (jh hcs (fun z hz=>by rw[aG.1 hz];exact HNC.o _ (by simp))),HH.o.2.1,HH.o.2.2.1.cR hcs (by have:=jO.o;have:=kB.o;simp;omega) (fun z hz=>by simp only[aG] at hz;have:=kB.o;have:=jO.o;have:=Ng.o;omega)⟩
   intro Ka cH;go_simp;go_big_quiet_on;refine Az (fun y=>.slice (some ⟨y,0,none⟩) 1 1) (fun y W=>W.heap[y]?=some (.cells #[.bool qv.value,qv.pick,.slice qv.a qv.n qv.c] 67 (0,0))/\eZ<y) (fun W hW=>?_) (fun y W W' h r=>⟨h.blk r.1 (by have:=r.2;have:=kB.o;have:=jO.o;simp;omega),r.2⟩) ?_
   ·unfold bQ;go_simp;exact⟨(Tz W).alloc _,W.heap.size,rfl,bR W _,by have:=HLW.o;have:=hW.size;omega⟩
   intro y Ka cH;go_simp;go_big_quiet_on
   repeat (refine bZ ?_;intro Ka cH;go_big_quiet_op;go_big_quiet_on)
   refine nH fun W hW hy hf=>?_
   have K9:=ai (show W.heap[y]?=some (.cells #[.bool qv.value,qv.pick,.slice qv.a qv.n qv.c] 67 (0,0))/\eZ<y/\gL (mask W N) q qv/\Q q from⟨hf.2.1,hf.2.2,hy.2.1,hy.2.2.1⟩);have VH:=ai hy.1;have hW2:cg w0 W bd/\ct [bd,eZ] v4 W:=⟨hy.2.2.2,hW⟩
   clear hf hy hW Z0 Z1 Z2 Z3 Z4 Z5 Z6 Z7 Z8 Z9 Z10 Z11 Z12;have Jm:=ai K9.o;have Yn:=ai VH.o;clear K9 VH f0 f1 f2 f3 f4 f5 ff e0 ef g0 g1 g2 g3 g4 g5;have AM:=ai Jm.o;have mJ:=ai hW2;obtain⟨W3,hW3⟩:∃W3,W3=W.setCell ⟨eZ,2,none⟩ (.slice (some ⟨y,0,none⟩) 1 1):=⟨_,rfl⟩
   have hpw:W.heap[eZ]?=some (.cells #[.bool V,.int .i64 (k:Int),.slice none 0 0] 67 (0,0)):=Yn.o;have hc3:ct [eZ] W W3:=by rw[hW3];exact lX _ _ _ _
   have EN:=ai (show W3.heap[eZ]?=some (.cells #[.bool V,.int .i64 (k:Int),.slice (some ⟨y,0,none⟩) 1 1] 67 (0,0)) by rw[hW3];have:=lH (i:=2) hpw (.slice (some ⟨y,0,none⟩) 1 1);simpa using this);obtain⟨p0,p1,p2,wu⟩:=dM hpw;go_upto_region 22 with fail;rw[<-hW3];clear hW3 p0 p1 p2 wu hW2 hpw;have HZ3:=ai (hc3.blk (mJ.o.2.blk HZ6.o HN8.o) (by have:=kB.o;simp;omega));have wG:=ai (mJ.o.1.cR hc3 (by have:=kB.o;have:=jO.o;simp;omega) (fun z hz=>by simp only[aG] at hz;have:=kB.o;have:=jO.o;have:=Ng.o;omega));have oD:=ai ((Lb.o W mJ.o.2).trans hc3 (fun z hz=>by simp only[aG] at hz;have:=kB.o;have:=jO.o;exact a4Z (by omega)));have HY3:=ai (hc3.blk AM.o.1 (by have:=AM.o.2.1;simp;omega));have RT:=ai (show gL (mask W3 ((b6+1+1)::M)) q qv from(AM.o.2.2.1.mono (jh hc3 (fun z hz=>by simp only[aG] at hz;rw[hz,qP.o];simp))).mono (cM _ (fun z hz=>by rw[qP.o];simp only[bz] at hz ⊢;rcases hz with h|h<;>simp[h])));have HQQ:=ai AM.o.2.2.2;have hys:=AM.o.2.1;clear hc3;obtain⟨p0,p1,p2,wu⟩:=dM EN.o;have hz:W3.heap[b6+1+1]?=some (.cells #[.bool false,.int .i64 0,.slice none 0 0] 67 (0,0)):=HZ3.o;obtain⟨r0,r1,r2,rf⟩:=dM hz;have P9:=bS hz;have HZ:=ai (Fs (w:=w) (M:=M) (pv:=⟨V,(k:Int),some ⟨y,0,none⟩,1,1⟩) HZ3.o (by have:=jO.o;omega) Ng.o (by have:=jO.o;omega) wG.o oD.o
    (rX (v:=qv) (t:=67) HY3.o (fun hm=>by
     have h1:=kB.o;have h2:=jO.o;simp only[bz] at hm;rcases hm with hm|hm
     ·omega
     have:=HM.o _ hm;omega) RT.o V (k:Int)))
   simp only at HZ;go_wp2_with fail;obtain⟨wz,eV⟩:∃wz,wz=kW W3 (b6+1+1) (.bool V) (.int .i64 (k:Int)) (.slice (some ⟨y,0,none⟩) 1 1):=⟨_,rfl⟩
   rw[<-eV] at HZ;unfold kW at eV;rw[<-eV];clear eV;obtain⟨z0,z1,z2,zf⟩:=dM HZ.o.1;refine a5a (v:=gS.val ⟨V,(k:Int),some ⟨y,0,none⟩,1,1⟩) (by simp[results,Tryz.results132,go_sem,gS.val,z0,z1,z2]) rfl ?_;rw[HQD.o] at HQQ;exact⟨_,_,rfl,⟨HQ.o k hka q WL.o.symm HQQ.o.1,.mk (by simp) (fun x hx=>by simp only[aG] at hx;rw[hx];exact HQQ.o.2)⟩,HZ.o.2⟩
  have hne:k≠j0:=fun e=>by subst e;rw[HJV.o] at WL;exact hTV WL.o
  rw[show (T != V)=true by simp[hTV]];have mJ:=ai (gZ.o.trans hW2)
  replace f5:=hW2.cell f5
  clear f0 f1 f2 f3 f4 ff e0 ef p0 p1 p2 wu hW2 g0 g1 g2 g3 g4 g5;have hr:((k:Int)+1).tmod (na:Int)=(((k+1) % na:Nat):Int):=by
   rw[Int.tmod_eq_emod_of_nonneg (by omega)];norm_cast
  go_wp2_with fail;go_roundw
  case rel=>exact⟨(k+1) % na,by first|rfl|(rw[hr])|(simp[hr])|(congr 1),(UB hk hjn hne).1,mJ.o⟩
  case measure =>
   have:=(UB hk hjn hne).2;have hr2:(((k:Int)+1) % (na:Int)).toNat=(k+1) % na:=by
    have e:((k:Int)+1) % (na:Int)=(((k+1) % na:Nat):Int):=by norm_cast
    rw[e,Int.toNat_natCast]
   simpa[intOf,hr2] using this
theorem aav (s:List Attr) (l:List cK) (f:ZI) (hc:Chk s l) (qx:fW s f=true) (Hy:∀x∈s,x.fits) (a:OA) (n c:Nat) (fa:OA) (fn fc:Nat) (sa:OA) (sn sc:Nat) (w0:World) (bd:Nat):∀(g m:Nat) (e:Ex) (ev:Value) (M:ZN) (w:World),e.size<=m->m<=1000000->gq e->dr s l e=0->jT l g e<=2000->(∀y∈M,y<w.heap.size)->cg w0 w bd->aGv s l f bd sa sn sc a n c fa fn w->dw (mask w [bd]) e ev ->
  Calls Tryz.prog 132 #[.pointer (some ⟨bd,0,none⟩),.agg #[.slice sa sn sc],.slice a n c,ev,.slice fa fn fc] w (aic (fun p=>js s l f g e p=true/\p.iT 1000000) w0 bd M w):=by
 intro g;induction g with
 | zero=>intro m e ev M w _ _ _ _ h;simp[jT] at h
 | succ g ihg =>
  intro m;induction m with
  | zero=>intro e ev M w h;have:=size_pos e;omega
  | succ m ihm =>
   intro e ev M w hm Re hok hnd hex hM hd hin he;have GG:=Fa hc hok hnd;have hfw:=JB hok hnd;have OL:=fun W (hW:ct [bd] w W)=>xz s l f hc qx Hy a n c fa fn fc (g+1) (m+1) e ev (.agg #[.slice sa sn sc]) W hm Re hok hnd hex ((hin.cR hW).1.mono (cC _ _)) ((hin.cR hW).2.1.mono (cC _ _)) ((he.mono (cP hW (by simp))).mono (cC _ _)) ((hin.cR hW).2.2.mono (cC _ _))
   obtain⟨-,RA⟩:=wT hnd;obtain⟨agE,Rz⟩:=iR hok;have RB:=KF (D:=Sj l g) (e:=e) (by rw[<-j9];exact hex);have TG:=Qn (D:=Sj l g) (e:=e) (by rw[<-j9];exact hex);have HTA:=fun (j:Nat) (hj:j<e.args.length) (xv:Value) W (hW:ct [bd] w W) (qV:dw (mask W [bd]) e.args[j] xv)=>xz s l f hc qx Hy a n c fa fn fc (g+1) m e.args[j] xv (.agg #[.slice sa sn sc]) W (by have h1:=eD e.args j hj;have h2:=dX e.args (j+1);have h3:=e.size_eq;omega) (by omega) (Rz _ (aD hj)) (RA j hj) (by rw[j9];exact RB j hj) ((hin.cR hW).1.mono (cC _ _)) ((hin.cR hW).2.1.mono (cC _ _)) (qV.mono (cC _ _)) ((hin.cR hW).2.2.mono (cC _ _))
   have mF:=fun (j:Nat) (hj:j<e.args.length) (xv:Value) (N:ZN) (W:World) (hW:ct [bd] w W) (hN:∀y∈N,y<W.heap.size) (hD:cg w0 W bd) (qV:dw (mask W [bd]) e.args[j] xv)=>ihm e.args[j] xv N W (by have h1:=eD e.args j hj;have h2:=dX e.args (j+1);have h3:=e.size_eq;omega) (by omega) (Rz _ (aD hj)) (RA j hj) (by rw[j9];exact RB j hj) hN hD (hin.cR hW) qV
   have CW:=fun (h3:e.op=3) (d:Nat) (hdd:dz l e.name=some d) (xv:Value) (N:ZN) (W:World) (hW:ct [bd] w W) (hN:∀y∈N,y<W.heap.size) (hD:cg w0 W bd) (qV:dw (mask W [bd]) (l.getD d fC).cond xv)=>ihg 300 (l.getD d fC).cond xv N W (hc.cond (ju hdd).1).2.2 (by omega) (hc.cond (ju hdd).1).1 (hc.cond (ju hdd).1).2.1 (TG h3 (by unfold Sj;rw[hdd];rfl)) hN hD (hin.cR hW) qV
   have azc:=(iQ hc.x7).2.1;have tF:=fun W (hW:ct [bd] w W)=>Ai s (.agg #[.slice sa sn sc]) e.name W ((hin.cR hW).1.mono (cC _ _)) (by omega)
   obtain⟨aw,nw,cw,aa,na,ca,rfl,hw,hna,hca,ha,hx⟩:=he.parts;have Ks:e.args.length<=1000000:=by have h1:=eR e.args;have h3:=e.size_eq;omega
   obtain⟨op,name,words,lo,hi,args⟩:=e;simp only[Ex.op,Ex.name,Ex.words,Ex.lo,Ex.hi,Ex.args] at *;have hnl:=hin.2.1.len;have aDg:n<=100:=by rw[hnl];exact hc.len
   have HI:∀V,jN s l f (g+1) (.mk op name words lo hi args)=V->alN s l f g op name args lo hi V w0 w bd M a n c fa fn fc sa sn sc aw nw cw aa na ca:=fun V hV=>⟨by rw[<-hV];exact OL,HTA,mF,hM,hd,hx,hna,Ks⟩
   rcases GG with ⟨h6,hdn⟩|⟨rfl,hat,d,hdf⟩|⟨rfl,sA⟩|rfl|rfl
   ·refine aEd rfl h6 hdn (fun h3=>?_) tF (HI _ rfl);subst h3;rcases hfw h6 hdn with h|h|⟨-,h⟩|⟨h,-⟩|⟨h,-⟩
    ·omega
    ·omega
    ·exact h
    ·omega
    omega
   ·exact aIq rfl hdf (aDY hc hdf) hat aDg tF hin.2.1 (CW rfl d hdf) (HI _ rfl)
   ·exact aIp rfl sA (HI _ rfl)
   ·cases hv:jN s l f (g+1) (.mk 7 name words lo hi args)
    ·exact axb (aoX ⟨rfl,rfl⟩) hv (HI _ hv)
    exact axc (aoX ⟨rfl,rfl⟩) hv (HI _ hv)
   cases hv:jN s l f (g+1) (.mk 8 name words lo hi args)
   ·exact axc (a4Z ⟨rfl,rfl⟩) hv (HI _ hv)
   exact axb (a4Z ⟨rfl,rfl⟩) hv (HI _ hv)
def nM (V:Ex->Bool):List Wb->Bool
 | []=>false
 | .mk _ c u::r=>(V c&&!nM V u)||nM V r
def jY (P:Ex->Prop):List Wb->Prop
 | []=>True
 | .mk _ c u::r=>P c/\jY P u/\u.length<=1000000000000000/\jY P r
theorem aa4 (V:Ex->Bool) {l:List Wb} {k:Nat} (hk:k<l.length):nM V (l.drop k)=((V l[k].cond&&!nM V l[k].gH)||nM V (l.drop (k+1))):=by
 rw[List.drop_eq_getElem_cons hk];cases h:l[k] with
 | mk n c u=>rw[nM];rfl
theorem j7 {P:Ex->Prop}:(l:List Wb)->jY P l->(k:Nat)->(hk:k<l.length)->P l[k].cond/\jY P l[k].gH/\l[k].gH.length<=1000000000000000
 | [],_,k,hk=>by simp at hk
 | .mk n c u::r,h,0,_=>by
  unfold jY at h;exact⟨h.1,h.2.1,h.2.2.1⟩
 | .mk n c u::r,h,k+1,hk=>by
  unfold jY at h;simpa using j7 r h.2.2.2 k (by simpa using hk)
def aaL (w0:World) (sa:OA) (sn sc:Nat) (a:OA) (n c:Nat) (fa:OA) (fn fc:Nat) (V:Ex->Bool) (P:Ex->Prop):Prop :=
 ∀(e:Ex) (x:dK) (W:World),Ext w0 W->P e->dw W e x.val->Calls Tryz.prog 127 #[.agg #[.slice sa sn sc],.slice a n c,x.val,.slice fa fn fc] W (cz (.bool (V e)) W)
def aSc (nm:BA) (x:dK) (au:OA) (nu cu:Nat):Obj:=.cells #[.string nm,x.op,.string x.name,.slice x.aw x.nw x.cw,x.lo,x.hi,.slice x.aa x.na x.ca,.slice au nu cu] 53 (0,0)
def BkI (V:Ex->Bool) (u:List Wb) (n:Nat) (w:World) (i:Value) (wr:World):Prop:=∃k:Nat,i=.int .i64 k/\k<=n/\nM V u=nM V (u.drop k)/\Ext w wr
theorem S5 {w0:World} {sa:OA} {sn sc:Nat} {a:OA} {n c:Nat} {fa:OA} {fn fc:Nat} {V:Ex->Bool} {P:Ex->Prop} (ht:aaL w0 sa sn sc a n c fa fn fc V P):∀(m:Nat) (cond:Ex) (u:List Wb) (nm:BA) (x:dK) (au:OA) (nu cu:Nat) (w:World),mH u<=m->Ext w0 w->P cond->jY P u->nu<=1000000000000000->nu=u.length->dw w cond x.val->gK w u au ->
  Calls Tryz.prog 97 #[.agg #[.slice sa sn sc],.slice a n c,.agg #[.string nm,x.op,.string x.name,.slice x.aw x.nw x.cw,x.lo,x.hi,.slice x.aa x.na x.ca,.slice au nu cu],.slice fa fn fc] w (cz (.bool (V cond&&!nM V u)) w):=by
 intro m;induction m using Nat.strongRecOn with
 | _ m ih =>
  intro cond u nm x au nu cu w hm hx0 hp hok ZW hlen hex hd;have HT:=ai (fun (W:World) (hW:Ext w W)=>ht cond x W (hx0.trans hW) hp (hex.ext hW));have HIH:=ai (fun (k:Nat) (hk:k<u.length) (v:Cz) (W:World) (hW:Ext w W) (wU:dw W u[k].cond v.x.val) (Co:v.nu=u[k].gH.length) (PZ:gK W u[k].gH v.au)=>ih (mH u[k].gH) (by have:=zw u k hk;omega) u[k].cond u[k].gH v.name v.x v.au v.nu v.cu W (aU _) (hx0.trans hW) (j7 u hok k hk).1 (j7 u hok k hk).2.1 (by have:=(j7 u hok k hk).2.2;omega) Co wU PZ);have HD:=ai hd;have qB:=ai hlen;unfold dK.val fN at HT;obtain⟨T,hT⟩:∃T,T=V cond:=⟨_,rfl⟩
  rw[<-hT] at HT ⊢;clear ih hm hx0 hp hok hlen hex hd hT;obtain⟨wa,cN⟩:∃wa,wa=(w.alloc (.cells #[.slice sa sn sc] 24)).alloc (.cells #[.string nm,x.op,.string x.name,.slice x.aw x.nw x.cw,x.lo,x.hi,.slice x.aa x.na x.ca,.slice au nu cu] 53):=⟨_,rfl⟩
  have dm:=ai (show Ext w wa by rw[cN];exact((Tz _).alloc _).alloc _);have HA4:=ai (show wa.heap[w.heap.size]?=some (.cells #[.slice sa sn sc] 24 (0,0)) by rw[cN];exact bU (bR w _));have Ru:=ai (show wa.heap[w.heap.size+1]?=some (aSc nm x au nu cu) by rw[cN];exact alloc_at (by simp));obtain⟨s0,sf⟩:=dO HA4.o;obtain⟨y0,y1,y2,y3,y4,y5,y6,y7,yf⟩:=oO Ru.o;go_enter Tryz.func97,Tryz.ntmps97
  go_upto_region 1 with fail;rw[<-cN];clear cN;go_wp2_with fail;refine(HT.o wa dm.o).mono ?_;rintro r w1 ⟨rfl,hx1⟩;have dI:=ai (dm.o.trans hx1);have qD:=ai (hx1.blk HA4.o);have jO:=ai (hx1.blk Ru.o);clear hx1 s0 sf y0 y1 y2 y3 y4 y5 y6 y7 yf HA4 Ru HT dm;cases T
  ·go_wp2_with fail;go_ret;exact bW (by simp) dI.o
  go_wp2_with fail;go_loopw [9] (BkI V u nu w1) (fun i _=>nu - (intOf i).toNat)
  case atStart=>exact⟨0,rfl,Nat.zero_le _,rfl,Tz _⟩
  case round =>
   obtain⟨k,rfl,hk,hv,hx⟩:=hrel;obtain⟨wo,rfl⟩:∃wo:World,wo=wr:=⟨_,rfl⟩
   have HV:=ai hv;have HX:=ai hx;obtain⟨b0,hb0⟩:∃b0,b0=w.heap.size:=⟨_,rfl⟩
   rw[<-hb0] at qD jO ⊢;obtain⟨s0,sf⟩:=dO (hx.blk qD.o);obtain⟨y0,y1,y2,y3,y4,y5,y6,y7,yf⟩:=oO (hx.blk jO.o);clear hv hx hb0;by_cases hkn:k<nu
   ·have fq:k<u.length:=by have:=qB.o;omega
    have t1:=ag ((k:Int)<(nu:Int));have tk0:(0:Int)<=(k:Int):=by omega
    have tk1:(k:Int)<(nu:Int):=by omega
    obtain⟨b,off,rfl,v,Co,hrow,wU,Sg,-,-,PZ⟩:=gK.at u _ (gK.mono (dI.o.trans HX.o).sub u _ HD.o) k fq;obtain⟨c0,c1,c2,c3,c4,c5,c6,c7⟩:=hrow.eight;have se:=ai (fun W (hW:Ext wo W)=>HIH.o k fq v W ((dI.o.trans HX.o).trans hW) (wU.ext hW) Sg (gK.mono hW.sub _ _ PZ));have HST:=ai (aa4 V fq);obtain⟨Q,hQ⟩:∃Q,Q=(V u[k].cond&&!nM V u[k].gH):=⟨_,rfl⟩
    rw[<-hQ] at se HST;clear Co hrow wU Sg PZ hQ HIH;go_upto_region 6 with fail;obtain⟨Z0,Z1,Z2,Z3,Z4,Z5⟩:=wcn6 s0 y0 y1 y2 y3 y4;obtain⟨Z6,Z7,Z8,Z9,Z10,Z11⟩:=wcn6 y5 y6 y7 c0 c1 c2;obtain⟨Z12,Z13,Z14⟩:=wcn3 c3 c4 c5;have Z15:=bT c6;have Z16:=bT c7;refine kT 9 ?_
    repeat (refine bZ ?_;intro Ka cH;go_big_quiet_op;go_big_quiet_on)
    refine mU (fun W hW=>se.o W hW) ?_;intro Ka cH;go_simp;go_big_quiet_on
    repeat (refine bZ ?_;intro Ka cH;go_big_quiet_op;go_big_quiet_on)
    refine gC fun W hW2 _ _=>?_
    clear Z0 Z1 Z2 Z3 Z4 Z5 Z6 Z7 Z8 Z9 Z10 Z11 Z12 Z13 Z14 Z15 Z16;cases Q
    ·go_wp2_with fail;go_roundw
     case rel=>exact⟨k+1,by go_num,by omega,by rw[HV.o,HST.o];rfl,HX.o.trans hW2⟩
     case measure=>simp[intOf];omega
    have HQ:=ai (show nM V u=true by rw[HV.o,HST.o];rfl);go_wp2_with fail;go_ret;exact bW (by rw[HQ.o];rfl) ((dI.o.trans HX.o).trans hW2)
   have t1:=ah ((k:Int)<(nu:Int));have HQ:=ai (show nM V u=false by
    rw[HV.o,show k=u.length by have:=qB.o;omega,List.drop_length,nM])
   go_wp2_with fail;go_ret;exact bW (by rw[HQ.o];rfl) (dI.o.trans HX.o)
def ke (V:Ex->Bool) (x:cK):Bool:=V x.cond&&!nM V x.gH
theorem tJ {w0:World} {sa:OA} {sn sc:Nat} {a:OA} {n c:Nat} {fa:OA} {fn fc:Nat} {V:Ex->Bool} {P:Ex->Prop} (ht:aaL w0 sa sn sc a n c fa fn fc V P) (x:cK) (v:fM) (w:World) (hx0:Ext w0 w) (hp:P x.cond) (hok:jY P x.gH) (ZW:x.gH.length<=1000000000000000) (hi:ij w x v) :
  Calls Tryz.prog 64 #[.agg #[.slice sa sn sc],.slice a n c,.agg #[ v.kind,.string v.name,v.x.op,.string v.x.name,.slice v.x.aw v.x.nw v.x.cw,v.x.lo,v.x.hi,.slice v.x.aa v.x.na v.x.ca,.slice v.au v.nu v.cu,v.ck],.slice fa fn fc] w (cz (.bool (ke V x)) w):=by
 obtain⟨-,-,hex,hlen,-,-,hd,-⟩:=hi;have HB:=ai (fun (W:World) (hW:Ext w W)=>S5 ht (mH x.gH) x.cond x.gH ⟨#[]⟩ v.x v.au v.nu v.cu W (aU _) (hx0.trans hW) hp hok (by omega) hlen (hex.ext hW) (gK.mono hW.sub _ _ hd));obtain⟨R,hR⟩:∃R,R=ke V x:=⟨_,rfl⟩
 rw[<-hR];have hR':(V x.cond&&!nM V x.gH)=R:=hR.symm;rw[hR'] at HB;clear hR hR' hex hlen hd;obtain⟨wa,cN⟩:∃wa,wa=(w.alloc (.cells #[.slice sa sn sc] 24)).alloc (.cells #[ v.kind,.string v.name,v.x.op,.string v.x.name,.slice v.x.aw v.x.nw v.x.cw,v.x.lo,v.x.hi,.slice v.x.aa v.x.na v.x.ca,.slice v.au v.nu v.cu,v.ck] 48):=⟨_,rfl⟩
 have dm:=ai (show Ext w wa by rw[cN];exact((Tz _).alloc _).alloc _);obtain⟨s0,sf⟩:=dO (show wa.heap[w.heap.size]?=some (.cells #[.slice sa sn sc] 24 (0,0)) by rw[cN];exact bU (bR w _));obtain⟨y0,y1,y2,y3,y4,y5,y6,y7,y8,y9,yf⟩:=rB (show wa.heap[w.heap.size+1]?=some (.cells #[ v.kind,.string v.name,v.x.op,.string v.x.name,.slice v.x.aw v.x.nw v.x.cw,v.x.lo,v.x.hi,.slice v.x.aa v.x.na v.x.ca,.slice v.au v.nu v.cu,v.ck] 48 (0,0)) by rw[cN];exact alloc_at (by simp));go_enter Tryz.func64,Tryz.ntmps64
 go_upto_region 1 with fail;rw[<-cN];clear cN;go_wp2_with fail;refine(HB.o wa dm.o).mono ?_;rintro r w1 ⟨rfl,hx1⟩;have dI:=ai (dm.o.trans hx1);clear hx1;go_wp2_with fail;go_ret;exact bW rfl dI.o
structure axu (w0:World) (sa:OA) (sn sc:Nat) (l:List cK) (a:OA) (n c:Nat) (fa:OA) (fn fc:Nat) (V:Ex->Bool) (P:Ex->Prop):Prop where
 tr:aaL w0 sa sn sc a n c fa fn fc V P
 OV:cZ w0 l a n c
 iT:n<=1000000
 ok:∀x∈l,P x.cond/\jY P x.gH/\x.gH.length<=1000000000000000
def jC (V:Ex->Bool) (kind:Int) (neg:Bool):List cK->Bool
 | []=>false
 | x::r=>(x.kind==kind&&(ke V x != neg))||jC V kind neg r
theorem atE (V:Ex->Bool) (kind:Int) (neg:Bool) {l:List cK} {k:Nat} (hk:k<l.length):jC V kind neg (l.drop k)=((l[k].kind==kind&&(ke V l[k] != neg))||jC V kind neg (l.drop (k+1))):=by
 rw[List.drop_eq_getElem_cons hk,jC]
def pO (V:Ex->Bool) (kind:Int) (m:Int) (x:cK):Int:=if (x.kind==kind&&ke V x)=true then max m x.ck else m
def oU (V:Ex->Bool) (kind:Int) (l:List cK):Int:=l.foldl (pO V kind) 0
theorem arl (V:Ex->Bool) (kind:Int) {l:List cK} {k:Nat} (hk:k<l.length):oU V kind (l.take (k+1))=pO V kind (oU V kind (l.take k)) l[k]:=by
 unfold oU;rw[aO hk,List.foldl_append]
 rfl
def SmL (V:Ex->Bool) (kind:Int) (neg:Bool) (l:List cK) (n:Nat) (w:World) (i:Value) (wr:World):Prop:=∃k:Nat,i=.int .i64 k/\k<=n/\jC V kind neg l=jC V kind neg (l.drop k)/\Ext w wr
def GtL (V:Ex->Bool) (kind:Int) (l:List cK) (n:Nat) (w:World) (v i:Value) (wr:World):Prop:=∃k:Nat,v=.int .i64 (oU V kind (l.take k))/\i=.int .i64 k/\k<=n/\Ext w wr
theorem ap1 {w0:World} {sa:OA} {sn sc:Nat} {l:List cK} {a:OA} {n c:Nat} {fa:OA} {fn fc:Nat} {V:Ex->Bool} {P:Ex->Prop} (hv:axu w0 sa sn sc l a n c fa fn fc V P) (kind:Int) (neg:Bool) (w:World) (hx0:Ext w0 w) :
  Calls Tryz.prog 62 #[.agg #[.slice sa sn sc],.slice a n c,kind,.slice fa fn fc,.bool neg] w (cz (.bool (jC V kind neg l)) w):=by
 have HN:=ai hv.OV.len;have HC:=ai hv.OV;have hn:=hv.iT;have Gl:=ai (fun (k:Nat) (hk:k<l.length) (v:fM) W (hW:Ext w W) (hcl:ij W l[k] v)=>tJ hv.tr l[k] v W (hx0.trans hW) (hv.ok _ (aD hk)).1 (hv.ok _ (aD hk)).2.1 (hv.ok _ (aD hk)).2.2 hcl);have BO:=ai hx0;clear hv hx0;obtain⟨wa,cN⟩:∃wa,wa=w.alloc (.cells #[.slice sa sn sc] 24):=⟨_,rfl⟩
 have dm:=ai (show Ext w wa by rw[cN];exact(Tz _).alloc _);have Nn:=ai (show wa.heap[w.heap.size]?=some (.cells #[.slice sa sn sc] 24 (0,0)) by rw[cN];exact bR w _);go_enter Tryz.func62,Tryz.ntmps62
 go_upto_region 1 with fail;rw[<-cN];clear cN;go_wp2_with fail;go_loopw [11] (SmL V kind neg l n wa) (fun i _=>n - (intOf i).toNat)
 case atStart=>exact⟨0,rfl,Nat.zero_le _,rfl,Tz _⟩
 case round =>
  obtain⟨k,rfl,hk,hv,hx⟩:=hrel;obtain⟨wo,rfl⟩:∃wo:World,wo=wr:=⟨_,rfl⟩
  have HV:=ai hv;have HX:=ai hx;obtain⟨b0,hb0⟩:∃b0,b0=w.heap.size:=⟨_,rfl⟩
  rw[<-hb0] at Nn ⊢;obtain⟨s0,sf⟩:=dO (hx.blk Nn.o);clear hv hx hb0;by_cases hkn:k<n
  ·have fq:k<l.length:=by have:=HN.o;omega
   have t1:=ag ((k:Int)<(n:Int));have tk0:(0:Int)<=(k:Int):=by omega
   have tk1:(k:Int)<(n:Int):=by omega
   obtain⟨b,off,v,rfl,hcl,hrow⟩:=(HC.o.ext (BO.o.trans (dm.o.trans HX.o))).at fq;obtain⟨c0,c1,c2,c3,c4,c5,c6,c7,c8,c9⟩:=hrow.BB;have hvk:v.kind=l[k].kind:=hcl.1;have se:=ai (fun W (hW:Ext wo W)=>Gl.o k fq v W ((dm.o.trans HX.o).trans hW) (hcl.mono hW.sub));have HST:=ai (atE V kind neg fq);rw[<-hvk] at HST;obtain⟨Q,hQ⟩:∃Q,Q=ke V l[k]:=⟨_,rfl⟩
   rw[<-hQ] at se HST;clear hrow hcl hvk hQ Gl;cases hq:(v.kind==kind)
   ·have HQ:=ai hq;go_wp2_with fail;go_quiet (fail)
    go_wp2_with fail;go_roundw
    case rel=>exact⟨k+1,by go_num,by omega,by rw[HV.o,HST.o,HQ.o];rfl,HX.o.drewN _⟩
    case measure=>simp[intOf];omega
   have HQ:=ai hq;go_upto_region 4 with fail;obtain⟨Z0,Z1,Z2,Z3,Z4,Z5⟩:=wcn6 s0 c0 c1 c2 c3 c4;obtain⟨Z6,Z7,Z8⟩:=wcn3 c5 c6 c7;have Z9:=bT c8;have Z10:=bT c9;refine kT 19 ?_
   repeat first|(refine bZ ?_;intro Ka cH;go_big_quiet_op;go_big_quiet_on)|(refine zX ?_;intro Ka cH;go_simp;go_big_quiet_on)
   refine mU (fun W hW=>se.o W hW) ?_;intro Ka cH;go_simp;go_big_quiet_on
   repeat first|(refine bZ ?_;intro Ka cH;go_big_quiet_op;go_big_quiet_on)|(refine zX ?_;intro Ka cH;go_simp;go_big_quiet_on)
   refine gC fun W hW2 _ _=>?_
   clear Z0 Z1 Z2 Z3 Z4 Z5 Z6 Z7 Z8 Z9 Z10
   try rw[show (!(Q==neg))=(Q != neg) from rfl]
   cases hqn:(Q != neg)
   ·have HQN:=ai hqn;go_wp2_with fail;go_roundw
    case rel=>exact⟨k+1,by go_num,by omega,by rw[HV.o,HST.o,HQ.o,HQN.o];rfl,HX.o.trans hW2⟩
    case measure=>simp[intOf];omega
   have HQN:=ai hqn;have HR:=ai (show jC V kind neg l=true by rw[HV.o,HST.o,HQ.o,HQN.o];rfl);go_wp2_with fail;go_ret;exact bW (by rw[HR.o]) (dm.o.trans (HX.o.trans hW2))
  have t1:=ah ((k:Int)<(n:Int));have HQ:=ai (show jC V kind neg l=false by
   rw[HV.o,show k=l.length by have:=HN.o;omega,List.drop_length,jC])
  go_wp2_with fail;go_ret;exact bW (by rw[HQ.o]) (dm.o.trans HX.o)
theorem ady {w0:World} {sa:OA} {sn sc:Nat} {l:List cK} {a:OA} {n c:Nat} {fa:OA} {fn fc:Nat} {V:Ex->Bool} {P:Ex->Prop} (hv:axu w0 sa sn sc l a n c fa fn fc V P) (kind:Int) (w:World) (hx0:Ext w0 w) :
  Calls Tryz.prog 63 #[.agg #[.slice sa sn sc],.slice a n c,kind,.slice fa fn fc] w (cz (.int .i64 (oU V kind l)) w):=by
 have HN:=ai hv.OV.len;have HC:=ai hv.OV;have hn:=hv.iT;have Gl:=ai (fun (k:Nat) (hk:k<l.length) (v:fM) W (hW:Ext w W) (hcl:ij W l[k] v)=>tJ hv.tr l[k] v W (hx0.trans hW) (hv.ok _ (aD hk)).1 (hv.ok _ (aD hk)).2.1 (hv.ok _ (aD hk)).2.2 hcl);have BO:=ai hx0;clear hv hx0;obtain⟨wa,cN⟩:∃wa,wa=w.alloc (.cells #[.slice sa sn sc] 24):=⟨_,rfl⟩
 have dm:=ai (show Ext w wa by rw[cN];exact(Tz _).alloc _);have Nn:=ai (show wa.heap[w.heap.size]?=some (.cells #[.slice sa sn sc] 24 (0,0)) by rw[cN];exact bR w _);go_enter Tryz.func63,Tryz.ntmps63
 go_upto_region 1 with fail;rw[<-cN];clear cN;go_wp2_with fail;go_loopw [9,10] (GtL V kind l n wa) (fun _ i _=>n - (intOf i).toNat)
 case atStart=>exact⟨0,rfl,rfl,Nat.zero_le _,Tz _⟩
 case round =>
  obtain⟨k,rfl,rfl,hk,hx⟩:=hrel;obtain⟨wo,rfl⟩:∃wo:World,wo=wr:=⟨_,rfl⟩
  have HX:=ai hx;obtain⟨b0,hb0⟩:∃b0,b0=w.heap.size:=⟨_,rfl⟩
  rw[<-hb0] at Nn ⊢;obtain⟨s0,sf⟩:=dO (hx.blk Nn.o);clear hx hb0;by_cases hkn:k<n
  ·have fq:k<l.length:=by have:=HN.o;omega
   have t1:=ag ((k:Int)<(n:Int));have tk0:(0:Int)<=(k:Int):=by omega
   have tk1:(k:Int)<(n:Int):=by omega
   obtain⟨b,off,v,rfl,hcl,hrow⟩:=(HC.o.ext (BO.o.trans (dm.o.trans HX.o))).at fq;obtain⟨c0,c1,c2,c3,c4,c5,c6,c7,c8,c9⟩:=hrow.BB;have hvk:v.kind=l[k].kind:=hcl.1;have hva:v.ck=l[k].ck:=hcl.2.2.2.2.2.2.2;have se:=ai (fun W (hW:Ext wo W)=>Gl.o k fq v W ((dm.o.trans HX.o).trans hW) (hcl.mono hW.sub));have HST:=ai (arl V kind fq);obtain⟨G,hG⟩:∃G,G=oU V kind (l.take k):=⟨_,rfl⟩
   rw[<-hG] at HST ⊢;have M8:=ai (show oU V kind (l.take (k+1))=if (v.kind==kind&&ke V l[k])=true then max G v.ck else G by rw[HST.o,pO,hvk,hva]);obtain⟨Q,hQ⟩:∃Q,Q=ke V l[k]:=⟨_,rfl⟩
   rw[<-hQ] at se M8;clear hrow hcl hvk hva hQ Gl hG HST;cases hq:(v.kind==kind)
   ·have HQ:=ai hq;go_wp2_with fail;go_quiet (fail)
    go_wp2_with fail;go_roundw
    case rel=>exact⟨k+1,by rw[M8.o,HQ.o];rfl,by go_num,by omega,HX.o.drewN _⟩
    case measure=>simp[intOf];omega
   have HQ:=ai hq;go_upto_region 5 with fail;obtain⟨Z0,Z1,Z2,Z3,Z4,Z5⟩:=wcn6 s0 c0 c1 c2 c3 c4;obtain⟨Z6,Z7,Z8⟩:=wcn3 c5 c6 c7;have Z9:=bT c8;have Z10:=bT c9;refine kT 17 ?_
   repeat first|(refine bZ ?_;intro Ka cH;go_big_quiet_op;go_big_quiet_on)|(refine zX ?_;intro Ka cH;go_simp;go_big_quiet_on)
   refine mU (fun W hW=>se.o W hW) ?_;intro Ka cH;go_simp;go_big_quiet_on
   repeat first|(refine bZ ?_;intro Ka cH;go_big_quiet_op;go_big_quiet_on)|(refine zX ?_;intro Ka cH;go_simp;go_big_quiet_on)
   refine gC fun W hW2 _ _=>?_
   clear Z0 Z1 Z2 Z3 Z4 Z5 Z6 Z7 Z8 Z9 Z10;have qO:=ai hW2;have e0:=hW2.cell c9;clear hW2;cases Q
   ·go_wp2_with fail;go_roundw
    case rel=>exact⟨k+1,by rw[M8.o,HQ.o];rfl,by go_num,by omega,HX.o.trans qO.o⟩
    case measure=>simp[intOf];omega
   go_wp2_with fail;go_roundw
   case rel=>exact⟨k+1,by first|(rw[M8.o,HQ.o,bM (show (true&&true)=true from rfl)];done)|(rw[M8.o,HQ.o,bM (show (true&&true)=true from rfl),Int.max_def];congr 1;split<;>split<;>omega),by go_num,by omega,HX.o.trans qO.o⟩
   case measure=>simp[intOf];omega
  have t1:=ah ((k:Int)<(n:Int));have HQ:=ai (show l.take k=l from aS (by have:=HN.o;omega));rw[HQ.o];go_wp2_with fail;go_ret;exact cD rfl (dm.o.trans HX.o)
structure rT where
 oP:Int
 lim:Int
 xV:Int
 xU:Int
 xN:Int
 Bt:Bool
def rT.cells (d:rT):Array Value:=#[ d.oP,d.lim,d.xV,d.xU,d.xN,.bool d.Bt]
def N8 (V:Ex->Bool) (m:Int) (x:cK):Int:=if (x.kind==5&&ke V x&&(decide (m<0)||decide (x.ck<m)))=true then x.ck else m
def CP (V:Ex->Bool) (l:List cK):Int:=l.foldl (N8 V) (-1)
theorem ay0 (V:Ex->Bool) {l:List cK} {k:Nat} (hk:k<l.length):CP V (l.take (k+1))=N8 V (CP V (l.take k)) l[k]:=by
 unfold CP;rw[aO hk,List.foldl_append]
 rfl
def CN (V:Ex->Bool) (l:List cK):rT :=
 if jC V 2 false l=false then ⟨1,0,0,0,0,false⟩ else if jC V 4 true l=true then ⟨2,0,0,0,0,false⟩ else if jC V 3 false l=true then ⟨3,0,0,0,0,false⟩
 else ⟨4,CP V l,oU V 6 l,oU V 7 l,oU V 8 l,jC V 9 false l⟩
theorem dH {w:World} {b:Nat} {v0 v1 v2 v3 v4 v5:Value} {t:TypeId} (h:w.heap[b]?=some (.cells #[v0,v1,v2,v3,v4,v5] t (0,0))) :
  w.cell? ⟨b,0,none⟩=some v0/\w.cell? ⟨b,1,none⟩=some v1/\w.cell? ⟨b,2,none⟩=some v2/\w.cell? ⟨b,3,none⟩=some v3/\w.cell? ⟨b,4,none⟩=some v4/\w.cell? ⟨b,5,none⟩=some v5/\(∀o,w.frozen? ⟨b,o,none⟩=false) :=
 ⟨bX h 0,bX h 1,bX h 2,bX h 3,bX h 4,bX h 5,fun o=>ie h o⟩
def fA (w:World) (B:Nat) (v0 v1 v2 v3 v4 v5:Value):World:=(((((w.setCell ⟨B,0,none⟩ v0).setCell ⟨B,1,none⟩ v1).setCell ⟨B,2,none⟩ v2).setCell ⟨B,3,none⟩ v3).setCell ⟨B,4,none⟩ v4).setCell ⟨B,5,none⟩ v5
theorem fH {w:World} {B:Nat} {u0 u1 u2 u3 u4 u5 v0 v1 v2 v3 v4 v5:Value} {t:TypeId} (h:w.heap[B]?=some (.cells #[u0,u1,u2,u3,u4,u5] t (0,0))):(fA w B v0 v1 v2 v3 v4 v5).heap[B]?=some (.cells #[v0,v1,v2,v3,v4,v5] t (0,0)):=by
 unfold fA;rw[aI _ _ _ _ _ _ (aI _ _ _ _ _ _ (aI _ _ _ _ _ _ (aI _ _ _ _ _ _ (aI _ _ _ _ _ _ (aI _ _ _ _ _ _ h)))))]
 rfl
theorem fe (w:World) (B:Nat) {v0 v1 v2 v3 v4 v5:Value}:ct [B] w (fA w B v0 v1 v2 v3 v4 v5):=by
 unfold fA
 repeat (with_reducible (refine ct.setCell ?_ ?_ _))
 exact ct.refl _ _
 all_goals exact aoX (by simp)
def EA (d:rT):Obj:=.cells d.cells 29 (0,0)
def VrL (V:Ex->Bool) (l:List cK) (n b7:Nat) (D F C:Int) (A:Bool) (w:World) (i:Value) (wr:World):Prop:=∃k:Nat,i=.int .i64 k/\k<=n/\wr.heap[b7]?=some (EA ⟨4,CP V (l.take k),D,F,C,A⟩)/\Ext w wr
theorem zI {w0:World} {sa:OA} {sn sc:Nat} {l:List cK} {a:OA} {n c:Nat} {fa:OA} {fn fc:Nat} {V:Ex->Bool} {P:Ex->Prop} (hv:axu w0 sa sn sc l a n c fa fn fc V P) (w:World) (hx0:Ext w0 w) :
  Calls Tryz.prog 36 #[.agg #[.slice sa sn sc],.slice a n c,.slice fa fn fc] w (cz (.agg (CN V l).cells) w):=by
 have HN:=ai hv.OV.len;have HC:=ai hv.OV;have hn:=hv.iT;have Gl:=ai (fun (k:Nat) (hk:k<l.length) (v:fM) W (hW:Ext w W) (hcl:ij W l[k] v)=>tJ hv.tr l[k] v W (hx0.trans hW) (hv.ok _ (aD hk)).1 (hv.ok _ (aD hk)).2.1 (hv.ok _ (aD hk)).2.2 hcl);have RM:=ai (fun (kind:Int) (neg:Bool) W (hW:Ext w W)=>ap1 hv kind neg W (hx0.trans hW));have HGT:=ai (fun (kind:Int) W (hW:Ext w W)=>ady hv kind W (hx0.trans hW));have BO:=ai hx0;obtain⟨S2,hS2⟩:∃S2,S2=jC V 2 false l:=⟨_,rfl⟩
 obtain⟨S4,hS4⟩:∃S4,S4=jC V 4 true l:=⟨_,rfl⟩
 obtain⟨S3,hS3⟩:∃S3,S3=jC V 3 false l:=⟨_,rfl⟩
 obtain⟨A,hA⟩:∃A,A=jC V 9 false l:=⟨_,rfl⟩
 obtain⟨D,hD⟩:∃D,D=oU V 6 l:=⟨_,rfl⟩
 obtain⟨F,hF⟩:∃F,F=oU V 7 l:=⟨_,rfl⟩
 obtain⟨C,hC⟩:∃C,C=oU V 8 l:=⟨_,rfl⟩
 have H2:=ai (fun W hW=>RM.o 2 false W hW);have H4:=ai (fun W hW=>RM.o 4 true W hW);have H3:=ai (fun W hW=>RM.o 3 false W hW);have H9:=ai (fun W hW=>RM.o 9 false W hW);have H6:=ai (fun W hW=>HGT.o 6 W hW);have H7:=ai (fun W hW=>HGT.o 7 W hW);have H8:=ai (fun W hW=>HGT.o 8 W hW);rw[<-hS2] at H2;rw[<-hS4] at H4;rw[<-hS3] at H3;rw[<-hA] at H9;rw[<-hD] at H6;rw[<-hF] at H7;rw[<-hC] at H8;obtain⟨R,hR⟩:∃R,R=CN V l:=⟨_,rfl⟩
 rw[<-hR];have HR:=ai (show R=if S2=false then ⟨1,0,0,0,0,false⟩ else if S4=true then ⟨2,0,0,0,0,false⟩ else if S3=true then ⟨3,0,0,0,0,false⟩ else ⟨4,CP V l,D,F,C,A⟩ by rw[hR,hS2,hS4,hS3,hA,hD,hF,hC];rfl);clear hv hx0 RM HGT hS2 hS4 hS3 hA hD hF hC hR;obtain⟨wa,cN⟩:∃wa,wa=(w.alloc (.cells #[.slice sa sn sc] 24)).alloc (.cells #[.int .i64 0,.int .i64 0,.int .i64 0,.int .i64 0,.int .i64 0,.bool false] 29):=⟨_,rfl⟩
 have dm:=ai (show Ext w wa by rw[cN];exact((Tz _).alloc _).alloc _);have HA3:=ai (show wa.heap[w.heap.size]?=some (.cells #[.slice sa sn sc] 24 (0,0)) by rw[cN];exact bU (bR w _));have Ru:=ai (show wa.heap[w.heap.size+1]?=some (EA ⟨0,0,0,0,0,false⟩) by rw[cN];exact alloc_at (by simp));obtain⟨b3,hb3⟩:∃b3,b3=w.heap.size:=⟨_,rfl⟩
 have nU:=ai hb3;have hlw:w.heap.size<=b3:=by omega
 obtain⟨s0,sf⟩:=dO HA3.o;go_enter Tryz.func36,Tryz.ntmps36
 go_upto_region 1 with fail;rw[<-cN,<-hb3];rw[<-hb3] at HA3 Ru s0;clear cN hb3;go_wp2_with fail;refine(H2.o wa dm.o).mono ?_;rintro r w1 ⟨rfl,hx1⟩;have dI:=ai (dm.o.trans hx1);have H13:=ai (hx1.blk HA3.o);have H16:=ai (hx1.blk Ru.o);clear hx1 s0 sf HA3 Ru H2;obtain⟨s0,sf⟩:=dO H13.o;cases S2
 case false =>
  have HQ:=ai (show R=⟨1,0,0,0,0,false⟩ by rw[HR.o];simp);have hz:=H16.o;unfold EA rT.cells at hz;obtain⟨z0,z1,z2,z3,z4,z5,zf⟩:=dH hz;go_wp2_with fail;obtain⟨w8,gX⟩:∃w8,w8=fA w1 (b3+1) (.int .i64 1) (.int .i64 0) (.int .i64 0) (.int .i64 0) (.int .i64 0) (.bool false):=⟨_,rfl⟩
  have nB:=ai (show Ext w w8 by rw[gX];exact(fe _ _).ext dI.o (by simp;omega));have h8:w8.heap[b3+1]?=some (.cells #[.int .i64 1,.int .i64 0,.int .i64 0,.int .i64 0,.int .i64 0,.bool false] 29 (0,0)):=by rw[gX];exact fH hz
  unfold fA at gX;rw[<-gX];clear gX z0 z1 z2 z3 z4 z5 zf hz;obtain⟨z0,z1,z2,z3,z4,z5,zf⟩:=dH h8;refine a5a (v:=.agg R.cells) (by rw[HQ.o];simp[results,Tryz.results36,go_sem,rT.cells,z0,z1,z2,z3,z4,z5]) rfl ?_;exact⟨rfl,nB.o⟩
 go_wp2_with fail;refine(H4.o w1 dI.o).mono ?_;rintro r w2 ⟨rfl,hx2⟩;have dN:=ai (dI.o.trans hx2);have H23:=ai (hx2.blk H13.o);have H26:=ai (hx2.blk H16.o);clear hx2 s0 sf H4 H13 H16;obtain⟨s0,sf⟩:=dO H23.o;cases S4
 case true =>
  have HQ:=ai (show R=⟨2,0,0,0,0,false⟩ by rw[HR.o];simp);have hz:=H26.o;unfold EA rT.cells at hz;obtain⟨z0,z1,z2,z3,z4,z5,zf⟩:=dH hz;go_wp2_with fail;obtain⟨w8,gX⟩:∃w8,w8=fA w2 (b3+1) (.int .i64 2) (.int .i64 0) (.int .i64 0) (.int .i64 0) (.int .i64 0) (.bool false):=⟨_,rfl⟩
  have nB:=ai (show Ext w w8 by rw[gX];exact(fe _ _).ext dN.o (by simp;omega));have h8:w8.heap[b3+1]?=some (.cells #[.int .i64 2,.int .i64 0,.int .i64 0,.int .i64 0,.int .i64 0,.bool false] 29 (0,0)):=by rw[gX];exact fH hz
  unfold fA at gX;rw[<-gX];clear gX z0 z1 z2 z3 z4 z5 zf hz;obtain⟨z0,z1,z2,z3,z4,z5,zf⟩:=dH h8;refine a5a (v:=.agg R.cells) (by rw[HQ.o];simp[results,Tryz.results36,go_sem,rT.cells,z0,z1,z2,z3,z4,z5]) rfl ?_;exact⟨rfl,nB.o⟩
 go_wp2_with fail;refine(H3.o w2 dN.o).mono ?_;rintro r w3 ⟨rfl,hx3⟩;have dS:=ai (dN.o.trans hx3);have H33:=ai (hx3.blk H23.o);have H36:=ai (hx3.blk H26.o);clear hx3 s0 sf H3 H23 H26;obtain⟨s0,sf⟩:=dO H33.o;cases S3
 case true =>
  have HQ:=ai (show R=⟨3,0,0,0,0,false⟩ by rw[HR.o];simp);have hz:=H36.o;unfold EA rT.cells at hz;obtain⟨z0,z1,z2,z3,z4,z5,zf⟩:=dH hz;go_wp2_with fail;obtain⟨w8,gX⟩:∃w8,w8=fA w3 (b3+1) (.int .i64 3) (.int .i64 0) (.int .i64 0) (.int .i64 0) (.int .i64 0) (.bool false):=⟨_,rfl⟩
  have nB:=ai (show Ext w w8 by rw[gX];exact(fe _ _).ext dS.o (by simp;omega));have h8:w8.heap[b3+1]?=some (.cells #[.int .i64 3,.int .i64 0,.int .i64 0,.int .i64 0,.int .i64 0,.bool false] 29 (0,0)):=by rw[gX];exact fH hz
  unfold fA at gX;rw[<-gX];clear gX z0 z1 z2 z3 z4 z5 zf hz;obtain⟨z0,z1,z2,z3,z4,z5,zf⟩:=dH h8;refine a5a (v:=.agg R.cells) (by rw[HQ.o];simp[results,Tryz.results36,go_sem,rT.cells,z0,z1,z2,z3,z4,z5]) rfl ?_;exact⟨rfl,nB.o⟩
 have HRR:=ai (show R=⟨4,CP V l,D,F,C,A⟩ by rw[HR.o];simp);clear HR;go_upto_region 7 with fail;have S0:=bT s0;refine kT 18 ?_
 repeat (refine bZ ?_;intro K hK;go_big_quiet_op;go_big_quiet_on)
 refine mU (fun W hW=>H6.o W (dS.o.trans hW)) ?_;intro K hK;go_simp;go_big_quiet_on
 repeat (refine bZ ?_;intro K hK;go_big_quiet_op;go_big_quiet_on)
 refine mU (fun W hW=>H7.o W (dS.o.trans hW)) ?_;intro K hK;go_simp;go_big_quiet_on
 repeat (refine bZ ?_;intro K hK;go_big_quiet_op;go_big_quiet_on)
 refine mU (fun W hW=>H8.o W (dS.o.trans hW)) ?_;intro K hK;go_simp;go_big_quiet_on
 repeat (refine bZ ?_;intro K hK;go_big_quiet_op;go_big_quiet_on)
 refine mU (fun W hW=>H9.o W (dS.o.trans hW)) ?_;intro K hK;go_simp;go_big_quiet_on
 repeat (refine bZ ?_;intro K hK;go_big_quiet_op;go_big_quiet_on)
 refine Az (fun g=>.pointer (some ⟨g,0,none⟩)) (fun g W=>W.heap[g]?=some (EA ⟨0,0,0,0,0,false⟩)/\w3.heap.size<=g) (fun W hW=>?_) (fun g W W' h k=>⟨h.blk k.1,k.2⟩) ?_
 ·unfold bQ;go_simp;exact⟨(Tz W).alloc _,W.heap.size,rfl,bR W _,hW.size⟩
 intro y7 K hK;go_simp;go_big_quiet_on;refine nH fun W hW2 _ aDb=>?_
 have aju:=ai aDb.2;clear aDb S0;have hz7:=aju.o.1;unfold EA rT.cells at hz7;obtain⟨z0,z1,z2,z3,z4,z5,zf⟩:=dH hz7;have hlz:=bS hz7;go_upto_region 8 with fail;obtain⟨w4,hw4⟩:∃w4,w4=fA W y7 (.int .i64 4) (.int .i64 (-1)) (.int .i64 D) (.int .i64 F) (.int .i64 C) (.bool A):=⟨_,rfl⟩
 have jl:=ai (show Ext w3 w4 by rw[hw4];exact(fe _ _).ext hW2 (by simp;exact aju.o.2));have H47:=ai (show w4.heap[y7]?=some (EA ⟨4,CP V (l.take 0),D,F,C,A⟩) by rw[hw4];exact fH hz7);unfold fA at hw4;rw[<-hw4];clear hw4 hW2 hz7 z0 z1 z2 z3 z4 z5 zf hlz s0 sf H6 H7 H8 H9;go_wp2_with fail;go_loopw [8] (VrL V l n y7 D F C A w3) (fun i _=>n - (intOf i).toNat)
 case atStart=>exact⟨0,rfl,Nat.zero_le _,H47.o,jl.o⟩
 case round =>
  obtain⟨k,rfl,hk,hb,hx⟩:=hrel;obtain⟨wo,rfl⟩:∃wo:World,wo=wr:=⟨_,rfl⟩
  have HX:=ai hx;have HB:=ai hb;obtain⟨s0,sf⟩:=dO (hx.blk H33.o);have hzz:=hb;unfold EA rT.cells at hzz;obtain⟨d0,d1,d2,d3,d4,d5,df⟩:=dH hzz;have hlz:=bS hzz;clear hx hb;by_cases hkn:k<n
  ·have fq:k<l.length:=by have:=HN.o;omega
   have t1:=ag ((k:Int)<(n:Int));have tk0:(0:Int)<=(k:Int):=by omega
   have tk1:(k:Int)<(n:Int):=by omega
   obtain⟨b,off,v,rfl,hcl,hrow⟩:=(HC.o.ext (BO.o.trans (dS.o.trans HX.o))).at fq;obtain⟨c0,c1,c2,c3,c4,c5,c6,c7,c8,c9⟩:=hrow.BB;have hvk:v.kind=l[k].kind:=hcl.1;have hva:v.ck=l[k].ck:=hcl.2.2.2.2.2.2.2;have se:=ai (fun W (hW:Ext wo W)=>Gl.o k fq v W ((dS.o.trans HX.o).trans hW) (hcl.mono hW.sub));have HST:=ai (ay0 V fq);obtain⟨M,hM⟩:∃M,M=CP V (l.take k):=⟨_,rfl⟩
   rw[<-hM] at HST HB d1 hzz;dsimp only at d1 hzz;have M8:=ai (show CP V (l.take (k+1))=if (v.kind==5&&ke V l[k]&&(decide (M<0)||decide (v.ck<M)))=true then v.ck else M by rw[HST.o,N8,hvk,hva]);obtain⟨Q,hQ⟩:∃Q,Q=ke V l[k]:=⟨_,rfl⟩
   rw[<-hQ] at se M8;have HZZ:=ai hzz;clear hrow hcl hvk hva hQ Gl hM HST hzz;cases hq:(v.kind==5)
   ·have HQ:=ai (show CP V (l.take (k+1))=M by rw[M8.o,hq];rfl);go_wp2_with fail;go_quiet (fail)
    go_wp2_with fail;go_roundw
    case rel=>exact⟨k+1,by go_num,by omega,by rw[HQ.o];exact HB.o,HX.o.drewN _⟩
    case measure=>simp[intOf];omega
   cases Q
   ·have HQ:=ai (show CP V (l.take (k+1))=M by rw[M8.o,hq];rfl);go_upto_region 11 with fail;obtain⟨C0,C1,C2,C3,C4,C5⟩:=wcn6 c0 c1 c2 c3 c4 c5;obtain⟨C6,C7,C8,C9,D1,S0⟩:=wcn6 c6 c7 c8 c9 d1 s0;refine kT 31 ?_
    repeat (refine bZ ?_;intro K hK;go_big_quiet_op;go_big_quiet_on)
    refine mU (fun W hW=>se.o W hW) ?_;intro K hK;go_simp;go_big_quiet_on
    repeat first|(refine bZ ?_;intro K hK;go_big_quiet_op;go_big_quiet_on)|(refine zX ?_;intro K hK;go_simp;go_big_quiet_on)
    refine gC fun W hW2 _ _=>?_
    clear C0 C1 C2 C3 C4 C5 C6 C7 C8 C9 D1 S0;go_wp2_with fail;go_roundw
    case rel=>exact⟨k+1,by go_num,by omega,by rw[HQ.o];exact hW2.blk HB.o,HX.o.trans hW2⟩
    case measure=>simp[intOf];omega
   by_cases hm:M<0
   ·have HQ:=ai (show CP V (l.take (k+1))=v.ck by rw[M8.o,hq,bO hm];rfl);have tm:=ag (M<0) hm;clear hm;go_upto_region 11 with fail;obtain⟨C0,C1,C2,C3,C4,C5⟩:=wcn6 c0 c1 c2 c3 c4 c5;obtain⟨C6,C7,C8,C9,D1,S0⟩:=wcn6 c6 c7 c8 c9 d1 s0;refine kT 31 ?_
    repeat (refine bZ ?_;intro K hK;go_big_quiet_op;go_big_quiet_on)
    refine mU (fun W hW=>se.o W hW) ?_;intro K hK;go_simp;go_big_quiet_on
    repeat first|(refine bZ ?_;intro K hK;go_big_quiet_op;go_big_quiet_on)|(refine zX ?_;intro K hK;go_simp;go_big_quiet_on)
    refine gC fun W hW2 _ _=>?_
    clear C0 C1 C2 C3 C4 C5 C6 C7 C8 C9 D1 S0;have e9:=hW2.cell c9;have IE:=ai (hW2.blk HZZ.o);obtain⟨g0,g1,g2,g3,g4,g5,gf⟩:=dH IE.o;have aWA:=bS IE.o;have qO:=ai hW2;clear hW2;go_wp2_with fail;go_roundw
    case rel=>exact⟨k+1,by go_num,by omega,by rw[HQ.o];exact aI _ _ 1 _ _ _ IE.o,Ext.fV (HX.o.trans qO.o) aju.o.2 _⟩
    case measure=>simp[intOf];omega
   have tm:=ah (M<0) hm;cases ha:decide (v.ck<M)
   ·have HQ:=ai (show CP V (l.take (k+1))=M by rw[M8.o,hq,tm,ha];rfl);clear hm;go_upto_region 11 with fail;obtain⟨C0,C1,C2,C3,C4,C5⟩:=wcn6 c0 c1 c2 c3 c4 c5;obtain⟨C6,C7,C8,C9,D1,S0⟩:=wcn6 c6 c7 c8 c9 d1 s0;refine kT 31 ?_
    repeat (refine bZ ?_;intro K hK;go_big_quiet_op;go_big_quiet_on)
    refine mU (fun W hW=>se.o W hW) ?_;intro K hK;go_simp;go_big_quiet_on
    repeat first|(refine bZ ?_;intro K hK;go_big_quiet_op;go_big_quiet_on)|(refine zX ?_;intro K hK;go_simp;go_big_quiet_on)
    refine gC fun W hW2 _ _=>?_
    clear C0 C1 C2 C3 C4 C5 C6 C7 C8 C9 D1 S0;go_wp2_with fail;go_roundw
    case rel=>exact⟨k+1,by go_num,by omega,by rw[HQ.o];exact hW2.blk HB.o,HX.o.trans hW2⟩
    case measure=>simp[intOf];omega
   have HQ:=ai (show CP V (l.take (k+1))=v.ck by rw[M8.o,hq,tm,ha];rfl);clear hm;go_upto_region 11 with fail;obtain⟨C0,C1,C2,C3,C4,C5⟩:=wcn6 c0 c1 c2 c3 c4 c5;obtain⟨C6,C7,C8,C9,D1,S0⟩:=wcn6 c6 c7 c8 c9 d1 s0;refine kT 31 ?_
   repeat (refine bZ ?_;intro K hK;go_big_quiet_op;go_big_quiet_on)
   refine mU (fun W hW=>se.o W hW) ?_;intro K hK;go_simp;go_big_quiet_on
   repeat first|(refine bZ ?_;intro K hK;go_big_quiet_op;go_big_quiet_on)|(refine zX ?_;intro K hK;go_simp;go_big_quiet_on)
   refine gC fun W hW2 _ _=>?_
   clear C0 C1 C2 C3 C4 C5 C6 C7 C8 C9 D1 S0;have e9:=hW2.cell c9;have IE:=ai (hW2.blk HZZ.o);obtain⟨g0,g1,g2,g3,g4,g5,gf⟩:=dH IE.o;have aWA:=bS IE.o;have qO:=ai hW2;clear hW2;go_wp2_with fail;go_roundw
   case rel=>exact⟨k+1,by go_num,by omega,by rw[HQ.o];exact aI _ _ 1 _ _ _ IE.o,Ext.fV (HX.o.trans qO.o) aju.o.2 _⟩
   case measure=>simp[intOf];omega
  have t1:=ah ((k:Int)<(n:Int));have HQ:=ai (show R=⟨4,CP V (l.take k),D,F,C,A⟩ by rw[HRR.o,aS (by have:=HN.o;omega)]);obtain⟨M,hM⟩:∃M,M=CP V (l.take k):=⟨_,rfl⟩
  rw[<-hM] at HQ d1;dsimp only at d1;have hz:=HX.o.blk H36.o;unfold EA rT.cells at hz;obtain⟨z0,z1,z2,z3,z4,z5,zf⟩:=dH hz;clear hzz hM;go_wp2_with fail;obtain⟨w8,gX⟩:∃w8,w8=fA wo (b3+1) (.int .i64 4) (.int .i64 M) (.int .i64 D) (.int .i64 F) (.int .i64 C) (.bool A):=⟨_,rfl⟩
  have nB:=ai (show Ext w w8 by rw[gX];exact(fe _ _).ext (dS.o.trans HX.o) (by simp;omega));have h8:w8.heap[b3+1]?=some (.cells #[.int .i64 4,M,D,F,C,.bool A] 29 (0,0)):=by rw[gX];exact fH hz
  unfold fA at gX;rw[<-gX];clear gX z0 z1 z2 z3 z4 z5 zf hz;obtain⟨z0,z1,z2,z3,z4,z5,zf⟩:=dH h8;refine a5a (v:=.agg R.cells) (by rw[HQ.o];simp[results,Tryz.results36,go_sem,rT.cells,z0,z1,z2,z3,z4,z5]) rfl ?_;exact⟨rfl,nB.o⟩
def Pv (s:List Attr) (l:List cK) (e:Ex):Prop:=gq e/\dr s l e=0/\jT l (l.length+1) e<=2000/\e.size<=300
theorem Bf {e:Ex} (h:eW e=true):gq e/\e.size<=300:=by
 rw[eW,aF,aF] at h;refine⟨(Ke _).1 h.2,?_⟩;have:=h.1.2;simp only[aH] at this;unfold ep at this;omega
theorem alS {s:List Attr} {l:List cK}:(u:List Wb)->(d:Nat)->mh d u=true->fG s l u=0->eH l u=false->iK u<=40->jY (Pv s l) u/\u.length<=40
 | [],_,_,_,_,_=>⟨by unfold jY;trivial,by simp⟩
 | .mk n c u::r,d,h1,h2,h3,h4=>by
  rw[mh] at h1;simp only[aF] at h1;obtain⟨⟨⟨⟨_,_⟩,g1⟩,g2⟩,g3⟩:=h1;rw[fG] at h2;by_cases k1:dr s l c≠0
  ·rw[bM k1] at h2;exact a40 h2 k1
  rw[bL k1] at h2;by_cases k2:fG s l u≠0
  ·rw[bM k2] at h2;exact a40 h2 k2
  rw[bL k2] at h2;rw[eH] at h3;simp only[Bool.or_eq_false_iff,bI] at h3;obtain⟨⟨q1,q2⟩,q3⟩:=h3;rw[iK] at h4;obtain⟨e1,e2⟩:=Bf g1;obtain⟨u1,u2⟩:=alS u (d - 1) g2 (by simpa using k2) q2 (by omega);obtain⟨r1,r2⟩:=alS r d g3 h2 q3 (by omega);have hl:∀(x:List Wb),x.length<=iK x:=fun x=>by
   induction x with
   | nil=>simp
   | cons y t ih=>cases y with|mk _ _ _=>rw[iK];simp;omega
  have hr:=hl r;refine⟨?_,by simp;omega⟩;unfold jY;exact⟨⟨e1,by simpa using k1,by unfold dV at q1;omega,e2⟩,u1,by omega,r1⟩
structure aVo (s:List Attr) (l:List cK) (x:cK):Prop where
 cond:Pv s l x.cond
 wbs:jY (Pv s l) x.gH
 len:x.gH.length<=40
 kind:1<=x.kind/\x.kind<=10
 Yb:(ku x.kind=0/\x.ck=0)\/(1<=x.ck/\x.ck<=ku x.kind)
theorem Vh {s:List Attr} {l:List cK} (h:(cV s l).2=0):∀x∈l,aVo s l x:=by
 have hc:=lK h;unfold cV at h;rw[bL (by simp[hc.x7]),bL (by have:=hc.len;omega)] at h;by_cases h3:(kZ (jE s l) l.length).2≠0
 ·rw[bM h3] at h;exact a40 h h3
 rw[bL h3] at h;by_cases h4:¬vZ (l.map cK.tV)
 ·rw[bM h4] at h;simp at h
 rw[bL h4] at h;have h1:=kO l.length (by simpa using h3);have h2:=kO l.length h;intro x hx;obtain⟨i,hi,rfl⟩:=bA hx;have g:=h1 i hi;have g2:=h2 i hi;unfold jE at g;unfold jQ at g2;rw[ry hi] at g g2;by_cases q1:gQ l[i]=false
 ·rw[bM q1] at g;cases g
 rw[bL q1] at g;by_cases q2:(findAt l l[i].name).getD 0<i
 ·rw[bM q2] at g;cases g
 rw[bL q2] at g;by_cases q3:(eO s l[i].name).isSome
 ·rw[bM q3] at g;cases g
 rw[bL q3] at g;by_cases q4:dr s l l[i].cond≠0
 ·rw[bM q4] at g;exact a40 g q4
 rw[bL q4] at g;by_cases q5:2000<dV l l[i].cond\/eH l l[i].gH=true
 ·rw[bM q5] at g2;cases g2
 simp only[not_or] at q5;have q1':gQ l[i]=true:=by simpa using q1
 simp only[gQ,aF,bG,aH,a47] at q1';obtain⟨⟨⟨⟨⟨a1,a2⟩,_⟩,a4⟩,a5⟩,a6⟩:=q1';obtain⟨e1,e2⟩:=Bf a4;have hw:jY (Pv s l) l[i].gH/\l[i].gH.length<=40:=by
  rcases a5 with a5|⟨⟨_,b2⟩,b3⟩
  ·have:l[i].gH=[]:=aR a5;rw[this];exact⟨by unfold jY;trivial,by simp⟩
  exact alS _ _ b3 g (by simpa using q5.2) b2
 refine⟨⟨e1,by simpa using q4,by unfold dV at q5;omega,e2⟩,hw.1,hw.2,⟨a1,a2⟩,?_⟩;rcases a6 with ⟨b1,b2⟩|⟨⟨b1,b2⟩,b3⟩
 ·exact aoX ⟨b1,b2⟩
 exact a4Z ⟨b2,b3⟩
theorem Dg {s:List Attr} {l:List cK} {f:ZI} (h:(cV s l).2=0) (qx:fW s f=true) (Hy:∀x∈s,x.fits) {w0:World} {sa:OA} {sn sc:Nat} {a:OA} {n c:Nat} {fa:OA} {fn:Nat} (fc:Nat)
  (hs:dB w0 s (.agg #[.slice sa sn sc])) (hl:cZ w0 l a n c) (hi:dG w0 f fa fn):axu w0 sa sn sc l a n c fa fn fc (jN s l f (l.length+1)) (Pv s l) where
 tr:=fun e x W hW hp he=>xz s l f (lK h) qx Hy a n c fa fn fc (l.length+1) 300 e x.val _ W hp.2.2.2 (by omega) hp.1 hp.2.1 hp.2.2.1 (hs.ext hW) (hl.ext hW) he (hi.ext hW)
 OV:=hl
 iT:=by have:=hl.len;have:=(lK h).len;omega
 ok:=fun x hx=>by
  have hk:=Vh h x hx;exact⟨hk.cond,hk.wbs,by have:=hk.len;omega⟩
open Go.RowKit Go.Maps
theorem atm:Tryz.prog.underlying 72=some (.map 9 48):=by kernel_rfl
def aMT (v:fM):Value:=.agg #[ v.kind,.string v.name,v.x.op,.string v.x.name,.slice v.x.aw v.x.nw v.x.cw,v.x.lo,v.x.hi,.slice v.x.aa v.x.na v.x.ca,.slice v.au v.nu v.cu,v.ck]
theorem aBa (w:World):(zeroValue 48).run Tryz.prog w=.ok (.agg #[.int .i64 0,.string ⟨#[]⟩,.int .i64 0,.string ⟨#[]⟩,.slice none 0 0,.int .i64 0,.int .i64 0,.slice none 0 0,.slice none 0 0,.int .i64 0]) w:=by kernel_rfl
def Im (w:World) (l:List cK) (g:BA->Option Value):Prop:=∀s,(dz l s=none->g s=none)/\∀d,dz l s=some d->∃v:fM,g s=some (aMT v)/\ij w (l.getD d fC) v
theorem Im.ext {w w':World} {l:List cK} {g:BA->Option Value} (h:Im w l g) (hx:Ext w w'):Im w' l g:=fun s=>⟨(h s).1,fun d hd=>by obtain⟨v,h1,h2⟩:=(h s).2 d hd;exact⟨v,h1,h2.mono hx.sub⟩⟩
theorem Im.skip {w:World} {l:List cK} {k:Nat} {g:BA->Option Value} (hk:k<l.length) (h:Im w (l.take k) g) (hs:l[k].kind≠1):Im w (l.take (k+1)) g:=by
 intro s;have key:dz (l.take (k+1)) s=dz (l.take k) s:=by
  rw[Qs hk];cases hd:dz (l.take k) s with
  | some d=>rfl
  | none=>rw[bL];rintro⟨h1,h2⟩;exact hs h1
 rw[key];refine⟨(h s).1,fun d hd=>?_⟩;have:d<k:=by have:=ot hd;simp at this;omega
 rw[getD_take (by omega),<-getD_take (k:=k) this];exact(h s).2 d hd
theorem Im.step {w:World} {l:List cK} {k:Nat} {g:BA->Option Value} (hk:k<l.length) (h:Im w (l.take k) g) (uk:l[k].kind=1) (hn:dz (l.take k) l[k].name=none) {v:fM} (hv:ij w l[k] v):Im w (l.take (k+1)) (upS g l[k].name (some (aMT v))):=by
 intro s;rw[Qs hk];by_cases e:s=l[k].name
 ·subst e;rw[hn,xY];simp only[uk,and_self,if_true];refine⟨fun h=>by simp at h,fun d hd=>?_⟩;obtain rfl:k=d:=by simpa using hd
  rw[getD_take (by omega),fJ hk];exact⟨v,rfl,hv⟩
 rw[sR _ _ e];cases hd:dz (l.take k) s with
 | none =>
  have:¬(l[k].kind=1/\l[k].name=s):=fun h=>e h.2.symm
  simp only[bL this];exact⟨fun _=>(h s).1 hd,fun d hd'=>by cases hd'⟩
 | some d =>
  have hdk:d<k:=by have:=ot hd;simp at this;omega
  refine⟨fun h=>by simp at h,fun d' hd'=>?_⟩;obtain rfl:d=d':=by simpa using hd'
  rw[getD_take (by omega),<-getD_take (k:=k) hdk];exact(h s).2 d hd
structure AA (w:World) (s:List Attr) (l:List cK) (f:ZI) (v:fT) (n:Nat):Prop where
 x7:dB w s (.agg #[.slice v.sa v.sn v.sc])
 defs:∃g,ig w 9 v.bm n (kV g)/\Im w l g
 ints:dG w f v.fa v.fn
theorem AA.ext {w w':World} {s:List Attr} {l:List cK} {f:ZI} {v:fT} {n:Nat} (h:AA w s l f v n) (hx:Ext w w'):AA w' s l f v n:=⟨h.x7.ext hx,by obtain⟨g,h1,h2⟩:=h.defs;exact⟨g,h1.ext hx,h2.ext hx⟩,h.ints.ext hx⟩
noncomputable def jP (s:List Attr) (l:List cK) (f:ZI):Int:=if (cV s l).2≠0 then (cV s l).2 else if jU s f=false then 16 else 0
def as2 (s:List Attr) (l:List cK) (f:ZI) (n:Nat) (w:World) (r:Ending) (w':World):Prop:=Ext w w'/\((jP s l f≠0/\r=.returned (.tuple #[oM,.int .i64 (jP s l f)]))\/(jP s l f=0/\∃lv:fT,r=.returned (.tuple #[lv.val,.int .i64 0])/\AA w' s l f lv n))
theorem KM (s:List Attr) (l:List cK) (f:ZI) (sv:Value) (a:OA) (n c:Nat) (fa:OA) (fn fc:Nat) (w:World) (hs:dB w s sv) (hf:∀x∈s,x.fits) (hsl:s.length<=1000000000000000) (hl:cZ w l a n c) (hn:n<=1000000) (hok:∀x∈l,x.fit) (hi:dG w f fa fn) (hfn:fn<=1000000000000000) (ho:dQ w) :
  Calls Tryz.prog 27 #[sv,.slice a n c,.slice fa fn fc] w (as2 s l f n w):=by
 obtain⟨sa,sn,sc,rfl,B6⟩:=hs.slice;have qC:=ai (fun W (hW:Ext w W)=>vY s l _ a n c W (hs.ext hW) hf hsl (hl.ext hW) (by omega) hok (ho.ext hW));have Eo:=ai (fun W (hW:Ext w W)=>Ph s _ f fa fn fc W (hs.ext hW) hf hsl (hi.ext hW) hfn);have qw:=ai (fun (h1:(cV s l).2=0)=>lK h1);have HL:=ai hl;have HS:=ai hs;have HI:=ai hi;have tR:=ai (fun x hx=>(hok x hx).1);have HN:=ai hl.len;obtain⟨R,hR⟩:∃R,R=jP s l f:=⟨_,rfl⟩
 unfold as2;rw[<-hR];unfold jP at hR;obtain⟨⟨i0,E1⟩,xK⟩:∃E:Nat×Int,E=cV s l:=⟨_,rfl⟩
 rw[<-xK] at qC hR;have aF':=ai (fun (h1:E1=0)=>qw.o (by rw[<-xK];exact h1));clear qw;obtain⟨B,hB⟩:∃B,B=jU s f:=⟨_,rfl⟩
 rw[<-hB] at Eo hR;have HR:=ai hR;clear hs hf hsl hl hok hi B6 hR xK hB ho;obtain⟨wa,cN⟩:∃wa,wa=(w.alloc (.cells #[.slice sa sn sc] 24)).alloc (.cells #[.slice none 0 0,.map none,.slice none 0 0] 74):=⟨_,rfl⟩
 have gB:Ext w wa:=by rw[cN];exact((Tz _).alloc _).alloc _
 have iO:=ai (show wa.heap[w.heap.size]?=some (.cells #[.slice sa sn sc] 24 (0,0)) by rw[cN];exact bU (bR w _));have fY:=ai (show wa.heap[w.heap.size+1]?=some (.cells #[.slice none 0 0,.map none,.slice none 0 0] 74 (0,0)) by rw[cN];exact cT (by simp));have dm:=ai gB;obtain⟨e0,ef⟩:=dO iO.o;clear gB;unfold T3 at qC;go_enter Tryz.func27,Tryz.ntmps27
 go_upto_region 1 with fail;rw[<-cN];clear cN;go_wp2_with fail;refine(qC.o wa dm.o).mono ?_;rintro r w1 ⟨rfl,hx1⟩;have dI:=ai (dm.o.trans hx1);have wQ:=ai (hx1.blk iO.o);have Ls:=ai (hx1.blk fY.o);clear hx1 e0 ef qC iO fY;by_cases h1:E1=0
 case neg =>
  have t1:(E1 != 0)=true:=by simp[h1]
  have HQ:=ai (show R=E1 by rw[HR.o,bM h1]);have HNZ:=ai h1;clear h1;obtain⟨r0,r1,r2,rf⟩:=dM Ls.o;go_wp2_with fail;obtain⟨wz,eV⟩:∃wz,wz=kW w1 (w.heap.size+1) (.slice none 0 0) (.map none) (.slice none 0 0):=⟨_,rfl⟩
  have HZ:=ai (show wz.heap[w.heap.size+1]?=some (.cells #[.slice none 0 0,.map none,.slice none 0 0] 74 (0,0)) by rw[eV];exact rW Ls.o _ _ _);have tA:=ai (show Ext w wz by rw[eV];exact(rV w1 (w.heap.size+1) (.slice none 0 0) (.map none) (.slice none 0 0) (N:=[w.heap.size+1]) (by simp)).ext dI.o (fun y hy=>by simp only[aG] at hy;omega));unfold kW at eV;rw[<-eV];clear eV;obtain⟨z0,z1,z2,zf⟩:=dM HZ.o;refine a5a (v:=.tuple #[oM,E1]) (by simp[results,Tryz.results27,go_sem,oM,z0,z1,z2]) rfl ?_;exact⟨tA.o,aoX ⟨by rw[HQ.o];exact HNZ.o,by rw[HQ.o]⟩⟩
 have t1:(E1 != 0)=false:=by simp[h1]
 have sI:=ai (show R=if B=false then 16 else 0 by rw[HR.o,bL (by simpa using h1)]);have qw:=ai (aF'.o h1);clear h1 HR aF';have dS:=dI;obtain⟨e0,ef⟩:=dO wQ.o;go_wp2_with fail;refine(Eo.o w1 dS.o).mono ?_;rintro r w4 ⟨rfl,gV⟩;have jl:=ai (dS.o.trans gV);have aA0:=ai (gV.blk wQ.o);have aoz:=ai (gV.blk Ls.o);clear gV e0 ef Eo;cases B
 case false =>
  have HQ:=ai (show R=16 by rw[sI.o];rfl);obtain⟨r0,r1,r2,rf⟩:=dM aoz.o;go_wp2_with fail;obtain⟨wz,eV⟩:∃wz,wz=kW w4 (w.heap.size+1) (.slice none 0 0) (.map none) (.slice none 0 0):=⟨_,rfl⟩
  have HZ:=ai (show wz.heap[w.heap.size+1]?=some (.cells #[.slice none 0 0,.map none,.slice none 0 0] 74 (0,0)) by rw[eV];exact rW aoz.o _ _ _);have tA:=ai (show Ext w wz by rw[eV];exact(rV w4 (w.heap.size+1) (.slice none 0 0) (.map none) (.slice none 0 0) (N:=[w.heap.size+1]) (by simp)).ext jl.o (fun y hy=>by simp only[aG] at hy;omega));unfold kW at eV;rw[<-eV];clear eV;obtain⟨z0,z1,z2,zf⟩:=dM HZ.o;refine a5a (v:=.tuple #[oM,.int .i64 16]) (by simp[results,Tryz.results27,go_sem,oM,z0,z1,z2]) rfl ?_;exact⟨tA.o,aoX ⟨by rw[HQ.o];decide,by rw[HQ.o]⟩⟩
 have HQ:=ai (show R=0 by rw[sI.o];rfl);have hmm:=@run_makeMap Tryz.prog;have Uj:=ai (ig.made w4 9);have BO:=ai ((Tz w4).alloc (.map #[] 0));obtain⟨bf,Qd⟩:∃bf:Nat,bf=w4.heap.size:=⟨_,rfl⟩
 have HBF:=ai Qd;have wP:=ai (show w.heap.size+1<bf by rw[Qd];exact bS aoz.o);go_wp2_with fail;rw[<-Qd];rw[<-Qd] at Uj;clear Qd hmm;go_loopw [31] (fun i wr=>∃(k:Nat) (g:BA->Option Value),k<=n/\i=.int .i64 k/\ig wr 9 bf k (kV g)/\Im w (l.take k) g/\wr.heap[w.heap.size]?=some (.cells #[.slice sa sn sc] 24 (0,0))/\wr.heap[w.heap.size+1]?=some (.cells #[.slice none 0 0,.map none,.slice none 0 0] 74 (0,0))/\Ext w wr) (fun i _=>n - (intOf i).toNat)
 case atStart =>
  refine⟨0,fun _=>none,by omega,rfl,Uj.o.congr fun x=>?_,fun s=>⟨fun _=>rfl,fun d hd=>?_⟩,BO.o.blk aA0.o,BO.o.blk aoz.o,jl.o.trans BO.o⟩
  ·cases x<;>simp[kV]
  simp[dz] at hd
 case round =>
  obtain⟨k,g,hk,rfl,hmap,hg,hb0,hb2,hx⟩:=hrel;have En:=ai hmap;have HX:=ai hx;have HG:=ai hg;have oF:=ai hb0;have Af:=ai hb2;have qL:=hmap.lt;clear hmap hx hg Uj BO hb0 hb2;by_cases hlt:k<n
  ·have hlt':k<l.length:=by have:=HN.o;omega
   have t1:=ag ((k:Int)<(n:Int));obtain⟨cb,ld,v,rfl,fO,hrow⟩:=HL.o.at hlt';obtain⟨c0,c1,c2,c3,c4,c5,c6,c7,c8,c9⟩:=(hrow.mono HX.o.sub).BB;have zP:v.name.size<=1000000000000000:=by rw[fO.2.1];exact tR.o _ (aD hlt')
   have DK:=eB c0;simp only at DK;have aOx:=ai fO;have HEK:=ai (show l[k].kind=v.kind from fO.1.symm);have Li:=ai (show l[k].name=v.name from fO.2.1.symm);have HFR:=ai (qw.o.fresh hlt');rw[Li.o] at HFR;have HST:=ai (fun h1 h2=>HG.o.step hlt' h1 h2 aOx.o);have Na:=ai (HG.o.skip hlt');rw[HEK.o,Li.o] at HST;rw[HEK.o] at Na;clear fO hrow;cases tC:(v.kind==1)
   ·have Nd:=ai (Na.o (by simpa using tC));go_wp2_with fail;go_roundw
    case rel =>
     have gB:=(Tz wr).alloc (.cells #[ v.kind,.string v.name,v.x.op,.string v.x.name,.slice v.x.aw v.x.nw v.x.cw,v.x.lo,v.x.hi,.slice v.x.aa v.x.na v.x.ca,.slice v.au v.nu v.cu,v.ck] 48);exact⟨k+1,g,by omega,by go_num,(En.o.ext gB).more (by omega),Nd.o,gB.blk oF.o,gB.blk Af.o,HX.o.trans gB⟩
    case measure=>simp[intOf];omega
   have Nd:=ai (HST.o (by simpa using tC) HFR.o);go_wp2_with (at_mapUpdate;refine lR _ rfl _ _ _ 72 rfl 9 48 gU atm bf k _ rfl (En.o.ext ((Tz wr).alloc _)) ?c3 _ _ _ rfl rfl (lB zP) trivial ?_)
   case c3=>unfold maxLen;omega
   intro w6 hm1 hc1;have gB:=(Tz wr).alloc (.cells #[ v.kind,.string v.name,v.x.op,.string v.x.name,.slice v.x.aw v.x.nw v.x.cw,v.x.lo,v.x.hi,.slice v.x.aa v.x.na v.x.ca,.slice v.au v.nu v.cu,v.ck] 48);have hxm:Ext w w6:=hc1.ext (HX.o.trans gB) (fun y hy=>by simp only[aG] at hy;have:=wP.o;omega);have aGo:=ai (hc1.blk (gB.blk oF.o) (by have:=wP.o;simp;omega));have ah7:=ai (hc1.blk (gB.blk Af.o) (by have:=wP.o;simp;omega));have WO:=ai (hm1.congr (Dm g v.name _));have dI:=ai hxm;clear hm1 hc1 gB hxm;go_wp2_with fail;go_roundw
   case rel=>exact⟨k+1,_,by omega,by go_num,WO.o,Nd.o,aGo.o,ah7.o,dI.o⟩
   case measure=>simp[intOf];omega
  have t1:=ah ((k:Int)<(n:Int));have Nd:=ai (show k=n by omega);obtain⟨e0,ef⟩:=dO oF.o;obtain⟨r0,r1,r2,rf⟩:=dM Af.o;go_wp2_with fail;obtain⟨wz,eV⟩:∃wz,wz=kW wr (w.heap.size+1) (.slice sa sn sc) (.map (some bf)) (.slice fa fn fc):=⟨_,rfl⟩
  have HZ:=ai (show wz.heap[w.heap.size+1]?=some (.cells #[.slice sa sn sc,.map (some bf),.slice fa fn fc] 74 (0,0)) by rw[eV];exact rW Af.o _ _ _);have U0:ct [w.heap.size+1] wr wz:=by rw[eV];exact rV wr (w.heap.size+1) (.slice sa sn sc) (.map (some bf)) (.slice fa fn fc) (by simp)
  have tA:=ai (U0.ext HX.o (fun y hy=>by simp only[aG] at hy;omega));have HLZ:=ai (show AA wz s l f ⟨sa,sn,sc,bf,fa,fn,fc⟩ n from⟨HS.o.ext tA.o,by
   exact⟨g,by rw[<-Nd.o];exact En.o.cR U0 (by have:=wP.o;simp;omega),by have:=HG.o.ext tA.o;rwa [aS (by have:=HN.o;omega)] at this⟩,HI.o.ext tA.o⟩)
  unfold kW at eV;rw[<-eV];clear eV U0;obtain⟨z0,z1,z2,zf⟩:=dM HZ.o;refine a5a (v:=.tuple #[fT.val ⟨sa,sn,sc,bf,fa,fn,fc⟩,.int .i64 0]) (by simp[results,Tryz.results27,go_sem,fT.val,z0,z1,z2]) rfl ?_;exact⟨tA.o,a4Z ⟨by rw[HQ.o],_,rfl,HLZ.o⟩⟩
end Go.Proofs.YtefjomofjejklaaGreatDoor
