/-
  Texts of the claim, joined: RVer, Truth, VrIn, DChk, Use0.
-/
import Derived.Test.YtefjomofjejklaaGreatDoorDx18
import Derived.Deep.CutBlock
import Derived.Shelf.SlicesQ.Reverse
import Derived.RangeFuncNested
import Derived.RangeFuncBound
import Derived.RangeFuncCalls
import Derived.RangeFuncLeaves
import Derived.RangeFuncBox
import Derived.Shelf.Abstract
import Derived.Shelf.RegionOpen
import Derived.OwnWalkIn
import Derived.TacticsInMore
import Derived.LoopNIn
import Derived.LoopIn
import Derived.Maps.OwnIn
namespace Go.Proofs.YtefjomofjejklaaGreatDoor
set_option maxRecDepth 100000
set_option maxHeartbeats 32000000
open Go.RowKit
structure Dec where
 ver:Int
 lim:Int
 Qg:Int
 Qd:Int
 Pq:Int
 avg:Bool
def Dec.cells (d:Dec):Array Value:=#[.int .i64 d.ver,.int .i64 d.lim,.int .i64 d.Qg,.int .i64 d.Qd,.int .i64 d.Pq,.bool d.avg]
def VP (V:Ex->Bool) (m:Int) (x:dY):Int:=if (x.kind==5&&oK V x&&(decide (m<0)||decide (x.amount<m)))=true then x.amount else m
def Kw (V:Ex->Bool) (l:List dY):Int:=l.foldl (VP V) (-1)
theorem aDl (V:Ex->Bool) {l:List dY} {k:Nat} (hk:k<l.length):Kw V (l.take (k+1))=VP V (Kw V (l.take k)) l[k]:=by
 unfold Kw;rw[aU hk,List.foldl_append]
 rfl
def Y8 (V:Ex->Bool) (l:List dY):Dec :=
 if nS V 2 false l=false then ⟨1,0,0,0,0,false⟩ else if nS V 4 true l=true then ⟨2,0,0,0,0,false⟩ else if nS V 3 false l=true then ⟨3,0,0,0,0,false⟩
 else ⟨4,Kw V l,vX V 6 l,vX V 7 l,vX V 8 l,nS V 9 false l⟩
theorem gJ {w:World} {b:Nat} {v0 v1 v2 v3 v4 v5:Value} {t:TypeId} (h:w.heap[b]?=some (.cells #[v0,v1,v2,v3,v4,v5] t (0,0))) :
  w.cell? ⟨b,0,none⟩=some v0/\w.cell? ⟨b,1,none⟩=some v1/\w.cell? ⟨b,2,none⟩=some v2/\w.cell? ⟨b,3,none⟩=some v3/\w.cell? ⟨b,4,none⟩=some v4/\w.cell? ⟨b,5,none⟩=some v5/\(∀o,w.frozen? ⟨b,o,none⟩=false) :=
 ⟨dM h 0,dM h 1,dM h 2,dM h 3,dM h 4,dM h 5,fun o=>jS h o⟩
def jE (w:World) (B:Nat) (v0 v1 v2 v3 v4 v5:Value):World:=(((((w.setCell ⟨B,0,none⟩ v0).setCell ⟨B,1,none⟩ v1).setCell ⟨B,2,none⟩ v2).setCell ⟨B,3,none⟩ v3).setCell ⟨B,4,none⟩ v4).setCell ⟨B,5,none⟩ v5
theorem jv {w:World} {B:Nat} {u0 u1 u2 u3 u4 u5 v0 v1 v2 v3 v4 v5:Value} {t:TypeId} (h:w.heap[B]?=some (.cells #[u0,u1,u2,u3,u4,u5] t (0,0))):(jE w B v0 v1 v2 v3 v4 v5).heap[B]?=some (.cells #[v0,v1,v2,v3,v4,v5] t (0,0)):=by
 unfold jE;rw[aO _ _ _ _ _ _ (aO _ _ _ _ _ _ (aO _ _ _ _ _ _ (aO _ _ _ _ _ _ (aO _ _ _ _ _ _ (aO _ _ _ _ _ _ h)))))]
 rfl
theorem iY (w:World) (B:Nat) {v0 v1 v2 v3 v4 v5:Value}:dO [B] w (jE w B v0 v1 v2 v3 v4 v5):=by
 unfold jE
 repeat (with_reducible (refine dO.setCell ?_ ?_ _))
 exact dO.refl _ _
 all_goals exact Or.inl (by simp)
def KA (d:Dec):Obj:=.cells d.cells 29 (0,0)
def VrL (V:Ex->Bool) (l:List dY) (n b7:Nat) (D F C:Int) (A:Bool) (w:World) (i:Value) (wr:World):Prop:=∃k:Nat,i=.int .i64 k/\k<=n/\wr.heap[b7]?=some (KA ⟨4,Kw V (l.take k),D,F,C,A⟩)/\Ext w wr
theorem Jq {w0:World} {sa:OA} {sn sc:Nat} {l:List dY} {a:OA} {n c:Nat} {fa:OA} {fn fc:Nat} {V:Ex->Bool} {P:Ex->Prop} (hv:aBN w0 sa sn sc l a n c fa fn fc V P) (w:World) (hx0:Ext w0 w) :
  Calls Tryz.prog 36 #[.agg #[.slice sa sn sc],.slice a n c,.slice fa fn fc] w (dN (.agg (Y8 V l).cells) w):=by
 have HN:=ak hv.WT.len;have HC:=ak hv.WT;have hn:=hv.few;have Zp:=ak (fun (k:Nat) (hk:k<l.length) (v:jm) W (hW:Ext w W) (hcl:kR W l[k] v)=>EG hv.tr l[k] v W (hx0.trans hW) (hv.ok _ (aI hk)).1 (hv.ok _ (aI hk)).2.1 (hv.ok _ (aI hk)).2.2 hcl);have Zj:=ak (fun (kind:Int) (neg:Bool) W (hW:Ext w W)=>auJ hv kind neg W (hx0.trans hW));have HGT:=ak (fun (kind:Int) W (hW:Ext w W)=>ail hv kind W (hx0.trans hW));have HX0:=ak hx0;obtain⟨S2,hS2⟩:∃S2,S2=nS V 2 false l:=⟨_,rfl⟩
 obtain⟨S4,hS4⟩:∃S4,S4=nS V 4 true l:=⟨_,rfl⟩
 obtain⟨S3,hS3⟩:∃S3,S3=nS V 3 false l:=⟨_,rfl⟩
 obtain⟨A,hA⟩:∃A,A=nS V 9 false l:=⟨_,rfl⟩
 obtain⟨D,hD⟩:∃D,D=vX V 6 l:=⟨_,rfl⟩
 obtain⟨F,hF⟩:∃F,F=vX V 7 l:=⟨_,rfl⟩
 obtain⟨C,hC⟩:∃C,C=vX V 8 l:=⟨_,rfl⟩
 have H2:=ak (fun W hW=>Zj.o 2 false W hW);have H4:=ak (fun W hW=>Zj.o 4 true W hW);have H3:=ak (fun W hW=>Zj.o 3 false W hW);have H9:=ak (fun W hW=>Zj.o 9 false W hW);have H6:=ak (fun W hW=>HGT.o 6 W hW);have H7:=ak (fun W hW=>HGT.o 7 W hW);have H8:=ak (fun W hW=>HGT.o 8 W hW);rw[<-hS2] at H2;rw[<-hS4] at H4;rw[<-hS3] at H3;rw[<-hA] at H9;rw[<-hD] at H6;rw[<-hF] at H7;rw[<-hC] at H8;obtain⟨R,hR⟩:∃R,R=Y8 V l:=⟨_,rfl⟩
 rw[<-hR];have HR:=ak (show R=if S2=false then ⟨1,0,0,0,0,false⟩ else if S4=true then ⟨2,0,0,0,0,false⟩ else if S3=true then ⟨3,0,0,0,0,false⟩ else ⟨4,Kw V l,D,F,C,A⟩ by rw[hR,hS2,hS4,hS3,hA,hD,hF,hC];rfl);clear hv hx0 Zj HGT hS2 hS4 hS3 hA hD hF hC hR;obtain⟨wa,dW⟩:∃wa,wa=(w.alloc (.cells #[.slice sa sn sc] 24)).alloc (.cells #[.int .i64 0,.int .i64 0,.int .i64 0,.int .i64 0,.int .i64 0,.bool false] 29):=⟨_,rfl⟩
 have fE:=ak (show Ext w wa by rw[dW];exact((Ext.refl _).alloc _).alloc _);have HA3:=ak (show wa.heap[w.heap.size]?=some (.cells #[.slice sa sn sc] 24 (0,0)) by rw[dW];exact dJ (dG w _));have HA6:=ak (show wa.heap[w.heap.size+1]?=some (KA ⟨0,0,0,0,0,false⟩) by rw[dW];exact alloc_at (by simp));obtain⟨b3,hb3⟩:∃b3,b3=w.heap.size:=⟨_,rfl⟩
 have HB3:=ak hb3;have hlw:w.heap.size<=b3:=by omega
 obtain⟨s0,sf⟩:=gQ HA3.o;go_enter Tryz.func36,Tryz.ntmps36
 go_upto_region 1 with fail
 rw[<-dW,<-hb3];rw[<-hb3] at HA3 HA6 s0;clear dW hb3;go_wp2_with fail
 refine(H2.o wa fE.o).mono ?_;rintro r w1 ⟨rfl,hx1⟩;have fQ:=ak (fE.o.trans hx1);have H13:=ak (hx1.blk HA3.o);have H16:=ak (hx1.blk HA6.o);clear hx1 s0 sf HA3 HA6 H2;obtain⟨s0,sf⟩:=gQ H13.o;cases S2
 case false =>
  have HQ:=ak (show R=⟨1,0,0,0,0,false⟩ by rw[HR.o];simp);have hz:=H16.o;unfold KA Dec.cells at hz;obtain⟨z0,z1,z2,z3,z4,z5,zf⟩:=gJ hz;go_wp2_with fail
  obtain⟨w8,hw8⟩:∃w8,w8=jE w1 (b3+1) (.int .i64 1) (.int .i64 0) (.int .i64 0) (.int .i64 0) (.int .i64 0) (.bool false):=⟨_,rfl⟩
  have rD:=ak (show Ext w w8 by rw[hw8];exact(iY _ _).ext fQ.o (by simp;omega));have h8:w8.heap[b3+1]?=some (.cells #[.int .i64 1,.int .i64 0,.int .i64 0,.int .i64 0,.int .i64 0,.bool false] 29 (0,0)):=by rw[hw8];exact jv hz
  unfold jE at hw8;rw[<-hw8];clear hw8 z0 z1 z2 z3 z4 z5 zf hz;obtain⟨z0,z1,z2,z3,z4,z5,zf⟩:=gJ h8;refine bodyPost_ret (v:=.agg R.cells) (by rw[HQ.o];simp[results,Tryz.results36,go_sem,Dec.cells,z0,z1,z2,z3,z4,z5]) rfl ?_;exact⟨rfl,rD.o⟩
 go_wp2_with fail
 refine(H4.o w1 fQ.o).mono ?_;rintro r w2 ⟨rfl,hx2⟩;have gI:=ak (fQ.o.trans hx2);have H23:=ak (hx2.blk H13.o);have H26:=ak (hx2.blk H16.o);clear hx2 s0 sf H4 H13 H16;obtain⟨s0,sf⟩:=gQ H23.o;cases S4
 case true =>
  have HQ:=ak (show R=⟨2,0,0,0,0,false⟩ by rw[HR.o];simp);have hz:=H26.o;unfold KA Dec.cells at hz;obtain⟨z0,z1,z2,z3,z4,z5,zf⟩:=gJ hz;go_wp2_with fail
  obtain⟨w8,hw8⟩:∃w8,w8=jE w2 (b3+1) (.int .i64 2) (.int .i64 0) (.int .i64 0) (.int .i64 0) (.int .i64 0) (.bool false):=⟨_,rfl⟩
  have rD:=ak (show Ext w w8 by rw[hw8];exact(iY _ _).ext gI.o (by simp;omega));have h8:w8.heap[b3+1]?=some (.cells #[.int .i64 2,.int .i64 0,.int .i64 0,.int .i64 0,.int .i64 0,.bool false] 29 (0,0)):=by rw[hw8];exact jv hz
  unfold jE at hw8;rw[<-hw8];clear hw8 z0 z1 z2 z3 z4 z5 zf hz;obtain⟨z0,z1,z2,z3,z4,z5,zf⟩:=gJ h8;refine bodyPost_ret (v:=.agg R.cells) (by rw[HQ.o];simp[results,Tryz.results36,go_sem,Dec.cells,z0,z1,z2,z3,z4,z5]) rfl ?_;exact⟨rfl,rD.o⟩
 go_wp2_with fail
 refine(H3.o w2 gI.o).mono ?_;rintro r w3 ⟨rfl,hx3⟩;have gU:=ak (gI.o.trans hx3);have H33:=ak (hx3.blk H23.o);have H36:=ak (hx3.blk H26.o);clear hx3 s0 sf H3 H23 H26;obtain⟨s0,sf⟩:=gQ H33.o;cases S3
 case true =>
  have HQ:=ak (show R=⟨3,0,0,0,0,false⟩ by rw[HR.o];simp);have hz:=H36.o;unfold KA Dec.cells at hz;obtain⟨z0,z1,z2,z3,z4,z5,zf⟩:=gJ hz;go_wp2_with fail
  obtain⟨w8,hw8⟩:∃w8,w8=jE w3 (b3+1) (.int .i64 3) (.int .i64 0) (.int .i64 0) (.int .i64 0) (.int .i64 0) (.bool false):=⟨_,rfl⟩
  have rD:=ak (show Ext w w8 by rw[hw8];exact(iY _ _).ext gU.o (by simp;omega));have h8:w8.heap[b3+1]?=some (.cells #[.int .i64 3,.int .i64 0,.int .i64 0,.int .i64 0,.int .i64 0,.bool false] 29 (0,0)):=by rw[hw8];exact jv hz
  unfold jE at hw8;rw[<-hw8];clear hw8 z0 z1 z2 z3 z4 z5 zf hz;obtain⟨z0,z1,z2,z3,z4,z5,zf⟩:=gJ h8;refine bodyPost_ret (v:=.agg R.cells) (by rw[HQ.o];simp[results,Tryz.results36,go_sem,Dec.cells,z0,z1,z2,z3,z4,z5]) rfl ?_;exact⟨rfl,rD.o⟩
 have HRR:=ak (show R=⟨4,Kw V l,D,F,C,A⟩ by rw[HR.o];simp);clear HR;go_upto_region 7 with fail
 have S0:=dI s0;refine rC 18 ?_
 repeat (refine dQ ?_;intro K hK;go_big_quiet_op;go_big_quiet_on)
 refine tu (fun W hW=>H6.o W (gU.o.trans hW)) ?_;intro K hK;go_simp;go_big_quiet_on
 repeat (refine dQ ?_;intro K hK;go_big_quiet_op;go_big_quiet_on)
 refine tu (fun W hW=>H7.o W (gU.o.trans hW)) ?_;intro K hK;go_simp;go_big_quiet_on
 repeat (refine dQ ?_;intro K hK;go_big_quiet_op;go_big_quiet_on)
 refine tu (fun W hW=>H8.o W (gU.o.trans hW)) ?_;intro K hK;go_simp;go_big_quiet_on
 repeat (refine dQ ?_;intro K hK;go_big_quiet_op;go_big_quiet_on)
 refine tu (fun W hW=>H9.o W (gU.o.trans hW)) ?_;intro K hK;go_simp;go_big_quiet_on
 repeat (refine dQ ?_;intro K hK;go_big_quiet_op;go_big_quiet_on)
 refine FZ (fun g=>.pointer (some ⟨g,0,none⟩)) (fun g W=>W.heap[g]?=some (KA ⟨0,0,0,0,0,false⟩)/\w3.heap.size<=g) (fun W hW=>?_) (fun g W W' h k=>⟨h.blk k.1,k.2⟩) ?_
 ·unfold dF;go_simp;exact⟨(Ext.refl W).alloc _,W.heap.size,rfl,dG W _,hW.size⟩
 intro y7 K hK;go_simp;go_big_quiet_on;refine zL fun W hW2 _ aHo=>?_
 have anY:=ak aHo.2;clear aHo S0;have hz7:=anY.o.1;unfold KA Dec.cells at hz7;obtain⟨z0,z1,z2,z3,z4,z5,zf⟩:=gJ hz7;have hlz:=dH hz7;go_upto_region 8 with fail
 obtain⟨w4,hw4⟩:∃w4,w4=jE W y7 (.int .i64 4) (.int .i64 (-1)) (.int .i64 D) (.int .i64 F) (.int .i64 C) (.bool A):=⟨_,rfl⟩
 have lN:=ak (show Ext w3 w4 by rw[hw4];exact(iY _ _).ext hW2 (by simp;exact anY.o.2));have H47:=ak (show w4.heap[y7]?=some (KA ⟨4,Kw V (l.take 0),D,F,C,A⟩) by rw[hw4];exact jv hz7);unfold jE at hw4;rw[<-hw4];clear hw4 hW2 hz7 z0 z1 z2 z3 z4 z5 zf hlz s0 sf H6 H7 H8 H9;go_wp2_with fail
 go_loopw [8] (VrL V l n y7 D F C A w3) (fun i _=>n - (intOf i).toNat)
 case atStart=>exact⟨0,rfl,Nat.zero_le _,H47.o,lN.o⟩
 case round =>
  obtain⟨k,rfl,hk,hb,hx⟩:=hrel;obtain⟨wo,rfl⟩:∃wo:World,wo=wr:=⟨_,rfl⟩
  have HX:=ak hx;have HB:=ak hb;obtain⟨s0,sf⟩:=gQ (hx.blk H33.o);have hzz:=hb;unfold KA Dec.cells at hzz;obtain⟨d0,d1,d2,d3,d4,d5,df⟩:=gJ hzz;have hlz:=dH hzz;clear hx hb;by_cases hkn:k<n
  ·have hkl:k<l.length:=by have:=HN.o;omega
   have t1:=ah ((k:Int)<(n:Int));have tk0:(0:Int)<=(k:Int):=by omega
   have tk1:(k:Int)<(n:Int):=by omega
   obtain⟨b,off,v,rfl,hcl,hrow⟩:=(HC.o.ext (HX0.o.trans (gU.o.trans HX.o))).at hkl;obtain⟨c0,c1,c2,c3,c4,c5,c6,c7,c8,c9⟩:=hrow.ten;have hvk:v.kind=l[k].kind:=hcl.1;have hva:v.amount=l[k].amount:=hcl.2.2.2.2.2.2.2;have xJ:=ak (fun W (hW:Ext wo W)=>Zp.o k hkl v W ((gU.o.trans HX.o).trans hW) (hcl.mono hW.sub));have HST:=ak (aDl V hkl);obtain⟨M,hM⟩:∃M,M=Kw V (l.take k):=⟨_,rfl⟩
   rw[<-hM] at HST HB d1 hzz;dsimp only at d1 hzz;have Yl:=ak (show Kw V (l.take (k+1))=if (v.kind==5&&oK V l[k]&&(decide (M<0)||decide (v.amount<M)))=true then v.amount else M by rw[HST.o,VP,hvk,hva]);obtain⟨Q,hQ⟩:∃Q,Q=oK V l[k]:=⟨_,rfl⟩
   rw[<-hQ] at xJ Yl;have HZZ:=ak hzz;clear hrow hcl hvk hva hQ Zp hM HST hzz;cases hq:(v.kind==5)
   ·have HQ:=ak (show Kw V (l.take (k+1))=M by rw[Yl.o,hq];rfl);go_wp2_with fail
    go_quiet (fail)
    go_wp2_with fail
    go_roundw
    case rel=>exact⟨k+1,by go_num,by omega,by rw[HQ.o];exact HB.o,HX.o.drewN _⟩
    case measure=>simp[intOf];omega
   cases Q
   ·have HQ:=ak (show Kw V (l.take (k+1))=M by rw[Yl.o,hq];rfl);go_upto_region 11 with fail
    have C0:=dI c0;have C1:=dI c1;have C2:=dI c2;have C3:=dI c3;have C4:=dI c4;have C5:=dI c5;have C6:=dI c6;have C7:=dI c7;have C8:=dI c8;have C9:=dI c9;have D1:=dI d1;have S0:=dI s0;refine rC 31 ?_
    repeat (refine dQ ?_;intro K hK;go_big_quiet_op;go_big_quiet_on)
    refine tu (fun W hW=>xJ.o W hW) ?_;intro K hK;go_simp;go_big_quiet_on
    repeat first|(refine dQ ?_;intro K hK;go_big_quiet_op;go_big_quiet_on)|(refine WB ?_;intro K hK;go_simp;go_big_quiet_on)
    refine lH fun W hW2 _ _=>?_
    clear C0 C1 C2 C3 C4 C5 C6 C7 C8 C9 D1 S0;go_wp2_with fail
    go_roundw
    case rel=>exact⟨k+1,by go_num,by omega,by rw[HQ.o];exact hW2.blk HB.o,HX.o.trans hW2⟩
    case measure=>simp[intOf];omega
   by_cases hm:M<0
   ·have HQ:=ak (show Kw V (l.take (k+1))=v.amount by rw[Yl.o,hq,dB hm];rfl);have tm:=ah (M<0) hm;clear hm;go_upto_region 11 with fail
    have C0:=dI c0;have C1:=dI c1;have C2:=dI c2;have C3:=dI c3;have C4:=dI c4;have C5:=dI c5;have C6:=dI c6;have C7:=dI c7;have C8:=dI c8;have C9:=dI c9;have D1:=dI d1;have S0:=dI s0;refine rC 31 ?_
    repeat (refine dQ ?_;intro K hK;go_big_quiet_op;go_big_quiet_on)
    refine tu (fun W hW=>xJ.o W hW) ?_;intro K hK;go_simp;go_big_quiet_on
    repeat first|(refine dQ ?_;intro K hK;go_big_quiet_op;go_big_quiet_on)|(refine WB ?_;intro K hK;go_simp;go_big_quiet_on)
    refine lH fun W hW2 _ _=>?_
    clear C0 C1 C2 C3 C4 C5 C6 C7 C8 C9 D1 S0;have e9:=hW2.cell c9;have HZ2:=ak (hW2.blk HZZ.o);obtain⟨g0,g1,g2,g3,g4,g5,gf⟩:=gJ HZ2.o;have a0a:=dH HZ2.o;have HW2:=ak hW2;clear hW2;go_wp2_with fail
    go_roundw
    case rel=>exact⟨k+1,by go_num,by omega,by rw[HQ.o];exact aO _ _ 1 _ _ _ HZ2.o,Ext.jl (HX.o.trans HW2.o) anY.o.2 _⟩
    case measure=>simp[intOf];omega
   have tm:=aj (M<0) hm;cases ha:decide (v.amount<M)
   ·have HQ:=ak (show Kw V (l.take (k+1))=M by rw[Yl.o,hq,tm,ha];rfl);clear hm;go_upto_region 11 with fail
    have C0:=dI c0;have C1:=dI c1;have C2:=dI c2;have C3:=dI c3;have C4:=dI c4;have C5:=dI c5;have C6:=dI c6;have C7:=dI c7;have C8:=dI c8;have C9:=dI c9;have D1:=dI d1;have S0:=dI s0;refine rC 31 ?_
    repeat (refine dQ ?_;intro K hK;go_big_quiet_op;go_big_quiet_on)
    refine tu (fun W hW=>xJ.o W hW) ?_;intro K hK;go_simp;go_big_quiet_on
    repeat first|(refine dQ ?_;intro K hK;go_big_quiet_op;go_big_quiet_on)|(refine WB ?_;intro K hK;go_simp;go_big_quiet_on)
    refine lH fun W hW2 _ _=>?_
    clear C0 C1 C2 C3 C4 C5 C6 C7 C8 C9 D1 S0;go_wp2_with fail
    go_roundw
    case rel=>exact⟨k+1,by go_num,by omega,by rw[HQ.o];exact hW2.blk HB.o,HX.o.trans hW2⟩
    case measure=>simp[intOf];omega
   have HQ:=ak (show Kw V (l.take (k+1))=v.amount by rw[Yl.o,hq,tm,ha];rfl);clear hm;go_upto_region 11 with fail
   have C0:=dI c0;have C1:=dI c1;have C2:=dI c2;have C3:=dI c3;have C4:=dI c4;have C5:=dI c5;have C6:=dI c6;have C7:=dI c7;have C8:=dI c8;have C9:=dI c9;have D1:=dI d1;have S0:=dI s0;refine rC 31 ?_
   repeat (refine dQ ?_;intro K hK;go_big_quiet_op;go_big_quiet_on)
   refine tu (fun W hW=>xJ.o W hW) ?_;intro K hK;go_simp;go_big_quiet_on
   repeat first|(refine dQ ?_;intro K hK;go_big_quiet_op;go_big_quiet_on)|(refine WB ?_;intro K hK;go_simp;go_big_quiet_on)
   refine lH fun W hW2 _ _=>?_
   clear C0 C1 C2 C3 C4 C5 C6 C7 C8 C9 D1 S0;have e9:=hW2.cell c9;have HZ2:=ak (hW2.blk HZZ.o);obtain⟨g0,g1,g2,g3,g4,g5,gf⟩:=gJ HZ2.o;have a0a:=dH HZ2.o;have HW2:=ak hW2;clear hW2;go_wp2_with fail
   go_roundw
   case rel=>exact⟨k+1,by go_num,by omega,by rw[HQ.o];exact aO _ _ 1 _ _ _ HZ2.o,Ext.jl (HX.o.trans HW2.o) anY.o.2 _⟩
   case measure=>simp[intOf];omega
  have t1:=aj ((k:Int)<(n:Int));have HQ:=ak (show R=⟨4,Kw V (l.take k),D,F,C,A⟩ by rw[HRR.o,aY (by have:=HN.o;omega)]);obtain⟨M,hM⟩:∃M,M=Kw V (l.take k):=⟨_,rfl⟩
  rw[<-hM] at HQ d1;dsimp only at d1;have hz:=HX.o.blk H36.o;unfold KA Dec.cells at hz;obtain⟨z0,z1,z2,z3,z4,z5,zf⟩:=gJ hz;clear hzz hM;go_wp2_with fail
  obtain⟨w8,hw8⟩:∃w8,w8=jE wo (b3+1) (.int .i64 4) (.int .i64 M) (.int .i64 D) (.int .i64 F) (.int .i64 C) (.bool A):=⟨_,rfl⟩
  have rD:=ak (show Ext w w8 by rw[hw8];exact(iY _ _).ext (gU.o.trans HX.o) (by simp;omega));have h8:w8.heap[b3+1]?=some (.cells #[.int .i64 4,.int .i64 M,.int .i64 D,.int .i64 F,.int .i64 C,.bool A] 29 (0,0)):=by rw[hw8];exact jv hz
  unfold jE at hw8;rw[<-hw8];clear hw8 z0 z1 z2 z3 z4 z5 zf hz;obtain⟨z0,z1,z2,z3,z4,z5,zf⟩:=gJ h8;refine bodyPost_ret (v:=.agg R.cells) (by rw[HQ.o];simp[results,Tryz.results36,go_sem,Dec.cells,z0,z1,z2,z3,z4,z5]) rfl ?_;exact⟨rfl,rD.o⟩
def valsOf (s:List Attr) (l:List dY) (f:ZI) (g:Nat):BA->Option Bool:=fun x=>(fG l x).map fun d=>l7 s l f g (l.getD d iT).cond
theorem aqw (s:List Attr) (l:List dY) (f:ZI) (g:Nat) (e:Ex):l7 s l f (g+1) e=uo s f (valsOf s l f g) e:=rfl
def aQ4 (s:List Attr) (f:ZI) (V:BA->Option Bool) (args:List Ex) (na:Nat) (bs:Nat) (o0 o1:Obj) (w:World) (t i:Value) (wr:World):Prop:=∃k q:Nat,i=.int .i64 k/\t=.int .i64 q/\k<=na/\q<=k/\(q=k ↔ ∀j (h:j<args.length),j<k->uo s f V args[j]=true)/\wr.heap[bs]?=some o0/\wr.heap[bs+1]?=some o1/\Ext w wr
def aQ5 (s:List Attr) (f:ZI) (V:BA->Option Bool) (args:List Ex) (na:Nat) (bs:Nat) (o0 o1:Obj) (w:World) (i:Value) (wr:World):Prop:=∃k:Nat,i=.int .i64 k/\k<=na/\(∀j (h:j<args.length),j<k->uo s f V args[j]=false)/\wr.heap[bs]?=some o0/\wr.heap[bs+1]?=some o1/\Ext w wr
theorem BN (s:List Attr) (l:List dY) (f:ZI) (hc:Chk s l) (hfa:jq s f=true) (hsf:∀x∈s,x.fits) (a:OA) (n c:Nat) (fa:OA) (fn fc:Nat):∀(g m:Nat) (e:Ex) (ev sv:Value) (w:World),e.size<=m->m<=1000000->jA e->fB s l e=0->mG l g e<=2000->fJ w s sv->eX w l a n c->fC w e ev->fO w f fa fn ->
  Calls Tryz.prog 127 #[sv,.slice a n c,ev,.slice fa fn fc] w (dN (.bool (l7 s l f g e)) w):=by
 intro g;induction g with
 | zero=>intro m e ev sv w _ _ _ _ h;simp[mG] at h
 | succ g ihg =>
  intro m;induction m with
  | zero=>intro e ev sv w h;have:=size_pos e;omega
  | succ m ihm =>
   intro e ev sv w hm YJ hok hnd hex hs hl he hi;have Ns:=agx hok hnd;obtain⟨-,Zd⟩:=Bv hnd;obtain⟨ald,Zc⟩:=kP hok;have Ze:=Rn (D:=Zu l g) (e:=e) (by rw[<-mW];exact hex);have aaL:=XW (D:=Zu l g) (e:=e) (by rw[<-mW];exact hex);obtain⟨sa,sn,sc,rfl,hsn⟩:=hs.slice;obtain⟨aw,nw,cw,aa,na,ca,rfl,hw,hna,hca,ha,hx⟩:=he.parts;have hS:e.size=1+sizes e.args:=e.size_eq;have hla:=iI e.args;obtain⟨op,name,words,lo,hi',args⟩:=e;simp only[Ex.op,Ex.name,Ex.words,Ex.lo,Ex.hi,Ex.args] at *;have Q9:na<=1000000:=by omega
   have aHm:sizes args<=m:=by omega
   obtain⟨R,hR⟩:∃R,R=l7 s l f (g+1) (.mk op name words lo hi' args):=⟨_,rfl⟩
   rw[<-hR];rw[aqw,uo] at hR;have HR:=ak hR;have aDx:=(kN hc.DK).2.1;have aUm:sn<=6:=by omega
   have hln:=hl.len;have aHt:n<=100:=by rw[hln];exact hc.len
   have RY:=ak hsn;have Bg:=ak hln;have HC:=ak hc;have Gh:=ak hfa;have HSF:=ak hsf;have HS:=ak hs;have HL:=ak hl;have HX:=ak hx;have HW:=ak hw;have HI:=ak hi;have nK:=ak hna;have qx:=ak (fun (j:Nat) (hj:j<args.length) (xv:Value) (W:World) (hW:Ext w W) (hxv:fC W args[j] xv)=>ihm args[j] xv (.agg #[.slice sa sn sc]) W (by have h1:=iq args j hj;have h2:=gV args (j+1);omega) (by omega) (Zc _ (aI hj)) (Zd j hj) (by rw[mW];exact Ze j hj) (hs.ext hW) (hl.ext hW) hxv (hi.ext hW));have Jb:=ak (fun (h3:op=3) (d:Nat) (hd:fG l name=some d) (xv:Value) (W:World) (hW:Ext w W) (hxv:fC W (l.getD d iT).cond xv)=>ihg 300 (l.getD d iT).cond xv (.agg #[.slice sa sn sc]) W (hc.cond (lG hd).1).2.2 (by omega) (hc.cond (lG hd).1).1 (hc.cond (lG hd).1).2.1 (aaL h3 (by unfold Zu;rw[hd];rfl)) (hs.ext hW) (hl.ext hW) hxv (hi.ext hW));have HWD:=ak (show op=4->words.length<=12 from fun h4=>by
    rcases ald with ⟨h1,-⟩|⟨h1,-⟩|⟨h1,-⟩|⟨h1,-,h2,-⟩|⟨h1,-⟩|⟨h1,-⟩|⟨h1,-⟩<;>simp only[Ex.op] at h1
    all_goals first|omega|skip
    simp only[Ex.words,uN,aJ] at h2;exact of_decide_eq_true h2.1.1.2)
   clear hc hfa hsf hs hl hx hw hi hna hca ha hS hla ihg ihm hm Zd Zc Ze aaL ald hok hnd hex he hsn hln aDx hR;unfold exV;obtain⟨wa,dW⟩:∃wa,wa=(w.alloc (.cells #[.slice sa sn sc] 24)).alloc (.cells #[.int .i64 op,.string name,.slice aw nw cw,.int .i64 lo,.int .i64 hi',.slice aa na ca] 45):=⟨_,rfl⟩
   have hxa:Ext w wa:=by rw[dW];exact((Ext.refl _).alloc _).alloc _
   have hb0:wa.heap[w.heap.size]?=some (.cells #[.slice sa sn sc] 24 (0,0)):=by rw[dW];exact dJ (dG w _)
   have hb1:wa.heap[w.heap.size+1]?=some (.cells #[.int .i64 op,.string name,.slice aw nw cw,.int .i64 lo,.int .i64 hi',.slice aa na ca] 45 (0,0)):=by rw[dW];exact eH (by simp)
   have fE:=ak hxa;have HB0:=ak hb0;have HB1:=ak hb1;obtain⟨f0,f1,f2,f3,f4,f5,ff⟩:=eP hb1;obtain⟨e0,ef⟩:=gQ hb0;have nP:=dH hb1;have yD:=ak (Fz s _ name wa (HS.o.ext hxa) (by have:=RY.o;omega));clear hxa hb0 hb1;rcases Ns with rfl|rfl|⟨rfl,i,hat,hkd⟩|⟨rfl,hat,d,hdf⟩|⟨rfl,i,hat,hkd⟩|⟨rfl,i,hat,hkd⟩|⟨rfl,hl1⟩|rfl|rfl
   ·have HQ:=ak (show R=true by rw[HR.o];simp[yZ]);go_enter Tryz.func127,Tryz.ntmps127
    go_upto_region 1 with fail
    rw[<-dW];clear dW;go_wp2_with fail
    refine yD.o.mono ?_;rintro r w1 ⟨rfl,hx1⟩;have fQ:=ak (fE.o.trans hx1);unfold yw;clear f0 f1 f2 f3 f4 f5 ff e0 ef nP;obtain⟨f0,f1,f2,f3,f4,f5,ff⟩:=eP (hx1.blk HB1.o);clear hx1;go_wp2_with fail
    go_ret;exact dL (by rw[HQ.o]) fQ.o
   ·have HQ:=ak (show R=false by rw[HR.o];simp[yZ]);go_enter Tryz.func127,Tryz.ntmps127
    go_upto_region 1 with fail
    rw[<-dW];clear dW;go_wp2_with fail
    refine yD.o.mono ?_;rintro r w1 ⟨rfl,hx1⟩;have fQ:=ak (fE.o.trans hx1);unfold yw;clear f0 f1 f2 f3 f4 f5 ff e0 ef nP;obtain⟨f0,f1,f2,f3,f4,f5,ff⟩:=eP (hx1.blk HB1.o);clear hx1;go_wp2_with fail
    go_ret;exact dL (by rw[HQ.o]) fQ.o
   ·obtain⟨his,-⟩:=Qj hat;obtain⟨hif,hlo2,hhi2⟩:=abR Gh.o his;obtain⟨fb,fo,rfl,hcell⟩:=HI.o.2 i hif;obtain⟨z,hz⟩:∃z,z=f[i]:=⟨_,rfl⟩
    rw[<-hz] at hcell;have hdn:fG l name=none:=by
     cases hd:fG l name with
     | none=>rfl
     | some d=>rw[HC.o.apart hd] at hat;cases hat
    have HQ:=ak (show R=(z==1) by
     rw[HR.o];simp only[yZ,valsOf,hdn,hat];rw[bW];simp[hif,<-hz])
    have hin:i<fn:=by rw[HI.o.1];exact hif
    have HCF:=ak hcell;rw[hat,rY] at yD;clear hat hkd his hif hlo2 hhi2 hcell hz hdn;go_enter Tryz.func127,Tryz.ntmps127
    go_upto_region 1 with fail
    rw[<-dW];clear dW;go_wp2_with fail
    refine yD.o.mono ?_;rintro r w1 ⟨rfl,hx1⟩;have fQ:=ak (fE.o.trans hx1);clear f0 f1 f2 f3 f4 f5 ff e0 ef nP;obtain⟨f0,f1,f2,f3,f4,f5,ff⟩:=eP (hx1.blk HB1.o);have hcf:=fQ.o.cell HCF.o;clear hx1;go_wp2_with fail
    go_ret;exact dL (by rw[HQ.o]) fQ.o
   ·have hdl:=(lG hdf).1;have HQ:=ak (show R=l7 s l f g (l.getD d iT).cond by
     rw[HR.o];rw[dh (by decide),dh (by decide),dh (by decide),dw rfl,valsOf,hdf];rfl)
    have hdn:d<n:=by rw[Bg.o];exact hdl
    have HDC:=ak (fun W (hW:Ext w W)=>BP l a n c name W (HL.o.ext hW) (by omega));rw[hdf] at HDC;obtain⟨cb,oZ,v,rfl,jr,hrow⟩:=HL.o.at hdl;have HRW:=ak hrow;have Us:=ak (show fC w (l.getD d iT).cond v.x.val by rw[vY hdl];exact jr.2.2.1);have HDF:=ak (Jb.o rfl d hdf);obtain⟨V,hV⟩:∃V,V=l7 s l f g (l.getD d iT).cond:=⟨_,rfl⟩
    rw[<-hV] at HQ HDF;rw[hat,FI] at yD;clear hV hat hdf hdl jr hrow Jb qx;go_enter Tryz.func127,Tryz.ntmps127
    go_upto_region 1 with fail
    rw[<-dW];clear dW;go_wp2_with fail
    refine yD.o.mono ?_;rintro r w1 ⟨rfl,hx1⟩;have fQ:=ak (fE.o.trans hx1);have uh:=ak (hx1.blk HB1.o);have abl:=ak (hx1.blk HB0.o);clear f0 f1 f2 f3 f4 f5 ff e0 ef nP;obtain⟨f0,f1,f2,f3,f4,f5,ff⟩:=eP uh.o;clear hx1;go_wp2_with fail
    refine(HDC.o w1 fQ.o).mono ?_;rintro r w2 ⟨rfl,rfl⟩;rw[rY];obtain⟨e0,ef⟩:=gQ abl.o;obtain⟨c0,c1,c2,c3,c4,c5,c6,c7,c8,c9⟩:=(HRW.o.mono fQ.o.sub).ten;go_wp2_with fail
    go_still_tail 8,(by kernel_rfl)
    change wpList _ _ _ _ _ w1.drew
    have hx2:Ext w1 w1.drew:=(Ext.refl w1).drew;generalize w1.drew=w2 at hx2 ⊢;have gI:=ak (fQ.o.trans hx2);clear hx2 c0 c1 c2 c3 c4 c5 c6 c7 c8 c9 f0 f1 f2 f3 f4 f5 ff e0 ef;have HDG:=ak (HDF.o v.x.val w2 gI.o (Us.o.ext gI.o));unfold fU.val exV at HDG;go_wp2_with fail
    refine HDG.o.mono ?_;rintro r w3 ⟨rfl,hx3⟩;have gU:=ak (gI.o.trans hx3);clear hx3;go_wp2_with fail
    go_ret;exact dL (by rw[HQ.o]) gU.o
   ·obtain⟨his,-⟩:=Qj hat;obtain⟨hif,hlo2,hhi2⟩:=abR Gh.o his;have azC:s[i].kind=1:=by rw[<-hkd];simp[his]
    have hdm:DU s[i]=(0,(s[i].words.length:Int) - 1):=by unfold DU;rw[dw azC]
    rw[hdm] at hlo2 hhi2;simp only at hlo2 hhi2;obtain⟨ab,ao,rfl,hA⟩:∃ab ao,sa=some ⟨ab,ao,none⟩/\Yw w s[i] ab (ao+i*5):=by
     obtain⟨xa,xn,xc,e',-,-,-,hq⟩:=HS.o.parts;simp only[Value.agg.injEq,Array.mk.injEq,List.cons.injEq,Value.slice.injEq,and_true] at e';obtain⟨rfl,rfl,rfl⟩:=e';exact hq i his
    obtain⟨x1,hx1⟩:∃x1,x1=s[i]:=⟨_,rfl⟩
    rw[<-hx1] at hA azC hhi2;obtain⟨bw,nwa,cwa,hstr,aaK⟩:=hA.five;have H5:=ak aaK;obtain⟨fb,fo,rfl,hcell⟩:=HI.o.2 i hif;obtain⟨z,hz⟩:∃z:Nat,f[i]=(z:Int):=⟨f[i].toNat,by omega⟩
    rw[hz] at hcell hlo2 hhi2;have hzw:z<x1.words.length:=by omega
    obtain⟨wb,wo,rfl,hwc⟩:=hstr.2.2.2 z hzw;have HWC:=ak hwc;have hzn:z<nwa:=by rw[hstr.1];exact hzw
    have HQ:=ak (show R=words.any (fun y=>decide (y=x1.words[z])) by
     rw[HR.o];simp only[yZ,hat];rw[dh (by decide),dh (by decide),dh (by decide),dh (by decide),dh (by decide),dh (by decide),dw (by decide)];simp[his,hif,hz,<-hx1,hzw])
    have hin:i<fn:=by rw[HI.o.1];exact hif
    have a0k:i<sn:=by rw[RY.o];exact his
    have HCF:=ak hcell;have HWI:=ak (fun W (hW:Ext w W)=>UF words aw nw cw x1.words[z] W (HW.o.ext hW) (by have:=HWD.o rfl;rw[HW.o.1];omega));rw[hat,rY] at yD;obtain⟨x,hxx⟩:∃x,x=x1.words[z]:=⟨_,rfl⟩
    rw[<-hxx] at HWC HQ HWI;clear hx1 hat hkd his hif hlo2 hhi2 hcell hz azC hdm hA hstr aaK hwc hzw hxx qx Jb;go_enter Tryz.func127,Tryz.ntmps127
    go_upto_region 1 with fail
    rw[<-dW];clear dW;go_wp2_with fail
    refine yD.o.mono ?_;rintro r w1 ⟨rfl,hx1⟩;have fQ:=ak (fE.o.trans hx1);clear f0 f1 f2 f3 f4 f5 ff e0 ef nP;obtain⟨f0,f1,f2,f3,f4,f5,ff⟩:=eP (hx1.blk HB1.o);obtain⟨e0,ef⟩:=gQ (hx1.blk HB0.o);have hcf:=fQ.o.cell HCF.o;have hwf:=fQ.o.cell HWC.o;obtain⟨g0,g1,g2,g3,g4⟩:=H5.o w1 fQ.o;clear hx1;go_wp2_with fail
    go_still_tail 14,(by kernel_rfl)
    change wpList _ _ _ _ _ w1.drew
    have hx2:Ext w1 w1.drew:=(Ext.refl w1).drew;generalize w1.drew=w2 at hx2 ⊢;have gI:=ak (fQ.o.trans hx2);clear hx2 f0 f1 f2 f3 f4 f5 ff e0 ef hcf hwf g0 g1 g2 g3 g4;go_wp2_with fail
    refine(HWI.o w2 gI.o).mono ?_;rintro r w3 ⟨rfl,rfl⟩;go_wp2_with fail
    go_ret;exact dL (by rw[HQ.o]) gI.o
   ·obtain⟨his,-⟩:=Qj hat;obtain⟨hif,-,-⟩:=abR Gh.o his;obtain⟨fb,fo,rfl,hcell⟩:=HI.o.2 i hif;obtain⟨z,hz⟩:∃z,z=f[i]:=⟨_,rfl⟩
    rw[<-hz] at hcell;have HQ:=ak (show R=(decide (lo<=z)&&decide (z<=hi')) by
     rw[HR.o];simp only[yZ,hat];rw[dh (by decide),dh (by decide),dh (by decide),dh (by decide),dh (by decide),dh (by decide),dh (by decide),dw (by decide)];simp[hif,<-hz])
    have hin:i<fn:=by rw[HI.o.1];exact hif
    have HCF:=ak hcell;rw[hat,rY] at yD;clear hat hkd his hif hcell hz qx Jb;have hw4:(decide (lo<=z)=true/\decide (z<=hi')=true/\R=true)\/(decide (lo<=z)=true/\decide (z<=hi')=false/\R=false)\/(decide (lo<=z)=false/\R=false):=by
     rw[HQ.o];cases decide (lo<=z)<;>cases decide (z<=hi')<;>simp
    rcases hw4 with ⟨t1,t2,hf⟩|⟨t1,t2,hf⟩|⟨t1,hf⟩
    all_goals
     have HF:=ak hf;clear hf;go_enter Tryz.func127,Tryz.ntmps127
     go_upto_region 1 with fail
     rw[<-dW];clear dW;go_wp2_with fail
     refine yD.o.mono ?_;rintro r w1 ⟨rfl,hx1⟩;have fQ:=ak (fE.o.trans hx1);clear f0 f1 f2 f3 f4 f5 ff e0 ef nP;obtain⟨f0,f1,f2,f3,f4,f5,ff⟩:=eP (hx1.blk HB1.o);have hcf:=fQ.o.cell HCF.o;clear hx1;go_wp2_with fail
     go_quiet (fail)
     go_wp2_with fail
     go_ret;exact dL (by rw[HF.o]) (fQ.o.drewN _)
   ·have hj:0<args.length:=by omega
    have HQ:=ak (show R=!(l7 s l f (g+1) args[0]) by
     rw[HR.o,dw rfl,ai',aZ hj];rfl)
    have hnp:0<na:=by have:=nK.o;omega
    have HXJ:=ak (fun W (hW:Ext w W)=>iK.at args _ (iK.ext hW args _ HX.o) 0 hj);have HA0:=ak (qx.o 0 hj);obtain⟨V,hV⟩:∃V,V=l7 s l f (g+1) args[0]:=⟨_,rfl⟩
    rw[<-hV] at HQ HA0;clear hl1 hV qx Jb;go_enter Tryz.func127,Tryz.ntmps127
    go_upto_region 1 with fail
    rw[<-dW];clear dW;go_wp2_with fail
    refine yD.o.mono ?_;rintro r w1 ⟨rfl,hx1⟩;have fQ:=ak (fE.o.trans hx1);unfold yw;clear f0 f1 f2 f3 f4 f5 ff e0 ef nP;obtain⟨f0,f1,f2,f3,f4,f5,ff⟩:=eP (hx1.blk HB1.o);obtain⟨e0,ef⟩:=gQ (hx1.blk HB0.o);obtain⟨b,off,rfl,rJ,rF,rH,rM,rG,ca1,h0,h1,h2,h3,h4,h5,h6⟩:=HXJ.o w1 fQ.o;have H6:=ak h6;simp only[Nat.zero_mul,Nat.add_zero] at h0 h1 h2 h3 h4 h5;clear hx1 h6;go_wp2_with fail
    go_still_tail 7,(by kernel_rfl)
    change wpList _ _ _ _ _ w1.drew
    have hx2:Ext w1 w1.drew:=(Ext.refl w1).drew;generalize w1.drew=w2 at hx2 ⊢;have gI:=ak (fQ.o.trans hx2);have HAX:=ak (HA0.o _ w2 gI.o (H6.o.ext hx2));unfold exV at HAX;clear hx2 f0 f1 f2 f3 f4 f5 ff e0 ef h0 h1 h2 h3 h4 h5;go_wp2_with fail
    refine HAX.o.mono ?_;rintro r w3 ⟨rfl,hx3⟩;have gU:=ak (gI.o.trans hx3);clear hx3;go_wp2_with fail
    go_ret;exact dL (by rw[HQ.o]) gU.o
   ·have HQ:=ak (show R=args.all (uo s f (valsOf s l f g)) by rw[HR.o,dh (by decide),dw rfl,BI]);have HXJ:=ak (fun W (hW:Ext w W)=>iK.at args _ (iK.ext hW args _ HX.o));obtain⟨V,hV⟩:∃V,V=valsOf s l f g:=⟨_,rfl⟩
    rw[<-hV] at HQ;have HAV:=ak (show ∀(j:Nat) (hj:j<args.length) (xv:Value) (W:World),Ext w W->fC W args[j] xv->Calls Tryz.prog 127 #[.agg #[.slice sa sn sc],.slice a n c,xv,.slice fa fn fc] W (dN (.bool (uo s f V args[j])) W) from fun j hj xv W hW hxv=>by rw[hV,<-aqw];exact qx.o j hj xv W hW hxv);clear hV qx Jb;go_enter Tryz.func127,Tryz.ntmps127
    go_upto_region 1 with fail
    rw[<-dW];clear dW;go_wp2_with fail
    refine yD.o.mono ?_;rintro r w1 ⟨rfl,hx1⟩;have fQ:=ak (fE.o.trans hx1);have abl:=ak (hx1.blk HB0.o);have uh:=ak (hx1.blk HB1.o);unfold yw;clear f0 f1 f2 f3 f4 f5 ff e0 ef nP;obtain⟨f0,f1,f2,f3,f4,f5,ff⟩:=eP uh.o;clear hx1;go_wp2_with fail
    clear f0 f1 f2 f3 f4 f5 ff;go_loopw [13,14] (aQ4 s f V args na w.heap.size (.cells #[.slice sa sn sc] 24 (0,0)) (.cells #[.int .i64 7,.string name,.slice aw nw cw,.int .i64 lo,.int .i64 hi',.slice aa na ca] 45 (0,0)) w) (fun _ i _=>na - (intOf i).toNat)
    case atStart=>exact⟨0,0,rfl,rfl,by omega,by omega,⟨fun _ j _ h=>by omega,fun _=>rfl⟩,abl.o,uh.o,fQ.o⟩
    case round =>
     obtain⟨k,q,rfl,rfl,hk,hqk,hall,hb0,hb1,hxr⟩:=hrel;have qE:=ak hall;have aSV:=ak hb0;have aSU:=ak hb1;have kC:=ak hxr;obtain⟨e0,ef⟩:=gQ hb0;obtain⟨f0,f1,f2,f3,f4,f5,ff⟩:=eP hb1;clear hall hb0 hb1 hxr;by_cases hkn:k<na
     ·have hka:k<args.length:=by have:=nK.o;omega
      have t1:=ah ((k:Int)<(na:Int));obtain⟨b,off,rfl,rJ,rF,rH,rM,rG,ca1,h0,h1,h2,h3,h4,h5,h6⟩:=HXJ.o wr kC.o k hka;have H6:=ak h6;have HAK:=ak (HAV.o k hka);obtain⟨B,hB⟩:∃B,B=uo s f V args[k]:=⟨_,rfl⟩
      rw[<-hB] at HAK;have nZ:=ak hB;clear h6 hB;go_wp2_with fail
      go_still_tail 8,(by kernel_rfl)
      change wpList _ _ _ _ _ wr.drew
      have hx2:Ext wr wr.drew:=(Ext.refl wr).drew;generalize wr.drew=w2 at hx2 ⊢;have gI:=ak (kC.o.trans hx2);have amE:=ak (hx2.blk aSV.o);have G9:=ak (hx2.blk aSU.o);have HAX:=ak (HAK.o _ w2 gI.o (H6.o.ext hx2));unfold exV at HAX;clear hx2 f0 f1 f2 f3 f4 f5 ff e0 ef h0 h1 h2 h3 h4 h5;go_wp2_with fail
      refine HAX.o.mono ?_;rintro r w3 ⟨rfl,hx3⟩;have gU:=ak (gI.o.trans hx3);have Bl:=ak (hx3.blk amE.o);have rX:=ak (hx3.blk G9.o);clear hx3;cases B
      ·go_wp2_with fail
       go_roundw
       case rel =>
        refine⟨k+1,q,by go_num,rfl,by omega,by omega,⟨fun h=>by omega,fun h=>?_⟩,Bl.o,rX.o,gU.o⟩;have:=h k hka (by omega);rw[<-nZ.o] at this;cases this
       case measure=>simp[intOf];omega
      go_wp2_with fail
      go_roundw
      case rel =>
       refine⟨k+1,q+1,by go_num,by go_num,by omega,by omega,⟨fun h j hj hjk=>?_,fun h=>?_⟩,Bl.o,rX.o,gU.o⟩
       ·by_cases e:j=k
        ·subst e;exact nZ.o.symm
        exact qE.o.1 (by omega) j hj (by omega)
       have:=qE.o.2 fun j hj hjk=>h j hj (by omega)
       omega
      case measure=>simp[intOf];omega
     have t1:=aj ((k:Int)<(na:Int));have HF:=ak (show R=((q:Int)==(na:Int)) by
      rw[HQ.o,bW,aV];simp only[beq_iff_eq];constructor
      ·intro h;have:=qE.o.2 fun j hj _=>h _ (aI hj)
       omega
      intro h x hx;obtain⟨j,hj,rfl⟩:=bM hx;exact qE.o.1 (by omega) j hj (by have:=nK.o;omega))
     go_wp2_with fail
     go_ret;exact dL (by rw[HF.o]) kC.o
   have HQ:=ak (show R=args.any (uo s f (valsOf s l f g)) by rw[HR.o,dh (by decide),dh (by decide),dw rfl,BH]);have HXJ:=ak (fun W (hW:Ext w W)=>iK.at args _ (iK.ext hW args _ HX.o));obtain⟨V,hV⟩:∃V,V=valsOf s l f g:=⟨_,rfl⟩
   rw[<-hV] at HQ;have HAV:=ak (show ∀(j:Nat) (hj:j<args.length) (xv:Value) (W:World),Ext w W->fC W args[j] xv->Calls Tryz.prog 127 #[.agg #[.slice sa sn sc],.slice a n c,xv,.slice fa fn fc] W (dN (.bool (uo s f V args[j])) W) from fun j hj xv W hW hxv=>by rw[hV,<-aqw];exact qx.o j hj xv W hW hxv);clear hV qx Jb;go_enter Tryz.func127,Tryz.ntmps127
   go_upto_region 1 with fail
   rw[<-dW];clear dW;go_wp2_with fail
   refine yD.o.mono ?_;rintro r w1 ⟨rfl,hx1⟩;have fQ:=ak (fE.o.trans hx1);have abl:=ak (hx1.blk HB0.o);have uh:=ak (hx1.blk HB1.o);unfold yw;clear f0 f1 f2 f3 f4 f5 ff e0 ef nP;obtain⟨f0,f1,f2,f3,f4,f5,ff⟩:=eP uh.o;clear hx1;go_wp2_with fail
   clear f0 f1 f2 f3 f4 f5 ff;go_loopw [15] (aQ5 s f V args na w.heap.size (.cells #[.slice sa sn sc] 24 (0,0)) (.cells #[.int .i64 8,.string name,.slice aw nw cw,.int .i64 lo,.int .i64 hi',.slice aa na ca] 45 (0,0)) w) (fun i _=>na - (intOf i).toNat)
   case atStart=>exact⟨0,rfl,by omega,fun j _ h=>by omega,abl.o,uh.o,fQ.o⟩
   case round =>
    obtain⟨k,rfl,hk,hall,hb0,hb1,hxr⟩:=hrel;have qE:=ak hall;have aSV:=ak hb0;have aSU:=ak hb1;have kC:=ak hxr;obtain⟨e0,ef⟩:=gQ hb0;obtain⟨f0,f1,f2,f3,f4,f5,ff⟩:=eP hb1;clear hall hb0 hb1 hxr;by_cases hkn:k<na
    ·have hka:k<args.length:=by have:=nK.o;omega
     have t1:=ah ((k:Int)<(na:Int));obtain⟨b,off,rfl,rJ,rF,rH,rM,rG,ca1,h0,h1,h2,h3,h4,h5,h6⟩:=HXJ.o wr kC.o k hka;have H6:=ak h6;have HAK:=ak (HAV.o k hka);obtain⟨B,hB⟩:∃B,B=uo s f V args[k]:=⟨_,rfl⟩
     rw[<-hB] at HAK;have nZ:=ak hB;clear h6 hB;go_wp2_with fail
     go_still_tail 8,(by kernel_rfl)
     change wpList _ _ _ _ _ wr.drew
     have hx2:Ext wr wr.drew:=(Ext.refl wr).drew;generalize wr.drew=w2 at hx2 ⊢;have gI:=ak (kC.o.trans hx2);have amE:=ak (hx2.blk aSV.o);have G9:=ak (hx2.blk aSU.o);have HAX:=ak (HAK.o _ w2 gI.o (H6.o.ext hx2));unfold exV at HAX;clear hx2 f0 f1 f2 f3 f4 f5 ff e0 ef h0 h1 h2 h3 h4 h5;go_wp2_with fail
     refine HAX.o.mono ?_;rintro r w3 ⟨rfl,hx3⟩;have gU:=ak (gI.o.trans hx3);have Bl:=ak (hx3.blk amE.o);have rX:=ak (hx3.blk G9.o);clear hx3;cases B
     ·go_wp2_with fail
      go_roundw
      case rel =>
       refine⟨k+1,by go_num,by omega,fun j hj hjk=>?_,Bl.o,rX.o,gU.o⟩;by_cases e:j=k
       ·subst e;exact nZ.o.symm
       exact qE.o j hj (by omega)
      case measure=>simp[intOf];omega
     have HF:=ak (show R=true by rw[HQ.o,List.any_eq_true];exact⟨_,aI hka,nZ.o.symm⟩);go_wp2_with fail
     go_ret;exact dL (by rw[HF.o]) gU.o
    have t1:=aj ((k:Int)<(na:Int));have HF:=ak (show R=false by
     rw[HQ.o,List.any_eq_false];intro x hx;obtain⟨j,hj,rfl⟩:=bM hx;rw[qE.o j hj (by have:=nK.o;omega)];simp)
    go_wp2_with fail
    go_ret;exact dL (by rw[HF.o]) kC.o
def Pv (s:List Attr) (l:List dY) (e:Ex):Prop:=jA e/\fB s l e=0/\mG l (l.length+1) e<=2000/\e.size<=300
theorem GU {e:Ex} (h:iL e=true):jA e/\e.size<=300:=by
 rw[iL,aJ,aJ] at h;refine⟨(QM _).1 h.2,?_⟩;have:=h.1.2;simp only[aN] at this;unfold gZ at this;omega
theorem aqm {s:List Attr} {l:List dY}:(u:List Wb)->(d:Nat)->pW d u=true->iW s l u=0->iC l u=false->kK u<=40->nN (Pv s l) u/\u.length<=40
 | [],_,_,_,_,_=>⟨by unfold nN;trivial,by simp⟩
 | .mk n c u::r,d,h1,h2,h3,h4=>by
  rw[pW] at h1;simp only[aJ] at h1;obtain⟨⟨⟨⟨_,_⟩,g1⟩,g2⟩,g3⟩:=h1;rw[iW] at h2;by_cases k1:fB s l c≠0
  ·rw[dw k1] at h2;exact absurd h2 k1
  rw[dh k1] at h2;by_cases k2:iW s l u≠0
  ·rw[dw k2] at h2;exact absurd h2 k2
  rw[dh k2] at h2;rw[iC] at h3;simp only[Bool.or_eq_false_iff,bZ] at h3;obtain⟨⟨q1,q2⟩,q3⟩:=h3;rw[kK] at h4;obtain⟨e1,e2⟩:=GU g1;obtain⟨u1,u2⟩:=aqm u (d - 1) g2 (by simpa using k2) q2 (by omega);obtain⟨r1,r2⟩:=aqm r d g3 h2 q3 (by omega);have hl:∀(x:List Wb),x.length<=kK x:=fun x=>by
   induction x with
   | nil=>simp
   | cons y t ih=>cases y with|mk _ _ _=>rw[kK];simp;omega
  have hr:=hl r;refine⟨?_,by simp;omega⟩;unfold nN;exact⟨⟨e1,by simpa using k1,by unfold expanded at q1;omega,e2⟩,u1,by omega,r1⟩
structure aY8 (s:List Attr) (l:List dY) (x:dY):Prop where
 cond:Pv s l x.cond
 wbs:nN (Pv s l) x.jZ
 len:x.jZ.length<=40
 kind:1<=x.kind/\x.kind<=10
 amt:(ny x.kind=0/\x.amount=0)\/(1<=x.amount/\x.amount<=ny x.kind)
theorem afH {s:List Attr} {l:List dY} (h:(eU s l).2=0):∀x∈l,aY8 s l x:=by
 have hc:=qO h;unfold eU at h;rw[dh (by simp[hc.DK]),dh (by have:=hc.len;omega)] at h;by_cases h3:(oC (lU s l) l.length).2≠0
 ·rw[dw h3] at h;exact absurd h h3
 rw[dh h3] at h;by_cases h4:¬Sorts (l.map dY.dfn)
 ·rw[dw h4] at h;simp at h
 rw[dh h4] at h;have h1:=nU l.length (by simpa using h3);have h2:=nU l.length h;intro x hx;obtain⟨i,hi,rfl⟩:=bM hx;have g:=h1 i hi;have g2:=h2 i hi;unfold lU at g;unfold mg at g2;rw[vY hi] at g g2;by_cases q1:jO l[i]=false
 ·rw[dw q1] at g;cases g
 rw[dh q1] at g;by_cases q2:(findAt l l[i].name).getD 0<i
 ·rw[dw q2] at g;cases g
 rw[dh q2] at g;by_cases q3:(iE s l[i].name).isSome
 ·rw[dw q3] at g;cases g
 rw[dh q3] at g;by_cases q4:fB s l l[i].cond≠0
 ·rw[dw q4] at g;exact absurd g q4
 rw[dh q4] at g;by_cases q5:2000<expanded l l[i].cond\/iC l l[i].jZ=true
 ·rw[dw q5] at g2;cases g2
 simp only[not_or] at q5;have q1':jO l[i]=true:=by simpa using q1
 simp only[jO,aJ,bV,aN,beq_iff_eq] at q1';obtain⟨⟨⟨⟨⟨a1,a2⟩,_⟩,a4⟩,a5⟩,a6⟩:=q1';obtain⟨e1,e2⟩:=GU a4;have hw:nN (Pv s l) l[i].jZ/\l[i].jZ.length<=40:=by
  rcases a5 with a5|⟨⟨_,b2⟩,b3⟩
  ·have:l[i].jZ=[]:=aX a5;rw[this];exact⟨by unfold nN;trivial,by simp⟩
  exact aqm _ _ b3 g (by simpa using q5.2) b2
 refine⟨⟨e1,by simpa using q4,by unfold expanded at q5;omega,e2⟩,hw.1,hw.2,⟨a1,a2⟩,?_⟩;rcases a6 with ⟨b1,b2⟩|⟨⟨b1,b2⟩,b3⟩
 ·exact Or.inl ⟨b1,b2⟩
 exact Or.inr ⟨b2,b3⟩
theorem Vh {s:List Attr} {l:List dY} {f:ZI} (h:(eU s l).2=0) (hfa:jq s f=true) (hsf:∀x∈s,x.fits) {w0:World} {sa:OA} {sn sc:Nat} {a:OA} {n c:Nat} {fa:OA} {fn:Nat} (fc:Nat)
  (hs:fJ w0 s (.agg #[.slice sa sn sc])) (hl:eX w0 l a n c) (hi:fO w0 f fa fn):aBN w0 sa sn sc l a n c fa fn fc (l7 s l f (l.length+1)) (Pv s l) where
 tr:=fun e x W hW hp he=>BN s l f (qO h) hfa hsf a n c fa fn fc (l.length+1) 300 e x.val _ W hp.2.2.2 (by omega) hp.1 hp.2.1 hp.2.2.1 (hs.ext hW) (hl.ext hW) he (hi.ext hW)
 WT:=hl
 few:=by have:=hl.len;have:=(qO h).len;omega
 ok:=fun x hx=>by
  have hk:=afH h x hx;exact⟨hk.cond,hk.wbs,by have:=hk.len;omega⟩
open Go.RowKit Go.Maps
theorem ax4:Tryz.prog.underlying 72=some (.map 9 48):=by kernel_rfl
def aQO (v:jm):Value:=.agg #[.int .i64 v.kind,.string v.name,.int .i64 v.x.op,.string v.x.name,.slice v.x.aw v.x.nw v.x.cw,.int .i64 v.x.lo,.int .i64 v.x.hi,.slice v.x.aa v.x.na v.x.ca,.slice v.au v.nu v.cu,.int .i64 v.amount]
theorem aFq (w:World):(zeroValue 48).run Tryz.prog w=.ok (.agg #[.int .i64 0,.string ⟨#[]⟩,.int .i64 0,.string ⟨#[]⟩,.slice none 0 0,.int .i64 0,.int .i64 0,.slice none 0 0,.slice none 0 0,.int .i64 0]) w:=by kernel_rfl
def a8k (w:World) (l:List dY) (g:BA->Option Value):Prop:=∀s,(fG l s=none->g s=none)/\∀d,fG l s=some d->∃v:jm,g s=some (aQO v)/\kR w (l.getD d iT) v
theorem a8k.ext {w w':World} {l:List dY} {g:BA->Option Value} (h:a8k w l g) (hx:Ext w w'):a8k w' l g:=fun s=>⟨(h s).1,fun d hd=>by obtain⟨v,h1,h2⟩:=(h s).2 d hd;exact⟨v,h1,h2.mono hx.sub⟩⟩
theorem a8k.skip {w:World} {l:List dY} {k:Nat} {g:BA->Option Value} (hk:k<l.length) (h:a8k w (l.take k) g) (hs:l[k].kind≠1):a8k w (l.take (k+1)) g:=by
 intro s;have key:fG (l.take (k+1)) s=fG (l.take k) s:=by
  rw[X5 hk];cases hd:fG (l.take k) s with
  | some d=>rfl
  | none=>rw[dh];rintro⟨h1,h2⟩;exact hs h1
 rw[key];refine⟨(h s).1,fun d hd=>?_⟩;have:d<k:=by have:=sH hd;simp at this;omega
 rw[getD_take (by omega),<-getD_take (k:=k) this];exact(h s).2 d hd
theorem a8k.step {w:World} {l:List dY} {k:Nat} {g:BA->Option Value} (hk:k<l.length) (h:a8k w (l.take k) g) (hk1:l[k].kind=1) (hn:fG (l.take k) l[k].name=none) {v:jm} (hv:kR w l[k] v):a8k w (l.take (k+1)) (upS g l[k].name (some (aQO v))):=by
 intro s;rw[X5 hk];by_cases e:s=l[k].name
 ·subst e;rw[hn,CO];simp only[hk1,and_self,if_true];refine⟨fun h=>by simp at h,fun d hd=>?_⟩;obtain rfl:k=d:=by simpa using hd
  rw[getD_take (by omega),iZ hk];exact⟨v,rfl,hv⟩
 rw[yj _ _ e];cases hd:fG (l.take k) s with
 | none =>
  have:¬(l[k].kind=1/\l[k].name=s):=fun h=>e h.2.symm
  simp only[dh this];exact⟨fun _=>(h s).1 hd,fun d hd'=>by cases hd'⟩
 | some d =>
  have hdk:d<k:=by have:=sH hd;simp at this;omega
  refine⟨fun h=>by simp at h,fun d' hd'=>?_⟩;obtain rfl:d=d':=by simpa using hd'
  rw[getD_take (by omega),<-getD_take (k:=k) hdk];exact(h s).2 d hd
structure Hz (w:World) (s:List Attr) (l:List dY) (f:ZI) (v:jH) (n:Nat):Prop where
 DK:fJ w s (.agg #[.slice v.sa v.sn v.sc])
 defs:∃g,MapAt w 9 v.bm n (oh g)/\a8k w l g
 ints:fO w f v.fa v.fn
theorem Hz.ext {w w':World} {s:List Attr} {l:List dY} {f:ZI} {v:jH} {n:Nat} (h:Hz w s l f v n) (hx:Ext w w'):Hz w' s l f v n:=⟨h.DK.ext hx,by obtain⟨g,h1,h2⟩:=h.defs;exact⟨g,h1.ext hx,h2.ext hx⟩,h.ints.ext hx⟩
noncomputable def nI (s:List Attr) (l:List dY) (f:ZI):Int:=if (eU s l).2≠0 then (eU s l).2 else if mJ s f=false then 16 else 0
def aB0 (s:List Attr) (l:List dY) (f:ZI) (n:Nat) (w:World) (r:Ending) (w':World):Prop:=Ext w w'/\((nI s l f≠0/\r=.returned (.tuple #[uz,.int .i64 (nI s l f)]))\/(nI s l f=0/\∃lv:jH,r=.returned (.tuple #[lv.val,.int .i64 0])/\Hz w' s l f lv n))
theorem aa4 (s:List Attr) (l:List dY) (f:ZI) (sv:Value) (a:OA) (n c:Nat) (fa:OA) (fn fc:Nat) (w:World) (hs:fJ w s sv) (hf:∀x∈s,x.fits) (hsl:s.length<=1000000000000000) (hl:eX w l a n c) (hn:n<=1000000) (hok:∀x∈l,x.fit) (hi:fO w f fa fn) (hfn:fn<=1000000000000000) (ho:gG w) :
  Calls Tryz.prog 27 #[sv,.slice a n c,.slice fa fn fc] w (aB0 s l f n w):=by
 obtain⟨sa,sn,sc,rfl,hsn⟩:=hs.slice;have vS:=ak (fun W (hW:Ext w W)=>AY s l _ a n c W (hs.ext hW) hf hsl (hl.ext hW) (by omega) hok (ho.ext hW));have Kt:=ak (fun W (hW:Ext w W)=>Xj s _ f fa fn fc W (hs.ext hW) hf hsl (hi.ext hW) hfn);have vP:=ak (fun (h1:(eU s l).2=0)=>qO h1);have HL:=ak hl;have HS:=ak hs;have HI:=ak hi;have zN:=ak (fun x hx=>(hok x hx).1);have HN:=ak hl.len;obtain⟨R,hR⟩:∃R,R=nI s l f:=⟨_,rfl⟩
 unfold aB0;rw[<-hR];unfold nI at hR;obtain⟨⟨i0,E1⟩,hE1⟩:∃E:Nat×Int,E=eU s l:=⟨_,rfl⟩
 rw[<-hE1] at vS hR;have aKe:=ak (fun (h1:E1=0)=>vP.o (by rw[<-hE1];exact h1));clear vP;obtain⟨B,hB⟩:∃B,B=mJ s f:=⟨_,rfl⟩
 rw[<-hB] at Kt hR;have HR:=ak hR;clear hs hf hsl hl hok hi hsn hR hE1 hB ho;obtain⟨wa,dW⟩:∃wa,wa=(w.alloc (.cells #[.slice sa sn sc] 24)).alloc (.cells #[.slice none 0 0,.map none,.slice none 0 0] 74):=⟨_,rfl⟩
 have hxa:Ext w wa:=by rw[dW];exact((Ext.refl _).alloc _).alloc _
 have HB0:=ak (show wa.heap[w.heap.size]?=some (.cells #[.slice sa sn sc] 24 (0,0)) by rw[dW];exact dJ (dG w _));have HB2:=ak (show wa.heap[w.heap.size+1]?=some (.cells #[.slice none 0 0,.map none,.slice none 0 0] 74 (0,0)) by rw[dW];exact eH (by simp));have fE:=ak hxa;obtain⟨e0,ef⟩:=gQ HB0.o;clear hxa;unfold aa6 at vS;go_enter Tryz.func27,Tryz.ntmps27
 go_upto_region 1 with fail
 rw[<-dW];clear dW;go_wp2_with fail
 refine(vS.o wa fE.o).mono ?_;rintro r w1 ⟨rfl,hx1⟩;have fQ:=ak (fE.o.trans hx1);have Bl:=ak (hx1.blk HB0.o);have SQ:=ak (hx1.blk HB2.o);clear hx1 e0 ef vS HB0 HB2;by_cases h1:E1=0
 case neg =>
  have t1:(E1 != 0)=true:=by simp[h1]
  have HQ:=ak (show R=E1 by rw[HR.o,dw h1]);have HNZ:=ak h1;clear h1;obtain⟨r0,r1,r2,rf⟩:=fZ SQ.o;go_wp2_with fail
  obtain⟨wz,hwz⟩:∃wz,wz=oq w1 (w.heap.size+1) (.slice none 0 0) (.map none) (.slice none 0 0):=⟨_,rfl⟩
  have HZ:=ak (show wz.heap[w.heap.size+1]?=some (.cells #[.slice none 0 0,.map none,.slice none 0 0] 74 (0,0)) by rw[hwz];exact xC SQ.o _ _ _);have yC:=ak (show Ext w wz by rw[hwz];exact(xB w1 (w.heap.size+1) (.slice none 0 0) (.map none) (.slice none 0 0) (N:=[w.heap.size+1]) (by simp)).ext fQ.o (fun y hy=>by simp only[aK] at hy;omega));unfold oq at hwz;rw[<-hwz];clear hwz;obtain⟨z0,z1,z2,zf⟩:=fZ HZ.o;refine bodyPost_ret (v:=.tuple #[uz,.int .i64 E1]) (by simp[results,Tryz.results27,go_sem,uz,z0,z1,z2]) rfl ?_;exact⟨yC.o,Or.inl ⟨by rw[HQ.o];exact HNZ.o,by rw[HQ.o]⟩⟩
 have t1:(E1 != 0)=false:=by simp[h1]
 have HR4:=ak (show R=if B=false then 16 else 0 by rw[HR.o,dh (by simpa using h1)]);have vP:=ak (aKe.o h1);clear h1 HR aKe;have gU:=fQ;obtain⟨e0,ef⟩:=gQ Bl.o;go_wp2_with fail
 refine(Kt.o w1 gU.o).mono ?_;rintro r w4 ⟨rfl,hx4⟩;have lN:=ak (gU.o.trans hx4);have aFe:=ak (hx4.blk Bl.o);have ata:=ak (hx4.blk SQ.o);clear hx4 e0 ef Kt;cases B
 case false =>
  have HQ:=ak (show R=16 by rw[HR4.o];rfl);obtain⟨r0,r1,r2,rf⟩:=fZ ata.o;go_wp2_with fail
  obtain⟨wz,hwz⟩:∃wz,wz=oq w4 (w.heap.size+1) (.slice none 0 0) (.map none) (.slice none 0 0):=⟨_,rfl⟩
  have HZ:=ak (show wz.heap[w.heap.size+1]?=some (.cells #[.slice none 0 0,.map none,.slice none 0 0] 74 (0,0)) by rw[hwz];exact xC ata.o _ _ _);have yC:=ak (show Ext w wz by rw[hwz];exact(xB w4 (w.heap.size+1) (.slice none 0 0) (.map none) (.slice none 0 0) (N:=[w.heap.size+1]) (by simp)).ext lN.o (fun y hy=>by simp only[aK] at hy;omega));unfold oq at hwz;rw[<-hwz];clear hwz;obtain⟨z0,z1,z2,zf⟩:=fZ HZ.o;refine bodyPost_ret (v:=.tuple #[uz,.int .i64 16]) (by simp[results,Tryz.results27,go_sem,uz,z0,z1,z2]) rfl ?_;exact⟨yC.o,Or.inl ⟨by rw[HQ.o];decide,by rw[HQ.o]⟩⟩
 have HQ:=ak (show R=0 by rw[HR4.o];rfl);have hmm:=@run_makeMap Tryz.prog;have HM0:=ak (MapAt.made w4 9);have HX0:=ak ((Ext.refl w4).alloc (.map #[] 0));obtain⟨bf,hbf⟩:∃bf:Nat,bf=w4.heap.size:=⟨_,rfl⟩
 have HBF:=ak hbf;have DJ:=ak (show w.heap.size+1<bf by rw[hbf];exact dH ata.o);go_wp2_with fail
 rw[<-hbf];rw[<-hbf] at HM0;clear hbf hmm;go_loopw [31] (fun i wr=>∃(k:Nat) (g:BA->Option Value),k<=n/\i=.int .i64 k/\MapAt wr 9 bf k (oh g)/\a8k w (l.take k) g/\wr.heap[w.heap.size]?=some (.cells #[.slice sa sn sc] 24 (0,0))/\wr.heap[w.heap.size+1]?=some (.cells #[.slice none 0 0,.map none,.slice none 0 0] 74 (0,0))/\Ext w wr) (fun i _=>n - (intOf i).toNat)
 case atStart =>
  refine⟨0,fun _=>none,by omega,rfl,HM0.o.congr fun x=>?_,fun s=>⟨fun _=>rfl,fun d hd=>?_⟩,HX0.o.blk aFe.o,HX0.o.blk ata.o,lN.o.trans HX0.o⟩
  ·cases x<;>simp[oh]
  simp[fG] at hd
 case round =>
  obtain⟨k,g,hk,rfl,hmap,hg,hb0,hb2,hx⟩:=hrel;have Kr:=ak hmap;have HX:=ak hx;have HG:=ak hg;have sS:=ak hb0;have Fp:=ak hb2;have hbw:=hmap.lt;clear hmap hx hg HM0 HX0 hb0 hb2;by_cases hlt:k<n
  ·have hlt':k<l.length:=by have:=HN.o;omega
   have t1:=ah ((k:Int)<(n:Int));obtain⟨cb,oZ,v,rfl,jr,hrow⟩:=HL.o.at hlt';obtain⟨c0,c1,c2,c3,c4,c5,c6,c7,c8,c9⟩:=(hrow.mono HX.o.sub).ten;have hns:v.name.size<=1000000000000000:=by rw[jr.2.1];exact zN.o _ (aI hlt')
   have hblt:=block_lt c0;simp only at hblt;have aSp:=ak jr;have HEK:=ak (show l[k].kind=v.kind from jr.1.symm);have SA:=ak (show l[k].name=v.name from jr.2.1.symm);have HFR:=ak (vP.o.fresh hlt');rw[SA.o] at HFR;have HST:=ak (fun h1 h2=>HG.o.step hlt' h1 h2 aSp.o);have Ym:=ak (HG.o.skip hlt');rw[HEK.o,SA.o] at HST;rw[HEK.o] at Ym;clear jr hrow;cases hkd:(v.kind==1)
   ·have U6:=ak (Ym.o (by simpa using hkd));go_wp2_with fail
    go_roundw
    case rel =>
     have hxa:=(Ext.refl wr).alloc (.cells #[.int .i64 v.kind,.string v.name,.int .i64 v.x.op,.string v.x.name,.slice v.x.aw v.x.nw v.x.cw,.int .i64 v.x.lo,.int .i64 v.x.hi,.slice v.x.aa v.x.na v.x.ca,.slice v.au v.nu v.cu,.int .i64 v.amount] 48);exact⟨k+1,g,by omega,by go_num,(Kr.o.ext hxa).more (by omega),U6.o,hxa.blk sS.o,hxa.blk Fp.o,HX.o.trans hxa⟩
    case measure=>simp[intOf];omega
   have U6:=ak (HST.o (by simpa using hkd) HFR.o);go_wp2_with (at_mapUpdate;refine oU _ rfl _ _ _ 72 rfl 9 48 jR ax4 bf k _ rfl (Kr.o.ext ((Ext.refl wr).alloc _)) ?c3 _ _ _ rfl rfl (oI hns) trivial ?_)
   case c3=>unfold maxLen;omega
   intro w6 hm1 hc1;have hxa:=(Ext.refl wr).alloc (.cells #[.int .i64 v.kind,.string v.name,.int .i64 v.x.op,.string v.x.name,.slice v.x.aw v.x.nw v.x.cw,.int .i64 v.x.lo,.int .i64 v.x.hi,.slice v.x.aa v.x.na v.x.ca,.slice v.au v.nu v.cu,.int .i64 v.amount] 48);have hxm:Ext w w6:=hc1.ext (HX.o.trans hxa) (fun y hy=>by simp only[aK] at hy;have:=DJ.o;omega);have aKs:=ak (hc1.blk (hxa.blk sS.o) (by have:=DJ.o;simp;omega));have amD:=ak (hc1.blk (hxa.blk Fp.o) (by have:=DJ.o;simp;omega));have HM1:=ak (hm1.congr (Jm g v.name _));have fQ:=ak hxm;clear hm1 hc1 hxa hxm;go_wp2_with fail
   go_roundw
   case rel=>exact⟨k+1,_,by omega,by go_num,HM1.o,U6.o,aKs.o,amD.o,fQ.o⟩
   case measure=>simp[intOf];omega
  have t1:=aj ((k:Int)<(n:Int));have U6:=ak (show k=n by omega);obtain⟨e0,ef⟩:=gQ sS.o;obtain⟨r0,r1,r2,rf⟩:=fZ Fp.o;go_wp2_with fail
  obtain⟨wz,hwz⟩:∃wz,wz=oq wr (w.heap.size+1) (.slice sa sn sc) (.map (some bf)) (.slice fa fn fc):=⟨_,rfl⟩
  have HZ:=ak (show wz.heap[w.heap.size+1]?=some (.cells #[.slice sa sn sc,.map (some bf),.slice fa fn fc] 74 (0,0)) by rw[hwz];exact xC Fp.o _ _ _);have hcz:dO [w.heap.size+1] wr wz:=by rw[hwz];exact xB wr (w.heap.size+1) (.slice sa sn sc) (.map (some bf)) (.slice fa fn fc) (by simp)
  have yC:=ak (hcz.ext HX.o (fun y hy=>by simp only[aK] at hy;omega));have HLZ:=ak (show Hz wz s l f ⟨sa,sn,sc,bf,fa,fn,fc⟩ n from⟨HS.o.ext yC.o,by
   exact⟨g,by rw[<-U6.o];exact Kr.o.fH hcz (by have:=DJ.o;simp;omega),by have:=HG.o.ext yC.o;rwa [aY (by have:=HN.o;omega)] at this⟩,HI.o.ext yC.o⟩)
  unfold oq at hwz;rw[<-hwz];clear hwz hcz;obtain⟨z0,z1,z2,zf⟩:=fZ HZ.o;refine bodyPost_ret (v:=.tuple #[jH.val ⟨sa,sn,sc,bf,fa,fn,fc⟩,.int .i64 0]) (by simp[results,Tryz.results27,go_sem,jH.val,z0,z1,z2]) rfl ?_;exact⟨yC.o,Or.inr ⟨by rw[HQ.o],_,rfl,HLZ.o⟩⟩
theorem Used.ax7 {l:List dY} {e:Ex} {u:List dY} (h:Used l e u) (hx:expanded l e<=2000):Sorts (u.map dY.dfn):=by
 have hmax:∀k,∀o,RInv (u.map dY.dfn) o->countOf (u.map dY.dfn) - o.length<=k->∃o,RInv (u.map dY.dfn) o/\∀i,ku (u.map dY.dfn) i=true->i∉o->qV (u.map dY.dfn) o i≠[]:=by
  intro k;induction k with
  | zero =>
   intro o ho hk;refine⟨o,ho,fun i hd hi=>?_⟩;have:=ho.lt hd hi;omega
  | succ k ih =>
   intro o ho hk;by_cases hs:∀i,ku (u.map dY.dfn) i=true->i∉o->qV (u.map dY.dfn) o i≠[]
   ·exact⟨o,ho,hs⟩
   obtain⟨i,hd,hi,hm⟩:∃i,ku (u.map dY.dfn) i=true/\i∉o/\qV (u.map dY.dfn) o i=[]:=by
    refine Classical.byContradiction fun hn=>hs fun i h1 h2 h3=>hn ⟨i,h1,h2,h3⟩
   refine ih (o++[i]) (ho.snoc hd hi hm) ?_;have:=ho.lt hd hi;simp only[bI,List.length_singleton];omega
 obtain⟨o,ho,hs⟩:=hmax _ [] (RInv.start _) (bg _);refine⟨o,ho.done fun i hd=>Classical.byContradiction fun hi=>?_⟩;have hbad:∀f i,(hi:i<u.length)->i∉o->mG u f u[i].cond=2001:=by
  intro f;induction f with
  | zero=>intro i _ _;rfl
  | succ f ih =>
   intro i hi hio;have hdef:ku (u.map dY.dfn) i=true:=by rw[yx hi,(h.defs _ (aI hi)).1];rfl
   obtain⟨s,hs⟩:=List.exists_mem_of_ne_nil _ (hs i hdef hio);obtain⟨h1,d,h2,h3⟩:=CX.1 hs;rw[BJ hi,xP] at h1;rw[vZ] at h2;have hdl:=sH h2;refine aiP h1 h2 ?_;rw[iZ hdl];exact ih d hdl h3
 have hil:i<u.length:=by simpa using pY hd
 obtain⟨_,d,h1,h2,h3⟩:=h.defs _ (aI hil);have:=h3.large (fun f=>by
  rw[<-h2,<-h.same f u[i].cond (h.closed _ (aI hil))];exact hbad f i hil hi) (l.length+1)
 unfold expanded at hx;omega
theorem Used.size {l:List dY} {e:Ex} {u:List dY} (h:Used l e u) (hs:Sorts (u.map dY.dfn)) {x:Ex} (hx:∀s∈jo x,∀d,Proofs.YtefjomofjejklaaGreatDoor.fG l s=some d->s∈u.map (·.name)):expanded u x=expanded l x:=by
 obtain⟨o,ht⟩:=hs;unfold expanded;rw[<-h.same (l.length+1) x hx,mG,mG];refine yI _ fun s hs=>?_
 cases hd:Proofs.YtefjomofjejklaaGreatDoor.fG u s with
 | none=>rfl
 | some i =>
  have hi:=sH hd;have hio:i∈o:=(ht.all i).2 (by rw[yx hi,(h.defs _ (aI hi)).1];rfl);obtain⟨q,hq⟩:=List.mem_iff_getElem?.1 hio;have hql:q<o.length:=(List.getElem?_eq_some_iff.1 hq).1;have h1:=ht.len;have h2:=h.len;simp only[List.length_map] at h1;simp only[Option.map_some,Option.some.injEq];exact Ua ht q i hq _ _ (by omega) (by omega)
theorem Used.l7 {l:List dY} {e:Ex} {u:List dY} (h:Used l e u) (s:List Attr) (f:ZI):∀k x,(∀t∈jo x,∀d,Proofs.YtefjomofjejklaaGreatDoor.fG l t=some d->t∈u.map (·.name))->Proofs.YtefjomofjejklaaGreatDoor.l7 s u f k x=Proofs.YtefjomofjejklaaGreatDoor.l7 s l f k x:=by
 intro k;induction k with
 | zero=>intro x _;rfl
 | succ k ih =>
  intro x hx;rw[Proofs.YtefjomofjejklaaGreatDoor.l7,Proofs.YtefjomofjejklaaGreatDoor.l7];refine Qo _ fun t ht=>?_
  cases hd:Proofs.YtefjomofjejklaaGreatDoor.fG l t with
  | none=>rw[h.only hd];rfl
  | some d =>
   obtain⟨i,d',hi,h1,h2,h3⟩:=h.at (hx t ht d hd);rw[hd] at h2;cases h2
   rw[h1];simp only[Option.map_some,h3,Option.some.injEq];refine ih _ fun t2 ht2 d2 hd2=>?_
   rw[<-h3,iZ hi] at ht2;exact h.closed _ (aI hi) t2 ht2 d2 hd2
theorem Used.nodes {l:List dY} {e:Ex} {u:List dY} (h:Used l e u) (s:List Attr):(x:Ex)->(∀t∈jo x,∀d,Proofs.YtefjomofjejklaaGreatDoor.fG l t=some d->t∈u.map (·.name))->fB s u x=fB s l x
 | .mk op name words lo hi args,hx=>by
  have hn:iR s u op name words lo hi=iR s l op name words lo hi:=by
   unfold iR;by_cases h3:op=3
   ·rw[dw h3,dw h3];cases iE s name with
    | some i=>rfl
    | none =>
     cases hd:Proofs.YtefjomofjejklaaGreatDoor.fG l name with
     | none=>rw[h.only hd]
     | some d =>
      obtain⟨i,_,_,h1,_⟩:=h.at (hx name (by rw[jo,h3];simp) d hd);rw[h1]
      rfl
   rw[dh h3,dh h3]
  rw[fB,fB,hn,QN args fun t ht=>hx t (by rw[jo];exact aS _ ht)]
where
 QN:(r:List Ex)->(∀t∈kH r,∀d,Proofs.YtefjomofjejklaaGreatDoor.fG l t=some d->t∈u.map (·.name))->gW s u r=gW s l r
  | [],_=>by rw[gW,gW]
  | x::r,hx=>by
   rw[gW,gW,Used.nodes h s x fun t ht=>hx t (by rw[kH];exact aQ _ ht),QN r fun t ht=>hx t (by rw[kH];exact aS _ ht)]
theorem afE {s:List Attr} {l:List dY} (h:(eU s l).2=0):∀c∈l,jO c=true:=by
 have hc:=qO h;unfold eU at h;rw[dh (by simp[hc.DK]),dh (by have:=hc.len;omega)] at h;by_cases h3:(oC (lU s l) l.length).2≠0
 ·rw[dw h3] at h;exact absurd h h3
 have h1:=nU l.length (by simpa using h3);intro c hc;obtain⟨i,hi,rfl⟩:=bM hc;have g:=h1 i hi;unfold lU at g;rw[vY hi] at g;by_cases q1:jO l[i]=false
 ·rw[dw q1] at g;cases g
 simpa using q1
def J5 (l:List dY) (e:Ex) (u:List dY):Prop:=Used l e u/\∀c∈u,c∈l
theorem J5.err {s:List Attr} {l:List dY} {e:Ex} {u:List dY} (h:J5 l e u) (hc:(eU s l).2=0) (hx:expanded l e<=2000):(eU s u).2=0:=by
 obtain⟨hu,hm⟩:=h;have hck:=qO hc;have hss:=hu.ax7 hx;have hlen:u.length<=l.length:=hu.len
 have hdf:∀c∈u,jO c=true/\iE s c.name=none/\fB s l c.cond=0/\c.jZ=[]/\expanded l c.cond<=2000:=by
  intro c hcu;obtain⟨q1,q2,q3,q4,q5⟩:=hck.good c (hm c hcu);have hcb:=(afE hc) c (hm c hcu);have hk:=(hu.defs c hcu).1;refine⟨hcb,q5,q2,?_,hck.exp c (hm c hcu)⟩;simp only[jO,aJ,bV,aN,beq_iff_eq] at hcb;obtain⟨⟨_,a5⟩,_⟩:=hcb;rcases a5 with a5|⟨⟨b1,_⟩,_⟩
  ·exact aX a5
  omega
 have hz:∀i,i<u.length->lU s u i=0:=by
  intro i hi;have hcu:=aI hi;obtain⟨q1,q2,q3,q4,q5⟩:=hdf _ hcu;unfold lU;rw[iZ hi];rw[dh (by simp[q1]),dh ?_,dh (by simp[q2]),dh ?_,q4]
  ·rw[iW]
  ·rw[hu.nodes s u[i].cond (hu.closed _ hcu),q3];simp
  have:findAt u u[i].name=some i:=by
   unfold findAt;rw[aP];refine⟨hi,by simp,fun j hj=>?_⟩;have:=(List.pairwise_iff_getElem.1 hu.names) j i (by simp;omega) (by simpa using hi) hj;simpa using this
  rw[this];simp
 have hg:∀i,i<u.length->mg u i=0:=by
  intro i hi;have hcu:=aI hi;obtain⟨_,_,_,q4,q5⟩:=hdf _ hcu;unfold mg;rw[iZ hi,q4,hu.size hss (hu.closed _ hcu),dh];rw[iC];simp;omega
 unfold eU;rw[dh (by simp[hck.DK]),dh (by have:=hck.len;omega),nC _ hz];rw[dh (by simp),dh (by simp[hss]),nC _ hg]
theorem J5.eval {s:List Attr} {l:List dY} {e:Ex} {u:List dY} {f:ZI} (h:J5 l e u) (hc:(eU s l).2=0) (hr:iL e=true) (hn:fB s l e=0) (hx:expanded l e<=2000) (hf:mJ s f=true):lY s u e f=0/\val s u f e=val s l f e:=by
 have h1:=h.err hc hx;obtain⟨hu,hm⟩:=h;have hss:=hu.ax7 hx;have hsz:=hu.size hss hu.top;have hck:=qO hc;refine⟨?_,?_⟩
 ·unfold lY;rw[dh (by simp[h1]),dh ?_,dh (by omega),dh (by simp[hf])];unfold uU;rw[dh (by simp[hck.DK]),ET,dh (by simp[hr]),hu.nodes s e hu.top,hn];simp
 unfold val;have hle:=hu.len;rw[ZE s u f (u.length+1) (l.length+1) e (by unfold expanded at hsz hx;omega) (by omega),hu.l7 s f (l.length+1) e hu.top]
end Go.Proofs.YtefjomofjejklaaGreatDoor
