/-
  Texts of the claim, joined: RSom, Ch, Ch2, Ch3.
-/
import Derived.Test.YtefjomofjejklaaGreatDoorDx17
namespace Go.Proofs.YtefjomofjejklaaGreatDoor
set_option maxRecDepth 100000
set_option maxHeartbeats 32000000
open Go.RowKit
structure aBN (w0:World) (sa:OA) (sn sc:Nat) (l:List dY) (a:OA) (n c:Nat) (fa:OA) (fn fc:Nat) (V:Ex->Bool) (P:Ex->Prop):Prop where
 tr:afO w0 sa sn sc a n c fa fn fc V P
 WT:eX w0 l a n c
 few:n<=1000000
 ok:∀x∈l,P x.cond/\nN P x.jZ/\x.jZ.length<=1000000000000000
def nS (V:Ex->Bool) (kind:Int) (neg:Bool):List dY->Bool
 | []=>false
 | x::r=>(x.kind==kind&&(oK V x != neg))||nS V kind neg r
theorem ayk (V:Ex->Bool) (kind:Int) (neg:Bool) {l:List dY} {k:Nat} (hk:k<l.length):nS V kind neg (l.drop k)=((l[k].kind==kind&&(oK V l[k] != neg))||nS V kind neg (l.drop (k+1))):=by
 rw[List.drop_eq_getElem_cons hk,nS]
def uD (V:Ex->Bool) (kind:Int) (m:Int) (x:dY):Int:=if (x.kind==kind&&oK V x)=true then max m x.amount else m
def vX (V:Ex->Bool) (kind:Int) (l:List dY):Int:=l.foldl (uD V kind) 0
theorem av1 (V:Ex->Bool) (kind:Int) {l:List dY} {k:Nat} (hk:k<l.length):vX V kind (l.take (k+1))=uD V kind (vX V kind (l.take k)) l[k]:=by
 unfold vX;rw[aU hk,List.foldl_append]
 rfl
def SmL (V:Ex->Bool) (kind:Int) (neg:Bool) (l:List dY) (n:Nat) (w:World) (i:Value) (wr:World):Prop:=∃k:Nat,i=.int .i64 k/\k<=n/\nS V kind neg l=nS V kind neg (l.drop k)/\Ext w wr
def GtL (V:Ex->Bool) (kind:Int) (l:List dY) (n:Nat) (w:World) (v i:Value) (wr:World):Prop:=∃k:Nat,v=.int .i64 (vX V kind (l.take k))/\i=.int .i64 k/\k<=n/\Ext w wr
def aYT (wr:World) (_:ZN) (_:Nat->Value) (W:World):Prop:=Ext wr W
def aF6 (_b0:Nat) (sa:OA) (sn sc b off n c:Nat) (fa:OA) (fn fc k:Nat) (kind:Int) (neg:Bool) (v:jm) (Q:Bool):Nat->Value->World->Prop
 | 0,u,_=>u=.slice (some ⟨b,off,none⟩) n c
 | 1,u,_=>u=.int .i64 k
 | 2,u,_=>u=.pointer (some ⟨b,off+k*10,none⟩)
 | 3,u,_=>u=.pointer (some ⟨b,off+k*10,none⟩)
 | 4,u,_=>u=.int .i64 v.kind
 | 5,u,_=>u=.int .i64 kind
 | 6,u,_=>u=.bool true
 | 7,u,_=>u=.bool true
 | 8,u,_=>u=.agg #[.slice sa sn sc]
 | 9,u,_=>u=.slice (some ⟨b,off,none⟩) n c
 | 10,u,_=>u=.slice (some ⟨b,off,none⟩) n c
 | 11,u,_=>u=.int .i64 k
 | 12,u,_=>u=.pointer (some ⟨b,off+k*10,none⟩)
 | 13,u,_=>u=.agg #[.int .i64 v.kind,.string v.name,.int .i64 v.x.op,.string v.x.name,.slice v.x.aw v.x.nw v.x.cw,.int .i64 v.x.lo,.int .i64 v.x.hi,.slice v.x.aa v.x.na v.x.ca,.slice v.au v.nu v.cu,.int .i64 v.amount]
 | 14,u,_=>u=.slice fa fn fc
 | 15,u,_=>u=.bool Q
 | 16,u,_=>u=.bool neg
 | 17,u,_=>u=.bool (Q != neg)
 | _,u,_=>u=.bool (Q != neg)
def aGk (_b0:Nat) (sa:OA) (sn sc b off n c:Nat) (fa:OA) (fn fc k:Nat) (kind:Int) (v:jm) (Q:Bool):Nat->Value->World->Prop
 | 0,u,_=>u=.slice (some ⟨b,off,none⟩) n c
 | 1,u,_=>u=.int .i64 k
 | 2,u,_=>u=.pointer (some ⟨b,off+k*10,none⟩)
 | 3,u,_=>u=.pointer (some ⟨b,off+k*10,none⟩)
 | 4,u,_=>u=.int .i64 v.kind
 | 5,u,_=>u=.int .i64 kind
 | 6,u,_=>u=.bool true
 | 7,u,_=>u=.bool true
 | 8,u,_=>u=.agg #[.slice sa sn sc]
 | 9,u,_=>u=.slice (some ⟨b,off,none⟩) n c
 | 10,u,_=>u=.slice (some ⟨b,off,none⟩) n c
 | 11,u,_=>u=.int .i64 k
 | 12,u,_=>u=.pointer (some ⟨b,off+k*10,none⟩)
 | 13,u,_=>u=.agg #[.int .i64 v.kind,.string v.name,.int .i64 v.x.op,.string v.x.name,.slice v.x.aw v.x.nw v.x.cw,.int .i64 v.x.lo,.int .i64 v.x.hi,.slice v.x.aa v.x.na v.x.ca,.slice v.au v.nu v.cu,.int .i64 v.amount]
 | 14,u,_=>u=.slice fa fn fc
 | 15,u,_=>u=.bool Q
 | _,u,_=>u=.bool Q
theorem auJ {w0:World} {sa:OA} {sn sc:Nat} {l:List dY} {a:OA} {n c:Nat} {fa:OA} {fn fc:Nat} {V:Ex->Bool} {P:Ex->Prop} (hv:aBN w0 sa sn sc l a n c fa fn fc V P) (kind:Int) (neg:Bool) (w:World) (hx0:Ext w0 w) :
  Calls Tryz.prog 62 #[.agg #[.slice sa sn sc],.slice a n c,.int .i64 kind,.slice fa fn fc,.bool neg] w (dN (.bool (nS V kind neg l)) w):=by
 have HN:=ak hv.WT.len;have HC:=ak hv.WT;have hn:=hv.few;have Zp:=ak (fun (k:Nat) (hk:k<l.length) (v:jm) W (hW:Ext w W) (hcl:kR W l[k] v)=>EG hv.tr l[k] v W (hx0.trans hW) (hv.ok _ (aI hk)).1 (hv.ok _ (aI hk)).2.1 (hv.ok _ (aI hk)).2.2 hcl);have HX0:=ak hx0;clear hv hx0;obtain⟨wa,dW⟩:∃wa,wa=w.alloc (.cells #[.slice sa sn sc] 24):=⟨_,rfl⟩
 have fE:=ak (show Ext w wa by rw[dW];exact(Ext.refl _).alloc _);have Yt:=ak (show wa.heap[w.heap.size]?=some (.cells #[.slice sa sn sc] 24 (0,0)) by rw[dW];exact dG w _);go_enter Tryz.func62,Tryz.ntmps62
 go_upto_region 1 with fail
 rw[<-dW];clear dW;go_wp2_with fail
 go_loopw [11] (SmL V kind neg l n wa) (fun i _=>n - (intOf i).toNat)
 case atStart=>exact⟨0,rfl,Nat.zero_le _,rfl,Ext.refl _⟩
 case round =>
  obtain⟨k,rfl,hk,hv,hx⟩:=hrel;obtain⟨wo,rfl⟩:∃wo:World,wo=wr:=⟨_,rfl⟩
  have HV:=ak hv;have HX:=ak hx;obtain⟨b0,hb0⟩:∃b0,b0=w.heap.size:=⟨_,rfl⟩
  rw[<-hb0] at Yt ⊢;obtain⟨s0,sf⟩:=gQ (hx.blk Yt.o);clear hv hx hb0;by_cases hkn:k<n
  ·have hkl:k<l.length:=by have:=HN.o;omega
   have t1:=ah ((k:Int)<(n:Int));have tk0:(0:Int)<=(k:Int):=by omega
   have tk1:(k:Int)<(n:Int):=by omega
   obtain⟨b,off,v,rfl,hcl,hrow⟩:=(HC.o.ext (HX0.o.trans (fE.o.trans HX.o))).at hkl;obtain⟨c0,c1,c2,c3,c4,c5,c6,c7,c8,c9⟩:=hrow.ten;have hvk:v.kind=l[k].kind:=hcl.1;have xJ:=ak (fun W (hW:Ext wo W)=>Zp.o k hkl v W ((fE.o.trans HX.o).trans hW) (hcl.mono hW.sub));have HST:=ak (ayk V kind neg hkl);rw[<-hvk] at HST;obtain⟨Q,hQ⟩:∃Q,Q=oK V l[k]:=⟨_,rfl⟩
   rw[<-hQ] at xJ HST;clear hrow hcl hvk hQ Zp;cases hq:(v.kind==kind)
   ·have HQ:=ak hq;go_wp2_with fail
    go_quiet (fail)
    go_wp2_with fail
    go_roundw
    case rel=>exact⟨k+1,by go_num,by omega,by rw[HV.o,HST.o,HQ.o];rfl,HX.o.drewN _⟩
    case measure=>simp[intOf];omega
   have HQ:=ak hq;go_upto_region 4 with fail
   refine fM (n:=37) (m:=19) [18] (aYT wo) SX (zu (aF6 b0 sa sn sc b off n c fa fn fc k kind neg v Q)) (by kernel_rfl) (by kernel_rfl) (Nat.le_of_ble_eq_true rfl) ?gd ((Ext.refl wo).drew) ?_ ?_ ?_
   case gd =>
    intro i o j b hi ho hg;rcases ltc19 hi with rfl|rfl|rfl|rfl|rfl|rfl|rfl|rfl|rfl|rfl|rfl|rfl|rfl|rfl|rfl|rfl|rfl|rfl|rfl<;>(cases ho;first|(cases hg;done)|(cases hg;intro v W h;exact h))
   ·intro i k v W W' hi hk hne hout h hE;have hE:Ext W W':=hE;have hi':=ltc19 hi;clear hi hk hne hout;rcases hi' with rfl|rfl|rfl|rfl|rfl|rfl|rfl|rfl|rfl|rfl|rfl|rfl|rfl|rfl|rfl|rfl|rfl|rfl|rfl
    ·exact h
    ·exact h
    ·exact h
    ·exact h
    ·exact h
    ·exact h
    ·exact h
    ·exact h
    ·exact h
    ·exact h
    ·exact h
    ·exact h
    ·exact h
    ·exact h
    ·exact h
    ·exact h
    ·exact h
    ·exact h
    exact h
   ·intro q op hq ho L vs W dR hcL hW hd ρ hρ;have hq':=ltc19 hq;clear hq;have o1:ρ (.tmp 1)=.slice (some ⟨b,off,none⟩) n c:=hρ.out 1 rfl;have o11:ρ (.tmp 11)=.int .i64 k:=hρ.out 11 rfl;have i0:=hρ.i 0 18;have i1:=hρ.i 1 19;have i2:=hρ.i 2 20;have i3:=hρ.i 3 21;have o2:ρ (.tmp 2)=.int .i64 kind:=hρ.out 2 rfl;have i4:=hρ.i 4 22;have i5:=hρ.i 5 23;have i6:=hρ.i 6 24;have o5:ρ (.tmp 5)=.pointer (some ⟨b0,0,none⟩):=hρ.out 5 rfl;have AA:=hρ.i 10 28;have i11:=hρ.i 11 29;have i12:=hρ.i 12 30;have o3:ρ (.tmp 3)=.slice fa fn fc:=hρ.out 3 rfl;have i8:=hρ.i 8 26;have i9:=hρ.i 9 27;have Nr:=hρ.i 13 31;have SB:=hρ.i 14 32;have o4:ρ (.tmp 4)=.bool neg:=hρ.out 4 rfl;have VW:=hρ.i 15 33;have i16:=hρ.i 16 34;have i7:=hρ.i 7 25;have i17:=hρ.i 17 35;have hc:=hρ.const;have hfn:=hρ.func;clear hρ;have HG:=ak hW;have HW:=ak (show Ext wo W from hW);have fV:=ak dR;clear hW dR hcL;have kf0:=HW.o.cell s0;have kf1:=HW.o.cell c0;have kf2:=HW.o.cell c1;have kf3:=HW.o.cell c2;have kf4:=HW.o.cell c3;have kf5:=HW.o.cell c4;have kf6:=HW.o.cell c5;have kf7:=HW.o.cell c6;have kf8:=HW.o.cell c7;have kf9:=HW.o.cell c8;have adA:=HW.o.cell c9;by_cases ae':q=15
    ·subst ae';clear hq';cases ho
     have h8:vs 8=_:=hd ⟨8,.data⟩ (by simp) rfl;rw[h8] at i8;have h9:vs 9=_:=hd ⟨9,.data⟩ (by simp) rfl;rw[h9] at i9;have h13:vs 13=_:=hd ⟨13,.data⟩ (by simp) rfl;rw[h13] at Nr;have Sr:vs 14=_:=hd ⟨14,.data⟩ (by simp) rfl;rw[Sr] at SB;clear hd;unfold dF;go_simp;refine(xJ.o W HW.o).mono ?_;rintro r w5 ⟨rfl,hx5⟩;exact⟨_,rfl,hx5,HW.o.trans hx5,rfl⟩
    rcases hq' with rfl|rfl|rfl|rfl|rfl|rfl|rfl|rfl|rfl|rfl|rfl|rfl|rfl|rfl|rfl|rfl|rfl|rfl|rfl
    all_goals first|(exact absurd rfl ae';done)|skip
    all_goals
     cases ho
     simp[qg,zu,aF6] at hd;clear ae';unfold dF;go_simp;exact⟨Ext.refl _,HW.o,rfl⟩
   intro L vs W pR hW hR;rw[dw (by decide +kernel)];have h18:vs 18=.bool (Q != neg):=hR 18 (by simp) (by omega);simp only[acts,gK,List.range,List.range.loop,bF,dA,h18];go_simp;have hW2:Ext wo W:=hW;clear hR hW pR h18;cases hqn:(Q != neg)
   ·have HQN:=ak hqn;go_wp2_with fail
    go_roundw
    case rel=>exact⟨k+1,by go_num,by omega,by rw[HV.o,HST.o,HQ.o,HQN.o];rfl,HX.o.trans hW2⟩
    case measure=>simp[intOf];omega
   have HQN:=ak hqn;have HR:=ak (show nS V kind neg l=true by rw[HV.o,HST.o,HQ.o,HQN.o];rfl);go_wp2_with fail
   go_ret;exact dL (by rw[HR.o]) (fE.o.trans (HX.o.trans hW2))
  have t1:=aj ((k:Int)<(n:Int));have HQ:=ak (show nS V kind neg l=false by
   rw[HV.o,show k=l.length by have:=HN.o;omega,List.drop_length,nS])
  go_wp2_with fail
  go_ret;exact dL (by rw[HQ.o]) (fE.o.trans HX.o)
theorem ail {w0:World} {sa:OA} {sn sc:Nat} {l:List dY} {a:OA} {n c:Nat} {fa:OA} {fn fc:Nat} {V:Ex->Bool} {P:Ex->Prop} (hv:aBN w0 sa sn sc l a n c fa fn fc V P) (kind:Int) (w:World) (hx0:Ext w0 w) :
  Calls Tryz.prog 63 #[.agg #[.slice sa sn sc],.slice a n c,.int .i64 kind,.slice fa fn fc] w (dN (.int .i64 (vX V kind l)) w):=by
 have HN:=ak hv.WT.len;have HC:=ak hv.WT;have hn:=hv.few;have Zp:=ak (fun (k:Nat) (hk:k<l.length) (v:jm) W (hW:Ext w W) (hcl:kR W l[k] v)=>EG hv.tr l[k] v W (hx0.trans hW) (hv.ok _ (aI hk)).1 (hv.ok _ (aI hk)).2.1 (hv.ok _ (aI hk)).2.2 hcl);have HX0:=ak hx0;clear hv hx0;obtain⟨wa,dW⟩:∃wa,wa=w.alloc (.cells #[.slice sa sn sc] 24):=⟨_,rfl⟩
 have fE:=ak (show Ext w wa by rw[dW];exact(Ext.refl _).alloc _);have Yt:=ak (show wa.heap[w.heap.size]?=some (.cells #[.slice sa sn sc] 24 (0,0)) by rw[dW];exact dG w _);go_enter Tryz.func63,Tryz.ntmps63
 go_upto_region 1 with fail
 rw[<-dW];clear dW;go_wp2_with fail
 go_loopw [9,10] (GtL V kind l n wa) (fun _ i _=>n - (intOf i).toNat)
 case atStart=>exact⟨0,rfl,rfl,Nat.zero_le _,Ext.refl _⟩
 case round =>
  obtain⟨k,rfl,rfl,hk,hx⟩:=hrel;obtain⟨wo,rfl⟩:∃wo:World,wo=wr:=⟨_,rfl⟩
  have HX:=ak hx;obtain⟨b0,hb0⟩:∃b0,b0=w.heap.size:=⟨_,rfl⟩
  rw[<-hb0] at Yt ⊢;obtain⟨s0,sf⟩:=gQ (hx.blk Yt.o);clear hx hb0;by_cases hkn:k<n
  ·have hkl:k<l.length:=by have:=HN.o;omega
   have t1:=ah ((k:Int)<(n:Int));have tk0:(0:Int)<=(k:Int):=by omega
   have tk1:(k:Int)<(n:Int):=by omega
   obtain⟨b,off,v,rfl,hcl,hrow⟩:=(HC.o.ext (HX0.o.trans (fE.o.trans HX.o))).at hkl;obtain⟨c0,c1,c2,c3,c4,c5,c6,c7,c8,c9⟩:=hrow.ten;have hvk:v.kind=l[k].kind:=hcl.1;have hva:v.amount=l[k].amount:=hcl.2.2.2.2.2.2.2;have xJ:=ak (fun W (hW:Ext wo W)=>Zp.o k hkl v W ((fE.o.trans HX.o).trans hW) (hcl.mono hW.sub));have HST:=ak (av1 V kind hkl);obtain⟨G,hG⟩:∃G,G=vX V kind (l.take k):=⟨_,rfl⟩
   rw[<-hG] at HST ⊢;have Yl:=ak (show vX V kind (l.take (k+1))=if (v.kind==kind&&oK V l[k])=true then max G v.amount else G by rw[HST.o,uD,hvk,hva]);obtain⟨Q,hQ⟩:∃Q,Q=oK V l[k]:=⟨_,rfl⟩
   rw[<-hQ] at xJ Yl;clear hrow hcl hvk hva hQ Zp hG HST;cases hq:(v.kind==kind)
   ·have HQ:=ak hq;go_wp2_with fail
    go_quiet (fail)
    go_wp2_with fail
    go_roundw
    case rel=>exact⟨k+1,by rw[Yl.o,HQ.o];rfl,by go_num,by omega,HX.o.drewN _⟩
    case measure=>simp[intOf];omega
   have HQ:=ak hq;go_upto_region 5 with fail
   refine fM (n:=42) (m:=17) [16] (aYT wo) SX (zu (aGk b0 sa sn sc b off n c fa fn fc k kind v Q)) (by kernel_rfl) (by kernel_rfl) (Nat.le_of_ble_eq_true rfl) ?gd ((Ext.refl wo).drew) ?_ ?_ ?_
   case gd =>
    intro i o j b hi ho hg;have hi':i=0\/i=1\/i=2\/i=3\/i=4\/i=5\/i=6\/i=7\/i=8\/i=9\/i=10\/i=11\/i=12\/i=13\/i=14\/i=15\/i=16:=by omega
    rcases hi' with rfl|rfl|rfl|rfl|rfl|rfl|rfl|rfl|rfl|rfl|rfl|rfl|rfl|rfl|rfl|rfl|rfl<;>(cases ho;first|(cases hg;done)|(cases hg;intro v W h;exact h))
   ·intro i k v W W' hi hk hne hout h hE;have hE:Ext W W':=hE;have hi':i=0\/i=1\/i=2\/i=3\/i=4\/i=5\/i=6\/i=7\/i=8\/i=9\/i=10\/i=11\/i=12\/i=13\/i=14\/i=15\/i=16:=by omega
    clear hi hk hne hout;rcases hi' with rfl|rfl|rfl|rfl|rfl|rfl|rfl|rfl|rfl|rfl|rfl|rfl|rfl|rfl|rfl|rfl|rfl
    ·exact h
    ·exact h
    ·exact h
    ·exact h
    ·exact h
    ·exact h
    ·exact h
    ·exact h
    ·exact h
    ·exact h
    ·exact h
    ·exact h
    ·exact h
    ·exact h
    ·exact h
    ·exact h
    exact h
   ·intro q op hq ho L vs W dR hcL hW hd ρ hρ;have hq':q=0\/q=1\/q=2\/q=3\/q=4\/q=5\/q=6\/q=7\/q=8\/q=9\/q=10\/q=11\/q=12\/q=13\/q=14\/q=15\/q=16:=by omega
    clear hq;have o1:ρ (.tmp 1)=.slice (some ⟨b,off,none⟩) n c:=hρ.out 1 rfl;have o10:ρ (.tmp 10)=.int .i64 k:=hρ.out 10 rfl;have i0:=hρ.i 0 17;have i1:=hρ.i 1 18;have i2:=hρ.i 2 19;have i3:=hρ.i 3 20;have o2:ρ (.tmp 2)=.int .i64 kind:=hρ.out 2 rfl;have i4:=hρ.i 4 21;have i5:=hρ.i 5 22;have i6:=hρ.i 6 23;have o4:ρ (.tmp 4)=.pointer (some ⟨b0,0,none⟩):=hρ.out 4 rfl;have AA:=hρ.i 10 27;have i11:=hρ.i 11 28;have i12:=hρ.i 12 29;have o3:ρ (.tmp 3)=.slice fa fn fc:=hρ.out 3 rfl;have i8:=hρ.i 8 25;have i9:=hρ.i 9 26;have Nr:=hρ.i 13 30;have SB:=hρ.i 14 31;have i7:=hρ.i 7 24;have VW:=hρ.i 15 32;have hc:=hρ.const;have hfn:=hρ.func;clear hρ;have HG:=ak hW;have HW:=ak (show Ext wo W from hW);have fV:=ak dR;clear hW dR hcL;have kf0:=HW.o.cell s0;have kf1:=HW.o.cell c0;have kf2:=HW.o.cell c1;have kf3:=HW.o.cell c2;have kf4:=HW.o.cell c3;have kf5:=HW.o.cell c4;have kf6:=HW.o.cell c5;have kf7:=HW.o.cell c6;have kf8:=HW.o.cell c7;have kf9:=HW.o.cell c8;have adA:=HW.o.cell c9;by_cases ae':q=15
    ·subst ae';clear hq';cases ho
     have h8:vs 8=_:=hd ⟨8,.data⟩ (by simp) rfl;rw[h8] at i8;have h9:vs 9=_:=hd ⟨9,.data⟩ (by simp) rfl;rw[h9] at i9;have h13:vs 13=_:=hd ⟨13,.data⟩ (by simp) rfl;rw[h13] at Nr;have Sr:vs 14=_:=hd ⟨14,.data⟩ (by simp) rfl;rw[Sr] at SB;clear hd;unfold dF;go_simp;refine(xJ.o W HW.o).mono ?_;rintro r w5 ⟨rfl,hx5⟩;exact⟨_,rfl,hx5,HW.o.trans hx5,rfl⟩
    rcases hq' with rfl|rfl|rfl|rfl|rfl|rfl|rfl|rfl|rfl|rfl|rfl|rfl|rfl|rfl|rfl|rfl|rfl
    all_goals first|(exact absurd rfl ae';done)|skip
    all_goals
     cases ho
     simp[qg,zu,aGk] at hd;clear ae';unfold dF;go_simp;exact⟨Ext.refl _,HW.o,rfl⟩
   intro L vs W pR hW hR;rw[dw (by decide +kernel)];have h16:vs 16=.bool Q:=hR 16 (by simp) (by omega);simp only[acts,gK,List.range,List.range.loop,bF,dA,h16];go_simp;have hW2:Ext wo W:=hW;clear hR hW pR h16;have HW2:=ak hW2;have e0:=hW2.cell c9;clear hW2;cases Q
   ·go_wp2_with fail
    go_roundw
    case rel=>exact⟨k+1,by rw[Yl.o,HQ.o];rfl,by go_num,by omega,HX.o.trans HW2.o⟩
    case measure=>simp[intOf];omega
   go_wp2_with fail
   go_roundw
   case rel=>exact⟨k+1,by first|(rw[Yl.o,HQ.o,dw (show (true&&true)=true from rfl)];done)|(rw[Yl.o,HQ.o,dw (show (true&&true)=true from rfl),Int.max_def];congr 1;split<;>split<;>omega),by go_num,by omega,HX.o.trans HW2.o⟩
   case measure=>simp[intOf];omega
  have t1:=aj ((k:Int)<(n:Int));have HQ:=ak (show l.take k=l from aY (by have:=HN.o;omega));rw[HQ.o];go_wp2_with fail
  go_ret;exact dP rfl (fE.o.trans HX.o)
def aau (o:Oper):Bool:=match o.op with
 | .call c=>(match c.callee with|.builtin .len=>true|.builtin .cap=>true|.builtin .min=>true|.builtin .max=>true|_=>false)
 | .move _|.assign _|.pick ..|.build ..|.load ..|.binOp ..|.unOp ..|.convert ..|.makeInterface ..|.slice ..|.fieldAddr ..|.field ..|.indexAddr ..|.index ..|.lookup ..|.typeAssert ..|.extract ..|.alloc ..|.box ..|.buildSlice ..|.makeSlice ..|.makeMap ..|.makeFunc ..=>true
 | _=>false
theorem ay9 (s:Sem Value) (P:Program) (W:World) (f:FuncId) (args:Array Value) (W':World):(do pure (.value (<-s)):Sem Next).run P W≠.ok (.enter f args) W':=by
 rw[Sem.run_bind];cases s.run P W<;>simp[Result.andThen,Sem.run_pure]
theorem ay' (v:Value) (P:Program) (W:World) (f:FuncId) (args:Array Value) (W':World):(pure (.value v):Sem Next).run P W≠.ok (.enter f args) W':=by
 simp[Sem.run_pure]
theorem aeT {o:Oper} (h:aau o=true) (ρ:Operand->Value) (P:Program) (W:World) (f:FuncId) (args:Array Value) (W':World):(execOp ρ o).run P W≠.ok (.enter f args) W':=by
 unfold aau at h;unfold execOp;split at h
 ·rename_i c ho
  simp only[ho];split at h
  all_goals first
   | (cases h;done)
   | (rename_i hc;simp only[resolve,hc,Sem.run_bind,Sem.run_pure,Result.andThen,invoke,builtin];generalize (Sem.run P _ W)=r;cases r<;>simp)
 all_goals first
  | (cases h;done)
  | (rename_i ho;simp only[ho];exact ay9 _ _ _ _ _ _)
  | (rename_i ho;simp only[ho];exact ay' _ _ _ _ _ _)
  | (rename_i ho;simp only[ho];rw[Sem.run_bind];generalize (Sem.run P _ W)=r;cases r<;>simp[Result.andThen,Sem.run_pure])
def WIn (C:World->Prop):={W:World // C W}
def Det (P:Program) (ops:Array Oper) (o:Oper) (A:Act) (W:World) (v:Value) (W':World):Prop :=
 (Region.wanted o (yielded ops A.tmps)=true/\((execOp A.eval o).run P W=.ok (.value v) W'\/((execOp A.eval o).run P W=.ok .skip W'/\v=undef))) \/
 (Region.wanted o (yielded ops A.tmps)=false/\v=undef/\W'=W)
theorem Det.same {P:Program} {ops:Array Oper} {o:Oper} {A:Act} {W:World} {v v2:Value} {W' W2:World} (h:Det P ops o A W v W') (k:Det P ops o A W v2 W2):v=v2/\W'=W2:=by
 unfold Det at h k;rcases h with ⟨h1,h2⟩|⟨h1,h2,h3⟩<;>rcases k with ⟨k1,k2⟩|⟨k1,k2,k3⟩
 ·rcases h2 with h2|⟨h2,h4⟩<;>rcases k2 with k2|⟨k2,k4⟩<;>rw[h2] at k2<;>cases k2
  ·exact⟨rfl,rfl⟩
  exact⟨by rw[h4,k4],rfl⟩
 ·rw[h1] at k1;cases k1
 ·rw[h1] at k1;cases k1
 exact⟨by rw[h2,k2],by rw[h3,k3]⟩
def afP (P:Program) (ops:Array Oper) (o:Oper) (A:Act) (W:World) (T:Value->World->Prop):Prop :=
 if Region.wanted o (yielded ops A.tmps)=true then dF P o A.eval W T else T undef W
theorem Det.outs {P:Program} {ops:Array Oper} {o:Oper} {A:Act} {W:World} {v:Value} {W':World} {T:Value->World->Prop} (h:Det P ops o A W v W') (ht:T v W'):afP P ops o A W T:=by
 unfold afP;rcases h with ⟨h1,h2⟩|⟨h1,h2,h3⟩
 ·rw[dw h1];unfold dF;rcases h2 with h2|⟨h2,h4⟩<;>rw[h2]
  ·exact ht
  rw[h4] at ht;exact ht
 rw[h1,dh (by simp),<-h2,<-h3];exact ht
theorem dF.mono {P:Program} {o:Oper} {ρ:Operand->Value} {W:World} {T T':Value->World->Prop} (h:dF P o ρ W T) (ht:∀v W',T v W'->T' v W'):dF P o ρ W T':=by
 unfold dF at *;split at h
 ·exact ht _ _ h
 ·exact ht _ _ h
 ·refine Calls.mono h (fun e w'' he=>?_);obtain⟨v,hv,hk⟩:=he;exact⟨v,hv,ht _ _ hk⟩
 exact h
theorem afP.mono {P:Program} {ops:Array Oper} {o:Oper} {A:Act} {W:World} {T T':Value->World->Prop} (h:afP P ops o A W T) (ht:∀v W',T v W'->T' v W'):afP P ops o A W T':=by
 unfold afP at *;split
 ·rename_i hw;rw[dw hw] at h;exact h.mono ht
 rename_i hw;rw[dh hw] at h;exact ht _ _ h
def aio (ops:Array Oper) (m:Nat):Bool :=
 Region.noSelect ops&&decide (m<=ops.size) &&
 ((List.range ops.size).all fun i=>(List.range ops.size).all fun j=>i==j||gK ops i==none||gK ops i != gK ops j) &&
 ((List.range ops.size).all fun i=>match ops[i]? with
  | none=>false
  | some o=>(o.after.all fun e=>!Region.binds .any e||decide (e.on<i)) &&
   (decide (m<=i)||(List.range m).all fun j=>match gK ops j with
    | none=>true
    | some t=>!(o.looksAt ops).contains t||o.after.any (fun e=>Region.binds .any e&&e.on==j)) &&
   (decide (i<m)||(List.range i).all fun j=>o.after.any (fun e=>Region.binds .any e&&e.on==j)))
theorem Qa {ops:Array Oper} {m:Nat} (h:aio ops m=true):Region.noSelect ops=true/\m<=ops.size/\NP ops /\
  (∀i o,ops[i]?=some o->(∀e∈o.after,Region.binds .any e=true->e.on<i)/\(i<m->∀j t,j<m->gK ops j=some t->t∈o.looksAt ops->∃e∈o.after,Region.binds .any e=true/\e.on=j) /\
   (m<=i->∀j,j<i->∃e∈o.after,Region.binds .any e=true/\e.on=j)):=by
 simp only[aio,aJ,aN] at h;obtain⟨⟨⟨h1,h2⟩,h4⟩,h5⟩:=h;refine⟨h1,h2,?_,?_⟩
 ·intro i j d hi hj;have hlt:∀i,gK ops i=some d->i<ops.size:=fun i hi=>by
   unfold gK at hi;rcases cO i ops.size with h|h
   ·exact h
   rw[Array.getElem?_eq_none h] at hi;simp at hi
  have:=aV.1 (aV.1 h4 i (by simpa using hlt i hi)) j (by simpa using hlt j hj);simpa[hi,hj] using this
 intro i o ho;have h6:=aV.1 h5 i (by simpa using (aW.1 ho).1);simp only[ho,aJ] at h6;obtain⟨⟨g2,g3⟩,g4⟩:=h6;have hany:∀j,o.after.any (fun e=>Region.binds .any e&&e.on==j)=true->∃e∈o.after,Region.binds .any e=true/\e.on=j:=fun j h=>by
  obtain⟨e,he,hb⟩:=Array.any_eq_true'.1 h;simp only[aJ,beq_iff_eq] at hb;exact⟨e,he,hb.1,hb.2⟩
 refine⟨fun e he hb=>?_,fun hm j t hjm hj ht=>?_,fun hm j hj=>?_⟩
 ·have:=Array.all_eq_true_iff_forall_mem.1 g2 e he;rw[hb] at this;simpa using this
 ·rcases Bool.or_eq_true_iff.1 g3 with g|g
  ·simp only[aN] at g;omega
  have:=aV.1 g j (by simpa using hjm);rw[hj] at this;simp only[bV,Bool.not_eq_true'] at this;rcases this with h|h
  ·rw[List.contains_iff_mem.2 ht] at h;cases h
  exact hany j h
 rcases Bool.or_eq_true_iff.1 g4 with g|g
 ·simp only[aN] at g;omega
 exact hany j (aV.1 g j (by simpa using hj))
def aNP (ops:Array Oper) (L:ZN):Prop:=∀i∈L,∀o,ops[i]?=some o->∀e∈o.after,Region.binds .any e=true->e.on∈L
section
variable {P:Program} {ops:Array Oper} {Q:Exit->Act->World->Prop} {a:Act} {m:Nat}
theorem axQ (hok:aio ops m=true):∀(r i fuel:Nat) (listed:Array Bool) (a:Act) (w:World),m<=i->i+r=ops.size->r<=fuel->listed.size=ops.size->(∀j,j<ops.size->(listed.getD j true=true ↔ j<i))->wpList P ops Q (ops.toList.drop i) a w->wpAny P .any ops Q fuel listed a w:=by
 obtain⟨-,-,-,hspec⟩:=Qa hok;intro r;induction r with
 | zero =>
  intro i fuel listed a w hmi hir hf hsz hL h;rw[List.drop_eq_nil_of_le (by simp;omega)] at h;refine wpAny_done ?_ h fuel;rw[List.eq_nil_iff_forall_not_mem];intro j hj;obtain⟨h0,o,ho,_⟩:=mem_ready.1 hj;have:=(hL j (aW.1 ho).1).2 (by have:=(aW.1 ho).1;omega);rw[this] at h0;cases h0
 | succ r ih =>
  intro i fuel listed a w hmi hir hf hsz hL h;obtain⟨fuel,rfl⟩:∃f,fuel=f+1:=⟨fuel - 1,by omega⟩
  have his:i<ops.size:=by omega
  have hget:∀j,j<i->listed.getD j false=true:=fun j hj=>by
   have:=(hL j (by omega)).2 hj;have hin:j<listed.size:=by omega
   simpa[Array.getD,hin] using this
  have aHr:i∈Region.ready .any ops listed:=by
   rw[mem_ready];refine⟨?_,ops[i],bG his,fun e he hb=>hget _ ((hspec i _ (bG his)).1 e he hb)⟩;cases hx:listed.getD i true
   ·rfl
   have:=(hL i his).1 hx;omega
  refine⟨fun hr=>by rw[hr] at aHr;simp at aHr,fun j hj=>?_⟩;obtain⟨h0,o,ho,azE⟩:=mem_ready.1 hj;have hjs:=(aW.1 ho).1;have hge:¬j<i:=fun hlt=>by rw[(hL j hjs).2 hlt] at h0;cases h0
  have hji:j=i:=by
   rcases cO i j with hlt|hle
   ·obtain⟨e,he,hb,rfl⟩:=(hspec j o ho).2.2 (by omega) i hlt;have h1:=azE e he hb;have hin:e.on<listed.size:=by omega
    have h2:listed.getD e.on true=true:=by simpa[Array.getD,hin] using h1
    have:=(hL _ his).1 h2;omega
   omega
  subst hji;have hd:ops.toList.drop j=o::ops.toList.drop (j+1):=by
   rw[List.drop_eq_getElem_cons (by simpa using hjs)]
   congr 1
   have:=(aW.1 ho).2;simpa using this
  rw[hd] at h;have hnext:∀a' w',wpList P ops Q (ops.toList.drop (j+1)) a' w'->wpAny P .any ops Q fuel (listed.setIfInBounds j true) a' w':=fun a' w' h'=>by
   refine ih (j+1) fuel _ a' w' (by omega) (by omega) (by omega) (by simpa using hsz) (fun q hq=>?_) h';by_cases hjq:j=q
   ·subst hjq;simp[hsz,hjs]
   rw[getD_set_ne true hjq,hL q hq];omega
  unfold wpOp;simp only[ho];unfold wpList at h;split
  ·rename_i hw;rw[dw hw] at h;exact h.imp (Oper.wp_mono hnext) id
  rename_i hw;rw[dh hw] at h;exact hnext _ _ h
theorem axS (G:ZN->(Nat->Value)->World->Prop) (hok:aio ops m=true)
  (hstep:∀i o,i<m->ops[i]?=some o->∀L vs W,i∉L->(∀j∈L,j<m)->aNP ops L->(∀e∈o.after,Region.binds .any e=true->e.on∈L)->G L vs W->afP P ops o (acts ops a vs L) W (fun v W'=>G (L++[i]) (upd vs i v) W'))
  (hend:∀L vs W,(∀j,j<m->j∈L)->G L vs W->wpList P ops Q (ops.toList.drop m) (acts ops a vs (List.range m)) W) :
  ∀(fuel:Nat) (L:ZN) (vs:Nat->Value) (W:World) (listed:Array Bool),listed.size=ops.size->(∀j,j<ops.size->(listed.getD j true=true ↔ j∈L))->L.Nodup->(∀j∈L,j<m)->((List.range ops.size).filter (fun j=>!L.contains j)).length<=fuel->aNP ops L->G L vs W ->
   wpAny P .any ops Q fuel listed (acts ops a vs L) W:=by
 obtain⟨hns,hm1,hda,hspec⟩:=Qa hok
 have hfin:∀(fuel:Nat) (L:ZN) (vs:Nat->Value) (W:World) (listed:Array Bool),listed.size=ops.size->(∀j,j<ops.size->(listed.getD j true=true ↔ j∈L))->L.Nodup->(∀j∈L,j<m)->(∀j,j<m->j∈L)->((List.range ops.size).filter (fun j=>!L.contains j)).length<=fuel->G L vs W->wpAny P .any ops Q fuel listed (acts ops a vs L) W:=by
  intro fuel L vs W listed hsz hL hnd pR hcov hlen hE;have hmem:∀j,j∈L ↔ j<m:=fun j=>⟨pR j,hcov j⟩
  rw[ab6 hda (L':=List.range m) ((List.perm_ext_iff_of_nodup hnd List.nodup_range).2 (fun j=>by rw[hmem j,List.mem_range]))];refine axQ hok (ops.size - m) m fuel listed _ _ (bg _) (by omega) ?_ hsz (fun j hj=>by rw[hL j hj,hmem]) (hend L vs W hcov hE);refine bC ?_ hlen;have h1:(List.range' m (ops.size - m)).Sublist ((List.range ops.size).filter (fun j=>!L.contains j)):=by
   have h2:(List.range' m (ops.size - m))=(List.range' m (ops.size - m)).filter (fun j=>!L.contains j):=by
    rw[List.filter_eq_self.2];intro j hj;have:=List.mem_range'_1.1 hj;simp only[List.contains_eq_mem,Bool.not_eq_true',bZ,hmem];omega
   rw[h2];refine List.Sublist.filter _ ?_;rw[List.range_eq_range'];have:List.range' 0 ops.size=List.range' 0 m++List.range' m (ops.size - m):=by
    have:=@List.range'_append 0 m (ops.size - m) 1;simp only[Nat.one_mul,Nat.zero_add] at this;rw[this]
    congr 1
    omega
   rw[this];exact List.sublist_append_right _ _
  have:=h1.length_le;simpa using this
 intro fuel;induction fuel with
 | zero =>
  intro L vs W listed hsz hL hnd pR hlen hcl hE;refine hfin 0 L vs W listed hsz hL hnd pR (fun j hj=>?_) hlen hE;have h0:=aX (Nat.le_zero.1 hlen);have:j∉(List.range ops.size).filter (fun j=>!L.contains j):=by rw[h0];simp
  have hjs:j<ops.size:=by omega
  simpa[hjs] using this
 | succ fuel ih =>
  intro L vs W listed hsz hL hnd pR hlen hcl hE;by_cases hcov:∀j,j<m->j∈L
  ·exact hfin _ L vs W listed hsz hL hnd pR hcov hlen hE
  obtain⟨j0,hj0,hj1,hj2⟩:∃j,j<m/\j∉L/\∀i,i<j->i∈L:=by
   have:∃j,j<m/\j∉L:=by simpa using hcov
   obtain⟨j,hj,hn⟩:=this;induction j using Nat.strongRecOn with
   | _ j ihj =>
    by_cases hx:∀i,i<j->i∈L
    ·exact⟨j,hj,hn,hx⟩
    have:∃i,i<j/\i∉L:=by simpa using hx
    obtain⟨i,hi,hin⟩:=this;exact ihj i hi (by omega) hin
  have aHr:j0∈Region.ready .any ops listed:=by
   have hjs:j0<ops.size:=by omega
   rw[mem_ready];refine⟨?_,ops[j0],bG hjs,fun e he hb=>?_⟩
   ·cases hx:listed.getD j0 true
    ·rfl
    exact absurd ((hL j0 hjs).1 hx) hj1
   have hlt:=(hspec j0 _ (bG hjs)).1 e he hb;have:=(hL e.on (by omega)).2 (hj2 _ hlt);have hin:e.on<listed.size:=by omega
   simpa[Array.getD,hin] using this
  refine⟨fun hr=>by rw[hr] at aHr;simp at aHr,fun i hi=>?_⟩;obtain⟨h0,o,ho,azE⟩:=mem_ready.1 hi;have his:i<ops.size:=(aW.1 ho).1;have hiL:i∉L:=fun h=>by rw[(hL i his).2 h] at h0;cases h0
  have Nv:∀e∈o.after,Region.binds .any e=true->e.on∈L:=fun e he hb=>by
   have h1:=azE e he hb;have hlt:=(hspec i o ho).1 e he hb;have hin:e.on<listed.size:=by rw[hsz];omega
   exact(hL e.on (by omega)).1 (by simpa[Array.getD,hin] using h1)
  have him:i<m:=by
   rcases cO i m with h|h
   ·exact h
   obtain⟨e,he,hb,rfl⟩:=(hspec i o ho).2.2 h j0 (by omega);exact absurd (Nv e he hb) hj1
  have hcont:∀v W',G (L++[i]) (upd vs i v) W'->wpAny P .any ops Q fuel (listed.setIfInBounds i true) ((acts ops a vs L).put o.dst v) W':=by
   intro v W' hE';have e1:(acts ops a vs L).put o.dst v=acts ops a (upd vs i v) (L++[i]):=by
    rw[ab5,ad7 (vs:=upd vs i v) (vs':=vs) (fun j hj=>by unfold upd;rw[dh (fun e=>hiL (by rw[<-e];exact hj))])];simp[upd,gK,ho]
   rw[e1];refine ih (L++[i]) (upd vs i v) W' _ (by simpa using hsz) (fun j hj=>?_) ?_ ?_ ?_ ?_ hE'
   ·by_cases hij:i=j
    ·subst hij;simp[hsz,his]
    rw[getD_set_ne true hij,hL j hj];simp;intro e;exact absurd e.symm hij
   ·rw[List.nodup_append];exact⟨hnd,by simp,fun x hx y hy e=>by simp at hy;subst hy;subst e;exact hiL hx⟩
   ·intro j hj;rcases aT.1 hj with h|h
    ·exact pR j h
    simp at h;omega
   ·have h1:(List.range ops.size).filter (fun j=>!(L++[i]).contains j)=((List.range ops.size).filter (fun j=>!L.contains j)).filter (fun j=>j != i):=by
     rw[List.filter_filter]
     congr 1
     funext j
     simp only[List.contains_append,Bool.not_or];rw[Bool.and_comm]
     congr 1
     rw[bW];simp[bne]
    have h2:(((List.range ops.size).filter (fun j=>!L.contains j)).filter (fun j=>j != i)).length<((List.range ops.size).filter (fun j=>!L.contains j)).length:=by
     rw[List.length_filter_lt_length_iff_exists];exact⟨i,by simp[his,hiL],by simp⟩
    rw[h1];omega
   intro j hj o' ho' e he hb;rcases aT.1 hj with h|h
   ·exact aQ _ (hcl j h o' ho' e he hb)
   simp at h;subst h;rw[ho] at ho';cases ho'
   exact aQ _ (Nv e he hb)
  have hg:=hstep i o him ho L vs W hiL pR hcl Nv hE;unfold wpOp;simp only[ho];unfold afP at hg;split
  ·rename_i hw
   rw[dw hw] at hg
   left
   refine Oper.wp_mono ?_ (hg.wp rfl);rintro a' W' ⟨v,rfl,hk⟩;exact hcont v W' hk
  rename_i hw
  rw[dh hw] at hg;exact hcont _ _ hg
end
inductive Tr:Type 1
 | done
 | plain (v:Value) (next:Tr)
 | later (v:Value) (next:Tr)
 | alloc (val:Nat->Value) (F:Nat->World->Prop) (U:Bool) (next:Nat->Tr)
 | call (γ:Type) (val:γ->Value) (Φ:γ->World->Prop) (Ap:γ->Nat->Prop) (next:γ->Tr)
def FU (U:Bool) (F:Nat->World->Prop) (A:Nat->Prop) (g:Nat) (W:World):Prop:=F g W/\(U=true->g<W.heap.size/\A g)
section
variable (P:Program) (ops:Array Oper) (π:Nat->Nat) (Q:Exit->Act->World->Prop) (m:Nat) (Er:World->World->Prop) (C:World->Prop)
def Ok:Tr->Nat->Act->(World->Prop)->(World->Prop)->(Nat->Prop)->ZN->ZN->Prop
 | .done,k,ac,Φ,FA,_,_,_=>k=m/\∀W,C W->Φ W->FA W->wpList P ops Q (ops.toList.drop m) ac W
 | .plain v next,k,ac,Φ,FA,A,gh,pf=>k<m/\(∃o,ops[π k]?=some o/\∀W,C W->Det P ops o ac W v W)/\Ok next (k+1) (ac.put (gK ops (π k)) v) Φ FA A gh pf
 | .later v next,k,ac,Φ,FA,A,gh,pf=>k<m/\gh.all (fun j=>jd ops m (π k) j)=true/\(∃o,ops[π k]?=some o/\∀W,C W->Φ W->FA W->Det P ops o ac W v W)/\Ok next (k+1) (ac.put (gK ops (π k)) v) Φ FA A gh (π k::pf)
 | .alloc val F U next,k,ac,Φ,FA,A,gh,pf=>k<m/\(∃o,ops[π k]?=some o/\∀W,C W->∃g W',Det P ops o ac W (val g) W'/\Ext W W'/\F g W'/\(U=true->W.heap.size<=g/\g<W'.heap.size))/\((∀g W W',Er W W'->F g W->F g W')/\(U=true->∀W W',Er W W'->W.heap.size<=W'.heap.size)) /\
   ∀g,Ok (next g) (k+1) (ac.put (gK ops (π k)) (val g)) Φ (fun W=>FA W/\FU U F A g W) A (π k::gh) pf
 | .call γ val Φ' Ap next,k,ac,Φ,FA,A,gh,pf=>k<m/\gh.all (fun j=>jd ops m (π k) j)=true/\pf.all (fun j=>jd ops m (π k) j)=true /\
   (∃o,ops[π k]?=some o/\∀W,C W->Φ W->FA W->afP P ops o ac W (fun v W'=>Er W W'/\∃c,v=val c/\Φ' c W'/\∀g,(g<W.heap.size\/W'.heap.size<=g)->Ap c g))/\Nonempty γ/\(∀c W W',Ext W W'->Φ' c W->Φ' c W') /\
   ∀c,Ok (next c) (k+1) (ac.put (gK ops (π k)) (val c)) (Φ' c) FA (fun g=>A g/\Ap c g) (π k::gh) pf
def Inv (L:ZN) (vs:Nat->Value) (W:World):Tr->Bool->Nat->(World->Prop)->(Nat->Prop)->Prop
 | .done,b,_,Φ,_=>b=true->Φ W
 | .plain v next,b,k,Φ,A=>(π k∈L->vs (π k)=v)/\Inv L vs W next b (k+1) Φ A
 | .later v next,b,k,Φ,A=>(π k∈L->vs (π k)=v)/\Inv L vs W next b (k+1) Φ A
 | .alloc val F U next,b,k,Φ,A=>(π k∈L/\∃g,vs (π k)=val g/\FU U F A g W/\Inv L vs W (next g) b (k+1) Φ A)\/(π k∉L/\(U=true->∀g,W.heap.size<=g->A g)/\∀g,Inv L vs W (next g) b (k+1) Φ A)
 | .call _ val Φ' Ap next,b,k,Φ,A=>(b=true/\π k∈L/\∃c,vs (π k)=val c/\Inv L vs W (next c) true (k+1) (Φ' c) (fun g=>A g/\Ap c g))\/(π k∉L/\(b=true->Φ W)/\∀c,Inv L vs W (next c) false (k+1) (Φ' c) A)
end
structure Lin (ops:Array Oper) (m:Nat) (π σ:Nat->Nat):Prop where
 lt:∀k,k<m->π k<m/\σ (π k)=k
 inv:∀i,i<m->σ i<m/\π (σ i)=i
 dep:∀i,i<m->∀o,ops[i]?=some o->∀e∈o.after,Region.binds .any e=true->σ e.on<σ i
section
variable {P:Program} {ops:Array Oper} {π σ:Nat->Nat} {Q:Exit->Act->World->Prop} {m:Nat} {Er:World->World->Prop} {C:World->Prop} {L:ZN} {vs:Nat->Value} {W:World} {a:Act}
theorem Inv.start:∀(t:Tr) (b:Bool) (k:Nat) (Φ:World->Prop) (A:Nat->Prop),(∀g,A g)->(b=true->Φ W)->Inv π [] vs W t b k Φ A:=by
 intro t;induction t with
 | done=>intro b k Φ A _ h;exact h
 | plain v next ih=>intro b k Φ A hA h;exact⟨fun h=>by simp at h,ih b _ _ _ hA h⟩
 | later v next ih=>intro b k Φ A hA h;exact⟨fun h=>by simp at h,ih b _ _ _ hA h⟩
 | alloc val F U next ih=>intro b k Φ A hA h;exact Or.inr ⟨by simp,fun _ g _=>hA g,fun g=>ih g b _ _ _ hA h⟩
 | call γ val Φ' Ap next ih=>intro b k Φ A hA h;exact Or.inr ⟨by simp,h,fun c=>ih c false _ _ _ hA (fun h=>by cases h)⟩
theorem Jl (hl:Lin ops m π σ) {i k:Nat} (hk:k<m) (h:k≠σ i):π k∈L++[i] ↔ π k∈L:=by
 simp;intro e;exact absurd (by rw[<-e,(hl.lt k hk).2]) h
theorem upd_ne (hl:Lin ops m π σ) {i k:Nat} {v:Value} (hk:k<m) (h:k≠σ i):upd vs i v (π k)=vs (π k):=by
 unfold upd;rw[dh fun e=>h (by rw[<-e,(hl.lt k hk).2])]
theorem Inv.keep (hl:Lin ops m π σ) {i:Nat} {v:Value} {W':World} (hE:Er W W') (hx:Ext W W'):∀(t:Tr) (b:Bool) (k:Nat) (ac:Act) (Φ FA:World->Prop) (A AO:Nat->Prop) (gh pf:ZN),Ok P ops π Q m Er C t k ac Φ FA AO gh pf->(∀W W',Ext W W'->Φ W->Φ W')->σ i<k->Inv π L vs W t b k Φ A->Inv π (L++[i]) (upd vs i v) W' t b k Φ A:=by
 intro t;induction t with
 | done=>intro b k ac Φ FA A AO gh pf _ hs _ h hb;exact hs _ _ hx (h hb)
 | plain u next ih =>
  intro b k ac Φ FA A AO gh pf hok hs hi h;refine⟨fun hk=>?_,ih _ _ _ _ _ _ _ _ _ hok.2.2 hs (by omega) h.2⟩;rw[upd_ne hl hok.1 (by omega)];exact h.1 ((Jl hl hok.1 (by omega)).1 hk)
 | later u next ih =>
  intro b k ac Φ FA A AO gh pf hok hs hi h;refine⟨fun hk=>?_,ih _ _ _ _ _ _ _ _ _ hok.2.2.2 hs (by omega) h.2⟩;rw[upd_ne hl hok.1 (by omega)];exact h.1 ((Jl hl hok.1 (by omega)).1 hk)
 | alloc val F U next ih =>
  intro b k ac Φ FA A AO gh pf hok hs hi h;have hm:=Jl (L:=L) hl hok.1 (show k≠σ i by omega);rcases h with ⟨hk,g,hv,hF,h⟩|⟨hk,hA,h⟩
  ·exact Or.inl ⟨hm.2 hk,g,by rw[upd_ne hl hok.1 (by omega)];exact hv,⟨hok.2.2.1.1 g _ _ hE hF.1,fun hU=>⟨bU (hF.2 hU).1 hx.size,(hF.2 hU).2⟩⟩,ih g _ _ _ _ _ _ _ _ _ (hok.2.2.2 g) hs (by omega) h⟩
  exact Or.inr ⟨fun h'=>hk (hm.1 h'),fun hU g hg=>hA hU g (bC hx.size hg),fun g=>ih g _ _ _ _ _ _ _ _ _ (hok.2.2.2 g) hs (by omega) (h g)⟩
 | call γ val Φ' Ap next ih =>
  intro b k ac Φ FA A AO gh pf hok hs hi h;obtain⟨hkm,-,-,-,-,hst,hn⟩:=hok;have hm:=Jl (L:=L) hl hkm (show k≠σ i by omega);rcases h with ⟨hb,hk,c,hv,h⟩|⟨hk,hp,h⟩
  ·exact Or.inl ⟨hb,hm.2 hk,c,by rw[upd_ne hl hkm (by omega)];exact hv,ih c _ _ _ _ _ _ _ _ _ (hn c) (hst c) (by omega) h⟩
  exact Or.inr ⟨fun h'=>hk (hm.1 h'),fun hb=>hs _ _ hx (hp hb),fun c=>ih c _ _ _ _ _ _ _ _ _ (hn c) (hst c) (by omega) (h c)⟩
theorem Inv.after (hl:Lin ops m π σ) {i:Nat} {v:Value} {W':World} (hE:Er W W'):∀(t:Tr) (b:Bool) (k:Nat) (ac:Act) (Φ FA:World->Prop) (A A' AO:Nat->Prop) (gh pf:ZN),Ok P ops π Q m Er C t k ac Φ FA AO gh pf->(b=true->Φ W')->(∀g,(g<W.heap.size\/W'.heap.size<=g)->A g->A' g)->σ i<k->Inv π L vs W t false k Φ A->Inv π (L++[i]) (upd vs i v) W' t b k Φ A':=by
 intro t;induction t with
 | done=>intro b k ac Φ FA A A' AO gh pf _ hp _ _ h hb;exact hp hb
 | plain u next ih =>
  intro b k ac Φ FA A A' AO gh pf hok hp hA hi h;refine⟨fun hk=>?_,ih _ _ _ _ _ _ _ _ _ _ hok.2.2 hp hA (by omega) h.2⟩;rw[upd_ne hl hok.1 (by omega)];exact h.1 ((Jl hl hok.1 (by omega)).1 hk)
 | later u next ih =>
  intro b k ac Φ FA A A' AO gh pf hok hp hA hi h;refine⟨fun hk=>?_,ih _ _ _ _ _ _ _ _ _ _ hok.2.2.2 hp hA (by omega) h.2⟩;rw[upd_ne hl hok.1 (by omega)];exact h.1 ((Jl hl hok.1 (by omega)).1 hk)
 | alloc val F U next ih =>
  intro b k ac Φ FA A A' AO gh pf hok hp hA hi h;have hm:=Jl (L:=L) hl hok.1 (show k≠σ i by omega);rcases h with ⟨hk,g,hv,hF,h⟩|⟨hk,hU0,h⟩
  ·exact Or.inl ⟨hm.2 hk,g,by rw[upd_ne hl hok.1 (by omega)];exact hv,⟨hok.2.2.1.1 g _ _ hE hF.1,fun hU=>⟨bU (hF.2 hU).1 (hok.2.2.1.2 hU _ _ hE),hA g (Or.inl (hF.2 hU).1) (hF.2 hU).2⟩⟩,ih g _ _ _ _ _ _ _ _ _ _ (hok.2.2.2 g) hp hA (by omega) h⟩
  exact Or.inr ⟨fun h'=>hk (hm.1 h'),fun hU g hg=>hA g (Or.inr hg) (hU0 hU g (bC (hok.2.2.1.2 hU _ _ hE) hg)),fun g=>ih g _ _ _ _ _ _ _ _ _ _ (hok.2.2.2 g) hp hA (by omega) (h g)⟩
 | call γ val Φ' Ap next ih =>
  intro b k ac Φ FA A A' AO gh pf hok hp hA hi h;obtain⟨hkm,-,-,-,-,hst,hn⟩:=hok;have hm:=Jl (L:=L) hl hkm (show k≠σ i by omega);rcases h with ⟨hb,-⟩|⟨hk,-,h⟩
  ·cases hb
  exact Or.inr ⟨fun h'=>hk (hm.1 h'),hp,fun c=>ih c _ _ _ _ _ _ _ _ _ _ (hn c) (fun h=>by cases h) hA (by omega) (h c)⟩
theorem Inv.front {i:Nat} (hcl:aNP ops L) (hi:i∉L):∀(t:Tr) (k:Nat) (ac:Act) (Φ FA:World->Prop) (A AO:Nat->Prop) (gh pf:ZN),Ok P ops π Q m Er C t k ac Φ FA AO gh pf->i∈pf->Inv π L vs W t true k Φ A->Φ W:=by
 intro t;induction t with
 | done=>intro k ac Φ FA A AO gh pf _ _ h;exact h rfl
 | plain u next ih=>intro k ac Φ FA A AO gh pf hok hp h;exact ih _ _ _ _ _ _ _ _ hok.2.2 hp h.2
 | later u next ih=>intro k ac Φ FA A AO gh pf hok hp h;exact ih _ _ _ _ _ _ _ _ hok.2.2.2 (bH _ hp) h.2
 | alloc val F U next ih =>
  intro k ac Φ FA A AO gh pf hok hp h;rcases h with ⟨hk,g,hv,hF,h⟩|⟨hk,-,h⟩
  ·exact ih g _ _ _ _ _ _ _ _ (hok.2.2.2 g) hp h
  exact ih 0 _ _ _ _ _ _ _ _ (hok.2.2.2 0) hp (h 0)
 | call γ val Φ' Ap next ih =>
  intro k ac Φ FA A AO gh pf hok hp h;rcases h with ⟨-,hk,-⟩|⟨-,hp,-⟩
  ·exact absurd (AV hcl m _ i hk (aV.1 hok.2.2.1 i hp)) hi
  exact hp rfl
def Agr (ops:Array Oper) (π:Nat->Nat) (a:Act) (L:ZN) (vs:Nat->Value) (k:Nat) (ac:Act):Prop :=
 ac.tmps.size=a.tmps.size/\∀t,(∀j,j<k->π j∈L->gK ops (π j)=some t->ac.eval (.tmp t)=if t<a.tmps.size then vs (π j) else undef)/\((∀j,j<k->gK ops (π j)≠some t)->ac.eval (.tmp t)=a.eval (.tmp t))
theorem Agr.step (hda:NP ops) {k:Nat} {ac:Act} (h:Agr ops π a L vs k ac) {v:Value} (hv:π k∈L->vs (π k)=v):Agr ops π a L vs (k+1) (ac.put (gK ops (π k)) v):=by
 refine⟨by rw[aki];exact h.1,fun t=>⟨fun j hj Zt ht=>?_,fun hn=>?_⟩⟩
 ·by_cases hjk:π j=π k
  ·rw[hjk] at Zt ht ⊢;rw[ht,acH,h.1,hv Zt]
  rw[Act.eval_put (fun d hd e=>by injection e with e;subst e;exact hjk (hda _ _ _ ht hd))];exact(h.2 t).1 j (by have:j≠k:=fun e=>hjk (by rw[e]);omega) Zt ht
 rw[Act.eval_put (fun d hd e=>by injection e with e;subst e;exact hn k (by omega) hd)];exact(h.2 t).2 fun j hj=>hn j (by omega)
theorem aqs {o:Oper} {A B:Act} (hs:A.tmps.size=B.tmps.size) (h:∀t∈o.looksAt ops,A.eval (.tmp t)=B.eval (.tmp t)):Region.wanted o (yielded ops A.tmps)=Region.wanted o (yielded ops B.tmps):=by
 unfold Region.wanted;cases hg:o.guard with
 | none=>rfl
 | some gw =>
  obtain⟨j,b⟩:=gw;have:yielded ops A.tmps j=yielded ops B.tmps j:=by
   unfold yielded;cases hd:(ops[j]?).bind (·.dst) with
   | none=>rfl
   | some t =>
    have hl:=h t (by unfold Oper.looksAt;rw[hg];simp[hd]);simp only[Act.eval] at hl;rcases cO t A.tmps.size with hlt|hge
    ·have hlt2:=hs ▸ hlt;simp only[Array.getD_eq_getD_getElem?,bG hlt,bG hlt2,Option.getD_some] at hl;simp only[Option.bind_some,bG hlt,bG hlt2,hl]
    simp only[Option.bind_some,Array.getElem?_eq_none hge,Array.getElem?_eq_none (hs ▸ hge)]
  simp only[this]
theorem aLK (hok:aio ops m=true) (hl:Lin ops m π σ) (hR:∀W,Er W W) (hXE:∀W W',Ext W W'->Er W W') {i:Nat} {o:Oper} (hi:i<m) (ho:ops[i]?=some o) (hiL:i∉L) (pR:∀j∈L,j<m) (hcl:aNP ops L) (hrd:∀e∈o.after,Region.binds .any e=true->e.on∈L) (hC:C W) :
  ∀(t:Tr) (b:Bool) (k:Nat) (ac:Act) (Φ FA:World->Prop) (A AO:Nat->Prop) (gh pf:ZN),Ok P ops π Q m Er C t k ac Φ FA AO gh pf->(∀W W',Ext W W'->Φ W->Φ W')->Inv π L vs W t b k Φ A->Agr ops π a L vs k ac->((∀j∈gh,j∈L)->FA W/\∀g,A g->AO g)->k<=σ i->(b=false->∃j∈gh,j∉L) ->
   (∃v W',Det P ops o (acts ops a vs L) W v W'/\Ext W W'/\Inv π (L++[i]) (upd vs i v) W' t b k Φ A) \/
   (b=true/\(∀j∈gh,j∈L)/\afP P ops o (acts ops a vs L) W (fun v W'=>Er W W'/\Inv π (L++[i]) (upd vs i v) W' t b k Φ A)):=by
 obtain⟨hns,hm1,hda,hspec⟩:=Qa hok;have aVg:∀j,jd ops m i j=true->j∈L:=fun j h=>LV hcl ho hrd m j h
 have hm':∀k,k<m->k<σ i->(π k∈L++[i] ↔ π k∈L):=fun k hk h=>Jl hl hk (by omega)
 have hu:∀v k,k<m->k<σ i->upd vs i v (π k)=vs (π k):=fun v k hk h=>upd_ne hl hk (by omega)
 have hui:∀v,upd vs i v i=v:=fun v=>by simp[upd]
 have hpi:π (σ i)=i:=(hl.inv i hi).2
 have aL6:∀ac,Agr ops π a L vs (σ i) ac->(∀W v W',Det P ops o ac W v W'->Det P ops o (acts ops a vs L) W v W')/\(∀W T,afP P ops o ac W T->afP P ops o (acts ops a vs L) W T):=by
  intro ac hag;have hev:∀t∈o.looksAt ops,ac.eval (.tmp t)=(acts ops a vs L).eval (.tmp t):=by
   intro t ht;by_cases hex:∃j,j<m/\gK ops j=some t
   ·obtain⟨j,hjm,hj⟩:=hex;obtain⟨e,he,hb,rfl⟩:=(hspec i o ho).2.1 hi j t hjm hj ht;have Zt:=hrd e he hb;have hlt:=hl.dep i hi o ho e he hb;have hpe:=(hl.inv e.on hjm).2;rw[zM hda Zt hj];have:=(hag.2 t).1 (σ e.on) hlt (by rw[hpe];exact Zt) (by rw[hpe];exact hj);rw[hpe] at this;exact this
   have h1:∀j,j<m->gK ops j≠some t:=fun j hjm hj=>hex ⟨j,hjm,hj⟩
   rw[DF (fun j Zt=>h1 j (pR j Zt)),(hag.2 t).2 (fun j hj=>h1 _ (hl.lt j (by have:=(hl.inv i hi).1;omega)).1)]
  have aUX:execOp ac.eval o=execOp (acts ops a vs L).eval o:=by
   refine execOp_congr o (Region.noSelect_spec hns i o · · ho) (fun x hx=>?_);cases x with
   | tmp t=>exact hev t (aQ _ (List.mem_filterMap.2 ⟨.tmp t,by simpa using hx,rfl⟩))
   | const v=>rfl
   | global g=>rfl
   | func f=>rfl
  have hw:=aqs (ops:=ops) (o:=o) (A:=ac) (B:=acts ops a vs L) (by rw[ag9];exact hag.1) hev;exact⟨fun W v W' h=>by unfold Det at *;rw[<-aUX,<-hw];exact h,fun W T h=>by unfold afP dF at *;rw[<-aUX,<-hw];exact h⟩
 intro t;induction t with
 | done=>intro b k ac Φ FA A AO gh pf hok;have:=hok.1;have:=(hl.inv i hi).1;intro _ _ _ _ hk;omega
 | plain v next ih =>
  intro b k ac Φ FA A AO gh pf hok hs hinv hag hFA hki hb;obtain⟨hkm,⟨ok,hok1,aHA⟩,hnx⟩:=hok;by_cases hk:k=σ i
  ·subst hk;have h1:=hinv.1;rw[hpi,ho] at hok1;cases hok1;exact Or.inl ⟨v,W,(aL6 ac hag).1 _ _ _ (aHA W hC),Ext.refl W,fun _=>by rw[hpi];exact hui v,Inv.keep hl (hR W) (Ext.refl W) next b _ _ _ _ _ _ _ _ hnx hs (by omega) hinv.2⟩
  rcases ih b (k+1) _ Φ FA A AO gh pf hnx hs hinv.2 (hag.step hda hinv.1) hFA (by omega) hb with ⟨u,W',h1,h2,h3⟩|⟨h1,h2,h3⟩
  ·exact Or.inl ⟨u,W',h1,h2,fun h=>by rw[hu u k hkm (by omega)];exact hinv.1 ((hm' k hkm (by omega)).1 h),h3⟩
  exact Or.inr ⟨h1,h2,h3.mono fun u W' ⟨q1,q2⟩=>⟨q1,fun h=>by rw[hu u k hkm (by omega)];exact hinv.1 ((hm' k hkm (by omega)).1 h),q2⟩⟩
 | later v next ih =>
  intro b k ac Φ FA A AO gh pf hok hs hinv hag hFA hki hb;obtain⟨hkm,hgh,⟨ok,hok1,aHA⟩,hnx⟩:=hok;by_cases hk:k=σ i
  ·subst hk;rw[hpi] at hgh;rw[hpi,ho] at hok1;cases hok1;have aDD:∀j∈gh,j∈L:=fun j hj=>aVg j (aV.1 hgh j hj)
   have hbt:b=true:=by
    cases b
    ·obtain⟨j,hj,Zt⟩:=hb rfl;exact absurd (aDD j hj) Zt
    rfl
   subst hbt;have hΦ:=Inv.front (Q:=Q) (C:=C) (P:=P) (Er:=Er) hcl hiL next _ _ _ _ _ _ _ _ hnx (by rw[hpi];simp) hinv.2;exact Or.inl ⟨v,W,(aL6 ac hag).1 _ _ _ (aHA W hC hΦ (hFA aDD).1),Ext.refl W,fun _=>by rw[hpi];exact hui v,Inv.keep hl (hR W) (Ext.refl W) next _ _ _ _ _ _ _ _ _ hnx hs (by omega) hinv.2⟩
  rcases ih b (k+1) _ Φ FA A AO gh _ hnx hs hinv.2 (hag.step hda hinv.1) hFA (by omega) hb with ⟨u,W',h1,h2,h3⟩|⟨h1,h2,h3⟩
  ·exact Or.inl ⟨u,W',h1,h2,fun h=>by rw[hu u k hkm (by omega)];exact hinv.1 ((hm' k hkm (by omega)).1 h),h3⟩
  exact Or.inr ⟨h1,h2,h3.mono fun u W' ⟨q1,q2⟩=>⟨q1,fun h=>by rw[hu u k hkm (by omega)];exact hinv.1 ((hm' k hkm (by omega)).1 h),q2⟩⟩
 | alloc val F U next ih =>
  intro b k ac Φ FA A AO gh pf hok hs hinv hag hFA hki hb;obtain⟨hkm,⟨ok,hok1,aHA⟩,hst,hnx⟩:=hok;by_cases hk:k=σ i
  ·subst hk;rw[hpi,ho] at hok1;cases hok1;rcases hinv with ⟨hkL,-⟩|⟨-,hA0,hinv⟩
   ·exact absurd (by rw[hpi] at hkL;exact hkL) hiL
   obtain⟨g,W',hd,hx,hF,hg⟩:=aHA W hC;exact Or.inl ⟨val g,W',(aL6 ac hag).1 _ _ _ hd,hx,Or.inl ⟨by rw[hpi];simp,g,by rw[hpi];exact hui _,⟨hF,fun hU=>⟨(hg hU).2,hA0 hU g (hg hU).1⟩⟩,Inv.keep hl (hXE _ _ hx) hx (next g) b _ _ _ _ _ _ _ _ (hnx g) hs (by omega) (hinv g)⟩⟩
  rcases hinv with ⟨hkL,g,hv,hF,hinv⟩|⟨hkL,hA0,hinv⟩
  ·have hFU:∀W',Er W W'->FU U F A g W':=fun W' h=>⟨hst.1 g _ _ h hF.1,fun hU=>⟨bU (hF.2 hU).1 (hst.2 hU _ _ h),(hF.2 hU).2⟩⟩
   rcases ih g b (k+1) _ Φ _ A AO _ pf (hnx g) hs hinv (hag.step hda (fun _=>hv)) (fun h=>⟨⟨(hFA fun j hj=>h j (bH _ hj)).1,hF.1,fun hU=>⟨(hF.2 hU).1,(hFA fun j hj=>h j (bH _ hj)).2 g (hF.2 hU).2⟩⟩,(hFA fun j hj=>h j (bH _ hj)).2⟩) (by omega) (fun h=>by obtain⟨j,hj,Zt⟩:=hb h;exact⟨j,bH _ hj,Zt⟩) with ⟨u,W',h1,h2,h3⟩|⟨h1,h2,h3⟩
   ·exact Or.inl ⟨u,W',h1,h2,Or.inl ⟨(hm' k hkm (by omega)).2 hkL,g,by rw[hu u k hkm (by omega)];exact hv,hFU _ (hXE _ _ h2),h3⟩⟩
   exact Or.inr ⟨h1,fun j hj=>h2 j (bH _ hj),h3.mono fun u W' ⟨q1,q2⟩=>⟨q1,Or.inl ⟨(hm' k hkm (by omega)).2 hkL,g,by rw[hu u k hkm (by omega)];exact hv,hFU _ q1,q2⟩⟩⟩
  have hall:∀g,∃v W',Det P ops o (acts ops a vs L) W v W'/\Ext W W'/\Inv π (L++[i]) (upd vs i v) W' (next g) b (k+1) Φ A:=fun g=>by
   rcases ih g b (k+1) _ Φ _ A AO _ pf (hnx g) hs (hinv g) (hag.step hda (fun h=>absurd h hkL)) (fun h=>absurd (h (π k) (by simp)) hkL) (by omega) (fun h=>⟨π k,by simp,hkL⟩) with h|⟨-,h2,-⟩
   ·exact h
   exact absurd (h2 (π k) (by simp)) hkL
  obtain⟨u,W',h1,h2,-⟩:=hall 0;refine Or.inl ⟨u,W',h1,h2,Or.inr ⟨fun h=>hkL ((hm' k hkm (by omega)).1 h),fun hU g hg=>hA0 hU g (bC h2.size hg),fun g=>?_⟩⟩;obtain⟨u2,W2,k1,-,k3⟩:=hall g;obtain⟨rfl,rfl⟩:=h1.same k1;exact k3
 | call γ val Φ' Ap next ih =>
  intro b k ac Φ FA A AO gh pf hok hs hinv hag hFA hki hb;obtain⟨hkm,hgh,hpf,⟨ok,hok1,hout⟩,hne,hst,hnx⟩:=hok;by_cases hk:k=σ i
  ·subst hk;rw[hpi] at hgh;rw[hpi,ho] at hok1;cases hok1;have aDD:∀j∈gh,j∈L:=fun j hj=>aVg j (aV.1 hgh j hj)
   have hbt:b=true:=by
    cases b
    ·obtain⟨j,hj,Zt⟩:=hb rfl;exact absurd (aDD j hj) Zt
    rfl
   subst hbt;rcases hinv with ⟨-,hkL,-⟩|⟨-,hΦ,hinv⟩
   ·exact absurd (by rw[hpi] at hkL;exact hkL) hiL
   refine Or.inr ⟨rfl,aDD,((aL6 ac hag).2 _ _ (hout W hC (hΦ rfl) (hFA aDD).1)).mono ?_⟩;rintro v W' ⟨hE,c,rfl,hΦ',hAp⟩;exact⟨hE,Or.inl ⟨rfl,by rw[hpi];simp,c,by rw[hpi];exact hui _,Inv.after hl hE (next c) true _ _ _ _ _ _ _ _ _ (hnx c) (fun _=>hΦ') (fun g hg hA=>⟨hA,hAp g hg⟩) (by omega) (hinv c)⟩⟩
  rcases hinv with ⟨hbt,hkL,c,hv,hinv⟩|⟨hkL,hp,hinv⟩
  ·rcases ih c true (k+1) _ (Φ' c) _ _ _ _ pf (hnx c) (hst c) hinv (hag.step hda (fun _=>hv)) (fun h=>⟨(hFA fun j hj=>h j (bH _ hj)).1,fun g hg=>⟨(hFA fun j hj=>h j (bH _ hj)).2 g hg.1,hg.2⟩⟩) (by omega) (fun h=>by cases h) with ⟨u,W',h1,h2,h3⟩|⟨h1,h2,h3⟩
   ·exact Or.inl ⟨u,W',h1,h2,Or.inl ⟨hbt,(hm' k hkm (by omega)).2 hkL,c,by rw[hu u k hkm (by omega)];exact hv,h3⟩⟩
   exact Or.inr ⟨hbt,fun j hj=>h2 j (bH _ hj),h3.mono fun u W' ⟨q1,q2⟩=>⟨q1,Or.inl ⟨hbt,(hm' k hkm (by omega)).2 hkL,c,by rw[hu u k hkm (by omega)];exact hv,q2⟩⟩⟩
  have hall:∀c,∃v W',Det P ops o (acts ops a vs L) W v W'/\Ext W W'/\Inv π (L++[i]) (upd vs i v) W' (next c) false (k+1) (Φ' c) A:=fun c=>by
   rcases ih c false (k+1) _ (Φ' c) _ _ _ _ pf (hnx c) (hst c) (hinv c) (hag.step hda (fun h=>absurd h hkL)) (fun h=>absurd (h (π k) (by simp)) hkL) (by omega) (fun _=>⟨π k,by simp,hkL⟩) with h|⟨h1,-⟩
   ·exact h
   cases h1
  obtain⟨c0⟩:=hne;obtain⟨u,W',h1,hx,-⟩:=hall c0;refine Or.inl ⟨u,W',h1,hx,Or.inr ⟨fun h=>hkL ((hm' k hkm (by omega)).1 h),fun hb=>hs _ _ hx (hp hb),fun c=>?_⟩⟩;obtain⟨u2,W2,k1,-,k3⟩:=hall c;obtain⟨rfl,rfl⟩:=h1.same k1;exact k3
theorem Ok.fin (hl:Lin ops m π σ) (hda:NP ops) (hcov:∀j,j<m->j∈L) (hC:C W):∀(t:Tr) (k:Nat) (ac:Act) (Φ FA:World->Prop) (A AO:Nat->Prop) (gh pf:ZN),Ok P ops π Q m Er C t k ac Φ FA AO gh pf->Inv π L vs W t true k Φ A->FA W->(∀g,A g->AO g)->ac=acts ops a vs ((List.range k).map π) ->
  wpList P ops Q (ops.toList.drop m) (acts ops a vs (List.range m)) W:=by
 have hput:∀(k:Nat) (ac:Act) (v:Value),ac=acts ops a vs ((List.range k).map π)->vs (π k)=v->ac.put (gK ops (π k)) v=acts ops a vs ((List.range (k+1)).map π):=fun k ac v h1 h2=>by
  rw[List.range_succ,List.map_append,List.map_singleton,ab5,h1,h2]
 have hperm:acts ops a vs ((List.range m).map π)=acts ops a vs (List.range m):=by
  refine ab6 hda ((List.perm_ext_iff_of_nodup ?_ List.nodup_range).2 fun j=>?_)
  ·unfold List.Nodup;rw[List.pairwise_map];refine List.Pairwise.imp_of_mem (fun {x y} hx hy hxy e=>hxy ?_) (List.nodup_range (n:=m));have h1:=(hl.lt x (List.mem_range.1 hx)).2;have h2:=(hl.lt y (List.mem_range.1 hy)).2;rw[<-h1,e,h2]
  rw[List.mem_map,List.mem_range];constructor
  ·rintro⟨k,hk,rfl⟩;exact(hl.lt k (List.mem_range.1 hk)).1
  intro hj;exact⟨σ j,List.mem_range.2 (hl.inv j hj).1,(hl.inv j hj).2⟩
 intro t;induction t with
 | done=>intro k ac Φ FA A AO gh pf hok hinv hFA _ he;obtain⟨rfl,hok⟩:=hok;rw[he,hperm] at hok;exact hok W hC (hinv rfl) hFA
 | plain v next ih=>intro k ac Φ FA A AO gh pf hok hinv hFA hA he;exact ih _ _ _ _ _ _ _ _ hok.2.2 hinv.2 hFA hA (hput k ac v he (hinv.1 (hcov _ (hl.lt k hok.1).1)))
 | later v next ih=>intro k ac Φ FA A AO gh pf hok hinv hFA hA he;exact ih _ _ _ _ _ _ _ _ hok.2.2.2 hinv.2 hFA hA (hput k ac v he (hinv.1 (hcov _ (hl.lt k hok.1).1)))
 | alloc val F U next ih =>
  intro k ac Φ FA A AO gh pf hok hinv hFA hA he;rcases hinv with ⟨hk,g,hv,hF,hinv⟩|⟨hk,-⟩
  ·exact ih g _ _ _ _ _ _ _ _ (hok.2.2.2 g) hinv ⟨hFA,hF.1,fun hU=>⟨(hF.2 hU).1,hA g (hF.2 hU).2⟩⟩ hA (hput k ac _ he hv)
  exact absurd (hcov _ (hl.lt k hok.1).1) hk
 | call γ val Φ' Ap next ih =>
  intro k ac Φ FA A AO gh pf hok hinv hFA hA he;obtain⟨hkm,-,-,-,-,-,hnx⟩:=hok;rcases hinv with ⟨-,hk,c,hv,hinv⟩|⟨hk,-⟩
  ·exact ih c _ _ _ _ _ _ _ _ (hnx c) hinv hFA (fun g hg=>⟨hA g hg.1,hg.2⟩) (hput k ac _ he hv)
  exact absurd (hcov _ (hl.lt k hkm).1) hk
theorem acp {id:Nat} {w:World} (hm:P.follows .mixedOrders=true) (hok:aio ops m=true) (hl:Lin ops m π σ) (hR:∀W,Er W W) (hXE:∀W W',Ext W W'->Er W W') (hCE:∀W W',C W->Er W W'->C W') {Φ:World->Prop} (hC:C w.drew) (hΦ:Φ w.drew) (hs:∀W W',Ext W W'->Φ W->Φ W')
  (h:∃t,Ok P ops π Q m Er C t 0 a Φ (fun _=>True) (fun _=>True) [] []):(Code.region id ops true).wp P Q a w:=by
 obtain⟨t,ht⟩:=h;refine wp_region_any hm ?_;refine axS (m:=m) (fun L vs W=>C W/\Inv π L vs W t true 0 Φ (fun _=>True)) hok ?_ ?_ ops.size [] (fun _=>undef) _ _ (by simp) (fun j hj=>?_) List.nodup_nil (fun j hj=>by simp at hj) ?_ (fun j hj=>by simp at hj) ⟨hC,Inv.start t true 0 Φ _ (fun _=>trivial) fun _=>hΦ⟩
 ·intro i o hi ho L vs W hiL pR hcl hrd ⟨hC,hinv⟩;rcases aLK (Q:=Q) hok hl hR hXE hi ho hiL pR hcl hrd hC t true 0 a Φ _ _ _ [] [] ht hs hinv ⟨rfl,fun t=>⟨fun j hj=>absurd hj (by omega),fun _=>rfl⟩⟩ (fun _=>⟨trivial,fun _ h=>h⟩) (by omega) (fun h=>by cases h) with ⟨v,W',h1,h2,h3⟩|⟨-,-,h3⟩
  ·exact h1.outs ⟨hCE _ _ hC (hXE _ _ h2),h3⟩
  exact h3.mono fun v W' ⟨q1,q2⟩=>⟨hCE _ _ hC q1,q2⟩
 ·intro L vs W hcov ⟨hC,hinv⟩;exact Ok.fin hl (Qa hok).2.2.1 hcov hC t 0 a Φ _ _ _ [] [] ht hinv trivial (fun _ h=>h) rfl
 ·simp[hj]
 exact bC (List.length_filter_le _ _) (by simp)
end
theorem aPz {ops:Array Oper} {m:Nat} (hok:aio ops m=true):Lin ops m (fun k=>k) (fun k=>k) :=
 ⟨fun _ h=>⟨h,rfl⟩,fun _ h=>⟨h,rfl⟩,fun i _ o ho e he hb=>((Qa hok).2.2.2 i o ho).1 e he hb⟩
section
variable {P:Program} {ops:Array Oper} {π:Nat->Nat} {Q:Exit->Act->World->Prop} {m:Nat} {Er:World->World->Prop} {C:World->Prop} {k:Nat} {o:Oper} {r l:List Oper} {ac:Act} {Φ FA:World->Prop} {A:Nat->Prop} {gh pf:ZN}
theorem Ok.weak:∀(t:Tr) (k:Nat) (ac:Act) (Φ FA FA':World->Prop) (A:Nat->Prop) (gh pf:ZN),(∀W,FA' W->FA W)->Ok P ops π Q m Er C t k ac Φ FA A gh pf->Ok P ops π Q m Er C t k ac Φ FA' A gh pf:=by
 intro t;induction t with
 | done=>intro k ac Φ FA FA' A gh pf hw h;exact⟨h.1,fun W h1 h2 h3=>h.2 W h1 h2 (hw W h3)⟩
 | plain v next ih=>intro k ac Φ FA FA' A gh pf hw h;exact⟨h.1,h.2.1,ih _ _ _ _ _ _ _ _ hw h.2.2⟩
 | later v next ih =>
  intro k ac Φ FA FA' A gh pf hw ⟨h1,h2,⟨o,h3,h4⟩,h5⟩;exact⟨h1,h2,⟨o,h3,fun W q1 q2 q3=>h4 W q1 q2 (hw W q3)⟩,ih _ _ _ _ _ _ _ _ hw h5⟩
 | alloc val F U next ih=>intro k ac Φ FA FA' A gh pf hw h;exact⟨h.1,h.2.1,h.2.2.1,fun g=>ih g _ _ _ _ _ _ _ _ (fun W q=>⟨hw W q.1,q.2⟩) (h.2.2.2 g)⟩
 | call γ val Φ' Ap next ih =>
  intro k ac Φ FA FA' A gh pf hw ⟨h1,h2,h3,⟨o,h4,h5⟩,h6,h7,h8⟩;exact⟨h1,h2,h3,⟨o,h4,fun W q1 q2 q3=>h5 W q1 q2 (hw W q3)⟩,h6,h7,fun c=>ih c _ _ _ _ _ _ _ _ hw (h8 c)⟩
def Chn (P:Program) (ops:Array Oper) (π:Nat->Nat) (Q:Exit->Act->World->Prop) (m:Nat) (Er:World->World->Prop) (C:World->Prop) (k:Nat) (l:List Oper) (ac:Act) (Φ FA:World->Prop) (A:Nat->Prop) (gh pf:ZN):Prop:=(∀j,l[j]?=ops[π (k+j)]?)->(∀j,m<=j->π j=j)->∃t,Ok P ops π Q m Er C t k ac Φ FA A gh pf
theorem ag5 (h:∀j,(o::r)[j]?=ops[π (k+j)]?):ops[π k]?=some o/\gK ops (π k)=o.dst/\∀j,r[j]?=ops[π (k+1+j)]?:=by
 have h0:ops[π k]?=some o:=by simpa using (h 0).symm
 exact⟨h0,by unfold gK;rw[h0];rfl,fun j=>by have:=h (j+1);rw[Nat.add_assoc,Nat.add_comm 1 j];simpa using this⟩
theorem apH {W:World} {v:Value} {D:World->Prop} (hn:aau o=true) (hw:Region.wanted o (yielded ops ac.tmps)=true) (h:o.quietAt P ac D W v):Det P ops o ac W v W:=by
 unfold Oper.quietAt at h;have hne:=fun f args W'=>aeT hn ac.eval P W f args W'
 unfold Det;refine Or.inl ⟨hw,?_⟩
 revert h hne
 generalize (execOp ac.eval o).run P W=q;intro h hne;cases q with
 | ok n w' =>
  cases n<;>simp only[Oper.quietUpon] at h
  case value u=>obtain⟨rfl,rfl⟩:=h;exact Or.inl rfl
  case skip=>obtain⟨rfl,rfl⟩:=h;exact Or.inr ⟨rfl,rfl⟩
  case enter f args=>exact absurd rfl (hne f args w')
 | halt x w'=>simp only[Oper.quietUpon] at h
structure aRn (Er:World->World->Prop) (v:Value) (Φ':World->Prop) (W:World) (u:Value) (W':World):Prop where
 er:Er W W'
 val:u=v
 phi:Φ' W'
structure aOY {γ:Type} (Er:World->World->Prop) (val:γ->Value) (Φ':γ->World->Prop) (W:World) (u:Value) (W':World):Prop where
 er:Er W W'
 ex:∃c,u=val c/\Φ' c W'
structure aY9 {γ:Type} (Er:World->World->Prop) (val:γ->Value) (Φ':γ->World->Prop) (Ap:γ->Nat->Prop) (W:World) (u:Value) (W':World):Prop where
 er:Er W W'
 ex:∃c,u=val c/\Φ' c W'/\∀g,(g<W.heap.size\/W'.heap.size<=g)->Ap c g
structure a1t (val:Nat->Value) (F:Nat->World->Prop) (W:World) (u:Value) (W':World):Prop where
 er:Ext W W'
 ex:∃g,u=val g/\F g W'
structure a4N (val:Nat->Value) (F:Nat->World->Prop) (W:World) (u:Value) (W':World):Prop where
 er:Ext W W'
 ex:∃g,u=val g/\W.heap.size<=g/\g<W'.heap.size/\F g W'
theorem dQ (h:∀K:Act->Prop,(∀a,Chn P ops π Q m Er C (k+1) r a Φ FA A gh pf->K a)->o.quiet P ac (fun w=>∃τ:WIn C,w=τ.1) K) (hw:Region.wanted o (yielded ops ac.tmps)=true:=by rfl) (hk:Nat.ble (k+1) m=true:=by rfl) (hn:aau o=true:=by rfl):Chn P ops π Q m Er C k (o::r) ac Φ FA A gh pf:=by
 intro hl hπ;obtain⟨ho,hd,hr⟩:=ag5 hl;obtain⟨v,hv,hn'⟩:=h (fun a=>Chn P ops π Q m Er C (k+1) r a Φ FA A gh pf) (fun _ h=>h);obtain⟨t,ht⟩:=hn' hr hπ;exact⟨.plain v t,Nat.le_of_ble_eq_true hk,⟨o,ho,fun W hC=>apH hn hw (hv W ⟨⟨W,hC⟩,rfl⟩)⟩,by rw[hd];exact ht⟩
theorem WB (h:∀K:Act->Prop,(∀a,Chn P ops π Q m Er C (k+1) r a Φ FA A gh pf->K a)->K (ac.put o.dst undef)) (hw:Region.wanted o (yielded ops ac.tmps)=false:=by rfl) (hk:Nat.ble (k+1) m=true:=by rfl):Chn P ops π Q m Er C k (o::r) ac Φ FA A gh pf:=by
 intro hl hπ;obtain⟨ho,hd,hr⟩:=ag5 hl;obtain⟨t,ht⟩:=h (fun a=>Chn P ops π Q m Er C (k+1) r a Φ FA A gh pf) (fun _ h=>h) hr hπ;exact⟨.plain undef t,Nat.le_of_ble_eq_true hk,⟨o,ho,fun W hC=>Or.inr ⟨hw,rfl,rfl⟩⟩,by rw[hd];exact ht⟩
theorem apo {val:Nat->Value} {T:Value->World->Prop} {G:Nat->World->World->Prop} (hw:Region.wanted o (yielded ops ac.tmps)=true) (hn:aau o=true) {W:World} (hT:∀u W',T u W'->∃g,u=val g/\G g W W') (h1:dF P o ac.eval W T):∃g W',Det P ops o ac W (val g) W'/\G g W W':=by
 have hne:=fun f args W'=>aeT hn ac.eval P W f args W'
 unfold dF at h1;unfold Det
 revert h1 hne
 generalize (execOp ac.eval o).run P W=q;intro h1 hne;split at h1
 ·obtain⟨g,rfl,a3⟩:=hT _ _ h1;exact⟨g,_,Or.inl ⟨hw,Or.inl rfl⟩,a3⟩
 ·obtain⟨g,a2,a3⟩:=hT _ _ h1;exact⟨g,_,Or.inl ⟨hw,Or.inr ⟨rfl,a2.symm⟩⟩,a3⟩
 ·exact absurd rfl (hne _ _ _)
 exact h1.elim
theorem FZ (val:Nat->Value) (F:Nat->World->Prop) (h:∀W,C W->dF P o ac.eval W (a1t val F W)) (hs:∀g W W',Er W W'->F g W->F g W')
  (hx:∀g,∀K:Act->Prop,(∀a,Chn P ops π Q m Er C (k+1) r a Φ (fun W=>FA W/\F g W) A (π k::gh) pf->K a)->K (ac.put o.dst (val g))) (hw:Region.wanted o (yielded ops ac.tmps)=true:=by rfl) (hk:Nat.ble (k+1) m=true:=by rfl) (hn:aau o=true:=by rfl):Chn P ops π Q m Er C k (o::r) ac Φ FA A gh pf:=by
 intro hl hπ;obtain⟨ho,hd,hr⟩:=ag5 hl;have hy:∀g,∃t,Ok P ops π Q m Er C t (k+1) (ac.put o.dst (val g)) Φ (fun W=>FA W/\F g W) A (π k::gh) pf:=fun g=>hx g (fun a=>Chn P ops π Q m Er C (k+1) r a Φ (fun W=>FA W/\F g W) A (π k::gh) pf) (fun _ h=>h) hr hπ
 exact⟨.alloc val F false (fun g=>(hy g).choose),Nat.le_of_ble_eq_true hk,⟨o,ho,fun W hC=>by
  obtain⟨g,W',h1,h2,h3⟩:=apo (G:=fun g W W'=>Ext W W'/\F g W') hw hn (fun u W' ⟨q1,g,q2,q3⟩=>⟨g,q2,q1,q3⟩) (h W hC);exact⟨g,W',h1,h2,h3,fun e=>by cases e⟩⟩,⟨hs,fun e=>by cases e⟩,fun g=>by rw[hd];exact Ok.weak _ _ _ _ _ _ _ _ _ (fun W q=>⟨q.1,q.2.1⟩) (hy g).choose_spec⟩
theorem Uj (val:Nat->Value) (F:Nat->World->Prop) (h:∀W,C W->dF P o ac.eval W (a4N val F W)) (hs:∀g W W',Er W W'->F g W->F g W') (hz:∀W W',Er W W'->W.heap.size<=W'.heap.size)
  (hx:∀g,∀K:Act->Prop,(∀a,Chn P ops π Q m Er C (k+1) r a Φ (fun W=>FA W/\F g W/\g<W.heap.size/\A g) A (π k::gh) pf->K a)->K (ac.put o.dst (val g))) (hw:Region.wanted o (yielded ops ac.tmps)=true:=by rfl) (hk:Nat.ble (k+1) m=true:=by rfl) (hn:aau o=true:=by rfl):Chn P ops π Q m Er C k (o::r) ac Φ FA A gh pf:=by
 intro hl hπ;obtain⟨ho,hd,hr⟩:=ag5 hl;have hy:∀g,∃t,Ok P ops π Q m Er C t (k+1) (ac.put o.dst (val g)) Φ (fun W=>FA W/\F g W/\g<W.heap.size/\A g) A (π k::gh) pf:=fun g=>hx g (fun a=>Chn P ops π Q m Er C (k+1) r a Φ (fun W=>FA W/\F g W/\g<W.heap.size/\A g) A (π k::gh) pf) (fun _ h=>h) hr hπ
 exact⟨.alloc val F true (fun g=>(hy g).choose),Nat.le_of_ble_eq_true hk,⟨o,ho,fun W hC=>by
  obtain⟨g,W',h1,h2,h3,h4,h5⟩:=apo (G:=fun g W W'=>Ext W W'/\W.heap.size<=g/\g<W'.heap.size/\F g W') hw hn (fun u W' ⟨q1,g,q2,q3⟩=>⟨g,q2,q1,q3⟩) (h W hC);exact⟨g,W',h1,h2,h5,fun _=>⟨h3,h4⟩⟩⟩,⟨hs,fun _=>hz⟩,fun g=>by rw[hd];exact Ok.weak _ _ _ _ _ _ _ _ _ (fun W q=>⟨q.1,q.2.1,(q.2.2 rfl).1,(q.2.2 rfl).2⟩) (hy g).choose_spec⟩
theorem Gg {γ:Type} (val:γ->Value) (Φ':γ->World->Prop) (Ap:γ->Nat->Prop) (h:∀W,C W->Φ W->FA W->dF P o ac.eval W (aY9 Er val Φ' Ap W)) (hs:∀c W W',Ext W W'->Φ' c W->Φ' c W')
  (hx:∀c,∀K:Act->Prop,(∀a,Chn P ops π Q m Er C (k+1) r a (Φ' c) FA (fun g=>A g/\Ap c g) (π k::gh) pf->K a)->K (ac.put o.dst (val c))) (hne:Nonempty γ:=by infer_instance) (hw:Region.wanted o (yielded ops ac.tmps)=true:=by rfl) (hk:Nat.ble (k+1) m=true:=by rfl)
  (hg:gh.all (fun j=>jd ops m (π k) j)=true:=by kernel_rfl) (hp:pf.all (fun j=>jd ops m (π k) j)=true:=by kernel_rfl):Chn P ops π Q m Er C k (o::r) ac Φ FA A gh pf:=by
 intro hl hπ;obtain⟨ho,hd,hr⟩:=ag5 hl;have hy:∀c,∃t,Ok P ops π Q m Er C t (k+1) (ac.put o.dst (val c)) (Φ' c) FA (fun g=>A g/\Ap c g) (π k::gh) pf:=fun c=>hx c (fun a=>Chn P ops π Q m Er C (k+1) r a (Φ' c) FA (fun g=>A g/\Ap c g) (π k::gh) pf) (fun _ h=>h) hr hπ
 exact⟨.call γ val Φ' Ap (fun c=>(hy c).choose),Nat.le_of_ble_eq_true hk,hg,hp,⟨o,ho,fun W h1 h2 h3=>by unfold afP;rw[dw hw];exact(h W h1 h2 h3).mono fun _ _ q=>⟨q.er,q.ex⟩⟩,hne,hs,fun c=>by rw[hd];exact(hy c).choose_spec⟩
theorem je {γ:Type} (val:γ->Value) (Φ':γ->World->Prop) (h:∀W,C W->Φ W->FA W->dF P o ac.eval W (aOY Er val Φ' W)) (hs:∀c W W',Ext W W'->Φ' c W->Φ' c W')
  (hx:∀c,∀K:Act->Prop,(∀a,Chn P ops π Q m Er C (k+1) r a (Φ' c) FA (fun g=>A g/\True) (π k::gh) pf->K a)->K (ac.put o.dst (val c))) (hne:Nonempty γ:=by infer_instance) (hw:Region.wanted o (yielded ops ac.tmps)=true:=by rfl) (hk:Nat.ble (k+1) m=true:=by rfl)
  (hg:gh.all (fun j=>jd ops m (π k) j)=true:=by kernel_rfl) (hp:pf.all (fun j=>jd ops m (π k) j)=true:=by kernel_rfl):Chn P ops π Q m Er C k (o::r) ac Φ FA A gh pf :=
 Gg val Φ' (fun _ _=>True) (fun W h1 h2 h3=>(h W h1 h2 h3).mono fun _ _ ⟨q1,c,q2,q3⟩=>⟨q1,c,q2,q3,fun _ _=>trivial⟩) hs hx hne hw hk hg hp
theorem lS (v:Value) (Φ':World->Prop) (h:∀W,C W->Φ W->FA W->dF P o ac.eval W (aRn Er v Φ' W)) (hs:∀W W',Ext W W'->Φ' W->Φ' W')
  (hx:∀K:Act->Prop,(∀a,Chn P ops π Q m Er C (k+1) r a Φ' FA (fun g=>A g/\True) (π k::gh) pf->K a)->K (ac.put o.dst v)) (hw:Region.wanted o (yielded ops ac.tmps)=true:=by rfl) (hk:Nat.ble (k+1) m=true:=by rfl)
  (hg:gh.all (fun j=>jd ops m (π k) j)=true:=by kernel_rfl) (hp:pf.all (fun j=>jd ops m (π k) j)=true:=by kernel_rfl):Chn P ops π Q m Er C k (o::r) ac Φ FA A gh pf :=
 je (γ:=Unit) (fun _=>v) (fun _=>Φ') (fun W h1 h2 h3=>(h W h1 h2 h3).mono fun _ _ ⟨q1,q2,q3⟩=>⟨q1,(),q2,q3⟩) (fun _=>hs) (fun _=>hx) ⟨()⟩ hw hk hg hp
theorem tu {f:FuncId} {args:Array Value} {v:Value} (h:∀W,C W->Calls P f args W (dN v W))
  (hx:∀K:Act->Prop,(∀a,Chn P ops π Q m Er C (k+1) r a Φ FA (fun g=>A g/\True) (π k::gh) pf->K a)->K (ac.put o.dst v)) (hs:∀W W',Ext W W'->Φ W->Φ W':=by exact fun _ _ _ h=>h) (hX:∀W W',Ext W W'->Er W W':=by first|exact fun _ _ h=>h|exact fun _ _ h=>h.shp _|exact fun _ _ h=>h.fH _) (he:∀(W:World) (T:Value->World->Prop),Calls P f args W (fun e W'=>∃u,e=.returned u/\T u W')->dF P o ac.eval W T:=by intro _ _ _;unfold dF;go_simp<;>assumption) (hw:Region.wanted o (yielded ops ac.tmps)=true:=by rfl) (hk:Nat.ble (k+1) m=true:=by rfl)
  (hg:gh.all (fun j=>jd ops m (π k) j)=true:=by kernel_rfl) (hp:pf.all (fun j=>jd ops m (π k) j)=true:=by kernel_rfl):Chn P ops π Q m Er C k (o::r) ac Φ FA A gh pf :=
 lS v Φ (fun W h1 h2 _=>he W _ ((h W h1).mono fun _ _ ⟨q1,q2⟩=>⟨v,q1,hX _ _ q2,rfl,hs _ _ q2 h2⟩)) hs hx hw hk hg hp
theorem zL (h:∀W,C W->Φ W->FA W->wpList P ops Q l ac W) (hk:k=m:=by rfl):Chn P ops π Q m Er C k l ac Φ FA A gh pf:=fun hl hπ=>⟨.done,hk,fun W h1 h2 h3=>by
 have:ops.toList.drop m=l:=by
  apply List.ext_getElem?
  intro j;rw[List.getElem?_drop,hl j,hπ _ (by omega),<-hk,Array.getElem?_toList]
 rw[this];exact h W h1 h2 h3⟩
theorem lH (h:∀W,C W->Φ W->FA W->Q .normal ac W) (hk:k=m:=by rfl):Chn P ops π Q m Er C k [] ac Φ FA A gh pf:=zL h hk
theorem rZ {id:Nat} {a:Act} {w:World} (hR:∀W,Er W W) (hXE:∀W W',Ext W W'->Er W W') (hCE:∀W W',C W->Er W W'->C W') (hC:C w.drew) (hΦ:Φ w.drew) (hs:∀W W',Ext W W'->Φ W->Φ W')
  (h:Chn P l.toArray (fun k=>k) Q m Er C 0 l a Φ (fun _=>True) (fun _=>True) [] []) (hm:P.follows .mixedOrders=true:=by kernel_rfl) (hok:aio l.toArray m=true:=by kernel_rfl):(Code.region id l.toArray true).wp P Q a w :=
 acp hm hok (aPz hok) hR hXE hCE hC hΦ hs (h (fun j=>by simp) fun _ _=>rfl)
theorem rC {id:Nat} {a:Act} {w:World} (m:Nat) (h:Chn P l.toArray (fun k=>k) Q m Ext (Ext w) 0 l a (fun _=>True) (fun _=>True) (fun _=>True) [] []) (hm:P.follows .mixedOrders=true:=by kernel_rfl) (hok:aio l.toArray m=true:=by kernel_rfl):(Code.region id l.toArray true).wp P Q a w :=
 rZ Ext.refl (fun _ _ h=>h) (fun _ _ h k=>h.trans k) (Ext.refl w).drew trivial (fun _ _ _ h=>h) h hm hok
theorem JR {id:Nat} {a:Act} {w:World} (m:Nat) (N:ZN) (Φ:World->Prop) (hΦ:Φ w.drew) (hs:∀W W',Ext W W'->Φ W->Φ W') (h:Chn P l.toArray (fun k=>k) Q m (dO N) (dO N w) 0 l a Φ (fun _=>True) (fun _=>True) [] []) (hm:P.follows .mixedOrders=true:=by kernel_rfl) (hok:aio l.toArray m=true:=by kernel_rfl):(Code.region id l.toArray true).wp P Q a w :=
 rZ (dO.refl N) (fun _ _ h=>h.fH N) (fun _ _ h k=>h.then k) ((Ext.refl w).drew.fH N) hΦ hs h hm hok
end
instance (w:World):Nonempty (WIn (Ext w)):=⟨⟨w,Ext.refl w⟩⟩
instance (N:ZN) (w:World):Nonempty (WIn (dO N w)):=⟨⟨w,dO.refl N w⟩⟩
theorem dI {w:World} {p:Addr} {v:Value} (h:w.cell? p=some v):∀τ:WIn (Ext w),τ.1.cell? p=some v:=fun τ=>τ.2.cell h
end Go.Proofs.YtefjomofjejklaaGreatDoor
