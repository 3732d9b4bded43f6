/- Joined. -/
import Derived.Test.YtefjomofjejklaaGreatDoorDs17
namespace Go.Proofs.YtefjomofjejklaaGreatDoor
set_option maxRecDepth 100000
set_option maxHeartbeats 32000000
open Go.RowKit
def aNa (N:Nat) (p:Pr):Prop:=∀(pv:gS) (w0 w:World) (bd:Nat) (M:ZN),cg w0 w bd->gL (mask w M) p pv->bd∈M->(∀y∈M,y<w.heap.size) ->
 Calls Tryz.prog 54 #[.pointer (some ⟨bd,0,none⟩),pv.val] w (aic (fun q=>q.iT (N+1)) w0 bd M w)
def SpF (w0 w W:World) (be bd N:Nat) (M:ZN) (vb:Bool) (kb:Int) (ab:OA) (nb cb:Nat) (psb:List Pr):Prop:=W.heap[be]?=some (.cells #[.bool vb,kb,.slice ab nb cb] 67 (0,0))/\gL (mask W ((be+1)::M)) (.mk vb kb psb) ⟨vb,kb,ab,nb,cb⟩/\ct [bd] w W/\cg w0 W bd/\W.heap[be+1]?=some qI/\(Pr.mk vb kb psb).iT (N+1)
theorem aGS {N:Nat} {v:Bool} {k:Int} {ps:List Pr} (hN:N<=2000000) (hn:ps.length<=N) (hch:∀q∈ps,q.iT N) (ih:∀q∈ps,aNa N q):aNa N (.mk v k ps):=by
 intro pv w0 w bd M hd hp Wq hM;obtain⟨xs,epv,hrows,Of⟩:=akh hp;obtain⟨pb,pk,a,n,c⟩:=pv;simp only[gS.mk.injEq] at epv;obtain⟨rfl,rfl,-⟩:=epv;simp only at hrows;have h0w:w0.heap.size<=w.heap.size:=by obtain⟨_,_,_,_,_,_,_,_,hx,_⟩:=hd;exact hx.size
 have h0d:w0.heap.size<=bd:=by obtain⟨_,_,_,_,_,_,_,_,_,h⟩:=hd;exact h
 have hbd:bd<w.heap.size:=hd.lt;have hxl:xs.length=n:=hrows.1.symm;have HXL:=ai hxl;have a3f:ps.length<=n:=by rw[Of.1,hxl];omega
 have a3e:n<=ps.length:=by rw[Of.1,hxl];omega
 have a1h:=hrows.2.1;have hnN:n<=N:=by omega
 have HIH:=ai ih;have HCH:=ai hch;have HP0:=ai hp;have HR:=ai Of;have yM:=ai hrows;have HBM:=ai Wq;have HM:=ai hM;have qB:=ai (show (xs.flatMap gS.cells).length=n*3 by rw[eN gS.cells 3 gS.len,hxl]);have a2B:xs.length<=n:=by omega
 have a2A:n<=xs.length:=by omega
 clear hxl;unfold gS.val;obtain⟨wb,iV⟩:∃wb,wb=(w.alloc (.cells #[.bool pb,pk,.slice a n c] 67)).alloc (.cells #[.bool false,.int .i64 0,.slice none 0 0] 67):=⟨_,rfl⟩
 have hxw:Ext w wb:=by rw[iV];exact((Tz w).alloc _).alloc _
 obtain⟨be,aDF⟩:∃be:Nat,be=w.heap.size:=⟨_,rfl⟩
 have Jz:wb.heap[be]?=some (.cells #[.bool pb,pk,.slice a n c] 67 (0,0)):=by rw[iV,aDF];exact bU (bR w _)
 have hbr:wb.heap[be+1]?=some qI:=by rw[iV,aDF];exact cT (by simp)
 have HDW:=ai (hd.ext hxw);have mJ:=ai hxw;have lQ:=ai Jz;have qQ:=ai hbr;have iO:=ai aDF;obtain⟨b0,b1,b2,bf⟩:=dM Jz;have hle:=bS Jz;have hlr:=bS hbr;have a4i:be<=w.heap.size:=by omega
 have a4h:w.heap.size<=be:=by omega
 clear ih hM hd hp hch Of hrows Wq hxw hbr Jz;go_enter Tryz.func54,Tryz.ntmps54
 go_upto_region 1 with fail;rw[<-iV,<-aDF];clear iV aDF
 go_cut [15] (fun s15 wx=>∃c:Bool,s15=.bool c/\(c=true->0<n)/\ct [bd] wb wx/\cg w0 wx bd)
 case first =>
  by_cases hp:0<n
  ·have t1:decide (0<(n:Int))=true:=by simp;omega
   have t2:decide (0<n)=true:=by simp;omega
   go_wp2_with fail;refine(dx HDW.o _ (by omega) (by omega)).mono ?_;rintro r w1 ⟨r1,rfl,hr0,hr1,hd1,hc1⟩;have tU:=ai hd1;have mE:=ai hc1;clear hd1 hc1 b0 b1 b2 bf;go_wp2_with fail
   go_meet
   case rel=>exact⟨_,rfl,fun _=>hp,mE.o,tU.o⟩
  have t1:decide (0<(n:Int))=false:=by simp;omega
  have t2:decide (0<n)=false:=by simp;omega
  go_wp2_with fail
  go_meet
  case rel=>exact⟨false,rfl,fun h=>by simp at h,ct.refl _ _,HDW.o⟩
 case rest =>
 obtain⟨cc,rfl,hcn,hc1,hd1⟩:=hcut;clear b0 b1 b2 bf;have nS:=ai (show ct [bd] w wc from((mJ.o.cR [bd]).then hc1));have lQ:=ai (hc1.blk lQ.o (by simp;omega));have qQ:=ai (hc1.blk qQ.o (by simp;omega));have tU:=ai hd1;have G9:=ai hcn;have hz1:=hc1.size;clear hc1 hd1 hcn HDW mJ;cases cc
 case' true =>
  have hnp:0<n:=G9.o rfl;clear G9;obtain⟨b0,b1,b2,bf⟩:=dM lQ.o;go_wp2_with fail;refine(dx tU.o _ (by omega) (by omega)).mono ?_;rintro r w2 ⟨q,rfl,CQ,hq1,qd,hc2⟩;obtain⟨kk,rfl⟩:∃k:Nat,q=(k:Int):=⟨q.toNat,by omega⟩
  have hkn:kk<n:=by omega
  have nS:=ai (nS.o.then hc2);have lQ:=ai (hc2.blk lQ.o (by simp;omega));have qQ:=ai (hc2.blk qQ.o (by simp;omega));have pY:=ai qd;have hz2:=hc2.size;clear hc2 qd tU b0 b1 b2 bf;obtain⟨b0,b1,b2,bf⟩:=dM lQ.o;have hl2:=bS qQ.o;have Rb:=bS lQ.o;have Uf:=ai (show 0<n->∃b off,a=some ⟨b,off,none⟩/\∀j (hj:j<(xs.flatMap gS.cells).length),(w2.alloc (.cells #[] 67)).cell? ⟨b,off+j,none⟩=some (xs.flatMap gS.cells)[j] from fun h=>by
   obtain⟨b,off,e1,e2⟩:=aka yM.o h;exact⟨b,off,e1,fun j hj=>cC _ _ _ _ (cP (nS.o.alloc (.cells #[] 67)) HBM.o _ _ (e2 j hj))⟩)
  go_wp2_with (at_builtin;refine gI XS rfl _ _ rfl w2.heap.size _ 0 [] rfl ?o0 a n c (xs.flatMap gS.cells) rfl ?o1 ?o2 ?o3 ?o4 ?o5 ?o6 ?_)
  case o0=>exact World.ownsRow_lit w2 #[] 0 (aU _) (by simp) rfl
  case o1=>exact qB.o
  case o2=>exact fun h=>Uf.o h
  case o3=>exact T6 xs
  case o4=>omega
  case o5=>omega
  case o6=>simp
  intro v3 w3 oC gY abK;have He:=ai (show ct [bd] w w3 from(nS.o.alloc _).grown gY (fun y hy=>by simp only[Value.ownBlock] at hy;injection hy with hy;subst hy;exact a4Z (by omega)));have pq:∀k,k<w2.heap.size->k∉rowOf (.slice (some ⟨w2.heap.size,0,none⟩) 0 0):=fun k hk hm=>by have:=bV.1 hm;simp only[Value.ownBlock] at this;injection this with this;omega
  have lQ:=ai ((eX gY).blk (bU lQ.o) (pq _ (by omega)));have qQ:=ai ((eX gY).blk (bU qQ.o) (pq _ (by omega)));have wG:=ai ((pY.o.ext ((Tz w2).alloc _)).cR (eX gY) (pq _ (by omega)) (fun y hy=>by have:=bV.1 hy;simp only[Value.ownBlock] at this;injection this with this;omega));have vF:=ai oC;have hz3:=gY.size;simp at hz3;clear oC gY abK pq b0 b1 b2 bf hl2 Rb;obtain⟨g,cap,cur,hv3,zR,hgb,hgn,hgc,agM⟩:∃g cap cur,v3=.slice (some ⟨g,0,none⟩) n cap/\w2.heap.size<=g/\w3.heap[g]?=some (.cells cur 67 (0,0))/\n*3<=cur.size/\(∀j,j<n*3->cur[j]?=(xs.flatMap gS.cells)[j]?)/\n<=cap:=by
   have h:=vF.o;rcases h.2 with ⟨_,h0⟩|⟨g,cap,cur,h1,h2,h3,h4,h5,h6,h7⟩
   ·omega
   have hq:n<=cap:=by simpa using h4
   refine⟨g,cap,cur,by simpa using h1,h2,h3,?_,fun j hj=>?_,hq⟩
   ·rw[h6];omega
   have h8:=congrArg (fun l=>l[j]?) h7
   try simp only[Nat.zero_add] at h8
   rw[List.getElem?_take,bM hj] at h8;simpa using h8
  subst hv3;have HGC:=ai hgc;have Qb:=bS hgb;have hk3:kk*3+3<=cur.size:=by omega
  have hkx:kk<xs.length:=by omega
  have hkp:kk<ps.length:=by omega
  have qw:=ai (show ∀j,j<3->cur[kk*3+j]?=xs[kk].cells[j]? from fun j hj=>by
   have h1:=HGC.o (kk*3+j) (by omega);rw[h1,iJ gS.cells 3 gS.len xs kk hkx j (by rw[gS.len];exact hj),aT (by rw[gS.len];exact hj)])
  have HGB:=ai hgb;have hsub:=SA (M:=M) (N:=[be,be+1,g]) He.o HBM.o (by simp;omega);have HC:=ai (HIH.o ps[kk] (aD hkp) xs[kk] w0 w3 bd ([be,be+1,g]++M) wG.o ((HR.o.2 kk hkp hkx).mono hsub) (aL _ HBM.o) (fun y hy=>by
   rcases aN.1 hy with hy|hy
   ·simp at hy;omega
   have:=HM.o y hy;omega))
  have c0:w3.cell? ⟨g,kk*3,none⟩=some (.bool xs[kk].value):=by rw[bX hgb];have:=qw.o 0 (by omega);simpa[gS.cells] using this
  have c1:w3.cell? ⟨g,kk*3+1,none⟩=some (.int .i64 xs[kk].pick):=by rw[bX hgb];have:=qw.o 1 (by omega);simpa[gS.cells] using this
  have c2:w3.cell? ⟨g,kk*3+2,none⟩=some (.slice xs[kk].a xs[kk].n xs[kk].c):=by rw[bX hgb];have:=qw.o 2 (by omega);simpa[gS.cells] using this
  unfold gS.val at HC;clear hgb hgc hsub;go_wp2_with fail;refine HC.o.mono ?_;rintro r w5 ⟨q',v',rfl,agG,he',oW,hc5⟩;have aN3:=ai agG;have HE5:=ai he';have uV:=ai oW;have pU:=ai hc5;have aQP:g∉[bd]:=by simp;omega
  have wO:=ai (hc5.blk HGB.o aQP);have ajC:=ai (hc5.blk lQ.o (by simp;omega));have aoy:=ai (hc5.blk qQ.o (by simp;omega));have hz5:=hc5.size;have cf:∀j,w5.frozen? ⟨g,j,none⟩=false:=fun j=>frozen_of_row w5 g j cur _ wO.o
  clear agG he' oW hc5 c0 c1 c2 HC aQP;have c0:w5.cell? ⟨g,kk*3,none⟩=some (.bool xs[kk].value):=by rw[bX wO.o];have:=qw.o 0 (by omega);simpa[gS.cells] using this
  have c1:w5.cell? ⟨g,kk*3+1,none⟩=some (.int .i64 xs[kk].pick):=by rw[bX wO.o];have:=qw.o 1 (by omega);simpa[gS.cells] using this
  have c2:w5.cell? ⟨g,kk*3+2,none⟩=some (.slice xs[kk].a xs[kk].n xs[kk].c):=by rw[bX wO.o];have:=qw.o 2 (by omega);simpa[gS.cells] using this
  unfold gS.val;go_upto_region 5 with fail;obtain⟨W6,hW6⟩:∃W6,W6=S7 w5 g (kk*3) v':=⟨_,rfl⟩
  have HW6:=ai hW6;have Nc:=ai (show ct [g] w5 W6 by rw[hW6];exact afM _ _ _ _ (by simp));unfold S7 at hW6;rw[<-hW6];have aaU:=ai (Nc.o.blk ajC.o (by simp;omega));have asR:=ai (Nc.o.blk aoy.o (by simp;omega));have hz6:=Nc.o.size;clear hW6 c0 c1 c2 cf;obtain⟨b0,b1,b2,bf⟩:=dM aaU.o;go_upto_region 6 with fail;obtain⟨W7,Yz⟩:∃W7,W7=W6.setCell ⟨be,2,none⟩ (.slice (some ⟨g,0,none⟩) n cap):=⟨_,rfl⟩
  have si:=ai (show ct [be] W6 W7 by rw[Yz];exact lX _ _ _ _);have VP:=ai (show W7.heap[be]?=some (.cells #[.bool pb,pk,.slice (some ⟨g,0,none⟩) n cap] 67 (0,0)) by rw[Yz];have:=lH (i:=2) aaU.o (.slice (some ⟨g,0,none⟩) n cap);simpa using this);rw[<-Yz];clear Yz b0 b1 b2 bf;have yy:=ai (aK8 (be:=be) (B:=be+1) (t:=67) HR.o HBM.o HXL.o wO.o HGC.o hk3 hkx HW6.o si.o (He.o.then pU.o) HE5.o iO.o (by rw[iO.o]) ⟨by omega,by omega,by omega,by omega⟩ HM.o agM pb pk);have Bv:=ai (show ct [bd] w W7 from((He.o.then pU.o).trans Nc.o (by intro y hy;simp at hy;subst hy;exact a4Z (by omega))).trans si.o (by intro y hy;simp at hy;subst hy;exact a4Z (by omega)));have EP:=ai (show cg w0 W7 bd from(uV.o.cR Nc.o (by simp;omega) (by simp;omega)).cR si.o (by simp;omega) (by simp;omega));have aaT:=ai (si.o.blk asR.o (by simp));have Es:=ai (aH' (v:=pb) (k:=pk) hn HCH.o (i:=kk) aN3.o);obtain⟨vb,kb,ab,nb,cb,psb,HF⟩:∃vb kb ab nb cb psb,aj (SpF w0 w W7 be bd N M vb kb ab nb cb psb):=⟨pb,pk,some ⟨g,0,none⟩,n,cap,ps.set kk q',ai ⟨VP.o,yy.o,Bv.o,EP.o,aaT.o,Es.o⟩⟩
  clear VP yy Bv EP aaT Es si
 case' false =>
  clear G9;go_wp2_with fail;refine(dx tU.o _ (by omega) (by omega)).mono ?_;rintro r w2 ⟨q4,rfl,hr0,hr4,qd,hc2⟩;have iP:=ai (nS.o.then hc2);have ajD:=ai (hc2.blk lQ.o (by simp;omega));have adU:=ai (hc2.blk qQ.o (by simp;omega));have pY:=ai qd;have oZ:=ai (HP0.o.mono (cP iP.o HBM.o));have hz2:=iP.o.size;have a38:be+1<w2.heap.size:=bS adU.o;clear qd hc2 tU nS lQ qQ;have Wn:q4=0\/q4=1\/q4=2\/q4=3:=by omega
  clear hr0 hr4;rcases Wn with rfl|rfl|rfl|rfl
  case' inl =>
   obtain⟨b0,b1,b2,bf⟩:=dM ajD.o;obtain⟨W7,Yz⟩:∃W7,W7=w2.setCell ⟨be,0,none⟩ (.bool !pb):=⟨_,rfl⟩
   have si:=ai (show ct [be] w2 W7 by rw[Yz];exact lX _ _ _ _);have VP:=ai (show W7.heap[be]?=some (.cells #[.bool !pb,pk,.slice a n c] 67 (0,0)) by rw[Yz];have:=lH (i:=0) ajD.o (.bool !pb);simpa using this);go_upto_region 16 with fail;rw[<-Yz];clear Yz b0 b1 b2 bf;have yy:=ai (show gL (mask W7 ((be+1)::M)) (.mk (!pb) pk ps) ⟨!pb,pk,a,n,c⟩ from gL.mk xs (yM.o.mono (EY iP.o si.o HBM.o HM.o iO.o)) HR.o.1.symm (fun i h1 h2=>(HR.o.2 i h1 h2).mono (EY iP.o si.o HBM.o HM.o iO.o)));have Bv:=ai (show ct [bd] w W7 from iP.o.trans si.o (by intro y hy;simp at hy;subst hy;exact a4Z (by omega)));have EP:=ai (show cg w0 W7 bd from pY.o.cR si.o (by simp;omega) (by simp;omega));have aaT:=ai (si.o.blk adU.o (by simp));have Es:=ai (show (Pr.mk (!pb) pk ps).iT (N+1) from .mk (by omega) (fun x hx=>TM (Nat.le_succ N) (HCH.o x hx)));obtain⟨vb,kb,ab,nb,cb,psb,HF⟩:∃vb kb ab nb cb psb,aj (SpF w0 w W7 be bd N M vb kb ab nb cb psb):=⟨!pb,pk,a,n,c,ps,ai ⟨VP.o,yy.o,Bv.o,EP.o,aaT.o,Es.o⟩⟩
   clear VP yy Bv EP aaT Es si
  case' inr.inl =>
   go_wp2_with fail;refine(jG pY.o (-2) 3 (by omega) (by omega) (by omega)).mono ?_;rintro r w4 ⟨z,rfl,CQ,hq1,Si,hc4⟩;have CJ:=ai Si;have mo:=ai (iP.o.then hc4);have aUS:=ai (hc4.blk ajD.o (by simp;omega));have aJx:=ai (hc4.blk adU.o (by simp;omega));have hz4:=mo.o.size;clear Si hc4 CQ hq1 pY iP ajD adU oZ;obtain⟨b0,b1,b2,bf⟩:=dM aUS.o;obtain⟨W7,Yz⟩:∃W7,W7=w4.setCell ⟨be,1,none⟩ (.int .i64 z):=⟨_,rfl⟩
   have si:=ai (show ct [be] w4 W7 by rw[Yz];exact lX _ _ _ _);have VP:=ai (show W7.heap[be]?=some (.cells #[.bool pb,z,.slice a n c] 67 (0,0)) by rw[Yz];have:=lH (i:=1) aUS.o (.int .i64 z);simpa using this);go_upto_region 16 with fail;rw[<-Yz];clear Yz b0 b1 b2 bf;have yy:=ai (show gL (mask W7 ((be+1)::M)) (.mk pb z ps) ⟨pb,z,a,n,c⟩ from gL.mk xs (yM.o.mono (EY mo.o si.o HBM.o HM.o iO.o)) HR.o.1.symm (fun i h1 h2=>(HR.o.2 i h1 h2).mono (EY mo.o si.o HBM.o HM.o iO.o)));have Bv:=ai (show ct [bd] w W7 from mo.o.trans si.o (by intro y hy;simp at hy;subst hy;exact a4Z (by omega)));have EP:=ai (show cg w0 W7 bd from CJ.o.cR si.o (by simp;omega) (by simp;omega));have aaT:=ai (si.o.blk aJx.o (by simp));have Es:=ai (show (Pr.mk pb z ps).iT (N+1) from .mk (by omega) (fun x hx=>TM (Nat.le_succ N) (HCH.o x hx)));obtain⟨vb,kb,ab,nb,cb,psb,HF⟩:∃vb kb ab nb cb psb,aj (SpF w0 w W7 be bd N M vb kb ab nb cb psb):=⟨pb,z,a,n,c,ps,ai ⟨VP.o,yy.o,Bv.o,EP.o,aaT.o,Es.o⟩⟩
   clear VP yy Bv EP aaT Es si
  case' inr.inr.inl =>
   obtain⟨b0,b1,b2,bf⟩:=dM ajD.o;have Rb:=bS ajD.o;have hl2:=bS adU.o;have Uf:=ai (show 0<n->∃b off,a=some ⟨b,off,none⟩/\∀j (hj:j<(xs.flatMap gS.cells).length),(w2.alloc (.cells #[] 67)).cell? ⟨b,off+j,none⟩=some (xs.flatMap gS.cells)[j] from fun h=>by
    obtain⟨b,off,e1,e2⟩:=aka yM.o h;exact⟨b,off,e1,fun j hj=>cC _ _ _ _ (cP (iP.o.alloc (.cells #[] 67)) HBM.o _ _ (e2 j hj))⟩)
   go_wp2_with (at_builtin;refine gI XS rfl _ _ rfl w2.heap.size _ 0 [] rfl ?o0 a n c (xs.flatMap gS.cells) rfl ?o1 ?o2 ?o3 ?o4 ?o5 ?o6 ?_)
   case o0=>exact World.ownsRow_lit w2 #[] 0 (aU _) (by simp) rfl
   case o1=>exact qB.o
   case o2=>exact fun h=>Uf.o h
   case o3=>exact T6 xs
   case o4=>omega
   case o5=>omega
   case o6=>simp
   intro v3 w3 oC gY abK;have He:=ai (show ct [bd] w w3 from(iP.o.alloc _).grown gY (fun y hy=>by simp only[Value.ownBlock] at hy;injection hy with hy;subst hy;exact a4Z (by omega)));have pq:∀k,k<w2.heap.size->k∉rowOf (.slice (some ⟨w2.heap.size,0,none⟩) 0 0):=fun k hk hm=>by have:=bV.1 hm;simp only[Value.ownBlock] at this;injection this with this;omega
   have aJz:=ai ((eX gY).blk (bU ajD.o) (pq _ (by omega)));have asS:=ai ((eX gY).blk (bU adU.o) (pq _ (by omega)));have wG:=ai ((pY.o.ext ((Tz w2).alloc _)).cR (eX gY) (pq _ (by omega)) (fun y hy=>by have:=bV.1 hy;simp only[Value.ownBlock] at this;injection this with this;omega));have vF:=ai oC;have qE:=ai (show ∀k,v3.ownBlock=some k->w2.heap.size<=k/\k<w3.heap.size from fun k hk=>World.ownsRow.lt oC k hk);have hz3:=gY.size;simp at hz3;clear oC gY abK pq b0 b1 b2 bf hl2 Rb ajD adU pY iP;obtain⟨b0,b1,b2,bf⟩:=dM aJz.o;have Rb:=bS aJz.o;have qC:=ai (adj w3 (gS.cells ⟨false,-1,none,0,0⟩) 67);go_wp2_with (at_builtin;refine gI XS rfl _ _ rfl w2.heap.size v3 (0+n) ([]++xs.flatMap gS.cells) rfl ?o0 (some ⟨w3.heap.size,0,none⟩) 1 1 (gS.cells ⟨false,-1,none,0,0⟩) rfl ?o1 ?o2 ?o3 ?o4 ?o5 ?o6 ?_)
   case o0=>simpa using World.ownsRow.alloc vF.o _
   case o1=>rfl
   case o2=>exact fun _=>⟨_,0,rfl,qC.o⟩
   case o5=>omega
   case o3=>exact fun u hu=>T6 [⟨false,-1,none,0,0⟩] u (by simpa using hu)
   case o4=>omega
   case o6=>simp;omega
   intro v5 w5 Cp tL aDK;have pU:=ai (show ct [bd] w w5 from(He.o.alloc _).grown tL (fun y hy=>a4Z (by have:=qE.o y hy;omega)));have pq:∀k,k<w2.heap.size->k∉rowOf v3:=fun k hk hm=>by have:=qE.o k (bV.1 hm);omega
   have ajC:=ai ((eX tL).blk (bU aJz.o) (pq _ (by omega)));have aoy:=ai ((eX tL).blk (bU asS.o) (pq _ (by omega)));have uV:=ai ((wG.o.ext ((Tz w3).alloc _)).cR (eX tL) (pq _ (by omega)) (fun y hy=>by have:=qE.o y (bV.1 hy);omega));have Da:=ai (show w5.ownsRow w2.heap.size 67 3 v5 (ps++[Pr.mk false (-1) []]).length ((xs++[(⟨false,-1,none,0,0⟩:gS)]).flatMap gS.cells) by
    have e1:(ps++[Pr.mk false (-1) []]).length=0+n+1:=by simp;omega
    rw[e1,List.flatMap_append];simpa using Cp)
   have hz5:=pU.o.size;have Qa:=bS aoy.o;clear Cp tL aDK pq b0 b1 b2 bf Rb aJz asS wG He qC vF;obtain⟨a6,c6,hv5⟩:=eP Da.o;subst hv5;have Da:=ai Da.o;obtain⟨n6,hn6⟩:∃n6:Nat,n6=(ps++[Pr.mk false (-1) []]).length:=⟨_,rfl⟩
   have YH:=ai hn6;rw[<-hn6] at Da ⊢;clear hn6;obtain⟨b0,b1,b2,bf⟩:=dM ajC.o;obtain⟨W7,Yz⟩:∃W7,W7=w5.setCell ⟨be,2,none⟩ (.slice a6 n6 c6):=⟨_,rfl⟩
   have si:=ai (show ct [be] w5 W7 by rw[Yz];exact lX _ _ _ _);have VP:=ai (show W7.heap[be]?=some (.cells #[.bool pb,pk,.slice a6 n6 c6] 67 (0,0)) by rw[Yz];have:=lH (i:=2) ajC.o (.slice a6 n6 c6);simpa using this);go_upto_region 16 with fail;rw[<-Yz];clear Yz b0 b1 b2 bf;have yy:=ai (show gL (mask W7 ((be+1)::M)) (.mk pb pk (ps++[Pr.mk false (-1) []])) ⟨pb,pk,a6,n6,c6⟩ from by
       have hcc:ct [be] w5 W7:=si.o;have Iy:=cO Da.o hcc (fun k hk=>by have:=(World.ownsRow.lt Da.o k hk).1;simp;omega);rw[YH.o] at Iy;obtain⟨a',c',he,Ll⟩:=S9 (M:=(be+1)::M) Iy (fun k hk hm=>by
        have h1:=(World.ownsRow.lt Da.o k (by rw[YH.o];exact hk)).1;simp only[bz] at hm;rcases hm with hm|hm
        ·omega
        have:=HM.o k hm;omega) ((HR.o.mono (EY pU.o si.o HBM.o HM.o iO.o)).snoc (yE _ false (-1))) pb pk
       simp only[a45,true_and] at he;obtain⟨rfl,rfl⟩:=he;rw[YH.o];exact Ll)
   have Bv:=ai (show ct [bd] w W7 from pU.o.trans si.o (by intro y hy;simp at hy;subst hy;exact a4Z (by omega)));have EP:=ai (show cg w0 W7 bd from uV.o.cR si.o (by simp;omega) (by simp;omega));have aaT:=ai (si.o.blk aoy.o (by simp));have Es:=ai (show (Pr.mk pb pk (ps++[Pr.mk false (-1) []])).iT (N+1) from .mk (by simp;omega) (fun x hx=>by
       rcases aN.1 hx with hx|hx
       ·exact TM (Nat.le_succ N) (HCH.o x hx)
       simp only[aG] at hx;subst hx;exact .mk (by simp) (by simp)))
   obtain⟨vb,kb,ab,nb,cb,psb,HF⟩:∃vb kb ab nb cb psb,aj (SpF w0 w W7 be bd N M vb kb ab nb cb psb):=⟨pb,pk,a6,n6,c6,ps++[Pr.mk false (-1) []],ai ⟨VP.o,yy.o,Bv.o,EP.o,aaT.o,Es.o⟩⟩
   clear VP yy Bv EP aaT Es si
  case' inr.inr.inr =>
   obtain⟨b0,b1,b2,bf⟩:=dM ajD.o;obtain⟨W7,Yz⟩:∃W7,W7=w2.setCell ⟨be,2,none⟩ (.slice a (n - 1) c):=⟨_,rfl⟩
   have si:=ai (show ct [be] w2 W7 by rw[Yz];exact lX _ _ _ _);have VP:=ai (show W7.heap[be]?=some (.cells #[.bool pb,pk,.slice a (n - 1) c] 67 (0,0)) by rw[Yz];have:=lH (i:=2) ajD.o (.slice a (n - 1) c);simpa using this);go_upto_region 16 with fail;rw[show (max ((n:Int) - 1) 0).toNat=n - 1 by omega];rw[<-Yz];clear Yz b0 b1 b2 bf;have yy:=ai (show gL (mask W7 ((be+1)::M)) (.mk pb pk (ps.take (n - 1))) ⟨pb,pk,a,n - 1,c⟩ from ay4 (yM.o.mono (EY iP.o si.o HBM.o HM.o iO.o)) (HR.o.mono (EY iP.o si.o HBM.o HM.o iO.o)) (by omega));have Bv:=ai (show ct [bd] w W7 from iP.o.trans si.o (by intro y hy;simp at hy;subst hy;exact a4Z (by omega)));have EP:=ai (show cg w0 W7 bd from pY.o.cR si.o (by simp;omega) (by simp;omega));have aaT:=ai (si.o.blk adU.o (by simp));have Es:=ai (show (Pr.mk pb pk (ps.take (n - 1))).iT (N+1) from .mk (by rw[List.length_take];omega) (fun x hx=>TM (Nat.le_succ N) (HCH.o x (List.mem_of_mem_take hx))));obtain⟨vb,kb,ab,nb,cb,psb,HF⟩:∃vb kb ab nb cb psb,aj (SpF w0 w W7 be bd N M vb kb ab nb cb psb):=⟨pb,pk,a,n - 1,c,ps.take (n - 1),ai ⟨VP.o,yy.o,Bv.o,EP.o,aaT.o,Es.o⟩⟩
   clear VP yy Bv EP aaT Es si
 all_goals
  obtain⟨h1,h2,h3,h4,h5,h6⟩:=HF.o;have Es:=ai h6;have VP:=ai h1;have hz:W7.heap[be+1]?=some (.cells #[.bool false,.int .i64 0,.slice none 0 0] 67 (0,0)):=h5;obtain⟨r0,r1,r2,rf⟩:=dM hz;have P9:=bS hz;have HZ:=ai (Fs (w:=w) (M:=M) (pv:=⟨vb,kb,ab,nb,cb⟩) h5 (by omega) h0w (by omega) h4 h3 h2);simp only at HZ;clear h1 h2 h3 h4 h5 h6 hz HF;obtain⟨b0,b1,b2,bf⟩:=dM VP.o;go_wp2_with fail;obtain⟨wz,eV⟩:∃wz,wz=kW W7 (be+1) (.bool vb) (.int .i64 kb) (.slice ab nb cb):=⟨_,rfl⟩
  rw[<-eV] at HZ;unfold kW at eV;rw[<-eV];clear eV;obtain⟨z0,z1,z2,zf⟩:=dM HZ.o.1;refine a5a (v:=gS.val ⟨vb,kb,ab,nb,cb⟩) (by simp[results,Tryz.results54,go_sem,gS.val,z0,z1,z2]) rfl ?_;exact⟨_,_,rfl,Es.o,HZ.o.2⟩
theorem SC {N:Nat} (hN:N<=2000000) {p:Pr} (hf:p.iT N):aNa N p:=by
 induction hf with
 | mk hn h ih=>exact aGS hN hn h ih
open Go.RowKit Go.Maps
def SpN (N:Nat) (L:List Rs):Prop:=L.length<=N/\∀r∈L,r.proof.iT N/\r.gH.length<=N
theorem SpN.mono {N N':Nat} {L:List Rs} (h:SpN N L) (hN:N<=N'):SpN N' L:=⟨aV h.1 hN,fun r hr=>⟨TM hN (h.2 r hr).1,aV (h.2 r hr).2 hN⟩⟩
structure SpS (w0 w W:World) (bd b2:Nat) (B:Array Value):Prop where
 h2:W.heap[b2]?=some (.cells B 57 (0,0))
 h4:W.heap[b2+1]?=some (.cells #[.int .i64 0,.int .i64 0,.int .i64 0,.int .i64 0,.int .i64 0,.bool false,.slice none 0 0] 57 (0,0))
 dk:cg w0 W bd
 cgf:ct [bd] w W
def SpK (w0 w:World) (bd b2:Nat):Prop:=bd<w.heap.size/\w0.heap.size<=w.heap.size/\b2=w.heap.size
section
variable {w0 w W W':World} {bd b2:Nat} {B:Array Value}
theorem SpS.oA (k:SpK w0 w bd b2) (h:SpS w0 w W bd b2 B) (hc:ct [bd] W W') (hd:cg w0 W' bd):SpS w0 w W' bd b2 B :=
 ⟨hc.blk h.h2 (by have:=k.1;have:=k.2.2;simp;omega),hc.blk h.h4 (by have:=k.1;have:=k.2.2;simp;omega),hd,h.cgf.then hc⟩
theorem SpS.new (k:SpK w0 w bd b2) (h:SpS w0 w W bd b2 B) {N:ZN} (hc:ct N W W') (hN:∀y∈N,b2+2<=y):SpS w0 w W' bd b2 B:=by
 obtain⟨k1,k2,k3⟩:=k;have hm:∀y,y<b2+2->y∉N:=fun y h1 h2=>by have:=hN y h2;omega
 exact⟨hc.blk h.h2 (hm _ (by omega)),hc.blk h.h4 (hm _ (by omega)),h.dk.cR hc (hm _ (by omega)) (fun y hy=>by have:=hN y hy;omega),h.cgf.trans hc (fun y hy=>a4Z (by have:=hN y hy;omega))⟩
theorem SpS.ext (k:SpK w0 w bd b2) (h:SpS w0 w W bd b2 B) (hx:Ext W W'):SpS w0 w W' bd b2 B:=h.new k (hx.cR []) (by simp)
theorem SpS.put (k:SpK w0 w bd b2) (h:SpS w0 w W bd b2 B) (i:Nat) (v:Value):SpS w0 w (W.setCell ⟨b2,i,none⟩ v) bd b2 (B.setIfInBounds i v):=by
 obtain⟨k1,k2,k3⟩:=k;have hc:=afN W b2 i v;exact⟨afJ h.h2 v,hc.blk h.h4 (by simp),h.dk.cR hc (by simp;omega) (fun y hy=>by rw[aG.1 hy];omega),h.cgf.trans hc (fun y hy=>by rw[aG.1 hy];exact a4Z (by omega))⟩
theorem SpS.lt (h:SpS w0 w W bd b2 B):b2+2<=W.heap.size:=bS h.h4
theorem a59 {W:World} {r:Rs} {v:jf} (h:kC W r v):gL W r.proof v.p/\iE W r.gH v.a v.n v.c/\v.n=r.gH.length:=by
 cases h with
 | mk vs hp hr hl h=>exact⟨hp,⟨vs,⟨hl.symm,h⟩,hr⟩,hr.1.trans hl⟩
theorem iE.le {W:World} {L:List Rs} {a:OA} {n c:Nat} (h:iE W L a n c):n<=c:=by
 obtain⟨vs,-,h2⟩:=h;exact h2.2.1
theorem iE.take {W:World} {L:List Rs} {a:OA} {n c m:Nat} (h:iE W L a n c) (hm:m<=n):iE W (L.take m) a m c:=by
 obtain⟨vs,h1,h2⟩:=h;exact⟨_,h1.take m,a5j h2 hm⟩
theorem SpS.sub (h:SpS w0 w W bd b2 B) {M:ZN} (hb:bd∈M) {N:ZN} (hN:∀y∈N,w.heap.size<=y):Sub (mask w M) (mask W (N++M)):=SA h.cgf hb hN
theorem SpS.fin (k:SpK w0 w bd b2) (h:SpS w0 w W bd b2 B) {L:List Rs} {a:OA} {n c:Nat} {v0 v1 v2 v3 v4 v5 v6:Value} {M:ZN} (hr:iE (mask W ((b2+1)::M)) L a n c):(j5 W (b2+1) v0 v1 v2 v3 v4 v5 v6).heap[b2+1]?=some (.cells #[v0,v1,v2,v3,v4,v5,v6] 57 (0,0))/\iE (mask (j5 W (b2+1) v0 v1 v2 v3 v4 v5 v6) M) L a n c/\cg w0 (j5 W (b2+1) v0 v1 v2 v3 v4 v5 v6) bd/\ct [bd] w (j5 W (b2+1) v0 v1 v2 v3 v4 v5 v6):=by
 obtain⟨k1,k2,k3⟩:=k;have hp:ct [b2+1] W (j5 W (b2+1) v0 v1 v2 v3 v4 v5 v6):=pW W (b2+1);exact⟨sU h.h4,(hr.mono (cF hp (by simp))).mono (cM _ (fun y hy=>aZ _ hy)),h.dk.cR hp (by simp;omega) (fun y hy=>by rw[aG.1 hy];omega),h.cgf.trans hp (fun y hy=>by rw[aG.1 hy];exact a4Z (by omega))⟩
end
theorem a6b {w:World} {g n cap:Nat} {cur:Array Value} {t:TypeId} {vs:List jf} (hb:w.heap[g]?=some (.cells cur t (0,0))) (hc:∀j,j<n*6->cur[j]?=(vs.flatMap jf.cells)[j]?) (hn:vs.length=n) (hcap:n<=cap):eE w 6 jf.cells vs (some ⟨g,0,none⟩) n cap :=
 ⟨hn.symm,hcap,a4Z ⟨g,0,rfl⟩,fun i hi=>⟨g,0,rfl,fun j hj=>by
  have hj6:j<6:=by rw[jf.len] at hj;exact hj
  have hq:=iJ jf.cells 6 jf.len vs i hi j hj;rw[bX hb,hc (0+i*6+j) (by omega),Nat.zero_add,hq]
  first|done|rfl⟩⟩
def aXF (N:Nat) (w0:World) (bd:Nat) (M:ZN) (w:World) (e:Ending) (w':World):Prop:=∃(D:rT) (L:List Rs) (a:OA) (n c:Nat),e=.returned (.agg #[ D.oP,D.lim,D.xV,D.xU,D.xN,.bool D.Bt,.slice a n c])/\iE (mask w' M) L a n c/\SpN N L/\cg w0 w' bd/\ct [bd] w w'
theorem IK {N:Nat} (hN:N<=1500000) (D:rT) {L:List Rs} {a:OA} {n c:Nat} {w0 w:World} {bd:Nat} {M:ZN} (Wq:bd∈M) (hM:∀y∈M,y<w.heap.size) (hdk:cg w0 w bd) (hL:iE (mask w M) L a n c) (hs:SpN N L) :
  Calls Tryz.prog 25 #[.agg #[ D.oP,D.lim,D.xV,D.xU,D.xN,.bool D.Bt,.slice a n c],.pointer (some ⟨bd,0,none⟩)] w (aXF (N+1) w0 bd M w):=by
 obtain⟨vs,hvr,hvs⟩:=hL;have Cr:n<=vs.length:=by have:=hvs.1;omega
 have hn2:vs.length<=n:=by have:=hvs.1;omega
 have hnl:L.length=n:=by rw[hvr.1,hvs.1]
 have hnN:n<=N:=by rw[<-hnl];exact hs.1
 have OX:=ai hnl;have HM:=ai hM;have HBM:=ai Wq;have HR:=ai hvr;have yM:=ai hvs;have K8:=ai hs;have h0d:w0.heap.size<=w.heap.size:=by obtain⟨_,_,_,_,_,_,_,_,hx,_⟩:=hdk;exact hx.size
 obtain⟨b2,hb2⟩:∃b:Nat,b=w.heap.size:=⟨_,rfl⟩
 have HK:=ai (show SpK w0 w bd b2 from⟨hdk.lt,h0d,hb2⟩);obtain⟨wb,iV⟩:∃wb,wb=(w.alloc (.cells #[ D.oP,D.lim,D.xV,D.xU,D.xN,.bool D.Bt,.slice a n c] 57)).alloc (.cells #[.int .i64 0,.int .i64 0,.int .i64 0,.int .i64 0,.int .i64 0,.bool false,.slice none 0 0] 57):=⟨_,rfl⟩
 have hxw:Ext w wb:=by rw[iV];exact((Tz w).alloc _).alloc _
 have Yn:=ai (show SpS w0 w wb bd b2 #[ D.oP,D.lim,D.xV,D.xU,D.xN,.bool D.Bt,.slice a n c] from⟨by rw[iV,hb2];exact bU (bR w _),by rw[iV,hb2];exact cT (by simp),hdk.ext hxw,hxw.cR _⟩);have mJ:=ai hxw;have Uf:=ai (show 0<n->∃b off,a=some ⟨b,off,none⟩/\∀j (hj:j<(vs.flatMap jf.cells).length),(wb.alloc (.cells #[] 69)).cell? ⟨b,off+j,none⟩=some (vs.flatMap jf.cells)[j] from fun h=>by
  obtain⟨b,off,rfl,-⟩:=hvs.2.2.2 0 (by omega);exact⟨b,off,rfl,fun j hj=>(hxw.alloc _).cell (cC _ _ _ _ (atO hvs j hj))⟩)
 clear hvr hvs hs hxw h0d hnl hdk hM Wq;go_enter Tryz.func25,Tryz.ntmps25
 go_upto_region 1 with fail;rw[<-iV,<-hb2];clear iV hb2;obtain⟨b0',b1',b2',b3',b4',b5',b6',bf'⟩:=gR Yn.o.h2;have hlb:=bS Yn.o.h2;go_wp2_with (at_builtin;refine gI Qq rfl _ _ rfl wb.heap.size _ 0 [] rfl ?o0 a n c (vs.flatMap jf.cells) rfl ?o1 ?o2 ?o3 ?o4 ?o5 ?o6 ?_)
 case o0=>exact World.ownsRow_lit wb #[] 0 (aU _) (by simp) rfl
 case o1=>rw[eN jf.cells 6 (fun _=>rfl) vs];omega
 case o2=>exact Uf.o
 case o3=>exact aK' vs
 case o4=>omega
 case o5=>omega
 case o6=>simp
 intro v3 w3 oC gY abK;obtain⟨la,lc,rfl⟩:=eP oC;have vF:=ai oC;have dS:=ai (show Ext wb w3 from(eX gY).ext ((Tz wb).alloc _) (fun y hy=>by have h:=bV.1 hy;simp only[Value.ownBlock,a42] at h;omega));have El:=ai (Yn.o.ext HK.o dS.o);clear oC gY abK b0' b1' b2' b3' b4' b5' b6' bf';go_upto_region 2 with fail
 go_cut [19] (fun s19 wx=>∃cc:Bool,s19=.bool cc/\(cc=false->0<n)/\ct [bd] w3 wx/\cg w0 wx bd)
 case first =>
  by_cases hz:n=0
  ·have t1:((n:Int)==0)=true:=by simp[hz]
   clear hz;go_wp2_with fail
   go_meet
   case rel=>exact⟨true,rfl,fun h=>(by cases h),ct.refl _ _,El.o.dk⟩
  have t1:((n:Int)==0)=false:=by simp;omega
  have hn0:0<n:=by omega
  clear hz;go_wp2_with fail;refine(dx El.o.dk 4 (by omega) (by omega)).mono ?_;rintro r w4 ⟨q,rfl,CQ,hq1,Si,hc4⟩;have CJ:=ai Si;have mo:=ai hc4;clear Si hc4;go_wp2_with fail
  go_meet
  case rel=>exact⟨_,rfl,fun _=>hn0,mo.o,CJ.o⟩
 case rest =>
 obtain⟨cc,rfl,hcn,hc4,Si⟩:=hcut;have G9:=ai hcn;have mo:=ai hc4;have oY:=ai (El.o.oA HK.o hc4 Si);clear hcn hc4 Si;cases cc
 case' true =>
  clear G9;go_wp2_with fail;refine(dx oY.o.dk 5 (by omega) (by omega)).mono ?_;rintro r w5 ⟨q,rfl,CQ,hq1,oW,hc5⟩;have nA:=ai (oY.o.oA HK.o hc5 oW);have hq:q=0\/q=1\/q=2\/q=3\/q=4:=by omega
  clear oW hc5 CQ hq1;rcases hq with rfl|rfl|rfl|rfl|rfl
  case' inl =>
   go_wp2_with fail;refine(jG nA.o.dk 1 4 (by omega) (by omega) (by omega)).mono ?_;rintro r w6 ⟨z,rfl,CQ,hq1,Ku,pI⟩;have vE:=ai (nA.o.oA HK.o pI Ku);clear Ku pI CQ hq1;obtain⟨b0',b1',b2',b3',b4',b5',b6',bf'⟩:=gR vE.o.h2;go_upto_region 14 with fail;obtain⟨W7,Yz⟩:∃W7,W7=w6.setCell ⟨b2,0,none⟩ (.int .i64 z):=⟨_,rfl⟩
   obtain⟨D7,JG⟩:∃D':rT,aj (SpS w0 w W7 bd b2 #[ D'.oP,D'.lim,D'.xV,D'.xU,D'.xN,.bool D'.Bt,.slice a n c]):=⟨⟨z,D.lim,D.xV,D.xU,D.xN,D.Bt⟩,ai (by rw[Yz];have:=vE.o.put HK.o 0 (.int .i64 z);simpa using this)⟩
   rw[<-Yz];clear Yz b0' b1' b2' b3' b4' b5' b6' bf' vE
  case' inr.inl =>
   obtain⟨b0',b1',b2',b3',b4',b5',b6',bf'⟩:=gR nA.o.h2;go_upto_region 14 with fail;obtain⟨W7,Yz⟩:∃W7,W7=w5.setCell ⟨b2,1,none⟩ (.int .i64 (wrap64 (D.lim+1))):=⟨_,rfl⟩
   obtain⟨D7,JG⟩:∃D':rT,aj (SpS w0 w W7 bd b2 #[ D'.oP,D'.lim,D'.xV,D'.xU,D'.xN,.bool D'.Bt,.slice a n c]):=⟨⟨D.oP,wrap64 (D.lim+1),D.xV,D.xU,D.xN,D.Bt⟩,ai (by rw[Yz];have:=nA.o.put HK.o 1 (.int .i64 (wrap64 (D.lim+1)));simpa using this)⟩
   rw[<-Yz];clear Yz b0' b1' b2' b3' b4' b5' b6' bf' nA
  case' inr.inr.inl =>
   obtain⟨b0',b1',b2',b3',b4',b5',b6',bf'⟩:=gR nA.o.h2;go_upto_region 14 with fail;obtain⟨W7,Yz⟩:∃W7,W7=w5.setCell ⟨b2,2,none⟩ (.int .i64 (wrap64 (D.xV+1))):=⟨_,rfl⟩
   obtain⟨D7,JG⟩:∃D':rT,aj (SpS w0 w W7 bd b2 #[ D'.oP,D'.lim,D'.xV,D'.xU,D'.xN,.bool D'.Bt,.slice a n c]):=⟨⟨D.oP,D.lim,wrap64 (D.xV+1),D.xU,D.xN,D.Bt⟩,ai (by rw[Yz];have:=nA.o.put HK.o 2 (.int .i64 (wrap64 (D.xV+1)));simpa using this)⟩
   rw[<-Yz];clear Yz b0' b1' b2' b3' b4' b5' b6' bf' nA
  case' inr.inr.inr.inl =>
   obtain⟨b0',b1',b2',b3',b4',b5',b6',bf'⟩:=gR nA.o.h2;go_upto_region 14 with fail;obtain⟨W7,Yz⟩:∃W7,W7=w5.setCell ⟨b2,5,none⟩ (.bool !D.Bt):=⟨_,rfl⟩
   obtain⟨D7,JG⟩:∃D':rT,aj (SpS w0 w W7 bd b2 #[ D'.oP,D'.lim,D'.xV,D'.xU,D'.xN,.bool D'.Bt,.slice a n c]):=⟨⟨D.oP,D.lim,D.xV,D.xU,D.xN,!D.Bt⟩,ai (by rw[Yz];have:=nA.o.put HK.o 5 (.bool !D.Bt);simpa using this)⟩
   rw[<-Yz];clear Yz b0' b1' b2' b3' b4' b5' b6' bf' nA
  case' inr.inr.inr.inr =>
   obtain⟨b0',b1',b2',b3',b4',b5',b6',bf'⟩:=gR nA.o.h2;go_upto_region 14 with fail;obtain⟨W7,Yz⟩:∃W7,W7=w5.setCell ⟨b2,4,none⟩ (.int .i64 (wrap64 (D.xN - 1))):=⟨_,rfl⟩
   obtain⟨D7,JG⟩:∃D':rT,aj (SpS w0 w W7 bd b2 #[ D'.oP,D'.lim,D'.xV,D'.xU,D'.xN,.bool D'.Bt,.slice a n c]):=⟨⟨D.oP,D.lim,D.xV,D.xU,wrap64 (D.xN - 1),D.Bt⟩,ai (by rw[Yz];have:=nA.o.put HK.o 4 (.int .i64 (wrap64 (D.xN - 1)));simpa using this)⟩
   rw[<-Yz];clear Yz b0' b1' b2' b3' b4' b5' b6' bf' nA
  all_goals
   obtain⟨L7,a7,n7,c7,HL7,a6j,JG⟩:∃L7 a7 n7 c7,aj (iE (mask W7 ((b2+1)::M)) L7 a7 n7 c7)/\aj (SpN (N+1) L7)/\aj (SpS w0 w W7 bd b2 #[ D7.oP,D7.lim,D7.xV,D7.xU,D7.xN,.bool D7.Bt,.slice a7 n7 c7]):=⟨L,a,n,c,ai ((show iE (mask w M) L a n c from⟨vs,HR.o,yM.o⟩).mono (JG.o.sub HBM.o (N:=[b2+1]) (fun y hy=>by rw[aG.1 hy];have:=HK.o.2.2;omega))),ai (K8.o.mono (by omega)),JG⟩
   clear Uf Yn mJ vF dS El mo oY
 case' false =>
  have hn0:0<n:=G9.o rfl;obtain⟨g,cur,rfl,zR,hgb,hgn,hgc,agM⟩:∃g cur,la=some ⟨g,0,none⟩/\wb.heap.size<=g/\w3.heap[g]?=some (.cells cur 69 (0,0))/\n*6<=cur.size/\(∀j,j<n*6->cur[j]?=(vs.flatMap jf.cells)[j]?)/\n<=lc:=by
   rcases vF.o.2 with ⟨_,h0⟩|⟨g,cap,cur,h1,h2,h3,h4,h5,h6,h7⟩
   ·omega
   simp only[a45,true_and] at h1;obtain⟨rfl,rfl⟩:=h1;refine⟨g,cur,rfl,h2,h3,by rw[h6];exact Nat.mul_le_mul_right _ h4,fun j hj=>?_,h4⟩;have h8:=congrArg (fun l=>l[j]?) h7;rw[List.getElem?_take,bM hj] at h8;simpa using h8
  have a6o:b2+2<=g:=aV Yn.o.lt zR;have aW4:bd<b2:=by have:=HK.o.1;have:=HK.o.2.2;omega
  have HGC:=ai hgc;have HG4:=ai (mo.o.blk hgb (by simp;omega));clear G9 hgb hgc zR Uf Yn mJ vF dS El mo;go_wp2_with fail;refine(dx oY.o.dk (n:Int) (by omega) (by omega)).mono ?_;rintro r w5 ⟨q,rfl,CQ,hq1,oW,hc5⟩;obtain⟨k,rfl⟩:∃k:Nat,q=(k:Int):=⟨q.toNat,by omega⟩
  have hkn:k<n:=by omega
  have nA:=ai (oY.o.oA HK.o hc5 oW);have N6:=ai (hc5.blk HG4.o (by simp;omega));clear oW hc5 CQ hq1 oY HG4;have hkv:k<vs.length:=by omega
  have fq:k<L.length:=by have:=OX.o;omega
  obtain⟨z,hz⟩:∃z,z=vs[k]:=⟨_,rfl⟩
  have HZ:=ai hz;clear hz;have qw:=ai (show ∀j (hj:j<6),cur[k*6+j]?=some (z.cells[j]'hj) from fun j hj=>by
   have h2:=iJ jf.cells 6 jf.len vs k hkv j (by rw[jf.len];exact hj);rw[HGC.o (k*6+j) (by omega),h2,HZ.o]
   first|done|rfl)
  have e0:w5.cell? ⟨g,k*6,none⟩=some (.string z.name):=by rw[bX N6.o];exact qw.o 0 (by omega)
  have e1:w5.cell? ⟨g,k*6+1,none⟩=some (.bool z.dg):=by rw[bX N6.o];exact qw.o 1 (by omega)
  have e2:w5.cell? ⟨g,k*6+2,none⟩=some (.bool z.p.value):=by rw[bX N6.o];exact qw.o 2 (by omega)
  have e3:w5.cell? ⟨g,k*6+3,none⟩=some (.int .i64 z.p.pick):=by rw[bX N6.o];exact qw.o 3 (by omega)
  have e4:w5.cell? ⟨g,k*6+4,none⟩=some (.slice z.p.a z.p.n z.p.c):=by rw[bX N6.o];exact qw.o 4 (by omega)
  have e5:w5.cell? ⟨g,k*6+5,none⟩=some (.slice z.a z.n z.c):=by rw[bX N6.o];exact qw.o 5 (by omega)
  obtain⟨b7,hb7⟩:∃b,b=w5.heap.size:=⟨_,rfl⟩
  obtain⟨w6,rH⟩:∃W,W=w5.alloc (.cells #[.string z.name,.bool z.dg,.bool z.p.value,z.p.pick,.slice z.p.a z.p.n z.p.c,.slice z.a z.n z.c] 69):=⟨_,rfl⟩
  have jO:=ai (show w6.heap[b7]?=some (.cells #[.string z.name,.bool z.dg,.bool z.p.value,z.p.pick,.slice z.p.a z.p.n z.p.c,.slice z.a z.n z.c] 69 (0,0)) by rw[rH,hb7];exact bR w5 _);have gN:Ext w5 w6:=by rw[rH];exact(Tz w5).alloc _
  have vE:=ai (nA.o.ext HK.o gN);have HG6:=ai (gN.blk N6.o);have HN7:=ai (show b2+2<=b7/\b7≠g/\b2+2<=g/\bd<b2/\b2=w.heap.size from⟨by rw[hb7];exact nA.o.lt,by have:=bS N6.o;omega,a6o,aW4,HK.o.2.2⟩);go_upto_region 17 with fail;rw[<-rH,<-hb7];clear rH hb7 gN e0 e1 e2 e3 e4 e5 nA N6;go_wp2_with fail;refine(dx vE.o.dk 6 (by omega) (by omega)).mono ?_;rintro r w7 ⟨q,rfl,CQ,hq1,hd7,rE⟩;have JG:=ai (vE.o.oA HK.o rE hd7);have CX:=ai (rE.blk jO.o (by have:=HN7.o;simp;omega));have HG7:=ai (rE.blk HG6.o (by simp;omega));have hq:(q=0\/q=1\/q=2\/q=3\/q=4)\/q=5:=by omega
  obtain⟨R,hR⟩:∃R,R=L[k]:=⟨_,rfl⟩
  have HRR:=ai (show kC (mask w M) R z by rw[hR,HZ.o];exact HR.o.2 k fq hkv);have HRF:=ai (show R.proof.iT N/\R.gH.length<=N by rw[hR];exact K8.o.2 _ (aD fq));clear hd7 rE CQ hq1 vE jO HG6 hR;have HQ7:=ai (fun (W:World) (hS:SpS w0 w W bd b2 #[ D.oP,D.lim,D.xV,D.xU,D.xN,.bool D.Bt,.slice a n c])=>show Sub (mask w M) (mask W ([g,b2,b2+1]++M)) from hS.sub HBM.o (fun y hy=>by have:=HN7.o;simp only[bz,bC,or_false] at hy;omega));rcases hq with (rfl|rfl|rfl|rfl|rfl)|rfl
  case' inl.inl =>
   obtain⟨y0,y1,y2,y3,y4,y5,yf⟩:=dH CX.o;obtain⟨W8,hW8⟩:∃W8,W8=(w7.setCell ⟨b7,1,none⟩ (.bool !z.dg)):=⟨_,rfl⟩
   have HP8:=ai (show ct [b7] w7 W8 by rw[hW8];exact((ct.refl _ _).setCell (aoX (by simp)) _));obtain⟨z',hz'⟩:∃z':jf,z'={ z with dg:=!z.dg }:=⟨_,rfl⟩
   have Lr:=ai (show W8.heap[b7]?=some (.cells #[.string z'.name,.bool z'.dg,.bool z'.p.value,z'.p.pick,.slice z'.p.a z'.p.n z'.p.c,.slice z'.a z'.n z'.c] 69 (0,0)) by rw[hW8,hz'];have:=(afJ (i:=1) CX.o (.bool !z.dg));simpa using this);go_upto_region 31 with fail;rw[<-hW8];have Ik:=ai (JG.o.new HK.o HP8.o (fun y hy=>by rw[aG.1 hy];have:=HN7.o;omega));obtain⟨p1,p2,hn5⟩:=a59 (HRR.o.mono (HQ7.o _ Ik.o));obtain⟨r',HI8,HF8⟩:∃r',aj (kC (mask W8 ([g,b2,b2+1]++M)) r' z')/\aj (r'.proof.iT (N+1)/\r'.gH.length<=N+1):=⟨.mk z.name (!z.dg) R.proof R.gH,ai (by rw[hz'];exact Gc p1 p2 _ _),ai ⟨TM (Nat.le_succ N) HRF.o.1,Nat.le_succ_of_le HRF.o.2⟩⟩
   have HG8:=ai (HP8.o.blk HG7.o (by have:=HN7.o;simp;omega));clear hW8 hz' y0 y1 y2 y3 y4 y5 yf p1 p2 hn5 HP8 HQ7 JG CX HG7
  case' inl.inr.inl =>
   have HC:=ai (SC (N:=N) (by omega) HRF.o.1 z.p w0 w7 bd ([g,b2,b2+1,b7]++M) JG.o.dk ((a59 (HRR.o.mono (JG.o.sub HBM.o (N:=[g,b2,b2+1,b7]) (fun y hy=>by have:=HN7.o;simp only[bz,bC,or_false] at hy;omega)))).1) (by simp[HBM.o]) (fun y hy=>by
    have h1:=bS CX.o;have h2:=bS HG7.o;have h3:=JG.o.lt;have:=HN7.o;simp only[a48,List.nil_append,bz] at hy;rcases hy with h|h|h|h|h
    iterate 4 omega
    have:=HM.o y h;omega))
   unfold gS.val at HC;obtain⟨y0,y1,y2,y3,y4,y5,yf⟩:=dH CX.o;go_wp2_with fail;refine HC.o.mono ?_;rintro r w8 ⟨qr,qv,rfl,hqf,hqi,hd8,iI⟩;unfold gS.val;have AM:=ai (JG.o.oA HK.o iI hd8);have Vt:=ai (iI.blk CX.o (by have:=HN7.o;simp;omega));have HG9:=ai (iI.blk HG7.o (by have:=HN7.o;simp;omega));have HQI:=ai hqi;have HQF:=ai hqf;clear y0 y1 y2 y3 y4 y5 yf hqf hqi hd8 iI HC JG CX HG7;obtain⟨y0,y1,y2,y3,y4,y5,yf⟩:=dH Vt.o;obtain⟨W8,hW8⟩:∃W8,W8=(((w8.setCell ⟨b7,2,none⟩ (.bool qv.value)).setCell ⟨b7,3,none⟩ (.int .i64 qv.pick)).setCell ⟨b7,4,none⟩ (.slice qv.a qv.n qv.c)):=⟨_,rfl⟩
   have HP8:=ai (show ct [b7] w8 W8 by rw[hW8];exact((((ct.refl _ _).setCell (aoX (by simp)) _).setCell (aoX (by simp)) _).setCell (aoX (by simp)) _));obtain⟨z',hz'⟩:∃z':jf,z'={ z with p:=qv }:=⟨_,rfl⟩
   have Lr:=ai (show W8.heap[b7]?=some (.cells #[.string z'.name,.bool z'.dg,.bool z'.p.value,z'.p.pick,.slice z'.p.a z'.p.n z'.p.c,.slice z'.a z'.n z'.c] 69 (0,0)) by rw[hW8,hz'];have:=(afJ (i:=4) (afJ (i:=3) (afJ (i:=2) Vt.o (.bool qv.value)) (.int .i64 qv.pick)) (.slice qv.a qv.n qv.c));simpa using this);go_upto_region 31 with fail;rw[<-hW8];have Ik:=ai (AM.o.new HK.o HP8.o (fun y hy=>by rw[aG.1 hy];have:=HN7.o;omega));obtain⟨p1,p2,hn5⟩:=a59 (HRR.o.mono (HQ7.o _ Ik.o));obtain⟨r',HI8,HF8⟩:∃r',aj (kC (mask W8 ([g,b2,b2+1]++M)) r' z')/\aj (r'.proof.iT (N+1)/\r'.gH.length<=N+1):=⟨.mk z.name z.dg qr R.gH,ai (by rw[hz'];exact Gc (HQI.o.mono ((cF HP8.o (fun y hy=>aoX (by rw[aG.1 hy];simp))).trans (cM _ (fun y hy=>by simp only[a48,List.nil_append,bz] at hy ⊢;rcases hy with h|h|h|h<;>simp[h])))) p2 _ _),ai ⟨HQF.o,Nat.le_succ_of_le HRF.o.2⟩⟩
   have HG8:=ai (HP8.o.blk HG9.o (by have:=HN7.o;simp;omega));clear hW8 hz' y0 y1 y2 y3 y4 y5 yf p1 p2 hn5 HP8 HQ7 AM Vt HG9 HQI HQF
  case' inl.inr.inr.inl =>
   obtain⟨y0,y1,y2,y3,y4,y5,yf⟩:=dH CX.o;obtain⟨W8,hW8⟩:∃W8,W8=(w7.setCell ⟨b7,0,none⟩ (.string ⟨#[99,45,97,98]⟩)):=⟨_,rfl⟩
   have HP8:=ai (show ct [b7] w7 W8 by rw[hW8];exact((ct.refl _ _).setCell (aoX (by simp)) _));obtain⟨z',hz'⟩:∃z':jf,z'={ z with name:=⟨#[99,45,97,98]⟩ }:=⟨_,rfl⟩
   have Lr:=ai (show W8.heap[b7]?=some (.cells #[.string z'.name,.bool z'.dg,.bool z'.p.value,z'.p.pick,.slice z'.p.a z'.p.n z'.p.c,.slice z'.a z'.n z'.c] 69 (0,0)) by rw[hW8,hz'];have:=(afJ (i:=0) CX.o (.string ⟨#[99,45,97,98]⟩));simpa using this);go_upto_region 31 with fail;rw[<-hW8];have Ik:=ai (JG.o.new HK.o HP8.o (fun y hy=>by rw[aG.1 hy];have:=HN7.o;omega));obtain⟨p1,p2,hn5⟩:=a59 (HRR.o.mono (HQ7.o _ Ik.o));obtain⟨r',HI8,HF8⟩:∃r',aj (kC (mask W8 ([g,b2,b2+1]++M)) r' z')/\aj (r'.proof.iT (N+1)/\r'.gH.length<=N+1):=⟨.mk ⟨#[99,45,97,98]⟩ z.dg R.proof R.gH,ai (by rw[hz'];exact Gc p1 p2 _ _),ai ⟨TM (Nat.le_succ N) HRF.o.1,Nat.le_succ_of_le HRF.o.2⟩⟩
   have HG8:=ai (HP8.o.blk HG7.o (by have:=HN7.o;simp;omega));clear hW8 hz' y0 y1 y2 y3 y4 y5 yf p1 p2 hn5 HP8 HQ7 JG CX HG7
  case' inl.inr.inr.inr.inl =>
   obtain⟨p1,⟨xs,hur,huw⟩,hn5⟩:=a59 HRR.o;have Wm:xs.length=z.n:=huw.1.symm;have hzN:z.n<=N:=by rw[hn5];exact HRF.o.2
   have HUR:=ai hur;have HUW:=ai huw;have Uf:=ai (show 0<z.n->∃b off,z.a=some ⟨b,off,none⟩/\∀j (hj:j<(xs.flatMap jf.cells).length),(w7.alloc (.cells #[] 69)).cell? ⟨b,off+j,none⟩=some (xs.flatMap jf.cells)[j] from fun h=>by
    have hu2:=huw.mono (JG.o.sub HBM.o (N:=[]) (by simp));obtain⟨b,off,e,-⟩:=hu2.2.2.2 0 (by omega);rw[e] at hu2;exact⟨b,off,e,fun j hj=>((Tz w7).alloc _).cell (cC _ _ _ _ (atO hu2 j hj))⟩)
   clear p1 hur huw hn5;obtain⟨y0,y1,y2,y3,y4,y5,yf⟩:=dH CX.o;have hl7:=bS CX.o;have hxl:(xs.flatMap jf.cells).length=z.n*6:=by rw[eN jf.cells 6 (fun _=>rfl) xs,Wm]
   have HXL:=ai hxl;clear hxl Wm;go_wp2_with (at_builtin;refine gI Qq rfl _ _ rfl w7.heap.size _ 0 [] rfl ?o0 z.a z.n z.c (xs.flatMap jf.cells) rfl ?o1 ?o2 ?o3 ?o4 ?o5 ?o6 ?_)
   case o0=>exact World.ownsRow_lit w7 #[] 0 (aU _) (by simp) rfl
   case o1=>exact HXL.o
   case o2=>exact Uf.o
   case o3=>exact aK' xs
   case o4=>omega
   case o5=>omega
   case o6=>simp
   intro v9 w9 Bo a6c a6s;have HO9:=ai (show w9.ownsRow w7.heap.size 69 6 v9 z.n (xs.flatMap jf.cells) by simpa using Bo);have vL:=ai (show Ext w7 w9 from(eX a6c).ext ((Tz w7).alloc _) (fun y hy=>by have h:=bV.1 hy;simp only[Value.ownBlock,a42] at h;omega));have Vt:=ai (vL.o.blk CX.o);clear Bo a6c a6s y0 y1 y2 y3 y4 y5 yf hl7 Uf;have qC:=ai (adj w9 (jf.cells (⟨⟨#[119]⟩,false,⟨false,-1,none,0,0⟩,none,0,0⟩:jf)) 69);have VA:=vL.o.size;go_wp2_with (at_builtin;refine gI Qq rfl _ _ rfl w7.heap.size v9 z.n (xs.flatMap jf.cells) rfl ?o0 (some ⟨w9.heap.size,0,none⟩) 1 1 (jf.cells (⟨⟨#[119]⟩,false,⟨false,-1,none,0,0⟩,none,0,0⟩:jf)) rfl ?o1 ?o2 ?o3 ?o4 ?o5 ?o6 ?_)
   case o0=>exact World.ownsRow.alloc HO9.o _
   case o1=>rfl
   case o2=>exact fun _=>⟨_,0,rfl,qC.o⟩
   case o5=>omega
   case o3=>exact fun u hu=>aK' [(⟨⟨#[119]⟩,false,⟨false,-1,none,0,0⟩,none,0,0⟩:jf)] u (by simpa using hu)
   case o4=>omega
   case o6=>simp;omega
   intro v5 w8 dY a6d aMy;obtain⟨a6,c6,rfl⟩:=eP dY;have zo:=ai (show w8.ownsRow w7.heap.size 69 6 (.slice a6 (z.n+1) c6) (z.n+1) ((xs++[(⟨⟨#[119]⟩,false,⟨false,-1,none,0,0⟩,none,0,0⟩:jf)]).flatMap jf.cells) by rw[List.flatMap_append];simpa using dY);have nB:=ai (show Ext w7 w8 from(eX a6d).ext (vL.o.alloc _) (fun y hy=>(HO9.o.lt y (bV.1 hy)).1));have AM:=ai (JG.o.ext HK.o nB.o);have Vt:=ai (nB.o.blk CX.o);have HG9:=ai (nB.o.blk HG7.o);have kB:=ai (show b7<w7.heap.size/\g<w7.heap.size/\b2+2<=w7.heap.size from⟨bS CX.o,bS HG7.o,JG.o.lt⟩);clear dY a6d aMy VA qC vL HO9 JG CX HG7;obtain⟨y0,y1,y2,y3,y4,y5,yf⟩:=dH Vt.o;obtain⟨W8,hW8⟩:∃W8,W8=(w8.setCell ⟨b7,5,none⟩ (.slice a6 (z.n+1) c6)):=⟨_,rfl⟩
   have HP8:=ai (show ct [b7] w8 W8 by rw[hW8];exact((ct.refl _ _).setCell (aoX (by simp)) _));obtain⟨z',hz'⟩:∃z':jf,z'={ z with a:=a6,n:=z.n+1,c:=c6 }:=⟨_,rfl⟩
   have Lr:=ai (show W8.heap[b7]?=some (.cells #[.string z'.name,.bool z'.dg,.bool z'.p.value,z'.p.pick,.slice z'.p.a z'.p.n z'.p.c,.slice z'.a z'.n z'.c] 69 (0,0)) by rw[hW8,hz'];have:=(afJ (i:=5) Vt.o (.slice a6 (z.n+1) c6));simpa using this);go_upto_region 31 with fail;rw[<-hW8];have Ik:=ai (AM.o.new HK.o HP8.o (fun y hy=>by rw[aG.1 hy];have:=HN7.o;omega));obtain⟨p1,p2,hn5⟩:=a59 (HRR.o.mono (HQ7.o _ Ik.o));have HU:=ai (show iE (mask W8 ([g,b2,b2+1]++M)) (R.gH++[(.mk ⟨#[119]⟩ false (.mk false (-1) []) [])]) a6 (z.n+1) c6 from by
    have hl:=HUR.o.1;have Wm:=HUW.o.1;exact tH (cO zo.o HP8.o (fun q hq hm=>by rw[aG.1 hm] at hq;have:=(zo.o.lt b7 hq).1;have:=kB.o;omega)) (by simp;omega) (fun q hq hm=>by
     have h1:=(zo.o.lt q hq).1;have:=kB.o;have:=HN7.o;simp only[a48,List.nil_append,bz] at hm;rcases hm with h|h|h|h
     iterate 3 omega
     have:=HM.o q h;omega) ((HUR.o.mono (HQ7.o _ Ik.o)).snoc (Gc (yE _ false (-1)) (Fg _) _ _)))
   obtain⟨r',HI8,HF8⟩:∃r',aj (kC (mask W8 ([g,b2,b2+1]++M)) r' z')/\aj (r'.proof.iT (N+1)/\r'.gH.length<=N+1):=⟨.mk z.name z.dg R.proof (R.gH++[(.mk ⟨#[119]⟩ false (.mk false (-1) []) [])]),ai (by rw[hz'];exact Gc p1 HU.o _ _),ai ⟨TM (Nat.le_succ N) HRF.o.1,by show (R.gH++_).length<=_;rw[bg];have:=HRF.o.2;simp;omega⟩⟩
   have HG8:=ai (HP8.o.blk HG9.o (by have:=HN7.o;simp;omega));clear hW8 hz' y0 y1 y2 y3 y4 y5 yf p1 p2 hn5 HP8 HQ7 AM Vt HG9 zo nB kB HUR HUW HXL hzN HU
  case' inl.inr.inr.inr.inr =>
   have hzc:z.n<=z.c:=(a59 HRR.o).2.1.le;have hzN:z.n<=N:=by rw[(a59 HRR.o).2.2];exact HRF.o.2
   obtain⟨y0,y1,y2,y3,y4,y5,yf⟩:=dH CX.o;obtain⟨W8,hW8⟩:∃W8,W8=(w7.setCell ⟨b7,5,none⟩ (.slice z.a (z.n - 1) z.c)):=⟨_,rfl⟩
   have HP8:=ai (show ct [b7] w7 W8 by rw[hW8];exact((ct.refl _ _).setCell (aoX (by simp)) _));obtain⟨z',hz'⟩:∃z':jf,z'={ z with n:=z.n - 1 }:=⟨_,rfl⟩
   have Lr:=ai (show W8.heap[b7]?=some (.cells #[.string z'.name,.bool z'.dg,.bool z'.p.value,z'.p.pick,.slice z'.p.a z'.p.n z'.p.c,.slice z'.a z'.n z'.c] 69 (0,0)) by rw[hW8,hz'];have:=(afJ (i:=5) CX.o (.slice z.a (z.n - 1) z.c));simpa using this);go_upto_region 31 with fail;rw[show (max ((z.n:Int) - 1) 0).toNat=z.n - 1 by omega];rw[<-hW8];have Ik:=ai (JG.o.new HK.o HP8.o (fun y hy=>by rw[aG.1 hy];have:=HN7.o;omega));obtain⟨p1,p2,hn5⟩:=a59 (HRR.o.mono (HQ7.o _ Ik.o));obtain⟨r',HI8,HF8⟩:∃r',aj (kC (mask W8 ([g,b2,b2+1]++M)) r' z')/\aj (r'.proof.iT (N+1)/\r'.gH.length<=N+1):=⟨.mk z.name z.dg R.proof (R.gH.take (z.n - 1)),ai (by rw[hz'];exact Gc p1 (p2.take (Nat.sub_le _ _)) _ _),ai ⟨TM (Nat.le_succ N) HRF.o.1,by show (R.gH.take _).length<=_;rw[List.length_take];have:=HRF.o.2;omega⟩⟩
   have HG8:=ai (HP8.o.blk HG7.o (by have:=HN7.o;simp;omega));clear hW8 hz' y0 y1 y2 y3 y4 y5 yf p1 p2 hn5 HP8 HQ7 JG CX HG7 hzc hzN
  case' inl.inl|inl.inr.inl|inl.inr.inr.inl|inl.inr.inr.inr.inl|inl.inr.inr.inr.inr =>
   obtain⟨y0,y1,y2,y3,y4,y5,yf⟩:=dH Lr.o;have e0:W8.cell? ⟨g,k*6,none⟩=some (.string z.name):=by rw[bX HG8.o];exact qw.o 0 (by omega)
   have e1:W8.cell? ⟨g,k*6+1,none⟩=some (.bool z.dg):=by rw[bX HG8.o];exact qw.o 1 (by omega)
   have e2:W8.cell? ⟨g,k*6+2,none⟩=some (.bool z.p.value):=by rw[bX HG8.o];exact qw.o 2 (by omega)
   have e3:W8.cell? ⟨g,k*6+3,none⟩=some (.int .i64 z.p.pick):=by rw[bX HG8.o];exact qw.o 3 (by omega)
   have e4:W8.cell? ⟨g,k*6+4,none⟩=some (.slice z.p.a z.p.n z.p.c):=by rw[bX HG8.o];exact qw.o 4 (by omega)
   have e5:W8.cell? ⟨g,k*6+5,none⟩=some (.slice z.a z.n z.c):=by rw[bX HG8.o];exact qw.o 5 (by omega)
   have cg:∀j,W8.frozen? ⟨g,j,none⟩=false:=fun j=>frozen_of_row W8 g j cur _ HG8.o
   obtain⟨W9,hW9⟩:∃W',W'=a5g W8 g (k*6) z':=⟨_,rfl⟩
   have HE9:=ai hW9;have HP9:=ai (show ct [g] W8 W9 by rw[hW9];exact a5w _ _ _ _);unfold a5g at hW9;go_upto_region 32 with fail;rw[<-hW9];clear hW9 y0 y1 y2 y3 y4 y5 yf e0 e1 e2 e3 e4 e5 cg;have AM:=ai (Ik.o.new HK.o HP9.o (fun y hy=>by rw[aG.1 hy];exact a6o));have HL9:=ai (a5L (N:=[b2,b2+1]++M) HG8.o HGC.o hgn (by omega) hkn agM HE9.o (fun hm=>by
    simp only[a48,List.nil_append,bz] at hm;rcases hm with h|h|h
    iterate 2 omega
    have:=HM.o g h;have:=HN7.o;omega) (HR.o.mono (AM.o.sub HBM.o (fun y hy=>by have:=HN7.o;simp only[bz,bC,or_false] at hy;omega))) (HI8.o.mono ((cF HP9.o (fun y hy=>aoX (by rw[aG.1 hy];simp))).trans (cM _ (fun y hy=>aZ _ hy)))))
   obtain⟨b0',b1',b2',b3',b4',b5',b6',bf'⟩:=gR AM.o.h2;obtain⟨W7,Yz⟩:∃W7,W7=W9.setCell ⟨b2,6,none⟩ (.slice (some ⟨g,0,none⟩) n lc):=⟨_,rfl⟩
   go_upto_region 33 with fail;rw[<-Yz];obtain⟨D7,L7,a7,n7,c7,HL7,a6j,JG⟩:∃(D7:rT) (L7:List Rs) (a7:OA) (n7 c7:Nat),aj (iE (mask W7 ((b2+1)::M)) L7 a7 n7 c7)/\aj (SpN (N+1) L7)/\aj (SpS w0 w W7 bd b2 #[ D7.oP,D7.lim,D7.xV,D7.xU,D7.xN,.bool D7.Bt,.slice a7 n7 c7]):=⟨D,L.set k r',some ⟨g,0,none⟩,n,lc,ai (by rw[Yz];exact(HL9.o.mono (cF (afN _ b2 _ _) (fun y hy=>aoX (by rw[aG.1 hy];simp)))).mono (cM _ (fun y hy=>aZ _ hy))),ai ⟨by rw[List.length_set];have:=OX.o;omega,fun x hx=>by
    rcases List.mem_or_eq_of_mem_set hx with hx|rfl
    ·exact(K8.o.mono (Nat.le_succ N)).2 x hx
    exact HF8.o⟩,ai (by rw[Yz];have:=AM.o.put HK.o 6 (.slice (some ⟨g,0,none⟩) n lc);simpa using this)⟩
   clear Yz b0' b1' b2' b3' b4' b5' b6' bf' AM HL9 HE9 HP9 Ik Lr HG8 HI8 HF8
  case' inr =>
   obtain⟨m,hm⟩:∃m,m=k+1:=⟨_,rfl⟩
   have hmn:m<=n:=by omega
   have HMI:=ai (show (k:Int)+1=((m:Nat):Int) by omega);clear hm;have av2:=ai (a6b HG7.o HGC.o (by omega) agM);go_upto_region 29 with fail;refine kG (m:=11) (Er:=ErQ 6 w7.heap.size) (C:=Ext w7) (Φ:=fun _=>True) (fun _=>ErQ.of (Tz _)) (fun _ _ h=>ErQ.of h) (fun _ _ h q=>ErQ.ext (aU _) h q) (Tz w7).drew trivial (fun _ _ _ h=>h) ?_;refine dP (γ:=Nat) (fun g=>.slice (some ⟨g,0,none⟩) 0 0) (fun g W=>w7.heap.size<=g/\W.heap[g]?=some (.cells #[] 69 (0,0))) (fun W hW _ _=>?_) (fun g W W' hx h=>⟨h.1,hx.blk h.2⟩) ?_ ⟨0⟩
   ·unfold bQ;go_simp;exact⟨ErQ.of ((Tz W).alloc _),W.heap.size,rfl,hW.size,bR W _⟩
   intro p0 K hK;go_simp;go_big_quiet_on
   repeat (refine bZ ?_;intro K hK;go_big_quiet_op;go_big_quiet_on)
   refine dP (γ:=OA×Nat) (fun q=>.slice q.1 k q.2) (fun q W=>W.ownsRow w7.heap.size 69 6 (.slice q.1 k q.2) k ((vs.take k).flatMap jf.cells)/\(k=0->q.2=0)) (fun W hW h _=>?_) (fun q W W' hx h=>⟨cO h.1 (hx.cR []) (by simp),h.2⟩) ?_ ⟨(none,0)⟩
   ·refine a6y _ _ w7.heap.size 0 (some ⟨p0,0,none⟩) 0 [] (vs.take k) rfl (some ⟨g,0,none⟩) k lc rfl (by omega) ⟨rfl,a4Z ⟨p0,0,#[],rfl,h.1,h.2,aU _,by unfold maxLen;omega,rfl,rfl⟩⟩ (a5j (av2.o.ext hW) (by omega)) hW.size (by omega) ?_;intro a' c' w' ho he hm;exact⟨he,(a',c'),by rw[Nat.zero_add],by simpa using ho,hm⟩
   rintro⟨a1,c1⟩ K hK;go_simp;go_big_quiet_on
   repeat (refine bZ ?_;intro K hK;go_big_quiet_op;go_big_quiet_on)
   rw[HMI.o]
   repeat (refine bZ ?_;intro K hK;go_big_quiet_op;go_big_quiet_on)
   refine dP (γ:=OA×Nat) (fun q=>.slice q.1 (k+(n - (k+1))) q.2) (fun q W=>W.ownsRow w7.heap.size 69 6 (.slice q.1 (k+(n - (k+1))) q.2) (k+(n - (k+1))) ((vs.take k++vs.drop (k+1)).flatMap jf.cells)) (fun W hW h hF=>?_) (fun q W W' hx h=>cO h (hx.cR []) (by simp)) ?_ ⟨(none,0)⟩
   ·refine a6y _ _ w7.heap.size (k) a1 c1 (vs.take k) (vs.drop (k+1)) rfl _ (n - (k+1)) (lc - (k+1)) rfl (by omega) h.1 (by have:=a5k (m:=k+1) (av2.o.ext hW) (by omega);simpa using this) hW.size (by have:=h.2;omega) ?_;intro a' c' w' ho he hm;exact⟨he,(a',c'),rfl,ho⟩
   rintro⟨a2,c2⟩ K hK;go_simp;go_big_quiet_on
   repeat (refine bZ ?_;intro K hK;go_big_quiet_op;go_big_quiet_on)
   refine nH fun W hW hd _=>?_
   have HO:=ai hd;have HSW:=ai (JG.o.ext HK.o hW);have wF:=JG.o.lt;have kB:=ai (show b2+2<=w7.heap.size from wF);obtain⟨b0',b1',b2',b3',b4',b5',b6',bf'⟩:=gR HSW.o.h2;obtain⟨W7,Yz⟩:∃W7,W7=W.setCell ⟨b2,6,none⟩ (.slice a2 (k+(n - (k+1))) c2):=⟨_,rfl⟩
   clear hW hd wF;go_upto_region 30 with fail;rw[<-Yz];have nS:=ai (show ct [b2] W W7 by rw[Yz];exact afN _ _ _ _);have AM:=ai (show SpS w0 w W7 bd b2 #[ D.oP,D.lim,D.xV,D.xU,D.xN,.bool D.Bt,.slice a2 (k+(n - (k+1))) c2] by rw[Yz];have:=HSW.o.put HK.o 6 (.slice a2 (k+(n - (k+1))) c2);simpa using this);clear Yz b0' b1' b2' b3' b4' b5' b6' bf' JG;obtain⟨D7,L7,a7,n7,c7,HL7,a6j,JG⟩:∃(D7:rT) (L7:List Rs) (a7:OA) (n7 c7:Nat),aj (iE (mask W7 ((b2+1)::M)) L7 a7 n7 c7)/\aj (SpN (N+1) L7)/\aj (SpS w0 w W7 bd b2 #[ D7.oP,D7.lim,D7.xV,D7.xU,D7.xN,.bool D7.Bt,.slice a7 n7 c7]):=⟨D,L.take k++L.drop (k+1),a2,k+(n - (k+1)),c2,ai (tH (cO HO.o nS.o (fun q hq hm=>by rw[aG.1 hm] at hq;have:=(HO.o.lt b2 hq).1;have:=kB.o;omega)) (by have:=OX.o;simp;omega) (fun q hq hm=>by
     have h1:=(HO.o.lt q hq).1;have:=kB.o;rcases bz.1 hm with h|h
     ·omega
     have:=HM.o q h;have:=HK.o.2.2;omega) (((HR.o.take k).append (HR.o.drop (k+1))).mono (AM.o.sub HBM.o (N:=[b2+1]) (fun y hy=>by rw[aG.1 hy];have:=HK.o.2.2;omega)))),ai ⟨by have:=OX.o;simp;omega,fun x hx=>by
    rcases aN.1 hx with hx|hx
    ·exact(K8.o.mono (Nat.le_succ N)).2 x (List.mem_of_mem_take hx)
    exact(K8.o.mono (Nat.le_succ N)).2 x (List.mem_of_mem_drop hx)⟩,AM⟩
   clear AM HSW HO nS kB av2 HMI CX HG7 HQ7;generalize hax:(if lc=k+1 then (some (⟨g,0,none⟩:Addr)) else some ⟨g,(k+1)*6,none⟩)=ax;clear hax
 all_goals
  obtain⟨b0',b1',b2',b3',b4',b5',b6',bf'⟩:=gR JG.o.h2;obtain⟨r0,r1,r2,r3,r4,r5,r6,rf⟩:=gR JG.o.h4;go_wp2_with fail;have HZ:=ai (JG.o.fin HK.o (v0:=.int .i64 D7.oP) (v1:=.int .i64 D7.lim) (v2:=.int .i64 D7.xV) (v3:=.int .i64 D7.xU) (v4:=.int .i64 D7.xN) (v5:=.bool D7.Bt) (v6:=.slice a7 n7 c7) HL7.o);obtain⟨wz,eV⟩:∃wz,wz=j5 W7 (b2+1) (.int .i64 D7.oP) (.int .i64 D7.lim) (.int .i64 D7.xV) (.int .i64 D7.xU) (.int .i64 D7.xN) (.bool D7.Bt) (.slice a7 n7 c7):=⟨_,rfl⟩
  rw[<-eV] at HZ;unfold j5 at eV;rw[<-eV];clear eV r0 r1 r2 r3 r4 r5 r6 rf b0' b1' b2' b3' b4' b5' b6' bf';obtain⟨z0,z1,z2,z3,z4,z5,z6,zf⟩:=gR HZ.o.1;refine a5a (v:=.agg #[ D7.oP,D7.lim,D7.xV,D7.xU,D7.xN,.bool D7.Bt,.slice a7 n7 c7]) (by simp[results,Tryz.results25,go_sem,z0,z1,z2,z3,z4,z5,z6]) rfl ?_;exact⟨D7,L7,a7,n7,c7,rfl,HZ.o.2.1,a6j.o,HZ.o.2.2.1,HZ.o.2.2.2⟩
theorem kC.parts {w:World} {r:Rs} {v:jf} (h:kC w r v):∃(rn:BA) (ra:Bool) (rp:Pr) (ru:List Rs) (pv:gS) (a:OA) (n c:Nat),r=.mk rn ra rp ru/\v=⟨rn,ra,pv,a,n,c⟩/\n=ru.length/\gL w rp pv/\iE w ru a n c:=by
 cases h with
 | mk vs hp hr hl h=>exact⟨_,_,_,_,_,_,_,_,rfl,rfl,by rw[hr.1,hl],hp,vs,⟨hl.symm,h⟩,hr⟩
theorem iE.nth {w:World} {L:List Rs} {a:OA} {n c:Nat} (h:iE w L a n c) {k:Nat} (hk:k<L.length):∃(bl off:Nat) (v:jf),a=some ⟨bl,off,none⟩/\kC w L[k] v/\w.cell? ⟨bl,off+k*6,none⟩=some (.string v.name)/\w.cell? ⟨bl,off+k*6+1,none⟩=some (.bool v.dg)/\w.cell? ⟨bl,off+k*6+2,none⟩=some (.bool v.p.value)/\w.cell? ⟨bl,off+k*6+3,none⟩=some (.int .i64 v.p.pick)/\w.cell? ⟨bl,off+k*6+4,none⟩=some (.slice v.p.a v.p.n v.p.c)/\w.cell? ⟨bl,off+k*6+5,none⟩=some (.slice v.a v.n v.c):=by
 obtain⟨vs,h1,h2⟩:=h;have hkv:k<vs.length:=by rw[<-h1.1];exact hk
 obtain⟨bl,off,ha,hc⟩:=h2.2.2.2 k hkv;exact⟨bl,off,vs[k],ha,h1.2 k hk hkv,by simpa[jf.cells] using hc 0 (by simp[jf.cells]),by simpa[jf.cells] using hc 1 (by simp[jf.cells]),by simpa[jf.cells] using hc 2 (by simp[jf.cells]),by simpa[jf.cells] using hc 3 (by simp[jf.cells]),by simpa[jf.cells] using hc 4 (by simp[jf.cells]),by simpa[jf.cells] using hc 5 (by simp[jf.cells])⟩
theorem iE.ln {w:World} {L:List Rs} {a:OA} {n c:Nat} (h:iE w L a n c):n=L.length:=by
 obtain⟨vs,h1,h2⟩:=h;rw[h2.1,h1.1]
theorem WU.verify {w:World} {s:List Attr} {l:List cK} {f:ZI} {lo:fT} {n:Nat} (h:WU w s l f lo n) {e:Ex} {ev:Value} (he:dw w e ev) (hp:Pd s l e) {u:List cK} {a:OA} {c:Nat} (hu:Ee l e u) (hc:cZ w u a u.length c) {p:Pr} {pv:gS} (hpr:gL w p pv) :
  Calls Tryz.prog 100 #[.agg #[.slice lo.sa lo.sn lo.sc],.slice a u.length c,ev,.slice lo.fa lo.fn lo.fc,pv.val] w (cz (.bool (CY s l f e p)) w):=by
 obtain⟨p1,p2,p3,p4,p5,p6⟩:=hp;obtain⟨q1,-⟩:=hu.eval h.ok p1 p2 p3 h.facts;obtain⟨-,q3⟩:=hu.pf (s:=s) (f:=f) p3;have hq:=Df s u e f p pv _ ev a u.length c lo.fa lo.fn lo.fc w ⟨h.agl.x7,h.ais,h.SH,hc,by have:=hu.1.len;have:=(lK h.ok).len;omega,fun x hx=>h.Ca x (hu.2 x hx),he,p4,p5,p6,h.agl.ints,h.fnl,h.ops⟩ hpr;unfold atj at hq;rw[bM q1,q3] at hq;exact hq
theorem aEh {A:Ex->Pr->Bool} {u:List Wb} {lo:fT} {au:OA} {nu cu:Nat} (w:World) (ZW:nu<=1000000) (hlen:nu=u.length) (hd:gK w u au) {rs:List Rs} {ja:OA} {jn jc:Nat} (hr:iE w rs ja jn jc)
  (ai2:∀(k:Nat) (hk:k<u.length) (v:Cz) (r:Rs) (rv:jf) (W:World),Ext w W->v.name=u[k].name->dw W u[k].cond v.x.val->v.nu=u[k].gH.length->gK W u[k].gH v.au->kC W r rv->Calls Tryz.prog 75 #[lo.val,.iface 113 (.agg #[.string v.name,v.x.op,.string v.x.name,.slice v.x.aw v.x.nw v.x.cw,v.x.lo,v.x.hi,.slice v.x.aa v.x.na v.x.ca,.slice v.au v.nu v.cu]),rv.val] W (cz (.bool (I8 A u[k].name u[k].cond u[k].gH r)) W)) :
  Calls Tryz.prog 101 #[lo.val,.slice au nu cu,.slice ja jn jc] w (cz (.bool ((qK A u).1 rs)) w):=by
 have HRL:=ai hr.ln;have HR:=ai hr;have HD:=ai hd;have qB:=ai hlen;have HRC:=ai ai2;have ZW:=ZW;obtain⟨Z,hZ⟩:∃Z,Z=(qK A u).1 rs:=⟨_,rfl⟩
 rw[<-hZ];have HZ:=ai hZ;clear hr hd hlen ai2 hZ;unfold fT.val jf.val at HRC;unfold fT.val;obtain⟨wa,cN⟩:∃wa,wa=w.alloc (.cells #[.slice lo.sa lo.sn lo.sc,.map (some lo.bm),.slice lo.fa lo.fn lo.fc] 74):=⟨_,rfl⟩
 have dm:=ai (show Ext w wa by rw[cN];exact(Tz _).alloc _);have HA:=ai (show wa.heap[w.heap.size]?=some (.cells #[.slice lo.sa lo.sn lo.sc,.map (some lo.bm),.slice lo.fa lo.fn lo.fc] 74 (0,0)) by rw[cN];exact bR w _);go_enter Tryz.func101,Tryz.ntmps101
 go_upto_region 1 with fail;rw[<-cN];clear cN;by_cases hne:jn=nu
 case neg =>
  have t1:((jn:Int) != (nu:Int))=true:=by simp;omega
  have HQ:=ai (show Z=false by
   rw[HZ.o];cases hb:(qK A u).1 rs
   ·rfl
   exact a40 (by rw[HRL.o,qB.o];exact aqx A u rs hb) hne)
  clear hne;go_wp2_with fail;go_ret;exact bW HQ.o.symm dm.o
 have t1:((jn:Int) != (nu:Int))=false:=by simp[hne]
 have qP:=ai hne;clear hne;go_wp2_with fail;clear t1;go_loopw [16] (fun i wr=>∃k:Nat,i=.int .i64 k/\k<=nu/\(qK A u).1 rs=(qK A (u.drop k)).1 (rs.drop k)/\Ext wa wr) (fun i _=>nu - (intOf i).toNat)
 case atStart=>exact⟨0,rfl,Nat.zero_le _,rfl,Tz _⟩
 case round =>
  obtain⟨k,rfl,hk,hv,hx⟩:=hrel;have HV:=ai (HZ.o.trans hv);have HX:=ai (dm.o.trans hx);have HB:=ai (hx.blk HA.o);have BO:=ai hx;clear hv hx;by_cases hkn:k<nu
  ·have fq:k<u.length:=by have:=qB.o;omega
   have hkr:k<rs.length:=by have:=HRL.o;have:=qP.o;omega
   have t1:=ag ((k:Int)<(nu:Int));have tk0:(0:Int)<=(k:Int):=by omega
   have tk1:(k:Int)<(jn:Int):=by have:=qP.o;omega
   obtain⟨b,off,rfl,v,Co,hrow,wU,Sg,-,-,PZ⟩:=gK.at u _ (gK.mono HX.o.sub u _ HD.o) k fq;obtain⟨c0,c1,c2,c3,c4,c5,c6,c7⟩:=hrow.eight;obtain⟨br,aVX,rv,rfl,sq,e0,e1,e2,e3,e4,e5⟩:=(HR.o.mono HX.o.sub).nth hkr;have Gl:=ai sq.app;have se:=ai (fun W (hW:Ext wr W)=>HRC.o k fq v rs[k] rv W (HX.o.trans hW) Co (wU.ext hW) Sg (gK.mono hW.sub _ _ PZ) (sq.mono hW.sub));have HST:=ai (ayV A fq hkr);obtain⟨Q,hQ⟩:∃Q,Q=I8 A u[k].name u[k].cond u[k].gH rs[k]:=⟨_,rfl⟩
   rw[<-hQ] at se HST;rw[<-Gl.o] at HST;obtain⟨vn,va,vp,vua,vun,vuc⟩:=rv;simp only at e0 e1 e2 e3 e4 e5 HST se;clear Co hrow wU Sg PZ hQ sq Gl;obtain⟨wb,iV⟩:∃wb,wb=wr.alloc (.cells #[.string v.name,v.x.op,.string v.x.name,.slice v.x.aw v.x.nw v.x.cw,v.x.lo,v.x.hi,.slice v.x.aa v.x.na v.x.ca,.slice v.au v.nu v.cu] 53):=⟨_,rfl⟩
   have jK:=ai (show Ext wr wb by rw[iV];exact(Tz _).alloc _);have VB:wb.heap[wr.heap.size]?=some (.cells #[.string v.name,v.x.op,.string v.x.name,.slice v.x.aw v.x.nw v.x.cw,v.x.lo,v.x.hi,.slice v.x.aa v.x.na v.x.ca,.slice v.au v.nu v.cu] 53 (0,0)):=by rw[iV];exact bR wr _
   have D0:=jK.o.cell e0;have D1:=jK.o.cell e1;have D2:=jK.o.cell e2;have D3:=jK.o.cell e3;have D4:=jK.o.cell e4;have D5:=jK.o.cell e5;go_upto_region 6 with fail;rw[<-iV];clear iV e0 e1 e2 e3 e4 e5 c0 c1 c2 c3 c4 c5 c6 c7;obtain⟨x0,x1,x2,xf⟩:=dM (jK.o.blk HB.o);obtain⟨f0,f1,f2,f3,f4,f5,f6,f7,ff⟩:=oO VB;clear VB;obtain⟨E0,E1,E2,E3,E4,E5⟩:=wcn6 D0 D1 D2 D3 D4 D5;obtain⟨X0,X1,X2,F0,F1,F2⟩:=wcn6 x0 x1 x2 f0 f1 f2;obtain⟨F3,F4,F5⟩:=wcn3 f3 f4 f5;have F6:=bT f6;have F7:=bT f7;clear D0 D1 D2 D3 D4 D5 x0 x1 x2 xf f0 f1 f2 f3 f4 f5 f6 f7 ff;cases va
   case true =>
    have HQ:=ai (show Z=false by rw[HV.o,HST.o];rfl);refine kT 17 ?_
    repeat first|(refine bZ ?_;intro K hK;go_big_quiet_op;go_big_quiet_on)|(refine zX ?_;intro K hK;go_simp;go_big_quiet_on)
    refine gC fun w1 hx1 _ _=>?_
    have dI:=ai (HX.o.trans (jK.o.trans hx1));clear hx1 E0 E1 E2 E3 E4 E5 X0 X1 X2 F0 F1 F2 F3 F4 F5 F6 F7;go_wp2_with fail;go_ret;exact bW HQ.o.symm dI.o
   refine kT 17 ?_
   repeat (refine bZ ?_;intro K hK;go_big_quiet_op;go_big_quiet_on)
   refine mU (fun W hW=>se.o W (jK.o.trans hW)) ?_;intro K hK;go_simp;go_big_quiet_on
   repeat (refine bZ ?_;intro K hK;go_big_quiet_op;go_big_quiet_on)
   refine gC fun w1 hx1 _ _=>?_
   have dI:=ai (HX.o.trans (jK.o.trans hx1));have dN:=ai (BO.o.trans (jK.o.trans hx1));clear hx1 E0 E1 E2 E3 E4 E5 X0 X1 X2 F0 F1 F2 F3 F4 F5 F6 F7;cases Q
   ·have HQ:=ai (show Z=false by rw[HV.o,HST.o];rfl);go_wp2_with fail;go_ret;exact bW HQ.o.symm dI.o
   have qO:=ai (show (qK A u).1 rs=(qK A (u.drop (k+1))).1 (rs.drop (k+1)) by rw[<-HZ.o,HV.o,HST.o];rfl);go_wp2_with fail;go_roundw
   case rel=>exact⟨k+1,by go_num,by omega,qO.o,dN.o⟩
   case measure=>simp[intOf];omega
  have t1:=ah ((k:Int)<(nu:Int));have HQ:=ai (show Z=true by
   rw[HV.o,show k=u.length by have:=qB.o;omega,List.drop_length,show u.length=rs.length by have:=HRL.o;have:=qP.o;have:=qB.o;omega,List.drop_length,qK];rfl)
  go_wp2_with fail;go_ret;exact bW HQ.o.symm HX.o
theorem ala {s:List Attr} {l:List cK} {f:ZI} {lo:fT} {n:Nat} {T:TypeId} {pt:Value} {nm:BA} {x:dK} {au:OA} {nu cu:Nat} {fw fn fu:FuncId} (hpt:aog T pt nm x au nu cu fw fn fu) (cond:Ex) (u:List Wb) (w:World) (h:WU w s l f lo n) (hp:Pd s l cond) (ZW:nu<=1000000) (hlen:nu=u.length) (hex:dw w cond x.val) (hd:gK w u au) {r:Rs} {rv:jf} (hr:kC w r rv) {A:Ex->Pr->Bool} (hA:A=CY s l f)
  (ai2:∀(k:Nat) (hk:k<u.length) (v:Cz) (r:Rs) (rv:jf) (W:World),Ext w W->v.name=u[k].name->dw W u[k].cond v.x.val->v.nu=u[k].gH.length->gK W u[k].gH v.au->kC W r rv->Calls Tryz.prog 75 #[lo.val,.iface 113 (.agg #[.string v.name,v.x.op,.string v.x.name,.slice v.x.aw v.x.nw v.x.cw,v.x.lo,v.x.hi,.slice v.x.aa v.x.na v.x.ca,.slice v.au v.nu v.cu]),rv.val] W (cz (.bool (I8 A u[k].name u[k].cond u[k].gH r)) W)) :
  Calls Tryz.prog 75 #[lo.val,.iface T pt,rv.val] w (cz (.bool (I8 A nm cond u r)) w):=by
 have hck:=lK h.ok;have hsz:=(Bf hp.1).2;obtain⟨rn,ra,rp,ru,pv,ja,jn,jc,rfl,rfl,hjn,hpv,hru⟩:=hr.parts;have HU:=ai (fun W (hW:Ext w W)=>Xa s l f cond x.val lo n W (h.agl.ext hW) (by have:=hck.len;omega) (hex.ext hW) ⟨by omega,hp.2.2.2.2.1⟩ (fun x hx=>⟨by have:=(Bf (hck.good x hx).2.2.1).2;omega,(h.Ca x hx).2.1⟩));have HE:=ai (fun W (hW:Ext w W) (u:List cK) (a:OA) (c:Nat) (hu:Ee l cond u) (hc:cZ W u a u.length c)=>(h.ext hW).verify (hex.ext hW) hp hu hc (hpv.mono hW.sub));rw[<-hA] at HE;obtain⟨U,hU⟩:∃U:List cK->Prop,U=Ee l cond:=⟨_,rfl⟩
 unfold axv at HU;have HU2:=ai (fun W (hW:Ext w W)=>(HU.o W hW).mono (fun r w' (hq:∃u a c,r=.returned (.slice a u.length c)/\cZ w' u a u.length c/\Ee l cond u/\Ext W w')=>by rw[<-hU] at hq;exact hq));rw[<-hU] at HE;have HRC:=ai (fun (r:Rs) (rv:jf) (k:Nat) (hk:k<u.length) (v:Cz) (W:World) (hW:Ext w W)=>ai2 k hk v r rv W hW);have kJ:=ai (fun W (hW:Ext w W)=>aEh (A:=A) (u:=u) (lo:=lo) (cu:=cu) W ZW hlen (gK.mono hW.sub _ _ hd) (hru.mono hW.sub) (fun k hk v r rv W' hW'=>ai2 k hk v r rv W' (hW.trans hW')));have HD:=ai hd;have qB:=ai hlen;have HRU:=ai hru;have HJN:=ai hjn;have HPT:=ai hpt;have hm1:=hpt.mw;have hm2:=hpt.mn;have hm3:=hpt.mu;have he1:=hpt.ew;have he2:=hpt.en;have he3:=hpt.eu;obtain⟨B,hB⟩:∃B,B=A cond rp:=⟨_,rfl⟩
 rw[<-hB] at HE;obtain⟨N,hN⟩:∃N,N=(qK A u).1 ru:=⟨_,rfl⟩
 rw[<-hN] at kJ;have Gi:=ai (show pv.value=rp.value from hpv.parts.1);obtain⟨Z,hZ⟩:∃Z,Z=I8 A nm cond u (.mk rn ra rp ru):=⟨_,rfl⟩
 rw[<-hZ];have HZ:=ai (show Z=(decide (rn=nm)&&B&&(if (!pv.value||u.isEmpty)=true then ra==pv.value&&ru.isEmpty else if ra=true then N else api (qK A u).2 ru)) by rw[hZ,hB,hN,Gi.o];rfl);clear h hp hck hsz hU HU hlen hex hd ai2 hpt hr hpv hru hjn hB hN hZ hA;unfold dK.val fN at HU2 HE;unfold fT.val at HU2 kJ;unfold fT.val at HRC ⊢;unfold jf.val at HRC ⊢;unfold gS.val at HE;obtain⟨pb,pk,pa,pn,pc⟩:=pv;simp only at HE Gi HZ ⊢;obtain⟨b2,hb2⟩:∃b2,b2=w.heap.size:=⟨_,rfl⟩
 obtain⟨wa,cN⟩:∃wa,wa=(w.alloc (.cells #[.slice lo.sa lo.sn lo.sc,.map (some lo.bm),.slice lo.fa lo.fn lo.fc] 74)).alloc (.cells #[.string rn,.bool ra,.bool pb,pk,.slice pa pn pc,.slice ja jn jc] 69):=⟨_,rfl⟩
 have dm:=ai (show Ext w wa by rw[cN];exact((Tz _).alloc _).alloc _);have HA2:=ai (show wa.heap[b2]?=some (.cells #[.slice lo.sa lo.sn lo.sc,.map (some lo.bm),.slice lo.fa lo.fn lo.fc] 74 (0,0)) by rw[cN,hb2];exact bU (bR w _));have HA4:=ai (show wa.heap[b2+1]?=some (.cells #[.string rn,.bool ra,.bool pb,pk,.slice pa pn pc,.slice ja jn jc] 69 (0,0)) by rw[cN,hb2];exact cT (by simp));go_enter Tryz.func75,Tryz.ntmps75
 go_upto_region 1 with fail;rw[<-cN,<-hb2];clear cN hb2;go_wp2_with fail;refine(HPT.o.cw wa).mono ?_;rintro r w1 ⟨rfl,hx1⟩;go_upto_region 2 with fail;obtain⟨b5,hb5⟩:∃b5,b5=w1.heap.size:=⟨_,rfl⟩
 obtain⟨w2,hw2⟩:∃w2,w2=w1.alloc (.cells #[ x.op,.string x.name,.slice x.aw x.nw x.cw,x.lo,x.hi,.slice x.aa x.na x.ca] 45):=⟨_,rfl⟩
 have hx2:Ext wa w2:=hx1.trans (by rw[hw2];exact(Tz _).alloc _);have HE5:=ai (show w2.heap[b5]?=some (.cells #[ x.op,.string x.name,.slice x.aw x.nw x.cw,x.lo,x.hi,.slice x.aa x.na x.ca] 45 (0,0)) by rw[hw2,hb5];exact bR w1 _);have dN:=ai (dm.o.trans hx2);have H2:=ai (hx2.blk HA2.o);have H4:=ai (hx2.blk HA4.o);rw[<-hw2,<-hb5];clear hw2 hb5 hx1 hx2 dm HA2 HA4;obtain⟨x0,x1,x2,xf⟩:=dM H2.o;obtain⟨f0,f1,f2,f3,f4,f5,ff⟩:=cX HE5.o;obtain⟨r0,r1,r2,r3,r4,r5,rf⟩:=dH H4.o;obtain⟨C0,C1,C2,D0,D1,D2⟩:=wcn6 x0 x1 x2 f0 f1 f2;obtain⟨D3,D4,D5,E0,E1,E2⟩:=wcn6 f3 f4 f5 r0 r1 r2;obtain⟨E3,E4,E5⟩:=wcn3 r3 r4 r5;by_cases hnm:rn=nm
 case neg =>
  have t1:(rn.toList==nm.toList)=false:=by simpa using fun e=>hnm (toList_inj e)
  have HQ:=ai (show Z=false by rw[HZ.o,bP hnm];rfl);clear hnm;refine kT 19 ?_
  repeat (refine bZ ?_;intro K hK;go_big_quiet_op;go_big_quiet_on)
  refine mU (fun W hW=>HPT.o.cn W) ?_;intro K hK;go_simp;go_big_quiet_on
  repeat first|(refine bZ ?_;intro K hK;go_big_quiet_op;go_big_quiet_on)|(refine zX ?_;intro K hK;go_simp;go_big_quiet_on)
  refine gC fun w4 gV _ _=>?_
  have jl:=ai (dN.o.trans gV);clear gV x0 x1 x2 xf f0 f1 f2 f3 f4 f5 ff r0 r1 r2 r3 r4 r5 rf C0 C1 C2 D0 D1 D2 D3 D4 D5 E0 E1 E2 E3 E4 E5;go_wp2_with fail;go_ret;exact bW HQ.o.symm jl.o
 have t1:(rn.toList==nm.toList)=true:=by simp[hnm]
 have IE:=ai (show Z=(B&&(if (!pb||u.isEmpty)=true then ra==pb&&ru.isEmpty else if ra=true then N else api (qK A u).2 ru)) by rw[HZ.o,bO hnm];rfl);clear hnm HZ;refine kT 19 ?_
 repeat (refine bZ ?_;intro K hK;go_big_quiet_op;go_big_quiet_on)
 refine mU (fun W hW=>HPT.o.cn W) ?_;intro K hK;go_simp;go_big_quiet_on
 repeat (refine bZ ?_;intro K hK;go_big_quiet_op;go_big_quiet_on)
 refine dP (γ:=List cK×OA×Nat) (fun x=>.slice x.2.1 x.1.length x.2.2) (fun x W=>U x.1/\cZ W x.1 x.2.1 x.1.length x.2.2) (fun W hW _ _=>?_) (fun x W W' hx h=>⟨h.1,h.2.ext hx⟩) ?_ ⟨([],none,0)⟩
 ·unfold bQ;go_simp;refine(HU2.o W (dN.o.trans hW)).mono ?_;rintro r w1 ⟨u,a,c,rfl,h1,h2,h3⟩;exact⟨_,rfl,h3,(u,a,c),rfl,h2,h1⟩
 rintro⟨u',a,c⟩ K hK;go_simp;go_big_quiet_on
 repeat (refine bZ ?_;intro K hK;go_big_quiet_op;go_big_quiet_on)
 refine fZ (.bool B) (fun _=>True) (fun W hW h _=>?_) (fun _ _ _ h=>h) ?_
 ·unfold bQ;go_simp;refine(HE.o W (dN.o.trans hW) u' a c h.1 h.2).mono ?_;rintro r w1 ⟨rfl,h3⟩;exact⟨_,rfl,h3,rfl,trivial⟩
 intro K hK;go_simp;go_big_quiet_on
 repeat (refine bZ ?_;intro K hK;go_big_quiet_op;go_big_quiet_on)
 refine gC fun w4 gV _ _=>?_
 have jl:=ai (dN.o.trans gV);have H24:=ai (gV.blk H2.o);have H44:=ai (gV.blk H4.o);clear gV x0 x1 x2 xf f0 f1 f2 f3 f4 f5 ff r0 r1 r2 r3 r4 r5 rf C0 C1 C2 D0 D1 D2 D3 D4 D5 E0 E1 E2 E3 E4 E5 HE HU2 HE5 H2 H4 t1 hm1 hm2 he1 he2 dN;cases B
 ·go_wp2_with fail;go_ret;exact bW (by rw[IE.o];rfl) jl.o
 have HZ3:=ai (show Z=(if (!pb||u.isEmpty)=true then ra==pb&&ru.isEmpty else if ra=true then N else api (qK A u).2 ru) by rw[IE.o];rfl);clear IE;go_wp2_with fail;refine(HPT.o.cu w4).mono ?_;rintro r w5 ⟨rfl,dh⟩;have gW:=ai (jl.o.trans dh);have H25:=ai (dh.blk H24.o);have H45:=ai (dh.blk H44.o);clear dh jl H24 H44 hm3 he3;obtain⟨x0,x1,x2,xf⟩:=dM H25.o;obtain⟨r0,r1,r2,r3,r4,r5,rf⟩:=dH H45.o;have hemp:(!pb||u.isEmpty)=true->Z=(ra==pb&&ru.isEmpty):=fun h=>by rw[HZ3.o,bM h]
 have aQR:(!pb||u.isEmpty)=false->Z=(if ra=true then N else api (qK A u).2 ru):=fun h=>by rw[HZ3.o,h];rfl
 have hju:ru.isEmpty=((jn:Int)==0):=by
  rw[HJN.o];cases ru
  ·rfl
  simp;omega
 have HEM:=ai hemp;have HFU:=ai aQR;have HJU:=ai hju;clear hemp aQR hju HZ3;cases pb
 case false =>
  have HQ:=ai (show Z=(ra==false&&((jn:Int)==0)) by rw[HEM.o rfl,HJU.o]);obtain⟨J,hJ⟩:∃J,J=((jn:Int)==0):=⟨_,rfl⟩
  rw[<-hJ] at HQ;have t3:=hJ.symm;clear hJ;cases ra
  ·go_wp2_with fail;go_ret;exact bW (by rw[HQ.o];rfl) gW.o
  go_wp2_with fail;go_ret;exact bW (by rw[HQ.o];rfl) gW.o
 by_cases hn0:nu=0
 ·have t2:((nu:Int)==0)=true:=by simp[hn0]
  have HQ:=ai (show Z=(ra==true&&((jn:Int)==0)) by
   rw[HEM.o (by
    have:u=[]:=aR (by have:=qB.o;omega);rw[this];rfl),HJU.o])
  obtain⟨J,hJ⟩:∃J,J=((jn:Int)==0):=⟨_,rfl⟩
  rw[<-hJ] at HQ;have t3:=hJ.symm;clear hJ hn0;cases ra
  ·go_wp2_with fail;go_ret;exact bW (by rw[HQ.o];rfl) gW.o
  go_wp2_with fail;go_ret;exact bW (by rw[HQ.o];rfl) gW.o
 have t2:((nu:Int)==0)=false:=by simp;omega
 have HQ:=ai (HFU.o (by
  cases hu:u with
  | nil=>have:=qB.o;rw[hu] at this;simp at this;omega
  | cons y t=>rfl))
 clear hn0 HEM HFU HJU;cases ra
 case true =>
  go_wp2_with fail;refine(kJ.o w5 gW.o).mono ?_;rintro r w6 ⟨rfl,gN⟩;have kR:=ai (gW.o.trans gN);clear gN x0 x1 x2 xf r0 r1 r2 r3 r4 r5 rf;go_wp2_with fail;go_ret;exact bW (by rw[HQ.o];rfl) kR.o
 have Ro:=ai (show Z=(api (qK A u).2 ru) by rw[HQ.o];rfl);clear HQ kJ;by_cases hj1:jn=1
 case neg =>
  have t3:((jn:Int) != 1)=true:=by simp;omega
  have HQ:=ai (show Z=false by
   rw[Ro.o];have:=HJN.o
   match ru,this with
   | [],_=>rfl
   | [y],h=>exact a40 h hj1
   | _::_::_,_=>rfl)
  clear hj1;go_wp2_with fail;go_ret;exact bW HQ.o.symm gW.o
 have t3:((jn:Int) != 1)=false:=by simp[hj1]
 have tj:(0:Int)<(jn:Int):=by omega
 have hlr:ru.length=1:=by have:=HJN.o;omega
 obtain⟨y,rfl⟩:∃y,ru=[y]:=by
  match ru,hlr with
  | [y],_=>exact⟨y,rfl⟩
 obtain⟨br,aVX,rv,rfl,sq,e0,e1,e2,e3,e4,e5⟩:=(HRU.o.mono gW.o.sub).nth (k:=0) (by simp);have Gl:=ai (show rv.dg=y.dg from sq.app);have CA:=ai (show kC w5 y rv from sq);obtain⟨yn,ya,yp,yua,yun,yuc⟩:=rv;simp only[Nat.zero_mul,Nat.add_zero] at e0 e1 e2 e3 e4 e5 Gl;clear sq hlr hj1 CA;have RT:=ai (show Z=(ya&&(qK A u).2 y) by rw[Ro.o,Gl.o];rfl);clear Ro Gl;cases ya
 case false =>
  go_wp2_with fail;go_ret;exact bW (by rw[RT.o];rfl) gW.o
 have HQ4:=ai (show Z=(qK A u).2 y by rw[RT.o];rfl);clear RT;go_wp2_with fail;clear x0 x1 x2 xf r0 r1 r2 r3 r4 r5 rf e0 e1 e2 e3 e4 e5 t2 t3;go_loopw [76] (fun i wr=>∃k:Nat,i=.int .i64 k/\k<=nu/\(qK A u).2 y=(qK A (u.drop k)).2 y/\Ext w5 wr) (fun i _=>nu - (intOf i).toNat)
 case atStart=>exact⟨0,rfl,Nat.zero_le _,rfl,Tz _⟩
 case round =>
  obtain⟨k,rfl,hk,hv,hx⟩:=hrel;have HV:=ai (HQ4.o.trans hv);have HX:=ai (gW.o.trans hx);have fY:=ai (hx.blk H25.o);have qD:=ai (hx.blk H45.o);have BO:=ai hx;clear hv hx;by_cases hkn:k<nu
  ·have fq:k<u.length:=by have:=qB.o;omega
   have t1:=ag ((k:Int)<(nu:Int));obtain⟨b,off,rfl,v,Co,hrow,wU,Sg,-,-,PZ⟩:=gK.at u _ (gK.mono HX.o.sub u _ HD.o) k fq;obtain⟨c0,c1,c2,c3,c4,c5,c6,c7⟩:=hrow.eight;obtain⟨_,_,⟨zn,za,zp,zua,zun,zuc⟩,hq,sq,e0,e1,e2,e3,e4,e5⟩:=(HRU.o.mono HX.o.sub).nth (k:=0) (by simp);cases hq
   simp only[Nat.zero_mul,Nat.add_zero] at e0 e1 e2 e3 e4 e5;have se:=ai (fun W (hW:Ext wr W)=>HRC.o y ⟨zn,za,zp,zua,zun,zuc⟩ k fq v W (HX.o.trans hW) Co (wU.ext hW) Sg (gK.mono hW.sub _ _ PZ) (kC.mono sq hW.sub));have HST:=ai (aCS A fq y);obtain⟨Q,hQ⟩:∃Q,Q=I8 A u[k].name u[k].cond u[k].gH y:=⟨_,rfl⟩
   rw[<-hQ] at se HST;clear Co hrow wU Sg PZ hQ sq;obtain⟨wb,iV⟩:∃wb,wb=wr.alloc (.cells #[.string v.name,v.x.op,.string v.x.name,.slice v.x.aw v.x.nw v.x.cw,v.x.lo,v.x.hi,.slice v.x.aa v.x.na v.x.ca,.slice v.au v.nu v.cu] 53):=⟨_,rfl⟩
   have jK:=ai (show Ext wr wb by rw[iV];exact(Tz _).alloc _);have VB:wb.heap[wr.heap.size]?=some (.cells #[.string v.name,v.x.op,.string v.x.name,.slice v.x.aw v.x.nw v.x.cw,v.x.lo,v.x.hi,.slice v.x.aa v.x.na v.x.ca,.slice v.au v.nu v.cu] 53 (0,0)):=by rw[iV];exact bR wr _
   have D0:=jK.o.cell e0;have D1:=jK.o.cell e1;have D2:=jK.o.cell e2;have D3:=jK.o.cell e3;have D4:=jK.o.cell e4;have D5:=jK.o.cell e5;go_upto_region 14 with fail;rw[<-iV];clear iV e0 e1 e2 e3 e4 e5 c0 c1 c2 c3 c4 c5 c6 c7;obtain⟨x0,x1,x2,xf⟩:=dM (jK.o.blk fY.o);obtain⟨r0,r1,r2,r3,r4,r5,rf⟩:=dH (jK.o.blk qD.o);obtain⟨f0,f1,f2,f3,f4,f5,f6,f7,ff⟩:=oO VB;clear VB;obtain⟨E0,E1,E2,E3,E4,E5⟩:=wcn6 D0 D1 D2 D3 D4 D5;obtain⟨X0,X1,X2,F0,F1,F2⟩:=wcn6 x0 x1 x2 f0 f1 f2;obtain⟨F3,F4,F5,F6,F7,R5⟩:=wcn6 f3 f4 f5 f6 f7 r5;clear D0 D1 D2 D3 D4 D5 x0 x1 x2 xf f0 f1 f2 f3 f4 f5 f6 f7 ff r0 r1 r2 r3 r4 r5 rf;refine kT 9 ?_
   repeat (refine bZ ?_;intro K hK;go_big_quiet_op;go_big_quiet_on)
   refine mU (fun W hW=>se.o W (jK.o.trans hW)) ?_;intro K hK;go_simp;go_big_quiet_on
   repeat (refine bZ ?_;intro K hK;go_big_quiet_op;go_big_quiet_on)
   refine gC fun w6 gN _ _=>?_
   have kR:=ai (HX.o.trans (jK.o.trans gN));have rZ:=ai (BO.o.trans (jK.o.trans gN));clear gN E0 E1 E2 E3 E4 E5 X0 X1 X2 F0 F1 F2 F3 F4 F5 F6 F7 R5;cases Q
   ·have qO:=ai (show (qK A u).2 y=(qK A (u.drop (k+1))).2 y by rw[<-HQ4.o,HV.o,HST.o];rfl);go_wp2_with fail;go_roundw
    case rel=>exact⟨k+1,by go_num,by omega,qO.o,rZ.o⟩
    case measure=>simp[intOf];omega
   go_wp2_with fail;go_ret;exact bW (by rw[HV.o,HST.o];rfl) kR.o
  have t1:=ah ((k:Int)<(nu:Int));have HQ:=ai (show Z=false by
   rw[HV.o,show k=u.length by have:=qB.o;omega,List.drop_length,qK])
  go_wp2_with fail;go_ret;exact bW HQ.o.symm HX.o
theorem azW {s:List Attr} {l:List cK} {f:ZI} {lo:fT} {n:Nat}:∀(m:Nat) (cond:Ex) (u:List Wb) (nm:BA) (x:dK) (au:OA) (nu cu:Nat) (w:World) (r:Rs) (rv:jf),mH u<=m->WU w s l f lo n->Pd s l cond->jY (Pd s l) u->mH u<=1000000->nu=u.length->dw w cond x.val->gK w u au->kC w r rv ->
  Calls Tryz.prog 75 #[lo.val,.iface 113 (.agg #[.string nm,x.op,.string x.name,.slice x.aw x.nw x.cw,x.lo,x.hi,.slice x.aa x.na x.ca,.slice au nu cu]),rv.val] w (cz (.bool (I8 (CY s l f) nm cond u r)) w):=by
 intro m;induction m using Nat.strongRecOn with
 | _ m ih =>
  intro cond u nm x au nu cu w r rv hm h hp hok ZW hlen hex hd hr;have hl:=ql u;refine ala (Sq nm x au nu cu) cond u w h hp (by omega) hlen hex hd hr rfl fun k hk v r rv W hW Co wU Sg PZ hr=>?_
  have hat:=zw u k hk;rw[<-Co];exact ih (mH u[k].gH) (by omega) u[k].cond u[k].gH v.name v.x v.au v.nu v.cu W r rv (aU _) (h.ext hW) (j7 u hok k hk).1 (j7 u hok k hk).2.1 (by omega) Sg wU PZ hr
theorem arK {s:List Attr} {l:List cK} {f:ZI} {lo:fT} {n:Nat} (cond:Ex) (u:List Wb) (kd:Int) (nm:BA) (x:dK) (au:OA) (nu cu:Nat) (am:Int) (w:World) (h:WU w s l f lo n) (hp:Pd s l cond) (hok:jY (Pd s l) u) (hn:mH u<=1000000) (hlen:nu=u.length) (hex:dw w cond x.val) (hd:gK w u au) {r:Rs} {rv:jf} (hr:kC w r rv) :
  Calls Tryz.prog 75 #[lo.val,.iface 81 (.agg #[ kd,.string nm,x.op,.string x.name,.slice x.aw x.nw x.cw,x.lo,x.hi,.slice x.aa x.na x.ca,.slice au nu cu,am]),rv.val] w (cz (.bool (I8 (CY s l f) nm cond u r)) w):=by
 have hl:=ql u;refine ala (adi kd nm x au nu cu am) cond u w h hp (by omega) hlen hex hd hr rfl fun k hk v r rv W hW Co wU Sg PZ hr=>?_
 have hat:=zw u k hk;rw[<-Co];exact azW (mH u[k].gH) u[k].cond u[k].gH v.name v.x v.au v.nu v.cu W r rv (aU _) (h.ext hW) (j7 u hok k hk).1 (j7 u hok k hk).2.1 (by omega) Sg wU PZ hr
end Go.Proofs.YtefjomofjejklaaGreatDoor
