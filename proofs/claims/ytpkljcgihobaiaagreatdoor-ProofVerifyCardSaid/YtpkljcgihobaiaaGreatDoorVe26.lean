/-
  Texts of the claim, joined: Spoil, PSnd, RPv0, RPvF, RPvD.
-/
import Derived.Test.YtpkljcgihobaiaaGreatDoorVe25
namespace Go.Proofs.YtpkljcgihobaiaaGreatDoor
set_option maxRecDepth 100000
set_option maxHeartbeats 32000000
open Go.RowKit
def SpDo (N:Nat) (p:Pr):Prop:=∀ (pv:PrV) (w0 w:World) (bd:Nat) (M:ZN),DeckAt w0 w bd->IsPr (mask w M) p pv->bd∈M->(∀ y∈M,y < w.heap.size) ->
 Calls Tryz.prog 21 #[.pointer (some ⟨bd,0,none⟩),pv.val] w (DPrQ (fun q=>q.few (N+1)) w0 bd M w)
def SpF (w0 w W:World) (be bd N:Nat) (M:ZN) (vb:Bool) (kb:Int) (ab:OA) (nb cb:Nat) (psb:List Pr):Prop:=W.heap[be]?=some (.cells #[.bool vb,.int .i64 kb,.slice ab nb cb] 40 (0,0))/\IsPr (mask W ((be+1)::M)) (.mk vb kb psb) ⟨vb,kb,ab,nb,cb⟩/\Chg [bd] w W/\DeckAt w0 W bd/\W.heap[be+1]?=some prZero/\(Pr.mk vb kb psb).few (N+1)
theorem sp_step {N:Nat} {v:Bool} {k:Int} {ps:List Pr} (hN:N<=2000000) (hn:ps.length<=N) (hch:∀ q∈ps,q.few N) (ih:∀ q∈ps,SpDo N q):SpDo N (.mk v k ps):=by
 intro pv w0 w bd M hd hp hbM hM
 obtain⟨xs,epv,hrows,hprs⟩:=prs_parts hp
 obtain⟨pb,pk,a,n,c⟩:=pv
 simp only[PrV.mk.injEq] at epv
 obtain⟨rfl,rfl,-⟩:=epv
 simp only at hrows
 have h0w:w0.heap.size<=w.heap.size:=by obtain⟨_,_,_,_,_,_,_,_,hx,_⟩:=hd;exact hx.size
 have h0d:w0.heap.size<=bd:=by obtain⟨_,_,_,_,_,_,_,_,_,h⟩:=hd;exact h
 have hbd:bd < w.heap.size:=hd.lt
 have hxl:xs.length=n:=hrows.1.symm
 have HXL:=hI hxl
 have hpn1:ps.length<=n:=by rw[hprs.1,hxl];omega
 have hpn2:n<=ps.length:=by rw[hprs.1,hxl];omega
 have hncap:=hrows.2.1
 have hnN:n<=N:=by omega
 have HIH:=hI ih
 have HCH:=hI hch
 have HP0:=hI hp
 have HR:=hI hprs
 have HRW:=hI hrows
 have HBM:=hI hbM
 have HM:=hI hM
 have HLEN:=hI (show (xs.flatMap PrV.cells).length=n * 3 by rw[length_flatMap_of PrV.cells 3 PrV.len,hxl])
 have hxl1:xs.length<=n:=by omega
 have hxl2:n<=xs.length:=by omega
 clear hxl
 unfold PrV.val
 obtain⟨wb,hwb⟩:∃ wb,wb=(w.alloc (.cells #[.bool pb,.int .i64 pk,.slice a n c] 40)).alloc (.cells #[.bool false,.int .i64 0,.slice none 0 0] 40):=⟨_,rfl⟩
 have hxw:Ext w wb:=by rw[hwb];exact((Ext.refl w).alloc _).alloc _
 obtain⟨be,hbe0⟩:∃ be:Nat,be=w.heap.size:=⟨_,rfl⟩
 have hbe:wb.heap[be]?=some (.cells #[.bool pb,.int .i64 pk,.slice a n c] 40 (0,0)):=by rw[hwb,hbe0];exact blk_alloc (alloc_new w _)
 have hbr:wb.heap[be+1]?=some prZero:=by rw[hwb,hbe0];exact alloc_atR (by simp)
 have HDW:=hI (hd.ext hxw)
 have HXW:=hI hxw
 have HBE:=hI hbe
 have HBR:=hI hbr
 have HB0:=hI hbe0
 obtain⟨b0,b1,b2,bf⟩:=blk3 hbe
 have hle:=blk_lt hbe
 have hlr:=blk_lt hbr
 have hbe1:be<=w.heap.size:=by omega
 have hbe2:w.heap.size<=be:=by omega
 clear ih hM hd hp hch hprs hrows hbM hxw hbr hbe
 go_enter Tryz.func21,Tryz.ntmps21
 go_upto_region 1 with fail
 rw[<-hwb,<-hbe0]
 clear hwb hbe0
 go_cut [15] (fun s15 wx=>∃ c:Bool,s15=.bool c/\(c=true->0 < n)/\Chg [bd] wb wx/\DeckAt w0 wx bd)
 case first =>
  by_cases hp:0 < n
  ·have t1:decide (0 < (n:Int))=true:=by simp;omega
   have t2:decide (0 < n)=true:=by simp;omega
   go_wp2_with fail
   refine(next_calls HDW.out _ (by omega) (by omega)).mono ?_
   rintro r w1 ⟨r1,rfl,hr0,hr1,hd1,hc1⟩
   have HD1:=hI hd1
   have HC1:=hI hc1
   clear hd1 hc1 b0 b1 b2 bf
   go_wp2_with fail
   go_meet
   case rel=>exact⟨_,rfl,fun _=>hp,HC1.out,HD1.out⟩
  have t1:decide (0 < (n:Int))=false:=by simp;omega
  have t2:decide (0 < n)=false:=by simp;omega
  go_wp2_with fail
  go_meet
  case rel=>exact⟨false,rfl,fun h=>by simp at h,Chg.refl _ _,HDW.out⟩
 case rest =>
 obtain⟨cc,rfl,hcn,hc1,hd1⟩:=hcut
 clear b0 b1 b2 bf
 have HCW:=hI (show Chg [bd] w wc from((HXW.out.chg [bd]).then hc1))
 have HBE:=hI (hc1.blk HBE.out (by simp;omega))
 have HBR:=hI (hc1.blk HBR.out (by simp;omega))
 have HD1:=hI hd1
 have HCN:=hI hcn
 have hz1:=hc1.size
 clear hc1 hd1 hcn HDW HXW
 cases cc
 case' true =>
  have hnp:0 < n:=HCN.out rfl
  clear HCN
  obtain⟨b0,b1,b2,bf⟩:=blk3 HBE.out
  go_wp2_with fail
  refine(next_calls HD1.out _ (by omega) (by omega)).mono ?_
  rintro r w2 ⟨q,rfl,hq0,hq1,hd2,hc2⟩
  obtain⟨kk,rfl⟩:∃ k:Nat,q=(k:Int):=⟨q.toNat,by omega⟩
  have hkn:kk < n:=by omega
  have HCW:=hI (HCW.out.then hc2)
  have HBE:=hI (hc2.blk HBE.out (by simp;omega))
  have HBR:=hI (hc2.blk HBR.out (by simp;omega))
  have HD2:=hI hd2
  have hz2:=hc2.size
  clear hc2 hd2 HD1 b0 b1 b2 bf
  obtain⟨b0,b1,b2,bf⟩:=blk3 HBE.out
  have hl2:=blk_lt HBR.out
  have hlE:=blk_lt HBE.out
  have HSL:=hI (show 0 < n->∃ b off,a=some ⟨b,off,none⟩/\∀ j (hj:j < (xs.flatMap PrV.cells).length),(w2.alloc (.cells #[] 40)).cell? ⟨b,off+j,none⟩=some (xs.flatMap PrV.cells)[j] from fun h=>by
   obtain⟨b,off,e1,e2⟩:=rows_news HRW.out h
   exact⟨b,off,e1,fun j hj=>mask_sub _ _ _ _ (mask_step (HCW.out.alloc (.cells #[] 40)) HBM.out _ _ (e2 j hj))⟩)
  go_wp2_with (at_builtin;refine wpList_append_all elemPr rfl _ _ rfl w2.heap.size _ 0 [] rfl ?o0 a n c (xs.flatMap PrV.cells) rfl ?o1 ?o2 ?o3 ?o4 ?o5 ?o6 ?_)
  case o0=>exact World.ownsRow_lit w2 #[] 0 (Nat.le_refl _) (by simp) rfl
  case o1=>exact HLEN.out
  case o2=>exact fun h=>HSL.out h
  case o3=>exact cells_onePr xs
  case o4=>omega
  case o5=>omega
  case o6=>simp
  intro v3 w3 hown3 hgrow3 hat3
  have HCA:=hI (show Chg [bd] w w3 from(HCW.out.alloc _).grown hgrow3 (fun y hy=>by simp only[Value.ownBlock] at hy;injection hy with hy;subst hy;exact Or.inr (by omega)))
  have hrn:∀ k,k < w2.heap.size->k∉rowOf (.slice (some ⟨w2.heap.size,0,none⟩) 0 0):=fun k hk hm=>by have:=mem_rowOf.1 hm;simp only[Value.ownBlock] at this;injection this with this;omega
  have HBE:=hI ((grown_chg hgrow3).blk (blk_alloc HBE.out) (hrn _ (by omega)))
  have HBR:=hI ((grown_chg hgrow3).blk (blk_alloc HBR.out) (hrn _ (by omega)))
  have HD3:=hI ((HD2.out.ext ((Ext.refl w2).alloc _)).chg (grown_chg hgrow3) (hrn _ (by omega)) (fun y hy=>by have:=mem_rowOf.1 hy;simp only[Value.ownBlock] at this;injection this with this;omega))
  have HO3:=hI hown3
  have hz3:=hgrow3.size
  simp at hz3
  clear hown3 hgrow3 hat3 hrn b0 b1 b2 bf hl2 hlE
  obtain⟨g,cap,cur,hv3,hg1,hgb,hgn,hgc,hcapn⟩:∃ g cap cur,v3=.slice (some ⟨g,0,none⟩) n cap/\w2.heap.size<=g/\w3.heap[g]?=some (.cells cur 40 (0,0))/\n * 3<=cur.size/\(∀ j,j < n * 3->cur[j]?=(xs.flatMap PrV.cells)[j]?)/\n<=cap:=by
   have h:=HO3.out
   rcases h.2 with ⟨_,h0⟩|⟨g,cap,cur,h1,h2,h3,h4,h5,h6,h7⟩
   ·omega
   have hq:n<=cap:=by simpa using h4
   refine⟨g,cap,cur,by simpa using h1,h2,h3,?_,fun j hj=>?_,hq⟩
   ·rw[h6]
    omega
   have h8:=congrArg (fun l=>l[j]?) h7
   try simp only[Nat.zero_add] at h8
   rw[List.getElem?_take,if_pos hj] at h8
   simpa using h8
  subst hv3
  have HGC:=hI hgc
  have hgl:=blk_lt hgb
  have hk3:kk * 3+3<=cur.size:=by omega
  have hkx:kk < xs.length:=by omega
  have hkp:kk < ps.length:=by omega
  have HCK:=hI (show ∀ j,j < 3->cur[kk * 3+j]?=xs[kk].cells[j]? from fun j hj=>by
   have h1:=HGC.out (kk * 3+j) (by omega)
   rw[h1,flatMap_at PrV.cells 3 PrV.len xs kk hkx j (by rw[PrV.len];exact hj),List.getElem?_eq_getElem (by rw[PrV.len];exact hj)])
  have HGB:=hI hgb
  have hsub:=sub_newM (M:=M) (N:=[be,be+1,g]) HCA.out HBM.out (by simp;omega)
  have HC:=hI (HIH.out ps[kk] (List.getElem_mem hkp) xs[kk] w0 w3 bd ([be,be+1,g]++M) HD3.out ((HR.out.2 kk hkp hkx).mono hsub) (List.mem_append_right _ HBM.out) (fun y hy=>by
   rcases List.mem_append.1 hy with hy|hy
   ·simp at hy;omega
   have:=HM.out y hy;omega))
  have c0:w3.cell? ⟨g,kk * 3,none⟩=some (.bool xs[kk].value):=by rw[blk_cell hgb];have:=HCK.out 0 (by omega);simpa [PrV.cells] using this
  have c1:w3.cell? ⟨g,kk * 3+1,none⟩=some (.int .i64 xs[kk].pick):=by rw[blk_cell hgb];have:=HCK.out 1 (by omega);simpa [PrV.cells] using this
  have c2:w3.cell? ⟨g,kk * 3+2,none⟩=some (.slice xs[kk].a xs[kk].n xs[kk].c):=by rw[blk_cell hgb];have:=HCK.out 2 (by omega);simpa [PrV.cells] using this
  unfold PrV.val at HC
  clear hgb hgc hsub
  go_wp2_with fail
  refine HC.out.mono ?_
  rintro r w5 ⟨q',v',rfl,hok',he',hd5,hc5⟩
  have HOK5:=hI hok'
  have HE5:=hI he'
  have HD5:=hI hd5
  have HC5:=hI hc5
  have hgbd:g∉[bd]:=by simp;omega
  have HGB5:=hI (hc5.blk HGB.out hgbd)
  have HBE5:=hI (hc5.blk HBE.out (by simp;omega))
  have HBR5:=hI (hc5.blk HBR.out (by simp;omega))
  have hz5:=hc5.size
  have cf:∀ j,w5.frozen? ⟨g,j,none⟩=false:=fun j=>frozen_of_row w5 g j cur _ HGB5.out
  clear hok' he' hd5 hc5 c0 c1 c2 HC hgbd
  have c0:w5.cell? ⟨g,kk * 3,none⟩=some (.bool xs[kk].value):=by rw[blk_cell HGB5.out];have:=HCK.out 0 (by omega);simpa [PrV.cells] using this
  have c1:w5.cell? ⟨g,kk * 3+1,none⟩=some (.int .i64 xs[kk].pick):=by rw[blk_cell HGB5.out];have:=HCK.out 1 (by omega);simpa [PrV.cells] using this
  have c2:w5.cell? ⟨g,kk * 3+2,none⟩=some (.slice xs[kk].a xs[kk].n xs[kk].c):=by rw[blk_cell HGB5.out];have:=HCK.out 2 (by omega);simpa [PrV.cells] using this
  unfold PrV.val
  go_upto_region 5 with fail
  obtain⟨W6,hW6⟩:∃ W6,W6=put3at w5 g (kk * 3) v':=⟨_,rfl⟩
  have HW6:=hI hW6
  have HP6:=hI (show Chg [g] w5 W6 by rw[hW6];exact put3at_chg _ _ _ _ (by simp))
  unfold put3at at hW6
  rw[<-hW6]
  have HBE6:=hI (HP6.out.blk HBE5.out (by simp;omega))
  have HBR6:=hI (HP6.out.blk HBR5.out (by simp;omega))
  have hz6:=HP6.out.size
  clear hW6 c0 c1 c2 cf
  obtain⟨b0,b1,b2,bf⟩:=blk3 HBE6.out
  go_upto_region 6 with fail
  obtain⟨W7,hW7⟩:∃ W7,W7=W6.setCell ⟨be,2,none⟩ (.slice (some ⟨g,0,none⟩) n cap):=⟨_,rfl⟩
  have HCB:=hI (show Chg [be] W6 W7 by rw[hW7];exact put_chg _ _ _ _)
  have HBE7:=hI (show W7.heap[be]?=some (.cells #[.bool pb,.int .i64 pk,.slice (some ⟨g,0,none⟩) n cap] 40 (0,0)) by rw[hW7];have:=put_blk (i:=2) HBE6.out (.slice (some ⟨g,0,none⟩) n cap);simpa using this)
  rw[<-hW7]
  clear hW7 b0 b1 b2 bf
  have HROW:=hI (sp_row (be:=be) (B:=be+1) (t:=40) HR.out HBM.out HXL.out HGB5.out HGC.out hk3 hkx HW6.out HCB.out (HCA.out.then HC5.out) HE5.out HB0.out (by rw[HB0.out]) ⟨by omega,by omega,by omega,by omega⟩ HM.out hcapn pb pk)
  have HC7:=hI (show Chg [bd] w W7 from((HCA.out.then HC5.out).trans HP6.out (by intro y hy;simp at hy;subst hy;exact Or.inr (by omega))).trans HCB.out (by intro y hy;simp at hy;subst hy;exact Or.inr (by omega)))
  have HD7:=hI (show DeckAt w0 W7 bd from(HD5.out.chg HP6.out (by simp;omega) (by simp;omega)).chg HCB.out (by simp;omega) (by simp;omega))
  have HBR7:=hI (HCB.out.blk HBR6.out (by simp))
  have HFW:=hI (few_set (v:=pb) (k:=pk) hn HCH.out (i:=kk) HOK5.out)
  obtain⟨vb,kb,ab,nb,cb,psb,HF⟩:∃ vb kb ab nb cb psb,RowKit.Hid (SpF w0 w W7 be bd N M vb kb ab nb cb psb):=⟨pb,pk,some ⟨g,0,none⟩,n,cap,ps.set kk q',Lib.hid ⟨HBE7.out,HROW.out,HC7.out,HD7.out,HBR7.out,HFW.out⟩⟩
  clear HBE7 HROW HC7 HD7 HBR7 HFW HCB
 case' false =>
  clear HCN
  go_wp2_with fail
  refine(next_calls HD1.out _ (by omega) (by omega)).mono ?_
  rintro r w2 ⟨q4,rfl,hr0,hr4,hd2,hc2⟩
  have HC2:=hI (HCW.out.then hc2)
  have HBE2:=hI (hc2.blk HBE.out (by simp;omega))
  have HBR2:=hI (hc2.blk HBR.out (by simp;omega))
  have HD2:=hI hd2
  have HP2:=hI (HP0.out.mono (mask_step HC2.out HBM.out))
  have hz2:=HC2.out.size
  have hbw2:be+1 < w2.heap.size:=blk_lt HBR2.out
  clear hd2 hc2 HD1 HCW HBE HBR
  have hq4:q4=0\/q4=1\/q4=2\/q4=3:=by omega
  clear hr0 hr4
  rcases hq4 with rfl|rfl|rfl|rfl
  case' inl =>
   obtain⟨b0,b1,b2,bf⟩:=blk3 HBE2.out
   obtain⟨W7,hW7⟩:∃ W7,W7=w2.setCell ⟨be,0,none⟩ (.bool !pb):=⟨_,rfl⟩
   have HCB:=hI (show Chg [be] w2 W7 by rw[hW7];exact put_chg _ _ _ _)
   have HBE7:=hI (show W7.heap[be]?=some (.cells #[.bool !pb,.int .i64 pk,.slice a n c] 40 (0,0)) by rw[hW7];have:=put_blk (i:=0) HBE2.out (.bool !pb);simpa using this)
   go_upto_region 16 with fail
   rw[<-hW7]
   clear hW7 b0 b1 b2 bf
   have HROW:=hI (show IsPr (mask W7 ((be+1)::M)) (.mk (!pb) pk ps) ⟨!pb,pk,a,n,c⟩ from IsPr.mk xs (HRW.out.mono (sub_spoil HC2.out HCB.out HBM.out HM.out HB0.out)) HR.out.1.symm (fun i h1 h2=>(HR.out.2 i h1 h2).mono (sub_spoil HC2.out HCB.out HBM.out HM.out HB0.out)))
   have HC7:=hI (show Chg [bd] w W7 from HC2.out.trans HCB.out (by intro y hy;simp at hy;subst hy;exact Or.inr (by omega)))
   have HD7:=hI (show DeckAt w0 W7 bd from HD2.out.chg HCB.out (by simp;omega) (by simp;omega))
   have HBR7:=hI (HCB.out.blk HBR2.out (by simp))
   have HFW:=hI (show (Pr.mk (!pb) pk ps).few (N+1) from .mk (by omega) (fun x hx=>few_mono (Nat.le_succ N) (HCH.out x hx)))
   obtain⟨vb,kb,ab,nb,cb,psb,HF⟩:∃ vb kb ab nb cb psb,RowKit.Hid (SpF w0 w W7 be bd N M vb kb ab nb cb psb):=⟨!pb,pk,a,n,c,ps,Lib.hid ⟨HBE7.out,HROW.out,HC7.out,HD7.out,HBR7.out,HFW.out⟩⟩
   clear HBE7 HROW HC7 HD7 HBR7 HFW HCB
  case' inr.inl =>
   go_wp2_with fail
   refine(range_calls HD2.out (-2) 3 (by omega) (by omega) (by omega)).mono ?_
   rintro r w4 ⟨z,rfl,hq0,hq1,hd4,hc4⟩
   have HD4:=hI hd4
   have HC4:=hI (HC2.out.then hc4)
   have HBE4:=hI (hc4.blk HBE2.out (by simp;omega))
   have HBR4:=hI (hc4.blk HBR2.out (by simp;omega))
   have hz4:=HC4.out.size
   clear hd4 hc4 hq0 hq1 HD2 HC2 HBE2 HBR2 HP2
   obtain⟨b0,b1,b2,bf⟩:=blk3 HBE4.out
   obtain⟨W7,hW7⟩:∃ W7,W7=w4.setCell ⟨be,1,none⟩ (.int .i64 z):=⟨_,rfl⟩
   have HCB:=hI (show Chg [be] w4 W7 by rw[hW7];exact put_chg _ _ _ _)
   have HBE7:=hI (show W7.heap[be]?=some (.cells #[.bool pb,.int .i64 z,.slice a n c] 40 (0,0)) by rw[hW7];have:=put_blk (i:=1) HBE4.out (.int .i64 z);simpa using this)
   go_upto_region 16 with fail
   rw[<-hW7]
   clear hW7 b0 b1 b2 bf
   have HROW:=hI (show IsPr (mask W7 ((be+1)::M)) (.mk pb z ps) ⟨pb,z,a,n,c⟩ from IsPr.mk xs (HRW.out.mono (sub_spoil HC4.out HCB.out HBM.out HM.out HB0.out)) HR.out.1.symm (fun i h1 h2=>(HR.out.2 i h1 h2).mono (sub_spoil HC4.out HCB.out HBM.out HM.out HB0.out)))
   have HC7:=hI (show Chg [bd] w W7 from HC4.out.trans HCB.out (by intro y hy;simp at hy;subst hy;exact Or.inr (by omega)))
   have HD7:=hI (show DeckAt w0 W7 bd from HD4.out.chg HCB.out (by simp;omega) (by simp;omega))
   have HBR7:=hI (HCB.out.blk HBR4.out (by simp))
   have HFW:=hI (show (Pr.mk pb z ps).few (N+1) from .mk (by omega) (fun x hx=>few_mono (Nat.le_succ N) (HCH.out x hx)))
   obtain⟨vb,kb,ab,nb,cb,psb,HF⟩:∃ vb kb ab nb cb psb,RowKit.Hid (SpF w0 w W7 be bd N M vb kb ab nb cb psb):=⟨pb,z,a,n,c,ps,Lib.hid ⟨HBE7.out,HROW.out,HC7.out,HD7.out,HBR7.out,HFW.out⟩⟩
   clear HBE7 HROW HC7 HD7 HBR7 HFW HCB
  case' inr.inr.inl =>
   obtain⟨b0,b1,b2,bf⟩:=blk3 HBE2.out
   have hlE:=blk_lt HBE2.out
   have hl2:=blk_lt HBR2.out
   have HSL:=hI (show 0 < n->∃ b off,a=some ⟨b,off,none⟩/\∀ j (hj:j < (xs.flatMap PrV.cells).length),(w2.alloc (.cells #[] 40)).cell? ⟨b,off+j,none⟩=some (xs.flatMap PrV.cells)[j] from fun h=>by
    obtain⟨b,off,e1,e2⟩:=rows_news HRW.out h
    exact⟨b,off,e1,fun j hj=>mask_sub _ _ _ _ (mask_step (HC2.out.alloc (.cells #[] 40)) HBM.out _ _ (e2 j hj))⟩)
   go_wp2_with (at_builtin;refine wpList_append_all elemPr rfl _ _ rfl w2.heap.size _ 0 [] rfl ?o0 a n c (xs.flatMap PrV.cells) rfl ?o1 ?o2 ?o3 ?o4 ?o5 ?o6 ?_)
   case o0=>exact World.ownsRow_lit w2 #[] 0 (Nat.le_refl _) (by simp) rfl
   case o1=>exact HLEN.out
   case o2=>exact fun h=>HSL.out h
   case o3=>exact cells_onePr xs
   case o4=>omega
   case o5=>omega
   case o6=>simp
   intro v3 w3 hown3 hgrow3 hat3
   have HCA:=hI (show Chg [bd] w w3 from(HC2.out.alloc _).grown hgrow3 (fun y hy=>by simp only[Value.ownBlock] at hy;injection hy with hy;subst hy;exact Or.inr (by omega)))
   have hrn:∀ k,k < w2.heap.size->k∉rowOf (.slice (some ⟨w2.heap.size,0,none⟩) 0 0):=fun k hk hm=>by have:=mem_rowOf.1 hm;simp only[Value.ownBlock] at this;injection this with this;omega
   have HBE3:=hI ((grown_chg hgrow3).blk (blk_alloc HBE2.out) (hrn _ (by omega)))
   have HBR3:=hI ((grown_chg hgrow3).blk (blk_alloc HBR2.out) (hrn _ (by omega)))
   have HD3:=hI ((HD2.out.ext ((Ext.refl w2).alloc _)).chg (grown_chg hgrow3) (hrn _ (by omega)) (fun y hy=>by have:=mem_rowOf.1 hy;simp only[Value.ownBlock] at this;injection this with this;omega))
   have HO3:=hI hown3
   have HAT:=hI (show ∀ k,v3.ownBlock=some k->w2.heap.size<=k/\k < w3.heap.size from fun k hk=>World.ownsRow.lt hown3 k hk)
   have hz3:=hgrow3.size
   simp at hz3
   clear hown3 hgrow3 hat3 hrn b0 b1 b2 bf hl2 hlE HBE2 HBR2 HD2 HC2
   obtain⟨b0,b1,b2,bf⟩:=blk3 HBE3.out
   have hlE:=blk_lt HBE3.out
   have HCL:=hI (cell_allocs w3 (PrV.cells ⟨false,-1,none,0,0⟩) 40)
   go_wp2_with (at_builtin;refine wpList_append_all elemPr rfl _ _ rfl w2.heap.size v3 (0+n) ([]++xs.flatMap PrV.cells) rfl ?o0 (some ⟨w3.heap.size,0,none⟩) 1 1 (PrV.cells ⟨false,-1,none,0,0⟩) rfl ?o1 ?o2 ?o3 ?o4 ?o5 ?o6 ?_)
   case o0=>simpa using World.ownsRow.alloc HO3.out _
   case o1=>rfl
   case o2=>exact fun _=>⟨_,0,rfl,HCL.out⟩
   case o5=>omega
   case o3=>exact fun u hu=>cells_onePr [⟨false,-1,none,0,0⟩] u (by simpa using hu)
   case o4=>omega
   case o6=>simp;omega
   intro v5 w5 hown5 hgrow5 hat5
   have HC5:=hI (show Chg [bd] w w5 from(HCA.out.alloc _).grown hgrow5 (fun y hy=>Or.inr (by have:=HAT.out y hy;omega)))
   have hrn:∀ k,k < w2.heap.size->k∉rowOf v3:=fun k hk hm=>by have:=HAT.out k (mem_rowOf.1 hm);omega
   have HBE5:=hI ((grown_chg hgrow5).blk (blk_alloc HBE3.out) (hrn _ (by omega)))
   have HBR5:=hI ((grown_chg hgrow5).blk (blk_alloc HBR3.out) (hrn _ (by omega)))
   have HD5:=hI ((HD3.out.ext ((Ext.refl w3).alloc _)).chg (grown_chg hgrow5) (hrn _ (by omega)) (fun y hy=>by have:=HAT.out y (mem_rowOf.1 hy);omega))
   have HO5:=hI (show w5.ownsRow w2.heap.size 40 3 v5 (ps++[Pr.mk false (-1) []]).length ((xs++[(⟨false,-1,none,0,0⟩:PrV)]).flatMap PrV.cells) by
    have e1:(ps++[Pr.mk false (-1) []]).length=0+n+1:=by simp;omega
    rw[e1,List.flatMap_append]
    simpa using hown5)
   have hz5:=HC5.out.size
   have hlt5:=blk_lt HBR5.out
   clear hown5 hgrow5 hat5 hrn b0 b1 b2 bf hlE HBE3 HBR3 HD3 HCA HCL HO3
   obtain⟨a6,c6,hv5⟩:=owns_formG HO5.out
   subst hv5
   have HO5:=hI HO5.out
   obtain⟨n6,hn6⟩:∃ n6:Nat,n6=(ps++[Pr.mk false (-1) []]).length:=⟨_,rfl⟩
   have HN6:=hI hn6
   rw[<-hn6] at HO5 ⊢
   clear hn6
   obtain⟨b0,b1,b2,bf⟩:=blk3 HBE5.out
   obtain⟨W7,hW7⟩:∃ W7,W7=w5.setCell ⟨be,2,none⟩ (.slice a6 n6 c6):=⟨_,rfl⟩
   have HCB:=hI (show Chg [be] w5 W7 by rw[hW7];exact put_chg _ _ _ _)
   have HBE7:=hI (show W7.heap[be]?=some (.cells #[.bool pb,.int .i64 pk,.slice a6 n6 c6] 40 (0,0)) by rw[hW7];have:=put_blk (i:=2) HBE5.out (.slice a6 n6 c6);simpa using this)
   go_upto_region 16 with fail
   rw[<-hW7]
   clear hW7 b0 b1 b2 bf
   have HROW:=hI (show IsPr (mask W7 ((be+1)::M)) (.mk pb pk (ps++[Pr.mk false (-1) []])) ⟨pb,pk,a6,n6,c6⟩ from by
       have hcc:Chg [be] w5 W7:=HCB.out
       have hown6:=owns_chg HO5.out hcc (fun k hk=>by have:=(World.ownsRow.lt HO5.out k hk).1;simp;omega)
       rw[HN6.out] at hown6
       obtain⟨a',c',he,hip⟩:=prs_owns (M:=(be+1)::M) hown6 (fun k hk hm=>by
        have h1:=(World.ownsRow.lt HO5.out k (by rw[HN6.out];exact hk)).1
        simp only[List.mem_cons] at hm
        rcases hm with hm|hm
        ·omega
        have:=HM.out k hm;omega) ((HR.out.mono (sub_spoil HC5.out HCB.out HBM.out HM.out HB0.out)).snoc (isPr_none _ false (-1))) pb pk
       simp only[Value.slice.injEq,true_and] at he
       obtain⟨rfl,rfl⟩:=he
       rw[HN6.out]
       exact hip)
   have HC7:=hI (show Chg [bd] w W7 from HC5.out.trans HCB.out (by intro y hy;simp at hy;subst hy;exact Or.inr (by omega)))
   have HD7:=hI (show DeckAt w0 W7 bd from HD5.out.chg HCB.out (by simp;omega) (by simp;omega))
   have HBR7:=hI (HCB.out.blk HBR5.out (by simp))
   have HFW:=hI (show (Pr.mk pb pk (ps++[Pr.mk false (-1) []])).few (N+1) from .mk (by simp;omega) (fun x hx=>by
       rcases List.mem_append.1 hx with hx|hx
       ·exact few_mono (Nat.le_succ N) (HCH.out x hx)
       simp only[List.mem_singleton] at hx;subst hx;exact .mk (by simp) (by simp)))
   obtain⟨vb,kb,ab,nb,cb,psb,HF⟩:∃ vb kb ab nb cb psb,RowKit.Hid (SpF w0 w W7 be bd N M vb kb ab nb cb psb):=⟨pb,pk,a6,n6,c6,ps++[Pr.mk false (-1) []],Lib.hid ⟨HBE7.out,HROW.out,HC7.out,HD7.out,HBR7.out,HFW.out⟩⟩
   clear HBE7 HROW HC7 HD7 HBR7 HFW HCB
  case' inr.inr.inr =>
   obtain⟨b0,b1,b2,bf⟩:=blk3 HBE2.out
   obtain⟨W7,hW7⟩:∃ W7,W7=w2.setCell ⟨be,2,none⟩ (.slice a (n - 1) c):=⟨_,rfl⟩
   have HCB:=hI (show Chg [be] w2 W7 by rw[hW7];exact put_chg _ _ _ _)
   have HBE7:=hI (show W7.heap[be]?=some (.cells #[.bool pb,.int .i64 pk,.slice a (n - 1) c] 40 (0,0)) by rw[hW7];have:=put_blk (i:=2) HBE2.out (.slice a (n - 1) c);simpa using this)
   go_upto_region 16 with fail
   rw[show (max ((n:Int) - 1) 0).toNat=n - 1 by omega]
   rw[<-hW7]
   clear hW7 b0 b1 b2 bf
   have HROW:=hI (show IsPr (mask W7 ((be+1)::M)) (.mk pb pk (ps.take (n - 1))) ⟨pb,pk,a,n - 1,c⟩ from isPr_take (HRW.out.mono (sub_spoil HC2.out HCB.out HBM.out HM.out HB0.out)) (HR.out.mono (sub_spoil HC2.out HCB.out HBM.out HM.out HB0.out)) (by omega))
   have HC7:=hI (show Chg [bd] w W7 from HC2.out.trans HCB.out (by intro y hy;simp at hy;subst hy;exact Or.inr (by omega)))
   have HD7:=hI (show DeckAt w0 W7 bd from HD2.out.chg HCB.out (by simp;omega) (by simp;omega))
   have HBR7:=hI (HCB.out.blk HBR2.out (by simp))
   have HFW:=hI (show (Pr.mk pb pk (ps.take (n - 1))).few (N+1) from .mk (by rw[List.length_take];omega) (fun x hx=>few_mono (Nat.le_succ N) (HCH.out x (List.mem_of_mem_take hx))))
   obtain⟨vb,kb,ab,nb,cb,psb,HF⟩:∃ vb kb ab nb cb psb,RowKit.Hid (SpF w0 w W7 be bd N M vb kb ab nb cb psb):=⟨pb,pk,a,n - 1,c,ps.take (n - 1),Lib.hid ⟨HBE7.out,HROW.out,HC7.out,HD7.out,HBR7.out,HFW.out⟩⟩
   clear HBE7 HROW HC7 HD7 HBR7 HFW HCB
 all_goals
  obtain⟨h1,h2,h3,h4,h5,h6⟩:=HF.out
  have HFW:=hI h6
  have HBE7:=hI h1
  have hz:W7.heap[be+1]?=some (.cells #[.bool false,.int .i64 0,.slice none 0 0] 40 (0,0)):=h5
  obtain⟨r0,r1,r2,rf⟩:=blk3 hz
  have hltr:=blk_lt hz
  have HZ:=hI (dprove_fin (w:=w) (M:=M) (pv:=⟨vb,kb,ab,nb,cb⟩) h5 (by omega) h0w (by omega) h4 h3 h2)
  simp only at HZ
  clear h1 h2 h3 h4 h5 h6 hz HF
  obtain⟨b0,b1,b2,bf⟩:=blk3 HBE7.out
  go_wp2_with fail
  obtain⟨wz,hwz⟩:∃ wz,wz=put3 W7 (be+1) (.bool vb) (.int .i64 kb) (.slice ab nb cb):=⟨_,rfl⟩
  rw[<-hwz] at HZ
  unfold put3 at hwz
  rw[<-hwz]
  clear hwz
  obtain⟨z0,z1,z2,zf⟩:=blk3 HZ.out.1
  refine bodyPost_ret (v:=PrV.val ⟨vb,kb,ab,nb,cb⟩) (by simp[results,Tryz.results21,go_sem,PrV.val,z0,z1,z2]) rfl ?_
  exact⟨_,_,rfl,HFW.out,HZ.out.2⟩
theorem spoil_calls {N:Nat} (hN:N<=2000000) {p:Pr} (hf:p.few N):SpDo N p:=by
 induction hf with
 | mk hn h ih=>exact sp_step hN hn h ih
theorem ints_extS {w w':World} {a:OA} {n:Nat} (h:IntsAt w a n) (hx:Ext w w'):IntsAt w' a n:=fun i hi=>by obtain⟨b,off,z,e,hc⟩:=h i hi;exact⟨b,off,z,e,hx.cell hc⟩
theorem rpv_fact {s:List Attr} {l:List Cla} {f:ZI} {g:Nat} {op:Int} {name:BA} {words:ZB} {lo hi:Int} {args:List Ex} {p:Pr} (h6:op≠6/\op≠7/\op≠8) (hdn:op=3->defAt l name=none):prvF s l f (g+1) (.mk op name words lo hi args) p=((p.pick == -1)&&p.args.isEmpty&&(p.value==valF s l f (g+1) (.mk op name words lo hi args))):=by
 cases p with
 | mk v k ps =>
  rw[prvF,prvE,valF,valE,if_neg h6.1,if_neg (by omega),if_neg h6.1,if_neg h6.2.1,if_neg h6.2.2]
  by_cases h3:op=3
  ·rw[if_pos h3,if_pos h3,hdn h3];rfl
  rw[if_neg h3,if_neg h3];rfl
theorem rpv_def {s:List Attr} {l:List Cla} {f:ZI} {g:Nat} {name:BA} {words:ZB} {lo hi:Int} {args:List Ex} {d:Nat} {p:Pr} (hd:defAt l name=some d):prvF s l f (g+1) (.mk 3 name words lo hi args) p=singB p fun q=>prvF s l f g (l.getD d cla0).cond q&&(p.value==q.value):=by
 have e1:((defAt l name).map fun d=>prvF s l f g (l.getD d cla0).cond)=some (prvF s l f g (l.getD d cla0).cond):=by rw[hd];rfl
 cases p with
 | mk v k ps =>
  rw[prvF,prvE,if_neg (by decide),if_neg (by decide),if_pos rfl,e1]
  rfl
theorem rpv_not {s:List Attr} {l:List Cla} {f:ZI} {g:Nat} {name:BA} {words:ZB} {lo hi:Int} {a:Ex} {r:List Ex} {p:Pr}:prvF s l f (g+1) (.mk 6 name words lo hi (a::r)) p=singB p fun q=>prvF s l f (g+1) a q&&(p.value==!q.value):=by
 cases p with
 | mk v k ps =>
  rw[prvF,prvE,if_pos rfl]
  simp only[prvAt]
  rfl
structure RpvIn (s:List Attr) (l:List Cla) (f:ZI) (g:Nat) (op:Int) (name:BA) (args:List Ex) (lo hi:Int) (w:World) (a:OA) (n c:Nat) (fa:OA) (fn fc:Nat) (sa:OA) (sn sc:Nat) (aw:OA) (nw cw:Nat) (aa:OA) (na ca:Nat) (p:Pr) (pb:Bool) (pk:Int) (pa:OA) (pn pc:Nat):Prop where
 ix:∀ W,Ext w W->Calls Tryz.prog 36 #[.agg #[.slice sa sn sc],.string name] W (GivesE (optV (attrAt s name)) W)
 arg:∀ (j:Nat) (hj:j < args.length) (xv:Value) (q:Pr) (qv:PrV) (W:World),Ext w W->IsEx W args[j] xv->IsPr W q qv->Calls Tryz.prog 23 #[.agg #[.slice sa sn sc],.slice a n c,xv,.slice fa fn fc,qv.val] W (GivesE (.bool (prvF s l f (g+1) args[j] q)) W)
 x:ExsD w args aa
 na:na=args.length
 few:args.length<=1000000
 p:IsPr w p ⟨pb,pk,pa,pn,pc⟩
def rpv22R (b6:Nat) (sa:OA) (sn sc:Nat) (a:OA) (n c:Nat) (fa:OA) (fn fc:Nat) (op:Int) (name:BA) (aw:OA) (nw cw:Nat) (lo hi:Int) (aa:OA) (na ca:Nat) (pb V:Bool) (pa:OA) (pc:Nat):Nat->Value->World->Prop
 | 0,u,_=>u=.pointer (some ⟨b6+1+1,1,none⟩)
 | 1,u,_=>u=.int .i64 (-1)
 | 2,u,_=>u=.bool true
 | 3,u,_=>u=.bool true
 | 4,u,_=>u=.pointer (some ⟨b6+1+1,2,none⟩)
 | 5,u,_=>u=.slice pa 0 pc
 | 6,u,_=>u=.int .i64 0
 | 7,u,_=>u=.bool true
 | 8,u,_=>u=.bool true
 | 9,u,_=>u=.bool true
 | 10,u,_=>u=.pointer (some ⟨b6+1+1,0,none⟩)
 | 11,u,_=>u=.bool pb
 | 12,u,_=>u=.agg #[.slice sa sn sc]
 | 13,u,_=>u=.slice a n c
 | 14,u,_=>u=.agg #[.int .i64 op,.string name,.slice aw nw cw,.int .i64 lo,.int .i64 hi,.slice aa na ca]
 | 15,u,_=>u=.slice fa fn fc
 | 16,u,_=>u=.bool V
 | 17,u,_=>u=.bool (pb==V)
 | 18,u,_=>u=.bool (pb==V)
 | _,u,_=>u=.bool (pb==V)
theorem rpv_factC {s:List Attr} {l:List Cla} {f:ZI} {g:Nat} {name:BA} {words:ZB} {lo hi:Int} {args:List Ex} {w:World} {a:OA} {n c:Nat} {fa:OA} {fn fc:Nat} {sa:OA} {sn sc:Nat} {aw:OA} {nw cw:Nat} {aa:OA} {na ca:Nat} {p:Pr} {pb:Bool} {pk:Int} {pa:OA} {pn pc:Nat} {op:Int} {V:Bool} (hv:valF s l f (g+1) (.mk op name words lo hi args)=V) (h6:op≠6/\op≠7/\op≠8) (hdn:op=3->defAt l name=none)
  (h3v:op=3->∃ (i fb fo:Nat) (z:Int),attrAt s name=some i/\fa=some ⟨fb,fo,none⟩/\i < fn/\w.cell? ⟨fb,fo+i,none⟩=some (.int .i64 z)/\V=decide (z=1))
  (htr:∀ W,Ext w W->Calls Tryz.prog 19 #[.agg #[.slice sa sn sc],.slice a n c,exV op name aw nw cw lo hi aa na ca,.slice fa fn fc] W (GivesE (.bool V) W)) (h:RpvIn s l f g op name args lo hi w a n c fa fn fc sa sn sc aw nw cw aa na ca p pb pk pa pn pc) :
  Calls Tryz.prog 23 #[.agg #[.slice sa sn sc],.slice a n c,exV op name aw nw cw lo hi aa na ca,.slice fa fn fc,.agg #[.bool pb,.int .i64 pk,.slice pa pn pc]] w (GivesE (.bool (prvF s l f (g+1) (.mk op name words lo hi args) p)) w):=by
 obtain⟨R,hR⟩:∃ R,R=prvF s l f (g+1) (.mk op name words lo hi args) p:=⟨_,rfl⟩
 rw[<-hR]
 rw[rpv_fact h6 hdn,hv] at hR
 have HR:=hI hR
 have H3V:=hI h3v
 have HTR:=hI htr
 have H6:=hI h6
 clear hR hv hdn h3v htr h6
 by_cases h3:op=3
 ·subst h3
  obtain⟨i,fb,fo,z,hat,rfl,hif,hfc,hvz⟩:=H3V.out rfl
  have HAT:=hI hat
  have HFC:=hI hfc
  have HVZ:=hI hvz
  clear hat hfc hvz H3V H6 HTR
  have HIX:=hI h.ix
  have HARG:=hI h.arg
  have HX:=hI h.x
  have HNA:=hI h.na
  have HFE:=hI h.few
  have HP:=hI h.p
  clear h
  unfold exV at *
  obtain⟨wa,hwa⟩:∃ wa,wa=((w.alloc (.cells #[.slice sa sn sc] 31)).alloc (.cells #[.int .i64 3,.string name,.slice aw nw cw,.int .i64 lo,.int .i64 hi,.slice aa na ca] 26)).alloc (.cells #[.bool pb,.int .i64 pk,.slice pa pn pc] 40):=⟨_,rfl⟩
  have hxa:Ext w wa:=by rw[hwa];exact(((Ext.refl _).alloc _).alloc _).alloc _
  obtain⟨b6,hb6⟩:∃ b6:Nat,b6=w.heap.size:=⟨_,rfl⟩
  have hb0:wa.heap[b6]?=some (.cells #[.slice sa sn sc] 31 (0,0)):=by rw[hwa,hb6];exact blk_alloc (blk_alloc (alloc_new w _))
  have hb1:wa.heap[b6+1]?=some (.cells #[.int .i64 3,.string name,.slice aw nw cw,.int .i64 lo,.int .i64 hi,.slice aa na ca] 26 (0,0)):=by rw[hwa,hb6];exact blk_alloc (alloc_atR (by simp))
  have hb2:wa.heap[b6+1+1]?=some (.cells #[.bool pb,.int .i64 pk,.slice pa pn pc] 40 (0,0)):=by rw[hwa,hb6];exact alloc_atR (by simp)
  have HXA:=hI hxa
  have HB0:=hI hb0
  have HB1:=hI hb1
  have HB2:=hI hb2
  go_enter Tryz.func23,Tryz.ntmps23
  go_upto_region 1 with fail
  rw[<-hwa,<-hb6]
  clear hwa hb6
  obtain⟨f0,f1,f2,f3,f4,f5,ff⟩:=blk6 hb1
  obtain⟨e0,ef⟩:=blk1 hb0
  clear hxa hb0 hb1 hb2
  go_wp2_with fail
  refine(HIX.out wa HXA.out).mono ?_
  rintro r w2 ⟨rfl,hx2⟩
  have HX2:=hI (HXA.out.trans hx2)
  have HS2:=hI (hx2.blk HB0.out)
  have HE2:=hI (hx2.blk HB1.out)
  have HP2:=hI (hx2.blk HB2.out)
  clear hx2 f0 f1 f2 f3 f4 f5 ff e0 ef HB0 HB1 HB2 HXA HIX
  rw[HAT.out,optV_some]
  obtain⟨f0,f1,f2,f3,f4,f5,ff⟩:=blk6 HE2.out
  obtain⟨e0,ef⟩:=blk1 HS2.out
  obtain⟨r0,r1,r2,rf⟩:=blk3 HP2.out
  have z0:=HX2.out.cell HFC.out
  by_cases hk:pk = -1
  case neg =>
   have t1:(pk == -1)=false:=by simp[hk]
   have HQ:=hI (show R=false by rw[HR.out,<-HP.out.parts.2.1];simp[hk])
   clear hk
   go_upto_region 9 with fail
   go_quiet (fail)
   go_wp2_with fail
   go_ret
   exact givesE_bool (by rw[HQ.out]) (HX2.out.drewN _)
  subst hk
  by_cases hn:pn=0
  case neg =>
   have t1:((pn:Int)==0)=false:=by simp;omega
   have HQ:=hI (show R=false by
    have h3:=HP.out.parts.2.2.1
    simp only at h3
    have:p.args.isEmpty=false:=by cases ha:p.args with|nil=>rw[ha] at h3;simp at h3;omega|cons _ _=>rfl
    rw[HR.out,this];simp)
   clear hn
   go_upto_region 9 with fail
   go_quiet (fail)
   go_wp2_with fail
   go_ret
   exact givesE_bool (by rw[HQ.out]) (HX2.out.drewN _)
  subst hn
  have HQ:=hI (show R=(pb==V) by
   have h3:=HP.out.parts.2.2.1
   simp only at h3
   have h4:p.args.isEmpty=true:=by cases ha:p.args with|nil=>rfl|cons _ _=>rw[ha] at h3;simp at h3
   rw[HR.out,h4,<-HP.out.parts.2.1,<-show pb=p.value from HP.out.parts.1];simp)
  rw[HVZ.out] at HQ
  go_upto_region 9 with fail
  go_quiet (fail)
  go_wp2_with fail
  go_ret
  exact givesE_bool (by rw[HQ.out];first|rfl|(cases pb<;>simp)) (HX2.out.drewN _)
 have t3:(op==3)=false:=by simp[h3]
 have t6:(op==6)=false:=by have:=H6.out;simp[this]
 have t7:(op==7)=false:=by have:=H6.out;simp[this]
 have t8:(op==8)=false:=by have:=H6.out;simp[this]
 clear h3 H3V H6
 have HIX:=hI h.ix
 have HARG:=hI h.arg
 have HX:=hI h.x
 have HNA:=hI h.na
 have HFE:=hI h.few
 have HP:=hI h.p
 clear h
 unfold exV at *
 obtain⟨wa,hwa⟩:∃ wa,wa=((w.alloc (.cells #[.slice sa sn sc] 31)).alloc (.cells #[.int .i64 op,.string name,.slice aw nw cw,.int .i64 lo,.int .i64 hi,.slice aa na ca] 26)).alloc (.cells #[.bool pb,.int .i64 pk,.slice pa pn pc] 40):=⟨_,rfl⟩
 have hxa:Ext w wa:=by rw[hwa];exact(((Ext.refl _).alloc _).alloc _).alloc _
 obtain⟨b6,hb6⟩:∃ b6:Nat,b6=w.heap.size:=⟨_,rfl⟩
 have hb0:wa.heap[b6]?=some (.cells #[.slice sa sn sc] 31 (0,0)):=by rw[hwa,hb6];exact blk_alloc (blk_alloc (alloc_new w _))
 have hb1:wa.heap[b6+1]?=some (.cells #[.int .i64 op,.string name,.slice aw nw cw,.int .i64 lo,.int .i64 hi,.slice aa na ca] 26 (0,0)):=by rw[hwa,hb6];exact blk_alloc (alloc_atR (by simp))
 have hb2:wa.heap[b6+1+1]?=some (.cells #[.bool pb,.int .i64 pk,.slice pa pn pc] 40 (0,0)):=by rw[hwa,hb6];exact alloc_atR (by simp)
 have HXA:=hI hxa
 have HB0:=hI hb0
 have HB1:=hI hb1
 have HB2:=hI hb2
 go_enter Tryz.func23,Tryz.ntmps23
 go_upto_region 1 with fail
 rw[<-hwa,<-hb6]
 clear hwa hb6
 obtain⟨f0,f1,f2,f3,f4,f5,ff⟩:=blk6 hb1
 obtain⟨e0,ef⟩:=blk1 hb0
 clear hxa hb0 hb1 hb2
 go_wp2_with fail
 refine(HIX.out wa HXA.out).mono ?_
 rintro r w2 ⟨rfl,hx2⟩
 have HX2:=hI (HXA.out.trans hx2)
 have HS2:=hI (hx2.blk HB0.out)
 have HE2:=hI (hx2.blk HB1.out)
 have HP2:=hI (hx2.blk HB2.out)
 clear hx2 f0 f1 f2 f3 f4 f5 ff e0 ef HB0 HB1 HB2 HXA HIX
 unfold optV
 obtain⟨i0,hi0⟩:∃ i0:Int,i0=(((attrAt s name).getD 0:Nat):Int):=⟨_,rfl⟩
 obtain⟨is0,his0⟩:∃ b,b=(attrAt s name).isSome:=⟨_,rfl⟩
 rw[<-hi0,<-his0]
 clear hi0 his0
 obtain⟨f0,f1,f2,f3,f4,f5,ff⟩:=blk6 HE2.out
 obtain⟨e0,ef⟩:=blk1 HS2.out
 obtain⟨r0,r1,r2,rf⟩:=blk3 HP2.out
 by_cases hk:pk = -1
 case neg =>
  have t1:(pk == -1)=false:=by simp[hk]
  have HQ:=hI (show R=false by rw[HR.out,<-HP.out.parts.2.1];simp[hk])
  clear hk
  go_upto_region 22 with fail
  go_quiet (fail)
  go_wp2_with fail
  go_ret
  exact givesE_bool (by rw[HQ.out]) (HX2.out.drewN _)
 subst hk
 by_cases hn:pn=0
 case neg =>
  have t1:((pn:Int)==0)=false:=by simp;omega
  have HQ:=hI (show R=false by
   have h3:=HP.out.parts.2.2.1
   simp only at h3
   have:p.args.isEmpty=false:=by cases ha:p.args with|nil=>rw[ha] at h3;simp at h3;omega|cons _ _=>rfl
   rw[HR.out,this];simp)
  clear hn
  go_upto_region 22 with fail
  go_quiet (fail)
  go_wp2_with fail
  go_ret
  exact givesE_bool (by rw[HQ.out]) (HX2.out.drewN _)
 subst hn
 have HQ:=hI (show R=(pb==V) by
  have h3:=HP.out.parts.2.2.1
  simp only at h3
  have h4:p.args.isEmpty=true:=by cases ha:p.args with|nil=>rfl|cons _ _=>rw[ha] at h3;simp at h3
  rw[HR.out,h4,<-HP.out.parts.2.1,<-show pb=p.value from HP.out.parts.1];simp)
 have HPA:=hI (fun W (hW:Ext w2 W)=>HTR.out W (HX2.out.trans hW))
 clear HTR
 go_upto_region 22 with fail
 refine wp_region_growS (n:=241) (m:=20) [19] (GrGS w2) GrE (GrP (rpv22R b6 sa sn sc a n c fa fn fc op name aw nw cw lo hi aa na ca pb V pa pc)) (by kernel_rfl) (by kernel_rfl) (Nat.le_of_ble_eq_true rfl) (fun i=>[].contains i) ?sg ?gd ?sk ((Ext.refl w2).drew) ?_ ?_ ?_
 case sg =>
  intro i o hi hs ho
  have hi':i=0\/i=1\/i=2\/i=3\/i=4\/i=5\/i=6\/i=7\/i=8\/i=9\/i=10\/i=11\/i=12\/i=13\/i=14\/i=15\/i=16\/i=17\/i=18\/i=19:=by omega
  rcases hi' with rfl|rfl|rfl|rfl|rfl|rfl|rfl|rfl|rfl|rfl|rfl|rfl|rfl|rfl|rfl|rfl|rfl|rfl|rfl|rfl<;>(cases ho;first|(exact absurd hs (by decide);done)|exact nofun)
 case gd =>
  intro i o j b hi ho hg
  have hi':i=0\/i=1\/i=2\/i=3\/i=4\/i=5\/i=6\/i=7\/i=8\/i=9\/i=10\/i=11\/i=12\/i=13\/i=14\/i=15\/i=16\/i=17\/i=18\/i=19:=by omega
  rcases hi' with rfl|rfl|rfl|rfl|rfl|rfl|rfl|rfl|rfl|rfl|rfl|rfl|rfl|rfl|rfl|rfl|rfl|rfl|rfl|rfl<;>(cases ho;first|(cases hg;done)|(cases hg;intro v W h;first|(rw[if_neg (by decide)];exact h)|(rw[if_pos (by decide)];intro e;first|(rw[show v=.bool false from h] at e;cases e;done)|(rw[show v=.bool true from h] at e;cases e;done)|(rw[show v=undef from h] at e;cases e;done))))
 case sk =>
  intro i hi hs L vs W hiL hG
  have hi':i=0\/i=1\/i=2\/i=3\/i=4\/i=5\/i=6\/i=7\/i=8\/i=9\/i=10\/i=11\/i=12\/i=13\/i=14\/i=15\/i=16\/i=17\/i=18\/i=19:=by omega
  rcases hi' with rfl|rfl|rfl|rfl|rfl|rfl|rfl|rfl|rfl|rfl|rfl|rfl|rfl|rfl|rfl|rfl|rfl|rfl|rfl|rfl<;>first|(exact absurd hs (by decide);done)|exact⟨Ext.refl W,hG,rfl⟩
 ·intro i k v W W' hi hk hne hout h hE
  have hE:Ext W W':=hE
  have hi':i=0\/i=1\/i=2\/i=3\/i=4\/i=5\/i=6\/i=7\/i=8\/i=9\/i=10\/i=11\/i=12\/i=13\/i=14\/i=15\/i=16\/i=17\/i=18\/i=19:=by omega
  clear hi hk hne hout
  rcases hi' with rfl|rfl|rfl|rfl|rfl|rfl|rfl|rfl|rfl|rfl|rfl|rfl|rfl|rfl|rfl|rfl|rfl|rfl|rfl|rfl
  ·exact h
  ·exact h
  ·exact h
  ·exact h
  ·exact h
  ·exact h
  ·exact h
  ·exact h
  ·exact h
  ·exact h
  ·exact h
  ·exact h
  ·exact h
  ·exact h
  ·exact h
  ·exact h
  ·exact h
  ·exact h
  ·exact h
  exact h
 ·intro q op hq hsq ho L vs W hqL hcL hW hd ρ hρ
  have hq':q=0\/q=1\/q=2\/q=3\/q=4\/q=5\/q=6\/q=7\/q=8\/q=9\/q=10\/q=11\/q=12\/q=13\/q=14\/q=15\/q=16\/q=17\/q=18\/q=19:=by omega
  clear hq
  have o9:ρ (.tmp 9)=.pointer (some ⟨b6+1+1,0,none⟩):=hρ.out 9 rfl
  have i0:=hρ.i 0 222
  have i1:=hρ.i 1 223
  have i2:=hρ.i 2 224
  have i4:=hρ.i 4 226
  have i5:=hρ.i 5 227
  have i6:=hρ.i 6 228
  have i3:=hρ.i 3 225
  have i7:=hρ.i 7 229
  have i8:=hρ.i 8 230
  have i10:=hρ.i 10 232
  have o5:ρ (.tmp 5)=.pointer (some ⟨b6,0,none⟩):=hρ.out 5 rfl
  have o1:ρ (.tmp 1)=.slice a n c:=hρ.out 1 rfl
  have o7:ρ (.tmp 7)=.pointer (some ⟨b6+1,0,none⟩):=hρ.out 7 rfl
  have o3:ρ (.tmp 3)=.slice fa fn fc:=hρ.out 3 rfl
  have i12:=hρ.i 12 234
  have i13:=hρ.i 13 235
  have i14:=hρ.i 14 236
  have i15:=hρ.i 15 237
  have i11:=hρ.i 11 233
  have i16:=hρ.i 16 238
  have i9:=hρ.i 9 231
  have i17:=hρ.i 17 239
  have i18:=hρ.i 18 240
  have hc:=hρ.const
  have hfn:=hρ.func
  clear hρ
  have HG:=hI hW
  have HW:=hI (show Ext w2 W from hW)
  have HQL:=hI hqL
  clear hW hqL hcL
  have kf0:=HW.out.cell e0
  have kf1:=HW.out.cell f0
  have kf2:=HW.out.cell f1
  have kf3:=HW.out.cell f2
  have kf4:=HW.out.cell f3
  have kf5:=HW.out.cell f4
  have kf6:=HW.out.cell f5
  have kf7:=HW.out.cell r0
  have kf8:=HW.out.cell r1
  have kf9:=HW.out.cell r2
  by_cases hs16:q=16
  ·subst hs16
   clear hq'
   clear hsq
   cases ho
   have h12:vs 12=_:=hd ⟨12,.data⟩ (by simp) rfl
   rw[h12] at i12
   have h13:vs 13=_:=hd ⟨13,.data⟩ (by simp) rfl
   rw[h13] at i13
   have h14:vs 14=_:=hd ⟨14,.data⟩ (by simp) rfl
   rw[h14] at i14
   have h15:vs 15=_:=hd ⟨15,.data⟩ (by simp) rfl
   rw[h15] at i15
   clear hd
   unfold GivesOp
   go_simp
   refine(HPA.out W HW.out).mono ?_
   rintro e5 w5 ⟨rfl,hx5⟩
   exact⟨_,rfl,hx5,HW.out.trans hx5,rfl⟩
  rcases hq' with rfl|rfl|rfl|rfl|rfl|rfl|rfl|rfl|rfl|rfl|rfl|rfl|rfl|rfl|rfl|rfl|rfl|rfl|rfl|rfl
  all_goals first|(exact absurd rfl hs16;done)|skip
  all_goals
   cases ho
   simp[isDataG,GrP,rpv22R] at hd
   clear hs16 hsq
   unfold GivesOp
   go_simp
   exact⟨Ext.refl _,HW.out,rfl⟩
 intro L vs W hLm hW hR
 rw[if_pos (by decide +kernel)]
 have h19:vs 19=.bool (pb==V):=hR 19 (by simp) (by omega)
 simp only[acts,dstAt,List.range,List.range.loop,List.foldl_cons,List.foldl_nil,h19]
 go_simp
 have hW2:Ext w2 W:=hW
 clear hR hW hLm h19
 go_wp2_with fail
 go_ret
 exact givesE_bool (by rw[HQ.out]) (HX2.out.trans hW2)
def rpv8F (d coff cb:Nat) (v:ClV) (b6:Nat) (sa:OA) (sn sc:Nat) (n c:Nat) (fa:OA) (fn fc:Nat) (_pb:Bool) (b off pc:Nat) (qb:Bool) (qk:Int) (qa:OA) (qn qc:Nat)  : Nat->Value->World->Prop
 | 0,u,_=>u=.pointer (some ⟨b6+1+1,1,none⟩)
 | 1,u,_=>u=.int .i64 (-1)
 | 2,u,_=>u=.bool true
 | 3,u,_=>u=.bool true
 | 4,u,_=>u=.pointer (some ⟨b6+1+1,2,none⟩)
 | 5,u,_=>u=.slice (some ⟨b,off,none⟩) 1 pc
 | 6,u,_=>u=.int .i64 1
 | 7,u,_=>u=.bool true
 | 8,u,_=>u=.bool true
 | 9,u,_=>u=.bool true
 | 10,u,_=>u=.agg #[.slice sa sn sc]
 | 11,u,_=>u=.slice (some ⟨cb,coff,none⟩) n c
 | 12,u,_=>u=.slice (some ⟨cb,coff,none⟩) n c
 | 13,u,_=>u=.int .i64 ((d:Nat):Int)
 | 14,u,_=>u=.pointer (some ⟨cb,coff+d * 10,none⟩)
 | 15,u,_=>u=.pointer (some ⟨cb,coff+d * 10+2,none⟩)
 | 16,u,_=>u=.agg #[.int .i64 v.x.op,.string v.x.name,.slice v.x.aw v.x.nw v.x.cw,.int .i64 v.x.lo,.int .i64 v.x.hi,.slice v.x.aa v.x.na v.x.ca]
 | 17,u,_=>u=.slice fa fn fc
 | 18,u,_=>u=.pointer (some ⟨b6+1+1,2,none⟩)
 | 19,u,_=>u=.slice (some ⟨b,off,none⟩) 1 pc
 | 20,u,_=>u=.pointer (some ⟨b,off,none⟩)
 | 21,u,_=>u=.agg #[.bool qb,.int .i64 qk,.slice qa qn qc]
 | 22,u,_=>u=.bool false
 | 23,u,_=>u=.bool false
 | 24,u,_=>u=.bool false
 | 25,u,_=>u=undef
 | 26,u,_=>u=undef
 | 27,u,_=>u=undef
 | 28,u,_=>u=undef
 | 29,u,_=>u=undef
 | 30,u,_=>u=undef
 | 31,u,_=>u=undef
 | 32,u,_=>u=undef
 | 33,u,_=>u=.bool false
 | _,u,_=>u=.bool false
def rpv8T (d coff cb:Nat) (v:ClV) (b6:Nat) (sa:OA) (sn sc:Nat) (n c:Nat) (fa:OA) (fn fc:Nat) (pb:Bool) (b off pc:Nat) (qb:Bool) (qk:Int) (qa:OA) (qn qc:Nat)  : Nat->Value->World->Prop
 | 0,u,_=>u=.pointer (some ⟨b6+1+1,1,none⟩)
 | 1,u,_=>u=.int .i64 (-1)
 | 2,u,_=>u=.bool true
 | 3,u,_=>u=.bool true
 | 4,u,_=>u=.pointer (some ⟨b6+1+1,2,none⟩)
 | 5,u,_=>u=.slice (some ⟨b,off,none⟩) 1 pc
 | 6,u,_=>u=.int .i64 1
 | 7,u,_=>u=.bool true
 | 8,u,_=>u=.bool true
 | 9,u,_=>u=.bool true
 | 10,u,_=>u=.agg #[.slice sa sn sc]
 | 11,u,_=>u=.slice (some ⟨cb,coff,none⟩) n c
 | 12,u,_=>u=.slice (some ⟨cb,coff,none⟩) n c
 | 13,u,_=>u=.int .i64 ((d:Nat):Int)
 | 14,u,_=>u=.pointer (some ⟨cb,coff+d * 10,none⟩)
 | 15,u,_=>u=.pointer (some ⟨cb,coff+d * 10+2,none⟩)
 | 16,u,_=>u=.agg #[.int .i64 v.x.op,.string v.x.name,.slice v.x.aw v.x.nw v.x.cw,.int .i64 v.x.lo,.int .i64 v.x.hi,.slice v.x.aa v.x.na v.x.ca]
 | 17,u,_=>u=.slice fa fn fc
 | 18,u,_=>u=.pointer (some ⟨b6+1+1,2,none⟩)
 | 19,u,_=>u=.slice (some ⟨b,off,none⟩) 1 pc
 | 20,u,_=>u=.pointer (some ⟨b,off,none⟩)
 | 21,u,_=>u=.agg #[.bool qb,.int .i64 qk,.slice qa qn qc]
 | 22,u,_=>u=.bool true
 | 23,u,_=>u=.bool true
 | 24,u,_=>u=.bool true
 | 25,u,_=>u=.pointer (some ⟨b6+1+1,0,none⟩)
 | 26,u,_=>u=.bool pb
 | 27,u,_=>u=.pointer (some ⟨b6+1+1,2,none⟩)
 | 28,u,_=>u=.slice (some ⟨b,off,none⟩) 1 pc
 | 29,u,_=>u=.pointer (some ⟨b,off,none⟩)
 | 30,u,_=>u=.pointer (some ⟨b,off,none⟩)
 | 31,u,_=>u=.bool qb
 | 32,u,_=>u=.bool (pb==qb)
 | 33,u,_=>u=.bool (pb==qb)
 | _,u,_=>u=.bool (pb==qb)
theorem rpv_defC {s:List Attr} {l:List Cla} {f:ZI} {g:Nat} {name:BA} {words:ZB} {lo hi:Int} {args:List Ex} {w:World} {a:OA} {n c:Nat} {fa:OA} {fn fc:Nat} {sa:OA} {sn sc:Nat} {aw:OA} {nw cw:Nat} {aa:OA} {na ca:Nat} {p:Pr} {pb:Bool} {pk:Int} {pa:OA} {pn pc:Nat} {d:Nat} (hdf:defAt l name=some d) (hat:attrAt s name=none) (hcl:IsClas w l a n c)
  (hfi:∀ W,Ext w W->Calls Tryz.prog 37 #[.slice a n c,.string name] W (GivesE (optV (defAt l name)) W))
  (hdef:∀ (xv:Value) (q:Pr) (qv:PrV) (W:World),Ext w W->IsEx W (l.getD d cla0).cond xv->IsPr W q qv->Calls Tryz.prog 23 #[.agg #[.slice sa sn sc],.slice a n c,xv,.slice fa fn fc,qv.val] W (GivesE (.bool (prvF s l f g (l.getD d cla0).cond q)) W))
  (h:RpvIn s l f g 3 name args lo hi w a n c fa fn fc sa sn sc aw nw cw aa na ca p pb pk pa pn pc) :
  Calls Tryz.prog 23 #[.agg #[.slice sa sn sc],.slice a n c,exV 3 name aw nw cw lo hi aa na ca,.slice fa fn fc,.agg #[.bool pb,.int .i64 pk,.slice pa pn pc]] w (GivesE (.bool (prvF s l f (g+1) (.mk 3 name words lo hi args) p)) w):=by
 obtain⟨R,hR⟩:∃ R,R=prvF s l f (g+1) (.mk 3 name words lo hi args) p:=⟨_,rfl⟩
 rw[<-hR]
 rw[rpv_def hdf] at hR
 have HR:=hI hR
 have HDL:=hI (defAt_atK hdf).1
 have HFI:=hI hfi
 have HDF:=hI hdf
 have HAT:=hI hat
 have HCL:=hI hcl
 have HDE:=hI hdef
 have hdn:d < n:=by have:=hcl.len;have:=HDL.out;omega
 clear hR hdf hfi hat hcl hdef
 have HIX:=hI h.ix
 have HARG:=hI h.arg
 have HX:=hI h.x
 have HNA:=hI h.na
 have HFE:=hI h.few
 have HP:=hI h.p
 clear h
 unfold exV at *
 obtain⟨wa,hwa⟩:∃ wa,wa=((w.alloc (.cells #[.slice sa sn sc] 31)).alloc (.cells #[.int .i64 3,.string name,.slice aw nw cw,.int .i64 lo,.int .i64 hi,.slice aa na ca] 26)).alloc (.cells #[.bool pb,.int .i64 pk,.slice pa pn pc] 40):=⟨_,rfl⟩
 have hxa:Ext w wa:=by rw[hwa];exact(((Ext.refl _).alloc _).alloc _).alloc _
 obtain⟨b6,hb6⟩:∃ b6:Nat,b6=w.heap.size:=⟨_,rfl⟩
 have hb0:wa.heap[b6]?=some (.cells #[.slice sa sn sc] 31 (0,0)):=by rw[hwa,hb6];exact blk_alloc (blk_alloc (alloc_new w _))
 have hb1:wa.heap[b6+1]?=some (.cells #[.int .i64 3,.string name,.slice aw nw cw,.int .i64 lo,.int .i64 hi,.slice aa na ca] 26 (0,0)):=by rw[hwa,hb6];exact blk_alloc (alloc_atR (by simp))
 have hb2:wa.heap[b6+1+1]?=some (.cells #[.bool pb,.int .i64 pk,.slice pa pn pc] 40 (0,0)):=by rw[hwa,hb6];exact alloc_atR (by simp)
 have HXA:=hI hxa
 have HB0:=hI hb0
 have HB1:=hI hb1
 have HB2:=hI hb2
 go_enter Tryz.func23,Tryz.ntmps23
 go_upto_region 1 with fail
 rw[<-hwa,<-hb6]
 clear hwa hb6
 obtain⟨f0,f1,f2,f3,f4,f5,ff⟩:=blk6 hb1
 obtain⟨e0,ef⟩:=blk1 hb0
 clear hxa hb0 hb1 hb2
 go_wp2_with fail
 refine(HIX.out wa HXA.out).mono ?_
 rintro r w2 ⟨rfl,hx2⟩
 have HX2:=hI (HXA.out.trans hx2)
 have HS2:=hI (hx2.blk HB0.out)
 have HE2:=hI (hx2.blk HB1.out)
 have HP2:=hI (hx2.blk HB2.out)
 clear hx2 f0 f1 f2 f3 f4 f5 ff e0 ef HB0 HB1 HB2 HXA HIX
 rw[HAT.out,optV_none]
 obtain⟨f0,f1,f2,f3,f4,f5,ff⟩:=blk6 HE2.out
 obtain⟨e0,ef⟩:=blk1 HS2.out
 obtain⟨r0,r1,r2,rf⟩:=blk3 HP2.out
 have HFC:=hI (HFI.out w2 HX2.out)
 rw[HDF.out,optV_some] at HFC
 clear HARG HX HNA HFE
 go_wp2_with fail
 refine HFC.out.mono ?_
 rintro r w3 ⟨rfl,hx3⟩
 have HS3:=hI (hx3.blk HS2.out)
 have HE3:=hI (hx3.blk HE2.out)
 have HP3:=hI (hx3.blk HP2.out)
 have HX3:=hI (HX2.out.trans hx3)
 clear hx3 f0 f1 f2 f3 f4 f5 ff e0 ef r0 r1 r2 rf HFC HS2 HE2 HP2 HX2
 obtain⟨f0,f1,f2,f3,f4,f5,ff⟩:=blk6 HE3.out
 obtain⟨e0,ef⟩:=blk1 HS3.out
 obtain⟨r0,r1,r2,rf⟩:=blk3 HP3.out
 obtain⟨cb,coff,v,rfl,hcv,hrow⟩:=(HCL.out.ext HX3.out).at HDL.out
 obtain⟨-,-,k2,k3,k4,k5,k6,k7,-,-⟩:=hrow.ten
 have M6:=hI (show IsEx w3 (l.getD d cla0).cond v.x.val by rw[getD_clK HDL.out];exact hcv.2.2.1)
 clear hcv hrow
 by_cases hk:pk = -1
 case neg =>
  have t1:(pk == -1)=false:=by simp[hk]
  have HQ:=hI (show R=false by rw[HR.out];unfold singB;rw[<-HP.out.parts.2.1];simp[hk])
  clear hk
  go_upto_region 8 with fail
  go_quiet (fail)
  go_wp2_with fail
  go_ret
  exact givesE_bool (by rw[HQ.out]) (HX3.out.drewN _)
 subst hk
 by_cases hn:pn=1
 case neg =>
  have t1:((pn:Int)==1)=false:=by simp;omega
  have HQ:=hI (show R=false by rw[HR.out];unfold singB;have:=HP.out.parts.2.2.1;simp only at this;rw[show decide (p.args.length=1)=false from decide_eq_false (by omega)];simp)
  clear hn
  go_upto_region 8 with fail
  go_quiet (fail)
  go_wp2_with fail
  go_ret
  exact givesE_bool (by rw[HQ.out]) (HX3.out.drewN _)
 subst hn
 obtain⟨b,off,qv,hpa,hq,m0,m1,m2⟩:=HP.out.parts.2.2.2.2.2 0 (by have:=HP.out.parts.2.2.1;simp only at this;omega)
 simp only at hpa
 subst hpa
 simp only[Nat.zero_mul,Nat.add_zero] at m0 m1 m2
 have c0:=HX3.out.cell m0
 have c1:=HX3.out.cell m1
 have c2:=HX3.out.cell m2
 obtain⟨q1,hq1⟩:∃ q1,p.args=[q1]:=len_one (by have:=HP.out.parts.2.2.1;simp only at this;omega)
 simp only[hq1,List.getElem_cons_zero] at hq
 have HQ1:=hI hq1
 have HPQ:=hI hq
 have HPB:=hI (show pb=p.value from HP.out.parts.1)
 have HPK:=hI (show (-1:Int)=p.pick from HP.out.parts.2.1)
 have HQB:=hI (show qv.value=q1.value from hq.parts.1)
 clear hq1 hq m0 m1 m2
 obtain⟨qb,qk,qa,qn,qc⟩:=qv
 simp only at HQB c0 c1 c2
 have hHPA:=fun W (hW:Ext w3 W)=>HDE.out _ q1 ⟨qb,qk,qa,qn,qc⟩ W (HX3.out.trans hW) (M6.out.ext hW) (HPQ.out.ext (HX3.out.trans hW))
 obtain⟨B,hB⟩:∃ B,B=prvF s l f g (l.getD d cla0).cond q1:=⟨_,rfl⟩
 rw[<-hB] at hHPA
 have HBE:=hI hB
 unfold PrV.val ExV.val exV at hHPA
 have HPA:=hI hHPA
 clear hB hHPA HDE HCL
 go_upto_region 8 with fail
 cases B
 ·have HF:=hI (show R=false by rw[HR.out];unfold singB;rw[HQ1.out];simp only[List.all_cons,List.all_nil,<-HBE.out];simp)
  refine wp_region_growS (n:=241) (m:=35) [34] (GrGS w3) GrE (GrP (rpv8F d coff cb v b6 sa sn sc n c fa fn fc pb b off pc qb qk qa qn qc )) (by kernel_rfl) (by kernel_rfl) (Nat.le_of_ble_eq_true rfl) (fun i=>[25,26,27,28,29,30,31,32].contains i) ?sg ?gd ?sk ((Ext.refl w3).drew) ?_ ?_ ?_
  case sg =>
   intro i o hi hs ho
   have hi':i=0\/i=1\/i=2\/i=3\/i=4\/i=5\/i=6\/i=7\/i=8\/i=9\/i=10\/i=11\/i=12\/i=13\/i=14\/i=15\/i=16\/i=17\/i=18\/i=19\/i=20\/i=21\/i=22\/i=23\/i=24\/i=25\/i=26\/i=27\/i=28\/i=29\/i=30\/i=31\/i=32\/i=33\/i=34:=by omega
   rcases hi' with rfl|rfl|rfl|rfl|rfl|rfl|rfl|rfl|rfl|rfl|rfl|rfl|rfl|rfl|rfl|rfl|rfl|rfl|rfl|rfl|rfl|rfl|rfl|rfl|rfl|rfl|rfl|rfl|rfl|rfl|rfl|rfl|rfl|rfl|rfl<;>(cases ho;first|(exact absurd hs (by decide);done)|exact nofun)
  case gd =>
   intro i o j b hi ho hg
   have hi':i=0\/i=1\/i=2\/i=3\/i=4\/i=5\/i=6\/i=7\/i=8\/i=9\/i=10\/i=11\/i=12\/i=13\/i=14\/i=15\/i=16\/i=17\/i=18\/i=19\/i=20\/i=21\/i=22\/i=23\/i=24\/i=25\/i=26\/i=27\/i=28\/i=29\/i=30\/i=31\/i=32\/i=33\/i=34:=by omega
   rcases hi' with rfl|rfl|rfl|rfl|rfl|rfl|rfl|rfl|rfl|rfl|rfl|rfl|rfl|rfl|rfl|rfl|rfl|rfl|rfl|rfl|rfl|rfl|rfl|rfl|rfl|rfl|rfl|rfl|rfl|rfl|rfl|rfl|rfl|rfl|rfl<;>(cases ho;first|(cases hg;done)|(cases hg;intro v W h;first|(rw[if_neg (by decide)];exact h)|(rw[if_pos (by decide)];intro e;first|(rw[show v=.bool false from h] at e;cases e;done)|(rw[show v=.bool true from h] at e;cases e;done)|(rw[show v=undef from h] at e;cases e;done))))
  case sk =>
   intro i hi hs L vs W hiL hG
   have hi':i=0\/i=1\/i=2\/i=3\/i=4\/i=5\/i=6\/i=7\/i=8\/i=9\/i=10\/i=11\/i=12\/i=13\/i=14\/i=15\/i=16\/i=17\/i=18\/i=19\/i=20\/i=21\/i=22\/i=23\/i=24\/i=25\/i=26\/i=27\/i=28\/i=29\/i=30\/i=31\/i=32\/i=33\/i=34:=by omega
   rcases hi' with rfl|rfl|rfl|rfl|rfl|rfl|rfl|rfl|rfl|rfl|rfl|rfl|rfl|rfl|rfl|rfl|rfl|rfl|rfl|rfl|rfl|rfl|rfl|rfl|rfl|rfl|rfl|rfl|rfl|rfl|rfl|rfl|rfl|rfl|rfl<;>first|(exact absurd hs (by decide);done)|exact⟨Ext.refl W,hG,rfl⟩
  ·intro i k v W W' hi hk hne hout h hE
   have hE:Ext W W':=hE
   have hi':i=0\/i=1\/i=2\/i=3\/i=4\/i=5\/i=6\/i=7\/i=8\/i=9\/i=10\/i=11\/i=12\/i=13\/i=14\/i=15\/i=16\/i=17\/i=18\/i=19\/i=20\/i=21\/i=22\/i=23\/i=24\/i=25\/i=26\/i=27\/i=28\/i=29\/i=30\/i=31\/i=32\/i=33\/i=34:=by omega
   clear hi hk hne hout
   rcases hi' with rfl|rfl|rfl|rfl|rfl|rfl|rfl|rfl|rfl|rfl|rfl|rfl|rfl|rfl|rfl|rfl|rfl|rfl|rfl|rfl|rfl|rfl|rfl|rfl|rfl|rfl|rfl|rfl|rfl|rfl|rfl|rfl|rfl|rfl|rfl
   ·exact h
   ·exact h
   ·exact h
   ·exact h
   ·exact h
   ·exact h
   ·exact h
   ·exact h
   ·exact h
   ·exact h
   ·exact h
   ·exact h
   ·exact h
   ·exact h
   ·exact h
   ·exact h
   ·exact h
   ·exact h
   ·exact h
   ·exact h
   ·exact h
   ·exact h
   ·exact h
   ·exact h
   ·exact h
   ·exact h
   ·exact h
   ·exact h
   ·exact h
   ·exact h
   ·exact h
   ·exact h
   ·exact h
   ·exact h
   exact h
  ·intro q op hq hsq ho L vs W hqL hcL hW hd ρ hρ
   have hq':q=0\/q=1\/q=2\/q=3\/q=4\/q=5\/q=6\/q=7\/q=8\/q=9\/q=10\/q=11\/q=12\/q=13\/q=14\/q=15\/q=16\/q=17\/q=18\/q=19\/q=20\/q=21\/q=22\/q=23\/q=24\/q=25\/q=26\/q=27\/q=28\/q=29\/q=30\/q=31\/q=32\/q=33\/q=34:=by omega
   clear hq
   have o9:ρ (.tmp 9)=.pointer (some ⟨b6+1+1,0,none⟩):=hρ.out 9 rfl
   have i0:=hρ.i 0 72
   have i1:=hρ.i 1 73
   have i2:=hρ.i 2 74
   have i4:=hρ.i 4 76
   have i5:=hρ.i 5 77
   have i6:=hρ.i 6 78
   have i3:=hρ.i 3 75
   have i7:=hρ.i 7 79
   have i8:=hρ.i 8 80
   have o5:ρ (.tmp 5)=.pointer (some ⟨b6,0,none⟩):=hρ.out 5 rfl
   have o1:ρ (.tmp 1)=.slice (some ⟨cb,coff,none⟩) n c:=hρ.out 1 rfl
   have o13:ρ (.tmp 13)=.int .i64 ((d:Nat):Int):=hρ.out 13 rfl
   have i12:=hρ.i 12 84
   have i13:=hρ.i 13 85
   have i14:=hρ.i 14 86
   have i15:=hρ.i 15 87
   have o3:ρ (.tmp 3)=.slice fa fn fc:=hρ.out 3 rfl
   have i18:=hρ.i 18 90
   have i19:=hρ.i 19 91
   have i20:=hρ.i 20 92
   have i10:=hρ.i 10 82
   have i11:=hρ.i 11 83
   have i16:=hρ.i 16 88
   have i17:=hρ.i 17 89
   have i21:=hρ.i 21 93
   have i9:=hρ.i 9 81
   have i22:=hρ.i 22 94
   have i23:=hρ.i 23 95
   have i25:=hρ.i 25 97
   have i27:=hρ.i 27 99
   have i28:=hρ.i 28 100
   have i29:=hρ.i 29 101
   have i30:=hρ.i 30 102
   have i26:=hρ.i 26 98
   have i31:=hρ.i 31 103
   have i24:=hρ.i 24 96
   have i32:=hρ.i 32 104
   have i33:=hρ.i 33 105
   have hc:=hρ.const
   have hfn:=hρ.func
   clear hρ
   have HG:=hI hW
   have HW:=hI (show Ext w3 W from hW)
   have HQL:=hI hqL
   clear hW hqL hcL
   have kf0:=HW.out.cell e0
   have kf1:=HW.out.cell r1
   have kf2:=HW.out.cell r2
   have kf3:=HW.out.cell k2
   have kf4:=HW.out.cell k3
   have kf5:=HW.out.cell k4
   have kf6:=HW.out.cell k5
   have kf7:=HW.out.cell k6
   have kf8:=HW.out.cell k7
   have kf9:=HW.out.cell c0
   have kf10:=HW.out.cell c1
   have kf11:=HW.out.cell c2
   by_cases hs22:q=22
   ·subst hs22
    clear hq'
    clear hsq
    cases ho
    have h10:vs 10=_:=hd ⟨10,.data⟩ (by simp) rfl
    rw[h10] at i10
    have h11:vs 11=_:=hd ⟨11,.data⟩ (by simp) rfl
    rw[h11] at i11
    have h16:vs 16=_:=hd ⟨16,.data⟩ (by simp) rfl
    rw[h16] at i16
    have h17:vs 17=_:=hd ⟨17,.data⟩ (by simp) rfl
    rw[h17] at i17
    have h21:vs 21=_:=hd ⟨21,.data⟩ (by simp) rfl
    rw[h21] at i21
    clear hd
    unfold GivesOp
    go_simp
    refine(HPA.out W HW.out).mono ?_
    rintro e5 w5 ⟨rfl,hx5⟩
    exact⟨_,rfl,hx5,HW.out.trans hx5,rfl⟩
   rcases hq' with rfl|rfl|rfl|rfl|rfl|rfl|rfl|rfl|rfl|rfl|rfl|rfl|rfl|rfl|rfl|rfl|rfl|rfl|rfl|rfl|rfl|rfl|rfl|rfl|rfl|rfl|rfl|rfl|rfl|rfl|rfl|rfl|rfl|rfl|rfl
   all_goals first|(exact absurd rfl hs22;done)|(exact absurd hsq (by decide);done)|skip
   all_goals
    cases ho
    simp[isDataG,GrP,rpv8F] at hd
    clear hs22 hsq
    unfold GivesOp
    go_simp
    exact⟨Ext.refl _,HW.out,rfl⟩
  intro L vs W hLm hW hR
  rw[if_pos (by decide +kernel)]
  have h34:vs 34=.bool false:=hR 34 (by simp) (by omega)
  simp only[acts,dstAt,List.range,List.range.loop,List.foldl_cons,List.foldl_nil,h34]
  go_simp
  have hW2:Ext w3 W:=hW
  clear hR hW hLm h34
  go_wp2_with fail
  go_ret
  exact givesE_bool (by rw[HF.out]) (HX3.out.trans hW2)
 have HF:=hI (show R=(pb==qb) by rw[HR.out];unfold singB;rw[HQ1.out,<-HPK.out];simp only[List.all_cons,List.all_nil,<-HBE.out,List.length_singleton];rw[<-HPB.out,<-HQB.out];cases pb<;>cases qb<;>rfl)
 refine wp_region_growS (n:=241) (m:=35) [34] (GrGS w3) GrE (GrP (rpv8T d coff cb v b6 sa sn sc n c fa fn fc pb b off pc qb qk qa qn qc )) (by kernel_rfl) (by kernel_rfl) (Nat.le_of_ble_eq_true rfl) (fun i=>[].contains i) ?sg ?gd ?sk ((Ext.refl w3).drew) ?_ ?_ ?_
 case sg =>
  intro i o hi hs ho
  have hi':i=0\/i=1\/i=2\/i=3\/i=4\/i=5\/i=6\/i=7\/i=8\/i=9\/i=10\/i=11\/i=12\/i=13\/i=14\/i=15\/i=16\/i=17\/i=18\/i=19\/i=20\/i=21\/i=22\/i=23\/i=24\/i=25\/i=26\/i=27\/i=28\/i=29\/i=30\/i=31\/i=32\/i=33\/i=34:=by omega
  rcases hi' with rfl|rfl|rfl|rfl|rfl|rfl|rfl|rfl|rfl|rfl|rfl|rfl|rfl|rfl|rfl|rfl|rfl|rfl|rfl|rfl|rfl|rfl|rfl|rfl|rfl|rfl|rfl|rfl|rfl|rfl|rfl|rfl|rfl|rfl|rfl<;>(cases ho;first|(exact absurd hs (by decide);done)|exact nofun)
 case gd =>
  intro i o j b hi ho hg
  have hi':i=0\/i=1\/i=2\/i=3\/i=4\/i=5\/i=6\/i=7\/i=8\/i=9\/i=10\/i=11\/i=12\/i=13\/i=14\/i=15\/i=16\/i=17\/i=18\/i=19\/i=20\/i=21\/i=22\/i=23\/i=24\/i=25\/i=26\/i=27\/i=28\/i=29\/i=30\/i=31\/i=32\/i=33\/i=34:=by omega
  rcases hi' with rfl|rfl|rfl|rfl|rfl|rfl|rfl|rfl|rfl|rfl|rfl|rfl|rfl|rfl|rfl|rfl|rfl|rfl|rfl|rfl|rfl|rfl|rfl|rfl|rfl|rfl|rfl|rfl|rfl|rfl|rfl|rfl|rfl|rfl|rfl<;>(cases ho;first|(cases hg;done)|(cases hg;intro v W h;first|(rw[if_neg (by decide)];exact h)|(rw[if_pos (by decide)];intro e;first|(rw[show v=.bool false from h] at e;cases e;done)|(rw[show v=.bool true from h] at e;cases e;done)|(rw[show v=undef from h] at e;cases e;done))))
 case sk =>
  intro i hi hs L vs W hiL hG
  have hi':i=0\/i=1\/i=2\/i=3\/i=4\/i=5\/i=6\/i=7\/i=8\/i=9\/i=10\/i=11\/i=12\/i=13\/i=14\/i=15\/i=16\/i=17\/i=18\/i=19\/i=20\/i=21\/i=22\/i=23\/i=24\/i=25\/i=26\/i=27\/i=28\/i=29\/i=30\/i=31\/i=32\/i=33\/i=34:=by omega
  rcases hi' with rfl|rfl|rfl|rfl|rfl|rfl|rfl|rfl|rfl|rfl|rfl|rfl|rfl|rfl|rfl|rfl|rfl|rfl|rfl|rfl|rfl|rfl|rfl|rfl|rfl|rfl|rfl|rfl|rfl|rfl|rfl|rfl|rfl|rfl|rfl<;>first|(exact absurd hs (by decide);done)|exact⟨Ext.refl W,hG,rfl⟩
 ·intro i k v W W' hi hk hne hout h hE
  have hE:Ext W W':=hE
  have hi':i=0\/i=1\/i=2\/i=3\/i=4\/i=5\/i=6\/i=7\/i=8\/i=9\/i=10\/i=11\/i=12\/i=13\/i=14\/i=15\/i=16\/i=17\/i=18\/i=19\/i=20\/i=21\/i=22\/i=23\/i=24\/i=25\/i=26\/i=27\/i=28\/i=29\/i=30\/i=31\/i=32\/i=33\/i=34:=by omega
  clear hi hk hne hout
  rcases hi' with rfl|rfl|rfl|rfl|rfl|rfl|rfl|rfl|rfl|rfl|rfl|rfl|rfl|rfl|rfl|rfl|rfl|rfl|rfl|rfl|rfl|rfl|rfl|rfl|rfl|rfl|rfl|rfl|rfl|rfl|rfl|rfl|rfl|rfl|rfl
  ·exact h
  ·exact h
  ·exact h
  ·exact h
  ·exact h
  ·exact h
  ·exact h
  ·exact h
  ·exact h
  ·exact h
  ·exact h
  ·exact h
  ·exact h
  ·exact h
  ·exact h
  ·exact h
  ·exact h
  ·exact h
  ·exact h
  ·exact h
  ·exact h
  ·exact h
  ·exact h
  ·exact h
  ·exact h
  ·exact h
  ·exact h
  ·exact h
  ·exact h
  ·exact h
  ·exact h
  ·exact h
  ·exact h
  ·exact h
  exact h
 ·intro q op hq hsq ho L vs W hqL hcL hW hd ρ hρ
  have hq':q=0\/q=1\/q=2\/q=3\/q=4\/q=5\/q=6\/q=7\/q=8\/q=9\/q=10\/q=11\/q=12\/q=13\/q=14\/q=15\/q=16\/q=17\/q=18\/q=19\/q=20\/q=21\/q=22\/q=23\/q=24\/q=25\/q=26\/q=27\/q=28\/q=29\/q=30\/q=31\/q=32\/q=33\/q=34:=by omega
  clear hq
  have o9:ρ (.tmp 9)=.pointer (some ⟨b6+1+1,0,none⟩):=hρ.out 9 rfl
  have i0:=hρ.i 0 72
  have i1:=hρ.i 1 73
  have i2:=hρ.i 2 74
  have i4:=hρ.i 4 76
  have i5:=hρ.i 5 77
  have i6:=hρ.i 6 78
  have i3:=hρ.i 3 75
  have i7:=hρ.i 7 79
  have i8:=hρ.i 8 80
  have o5:ρ (.tmp 5)=.pointer (some ⟨b6,0,none⟩):=hρ.out 5 rfl
  have o1:ρ (.tmp 1)=.slice (some ⟨cb,coff,none⟩) n c:=hρ.out 1 rfl
  have o13:ρ (.tmp 13)=.int .i64 ((d:Nat):Int):=hρ.out 13 rfl
  have i12:=hρ.i 12 84
  have i13:=hρ.i 13 85
  have i14:=hρ.i 14 86
  have i15:=hρ.i 15 87
  have o3:ρ (.tmp 3)=.slice fa fn fc:=hρ.out 3 rfl
  have i18:=hρ.i 18 90
  have i19:=hρ.i 19 91
  have i20:=hρ.i 20 92
  have i10:=hρ.i 10 82
  have i11:=hρ.i 11 83
  have i16:=hρ.i 16 88
  have i17:=hρ.i 17 89
  have i21:=hρ.i 21 93
  have i9:=hρ.i 9 81
  have i22:=hρ.i 22 94
  have i23:=hρ.i 23 95
  have i25:=hρ.i 25 97
  have i27:=hρ.i 27 99
  have i28:=hρ.i 28 100
  have i29:=hρ.i 29 101
  have i30:=hρ.i 30 102
  have i26:=hρ.i 26 98
  have i31:=hρ.i 31 103
  have i24:=hρ.i 24 96
  have i32:=hρ.i 32 104
  have i33:=hρ.i 33 105
  have hc:=hρ.const
  have hfn:=hρ.func
  clear hρ
  have HG:=hI hW
  have HW:=hI (show Ext w3 W from hW)
  have HQL:=hI hqL
  clear hW hqL hcL
  have kf0:=HW.out.cell e0
  have kf1:=HW.out.cell r0
  have kf2:=HW.out.cell r1
  have kf3:=HW.out.cell r2
  have kf4:=HW.out.cell k2
  have kf5:=HW.out.cell k3
  have kf6:=HW.out.cell k4
  have kf7:=HW.out.cell k5
  have kf8:=HW.out.cell k6
  have kf9:=HW.out.cell k7
  have kf10:=HW.out.cell c0
  have kf11:=HW.out.cell c1
  have kf12:=HW.out.cell c2
  by_cases hs22:q=22
  ·subst hs22
   clear hq'
   clear hsq
   cases ho
   have h10:vs 10=_:=hd ⟨10,.data⟩ (by simp) rfl
   rw[h10] at i10
   have h11:vs 11=_:=hd ⟨11,.data⟩ (by simp) rfl
   rw[h11] at i11
   have h16:vs 16=_:=hd ⟨16,.data⟩ (by simp) rfl
   rw[h16] at i16
   have h17:vs 17=_:=hd ⟨17,.data⟩ (by simp) rfl
   rw[h17] at i17
   have h21:vs 21=_:=hd ⟨21,.data⟩ (by simp) rfl
   rw[h21] at i21
   clear hd
   unfold GivesOp
   go_simp
   refine(HPA.out W HW.out).mono ?_
   rintro e5 w5 ⟨rfl,hx5⟩
   exact⟨_,rfl,hx5,HW.out.trans hx5,rfl⟩
  rcases hq' with rfl|rfl|rfl|rfl|rfl|rfl|rfl|rfl|rfl|rfl|rfl|rfl|rfl|rfl|rfl|rfl|rfl|rfl|rfl|rfl|rfl|rfl|rfl|rfl|rfl|rfl|rfl|rfl|rfl|rfl|rfl|rfl|rfl|rfl|rfl
  all_goals first|(exact absurd rfl hs22;done)|skip
  all_goals
   cases ho
   simp[isDataG,GrP,rpv8T] at hd
   clear hs22 hsq
   unfold GivesOp
   go_simp
   exact⟨Ext.refl _,HW.out,rfl⟩
 intro L vs W hLm hW hR
 rw[if_pos (by decide +kernel)]
 have h34:vs 34=.bool (pb==qb):=hR 34 (by simp) (by omega)
 simp only[acts,dstAt,List.range,List.range.loop,List.foldl_cons,List.foldl_nil,h34]
 go_simp
 have hW2:Ext w3 W:=hW
 clear hR hW hLm h34
 go_wp2_with fail
 go_ret
 exact givesE_bool (by rw[HF.out]) (HX3.out.trans hW2)
end Go.Proofs.YtpkljcgihobaiaaGreatDoor
