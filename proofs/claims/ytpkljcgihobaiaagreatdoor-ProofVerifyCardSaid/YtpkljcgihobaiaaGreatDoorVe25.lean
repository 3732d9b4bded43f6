/-
  Texts of the claim, joined: DPrO, DProof, Sch2, Awk11, World11, Dual, PSup, Spl0.
-/
import Derived.Test.YtpkljcgihobaiaaGreatDoorVe24
namespace Go.Proofs.YtpkljcgihobaiaaGreatDoor
set_option maxRecDepth 100000
set_option maxHeartbeats 32000000
open Go.RowKit
def dpr19R (_op:Int) (V T:Bool) (b6 b11:Nat) (sa:OA) (sn sc:Nat) (a:OA) (n c:Nat) (fa:OA) (fn fc:Nat) (k:Nat) (xb xo na ca:Nat) (x0:Int) (x1:BA) (aw1:OA) (nw1 cw1:Nat) (x5 x6:Int) (aa1:OA) (na1 ca1:Nat)  : Nat->Value->World->Prop
 | 0,u,_=>u=.agg #[.slice sa sn sc]
 | 1,u,_=>u=.slice a n c
 | 2,u,_=>u=.pointer (some ⟨b6+1,5,none⟩)
 | 3,u,_=>u=.slice (some ⟨xb,xo,none⟩) na ca
 | 4,u,_=>u=.int .i64 ((k:Nat):Int)
 | 5,u,_=>u=.pointer (some ⟨xb,xo+k * 6,none⟩)
 | 6,u,_=>u=.agg #[.int .i64 x0,.string x1,.slice aw1 nw1 cw1,.int .i64 x5,.int .i64 x6,.slice aa1 na1 ca1]
 | 7,u,_=>u=.slice fa fn fc
 | 8,u,_=>u=.bool T
 | 9,u,_=>u=.pointer (some ⟨b11,0,none⟩)
 | 10,u,_=>u=.bool V
 | _,u,_=>u=.bool (T != V)
def dpr21R (_op:Int) (V:Bool) (bd b6 b11:Nat) (sa:OA) (sn sc:Nat) (a:OA) (n c:Nat) (fa:OA) (fn fc:Nat) (N:ZN) (Q:Pr->Prop) (k:Nat) (xb xo na ca:Nat) (x0:Int) (x1:BA) (aw1:OA) (nw1 cw1:Nat) (x5 x6:Int) (aa1:OA) (na1 ca1:Nat)  : Nat->Value->World->Prop
 | 0,u,_=>u=.int .i64 ((k:Nat):Int)
 | 1,u,_=>u=.pointer (some ⟨bd,0,none⟩)
 | 2,u,_=>u=.agg #[.slice sa sn sc]
 | 3,u,_=>u=.slice a n c
 | 4,u,_=>u=.pointer (some ⟨b6+1,5,none⟩)
 | 5,u,_=>u=.slice (some ⟨xb,xo,none⟩) na ca
 | 6,u,_=>u=.int .i64 ((k:Nat):Int)
 | 7,u,_=>u=.pointer (some ⟨xb,xo+k * 6,none⟩)
 | 8,u,_=>u=.agg #[.int .i64 x0,.string x1,.slice aw1 nw1 cw1,.int .i64 x5,.int .i64 x6,.slice aa1 na1 ca1]
 | 9,u,_=>u=.slice fa fn fc
 | 10,u,W=>∃ (q:Pr) (qv:PrV),u=.agg #[.bool qv.value,.int .i64 qv.pick,.slice qv.a qv.n qv.c]/\(IsPr (mask W N) q qv/\Q q)
 | 11,u,W=>∃ (q:Pr) (qv:PrV) (y:Nat),u=.slice (some ⟨y,0,none⟩) 1 1/\(W.heap[y]?=some (.cells #[.bool qv.value,.int .i64 qv.pick,.slice qv.a qv.n qv.c] 40 (0,0))/\b11 < y/\IsPr (mask W N) q qv/\Q q)
 | 12,u,_=>u=.pointer (some ⟨b11,1,none⟩)
 | 13,_,W=>W.heap[b11]?=some (.cells #[.bool V,.int .i64 (k:Int),.slice none 0 0] 40 (0,0))
 | _,u,_=>u=.pointer (some ⟨b11,2,none⟩)
theorem dpr_one {s:List Attr} {l:List Cla} {f:ZI} {g:Nat} {name:BA} {words:ZB} {lo hi:Int} {args:List Ex} {V:Bool} {w0 w:World} {bd:Nat} {M:ZN} {a:OA} {n c:Nat} {fa:OA} {fn fc:Nat} {sa:OA} {sn sc:Nat} {aw:OA} {nw cw:Nat} {aa:OA} {na ca:Nat} {op:Int} (hop:op=7/\V=false\/op=8/\V=true) (hv:valF s l f (g+1) (.mk op name words lo hi args)=V) (h:DprIn s l f g op name args lo hi V w0 w bd M a n c fa fn fc sa sn sc aw nw cw aa na ca) :
  Calls Tryz.prog 17 #[.pointer (some ⟨bd,0,none⟩),.agg #[.slice sa sn sc],.slice a n c,exV op name aw nw cw lo hi aa na ca,.slice fa fn fc] w (DPrQ (fun p=>prvF s l f (g+1) (.mk op name words lo hi args) p=true/\p.few 1000000) w0 bd M w):=by
 have HQ:=hI (show ∀ (k:Nat) (hk:k < args.length) (q:Pr),valF s l f (g+1) args[k]=V->prvF s l f (g+1) args[k] q=true->prvF s l f (g+1) (.mk op name words lo hi args) (.mk V (k:Int) [q])=true from fun k hk q h1 h2=>prv_pick (hop.imp And.left And.left) (by rcases hop with ⟨rfl,rfl⟩|⟨rfl,rfl⟩<;>rfl) hk h1 h2)
 obtain⟨j0,hj0,hjv⟩:=val_some (hop.imp And.left And.left) hv (by rcases hop with ⟨rfl,rfl⟩|⟨rfl,rfl⟩<;>rfl)
 have HJV:=hI hjv
 clear hv hjv
 have HTR:=hI h.tr
 have HTA:=hI h.ta
 have HARG:=hI h.arg
 have HM:=hI h.m
 have HD:=hI h.d
 have HX:=hI h.x
 have HNA:=hI h.na
 have HFE:=hI h.few
 have hbw:=h.d.lt
 have HW0:=hI (show w0.heap.size<=w.heap.size by obtain⟨_,_,_,_,_,_,_,_,hxw,_⟩:=h.d;exact hxw.size)
 clear h
 unfold exV at *
 obtain⟨wa,hwa⟩:∃ wa,wa=((w.alloc (.cells #[.slice sa sn sc] 31)).alloc (.cells #[.int .i64 op,.string name,.slice aw nw cw,.int .i64 lo,.int .i64 hi,.slice aa na ca] 26)).alloc (.cells #[.bool false,.int .i64 0,.slice none 0 0] 40):=⟨_,rfl⟩
 have hxa:Ext w wa:=by rw[hwa];exact(((Ext.refl _).alloc _).alloc _).alloc _
 obtain⟨b6,hb6⟩:∃ b6:Nat,b6=w.heap.size:=⟨_,rfl⟩
 have hb0:wa.heap[b6]?=some (.cells #[.slice sa sn sc] 31 (0,0)):=by rw[hwa,hb6];exact blk_alloc (blk_alloc (alloc_new w _))
 have hb1:wa.heap[b6+1]?=some (.cells #[.int .i64 op,.string name,.slice aw nw cw,.int .i64 lo,.int .i64 hi,.slice aa na ca] 26 (0,0)):=by rw[hwa,hb6];exact blk_alloc (alloc_atR (by simp))
 have hb2:wa.heap[b6+1+1]?=some prZero:=by rw[hwa,hb6];exact alloc_atR (by simp)
 have HXA:=hI hxa
 have HB0:=hI hb0
 have HB1:=hI hb1
 have HB2:=hI hb2
 have HB6:=hI (show bd < b6/\b6=w.heap.size from⟨by omega,hb6⟩)
 go_enter Tryz.func17,Tryz.ntmps17
 go_upto_region 1 with fail
 rw[<-hwa,<-hb6]
 clear hwa hb6 hbw
 obtain⟨f0,f1,f2,f3,f4,f5,ff⟩:=blk6 hb1
 obtain⟨e0,ef⟩:=blk1 hb0
 clear hxa hb0 hb1 hb2
 go_wp2_with fail
 refine(HTR.out wa (HXA.out.chg _)).mono ?_
 rintro r w1 ⟨rfl,hx1⟩
 go_upto_region 2 with fail
 obtain⟨b11,hb11⟩:∃ b11:Nat,b11=w1.heap.size:=⟨_,rfl⟩
 obtain⟨w2,hw2⟩:∃ w2,w2=w1.alloc (.cells #[.bool V,.int .i64 (-1),.slice none 0 0] 40):=⟨_,rfl⟩
 have hx2:Ext wa w2:=by rw[hw2];exact hx1.alloc _
 have HP2:=hI (show w2.heap[b11]?=some (.cells #[.bool V,.int .i64 (-1),.slice none 0 0] 40 (0,0)) by rw[hw2,hb11];exact alloc_new w1 _)
 have hlt11:b6+1+1 < b11:=by have:=blk_lt (hx1.blk HB2.out);omega
 rw[<-hw2,<-hb11]
 clear hw2 hb11 hx1 f0 f1 f2 f3 f4 f5 ff e0 ef
 have HLT:=hI hlt11
 have HX2:=hI (HXA.out.trans hx2)
 have HS2:=hI (hx2.blk HB0.out)
 have HE2:=hI (hx2.blk HB1.out)
 have HZ2:=hI (hx2.blk HB2.out)
 have HD2:=hI (HD.out.ext (HXA.out.trans hx2))
 have HC2:=hI ((HXA.out.trans hx2).chg [bd])
 clear hx2 hlt11 HB0 HB1 HB2 HXA HTR
 obtain⟨f0,f1,f2,f3,f4,f5,ff⟩:=blk6 HE2.out
 obtain⟨e0,ef⟩:=blk1 HS2.out
 obtain⟨p0,p1,p2,pf'⟩:=blk3 HP2.out
 have hjn:j0 < na:=by have:=HNA.out;omega
 have hnk:na<=1000000:=by have:=HNA.out;have:=HFE.out;omega
 have t6:(op==6)=false:=by rcases hop with ⟨rfl,-⟩|⟨rfl,-⟩<;>rfl
 have t3:(op==3)=false:=by rcases hop with ⟨rfl,-⟩|⟨rfl,-⟩<;>rfl
 rcases hop with ⟨hop,hV⟩|⟨hop,hV⟩
 case' inl=>have t7:(op==7)=true:=by rw[hop];rfl
 case' inr =>
  have t7:(op==7)=false:=by rw[hop];rfl
  have t8:(op==8)=true:=by rw[hop];rfl
 all_goals
 clear hop
 go_upto_region 18 with fail
 clear hV p0 p1 p2 pf' e0 ef
 have HNX1:=hI (next_calls HD2.out (na:Int) (by omega) (by omega))
 go_wp2_with fail
 refine HNX1.out.mono ?_
 rintro r w4 ⟨z,rfl,hz0,hz1,hd4,hc4⟩
 obtain⟨k0,rfl⟩:∃ k0:Nat,z=k0:=⟨z.toNat,by omega⟩
 have HC4:=hI (HC2.out.then hc4)
 have HD4:=hI hd4
 have HS4:=hI (hc4.blk HS2.out (by have:=HB6.out;simp;omega))
 have HE4:=hI (hc4.blk HE2.out (by have:=HB6.out;simp;omega))
 have HZ4:=hI (hc4.blk HZ2.out (by have:=HB6.out;simp;omega))
 have HP4:=hI (hc4.blk HP2.out (by have:=HB6.out;have:=HLT.out;simp;omega))
 have hk0:k0 < na:=by omega
 clear hd4 hc4 hz0 hz1 f0 f1 f2 f3 f4 f5 ff HNX1 HS2 HE2 HZ2 HP2 HD2 HC2 HX2
 go_wp2_with fail
 go_loopw [17] (DprK na w4) (fun i _=>(j0+na - (intOf i).toNat) % na)
 case atStart=>exact⟨k0,rfl,hk0,Ext.refl _⟩
 case round =>
  obtain⟨k,rfl,hk,hxr⟩:=hrel
  have hka:k < args.length:=by have:=HNA.out;omega
  have HCR:=hI (HC4.out.then (hxr.chg [bd]))
  have HXR:=hI hxr
  have HS5:=hI (hxr.blk HS4.out)
  have HE5:=hI (hxr.blk HE4.out)
  have HZ5:=hI (hxr.blk HZ4.out)
  have HP5:=hI (hxr.blk HP4.out)
  have HD5:=hI (HD4.out.ext hxr)
  obtain⟨e0,ef⟩:=blk1 HS5.out
  obtain⟨f0,f1,f2,f3,f4,f5,ff⟩:=blk6 HE5.out
  obtain⟨p0,p1,p2,pf'⟩:=blk3 HP5.out
  clear hxr
  obtain⟨xb,xo,rfl,aw1,nw1,cw1,aa1,na1,ca1,m0,m1,m2,m3,m4,m5,m6⟩:=ExsD.at args _ HX.out k hka
  have hxl:xb < w.heap.size:=by have:=block_lt (mask_sub _ _ _ _ m0);simpa using this
  have hnx1:xb∉[bd]:=fun hm=>by rw[mask_cell,if_pos hm] at m0;cases m0
  have g0:=chg_cell HCR.out (mask_sub _ _ _ _ m0) hnx1
  have g1:=chg_cell HCR.out (mask_sub _ _ _ _ m1) hnx1
  have g2:=chg_cell HCR.out (mask_sub _ _ _ _ m2) hnx1
  have g3:=chg_cell HCR.out (mask_sub _ _ _ _ m3) hnx1
  have g4:=chg_cell HCR.out (mask_sub _ _ _ _ m4) hnx1
  have g5:=chg_cell HCR.out (mask_sub _ _ _ _ m5) hnx1
  have M6:=hI m6
  obtain⟨T,hT⟩:∃ T,T=valF s l f (g+1) args[k]:=⟨_,rfl⟩
  have hHTK:=fun W (hW:Ext wr W)=>HTA.out k hka _ W (HCR.out.then (hW.chg [bd])) (M6.out.mono (mask_step (HCR.out.then (hW.chg [bd])) (by simp)))
  rw[<-hT] at hHTK
  unfold exV at hHTK
  have HPA:=hI hHTK
  obtain⟨x0,hx0⟩:∃ x0,x0=args[k].op:=⟨_,rfl⟩
  obtain⟨x1,hx1⟩:∃ x1,x1=args[k].name:=⟨_,rfl⟩
  obtain⟨x5,hx5⟩:∃ x5,x5=args[k].lo:=⟨_,rfl⟩
  obtain⟨x6,hx6⟩:∃ x6,x6=args[k].hi:=⟨_,rfl⟩
  rw[<-hx0] at g0 HPA
  rw[<-hx1] at g1 HPA
  rw[<-hx5] at g3 HPA
  rw[<-hx6] at g4 HPA
  have HTT:=hI hT
  clear m0 m1 m2 m3 m4 m5 m6 hHTK hT
  have HX0:=hI hx0
  have HX1:=hI hx1
  have HX5:=hI hx5
  have HX6:=hI hx6
  clear hx0 hx1 hx5 hx6
  go_wp2_with fail
  refine wp_region_growLG (n:=139) (m:=12) [11] (GrGD wr) GrE (GrP (dpr19R op V T b6 b11 sa sn sc a n c fa fn fc k xb xo na ca x0 x1 aw1 nw1 cw1 x5 x6 aa1 na1 ca1 )) (by kernel_rfl) (by kernel_rfl) (Nat.le_of_ble_eq_true rfl) ?gd ((Ext.refl wr).drew) ?_ ?_ ?_
  case gd =>
   intro i o j b hi ho hg
   rcases ltc12 hi with rfl|rfl|rfl|rfl|rfl|rfl|rfl|rfl|rfl|rfl|rfl|rfl<;>(cases ho;first|(cases hg;done)|(cases hg;intro v W h;exact h))
  ·intro i k v W W' hi hk hne hout h hE
   have hE:Ext W W':=hE
   have hi':=ltc12 hi
   clear hi hk hne hout
   rcases hi' with rfl|rfl|rfl|rfl|rfl|rfl|rfl|rfl|rfl|rfl|rfl|rfl
   ·exact h
   ·exact h
   ·exact h
   ·exact h
   ·exact h
   ·exact h
   ·exact h
   ·exact h
   ·exact h
   ·exact h
   ·exact h
   exact h
  ·intro q op hq ho L vs W hqL hcL hW hd ρ hρ
   have hq':=ltc12 hq
   clear hq
   have o6:ρ (.tmp 6)=.pointer (some ⟨b6,0,none⟩):=hρ.out 6 rfl
   have o2:ρ (.tmp 2)=.slice a n c:=hρ.out 2 rfl
   have o8:ρ (.tmp 8)=.pointer (some ⟨b6+1,0,none⟩):=hρ.out 8 rfl
   have i2:=hρ.i 2 108
   have o17:ρ (.tmp 17)=.int .i64 ((k:Nat):Int):=hρ.out 17 rfl
   have i3:=hρ.i 3 109
   have i4:=hρ.i 4 110
   have i5:=hρ.i 5 111
   have o4:ρ (.tmp 4)=.slice fa fn fc:=hρ.out 4 rfl
   have i0:=hρ.i 0 106
   have i1:=hρ.i 1 107
   have i6:=hρ.i 6 112
   have i7:=hρ.i 7 113
   have o11:ρ (.tmp 11)=.pointer (some ⟨b11,0,none⟩):=hρ.out 11 rfl
   have i9:=hρ.i 9 115
   have i8:=hρ.i 8 114
   have i10:=hρ.i 10 116
   have hc:=hρ.const
   have hfn:=hρ.func
   clear hρ
   have HG:=hI hW
   have HW:=hI (show Ext wr W from hW)
   have HQL:=hI hqL
   clear hW hqL hcL
   have kf0:=HW.out.cell e0
   have kf1:=HW.out.cell f5
   have kf2:=HW.out.cell p0
   have kf3:=HW.out.cell g0
   have kf4:=HW.out.cell g1
   have kf5:=HW.out.cell g2
   have kf6:=HW.out.cell g3
   have kf7:=HW.out.cell g4
   have kf8:=HW.out.cell g5
   by_cases hs8:q=8
   ·subst hs8
    clear hq'
    cases ho
    have h0:vs 0=_:=hd ⟨0,.data⟩ (by simp) rfl
    rw[h0] at i0
    have h1:vs 1=_:=hd ⟨1,.data⟩ (by simp) rfl
    rw[h1] at i1
    have h6:vs 6=_:=hd ⟨6,.data⟩ (by simp) rfl
    rw[h6] at i6
    have h7:vs 7=_:=hd ⟨7,.data⟩ (by simp) rfl
    rw[h7] at i7
    clear hd
    unfold GivesOp
    go_simp
    refine(HPA.out W HW.out).mono ?_
    rintro e5 w5 ⟨rfl,hx5⟩
    exact⟨_,rfl,hx5,HW.out.trans hx5,rfl⟩
   rcases hq' with rfl|rfl|rfl|rfl|rfl|rfl|rfl|rfl|rfl|rfl|rfl|rfl
   all_goals first|(exact absurd rfl hs8;done)|skip
   all_goals
    cases ho
    simp[isDataG,GrP,dpr19R] at hd
    clear hs8
    unfold GivesOp
    go_simp
    exact⟨Ext.refl _,HW.out,rfl⟩
  intro L vs W hLm hW hR
  rw[if_pos (by decide +kernel)]
  have h11:vs 11=.bool (T != V):=hR 11 (by simp) (by omega)
  simp only[acts,dstAt,List.range,List.range.loop,List.foldl_cons,List.foldl_nil,h11]
  go_simp
  have hW2:Ext wr W:=hW
  clear hR hW hLm h11
  by_cases hTV:T=V
  ·rw[show (T != V)=false by simp[hTV]]
   replace hTV:=hTV.symm
   subst hTV
   -- the argument is found
   have HXW:=hI hW2
   have HCW:=hI (HCR.out.then (hW2.chg [bd]))
   have HS6:=hI (hW2.blk HS5.out)
   have HE6:=hI (hW2.blk HE5.out)
   have HZ6:=hI (hW2.blk HZ5.out)
   have HP6:=hI (hW2.blk HP5.out)
   have HDK:=hI (HD5.out.ext hW2)
   obtain⟨v4,hv4⟩:∃ v4,v4=W:=⟨_,rfl⟩
   rw[<-hv4] at HXW HCW HS6 HE6 HZ6 HP6 HDK hW2
   rw[<-hv4]
   clear hv4
   have HG:=hI (show ∀ (p:Addr) (v:Value),wr.cell? p=some v->v4.cell? p=some v from fun _ _ h=>HXW.out.cell h)
   replace g0:=HG.out _ _ g0
   replace g1:=HG.out _ _ g1
   replace g2:=HG.out _ _ g2
   replace g3:=HG.out _ _ g3
   replace g4:=HG.out _ _ g4
   replace g5:=HG.out _ _ g5
   clear f0 f1 f2 f3 f4 f5 ff e0 ef p0 p1 p2 pf' hW2 HS5 HE5 HZ5 HP5 HD5 HPA HTA HCR
   obtain⟨e0,ef⟩:=blk1 HS6.out
   obtain⟨f0,f1,f2,f3,f4,f5,ff⟩:=blk6 HE6.out
   have HN6:=hI (show b6∉[bd,b11] by have:=HB6.out;have:=HLT.out;simp;omega)
   have HN7:=hI (show b6+1∉[bd,b11] by have:=HB6.out;have:=HLT.out;simp;omega)
   have HN8:=hI (show b6+1+1∉[bd,b11] by have:=HB6.out;have:=HLT.out;simp;omega)
   have HN11:=hI (show b11∉[bd] by have:=HB6.out;have:=HLT.out;simp;omega)
   have HNX:=hI (show xb∉[bd,b11] by have:=HB6.out;have:=HLT.out;simp only[List.mem_cons,List.not_mem_nil,or_false,not_or];exact⟨by simpa using hnx1,by omega⟩)
   obtain⟨Q,hQ⟩:∃ Q:Pr->Prop,Q=fun q=>prvF s l f (g+1) args[k] q=true/\q.few 1000000:=⟨_,rfl⟩
   have HQD:=hI hQ
   obtain⟨N,hN⟩:∃ N:ZN,N=bd::(b6+1+1)::b11::M:=⟨_,rfl⟩
   have HNE:=hI hN
   have HNB:=hI (show bd∈N by rw[hN];simp)
   have HNC:=hI (show ∀ y∈[bd,b11],y∈N by rw[hN];intro y hy;simp only[List.mem_cons,List.not_mem_nil,or_false] at hy ⊢;rcases hy with h|h<;>simp[h])
   have HCX:=hI (show ∀ W,Chg [bd,b11] v4 W->Chg [bd] w W from fun W hW=>HCW.out.trans hW (fun z hz=>by
    simp only[List.mem_cons,List.not_mem_nil,or_false] at hz
    rcases hz with h|h
    ·exact Or.inl (by simp[h])
    have:=HB6.out;have:=HLT.out;exact Or.inr (by omega)))
   have hHPA:=fun W (hW:Chg [bd,b11] v4 W) (hd:DeckAt w0 W bd)=>HARG.out k hka _ N W (HCX.out W hW) (fun z hz=>by
    have h1:=HLT.out;have h2:=HB6.out;have h3:=hW.size;have h4:=blk_lt HP6.out;have h5:=HM.out
    rw[hN] at hz
    simp only[List.mem_cons] at hz
    rcases hz with rfl|rfl|rfl|hz
    ·omega
    ·omega
    ·omega
    have:=h5 z hz;have:=HCW.out.size;omega) hd (M6.out.mono (mask_step (HCX.out W hW) (by simp)))
   rw[<-hQ] at hHPA
   unfold exV at hHPA
   rw[<-HX0.out,<-HX1.out,<-HX5.out,<-HX6.out] at hHPA
   have HPA:=hI hHPA
   have HLW:=hI (blk_lt HP6.out)
   clear hQ hN hHPA hnx1 hxl HARG
   go_upto_region 21 with fail
   refine wp_region_growLG (n:=139) (m:=15) [11,13,14] (GnLv w0 v4 bd 13 [b11]) (GnB bd 13 [b11]) (GrP (dpr21R op V bd b6 b11 sa sn sc a n c fa fn fc N Q k xb xo na ca x0 x1 aw1 nw1 cw1 x5 x6 aa1 na1 ca1 )) (by kernel_rfl) (by kernel_rfl) (Nat.le_of_ble_eq_true rfl) ?gd (gnlv_start HDK.out) ?_ ?_ ?_
   case gd =>
    intro i o j b hi ho hg
    rcases ltc15 hi with rfl|rfl|rfl|rfl|rfl|rfl|rfl|rfl|rfl|rfl|rfl|rfl|rfl|rfl|rfl<;>(cases ho;first|(cases hg;done)|(cases hg;intro v W h;exact h))
   ·intro i k v W W' hi hk hne hout h hE
    have hi':=ltc15 hi
    clear hi hk
    by_cases hk:k=13
    ·subst hk
     have hE:Chg [bd,b11] W W':=by have h9:=hE;unfold GnB at h9;rwa [if_pos rfl] at h9
     rcases hi' with rfl|rfl|rfl|rfl|rfl|rfl|rfl|rfl|rfl|rfl|rfl|rfl|rfl|rfl|rfl
     ·exact h
     ·exact h
     ·exact h
     ·exact h
     ·exact h
     ·exact h
     ·exact h
     ·exact h
     ·exact h
     ·exact h
     ·obtain⟨q,qv,e0,h⟩:=h
      exact⟨q,qv,e0,⟨h.1.mono (mask_chg hE HNC.out),h.2⟩⟩
     ·obtain⟨q,qv,y,e0,h⟩:=h
      exact⟨q,qv,y,e0,⟨hE.blk h.1 (by have:=h.2.1;have:=HLT.out;have:=HB6.out;simp;omega),h.2.1,h.2.2.1.mono (mask_chg hE HNC.out),h.2.2.2⟩⟩
     ·exact h
     ·exact absurd rfl hne
     exact h
    have hE:Chg [bd] W W':=(by have h9:=hE;unfold GnB at h9;rwa [if_neg hk] at h9)
    rcases hi' with rfl|rfl|rfl|rfl|rfl|rfl|rfl|rfl|rfl|rfl|rfl|rfl|rfl|rfl|rfl
    ·exact h
    ·exact h
    ·exact h
    ·exact h
    ·exact h
    ·exact h
    ·exact h
    ·exact h
    ·exact h
    ·exact h
    ·obtain⟨q,qv,e0,h⟩:=h
     exact⟨q,qv,e0,⟨h.1.mono (mask_step hE HNB.out),h.2⟩⟩
    ·obtain⟨q,qv,y,e0,h⟩:=h
     exact⟨q,qv,y,e0,⟨hE.blk h.1 (by have:=h.2.1;have:=HLT.out;have:=HB6.out;simp;omega),h.2.1,h.2.2.1.mono (mask_step hE HNB.out),h.2.2.2⟩⟩
    ·exact h
    ·exact hE.blk h HN11.out
    exact h
   ·intro q op hq ho L vs W hqL hcL hW hd ρ hρ
    have hq':=ltc15 hq
    clear hq
    have o17:ρ (.tmp 17)=.int .i64 ((k:Nat):Int):=hρ.out 17 rfl
    have o0:ρ (.tmp 0)=.pointer (some ⟨bd,0,none⟩):=hρ.out 0 rfl
    have o6:ρ (.tmp 6)=.pointer (some ⟨b6,0,none⟩):=hρ.out 6 rfl
    have o2:ρ (.tmp 2)=.slice a n c:=hρ.out 2 rfl
    have o8:ρ (.tmp 8)=.pointer (some ⟨b6+1,0,none⟩):=hρ.out 8 rfl
    have i4:=hρ.i 4 128
    have i5:=hρ.i 5 129
    have i6:=hρ.i 6 130
    have i7:=hρ.i 7 131
    have o4:ρ (.tmp 4)=.slice fa fn fc:=hρ.out 4 rfl
    have i1:=hρ.i 1 125
    have i2:=hρ.i 2 126
    have i3:=hρ.i 3 127
    have i8:=hρ.i 8 132
    have i9:=hρ.i 9 133
    have i10:=hρ.i 10 134
    have o11:ρ (.tmp 11)=.pointer (some ⟨b11,0,none⟩):=hρ.out 11 rfl
    have i12:=hρ.i 12 136
    have i0:=hρ.i 0 124
    have hc:=hρ.const
    have hfn:=hρ.func
    clear hρ
    have HG:=hI hW
    have HW:=hI (show DeckAt w0 W bd/\Chg [bd,b11] v4 W from⟨hW.1,hW.2.1⟩)
    have HQL:=hI hqL
    clear hW hqL hcL
    have kf0:=chg_cell HW.out.2 e0 HN6.out
    have kf1:=chg_cell HW.out.2 f5 HN7.out
    have kf2:=chg_cell HW.out.2 g0 HNX.out
    have kf3:=chg_cell HW.out.2 g1 HNX.out
    have kf4:=chg_cell HW.out.2 g2 HNX.out
    have kf5:=chg_cell HW.out.2 g3 HNX.out
    have kf6:=chg_cell HW.out.2 g4 HNX.out
    have kf7:=chg_cell HW.out.2 g5 HNX.out
    by_cases hs10:q=10
    ·subst hs10
     clear hq'
     cases ho
     have h1:vs 1=_:=hd ⟨1,.data⟩ (by simp) rfl
     rw[h1] at i1
     have h2:vs 2=_:=hd ⟨2,.data⟩ (by simp) rfl
     rw[h2] at i2
     have h3:vs 3=_:=hd ⟨3,.data⟩ (by simp) rfl
     rw[h3] at i3
     have h8:vs 8=_:=hd ⟨8,.data⟩ (by simp) rfl
     rw[h8] at i8
     have h9:vs 9=_:=hd ⟨9,.data⟩ (by simp) rfl
     rw[h9] at i9
     clear hd
     unfold GivesOp
     go_simp
     refine(HPA.out W HW.out.2 HW.out.1).mono ?_
     rintro e5 w5 ⟨q,qv,rfl,hq1,hq2,hd5,hc5⟩
     exact⟨_,rfl,hc5,gnlv_step HG.out hd5 hc5,q,qv,rfl,hq2,hq1⟩
    by_cases hs11:q=11
    ·subst hs11
     clear hq'
     cases ho
     obtain⟨q,qv,h10,hs10⟩:∃ (q:Pr) (qv:PrV),vs 10=.agg #[.bool qv.value,.int .i64 qv.pick,.slice qv.a qv.n qv.c]/\(IsPr (mask W N) q qv/\Q q):=hd ⟨10,.data⟩ (by simp) rfl
     have HS10:=hI hs10
     clear hs10
     rw[h10] at i10
     clear hd
     unfold GivesOp
     go_simp
     exact⟨((Ext.refl W).alloc _).chg _,gnlv_step HG.out (HW.out.1.ext ((Ext.refl W).alloc _)) (((Ext.refl W).alloc _).chg _),q,qv,W.heap.size,rfl,alloc_new W _,by have:=HLW.out;have:=HW.out.2.size;omega,HS10.out.1.mono (mask_ext _ ((Ext.refl W).alloc _)),HS10.out.2⟩
    by_cases hs13:q=13
    ·subst hs13
     clear hq'
     cases ho
     have h12:vs 12=_:=hd ⟨12,.data⟩ (by simp) rfl
     rw[h12] at i12
     have h0:vs 0=_:=hd ⟨0,.data⟩ (by simp) rfl
     rw[h0] at i0
     clear hd
     have hpb:=(HG.out.2.2 HQL.out).blk HP6.out HN11.out
     obtain⟨v0,v1,v2,vf⟩:=blk3 hpb
     unfold GivesOp
     go_simp
     have hcs:Chg [b11] W (W.setCell ⟨b11,1,none⟩ (.int .i64 (k:Int))):=put_chg _ _ _ _
     have hcb:Chg [bd,b11] W (W.setCell ⟨b11,1,none⟩ (.int .i64 (k:Int))):=hcs.weak (fun y hy=>by simp at hy;simp[hy])
     have hst:(W.setCell ⟨b11,1,none⟩ (.int .i64 (k:Int))).heap[b11]?=some (.cells #[.bool V,.int .i64 (k:Int),.slice none 0 0] 40 (0,0)):=by have:=put_blk (i:=1) hpb (.int .i64 (k:Int));simpa using this
     exact⟨hcb,gnlv_brk HG.out (HW.out.1.chg hcs (by have:=HB6.out;have:=HLT.out;simp;omega) (fun z hz=>by simp only[List.mem_singleton] at hz;have:=HLT.out;have:=HB6.out;have:=HW0.out;omega)) hcb,hst⟩
    rcases hq' with rfl|rfl|rfl|rfl|rfl|rfl|rfl|rfl|rfl|rfl|rfl|rfl|rfl|rfl|rfl
    all_goals first|(exact absurd rfl hs10;done)|(exact absurd rfl hs11;done)|(exact absurd rfl hs13;done)|skip
    all_goals
     cases ho
     simp[isDataG,GrP,dpr21R] at hd
     clear hs10 hs11 hs13
     unfold GivesOp
     go_simp
     exact⟨Chg.refl _ _,gnlv_step HG.out HW.out.1 (Chg.refl _ _),rfl⟩
   intro L vs W hLm hW hR
   rw[if_neg (by decide +kernel)]
   obtain⟨q,qv,y,h11,hs11⟩:∃ (q:Pr) (qv:PrV) (y:Nat),vs 11=.slice (some ⟨y,0,none⟩) 1 1/\(W.heap[y]?=some (.cells #[.bool qv.value,.int .i64 qv.pick,.slice qv.a qv.n qv.c] 40 (0,0))/\b11 < y/\IsPr (mask W N) q qv/\Q q):=hR 11 (by simp) (by omega)
   have HS11:=hI hs11
   clear hs11
   have HS13:=hI (show W.heap[b11]?=some (.cells #[.bool V,.int .i64 (k:Int),.slice none 0 0] 40 (0,0)) from hR 13 (by simp) (by omega))
   have h14:vs 14=.pointer (some ⟨b11,2,none⟩):=hR 14 (by simp) (by omega)
   refine wpOp_lastG rfl ?_
   change wpList _ _ _ [⟨none,.store _ (.tmp 137) (.tmp 135),_,_,_,none⟩] _ _
   simp only[acts,dstAt,List.range,List.range.loop,List.foldl_cons,List.foldl_nil,h11,h14]
   go_simp
   have hW2:DeckAt w0 W bd/\Chg [bd,b11] v4 W:=⟨hW.1,hW.2.1⟩
   clear hR hW hLm h11 h14
   have HSX:=hI HS11.out
   have HSB:=hI HS13.out
   clear HS11 HS13 f0 f1 f2 f3 f4 f5 ff e0 ef g0 g1 g2 g3 g4 g5
   have HS9:=hI HSX.out
   have HXW:=hI hW2
   obtain⟨W3,hW3⟩:∃ W3,W3=W.setCell ⟨b11,2,none⟩ (.slice (some ⟨y,0,none⟩) 1 1):=⟨_,rfl⟩
   have hpw:W.heap[b11]?=some (.cells #[.bool V,.int .i64 (k:Int),.slice none 0 0] 40 (0,0)):=HSB.out
   have hc3:Chg [b11] W W3:=by rw[hW3];exact put_chg _ _ _ _
   have HP3:=hI (show W3.heap[b11]?=some (.cells #[.bool V,.int .i64 (k:Int),.slice (some ⟨y,0,none⟩) 1 1] 40 (0,0)) by rw[hW3];have:=put_blk (i:=2) hpw (.slice (some ⟨y,0,none⟩) 1 1);simpa using this)
   obtain⟨p0,p1,p2,pf'⟩:=blk3 hpw
   go_upto_region 22 with fail
   rw[<-hW3]
   clear hW3 p0 p1 p2 pf' hW2 hpw
   have HZ3:=hI (hc3.blk (HXW.out.2.blk HZ6.out HN8.out) (by have:=HLT.out;simp;omega))
   have HD3:=hI (HXW.out.1.chg hc3 (by have:=HLT.out;have:=HB6.out;simp;omega) (fun z hz=>by simp only[List.mem_singleton] at hz;have:=HLT.out;have:=HB6.out;have:=HW0.out;omega))
   have HC3:=hI ((HCX.out W HXW.out.2).trans hc3 (fun z hz=>by simp only[List.mem_singleton] at hz;have:=HLT.out;have:=HB6.out;exact Or.inr (by omega)))
   have HY3:=hI (hc3.blk HS9.out.1 (by have:=HS9.out.2.1;simp;omega))
   have HQ3:=hI (show IsPr (mask W3 ((b6+1+1)::M)) q qv from(HS9.out.2.2.1.mono (mask_chg hc3 (fun z hz=>by simp only[List.mem_singleton] at hz;rw[hz,HNE.out];simp))).mono (mask_less _ (fun z hz=>by rw[HNE.out];simp only[List.mem_cons] at hz ⊢;rcases hz with h|h<;>simp[h])))
   have HQQ:=hI HS9.out.2.2.2
   have hys:=HS9.out.2.1
   clear hc3
   obtain⟨p0,p1,p2,pf'⟩:=blk3 HP3.out
   have hz:W3.heap[b6+1+1]?=some (.cells #[.bool false,.int .i64 0,.slice none 0 0] 40 (0,0)):=HZ3.out
   obtain⟨r0,r1,r2,rf⟩:=blk3 hz
   have hltr:=blk_lt hz
   have HZ:=hI (dprove_fin (w:=w) (M:=M) (pv:=⟨V,(k:Int),some ⟨y,0,none⟩,1,1⟩) HZ3.out (by have:=HB6.out;omega) HW0.out (by have:=HB6.out;omega) HD3.out HC3.out
    (isPr_one (v:=qv) (t:=40) HY3.out (fun hm=>by
     have h1:=HLT.out;have h2:=HB6.out
     simp only[List.mem_cons] at hm
     rcases hm with hm|hm
     ·omega
     have:=HM.out _ hm;omega) HQ3.out V (k:Int)))
   simp only at HZ
   go_wp2_with fail
   obtain⟨wz,hwz⟩:∃ wz,wz=put3 W3 (b6+1+1) (.bool V) (.int .i64 (k:Int)) (.slice (some ⟨y,0,none⟩) 1 1):=⟨_,rfl⟩
   rw[<-hwz] at HZ
   unfold put3 at hwz
   rw[<-hwz]
   clear hwz
   obtain⟨z0,z1,z2,zf⟩:=blk3 HZ.out.1
   refine bodyPost_ret (v:=PrV.val ⟨V,(k:Int),some ⟨y,0,none⟩,1,1⟩) (by simp[results,Tryz.results17,go_sem,PrV.val,z0,z1,z2]) rfl ?_
   rw[HQD.out] at HQQ
   exact⟨_,_,rfl,⟨HQ.out k hka q HTT.out.symm HQQ.out.1,.mk (by simp) (fun x hx=>by simp only[List.mem_singleton] at hx;rw[hx];exact HQQ.out.2)⟩,HZ.out.2⟩
  have hne:k≠j0:=fun e=>by subst e;rw[HJV.out] at HTT;exact hTV HTT.out
  rw[show (T != V)=true by simp[hTV]]
  have HXW:=hI (HXR.out.trans hW2)
  replace f5:=hW2.cell f5
  clear f0 f1 f2 f3 f4 ff e0 ef p0 p1 p2 pf' hW2 g0 g1 g2 g3 g4 g5
  have hr:((k:Int)+1).tmod (na:Int)=(((k+1) % na:Nat):Int):=by
   rw[Int.tmod_eq_emod_of_nonneg (by omega)];norm_cast
  go_wp2_with fail
  go_roundw
  case rel=>exact⟨(k+1) % na,by first|rfl|(rw[hr])|(simp[hr])|(congr 1),(ring_near hk hjn hne).1,HXW.out⟩
  case measure => 
   have:=(ring_near hk hjn hne).2
   have hr2:(((k:Int)+1) % (na:Int)).toNat=(k+1) % na:=by
    have e:((k:Int)+1) % (na:Int)=(((k+1) % na:Nat):Int):=by norm_cast
    rw[e,Int.toNat_natCast]
   simpa [intOf,hr2] using this
theorem dproof_calls (s:List Attr) (l:List Cla) (f:ZI) (hc:Chk s l) (hfa:factsAll s f=true) (hsf:∀ x∈s,x.fits) (a:OA) (n c:Nat) (fa:OA) (fn fc:Nat) (sa:OA) (sn sc:Nat) (w0:World) (bd:Nat):∀ (g m:Nat) (e:Ex) (ev:Value) (M:ZN) (w:World),e.size<=m->m<=1000000->okTree e->nodesErr s l e=0->expF l g e<=2000->(∀ y∈M,y < w.heap.size)->DeckAt w0 w bd->DIn s l f bd sa sn sc a n c fa fn w->IsEx (mask w [bd]) e ev ->
  Calls Tryz.prog 17 #[.pointer (some ⟨bd,0,none⟩),.agg #[.slice sa sn sc],.slice a n c,ev,.slice fa fn fc] w (DPrQ (fun p=>prvF s l f g e p=true/\p.few 1000000) w0 bd M w):=by
 intro g
 induction g with
 | zero=>intro m e ev M w _ _ _ _ h;simp[expF] at h
 | succ g ihg =>
  intro m
  induction m with
  | zero=>intro e ev M w h;have:=size_pos e;omega
  | succ m ihm =>
   intro e ev M w hm hMM hok hnd hex hM hd hin he
   have hways:=node_kinds hc hok hnd
   have hfw:=fact_ways hok hnd
   have HTR:=fun W (hW:Chg [bd] w W)=>rTruth_calls s l f hc hfa hsf a n c fa fn fc (g+1) (m+1) e ev (.agg #[.slice sa sn sc]) W hm hMM hok hnd hex ((hin.chg hW).1.mono (mask_sub _ _)) ((hin.chg hW).2.1.mono (mask_sub _ _)) ((he.mono (mask_step hW (by simp))).mono (mask_sub _ _)) ((hin.chg hW).2.2.mono (mask_sub _ _))
   obtain⟨-,hnda⟩:=nodes_parts hnd
   obtain⟨hokn,hoka⟩:=okTree_parts hok
   have hexa:=expE_arg (D:=dOf l g) (e:=e) (by rw[<-expF_succ];exact hex)
   have hexh:=expE_hd (D:=dOf l g) (e:=e) (by rw[<-expF_succ];exact hex)
   have HTA:=fun (j:Nat) (hj:j < e.args.length) (xv:Value) W (hW:Chg [bd] w W) (hxv:IsEx (mask W [bd]) e.args[j] xv)=>rTruth_calls s l f hc hfa hsf a n c fa fn fc (g+1) m e.args[j] xv (.agg #[.slice sa sn sc]) W (by have h1:=sizes_take_succ e.args j hj;have h2:=sizes_take_le e.args (j+1);have h3:=e.size_eq;omega) (by omega) (hoka _ (List.getElem_mem hj)) (hnda j hj) (by rw[expF_succ];exact hexa j hj) ((hin.chg hW).1.mono (mask_sub _ _)) ((hin.chg hW).2.1.mono (mask_sub _ _)) (hxv.mono (mask_sub _ _)) ((hin.chg hW).2.2.mono (mask_sub _ _))
   have HARG:=fun (j:Nat) (hj:j < e.args.length) (xv:Value) (N:ZN) (W:World) (hW:Chg [bd] w W) (hN:∀ y∈N,y < W.heap.size) (hD:DeckAt w0 W bd) (hxv:IsEx (mask W [bd]) e.args[j] xv)=>ihm e.args[j] xv N W (by have h1:=sizes_take_succ e.args j hj;have h2:=sizes_take_le e.args (j+1);have h3:=e.size_eq;omega) (by omega) (hoka _ (List.getElem_mem hj)) (hnda j hj) (by rw[expF_succ];exact hexa j hj) hN hD (hin.chg hW) hxv
   have HDEF:=fun (h3:e.op=3) (d:Nat) (hdd:defAt l e.name=some d) (xv:Value) (N:ZN) (W:World) (hW:Chg [bd] w W) (hN:∀ y∈N,y < W.heap.size) (hD:DeckAt w0 W bd) (hxv:IsEx (mask W [bd]) (l.getD d cla0).cond xv)=>ihg 300 (l.getD d cla0).cond xv N W (hc.cond (defAt_atK hdd).1).2.2 (by omega) (hc.cond (defAt_atK hdd).1).1 (hc.cond (defAt_atK hdd).1).2.1 (hexh h3 (by unfold dOf;rw[hdd];rfl)) hN hD (hin.chg hW) hxv
   have hsl6:=(schema_attrs hc.sch).2.1
   have HIX:=fun W (hW:Chg [bd] w W)=>rIndex_calls s (.agg #[.slice sa sn sc]) e.name W ((hin.chg hW).1.mono (mask_sub _ _)) (by omega)
   obtain⟨aw,nw,cw,aa,na,ca,rfl,hw,hna,hca,ha,hx⟩:=he.parts
   have hna2:e.args.length<=1000000:=by have h1:=length_le_sizes e.args;have h3:=e.size_eq;omega
   obtain⟨op,name,words,lo,hi,args⟩:=e
   simp only[Ex.op,Ex.name,Ex.words,Ex.lo,Ex.hi,Ex.args] at *
   have hnl:=hin.2.1.len
   have hn100:n<=100:=by rw[hnl];exact hc.len
   have HI:∀ V,valF s l f (g+1) (.mk op name words lo hi args)=V->DprIn s l f g op name args lo hi V w0 w bd M a n c fa fn fc sa sn sc aw nw cw aa na ca:=fun V hV=>⟨by rw[<-hV];exact HTR,HTA,HARG,hM,hd,hx,hna,hna2⟩
   rcases hways with ⟨h6,hdn⟩|⟨rfl,hat,d,hdf⟩|⟨rfl,hl1⟩|rfl|rfl
   ·refine dpr_fact rfl h6 hdn (fun h3=>?_) HIX (HI _ rfl)
    subst h3
    rcases hfw h6 hdn with h|h|⟨-,h⟩|⟨h,-⟩|⟨h,-⟩
    ·omega
    ·omega
    ·exact h
    ·omega
    omega
   ·exact dpr_def rfl hdf (find_def hc hdf) hat hn100 HIX hin.2.1 (HDEF rfl d hdf) (HI _ rfl)
   ·exact dpr_not rfl hl1 (HI _ rfl)
   ·cases hv:valF s l f (g+1) (.mk 7 name words lo hi args)
    ·exact dpr_one (Or.inl ⟨rfl,rfl⟩) hv (HI _ hv)
    exact dpr_all (Or.inl ⟨rfl,rfl⟩) hv (HI _ hv)
   cases hv:valF s l f (g+1) (.mk 8 name words lo hi args)
   ·exact dpr_all (Or.inr ⟨rfl,rfl⟩) hv (HI _ hv)
   exact dpr_one (Or.inr ⟨rfl,rfl⟩) hv (HI _ hv)
def sch2:List Attr:=[⟨⟨#[97]⟩,3,[],0,0⟩,⟨⟨#[114,111,108,101]⟩,1,[⟨#[99,114,101,119]⟩,⟨#[103,117,101,115,116]⟩],0,0⟩,⟨⟨#[98]⟩,3,[],0,0⟩]
def SchIQ (l:List Attr) (w:World) (e:Ending) (w':World):Prop:=∃ v,e=.returned v/\IsSchema w' l v/\Ext w w'
theorem schIQ_mk {w W:World} {g n:Nat} {l:List Attr} (avs:List AttrV) {t:TypeId} (h:W.heap[g]?=some (.cells (avs.flatMap AttrV.cells).toArray t (0,0))) (hn:n=avs.length) (hl:avs.map (·.x)=l) (hs:∀ v∈avs,IsStrs W v.x.words v.a v.n v.c) (hx:Ext w W) :
  SchIQ l w (.returned (.agg #[.slice (some ⟨g,0,none⟩) n n])) W :=
 ⟨_,rfl,hl ▸ isSchema_block h hn hs,hx⟩
theorem within_at (x n r:Int) (w:World) (hn:0 < n) (hn2:n<=1000000000000000000) (hr:(x.tmod n+n).tmod n=r):Calls Tryz.prog 26 #[.int .i64 x,.int .i64 n] w (fun e w'=>e=.returned (.int .i64 r)/\w'=w):=by
 go_enter Tryz.func26,Tryz.ntmps26
 go_wp2_with fail
 go_ret
 have a1:=Int.tmod_lt_of_pos x hn
 have a5:=Int.lt_tmod_of_pos x hn
 rw[IntWalk.wrap64_in (x.tmod n+n) (by omega),hr]
 exact⟨rfl,rfl⟩
theorem schema2_calls (w:World):Calls Tryz.prog 27 #[.int .i64 2] w (SchIQ sch2 w):=by
 go_enter Tryz.func27,Tryz.ntmps27
 go_wp2_with fail
 refine(within_at 2 6 2 _ (by omega) (by omega) (by decide)).mono ?_
 rintro e w' ⟨rfl,rfl⟩
 go_wp2_with fail
 refine bodyPost_ret (v:=.agg #[.slice (some ⟨w.heap.size+2,0,none⟩) 3 3]) (by simp[results,Tryz.results27,go_sem]) rfl ?_
 refine schIQ_mk [⟨⟨⟨#[97]⟩,3,[],0,0⟩,none,0,0⟩,⟨⟨⟨#[114,111,108,101]⟩,1,[⟨#[99,114,101,119]⟩,⟨#[103,117,101,115,116]⟩],0,0⟩,some ⟨w.heap.size+1,0,none⟩,2,2⟩,⟨⟨⟨#[98]⟩,3,[],0,0⟩,none,0,0⟩] (t:=85) ?_ rfl rfl ?_ ((((Ext.refl _).alloc _).alloc _).alloc _)
 ·simpa [AttrV.cells] using alloc_new ((w.alloc (.cells #[.slice (some ⟨w.heap.size+2,0,none⟩) 3 3] 31)).alloc (.cells #[.string ⟨#[99,114,101,119]⟩,.string ⟨#[103,117,101,115,116]⟩] 9)) (.cells #[.string ⟨#[97]⟩,.int .i64 3,.slice none 0 0,.int .i64 0,.int .i64 0,.string ⟨#[114,111,108,101]⟩,.int .i64 1,.slice (some ⟨w.heap.size+1,0,none⟩) 2 2,.int .i64 0,.int .i64 0,.string ⟨#[98]⟩,.int .i64 3,.slice none 0 0,.int .i64 0,.int .i64 0] 85)
 intro v hv
 simp only[List.mem_cons,List.not_mem_nil,or_false] at hv
 rcases hv with rfl|rfl|rfl
 ·exact isStrs_nil _
 ·refine isStrs_block (t:=9) (blk_alloc ?_) rfl
  simpa using alloc_new (w.alloc (.cells #[.slice (some ⟨w.heap.size+2,0,none⟩) 3 3] 31)) (.cells #[.string ⟨#[99,114,101,119]⟩,.string ⟨#[103,117,101,115,116]⟩] 9)
 exact isStrs_nil _
theorem clausesErr_nil {s:List Attr} (h:schemaErr s=0):clausesErr s []=(0,0):=by
 unfold clausesErr
 rw[if_neg (by simpa using h),if_neg (by simp)]
 have h1:∀ g,firstI g ([]:List Cla).length=(0,0):=fun g=>rfl
 rw[h1,if_neg (by simp),if_neg (by
  rw[Classical.not_not]
  exact⟨[],List.nodup_nil,fun i=>⟨fun h=>by simp at h,fun h=>by have:=isDef_lt h;simp at this⟩,fun k i h=>by simp at h⟩)]
 exact h1 _
open Go.RowKit Go.Maps
def exA:Ex:=.mk 3 ⟨#[97]⟩ [] 0 0 []
def exB:Ex:=.mk 3 ⟨#[98]⟩ [] 0 0 []
def exAB:Ex:=.mk 8 ⟨#[]⟩ [] 0 0 [exA,exB]
theorem awk_err:evalErr sch2 [] exAB [0,0,1]=0:=by
 unfold evalErr
 rw[clausesErr_nil (by decide +kernel)]
 rw[if_neg (by decide),if_neg (by decide +kernel),if_neg (by decide +kernel),if_neg (by decide +kernel)]
theorem awk_pf:pf sch2 [] [0,0,1] exAB=.mk true 1 [.mk true (-1) []]:=by kernel_rfl
theorem exs_two {w:World} {g:Nat} {t:TypeId} {a b:Ex} {va vb:ExV} (h:w.heap[g]?=some (.cells (va.cells++vb.cells).toArray t (0,0))) (ha:IsEx w a va.val) (hb:IsEx w b vb.val):ExsD w [a,b] (some ⟨g,0,none⟩):=by
 refine ExsD.of [a,b] 0 [va,vb] rfl fun i h1 h2=>?_
 have hi:i=0\/i=1:=by simp at h1;omega
 rcases hi with rfl|rfl
 ·refine⟨fun j hj=>?_,ha⟩
  rw[blk_cell h]
  have h6:j < va.cells.length:=by simp[ExV.cells];omega
  simp[List.getElem?_append_left,h6]
 refine⟨fun j hj=>?_,hb⟩
 rw[blk_cell h]
 have e6:va.cells.length=6:=by simp[ExV.cells]
 simp[List.getElem?_append_right,e6,Nat.add_comm]
theorem in11_awk {w:World} {sv:Value} {xa:OA} {fa:OA} (hs:IsSchema w sch2 sv) (he:ExsD w [exA,exB] xa) (hx:OkAddr xa 2) (hi:IsIntF w [0,0,1] fa 3) (ho:HasOps w):In11 w sch2 [] exAB [0,0,1] sv (exV 8 ⟨#[]⟩ none 0 0 0 0 xa 2 2) none 0 0 fa 3 where
 sch:=hs
 sfit:=by
  intro x hx
  simp only[sch2,List.mem_cons,List.not_mem_nil,or_false] at hx
  rcases hx with rfl|rfl|rfl<;>refine⟨by decide,by simp,fun x hx=>?_⟩<;>simp at hx
  rcases hx with rfl|rfl<;>decide
 slen:=by simp[sch2]
 clas:=⟨[],⟨rfl,Nat.le_refl _,Or.inl ⟨rfl,rfl⟩,fun i h=>by simp at h⟩,rfl,fun i h=>by simp at h⟩
 cn:=by omega
 cfit:=by simp
 ex:=IsEx.mk (isStrs_nil _) rfl (Nat.le_refl _) hx he
 few:=by simp[exAB,exA,exB,Ex.few,fewAll]
 fit:=by simp[exAB,exA,exB,Ex.fits,fitsAll];decide
 slim:=by simp[exAB,exA,exB,Ex.slim,slimAll]
 ints:=hi
 fnl:=by omega
 ops:=ho
theorem awake11_calls (w:World) (ho:HasOps w):Calls Tryz.prog 11 #[] w (GivesE (.bool true) w):=by
 have HO:=hI ho
 clear ho
 go_enter Tryz.func11,Tryz.ntmps11
 go_wp2_with fail
 refine(schema2_calls w).mono ?_
 rintro r w1 ⟨sv,rfl,hs,hx1⟩
 obtain⟨sa,sn,sc,rfl,-⟩:=hs.slice
 have HS:=hI hs
 have HX1:=hI hx1
 clear hs hx1
 go_upto_region 2 with fail
 obtain⟨w2,hw2⟩:∃ w2,w2=w1.alloc (.cells #[.slice sa sn sc] 31):=⟨_,rfl⟩
 obtain⟨b1,hb1⟩:∃ b1:Nat,b1=w1.heap.size:=⟨_,rfl⟩
 have HX2:=hI (show Ext w1 w2 by rw[hw2];exact(Ext.refl _).alloc _)
 have HB1:=hI (show w2.heap[b1]?=some (.cells #[.slice sa sn sc] 31 (0,0)) by rw[hw2,hb1];exact alloc_new w1 _)
 rw[<-hw2,<-hb1]
 clear hw2 hb1
 go_upto_region 3 with fail
 obtain⟨w3,hw3⟩:∃ w3,w3=(w2.alloc (.cells #[.int .i64 3,.string ⟨#[97]⟩,.slice none 0 0,.int .i64 0,.int .i64 0,.slice none 0 0,.int .i64 3,.string ⟨#[98]⟩,.slice none 0 0,.int .i64 0,.int .i64 0,.slice none 0 0] 26)).alloc (.cells #[.int .i64 8,.string ⟨#[]⟩,.slice none 0 0,.int .i64 0,.int .i64 0,.slice (some ⟨w2.heap.size,0,none⟩) 2 2] 26):=⟨_,rfl⟩
 obtain⟨y,hy⟩:∃ y:Nat,y=w2.heap.size:=⟨_,rfl⟩
 have hx3:Ext w2 w3:=by rw[hw3];exact((Ext.refl _).alloc _).alloc _
 have HBR:=hI (show w3.heap[y]?=some (.cells #[.int .i64 3,.string ⟨#[97]⟩,.slice none 0 0,.int .i64 0,.int .i64 0,.slice none 0 0,.int .i64 3,.string ⟨#[98]⟩,.slice none 0 0,.int .i64 0,.int .i64 0,.slice none 0 0] 26 (0,0)) by rw[hw3,hy];exact blk_alloc (alloc_new w2 _))
 have HBE:=hI (show w3.heap[y+1]?=some (.cells #[.int .i64 8,.string ⟨#[]⟩,.slice none 0 0,.int .i64 0,.int .i64 0,.slice (some ⟨y,0,none⟩) 2 2] 26 (0,0)) by rw[hw3,hy];exact alloc_atR (by simp))
 rw[<-hw3,<-hy]
 have HX3:=hI (HX2.out.trans hx3)
 have HB13:=hI (hx3.blk HB1.out)
 clear hw3 hy hx3
 obtain⟨e0,ef⟩:=blk1 HB13.out
 obtain⟨f0,f1,f2,f3,f4,f5,ff⟩:=blk6 HBE.out
 obtain⟨w4,hw4⟩:∃ w4,w4=w3.alloc (.cells #[.int .i64 0,.int .i64 0,.int .i64 1] 3):=⟨_,rfl⟩
 have hx4:Ext w3 w4:=by rw[hw4];exact(Ext.refl _).alloc _
 have HBF:=hI (show w4.heap[w3.heap.size]?=some (.cells #[.int .i64 0,.int .i64 0,.int .i64 1] 3 (0,0)) by rw[hw4];exact alloc_new w3 _)
 have HPC:=hI (proved_calls sch2 [] exAB [0,0,1] (.agg #[.slice sa sn sc]) _ none 0 0 (some ⟨w3.heap.size,0,none⟩) 3 3 [] w4 (in11_awk (HS.out.ext ((HX3.out.trans hx4))) (exs_two (va:=xvN ⟨#[97]⟩) (vb:=xvN ⟨#[98]⟩) (hx4.blk HBR.out) (isEx_plain _ 3 0 0 _) (isEx_plain _ 3 0 0 _)) (Or.inr ⟨y,0,rfl⟩) ⟨rfl,fun i hi=>⟨w3.heap.size,0,rfl,by
  have hii:i=0\/i=1\/i=2:=by simp at hi;omega
  rcases hii with rfl|rfl|rfl<;>(rw[blk_cell HBF.out];rfl)⟩⟩ (HO.out.ext (HX1.out.trans (HX3.out.trans hx4)))) (by simp))
 unfold exV at HPC
 have HX4:=hI (HX1.out.trans (HX3.out.trans hx4))
 clear hx4
 go_wp2_with fail
 rw[<-hw4]
 clear hw4 e0 ef f0 f1 f2 f3 f4 f5 ff
 refine HPC.out.mono ?_
 rintro r w5 ⟨hx5,⟨hz,-⟩|⟨-,pv,rfl,hpv⟩⟩
 ·exact absurd awk_err hz
 rw[awk_pf] at hpv
 obtain⟨p1,p2,p3,-,-,p6⟩:=hpv.parts
 obtain⟨b,off,q,pa,hq,c0,c1,c2⟩:=p6 0 (by simp[Pr.args])
 have hq2:=hq.parts.2.1
 obtain⟨pb,pk,pa',pn,pc⟩:=pv
 simp only[Pr.value,Pr.pick,Pr.args,List.length_cons,List.length_nil,Nat.zero_add] at p1 p2 p3 pa hq2
 subst p1 p2 p3 pa
 simp only[Nat.zero_mul,Nat.add_zero] at c1
 rw[mask_cell,if_neg (by simp)] at c1
 simp only[List.getElem_cons_zero] at hq2
 rw[hq2] at c1
 have HX5:=hI (HX4.out.trans hx5)
 clear hx5 hpv p6 hq c0 c2 hq2 HPC
 unfold PrV.val
 have hltb:=block_lt c1
 simp only at hltb
 go_wp2_with fail
 go_ret
 exact givesE_bool rfl (HX5.out.alloc _)
def GrGW (wr:World) (_:ZN) (_:Nat->Value) (W:World):Prop:=Ext wr W
theorem deck_lowW {w0 w:World} {bd:Nat} (h:DeckAt w0 w bd):w0.heap.size<=bd:=by obtain⟨_,_,_,_,_,_,_,_,_,h⟩:=h;exact h
theorem sub_freshW {w W:World} {b:Nat} (h:Ext w W) (hb:w.heap.size<=b):Sub w (mask W [b]):=fun p v hp=>by
 have:=block_lt hp
 rw[mask_cell,if_neg (by simp;omega)]
 exact h.cell hp
theorem IsWorld.lnl {w:World} {s:List Attr} {l:List Cla} {x:Ex} {f:ZI} {v:WorldV} (h:IsWorld w s l x f v):v.ln<=6:=by
 obtain⟨vs,hr,hl,-⟩:=h.clas
 have:=h.len
 have:=hr.1
 omega
theorem IsWorld.in11 {w:World} {s:List Attr} {l:List Cla} {x:Ex} {f:ZI} {v:WorldV} (h:IsWorld w s l x f v) (ho:HasOps w) {e:Ex} {ev:Value} (he:IsEx w e ev) (h1:e.few) (h2:e.fits) (h3:e.slim) {g:ZI} {ga:OA} {gn:Nat} (hg:IsIntF w g ga gn) (hgn:gn<=1000000000000000):In11 w s l e g (.agg #[.slice v.sa v.sn v.sc]) ev v.la v.ln v.lc ga gn :=
 ⟨h.sch,attrs_fits h.mem,Nat.le_trans (schemas_ok s h.mem).2.2 (by omega),h.clas,by have:=h.lnl;omega,h.cfit,he,h1,h2,h3,hg,hgn,ho⟩
theorem IsWorld.own11 {w:World} {s:List Attr} {l:List Cla} {x:Ex} {f:ZI} {v:WorldV} (h:IsWorld w s l x f v) (ho:HasOps w):In11 w s l x f (.agg #[.slice v.sa v.sn v.sc]) v.x.val v.la v.ln v.lc v.fa v.fn :=
 h.in11 ho h.ex h.okay.few h.okay.fits (slim_of_size _ (by have:=h.okay.size;simp[bndS] at this;omega)) h.ints (by have:=h.fnl;omega)
theorem okNode_fits11 {e:Ex} (h:okNode e):e.name.size<=1000000000000000/\(∀ x∈e.words,x.size<=1000000000000000)/\e.words.length<=1000000000000000:=by
 have key:∀ {s:BA},nameB s=true->s.size<=1000000000000000:=fun h=>by have:=nameB_size h;omega
 have k0:∀ {s:BA},s=⟨#[]⟩->s.size<=1000000000000000:=fun h=>by subst h;decide
 have kw:∀ {l:ZB},l=[]->(∀ x∈l,x.size<=1000000000000000)/\l.length<=1000000000000000:=fun h=>by subst h;simp
 rcases h with ⟨h1,h2,h3,_⟩|⟨h1,h2,h3,_⟩|⟨h1,h2,h3,_⟩|⟨h1,h2,h3,_⟩|⟨h1,h2,h3,_⟩|⟨h1,h2,h3,_⟩|⟨h1,h2,h3,_⟩
 ·exact⟨k0 h2,kw h3⟩
 ·exact⟨k0 h2,kw h3⟩
 ·exact⟨key h2,kw h3⟩
 ·simp only[wordsB,Bool.and_eq_true,decide_eq_true_eq,List.all_eq_true] at h3
  exact⟨key h2,fun x hx=>key (h3.1.2 x hx),by have:=h3.1.1.2;omega⟩
 ·exact⟨key h2,kw h3⟩
 ·exact⟨k0 h2,kw h3⟩
 exact⟨k0 h2,kw h3⟩
theorem fits_mk11 {e:Ex} (h1:e.name.size<=1000000000000000) (h2:∀ x∈e.words,x.size<=1000000000000000) (h3:∀ x∈e.args,x.fits):e.fits:=by
 cases e with
 | mk op name words lo hi args =>
  unfold Ex.fits
  refine⟨h1,h2,?_⟩
  simp only[Ex.args] at h3
  clear h1 h2
  induction args with
  | nil=>unfold fitsAll;trivial
  | cons a r ih=>unfold fitsAll;exact⟨h3 a (by simp),ih (fun x hx=>h3 x (List.mem_cons_of_mem _ hx))⟩
theorem few_mk11 {e:Ex} (h2:e.words.length<=1000000000000000) (h3:∀ x∈e.args,x.few):e.few:=by
 cases e with
 | mk op name words lo hi args =>
  unfold Ex.few
  refine⟨h2,?_⟩
  simp only[Ex.args] at h3
  clear h2
  induction args with
  | nil=>unfold fewAll;trivial
  | cons a r ih=>unfold fewAll;exact⟨h3 a (by simp),ih (fun x hx=>h3 x (List.mem_cons_of_mem _ hx))⟩
theorem okTree_fits11 (m:Nat):∀ e:Ex,e.size<=m->okTree e->e.fits/\e.few:=by
 induction m with
 | zero=>intro e h;have:=e.size_eq;omega
 | succ m ih =>
  intro e hm hok
  obtain⟨hn,ha⟩:=okTree_parts hok
  obtain⟨h1,h2,h3⟩:=okNode_fits11 hn
  have hs:∀ x∈e.args,x.fits/\x.few:=fun x hx=>ih x (by have:=sizes_mem hx;have:=e.size_eq;omega) (ha x hx)
  exact⟨fits_mk11 h1 h2 (fun x hx=>(hs x hx).1),few_mk11 h3 (fun x hx=>(hs x hx).2)⟩
theorem tree_fits {e:Ex} (h:okTree e):e.fits:=(okTree_fits11 e.size e (Nat.le_refl _) h).1
theorem tree_few {e:Ex} (h:okTree e):e.few:=(okTree_fits11 e.size e (Nat.le_refl _) h).2
def GrEX (q k:Nat) (W W':World):Prop:=k≠q->Ext W W'
theorem IsWorld.dproof {w0 w:World} {bd:Nat} {s:List Attr} {l:List Cla} {x:Ex} {f:ZI} {v:WorldV} (hw:IsWorld (mask w [bd]) s l x f v) (hd:DeckAt w0 w bd) (M:ZN) (hM:∀ y∈M,y < w.heap.size) :
  Calls Tryz.prog 17 #[.pointer (some ⟨bd,0,none⟩),.agg #[.slice v.sa v.sn v.sc],.slice v.la v.ln v.lc,v.x.val,.slice v.fa v.fn v.fc] w (DPrQ (fun p=>prv s l f x p=true/\p.few 1000000) w0 bd M w) :=
 dproof_calls s l f hw.ok.chk hw.facts (attrs_fits hw.mem) v.la v.ln v.lc v.fa v.fn v.fc v.sa v.sn v.sc w0 bd (l.length+1) 300 x v.x.val M w hw.ok.size (by omega) hw.ok.tree hw.ok.node hw.ok.exp hM hd ⟨hw.sch,hw.clas,hw.ints⟩ hw.ex
theorem IsWorld.verify {W:World} {s:List Attr} {l:List Cla} {x:Ex} {f:ZI} {v:WorldV} (hw:IsWorld W s l x f v) (ho:HasOps W) {p:Pr} {pv:PrV} (hp:IsPr W p pv) :
  Calls Tryz.prog 18 #[.agg #[.slice v.sa v.sn v.sc],.slice v.la v.ln v.lc,v.x.val,.slice v.fa v.fn v.fc,pv.val] W (GivesE (.bool (prv s l f x p)) W):=by
 have:=verified_calls s l x f p pv _ _ _ _ v.lc _ _ v.fc W (hw.own11 ho) hp
 unfold verB at this
 rw[hw.ok.err,if_pos rfl] at this
 exact this
theorem few_mono {N N':Nat} (hN:N<=N') {p:Pr} (h:p.few N):p.few N':=by
 induction h with
 | mk hn _ ih=>exact .mk (Nat.le_trans hn hN) ih
theorem few_set {N:Nat} {v:Bool} {k:Int} {ps:List Pr} (hn:ps.length<=N) (h:∀ q∈ps,q.few N) {i:Nat} {q:Pr} (hq:q.few (N+1)):(Pr.mk v k (ps.set i q)).few (N+1) :=
 .mk (by simp;omega) fun x hx=>by
  rcases List.mem_or_eq_of_mem_set hx with hx|rfl
  ·exact few_mono (Nat.le_succ N) (h x hx)
  exact hq
theorem rows_news {w:World} {vs:List PrV} {a:OA} {n c:Nat} (h:IsRows w 3 PrV.cells vs a n c) (hn:0 < n):∃ b off,a=some ⟨b,off,none⟩/\∀ j (hj:j < (vs.flatMap PrV.cells).length),w.cell? ⟨b,off+j,none⟩=some (vs.flatMap PrV.cells)[j]:=by
 obtain⟨b,off,rfl,_⟩:=h.2.2.2 0 (by have:=h.1;omega)
 refine⟨b,off,rfl,fun j hj=>?_⟩
 have hlen:=length_flatMap_of PrV.cells 3 PrV.len vs
 have hi:j / 3 < vs.length:=by omega
 obtain⟨b',off',e3,hc⟩:=h.2.2.2 (j / 3) hi
 simp only[Option.some.injEq,Addr.mk.injEq,and_true] at e3
 obtain⟨rfl,rfl⟩:=e3
 have h6:=hc (j % 3) (by rw[PrV.len];omega)
 rw[show off+j / 3 * 3+j % 3=off+j by omega] at h6
 rw[h6]
 have:=flatMap_at PrV.cells 3 PrV.len vs (j / 3) hi (j % 3) (by rw[PrV.len];omega)
 rw[show j / 3 * 3+j % 3=j by omega,List.getElem?_eq_getElem hj] at this
 exact this.symm
theorem cells_onePr (xs:List PrV):∀ u∈xs.flatMap PrV.cells,u.oneCell'=true:=by
 intro u hu
 obtain⟨x,_,hx⟩:=List.mem_flatMap.1 hu
 simp only[PrV.cells,List.mem_cons,List.not_mem_nil,or_false] at hx
 rcases hx with rfl|rfl|rfl<;>rfl
def put3at (w:World) (B o:Nat) (x:PrV):World:=((w.setCell ⟨B,o,none⟩ (.bool x.value)).setCell ⟨B,o+1,none⟩ (.int .i64 x.pick)).setCell ⟨B,o+2,none⟩ (.slice x.a x.n x.c)
theorem put3at_chg (w:World) (B o:Nat) (x:PrV) {N:ZN} (h:B∈N):Chg N w (put3at w B o x):=by
 unfold put3at
 repeat (with_reducible (refine Chg.setCell ?_ ?_ _))
 exact Chg.refl _ _
 all_goals exact Or.inl h
theorem put3at_cell {w:World} {B o:Nat} {x:PrV} {c:Array Value} {t:TypeId} (h:w.heap[B]?=some (.cells c t (0,0))) (hs:o+3<=c.size) (j:Nat):(put3at w B o x).cell? ⟨B,j,none⟩=if o<=j/\j < o+3 then x.cells[j - o]? else c[j]?:=by
 have hb:(put3at w B o x).heap[B]?=some (.cells (((c.setIfInBounds o (.bool x.value)).setIfInBounds (o+1) (.int .i64 x.pick)).setIfInBounds (o+2) (.slice x.a x.n x.c)) t (0,0)):=by
  unfold put3at
  rw[heap_setCell_same _ _ _ _ _ _ (heap_setCell_same _ _ _ _ _ _ (heap_setCell_same _ _ _ _ _ _ h))]
 rw[blk_cell hb]
 simp only[Array.getElem?_setIfInBounds,Array.size_setIfInBounds]
 by_cases hj:o<=j/\j < o+3
 ·rw[if_pos hj]
  obtain⟨i,rfl⟩:∃ i,j=o+i:=⟨j - o,by omega⟩
  rw[Nat.add_sub_cancel_left]
  have hi:i=0\/i=1\/i=2:=by omega
  rcases hi with rfl|rfl|rfl
  all_goals simp[PrV.cells]
  all_goals omega
 rw[if_neg hj,if_neg (by omega),if_neg (by omega),if_neg (by omega)]
theorem sp_row {w w5 W6 W:World} {bd be B g kk n cap:Nat} {M:ZN} {l:List Pr} {xs:List PrV} {cur:Array Value} {q':Pr} {v':PrV} {t:TypeId}
  (hR:PrsR (mask w M) l xs) (hbM:bd∈M) (hxl:xs.length=n) (hgb:w5.heap[g]?=some (.cells cur t (0,0))) (hgc:∀ j,j < n * 3->cur[j]?=(xs.flatMap PrV.cells)[j]?) (hk3:kk * 3+3<=cur.size) (hkx:kk < xs.length)
  (hP:W6=put3at w5 g (kk * 3) v') (hcb:Chg [be] W6 W) (hc:Chg [bd] w w5) (hq':IsPr (mask w5 (([be,B,g]:ZN)++M)) q' v') (hbe:be=w.heap.size) (hB:B=w.heap.size+1) (hg:g≠be/\g≠B/\w.heap.size<=g/\g < w5.heap.size) (hM:∀ y∈M,y < w.heap.size) (hcap:n<=cap) (b:Bool) (k:Int) :
  IsPr (mask W (B::M)) (.mk b k (l.set kk q')) ⟨b,k,some ⟨g,0,none⟩,n,cap⟩:=by
 subst hbe hB
 obtain⟨hg1,hg2,hg4,hg5⟩:=hg
 have hPc:Chg [g] w5 W6:=by rw[hP];exact put3at_chg _ _ _ _ (by simp)
 have hPcell:=put3at_cell (x:=v') hgb hk3
 rw[<-hP] at hPcell
 have hgN:g∉(w.heap.size+1)::M:=fun h=>by
  simp only[List.mem_cons] at h
  rcases h with h|h
  ·omega
  have:=hM g h;omega
 refine .mk (xs.set kk v') ⟨by simp[hxl],hcap,Or.inr ⟨g,0,rfl⟩,fun i h2=>⟨g,0,rfl,fun j hj=>?_⟩⟩ (by simp[hR.1]) fun i h1 h2=>?_
 ·have hj3:j < 3:=by rw[PrV.len] at hj;exact hj
  have hi:i < xs.length:=by simpa using h2
  rw[mask_cell,if_neg hgN,hcb.cell' (by simp;omega) (by simp only;have:=hPc.size;omega),hPcell]
  by_cases hik:i=kk
  ·subst hik
   rw[if_pos (by omega)]
   simp only[List.getElem_set_self]
   rw[show 0+i * 3+j - i * 3=j by omega,List.getElem?_eq_getElem (by rw[PrV.len];exact hj3)]
  rw[if_neg (by omega)]
  simp only[List.getElem_set_ne (fun h=>hik (Eq.symm h))]
  rw[hgc (0+i * 3+j) (by omega)]
  have hq:=flatMap_at PrV.cells 3 PrV.len xs i hi j (by rw[PrV.len];exact hj3)
  rw[Nat.zero_add,hq]
 by_cases hik:i=kk
 ·subst hik
  simp only[List.getElem_set_self]
  refine hq'.mono (mask_sub_mask fun y hy hn=>?_)
  simp only[List.mem_cons,List.mem_append,not_or,List.not_mem_nil,or_false] at hn ⊢
  exact⟨⟨hn.1.2.1,hn.2⟩,(hcb.block y (Nat.lt_of_lt_of_le hy hPc.size) (by simpa using hn.1.1)).trans (hPc.block y hy (by simpa using hn.1.2.2))⟩
 simp only[List.getElem_set_ne (fun h=>hik (Eq.symm h))]
 refine(hR.2 i (by simpa using h1) (by simpa using h2)).mono (mask_sub_mask fun y hy hn=>?_)
 have h6:=hPc.size
 have h7:=hc.size
 have hyb:y∉[bd]:=fun h=>hn (by simp only[List.mem_singleton] at h;rw[h];exact hbM)
 simp only[List.mem_cons,not_or]
 exact⟨⟨by omega,hn⟩,(hcb.block y (by omega) (by simp;omega)).trans ((hPc.block y (by omega) (by simp;omega)).trans (hc.block y hy hyb))⟩
theorem prs_parts {w:World} {v:Bool} {k:Int} {ps:List Pr} {pv:PrV} (h:IsPr w (.mk v k ps) pv):∃ (vs:List PrV),pv=⟨v,k,pv.a,pv.n,pv.c⟩/\IsRows w 3 PrV.cells vs pv.a pv.n pv.c/\PrsR w ps vs:=by
 cases h with
 | mk vs hr hl h=>exact⟨vs,rfl,hr,hl.symm,h⟩
theorem sub_newM {w W:World} {bd:Nat} {M N:ZN} (h:Chg [bd] w W) (hb:bd∈M) (hn:∀ y∈N,w.heap.size<=y):Sub (mask w M) (mask W (N++M)):=mask_sub_mask fun k hk hm =>
 ⟨fun h'=>by
  rcases List.mem_append.1 h' with h'|h'
  ·have:=hn k h';omega
  exact hm h',h.block k hk (fun h'=>hm (by simp only[List.mem_singleton] at h';rw[h'];exact hb))⟩
theorem sub_spoil {w w2 W:World} {bd be:Nat} {M:ZN} (h:Chg [bd] w w2) (hc:Chg [be] w2 W) (hb:bd∈M) (_hM:∀ y∈M,y < w.heap.size) (hbe:be=w.heap.size):Sub (mask w M) (mask W ((be+1)::M)):=mask_sub_mask fun k hk hm =>
 ⟨fun h'=>by
  rcases List.mem_cons.1 h' with h'|h'
  ·omega
  exact hm h',(hc.block k (Nat.lt_of_lt_of_le hk h.size) (fun h'=>by simp only[List.mem_singleton] at h';omega)).trans (h.block k hk (fun h'=>hm (by simp only[List.mem_singleton] at h';rw[h'];exact hb)))⟩
theorem isPr_take {w:World} {v:Bool} {k:Int} {ps:List Pr} {xs:List PrV} {a:OA} {n c:Nat} (hr:IsRows w 3 PrV.cells xs a n c) (hp:PrsR w ps xs) {m:Nat} (hm:m<=n):IsPr w (.mk v k (ps.take m)) ⟨v,k,a,m,c⟩:=by
 refine .mk (xs.take m) ⟨by rw[List.length_take];have:=hr.1;omega,Nat.le_trans hm hr.2.1,hr.2.2.1,fun i hi=>?_⟩ (by rw[List.length_take,List.length_take,hp.1]) fun i h1 h2=>?_
 ·have h3:i < xs.length:=by rw[List.length_take] at hi;omega
  obtain⟨b,off,e,hc⟩:=hr.2.2.2 i h3
  refine⟨b,off,e,fun j hj=>?_⟩
  simp only[List.getElem_take] at hj ⊢
  exact hc j hj
 simp only[List.getElem_take]
 exact hp.2 i _ _
end Go.Proofs.YtpkljcgihobaiaaGreatDoor
