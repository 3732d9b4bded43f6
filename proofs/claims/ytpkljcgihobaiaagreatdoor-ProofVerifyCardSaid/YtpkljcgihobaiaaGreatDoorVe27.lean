/-
  Texts of the claim, joined: RPvN, RPvA, RPvO.
-/
import Derived.Test.YtpkljcgihobaiaaGreatDoorVe26
namespace Go.Proofs.YtpkljcgihobaiaaGreatDoor
set_option maxRecDepth 100000
set_option maxHeartbeats 32000000
open Go.RowKit
def rpv4F (b6:Nat) (sa:OA) (sn sc:Nat) (a:OA) (n c:Nat) (fa:OA) (fn fc:Nat) (_pb:Bool) (b off pc:Nat) (qb:Bool) (qk:Int) (qa:OA) (qn qc:Nat) (xb xo na ca:Nat) (x0:Int) (x1:BA) (aw1:OA) (nw1 cw1:Nat) (x5 x6:Int) (aa1:OA) (na1 ca1:Nat)  : Nat->Value->World->Prop
 | 0,u,_=>u=.pointer (some ⟨b6+1+1,1,none⟩)
 | 1,u,_=>u=.int .i64 (-1)
 | 2,u,_=>u=.bool true
 | 3,u,_=>u=.bool true
 | 4,u,_=>u=.pointer (some ⟨b6+1+1,2,none⟩)
 | 5,u,_=>u=.slice (some ⟨b,off,none⟩) 1 pc
 | 6,u,_=>u=.int .i64 1
 | 7,u,_=>u=.bool true
 | 8,u,_=>u=.bool true
 | 9,u,_=>u=.bool true
 | 10,u,_=>u=.agg #[.slice sa sn sc]
 | 11,u,_=>u=.slice a n c
 | 12,u,_=>u=.pointer (some ⟨b6+1,5,none⟩)
 | 13,u,_=>u=.slice (some ⟨xb,xo,none⟩) na ca
 | 14,u,_=>u=.pointer (some ⟨xb,xo,none⟩)
 | 15,u,_=>u=.agg #[.int .i64 x0,.string x1,.slice aw1 nw1 cw1,.int .i64 x5,.int .i64 x6,.slice aa1 na1 ca1]
 | 16,u,_=>u=.slice fa fn fc
 | 17,u,_=>u=.pointer (some ⟨b6+1+1,2,none⟩)
 | 18,u,_=>u=.slice (some ⟨b,off,none⟩) 1 pc
 | 19,u,_=>u=.pointer (some ⟨b,off,none⟩)
 | 20,u,_=>u=.agg #[.bool qb,.int .i64 qk,.slice qa qn qc]
 | 21,u,_=>u=.bool false
 | 22,u,_=>u=.bool false
 | 23,u,_=>u=.bool false
 | 24,u,_=>u=undef
 | 25,u,_=>u=undef
 | 26,u,_=>u=undef
 | 27,u,_=>u=undef
 | 28,u,_=>u=undef
 | 29,u,_=>u=undef
 | 30,u,_=>u=undef
 | 31,u,_=>u=undef
 | 32,u,_=>u=undef
 | 33,u,_=>u=.bool false
 | _,u,_=>u=.bool false
def rpv4T (b6:Nat) (sa:OA) (sn sc:Nat) (a:OA) (n c:Nat) (fa:OA) (fn fc:Nat) (pb:Bool) (b off pc:Nat) (qb:Bool) (qk:Int) (qa:OA) (qn qc:Nat) (xb xo na ca:Nat) (x0:Int) (x1:BA) (aw1:OA) (nw1 cw1:Nat) (x5 x6:Int) (aa1:OA) (na1 ca1:Nat)  : Nat->Value->World->Prop
 | 0,u,_=>u=.pointer (some ⟨b6+1+1,1,none⟩)
 | 1,u,_=>u=.int .i64 (-1)
 | 2,u,_=>u=.bool true
 | 3,u,_=>u=.bool true
 | 4,u,_=>u=.pointer (some ⟨b6+1+1,2,none⟩)
 | 5,u,_=>u=.slice (some ⟨b,off,none⟩) 1 pc
 | 6,u,_=>u=.int .i64 1
 | 7,u,_=>u=.bool true
 | 8,u,_=>u=.bool true
 | 9,u,_=>u=.bool true
 | 10,u,_=>u=.agg #[.slice sa sn sc]
 | 11,u,_=>u=.slice a n c
 | 12,u,_=>u=.pointer (some ⟨b6+1,5,none⟩)
 | 13,u,_=>u=.slice (some ⟨xb,xo,none⟩) na ca
 | 14,u,_=>u=.pointer (some ⟨xb,xo,none⟩)
 | 15,u,_=>u=.agg #[.int .i64 x0,.string x1,.slice aw1 nw1 cw1,.int .i64 x5,.int .i64 x6,.slice aa1 na1 ca1]
 | 16,u,_=>u=.slice fa fn fc
 | 17,u,_=>u=.pointer (some ⟨b6+1+1,2,none⟩)
 | 18,u,_=>u=.slice (some ⟨b,off,none⟩) 1 pc
 | 19,u,_=>u=.pointer (some ⟨b,off,none⟩)
 | 20,u,_=>u=.agg #[.bool qb,.int .i64 qk,.slice qa qn qc]
 | 21,u,_=>u=.bool true
 | 22,u,_=>u=.bool true
 | 23,u,_=>u=.bool true
 | 24,u,_=>u=.pointer (some ⟨b6+1+1,0,none⟩)
 | 25,u,_=>u=.bool pb
 | 26,u,_=>u=.pointer (some ⟨b6+1+1,2,none⟩)
 | 27,u,_=>u=.slice (some ⟨b,off,none⟩) 1 pc
 | 28,u,_=>u=.pointer (some ⟨b,off,none⟩)
 | 29,u,_=>u=.pointer (some ⟨b,off,none⟩)
 | 30,u,_=>u=.bool qb
 | 31,u,_=>u=.bool (!qb)
 | 32,u,_=>u=.bool (pb==!qb)
 | 33,u,_=>u=.bool (pb==!qb)
 | _,u,_=>u=.bool (pb==!qb)
theorem rpv_notC {s:List Attr} {l:List Cla} {f:ZI} {g:Nat} {name:BA} {words:ZB} {lo hi:Int} {args:List Ex} {w:World} {a:OA} {n c:Nat} {fa:OA} {fn fc:Nat} {sa:OA} {sn sc:Nat} {aw:OA} {nw cw:Nat} {aa:OA} {na ca:Nat} {p:Pr} {pb:Bool} {pk:Int} {pa:OA} {pn pc:Nat} (hl1:args.length=1) (h:RpvIn s l f g 6 name args lo hi w a n c fa fn fc sa sn sc aw nw cw aa na ca p pb pk pa pn pc) :
  Calls Tryz.prog 23 #[.agg #[.slice sa sn sc],.slice a n c,exV 6 name aw nw cw lo hi aa na ca,.slice fa fn fc,.agg #[.bool pb,.int .i64 pk,.slice pa pn pc]] w (GivesE (.bool (prvF s l f (g+1) (.mk 6 name words lo hi args) p)) w):=by
 obtain⟨a0,rfl⟩:=len_one hl1
 obtain⟨R,hR⟩:∃ R,R=prvF s l f (g+1) (.mk 6 name words lo hi [a0]) p:=⟨_,rfl⟩
 rw[<-hR]
 rw[rpv_not] at hR
 have HR:=hI hR
 clear hl1 hR
 have HIX:=hI h.ix
 have HARG:=hI h.arg
 have HX:=hI h.x
 have HNA:=hI h.na
 have HFE:=hI h.few
 have HP:=hI h.p
 clear h
 unfold exV at *
 obtain⟨wa,hwa⟩:∃ wa,wa=((w.alloc (.cells #[.slice sa sn sc] 31)).alloc (.cells #[.int .i64 6,.string name,.slice aw nw cw,.int .i64 lo,.int .i64 hi,.slice aa na ca] 26)).alloc (.cells #[.bool pb,.int .i64 pk,.slice pa pn pc] 40):=⟨_,rfl⟩
 have hxa:Ext w wa:=by rw[hwa];exact(((Ext.refl _).alloc _).alloc _).alloc _
 obtain⟨b6,hb6⟩:∃ b6:Nat,b6=w.heap.size:=⟨_,rfl⟩
 have hb0:wa.heap[b6]?=some (.cells #[.slice sa sn sc] 31 (0,0)):=by rw[hwa,hb6];exact blk_alloc (blk_alloc (alloc_new w _))
 have hb1:wa.heap[b6+1]?=some (.cells #[.int .i64 6,.string name,.slice aw nw cw,.int .i64 lo,.int .i64 hi,.slice aa na ca] 26 (0,0)):=by rw[hwa,hb6];exact blk_alloc (alloc_atR (by simp))
 have hb2:wa.heap[b6+1+1]?=some (.cells #[.bool pb,.int .i64 pk,.slice pa pn pc] 40 (0,0)):=by rw[hwa,hb6];exact alloc_atR (by simp)
 have HXA:=hI hxa
 have HB0:=hI hb0
 have HB1:=hI hb1
 have HB2:=hI hb2
 go_enter Tryz.func23,Tryz.ntmps23
 go_upto_region 1 with fail
 rw[<-hwa,<-hb6]
 clear hwa hb6
 obtain⟨f0,f1,f2,f3,f4,f5,ff⟩:=blk6 hb1
 obtain⟨e0,ef⟩:=blk1 hb0
 clear hxa hb0 hb1 hb2
 go_wp2_with fail
 refine(HIX.out wa HXA.out).mono ?_
 rintro r w2 ⟨rfl,hx2⟩
 have HX2:=hI (HXA.out.trans hx2)
 have HS2:=hI (hx2.blk HB0.out)
 have HE2:=hI (hx2.blk HB1.out)
 have HP2:=hI (hx2.blk HB2.out)
 clear hx2 f0 f1 f2 f3 f4 f5 ff e0 ef HB0 HB1 HB2 HXA HIX
 unfold optV
 obtain⟨i0,hi0⟩:∃ i0:Int,i0=(((attrAt s name).getD 0:Nat):Int):=⟨_,rfl⟩
 obtain⟨is0,his0⟩:∃ b,b=(attrAt s name).isSome:=⟨_,rfl⟩
 rw[<-hi0,<-his0]
 clear hi0 his0
 obtain⟨f0,f1,f2,f3,f4,f5,ff⟩:=blk6 HE2.out
 obtain⟨e0,ef⟩:=blk1 HS2.out
 obtain⟨r0,r1,r2,rf⟩:=blk3 HP2.out
 by_cases hk:pk = -1
 case neg =>
  have t1:(pk == -1)=false:=by simp[hk]
  have HQ:=hI (show R=false by rw[HR.out];unfold singB;rw[<-HP.out.parts.2.1];simp[hk])
  clear hk
  go_upto_region 4 with fail
  go_quiet (fail)
  go_wp2_with fail
  go_ret
  exact givesE_bool (by rw[HQ.out]) (HX2.out.drewN _)
 subst hk
 by_cases hn:pn=1
 case neg =>
  have t1:((pn:Int)==1)=false:=by simp;omega
  have HQ:=hI (show R=false by rw[HR.out];unfold singB;have:=HP.out.parts.2.2.1;simp only at this;rw[show decide (p.args.length=1)=false from decide_eq_false (by omega)];simp)
  clear hn
  go_upto_region 4 with fail
  go_quiet (fail)
  go_wp2_with fail
  go_ret
  exact givesE_bool (by rw[HQ.out]) (HX2.out.drewN _)
 subst hn
 obtain⟨b,off,qv,hpa,hq,m0,m1,m2⟩:=HP.out.parts.2.2.2.2.2 0 (by have:=HP.out.parts.2.2.1;simp only at this;omega)
 simp only at hpa
 subst hpa
 simp only[Nat.zero_mul,Nat.add_zero] at m0 m1 m2
 have c0:=HX2.out.cell m0
 have c1:=HX2.out.cell m1
 have c2:=HX2.out.cell m2
 obtain⟨q1,hq1⟩:∃ q1,p.args=[q1]:=len_one (by have:=HP.out.parts.2.2.1;simp only at this;omega)
 simp only[hq1,List.getElem_cons_zero] at hq
 have HQ1:=hI hq1
 have HPQ:=hI hq
 have HPB:=hI (show pb=p.value from HP.out.parts.1)
 have HPK:=hI (show (-1:Int)=p.pick from HP.out.parts.2.1)
 have HQB:=hI (show qv.value=q1.value from hq.parts.1)
 clear hq1 hq m0 m1 m2
 obtain⟨qb,qk,qa,qn,qc⟩:=qv
 simp only at HQB c0 c1 c2
 have hnp:0 < na:=by have:=HNA.out;simp at this;omega
 obtain⟨xb,xo,rfl,aw1,nw1,cw1,aa1,na1,ca1,g0,g1,g2,g3,g4,g5,m6⟩:=ExsD.at [a0] _ (ExsD.ext HX2.out [a0] _ HX.out) 0 (by simp)
 simp only[Nat.zero_mul,Nat.add_zero,List.getElem_cons_zero] at g0 g1 g2 g3 g4 g5 m6
 have M6:=hI m6
 have hHPA:=fun W (hW:Ext w2 W)=>HARG.out 0 (by simp) _ q1 ⟨qb,qk,qa,qn,qc⟩ W (HX2.out.trans hW) (M6.out.ext hW) (HPQ.out.ext (HX2.out.trans hW))
 simp only[List.getElem_cons_zero] at hHPA
 obtain⟨B,hB⟩:∃ B,B=prvF s l f (g+1) a0 q1:=⟨_,rfl⟩
 rw[<-hB] at hHPA
 have HBE:=hI hB
 unfold PrV.val exV at hHPA
 have HPA:=hI hHPA
 obtain⟨x0,hx0⟩:∃ x0,x0=a0.op:=⟨_,rfl⟩
 obtain⟨x1,hx1⟩:∃ x1,x1=a0.name:=⟨_,rfl⟩
 obtain⟨x5,hx5⟩:∃ x5,x5=a0.lo:=⟨_,rfl⟩
 obtain⟨x6,hx6⟩:∃ x6,x6=a0.hi:=⟨_,rfl⟩
 rw[<-hx0] at g0 HPA
 rw[<-hx1] at g1 HPA
 rw[<-hx5] at g3 HPA
 rw[<-hx6] at g4 HPA
 clear hB m6 hHPA hx0 hx1 hx5 hx6 HARG
 go_upto_region 4 with fail
 cases B
 ·have HF:=hI (show R=false by rw[HR.out];unfold singB;rw[HQ1.out];simp only[List.all_cons,List.all_nil,<-HBE.out];simp)
  refine wp_region_growS (n:=241) (m:=35) [34] (GrGS w2) GrE (GrP (rpv4F b6 sa sn sc a n c fa fn fc pb b off pc qb qk qa qn qc xb xo na ca x0 x1 aw1 nw1 cw1 x5 x6 aa1 na1 ca1 )) (by kernel_rfl) (by kernel_rfl) (Nat.le_of_ble_eq_true rfl) (fun i=>[24,25,26,27,28,29,30,31,32].contains i) ?sg ?gd ?sk ((Ext.refl w2).drew) ?_ ?_ ?_
  case sg =>
   intro i o hi hs ho
   have hi':i=0\/i=1\/i=2\/i=3\/i=4\/i=5\/i=6\/i=7\/i=8\/i=9\/i=10\/i=11\/i=12\/i=13\/i=14\/i=15\/i=16\/i=17\/i=18\/i=19\/i=20\/i=21\/i=22\/i=23\/i=24\/i=25\/i=26\/i=27\/i=28\/i=29\/i=30\/i=31\/i=32\/i=33\/i=34:=by omega
   rcases hi' with rfl|rfl|rfl|rfl|rfl|rfl|rfl|rfl|rfl|rfl|rfl|rfl|rfl|rfl|rfl|rfl|rfl|rfl|rfl|rfl|rfl|rfl|rfl|rfl|rfl|rfl|rfl|rfl|rfl|rfl|rfl|rfl|rfl|rfl|rfl<;>(cases ho;first|(exact absurd hs (by decide);done)|exact nofun)
  case gd =>
   intro i o j b hi ho hg
   have hi':i=0\/i=1\/i=2\/i=3\/i=4\/i=5\/i=6\/i=7\/i=8\/i=9\/i=10\/i=11\/i=12\/i=13\/i=14\/i=15\/i=16\/i=17\/i=18\/i=19\/i=20\/i=21\/i=22\/i=23\/i=24\/i=25\/i=26\/i=27\/i=28\/i=29\/i=30\/i=31\/i=32\/i=33\/i=34:=by omega
   rcases hi' with rfl|rfl|rfl|rfl|rfl|rfl|rfl|rfl|rfl|rfl|rfl|rfl|rfl|rfl|rfl|rfl|rfl|rfl|rfl|rfl|rfl|rfl|rfl|rfl|rfl|rfl|rfl|rfl|rfl|rfl|rfl|rfl|rfl|rfl|rfl<;>(cases ho;first|(cases hg;done)|(cases hg;intro v W h;first|(rw[if_neg (by decide)];exact h)|(rw[if_pos (by decide)];intro e;first|(rw[show v=.bool false from h] at e;cases e;done)|(rw[show v=.bool true from h] at e;cases e;done)|(rw[show v=undef from h] at e;cases e;done))))
  case sk =>
   intro i hi hs L vs W hiL hG
   have hi':i=0\/i=1\/i=2\/i=3\/i=4\/i=5\/i=6\/i=7\/i=8\/i=9\/i=10\/i=11\/i=12\/i=13\/i=14\/i=15\/i=16\/i=17\/i=18\/i=19\/i=20\/i=21\/i=22\/i=23\/i=24\/i=25\/i=26\/i=27\/i=28\/i=29\/i=30\/i=31\/i=32\/i=33\/i=34:=by omega
   rcases hi' with rfl|rfl|rfl|rfl|rfl|rfl|rfl|rfl|rfl|rfl|rfl|rfl|rfl|rfl|rfl|rfl|rfl|rfl|rfl|rfl|rfl|rfl|rfl|rfl|rfl|rfl|rfl|rfl|rfl|rfl|rfl|rfl|rfl|rfl|rfl<;>first|(exact absurd hs (by decide);done)|exact⟨Ext.refl W,hG,rfl⟩
  ·intro i k v W W' hi hk hne hout h hE
   have hE:Ext W W':=hE
   have hi':i=0\/i=1\/i=2\/i=3\/i=4\/i=5\/i=6\/i=7\/i=8\/i=9\/i=10\/i=11\/i=12\/i=13\/i=14\/i=15\/i=16\/i=17\/i=18\/i=19\/i=20\/i=21\/i=22\/i=23\/i=24\/i=25\/i=26\/i=27\/i=28\/i=29\/i=30\/i=31\/i=32\/i=33\/i=34:=by omega
   clear hi hk hne hout
   rcases hi' with rfl|rfl|rfl|rfl|rfl|rfl|rfl|rfl|rfl|rfl|rfl|rfl|rfl|rfl|rfl|rfl|rfl|rfl|rfl|rfl|rfl|rfl|rfl|rfl|rfl|rfl|rfl|rfl|rfl|rfl|rfl|rfl|rfl|rfl|rfl
   ·exact h
   ·exact h
   ·exact h
   ·exact h
   ·exact h
   ·exact h
   ·exact h
   ·exact h
   ·exact h
   ·exact h
   ·exact h
   ·exact h
   ·exact h
   ·exact h
   ·exact h
   ·exact h
   ·exact h
   ·exact h
   ·exact h
   ·exact h
   ·exact h
   ·exact h
   ·exact h
   ·exact h
   ·exact h
   ·exact h
   ·exact h
   ·exact h
   ·exact h
   ·exact h
   ·exact h
   ·exact h
   ·exact h
   ·exact h
   exact h
  ·intro q op hq hsq ho L vs W hqL hcL hW hd ρ hρ
   have hq':q=0\/q=1\/q=2\/q=3\/q=4\/q=5\/q=6\/q=7\/q=8\/q=9\/q=10\/q=11\/q=12\/q=13\/q=14\/q=15\/q=16\/q=17\/q=18\/q=19\/q=20\/q=21\/q=22\/q=23\/q=24\/q=25\/q=26\/q=27\/q=28\/q=29\/q=30\/q=31\/q=32\/q=33\/q=34:=by omega
   clear hq
   have o9:ρ (.tmp 9)=.pointer (some ⟨b6+1+1,0,none⟩):=hρ.out 9 rfl
   have i0:=hρ.i 0 27
   have i1:=hρ.i 1 28
   have i2:=hρ.i 2 29
   have i4:=hρ.i 4 31
   have i5:=hρ.i 5 32
   have i6:=hρ.i 6 33
   have i3:=hρ.i 3 30
   have i7:=hρ.i 7 34
   have i8:=hρ.i 8 35
   have o5:ρ (.tmp 5)=.pointer (some ⟨b6,0,none⟩):=hρ.out 5 rfl
   have o1:ρ (.tmp 1)=.slice a n c:=hρ.out 1 rfl
   have o7:ρ (.tmp 7)=.pointer (some ⟨b6+1,0,none⟩):=hρ.out 7 rfl
   have i12:=hρ.i 12 39
   have i13:=hρ.i 13 40
   have i14:=hρ.i 14 41
   have o3:ρ (.tmp 3)=.slice fa fn fc:=hρ.out 3 rfl
   have i17:=hρ.i 17 44
   have i18:=hρ.i 18 45
   have i19:=hρ.i 19 46
   have i10:=hρ.i 10 37
   have i11:=hρ.i 11 38
   have i15:=hρ.i 15 42
   have i16:=hρ.i 16 43
   have i20:=hρ.i 20 47
   have i9:=hρ.i 9 36
   have i21:=hρ.i 21 48
   have i22:=hρ.i 22 49
   have i24:=hρ.i 24 51
   have i26:=hρ.i 26 53
   have i27:=hρ.i 27 54
   have i28:=hρ.i 28 55
   have i29:=hρ.i 29 56
   have i30:=hρ.i 30 57
   have i25:=hρ.i 25 52
   have i31:=hρ.i 31 58
   have i23:=hρ.i 23 50
   have i32:=hρ.i 32 59
   have i33:=hρ.i 33 60
   have hc:=hρ.const
   have hfn:=hρ.func
   clear hρ
   have HG:=hI hW
   have HW:=hI (show Ext w2 W from hW)
   have HQL:=hI hqL
   clear hW hqL hcL
   have kf0:=HW.out.cell e0
   have kf1:=HW.out.cell f5
   have kf2:=HW.out.cell r1
   have kf3:=HW.out.cell r2
   have kf4:=HW.out.cell g0
   have kf5:=HW.out.cell g1
   have kf6:=HW.out.cell g2
   have kf7:=HW.out.cell g3
   have kf8:=HW.out.cell g4
   have kf9:=HW.out.cell g5
   have kf10:=HW.out.cell c0
   have kf11:=HW.out.cell c1
   have kf12:=HW.out.cell c2
   by_cases hs21:q=21
   ·subst hs21
    clear hq'
    clear hsq
    cases ho
    have h10:vs 10=_:=hd ⟨10,.data⟩ (by simp) rfl
    rw[h10] at i10
    have h11:vs 11=_:=hd ⟨11,.data⟩ (by simp) rfl
    rw[h11] at i11
    have h15:vs 15=_:=hd ⟨15,.data⟩ (by simp) rfl
    rw[h15] at i15
    have h16:vs 16=_:=hd ⟨16,.data⟩ (by simp) rfl
    rw[h16] at i16
    have h20:vs 20=_:=hd ⟨20,.data⟩ (by simp) rfl
    rw[h20] at i20
    clear hd
    unfold GivesOp
    go_simp
    refine(HPA.out W HW.out).mono ?_
    rintro e5 w5 ⟨rfl,hx5⟩
    exact⟨_,rfl,hx5,HW.out.trans hx5,rfl⟩
   rcases hq' with rfl|rfl|rfl|rfl|rfl|rfl|rfl|rfl|rfl|rfl|rfl|rfl|rfl|rfl|rfl|rfl|rfl|rfl|rfl|rfl|rfl|rfl|rfl|rfl|rfl|rfl|rfl|rfl|rfl|rfl|rfl|rfl|rfl|rfl|rfl
   all_goals first|(exact absurd rfl hs21;done)|(exact absurd hsq (by decide);done)|skip
   all_goals
    cases ho
    simp[isDataG,GrP,rpv4F] at hd
    clear hs21 hsq
    unfold GivesOp
    go_simp
    exact⟨Ext.refl _,HW.out,rfl⟩
  intro L vs W hLm hW hR
  rw[if_pos (by decide +kernel)]
  have h34:vs 34=.bool false:=hR 34 (by simp) (by omega)
  simp only[acts,dstAt,List.range,List.range.loop,List.foldl_cons,List.foldl_nil,h34]
  go_simp
  have hW2:Ext w2 W:=hW
  clear hR hW hLm h34
  go_wp2_with fail
  go_ret
  exact givesE_bool (by rw[HF.out]) (HX2.out.trans hW2)
 have HF:=hI (show R=(pb==!qb) by rw[HR.out];unfold singB;rw[HQ1.out,<-HPK.out];simp only[List.all_cons,List.all_nil,<-HBE.out,List.length_singleton];rw[<-HPB.out,<-HQB.out];cases pb<;>cases qb<;>rfl)
 refine wp_region_growS (n:=241) (m:=35) [34] (GrGS w2) GrE (GrP (rpv4T b6 sa sn sc a n c fa fn fc pb b off pc qb qk qa qn qc xb xo na ca x0 x1 aw1 nw1 cw1 x5 x6 aa1 na1 ca1 )) (by kernel_rfl) (by kernel_rfl) (Nat.le_of_ble_eq_true rfl) (fun i=>[].contains i) ?sg ?gd ?sk ((Ext.refl w2).drew) ?_ ?_ ?_
 case sg =>
  intro i o hi hs ho
  have hi':i=0\/i=1\/i=2\/i=3\/i=4\/i=5\/i=6\/i=7\/i=8\/i=9\/i=10\/i=11\/i=12\/i=13\/i=14\/i=15\/i=16\/i=17\/i=18\/i=19\/i=20\/i=21\/i=22\/i=23\/i=24\/i=25\/i=26\/i=27\/i=28\/i=29\/i=30\/i=31\/i=32\/i=33\/i=34:=by omega
  rcases hi' with rfl|rfl|rfl|rfl|rfl|rfl|rfl|rfl|rfl|rfl|rfl|rfl|rfl|rfl|rfl|rfl|rfl|rfl|rfl|rfl|rfl|rfl|rfl|rfl|rfl|rfl|rfl|rfl|rfl|rfl|rfl|rfl|rfl|rfl|rfl<;>(cases ho;first|(exact absurd hs (by decide);done)|exact nofun)
 case gd =>
  intro i o j b hi ho hg
  have hi':i=0\/i=1\/i=2\/i=3\/i=4\/i=5\/i=6\/i=7\/i=8\/i=9\/i=10\/i=11\/i=12\/i=13\/i=14\/i=15\/i=16\/i=17\/i=18\/i=19\/i=20\/i=21\/i=22\/i=23\/i=24\/i=25\/i=26\/i=27\/i=28\/i=29\/i=30\/i=31\/i=32\/i=33\/i=34:=by omega
  rcases hi' with rfl|rfl|rfl|rfl|rfl|rfl|rfl|rfl|rfl|rfl|rfl|rfl|rfl|rfl|rfl|rfl|rfl|rfl|rfl|rfl|rfl|rfl|rfl|rfl|rfl|rfl|rfl|rfl|rfl|rfl|rfl|rfl|rfl|rfl|rfl<;>(cases ho;first|(cases hg;done)|(cases hg;intro v W h;first|(rw[if_neg (by decide)];exact h)|(rw[if_pos (by decide)];intro e;first|(rw[show v=.bool false from h] at e;cases e;done)|(rw[show v=.bool true from h] at e;cases e;done)|(rw[show v=undef from h] at e;cases e;done))))
 case sk =>
  intro i hi hs L vs W hiL hG
  have hi':i=0\/i=1\/i=2\/i=3\/i=4\/i=5\/i=6\/i=7\/i=8\/i=9\/i=10\/i=11\/i=12\/i=13\/i=14\/i=15\/i=16\/i=17\/i=18\/i=19\/i=20\/i=21\/i=22\/i=23\/i=24\/i=25\/i=26\/i=27\/i=28\/i=29\/i=30\/i=31\/i=32\/i=33\/i=34:=by omega
  rcases hi' with rfl|rfl|rfl|rfl|rfl|rfl|rfl|rfl|rfl|rfl|rfl|rfl|rfl|rfl|rfl|rfl|rfl|rfl|rfl|rfl|rfl|rfl|rfl|rfl|rfl|rfl|rfl|rfl|rfl|rfl|rfl|rfl|rfl|rfl|rfl<;>first|(exact absurd hs (by decide);done)|exact⟨Ext.refl W,hG,rfl⟩
 ·intro i k v W W' hi hk hne hout h hE
  have hE:Ext W W':=hE
  have hi':i=0\/i=1\/i=2\/i=3\/i=4\/i=5\/i=6\/i=7\/i=8\/i=9\/i=10\/i=11\/i=12\/i=13\/i=14\/i=15\/i=16\/i=17\/i=18\/i=19\/i=20\/i=21\/i=22\/i=23\/i=24\/i=25\/i=26\/i=27\/i=28\/i=29\/i=30\/i=31\/i=32\/i=33\/i=34:=by omega
  clear hi hk hne hout
  rcases hi' with rfl|rfl|rfl|rfl|rfl|rfl|rfl|rfl|rfl|rfl|rfl|rfl|rfl|rfl|rfl|rfl|rfl|rfl|rfl|rfl|rfl|rfl|rfl|rfl|rfl|rfl|rfl|rfl|rfl|rfl|rfl|rfl|rfl|rfl|rfl
  ·exact h
  ·exact h
  ·exact h
  ·exact h
  ·exact h
  ·exact h
  ·exact h
  ·exact h
  ·exact h
  ·exact h
  ·exact h
  ·exact h
  ·exact h
  ·exact h
  ·exact h
  ·exact h
  ·exact h
  ·exact h
  ·exact h
  ·exact h
  ·exact h
  ·exact h
  ·exact h
  ·exact h
  ·exact h
  ·exact h
  ·exact h
  ·exact h
  ·exact h
  ·exact h
  ·exact h
  ·exact h
  ·exact h
  ·exact h
  exact h
 ·intro q op hq hsq ho L vs W hqL hcL hW hd ρ hρ
  have hq':q=0\/q=1\/q=2\/q=3\/q=4\/q=5\/q=6\/q=7\/q=8\/q=9\/q=10\/q=11\/q=12\/q=13\/q=14\/q=15\/q=16\/q=17\/q=18\/q=19\/q=20\/q=21\/q=22\/q=23\/q=24\/q=25\/q=26\/q=27\/q=28\/q=29\/q=30\/q=31\/q=32\/q=33\/q=34:=by omega
  clear hq
  have o9:ρ (.tmp 9)=.pointer (some ⟨b6+1+1,0,none⟩):=hρ.out 9 rfl
  have i0:=hρ.i 0 27
  have i1:=hρ.i 1 28
  have i2:=hρ.i 2 29
  have i4:=hρ.i 4 31
  have i5:=hρ.i 5 32
  have i6:=hρ.i 6 33
  have i3:=hρ.i 3 30
  have i7:=hρ.i 7 34
  have i8:=hρ.i 8 35
  have o5:ρ (.tmp 5)=.pointer (some ⟨b6,0,none⟩):=hρ.out 5 rfl
  have o1:ρ (.tmp 1)=.slice a n c:=hρ.out 1 rfl
  have o7:ρ (.tmp 7)=.pointer (some ⟨b6+1,0,none⟩):=hρ.out 7 rfl
  have i12:=hρ.i 12 39
  have i13:=hρ.i 13 40
  have i14:=hρ.i 14 41
  have o3:ρ (.tmp 3)=.slice fa fn fc:=hρ.out 3 rfl
  have i17:=hρ.i 17 44
  have i18:=hρ.i 18 45
  have i19:=hρ.i 19 46
  have i10:=hρ.i 10 37
  have i11:=hρ.i 11 38
  have i15:=hρ.i 15 42
  have i16:=hρ.i 16 43
  have i20:=hρ.i 20 47
  have i9:=hρ.i 9 36
  have i21:=hρ.i 21 48
  have i22:=hρ.i 22 49
  have i24:=hρ.i 24 51
  have i26:=hρ.i 26 53
  have i27:=hρ.i 27 54
  have i28:=hρ.i 28 55
  have i29:=hρ.i 29 56
  have i30:=hρ.i 30 57
  have i25:=hρ.i 25 52
  have i31:=hρ.i 31 58
  have i23:=hρ.i 23 50
  have i32:=hρ.i 32 59
  have i33:=hρ.i 33 60
  have hc:=hρ.const
  have hfn:=hρ.func
  clear hρ
  have HG:=hI hW
  have HW:=hI (show Ext w2 W from hW)
  have HQL:=hI hqL
  clear hW hqL hcL
  have kf0:=HW.out.cell e0
  have kf1:=HW.out.cell f5
  have kf2:=HW.out.cell r0
  have kf3:=HW.out.cell r1
  have kf4:=HW.out.cell r2
  have kf5:=HW.out.cell g0
  have kf6:=HW.out.cell g1
  have kf7:=HW.out.cell g2
  have kf8:=HW.out.cell g3
  have kf9:=HW.out.cell g4
  have kf10:=HW.out.cell g5
  have kf11:=HW.out.cell c0
  have kf12:=HW.out.cell c1
  have kf13:=HW.out.cell c2
  by_cases hs21:q=21
  ·subst hs21
   clear hq'
   clear hsq
   cases ho
   have h10:vs 10=_:=hd ⟨10,.data⟩ (by simp) rfl
   rw[h10] at i10
   have h11:vs 11=_:=hd ⟨11,.data⟩ (by simp) rfl
   rw[h11] at i11
   have h15:vs 15=_:=hd ⟨15,.data⟩ (by simp) rfl
   rw[h15] at i15
   have h16:vs 16=_:=hd ⟨16,.data⟩ (by simp) rfl
   rw[h16] at i16
   have h20:vs 20=_:=hd ⟨20,.data⟩ (by simp) rfl
   rw[h20] at i20
   clear hd
   unfold GivesOp
   go_simp
   refine(HPA.out W HW.out).mono ?_
   rintro e5 w5 ⟨rfl,hx5⟩
   exact⟨_,rfl,hx5,HW.out.trans hx5,rfl⟩
  rcases hq' with rfl|rfl|rfl|rfl|rfl|rfl|rfl|rfl|rfl|rfl|rfl|rfl|rfl|rfl|rfl|rfl|rfl|rfl|rfl|rfl|rfl|rfl|rfl|rfl|rfl|rfl|rfl|rfl|rfl|rfl|rfl|rfl|rfl|rfl|rfl
  all_goals first|(exact absurd rfl hs21;done)|skip
  all_goals
   cases ho
   simp[isDataG,GrP,rpv4T] at hd
   clear hs21 hsq
   unfold GivesOp
   go_simp
   exact⟨Ext.refl _,HW.out,rfl⟩
 intro L vs W hLm hW hR
 rw[if_pos (by decide +kernel)]
 have h34:vs 34=.bool (pb==!qb):=hR 34 (by simp) (by omega)
 simp only[acts,dstAt,List.range,List.range.loop,List.foldl_cons,List.foldl_nil,h34]
 go_simp
 have hW2:Ext w2 W:=hW
 clear hR hW hLm h34
 go_wp2_with fail
 go_ret
 exact givesE_bool (by rw[HF.out]) (HX2.out.trans hW2)
def rpv19F (_op:Int) (k:Nat) (b6:Nat) (sa:OA) (sn sc:Nat) (a:OA) (n c:Nat) (fa:OA) (fn fc:Nat) (_pb:Bool) (b off pc:Nat) (qb:Bool) (qk:Int) (qa:OA) (qn qc:Nat) (_name:BA) (_aw:OA) (_nw _cw:Nat) (_lo _hi:Int) (xb xo pn ca:Nat) (x0:Int) (x1:BA) (aw1:OA) (nw1 cw1:Nat) (x5 x6:Int) (aa1:OA) (na1 ca1:Nat)  : Nat->Value->World->Prop
 | 0,u,_=>u=.agg #[.slice sa sn sc]
 | 1,u,_=>u=.slice a n c
 | 2,u,_=>u=.pointer (some ⟨b6+1,5,none⟩)
 | 3,u,_=>u=.slice (some ⟨xb,xo,none⟩) pn ca
 | 4,u,_=>u=.int .i64 ((k:Nat):Int)
 | 5,u,_=>u=.pointer (some ⟨xb,xo+k * 6,none⟩)
 | 6,u,_=>u=.agg #[.int .i64 x0,.string x1,.slice aw1 nw1 cw1,.int .i64 x5,.int .i64 x6,.slice aa1 na1 ca1]
 | 7,u,_=>u=.slice fa fn fc
 | 8,u,_=>u=.pointer (some ⟨b6+1+1,2,none⟩)
 | 9,u,_=>u=.slice (some ⟨b,off,none⟩) pn pc
 | 10,u,_=>u=.int .i64 ((k:Nat):Int)
 | 11,u,_=>u=.pointer (some ⟨b,off+k * 3,none⟩)
 | 12,u,_=>u=.agg #[.bool qb,.int .i64 qk,.slice qa qn qc]
 | 13,u,_=>u=.bool false
 | 14,u,_=>u=.bool true
 | 15,u,_=>u=.bool true
 | 16,u,_=>u=undef
 | 17,u,_=>u=undef
 | 18,u,_=>u=undef
 | 19,u,_=>u=undef
 | 20,u,_=>u=undef
 | 21,u,_=>u=undef
 | 22,u,_=>u=undef
 | 23,u,_=>u=undef
 | 24,u,_=>u=undef
 | _,u,_=>u=.bool true
def rpv19T (_op:Int) (k:Nat) (b6:Nat) (sa:OA) (sn sc:Nat) (a:OA) (n c:Nat) (fa:OA) (fn fc:Nat) (pb:Bool) (b off pc:Nat) (qb:Bool) (qk:Int) (qa:OA) (qn qc:Nat) (_name:BA) (_aw:OA) (_nw _cw:Nat) (_lo _hi:Int) (xb xo pn ca:Nat) (x0:Int) (x1:BA) (aw1:OA) (nw1 cw1:Nat) (x5 x6:Int) (aa1:OA) (na1 ca1:Nat)  : Nat->Value->World->Prop
 | 0,u,_=>u=.agg #[.slice sa sn sc]
 | 1,u,_=>u=.slice a n c
 | 2,u,_=>u=.pointer (some ⟨b6+1,5,none⟩)
 | 3,u,_=>u=.slice (some ⟨xb,xo,none⟩) pn ca
 | 4,u,_=>u=.int .i64 ((k:Nat):Int)
 | 5,u,_=>u=.pointer (some ⟨xb,xo+k * 6,none⟩)
 | 6,u,_=>u=.agg #[.int .i64 x0,.string x1,.slice aw1 nw1 cw1,.int .i64 x5,.int .i64 x6,.slice aa1 na1 ca1]
 | 7,u,_=>u=.slice fa fn fc
 | 8,u,_=>u=.pointer (some ⟨b6+1+1,2,none⟩)
 | 9,u,_=>u=.slice (some ⟨b,off,none⟩) pn pc
 | 10,u,_=>u=.int .i64 ((k:Nat):Int)
 | 11,u,_=>u=.pointer (some ⟨b,off+k * 3,none⟩)
 | 12,u,_=>u=.agg #[.bool qb,.int .i64 qk,.slice qa qn qc]
 | 13,u,_=>u=.bool true
 | 14,u,_=>u=.bool false
 | 15,u,_=>u=.bool false
 | 16,u,_=>u=.pointer (some ⟨b6+1+1,2,none⟩)
 | 17,u,_=>u=.slice (some ⟨b,off,none⟩) pn pc
 | 18,u,_=>u=.int .i64 ((k:Nat):Int)
 | 19,u,_=>u=.pointer (some ⟨b,off+k * 3,none⟩)
 | 20,u,_=>u=.pointer (some ⟨b,off+k * 3,none⟩)
 | 21,u,_=>u=.bool qb
 | 22,u,_=>u=.pointer (some ⟨b6+1+1,0,none⟩)
 | 23,u,_=>u=.bool pb
 | 24,u,_=>u=.bool (qb != pb)
 | _,u,_=>u=.bool (qb != pb)
theorem rpv_all {s:List Attr} {l:List Cla} {f:ZI} {g:Nat} {op:Int} {name:BA} {words:ZB} {lo hi:Int} {args:List Ex} {p:Pr} (hop:op=7\/op=8) (hv:¬ p.value=decide (op=8)):prvF s l f (g+1) (.mk op name words lo hi args) p=((p.pick == -1)&&prvZip s f (fun x=>(defAt l x).map fun d=>prvF s l f g (l.getD d cla0).cond) p.value args p.args):=by
 cases p with
 | mk v k ps =>
  simp only[Pr.value] at hv
  rw[prvF,prvE,if_neg (by omega),if_pos hop,if_neg hv]
  rfl
def RvL (F:Ex->Pr->Bool) (args:List Ex) (ps:List Pr) (v:Bool) (na:Nat) (w2:World) (i:Value) (wr:World):Prop:=∃ k:Nat,i=.int .i64 k/\k<=na/\(∀ j (h1:j < args.length) (h2:j < ps.length),j < k->F args[j] ps[j]=true/\ps[j].value=v)/\Ext w2 wr
theorem rpv_allC {s:List Attr} {l:List Cla} {f:ZI} {g:Nat} {name:BA} {words:ZB} {lo hi:Int} {args:List Ex} {w:World} {a:OA} {n c:Nat} {fa:OA} {fn fc:Nat} {sa:OA} {sn sc:Nat} {aw:OA} {nw cw:Nat} {aa:OA} {na ca:Nat} {p:Pr} {pb:Bool} {pk:Int} {pa:OA} {pn pc:Nat} {op:Int} (hop:op=7/\pb=true\/op=8/\pb=false) (h:RpvIn s l f g op name args lo hi w a n c fa fn fc sa sn sc aw nw cw aa na ca p pb pk pa pn pc) :
  Calls Tryz.prog 23 #[.agg #[.slice sa sn sc],.slice a n c,exV op name aw nw cw lo hi aa na ca,.slice fa fn fc,.agg #[.bool pb,.int .i64 pk,.slice pa pn pc]] w (GivesE (.bool (prvF s l f (g+1) (.mk op name words lo hi args) p)) w):=by
 obtain⟨R,hR⟩:∃ R,R=prvF s l f (g+1) (.mk op name words lo hi args) p:=⟨_,rfl⟩
 rw[<-hR]
 have hpv:pb=p.value:=h.p.parts.1
 rw[rpv_all (hop.imp And.left And.left) (by rw[<-hpv];rcases hop with ⟨rfl,rfl⟩|⟨rfl,rfl⟩<;>decide)] at hR
 have HR:=hI hR
 have HPB:=hI hpv
 clear hR hpv
 have HIX:=hI h.ix
 have HARG:=hI h.arg
 have HX:=hI h.x
 have HNA:=hI h.na
 have HFE:=hI h.few
 have HP:=hI h.p
 clear h
 unfold exV at *
 obtain⟨wa,hwa⟩:∃ wa,wa=((w.alloc (.cells #[.slice sa sn sc] 31)).alloc (.cells #[.int .i64 op,.string name,.slice aw nw cw,.int .i64 lo,.int .i64 hi,.slice aa na ca] 26)).alloc (.cells #[.bool pb,.int .i64 pk,.slice pa pn pc] 40):=⟨_,rfl⟩
 have hxa:Ext w wa:=by rw[hwa];exact(((Ext.refl _).alloc _).alloc _).alloc _
 obtain⟨b6,hb6⟩:∃ b6:Nat,b6=w.heap.size:=⟨_,rfl⟩
 have hb0:wa.heap[b6]?=some (.cells #[.slice sa sn sc] 31 (0,0)):=by rw[hwa,hb6];exact blk_alloc (blk_alloc (alloc_new w _))
 have hb1:wa.heap[b6+1]?=some (.cells #[.int .i64 op,.string name,.slice aw nw cw,.int .i64 lo,.int .i64 hi,.slice aa na ca] 26 (0,0)):=by rw[hwa,hb6];exact blk_alloc (alloc_atR (by simp))
 have hb2:wa.heap[b6+1+1]?=some (.cells #[.bool pb,.int .i64 pk,.slice pa pn pc] 40 (0,0)):=by rw[hwa,hb6];exact alloc_atR (by simp)
 have HXA:=hI hxa
 have HB0:=hI hb0
 have HB1:=hI hb1
 have HB2:=hI hb2
 go_enter Tryz.func23,Tryz.ntmps23
 go_upto_region 1 with fail
 rw[<-hwa,<-hb6]
 clear hwa hb6
 obtain⟨f0,f1,f2,f3,f4,f5,ff⟩:=blk6 hb1
 obtain⟨e0,ef⟩:=blk1 hb0
 clear hxa hb0 hb1 hb2
 go_wp2_with fail
 refine(HIX.out wa HXA.out).mono ?_
 rintro r w2 ⟨rfl,hx2⟩
 have HX2:=hI (HXA.out.trans hx2)
 have HS2:=hI (hx2.blk HB0.out)
 have HE2:=hI (hx2.blk HB1.out)
 have HP2:=hI (hx2.blk HB2.out)
 clear hx2 f0 f1 f2 f3 f4 f5 ff e0 ef HB0 HB1 HB2 HXA HIX
 unfold optV
 obtain⟨i0,hi0⟩:∃ i0:Int,i0=(((attrAt s name).getD 0:Nat):Int):=⟨_,rfl⟩
 obtain⟨is0,his0⟩:∃ b,b=(attrAt s name).isSome:=⟨_,rfl⟩
 rw[<-hi0,<-his0]
 clear hi0 his0
 obtain⟨f0,f1,f2,f3,f4,f5,ff⟩:=blk6 HE2.out
 obtain⟨e0,ef⟩:=blk1 HS2.out
 obtain⟨r0,r1,r2,rf⟩:=blk3 HP2.out
 have t6:(op==6)=false:=by rcases hop with ⟨rfl,-⟩|⟨rfl,-⟩<;>rfl
 have t3:(op==3)=false:=by rcases hop with ⟨rfl,-⟩|⟨rfl,-⟩<;>rfl
 rcases hop with ⟨hop,hV⟩|⟨hop,hV⟩
 case' inl=>have t7:(op==7)=true:=by rw[hop];rfl
 case' inr =>
  have t7:(op==7)=false:=by rw[hop];rfl
  have t8:(op==8)=true:=by rw[hop];rfl
 all_goals
 clear hop
 go_upto_region 14 with fail
 clear hV
 by_cases hk:pk = -1
 case neg =>
  have t1:(pk != -1)=true:=by simp[hk]
  have HQ:=hI (show R=false by rw[HR.out,<-HP.out.parts.2.1];simp[hk])
  clear hk
  go_wp2_with fail
  go_ret
  exact givesE_bool (by rw[HQ.out]) HX2.out
 subst hk
 have HPN:=hI (show pn=p.args.length from HP.out.parts.2.2.1)
 have hnb:na<=1000000:=by have:=HNA.out;have:=HFE.out;omega
 by_cases hn:pn=na
 case neg =>
  have t1:((pn:Int) != (na:Int))=true:=by simp;omega
  have HQ:=hI (show R=false by
   rw[HR.out]
   cases hz:prvZip s f (fun x=>(defAt l x).map fun d=>prvF s l f g (l.getD d cla0).cond) p.value args p.args
   ·simp
   have:=prvZip_len args p.args hz;have:=HPN.out;have:=HNA.out;omega)
  clear hn
  go_wp2_with fail
  go_ret
  exact givesE_bool (by rw[HQ.out]) HX2.out
 subst hn
 go_upto_region 16 with fail
 clear f0 f1 f2 f3 f4 f5 ff e0 ef r0 r1 r2 rf
 go_wp2_with fail
 go_loopw [15] (RvL (prvF s l f (g+1)) args p.args pb pn w2) (fun i _=>pn - (intOf i).toNat)
 case atStart=>exact⟨0,rfl,by omega,fun j _ _ h=>by omega,Ext.refl _⟩
 case round =>
  obtain⟨k,rfl,hk,hall,hxr⟩:=hrel
  have HALL:=hI hall
  have HXR:=hI hxr
  have HS5:=hI (hxr.blk HS2.out)
  have HE5:=hI (hxr.blk HE2.out)
  have HP5:=hI (hxr.blk HP2.out)
  have HXW:=hI (HX2.out.trans hxr)
  obtain⟨f0,f1,f2,f3,f4,f5,ff⟩:=blk6 HE5.out
  obtain⟨e0,ef⟩:=blk1 HS5.out
  obtain⟨r0,r1,r2,rf⟩:=blk3 HP5.out
  clear hall hxr
  by_cases hkn:k < pn
  ·have hka:k < args.length:=by have:=HNA.out;omega
   have hkp:k < p.args.length:=by have:=HPN.out;omega
   have t1:decide ((k:Int) < (pn:Int))=true:=decide_eq_true (by omega)
   obtain⟨b,off,qv,hpa,hq,m0,m1,m2⟩:=HP.out.parts.2.2.2.2.2 k hkp
   simp only at hpa
   subst hpa
   have c0:=HXW.out.cell m0
   have c1:=HXW.out.cell m1
   have c2:=HXW.out.cell m2
   have HPQ:=hI hq
   have HQB:=hI (show qv.value=p.args[k].value from hq.parts.1)
   clear hq m0 m1 m2
   obtain⟨qb,qk,qa,qn,qc⟩:=qv
   simp only at HQB c0 c1 c2
   obtain⟨xb,xo,rfl,aw1,nw1,cw1,aa1,na1,ca1,g0,g1,g2,g3,g4,g5,m6⟩:=ExsD.at args _ (ExsD.ext HXW.out args _ HX.out) k hka
   have M6:=hI m6
   have hHPA:=fun W (hW:Ext wr W)=>HARG.out k hka _ p.args[k] ⟨qb,qk,qa,qn,qc⟩ W (HXW.out.trans hW) (M6.out.ext hW) (HPQ.out.ext (HXW.out.trans hW))
   obtain⟨B,hB⟩:∃ B,B=prvF s l f (g+1) args[k] p.args[k]:=⟨_,rfl⟩
   rw[<-hB] at hHPA
   have HBE:=hI hB
   unfold PrV.val exV at hHPA
   have HPA:=hI hHPA
   obtain⟨x0,hx0⟩:∃ x0,x0=args[k].op:=⟨_,rfl⟩
   obtain⟨x1,hx1⟩:∃ x1,x1=args[k].name:=⟨_,rfl⟩
   obtain⟨x5,hx5⟩:∃ x5,x5=args[k].lo:=⟨_,rfl⟩
   obtain⟨x6,hx6⟩:∃ x6,x6=args[k].hi:=⟨_,rfl⟩
   rw[<-hx0] at g0 HPA
   rw[<-hx1] at g1 HPA
   rw[<-hx5] at g3 HPA
   rw[<-hx6] at g4 HPA
   clear hB m6 hHPA hx0 hx1 hx5 hx6
   go_upto_region 19 with fail
   cases B
   ·have HF:=hI (show R=false by
     rw[HR.out,prvZip_false k hka hkp (fun h=>by
      have h1:=HBE.out
      rw[prvF,h.1] at h1
      exact absurd h1 (by decide))]
     simp)
    refine wp_region_growS (n:=241) (m:=26) [25] (GrGS wr) GrE (GrP (rpv19F op k b6 sa sn sc a n c fa fn fc pb b off pc qb qk qa qn qc name aw nw cw lo hi xb xo pn ca x0 x1 aw1 nw1 cw1 x5 x6 aa1 na1 ca1 )) (by kernel_rfl) (by kernel_rfl) (Nat.le_of_ble_eq_true rfl) (fun i=>[16,17,18,19,20,21,22,23,24].contains i) ?sg ?gd ?sk ((Ext.refl wr).drew) ?_ ?_ ?_
    case sg =>
     intro i o hi hs ho
     have hi':i=0\/i=1\/i=2\/i=3\/i=4\/i=5\/i=6\/i=7\/i=8\/i=9\/i=10\/i=11\/i=12\/i=13\/i=14\/i=15\/i=16\/i=17\/i=18\/i=19\/i=20\/i=21\/i=22\/i=23\/i=24\/i=25:=by omega
     rcases hi' with rfl|rfl|rfl|rfl|rfl|rfl|rfl|rfl|rfl|rfl|rfl|rfl|rfl|rfl|rfl|rfl|rfl|rfl|rfl|rfl|rfl|rfl|rfl|rfl|rfl|rfl<;>(cases ho;first|(exact absurd hs (by decide);done)|exact nofun)
    case gd =>
     intro i o j b hi ho hg
     have hi':i=0\/i=1\/i=2\/i=3\/i=4\/i=5\/i=6\/i=7\/i=8\/i=9\/i=10\/i=11\/i=12\/i=13\/i=14\/i=15\/i=16\/i=17\/i=18\/i=19\/i=20\/i=21\/i=22\/i=23\/i=24\/i=25:=by omega
     rcases hi' with rfl|rfl|rfl|rfl|rfl|rfl|rfl|rfl|rfl|rfl|rfl|rfl|rfl|rfl|rfl|rfl|rfl|rfl|rfl|rfl|rfl|rfl|rfl|rfl|rfl|rfl<;>(cases ho;first|(cases hg;done)|(cases hg;intro v W h;first|(rw[if_neg (by decide)];exact h)|(rw[if_pos (by decide)];intro e;first|(rw[show v=.bool false from h] at e;cases e;done)|(rw[show v=.bool true from h] at e;cases e;done)|(rw[show v=undef from h] at e;cases e;done))))
    case sk =>
     intro i hi hs L vs W hiL hG
     have hi':i=0\/i=1\/i=2\/i=3\/i=4\/i=5\/i=6\/i=7\/i=8\/i=9\/i=10\/i=11\/i=12\/i=13\/i=14\/i=15\/i=16\/i=17\/i=18\/i=19\/i=20\/i=21\/i=22\/i=23\/i=24\/i=25:=by omega
     rcases hi' with rfl|rfl|rfl|rfl|rfl|rfl|rfl|rfl|rfl|rfl|rfl|rfl|rfl|rfl|rfl|rfl|rfl|rfl|rfl|rfl|rfl|rfl|rfl|rfl|rfl|rfl<;>first|(exact absurd hs (by decide);done)|exact⟨Ext.refl W,hG,rfl⟩
    ·intro i k v W W' hi hk hne hout h hE
     have hE:Ext W W':=hE
     have hi':i=0\/i=1\/i=2\/i=3\/i=4\/i=5\/i=6\/i=7\/i=8\/i=9\/i=10\/i=11\/i=12\/i=13\/i=14\/i=15\/i=16\/i=17\/i=18\/i=19\/i=20\/i=21\/i=22\/i=23\/i=24\/i=25:=by omega
     clear hi hk hne hout
     rcases hi' with rfl|rfl|rfl|rfl|rfl|rfl|rfl|rfl|rfl|rfl|rfl|rfl|rfl|rfl|rfl|rfl|rfl|rfl|rfl|rfl|rfl|rfl|rfl|rfl|rfl|rfl
     ·exact h
     ·exact h
     ·exact h
     ·exact h
     ·exact h
     ·exact h
     ·exact h
     ·exact h
     ·exact h
     ·exact h
     ·exact h
     ·exact h
     ·exact h
     ·exact h
     ·exact h
     ·exact h
     ·exact h
     ·exact h
     ·exact h
     ·exact h
     ·exact h
     ·exact h
     ·exact h
     ·exact h
     ·exact h
     exact h
    ·intro q op hq hsq ho L vs W hqL hcL hW hd ρ hρ
     have hq':q=0\/q=1\/q=2\/q=3\/q=4\/q=5\/q=6\/q=7\/q=8\/q=9\/q=10\/q=11\/q=12\/q=13\/q=14\/q=15\/q=16\/q=17\/q=18\/q=19\/q=20\/q=21\/q=22\/q=23\/q=24\/q=25:=by omega
     clear hq
     have o5:ρ (.tmp 5)=.pointer (some ⟨b6,0,none⟩):=hρ.out 5 rfl
     have o1:ρ (.tmp 1)=.slice a n c:=hρ.out 1 rfl
     have o7:ρ (.tmp 7)=.pointer (some ⟨b6+1,0,none⟩):=hρ.out 7 rfl
     have i2:=hρ.i 2 198
     have o15:ρ (.tmp 15)=.int .i64 ((k:Nat):Int):=hρ.out 15 rfl
     have i3:=hρ.i 3 199
     have i4:=hρ.i 4 200
     have i5:=hρ.i 5 201
     have o3:ρ (.tmp 3)=.slice fa fn fc:=hρ.out 3 rfl
     have o9:ρ (.tmp 9)=.pointer (some ⟨b6+1+1,0,none⟩):=hρ.out 9 rfl
     have i8:=hρ.i 8 204
     have i9:=hρ.i 9 205
     have i10:=hρ.i 10 206
     have i11:=hρ.i 11 207
     have i0:=hρ.i 0 196
     have i1:=hρ.i 1 197
     have i6:=hρ.i 6 202
     have i7:=hρ.i 7 203
     have i12:=hρ.i 12 208
     have i13:=hρ.i 13 209
     have i14:=hρ.i 14 210
     have i16:=hρ.i 16 212
     have i17:=hρ.i 17 213
     have i18:=hρ.i 18 214
     have i19:=hρ.i 19 215
     have i20:=hρ.i 20 216
     have i22:=hρ.i 22 218
     have i21:=hρ.i 21 217
     have i23:=hρ.i 23 219
     have i15:=hρ.i 15 211
     have i24:=hρ.i 24 220
     have hc:=hρ.const
     have hfn:=hρ.func
     clear hρ
     have HG:=hI hW
     have HW:=hI (show Ext wr W from hW)
     have HQL:=hI hqL
     clear hW hqL hcL
     have kf0:=HW.out.cell e0
     have kf1:=HW.out.cell f5
     have kf2:=HW.out.cell r2
     have kf3:=HW.out.cell g0
     have kf4:=HW.out.cell g1
     have kf5:=HW.out.cell g2
     have kf6:=HW.out.cell g3
     have kf7:=HW.out.cell g4
     have kf8:=HW.out.cell g5
     have kf9:=HW.out.cell c0
     have kf10:=HW.out.cell c1
     have kf11:=HW.out.cell c2
     by_cases hs13:q=13
     ·subst hs13
      clear hq'
      clear hsq
      cases ho
      have h0:vs 0=_:=hd ⟨0,.data⟩ (by simp) rfl
      rw[h0] at i0
      have h1:vs 1=_:=hd ⟨1,.data⟩ (by simp) rfl
      rw[h1] at i1
      have h6:vs 6=_:=hd ⟨6,.data⟩ (by simp) rfl
      rw[h6] at i6
      have h7:vs 7=_:=hd ⟨7,.data⟩ (by simp) rfl
      rw[h7] at i7
      have h12:vs 12=_:=hd ⟨12,.data⟩ (by simp) rfl
      rw[h12] at i12
      clear hd
      unfold GivesOp
      go_simp
      refine(HPA.out W HW.out).mono ?_
      rintro e5 w5 ⟨rfl,hx5⟩
      exact⟨_,rfl,hx5,HW.out.trans hx5,rfl⟩
     rcases hq' with rfl|rfl|rfl|rfl|rfl|rfl|rfl|rfl|rfl|rfl|rfl|rfl|rfl|rfl|rfl|rfl|rfl|rfl|rfl|rfl|rfl|rfl|rfl|rfl|rfl|rfl
     all_goals first|(exact absurd rfl hs13;done)|(exact absurd hsq (by decide);done)|skip
     all_goals
      cases ho
      simp[isDataG,GrP,rpv19F] at hd
      clear hs13 hsq
      unfold GivesOp
      go_simp
      exact⟨Ext.refl _,HW.out,rfl⟩
    intro L vs W hLm hW hR
    rw[if_pos (by decide +kernel)]
    have h25:vs 25=.bool true:=hR 25 (by simp) (by omega)
    simp only[acts,dstAt,List.range,List.range.loop,List.foldl_cons,List.foldl_nil,h25]
    go_simp
    have hW2:Ext wr W:=hW
    clear hR hW hLm h25
    have HXZ:=hI (HXW.out.trans hW2)
    clear hW2 f0 f1 f2 f3 f4 f5 ff e0 ef r0 r1 r2 rf c0 c1 c2 g0 g1 g2 g3 g4 g5
    go_wp2_with fail
    go_ret
    exact givesE_bool (by rw[HF.out]) HXZ.out
   --BEGIN A19T
   refine wp_region_growS (n:=241) (m:=26) [25] (GrGS wr) GrE (GrP (rpv19T op k b6 sa sn sc a n c fa fn fc pb b off pc qb qk qa qn qc name aw nw cw lo hi xb xo pn ca x0 x1 aw1 nw1 cw1 x5 x6 aa1 na1 ca1 )) (by kernel_rfl) (by kernel_rfl) (Nat.le_of_ble_eq_true rfl) (fun i=>[].contains i) ?sg ?gd ?sk ((Ext.refl wr).drew) ?_ ?_ ?_
   case sg =>
    intro i o hi hs ho
    have hi':i=0\/i=1\/i=2\/i=3\/i=4\/i=5\/i=6\/i=7\/i=8\/i=9\/i=10\/i=11\/i=12\/i=13\/i=14\/i=15\/i=16\/i=17\/i=18\/i=19\/i=20\/i=21\/i=22\/i=23\/i=24\/i=25:=by omega
    rcases hi' with rfl|rfl|rfl|rfl|rfl|rfl|rfl|rfl|rfl|rfl|rfl|rfl|rfl|rfl|rfl|rfl|rfl|rfl|rfl|rfl|rfl|rfl|rfl|rfl|rfl|rfl<;>(cases ho;first|(exact absurd hs (by decide);done)|exact nofun)
   case gd =>
    intro i o j b hi ho hg
    have hi':i=0\/i=1\/i=2\/i=3\/i=4\/i=5\/i=6\/i=7\/i=8\/i=9\/i=10\/i=11\/i=12\/i=13\/i=14\/i=15\/i=16\/i=17\/i=18\/i=19\/i=20\/i=21\/i=22\/i=23\/i=24\/i=25:=by omega
    rcases hi' with rfl|rfl|rfl|rfl|rfl|rfl|rfl|rfl|rfl|rfl|rfl|rfl|rfl|rfl|rfl|rfl|rfl|rfl|rfl|rfl|rfl|rfl|rfl|rfl|rfl|rfl<;>(cases ho;first|(cases hg;done)|(cases hg;intro v W h;first|(rw[if_neg (by decide)];exact h)|(rw[if_pos (by decide)];intro e;first|(rw[show v=.bool false from h] at e;cases e;done)|(rw[show v=.bool true from h] at e;cases e;done)|(rw[show v=undef from h] at e;cases e;done))))
   case sk =>
    intro i hi hs L vs W hiL hG
    have hi':i=0\/i=1\/i=2\/i=3\/i=4\/i=5\/i=6\/i=7\/i=8\/i=9\/i=10\/i=11\/i=12\/i=13\/i=14\/i=15\/i=16\/i=17\/i=18\/i=19\/i=20\/i=21\/i=22\/i=23\/i=24\/i=25:=by omega
    rcases hi' with rfl|rfl|rfl|rfl|rfl|rfl|rfl|rfl|rfl|rfl|rfl|rfl|rfl|rfl|rfl|rfl|rfl|rfl|rfl|rfl|rfl|rfl|rfl|rfl|rfl|rfl<;>first|(exact absurd hs (by decide);done)|exact⟨Ext.refl W,hG,rfl⟩
   ·intro i k v W W' hi hk hne hout h hE
    have hE:Ext W W':=hE
    have hi':i=0\/i=1\/i=2\/i=3\/i=4\/i=5\/i=6\/i=7\/i=8\/i=9\/i=10\/i=11\/i=12\/i=13\/i=14\/i=15\/i=16\/i=17\/i=18\/i=19\/i=20\/i=21\/i=22\/i=23\/i=24\/i=25:=by omega
    clear hi hk hne hout
    rcases hi' with rfl|rfl|rfl|rfl|rfl|rfl|rfl|rfl|rfl|rfl|rfl|rfl|rfl|rfl|rfl|rfl|rfl|rfl|rfl|rfl|rfl|rfl|rfl|rfl|rfl|rfl
    ·exact h
    ·exact h
    ·exact h
    ·exact h
    ·exact h
    ·exact h
    ·exact h
    ·exact h
    ·exact h
    ·exact h
    ·exact h
    ·exact h
    ·exact h
    ·exact h
    ·exact h
    ·exact h
    ·exact h
    ·exact h
    ·exact h
    ·exact h
    ·exact h
    ·exact h
    ·exact h
    ·exact h
    ·exact h
    exact h
   ·intro q op hq hsq ho L vs W hqL hcL hW hd ρ hρ
    have hq':q=0\/q=1\/q=2\/q=3\/q=4\/q=5\/q=6\/q=7\/q=8\/q=9\/q=10\/q=11\/q=12\/q=13\/q=14\/q=15\/q=16\/q=17\/q=18\/q=19\/q=20\/q=21\/q=22\/q=23\/q=24\/q=25:=by omega
    clear hq
    have o5:ρ (.tmp 5)=.pointer (some ⟨b6,0,none⟩):=hρ.out 5 rfl
    have o1:ρ (.tmp 1)=.slice a n c:=hρ.out 1 rfl
    have o7:ρ (.tmp 7)=.pointer (some ⟨b6+1,0,none⟩):=hρ.out 7 rfl
    have i2:=hρ.i 2 198
    have o15:ρ (.tmp 15)=.int .i64 ((k:Nat):Int):=hρ.out 15 rfl
    have i3:=hρ.i 3 199
    have i4:=hρ.i 4 200
    have i5:=hρ.i 5 201
    have o3:ρ (.tmp 3)=.slice fa fn fc:=hρ.out 3 rfl
    have o9:ρ (.tmp 9)=.pointer (some ⟨b6+1+1,0,none⟩):=hρ.out 9 rfl
    have i8:=hρ.i 8 204
    have i9:=hρ.i 9 205
    have i10:=hρ.i 10 206
    have i11:=hρ.i 11 207
    have i0:=hρ.i 0 196
    have i1:=hρ.i 1 197
    have i6:=hρ.i 6 202
    have i7:=hρ.i 7 203
    have i12:=hρ.i 12 208
    have i13:=hρ.i 13 209
    have i14:=hρ.i 14 210
    have i16:=hρ.i 16 212
    have i17:=hρ.i 17 213
    have i18:=hρ.i 18 214
    have i19:=hρ.i 19 215
    have i20:=hρ.i 20 216
    have i22:=hρ.i 22 218
    have i21:=hρ.i 21 217
    have i23:=hρ.i 23 219
    have i15:=hρ.i 15 211
    have i24:=hρ.i 24 220
    have hc:=hρ.const
    have hfn:=hρ.func
    clear hρ
    have HG:=hI hW
    have HW:=hI (show Ext wr W from hW)
    have HQL:=hI hqL
    clear hW hqL hcL
    have kf0:=HW.out.cell e0
    have kf1:=HW.out.cell f5
    have kf2:=HW.out.cell r0
    have kf3:=HW.out.cell r2
    have kf4:=HW.out.cell g0
    have kf5:=HW.out.cell g1
    have kf6:=HW.out.cell g2
    have kf7:=HW.out.cell g3
    have kf8:=HW.out.cell g4
    have kf9:=HW.out.cell g5
    have kf10:=HW.out.cell c0
    have kf11:=HW.out.cell c1
    have kf12:=HW.out.cell c2
    by_cases hs13:q=13
    ·subst hs13
     clear hq'
     clear hsq
     cases ho
     have h0:vs 0=_:=hd ⟨0,.data⟩ (by simp) rfl
     rw[h0] at i0
     have h1:vs 1=_:=hd ⟨1,.data⟩ (by simp) rfl
     rw[h1] at i1
     have h6:vs 6=_:=hd ⟨6,.data⟩ (by simp) rfl
     rw[h6] at i6
     have h7:vs 7=_:=hd ⟨7,.data⟩ (by simp) rfl
     rw[h7] at i7
     have h12:vs 12=_:=hd ⟨12,.data⟩ (by simp) rfl
     rw[h12] at i12
     clear hd
     unfold GivesOp
     go_simp
     refine(HPA.out W HW.out).mono ?_
     rintro e5 w5 ⟨rfl,hx5⟩
     exact⟨_,rfl,hx5,HW.out.trans hx5,rfl⟩
    rcases hq' with rfl|rfl|rfl|rfl|rfl|rfl|rfl|rfl|rfl|rfl|rfl|rfl|rfl|rfl|rfl|rfl|rfl|rfl|rfl|rfl|rfl|rfl|rfl|rfl|rfl|rfl
    all_goals first|(exact absurd rfl hs13;done)|skip
    all_goals
     cases ho
     simp[isDataG,GrP,rpv19T] at hd
     clear hs13 hsq
     unfold GivesOp
     go_simp
     exact⟨Ext.refl _,HW.out,rfl⟩
   intro L vs W hLm hW hR
   rw[if_pos (by decide +kernel)]
   have h25:vs 25=.bool (qb != pb):=hR 25 (by simp) (by omega)
   simp only[acts,dstAt,List.range,List.range.loop,List.foldl_cons,List.foldl_nil,h25]
   go_simp
   have hW2:Ext wr W:=hW
   clear hR hW hLm h25
   have HXZ:=hI (HXW.out.trans hW2)
   have HXK:=hI (HXR.out.trans hW2)
   have ff5:=hW2.cell f5
   clear hW2 f0 f1 f2 f3 f4 f5 ff e0 ef r0 r1 r2 rf c0 c1 c2 g0 g1 g2 g3 g4 g5
   by_cases hqb:qb=pb
   ·rw[show (qb != pb)=false by simp[hqb]]
    have HQE:=hI (show p.args[k].value=pb by rw[<-HQB.out];exact hqb)
    clear hqb
    go_wp2_with fail
    go_roundw
    case rel=>exact⟨k+1,by go_num,by omega,fun j h1 h2 hjk=>by
     rcases Nat.lt_or_ge j k with h|h
     ·exact HALL.out j h1 h2 h
     have:j=k:=by omega
     subst this
     exact⟨HBE.out.symm,HQE.out⟩,HXK.out⟩
    case measure=>simp[intOf];omega
   rw[show (qb != pb)=true by simp[hqb]]
   have HF:=hI (show R=false by
    rw[HR.out,prvZip_false k hka hkp (fun h=>hqb (by rw[HQB.out,HPB.out];exact h.2))]
    simp)
   clear hqb
   go_wp2_with fail
   go_ret
   exact givesE_bool (by rw[HF.out]) HXZ.out
  have t1:decide ((k:Int) < (pn:Int))=false:=decide_eq_false (by omega)
  obtain rfl:k=pn:=by omega
  have HF:=hI (show R=true by
   rw[HR.out,<-HP.out.parts.2.1]
   have hz:=prvZip_of (s:=s) (f:=f) (D:=fun x=>(defAt l x).map fun d=>prvF s l f g (l.getD d cla0).cond) (v:=p.value) args p.args (by have:=HPN.out;have:=HNA.out;omega) fun i g1 g2=>by
    have:=HALL.out i g1 g2 (by have:=HPN.out;omega)
    rw[HPB.out,prvF] at this
    exact this
   rw[hz];rfl)
  go_wp2_with fail
  go_ret
  exact givesE_bool (by rw[HF.out]) HXW.out
def rpv13F (_op:Int) (k:Nat) (b6:Nat) (sa:OA) (sn sc:Nat) (a:OA) (n c:Nat) (fa:OA) (fn fc:Nat) (_pb:Bool) (b off pc:Nat) (qb:Bool) (qk:Int) (qa:OA) (qn qc:Nat) (_name:BA) (_aw:OA) (_nw _cw:Nat) (_lo _hi:Int) (xb xo na ca:Nat) (x0:Int) (x1:BA) (aw1:OA) (nw1 cw1:Nat) (x5 x6:Int) (aa1:OA) (na1 ca1:Nat)  : Nat->Value->World->Prop
 | 0,u,_=>u=.pointer (some ⟨b6+1+1,1,none⟩)
 | 1,u,_=>u=.int .i64 ((k:Nat):Int)
 | 2,u,_=>u=.bool true
 | 3,u,_=>u=.bool true
 | 4,u,_=>u=.pointer (some ⟨b6+1+1,1,none⟩)
 | 5,u,_=>u=.int .i64 ((k:Nat):Int)
 | 6,u,_=>u=.pointer (some ⟨b6+1,5,none⟩)
 | 7,u,_=>u=.slice (some ⟨xb,xo,none⟩) na ca
 | 8,u,_=>u=.int .i64 ((na:Nat):Int)
 | 9,u,_=>u=.bool true
 | 10,u,_=>u=.bool true
 | 11,u,_=>u=.bool true
 | 12,u,_=>u=.pointer (some ⟨b6+1+1,2,none⟩)
 | 13,u,_=>u=.slice (some ⟨b,off,none⟩) 1 pc
 | 14,u,_=>u=.int .i64 1
 | 15,u,_=>u=.bool true
 | 16,u,_=>u=.bool true
 | 17,u,_=>u=.bool true
 | 18,u,_=>u=.agg #[.slice sa sn sc]
 | 19,u,_=>u=.slice a n c
 | 20,u,_=>u=.pointer (some ⟨b6+1,5,none⟩)
 | 21,u,_=>u=.slice (some ⟨xb,xo,none⟩) na ca
 | 22,u,_=>u=.pointer (some ⟨b6+1+1,1,none⟩)
 | 23,u,_=>u=.int .i64 ((k:Nat):Int)
 | 24,u,_=>u=.pointer (some ⟨xb,xo+k * 6,none⟩)
 | 25,u,_=>u=.agg #[.int .i64 x0,.string x1,.slice aw1 nw1 cw1,.int .i64 x5,.int .i64 x6,.slice aa1 na1 ca1]
 | 26,u,_=>u=.slice fa fn fc
 | 27,u,_=>u=.pointer (some ⟨b6+1+1,2,none⟩)
 | 28,u,_=>u=.slice (some ⟨b,off,none⟩) 1 pc
 | 29,u,_=>u=.pointer (some ⟨b,off,none⟩)
 | 30,u,_=>u=.agg #[.bool qb,.int .i64 qk,.slice qa qn qc]
 | 31,u,_=>u=.bool false
 | 32,u,_=>u=.bool false
 | 33,u,_=>u=.bool false
 | 34,u,_=>u=undef
 | 35,u,_=>u=undef
 | 36,u,_=>u=undef
 | 37,u,_=>u=undef
 | 38,u,_=>u=undef
 | 39,u,_=>u=undef
 | 40,u,_=>u=undef
 | 41,u,_=>u=undef
 | 42,u,_=>u=.bool false
 | _,u,_=>u=.bool false
def rpv13T (_op:Int) (k:Nat) (b6:Nat) (sa:OA) (sn sc:Nat) (a:OA) (n c:Nat) (fa:OA) (fn fc:Nat) (pb:Bool) (b off pc:Nat) (qb:Bool) (qk:Int) (qa:OA) (qn qc:Nat) (_name:BA) (_aw:OA) (_nw _cw:Nat) (_lo _hi:Int) (xb xo na ca:Nat) (x0:Int) (x1:BA) (aw1:OA) (nw1 cw1:Nat) (x5 x6:Int) (aa1:OA) (na1 ca1:Nat)  : Nat->Value->World->Prop
 | 0,u,_=>u=.pointer (some ⟨b6+1+1,1,none⟩)
 | 1,u,_=>u=.int .i64 ((k:Nat):Int)
 | 2,u,_=>u=.bool true
 | 3,u,_=>u=.bool true
 | 4,u,_=>u=.pointer (some ⟨b6+1+1,1,none⟩)
 | 5,u,_=>u=.int .i64 ((k:Nat):Int)
 | 6,u,_=>u=.pointer (some ⟨b6+1,5,none⟩)
 | 7,u,_=>u=.slice (some ⟨xb,xo,none⟩) na ca
 | 8,u,_=>u=.int .i64 ((na:Nat):Int)
 | 9,u,_=>u=.bool true
 | 10,u,_=>u=.bool true
 | 11,u,_=>u=.bool true
 | 12,u,_=>u=.pointer (some ⟨b6+1+1,2,none⟩)
 | 13,u,_=>u=.slice (some ⟨b,off,none⟩) 1 pc
 | 14,u,_=>u=.int .i64 1
 | 15,u,_=>u=.bool true
 | 16,u,_=>u=.bool true
 | 17,u,_=>u=.bool true
 | 18,u,_=>u=.agg #[.slice sa sn sc]
 | 19,u,_=>u=.slice a n c
 | 20,u,_=>u=.pointer (some ⟨b6+1,5,none⟩)
 | 21,u,_=>u=.slice (some ⟨xb,xo,none⟩) na ca
 | 22,u,_=>u=.pointer (some ⟨b6+1+1,1,none⟩)
 | 23,u,_=>u=.int .i64 ((k:Nat):Int)
 | 24,u,_=>u=.pointer (some ⟨xb,xo+k * 6,none⟩)
 | 25,u,_=>u=.agg #[.int .i64 x0,.string x1,.slice aw1 nw1 cw1,.int .i64 x5,.int .i64 x6,.slice aa1 na1 ca1]
 | 26,u,_=>u=.slice fa fn fc
 | 27,u,_=>u=.pointer (some ⟨b6+1+1,2,none⟩)
 | 28,u,_=>u=.slice (some ⟨b,off,none⟩) 1 pc
 | 29,u,_=>u=.pointer (some ⟨b,off,none⟩)
 | 30,u,_=>u=.agg #[.bool qb,.int .i64 qk,.slice qa qn qc]
 | 31,u,_=>u=.bool true
 | 32,u,_=>u=.bool true
 | 33,u,_=>u=.bool true
 | 34,u,_=>u=.pointer (some ⟨b6+1+1,2,none⟩)
 | 35,u,_=>u=.slice (some ⟨b,off,none⟩) 1 pc
 | 36,u,_=>u=.pointer (some ⟨b,off,none⟩)
 | 37,u,_=>u=.pointer (some ⟨b,off,none⟩)
 | 38,u,_=>u=.bool qb
 | 39,u,_=>u=.pointer (some ⟨b6+1+1,0,none⟩)
 | 40,u,_=>u=.bool pb
 | 41,u,_=>u=.bool (qb==pb)
 | 42,u,_=>u=.bool (qb==pb)
 | _,u,_=>u=.bool (qb==pb)
theorem rpv_one {s:List Attr} {l:List Cla} {f:ZI} {g:Nat} {op:Int} {name:BA} {words:ZB} {lo hi:Int} {args:List Ex} {p:Pr} (hop:op=7\/op=8) (hv:p.value=decide (op=8)):prvF s l f (g+1) (.mk op name words lo hi args) p=(decide (0<=p.pick)&&decide (p.args.length=1)&&p.args.all fun q=>(args[p.pick.toNat]?.map fun e=>prvF s l f (g+1) e q).getD false&&(q.value==p.value)):=by
 cases p with
 | mk v k ps =>
  simp only[Pr.value] at hv
  rw[prvF,prvE,if_neg (by omega),if_pos hop,if_pos hv]
  simp only[prvAt_get]
  rfl
theorem rpv_oneC {s:List Attr} {l:List Cla} {f:ZI} {g:Nat} {name:BA} {words:ZB} {lo hi:Int} {args:List Ex} {w:World} {a:OA} {n c:Nat} {fa:OA} {fn fc:Nat} {sa:OA} {sn sc:Nat} {aw:OA} {nw cw:Nat} {aa:OA} {na ca:Nat} {p:Pr} {pb:Bool} {pk:Int} {pa:OA} {pn pc:Nat} {op:Int} (hop:op=7/\pb=false\/op=8/\pb=true) (h:RpvIn s l f g op name args lo hi w a n c fa fn fc sa sn sc aw nw cw aa na ca p pb pk pa pn pc) :
  Calls Tryz.prog 23 #[.agg #[.slice sa sn sc],.slice a n c,exV op name aw nw cw lo hi aa na ca,.slice fa fn fc,.agg #[.bool pb,.int .i64 pk,.slice pa pn pc]] w (GivesE (.bool (prvF s l f (g+1) (.mk op name words lo hi args) p)) w):=by
 obtain⟨R,hR⟩:∃ R,R=prvF s l f (g+1) (.mk op name words lo hi args) p:=⟨_,rfl⟩
 rw[<-hR]
 have hpv:pb=p.value:=h.p.parts.1
 rw[rpv_one (hop.imp And.left And.left) (by rw[<-hpv];rcases hop with ⟨rfl,rfl⟩|⟨rfl,rfl⟩<;>rfl)] at hR
 have HR:=hI hR
 clear hR hpv
 have HIX:=hI h.ix
 have HARG:=hI h.arg
 have HX:=hI h.x
 have HNA:=hI h.na
 have HFE:=hI h.few
 have HP:=hI h.p
 clear h
 unfold exV at *
 obtain⟨wa,hwa⟩:∃ wa,wa=((w.alloc (.cells #[.slice sa sn sc] 31)).alloc (.cells #[.int .i64 op,.string name,.slice aw nw cw,.int .i64 lo,.int .i64 hi,.slice aa na ca] 26)).alloc (.cells #[.bool pb,.int .i64 pk,.slice pa pn pc] 40):=⟨_,rfl⟩
 have hxa:Ext w wa:=by rw[hwa];exact(((Ext.refl _).alloc _).alloc _).alloc _
 obtain⟨b6,hb6⟩:∃ b6:Nat,b6=w.heap.size:=⟨_,rfl⟩
 have hb0:wa.heap[b6]?=some (.cells #[.slice sa sn sc] 31 (0,0)):=by rw[hwa,hb6];exact blk_alloc (blk_alloc (alloc_new w _))
 have hb1:wa.heap[b6+1]?=some (.cells #[.int .i64 op,.string name,.slice aw nw cw,.int .i64 lo,.int .i64 hi,.slice aa na ca] 26 (0,0)):=by rw[hwa,hb6];exact blk_alloc (alloc_atR (by simp))
 have hb2:wa.heap[b6+1+1]?=some (.cells #[.bool pb,.int .i64 pk,.slice pa pn pc] 40 (0,0)):=by rw[hwa,hb6];exact alloc_atR (by simp)
 have HXA:=hI hxa
 have HB0:=hI hb0
 have HB1:=hI hb1
 have HB2:=hI hb2
 go_enter Tryz.func23,Tryz.ntmps23
 go_upto_region 1 with fail
 rw[<-hwa,<-hb6]
 clear hwa hb6
 obtain⟨f0,f1,f2,f3,f4,f5,ff⟩:=blk6 hb1
 obtain⟨e0,ef⟩:=blk1 hb0
 clear hxa hb0 hb1 hb2
 go_wp2_with fail
 refine(HIX.out wa HXA.out).mono ?_
 rintro r w2 ⟨rfl,hx2⟩
 have HX2:=hI (HXA.out.trans hx2)
 have HS2:=hI (hx2.blk HB0.out)
 have HE2:=hI (hx2.blk HB1.out)
 have HP2:=hI (hx2.blk HB2.out)
 clear hx2 f0 f1 f2 f3 f4 f5 ff e0 ef HB0 HB1 HB2 HXA HIX
 unfold optV
 obtain⟨i0,hi0⟩:∃ i0:Int,i0=(((attrAt s name).getD 0:Nat):Int):=⟨_,rfl⟩
 obtain⟨is0,his0⟩:∃ b,b=(attrAt s name).isSome:=⟨_,rfl⟩
 rw[<-hi0,<-his0]
 clear hi0 his0
 obtain⟨f0,f1,f2,f3,f4,f5,ff⟩:=blk6 HE2.out
 obtain⟨e0,ef⟩:=blk1 HS2.out
 obtain⟨r0,r1,r2,rf⟩:=blk3 HP2.out
 have t6:(op==6)=false:=by rcases hop with ⟨rfl,-⟩|⟨rfl,-⟩<;>rfl
 have t3:(op==3)=false:=by rcases hop with ⟨rfl,-⟩|⟨rfl,-⟩<;>rfl
 rcases hop with ⟨hop,hV⟩|⟨hop,hV⟩
 case' inl=>have t7:(op==7)=true:=by rw[hop];rfl
 case' inr =>
  have t7:(op==7)=false:=by rw[hop];rfl
  have t8:(op==8)=true:=by rw[hop];rfl
 all_goals
 clear hop
 go_upto_region 12 with fail
 go_wp2_with fail
 clear hV
 by_cases hk:0<=pk
 case neg =>
  have t1:decide (0<=pk)=false:=decide_eq_false hk
  have HQ:=hI (show R=false by rw[HR.out,<-HP.out.parts.2.1];simp[hk])
  clear hk
  go_quiet (fail)
  go_wp2_with fail
  go_ret
  exact givesE_bool (by rw[HQ.out]) (HX2.out.drewN _)
 obtain⟨k,rfl⟩:∃ k:Nat,pk=(k:Int):=⟨pk.toNat,by omega⟩
 have t1:decide ((0:Int)<=(k:Int))=true:=decide_eq_true hk
 clear hk
 have hnb:na<=1000000:=by have:=HNA.out;have:=HFE.out;omega
 by_cases hkn:k < na
 case neg =>
  have t2:decide (k < na)=false:=decide_eq_false (by omega)
  have HQ:=hI (show R=false by
   have h0:args[k]?=none:=List.getElem?_eq_none (by have:=HNA.out;omega)
   have h1:p.pick.toNat=k:=by rw[<-HP.out.parts.2.1];simp
   rw[HR.out,h1,h0];cases p.args<;>simp)
  clear hkn
  go_quiet (fail)
  go_wp2_with fail
  go_ret
  exact givesE_bool (by rw[HQ.out]) (HX2.out.drewN _)
 have t2:decide (k < na)=true:=decide_eq_true (by omega)
 by_cases hn:pn=1
 case neg =>
  have t4:((pn:Int)==1)=false:=by simp;omega
  have HQ:=hI (show R=false by rw[HR.out];have:=HP.out.parts.2.2.1;simp only at this;rw[show decide (p.args.length=1)=false from decide_eq_false (by omega)];simp)
  clear hn
  go_quiet (fail)
  go_wp2_with fail
  go_ret
  exact givesE_bool (by rw[HQ.out]) (HX2.out.drewN _)
 subst hn
 obtain⟨b,off,qv,hpa,hq,m0,m1,m2⟩:=HP.out.parts.2.2.2.2.2 0 (by have:=HP.out.parts.2.2.1;simp only at this;omega)
 simp only at hpa
 subst hpa
 simp only[Nat.zero_mul,Nat.add_zero] at m0 m1 m2
 have c0:=HX2.out.cell m0
 have c1:=HX2.out.cell m1
 have c2:=HX2.out.cell m2
 obtain⟨q1,hq1⟩:∃ q1,p.args=[q1]:=len_one (by have:=HP.out.parts.2.2.1;simp only at this;omega)
 simp only[hq1,List.getElem_cons_zero] at hq
 have HQ1:=hI hq1
 have HPQ:=hI hq
 have HPB:=hI (show pb=p.value from HP.out.parts.1)
 have HPK:=hI (show (k:Int)=p.pick from HP.out.parts.2.1)
 have HQB:=hI (show qv.value=q1.value from hq.parts.1)
 clear hq1 hq m0 m1 m2
 obtain⟨qb,qk,qa,qn,qc⟩:=qv
 simp only at HQB c0 c1 c2
 have hka:k < args.length:=by have:=HNA.out;omega
 obtain⟨xb,xo,rfl,aw1,nw1,cw1,aa1,na1,ca1,g0,g1,g2,g3,g4,g5,m6⟩:=ExsD.at args _ (ExsD.ext HX2.out args _ HX.out) k hka
 have M6:=hI m6
 have hHPA:=fun W (hW:Ext w2 W)=>HARG.out k hka _ q1 ⟨qb,qk,qa,qn,qc⟩ W (HX2.out.trans hW) (M6.out.ext hW) (HPQ.out.ext (HX2.out.trans hW))
 obtain⟨B,hB⟩:∃ B,B=prvF s l f (g+1) args[k] q1:=⟨_,rfl⟩
 rw[<-hB] at hHPA
 have HBE:=hI hB
 unfold PrV.val exV at hHPA
 have HPA:=hI hHPA
 obtain⟨x0,hx0⟩:∃ x0,x0=args[k].op:=⟨_,rfl⟩
 obtain⟨x1,hx1⟩:∃ x1,x1=args[k].name:=⟨_,rfl⟩
 obtain⟨x5,hx5⟩:∃ x5,x5=args[k].lo:=⟨_,rfl⟩
 obtain⟨x6,hx6⟩:∃ x6,x6=args[k].hi:=⟨_,rfl⟩
 rw[<-hx0] at g0 HPA
 rw[<-hx1] at g1 HPA
 rw[<-hx5] at g3 HPA
 rw[<-hx6] at g4 HPA
 clear hB m6 hHPA hx0 hx1 hx5 hx6 HARG
 have HRB:=hI (show R=(B&&(qb==pb)) by
  have h1:p.pick.toNat=k:=by rw[<-HPK.out];simp
  rw[HR.out,h1,List.getElem?_eq_getElem hka,HQ1.out,<-HPK.out,HBE.out,HPB.out,HQB.out]
  simp)
 cases B
 ·have HF:=hI (show R=false by rw[HRB.out];rfl)
  refine wp_region_growS (n:=241) (m:=44) [43] (GrGS w2) GrE (GrP (rpv13F op k b6 sa sn sc a n c fa fn fc pb b off pc qb qk qa qn qc name aw nw cw lo hi xb xo na ca x0 x1 aw1 nw1 cw1 x5 x6 aa1 na1 ca1 )) (by kernel_rfl) (by kernel_rfl) (Nat.le_of_ble_eq_true rfl) (fun i=>[34,35,36,37,38,39,40,41].contains i) ?sg ?gd ?sk ((Ext.refl w2).drew) ?_ ?_ ?_
  case sg =>
   intro i o hi hs ho
   have hi':i=0\/i=1\/i=2\/i=3\/i=4\/i=5\/i=6\/i=7\/i=8\/i=9\/i=10\/i=11\/i=12\/i=13\/i=14\/i=15\/i=16\/i=17\/i=18\/i=19\/i=20\/i=21\/i=22\/i=23\/i=24\/i=25\/i=26\/i=27\/i=28\/i=29\/i=30\/i=31\/i=32\/i=33\/i=34\/i=35\/i=36\/i=37\/i=38\/i=39\/i=40\/i=41\/i=42\/i=43:=by omega
   rcases hi' with rfl|rfl|rfl|rfl|rfl|rfl|rfl|rfl|rfl|rfl|rfl|rfl|rfl|rfl|rfl|rfl|rfl|rfl|rfl|rfl|rfl|rfl|rfl|rfl|rfl|rfl|rfl|rfl|rfl|rfl|rfl|rfl|rfl|rfl|rfl|rfl|rfl|rfl|rfl|rfl|rfl|rfl|rfl|rfl<;>(cases ho;first|(exact absurd hs (by decide);done)|exact nofun)
  case gd =>
   intro i o j b hi ho hg
   have hi':i=0\/i=1\/i=2\/i=3\/i=4\/i=5\/i=6\/i=7\/i=8\/i=9\/i=10\/i=11\/i=12\/i=13\/i=14\/i=15\/i=16\/i=17\/i=18\/i=19\/i=20\/i=21\/i=22\/i=23\/i=24\/i=25\/i=26\/i=27\/i=28\/i=29\/i=30\/i=31\/i=32\/i=33\/i=34\/i=35\/i=36\/i=37\/i=38\/i=39\/i=40\/i=41\/i=42\/i=43:=by omega
   rcases hi' with rfl|rfl|rfl|rfl|rfl|rfl|rfl|rfl|rfl|rfl|rfl|rfl|rfl|rfl|rfl|rfl|rfl|rfl|rfl|rfl|rfl|rfl|rfl|rfl|rfl|rfl|rfl|rfl|rfl|rfl|rfl|rfl|rfl|rfl|rfl|rfl|rfl|rfl|rfl|rfl|rfl|rfl|rfl|rfl<;>(cases ho;first|(cases hg;done)|(cases hg;intro v W h;first|(rw[if_neg (by decide)];exact h)|(rw[if_pos (by decide)];intro e;first|(rw[show v=.bool false from h] at e;cases e;done)|(rw[show v=.bool true from h] at e;cases e;done)|(rw[show v=undef from h] at e;cases e;done))))
  case sk =>
   intro i hi hs L vs W hiL hG
   have hi':i=0\/i=1\/i=2\/i=3\/i=4\/i=5\/i=6\/i=7\/i=8\/i=9\/i=10\/i=11\/i=12\/i=13\/i=14\/i=15\/i=16\/i=17\/i=18\/i=19\/i=20\/i=21\/i=22\/i=23\/i=24\/i=25\/i=26\/i=27\/i=28\/i=29\/i=30\/i=31\/i=32\/i=33\/i=34\/i=35\/i=36\/i=37\/i=38\/i=39\/i=40\/i=41\/i=42\/i=43:=by omega
   rcases hi' with rfl|rfl|rfl|rfl|rfl|rfl|rfl|rfl|rfl|rfl|rfl|rfl|rfl|rfl|rfl|rfl|rfl|rfl|rfl|rfl|rfl|rfl|rfl|rfl|rfl|rfl|rfl|rfl|rfl|rfl|rfl|rfl|rfl|rfl|rfl|rfl|rfl|rfl|rfl|rfl|rfl|rfl|rfl|rfl<;>first|(exact absurd hs (by decide);done)|exact⟨Ext.refl W,hG,rfl⟩
  ·intro i k v W W' hi hk hne hout h hE
   have hE:Ext W W':=hE
   have hi':i=0\/i=1\/i=2\/i=3\/i=4\/i=5\/i=6\/i=7\/i=8\/i=9\/i=10\/i=11\/i=12\/i=13\/i=14\/i=15\/i=16\/i=17\/i=18\/i=19\/i=20\/i=21\/i=22\/i=23\/i=24\/i=25\/i=26\/i=27\/i=28\/i=29\/i=30\/i=31\/i=32\/i=33\/i=34\/i=35\/i=36\/i=37\/i=38\/i=39\/i=40\/i=41\/i=42\/i=43:=by omega
   clear hi hk hne hout
   rcases hi' with rfl|rfl|rfl|rfl|rfl|rfl|rfl|rfl|rfl|rfl|rfl|rfl|rfl|rfl|rfl|rfl|rfl|rfl|rfl|rfl|rfl|rfl|rfl|rfl|rfl|rfl|rfl|rfl|rfl|rfl|rfl|rfl|rfl|rfl|rfl|rfl|rfl|rfl|rfl|rfl|rfl|rfl|rfl|rfl
   ·exact h
   ·exact h
   ·exact h
   ·exact h
   ·exact h
   ·exact h
   ·exact h
   ·exact h
   ·exact h
   ·exact h
   ·exact h
   ·exact h
   ·exact h
   ·exact h
   ·exact h
   ·exact h
   ·exact h
   ·exact h
   ·exact h
   ·exact h
   ·exact h
   ·exact h
   ·exact h
   ·exact h
   ·exact h
   ·exact h
   ·exact h
   ·exact h
   ·exact h
   ·exact h
   ·exact h
   ·exact h
   ·exact h
   ·exact h
   ·exact h
   ·exact h
   ·exact h
   ·exact h
   ·exact h
   ·exact h
   ·exact h
   ·exact h
   ·exact h
   exact h
  ·intro q op hq hsq ho L vs W hqL hcL hW hd ρ hρ
   have hq':q=0\/q=1\/q=2\/q=3\/q=4\/q=5\/q=6\/q=7\/q=8\/q=9\/q=10\/q=11\/q=12\/q=13\/q=14\/q=15\/q=16\/q=17\/q=18\/q=19\/q=20\/q=21\/q=22\/q=23\/q=24\/q=25\/q=26\/q=27\/q=28\/q=29\/q=30\/q=31\/q=32\/q=33\/q=34\/q=35\/q=36\/q=37\/q=38\/q=39\/q=40\/q=41\/q=42\/q=43:=by omega
   clear hq
   have o9:ρ (.tmp 9)=.pointer (some ⟨b6+1+1,0,none⟩):=hρ.out 9 rfl
   have i0:=hρ.i 0 134
   have i1:=hρ.i 1 135
   have i2:=hρ.i 2 136
   have i4:=hρ.i 4 138
   have o7:ρ (.tmp 7)=.pointer (some ⟨b6+1,0,none⟩):=hρ.out 7 rfl
   have i6:=hρ.i 6 140
   have i7:=hρ.i 7 141
   have i5:=hρ.i 5 139
   have i8:=hρ.i 8 142
   have i3:=hρ.i 3 137
   have i9:=hρ.i 9 143
   have i10:=hρ.i 10 144
   have i12:=hρ.i 12 146
   have i13:=hρ.i 13 147
   have i14:=hρ.i 14 148
   have i11:=hρ.i 11 145
   have i15:=hρ.i 15 149
   have i16:=hρ.i 16 150
   have o5:ρ (.tmp 5)=.pointer (some ⟨b6,0,none⟩):=hρ.out 5 rfl
   have o1:ρ (.tmp 1)=.slice a n c:=hρ.out 1 rfl
   have i20:=hρ.i 20 154
   have i22:=hρ.i 22 156
   have i21:=hρ.i 21 155
   have i23:=hρ.i 23 157
   have i24:=hρ.i 24 158
   have o3:ρ (.tmp 3)=.slice fa fn fc:=hρ.out 3 rfl
   have i27:=hρ.i 27 161
   have i28:=hρ.i 28 162
   have i29:=hρ.i 29 163
   have i18:=hρ.i 18 152
   have i19:=hρ.i 19 153
   have i25:=hρ.i 25 159
   have i26:=hρ.i 26 160
   have i30:=hρ.i 30 164
   have i17:=hρ.i 17 151
   have i31:=hρ.i 31 165
   have i32:=hρ.i 32 166
   have i34:=hρ.i 34 168
   have i35:=hρ.i 35 169
   have i36:=hρ.i 36 170
   have i37:=hρ.i 37 171
   have i39:=hρ.i 39 173
   have i38:=hρ.i 38 172
   have i40:=hρ.i 40 174
   have i33:=hρ.i 33 167
   have i41:=hρ.i 41 175
   have i42:=hρ.i 42 176
   have hc:=hρ.const
   have hfn:=hρ.func
   clear hρ
   have HG:=hI hW
   have HW:=hI (show Ext w2 W from hW)
   have HQL:=hI hqL
   clear hW hqL hcL
   have kf0:=HW.out.cell e0
   have kf1:=HW.out.cell f5
   have kf2:=HW.out.cell r1
   have kf3:=HW.out.cell r2
   have kf4:=HW.out.cell g0
   have kf5:=HW.out.cell g1
   have kf6:=HW.out.cell g2
   have kf7:=HW.out.cell g3
   have kf8:=HW.out.cell g4
   have kf9:=HW.out.cell g5
   have kf10:=HW.out.cell c0
   have kf11:=HW.out.cell c1
   have kf12:=HW.out.cell c2
   by_cases hs31:q=31
   ·subst hs31
    clear hq'
    clear hsq
    cases ho
    have h18:vs 18=_:=hd ⟨18,.data⟩ (by simp) rfl
    rw[h18] at i18
    have h19:vs 19=_:=hd ⟨19,.data⟩ (by simp) rfl
    rw[h19] at i19
    have h25:vs 25=_:=hd ⟨25,.data⟩ (by simp) rfl
    rw[h25] at i25
    have h26:vs 26=_:=hd ⟨26,.data⟩ (by simp) rfl
    rw[h26] at i26
    have h30:vs 30=_:=hd ⟨30,.data⟩ (by simp) rfl
    rw[h30] at i30
    clear hd
    unfold GivesOp
    go_simp
    refine(HPA.out W HW.out).mono ?_
    rintro e5 w5 ⟨rfl,hx5⟩
    exact⟨_,rfl,hx5,HW.out.trans hx5,rfl⟩
   rcases hq' with rfl|rfl|rfl|rfl|rfl|rfl|rfl|rfl|rfl|rfl|rfl|rfl|rfl|rfl|rfl|rfl|rfl|rfl|rfl|rfl|rfl|rfl|rfl|rfl|rfl|rfl|rfl|rfl|rfl|rfl|rfl|rfl|rfl|rfl|rfl|rfl|rfl|rfl|rfl|rfl|rfl|rfl|rfl|rfl
   all_goals first|(exact absurd rfl hs31;done)|(exact absurd hsq (by decide);done)|skip
   all_goals
    cases ho
    simp[isDataG,GrP,rpv13F] at hd
    clear hs31 hsq
    unfold GivesOp
    go_simp
    exact⟨Ext.refl _,HW.out,rfl⟩
  intro L vs W hLm hW hR
  rw[if_pos (by decide +kernel)]
  have h43:vs 43=.bool false:=hR 43 (by simp) (by omega)
  simp only[acts,dstAt,List.range,List.range.loop,List.foldl_cons,List.foldl_nil,h43]
  go_simp
  have hW2:Ext w2 W:=hW
  clear hR hW hLm h43
  go_wp2_with fail
  go_ret
  exact givesE_bool (by rw[HF.out]) (HX2.out.trans hW2)
 have HF:=hI (show R=(qb==pb) by rw[HRB.out];simp)
 refine wp_region_growS (n:=241) (m:=44) [43] (GrGS w2) GrE (GrP (rpv13T op k b6 sa sn sc a n c fa fn fc pb b off pc qb qk qa qn qc name aw nw cw lo hi xb xo na ca x0 x1 aw1 nw1 cw1 x5 x6 aa1 na1 ca1 )) (by kernel_rfl) (by kernel_rfl) (Nat.le_of_ble_eq_true rfl) (fun i=>[].contains i) ?sg ?gd ?sk ((Ext.refl w2).drew) ?_ ?_ ?_
 case sg =>
  intro i o hi hs ho
  have hi':i=0\/i=1\/i=2\/i=3\/i=4\/i=5\/i=6\/i=7\/i=8\/i=9\/i=10\/i=11\/i=12\/i=13\/i=14\/i=15\/i=16\/i=17\/i=18\/i=19\/i=20\/i=21\/i=22\/i=23\/i=24\/i=25\/i=26\/i=27\/i=28\/i=29\/i=30\/i=31\/i=32\/i=33\/i=34\/i=35\/i=36\/i=37\/i=38\/i=39\/i=40\/i=41\/i=42\/i=43:=by omega
  rcases hi' with rfl|rfl|rfl|rfl|rfl|rfl|rfl|rfl|rfl|rfl|rfl|rfl|rfl|rfl|rfl|rfl|rfl|rfl|rfl|rfl|rfl|rfl|rfl|rfl|rfl|rfl|rfl|rfl|rfl|rfl|rfl|rfl|rfl|rfl|rfl|rfl|rfl|rfl|rfl|rfl|rfl|rfl|rfl|rfl<;>(cases ho;first|(exact absurd hs (by decide);done)|exact nofun)
 case gd =>
  intro i o j b hi ho hg
  have hi':i=0\/i=1\/i=2\/i=3\/i=4\/i=5\/i=6\/i=7\/i=8\/i=9\/i=10\/i=11\/i=12\/i=13\/i=14\/i=15\/i=16\/i=17\/i=18\/i=19\/i=20\/i=21\/i=22\/i=23\/i=24\/i=25\/i=26\/i=27\/i=28\/i=29\/i=30\/i=31\/i=32\/i=33\/i=34\/i=35\/i=36\/i=37\/i=38\/i=39\/i=40\/i=41\/i=42\/i=43:=by omega
  rcases hi' with rfl|rfl|rfl|rfl|rfl|rfl|rfl|rfl|rfl|rfl|rfl|rfl|rfl|rfl|rfl|rfl|rfl|rfl|rfl|rfl|rfl|rfl|rfl|rfl|rfl|rfl|rfl|rfl|rfl|rfl|rfl|rfl|rfl|rfl|rfl|rfl|rfl|rfl|rfl|rfl|rfl|rfl|rfl|rfl<;>(cases ho;first|(cases hg;done)|(cases hg;intro v W h;first|(rw[if_neg (by decide)];exact h)|(rw[if_pos (by decide)];intro e;first|(rw[show v=.bool false from h] at e;cases e;done)|(rw[show v=.bool true from h] at e;cases e;done)|(rw[show v=undef from h] at e;cases e;done))))
 case sk =>
  intro i hi hs L vs W hiL hG
  have hi':i=0\/i=1\/i=2\/i=3\/i=4\/i=5\/i=6\/i=7\/i=8\/i=9\/i=10\/i=11\/i=12\/i=13\/i=14\/i=15\/i=16\/i=17\/i=18\/i=19\/i=20\/i=21\/i=22\/i=23\/i=24\/i=25\/i=26\/i=27\/i=28\/i=29\/i=30\/i=31\/i=32\/i=33\/i=34\/i=35\/i=36\/i=37\/i=38\/i=39\/i=40\/i=41\/i=42\/i=43:=by omega
  rcases hi' with rfl|rfl|rfl|rfl|rfl|rfl|rfl|rfl|rfl|rfl|rfl|rfl|rfl|rfl|rfl|rfl|rfl|rfl|rfl|rfl|rfl|rfl|rfl|rfl|rfl|rfl|rfl|rfl|rfl|rfl|rfl|rfl|rfl|rfl|rfl|rfl|rfl|rfl|rfl|rfl|rfl|rfl|rfl|rfl<;>first|(exact absurd hs (by decide);done)|exact⟨Ext.refl W,hG,rfl⟩
 ·intro i k v W W' hi hk hne hout h hE
  have hE:Ext W W':=hE
  have hi':i=0\/i=1\/i=2\/i=3\/i=4\/i=5\/i=6\/i=7\/i=8\/i=9\/i=10\/i=11\/i=12\/i=13\/i=14\/i=15\/i=16\/i=17\/i=18\/i=19\/i=20\/i=21\/i=22\/i=23\/i=24\/i=25\/i=26\/i=27\/i=28\/i=29\/i=30\/i=31\/i=32\/i=33\/i=34\/i=35\/i=36\/i=37\/i=38\/i=39\/i=40\/i=41\/i=42\/i=43:=by omega
  clear hi hk hne hout
  rcases hi' with rfl|rfl|rfl|rfl|rfl|rfl|rfl|rfl|rfl|rfl|rfl|rfl|rfl|rfl|rfl|rfl|rfl|rfl|rfl|rfl|rfl|rfl|rfl|rfl|rfl|rfl|rfl|rfl|rfl|rfl|rfl|rfl|rfl|rfl|rfl|rfl|rfl|rfl|rfl|rfl|rfl|rfl|rfl|rfl
  ·exact h
  ·exact h
  ·exact h
  ·exact h
  ·exact h
  ·exact h
  ·exact h
  ·exact h
  ·exact h
  ·exact h
  ·exact h
  ·exact h
  ·exact h
  ·exact h
  ·exact h
  ·exact h
  ·exact h
  ·exact h
  ·exact h
  ·exact h
  ·exact h
  ·exact h
  ·exact h
  ·exact h
  ·exact h
  ·exact h
  ·exact h
  ·exact h
  ·exact h
  ·exact h
  ·exact h
  ·exact h
  ·exact h
  ·exact h
  ·exact h
  ·exact h
  ·exact h
  ·exact h
  ·exact h
  ·exact h
  ·exact h
  ·exact h
  ·exact h
  exact h
 ·intro q op hq hsq ho L vs W hqL hcL hW hd ρ hρ
  have hq':q=0\/q=1\/q=2\/q=3\/q=4\/q=5\/q=6\/q=7\/q=8\/q=9\/q=10\/q=11\/q=12\/q=13\/q=14\/q=15\/q=16\/q=17\/q=18\/q=19\/q=20\/q=21\/q=22\/q=23\/q=24\/q=25\/q=26\/q=27\/q=28\/q=29\/q=30\/q=31\/q=32\/q=33\/q=34\/q=35\/q=36\/q=37\/q=38\/q=39\/q=40\/q=41\/q=42\/q=43:=by omega
  clear hq
  have o9:ρ (.tmp 9)=.pointer (some ⟨b6+1+1,0,none⟩):=hρ.out 9 rfl
  have i0:=hρ.i 0 134
  have i1:=hρ.i 1 135
  have i2:=hρ.i 2 136
  have i4:=hρ.i 4 138
  have o7:ρ (.tmp 7)=.pointer (some ⟨b6+1,0,none⟩):=hρ.out 7 rfl
  have i6:=hρ.i 6 140
  have i7:=hρ.i 7 141
  have i5:=hρ.i 5 139
  have i8:=hρ.i 8 142
  have i3:=hρ.i 3 137
  have i9:=hρ.i 9 143
  have i10:=hρ.i 10 144
  have i12:=hρ.i 12 146
  have i13:=hρ.i 13 147
  have i14:=hρ.i 14 148
  have i11:=hρ.i 11 145
  have i15:=hρ.i 15 149
  have i16:=hρ.i 16 150
  have o5:ρ (.tmp 5)=.pointer (some ⟨b6,0,none⟩):=hρ.out 5 rfl
  have o1:ρ (.tmp 1)=.slice a n c:=hρ.out 1 rfl
  have i20:=hρ.i 20 154
  have i22:=hρ.i 22 156
  have i21:=hρ.i 21 155
  have i23:=hρ.i 23 157
  have i24:=hρ.i 24 158
  have o3:ρ (.tmp 3)=.slice fa fn fc:=hρ.out 3 rfl
  have i27:=hρ.i 27 161
  have i28:=hρ.i 28 162
  have i29:=hρ.i 29 163
  have i18:=hρ.i 18 152
  have i19:=hρ.i 19 153
  have i25:=hρ.i 25 159
  have i26:=hρ.i 26 160
  have i30:=hρ.i 30 164
  have i17:=hρ.i 17 151
  have i31:=hρ.i 31 165
  have i32:=hρ.i 32 166
  have i34:=hρ.i 34 168
  have i35:=hρ.i 35 169
  have i36:=hρ.i 36 170
  have i37:=hρ.i 37 171
  have i39:=hρ.i 39 173
  have i38:=hρ.i 38 172
  have i40:=hρ.i 40 174
  have i33:=hρ.i 33 167
  have i41:=hρ.i 41 175
  have i42:=hρ.i 42 176
  have hc:=hρ.const
  have hfn:=hρ.func
  clear hρ
  have HG:=hI hW
  have HW:=hI (show Ext w2 W from hW)
  have HQL:=hI hqL
  clear hW hqL hcL
  have kf0:=HW.out.cell e0
  have kf1:=HW.out.cell f5
  have kf2:=HW.out.cell r0
  have kf3:=HW.out.cell r1
  have kf4:=HW.out.cell r2
  have kf5:=HW.out.cell g0
  have kf6:=HW.out.cell g1
  have kf7:=HW.out.cell g2
  have kf8:=HW.out.cell g3
  have kf9:=HW.out.cell g4
  have kf10:=HW.out.cell g5
  have kf11:=HW.out.cell c0
  have kf12:=HW.out.cell c1
  have kf13:=HW.out.cell c2
  by_cases hs31:q=31
  ·subst hs31
   clear hq'
   clear hsq
   cases ho
   have h18:vs 18=_:=hd ⟨18,.data⟩ (by simp) rfl
   rw[h18] at i18
   have h19:vs 19=_:=hd ⟨19,.data⟩ (by simp) rfl
   rw[h19] at i19
   have h25:vs 25=_:=hd ⟨25,.data⟩ (by simp) rfl
   rw[h25] at i25
   have h26:vs 26=_:=hd ⟨26,.data⟩ (by simp) rfl
   rw[h26] at i26
   have h30:vs 30=_:=hd ⟨30,.data⟩ (by simp) rfl
   rw[h30] at i30
   clear hd
   unfold GivesOp
   go_simp
   refine(HPA.out W HW.out).mono ?_
   rintro e5 w5 ⟨rfl,hx5⟩
   exact⟨_,rfl,hx5,HW.out.trans hx5,rfl⟩
  rcases hq' with rfl|rfl|rfl|rfl|rfl|rfl|rfl|rfl|rfl|rfl|rfl|rfl|rfl|rfl|rfl|rfl|rfl|rfl|rfl|rfl|rfl|rfl|rfl|rfl|rfl|rfl|rfl|rfl|rfl|rfl|rfl|rfl|rfl|rfl|rfl|rfl|rfl|rfl|rfl|rfl|rfl|rfl|rfl|rfl
  all_goals first|(exact absurd rfl hs31;done)|skip
  all_goals
   cases ho
   simp[isDataG,GrP,rpv13T] at hd
   clear hs31 hsq
   unfold GivesOp
   go_simp
   exact⟨Ext.refl _,HW.out,rfl⟩
 intro L vs W hLm hW hR
 rw[if_pos (by decide +kernel)]
 have h43:vs 43=.bool (qb==pb):=hR 43 (by simp) (by omega)
 simp only[acts,dstAt,List.range,List.range.loop,List.foldl_cons,List.foldl_nil,h43]
 go_simp
 have hW2:Ext w2 W:=hW
 clear hR hW hLm h43
 go_wp2_with fail
 go_ret
 exact givesE_bool (by rw[HF.out]) (HX2.out.trans hW2)
end Go.Proofs.YtpkljcgihobaiaaGreatDoor
