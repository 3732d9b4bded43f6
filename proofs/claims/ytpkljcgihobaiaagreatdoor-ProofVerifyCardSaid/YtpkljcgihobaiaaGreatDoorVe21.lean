/-
  Texts of the claim, joined: Chkd, Value, Prove.
-/
import Derived.Test.YtpkljcgihobaiaaGreatDoorVe20
namespace Go.Proofs.YtpkljcgihobaiaaGreatDoor
set_option maxRecDepth 100000
set_option maxHeartbeats 32000000
open Go.RowKit Go.Maps
def put3 (w:World) (B:Nat) (v0 v1 v2:Value):World:=((w.setCell ⟨B,0,none⟩ v0).setCell ⟨B,1,none⟩ v1).setCell ⟨B,2,none⟩ v2
theorem put3_blk {w:World} {B:Nat} {u0 u1 u2:Value} {t:TypeId} (h:w.heap[B]?=some (.cells #[u0,u1,u2] t (0,0))) (v0 v1 v2:Value):(put3 w B v0 v1 v2).heap[B]?=some (.cells #[v0,v1,v2] t (0,0)):=by
 unfold put3
 have h0:=heap_setCell_same w B 0 _ _ v0 h
 have h1:=heap_setCell_same _ B 1 _ _ v1 h0
 have h2:=heap_setCell_same _ B 2 _ _ v2 h1
 rw[h2];rfl
theorem put3_chg (w:World) (B:Nat) (v0 v1 v2:Value) {N:ZN} (h:B∈N):Chg N w (put3 w B v0 v1 v2):=by
 unfold put3
 exact(((Chg.refl _ _).setCell (Or.inl h) _).setCell (Or.inl h) _).setCell (Or.inl h) _
def lossZero:Value:=.agg #[.slice none 0 0,.map none,.slice none 0 0]
def CheckedQ (s:List Attr) (l:List Cla) (e:Ex) (f:ZI) (n:Nat) (w:World) (r:Ending) (w':World):Prop:=Ext w w'/\((evalErr s l e f≠0/\r=.returned (.tuple #[lossZero,.int .i64 (evalErr s l e f)]))\/(evalErr s l e f=0/\∃ lv:LossV,r=.returned (.tuple #[lv.val,.int .i64 0])/\IsLoss w' s l f lv n))
theorem Chk.fresh {s:List Attr} {l:List Cla} (h:Chk s l) {k:Nat} (hk:k < l.length):defAt (l.take k) l[k].name=none:=by
 cases hd:defAt (l.take k) l[k].name with
 | none=>rfl
 | some d =>
  obtain⟨h1,_,h3⟩:=defAt_atK hd
  have hdk:d < k:=by simp at h1;omega
  have:=h.uniq k d hk hdk
  rw[getD_take hdk] at h3
  rw[h3,getD_clK hk] at this
  exact absurd rfl this
theorem checked_calls (s:List Attr) (l:List Cla) (e:Ex) (f:ZI) (ev sv:Value) (a:OA) (n c:Nat) (fa:OA) (fn fc:Nat) (w:World) (hs:IsSchema w s sv) (hf:∀ x∈s,x.fits) (hsl:s.length<=1000000000000000) (hl:IsClas w l a n c) (hn:n<=1000000) (hok:∀ x∈l,x.fit) (he:IsEx w e ev) (hfew:e.few) (hfit:e.fits) (hi:IsIntF w f fa fn) (hfn:fn<=1000000000000000) (ho:HasOps w) :
  Calls Tryz.prog 31 #[sv,.slice a n c,ev,.slice fa fn fc] w (CheckedQ s l e f n w):=by
 obtain⟨sa,sn,sc,rfl,hsn⟩:=hs.slice
 have HCL:=hI (fun W (hW:Ext w W)=>cClauses_calls s l _ a n c W (hs.ext hW) hf hsl (hl.ext hW) (by omega) hok (ho.ext hW))
 have HEX:=hI (fun W (hW:Ext w W)=>checkExpr_calls s l a n c e ev _ W hf hsl (hl.ext hW) hn (fun x hx=>(hok x hx).1) hfew hfit (ho.ext hW) (hs.ext hW) (he.ext hW))
 have HXP:=hI (fun (h1:(clausesErr s l).2=0) (h2:exprErr s l e=0) W (hW:Ext w W)=>cExpanded_calls l a n c e ev W (hl.ext hW) (he.ext hW) ⟨by have:=ref_size (exprErr_ref h2);omega,hfit,ref_bare (exprErr_ref h2)⟩ (by rw[hl.len];have:=(chk_of h1).len;omega) (fun x hx=>⟨(hok x hx).1,by have:=(chk_of h1).size x hx;omega,(hok x hx).2.1,ref_bare ((chk_of h1).good x hx).2.2.1⟩))
 have HFC:=hI (fun W (hW:Ext w W)=>sValid_calls s _ f fa fn fc W (hs.ext hW) hf hsl (hi.ext hW) hfn)
 have HCK:=hI (fun (h1:(clausesErr s l).2=0)=>chk_of h1)
 have HL:=hI hl
 have HS:=hI hs
 have HI:=hI hi
 have HSZ:=hI (fun x hx=>(hok x hx).1)
 have HN:=hI hl.len
 obtain⟨aw,nw,cw,aa,na,ca,rfl,-⟩:=he.parts
 obtain⟨R,hR⟩:∃ R,R=evalErr s l e f:=⟨_,rfl⟩
 unfold CheckedQ
 rw[<-hR]
 unfold evalErr at hR
 obtain⟨⟨i0,E1⟩,hE1⟩:∃ E:Nat×Int,E=clausesErr s l:=⟨_,rfl⟩
 rw[<-hE1] at HCL hR
 have HXP1:=hI (fun (h1:E1=0)=>HXP.out (by rw[<-hE1];exact h1))
 have HCK1:=hI (fun (h1:E1=0)=>HCK.out (by rw[<-hE1];exact h1))
 clear HXP HCK
 obtain⟨E2,hE2⟩:∃ E,E=exprErr s l e:=⟨_,rfl⟩
 rw[<-hE2] at HEX hR
 have HXP:=hI (fun (h1:E1=0) (h2:E2=0)=>HXP1.out h1 (by rw[<-hE2];exact h2))
 clear HXP1
 obtain⟨X,hX⟩:∃ X,X=expanded l e:=⟨_,rfl⟩
 rw[<-hX] at HXP hR
 obtain⟨B,hB⟩:∃ B,B=factsB s f:=⟨_,rfl⟩
 rw[<-hB] at HFC hR
 have HR:=hI hR
 clear hs hf hsl hl hok he hfew hfit hi hsn hR hE1 hE2 hX hB ho
 unfold exV at *
 obtain⟨wa,hwa⟩:∃ wa,wa=((w.alloc (.cells #[.slice sa sn sc] 31)).alloc (.cells #[.int .i64 e.op,.string e.name,.slice aw nw cw,.int .i64 e.lo,.int .i64 e.hi,.slice aa na ca] 26)).alloc (.cells #[.slice none 0 0,.map none,.slice none 0 0] 71):=⟨_,rfl⟩
 have hxa:Ext w wa:=by rw[hwa];exact(((Ext.refl _).alloc _).alloc _).alloc _
 have hb0:wa.heap[w.heap.size]?=some (.cells #[.slice sa sn sc] 31 (0,0)):=by rw[hwa];exact blk_alloc (blk_alloc (alloc_new w _))
 have hb1:wa.heap[w.heap.size+1]?=some (.cells #[.int .i64 e.op,.string e.name,.slice aw nw cw,.int .i64 e.lo,.int .i64 e.hi,.slice aa na ca] 26 (0,0)):=by rw[hwa];exact blk_alloc (alloc_atR (by simp))
 have hb2:wa.heap[w.heap.size+1+1]?=some (.cells #[.slice none 0 0,.map none,.slice none 0 0] 71 (0,0)):=by rw[hwa];exact alloc_atR (by simp)
 have HXA:=hI hxa
 have HB0:=hI hb0
 have HB1:=hI hb1
 have HB2:=hI hb2
 obtain⟨e0,ef⟩:=blk1 hb0
 clear hxa hb0 hb1 hb2
 unfold clsV at HCL
 go_enter Tryz.func31,Tryz.ntmps31
 go_upto_region 1 with fail
 rw[<-hwa]
 clear hwa
 go_wp2_with fail
 refine(HCL.out wa HXA.out).mono ?_
 rintro r w1 ⟨rfl,hx1⟩
 have HX1:=hI (HXA.out.trans hx1)
 have HB01:=hI (hx1.blk HB0.out)
 have HB11:=hI (hx1.blk HB1.out)
 have HB21:=hI (hx1.blk HB2.out)
 clear hx1 e0 ef HCL HB0 HB1 HB2
 by_cases h1:E1=0
 case neg =>
  have t1:(E1 != 0)=true:=by simp[h1]
  have HQ:=hI (show R=E1 by rw[HR.out,if_pos h1])
  have HNZ:=hI h1
  clear h1
  obtain⟨r0,r1,r2,rf⟩:=blk3 HB21.out
  go_wp2_with fail
  obtain⟨wz,hwz⟩:∃ wz,wz=put3 w1 (w.heap.size+1+1) (.slice none 0 0) (.map none) (.slice none 0 0):=⟨_,rfl⟩
  have HZ:=hI (show wz.heap[w.heap.size+1+1]?=some (.cells #[.slice none 0 0,.map none,.slice none 0 0] 71 (0,0)) by rw[hwz];exact put3_blk HB21.out _ _ _)
  have HXZ:=hI (show Ext w wz by rw[hwz];exact(put3_chg w1 (w.heap.size+1+1) (.slice none 0 0) (.map none) (.slice none 0 0) (N:=[w.heap.size+1+1]) (by simp)).ext HX1.out (fun y hy=>by simp only[List.mem_singleton] at hy;omega))
  unfold put3 at hwz
  rw[<-hwz]
  clear hwz
  obtain⟨z0,z1,z2,zf⟩:=blk3 HZ.out
  refine bodyPost_ret (v:=.tuple #[lossZero,.int .i64 E1]) (by simp[results,Tryz.results31,go_sem,lossZero,z0,z1,z2]) rfl ?_
  exact⟨HXZ.out,Or.inl ⟨by rw[HQ.out];exact HNZ.out,by rw[HQ.out]⟩⟩
 have t1:(E1 != 0)=false:=by simp[h1]
 have HR2:=hI (show R=if E2≠0 then E2 else if 2000 < X then 4 else if B=false then 16 else 0 by rw[HR.out,if_neg (by simpa using h1)])
 have HXP1:=hI (HXP.out h1)
 have HCK:=hI (HCK1.out h1)
 clear h1 HR HXP HCK1
 obtain⟨e0,ef⟩:=blk1 HB01.out
 obtain⟨f0,f1,f2,f3,f4,f5,ff⟩:=blk6 HB11.out
 go_wp2_with fail
 refine(HEX.out w1 HX1.out).mono ?_
 rintro r w2 ⟨rfl,hx2⟩
 have HX2:=hI (HX1.out.trans hx2)
 have HB02:=hI (hx2.blk HB01.out)
 have HB12:=hI (hx2.blk HB11.out)
 have HB22:=hI (hx2.blk HB21.out)
 clear hx2 e0 ef f0 f1 f2 f3 f4 f5 ff HEX
 by_cases h2:E2=0
 case neg =>
  have t2:(E2 != 0)=true:=by simp[h2]
  have HQ:=hI (show R=E2 by rw[HR2.out,if_pos h2])
  have HNZ:=hI h2
  clear h2
  obtain⟨r0,r1,r2,rf⟩:=blk3 HB22.out
  go_wp2_with fail
  obtain⟨wz,hwz⟩:∃ wz,wz=put3 w2 (w.heap.size+1+1) (.slice none 0 0) (.map none) (.slice none 0 0):=⟨_,rfl⟩
  have HZ:=hI (show wz.heap[w.heap.size+1+1]?=some (.cells #[.slice none 0 0,.map none,.slice none 0 0] 71 (0,0)) by rw[hwz];exact put3_blk HB22.out _ _ _)
  have HXZ:=hI (show Ext w wz by rw[hwz];exact(put3_chg w2 (w.heap.size+1+1) (.slice none 0 0) (.map none) (.slice none 0 0) (N:=[w.heap.size+1+1]) (by simp)).ext HX2.out (fun y hy=>by simp only[List.mem_singleton] at hy;omega))
  unfold put3 at hwz
  rw[<-hwz]
  clear hwz
  obtain⟨z0,z1,z2,zf⟩:=blk3 HZ.out
  refine bodyPost_ret (v:=.tuple #[lossZero,.int .i64 E2]) (by simp[results,Tryz.results31,go_sem,lossZero,z0,z1,z2]) rfl ?_
  exact⟨HXZ.out,Or.inl ⟨by rw[HQ.out];exact HNZ.out,by rw[HQ.out]⟩⟩
 have t2:(E2 != 0)=false:=by simp[h2]
 have HR3:=hI (show R=if 2000 < X then 4 else if B=false then 16 else 0 by rw[HR2.out,if_neg (by simpa using h2)])
 have HXP2:=hI (HXP1.out h2)
 clear h2 HR2 HXP1
 obtain⟨f0,f1,f2,f3,f4,f5,ff⟩:=blk6 HB12.out
 go_wp2_with fail
 refine(HXP2.out w2 HX2.out).mono ?_
 rintro r w3 ⟨rfl,hx3⟩
 have HX3:=hI (HX2.out.trans hx3)
 have HB03:=hI (hx3.blk HB02.out)
 have HB23:=hI (hx3.blk HB22.out)
 clear hx3 f0 f1 f2 f3 f4 f5 ff HXP2
 by_cases h3:2000 < X
 case pos =>
  have t3:decide ((2000:Int) < (X:Int))=true:=decide_eq_true (by omega)
  have HQ:=hI (show R=4 by rw[HR3.out,if_pos h3])
  clear h3
  obtain⟨r0,r1,r2,rf⟩:=blk3 HB23.out
  go_wp2_with fail
  obtain⟨wz,hwz⟩:∃ wz,wz=put3 w3 (w.heap.size+1+1) (.slice none 0 0) (.map none) (.slice none 0 0):=⟨_,rfl⟩
  have HZ:=hI (show wz.heap[w.heap.size+1+1]?=some (.cells #[.slice none 0 0,.map none,.slice none 0 0] 71 (0,0)) by rw[hwz];exact put3_blk HB23.out _ _ _)
  have HXZ:=hI (show Ext w wz by rw[hwz];exact(put3_chg w3 (w.heap.size+1+1) (.slice none 0 0) (.map none) (.slice none 0 0) (N:=[w.heap.size+1+1]) (by simp)).ext HX3.out (fun y hy=>by simp only[List.mem_singleton] at hy;omega))
  unfold put3 at hwz
  rw[<-hwz]
  clear hwz
  obtain⟨z0,z1,z2,zf⟩:=blk3 HZ.out
  refine bodyPost_ret (v:=.tuple #[lossZero,.int .i64 4]) (by simp[results,Tryz.results31,go_sem,lossZero,z0,z1,z2]) rfl ?_
  exact⟨HXZ.out,Or.inl ⟨by rw[HQ.out];decide,by rw[HQ.out]⟩⟩
 have t3:decide ((2000:Int) < (X:Int))=false:=decide_eq_false (by omega)
 have HR4:=hI (show R=if B=false then 16 else 0 by rw[HR3.out,if_neg h3])
 clear h3 HR3
 obtain⟨e0,ef⟩:=blk1 HB03.out
 go_wp2_with fail
 refine(HFC.out w3 HX3.out).mono ?_
 rintro r w4 ⟨rfl,hx4⟩
 have HX4:=hI (HX3.out.trans hx4)
 have HB04:=hI (hx4.blk HB03.out)
 have HB24:=hI (hx4.blk HB23.out)
 clear hx4 e0 ef HFC
 cases B
 case false =>
  have HQ:=hI (show R=16 by rw[HR4.out];rfl)
  obtain⟨r0,r1,r2,rf⟩:=blk3 HB24.out
  go_wp2_with fail
  obtain⟨wz,hwz⟩:∃ wz,wz=put3 w4 (w.heap.size+1+1) (.slice none 0 0) (.map none) (.slice none 0 0):=⟨_,rfl⟩
  have HZ:=hI (show wz.heap[w.heap.size+1+1]?=some (.cells #[.slice none 0 0,.map none,.slice none 0 0] 71 (0,0)) by rw[hwz];exact put3_blk HB24.out _ _ _)
  have HXZ:=hI (show Ext w wz by rw[hwz];exact(put3_chg w4 (w.heap.size+1+1) (.slice none 0 0) (.map none) (.slice none 0 0) (N:=[w.heap.size+1+1]) (by simp)).ext HX4.out (fun y hy=>by simp only[List.mem_singleton] at hy;omega))
  unfold put3 at hwz
  rw[<-hwz]
  clear hwz
  obtain⟨z0,z1,z2,zf⟩:=blk3 HZ.out
  refine bodyPost_ret (v:=.tuple #[lossZero,.int .i64 16]) (by simp[results,Tryz.results31,go_sem,lossZero,z0,z1,z2]) rfl ?_
  exact⟨HXZ.out,Or.inl ⟨by rw[HQ.out];decide,by rw[HQ.out]⟩⟩
 have HQ:=hI (show R=0 by rw[HR4.out];rfl)
 have hmm:=@run_makeMap Tryz.prog
 have HM0:=hI (MapAt.made w4 9)
 have HX0:=hI ((Ext.refl w4).alloc (.map #[] 0))
 obtain⟨bf,hbf⟩:∃ bf:Nat,bf=w4.heap.size:=⟨_,rfl⟩
 have HBF:=hI hbf
 have HBW:=hI (show w.heap.size+1+1 < bf by rw[hbf];exact blk_lt HB24.out)
 go_wp2_with fail
 rw[<-hbf]
 rw[<-hbf] at HM0
 clear hbf hmm
 go_loopw [47] (fun i wr=>∃ (k:Nat) (g:BA->Option Value),k<=n/\i=.int .i64 k/\MapAt wr 9 bf k (strF g)/\DefsG w (l.take k) g/\wr.heap[w.heap.size]?=some (.cells #[.slice sa sn sc] 31 (0,0))/\wr.heap[w.heap.size+1+1]?=some (.cells #[.slice none 0 0,.map none,.slice none 0 0] 71 (0,0))/\Ext w wr) (fun i _=>n - (intOf i).toNat)
 case atStart =>
  refine⟨0,fun _=>none,by omega,rfl,HM0.out.congr fun x=>?_,fun s=>⟨fun _=>rfl,fun d hd=>?_⟩,HX0.out.blk HB04.out,HX0.out.blk HB24.out,HX4.out.trans HX0.out⟩
  ·cases x<;>simp[strF]
  simp[defAt] at hd
 case round =>
  obtain⟨k,g,hk,rfl,hmap,hg,hb0,hb2,hx⟩:=hrel
  have HMP:=hI hmap
  have HX:=hI hx
  have HG:=hI hg
  have HBA:=hI hb0
  have HBC:=hI hb2
  have hbw:=hmap.lt
  clear hmap hx hg HM0 HX0 hb0 hb2
  by_cases hlt:k < n
  ·have hlt':k < l.length:=by have:=HN.out;omega
   have t1:decide ((k:Int) < (n:Int))=true:=decide_eq_true (by omega)
   obtain⟨cb,coff,v,rfl,hcla,hrow⟩:=HL.out.at hlt'
   obtain⟨c0,c1,c2,c3,c4,c5,c6,c7,c8,c9⟩:=(hrow.mono HX.out.sub).ten
   have hns:v.name.size<=1000000000000000:=by rw[hcla.2.1];exact HSZ.out _ (List.getElem_mem hlt')
   have hblt:=block_lt c0
   simp only at hblt
   have HEXV:=hI (show IsEx w l[k].cond (.agg #[.int .i64 v.x.op,.string v.x.name,.slice v.x.aw v.x.nw v.x.cw,.int .i64 v.x.lo,.int .i64 v.x.hi,.slice v.x.aa v.x.na v.x.ca]) from hcla.2.2.1)
   have HEK:=hI (show l[k].kind=v.kind from hcla.1.symm)
   have HEN:=hI (show l[k].name=v.name from hcla.2.1.symm)
   have HFR:=hI (HCK.out.fresh hlt')
   rw[HEN.out] at HFR
   have HST:=hI (fun h1 h2=>HG.out.step hlt' h1 h2 HEXV.out)
   have HSK:=hI (HG.out.skip hlt')
   rw[HEK.out,HEN.out] at HST HSK
   clear hcla hrow
   cases hkd:(v.kind==1)
   ·have HKN:=hI (HSK.out (Or.inl (by simpa using hkd)))
    go_wp2_with fail
    go_roundw
    case rel =>
     have hxa:=(Ext.refl wr).alloc (.cells #[.int .i64 v.kind,.string v.name,.int .i64 v.x.op,.string v.x.name,.slice v.x.aw v.x.nw v.x.cw,.int .i64 v.x.lo,.int .i64 v.x.hi,.slice v.x.aa v.x.na v.x.ca,.slice v.au v.nu v.cu,.int .i64 v.amount] 67)
     exact⟨k+1,g,by omega,by go_num,(HMP.out.ext hxa).more (by omega),HKN.out,hxa.blk HBA.out,hxa.blk HBC.out,HX.out.trans hxa⟩
    case measure=>simp[intOf];omega
   have HKN:=hI (HST.out (by simpa using hkd) HFR.out)
   go_wp2_with (at_mapUpdate;refine wpList_map_put _ rfl _ _ _ 69 rfl 9 26 keyedStr uMapSE bf k _ rfl (HMP.out.ext ((Ext.refl wr).alloc _)) ?c3 _ _ _ rfl rfl (keyStr hns) trivial ?_)
   case c3=>unfold maxLen;omega
   intro w6 hm1 hc1
   have hxa:=(Ext.refl wr).alloc (.cells #[.int .i64 v.kind,.string v.name,.int .i64 v.x.op,.string v.x.name,.slice v.x.aw v.x.nw v.x.cw,.int .i64 v.x.lo,.int .i64 v.x.hi,.slice v.x.aa v.x.na v.x.ca,.slice v.au v.nu v.cu,.int .i64 v.amount] 67)
   have hxm:Ext w w6:=hc1.ext (HX.out.trans hxa) (fun y hy=>by simp only[List.mem_singleton] at hy;have:=HBW.out;omega)
   have HB06:=hI (hc1.blk (hxa.blk HBA.out) (by have:=HBW.out;simp;omega))
   have HB26:=hI (hc1.blk (hxa.blk HBC.out) (by have:=HBW.out;simp;omega))
   have HM1:=hI (hm1.congr (setF_str g v.name _))
   have HX1:=hI hxm
   clear hm1 hc1 hxa hxm
   go_wp2_with fail
   go_roundw
   case rel=>exact⟨k+1,_,by omega,by go_num,HM1.out,HKN.out,HB06.out,HB26.out,HX1.out⟩
   case measure=>simp[intOf];omega
  have t1:decide ((k:Int) < (n:Int))=false:=decide_eq_false (by omega)
  have HKN:=hI (show k=n by omega)
  obtain⟨e0,ef⟩:=blk1 HBA.out
  obtain⟨r0,r1,r2,rf⟩:=blk3 HBC.out
  go_wp2_with fail
  obtain⟨wz,hwz⟩:∃ wz,wz=put3 wr (w.heap.size+1+1) (.slice sa sn sc) (.map (some bf)) (.slice fa fn fc):=⟨_,rfl⟩
  have HZ:=hI (show wz.heap[w.heap.size+1+1]?=some (.cells #[.slice sa sn sc,.map (some bf),.slice fa fn fc] 71 (0,0)) by rw[hwz];exact put3_blk HBC.out _ _ _)
  have hcz:Chg [w.heap.size+1+1] wr wz:=by rw[hwz];exact put3_chg wr (w.heap.size+1+1) (.slice sa sn sc) (.map (some bf)) (.slice fa fn fc) (by simp)
  have HXZ:=hI (hcz.ext HX.out (fun y hy=>by simp only[List.mem_singleton] at hy;omega))
  have HLZ:=hI (show IsLoss wz s l f ⟨sa,sn,sc,bf,fa,fn,fc⟩ n from⟨HS.out.ext HXZ.out,by
   exact⟨g,by rw[<-HKN.out];exact HMP.out.chg hcz (by have:=HBW.out;simp;omega),by have:=HG.out.ext HXZ.out;rwa [List.take_of_length_le (by have:=HN.out;omega)] at this⟩,HI.out.ext HXZ.out⟩)
  unfold put3 at hwz
  rw[<-hwz]
  clear hwz hcz
  obtain⟨z0,z1,z2,zf⟩:=blk3 HZ.out
  refine bodyPost_ret (v:=.tuple #[LossV.val ⟨sa,sn,sc,bf,fa,fn,fc⟩,.int .i64 0]) (by simp[results,Tryz.results31,go_sem,LossV.val,z0,z1,z2]) rfl ?_
  exact⟨HXZ.out,Or.inr ⟨by rw[HQ.out],_,rfl,HLZ.out⟩⟩
theorem node_kinds {s:List Attr} {l:List Cla} (hc:Chk s l) {e:Ex} (ht:okTree e) (h:nodesErr s l e=0):((e.op≠6/\e.op≠7/\e.op≠8)/\(e.op=3->defAt l e.name=none))\/(e.op=3/\attrAt s e.name=none/\∃ d,defAt l e.name=some d)\/(e.op=6/\e.args.length=1)\/e.op=7\/e.op=8:=by
 rcases node_ways ht h with h1|h1|⟨h1,i,h2,-⟩|⟨h1,h3,d,h2⟩|⟨h1,i,h2,h3⟩|⟨h1,i,h2,-⟩|⟨h1,h2⟩|h1|h1
 ·exact Or.inl ⟨by omega,fun h=>by omega⟩
 ·exact Or.inl ⟨by omega,fun h=>by omega⟩
 ·refine Or.inl ⟨by omega,fun _=>?_⟩
  cases hd:defAt l e.name with
  | none=>rfl
  | some d=>rw[hc.apart hd] at h2;cases h2
 ·exact Or.inr (Or.inl ⟨h1,h3,d,h2⟩)
 ·exact Or.inl ⟨by omega,fun h=>by omega⟩
 ·exact Or.inl ⟨by omega,fun h=>by omega⟩
 ·exact Or.inr (Or.inr (Or.inl ⟨h1,h2⟩))
 ·exact Or.inr (Or.inr (Or.inr (Or.inl h1)))
 exact Or.inr (Or.inr (Or.inr (Or.inr h1)))
def prZero:Obj:=.cells #[.bool false,.int .i64 0,.slice none 0 0] 40 (0,0)
def PdP (q:Pr) (W:World) (v:Value):Prop:=∃ pv:PrV,v=pv.val/\IsPr W q pv
theorem pdP_mono (q:Pr):∀ W W' v,Sub W W'->PdP q W v->PdP q W' v:=fun _ _ _ hs ⟨pv,e,h⟩=>⟨pv,e,h.mono hs⟩
theorem prove_fin {w W:World} {B:Nat} {M:ZN} {p:Pr} {pv:PrV} (hb:W.heap[B]?=some prZero) (hB:w.heap.size<=B) (hx:Ext w W) (hp:IsPr (mask W (B::M)) p pv) :
  (put3 W B (.bool pv.value) (.int .i64 pv.pick) (.slice pv.a pv.n pv.c)).heap[B]?=some (.cells #[.bool pv.value,.int .i64 pv.pick,.slice pv.a pv.n pv.c] 40 (0,0))/\ProveQ p M w (.returned pv.val) (put3 W B (.bool pv.value) (.int .i64 pv.pick) (.slice pv.a pv.n pv.c)):=by
 have hc:Chg [B] W (put3 W B (.bool pv.value) (.int .i64 pv.pick) (.slice pv.a pv.n pv.c)):=put3_chg W B (.bool pv.value) (.int .i64 pv.pick) (.slice pv.a pv.n pv.c) (by simp)
 refine⟨put3_blk hb _ _ _,pv,rfl,hp.mono (mask_sub_mask fun k hk hn=>⟨fun hm=>hn (by simp[hm]),hc.block k hk fun hm=>hn (by simp only[List.mem_singleton] at hm;simp[hm])⟩),hc.ext hx fun y hy=>by simp only[List.mem_singleton] at hy;omega⟩
theorem put3_alloc {w:World} {B:Nat} (h:B < w.heap.size) (o:Obj) (v0 v1 v2:Value):put3 (w.alloc o) B v0 v1 v2=(put3 w B v0 v1 v2).alloc o:=by
 unfold put3
 simp[World.setCell_alloc_past,h]
theorem pfL_at {s:List Attr} {f:ZI} {D:BA->Option Pr} {args:List Ex} {k:Nat} (hk:k < args.length):(pfL s f D args)[k]?=some (pfE s f D args[k]):=by rw[pfL_map];simp[hk]
theorem sevP_hit {d:Bool} {l:List Pr} {k:Nat} {q:Pr} (hk:l[k]?=some q) (h1:q.value=d) (h2:∀ (j:Nat) (q':Pr),j < k->l[j]?=some q'->q'.value≠d):sevP d l=.mk d k [q]:=by
 obtain⟨hkl,hq⟩:=List.getElem?_eq_some_iff.1 hk
 have:l.findIdx? (fun q=>q.value==d)=some k:=find_hit hkl (by rw[hq,h1];simp) fun j hj hjk=>by
  have:=h2 j l[j] hjk (List.getElem?_eq_getElem hj)
  simpa using this
 unfold sevP
 rw[this]
 simp only
 rw[List.getD_eq_getElem?_getD,hk];rfl
theorem sevP_miss {d:Bool} {l:List Pr} (h2:∀ (j:Nat) (q':Pr),l[j]?=some q'->q'.value≠d):sevP d l=.mk (!d) (-1) l:=by
 have:l.findIdx? (fun q=>q.value==d)=none:=find_miss fun j hj=>by
  have:=h2 j l[j] (List.getElem?_eq_getElem hj)
  simpa using this
 unfold sevP
 rw[this]
theorem pfHd_at {s:List Attr} {f:ZI} {D:BA->Option Pr} (l:List Ex):pfHd s f D l=(l[0]?.map (pfE s f D)).getD pr0:=by
 cases l<;>simp[pfHd]
def ProvL (s:List Attr) (f:ZI) (V:BA->Option Pr) (args:List Ex) (d:Bool) (na b0:Nat) (M:ZN) (Z0 Z1:Obj) (w:World) (v i:Value) (wr:World):Prop:=∃ (k:Nat) (vs:List PrV),i=.int .i64 k/\k<=na/\(∀ j (h:j < args.length),j < k->(pfE s f V args[j]).value≠d)/\wr.ownsRow (b0+3) 40 3 v k (vs.flatMap PrV.cells)/\PrsR (mask wr (rowOf v++(b0+1+1)::M)) ((args.take k).map (pfE s f V)) vs/\wr.heap[b0]?=some Z0/\wr.heap[b0+1]?=some Z1/\wr.heap[b0+1+1]?=some prZero/\Ext w wr
theorem take_map_snoc {α β:Type} {l:List α} {g:α->β} {k:Nat} (h:k < l.length):(l.take (k+1)).map g=(l.take k).map g++[g l[k]]:=by
 rw[List.take_add_one,List.getElem?_eq_getElem h,List.map_append];rfl
theorem prv_keeps {W W':World} {v v':Value} {N:ZN} (hc:Chg (rowOf v) W W') (hw:∀ k,v'.ownBlock=some k->v.ownBlock=some k\/W.heap.size<=k):Sub (mask W (rowOf v++N)) (mask W' (rowOf v'++N)):=mask_sub_mask fun k hk hn=>by
 refine⟨fun hm=>?_,hc.block k hk fun hm=>hn (List.mem_append_left _ hm)⟩
 rcases List.mem_append.1 hm with h|h
 ·rcases hw k (mem_rowOf.1 h) with e|e
  ·exact hn (List.mem_append_left _ (mem_rowOf.2 e))
  omega
 exact hn (List.mem_append_right _ h)
def prove3R (w:World) (sa:OA) (sn sc bm:Nat) (fa:OA) (fn fc:Nat) (_name:BA) (_aw:OA) (_nw _cw:Nat) (_lo _hi:Int) (na ca xb xo:Nat) (x0:Int) (x1:BA) (aw1:OA) (nw1 cw1:Nat) (x5 x6:Int) (aa1:OA) (na1 ca1:Nat)  : Nat->Value->World->Prop
 | 0,u,_=>u=.agg #[.slice sa sn sc,.map (some bm),.slice fa fn fc]
 | 1,u,_=>u=.pointer (some ⟨w.heap.size+1,5,none⟩)
 | 2,u,_=>u=.slice (some ⟨xb,xo,none⟩) na ca
 | 3,u,_=>u=.pointer (some ⟨xb,xo,none⟩)
 | 4,u,_=>u=.agg #[.int .i64 x0,.string x1,.slice aw1 nw1 cw1,.int .i64 x5,.int .i64 x6,.slice aa1 na1 ca1]
 | 5,u,_=>u=u/\True
 | _,u,_=>u=u/\True
theorem prove_calls (s:List Attr) (l:List Cla) (f:ZI) (hc:Chk s l) (hfa:factsAll s f=true) (lv:LossV) (nm:Nat):∀ (g m:Nat) (e:Ex) (ev:Value) (M:ZN) (w:World),e.size<=m->m<=1000000->okTree e->nodesErr s l e=0->expF l g e<=2000->(∀ y∈M,y < w.heap.size)->IsLoss w s l f lv nm->IsEx w e ev ->
  Calls Tryz.prog 32 #[lv.val,ev] w (ProveQ (pfF s l f g e) M w):=by
 intro g
 induction g with
 | zero=>intro m e ev M w _ _ _ _ h;simp[expF] at h
 | succ g ihg =>
  intro m
  induction m with
  | zero=>intro e ev M w h;have:=size_pos e;omega
  | succ m ihm =>
   intro e ev M w hm hMM hok hnd hex hM hl he
   have hways:=node_kinds hc hok hnd
   have hfw:=fact_ways hok hnd
   obtain⟨-,hnda⟩:=nodes_parts hnd
   obtain⟨hokn,hoka⟩:=okTree_parts hok
   have hexa:=expE_arg (D:=dOf l g) (e:=e) (by rw[<-expF_succ];exact hex)
   have hexh:=expE_hd (D:=dOf l g) (e:=e) (by rw[<-expF_succ];exact hex)
   have HFC:=hI (fun h5 W (hW:Ext w W)=>fact_calls s l f lv nm hc.sch hfa e ev W (hl.ext hW) (he.ext hW) hok h5)
   have HDC:=hI (fun W (hW:Ext w W)=>definition_calls s l f lv nm e ev W (hl.ext hW) (he.ext hW) (by have:=(okTree_words hok).2;omega))
   obtain⟨aw,nw,cw,aa,na,ca,rfl,hw,hna,hca,ha,hx⟩:=he.parts
   have hS:e.size=1+sizes e.args:=e.size_eq
   have hla:=length_le_sizes e.args
   obtain⟨op,name,words,lo,hi,args⟩:=e
   simp only[Ex.op,Ex.name,Ex.words,Ex.lo,Ex.hi,Ex.args] at *
   have hna2:na<=1000000:=by omega
   have hszm:sizes args<=m:=by omega
   obtain⟨R,hR⟩:∃ R,R=pfF s l f (g+1) (.mk op name words lo hi args):=⟨_,rfl⟩
   rw[<-hR]
   obtain⟨V,hV⟩:∃ V,V=(fun x=>(defAt l x).map fun d=>pfF s l f g (l.getD d cla0).cond):=⟨_,rfl⟩
   have hvf:∀ e,pfF s l f (g+1) e=pfE s f V e:=fun e=>by rw[hV];rfl
   rw[hvf,pfE] at hR
   have HR:=hI hR
   have HX:=hI hx
   have HNA:=hI hna
   have HM:=hI hM
   have HARG:=hI (fun (j:Nat) (hj:j < args.length) (xv:Value) (N:ZN) (W:World) (hW:Ext w W) (hN:∀ y∈N,y < W.heap.size) (hxv:IsEx W args[j] xv)=>show Calls Tryz.prog 32 #[lv.val,xv] W (ProveQ (pfE s f V args[j]) N W) from by
    rw[<-hvf]
    exact ihm args[j] xv N W (by have h1:=sizes_take_succ args j hj;have h2:=sizes_take_le args (j+1);omega) (by omega) (hoka _ (List.getElem_mem hj)) (hnda j hj) (by rw[expF_succ];exact hexa j hj) hN (hl.ext hW) hxv)
   have HDEF:=hI (fun (h3:op=3) (d:Nat) (hd:defAt l name=some d) (xv:Value) (N:ZN) (W:World) (hW:Ext w W) (hN:∀ y∈N,y < W.heap.size) (hxv:IsEx W (l.getD d cla0).cond xv)=>ihg 300 (l.getD d cla0).cond xv N W (hc.cond (defAt_atK hd).1).2.2 (by omega) (hc.cond (defAt_atK hd).1).1 (hc.cond (defAt_atK hd).1).2.1 (hexh h3 (by unfold dOf;rw[hd];rfl)) hN (hl.ext hW) hxv)
   have HVV:=hI (show ∀ d,defAt l name=some d->V name=some (pfF s l f g (l.getD d cla0).cond) from fun d hd=>by rw[hV];simp only[hd];rfl)
   have HVN:=hI (show defAt l name=none->V name=none from fun hd=>by rw[hV];simp only[hd];rfl)
   have HFW:=hI hfw
   clear hc hfa hl hx hw hna hca ha hS hla ihg ihm hm hnda hoka hexa hexh hokn hok hnd hex he hR hvf hV hfw hM
   obtain⟨sa,sn,sc,bm,fa,fn,fc⟩:=lv
   unfold exV LossV.val at *
   simp only at *
   obtain⟨wa,hwa⟩:∃ wa,wa=((w.alloc (.cells #[.slice sa sn sc,.map (some bm),.slice fa fn fc] 71)).alloc (.cells #[.int .i64 op,.string name,.slice aw nw cw,.int .i64 lo,.int .i64 hi,.slice aa na ca] 26)).alloc (.cells #[.bool false,.int .i64 0,.slice none 0 0] 40):=⟨_,rfl⟩
   have hxa:Ext w wa:=by rw[hwa];exact(((Ext.refl _).alloc _).alloc _).alloc _
   have hb0:wa.heap[w.heap.size]?=some (.cells #[.slice sa sn sc,.map (some bm),.slice fa fn fc] 71 (0,0)):=by rw[hwa];exact blk_alloc (blk_alloc (alloc_new w _))
   have hb1:wa.heap[w.heap.size+1]?=some (.cells #[.int .i64 op,.string name,.slice aw nw cw,.int .i64 lo,.int .i64 hi,.slice aa na ca] 26 (0,0)):=by rw[hwa];exact blk_alloc (alloc_atR (by simp))
   have hb2:wa.heap[w.heap.size+1+1]?=some prZero:=by rw[hwa];exact alloc_atR (by simp)
   have HXA:=hI hxa
   have HB0:=hI hb0
   have HB1:=hI hb1
   have HB2:=hI hb2
   obtain⟨f0,f1,f2,f3,f4,f5,ff⟩:=blk6 hb1
   obtain⟨e0,e1,e2,ef⟩:=blk3 hb0
   have hltw:=blk_lt hb1
   clear hxa hb0 hb1 hb2
   rcases hways with ⟨h6,hdn⟩|⟨rfl,hat,d,hdf⟩|⟨rfl,hl1⟩|rfl|rfl
   -- a fact
   ·have t6:(op==6)=false:=by simp[h6.1]
    have t7:(op==7)=false:=by simp[h6.2.1]
    have t8:(op==8)=false:=by simp[h6.2.2]
    have HQ:=hI (show R=.mk (factV s f op name words lo hi) (-1) [] by
     rw[HR.out,if_neg h6.1,if_neg (by omega)]
     by_cases h3:op=3
     ·rw[if_pos h3,HVN.out (hdn h3)];rfl
     rw[if_neg h3];rfl)
    have HFC2:=hI (HFC.out (HFW.out h6 hdn))
    obtain⟨B,hB⟩:∃ B,B=factV s f op name words lo hi:=⟨_,rfl⟩
    rw[<-hB] at HQ HFC2
    have HDN:=hI hdn
    clear h6 hdn hB HARG HDEF HFC HFW
    go_enter Tryz.func32,Tryz.ntmps32
    go_upto_region 1 with fail
    rw[<-hwa]
    clear hwa
    go_wp2_with fail
    refine(HDC.out wa HXA.out).mono ?_
    rintro r w3 ⟨hx3,hq⟩
    rcases hq with ⟨h3,d,v,hd,-⟩|⟨-,rfl⟩
    ·rw[HDN.out h3] at hd;cases hd
    have HX3:=hI (HXA.out.trans hx3)
    have HB03:=hI (hx3.blk HB0.out)
    have HB13:=hI (hx3.blk HB1.out)
    have HB23:=hI (hx3.blk HB2.out)
    clear f0 f1 f2 f3 f4 f5 ff e0 e1 e2 ef hltw hx3
    obtain⟨f0,f1,f2,f3,f4,f5,ff⟩:=blk6 HB13.out
    obtain⟨e0,e1,e2,ef⟩:=blk3 HB03.out
    have hltw:=blk_lt HB13.out
    have hlt0:=blk_lt HB03.out
    unfold exZero
    go_wp2_with fail
    refine(HFC2.out _ (HX3.out.alloc _)).mono ?_
    rintro r w5 ⟨rfl,hx5⟩
    have HX5:=hI ((HX3.out.alloc _).trans hx5)
    have HB25:=hI (hx5.blk (blk_alloc HB23.out))
    clear hx5 f0 f1 f2 f3 f4 f5 ff e0 e1 e2 ef hltw hlt0
    obtain⟨r0,r1,r2,rf⟩:=blk3 HB25.out
    have HZ:=hI (prove_fin (M:=M) (pv:=⟨B,-1,none,0,0⟩) HB25.out (by omega) HX5.out (isPr_none _ B (-1)))
    simp only at HZ
    go_wp2_with fail
    obtain⟨wz,hwz⟩:∃ wz,wz=put3 w5 (w.heap.size+1+1) (.bool B) (.int .i64 (-1)) (.slice none 0 0):=⟨_,rfl⟩
    rw[<-hwz] at HZ
    unfold put3 at hwz
    rw[<-hwz]
    clear hwz
    obtain⟨z0,z1,z2,zf⟩:=blk3 HZ.out.1
    refine bodyPost_ret (v:=PrV.val ⟨B,-1,none,0,0⟩) (by simp[results,Tryz.results32,go_sem,PrV.val,z0,z1,z2]) rfl ?_
    rw[HQ.out]
    exact HZ.out.2
   -- a definition
   ·have HQ:=hI (show R=.mk (pfF s l f g (l.getD d cla0).cond).value (-1) [pfF s l f g (l.getD d cla0).cond] by
     rw[HR.out,if_neg (by decide),if_neg (by decide),if_pos rfl,HVV.out d hdf];rfl)
    have HDF:=hI (HDEF.out rfl d hdf)
    obtain⟨q,hq⟩:∃ q,q=pfF s l f g (l.getD d cla0).cond:=⟨_,rfl⟩
    rw[<-hq] at HQ HDF
    have HDA:=hI hdf
    clear hat hdf hq HARG HDEF HFC HFW
    go_enter Tryz.func32,Tryz.ntmps32
    go_upto_region 1 with fail
    rw[<-hwa]
    clear hwa
    go_wp2_with fail
    refine(HDC.out wa HXA.out).mono ?_
    rintro r w3 ⟨hx3,hq⟩
    rcases hq with ⟨-,d',v,hd,rfl,hv⟩|⟨hd,-⟩
    case inr =>
     rcases hd with hd|hd
     ·exact absurd rfl hd
     rw[HDA.out] at hd;cases hd
    rw[HDA.out] at hd
    obtain rfl:d=d':=by simpa using hd
    have HX3:=hI (HXA.out.trans hx3)
    have HEX:=hI hv
    have HB03:=hI (hx3.blk HB0.out)
    have HB23:=hI (hx3.blk HB2.out)
    clear f0 f1 f2 f3 f4 f5 ff e0 e1 e2 ef hltw hx3 hv hd
    obtain⟨e0,e1,e2,ef⟩:=blk3 HB03.out
    have hlt0:=blk_lt HB03.out
    have HDG:=hI (fun W (hW:Ext w3 W) hN=>HDF.out v.val ((w.heap.size+1+1)::M) W (HX3.out.trans hW) hN (HEX.out.ext hW))
    unfold ExV.val exV at *
    go_wp2_with fail
    refine(HDG.out _ ((Ext.refl w3).alloc _) (fun y hy=>by
     have h1:=blk_lt HB23.out
     have h2:=HX3.out.size
     simp only[List.mem_cons] at hy
     rcases hy with rfl|hy
     ·simp;omega
     have:=HM.out y hy;simp;omega)).mono ?_
    rintro r w5 ⟨pv,rfl,hpv,hx5⟩
    have HX5:=hI ((HX3.out.alloc _).trans hx5)
    have HB25:=hI (hx5.blk (blk_alloc HB23.out))
    have HPV:=hI hpv
    have HPP:=hI hpv.parts.1
    clear hx5 hpv e0 e1 e2 ef hlt0
    obtain⟨pb,pk,pa,pn,pc⟩:=pv
    unfold PrV.val
    simp only at HPP
    have hltr:=blk_lt HB25.out
    obtain⟨r0,r1,r2,rf⟩:=blk3 HB25.out
    have HZ:=hI (show _/\_ from prove_fin (w:=w) (W:=(w5.alloc (.cells #[.bool pb,.int .i64 pk,.slice pa pn pc] 40)).alloc (.cells #[.bool pb,.int .i64 pk,.slice pa pn pc] 40)) (B:=w.heap.size+1+1) (M:=M) (pv:=⟨pb,-1,some ⟨w5.heap.size+1,0,none⟩,1,1⟩) (blk_alloc (blk_alloc HB25.out)) (by omega) ((HX5.out.alloc _).alloc _)
     (isPr_one (v:=⟨pb,pk,pa,pn,pc⟩) (t:=40) (alloc_atR (by simp)) (fun hy=>by
      have h2:=HX5.out.size
      simp only[List.mem_cons] at hy
      rcases hy with hy|hy
      ·omega
      have:=HM.out _ hy;omega) (HPV.out.mono (mask_ext _ (((Ext.refl w5).alloc _).alloc _))) pb (-1)))
    simp only at HZ
    obtain⟨s0,s1,s2,sf⟩:=blk3 (show ((w5.alloc (.cells #[.bool pb,.int .i64 pk,.slice pa pn pc] 40)).alloc (.cells #[.bool pb,.int .i64 pk,.slice pa pn pc] 40)).heap[w.heap.size+1+1]?=some (.cells #[.bool false,.int .i64 0,.slice none 0 0] 40 (0,0)) from blk_alloc (blk_alloc HB25.out))
    go_wp2_with fail
    obtain⟨wz,hwz⟩:∃ wz,wz=put3 ((w5.alloc (.cells #[.bool pb,.int .i64 pk,.slice pa pn pc] 40)).alloc (.cells #[.bool pb,.int .i64 pk,.slice pa pn pc] 40)) (w.heap.size+1+1) (.bool pb) (.int .i64 (-1)) (.slice (some ⟨w5.heap.size+1,0,none⟩) 1 1):=⟨_,rfl⟩
    rw[<-hwz] at HZ
    unfold put3 at hwz
    rw[<-hwz]
    clear hwz
    obtain⟨z0,z1,z2,zf⟩:=blk3 HZ.out.1
    refine bodyPost_ret (v:=PrV.val ⟨pb,-1,some ⟨w5.heap.size+1,0,none⟩,1,1⟩) (by simp[results,Tryz.results32,go_sem,PrV.val,z0,z1,z2]) rfl ?_
    rw[HQ.out,<-HPP.out]
    exact HZ.out.2
   -- not
   ·have hj:0 < args.length:=by omega
    have HQ:=hI (show R=.mk (!(pfE s f V args[0]).value) (-1) [pfE s f V args[0]] by
     rw[HR.out,if_pos rfl,pfHd_at,List.getElem?_eq_getElem hj];rfl)
    have hnp:0 < na:=by have:=HNA.out;omega
    obtain⟨xb,xo,rfl,aw1,nw1,cw1,aa1,na1,ca1,g0,g1,g2,g3,g4,g5,g6⟩:=ExsD.at args _ (ExsD.ext HXA.out args _ HX.out) 0 hj
    simp only[Nat.zero_mul,Nat.add_zero] at g0 g1 g2 g3 g4 g5
    have G6:=hI g6
    have HPA:=hI (fun (N:ZN) W (hW:Ext wa W) (hN:∀ y∈N,y < W.heap.size)=>HARG.out 0 hj _ N W (HXA.out.trans hW) hN (G6.out.ext hW))
    unfold exV at HPA
    obtain⟨q,hq⟩:∃ q,q=pfE s f V args[0]:=⟨_,rfl⟩
    rw[<-hq] at HPA HQ
    obtain⟨x0,hx0⟩:∃ x0,x0=args[0].op:=⟨_,rfl⟩
    obtain⟨x1,hx1⟩:∃ x1,x1=args[0].name:=⟨_,rfl⟩
    obtain⟨x5,hx5⟩:∃ x5,x5=args[0].lo:=⟨_,rfl⟩
    obtain⟨x6,hx6⟩:∃ x6,x6=args[0].hi:=⟨_,rfl⟩
    rw[<-hx0] at g0 HPA
    rw[<-hx1] at g1 HPA
    rw[<-hx5] at g3 HPA
    rw[<-hx6] at g4 HPA
    clear hl1 hq g6 HFC HFW HVV HVN HR HDC HARG HDEF hx0 hx1 hx5 hx6
    go_enter Tryz.func32,Tryz.ntmps32
    go_upto_region 1 with fail
    rw[<-hwa]
    clear hwa
    have HMA:=hI (show ∀ y∈(w.heap.size+1+1)::M,y < wa.heap.size from fun y hy=>by
     have h1:=blk_lt HB2.out
     have h2:=HXA.out.size
     simp only[List.mem_cons] at hy
     rcases hy with rfl|hy
     ·omega
     have:=HM.out y hy;omega)
    go_wp2_with fail
    refine wp_region_growLG (n:=84) (m:=7) [] (GnBx wa prZero (PdP q) ((w.heap.size+1+1)::M) 5 6) GrE (GrP (prove3R w sa sn sc bm fa fn fc name aw nw cw lo hi na ca xb xo x0 x1 aw1 nw1 cw1 x5 x6 aa1 na1 ca1 )) (by kernel_rfl) (by kernel_rfl) (Nat.le_of_ble_eq_true rfl) ?gd gnbx_start ?_ ?_ ?_
    case gd =>
     intro i o j b hi ho hg
     rcases ltc7 hi with rfl|rfl|rfl|rfl|rfl|rfl|rfl<;>(cases ho;first|(cases hg;done)|(cases hg;intro v W h;exact h))
    ·intro i k v W W' hi hk hne hout h hE
     have hE:Ext W W':=hE
     have hi':=ltc7 hi
     clear hi hk hne hout
     rcases hi' with rfl|rfl|rfl|rfl|rfl|rfl|rfl
     ·exact h
     ·exact h
     ·exact h
     ·exact h
     ·exact h
     ·obtain⟨e0,h⟩:=h
      exact⟨e0,trivial⟩
     obtain⟨e0,h⟩:=h
     exact⟨e0,trivial⟩
    ·intro q op hq ho L vs W hqL hcL hW hd ρ hρ
     have hq':=ltc7 hq
     clear hq
     have o2:ρ (.tmp 2)=.pointer (some ⟨w.heap.size,0,none⟩):=hρ.out 2 rfl
     have o3:ρ (.tmp 3)=.pointer (some ⟨w.heap.size+1,0,none⟩):=hρ.out 3 rfl
     have i1:=hρ.i 1 19
     have i2:=hρ.i 2 20
     have i3:=hρ.i 3 21
     have i0:=hρ.i 0 18
     have i4:=hρ.i 4 22
     have hc:=hρ.const
     have hfn:=hρ.func
     clear hρ
     have HG:=hI hW
     have HW:=hI (show Ext wa W from hW.1)
     have HQL:=hI hqL
     clear hW hqL hcL
     rcases hq' with rfl|rfl|rfl|rfl|rfl|rfl|rfl
     ·cases ho
      clear hd
      have g0:=HW.out.cell e0
      have g1:=HW.out.cell e1
      have g2:=HW.out.cell e2
      unfold GivesOp
      go_simp
      exact⟨Ext.refl W,gnbx_step (pdP_mono _) (by decide) (by decide) HG.out (Ext.refl W),rfl⟩
     ·cases ho
      clear hd
      unfold GivesOp
      go_simp
      exact⟨Ext.refl W,gnbx_step (pdP_mono _) (by decide) (by decide) HG.out (Ext.refl W),rfl⟩
     ·cases ho
      have h1:vs 1=_:=hd ⟨1,.data⟩ (by simp) rfl
      rw[h1] at i1
      clear hd
      have g5:=HW.out.cell f5
      unfold GivesOp
      go_simp
      exact⟨Ext.refl W,gnbx_step (pdP_mono _) (by decide) (by decide) HG.out (Ext.refl W),rfl⟩
     ·cases ho
      have h2:vs 2=_:=hd ⟨2,.data⟩ (by simp) rfl
      rw[h2] at i2
      clear hd
      unfold GivesOp
      go_simp
      exact⟨Ext.refl W,gnbx_step (pdP_mono _) (by decide) (by decide) HG.out (Ext.refl W),rfl⟩
     ·cases ho
      have h3:vs 3=_:=hd ⟨3,.data⟩ (by simp) rfl
      rw[h3] at i3
      clear hd
      have g0:=HW.out.cell g0
      have g1:=HW.out.cell g1
      have g2:=HW.out.cell g2
      have g3:=HW.out.cell g3
      have g4:=HW.out.cell g4
      have g5:=HW.out.cell g5
      unfold GivesOp
      go_simp
      exact⟨Ext.refl W,gnbx_step (pdP_mono _) (by decide) (by decide) HG.out (Ext.refl W),rfl⟩
     ·cases ho
      have h0:vs 0=_:=hd ⟨0,.data⟩ (by simp) rfl
      rw[h0] at i0
      have h4:vs 4=_:=hd ⟨4,.data⟩ (by simp) rfl
      rw[h4] at i4
      clear hd
      unfold GivesOp
      go_simp
      obtain⟨Y,hY1,hY2⟩:=gnbx_call (by decide) HMA.out HG.out
      refine(HPA.out (Y++(w.heap.size+1+1)::M) W HW.out hY1).mono ?_
      rintro e5 w5 ⟨pv,rfl,hpv,hx5⟩
      exact⟨_,rfl,hx5,hY2 _ _ hx5 ⟨_,rfl,hpv⟩,rfl,trivial⟩
     cases ho
     clear hd
     unfold GivesOp
     go_simp
     exact⟨(Ext.refl W).alloc _,gnbx_alloc (pdP_mono _) (by decide) rfl HG.out,rfl,trivial⟩
    intro L vs W hLm hW hR
    rw[if_neg (by decide +kernel)]
    obtain⟨y,h6,q1,q2,pv,h5,q3⟩:=gnbx_end (pdP_mono _) hW (hLm 5 (by omega)) (hLm 6 (by omega))
    have HYB:=hI (And.intro q1 q2)
    have HPV:=hI q3
    clear q1 q2 q3
    unfold PrV.val at h5
    refine wpOp_lastG rfl ?_
    change wpList _ _ _ [⟨none,.store _ (.tmp 5) (.tmp 23),_,_,_,none⟩] _ _
    simp only[acts,dstAt,List.range,List.range.loop,List.foldl_cons,List.foldl_nil,h5,h6]
    go_simp
    have hW2:Ext wa W:=hW.1
    clear hR hW hLm h5 h6
    have HX5:=hI (HXA.out.trans hW2)
    have HB25:=hI (hW2.blk HB2.out)
    clear hW2 f0 f1 f2 f3 f4 f5 ff e0 e1 e2 ef hltw
    obtain⟨pb,pk,pa,pn,pc⟩:=pv
    have HPP:=hI (show pb=q.value from HPV.out.parts.1)
    obtain⟨W1,hW1⟩:∃ W1,W1=put3 W y (.bool pb) (.int .i64 pk) (.slice pa pn pc):=⟨_,rfl⟩
    have hyb:W.heap[y]?=some prZero:=HYB.out.1
    have HY1:=hI (show W1.heap[y]?=some (.cells #[.bool pb,.int .i64 pk,.slice pa pn pc] 40 (0,0)) by rw[hW1];exact put3_blk hyb _ _ _)
    have hcy:Chg [y] W W1:=by rw[hW1];exact put3_chg W y (.bool pb) (.int .i64 pk) (.slice pa pn pc) (by simp)
    have hys:wa.heap.size<=y:=HYB.out.2
    have HX6:=hI (hcy.ext HX5.out (fun z hz=>by simp only[List.mem_singleton] at hz;have:=HXA.out.size;omega))
    have HB26:=hI (hcy.blk HB25.out (by have:=blk_lt HB2.out;simp;omega))
    have HPV1:=hI (show IsPr (mask W1 ((w.heap.size+1+1)::M)) q ⟨pb,pk,pa,pn,pc⟩ from HPV.out.mono (mask_sub_mask fun k hk hn=>⟨fun hm=>hn (List.mem_cons_of_mem _ hm),hcy.block k hk fun hm=>hn (by simp only[List.mem_singleton] at hm;simp[hm])⟩))
    obtain⟨u0,u1,u2,uf⟩:=blk3 hyb
    have hlty:=blk_lt hyb
    clear hyb hcy hys HPV HYB
    go_upto_region 4 with fail
    unfold put3 at hW1
    rw[<-hW1]
    clear hW1 u0 u1 u2 uf hlty
    obtain⟨u0,u1,u2,uf⟩:=blk3 HY1.out
    obtain⟨r0,r1,r2,rf⟩:=blk3 HB26.out
    have hltr:=blk_lt HB26.out
    have HZ:=hI (show _/\_ from prove_fin (w:=w) (W:=W1.alloc (.cells #[.bool pb,.int .i64 pk,.slice pa pn pc] 40)) (B:=w.heap.size+1+1) (M:=M) (pv:=⟨!pb,-1,some ⟨W1.heap.size,0,none⟩,1,1⟩) (blk_alloc HB26.out) (by omega) (HX6.out.alloc _)
     (isPr_one (v:=⟨pb,pk,pa,pn,pc⟩) (t:=40) (alloc_new W1 _) (fun hy=>by
      have h2:=HX6.out.size
      simp only[List.mem_cons] at hy
      rcases hy with hy|hy
      ·omega
      have:=HM.out _ hy;omega) (HPV1.out.mono (mask_ext _ ((Ext.refl W1).alloc _))) (!pb) (-1)))
    simp only at HZ
    obtain⟨s0,s1,s2,sf⟩:=blk3 (show (W1.alloc (.cells #[.bool pb,.int .i64 pk,.slice pa pn pc] 40)).heap[w.heap.size+1+1]?=some (.cells #[.bool false,.int .i64 0,.slice none 0 0] 40 (0,0)) from blk_alloc HB26.out)
    go_wp2_with fail
    rw[put3_alloc hltr] at HZ
    obtain⟨wz,hwz⟩:∃ wz,wz=(put3 W1 (w.heap.size+1+1) (.bool !pb) (.int .i64 (-1)) (.slice (some ⟨W1.heap.size,0,none⟩) 1 1)).alloc (.cells #[.bool pb,.int .i64 pk,.slice pa pn pc] 40):=⟨_,rfl⟩
    rw[<-hwz] at HZ
    unfold put3 at hwz
    rw[<-hwz]
    clear hwz
    obtain⟨z0,z1,z2,zf⟩:=blk3 HZ.out.1
    refine bodyPost_ret (v:=PrV.val ⟨!pb,-1,some ⟨W1.heap.size,0,none⟩,1,1⟩) (by simp[results,Tryz.results32,go_sem,PrV.val,z0,z1,z2]) rfl ?_
    rw[HQ.out,<-HPP.out]
    exact HZ.out.2
   -- and
   ·have HQ:=hI (show R=sevP false (pfL s f V args) by rw[HR.out,if_neg (by decide),if_pos (by decide)];rfl)
    clear HFC HFW HVV HVN HR HDC HDEF
    go_enter Tryz.func32,Tryz.ntmps32
    go_upto_region 1 with fail
    rw[<-hwa]
    clear hwa
    go_wp2_with fail
    clear f0 f1 f2 f3 f4 f5 ff e0 e1 e2 ef hltw
    go_loopw [7,39] (ProvL s f V args false na w.heap.size M (.cells #[.slice sa sn sc,.map (some bm),.slice fa fn fc] 71 (0,0)) (.cells #[.int .i64 7,.string name,.slice aw nw cw,.int .i64 lo,.int .i64 hi,.slice aa na ca] 26 (0,0)) w) (fun _ i _=>na - (intOf i).toNat)
    case atStart=>exact⟨0,[],rfl,by omega,fun j _ h=>by omega,⟨rfl,Or.inl ⟨rfl,rfl⟩⟩,PrsR.nil _,HB0.out,HB1.out,HB2.out,HXA.out⟩
    case round =>
     obtain⟨k,vs,rfl,hk,hno,hown,hprs,hb0,hb1,hb2,hxr⟩:=hrel
     have HNO:=hI hno
     have HOWN:=hI hown
     have HPRS:=hI hprs
     have HXR:=hI hxr
     have HC0:=hI hb0
     have HC1:=hI hb1
     have HC2:=hI hb2
     obtain⟨e0,e1,e2,ef⟩:=blk3 hb0
     have hlt2:=blk_lt hb2
     clear hno hown hprs hxr hb0 hb1 hb2
     by_cases hkn:k < na
     ·have hka:k < args.length:=by have:=HNA.out;omega
      have t1:decide ((k:Int) < (na:Int))=true:=decide_eq_true (by omega)
      obtain⟨xb,xo,rfl,aw1,nw1,cw1,aa1,na1,ca1,g0,g1,g2,g3,g4,g5,g6⟩:=ExsD.at args _ (ExsD.ext HXR.out args _ HX.out) k hka
      have G6:=hI g6
      obtain⟨q,hq⟩:∃ q,q=pfE s f V args[k]:=⟨_,rfl⟩
      have HPA:=hI (fun (N:ZN) W (hW:Ext wr W) (hN:∀ y∈N,y < W.heap.size)=>HARG.out k hka _ N W (HXR.out.trans hW) hN (G6.out.ext hW))
      rw[<-hq] at HPA
      have HQK:=hI hq
      unfold exV at HPA
      clear hq g6
      go_upto_region 12 with fail
      obtain⟨y,hy⟩:∃ y:Nat,y=wr.heap.size:=⟨_,rfl⟩
      obtain⟨w1,hw1⟩:∃ w1,w1=wr.alloc (.cells #[.int .i64 args[k].op,.string args[k].name,.slice aw1 nw1 cw1,.int .i64 args[k].lo,.int .i64 args[k].hi,.slice aa1 na1 ca1] 26):=⟨_,rfl⟩
      have hx1:Ext wr w1:=by rw[hw1];exact(Ext.refl wr).alloc _
      have HBX:=hI (show w1.heap[y]?=some (.cells #[.int .i64 args[k].op,.string args[k].name,.slice aw1 nw1 cw1,.int .i64 args[k].lo,.int .i64 args[k].hi,.slice aa1 na1 ca1] 26 (0,0)) by rw[hw1,hy];exact alloc_new wr _)
      rw[<-hw1,<-hy]
      clear hw1 hy
      have HX1:=hI (HXR.out.trans hx1)
      have HPA1:=hI (fun (N:ZN) (hN:∀ y∈N,y < w1.heap.size)=>HPA.out N w1 hx1 hN)
      have HD0:=hI (hx1.blk HC0.out)
      have HD1:=hI (hx1.blk HC1.out)
      have HD2:=hI (hx1.blk HC2.out)
      have HOWN1:=hI (owns_ext HOWN.out hx1)
      have HPRS1:=hI (HPRS.out.mono (mask_ext _ hx1))
      have HRO:=hI (show ∀ z∈rowOf u7,w.heap.size+3<=z/\z < w1.heap.size from fun z hz=>by have h1:=HOWN.out.lt z (mem_rowOf.1 hz);have h2:=hx1.size;omega)
      clear e0 e1 e2 ef g0 g1 g2 g3 g4 g5 hlt2 hx1 HC0 HC1 HC2 HOWN HPRS HPA
      obtain⟨e0,e1,e2,ef⟩:=blk3 HD0.out
      obtain⟨g0,g1,g2,g3,g4,g5,gf⟩:=blk6 HBX.out
      go_wp2_with fail
      refine(HPA1.out (rowOf u7++(w.heap.size+1+1)::M) (fun z hz=>by
       rcases List.mem_append.1 hz with h|h
       ·exact(HRO.out z h).2
       have h1:=blk_lt HD2.out
       have h2:=HX1.out.size
       rcases List.mem_cons.1 h with rfl|h
       ·omega
       have:=HM.out z h;omega)).mono ?_
      rintro r w5 ⟨pv,rfl,hpv,hx5⟩
      have HX5:=hI (HX1.out.trans hx5)
      have HE0:=hI (hx5.blk HD0.out)
      have HE1:=hI (hx5.blk HD1.out)
      have HE2:=hI (hx5.blk HD2.out)
      have HPV:=hI hpv
      have HPP:=hI hpv.parts.1
      have HOWN5:=hI (owns_ext HOWN1.out hx5)
      have HPRS5:=hI (HPRS1.out.mono (mask_ext _ hx5))
      have HRO5:=hI (show ∀ z∈rowOf u7,w.heap.size+3<=z/\z < w5.heap.size from fun z hz=>by have h1:=HRO.out z hz;have h2:=hx5.size;omega)
      clear hx5 hpv e0 e1 e2 ef g0 g1 g2 g3 g4 g5 gf HD0 HD1 HD2 HOWN1 HPRS1 HRO HPA1
      obtain⟨pb,pk,pa,pn,pc⟩:=pv
      unfold PrV.val
      simp only at HPP
      cases pb
      case false =>
       have hltr:=blk_lt HE2.out
       obtain⟨r0,r1,r2,rf⟩:=blk3 HE2.out
       have HZ:=hI (show _/\_ from prove_fin (w:=w) (W:=(w5.alloc (.cells #[.bool false,.int .i64 pk,.slice pa pn pc] 40)).alloc (.cells #[.bool false,.int .i64 pk,.slice pa pn pc] 40)) (B:=w.heap.size+1+1) (M:=M) (pv:=⟨false,k,some ⟨w5.heap.size+1,0,none⟩,1,1⟩) (blk_alloc (blk_alloc HE2.out)) (by omega) ((HX5.out.alloc _).alloc _)
        (isPr_one (v:=⟨false,pk,pa,pn,pc⟩) (t:=40) (alloc_atR (by simp)) (fun hy=>by
         have h2:=HX5.out.size
         simp only[List.mem_cons] at hy
         rcases hy with hy|hy
         ·omega
         have:=HM.out _ hy;omega) ((HPV.out.mono (mask_less _ (fun y hy=>List.mem_append_right _ hy))).mono (mask_ext _ (((Ext.refl w5).alloc _).alloc _))) false k))
       simp only at HZ
       obtain⟨s0,s1,s2,sf⟩:=blk3 (show ((w5.alloc (.cells #[.bool false,.int .i64 pk,.slice pa pn pc] 40)).alloc (.cells #[.bool false,.int .i64 pk,.slice pa pn pc] 40)).heap[w.heap.size+1+1]?=some (.cells #[.bool false,.int .i64 0,.slice none 0 0] 40 (0,0)) from blk_alloc (blk_alloc HE2.out))
       have HF:=hI (show R=.mk false k [q] by
        rw[HQ.out]
        refine sevP_hit (by rw[pfL_at hka,HQK.out]) HPP.out.symm fun j q' hj hq'=>?_
        rw[pfL_at (by omega)] at hq'
        obtain rfl:=Option.some.inj hq'
        exact HNO.out j (by omega) hj)
       go_wp2_with fail
       obtain⟨wz,hwz⟩:∃ wz,wz=put3 ((w5.alloc (.cells #[.bool false,.int .i64 pk,.slice pa pn pc] 40)).alloc (.cells #[.bool false,.int .i64 pk,.slice pa pn pc] 40)) (w.heap.size+1+1) (.bool false) (.int .i64 (k:Int)) (.slice (some ⟨w5.heap.size+1,0,none⟩) 1 1):=⟨_,rfl⟩
       rw[<-hwz] at HZ
       unfold put3 at hwz
       rw[<-hwz]
       clear hwz
       obtain⟨z0,z1,z2,zf⟩:=blk3 HZ.out.1
       refine bodyPost_ret (v:=PrV.val ⟨false,k,some ⟨w5.heap.size+1,0,none⟩,1,1⟩) (by simp[results,Tryz.results32,go_sem,PrV.val,z0,z1,z2]) rfl ?_
       rw[HF.out]
       exact HZ.out.2
      case true =>
       go_upto_region 15 with fail
       obtain⟨w6,hw6⟩:∃ w6,w6=w5.alloc (.cells #[.bool true,.int .i64 pk,.slice pa pn pc] 40):=⟨_,rfl⟩
       obtain⟨y6,hy6⟩:∃ y6:Nat,y6=w5.heap.size:=⟨_,rfl⟩
       have hx6:Ext w5 w6:=by rw[hw6];exact(Ext.refl w5).alloc _
       have HB6:=hI (show w6.heap[y6]?=some (.cells #[.bool true,.int .i64 pk,.slice pa pn pc] 40 (0,0)) by rw[hw6,hy6];exact alloc_new w5 _)
       rw[<-hw6,<-hy6]
       clear hw6 hy6
       have HX6:=hI (HX5.out.trans hx6)
       have HF0:=hI (hx6.blk HE0.out)
       have HF1:=hI (hx6.blk HE1.out)
       have HF2:=hI (hx6.blk HE2.out)
       have HOWN6:=hI (owns_ext HOWN5.out hx6)
       have HPRS6:=hI (HPRS5.out.mono (mask_ext _ hx6))
       have HPV6:=hI (HPV.out.mono (mask_ext _ hx6))
       have HRO6:=hI (show ∀ z∈rowOf u7,w.heap.size+3<=z/\z < w6.heap.size from fun z hz=>by have h1:=HRO5.out z hz;have h2:=hx6.size;omega)
       have hs6:=HX6.out.size
       clear hx6 HE0 HE1 HE2 HOWN5 HPRS5 HPV HRO5
       obtain⟨u0,u1,u2,uf⟩:=blk3 HB6.out
       have hlt6:=blk_lt HF2.out
       go_wp2_with (at_builtin;refine wpList_append_at elemPr rfl _ _ rfl (w.heap.size+3) _ k _ rfl HOWN6.out _ 1 1 rfl ?f0 rfl ?f1 ?f2 ?f3 ?f4 ?_)
       case f0=>simp
       case f1=>simp[Value.oneCell']
       case f2=>unfold maxLen;omega
       case f3=>omega
       case f4=>omega
       intro v8 w8 hown8 hc8 hw8
       have HO8:=hI (show w8.ownsRow (w.heap.size+3) 40 3 v8 (k+1) ((vs++[(⟨true,pk,pa,pn,pc⟩:PrV)]).flatMap PrV.cells) by simpa [PrV.cells] using hown8)
       have s2:Sub (mask w6 (rowOf u7++(w.heap.size+1+1)::M)) (mask w8 (rowOf v8++(w.heap.size+1+1)::M)):=prv_keeps hc8 hw8
       have HP8:=hI (show PrsR (mask w8 (rowOf v8++(w.heap.size+1+1)::M)) ((args.take (k+1)).map (pfE s f V)) (vs++[(⟨true,pk,pa,pn,pc⟩:PrV)]) by
        rw[take_map_snoc hka,<-HQK.out]
        exact(HPRS6.out.mono s2).snoc (HPV6.out.mono s2))
       have HG0:=hI (hc8.blk HF0.out (fun hm=>by have:=(HRO6.out _ hm).1;omega))
       have HG1:=hI (hc8.blk HF1.out (fun hm=>by have:=(HRO6.out _ hm).1;omega))
       have HG2:=hI (hc8.blk HF2.out (fun hm=>by have:=(HRO6.out _ hm).1;omega))
       have HX8:=hI (hc8.ext HX6.out (fun z hz=>by have:=(HRO6.out z hz).1;omega))
       obtain⟨a8,c8,hv8⟩:=owns_formG hown8
       subst hv8
       clear hown8 hc8 hw8 s2 u0 u1 u2 uf hs6 hlt6
       go_wp2_with fail
       go_roundw
       case rel =>
        refine⟨k+1,_,by go_num,by omega,fun j hj hjk=>?_,HO8.out,HP8.out,HG0.out,HG1.out,HG2.out,HX8.out⟩
        by_cases e:j=k
        ·subst e
         rw[<-HQK.out,<-HPP.out];simp
        exact HNO.out j hj (by omega)
       case measure=>simp[intOf];omega
     have t1:decide ((k:Int) < (na:Int))=false:=decide_eq_false (by omega)
     obtain rfl:k=na:=by omega
     have hl0:((args.take k).map (pfE s f V))=pfL s f V args:=by rw[pfL_map,List.take_of_length_le (by have:=HNA.out;omega)]
     have hkl:(pfL s f V args).length=k:=by rw[pfL_map];simpa using HNA.out.symm
     have hps:=HPRS.out
     have hos:=HOWN.out
     rw[hl0] at hps
     rw[<-hkl] at hos
     obtain⟨a',c',rfl,hip⟩:=prs_owns (M:=(w.heap.size+1+1)::M) hos (fun z hz hm=>by
      have h1:=(HOWN.out.lt z hz).1
      simp only[List.mem_cons] at hm
      rcases hm with hm|hm
      ·omega
      have:=HM.out z hm;omega) (hps.mono (mask_less _ (fun y hy=>List.mem_append_right _ hy))) true (-1)
     have HF:=hI (show R=.mk true (-1) (pfL s f V args) by
      rw[HQ.out]
      exact sevP_miss fun j q' hq'=>by
       have hj:j < args.length:=by
        have:=(List.getElem?_eq_some_iff.1 hq').1
        rw[hkl] at this;have:=HNA.out;omega
       rw[pfL_at hj] at hq'
       obtain rfl:=Option.some.inj hq'
       exact HNO.out j hj (by have:=HNA.out;omega))
     rw[hkl] at hip ⊢
     have HIP:=hI hip
     have HZ:=hI (show _/\_ from prove_fin (w:=w) (W:=wr) (B:=w.heap.size+1+1) (M:=M) (pv:=⟨true,-1,a',k,c'⟩) HC2.out (by omega) HXR.out HIP.out)
     simp only at HZ
     obtain⟨r0,r1,r2,rf⟩:=blk3 HC2.out
     clear hps hos hl0 hip hkl
     go_wp2_with fail
     obtain⟨wz,hwz⟩:∃ wz,wz=put3 wr (w.heap.size+1+1) (.bool true) (.int .i64 (-1)) (.slice a' k c'):=⟨_,rfl⟩
     rw[<-hwz] at HZ
     unfold put3 at hwz
     rw[<-hwz]
     clear hwz
     obtain⟨z0,z1,z2,zf⟩:=blk3 HZ.out.1
     refine bodyPost_ret (v:=PrV.val ⟨true,-1,a',k,c'⟩) (by simp[results,Tryz.results32,go_sem,PrV.val,z0,z1,z2]) rfl ?_
     rw[HF.out]
     exact HZ.out.2
   -- or
   have HQ:=hI (show R=sevP true (pfL s f V args) by rw[HR.out,if_neg (by decide),if_pos (by decide)];rfl)
   clear HFC HFW HVV HVN HR HDC HDEF
   go_enter Tryz.func32,Tryz.ntmps32
   go_upto_region 1 with fail
   rw[<-hwa]
   clear hwa
   go_wp2_with fail
   clear f0 f1 f2 f3 f4 f5 ff e0 e1 e2 ef hltw
   go_loopw [7,39] (ProvL s f V args true na w.heap.size M (.cells #[.slice sa sn sc,.map (some bm),.slice fa fn fc] 71 (0,0)) (.cells #[.int .i64 8,.string name,.slice aw nw cw,.int .i64 lo,.int .i64 hi,.slice aa na ca] 26 (0,0)) w) (fun _ i _=>na - (intOf i).toNat)
   case atStart=>exact⟨0,[],rfl,by omega,fun j _ h=>by omega,⟨rfl,Or.inl ⟨rfl,rfl⟩⟩,PrsR.nil _,HB0.out,HB1.out,HB2.out,HXA.out⟩
   case round =>
    obtain⟨k,vs,rfl,hk,hno,hown,hprs,hb0,hb1,hb2,hxr⟩:=hrel
    have HNO:=hI hno
    have HOWN:=hI hown
    have HPRS:=hI hprs
    have HXR:=hI hxr
    have HC0:=hI hb0
    have HC1:=hI hb1
    have HC2:=hI hb2
    obtain⟨e0,e1,e2,ef⟩:=blk3 hb0
    have hlt2:=blk_lt hb2
    clear hno hown hprs hxr hb0 hb1 hb2
    by_cases hkn:k < na
    ·have hka:k < args.length:=by have:=HNA.out;omega
     have t1:decide ((k:Int) < (na:Int))=true:=decide_eq_true (by omega)
     obtain⟨xb,xo,rfl,aw1,nw1,cw1,aa1,na1,ca1,g0,g1,g2,g3,g4,g5,g6⟩:=ExsD.at args _ (ExsD.ext HXR.out args _ HX.out) k hka
     have G6:=hI g6
     obtain⟨q,hq⟩:∃ q,q=pfE s f V args[k]:=⟨_,rfl⟩
     have HPA:=hI (fun (N:ZN) W (hW:Ext wr W) (hN:∀ y∈N,y < W.heap.size)=>HARG.out k hka _ N W (HXR.out.trans hW) hN (G6.out.ext hW))
     rw[<-hq] at HPA
     have HQK:=hI hq
     unfold exV at HPA
     clear hq g6
     go_upto_region 12 with fail
     obtain⟨y,hy⟩:∃ y:Nat,y=wr.heap.size:=⟨_,rfl⟩
     obtain⟨w1,hw1⟩:∃ w1,w1=wr.alloc (.cells #[.int .i64 args[k].op,.string args[k].name,.slice aw1 nw1 cw1,.int .i64 args[k].lo,.int .i64 args[k].hi,.slice aa1 na1 ca1] 26):=⟨_,rfl⟩
     have hx1:Ext wr w1:=by rw[hw1];exact(Ext.refl wr).alloc _
     have HBX:=hI (show w1.heap[y]?=some (.cells #[.int .i64 args[k].op,.string args[k].name,.slice aw1 nw1 cw1,.int .i64 args[k].lo,.int .i64 args[k].hi,.slice aa1 na1 ca1] 26 (0,0)) by rw[hw1,hy];exact alloc_new wr _)
     rw[<-hw1,<-hy]
     clear hw1 hy
     have HX1:=hI (HXR.out.trans hx1)
     have HPA1:=hI (fun (N:ZN) (hN:∀ y∈N,y < w1.heap.size)=>HPA.out N w1 hx1 hN)
     have HD0:=hI (hx1.blk HC0.out)
     have HD1:=hI (hx1.blk HC1.out)
     have HD2:=hI (hx1.blk HC2.out)
     have HOWN1:=hI (owns_ext HOWN.out hx1)
     have HPRS1:=hI (HPRS.out.mono (mask_ext _ hx1))
     have HRO:=hI (show ∀ z∈rowOf u7,w.heap.size+3<=z/\z < w1.heap.size from fun z hz=>by have h1:=HOWN.out.lt z (mem_rowOf.1 hz);have h2:=hx1.size;omega)
     clear e0 e1 e2 ef g0 g1 g2 g3 g4 g5 hlt2 hx1 HC0 HC1 HC2 HOWN HPRS HPA
     obtain⟨e0,e1,e2,ef⟩:=blk3 HD0.out
     obtain⟨g0,g1,g2,g3,g4,g5,gf⟩:=blk6 HBX.out
     go_wp2_with fail
     refine(HPA1.out (rowOf u7++(w.heap.size+1+1)::M) (fun z hz=>by
      rcases List.mem_append.1 hz with h|h
      ·exact(HRO.out z h).2
      have h1:=blk_lt HD2.out
      have h2:=HX1.out.size
      rcases List.mem_cons.1 h with rfl|h
      ·omega
      have:=HM.out z h;omega)).mono ?_
     rintro r w5 ⟨pv,rfl,hpv,hx5⟩
     have HX5:=hI (HX1.out.trans hx5)
     have HE0:=hI (hx5.blk HD0.out)
     have HE1:=hI (hx5.blk HD1.out)
     have HE2:=hI (hx5.blk HD2.out)
     have HPV:=hI hpv
     have HPP:=hI hpv.parts.1
     have HOWN5:=hI (owns_ext HOWN1.out hx5)
     have HPRS5:=hI (HPRS1.out.mono (mask_ext _ hx5))
     have HRO5:=hI (show ∀ z∈rowOf u7,w.heap.size+3<=z/\z < w5.heap.size from fun z hz=>by have h1:=HRO.out z hz;have h2:=hx5.size;omega)
     clear hx5 hpv e0 e1 e2 ef g0 g1 g2 g3 g4 g5 gf HD0 HD1 HD2 HOWN1 HPRS1 HRO HPA1
     obtain⟨pb,pk,pa,pn,pc⟩:=pv
     unfold PrV.val
     simp only at HPP
     cases pb
     case true =>
      have hltr:=blk_lt HE2.out
      obtain⟨r0,r1,r2,rf⟩:=blk3 HE2.out
      have HZ:=hI (show _/\_ from prove_fin (w:=w) (W:=(w5.alloc (.cells #[.bool true,.int .i64 pk,.slice pa pn pc] 40)).alloc (.cells #[.bool true,.int .i64 pk,.slice pa pn pc] 40)) (B:=w.heap.size+1+1) (M:=M) (pv:=⟨true,k,some ⟨w5.heap.size+1,0,none⟩,1,1⟩) (blk_alloc (blk_alloc HE2.out)) (by omega) ((HX5.out.alloc _).alloc _)
       (isPr_one (v:=⟨true,pk,pa,pn,pc⟩) (t:=40) (alloc_atR (by simp)) (fun hy=>by
        have h2:=HX5.out.size
        simp only[List.mem_cons] at hy
        rcases hy with hy|hy
        ·omega
        have:=HM.out _ hy;omega) ((HPV.out.mono (mask_less _ (fun y hy=>List.mem_append_right _ hy))).mono (mask_ext _ (((Ext.refl w5).alloc _).alloc _))) true k))
      simp only at HZ
      obtain⟨s0,s1,s2,sf⟩:=blk3 (show ((w5.alloc (.cells #[.bool true,.int .i64 pk,.slice pa pn pc] 40)).alloc (.cells #[.bool true,.int .i64 pk,.slice pa pn pc] 40)).heap[w.heap.size+1+1]?=some (.cells #[.bool false,.int .i64 0,.slice none 0 0] 40 (0,0)) from blk_alloc (blk_alloc HE2.out))
      have HF:=hI (show R=.mk true k [q] by
       rw[HQ.out]
       refine sevP_hit (by rw[pfL_at hka,HQK.out]) HPP.out.symm fun j q' hj hq'=>?_
       rw[pfL_at (by omega)] at hq'
       obtain rfl:=Option.some.inj hq'
       exact HNO.out j (by omega) hj)
      go_wp2_with fail
      obtain⟨wz,hwz⟩:∃ wz,wz=put3 ((w5.alloc (.cells #[.bool true,.int .i64 pk,.slice pa pn pc] 40)).alloc (.cells #[.bool true,.int .i64 pk,.slice pa pn pc] 40)) (w.heap.size+1+1) (.bool true) (.int .i64 (k:Int)) (.slice (some ⟨w5.heap.size+1,0,none⟩) 1 1):=⟨_,rfl⟩
      rw[<-hwz] at HZ
      unfold put3 at hwz
      rw[<-hwz]
      clear hwz
      obtain⟨z0,z1,z2,zf⟩:=blk3 HZ.out.1
      refine bodyPost_ret (v:=PrV.val ⟨true,k,some ⟨w5.heap.size+1,0,none⟩,1,1⟩) (by simp[results,Tryz.results32,go_sem,PrV.val,z0,z1,z2]) rfl ?_
      rw[HF.out]
      exact HZ.out.2
     case false =>
      go_upto_region 15 with fail
      obtain⟨w6,hw6⟩:∃ w6,w6=w5.alloc (.cells #[.bool false,.int .i64 pk,.slice pa pn pc] 40):=⟨_,rfl⟩
      obtain⟨y6,hy6⟩:∃ y6:Nat,y6=w5.heap.size:=⟨_,rfl⟩
      have hx6:Ext w5 w6:=by rw[hw6];exact(Ext.refl w5).alloc _
      have HB6:=hI (show w6.heap[y6]?=some (.cells #[.bool false,.int .i64 pk,.slice pa pn pc] 40 (0,0)) by rw[hw6,hy6];exact alloc_new w5 _)
      rw[<-hw6,<-hy6]
      clear hw6 hy6
      have HX6:=hI (HX5.out.trans hx6)
      have HF0:=hI (hx6.blk HE0.out)
      have HF1:=hI (hx6.blk HE1.out)
      have HF2:=hI (hx6.blk HE2.out)
      have HOWN6:=hI (owns_ext HOWN5.out hx6)
      have HPRS6:=hI (HPRS5.out.mono (mask_ext _ hx6))
      have HPV6:=hI (HPV.out.mono (mask_ext _ hx6))
      have HRO6:=hI (show ∀ z∈rowOf u7,w.heap.size+3<=z/\z < w6.heap.size from fun z hz=>by have h1:=HRO5.out z hz;have h2:=hx6.size;omega)
      have hs6:=HX6.out.size
      clear hx6 HE0 HE1 HE2 HOWN5 HPRS5 HPV HRO5
      obtain⟨u0,u1,u2,uf⟩:=blk3 HB6.out
      have hlt6:=blk_lt HF2.out
      go_wp2_with (at_builtin;refine wpList_append_at elemPr rfl _ _ rfl (w.heap.size+3) _ k _ rfl HOWN6.out _ 1 1 rfl ?f0 rfl ?f1 ?f2 ?f3 ?f4 ?_)
      case f0=>simp
      case f1=>simp[Value.oneCell']
      case f2=>unfold maxLen;omega
      case f3=>omega
      case f4=>omega
      intro v8 w8 hown8 hc8 hw8
      have HO8:=hI (show w8.ownsRow (w.heap.size+3) 40 3 v8 (k+1) ((vs++[(⟨false,pk,pa,pn,pc⟩:PrV)]).flatMap PrV.cells) by simpa [PrV.cells] using hown8)
      have s2:Sub (mask w6 (rowOf u7++(w.heap.size+1+1)::M)) (mask w8 (rowOf v8++(w.heap.size+1+1)::M)):=prv_keeps hc8 hw8
      have HP8:=hI (show PrsR (mask w8 (rowOf v8++(w.heap.size+1+1)::M)) ((args.take (k+1)).map (pfE s f V)) (vs++[(⟨false,pk,pa,pn,pc⟩:PrV)]) by
       rw[take_map_snoc hka,<-HQK.out]
       exact(HPRS6.out.mono s2).snoc (HPV6.out.mono s2))
      have HG0:=hI (hc8.blk HF0.out (fun hm=>by have:=(HRO6.out _ hm).1;omega))
      have HG1:=hI (hc8.blk HF1.out (fun hm=>by have:=(HRO6.out _ hm).1;omega))
      have HG2:=hI (hc8.blk HF2.out (fun hm=>by have:=(HRO6.out _ hm).1;omega))
      have HX8:=hI (hc8.ext HX6.out (fun z hz=>by have:=(HRO6.out z hz).1;omega))
      obtain⟨a8,c8,hv8⟩:=owns_formG hown8
      subst hv8
      clear hown8 hc8 hw8 s2 u0 u1 u2 uf hs6 hlt6
      go_wp2_with fail
      go_roundw
      case rel =>
       refine⟨k+1,_,by go_num,by omega,fun j hj hjk=>?_,HO8.out,HP8.out,HG0.out,HG1.out,HG2.out,HX8.out⟩
       by_cases e:j=k
       ·subst e
        rw[<-HQK.out,<-HPP.out];simp
       exact HNO.out j hj (by omega)
      case measure=>simp[intOf];omega
    have t1:decide ((k:Int) < (na:Int))=false:=decide_eq_false (by omega)
    obtain rfl:k=na:=by omega
    have hl0:((args.take k).map (pfE s f V))=pfL s f V args:=by rw[pfL_map,List.take_of_length_le (by have:=HNA.out;omega)]
    have hkl:(pfL s f V args).length=k:=by rw[pfL_map];simpa using HNA.out.symm
    have hps:=HPRS.out
    have hos:=HOWN.out
    rw[hl0] at hps
    rw[<-hkl] at hos
    obtain⟨a',c',rfl,hip⟩:=prs_owns (M:=(w.heap.size+1+1)::M) hos (fun z hz hm=>by
     have h1:=(HOWN.out.lt z hz).1
     simp only[List.mem_cons] at hm
     rcases hm with hm|hm
     ·omega
     have:=HM.out z hm;omega) (hps.mono (mask_less _ (fun y hy=>List.mem_append_right _ hy))) false (-1)
    have HF:=hI (show R=.mk false (-1) (pfL s f V args) by
     rw[HQ.out]
     exact sevP_miss fun j q' hq'=>by
      have hj:j < args.length:=by
       have:=(List.getElem?_eq_some_iff.1 hq').1
       rw[hkl] at this;have:=HNA.out;omega
      rw[pfL_at hj] at hq'
      obtain rfl:=Option.some.inj hq'
      exact HNO.out j hj (by have:=HNA.out;omega))
    rw[hkl] at hip ⊢
    have HIP:=hI hip
    have HZ:=hI (show _/\_ from prove_fin (w:=w) (W:=wr) (B:=w.heap.size+1+1) (M:=M) (pv:=⟨false,-1,a',k,c'⟩) HC2.out (by omega) HXR.out HIP.out)
    simp only at HZ
    obtain⟨r0,r1,r2,rf⟩:=blk3 HC2.out
    clear hps hos hl0 hip hkl
    go_wp2_with fail
    obtain⟨wz,hwz⟩:∃ wz,wz=put3 wr (w.heap.size+1+1) (.bool false) (.int .i64 (-1)) (.slice a' k c'):=⟨_,rfl⟩
    rw[<-hwz] at HZ
    unfold put3 at hwz
    rw[<-hwz]
    clear hwz
    obtain⟨z0,z1,z2,zf⟩:=blk3 HZ.out.1
    refine bodyPost_ret (v:=PrV.val ⟨false,-1,a',k,c'⟩) (by simp[results,Tryz.results32,go_sem,PrV.val,z0,z1,z2]) rfl ?_
    rw[HF.out]
    exact HZ.out.2
end Go.Proofs.YtpkljcgihobaiaaGreatDoor
