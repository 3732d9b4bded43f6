/-
  Texts of the claim, joined: RCls, Ord4, Ord6.
-/
import Derived.Test.YtpkljcgihobaiaaGreatDoorVe15
namespace Go.Proofs.YtpkljcgihobaiaaGreatDoor
set_option maxRecDepth 100000
set_option maxHeartbeats 32000000
open Go.RowKit
theorem refExprB_size {e:Ex} (h:refExprB e=true):e.size<=100000:=by
 unfold refExprB refSize at h
 simp only[Bool.and_eq_true,decide_eq_true_eq] at h
 omega
theorem clauseB_cond {c:Cla} (h:clauseB c=true):refExprB c.cond=true:=by
 unfold clauseB at h
 simp only[Bool.and_eq_true] at h
 exact h.1.1.2
theorem claErr_valid {s:List Attr} {l:List Cla} {i:Nat} (h:claErr s l i=0) (hi:i < l.length):clauseB l[i]=true:=by
 unfold claErr at h
 rw[getD_cla hi] at h
 cases hb:clauseB l[i]
 ·rw[hb] at h;simp at h
 rfl
theorem cls_bad {s:List Attr} {l:List Cla} (h:schemaErr s≠0):clausesErr s l=(0,schemaErr s):=by unfold clausesErr;rw[if_pos h]
theorem cls_many {s:List Attr} {l:List Cla} (h:schemaErr s=0) (hn:100 < l.length):clausesErr s l=(0,4):=by unfold clausesErr;rw[if_neg (by simp[h]),if_pos hn]
theorem cls_hit {s:List Attr} {l:List Cla} (h:schemaErr s=0) (hn:¬ 100 < l.length) {k:Nat} (hk:k < l.length) (h0:∀ j,j < k->claErr s l j=0) (h1:claErr s l k≠0):clausesErr s l=(k,claErr s l k):=by
 unfold clausesErr
 have:=firstI_hit h1 h0 l.length hk
 rw[if_neg (by simp[h]),if_neg hn,this,if_pos h1]
theorem cls_cycle {s:List Attr} {l:List Cla} (h:schemaErr s=0) (hn:¬ 100 < l.length) (h0:∀ j,j < l.length->claErr s l j=0) (hs:¬ Sorts (l.map Cla.dfn)):clausesErr s l=(0,10):=by
 unfold clausesErr
 rw[if_neg (by simp[h]),if_neg hn,firstI_zero _ h0,if_neg (by simp),if_pos hs]
theorem cls_large {s:List Attr} {l:List Cla} (h:schemaErr s=0) (hn:¬ 100 < l.length) (h0:∀ j,j < l.length->claErr s l j=0) (hs:Sorts (l.map Cla.dfn)) {k:Nat} (hk:k < l.length) (g0:∀ j,j < k->claLarge l j=0) (g1:claLarge l k=4):clausesErr s l=(k,4):=by
 unfold clausesErr
 rw[if_neg (by simp[h]),if_neg hn,firstI_zero _ h0,if_neg (by simp),if_neg (by simp[hs]),firstI_hit (by rw[g1];decide) g0 _ hk,g1]
theorem cls_good {s:List Attr} {l:List Cla} (h:schemaErr s=0) (hn:¬ 100 < l.length) (h0:∀ j,j < l.length->claErr s l j=0) (hs:Sorts (l.map Cla.dfn)) (g0:∀ j,j < l.length->claLarge l j=0):clausesErr s l=(0,0):=by
 unfold clausesErr
 rw[if_neg (by simp[h]),if_neg hn,firstI_zero _ h0,if_neg (by simp),if_neg (by simp[hs]),firstI_zero _ g0]
def clsV (r:Nat×Int):Value:=.tuple #[.int .i64 (r.1:Nat),.int .i64 r.2]
theorem givesE_cls {r:Nat×Int} {i:Nat} {e:Int} {w w':World} (h:r=(i,e)) (hx:Ext w w'):GivesE (clsV r) w (.returned (.tuple #[.int .i64 (i:Nat),.int .i64 e])) w':=by subst h;exact⟨rfl,hx⟩
def c14V (b off n c k:Nat) (sa:OA) (sn sc:Nat) (nm:BA) (q:Nat) (ab:Bool):Nat->Value->World->Prop
 | 0,u,_=>u=.agg #[.slice sa sn sc]
 | 1,u,_=>u=.slice (some ⟨b,off,none⟩) n c
 | 2,u,_=>u=.int .i64 k
 | 3,u,_=>u=.pointer (some ⟨b,off+k * 10,none⟩)
 | 4,u,_=>u=.pointer (some ⟨b,off+k * 10+1,none⟩)
 | 5,u,_=>u=.string nm
 | 6,u,_=>u=.tuple #[.int .i64 q,.bool ab]
 | 7,u,_=>u=.tuple #[.int .i64 q,.bool ab]
 | 8,u,_=>u=.int .i64 q
 | 9,u,_=>u=.bool ab
 | 10,u,_=>u=.int .i64 q
 | _,u,_=>u=.bool ab
def Cla.okk (c:Cla):Prop:=c.ok/\wbN c.unl < 1000000000000000
theorem Cla.okk.fit {c:Cla} (h:c.okk):c.fit:=h.1.fit
theorem wbN_of_cnt:(l:List Wb)->cntBacks l<=40->wbN l<=cntBacks l
 | [],_=>by simp[wbN]
 | .mk n c u::r,h=>by
  rw[cntBacks] at h ⊢
  have h1:=wbN_of_cnt u (by omega)
  have h2:=wbN_of_cnt r (by omega)
  rw[wbN];omega
theorem wbOk_of:(d:Nat)->(l:List Wb)->backsB d l=true->wbFits l->wbOk l
 | _,[],_,_=>by unfold wbOk;trivial
 | d,.mk n c u::r,h,hf=>by
  rw[backsB] at h
  simp only[Bool.and_eq_true] at h
  rw[wbFits] at hf
  have:=refExprB_size h.1.1.2
  unfold wbOk
  exact⟨hf.1,hf.2.1,hf.2.2.1,by omega,wbOk_of _ u h.1.2 hf.2.2.2.2.2.1,wbOk_of d r h.2 hf.2.2.2.2.2.2⟩
theorem Cla.fit.okk {c:Cla} (h:c.fit) (hc:clauseB c=true):c.okk:=by
 have hx:=refExprB_size (clauseB_cond hc)
 have key:wbOk c.unl/\wbN c.unl<=40:=by
  unfold clauseB at hc
  simp only[Bool.and_eq_true,Bool.or_eq_true,decide_eq_true_eq] at hc
  rcases hc.1.2 with h0|⟨⟨_,h1⟩,h2⟩
  ·rw[List.eq_nil_of_length_eq_zero h0]
   exact⟨by unfold wbOk;trivial,by simp[wbN]⟩
  exact⟨wbOk_of 16 _ h2 h.2.2.2.2.2,Nat.le_trans (wbN_of_cnt _ h1) h1⟩
 exact⟨⟨h.1,h.2.1,h.2.2.1,by omega,key.1,by omega⟩,by omega⟩
theorem rClauses_calls (s:List Attr) (l:List Cla) (sv:Value) (a:OA) (n c:Nat) (w:World) (hs:IsSchema w s sv) (hf:∀ x∈s,x.fits) (hsl:s.length<=1000000000000000) (hl:IsClas w l a n c) (hn:n<=1000000000000000) (hok:∀ x∈l,x.fit) :
  Calls Tryz.prog 33 #[sv,.slice a n c] w (GivesE (clsV (clausesErr s l)) w):=by
 obtain⟨sa,sn,sc,rfl,hsn⟩:=hs.slice
 have HS:=hI hs
 have HL:=hI hl
 have HN:=hI hl.len
 have HF:=hI hf
 have HOK:=hI hok
 obtain⟨R,hR⟩:∃ R,R=clausesErr s l:=⟨_,rfl⟩
 rw[<-hR]
 have HR:=hI hR
 clear hs hl hf hok hR hsn
 go_enter Tryz.func33,Tryz.ntmps33
 go_upto_region 1 with fail
 obtain⟨wa,hwa⟩:∃ wa,wa=w.alloc (.cells #[.slice sa sn sc] 31):=⟨_,rfl⟩
 have hxa:Ext w wa:=by rw[hwa];exact(Ext.refl _).alloc _
 have hb:wa.heap[w.heap.size]?=some (.cells #[.slice sa sn sc] 31 (0,0)):=by rw[hwa];exact alloc_new w _
 have HXA:=hI hxa
 have HBA:=hI hb
 obtain⟨d0,df⟩:=blk1 hb
 rw[<-hwa]
 clear hxa hb hwa
 go_wp2_with fail
 refine(rSchema_calls s _ wa (HS.out.ext HXA.out) HF.out hsl).mono ?_
 rintro r w1 ⟨rfl,hx1⟩
 have HX1:=hI (HXA.out.trans hx1)
 have HB1:=hI (hx1.blk HBA.out)
 clear hx1 d0 df
 by_cases hse:schemaErr s=0
 case neg =>
  have tz:(schemaErr s != 0)=true:=by simp[hse]
  have HQ:=hI (HR.out.trans (cls_bad hse))
  go_wp2_with fail
  go_ret2
  exact givesE_cls HQ.out HX1.out
 have tz:(schemaErr s != 0)=false:=by simp[hse]
 have HSE:=hI hse
 clear hse
 by_cases hm:100 < n
 ·have tm:decide ((100:Int) < (n:Int))=true:=decide_eq_true (by omega)
  have HQ:=hI (HR.out.trans (cls_many HSE.out (by have:=HN.out;omega)))
  go_wp2_with fail
  go_ret2
  exact givesE_cls HQ.out HX1.out
 have tm:decide ((100:Int) < (n:Int))=false:=decide_eq_false (by omega)
 have HM:=hI (show ¬ 100 < l.length by have:=HN.out;omega)
 go_wp2_with fail
 go_loopw [7] (fun t wr=>∃ k:Nat,t=.int .i64 k/\k<=n/\(∀ j,j < k->claErr s l j=0)/\wr.heap[w.heap.size]?=some (.cells #[.slice sa sn sc] 31 (0,0))/\Ext w wr) (fun t _=>n - (intOf t).toNat)
 case atStart=>exact⟨0,rfl,by omega,fun j h=>by omega,HB1.out,HX1.out⟩
 case round =>
  obtain⟨k,rfl,hk,hno,hbx,hxr⟩:=hrel
  have HNO:=hI hno
  have HBX:=hI hbx
  have HXR:=hI hxr
  obtain⟨d0,df⟩:=blk1 hbx
  clear hno hbx hxr HB1 HX1
  by_cases hkn:k < n
  ·have hkl:k < l.length:=by have:=HN.out;omega
   have t1:decide ((k:Int) < (n:Int))=true:=decide_eq_true (by omega)
   obtain⟨b,off,v,rfl,hcla,hrow⟩:=(HL.out.ext HXR.out).at hkl
   obtain⟨c0,c1,c2,c3,c4,c5,c6,c7,c8,c9⟩:=hrow.ten
   have HCLA:=hI hcla
   have HROW:=hI hrow
   have HOKF:=hI (HOK.out _ (List.getElem_mem hkl))
   have ti0:(0:Int)<=(k:Int):=by omega
   have ti1:(k:Int) < (n:Int):=by omega
   have HCE:=hI (show claErr s l k=if clauseB l[k]=false then 5 else if (findAt l l[k].name).getD 0 < k then 8 else if (attrAt s l[k].name).isSome then 8 else if nodesErr s l l[k].cond≠0 then nodesErr s l l[k].cond else backsErr s l l[k].unl by unfold claErr;rw[getD_cla hkl])
   have HHIT:=hI (fun (e:Int) (h:claErr s l k=e) (h0:e≠0)=>HR.out.trans (by rw[cls_hit HSE.out HM.out hkl HNO.out (by rw[h];exact h0),h]))
   have HNAM:=hI hcla.2.1
   clear hcla hrow
   go_upto_region 9 with fail
   go_wp2_with fail
   refine(rclause_fit l[k] v wr HCLA.out HOKF.out).mono ?_
   rintro r w3 ⟨rfl,hx3⟩
   have HX3:=hI (HXR.out.trans hx3)
   have HB3:=hI (hx3.blk HBX.out)
   have HC3:=hI (HCLA.out.mono hx3.sub)
   have HR3:=hI (HROW.out.mono hx3.sub)
   clear hx3 d0 df c0 c1 c2 c3 c4 c5 c6 c7 c8 c9 HBX HCLA HROW
   obtain⟨d0,df⟩:=blk1 HB3.out
   obtain⟨c0,c1,c2,c3,c4,c5,c6,c7,c8,c9⟩:=HR3.out.ten
   cases hcb:clauseB l[k]
   ·have HQ:=hI (HHIT.out 5 (by rw[HCE.out,hcb];rfl) (by decide))
    clear hcb
    go_wp2_with fail
    go_ret2
    exact givesE_cls HQ.out HX3.out
   have HOKK:=hI (HOKF.out.okk hcb)
   rw[hcb] at HCE
   simp only[Bool.true_eq_false,if_false] at HCE
   clear hcb
   go_wp2_with fail
   rw[HNAM.out]
   refine(rFind_calls l _ n c l[k].name w3 (HL.out.ext HX3.out) hn).mono ?_
   rintro r w4 ⟨rfl,rfl⟩
   unfold optV
   obtain⟨F,hF⟩:∃ F,F=(findAt l l[k].name).getD 0:=⟨_,rfl⟩
   rw[<-hF] at HCE ⊢
   have hFl:F<=l.length:=by
    rw[hF]
    cases hfa:findAt l l[k].name with
    | none=>simp
    | some q =>
     unfold findAt at hfa
     rw[List.findIdx?_eq_some_iff_getElem] at hfa
     obtain⟨h1,_⟩:=hfa
     simp only[Option.getD_some];omega
   generalize (findAt l l[k].name).isSome=fb
   clear hF
   by_cases hfk:F < k
   ·have tf:decide (F < k)=true:=decide_eq_true hfk
    have HQ:=hI (HHIT.out 8 (by rw[HCE.out,if_pos hfk]) (by decide))
    go_wp2_with fail
    go_ret2
    exact givesE_cls HQ.out HX3.out
   have tf:decide (F < k)=false:=decide_eq_false hfk
   rw[if_neg hfk] at HCE
   clear hFl
   go_wp2_with fail
   have HIX:=hI (fun (W:World) (hW:Ext w3 W)=>rIndex_calls s _ l[k].name W (HS.out.ext (HX3.out.trans hW)) hsl)
   obtain⟨q,hq⟩:∃ q,q=(attrAt s l[k].name).getD 0:=⟨_,rfl⟩
   obtain⟨ab,hab⟩:∃ ab,ab=(attrAt s l[k].name).isSome:=⟨_,rfl⟩
   have HIV:=hI (show optV (attrAt s l[k].name)=.tuple #[.int .i64 (q:Nat),.bool ab] by rw[hq,hab];rfl)
   rw[<-hab] at HCE
   rw[HNAM.out] at c1
   obtain⟨nm,hnm⟩:∃ nm,nm=l[k].name:=⟨_,rfl⟩
   rw[<-hnm] at c1 HIX HIV
   clear hq hab hnm
   go_upto_region 14 with fail
   refine wp_region_grow (m:=12) [11] (GrG w3) GrE (GrP (c14V b off n c k sa sn sc nm q ab)) (by kernel_rfl) (by kernel_rfl) ((Ext.refl w3).drew) ?_ ?_ ?_
   ·intro i k v W W' hi hk hne hout h hE
    have hE:Ext W W':=hE
    have hi':=ltc12 hi
    clear hi hk hne hout
    rcases hi' with rfl|rfl|rfl|rfl|rfl|rfl|rfl|rfl|rfl|rfl|rfl|rfl
    ·exact h
    ·exact h
    ·exact h
    ·exact h
    ·exact h
    ·exact h
    ·exact h
    ·exact h
    ·exact h
    ·exact h
    ·exact h
    exact h
   ·intro q op hq ho vs W hW hd ρ hρ
    have hq':=ltc12 hq
    clear hq
    have o2:ρ (.tmp 2)=.pointer (some ⟨w.heap.size,0,none⟩):=hρ.out 2 rfl
    have o1:ρ (.tmp 1)=.slice (some ⟨b,off,none⟩) n c:=hρ.out 1 rfl
    have o7:ρ (.tmp 7)=.int .i64 k:=hρ.out 7 rfl
    have i1:=hρ.i 1 54
    have i2:=hρ.i 2 55
    have i3:=hρ.i 3 56
    have i4:=hρ.i 4 57
    have i0:=hρ.i 0 53
    have i5:=hρ.i 5 58
    have i6:=hρ.i 6 59
    have i7:=hρ.i 7 52
    have i8:=hρ.i 8 60
    have i9:=hρ.i 9 61
    have hc:=hρ.const
    have hfn:=hρ.func
    clear hρ
    have HW:=hI (show Ext w3 W from hW)
    rcases hq' with rfl|rfl|rfl|rfl|rfl|rfl|rfl|rfl|rfl|rfl|rfl|rfl
    ·cases ho
     clear hd
     have g0:=HW.out.cell d0
     unfold GivesOp
     go_simp
     exact⟨Ext.refl W,rfl⟩
    ·cases ho
     clear hd
     unfold GivesOp
     go_simp
     exact⟨Ext.refl W,rfl⟩
    ·cases ho
     clear hd
     unfold GivesOp
     go_simp
     exact⟨Ext.refl W,rfl⟩
    ·cases ho
     have h1:vs 1=_:=hd ⟨1,.data⟩ (by simp) rfl
     rw[h1] at i1
     have h2:vs 2=_:=hd ⟨2,.data⟩ (by simp) rfl
     rw[h2] at i2
     clear hd
     unfold GivesOp
     go_simp
     exact⟨Ext.refl W,rfl⟩
    ·cases ho
     have h3:vs 3=_:=hd ⟨3,.data⟩ (by simp) rfl
     rw[h3] at i3
     clear hd
     unfold GivesOp
     go_simp
     exact⟨Ext.refl W,rfl⟩
    ·cases ho
     have h4:vs 4=_:=hd ⟨4,.data⟩ (by simp) rfl
     rw[h4] at i4
     clear hd
     have g1:=HW.out.cell c1
     unfold GivesOp
     go_simp
     exact⟨Ext.refl W,rfl⟩
    ·cases ho
     have h0:vs 0=_:=hd ⟨0,.data⟩ (by simp) rfl
     rw[h0] at i0
     have h5:vs 5=_:=hd ⟨5,.data⟩ (by simp) rfl
     rw[h5] at i5
     clear hd
     unfold GivesOp
     go_simp
     refine(HIX.out W HW.out).mono ?_
     rw[HIV.out]
     rintro r w5 ⟨rfl,hx5⟩
     exact⟨_,rfl,hx5,HW.out.trans hx5,rfl⟩
    ·cases ho
     have h6:vs 6=_:=hd ⟨6,.data⟩ (by simp) rfl
     rw[h6] at i6
     clear hd
     unfold GivesOp
     go_simp
     exact⟨Ext.refl W,rfl⟩
    ·cases ho
     have h7:vs 7=_:=hd ⟨7,.data⟩ (by simp) rfl
     rw[h7] at i7
     clear hd
     unfold GivesOp
     go_simp
     exact⟨Ext.refl W,rfl⟩
    ·cases ho
     have h7:vs 7=_:=hd ⟨7,.data⟩ (by simp) rfl
     rw[h7] at i7
     clear hd
     unfold GivesOp
     go_simp
     exact⟨Ext.refl W,rfl⟩
    ·cases ho
     have h8:vs 8=_:=hd ⟨8,.data⟩ (by simp) rfl
     rw[h8] at i8
     clear hd
     unfold GivesOp
     go_simp
     exact⟨Ext.refl W,rfl⟩
    cases ho
    have h9:vs 9=_:=hd ⟨9,.data⟩ (by simp) rfl
    rw[h9] at i9
    clear hd
    unfold GivesOp
    go_simp
    exact⟨Ext.refl W,rfl⟩
   intro vs W hW hR
   rw[if_pos (by decide +kernel)]
   have h11:vs 11=.bool ab:=hR 11 (by simp) (by omega)
   simp only[acts,dstAt,List.range,List.range.loop,List.foldl_cons,List.foldl_nil,h11]
   go_simp
   have hW2:Ext w3 W:=hW
   clear hR hW h11
   have hx6:=hW2
   clear hW2
   have HX6:=hI (HX3.out.trans hx6)
   have HB6:=hI (hx6.blk HB3.out)
   have HR6:=hI (HR3.out.mono hx6.sub)
   have HC6:=hI (HC3.out.mono hx6.sub)
   obtain⟨w6,hw6⟩:∃ w6,w6=W:=⟨_,rfl⟩
   rw[<-hw6] at HX6 HB6 HR6 HC6 ⊢
   clear hw6 hx6 HB3 HR3 HC3 d0 df c0 c1 c2 c3 c4 c5 c6 c7 c8 c9
   obtain⟨d0,df⟩:=blk1 HB6.out
   obtain⟨c0,c1,c2,c3,c4,c5,c6,c7,c8,c9⟩:=HR6.out.ten
   cases hat:ab
   case true =>
    have HQ:=hI (HHIT.out 8 (by rw[HCE.out,hat];rfl) (by decide))
    clear hat
    go_wp2_with fail
    go_ret2
    exact givesE_cls HQ.out HX6.out
   rw[hat] at HCE
   simp only[Bool.false_eq_true,if_false] at HCE
   clear hat
   go_wp2_with fail
   go_still_tail 7,(by kernel_rfl)
   change wpList _ _ _ _ _ w6.drew
   have hx7:Ext w6 w6.drew:=(Ext.refl w6).drew
   generalize w6.drew=w7 at hx7 ⊢
   have HX7:=hI (HX6.out.trans hx7)
   have HB7:=hI (hx7.blk HB6.out)
   have HR7:=hI (HR6.out.mono hx7.sub)
   have HC7:=hI (HC6.out.mono hx7.sub)
   clear hx7 d0 df c0 c1 c2 c3 c4 c5 c6 c7 c8 c9 HB6 HR6 HC6
   go_wp2_with fail
   refine(rnodesErr_calls s l HF.out hsl _ n c hn 1000000000000000 l[k].cond _ _ w7 HOKK.out.1.2.2.2.1 (by omega) HOKK.out.1.2.2.1 (HS.out.ext HX7.out) (HL.out.ext HX7.out) HC7.out.2.2.1).mono ?_
   rintro r w8 ⟨rfl,hx8⟩
   have HX8:=hI (HX7.out.trans hx8)
   have HB8:=hI (hx8.blk HB7.out)
   have HR8:=hI (HR7.out.mono hx8.sub)
   have HC8:=hI (HC7.out.mono hx8.sub)
   clear hx8 HB7 HR7 HC7
   obtain⟨d0,df⟩:=blk1 HB8.out
   obtain⟨c0,c1,c2,c3,c4,c5,c6,c7,c8,c9⟩:=HR8.out.ten
   obtain⟨E1,hE1⟩:∃ E1,E1=nodesErr s l l[k].cond:=⟨_,rfl⟩
   rw[<-hE1] at HCE ⊢
   clear hE1
   by_cases hz:E1=0
   case neg =>
    have ty:(E1 != 0)=true:=by simp[hz]
    have HQ:=hI (HHIT.out E1 (by rw[HCE.out,if_pos hz]) hz)
    clear hz
    go_wp2_with fail
    go_ret2
    exact givesE_cls HQ.out HX8.out
   subst hz
   simp only[ne_eq,not_true_eq_false,if_false] at HCE
   have ty:((0:Int) != 0)=false:=rfl
   go_wp2_with fail
   go_still_tail 7,(by kernel_rfl)
   change wpList _ _ _ _ _ w8.drew
   have hx9:Ext w8 w8.drew:=(Ext.refl w8).drew
   generalize w8.drew=w9 at hx9 ⊢
   have HX9:=hI (HX8.out.trans hx9)
   have HB9:=hI (hx9.blk HB8.out)
   have HR9:=hI (HR8.out.mono hx9.sub)
   have HC9:=hI (HC8.out.mono hx9.sub)
   clear hx9 d0 df c0 c1 c2 c3 c4 c5 c6 c7 c8 c9 HB8 HR8 HC8
   go_wp2_with fail
   refine(rbackErr_calls s l HF.out hsl _ n c hn 1000000000000000 l[k].unl _ _ _ _ w9 HOKK.out.2 (by omega) HOKK.out.1.2.2.2.2.1 (HS.out.ext HX9.out) (HL.out.ext HX9.out) HC9.out.2.2.2.2.2.2.1 HC9.out.2.2.2.1).mono ?_
   rintro r wA ⟨rfl,hxA⟩
   have HXA2:=hI (HX9.out.trans hxA)
   have HBA2:=hI (hxA.blk HB9.out)
   clear hxA HB9 HR9 HC9
   obtain⟨E2,hE2⟩:∃ E2,E2=backsErr s l l[k].unl:=⟨_,rfl⟩
   rw[<-hE2] at HCE ⊢
   clear hE2
   by_cases hz2:E2=0
   case neg =>
    have tz2:(E2 != 0)=true:=by simp[hz2]
    have HQ:=hI (HHIT.out E2 HCE.out hz2)
    clear hz2
    go_wp2_with fail
    go_ret2
    exact givesE_cls HQ.out HXA2.out
   subst hz2
   go_wp2_with fail
   go_roundw
   case rel =>
    refine⟨k+1,by go_num,by omega,fun j hj=>?_,HBA2.out,HXA2.out⟩
    by_cases e':j=k
    ·subst e';exact HCE.out
    exact HNO.out j (by omega)
   case measure=>simp[intOf];omega
  have t1:decide ((k:Int) < (n:Int))=false:=decide_eq_false (by omega)
  have HNA:=hI (show ∀ j,j < l.length->claErr s l j=0 from fun j hj=>HNO.out j (by have:=HN.out;omega))
  have HSZ:=hI (show ∀ x∈l,x.cond.size<=100000 by
   intro x hx
   obtain⟨j,hj,rfl⟩:=List.mem_iff_getElem.1 hx
   exact refExprB_size (clauseB_cond (claErr_valid (HNA.out j hj) hj)))
  clear HNO HBX d0 df
  go_wp2_with fail
  refine(rOrder_calls l a n c wr (HL.out.ext HXR.out) (by omega) HSZ.out).mono ?_
  rintro r w3 ⟨hx3,⟨hso,oa,on,oc,rfl⟩|⟨hso,rfl⟩⟩
  ·have HX3:=hI (HXR.out.trans hx3)
   have HSO:=hI hso
   clear hx3 hso
   go_wp2_with fail
   go_loopw [16] (fun t wr=>∃ k:Nat,t=.int .i64 k/\k<=n/\(∀ j,j < k->claLarge l j=0)/\Ext w wr) (fun t _=>n - (intOf t).toNat)
   case atStart=>exact⟨0,rfl,by omega,fun j h=>by omega,HX3.out⟩
   case round =>
    obtain⟨k2,rfl,hk2,hno,hxr⟩:=hrel
    have HNO:=hI hno
    have HXR2:=hI hxr
    clear hno hxr HX3 HXR
    by_cases hkn2:k2 < n
    ·have hkl:k2 < l.length:=by have:=HN.out;omega
     have t2:decide ((k2:Int) < (n:Int))=true:=decide_eq_true (by omega)
     obtain⟨b,off,v,rfl,hcla,hrow⟩:=(HL.out.ext HXR2.out).at hkl
     obtain⟨c0,c1,c2,c3,c4,c5,c6,c7,c8,c9⟩:=hrow.ten
     have HCLA:=hI hcla
     have HOKK:=hI ((HOK.out _ (List.getElem_mem hkl)).okk (claErr_valid (HNA.out k2 hkl) hkl))
     have ti0:(0:Int)<=(k2:Int):=by omega
     have ti1:(k2:Int) < (n:Int):=by omega
     have HLG:=hI (show claLarge l k2=if 2000 < expanded l l[k2].cond\/backsLarge l l[k2].unl=true then 4 else 0 by unfold claLarge;rw[getD_cla hkl])
     have HHIT:=hI (fun (h:claLarge l k2=4)=>HR.out.trans (cls_large HSE.out HM.out HNA.out HSO.out hkl HNO.out h))
     obtain⟨E,hE⟩:∃ E,E=expanded l l[k2].cond:=⟨_,rfl⟩
     have HEE:=hI hE
     rw[<-hE] at HLG
     clear hcla hrow hE
     go_wp2_with fail
     refine(rExpanded_calls l _ n c (by omega) (fun x hx=>by have:=HSZ.out x hx;omega) l[k2].cond _ wr HOKK.out.1.2.2.2.1 (HL.out.ext HXR2.out) HCLA.out.2.2.1).mono ?_
     rw[<-HEE.out]
     rintro r w5 ⟨rfl,hx5⟩
     have HX5:=hI (HXR2.out.trans hx5)
     have c85:=hx5.cell c8
     have HC5:=hI (HCLA.out.mono hx5.sub)
     clear hx5 c0 c1 c2 c3 c4 c5 c6 c7 c8 c9
     by_cases hz:2000 < E
     ·have tz:decide ((2000:Int) < (E:Int))=true:=decide_eq_true (by omega)
      have HQ:=hI (HHIT.out (by rw[HLG.out,if_pos (Or.inl hz)]))
      go_wp2_with fail
      go_ret2
      exact givesE_cls HQ.out HX5.out
     have tz:decide ((2000:Int) < (E:Int))=false:=decide_eq_false (by omega)
     have HL2:=hI (show claLarge l k2=if backsLarge l l[k2].unl=true then 4 else 0 by rw[HLG.out];simp only[hz,false_or])
     go_wp2_with fail
     refine(rbackLarge_calls l _ n c (by omega) (fun x hx=>by have:=HSZ.out x hx;omega) 1000000000000000 l[k2].unl _ _ _ w5 HOKK.out.2 (by omega) HOKK.out.1.2.2.2.2.1 (HL.out.ext HX5.out) HC5.out.2.2.2.2.2.2.1 HC5.out.2.2.2.1).mono ?_
     rintro r w6 ⟨rfl,hx6⟩
     have HX6:=hI (HX5.out.trans hx6)
     clear hx6 c85
     cases hb:backsLarge l l[k2].unl
     ·have HZ:=hI (show claLarge l k2=0 by rw[HL2.out,hb];rfl)
      clear hb
      go_wp2_with fail
      go_roundw
      case rel =>
       refine⟨k2+1,by go_num,by omega,fun j hj=>?_,HX6.out⟩
       by_cases e':j=k2
       ·subst e';exact HZ.out
       exact HNO.out j (by omega)
      case measure=>simp[intOf];omega
     have HQ:=hI (HHIT.out (by rw[HL2.out,hb];rfl))
     clear hb
     go_wp2_with fail
     go_ret2
     exact givesE_cls HQ.out HX6.out
    have t2:decide ((k2:Int) < (n:Int))=false:=decide_eq_false (by omega)
    have HQ:=hI (HR.out.trans (cls_good HSE.out HM.out HNA.out HSO.out fun j hj=>HNO.out j (by have:=HN.out;omega)))
    go_wp2_with fail
    go_ret2
    exact givesE_cls (i:=0) HQ.out HXR2.out
  have HX3:=hI (HXR.out.trans hx3)
  have HQ:=hI (HR.out.trans (cls_cycle HSE.out HM.out HNA.out hso))
  clear hx3 hso
  go_wp2_with fail
  go_ret2
  exact givesE_cls (i:=0) HQ.out HX3.out
open Go.RowKit Go.Maps
def St0 (bf bu bm bp:Nat):St where
 ρ:=fun k=>if k=bf then .first else if k=bp then .pile else if k=bm then .miss else if k=bu then .users else .none
 mb:=fun _=>0
 uv:=fun _=>none
 U:=fun _=>[]
 D:=fun _=>False
 S:=fun _=>False
 M:=fun _ _=>False
 pv:=.slice none 0 0
 R:=[]
 vo:=.slice none 0 0
 O:=[]
theorem OB.start {w wr:World} {l:List Dfn} {bf t:Nat} (h:MapAt wr 9 bf t (strF (firstF l))) (hx:Ext w wr) (hb:w.heap.size<=bf) :
  OB w l bf (wr.heap.size+2) (wr.heap.size+1) wr.heap.size t (St0 bf (wr.heap.size+2) (wr.heap.size+1) wr.heap.size) (((wr.alloc (.cells #[.slice none 0 0] 133)).alloc (.map #[] 0)).alloc (.map #[] 0)):=by
 have hlt:=h.lt
 have hsz:=hx.size
 have x1:Ext wr (wr.alloc (.cells #[.slice none 0 0] 133)):=(Ext.refl _).alloc _
 have x2:=x1.alloc (.map #[] 0)
 have x3:=x2.alloc (.map #[] 0)
 have z1:(wr.alloc (.cells #[.slice none 0 0] 133)).heap.size=wr.heap.size+1:=by simp
 have z2:((wr.alloc (.cells #[.slice none 0 0] 133)).alloc (.map #[] 0)).heap.size=wr.heap.size+2:=by simp
 refine { ext:=hx.trans x3,fresh:=?_,old:=?_,rf:=?_,hf:=h.ext x3,ru:=?_,hu:=?_,rows:=?_,rown:=fun _ _=>rfl,rm:=?_,hm:=?_,dom:=fun _ h=>h,sets:=fun _ h=>h.elim,rp:=?_,hp:=?_,rpv:=?_,hv:=World.ownsRow_nil _ _ _ _,rv:=?_ }
 ·intro k hk
  simp at hk
  simp only[St0]
  rw[if_neg (by omega),if_neg (by omega),if_neg (by omega),if_neg (by omega)]
 ·intro k hk
  simp only[St0]
  rw[if_neg (by omega),if_neg (by omega),if_neg (by omega),if_neg (by omega)]
 ·simp[St0]
 ·simp only[St0]
  rw[if_neg (by omega),if_neg (by omega),if_neg (by omega),if_pos trivial]
 ·have:=MapAt.made ((wr.alloc (.cells #[.slice none 0 0] 133)).alloc (.map #[] 0)) 9
  rw[z2] at this
  exact(this.more (Nat.zero_le t)).congr fun x=>by cases x<;>rfl
 ·intro x v hv;cases hv
 ·simp only[St0]
  rw[if_neg (by omega),if_neg (by omega),if_pos trivial]
 ·have:=MapAt.made (wr.alloc (.cells #[.slice none 0 0] 133)) 3
  rw[z1] at this
  refine((this.more (Nat.zero_le t)).ext ((Ext.refl _).alloc _)).congr fun x=>?_
  cases x<;>try rfl
  rename_i q z
  cases q<;>try rfl
  simp[intF,missF,St0]
 ·simp only[St0]
  rw[if_neg (by omega),if_pos trivial]
 ·have:=PileV.fresh wr
  refine⟨by omega,?_,World.ownsRow_nil _ _ _ _,by simp[St0,Value.ownBlock]⟩
  exact blk_alloc (blk_alloc (alloc_new wr _))
 ·intro g hg;simp[St0,Value.ownBlock] at hg
 intro g hg;simp[St0,Value.ownBlock] at hg
theorem IsStrs.chg {w w':World} {l:ZB} {a:OA} {n c:Nat} {N:ZN} (h:IsStrs w l a n c) (hc:Chg N w w') (hN:∀ b off,a=some ⟨b,off,none⟩->b∉N):IsStrs w' l a n c :=
 ⟨h.1,h.2.1,h.2.2.1,fun i hi=>by
  obtain⟨b,off,h1,h2⟩:=h.2.2.2 i hi
  refine⟨b,off,h1,?_⟩
  have hb:=block_lt h2
  unfold World.cell? at h2 ⊢
  rw[hc.block b hb (hN b off h1)]
  exact h2⟩
theorem rerole_none {ρ:Nat->Role} {v v':Value} {r:Role} {n k:Nat} (hk:ρ k=.none) (hkn:k < n) (hr:r≠.none) (hv:∀ g,v.ownBlock=some g->ρ g=r) (hw:∀ g,v'.ownBlock=some g->v.ownBlock=some g\/n<=g):rerole ρ v' r k=.none:=by
 rw[rerole_other,hk]
 intro g hg e
 subst e
 rcases hw k hg with h|h
 ·exact hr ((hv k h).symm.trans hk)
 omega
open Classical in
noncomputable def UL (l:List Dfn) (k:Nat) (x:BA):ZN:=if (firstAt l x).isSome then (List.range k).filter fun i=>isDef l i&&(usesAt l i).any fun y=>decide (y=x) else []
def RL (l:List Dfn) (k:Nat):ZN:=(List.range k).filter fun i=>isDef l i&&(missL l [] i).isEmpty
def cntTo (l:List Dfn) (k:Nat):Nat:=((List.range k).filter (isDef l)).length
def natI (l:ZN):ZI:=l.map fun (i:Nat)=>(i:Int)
structure Ph2 (l:List Dfn) (k:Nat) (s:St):Prop where
 D:∀ i,s.D i ↔ (i < k/\isDef l i=true)
 S:∀ i,s.S i ↔ (i < k/\isDef l i=true)
 M:∀ i,s.S i->∀ x,s.M i x ↔ x∈missL l [] i
 U:∀ x,s.U x=UL l k x
 R:s.R.Perm (natI (RL l k))
 vo:s.vo=.slice none 0 0
 O:s.O=[]
theorem Ph2.start (l:List Dfn) (bf bu bm bp:Nat):Ph2 l 0 (St0 bf bu bm bp) where
 D i:=by simp[St0]
 S i:=by simp[St0]
 M i h:=h.elim
 U x:=by simp[St0,UL]
 R:=by simp[St0,RL,natI]
 vo:=rfl
 O:=rfl
structure Ph3 (l:List Dfn) (k j:Nat) (s:St):Prop where
 D:∀ i,s.D i ↔ (i < k/\isDef l i=true)
 S:∀ i,s.S i ↔ ((i < k/\isDef l i=true)\/i=k)
 M:∀ i,i < k->s.S i->∀ x,s.M i x ↔ x∈missL l [] i
 Mk:∀ x,s.M k x ↔ (x∈(usesAt l k).take j/\(firstAt l x).isSome=true)
 U:∀ x,s.U x=if (firstAt l x).isSome=true/\x∈(usesAt l k).take j then UL l k x++[k] else UL l k x
 R:s.R.Perm (natI (RL l k))
 vo:s.vo=.slice none 0 0
 O:s.O=[]
theorem Ph2.skip {l:List Dfn} {k:Nat} {s:St} (h:Ph2 l k s) (hd:isDef l k=false):Ph2 l (k+1) s/\cntTo l (k+1)=cntTo l k:=by
 have hi:∀ i,(i < k+1/\isDef l i=true) ↔ (i < k/\isDef l i=true):=fun i=>by
  constructor
  ·rintro⟨h1,h2⟩
   refine⟨?_,h2⟩
   rcases Nat.lt_or_ge i k with h'|h'
   ·exact h'
   obtain rfl:i=k:=by omega
   rw[hd] at h2;cases h2
  rintro⟨h1,h2⟩;exact⟨by omega,h2⟩
 refine⟨{ D:=fun i=>(h.D i).trans (hi i).symm,S:=fun i=>(h.S i).trans (hi i).symm,M:=h.M,U:=fun x=>?_,R:=?_,vo:=h.vo,O:=h.O },?_⟩
 ·rw[h.U]
  unfold UL
  rw[List.range_succ,List.filter_append]
  simp[hd]
 ·refine h.R.trans (List.Perm.of_eq ?_)
  unfold RL
  rw[List.range_succ,List.filter_append]
  simp[hd]
 unfold cntTo
 rw[List.range_succ,List.filter_append]
 simp[hd]
theorem Ph2.enter {l:List Dfn} {k:Nat} {s:St} (h:Ph2 l k s) (b:Nat):Ph3 l k 0 (s.newSet k b) where
 D i:=h.D i
 S i:=by
  show (i=k\/s.S i) ↔ _
  rw[h.S];exact Or.comm
 M i hi hS x:=by
  show upN s.M k (fun _=>False) i x ↔ _
  rw[upN_other _ _ (by omega)]
  refine h.M i ?_ x
  rcases hS with e|e
  ·omega
  exact e
 Mk x:=by
  show upN s.M k (fun _=>False) k x ↔ _
  rw[upN_same];simp
 U x:=by
  show s.U x=_
  rw[h.U];simp
 R:=h.R
 vo:=h.vo
 O:=h.O
theorem take_succ_mem {α:Type} {l:List α} {j:Nat} (hj:j < l.length) (x:α):x∈l.take (j+1) ↔ x∈l.take j\/x=l[j]:=by
 rw[List.take_succ_eq_append_getElem hj,List.mem_append,List.mem_singleton]
theorem Ph3.skip {l:List Dfn} {k j:Nat} {s:St} (h:Ph3 l k j s) (hj:j < (usesAt l k).length) (hf:firstAt l (usesAt l k)[j]=none):Ph3 l k (j+1) s:=by
 have hx:∀ x,((firstAt l x).isSome=true/\x∈(usesAt l k).take (j+1)) ↔ ((firstAt l x).isSome=true/\x∈(usesAt l k).take j):=fun x=>by
  rw[take_succ_mem hj]
  constructor
  ·rintro⟨h1,h2|rfl⟩
   ·exact⟨h1,h2⟩
   rw[hf] at h1;cases h1
  rintro⟨h1,h2⟩;exact⟨h1,Or.inl h2⟩
 exact { h with
  Mk:=fun x=>by rw[h.Mk,and_comm,<-hx x,and_comm]
  U:=fun x=>by
   rw[h.U]
   by_cases hc:(firstAt l x).isSome=true/\x∈(usesAt l k).take j
   ·rw[if_pos hc,if_pos ((hx x).2 hc)]
   rw[if_neg hc,if_neg fun h'=>hc ((hx x).1 h')] }
theorem Ph3.step {l:List Dfn} {k j:Nat} {s:St} (h:Ph3 l k j s) (hj:j < (usesAt l k).length) (hf:(firstAt l (usesAt l k)[j]).isSome=true) (hnd:(usesAt l k).Nodup) (v:Value) :
  Ph3 l k (j+1) ((s.setM k fun x=>x=(usesAt l k)[j]\/s.M k x).setU (usesAt l k)[j] v (s.U (usesAt l k)[j]++[k])):=by
 have hnot:(usesAt l k)[j]∉(usesAt l k).take j:=by
  intro hm
  obtain⟨q,hq,e⟩:=List.mem_iff_getElem.1 hm
  have hq':q < j:=by simp at hq;omega
  rw[List.getElem_take] at e
  have:=(List.pairwise_iff_getElem.1 hnd) q j (by omega) hj hq'
  exact this e
 refine { D:=h.D,S:=h.S,M:=fun i hi hS x=>?_,Mk:=fun x=>?_,U:=fun x=>?_,R:=h.R,vo:=h.vo,O:=h.O }
 ·show upN s.M k _ i x ↔ _
  rw[upN_other _ _ (by omega)]
  exact h.M i hi hS x
 ·show upN s.M k _ k x ↔ _
  rw[upN_same,take_succ_mem hj,h.Mk]
  constructor
  ·rintro(rfl|⟨h1,h2⟩)
   ·exact⟨Or.inr rfl,hf⟩
   exact⟨Or.inl h1,h2⟩
  rintro⟨h1|rfl,h2⟩
  ·exact Or.inr ⟨h1,h2⟩
  exact Or.inl rfl
 show upS s.U (usesAt l k)[j] (s.U (usesAt l k)[j]++[k]) x=_
 by_cases e:x=(usesAt l k)[j]
 ·rw[e,upS_same,if_pos ⟨hf,(take_succ_mem hj _).2 (Or.inr rfl)⟩,h.U,if_neg fun h'=>hnot h'.2]
 rw[upS_other _ _ e,h.U]
 have hx:((firstAt l x).isSome=true/\x∈(usesAt l k).take (j+1)) ↔ ((firstAt l x).isSome=true/\x∈(usesAt l k).take j):=by
  rw[take_succ_mem hj]
  exact⟨fun ⟨h1,h2⟩=>⟨h1,h2.resolve_right e⟩,fun ⟨h1,h2⟩=>⟨h1,Or.inl h2⟩⟩
 by_cases hc:(firstAt l x).isSome=true/\x∈(usesAt l k).take j
 ·rw[if_pos hc,if_pos (hx.2 hc)]
 rw[if_neg hc,if_neg fun h'=>hc (hx.1 h')]
theorem isSome_iff {l:List Dfn} {x:BA}:(firstAt l x).isSome=true ↔ ∃ d,firstAt l x=some d:=by
 cases firstAt l x<;>simp
theorem UL_succ {l:List Dfn} {k:Nat} (hd:isDef l k=true) (x:BA):UL l (k+1) x=if (firstAt l x).isSome=true/\x∈usesAt l k then UL l k x++[k] else UL l k x:=by
 unfold UL
 by_cases hs:(firstAt l x).isSome=true
 ·simp only[hs,if_true,true_and]
  rw[List.range_succ,List.filter_append]
  by_cases hm:x∈usesAt l k
  ·rw[if_pos hm]
   congr 1
   have:((usesAt l k).any fun y=>decide (y=x))=true:=List.any_eq_true.2 ⟨x,hm,by simp⟩
   simp[hd,this]
  rw[if_neg hm]
  have:((usesAt l k).any fun y=>decide (y=x))=false:=by
   rw[List.any_eq_false]
   intro y hy
   simp only[decide_eq_true_eq]
   intro e
   exact hm (e ▸ hy)
  simp[hd,this]
 simp[hs]
theorem Ph3.leave {l:List Dfn} {k:Nat} {s:St} (h:Ph3 l k (usesAt l k).length s) (hd:isDef l k=true) (he:missL l [] k≠[]):Ph2 l (k+1) (s.setD k)/\cntTo l (k+1)=cntTo l k+1:=by
 have hi:∀ i,(i < k+1/\isDef l i=true) ↔ (i=k\/(i < k/\isDef l i=true)):=fun i=>⟨fun ⟨h1,h2⟩=>by
  rcases Nat.lt_or_ge i k with h'|h'
  ·exact Or.inr ⟨h',h2⟩
  ·exact Or.inl (by omega),fun h'=>by
  rcases h' with rfl|⟨h1,h2⟩
  ·exact⟨by omega,hd⟩
  exact⟨by omega,h2⟩⟩
 refine⟨{ D:=fun i=>?_,S:=fun i=>?_,M:=fun i hS x=>?_,U:=fun x=>?_,R:=?_,vo:=h.vo,O:=h.O },?_⟩
 ·show (i=k\/s.D i) ↔ _
  rw[h.D,hi]
 ·show s.S i ↔ _
  rw[h.S,hi,Or.comm]
 ·show s.M i x ↔ _
  by_cases e:i=k
  ·subst e
   rw[h.Mk,List.take_length,mem_miss]
   constructor
   ·rintro⟨h1,h2⟩
    obtain⟨d,hd⟩:=isSome_iff.1 h2
    exact⟨h1,d,hd,by simp⟩
   rintro⟨h1,d,h2,_⟩
   exact⟨h1,isSome_iff.2 ⟨d,h2⟩⟩
  refine h.M i ?_ hS x
  have:=(h.S i).1 hS
  omega
 ·show s.U x=_
  rw[h.U,List.take_length,UL_succ hd]
 ·refine h.R.trans (List.Perm.of_eq ?_)
  unfold RL
  rw[List.range_succ,List.filter_append]
  simp[hd,he]
 unfold cntTo
 rw[List.range_succ,List.filter_append]
 simp[hd]
theorem Ph3.leave0 {l:List Dfn} {k:Nat} {s:St} (h:Ph3 l k (usesAt l k).length s) (hd:isDef l k=true) (he:missL l [] k=[]) {pv:Value} {R:ZI} (hR:R.Perm (s.R++[(k:Int)])):Ph2 l (k+1) ((s.setD k).setP pv R)/\cntTo l (k+1)=cntTo l k+1:=by
 have hi:∀ i,(i < k+1/\isDef l i=true) ↔ (i=k\/(i < k/\isDef l i=true)):=fun i=>⟨fun ⟨h1,h2⟩=>by
  rcases Nat.lt_or_ge i k with h'|h'
  ·exact Or.inr ⟨h',h2⟩
  ·exact Or.inl (by omega),fun h'=>by
  rcases h' with rfl|⟨h1,h2⟩
  ·exact⟨by omega,hd⟩
  exact⟨by omega,h2⟩⟩
 refine⟨{ D:=fun i=>?_,S:=fun i=>?_,M:=fun i hS x=>?_,U:=fun x=>?_,R:=?_,vo:=h.vo,O:=h.O },?_⟩
 ·show (i=k\/s.D i) ↔ _
  rw[h.D,hi]
 ·show s.S i ↔ _
  rw[h.S,hi,Or.comm]
 ·show s.M i x ↔ _
  by_cases e:i=k
  ·subst e
   rw[h.Mk,List.take_length,mem_miss]
   constructor
   ·rintro⟨h1,h2⟩
    obtain⟨d,hd⟩:=isSome_iff.1 h2
    exact⟨h1,d,hd,by simp⟩
   rintro⟨h1,d,h2,_⟩
   exact⟨h1,isSome_iff.2 ⟨d,h2⟩⟩
  refine h.M i ?_ hS x
  have:=(h.S i).1 hS
  omega
 ·show s.U x=_
  rw[h.U,List.take_length,UL_succ hd]
 ·refine hR.trans ?_
  have e:natI (RL l (k+1))=natI (RL l k)++[(k:Int)]:=by
   unfold RL natI
   rw[List.range_succ,List.filter_append,List.map_append]
   simp[hd,he]
  rw[e]
  exact List.Perm.append_right _ h.R
 unfold cntTo
 rw[List.range_succ,List.filter_append]
 simp[hd]
theorem refNames_len2 (l:ZB):(refNames l).length<=l.length:=by have:=fold_len l [];simpa [refNames] using this
mutual
theorem names_fit:(e:Ex)->e.fits->∀ x∈namesE e,x.size<=1000000000000000
 | .mk op name words lo hi args,h,x,hx=>by
  obtain⟨h1,h2⟩:=fits_parts2 h
  rw[namesE,List.mem_append] at hx
  rcases hx with hx|hx
  ·split at hx
   ·simp at hx;subst hx;exact h1
   simp at hx
  exact namesL_fit args h2 x hx
theorem namesL_fit:(l:List Ex)->(∀ y∈l,y.fits)->∀ x∈namesL l,x.size<=1000000000000000
 | [],_,x,hx=>by rw[namesL] at hx;simp at hx
 | e::r,h,x,hx=>by
  rw[namesL,List.mem_append] at hx
  rcases hx with hx|hx
  ·exact names_fit e (h e (by simp)) x hx
  exact namesL_fit r (fun y hy=>h y (by simp[hy])) x hx
end
def tb (k:Nat):Nat:=1000+k * 1000000
theorem tb_succ (k:Nat):tb k+1000000<=tb (k+1):=by unfold tb;omega
theorem tb_le {k:Nat} (h:k<=1000):tb k<=2000000000:=by unfold tb;omega
theorem tb_zero:1000<=tb 0:=by unfold tb;omega
theorem cnt_le (l:List Dfn) (k:Nat):cntTo l k<=k:=by
 unfold cntTo
 have:=List.length_filter_le (isDef l) (List.range k)
 simpa using this
theorem UL_le (l:List Dfn) (k:Nat) (x:BA):(UL l k x).length<=k:=by
 unfold UL
 split
 ·have:=List.length_filter_le (fun i=>isDef l i&&(usesAt l i).any fun y=>decide (y=x)) (List.range k)
  simpa using this
 simp
theorem RL_le (l:List Dfn) (k:Nat):(RL l k).length<=k:=by
 unfold RL
 have:=List.length_filter_le (fun i=>isDef l i&&(missL l [] i).isEmpty) (List.range k)
 simpa using this
structure Ph4 (l:List Dfn) (s:St):Prop where
 D:∀ i,s.D i ↔ isDef l i=true
 S:∀ i,s.S i ↔ isDef l i=true
 M:∀ i,isDef l i=true->∀ x,s.M i x ↔ x∈missL l s.O i
 U:∀ x,s.U x=UL l l.length x
 inv:∃ R,s.R.Perm (natI R)/\OInv l s.O R
theorem Ph2.finish {l:List Dfn} {s:St} (h:Ph2 l l.length s):Ph4 l s where
 D i:=(h.D i).trans ⟨fun h=>h.2,fun h=>⟨isDef_lt h,h⟩⟩
 S i:=(h.S i).trans ⟨fun h=>h.2,fun h=>⟨isDef_lt h,h⟩⟩
 M i hi x:=by rw[h.O];exact h.M i ((h.S i).2 ⟨isDef_lt hi,hi⟩) x
 U:=h.U
 inv:=⟨RL l l.length,h.R,by rw[h.O];exact OInv.start l⟩
theorem natI_perm {R:ZN} {z:Int} {ys:ZI} (h:(natI R).Perm (z::ys)):∃ (i:Nat) (R':ZN),z=i/\R.Perm (i::R')/\ys.Perm (natI R'):=by
 have hz:z∈natI R:=h.mem_iff.2 (by simp)
 obtain⟨i,hi,rfl⟩:=List.mem_map.1 hz
 refine⟨i,R.erase i,rfl,List.perm_cons_erase hi,?_⟩
 have h1:(natI R).Perm (natI (i::R.erase i)):=(List.perm_cons_erase hi).map _
 have h2:(natI (i::R.erase i))=(i:Int)::natI (R.erase i):=rfl
 rw[h2] at h1
 exact List.Perm.cons_inv (h.symm.trans h1)
theorem mem_miss_snoc {l:List Dfn} {o:ZN} {i u:Nat} (hf:firstAt l (nameAt l i)=some i) (x:BA):x∈missL l (o++[i]) u ↔ (x∈missL l o u/\x≠nameAt l i):=by
 rw[mem_miss,mem_miss]
 constructor
 ·rintro⟨h1,d,h2,h3⟩
  simp only[List.mem_append,List.mem_singleton,not_or] at h3
  refine⟨⟨h1,d,h2,h3.1⟩,fun e=>?_⟩
  rw[e,hf] at h2
  cases h2
  exact h3.2 rfl
 rintro⟨⟨h1,d,h2,h3⟩,h4⟩
 refine⟨h1,d,h2,?_⟩
 simp only[List.mem_append,List.mem_singleton,not_or]
 exact⟨h3,fun e=>h4 (by rw[<-e];exact(first_def h2).2.symm)⟩
structure Ph5 (l:List Dfn) (o:ZN) (i:Nat) (R':ZN) (uv:BA->Option Value) (vo:Value) (j:Nat) (s:St):Prop where
 D:∀ i,s.D i ↔ isDef l i=true
 S:∀ i,s.S i ↔ isDef l i=true
 M:∀ u,isDef l u=true->∀ x,s.M u x ↔ x∈missL l (if u∈(UL l l.length (nameAt l i)).take j then o++[i] else o) u
 U:∀ x,s.U x=UL l l.length x
 uv:s.uv=uv
 O:s.O=o++[i]
 vo:s.vo=vo
 R:s.R.Perm (natI (R'++((UL l l.length (nameAt l i)).take j).filter fun u=>(missL l (o++[i]) u).isEmpty))
theorem UL_nodup (l:List Dfn) (k:Nat) (x:BA):(UL l k x).Nodup:=by
 unfold UL
 split
 ·exact List.nodup_range.filter _
 exact List.nodup_nil
theorem UL_users {l:List Dfn} {x:BA} {d:Nat} (h:firstAt l x=some d):UL l l.length x=usersOf l x:=by
 unfold UL usersOf
 rw[h];rfl
theorem UL_def {l:List Dfn} {k:Nat} {x:BA} {u:Nat} (h:u∈UL l k x):isDef l u=true/\x∈usesAt l u:=by
 unfold UL at h
 split at h
 ·simp only[List.mem_filter,Bool.and_eq_true,List.any_eq_true,decide_eq_true_eq,exists_eq_right] at h
  exact h.2
 simp at h
theorem Ph5.start {l:List Dfn} {s:St} {R':ZN} {i:Nat} {R1:ZI} {pv vo:Value} (h:Ph4 l s) (hR:R1.Perm (natI R')):Ph5 l s.O i R' s.uv vo 0 ((s.setP pv R1).setO vo (s.O++[i])) where
 D:=h.D
 S:=h.S
 M u hu x:=by
  show s.M u x ↔ _
  simpa using h.M u hu x
 U:=h.U
 uv:=rfl
 O:=rfl
 vo:=rfl
 R:=by
  show R1.Perm _
  simpa using hR
theorem not_take {α:Type} {l:List α} (h:l.Nodup) {j:Nat} (hj:j < l.length):l[j]∉l.take j:=by
 intro hm
 obtain⟨q,hq,e⟩:=List.mem_iff_getElem.1 hm
 have hq':q < j:=by simp at hq;omega
 rw[List.getElem_take] at e
 exact(List.pairwise_iff_getElem.1 h) q j (by omega) hj hq' e
theorem Ph5.del {l:List Dfn} {o:ZN} {i:Nat} {R':ZN} {uv:BA->Option Value} {vo:Value} {j:Nat} {s:St} (h:Ph5 l o i R' uv vo j s) (hf:firstAt l (nameAt l i)=some i) (hj:j < (UL l l.length (nameAt l i)).length)
  {u:Nat} (hu:u=(UL l l.length (nameAt l i))[j]):(∀ y,(s.M u y/\y≠nameAt l i) ↔ y∈missL l (o++[i]) u)/\((missL l (o++[i]) u).isEmpty=false->Ph5 l o i R' uv vo (j+1) (s.setM u fun y=>s.M u y/\y≠nameAt l i)) /\
  ((missL l (o++[i]) u).isEmpty=true->∀ pv R1,R1.Perm (s.R++[(u:Int)])->Ph5 l o i R' uv vo (j+1) ((s.setM u fun y=>s.M u y/\y≠nameAt l i).setP pv R1)):=by
 have hud:=UL_def (show u∈UL l l.length (nameAt l i) by rw[hu];exact List.getElem_mem hj)
 have hnt:u∉(UL l l.length (nameAt l i)).take j:=by rw[hu];exact not_take (UL_nodup l _ _) hj
 have key:∀ y,(s.M u y/\y≠nameAt l i) ↔ y∈missL l (o++[i]) u:=fun y=>by
  rw[h.M u hud.1,if_neg hnt,mem_miss_snoc hf]
 have hM:∀ v,isDef l v=true->∀ x,(upN s.M u fun y=>s.M u y/\y≠nameAt l i) v x ↔ x∈missL l (if v∈(UL l l.length (nameAt l i)).take (j+1) then o++[i] else o) v:=by
  intro v hv x
  by_cases e:v=u
  ·subst e
   rw[upN_same,if_pos ((take_succ_mem hj _).2 (Or.inr hu))]
   exact key x
  rw[upN_other _ _ e,h.M v hv]
  have:v∈(UL l l.length (nameAt l i)).take (j+1) ↔ v∈(UL l l.length (nameAt l i)).take j:=by
   rw[take_succ_mem hj]
   exact⟨fun h=>h.resolve_right (by rw[<-hu];exact e),Or.inl⟩
  by_cases hc:v∈(UL l l.length (nameAt l i)).take j
  ·rw[if_pos hc,if_pos (this.2 hc)]
  rw[if_neg hc,if_neg fun h'=>hc (this.1 h')]
 refine⟨key,fun hne=>?_,fun hem pv R1 hR1=>?_⟩
 ·refine { h with M:=hM,R:=?_ }
  refine h.R.trans (List.Perm.of_eq ?_)
  rw[List.take_succ_eq_append_getElem hj,List.filter_append,<-hu]
  simp[hne]
 refine { h with M:=hM,R:=?_ }
 refine hR1.trans ?_
 rw[List.take_succ_eq_append_getElem hj,List.filter_append,<-hu]
 have e:natI (R'++(((UL l l.length (nameAt l i)).take j).filter (fun u=>(missL l (o++[i]) u).isEmpty)++[u].filter fun u=>(missL l (o++[i]) u).isEmpty))=natI (R'++((UL l l.length (nameAt l i)).take j).filter fun u=>(missL l (o++[i]) u).isEmpty)++[(u:Int)]:=by
  simp[natI,hem]
 rw[e]
 exact List.Perm.append_right _ h.R
theorem Ph5.finish {l:List Dfn} {o:ZN} {i:Nat} {R R':ZN} {uv:BA->Option Value} {vo:Value} {s:St} (h:Ph5 l o i R' uv vo (UL l l.length (nameAt l i)).length s) (hf:firstAt l (nameAt l i)=some i) (hi:OInv l o R) (hR:R.Perm (i::R')):Ph4 l s where
 D:=h.D
 S:=h.S
 M u hu x:=by
  rw[h.M u hu,h.O,List.take_length]
  by_cases hc:u∈UL l l.length (nameAt l i)
  ·rw[if_pos hc]
  rw[if_neg hc,mem_miss_snoc hf]
  refine⟨fun hx=>⟨hx,fun e=>hc ?_⟩,fun hx=>hx.1⟩
  have h1:=(mem_miss.1 hx).1
  rw[e] at h1
  rw[UL_users hf]
  unfold usersOf
  simp only[List.mem_filter,List.mem_range,Bool.and_eq_true,List.any_eq_true,decide_eq_true_eq,exists_eq_right]
  exact⟨isDef_lt hu,hu,h1⟩
 U:=h.U
 inv:=by
  refine⟨R'++freed l o i,?_,by rw[h.O];exact hi.first hR hf⟩
  have:=h.R
  rw[List.take_length,UL_users hf] at this
  exact this
theorem Ph4.other {l:List Dfn} {s:St} {R R':ZN} {i:Nat} {R1:ZI} {pv vo:Value} (h:Ph4 l s) (hi:OInv l s.O R) (hR:R.Perm (i::R')) (hR1:R1.Perm (natI R')) (hn:∀ x,firstAt l x≠some i):Ph4 l ((s.setP pv R1).setO vo (s.O++[i])) where
 D:=h.D
 S:=h.S
 M u hu x:=by
  show s.M u x ↔ x∈missL l (s.O++[i]) u
  rw[h.M u hu,mem_miss,mem_miss]
  constructor
  ·rintro⟨h1,d,h2,h3⟩
   refine⟨h1,d,h2,?_⟩
   simp only[List.mem_append,List.mem_singleton,not_or]
   exact⟨h3,fun e=>hn x (by rw[h2,e])⟩
  rintro⟨h1,d,h2,h3⟩
  simp only[List.mem_append,List.mem_singleton,not_or] at h3
  exact⟨h1,d,h2,h3.1⟩
 U:=h.U
 inv:=⟨R',hR1,hi.other hR hn⟩
theorem cnt_all (l:List Dfn):cntTo l l.length=countOf l:=rfl
theorem first_of_def {l:List Dfn} {i:Nat} (h:isDef l i=true):∃ d,firstAt l (nameAt l i)=some d/\d<=i:=by
 have hlt:=isDef_lt h
 cases hf:firstAt l (nameAt l i) with
 | none =>
  unfold firstAt at hf
  rw[List.findIdx?_eq_none_iff] at hf
  have:=hf l[i] (List.getElem_mem hlt)
  unfold isDef at h
  unfold nameAt at this
  rw[List.getElem?_eq_getElem hlt] at h this
  simp[h] at this
 | some d =>
  refine⟨d,rfl,?_⟩
  unfold firstAt at hf
  rw[List.findIdx?_eq_some_iff_getElem] at hf
  obtain⟨_,_,h3⟩:=hf
  rcases Nat.lt_or_ge i d with h'|h'
  ·have:=h3 i h'
   unfold isDef at h
   unfold nameAt at this
   rw[List.getElem?_eq_getElem hlt] at h this
   simp[h] at this
  exact h'
end Go.Proofs.YtpkljcgihobaiaaGreatDoor
