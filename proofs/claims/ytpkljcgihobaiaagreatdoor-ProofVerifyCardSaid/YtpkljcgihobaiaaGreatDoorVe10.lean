/-
  Texts of the claim, joined: Truth, IsPr, Conv, Upto, RBack, RBack2, RClause, MadeP.
-/
import Derived.Test.YtpkljcgihobaiaaGreatDoorVe09
import Derived.Laws.BytesString
namespace Go.Proofs.YtpkljcgihobaiaaGreatDoor
set_option maxRecDepth 100000
set_option maxHeartbeats 32000000
open Go.RowKit
def valsOf (s:List Attr) (l:List Cla) (f:ZI) (g:Nat):BA->Option Bool:=fun x=>(defAt l x).map fun d=>valF s l f g (l.getD d cla0).cond
theorem valF_eq (s:List Attr) (l:List Cla) (f:ZI) (g:Nat) (e:Ex):valF s l f (g+1) e=valE s f (valsOf s l f g) e:=rfl
def TruthN (s:List Attr) (f:ZI) (V:BA->Option Bool) (args:List Ex) (na:Nat) (bs:Nat) (o0 o1:Obj) (w:World) (t i:Value) (wr:World):Prop:=∃ k q:Nat,i=.int .i64 k/\t=.int .i64 q/\k<=na/\q<=k/\(q=k ↔ ∀ j (h:j < args.length),j < k->valE s f V args[j]=true)/\wr.heap[bs]?=some o0/\wr.heap[bs+1]?=some o1/\Ext w wr
def TruthA (s:List Attr) (f:ZI) (V:BA->Option Bool) (args:List Ex) (na:Nat) (bs:Nat) (o0 o1:Obj) (w:World) (i:Value) (wr:World):Prop:=∃ k:Nat,i=.int .i64 k/\k<=na/\(∀ j (h:j < args.length),j < k->valE s f V args[j]=false)/\wr.heap[bs]?=some o0/\wr.heap[bs+1]?=some o1/\Ext w wr
theorem rTruth_calls (s:List Attr) (l:List Cla) (f:ZI) (hc:Chk s l) (hfa:factsAll s f=true) (hsf:∀ x∈s,x.fits) (a:OA) (n c:Nat) (fa:OA) (fn fc:Nat):∀ (g m:Nat) (e:Ex) (ev sv:Value) (w:World),e.size<=m->m<=1000000->okTree e->nodesErr s l e=0->expF l g e<=2000->IsSchema w s sv->IsClas w l a n c->IsEx w e ev->IsIntF w f fa fn ->
  Calls Tryz.prog 19 #[sv,.slice a n c,ev,.slice fa fn fc] w (GivesE (.bool (valF s l f g e)) w):=by
 intro g
 induction g with
 | zero=>intro m e ev sv w _ _ _ _ h;simp[expF] at h
 | succ g ihg =>
  intro m
  induction m with
  | zero=>intro e ev sv w h;have:=size_pos e;omega
  | succ m ihm =>
   intro e ev sv w hm hMM hok hnd hex hs hl he hi
   have hways:=node_ways hok hnd
   obtain⟨-,hnda⟩:=nodes_parts hnd
   obtain⟨hokn,hoka⟩:=okTree_parts hok
   have hexa:=expE_arg (D:=dOf l g) (e:=e) (by rw[<-expF_succ];exact hex)
   have hexh:=expE_hd (D:=dOf l g) (e:=e) (by rw[<-expF_succ];exact hex)
   obtain⟨sa,sn,sc,rfl,hsn⟩:=hs.slice
   obtain⟨aw,nw,cw,aa,na,ca,rfl,hw,hna,hca,ha,hx⟩:=he.parts
   have hS:e.size=1+sizes e.args:=e.size_eq
   have hla:=length_le_sizes e.args
   obtain⟨op,name,words,lo,hi',args⟩:=e
   simp only[Ex.op,Ex.name,Ex.words,Ex.lo,Ex.hi,Ex.args] at *
   have hna2:na<=1000000:=by omega
   have hszm:sizes args<=m:=by omega
   obtain⟨R,hR⟩:∃ R,R=valF s l f (g+1) (.mk op name words lo hi' args):=⟨_,rfl⟩
   rw[<-hR]
   rw[valF_eq,valE] at hR
   have HR:=hI hR
   have hsl6:=(schema_attrs hc.sch).2.1
   have hsn2:sn<=6:=by omega
   have hln:=hl.len
   have hn100:n<=100:=by rw[hln];exact hc.len
   have HSN:=hI hsn
   have HLN:=hI hln
   have HC:=hI hc
   have HFA:=hI hfa
   have HSF:=hI hsf
   have HS:=hI hs
   have HL:=hI hl
   have HX:=hI hx
   have HW:=hI hw
   have HI:=hI hi
   have HNA:=hI hna
   have HARG:=hI (fun (j:Nat) (hj:j < args.length) (xv:Value) (W:World) (hW:Ext w W) (hxv:IsEx W args[j] xv)=>ihm args[j] xv (.agg #[.slice sa sn sc]) W (by have h1:=sizes_take_succ args j hj;have h2:=sizes_take_le args (j+1);omega) (by omega) (hoka _ (List.getElem_mem hj)) (hnda j hj) (by rw[expF_succ];exact hexa j hj) (hs.ext hW) (hl.ext hW) hxv (hi.ext hW))
   have HDEF:=hI (fun (h3:op=3) (d:Nat) (hd:defAt l name=some d) (xv:Value) (W:World) (hW:Ext w W) (hxv:IsEx W (l.getD d cla0).cond xv)=>ihg 300 (l.getD d cla0).cond xv (.agg #[.slice sa sn sc]) W (hc.cond (defAt_atK hd).1).2.2 (by omega) (hc.cond (defAt_atK hd).1).1 (hc.cond (defAt_atK hd).1).2.1 (hexh h3 (by unfold dOf;rw[hd];rfl)) (hs.ext hW) (hl.ext hW) hxv (hi.ext hW))
   have HWD:=hI (show op=4->words.length<=12 from fun h4=>by
    rcases hokn with ⟨h1,-⟩|⟨h1,-⟩|⟨h1,-⟩|⟨h1,-,h2,-⟩|⟨h1,-⟩|⟨h1,-⟩|⟨h1,-⟩<;>simp only[Ex.op] at h1
    all_goals first|omega|skip
    simp only[Ex.words,wordsB,Bool.and_eq_true] at h2
    exact of_decide_eq_true h2.1.1.2)
   clear hc hfa hsf hs hl hx hw hi hna hca ha hS hla ihg ihm hm hnda hoka hexa hexh hokn hok hnd hex he hsn hln hsl6 hR
   unfold exV
   obtain⟨wa,hwa⟩:∃ wa,wa=(w.alloc (.cells #[.slice sa sn sc] 31)).alloc (.cells #[.int .i64 op,.string name,.slice aw nw cw,.int .i64 lo,.int .i64 hi',.slice aa na ca] 26):=⟨_,rfl⟩
   have hxa:Ext w wa:=by rw[hwa];exact((Ext.refl _).alloc _).alloc _
   have hb0:wa.heap[w.heap.size]?=some (.cells #[.slice sa sn sc] 31 (0,0)):=by rw[hwa];exact blk_alloc (alloc_new w _)
   have hb1:wa.heap[w.heap.size+1]?=some (.cells #[.int .i64 op,.string name,.slice aw nw cw,.int .i64 lo,.int .i64 hi',.slice aa na ca] 26 (0,0)):=by rw[hwa];exact alloc_atR (by simp)
   have HXA:=hI hxa
   have HB0:=hI hb0
   have HB1:=hI hb1
   obtain⟨f0,f1,f2,f3,f4,f5,ff⟩:=blk6 hb1
   obtain⟨e0,ef⟩:=blk1 hb0
   have hltw:=blk_lt hb1
   have HIX:=hI (rIndex_calls s _ name wa (HS.out.ext hxa) (by have:=HSN.out;omega))
   clear hxa hb0 hb1
   rcases hways with rfl|rfl|⟨rfl,i,hat,hkd⟩|⟨rfl,hat,d,hdf⟩|⟨rfl,i,hat,hkd⟩|⟨rfl,i,hat,hkd⟩|⟨rfl,hl1⟩|rfl|rfl
   -- true
   ·have HQ:=hI (show R=true by rw[HR.out];simp[factV])
    go_enter Tryz.func19,Tryz.ntmps19
    go_upto_region 1 with fail
    rw[<-hwa]
    clear hwa
    go_wp2_with fail
    refine HIX.out.mono ?_
    rintro r w1 ⟨rfl,hx1⟩
    have HX1:=hI (HXA.out.trans hx1)
    unfold optV
    clear f0 f1 f2 f3 f4 f5 ff e0 ef hltw
    obtain⟨f0,f1,f2,f3,f4,f5,ff⟩:=blk6 (hx1.blk HB1.out)
    clear hx1
    go_wp2_with fail
    go_ret
    exact givesE_bool (by rw[HQ.out]) HX1.out
   -- false
   ·have HQ:=hI (show R=false by rw[HR.out];simp[factV])
    go_enter Tryz.func19,Tryz.ntmps19
    go_upto_region 1 with fail
    rw[<-hwa]
    clear hwa
    go_wp2_with fail
    refine HIX.out.mono ?_
    rintro r w1 ⟨rfl,hx1⟩
    have HX1:=hI (HXA.out.trans hx1)
    unfold optV
    clear f0 f1 f2 f3 f4 f5 ff e0 ef hltw
    obtain⟨f0,f1,f2,f3,f4,f5,ff⟩:=blk6 (hx1.blk HB1.out)
    clear hx1
    go_wp2_with fail
    go_ret
    exact givesE_bool (by rw[HQ.out]) HX1.out
   -- an attribute
   ·obtain⟨his,-⟩:=attrAt_at hat
    obtain⟨hif,hlo2,hhi2⟩:=fact_at HFA.out his
    obtain⟨fb,fo,rfl,hcell⟩:=HI.out.2 i hif
    obtain⟨z,hz⟩:∃ z,z=f[i]:=⟨_,rfl⟩
    rw[<-hz] at hcell
    have hdn:defAt l name=none:=by
     cases hd:defAt l name with
     | none=>rfl
     | some d=>rw[HC.out.apart hd] at hat;cases hat
    have HQ:=hI (show R=(z==1) by
     rw[HR.out]
     simp only[factV,valsOf,hdn,hat]
     rw[Bool.eq_iff_iff];simp[hif,<-hz])
    have hin:i < fn:=by rw[HI.out.1];exact hif
    have HCF:=hI hcell
    rw[hat,optV_some] at HIX
    clear hat hkd his hif hlo2 hhi2 hcell hz hdn
    go_enter Tryz.func19,Tryz.ntmps19
    go_upto_region 1 with fail
    rw[<-hwa]
    clear hwa
    go_wp2_with fail
    refine HIX.out.mono ?_
    rintro r w1 ⟨rfl,hx1⟩
    have HX1:=hI (HXA.out.trans hx1)
    clear f0 f1 f2 f3 f4 f5 ff e0 ef hltw
    obtain⟨f0,f1,f2,f3,f4,f5,ff⟩:=blk6 (hx1.blk HB1.out)
    have hcf:=HX1.out.cell HCF.out
    clear hx1
    go_wp2_with fail
    go_ret
    exact givesE_bool (by rw[HQ.out]) HX1.out
   -- a definition
   ·have hdl:=(defAt_atK hdf).1
    have HQ:=hI (show R=valF s l f g (l.getD d cla0).cond by
     rw[HR.out]
     rw[if_neg (by decide),if_neg (by decide),if_neg (by decide),if_pos rfl,valsOf,hdf];rfl)
    have hdn:d < n:=by rw[HLN.out];exact hdl
    have HDC:=hI (fun W (hW:Ext w W)=>rDef_calls l a n c name W (HL.out.ext hW) (by omega))
    rw[hdf] at HDC
    obtain⟨cb,coff,v,rfl,hcla,hrow⟩:=HL.out.at hdl
    have HRW:=hI hrow
    have HCX:=hI (show IsEx w (l.getD d cla0).cond v.x.val by rw[getD_clK hdl];exact hcla.2.2.1)
    have HDF:=hI (HDEF.out rfl d hdf)
    obtain⟨V,hV⟩:∃ V,V=valF s l f g (l.getD d cla0).cond:=⟨_,rfl⟩
    rw[<-hV] at HQ HDF
    rw[hat,optV_none] at HIX
    clear hV hat hdf hdl hcla hrow HDEF HARG
    go_enter Tryz.func19,Tryz.ntmps19
    go_upto_region 1 with fail
    rw[<-hwa]
    clear hwa
    go_wp2_with fail
    refine HIX.out.mono ?_
    rintro r w1 ⟨rfl,hx1⟩
    have HX1:=hI (HXA.out.trans hx1)
    have HB11:=hI (hx1.blk HB1.out)
    have HB01:=hI (hx1.blk HB0.out)
    clear f0 f1 f2 f3 f4 f5 ff e0 ef hltw
    obtain⟨f0,f1,f2,f3,f4,f5,ff⟩:=blk6 HB11.out
    clear hx1
    go_wp2_with fail
    refine(HDC.out w1 HX1.out).mono ?_
    rintro r w2 ⟨rfl,rfl⟩
    rw[optV_some]
    obtain⟨e0,ef⟩:=blk1 HB01.out
    obtain⟨c0,c1,c2,c3,c4,c5,c6,c7,c8,c9⟩:=(HRW.out.mono HX1.out.sub).ten
    go_wp2_with fail
    go_still_tail 8,(by kernel_rfl)
    change wpList _ _ _ _ _ w1.drew
    have hx2:Ext w1 w1.drew:=(Ext.refl w1).drew
    generalize w1.drew=w2 at hx2 ⊢
    have HX2:=hI (HX1.out.trans hx2)
    clear hx2 c0 c1 c2 c3 c4 c5 c6 c7 c8 c9 f0 f1 f2 f3 f4 f5 ff e0 ef
    have HDG:=hI (HDF.out v.x.val w2 HX2.out (HCX.out.ext HX2.out))
    unfold ExV.val exV at HDG
    go_wp2_with fail
    refine HDG.out.mono ?_
    rintro r w3 ⟨rfl,hx3⟩
    have HX3:=hI (HX2.out.trans hx3)
    clear hx3
    go_wp2_with fail
    go_ret
    exact givesE_bool (by rw[HQ.out]) HX3.out
   -- a word
   ·obtain⟨his,-⟩:=attrAt_at hat
    obtain⟨hif,hlo2,hhi2⟩:=fact_at HFA.out his
    have hkd':s[i].kind=1:=by rw[<-hkd];simp[his]
    have hdm:domB s[i]=(0,(s[i].words.length:Int) - 1):=by unfold domB;rw[if_pos hkd']
    rw[hdm] at hlo2 hhi2
    simp only at hlo2 hhi2
    obtain⟨ab,ao,rfl,hA⟩:∃ ab ao,sa=some ⟨ab,ao,none⟩/\AttrAt w s[i] ab (ao+i * 5):=by
     obtain⟨xa,xn,xc,e',-,-,-,hq⟩:=HS.out.parts
     simp only[Value.agg.injEq,Array.mk.injEq,List.cons.injEq,Value.slice.injEq,and_true] at e'
     obtain⟨rfl,rfl,rfl⟩:=e'
     exact hq i his
    obtain⟨x1,hx1⟩:∃ x1,x1=s[i]:=⟨_,rfl⟩
    rw[<-hx1] at hA hkd' hhi2
    obtain⟨bw,nwa,cwa,hstr,hfive⟩:=hA.five
    have H5:=hI hfive
    obtain⟨fb,fo,rfl,hcell⟩:=HI.out.2 i hif
    obtain⟨z,hz⟩:∃ z:Nat,f[i]=(z:Int):=⟨f[i].toNat,by omega⟩
    rw[hz] at hcell hlo2 hhi2
    have hzw:z < x1.words.length:=by omega
    obtain⟨wb,wo,rfl,hwc⟩:=hstr.2.2.2 z hzw
    have HWC:=hI hwc
    have hzn:z < nwa:=by rw[hstr.1];exact hzw
    have HQ:=hI (show R=words.any (fun y=>decide (y=x1.words[z])) by
     rw[HR.out]
     simp only[factV,hat]
     rw[if_neg (by decide),if_neg (by decide),if_neg (by decide),if_neg (by decide),if_neg (by decide),if_neg (by decide),if_pos (by decide)]
     simp[his,hif,hz,<-hx1,hzw])
    have hin:i < fn:=by rw[HI.out.1];exact hif
    have hisn:i < sn:=by rw[HSN.out];exact his
    have HCF:=hI hcell
    have HWI:=hI (fun W (hW:Ext w W)=>rWithin_calls words aw nw cw x1.words[z] W (HW.out.ext hW) (by have:=HWD.out rfl;rw[HW.out.1];omega))
    rw[hat,optV_some] at HIX
    obtain⟨x,hxx⟩:∃ x,x=x1.words[z]:=⟨_,rfl⟩
    rw[<-hxx] at HWC HQ HWI
    clear hx1 hat hkd his hif hlo2 hhi2 hcell hz hkd' hdm hA hstr hfive hwc hzw hxx HARG HDEF
    go_enter Tryz.func19,Tryz.ntmps19
    go_upto_region 1 with fail
    rw[<-hwa]
    clear hwa
    go_wp2_with fail
    refine HIX.out.mono ?_
    rintro r w1 ⟨rfl,hx1⟩
    have HX1:=hI (HXA.out.trans hx1)
    clear f0 f1 f2 f3 f4 f5 ff e0 ef hltw
    obtain⟨f0,f1,f2,f3,f4,f5,ff⟩:=blk6 (hx1.blk HB1.out)
    obtain⟨e0,ef⟩:=blk1 (hx1.blk HB0.out)
    have hcf:=HX1.out.cell HCF.out
    have hwf:=HX1.out.cell HWC.out
    obtain⟨g0,g1,g2,g3,g4⟩:=H5.out w1 HX1.out
    clear hx1
    go_wp2_with fail
    go_still_tail 14,(by kernel_rfl)
    change wpList _ _ _ _ _ w1.drew
    have hx2:Ext w1 w1.drew:=(Ext.refl w1).drew
    generalize w1.drew=w2 at hx2 ⊢
    have HX2:=hI (HX1.out.trans hx2)
    clear hx2 f0 f1 f2 f3 f4 f5 ff e0 ef hcf hwf g0 g1 g2 g3 g4
    go_wp2_with fail
    refine(HWI.out w2 HX2.out).mono ?_
    rintro r w3 ⟨rfl,rfl⟩
    go_wp2_with fail
    go_ret
    exact givesE_bool (by rw[HQ.out]) HX2.out
   -- a number
   ·obtain⟨his,-⟩:=attrAt_at hat
    obtain⟨hif,-,-⟩:=fact_at HFA.out his
    obtain⟨fb,fo,rfl,hcell⟩:=HI.out.2 i hif
    obtain⟨z,hz⟩:∃ z,z=f[i]:=⟨_,rfl⟩
    rw[<-hz] at hcell
    have HQ:=hI (show R=(decide (lo<=z)&&decide (z<=hi')) by
     rw[HR.out]
     simp only[factV,hat]
     rw[if_neg (by decide),if_neg (by decide),if_neg (by decide),if_neg (by decide),if_neg (by decide),if_neg (by decide),if_neg (by decide),if_pos (by decide)]
     simp[hif,<-hz])
    have hin:i < fn:=by rw[HI.out.1];exact hif
    have HCF:=hI hcell
    rw[hat,optV_some] at HIX
    clear hat hkd his hif hcell hz HARG HDEF
    have hw4:(decide (lo<=z)=true/\decide (z<=hi')=true/\R=true)\/(decide (lo<=z)=true/\decide (z<=hi')=false/\R=false)\/(decide (lo<=z)=false/\R=false):=by
     rw[HQ.out]
     cases decide (lo<=z)<;>cases decide (z<=hi')<;>simp
    rcases hw4 with ⟨t1,t2,hf⟩|⟨t1,t2,hf⟩|⟨t1,hf⟩
    all_goals
     have HF:=hI hf
     clear hf
     go_enter Tryz.func19,Tryz.ntmps19
     go_upto_region 1 with fail
     rw[<-hwa]
     clear hwa
     go_wp2_with fail
     refine HIX.out.mono ?_
     rintro r w1 ⟨rfl,hx1⟩
     have HX1:=hI (HXA.out.trans hx1)
     clear f0 f1 f2 f3 f4 f5 ff e0 ef hltw
     obtain⟨f0,f1,f2,f3,f4,f5,ff⟩:=blk6 (hx1.blk HB1.out)
     have hcf:=HX1.out.cell HCF.out
     clear hx1
     go_wp2_with fail
     go_quiet (fail)
     go_wp2_with fail
     go_ret
     exact givesE_bool (by rw[HF.out]) (HX1.out.drewN _)
   -- not
   ·have hj:0 < args.length:=by omega
    have HQ:=hI (show R=!(valF s l f (g+1) args[0]) by
     rw[HR.out,if_pos rfl,valHd_at,List.getElem?_eq_getElem hj];rfl)
    have hnp:0 < na:=by have:=HNA.out;omega
    have HXJ:=hI (fun W (hW:Ext w W)=>ExsD.at args _ (ExsD.ext hW args _ HX.out) 0 hj)
    have HA0:=hI (HARG.out 0 hj)
    obtain⟨V,hV⟩:∃ V,V=valF s l f (g+1) args[0]:=⟨_,rfl⟩
    rw[<-hV] at HQ HA0
    clear hl1 hV HARG HDEF
    go_enter Tryz.func19,Tryz.ntmps19
    go_upto_region 1 with fail
    rw[<-hwa]
    clear hwa
    go_wp2_with fail
    refine HIX.out.mono ?_
    rintro r w1 ⟨rfl,hx1⟩
    have HX1:=hI (HXA.out.trans hx1)
    unfold optV
    clear f0 f1 f2 f3 f4 f5 ff e0 ef hltw
    obtain⟨f0,f1,f2,f3,f4,f5,ff⟩:=blk6 (hx1.blk HB1.out)
    obtain⟨e0,ef⟩:=blk1 (hx1.blk HB0.out)
    obtain⟨b,off,rfl,aw1,nw1,cw1,aa1,na1,ca1,h0,h1,h2,h3,h4,h5,h6⟩:=HXJ.out w1 HX1.out
    have H6:=hI h6
    simp only[Nat.zero_mul,Nat.add_zero] at h0 h1 h2 h3 h4 h5
    clear hx1 h6
    go_wp2_with fail
    go_still_tail 7,(by kernel_rfl)
    change wpList _ _ _ _ _ w1.drew
    have hx2:Ext w1 w1.drew:=(Ext.refl w1).drew
    generalize w1.drew=w2 at hx2 ⊢
    have HX2:=hI (HX1.out.trans hx2)
    have HAX:=hI (HA0.out _ w2 HX2.out (H6.out.ext hx2))
    unfold exV at HAX
    clear hx2 f0 f1 f2 f3 f4 f5 ff e0 ef h0 h1 h2 h3 h4 h5
    go_wp2_with fail
    refine HAX.out.mono ?_
    rintro r w3 ⟨rfl,hx3⟩
    have HX3:=hI (HX2.out.trans hx3)
    clear hx3
    go_wp2_with fail
    go_ret
    exact givesE_bool (by rw[HQ.out]) HX3.out
   -- and
   ·have HQ:=hI (show R=args.all (valE s f (valsOf s l f g)) by rw[HR.out,if_neg (by decide),if_pos rfl,valAll_iff])
    have HXJ:=hI (fun W (hW:Ext w W)=>ExsD.at args _ (ExsD.ext hW args _ HX.out))
    obtain⟨V,hV⟩:∃ V,V=valsOf s l f g:=⟨_,rfl⟩
    rw[<-hV] at HQ
    have HAV:=hI (show ∀ (j:Nat) (hj:j < args.length) (xv:Value) (W:World),Ext w W->IsEx W args[j] xv->Calls Tryz.prog 19 #[.agg #[.slice sa sn sc],.slice a n c,xv,.slice fa fn fc] W (GivesE (.bool (valE s f V args[j])) W) from fun j hj xv W hW hxv=>by rw[hV,<-valF_eq];exact HARG.out j hj xv W hW hxv)
    clear hV HARG HDEF
    go_enter Tryz.func19,Tryz.ntmps19
    go_upto_region 1 with fail
    rw[<-hwa]
    clear hwa
    go_wp2_with fail
    refine HIX.out.mono ?_
    rintro r w1 ⟨rfl,hx1⟩
    have HX1:=hI (HXA.out.trans hx1)
    have HB01:=hI (hx1.blk HB0.out)
    have HB11:=hI (hx1.blk HB1.out)
    unfold optV
    clear f0 f1 f2 f3 f4 f5 ff e0 ef hltw
    obtain⟨f0,f1,f2,f3,f4,f5,ff⟩:=blk6 HB11.out
    clear hx1
    go_wp2_with fail
    clear f0 f1 f2 f3 f4 f5 ff
    go_loopw [13,14] (TruthN s f V args na w.heap.size (.cells #[.slice sa sn sc] 31 (0,0)) (.cells #[.int .i64 7,.string name,.slice aw nw cw,.int .i64 lo,.int .i64 hi',.slice aa na ca] 26 (0,0)) w) (fun _ i _=>na - (intOf i).toNat)
    case atStart=>exact⟨0,0,rfl,rfl,by omega,by omega,⟨fun _ j _ h=>by omega,fun _=>rfl⟩,HB01.out,HB11.out,HX1.out⟩
    case round =>
     obtain⟨k,q,rfl,rfl,hk,hqk,hall,hb0,hb1,hxr⟩:=hrel
     have HALL:=hI hall
     have HB0R:=hI hb0
     have HB1R:=hI hb1
     have HXR:=hI hxr
     obtain⟨e0,ef⟩:=blk1 hb0
     obtain⟨f0,f1,f2,f3,f4,f5,ff⟩:=blk6 hb1
     clear hall hb0 hb1 hxr
     by_cases hkn:k < na
     ·have hka:k < args.length:=by have:=HNA.out;omega
      have t1:decide ((k:Int) < (na:Int))=true:=decide_eq_true (by omega)
      obtain⟨b,off,rfl,aw1,nw1,cw1,aa1,na1,ca1,h0,h1,h2,h3,h4,h5,h6⟩:=HXJ.out wr HXR.out k hka
      have H6:=hI h6
      have HAK:=hI (HAV.out k hka)
      obtain⟨B,hB⟩:∃ B,B=valE s f V args[k]:=⟨_,rfl⟩
      rw[<-hB] at HAK
      have HBB:=hI hB
      clear h6 hB
      go_wp2_with fail
      go_still_tail 8,(by kernel_rfl)
      change wpList _ _ _ _ _ wr.drew
      have hx2:Ext wr wr.drew:=(Ext.refl wr).drew
      generalize wr.drew=w2 at hx2 ⊢
      have HX2:=hI (HXR.out.trans hx2)
      have HB02:=hI (hx2.blk HB0R.out)
      have HB12:=hI (hx2.blk HB1R.out)
      have HAX:=hI (HAK.out _ w2 HX2.out (H6.out.ext hx2))
      unfold exV at HAX
      clear hx2 f0 f1 f2 f3 f4 f5 ff e0 ef h0 h1 h2 h3 h4 h5
      go_wp2_with fail
      refine HAX.out.mono ?_
      rintro r w3 ⟨rfl,hx3⟩
      have HX3:=hI (HX2.out.trans hx3)
      have HB03:=hI (hx3.blk HB02.out)
      have HB13:=hI (hx3.blk HB12.out)
      clear hx3
      cases B
      ·go_wp2_with fail
       go_roundw
       case rel =>
        refine⟨k+1,q,by go_num,rfl,by omega,by omega,⟨fun h=>by omega,fun h=>?_⟩,HB03.out,HB13.out,HX3.out⟩
        have:=h k hka (by omega)
        rw[<-HBB.out] at this;cases this
       case measure=>simp[intOf];omega
      go_wp2_with fail
      go_roundw
      case rel =>
       refine⟨k+1,q+1,by go_num,by go_num,by omega,by omega,⟨fun h j hj hjk=>?_,fun h=>?_⟩,HB03.out,HB13.out,HX3.out⟩
       ·by_cases e:j=k
        ·subst e;exact HBB.out.symm
        exact HALL.out.1 (by omega) j hj (by omega)
       have:=HALL.out.2 fun j hj hjk=>h j hj (by omega)
       omega
      case measure=>simp[intOf];omega
     have t1:decide ((k:Int) < (na:Int))=false:=decide_eq_false (by omega)
     have HF:=hI (show R=((q:Int)==(na:Int)) by
      rw[HQ.out,Bool.eq_iff_iff,List.all_eq_true]
      simp only[beq_iff_eq]
      constructor
      ·intro h
       have:=HALL.out.2 fun j hj _=>h _ (List.getElem_mem hj)
       omega
      intro h x hx
      obtain⟨j,hj,rfl⟩:=List.getElem_of_mem hx
      exact HALL.out.1 (by omega) j hj (by have:=HNA.out;omega))
     go_wp2_with fail
     go_ret
     exact givesE_bool (by rw[HF.out]) HXR.out
   -- or
   have HQ:=hI (show R=args.any (valE s f (valsOf s l f g)) by rw[HR.out,if_neg (by decide),if_neg (by decide),if_pos rfl,valAny_iff])
   have HXJ:=hI (fun W (hW:Ext w W)=>ExsD.at args _ (ExsD.ext hW args _ HX.out))
   obtain⟨V,hV⟩:∃ V,V=valsOf s l f g:=⟨_,rfl⟩
   rw[<-hV] at HQ
   have HAV:=hI (show ∀ (j:Nat) (hj:j < args.length) (xv:Value) (W:World),Ext w W->IsEx W args[j] xv->Calls Tryz.prog 19 #[.agg #[.slice sa sn sc],.slice a n c,xv,.slice fa fn fc] W (GivesE (.bool (valE s f V args[j])) W) from fun j hj xv W hW hxv=>by rw[hV,<-valF_eq];exact HARG.out j hj xv W hW hxv)
   clear hV HARG HDEF
   go_enter Tryz.func19,Tryz.ntmps19
   go_upto_region 1 with fail
   rw[<-hwa]
   clear hwa
   go_wp2_with fail
   refine HIX.out.mono ?_
   rintro r w1 ⟨rfl,hx1⟩
   have HX1:=hI (HXA.out.trans hx1)
   have HB01:=hI (hx1.blk HB0.out)
   have HB11:=hI (hx1.blk HB1.out)
   unfold optV
   clear f0 f1 f2 f3 f4 f5 ff e0 ef hltw
   obtain⟨f0,f1,f2,f3,f4,f5,ff⟩:=blk6 HB11.out
   clear hx1
   go_wp2_with fail
   clear f0 f1 f2 f3 f4 f5 ff
   go_loopw [15] (TruthA s f V args na w.heap.size (.cells #[.slice sa sn sc] 31 (0,0)) (.cells #[.int .i64 8,.string name,.slice aw nw cw,.int .i64 lo,.int .i64 hi',.slice aa na ca] 26 (0,0)) w) (fun i _=>na - (intOf i).toNat)
   case atStart=>exact⟨0,rfl,by omega,fun j _ h=>by omega,HB01.out,HB11.out,HX1.out⟩
   case round =>
    obtain⟨k,rfl,hk,hall,hb0,hb1,hxr⟩:=hrel
    have HALL:=hI hall
    have HB0R:=hI hb0
    have HB1R:=hI hb1
    have HXR:=hI hxr
    obtain⟨e0,ef⟩:=blk1 hb0
    obtain⟨f0,f1,f2,f3,f4,f5,ff⟩:=blk6 hb1
    clear hall hb0 hb1 hxr
    by_cases hkn:k < na
    ·have hka:k < args.length:=by have:=HNA.out;omega
     have t1:decide ((k:Int) < (na:Int))=true:=decide_eq_true (by omega)
     obtain⟨b,off,rfl,aw1,nw1,cw1,aa1,na1,ca1,h0,h1,h2,h3,h4,h5,h6⟩:=HXJ.out wr HXR.out k hka
     have H6:=hI h6
     have HAK:=hI (HAV.out k hka)
     obtain⟨B,hB⟩:∃ B,B=valE s f V args[k]:=⟨_,rfl⟩
     rw[<-hB] at HAK
     have HBB:=hI hB
     clear h6 hB
     go_wp2_with fail
     go_still_tail 8,(by kernel_rfl)
     change wpList _ _ _ _ _ wr.drew
     have hx2:Ext wr wr.drew:=(Ext.refl wr).drew
     generalize wr.drew=w2 at hx2 ⊢
     have HX2:=hI (HXR.out.trans hx2)
     have HB02:=hI (hx2.blk HB0R.out)
     have HB12:=hI (hx2.blk HB1R.out)
     have HAX:=hI (HAK.out _ w2 HX2.out (H6.out.ext hx2))
     unfold exV at HAX
     clear hx2 f0 f1 f2 f3 f4 f5 ff e0 ef h0 h1 h2 h3 h4 h5
     go_wp2_with fail
     refine HAX.out.mono ?_
     rintro r w3 ⟨rfl,hx3⟩
     have HX3:=hI (HX2.out.trans hx3)
     have HB03:=hI (hx3.blk HB02.out)
     have HB13:=hI (hx3.blk HB12.out)
     clear hx3
     cases B
     ·go_wp2_with fail
      go_roundw
      case rel =>
       refine⟨k+1,by go_num,by omega,fun j hj hjk=>?_,HB03.out,HB13.out,HX3.out⟩
       by_cases e:j=k
       ·subst e;exact HBB.out.symm
       exact HALL.out j hj (by omega)
      case measure=>simp[intOf];omega
     have HF:=hI (show R=true by rw[HQ.out,List.any_eq_true];exact⟨_,List.getElem_mem hka,HBB.out.symm⟩)
     go_wp2_with fail
     go_ret
     exact givesE_bool (by rw[HF.out]) HX3.out
    have t1:decide ((k:Int) < (na:Int))=false:=decide_eq_false (by omega)
    have HF:=hI (show R=false by
     rw[HQ.out,List.any_eq_false]
     intro x hx
     obtain⟨j,hj,rfl⟩:=List.getElem_of_mem hx
     rw[HALL.out j hj (by have:=HNA.out;omega)];simp)
    go_wp2_with fail
    go_ret
    exact givesE_bool (by rw[HF.out]) HXR.out
structure PrV where
 value:Bool
 pick:Int
 a:OA
 n:Nat
 c:Nat
def PrV.cells (v:PrV):List Value:=[.bool v.value,.int .i64 v.pick,.slice v.a v.n v.c]
def PrV.val (v:PrV):Value:=.agg #[.bool v.value,.int .i64 v.pick,.slice v.a v.n v.c]
theorem PrV.len (v:PrV):v.cells.length=3:=rfl
inductive IsPr (w:World):Pr->PrV->Prop
 | mk {v:Bool} {k:Int} {ps:List Pr} {a:OA} {n c:Nat} (vs:List PrV) (hr:IsRows w 3 PrV.cells vs a n c) (hl:vs.length=ps.length)
   (h:∀ i (h1:i < ps.length) (h2:i < vs.length),IsPr w ps[i] vs[i]):IsPr w (.mk v k ps) ⟨v,k,a,n,c⟩
theorem IsPr.mono {w w':World} {p:Pr} {v:PrV} (h:IsPr w p v) (hs:Sub w w'):IsPr w' p v:=by
 induction h with
 | mk vs hr hl _ ih=>exact .mk vs (hr.mono hs) hl ih
theorem IsPr.ext {w w':World} {p:Pr} {v:PrV} (h:IsPr w p v) (he:Ext w w'):IsPr w' p v:=h.mono he.sub
theorem IsPr.parts {w:World} {p:Pr} {v:PrV} (h:IsPr w p v):v.value=p.value/\v.pick=p.pick/\v.n=p.args.length/\v.n<=v.c/\OkAddr v.a v.c /\
  ∀ i (hi:i < p.args.length),∃ b off q,v.a=some ⟨b,off,none⟩/\IsPr w p.args[i] q/\w.cell? ⟨b,off+i * 3,none⟩=some (.bool q.value)/\w.cell? ⟨b,off+i * 3+1,none⟩=some (.int .i64 q.pick)/\w.cell? ⟨b,off+i * 3+2,none⟩=some (.slice q.a q.n q.c):=by
 cases h with
 | mk vs hr hl h =>
  refine⟨rfl,rfl,hr.1.trans hl,hr.2.1,hr.2.2.1,fun i hi=>?_⟩
  simp only[Pr.args] at hi ⊢
  obtain⟨b,off,e,hc⟩:=hr.2.2.2 i (by omega)
  exact⟨b,off,_,e,h i hi (by omega),hc 0 (by simp[PrV.len]),hc 1 (by simp[PrV.len]),hc 2 (by simp[PrV.len])⟩
theorem uBy:Tryz.prog.underlying 5=some (.int .u8):=by kernel_rfl
theorem uBs:Tryz.prog.underlying 106=some (.slice 5):=by kernel_rfl
theorem uSt:Tryz.prog.underlying 9=some .string:=by kernel_rfl
theorem upto_calls {w0 w:World} {bd:Nat} (h:DeckAt w0 w bd) (most:Int) (h0:0<=most) (h1:most<=10000000000000) :
  Calls Tryz.prog 68 #[.pointer (some ⟨bd,0,none⟩),.int .i64 most] w (NextQ 0 (most+1) w0 bd w):=by
 go_enter Tryz.func68,Tryz.ntmps68
 go_wp2_with fail
 refine(next_calls h 6 (by omega) (by omega)).mono ?_
 rintro e w1 ⟨r,rfl,hr0,hr1,hd,hc⟩
 have HC:=hI hc
 have h4:∀ (k:Int),0 < k->k<=10000000000001->Calls Tryz.prog 28 #[.pointer (some ⟨bd,0,none⟩),.int .i64 k] w1 (NextQ 0 k w0 bd w1):=fun k hk hk2=>next_calls hd k hk (by omega)
 have H4:=hI h4
 clear hc hd h4
 have hr:r=0\/r=1\/r=2\/r=3\/r=4\/r=5:=by omega
 clear hr0 hr1
 rcases hr with rfl|rfl|rfl|rfl|rfl|rfl
 all_goals
  go_wp2_with fail
  all_goals
   refine(H4.out _ (by omega) (by omega)).mono ?_
   rintro e w2 ⟨q,rfl,hq0,hq1,hd2,hc2⟩
   have HC2:=hI (HC.out.then hc2)
   have HD2:=hI hd2
   clear hc2 hd2 H4 HC
   go_wp2_with fail
   all_goals
    go_ret
    exact⟨_,rfl,by omega,by omega,HD2.out,HC2.out⟩
def LeftQ (w:World) (e:Ending) (w':World):Prop:=∃ b:Bool,e=.returned (.bool b)/\Ext w w'
theorem left_calls {w0 w:World} {bd:Nat} (h:DeckAt w0 w bd):Calls Tryz.prog 48 #[.pointer (some ⟨bd,0,none⟩)] w (LeftQ w):=by
 obtain⟨la,ln,lc,k,hb,hk,hln,hL,hx,hbd⟩:=h
 obtain⟨c0,c1,cf⟩:=blk2 hb
 clear hL hx hb
 go_enter Tryz.func48,Tryz.ntmps48
 go_wp2_with fail
 go_quiet (fail)
 go_wp2_with fail
 go_ret
 exact⟨_,rfl,(Ext.refl w).drewN _⟩
theorem conv_two (w:World) (x:Nat) (hx:x=w.heap.size) (c d:Int) (t:TypeId):Sem.run Tryz.prog (convert 106 9 (.slice (some ⟨x,0,none⟩) 2 2)) (w.alloc (.cells #[.int .u8 c,.int .u8 d] t))=.ok (.string ⟨#[UInt8.ofNat c.toNat,UInt8.ofNat d.toNat]⟩) (w.alloc (.cells #[.int .u8 c,.int .u8 d] t)):=by
 subst hx
 rw[run_convert_bytes_string _ _ _ 5 _ _ _ uBs uBy uSt]
 have:=run_bytesToString (P:=Tryz.prog) (w.alloc (.cells #[.int .u8 c,.int .u8 d] t)) ⟨w.heap.size,0,none⟩ 2 2 [c,d] (by
  refine run_loadCells_list (P:=Tryz.prog) _ _ [.int .u8 c,.int .u8 d] (fun j v hj=>?_)
  have:(⟨w.heap.size,0,none⟩:Addr).add j=⟨w.heap.size,j,none⟩:=by unfold Addr.add;split<;>simp_all
  rw[this,World.cell?_alloc_at _ _ _ _ rfl]
  simpa using hj)
 rw[this]
 rfl
def lettersB (p:BA) (k:Nat):BA:=p++⟨#[97+UInt8.ofNat (k / 26 % 26),97+UInt8.ofNat (k % 26)]⟩
theorem lettersB_size (p:BA) (k:Nat):(lettersB p k).size=p.size+2:=by unfold lettersB;rw[ByteArray.size_append];rfl
def LettersQ (p:BA) (k:Nat) (w:World) (e:Ending) (w':World):Prop:=e=.returned (.string (lettersB p k))/\Ext w w'
theorem letters_calls (p:BA) (k:Nat) (hk:k<=1000) (hp:p.size<=1000) (w:World):Calls Tryz.prog 47 #[.string p,.int .i64 k] w (LettersQ p k w):=by
 have kc:=conv_two
 go_enter Tryz.func47,Tryz.ntmps47
 go_wp2_with fail
 go_ret
 exact⟨rfl,(Ext.refl w).alloc _⟩
def wbN:List Wb->Nat
 | []=>0
 | .mk _ _ u::r=>1+wbN u+wbN r
theorem wbN_at:(l:List Wb)->(k:Nat)->(hk:k < l.length)->wbN l[k].unl+1<=wbN l
 | [],k,hk=>by simp at hk
 | .mk n c u::r,0,_=>by simp only[List.getElem_cons_zero,Wb.unl,wbN];omega
 | .mk n c u::r,k+1,hk=>by
  have:=wbN_at r k (by simpa using hk)
  simp only[List.getElem_cons_succ,wbN];omega
theorem wbN_len:(l:List Wb)->l.length<=wbN l
 | []=>by simp[wbN]
 | .mk n c u::r=>by have:=wbN_len r;simp only[List.length_cons,wbN];omega
def bkSum:List Wb->Nat
 | []=>0
 | .mk _ _ u::r=>min (cntBacks u) 41+bkSum r
theorem cnt_sum:(l:List Wb)->cntBacks l=l.length+bkSum l
 | []=>by simp[cntBacks,bkSum]
 | .mk n c u::r=>by rw[cntBacks,bkSum,cnt_sum r];simp;omega
theorem bkSum_take_succ:(l:List Wb)->(k:Nat)->(hk:k < l.length)->bkSum (l.take (k+1))=bkSum (l.take k)+min (cntBacks l[k].unl) 41
 | [],k,hk=>by simp at hk
 | .mk n c u::r,0,_=>by simp[bkSum,Wb.unl]
 | .mk n c u::r,k+1,hk=>by
  have:=bkSum_take_succ r k (by simpa using hk)
  simp[bkSum] at this ⊢
  omega
theorem bkSum_take_le:(l:List Wb)->(k:Nat)->bkSum (l.take k)<=bkSum l
 | [],k=>by simp[bkSum]
 | .mk n c u::r,0=>by simp[bkSum]
 | .mk n c u::r,k+1=>by have:=bkSum_take_le r k;simp[bkSum];omega
def wbOk:List Wb->Prop
 | []=>True
 | .mk n c u::r=>n.size<=1000000000000000/\c.fits/\c.few/\c.size<=1000000000000000/\wbOk u/\wbOk r
theorem wbOk_at:(l:List Wb)->wbOk l->(k:Nat)->(hk:k < l.length)->l[k].name.size<=1000000000000000/\l[k].cond.fits/\l[k].cond.few/\l[k].cond.size<=1000000000000000/\wbOk l[k].unl
 | [],_,k,hk=>by simp at hk
 | .mk n c u::r,h,0,_=>by rw[wbOk] at h;exact⟨h.1,h.2.1,h.2.2.1,h.2.2.2.1,h.2.2.2.2.1⟩
 | .mk n c u::r,h,k+1,hk=>by rw[wbOk] at h;simpa using wbOk_at r h.2.2.2.2.2 k (by simpa using hk)
def wbFits:List Wb->Prop
 | []=>True
 | .mk n c u::r=>n.size<=1000000000000000/\c.fits/\c.few/\c.slim/\u.length<=1000000000000000/\wbFits u/\wbFits r
def Wb.fit (x:Wb):Prop:=x.name.size<=1000000000000000/\x.cond.fits/\x.cond.few/\x.cond.slim/\x.unl.length<=1000000000000000/\wbFits x.unl
theorem wbFits_at:(l:List Wb)->wbFits l->(k:Nat)->(hk:k < l.length)->l[k].fit
 | [],_,k,hk=>by simp at hk
 | .mk n c u::r,h,0,_=>by rw[wbFits] at h;exact⟨h.1,h.2.1,h.2.2.1,h.2.2.2.1,h.2.2.2.2.1,h.2.2.2.2.2.1⟩
 | .mk n c u::r,h,k+1,hk=>by rw[wbFits] at h;simpa using wbFits_at r h.2.2.2.2.2.2 k (by simpa using hk)
theorem wbFits_of_ok:(l:List Wb)->wbOk l->wbN l<=1000000000000000->wbFits l
 | [],_,_=>by unfold wbFits;trivial
 | .mk n c u::r,h,hn=>by
  rw[wbOk] at h
  rw[wbN] at hn
  have hu:=wbN_len u
  unfold wbFits
  exact⟨h.1,h.2.1,h.2.2.1,slim_of_size c h.2.2.2.1,by omega,wbFits_of_ok u h.2.2.2.2.1 (by omega),wbFits_of_ok r h.2.2.2.2.2 (by omega)⟩
theorem rcount_calls (m:Nat):∀ (l:List Wb) (a:OA) (n c:Nat) (w:World),wbN l<=m->n<=1000000000000000->wbFits l->WbsD w l a->n=l.length ->
  Calls Tryz.prog 83 #[.slice a n c] w (Gives (.int .i64 (min (cntBacks l) 41:Nat)) w):=by
 induction m with
 | zero =>
  intro l a n c w hm hn2 hfit hd hn
  have hl:=wbN_len l
  have:l=[]:=List.eq_nil_of_length_eq_zero (by omega)
  subst this
  subst hn
  have HR:=hI (show (min (cntBacks []) 41:Nat)=0 by simp[cntBacks])
  generalize (min (cntBacks []) 41:Nat)=R at *
  clear hd hfit
  go_enter Tryz.func83,Tryz.ntmps83
  go_wp2_with fail
  go_loop [3,4] (fun t i=>t=.int .i64 0/\i=.int .i64 0) (fun _ _=>0)
  case atStart=>exact⟨rfl,rfl⟩
  case round =>
   obtain⟨rfl,rfl⟩:=hrel
   go_wp2_with fail
   all_goals (go_ret;exact⟨by rw[HR.out];rfl,rfl⟩)
 | succ m ih =>
  intro l a n c w hm hn2 hfit hd hn
  have HFT:=hI hfit
  have HD:=hI hd
  have HN:=hI hn
  have IH:=hI ih
  have HCS:=hI (cnt_sum l)
  clear hd hn ih hfit
  go_enter Tryz.func83,Tryz.ntmps83
  go_wp2_with fail
  go_loop [3,4] (fun t i=>∃ k:Nat,i=.int .i64 k/\k<=n/\t=.int .i64 ((n+bkSum (l.take k):Nat):Int)/\(k=0\/n+bkSum (l.take k)<=81)) (fun _ i=>n - (intOf i).toNat)
  case atStart=>exact⟨0,rfl,by omega,by simp[bkSum],Or.inl rfl⟩
  case round =>
   obtain⟨k,rfl,hk,rfl,hle⟩:=hrel
   have hk0:bkSum (l.take k)<=81:=by
    rcases hle with h|h
    ·subst h;simp[bkSum]
    omega
   obtain⟨N,hN⟩:∃ N,N=n+bkSum (l.take k):=⟨_,rfl⟩
   rw[<-hN]
   have hNb:N<=1000000000000081:=by omega
   have HNN:=hI hN
   clear hN hle
   by_cases hgo:k < n/\N<=40
   ·obtain⟨hkn,hN40⟩:=hgo
    have hkl:k < l.length:=by have:=HN.out;omega
    have t1:decide ((k:Int) < (n:Int))=true:=decide_eq_true (by omega)
    have t2:decide ((N:Int)<=40)=true:=decide_eq_true (by omega)
    obtain⟨b,off,rfl,v,hv0,hrow,hv2,hv3,hv4,hv5,hv6⟩:=WbsD.at l _ HD.out k hkl
    obtain⟨c0,c1,c2,c3,c4,c5,c6,c7⟩:=hrow.eight
    have hwn:=wbN_at l k hkl
    have HU:=hI hv6
    have HUN:=hI hv3
    have hft:=wbFits_at l HFT.out k hkl
    have hvn:v.nu<=1000000000000000:=by rw[hv3];exact hft.2.2.2.2.1
    have HFU:=hI hft.2.2.2.2.2
    have HTS:=hI (bkSum_take_succ l k hkl)
    clear hrow hv0 hv2 hv3 hv4 hv5 hv6 hft
    go_wp2_with fail
    refine(IH.out l[k].unl _ _ _ w (by omega) hvn HFU.out HU.out HUN.out).mono ?_
    rintro r w1 ⟨rfl,rfl⟩
    obtain⟨M,hM⟩:∃ M,M=(min (cntBacks l[k].unl) 41:Nat):=⟨_,rfl⟩
    have hMl:M<=41:=by omega
    rw[<-hM]
    rw[<-hM] at HTS
    clear hM
    go_wp2_with fail
    go_round
    case rel=>exact⟨k+1,by go_num,by omega,by rw[HTS.out,<-Nat.add_assoc,<-HNN.out];go_num,Or.inr (by rw[HTS.out,<-Nat.add_assoc,<-HNN.out];omega)⟩
    case measure=>simp[intOf];omega
   have HR:=hI (show (min (cntBacks l) 41:Nat)=min N 41 by
    have h1:=HCS.out
    have h2:=HN.out
    have h3:=HNN.out
    by_cases h:k < n
    ·have h4:40 < N:=by have:=fun h2=>hgo ⟨h,h2⟩;omega
     have h5:=bkSum_take_le l k
     omega
    have e:l.take k=l:=List.take_of_length_le (by omega)
    rw[e] at h3
    omega)
   generalize (min (cntBacks l) 41:Nat)=R at *
   by_cases hkn:k < n
   ·have t1:decide ((k:Int) < (n:Int))=true:=decide_eq_true (by omega)
    have t2:decide ((N:Int)<=40)=false:=decide_eq_false (by omega)
    clear hgo
    go_wp2_with fail
    all_goals (go_ret;exact⟨congrArg (fun z:Int=>Ending.returned (.int .i64 z)) (by have:=HR.out;omega),rfl⟩)
   have t1:decide ((k:Int) < (n:Int))=false:=decide_eq_false (by omega)
   clear hgo
   go_wp2_with fail
   all_goals (go_ret;exact⟨congrArg (fun z:Int=>Ending.returned (.int .i64 z)) (by have:=HR.out;omega),rfl⟩)
def itemB (d:Nat) (x:Wb):Bool:=nameB x.name&&refExprB x.cond&&backsB (d - 1) x.unl
theorem backsB_eq (d:Nat):(l:List Wb)->backsB d l=((decide (l.length=0)||decide (d≠0))&&l.all (itemB d))
 | []=>by simp[backsB]
 | .mk n c u::r=>by
  rw[backsB,backsB_eq d r]
  simp only[List.length_cons,List.all_cons,itemB,Wb.name,Wb.cond,Wb.unl]
  by_cases hd:d=0
  ·simp[hd]
  simp[hd,Bool.and_assoc]
theorem givesE_b {a b:Bool} {w w':World} (h:a=b) (hx:Ext w w'):GivesE (.bool b) w (.returned (.bool a)) w':=by subst h;exact⟨rfl,hx⟩
theorem rbacks_calls (m:Nat):∀ (l:List Wb) (a:OA) (n c d:Nat) (w:World),wbN l<=m->n<=1000000000000000->wbFits l->d<=1000->WbsD w l a->n=l.length ->
  Calls Tryz.prog 84 #[.slice a n c,.int .i64 d] w (GivesE (.bool (backsB d l)) w):=by
 induction m with
 | zero =>
  intro l a n c d w hm hn2 hok hd hD hn
  have hl:=wbN_len l
  have:l=[]:=List.eq_nil_of_length_eq_zero (by omega)
  subst this
  subst hn
  have HR:=hI (show backsB d []=true by simp[backsB])
  generalize backsB d []=R at *
  clear hD hok
  go_enter Tryz.func84,Tryz.ntmps84
  go_wp2_with fail
  go_loop [5] (fun t=>t=.int .i64 0) (fun _=>0)
  case atStart=>exact rfl
  case round =>
   subst hrel
   go_wp2_with fail
   all_goals (go_ret;exact givesE_b (by rw[HR.out]) (Ext.refl _))
 | succ m ih =>
  intro l a n c d w hm hn2 hok hd hD hn
  have HD:=hI hD
  have HN:=hI hn
  have HOK:=hI hok
  have IH:=hI ih
  have HQ:=hI (backsB_eq d l)
  clear hD hn ih hok
  obtain⟨R,hR⟩:∃ R,R=backsB d l:=⟨_,rfl⟩
  rw[<-hR]
  rw[<-hR] at HQ
  clear hR
  by_cases h0:0 < n/\d=0
  ·obtain⟨hn0,hd0⟩:=h0
   have t0:decide ((0:Int) < (n:Int))=true:=decide_eq_true (by omega)
   have HR:=hI (show R=false by rw[HQ.out,<-HN.out,hd0];simp;intro h;omega)
   subst hd0
   go_enter Tryz.func84,Tryz.ntmps84
   go_wp2_with fail
   go_ret
   exact givesE_b (by rw[HR.out]) (Ext.refl _)
  have HQ2:=hI (show R=l.all (itemB d) by
   rw[HQ.out]
   by_cases h:n=0
   ·have:l=[]:=List.eq_nil_of_length_eq_zero (by have:=HN.out;omega)
    subst this;simp
   have hd1:d≠0:=fun e=>h0 ⟨by omega,e⟩
   simp[hd1])
  clear HQ
  by_cases hn0:0 < n
  case neg =>
   obtain rfl:n=0:=by omega
   have hl0:l=[]:=List.eq_nil_of_length_eq_zero HN.out.symm
   have HR:=hI (show R=true by rw[HQ2.out,hl0];rfl)
   clear h0 hl0 hn0
   go_enter Tryz.func84,Tryz.ntmps84
   go_wp2_with fail
   go_loop [5] (fun t=>t=.int .i64 0) (fun _=>0)
   case atStart=>exact rfl
   case round =>
    subst hrel
    go_wp2_with fail
    all_goals (go_ret;exact givesE_b (by rw[HR.out]) (Ext.refl _))
  case pos =>
   have t0:decide ((0:Int) < (n:Int))=true:=decide_eq_true (by omega)
   have td:((d:Int)==0)=false:=by have:=fun e=>h0 ⟨hn0,e⟩;simp;omega
   go_enter Tryz.func84,Tryz.ntmps84
   go_wp2_with fail
   go_loopw [5] (fun t wr=>∃ k:Nat,t=.int .i64 k/\k<=n/\(∀ j (h:j < l.length),j < k->itemB d l[j]=true)/\Ext w wr) (fun t _=>n - (intOf t).toNat)
   case atStart=>exact⟨0,rfl,by omega,fun j _ h=>by omega,Ext.refl _⟩
   case round =>
    obtain⟨k,rfl,hk,hall,hxr⟩:=hrel
    have HALL:=hI hall
    have HXR:=hI hxr
    clear hall hxr
    by_cases hkn:k < n
    ·have hkl:k < l.length:=by have:=HN.out;omega
     have t1:decide ((k:Int) < (n:Int))=true:=decide_eq_true (by omega)
     have hd1:1<=d:=by have:=fun e=>h0 ⟨by omega,e⟩;omega
     obtain⟨b,off,rfl,v,hv0,hrow,hv2,hv3,hv4,hv5,hv6⟩:=WbsD.at l _ (WbsD.mono HXR.out.sub _ _ HD.out) k hkl
     obtain⟨c0,c1,c2,c3,c4,c5,c6,c7⟩:=hrow.eight
     obtain⟨ho1,ho2,ho3,ho4,hou,ho5⟩:=wbFits_at l HOK.out k hkl
     have hvn:v.nu<=1000000000000000:=by rw[hv3];exact hou
     have HO4:=hI ho4
     have hwn:=wbN_at l k hkl
     have HU:=hI hv6
     have HUN:=hI hv3
     have HEX:=hI hv2
     have HO2:=hI ho2
     have HO3:=hI ho3
     have HO5:=hI ho5
     have HIT:=hI (show itemB d l[k]=(nameB l[k].name&&refExprB l[k].cond&&backsB (d - 1) l[k].unl) from rfl)
     rw[hv0] at c0
     clear hrow hv0 hv2 hv3 hv4 hv5 hv6 ho2 ho3 ho5 ho4 hou
     have q1:((d:Int) - 1)=((d - 1:Nat):Int):=by omega
     cases hnb:nameB l[k].name
     ·have HNB:=hI hnb
      have HR:=hI (show R=false by
       rw[HQ2.out,List.all_eq_false]
       exact⟨l[k],List.getElem_mem hkl,by rw[HIT.out,hnb];simp⟩)
      clear hnb q1
      go_wp2_with fail
      refine(rname_calls _ _ ho1).mono ?_
      rintro r w1 ⟨rfl,rfl⟩
      rw[HNB.out]
      go_wp2_with fail
      go_ret
      exact givesE_b (by rw[HR.out]) HXR.out
     have HNB:=hI hnb
     cases hxb:refExprB l[k].cond
     ·have HXB:=hI hxb
      have HR:=hI (show R=false by
       rw[HQ2.out,List.all_eq_false]
       exact⟨l[k],List.getElem_mem hkl,by rw[HIT.out,hxb];simp⟩)
      clear hnb hxb q1
      go_wp2_with fail
      refine(rname_calls _ _ ho1).mono ?_
      rintro r w1 ⟨rfl,rfl⟩
      rw[HNB.out]
      go_wp2_with fail
      refine(rexpr_slim l[k].cond _ _ HEX.out HO4.out HO2.out HO3.out).mono ?_
      rintro r w1 ⟨rfl,hx1⟩
      rw[HXB.out]
      have HX1:=hI (HXR.out.trans hx1)
      clear hx1 c0 c1 c2 c3 c4 c5 c6 c7
      go_wp2_with fail
      go_ret
      exact givesE_b (by rw[HR.out]) HX1.out
     have HXB:=hI hxb
     clear q1
     go_wp2_with fail
     refine(rname_calls _ _ ho1).mono ?_
     rintro r w1 ⟨rfl,rfl⟩
     rw[HNB.out]
     go_wp2_with fail
     refine(rexpr_slim l[k].cond _ _ HEX.out HO4.out HO2.out HO3.out).mono ?_
     rintro r w1 ⟨rfl,hx1⟩
     rw[HXB.out]
     have HX1:=hI (HXR.out.trans hx1)
     have c7':=hx1.cell c7
     have HU1:=hI (WbsD.mono hx1.sub _ _ HU.out)
     have q1:((d:Int) - 1)=((d - 1:Nat):Int):=by omega
     clear hx1 c0 c1 c2 c3 c4 c5 c6 c7
     go_wp2_with fail
     refine(IH.out l[k].unl _ _ _ (d - 1) w1 (by omega) hvn HO5.out (by omega) HU1.out HUN.out).mono ?_
     rintro r w2 ⟨rfl,hx2⟩
     have HX2:=hI (HX1.out.trans hx2)
     clear hx2 c7' q1
     cases hbb:backsB (d - 1) l[k].unl
     ·have HR:=hI (show R=false by
       rw[HQ2.out,List.all_eq_false]
       exact⟨l[k],List.getElem_mem hkl,by rw[HIT.out,hbb];simp⟩)
      clear hnb hxb
      go_wp2_with fail
      go_ret
      exact givesE_b (by rw[HR.out]) HX2.out
     have HI2:=hI (show itemB d l[k]=true by rw[HIT.out,hnb,hxb,hbb];rfl)
     clear hnb hxb
     go_wp2_with fail
     go_roundw
     case rel =>
      refine⟨k+1,by go_num,by omega,fun j hj hjk=>?_,HX2.out⟩
      by_cases e:j=k
      ·subst e;exact HI2.out
      exact HALL.out j hj (by omega)
     case measure=>simp[intOf];omega
    have t1:decide ((k:Int) < (n:Int))=false:=decide_eq_false (by omega)
    have HR:=hI (show R=true by
     rw[HQ2.out,List.all_eq_true]
     intro x hx
     obtain⟨j,hj,rfl⟩:=List.mem_iff_getElem.1 hx
     exact HALL.out j hj (by have:=HN.out;omega))
    go_wp2_with fail
    go_ret
    exact givesE_b (by rw[HR.out]) HXR.out
theorem blk10r {w:World} {b:Nat} {v0 v1 v2 v3 v4 v5 v6 v7 v8 v9:Value} {t:TypeId} (h:w.heap[b]?=some (.cells #[v0,v1,v2,v3,v4,v5,v6,v7,v8,v9] t (0,0))) :
  w.cell? ⟨b,0,none⟩=some v0/\w.cell? ⟨b,1,none⟩=some v1/\w.cell? ⟨b,2,none⟩=some v2/\w.cell? ⟨b,3,none⟩=some v3/\w.cell? ⟨b,4,none⟩=some v4/\w.cell? ⟨b,5,none⟩=some v5/\w.cell? ⟨b,6,none⟩=some v6/\w.cell? ⟨b,7,none⟩=some v7/\w.cell? ⟨b,8,none⟩=some v8/\w.cell? ⟨b,9,none⟩=some v9/\(∀ j,w.frozen? ⟨b,j,none⟩=false) :=
 ⟨blk_cell h 0,blk_cell h 1,blk_cell h 2,blk_cell h 3,blk_cell h 4,blk_cell h 5,blk_cell h 6,blk_cell h 7,blk_cell h 8,blk_cell h 9,fun j=>blk_free h j⟩
def Cla.ok (c:Cla):Prop:=c.name.size<=1000000000000000/\c.cond.fits/\c.cond.few/\c.cond.size<=1000000000000000/\wbOk c.unl/\wbN c.unl<=1000000000000000
def Cla.fit (c:Cla):Prop:=c.name.size<=1000000000000000/\c.cond.fits/\c.cond.few/\c.cond.slim/\c.unl.length<=1000000000000000/\wbFits c.unl
theorem Cla.ok.fit {c:Cla} (h:c.ok):c.fit:=⟨h.1,h.2.1,h.2.2.1,slim_of_size _ h.2.2.2.1,Nat.le_trans (wbN_len _) h.2.2.2.2.2,wbFits_of_ok _ h.2.2.2.2.1 h.2.2.2.2.2⟩
def amountB (m amount:Int):Bool:=(decide (m=0)&&(amount==0))||(decide (0 < m)&&decide (1<=amount)&&decide (amount<=m))
theorem rclause_fit (c:Cla) (v:ClV) (w:World) (hc:IsCla w c v) (hok:c.fit) :
  Calls Tryz.prog 57 #[.agg #[.int .i64 v.kind,.string v.name,.int .i64 v.x.op,.string v.x.name,.slice v.x.aw v.x.nw v.x.cw,.int .i64 v.x.lo,.int .i64 v.x.hi,.slice v.x.aa v.x.na v.x.ca,.slice v.au v.nu v.cu,.int .i64 v.amount]] w (GivesE (.bool (clauseB c)) w):=by
 obtain⟨hk,hnm,hex,hnu,-,-,hwb,ham⟩:=hc
 obtain⟨ho1,ho2,ho3,ho4,ho5,ho6⟩:=hok
 rw[hk,hnm,ham]
 have HEX:=hI hex
 have HWB:=hI hwb
 have HNU:=hI hnu
 have HO2:=hI ho2
 have HO3:=hI ho3
 have HO4:=hI ho4
 have HO6:=hI ho6
 have hnu2:v.nu<=1000000000000000:=by rw[hnu];exact ho5
 obtain⟨R,hR⟩:∃ R,R=clauseB c:=⟨_,rfl⟩
 rw[<-hR]
 have HR:=hI (show R=(decide (1<=c.kind)&&decide (c.kind<=10)&&nameB c.name&&refExprB c.cond&&(decide (c.unl.length=0)||((c.kind==3)&&decide (cntBacks c.unl<=40)&&backsB 16 c.unl))&&amountB (mostOf c.kind) c.amount) by rw[hR];rfl)
 clear hk hnm hex hnu hwb ham ho2 ho3 ho4 ho5 ho6 hR
 obtain⟨kind,name,cond,unl,amount⟩:=c
 simp only at *
 obtain⟨vk,vn,x,au,nu,cu,va⟩:=v
 simp only at *
 obtain⟨wa,hwa⟩:∃ wa,wa=w.alloc (.cells #[.int .i64 kind,.string name,.int .i64 x.op,.string x.name,.slice x.aw x.nw x.cw,.int .i64 x.lo,.int .i64 x.hi,.slice x.aa x.na x.ca,.slice au nu cu,.int .i64 amount] 67):=⟨_,rfl⟩
 have hxa:Ext w wa:=by rw[hwa];exact(Ext.refl _).alloc _
 have hb:wa.heap[w.heap.size]?=some (.cells #[.int .i64 kind,.string name,.int .i64 x.op,.string x.name,.slice x.aw x.nw x.cw,.int .i64 x.lo,.int .i64 x.hi,.slice x.aa x.na x.ca,.slice au nu cu,.int .i64 amount] 67 (0,0)):=by rw[hwa];exact alloc_new w _
 have HXA:=hI hxa
 have HB:=hI hb
 clear hxa hb
 by_cases h1:kind < 1
 ·have t1:decide (kind < 1)=true:=decide_eq_true h1
  have HF:=hI (show R=false by rw[HR.out];simp;intro h;omega)
  clear h1 hwa
  go_enter Tryz.func57,Tryz.ntmps57
  go_wp2_with fail
  go_ret
  exact givesE_b (by rw[HF.out]) ((Ext.refl w).alloc _)
 have t1:decide (kind < 1)=false:=decide_eq_false h1
 by_cases h10:10 < kind
 ·have t10:decide (10 < kind)=true:=decide_eq_true h10
  have HF:=hI (show R=false by rw[HR.out];simp;intro _ h;omega)
  clear h10 h1 hwa
  go_enter Tryz.func57,Tryz.ntmps57
  go_wp2_with fail
  go_ret
  exact givesE_b (by rw[HF.out]) ((Ext.refl w).alloc _)
 have t10:decide (10 < kind)=false:=decide_eq_false h10
 have hk1:decide (1<=kind)=true:=decide_eq_true (by omega)
 have hk2:decide (kind<=10)=true:=decide_eq_true (by omega)
 rw[hk1,hk2,Bool.true_and,Bool.true_and] at HR
 clear hk1 hk2 h1 h10
 go_enter Tryz.func57,Tryz.ntmps57
 go_wp2_with fail
 rw[<-hwa]
 clear hwa
 refine(rname_calls _ _ ho1).mono ?_
 rintro r w1 ⟨rfl,rfl⟩
 obtain⟨b0,b1,b2,b3,b4,b5,b6,b7,b8,b9,bf⟩:=blk10r HB.out
 cases hnb:nameB name
 ·have HF:=hI (show R=false by rw[HR.out,hnb];rfl)
  go_wp2_with fail
  go_ret
  exact givesE_b (by rw[HF.out]) HXA.out
 rw[hnb,Bool.true_and] at HR
 clear hnb
 go_wp2_with fail
 refine(rexpr_slim cond _ _ (HEX.out.ext HXA.out) HO4.out HO2.out HO3.out).mono ?_
 rintro r w1 ⟨rfl,hx1⟩
 have HX1:=hI (HXA.out.trans hx1)
 have HB1:=hI (hx1.blk HB.out)
 clear hx1 b0 b1 b2 b3 b4 b5 b6 b7 b8 b9 bf HB
 obtain⟨b0,b1,b2,b3,b4,b5,b6,b7,b8,b9,bf⟩:=blk10r HB1.out
 cases hxb:refExprB cond
 ·have HF:=hI (show R=false by rw[HR.out,hxb];rfl)
  go_wp2_with fail
  go_ret
  exact givesE_b (by rw[HF.out]) HX1.out
 rw[hxb,Bool.true_and] at HR
 clear hxb
 obtain⟨U,hU⟩:∃ U,U=(decide (unl.length=0)||((kind==3)&&decide (cntBacks unl<=40)&&backsB 16 unl)):=⟨_,rfl⟩
 rw[<-hU] at HR
 have HU:=hI hU
 clear hU
 go_upto_region 3 with fail
 go_cut [44] (fun s44 wx=>s44=.bool (!U)/\Ext w1 wx)
 case first =>
  by_cases h0:nu=0
  ·have t0:decide ((0:Int) < (nu:Int))=false:=decide_eq_false (by omega)
   have HF:=hI (show U=true by rw[HU.out,<-HNU.out,h0];simp)
   go_wp2_with fail
   go_meet
   case rel=>exact⟨by rw[HF.out];rfl,Ext.refl _⟩
  have t0:decide ((0:Int) < (nu:Int))=true:=decide_eq_true (by omega)
  have hl0:decide (unl.length=0)=false:=decide_eq_false (by have:=HNU.out;omega)
  rw[hl0,Bool.false_or] at HU
  clear hl0
  by_cases h3:kind=3
  ·have t3:(kind != 3)=false:=by simp[h3]
   have e3:(kind==3)=true:=by simp[h3]
   rw[e3,Bool.true_and] at HU
   clear e3 h3
   go_wp2_with fail
   refine(rcount_calls (wbN unl) unl _ _ _ w1 (Nat.le_refl _) hnu2 HO6.out (WbsD.mono HX1.out.sub _ _ HWB.out) HNU.out).mono ?_
   rintro r w2 ⟨rfl,rfl⟩
   obtain⟨M,hM⟩:∃ M,M=(min (cntBacks unl) 41:Nat):=⟨_,rfl⟩
   rw[<-hM]
   have hMl:M<=41:=by omega
   have HCB:=hI (show decide (cntBacks unl<=40)=decide (M<=40) by rw[hM];congr 1;exact propext ⟨fun h=>by omega,fun h=>by omega⟩)
   rw[HCB.out] at HU
   clear hM HCB
   by_cases h40:M<=40
   ·have t40:decide ((40:Int) < (M:Int))=false:=decide_eq_false (by omega)
    have e40:decide (M<=40)=true:=decide_eq_true h40
    rw[e40,Bool.true_and] at HU
    clear e40
    go_wp2_with fail
    refine(rbacks_calls (wbN unl) unl _ _ _ 16 w1 (Nat.le_refl _) hnu2 HO6.out (by omega) (WbsD.mono HX1.out.sub _ _ HWB.out) HNU.out).mono ?_
    rw[<-HU.out]
    rintro r w2 ⟨rfl,hx2⟩
    have HX2:=hI hx2
    clear hx2
    go_wp2_with fail
    go_meet
    case rel=>exact⟨rfl,HX2.out⟩
   have t40:decide ((40:Int) < (M:Int))=true:=decide_eq_true (by omega)
   have HF:=hI (show U=false by rw[HU.out,decide_eq_false h40];rfl)
   go_wp2_with fail
   go_meet
   case rel=>exact⟨by rw[HF.out];rfl,Ext.refl _⟩
  have t3:(kind != 3)=true:=by simp[h3]
  have HF:=hI (show U=false by rw[HU.out];simp[h3])
  clear h3
  go_wp2_with fail
  go_meet
  case rel=>exact⟨by rw[HF.out];rfl,Ext.refl _⟩
 case rest =>
  obtain⟨rfl,hx2⟩:=hcut
  have HX2:=hI (HX1.out.trans hx2)
  have HB2:=hI (hx2.blk HB1.out)
  clear b0 b1 b2 b3 b4 b5 b6 b7 b8 b9 bf hx2 HB1
  obtain⟨b0,b1,b2,b3,b4,b5,b6,b7,b8,b9,bf⟩:=blk10r HB2.out
  cases hUc:U
  ·have HF:=hI (show R=false by rw[HR.out,hUc];rfl)
   go_wp2_with fail
   go_ret
   exact givesE_b (by rw[HF.out]) HX2.out
  rw[hUc,Bool.true_and] at HR
  clear hUc
  go_wp2_with fail
  refine(rMost_calls _ _).mono ?_
  rintro r w3 ⟨rfl,rfl⟩
  generalize mostOf kind=M at *
  go_wp2_with fail
  all_goals (go_ret;exact givesE_b (by rw[HR.out,amountB];simp_all<;>omega) HX2.out)
def bndS:Nat->Nat|0=>0|1=>1|d+2=>3 * bndS (d+1)+1
theorem schemas_ok3:(schemas.all fun l=>l.all fun a=>decide (a.name.size<=1000)&&(decide (a.words.length<=1000)&&a.words.all fun x=>decide (x.size<=1000)))=true:=by decide +kernel
theorem fitsAll_of:(l:List Ex)->(∀ x∈l,x.fits)->fitsAll l
 | [],_=>by unfold fitsAll;trivial
 | e::r,h=>by unfold fitsAll;exact⟨h e (by simp),fitsAll_of r fun x hx=>h x (by simp[hx])⟩
theorem fewAll_of:(l:List Ex)->(∀ x∈l,x.few)->fewAll l
 | [],_=>by unfold fewAll;trivial
 | e::r,h=>by unfold fewAll;exact⟨h e (by simp),fewAll_of r fun x hx=>h x (by simp[hx])⟩
theorem bareL_of:(l:List Ex)->(∀ x∈l,bareE x=true)->bareL l=true
 | [],_=>by unfold bareL;rfl
 | e::r,h=>by unfold bareL;rw[h e (by simp),bareL_of r fun x hx=>h x (by simp[hx])];rfl
theorem sizes_of {k:Nat}:(l:List Ex)->(∀ x∈l,x.size<=k)->sizes l<=l.length * k
 | [],_=>by simp[sizes]
 | e::r,h=>by
  have h1:=h e (by simp)
  have h2:=sizes_of r fun x hx=>h x (by simp[hx])
  simp only[sizes,List.length_cons,Nat.succ_mul]
  omega
structure MadeOk (d:Nat) (e:Ex):Prop where
 fits:e.fits
 few:e.few
 size:e.size<=bndS d
 bare:bareE e=true
theorem bndS_pos (d:Nat):1<=bndS (d+1):=by cases d with|zero=>exact Nat.le_refl _|succ d=>simp only[bndS];omega
theorem atom_okay {attrs:List Attr} (hs:attrs∈schemas) {names:ZB} (hn:∀ x∈names,x.size<=1000) {e:Ex} (h:AtomOf attrs names e) (d:Nat):MadeOk (d+1) e:=by
 have hat:∀ a∈attrs,_:=fun a ha=>List.all_eq_true.1 (List.all_eq_true.1 schemas_ok3 attrs hs) a ha
 obtain⟨op,name,words,lo,hi,args⟩:=e
 obtain⟨ha,h⟩:=h
 simp only[Ex.args] at ha
 subst ha
 simp only[Ex.op,Ex.name,Ex.words,Ex.lo,Ex.hi] at h
 have key:name.size<=1000/\words.length<=1000/\∀ x∈words,x.size<=1000:=by
  rcases h with ⟨h1,h2,h3,h4,h5⟩|⟨h1,h2,h3,h4,h5⟩|⟨h1,h2,h3,h4,h5⟩|⟨h1,⟨a,haa,hk,hnm,hne,hnd,hin⟩,h4,h5⟩|⟨h1,⟨a,haa,hk,hnm,hl1,hl2,hl3⟩,h3⟩
  ·subst h2 h3;exact⟨by decide,by simp,by simp⟩
  ·subst h2 h3;exact⟨by decide,by simp,by simp⟩
  ·subst h3
   refine⟨?_,by simp,by simp⟩
   rcases h2 with h2|⟨a,haa,_,h2⟩
   ·exact hn _ h2
   have:=hat a haa
   simp only[Bool.and_eq_true,decide_eq_true_eq] at this
   rw[h2];exact this.1
  ·have hq:=hat a haa
   simp only[Bool.and_eq_true,decide_eq_true_eq,List.all_eq_true] at hq
   exact⟨by rw[hnm];exact hq.1,Nat.le_trans (List.Nodup.length_le_of_subset hnd (fun x hx=>hin x hx)) hq.2.1,fun x hx=>hq.2.2 x (hin x hx)⟩
  have hq:=hat a haa
  simp only[Bool.and_eq_true,decide_eq_true_eq] at hq
  subst h3
  exact⟨by rw[hnm];exact hq.1,by simp,by simp⟩
 obtain⟨k1,k2,k3⟩:=key
 have hb:=bndS_pos d
 refine⟨?_,?_,?_,?_⟩
 ·unfold Ex.fits;exact⟨by omega,fun x hx=>by have:=k3 x hx;omega,by unfold fitsAll;trivial⟩
 ·unfold Ex.few;exact⟨by omega,by unfold fewAll;trivial⟩
 ·simp[Ex.size,sizes];omega
 unfold bareE;simp[bareL]
theorem made_okay {attrs:List Attr} (hs:attrs∈schemas) {names:ZB} (hn:∀ x∈names,x.size<=1000):(d:Nat)->(e:Ex)->MadeE attrs names d e->MadeOk d e
 | 0,e,h=>h.elim
 | d+1,e,h=>by
  rcases h with h|⟨hl,h1,h2,h3,h4,h⟩
  ·exact atom_okay hs hn h d
  have ih:=fun x hx=>made_okay hs hn d x (h x hx)
  have hne:e.args≠[]:=by intro e0;rw[e0] at hl;simp at hl
  obtain⟨d,rfl⟩:∃ k,d=k+1:=by
   cases d with
   | succ k=>exact⟨k,rfl⟩
   | zero =>
    obtain⟨x,hx⟩:=List.exists_mem_of_ne_nil _ hne
    exact(h x hx).elim
  have h3l:e.args.length<=3:=by omega
  have hop:e.op≠3:=by omega
  clear hl
  obtain⟨op,name,words,lo,hi,args⟩:=e
  simp only[Ex.args,Ex.name,Ex.words,Ex.op] at *
  subst h1 h2
  refine⟨?_,?_,?_,?_⟩
  ·unfold Ex.fits;exact⟨by show (0:Nat)<=_;omega,by simp,fitsAll_of _ fun x hx=>(ih x hx).fits⟩
  ·unfold Ex.few;exact⟨by simp,fewAll_of _ fun x hx=>(ih x hx).few⟩
  ·have:=sizes_of args fun x hx=>(ih x hx).size
   have h5:args.length * bndS (d+1)<=3 * bndS (d+1):=Nat.mul_le_mul_right _ h3l
   simp only[Ex.size,bndS];omega
  unfold bareE;rw[bareL_of _ fun x hx=>(ih x hx).bare];simp[hop]
end Go.Proofs.YtpkljcgihobaiaaGreatDoor
