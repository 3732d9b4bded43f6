/-
  Texts of the claim, joined: DFacts, Eval, PV, Made11, ExArg, RowsArg, ClaArg, PrArg.
-/
import Derived.Test.YtpkljcgihobaiaaGreatDoorVe22
import Derived.SliceStrings
namespace Go.Proofs.YtpkljcgihobaiaaGreatDoor
set_option maxRecDepth 100000
set_option maxHeartbeats 32000000
open Go.RowKit
def intCells (z:Int):List Value:=[.int .i64 z]
def FctQ (attrs:List Attr) (w0:World) (bd:Nat) (M:ZN) (w:World) (e:Ending) (w':World):Prop:=∃ (f:ZI) (a:OA) (c:Nat),e=.returned (.slice a f.length c)/\factsAll attrs f=true/\f.length<=1000/\IsIntF (mask w' M) f a f.length/\DeckAt w0 w' bd/\Chg [bd] w w'
def FctL (attrs:List Attr) (w0 w:World) (bd bs base:Nat) (o:Obj) (v i:Value) (wr:World):Prop:=∃ f:ZI,i=.int .i64 (f.length:Nat)/\f.length<=attrs.length/\(∀ j (h1:j < attrs.length) (h2:j < f.length),(domB attrs[j]).1<=f[j]/\f[j]<=(domB attrs[j]).2)/\wr.ownsRow base 3 1 v f.length (f.flatMap intCells)/\wr.heap[bs]?=some o/\DeckAt w0 wr bd/\Chg [bd] w wr
theorem schemas_err:(schemas.all fun l=>decide (schemaErr l=0)&&l.all fun a=>decide (a.name.size<=1000)&&(decide (a.words.length<=1000)&&a.words.all fun x=>decide (x.size<=1000)))=true:=by decide +kernel
theorem schema_zero {l:List Attr} (h:l∈schemas):schemaErr l=0:=by
 have:=List.all_eq_true.1 schemas_err l h
 simp only[Bool.and_eq_true,decide_eq_true_eq] at this
 exact this.1
theorem ints_own {w:World} {M:ZN} {base:Nat} {v:Value} {f:ZI} (h:w.ownsRow base 3 1 v f.length (f.flatMap intCells)) (hM:∀ k,v.ownBlock=some k->k∉M):∃ a c,v=.slice a f.length c/\IsIntF (mask w M) f a f.length:=by
 obtain⟨a,c,rfl,hr⟩:=IsRows.of_owns (f:=intCells) (fun _=>rfl) h
 refine⟨a,c,rfl,rfl,fun i hi=>?_⟩
 obtain⟨b,off,rfl,hc⟩:=hr.2.2.2 i hi
 refine⟨b,off,rfl,?_⟩
 have:=hc 0 (by simp[intCells])
 rw[mask_cell,if_neg (hM _ rfl)]
 simpa [intCells] using this
theorem own_snoc {w:World} {base:Nat} {v:Value} {f:ZI} {k:Nat} {z:Int} (hk:k=f.length) (h:w.ownsRow base 3 1 v (k+1) (f.flatMap intCells++(#[Value.int .i64 z]:Array Value).toList)):w.ownsRow base 3 1 v (f++[z]).length ((f++[z]).flatMap intCells):=by
 have:(f++[z]).length=k+1:=by simp[hk]
 rw[this]
 simpa [intCells] using h
theorem dfacts_calls {attrs:List Attr} (h0:schemaErr attrs=0) (hf:∀ x∈attrs,x.fits) {w0 w:World} {bd:Nat} (hd:DeckAt w0 w bd) (sa:OA) (sn sc:Nat) (M:ZN) (hs:IsSchema (mask w [bd]) attrs (.agg #[.slice sa sn sc])) (hM:∀ y∈M,y < w.heap.size) :
  Calls Tryz.prog 22 #[.pointer (some ⟨bd,0,none⟩),.agg #[.slice sa sn sc]] w (FctQ attrs w0 bd M w):=by
 obtain⟨q1,q2,q3⟩:=schema_attrs h0
 have hbw:=hd.lt
 have HSN:=hI (show sn=attrs.length by obtain⟨a',n',c',e',h',-⟩:=hs.parts;simp at e';omega)
 have HDOM:=hI (fun (i:Nat) (hi:i < attrs.length) W (hW:Chg [bd] w W)=>rDomain_calls attrs (.agg #[.slice sa sn sc]) i W (((hs.mono (mask_step hW (by simp))).mono (mask_sub _ _))) hf (by omega) h0 hi)
 have HAD:=hI (fun (i:Nat) (hi:i < attrs.length)=>attr_dom (q3 i hi).1)
 have HD:=hI hd
 have HM:=hI hM
 have HW0:=hI (show w0.heap.size<=w.heap.size by obtain⟨_,_,_,_,_,_,_,_,hxw,_⟩:=hd;exact hxw.size)
 clear hs hM hf q1 q3 h0 hd
 obtain⟨wa,hwa⟩:∃ wa,wa=w.alloc (.cells #[.slice sa sn sc] 31):=⟨_,rfl⟩
 have hxa:Ext w wa:=by rw[hwa];exact(Ext.refl _).alloc _
 have HB0:=hI (show wa.heap[w.heap.size]?=some (.cells #[.slice sa sn sc] 31 (0,0)) by rw[hwa];exact alloc_new w _)
 have HDA:=hI (HD.out.ext hxa)
 have HCA:=hI (hxa.chg [bd])
 clear hxa
 go_enter Tryz.func22,Tryz.ntmps22
 go_upto_region 1 with fail
 rw[<-hwa]
 clear hwa
 go_wp2_with fail
 go_loopw [5,6] (FctL attrs w0 w bd w.heap.size (w.heap.size+1) (.cells #[.slice sa sn sc] 31 (0,0))) (fun _ i _=>sn - (intOf i).toNat)
 case atStart=>exact⟨[],rfl,by simp,fun j _ h=>by simp at h,⟨rfl,Or.inl ⟨rfl,rfl⟩⟩,HB0.out,HDA.out,HCA.out⟩
 case round =>
  obtain⟨f,rfl,hk,hall,hown,hb0,hd,hc⟩:=hrel
  obtain⟨k,hkf⟩:∃ k,k=f.length:=⟨_,rfl⟩
  rw[<-hkf] at hown hk ⊢
  have HKF:=hI hkf
  have HALL:=hI hall
  have HOWN:=hI hown
  have HBB:=hI hb0
  have HDR:=hI hd
  have HCR:=hI hc
  obtain⟨e0,ef⟩:=blk1 hb0
  have HRO:=hI (show ∀ z∈rowOf u5,w.heap.size+1<=z/\z < wr.heap.size from fun z hz=>⟨(hown.lt z (mem_rowOf.1 hz)).1,(hown.lt z (mem_rowOf.1 hz)).2⟩)
  clear hkf hall hown hb0 hd hc
  by_cases hkn:k < sn
  ·have hka:k < attrs.length:=by have:=HSN.out;omega
   have t1:decide ((k:Int) < (sn:Int))=true:=decide_eq_true (by omega)
   have HDK:=hI (HDOM.out k hka wr HCR.out)
   obtain⟨hlh,hlo,hhi,-,-⟩:=HAD.out k hka
   unfold domV at HDK
   obtain⟨lo,hlov⟩:∃ lo,lo=(domB attrs[k]).1:=⟨_,rfl⟩
   obtain⟨hi,hhiv⟩:∃ hi,hi=(domB attrs[k]).2:=⟨_,rfl⟩
   rw[<-hlov,<-hhiv] at HDK
   rw[<-hlov] at hlh hlo
   rw[<-hhiv] at hlh hhi
   have HLV:=hI hlov
   have HHV:=hI hhiv
   clear hlov hhiv
   go_wp2_with fail
   refine HDK.out.mono ?_
   rintro r w1 ⟨rfl,hx1⟩
   have HD1:=hI (HDR.out.ext hx1)
   have HC1:=hI (HCR.out.then (hx1.chg [bd]))
   have HB1:=hI (hx1.blk HBB.out)
   have HO1:=hI (owns_ext HOWN.out hx1)
   have HR1:=hI (show ∀ z∈rowOf u5,w.heap.size+1<=z/\z < w1.heap.size from fun z hz=>by have:=HRO.out z hz;have:=hx1.size;omega)
   clear hx1 e0 ef HDR HCR HBB HOWN HRO HDK
   go_wp2_with fail
   refine(next_calls HD1.out (hi - lo+1) (by omega) (by omega)).mono ?_
   rintro r w2 ⟨r1,rfl,hr1,hr2,hd2,hc2⟩
   have HD2:=hI hd2
   have HC2:=hI (HC1.out.then hc2)
   have HB2:=hI (hc2.blk HB1.out (by simp;omega))
   have HO2:=hI (owns_chg HO1.out hc2 (fun q hq hm=>by have:=(HR1.out q (mem_rowOf.2 hq)).1;simp only[List.mem_singleton] at hm;omega))
   have HR2:=hI (show ∀ z∈rowOf u5,w.heap.size+1<=z/\z < w2.heap.size from fun z hz=>by have:=HR1.out z hz;have:=hc2.size;omega)
   clear hd2 hc2 HD1 HC1 HB1 HO1 HR1
   have HLH:=hI (show lo<=hi/\0<=r1/\r1 < hi - lo+1 from⟨hlh,hr1,hr2⟩)
   go_wp2_with fail
   refine(next_calls HD2.out 5 (by omega) (by omega)).mono ?_
   rintro r w3 ⟨r3,rfl,hr3,hr4,hd3,hc3⟩
   have HD3:=hI hd3
   have HC3:=hI (HC2.out.then hc3)
   have HB3:=hI (hc3.blk HB2.out (by simp;omega))
   have HO3:=hI (owns_chg HO2.out hc3 (fun q hq hm=>by have:=(HR2.out q (mem_rowOf.2 hq)).1;simp only[List.mem_singleton] at hm;omega))
   have HR3:=hI (show ∀ z∈rowOf u5,w.heap.size+1<=z/\z < w3.heap.size from fun z hz=>by have:=HR2.out z hz;have:=hc3.size;omega)
   clear hd3 hc3 HD2 HC2 HB2 HO2 HR2 hlh hlo hhi hr1 hr2
   rcases(by omega:r3=0\/r3=1\/r3=2\/(r3≠0/\r3≠1/\r3≠2)) with rfl|rfl|rfl|⟨q0,q1,q2⟩
   case' inl=>go_upto_region 14 with fail
   case' inr.inl=>go_upto_region 14 with fail
   case' inr.inr.inl =>
    go_wp2_with fail
    refine(next_calls HD3.out 12 (by omega) (by omega)).mono ?_
    rintro r w3 ⟨r5,rfl,hr5,hr6,hd3,hc3⟩
    have HD3:=hI hd3
    have HC3:=hI (HC3.out.then hc3)
    have HB3:=hI (hc3.blk HB3.out (by simp;omega))
    have HO3:=hI (owns_chg HO3.out hc3 (fun q hq hm=>by have:=(HR3.out q (mem_rowOf.2 hq)).1;simp only[List.mem_singleton] at hm;omega))
    have HR3:=hI (show ∀ z∈rowOf u5,w.heap.size+1<=z/\z < w3.heap.size from fun z hz=>by have:=HR3.out z hz;have:=hc3.size;omega)
    clear hd3 hc3
    go_upto_region 14 with fail
   case' inr.inr.inr =>
    have t0:(r3==0)=false:=by simp[q0]
    have t2:(r3==1)=false:=by simp[q1]
    have t3:(r3==2)=false:=by simp[q2]
    go_upto_region 14 with fail
   all_goals
    have hsx:=HC3.out.size
    have hblt:=blk_lt HB3.out
    go_wp2_with (at_builtin;refine wpList_append_at elemInts rfl _ _ rfl (w.heap.size+1) _ k _ rfl HO3.out _ 1 1 rfl ?f0 rfl ?f1 ?f2 ?f3 ?f4 ?_)
    case f0=>simp
    case f1=>simp[Value.oneCell']
    case f2=>unfold maxLen;omega
    case f3=>omega
    case f4=>omega
    intro v8 w8 hown8 hc8 hw8
    have HO8:=hI (own_snoc HKF.out hown8)
    have HB8:=hI (hc8.blk HB3.out (fun hm=>by have:=(HR3.out _ hm).1;omega))
    have HD8:=hI (HD3.out.chg hc8 (fun hm=>by have:=(HR3.out _ hm).1;omega) (fun y hy=>by have:=(HR3.out _ hy).1;have:=HW0.out;omega))
    have HC8:=hI (HC3.out.trans hc8 (fun y hy=>Or.inr (by have:=(HR3.out _ hy).1;omega)))
    obtain⟨a8,c8,hv8⟩:=owns_formG hown8
    subst hv8
    clear hown8 hc8 hw8
    go_wp2_with fail
    go_roundw
    case rel =>
     have hlh:=HLH.out
     refine⟨f++[_],?_,?_,fun j h1 h2=>?_,HO8.out,HB8.out,HD8.out,HC8.out⟩
     ·rw[List.length_append,<-HKF.out]
      go_num
     ·rw[List.length_append,<-HKF.out];simp;omega
     by_cases e:j < f.length
     ·rw[List.getElem_append_left e];exact HALL.out j h1 e
     have hjk:j=k:=by have:=HKF.out;simp at h2;omega
     subst hjk
     rw[List.getElem_append_right (by omega)]
     simp only[List.getElem_singleton]
     rw[<-HLV.out,<-HHV.out]
     exact⟨by omega,by omega⟩
    case measure=>simp[intOf];omega
  have t1:decide ((k:Int) < (sn:Int))=false:=decide_eq_false (by omega)
  have hk2:k=attrs.length:=by have:=HSN.out;omega
  have hos:=HOWN.out
  rw[HKF.out] at hos
  obtain⟨a',c',rfl,hii⟩:=ints_own (M:=M) hos (fun z hz hm=>by have:=(HRO.out z (mem_rowOf.2 hz)).1;have:=HM.out z hm;omega)
  have HII:=hI hii
  clear hos hii
  go_wp2_with fail
  go_ret
  exact⟨f,a',c',by rw[<-HKF.out];rfl,factsAll_of (by rw[<-HKF.out];exact hk2) HALL.out,by rw[<-HKF.out];omega,HII.out,HDR.out,HCR.out⟩
open Go.RowKit Go.Maps
structure In11 (w:World) (s:List Attr) (l:List Cla) (e:Ex) (f:ZI) (sv ev:Value) (a:OA) (n c:Nat) (fa:OA) (fn:Nat):Prop where
 sch:IsSchema w s sv
 sfit:∀ x∈s,x.fits
 slen:s.length<=1000000000000000
 clas:IsClas w l a n c
 cn:n<=1000000
 cfit:∀ x∈l,x.fit
 ex:IsEx w e ev
 few:e.few
 fit:e.fits
 slim:e.slim
 ints:IsIntF w f fa fn
 fnl:fn<=1000000000000000
 ops:HasOps w
theorem In11.ext {w w':World} {s:List Attr} {l:List Cla} {e:Ex} {f:ZI} {sv ev:Value} {a:OA} {n c:Nat} {fa:OA} {fn:Nat} (h:In11 w s l e f sv ev a n c fa fn) (hx:Ext w w'):In11 w' s l e f sv ev a n c fa fn :=
 ⟨h.sch.ext hx,h.sfit,h.slen,h.clas.ext hx,h.cn,h.cfit,h.ex.ext hx,h.few,h.fit,h.slim,h.ints.ext hx,h.fnl,h.ops.ext hx⟩
theorem In11.checked {w:World} {s:List Attr} {l:List Cla} {e:Ex} {f:ZI} {sv ev:Value} {a:OA} {n c:Nat} {fa:OA} {fn:Nat} (h:In11 w s l e f sv ev a n c fa fn) (fc:Nat):Calls Tryz.prog 31 #[sv,.slice a n c,ev,.slice fa fn fc] w (CheckedQ s l e f n w) :=
 checked_calls s l e f ev sv a n c fa fn fc w h.sch h.sfit h.slen h.clas h.cn h.cfit h.ex h.few h.fit h.ints h.fnl h.ops
theorem In11.prove {w:World} {s:List Attr} {l:List Cla} {e:Ex} {f:ZI} (ho:Ok11 s l e f) {lv:LossV} {nm:Nat} {ev:Value} (M:ZN) (hM:∀ y∈M,y < w.heap.size) (hl:IsLoss w s l f lv nm) (he:IsEx w e ev):Calls Tryz.prog 32 #[lv.val,ev] w (ProveQ (pf s l f e) M w) :=
 prove_calls s l f ho.chk ho.facts lv nm (l.length+1) 300 e ev M w ho.size (by omega) ho.tree ho.node ho.exp hM hl he
theorem In11.verify {w:World} {s:List Attr} {l:List Cla} {e:Ex} {f:ZI} (ho:Ok11 s l e f) {lv:LossV} {nm:Nat} {ev:Value} {p:Pr} {pv:PrV} (hl:IsLoss w s l f lv nm) (he:IsEx w e ev) (hp:IsPr w p pv):Calls Tryz.prog 39 #[lv.val,ev,pv.val] w (GivesE (.bool (prv s l f e p)) w) :=
 verify_calls s l f ho.chk ho.facts lv nm (l.length+1) 300 e ev p pv w ho.size (by omega) ho.tree ho.node ho.exp hl he hp
def prN:Value:=.agg #[.bool false,.int .i64 0,.slice none 0 0]
def ProvedQ (s:List Attr) (l:List Cla) (e:Ex) (f:ZI) (M:ZN) (w:World) (r:Ending) (w':World):Prop:=Ext w w'/\((evalErr s l e f≠0/\r=.returned (.tuple #[prN,.int .i64 (evalErr s l e f)]))\/(evalErr s l e f=0/\∃ pv:PrV,r=.returned (.tuple #[pv.val,.int .i64 0])/\IsPr (mask w' M) (pf s l f e) pv))
open Classical in
noncomputable def verB (s:List Attr) (l:List Cla) (e:Ex) (f:ZI) (p:Pr):Bool:=if evalErr s l e f=0 then prv s l f e p else false
theorem proved_calls (s:List Attr) (l:List Cla) (e:Ex) (f:ZI) (sv ev:Value) (a:OA) (n c:Nat) (fa:OA) (fn fc:Nat) (M:ZN) (w:World) (hi:In11 w s l e f sv ev a n c fa fn) (hM:∀ y∈M,y < w.heap.size) :
  Calls Tryz.prog 13 #[sv,.slice a n c,ev,.slice fa fn fc] w (ProvedQ s l e f M w):=by
 obtain⟨sa,sn,sc,rfl,-⟩:=hi.sch.slice
 have HCK:=hI (fun W (hW:Ext w W)=>(hi.ext hW).checked fc)
 obtain⟨aw,nw,cw,aa,na,ca,rfl,-⟩:=hi.ex.parts
 have HVA:=hI (fun (h0:evalErr s l e f=0) (lv:LossV) (N:ZN) W (hW:Ext w W) (hN:∀ y∈N,y < W.heap.size) (hl:IsLoss W s l f lv n)=>In11.prove (evalErr_ok h0) N hN hl (hi.ex.ext hW))
 unfold CheckedQ at HCK
 obtain⟨RQ,hRQ⟩:∃ RQ,RQ=ProvedQ s l e f M w:=⟨_,rfl⟩
 rw[<-hRQ]
 unfold ProvedQ at hRQ
 obtain⟨E,hE⟩:∃ E,E=evalErr s l e f:=⟨_,rfl⟩
 rw[<-hE] at HCK HVA hRQ
 obtain⟨q,hq⟩:∃ q,q=pf s l f e:=⟨_,rfl⟩
 rw[<-hq] at HVA hRQ
 have HRQ:=hI hRQ
 have HM:=hI hM
 clear hi hE hq hRQ hM
 unfold exV at *
 obtain⟨wa,hwa⟩:∃ wa,wa=((w.alloc (.cells #[.slice sa sn sc] 31)).alloc (.cells #[.int .i64 e.op,.string e.name,.slice aw nw cw,.int .i64 e.lo,.int .i64 e.hi,.slice aa na ca] 26)).alloc (.cells #[.bool false,.int .i64 0,.slice none 0 0] 40):=⟨_,rfl⟩
 have hxa:Ext w wa:=by rw[hwa];exact(((Ext.refl _).alloc _).alloc _).alloc _
 have hb0:wa.heap[w.heap.size]?=some (.cells #[.slice sa sn sc] 31 (0,0)):=by rw[hwa];exact blk_alloc (blk_alloc (alloc_new w _))
 have hb1:wa.heap[w.heap.size+1]?=some (.cells #[.int .i64 e.op,.string e.name,.slice aw nw cw,.int .i64 e.lo,.int .i64 e.hi,.slice aa na ca] 26 (0,0)):=by rw[hwa];exact blk_alloc (alloc_atR (by simp))
 have hb2:wa.heap[w.heap.size+1+1]?=some prZero:=by rw[hwa];exact alloc_atR (by simp)
 have HXA:=hI hxa
 have HB1:=hI hb1
 have HB2:=hI hb2
 obtain⟨e0,ef⟩:=blk1 hb0
 obtain⟨f0,f1,f2,f3,f4,f5,ff⟩:=blk6 hb1
 clear hxa hb0 hb1 hb2
 go_enter Tryz.func13,Tryz.ntmps13
 go_upto_region 1 with fail
 rw[<-hwa]
 clear hwa
 go_wp2_with fail
 refine(HCK.out wa HXA.out).mono ?_
 rintro r w1 ⟨hx1,⟨hz,rfl⟩|⟨hz,lv,rfl,hls⟩⟩
 ·have t1:(E != 0)=true:=by simp[hz]
  have HZ:=hI hz
  have HX1:=hI (HXA.out.trans hx1)
  have HB21:=hI (hx1.blk HB2.out)
  clear hx1 hz e0 ef f0 f1 f2 f3 f4 f5 ff HCK HVA
  unfold lossZero
  obtain⟨w2,hw2⟩:∃ w2,w2=w1.alloc (.cells #[.slice none 0 0,.map none,.slice none 0 0] 71):=⟨_,rfl⟩
  have hx2:Ext w1 w2:=by rw[hw2];exact(Ext.refl _).alloc _
  go_upto_region 2 with fail
  rw[<-hw2]
  clear hw2
  have HX2:=hI (HX1.out.trans hx2)
  have HB22:=hI (hx2.blk HB21.out)
  clear hx2 HB21 HX1
  obtain⟨r0,r1,r2,rf⟩:=blk3 HB22.out
  have hltr:=blk_lt HB22.out
  go_wp2_with fail
  obtain⟨wz,hwz⟩:∃ wz,wz=put3 w2 (w.heap.size+1+1) (.bool false) (.int .i64 0) (.slice none 0 0):=⟨_,rfl⟩
  have HZB:=hI (show wz.heap[w.heap.size+1+1]?=some (.cells #[.bool false,.int .i64 0,.slice none 0 0] 40 (0,0)) by rw[hwz];exact put3_blk HB22.out _ _ _)
  have HXZ:=hI (show Ext w wz by rw[hwz];exact(put3_chg w2 (w.heap.size+1+1) (.bool false) (.int .i64 0) (.slice none 0 0) (N:=[w.heap.size+1+1]) (by simp)).ext HX2.out (fun y hy=>by simp only[List.mem_singleton] at hy;omega))
  unfold put3 at hwz
  rw[<-hwz]
  clear hwz
  obtain⟨z0,z1,z2,zf⟩:=blk3 HZB.out
  refine bodyPost_ret (v:=.tuple #[prN,.int .i64 E]) (by simp[results,Tryz.results13,go_sem,prN,z0,z1,z2]) rfl ?_
  rw[HRQ.out]
  exact⟨HXZ.out,Or.inl ⟨HZ.out,rfl⟩⟩
 have HX1:=hI (HXA.out.trans hx1)
 have HB11:=hI (hx1.blk HB1.out)
 have HB21:=hI (hx1.blk HB2.out)
 have HLS:=hI hls
 subst hz
 obtain⟨la,ln,lc,bm,fa',fn',fc'⟩:=lv
 have HVV:=hI (fun (N:ZN) W (hW:Ext w1 W) hN=>HVA.out rfl ⟨la,ln,lc,bm,fa',fn',fc'⟩ N W (HX1.out.trans hW) hN (HLS.out.ext hW))
 clear hx1 hls e0 ef f0 f1 f2 f3 f4 f5 ff HCK HVA
 unfold LossV.val at *
 simp only at *
 go_upto_region 2 with fail
 obtain⟨y,hy⟩:∃ y:Nat,y=w1.heap.size:=⟨_,rfl⟩
 obtain⟨w2,hw2⟩:∃ w2,w2=w1.alloc (.cells #[.slice la ln lc,.map (some bm),.slice fa' fn' fc'] 71):=⟨_,rfl⟩
 have hx2:Ext w1 w2:=by rw[hw2];exact(Ext.refl _).alloc _
 have HBL:=hI (show w2.heap[y]?=some (.cells #[.slice la ln lc,.map (some bm),.slice fa' fn' fc'] 71 (0,0)) by rw[hw2,hy];exact alloc_new w1 _)
 rw[<-hw2,<-hy]
 clear hw2 hy
 have HX2:=hI (HX1.out.trans hx2)
 have HB22:=hI (hx2.blk HB21.out)
 obtain⟨f0,f1,f2,f3,f4,f5,ff⟩:=blk6 (hx2.blk HB11.out)
 obtain⟨l0,l1,l2,lf⟩:=blk3 HBL.out
 have HVW:=hI (fun (N:ZN) hN=>HVV.out N w2 hx2 hN)
 clear hx2 HB11 HB21 HVV
 go_wp2_with fail
 refine(HVW.out ((w.heap.size+1+1)::M) (fun z hz=>by
  have h1:=blk_lt HB22.out
  have h2:=HX2.out.size
  simp only[List.mem_cons] at hz
  rcases hz with rfl|hz
  ·omega
  have:=HM.out z hz;omega)).mono ?_
 rintro r w5 ⟨pv,rfl,hpv,hx5⟩
 have HX5:=hI (HX2.out.trans hx5)
 have HB25:=hI (hx5.blk HB22.out)
 have HPV:=hI hpv
 clear hx5 hpv f0 f1 f2 f3 f4 f5 ff l0 l1 l2 lf
 obtain⟨pb,pk,pa,pn,pc⟩:=pv
 unfold PrV.val
 obtain⟨r0,r1,r2,rf⟩:=blk3 HB25.out
 have hltr:=blk_lt HB25.out
 have HZ:=hI (prove_fin (w:=w) (M:=M) (pv:=⟨pb,pk,pa,pn,pc⟩) HB25.out (by omega) HX5.out HPV.out)
 simp only at HZ
 go_wp2_with fail
 obtain⟨wz,hwz⟩:∃ wz,wz=put3 w5 (w.heap.size+1+1) (.bool pb) (.int .i64 pk) (.slice pa pn pc):=⟨_,rfl⟩
 rw[<-hwz] at HZ
 unfold put3 at hwz
 rw[<-hwz]
 clear hwz
 obtain⟨z0,z1,z2,zf⟩:=blk3 HZ.out.1
 refine bodyPost_ret (v:=.tuple #[PrV.val ⟨pb,pk,pa,pn,pc⟩,.int .i64 0]) (by simp[results,Tryz.results13,go_sem,PrV.val,z0,z1,z2]) rfl ?_
 rw[HRQ.out]
 obtain⟨pv',hpe,hpi,hpx⟩:=HZ.out.2
 exact⟨hpx,Or.inr ⟨by first|rfl|trivial,pv',by
  have:(PrV.val ⟨pb,pk,pa,pn,pc⟩)=pv'.val:=by simpa using hpe
  rw[this],hpi⟩⟩
theorem verified_calls (s:List Attr) (l:List Cla) (e:Ex) (f:ZI) (p:Pr) (pv:PrV) (sv ev:Value) (a:OA) (n c:Nat) (fa:OA) (fn fc:Nat) (w:World) (hi:In11 w s l e f sv ev a n c fa fn) (hp:IsPr w p pv) :
  Calls Tryz.prog 18 #[sv,.slice a n c,ev,.slice fa fn fc,pv.val] w (GivesE (.bool (verB s l e f p)) w):=by
 obtain⟨sa,sn,sc,rfl,-⟩:=hi.sch.slice
 have HCK:=hI (fun W (hW:Ext w W)=>(hi.ext hW).checked fc)
 obtain⟨aw,nw,cw,aa,na,ca,rfl,-⟩:=hi.ex.parts
 have HVA:=hI (fun (h0:evalErr s l e f=0) (lv:LossV) W (hW:Ext w W) (hl:IsLoss W s l f lv n)=>In11.verify (evalErr_ok h0) hl (hi.ex.ext hW) (hp.ext hW))
 unfold CheckedQ at HCK
 obtain⟨EV,hEV⟩:∃ EV,EV=verB s l e f p:=⟨_,rfl⟩
 rw[<-hEV]
 unfold verB at hEV
 obtain⟨E,hE⟩:∃ E,E=evalErr s l e f:=⟨_,rfl⟩
 rw[<-hE] at HCK HVA hEV
 obtain⟨V,hV⟩:∃ V,V=prv s l f e p:=⟨_,rfl⟩
 rw[<-hV] at HVA hEV
 have HE1:=hI (show E≠0->EV=false from fun h=>by rw[hEV,if_neg h])
 have HE2:=hI (show E=0->EV=V from fun h=>by rw[hEV,if_pos h])
 clear hi hE hV hEV hp
 obtain⟨pb,pk,pa,pn,pc⟩:=pv
 unfold exV PrV.val at *
 obtain⟨wa,hwa⟩:∃ wa,wa=((w.alloc (.cells #[.slice sa sn sc] 31)).alloc (.cells #[.int .i64 e.op,.string e.name,.slice aw nw cw,.int .i64 e.lo,.int .i64 e.hi,.slice aa na ca] 26)).alloc (.cells #[.bool pb,.int .i64 pk,.slice pa pn pc] 40):=⟨_,rfl⟩
 have hxa:Ext w wa:=by rw[hwa];exact(((Ext.refl _).alloc _).alloc _).alloc _
 have hb0:wa.heap[w.heap.size]?=some (.cells #[.slice sa sn sc] 31 (0,0)):=by rw[hwa];exact blk_alloc (blk_alloc (alloc_new w _))
 have hb1:wa.heap[w.heap.size+1]?=some (.cells #[.int .i64 e.op,.string e.name,.slice aw nw cw,.int .i64 e.lo,.int .i64 e.hi,.slice aa na ca] 26 (0,0)):=by rw[hwa];exact blk_alloc (alloc_atR (by simp))
 have hb2:wa.heap[w.heap.size+1+1]?=some (.cells #[.bool pb,.int .i64 pk,.slice pa pn pc] 40 (0,0)):=by rw[hwa];exact alloc_atR (by simp)
 have HXA:=hI hxa
 have HB1:=hI hb1
 have HB2:=hI hb2
 obtain⟨e0,ef⟩:=blk1 hb0
 obtain⟨f0,f1,f2,f3,f4,f5,ff⟩:=blk6 hb1
 clear hxa hb0 hb1 hb2
 go_enter Tryz.func18,Tryz.ntmps18
 go_upto_region 1 with fail
 rw[<-hwa]
 clear hwa
 go_wp2_with fail
 refine(HCK.out wa HXA.out).mono ?_
 rintro r w1 ⟨hx1,⟨hz,rfl⟩|⟨hz,lv,rfl,hls⟩⟩
 ·have t1:(E==0)=false:=by simp[hz]
  have HF:=hI (HE1.out hz)
  have HX1:=hI (HXA.out.trans hx1)
  clear hx1 hz e0 ef f0 f1 f2 f3 f4 f5 ff HCK HVA HE1 HE2
  unfold lossZero
  go_wp2_with fail
  go_ret
  exact givesE_bool (by rw[HF.out]) (HX1.out.alloc _)
 have HX1:=hI (HXA.out.trans hx1)
 have HB11:=hI (hx1.blk HB1.out)
 have HB21:=hI (hx1.blk HB2.out)
 have HF:=hI (HE2.out hz)
 have HVV:=hI (fun W (hW:Ext w1 W)=>HVA.out hz lv W (HX1.out.trans hW) (hls.ext hW))
 subst hz
 obtain⟨la,ln,lc,bm,fa',fn',fc'⟩:=lv
 clear hx1 hls e0 ef f0 f1 f2 f3 f4 f5 ff HCK HVA HE1 HE2
 obtain⟨f0,f1,f2,f3,f4,f5,ff⟩:=blk6 HB11.out
 obtain⟨r0,r1,r2,rf⟩:=blk3 HB21.out
 have hlt1:=blk_lt HB21.out
 have hlt2:=blk_lt HB11.out
 unfold LossV.val at *
 simp only at *
 go_wp2_with fail
 refine(HVV.out _ ((Ext.refl w1).alloc _)).mono ?_
 rintro r w3 ⟨rfl,hx3⟩
 have HX3:=hI ((HX1.out.alloc _).trans hx3)
 clear hx3
 go_wp2_with fail
 go_ret
 exact givesE_bool (by rw[HF.out]) HX3.out
structure WorldV where
 sa:OA
 sn:Nat
 sc:Nat
 la:OA
 ln:Nat
 lc:Nat
 x:ExV
 fa:OA
 fn:Nat
 fc:Nat
def WorldV.val (v:WorldV):Value:=.agg #[.slice v.sa v.sn v.sc,.slice v.la v.ln v.lc,.int .i64 v.x.op,.string v.x.name,.slice v.x.aw v.x.nw v.x.cw,.int .i64 v.x.lo,.int .i64 v.x.hi,.slice v.x.aa v.x.na v.x.ca,.slice v.fa v.fn v.fc]
def WorldV.obj (v:WorldV):Obj:=.cells #[.slice v.sa v.sn v.sc,.slice v.la v.ln v.lc,.int .i64 v.x.op,.string v.x.name,.slice v.x.aw v.x.nw v.x.cw,.int .i64 v.x.lo,.int .i64 v.x.hi,.slice v.x.aa v.x.na v.x.ca,.slice v.fa v.fn v.fc] 34 (0,0)
def worldV0:WorldV:=⟨none,0,0,none,0,0,⟨0,⟨#[]⟩,none,0,0,0,0,none,0,0⟩,none,0,0⟩
structure IsWorld (w:World) (s:List Attr) (l:List Cla) (x:Ex) (f:ZI) (v:WorldV):Prop where
 mem:s∈schemas
 sch:IsSchema w s (.agg #[.slice v.sa v.sn v.sc])
 clas:IsClas w l v.la v.ln v.lc
 glok:GLOk s pcd l
 len:l.length<=6
 ex:IsEx w x v.x.val
 okay:MadeOk 4 x
 term:Term s l 4 40 1000 x
 facts:factsAll s f=true
 ints:IsIntF w f v.fa v.fn
theorem IsWorld.mono {w w':World} {s:List Attr} {l:List Cla} {x:Ex} {f:ZI} {v:WorldV} (h:IsWorld w s l x f v) (hs:Sub w w'):IsWorld w' s l x f v :=
 ⟨h.mem,h.sch.mono hs,h.clas.mono hs,h.glok,h.len,h.ex.mono hs,h.okay,h.term,h.facts,h.ints.mono hs⟩
theorem IsWorld.cls {w:World} {s:List Attr} {l:List Cla} {x:Ex} {f:ZI} {v:WorldV} (h:IsWorld w s l x f v):(clausesErr s l).2=0:=by rw[glok_good h.mem h.glok]
theorem IsWorld.ok {w:World} {s:List Attr} {l:List Cla} {x:Ex} {f:ZI} {v:WorldV} (h:IsWorld w s l x f v):Ok11 s l x f:=h.term.ok (by omega) (by omega) (by omega) h.cls h.facts
theorem IsWorld.fnl {w:World} {s:List Attr} {l:List Cla} {x:Ex} {f:ZI} {v:WorldV} (h:IsWorld w s l x f v):v.fn<=1000:=by
 rw[h.ints.1,factsAll_len h.facts];exact(schemas_ok s h.mem).2.2
theorem good_fit1 {c:Cla} (h:CGood c) (hn:c.name.size<=1000):c.fit:=by
 obtain⟨g1,g2,g3,g4,g5,g6⟩:=h
 have hl:=wbN_len c.unl
 exact⟨by omega,g1,g2,slim_of_size _ (by omega),by omega,wbFits_of_ok _ g5 (by omega)⟩
theorem IsWorld.cfit {w:World} {s:List Attr} {l:List Cla} {x:Ex} {f:ZI} {v:WorldV} (h:IsWorld w s l x f v):∀ c∈l,c.fit:=fun c hc=>good_fit1 (h.glok.1 c hc).1 (by have:=(h.glok.1 c hc).2;have h3:pcd.size=2:=rfl;omega)
theorem blk9 {w:World} {b:Nat} {v0 v1 v2 v3 v4 v5 v6 v7 v8:Value} {t:TypeId} (h:w.heap[b]?=some (.cells #[v0,v1,v2,v3,v4,v5,v6,v7,v8] t (0,0))) :
  w.cell? ⟨b,0,none⟩=some v0/\w.cell? ⟨b,1,none⟩=some v1/\w.cell? ⟨b,2,none⟩=some v2/\w.cell? ⟨b,3,none⟩=some v3/\w.cell? ⟨b,4,none⟩=some v4/\w.cell? ⟨b,5,none⟩=some v5/\w.cell? ⟨b,6,none⟩=some v6/\w.cell? ⟨b,7,none⟩=some v7/\w.cell? ⟨b,8,none⟩=some v8 /\
  (∀ j,w.frozen? ⟨b,j,none⟩=false) :=
 ⟨blk_cell h 0,blk_cell h 1,blk_cell h 2,blk_cell h 3,blk_cell h 4,blk_cell h 5,blk_cell h 6,blk_cell h 7,blk_cell h 8,fun j=>blk_free h j⟩
theorem put_blk {w:World} {b i:Nat} {cs:Array Value} {t:TypeId} (h:w.heap[b]?=some (.cells cs t (0,0))) (v:Value):(w.setCell ⟨b,i,none⟩ v).heap[b]?=some (.cells (cs.setIfInBounds i v) t (0,0)):=Go.heap_setCell_same w b i cs t v h
theorem put_chg (w:World) (b i:Nat) (v:Value):Chg [b] w (w.setCell ⟨b,i,none⟩ v):=(Chg.refl _ w).setCell (Or.inl (by simp)) _
def putE (w:World) (b:Nat) (x:ExV):World:=(((((w.setCell ⟨b,2,none⟩ (.int .i64 x.op)).setCell ⟨b,3,none⟩ (.string x.name)).setCell ⟨b,4,none⟩ (.slice x.aw x.nw x.cw)).setCell ⟨b,5,none⟩ (.int .i64 x.lo)).setCell ⟨b,6,none⟩ (.int .i64 x.hi)).setCell ⟨b,7,none⟩ (.slice x.aa x.na x.ca)
theorem putE_blk {w:World} {b:Nat} {v:WorldV} (h:w.heap[b]?=some v.obj) (x:ExV):(putE w b x).heap[b]?=some (WorldV.obj { v with x:=x }):=by
 unfold putE WorldV.obj at *
 have h1:=put_blk (i:=2) h (.int .i64 x.op)
 have h2:=put_blk (i:=3) h1 (.string x.name)
 have h3:=put_blk (i:=4) h2 (.slice x.aw x.nw x.cw)
 have h4:=put_blk (i:=5) h3 (.int .i64 x.lo)
 have h5:=put_blk (i:=6) h4 (.int .i64 x.hi)
 have h6:=put_blk (i:=7) h5 (.slice x.aa x.na x.ca)
 simpa using h6
theorem putE_chg (w:World) (b:Nat) (x:ExV):Chg [b] w (putE w b x):=by
 unfold putE
 exact(((((put_chg w b 2 _).then (put_chg _ b 3 _)).then (put_chg _ b 4 _)).then (put_chg _ b 5 _)).then (put_chg _ b 6 _)).then (put_chg _ b 7 _)
def putW (w:World) (b:Nat) (v:WorldV):World:=((putE ((w.setCell ⟨b,0,none⟩ (.slice v.sa v.sn v.sc)).setCell ⟨b,1,none⟩ (.slice v.la v.ln v.lc)) b v.x)).setCell ⟨b,8,none⟩ (.slice v.fa v.fn v.fc)
theorem putW_blk {w:World} {b:Nat} {v0:WorldV} (h:w.heap[b]?=some v0.obj) (v:WorldV):(putW w b v).heap[b]?=some v.obj:=by
 unfold putW
 have h1:=put_blk (i:=0) (cs:=#[.slice v0.sa v0.sn v0.sc,.slice v0.la v0.ln v0.lc,.int .i64 v0.x.op,.string v0.x.name,.slice v0.x.aw v0.x.nw v0.x.cw,.int .i64 v0.x.lo,.int .i64 v0.x.hi,.slice v0.x.aa v0.x.na v0.x.ca,.slice v0.fa v0.fn v0.fc]) h (.slice v.sa v.sn v.sc)
 have h2:=put_blk (i:=1) h1 (.slice v.la v.ln v.lc)
 have h3:=putE_blk (v:={ v0 with sa:=v.sa,sn:=v.sn,sc:=v.sc,la:=v.la,ln:=v.ln,lc:=v.lc }) (by simpa [WorldV.obj] using h2) v.x
 have h4:=put_blk (i:=8) (cs:=#[.slice v.sa v.sn v.sc,.slice v.la v.ln v.lc,.int .i64 v.x.op,.string v.x.name,.slice v.x.aw v.x.nw v.x.cw,.int .i64 v.x.lo,.int .i64 v.x.hi,.slice v.x.aa v.x.na v.x.ca,.slice v0.fa v0.fn v0.fc]) h3 (.slice v.fa v.fn v.fc)
 simpa [WorldV.obj] using h4
theorem putW_chg (w:World) (b:Nat) (v:WorldV):Chg [b] w (putW w b v):=by
 unfold putW
 exact(((put_chg w b 0 _).then (put_chg _ b 1 _)).then (putE_chg _ b _)).then (put_chg _ b 8 _)
def dfnNames (l:List Cla):ZB:=(l.filter (fun c=>c.kind==1)).map (·.name)
theorem dfnNames_snoc {l:List Cla} {k:Nat} (h:k < l.length):dfnNames (l.take (k+1))=dfnNames (l.take k)++(if l[k].kind==1 then [l[k].name] else []):=by
 unfold dfnNames
 rw[List.take_succ_eq_append_getElem h,List.filter_append,List.map_append]
 congr 1
 by_cases hk:(l[k].kind==1)=true
 ·simp[hk]
 simp[hk]
theorem dfnNames_ok {s:List Attr} {l:List Cla} (hc:Chk s l):∀ x∈dfnNames l,nameB x=true/\attrAt s x=none/\(defAt l x).isSome=true:=by
 intro x hx
 unfold dfnNames at hx
 obtain⟨c,hcm,rfl⟩:=List.mem_map.1 hx
 obtain⟨hcl,hk⟩:=List.mem_filter.1 hcm
 obtain⟨-,-,-,h1,h2⟩:=hc.good c hcl
 refine⟨h1,h2,?_⟩
 unfold defAt
 rw[List.findIdx?_isSome,List.any_eq_true]
 exact⟨c,hcl,by simpa using hk⟩
def NmL (wL:World) (l:List Cla) (ln:Nat) (v i:Value) (wr:World):Prop:=∃ k:Nat,i=.int .i64 ((k:Nat):Int)/\k<=ln/\wr.ownsRow wL.heap.size 9 1 v (dfnNames (l.take k)).length ((dfnNames (l.take k)).flatMap strCells)/\Ext wL wr
def MadeWQ (w:World) (e:Ending) (w':World):Prop:=∃ s l x f v bd,e=.returned (.tuple #[WorldV.val v,.pointer (some ⟨bd,0,none⟩)])/\IsWorld (mask w' [bd]) s l x f v/\DeckAt w w' bd/\Ext w w'
theorem mask_chg {W W':World} {K N:ZN} (h:Chg K W W') (hk:∀ y∈K,y∈N):Sub (mask W N) (mask W' N):=mask_grow h fun y hy=>Or.inl (hk y hy)
theorem made11_calls (da:OA) (dn dc:Nat) (w0:World) (h:IntsAt w0 da dn) (hdl:dn<=1000000000000000):Calls Tryz.prog 12 #[.slice da dn dc] w0 (MadeWQ w0):=by
 have HI:=hI h
 clear h
 obtain⟨rb,hrb⟩:∃ rb,rb=w0.heap.size:=⟨_,rfl⟩
 obtain⟨wa,hwa⟩:∃ wa,wa=w0.alloc (.cells #[.slice none 0 0,.slice none 0 0,.int .i64 0,.string ⟨#[]⟩,.slice none 0 0,.int .i64 0,.int .i64 0,.slice none 0 0,.slice none 0 0] 34):=⟨_,rfl⟩
 have HXA:=hI (show Ext w0 wa by rw[hwa];exact(Ext.refl _).alloc _)
 have HRA:=hI (show wa.heap[rb]?=some worldV0.obj by rw[hwa,hrb];exact alloc_new w0 _)
 have HRE:=hI hrb
 go_enter Tryz.func12,Tryz.ntmps12
 go_upto_region 1 with fail
 rw[<-hwa,<-hrb]
 clear hwa hrb
 go_wp2_with fail
 refine(new_callsB da dn dc w0 wa HI.out HXA.out hdl).mono ?_
 rintro e w1 ⟨bd,rfl,hd1,hx1,hbl⟩
 go_upto_region 3 with fail
 obtain⟨bw,hbw⟩:∃ bw,bw=w1.heap.size:=⟨_,rfl⟩
 obtain⟨w2,hw2⟩:∃ w2,w2=w1.alloc (.cells #[.slice none 0 0,.slice none 0 0,.int .i64 0,.string ⟨#[]⟩,.slice none 0 0,.int .i64 0,.int .i64 0,.slice none 0 0,.slice none 0 0] 34):=⟨_,rfl⟩
 have hx2:Ext w1 w2:=by rw[hw2];exact(Ext.refl _).alloc _
 have HW2:=hI (show w2.heap[bw]?=some worldV0.obj by rw[hw2,hbw];exact alloc_new w1 _)
 have HLT:=hI (show rb < bd/\bd < bw/\w0.heap.size<=rb by have:=blk_lt HRA.out;have:=hd1.lt;have:=HRE.out;omega)
 rw[<-hw2,<-hbw]
 clear hw2 hbw
 have HD2:=hI (hd1.ext hx2)
 have HX2:=hI ((HXA.out.trans hx1).trans hx2)
 have HR2:=hI (hx2.blk (hx1.blk HRA.out))
 clear hd1 hx1 hx2 hbl HXA HRA HRE
 go_wp2_with fail
 refine(next_calls HD2.out 6 (by omega) (by omega)).mono ?_
 rintro e w3 ⟨z,rfl,hz0,hz1,hd3,hc3⟩
 have HLB:=hI (show ∀ y∈[bd,bw,rb],y < w3.heap.size from fun y hy=>by
  have h1:=blk_lt HW2.out
  have h2:=HLT.out
  have h3:=hc3.size
  simp only[List.mem_cons,List.not_mem_nil,or_false] at hy
  rcases hy with rfl|rfl|rfl<;>omega)
 have HD3:=hI hd3
 have HW3:=hI (hc3.blk HW2.out (by have:=HLT.out;simp;omega))
 have HR3:=hI (hc3.blk HR2.out (by have:=HLT.out;simp;omega))
 clear hd3 hc3 HD2 HX2 HW2 HR2
 go_wp2_with fail
 refine(schema_calls z [bd,bw,rb] w3 HLB.out).mono ?_
 rintro e w4 ⟨attrs,v,rfl,hat,hsch,hx4⟩
 obtain⟨sa,sn,sc,rfl,hsn⟩:=hsch.slice
 have HAT:=hI hat
 have HW4:=hI (hx4.blk HW3.out)
 have HR4:=hI (hx4.blk HR3.out)
 have HD4:=hI (HD3.out.ext hx4)
 have HS4:=hI hsch
 have HLB4:=hI (show ∀ y∈[bd,bw,rb],y < w4.heap.size from fun y hy=>Nat.lt_of_lt_of_le (HLB.out y hy) hx4.size)
 clear hat hsch hx4 HW3 HR3 HD3 HLB hsn
 have hw4:w4.heap[bw]?=some (.cells #[.slice none 0 0,.slice none 0 0,.int .i64 0,.string ⟨#[]⟩,.slice none 0 0,.int .i64 0,.int .i64 0,.slice none 0 0,.slice none 0 0] 34 (0,0)):=HW4.out
 obtain⟨c0,c1,c2,c3,c4,c5,c6,c7,c8,cf⟩:=blk9 hw4
 go_upto_region 4 with fail
 obtain⟨w5,hw5⟩:∃ w5,w5=w4.setCell ⟨bw,0,none⟩ (.slice sa sn sc):=⟨_,rfl⟩
 have hc5:Chg [bw] w4 w5:=by rw[hw5];exact put_chg _ _ _ _
 have HW5:=hI (show w5.heap[bw]?=some (WorldV.obj { worldV0 with sa:=sa,sn:=sn,sc:=sc }) by rw[hw5];have:=put_blk (i:=0) hw4 (.slice sa sn sc);simpa [WorldV.obj,worldV0] using this)
 rw[<-hw5]
 clear hw5 hw4 c0 c1 c2 c3 c4 c5 c6 c7 c8 cf HW4
 have HR5:=hI (hc5.blk HR4.out (by have:=HLT.out;simp;omega))
 have HD5:=hI (HD4.out.chg hc5 (by have:=HLT.out;simp;omega) (fun y hy=>by simp only[List.mem_singleton] at hy;have:=HLT.out;omega))
 have HS5:=hI (HS4.out.mono (mask_chg hc5 (by simp)))
 have HLB5:=hI (show ∀ y∈[bd,bw,rb],y < w5.heap.size from fun y hy=>Nat.lt_of_lt_of_le (HLB4.out y hy) hc5.size)
 clear hc5 HR4 HD4 HS4 HLB4
 have hw5:w5.heap[bw]?=some (.cells #[.slice sa sn sc,.slice none 0 0,.int .i64 0,.string ⟨#[]⟩,.slice none 0 0,.int .i64 0,.int .i64 0,.slice none 0 0,.slice none 0 0] 34 (0,0)):=HW5.out
 obtain⟨c0,c1,c2,c3,c4,c5,c6,c7,c8,cf⟩:=blk9 hw5
 clear hw5
 go_wp2_with fail
 refine(dfacts_calls (schema_zero HAT.out) (attrs_fits HAT.out) HD5.out sa sn sc [bd,bw,rb] (HS5.out.mono (mask_less _ (by simp))) HLB5.out).mono ?_
 rintro e w6 ⟨f,fa,fc,rfl,hfa,-,hif,hd6,hc6⟩
 have HFA:=hI hfa
 have HIF6:=hI hif
 have HD6:=hI hd6
 have HW6:=hI (hc6.blk HW5.out (by have:=HLT.out;simp;omega))
 have HR6:=hI (hc6.blk HR5.out (by have:=HLT.out;simp;omega))
 have HS6:=hI (HS5.out.mono (mask_chg hc6 (by simp)))
 have HLB6:=hI (show ∀ y∈[bd,bw,rb],y < w6.heap.size from fun y hy=>Nat.lt_of_lt_of_le (HLB5.out y hy) hc6.size)
 clear hfa hif hd6 hc6 c0 c1 c2 c3 c4 c5 c6 c7 c8 cf HD5 HW5 HR5 HS5 HLB5
 have hw6:w6.heap[bw]?=some (.cells #[.slice sa sn sc,.slice none 0 0,.int .i64 0,.string ⟨#[]⟩,.slice none 0 0,.int .i64 0,.int .i64 0,.slice none 0 0,.slice none 0 0] 34 (0,0)):=HW6.out
 obtain⟨c0,c1,c2,c3,c4,c5,c6,c7,c8,cf⟩:=blk9 hw6
 obtain⟨fn,hfn⟩:∃ fn,fn=f.length:=⟨_,rfl⟩
 rw[<-hfn]
 rw[<-hfn] at HIF6
 clear hfn
 go_upto_region 5 with fail
 obtain⟨w7,hw7⟩:∃ w7,w7=w6.setCell ⟨bw,8,none⟩ (.slice fa fn fc):=⟨_,rfl⟩
 have hc7:Chg [bw] w6 w7:=by rw[hw7];exact put_chg _ _ _ _
 have HW7:=hI (show w7.heap[bw]?=some (WorldV.obj { worldV0 with sa:=sa,sn:=sn,sc:=sc,fa:=fa,fn:=fn,fc:=fc }) by rw[hw7];have:=put_blk (i:=8) hw6 (.slice fa fn fc);simpa [WorldV.obj,worldV0] using this)
 rw[<-hw7]
 clear hw7 hw6 c0 c1 c2 c3 c4 c5 c6 c7 c8 cf HW6
 have HR7:=hI (hc7.blk HR6.out (by have:=HLT.out;simp;omega))
 have HD7:=hI (HD6.out.chg hc7 (by have:=HLT.out;simp;omega) (fun y hy=>by simp only[List.mem_singleton] at hy;have:=HLT.out;omega))
 have HS7:=hI (HS6.out.mono (mask_chg hc7 (by simp)))
 have HIF7:=hI (HIF6.out.mono (mask_chg hc7 (by simp)))
 have HLB7:=hI (show ∀ y∈[bd,bw,rb],y < w7.heap.size from fun y hy=>Nat.lt_of_lt_of_le (HLB6.out y hy) hc7.size)
 clear hc7 HR6 HD6 HS6 HLB6 HIF6
 have hw7:w7.heap[bw]?=some (.cells #[.slice sa sn sc,.slice none 0 0,.int .i64 0,.string ⟨#[]⟩,.slice none 0 0,.int .i64 0,.int .i64 0,.slice none 0 0,.slice fa fn fc] 34 (0,0)):=HW7.out
 obtain⟨c0,c1,c2,c3,c4,c5,c6,c7,c8,cf⟩:=blk9 hw7
 clear hw7
 have HCL:=hI (show Calls Tryz.prog 29 #[.pointer (some ⟨bd,0,none⟩),.agg #[.slice sa sn sc],.int .i64 5,.string ⟨#[99,45]⟩] w7 (GenQ attrs pcd 5 w0 bd [bd,bw,rb] w7) from
  gclauses_calls HAT.out (schemas_ok attrs HAT.out).1 (schemas_ok attrs HAT.out).2.1 (schemas_ok attrs HAT.out).2.2 HD7.out sa sn sc [bd,bw,rb] (HS7.out.mono (mask_less _ (by simp))) HLB7.out 5 (by omega) pcd (by decide))
 go_wp2_with fail
 refine HCL.out.mono ?_
 rintro e w8 ⟨l,la,ln,lc,rfl,hcl,hgl,hl1,hl2,hd8,hc8⟩
 have HGL:=hI hgl
 have HLL:=hI (show l.length<=6 from hl2)
 have HCL8:=hI hcl
 have HLN:=hI (show ln=l.length by obtain⟨vs,hr,hl,-⟩:=hcl;rw[hr.1,hl])
 have HD8:=hI hd8
 have HW8:=hI (hc8.blk HW7.out (by have:=HLT.out;simp;omega))
 have HR8:=hI (hc8.blk HR7.out (by have:=HLT.out;simp;omega))
 have HS8:=hI (HS7.out.mono (mask_chg hc8 (by simp)))
 have HIF8:=hI (HIF7.out.mono (mask_chg hc8 (by simp)))
 have HLB8:=hI (show ∀ y∈[bd,bw,rb],y < w8.heap.size from fun y hy=>Nat.lt_of_lt_of_le (HLB7.out y hy) hc8.size)
 clear hcl hgl hl1 hl2 hd8 hc8 c0 c1 c2 c3 c4 c5 c6 c7 c8 cf HD7 HW7 HR7 HS7 HIF7 HLB7 HCL
 have hw8:w8.heap[bw]?=some (.cells #[.slice sa sn sc,.slice none 0 0,.int .i64 0,.string ⟨#[]⟩,.slice none 0 0,.int .i64 0,.int .i64 0,.slice none 0 0,.slice fa fn fc] 34 (0,0)):=HW8.out
 obtain⟨c0,c1,c2,c3,c4,c5,c6,c7,c8,cf⟩:=blk9 hw8
 go_upto_region 6 with fail
 obtain⟨w9,hw9⟩:∃ w9,w9=w8.setCell ⟨bw,1,none⟩ (.slice la ln lc):=⟨_,rfl⟩
 have hc9:Chg [bw] w8 w9:=by rw[hw9];exact put_chg _ _ _ _
 have HW9:=hI (show w9.heap[bw]?=some (WorldV.obj { worldV0 with sa:=sa,sn:=sn,sc:=sc,la:=la,ln:=ln,lc:=lc,fa:=fa,fn:=fn,fc:=fc }) by rw[hw9];have:=put_blk (i:=1) hw8 (.slice la ln lc);simpa [WorldV.obj,worldV0] using this)
 rw[<-hw9]
 clear hw9 hw8 c0 c1 c2 c3 c4 c5 c6 c7 c8 cf HW8
 have HR9:=hI (hc9.blk HR8.out (by have:=HLT.out;simp;omega))
 have HD9:=hI (HD8.out.chg hc9 (by have:=HLT.out;simp;omega) (fun y hy=>by simp only[List.mem_singleton] at hy;have:=HLT.out;omega))
 have HS9:=hI (HS8.out.mono (mask_chg hc9 (by simp)))
 have HIF9:=hI (HIF8.out.mono (mask_chg hc9 (by simp)))
 have HCL9:=hI (HCL8.out.mono (mask_chg hc9 (by simp)))
 have HLB9:=hI (show ∀ y∈[bd,bw,rb],y < w9.heap.size from fun y hy=>Nat.lt_of_lt_of_le (HLB8.out y hy) hc9.size)
 clear hc9 HR8 HD8 HS8 HLB8 HIF8 HCL8
 go_wp2_with fail
 go_loopw [6,7] (NmL w9 l ln) (fun _ i _=>ln - (intOf i).toNat)
 case atStart=>exact⟨0,rfl,by omega,World.ownsRow_nil _ _ _ _,Ext.refl _⟩
 case round =>
  obtain⟨k,rfl,hk,hown,hx⟩:=hrel
  have HOW:=hI hown
  have HX:=hI hx
  have hxs:=hx.size
  have hwr:wr.heap[bw]?=some (.cells #[.slice sa sn sc,.slice la ln lc,.int .i64 0,.string ⟨#[]⟩,.slice none 0 0,.int .i64 0,.int .i64 0,.slice none 0 0,.slice fa fn fc] 34 (0,0)):=hx.blk HW9.out
  obtain⟨c0,c1,c2,c3,c4,c5,c6,c7,c8,cf⟩:=blk9 hwr
  clear hown hx hwr
  by_cases hkn:k < ln
  ·have t1:decide ((k:Int) < (ln:Int))=true:=decide_eq_true (by omega)
   have hkm:k < l.length:=by have:=HLN.out;omega
   have hll:=HLL.out
   obtain⟨b,off,v,rfl,hcla,hrow⟩:=((HCL9.out.mono (mask_sub _ _)).ext HX.out).at hkm
   obtain⟨d0,d1,-,-,-,-,-,-,-,-⟩:=hrow.ten
   have HKD:=hI hcla.1
   have HNM:=hI hcla.2.1
   have hnl:(dfnNames (l.take k)).length<=6:=by
    unfold dfnNames
    rw[List.length_map]
    have:=List.length_filter_le (fun c:Cla=>c.kind==1) (l.take k)
    have:=List.length_take_le k l
    omega
   have ti0:(0:Int)<=(k:Int):=by omega
   have ti1:(k:Int) < (ln:Int):=by omega
   clear hcla hrow
   cases hkd:(v.kind==1)
   ·have HNS:=hI (show dfnNames (l.take (k+1))=dfnNames (l.take k) by rw[dfnNames_snoc hkm,<-HKD.out,hkd];simp)
    go_wp2_with fail
    go_roundw
    case rel=>exact⟨k+1,by go_num,by omega,by rw[HNS.out];exact HOW.out,HX.out⟩
    case measure=>simp[intOf];omega
   have HNS:=hI (show dfnNames (l.take (k+1))=dfnNames (l.take k)++[v.name] by rw[dfnNames_snoc hkm,<-HKD.out,hkd,HNM.out];simp)
   obtain⟨nk,hnk⟩:∃ nk,nk=(dfnNames (l.take k)).length:=⟨_,rfl⟩
   rw[<-hnk] at hnl
   have hown:=HOW.out
   rw[<-hnk] at hown
   have HOWK:=hI hown
   have HNK:=hI hnk
   clear hnk hown
   go_wp2_with (at_builtin;refine wpList_append_at elemStr rfl _ _ rfl w9.heap.size _ nk _ rfl HOWK.out _ 1 1 rfl ?f0 rfl ?f1 ?f2 ?f3 ?f4 ?_)
   case f0=>simp
   case f1=>simp[Value.oneCell']
   case f2=>unfold maxLen;omega
   case f3=>omega
   case f4=>omega
   intro v8 w10 hown8 hc8 hw8
   have HO8:=hI (show w10.ownsRow w9.heap.size 9 1 v8 (dfnNames (l.take (k+1))).length ((dfnNames (l.take (k+1))).flatMap strCells) by
    rw[HNS.out,List.length_append,<-HNK.out]
    simpa [strCells] using hown8)
   have HX8:=hI (hc8.ext HX.out (fun y hy=>(HOW.out.lt y (mem_rowOf.1 hy)).1))
   obtain⟨a8,c8',hv8⟩:=owns_formG hown8
   subst hv8
   clear hown8 hc8 hw8
   go_wp2_with fail
   go_roundw
   case rel=>exact⟨k+1,by go_num,by omega,HO8.out,HX8.out⟩
   case measure=>simp[intOf];omega
  have t1:decide ((k:Int) < (ln:Int))=false:=decide_eq_false (by omega)
  obtain rfl:k=ln:=by omega
  obtain⟨ns,hns⟩:∃ ns,ns=dfnNames l:=⟨_,rfl⟩
  have hCK:=chk_of (show (clausesErr attrs l).2=0 by rw[glok_good HAT.out HGL.out])
  have HCK:=hI hCK
  have HNO:=hI (show ∀ x∈ns,nameB x=true/\attrAt attrs x=none/\(defAt l x).isSome=true by rw[hns];exact dfnNames_ok hCK)
  have hnn:ns.length<=1000:=by
   rw[hns];unfold dfnNames
   rw[List.length_map]
   have:=List.length_filter_le (fun c:Cla=>c.kind==1) l
   have:=HLL.out
   omega
  obtain⟨na',nc',rfl,hstr,-⟩:=strs_of_owns (l:=ns) (by
   have h:=HOW.out
   rw[List.take_of_length_le (by have:=HLN.out;omega),<-hns] at h
   exact h) [bd,bw,rb] HLB9.out
  obtain⟨nn,hnnv⟩:∃ nn,nn=ns.length:=⟨_,rfl⟩
  rw[<-hnnv] at hstr hnn ⊢
  have HSTR:=hI hstr
  have HNN:=hI hnnv
  have HDR:=hI (HD9.out.ext HX.out)
  have HSR:=hI (HS9.out.mono (mask_ext _ HX.out))
  have HCR:=hI (HCL9.out.mono (mask_ext _ HX.out))
  have HIR:=hI (HIF9.out.mono (mask_ext _ HX.out))
  have HWR:=hI (HX.out.blk HW9.out)
  have HRR:=hI (HX.out.blk HR9.out)
  have HLR:=hI (show ∀ y∈[bd,bw,rb],y < wr.heap.size from fun y hy=>Nat.lt_of_lt_of_le (HLB9.out y hy) HX.out.size)
  have HDX:=hI (show Calls Tryz.prog 24 #[.pointer (some ⟨bd,0,none⟩),.agg #[.slice sa sn sc],.slice na' nn nc',.int .i64 4] wr (MadeQ (MadeE attrs ns 4) w0 bd [bd,bw,rb] wr) from by
   rw[HNN.out]
   exact dexpr_calls attrs ns (schemas_ok attrs HAT.out).1 (schemas_ok attrs HAT.out).2.1 (schemas_ok attrs HAT.out).2.2 (by omega) 3 (by omega) HDR.out sa sn sc na' ns.length nc' [bd,bw,rb] (HSR.out.mono (mask_less _ (by simp))) (by have:=HSTR.out;rw[HNN.out] at this;exact this.mono (mask_less _ (by simp))) HLR.out)
  clear hns hCK hstr hnnv HOW HX hxs HD9 HS9 HCL9 HIF9 HW9 HR9 HLB9 hnn
  go_wp2_with fail
  refine HDX.out.mono ?_
  rintro r w11 ⟨x,xv,rfl,hmx,hix,hd11,hc11⟩
  have HMX:=hI hmx
  have HIX11:=hI hix
  have HD11:=hI hd11
  have HS11:=hI (HSR.out.mono (mask_chg hc11 (by simp)))
  have HC11:=hI (HCR.out.mono (mask_chg hc11 (by simp)))
  have HI11:=hI (HIR.out.mono (mask_chg hc11 (by simp)))
  have HW11:=hI (hc11.blk HWR.out (by have:=HLT.out;simp;omega))
  have HR11:=hI (hc11.blk HRR.out (by have:=HLT.out;simp;omega))
  have HL11:=hI (show ∀ y∈[bd,bw,rb],y < w11.heap.size from fun y hy=>Nat.lt_of_lt_of_le (HLR.out y hy) hc11.size)
  clear hmx hix hd11 hc11 c0 c1 c2 c3 c4 c5 c6 c7 c8 cf HDX HDR HSR HCR HIR HWR HRR HLR
  have hw11:w11.heap[bw]?=some (.cells #[.slice sa sn sc,.slice la k lc,.int .i64 0,.string ⟨#[]⟩,.slice none 0 0,.int .i64 0,.int .i64 0,.slice none 0 0,.slice fa fn fc] 34 (0,0)):=HW11.out
  obtain⟨c0,c1,c2,c3,c4,c5,c6,c7,c8,cf⟩:=blk9 hw11
  unfold ExV.val exV
  go_upto_region 13 with fail
  obtain⟨w12,hw12⟩:∃ w12,w12=putE w11 bw xv:=⟨_,rfl⟩
  have hc12:Chg [bw] w11 w12:=by rw[hw12];exact putE_chg _ _ _
  have HW12:=hI (show w12.heap[bw]?=some (WorldV.obj { worldV0 with sa:=sa,sn:=sn,sc:=sc,la:=la,ln:=k,lc:=lc,x:=xv,fa:=fa,fn:=fn,fc:=fc }) by rw[hw12];exact putE_blk (v:={ worldV0 with sa:=sa,sn:=sn,sc:=sc,la:=la,ln:=k,lc:=lc,fa:=fa,fn:=fn,fc:=fc }) HW11.out xv)
  unfold putE at hw12
  rw[<-hw12]
  clear hw12 hw11 c0 c1 c2 c3 c4 c5 c6 c7 c8 cf HW11
  have HR12:=hI (hc12.blk HR11.out (by have:=HLT.out;simp;omega))
  have HD12:=hI (HD11.out.chg hc12 (by have:=HLT.out;simp;omega) (fun y hy=>by simp only[List.mem_singleton] at hy;have:=HLT.out;omega))
  have HS12:=hI (HS11.out.mono (mask_chg hc12 (by simp)))
  have HI12:=hI (HI11.out.mono (mask_chg hc12 (by simp)))
  have HC12:=hI (HC11.out.mono (mask_chg hc12 (by simp)))
  have HX12:=hI (HIX11.out.mono (mask_chg hc12 (by simp)))
  have HL12:=hI (show ∀ y∈[bd,bw,rb],y < w12.heap.size from fun y hy=>Nat.lt_of_lt_of_le (HL11.out y hy) hc12.size)
  clear hc12 HR11 HD11 HS11 HI11 HC11 HIX11 HL11
  have hw12:w12.heap[bw]?=some (.cells #[.slice sa sn sc,.slice la k lc,.int .i64 xv.op,.string xv.name,.slice xv.aw xv.nw xv.cw,.int .i64 xv.lo,.int .i64 xv.hi,.slice xv.aa xv.na xv.ca,.slice fa fn fc] 34 (0,0)):=HW12.out
  obtain⟨c0,c1,c2,c3,c4,c5,c6,c7,c8,cf⟩:=blk9 hw12
  have HMO:=hI (made_okay HAT.out (fun y hy=>by have:=nameB_le (HNO.out y hy).1;omega) 4 x HMX.out)
  have HXP:=hI (show Calls Tryz.prog 30 #[.slice la k lc,.agg #[.int .i64 xv.op,.string xv.name,.slice xv.aw xv.nw xv.cw,.int .i64 xv.lo,.int .i64 xv.hi,.slice xv.aa xv.na xv.ca]] w12 (GivesE (.int .i64 (expanded l x)) w12) from
   rExpanded_calls l la k lc (by have:=HLL.out;have:=HLN.out;omega) (fun c hc=>by have:=(HGL.out.1 c hc).1.2.2.1;omega) x xv.val w12 (by have:=HMO.out.size;simp[bndS] at this;omega) (HC12.out.mono (mask_sub _ _)) (HX12.out.mono (mask_sub _ _)))
  obtain⟨E,hE⟩:∃ E,E=expanded l x:=⟨_,rfl⟩
  rw[<-hE] at HXP
  have HE:=hI hE
  clear hE hw12
  go_wp2_with fail
  refine HXP.out.mono ?_
  rintro r w13 ⟨rfl,hx13⟩
  have HW13:=hI (hx13.blk HW12.out)
  have HR13:=hI (hx13.blk HR12.out)
  have HD13:=hI (HD12.out.ext hx13)
  have HS13:=hI (HS12.out.mono (mask_ext _ hx13))
  have HI13:=hI (HI12.out.mono (mask_ext _ hx13))
  have HC13:=hI (HC12.out.mono (mask_ext _ hx13))
  have HX13:=hI (HX12.out.mono (mask_ext _ hx13))
  have HL13:=hI (show ∀ y∈[bd,bw,rb],y < w13.heap.size from fun y hy=>Nat.lt_of_lt_of_le (HL12.out y hy) hx13.size)
  clear hx13 c0 c1 c2 c3 c4 c5 c6 c7 c8 cf HXP HW12 HR12 HD12 HS12 HI12 HC12 HX12 HL12
  have hw13:w13.heap[bw]?=some (.cells #[.slice sa sn sc,.slice la k lc,.int .i64 xv.op,.string xv.name,.slice xv.aw xv.nw xv.cw,.int .i64 xv.lo,.int .i64 xv.hi,.slice xv.aa xv.na xv.ca,.slice fa fn fc] 34 (0,0)):=HW13.out
  obtain⟨c0,c1,c2,c3,c4,c5,c6,c7,c8,cf⟩:=blk9 hw13
  have hTM:=made_tree HAT.out (fun y hy=>(HNO.out y hy).1) 4 x HMX.out
  have hND:=made_nodes HAT.out (l:=l) (fun y hy=>(HNO.out y hy).2) 4 x HMX.out
  have HTM:=hI (And.intro hTM hND)
  clear hTM hND
  by_cases hbig:1000 < E
  case pos =>
   have t2:decide ((1000:Int) < (E:Int))=true:=decide_eq_true (by omega)
   go_upto_region 15 with fail
   obtain⟨w14,hw14⟩:∃ w14,w14=putE w13 bw ⟨1,⟨#[]⟩,none,0,0,0,0,none,0,0⟩:=⟨_,rfl⟩
   have hc14:Chg [bw] w13 w14:=by rw[hw14];exact putE_chg _ _ _
   have HW14:=hI (show w14.heap[bw]?=some (WorldV.obj { worldV0 with sa:=sa,sn:=sn,sc:=sc,la:=la,ln:=k,lc:=lc,x:=⟨1,⟨#[]⟩,none,0,0,0,0,none,0,0⟩,fa:=fa,fn:=fn,fc:=fc }) by rw[hw14];exact putE_blk (v:={ worldV0 with sa:=sa,sn:=sn,sc:=sc,la:=la,ln:=k,lc:=lc,x:=xv,fa:=fa,fn:=fn,fc:=fc }) HW13.out _)
   unfold putE at hw14
   rw[<-hw14]
   clear hw14 hw13 c0 c1 c2 c3 c4 c5 c6 c7 c8 cf
   have HIW:=hI (show IsWorld (mask w14 [bd,bw,rb]) attrs l (.mk 1 ⟨#[]⟩ [] 0 0 []) f ⟨sa,sn,sc,la,k,lc,⟨1,⟨#[]⟩,none,0,0,0,0,none,0,0⟩,fa,fn,fc⟩ from⟨HAT.out,HS13.out.mono (mask_chg hc14 (by simp)),HC13.out.mono (mask_chg hc14 (by simp)),HGL.out,HLL.out,isEx_plain _ 1 0 0 _,made_okay HAT.out (names:=[]) (by simp) 4 _ (MadeE.atom ⟨rfl,Or.inl ⟨rfl,rfl,rfl,rfl,rfl⟩⟩ (by omega)),(term_true attrs l true).weak (by omega) (by omega) (by omega),HFA.out,HI13.out.mono (mask_chg hc14 (by simp))⟩)
   have HRZ:=hI (hc14.blk HR13.out (by have:=HLT.out;simp;omega))
   have HDZ:=hI (HD13.out.chg hc14 (by have:=HLT.out;simp;omega) (fun y hy=>by simp only[List.mem_singleton] at hy;have:=HLT.out;omega))
   clear hc14
   have hwz:w14.heap[bw]?=some (.cells #[.slice sa sn sc,.slice la k lc,.int .i64 1,.string ⟨#[]⟩,.slice none 0 0,.int .i64 0,.int .i64 0,.slice none 0 0,.slice fa fn fc] 34 (0,0)):=HW14.out
   obtain⟨c0,c1,c2,c3,c4,c5,c6,c7,c8,cf⟩:=blk9 hwz
   have hrz:w14.heap[rb]?=some (.cells #[.slice none 0 0,.slice none 0 0,.int .i64 0,.string ⟨#[]⟩,.slice none 0 0,.int .i64 0,.int .i64 0,.slice none 0 0,.slice none 0 0] 34 (0,0)):=HRZ.out
   obtain⟨r0,r1,r2,r3,r4,r5,r6,r7,r8,rf⟩:=blk9 hrz
   clear hwz hrz
   go_wp2_with fail
   obtain⟨wz,hwz⟩:∃ wz,wz=putW w14 rb ⟨sa,sn,sc,la,k,lc,⟨1,⟨#[]⟩,none,0,0,0,0,none,0,0⟩,fa,fn,fc⟩:=⟨_,rfl⟩
   have hcz:Chg [rb] w14 wz:=by rw[hwz];exact putW_chg _ _ _
   have HZ:wz.heap[rb]?=some (.cells #[.slice sa sn sc,.slice la k lc,.int .i64 1,.string ⟨#[]⟩,.slice none 0 0,.int .i64 0,.int .i64 0,.slice none 0 0,.slice fa fn fc] 34 (0,0)):=by rw[hwz];exact putW_blk (v0:=worldV0) HRZ.out ⟨sa,sn,sc,la,k,lc,⟨1,⟨#[]⟩,none,0,0,0,0,none,0,0⟩,fa,fn,fc⟩
   unfold putW putE at hwz
   rw[<-hwz]
   clear hwz c0 c1 c2 c3 c4 c5 c6 c7 c8 cf r0 r1 r2 r3 r4 r5 r6 r7 r8 rf
   obtain⟨z0,z1,z2,z3,z4,z5,z6,z7,z8,zf⟩:=blk9 HZ
   have hdz:=HDZ.out.chg hcz (by have:=HLT.out;simp;omega) (fun y hy=>by simp only[List.mem_singleton] at hy;have:=HLT.out;omega)
   refine bodyPost_ret (v:=.tuple #[WorldV.val ⟨sa,sn,sc,la,k,lc,⟨1,⟨#[]⟩,none,0,0,0,0,none,0,0⟩,fa,fn,fc⟩,.pointer (some ⟨bd,0,none⟩)]) (by simp[results,Tryz.results12,go_sem,WorldV.val,z0,z1,z2,z3,z4,z5,z6,z7,z8]) rfl ?_
   exact⟨attrs,l,_,f,_,bd,rfl,(HIW.out.mono (mask_chg hcz (by simp))).mono (mask_less _ (by simp)),hdz,by obtain⟨_,_,_,_,_,_,_,_,hxw,_⟩:=hdz;exact hxw⟩
  have t2:decide ((1000:Int) < (E:Int))=false:=decide_eq_false (by omega)
  have HIW:=hI (show IsWorld (mask w13 [bd,bw,rb]) attrs l x f ⟨sa,sn,sc,la,k,lc,xv,fa,fn,fc⟩ from⟨HAT.out,HS13.out,HC13.out,HGL.out,HLL.out,HX13.out,HMO.out,⟨HTM.out.1.1,HTM.out.1.2,by have:=HMO.out.size;simpa [bndS] using this,HTM.out.2,by rw[<-HE.out];omega⟩,HFA.out,HI13.out⟩)
  clear c0 c1 c2 c3 c4 c5 c6 c7 c8 cf hw13
  have hwz:w13.heap[bw]?=some (.cells #[.slice sa sn sc,.slice la k lc,.int .i64 xv.op,.string xv.name,.slice xv.aw xv.nw xv.cw,.int .i64 xv.lo,.int .i64 xv.hi,.slice xv.aa xv.na xv.ca,.slice fa fn fc] 34 (0,0)):=HW13.out
  obtain⟨c0,c1,c2,c3,c4,c5,c6,c7,c8,cf⟩:=blk9 hwz
  have hrz:w13.heap[rb]?=some (.cells #[.slice none 0 0,.slice none 0 0,.int .i64 0,.string ⟨#[]⟩,.slice none 0 0,.int .i64 0,.int .i64 0,.slice none 0 0,.slice none 0 0] 34 (0,0)):=HR13.out
  obtain⟨r0,r1,r2,r3,r4,r5,r6,r7,r8,rf⟩:=blk9 hrz
  clear hwz hrz
  go_wp2_with fail
  obtain⟨wz,hwz⟩:∃ wz,wz=putW w13 rb ⟨sa,sn,sc,la,k,lc,xv,fa,fn,fc⟩:=⟨_,rfl⟩
  have hcz:Chg [rb] w13 wz:=by rw[hwz];exact putW_chg _ _ _
  have HZ:wz.heap[rb]?=some (.cells #[.slice sa sn sc,.slice la k lc,.int .i64 xv.op,.string xv.name,.slice xv.aw xv.nw xv.cw,.int .i64 xv.lo,.int .i64 xv.hi,.slice xv.aa xv.na xv.ca,.slice fa fn fc] 34 (0,0)):=by rw[hwz];exact putW_blk (v0:=worldV0) HR13.out ⟨sa,sn,sc,la,k,lc,xv,fa,fn,fc⟩
  unfold putW putE at hwz
  rw[<-hwz]
  clear hwz c0 c1 c2 c3 c4 c5 c6 c7 c8 cf r0 r1 r2 r3 r4 r5 r6 r7 r8 rf
  obtain⟨z0,z1,z2,z3,z4,z5,z6,z7,z8,zf⟩:=blk9 HZ
  have hdz:=HD13.out.chg hcz (by have:=HLT.out;simp;omega) (fun y hy=>by simp only[List.mem_singleton] at hy;have:=HLT.out;omega)
  refine bodyPost_ret (v:=.tuple #[WorldV.val ⟨sa,sn,sc,la,k,lc,xv,fa,fn,fc⟩,.pointer (some ⟨bd,0,none⟩)]) (by simp[results,Tryz.results12,go_sem,WorldV.val,z0,z1,z2,z3,z4,z5,z6,z7,z8]) rfl ?_
  exact⟨attrs,l,_,f,_,bd,rfl,(HIW.out.mono (mask_chg hcz (by simp))).mono (mask_less _ (by simp)),hdz,by obtain⟨_,_,_,_,_,_,_,_,hxw,_⟩:=hdz;exact hxw⟩
open Go.ChangeShapes Go.WideShapes Go.ChangeAt Go.RowKit
theorem spot_none {W:World} {a:Addr} {v:Value} (h:W.cell? a=some v):a.spot=none:=by
 cases hs:a.spot with
 | none=>rfl
 | some x =>
  simp only[World.cell?,hs] at h
  split at h<;>simp at h
theorem add_plain (b off i:Nat):(⟨b,off,none⟩:Addr).add i=⟨b,off+i,none⟩:=by
 unfold Addr.add
 split<;>simp_all
theorem list_of {α:Type} {Q:Nat->α->Prop}:(n:Nat)->(∀ i,i < n->∃ x,Q i x)->∃ l:List α,l.length=n/\∀ i (h:i < l.length),Q i l[i]
 | 0,_=>⟨[],rfl,fun i h=>by simp at h⟩
 | n+1,h=>by
  obtain⟨l,h1,h2⟩:=list_of n (fun i hi=>h i (by omega))
  obtain⟨x,hx⟩:=h n (by omega)
  refine⟨l++[x],by simp[h1],fun i hi=>?_⟩
  by_cases e:i < l.length
  ·rw[List.getElem_append_left e];exact h2 i e
  have:i=n:=by simp at hi;omega
  subst this
  rw[List.getElem_append_right (by omega)]
  simpa using hx
theorem weights_each {H:Type} {tE:TypeId}:∀ (l:List (DataW H×List MemPlace)),(DataW.weightsAll Tryz.prog tE (l.map (·.1))).all (·<=reachBytes)=true->∀ y∈l,(y.1.weights Tryz.prog tE).all (·<=reachBytes)=true:=by
 intro l
 induction l with
 | nil=>intro _ y hy;simp at hy
 | cons z r ih2 =>
  intro h1 y hy
  simp only[List.map_cons,DataW.weightsAll,List.all_append,Bool.and_eq_true] at h1
  rcases List.mem_cons.1 hy with rfl|hy
  ·exact h1.1
  exact ih2 h1.2 y hy
theorem rows_arg {α:Type} {H:Type} {enc:TypeId×Value->H} {W:World} {tS tE:TypeId} {m:Nat} (f:α->List Value) (hf:∀ y,(f y).length=m) (hm0:0 < m) (uSl:Tryz.prog.underlying tS=some (.slice tE)) (cE:Tryz.prog.cellsOf tE=m) {B:Nat} (bE:Tryz.prog.bytesOf tE=B) (hB:0 < B) {Q:α->Prop} {fuel:Nat}
  (el:∀ k,k < fuel->∀ (cs:List Value) (x:DataW H×List MemPlace),DataW.trod enc Tryz.prog W 0 (fun _=>true) true k tE cs=some x->(x.1.weights Tryz.prog tE).all (·<=reachBytes)=true->∃ y,cs=f y/\Q y)
  {c:Value} {y:DataW H×List MemPlace} (h:DataW.trod enc Tryz.prog W 0 (fun _=>true) true fuel tS [c]=some y) (hw:(y.1.weights Tryz.prog tS).all (·<=reachBytes)=true) :
  ∃ ys a n k,c=.slice a n k/\IsRows W m f ys a n k/\(∀ z∈ys,Q z)/\n<=1000000000000000:=by
 have hr:=reachBytes_lt
 rcases DataW.trod_slice uSl h with ⟨hc5,_⟩|⟨a,len,cap,elems,rest,k,hk,hc5,hx5,_,hl,hm,hel,hev,hsp,_⟩
 ·simp only[List.cons.injEq,and_true] at hc5
  subst hc5
  exact⟨[],none,0,0,rfl,⟨rfl,Nat.le_refl 0,Or.inl ⟨rfl,rfl⟩,fun i hi=>by simp at hi⟩,by simp,by omega⟩
 simp only[List.cons.injEq,and_true] at hc5
 subst hc5
 rw[hx5] at hw
 simp only[DataW.weights,uSl,List.all_cons,List.all_append,Bool.and_eq_true,decide_eq_true_eq,bE] at hw
 obtain⟨w5,w6,_⟩:=hw
 have each:∀ i,i < len->∃ t:α,(∀ j,j < m->W.cell? ((a.add (i * m)).add j)=(f t)[j]?)/\Q t:=by
  intro i hi
  have h1:=hev i hi
  rw[List.getElem?_eq_getElem (by omega),cE,Option.bind_eq_some_iff] at h1
  obtain⟨cs',h2,h3⟩:=h1
  obtain⟨t,h4,h5⟩:=el k (by omega) cs' _ h3 (weights_each elems w6 _ (List.getElem_mem _))
  subst h4
  exact⟨t,fun j hj=>(World.cells?_some h2).2.2 j hj,h5⟩
 have hok:OkAddr (some a) cap:=by
  by_cases h0:cap=0
  ·exact Or.inl ⟨h0,h0⟩
  have hcell:∃ v,W.cell? a=some v:=by
   by_cases h1:0 < len
   ·obtain⟨t,h2,_⟩:=each 0 h1
    have:=h2 0 hm0
    rw[show (a.add (0 * m)).add 0=a by simp[Addr.add]] at this
    exact⟨_,by rw[this,List.getElem?_eq_getElem (by rw[hf];exact hm0)]⟩
   obtain⟨h3,h4⟩:=hsp rfl
   have h5:=h4 0 (by omega)
   rw[List.getElem?_eq_getElem (by omega),cE,Option.bind_eq_some_iff] at h5
   obtain⟨cs',h6,_⟩:=h5
   obtain⟨_,h8,h7⟩:=World.cells?_some h6
   have h9:=h7 0 hm0
   rw[show (a.add ((len+0) * m)).add 0=a by simp[Addr.add,show len=0 by omega]] at h9
   exact⟨cs'[0]'(by omega),by rw[h9,List.getElem?_eq_getElem (by omega)]⟩
  obtain⟨v,hv⟩:=hcell
  have:=spot_none hv
  obtain⟨b,off,sp⟩:=a
  simp only at this
  subst this
  exact Or.inr ⟨b,off,rfl⟩
 obtain⟨l,hl1,hl2⟩:=list_of len each
 refine⟨l,some a,len,cap,rfl,⟨hl1.symm,hl,hok,fun i hi=>?_⟩,fun t ht=>?_,?_⟩
 ·have h2:=(hl2 0 (by omega)).1 0 hm0
  rw[show (a.add (0 * m)).add 0=a by simp[Addr.add]] at h2
  have hsp2:=spot_none (v:=(f l[0])[0]'(by rw[hf];exact hm0)) (by rw[h2];exact List.getElem?_eq_getElem _)
  obtain⟨b,off,sp⟩:=a
  simp only at hsp2
  subst hsp2
  refine⟨b,off,rfl,fun j hj=>?_⟩
  have:=(hl2 i hi).1 j (by rw[hf] at hj;exact hj)
  rw[add_plain,add_plain,List.getElem?_eq_getElem hj] at this
  exact this
 ·obtain⟨i,hi,rfl⟩:=List.getElem_of_mem ht
  exact(hl2 i hi).2
 have e1:(elems.map (·.1)).length=len:=by simp;omega
 have e2:(elems.map (·.1)).length<=((elems.map (·.1)).length+(rest.map (·.1)).length) * B:=Nat.le_trans (Nat.le_add_right _ _) (Nat.le_mul_of_pos_right _ hB)
 omega
theorem list3 {α:Type} (l:List α) (h:l.length=3):∃ a b c,l=[a,b,c]:=by
 rcases l with _|⟨a,_|⟨b,_|⟨c,_|⟨d,r⟩⟩⟩⟩<;>simp at h
 exact⟨a,b,c,rfl⟩
theorem prFields_are:(Tryz.prog.underlying 40).bind (fun u=>match u with|.struct fs=>some (fs.toList.map (fun f=>(f.type,f.offset)))|_=>none)=some [(4,0),(3,1),(38,2)]:=by kernel_rfl
theorem uPr:∃ fs:Array Field,Tryz.prog.underlying 40=some (.struct fs)/\fs.toList.map (fun f=>(f.type,f.offset))=[(4,0),(3,1),(38,2)]:=by
 have h:=prFields_are
 generalize Tryz.prog.underlying 40=U at *
 match U,h with
 | some (.struct fs),h=>exact⟨fs,rfl,by simpa using h⟩
theorem cPr:Tryz.prog.cellsOf 40=3:=by kernel_rfl
theorem cPrs:Tryz.prog.cellsOf 38=1:=by kernel_rfl
theorem cBo:Tryz.prog.cellsOf 4=1:=by kernel_rfl
theorem uBo:Tryz.prog.underlying 4=some .bool:=by kernel_rfl
theorem uPrs:Tryz.prog.underlying 38=some (.slice 40):=by kernel_rfl
theorem bPr:Tryz.prog.bytesOf 40=40:=by kernel_rfl
inductive Pr.fit:Pr->Prop
 | mk {v:Bool} {k:Int} {ps:List Pr} (hn:ps.length<=1000000000000000) (h:∀ q∈ps,q.fit):Pr.fit (.mk v k ps)
theorem prs_read {W:World} {vs:List PrV} {a:OA} {n c:Nat} (v:Bool) (k:Int) (h:IsRows W 3 PrV.cells vs a n c) (hn:n<=1000000000000000) (hq:∀ v∈vs,∃ p,IsPr W p v/\p.fit):∃ p,IsPr W p ⟨v,k,a,n,c⟩/\p.fit:=by
 obtain⟨l,hl1,hl2⟩:=list_of vs.length (Q:=fun i p=>∀ h:i < vs.length,IsPr W p (vs[i]'h)/\p.fit) (fun i hi=>by
  obtain⟨p,hp⟩:=hq _ (List.getElem_mem hi)
  exact⟨p,fun _=>hp⟩)
 refine⟨.mk v k l,.mk vs h hl1.symm fun i h1 h2=>(hl2 i h1 h2).1,.mk (by have:=h.1;omega) fun q hq=>?_⟩
 obtain⟨i,hi,rfl⟩:=List.getElem_of_mem hq
 exact(hl2 i hi (by omega)).2
theorem pr_arg {H:Type} {enc:TypeId×Value->H} {W:World}:∀ (fuel:Nat) (cs:List Value) (x:DataW H×List MemPlace),DataW.trod enc Tryz.prog W 0 (fun _=>true) true fuel 40 cs=some x->(x.1.weights Tryz.prog 40).all (·<=reachBytes)=true ->
  ∃ v:PrV,cs=v.cells/\∃ p:Pr,IsPr W p v/\p.fit:=by
 intro fuel
 induction fuel using Nat.strongRecOn with
 | _ fuel ih =>
  intro cs x h hw
  obtain⟨fs,uE,are⟩:=uPr
  obtain⟨xs,n,rfl,rfl,hlen,hxl,hf⟩:=DataW.trod_struct uE h
  have e6:fs.size=3:=by have:=congrArg List.length are;simpa using this
  rw[e6] at hxl
  rw[cPr] at hlen
  obtain⟨c0,c1,c2,rfl⟩:=list3 cs hlen
  obtain⟨x0,x1,x2,rfl⟩:=list3 xs hxl
  obtain⟨f0,g0,t0,o0⟩:=op_field 0 _ _ (by rw[are];rfl)
  obtain⟨f1,g1,t1,o1⟩:=op_field 1 _ _ (by rw[are];rfl)
  obtain⟨f2,g2,t2,o2⟩:=op_field 2 _ _ (by rw[are];rfl)
  have r0:=hf 0 f0 g0
  have r1:=hf 1 f1 g1
  have r2:=hf 2 f2 g2
  rw[t0,o0,cBo] at r0
  rw[t1,o1,cI] at r1
  rw[t2,o2,cPrs] at r2
  simp only[List.drop_zero,List.drop_succ_cons,List.take_succ_cons,List.take_zero,List.getElem?_cons_zero,List.getElem?_cons_succ] at r0 r1 r2
  have hty:fs.toList.map (·.type)=[4,3,38]:=by
   have:=congrArg (List.map Prod.fst) are
   rw[List.map_map] at this
   exact this
  rw[DataW.weights,uE] at hw
  simp only[hty,List.map_cons,List.map_nil,DataW.weightsEach,List.all_append,Bool.and_eq_true] at hw
  obtain⟨_,_,w2,_⟩:=hw
  obtain⟨bv,a0,_⟩:=DataW.trod_bool uBo r0
  obtain⟨pk,a1,_,_⟩:=DataW.trod_int uI r1
  simp only[List.cons.injEq,and_true] at a0 a1
  subst a0 a1
  obtain⟨vs,a,n',c,rfl,q1,q2,q3⟩:=rows_arg (Q:=fun v:PrV=>∃ p,IsPr W p v/\p.fit) PrV.cells PrV.len (by omega) uPrs cPr bPr (by omega) (fun k hk cs x g1 g2=>ih k (by omega) cs x g1 g2) r2 w2
  obtain⟨p,hp1,hp2⟩:=prs_read bv pk q1 q3 q2
  exact⟨⟨bv,pk,a,n',c⟩,rfl,p,hp1,hp2⟩
end Go.Proofs.YtpkljcgihobaiaaGreatDoor
