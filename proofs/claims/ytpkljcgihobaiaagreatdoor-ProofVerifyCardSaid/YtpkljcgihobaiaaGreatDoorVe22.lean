/-
  Texts of the claim, joined: Ver, Ver2, Made10.
-/
import Derived.Test.YtpkljcgihobaiaaGreatDoorVe21
namespace Go.Proofs.YtpkljcgihobaiaaGreatDoor
set_option maxRecDepth 100000
set_option maxHeartbeats 32000000
open Go.RowKit Go.Maps
def singB (p:Pr) (P:Pr->Bool):Bool:=(p.pick == -1)&&decide (p.args.length=1)&&p.args.all P
theorem single_calls (lv:LossV) (x:ExV) (p:Pr) (pv:PrV) (P:Pr->Bool) (w:World) (hp:IsPr w p pv)
  (hv:∀ (q:Pr) (qv:PrV) (W:World),q∈p.args->Ext w W->IsPr W q qv->Calls Tryz.prog 39 #[lv.val,x.val,qv.val] W (GivesE (.bool (P q)) W)) :
  Calls Tryz.prog 63 #[lv.val,x.val,pv.val] w (GivesE (.bool (singB p P)) w):=by
 obtain⟨-,h2,h3,-,-,h6⟩:=hp.parts
 obtain⟨R,hR⟩:∃ R,R=singB p P:=⟨_,rfl⟩
 rw[<-hR]
 unfold singB at hR
 obtain⟨pb,k,pa,pn,pc⟩:=pv
 simp only at h2 h3 h6
 obtain⟨sa,sn,sc,bm,fa,fn,fc⟩:=lv
 obtain⟨op,name,aw,nw,cw,lo,hi,aa,na,ca⟩:=x
 obtain⟨pav,hpav⟩:∃ l,l=p.args:=⟨_,rfl⟩
 rw[<-hpav] at h3 h6 hR hv
 rw[<-h2] at hR
 have HR:=hI hR
 have H6:=hI h6
 have HN:=hI h3
 have HV:=hI hv
 clear hR h2 h3 h6 hp hpav hv
 unfold LossV.val ExV.val exV PrV.val at *
 obtain⟨wa,hwa⟩:∃ wa,wa=((w.alloc (.cells #[.slice sa sn sc,.map (some bm),.slice fa fn fc] 71)).alloc (.cells #[.int .i64 op,.string name,.slice aw nw cw,.int .i64 lo,.int .i64 hi,.slice aa na ca] 26)).alloc (.cells #[.bool pb,.int .i64 k,.slice pa pn pc] 40):=⟨_,rfl⟩
 have hxa:Ext w wa:=by rw[hwa];exact(((Ext.refl _).alloc _).alloc _).alloc _
 have hb0:wa.heap[w.heap.size]?=some (.cells #[.slice sa sn sc,.map (some bm),.slice fa fn fc] 71 (0,0)):=by rw[hwa];exact blk_alloc (blk_alloc (alloc_new w _))
 have hb1:wa.heap[w.heap.size+1]?=some (.cells #[.int .i64 op,.string name,.slice aw nw cw,.int .i64 lo,.int .i64 hi,.slice aa na ca] 26 (0,0)):=by rw[hwa];exact blk_alloc (alloc_atR (by simp))
 have hb2:wa.heap[w.heap.size+1+1]?=some (.cells #[.bool pb,.int .i64 k,.slice pa pn pc] 40 (0,0)):=by rw[hwa];exact alloc_atR (by simp)
 have HXA:=hI hxa
 obtain⟨f0,f1,f2,f3,f4,f5,ff⟩:=blk6 hb1
 obtain⟨e0,e1,e2,ef⟩:=blk3 hb0
 obtain⟨r0,r1,r2,rf⟩:=blk3 hb2
 have hltw:=blk_lt hb2
 clear hxa hb0 hb1 hb2
 by_cases hk:k = -1
 case neg =>
  have t1:(k == -1)=false:=by simp[hk]
  have HQ:=hI (show R=false by rw[HR.out];simp[hk])
  clear hk
  go_enter Tryz.func63,Tryz.ntmps63
  go_upto_region 1 with fail
  rw[<-hwa]
  clear hwa
  go_wp2_with fail
  go_quiet (fail)
  go_wp2_with fail
  go_ret
  exact givesE_bool (by rw[HQ.out]) (HXA.out.drewN _)
 subst hk
 by_cases hn:pn=1
 case neg =>
  have t1:((pn:Int)==1)=false:=by simp;omega
  have HQ:=hI (show R=false by rw[HR.out];have:=HN.out;simp;intro h;omega)
  clear hn
  go_enter Tryz.func63,Tryz.ntmps63
  go_upto_region 1 with fail
  rw[<-hwa]
  clear hwa
  go_wp2_with fail
  go_quiet (fail)
  go_wp2_with fail
  go_ret
  exact givesE_bool (by rw[HQ.out]) (HXA.out.drewN _)
 subst hn
 obtain⟨b,off,q,rfl,hq,c0,c1,c2⟩:=H6.out 0 (by have:=HN.out;omega)
 simp only[Nat.zero_mul,Nat.add_zero] at c0 c1 c2
 replace c0:=HXA.out.cell c0
 replace c1:=HXA.out.cell c1
 replace c2:=HXA.out.cell c2
 have HPQ:=hI hq
 have hl1:pav.length=1:=by have:=HN.out;omega
 obtain⟨q1,rfl⟩:=len_one hl1
 simp only[List.getElem_cons_zero] at HPQ
 have HQ:=hI (show R=P q1 by rw[HR.out];simp)
 have HVQ:=hI (fun W (hW:Ext w W)=>HV.out q1 q W (by simp) hW (HPQ.out.ext hW))
 obtain⟨B,hB⟩:∃ B,B=P q1:=⟨_,rfl⟩
 rw[<-hB] at HQ HVQ
 obtain⟨qb,qk,qa,qn,qc⟩:=q
 simp only at c0 c1 c2 HVQ
 clear hB HV hl1 HPQ hq HR HN H6
 go_enter Tryz.func63,Tryz.ntmps63
 go_upto_region 1 with fail
 rw[<-hwa]
 clear hwa
 go_wp2_with fail
 go_still_tail 16,(by kernel_rfl)
 change wpList _ _ _ _ _ wa.drew
 have hx2:Ext wa wa.drew:=(Ext.refl wa).drew
 generalize wa.drew=w2 at hx2 ⊢
 have HX2:=hI (HXA.out.trans hx2)
 clear hx2
 go_wp2_with fail
 refine(HVQ.out w2 HX2.out).mono ?_
 rintro r w3 ⟨rfl,hx3⟩
 have HX3:=hI (HX2.out.trans hx3)
 clear hx3
 go_wp2_with fail
 go_ret
 exact givesE_bool (by rw[HQ.out]) HX3.out
def sevB (s:List Attr) (f:ZI) (D:BA->Option (Pr->Bool)) (op:Int) (args:List Ex) (p:Pr):Bool:=if p.value=decide (op=8) then decide (0<=p.pick)&&decide (p.args.length=1)&&p.args.all (fun q=>prvAt s f D args p.pick.toNat q&&(q.value==p.value)) else (p.pick == -1)&&prvZip s f D p.value args p.args
def SevL (s:List Attr) (f:ZI) (D:BA->Option (Pr->Bool)) (v:Bool) (args:List Ex) (ps:List Pr) (na b0:Nat) (Z0 Z1 Z2:Obj) (w:World) (i:Value) (wr:World):Prop:=∃ k:Nat,i=.int .i64 k/\k<=na/\(∀ j (h1:j < args.length) (h2:j < ps.length),j < k->prvE s f D args[j] ps[j]=true/\ps[j].value=v)/\wr.heap[b0]?=some Z0/\wr.heap[b0+1]?=some Z1/\wr.heap[b0+1+1]?=some Z2/\Ext w wr
theorem prvZip_false {s:List Attr} {f:ZI} {D:BA->Option (Pr->Bool)} {v:Bool} {args:List Ex} {ps:List Pr} (k:Nat) (h1:k < args.length) (h2:k < ps.length) (h:¬ (prvE s f D args[k] ps[k]=true/\ps[k].value=v)):prvZip s f D v args ps=false:=by
 cases hz:prvZip s f D v args ps
 ·rfl
 exact absurd (prvZip_at args ps hz k h1 h2) h
theorem several_calls (s:List Attr) (f:ZI) (D:BA->Option (Pr->Bool)) (lv:LossV) (e:Ex) (ev:Value) (p:Pr) (pv:PrV) (w:World) (he:IsEx w e ev) (hn2:e.args.length<=1000000) (hp:IsPr w p pv)
  (hv:∀ (j:Nat) (hj:j < e.args.length) (xv:Value) (q:Pr) (qv:PrV) (W:World),q∈p.args->Ext w W->IsEx W e.args[j] xv->IsPr W q qv->Calls Tryz.prog 39 #[lv.val,xv,qv.val] W (GivesE (.bool (prvE s f D e.args[j] q)) W)) :
  Calls Tryz.prog 64 #[lv.val,ev,pv.val] w (GivesE (.bool (sevB s f D e.op e.args p)) w):=by
 obtain⟨h1,h2,h3,-,-,h6⟩:=hp.parts
 obtain⟨aw,nw,cw,aa,na,ca,rfl,hw,hna,hca,ha,hx⟩:=he.parts
 obtain⟨op,name,words,lo,hi,args⟩:=e
 simp only[Ex.op,Ex.name,Ex.words,Ex.lo,Ex.hi,Ex.args] at *
 obtain⟨R,hR⟩:∃ R,R=sevB s f D op args p:=⟨_,rfl⟩
 rw[<-hR]
 unfold sevB at hR
 obtain⟨pb,pk,pa,pn,pc⟩:=pv
 simp only at h1 h2 h3 h6
 obtain⟨sa,sn,sc,bm,fa,fn,fc⟩:=lv
 obtain⟨ps,hps⟩:∃ l,l=p.args:=⟨_,rfl⟩
 rw[<-hps] at h3 h6 hR hv
 rw[<-h1,<-h2] at hR
 have HR:=hI hR
 have H6:=hI h6
 have HN:=hI h3
 have HV:=hI hv
 have HX:=hI hx
 have HNA:=hI hna
 have hna2:na<=1000000:=by omega
 clear hR h1 h2 h3 h6 hp hps hv hx hna hw hca ha he hn2
 unfold LossV.val exV PrV.val at *
 obtain⟨wa,hwa⟩:∃ wa,wa=((w.alloc (.cells #[.slice sa sn sc,.map (some bm),.slice fa fn fc] 71)).alloc (.cells #[.int .i64 op,.string name,.slice aw nw cw,.int .i64 lo,.int .i64 hi,.slice aa na ca] 26)).alloc (.cells #[.bool pb,.int .i64 pk,.slice pa pn pc] 40):=⟨_,rfl⟩
 have hxa:Ext w wa:=by rw[hwa];exact(((Ext.refl _).alloc _).alloc _).alloc _
 have hb0:wa.heap[w.heap.size]?=some (.cells #[.slice sa sn sc,.map (some bm),.slice fa fn fc] 71 (0,0)):=by rw[hwa];exact blk_alloc (blk_alloc (alloc_new w _))
 have hb1:wa.heap[w.heap.size+1]?=some (.cells #[.int .i64 op,.string name,.slice aw nw cw,.int .i64 lo,.int .i64 hi,.slice aa na ca] 26 (0,0)):=by rw[hwa];exact blk_alloc (alloc_atR (by simp))
 have hb2:wa.heap[w.heap.size+1+1]?=some (.cells #[.bool pb,.int .i64 pk,.slice pa pn pc] 40 (0,0)):=by rw[hwa];exact alloc_atR (by simp)
 have HXA:=hI hxa
 have HB0:=hI hb0
 have HB1:=hI hb1
 have HB2:=hI hb2
 obtain⟨f0,f1,f2,f3,f4,f5,ff⟩:=blk6 hb1
 obtain⟨e0,e1,e2,ef⟩:=blk3 hb0
 obtain⟨r0,r1,r2,rf⟩:=blk3 hb2
 have hltw:=blk_lt hb2
 clear hxa hb0 hb1 hb2
 have hop:(op==8)=decide (op=8):=by by_cases h:op=8<;>simp[h]
 rw[<-hop] at HR
 clear hop
 obtain⟨d,hd⟩:∃ d,d=(op==8):=⟨_,rfl⟩
 rw[<-hd] at HR
 replace hd:=hd.symm
 by_cases hv:pb=d
 -- one argument decides
 ·have t0:(pb==d)=true:=by rw[hv];simp
  have HR2:=hI (show R=(decide (0<=pk)&&decide (ps.length=1)&&ps.all (fun q=>prvAt s f D args pk.toNat q&&(q.value==d))) by rw[HR.out,if_pos hv,hv])
  clear HR hv
  by_cases hk:0<=pk
  case neg =>
   have t1:decide (0<=pk)=false:=decide_eq_false hk
   have HQ:=hI (show R=false by rw[HR2.out,t1];rfl)
   clear hk
   obtain rfl:pb=d:=by simpa using t0
   clear t0
   have HPO0:(pb=false/\(op==8)=false)\/(pb=true/\op=8):=by cases pb<;>simp at hd ⊢<;>exact hd
   have HPO:=hI HPO0
   clear HPO0 hd
   go_enter Tryz.func64,Tryz.ntmps64
   go_upto_region 1 with fail
   rw[<-hwa]
   clear hwa
   rcases HPO.out with ⟨rfl,hd⟩|⟨rfl,rfl⟩
   all_goals
    go_wp2_with fail
    go_quiet (fail)
    go_wp2_with fail
    go_ret
    exact givesE_bool (by rw[HQ.out]) (HXA.out.drewN _)
  have t1:decide (0<=pk)=true:=decide_eq_true hk
  obtain⟨k,rfl⟩:∃ k:Nat,pk=(k:Int):=⟨pk.toNat,by omega⟩
  have HR3:=hI (show R=(decide (ps.length=1)&&ps.all (fun q=>prvAt s f D args k q&&(q.value==d))) by rw[HR2.out,t1,Int.toNat_natCast];rfl)
  clear HR2 hk
  by_cases hkn:k < na
  case neg =>
   have t2:decide (k < na)=false:=decide_eq_false (by omega)
   have HQ:=hI (show R=false by
    rw[HR3.out]
    cases hd1:decide (ps.length=1)
    ·rfl
    obtain⟨q,rfl⟩:=len_one (of_decide_eq_true hd1)
    have:args[k]?=none:=List.getElem?_eq_none (by have:=HNA.out;omega)
    simp[prvAt_get,this])
   clear hkn
   obtain rfl:pb=d:=by simpa using t0
   clear t0
   have HPO0:(pb=false/\(op==8)=false)\/(pb=true/\op=8):=by cases pb<;>simp at hd ⊢<;>exact hd
   have HPO:=hI HPO0
   clear HPO0 hd
   go_enter Tryz.func64,Tryz.ntmps64
   go_upto_region 1 with fail
   rw[<-hwa]
   clear hwa
   rcases HPO.out with ⟨rfl,hd⟩|⟨rfl,rfl⟩
   all_goals
    go_wp2_with fail
    go_quiet (fail)
    go_wp2_with fail
    go_ret
    exact givesE_bool (by rw[HQ.out]) (HXA.out.drewN _)
  have t2:decide (k < na)=true:=decide_eq_true (by omega)
  by_cases hn:pn=1
  case neg =>
   have t3:((pn:Int)==1)=false:=by simp;omega
   have HQ:=hI (show R=false by rw[HR3.out];have:=HN.out;simp;intro h;omega)
   clear hn
   obtain rfl:pb=d:=by simpa using t0
   clear t0
   have HPO0:(pb=false/\(op==8)=false)\/(pb=true/\op=8):=by cases pb<;>simp at hd ⊢<;>exact hd
   have HPO:=hI HPO0
   clear HPO0 hd
   go_enter Tryz.func64,Tryz.ntmps64
   go_upto_region 1 with fail
   rw[<-hwa]
   clear hwa
   rcases HPO.out with ⟨rfl,hd⟩|⟨rfl,rfl⟩
   all_goals
    go_wp2_with fail
    go_quiet (fail)
    go_wp2_with fail
    go_ret
    exact givesE_bool (by rw[HQ.out]) (HXA.out.drewN _)
  subst hn
  obtain⟨b,off,q,rfl,hq,c0,c1,c2⟩:=H6.out 0 (by have:=HN.out;omega)
  simp only[Nat.zero_mul,Nat.add_zero] at c0 c1 c2
  replace c0:=HXA.out.cell c0
  replace c1:=HXA.out.cell c1
  replace c2:=HXA.out.cell c2
  have HPQ:=hI hq
  have hl1:ps.length=1:=by have:=HN.out;omega
  obtain⟨q1,rfl⟩:=len_one hl1
  simp only[List.getElem_cons_zero] at HPQ
  have hka:k < args.length:=by have:=HNA.out;omega
  have HR4:=hI (show R=(prvE s f D args[k] q1&&(q1.value==d)) by rw[HR3.out];simp[prvAt_get,hka])
  have hqv:=HPQ.out.parts.1
  rw[<-hqv] at HR4
  obtain⟨qb,qk,qa,qn,qc⟩:=q
  simp only at c0 c1 c2 HR4
  clear hqv hq HR3 hl1
  by_cases hqb:qb=d
  case neg =>
   have t4:(qb==d)=false:=by cases qb<;>cases d<;>simp at hqb ⊢
   have HQ:=hI (show R=false by rw[HR4.out,t4,Bool.and_false])
   clear hqb
   obtain rfl:pb=d:=by simpa using t0
   clear t0
   have HPO0:(pb=false/\(op==8)=false)\/(pb=true/\op=8):=by cases pb<;>simp at hd ⊢<;>exact hd
   have HPO:=hI HPO0
   clear HPO0 hd
   go_enter Tryz.func64,Tryz.ntmps64
   go_upto_region 1 with fail
   rw[<-hwa]
   clear hwa
   rcases HPO.out with ⟨rfl,hd⟩|⟨rfl,rfl⟩
   all_goals
    go_wp2_with fail
    go_quiet (fail)
    go_wp2_with fail
    go_ret
    exact givesE_bool (by rw[HQ.out]) (HXA.out.drewN _)
  have t4:(qb==d)=true:=by rw[hqb];simp
  have HQ:=hI (show R=prvE s f D args[k] q1 by rw[HR4.out,t4,Bool.and_true])
  clear hqb
  have HVQ:=hI (fun xv W (hW:Ext w W) hxv=>HV.out k hka xv q1 _ W (by simp) hW hxv (HPQ.out.ext hW))
  obtain⟨B,hB⟩:∃ B,B=prvE s f D args[k] q1:=⟨_,rfl⟩
  rw[<-hB] at HQ HVQ
  obtain⟨xb,xo,rfl,aw1,nw1,cw1,aa1,na1,ca1,g0,g1,g2,g3,g4,g5,g6⟩:=ExsD.at args _ (ExsD.ext HXA.out args _ HX.out) k hka
  have G6:=hI g6
  clear hB HV HR4 HPQ g6 HN H6
  unfold exV at *
  simp only at HVQ
  obtain rfl:pb=d:=by simpa using t0
  clear t0
  have HPO0:(pb=false/\(op==8)=false)\/(pb=true/\op=8):=by cases pb<;>simp at hd ⊢<;>exact hd
  have HPO:=hI HPO0
  clear HPO0 hd
  go_enter Tryz.func64,Tryz.ntmps64
  go_upto_region 1 with fail
  rw[<-hwa]
  clear hwa
  rcases HPO.out with ⟨rfl,hd⟩|⟨rfl,rfl⟩
  all_goals
   go_wp2_with fail
   go_still_tail 38,(by kernel_rfl)
   change wpList _ _ _ _ _ wa.drew
   have hx2:Ext wa wa.drew:=(Ext.refl wa).drew
   generalize wa.drew=w2 at hx2 ⊢
   have HX2:=hI (HXA.out.trans hx2)
   have G62:=hI (G6.out.ext hx2)
   clear hx2
   go_wp2_with fail
   refine(HVQ.out _ w2 HX2.out G62.out).mono ?_
   rintro r w3 ⟨rfl,hx3⟩
   have HX3:=hI (HX2.out.trans hx3)
   clear hx3
   go_wp2_with fail
   go_ret
   exact givesE_bool (by rw[HQ.out]) HX3.out
 -- all arguments
 have HR2:=hI (show R=((pk == -1)&&prvZip s f D pb args ps) by rw[HR.out,if_neg hv])
 have t0:(pb==d)=false:=by cases pb<;>cases d<;>simp at hv ⊢
 clear HR hv
 by_cases hk:pk = -1
 case neg =>
  have t1:(pk != -1)=true:=by simp[hk]
  have HQ:=hI (show R=false by rw[HR2.out];simp[hk])
  clear hk
  have HPO0:(pb=true/\(op==8)=false)\/(pb=false/\op=8):=by cases pb<;>cases d<;>simp at hd t0 ⊢<;>exact hd
  have HPO:=hI HPO0
  clear HPO0 hd t0
  go_enter Tryz.func64,Tryz.ntmps64
  go_upto_region 1 with fail
  rw[<-hwa]
  clear hwa
  rcases HPO.out with ⟨rfl,hd⟩|⟨rfl,rfl⟩
  all_goals
   go_wp2_with fail
   go_ret
   first|exact givesE_bool (by rw[HQ.out]) HXA.out|exact givesE_bool (by rw[HQ.out]) (HXA.out.drewN _)|trace_state
 subst hk
 have HR3:=hI (show R=prvZip s f D pb args ps by rw[HR2.out];simp)
 clear HR2
 by_cases hl:pn=na
 case neg =>
  have t2:((pn:Int) != (na:Int))=true:=by simp;omega
  have HQ:=hI (show R=false by
   rw[HR3.out]
   cases hz:prvZip s f D pb args ps
   ·rfl
   have:=prvZip_len args ps hz
   have:=HN.out;have:=HNA.out;omega)
  clear hl
  have HPO0:(pb=true/\(op==8)=false)\/(pb=false/\op=8):=by cases pb<;>cases d<;>simp at hd t0 ⊢<;>exact hd
  have HPO:=hI HPO0
  clear HPO0 hd t0
  go_enter Tryz.func64,Tryz.ntmps64
  go_upto_region 1 with fail
  rw[<-hwa]
  clear hwa
  rcases HPO.out with ⟨rfl,hd⟩|⟨rfl,rfl⟩
  all_goals
   go_wp2_with fail
   go_ret
   first|exact givesE_bool (by rw[HQ.out]) HXA.out|exact givesE_bool (by rw[HQ.out]) (HXA.out.drewN _)|trace_state
 subst hl
 have t2:((pn:Int) != (pn:Int))=false:=by simp
 have HPO0:(pb=true/\(op==8)=false)\/(pb=false/\op=8):=by cases pb<;>cases d<;>simp at hd t0 ⊢<;>exact hd
 have HPO:=hI HPO0
 clear HPO0 hd t0
 go_enter Tryz.func64,Tryz.ntmps64
 go_upto_region 1 with fail
 rw[<-hwa]
 clear hwa
 rcases HPO.out with ⟨rfl,hd⟩|⟨rfl,rfl⟩
 ·go_wp2_with fail
  clear f0 f1 f2 f3 f4 f5 ff e0 e1 e2 ef r0 r1 r2 rf hltw
  go_loopw [72] (SevL s f D true args ps pn w.heap.size (.cells #[.slice sa sn sc,.map (some bm),.slice fa fn fc] 71 (0,0)) (.cells #[.int .i64 op,.string name,.slice aw nw cw,.int .i64 lo,.int .i64 hi,.slice aa pn ca] 26 (0,0)) (.cells #[.bool true,.int .i64 (-1),.slice pa pn pc] 40 (0,0)) w) (fun i _=>pn - (intOf i).toNat)
  case atStart=>exact⟨0,rfl,by omega,fun j _ _ h=>by omega,HB0.out,HB1.out,HB2.out,HXA.out⟩
  case round =>
   obtain⟨k,rfl,hk,hall,hb0,hb1,hb2,hxr⟩:=hrel
   have HALL:=hI hall
   have HXR:=hI hxr
   obtain⟨e0,e1,e2,ef⟩:=blk3 hb0
   obtain⟨r0,r1,r2,rf⟩:=blk3 hb2
   have hltw:=blk_lt hb2
   have HC0:=hI hb0
   have HC1:=hI hb1
   have HC2:=hI hb2
   clear hall hxr hb0 hb1 hb2
   by_cases hkn:k < pn
   ·have hka:k < args.length:=by have:=HNA.out;omega
    have hkp:k < ps.length:=by have:=HN.out;omega
    have t1:decide ((k:Int) < (pn:Int))=true:=decide_eq_true (by omega)
    obtain⟨xb,xo,rfl,aw1,nw1,cw1,aa1,na1,ca1,g0,g1,g2,g3,g4,g5,g6⟩:=ExsD.at args _ (ExsD.ext HXR.out args _ HX.out) k hka
    have G6:=hI g6
    obtain⟨b,off,q,rfl,hq,c0,c1,c2⟩:=H6.out k hkp
    replace c0:=HXR.out.cell c0
    replace c1:=HXR.out.cell c1
    replace c2:=HXR.out.cell c2
    have HPQ:=hI hq
    have HVQ:=hI (fun xv W (hW:Ext w W) hxv=>HV.out k hka xv ps[k] _ W (List.getElem_mem hkp) hW hxv (HPQ.out.ext hW))
    have HVL:=hI hq.parts.1
    obtain⟨qb,qk,qa,qn,qc⟩:=q
    simp only at c0 c1 c2 HVL HVQ
    obtain⟨B,hB⟩:∃ B,B=prvE s f D args[k] ps[k]:=⟨_,rfl⟩
    rw[<-hB] at HVQ
    have HBB:=hI hB
    unfold exV at *
    clear hB hq g6 HPQ
    go_upto_region 9 with fail
    obtain⟨y,hy⟩:∃ y:Nat,y=wr.heap.size:=⟨_,rfl⟩
    obtain⟨w1,hw1⟩:∃ w1,w1=wr.alloc (.cells #[.int .i64 args[k].op,.string args[k].name,.slice aw1 nw1 cw1,.int .i64 args[k].lo,.int .i64 args[k].hi,.slice aa1 na1 ca1] 26):=⟨_,rfl⟩
    have hx1:Ext wr w1:=by rw[hw1];exact(Ext.refl wr).alloc _
    have HBX:=hI (show w1.heap[y]?=some (.cells #[.int .i64 args[k].op,.string args[k].name,.slice aw1 nw1 cw1,.int .i64 args[k].lo,.int .i64 args[k].hi,.slice aa1 na1 ca1] 26 (0,0)) by rw[hw1,hy];exact alloc_new wr _)
    rw[<-hw1,<-hy]
    clear hw1 hy
    have HX1:=hI (HXR.out.trans hx1)
    have G61:=hI (G6.out.ext hx1)
    have HD0:=hI (hx1.blk HC0.out)
    have HD1:=hI (hx1.blk HC1.out)
    have HD2:=hI (hx1.blk HC2.out)
    replace c0:=hx1.cell c0
    replace c1:=hx1.cell c1
    replace c2:=hx1.cell c2
    clear e0 e1 e2 ef r0 r1 r2 rf g0 g1 g2 g3 g4 g5 hltw hx1
    obtain⟨e0,e1,e2,ef⟩:=blk3 HD0.out
    obtain⟨r0,r1,r2,rf⟩:=blk3 HD2.out
    obtain⟨g0,g1,g2,g3,g4,g5,gf⟩:=blk6 HBX.out
    by_cases hqb:qb=true
    case neg =>
     obtain rfl:qb=false:=by simpa using hqb
     have HQ:=hI (show R=false by rw[HR3.out];exact prvZip_false k hka hkp fun h=>by have h1:=HVL.out;rw[h.2] at h1;cases h1)
     clear hqb
     go_wp2_with fail
     go_quiet (fail)
     go_wp2_with fail
     go_ret
     exact givesE_bool (by rw[HQ.out]) (HX1.out.drewN _)
    subst hqb
    go_wp2_with fail
    go_still_tail 17,(by kernel_rfl)
    change wpList _ _ _ _ _ w1.drew
    have hx2:Ext w1 w1.drew:=(Ext.refl w1).drew
    generalize w1.drew=w2 at hx2 ⊢
    have HX2:=hI (HX1.out.trans hx2)
    have G62:=hI (G61.out.ext hx2)
    have HE00:=hI (hx2.blk HD0.out)
    have HE10:=hI (hx2.blk HD1.out)
    have HE20:=hI (hx2.blk HD2.out)
    clear hx2 e0 e1 e2 ef r0 r1 r2 rf g0 g1 g2 g3 g4 g5 gf c0 c1 c2
    go_wp2_with fail
    refine(HVQ.out _ w2 HX2.out G62.out).mono ?_
    rintro r w3 ⟨rfl,hx3⟩
    have HX3:=hI (HX2.out.trans hx3)
    have HE0:=hI (hx3.blk HE00.out)
    have HE1:=hI (hx3.blk HE10.out)
    have HE2:=hI (hx3.blk HE20.out)
    clear hx3
    cases B
    ·have HQ:=hI (show R=false by rw[HR3.out];exact prvZip_false k hka hkp fun h=>by rw[<-HBB.out] at h;exact absurd h.1 (by decide))
     go_wp2_with fail
     go_ret
     exact givesE_bool (by rw[HQ.out]) HX3.out
    go_wp2_with fail
    go_roundw
    case rel =>
     refine⟨k+1,by go_num,by omega,fun j hj1 hj2 hjk=>?_,HE0.out,HE1.out,HE2.out,HX3.out⟩
     by_cases e:j=k
     ·subst e;exact⟨HBB.out.symm,HVL.out.symm⟩
     exact HALL.out j hj1 hj2 (by omega)
    case measure=>simp[intOf];omega
   have t1:decide ((k:Int) < (pn:Int))=false:=decide_eq_false (by omega)
   have HF:=hI (show R=true by
    rw[HR3.out]
    exact prvZip_of args ps (by have:=HN.out;have:=HNA.out;omega) fun i h1 h2=>HALL.out i h1 h2 (by have:=HNA.out;omega))
   go_wp2_with fail
   go_ret
   exact givesE_bool (by rw[HF.out]) HXR.out
 go_wp2_with fail
 clear f0 f1 f2 f3 f4 f5 ff e0 e1 e2 ef r0 r1 r2 rf hltw
 go_loopw [72] (SevL s f D false args ps pn w.heap.size (.cells #[.slice sa sn sc,.map (some bm),.slice fa fn fc] 71 (0,0)) (.cells #[.int .i64 8,.string name,.slice aw nw cw,.int .i64 lo,.int .i64 hi,.slice aa pn ca] 26 (0,0)) (.cells #[.bool false,.int .i64 (-1),.slice pa pn pc] 40 (0,0)) w) (fun i _=>pn - (intOf i).toNat)
 case atStart=>exact⟨0,rfl,by omega,fun j _ _ h=>by omega,HB0.out,HB1.out,HB2.out,HXA.out⟩
 case round =>
  obtain⟨k,rfl,hk,hall,hb0,hb1,hb2,hxr⟩:=hrel
  have HALL:=hI hall
  have HXR:=hI hxr
  obtain⟨e0,e1,e2,ef⟩:=blk3 hb0
  obtain⟨r0,r1,r2,rf⟩:=blk3 hb2
  have hltw:=blk_lt hb2
  have HC0:=hI hb0
  have HC1:=hI hb1
  have HC2:=hI hb2
  clear hall hxr hb0 hb1 hb2
  by_cases hkn:k < pn
  ·have hka:k < args.length:=by have:=HNA.out;omega
   have hkp:k < ps.length:=by have:=HN.out;omega
   have t1:decide ((k:Int) < (pn:Int))=true:=decide_eq_true (by omega)
   obtain⟨xb,xo,rfl,aw1,nw1,cw1,aa1,na1,ca1,g0,g1,g2,g3,g4,g5,g6⟩:=ExsD.at args _ (ExsD.ext HXR.out args _ HX.out) k hka
   have G6:=hI g6
   obtain⟨b,off,q,rfl,hq,c0,c1,c2⟩:=H6.out k hkp
   replace c0:=HXR.out.cell c0
   replace c1:=HXR.out.cell c1
   replace c2:=HXR.out.cell c2
   have HPQ:=hI hq
   have HVQ:=hI (fun xv W (hW:Ext w W) hxv=>HV.out k hka xv ps[k] _ W (List.getElem_mem hkp) hW hxv (HPQ.out.ext hW))
   have HVL:=hI hq.parts.1
   obtain⟨qb,qk,qa,qn,qc⟩:=q
   simp only at c0 c1 c2 HVL HVQ
   obtain⟨B,hB⟩:∃ B,B=prvE s f D args[k] ps[k]:=⟨_,rfl⟩
   rw[<-hB] at HVQ
   have HBB:=hI hB
   unfold exV at *
   clear hB hq g6 HPQ
   go_upto_region 9 with fail
   obtain⟨y,hy⟩:∃ y:Nat,y=wr.heap.size:=⟨_,rfl⟩
   obtain⟨w1,hw1⟩:∃ w1,w1=wr.alloc (.cells #[.int .i64 args[k].op,.string args[k].name,.slice aw1 nw1 cw1,.int .i64 args[k].lo,.int .i64 args[k].hi,.slice aa1 na1 ca1] 26):=⟨_,rfl⟩
   have hx1:Ext wr w1:=by rw[hw1];exact(Ext.refl wr).alloc _
   have HBX:=hI (show w1.heap[y]?=some (.cells #[.int .i64 args[k].op,.string args[k].name,.slice aw1 nw1 cw1,.int .i64 args[k].lo,.int .i64 args[k].hi,.slice aa1 na1 ca1] 26 (0,0)) by rw[hw1,hy];exact alloc_new wr _)
   rw[<-hw1,<-hy]
   clear hw1 hy
   have HX1:=hI (HXR.out.trans hx1)
   have G61:=hI (G6.out.ext hx1)
   have HD0:=hI (hx1.blk HC0.out)
   have HD1:=hI (hx1.blk HC1.out)
   have HD2:=hI (hx1.blk HC2.out)
   replace c0:=hx1.cell c0
   replace c1:=hx1.cell c1
   replace c2:=hx1.cell c2
   clear e0 e1 e2 ef r0 r1 r2 rf g0 g1 g2 g3 g4 g5 hltw hx1
   obtain⟨e0,e1,e2,ef⟩:=blk3 HD0.out
   obtain⟨r0,r1,r2,rf⟩:=blk3 HD2.out
   obtain⟨g0,g1,g2,g3,g4,g5,gf⟩:=blk6 HBX.out
   by_cases hqb:qb=false
   case neg =>
    obtain rfl:qb=true:=by simpa using hqb
    have HQ:=hI (show R=false by rw[HR3.out];exact prvZip_false k hka hkp fun h=>by have h1:=HVL.out;rw[h.2] at h1;cases h1)
    clear hqb
    go_wp2_with fail
    go_quiet (fail)
    go_wp2_with fail
    go_ret
    exact givesE_bool (by rw[HQ.out]) (HX1.out.drewN _)
   subst hqb
   go_wp2_with fail
   go_still_tail 17,(by kernel_rfl)
   change wpList _ _ _ _ _ w1.drew
   have hx2:Ext w1 w1.drew:=(Ext.refl w1).drew
   generalize w1.drew=w2 at hx2 ⊢
   have HX2:=hI (HX1.out.trans hx2)
   have G62:=hI (G61.out.ext hx2)
   have HE00:=hI (hx2.blk HD0.out)
   have HE10:=hI (hx2.blk HD1.out)
   have HE20:=hI (hx2.blk HD2.out)
   clear hx2 e0 e1 e2 ef r0 r1 r2 rf g0 g1 g2 g3 g4 g5 gf c0 c1 c2
   go_wp2_with fail
   refine(HVQ.out _ w2 HX2.out G62.out).mono ?_
   rintro r w3 ⟨rfl,hx3⟩
   have HX3:=hI (HX2.out.trans hx3)
   have HE0:=hI (hx3.blk HE00.out)
   have HE1:=hI (hx3.blk HE10.out)
   have HE2:=hI (hx3.blk HE20.out)
   clear hx3
   cases B
   ·have HQ:=hI (show R=false by rw[HR3.out];exact prvZip_false k hka hkp fun h=>by rw[<-HBB.out] at h;exact absurd h.1 (by decide))
    go_wp2_with fail
    go_ret
    exact givesE_bool (by rw[HQ.out]) HX3.out
   go_wp2_with fail
   go_roundw
   case rel =>
    refine⟨k+1,by go_num,by omega,fun j hj1 hj2 hjk=>?_,HE0.out,HE1.out,HE2.out,HX3.out⟩
    by_cases e:j=k
    ·subst e;exact⟨HBB.out.symm,HVL.out.symm⟩
    exact HALL.out j hj1 hj2 (by omega)
   case measure=>simp[intOf];omega
  have t1:decide ((k:Int) < (pn:Int))=false:=decide_eq_false (by omega)
  have HF:=hI (show R=true by
   rw[HR3.out]
   exact prvZip_of args ps (by have:=HN.out;have:=HNA.out;omega) fun i h1 h2=>HALL.out i h1 h2 (by have:=HNA.out;omega))
  go_wp2_with fail
  go_ret
  exact givesE_bool (by rw[HF.out]) HXR.out
def GrGS (wr:World) (_:ZN) (_:Nat->Value) (W:World):Prop:=Ext wr W
def ver3F (w:World) (sa:OA) (sn sc bm:Nat) (fa:OA) (fn fc:Nat) (_name:BA) (_aw:OA) (_nw _cw:Nat) (_lo _hi:Int) (na ca xb xo:Nat) (x0:Int) (x1:BA) (aw1:OA) (nw1 cw1:Nat) (x5 x6:Int) (aa1:OA) (na1 ca1:Nat) (pb:Bool) (pk:Int) (pa:OA) (pn pc:Nat):Nat->Value->World->Prop
 | 0,u,_=>u=.agg #[.slice sa sn sc,.map (some bm),.slice fa fn fc]
 | 1,u,_=>u=.pointer (some ⟨w.heap.size+1,5,none⟩)
 | 2,u,_=>u=.slice (some ⟨xb,xo,none⟩) na ca
 | 3,u,_=>u=.pointer (some ⟨xb,xo,none⟩)
 | 4,u,_=>u=.agg #[.int .i64 x0,.string x1,.slice aw1 nw1 cw1,.int .i64 x5,.int .i64 x6,.slice aa1 na1 ca1]
 | 5,u,_=>u=.agg #[.bool pb,.int .i64 pk,.slice pa pn pc]
 | 6,u,_=>u=.bool false
 | 7,u,_=>u=.bool false
 | 8,u,_=>u=undef
 | 9,u,_=>u=undef
 | 10,u,_=>u=undef
 | 11,u,_=>u=undef
 | 12,u,_=>u=undef
 | 13,u,_=>u=undef
 | 14,u,_=>u=undef
 | 15,u,_=>u=undef
 | 16,u,_=>u=.bool false
 | _,u,_=>u=.bool false
def ver3T (w:World) (sa:OA) (sn sc bm:Nat) (fa:OA) (fn fc:Nat) (_name:BA) (_aw:OA) (_nw _cw:Nat) (_lo _hi:Int) (na ca xb xo:Nat) (x0:Int) (x1:BA) (aw1:OA) (nw1 cw1:Nat) (x5 x6:Int) (aa1:OA) (na1 ca1:Nat) (pb:Bool) (pk:Int) (b off pc:Nat) (qb:Bool):Nat->Value->World->Prop
 | 0,u,_=>u=.agg #[.slice sa sn sc,.map (some bm),.slice fa fn fc]
 | 1,u,_=>u=.pointer (some ⟨w.heap.size+1,5,none⟩)
 | 2,u,_=>u=.slice (some ⟨xb,xo,none⟩) na ca
 | 3,u,_=>u=.pointer (some ⟨xb,xo,none⟩)
 | 4,u,_=>u=.agg #[.int .i64 x0,.string x1,.slice aw1 nw1 cw1,.int .i64 x5,.int .i64 x6,.slice aa1 na1 ca1]
 | 5,u,_=>u=.agg #[.bool pb,.int .i64 pk,.slice (some ⟨b,off,none⟩) 1 pc]
 | 6,u,_=>u=.bool true
 | 7,u,_=>u=.bool true
 | 8,u,_=>u=.pointer (some ⟨w.heap.size+1+1,0,none⟩)
 | 9,u,_=>u=.bool pb
 | 10,u,_=>u=.pointer (some ⟨w.heap.size+1+1,2,none⟩)
 | 11,u,_=>u=.slice (some ⟨b,off,none⟩) 1 pc
 | 12,u,_=>u=.pointer (some ⟨b,off,none⟩)
 | 13,u,_=>u=.pointer (some ⟨b,off,none⟩)
 | 14,u,_=>u=.bool qb
 | 15,u,_=>u=.bool (!(pb==qb))
 | 16,u,_=>u=.bool (!(pb==qb))
 | _,u,_=>u=.bool (!(pb==qb))
def ver10 (w:World) (sa:OA) (sn sc bm:Nat) (fa:OA) (fn fc:Nat) (op:Int) (name:BA) (aw:OA) (nw cw:Nat) (lo hi:Int) (aa:OA) (na ca:Nat) (pb:Bool) (pa:OA) (pc:Nat) (B T:Bool):Nat->Value->World->Prop
 | 0,u,_=>u=.pointer (some ⟨w.heap.size+1+1,1,none⟩)
 | 1,u,_=>u=.int .i64 (-1)
 | 2,u,_=>u=.bool true
 | 3,u,_=>u=.bool true
 | 4,u,_=>u=.pointer (some ⟨w.heap.size+1+1,2,none⟩)
 | 5,u,_=>u=.slice pa 0 pc
 | 6,u,_=>u=.int .i64 0
 | 7,u,_=>u=.bool true
 | 8,u,_=>u=.bool true
 | 9,u,_=>u=.bool true
 | 10,u,_=>u=.pointer (some ⟨w.heap.size+1+1,0,none⟩)
 | 11,u,_=>u=.bool pb
 | 12,u,_=>u=.agg #[.slice sa sn sc,.map (some bm),.slice fa fn fc]
 | 13,u,_=>u=.agg #[.int .i64 op,.string name,.slice aw nw cw,.int .i64 lo,.int .i64 hi,.slice aa na ca]
 | 14,u,_=>u=.bool B
 | 15,u,_=>u=.bool T
 | 16,u,_=>u=.bool T
 | _,u,_=>u=.bool T
def ver9F (_w:World) (sa:OA) (sn sc bm:Nat) (fa:OA) (fn fc:Nat) (_y:Nat) (v0:Int) (v1:BA) (v2:OA) (v3 v4:Nat) (v5 v6:Int) (v7:OA) (v8 v9:Nat) (pb:Bool) (pk:Int) (pa:OA) (pn pc:Nat):Nat->Value->World->Prop
 | 0,u,_=>u=.agg #[.slice sa sn sc,.map (some bm),.slice fa fn fc]
 | 1,u,_=>u=.agg #[.int .i64 v0,.string v1,.slice v2 v3 v4,.int .i64 v5,.int .i64 v6,.slice v7 v8 v9]
 | 2,u,_=>u=.agg #[.bool pb,.int .i64 pk,.slice pa pn pc]
 | 3,u,_=>u=.bool false
 | 4,u,_=>u=.bool false
 | 5,u,_=>u=undef
 | 6,u,_=>u=undef
 | 7,u,_=>u=undef
 | 8,u,_=>u=undef
 | 9,u,_=>u=undef
 | 10,u,_=>u=undef
 | 11,u,_=>u=undef
 | 12,u,_=>u=undef
 | 13,u,_=>u=.bool false
 | _,u,_=>u=.bool false
def ver9T (w:World) (sa:OA) (sn sc bm:Nat) (fa:OA) (fn fc:Nat) (_y:Nat) (v0:Int) (v1:BA) (v2:OA) (v3 v4:Nat) (v5 v6:Int) (v7:OA) (v8 v9:Nat) (pb:Bool) (pk:Int) (b off pc:Nat) (T:Bool) (qb:Bool):Nat->Value->World->Prop
 | 0,u,_=>u=.agg #[.slice sa sn sc,.map (some bm),.slice fa fn fc]
 | 1,u,_=>u=.agg #[.int .i64 v0,.string v1,.slice v2 v3 v4,.int .i64 v5,.int .i64 v6,.slice v7 v8 v9]
 | 2,u,_=>u=.agg #[.bool pb,.int .i64 pk,.slice (some ⟨b,off,none⟩) 1 pc]
 | 3,u,_=>u=.bool true
 | 4,u,_=>u=.bool true
 | 5,u,_=>u=.pointer (some ⟨w.heap.size+1+1,0,none⟩)
 | 6,u,_=>u=.bool pb
 | 7,u,_=>u=.pointer (some ⟨w.heap.size+1+1,2,none⟩)
 | 8,u,_=>u=.slice (some ⟨b,off,none⟩) 1 pc
 | 9,u,_=>u=.pointer (some ⟨b,off,none⟩)
 | 10,u,_=>u=.pointer (some ⟨b,off,none⟩)
 | 11,u,_=>u=.bool qb
 | 12,u,_=>u=.bool T
 | 13,u,_=>u=.bool T
 | _,u,_=>u=.bool T
def prvB (s:List Attr) (f:ZI) (D:BA->Option (Pr->Bool)) (op:Int) (name:BA) (words:ZB) (lo hi:Int) (args:List Ex) (p:Pr):Bool :=
 if op=6 then (p.pick == -1)&&decide (p.args.length=1)&&p.args.all (fun q=>prvAt s f D args 0 q&&(p.value==!q.value))
 else if op=7\/op=8 then sevB s f D op args p
 else match (if op=3 then D name else none) with
  | some g=>(p.pick == -1)&&decide (p.args.length=1)&&p.args.all (fun q=>g q&&(p.value==q.value))
  | none=>(p.pick == -1)&&p.args.isEmpty&&(p.value==factV s f op name words lo hi)
theorem prvE_B (s:List Attr) (f:ZI) (D:BA->Option (Pr->Bool)) (e:Ex) (p:Pr):prvE s f D e p=prvB s f D e.op e.name e.words e.lo e.hi e.args p:=prvE_eq s f D e p
theorem singB_true {p:Pr} {P:Pr->Bool} (h:singB p P=true):p.pick = -1/\∃ q,p.args=[q]/\P q=true:=by
 unfold singB at h
 simp only[Bool.and_eq_true,beq_iff_eq,decide_eq_true_eq] at h
 obtain⟨q,hq⟩:=len_one h.1.2
 rw[hq] at h
 exact⟨h.1.1,q,hq,by simpa using h.2⟩
theorem singB_all {p:Pr} {P P':Pr->Bool} (h:∀ q∈p.args,P' q=true->P q=true) (hf:singB p P=false):singB p P'=false:=by
 cases hs:singB p P'
 ·rfl
 obtain⟨h1,q,h2,h3⟩:=singB_true hs
 have:singB p P=true:=by unfold singB;rw[h1,h2];simp[h q (by rw[h2];simp) h3]
 rw[this] at hf;cases hf
theorem singB_one {p:Pr} {P P':Pr->Bool} {q:Pr} (h:singB p P=true) (hq:p.args=[q]):singB p P'=P' q:=by
 obtain⟨h1,q',h2,h3⟩:=singB_true h
 rw[hq] at h2
 obtain rfl:q=q':=by simpa using h2
 unfold singB;rw[h1,hq];simp
theorem verify_calls (s:List Attr) (l:List Cla) (f:ZI) (hc:Chk s l) (hfa:factsAll s f=true) (lv:LossV) (nm:Nat):∀ (g m:Nat) (e:Ex) (ev:Value) (p:Pr) (pv:PrV) (w:World),e.size<=m->m<=1000000->okTree e->nodesErr s l e=0->expF l g e<=2000->IsLoss w s l f lv nm->IsEx w e ev->IsPr w p pv ->
  Calls Tryz.prog 39 #[lv.val,ev,pv.val] w (GivesE (.bool (prvF s l f g e p)) w):=by
 intro g
 induction g with
 | zero=>intro m e ev p pv w _ _ _ _ h;simp[expF] at h
 | succ g ihg =>
  intro m
  induction m with
  | zero=>intro e ev p pv w h;have:=size_pos e;omega
  | succ m ihm =>
   intro e ev p pv w hm hMM hok hnd hex hl he hp
   have hways:=node_kinds hc hok hnd
   have hfw:=fact_ways hok hnd
   obtain⟨-,hnda⟩:=nodes_parts hnd
   obtain⟨hokn,hoka⟩:=okTree_parts hok
   have hexa:=expE_arg (D:=dOf l g) (e:=e) (by rw[<-expF_succ];exact hex)
   have hexh:=expE_hd (D:=dOf l g) (e:=e) (by rw[<-expF_succ];exact hex)
   obtain⟨R,hR⟩:∃ R,R=prvF s l f (g+1) e p:=⟨_,rfl⟩
   rw[<-hR]
   obtain⟨V,hV⟩:∃ V,V=(fun x=>(defAt l x).map fun d=>prvF s l f g (l.getD d cla0).cond):=⟨_,rfl⟩
   have hvf:∀ e q,prvF s l f (g+1) e q=prvE s f V e q:=fun e q=>by rw[hV];rfl
   rw[hvf,prvE_B] at hR
   have HARG:=hI (fun (j:Nat) (hj:j < e.args.length) (xv:Value) (q:Pr) (qv:PrV) (W:World) (hW:Ext w W) (hxv:IsEx W e.args[j] xv) (hq:IsPr W q qv)=>show Calls Tryz.prog 39 #[lv.val,xv,qv.val] W (GivesE (.bool (prvE s f V e.args[j] q)) W) from by
    rw[<-hvf]
    exact ihm e.args[j] xv q qv W (by have h1:=sizes_take_succ e.args j hj;have h2:=sizes_take_le e.args (j+1);have h3:=e.size_eq;omega) (by omega) (hoka _ (List.getElem_mem hj)) (hnda j hj) (by rw[expF_succ];exact hexa j hj) (hl.ext hW) hxv hq)
   have HDEF:=hI (fun (h3:e.op=3) (d:Nat) (hd:defAt l e.name=some d) (xv:Value) (q:Pr) (qv:PrV) (W:World) (hW:Ext w W) (hxv:IsEx W (l.getD d cla0).cond xv) (hq:IsPr W q qv)=>ihg 300 (l.getD d cla0).cond xv q qv W (hc.cond (defAt_atK hd).1).2.2 (by omega) (hc.cond (defAt_atK hd).1).1 (hc.cond (defAt_atK hd).1).2.1 (hexh h3 (by unfold dOf;rw[hd];rfl)) (hl.ext hW) hxv hq)
   have HFC:=hI (fun h5 W (hW:Ext w W)=>fact_calls s l f lv nm hc.sch hfa e ev W (hl.ext hW) (he.ext hW) hok h5)
   have HDC:=hI (fun W (hW:Ext w W)=>definition_calls s l f lv nm e ev W (hl.ext hW) (he.ext hW) (by have:=(okTree_words hok).2;omega))
   have HSV:=hI (show ∀ W,Ext w W->Calls Tryz.prog 64 #[lv.val,ev,pv.val] W (GivesE (.bool (sevB s f V e.op e.args p)) W) from fun W hW =>
    several_calls s f V lv e ev p pv W (he.ext hW) (by have h1:=length_le_sizes e.args;have h3:=e.size_eq;omega) (hp.ext hW) fun j hj xv q qv W' _ hW' hxv hq=>HARG.out j hj xv q qv W' (hW.trans hW') hxv hq)
   have HSG:=hI (fun (h:0 < e.args.length) (x:ExV) W (hW:Ext w W) (hx:IsEx W e.args[0] x.val)=>single_calls lv x p pv (prvE s f V e.args[0]) W (hp.ext hW) fun q qv W' _ hW' hq=>HARG.out 0 h x.val q qv W' (hW.trans hW') (hx.ext hW') hq)
   have HSD:=hI (fun (h3:e.op=3) (d:Nat) (hd:defAt l e.name=some d) (x:ExV) W (hW:Ext w W) (hx:IsEx W (l.getD d cla0).cond x.val)=>single_calls lv x p pv (prvF s l f g (l.getD d cla0).cond) W (hp.ext hW) fun q qv W' _ hW' hq=>HDEF.out h3 d hd x.val q qv W' (hW.trans hW') (hx.ext hW') hq)
   have HVV:=hI (show ∀ d,defAt l e.name=some d->V e.name=some (prvF s l f g (l.getD d cla0).cond) from fun d hd=>by rw[hV];simp only[hd];rfl)
   have HVN:=hI (show defAt l e.name=none->V e.name=none from fun hd=>by rw[hV];simp only[hd];rfl)
   obtain⟨h1,h2,h3,-,-,h6⟩:=hp.parts
   have HFW:=hI hfw
   have hna2:e.args.length<=1000000:=by have h1:=length_le_sizes e.args;have h3:=e.size_eq;omega
   obtain⟨aw,nw,cw,aa,na,ca,rfl,hw,hna,hca,ha,hx⟩:=he.parts
   have HR:=hI hR
   clear hc hfa hl hw hca ha ihg ihm hm hnda hoka hexa hexh hokn hok hnd hex he hR hvf hV hfw HARG HDEF hp
   obtain⟨op,name,words,lo,hi,args⟩:=e
   simp only[Ex.op,Ex.name,Ex.words,Ex.lo,Ex.hi,Ex.args] at *
   unfold prvB at HR
   have HX:=hI hx
   have HNA:=hI hna
   clear hx hna
   obtain⟨pb,pk,pa,pn,pc⟩:=pv
   simp only at h1 h2 h3 h6
   have HP1:=hI h1
   have HP2:=hI h2
   have HP3:=hI h3
   have H6:=hI h6
   clear h1 h2 h3 h6
   obtain⟨sa,sn,sc,bm,fa,fn,fc⟩:=lv
   unfold exV LossV.val PrV.val at *
   simp only at *
   obtain⟨wa,hwa⟩:∃ wa,wa=((w.alloc (.cells #[.slice sa sn sc,.map (some bm),.slice fa fn fc] 71)).alloc (.cells #[.int .i64 op,.string name,.slice aw nw cw,.int .i64 lo,.int .i64 hi,.slice aa na ca] 26)).alloc (.cells #[.bool pb,.int .i64 pk,.slice pa pn pc] 40):=⟨_,rfl⟩
   have hxa:Ext w wa:=by rw[hwa];exact(((Ext.refl _).alloc _).alloc _).alloc _
   have hb0:wa.heap[w.heap.size]?=some (.cells #[.slice sa sn sc,.map (some bm),.slice fa fn fc] 71 (0,0)):=by rw[hwa];exact blk_alloc (blk_alloc (alloc_new w _))
   have hb1:wa.heap[w.heap.size+1]?=some (.cells #[.int .i64 op,.string name,.slice aw nw cw,.int .i64 lo,.int .i64 hi,.slice aa na ca] 26 (0,0)):=by rw[hwa];exact blk_alloc (alloc_atR (by simp))
   have hb2:wa.heap[w.heap.size+1+1]?=some (.cells #[.bool pb,.int .i64 pk,.slice pa pn pc] 40 (0,0)):=by rw[hwa];exact alloc_atR (by simp)
   have HXA:=hI hxa
   have HB0:=hI hb0
   have HB1:=hI hb1
   have HB2:=hI hb2
   obtain⟨f0,f1,f2,f3,f4,f5,ff⟩:=blk6 hb1
   obtain⟨e0,e1,e2,ef⟩:=blk3 hb0
   obtain⟨r0,r1,r2,rf⟩:=blk3 hb2
   have hltw:=blk_lt hb2
   clear hxa hb0 hb1 hb2
   rcases hways with ⟨h6,hdn⟩|⟨rfl,hat,d,hdf⟩|⟨rfl,hl1⟩|h78
   -- a fact
   ·have t6:(op==6)=false:=by simp[h6.1]
    have t7:(op==7)=false:=by simp[h6.2.1]
    have t8:(op==8)=false:=by simp[h6.2.2]
    have HQ:=hI (show R=((pk == -1)&&decide (pn=0)&&(pb==factV s f op name words lo hi)) by
     have e1:p.args.isEmpty=decide (pn=0):=by rw[HP3.out];cases p.args<;>simp
     rw[HR.out,if_neg h6.1,if_neg (by omega),<-HP1.out,<-HP2.out]
     by_cases h3:op=3
     ·rw[if_pos h3,HVN.out (hdn h3),<-e1]
     rw[if_neg h3,<-e1])
    have HFC2:=hI (HFC.out (HFW.out h6 hdn))
    obtain⟨B,hB⟩:∃ B,B=factV s f op name words lo hi:=⟨_,rfl⟩
    rw[<-hB] at HQ HFC2
    have HDN:=hI hdn
    clear h6 hdn hB HFC HFW HSV HSG HSD HVV HVN HR H6 HP1 HP2 HP3
    go_enter Tryz.func39,Tryz.ntmps39
    go_upto_region 1 with fail
    rw[<-hwa]
    clear hwa
    go_wp2_with fail
    refine(HDC.out wa HXA.out).mono ?_
    rintro r w3 ⟨hx3,hq⟩
    rcases hq with ⟨h3,d,v,hd,-⟩|⟨-,rfl⟩
    ·rw[HDN.out h3] at hd;cases hd
    have HX3:=hI (HXA.out.trans hx3)
    have HB03:=hI (hx3.blk HB0.out)
    have HB13:=hI (hx3.blk HB1.out)
    have HB23:=hI (hx3.blk HB2.out)
    clear f0 f1 f2 f3 f4 f5 ff e0 e1 e2 ef r0 r1 r2 rf hltw hx3
    unfold exZero
    go_upto_region 8 with fail
    obtain⟨w4,hw4⟩:∃ w4,w4=w3.alloc (.cells #[.int .i64 0,.string ⟨#[]⟩,.slice none 0 0,.int .i64 0,.int .i64 0,.slice none 0 0] 26):=⟨_,rfl⟩
    have hx4:Ext w3 w4:=by rw[hw4];exact(Ext.refl _).alloc _
    rw[<-hw4]
    clear hw4
    have HX4:=hI (HX3.out.trans hx4)
    obtain⟨f0,f1,f2,f3,f4,f5,ff⟩:=blk6 (hx4.blk HB13.out)
    obtain⟨e0,e1,e2,ef⟩:=blk3 (hx4.blk HB03.out)
    obtain⟨r0,r1,r2,rf⟩:=blk3 (hx4.blk HB23.out)
    have hltw:=blk_lt (hx4.blk HB23.out)
    clear hx4 HB03 HB13 HB23
    by_cases hk:pk = -1
    case neg =>
     have t1:(pk == -1)=false:=by simp[hk]
     have HF:=hI (show R=false by rw[HQ.out,t1];rfl)
     clear hk
     go_wp2_with fail
     go_quiet (fail)
     go_wp2_with fail
     go_ret
     exact givesE_bool (by rw[HF.out]) (HX4.out.drewN _)
    subst hk
    by_cases hn:pn=0
    case neg =>
     have t1:((pn:Int)==0)=false:=by simp;omega
     have HF:=hI (show R=false by rw[HQ.out];simp[hn])
     clear hn
     go_wp2_with fail
     go_quiet (fail)
     go_wp2_with fail
     go_ret
     exact givesE_bool (by rw[HF.out]) (HX4.out.drewN _)
    subst hn
    have HF:=hI (show R=(pb==B) by rw[HQ.out];simp)
    obtain⟨T,hT⟩:∃ T,T=(pb==B):=⟨_,rfl⟩
    have HT:=hI hT.symm
    rw[<-hT] at HF
    have HFC3:=hI (fun W (hW:Ext w4 W)=>HFC2.out W (HX4.out.trans hW))
    clear hT HFC2 HQ HDC
    go_wp2_with fail
    refine wp_region_growS (n:=75) (m:=18) [17] (GrGS w4) GrE (GrP (ver10 w sa sn sc bm fa fn fc op name aw nw cw lo hi aa na ca pb pa pc B T)) (by kernel_rfl) (by kernel_rfl) (Nat.le_of_ble_eq_true rfl) (fun i=>[].contains i) ?sg ?gd ?sk ((Ext.refl w4).drew) ?_ ?_ ?_
    case sg =>
     intro i o hi hs ho
     rcases ltc18 hi with rfl|rfl|rfl|rfl|rfl|rfl|rfl|rfl|rfl|rfl|rfl|rfl|rfl|rfl|rfl|rfl|rfl|rfl<;>(cases ho;first|(exact absurd hs (by decide);done)|exact nofun)
    case gd =>
     intro i o j b hi ho hg
     rcases ltc18 hi with rfl|rfl|rfl|rfl|rfl|rfl|rfl|rfl|rfl|rfl|rfl|rfl|rfl|rfl|rfl|rfl|rfl|rfl<;>(cases ho;first|(cases hg;done)|(cases hg;intro v W h;first|(rw[if_neg (by decide)];exact h)|(rw[if_pos (by decide)];intro e;first|(rw[show v=.bool false from h] at e;cases e;done)|(rw[show v=.bool true from h] at e;cases e;done)|(rw[show v=undef from h] at e;cases e;done))))
    case sk =>
     intro i hi hs L vs W hiL hG
     rcases ltc18 hi with rfl|rfl|rfl|rfl|rfl|rfl|rfl|rfl|rfl|rfl|rfl|rfl|rfl|rfl|rfl|rfl|rfl|rfl<;>first|(exact absurd hs (by decide);done)|exact⟨Ext.refl W,hG,rfl⟩
    ·intro i k v W W' hi hk hne hout h hE
     have hE:Ext W W':=hE
     have hi':=ltc18 hi
     clear hi hk hne hout
     rcases hi' with rfl|rfl|rfl|rfl|rfl|rfl|rfl|rfl|rfl|rfl|rfl|rfl|rfl|rfl|rfl|rfl|rfl|rfl
     ·exact h
     ·exact h
     ·exact h
     ·exact h
     ·exact h
     ·exact h
     ·exact h
     ·exact h
     ·exact h
     ·exact h
     ·exact h
     ·exact h
     ·exact h
     ·exact h
     ·exact h
     ·exact h
     ·exact h
     exact h
    ·intro q op hq hsq ho L vs W hqL hcL hW hd ρ hρ
     have hq':=ltc18 hq
     clear hq
     have o5:ρ (.tmp 5)=.pointer (some ⟨w.heap.size+1+1,0,none⟩):=hρ.out 5 rfl
     have i0:=hρ.i 0 58
     have i1:=hρ.i 1 59
     have i2:=hρ.i 2 60
     have i4:=hρ.i 4 62
     have i5:=hρ.i 5 63
     have i6:=hρ.i 6 64
     have i3:=hρ.i 3 61
     have i7:=hρ.i 7 65
     have i8:=hρ.i 8 66
     have i10:=hρ.i 10 68
     have o3:ρ (.tmp 3)=.pointer (some ⟨w.heap.size,0,none⟩):=hρ.out 3 rfl
     have o4:ρ (.tmp 4)=.pointer (some ⟨w.heap.size+1,0,none⟩):=hρ.out 4 rfl
     have i12:=hρ.i 12 70
     have i13:=hρ.i 13 71
     have i11:=hρ.i 11 69
     have i14:=hρ.i 14 72
     have i9:=hρ.i 9 67
     have i15:=hρ.i 15 73
     have i16:=hρ.i 16 74
     have hc:=hρ.const
     have hfn:=hρ.func
     clear hρ
     have HG:=hI hW
     have HW:=hI (show Ext w4 W from hW)
     have HQL:=hI hqL
     clear hW hqL hcL
     have kf0:=HW.out.cell e0
     have kf1:=HW.out.cell e1
     have kf2:=HW.out.cell e2
     have kf3:=HW.out.cell f0
     have kf4:=HW.out.cell f1
     have kf5:=HW.out.cell f2
     have kf6:=HW.out.cell f3
     have kf7:=HW.out.cell f4
     have kf8:=HW.out.cell f5
     have kf9:=HW.out.cell r0
     have kf10:=HW.out.cell r1
     have kf11:=HW.out.cell r2
     by_cases hs14:q=14
     ·subst hs14
      clear hq'
      clear hsq
      cases ho
      have h12:vs 12=_:=hd ⟨12,.data⟩ (by simp) rfl
      rw[h12] at i12
      have h13:vs 13=_:=hd ⟨13,.data⟩ (by simp) rfl
      rw[h13] at i13
      clear hd
      unfold GivesOp
      go_simp
      refine(HFC3.out W HW.out).mono ?_
      rintro e5 w5 ⟨rfl,hx5⟩
      exact⟨_,rfl,hx5,HW.out.trans hx5,rfl⟩
     by_cases hs15:q=15
     ·subst hs15
      clear hq'
      clear hsq
      cases ho
      have h11:vs 11=_:=hd ⟨11,.data⟩ (by simp) rfl
      rw[h11] at i11
      have h14:vs 14=_:=hd ⟨14,.data⟩ (by simp) rfl
      rw[h14] at i14
      clear hd
      have ht:=HT.out
      unfold GivesOp
      go_simp
      exact⟨Ext.refl _,HW.out,rfl⟩
     rcases hq' with rfl|rfl|rfl|rfl|rfl|rfl|rfl|rfl|rfl|rfl|rfl|rfl|rfl|rfl|rfl|rfl|rfl|rfl
     all_goals first|(exact absurd rfl hs14;done)|(exact absurd rfl hs15;done)|skip
     all_goals
      cases ho
      simp[isDataG,GrP,ver10] at hd
      clear hs14 hs15 hsq
      unfold GivesOp
      go_simp
      exact⟨Ext.refl _,HW.out,rfl⟩
    intro L vs W hLm hW hR
    rw[if_pos (by decide +kernel)]
    have h17:vs 17=.bool T:=hR 17 (by simp) (by omega)
    simp only[acts,dstAt,List.range,List.range.loop,List.foldl_cons,List.foldl_nil,h17]
    go_simp
    have hW2:Ext w4 W:=hW
    clear hR hW hLm h17
    go_wp2_with fail
    go_ret
    exact givesE_bool (by rw[HF.out]) (HX4.out.trans hW2)
   -- a definition
   ·have HSB:=hI (show R=singB p (fun q=>prvF s l f g (l.getD d cla0).cond q&&(p.value==q.value)) by
     rw[HR.out,if_neg (by decide),if_neg (by decide),if_pos rfl,HVV.out d hdf];rfl)
    have HSG2:=hI (HSD.out rfl d hdf)
    obtain⟨B,hB⟩:∃ B,B=singB p (prvF s l f g (l.getD d cla0).cond):=⟨_,rfl⟩
    rw[<-hB] at HSG2
    have HBB:=hI hB
    have HDA:=hI hdf
    clear hat hdf hB HFC HFW HSV HSG HSD HVV HVN HR
    go_enter Tryz.func39,Tryz.ntmps39
    go_upto_region 1 with fail
    rw[<-hwa]
    clear hwa
    go_wp2_with fail
    refine(HDC.out wa HXA.out).mono ?_
    rintro r w3 ⟨hx3,hq⟩
    rcases hq with ⟨-,d',v,hd,rfl,hv⟩|⟨hd,-⟩
    case inr =>
     rcases hd with hd|hd
     ·exact absurd rfl hd
     rw[HDA.out] at hd;cases hd
    rw[HDA.out] at hd
    obtain rfl:d=d':=by simpa using hd
    have HX3:=hI (HXA.out.trans hx3)
    have HEX:=hI hv
    have HB03:=hI (hx3.blk HB0.out)
    have HB23:=hI (hx3.blk HB2.out)
    clear f0 f1 f2 f3 f4 f5 ff e0 e1 e2 ef r0 r1 r2 rf hltw hx3 hv hd
    unfold ExV.val exV at *
    obtain⟨v0,v1,v2,v3,v4,v5,v6,v7,v8,v9⟩:=v
    simp only at *
    go_upto_region 8 with fail
    obtain⟨w4,hw4⟩:∃ w4,w4=w3.alloc (.cells #[.int .i64 v0,.string v1,.slice v2 v3 v4,.int .i64 v5,.int .i64 v6,.slice v7 v8 v9] 26):=⟨_,rfl⟩
    obtain⟨y,hy⟩:∃ y,y=w3.heap.size:=⟨_,rfl⟩
    have hx4:Ext w3 w4:=by rw[hw4];exact(Ext.refl _).alloc _
    have hby:w4.heap[y]?=some (.cells #[.int .i64 v0,.string v1,.slice v2 v3 v4,.int .i64 v5,.int .i64 v6,.slice v7 v8 v9] 26 (0,0)):=by rw[hw4,hy];exact alloc_new w3 _
    rw[<-hw4,<-hy]
    clear hw4 hy
    have HX4:=hI (HX3.out.trans hx4)
    obtain⟨f0,f1,f2,f3,f4,f5,ff⟩:=blk6 hby
    obtain⟨e0,e1,e2,ef⟩:=blk3 (hx4.blk HB03.out)
    obtain⟨r0,r1,r2,rf⟩:=blk3 (hx4.blk HB23.out)
    have HSG3:=hI (fun W (hW:Ext w4 W)=>HSG2.out ⟨v0,v1,v2,v3,v4,v5,v6,v7,v8,v9⟩ W (HX4.out.trans hW) (HEX.out.ext (hx4.trans hW)))
    simp only at HSG3
    clear hx4 HB03 HB23 HSG2 hby
    cases B
    ·have HF:=hI (show R=false by
      rw[HSB.out]
      exact singB_all (fun q _ h=>by simp only[Bool.and_eq_true] at h;exact h.1) HBB.out.symm)
     go_wp2_with fail
     refine wp_region_growS (n:=75) (m:=15) [14] (GrGS w4) GrE (GrP (ver9F w sa sn sc bm fa fn fc y v0 v1 v2 v3 v4 v5 v6 v7 v8 v9 pb pk pa pn pc)) (by kernel_rfl) (by kernel_rfl) (Nat.le_of_ble_eq_true rfl) (fun i=>[5,6,7,8,9,10,11,12].contains i) ?sg ?gd ?sk ((Ext.refl w4).drew) ?_ ?_ ?_
     case sg =>
      intro i o hi hs ho
      rcases ltc15 hi with rfl|rfl|rfl|rfl|rfl|rfl|rfl|rfl|rfl|rfl|rfl|rfl|rfl|rfl|rfl<;>(cases ho;first|(exact absurd hs (by decide);done)|exact nofun)
     case gd =>
      intro i o j b hi ho hg
      rcases ltc15 hi with rfl|rfl|rfl|rfl|rfl|rfl|rfl|rfl|rfl|rfl|rfl|rfl|rfl|rfl|rfl<;>(cases ho;first|(cases hg;done)|(cases hg;intro v W h;first|(rw[if_neg (by decide)];exact h)|(rw[if_pos (by decide)];intro e;first|(rw[show v=.bool false from h] at e;cases e;done)|(rw[show v=.bool true from h] at e;cases e;done)|(rw[show v=undef from h] at e;cases e;done))))
     case sk =>
      intro i hi hs L vs W hiL hG
      rcases ltc15 hi with rfl|rfl|rfl|rfl|rfl|rfl|rfl|rfl|rfl|rfl|rfl|rfl|rfl|rfl|rfl<;>first|(exact absurd hs (by decide);done)|exact⟨Ext.refl W,hG,rfl⟩
     ·intro i k v W W' hi hk hne hout h hE
      have hE:Ext W W':=hE
      have hi':=ltc15 hi
      clear hi hk hne hout
      rcases hi' with rfl|rfl|rfl|rfl|rfl|rfl|rfl|rfl|rfl|rfl|rfl|rfl|rfl|rfl|rfl
      ·exact h
      ·exact h
      ·exact h
      ·exact h
      ·exact h
      ·exact h
      ·exact h
      ·exact h
      ·exact h
      ·exact h
      ·exact h
      ·exact h
      ·exact h
      ·exact h
      exact h
     ·intro q op hq hsq ho L vs W hqL hcL hW hd ρ hρ
      have hq':=ltc15 hq
      clear hq
      have o3:ρ (.tmp 3)=.pointer (some ⟨w.heap.size,0,none⟩):=hρ.out 3 rfl
      have o7:ρ (.tmp 7)=.pointer (some ⟨y,0,none⟩):=hρ.out 7 rfl
      have o5:ρ (.tmp 5)=.pointer (some ⟨w.heap.size+1+1,0,none⟩):=hρ.out 5 rfl
      have i0:=hρ.i 0 44
      have i1:=hρ.i 1 45
      have i2:=hρ.i 2 46
      have i3:=hρ.i 3 47
      have i5:=hρ.i 5 49
      have i7:=hρ.i 7 51
      have i8:=hρ.i 8 52
      have i9:=hρ.i 9 53
      have i10:=hρ.i 10 54
      have i6:=hρ.i 6 50
      have i11:=hρ.i 11 55
      have i4:=hρ.i 4 48
      have i12:=hρ.i 12 56
      have i13:=hρ.i 13 57
      have hc:=hρ.const
      have hfn:=hρ.func
      clear hρ
      have HG:=hI hW
      have HW:=hI (show Ext w4 W from hW)
      have HQL:=hI hqL
      clear hW hqL hcL
      have kf0:=HW.out.cell e0
      have kf1:=HW.out.cell e1
      have kf2:=HW.out.cell e2
      have kf3:=HW.out.cell f0
      have kf4:=HW.out.cell f1
      have kf5:=HW.out.cell f2
      have kf6:=HW.out.cell f3
      have kf7:=HW.out.cell f4
      have kf8:=HW.out.cell f5
      have kf9:=HW.out.cell r0
      have kf10:=HW.out.cell r1
      have kf11:=HW.out.cell r2
      by_cases hs3:q=3
      ·subst hs3
       clear hq'
       clear hsq
       cases ho
       have h0:vs 0=_:=hd ⟨0,.data⟩ (by simp) rfl
       rw[h0] at i0
       have h1:vs 1=_:=hd ⟨1,.data⟩ (by simp) rfl
       rw[h1] at i1
       have h2:vs 2=_:=hd ⟨2,.data⟩ (by simp) rfl
       rw[h2] at i2
       clear hd
       unfold GivesOp
       go_simp
       refine(HSG3.out W HW.out).mono ?_
       rintro e5 w5 ⟨rfl,hx5⟩
       exact⟨_,rfl,hx5,HW.out.trans hx5,rfl⟩
      rcases hq' with rfl|rfl|rfl|rfl|rfl|rfl|rfl|rfl|rfl|rfl|rfl|rfl|rfl|rfl|rfl
      all_goals first|(exact absurd rfl hs3;done)|(exact absurd hsq (by decide);done)|skip
      all_goals
       cases ho
       simp[isDataG,GrP,ver9F] at hd
       clear hs3 hsq
       unfold GivesOp
       go_simp
       exact⟨Ext.refl _,HW.out,rfl⟩
     intro L vs W hLm hW hR
     rw[if_pos (by decide +kernel)]
     have h14:vs 14=.bool false:=hR 14 (by simp) (by omega)
     simp only[acts,dstAt,List.range,List.range.loop,List.foldl_cons,List.foldl_nil,h14]
     go_simp
     have hW2:Ext w4 W:=hW
     clear hR hW hLm h14
     go_wp2_with fail
     go_ret
     exact givesE_bool (by rw[HF.out]) (HX4.out.trans hW2)
    obtain⟨-,q,hq1,hq2⟩:=singB_true HBB.out.symm
    have hn1:pn=1:=by rw[HP3.out,hq1];rfl
    obtain⟨b,off,qv,rfl,hqv,c0,c1,c2⟩:=H6.out 0 (by rw[hq1];simp)
    simp only[Nat.zero_mul,Nat.add_zero] at c0 c1 c2
    subst hn1
    replace c0:=HX4.out.cell c0
    replace c1:=HX4.out.cell c1
    replace c2:=HX4.out.cell c2
    have HQV:=hI (show qv.value=q.value by have:=hqv.parts.1;simpa [hq1] using this)
    obtain⟨qb,qk,qa,qn,qc⟩:=qv
    simp only at c0 c1 c2 HQV
    have HF0:=hI (show R=(pb==qb) by rw[HSB.out,singB_one HBB.out.symm hq1,hq2,Bool.true_and,<-HP1.out,<-HQV.out])
    clear hq1 hq2 hqv
    obtain⟨T,hT⟩:∃ T,T=(pb==qb):=⟨_,rfl⟩
    have HT:=hI hT.symm
    rw[<-hT] at HF0
    clear hT
    go_wp2_with fail
    refine wp_region_growS (n:=75) (m:=15) [14] (GrGS w4) GrE (GrP (ver9T w sa sn sc bm fa fn fc y v0 v1 v2 v3 v4 v5 v6 v7 v8 v9 pb pk b off pc T qb)) (by kernel_rfl) (by kernel_rfl) (Nat.le_of_ble_eq_true rfl) (fun i=>[].contains i) ?sg ?gd ?sk ((Ext.refl w4).drew) ?_ ?_ ?_
    case sg =>
     intro i o hi hs ho
     rcases ltc15 hi with rfl|rfl|rfl|rfl|rfl|rfl|rfl|rfl|rfl|rfl|rfl|rfl|rfl|rfl|rfl<;>(cases ho;first|(exact absurd hs (by decide);done)|exact nofun)
    case gd =>
     intro i o j b hi ho hg
     rcases ltc15 hi with rfl|rfl|rfl|rfl|rfl|rfl|rfl|rfl|rfl|rfl|rfl|rfl|rfl|rfl|rfl<;>(cases ho;first|(cases hg;done)|(cases hg;intro v W h;first|(rw[if_neg (by decide)];exact h)|(rw[if_pos (by decide)];intro e;first|(rw[show v=.bool false from h] at e;cases e;done)|(rw[show v=.bool true from h] at e;cases e;done)|(rw[show v=undef from h] at e;cases e;done))))
    case sk =>
     intro i hi hs L vs W hiL hG
     rcases ltc15 hi with rfl|rfl|rfl|rfl|rfl|rfl|rfl|rfl|rfl|rfl|rfl|rfl|rfl|rfl|rfl<;>first|(exact absurd hs (by decide);done)|exact⟨Ext.refl W,hG,rfl⟩
    ·intro i k v W W' hi hk hne hout h hE
     have hE:Ext W W':=hE
     have hi':=ltc15 hi
     clear hi hk hne hout
     rcases hi' with rfl|rfl|rfl|rfl|rfl|rfl|rfl|rfl|rfl|rfl|rfl|rfl|rfl|rfl|rfl
     ·exact h
     ·exact h
     ·exact h
     ·exact h
     ·exact h
     ·exact h
     ·exact h
     ·exact h
     ·exact h
     ·exact h
     ·exact h
     ·exact h
     ·exact h
     ·exact h
     exact h
    ·intro q op hq hsq ho L vs W hqL hcL hW hd ρ hρ
     have hq':=ltc15 hq
     clear hq
     have o3:ρ (.tmp 3)=.pointer (some ⟨w.heap.size,0,none⟩):=hρ.out 3 rfl
     have o7:ρ (.tmp 7)=.pointer (some ⟨y,0,none⟩):=hρ.out 7 rfl
     have o5:ρ (.tmp 5)=.pointer (some ⟨w.heap.size+1+1,0,none⟩):=hρ.out 5 rfl
     have i0:=hρ.i 0 44
     have i1:=hρ.i 1 45
     have i2:=hρ.i 2 46
     have i3:=hρ.i 3 47
     have i5:=hρ.i 5 49
     have i7:=hρ.i 7 51
     have i8:=hρ.i 8 52
     have i9:=hρ.i 9 53
     have i10:=hρ.i 10 54
     have i6:=hρ.i 6 50
     have i11:=hρ.i 11 55
     have i4:=hρ.i 4 48
     have i12:=hρ.i 12 56
     have i13:=hρ.i 13 57
     have hc:=hρ.const
     have hfn:=hρ.func
     clear hρ
     have HG:=hI hW
     have HW:=hI (show Ext w4 W from hW)
     have HQL:=hI hqL
     clear hW hqL hcL
     have kf0:=HW.out.cell e0
     have kf1:=HW.out.cell e1
     have kf2:=HW.out.cell e2
     have kf3:=HW.out.cell f0
     have kf4:=HW.out.cell f1
     have kf5:=HW.out.cell f2
     have kf6:=HW.out.cell f3
     have kf7:=HW.out.cell f4
     have kf8:=HW.out.cell f5
     have kf9:=HW.out.cell r0
     have kf10:=HW.out.cell r1
     have kf11:=HW.out.cell r2
     have kf12:=HW.out.cell c0
     by_cases hs3:q=3
     ·subst hs3
      clear hq'
      clear hsq
      cases ho
      have h0:vs 0=_:=hd ⟨0,.data⟩ (by simp) rfl
      rw[h0] at i0
      have h1:vs 1=_:=hd ⟨1,.data⟩ (by simp) rfl
      rw[h1] at i1
      have h2:vs 2=_:=hd ⟨2,.data⟩ (by simp) rfl
      rw[h2] at i2
      clear hd
      unfold GivesOp
      go_simp
      refine(HSG3.out W HW.out).mono ?_
      rintro e5 w5 ⟨rfl,hx5⟩
      exact⟨_,rfl,hx5,HW.out.trans hx5,rfl⟩
     by_cases hs12:q=12
     ·subst hs12
      clear hq'
      clear hsq
      cases ho
      have h6:vs 6=_:=hd ⟨6,.data⟩ (by simp) rfl
      rw[h6] at i6
      have h11:vs 11=_:=hd ⟨11,.data⟩ (by simp) rfl
      rw[h11] at i11
      clear hd
      have ht:=HT.out
      unfold GivesOp
      go_simp
      exact⟨Ext.refl _,HW.out,rfl⟩
     rcases hq' with rfl|rfl|rfl|rfl|rfl|rfl|rfl|rfl|rfl|rfl|rfl|rfl|rfl|rfl|rfl
     all_goals first|(exact absurd rfl hs3;done)|(exact absurd rfl hs12;done)|skip
     all_goals
      cases ho
      simp[isDataG,GrP,ver9T] at hd
      clear hs3 hs12 hsq
      unfold GivesOp
      go_simp
      exact⟨Ext.refl _,HW.out,rfl⟩
    intro L vs W hLm hW hR
    rw[if_pos (by decide +kernel)]
    have h14:vs 14=.bool T:=hR 14 (by simp) (by omega)
    simp only[acts,dstAt,List.range,List.range.loop,List.foldl_cons,List.foldl_nil,h14]
    go_simp
    have hW2:Ext w4 W:=hW
    clear hR hW hLm h14
    go_wp2_with fail
    go_ret
    exact givesE_bool (by rw[HF0.out]) (HX4.out.trans hW2)
   -- not
   ·have hj:0 < args.length:=by omega
    have HSB:=hI (show R=singB p (fun q=>prvE s f V args[0] q&&(p.value==!q.value)) by
     rw[HR.out,if_pos rfl];unfold singB;simp only[prvAt_get,List.getElem?_eq_getElem hj,Option.map_some,Option.getD_some])
    have hnp:0 < na:=by have:=HNA.out;omega
    obtain⟨xb,xo,rfl,aw1,nw1,cw1,aa1,na1,ca1,g0,g1,g2,g3,g4,g5,g6⟩:=ExsD.at args _ (ExsD.ext HXA.out args _ HX.out) 0 hj
    simp only[Nat.zero_mul,Nat.add_zero] at g0 g1 g2 g3 g4 g5
    have G6:=hI g6
    have HSG3:=hI (fun W (hW:Ext wa W)=>HSG.out hj ⟨args[0].op,args[0].name,aw1,nw1,cw1,args[0].lo,args[0].hi,aa1,na1,ca1⟩ W (HXA.out.trans hW) (G6.out.ext hW))
    unfold ExV.val exV at HSG3
    simp only at HSG3
    obtain⟨B,hB⟩:∃ B,B=singB p (prvE s f V args[0]):=⟨_,rfl⟩
    rw[<-hB] at HSG3
    have HBB:=hI hB
    obtain⟨x0,hx0⟩:∃ x0,x0=args[0].op:=⟨_,rfl⟩
    obtain⟨x1,hx1⟩:∃ x1,x1=args[0].name:=⟨_,rfl⟩
    obtain⟨x5,hx5⟩:∃ x5,x5=args[0].lo:=⟨_,rfl⟩
    obtain⟨x6,hx6⟩:∃ x6,x6=args[0].hi:=⟨_,rfl⟩
    rw[<-hx0] at g0 HSG3
    rw[<-hx1] at g1 HSG3
    rw[<-hx5] at g3 HSG3
    rw[<-hx6] at g4 HSG3
    clear hl1 hB g6 HFC HFW HSV HSG HSD HVV HVN HR HDC hx0 hx1 hx5 hx6
    go_enter Tryz.func39,Tryz.ntmps39
    go_upto_region 1 with fail
    rw[<-hwa]
    clear hwa
    cases B
    ·have HF:=hI (show R=false by
      rw[HSB.out]
      exact singB_all (fun q _ h=>by simp only[Bool.and_eq_true] at h;exact h.1) HBB.out.symm)
     go_wp2_with fail
     refine wp_region_growS (n:=75) (m:=18) [17] (GrGS wa) GrE (GrP (ver3F w sa sn sc bm fa fn fc name aw nw cw lo hi na ca xb xo x0 x1 aw1 nw1 cw1 x5 x6 aa1 na1 ca1 pb pk pa pn pc)) (by kernel_rfl) (by kernel_rfl) (Nat.le_of_ble_eq_true rfl) (fun i=>[8,9,10,11,12,13,14,15].contains i) ?sg ?gd ?sk ((Ext.refl wa).drew) ?_ ?_ ?_
     case sg =>
      intro i o hi hs ho
      rcases ltc18 hi with rfl|rfl|rfl|rfl|rfl|rfl|rfl|rfl|rfl|rfl|rfl|rfl|rfl|rfl|rfl|rfl|rfl|rfl<;>(cases ho;first|(exact absurd hs (by decide);done)|exact nofun)
     case gd =>
      intro i o j b hi ho hg
      rcases ltc18 hi with rfl|rfl|rfl|rfl|rfl|rfl|rfl|rfl|rfl|rfl|rfl|rfl|rfl|rfl|rfl|rfl|rfl|rfl<;>(cases ho;first|(cases hg;done)|(cases hg;intro v W h;first|(rw[if_neg (by decide)];exact h)|(rw[if_pos (by decide)];intro e;first|(rw[show v=.bool false from h] at e;cases e;done)|(rw[show v=.bool true from h] at e;cases e;done)|(rw[show v=undef from h] at e;cases e;done))))
     case sk =>
      intro i hi hs L vs W hiL hG
      rcases ltc18 hi with rfl|rfl|rfl|rfl|rfl|rfl|rfl|rfl|rfl|rfl|rfl|rfl|rfl|rfl|rfl|rfl|rfl|rfl<;>first|(exact absurd hs (by decide);done)|exact⟨Ext.refl W,hG,rfl⟩
     ·intro i k v W W' hi hk hne hout h hE
      have hE:Ext W W':=hE
      have hi':=ltc18 hi
      clear hi hk hne hout
      rcases hi' with rfl|rfl|rfl|rfl|rfl|rfl|rfl|rfl|rfl|rfl|rfl|rfl|rfl|rfl|rfl|rfl|rfl|rfl
      ·exact h
      ·exact h
      ·exact h
      ·exact h
      ·exact h
      ·exact h
      ·exact h
      ·exact h
      ·exact h
      ·exact h
      ·exact h
      ·exact h
      ·exact h
      ·exact h
      ·exact h
      ·exact h
      ·exact h
      exact h
     ·intro q op hq hsq ho L vs W hqL hcL hW hd ρ hρ
      have hq':=ltc18 hq
      clear hq
      have o3:ρ (.tmp 3)=.pointer (some ⟨w.heap.size,0,none⟩):=hρ.out 3 rfl
      have o4:ρ (.tmp 4)=.pointer (some ⟨w.heap.size+1,0,none⟩):=hρ.out 4 rfl
      have i1:=hρ.i 1 14
      have i2:=hρ.i 2 15
      have i3:=hρ.i 3 16
      have o5:ρ (.tmp 5)=.pointer (some ⟨w.heap.size+1+1,0,none⟩):=hρ.out 5 rfl
      have i0:=hρ.i 0 13
      have i4:=hρ.i 4 17
      have i5:=hρ.i 5 18
      have i6:=hρ.i 6 19
      have i8:=hρ.i 8 21
      have i10:=hρ.i 10 23
      have i11:=hρ.i 11 24
      have i12:=hρ.i 12 25
      have i13:=hρ.i 13 26
      have i9:=hρ.i 9 22
      have i14:=hρ.i 14 27
      have i7:=hρ.i 7 20
      have i15:=hρ.i 15 28
      have i16:=hρ.i 16 29
      have hc:=hρ.const
      have hfn:=hρ.func
      clear hρ
      have HG:=hI hW
      have HW:=hI (show Ext wa W from hW)
      have HQL:=hI hqL
      clear hW hqL hcL
      have kf0:=HW.out.cell e0
      have kf1:=HW.out.cell e1
      have kf2:=HW.out.cell e2
      have kf3:=HW.out.cell f5
      have kf4:=HW.out.cell g0
      have kf5:=HW.out.cell g1
      have kf6:=HW.out.cell g2
      have kf7:=HW.out.cell g3
      have kf8:=HW.out.cell g4
      have kf9:=HW.out.cell g5
      have kf10:=HW.out.cell r0
      have kf11:=HW.out.cell r1
      have kf12:=HW.out.cell r2
      by_cases hs6:q=6
      ·subst hs6
       clear hq'
       clear hsq
       cases ho
       have h0:vs 0=_:=hd ⟨0,.data⟩ (by simp) rfl
       rw[h0] at i0
       have h4:vs 4=_:=hd ⟨4,.data⟩ (by simp) rfl
       rw[h4] at i4
       have h5:vs 5=_:=hd ⟨5,.data⟩ (by simp) rfl
       rw[h5] at i5
       clear hd
       unfold GivesOp
       go_simp
       refine(HSG3.out W HW.out).mono ?_
       rintro e5 w5 ⟨rfl,hx5⟩
       exact⟨_,rfl,hx5,HW.out.trans hx5,rfl⟩
      rcases hq' with rfl|rfl|rfl|rfl|rfl|rfl|rfl|rfl|rfl|rfl|rfl|rfl|rfl|rfl|rfl|rfl|rfl|rfl
      all_goals first|(exact absurd rfl hs6;done)|(exact absurd hsq (by decide);done)|skip
      all_goals
       cases ho
       simp[isDataG,GrP,ver3F] at hd
       clear hs6 hsq
       unfold GivesOp
       go_simp
       exact⟨Ext.refl _,HW.out,rfl⟩
     intro L vs W hLm hW hR
     rw[if_pos (by decide +kernel)]
     have h17:vs 17=.bool false:=hR 17 (by simp) (by omega)
     simp only[acts,dstAt,List.range,List.range.loop,List.foldl_cons,List.foldl_nil,h17]
     go_simp
     have hW2:Ext wa W:=hW
     clear hR hW hLm h17
     go_wp2_with fail
     go_ret
     exact givesE_bool (by rw[HF.out]) (HXA.out.trans hW2)
    obtain⟨-,q,hq1,hq2⟩:=singB_true HBB.out.symm
    have hn1:pn=1:=by rw[HP3.out,hq1];rfl
    obtain⟨b,off,qv,rfl,hqv,c0,c1,c2⟩:=H6.out 0 (by rw[hq1];simp)
    simp only[Nat.zero_mul,Nat.add_zero] at c0 c1 c2
    subst hn1
    replace c0:=HXA.out.cell c0
    replace c1:=HXA.out.cell c1
    replace c2:=HXA.out.cell c2
    have HQV:=hI (show qv.value=q.value by have:=hqv.parts.1;simpa [hq1] using this)
    obtain⟨qb,qk,qa,qn,qc⟩:=qv
    simp only at c0 c1 c2 HQV
    have HF0:=hI (show R=(!(pb==qb)) by rw[HSB.out,singB_one HBB.out.symm hq1,hq2,Bool.true_and,<-HP1.out,<-HQV.out];cases pb<;>cases qb<;>rfl)
    clear hq1 hq2 hqv
    go_wp2_with fail
    refine wp_region_growS (n:=75) (m:=18) [17] (GrGS wa) GrE (GrP (ver3T w sa sn sc bm fa fn fc name aw nw cw lo hi na ca xb xo x0 x1 aw1 nw1 cw1 x5 x6 aa1 na1 ca1 pb pk b off pc qb)) (by kernel_rfl) (by kernel_rfl) (Nat.le_of_ble_eq_true rfl) (fun i=>[].contains i) ?sg ?gd ?sk ((Ext.refl wa).drew) ?_ ?_ ?_
    case sg =>
     intro i o hi hs ho
     rcases ltc18 hi with rfl|rfl|rfl|rfl|rfl|rfl|rfl|rfl|rfl|rfl|rfl|rfl|rfl|rfl|rfl|rfl|rfl|rfl<;>(cases ho;first|(exact absurd hs (by decide);done)|exact nofun)
    case gd =>
     intro i o j b hi ho hg
     rcases ltc18 hi with rfl|rfl|rfl|rfl|rfl|rfl|rfl|rfl|rfl|rfl|rfl|rfl|rfl|rfl|rfl|rfl|rfl|rfl<;>(cases ho;first|(cases hg;done)|(cases hg;intro v W h;first|(rw[if_neg (by decide)];exact h)|(rw[if_pos (by decide)];intro e;first|(rw[show v=.bool false from h] at e;cases e;done)|(rw[show v=.bool true from h] at e;cases e;done)|(rw[show v=undef from h] at e;cases e;done))))
    case sk =>
     intro i hi hs L vs W hiL hG
     rcases ltc18 hi with rfl|rfl|rfl|rfl|rfl|rfl|rfl|rfl|rfl|rfl|rfl|rfl|rfl|rfl|rfl|rfl|rfl|rfl<;>first|(exact absurd hs (by decide);done)|exact⟨Ext.refl W,hG,rfl⟩
    ·intro i k v W W' hi hk hne hout h hE
     have hE:Ext W W':=hE
     have hi':=ltc18 hi
     clear hi hk hne hout
     rcases hi' with rfl|rfl|rfl|rfl|rfl|rfl|rfl|rfl|rfl|rfl|rfl|rfl|rfl|rfl|rfl|rfl|rfl|rfl
     ·exact h
     ·exact h
     ·exact h
     ·exact h
     ·exact h
     ·exact h
     ·exact h
     ·exact h
     ·exact h
     ·exact h
     ·exact h
     ·exact h
     ·exact h
     ·exact h
     ·exact h
     ·exact h
     ·exact h
     exact h
    ·intro q op hq hsq ho L vs W hqL hcL hW hd ρ hρ
     have hq':=ltc18 hq
     clear hq
     have o3:ρ (.tmp 3)=.pointer (some ⟨w.heap.size,0,none⟩):=hρ.out 3 rfl
     have o4:ρ (.tmp 4)=.pointer (some ⟨w.heap.size+1,0,none⟩):=hρ.out 4 rfl
     have i1:=hρ.i 1 14
     have i2:=hρ.i 2 15
     have i3:=hρ.i 3 16
     have o5:ρ (.tmp 5)=.pointer (some ⟨w.heap.size+1+1,0,none⟩):=hρ.out 5 rfl
     have i0:=hρ.i 0 13
     have i4:=hρ.i 4 17
     have i5:=hρ.i 5 18
     have i6:=hρ.i 6 19
     have i8:=hρ.i 8 21
     have i10:=hρ.i 10 23
     have i11:=hρ.i 11 24
     have i12:=hρ.i 12 25
     have i13:=hρ.i 13 26
     have i9:=hρ.i 9 22
     have i14:=hρ.i 14 27
     have i7:=hρ.i 7 20
     have i15:=hρ.i 15 28
     have i16:=hρ.i 16 29
     have hc:=hρ.const
     have hfn:=hρ.func
     clear hρ
     have HG:=hI hW
     have HW:=hI (show Ext wa W from hW)
     have HQL:=hI hqL
     clear hW hqL hcL
     have kf0:=HW.out.cell e0
     have kf1:=HW.out.cell e1
     have kf2:=HW.out.cell e2
     have kf3:=HW.out.cell f5
     have kf4:=HW.out.cell g0
     have kf5:=HW.out.cell g1
     have kf6:=HW.out.cell g2
     have kf7:=HW.out.cell g3
     have kf8:=HW.out.cell g4
     have kf9:=HW.out.cell g5
     have kf10:=HW.out.cell r0
     have kf11:=HW.out.cell r1
     have kf12:=HW.out.cell r2
     have kf13:=HW.out.cell c0
     by_cases hs6:q=6
     ·subst hs6
      clear hq'
      clear hsq
      cases ho
      have h0:vs 0=_:=hd ⟨0,.data⟩ (by simp) rfl
      rw[h0] at i0
      have h4:vs 4=_:=hd ⟨4,.data⟩ (by simp) rfl
      rw[h4] at i4
      have h5:vs 5=_:=hd ⟨5,.data⟩ (by simp) rfl
      rw[h5] at i5
      clear hd
      unfold GivesOp
      go_simp
      refine(HSG3.out W HW.out).mono ?_
      rintro e5 w5 ⟨rfl,hx5⟩
      exact⟨_,rfl,hx5,HW.out.trans hx5,rfl⟩
     rcases hq' with rfl|rfl|rfl|rfl|rfl|rfl|rfl|rfl|rfl|rfl|rfl|rfl|rfl|rfl|rfl|rfl|rfl|rfl
     all_goals first|(exact absurd rfl hs6;done)|skip
     all_goals
      cases ho
      simp[isDataG,GrP,ver3T] at hd
      clear hs6 hsq
      unfold GivesOp
      go_simp
      exact⟨Ext.refl _,HW.out,rfl⟩
    intro L vs W hLm hW hR
    rw[if_pos (by decide +kernel)]
    have h17:vs 17=.bool (!(pb==qb)):=hR 17 (by simp) (by omega)
    simp only[acts,dstAt,List.range,List.range.loop,List.foldl_cons,List.foldl_nil,h17]
    go_simp
    have hW2:Ext wa W:=hW
    clear hR hW hLm h17
    go_wp2_with fail
    go_ret
    exact givesE_bool (by rw[HF0.out]) (HXA.out.trans hW2)
   -- and,or
   have HQ:=hI (show R=sevB s f V op args p by rw[HR.out,if_neg (by omega),if_pos h78])
   obtain⟨B,hB⟩:∃ B,B=sevB s f V op args p:=⟨_,rfl⟩
   rw[<-hB] at HQ HSV
   clear hB HFC HFW HSG HSD HVV HVN HR HDC
   rcases h78 with rfl|rfl
   all_goals
    go_enter Tryz.func39,Tryz.ntmps39
    go_upto_region 1 with fail
    rw[<-hwa]
    clear hwa
    go_wp2_with fail
    refine(HSV.out wa HXA.out).mono ?_
    rintro r w6 ⟨rfl,hx6⟩
    have HX6:=hI (HXA.out.trans hx6)
    clear hx6
    go_wp2_with fail
    go_ret
    exact givesE_bool (by rw[HQ.out]) HX6.out
open Go.RowKit
def pcd:BA:=⟨#[99,45]⟩
theorem new_callsB (la:OA) (ln lc:Nat) (w0 w:World) (h:IntsAt w0 la ln) (hx:Ext w0 w) (hl:ln<=1000000000000000):Calls Tryz.prog 20 #[.slice la ln lc] w (fun e w'=>∃ bd,e=.returned (.pointer (some ⟨bd,0,none⟩))/\DeckAt w0 w' bd/\Ext w w'/\w.heap.size<=bd):=by
 have HX:=hI hx
 clear hx
 go_enter Tryz.func20,Tryz.ntmps20
 go_wp2_with fail
 go_ret
 exact⟨w.heap.size,rfl,⟨la,ln,lc,0,alloc_new w _,by omega,hl,h,HX.out.trans ((Ext.refl w).alloc _),HX.out.size⟩,(Ext.refl w).alloc _,Nat.le_refl _⟩
end Go.Proofs.YtpkljcgihobaiaaGreatDoor
