/-
  Texts of the claim, joined: SVal, Facts, RNode, RNodes, RExp, Prf, Prf2, Prf3.
-/
import Derived.Test.YtpkljcgihobaiaaGreatDoorVe08
import Derived.StillTailTactics
namespace Go.Proofs.YtpkljcgihobaiaaGreatDoor
set_option maxRecDepth 100000
set_option maxHeartbeats 32000000
open Go.RowKit
def wordsErr (l:ZB):Int:=if l.length=0 then 19 else if 12 < l.length then 4 else if l.all nameB=false then 6 else if decide l.Nodup=false then 8 else 0
theorem attrErr_word (a:Attr) (h:a.kind=1):attrErr a=if a.lo≠0\/a.hi≠0 then 20 else wordsErr a.words:=by
 unfold attrErr wordsErr;rw[if_pos h]
theorem nodup_snoc {l:ZB} {k:Nat} (hk:k < l.length) (h:(l.take k).Nodup) (h2:l[k]∉l.take k):(l.take (k+1)).Nodup:=by
 rw[List.take_succ_eq_append_getElem hk,List.nodup_append]
 exact⟨h,by simp,fun a ha b hb=>by simp at hb;subst hb;intro e;subst e;exact h2 ha⟩
theorem not_nodup {l:ZB} {k:Nat} (hk:k < l.length) (h:l[k]∈l.take k):¬ l.Nodup:=by
 intro h4
 have:(l.take (k+1)).Nodup:=h4.sublist (List.take_sublist _ _)
 rw[List.take_succ_eq_append_getElem hk,List.nodup_append] at this
 exact absurd rfl (this.2.2 _ h _ (by simp))
theorem swords_calls (l:ZB) (a:OA) (n c:Nat) (w:World) (hl:IsStrs w l a n c) (hn2:n<=1000000000000000) (hsz:∀ x∈l,x.size<=1000000000000000) :
  Calls Tryz.prog 111 #[.slice a n c] w (Gives (.int .i64 (wordsErr l)) w):=by
 have HL:=hI hl
 have HZ:=hI hsz
 have HN:=hI hl.1
 have hnc:=hl.2.1
 clear hl hsz
 by_cases h0:n=0
 ·have H:=hI (show wordsErr l=19 by unfold wordsErr;rw[if_pos (by have:=HN.out;omega)])
  have hz:((n:Int)==0)=true:=by simp[h0]
  clear h0
  go_enter Tryz.func111,Tryz.ntmps111
  go_wp2_with fail
  go_ret
  exact gives_int (by rw[H.out])
 have hz:((n:Int)==0)=false:=by simp[h0]
 by_cases h12:12 < n
 ·have H:=hI (show wordsErr l=4 by unfold wordsErr;rw[if_neg (by have:=HN.out;omega),if_pos (by have:=HN.out;omega)])
  have t12:decide ((12:Int) < (n:Int))=true:=decide_eq_true (by omega)
  go_enter Tryz.func111,Tryz.ntmps111
  go_wp2_with fail
  go_ret
  exact gives_int (by rw[H.out])
 have t12:decide ((12:Int) < (n:Int))=false:=decide_eq_false (by omega)
 have HE:=hI (show wordsErr l=if l.all nameB=false then 6 else if decide l.Nodup=false then 8 else 0 by unfold wordsErr;rw[if_neg (by have:=HN.out;omega),if_neg (by have:=HN.out;omega)])
 obtain⟨E,hE⟩:∃ E,E=wordsErr l:=⟨_,rfl⟩
 rw[<-hE] at HE ⊢
 clear hE
 go_enter Tryz.func111,Tryz.ntmps111
 go_wp2_with fail
 go_loop [15] (fun t=>∃ k:Nat,t=.int .i64 k/\k<=n/\∀ j (h:j < l.length),j < k->nameB l[j]=true) (fun t=>n - (intOf t).toNat)
 case atStart=>exact⟨0,rfl,by omega,fun j _ h=>by omega⟩
 case round =>
  obtain⟨k,rfl,hk,hall⟩:=hrel
  have HA:=hI hall
  clear hall
  by_cases hlt:k < n
  ·have hlt':k < l.length:=by have:=HN.out;omega
   have t1:decide ((k:Int) < (n:Int))=true:=decide_eq_true (by omega)
   have hsk:=HZ.out _ (List.getElem_mem hlt')
   obtain⟨b,off,rfl,hcell⟩:=HL.out.2.2.2 k hlt'
   cases h3:nameB l[k]
   ·have H:=hI (show E=6 by
     rw[HE.out,if_pos]
     rw[List.all_eq_false]
     exact⟨l[k],List.getElem_mem hlt',by rw[h3];simp⟩)
    have H3:=hI h3
    clear h3
    go_wp2_with fail
    refine(name_calls _ _ hsk).mono ?_
    rintro e w' ⟨rfl,rfl⟩
    rw[H3.out]
    go_wp2_with fail
    go_ret
    exact gives_int (by rw[H.out])
   have H3:=hI h3
   clear h3
   go_wp2_with fail
   refine(name_calls _ _ hsk).mono ?_
   rintro e w' ⟨rfl,rfl⟩
   rw[H3.out]
   go_wp2_with fail
   go_round
   case rel =>
    refine⟨k+1,by go_num,by omega,fun j hj hjk=>?_⟩
    by_cases e:j=k
    ·subst e;exact H3.out
    exact HA.out j hj (by omega)
   case measure=>simp[intOf];omega
  have t1:decide ((k:Int) < (n:Int))=false:=decide_eq_false (by omega)
  have HE2:=hI (show E=if decide l.Nodup=false then 8 else 0 by
   rw[HE.out,if_neg]
   rw[Bool.not_eq_false,List.all_eq_true]
   intro x hx
   obtain⟨j,hj,rfl⟩:=List.mem_iff_getElem.1 hx
   exact HA.out j hj (by have:=HN.out;omega))
  clear HE HA
  go_wp2_with fail
  go_loop [25] (fun t=>∃ k:Nat,t=.int .i64 k/\k<=n/\(l.take k).Nodup) (fun t=>n - (intOf t).toNat)
  case atStart=>exact⟨0,rfl,by omega,by simp⟩
  case round =>
   obtain⟨m,rfl,hm,hno⟩:=hrel
   have HNO:=hI hno
   clear hno
   by_cases hmt:m < n
   ·have hmt':m < l.length:=by have:=HN.out;omega
    have t2:decide ((m:Int) < (n:Int))=true:=decide_eq_true (by omega)
    have HT:=hI (HL.out.take hm)
    obtain⟨b,off,rfl,hcell⟩:=HL.out.2.2.2 m hmt'
    by_cases h4:l[m]∈l.take m
    ·have H:=hI (show E=8 by rw[HE2.out,if_pos (by simpa using not_nodup hmt' h4)])
     have H4:=hI h4
     clear h4
     go_wp2_with fail
     refine(contains_calls _ _ _ _ _ _ (by omega) HT.out).mono ?_
     rintro e w' ⟨rfl,rfl⟩
     rw[decide_eq_true H4.out]
     go_wp2_with fail
     go_ret
     exact gives_int (by rw[H.out])
    have H4:=hI h4
    clear h4
    go_wp2_with fail
    refine(contains_calls _ _ _ _ _ _ (by omega) HT.out).mono ?_
    rintro e w' ⟨rfl,rfl⟩
    rw[decide_eq_false H4.out]
    go_wp2_with fail
    go_round
    case rel=>exact⟨m+1,by go_num,by omega,nodup_snoc hmt' HNO.out H4.out⟩
    case measure=>simp[intOf];omega
   have t2:decide ((m:Int) < (n:Int))=false:=decide_eq_false (by omega)
   have H:=hI (show E=0 by
    have h5:=HNO.out
    rw[List.take_of_length_le (by have:=HN.out;omega)] at h5
    rw[HE2.out,if_neg (by simpa using h5)])
   go_wp2_with fail
   go_ret
   exact gives_int (by rw[H.out])
theorem numberB_iff (n:Int):numberB n=false ↔ n < -1000000000\/1000000000 < n:=by simp[numberB];omega
theorem sattr_calls (x:Attr) (aw:OA) (nw cw:Nat) (w:World) (hw:IsStrs w x.words aw nw cw) (hf:x.fits) :
  Calls Tryz.prog 91 #[.agg #[.string x.name,.int .i64 x.kind,.slice aw nw cw,.int .i64 x.lo,.int .i64 x.hi]] w (GivesE (.int .i64 (attrErr x)) w):=by
 have HW:=hI hw
 have HF:=hI hf
 have hnw:=hw.1
 have hnl:nw<=1000000000000000:=by rw[hnw];exact hf.2.1
 have HNW:=hI hnw
 clear hw hf hnw
 obtain⟨name,kind,words,lo,hi⟩:=x
 simp only at *
 obtain⟨E,hE⟩:∃ E,E=attrErr ⟨name,kind,words,lo,hi⟩:=⟨_,rfl⟩
 rw[<-hE]
 by_cases h1:kind=1
 ·subst h1
  rw[attrErr_word _ rfl] at hE
  simp only at hE
  have HE:=hI hE
  clear hE
  have HWC:=hI (swords_calls words aw nw cw (w.alloc (.cells #[.string name,.int .i64 1,.slice aw nw cw,.int .i64 lo,.int .i64 hi] 85)) (HW.out.ext ((Ext.refl w).alloc _)) hnl HF.out.2.2)
  by_cases hlo:lo=0
  ·have t1:(lo != 0)=false:=by simp[hlo]
   by_cases hhi:hi=0
   ·have t2:(hi != 0)=false:=by simp[hhi]
    have HQ:=hI (show E=wordsErr words by rw[HE.out,if_neg (by simp[hlo,hhi])])
    clear HE hlo hhi
    go_enter Tryz.func91,Tryz.ntmps91
    go_wp2_with fail
    refine HWC.out.mono ?_
    rintro e w' ⟨rfl,rfl⟩
    go_wp2_with fail
    go_ret
    exact givesE_of (by rw[HQ.out]) ((Ext.refl w).alloc _)
   have t2:(hi != 0)=true:=by simp[hhi]
   have HQ:=hI (show E=20 by rw[HE.out,if_pos (Or.inr hhi)])
   clear HE hlo hhi
   go_enter Tryz.func91,Tryz.ntmps91
   go_wp2_with fail
   go_ret
   exact givesE_of (by rw[HQ.out]) ((Ext.refl w).alloc _)
  have t1:(lo != 0)=true:=by simp[hlo]
  have HQ:=hI (show E=20 by rw[HE.out,if_pos (Or.inl hlo)])
  clear HE hlo
  go_enter Tryz.func91,Tryz.ntmps91
  go_wp2_with fail
  go_ret
  exact givesE_of (by rw[HQ.out]) ((Ext.refl w).alloc _)
 have e1:(kind==1)=false:=by simp[h1]
 by_cases h2:kind=2
 ·subst h2
  have HE:=hI (show E=if 0 < nw then 20 else if hi < lo\/(lo < -1000000000\/1000000000 < lo)\/(hi < -1000000000\/1000000000 < hi) then 1 else 0 by
   rw[hE]
   have k1:=numberB_iff lo
   have k2:=numberB_iff hi
   simp only[attrErr,farB,Bool.not_eq_true',k1,k2]
   rw[if_neg (by omega),if_pos trivial,<-HNW.out])
  clear hE
  go_enter Tryz.func91,Tryz.ntmps91
  go_wp2_with fail
  all_goals (go_ret;exact givesE_of (by rw[HE.out];simp_all<;>omega) ((Ext.refl w).alloc _))
 have e2:(kind==2)=false:=by simp[h2]
 by_cases h3:kind=3
 ·subst h3
  have HE:=hI (show E=if 0 < nw\/lo≠0\/hi≠0 then 20 else 0 by
   rw[hE]
   simp only[attrErr]
   rw[if_neg (by omega),if_neg (by omega),if_pos trivial,<-HNW.out])
  clear hE
  go_enter Tryz.func91,Tryz.ntmps91
  go_wp2_with fail
  all_goals (go_ret;exact givesE_of (by rw[HE.out];simp_all<;>omega) ((Ext.refl w).alloc _))
 have e3:(kind==3)=false:=by simp[h3]
 have HE:=hI (show E=11 by
  rw[hE]
  simp only[attrErr]
  rw[if_neg h1,if_neg h2,if_neg h3])
 clear hE
 go_enter Tryz.func91,Tryz.ntmps91
 go_wp2_with fail
 go_ret
 exact givesE_of (by rw[HE.out]) ((Ext.refl w).alloc _)
theorem attr_dup {s:List Attr} {k:Nat} (hk:k < s.length):∃ f,attrAt s s[k].name=some f/\f<=k/\((s.take k).any (fun b=>decide (b.name=s[k].name))=decide (f < k)):=by
 cases h:attrAt s s[k].name with
 | none =>
  unfold attrAt at h
  rw[List.findIdx?_eq_none_iff] at h
  have:=h s[k] (List.getElem_mem hk)
  simp at this
 | some f =>
  unfold attrAt at h
  rw[List.findIdx?_eq_some_iff_getElem] at h
  obtain⟨hf,h1,h2⟩:=h
  have hfk:f<=k:=by
   rcases Nat.lt_or_ge k f with h3|h3
   ·have:=h2 k h3
    simp at this
   exact h3
  refine⟨f,rfl,hfk,?_⟩
  by_cases h3:f < k
  ·rw[decide_eq_true h3,List.any_eq_true]
   exact⟨s[f],List.mem_iff_getElem.2 ⟨f,by simp;omega,by simp⟩,h1⟩
  rw[decide_eq_false h3,List.any_eq_false]
  intro y hy
  obtain⟨j,hj,rfl⟩:=List.mem_iff_getElem.1 hy
  have hjk:j < k:=by simp at hj;omega
  have:=h2 j (by omega)
  simpa using this
theorem sValidate_calls (s:List Attr) (v:Value) (w:World) (hs:IsSchema w s v) (hf:∀ x∈s,x.fits) (hl:s.length<=1000000000000000) :
  Calls Tryz.prog 69 #[v] w (GivesE (.int .i64 (schemaErr s)) w):=by
 obtain⟨a,n,c,rfl,hn,hnc,hoa,hat⟩:=hs.parts
 have HS:=hI hs
 have HN:=hI hn
 have HF:=hI hf
 have hn2:n<=1000000000000000:=by omega
 clear hs hn hat hnc hoa hf
 by_cases h0:n=0
 ·have t0:((n:Int)==0)=true:=by simp[h0]
  have HE:=hI (show schemaErr s=19 by unfold schemaErr;rw[<-HN.out,if_pos h0])
  clear h0
  go_enter Tryz.func69,Tryz.ntmps69
  go_wp2_with fail
  go_ret
  exact givesE_of (by rw[HE.out]) ((Ext.refl w).alloc _)
 have t0:((n:Int)==0)=false:=by simp[h0]
 by_cases h6:6 < n
 ·have t6:decide ((6:Int) < (n:Int))=true:=decide_eq_true (by omega)
  have HE:=hI (show schemaErr s=4 by unfold schemaErr;rw[<-HN.out,if_neg h0,if_pos h6])
  go_enter Tryz.func69,Tryz.ntmps69
  go_wp2_with fail
  go_ret
  exact givesE_of (by rw[HE.out]) ((Ext.refl w).alloc _)
 have t6:decide ((6:Int) < (n:Int))=false:=decide_eq_false (by omega)
 have HE:=hI (show schemaErr s=(firstI (attrIErr s) n).2 by unfold schemaErr;rw[<-HN.out,if_neg h0,if_neg h6])
 go_enter Tryz.func69,Tryz.ntmps69
 go_wp2_with fail
 go_loopw [19] (SchI s n a c w) (fun t _=>n - (intOf t).toNat)
 case atStart=>exact⟨0,rfl,by omega,fun j h=>by omega,alloc_new w _,(Ext.refl w).alloc _⟩
 case round =>
  obtain⟨k,rfl,hk,hno,hbx,hx⟩:=hrel
  obtain⟨wo,rfl⟩:∃ wo:World,wo=wr:=⟨_,rfl⟩
  have HNO:=hI hno
  have HBX:=hI hbx
  have HX:=hI hx
  obtain⟨bb0,bbf⟩:=blk1 hbx
  have hlt0:=blk_lt hbx
  clear hno hbx hx
  by_cases hkn:k < n
  ·have hks:k < s.length:=by have:=HN.out;omega
   obtain⟨a',n',c',e',hx1,hx2,hx3,hat⟩:=(HS.out.ext HX.out).parts
   simp only[Value.agg.injEq,Array.mk.injEq,List.cons.injEq,Value.slice.injEq,and_true] at e'
   obtain⟨rfl,rfl,rfl⟩:=e'
   clear hx1 hx2 hx3
   obtain⟨b,off,rfl,aw,nw,cw,h0,h1,h2,h3,h4,h5⟩:=hat k hks
   have H5:=hI h5
   have t1:decide ((k:Int) < (n:Int))=true:=decide_eq_true (by omega)
   have hfk:=HF.out _ (List.getElem_mem hks)
   have hfn:=hfk.1
   have HFK:=hI hfk
   obtain⟨f,hfa,hfle,hfany⟩:=attr_dup hks
   have HAI:=hI (show attrIErr s k=if nameB s[k].name=false then 6 else if decide (f < k)=true then 8 else attrErr s[k] by unfold attrIErr;rw[getD_attr hks,hfany])
   have HFA:=hI hfa
   clear hat h5 hfk hfa hfany
   obtain⟨wa,hwa⟩:∃ wa,wa=wo.alloc (.cells #[.string s[k].name,.int .i64 s[k].kind,.slice aw nw cw,.int .i64 s[k].lo,.int .i64 s[k].hi] 85):=⟨_,rfl⟩
   have hxa:Ext wo wa:=by rw[hwa];exact(Ext.refl _).alloc _
   have hba:wa.heap[wo.heap.size]?=some (.cells #[.string s[k].name,.int .i64 s[k].kind,.slice aw nw cw,.int .i64 s[k].lo,.int .i64 s[k].hi] 85 (0,0)):=by rw[hwa];exact alloc_new wo _
   have HXA:=hI hxa
   have HBA:=hI hba
   have HB2:=hI (hxa.blk HBX.out)
   clear hxa hba
   cases hnb:nameB s[k].name
   ·have HNB:=hI hnb
    have HR:=hI (show schemaErr s=6 by
     rw[HE.out,firstI_hit (k:=k) (by rw[HAI.out,if_pos hnb];omega) HNO.out n hkn]
     show attrIErr s k=6
     rw[HAI.out,if_pos hnb])
    clear hnb HE
    go_wp2_with fail
    rw[<-hwa]
    clear hwa
    refine(name_calls _ _ hfn).mono ?_
    rintro e w' ⟨rfl,rfl⟩
    rw[HNB.out]
    go_wp2_with fail
    go_ret
    exact givesE_of (by rw[HR.out]) (HX.out.trans HXA.out)
   have HNB:=hI hnb
   rw[hnb] at HAI
   simp only[Bool.true_eq_false,if_false] at HAI
   clear hnb
   go_wp2_with fail
   rw[<-hwa]
   clear hwa h0 h1 h2 h3 h4 bb0 bbf
   refine(name_calls _ _ hfn).mono ?_
   rintro e w' ⟨rfl,rfl⟩
   rw[HNB.out]
   obtain⟨d0,df⟩:=blk1 HB2.out
   obtain⟨a0,a1,a2,a3,a4,af⟩:=blk5b HBA.out
   have hlta:=blk_lt HBA.out
   go_wp2_with fail
   refine(sIndex_calls s _ s[k].name _ (HS.out.ext (HX.out.trans HXA.out)) hl).mono ?_
   rintro e w5 ⟨rfl,hx5⟩
   rw[HFA.out,show optV (some f)=.tuple #[.int .i64 f,.bool true] from rfl]
   have HX5:=hI ((HX.out.trans HXA.out).trans hx5)
   have HB5:=hI (hx5.blk HB2.out)
   have HBA5:=hI (hx5.blk HBA.out)
   have H55:=hI (H5.out.ext (HXA.out.trans hx5))
   clear hx5 d0 df a0 a1 a2 a3 a4 af hlta
   obtain⟨a0,a1,a2,a3,a4,af⟩:=blk5b HBA5.out
   have hlta:=blk_lt HBA5.out
   by_cases hfk:f < k
   ·have t2:decide ((f:Int) < (k:Int))=true:=decide_eq_true (by omega)
    have HR:=hI (show schemaErr s=8 by
     have h8:attrIErr s k=8:=by rw[HAI.out,if_pos (by simpa using hfk)]
     rw[HE.out,firstI_hit (k:=k) (by rw[h8];omega) HNO.out n hkn]
     exact h8)
    clear HE
    go_wp2_with fail
    go_ret
    exact givesE_of (by rw[HR.out]) HX5.out
   have t2:decide ((f:Int) < (k:Int))=false:=decide_eq_false (by omega)
   have HAK:=hI (show attrIErr s k=attrErr s[k] by rw[HAI.out,if_neg (by simpa using hfk)])
   go_wp2_with fail
   refine(sattr_calls s[k] aw nw cw _ H55.out HFK.out).mono ?_
   rintro e w' ⟨rfl,hx7⟩
   have HX7:=hI (HX5.out.trans hx7)
   have HB7:=hI (hx7.blk HB5.out)
   clear hx7 a0 a1 a2 a3 a4 af hlta
   by_cases hz:attrErr s[k]=0
   ·have tz:(attrErr s[k] != 0)=false:=by simp[hz]
    have HZ:=hI hz
    clear hz
    go_wp2_with fail
    go_roundw
    case rel =>
     refine⟨k+1,by go_num,by omega,fun j hj=>?_,HB7.out,HX7.out⟩
     by_cases e:j=k
     ·subst e;rw[HAK.out];exact HZ.out
     exact HNO.out j (by omega)
    case measure=>simp[intOf];omega
   have tz:(attrErr s[k] != 0)=true:=by simp[hz]
   have HR:=hI (show schemaErr s=attrErr s[k] by
    rw[HE.out,firstI_hit (k:=k) (by rw[HAK.out];exact hz) HNO.out n hkn]
    exact HAK.out)
   clear hz
   go_wp2_with fail
   go_ret
   exact givesE_of (by rw[HR.out]) HX7.out
  have t1:decide ((k:Int) < (n:Int))=false:=decide_eq_false (by omega)
  have HR:=hI (show schemaErr s=0 by rw[HE.out,firstI_zero n fun j hj=>HNO.out j (by omega)])
  go_wp2_with fail
  go_ret
  exact givesE_of (by rw[HR.out]) HX.out
def IsIntF (w:World) (f:ZI) (a:OA) (n:Nat):Prop:=n=f.length/\∀ i (h:i < f.length),∃ b off,a=some ⟨b,off,none⟩/\w.cell? ⟨b,off+i,none⟩=some (.int .i64 f[i])
theorem IsIntF.mono {w w':World} {f:ZI} {a:OA} {n:Nat} (h:IsIntF w f a n) (hs:Sub w w'):IsIntF w' f a n:=⟨h.1,fun i hi=>by obtain⟨b,off,e,hc⟩:=h.2 i hi;exact⟨b,off,e,hs _ _ hc⟩⟩
theorem IsIntF.ext {w w':World} {f:ZI} {a:OA} {n:Nat} (h:IsIntF w f a n) (he:Ext w w'):IsIntF w' f a n:=h.mono he.sub
def domV (a:Attr):Value:=.tuple #[.int .i64 (domB a).1,.int .i64 (domB a).2]
theorem factsAll_miss {s:List Attr} {f:ZI} {k:Nat} (hk:k < s.length) (hj:k < f.length) (h:f[k] < (domB s[k]).1\/(domB s[k]).2 < f[k]):factsAll s f=false:=by
 cases hf:factsAll s f
 ·rfl
 have:=factsAll_at hf k hk hj
 omega
theorem factsAll_short {s:List Attr} {f:ZI} (h:f.length≠s.length):factsAll s f=false:=by
 cases hf:factsAll s f
 ·rfl
 exact absurd (factsAll_len hf) h
theorem fact_at {s:List Attr} {f:ZI} (h:factsAll s f=true) {i:Nat} (hi:i < s.length):∃ h2:i < f.length,(domB s[i]).1<=f[i]/\f[i]<=(domB s[i]).2:=by
 have h2:i < f.length:=by rw[factsAll_len h];exact hi
 exact⟨h2,factsAll_at h i hi h2⟩
theorem AttrAt.five {w:World} {x:Attr} {b off:Nat} (h:AttrAt w x b off):∃ aw nw cw,IsStrs w x.words aw nw cw/\∀ W,Ext w W->W.cell? ⟨b,off,none⟩=some (.string x.name)/\W.cell? ⟨b,off+1,none⟩=some (.int .i64 x.kind)/\W.cell? ⟨b,off+2,none⟩=some (.slice aw nw cw)/\W.cell? ⟨b,off+3,none⟩=some (.int .i64 x.lo)/\W.cell? ⟨b,off+4,none⟩=some (.int .i64 x.hi):=by
 obtain⟨aw,nw,cw,g0,g1,g2,g3,g4,g5⟩:=h
 exact⟨aw,nw,cw,g5,fun W hW=>⟨hW.cell g0,hW.cell g1,hW.cell g2,hW.cell g3,hW.cell g4⟩⟩
theorem rDomain_calls (s:List Attr) (v:Value) (i:Nat) (w:World) (hs:IsSchema w s v) (hf:∀ x∈s,x.fits) (hl:s.length<=1000000000000000) (h0:schemaErr s=0) (hi:i < s.length) :
  Calls Tryz.prog 42 #[v,.int .i64 (i:Nat)] w (GivesE (domV s[i]) w):=by
 obtain⟨q1,q2,q3⟩:=schema_attrs h0
 obtain⟨-,-,-,hk,-⟩:=attr_dom (q3 i hi).1
 obtain⟨a,n,c,rfl,hn,hnc,hoa,hat⟩:=hs.parts
 obtain⟨b,off,rfl,hA⟩:=hat i hi
 obtain⟨aw,nw,cw,hstr,hfive⟩:=hA.five
 have HG:=hI hfive
 have HR:=hI (fun W (hW:Ext w W)=>rSchema_calls s _ W (hs.ext hW) hf hl)
 rw[h0] at HR
 have t0:decide ((i:Int) < 0)=false:=decide_eq_false (by omega)
 have t1:decide ((n:Int)<=(i:Int))=false:=decide_eq_false (by omega)
 have hin:i < n:=by omega
 have hn2:n<=1000000000000000:=by omega
 have hnw:nw<=1000000000000000:=by rw[hstr.1];exact(hf _ (List.getElem_mem hi)).2.1
 have HNW:=hI hstr.1
 clear hs hn hnc hoa hf h0 q1 q2 q3 hat hA hstr hfive
 obtain⟨x,hx⟩:∃ x,x=s[i]:=⟨_,rfl⟩
 rw[<-hx] at hk HG HNW ⊢
 clear hx
 obtain⟨wa,hwa⟩:∃ wa,wa=w.alloc (.cells #[.slice (some ⟨b,off,none⟩) n c] 31):=⟨_,rfl⟩
 have hxa:Ext w wa:=by rw[hwa];exact(Ext.refl _).alloc _
 have hb0:wa.heap[w.heap.size]?=some (.cells #[.slice (some ⟨b,off,none⟩) n c] 31 (0,0)):=by rw[hwa];exact alloc_new w _
 have HXA:=hI hxa
 have HB0:=hI hb0
 clear hxa hb0
 have hways:((x.kind==1)=true/\domV x=.tuple #[.int .i64 0,.int .i64 ((nw:Int) - 1)])\/((x.kind==1)=false/\(x.kind==2)=true/\domV x=.tuple #[.int .i64 x.lo,.int .i64 x.hi])\/((x.kind==1)=false/\(x.kind==2)=false/\domV x=.tuple #[.int .i64 0,.int .i64 1]):=by
  unfold domV domB
  rcases hk with hk|hk|hk
  ·exact Or.inl ⟨by simp[hk],by rw[if_pos hk,HNW.out]⟩
  ·exact Or.inr (Or.inl ⟨by simp[hk],by simp[hk],by rw[if_neg (by omega),if_pos hk]⟩)
  exact Or.inr (Or.inr ⟨by simp[hk],by simp[hk],by rw[if_neg (by omega),if_neg (by omega)]⟩)
 clear hk
 rcases hways with ⟨e1,hv⟩|⟨e1,e2,hv⟩|⟨e1,e2,hv⟩
 all_goals
  have HV:=hI hv
  clear hv
  obtain⟨a0,af⟩:=blk1 HB0.out
  go_enter Tryz.func42,Tryz.ntmps42
  go_upto_region 1 with fail
  rw[<-hwa]
  clear hwa
  go_wp2_with fail
  refine(HR.out wa HXA.out).mono ?_
  rintro r w3 ⟨rfl,hx3⟩
  have HX3:=hI (HXA.out.trans hx3)
  obtain⟨d0,df⟩:=blk1 (hx3.blk HB0.out)
  obtain⟨g0,g1,g2,g3,g4⟩:=HG.out w3 HX3.out
  clear hx3 a0 af HB0
  go_wp2_with fail
  try go_quiet (fail)
  try go_wp2_with fail
  go_ret2
  exact⟨by rw[HV.out];rfl,by first|exact(HX3.out.alloc _).drewN _|exact HX3.out.alloc _⟩
def FctI (s:List Attr) (f:ZI) (n:Nat) (bs:Nat) (o:Obj) (w:World) (t:Value) (wr:World):Prop:=∃ k:Nat,t=.int .i64 k/\k<=n/\(∀ i (hi:i < s.length) (hj:i < f.length),i < k->(domB s[i]).1<=f[i]/\f[i]<=(domB s[i]).2)/\wr.heap[bs]?=some o/\Ext w wr
theorem rFacts_calls (s:List Attr) (v:Value) (f:ZI) (fa:OA) (fn fc:Nat) (w:World) (hs:IsSchema w s v) (hf:∀ x∈s,x.fits) (hl:s.length<=1000000000000000) (hi:IsIntF w f fa fn) :
  Calls Tryz.prog 35 #[v,.slice fa fn fc] w (GivesE (.bool (factsB s f)) w):=by
 obtain⟨a,n,c,rfl,hn,hnc,hoa,hat⟩:=hs.parts
 have HR:=hI (fun W (hW:Ext w W)=>rSchema_calls s _ W (hs.ext hW) hf hl)
 have HD:=hI (fun (h0:schemaErr s=0) (i:Nat) (hi:i < s.length) W (hW:Ext w W)=>rDomain_calls s _ i W (hs.ext hW) hf hl h0 hi)
 have HN:=hI hn
 have HI:=hI hi
 have HFN:=hI hi.1
 obtain⟨B,hB⟩:∃ B,B=factsB s f:=⟨_,rfl⟩
 rw[<-hB]
 have HB:=hI (show B=(decide (schemaErr s=0)&&factsAll s f) from hB)
 clear hs hn hnc hoa hat hf hi hB
 obtain⟨wa,hwa⟩:∃ wa,wa=w.alloc (.cells #[.slice a n c] 31):=⟨_,rfl⟩
 have hxa:Ext w wa:=by rw[hwa];exact(Ext.refl _).alloc _
 have hb0:wa.heap[w.heap.size]?=some (.cells #[.slice a n c] 31 (0,0)):=by rw[hwa];exact alloc_new w _
 have HXA:=hI hxa
 have HB0:=hI hb0
 clear hxa hb0
 obtain⟨E,hE⟩:∃ E,E=schemaErr s:=⟨_,rfl⟩
 rw[<-hE] at HR HB
 have HEE:=hI hE
 clear hE
 obtain⟨a0,af⟩:=blk1 HB0.out
 by_cases hz:E=0
 case neg =>
  have tz:(E != 0)=true:=by simp[hz]
  have HQ:=hI (show B=false by rw[HB.out];simp[hz])
  clear hz
  go_enter Tryz.func35,Tryz.ntmps35
  go_upto_region 1 with fail
  rw[<-hwa]
  clear hwa
  go_wp2_with fail
  refine(HR.out wa HXA.out).mono ?_
  rintro r w3 ⟨rfl,hx3⟩
  have HX3:=hI (HXA.out.trans hx3)
  clear hx3 a0 af HB0
  go_wp2_with fail
  go_ret
  exact givesE_bool (by rw[HQ.out]) HX3.out
 have tz:(E != 0)=false:=by simp[hz]
 have HB2:=hI (show B=factsAll s f by rw[HB.out];simp[hz])
 have HDD:=hI (HD.out (by rw[<-HEE.out];exact hz))
 have hs6:n<=6:=by have:=(schema_attrs (s:=s) (by rw[<-HEE.out];exact hz)).2.1;rw[HN.out];exact this
 clear hz HD HB HEE
 by_cases hlen:fn=n
 case neg =>
  have tl:((fn:Int) != (n:Int))=true:=by simp;omega
  have HQ:=hI (show B=false by rw[HB2.out];exact factsAll_short (by rw[<-HN.out,<-HFN.out];exact hlen))
  clear hlen
  go_enter Tryz.func35,Tryz.ntmps35
  go_upto_region 1 with fail
  rw[<-hwa]
  clear hwa
  go_wp2_with fail
  refine(HR.out wa HXA.out).mono ?_
  rintro r w3 ⟨rfl,hx3⟩
  have HX3:=hI (HXA.out.trans hx3)
  obtain⟨d0,df⟩:=blk1 (hx3.blk HB0.out)
  clear hx3 a0 af HB0
  go_wp2_with fail
  go_ret
  exact givesE_bool (by rw[HQ.out]) HX3.out
 subst hlen
 have tl:((fn:Int) != (fn:Int))=false:=by simp
 have HLN:=hI (show f.length=s.length by rw[<-HN.out,<-HFN.out])
 go_enter Tryz.func35,Tryz.ntmps35
 go_upto_region 1 with fail
 rw[<-hwa]
 clear hwa
 go_wp2_with fail
 refine(HR.out wa HXA.out).mono ?_
 rintro r w3 ⟨rfl,hx3⟩
 have HX3:=hI (HXA.out.trans hx3)
 have HB3:=hI (hx3.blk HB0.out)
 obtain⟨d0,df⟩:=blk1 (hx3.blk HB0.out)
 clear hx3 a0 af HB0
 go_wp2_with fail
 clear d0 df
 go_loopw [5] (FctI s f fn w.heap.size (.cells #[.slice a fn c] 31 (0,0)) w) (fun t _=>fn - (intOf t).toNat)
 case atStart=>exact⟨0,rfl,by omega,fun i _ _ h=>by omega,HB3.out,HX3.out⟩
 case round =>
  obtain⟨k,rfl,hk,hno,hbx,hx⟩:=hrel
  have HNO:=hI hno
  have HBX:=hI hbx
  have HX:=hI hx
  obtain⟨d0,df⟩:=blk1 hbx
  clear hno hbx hx
  by_cases hkn:k < fn
  ·have t1:decide ((k:Int) < (fn:Int))=true:=decide_eq_true (by omega)
   have hks:k < s.length:=by rw[<-HN.out];exact hkn
   have hkf:k < f.length:=by rw[<-HFN.out];exact hkn
   have HDK:=hI (HDD.out k hks wr HX.out)
   unfold domV at HDK
   obtain⟨fb,fo,rfl,hcell⟩:=HI.out.2 k hkf
   have HCF:=hI hcell
   obtain⟨z,hz⟩:∃ z,z=f[k]:=⟨_,rfl⟩
   obtain⟨lo,hlo⟩:∃ lo,lo=(domB s[k]).1:=⟨_,rfl⟩
   obtain⟨hi,hhi⟩:∃ hi,hi=(domB s[k]).2:=⟨_,rfl⟩
   rw[<-hz] at HCF
   rw[<-hlo,<-hhi] at HDK
   have HZ:=hI hz
   have HLO:=hI hlo
   have HHI:=hI hhi
   clear hcell hz hlo hhi
   go_wp2_with fail
   refine HDK.out.mono ?_
   rintro r w5 ⟨rfl,hx5⟩
   have HX5:=hI (HX.out.trans hx5)
   have HB5:=hI (hx5.blk HBX.out)
   have g0:=HX5.out.cell HCF.out
   clear hx5 d0 df HDK
   by_cases h1:z < lo\/hi < z
   ·have HQ:=hI (show B=false by rw[HB2.out];exact factsAll_miss hks hkf (by rw[<-HZ.out,<-HLO.out,<-HHI.out];exact h1))
    by_cases h2:z < lo
    ·have t2:decide (z < lo)=true:=decide_eq_true h2
     clear h1 h2
     go_wp2_with fail
     go_ret
     exact givesE_bool (by rw[HQ.out]) HX5.out
    have t2:decide (z < lo)=false:=decide_eq_false h2
    have t3:decide (hi < z)=true:=decide_eq_true (by omega)
    clear h1 h2
    go_wp2_with fail
    go_ret
    exact givesE_bool (by rw[HQ.out]) HX5.out
   have t2:decide (z < lo)=false:=decide_eq_false (by omega)
   have t3:decide (hi < z)=false:=decide_eq_false (by omega)
   have HOK:=hI (show (domB s[k]).1<=f[k]/\f[k]<=(domB s[k]).2 by rw[<-HZ.out,<-HLO.out,<-HHI.out];omega)
   clear h1
   go_wp2_with fail
   go_roundw
   case rel =>
    refine⟨k+1,by go_num,by omega,fun i hi hj hik=>?_,HB5.out,HX5.out⟩
    by_cases e:i=k
    ·subst e;exact HOK.out
    exact HNO.out i hi hj (by omega)
   case measure=>simp[intOf];omega
  have t1:decide ((k:Int) < (fn:Int))=false:=decide_eq_false (by omega)
  have HQ:=hI (show B=true by rw[HB2.out];exact factsAll_of HLN.out fun i hi hj=>HNO.out i hi hj (by have:=HFN.out;omega))
  go_wp2_with fail
  go_ret
  exact givesE_bool (by rw[HQ.out]) HX.out
theorem sdomain_calls (x:Attr) (aw:OA) (nw cw:Nat) (w:World) (hn:nw=x.words.length) (hnw:nw<=1000000000000000) (hk:x.kind=1\/x.kind=2\/x.kind=3) :
  Calls Tryz.prog 78 #[.agg #[.string x.name,.int .i64 x.kind,.slice aw nw cw,.int .i64 x.lo,.int .i64 x.hi]] w (GivesE (domV x) w):=by
 have hways:((x.kind==1)=true/\domV x=.tuple #[.int .i64 0,.int .i64 ((nw:Int) - 1)])\/((x.kind==1)=false/\(x.kind==2)=true/\domV x=.tuple #[.int .i64 x.lo,.int .i64 x.hi])\/((x.kind==1)=false/\(x.kind==2)=false/\domV x=.tuple #[.int .i64 0,.int .i64 1]):=by
  unfold domV domB
  rcases hk with hk|hk|hk
  ·exact Or.inl ⟨by simp[hk],by rw[if_pos hk,hn]⟩
  ·exact Or.inr (Or.inl ⟨by simp[hk],by simp[hk],by rw[if_neg (by omega),if_pos hk]⟩)
  exact Or.inr (Or.inr ⟨by simp[hk],by simp[hk],by rw[if_neg (by omega),if_neg (by omega)]⟩)
 clear hk hn
 rcases hways with ⟨e1,hv⟩|⟨e1,e2,hv⟩|⟨e1,e2,hv⟩
 all_goals
  have HV:=hI hv
  clear hv
  go_enter Tryz.func78,Tryz.ntmps78
  go_wp2_with fail
  try go_quiet (fail)
  try go_wp2_with fail
  go_ret2
  exact⟨by rw[HV.out];rfl,by first|exact((Ext.refl w).alloc _).drewN _|exact(Ext.refl w).alloc _⟩
theorem sValid_calls (s:List Attr) (v:Value) (f:ZI) (fa:OA) (fn fc:Nat) (w:World) (hs:IsSchema w s v) (hf:∀ x∈s,x.fits) (hl:s.length<=1000000000000000) (hi:IsIntF w f fa fn) (hfn:fn<=1000000000000000) :
  Calls Tryz.prog 53 #[v,.slice fa fn fc] w (GivesE (.bool (factsB s f)) w):=by
 obtain⟨a,n,c,rfl,hn,hnc,hoa,hat⟩:=hs.parts
 have HR:=hI (fun W (hW:Ext w W)=>sValidate_calls s _ W (hs.ext hW) hf hl)
 have HAT:=hI hat
 have HN:=hI hn
 have HF:=hI hf
 have HI:=hI hi
 have HFN:=hI hi.1
 obtain⟨B,hB⟩:∃ B,B=factsB s f:=⟨_,rfl⟩
 rw[<-hB]
 have HB:=hI (show B=(decide (schemaErr s=0)&&factsAll s f) from hB)
 have hn2:n<=1000000000000000:=by omega
 clear hs hn hnc hoa hat hf hi hB
 obtain⟨wa,hwa⟩:∃ wa,wa=w.alloc (.cells #[.slice a n c] 31):=⟨_,rfl⟩
 have hxa:Ext w wa:=by rw[hwa];exact(Ext.refl _).alloc _
 have hb0:wa.heap[w.heap.size]?=some (.cells #[.slice a n c] 31 (0,0)):=by rw[hwa];exact alloc_new w _
 have HXA:=hI hxa
 have HB0:=hI hb0
 clear hxa hb0
 obtain⟨E,hE⟩:∃ E,E=schemaErr s:=⟨_,rfl⟩
 rw[<-hE] at HR HB
 have HEE:=hI hE
 clear hE
 obtain⟨a0,af⟩:=blk1 HB0.out
 by_cases hz:E=0
 case neg =>
  have tz:(E != 0)=true:=by simp[hz]
  have HQ:=hI (show B=false by rw[HB.out];simp[hz])
  clear hz
  go_enter Tryz.func53,Tryz.ntmps53
  go_upto_region 1 with fail
  rw[<-hwa]
  clear hwa
  go_wp2_with fail
  refine(HR.out wa HXA.out).mono ?_
  rintro r w3 ⟨rfl,hx3⟩
  have HX3:=hI (HXA.out.trans hx3)
  clear hx3 a0 af HB0
  go_wp2_with fail
  go_ret
  exact givesE_bool (by rw[HQ.out]) HX3.out
 have tz:(E != 0)=false:=by simp[hz]
 have HB2:=hI (show B=factsAll s f by rw[HB.out];simp[hz])
 have HSA:=hI (schema_attrs (s:=s) (by rw[<-HEE.out];exact hz))
 clear hz HB HEE
 by_cases hlen:fn=n
 case neg =>
  have tl:((fn:Int) != (n:Int))=true:=by simp;omega
  have HQ:=hI (show B=false by rw[HB2.out];exact factsAll_short (by rw[<-HN.out,<-HFN.out];exact hlen))
  clear hlen
  go_enter Tryz.func53,Tryz.ntmps53
  go_upto_region 1 with fail
  rw[<-hwa]
  clear hwa
  go_wp2_with fail
  refine(HR.out wa HXA.out).mono ?_
  rintro r w3 ⟨rfl,hx3⟩
  have HX3:=hI (HXA.out.trans hx3)
  obtain⟨d0,df⟩:=blk1 (hx3.blk HB0.out)
  clear hx3 a0 af HB0
  go_wp2_with fail
  go_ret
  exact givesE_bool (by rw[HQ.out]) HX3.out
 subst hlen
 have tl:((fn:Int) != (fn:Int))=false:=by simp
 have HLN:=hI (show f.length=s.length by rw[<-HN.out,<-HFN.out])
 go_enter Tryz.func53,Tryz.ntmps53
 go_upto_region 1 with fail
 rw[<-hwa]
 clear hwa
 go_wp2_with fail
 refine(HR.out wa HXA.out).mono ?_
 rintro r w3 ⟨rfl,hx3⟩
 have HX3:=hI (HXA.out.trans hx3)
 have HB3:=hI (hx3.blk HB0.out)
 obtain⟨d0,df⟩:=blk1 (hx3.blk HB0.out)
 clear hx3 a0 af HB0
 go_wp2_with fail
 clear d0 df
 go_loopw [22] (FctI s f fn w.heap.size (.cells #[.slice a fn c] 31 (0,0)) w) (fun t _=>fn - (intOf t).toNat)
 case atStart=>exact⟨0,rfl,by omega,fun i _ _ h=>by omega,HB3.out,HX3.out⟩
 case round =>
  obtain⟨k,rfl,hk,hno,hbx,hx⟩:=hrel
  have HNO:=hI hno
  have HBX:=hI hbx
  have HX:=hI hx
  obtain⟨d0,df⟩:=blk1 hbx
  clear hno hbx hx
  by_cases hkn:k < fn
  ·have t1:decide ((k:Int) < (fn:Int))=true:=decide_eq_true (by omega)
   have hks:k < s.length:=by rw[<-HN.out];exact hkn
   have hkf:k < f.length:=by rw[<-HFN.out];exact hkn
   obtain⟨b,off,rfl,hA⟩:=HAT.out k hks
   obtain⟨aw,nw,cw,hstr,hfive⟩:=hA.five
   obtain⟨g0,g1,g2,g3,g4⟩:=hfive wr HX.out
   have HDK:=hI (fun W=>sdomain_calls s[k] aw nw cw W hstr.1 (by rw[hstr.1];exact(HF.out _ (List.getElem_mem hks)).2.1) (attr_dom (HSA.out.2.2 k hks).1).2.2.2.1)
   unfold domV at HDK
   obtain⟨fb,fo,rfl,hcell⟩:=HI.out.2 k hkf
   have hcf:=HX.out.cell hcell
   obtain⟨z,hz⟩:∃ z,z=f[k]:=⟨_,rfl⟩
   obtain⟨lo,hlo⟩:∃ lo,lo=(domB s[k]).1:=⟨_,rfl⟩
   obtain⟨hi,hhi⟩:∃ hi,hi=(domB s[k]).2:=⟨_,rfl⟩
   rw[<-hz] at hcf
   rw[<-hlo,<-hhi] at HDK
   have HZ:=hI hz
   have HLO:=hI hlo
   have HHI:=hI hhi
   clear hcell hz hlo hhi hA hstr hfive
   go_wp2_with fail
   refine(HDK.out _).mono ?_
   rintro r w5 ⟨rfl,hx5⟩
   have HX5:=hI (HX.out.trans hx5)
   have HB5:=hI (hx5.blk HBX.out)
   clear hx5 d0 df HDK
   by_cases h1:z < lo\/hi < z
   ·have HQ:=hI (show B=false by rw[HB2.out];exact factsAll_miss hks hkf (by rw[<-HZ.out,<-HLO.out,<-HHI.out];exact h1))
    by_cases h2:z < lo
    ·have t2:decide (z < lo)=true:=decide_eq_true h2
     clear h1 h2
     go_wp2_with fail
     go_ret
     exact givesE_bool (by rw[HQ.out]) HX5.out
    have t2:decide (z < lo)=false:=decide_eq_false h2
    have t3:decide (hi < z)=true:=decide_eq_true (by omega)
    clear h1 h2
    go_wp2_with fail
    go_ret
    exact givesE_bool (by rw[HQ.out]) HX5.out
   have t2:decide (z < lo)=false:=decide_eq_false (by omega)
   have t3:decide (hi < z)=false:=decide_eq_false (by omega)
   have HOK:=hI (show (domB s[k]).1<=f[k]/\f[k]<=(domB s[k]).2 by rw[<-HZ.out,<-HLO.out,<-HHI.out];omega)
   clear h1
   go_wp2_with fail
   go_roundw
   case rel =>
    refine⟨k+1,by go_num,by omega,fun i hi hj hik=>?_,HB5.out,HX5.out⟩
    by_cases e:i=k
    ·subst e;exact HOK.out
    exact HNO.out i hi hj (by omega)
   case measure=>simp[intOf];omega
  have t1:decide ((k:Int) < (fn:Int))=false:=decide_eq_false (by omega)
  have HQ:=hI (show B=true by rw[HB2.out];exact factsAll_of HLN.out fun i hi hj=>HNO.out i hi hj (by have:=HFN.out;omega))
  go_wp2_with fail
  go_ret
  exact givesE_bool (by rw[HQ.out]) HX.out
theorem alloc_atR {w:World} {o:Obj} {n:Nat} (h:n=w.heap.size):(w.alloc o).heap[n]?=some o:=by subst h;exact alloc_new w o
theorem optV_none:optV none=.tuple #[.int .i64 0,.bool false]:=rfl
theorem optV_some (i:Nat):optV (some i)=.tuple #[.int .i64 i,.bool true]:=rfl
theorem attrAt_lt {s:List Attr} {x:BA} {i:Nat} (h:attrAt s x=some i):i < s.length:=by
 unfold attrAt at h
 rw[List.findIdx?_eq_some_iff_getElem] at h
 exact h.1
theorem IsSchema.cells {w:World} {s:List Attr} {a:OA} {n c:Nat} (h:IsSchema w s (.agg #[.slice a n c])) {i:Nat} (hi:i < s.length):∃ b off aw nw cw,a=some ⟨b,off,none⟩/\w.cell? ⟨b,off+i * 5,none⟩=some (.string s[i].name)/\w.cell? ⟨b,off+i * 5+1,none⟩=some (.int .i64 s[i].kind) /\
  w.cell? ⟨b,off+i * 5+2,none⟩=some (.slice aw nw cw)/\w.cell? ⟨b,off+i * 5+3,none⟩=some (.int .i64 s[i].lo)/\w.cell? ⟨b,off+i * 5+4,none⟩=some (.int .i64 s[i].hi)/\IsStrs w s[i].words aw nw cw:=by
 obtain⟨a',n',c',e',_,_,_,hat⟩:=h.parts
 simp only[Value.agg.injEq,Array.mk.injEq,List.cons.injEq,Value.slice.injEq,and_true] at e'
 obtain⟨rfl,rfl,rfl⟩:=e'
 obtain⟨b,off,rfl,aw,nw,cw,h0,h1,h2,h3,h4,h5⟩:=hat i hi
 exact⟨b,off,aw,nw,cw,rfl,h0,h1,h2,h3,h4,h5⟩
theorem IsSchema.slice {w:World} {s:List Attr} {v:Value} (h:IsSchema w s v):∃ a n c,v=.agg #[.slice a n c]/\n=s.length:=by
 obtain⟨a,n,c,rfl,hn,_⟩:=h.parts
 exact⟨a,n,c,rfl,hn⟩
theorem rnodeErr_calls (s:List Attr) (sv:Value) (l:List Cla) (a:OA) (n c:Nat) (e:Ex) (ev:Value) (w:World) (hs:IsSchema w s sv) (hf:∀ x∈s,x.fits) (hsl:s.length<=1000000000000000) (hl:IsClas w l a n c) (hn:n<=1000000000000000) (he:IsEx w e ev) (hew:e.words.length<=1000000000000000) :
  Calls Tryz.prog 85 #[sv,.slice a n c,ev] w (GivesE (.int .i64 (nodeErr s l e.op e.name e.words e.lo e.hi)) w):=by
 obtain⟨sa,sn,sc,rfl,hsn⟩:=hs.slice
 obtain⟨aw,nw,cw,aa,na,ca,rfl,hw,hna,hca,ha,hx⟩:=he.parts
 have HS:=hI hs
 have HF:=hI hf
 have HL:=hI hl
 have HW:=hI hw
 have HSN:=hI hsn
 have HNW:=hI hw.1
 have hnw:nw<=1000000000000000:=by rw[hw.1];exact hew
 have hsn2:sn<=1000000000000000:=by omega
 clear hs hf hl hw hsn he hna hca ha hx hew
 unfold exV
 obtain⟨op,name,words,lo,hi,args⟩:=e
 simp only[Ex.op,Ex.name,Ex.words,Ex.lo,Ex.hi] at *
 obtain⟨wa,hwa⟩:∃ wa,wa=(w.alloc (.cells #[.slice sa sn sc] 31)).alloc (.cells #[.int .i64 op,.string name,.slice aw nw cw,.int .i64 lo,.int .i64 hi,.slice aa na ca] 26):=⟨_,rfl⟩
 have hxa:Ext w wa:=by rw[hwa];exact((Ext.refl _).alloc _).alloc _
 have hb0:wa.heap[w.heap.size]?=some (.cells #[.slice sa sn sc] 31 (0,0)):=by rw[hwa];exact blk_alloc (alloc_new w _)
 have hb1:wa.heap[w.heap.size+1]?=some (.cells #[.int .i64 op,.string name,.slice aw nw cw,.int .i64 lo,.int .i64 hi,.slice aa na ca] 26 (0,0)):=by rw[hwa];exact alloc_atR (by simp)
 have HI:=hI (rIndex_calls s _ name wa (HS.out.ext hxa) (by have:=HSN.out;omega))
 have HXA:=hI hxa
 have HB0:=hI hb0
 have HB1:=hI hb1
 clear hxa hb0 hb1
 obtain⟨E,hE⟩:∃ E,E=nodeErr s l op name words lo hi:=⟨_,rfl⟩
 rw[<-hE]
 have HE:=hI hE
 clear hE
 cases ho:attrAt s name with
 | none =>
  rw[ho,optV_none] at HI
  have HO:=hI ho
  go_enter Tryz.func85,Tryz.ntmps85
  go_wp2_with fail
  rw[<-hwa]
  refine HI.out.mono ?_
  rintro r w3 ⟨rfl,hx3⟩
  obtain⟨d0,df⟩:=blk1 (hx3.blk HB0.out)
  obtain⟨f0,f1,f2,f3,f4,f5,ff⟩:=blk6 (hx3.blk HB1.out)
  have hlt:=blk_lt (hx3.blk HB1.out)
  have HX3:=hI (HXA.out.trans hx3)
  clear hx3 ho HI
  by_cases h3:op=3
  ·subst h3
   cases hd:defAt l name with
   | none =>
    have HR:=hI (show E=7 by rw[HE.out];simp[nodeErr,HO.out,hd])
    have HD:=hI (rDef_calls l a n c name w3 (HL.out.ext HX3.out) hn)
    rw[hd,optV_none] at HD
    clear hd
    go_wp2_with fail
    refine HD.out.mono ?_
    rintro r w4 ⟨rfl,rfl⟩
    go_wp2_with fail
    go_ret
    exact givesE_of (by rw[HR.out]) HX3.out
   | some d =>
    have HR:=hI (show E=0 by rw[HE.out];simp[nodeErr,HO.out,hd])
    have HD:=hI (rDef_calls l a n c name w3 (HL.out.ext HX3.out) hn)
    rw[hd,optV_some] at HD
    clear hd
    go_wp2_with fail
    refine HD.out.mono ?_
    rintro r w4 ⟨rfl,rfl⟩
    go_wp2_with fail
    go_ret
    exact givesE_of (by rw[HR.out]) HX3.out
  have e3:(op==3)=false:=by simp[h3]
  by_cases h4:op=4
  ·subst h4
   have HR:=hI (show E=7 by rw[HE.out];simp[nodeErr,HO.out])
   go_wp2_with fail
   go_ret
   exact givesE_of (by rw[HR.out]) HX3.out
  have e4:(op==4)=false:=by simp[h4]
  by_cases h5:op=5
  ·subst h5
   have HR:=hI (show E=7 by rw[HE.out];simp[nodeErr,HO.out])
   go_wp2_with fail
   go_ret
   exact givesE_of (by rw[HR.out]) HX3.out
  have e5:(op==5)=false:=by simp[h5]
  have HR:=hI (show E=0 by rw[HE.out];simp[nodeErr,h3,h4,h5])
  go_wp2_with fail
  go_ret
  exact givesE_of (by rw[HR.out]) HX3.out
 | some i =>
  rw[ho,optV_some] at HI
  have HO:=hI ho
  have his:=attrAt_lt ho
  have hin:i < sn:=by have:=HSN.out;omega
  go_enter Tryz.func85,Tryz.ntmps85
  go_wp2_with fail
  rw[<-hwa]
  refine HI.out.mono ?_
  rintro r w3 ⟨rfl,hx3⟩
  obtain⟨d0,df⟩:=blk1 (hx3.blk HB0.out)
  obtain⟨f0,f1,f2,f3,f4,f5,ff⟩:=blk6 (hx3.blk HB1.out)
  have hlt:=blk_lt (hx3.blk HB1.out)
  have HX3:=hI (HXA.out.trans hx3)
  have HB13:=hI (hx3.blk HB1.out)
  obtain⟨sb,soff,xw,xn,xc,rfl,g0,g1,g2,g3,g4,g5⟩:=(HS.out.ext HX3.out).cells his
  have HG5:=hI g5
  have HGD:=hI (getD_attr his)
  have ti0:(0:Int)<=(i:Int):=by omega
  have ti1:(i:Int) < (sn:Int):=by omega
  have hfi:=HF.out _ (List.getElem_mem his)
  have hxn:xn<=1000000000000000:=by rw[g5.1];exact hfi.2.1
  clear hx3 ho HI g5 hfi
  by_cases h3:op=3
  ·subst h3
   have HD:=hI (rDef_calls l a n c name w3 (HL.out.ext HX3.out) hn)
   by_cases hk:s[i].kind=3
   ·have tk:(s[i].kind != 3)=false:=by simp[hk]
    have HR:=hI (show E=0 by rw[HE.out];simp only[nodeErr,if_true,HO.out,HGD.out];simp[hk])
    clear hk
    go_wp2_with fail
    refine HD.out.mono ?_
    rintro r w4 ⟨rfl,rfl⟩
    unfold optV
    go_wp2_with fail
    go_ret
    exact givesE_of (by rw[HR.out]) HX3.out
   have tk:(s[i].kind != 3)=true:=by simp[hk]
   have HR:=hI (show E=9 by rw[HE.out];simp only[nodeErr,if_true,HO.out,HGD.out];simp[hk])
   clear hk
   go_wp2_with fail
   refine HD.out.mono ?_
   rintro r w4 ⟨rfl,rfl⟩
   unfold optV
   go_wp2_with fail
   go_ret
   exact givesE_of (by rw[HR.out]) HX3.out
  have e3:(op==3)=false:=by simp[h3]
  by_cases h4:op=4
  ·subst h4
   by_cases hk:s[i].kind=1
   ·have tk:(s[i].kind != 1)=false:=by simp[hk]
    have HR:=hI (show E=if (words.all fun x=>s[i].words.any fun y=>decide (y=x))=false then 7 else 0 by rw[HE.out];simp only[nodeErr,HO.out,HGD.out];simp[hk])
    clear hk
    go_upto_region 15 with fail
    obtain⟨wb,hwb⟩:∃ wb,wb=w3.alloc (.cells #[.string s[i].name,.int .i64 s[i].kind,.slice xw xn xc,.int .i64 s[i].lo,.int .i64 s[i].hi] 85):=⟨_,rfl⟩
    rw[<-hwb]
    have hxb:Ext w3 wb:=by rw[hwb];exact(Ext.refl _).alloc _
    have hbb:wb.heap[w3.heap.size]?=some (.cells #[.string s[i].name,.int .i64 s[i].kind,.slice xw xn xc,.int .i64 s[i].lo,.int .i64 s[i].hi] 85 (0,0)):=by rw[hwb];exact alloc_new w3 _
    have HBB:=hI hbb
    have HB6:=hI (hxb.blk HB13.out)
    have HXB:=hI (HX3.out.trans hxb)
    have HGB:=hI (HG5.out.ext hxb)
    have HWB:=hI (HW.out.ext HXB.out)
    clear hwb hxb hbb d0 df f0 f1 f2 f3 f4 f5 ff g0 g1 g2 g3 g4 HG5
    go_wp2_with fail
    go_loopw [12] (fun t wr=>∃ k:Nat,t=.int .i64 k/\k<=nw/\(∀ j (h:j < words.length),j < k->(s[i].words.any fun y=>decide (y=words[j]))=true)/\Ext wb wr) (fun t _=>nw - (intOf t).toNat)
    case atStart=>exact⟨0,rfl,by omega,fun j _ h=>by omega,Ext.refl _⟩
    case round =>
     obtain⟨k,rfl,hk,hall,hxr⟩:=hrel
     have HALL:=hI hall
     have HXR:=hI hxr
     obtain⟨p0,p1,p2,p3,p4,pf⟩:=blk5b (hxr.blk HBB.out)
     obtain⟨q0,q1,q2,q3,q4,q5,qf⟩:=blk6 (hxr.blk HB6.out)
     clear hall hxr
     by_cases hkn:k < nw
     ·have hkw:k < words.length:=by have:=HNW.out;omega
      have t1:decide ((k:Int) < (nw:Int))=true:=decide_eq_true (by omega)
      obtain⟨wb',woff,rfl,cw0⟩:=(HWB.out.ext HXR.out).2.2.2 k hkw
      have tk0:(0:Int)<=(k:Int):=by omega
      have tk1:(k:Int) < (nw:Int):=by omega
      have HWI:=hI (fun (q:Nat)=>rWithin_calls s[i].words xw xn xc words[k] (wr.drewN q) (HGB.out.ext (HXR.out.drewN q)) hxn)
      cases hany:(s[i].words.any fun y=>decide (y=words[k]))
      ·have HA:=hI hany
       rw[hany] at HWI
       have HR2:=hI (show E=7 by
        rw[HR.out,if_pos]
        rw[List.all_eq_false]
        exact⟨words[k],List.getElem_mem hkw,by rw[hany];simp⟩)
       clear hany
       go_wp2_with fail
       go_quiet ((go_at_call 40;exact quiet_gives (HWI.out _)))
       go_wp2_with fail
       go_ret
       exact givesE_of (by rw[HR2.out]) ((HXB.out.trans HXR.out).drewN _)
      have HA:=hI hany
      rw[hany] at HWI
      clear hany
      go_wp2_with fail
      go_quiet ((go_at_call 40;exact quiet_gives (HWI.out _)))
      go_wp2_with fail
      go_roundw
      case rel =>
       refine⟨k+1,by go_num,by omega,fun j hj hjk=>?_,HXR.out.drewN _⟩
       by_cases e:j=k
       ·subst e;exact HA.out
       exact HALL.out j hj (by omega)
      case measure=>simp[intOf];omega
     have t1:decide ((k:Int) < (nw:Int))=false:=decide_eq_false (by omega)
     have HR2:=hI (show E=0 by
      rw[HR.out,if_neg]
      rw[Bool.not_eq_false,List.all_eq_true]
      intro y hy
      obtain⟨j,hj,rfl⟩:=List.mem_iff_getElem.1 hy
      exact HALL.out j hj (by have:=HNW.out;omega))
     go_wp2_with fail
     go_ret
     exact givesE_of (by rw[HR2.out]) (HXB.out.trans HXR.out)
   have tk:(s[i].kind != 1)=true:=by simp[hk]
   have HR:=hI (show E=9 by rw[HE.out];simp only[nodeErr,HO.out,HGD.out];simp[hk])
   clear hk
   go_wp2_with fail
   go_ret
   exact givesE_of (by rw[HR.out]) (HX3.out.alloc _)
  have e4:(op==4)=false:=by simp[h4]
  by_cases h5:op=5
  ·subst h5
   by_cases hk:s[i].kind=2
   ·have tk:(s[i].kind != 2)=false:=by simp[hk]
    have HR:=hI (show E=if lo < s[i].lo\/s[i].hi < hi then 1 else 0 by rw[HE.out];simp only[nodeErr,HO.out,HGD.out];simp[hk])
    clear hk
    go_wp2_with fail
    all_goals (go_ret;exact givesE_of (by rw[HR.out];simp_all<;>omega) (HX3.out.alloc _))
   have tk:(s[i].kind != 2)=true:=by simp[hk]
   have HR:=hI (show E=9 by rw[HE.out];simp only[nodeErr,HO.out,HGD.out];simp[hk])
   clear hk
   go_wp2_with fail
   go_ret
   exact givesE_of (by rw[HR.out]) (HX3.out.alloc _)
  have e5:(op==5)=false:=by simp[h5]
  have HR:=hI (show E=0 by rw[HE.out];simp[nodeErr,h3,h4,h5])
  go_wp2_with fail
  go_ret
  exact givesE_of (by rw[HR.out]) HX3.out
theorem rnodesErr_calls (s:List Attr) (l:List Cla) (hf:∀ x∈s,x.fits) (hsl:s.length<=1000000000000000) (a:OA) (n c:Nat) (hn:n<=1000000000000000) (m:Nat):∀ (e:Ex) (ev sv:Value) (w:World),e.size<=m->m<=1000000000000000->e.few->IsSchema w s sv->IsClas w l a n c->IsEx w e ev ->
  Calls Tryz.prog 58 #[sv,.slice a n c,ev] w (GivesE (.int .i64 (nodesErr s l e)) w):=by
 induction m with
 | zero=>intro e ev sv w h;have:=size_pos e;omega
 | succ m ih =>
  intro e ev sv w hm hMM hfew hs hl he
  obtain⟨sa,sn,sc,rfl,hsn⟩:=hs.slice
  have HN0:=hI (rnodeErr_calls s (.agg #[.slice sa sn sc]) l a n c e ev)
  obtain⟨hfw,hfa⟩:=few_parts hfew
  obtain⟨aw,nw,cw,aa,na,ca,rfl,hw,hna,hca,ha,hx⟩:=he.parts
  have hS:e.size=1+sizes e.args:=e.size_eq
  have hla:=length_le_sizes e.args
  have hna2:na<=1000000000000000:=by omega
  have hsz:sizes e.args<=m:=by omega
  have HE:=hI he
  have HS:=hI hs
  have HL:=hI hl
  have HX:=hI hx
  have HNA:=hI hna
  have HF:=hI hf
  have HFW:=hI hfw
  have HFA:=hI hfa
  have HEQ:=hI (nodesErr_eq s l e)
  have IH:=hI ih
  clear hs hl he hx hna hw hca ha hS hla hsn hfw hfa hfew ih hf hm
  unfold exV at *
  obtain⟨wa,hwa⟩:∃ wa,wa=(w.alloc (.cells #[.slice sa sn sc] 31)).alloc (.cells #[.int .i64 e.op,.string e.name,.slice aw nw cw,.int .i64 e.lo,.int .i64 e.hi,.slice aa na ca] 26):=⟨_,rfl⟩
  have hxa:Ext w wa:=by rw[hwa];exact((Ext.refl _).alloc _).alloc _
  have hb0:wa.heap[w.heap.size]?=some (.cells #[.slice sa sn sc] 31 (0,0)):=by rw[hwa];exact blk_alloc (alloc_new w _)
  have hb1:wa.heap[w.heap.size+1]?=some (.cells #[.int .i64 e.op,.string e.name,.slice aw nw cw,.int .i64 e.lo,.int .i64 e.hi,.slice aa na ca] 26 (0,0)):=by rw[hwa];exact alloc_atR (by simp)
  have HXA:=hI hxa
  have HB0:=hI hb0
  have HB1:=hI hb1
  clear hxa hb0 hb1
  go_enter Tryz.func58,Tryz.ntmps58
  go_wp2_with fail
  rw[<-hwa]
  refine(HN0.out wa (HS.out.ext HXA.out) HF.out hsl (HL.out.ext HXA.out) hn (HE.out.ext HXA.out) HFW.out).mono ?_
  rintro r w1 ⟨rfl,hx1⟩
  have HX1:=hI (HXA.out.trans hx1)
  have HB01:=hI (hx1.blk HB0.out)
  have HB11:=hI (hx1.blk HB1.out)
  clear hx1 hwa
  obtain⟨E,hE⟩:∃ E,E=nodeErr s l e.op e.name e.words e.lo e.hi:=⟨_,rfl⟩
  rw[<-hE]
  rw[<-hE] at HEQ
  clear hE
  by_cases hz:E=0
  ·have tz:(E != 0)=false:=by simp[hz]
   have HQ:=hI (show nodesErr s l e=nodesErrL s l e.args by rw[HEQ.out,if_neg (by simp[hz])])
   clear hz
   go_wp2_with fail
   go_loopw [8] (fun t wr=>∃ k:Nat,t=.int .i64 k/\k<=na/\(∀ j (h:j < e.args.length),j < k->nodesErr s l e.args[j]=0)/\Ext w1 wr) (fun t _=>na - (intOf t).toNat)
   case atStart=>exact⟨0,rfl,by omega,fun j _ h=>by omega,Ext.refl _⟩
   case round =>
    obtain⟨k,rfl,hk,hno,hxr⟩:=hrel
    have HNO:=hI hno
    have HXR:=hI (HX1.out.trans hxr)
    have HXR1:=hI hxr
    obtain⟨d0,df⟩:=blk1 (hxr.blk HB01.out)
    obtain⟨f0,f1,f2,f3,f4,f5,ff⟩:=blk6 (hxr.blk HB11.out)
    clear hno hxr
    by_cases hkn:k < na
    ·have hka:k < e.args.length:=by have:=HNA.out;omega
     have t1:decide ((k:Int) < (na:Int))=true:=decide_eq_true (by omega)
     obtain⟨b,off,rfl,aw1,nw1,cw1,aa1,na1,ca1,h0,h1,h2,h3,h4,h5,h6⟩:=ExsD.at e.args _ (ExsD.ext HXR.out e.args _ HX.out) k hka
     have H6:=hI h6
     have hs1:=sizes_take_succ e.args k hka
     have hs2:=sizes_take_le e.args (k+1)
     have hk1:e.args[k].size<=m:=by omega
     have ti0:(0:Int)<=(k:Int):=by omega
     have ti1:(k:Int) < (na:Int):=by omega
     clear h6 hs1 hs2
     go_wp2_with fail
     go_still_tail 7,(by kernel_rfl)
     change wpList _ _ _ _ _ wr.drew
     have hx2:Ext wr wr.drew:=(Ext.refl wr).drew
     generalize wr.drew=w2 at hx2 ⊢
     have HX2:=hI (HXR.out.trans hx2)
     have HX12:=hI (HXR1.out.trans hx2)
     have H62:=hI (H6.out.ext hx2)
     clear hx2 d0 df f0 f1 f2 f3 f4 f5 ff h0 h1 h2 h3 h4 h5
     go_wp2_with fail
     refine(IH.out e.args[k] _ _ w2 hk1 (by omega) (fewAll_at _ HFA.out k hka) (HS.out.ext HX2.out) (HL.out.ext HX2.out) H62.out).mono ?_
     rintro r w3 ⟨rfl,hx3⟩
     have HX3:=hI (HX2.out.trans hx3)
     have HX13:=hI (HX12.out.trans hx3)
     clear hx3
     by_cases hz:nodesErr s l e.args[k]=0
     ·have tz:(nodesErr s l e.args[k] != 0)=false:=by simp[hz]
      have HZ:=hI hz
      clear hz
      go_wp2_with fail
      go_roundw
      case rel =>
       refine⟨k+1,by go_num,by omega,fun j hj hjk=>?_,HX13.out⟩
       by_cases e':j=k
       ·subst e';exact HZ.out
       exact HNO.out j hj (by omega)
      case measure=>simp[intOf];omega
     have tz:(nodesErr s l e.args[k] != 0)=true:=by simp[hz]
     have HR:=hI (show nodesErr s l e=nodesErr s l e.args[k] by rw[HQ.out];exact nodesErrL_hit e.args k hka hz fun j hj=>HNO.out j (by omega) hj)
     clear hz
     go_wp2_with fail
     go_ret
     exact givesE_of (by rw[HR.out]) HX3.out
    have t1:decide ((k:Int) < (na:Int))=false:=decide_eq_false (by omega)
    have HR:=hI (show nodesErr s l e=0 by rw[HQ.out,nodesErrL_zero];intro j hj;exact HNO.out j hj (by have:=HNA.out;omega))
    go_wp2_with fail
    go_ret
    exact givesE_of (by rw[HR.out]) HXR.out
  have tz:(E != 0)=true:=by simp[hz]
  have HQ:=hI (show nodesErr s l e=E by rw[HEQ.out,if_pos hz])
  clear hz
  go_wp2_with fail
  go_ret
  exact givesE_of (by rw[HQ.out]) HX1.out
theorem defAt_ltR {l:List Cla} {s:BA} {d:Nat} (h:defAt l s=some d):d < l.length:=by
 unfold defAt at h
 rw[List.findIdx?_eq_some_iff_getElem] at h
 exact h.1
def dOf (l:List Cla) (f:Nat):BA->Option Nat:=fun s=>(defAt l s).map fun d=>expF l f (l.getD d cla0).cond
theorem expF_succ (l:List Cla) (f:Nat) (e:Ex):expF l (f+1) e=expE (dOf l f) e:=rfl
def ExpL (D:BA->Option Nat) (base na:Nat) (args:List Ex) (w1:World) (t i:Value) (wr:World):Prop:=∃ k:Nat,i=.int .i64 k/\k<=na/\t=.int .i64 ((base+expL D (args.take k):Nat):Int)/\base+expL D (args.take k)<=4001/\Ext w1 wr
theorem exp_end {D:BA->Option Nat} {base k:Nat} {args:List Ex} (h:2000 < base+expL D (args.take k)\/args.length<=k):min (base+expL D (args.take k)) 2001=min (base+expL D args) 2001:=by
 rcases h with h|h
 ·have:=expL_take_le D args k
  omega
 rw[List.take_of_length_le h]
theorem rexp_calls (l:List Cla) (a:OA) (n c:Nat) (hn:n<=1000000) (hsz:∀ x∈l,x.cond.size<=1000000000000000):∀ (f m:Nat) (e:Ex) (ev:Value) (w:World) (d:Nat),f+d=n+1->e.size<=m->m<=1000000000000000->IsClas w l a n c->IsEx w e ev ->
  Calls Tryz.prog 49 #[.slice a n c,ev,.int .i64 d] w (GivesE (.int .i64 (expF l f e)) w):=by
 intro f
 induction f with
 | zero =>
  intro m e ev w d hd hm hMM hl he
  obtain⟨aw,nw,cw,aa,na,ca,rfl,hw,hna,hca,ha,hx⟩:=he.parts
  have t0:decide (n < d)=true:=decide_eq_true (by omega)
  have HR:=hI (show expF l 0 e=2001 from rfl)
  clear hw hna hca ha hx he hl
  unfold exV
  go_enter Tryz.func49,Tryz.ntmps49
  go_wp2_with fail
  go_ret
  exact givesE_of (by rw[HR.out];rfl) ((Ext.refl w).alloc _)
 | succ f ihf =>
  intro m
  induction m with
  | zero=>intro e ev w d _ h;have:=size_pos e;omega
  | succ m ihm =>
   intro e ev w d hd hm hMM hl he
   obtain⟨aw,nw,cw,aa,na,ca,rfl,hw,hna,hca,ha,hx⟩:=he.parts
   have hS:e.size=1+sizes e.args:=e.size_eq
   have hla:=length_le_sizes e.args
   have hna2:na<=1000000000000000:=by omega
   have hszm:sizes e.args<=m:=by omega
   have hdn:d<=n:=by omega
   have t0:decide (n < d)=false:=decide_eq_false (by omega)
   have HL:=hI hl
   have HLN:=hI hl.len
   have HX:=hI hx
   have HNA:=hI hna
   have HSZ:=hI hsz
   have HEQ:=hI (show expF l (f+1) e=min ((if e.op=3 then (dOf l f e.name).getD 1 else 1)+expL (dOf l f) e.args) 2001 by rw[expF_succ,expE_eq])
   have IHM:=hI ihm
   have IHF:=hI ihf
   have HD:=hI hd
   clear hw hna hca ha hx he hl hS hla ihm ihf hm hd
   unfold exV
   obtain⟨wa,hwa⟩:∃ wa,wa=w.alloc (.cells #[.int .i64 e.op,.string e.name,.slice aw nw cw,.int .i64 e.lo,.int .i64 e.hi,.slice aa na ca] 26):=⟨_,rfl⟩
   have hxa:Ext w wa:=by rw[hwa];exact(Ext.refl _).alloc _
   have hb1:wa.heap[w.heap.size]?=some (.cells #[.int .i64 e.op,.string e.name,.slice aw nw cw,.int .i64 e.lo,.int .i64 e.hi,.slice aa na ca] 26 (0,0)):=by rw[hwa];exact alloc_new w _
   have HXA:=hI hxa
   have HB1:=hI hb1
   obtain⟨f0,f1,f2,f3,f4,f5,ff⟩:=blk6 hb1
   have hltw:=blk_lt hb1
   clear hxa hb1
   by_cases hdef:e.op=3/\(defAt l e.name).isSome=true
   ·obtain⟨h3,hds⟩:=hdef
    obtain⟨dd,hdd⟩:=Option.isSome_iff_exists.1 hds
    have t3:(e.op==3)=true:=by simp[h3]
    obtain⟨base,hbase⟩:∃ base,base=expF l f (l.getD dd cla0).cond:=⟨_,rfl⟩
    have hbl:base<=2001:=by rw[hbase];exact expF_le _ _ _
    have HQ:=hI (show expF l (f+1) e=min (base+expL (dOf l f) e.args) 2001 by rw[HEQ.out,if_pos h3,hbase];simp[dOf,hdd])
    have hddl:=defAt_ltR hdd
    have hddn:dd < n:=by have:=HLN.out;omega
    have HDC:=hI (rDef_calls l a n c e.name wa (HL.out.ext HXA.out) (by omega))
    rw[hdd,optV_some] at HDC
    obtain⟨cb,coff,v,rfl,hcla,hrow⟩:=(HL.out.ext HXA.out).at hddl
    obtain⟨c0,c1,c2,c3,c4,c5,c6,c7,c8,c9⟩:=hrow.ten
    have HCX:=hI hcla.2.2.1
    have hgd:l.getD dd cla0=l[dd]:=by simp[hddl]
    rw[hgd] at hbase
    have HBS:=hI hbase
    clear HEQ hds hdd h3 hcla hrow hbase hgd c0 c1 c8 c9
    go_enter Tryz.func49,Tryz.ntmps49
    go_wp2_with fail
    rw[<-hwa]
    clear hwa
    refine HDC.out.mono ?_
    rintro r w1 ⟨rfl,rfl⟩
    go_wp2_with fail
    have hd1:f+(d+1)=n+1:=by have:=HD.out;omega
    have hcs:=HSZ.out l[dd] (List.getElem_mem hddl)
    refine(IHF.out 1000000000000000 l[dd].cond _ _ (d+1) hd1 hcs (by omega) (HL.out.ext HXA.out) HCX.out).mono ?_
    rw[<-HBS.out]
    rintro r w2 ⟨rfl,hx2⟩
    have HX2:=hI (HXA.out.trans hx2)
    have HB2:=hI (hx2.blk HB1.out)
    clear hx2 f0 f1 f2 f3 f4 f5 ff c2 c3 c4 c5 c6 c7
    go_wp2_with fail
    go_loopw [9,10] (ExpL (dOf l f) base na e.args w2) (fun _ i _=>na - (intOf i).toNat)
    case atStart=>exact⟨0,rfl,by omega,by simp[expL],by simp[expL];omega,Ext.refl _⟩
    case round =>
     obtain⟨k,rfl,hk,rfl,hle,hxr⟩:=hrel
     have HXR:=hI hxr
     obtain⟨f0,f1,f2,f3,f4,f5,ff⟩:=blk6 (hxr.blk HB2.out)
     clear hxr
     obtain⟨N,hN⟩:∃ N,N=base+expL (dOf l f) (e.args.take k):=⟨_,rfl⟩
     rw[<-hN] at hle ⊢
     have HNN:=hI hN
     clear hN
     by_cases hgo:k < na/\N<=2000
     ·obtain⟨hkn,hN2⟩:=hgo
      have hka:k < e.args.length:=by have:=HNA.out;omega
      have t1:decide ((k:Int) < (na:Int))=true:=decide_eq_true (by omega)
      have t2:decide ((N:Int)<=2000)=true:=decide_eq_true (by omega)
      obtain⟨b,off,rfl,aw1,nw1,cw1,aa1,na1,ca1,h0,h1,h2,h3,h4,h5,h6⟩:=ExsD.at e.args _ (ExsD.ext (HX2.out.trans HXR.out) e.args _ HX.out) k hka
      have H6:=hI h6
      have hs1:=sizes_take_succ e.args k hka
      have hs2:=sizes_take_le e.args (k+1)
      have hk1:e.args[k].size<=m:=by omega
      have HTS:=hI (expL_take_succ (dOf l f) e.args k hka)
      have hel:=expE_le (dOf l f) e.args[k]
      clear h6 hs1 hs2
      go_wp2_with fail
      refine(IHM.out e.args[k] _ _ d HD.out hk1 (by omega) (HL.out.ext (HX2.out.trans HXR.out)) H6.out).mono ?_
      rw[expF_succ]
      rintro r w3 ⟨rfl,hx3⟩
      have HX3:=hI (HXR.out.trans hx3)
      clear hx3 h0 h1 h2 h3 h4 h5 f0 f1 f2 f3 f4 f5 ff
      go_wp2_with fail
      go_roundw
      case rel=>exact⟨k+1,by go_num,by omega,by rw[HTS.out,<-Nat.add_assoc,<-HNN.out];go_num,by rw[HTS.out,<-Nat.add_assoc,<-HNN.out];omega,HX3.out⟩
      case measure=>simp[intOf];omega
     have HR:=hI (show (min N 2001:Nat)=expF l (f+1) e by
      rw[HQ.out,HNN.out]
      exact exp_end (by
       rw[<-HNN.out]
       by_cases h:k < na
       ·exact Or.inl (by have:=fun h2=>hgo ⟨h,h2⟩;omega)
       exact Or.inr (by have:=HNA.out;omega)))
     have hX:=HX2.out.trans HXR.out
     have HXE:=hI hX
     clear hX
     by_cases hkn:k < na
     ·have t1:decide ((k:Int) < (na:Int))=true:=decide_eq_true (by omega)
      have t2:decide ((N:Int)<=2000)=false:=decide_eq_false (by omega)
      clear hgo
      go_wp2_with fail
      all_goals (go_ret;exact givesE_of (by rw[<-HR.out];omega) HXE.out)
     have t1:decide ((k:Int) < (na:Int))=false:=decide_eq_false (by omega)
     clear hgo
     go_wp2_with fail
     all_goals (go_ret;exact givesE_of (by rw[<-HR.out];omega) HXE.out)
   have HQ:=hI (show expF l (f+1) e=min (1+expL (dOf l f) e.args) 2001 by
    rw[HEQ.out]
    by_cases h3:e.op=3
    ·rw[if_pos h3]
     have:defAt l e.name=none:=by
      cases hd:defAt l e.name with
      | none=>rfl
      | some q=>exact absurd ⟨h3,by rw[hd];rfl⟩ hdef
     simp[dOf,this]
    rw[if_neg h3])
   clear HEQ
   by_cases h3:e.op=3
   case' pos =>
    have hdn0:defAt l e.name=none:=by
     cases hd:defAt l e.name with
     | none=>rfl
     | some q=>exact absurd ⟨h3,by rw[hd];rfl⟩ hdef
    have t3:(e.op==3)=true:=by simp[h3]
    have HDC:=hI (rDef_calls l a n c e.name wa (HL.out.ext HXA.out) (by omega))
    rw[hdn0,optV_none] at HDC
    clear hdn0 h3 hdef
    go_enter Tryz.func49,Tryz.ntmps49
    go_wp2_with fail
    rw[<-hwa]
    clear hwa
    refine HDC.out.mono ?_
    rintro r w1 ⟨rfl,rfl⟩
    clear HDC
    go_wp2_with fail
   case' neg =>
    have t3:(e.op==3)=false:=by simp[h3]
    clear h3 hdef
    go_enter Tryz.func49,Tryz.ntmps49
    go_wp2_with fail
    rw[<-hwa]
    clear hwa
   all_goals
    clear f0 f1 f2 f3 f4 f5 ff
    go_loopw [11,12] (ExpL (dOf l f) 1 na e.args wa) (fun _ i _=>na - (intOf i).toNat)
    case atStart=>exact⟨0,rfl,by omega,by simp[expL],by simp[expL],Ext.refl _⟩
    case round =>
     obtain⟨k,rfl,hk,rfl,hle,hxr⟩:=hrel
     have HXR:=hI hxr
     obtain⟨f0,f1,f2,f3,f4,f5,ff⟩:=blk6 (hxr.blk HB1.out)
     clear hxr
     obtain⟨N,hN⟩:∃ N,N=1+expL (dOf l f) (e.args.take k):=⟨_,rfl⟩
     rw[<-hN] at hle ⊢
     have HNN:=hI hN
     clear hN
     by_cases hgo:k < na/\N<=2000
     ·obtain⟨hkn,hN2⟩:=hgo
      have hka:k < e.args.length:=by have:=HNA.out;omega
      have t1:decide ((k:Int) < (na:Int))=true:=decide_eq_true (by omega)
      have t2:decide ((N:Int)<=2000)=true:=decide_eq_true (by omega)
      obtain⟨b,off,rfl,aw1,nw1,cw1,aa1,na1,ca1,h0,h1,h2,h3,h4,h5,h6⟩:=ExsD.at e.args _ (ExsD.ext (HXA.out.trans HXR.out) e.args _ HX.out) k hka
      have H6:=hI h6
      have hs1:=sizes_take_succ e.args k hka
      have hs2:=sizes_take_le e.args (k+1)
      have hk1:e.args[k].size<=m:=by omega
      have HTS:=hI (expL_take_succ (dOf l f) e.args k hka)
      have hel:=expE_le (dOf l f) e.args[k]
      clear h6 hs1 hs2
      go_wp2_with fail
      refine(IHM.out e.args[k] _ _ d HD.out hk1 (by omega) (HL.out.ext (HXA.out.trans HXR.out)) H6.out).mono ?_
      rw[expF_succ]
      rintro r w3 ⟨rfl,hx3⟩
      have HX3:=hI (HXR.out.trans hx3)
      clear hx3 h0 h1 h2 h3 h4 h5 f0 f1 f2 f3 f4 f5 ff
      go_wp2_with fail
      go_roundw
      case rel=>exact⟨k+1,by go_num,by omega,by rw[HTS.out,<-Nat.add_assoc,<-HNN.out];go_num,by rw[HTS.out,<-Nat.add_assoc,<-HNN.out];omega,HX3.out⟩
      case measure=>simp[intOf];omega
     have HR:=hI (show (min N 2001:Nat)=expF l (f+1) e by
      rw[HQ.out,HNN.out]
      exact exp_end (by
       rw[<-HNN.out]
       by_cases h:k < na
       ·exact Or.inl (by have:=fun h2=>hgo ⟨h,h2⟩;omega)
       exact Or.inr (by have:=HNA.out;omega)))
     have hX:=HXA.out.trans HXR.out
     have HXE:=hI hX
     clear hX
     by_cases hkn:k < na
     ·have t1:decide ((k:Int) < (na:Int))=true:=decide_eq_true (by omega)
      have t2:decide ((N:Int)<=2000)=false:=decide_eq_false (by omega)
      clear hgo
      go_wp2_with fail
      all_goals (go_ret;exact givesE_of (by rw[<-HR.out];omega) HXE.out)
     have t1:decide ((k:Int) < (na:Int))=false:=decide_eq_false (by omega)
     clear hgo
     go_wp2_with fail
     all_goals (go_ret;exact givesE_of (by rw[<-HR.out];omega) HXE.out)
theorem rExpanded_calls (l:List Cla) (a:OA) (n c:Nat) (hn:n<=1000000) (hsz:∀ x∈l,x.cond.size<=1000000000000000) (e:Ex) (ev:Value) (w:World) (he:e.size<=1000000000000000) (hl:IsClas w l a n c) (hx:IsEx w e ev) :
  Calls Tryz.prog 30 #[.slice a n c,ev] w (GivesE (.int .i64 (expanded l e)) w):=by
 have HL:=hI hl
 have HX:=hI hx
 have HLN:=hI hl.len
 obtain⟨aw,nw,cw,aa,na,ca,rfl,-,-,-,-,-⟩:=hx.parts
 have HC:=hI (rexp_calls l a n c hn hsz (n+1) 1000000000000000 e (exV e.op e.name aw nw cw e.lo e.hi aa na ca))
 clear hl hx
 unfold exV at *
 go_enter Tryz.func30,Tryz.ntmps30
 go_wp2_with fail
 refine(HC.out _ 0 (by omega) he (by omega) (HL.out.ext ((Ext.refl w).alloc _)) (HX.out.ext ((Ext.refl w).alloc _))).mono ?_
 rintro r w1 ⟨rfl,hx1⟩
 have HX1:=hI (((Ext.refl w).alloc _).trans hx1)
 clear hx1
 go_wp2_with fail
 go_ret
 exact givesE_of (by rw[expanded,HLN.out]) HX1.out
inductive Pr where
 | mk (value:Bool) (pick:Int) (args:List Pr)
def Pr.value:Pr->Bool
 | .mk v _ _=>v
def Pr.pick:Pr->Int
 | .mk _ p _=>p
def Pr.args:Pr->List Pr
 | .mk _ _ a=>a
theorem len_one {α:Type} {l:List α} (h:l.length=1):∃ q,l=[q]:=by
 match l,h with
 | [q],_=>exact⟨q,rfl⟩
mutual
def prvE (s:List Attr) (f:ZI) (D:BA->Option (Pr->Bool)):Ex->Pr->Bool
 | .mk op name words lo hi args,.mk v k ps =>
  if op=6 then (k == -1)&&decide (ps.length=1)&&ps.all (fun q=>prvAt s f D args 0 q&&(v==!q.value))
  else if op=7\/op=8 then
   (if v=decide (op=8) then decide (0<=k)&&decide (ps.length=1)&&ps.all (fun q=>prvAt s f D args k.toNat q&&(q.value==v)) else (k == -1)&&prvZip s f D v args ps)
  else match (if op=3 then D name else none) with
   | some g=>(k == -1)&&decide (ps.length=1)&&ps.all (fun q=>g q&&(v==q.value))
   | none=>(k == -1)&&ps.isEmpty&&(v==factV s f op name words lo hi)
def prvAt (s:List Attr) (f:ZI) (D:BA->Option (Pr->Bool)):List Ex->Nat->Pr->Bool
 | [],_,_=>false
 | e::_,0,q=>prvE s f D e q
 | _::r,k+1,q=>prvAt s f D r k q
def prvZip (s:List Attr) (f:ZI) (D:BA->Option (Pr->Bool)) (v:Bool):List Ex->List Pr->Bool
 | [],[]=>true
 | e::r,q::t=>prvE s f D e q&&(q.value==v)&&prvZip s f D v r t
 | [],_::_=>false
 | _::_,[]=>false
end
def prvF (s:List Attr) (l:List Cla) (f:ZI):Nat->Ex->Pr->Bool
 | 0,_,_=>false
 | k+1,e,p=>prvE s f (fun x=>(defAt l x).map fun d=>prvF s l f k (l.getD d cla0).cond) e p
def prv (s:List Attr) (l:List Cla) (f:ZI) (e:Ex) (p:Pr):Bool:=prvF s l f (l.length+1) e p
theorem valHd_at {s:List Attr} {f:ZI} {D:BA->Option Bool} (l:List Ex):valHd s f D l=(l[0]?.map (valE s f D)).getD false:=by
 cases l<;>simp[valHd]
mutual
theorem prvE_sound {s:List Attr} {f:ZI} {D:BA->Option (Pr->Bool)} {V:BA->Option Bool} (h0:∀ x,D x=none->V x=none) (h1:∀ x g q,D x=some g->g q=true->V x=some q.value) :
  (e:Ex)->(p:Pr)->prvE s f D e p=true->p.value=valE s f V e
 | .mk op name words lo hi args,.mk v k ps,h=>by
  rw[prvE] at h
  rw[valE]
  by_cases h6:op=6
  ·rw[if_pos h6] at h ⊢
   simp only[Bool.and_eq_true,beq_iff_eq,decide_eq_true_eq] at h
   obtain⟨q,rfl⟩:=len_one h.1.2
   have hq:=h.2
   simp only[List.all_cons,List.all_nil,Bool.and_true,Bool.and_eq_true,beq_iff_eq] at hq
   have:=prvAt_sound h0 h1 args 0 q hq.1
   rw[valHd_at,<-this]
   exact hq.2
  rw[if_neg h6] at h ⊢
  by_cases h78:op=7\/op=8
  ·rw[if_pos h78] at h
   by_cases hv:v=decide (op=8)
   ·rw[if_pos hv] at h
    simp only[Bool.and_eq_true,decide_eq_true_eq] at h
    obtain⟨q,rfl⟩:=len_one h.1.2
    have hz:=h.2
    simp only[List.all_cons,List.all_nil,Bool.and_true,Bool.and_eq_true,beq_iff_eq] at hz
    have hq:=prvAt_sound h0 h1 args k.toNat q hz.1
    obtain⟨hm,hq⟩:∃ e∈args,q.value=valE s f V e:=by
     cases hx:args[k.toNat]? with
     | none=>rw[hx] at hq;simp at hq
     | some e=>rw[hx] at hq;exact⟨e,List.mem_of_getElem? hx,by simpa using hq⟩
    rcases h78 with h7|h8
    ·subst h7
     simp at hv
     rw[if_pos rfl,valAll_iff]
     subst hv
     show false=_
     rw[eq_comm,List.all_eq_false]
     exact⟨hm,hq.1,by rw[<-hq.2,hz.2];simp⟩
    subst h8
    simp at hv
    rw[if_neg (by decide),if_pos rfl,valAny_iff]
    subst hv
    show true=_
    rw[eq_comm,List.any_eq_true]
    exact⟨hm,hq.1,by rw[<-hq.2,hz.2]⟩
   rw[if_neg hv] at h
   simp only[Bool.and_eq_true] at h
   have hz:=prvZip_sound h0 h1 v args ps h.2
   rcases h78 with h7|h8
   ·subst h7
    simp at hv
    rw[if_pos rfl,valAll_iff]
    subst hv
    show true=_
    rw[eq_comm,List.all_eq_true]
    exact fun e he=>(hz e he).symm ▸ rfl
   subst h8
   simp at hv
   rw[if_neg (by decide),if_pos rfl,valAny_iff]
   subst hv
   show false=_
   rw[eq_comm,List.any_eq_false]
   exact fun e he=>by rw[<-hz e he];simp
  rw[if_neg h78] at h
  rw[if_neg (fun e=>h78 (Or.inl e)),if_neg (fun e=>h78 (Or.inr e))]
  by_cases h3:op=3
  ·rw[if_pos h3] at h ⊢
   cases hD:D name with
   | none =>
    rw[hD] at h
    simp only[Bool.and_eq_true,beq_iff_eq] at h
    rw[h0 name hD]
    exact h.2
   | some g =>
    rw[hD] at h
    simp only[Bool.and_eq_true,decide_eq_true_eq] at h
    obtain⟨q,rfl⟩:=len_one h.1.2
    have hz:=h.2
    simp only[List.all_cons,List.all_nil,Bool.and_true,Bool.and_eq_true,beq_iff_eq] at hz
    rw[h1 name g q hD hz.1]
    exact hz.2
  rw[if_neg h3] at h ⊢
  simp only[Bool.and_eq_true,beq_iff_eq] at h
  exact h.2
theorem prvAt_sound {s:List Attr} {f:ZI} {D:BA->Option (Pr->Bool)} {V:BA->Option Bool} (h0:∀ x,D x=none->V x=none) (h1:∀ x g q,D x=some g->g q=true->V x=some q.value) :
  (l:List Ex)->(k:Nat)->(q:Pr)->prvAt s f D l k q=true->some q.value=l[k]?.map (valE s f V)
 | [],k,q,h=>by rw[prvAt] at h;simp at h
 | e::r,0,q,h=>by rw[prvAt] at h;simp[prvE_sound h0 h1 e q h]
 | e::r,k+1,q,h=>by rw[prvAt] at h;simpa using prvAt_sound h0 h1 r k q h
theorem prvZip_sound {s:List Attr} {f:ZI} {D:BA->Option (Pr->Bool)} {V:BA->Option Bool} (h0:∀ x,D x=none->V x=none) (h1:∀ x g q,D x=some g->g q=true->V x=some q.value) (v:Bool) :
  (l:List Ex)->(ps:List Pr)->prvZip s f D v l ps=true->∀ e∈l,v=valE s f V e
 | [],_,_,e,he=>by simp at he
 | e::r,[],h,_,_=>by rw[prvZip] at h;simp at h
 | e::r,q::t,h,x,hx=>by
  rw[prvZip] at h
  simp only[Bool.and_eq_true,beq_iff_eq] at h
  rcases List.mem_cons.1 hx with hx|hx
  ·rw[hx,<-h.1.2];exact prvE_sound h0 h1 e q h.1.1
  exact prvZip_sound h0 h1 v r t h.2 x hx
end
theorem prvF_sound (s:List Attr) (l:List Cla) (f:ZI):(k:Nat)->(e:Ex)->(p:Pr)->prvF s l f k e p=true->p.value=valF s l f k e
 | 0,_,_,h=>by simp[prvF] at h
 | k+1,e,p,h=>by
  rw[prvF] at h
  rw[valF]
  refine prvE_sound (fun x hx=>?_) (fun x g q hx hg=>?_) e p h
  ·cases hd:defAt l x with
   | none=>rfl
   | some d=>rw[hd] at hx;simp at hx
  cases hd:defAt l x with
  | none=>rw[hd] at hx;simp at hx
  | some d =>
   rw[hd] at hx
   simp only[Option.map_some,Option.some.injEq] at hx ⊢
   subst hx
   exact(prvF_sound s l f k _ q hg).symm
def pr0:Pr:=.mk false (-1) []
def sevP (d:Bool) (l:List Pr):Pr:=match l.findIdx? (fun q=>q.value==d) with
 | some k=>.mk d k [l.getD k pr0]
 | none=>.mk (!d) (-1) l
def refP (o:Option Pr) (v:Bool):Pr:=match o with
 | some q=>.mk q.value (-1) [q]
 | none=>.mk v (-1) []
def notP (q:Pr):Pr:=.mk (!q.value) (-1) [q]
mutual
def pfE (s:List Attr) (f:ZI) (D:BA->Option Pr):Ex->Pr
 | .mk op name words lo hi args=>if op=6 then notP (pfHd s f D args) else if op=7\/op=8 then sevP (decide (op=8)) (pfL s f D args) else refP (if op=3 then D name else none) (factV s f op name words lo hi)
def pfHd (s:List Attr) (f:ZI) (D:BA->Option Pr):List Ex->Pr
 | []=>pr0
 | e::_=>pfE s f D e
def pfL (s:List Attr) (f:ZI) (D:BA->Option Pr):List Ex->List Pr
 | []=>[]
 | e::r=>pfE s f D e::pfL s f D r
end
theorem pfL_map {s:List Attr} {f:ZI} {D:BA->Option Pr}:(l:List Ex)->pfL s f D l=l.map (pfE s f D)
 | []=>by rw[pfL];rfl
 | e::r=>by rw[pfL,pfL_map r];rfl
def pfF (s:List Attr) (l:List Cla) (f:ZI):Nat->Ex->Pr
 | 0,_=>pr0
 | k+1,e=>pfE s f (fun x=>(defAt l x).map fun d=>pfF s l f k (l.getD d cla0).cond) e
def pf (s:List Attr) (l:List Cla) (f:ZI) (e:Ex):Pr:=pfF s l f (l.length+1) e
theorem prvE_eq (s:List Attr) (f:ZI) (D:BA->Option (Pr->Bool)) (e:Ex) (p:Pr):prvE s f D e p =
  if e.op=6 then (p.pick == -1)&&decide (p.args.length=1)&&p.args.all (fun q=>prvAt s f D e.args 0 q&&(p.value==!q.value))
  else if e.op=7\/e.op=8 then
   (if p.value=decide (e.op=8) then decide (0<=p.pick)&&decide (p.args.length=1)&&p.args.all (fun q=>prvAt s f D e.args p.pick.toNat q&&(q.value==p.value)) else (p.pick == -1)&&prvZip s f D p.value e.args p.args)
  else match (if e.op=3 then D e.name else none) with
   | some g=>(p.pick == -1)&&decide (p.args.length=1)&&p.args.all (fun q=>g q&&(p.value==q.value))
   | none=>(p.pick == -1)&&p.args.isEmpty&&(p.value==factV s f e.op e.name e.words e.lo e.hi):=by
 cases e;cases p;rw[prvE];rfl
theorem prvAt_get {s:List Attr} {f:ZI} {D:BA->Option (Pr->Bool)}:(l:List Ex)->(k:Nat)->(q:Pr)->prvAt s f D l k q=(l[k]?.map fun e=>prvE s f D e q).getD false
 | [],k,q=>by rw[prvAt];rfl
 | e::r,0,q=>by rw[prvAt];rfl
 | e::r,k+1,q=>by rw[prvAt,prvAt_get r k q];simp
theorem prvZip_of {s:List Attr} {f:ZI} {D:BA->Option (Pr->Bool)} {v:Bool}:(l:List Ex)->(ps:List Pr)->l.length=ps.length->(∀ i (h1:i < l.length) (h2:i < ps.length),prvE s f D l[i] ps[i]=true/\ps[i].value=v)->prvZip s f D v l ps=true
 | [],[],_,_=>by rw[prvZip]
 | e::r,q::t,h,h2=>by
  have h0:=h2 0 (by simp) (by simp)
  simp only[List.getElem_cons_zero] at h0
  rw[prvZip,h0.1,prvZip_of r t (by simpa using h) fun i g1 g2=>by have:=h2 (i+1) (by simpa using g1) (by simpa using g2);simpa using this]
  simp[h0.2]
 | [],q::t,h,_=>by simp at h
 | e::r,[],h,_=>by simp at h
theorem prvZip_len {s:List Attr} {f:ZI} {D:BA->Option (Pr->Bool)} {v:Bool}:(l:List Ex)->(ps:List Pr)->prvZip s f D v l ps=true->l.length=ps.length
 | [],[],_=>rfl
 | e::r,q::t,h=>by
  rw[prvZip] at h
  simp only[Bool.and_eq_true] at h
  simp[prvZip_len r t h.2]
 | [],q::t,h=>by rw[prvZip] at h;simp at h
 | e::r,[],h=>by rw[prvZip] at h;simp at h
theorem prvZip_at {s:List Attr} {f:ZI} {D:BA->Option (Pr->Bool)} {v:Bool}:(l:List Ex)->(ps:List Pr)->prvZip s f D v l ps=true->∀ i (h1:i < l.length) (h2:i < ps.length),prvE s f D l[i] ps[i]=true/\ps[i].value=v
 | e::r,q::t,h,0,_,_=>by
  rw[prvZip] at h
  simp only[Bool.and_eq_true,beq_iff_eq] at h
  simpa using h.1
 | e::r,q::t,h,i+1,g1,g2=>by
  rw[prvZip] at h
  simp only[Bool.and_eq_true] at h
  simpa using prvZip_at r t h.2 i (by simpa using g1) (by simpa using g2)
end Go.Proofs.YtpkljcgihobaiaaGreatDoor
