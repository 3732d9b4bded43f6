/-
  Texts of the claim, joined: SWb, CNodes, Prf, Prf2, Term, CExpr, EvalE, SetRow.
-/
import Derived.Test.YtefjomofjejklaaGreatDoorDx14
namespace Go.Proofs.YtefjomofjejklaaGreatDoor
set_option maxRecDepth 100000
set_option maxHeartbeats 32000000
open Go.RowKit
theorem Me:(l:List Wb)->(k:Nat)->(hk:k<l.length)->qU (l.take (k+1))=qU (l.take k)+1+qU l[k].jZ
 | [],k,hk=>by simp at hk
 | .mk n c u::r,0,_=>by simp[qU,Wb.jZ]
 | .mk n c u::r,k+1,hk=>by
  have:=Me r k (by simpa using hk);simp[qU] at this ⊢;omega
theorem MV:(l:List Wb)->(k:Nat)->qU (l.take k)<=qU l
 | [],k=>by simp[qU]
 | .mk n c u::r,0=>by simp[qU]
 | .mk n c u::r,k+1=>by have:=MV r k;simp[qU];omega
def WbQ (R:Bool) (T:Nat) (bc:Nat) (w:World) (e:Ending) (w':World):Prop:=∃m:Nat,e=.returned (.bool R)/\w'.heap[bc]?=some (.cells #[.int .i64 ((m:Nat):Int)] 3 (0,0))/\m<=41/\(R=true->m=T)/\dO [bc] w w'
def aV5 (w:World) (bc d n:Nat) (l:List Wb) (nl:Nat) (t:Value) (wr:World):Prop:=∃k m:Nat,t=.int .i64 ((k:Nat):Int)/\k<=nl/\(∀j (h:j<l.length),j<k->aaD (17 - d) l[j]=true)/\m=n+qU (l.take k)/\m<=40/\(k=0\/d≠17) /\
 wr.heap[bc]?=some (.cells #[.int .i64 ((m:Nat):Int)] 3 (0,0))/\dO [bc] w wr
theorem Ve {w0:World} (ho:gG w0) (fm:Nat):∀(l:List Wb) (a:OA) (nl c d n bc:Nat) (w:World),qU l<fm->nl<=1000000000000000->su l->1<=d->d<=17->n<=40->nl=l.length->jJ (mask w [bc]) l a->Ext w0 w->w0.heap.size<=bc ->
  w.heap[bc]?=some (.cells #[.int .i64 ((n:Nat):Int)] 3 (0,0)) ->
  Calls Tryz.prog 183 #[.slice a nl c,.int .i64 ((d:Nat):Int),.pointer (some ⟨bc,0,none⟩)] w (WbQ (pW (17 - d) l&&decide (n+qU l<=40)) (n+qU l) bc w):=by
 induction fm with
 | zero=>intro l a nl c d n bc w h;omega
 | succ fm ih =>
  intro l a nl c d n bc w hfm hnl hfit hd1 hd2 hn hln hdat hx0 hbc hcell;have HD:=ak hdat;have HN:=ak hln;have HFT:=ak hfit;have HX0:=ak hx0;have HO:=ak ho;have IH:=ak ih;have Fp:=ak hbc;have aBV:=ak hcell;have HQ:=ak (ag7 (17 - d) l);obtain⟨R,hR⟩:∃R,R=(pW (17 - d) l&&decide (n+qU l<=40)):=⟨_,rfl⟩
  rw[<-hR];have HR:=ak hR;obtain⟨T,hT⟩:∃T,T=n+qU l:=⟨_,rfl⟩
  rw[<-hT];have HT:=ak hT;clear hdat hln hfit hx0 ih hcell hR hT ho;go_enter Tryz.func183,Tryz.ntmps183
  go_wp2_with fail
  go_loopw [11] (aV5 w bc d n l nl) (fun t _=>nl - (intOf t).toNat)
  case atStart=>exact⟨0,n,rfl,by omega,fun j _ h=>by omega,by simp[qU],hn,Or.inl rfl,aBV.o,dO.refl _ _⟩
  case round =>
   obtain⟨k,m,rfl,hk,hall,hm,a6P,aUL,hcb,hch⟩:=hrel;have a2W:=ak aUL;have qE:=ak hall;have HM:=ak hm;have yT:=ak hcb;have HCH:=ak hch;obtain⟨cc0,ccf⟩:=gQ hcb;have a0y:=dH hcb;clear hall hm hcb hch aUL;by_cases hkn:k<nl
   case neg =>
    have t1:=aj ((k:Int)<(nl:Int));have HE:=ak (show m=T/\R=true by
     have h1:=HM.o;have h2:=HN.o;rw[aY (by omega)] at h1;refine⟨by rw[HT.o,h1],?_⟩;rw[HR.o,aJ];refine⟨?_,by simp;omega⟩;rw[HQ.o,aJ];refine⟨?_,?_⟩
     ·by_cases h0:l.length=0
      ·simp[h0]
      have a0q:17 - d≠0:=by
       have:=a2W.o;omega
      simp[a0q]
     rw[aV];intro x hx;obtain⟨j,hj,rfl⟩:=bD.1 hx;exact qE.o j hj (by omega))
    go_wp2_with fail
    go_ret;exact⟨m,by rw[HE.o.2];rfl,yT.o,by omega,fun _=>HE.o.1,HCH.o⟩
   have hkl:k<l.length:=by have:=HN.o;omega
   have t1:=ah ((k:Int)<(nl:Int));obtain⟨b,off,rfl,v,hv0,hrow,hv2,hv3,hv4,hv5,hv6⟩:=jJ.at l _ (jJ.mono HCH.o.sub _ _ HD.o) k hkl;obtain⟨c0,c1,c2,c3,c4,c5,c6,c7⟩:=(hrow.mono (dU _ _)).eight;obtain⟨ho1,ho2,ho3,ho4,hou,ho5⟩:=abo l HFT.o k hkl;have hvn:v.nu<=1000000000000000:=by rw[hv3];exact hou
   have hwn:=Gn l k hkl;have HU:=ak hv6;have HUN:=ak hv3;have HEX:=ak hv2;have yQ:=ak ho2;have Qk:=ak ho5;have HIT:=ak (show aaD (17 - d) l[k]=(nameB l[k].name&&iL l[k].cond&&pW (17 - d - 1) l[k].jZ) from rfl);have Iq:=ak (Me l k hkl);have htl:=MV l (k+1);have HTL:=ak htl;have hblt:=block_lt c0;rw[hv0] at c0;simp only at hblt;clear hrow hv0 hv2 hv3 hv4 hv5 hv6 ho2 ho3 ho4 hou ho5 htl;obtain⟨wx,hwx⟩:∃wx,wx=(wr.setCell ⟨bc,0,none⟩ (.int .i64 ((m:Int)+1))).alloc (.cells #[.string l[k].name,.int .i64 v.x.op,.string v.x.name,.slice v.x.aw v.x.nw v.x.cw,.int .i64 v.x.lo,.int .i64 v.x.hi,.slice v.x.aa v.x.na v.x.ca,.slice v.au v.nu v.cu] 53):=⟨_,rfl⟩
   have lV:=ak (show wx.heap[wr.heap.size]?=some (.cells #[.string l[k].name,.int .i64 v.x.op,.string v.x.name,.slice v.x.aw v.x.nw v.x.cw,.int .i64 v.x.lo,.int .i64 v.x.hi,.slice v.x.aa v.x.na v.x.ca,.slice v.au v.nu v.cu] 53 (0,0)) by
    rw[hwx];exact eH (by simp))
   have Us:=ak (show wx.heap[bc]?=some (.cells #[.int .i64 (((m+1:Nat)):Int)] 3 (0,0)) by
    rw[hwx];have:=aO wr bc 0 _ _ (.int .i64 ((m:Int)+1)) yT.o;exact dJ this)
   have HHX:=ak (show dO [bc] wr wx by rw[hwx];exact((dO.refl [bc] wr).setCell (Or.inl (by simp)) _).alloc _);go_upto_region 5 with fail
   rw[<-hwx];have Dl:=ak ((HCH.o.then HHX.o).ext HX0.o (by simpa using Fp.o));clear hwx cc0 ccf c0 c1 c2 c3 c4 c5 c6 c7;obtain⟨cc0,ccf⟩:=gQ Us.o;have aSm:=ak (fun (h:aaD (17 - d) l[k]=false)=>show R=false by
    rw[HR.o,HQ.o];have:l.all (aaD (17 - d))=false:=by
     rw[List.all_eq_false];exact⟨l[k],aI hkl,by rw[h];simp⟩
    rw[this];simp)
   have aYd:=ak (fun (h:40<n+qU l)=>show R=false by
    rw[HR.o];have:decide (n+qU l<=40)=false:=dD (by omega);rw[this];simp)
   by_cases h17:d=17
   ·have t2:=ah ((16:Int)<(d:Int));have HF:=ak (show R=false by
     rw[HR.o,HQ.o,h17];have:¬l.length=0:=by omega
     simp[this])
    go_wp2_with fail
    go_ret;exact⟨m+1,by rw[HF.o];rfl,Us.o,by omega,fun h=>(by rw[HF.o] at h;cases h),HCH.o.then HHX.o⟩
   have t2:=aj ((16:Int)<(d:Int));by_cases h40:40<m+1
   ·have t3:=ah ((40:Int)<((m+1:Nat):Int));have HF:=ak (aYd.o (by have h1:=HM.o;have h2:=Iq.o;have h3:=HTL.o;omega));go_wp2_with fail
    go_ret;exact⟨m+1,by rw[HF.o];rfl,Us.o,by omega,fun h=>(by rw[HF.o] at h;cases h),HCH.o.then HHX.o⟩
   have t3:=aj ((40:Int)<((m+1:Nat):Int));obtain⟨c0,c1,c2,c3,c4,c5,c6,c7,cf⟩:=vN lV.o;have hltx:=dH lV.o;cases hnb:nameB l[k].name
   ·have GL:=ak hnb;have HF:=ak (aSm.o (by rw[HIT.o,hnb];rfl));clear hnb;go_wp2_with fail
    refine(wQ _ _ ho1).mono ?_;rintro r w1 ⟨rfl,rfl⟩;rw[GL.o];go_wp2_with fail
    go_ret;exact⟨m+1,by rw[HF.o];rfl,Us.o,by omega,fun h=>(by rw[HF.o] at h;cases h),HCH.o.then HHX.o⟩
   have GL:=ak hnb;rw[hnb,Bool.true_and] at HIT;clear hnb;go_wp2_with fail
   refine(wQ _ _ ho1).mono ?_;rintro r w1 ⟨rfl,rfl⟩;rw[GL.o];go_wp2_with fail
   refine(wF l[k].cond _ wx (HEX.o.mono (HHX.o.sub.trans (dU _ _))) (HO.o.ext Dl.o) yQ.o).mono ?_;rintro r w2 ⟨rfl,hx2⟩;rw[Eo];have gI:=ak (Dl.o.trans hx2);have HC2:=ak (hx2.blk Us.o);have HB2:=ak (hx2.blk lV.o);have aKf:=ak ((HCH.o.then HHX.o).then (hx2.fH [bc]));have HU2:=ak (jJ.mono ((HHX.o.then (hx2.fH [bc])).sub) _ _ HU.o);clear hx2 c0 c1 c2 c3 c4 c5 c6 c7 cf cc0 ccf hltx;obtain⟨c0,c1,c2,c3,c4,c5,c6,c7,cf⟩:=vN HB2.o;have hltx:=dH HB2.o;cases hxb:iL l[k].cond
   ·have HF:=ak (aSm.o (by rw[HIT.o,hxb];rfl));go_wp2_with fail
    go_ret;exact⟨m+1,by rw[HF.o];rfl,HC2.o,by omega,fun h=>(by rw[HF.o] at h;cases h),aKf.o⟩
   rw[hxb,Bool.true_and] at HIT;clear hxb;have Q1:=ak (show (d:Int)+1=((d+1:Nat):Int) by omega);have HWF:=ak (IH.o l[k].jZ v.au v.nu v.cu (d+1) (m+1) bc w2 (by omega) hvn Qk.o (by omega) (by omega) (by omega) HUN.o HU2.o gI.o Fp.o HC2.o);have e1:17 - (d+1)=17 - d - 1:=by omega
   rw[e1,<-HIT.o] at HWF;clear e1;go_wp2_with fail
   rw[Q1.o];refine HWF.o.mono ?_;rintro r w3 ⟨m3,rfl,hc3,hm3,hT3,aU6⟩;have tH:=ak hc3;have HT3:=ak hT3;have aSE:=ak (aKf.o.then aU6);clear hc3 hT3 aU6 c0 c1 c2 c3 c4 c5 c6 c7 cf hltx;cases hib:aaD (17 - d) l[k]
   ·have HF:=ak (aSm.o hib);simp only[Bool.false_and];clear hib;go_wp2_with fail
    go_ret;exact⟨m3,by rw[HF.o];rfl,tH.o,hm3,fun h=>(by rw[HF.o] at h;cases h),aSE.o⟩
   have KO:=ak hib;rw[hib] at HT3;clear hib;simp only[Bool.true_and];by_cases aPP:m+1+qU l[k].jZ<=40
   case neg =>
    have t4:=aj (m+1+qU l[k].jZ<=40) aPP;rw[t4];have HF:=ak (aYd.o (by have h1:=HM.o;have h2:=Iq.o;have h3:=HTL.o;omega));clear t4;go_wp2_with fail
    go_ret;exact⟨m3,by rw[HF.o];rfl,tH.o,hm3,fun h=>(by rw[HF.o] at h;cases h),aSE.o⟩
   have t4:=ah (m+1+qU l[k].jZ<=40) aPP;rw[t4];have OT:=ak (HT3.o (by rw[t4];rfl));clear t4;go_wp2_with fail
   go_roundw
   case rel =>
    refine⟨k+1,m3,by go_num,by omega,fun j hj hjk=>?_,?_,?_,?_,tH.o,aSE.o⟩
    ·by_cases e:j=k
     ·subst e;exact KO.o
     exact qE.o j hj (by omega)
    ·rw[Iq.o,OT.o,HM.o];omega
    ·rw[OT.o];exact aPP
    exact Or.inr h17
   case measure=>simp[intOf];omega
open Go.RowKit Go.Maps
theorem azL {f:Nat->Int} {n:Nat} (h:(oC f n).2=0):∀j,j<n->f j=0:=by
 induction n with
 | zero=>intro j hj;omega
 | succ n ih =>
  intro j hj;rw[oC] at h;by_cases h1:(oC f n).2≠0
  ·rw[dw h1] at h;exact absurd h h1
  rw[dh h1] at h;by_cases h2:f n≠0
  ·rw[dw h2] at h;exact absurd h h2
  by_cases e:j=n
  ·subst e;simpa using h2
  exact ih (by simpa using h1) j (by omega)
theorem ZT {s:List Attr} (h:fD s=0) {i:Nat} (hi:i<s.length):jT s[i]=0:=by
 unfold fD at h;by_cases h0:s.length=0
 ·rw[dw h0] at h;cases h
 rw[dh h0] at h;by_cases h6:6<s.length
 ·rw[dw h6] at h;cases h
 rw[dh h6] at h;have:=azL h i hi;unfold xG at this;rw[Dy hi] at this;split at this
 ·cases this
 split at this
 ·cases this
 exact this
theorem apY {a:Attr} (h:jT a=0) (hk:a.kind=1\/a.kind=3):a.lo=0/\a.hi=0:=by
 unfold jT at h;rcases hk with hk|hk
 ·rw[dw hk] at h;split at h
  ·cases h
  rename_i h1
  omega
 rw[dh (by omega),dh (by omega),dw hk] at h;split at h
 ·cases h
 rename_i h1
 omega
theorem aIB {s:List Attr} {l:List dY} (hs:fD s=0) {e:Ex} (he:EH e):NC s l e.op e.name e.words e.lo e.hi=iR s l e.op e.name e.words e.lo e.hi:=by
 have key:∀(ws vs:ZB),(ws.all fun x=>decide (x∈vs))=ws.all fun x=>vs.any fun y=>decide (y=x):=by
  intro ws vs
  congr 1
  funext x
  rw[bW];simp
 rcases he with ⟨h1,h2,h3,h4,h5,h6⟩|⟨h1,h2,h3,h4,h5,h6⟩|⟨h1,h2,h3,h4,h5,h6⟩|⟨h1,h2,h3,h4,h5,h6⟩|⟨h1,h2,h3,h4,h5,h6⟩|⟨h1,h2,h3,h4,h5,h6⟩|⟨h1,h2,h3,h4,h5,h6⟩
 ·rw[h1];rfl
 ·rw[h1];rfl
 ·rw[h1,h3,h4,h5];cases ho:iE s e.name with
  | none =>
   rw[Yb (by decide) ho];simp[iR,ho]
  | some i =>
   have hi:=Qi ho;have e5:iR s l 3 e.name [] 0 0=if s[i].kind≠3 then 9 else 0:=by
    unfold iR;rw[dw rfl,ho];simp only[Dy hi]
   rw[Ya (by decide) ho hi,e5,show Jz 3=3 from rfl];by_cases hk:s[i].kind=3
   ·have:=apY (ZT hs hi) (Or.inr hk);rw[this.1,this.2];simp[hk]
   rw[dw hk,dw hk]
 ·rw[h1,h4,h5];cases ho:iE s e.name with
  | none =>
   rw[Yb (by decide) ho];simp[iR,ho]
  | some i =>
   have hi:=Qi ho;have e5:iR s l 4 e.name e.words 0 0=if s[i].kind≠1 then 9 else if (e.words.all fun x=>s[i].words.any fun y=>decide (y=x))=false then 7 else 0:=by
    unfold iR;rw[dh (show ¬(4:Int)=3 by decide),dw rfl,ho];simp only[Dy hi]
   rw[Ya (by decide) ho hi,e5,show Jz 4=1 from rfl];by_cases hk:s[i].kind=1
   ·have:=apY (ZT hs hi) (Or.inl hk);rw[this.1,this.2,key];simp[hk]
   rw[dw hk,dw hk]
 ·rw[h1,h3];cases ho:iE s e.name with
  | none =>
   rw[Yb (by decide) ho];simp[iR,ho]
  | some i =>
   have hi:=Qi ho;have e5:iR s l 5 e.name [] e.lo e.hi=if s[i].kind≠2 then 9 else if e.lo<s[i].lo\/s[i].hi<e.hi then 1 else 0:=by
    unfold iR;rw[dh (show ¬(5:Int)=3 by decide),dh (show ¬(5:Int)=4 by decide),dw rfl,ho];simp only[Dy hi]
   rw[Ya (by decide) ho hi,e5,show Jz 5=2 from rfl];simp
 ·rw[h1];rfl
 rcases h1 with h1|h1<;>(rw[h1];rfl)
theorem asq (s:List Attr) (hse:fD s=0) (l:List dY) (hf:∀x∈s,x.fits) (hsl:s.length<=1000000000000000) (bm nm:Nat) (m:Nat):∀(e:Ex) (ev sv:Value) (w:World),e.size<=m->m<=1000000000000000->e.few->e.fits->jA e->fJ w s sv->Cm w l bm nm->fC w e ev ->
  Calls Tryz.prog 139 #[sv,.map (some bm),ev] w (dN (.int .i64 (fB s l e)) w):=by
 induction m with
 | zero=>intro e ev sv w h;have:=size_pos e;omega
 | succ m ih =>
  intro e ev sv w hm YJ hfew hfit hok hs hd he;obtain⟨sa,sn,sc,rfl,hsn⟩:=hs.slice;obtain⟨hfw,hfa⟩:=wK hfew;obtain⟨hen,hft⟩:=TW hfit;have HN0:=ak (fun (W:World) (h1:fJ W s (.agg #[.slice sa sn sc])) (h2:Cm W l bm nm) (h3:fC W e ev)=>awy s (.agg #[.slice sa sn sc]) l bm nm e ev W h1 hf hsl h2 h3 hfw hen);rw[aIB hse (kP hok).1] at HN0;obtain⟨aw,nw,cw,aa,na,ca,rfl,hw,hna,hca,ha,hx⟩:=he.parts;have hS:e.size=1+sizes e.args:=e.size_eq;have hla:=iI e.args;have Q9:na<=1000000000000000:=by omega
  have hsz:sizes e.args<=m:=by omega
  have HE:=ak he;have HS:=ak hs;have HD:=ak hd;have HX:=ak hx;have nK:=ak hna;have HFT:=ak hft;have Gh:=ak hfa;have Ej:=ak (kP hok).2;have MQ:=ak (EI s l e);have IH:=ak ih;clear hs hd he hx hna hw hca ha hS hla hsn hfw hfa hfew ih hf hm hft hfit hok;unfold exV at *;obtain⟨wa,dW⟩:∃wa,wa=(w.alloc (.cells #[.slice sa sn sc] 24)).alloc (.cells (aC e.op e.name aw nw cw e.lo e.hi aa na ca) 45):=⟨_,rfl⟩
  have hxa:Ext w wa:=by rw[dW];exact((Ext.refl _).alloc _).alloc _
  have hb0:wa.heap[w.heap.size]?=some (.cells #[.slice sa sn sc] 24 (0,0)):=by rw[dW];exact dJ (dG w _)
  have hb1:wa.heap[w.heap.size+1]?=some (.cells (aC e.op e.name aw nw cw e.lo e.hi aa na ca) 45 (0,0)):=by rw[dW];exact eH (by simp)
  have fE:=ak hxa;have HB0:=ak hb0;have HB1:=ak hb1;obtain⟨a0,af⟩:=gQ hb0;obtain⟨b0,b1,b2,b3,b4,b5,bf⟩:=eP hb1;have hlt1:=dH hb1;have Em:=ak (HN0.o wa (HS.o.ext hxa) (HD.o.ext hxa) (HE.o.ext hxa));clear hxa hb0 hb1 HN0;obtain⟨N,hN⟩:∃N,N=iR s l e.op e.name e.words e.lo e.hi:=⟨_,rfl⟩
  rw[<-hN] at Em MQ;obtain⟨E,hE⟩:∃E,E=fB s l e:=⟨_,rfl⟩
  rw[<-hE] at MQ ⊢;clear hN hE;go_enter Tryz.func139,Tryz.ntmps139
  go_upto_region 1 with fail
  rw[<-dW];clear dW;go_wp2_with fail
  refine Em.o.mono ?_;rintro r w3 ⟨rfl,hx3⟩;have gU:=ak (fE.o.trans hx3);have Bl:=ak (hx3.blk HB0.o);have rX:=ak (hx3.blk HB1.o);clear hx3 a0 af b0 b1 b2 b3 b4 b5 bf hlt1;by_cases hz:N=0
  case neg =>
   have tz:(N != 0)=true:=by simp[hz]
   have HQ:=ak (show E=N by rw[MQ.o,dw hz]);clear hz;go_wp2_with fail
   go_ret;exact dP (by rw[HQ.o]) gU.o
  have tz:(N != 0)=false:=by simp[hz]
  have HQ:=ak (show E=gW s l e.args by rw[MQ.o,dh (by simpa using hz)]);clear hz MQ;obtain⟨b0,b1,b2,b3,b4,b5,bf⟩:=eP rX.o;have hlt1:=dH rX.o;go_wp2_with fail
  clear b0 b1 b2 b3 b4 b5 bf hlt1;go_loopw [21] (fun t wr=>∃k:Nat,t=.int .i64 k/\k<=na/\(∀j (h:j<e.args.length),j<k->fB s l e.args[j]=0)/\wr.heap[w.heap.size]?=some (.cells #[.slice sa sn sc] 24 (0,0))/\Ext w wr) (fun t _=>na - (intOf t).toNat)
  case atStart=>exact⟨0,rfl,by omega,fun j _ h=>by omega,Bl.o,gU.o⟩
  case round =>
   obtain⟨k,rfl,hk,hall,hbx,hxr⟩:=hrel;have qE:=ak hall;have lV:=ak hbx;have kC:=ak hxr;obtain⟨a0,af⟩:=gQ hbx;have hlt0:=dH hbx;clear hall hbx hxr;by_cases hkn:k<na
   ·have hka:k<e.args.length:=by have:=nK.o;omega
    have t1:=ah ((k:Int)<(na:Int));obtain⟨b,off,rfl,rJ,rF,rH,rM,rG,ca1,h0,h1,h2,h3,h4,h5,h6⟩:=iK.at e.args _ (iK.ext kC.o e.args _ HX.o) k hka;have hs1:=iq e.args k hka;have hs2:=gV e.args (k+1);have hk1:e.args[k].size<=m:=by omega
    have hblt:=block_lt h0;simp only at hblt;have HC:=ak (fun (W:World) (hW:Ext wr W)=>IH.o e.args[k] _ (.agg #[.slice sa sn sc]) W hk1 (by omega) (LD _ Gh.o k hka) (HFT.o _ (aI hka)) (Ej.o _ (aI hka)) (HS.o.ext (kC.o.trans hW)) (HD.o.ext (kC.o.trans hW)) (h6.ext hW));unfold exV at HC;clear h6 hs1 hs2;obtain⟨E1,hE1⟩:∃E1,E1=fB s l e.args[k]:=⟨_,rfl⟩
    rw[<-hE1] at HC;have yS:=ak hE1;clear hE1;go_wp2_with fail
    refine(HC.o _ ((Ext.refl wr).alloc _)).mono ?_;rintro r w5 ⟨rfl,hx5⟩;have jY:=ak ((kC.o.alloc _).trans hx5);have Cj:=ak (hx5.blk (dJ lV.o));clear hx5 h0 h1 h2 h3 h4 h5 a0 af hlt0 HC;by_cases hz1:E1=0
    ·have tz1:(E1 != 0)=false:=by simp[hz1]
     have HZ1:=ak (yS.o.symm.trans hz1);clear hz1;go_wp2_with fail
     go_roundw
     case rel =>
      refine⟨k+1,by go_num,by omega,fun j hj hjk=>?_,Cj.o,jY.o⟩;by_cases e0:j=k
      ·subst e0;exact HZ1.o
      exact qE.o j hj (by omega)
     case measure=>simp[intOf];omega
    have tz1:(E1 != 0)=true:=by simp[hz1]
    have HR:=ak (show E=E1 by rw[HQ.o,MI e.args k hka (by rw[<-yS.o];exact hz1) (fun j hj=>qE.o j (by omega) hj),yS.o]);clear hz1;go_wp2_with fail
    go_ret;exact dP (by rw[HR.o]) jY.o
   have t1:=aj ((k:Int)<(na:Int));have HR:=ak (show E=0 by rw[HQ.o,yG e.args fun j hj=>qE.o j hj (by have:=nK.o;omega)]);go_wp2_with fail
   go_ret;exact dP (by rw[HR.o]) kC.o
def ET (s:List Attr) (l:List dY) (e:Ex):Int:=if iL e=false then 5 else fB s l e
def uU (s:List Attr) (l:List dY) (e:Ex):Int:=if fD s≠0 then fD s else ET s l e
theorem aj7 {e:Ex} (h:iL e=true):jA e:=by
 rw[iL,aJ,aJ] at h;exact(QM e).1 h.2
theorem Uk (s:List Attr) (hse:fD s=0) (l:List dY) (hf:∀x∈s,x.fits) (hsl:s.length<=1000000000000000) (bm nm:Nat) (e:Ex) (ev sv:Value) (w:World) (hfew:e.few) (hfit:e.fits) (ho:gG w) (hs:fJ w s sv) (hd:Cm w l bm nm) (he:fC w e ev) :
  Calls Tryz.prog 108 #[sv,.map (some bm),ev] w (dN (.int .i64 (ET s l e)) w):=by
 obtain⟨sa,sn,sc,rfl,hsn⟩:=hs.slice;have HV:=ak (fun (W:World) (hW:Ext w W)=>wF e ev W (he.ext hW) (ho.ext hW) hfit);have HNC:=ak (fun (W:World) (hW:Ext w W) (hz:iL e=true)=>asq s hse l hf hsl bm nm e.size e ev (.agg #[.slice sa sn sc]) W (bg _) (by
  rw[iL,aJ,aJ] at hz;have h2:=hz.1.2;simp only[aN] at h2;unfold gZ at h2;omega) hfew hfit (aj7 hz) (hs.ext hW) (hd.ext hW) (he.ext hW))
 rw[Eo] at HV;obtain⟨aw,nw,cw,aa,na,ca,rfl,-⟩:=he.parts;obtain⟨R,hR⟩:∃R,R=ET s l e:=⟨_,rfl⟩
 rw[<-hR];have HR:=ak (show R=if iL e=false then 5 else fB s l e from hR);clear hf hfew hfit ho hs hd he hR hsn;unfold exV at *;obtain⟨wa,dW⟩:∃wa,wa=(w.alloc (.cells #[.slice sa sn sc] 24)).alloc (.cells (aC e.op e.name aw nw cw e.lo e.hi aa na ca) 45):=⟨_,rfl⟩
 have hxa:Ext w wa:=by rw[dW];exact((Ext.refl _).alloc _).alloc _
 have hb0:wa.heap[w.heap.size]?=some (.cells #[.slice sa sn sc] 24 (0,0)):=by rw[dW];exact dJ (dG w _)
 have hb1:wa.heap[w.heap.size+1]?=some (.cells (aC e.op e.name aw nw cw e.lo e.hi aa na ca) 45 (0,0)):=by rw[dW];exact eH (by simp)
 have fE:=ak hxa;have HB0:=ak hb0;have HB1:=ak hb1;obtain⟨b0,b1,b2,b3,b4,b5,bf⟩:=eP hb1;have hlt1:=dH hb1;have HV1:=ak (HV.o wa hxa);clear hxa hb0 hb1 HV;obtain⟨B,hB⟩:∃B,B=iL e:=⟨_,rfl⟩
 rw[<-hB] at HV1 HR;have nZ:=ak hB;clear hB;go_enter Tryz.func108,Tryz.ntmps108
 go_upto_region 1 with fail
 rw[<-dW];clear dW;go_wp2_with fail
 refine HV1.o.mono ?_;rintro r w3 ⟨rfl,hx3⟩;have gU:=ak (fE.o.trans hx3);have Bl:=ak (hx3.blk HB0.o);have rX:=ak (hx3.blk HB1.o);clear hx3 b0 b1 b2 b3 b4 b5 bf hlt1;cases B
 ·have HF:=ak (show R=5 by rw[HR.o];rfl);go_wp2_with fail
  go_ret;exact dP (by rw[HF.o]) gU.o
 have HF:=ak (show R=fB s l e by rw[HR.o];rfl);obtain⟨b0,b1,b2,b3,b4,b5,bf⟩:=eP rX.o;obtain⟨a0,af⟩:=gQ Bl.o;have hlt1:=dH rX.o;go_wp2_with fail
 refine(HNC.o w3 gU.o nZ.o.symm).mono ?_;rintro r w5 ⟨rfl,hx5⟩;have jY:=ak (gU.o.trans hx5);clear hx5;go_wp2_with fail
 go_ret;exact dP (by rw[HF.o]) jY.o
inductive Pr where
 | mk (value:Bool) (pick:Int) (args:List Pr)
def Pr.value:Pr->Bool
 | .mk v _ _=>v
def Pr.pick:Pr->Int
 | .mk _ p _=>p
def Pr.args:Pr->List Pr
 | .mk _ _ a=>a
theorem FN {α:Type} {l:List α} (h:l.length=1):∃q,l=[q]:=by
 match l,h with
 | [q],_=>exact⟨q,rfl⟩
mutual
def Bc (s:List Attr) (f:ZI) (D:BA->Option (Pr->Bool)):Ex->Pr->Bool
 | .mk op name words lo hi args,.mk v k ps =>
  if op=6 then (k == -1)&&decide (ps.length=1)&&ps.all (fun q=>zD s f D args 0 q&&(v==!q.value))
  else if op=7\/op=8 then
   (if v=decide (op=8) then decide (0<=k)&&decide (ps.length=1)&&ps.all (fun q=>zD s f D args k.toNat q&&(q.value==v)) else (k == -1)&&qH s f D v args ps)
  else match (if op=3 then D name else none) with
   | some g=>(k == -1)&&decide (ps.length=1)&&ps.all (fun q=>g q&&(v==q.value))
   | none=>(k == -1)&&ps.isEmpty&&(v==yZ s f op name words lo hi)
def zD (s:List Attr) (f:ZI) (D:BA->Option (Pr->Bool)):List Ex->Nat->Pr->Bool
 | [],_,_=>false
 | e::_,0,q=>Bc s f D e q
 | _::r,k+1,q=>zD s f D r k q
def qH (s:List Attr) (f:ZI) (D:BA->Option (Pr->Bool)) (v:Bool):List Ex->List Pr->Bool
 | [],[]=>true
 | e::r,q::t=>Bc s f D e q&&(q.value==v)&&qH s f D v r t
 | [],_::_=>false
 | _::_,[]=>false
end
def lD (s:List Attr) (l:List dY) (f:ZI):Nat->Ex->Pr->Bool
 | 0,_,_=>false
 | k+1,e,p=>Bc s f (fun x=>(fG l x).map fun d=>lD s l f k (l.getD d iT).cond) e p
def prv (s:List Attr) (l:List dY) (f:ZI) (e:Ex) (p:Pr):Bool:=lD s l f (l.length+1) e p
theorem ai' {s:List Attr} {f:ZI} {D:BA->Option Bool} (l:List Ex):OE s f D l=(l[0]?.map (uo s f D)).getD false:=by
 cases l<;>simp[OE]
def pr0:Pr:=.mk false (-1) []
def agi (d:Bool) (l:List Pr):Pr:=match l.findIdx? (fun q=>q.value==d) with
 | some k=>.mk d k [l.getD k pr0]
 | none=>.mk (!d) (-1) l
def aPj (o:Option Pr) (v:Bool):Pr:=match o with
 | some q=>.mk q.value (-1) [q]
 | none=>.mk v (-1) []
def notP (q:Pr):Pr:=.mk (!q.value) (-1) [q]
mutual
def pfE (s:List Attr) (f:ZI) (D:BA->Option Pr):Ex->Pr
 | .mk op name words lo hi args=>if op=6 then notP (ads s f D args) else if op=7\/op=8 then agi (decide (op=8)) (pfL s f D args) else aPj (if op=3 then D name else none) (yZ s f op name words lo hi)
def ads (s:List Attr) (f:ZI) (D:BA->Option Pr):List Ex->Pr
 | []=>pr0
 | e::_=>pfE s f D e
def pfL (s:List Attr) (f:ZI) (D:BA->Option Pr):List Ex->List Pr
 | []=>[]
 | e::r=>pfE s f D e::pfL s f D r
end
theorem aPq (s:List Attr) (f:ZI) (D:BA->Option Pr) (e:Ex):pfE s f D e=if e.op=6 then notP (ads s f D e.args) else if e.op=7\/e.op=8 then agi (decide (e.op=8)) (pfL s f D e.args) else aPj (if e.op=3 then D e.name else none) (yZ s f e.op e.name e.words e.lo e.hi):=by cases e;rw[pfE];rfl
theorem TG {s:List Attr} {f:ZI} {D:BA->Option Pr}:(l:List Ex)->pfL s f D l=l.map (pfE s f D)
 | []=>by rw[pfL];rfl
 | e::r=>by rw[pfL,TG r];rfl
def CG (s:List Attr) (l:List dY) (f:ZI):Nat->Ex->Pr
 | 0,_=>pr0
 | k+1,e=>pfE s f (fun x=>(fG l x).map fun d=>CG s l f k (l.getD d iT).cond) e
def pf (s:List Attr) (l:List dY) (f:ZI) (e:Ex):Pr:=CG s l f (l.length+1) e
theorem ajS (d:Bool) (l:List Pr):(agi d l).value=if l.any (fun q=>q.value==d) then d else !d:=by
 unfold agi;cases h:l.findIdx? (fun q=>q.value==d) with
 | none =>
  rw[bJ] at h;rw[dh]
  ·rfl
  simp only[List.any_eq_true,not_exists,not_and];intro x hx;simp[h x hx]
 | some k =>
  rw[aP] at h;obtain⟨hk,h1,_⟩:=h;rw[dw]
  ·rfl
  exact List.any_eq_true.2 ⟨_,aI hk,h1⟩
mutual
theorem aoN {s:List Attr} {f:ZI} {D:BA->Option Pr} {V:BA->Option Bool} (h:∀x,V x=(D x).map Pr.value):(e:Ex)->(pfE s f D e).value=uo s f V e
 | .mk op name words lo hi args=>by
  have hl:=aoL (s:=s) (f:=f) h args;rw[pfE,uo];by_cases h6:op=6
  ·rw[dw h6,dw h6];have h2:(ads s f D args).value=OE s f V args:=hl.1;rw[<-h2];rfl
  rw[dh h6,dh h6];by_cases h7:op=7
  ·rw[dw (Or.inl h7),dw h7,ajS,BI];have h8:decide (op=8)=false:=by simp[h7]
   rw[h8];have e1:(pfL s f D args).any (fun q=>q.value==false)=!(args.all (uo s f V)):=by
    rw[hl.2 (fun b=>b==false)];induction args with
    | nil=>rfl
    | cons a r _=>simp[List.not_all_eq_any_not]
   rw[e1];cases args.all (uo s f V)<;>rfl
  by_cases h8:op=8
  ·rw[dw (Or.inr h8),dh h7,dw h8,ajS,BH];have h9:decide (op=8)=true:=by simp[h8]
   rw[h9];have e1:(pfL s f D args).any (fun q=>q.value==true)=args.any (uo s f V):=by
    rw[hl.2 (fun b=>b==true)]
    congr 1
    funext x;simp
   rw[e1];cases args.any (uo s f V)<;>rfl
  rw[dh (by omega),dh h7,dh h8];by_cases h3:op=3
  ·rw[dw h3,dw h3,h name];cases D name<;>rfl
  rw[dh h3,dh h3];rfl
theorem aoL {s:List Attr} {f:ZI} {D:BA->Option Pr} {V:BA->Option Bool} (h:∀x,V x=(D x).map Pr.value):(l:List Ex)->(ads s f D l).value=OE s f V l/\∀g:Bool->Bool,(pfL s f D l).any (fun q=>g q.value)=l.any (fun e=>g (uo s f V e))
 | []=>⟨by rw[ads,OE];rfl,fun g=>by rw[pfL];rfl⟩
 | e::r=>by
  have h1:=aoN (s:=s) (f:=f) h e;have h2:=(aoL (s:=s) (f:=f) h r).2;refine⟨by rw[ads,OE,h1],fun g=>?_⟩;rw[pfL,List.any_cons,List.any_cons,h1,h2 g]
end
theorem La (s:List Attr) (l:List dY) (f:ZI):(k:Nat)->(e:Ex)->(CG s l f k e).value=l7 s l f k e
 | 0,_=>rfl
 | k+1,e=>by
  rw[CG,l7];refine aoN (fun x=>?_) e;cases fG l x with
  | none=>rfl
  | some d=>simp only[Option.map_some,Option.some.injEq];exact(La s l f k _).symm
theorem akw (s:List Attr) (l:List dY) (f:ZI) (e:Ex):(pf s l f e).value=val s l f e:=La s l f _ e
noncomputable def lY (s:List Attr) (l:List dY) (e:Ex) (f:ZI):Int :=
 if (eU s l).2≠0 then (eU s l).2 else if uU s l e≠0 then uU s l e else if 2000<expanded l e then 4 else if mJ s f=false then 16 else 0
structure Zh (s:List Attr) (l:List dY) (e:Ex) (f:ZI):Prop where
 cls:(eU s l).2=0
 ref:iL e=true
 node:fB s l e=0
 exp:expanded l e<=2000
 facts:jq s f=true
theorem Zh.chk {s:List Attr} {l:List dY} {e:Ex} {f:ZI} (h:Zh s l e f):Chk s l:=qO h.cls
theorem Il {s:List Attr} {l:List dY} {e:Ex} {f:ZI} (h:lY s l e f=0):Zh s l e f:=by
 unfold lY at h;by_cases h1:(eU s l).2≠0
 ·rw[dw h1] at h;exact absurd h h1
 rw[dh h1] at h;by_cases h2:uU s l e≠0
 ·rw[dw h2] at h;exact absurd h h2
 rw[dh h2] at h;by_cases h3:2000<expanded l e
 ·rw[dw h3] at h;cases h
 rw[dh h3] at h;by_cases h4:mJ s f=false
 ·rw[dw h4] at h;cases h
 have h1:(eU s l).2=0:=by simpa using h1
 have hs:=(qO h1).DK;have h2:uU s l e=0:=by simpa using h2
 unfold uU at h2;rw[dh (by simpa using hs)] at h2;unfold ET at h2;by_cases h5:iL e=false
 ·rw[dw h5] at h2;cases h2
 rw[dh h5] at h2;have h4:mJ s f=true:=by simpa using h4
 simp only[mJ,aJ] at h4;exact⟨h1,by simpa using h5,h2,by omega,h4.2⟩
theorem Zh.tree {s:List Attr} {l:List dY} {e:Ex} {f:ZI} (h:Zh s l e f):jA e:=by
 have:=h.ref;rw[iL,aJ,aJ] at this;exact(QM _).1 this.2
theorem Zh.size {s:List Attr} {l:List dY} {e:Ex} {f:ZI} (h:Zh s l e f):e.size<=300:=by
 have:=h.ref;rw[iL,aJ,aJ] at this;have:=this.1.2;simp only[aN] at this;unfold gZ at this;omega
def aMT (l:List dY) (e:Ex) (aw:OA) (nw cw:Nat) (aa:OA) (na ca:Nat) (a:OA) (n c:Nat) (sa:OA) (sn sc:Nat) (N:Int):Nat->Value->World->Prop
 | 0,u,_=>u=.agg #[.slice sa sn sc]
 | 1,u,_=>u=.slice a n c
 | 2,u,W=>∃bd,u=.map (some bd)/\Cm W l bd n
 | 3,u,_=>u=.agg #[.int .i64 e.op,.string e.name,.slice aw nw cw,.int .i64 e.lo,.int .i64 e.hi,.slice aa na ca]
 | 4,u,_=>u=.int .i64 N
 | _,u,_=>u=.int .i64 N
theorem Dj (s:List Attr) (l:List dY) (a:OA) (n c:Nat) (e:Ex) (ev sv:Value) (w:World) (hf:∀x∈s,x.fits) (hsl:s.length<=1000000000000000) (hl:eX w l a n c) (hn:n<=1000000) (hsz:∀x∈l,x.name.size<=1000000000000000) (hfew:e.few) (hfit:e.fits) (ho:gG w) (hs:fJ w s sv) (he:fC w e ev) :
  Calls Tryz.prog 145 #[sv,.slice a n c,ev] w (dN (.int .i64 (uU s l e)) w):=by
 obtain⟨sa,sn,sc,rfl,hsn⟩:=hs.slice;have HV:=ak (fun (W:World) (hW:Ext w W)=>Ho s (.agg #[.slice sa sn sc]) W (hs.ext hW) hf hsl);have HD:=ak (fun (W:World) (hW:Ext w W)=>JL l a n c W (hl.ext hW) hn hsz);have HX:=ak (fun (hz:fD s=0) (bm:Nat) (W:World) (hW:Ext w W) (hd:Cm W l bm n)=>Uk s hz l hf hsl bm n e ev (.agg #[.slice sa sn sc]) W hfew hfit (ho.ext hW) (hs.ext hW) hd (he.ext hW));obtain⟨aw,nw,cw,aa,na,ca,rfl,-⟩:=he.parts;obtain⟨R,hR⟩:∃R,R=uU s l e:=⟨_,rfl⟩
 rw[<-hR];have HR:=ak (show R=if fD s≠0 then fD s else ET s l e from hR);obtain⟨E,hE⟩:∃E,E=fD s:=⟨_,rfl⟩
 rw[<-hE] at HV HR HX;obtain⟨N,hN⟩:∃N,N=ET s l e:=⟨_,rfl⟩
 rw[<-hN] at HR HX;clear hf hl hn hsz hfew hfit ho hs he hR hsn hE hN;unfold exV at *;obtain⟨wa,dW⟩:∃wa,wa=(w.alloc (.cells #[.slice sa sn sc] 24)).alloc (.cells (aC e.op e.name aw nw cw e.lo e.hi aa na ca) 45):=⟨_,rfl⟩
 have hxa:Ext w wa:=by rw[dW];exact((Ext.refl _).alloc _).alloc _
 have hb0:wa.heap[w.heap.size]?=some (.cells #[.slice sa sn sc] 24 (0,0)):=by rw[dW];exact dJ (dG w _)
 have hb1:wa.heap[w.heap.size+1]?=some (.cells (aC e.op e.name aw nw cw e.lo e.hi aa na ca) 45 (0,0)):=by rw[dW];exact eH (by simp)
 have fE:=ak hxa;have HB0:=ak hb0;have HB1:=ak hb1;obtain⟨a0,af⟩:=gQ hb0;have hlt1:=dH hb1;have HV1:=ak (HV.o wa hxa);clear hxa hb0 hb1 HV;go_enter Tryz.func145,Tryz.ntmps145
 go_upto_region 1 with fail
 rw[<-dW];clear dW;go_wp2_with fail
 refine HV1.o.mono ?_;rintro r w3 ⟨rfl,hx3⟩;have gU:=ak (fE.o.trans hx3);have aVf:=hx3.blk HB0.o;have aDI:=hx3.blk HB1.o;clear hx3 a0 af hlt1 HV1;by_cases hz:E=0
 case neg =>
  have tz:(E != 0)=true:=by simp[hz]
  have HQ:=ak (show R=E by rw[HR.o,dw hz]);clear hz;go_wp2_with fail
  go_ret;exact dP (by rw[HQ.o]) gU.o
 have tz:(E != 0)=false:=by simp[hz]
 have HQ:=ak (show R=N by rw[HR.o,dh (by simpa using hz)]);have Dl:=ak (HX.o hz);clear hz HR HX;obtain⟨d0,df⟩:=gQ aVf;obtain⟨f0,f1,f2,f3,f4,f5,ff⟩:=eP aDI;clear aVf aDI;go_upto_region 4 with fail
 refine iP (m:=6) [5] (GrG w3) SX (zu (aMT l e aw nw cw aa na ca a n c sa sn sc N)) (by kernel_rfl) (by kernel_rfl) ((Ext.refl w3).drew) ?_ ?_ ?_
 ·intro i k v W W' hi hk hne hout h hE;have hE:Ext W W':=hE;have hi':=ltc6 hi;clear hi hk hne hout;rcases hi' with rfl|rfl|rfl|rfl|rfl|rfl
  ·exact h
  ·exact h
  ·obtain⟨bd,e0,h⟩:=h;exact⟨bd,e0,h.ext hE⟩
  ·exact h
  ·exact h
  exact h
 ·intro q op hq ho vs W hW hd ρ hρ;have hq':=ltc6 hq;clear hq;have o3:ρ (.tmp 3)=.pointer (some ⟨w.heap.size,0,none⟩):=hρ.out 3 rfl;have o1:ρ (.tmp 1)=.slice a n c:=hρ.out 1 rfl;have i1:=hρ.i 1 14;have o5:ρ (.tmp 5)=.pointer (some ⟨w.heap.size+1,0,none⟩):=hρ.out 5 rfl;have i0:=hρ.i 0 13;have i2:=hρ.i 2 15;have i3:=hρ.i 3 16;have i4:=hρ.i 4 17;have hc:=hρ.const;have hfn:=hρ.func;clear hρ;have HW:=ak (show Ext w3 W from hW);rcases hq' with rfl|rfl|rfl|rfl|rfl|rfl
  ·cases ho
   clear hd;have g0:=HW.o.cell d0;unfold dF;go_simp;exact⟨Ext.refl W,rfl⟩
  ·cases ho
   clear hd;unfold dF;go_simp;exact⟨Ext.refl W,rfl⟩
  ·cases ho
   have h1:vs 1=_:=hd ⟨1,.data⟩ (by simp) rfl;rw[h1] at i1;clear hd;unfold dF;go_simp;refine(HD.o W (gU.o.trans HW.o)).mono ?_;rintro r w5 ⟨bd,rfl,hd5,hx5⟩;exact⟨_,rfl,hx5,HW.o.trans hx5,_,rfl,hd5⟩
  ·cases ho
   clear hd;have g0:=HW.o.cell f0;have g1:=HW.o.cell f1;have g2:=HW.o.cell f2;have g3:=HW.o.cell f3;have g4:=HW.o.cell f4;have g5:=HW.o.cell f5;unfold dF;go_simp;exact⟨Ext.refl W,rfl⟩
  ·cases ho
   have h0:vs 0=_:=hd ⟨0,.data⟩ (by simp) rfl;rw[h0] at i0;obtain⟨bd,h2,hs2⟩:∃bd,vs 2=.map (some bd)/\Cm W l bd n:=hd ⟨2,.data⟩ (by simp) rfl;have HS2:=ak hs2;clear hs2;rw[h2] at i2;have h3:vs 3=_:=hd ⟨3,.data⟩ (by simp) rfl;rw[h3] at i3;clear hd;unfold dF;go_simp;refine(Dl.o _ W (gU.o.trans HW.o) HS2.o).mono ?_;rintro r w5 ⟨rfl,hx5⟩;exact⟨_,rfl,hx5,HW.o.trans hx5,rfl⟩
  cases ho
  have h4:vs 4=_:=hd ⟨4,.data⟩ (by simp) rfl;rw[h4] at i4;clear hd;unfold dF;go_simp;exact⟨Ext.refl W,rfl⟩
 intro vs W hW hR;rw[dw (by decide +kernel)];have h5:vs 5=.int .i64 N:=hR 5 (by simp) (by omega);simp only[acts,gK,List.range,List.range.loop,bF,dA,h5];go_simp;have hW2:Ext w3 W:=hW;clear hR hW h5;have qC:=ak (gU.o.trans hW2);clear hW2;go_wp2_with fail
 go_ret;exact dP (by rw[HQ.o]) qC.o
theorem aj6 {e:Ex} (h:iL e=true):e.size<=300:=by
 rw[iL,aJ,aJ] at h;have:=h.1.2;simp only[aN] at this;unfold gZ at this;omega
theorem Chk.size {s:List Attr} {l:List dY} (h:Chk s l):∀c∈l,c.cond.size<=300:=fun c hc=>aj6 (h.good c hc).2.2.1
theorem aaT {s:List Attr} {l:List dY} {e:Ex} (h:uU s l e=0):iL e=true:=by
 unfold uU at h;by_cases h1:fD s≠0
 ·rw[dw h1] at h;exact absurd h h1
 rw[dh h1] at h;unfold ET at h;cases hr:iL e
 ·rw[hr] at h;cases h
 rfl
theorem Ob {P:Program} (W:World) (t ty e:TypeId) (i:TypeInfo) (ht:P.underlying t=some (.slice e)) (hi:P.info? e=some i) (b:OA) (n cap:Nat) (hnc:n<=cap) (ax:OA) (c:Nat) :
  (Builtin.append_ #[t,t] ty #[.slice b n cap,.slice ax 0 c]).run P W=.ok (.slice b n cap) W:=by
 cases b<;>cases ax<;>simp[Builtin.append_,run_underlying ht,sizeOf,typeInfo,hi,Builtin.lenOf,Builtin.firstCells,hnc,storeCells,loadCells,loadCellsFrom]
end Go.Proofs.YtefjomofjejklaaGreatDoor
