/- Joined. -/
import Derived.Test.YtefjomofjejklaaGreatDoorDi15
namespace Go.Proofs.YtefjomofjejklaaGreatDoor
set_option maxRecDepth 100000
set_option maxHeartbeats 32000000
open Go.RowKit Go.Maps
mutual
theorem acL:(e:Ex)->gq e->qT e=true
 | .mk op name words lo hi args,h=>by
  rw[gq] at h;obtain⟨hn,ha⟩:=h;rw[qT,Zy args ha,Bool.and_true];unfold zK at hn;simp only[Ex.op,Ex.args,Ex.name,Ex.words,Ex.lo,Ex.hi] at hn;by_cases h3:op=3
  ·have:args=[]:=by
    rcases hn with ⟨h,-⟩|⟨h,-⟩|⟨-,-,-,-,-,h⟩|⟨h,-⟩|⟨h,-⟩|⟨h,-⟩|⟨h,-⟩
    ·omega
    ·omega
    ·exact h
    ·omega
    ·omega
    ·omega
    omega
   simp[this]
  simp[h3]
theorem Zy:(l:List Ex)->uK l->Eb l=true
 | [],_=>by rw[Eb]
 | e::r,h=>by
  rw[uK] at h;rw[Eb,acL e h.1,Zy r h.2];rfl
end
theorem Zi {e:Ex} (h:eW e=true):qT e=true:=acL e (afr h)
theorem ahw {l:List cK} {i:Nat} (hi:i<l.length):jQ l i=if (lC l[i]).any (fun x=>decide (2000<dV l x))=true then 4 else 0:=by
 unfold jQ;rw[fJ hi,FC];simp only[lC,List.any_cons,bG,aH]
theorem aEk {s:List Attr} {l:List cK} (h:∀j,j<l.length->jE s l j=0) {i:Nat} (hi:i<l.length) (hk:l[i].kind=1):dz l l[i].name=some i:=by
 have h0:=h i hi;rw[<-ar4 s l hi] at h0;unfold ar5 at h0;have hnone:findAt (l.take i) l[i].name=none:=by
  cases hf:findAt (l.take i) l[i].name with
  | none=>rfl
  | some q =>
   rw[hf] at h0;split at h0
   ·cases h0
   simp at h0
 unfold dz;rw[aJ];refine⟨hi,by simp[hk],fun j hj=>?_⟩;unfold findAt at hnone;rw[bh] at hnone;have:=hnone l[j] (aW.2 ⟨j,by simp;omega,by simp⟩);simp only[bI] at this;simp[this]
def a0V (l:List cK) (n:Nat) (w3:World) (t:Value) (wr:World):Prop:=∃k:Nat,t=.int .i64 ((k:Nat):Int)/\k<=n/\(∀j,j<k->jQ l j=0)/\Ext w3 wr
theorem vY (s:List Attr) (l:List cK) (sv:Value) (a:OA) (n c:Nat) (w:World) (hs:dB w s sv) (hf:∀x∈s,x.fits) (hsl:s.length<=1000000000000000) (hl:cZ w l a n c) (hn:n<=1000000000000000) (hok:∀x∈l,x.fit) (ho:dQ w) :
  Calls Tryz.prog 56 #[sv,.slice a n c] w (cz (T3 (cV s l)) w):=by
 obtain⟨sa,sn,sc,rfl,B6⟩:=hs.slice;have HL:=ai hl;have HN:=ai hl.len;have zm:=ai hok;have hnc:n<=c:=by obtain⟨vs,h1,_⟩:=hl;exact h1.2.1
 have Yl:=ai (fun (W:World) (hW:Ext w W)=>BG s (.agg #[.slice sa sn sc]) W (hs.ext hW) hf hsl);have HCC:=ai (fun (hz:dy s=0) (bm nm:Nat) (ba:OA) (bn bc i:Nat) (hi:i<l.length) (v:fM) (W:World) (hW:Ext w W) (hd:xS W l bm nm) (hb:cZ W (l.take i) ba bn bc) (rO:bn<=1000000000000000) (hc:ij W l[i] v)=>ajm s hz l (l.take i) hf hsl bm nm ba bn bc l[i] v (.agg #[.slice sa sn sc]) W (hok _ (aD hi)) (ho.ext hW) (hs.ext hW) hd hb rO hc);obtain⟨R,hR⟩:∃R,R=cV s l:=⟨_,rfl⟩
 rw[<-hR];have HR:=ai hR;obtain⟨wa,cN⟩:∃wa,wa=w.alloc (.cells #[.slice sa sn sc] 24):=⟨_,rfl⟩
 have gB:Ext w wa:=by rw[cN];exact(Tz _).alloc _
 have hb:wa.heap[w.heap.size]?=some (.cells #[.slice sa sn sc] 24 (0,0)):=by rw[cN];exact bR w _
 have dm:=ai gB;have oF:=ai hb;obtain⟨d0,df⟩:=dO hb;have au3:=bS hb;clear hs hl hf hok hR B6 gB hb ho;go_enter Tryz.func56,Tryz.ntmps56
 go_upto_region 1 with fail
 rw[<-cN];clear cN;go_wp2_with fail
 refine(Yl.o wa dm.o).mono ?_;rintro r w1 ⟨rfl,hx1⟩;have dI:=ai (dm.o.trans hx1);have gG:=ai (hx1.blk oF.o);clear hx1 d0 df Yl au3;by_cases hse:dy s=0
 case neg =>
  have tz:(dy s != 0)=true:=by simp[hse]
  have HQ:=ai (HR.o.trans (axj hse));go_wp2_with fail
  go_ret2
  exact mQ HQ.o dI.o
 have tz:(dy s != 0)=false:=by simp[hse]
 have Ni:=ai hse;clear hse;by_cases hm:100<n
 ·have tm:=ag ((100:Int)<(n:Int));have HQ:=ai (HR.o.trans (arV Ni.o (by have:=HN.o;omega)));go_wp2_with fail
  go_ret2
  exact mQ HQ.o dI.o
 have tm:=ah ((100:Int)<(n:Int));have HM:=ai (show ¬100<l.length by have:=HN.o;omega);go_wp2_with fail
 refine(DT l a n c w1 (HL.o.ext dI.o) (by omega) fun x hx=>(zm.o x hx).1).mono ?_;rintro r w2 ⟨bm,rfl,qd,hx2⟩;have pY:=ai qd;have dN:=ai (dI.o.trans hx2);have fY:=ai (hx2.blk gG.o);clear qd hx2;go_wp2_with fail
 go_loopw [30] (fun t wr=>∃k:Nat,t=.int .i64 ((k:Nat):Int)/\k<=n/\(∀j,j<k->jE s l j=0)/\Ext w2 wr) (fun t _=>n - (intOf t).toNat)
 case atStart=>exact⟨0,rfl,by omega,fun j h=>by omega,Tz _⟩
 case round =>
  obtain⟨k,rfl,hk,hno,lM⟩:=hrel;have jH:=ai hno;have gZ:=ai lM;clear hno lM;by_cases hkn:k<n
  ·have fq:k<l.length:=by have:=HN.o;omega
   have t1:=ag ((k:Int)<(n:Int));obtain⟨b,off,v,rfl,fO,hrow⟩:=(HL.o.ext (dN.o.trans gZ.o)).at fq;obtain⟨c0,c1,c2,c3,c4,c5,c6,c7,c8,c9⟩:=hrow.BB;have Sc:(0:Int)<=(k:Int):=by omega
   have ti1:(k:Int)<=(n:Int):=by omega
   have hkc:k<=c:=by omega
   have Un:=ai (ar4 s l fq);have A7:=ai (fun (e:Int) (h:jE s l k=e) (h0:e≠0)=>HR.o.trans (by rw[axi Ni.o HM.o fq jH.o (by rw[h];exact h0),h]));obtain⟨y,hy⟩:∃y,y=wr.heap.size:=⟨_,rfl⟩
   obtain⟨wx,hwx⟩:∃wx,wx=wr.alloc (.cells #[ v.kind,.string v.name,v.x.op,.string v.x.name,.slice v.x.aw v.x.nw v.x.cw,v.x.lo,v.x.hi,.slice v.x.aa v.x.na v.x.ca,.slice v.au v.nu v.cu,v.ck] 48):=⟨_,rfl⟩
   have Sd:Ext wr wx:=by rw[hwx];exact(Tz _).alloc _
   have hby:wx.heap[y]?=some (.cells #[ v.kind,.string v.name,v.x.op,.string v.x.name,.slice v.x.aw v.x.nw v.x.cw,v.x.lo,v.x.hi,.slice v.x.aa v.x.na v.x.ca,.slice v.au v.nu v.cu,v.ck] 48 (0,0)):=by rw[hwx,hy];exact bR wr _
   have yx:=ai (gZ.o.trans Sd);have Vs:=ai (fun (W:World) (hW:Ext wx W)=>HCC.o Ni.o bm n (some ⟨b,off,none⟩) k c k fq v W ((dN.o.trans yx.o).trans hW) (pY.o.ext (yx.o.trans hW)) ((HL.o.ext ((dN.o.trans yx.o).trans hW)).take (by omega)) (by omega) (fO.mono (Sd.trans hW).sub));rw[Un.o] at Vs;obtain⟨E,hE⟩:∃E,E=jE s l k:=⟨_,rfl⟩
   rw[<-hE] at Vs;have HE:=ai hE;clear fO hrow hE Un;go_upto_region 10 with fail
   rw[<-hwx,<-hy];clear hwx hy c0 c1 c2 c3 c4 c5 c6 c7 c8 c9;obtain⟨d0,df⟩:=dO ((yx.o).blk fY.o);obtain⟨b0,b1,b2,b3,b4,b5,b6,b7,b8,b9,bf⟩:=rB hby;clear Sd hby;have Z0:=bT d0;have Z1:=bT b0;have Z2:=bT b1;have Z3:=bT b2;have Z4:=bT b3;have Z5:=bT b4;have Z6:=bT b5;have Z7:=bT b6;have Z8:=bT b7;have Z9:=bT b8;have Z10:=bT b9;refine kT 8 ?_
   repeat first|(refine bZ ?_;intro Ka cH;go_big_quiet_op;go_big_quiet_on)|(refine zX ?_;intro Ka cH;go_simp;go_big_quiet_on)
   refine mU (fun W hW=>Vs.o W hW) ?_;intro Ka cH;go_simp;go_big_quiet_on
   repeat first|(refine bZ ?_;intro Ka cH;go_big_quiet_op;go_big_quiet_on)|(refine zX ?_;intro Ka cH;go_simp;go_big_quiet_on)
   refine gC fun W hW2 _ _=>?_
   clear Z0 Z1 Z2 Z3 Z4 Z5 Z6 Z7 Z8 Z9 Z10;have kg:=ai (yx.o.trans hW2);clear hW2 d0 df b0 b1 b2 b3 b4 b5 b6 b7 b8 b9 bf Vs;by_cases hz:E=0
   ·have tz0:(E != 0)=false:=by simp[hz]
    have HZ:=ai (HE.o.symm.trans hz);clear hz;go_wp2_with fail
    go_roundw
    case rel =>
     refine⟨k+1,by go_num,by omega,fun j hj=>?_,kg.o⟩;by_cases e0:j=k
     ·subst e0;exact HZ.o
     exact jH.o j (by omega)
    case measure=>simp[intOf];omega
   have tz0:(E != 0)=true:=by simp[hz]
   have HQ:=ai (A7.o E HE.o.symm hz);clear hz;go_wp2_with fail
   go_ret2
   exact mQ HQ.o (dN.o.trans kg.o)
  have t1:=ah ((k:Int)<(n:Int));have kJ:=ai (show ∀j,j<l.length->jE s l j=0 from fun j hj=>jH.o j (by have:=HN.o;omega));have tR:=ai (show ∀x∈l,x.name.size<=1000000000000000/\x.cond.size<=100000/\x.cond.fits/\(∀y∈lC x,eW y=true)/\mH x.gH<=40 by
   intro x hx;obtain⟨j,hj,rfl⟩:=aW.1 hx;have hv:=QA (kJ.o j hj) hj;have hf:=zm.o _ hx;exact⟨hf.1,Bg (Ji hv),hf.2.1,(wY hv).1,(wY hv).2⟩)
  have mJ:=ai (dN.o.trans gZ.o);clear jH;go_wp2_with fail
  refine(Gw (l.map cK.cl) a n c wr (HL.o.ext mJ.o).cls (by omega) (by
   intro x hx;obtain⟨c',hc',rfl⟩:=List.mem_map.1 hx;have:=tR.o c' hc';exact⟨this.2.1,this.2.2.1,this.1⟩)).mono ?_
  rw[show (l.map cK.cl).map Cl.tV=l.map cK.tV by rw[List.map_map];rfl];rintro r w3 ⟨hx3,⟨o,oa,oc,ht,rfl,hoi⟩|⟨o,q1,q2,rfl⟩⟩
  ·have HT:=ai ht;have HOI:=ai hoi;have dS:=ai (mJ.o.trans hx3);have HSO:=ai (show vZ (l.map cK.tV) from⟨o,ht⟩);have hol:o.length<=1000:=by have h1:=ht.len;have:=HN.o;simp at h1;omega
   have aYy:=ai (fun (x:Ex) (hx:qT x=true)=>ajX ht (fun i hi=>by
    have hil:i<l.length:=by simpa using ht.lt hi
    rw[fJ hil];exact aEk kJ.o hil (by have:=(ht.all i).1 hi;rw[sY hil] at this;simpa using this)) (fun i hi=>by
    have hil:i<l.length:=by simpa using ht.lt hi
    rw[fJ hil];exact Zi ((tR.o _ (aD hil)).2.2.2.1 _ (by simp[lC]))) x hx)
   clear ht hoi hx3;go_wp2_with fail
   refine(acy l a n c o oa oc w3 (HL.o.ext dS.o) (by omega) HOI.o (by omega) (fun i hi=>by simpa using HT.o.lt hi) (fun x hx=>by have:=tR.o x hx;exact⟨this.1,by omega,this.2.2.1⟩)).mono ?_;rintro r w4 ⟨bs,rfl,hm4,gV⟩;have HM4:=ai hm4;have jl:=ai (dS.o.trans gV);clear hm4 gV;go_wp2_with fail
   go_loopw [60] (a0V l n w4) (fun t _=>n - (intOf t).toNat)
   case atStart=>exact⟨0,rfl,by omega,fun j h=>by omega,Tz _⟩
   case round =>
    obtain⟨k2,rfl,hk2,hno,lM⟩:=hrel;obtain⟨wo,rfl⟩:∃wo:World,wo=wr:=⟨_,rfl⟩
    have jH:=ai hno;have asw:=ai lM;clear hno lM;by_cases aDm:k2<n
    ·have fq:k2<l.length:=by have:=HN.o;omega
     have t2:=ag ((k2:Int)<(n:Int));obtain⟨b,off,v,rfl,fO,hrow⟩:=(HL.o.ext (jl.o.trans asw.o)).at fq;obtain⟨c0,c1,c2,c3,c4,c5,c6,c7,c8,c9⟩:=hrow.BB;have HFT:=ai (ahp (zm.o _ (aD fq)));have HRF:=ai (tR.o _ (aD fq)).2.2.2.1;have iV:=(tR.o _ (aD fq)).2.2.2.2;have HLG:=ai (ahw fq);have A7:=ai (fun (h:jQ l k2=4)=>HR.o.trans (ab4 Ni.o HM.o kJ.o HSO.o fq jH.o h));have G9:=ai (fun (W:World) (hW:Ext wo W)=>Oz l[k2] v W (fO.mono hW.sub) (by omega));have qC:=ai (XW l[k2]);clear fO hrow;go_wp2_with fail
     refine(G9.o _ ((Tz wo).alloc _)).mono ?_;rintro r w6 ⟨ea,en,ek,rfl,hen,aWS,hed,gN⟩;have kR:=ai ((asw.o.alloc _).trans gN);have HED:=ai hed;have Li:=ai hen;have aDr:en<=41:=by have:=qC.o;omega
     clear gN hed hen c0 c1 c2 c3 c4 c5 c6 c7 c8 c9 G9;go_wp2_with fail
     go_loopw [68] (fun t wr=>∃q:Nat,t=.int .i64 ((q:Nat):Int)/\q<=en/\(∀j (h:j<(lC l[k2]).length),j<q->¬2000<dV l (lC l[k2])[j])/\Ext w6 wr) (fun t _=>en - (intOf t).toNat)
     case atStart=>exact⟨0,rfl,by omega,fun j _ h=>by omega,Tz _⟩
     case round =>
      obtain⟨q,rfl,hq,hall,hxq⟩:=hrel;have mK:=ai hall;have HXQ:=ai hxq;clear hall hxq;by_cases hqn:q<en
      ·have hql:q<(lC l[k2]).length:=by have:=Li.o;omega
       have t3:=ag ((q:Int)<(en:Int));obtain⟨b',off',rfl,nJ,nD,nG,nK,nE,nI,h0,h1,h2,h3,h4,h5,h6⟩:=eU.at (lC l[k2]) _ (eU.ext HXQ.o (lC l[k2]) _ HED.o) q hql;have hmem:=aD hql;have hxs:=Bg (HRF.o _ hmem);have Lb:=ai (fun (W:World) (hW:Ext wr W)=>X3 (qG l o) (abd l o) bs o.length 1000000000000000 (lC l[k2])[q] _ W (by omega) (by omega) (HFT.o _ hmem).1 (HM4.o.ext ((kR.o.trans HXQ.o).trans hW)) (h6.ext hW));have DK:=eB h0;simp only at DK;rw[aYy.o _ (Zi (HRF.o _ hmem))] at Lb;unfold fN at Lb;obtain⟨E,hE⟩:∃E,E=dV l (lC l[k2])[q]:=⟨_,rfl⟩
       rw[<-hE] at Lb;have hel:E<=2001:=by rw[hE];exact aan l _ _
       have HE:=ai hE;clear h6 hE;go_wp2_with fail
       refine(Lb.o _ ((Tz wr).alloc _)).mono ?_;rintro r w7 ⟨rfl,ng⟩;have rZ:=ai ((HXQ.o.alloc _).trans ng);clear ng h0 h1 h2 h3 h4 h5 Lb;by_cases hlg:2000<E
       ·have t4:=ag ((2000:Int)<(E:Int));have HQ:=ai (A7.o (by
         rw[HLG.o,bM];rw[List.any_eq_true];exact⟨_,hmem,by rw[<-HE.o];simpa using hlg⟩))
        clear hmem;go_wp2_with fail
        go_ret2
        exact mQ HQ.o (jl.o.trans (kR.o.trans rZ.o))
       have t4:=ah ((2000:Int)<(E:Int));have OX:=ai (show ¬2000<dV l (lC l[k2])[q] by rw[<-HE.o];exact hlg);clear hmem hlg;go_wp2_with fail
       go_roundw
       case rel =>
        refine⟨q+1,by go_num,by omega,fun j hj hjk=>?_,rZ.o⟩;by_cases e0:j=q
        ·subst e0;exact OX.o
        exact mK.o j hj (by omega)
       case measure=>simp[intOf];omega
      have t3:=ah ((q:Int)<(en:Int));have HZ:=ai (show jQ l k2=0 by
       rw[HLG.o,bL];rw[Bool.not_eq_true,List.any_eq_false];intro x hx;obtain⟨j,hj,rfl⟩:=aW.1 hx;simpa using mK.o j hj (by have:=Li.o;omega))
      go_wp2_with fail
      go_roundw
      case rel =>
       refine⟨k2+1,by go_num,by omega,fun j hj=>?_,kR.o.trans HXQ.o⟩;by_cases e0:j=k2
       ·subst e0;exact HZ.o
       exact jH.o j (by omega)
      case measure=>simp[intOf];omega
    have t2:=ah ((k2:Int)<(n:Int));have HQ:=ai (HR.o.trans (aaC Ni.o HM.o kJ.o HSO.o fun j hj=>jH.o j (by have:=HN.o;omega)));go_wp2_with fail
    go_ret2
    exact mQ HQ.o (jl.o.trans asw.o)
  have HQ:=ai (HR.o.trans (alh Ni.o HM.o kJ.o (q1.none q2)));have dS:=ai (mJ.o.trans hx3);clear hx3 q1 q2;go_wp2_with fail
  go_ret2
  exact mQ HQ.o dS.o
def kW (w:World) (B:Nat) (v0 v1 v2:Value):World:=((w.setCell ⟨B,0,none⟩ v0).setCell ⟨B,1,none⟩ v1).setCell ⟨B,2,none⟩ v2
theorem rW {w:World} {B:Nat} {u0 u1 u2:Value} {t:TypeId} (h:w.heap[B]?=some (.cells #[u0,u1,u2] t (0,0))) (v0 v1 v2:Value):(kW w B v0 v1 v2).heap[B]?=some (.cells #[v0,v1,v2] t (0,0)):=by
 unfold kW;have h0:=aI w B 0 _ _ v0 h;have h1:=aI _ B 1 _ _ v1 h0;have h2:=aI _ B 2 _ _ v2 h1;rw[h2];rfl
theorem rV (w:World) (B:Nat) (v0 v1 v2:Value) {N:ZN} (h:B∈N):ct N w (kW w B v0 v1 v2):=by
 unfold kW;exact(((ct.refl _ _).setCell (aoX h) _).setCell (aoX h) _).setCell (aoX h) _
def oM:Value:=.agg #[.slice none 0 0,.map none,.slice none 0 0]
def OS (s:List Attr) (l:List cK) (e:Ex) (f:ZI) (n:Nat) (w:World) (r:Ending) (w':World):Prop:=Ext w w'/\((jM s l e f≠0/\r=.returned (.tuple #[oM,.int .i64 (jM s l e f)]))\/(jM s l e f=0/\∃lv:fT,r=.returned (.tuple #[lv.val,.int .i64 0])/\A3 w' s l f lv n))
theorem Chk.fresh {s:List Attr} {l:List cK} (h:Chk s l) {k:Nat} (hk:k<l.length):dz (l.take k) l[k].name=none:=by
 cases hd:dz (l.take k) l[k].name with
 | none=>rfl
 | some d =>
  obtain⟨h1,_,h3⟩:=ju hd;have hdk:d<k:=by simp at h1;omega
  have:=h.uniq k d hk hdk;rw[getD_take hdk] at h3;rw[h3,ry hk] at this;exact a40 rfl this
theorem ajj (s:List Attr) (l:List cK) (e:Ex) (f:ZI) (ev sv:Value) (a:OA) (n c:Nat) (fa:OA) (fn fc:Nat) (w:World) (hs:dB w s sv) (hf:∀x∈s,x.fits) (hsl:s.length<=1000000000000000) (hl:cZ w l a n c) (hn:n<=1000000) (hok:∀x∈l,x.fit) (he:dw w e ev) (uP:e.iT) (hfit:e.fits) (hi:dG w f fa fn) (hfn:fn<=1000000000000000) (ho:dQ w) :
  Calls Tryz.prog 115 #[sv,.slice a n c,ev,.slice fa fn fc] w (OS s l e f n w):=by
 obtain⟨sa,sn,sc,rfl,B6⟩:=hs.slice;have qC:=ai (fun W (hW:Ext w W)=>vY s l _ a n c W (hs.ext hW) hf hsl (hl.ext hW) (by omega) hok (ho.ext hW));have zq:=ai (fun W (hW:Ext w W)=>yu s l a n c e ev _ W hf hsl (hl.ext hW) hn (fun x hx=>(hok x hx).1) uP hfit (ho.ext hW) (hs.ext hW) (he.ext hW));have HXP:=ai (fun (h1:(cV s l).2=0) (h2:qu s l e=0) W (hW:Ext w W)=>BM l a n c e ev W (hl.ext hW) (he.ext hW) ⟨by have:=afq (TS h2);omega,hfit,Zi (TS h2)⟩ (by rw[hl.len];have:=(lK h1).len;omega) (fun x hx=>⟨(hok x hx).1,by have:=(lK h1).size x hx;omega,(hok x hx).2.1,Zi ((lK h1).good x hx).2.2.1⟩));have Eo:=ai (fun W (hW:Ext w W)=>Ph s _ f fa fn fc W (hs.ext hW) hf hsl (hi.ext hW) hfn);have qw:=ai (fun (h1:(cV s l).2=0)=>lK h1);have HL:=ai hl;have HS:=ai hs;have HI:=ai hi;have tR:=ai (fun x hx=>(hok x hx).1);have HN:=ai hl.len;obtain⟨aw,nw,cw,aa,na,ca,rfl,-⟩:=he.parts;obtain⟨R,hR⟩:∃R,R=jM s l e f:=⟨_,rfl⟩
 unfold OS;rw[<-hR];unfold jM at hR;obtain⟨⟨i0,E1⟩,xK⟩:∃E:Nat×Int,E=cV s l:=⟨_,rfl⟩
 rw[<-xK] at qC hR;have ahW:=ai (fun (h1:E1=0)=>HXP.o (by rw[<-xK];exact h1));have aF':=ai (fun (h1:E1=0)=>qw.o (by rw[<-xK];exact h1));clear HXP qw;obtain⟨E2,Bp⟩:∃E,E=qu s l e:=⟨_,rfl⟩
 rw[<-Bp] at zq hR;have HXP:=ai (fun (h1:E1=0) (h2:E2=0)=>ahW.o h1 (by rw[<-Bp];exact h2));clear ahW;obtain⟨X,hX⟩:∃X,X=dV l e:=⟨_,rfl⟩
 rw[<-hX] at HXP hR;obtain⟨B,hB⟩:∃B,B=jU s f:=⟨_,rfl⟩
 rw[<-hB] at Eo hR;have HR:=ai hR;clear hs hf hsl hl hok he uP hfit hi B6 hR xK Bp hX hB ho;unfold fN at *;obtain⟨wa,cN⟩:∃wa,wa=((w.alloc (.cells #[.slice sa sn sc] 24)).alloc (.cells #[ e.op,.string e.name,.slice aw nw cw,e.lo,e.hi,.slice aa na ca] 45)).alloc (.cells #[.slice none 0 0,.map none,.slice none 0 0] 183):=⟨_,rfl⟩
 have gB:Ext w wa:=by rw[cN];exact(((Tz _).alloc _).alloc _).alloc _
 have hb0:wa.heap[w.heap.size]?=some (.cells #[.slice sa sn sc] 24 (0,0)):=by rw[cN];exact bU (bU (bR w _))
 have hb1:wa.heap[w.heap.size+1]?=some (.cells #[ e.op,.string e.name,.slice aw nw cw,e.lo,e.hi,.slice aa na ca] 45 (0,0)):=by rw[cN];exact bU (cT (by simp))
 have hb2:wa.heap[w.heap.size+1+1]?=some (.cells #[.slice none 0 0,.map none,.slice none 0 0] 183 (0,0)):=by rw[cN];exact cT (by simp)
 have dm:=ai gB;have iO:=ai hb0;have gG:=ai hb1;have fY:=ai hb2;obtain⟨e0,ef⟩:=dO hb0;clear gB hb0 hb1 hb2;unfold T3 at qC;go_enter Tryz.func115,Tryz.ntmps115
 go_upto_region 1 with fail
 rw[<-cN];clear cN;go_wp2_with fail
 refine(qC.o wa dm.o).mono ?_;rintro r w1 ⟨rfl,hx1⟩;have dI:=ai (dm.o.trans hx1);have Uq:=ai (hx1.blk iO.o);have pG:=ai (hx1.blk gG.o);have Lt:=ai (hx1.blk fY.o);clear hx1 e0 ef qC iO gG fY;by_cases h1:E1=0
 case neg =>
  have t1:(E1 != 0)=true:=by simp[h1]
  have HQ:=ai (show R=E1 by rw[HR.o,bM h1]);have HNZ:=ai h1;clear h1;obtain⟨r0,r1,r2,rf⟩:=dM Lt.o;go_wp2_with fail
  obtain⟨wz,eV⟩:∃wz,wz=kW w1 (w.heap.size+1+1) (.slice none 0 0) (.map none) (.slice none 0 0):=⟨_,rfl⟩
  have HZ:=ai (show wz.heap[w.heap.size+1+1]?=some (.cells #[.slice none 0 0,.map none,.slice none 0 0] 183 (0,0)) by rw[eV];exact rW Lt.o _ _ _);have tA:=ai (show Ext w wz by rw[eV];exact(rV w1 (w.heap.size+1+1) (.slice none 0 0) (.map none) (.slice none 0 0) (N:=[w.heap.size+1+1]) (by simp)).ext dI.o (fun y hy=>by simp only[aG] at hy;omega));unfold kW at eV;rw[<-eV];clear eV;obtain⟨z0,z1,z2,zf⟩:=dM HZ.o;refine a5a (v:=.tuple #[oM,E1]) (by simp[results,Tryz.results115,go_sem,oM,z0,z1,z2]) rfl ?_;exact⟨tA.o,aoX ⟨by rw[HQ.o];exact HNZ.o,by rw[HQ.o]⟩⟩
 have t1:(E1 != 0)=false:=by simp[h1]
 have jI:=ai (show R=if E2≠0 then E2 else if 2000<X then 4 else if B=false then 16 else 0 by rw[HR.o,bL (by simpa using h1)]);have ahW:=ai (HXP.o h1);have qw:=ai (aF'.o h1);clear h1 HR HXP aF';obtain⟨e0,ef⟩:=dO Uq.o;obtain⟨f0,f1,f2,f3,f4,f5,ff⟩:=cX pG.o;go_wp2_with fail
 refine(zq.o w1 dI.o).mono ?_;rintro r w2 ⟨rfl,hx2⟩;have dN:=ai (dI.o.trans hx2);have ah8:=ai (hx2.blk Uq.o);have HB12:=ai (hx2.blk pG.o);have Uo:=ai (hx2.blk Lt.o);clear hx2 e0 ef f0 f1 f2 f3 f4 f5 ff zq;by_cases h2:E2=0
 case neg =>
  have t2:(E2 != 0)=true:=by simp[h2]
  have HQ:=ai (show R=E2 by rw[jI.o,bM h2]);have HNZ:=ai h2;clear h2;obtain⟨r0,r1,r2,rf⟩:=dM Uo.o;go_wp2_with fail
  obtain⟨wz,eV⟩:∃wz,wz=kW w2 (w.heap.size+1+1) (.slice none 0 0) (.map none) (.slice none 0 0):=⟨_,rfl⟩
  have HZ:=ai (show wz.heap[w.heap.size+1+1]?=some (.cells #[.slice none 0 0,.map none,.slice none 0 0] 183 (0,0)) by rw[eV];exact rW Uo.o _ _ _);have tA:=ai (show Ext w wz by rw[eV];exact(rV w2 (w.heap.size+1+1) (.slice none 0 0) (.map none) (.slice none 0 0) (N:=[w.heap.size+1+1]) (by simp)).ext dN.o (fun y hy=>by simp only[aG] at hy;omega));unfold kW at eV;rw[<-eV];clear eV;obtain⟨z0,z1,z2,zf⟩:=dM HZ.o;refine a5a (v:=.tuple #[oM,E2]) (by simp[results,Tryz.results115,go_sem,oM,z0,z1,z2]) rfl ?_;exact⟨tA.o,aoX ⟨by rw[HQ.o];exact HNZ.o,by rw[HQ.o]⟩⟩
 have t2:(E2 != 0)=false:=by simp[h2]
 have nL:=ai (show R=if 2000<X then 4 else if B=false then 16 else 0 by rw[jI.o,bL (by simpa using h2)]);have aFg:=ai (ahW.o h2);clear h2 jI ahW;obtain⟨f0,f1,f2,f3,f4,f5,ff⟩:=cX HB12.o;go_wp2_with fail
 refine(aFg.o w2 dN.o).mono ?_;rintro r w3 ⟨rfl,hx3⟩;have dS:=ai (dN.o.trans hx3);have wQ:=ai (hx3.blk ah8.o);have Ls:=ai (hx3.blk Uo.o);clear hx3 f0 f1 f2 f3 f4 f5 ff aFg;by_cases h3:2000<X
 case pos =>
  have t3:=ag ((2000:Int)<(X:Int));have HQ:=ai (show R=4 by rw[nL.o,bM h3]);clear h3;obtain⟨r0,r1,r2,rf⟩:=dM Ls.o;go_wp2_with fail
  obtain⟨wz,eV⟩:∃wz,wz=kW w3 (w.heap.size+1+1) (.slice none 0 0) (.map none) (.slice none 0 0):=⟨_,rfl⟩
  have HZ:=ai (show wz.heap[w.heap.size+1+1]?=some (.cells #[.slice none 0 0,.map none,.slice none 0 0] 183 (0,0)) by rw[eV];exact rW Ls.o _ _ _);have tA:=ai (show Ext w wz by rw[eV];exact(rV w3 (w.heap.size+1+1) (.slice none 0 0) (.map none) (.slice none 0 0) (N:=[w.heap.size+1+1]) (by simp)).ext dS.o (fun y hy=>by simp only[aG] at hy;omega));unfold kW at eV;rw[<-eV];clear eV;obtain⟨z0,z1,z2,zf⟩:=dM HZ.o;refine a5a (v:=.tuple #[oM,.int .i64 4]) (by simp[results,Tryz.results115,go_sem,oM,z0,z1,z2]) rfl ?_;exact⟨tA.o,aoX ⟨by rw[HQ.o];decide,by rw[HQ.o]⟩⟩
 have t3:=ah ((2000:Int)<(X:Int));have sI:=ai (show R=if B=false then 16 else 0 by rw[nL.o,bL h3]);clear h3 nL;obtain⟨e0,ef⟩:=dO wQ.o;go_wp2_with fail
 refine(Eo.o w3 dS.o).mono ?_;rintro r w4 ⟨rfl,gV⟩;have jl:=ai (dS.o.trans gV);have aA0:=ai (gV.blk wQ.o);have aoz:=ai (gV.blk Ls.o);clear gV e0 ef Eo;cases B
 case false =>
  have HQ:=ai (show R=16 by rw[sI.o];rfl);obtain⟨r0,r1,r2,rf⟩:=dM aoz.o;go_wp2_with fail
  obtain⟨wz,eV⟩:∃wz,wz=kW w4 (w.heap.size+1+1) (.slice none 0 0) (.map none) (.slice none 0 0):=⟨_,rfl⟩
  have HZ:=ai (show wz.heap[w.heap.size+1+1]?=some (.cells #[.slice none 0 0,.map none,.slice none 0 0] 183 (0,0)) by rw[eV];exact rW aoz.o _ _ _);have tA:=ai (show Ext w wz by rw[eV];exact(rV w4 (w.heap.size+1+1) (.slice none 0 0) (.map none) (.slice none 0 0) (N:=[w.heap.size+1+1]) (by simp)).ext jl.o (fun y hy=>by simp only[aG] at hy;omega));unfold kW at eV;rw[<-eV];clear eV;obtain⟨z0,z1,z2,zf⟩:=dM HZ.o;refine a5a (v:=.tuple #[oM,.int .i64 16]) (by simp[results,Tryz.results115,go_sem,oM,z0,z1,z2]) rfl ?_;exact⟨tA.o,aoX ⟨by rw[HQ.o];decide,by rw[HQ.o]⟩⟩
 have HQ:=ai (show R=0 by rw[sI.o];rfl);have hmm:=@run_makeMap Tryz.prog;have Uj:=ai (ig.made w4 9);have BO:=ai ((Tz w4).alloc (.map #[] 0));obtain⟨bf,Qd⟩:∃bf:Nat,bf=w4.heap.size:=⟨_,rfl⟩
 have HBF:=ai Qd;have wP:=ai (show w.heap.size+1+1<bf by rw[Qd];exact bS aoz.o);go_wp2_with fail
 rw[<-Qd];rw[<-Qd] at Uj;clear Qd hmm;go_loopw [47] (fun i wr=>∃(k:Nat) (g:BA->Option Value),k<=n/\i=.int .i64 k/\ig wr 9 bf k (kV g)/\Rv w (l.take k) g/\wr.heap[w.heap.size]?=some (.cells #[.slice sa sn sc] 24 (0,0))/\wr.heap[w.heap.size+1+1]?=some (.cells #[.slice none 0 0,.map none,.slice none 0 0] 183 (0,0))/\Ext w wr) (fun i _=>n - (intOf i).toNat)
 case atStart =>
  refine⟨0,fun _=>none,by omega,rfl,Uj.o.congr fun x=>?_,fun s=>⟨fun _=>rfl,fun d hd=>?_⟩,BO.o.blk aA0.o,BO.o.blk aoz.o,jl.o.trans BO.o⟩
  ·cases x<;>simp[kV]
  simp[dz] at hd
 case round =>
  obtain⟨k,g,hk,rfl,hmap,hg,hb0,hb2,hx⟩:=hrel;have En:=ai hmap;have HX:=ai hx;have HG:=ai hg;have oF:=ai hb0;have Af:=ai hb2;have qL:=hmap.lt;clear hmap hx hg Uj BO hb0 hb2;by_cases hlt:k<n
  ·have hlt':k<l.length:=by have:=HN.o;omega
   have t1:=ag ((k:Int)<(n:Int));obtain⟨cb,ld,v,rfl,fO,hrow⟩:=HL.o.at hlt';obtain⟨c0,c1,c2,c3,c4,c5,c6,c7,c8,c9⟩:=(hrow.mono HX.o.sub).BB;have zP:v.name.size<=1000000000000000:=by rw[fO.2.1];exact tR.o _ (aD hlt')
   have DK:=eB c0;simp only at DK;have aOx:=ai (show dw w l[k].cond (.agg #[ v.x.op,.string v.x.name,.slice v.x.aw v.x.nw v.x.cw,v.x.lo,v.x.hi,.slice v.x.aa v.x.na v.x.ca]) from fO.2.2.1);have HEK:=ai (show l[k].kind=v.kind from fO.1.symm);have Li:=ai (show l[k].name=v.name from fO.2.1.symm);have HFR:=ai (qw.o.fresh hlt');rw[Li.o] at HFR;have HST:=ai (fun h1 h2=>HG.o.step hlt' h1 h2 aOx.o);have Na:=ai (HG.o.skip hlt');rw[HEK.o,Li.o] at HST Na;clear fO hrow;cases tC:(v.kind==1)
   ·have Nd:=ai (Na.o (aoX (by simpa using tC)));go_wp2_with fail
    go_roundw
    case rel =>
     have gB:=(Tz wr).alloc (.cells #[ v.kind,.string v.name,v.x.op,.string v.x.name,.slice v.x.aw v.x.nw v.x.cw,v.x.lo,v.x.hi,.slice v.x.aa v.x.na v.x.ca,.slice v.au v.nu v.cu,v.ck] 48);exact⟨k+1,g,by omega,by go_num,(En.o.ext gB).more (by omega),Nd.o,gB.blk oF.o,gB.blk Af.o,HX.o.trans gB⟩
    case measure=>simp[intOf];omega
   have Nd:=ai (HST.o (by simpa using tC) HFR.o);go_wp2_with (at_mapUpdate;refine lR _ rfl _ _ _ 131 rfl 9 45 gU EW bf k _ rfl (En.o.ext ((Tz wr).alloc _)) ?c3 _ _ _ rfl rfl (lB zP) trivial ?_)
   case c3=>unfold maxLen;omega
   intro w6 hm1 hc1;have gB:=(Tz wr).alloc (.cells #[ v.kind,.string v.name,v.x.op,.string v.x.name,.slice v.x.aw v.x.nw v.x.cw,v.x.lo,v.x.hi,.slice v.x.aa v.x.na v.x.ca,.slice v.au v.nu v.cu,v.ck] 48);have hxm:Ext w w6:=hc1.ext (HX.o.trans gB) (fun y hy=>by simp only[aG] at hy;have:=wP.o;omega);have aGo:=ai (hc1.blk (gB.blk oF.o) (by have:=wP.o;simp;omega));have ah7:=ai (hc1.blk (gB.blk Af.o) (by have:=wP.o;simp;omega));have WO:=ai (hm1.congr (Dm g v.name _));have dI:=ai hxm;clear hm1 hc1 gB hxm;go_wp2_with fail
   go_roundw
   case rel=>exact⟨k+1,_,by omega,by go_num,WO.o,Nd.o,aGo.o,ah7.o,dI.o⟩
   case measure=>simp[intOf];omega
  have t1:=ah ((k:Int)<(n:Int));have Nd:=ai (show k=n by omega);obtain⟨e0,ef⟩:=dO oF.o;obtain⟨r0,r1,r2,rf⟩:=dM Af.o;go_wp2_with fail
  obtain⟨wz,eV⟩:∃wz,wz=kW wr (w.heap.size+1+1) (.slice sa sn sc) (.map (some bf)) (.slice fa fn fc):=⟨_,rfl⟩
  have HZ:=ai (show wz.heap[w.heap.size+1+1]?=some (.cells #[.slice sa sn sc,.map (some bf),.slice fa fn fc] 183 (0,0)) by rw[eV];exact rW Af.o _ _ _);have U0:ct [w.heap.size+1+1] wr wz:=by rw[eV];exact rV wr (w.heap.size+1+1) (.slice sa sn sc) (.map (some bf)) (.slice fa fn fc) (by simp)
  have tA:=ai (U0.ext HX.o (fun y hy=>by simp only[aG] at hy;omega));have HLZ:=ai (show A3 wz s l f ⟨sa,sn,sc,bf,fa,fn,fc⟩ n from⟨HS.o.ext tA.o,by
   exact⟨g,by rw[<-Nd.o];exact En.o.cR U0 (by have:=wP.o;simp;omega),by have:=HG.o.ext tA.o;rwa [aS (by have:=HN.o;omega)] at this⟩,HI.o.ext tA.o⟩)
  unfold kW at eV;rw[<-eV];clear eV U0;obtain⟨z0,z1,z2,zf⟩:=dM HZ.o;refine a5a (v:=.tuple #[fT.val ⟨sa,sn,sc,bf,fa,fn,fc⟩,.int .i64 0]) (by simp[results,Tryz.results115,go_sem,fT.val,z0,z1,z2]) rfl ?_;exact⟨tA.o,a4Z ⟨by rw[HQ.o],_,rfl,HLZ.o⟩⟩
def fvV (lv:Value):Value:=.func (.func 116) #[lv] #[]
def aHK (o:Option Nat):Int:=match o with|some k=>k|none => -1
theorem am4 (lv:Value) (args:List Ex) (aa:OA) (na ca:Nat) (P:Ex->Bool) (w:World) (hna:na=args.length) (hn2:na<=1000000) (hx:eU w args aa)
  (hc:∀(j:Nat) (hj:j<args.length) (xv:Value) (W:World),Ext w W->dw W args[j] xv->Calls Tryz.prog 116 #[lv,xv] W (cz (.bool (P args[j])) W)) :
  Calls Tryz.prog 174 #[.slice aa na ca,fvV lv] w (cz (.int .i64 (aHK (args.findIdx? P))) w):=by
 have HX:=ai hx;have kJ:=ai hna;have HC:=ai hc;obtain⟨R,hR⟩:∃R,R=aHK (args.findIdx? P):=⟨_,rfl⟩
 rw[<-hR];have HR:=ai hR;clear hx hna hc hR;unfold fvV;go_enter Tryz.func174,Tryz.ntmps174
 go_wp2_with fail
 go_loopw [8] (fun i wr=>∃k:Nat,i=.int .i64 k/\k<=na/\(∀j (h:j<args.length),j<k->P args[j]=false)/\Ext w wr) (fun i _=>na - (intOf i).toNat)
 case atStart=>exact⟨0,rfl,by omega,fun j _ h=>by omega,Tz _⟩
 case round =>
  obtain⟨k,rfl,hk,hno,lM⟩:=hrel;have jH:=ai hno;have gZ:=ai lM;clear hno lM;by_cases hkn:k<na
  ·have hka:k<args.length:=by have:=kJ.o;omega
   have t1:=ag ((k:Int)<(na:Int));obtain⟨b,off,rfl,nJ,nD,nG,nK,nE,nI,h0,h1,h2,h3,h4,h5,h6⟩:=eU.at args _ (eU.ext gZ.o args _ HX.o) k hka;have HAK:=ai (HC.o k hka _ wr gZ.o h6);obtain⟨B,hB⟩:∃B,B=P args[k]:=⟨_,rfl⟩
   rw[<-hB] at HAK;have jL:=ai hB;unfold fN at HAK;clear h6 hB;go_wp2_with fail
   refine HAK.o.mono ?_;rintro r w3 ⟨rfl,hx3⟩;have dS:=ai (gZ.o.trans hx3);clear hx3;cases B
   ·go_wp2_with fail
    go_roundw
    case rel =>
     refine⟨k+1,by go_num,by omega,fun j hj hjk=>?_,dS.o⟩;by_cases e:j=k
     ·subst e;exact jL.o.symm
     exact jH.o j hj (by omega)
    case measure=>simp[intOf];omega
   have HF:=ai (show R=(k:Int) by rw[HR.o,KA hka jL.o.symm fun j hj hjk=>jH.o j hj hjk];rfl);go_wp2_with fail
   go_ret;exact cD (by rw[HF.o]) dS.o
  have t1:=ah ((k:Int)<(na:Int));have HF:=ai (show R = -1 by rw[HR.o,Fl fun j hj=>jH.o j hj (by have:=kJ.o;omega)];rfl);go_wp2_with fail
  go_ret;exact cD (by rw[HF.o]) gZ.o
theorem adL (lv:Value) (args:List Ex) (aa:OA) (na ca:Nat) (P:Ex->Bool) (w:World) (hna:na=args.length) (hn2:na<=1000000) (hx:eU w args aa)
  (hc:∀(j:Nat) (hj:j<args.length) (xv:Value) (W:World),Ext w W->dw W args[j] xv->Calls Tryz.prog 116 #[lv,xv] W (cz (.bool (P args[j])) W)) :
  Calls Tryz.prog 147 #[.slice aa na ca,fvV lv] w (cz (.bool (args.any P)) w):=by
 have HI:=ai (am4 lv args aa na ca P w hna hn2 hx hc);obtain⟨R,hR⟩:∃R,R=args.any P:=⟨_,rfl⟩
 rw[<-hR];have HR:=ai hR;clear hx hna hc hR;unfold fvV at *;cases hf:args.findIdx? P with
 | none =>
  rw[hf] at HI;have HF:=ai (show R=false by
   rw[HR.o,List.any_eq_false];intro x hx;rw[bh] at hf;simp[hf x hx])
  unfold aHK at HI;go_enter Tryz.func147,Tryz.ntmps147
  go_wp2_with fail
  refine HI.o.mono ?_;rintro r w3 ⟨rfl,hx3⟩;have dS:=ai hx3;clear hx3;go_wp2_with fail
  go_ret;exact bW (by rw[HF.o]) dS.o
 | some k =>
  rw[hf] at HI;have HF:=ai (show R=true by
   rw[HR.o,List.any_eq_true];rw[aJ] at hf;obtain⟨hk,h1,_⟩:=hf;exact⟨_,aD hk,h1⟩)
  have t1:=ag ((0:Int)<=(k:Int));unfold aHK at HI;go_enter Tryz.func147,Tryz.ntmps147
  go_wp2_with fail
  refine HI.o.mono ?_;rintro r w3 ⟨rfl,hx3⟩;have dS:=ai hx3;clear hx3;go_wp2_with fail
  go_ret;exact bW (by rw[HF.o]) dS.o
theorem Fa {s:List Attr} {l:List cK} (hc:Chk s l) {e:Ex} (ht:gq e) (h:dr s l e=0):((e.op≠6/\e.op≠7/\e.op≠8)/\(e.op=3->dz l e.name=none))\/(e.op=3/\eO s e.name=none/\∃d,dz l e.name=some d)\/(e.op=6/\e.args.length=1)\/e.op=7\/e.op=8:=by
 rcases abv ht h with h1|h1|⟨h1,i,h2,-⟩|⟨h1,h3,d,h2⟩|⟨h1,i,h2,h3⟩|⟨h1,i,h2,-⟩|⟨h1,h2⟩|h1|h1
 ·exact aoX ⟨by omega,fun h=>by omega⟩
 ·exact aoX ⟨by omega,fun h=>by omega⟩
 ·refine aoX ⟨by omega,fun _=>?_⟩;cases hd:dz l e.name with
  | none=>rfl
  | some d=>rw[hc.apart hd] at h2;cases h2
 ·exact a4Z (aoX ⟨h1,h3,d,h2⟩)
 ·exact aoX ⟨by omega,fun h=>by omega⟩
 ·exact aoX ⟨by omega,fun h=>by omega⟩
 ·exact a4Z (a4Z (aoX ⟨h1,h2⟩))
 ·exact a4Z (a4Z (a4Z (aoX h1)))
 exact a4Z (a4Z (a4Z (a4Z h1)))
def aXE (s:List Attr) (f:ZI) (V:BA->Option Bool) (args:List Ex) (na:Nat) (w:World) (i:Value) (wr:World):Prop:=∃k:Nat,i=.int .i64 k/\k<=na/\(∀j (h:j<args.length),j<k->pK s f V args[j]=true)/\Ext w wr
theorem aoS (s:List Attr) (l:List cK) (f:ZI) (hc:Chk s l) (qx:fW s f=true) (lv:fT) (nm:Nat):∀(g m:Nat) (e:Ex) (ev:Value) (w:World),e.size<=m->m<=1000000->gq e->dr s l e=0->jT l g e<=2000->A3 w s l f lv nm->dw w e ev ->
  Calls Tryz.prog 116 #[lv.val,ev] w (cz (.bool (jN s l f g e)) w):=by
 intro g;induction g with
 | zero=>intro m e ev w _ _ _ _ h;simp[jT] at h
 | succ g ihg =>
  intro m;induction m with
  | zero=>intro e ev w h;have:=size_pos e;omega
  | succ m ihm =>
   intro e ev w hm Re hok hnd hex hl he;have GG:=Fa hc hok hnd;have hfw:=JB hok hnd;obtain⟨-,RA⟩:=wT hnd;obtain⟨agE,Rz⟩:=iR hok;have RB:=KF (D:=Sj l g) (e:=e) (by rw[<-j9];exact hex);have TG:=Qn (D:=Sj l g) (e:=e) (by rw[<-j9];exact hex);have Eo:=ai (fun h5 W (hW:Ext w W)=>XP s l f lv nm hc.x7 qx e ev W (hl.ext hW) (he.ext hW) hok h5);have VN:=ai (fun W (hW:Ext w W)=>Fv s l f lv nm e ev W (hl.ext hW) (he.ext hW) (by have:=(IY hok).2;omega));obtain⟨aw,nw,cw,aa,na,ca,rfl,hw,hna,hca,ha,hx⟩:=he.parts;have hS:e.size=1+sizes e.args:=e.size_eq;have hla:=eR e.args;obtain⟨op,name,words,lo,hi,args⟩:=e;simp only[Ex.op,Ex.name,Ex.words,Ex.lo,Ex.hi,Ex.args] at *;have Ks:na<=1000000:=by omega
   have aC9:sizes args<=m:=by omega
   obtain⟨R,hR⟩:∃R,R=jN s l f (g+1) (.mk op name words lo hi args):=⟨_,rfl⟩
   rw[<-hR];obtain⟨V,hV⟩:∃V,V=(fun x=>(dz l x).map fun d=>jN s l f g (l.getD d fC).cond):=⟨_,rfl⟩
   have hvf:∀e,jN s l f (g+1) e=pK s f V e:=fun e=>by rw[hV];rfl
   rw[hvf,pK] at hR;have HR:=ai hR;have HX:=ai hx;have kJ:=ai hna;have mF:=ai (fun (j:Nat) (hj:j<args.length) (xv:Value) (W:World) (hW:Ext w W) (qV:dw W args[j] xv)=>show Calls Tryz.prog 116 #[lv.val,xv] W (cz (.bool (pK s f V args[j])) W) from by
    rw[<-hvf];exact ihm args[j] xv W (by have h1:=eD args j hj;have h2:=dX args (j+1);omega) (by omega) (Rz _ (aD hj)) (RA j hj) (by rw[j9];exact RB j hj) (hl.ext hW) qV)
   have CW:=ai (fun (h3:op=3) (d:Nat) (hd:dz l name=some d) (xv:Value) (W:World) (hW:Ext w W) (qV:dw W (l.getD d fC).cond xv)=>ihg 300 (l.getD d fC).cond xv W (hc.cond (ju hd).1).2.2 (by omega) (hc.cond (ju hd).1).1 (hc.cond (ju hd).1).2.1 (TG h3 (by unfold Sj;rw[hd];rfl)) (hl.ext hW) qV);have HVV:=ai (show ∀d,dz l name=some d->V name=some (jN s l f g (l.getD d fC).cond) from fun d hd=>by rw[hV];simp only[hd];rfl);have Lg:=ai (show dz l name=none->V name=none from fun hd=>by rw[hV];simp only[hd];rfl);have Es:=ai hfw;clear hc qx hl hx hw hna hca ha hS hla ihg ihm hm RA Rz RB TG agE hok hnd hex he hR hvf hV hfw;obtain⟨sa,sn,sc,bm,fa,fn,fc⟩:=lv;unfold fN fT.val at *;simp only at *;obtain⟨wa,cN⟩:∃wa,wa=(w.alloc (.cells #[.slice sa sn sc,.map (some bm),.slice fa fn fc] 183)).alloc (.cells #[.int .i64 op,.string name,.slice aw nw cw,.int .i64 lo,.int .i64 hi,.slice aa na ca] 45):=⟨_,rfl⟩
   have gB:Ext w wa:=by rw[cN];exact((Tz _).alloc _).alloc _
   have hb0:wa.heap[w.heap.size]?=some (.cells #[.slice sa sn sc,.map (some bm),.slice fa fn fc] 183 (0,0)):=by rw[cN];exact bU (bR w _)
   have hb1:wa.heap[w.heap.size+1]?=some (.cells #[.int .i64 op,.string name,.slice aw nw cw,.int .i64 lo,.int .i64 hi,.slice aa na ca] 45 (0,0)):=by rw[cN];exact cT (by simp)
   have dm:=ai gB;have iO:=ai hb0;have gG:=ai hb1;obtain⟨f0,f1,f2,f3,f4,f5,ff⟩:=cX hb1;obtain⟨e0,e1,e2,ef⟩:=dM hb0;have kL:=bS hb1;clear gB hb0 hb1;have hmf:∀(fn:Fn) (first cap:Array Value) (w:World),(Instr.makeFunc fn first cap).run Tryz.prog w=.ok (.func fn first cap) w:=fun _ _ _ _=>rfl
   rcases GG with ⟨h6,hdn⟩|⟨rfl,hat,d,hdf⟩|⟨rfl,sA⟩|rfl|rfl
   case inr.inr.inl =>
    have hj:0<args.length:=by omega
    have HQ:=ai (show R=!(pK s f V args[0]) by
     rw[HR.o,bM rfl,aew,aT hj];rfl)
    have hnp:0<na:=by have:=kJ.o;omega
    obtain⟨b,off,rfl,nJ,nD,nG,nK,nE,nI,h0,h1,h2,h3,h4,h5,h6⟩:=eU.at args _ (eU.ext dm.o args _ HX.o) 0 hj;have HA0:=ai (mF.o 0 hj _ wa dm.o h6);simp only[Nat.zero_mul,Nat.add_zero] at h0 h1 h2 h3 h4 h5;obtain⟨B,hB⟩:∃B,B=pK s f V args[0]:=⟨_,rfl⟩
    rw[<-hB] at HQ HA0;unfold fN at HA0;clear sA hB mF CW h6;go_enter Tryz.func116,Tryz.ntmps116
    go_upto_region 1 with fail
    rw[<-cN];clear cN;go_wp2_with fail
    refine HA0.o.mono ?_;rintro r w3 ⟨rfl,hx3⟩;have dS:=ai (dm.o.trans hx3);clear hx3;go_wp2_with fail
    go_ret;exact bW (by rw[HQ.o]) dS.o
   ·have t6:(op==6)=false:=by simp[h6.1]
    have t7:(op==7)=false:=by simp[h6.2.1]
    have t8:(op==8)=false:=by simp[h6.2.2]
    have HQ:=ai (show R=um s f op name words lo hi by
     rw[HR.o,bL h6.1,bL h6.2.1,bL h6.2.2];by_cases h3:op=3
     ·rw[bM h3,Lg.o (hdn h3)];rfl
     rw[bL h3])
    have aos:=ai (Eo.o (Es.o h6 hdn));obtain⟨B,hB⟩:∃B,B=um s f op name words lo hi:=⟨_,rfl⟩
    rw[<-hB] at HQ aos;have HDN:=ai hdn;clear h6 hdn hB mF CW Eo Es;go_enter Tryz.func116,Tryz.ntmps116
    go_upto_region 1 with fail
    rw[<-cN];clear cN;go_wp2_with fail
    refine(VN.o wa dm.o).mono ?_;rintro r w3 ⟨hx3,hq⟩;rcases hq with ⟨h3,d,v,hd,-⟩|⟨-,rfl⟩
    ·rw[HDN.o h3] at hd;cases hd
    have dS:=ai (dm.o.trans hx3);have wQ:=ai (hx3.blk iO.o);have nW:=ai (hx3.blk gG.o);clear f0 f1 f2 f3 f4 f5 ff e0 e1 e2 ef kL hx3;obtain⟨f0,f1,f2,f3,f4,f5,ff⟩:=cX nW.o;obtain⟨e0,e1,e2,ef⟩:=dM wQ.o;have kL:=bS nW.o;have lU:=bS wQ.o;unfold TU;go_wp2_with fail
    refine(aos.o _ (dS.o.alloc _)).mono ?_;rintro r w5 ⟨rfl,dh⟩;have gW:=ai ((dS.o.alloc _).trans dh);clear dh;go_wp2_with fail
    go_ret;exact bW (by rw[HQ.o]) gW.o
   ·have HQ:=ai (show R=jN s l f g (l.getD d fC).cond by
     rw[HR.o,bL (by decide),bL (by decide),bL (by decide),bM rfl,HVV.o d hdf];rfl)
    have HDF:=ai (CW.o rfl d hdf);obtain⟨B,hB⟩:∃B,B=jN s l f g (l.getD d fC).cond:=⟨_,rfl⟩
    rw[<-hB] at HQ HDF;have QM:=ai hdf;clear hat hdf hB mF CW Eo Es;go_enter Tryz.func116,Tryz.ntmps116
    go_upto_region 1 with fail
    rw[<-cN];clear cN;go_wp2_with fail
    refine(VN.o wa dm.o).mono ?_;rintro r w3 ⟨hx3,hq⟩;rcases hq with ⟨-,d',v,hd,rfl,hv⟩|⟨hd,-⟩
    case inr =>
     rcases hd with hd|hd
     ·exact a40 rfl hd
     rw[QM.o] at hd;cases hd
    rw[QM.o] at hd;obtain rfl:d=d':=by simpa using hd
    have dS:=ai (dm.o.trans hx3);have zq:=ai hv;clear f0 f1 f2 f3 f4 f5 ff e0 e1 e2 ef kL hx3 hv hd;have HDG:=ai (fun W (hW:Ext w3 W)=>HDF.o v.val W (dS.o.trans hW) (zq.o.ext hW));unfold dK.val fN at *;go_wp2_with fail
    refine(HDG.o _ ((Tz w3).alloc _)).mono ?_;rintro r w5 ⟨rfl,dh⟩;have gW:=ai ((dS.o.alloc _).trans dh);clear dh;go_wp2_with fail
    go_ret;exact bW (by rw[HQ.o]) gW.o
   ·have HQ:=ai (show R=args.all (pK s f V) by rw[HR.o,bL (by decide),bM rfl,xl]);clear CW Eo Es;go_enter Tryz.func116,Tryz.ntmps116
    go_upto_region 1 with fail
    rw[<-cN];clear cN;go_wp2_with fail
    clear f0 f1 f2 f3 f4 f5 ff e0 e1 e2 ef kL;go_loopw [34] (aXE s f V args na w) (fun i _=>na - (intOf i).toNat)
    case atStart=>exact⟨0,rfl,by omega,fun j _ h=>by omega,dm.o⟩
    case round =>
     obtain⟨k,rfl,hk,hall,lM⟩:=hrel;have mK:=ai hall;have gZ:=ai lM;clear hall lM;by_cases hkn:k<na
     ·have hka:k<args.length:=by have:=kJ.o;omega
      have t1:=ag ((k:Int)<(na:Int));obtain⟨b,off,rfl,nJ,nD,nG,nK,nE,nI,h0,h1,h2,h3,h4,h5,h6⟩:=eU.at args _ (eU.ext gZ.o args _ HX.o) k hka;have H6:=ai h6;have HAK:=ai (fun W (hW:Ext wr W)=>mF.o k hka _ W (gZ.o.trans hW) (H6.o.ext hW));obtain⟨B,hB⟩:∃B,B=pK s f V args[k]:=⟨_,rfl⟩
      rw[<-hB] at HAK;have jL:=ai hB;unfold fN at HAK;clear h6 hB;go_wp2_with fail
      refine(HAK.o _ ((Tz wr).alloc _)).mono ?_;rintro r w3 ⟨rfl,hx3⟩;have dS:=ai ((gZ.o.alloc _).trans hx3);clear hx3 h0 h1 h2 h3 h4 h5;cases B
      ·have HF:=ai (show R=false by rw[HQ.o,List.all_eq_false];exact⟨_,aD hka,by rw[<-jL.o];simp⟩);go_wp2_with fail
       go_ret;exact bW (by rw[HF.o]) dS.o
      go_wp2_with fail
      go_roundw
      case rel =>
       refine⟨k+1,by go_num,by omega,fun j hj hjk=>?_,dS.o⟩;by_cases e:j=k
       ·subst e;exact jL.o.symm
       exact mK.o j hj (by omega)
      case measure=>simp[intOf];omega
     have t1:=ah ((k:Int)<(na:Int));have HF:=ai (show R=true by
      rw[HQ.o,aP];intro x hx;obtain⟨j,hj,rfl⟩:=bA hx;exact mK.o j hj (by have:=kJ.o;omega))
     go_wp2_with fail
     go_ret;exact bW (by rw[HF.o]) gZ.o
   have HQ:=ai (show R=args.any (pK s f V) by rw[HR.o,bL (by decide),bL (by decide),bM rfl,xj]);have Vs:=ai (adL (.agg #[.slice sa sn sc,.map (some bm),.slice fa fn fc]) args aa na ca (pK s f V) wa kJ.o Ks (eU.ext dm.o args _ HX.o) fun j hj xv W hW qV=>mF.o j hj xv W (dm.o.trans hW) qV);obtain⟨B,hB⟩:∃B,B=args.any (pK s f V):=⟨_,rfl⟩
   rw[<-hB] at HQ Vs;unfold fvV at Vs;clear CW Eo Es hB;go_enter Tryz.func116,Tryz.ntmps116
   go_upto_region 1 with fail
   rw[<-cN];clear cN;go_wp2_with fail
   refine Vs.o.mono ?_;rintro r w3 ⟨rfl,hx3⟩;have dS:=ai (dm.o.trans hx3);clear hx3;go_wp2_with fail
   go_ret;exact bW (by rw[HQ.o]) dS.o
def qI:Obj:=.cells #[.bool false,.int .i64 0,.slice none 0 0] 67 (0,0)
def vw (p:Pr) (P:Pr->Bool):Bool:=(p.pick == -1)&&decide (p.args.length=1)&&p.args.all P
theorem Zc (lv:fT) (x:dK) (p:Pr) (pv:gS) (P:Pr->Bool) (w:World) (hp:gL w p pv)
  (hv:∀(q:Pr) (qv:gS) (W:World),q∈p.args->Ext w W->gL W q qv->Calls Tryz.prog 130 #[lv.val,x.val,qv.val] W (cz (.bool (P q)) W)) :
  Calls Tryz.prog 160 #[lv.val,x.val,pv.val] w (cz (.bool (vw p P)) w):=by
 obtain⟨-,h2,h3,-,-,h6⟩:=hp.parts;obtain⟨R,hR⟩:∃R,R=vw p P:=⟨_,rfl⟩
 rw[<-hR];unfold vw at hR;obtain⟨pb,k,pa,pn,pc⟩:=pv;simp only at h2 h3 h6;obtain⟨sa,sn,sc,bm,fa,fn,fc⟩:=lv;obtain⟨op,name,aw,nw,cw,lo,hi,aa,na,ca⟩:=x;obtain⟨pav,aQt⟩:∃l,l=p.args:=⟨_,rfl⟩
 rw[<-aQt] at h3 h6 hR hv;rw[<-h2] at hR;have HR:=ai hR;have H6:=ai h6;have HN:=ai h3;have HV:=ai hv;clear hR h2 h3 h6 hp aQt hv;unfold fT.val dK.val fN gS.val at *;obtain⟨wa,cN⟩:∃wa,wa=((w.alloc (.cells #[.slice sa sn sc,.map (some bm),.slice fa fn fc] 183)).alloc (.cells #[ op,.string name,.slice aw nw cw,lo,hi,.slice aa na ca] 45)).alloc (.cells #[.bool pb,k,.slice pa pn pc] 67):=⟨_,rfl⟩
 have gB:Ext w wa:=by rw[cN];exact(((Tz _).alloc _).alloc _).alloc _
 have hb0:wa.heap[w.heap.size]?=some (.cells #[.slice sa sn sc,.map (some bm),.slice fa fn fc] 183 (0,0)):=by rw[cN];exact bU (bU (bR w _))
 have hb1:wa.heap[w.heap.size+1]?=some (.cells #[ op,.string name,.slice aw nw cw,lo,hi,.slice aa na ca] 45 (0,0)):=by rw[cN];exact bU (cT (by simp))
 have hb2:wa.heap[w.heap.size+1+1]?=some (.cells #[.bool pb,k,.slice pa pn pc] 67 (0,0)):=by rw[cN];exact cT (by simp)
 have dm:=ai gB;obtain⟨f0,f1,f2,f3,f4,f5,ff⟩:=cX hb1;obtain⟨e0,e1,e2,ef⟩:=dM hb0;obtain⟨r0,r1,r2,rf⟩:=dM hb2;have kL:=bS hb2;clear gB hb0 hb1 hb2;by_cases hk:k = -1
 case neg =>
  have t1:(k == -1)=false:=by simp[hk]
  have HQ:=ai (show R=false by rw[HR.o];simp[hk]);clear hk;go_enter Tryz.func160,Tryz.ntmps160
  go_upto_region 1 with fail
  rw[<-cN];clear cN;go_wp2_with fail
  go_quiet (fail)
  go_wp2_with fail
  go_ret;exact bW (by rw[HQ.o]) (dm.o.drewN _)
 subst hk;by_cases hn:pn=1
 case neg =>
  have t1:((pn:Int)==1)=false:=by simp;omega
  have HQ:=ai (show R=false by rw[HR.o];have:=HN.o;simp;intro h;omega);clear hn;go_enter Tryz.func160,Tryz.ntmps160
  go_upto_region 1 with fail
  rw[<-cN];clear cN;go_wp2_with fail
  go_quiet (fail)
  go_wp2_with fail
  go_ret;exact bW (by rw[HQ.o]) (dm.o.drewN _)
 subst hn;obtain⟨b,off,q,rfl,hq,c0,c1,c2⟩:=H6.o 0 (by have:=HN.o;omega);simp only[Nat.zero_mul,Nat.add_zero] at c0 c1 c2
 replace c0:=dm.o.cell c0
 replace c1:=dm.o.cell c1
 replace c2:=dm.o.cell c2
 have HPQ:=ai hq;have sA:pav.length=1:=by have:=HN.o;omega
 obtain⟨q1,rfl⟩:=Ao sA;simp only[bB] at HPQ;have HQ:=ai (show R=P q1 by rw[HR.o];simp);have HVQ:=ai (fun W (hW:Ext w W)=>HV.o q1 q W (by simp) hW (HPQ.o.ext hW));obtain⟨B,hB⟩:∃B,B=P q1:=⟨_,rfl⟩
 rw[<-hB] at HQ HVQ;obtain⟨qb,qk,qa,qn,qc⟩:=q;simp only at c0 c1 c2 HVQ;clear hB HV sA HPQ hq HR HN H6;go_enter Tryz.func160,Tryz.ntmps160
 go_upto_region 1 with fail
 rw[<-cN];clear cN;go_wp2_with fail
 go_still_tail 16,(by kernel_rfl)
 change wpList _ _ _ _ _ wa.drew
 have hx2:Ext wa wa.drew:=(Tz wa).drew;generalize wa.drew=w2 at hx2 ⊢;have dN:=ai (dm.o.trans hx2);clear hx2;go_wp2_with fail
 refine(HVQ.o w2 dN.o).mono ?_;rintro r w3 ⟨rfl,hx3⟩;have dS:=ai (dN.o.trans hx3);clear hx3;go_wp2_with fail
 go_ret;exact bW (by rw[HQ.o]) dS.o
def atH (s:List Attr) (f:ZI) (D:BA->Option (Pr->Bool)) (op:Int) (args:List Ex) (p:Pr):Bool:=if p.value=decide (op=8) then decide (0<=p.pick)&&decide (p.args.length=1)&&p.args.all (fun q=>uH s f D args p.pick.toNat q&&(q.value==p.value)) else (p.pick == -1)&&mM s f D p.value args p.args
def aSg (s:List Attr) (f:ZI) (D:BA->Option (Pr->Bool)) (v:Bool) (args:List Ex) (ps:List Pr) (na b0:Nat) (Z0 Z1 Z2:Obj) (w:World) (i:Value) (wr:World):Prop:=∃k:Nat,i=.int .i64 k/\k<=na/\(∀j (h1:j<args.length) (h2:j<ps.length),j<k->wI s f D args[j] ps[j]=true/\ps[j].value=v)/\wr.heap[b0]?=some Z0/\wr.heap[b0+1]?=some Z1/\wr.heap[b0+1+1]?=some Z2/\Ext w wr
theorem Ak {s:List Attr} {f:ZI} {D:BA->Option (Pr->Bool)} {v:Bool} {args:List Ex} {ps:List Pr} (k:Nat) (h1:k<args.length) (h2:k<ps.length) (h:¬(wI s f D args[k] ps[k]=true/\ps[k].value=v)):mM s f D v args ps=false:=by
 cases hz:mM s f D v args ps
 ·rfl
 exact a40 (akg args ps hz k h1 h2) h
theorem ait (s:List Attr) (f:ZI) (D:BA->Option (Pr->Bool)) (lv:fT) (e:Ex) (ev:Value) (p:Pr) (pv:gS) (w:World) (he:dw w e ev) (hn2:e.args.length<=1000000) (hp:gL w p pv)
  (hv:∀(j:Nat) (hj:j<e.args.length) (xv:Value) (q:Pr) (qv:gS) (W:World),q∈p.args->Ext w W->dw W e.args[j] xv->gL W q qv->Calls Tryz.prog 130 #[lv.val,xv,qv.val] W (cz (.bool (wI s f D e.args[j] q)) W)) :
  Calls Tryz.prog 161 #[lv.val,ev,pv.val] w (cz (.bool (atH s f D e.op e.args p)) w):=by
 obtain⟨h1,h2,h3,-,-,h6⟩:=hp.parts;obtain⟨aw,nw,cw,aa,na,ca,rfl,hw,hna,hca,ha,hx⟩:=he.parts;obtain⟨op,name,words,lo,hi,args⟩:=e;simp only[Ex.op,Ex.name,Ex.words,Ex.lo,Ex.hi,Ex.args] at *;obtain⟨R,hR⟩:∃R,R=atH s f D op args p:=⟨_,rfl⟩
 rw[<-hR];unfold atH at hR;obtain⟨pb,pk,pa,pn,pc⟩:=pv;simp only at h1 h2 h3 h6;obtain⟨sa,sn,sc,bm,fa,fn,fc⟩:=lv;obtain⟨ps,hps⟩:∃l,l=p.args:=⟨_,rfl⟩
 rw[<-hps] at h3 h6 hR hv;rw[<-h1,<-h2] at hR;have HR:=ai hR;have H6:=ai h6;have HN:=ai h3;have HV:=ai hv;have HX:=ai hx;have kJ:=ai hna;have Ks:na<=1000000:=by omega
 clear hR h1 h2 h3 h6 hp hps hv hx hna hw hca ha he hn2;unfold fT.val fN gS.val at *;obtain⟨wa,cN⟩:∃wa,wa=((w.alloc (.cells #[.slice sa sn sc,.map (some bm),.slice fa fn fc] 183)).alloc (.cells #[ op,.string name,.slice aw nw cw,lo,hi,.slice aa na ca] 45)).alloc (.cells #[.bool pb,pk,.slice pa pn pc] 67):=⟨_,rfl⟩
 have gB:Ext w wa:=by rw[cN];exact(((Tz _).alloc _).alloc _).alloc _
 have hb0:wa.heap[w.heap.size]?=some (.cells #[.slice sa sn sc,.map (some bm),.slice fa fn fc] 183 (0,0)):=by rw[cN];exact bU (bU (bR w _))
 have hb1:wa.heap[w.heap.size+1]?=some (.cells #[ op,.string name,.slice aw nw cw,lo,hi,.slice aa na ca] 45 (0,0)):=by rw[cN];exact bU (cT (by simp))
 have hb2:wa.heap[w.heap.size+1+1]?=some (.cells #[.bool pb,pk,.slice pa pn pc] 67 (0,0)):=by rw[cN];exact cT (by simp)
 have dm:=ai gB;have iO:=ai hb0;have gG:=ai hb1;have fY:=ai hb2;obtain⟨f0,f1,f2,f3,f4,f5,ff⟩:=cX hb1;obtain⟨e0,e1,e2,ef⟩:=dM hb0;obtain⟨r0,r1,r2,rf⟩:=dM hb2;have kL:=bS hb2;clear gB hb0 hb1 hb2;have hop:(op==8)=decide (op=8):=by by_cases h:op=8<;>simp[h]
 rw[<-hop] at HR;clear hop;obtain⟨d,hd⟩:∃d,d=(op==8):=⟨_,rfl⟩
 rw[<-hd] at HR
 replace hd:=hd.symm
 by_cases hv:pb=d
 ·have t0:(pb==d)=true:=by rw[hv];simp
  have jI:=ai (show R=(decide (0<=pk)&&decide (ps.length=1)&&ps.all (fun q=>uH s f D args pk.toNat q&&(q.value==d))) by rw[HR.o,bM hv,hv]);clear HR hv;by_cases hk:0<=pk
  case neg =>
   have t1:=ah (0<=pk) hk;have HQ:=ai (show R=false by rw[jI.o,t1];rfl);clear hk;obtain rfl:pb=d:=by simpa using t0
   clear t0;have La:(pb=false/\(op==8)=false)\/(pb=true/\op=8):=by cases pb<;>simp at hd ⊢<;>exact hd
   have YF:=ai La;clear La hd;go_enter Tryz.func161,Tryz.ntmps161
   go_upto_region 1 with fail
   rw[<-cN];clear cN;rcases YF.o with ⟨rfl,hd⟩|⟨rfl,rfl⟩
   all_goals
    go_wp2_with fail
    go_quiet (fail)
    go_wp2_with fail
    go_ret;exact bW (by rw[HQ.o]) (dm.o.drewN _)
  have t1:=ag (0<=pk) hk;obtain⟨k,rfl⟩:∃k:Nat,pk=(k:Int):=⟨pk.toNat,by omega⟩
  have nL:=ai (show R=(decide (ps.length=1)&&ps.all (fun q=>uH s f D args k q&&(q.value==d))) by rw[jI.o,t1,Int.toNat_natCast];rfl);clear jI hk;by_cases hkn:k<na
  case neg =>
   have t2:=ah (k<na);have HQ:=ai (show R=false by
    rw[nL.o];cases hd1:decide (ps.length=1)
    ·rfl
    obtain⟨q,rfl⟩:=Ao (of_decide_eq_true hd1);have:args[k]?=none:=List.getElem?_eq_none (by have:=kJ.o;omega);simp[E8,this])
   clear hkn;obtain rfl:pb=d:=by simpa using t0
   clear t0;have La:(pb=false/\(op==8)=false)\/(pb=true/\op=8):=by cases pb<;>simp at hd ⊢<;>exact hd
   have YF:=ai La;clear La hd;go_enter Tryz.func161,Tryz.ntmps161
   go_upto_region 1 with fail
   rw[<-cN];clear cN;rcases YF.o with ⟨rfl,hd⟩|⟨rfl,rfl⟩
   all_goals
    go_wp2_with fail
    go_quiet (fail)
    go_wp2_with fail
    go_ret;exact bW (by rw[HQ.o]) (dm.o.drewN _)
  have t2:=ag (k<na);by_cases hn:pn=1
  case neg =>
   have t3:((pn:Int)==1)=false:=by simp;omega
   have HQ:=ai (show R=false by rw[nL.o];have:=HN.o;simp;intro h;omega);clear hn;obtain rfl:pb=d:=by simpa using t0
   clear t0;have La:(pb=false/\(op==8)=false)\/(pb=true/\op=8):=by cases pb<;>simp at hd ⊢<;>exact hd
   have YF:=ai La;clear La hd;go_enter Tryz.func161,Tryz.ntmps161
   go_upto_region 1 with fail
   rw[<-cN];clear cN;rcases YF.o with ⟨rfl,hd⟩|⟨rfl,rfl⟩
   all_goals
    go_wp2_with fail
    go_quiet (fail)
    go_wp2_with fail
    go_ret;exact bW (by rw[HQ.o]) (dm.o.drewN _)
  subst hn;obtain⟨b,off,q,rfl,hq,c0,c1,c2⟩:=H6.o 0 (by have:=HN.o;omega);simp only[Nat.zero_mul,Nat.add_zero] at c0 c1 c2
  replace c0:=dm.o.cell c0
  replace c1:=dm.o.cell c1
  replace c2:=dm.o.cell c2
  have HPQ:=ai hq;have sA:ps.length=1:=by have:=HN.o;omega
  obtain⟨q1,rfl⟩:=Ao sA;simp only[bB] at HPQ;have hka:k<args.length:=by have:=kJ.o;omega
  have sI:=ai (show R=(wI s f D args[k] q1&&(q1.value==d)) by rw[nL.o];simp[E8,hka]);have hqv:=HPQ.o.parts.1;rw[<-hqv] at sI;obtain⟨qb,qk,qa,qn,qc⟩:=q;simp only at c0 c1 c2 sI;clear hqv hq nL sA;by_cases hqb:qb=d
  case neg =>
   have t4:(qb==d)=false:=by cases qb<;>cases d<;>simp at hqb ⊢
   have HQ:=ai (show R=false by rw[sI.o,t4,Bool.and_false]);clear hqb;obtain rfl:pb=d:=by simpa using t0
   clear t0;have La:(pb=false/\(op==8)=false)\/(pb=true/\op=8):=by cases pb<;>simp at hd ⊢<;>exact hd
   have YF:=ai La;clear La hd;go_enter Tryz.func161,Tryz.ntmps161
   go_upto_region 1 with fail
   rw[<-cN];clear cN;rcases YF.o with ⟨rfl,hd⟩|⟨rfl,rfl⟩
   all_goals
    go_wp2_with fail
    go_quiet (fail)
    go_wp2_with fail
    go_ret;exact bW (by rw[HQ.o]) (dm.o.drewN _)
  have t4:(qb==d)=true:=by rw[hqb];simp
  have HQ:=ai (show R=wI s f D args[k] q1 by rw[sI.o,t4,Bool.and_true]);clear hqb;have HVQ:=ai (fun xv W (hW:Ext w W) qV=>HV.o k hka xv q1 _ W (by simp) hW qV (HPQ.o.ext hW));obtain⟨B,hB⟩:∃B,B=wI s f D args[k] q1:=⟨_,rfl⟩
  rw[<-hB] at HQ HVQ;obtain⟨xb,xo,rfl,nJ,nD,nG,nK,nE,nI,g0,g1,g2,g3,g4,g5,g6⟩:=eU.at args _ (eU.ext dm.o args _ HX.o) k hka;have G6:=ai g6;clear hB HV sI HPQ g6 HN H6;unfold fN at *;simp only at HVQ;obtain rfl:pb=d:=by simpa using t0
  clear t0;have La:(pb=false/\(op==8)=false)\/(pb=true/\op=8):=by cases pb<;>simp at hd ⊢<;>exact hd
  have YF:=ai La;clear La hd;go_enter Tryz.func161,Tryz.ntmps161
  go_upto_region 1 with fail
  rw[<-cN];clear cN;rcases YF.o with ⟨rfl,hd⟩|⟨rfl,rfl⟩
  all_goals
   go_wp2_with fail
   go_still_tail 38,(by kernel_rfl)
   change wpList _ _ _ _ _ wa.drew
   have hx2:Ext wa wa.drew:=(Tz wa).drew;generalize wa.drew=w2 at hx2 ⊢;have dN:=ai (dm.o.trans hx2);have G62:=ai (G6.o.ext hx2);clear hx2;go_wp2_with fail
   refine(HVQ.o _ w2 dN.o G62.o).mono ?_;rintro r w3 ⟨rfl,hx3⟩;have dS:=ai (dN.o.trans hx3);clear hx3;go_wp2_with fail
   go_ret;exact bW (by rw[HQ.o]) dS.o
 have jI:=ai (show R=((pk == -1)&&mM s f D pb args ps) by rw[HR.o,bL hv]);have t0:(pb==d)=false:=by cases pb<;>cases d<;>simp at hv ⊢
 clear HR hv;by_cases hk:pk = -1
 case neg =>
  have t1:(pk != -1)=true:=by simp[hk]
  have HQ:=ai (show R=false by rw[jI.o];simp[hk]);clear hk;have La:(pb=true/\(op==8)=false)\/(pb=false/\op=8):=by cases pb<;>cases d<;>simp at hd t0 ⊢<;>exact hd
  have YF:=ai La;clear La hd t0;go_enter Tryz.func161,Tryz.ntmps161
  go_upto_region 1 with fail
  rw[<-cN];clear cN;rcases YF.o with ⟨rfl,hd⟩|⟨rfl,rfl⟩
  all_goals
   go_wp2_with fail
   go_ret
   first|exact bW (by rw[HQ.o]) dm.o|exact bW (by rw[HQ.o]) (dm.o.drewN _)|trace_state
 subst hk;have nL:=ai (show R=mM s f D pb args ps by rw[jI.o];simp);clear jI;by_cases hl:pn=na
 case neg =>
  have t2:((pn:Int) != (na:Int))=true:=by simp;omega
  have HQ:=ai (show R=false by
   rw[nL.o];cases hz:mM s f D pb args ps
   ·rfl
   have:=Xk args ps hz;have:=HN.o;have:=kJ.o;omega)
  clear hl;have La:(pb=true/\(op==8)=false)\/(pb=false/\op=8):=by cases pb<;>cases d<;>simp at hd t0 ⊢<;>exact hd
  have YF:=ai La;clear La hd t0;go_enter Tryz.func161,Tryz.ntmps161
  go_upto_region 1 with fail
  rw[<-cN];clear cN;rcases YF.o with ⟨rfl,hd⟩|⟨rfl,rfl⟩
  all_goals
   go_wp2_with fail
   go_ret
   first|exact bW (by rw[HQ.o]) dm.o|exact bW (by rw[HQ.o]) (dm.o.drewN _)|trace_state
 subst hl;have t2:((pn:Int) != (pn:Int))=false:=by simp
 have La:(pb=true/\(op==8)=false)\/(pb=false/\op=8):=by cases pb<;>cases d<;>simp at hd t0 ⊢<;>exact hd
 have YF:=ai La;clear La hd t0;go_enter Tryz.func161,Tryz.ntmps161
 go_upto_region 1 with fail
 rw[<-cN];clear cN;rcases YF.o with ⟨rfl,hd⟩|⟨rfl,rfl⟩
 ·go_wp2_with fail
  clear f0 f1 f2 f3 f4 f5 ff e0 e1 e2 ef r0 r1 r2 rf kL;go_loopw [72] (aSg s f D true args ps pn w.heap.size (.cells #[.slice sa sn sc,.map (some bm),.slice fa fn fc] 183 (0,0)) (.cells #[ op,.string name,.slice aw nw cw,lo,hi,.slice aa pn ca] 45 (0,0)) (.cells #[.bool true,.int .i64 (-1),.slice pa pn pc] 67 (0,0)) w) (fun i _=>pn - (intOf i).toNat)
  case atStart=>exact⟨0,rfl,by omega,fun j _ _ h=>by omega,iO.o,gG.o,fY.o,dm.o⟩
  case round =>
   obtain⟨k,rfl,hk,hall,hb0,hb1,hb2,lM⟩:=hrel;have mK:=ai hall;have gZ:=ai lM;obtain⟨e0,e1,e2,ef⟩:=dM hb0;obtain⟨r0,r1,r2,rf⟩:=dM hb2;have kL:=bS hb2;have Sa:=ai hb0;have mE:=ai hb1;have iP:=ai hb2;clear hall lM hb0 hb1 hb2;by_cases hkn:k<pn
   ·have hka:k<args.length:=by have:=kJ.o;omega
    have hkp:k<ps.length:=by have:=HN.o;omega
    have t1:=ag ((k:Int)<(pn:Int));obtain⟨xb,xo,rfl,nJ,nD,nG,nK,nE,nI,g0,g1,g2,g3,g4,g5,g6⟩:=eU.at args _ (eU.ext gZ.o args _ HX.o) k hka;have G6:=ai g6;obtain⟨b,off,q,rfl,hq,c0,c1,c2⟩:=H6.o k hkp
    replace c0:=gZ.o.cell c0
    replace c1:=gZ.o.cell c1
    replace c2:=gZ.o.cell c2
    have HPQ:=ai hq;have HVQ:=ai (fun xv W (hW:Ext w W) qV=>HV.o k hka xv ps[k] _ W (aD hkp) hW qV (HPQ.o.ext hW));have Yk:=ai hq.parts.1;obtain⟨qb,qk,qa,qn,qc⟩:=q;simp only at c0 c1 c2 Yk HVQ;obtain⟨B,hB⟩:∃B,B=wI s f D args[k] ps[k]:=⟨_,rfl⟩
    rw[<-hB] at HVQ;have jL:=ai hB;unfold fN at *;clear hB hq g6 HPQ;go_upto_region 9 with fail
    obtain⟨y,hy⟩:∃y:Nat,y=wr.heap.size:=⟨_,rfl⟩
    obtain⟨w1,hw1⟩:∃w1,w1=wr.alloc (.cells #[.int .i64 args[k].op,.string args[k].name,.slice nJ nD nG,.int .i64 args[k].lo,.int .i64 args[k].hi,.slice nK nE nI] 45):=⟨_,rfl⟩
    have hx1:Ext wr w1:=by rw[hw1];exact(Tz wr).alloc _
    have jm:=ai (show w1.heap[y]?=some (.cells #[.int .i64 args[k].op,.string args[k].name,.slice nJ nD nG,.int .i64 args[k].lo,.int .i64 args[k].hi,.slice nK nE nI] 45 (0,0)) by rw[hw1,hy];exact bR wr _);rw[<-hw1,<-hy];clear hw1 hy;have dI:=ai (gZ.o.trans hx1);have G61:=ai (G6.o.ext hx1);have HD0:=ai (hx1.blk Sa.o);have tU:=ai (hx1.blk mE.o);have pY:=ai (hx1.blk iP.o)
    replace c0:=hx1.cell c0
    replace c1:=hx1.cell c1
    replace c2:=hx1.cell c2
    clear e0 e1 e2 ef r0 r1 r2 rf g0 g1 g2 g3 g4 g5 kL hx1;obtain⟨e0,e1,e2,ef⟩:=dM HD0.o;obtain⟨r0,r1,r2,rf⟩:=dM pY.o;obtain⟨g0,g1,g2,g3,g4,g5,gf⟩:=cX jm.o;by_cases hqb:qb=true
    case neg =>
     obtain rfl:qb=false:=by simpa using hqb
     have HQ:=ai (show R=false by rw[nL.o];exact Ak k hka hkp fun h=>by have h1:=Yk.o;rw[h.2] at h1;cases h1);clear hqb;go_wp2_with fail
     go_quiet (fail)
     go_wp2_with fail
     go_ret;exact bW (by rw[HQ.o]) (dI.o.drewN _)
    subst hqb;go_wp2_with fail
    go_still_tail 17,(by kernel_rfl)
    change wpList _ _ _ _ _ w1.drew
    have hx2:Ext w1 w1.drew:=(Tz w1).drew;generalize w1.drew=w2 at hx2 ⊢;have dN:=ai (dI.o.trans hx2);have G62:=ai (G61.o.ext hx2);have aOG:=ai (hx2.blk HD0.o);have aOF:=ai (hx2.blk tU.o);have aOE:=ai (hx2.blk pY.o);clear hx2 e0 e1 e2 ef r0 r1 r2 rf g0 g1 g2 g3 g4 g5 gf c0 c1 c2;go_wp2_with fail
    refine(HVQ.o _ w2 dN.o G62.o).mono ?_;rintro r w3 ⟨rfl,hx3⟩;have dS:=ai (dN.o.trans hx3);have HE0:=ai (hx3.blk aOG.o);have ue:=ai (hx3.blk aOF.o);have kH:=ai (hx3.blk aOE.o);clear hx3;cases B
    ·have HQ:=ai (show R=false by rw[nL.o];exact Ak k hka hkp fun h=>by rw[<-jL.o] at h;exact a40 h.1 (by decide));go_wp2_with fail
     go_ret;exact bW (by rw[HQ.o]) dS.o
    go_wp2_with fail
    go_roundw
    case rel =>
     refine⟨k+1,by go_num,by omega,fun j hj1 hj2 hjk=>?_,HE0.o,ue.o,kH.o,dS.o⟩;by_cases e:j=k
     ·subst e;exact⟨jL.o.symm,Yk.o.symm⟩
     exact mK.o j hj1 hj2 (by omega)
    case measure=>simp[intOf];omega
   have t1:=ah ((k:Int)<(pn:Int));have HF:=ai (show R=true by
    rw[nL.o];exact NI args ps (by have:=HN.o;have:=kJ.o;omega) fun i h1 h2=>mK.o i h1 h2 (by have:=kJ.o;omega))
   go_wp2_with fail
   go_ret;exact bW (by rw[HF.o]) gZ.o
 go_wp2_with fail
 clear f0 f1 f2 f3 f4 f5 ff e0 e1 e2 ef r0 r1 r2 rf kL;go_loopw [72] (aSg s f D false args ps pn w.heap.size (.cells #[.slice sa sn sc,.map (some bm),.slice fa fn fc] 183 (0,0)) (.cells #[.int .i64 8,.string name,.slice aw nw cw,lo,hi,.slice aa pn ca] 45 (0,0)) (.cells #[.bool false,.int .i64 (-1),.slice pa pn pc] 67 (0,0)) w) (fun i _=>pn - (intOf i).toNat)
 case atStart=>exact⟨0,rfl,by omega,fun j _ _ h=>by omega,iO.o,gG.o,fY.o,dm.o⟩
 case round =>
  obtain⟨k,rfl,hk,hall,hb0,hb1,hb2,lM⟩:=hrel;have mK:=ai hall;have gZ:=ai lM;obtain⟨e0,e1,e2,ef⟩:=dM hb0;obtain⟨r0,r1,r2,rf⟩:=dM hb2;have kL:=bS hb2;have Sa:=ai hb0;have mE:=ai hb1;have iP:=ai hb2;clear hall lM hb0 hb1 hb2;by_cases hkn:k<pn
  ·have hka:k<args.length:=by have:=kJ.o;omega
   have hkp:k<ps.length:=by have:=HN.o;omega
   have t1:=ag ((k:Int)<(pn:Int));obtain⟨xb,xo,rfl,nJ,nD,nG,nK,nE,nI,g0,g1,g2,g3,g4,g5,g6⟩:=eU.at args _ (eU.ext gZ.o args _ HX.o) k hka;have G6:=ai g6;obtain⟨b,off,q,rfl,hq,c0,c1,c2⟩:=H6.o k hkp
   replace c0:=gZ.o.cell c0
   replace c1:=gZ.o.cell c1
   replace c2:=gZ.o.cell c2
   have HPQ:=ai hq;have HVQ:=ai (fun xv W (hW:Ext w W) qV=>HV.o k hka xv ps[k] _ W (aD hkp) hW qV (HPQ.o.ext hW));have Yk:=ai hq.parts.1;obtain⟨qb,qk,qa,qn,qc⟩:=q;simp only at c0 c1 c2 Yk HVQ;obtain⟨B,hB⟩:∃B,B=wI s f D args[k] ps[k]:=⟨_,rfl⟩
   rw[<-hB] at HVQ;have jL:=ai hB;unfold fN at *;clear hB hq g6 HPQ;go_upto_region 9 with fail
   obtain⟨y,hy⟩:∃y:Nat,y=wr.heap.size:=⟨_,rfl⟩
   obtain⟨w1,hw1⟩:∃w1,w1=wr.alloc (.cells #[.int .i64 args[k].op,.string args[k].name,.slice nJ nD nG,.int .i64 args[k].lo,.int .i64 args[k].hi,.slice nK nE nI] 45):=⟨_,rfl⟩
   have hx1:Ext wr w1:=by rw[hw1];exact(Tz wr).alloc _
   have jm:=ai (show w1.heap[y]?=some (.cells #[.int .i64 args[k].op,.string args[k].name,.slice nJ nD nG,.int .i64 args[k].lo,.int .i64 args[k].hi,.slice nK nE nI] 45 (0,0)) by rw[hw1,hy];exact bR wr _);rw[<-hw1,<-hy];clear hw1 hy;have dI:=ai (gZ.o.trans hx1);have G61:=ai (G6.o.ext hx1);have HD0:=ai (hx1.blk Sa.o);have tU:=ai (hx1.blk mE.o);have pY:=ai (hx1.blk iP.o)
   replace c0:=hx1.cell c0
   replace c1:=hx1.cell c1
   replace c2:=hx1.cell c2
   clear e0 e1 e2 ef r0 r1 r2 rf g0 g1 g2 g3 g4 g5 kL hx1;obtain⟨e0,e1,e2,ef⟩:=dM HD0.o;obtain⟨r0,r1,r2,rf⟩:=dM pY.o;obtain⟨g0,g1,g2,g3,g4,g5,gf⟩:=cX jm.o;by_cases hqb:qb=false
   case neg =>
    obtain rfl:qb=true:=by simpa using hqb
    have HQ:=ai (show R=false by rw[nL.o];exact Ak k hka hkp fun h=>by have h1:=Yk.o;rw[h.2] at h1;cases h1);clear hqb;go_wp2_with fail
    go_quiet (fail)
    go_wp2_with fail
    go_ret;exact bW (by rw[HQ.o]) (dI.o.drewN _)
   subst hqb;go_wp2_with fail
   go_still_tail 17,(by kernel_rfl)
   change wpList _ _ _ _ _ w1.drew
   have hx2:Ext w1 w1.drew:=(Tz w1).drew;generalize w1.drew=w2 at hx2 ⊢;have dN:=ai (dI.o.trans hx2);have G62:=ai (G61.o.ext hx2);have aOG:=ai (hx2.blk HD0.o);have aOF:=ai (hx2.blk tU.o);have aOE:=ai (hx2.blk pY.o);clear hx2 e0 e1 e2 ef r0 r1 r2 rf g0 g1 g2 g3 g4 g5 gf c0 c1 c2;go_wp2_with fail
   refine(HVQ.o _ w2 dN.o G62.o).mono ?_;rintro r w3 ⟨rfl,hx3⟩;have dS:=ai (dN.o.trans hx3);have HE0:=ai (hx3.blk aOG.o);have ue:=ai (hx3.blk aOF.o);have kH:=ai (hx3.blk aOE.o);clear hx3;cases B
   ·have HQ:=ai (show R=false by rw[nL.o];exact Ak k hka hkp fun h=>by rw[<-jL.o] at h;exact a40 h.1 (by decide));go_wp2_with fail
    go_ret;exact bW (by rw[HQ.o]) dS.o
   go_wp2_with fail
   go_roundw
   case rel =>
    refine⟨k+1,by go_num,by omega,fun j hj1 hj2 hjk=>?_,HE0.o,ue.o,kH.o,dS.o⟩;by_cases e:j=k
    ·subst e;exact⟨jL.o.symm,Yk.o.symm⟩
    exact mK.o j hj1 hj2 (by omega)
   case measure=>simp[intOf];omega
  have t1:=ah ((k:Int)<(pn:Int));have HF:=ai (show R=true by
   rw[nL.o];exact NI args ps (by have:=HN.o;have:=kJ.o;omega) fun i h1 h2=>mK.o i h1 h2 (by have:=kJ.o;omega))
  go_wp2_with fail
  go_ret;exact bW (by rw[HF.o]) gZ.o
end Go.Proofs.YtefjomofjejklaaGreatDoor
