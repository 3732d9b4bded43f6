/-
  Texts of the claim, joined: RNode, RNodes, RExp, RBack, RBack2, RClause, MadeP, Grow3.
-/
import Derived.Test.YtefjomofjejklaaGreatDoorDx06
import Derived.StillTailTactics
namespace Go.Proofs.YtefjomofjejklaaGreatDoor
set_option maxRecDepth 100000
set_option maxHeartbeats 32000000
open Go.RowKit
theorem eH {w:World} {o:Obj} {n:Nat} (h:n=w.heap.size):(w.alloc o).heap[n]?=some o:=by subst h;exact dG w o
theorem FI:yw none=.tuple #[.int .i64 0,.bool false]:=rfl
theorem rY (i:Nat):yw (some i)=.tuple #[.int .i64 i,.bool true]:=rfl
theorem Qi {s:List Attr} {x:BA} {i:Nat} (h:iE s x=some i):i<s.length:=by
 unfold iE at h;rw[aP] at h;exact h.1
theorem fJ.cells {w:World} {s:List Attr} {a:OA} {n c:Nat} (h:fJ w s (.agg #[.slice a n c])) {i:Nat} (hi:i<s.length):∃b off aw nw cw,a=some ⟨b,off,none⟩/\w.cell? ⟨b,off+i*5,none⟩=some (.string s[i].name)/\w.cell? ⟨b,off+i*5+1,none⟩=some (.int .i64 s[i].kind) /\
  w.cell? ⟨b,off+i*5+2,none⟩=some (.slice aw nw cw)/\w.cell? ⟨b,off+i*5+3,none⟩=some (.int .i64 s[i].lo)/\w.cell? ⟨b,off+i*5+4,none⟩=some (.int .i64 s[i].hi)/\ji w s[i].words aw nw cw:=by
 obtain⟨a',n',c',e',_,_,_,hat⟩:=h.parts;simp only[Value.agg.injEq,Array.mk.injEq,List.cons.injEq,Value.slice.injEq,and_true] at e';obtain⟨rfl,rfl,rfl⟩:=e';obtain⟨b,off,rfl,aw,nw,cw,h0,h1,h2,h3,h4,h5⟩:=hat i hi;exact⟨b,off,aw,nw,cw,rfl,h0,h1,h2,h3,h4,h5⟩
theorem fJ.slice {w:World} {s:List Attr} {v:Value} (h:fJ w s v):∃a n c,v=.agg #[.slice a n c]/\n=s.length:=by
 obtain⟨a,n,c,rfl,hn,_⟩:=h.parts;exact⟨a,n,c,rfl,hn⟩
theorem aj1 (s:List Attr) (sv:Value) (l:List dY) (a:OA) (n c:Nat) (e:Ex) (ev:Value) (w:World) (hs:fJ w s sv) (hf:∀x∈s,x.fits) (hsl:s.length<=1000000000000000) (hl:eX w l a n c) (hn:n<=1000000000000000) (he:fC w e ev) (hew:e.words.length<=1000000000000000) :
  Calls Tryz.prog 123 #[sv,.slice a n c,ev] w (dN (.int .i64 (iR s l e.op e.name e.words e.lo e.hi)) w):=by
 obtain⟨sa,sn,sc,rfl,hsn⟩:=hs.slice;obtain⟨aw,nw,cw,aa,na,ca,rfl,hw,hna,hca,ha,hx⟩:=he.parts;have HS:=ak hs;have HF:=ak hf;have HL:=ak hl;have HW:=ak hw;have RY:=ak hsn;have HNW:=ak hw.1;have hnw:nw<=1000000000000000:=by rw[hw.1];exact hew
 have aUm:sn<=1000000000000000:=by omega
 clear hs hf hl hw hsn he hna hca ha hx hew;unfold exV;obtain⟨op,name,words,lo,hi,args⟩:=e;simp only[Ex.op,Ex.name,Ex.words,Ex.lo,Ex.hi] at *;obtain⟨wa,dW⟩:∃wa,wa=(w.alloc (.cells #[.slice sa sn sc] 24)).alloc (.cells (aC op name aw nw cw lo hi aa na ca) 45):=⟨_,rfl⟩
 have hxa:Ext w wa:=by rw[dW];exact((Ext.refl _).alloc _).alloc _
 have hb0:wa.heap[w.heap.size]?=some (.cells #[.slice sa sn sc] 24 (0,0)):=by rw[dW];exact dJ (dG w _)
 have hb1:wa.heap[w.heap.size+1]?=some (.cells (aC op name aw nw cw lo hi aa na ca) 45 (0,0)):=by rw[dW];exact eH (by simp)
 have HI:=ak (Fz s _ name wa (HS.o.ext hxa) (by have:=RY.o;omega));have fE:=ak hxa;have HB0:=ak hb0;have HB1:=ak hb1;clear hxa hb0 hb1;obtain⟨E,hE⟩:∃E,E=iR s l op name words lo hi:=⟨_,rfl⟩
 rw[<-hE];have HE:=ak hE;clear hE;cases ho:iE s name with
 | none =>
  rw[ho,FI] at HI;have HO:=ak ho;go_enter Tryz.func123,Tryz.ntmps123
  go_wp2_with fail
  rw[<-dW];refine HI.o.mono ?_;rintro r w3 ⟨rfl,hx3⟩;obtain⟨d0,df⟩:=gQ (hx3.blk HB0.o);obtain⟨f0,f1,f2,f3,f4,f5,ff⟩:=eP (hx3.blk HB1.o);have hlt:=dH (hx3.blk HB1.o);have gU:=ak (fE.o.trans hx3);clear hx3 ho HI;by_cases h3:op=3
  ·subst h3;cases hd:fG l name with
   | none =>
    have HR:=ak (show E=7 by rw[HE.o];simp[iR,HO.o,hd]);have HD:=ak (BP l a n c name w3 (HL.o.ext gU.o) hn);rw[hd,FI] at HD;clear hd;go_wp2_with fail
    refine HD.o.mono ?_;rintro r w4 ⟨rfl,rfl⟩;go_wp2_with fail
    go_ret;exact dP (by rw[HR.o]) gU.o
   | some d =>
    have HR:=ak (show E=0 by rw[HE.o];simp[iR,HO.o,hd]);have HD:=ak (BP l a n c name w3 (HL.o.ext gU.o) hn);rw[hd,rY] at HD;clear hd;go_wp2_with fail
    refine HD.o.mono ?_;rintro r w4 ⟨rfl,rfl⟩;go_wp2_with fail
    go_ret;exact dP (by rw[HR.o]) gU.o
  have e3:(op==3)=false:=by simp[h3]
  by_cases h4:op=4
  ·subst h4;have HR:=ak (show E=7 by rw[HE.o];simp[iR,HO.o]);go_wp2_with fail
   go_ret;exact dP (by rw[HR.o]) gU.o
  have e4:(op==4)=false:=by simp[h4]
  by_cases h5:op=5
  ·subst h5;have HR:=ak (show E=7 by rw[HE.o];simp[iR,HO.o]);go_wp2_with fail
   go_ret;exact dP (by rw[HR.o]) gU.o
  have e5:(op==5)=false:=by simp[h5]
  have HR:=ak (show E=0 by rw[HE.o];simp[iR,h3,h4,h5]);go_wp2_with fail
  go_ret;exact dP (by rw[HR.o]) gU.o
 | some i =>
  rw[ho,rY] at HI;have HO:=ak ho;have his:=Qi ho;have hin:i<sn:=by have:=RY.o;omega
  go_enter Tryz.func123,Tryz.ntmps123
  go_wp2_with fail
  rw[<-dW];refine HI.o.mono ?_;rintro r w3 ⟨rfl,hx3⟩;obtain⟨d0,df⟩:=gQ (hx3.blk HB0.o);obtain⟨f0,f1,f2,f3,f4,f5,ff⟩:=eP (hx3.blk HB1.o);have hlt:=dH (hx3.blk HB1.o);have gU:=ak (fE.o.trans hx3);have rX:=ak (hx3.blk HB1.o);obtain⟨sb,aTD,xw,xn,xc,rfl,g0,g1,g2,g3,g4,g5⟩:=(HS.o.ext gU.o).cells his;have HG5:=ak g5;have HGD:=ak (Dy his);have Zr:(0:Int)<=(i:Int):=by omega
  have ti1:(i:Int)<(sn:Int):=by omega
  have hfi:=HF.o _ (aI his);have hxn:xn<=1000000000000000:=by rw[g5.1];exact hfi.2.1
  clear hx3 ho HI g5 hfi;by_cases h3:op=3
  ·subst h3;have HD:=ak (BP l a n c name w3 (HL.o.ext gU.o) hn);by_cases hk:s[i].kind=3
   ·have tk:(s[i].kind != 3)=false:=by simp[hk]
    have HR:=ak (show E=0 by rw[HE.o];simp only[iR,if_true,HO.o,HGD.o];simp[hk]);clear hk;go_wp2_with fail
    refine HD.o.mono ?_;rintro r w4 ⟨rfl,rfl⟩;unfold yw;go_wp2_with fail
    go_ret;exact dP (by rw[HR.o]) gU.o
   have tk:(s[i].kind != 3)=true:=by simp[hk]
   have HR:=ak (show E=9 by rw[HE.o];simp only[iR,if_true,HO.o,HGD.o];simp[hk]);clear hk;go_wp2_with fail
   refine HD.o.mono ?_;rintro r w4 ⟨rfl,rfl⟩;unfold yw;go_wp2_with fail
   go_ret;exact dP (by rw[HR.o]) gU.o
  have e3:(op==3)=false:=by simp[h3]
  by_cases h4:op=4
  ·subst h4;by_cases hk:s[i].kind=1
   ·have tk:(s[i].kind != 1)=false:=by simp[hk]
    have HR:=ak (show E=if (words.all fun x=>s[i].words.any fun y=>decide (y=x))=false then 7 else 0 by rw[HE.o];simp only[iR,HO.o,HGD.o];simp[hk]);clear hk;go_upto_region 15 with fail
    obtain⟨wb,hwb⟩:∃wb,wb=w3.alloc (.cells #[.string s[i].name,.int .i64 s[i].kind,.slice xw xn xc,.int .i64 s[i].lo,.int .i64 s[i].hi] 101):=⟨_,rfl⟩
    rw[<-hwb];have hxb:Ext w3 wb:=by rw[hwb];exact(Ext.refl _).alloc _
    have hbb:wb.heap[w3.heap.size]?=some (.cells #[.string s[i].name,.int .i64 s[i].kind,.slice xw xn xc,.int .i64 s[i].lo,.int .i64 s[i].hi] 101 (0,0)):=by rw[hwb];exact dG w3 _
    have nZ:=ak hbb;have nM:=ak (hxb.blk rX.o);have HXB:=ak (gU.o.trans hxb);have HGB:=ak (HG5.o.ext hxb);have HWB:=ak (HW.o.ext HXB.o);clear hwb hxb hbb d0 df f0 f1 f2 f3 f4 f5 ff g0 g1 g2 g3 g4 HG5;go_wp2_with fail
    go_loopw [12] (fun t wr=>∃k:Nat,t=.int .i64 k/\k<=nw/\(∀j (h:j<words.length),j<k->(s[i].words.any fun y=>decide (y=words[j]))=true)/\Ext wb wr) (fun t _=>nw - (intOf t).toNat)
    case atStart=>exact⟨0,rfl,by omega,fun j _ h=>by omega,Ext.refl _⟩
    case round =>
     obtain⟨k,rfl,hk,hall,hxr⟩:=hrel;have qE:=ak hall;have kC:=ak hxr;obtain⟨p0,p1,p2,p3,p4,pf⟩:=awN (hxr.blk nZ.o);obtain⟨q0,q1,q2,q3,q4,q5,qf⟩:=eP (hxr.blk nM.o);clear hall hxr;by_cases hkn:k<nw
     ·have hkw:k<words.length:=by have:=HNW.o;omega
      have t1:=ah ((k:Int)<(nw:Int));obtain⟨wb',woff,rfl,cw0⟩:=(HWB.o.ext kC.o).2.2.2 k hkw;have tk0:(0:Int)<=(k:Int):=by omega
      have tk1:(k:Int)<(nw:Int):=by omega
      have HWI:=ak (fun (q:Nat)=>UF s[i].words xw xn xc words[k] (wr.drewN q) (HGB.o.ext (kC.o.drewN q)) hxn);cases hany:(s[i].words.any fun y=>decide (y=words[k]))
      ·have HA:=ak hany;rw[hany] at HWI;have HR2:=ak (show E=7 by
        rw[HR.o,dw];rw[List.all_eq_false];exact⟨words[k],aI hkw,by rw[hany];simp⟩)
       clear hany;go_wp2_with fail
       go_quiet ((go_at_call 158;exact Na (HWI.o _)))
       go_wp2_with fail
       go_ret;exact dP (by rw[HR2.o]) ((HXB.o.trans kC.o).drewN _)
      have HA:=ak hany;rw[hany] at HWI;clear hany;go_wp2_with fail
      go_quiet ((go_at_call 158;exact Na (HWI.o _)))
      go_wp2_with fail
      go_roundw
      case rel =>
       refine⟨k+1,by go_num,by omega,fun j hj hjk=>?_,kC.o.drewN _⟩;by_cases e:j=k
       ·subst e;exact HA.o
       exact qE.o j hj (by omega)
      case measure=>simp[intOf];omega
     have t1:=aj ((k:Int)<(nw:Int));have HR2:=ak (show E=0 by
      rw[HR.o,dh];rw[Bool.not_eq_false,aV];intro y hy;obtain⟨j,hj,rfl⟩:=bD.1 hy;exact qE.o j hj (by have:=HNW.o;omega))
     go_wp2_with fail
     go_ret;exact dP (by rw[HR2.o]) (HXB.o.trans kC.o)
   have tk:(s[i].kind != 1)=true:=by simp[hk]
   have HR:=ak (show E=9 by rw[HE.o];simp only[iR,HO.o,HGD.o];simp[hk]);clear hk;go_wp2_with fail
   go_ret;exact dP (by rw[HR.o]) (gU.o.alloc _)
  have e4:(op==4)=false:=by simp[h4]
  by_cases h5:op=5
  ·subst h5;by_cases hk:s[i].kind=2
   ·have tk:(s[i].kind != 2)=false:=by simp[hk]
    have HR:=ak (show E=if lo<s[i].lo\/s[i].hi<hi then 1 else 0 by rw[HE.o];simp only[iR,HO.o,HGD.o];simp[hk]);clear hk;go_wp2_with fail
    all_goals (go_ret;exact dP (by rw[HR.o];simp_all<;>omega) (gU.o.alloc _))
   have tk:(s[i].kind != 2)=true:=by simp[hk]
   have HR:=ak (show E=9 by rw[HE.o];simp only[iR,HO.o,HGD.o];simp[hk]);clear hk;go_wp2_with fail
   go_ret;exact dP (by rw[HR.o]) (gU.o.alloc _)
  have e5:(op==5)=false:=by simp[h5]
  have HR:=ak (show E=0 by rw[HE.o];simp[iR,h3,h4,h5]);go_wp2_with fail
  go_ret;exact dP (by rw[HR.o]) gU.o
theorem Oc (s:List Attr) (l:List dY) (hf:∀x∈s,x.fits) (hsl:s.length<=1000000000000000) (a:OA) (n c:Nat) (hn:n<=1000000000000000) (m:Nat):∀(e:Ex) (ev sv:Value) (w:World),e.size<=m->m<=1000000000000000->e.few->fJ w s sv->eX w l a n c->fC w e ev ->
  Calls Tryz.prog 92 #[sv,.slice a n c,ev] w (dN (.int .i64 (fB s l e)) w):=by
 induction m with
 | zero=>intro e ev sv w h;have:=size_pos e;omega
 | succ m ih =>
  intro e ev sv w hm YJ hfew hs hl he;obtain⟨sa,sn,sc,rfl,hsn⟩:=hs.slice;have HN0:=ak (aj1 s (.agg #[.slice sa sn sc]) l a n c e ev);obtain⟨hfw,hfa⟩:=wK hfew;obtain⟨aw,nw,cw,aa,na,ca,rfl,hw,hna,hca,ha,hx⟩:=he.parts;have hS:e.size=1+sizes e.args:=e.size_eq;have hla:=iI e.args;have Q9:na<=1000000000000000:=by omega
  have hsz:sizes e.args<=m:=by omega
  have HE:=ak he;have HS:=ak hs;have HL:=ak hl;have HX:=ak hx;have nK:=ak hna;have HF:=ak hf;have Kv:=ak hfw;have Gh:=ak hfa;have MQ:=ak (EI s l e);have IH:=ak ih;clear hs hl he hx hna hw hca ha hS hla hsn hfw hfa hfew ih hf hm;unfold exV at *;obtain⟨wa,dW⟩:∃wa,wa=(w.alloc (.cells #[.slice sa sn sc] 24)).alloc (.cells (aC e.op e.name aw nw cw e.lo e.hi aa na ca) 45):=⟨_,rfl⟩
  have hxa:Ext w wa:=by rw[dW];exact((Ext.refl _).alloc _).alloc _
  have hb0:wa.heap[w.heap.size]?=some (.cells #[.slice sa sn sc] 24 (0,0)):=by rw[dW];exact dJ (dG w _)
  have hb1:wa.heap[w.heap.size+1]?=some (.cells (aC e.op e.name aw nw cw e.lo e.hi aa na ca) 45 (0,0)):=by rw[dW];exact eH (by simp)
  have fE:=ak hxa;have HB0:=ak hb0;have HB1:=ak hb1;clear hxa hb0 hb1;go_enter Tryz.func92,Tryz.ntmps92
  go_wp2_with fail
  rw[<-dW];refine(HN0.o wa (HS.o.ext fE.o) HF.o hsl (HL.o.ext fE.o) hn (HE.o.ext fE.o) Kv.o).mono ?_;rintro r w1 ⟨rfl,hx1⟩;have fQ:=ak (fE.o.trans hx1);have abl:=ak (hx1.blk HB0.o);have uh:=ak (hx1.blk HB1.o);clear hx1 dW;obtain⟨E,hE⟩:∃E,E=iR s l e.op e.name e.words e.lo e.hi:=⟨_,rfl⟩
  rw[<-hE];rw[<-hE] at MQ;clear hE;by_cases hz:E=0
  ·have tz:(E != 0)=false:=by simp[hz]
   have HQ:=ak (show fB s l e=gW s l e.args by rw[MQ.o,dh (by simp[hz])]);clear hz;go_wp2_with fail
   go_loopw [8] (fun t wr=>∃k:Nat,t=.int .i64 k/\k<=na/\(∀j (h:j<e.args.length),j<k->fB s l e.args[j]=0)/\Ext w1 wr) (fun t _=>na - (intOf t).toNat)
   case atStart=>exact⟨0,rfl,by omega,fun j _ h=>by omega,Ext.refl _⟩
   case round =>
    obtain⟨k,rfl,hk,hno,hxr⟩:=hrel;have lZ:=ak hno;have kC:=ak (fQ.o.trans hxr);have a1H:=ak hxr;obtain⟨d0,df⟩:=gQ (hxr.blk abl.o);obtain⟨f0,f1,f2,f3,f4,f5,ff⟩:=eP (hxr.blk uh.o);clear hno hxr;by_cases hkn:k<na
    ·have hka:k<e.args.length:=by have:=nK.o;omega
     have t1:=ah ((k:Int)<(na:Int));obtain⟨b,off,rfl,rJ,rF,rH,rM,rG,ca1,h0,h1,h2,h3,h4,h5,h6⟩:=iK.at e.args _ (iK.ext kC.o e.args _ HX.o) k hka;have H6:=ak h6;have hs1:=iq e.args k hka;have hs2:=gV e.args (k+1);have hk1:e.args[k].size<=m:=by omega
     have Zr:(0:Int)<=(k:Int):=by omega
     have ti1:(k:Int)<(na:Int):=by omega
     clear h6 hs1 hs2;go_wp2_with fail
     go_still_tail 7,(by kernel_rfl)
     change wpList _ _ _ _ _ wr.drew
     have hx2:Ext wr wr.drew:=(Ext.refl wr).drew;generalize wr.drew=w2 at hx2 ⊢;have gI:=ak (kC.o.trans hx2);have xW:=ak (a1H.o.trans hx2);have H62:=ak (H6.o.ext hx2);clear hx2 d0 df f0 f1 f2 f3 f4 f5 ff h0 h1 h2 h3 h4 h5;go_wp2_with fail
     refine(IH.o e.args[k] _ _ w2 hk1 (by omega) (LD _ Gh.o k hka) (HS.o.ext gI.o) (HL.o.ext gI.o) H62.o).mono ?_;rintro r w3 ⟨rfl,hx3⟩;have gU:=ak (gI.o.trans hx3);have RX:=ak (xW.o.trans hx3);clear hx3;by_cases hz:fB s l e.args[k]=0
     ·have tz:(fB s l e.args[k] != 0)=false:=by simp[hz]
      have HZ:=ak hz;clear hz;go_wp2_with fail
      go_roundw
      case rel =>
       refine⟨k+1,by go_num,by omega,fun j hj hjk=>?_,RX.o⟩;by_cases e':j=k
       ·subst e';exact HZ.o
       exact lZ.o j hj (by omega)
      case measure=>simp[intOf];omega
     have tz:(fB s l e.args[k] != 0)=true:=by simp[hz]
     have HR:=ak (show fB s l e=fB s l e.args[k] by rw[HQ.o];exact MI e.args k hka hz fun j hj=>lZ.o j (by omega) hj);clear hz;go_wp2_with fail
     go_ret;exact dP (by rw[HR.o]) gU.o
    have t1:=aj ((k:Int)<(na:Int));have HR:=ak (show fB s l e=0 by rw[HQ.o,yG];intro j hj;exact lZ.o j hj (by have:=nK.o;omega));go_wp2_with fail
    go_ret;exact dP (by rw[HR.o]) kC.o
  have tz:(E != 0)=true:=by simp[hz]
  have HQ:=ak (show fB s l e=E by rw[MQ.o,dw hz]);clear hz;go_wp2_with fail
  go_ret;exact dP (by rw[HQ.o]) fQ.o
theorem aEg {l:List dY} {s:BA} {d:Nat} (h:fG l s=some d):d<l.length:=by
 unfold fG at h;rw[aP] at h;exact h.1
def Zu (l:List dY) (f:Nat):BA->Option Nat:=fun s=>(fG l s).map fun d=>mG l f (l.getD d iT).cond
theorem mW (l:List dY) (f:Nat) (e:Ex):mG l (f+1) e=Bf (Zu l f) e:=rfl
def aY0 (D:BA->Option Nat) (base na:Nat) (args:List Ex) (w1:World) (t i:Value) (wr:World):Prop:=∃k:Nat,i=.int .i64 k/\k<=na/\t=.int .i64 ((base+qB D (args.take k):Nat):Int)/\base+qB D (args.take k)<=4001/\Ext w1 wr
theorem aBm {D:BA->Option Nat} {base k:Nat} {args:List Ex} (h:2000<base+qB D (args.take k)\/args.length<=k):min (base+qB D (args.take k)) 2001=min (base+qB D args) 2001:=by
 rcases h with h|h
 ·have:=afo D args k;omega
 rw[aY h]
theorem ayx (l:List dY) (a:OA) (n c:Nat) (hn:n<=1000000) (hsz:∀x∈l,x.cond.size<=1000000000000000):∀(f m:Nat) (e:Ex) (ev:Value) (w:World) (d:Nat),f+d=n+1->e.size<=m->m<=1000000000000000->eX w l a n c->fC w e ev ->
  Calls Tryz.prog 126 #[.slice a n c,ev,.int .i64 d] w (dN (.int .i64 (mG l f e)) w):=by
 intro f;induction f with
 | zero =>
  intro m e ev w d hd hm YJ hl he;obtain⟨aw,nw,cw,aa,na,ca,rfl,hw,hna,hca,ha,hx⟩:=he.parts;have t0:=ah (n<d);have HR:=ak (show mG l 0 e=2001 from rfl);clear hw hna hca ha hx he hl;unfold exV;go_enter Tryz.func126,Tryz.ntmps126
  go_wp2_with fail
  go_ret;exact dP (by rw[HR.o];rfl) ((Ext.refl w).alloc _)
 | succ f ihf =>
  intro m;induction m with
  | zero=>intro e ev w d _ h;have:=size_pos e;omega
  | succ m ihm =>
   intro e ev w d hd hm YJ hl he;obtain⟨aw,nw,cw,aa,na,ca,rfl,hw,hna,hca,ha,hx⟩:=he.parts;have hS:e.size=1+sizes e.args:=e.size_eq;have hla:=iI e.args;have Q9:na<=1000000000000000:=by omega
   have aHm:sizes e.args<=m:=by omega
   have hdn:d<=n:=by omega
   have t0:=aj (n<d);have HL:=ak hl;have Bg:=ak hl.len;have HX:=ak hx;have nK:=ak hna;have zN:=ak hsz;have MQ:=ak (show mG l (f+1) e=min ((if e.op=3 then (Zu l f e.name).getD 1 else 1)+qB (Zu l f) e.args) 2001 by rw[mW,Ub]);have IHM:=ak ihm;have IHF:=ak ihf;have HD:=ak hd;clear hw hna hca ha hx he hl hS hla ihm ihf hm hd;unfold exV;obtain⟨wa,dW⟩:∃wa,wa=w.alloc (.cells (aC e.op e.name aw nw cw e.lo e.hi aa na ca) 45):=⟨_,rfl⟩
   have hxa:Ext w wa:=by rw[dW];exact(Ext.refl _).alloc _
   have hb1:wa.heap[w.heap.size]?=some (.cells (aC e.op e.name aw nw cw e.lo e.hi aa na ca) 45 (0,0)):=by rw[dW];exact dG w _
   have fE:=ak hxa;have HB1:=ak hb1;obtain⟨f0,f1,f2,f3,f4,f5,ff⟩:=eP hb1;have nP:=dH hb1;clear hxa hb1;by_cases hdef:e.op=3/\(fG l e.name).isSome=true
   ·obtain⟨h3,hds⟩:=hdef;obtain⟨dd,hdd⟩:=Option.isSome_iff_exists.1 hds;have t3:(e.op==3)=true:=by simp[h3]
    obtain⟨base,hbase⟩:∃base,base=mG l f (l.getD dd iT).cond:=⟨_,rfl⟩
    have hbl:base<=2001:=by rw[hbase];exact afp _ _ _
    have HQ:=ak (show mG l (f+1) e=min (base+qB (Zu l f) e.args) 2001 by rw[MQ.o,dw h3,hbase];simp[Zu,hdd]);have aQi:=aEg hdd;have a7s:dd<n:=by have:=Bg.o;omega
    have HDC:=ak (BP l a n c e.name wa (HL.o.ext fE.o) (by omega));rw[hdd,rY] at HDC;obtain⟨cb,oZ,v,rfl,jr,hrow⟩:=(HL.o.ext fE.o).at aQi;obtain⟨c0,c1,c2,c3,c4,c5,c6,c7,c8,c9⟩:=hrow.ten;have Us:=ak jr.2.2.1;have hgd:l.getD dd iT=l[dd]:=by simp[aQi]
    rw[hgd] at hbase;have PU:=ak hbase;clear MQ hds hdd h3 jr hrow hbase hgd c0 c1 c8 c9;go_enter Tryz.func126,Tryz.ntmps126
    go_wp2_with fail
    rw[<-dW];clear dW;refine HDC.o.mono ?_;rintro r w1 ⟨rfl,rfl⟩;go_wp2_with fail
    have hd1:f+(d+1)=n+1:=by have:=HD.o;omega
    have hcs:=zN.o l[dd] (aI aQi);refine(IHF.o 1000000000000000 l[dd].cond _ _ (d+1) hd1 hcs (by omega) (HL.o.ext fE.o) Us.o).mono ?_;rw[<-PU.o];rintro r w2 ⟨rfl,hx2⟩;have gI:=ak (fE.o.trans hx2);have HB2:=ak (hx2.blk HB1.o);clear hx2 f0 f1 f2 f3 f4 f5 ff c2 c3 c4 c5 c6 c7;go_wp2_with fail
    go_loopw [9,10] (aY0 (Zu l f) base na e.args w2) (fun _ i _=>na - (intOf i).toNat)
    case atStart=>exact⟨0,rfl,by omega,by simp[qB],by simp[qB];omega,Ext.refl _⟩
    case round =>
     obtain⟨k,rfl,hk,rfl,hle,hxr⟩:=hrel;have kC:=ak hxr;obtain⟨f0,f1,f2,f3,f4,f5,ff⟩:=eP (hxr.blk HB2.o);clear hxr;obtain⟨N,hN⟩:∃N,N=base+qB (Zu l f) (e.args.take k):=⟨_,rfl⟩
     rw[<-hN] at hle ⊢;have Aj:=ak hN;clear hN;by_cases hgo:k<na/\N<=2000
     ·obtain⟨hkn,hN2⟩:=hgo;have hka:k<e.args.length:=by have:=nK.o;omega
      have t1:=ah ((k:Int)<(na:Int));have t2:=ah ((N:Int)<=2000);obtain⟨b,off,rfl,rJ,rF,rH,rM,rG,ca1,h0,h1,h2,h3,h4,h5,h6⟩:=iK.at e.args _ (iK.ext (gI.o.trans kC.o) e.args _ HX.o) k hka;have H6:=ak h6;have hs1:=iq e.args k hka;have hs2:=gV e.args (k+1);have hk1:e.args[k].size<=m:=by omega
      have Iq:=ak (Rl (Zu l f) e.args k hka);have hel:=aiQ (Zu l f) e.args[k];clear h6 hs1 hs2;go_wp2_with fail
      refine(IHM.o e.args[k] _ _ d HD.o hk1 (by omega) (HL.o.ext (gI.o.trans kC.o)) H6.o).mono ?_;rw[mW];rintro r w3 ⟨rfl,hx3⟩;have gU:=ak (kC.o.trans hx3);clear hx3 h0 h1 h2 h3 h4 h5 f0 f1 f2 f3 f4 f5 ff;go_wp2_with fail
      go_roundw
      case rel=>exact⟨k+1,by go_num,by omega,by rw[Iq.o,<-Nat.add_assoc,<-Aj.o];go_num,by rw[Iq.o,<-Nat.add_assoc,<-Aj.o];omega,gU.o⟩
      case measure=>simp[intOf];omega
     have HR:=ak (show (min N 2001:Nat)=mG l (f+1) e by
      rw[HQ.o,Aj.o];exact aBm (by
       rw[<-Aj.o];by_cases h:k<na
       ·exact Or.inl (by have:=fun h2=>hgo ⟨h,h2⟩;omega)
       exact Or.inr (by have:=nK.o;omega)))
     have hX:=gI.o.trans kC.o;have NR:=ak hX;clear hX;by_cases hkn:k<na
     ·have t1:=ah ((k:Int)<(na:Int));have t2:=aj ((N:Int)<=2000);clear hgo;go_wp2_with fail
      all_goals (go_ret;exact dP (by rw[<-HR.o];omega) NR.o)
     have t1:=aj ((k:Int)<(na:Int));clear hgo;go_wp2_with fail
     all_goals (go_ret;exact dP (by rw[<-HR.o];omega) NR.o)
   have HQ:=ak (show mG l (f+1) e=min (1+qB (Zu l f) e.args) 2001 by
    rw[MQ.o];by_cases h3:e.op=3
    ·rw[dw h3];have:fG l e.name=none:=by
      cases hd:fG l e.name with
      | none=>rfl
      | some q=>exact absurd ⟨h3,by rw[hd];rfl⟩ hdef
     simp[Zu,this]
    rw[dh h3])
   clear MQ;by_cases h3:e.op=3
   case' pos =>
    have aUZ:fG l e.name=none:=by
     cases hd:fG l e.name with
     | none=>rfl
     | some q=>exact absurd ⟨h3,by rw[hd];rfl⟩ hdef
    have t3:(e.op==3)=true:=by simp[h3]
    have HDC:=ak (BP l a n c e.name wa (HL.o.ext fE.o) (by omega));rw[aUZ,FI] at HDC;clear aUZ h3 hdef;go_enter Tryz.func126,Tryz.ntmps126
    go_wp2_with fail
    rw[<-dW];clear dW;refine HDC.o.mono ?_;rintro r w1 ⟨rfl,rfl⟩;clear HDC;go_wp2_with fail
   case' neg =>
    have t3:(e.op==3)=false:=by simp[h3]
    clear h3 hdef;go_enter Tryz.func126,Tryz.ntmps126
    go_wp2_with fail
    rw[<-dW];clear dW
   all_goals
    clear f0 f1 f2 f3 f4 f5 ff;go_loopw [11,12] (aY0 (Zu l f) 1 na e.args wa) (fun _ i _=>na - (intOf i).toNat)
    case atStart=>exact⟨0,rfl,by omega,by simp[qB],by simp[qB],Ext.refl _⟩
    case round =>
     obtain⟨k,rfl,hk,rfl,hle,hxr⟩:=hrel;have kC:=ak hxr;obtain⟨f0,f1,f2,f3,f4,f5,ff⟩:=eP (hxr.blk HB1.o);clear hxr;obtain⟨N,hN⟩:∃N,N=1+qB (Zu l f) (e.args.take k):=⟨_,rfl⟩
     rw[<-hN] at hle ⊢;have Aj:=ak hN;clear hN;by_cases hgo:k<na/\N<=2000
     ·obtain⟨hkn,hN2⟩:=hgo;have hka:k<e.args.length:=by have:=nK.o;omega
      have t1:=ah ((k:Int)<(na:Int));have t2:=ah ((N:Int)<=2000);obtain⟨b,off,rfl,rJ,rF,rH,rM,rG,ca1,h0,h1,h2,h3,h4,h5,h6⟩:=iK.at e.args _ (iK.ext (fE.o.trans kC.o) e.args _ HX.o) k hka;have H6:=ak h6;have hs1:=iq e.args k hka;have hs2:=gV e.args (k+1);have hk1:e.args[k].size<=m:=by omega
      have Iq:=ak (Rl (Zu l f) e.args k hka);have hel:=aiQ (Zu l f) e.args[k];clear h6 hs1 hs2;go_wp2_with fail
      refine(IHM.o e.args[k] _ _ d HD.o hk1 (by omega) (HL.o.ext (fE.o.trans kC.o)) H6.o).mono ?_;rw[mW];rintro r w3 ⟨rfl,hx3⟩;have gU:=ak (kC.o.trans hx3);clear hx3 h0 h1 h2 h3 h4 h5 f0 f1 f2 f3 f4 f5 ff;go_wp2_with fail
      go_roundw
      case rel=>exact⟨k+1,by go_num,by omega,by rw[Iq.o,<-Nat.add_assoc,<-Aj.o];go_num,by rw[Iq.o,<-Nat.add_assoc,<-Aj.o];omega,gU.o⟩
      case measure=>simp[intOf];omega
     have HR:=ak (show (min N 2001:Nat)=mG l (f+1) e by
      rw[HQ.o,Aj.o];exact aBm (by
       rw[<-Aj.o];by_cases h:k<na
       ·exact Or.inl (by have:=fun h2=>hgo ⟨h,h2⟩;omega)
       exact Or.inr (by have:=nK.o;omega)))
     have hX:=fE.o.trans kC.o;have NR:=ak hX;clear hX;by_cases hkn:k<na
     ·have t1:=ah ((k:Int)<(na:Int));have t2:=aj ((N:Int)<=2000);clear hgo;go_wp2_with fail
      all_goals (go_ret;exact dP (by rw[<-HR.o];omega) NR.o)
     have t1:=aj ((k:Int)<(na:Int));clear hgo;go_wp2_with fail
     all_goals (go_ret;exact dP (by rw[<-HR.o];omega) NR.o)
theorem zy (l:List dY) (a:OA) (n c:Nat) (hn:n<=1000000) (hsz:∀x∈l,x.cond.size<=1000000000000000) (e:Ex) (ev:Value) (w:World) (he:e.size<=1000000000000000) (hl:eX w l a n c) (hx:fC w e ev) :
  Calls Tryz.prog 95 #[.slice a n c,ev] w (dN (.int .i64 (expanded l e)) w):=by
 have HL:=ak hl;have HX:=ak hx;have Bg:=ak hl.len;obtain⟨aw,nw,cw,aa,na,ca,rfl,-,-,-,-,-⟩:=hx.parts;have HC:=ak (ayx l a n c hn hsz (n+1) 1000000000000000 e (exV e.op e.name aw nw cw e.lo e.hi aa na ca));clear hl hx;unfold exV at *;go_enter Tryz.func95,Tryz.ntmps95
 go_wp2_with fail
 refine(HC.o _ 0 (by omega) he (by omega) (HL.o.ext ((Ext.refl w).alloc _)) (HX.o.ext ((Ext.refl w).alloc _))).mono ?_;rintro r w1 ⟨rfl,hx1⟩;have fQ:=ak (((Ext.refl w).alloc _).trans hx1);clear hx1;go_wp2_with fail
 go_ret;exact dP (by rw[expanded,Bg.o]) fQ.o
def qU:List Wb->Nat
 | []=>0
 | .mk _ _ u::r=>1+qU u+qU r
theorem Gn:(l:List Wb)->(k:Nat)->(hk:k<l.length)->qU l[k].jZ+1<=qU l
 | [],k,hk=>by simp at hk
 | .mk n c u::r,0,_=>by simp only[bP,Wb.jZ,qU];omega
 | .mk n c u::r,k+1,hk=>by
  have:=Gn r k (by simpa using hk);simp only[List.getElem_cons_succ,qU];omega
theorem wI:(l:List Wb)->l.length<=qU l
 | []=>by simp[qU]
 | .mk n c u::r=>by have:=wI r;simp only[List.length_cons,qU];omega
def JW:List Wb->Nat
 | []=>0
 | .mk _ _ u::r=>min (kK u) 41+JW r
theorem aBC:(l:List Wb)->kK l=l.length+JW l
 | []=>by simp[kK,JW]
 | .mk n c u::r=>by rw[kK,JW,aBC r];simp;omega
theorem YQ:(l:List Wb)->(k:Nat)->(hk:k<l.length)->JW (l.take (k+1))=JW (l.take k)+min (kK l[k].jZ) 41
 | [],k,hk=>by simp at hk
 | .mk n c u::r,0,_=>by simp[JW,Wb.jZ]
 | .mk n c u::r,k+1,hk=>by
  have:=YQ r k (by simpa using hk);simp[JW] at this ⊢;omega
theorem ac3:(l:List Wb)->(k:Nat)->JW (l.take k)<=JW l
 | [],k=>by simp[JW]
 | .mk n c u::r,0=>by simp[JW]
 | .mk n c u::r,k+1=>by have:=ac3 r k;simp[JW];omega
def Vg:List Wb->Prop
 | []=>True
 | .mk n c u::r=>n.size<=1000000000000000/\c.fits/\c.few/\c.size<=1000000000000000/\Vg u/\Vg r
theorem aqo:(l:List Wb)->Vg l->(k:Nat)->(hk:k<l.length)->l[k].name.size<=1000000000000000/\l[k].cond.fits/\l[k].cond.few/\l[k].cond.size<=1000000000000000/\Vg l[k].jZ
 | [],_,k,hk=>by simp at hk
 | .mk n c u::r,h,0,_=>by rw[Vg] at h;exact⟨h.1,h.2.1,h.2.2.1,h.2.2.2.1,h.2.2.2.2.1⟩
 | .mk n c u::r,h,k+1,hk=>by rw[Vg] at h;simpa using aqo r h.2.2.2.2.2 k (by simpa using hk)
def su:List Wb->Prop
 | []=>True
 | .mk n c u::r=>n.size<=1000000000000000/\c.fits/\c.few/\c.Ar/\u.length<=1000000000000000/\su u/\su r
def Wb.fit (x:Wb):Prop:=x.name.size<=1000000000000000/\x.cond.fits/\x.cond.few/\x.cond.Ar/\x.jZ.length<=1000000000000000/\su x.jZ
theorem abo:(l:List Wb)->su l->(k:Nat)->(hk:k<l.length)->l[k].fit
 | [],_,k,hk=>by simp at hk
 | .mk n c u::r,h,0,_=>by rw[su] at h;exact⟨h.1,h.2.1,h.2.2.1,h.2.2.2.1,h.2.2.2.2.1,h.2.2.2.2.2.1⟩
 | .mk n c u::r,h,k+1,hk=>by rw[su] at h;simpa using abo r h.2.2.2.2.2.2 k (by simpa using hk)
theorem BG:(l:List Wb)->Vg l->qU l<=1000000000000000->su l
 | [],_,_=>by unfold su;trivial
 | .mk n c u::r,h,hn=>by
  rw[Vg] at h;rw[qU] at hn;have hu:=wI u;unfold su;exact⟨h.1,h.2.1,h.2.2.1,kT c h.2.2.2.1,by omega,BG u h.2.2.2.2.1 (by omega),BG r h.2.2.2.2.2 (by omega)⟩
theorem aq0 (m:Nat):∀(l:List Wb) (a:OA) (n c:Nat) (w:World),qU l<=m->n<=1000000000000000->su l->jJ w l a->n=l.length ->
  Calls Tryz.prog 121 #[.slice a n c] w (Gives (.int .i64 (min (kK l) 41:Nat)) w):=by
 induction m with
 | zero =>
  intro l a n c w hm hn2 hfit hd hn;have hl:=wI l;have:l=[]:=aX (by omega);subst this;subst hn;have HR:=ak (show (min (kK []) 41:Nat)=0 by simp[kK]);generalize (min (kK []) 41:Nat)=R at *;clear hd hfit;go_enter Tryz.func121,Tryz.ntmps121
  go_wp2_with fail
  go_loop [3,4] (fun t i=>t=.int .i64 0/\i=.int .i64 0) (fun _ _=>0)
  case atStart=>exact⟨rfl,rfl⟩
  case round =>
   obtain⟨rfl,rfl⟩:=hrel;go_wp2_with fail
   all_goals (go_ret;exact⟨by rw[HR.o];rfl,rfl⟩)
 | succ m ih =>
  intro l a n c w hm hn2 hfit hd hn;have HFT:=ak hfit;have HD:=ak hd;have HN:=ak hn;have IH:=ak ih;have HCS:=ak (aBC l);clear hd hn ih hfit;go_enter Tryz.func121,Tryz.ntmps121
  go_wp2_with fail
  go_loop [3,4] (fun t i=>∃k:Nat,i=.int .i64 k/\k<=n/\t=.int .i64 ((n+JW (l.take k):Nat):Int)/\(k=0\/n+JW (l.take k)<=81)) (fun _ i=>n - (intOf i).toNat)
  case atStart=>exact⟨0,rfl,by omega,by simp[JW],Or.inl rfl⟩
  case round =>
   obtain⟨k,rfl,hk,rfl,hle⟩:=hrel;have hk0:JW (l.take k)<=81:=by
    rcases hle with h|h
    ·subst h;simp[JW]
    omega
   obtain⟨N,hN⟩:∃N,N=n+JW (l.take k):=⟨_,rfl⟩
   rw[<-hN];have hNb:N<=1000000000000081:=by omega
   have Aj:=ak hN;clear hN hle;by_cases hgo:k<n/\N<=40
   ·obtain⟨hkn,a7V⟩:=hgo;have hkl:k<l.length:=by have:=HN.o;omega
    have t1:=ah ((k:Int)<(n:Int));have t2:=ah ((N:Int)<=40);obtain⟨b,off,rfl,v,hv0,hrow,hv2,hv3,hv4,hv5,hv6⟩:=jJ.at l _ HD.o k hkl;obtain⟨c0,c1,c2,c3,c4,c5,c6,c7⟩:=hrow.eight;have hwn:=Gn l k hkl;have HU:=ak hv6;have HUN:=ak hv3;have hft:=abo l HFT.o k hkl;have hvn:v.nu<=1000000000000000:=by rw[hv3];exact hft.2.2.2.2.1
    have HFU:=ak hft.2.2.2.2.2;have Iq:=ak (YQ l k hkl);clear hrow hv0 hv2 hv3 hv4 hv5 hv6 hft;go_wp2_with fail
    refine(IH.o l[k].jZ _ _ _ w (by omega) hvn HFU.o HU.o HUN.o).mono ?_;rintro r w1 ⟨rfl,rfl⟩;obtain⟨M,hM⟩:∃M,M=(min (kK l[k].jZ) 41:Nat):=⟨_,rfl⟩
    have hMl:M<=41:=by omega
    rw[<-hM];rw[<-hM] at Iq;clear hM;go_wp2_with fail
    go_round
    case rel=>exact⟨k+1,by go_num,by omega,by rw[Iq.o,<-Nat.add_assoc,<-Aj.o];go_num,Or.inr (by rw[Iq.o,<-Nat.add_assoc,<-Aj.o];omega)⟩
    case measure=>simp[intOf];omega
   have HR:=ak (show (min (kK l) 41:Nat)=min N 41 by
    have h1:=HCS.o;have h2:=HN.o;have h3:=Aj.o;by_cases h:k<n
    ·have h4:40<N:=by have:=fun h2=>hgo ⟨h,h2⟩;omega
     have h5:=ac3 l k;omega
    have e:l.take k=l:=aY (by omega);rw[e] at h3;omega)
   generalize (min (kK l) 41:Nat)=R at *;by_cases hkn:k<n
   ·have t1:=ah ((k:Int)<(n:Int));have t2:=aj ((N:Int)<=40);clear hgo;go_wp2_with fail
    all_goals (go_ret;exact⟨congrArg (fun z:Int=>Ending.returned (.int .i64 z)) (by have:=HR.o;omega),rfl⟩)
   have t1:=aj ((k:Int)<(n:Int));clear hgo;go_wp2_with fail
   all_goals (go_ret;exact⟨congrArg (fun z:Int=>Ending.returned (.int .i64 z)) (by have:=HR.o;omega),rfl⟩)
def aaD (d:Nat) (x:Wb):Bool:=nameB x.name&&iL x.cond&&pW (d - 1) x.jZ
theorem ag7 (d:Nat):(l:List Wb)->pW d l=((decide (l.length=0)||decide (d≠0))&&l.all (aaD d))
 | []=>by simp[pW]
 | .mk n c u::r=>by
  rw[pW,ag7 d r];simp only[List.length_cons,List.all_cons,aaD,Wb.name,Wb.cond,Wb.jZ];by_cases hd:d=0
  ·simp[hd]
  simp[hd,Bool.and_assoc]
theorem jg {a b:Bool} {w w':World} (h:a=b) (hx:Ext w w'):dN (.bool b) w (.returned (.bool a)) w':=by subst h;exact⟨rfl,hx⟩
theorem aq1 (m:Nat):∀(l:List Wb) (a:OA) (n c d:Nat) (w:World),qU l<=m->n<=1000000000000000->su l->d<=1000->jJ w l a->n=l.length ->
  Calls Tryz.prog 122 #[.slice a n c,.int .i64 d] w (dN (.bool (pW d l)) w):=by
 induction m with
 | zero =>
  intro l a n c d w hm hn2 hok hd hD hn;have hl:=wI l;have:l=[]:=aX (by omega);subst this;subst hn;have HR:=ak (show pW d []=true by simp[pW]);generalize pW d []=R at *;clear hD hok;go_enter Tryz.func122,Tryz.ntmps122
  go_wp2_with fail
  go_loop [5] (fun t=>t=.int .i64 0) (fun _=>0)
  case atStart=>exact rfl
  case round =>
   subst hrel;go_wp2_with fail
   all_goals (go_ret;exact jg (by rw[HR.o]) (Ext.refl _))
 | succ m ih =>
  intro l a n c d w hm hn2 hok hd hD hn;have HD:=ak hD;have HN:=ak hn;have Ej:=ak hok;have IH:=ak ih;have HQ:=ak (ag7 d l);clear hD hn ih hok;obtain⟨R,hR⟩:∃R,R=pW d l:=⟨_,rfl⟩
  rw[<-hR];rw[<-hR] at HQ;clear hR;by_cases h0:0<n/\d=0
  ·obtain⟨hn0,hd0⟩:=h0;have t0:=ah ((0:Int)<(n:Int));have HR:=ak (show R=false by rw[HQ.o,<-HN.o,hd0];simp;intro h;omega);subst hd0;go_enter Tryz.func122,Tryz.ntmps122
   go_wp2_with fail
   go_ret;exact jg (by rw[HR.o]) (Ext.refl _)
  have HQ2:=ak (show R=l.all (aaD d) by
   rw[HQ.o];by_cases h:n=0
   ·have:l=[]:=aX (by have:=HN.o;omega);subst this;simp
   have hd1:d≠0:=fun e=>h0 ⟨by omega,e⟩
   simp[hd1])
  clear HQ;by_cases hn0:0<n
  case neg =>
   obtain rfl:n=0:=by omega
   have hl0:l=[]:=aX HN.o.symm;have HR:=ak (show R=true by rw[HQ2.o,hl0];rfl);clear h0 hl0 hn0;go_enter Tryz.func122,Tryz.ntmps122
   go_wp2_with fail
   go_loop [5] (fun t=>t=.int .i64 0) (fun _=>0)
   case atStart=>exact rfl
   case round =>
    subst hrel;go_wp2_with fail
    all_goals (go_ret;exact jg (by rw[HR.o]) (Ext.refl _))
  case pos =>
   have t0:=ah ((0:Int)<(n:Int));have td:((d:Int)==0)=false:=by have:=fun e=>h0 ⟨hn0,e⟩;simp;omega
   go_enter Tryz.func122,Tryz.ntmps122
   go_wp2_with fail
   go_loopw [5] (fun t wr=>∃k:Nat,t=.int .i64 k/\k<=n/\(∀j (h:j<l.length),j<k->aaD d l[j]=true)/\Ext w wr) (fun t _=>n - (intOf t).toNat)
   case atStart=>exact⟨0,rfl,by omega,fun j _ h=>by omega,Ext.refl _⟩
   case round =>
    obtain⟨k,rfl,hk,hall,hxr⟩:=hrel;have qE:=ak hall;have kC:=ak hxr;clear hall hxr;by_cases hkn:k<n
    ·have hkl:k<l.length:=by have:=HN.o;omega
     have t1:=ah ((k:Int)<(n:Int));have hd1:1<=d:=by have:=fun e=>h0 ⟨by omega,e⟩;omega
     obtain⟨b,off,rfl,v,hv0,hrow,hv2,hv3,hv4,hv5,hv6⟩:=jJ.at l _ (jJ.mono kC.o.sub _ _ HD.o) k hkl;obtain⟨c0,c1,c2,c3,c4,c5,c6,c7⟩:=hrow.eight;obtain⟨ho1,ho2,ho3,ho4,hou,ho5⟩:=abo l Ej.o k hkl;have hvn:v.nu<=1000000000000000:=by rw[hv3];exact hou
     have PG:=ak ho4;have hwn:=Gn l k hkl;have HU:=ak hv6;have HUN:=ak hv3;have HEX:=ak hv2;have yQ:=ak ho2;have Ad:=ak ho3;have Qk:=ak ho5;have HIT:=ak (show aaD d l[k]=(nameB l[k].name&&iL l[k].cond&&pW (d - 1) l[k].jZ) from rfl);rw[hv0] at c0;clear hrow hv0 hv2 hv3 hv4 hv5 hv6 ho2 ho3 ho5 ho4 hou;have q1:((d:Int) - 1)=((d - 1:Nat):Int):=by omega
     cases hnb:nameB l[k].name
     ·have GL:=ak hnb;have HR:=ak (show R=false by
       rw[HQ2.o,List.all_eq_false];exact⟨l[k],aI hkl,by rw[HIT.o,hnb];simp⟩)
      clear hnb q1;go_wp2_with fail
      refine(rQ _ _ ho1).mono ?_;rintro r w1 ⟨rfl,rfl⟩;rw[GL.o];go_wp2_with fail
      go_ret;exact jg (by rw[HR.o]) kC.o
     have GL:=ak hnb;cases hxb:iL l[k].cond
     ·have HXB:=ak hxb;have HR:=ak (show R=false by
       rw[HQ2.o,List.all_eq_false];exact⟨l[k],aI hkl,by rw[HIT.o,hxb];simp⟩)
      clear hnb hxb q1;go_wp2_with fail
      refine(rQ _ _ ho1).mono ?_;rintro r w1 ⟨rfl,rfl⟩;rw[GL.o];go_wp2_with fail
      refine(QE l[k].cond _ _ HEX.o PG.o yQ.o Ad.o).mono ?_;rintro r w1 ⟨rfl,hx1⟩;rw[HXB.o];have fQ:=ak (kC.o.trans hx1);clear hx1 c0 c1 c2 c3 c4 c5 c6 c7;go_wp2_with fail
      go_ret;exact jg (by rw[HR.o]) fQ.o
     have HXB:=ak hxb;clear q1;go_wp2_with fail
     refine(rQ _ _ ho1).mono ?_;rintro r w1 ⟨rfl,rfl⟩;rw[GL.o];go_wp2_with fail
     refine(QE l[k].cond _ _ HEX.o PG.o yQ.o Ad.o).mono ?_;rintro r w1 ⟨rfl,hx1⟩;rw[HXB.o];have fQ:=ak (kC.o.trans hx1);have c7':=hx1.cell c7;have HU1:=ak (jJ.mono hx1.sub _ _ HU.o);have q1:((d:Int) - 1)=((d - 1:Nat):Int):=by omega
     clear hx1 c0 c1 c2 c3 c4 c5 c6 c7;go_wp2_with fail
     refine(IH.o l[k].jZ _ _ _ (d - 1) w1 (by omega) hvn Qk.o (by omega) HU1.o HUN.o).mono ?_;rintro r w2 ⟨rfl,hx2⟩;have gI:=ak (fQ.o.trans hx2);clear hx2 c7' q1;cases hbb:pW (d - 1) l[k].jZ
     ·have HR:=ak (show R=false by
       rw[HQ2.o,List.all_eq_false];exact⟨l[k],aI hkl,by rw[HIT.o,hbb];simp⟩)
      clear hnb hxb;go_wp2_with fail
      go_ret;exact jg (by rw[HR.o]) gI.o
     have HI2:=ak (show aaD d l[k]=true by rw[HIT.o,hnb,hxb,hbb];rfl);clear hnb hxb;go_wp2_with fail
     go_roundw
     case rel =>
      refine⟨k+1,by go_num,by omega,fun j hj hjk=>?_,gI.o⟩;by_cases e:j=k
      ·subst e;exact HI2.o
      exact qE.o j hj (by omega)
     case measure=>simp[intOf];omega
    have t1:=aj ((k:Int)<(n:Int));have HR:=ak (show R=true by
     rw[HQ2.o,aV];intro x hx;obtain⟨j,hj,rfl⟩:=bD.1 hx;exact qE.o j hj (by have:=HN.o;omega))
    go_wp2_with fail
    go_ret;exact jg (by rw[HR.o]) kC.o
theorem wu {w:World} {b:Nat} {v0 v1 v2 v3 v4 v5 v6 v7 v8 v9:Value} {t:TypeId} (h:w.heap[b]?=some (.cells #[v0,v1,v2,v3,v4,v5,v6,v7,v8,v9] t (0,0))) :
  w.cell? ⟨b,0,none⟩=some v0/\w.cell? ⟨b,1,none⟩=some v1/\w.cell? ⟨b,2,none⟩=some v2/\w.cell? ⟨b,3,none⟩=some v3/\w.cell? ⟨b,4,none⟩=some v4/\w.cell? ⟨b,5,none⟩=some v5/\w.cell? ⟨b,6,none⟩=some v6/\w.cell? ⟨b,7,none⟩=some v7/\w.cell? ⟨b,8,none⟩=some v8/\w.cell? ⟨b,9,none⟩=some v9/\(∀j,w.frozen? ⟨b,j,none⟩=false) :=
 ⟨dM h 0,dM h 1,dM h 2,dM h 3,dM h 4,dM h 5,dM h 6,dM h 7,dM h 8,dM h 9,fun j=>jS h j⟩
def dY.ok (c:dY):Prop:=c.name.size<=1000000000000000/\c.cond.fits/\c.cond.few/\c.cond.size<=1000000000000000/\Vg c.jZ/\qU c.jZ<=1000000000000000
def dY.fit (c:dY):Prop:=c.name.size<=1000000000000000/\c.cond.fits/\c.cond.few/\c.cond.Ar/\c.jZ.length<=1000000000000000/\su c.jZ
theorem dY.ok.fit {c:dY} (h:c.ok):c.fit:=⟨h.1,h.2.1,h.2.2.1,kT _ h.2.2.2.1,bC (wI _) h.2.2.2.2.2,BG _ h.2.2.2.2.1 h.2.2.2.2.2⟩
def aBM (m amount:Int):Bool:=(decide (m=0)&&(amount==0))||(decide (0<m)&&decide (1<=amount)&&decide (amount<=m))
theorem aae (c:dY) (v:jm) (w:World) (hc:kR w c v) (hok:c.fit) :
  Calls Tryz.prog 89 #[.agg #[.int .i64 v.kind,.string v.name,.int .i64 v.x.op,.string v.x.name,.slice v.x.aw v.x.nw v.x.cw,.int .i64 v.x.lo,.int .i64 v.x.hi,.slice v.x.aa v.x.na v.x.ca,.slice v.au v.nu v.cu,.int .i64 v.amount]] w (dN (.bool (jO c)) w):=by
 obtain⟨hk,hnm,hex,hnu,-,-,hwb,ham⟩:=hc;obtain⟨ho1,ho2,ho3,ho4,ho5,Lm⟩:=hok;rw[hk,hnm,ham];have HEX:=ak hex;have HWB:=ak hwb;have HNU:=ak hnu;have yQ:=ak ho2;have Ad:=ak ho3;have PG:=ak ho4;have OQ:=ak Lm;have aHs:v.nu<=1000000000000000:=by rw[hnu];exact ho5
 obtain⟨R,hR⟩:∃R,R=jO c:=⟨_,rfl⟩
 rw[<-hR];have HR:=ak (show R=(decide (1<=c.kind)&&decide (c.kind<=10)&&nameB c.name&&iL c.cond&&(decide (c.jZ.length=0)||((c.kind==3)&&decide (kK c.jZ<=40)&&pW 16 c.jZ))&&aBM (ny c.kind) c.amount) by rw[hR];rfl);clear hk hnm hex hnu hwb ham ho2 ho3 ho4 ho5 Lm hR;obtain⟨kind,name,cond,jZ,amount⟩:=c;simp only at *;obtain⟨vk,vn,x,au,nu,cu,va⟩:=v;simp only at *;obtain⟨wa,dW⟩:∃wa,wa=w.alloc (.cells (aG kind name x au nu cu amount) 48):=⟨_,rfl⟩
 have hxa:Ext w wa:=by rw[dW];exact(Ext.refl _).alloc _
 have hb:wa.heap[w.heap.size]?=some (.cells (aG kind name x au nu cu amount) 48 (0,0)):=by rw[dW];exact dG w _
 have fE:=ak hxa;have HB:=ak hb;clear hxa hb;by_cases h1:kind<1
 ·have t1:=ah (kind<1) h1;have HF:=ak (show R=false by rw[HR.o];simp;intro h;omega);clear h1 dW;go_enter Tryz.func89,Tryz.ntmps89
  go_wp2_with fail
  go_ret;exact jg (by rw[HF.o]) ((Ext.refl w).alloc _)
 have t1:=aj (kind<1) h1;by_cases h10:10<kind
 ·have t10:=ah (10<kind) h10;have HF:=ak (show R=false by rw[HR.o];simp;intro _ h;omega);clear h10 h1 dW;go_enter Tryz.func89,Tryz.ntmps89
  go_wp2_with fail
  go_ret;exact jg (by rw[HF.o]) ((Ext.refl w).alloc _)
 have t10:=aj (10<kind) h10;have hk1:=ah (1<=kind);have hk2:=ah (kind<=10);rw[hk1,hk2,Bool.true_and,Bool.true_and] at HR;clear hk1 hk2 h1 h10;go_enter Tryz.func89,Tryz.ntmps89
 go_wp2_with fail
 rw[<-dW];clear dW;refine(rQ _ _ ho1).mono ?_;rintro r w1 ⟨rfl,rfl⟩;obtain⟨b0,b1,b2,b3,b4,b5,b6,b7,b8,b9,bf⟩:=wu HB.o;cases hnb:nameB name
 ·have HF:=ak (show R=false by rw[HR.o,hnb];rfl);go_wp2_with fail
  go_ret;exact jg (by rw[HF.o]) fE.o
 rw[hnb,Bool.true_and] at HR;clear hnb;go_wp2_with fail
 refine(QE cond _ _ (HEX.o.ext fE.o) PG.o yQ.o Ad.o).mono ?_;rintro r w1 ⟨rfl,hx1⟩;have fQ:=ak (fE.o.trans hx1);have HB1:=ak (hx1.blk HB.o);clear hx1 b0 b1 b2 b3 b4 b5 b6 b7 b8 b9 bf HB;obtain⟨b0,b1,b2,b3,b4,b5,b6,b7,b8,b9,bf⟩:=wu HB1.o;cases hxb:iL cond
 ·have HF:=ak (show R=false by rw[HR.o,hxb];rfl);go_wp2_with fail
  go_ret;exact jg (by rw[HF.o]) fQ.o
 rw[hxb,Bool.true_and] at HR;clear hxb;obtain⟨U,hU⟩:∃U,U=(decide (jZ.length=0)||((kind==3)&&decide (kK jZ<=40)&&pW 16 jZ)):=⟨_,rfl⟩
 rw[<-hU] at HR;have HU:=ak hU;clear hU;go_upto_region 3 with fail
 go_cut [44] (fun s44 wx=>s44=.bool (!U)/\Ext w1 wx)
 case first =>
  by_cases h0:nu=0
  ·have t0:=aj ((0:Int)<(nu:Int));have HF:=ak (show U=true by rw[HU.o,<-HNU.o,h0];simp);go_wp2_with fail
   go_meet
   case rel=>exact⟨by rw[HF.o];rfl,Ext.refl _⟩
  have t0:=ah ((0:Int)<(nu:Int));have hl0:=aj (jZ.length=0) (by have:=HNU.o;omega);rw[hl0,Bool.false_or] at HU;clear hl0;by_cases h3:kind=3
  ·have t3:(kind != 3)=false:=by simp[h3]
   have e3:(kind==3)=true:=by simp[h3]
   rw[e3,Bool.true_and] at HU;clear e3 h3;go_wp2_with fail
   refine(aq0 (qU jZ) jZ _ _ _ w1 (bg _) aHs OQ.o (jJ.mono fQ.o.sub _ _ HWB.o) HNU.o).mono ?_;rintro r w2 ⟨rfl,rfl⟩;obtain⟨M,hM⟩:∃M,M=(min (kK jZ) 41:Nat):=⟨_,rfl⟩
   rw[<-hM];have hMl:M<=41:=by omega
   have yT:=ak (show decide (kK jZ<=40)=decide (M<=40) by rw[hM];congr 1;exact propext ⟨fun h=>by omega,fun h=>by omega⟩);rw[yT.o] at HU;clear hM yT;by_cases h40:M<=40
   ·have t40:=aj ((40:Int)<(M:Int));have e40:=ah (M<=40) h40;rw[e40,Bool.true_and] at HU;clear e40;go_wp2_with fail
    refine(aq1 (qU jZ) jZ _ _ _ 16 w1 (bg _) aHs OQ.o (by omega) (jJ.mono fQ.o.sub _ _ HWB.o) HNU.o).mono ?_;rw[<-HU.o];rintro r w2 ⟨rfl,hx2⟩;have gI:=ak hx2;clear hx2;go_wp2_with fail
    go_meet
    case rel=>exact⟨rfl,gI.o⟩
   have t40:=ah ((40:Int)<(M:Int));have HF:=ak (show U=false by rw[HU.o,dD h40];rfl);go_wp2_with fail
   go_meet
   case rel=>exact⟨by rw[HF.o];rfl,Ext.refl _⟩
  have t3:(kind != 3)=true:=by simp[h3]
  have HF:=ak (show U=false by rw[HU.o];simp[h3]);clear h3;go_wp2_with fail
  go_meet
  case rel=>exact⟨by rw[HF.o];rfl,Ext.refl _⟩
 case rest =>
  obtain⟨rfl,hx2⟩:=hcut;have gI:=ak (fQ.o.trans hx2);have HB2:=ak (hx2.blk HB1.o);clear b0 b1 b2 b3 b4 b5 b6 b7 b8 b9 bf hx2 HB1;obtain⟨b0,b1,b2,b3,b4,b5,b6,b7,b8,b9,bf⟩:=wu HB2.o;cases hUc:U
  ·have HF:=ak (show R=false by rw[HR.o,hUc];rfl);go_wp2_with fail
   go_ret;exact jg (by rw[HF.o]) gI.o
  rw[hUc,Bool.true_and] at HR;clear hUc;go_wp2_with fail
  refine(ahx _ _).mono ?_;rintro r w3 ⟨rfl,rfl⟩;generalize ny kind=M at *;go_wp2_with fail
  all_goals (go_ret;exact jg (by rw[HR.o,aBM];simp_all<;>omega) gI.o)
def Zf:Nat->Nat|0=>0|1=>1|d+2=>3*Zf (d+1)+1
theorem ahp:(jw.all fun l=>l.all fun a=>decide (a.name.size<=1000)&&(decide (a.words.length<=1000)&&a.words.all fun x=>decide (x.size<=1000)))=true:=by decide +kernel
theorem adM:(l:List Ex)->(∀x∈l,x.fits)->nJ l
 | [],_=>by unfold nJ;trivial
 | e::r,h=>by unfold nJ;exact⟨h e (by simp),adM r fun x hx=>h x (by simp[hx])⟩
theorem Lu:(l:List Ex)->(∀x∈l,x.few)->qM l
 | [],_=>by unfold qM;trivial
 | e::r,h=>by unfold qM;exact⟨h e (by simp),Lu r fun x hx=>h x (by simp[hx])⟩
theorem amb:(l:List Ex)->(∀x∈l,vJ x=true)->JX l=true
 | [],_=>by unfold JX;rfl
 | e::r,h=>by unfold JX;rw[h e (by simp),amb r fun x hx=>h x (by simp[hx])];rfl
theorem ajR {k:Nat}:(l:List Ex)->(∀x∈l,x.size<=k)->sizes l<=l.length*k
 | [],_=>by simp[sizes]
 | e::r,h=>by
  have h1:=h e (by simp);have h2:=ajR r fun x hx=>h x (by simp[hx])
  simp only[sizes,List.length_cons,Nat.succ_mul];omega
structure abf (d:Nat) (e:Ex):Prop where
 fits:e.fits
 few:e.few
 size:e.size<=Zf d
 bare:vJ e=true
theorem aIH (d:Nat):1<=Zf (d+1):=by cases d with|zero=>exact bg _|succ d=>simp only[Zf];omega
theorem aEI {attrs:List Attr} (hs:attrs∈jw) {names:ZB} (hn:∀x∈names,x.size<=1000) {e:Ex} (h:ahj attrs names e) (d:Nat):abf (d+1) e:=by
 have hat:∀a∈attrs,_:=fun a ha=>aV.1 (aV.1 ahp attrs hs) a ha
 obtain⟨op,name,words,lo,hi,args⟩:=e;obtain⟨ha,h⟩:=h;simp only[Ex.args] at ha;subst ha;simp only[Ex.op,Ex.name,Ex.words,Ex.lo,Ex.hi] at h;have key:name.size<=1000/\words.length<=1000/\∀x∈words,x.size<=1000:=by
  rcases h with ⟨h1,h2,h3,h4,h5⟩|⟨h1,h2,h3,h4,h5⟩|⟨h1,h2,h3,h4,h5⟩|⟨h1,⟨a,haa,hk,hnm,hne,hnd,hin⟩,h4,h5⟩|⟨h1,⟨a,haa,hk,hnm,hl1,hl2,hl3⟩,h3⟩
  ·subst h2 h3;exact⟨by decide,by simp,by simp⟩
  ·subst h2 h3;exact⟨by decide,by simp,by simp⟩
  ·subst h3;refine⟨?_,by simp,by simp⟩;rcases h2 with h2|⟨a,haa,_,h2⟩
   ·exact hn _ h2
   have:=hat a haa;simp only[aJ,aN] at this;rw[h2];exact this.1
  ·have hq:=hat a haa;simp only[aJ,aN,aV] at hq;exact⟨by rw[hnm];exact hq.1,bC (List.Nodup.length_le_of_subset hnd (fun x hx=>hin x hx)) hq.2.1,fun x hx=>hq.2.2 x (hin x hx)⟩
  have hq:=hat a haa;simp only[aJ,aN] at hq;subst h3;exact⟨by rw[hnm];exact hq.1,by simp,by simp⟩
 obtain⟨k1,k2,k3⟩:=key;have hb:=aIH d;refine⟨?_,?_,?_,?_⟩
 ·unfold Ex.fits;exact⟨by omega,fun x hx=>by have:=k3 x hx;omega,by unfold nJ;trivial⟩
 ·unfold Ex.few;exact⟨by omega,by unfold qM;trivial⟩
 ·simp[Ex.size,sizes];omega
 unfold vJ;simp[JX]
theorem Dt {attrs:List Attr} (hs:attrs∈jw) {names:ZB} (hn:∀x∈names,x.size<=1000):(d:Nat)->(e:Ex)->tY attrs names d e->abf d e
 | 0,e,h=>h.elim
 | d+1,e,h=>by
  rcases h with h|⟨hl,h1,h2,h3,h4,h⟩
  ·exact aEI hs hn h d
  have ih:=fun x hx=>Dt hs hn d x (h x hx)
  have hne:e.args≠[]:=by intro e0;rw[e0] at hl;simp at hl
  obtain⟨d,rfl⟩:∃k,d=k+1:=by
   cases d with
   | succ k=>exact⟨k,rfl⟩
   | zero =>
    obtain⟨x,hx⟩:=List.exists_mem_of_ne_nil _ hne;exact(h x hx).elim
  have h3l:e.args.length<=3:=by omega
  have hop:e.op≠3:=by omega
  clear hl;obtain⟨op,name,words,lo,hi,args⟩:=e;simp only[Ex.args,Ex.name,Ex.words,Ex.op] at *;subst h1 h2;refine⟨?_,?_,?_,?_⟩
  ·unfold Ex.fits;exact⟨by show (0:Nat)<=_;omega,by simp,adM _ fun x hx=>(ih x hx).fits⟩
  ·unfold Ex.few;exact⟨by simp,Lu _ fun x hx=>(ih x hx).few⟩
  ·have:=ajR args fun x hx=>(ih x hx).size
   have h5:args.length*Zf (d+1)<=3*Zf (d+1):=Nat.mul_le_mul_right _ h3l;simp only[Ex.size,Zf];omega
  unfold vJ;rw[amb _ fun x hx=>(ih x hx).bare];simp[hop]
def GrG (wr W:World):Prop:=Ext wr W
def SX (_:Nat) (W W':World):Prop:=Ext W W'
def zu (R:Nat->Value->World->Prop) (j:Nat) (u:Value) (W:World):Prop:=R j u W
theorem lK {P:Program} {ops:Array Oper} {Q:Exit->Act->World->Prop} {a:Act} {w:World} {i:Nat} {o:Oper} (ho:ops[i]?=some o) (h:wpList P ops Q [o] a w):wpOp P ops Q i (fun a w=>Q .normal a w) a w:=by
 unfold wpOp;rw[ho];exact h
end Go.Proofs.YtefjomofjejklaaGreatDoor
