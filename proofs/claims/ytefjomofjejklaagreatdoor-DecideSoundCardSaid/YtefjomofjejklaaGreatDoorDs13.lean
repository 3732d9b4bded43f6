/- Joined. -/
import Derived.Test.YtefjomofjejklaaGreatDoorDs12
import Derived.SliceStrings
namespace Go.Proofs.YtefjomofjejklaaGreatDoor
set_option maxRecDepth 100000
set_option maxHeartbeats 32000000
open Go.RowKit Go.Maps
def vw (p:Pr) (P:Pr->Bool):Bool:=(p.pick == -1)&&decide (p.args.length=1)&&p.args.all P
theorem Zc (lv:fT) (x:dK) (p:Pr) (pv:gS) (P:Pr->Bool) (w:World) (hp:gL w p pv)
  (hv:∀(q:Pr) (qv:gS) (W:World),q∈p.args->Ext w W->gL W q qv->Calls Tryz.prog 130 #[lv.val,x.val,qv.val] W (cz (.bool (P q)) W)) :
  Calls Tryz.prog 160 #[lv.val,x.val,pv.val] w (cz (.bool (vw p P)) w):=by
 obtain⟨-,h2,h3,-,-,h6⟩:=hp.parts;obtain⟨R,hR⟩:∃R,R=vw p P:=⟨_,rfl⟩
 rw[<-hR];unfold vw at hR;obtain⟨pb,k,pa,pn,pc⟩:=pv;simp only at h2 h3 h6;obtain⟨sa,sn,sc,bm,fa,fn,fc⟩:=lv;obtain⟨op,name,aw,nw,cw,lo,hi,aa,na,ca⟩:=x;obtain⟨pav,aQt⟩:∃l,l=p.args:=⟨_,rfl⟩
 rw[<-aQt] at h3 h6 hR hv;rw[<-h2] at hR;have HR:=ai hR;have H6:=ai h6;have HN:=ai h3;have HV:=ai hv;clear hR h2 h3 h6 hp aQt hv;unfold fT.val dK.val fN gS.val at *;obtain⟨wa,cN⟩:∃wa,wa=((w.alloc (.cells #[.slice sa sn sc,.map (some bm),.slice fa fn fc] 183)).alloc (.cells #[ op,.string name,.slice aw nw cw,lo,hi,.slice aa na ca] 45)).alloc (.cells #[.bool pb,k,.slice pa pn pc] 67):=⟨_,rfl⟩
 have gB:Ext w wa:=by rw[cN];exact(((Tz _).alloc _).alloc _).alloc _
 have hb0:wa.heap[w.heap.size]?=some (.cells #[.slice sa sn sc,.map (some bm),.slice fa fn fc] 183 (0,0)):=by rw[cN];exact bU (bU (bR w _))
 have hb1:wa.heap[w.heap.size+1]?=some (.cells #[ op,.string name,.slice aw nw cw,lo,hi,.slice aa na ca] 45 (0,0)):=by rw[cN];exact bU (cT (by simp))
 have hb2:wa.heap[w.heap.size+1+1]?=some (.cells #[.bool pb,k,.slice pa pn pc] 67 (0,0)):=by rw[cN];exact cT (by simp)
 have dm:=ai gB;obtain⟨f0,f1,f2,f3,f4,f5,ff⟩:=cX hb1;obtain⟨e0,e1,e2,ef⟩:=dM hb0;obtain⟨r0,r1,r2,rf⟩:=dM hb2;have kL:=bS hb2;clear gB hb0 hb1 hb2;by_cases hk:k = -1
 case neg =>
  have t1:(k == -1)=false:=by simp[hk]
  have HQ:=ai (show R=false by rw[HR.o];simp[hk]);clear hk;go_enter Tryz.func160,Tryz.ntmps160
  go_upto_region 1 with fail;rw[<-cN];clear cN;go_wp2_with fail;go_quiet (fail)
  go_wp2_with fail;go_ret;exact bW (by rw[HQ.o]) (dm.o.drewN _)
 subst hk;by_cases hn:pn=1
 case neg =>
  have t1:((pn:Int)==1)=false:=by simp;omega
  have HQ:=ai (show R=false by rw[HR.o];have:=HN.o;simp;intro h;omega);clear hn;go_enter Tryz.func160,Tryz.ntmps160
  go_upto_region 1 with fail;rw[<-cN];clear cN;go_wp2_with fail;go_quiet (fail)
  go_wp2_with fail;go_ret;exact bW (by rw[HQ.o]) (dm.o.drewN _)
 subst hn;obtain⟨b,off,q,rfl,hq,c0,c1,c2⟩:=H6.o 0 (by have:=HN.o;omega);simp only[Nat.zero_mul,Nat.add_zero] at c0 c1 c2
 replace c0:=dm.o.cell c0
 replace c1:=dm.o.cell c1
 replace c2:=dm.o.cell c2
 have HPQ:=ai hq;have sA:pav.length=1:=by have:=HN.o;omega
 obtain⟨q1,rfl⟩:=Ao sA;simp only[bB] at HPQ;have HQ:=ai (show R=P q1 by rw[HR.o];simp);have HVQ:=ai (fun W (hW:Ext w W)=>HV.o q1 q W (by simp) hW (HPQ.o.ext hW));obtain⟨B,hB⟩:∃B,B=P q1:=⟨_,rfl⟩
 rw[<-hB] at HQ HVQ;obtain⟨qb,qk,qa,qn,qc⟩:=q;simp only at c0 c1 c2 HVQ;clear hB HV sA HPQ hq HR HN H6;go_enter Tryz.func160,Tryz.ntmps160
 go_upto_region 1 with fail;rw[<-cN];clear cN;go_wp2_with fail
 go_still_tail 16,(by kernel_rfl)
 change wpList _ _ _ _ _ wa.drew
 have hx2:Ext wa wa.drew:=(Tz wa).drew;generalize wa.drew=w2 at hx2 ⊢;have dN:=ai (dm.o.trans hx2);clear hx2;go_wp2_with fail;refine(HVQ.o w2 dN.o).mono ?_;rintro r w3 ⟨rfl,hx3⟩;have dS:=ai (dN.o.trans hx3);clear hx3;go_wp2_with fail;go_ret;exact bW (by rw[HQ.o]) dS.o
def atH (s:List Attr) (f:ZI) (D:BA->Option (Pr->Bool)) (op:Int) (args:List Ex) (p:Pr):Bool:=if p.value=decide (op=8) then decide (0<=p.pick)&&decide (p.args.length=1)&&p.args.all (fun q=>uH s f D args p.pick.toNat q&&(q.value==p.value)) else (p.pick == -1)&&mM s f D p.value args p.args
def aSg (s:List Attr) (f:ZI) (D:BA->Option (Pr->Bool)) (v:Bool) (args:List Ex) (ps:List Pr) (na b0:Nat) (Z0 Z1 Z2:Obj) (w:World) (i:Value) (wr:World):Prop:=∃k:Nat,i=.int .i64 k/\k<=na/\(∀j (h1:j<args.length) (h2:j<ps.length),j<k->wI s f D args[j] ps[j]=true/\ps[j].value=v)/\wr.heap[b0]?=some Z0/\wr.heap[b0+1]?=some Z1/\wr.heap[b0+1+1]?=some Z2/\Ext w wr
theorem Ak {s:List Attr} {f:ZI} {D:BA->Option (Pr->Bool)} {v:Bool} {args:List Ex} {ps:List Pr} (k:Nat) (h1:k<args.length) (h2:k<ps.length) (h:¬(wI s f D args[k] ps[k]=true/\ps[k].value=v)):mM s f D v args ps=false:=by
 cases hz:mM s f D v args ps
 ·rfl
 exact a40 (akg args ps hz k h1 h2) h
theorem ait (s:List Attr) (f:ZI) (D:BA->Option (Pr->Bool)) (lv:fT) (e:Ex) (ev:Value) (p:Pr) (pv:gS) (w:World) (he:dw w e ev) (hn2:e.args.length<=1000000) (hp:gL w p pv)
  (hv:∀(j:Nat) (hj:j<e.args.length) (xv:Value) (q:Pr) (qv:gS) (W:World),q∈p.args->Ext w W->dw W e.args[j] xv->gL W q qv->Calls Tryz.prog 130 #[lv.val,xv,qv.val] W (cz (.bool (wI s f D e.args[j] q)) W)) :
  Calls Tryz.prog 161 #[lv.val,ev,pv.val] w (cz (.bool (atH s f D e.op e.args p)) w):=by
 obtain⟨h1,h2,h3,-,-,h6⟩:=hp.parts;obtain⟨aw,nw,cw,aa,na,ca,rfl,hw,hna,hca,ha,hx⟩:=he.parts;obtain⟨op,name,words,lo,hi,args⟩:=e;simp only[Ex.op,Ex.name,Ex.words,Ex.lo,Ex.hi,Ex.args] at *;obtain⟨R,hR⟩:∃R,R=atH s f D op args p:=⟨_,rfl⟩
 rw[<-hR];unfold atH at hR;obtain⟨pb,pk,pa,pn,pc⟩:=pv;simp only at h1 h2 h3 h6;obtain⟨sa,sn,sc,bm,fa,fn,fc⟩:=lv;obtain⟨ps,hps⟩:∃l,l=p.args:=⟨_,rfl⟩
 rw[<-hps] at h3 h6 hR hv;rw[<-h1,<-h2] at hR;have HR:=ai hR;have H6:=ai h6;have HN:=ai h3;have HV:=ai hv;have HX:=ai hx;have kJ:=ai hna;have Ks:na<=1000000:=by omega
 clear hR h1 h2 h3 h6 hp hps hv hx hna hw hca ha he hn2;unfold fT.val fN gS.val at *;obtain⟨wa,cN⟩:∃wa,wa=((w.alloc (.cells #[.slice sa sn sc,.map (some bm),.slice fa fn fc] 183)).alloc (.cells #[ op,.string name,.slice aw nw cw,lo,hi,.slice aa na ca] 45)).alloc (.cells #[.bool pb,pk,.slice pa pn pc] 67):=⟨_,rfl⟩
 have gB:Ext w wa:=by rw[cN];exact(((Tz _).alloc _).alloc _).alloc _
 have hb0:wa.heap[w.heap.size]?=some (.cells #[.slice sa sn sc,.map (some bm),.slice fa fn fc] 183 (0,0)):=by rw[cN];exact bU (bU (bR w _))
 have hb1:wa.heap[w.heap.size+1]?=some (.cells #[ op,.string name,.slice aw nw cw,lo,hi,.slice aa na ca] 45 (0,0)):=by rw[cN];exact bU (cT (by simp))
 have hb2:wa.heap[w.heap.size+1+1]?=some (.cells #[.bool pb,pk,.slice pa pn pc] 67 (0,0)):=by rw[cN];exact cT (by simp)
 have dm:=ai gB;have iO:=ai hb0;have gG:=ai hb1;have fY:=ai hb2;obtain⟨f0,f1,f2,f3,f4,f5,ff⟩:=cX hb1;obtain⟨e0,e1,e2,ef⟩:=dM hb0;obtain⟨r0,r1,r2,rf⟩:=dM hb2;have kL:=bS hb2;clear gB hb0 hb1 hb2;have hop:(op==8)=decide (op=8):=by by_cases h:op=8<;>simp[h]
 rw[<-hop] at HR;clear hop;obtain⟨d,hd⟩:∃d,d=(op==8):=⟨_,rfl⟩
 rw[<-hd] at HR
 replace hd:=hd.symm
 by_cases hv:pb=d
 ·have t0:(pb==d)=true:=by rw[hv];simp
  have jI:=ai (show R=(decide (0<=pk)&&decide (ps.length=1)&&ps.all (fun q=>uH s f D args pk.toNat q&&(q.value==d))) by rw[HR.o,bM hv,hv]);clear HR hv;by_cases hk:0<=pk
  case neg =>
   have t1:=ah (0<=pk) hk;have HQ:=ai (show R=false by rw[jI.o,t1];rfl);clear hk;obtain rfl:pb=d:=by simpa using t0
   clear t0;have La:(pb=false/\(op==8)=false)\/(pb=true/\op=8):=by cases pb<;>simp at hd ⊢<;>exact hd
   have YF:=ai La;clear La hd;go_enter Tryz.func161,Tryz.ntmps161
   go_upto_region 1 with fail;rw[<-cN];clear cN;rcases YF.o with ⟨rfl,hd⟩|⟨rfl,rfl⟩
   all_goals
    go_wp2_with fail;go_quiet (fail)
    go_wp2_with fail;go_ret;exact bW (by rw[HQ.o]) (dm.o.drewN _)
  have t1:=ag (0<=pk) hk;obtain⟨k,rfl⟩:∃k:Nat,pk=(k:Int):=⟨pk.toNat,by omega⟩
  have nL:=ai (show R=(decide (ps.length=1)&&ps.all (fun q=>uH s f D args k q&&(q.value==d))) by rw[jI.o,t1,Int.toNat_natCast];rfl);clear jI hk;by_cases hkn:k<na
  case neg =>
   have t2:=ah (k<na);have HQ:=ai (show R=false by
    rw[nL.o];cases hd1:decide (ps.length=1)
    ·rfl
    obtain⟨q,rfl⟩:=Ao (of_decide_eq_true hd1);have:args[k]?=none:=List.getElem?_eq_none (by have:=kJ.o;omega);simp[E8,this])
   clear hkn;obtain rfl:pb=d:=by simpa using t0
   clear t0;have La:(pb=false/\(op==8)=false)\/(pb=true/\op=8):=by cases pb<;>simp at hd ⊢<;>exact hd
   have YF:=ai La;clear La hd;go_enter Tryz.func161,Tryz.ntmps161
   go_upto_region 1 with fail;rw[<-cN];clear cN;rcases YF.o with ⟨rfl,hd⟩|⟨rfl,rfl⟩
   all_goals
    go_wp2_with fail;go_quiet (fail)
    go_wp2_with fail;go_ret;exact bW (by rw[HQ.o]) (dm.o.drewN _)
  have t2:=ag (k<na);by_cases hn:pn=1
  case neg =>
   have t3:((pn:Int)==1)=false:=by simp;omega
   have HQ:=ai (show R=false by rw[nL.o];have:=HN.o;simp;intro h;omega);clear hn;obtain rfl:pb=d:=by simpa using t0
   clear t0;have La:(pb=false/\(op==8)=false)\/(pb=true/\op=8):=by cases pb<;>simp at hd ⊢<;>exact hd
   have YF:=ai La;clear La hd;go_enter Tryz.func161,Tryz.ntmps161
   go_upto_region 1 with fail;rw[<-cN];clear cN;rcases YF.o with ⟨rfl,hd⟩|⟨rfl,rfl⟩
   all_goals
    go_wp2_with fail;go_quiet (fail)
    go_wp2_with fail;go_ret;exact bW (by rw[HQ.o]) (dm.o.drewN _)
  subst hn;obtain⟨b,off,q,rfl,hq,c0,c1,c2⟩:=H6.o 0 (by have:=HN.o;omega);simp only[Nat.zero_mul,Nat.add_zero] at c0 c1 c2
  replace c0:=dm.o.cell c0
  replace c1:=dm.o.cell c1
  replace c2:=dm.o.cell c2
  have HPQ:=ai hq;have sA:ps.length=1:=by have:=HN.o;omega
  obtain⟨q1,rfl⟩:=Ao sA;simp only[bB] at HPQ;have hka:k<args.length:=by have:=kJ.o;omega
  have sI:=ai (show R=(wI s f D args[k] q1&&(q1.value==d)) by rw[nL.o];simp[E8,hka]);have hqv:=HPQ.o.parts.1;rw[<-hqv] at sI;obtain⟨qb,qk,qa,qn,qc⟩:=q;simp only at c0 c1 c2 sI;clear hqv hq nL sA;by_cases hqb:qb=d
  case neg =>
   have t4:(qb==d)=false:=by cases qb<;>cases d<;>simp at hqb ⊢
   have HQ:=ai (show R=false by rw[sI.o,t4,Bool.and_false]);clear hqb;obtain rfl:pb=d:=by simpa using t0
   clear t0;have La:(pb=false/\(op==8)=false)\/(pb=true/\op=8):=by cases pb<;>simp at hd ⊢<;>exact hd
   have YF:=ai La;clear La hd;go_enter Tryz.func161,Tryz.ntmps161
   go_upto_region 1 with fail;rw[<-cN];clear cN;rcases YF.o with ⟨rfl,hd⟩|⟨rfl,rfl⟩
   all_goals
    go_wp2_with fail;go_quiet (fail)
    go_wp2_with fail;go_ret;exact bW (by rw[HQ.o]) (dm.o.drewN _)
  have t4:(qb==d)=true:=by rw[hqb];simp
  have HQ:=ai (show R=wI s f D args[k] q1 by rw[sI.o,t4,Bool.and_true]);clear hqb;have HVQ:=ai (fun xv W (hW:Ext w W) qV=>HV.o k hka xv q1 _ W (by simp) hW qV (HPQ.o.ext hW));obtain⟨B,hB⟩:∃B,B=wI s f D args[k] q1:=⟨_,rfl⟩
  rw[<-hB] at HQ HVQ;obtain⟨xb,xo,rfl,nJ,nD,nG,nK,nE,nI,g0,g1,g2,g3,g4,g5,g6⟩:=eU.at args _ (eU.ext dm.o args _ HX.o) k hka;have G6:=ai g6;clear hB HV sI HPQ g6 HN H6;unfold fN at *;simp only at HVQ;obtain rfl:pb=d:=by simpa using t0
  clear t0;have La:(pb=false/\(op==8)=false)\/(pb=true/\op=8):=by cases pb<;>simp at hd ⊢<;>exact hd
  have YF:=ai La;clear La hd;go_enter Tryz.func161,Tryz.ntmps161
  go_upto_region 1 with fail;rw[<-cN];clear cN;rcases YF.o with ⟨rfl,hd⟩|⟨rfl,rfl⟩
  all_goals
   go_wp2_with fail
   go_still_tail 38,(by kernel_rfl)
   change wpList _ _ _ _ _ wa.drew
   have hx2:Ext wa wa.drew:=(Tz wa).drew;generalize wa.drew=w2 at hx2 ⊢;have dN:=ai (dm.o.trans hx2);have G62:=ai (G6.o.ext hx2);clear hx2;go_wp2_with fail;refine(HVQ.o _ w2 dN.o G62.o).mono ?_;rintro r w3 ⟨rfl,hx3⟩;have dS:=ai (dN.o.trans hx3);clear hx3;go_wp2_with fail;go_ret;exact bW (by rw[HQ.o]) dS.o
 have jI:=ai (show R=((pk == -1)&&mM s f D pb args ps) by rw[HR.o,bL hv]);have t0:(pb==d)=false:=by cases pb<;>cases d<;>simp at hv ⊢
 clear HR hv;by_cases hk:pk = -1
 case neg =>
  have t1:(pk != -1)=true:=by simp[hk]
  have HQ:=ai (show R=false by rw[jI.o];simp[hk]);clear hk;have La:(pb=true/\(op==8)=false)\/(pb=false/\op=8):=by cases pb<;>cases d<;>simp at hd t0 ⊢<;>exact hd
  have YF:=ai La;clear La hd t0;go_enter Tryz.func161,Tryz.ntmps161
  go_upto_region 1 with fail;rw[<-cN];clear cN;rcases YF.o with ⟨rfl,hd⟩|⟨rfl,rfl⟩
  all_goals
   go_wp2_with fail;go_ret
   first|exact bW (by rw[HQ.o]) dm.o|exact bW (by rw[HQ.o]) (dm.o.drewN _)|trace_state
 subst hk;have nL:=ai (show R=mM s f D pb args ps by rw[jI.o];simp);clear jI;by_cases hl:pn=na
 case neg =>
  have t2:((pn:Int) != (na:Int))=true:=by simp;omega
  have HQ:=ai (show R=false by
   rw[nL.o];cases hz:mM s f D pb args ps
   ·rfl
   have:=Xk args ps hz;have:=HN.o;have:=kJ.o;omega)
  clear hl;have La:(pb=true/\(op==8)=false)\/(pb=false/\op=8):=by cases pb<;>cases d<;>simp at hd t0 ⊢<;>exact hd
  have YF:=ai La;clear La hd t0;go_enter Tryz.func161,Tryz.ntmps161
  go_upto_region 1 with fail;rw[<-cN];clear cN;rcases YF.o with ⟨rfl,hd⟩|⟨rfl,rfl⟩
  all_goals
   go_wp2_with fail;go_ret
   first|exact bW (by rw[HQ.o]) dm.o|exact bW (by rw[HQ.o]) (dm.o.drewN _)|trace_state
 subst hl;have t2:((pn:Int) != (pn:Int))=false:=by simp
 have La:(pb=true/\(op==8)=false)\/(pb=false/\op=8):=by cases pb<;>cases d<;>simp at hd t0 ⊢<;>exact hd
 have YF:=ai La;clear La hd t0;go_enter Tryz.func161,Tryz.ntmps161
 go_upto_region 1 with fail;rw[<-cN];clear cN;rcases YF.o with ⟨rfl,hd⟩|⟨rfl,rfl⟩
 ·go_wp2_with fail;clear f0 f1 f2 f3 f4 f5 ff e0 e1 e2 ef r0 r1 r2 rf kL;go_loopw [72] (aSg s f D true args ps pn w.heap.size (.cells #[.slice sa sn sc,.map (some bm),.slice fa fn fc] 183 (0,0)) (.cells #[ op,.string name,.slice aw nw cw,lo,hi,.slice aa pn ca] 45 (0,0)) (.cells #[.bool true,.int .i64 (-1),.slice pa pn pc] 67 (0,0)) w) (fun i _=>pn - (intOf i).toNat)
  case atStart=>exact⟨0,rfl,by omega,fun j _ _ h=>by omega,iO.o,gG.o,fY.o,dm.o⟩
  case round =>
   obtain⟨k,rfl,hk,hall,hb0,hb1,hb2,lM⟩:=hrel;have mK:=ai hall;have gZ:=ai lM;obtain⟨e0,e1,e2,ef⟩:=dM hb0;obtain⟨r0,r1,r2,rf⟩:=dM hb2;have kL:=bS hb2;have Sa:=ai hb0;have mE:=ai hb1;have iP:=ai hb2;clear hall lM hb0 hb1 hb2;by_cases hkn:k<pn
   ·have hka:k<args.length:=by have:=kJ.o;omega
    have hkp:k<ps.length:=by have:=HN.o;omega
    have t1:=ag ((k:Int)<(pn:Int));obtain⟨xb,xo,rfl,nJ,nD,nG,nK,nE,nI,g0,g1,g2,g3,g4,g5,g6⟩:=eU.at args _ (eU.ext gZ.o args _ HX.o) k hka;have G6:=ai g6;obtain⟨b,off,q,rfl,hq,c0,c1,c2⟩:=H6.o k hkp
    replace c0:=gZ.o.cell c0
    replace c1:=gZ.o.cell c1
    replace c2:=gZ.o.cell c2
    have HPQ:=ai hq;have HVQ:=ai (fun xv W (hW:Ext w W) qV=>HV.o k hka xv ps[k] _ W (aD hkp) hW qV (HPQ.o.ext hW));have Yk:=ai hq.parts.1;obtain⟨qb,qk,qa,qn,qc⟩:=q;simp only at c0 c1 c2 Yk HVQ;obtain⟨B,hB⟩:∃B,B=wI s f D args[k] ps[k]:=⟨_,rfl⟩
    rw[<-hB] at HVQ;have jL:=ai hB;unfold fN at *;clear hB hq g6 HPQ;go_upto_region 9 with fail;obtain⟨y,hy⟩:∃y:Nat,y=wr.heap.size:=⟨_,rfl⟩
    obtain⟨w1,hw1⟩:∃w1,w1=wr.alloc (.cells #[.int .i64 args[k].op,.string args[k].name,.slice nJ nD nG,.int .i64 args[k].lo,.int .i64 args[k].hi,.slice nK nE nI] 45):=⟨_,rfl⟩
    have hx1:Ext wr w1:=by rw[hw1];exact(Tz wr).alloc _
    have jm:=ai (show w1.heap[y]?=some (.cells #[.int .i64 args[k].op,.string args[k].name,.slice nJ nD nG,.int .i64 args[k].lo,.int .i64 args[k].hi,.slice nK nE nI] 45 (0,0)) by rw[hw1,hy];exact bR wr _);rw[<-hw1,<-hy];clear hw1 hy;have dI:=ai (gZ.o.trans hx1);have G61:=ai (G6.o.ext hx1);have HD0:=ai (hx1.blk Sa.o);have tU:=ai (hx1.blk mE.o);have pY:=ai (hx1.blk iP.o)
    replace c0:=hx1.cell c0
    replace c1:=hx1.cell c1
    replace c2:=hx1.cell c2
    clear e0 e1 e2 ef r0 r1 r2 rf g0 g1 g2 g3 g4 g5 kL hx1;obtain⟨e0,e1,e2,ef⟩:=dM HD0.o;obtain⟨r0,r1,r2,rf⟩:=dM pY.o;obtain⟨g0,g1,g2,g3,g4,g5,gf⟩:=cX jm.o;by_cases hqb:qb=true
    case neg =>
     obtain rfl:qb=false:=by simpa using hqb
     have HQ:=ai (show R=false by rw[nL.o];exact Ak k hka hkp fun h=>by have h1:=Yk.o;rw[h.2] at h1;cases h1);clear hqb;go_wp2_with fail;go_quiet (fail)
     go_wp2_with fail;go_ret;exact bW (by rw[HQ.o]) (dI.o.drewN _)
    subst hqb;go_wp2_with fail
    go_still_tail 17,(by kernel_rfl)
    change wpList _ _ _ _ _ w1.drew
    have hx2:Ext w1 w1.drew:=(Tz w1).drew;generalize w1.drew=w2 at hx2 ⊢;have dN:=ai (dI.o.trans hx2);have G62:=ai (G61.o.ext hx2);have aOG:=ai (hx2.blk HD0.o);have aOF:=ai (hx2.blk tU.o);have aOE:=ai (hx2.blk pY.o);clear hx2 e0 e1 e2 ef r0 r1 r2 rf g0 g1 g2 g3 g4 g5 gf c0 c1 c2;go_wp2_with fail;refine(HVQ.o _ w2 dN.o G62.o).mono ?_;rintro r w3 ⟨rfl,hx3⟩;have dS:=ai (dN.o.trans hx3);have HE0:=ai (hx3.blk aOG.o);have ue:=ai (hx3.blk aOF.o);have kH:=ai (hx3.blk aOE.o);clear hx3;cases B
    ·have HQ:=ai (show R=false by rw[nL.o];exact Ak k hka hkp fun h=>by rw[<-jL.o] at h;exact a40 h.1 (by decide));go_wp2_with fail;go_ret;exact bW (by rw[HQ.o]) dS.o
    go_wp2_with fail;go_roundw
    case rel =>
     refine⟨k+1,by go_num,by omega,fun j hj1 hj2 hjk=>?_,HE0.o,ue.o,kH.o,dS.o⟩;by_cases e:j=k
     ·subst e;exact⟨jL.o.symm,Yk.o.symm⟩
     exact mK.o j hj1 hj2 (by omega)
    case measure=>simp[intOf];omega
   have t1:=ah ((k:Int)<(pn:Int));have HF:=ai (show R=true by
    rw[nL.o];exact NI args ps (by have:=HN.o;have:=kJ.o;omega) fun i h1 h2=>mK.o i h1 h2 (by have:=kJ.o;omega))
   go_wp2_with fail;go_ret;exact bW (by rw[HF.o]) gZ.o
 go_wp2_with fail;clear f0 f1 f2 f3 f4 f5 ff e0 e1 e2 ef r0 r1 r2 rf kL;go_loopw [72] (aSg s f D false args ps pn w.heap.size (.cells #[.slice sa sn sc,.map (some bm),.slice fa fn fc] 183 (0,0)) (.cells #[.int .i64 8,.string name,.slice aw nw cw,lo,hi,.slice aa pn ca] 45 (0,0)) (.cells #[.bool false,.int .i64 (-1),.slice pa pn pc] 67 (0,0)) w) (fun i _=>pn - (intOf i).toNat)
 case atStart=>exact⟨0,rfl,by omega,fun j _ _ h=>by omega,iO.o,gG.o,fY.o,dm.o⟩
 case round =>
  obtain⟨k,rfl,hk,hall,hb0,hb1,hb2,lM⟩:=hrel;have mK:=ai hall;have gZ:=ai lM;obtain⟨e0,e1,e2,ef⟩:=dM hb0;obtain⟨r0,r1,r2,rf⟩:=dM hb2;have kL:=bS hb2;have Sa:=ai hb0;have mE:=ai hb1;have iP:=ai hb2;clear hall lM hb0 hb1 hb2;by_cases hkn:k<pn
  ·have hka:k<args.length:=by have:=kJ.o;omega
   have hkp:k<ps.length:=by have:=HN.o;omega
   have t1:=ag ((k:Int)<(pn:Int));obtain⟨xb,xo,rfl,nJ,nD,nG,nK,nE,nI,g0,g1,g2,g3,g4,g5,g6⟩:=eU.at args _ (eU.ext gZ.o args _ HX.o) k hka;have G6:=ai g6;obtain⟨b,off,q,rfl,hq,c0,c1,c2⟩:=H6.o k hkp
   replace c0:=gZ.o.cell c0
   replace c1:=gZ.o.cell c1
   replace c2:=gZ.o.cell c2
   have HPQ:=ai hq;have HVQ:=ai (fun xv W (hW:Ext w W) qV=>HV.o k hka xv ps[k] _ W (aD hkp) hW qV (HPQ.o.ext hW));have Yk:=ai hq.parts.1;obtain⟨qb,qk,qa,qn,qc⟩:=q;simp only at c0 c1 c2 Yk HVQ;obtain⟨B,hB⟩:∃B,B=wI s f D args[k] ps[k]:=⟨_,rfl⟩
   rw[<-hB] at HVQ;have jL:=ai hB;unfold fN at *;clear hB hq g6 HPQ;go_upto_region 9 with fail;obtain⟨y,hy⟩:∃y:Nat,y=wr.heap.size:=⟨_,rfl⟩
   obtain⟨w1,hw1⟩:∃w1,w1=wr.alloc (.cells #[.int .i64 args[k].op,.string args[k].name,.slice nJ nD nG,.int .i64 args[k].lo,.int .i64 args[k].hi,.slice nK nE nI] 45):=⟨_,rfl⟩
   have hx1:Ext wr w1:=by rw[hw1];exact(Tz wr).alloc _
   have jm:=ai (show w1.heap[y]?=some (.cells #[.int .i64 args[k].op,.string args[k].name,.slice nJ nD nG,.int .i64 args[k].lo,.int .i64 args[k].hi,.slice nK nE nI] 45 (0,0)) by rw[hw1,hy];exact bR wr _);rw[<-hw1,<-hy];clear hw1 hy;have dI:=ai (gZ.o.trans hx1);have G61:=ai (G6.o.ext hx1);have HD0:=ai (hx1.blk Sa.o);have tU:=ai (hx1.blk mE.o);have pY:=ai (hx1.blk iP.o)
   replace c0:=hx1.cell c0
   replace c1:=hx1.cell c1
   replace c2:=hx1.cell c2
   clear e0 e1 e2 ef r0 r1 r2 rf g0 g1 g2 g3 g4 g5 kL hx1;obtain⟨e0,e1,e2,ef⟩:=dM HD0.o;obtain⟨r0,r1,r2,rf⟩:=dM pY.o;obtain⟨g0,g1,g2,g3,g4,g5,gf⟩:=cX jm.o;by_cases hqb:qb=false
   case neg =>
    obtain rfl:qb=true:=by simpa using hqb
    have HQ:=ai (show R=false by rw[nL.o];exact Ak k hka hkp fun h=>by have h1:=Yk.o;rw[h.2] at h1;cases h1);clear hqb;go_wp2_with fail;go_quiet (fail)
    go_wp2_with fail;go_ret;exact bW (by rw[HQ.o]) (dI.o.drewN _)
   subst hqb;go_wp2_with fail
   go_still_tail 17,(by kernel_rfl)
   change wpList _ _ _ _ _ w1.drew
   have hx2:Ext w1 w1.drew:=(Tz w1).drew;generalize w1.drew=w2 at hx2 ⊢;have dN:=ai (dI.o.trans hx2);have G62:=ai (G61.o.ext hx2);have aOG:=ai (hx2.blk HD0.o);have aOF:=ai (hx2.blk tU.o);have aOE:=ai (hx2.blk pY.o);clear hx2 e0 e1 e2 ef r0 r1 r2 rf g0 g1 g2 g3 g4 g5 gf c0 c1 c2;go_wp2_with fail;refine(HVQ.o _ w2 dN.o G62.o).mono ?_;rintro r w3 ⟨rfl,hx3⟩;have dS:=ai (dN.o.trans hx3);have HE0:=ai (hx3.blk aOG.o);have ue:=ai (hx3.blk aOF.o);have kH:=ai (hx3.blk aOE.o);clear hx3;cases B
   ·have HQ:=ai (show R=false by rw[nL.o];exact Ak k hka hkp fun h=>by rw[<-jL.o] at h;exact a40 h.1 (by decide));go_wp2_with fail;go_ret;exact bW (by rw[HQ.o]) dS.o
   go_wp2_with fail;go_roundw
   case rel =>
    refine⟨k+1,by go_num,by omega,fun j hj1 hj2 hjk=>?_,HE0.o,ue.o,kH.o,dS.o⟩;by_cases e:j=k
    ·subst e;exact⟨jL.o.symm,Yk.o.symm⟩
    exact mK.o j hj1 hj2 (by omega)
   case measure=>simp[intOf];omega
  have t1:=ah ((k:Int)<(pn:Int));have HF:=ai (show R=true by
   rw[nL.o];exact NI args ps (by have:=HN.o;have:=kJ.o;omega) fun i h1 h2=>mK.o i h1 h2 (by have:=kJ.o;omega))
  go_wp2_with fail;go_ret;exact bW (by rw[HF.o]) gZ.o
def aPK (s:List Attr) (f:ZI) (D:BA->Option (Pr->Bool)) (op:Int) (name:BA) (words:ZB) (lo hi:Int) (args:List Ex) (p:Pr):Bool :=
 if op=6 then (p.pick == -1)&&decide (p.args.length=1)&&p.args.all (fun q=>uH s f D args 0 q&&(p.value==!q.value))
 else if op=7\/op=8 then atH s f D op args p
 else match (if op=3 then D name else none) with
  | some g=>(p.pick == -1)&&decide (p.args.length=1)&&p.args.all (fun q=>g q&&(p.value==q.value))
  | none=>(p.pick == -1)&&p.args.isEmpty&&(p.value==um s f op name words lo hi)
theorem aLh (s:List Attr) (f:ZI) (D:BA->Option (Pr->Bool)) (e:Ex) (p:Pr):wI s f D e p=aPK s f D e.op e.name e.words e.lo e.hi e.args p:=aHj s f D e p
theorem singB_true {p:Pr} {P:Pr->Bool} (h:vw p P=true):p.pick = -1/\∃q,p.args=[q]/\P q=true:=by
 unfold vw at h;simp only[aF,a47,aH] at h;obtain⟨q,hq⟩:=Ao h.1.2;rw[hq] at h;exact⟨h.1.1,q,hq,by simpa using h.2⟩
theorem aj0 {p:Pr} {P P':Pr->Bool} (h:∀q∈p.args,P' q=true->P q=true) (hf:vw p P=false):vw p P'=false:=by
 cases hs:vw p P'
 ·rfl
 obtain⟨h1,q,h2,h3⟩:=singB_true hs;have:vw p P=true:=by unfold vw;rw[h1,h2];simp[h q (by rw[h2];simp) h3]
 rw[this] at hf;cases hf
theorem ajZ {p:Pr} {P P':Pr->Bool} {q:Pr} (h:vw p P=true) (hq:p.args=[q]):vw p P'=P' q:=by
 obtain⟨h1,q',h2,h3⟩:=singB_true h;rw[hq] at h2;obtain rfl:q=q':=by simpa using h2
 unfold vw;rw[h1,hq];simp
theorem alY (s:List Attr) (l:List cK) (f:ZI) (hc:Chk s l) (qx:fW s f=true) (lv:fT) (nm:Nat):∀(g m:Nat) (e:Ex) (ev:Value) (p:Pr) (pv:gS) (w:World),e.size<=m->m<=1000000->gq e->dr s l e=0->jT l g e<=2000->A3 w s l f lv nm->dw w e ev->gL w p pv ->
  Calls Tryz.prog 130 #[lv.val,ev,pv.val] w (cz (.bool (js s l f g e p)) w):=by
 intro g;induction g with
 | zero=>intro m e ev p pv w _ _ _ _ h;simp[jT] at h
 | succ g ihg =>
  intro m;induction m with
  | zero=>intro e ev p pv w h;have:=size_pos e;omega
  | succ m ihm =>
   intro e ev p pv w hm Re hok hnd hex hl he hp;have GG:=Fa hc hok hnd;have hfw:=JB hok hnd;obtain⟨-,RA⟩:=wT hnd;obtain⟨agE,Rz⟩:=iR hok;have RB:=KF (D:=Sj l g) (e:=e) (by rw[<-j9];exact hex);have TG:=Qn (D:=Sj l g) (e:=e) (by rw[<-j9];exact hex);obtain⟨R,hR⟩:∃R,R=js s l f (g+1) e p:=⟨_,rfl⟩
   rw[<-hR];obtain⟨V,hV⟩:∃V,V=(fun x=>(dz l x).map fun d=>js s l f g (l.getD d fC).cond):=⟨_,rfl⟩
   have hvf:∀e q,js s l f (g+1) e q=wI s f V e q:=fun e q=>by rw[hV];rfl
   rw[hvf,aLh] at hR;have mF:=ai (fun (j:Nat) (hj:j<e.args.length) (xv:Value) (q:Pr) (qv:gS) (W:World) (hW:Ext w W) (qV:dw W e.args[j] xv) (hq:gL W q qv)=>show Calls Tryz.prog 130 #[lv.val,xv,qv.val] W (cz (.bool (wI s f V e.args[j] q)) W) from by
    rw[<-hvf];exact ihm e.args[j] xv q qv W (by have h1:=eD e.args j hj;have h2:=dX e.args (j+1);have h3:=e.size_eq;omega) (by omega) (Rz _ (aD hj)) (RA j hj) (by rw[j9];exact RB j hj) (hl.ext hW) qV hq)
   have CW:=ai (fun (h3:e.op=3) (d:Nat) (hd:dz l e.name=some d) (xv:Value) (q:Pr) (qv:gS) (W:World) (hW:Ext w W) (qV:dw W (l.getD d fC).cond xv) (hq:gL W q qv)=>ihg 300 (l.getD d fC).cond xv q qv W (hc.cond (ju hd).1).2.2 (by omega) (hc.cond (ju hd).1).1 (hc.cond (ju hd).1).2.1 (TG h3 (by unfold Sj;rw[hd];rfl)) (hl.ext hW) qV hq);have Eo:=ai (fun h5 W (hW:Ext w W)=>XP s l f lv nm hc.x7 qx e ev W (hl.ext hW) (he.ext hW) hok h5);have VN:=ai (fun W (hW:Ext w W)=>Fv s l f lv nm e ev W (hl.ext hW) (he.ext hW) (by have:=(IY hok).2;omega));have HSV:=ai (show ∀W,Ext w W->Calls Tryz.prog 161 #[lv.val,ev,pv.val] W (cz (.bool (atH s f V e.op e.args p)) W) from fun W hW =>
    ait s f V lv e ev p pv W (he.ext hW) (by have h1:=eR e.args;have h3:=e.size_eq;omega) (hp.ext hW) fun j hj xv q qv W' _ hW' qV hq=>mF.o j hj xv q qv W' (hW.trans hW') qV hq)
   have HSG:=ai (fun (h:0<e.args.length) (x:dK) W (hW:Ext w W) (hx:dw W e.args[0] x.val)=>Zc lv x p pv (wI s f V e.args[0]) W (hp.ext hW) fun q qv W' _ hW' hq=>mF.o 0 h x.val q qv W' (hW.trans hW') (hx.ext hW') hq);have Lh:=ai (fun (h3:e.op=3) (d:Nat) (hd:dz l e.name=some d) (x:dK) W (hW:Ext w W) (hx:dw W (l.getD d fC).cond x.val)=>Zc lv x p pv (js s l f g (l.getD d fC).cond) W (hp.ext hW) fun q qv W' _ hW' hq=>CW.o h3 d hd x.val q qv W' (hW.trans hW') (hx.ext hW') hq);have HVV:=ai (show ∀d,dz l e.name=some d->V e.name=some (js s l f g (l.getD d fC).cond) from fun d hd=>by rw[hV];simp only[hd];rfl);have Lg:=ai (show dz l e.name=none->V e.name=none from fun hd=>by rw[hV];simp only[hd];rfl);obtain⟨h1,h2,h3,-,-,h6⟩:=hp.parts;have Es:=ai hfw;have Ks:e.args.length<=1000000:=by have h1:=eR e.args;have h3:=e.size_eq;omega
   obtain⟨aw,nw,cw,aa,na,ca,rfl,hw,hna,hca,ha,hx⟩:=he.parts;have HR:=ai hR;clear hc qx hl hw hca ha ihg ihm hm RA Rz RB TG agE hok hnd hex he hR hvf hV hfw mF CW hp;obtain⟨op,name,words,lo,hi,args⟩:=e;simp only[Ex.op,Ex.name,Ex.words,Ex.lo,Ex.hi,Ex.args] at *;unfold aPK at HR;have HX:=ai hx;have kJ:=ai hna;clear hx hna;obtain⟨pb,pk,pa,pn,pc⟩:=pv;simp only at h1 h2 h3 h6;have CD:=ai h1;have oZ:=ai h2;have EN:=ai h3;have H6:=ai h6;clear h1 h2 h3 h6;obtain⟨sa,sn,sc,bm,fa,fn,fc⟩:=lv;unfold fN fT.val gS.val at *;simp only at *;obtain⟨wa,cN⟩:∃wa,wa=((w.alloc (.cells #[.slice sa sn sc,.map (some bm),.slice fa fn fc] 183)).alloc (.cells #[ op,.string name,.slice aw nw cw,lo,hi,.slice aa na ca] 45)).alloc (.cells #[.bool pb,pk,.slice pa pn pc] 67):=⟨_,rfl⟩
   have gB:Ext w wa:=by rw[cN];exact(((Tz _).alloc _).alloc _).alloc _
   have hb0:wa.heap[w.heap.size]?=some (.cells #[.slice sa sn sc,.map (some bm),.slice fa fn fc] 183 (0,0)):=by rw[cN];exact bU (bU (bR w _))
   have hb1:wa.heap[w.heap.size+1]?=some (.cells #[ op,.string name,.slice aw nw cw,lo,hi,.slice aa na ca] 45 (0,0)):=by rw[cN];exact bU (cT (by simp))
   have hb2:wa.heap[w.heap.size+1+1]?=some (.cells #[.bool pb,pk,.slice pa pn pc] 67 (0,0)):=by rw[cN];exact cT (by simp)
   have dm:=ai gB;have iO:=ai hb0;have gG:=ai hb1;have fY:=ai hb2;obtain⟨f0,f1,f2,f3,f4,f5,ff⟩:=cX hb1;obtain⟨e0,e1,e2,ef⟩:=dM hb0;obtain⟨r0,r1,r2,rf⟩:=dM hb2;have kL:=bS hb2;clear gB hb0 hb1 hb2;rcases GG with ⟨h6,hdn⟩|⟨rfl,hat,d,hdf⟩|⟨rfl,sA⟩|h78
   ·have t6:(op==6)=false:=by simp[h6.1]
    have t7:(op==7)=false:=by simp[h6.2.1]
    have t8:(op==8)=false:=by simp[h6.2.2]
    have HQ:=ai (show R=((pk == -1)&&decide (pn=0)&&(pb==um s f op name words lo hi)) by
     have e1:p.args.isEmpty=decide (pn=0):=by rw[EN.o];cases p.args<;>simp
     rw[HR.o,bL h6.1,bL (by omega),<-CD.o,<-oZ.o];by_cases h3:op=3
     ·rw[bM h3,Lg.o (hdn h3),<-e1]
     rw[bL h3,<-e1])
    have aos:=ai (Eo.o (Es.o h6 hdn));obtain⟨B,hB⟩:∃B,B=um s f op name words lo hi:=⟨_,rfl⟩
    rw[<-hB] at HQ aos;have HDN:=ai hdn;clear h6 hdn hB Eo Es HSV HSG Lh HVV Lg HR H6 CD oZ EN;go_enter Tryz.func130,Tryz.ntmps130
    go_upto_region 1 with fail;rw[<-cN];clear cN;go_wp2_with fail;refine(VN.o wa dm.o).mono ?_;rintro r w3 ⟨hx3,hq⟩;rcases hq with ⟨h3,d,v,hd,-⟩|⟨-,rfl⟩
    ·rw[HDN.o h3] at hd;cases hd
    have dS:=ai (dm.o.trans hx3);have wQ:=ai (hx3.blk iO.o);have nW:=ai (hx3.blk gG.o);have Ls:=ai (hx3.blk fY.o);clear f0 f1 f2 f3 f4 f5 ff e0 e1 e2 ef r0 r1 r2 rf kL hx3;unfold TU;go_upto_region 8 with fail;obtain⟨w4,hw4⟩:∃w4,w4=w3.alloc (.cells #[.int .i64 0,.string ⟨#[]⟩,.slice none 0 0,.int .i64 0,.int .i64 0,.slice none 0 0] 45):=⟨_,rfl⟩
    have gV:Ext w3 w4:=by rw[hw4];exact(Tz _).alloc _
    rw[<-hw4];clear hw4;have jl:=ai (dS.o.trans gV);obtain⟨f0,f1,f2,f3,f4,f5,ff⟩:=cX (gV.blk nW.o);obtain⟨e0,e1,e2,ef⟩:=dM (gV.blk wQ.o);obtain⟨r0,r1,r2,rf⟩:=dM (gV.blk Ls.o);have kL:=bS (gV.blk Ls.o);clear gV wQ nW Ls;by_cases hk:pk = -1
    case neg =>
     have t1:(pk == -1)=false:=by simp[hk]
     have HF:=ai (show R=false by rw[HQ.o,t1];rfl);clear hk;go_wp2_with fail;go_quiet (fail)
     go_wp2_with fail;go_ret;exact bW (by rw[HF.o]) (jl.o.drewN _)
    subst hk;by_cases hn:pn=0
    case neg =>
     have t1:((pn:Int)==0)=false:=by simp;omega
     have HF:=ai (show R=false by rw[HQ.o];simp[hn]);clear hn;go_wp2_with fail;go_quiet (fail)
     go_wp2_with fail;go_ret;exact bW (by rw[HF.o]) (jl.o.drewN _)
    subst hn;have HF:=ai (show R=(pb==B) by rw[HQ.o];simp);obtain⟨T,hT⟩:∃T,T=(pb==B):=⟨_,rfl⟩
    have HT:=ai hT.symm;rw[<-hT] at HF;have aZC:=ai (fun W (hW:Ext w4 W)=>aos.o W (jl.o.trans hW));clear hT aos HQ VN;go_wp2_with fail;obtain⟨Z0,Z1,Z2,Z3,Z4,Z5⟩:=wcn6 e0 e1 e2 f0 f1 f2;obtain⟨Z6,Z7,Z8,Z9,Z10,Z11⟩:=wcn6 f3 f4 f5 r0 r1 r2;refine kT 18 ?_
    repeat first|(refine bZ ?_;intro Ka cH;go_big_quiet_op;go_big_quiet_on)|(refine zX ?_;intro Ka cH;go_simp;go_big_quiet_on)
    refine mU (fun W hW=>aZC.o W hW) ?_;intro Ka cH;go_simp;go_big_quiet_on
    repeat first|(refine bZ ?_;intro Ka cH;go_big_quiet_op;go_big_quiet_on)|(refine zX ?_;intro Ka cH;go_simp;go_big_quiet_on)
    refine gC fun W hW2 _ _=>?_
    go_wp2_with fail;go_ret;exact bW (by rw[HF.o];exact HT.o) (jl.o.trans hW2)
   ·have Yn:=ai (show R=vw p (fun q=>js s l f g (l.getD d fC).cond q&&(p.value==q.value)) by
     rw[HR.o,bL (by decide),bL (by decide),bM rfl,HVV.o d hdf];rfl)
    have aNK:=ai (Lh.o rfl d hdf);obtain⟨B,hB⟩:∃B,B=vw p (js s l f g (l.getD d fC).cond):=⟨_,rfl⟩
    rw[<-hB] at aNK;have jL:=ai hB;have QM:=ai hdf;clear hat hdf hB Eo Es HSV HSG Lh HVV Lg HR;go_enter Tryz.func130,Tryz.ntmps130
    go_upto_region 1 with fail;rw[<-cN];clear cN;go_wp2_with fail;refine(VN.o wa dm.o).mono ?_;rintro r w3 ⟨hx3,hq⟩;rcases hq with ⟨-,d',v,hd,rfl,hv⟩|⟨hd,-⟩
    case inr =>
     rcases hd with hd|hd
     ·exact a40 rfl hd
     rw[QM.o] at hd;cases hd
    rw[QM.o] at hd;obtain rfl:d=d':=by simpa using hd
    have dS:=ai (dm.o.trans hx3);have zq:=ai hv;have wQ:=ai (hx3.blk iO.o);have Ls:=ai (hx3.blk fY.o);clear f0 f1 f2 f3 f4 f5 ff e0 e1 e2 ef r0 r1 r2 rf kL hx3 hv hd;unfold dK.val fN at *;obtain⟨v0,v1,v2,v3,v4,v5,v6,v7,v8,v9⟩:=v;simp only at *;go_upto_region 8 with fail;obtain⟨w4,hw4⟩:∃w4,w4=w3.alloc (.cells #[ v0,.string v1,.slice v2 v3 v4,v5,v6,.slice v7 v8 v9] 45):=⟨_,rfl⟩
    obtain⟨y,hy⟩:∃y,y=w3.heap.size:=⟨_,rfl⟩
    have gV:Ext w3 w4:=by rw[hw4];exact(Tz _).alloc _
    have hby:w4.heap[y]?=some (.cells #[ v0,.string v1,.slice v2 v3 v4,v5,v6,.slice v7 v8 v9] 45 (0,0)):=by rw[hw4,hy];exact bR w3 _
    rw[<-hw4,<-hy];clear hw4 hy;have jl:=ai (dS.o.trans gV);obtain⟨f0,f1,f2,f3,f4,f5,ff⟩:=cX hby;obtain⟨e0,e1,e2,ef⟩:=dM (gV.blk wQ.o);obtain⟨r0,r1,r2,rf⟩:=dM (gV.blk Ls.o);have acf:=ai (fun W (hW:Ext w4 W)=>aNK.o ⟨v0,v1,v2,v3,v4,v5,v6,v7,v8,v9⟩ W (jl.o.trans hW) (zq.o.ext (gV.trans hW)));simp only at acf;clear gV wQ Ls aNK hby;cases B
    ·have HF:=ai (show R=false by
      rw[Yn.o];exact aj0 (fun q _ h=>by simp only[aF] at h;exact h.1) jL.o.symm)
     go_wp2_with fail;obtain⟨Z0,Z1,Z2,Z3,Z4,Z5⟩:=wcn6 e0 e1 e2 f0 f1 f2;obtain⟨Z6,Z7,Z8,Z9,Z10,Z11⟩:=wcn6 f3 f4 f5 r0 r1 r2;refine kT 15 ?_
     repeat first|(refine bZ ?_;intro Ka cH;go_big_quiet_op;go_big_quiet_on)|(refine zX ?_;intro Ka cH;go_simp;go_big_quiet_on)
     refine mU (fun W hW=>acf.o W hW) ?_;intro Ka cH;go_simp;go_big_quiet_on
     repeat first|(refine bZ ?_;intro Ka cH;go_big_quiet_op;go_big_quiet_on)|(refine zX ?_;intro Ka cH;go_simp;go_big_quiet_on)
     refine gC fun W hW2 _ _=>?_
     go_wp2_with fail;go_ret;exact bW (by rw[HF.o]) (jl.o.trans hW2)
    obtain⟨-,q,hq1,hq2⟩:=singB_true jL.o.symm;have Cr:pn=1:=by rw[EN.o,hq1];rfl
    obtain⟨b,off,qv,rfl,hqv,c0,c1,c2⟩:=H6.o 0 (by rw[hq1];simp);simp only[Nat.zero_mul,Nat.add_zero] at c0 c1 c2;subst Cr
    replace c0:=jl.o.cell c0
    replace c1:=jl.o.cell c1
    replace c2:=jl.o.cell c2
    have HQV:=ai (show qv.value=q.value by have:=hqv.parts.1;simpa[hq1] using this);obtain⟨qb,qk,qa,qn,qc⟩:=qv;simp only at c0 c1 c2 HQV;have HF0:=ai (show R=(pb==qb) by rw[Yn.o,ajZ jL.o.symm hq1,hq2,Bool.true_and,<-CD.o,<-HQV.o]);clear hq1 hq2 hqv;obtain⟨T,hT⟩:∃T,T=(pb==qb):=⟨_,rfl⟩
    have HT:=ai hT.symm;rw[<-hT] at HF0;clear hT;go_wp2_with fail;obtain⟨Z0,Z1,Z2,Z3,Z4,Z5⟩:=wcn6 e0 e1 e2 f0 f1 f2;obtain⟨Z6,Z7,Z8,Z9,Z10,Z11⟩:=wcn6 f3 f4 f5 r0 r1 r2;have Z12:=bT c0;refine kT 15 ?_
    repeat first|(refine bZ ?_;intro Ka cH;go_big_quiet_op;go_big_quiet_on)|(refine zX ?_;intro Ka cH;go_simp;go_big_quiet_on)
    refine mU (fun W hW=>acf.o W hW) ?_;intro Ka cH;go_simp;go_big_quiet_on
    repeat first|(refine bZ ?_;intro Ka cH;go_big_quiet_op;go_big_quiet_on)|(refine zX ?_;intro Ka cH;go_simp;go_big_quiet_on)
    refine gC fun W hW2 _ _=>?_
    go_wp2_with fail;go_ret;exact bW (by rw[HF0.o];exact HT.o) (jl.o.trans hW2)
   ·have hj:0<args.length:=by omega
    have Yn:=ai (show R=vw p (fun q=>wI s f V args[0] q&&(p.value==!q.value)) by
     rw[HR.o,bM rfl];unfold vw;simp only[E8,aT hj,Option.map_some,Option.getD_some])
    have hnp:0<na:=by have:=kJ.o;omega
    obtain⟨xb,xo,rfl,nJ,nD,nG,nK,nE,nI,g0,g1,g2,g3,g4,g5,g6⟩:=eU.at args _ (eU.ext dm.o args _ HX.o) 0 hj;simp only[Nat.zero_mul,Nat.add_zero] at g0 g1 g2 g3 g4 g5;have G6:=ai g6;have acf:=ai (fun W (hW:Ext wa W)=>HSG.o hj ⟨args[0].op,args[0].name,nJ,nD,nG,args[0].lo,args[0].hi,nK,nE,nI⟩ W (dm.o.trans hW) (G6.o.ext hW));unfold dK.val fN at acf;simp only at acf;obtain⟨B,hB⟩:∃B,B=vw p (wI s f V args[0]):=⟨_,rfl⟩
    rw[<-hB] at acf;have jL:=ai hB;obtain⟨x0,hx0⟩:∃x0,x0=args[0].op:=⟨_,rfl⟩
    obtain⟨x1,hx1⟩:∃x1,x1=args[0].name:=⟨_,rfl⟩
    obtain⟨x5,dh⟩:∃x5,x5=args[0].lo:=⟨_,rfl⟩
    obtain⟨x6,gN⟩:∃x6,x6=args[0].hi:=⟨_,rfl⟩
    rw[<-hx0] at g0 acf;rw[<-hx1] at g1 acf;rw[<-dh] at g3 acf;rw[<-gN] at g4 acf;clear sA hB g6 Eo Es HSV HSG Lh HVV Lg HR VN hx0 hx1 dh gN;go_enter Tryz.func130,Tryz.ntmps130
    go_upto_region 1 with fail;rw[<-cN];clear cN;cases B
    ·have HF:=ai (show R=false by
      rw[Yn.o];exact aj0 (fun q _ h=>by simp only[aF] at h;exact h.1) jL.o.symm)
     go_wp2_with fail;obtain⟨Z0,Z1,Z2,Z3,Z4,Z5⟩:=wcn6 e0 e1 e2 f0 f1 f2;obtain⟨Z6,Z7,Z8,Z9,Z10,Z11⟩:=wcn6 f3 f4 f5 r0 r1 r2;obtain⟨Z12,Z13,Z14,Z15,Z16,Z17⟩:=wcn6 g0 g1 g2 g3 g4 g5;refine kT 18 ?_
     repeat first|(refine bZ ?_;intro Ka cH;go_big_quiet_op;go_big_quiet_on)|(refine zX ?_;intro Ka cH;go_simp;go_big_quiet_on)
     refine mU (fun W hW=>acf.o W hW) ?_;intro Ka cH;go_simp;go_big_quiet_on
     repeat first|(refine bZ ?_;intro Ka cH;go_big_quiet_op;go_big_quiet_on)|(refine zX ?_;intro Ka cH;go_simp;go_big_quiet_on)
     refine gC fun W hW2 _ _=>?_
     go_wp2_with fail;go_ret;exact bW (by rw[HF.o]) (dm.o.trans hW2)
    obtain⟨-,q,hq1,hq2⟩:=singB_true jL.o.symm;have Cr:pn=1:=by rw[EN.o,hq1];rfl
    obtain⟨b,off,qv,rfl,hqv,c0,c1,c2⟩:=H6.o 0 (by rw[hq1];simp);simp only[Nat.zero_mul,Nat.add_zero] at c0 c1 c2;subst Cr
    replace c0:=dm.o.cell c0
    replace c1:=dm.o.cell c1
    replace c2:=dm.o.cell c2
    have HQV:=ai (show qv.value=q.value by have:=hqv.parts.1;simpa[hq1] using this);obtain⟨qb,qk,qa,qn,qc⟩:=qv;simp only at c0 c1 c2 HQV;have HF0:=ai (show R=(!(pb==qb)) by rw[Yn.o,ajZ jL.o.symm hq1,hq2,Bool.true_and,<-CD.o,<-HQV.o];cases pb<;>cases qb<;>rfl);clear hq1 hq2 hqv;go_wp2_with fail;obtain⟨Z0,Z1,Z2,Z3,Z4,Z5⟩:=wcn6 e0 e1 e2 f0 f1 f2;obtain⟨Z6,Z7,Z8,Z9,Z10,Z11⟩:=wcn6 f3 f4 f5 r0 r1 r2;obtain⟨Z12,Z13,Z14,Z15,Z16,Z17⟩:=wcn6 g0 g1 g2 g3 g4 g5;have Z18:=bT c0;refine kT 18 ?_
    repeat first|(refine bZ ?_;intro Ka cH;go_big_quiet_op;go_big_quiet_on)|(refine zX ?_;intro Ka cH;go_simp;go_big_quiet_on)
    refine mU (fun W hW=>acf.o W hW) ?_;intro Ka cH;go_simp;go_big_quiet_on
    repeat first|(refine bZ ?_;intro Ka cH;go_big_quiet_op;go_big_quiet_on)|(refine zX ?_;intro Ka cH;go_simp;go_big_quiet_on)
    refine gC fun W hW2 _ _=>?_
    go_wp2_with fail;go_ret;exact bW (by rw[HF0.o]) (dm.o.trans hW2)
   have HQ:=ai (show R=atH s f V op args p by rw[HR.o,bL (by omega),bM h78]);obtain⟨B,hB⟩:∃B,B=atH s f V op args p:=⟨_,rfl⟩
   rw[<-hB] at HQ HSV;clear hB Eo Es HSG Lh HVV Lg HR VN;rcases h78 with rfl|rfl
   all_goals
    go_enter Tryz.func130,Tryz.ntmps130
    go_upto_region 1 with fail;rw[<-cN];clear cN;go_wp2_with fail;refine(HSV.o wa dm.o).mono ?_;rintro r w6 ⟨rfl,gN⟩;have kR:=ai (dm.o.trans gN);clear gN;go_wp2_with fail;go_ret;exact bW (by rw[HQ.o]) kR.o
open Go.RowKit
def pcd:BA:=⟨#[99,45]⟩
theorem oG (la:OA) (ln lc:Nat) (w0 w:World) (h:dR w0 la ln) (hx:Ext w0 w) (hl:ln<=1000000000000000):Calls Tryz.prog 17 #[.slice la ln lc] w (fun e w'=>∃bd,e=.returned (.pointer (some ⟨bd,0,none⟩))/\cg w0 w' bd/\Ext w w'/\w.heap.size<=bd):=by
 have HX:=ai hx;clear hx;go_enter Tryz.func17,Tryz.ntmps17
 go_wp2_with fail;go_ret;exact⟨w.heap.size,rfl,⟨la,ln,lc,0,bR w _,by omega,hl,h,HX.o.trans ((Tz w).alloc _),HX.o.size⟩,(Tz w).alloc _,aU _⟩
def intCells (z:Int):List Value:=[.int .i64 z]
def a0C (attrs:List Attr) (w0:World) (bd:Nat) (M:ZN) (w:World) (e:Ending) (w':World):Prop:=∃(f:ZI) (a:OA) (c:Nat),e=.returned (.slice a f.length c)/\fW attrs f=true/\f.length<=1000/\dG (mask w' M) f a f.length/\cg w0 w' bd/\ct [bd] w w'
def a0D (attrs:List Attr) (w0 w:World) (bd bs base:Nat) (o:Obj) (v i:Value) (wr:World):Prop:=∃f:ZI,i=.int .i64 (f.length:Nat)/\f.length<=attrs.length/\(∀j (h1:j<attrs.length) (h2:j<f.length),(yS attrs[j]).1<=f[j]/\f[j]<=(yS attrs[j]).2)/\wr.ownsRow base 3 1 v f.length (f.flatMap intCells)/\wr.heap[bs]?=some o/\cg w0 wr bd/\ct [bd] w wr
theorem aps:(gi.all fun l=>decide (dy l=0)&&l.all fun a=>decide (a.name.size<=1000)&&(decide (a.words.length<=1000)&&a.words.all fun x=>decide (x.size<=1000)))=true:=by decide +kernel
theorem lD {l:List Attr} (h:l∈gi):dy l=0:=by
 have:=aP.1 aps l h;simp only[aF,aH] at this;exact this.1
theorem Bl {w:World} {M:ZN} {base:Nat} {v:Value} {f:ZI} (h:w.ownsRow base 3 1 v f.length (f.flatMap intCells)) (hM:∀k,v.ownBlock=some k->k∉M):∃a c,v=.slice a f.length c/\dG (mask w M) f a f.length:=by
 obtain⟨a,c,rfl,hr⟩:=eE.iZ (f:=intCells) (fun _=>rfl) h;refine⟨a,c,rfl,rfl,fun i hi=>?_⟩;obtain⟨b,off,rfl,hc⟩:=hr.2.2.2 i hi;refine⟨b,off,rfl,?_⟩;have:=hc 0 (by simp[intCells]);rw[eA,bL (hM _ rfl)];simpa[intCells] using this
theorem Gv {w:World} {base:Nat} {v:Value} {f:ZI} {k:Nat} {z:Int} (hk:k=f.length) (h:w.ownsRow base 3 1 v (k+1) (f.flatMap intCells++(#[Value.int .i64 z]:Array Value).toList)):w.ownsRow base 3 1 v (f++[z]).length ((f++[z]).flatMap intCells):=by
 have:(f++[z]).length=k+1:=by simp[hk]
 rw[this];simpa[intCells] using h
theorem DS {attrs:List Attr} (h0:dy attrs=0) (hf:∀x∈attrs,x.fits) {w0 w:World} {bd:Nat} (hd:cg w0 w bd) (sa:OA) (sn sc:Nat) (M:ZN) (hs:dB (mask w [bd]) attrs (.agg #[.slice sa sn sc])) (hM:∀y∈M,y<w.heap.size) :
  Calls Tryz.prog 38 #[.pointer (some ⟨bd,0,none⟩),.agg #[.slice sa sn sc]] w (a0C attrs w0 bd M w):=by
 obtain⟨q1,q2,q3⟩:=iQ h0;have qL:=hd.lt;have K8:=ai (show sn=attrs.length by obtain⟨a',n',c',e',h',-⟩:=hs.parts;simp at e';omega);have aZO:=ai (fun (i:Nat) (hi:i<attrs.length) W (hW:ct [bd] w W)=>V8 attrs (.agg #[.slice sa sn sc]) i W (((hs.mono (cP hW (by simp))).mono (cC _ _))) hf (by omega) h0 hi);have HAD:=ai (fun (i:Nat) (hi:i<attrs.length)=>ahF (q3 i hi).1);have HD:=ai hd;have HM:=ai hM;have Ng:=ai (show w0.heap.size<=w.heap.size by obtain⟨_,_,_,_,_,_,_,_,hxw,_⟩:=hd;exact hxw.size);clear hs hM hf q1 q3 h0 hd;obtain⟨wa,cN⟩:∃wa,wa=w.alloc (.cells #[.slice sa sn sc] 24):=⟨_,rfl⟩
 have gB:Ext w wa:=by rw[cN];exact(Tz _).alloc _
 have iO:=ai (show wa.heap[w.heap.size]?=some (.cells #[.slice sa sn sc] 24 (0,0)) by rw[cN];exact bR w _);have QM:=ai (HD.o.ext gB);have He:=ai (gB.cR [bd]);clear gB;go_enter Tryz.func38,Tryz.ntmps38
 go_upto_region 1 with fail;rw[<-cN];clear cN;go_wp2_with fail;go_loopw [5,6] (a0D attrs w0 w bd w.heap.size (w.heap.size+1) (.cells #[.slice sa sn sc] 24 (0,0))) (fun _ i _=>sn - (intOf i).toNat)
 case atStart=>exact⟨[],rfl,by simp,fun j _ h=>by simp at h,⟨rfl,aoX ⟨rfl,rfl⟩⟩,iO.o,QM.o,He.o⟩
 case round =>
  obtain⟨f,rfl,hk,hall,hown,hb0,hd,hc⟩:=hrel;obtain⟨k,Yx⟩:∃k,k=f.length:=⟨_,rfl⟩
  rw[<-Yx] at hown hk ⊢;have Nl:=ai Yx;have mK:=ai hall;have kD:=ai hown;have jL:=ai hb0;have YJ:=ai hd;have xW:=ai hc;obtain⟨e0,ef⟩:=dO hb0;have Sm:=ai (show ∀z∈rowOf u5,w.heap.size+1<=z/\z<wr.heap.size from fun z hz=>⟨(hown.lt z (bV.1 hz)).1,(hown.lt z (bV.1 hz)).2⟩);clear Yx hall hown hb0 hd hc;by_cases hkn:k<sn
  ·have hka:k<attrs.length:=by have:=K8.o;omega
   have t1:=ag ((k:Int)<(sn:Int));have yz:=ai (aZO.o k hka wr xW.o);obtain⟨hlh,hlo,hhi,-,-⟩:=HAD.o k hka;unfold ab0 at yz;obtain⟨lo,aHS⟩:∃lo,lo=(yS attrs[k]).1:=⟨_,rfl⟩
   obtain⟨hi,aHV⟩:∃hi,hi=(yS attrs[k]).2:=⟨_,rfl⟩
   rw[<-aHS,<-aHV] at yz;rw[<-aHS] at hlh hlo;rw[<-aHV] at hlh hhi;have HLV:=ai aHS;have HHV:=ai aHV;clear aHS aHV;go_wp2_with fail;refine yz.o.mono ?_;rintro r w1 ⟨rfl,hx1⟩;have tU:=ai (YJ.o.ext hx1);have mE:=ai (xW.o.then (hx1.cR [bd]));have gG:=ai (hx1.blk jL.o);have Jn:=ai (gF kD.o hx1);have rG:=ai (show ∀z∈rowOf u5,w.heap.size+1<=z/\z<w1.heap.size from fun z hz=>by have:=Sm.o z hz;have:=hx1.size;omega);clear hx1 e0 ef YJ xW jL kD Sm yz;go_wp2_with fail;refine(dx tU.o (hi - lo+1) (by omega) (by omega)).mono ?_;rintro r w2 ⟨r1,rfl,hr1,hr2,qd,hc2⟩;have pY:=ai qd;have iP:=ai (mE.o.then hc2);have fY:=ai (hc2.blk gG.o (by simp;omega));have tX:=ai (cO Jn.o hc2 (fun q hq hm=>by have:=(rG.o q (bV.2 hq)).1;simp only[aG] at hm;omega));have jI:=ai (show ∀z∈rowOf u5,w.heap.size+1<=z/\z<w2.heap.size from fun z hz=>by have:=rG.o z hz;have:=hc2.size;omega);clear qd hc2 tU mE gG Jn rG;have HLH:=ai (show lo<=hi/\0<=r1/\r1<hi - lo+1 from⟨hlh,hr1,hr2⟩);go_wp2_with fail;refine(dx pY.o 5 (by omega) (by omega)).mono ?_;rintro r w3 ⟨r3,rfl,hr3,hr4,CZ,hc3⟩;have wG:=ai CZ;have oD:=ai (iP.o.then hc3);have nU:=ai (hc3.blk fY.o (by simp;omega));have vF:=ai (cO tX.o hc3 (fun q hq hm=>by have:=(jI.o q (bV.2 hq)).1;simp only[aG] at hm;omega));have nL:=ai (show ∀z∈rowOf u5,w.heap.size+1<=z/\z<w3.heap.size from fun z hz=>by have:=jI.o z hz;have:=hc3.size;omega);clear CZ hc3 pY iP fY tX jI hlh hlo hhi hr1 hr2;rcases(by omega:r3=0\/r3=1\/r3=2\/(r3≠0/\r3≠1/\r3≠2)) with rfl|rfl|rfl|⟨q0,q1,q2⟩
   case' inl=>go_upto_region 14 with fail
   case' inr.inl=>go_upto_region 14 with fail
   case' inr.inr.inl =>
    go_wp2_with fail;refine(dx wG.o 12 (by omega) (by omega)).mono ?_;rintro r w3 ⟨r5,rfl,hr5,hr6,CZ,hc3⟩;have wG:=ai CZ;have oD:=ai (oD.o.then hc3);have nU:=ai (hc3.blk nU.o (by simp;omega));have vF:=ai (cO vF.o hc3 (fun q hq hm=>by have:=(nL.o q (bV.2 hq)).1;simp only[aG] at hm;omega));have nL:=ai (show ∀z∈rowOf u5,w.heap.size+1<=z/\z<w3.heap.size from fun z hz=>by have:=nL.o z hz;have:=hc3.size;omega);clear CZ hc3;go_upto_region 14 with fail
   case' inr.inr.inr =>
    have t0:(r3==0)=false:=by simp[q0]
    have t2:(r3==1)=false:=by simp[q1]
    have t3:(r3==2)=false:=by simp[q2]
    go_upto_region 14 with fail
   all_goals
    have hsx:=oD.o.size;have DK:=bS nU.o;go_wp2_with (at_builtin;refine dA mC rfl _ _ rfl (w.heap.size+1) _ k _ rfl vF.o _ 1 1 rfl ?f0 rfl ?f1 ?f2 ?f3 ?f4 ?_)
    case f0=>simp
    case f1=>simp[Value.oneCell']
    case f2=>unfold maxLen;omega
    case f3=>omega
    case f4=>omega
    intro v8 w8 dY iI gX;have zo:=ai (Gv Nl.o dY);have Lr:=ai (iI.blk nU.o (fun hm=>by have:=(nL.o _ hm).1;omega));have YK:=ai (wG.o.cR iI (fun hm=>by have:=(nL.o _ hm).1;omega) (fun y hy=>by have:=(nL.o _ hy).1;have:=Ng.o;omega));have CM:=ai (oD.o.trans iI (fun y hy=>a4Z (by have:=(nL.o _ hy).1;omega)));obtain⟨a8,c8,Iv⟩:=eP dY;subst Iv;clear dY iI gX;go_wp2_with fail;go_roundw
    case rel =>
     have hlh:=HLH.o;refine⟨f++[_],?_,?_,fun j h1 h2=>?_,zo.o,Lr.o,YK.o,CM.o⟩
     ·rw[bg,<-Nl.o]
      go_num
     ·rw[bg,<-Nl.o];simp;omega
     by_cases e:j<f.length
     ·rw[bD e];exact mK.o j h1 e
     have hjk:j=k:=by have:=Nl.o;simp at h2;omega
     subst hjk;rw[bK (by omega)];simp only[List.getElem_singleton];rw[<-HLV.o,<-HHV.o];exact⟨by omega,by omega⟩
    case measure=>simp[intOf];omega
  have t1:=ah ((k:Int)<(sn:Int));have hk2:k=attrs.length:=by have:=K8.o;omega
  have hos:=kD.o;rw[Nl.o] at hos;obtain⟨a',c',rfl,hii⟩:=Bl (M:=M) hos (fun z hz hm=>by have:=(Sm.o z (bV.2 hz)).1;have:=HM.o z hm;omega);have HII:=ai hii;clear hos hii;go_wp2_with fail;go_ret;exact⟨f,a',c',by rw[<-Nl.o];rfl,Mg (by rw[<-Nl.o];exact hk2) mK.o,by rw[<-Nl.o];omega,HII.o,YJ.o,xW.o⟩
structure KZ (w:World) (s:List Attr) (l:List cK) (e:Ex) (f:ZI) (sv ev:Value) (a:OA) (n c:Nat) (fa:OA) (fn:Nat):Prop where
 x7:dB w s sv
 ais:∀x∈s,x.fits
 SH:s.length<=1000000000000000
 yT:cZ w l a n c
 cn:n<=1000000
 Ca:∀x∈l,x.fit
 ex:dw w e ev
 iT:e.iT
 fit:e.fits
 vP:e.vP
 ints:dG w f fa fn
 fnl:fn<=1000000000000000
 ops:dQ w
theorem KZ.ext {w w':World} {s:List Attr} {l:List cK} {e:Ex} {f:ZI} {sv ev:Value} {a:OA} {n c:Nat} {fa:OA} {fn:Nat} (h:KZ w s l e f sv ev a n c fa fn) (hx:Ext w w'):KZ w' s l e f sv ev a n c fa fn :=
 ⟨h.x7.ext hx,h.ais,h.SH,h.yT.ext hx,h.cn,h.Ca,h.ex.ext hx,h.iT,h.fit,h.vP,h.ints.ext hx,h.fnl,h.ops.ext hx⟩
theorem KZ.checked {w:World} {s:List Attr} {l:List cK} {e:Ex} {f:ZI} {sv ev:Value} {a:OA} {n c:Nat} {fa:OA} {fn:Nat} (h:KZ w s l e f sv ev a n c fa fn) (fc:Nat):Calls Tryz.prog 115 #[sv,.slice a n c,ev,.slice fa fn fc] w (OS s l e f n w) :=
 ajj s l e f ev sv a n c fa fn fc w h.x7 h.ais h.SH h.yT h.cn h.Ca h.ex h.iT h.fit h.ints h.fnl h.ops
theorem KZ.value {w:World} {s:List Attr} {l:List cK} {e:Ex} {f:ZI} (ho:RI s l e f) {lv:fT} {nm:Nat} {ev:Value} (hl:A3 w s l f lv nm) (he:dw w e ev):Calls Tryz.prog 116 #[lv.val,ev] w (cz (.bool (val s l f e)) w) :=
 aoS s l f ho.chk ho.facts lv nm (l.length+1) 300 e ev w ho.size (by omega) ho.tree ho.node ho.exp hl he
open Classical in
noncomputable def Rg (s:List Attr) (l:List cK) (e:Ex) (f:ZI):Bool:=if jM s l e f=0 then val s l f e else false
noncomputable def aao (s:List Attr) (l:List cK) (e:Ex) (f:ZI):Value:=.tuple #[.bool (Rg s l e f),.int .i64 (jM s l e f)]
theorem XR (s:List Attr) (l:List cK) (e:Ex) (f:ZI) (sv ev:Value) (a:OA) (n c:Nat) (fa:OA) (fn fc:Nat) (w:World) (hi:KZ w s l e f sv ev a n c fa fn) :
  Calls Tryz.prog 86 #[sv,.slice a n c,ev,.slice fa fn fc] w (cz (aao s l e f) w):=by
 obtain⟨sa,sn,sc,rfl,-⟩:=hi.x7.slice;have qw:=ai (fun W (hW:Ext w W)=>(hi.ext hW).checked fc);have zq:=ai hi.ex;obtain⟨aw,nw,cw,aa,na,ca,rfl,-⟩:=hi.ex.parts;have Yl:=ai (fun (h0:jM s l e f=0) (lv:fT) W (hW:Ext w W) (hl:A3 W s l f lv n)=>KZ.value (B7 h0) hl (hi.ex.ext hW));unfold OS at qw;obtain⟨EV,hEV⟩:∃EV,EV=aao s l e f:=⟨_,rfl⟩
 rw[<-hEV];unfold aao Rg at hEV;obtain⟨E,hE⟩:∃E,E=jM s l e f:=⟨_,rfl⟩
 rw[<-hE] at qw Yl hEV;obtain⟨V,hV⟩:∃V,V=val s l f e:=⟨_,rfl⟩
 rw[<-hV] at Yl hEV;have ue:=ai (show E≠0->EV=.tuple #[.bool false,E] from fun h=>by rw[hEV,bL h]);have kH:=ai (show E=0->EV=.tuple #[.bool V,E] from fun h=>by rw[hEV,bM h]);clear hi hE hV hEV;unfold fN at *;obtain⟨wa,cN⟩:∃wa,wa=(w.alloc (.cells #[.slice sa sn sc] 24)).alloc (.cells #[ e.op,.string e.name,.slice aw nw cw,e.lo,e.hi,.slice aa na ca] 45):=⟨_,rfl⟩
 have gB:Ext w wa:=by rw[cN];exact((Tz _).alloc _).alloc _
 have hb0:wa.heap[w.heap.size]?=some (.cells #[.slice sa sn sc] 24 (0,0)):=by rw[cN];exact bU (bR w _)
 have hb1:wa.heap[w.heap.size+1]?=some (.cells #[ e.op,.string e.name,.slice aw nw cw,e.lo,e.hi,.slice aa na ca] 45 (0,0)):=by rw[cN];exact cT (by simp)
 have dm:=ai gB;have gG:=ai hb1;obtain⟨e0,ef⟩:=dO hb0;obtain⟨f0,f1,f2,f3,f4,f5,ff⟩:=cX hb1;clear gB hb0 hb1;go_enter Tryz.func86,Tryz.ntmps86
 go_upto_region 1 with fail;rw[<-cN];clear cN;go_wp2_with fail;refine(qw.o wa dm.o).mono ?_;rintro r w1 ⟨hx1,⟨hz,rfl⟩|⟨hz,lv,rfl,hls⟩⟩
 ·have dI:=ai (dm.o.trans hx1);have t1:(E != 0)=true:=by simp[hz]
  have HZ:=ai hz;clear hx1 hz e0 ef f0 f1 f2 f3 f4 f5 ff qw Yl;unfold oM;go_wp2_with fail
  go_ret2
  exact⟨by rw[ue.o HZ.o];rfl,dI.o.alloc _⟩
 have dI:=ai (dm.o.trans hx1);have pG:=ai (hx1.blk gG.o);have HVV:=ai (fun W (hW:Ext w1 W)=>Yl.o hz lv W (dI.o.trans hW) (hls.ext hW));subst hz;obtain⟨la,ln,lc,bm,fa',fn',fc'⟩:=lv;clear hx1 hls e0 ef f0 f1 f2 f3 f4 f5 ff qw Yl;obtain⟨f0,f1,f2,f3,f4,f5,ff⟩:=cX pG.o;have kI:=bS pG.o;unfold fT.val at *;go_wp2_with fail;refine(HVV.o _ ((Tz w1).alloc _)).mono ?_;rintro r w3 ⟨rfl,hx3⟩;have dS:=ai ((dI.o.alloc _).trans hx3);clear hx3;go_wp2_with fail
 go_ret2
 exact⟨by rw[kH.o trivial];rfl,dS.o⟩
theorem KZ.verify {w:World} {s:List Attr} {l:List cK} {e:Ex} {f:ZI} (ho:RI s l e f) {lv:fT} {nm:Nat} {ev:Value} {p:Pr} {pv:gS} (hl:A3 w s l f lv nm) (he:dw w e ev) (hp:gL w p pv):Calls Tryz.prog 130 #[lv.val,ev,pv.val] w (cz (.bool (CY s l f e p)) w) :=
 alY s l f ho.chk ho.facts lv nm (l.length+1) 300 e ev p pv w ho.size (by omega) ho.tree ho.node ho.exp hl he hp
open Classical in
noncomputable def atj (s:List Attr) (l:List cK) (e:Ex) (f:ZI) (p:Pr):Bool:=if jM s l e f=0 then CY s l f e p else false
theorem Df (s:List Attr) (l:List cK) (e:Ex) (f:ZI) (p:Pr) (pv:gS) (sv ev:Value) (a:OA) (n c:Nat) (fa:OA) (fn fc:Nat) (w:World) (hi:KZ w s l e f sv ev a n c fa fn) (hp:gL w p pv) :
  Calls Tryz.prog 100 #[sv,.slice a n c,ev,.slice fa fn fc,pv.val] w (cz (.bool (atj s l e f p)) w):=by
 obtain⟨sa,sn,sc,rfl,-⟩:=hi.x7.slice;have qw:=ai (fun W (hW:Ext w W)=>(hi.ext hW).checked fc);obtain⟨aw,nw,cw,aa,na,ca,rfl,-⟩:=hi.ex.parts;have Yl:=ai (fun (h0:jM s l e f=0) (lv:fT) W (hW:Ext w W) (hl:A3 W s l f lv n)=>KZ.verify (B7 h0) hl (hi.ex.ext hW) (hp.ext hW));unfold OS at qw;obtain⟨EV,hEV⟩:∃EV,EV=atj s l e f p:=⟨_,rfl⟩
 rw[<-hEV];unfold atj at hEV;obtain⟨E,hE⟩:∃E,E=jM s l e f:=⟨_,rfl⟩
 rw[<-hE] at qw Yl hEV;obtain⟨V,hV⟩:∃V,V=CY s l f e p:=⟨_,rfl⟩
 rw[<-hV] at Yl hEV;have ue:=ai (show E≠0->EV=false from fun h=>by rw[hEV,bL h]);have kH:=ai (show E=0->EV=V from fun h=>by rw[hEV,bM h]);clear hi hE hV hEV hp;obtain⟨pb,pk,pa,pn,pc⟩:=pv;unfold fN gS.val at *;obtain⟨wa,cN⟩:∃wa,wa=((w.alloc (.cells #[.slice sa sn sc] 24)).alloc (.cells #[ e.op,.string e.name,.slice aw nw cw,e.lo,e.hi,.slice aa na ca] 45)).alloc (.cells #[.bool pb,pk,.slice pa pn pc] 67):=⟨_,rfl⟩
 have gB:Ext w wa:=by rw[cN];exact(((Tz _).alloc _).alloc _).alloc _
 have hb0:wa.heap[w.heap.size]?=some (.cells #[.slice sa sn sc] 24 (0,0)):=by rw[cN];exact bU (bU (bR w _))
 have hb1:wa.heap[w.heap.size+1]?=some (.cells #[ e.op,.string e.name,.slice aw nw cw,e.lo,e.hi,.slice aa na ca] 45 (0,0)):=by rw[cN];exact bU (cT (by simp))
 have hb2:wa.heap[w.heap.size+1+1]?=some (.cells #[.bool pb,pk,.slice pa pn pc] 67 (0,0)):=by rw[cN];exact cT (by simp)
 have dm:=ai gB;have gG:=ai hb1;have fY:=ai hb2;obtain⟨e0,ef⟩:=dO hb0;obtain⟨f0,f1,f2,f3,f4,f5,ff⟩:=cX hb1;clear gB hb0 hb1 hb2;go_enter Tryz.func100,Tryz.ntmps100
 go_upto_region 1 with fail;rw[<-cN];clear cN;go_wp2_with fail;refine(qw.o wa dm.o).mono ?_;rintro r w1 ⟨hx1,⟨hz,rfl⟩|⟨hz,lv,rfl,hls⟩⟩
 ·have t1:(E==0)=false:=by simp[hz]
  have HF:=ai (ue.o hz);have dI:=ai (dm.o.trans hx1);clear hx1 hz e0 ef f0 f1 f2 f3 f4 f5 ff qw Yl ue kH;unfold oM;go_wp2_with fail;go_ret;exact bW (by rw[HF.o]) (dI.o.alloc _)
 have dI:=ai (dm.o.trans hx1);have pG:=ai (hx1.blk gG.o);have Lt:=ai (hx1.blk fY.o);have HF:=ai (kH.o hz);have HVV:=ai (fun W (hW:Ext w1 W)=>Yl.o hz lv W (dI.o.trans hW) (hls.ext hW));subst hz;obtain⟨la,ln,lc,bm,fa',fn',fc'⟩:=lv;clear hx1 hls e0 ef f0 f1 f2 f3 f4 f5 ff qw Yl ue kH;obtain⟨f0,f1,f2,f3,f4,f5,ff⟩:=cX pG.o;obtain⟨r0,r1,r2,rf⟩:=dM Lt.o;have kI:=bS Lt.o;have hlt2:=bS pG.o;unfold fT.val at *;simp only at *;go_wp2_with fail;refine(HVV.o _ ((Tz w1).alloc _)).mono ?_;rintro r w3 ⟨rfl,hx3⟩;have dS:=ai ((dI.o.alloc _).trans hx3);clear hx3;go_wp2_with fail;go_ret;exact bW (by rw[HF.o]) dS.o
theorem lH {w:World} {b i:Nat} {cs:Array Value} {t:TypeId} (h:w.heap[b]?=some (.cells cs t (0,0))) (v:Value):(w.setCell ⟨b,i,none⟩ v).heap[b]?=some (.cells (cs.setIfInBounds i v) t (0,0)):=Go.heap_setCell_same w b i cs t v h
theorem lX (w:World) (b i:Nat) (v:Value):ct [b] w (w.setCell ⟨b,i,none⟩ v):=(ct.refl _ w).setCell (aoX (by simp)) _
theorem jh {W W':World} {K N:ZN} (h:ct K W W') (hk:∀y∈K,y∈N):Sub (mask W N) (mask W' N):=cF h fun y hy=>aoX (hk y hy)
open Go.ChangeShapes Go.WideShapes Go.ChangeAt Go.RowKit
theorem Ci {W:World} {a:Addr} {v:Value} (h:W.cell? a=some v):a.spot=none:=by
 cases hs:a.spot with
 | none=>rfl
 | some x =>
  simp only[World.cell?,hs] at h;split at h<;>simp at h
theorem add_plain (b off i:Nat):(⟨b,off,none⟩:Addr).add i=⟨b,off+i,none⟩:=by
 unfold Addr.add;split<;>simp_all
theorem LZ {α:Type} {Q:Nat->α->Prop}:(n:Nat)->(∀i,i<n->∃x,Q i x)->∃l:List α,l.length=n/\∀i (h:i<l.length),Q i l[i]
 | 0,_=>⟨[],rfl,fun i h=>by simp at h⟩
 | n+1,h=>by
  obtain⟨l,h1,h2⟩:=LZ n (fun i hi=>h i (by omega));obtain⟨x,hx⟩:=h n (by omega);refine⟨l++[x],by simp[h1],fun i hi=>?_⟩;by_cases e:i<l.length
  ·rw[bD e];exact h2 i e
  have:i=n:=by simp at hi;omega
  subst this;rw[bK (by omega)];simpa using hx
theorem alR {H:Type} {tE:TypeId}:∀(l:List (DataW H×List MemPlace)),(DataW.weightsAll Tryz.prog tE (l.map (·.1))).all (·<=reachBytes)=true->∀y∈l,(y.1.weights Tryz.prog tE).all (·<=reachBytes)=true:=by
 intro l;induction l with
 | nil=>intro _ y hy;simp at hy
 | cons z r ih2 =>
  intro h1 y hy;simp only[List.map_cons,DataW.weightsAll,List.all_append,aF] at h1;rcases bz.1 hy with rfl|hy
  ·exact h1.1
  exact ih2 h1.2 y hy
theorem Dn {α:Type} {H:Type} {enc:TypeId×Value->H} {W:World} {tS tE:TypeId} {m:Nat} (f:α->List Value) (hf:∀y,(f y).length=m) (hm0:0<m) (uSl:Tryz.prog.underlying tS=some (.slice tE)) (cE:Tryz.prog.cellsOf tE=m) {B:Nat} (bE:Tryz.prog.bytesOf tE=B) (hB:0<B) {Q:α->Prop} {fuel:Nat}
  (el:∀k,k<fuel->∀(cs:List Value) (x:DataW H×List MemPlace),DataW.trod enc Tryz.prog W 0 (fun _=>true) true k tE cs=some x->(x.1.weights Tryz.prog tE).all (·<=reachBytes)=true->∃y,cs=f y/\Q y)
  {c:Value} {y:DataW H×List MemPlace} (h:DataW.trod enc Tryz.prog W 0 (fun _=>true) true fuel tS [c]=some y) (hw:(y.1.weights Tryz.prog tS).all (·<=reachBytes)=true) :
  ∃ys a n k,c=.slice a n k/\eE W m f ys a n k/\(∀z∈ys,Q z)/\n<=1000000000000000:=by
 have hr:=reachBytes_lt;rcases DataW.trod_slice uSl h with ⟨hc5,_⟩|⟨a,len,cap,elems,rest,k,hk,hc5,dh,_,hl,hm,hel,hev,hsp,_⟩
 ·simp only[a5c,and_true] at hc5;subst hc5;exact⟨[],none,0,0,rfl,⟨rfl,aU 0,aoX ⟨rfl,rfl⟩,fun i hi=>by simp at hi⟩,by simp,by omega⟩
 simp only[a5c,and_true] at hc5;subst hc5;rw[dh] at hw;simp only[DataW.weights,uSl,List.all_cons,List.all_append,aF,aH,bE] at hw;obtain⟨w5,w6,_⟩:=hw;have each:∀i,i<len->∃t:α,(∀j,j<m->W.cell? ((a.add (i*m)).add j)=(f t)[j]?)/\Q t:=by
  intro i hi;have h1:=hev i hi;rw[aT (by omega),cE,Option.bind_eq_some_iff] at h1;obtain⟨cs',h2,h3⟩:=h1;obtain⟨t,h4,h5⟩:=el k (by omega) cs' _ h3 (alR elems w6 _ (aD _));subst h4;exact⟨t,fun j hj=>(World.cells?_some h2).2.2 j hj,h5⟩
 have hok:ny (some a) cap:=by
  by_cases h0:cap=0
  ·exact aoX ⟨h0,h0⟩
  have hcell:∃v,W.cell? a=some v:=by
   by_cases h1:0<len
   ·obtain⟨t,h2,_⟩:=each 0 h1;have:=h2 0 hm0;rw[show (a.add (0*m)).add 0=a by simp[Addr.add]] at this;exact⟨_,by rw[this,aT (by rw[hf];exact hm0)]⟩
   obtain⟨h3,h4⟩:=hsp rfl;have h5:=h4 0 (by omega);rw[aT (by omega),cE,Option.bind_eq_some_iff] at h5;obtain⟨cs',h6,_⟩:=h5;obtain⟨_,h8,h7⟩:=World.cells?_some h6;have h9:=h7 0 hm0;rw[show (a.add ((len+0)*m)).add 0=a by simp[Addr.add,show len=0 by omega]] at h9;exact⟨cs'[0]'(by omega),by rw[h9,aT (by omega)]⟩
  obtain⟨v,hv⟩:=hcell;have:=Ci hv;obtain⟨b,off,sp⟩:=a;simp only at this;subst this;exact a4Z ⟨b,off,rfl⟩
 obtain⟨l,sA,hl2⟩:=LZ len each;refine⟨l,some a,len,cap,rfl,⟨sA.symm,hl,hok,fun i hi=>?_⟩,fun t ht=>?_,?_⟩
 ·have h2:=(hl2 0 (by omega)).1 0 hm0;rw[show (a.add (0*m)).add 0=a by simp[Addr.add]] at h2;have aqY:=Ci (v:=(f l[0])[0]'(by rw[hf];exact hm0)) (by rw[h2];exact aT _);obtain⟨b,off,sp⟩:=a;simp only at aqY;subst aqY;refine⟨b,off,rfl,fun j hj=>?_⟩;have:=(hl2 i hi).1 j (by rw[hf] at hj;exact hj);rw[add_plain,add_plain,aT hj] at this;exact this
 ·obtain⟨i,hi,rfl⟩:=bA ht;exact(hl2 i hi).2
 have e1:(elems.map (·.1)).length=len:=by simp;omega
 have e2:(elems.map (·.1)).length<=((elems.map (·.1)).length+(rest.map (·.1)).length)*B:=aV (Nat.le_add_right _ _) (Nat.le_mul_of_pos_right _ hB);omega
theorem aCV {α:Type} (l:List α) (h:l.length=3):∃a b c,l=[a,b,c]:=by
 rcases l with _|⟨a,_|⟨b,_|⟨c,_|⟨d,r⟩⟩⟩⟩<;>simp at h
 exact⟨a,b,c,rfl⟩
theorem amF:(Tryz.prog.underlying 67).bind (fun u=>match u with|.struct fs=>some (fs.toList.map (fun f=>(f.type,f.offset)))|_=>none)=some [(4,0),(3,1),(65,2)]:=by kernel_rfl
theorem uPr:∃fs:Array Field,Tryz.prog.underlying 67=some (.struct fs)/\fs.toList.map (fun f=>(f.type,f.offset))=[(4,0),(3,1),(65,2)]:=by
 have h:=amF;generalize Tryz.prog.underlying 67=U at *
 match U,h with
 | some (.struct fs),h=>exact⟨fs,rfl,by simpa using h⟩
theorem cPr:Tryz.prog.cellsOf 67=3:=by kernel_rfl
theorem aXt:Tryz.prog.cellsOf 65=1:=by kernel_rfl
theorem cBo:Tryz.prog.cellsOf 4=1:=by kernel_rfl
theorem uBo:Tryz.prog.underlying 4=some .bool:=by kernel_rfl
theorem aVK:Tryz.prog.underlying 65=some (.slice 67):=by kernel_rfl
theorem bPr:Tryz.prog.bytesOf 67=40:=by kernel_rfl
inductive Pr.fit:Pr->Prop
 | mk {v:Bool} {k:Int} {ps:List Pr} (hn:ps.length<=1000000000000000) (h:∀q∈ps,q.fit):Pr.fit (.mk v k ps)
theorem aCl {W:World} {vs:List gS} {a:OA} {n c:Nat} (v:Bool) (k:Int) (h:eE W 3 gS.cells vs a n c) (hn:n<=1000000000000000) (hq:∀v∈vs,∃p,gL W p v/\p.fit):∃p,gL W p ⟨v,k,a,n,c⟩/\p.fit:=by
 obtain⟨l,sA,hl2⟩:=LZ vs.length (Q:=fun i p=>∀h:i<vs.length,gL W p (vs[i]'h)/\p.fit) (fun i hi=>by
  obtain⟨p,hp⟩:=hq _ (aD hi);exact⟨p,fun _=>hp⟩)
 refine⟨.mk v k l,.mk vs h sA.symm fun i h1 h2=>(hl2 i h1 h2).1,.mk (by have:=h.1;omega) fun q hq=>?_⟩;obtain⟨i,hi,rfl⟩:=bA hq;exact(hl2 i hi (by omega)).2
theorem aLk {H:Type} {enc:TypeId×Value->H} {W:World}:∀(fuel:Nat) (cs:List Value) (x:DataW H×List MemPlace),DataW.trod enc Tryz.prog W 0 (fun _=>true) true fuel 67 cs=some x->(x.1.weights Tryz.prog 67).all (·<=reachBytes)=true ->
  ∃v:gS,cs=v.cells/\∃p:Pr,gL W p v/\p.fit:=by
 intro fuel;induction fuel using Nat.strongRecOn with
 | _ fuel ih =>
  intro cs x h hw;obtain⟨fs,uE,are⟩:=uPr;obtain⟨xs,n,rfl,rfl,hlen,hxl,hf⟩:=DataW.trod_struct uE h;have e6:fs.size=3:=by have:=congrArg List.length are;simpa using this
  rw[e6] at hxl;rw[cPr] at hlen;obtain⟨c0,c1,c2,rfl⟩:=aCV cs hlen;obtain⟨x0,x1,x2,rfl⟩:=aCV xs hxl;obtain⟨f0,g0,t0,o0⟩:=fF 0 _ _ (by rw[are];rfl);obtain⟨f1,g1,t1,o1⟩:=fF 1 _ _ (by rw[are];rfl);obtain⟨f2,g2,t2,o2⟩:=fF 2 _ _ (by rw[are];rfl);have r0:=hf 0 f0 g0;have r1:=hf 1 f1 g1;have r2:=hf 2 f2 g2;rw[t0,o0,cBo] at r0;rw[t1,o1,cI] at r1;rw[t2,o2,aXt] at r2;simp only[List.drop_zero,List.drop_succ_cons,List.take_succ_cons,List.take_zero,List.getElem?_cons_zero,List.getElem?_cons_succ] at r0 r1 r2;have hty:fs.toList.map (·.type)=[4,3,65]:=by
   have:=congrArg (List.map Prod.fst) are;rw[List.map_map] at this;exact this
  rw[DataW.weights,uE] at hw;simp only[hty,List.map_cons,List.map_nil,DataW.weightsEach,List.all_append,aF] at hw;obtain⟨_,_,w2,_⟩:=hw;obtain⟨bv,a0,_⟩:=DataW.trod_bool uBo r0;obtain⟨pk,a1,_,_⟩:=DataW.trod_int uI r1;simp only[a5c,and_true] at a0 a1;subst a0 a1;obtain⟨vs,a,n',c,rfl,q1,q2,q3⟩:=Dn (Q:=fun v:gS=>∃p,gL W p v/\p.fit) gS.cells gS.len (by omega) aVK cPr bPr (by omega) (fun k hk cs x g1 g2=>ih k (by omega) cs x g1 g2) r2 w2;obtain⟨p,hp1,hp2⟩:=aCl bv pk q1 q3 q2;exact⟨⟨bv,pk,a,n',c⟩,rfl,p,hp1,hp2⟩
theorem aHi {s:List Attr} {l:List cK} {f:ZI} {g:Nat} {op:Int} {name:BA} {words:ZB} {lo hi:Int} {args:List Ex} {V:Bool} (hop:op=7\/op=8) (hV:jN s l f (g+1) (.mk op name words lo hi args)=V) (h7:V=decide (op=7)) {ps:List Pr} (hl:args.length=ps.length)
  (h:∀i (h1:i<args.length) (h2:i<ps.length),js s l f (g+1) args[i] ps[i]=true):js s l f (g+1) (.mk op name words lo hi args) (.mk V (-1) ps)=true:=by
 have hz:mM s f (fun x=>(dz l x).map fun d=>js s l f g (l.getD d fC).cond) V args ps=true:=NI args ps hl fun i h1 h2=>by
  have hp:=h i h1 h2;have hv:=BW s l f (g+1) _ _ hp;refine⟨by rw[js] at hp;exact hp,?_⟩;rw[hv];rw[jN,pK] at hV;rw[jN];rcases hop with rfl|rfl
  ·have e:V=true:=by rw[h7];rfl
   rw[bL (by decide),bM rfl,xl,e] at hV;rw[e];exact aP.1 hV _ (aD h1)
  have e:V=false:=by rw[h7];rfl
  rw[bL (by decide),bL (by decide),bM rfl,xj,e] at hV;rw[e];have:=List.any_eq_false.1 hV _ (aD h1);simpa using this
 have h8:¬V=decide (op=8):=by
  rcases hop with rfl|rfl<;>(rw[h7];decide)
 rw[js,wI,bL (by omega),bM hop,bL h8,hz]
 rfl
theorem aCj {s:List Attr} {l:List cK} {f:ZI} {g:Nat} {op:Int} {name:BA} {words:ZB} {lo hi:Int} {args:List Ex} {V:Bool} (hop:op=7\/op=8) (h8:V=decide (op=8)) {k:Nat} (hk:k<args.length) (hv:jN s l f (g+1) args[k]=V) {q:Pr}
  (hq:js s l f (g+1) args[k] q=true):js s l f (g+1) (.mk op name words lo hi args) (.mk V (k:Int) [q])=true:=by
 have hs:=BW s l f (g+1) _ _ hq;rw[hv] at hs;rw[js] at hq;rw[js,wI,bL (by omega),bM hop,bM h8];simp only[List.all_cons,List.all_nil,List.length_singleton];rw[E8,Int.toNat_natCast,aT hk];simp only[Option.map_some,Option.getD_some,hq,hs];simp
theorem aoU {s:List Attr} {l:List cK} {f:ZI} {g:Nat} {op:Int} {name:BA} {words:ZB} {lo hi:Int} {args:List Ex} {V:Bool} (hop:op=7\/op=8) (hV:jN s l f (g+1) (.mk op name words lo hi args)=V) (h8:V=decide (op=8)):∃j,∃h:j<args.length,jN s l f (g+1) args[j]=V:=by
 rw[jN,pK] at hV;have key:∃e∈args,jN s l f (g+1) e=V:=by
  rcases hop with rfl|rfl
  ·have e:V=false:=by rw[h8];rfl
   rw[bL (by decide),bM rfl,xl,e,List.all_eq_false] at hV;obtain⟨x,hx,hy⟩:=hV;exact⟨x,hx,by rw[jN,e];simpa using hy⟩
  have e:V=true:=by rw[h8];rfl
  rw[bL (by decide),bL (by decide),bM rfl,xj,e,List.any_eq_true] at hV;obtain⟨x,hx,hy⟩:=hV;exact⟨x,hx,by rw[jN,e];exact hy⟩
 obtain⟨e,he,hv⟩:=key;obtain⟨j,hj,rfl⟩:=bA he;exact⟨j,hj,hv⟩
theorem UB {n k j:Nat} (hk:k<n) (hj:j<n) (hne:k≠j):(k+1) % n<n/\(j+n - (k+1) % n) % n<(j+n - k) % n:=by
 refine⟨Nat.mod_lt _ (by omega),?_⟩;have e1:(j+n - k) % n=if k<=j then j - k else j+n - k:=by
  split
  ·rw[show j+n - k=(j - k)+n by omega,Nat.add_mod_right,Nat.mod_eq_of_lt (by omega)]
  rw[Nat.mod_eq_of_lt (by omega)]
 rcases bJ (k+1) n with h|h
 ·rw[Nat.mod_eq_of_lt h,e1];have e2:(j+n - (k+1)) % n=if k+1<=j then j - (k+1) else j+n - (k+1):=by
   split
   ·rw[show j+n - (k+1)=(j - (k+1))+n by omega,Nat.add_mod_right,Nat.mod_eq_of_lt (by omega)]
   rw[Nat.mod_eq_of_lt (by omega)]
  rw[e2];split<;>split<;>omega
 have:k+1=n:=by omega
 rw[this,Nat.mod_self,e1,Nat.sub_zero,Nat.add_mod_right,Nat.mod_eq_of_lt hj];split<;>omega
inductive Pr.iT (N:Nat):Pr->Prop
 | mk {v:Bool} {k:Int} {ps:List Pr} (hn:ps.length<=N) (h:∀q∈ps,q.iT N):Pr.iT N (.mk v k ps)
def aic (P:Pr->Prop) (w0:World) (bd:Nat) (M:ZN) (w:World) (r:Ending) (w':World):Prop:=∃(p:Pr) (pv:gS),r=.returned pv.val/\P p/\gL (mask w' M) p pv/\cg w0 w' bd/\ct [bd] w w'
theorem Fs {w0 w W:World} {bd B:Nat} {M:ZN} {p:Pr} {pv:gS} (hb:W.heap[B]?=some qI) (hB:w.heap.size<=B) (h0:w0.heap.size<=w.heap.size) (hne:bd≠B) (hd:cg w0 W bd) (hc:ct [bd] w W) (hp:gL (mask W (B::M)) p pv) :
  (kW W B (.bool pv.value) (.int .i64 pv.pick) (.slice pv.a pv.n pv.c)).heap[B]?=some (.cells #[.bool pv.value,.int .i64 pv.pick,.slice pv.a pv.n pv.c] 67 (0,0)) /\
  gL (mask (kW W B (.bool pv.value) (.int .i64 pv.pick) (.slice pv.a pv.n pv.c)) M) p pv/\cg w0 (kW W B (.bool pv.value) (.int .i64 pv.pick) (.slice pv.a pv.n pv.c)) bd/\ct [bd] w (kW W B (.bool pv.value) (.int .i64 pv.pick) (.slice pv.a pv.n pv.c)):=by
 have hcB:ct [B] W (kW W B (.bool pv.value) (.int .i64 pv.pick) (.slice pv.a pv.n pv.c)):=rV W B (.bool pv.value) (.int .i64 pv.pick) (.slice pv.a pv.n pv.c) (by simp);refine⟨rW hb _ _ _,hp.mono (cQ fun k hk hn=>⟨fun hm=>hn (by simp[hm]),hcB.block k hk fun hm=>hn (by simp only[aG] at hm;simp[hm])⟩),hd.cR hcB (by simpa using hne) (fun y hy=>by simp only[aG] at hy;omega),hc.trans hcB fun y hy=>by simp only[aG] at hy;exact a4Z (by omega)⟩
theorem aCk {s:List Attr} {l:List cK} {f:ZI} {g:Nat} {op:Int} {name:BA} {words:ZB} {lo hi:Int} {args:List Ex} (h6:op≠6/\op≠7/\op≠8) (hdn:op=3->dz l name=none):js s l f (g+1) (.mk op name words lo hi args) (.mk (jN s l f (g+1) (.mk op name words lo hi args)) (-1) [])=true:=by
 rw[js,jN,wI,pK,bL h6.1,bL (by omega),bL h6.1,bL h6.2.1,bL h6.2.2];by_cases h3:op=3
 ·rw[bM h3,bM h3,hdn h3];simp
 rw[bL h3,bL h3];simp
theorem aHh {s:List Attr} {l:List cK} {f:ZI} {g:Nat} {name:BA} {words:ZB} {lo hi:Int} {args:List Ex} {d:Nat} (hd:dz l name=some d) {q:Pr} (hq:js s l f g (l.getD d fC).cond q=true):js s l f (g+1) (.mk 3 name words lo hi args) (.mk (jN s l f (g+1) (.mk 3 name words lo hi args)) (-1) [q])=true:=by
 have hv:=BW s l f g _ q hq;rw[js,jN,wI,pK];have e1:((dz l name).map fun d=>js s l f g (l.getD d fC).cond)=some (js s l f g (l.getD d fC).cond):=by rw[hd];rfl
 have e2:((dz l name).map fun d=>jN s l f g (l.getD d fC).cond)=some (jN s l f g (l.getD d fC).cond):=by rw[hd];rfl
 rw[bL (by decide),bL (by decide),bM rfl,e1,bL (by decide),bL (by decide),bL (by decide),bM rfl,e2,<-hv];simp only[Option.getD_some,List.all_cons,List.all_nil,hq];simp
theorem aHg {s:List Attr} {l:List cK} {f:ZI} {g:Nat} {name:BA} {words:ZB} {lo hi:Int} {a:Ex} {r:List Ex} {q:Pr} (hq:js s l f (g+1) a q=true):js s l f (g+1) (.mk 6 name words lo hi (a::r)) (.mk (jN s l f (g+1) (.mk 6 name words lo hi (a::r))) (-1) [q])=true:=by
 have hv:=BW s l f (g+1) _ q hq;rw[js] at hq;rw[jN] at hv;rw[js,jN,wI,pK,bM rfl,bM rfl,Iq,<-hv];simp only[uH,List.all_cons,List.all_nil,hq];simp
theorem fR {N:ZN} {w W:World} (h:ct N w W) {p:Addr} {v:Value} (hc:w.cell? p=some v) (hn:p.block∉N):W.cell? p=some v:=by
 have hb:=h.block p.block (eB hc) hn;unfold World.cell? at hc ⊢;rw[hb];exact hc
theorem aDY {s:List Attr} {l:List cK} (hc:Chk s l) {x:BA} {d:Nat} (hd:dz l x=some d):findAt l x=some d:=by
 obtain⟨h1,-,h3⟩:=ju hd;have hle:=ak1 h1 h3;cases hf:findAt l x with
 | none =>
  unfold findAt at hf;rw[bh] at hf;have:=hf _ (aD h1);rw[ry h1] at h3;simp[h3] at this
 | some k =>
  rw[hf] at hle;simp only[Option.getD_some] at hle;have hk:(l.getD k fC).name=x:=by
   unfold findAt at hf;rw[aJ] at hf;obtain⟨hk,h2,_⟩:=hf;rw[ry hk];simpa using h2
  rcases bJ k d with h|h
  ·exact a40 (hk.trans h3.symm) (hc.uniq d k h1 h)
  congr 1;omega
def aGv (s:List Attr) (l:List cK) (f:ZI) (bd:Nat) (sa:OA) (sn sc:Nat) (a:OA) (n c:Nat) (fa:OA) (fn:Nat) (W:World):Prop:=dB (mask W [bd]) s (.agg #[.slice sa sn sc])/\cZ (mask W [bd]) l a n c/\dG (mask W [bd]) f fa fn
theorem aGv.cR {s:List Attr} {l:List cK} {f:ZI} {bd:Nat} {sa:OA} {sn sc:Nat} {a:OA} {n c:Nat} {fa:OA} {fn:Nat} {W W':World} (h:aGv s l f bd sa sn sc a n c fa fn W) (hc:ct [bd] W W'):aGv s l f bd sa sn sc a n c fa fn W':=⟨h.1.mono (cP hc (by simp)),h.2.1.mono (cP hc (by simp)),h.2.2.mono (cP hc (by simp))⟩
structure alN (s:List Attr) (l:List cK) (f:ZI) (g:Nat) (op:Int) (name:BA) (args:List Ex) (lo hi:Int) (V:Bool) (w0 w:World) (bd:Nat) (M:ZN) (a:OA) (n c:Nat) (fa:OA) (fn fc:Nat) (sa:OA) (sn sc:Nat) (aw:OA) (nw cw:Nat) (aa:OA) (na ca:Nat):Prop where
 tr:∀W,ct [bd] w W->Calls Tryz.prog 127 #[.agg #[.slice sa sn sc],.slice a n c,fN op name aw nw cw lo hi aa na ca,.slice fa fn fc] W (cz (.bool V) W)
 ta:∀(j:Nat) (hj:j<args.length) (xv:Value) W,ct [bd] w W->dw (mask W [bd]) args[j] xv->Calls Tryz.prog 127 #[.agg #[.slice sa sn sc],.slice a n c,xv,.slice fa fn fc] W (cz (.bool (jN s l f (g+1) args[j])) W)
 arg:∀(j:Nat) (hj:j<args.length) (xv:Value) (N:ZN) (W:World),ct [bd] w W->(∀y∈N,y<W.heap.size)->cg w0 W bd->dw (mask W [bd]) args[j] xv->Calls Tryz.prog 132 #[.pointer (some ⟨bd,0,none⟩),.agg #[.slice sa sn sc],.slice a n c,xv,.slice fa fn fc] W (aic (fun p=>js s l f (g+1) args[j] p=true/\p.iT 1000000) w0 bd N W)
 m:∀y∈M,y<w.heap.size
 d:cg w0 w bd
 x:eU (mask w [bd]) args aa
 na:na=args.length
 iT:args.length<=1000000
theorem aC5 {α:Type} {P:Nat->α->Prop} {l:List α} {q:α} (h:∀j (h:j<l.length),P j l[j]) (hq:P l.length q):∀j (h:j<(l++[q]).length),P j (l++[q])[j]:=by
 intro j hj;by_cases h1:j<l.length
 ·rw[bD h1];exact h j h1
 have e:j=l.length:=by simp at hj;omega
 subst e;simpa using hq
def a0I (P:Nat->Pr->Prop) (V:Bool) (na bd b6 eZ:Nat) (M:ZN) (Z0 Z1:Obj) (w0 w:World) (i:Value) (wr:World):Prop:=∃(k:Nat) (ps:List Pr) (pvs:List gS) (u:Value),i=.int .i64 k/\k<=na/\ps.length=k/\(∀j (h:j<ps.length),P j ps[j])/\wr.ownsRow (eZ+1) 67 3 u k (pvs.flatMap gS.cells) /\
 Ii (mask wr (bd::rowOf u++(b6+1+1)::eZ::M)) ps pvs/\wr.heap[b6]?=some Z0/\wr.heap[b6+1]?=some Z1/\wr.heap[b6+1+1]?=some qI/\wr.heap[eZ]?=some (.cells #[.bool V,.int .i64 (-1),u] 67 (0,0))/\cg w0 wr bd/\ct [bd] w wr
def a0J (na:Nat) (w4:World) (i:Value) (wr:World):Prop:=∃k:Nat,i=.int .i64 k/\k<na/\Ext w4 wr
theorem ND {w:World} {base:Nat} {e:TypeId} {size:Nat} {v:Value} {n b:Nat} {xs:List Value} (h:w.ownsRow base e size v n xs) (hb:b<base):b∉rowOf v:=fun hm=>by have:=(h.lt b (bV.1 hm)).1;omega
theorem aB5 {bd:Nat} {N M:ZN} {u:Value} {W w2:World} {g2 n cap:Nat} (hN:N=bd::rowOf u++M) (hc:ct (rowOf u) W w2) (hg:u.ownBlock=some g2\/g2=W.heap.size):Sub (mask W N) (mask w2 (bd::rowOf (.slice (some ⟨g2,0,none⟩) n cap)++M)):=by
 rw[hN];refine cQ fun k hk hn=>⟨fun hm=>?_,hc.block k hk fun hm=>hn (by simp[hm])⟩
 simp only[a48,bz,aN] at hm hn;rcases hm with h|h|h
 ·exact hn (aoX h)
 ·have h2:=bV.1 h;simp only[Value.ownBlock,a42] at h2;rcases hg with e|e
  ·exact hn (a4Z (aoX (bV.2 (by rw[e,h2]))))
  omega
 exact hn (a4Z (a4Z h))
theorem aEd {s:List Attr} {l:List cK} {f:ZI} {g:Nat} {name:BA} {words:ZB} {lo hi:Int} {args:List Ex} {V:Bool} {w0 w:World} {bd:Nat} {M:ZN} {a:OA} {n c:Nat} {fa:OA} {fn fc:Nat} {sa:OA} {sn sc:Nat} {aw:OA} {nw cw:Nat} {aa:OA} {na ca:Nat} {op:Int} (hv:jN s l f (g+1) (.mk op name words lo hi args)=V) (h6:op≠6/\op≠7/\op≠8) (hdn:op=3->dz l name=none) (hat:op=3->∃i,eO s name=some i)
  (hix:∀W,ct [bd] w W->Calls Tryz.prog 91 #[.agg #[.slice sa sn sc],.string name] W (cz (sX (eO s name)) W)) (h:alN s l f g op name args lo hi V w0 w bd M a n c fa fn fc sa sn sc aw nw cw aa na ca) :
  Calls Tryz.prog 132 #[.pointer (some ⟨bd,0,none⟩),.agg #[.slice sa sn sc],.slice a n c,fN op name aw nw cw lo hi aa na ca,.slice fa fn fc] w (aic (fun p=>js s l f (g+1) (.mk op name words lo hi args) p=true/\p.iT 1000000) w0 bd M w):=by
 have HQ:=ai (show js s l f (g+1) (.mk op name words lo hi args) (.mk V (-1) [])=true by rw[<-hv];exact aCk h6 hdn);have tF:=ai hix;have qE:=ai hat;have H6:=ai h6;clear hv hdn hat hix h6;have OL:=ai h.tr;have HTA:=ai h.ta;have mF:=ai h.arg;have HM:=ai h.m;have HD:=ai h.d;have HX:=ai h.x;have kJ:=ai h.na;have G8:=ai h.iT;have qL:=h.d.lt;have Ng:=ai (show w0.heap.size<=w.heap.size by obtain⟨_,_,_,_,_,_,_,_,hxw,_⟩:=h.d;exact hxw.size);clear h;unfold fN at *;obtain⟨wa,cN⟩:∃wa,wa=((w.alloc (.cells #[.slice sa sn sc] 24)).alloc (.cells #[ op,.string name,.slice aw nw cw,lo,hi,.slice aa na ca] 45)).alloc (.cells #[.bool false,.int .i64 0,.slice none 0 0] 67):=⟨_,rfl⟩
 have gB:Ext w wa:=by rw[cN];exact(((Tz _).alloc _).alloc _).alloc _
 obtain⟨b6,lN⟩:∃b6:Nat,b6=w.heap.size:=⟨_,rfl⟩
 have hb0:wa.heap[b6]?=some (.cells #[.slice sa sn sc] 24 (0,0)):=by rw[cN,lN];exact bU (bU (bR w _))
 have hb1:wa.heap[b6+1]?=some (.cells #[ op,.string name,.slice aw nw cw,lo,hi,.slice aa na ca] 45 (0,0)):=by rw[cN,lN];exact bU (cT (by simp))
 have hb2:wa.heap[b6+1+1]?=some qI:=by rw[cN,lN];exact cT (by simp)
 have dm:=ai gB;have iO:=ai hb0;have gG:=ai hb1;have fY:=ai hb2;have jO:=ai (show bd<b6/\b6=w.heap.size from⟨by omega,lN⟩);go_enter Tryz.func132,Tryz.ntmps132
 go_upto_region 1 with fail;rw[<-cN,<-lN];clear cN lN qL;obtain⟨f0,f1,f2,f3,f4,f5,ff⟩:=cX hb1;obtain⟨e0,ef⟩:=dO hb0;clear gB hb0 hb1 hb2;go_wp2_with fail;refine(OL.o wa (dm.o.cR _)).mono ?_;rintro r w1 ⟨rfl,hx1⟩;go_upto_region 2 with fail;obtain⟨eZ,oN⟩:∃eZ:Nat,eZ=w1.heap.size:=⟨_,rfl⟩
 obtain⟨w2,hw2⟩:∃w2,w2=w1.alloc (.cells #[.bool V,.int .i64 (-1),.slice none 0 0] 67):=⟨_,rfl⟩
 have hx2:Ext wa w2:=by rw[hw2];exact hx1.alloc _
 have oZ:=ai (show w2.heap[eZ]?=some (.cells #[.bool V,.int .i64 (-1),.slice none 0 0] 67 (0,0)) by rw[hw2,oN];exact bR w1 _);have uN:b6+1+1<eZ:=by have:=bS (hx1.blk fY.o);omega
 rw[<-hw2,<-oN];clear hw2 oN hx1 f0 f1 f2 f3 f4 f5 ff e0 ef;have kB:=ai uN;have dN:=ai (dm.o.trans hx2);have oB:=ai (hx2.blk iO.o);have kH:=ai (hx2.blk gG.o);have IE:=ai (hx2.blk fY.o);have pY:=ai (HD.o.ext (dm.o.trans hx2));have iP:=ai ((dm.o.trans hx2).cR [bd]);clear hx2 uN iO gG fY dm OL;obtain⟨f0,f1,f2,f3,f4,f5,ff⟩:=cX kH.o;obtain⟨e0,ef⟩:=dO oB.o;clear HTA mF HX kJ G8;have t6:(op==6)=false:=by have:=H6.o;simp[this]
 have t7:(op==7)=false:=by have:=H6.o;simp[this]
 have t8:(op==8)=false:=by have:=H6.o;simp[this]
 by_cases h3:op=3
 case' pos =>
  subst h3;obtain⟨i,hi'⟩:=qE.o rfl;have FO:=ai (tF.o w2 iP.o);rw[hi',nX] at FO;clear hi' tF t6 t7 t8;go_wp2_with fail;refine FO.o.mono ?_;rintro r w2 ⟨rfl,hx3⟩;have oZ:=ai (hx3.blk oZ.o);have IE:=ai (hx3.blk IE.o);have pY:=ai (pY.o.ext hx3);have iP:=ai (iP.o.then (hx3.cR [bd]));clear hx3 f0 f1 f2 f3 f4 f5 ff e0 ef FO;go_upto_region 22 with fail
 case' neg =>
  have t3:(op==3)=false:=by simp[h3]
  clear h3 tF;go_upto_region 22 with fail
 all_goals
  obtain⟨p0,p1,p2,wu⟩:=dM oZ.o;have hz:w2.heap[b6+1+1]?=some (.cells #[.bool false,.int .i64 0,.slice none 0 0] 67 (0,0)):=IE.o;obtain⟨r0,r1,r2,rf⟩:=dM hz;have P9:=bS hz;have HZ:=ai (Fs (w:=w) (M:=M) (pv:=⟨V,-1,none,0,0⟩) IE.o (by have:=jO.o;omega) Ng.o (by have:=jO.o;omega) pY.o iP.o (yE _ V (-1)));simp only at HZ;go_wp2_with fail;obtain⟨wz,eV⟩:∃wz,wz=kW w2 (b6+1+1) (.bool V) (.int .i64 (-1)) (.slice none 0 0):=⟨_,rfl⟩
  rw[<-eV] at HZ;unfold kW at eV;rw[<-eV];clear eV;obtain⟨z0,z1,z2,zf⟩:=dM HZ.o.1;refine a5a (v:=gS.val ⟨V,-1,none,0,0⟩) (by simp[results,Tryz.results132,go_sem,gS.val,z0,z1,z2]) rfl ?_;exact⟨_,_,rfl,⟨HQ.o,.mk (by simp) (by simp)⟩,HZ.o.2⟩
theorem aIq {s:List Attr} {l:List cK} {f:ZI} {g:Nat} {name:BA} {words:ZB} {lo hi:Int} {args:List Ex} {V:Bool} {w0 w:World} {bd:Nat} {M:ZN} {a:OA} {n c:Nat} {fa:OA} {fn fc:Nat} {sa:OA} {sn sc:Nat} {aw:OA} {nw cw:Nat} {aa:OA} {na ca:Nat} {d:Nat} (hv:jN s l f (g+1) (.mk 3 name words lo hi args)=V) (hdf:dz l name=some d) (ZZ:findAt l name=some d) (hat:eO s name=none) (aDg:n<=100)
  (hix:∀W,ct [bd] w W->Calls Tryz.prog 91 #[.agg #[.slice sa sn sc],.string name] W (cz (sX (eO s name)) W)) (hcl:cZ (mask w [bd]) l a n c)
  (GL:∀(xv:Value) (N:ZN) (W:World),ct [bd] w W->(∀y∈N,y<W.heap.size)->cg w0 W bd->dw (mask W [bd]) (l.getD d fC).cond xv->Calls Tryz.prog 132 #[.pointer (some ⟨bd,0,none⟩),.agg #[.slice sa sn sc],.slice a n c,xv,.slice fa fn fc] W (aic (fun p=>js s l f g (l.getD d fC).cond p=true/\p.iT 1000000) w0 bd N W))
  (h:alN s l f g 3 name args lo hi V w0 w bd M a n c fa fn fc sa sn sc aw nw cw aa na ca) :
  Calls Tryz.prog 132 #[.pointer (some ⟨bd,0,none⟩),.agg #[.slice sa sn sc],.slice a n c,fN 3 name aw nw cw lo hi aa na ca,.slice fa fn fc] w (aic (fun p=>js s l f (g+1) (.mk 3 name words lo hi args) p=true/\p.iT 1000000) w0 bd M w):=by
 have HQ:=ai (show ∀q,js s l f g (l.getD d fC).cond q=true->js s l f (g+1) (.mk 3 name words lo hi args) (.mk V (-1) [q])=true from fun q hq=>by rw[<-hv];exact aHh hdf hq);have hdl:=(ju hdf).1;have HFI:=ai ZZ;have qE:=ai hat;have tF:=ai hix;have qC:=ai hcl;have HDE:=ai GL;have hdn:d<n:=by have:=hcl.len;omega
 have QL:=ai hdl;clear hv hdf ZZ hat hix hcl GL hdl;have OL:=ai h.tr;have HTA:=ai h.ta;have mF:=ai h.arg;have HM:=ai h.m;have HD:=ai h.d;have HX:=ai h.x;have kJ:=ai h.na;have G8:=ai h.iT;have qL:=h.d.lt;have Ng:=ai (show w0.heap.size<=w.heap.size by obtain⟨_,_,_,_,_,_,_,_,hxw,_⟩:=h.d;exact hxw.size);clear h;unfold fN at *;obtain⟨wa,cN⟩:∃wa,wa=((w.alloc (.cells #[.slice sa sn sc] 24)).alloc (.cells #[.int .i64 3,.string name,.slice aw nw cw,lo,hi,.slice aa na ca] 45)).alloc (.cells #[.bool false,.int .i64 0,.slice none 0 0] 67):=⟨_,rfl⟩
 have gB:Ext w wa:=by rw[cN];exact(((Tz _).alloc _).alloc _).alloc _
 obtain⟨b6,lN⟩:∃b6:Nat,b6=w.heap.size:=⟨_,rfl⟩
 have hb0:wa.heap[b6]?=some (.cells #[.slice sa sn sc] 24 (0,0)):=by rw[cN,lN];exact bU (bU (bR w _))
 have hb1:wa.heap[b6+1]?=some (.cells #[.int .i64 3,.string name,.slice aw nw cw,lo,hi,.slice aa na ca] 45 (0,0)):=by rw[cN,lN];exact bU (cT (by simp))
 have hb2:wa.heap[b6+1+1]?=some qI:=by rw[cN,lN];exact cT (by simp)
 have dm:=ai gB;have iO:=ai hb0;have gG:=ai hb1;have fY:=ai hb2;have jO:=ai (show bd<b6/\b6=w.heap.size from⟨by omega,lN⟩);go_enter Tryz.func132,Tryz.ntmps132
 go_upto_region 1 with fail;rw[<-cN,<-lN];clear cN lN qL;obtain⟨f0,f1,f2,f3,f4,f5,ff⟩:=cX hb1;obtain⟨e0,ef⟩:=dO hb0;clear gB hb0 hb1 hb2;go_wp2_with fail;refine(OL.o wa (dm.o.cR _)).mono ?_;rintro r w1 ⟨rfl,hx1⟩;go_upto_region 2 with fail;obtain⟨eZ,oN⟩:∃eZ:Nat,eZ=w1.heap.size:=⟨_,rfl⟩
 obtain⟨w2,hw2⟩:∃w2,w2=w1.alloc (.cells #[.bool V,.int .i64 (-1),.slice none 0 0] 67):=⟨_,rfl⟩
 have hx2:Ext wa w2:=by rw[hw2];exact hx1.alloc _
 have oZ:=ai (show w2.heap[eZ]?=some (.cells #[.bool V,.int .i64 (-1),.slice none 0 0] 67 (0,0)) by rw[hw2,oN];exact bR w1 _);have uN:b6+1+1<eZ:=by have:=bS (hx1.blk fY.o);omega
 rw[<-hw2,<-oN];clear hw2 oN hx1 f0 f1 f2 f3 f4 f5 ff e0 ef;have kB:=ai uN;have dN:=ai (dm.o.trans hx2);have oB:=ai (hx2.blk iO.o);have kH:=ai (hx2.blk gG.o);have IE:=ai (hx2.blk fY.o);have pY:=ai (HD.o.ext (dm.o.trans hx2));have iP:=ai ((dm.o.trans hx2).cR [bd]);clear hx2 uN iO gG fY dm OL;obtain⟨f0,f1,f2,f3,f4,f5,ff⟩:=cX kH.o;obtain⟨e0,ef⟩:=dO oB.o;have FO:=ai (tF.o w2 iP.o);rw[qE.o,Al] at FO;clear HTA mF HX kJ G8;go_wp2_with fail;refine FO.o.mono ?_;rintro r w3 ⟨rfl,hx3⟩;have El:=ai (hx3.blk oB.o);have Vr:=ai (hx3.blk kH.o);have EN:=ai (hx3.blk oZ.o);have HZ3:=ai (hx3.blk IE.o);have yz:=ai (pY.o.ext hx3);have oD:=ai (iP.o.then (hx3.cR [bd]));clear hx3 f0 f1 f2 f3 f4 f5 ff e0 ef FO oB kH oZ IE pY iP;have Eo:=ai (Gs l a n c name w3 ((qC.o.mono (cP oD.o (by simp))).mono (cC _ _)) (by omega));rw[HFI.o] at Eo;obtain⟨f0,f1,f2,f3,f4,f5,ff⟩:=cX Vr.o;obtain⟨e0,ef⟩:=dO El.o;obtain⟨cb,ld,v,rfl,hcv,hrow⟩:=qC.o.at QL.o;have aq3:cb∉[bd]:=fun hm=>by have:=hrow.BB.1;rw[eA,bM hm] at this;cases this
 obtain⟨-,-,m2,m3,m4,m5,m6,m7,-,-⟩:=hrow.BB;have c2:=fR oD.o (cC _ _ _ _ m2) aq3;have c3:=fR oD.o (cC _ _ _ _ m3) aq3;have c4:=fR oD.o (cC _ _ _ _ m4) aq3;have c5:=fR oD.o (cC _ _ _ _ m5) aq3;have c6:=fR oD.o (cC _ _ _ _ m6) aq3;have c7:=fR oD.o (cC _ _ _ _ m7) aq3;have Gj:=ai aq3;have M6:=ai (show dw (mask w [bd]) (l.getD d fC).cond v.x.val by rw[ry QL.o];exact hcv.2.2.1);have YH:=ai (show b6∉[bd] by have:=jO.o;simp;omega);have HN7:=ai (show b6+1∉[bd] by have:=jO.o;simp;omega);obtain⟨Q,hQ⟩:∃Q:Pr->Prop,Q=fun q=>js s l f g (l.getD d fC).cond q=true/\q.iT 1000000:=⟨_,rfl⟩
 have HQD:=ai hQ;obtain⟨N,hN⟩:∃N:ZN,N=bd::(b6+1+1)::eZ::M:=⟨_,rfl⟩
 have qP:=ai hN;have pX:=ai (show bd∈N by rw[hN];simp);have oH:=fun W (hW:ct [bd] w3 W) (hd:cg w0 W bd)=>HDE.o _ N W (oD.o.then hW) (fun z hz=>by
  have h1:=kB.o;have h2:=jO.o;have h3:=hW.size;have h4:=bS EN.o;have h5:=HM.o;rw[hN] at hz;simp only[bz] at hz;rcases hz with rfl|rfl|rfl|hz
  ·omega
  ·omega
  ·omega
  have:=h5 z hz;have:=oD.o.size;omega) hd (M6.o.mono (cP (oD.o.then hW) (by simp)))
 rw[<-hQ] at oH;unfold dK.val fN at oH;have sr:=ai oH;have HLW:=ai (bS EN.o);clear hQ hN m2 m3 m4 m5 m6 m7 hcv hrow oH aq3 qC;go_wp2_with fail;refine Eo.o.mono ?_;rintro r w4 ⟨rfl,rfl⟩;rw[nX];go_upto_region 9 with fail;have Z0:=cU e0 YH.o;obtain⟨Z1,Z2,Z3,Z4,Z5,Z6⟩:=wgn6 Gj.o c2 c3 c4 c5 c6 c7;refine pT 12 [bd] (fun W=>cg w0 W bd) (yz.o.ext (Tz _).drew) (fun _ _ hx h=>h.ext hx) ?_
 repeat (refine bZ ?_;intro Ka cH;go_big_quiet_op;go_big_quiet_on)
 refine dP (γ:=Pr×gS) (fun x=>.agg #[.bool x.2.value,x.2.pick,.slice x.2.a x.2.n x.2.c]) (fun x W=>gL (mask W N) x.1 x.2/\Q x.1/\cg w0 W bd) (fun W hW hd _=>?_) (fun x _ _ hx h=>⟨h.1.mono (cF (hx.cR []) (by simp)),h.2.1,h.2.2.ext hx⟩) ?_ ⟨(.mk false 0 [],⟨false,0,none,0,0⟩)⟩
 ·unfold bQ;go_simp;refine(sr.o W hW hd).mono ?_;rintro e5 w5 ⟨q,qv,rfl,hq1,hq2,oW,hc5⟩;exact⟨_,rfl,hc5,(q,qv),rfl,hq2,hq1,oW⟩
 rintro⟨q,qv⟩ Ka cH;go_simp;go_big_quiet_on;refine Az (fun y=>.slice (some ⟨y,0,none⟩) 1 1) (fun y W=>W.heap[y]?=some (.cells #[.bool qv.value,qv.pick,.slice qv.a qv.n qv.c] 67 (0,0))/\eZ<y) (fun W hW=>?_) (fun y W W' h r=>⟨h.blk r.1 (by have:=r.2;have:=kB.o;have:=jO.o;simp;omega),r.2⟩) ?_
 ·unfold bQ;go_simp;exact⟨(Tz W).alloc _,W.heap.size,rfl,bR W _,by have:=HLW.o;have:=hW.size;omega⟩
 intro y Ka cH;go_simp;go_big_quiet_on
 repeat (refine bZ ?_;intro Ka cH;go_big_quiet_op;go_big_quiet_on)
 refine nH fun W hW hy hf=>?_
 have adS:=ai (show W.heap[y]?=some (.cells #[.bool qv.value,qv.pick,.slice qv.a qv.n qv.c] 67 (0,0))/\eZ<y/\gL (mask W N) q qv/\Q q from⟨hf.2.1,hf.2.2,hy.1,hy.2.1⟩);have hW2:cg w0 W bd/\ct [bd] w3 W:=⟨hy.2.2,hW⟩
 clear hy hf hW Z0 Z1 Z2 Z3 Z4 Z5 Z6;have Jm:=ai adS.o;clear adS f0 f1 f2 f3 f4 f5 ff e0 ef c2 c3 c4 c5 c6 c7;have AM:=ai Jm.o;have mJ:=ai hW2;obtain⟨W3,hW3⟩:∃W3,W3=W.setCell ⟨eZ,2,none⟩ (.slice (some ⟨y,0,none⟩) 1 1):=⟨_,rfl⟩
 have hpw:W.heap[eZ]?=some (.cells #[.bool V,.int .i64 (-1),.slice none 0 0] 67 (0,0)):=mJ.o.2.blk EN.o (by have:=kB.o;have:=jO.o;simp;omega);have hc3:ct [eZ] W W3:=by rw[hW3];exact lX _ _ _ _
 have HP4:=ai (show W3.heap[eZ]?=some (.cells #[.bool V,.int .i64 (-1),.slice (some ⟨y,0,none⟩) 1 1] 67 (0,0)) by rw[hW3];have:=lH (i:=2) hpw (.slice (some ⟨y,0,none⟩) 1 1);simpa using this);obtain⟨p0,p1,p2,wu⟩:=dM hpw;go_upto_region 22 with fail;rw[<-hW3];clear hW3 p0 p1 p2 wu hW2 hpw;have HZ4:=ai (hc3.blk (mJ.o.2.blk HZ3.o (by have:=jO.o;simp;omega)) (by have:=kB.o;simp;omega));have wG:=ai (mJ.o.1.cR hc3 (by have:=kB.o;have:=jO.o;simp;omega) (fun z hz=>by simp only[aG] at hz;have:=kB.o;have:=jO.o;have:=Ng.o;omega));have mo:=ai ((oD.o.then mJ.o.2).trans hc3 (fun z hz=>by simp only[aG] at hz;have:=kB.o;have:=jO.o;exact a4Z (by omega)));have HY3:=ai (hc3.blk AM.o.1 (by have:=AM.o.2.1;simp;omega));have RT:=ai (show gL (mask W3 ((b6+1+1)::M)) q qv from(AM.o.2.2.1.mono (jh hc3 (fun z hz=>by simp only[aG] at hz;rw[hz,qP.o];simp))).mono (cM _ (fun z hz=>by rw[qP.o];simp only[bz] at hz ⊢;rcases hz with h|h<;>simp[h])));have HQQ:=ai AM.o.2.2.2;have hys:=AM.o.2.1;clear hc3;obtain⟨p0,p1,p2,wu⟩:=dM HP4.o;have hz:W3.heap[b6+1+1]?=some (.cells #[.bool false,.int .i64 0,.slice none 0 0] 67 (0,0)):=HZ4.o;obtain⟨r0,r1,r2,rf⟩:=dM hz;have P9:=bS hz;have HZ:=ai (Fs (w:=w) (M:=M) (pv:=⟨V,-1,some ⟨y,0,none⟩,1,1⟩) HZ4.o (by have:=jO.o;omega) Ng.o (by have:=jO.o;omega) wG.o mo.o
  (rX (v:=qv) (t:=67) HY3.o (fun hm=>by
   have h1:=kB.o;have h2:=jO.o;simp only[bz] at hm;rcases hm with hm|hm
   ·omega
   have:=HM.o _ hm;omega) RT.o V (-1)))
 simp only at HZ;go_wp2_with fail;obtain⟨wz,eV⟩:∃wz,wz=kW W3 (b6+1+1) (.bool V) (.int .i64 (-1)) (.slice (some ⟨y,0,none⟩) 1 1):=⟨_,rfl⟩
 rw[<-eV] at HZ;unfold kW at eV;rw[<-eV];clear eV;obtain⟨z0,z1,z2,zf⟩:=dM HZ.o.1;refine a5a (v:=gS.val ⟨V,-1,some ⟨y,0,none⟩,1,1⟩) (by simp[results,Tryz.results132,go_sem,gS.val,z0,z1,z2]) rfl ?_;rw[HQD.o] at HQQ;exact⟨_,_,rfl,⟨HQ.o q HQQ.o.1,.mk (by simp) (fun x hx=>by simp only[aG] at hx;rw[hx];exact HQQ.o.2)⟩,HZ.o.2⟩
end Go.Proofs.YtefjomofjejklaaGreatDoor
