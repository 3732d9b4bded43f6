/- Joined. -/
import Derived.Test.YtefjomofjejklaaGreatDoorDi08
import Derived.Maps.AppendAt
namespace Go.Proofs.YtefjomofjejklaaGreatDoor
set_option maxRecDepth 100000
set_option maxHeartbeats 32000000
open Go.RowKit
def mH:List Wb->Nat
 | []=>0
 | .mk _ _ u::r=>1+mH u+mH r
theorem zw:(l:List Wb)->(k:Nat)->(hk:k<l.length)->mH l[k].gH+1<=mH l
 | [],k,hk=>by simp at hk
 | .mk n c u::r,0,_=>by simp only[bB,Wb.gH,mH];omega
 | .mk n c u::r,k+1,hk=>by
  have:=zw r k (by simpa using hk);simp only[List.getElem_cons_succ,mH];omega
theorem ql:(l:List Wb)->l.length<=mH l
 | []=>by simp[mH]
 | .mk n c u::r=>by have:=ql r;simp only[List.length_cons,mH];omega
def Ea:List Wb->Nat
 | []=>0
 | .mk _ _ u::r=>min (iK u) 41+Ea r
theorem axh:(l:List Wb)->iK l=l.length+Ea l
 | []=>by simp[iK,Ea]
 | .mk n c u::r=>by rw[iK,Ea,axh r];simp;omega
theorem Rk:(l:List Wb)->(k:Nat)->(hk:k<l.length)->Ea (l.take (k+1))=Ea (l.take k)+min (iK l[k].gH) 41
 | [],k,hk=>by simp at hk
 | .mk n c u::r,0,_=>by simp[Ea,Wb.gH]
 | .mk n c u::r,k+1,hk=>by
  have:=Rk r k (by simpa using hk);simp[Ea] at this ⊢;omega
theorem WH:(l:List Wb)->(k:Nat)->Ea (l.take k)<=Ea l
 | [],k=>by simp[Ea]
 | .mk n c u::r,0=>by simp[Ea]
 | .mk n c u::r,k+1=>by have:=WH r k;simp[Ea];omega
def Nr:List Wb->Prop
 | []=>True
 | .mk n c u::r=>n.size<=1000000000000000/\c.fits/\c.iT/\c.size<=1000000000000000/\Nr u/\Nr r
theorem alU:(l:List Wb)->Nr l->(k:Nat)->(hk:k<l.length)->l[k].name.size<=1000000000000000/\l[k].cond.fits/\l[k].cond.iT/\l[k].cond.size<=1000000000000000/\Nr l[k].gH
 | [],_,k,hk=>by simp at hk
 | .mk n c u::r,h,0,_=>by rw[Nr] at h;exact⟨h.1,h.2.1,h.2.2.1,h.2.2.2.1,h.2.2.2.2.1⟩
 | .mk n c u::r,h,k+1,hk=>by rw[Nr] at h;simpa using alU r h.2.2.2.2.2 k (by simpa using hk)
def nY:List Wb->Prop
 | []=>True
 | .mk n c u::r=>n.size<=1000000000000000/\c.fits/\c.iT/\c.vP/\u.length<=1000000000000000/\nY u/\nY r
def Wb.fit (x:Wb):Prop:=x.name.size<=1000000000000000/\x.cond.fits/\x.cond.iT/\x.cond.vP/\x.gH.length<=1000000000000000/\nY x.gH
theorem Uu:(l:List Wb)->nY l->(k:Nat)->(hk:k<l.length)->l[k].fit
 | [],_,k,hk=>by simp at hk
 | .mk n c u::r,h,0,_=>by rw[nY] at h;exact⟨h.1,h.2.1,h.2.2.1,h.2.2.2.1,h.2.2.2.2.1,h.2.2.2.2.2.1⟩
 | .mk n c u::r,h,k+1,hk=>by rw[nY] at h;simpa using Uu r h.2.2.2.2.2.2 k (by simpa using hk)
theorem xh:(l:List Wb)->Nr l->mH l<=1000000000000000->nY l
 | [],_,_=>by unfold nY;trivial
 | .mk n c u::r,h,hn=>by
  rw[Nr] at h;rw[mH] at hn;have hu:=ql u;unfold nY;exact⟨h.1,h.2.1,h.2.2.1,iY c h.2.2.2.1,by omega,xh u h.2.2.2.2.1 (by omega),xh r h.2.2.2.2.2 (by omega)⟩
theorem amw (m:Nat):∀(l:List Wb) (a:OA) (n c:Nat) (w:World),mH l<=m->n<=1000000000000000->nY l->gK w l a->n=l.length ->
  Calls Tryz.prog 121 #[.slice a n c] w (pg (.int .i64 (min (iK l) 41:Nat)) w):=by
 induction m with
 | zero =>
  intro l a n c w hm hn2 hfit hd hn;have hl:=ql l;have:l=[]:=aR (by omega);subst this;subst hn;have HR:=ai (show (min (iK []) 41:Nat)=0 by simp[iK]);generalize (min (iK []) 41:Nat)=R at *;clear hd hfit;go_enter Tryz.func121,Tryz.ntmps121
  go_wp2_with fail
  go_loop [3,4] (fun t i=>t=.int .i64 0/\i=.int .i64 0) (fun _ _=>0)
  case atStart=>exact⟨rfl,rfl⟩
  case round =>
   obtain⟨rfl,rfl⟩:=hrel;go_wp2_with fail
   all_goals (go_ret;exact⟨by rw[HR.o];rfl,rfl⟩)
 | succ m ih =>
  intro l a n c w hm hn2 hfit hd hn;have HFT:=ai hfit;have HD:=ai hd;have HN:=ai hn;have IH:=ai ih;have VO:=ai (axh l);clear hd hn ih hfit;go_enter Tryz.func121,Tryz.ntmps121
  go_wp2_with fail
  go_loop [3,4] (fun t i=>∃k:Nat,i=.int .i64 k/\k<=n/\t=.int .i64 ((n+Ea (l.take k):Nat):Int)/\(k=0\/n+Ea (l.take k)<=81)) (fun _ i=>n - (intOf i).toNat)
  case atStart=>exact⟨0,rfl,by omega,by simp[Ea],aoX rfl⟩
  case round =>
   obtain⟨k,rfl,hk,rfl,hle⟩:=hrel;have hk0:Ea (l.take k)<=81:=by
    rcases hle with h|h
    ·subst h;simp[Ea]
    omega
   obtain⟨N,hN⟩:∃N,N=n+Ea (l.take k):=⟨_,rfl⟩
   rw[<-hN];have hNb:N<=1000000000000081:=by omega
   have qY:=ai hN;clear hN hle;by_cases hgo:k<n/\N<=40
   ·obtain⟨hkn,a4w⟩:=hgo;have fq:k<l.length:=by have:=HN.o;omega
    have t1:=ag ((k:Int)<(n:Int));have t2:=ag ((N:Int)<=40);obtain⟨b,off,rfl,v,hv0,hrow,hv2,hv3,hv4,hv5,hv6⟩:=gK.at l _ HD.o k fq;obtain⟨c0,c1,c2,c3,c4,c5,c6,c7⟩:=hrow.eight;have hwn:=zw l k fq;have HU:=ai hv6;have Nh:=ai hv3;have hft:=Uu l HFT.o k fq;have Co:v.nu<=1000000000000000:=by rw[hv3];exact hft.2.2.2.2.1
    have HFU:=ai hft.2.2.2.2.2;have uF:=ai (Rk l k fq);clear hrow hv0 hv2 hv3 hv4 hv5 hv6 hft;go_wp2_with fail
    refine(IH.o l[k].gH _ _ _ w (by omega) Co HFU.o HU.o Nh.o).mono ?_;rintro r w1 ⟨rfl,rfl⟩;obtain⟨M,hM⟩:∃M,M=(min (iK l[k].gH) 41:Nat):=⟨_,rfl⟩
    have hMl:M<=41:=by omega
    rw[<-hM];rw[<-hM] at uF;clear hM;go_wp2_with fail
    go_round
    case rel=>exact⟨k+1,by go_num,by omega,by rw[uF.o,<-Nat.add_assoc,<-qY.o];go_num,a4Z (by rw[uF.o,<-Nat.add_assoc,<-qY.o];omega)⟩
    case measure=>simp[intOf];omega
   have HR:=ai (show (min (iK l) 41:Nat)=min N 41 by
    have h1:=VO.o;have h2:=HN.o;have h3:=qY.o;by_cases h:k<n
    ·have h4:40<N:=by have:=fun h2=>hgo ⟨h,h2⟩;omega
     have h5:=WH l k;omega
    have e:l.take k=l:=aS (by omega);rw[e] at h3;omega)
   generalize (min (iK l) 41:Nat)=R at *;by_cases hkn:k<n
   ·have t1:=ag ((k:Int)<(n:Int));have t2:=ah ((N:Int)<=40);clear hgo;go_wp2_with fail
    all_goals (go_ret;exact⟨congrArg (fun z:Int=>Ending.returned (.int .i64 z)) (by have:=HR.o;omega),rfl⟩)
   have t1:=ah ((k:Int)<(n:Int));clear hgo;go_wp2_with fail
   all_goals (go_ret;exact⟨congrArg (fun z:Int=>Ending.returned (.int .i64 z)) (by have:=HR.o;omega),rfl⟩)
def Tu (d:Nat) (x:Wb):Bool:=gJ x.name&&eW x.cond&&mh (d - 1) x.gH
theorem ab7 (d:Nat):(l:List Wb)->mh d l=((decide (l.length=0)||decide (d≠0))&&l.all (Tu d))
 | []=>by simp[mh]
 | .mk n c u::r=>by
  rw[mh,ab7 d r];simp only[List.length_cons,List.all_cons,Tu,Wb.name,Wb.cond,Wb.gH];by_cases hd:d=0
  ·simp[hd]
  simp[hd,Bool.and_assoc]
theorem fQ {a b:Bool} {w w':World} (h:a=b) (hx:Ext w w'):cz (.bool b) w (.returned (.bool a)) w':=by subst h;exact⟨rfl,hx⟩
theorem amx (m:Nat):∀(l:List Wb) (a:OA) (n c d:Nat) (w:World),mH l<=m->n<=1000000000000000->nY l->d<=1000->gK w l a->n=l.length ->
  Calls Tryz.prog 122 #[.slice a n c,.int .i64 d] w (cz (.bool (mh d l)) w):=by
 induction m with
 | zero =>
  intro l a n c d w hm hn2 hok hd hD hn;have hl:=ql l;have:l=[]:=aR (by omega);subst this;subst hn;have HR:=ai (show mh d []=true by simp[mh]);generalize mh d []=R at *;clear hD hok;go_enter Tryz.func122,Tryz.ntmps122
  go_wp2_with fail
  go_loop [5] (fun t=>t=.int .i64 0) (fun _=>0)
  case atStart=>exact rfl
  case round =>
   subst hrel;go_wp2_with fail
   all_goals (go_ret;exact fQ (by rw[HR.o]) (Tz _))
 | succ m ih =>
  intro l a n c d w hm hn2 hok hd hD hn;have HD:=ai hD;have HN:=ai hn;have zm:=ai hok;have IH:=ai ih;have HQ:=ai (ab7 d l);clear hD hn ih hok;obtain⟨R,hR⟩:∃R,R=mh d l:=⟨_,rfl⟩
  rw[<-hR];rw[<-hR] at HQ;clear hR;by_cases h0:0<n/\d=0
  ·obtain⟨hn0,hd0⟩:=h0;have t0:=ag ((0:Int)<(n:Int));have HR:=ai (show R=false by rw[HQ.o,<-HN.o,hd0];simp;intro h;omega);subst hd0;go_enter Tryz.func122,Tryz.ntmps122
   go_wp2_with fail
   go_ret;exact fQ (by rw[HR.o]) (Tz _)
  have Ro:=ai (show R=l.all (Tu d) by
   rw[HQ.o];by_cases h:n=0
   ·have:l=[]:=aR (by have:=HN.o;omega);subst this;simp
   have hd1:d≠0:=fun e=>h0 ⟨by omega,e⟩
   simp[hd1])
  clear HQ;by_cases hn0:0<n
  case neg =>
   obtain rfl:n=0:=by omega
   have hl0:l=[]:=aR HN.o.symm;have HR:=ai (show R=true by rw[Ro.o,hl0];rfl);clear h0 hl0 hn0;go_enter Tryz.func122,Tryz.ntmps122
   go_wp2_with fail
   go_loop [5] (fun t=>t=.int .i64 0) (fun _=>0)
   case atStart=>exact rfl
   case round =>
    subst hrel;go_wp2_with fail
    all_goals (go_ret;exact fQ (by rw[HR.o]) (Tz _))
  case pos =>
   have t0:=ag ((0:Int)<(n:Int));have td:((d:Int)==0)=false:=by have:=fun e=>h0 ⟨hn0,e⟩;simp;omega
   go_enter Tryz.func122,Tryz.ntmps122
   go_wp2_with fail
   go_loopw [5] (fun t wr=>∃k:Nat,t=.int .i64 k/\k<=n/\(∀j (h:j<l.length),j<k->Tu d l[j]=true)/\Ext w wr) (fun t _=>n - (intOf t).toNat)
   case atStart=>exact⟨0,rfl,by omega,fun j _ h=>by omega,Tz _⟩
   case round =>
    obtain⟨k,rfl,hk,hall,lM⟩:=hrel;have mK:=ai hall;have gZ:=ai lM;clear hall lM;by_cases hkn:k<n
    ·have fq:k<l.length:=by have:=HN.o;omega
     have t1:=ag ((k:Int)<(n:Int));have hd1:1<=d:=by have:=fun e=>h0 ⟨by omega,e⟩;omega
     obtain⟨b,off,rfl,v,hv0,hrow,hv2,hv3,hv4,hv5,hv6⟩:=gK.at l _ (gK.mono gZ.o.sub _ _ HD.o) k fq;obtain⟨c0,c1,c2,c3,c4,c5,c6,c7⟩:=hrow.eight;obtain⟨ho1,ho2,ho3,ho4,hou,ho5⟩:=Uu l zm.o k fq;have Co:v.nu<=1000000000000000:=by rw[hv3];exact hou
     have Em:=ai ho4;have hwn:=zw l k fq;have HU:=ai hv6;have Nh:=ai hv3;have zq:=ai hv2;have tX:=ai ho2;have vF:=ai ho3;have Da:=ai ho5;have Vq:=ai (show Tu d l[k]=(gJ l[k].name&&eW l[k].cond&&mh (d - 1) l[k].gH) from rfl);rw[hv0] at c0;clear hrow hv0 hv2 hv3 hv4 hv5 hv6 ho2 ho3 ho5 ho4 hou;have q1:((d:Int) - 1)=((d - 1:Nat):Int):=by omega
     cases hnb:gJ l[k].name
     ·have pX:=ai hnb;have HR:=ai (show R=false by
       rw[Ro.o,List.all_eq_false];exact⟨l[k],aD fq,by rw[Vq.o,hnb];simp⟩)
      clear hnb q1;go_wp2_with fail
      refine(nO _ _ ho1).mono ?_;rintro r w1 ⟨rfl,rfl⟩;rw[pX.o];go_wp2_with fail
      go_ret;exact fQ (by rw[HR.o]) gZ.o
     have pX:=ai hnb;cases hxb:eW l[k].cond
     ·have jK:=ai hxb;have HR:=ai (show R=false by
       rw[Ro.o,List.all_eq_false];exact⟨l[k],aD fq,by rw[Vq.o,hxb];simp⟩)
      clear hnb hxb q1;go_wp2_with fail
      refine(nO _ _ ho1).mono ?_;rintro r w1 ⟨rfl,rfl⟩;rw[pX.o];go_wp2_with fail
      refine(J5 l[k].cond _ _ zq.o Em.o tX.o vF.o).mono ?_;rintro r w1 ⟨rfl,hx1⟩;rw[jK.o];have dI:=ai (gZ.o.trans hx1);clear hx1 c0 c1 c2 c3 c4 c5 c6 c7;go_wp2_with fail
      go_ret;exact fQ (by rw[HR.o]) dI.o
     have jK:=ai hxb;clear q1;go_wp2_with fail
     refine(nO _ _ ho1).mono ?_;rintro r w1 ⟨rfl,rfl⟩;rw[pX.o];go_wp2_with fail
     refine(J5 l[k].cond _ _ zq.o Em.o tX.o vF.o).mono ?_;rintro r w1 ⟨rfl,hx1⟩;rw[jK.o];have dI:=ai (gZ.o.trans hx1);have c7':=hx1.cell c7;have HU1:=ai (gK.mono hx1.sub _ _ HU.o);have q1:((d:Int) - 1)=((d - 1:Nat):Int):=by omega
     clear hx1 c0 c1 c2 c3 c4 c5 c6 c7;go_wp2_with fail
     refine(IH.o l[k].gH _ _ _ (d - 1) w1 (by omega) Co Da.o (by omega) HU1.o Nh.o).mono ?_;rintro r w2 ⟨rfl,hx2⟩;have dN:=ai (dI.o.trans hx2);clear hx2 c7' q1;cases hbb:mh (d - 1) l[k].gH
     ·have HR:=ai (show R=false by
       rw[Ro.o,List.all_eq_false];exact⟨l[k],aD fq,by rw[Vq.o,hbb];simp⟩)
      clear hnb hxb;go_wp2_with fail
      go_ret;exact fQ (by rw[HR.o]) dN.o
     have FO:=ai (show Tu d l[k]=true by rw[Vq.o,hnb,hxb,hbb];rfl);clear hnb hxb;go_wp2_with fail
     go_roundw
     case rel =>
      refine⟨k+1,by go_num,by omega,fun j hj hjk=>?_,dN.o⟩;by_cases e:j=k
      ·subst e;exact FO.o
      exact mK.o j hj (by omega)
     case measure=>simp[intOf];omega
    have t1:=ah ((k:Int)<(n:Int));have HR:=ai (show R=true by
     rw[Ro.o,aP];intro x hx;obtain⟨j,hj,rfl⟩:=aW.1 hx;exact mK.o j hj (by have:=HN.o;omega))
    go_wp2_with fail
    go_ret;exact fQ (by rw[HR.o]) gZ.o
theorem rB {w:World} {b:Nat} {v0 v1 v2 v3 v4 v5 v6 v7 v8 v9:Value} {t:TypeId} (h:w.heap[b]?=some (.cells #[v0,v1,v2,v3,v4,v5,v6,v7,v8,v9] t (0,0))) :
  w.cell? ⟨b,0,none⟩=some v0/\w.cell? ⟨b,1,none⟩=some v1/\w.cell? ⟨b,2,none⟩=some v2/\w.cell? ⟨b,3,none⟩=some v3/\w.cell? ⟨b,4,none⟩=some v4/\w.cell? ⟨b,5,none⟩=some v5/\w.cell? ⟨b,6,none⟩=some v6/\w.cell? ⟨b,7,none⟩=some v7/\w.cell? ⟨b,8,none⟩=some v8/\w.cell? ⟨b,9,none⟩=some v9/\(∀j,w.frozen? ⟨b,j,none⟩=false) :=
 ⟨bX h 0,bX h 1,bX h 2,bX h 3,bX h 4,bX h 5,bX h 6,bX h 7,bX h 8,bX h 9,fun j=>ie h j⟩
def cK.ok (c:cK):Prop:=c.name.size<=1000000000000000/\c.cond.fits/\c.cond.iT/\c.cond.size<=1000000000000000/\Nr c.gH/\mH c.gH<=1000000000000000
def cK.fit (c:cK):Prop:=c.name.size<=1000000000000000/\c.cond.fits/\c.cond.iT/\c.cond.vP/\c.gH.length<=1000000000000000/\nY c.gH
theorem cK.ok.fit {c:cK} (h:c.ok):c.fit:=⟨h.1,h.2.1,h.2.2.1,iY _ h.2.2.2.1,aV (ql _) h.2.2.2.2.2,xh _ h.2.2.2.2.1 h.2.2.2.2.2⟩
def axt (m ck:Int):Bool:=(decide (m=0)&&(ck==0))||(decide (0<m)&&decide (1<=ck)&&decide (ck<=m))
theorem SZ (c:cK) (v:fM) (w:World) (hc:ij w c v) (hok:c.fit) :
  Calls Tryz.prog 89 #[.agg #[ v.kind,.string v.name,v.x.op,.string v.x.name,.slice v.x.aw v.x.nw v.x.cw,v.x.lo,v.x.hi,.slice v.x.aa v.x.na v.x.ca,.slice v.au v.nu v.cu,v.ck]] w (cz (.bool (gQ c)) w):=by
 obtain⟨hk,hnm,hex,ZW,-,-,iV,ham⟩:=hc;obtain⟨ho1,ho2,ho3,ho4,ho5,Fi⟩:=hok;rw[hk,hnm,ham];have zq:=ai hex;have HWB:=ai iV;have HNU:=ai ZW;have tX:=ai ho2;have vF:=ai ho3;have Em:=ai ho4;have CG:=ai Fi;have aDf:v.nu<=1000000000000000:=by rw[ZW];exact ho5
 obtain⟨R,hR⟩:∃R,R=gQ c:=⟨_,rfl⟩
 rw[<-hR];have HR:=ai (show R=(decide (1<=c.kind)&&decide (c.kind<=10)&&gJ c.name&&eW c.cond&&(decide (c.gH.length=0)||((c.kind==3)&&decide (iK c.gH<=40)&&mh 16 c.gH))&&axt (ku c.kind) c.ck) by rw[hR];rfl);clear hk hnm hex ZW iV ham ho2 ho3 ho4 ho5 Fi hR;obtain⟨kind,name,cond,gH,ck⟩:=c;simp only at *;obtain⟨vk,vn,x,au,nu,cu,va⟩:=v;simp only at *;obtain⟨wa,cN⟩:∃wa,wa=w.alloc (.cells #[ kind,.string name,x.op,.string x.name,.slice x.aw x.nw x.cw,x.lo,x.hi,.slice x.aa x.na x.ca,.slice au nu cu,ck] 48):=⟨_,rfl⟩
 have gB:Ext w wa:=by rw[cN];exact(Tz _).alloc _
 have hb:wa.heap[w.heap.size]?=some (.cells #[ kind,.string name,x.op,.string x.name,.slice x.aw x.nw x.cw,x.lo,x.hi,.slice x.aa x.na x.ca,.slice au nu cu,ck] 48 (0,0)):=by rw[cN];exact bR w _
 have dm:=ai gB;have HB:=ai hb;clear gB hb;by_cases h1:kind<1
 ·have t1:=ag (kind<1) h1;have HF:=ai (show R=false by rw[HR.o];simp;intro h;omega);clear h1 cN;go_enter Tryz.func89,Tryz.ntmps89
  go_wp2_with fail
  go_ret;exact fQ (by rw[HF.o]) ((Tz w).alloc _)
 have t1:=ah (kind<1) h1;by_cases h10:10<kind
 ·have t10:=ag (10<kind) h10;have HF:=ai (show R=false by rw[HR.o];simp;intro _ h;omega);clear h10 h1 cN;go_enter Tryz.func89,Tryz.ntmps89
  go_wp2_with fail
  go_ret;exact fQ (by rw[HF.o]) ((Tz w).alloc _)
 have t10:=ah (10<kind) h10;have uk:=ag (1<=kind);have hk2:=ag (kind<=10);rw[uk,hk2,Bool.true_and,Bool.true_and] at HR;clear uk hk2 h1 h10;go_enter Tryz.func89,Tryz.ntmps89
 go_wp2_with fail
 rw[<-cN];clear cN;refine(nO _ _ ho1).mono ?_;rintro r w1 ⟨rfl,rfl⟩;obtain⟨b0,b1,b2,b3,b4,b5,b6,b7,b8,b9,bf⟩:=rB HB.o;cases hnb:gJ name
 ·have HF:=ai (show R=false by rw[HR.o,hnb];rfl);go_wp2_with fail
  go_ret;exact fQ (by rw[HF.o]) dm.o
 rw[hnb,Bool.true_and] at HR;clear hnb;go_wp2_with fail
 refine(J5 cond _ _ (zq.o.ext dm.o) Em.o tX.o vF.o).mono ?_;rintro r w1 ⟨rfl,hx1⟩;have dI:=ai (dm.o.trans hx1);have gG:=ai (hx1.blk HB.o);clear hx1 b0 b1 b2 b3 b4 b5 b6 b7 b8 b9 bf HB;obtain⟨b0,b1,b2,b3,b4,b5,b6,b7,b8,b9,bf⟩:=rB gG.o;cases hxb:eW cond
 ·have HF:=ai (show R=false by rw[HR.o,hxb];rfl);go_wp2_with fail
  go_ret;exact fQ (by rw[HF.o]) dI.o
 rw[hxb,Bool.true_and] at HR;clear hxb;obtain⟨U,hU⟩:∃U,U=(decide (gH.length=0)||((kind==3)&&decide (iK gH<=40)&&mh 16 gH)):=⟨_,rfl⟩
 rw[<-hU] at HR;have HU:=ai hU;clear hU;go_upto_region 3 with fail
 go_cut [44] (fun s44 wx=>s44=.bool (!U)/\Ext w1 wx)
 case first =>
  by_cases h0:nu=0
  ·have t0:=ah ((0:Int)<(nu:Int));have HF:=ai (show U=true by rw[HU.o,<-HNU.o,h0];simp);go_wp2_with fail
   go_meet
   case rel=>exact⟨by rw[HF.o];rfl,Tz _⟩
  have t0:=ag ((0:Int)<(nu:Int));have hl0:=ah (gH.length=0) (by have:=HNU.o;omega);rw[hl0,Bool.false_or] at HU;clear hl0;by_cases h3:kind=3
  ·have t3:(kind != 3)=false:=by simp[h3]
   have e3:(kind==3)=true:=by simp[h3]
   rw[e3,Bool.true_and] at HU;clear e3 h3;go_wp2_with fail
   refine(amw (mH gH) gH _ _ _ w1 (aU _) aDf CG.o (gK.mono dI.o.sub _ _ HWB.o) HNU.o).mono ?_;rintro r w2 ⟨rfl,rfl⟩;obtain⟨M,hM⟩:∃M,M=(min (iK gH) 41:Nat):=⟨_,rfl⟩
   rw[<-hM];have hMl:M<=41:=by omega
   have si:=ai (show decide (iK gH<=40)=decide (M<=40) by rw[hM];congr 1;exact propext ⟨fun h=>by omega,fun h=>by omega⟩);rw[si.o] at HU;clear hM si;by_cases h40:M<=40
   ·have t40:=ah ((40:Int)<(M:Int));have e40:=ag (M<=40) h40;rw[e40,Bool.true_and] at HU;clear e40;go_wp2_with fail
    refine(amx (mH gH) gH _ _ _ 16 w1 (aU _) aDf CG.o (by omega) (gK.mono dI.o.sub _ _ HWB.o) HNU.o).mono ?_;rw[<-HU.o];rintro r w2 ⟨rfl,hx2⟩;have dN:=ai hx2;clear hx2;go_wp2_with fail
    go_meet
    case rel=>exact⟨rfl,dN.o⟩
   have t40:=ag ((40:Int)<(M:Int));have HF:=ai (show U=false by rw[HU.o,bP h40];rfl);go_wp2_with fail
   go_meet
   case rel=>exact⟨by rw[HF.o];rfl,Tz _⟩
  have t3:(kind != 3)=true:=by simp[h3]
  have HF:=ai (show U=false by rw[HU.o];simp[h3]);clear h3;go_wp2_with fail
  go_meet
  case rel=>exact⟨by rw[HF.o];rfl,Tz _⟩
 case rest =>
  obtain⟨rfl,hx2⟩:=hcut;have dN:=ai (dI.o.trans hx2);have fY:=ai (hx2.blk gG.o);clear b0 b1 b2 b3 b4 b5 b6 b7 b8 b9 bf hx2 gG;obtain⟨b0,b1,b2,b3,b4,b5,b6,b7,b8,b9,bf⟩:=rB fY.o;cases hUc:U
  ·have HF:=ai (show R=false by rw[HR.o,hUc];rfl);go_wp2_with fail
   go_ret;exact fQ (by rw[HF.o]) dN.o
  rw[hUc,Bool.true_and] at HR;clear hUc;go_wp2_with fail
  refine(acH _ _).mono ?_;rintro r w3 ⟨rfl,rfl⟩;generalize ku kind=M at *;go_wp2_with fail
  all_goals (go_ret;exact fQ (by rw[HR.o,axt];simp_all<;>omega) dN.o)
def RE:Nat->Nat|0=>0|1=>1|d+2=>3*RE (d+1)+1
theorem acz:(gi.all fun l=>l.all fun a=>decide (a.name.size<=1000)&&(decide (a.words.length<=1000)&&a.words.all fun x=>decide (x.size<=1000)))=true:=by decide +kernel
theorem XO:(l:List Ex)->(∀x∈l,x.fits)->kE l
 | [],_=>by unfold kE;trivial
 | e::r,h=>by unfold kE;exact⟨h e (by simp),XO r fun x hx=>h x (by simp[hx])⟩
theorem Fm:(l:List Ex)->(∀x∈l,x.iT)->mR l
 | [],_=>by unfold mR;trivial
 | e::r,h=>by unfold mR;exact⟨h e (by simp),Fm r fun x hx=>h x (by simp[hx])⟩
theorem ahE:(l:List Ex)->(∀x∈l,qT x=true)->Eb l=true
 | [],_=>by unfold Eb;rfl
 | e::r,h=>by unfold Eb;rw[h e (by simp),ahE r fun x hx=>h x (by simp[hx])];rfl
theorem afd {k:Nat}:(l:List Ex)->(∀x∈l,x.size<=k)->sizes l<=l.length*k
 | [],_=>by simp[sizes]
 | e::r,h=>by
  have h1:=h e (by simp);have h2:=afd r fun x hx=>h x (by simp[hx])
  simp only[sizes,List.length_cons,Nat.succ_mul];omega
structure Ud (d:Nat) (e:Ex):Prop where
 fits:e.fits
 iT:e.iT
 size:e.size<=RE d
 bare:qT e=true
theorem aEC (d:Nat):1<=RE (d+1):=by cases d with|zero=>exact aU _|succ d=>simp only[RE];omega
theorem aAr {attrs:List Attr} (hs:attrs∈gi) {names:ZB} (hn:∀x∈names,x.size<=1000) {e:Ex} (h:acp attrs names e) (d:Nat):Ud (d+1) e:=by
 have hat:∀a∈attrs,_:=fun a ha=>aP.1 (aP.1 acz attrs hs) a ha
 obtain⟨op,name,words,lo,hi,args⟩:=e;obtain⟨ha,h⟩:=h;simp only[Ex.args] at ha;subst ha;simp only[Ex.op,Ex.name,Ex.words,Ex.lo,Ex.hi] at h;have key:name.size<=1000/\words.length<=1000/\∀x∈words,x.size<=1000:=by
  rcases h with ⟨h1,h2,h3,h4,h5⟩|⟨h1,h2,h3,h4,h5⟩|⟨h1,h2,h3,h4,h5⟩|⟨h1,⟨a,haa,hk,hnm,hne,hnd,hin⟩,h4,h5⟩|⟨h1,⟨a,haa,hk,hnm,sA,hl2,hl3⟩,h3⟩
  ·subst h2 h3;exact⟨by decide,by simp,by simp⟩
  ·subst h2 h3;exact⟨by decide,by simp,by simp⟩
  ·subst h3;refine⟨?_,by simp,by simp⟩;rcases h2 with h2|⟨a,haa,_,h2⟩
   ·exact hn _ h2
   have:=hat a haa;simp only[aF,aH] at this;rw[h2];exact this.1
  ·have hq:=hat a haa;simp only[aF,aH,aP] at hq;exact⟨by rw[hnm];exact hq.1,aV (List.Nodup.length_le_of_subset hnd (fun x hx=>hin x hx)) hq.2.1,fun x hx=>hq.2.2 x (hin x hx)⟩
  have hq:=hat a haa;simp only[aF,aH] at hq;subst h3;exact⟨by rw[hnm];exact hq.1,by simp,by simp⟩
 obtain⟨k1,k2,k3⟩:=key;have hb:=aEC d;refine⟨?_,?_,?_,?_⟩
 ·unfold Ex.fits;exact⟨by omega,fun x hx=>by have:=k3 x hx;omega,by unfold kE;trivial⟩
 ·unfold Ex.iT;exact⟨by omega,by unfold mR;trivial⟩
 ·simp[Ex.size,sizes];omega
 unfold qT;simp[Eb]
theorem yC {attrs:List Attr} (hs:attrs∈gi) {names:ZB} (hn:∀x∈names,x.size<=1000):(d:Nat)->(e:Ex)->oX attrs names d e->Ud d e
 | 0,e,h=>h.elim
 | d+1,e,h=>by
  rcases h with h|⟨hl,h1,h2,h3,h4,h⟩
  ·exact aAr hs hn h d
  have ih:=fun x hx=>yC hs hn d x (h x hx)
  have hne:e.args≠[]:=by intro e0;rw[e0] at hl;simp at hl
  obtain⟨d,rfl⟩:∃k,d=k+1:=by
   cases d with
   | succ k=>exact⟨k,rfl⟩
   | zero =>
    obtain⟨x,hx⟩:=List.exists_mem_of_ne_nil _ hne;exact(h x hx).elim
  have h3l:e.args.length<=3:=by omega
  have hop:e.op≠3:=by omega
  clear hl;obtain⟨op,name,words,lo,hi,args⟩:=e;simp only[Ex.args,Ex.name,Ex.words,Ex.op] at *;subst h1 h2;refine⟨?_,?_,?_,?_⟩
  ·unfold Ex.fits;exact⟨by show (0:Nat)<=_;omega,by simp,XO _ fun x hx=>(ih x hx).fits⟩
  ·unfold Ex.iT;exact⟨by simp,Fm _ fun x hx=>(ih x hx).iT⟩
  ·have:=afd args fun x hx=>(ih x hx).size
   have h5:args.length*RE (d+1)<=3*RE (d+1):=Nat.mul_le_mul_right _ h3l;simp only[Ex.size,RE];omega
  unfold qT;rw[ahE _ fun x hx=>(ih x hx).bare];simp[hop]
def GrG (wr W:World):Prop:=Ext wr W
def Lu (_:Nat) (W W':World):Prop:=Ext W W'
def uz (R:Nat->Value->World->Prop) (j:Nat) (u:Value) (W:World):Prop:=R j u W
theorem jx {P:Program} {ops:Array Oper} {Q:Exit->Act->World->Prop} {a:Act} {w:World} {i:Nat} {o:Oper} (ho:ops[i]?=some o) (h:wpList P ops Q [o] a w):wpOp P ops Q i (fun a w=>Q .normal a w) a w:=by
 unfold wpOp;rw[ho];exact h
theorem dA {t e:TypeId} {z:Value} {size bytes:Nat} (E:uq t e z size bytes) {ops:Array Oper} {rest:List Oper} {o:Oper} {a:Act} {Q:Exit->Act->World->Prop} {X:World} {arr:Array Value} {tt:TypeId}
  (hgd:o.guard=none) (s x:Operand) (ho:o.op=.call { callee:=.builtin .append,args:=#[s,x],argTypes:=#[t,t] }) (base:Nat) (v:Value) (n:Nat) (xs:List Value) (hs:a.eval s=v) (hown:X.ownsRow base e size v n xs)
  (B m c:Nat) (hx:a.eval x=.slice (some ⟨B,0,none⟩) m c) (hB:B=X.heap.size) (hl:arr.size=m*size) (h1:∀u∈arr.toList,u.oneCell'=true) (hm:n+m<=maxLen) (hb:(n+m)*bytes<=140737488355328) (hbase:base<=X.heap.size)
  (h:∀v' w',w'.ownsRow base e size v' (n+m) (xs++arr.toList)->ct (rowOf v) X w'->(∀k,v'.ownBlock=some k->v.ownBlock=some k\/X.heap.size<=k)->wpList Tryz.prog ops Q rest (a.put o.dst v') w'):wpList Tryz.prog ops Q (o::rest) a (X.alloc (.cells arr tt)):=by
 subst hB;obtain⟨i,hi,hz,hsz,hby⟩:=info_parts E.info;refine wpList_append_own_at (w:=X.alloc (.cells arr tt)) hgd s x t ho base e i z size bytes E.ht hi hz hsz hby E.hzs E.hsz v n xs hs (hown.alloc _) ⟨X.heap.size,0,none⟩ m c arr.toList hx (by simpa using hl) ?_ h1 hm hb (by simp;omega) ?_
 ·intro j u hu;have:(⟨X.heap.size,0,none⟩:Addr).add j=⟨X.heap.size,j,none⟩:=by unfold Addr.add;split<;>simp_all
  rw[this,World.cell?_alloc_at _ _ _ _ rfl];simpa using hu
 intro v' w' h2 h3 _ h5;refine h v' w' h2 ((((Tz X).alloc _).cR _).trans (eX h3) fun x hx=>aoX hx) fun k hk=>?_
 rcases h5 with e|e
 ·exact aoX (e ▸ hk)
 rw[e] at hk;simp at hk;exact a4Z (by omega)
theorem ct.weak {N M:ZN} {w w':World} (h:ct N w w') (hs:∀x∈N,x∈M):ct M w w':=⟨h.os,h.tape,h.output,h.size,fun k hk hn=>h.block k hk fun hm=>hn (hs k hm)⟩
theorem eP {w:World} {base:Nat} {e:TypeId} {size:Nat} {v:Value} {n:Nat} {xs:List Value} (h:w.ownsRow base e size v n xs):∃a c,v=.slice a n c:=by
 rcases h.2 with ⟨rfl,rfl⟩|⟨g,cap,cur,rfl,_⟩
 ·exact⟨none,0,rfl⟩
 exact⟨_,cap,rfl⟩
def Yj (w:World) (x:Wb) (v:Cz):Prop:=v.name=x.name/\dw w x.cond v.x.val/\v.nu=x.gH.length/\v.nu<=v.cu/\ny v.au v.cu/\gK w x.gH v.au
theorem Yj.mono {w w':World} {x:Wb} {v:Cz} (h:Yj w x v) (hs:Sub w w'):Yj w' x v:=⟨h.1,h.2.1.mono hs,h.2.2.1,h.2.2.2.1,h.2.2.2.2.1,gK.mono hs _ _ h.2.2.2.2.2⟩
def aaK (w:World) (l:List Wb) (vs:List Cz):Prop:=l.length=vs.length/\∀i (h1:i<l.length) (h2:i<vs.length),Yj w l[i] vs[i]
theorem aaK.mono {w w':World} {l:List Wb} {vs:List Cz} (h:aaK w l vs) (hs:Sub w w'):aaK w' l vs:=⟨h.1,fun i h1 h2=>(h.2 i h1 h2).mono hs⟩
theorem aaK.nil (w:World):aaK w [] []:=⟨rfl,fun i h=>by simp at h⟩
theorem aaK.snoc {w:World} {l:List Wb} {vs:List Cz} {c:Wb} {v:Cz} (h:aaK w l vs) (hc:Yj w c v):aaK w (l++[c]) (vs++[v]):=by
 refine⟨by simp[h.1],fun i h1 h2=>?_⟩;by_cases hi:i<l.length
 ·have hi2:i<vs.length:=by rw[<-h.1];exact hi
  simp only[bD hi,bD hi2];exact h.2 i hi hi2
 have e1:i=l.length:=by simp at h1;omega
 subst e1;simp only[bK (aU _),bK (show vs.length<=l.length by rw[h.1];exact aU _),Nat.sub_self,bB];simpa[h.1] using hc
theorem aMK:uq 46 53 (.agg #[.string ⟨#[]⟩,.int .i64 0,.string ⟨#[]⟩,.slice none 0 0,.int .i64 0,.int .i64 0,.slice none 0 0,.slice none 0 0]) 8 128:=⟨by kernel_rfl,by kernel_rfl,rfl,by decide⟩
theorem aBg {w:World} {M:ZN} {base:Nat} {v:Value} {l:List Wb} {vs:List Cz} (h:w.ownsRow base 53 8 v l.length (vs.flatMap Cz.cells)) (hM:∀k,v.ownBlock=some k->k∉M) (hR:aaK (mask w M) l vs) :
  ∃a c,v=.slice a l.length c/\l.length<=c/\ny a c/\gK (mask w M) l a:=by
 rw[hR.1] at h;obtain⟨a,c,rfl,hr⟩:=eE.iZ Cz.len h;refine⟨a,c,by rw[hR.1],by rw[hR.1];exact hr.2.1,hr.2.2.1,?_⟩
 match l,hR with
 | [],_=>unfold gK;trivial
 | e::r,hR =>
  obtain⟨b,off,rfl,h1⟩:=hr.2.2.2 0 (by rw[<-hR.1];simp);refine gK.of (e::r) off vs hR.1 fun i h3 h4=>?_
  obtain⟨q1,q2,q3,q4,q5,q6⟩:=hR.2 i h3 h4;refine⟨q1,fun j hj=>?_,q2,q3,q4,q5,q6⟩;obtain⟨b',off',e1,h5⟩:=hr.2.2.2 i h4;simp only[a42,Addr.mk.injEq,and_true] at e1;obtain⟨rfl,rfl⟩:=e1;rw[eA,bL (hM _ rfl),h5 j hj]
theorem aoQ:(l:List Wb)->(n:BA)->(c:Ex)->(u:List Wb)->mH (l++[.mk n c u])=mH l+1+mH u
 | [],n,c,u=>by simp[mH]
 | .mk n' c' u'::r,n,c,u=>by rw[a48,mH,mH,aoQ r n c u];omega
theorem Kk {x:BA} (h:gJ x=true):x.size<=16:=by
 simp only[gJ,kM,aF,aH] at h;exact h.1.1.1.1.2
def Rm (attrs:List Attr) (names:ZB):List Wb->Prop
 | []=>True
 | .mk n c u::r=>gJ n=true/\oX attrs names 2 c/\Rm attrs names u/\Rm attrs names r
theorem Rm.snoc {attrs:List Attr} {names:ZB}:(l:List Wb)->(n:BA)->(c:Ex)->(u:List Wb)->Rm attrs names l->gJ n=true->oX attrs names 2 c->Rm attrs names u->Rm attrs names (l++[.mk n c u])
 | [],n,c,u,_,h1,h2,h3=>by simp only[List.nil_append,Rm];exact⟨h1,h2,h3,trivial⟩
 | .mk n' c' u'::r,n,c,u,h,h1,h2,h3=>by
  rw[Rm] at h;rw[a48,Rm];exact⟨h.1,h.2.1,h.2.2.1,Rm.snoc r n c u h.2.2.2 h1 h2 h3⟩
theorem Rm.ok {attrs:List Attr} (hs:attrs∈gi) {names:ZB} (hn:∀x∈names,x.size<=1000):(l:List Wb)->Rm attrs names l->Nr l
 | [],_=>by unfold Nr;trivial
 | .mk n c u::r,h=>by
  rw[Rm] at h;have h1:=yC hs hn 2 c h.2.1;have h2:=h1.size;have h3:=Kk h.1;simp only[RE] at h2;rw[Nr];exact⟨by omega,h1.fits,h1.iT,by omega,Rm.ok hs hn u h.2.2.1,Rm.ok hs hn r h.2.2.2⟩
def ar6:Nat->Nat|0=>0|d+1=>2*(1+ar6 d)
def awp (attrs:List Attr) (names:ZB) (d:Nat) (w0:World) (bd:Nat) (M:ZN) (w:World) (e:Ending) (w':World):Prop:=∃l a n c,e=.returned (.slice a n c)/\n=l.length/\n<=c/\ny a c/\gK (mask w' M) l a/\Rm attrs names l/\mH l<=ar6 d/\cg w0 w' bd/\ct [bd] w w'
def GnB (bd q:Nat) (N:ZN) (k:Nat) (W W':World):Prop:=ct (if k=q then bd::N else [bd]) W W'
def GnL (w0 wr:World) (bd q:Nat) (N:ZN) (L:ZN) (W:World):Prop:=cg w0 W bd/\ct (bd::N) wr W/\(q∉L->ct [bd] wr W)
theorem gnl {w0 wr W W':World} {bd q:Nat} {N L:ZN} (h:cg w0 W bd/\ct [bd] wr W) (hd:cg w0 W' bd) (hc:ct [bd] W W'):GnL w0 wr bd q N L W' :=
 ⟨hd,(h.2.then hc).weak (fun y hy=>by simp at hy;simp[hy]),fun _=>h.2.then hc⟩
theorem cP {W W':World} {bd:Nat} {N:ZN} (h:ct [bd] W W') (hb:bd∈N):Sub (mask W N) (mask W' N):=cQ fun k hk hn=>⟨hn,h.block k hk fun hm=>hn (by simp only[aG] at hm;rw[hm];exact hb)⟩
def BkL (attrs:List Attr) (names:ZB) (w0 w:World) (d bd bw:Nat) (M:ZN) (sa:OA) (sn sc:Nat) (v k:Value) (wr:World):Prop:=∃(l:List Wb) (vs:List Cz) (q:Int),k=.int .i64 q/\q+l.length<=2/\0<=q/\wr.ownsRow (bw+1) 53 8 v l.length (vs.flatMap Cz.cells)/\aaK (mask wr (bd::rowOf v++M)) l vs /\
 Rm attrs names l/\mH l<=l.length*(1+ar6 d)/\cg w0 wr bd/\ct [bd] w wr/\wr.heap[bw]?=some (.cells #[.slice sa sn sc] 24 (0,0))
def Ii (w:World) (l:List Pr) (vs:List gS):Prop:=l.length=vs.length/\∀i (h1:i<l.length) (h2:i<vs.length),gL w l[i] vs[i]
theorem Ii.mono {w w':World} {l:List Pr} {vs:List gS} (h:Ii w l vs) (hs:Sub w w'):Ii w' l vs:=⟨h.1,fun i h1 h2=>(h.2 i h1 h2).mono hs⟩
theorem Ii.nil (w:World):Ii w [] []:=⟨rfl,fun i h=>by simp at h⟩
theorem Ii.snoc {w:World} {l:List Pr} {vs:List gS} {c:Pr} {v:gS} (h:Ii w l vs) (hc:gL w c v):Ii w (l++[c]) (vs++[v]):=by
 refine⟨by simp[h.1],fun i h1 h2=>?_⟩;by_cases hi:i<l.length
 ·have hi2:i<vs.length:=by rw[<-h.1];exact hi
  simp only[bD hi,bD hi2];exact h.2 i hi hi2
 have e1:i=l.length:=by simp at h1;omega
 subst e1;simp only[bK (aU _),bK (show vs.length<=l.length by rw[h.1];exact aU _),Nat.sub_self,bB];simpa[h.1] using hc
theorem XS:uq 65 67 (.agg #[.bool false,.int .i64 0,.slice none 0 0]) 3 40:=⟨by kernel_rfl,by kernel_rfl,rfl,by decide⟩
theorem S9 {w:World} {M:ZN} {base:Nat} {v:Value} {l:List Pr} {vs:List gS} (h:w.ownsRow base 67 3 v l.length (vs.flatMap gS.cells)) (hM:∀k,v.ownBlock=some k->k∉M) (hR:Ii (mask w M) l vs) (b:Bool) (k:Int) :
  ∃a c,v=.slice a l.length c/\gL (mask w M) (.mk b k l) ⟨b,k,a,l.length,c⟩:=by
 have hl:=hR.1;rw[hl] at h;obtain⟨a,c,rfl,hr⟩:=eE.iZ gS.len h;refine⟨a,c,by rw[hl],.mk vs ⟨hl,by rw[hl];exact hr.2.1,hr.2.2.1,fun i h4=>?_⟩ hl.symm fun i h1 h2=>hR.2 i h1 h2⟩;obtain⟨b',off',e1,h5⟩:=hr.2.2.2 i h4;subst e1;exact⟨b',off',rfl,fun j hj=>by rw[eA,bL (hM _ rfl)];exact h5 j hj⟩
theorem yE (w:World) (b:Bool) (k:Int):gL w (.mk b k []) ⟨b,k,none,0,0⟩:=.mk [] ⟨rfl,aU _,aoX ⟨rfl,rfl⟩,fun i h=>by simp at h⟩ rfl fun i h=>by simp at h
theorem rX {w:World} {M:ZN} {g:Nat} {q:Pr} {v:gS} {t:TypeId} (h:w.heap[g]?=some (.cells v.cells.toArray t (0,0))) (hg:g∉M) (hq:gL (mask w M) q v) (b:Bool) (k:Int):gL (mask w M) (.mk b k [q]) ⟨b,k,some ⟨g,0,none⟩,1,1⟩:=by
 refine .mk [v] ⟨rfl,aU _,a4Z ⟨g,0,rfl⟩,fun i hi=>⟨g,0,rfl,fun j hj=>?_⟩⟩ rfl fun i h1 h2=>?_
 ·have h0:i=0:=by simp at hi;omega
  subst h0;simp only[bB] at hj ⊢;rw[eA,bL hg,bX h];simp
 have h0:i=0:=by simp at h1;omega
 subst h0;exact hq
def mA (e:Edge):Bool:=match e.ground with|.data=>true|.guard=>true|_=>false
def Zz (ops:Array Oper) (m n:Nat):Bool :=
 Region.noSelect ops&&decide (m<=ops.size)&&decide (ops.size<=m+1) &&
 ((List.range ops.size).all fun i=>(List.range ops.size).all fun j=>i==j||dU ops i==none||dU ops i != dU ops j) &&
 ((List.range ops.size).all fun i=>match ops[i]? with
  | none=>false
  | some o=>((match o.guard with|none=>true|some (j,_)=>(match dU ops j with|none=>false|some t=>decide (t<n))&&o.after.any (fun e=>mA e&&e.on==j))||i==m)&&(o.after.all fun e=>(!Region.binds .any e||decide (e.on<i))&&(!mA e||Region.binds .any e)) &&
   ((List.range m).all fun j=>match dU ops j with
    | none=>true
    | some t=>!(o.looksAt ops).contains t||(i==m)||o.after.any (fun e=>Region.binds .any e&&e.on==j)) &&
   (i != m||(List.range m).all fun j=>o.after.any (fun e=>Region.binds .any e&&e.on==j)))
theorem amO {ops:Array Oper} {m n:Nat} (h:Zz ops m n=true):Region.noSelect ops=true/\m<=ops.size/\ops.size<=m+1/\GZ ops /\
  (∀i o,ops[i]?=some o->(i<m->∀j b,o.guard=some (j,b)->∃t,dU ops j=some t/\t<n/\∃e∈o.after,mA e=true/\e.on=j)/\(∀e∈o.after,(Region.binds .any e=true->e.on<i)/\(mA e=true->Region.binds .any e=true))/\(i<m->∀j t,j<m->dU ops j=some t->t∈o.looksAt ops->∃e∈o.after,Region.binds .any e=true/\e.on=j) /\
   (i=m->∀j,j<m->∃e∈o.after,Region.binds .any e=true/\e.on=j)):=by
 simp only[Zz,aF,aH] at h;obtain⟨⟨⟨⟨h1,h2⟩,h3⟩,h4⟩,h5⟩:=h;refine⟨h1,h2,h3,?_,?_⟩
 ·intro i j d hi hj;have li:i<ops.size:=by
   unfold dU at hi;rcases bJ i ops.size with h|h
   ·exact h
   rw[Array.getElem?_eq_none h] at hi;simp at hi
  have lj:j<ops.size:=by
   unfold dU at hj;rcases bJ j ops.size with h|h
   ·exact h
   rw[Array.getElem?_eq_none h] at hj;simp at hj
  have:=aP.1 (aP.1 h4 i (by simpa using li)) j (by simpa using lj);simpa[hi,hj] using this
 intro i o ho;have li:i<ops.size:=(aQ.1 ho).1;have h6:=aP.1 h5 i (by simpa using li);simp only[ho,aF] at h6;obtain⟨⟨⟨g1,g2⟩,g3⟩,g4⟩:=h6;refine⟨fun hm=>?_,fun e he=>?_,fun hm j t hjm hj ht=>?_,fun hm j hj=>?_⟩
 ·intro j b hg;rcases Bool.or_eq_true_iff.1 g1 with g|g
  ·rw[hg] at g;simp only[aF] at g;cases hd:dU ops j with
   | none=>rw[hd] at g;simp at g
   | some t =>
    rw[hd] at g;obtain⟨e,he,hb⟩:=Array.any_eq_true'.1 g.2;simp only[aF,a47] at hb;exact⟨t,rfl,by simpa using g.1,e,he,hb.1,hb.2⟩
  have:i=m:=by simpa using g
  omega
 ·have:=Array.all_eq_true_iff_forall_mem.1 g2 e he;simp only[aF,bG,Bool.not_eq_true',aH] at this;refine⟨fun hb=>?_,fun hb=>?_⟩
  ·rcases this.1 with h|h
   ·rw[hb] at h;cases h
   exact h
  rcases this.2 with h|h
  ·rw[hb] at h;cases h
  exact h
 ·have:=aP.1 g3 j (by simpa using hjm);rw[hj] at this;simp only[bG,Bool.not_eq_true'] at this;rcases this with (h|h)|h
  ·rw[List.contains_iff_mem.2 ht] at h;cases h
  ·have:i=m:=by simpa using h
   omega
  obtain⟨e,he,hb⟩:=Array.any_eq_true'.1 h;simp only[aF,a47] at hb;exact⟨e,he,hb.1,hb.2⟩
 subst hm;rcases Bool.or_eq_true_iff.1 g4 with g|g
 ·simp at g
 have:=aP.1 g j (by simpa using hj);obtain⟨e,he,hb⟩:=Array.any_eq_true'.1 this;simp only[aF,a47] at hb;exact⟨e,he,hb.1,hb.2⟩
def Km (ops:Array Oper) (c i:Nat):Bool:=match ops[c]? with|none=>false|some o=>o.after.any fun e=>mA e&&e.on==i
def Cm (ops:Array Oper) (m:Nat) (Kp:ZN) (i k:Nat):Bool:=!fK ops m i k&&(Kp.contains i||(List.range m).any fun c=>c != k&&!fK ops m k c&&Km ops c i)
section
variable {P:Program} {ops:Array Oper} {Q:Exit->Act->World->Prop} {a:Act} {m:Nat} (Kp:ZN) (G:ZN->(Nat->Value)->World->Prop) (E:Nat->World->World->Prop) (R:Nat->Value->World->Prop)
theorem aoH {n:Nat} (hok:Zz ops m n=true) (hN:n<=a.tmps.size) (sk:Nat->Bool) (hSg:∀i o,i<m->sk i=true->ops[i]?=some o->o.guard≠none) (hGd:∀i o j b,i<m->ops[i]?=some o->o.guard=some (j,b)->∀v W,R j v W->if sk i=true then v≠.bool b else v=.bool b) (hsk:∀i,i<m->sk i=true->∀L vs W,i∉L->G L vs W->E i W W/\G (L++[i]) (upd vs i undef) W/\R i undef W) (hRE:∀i k v W W',i<m->k<m->i≠k->Cm ops m Kp i k=true->R i v W->E k W W'->R i v W')
  (hstep:∀i o,i<m->sk i=false->ops[i]?=some o->∀L vs W,i∉L->(∀j∈L,fK ops m j i=false)->G L vs W->(∀e∈o.after,mA e=true->R e.on (vs e.on) W)->∀ρ,avU ops a m vs ρ->bQ P o ρ W (fun v W'=>E i W W'/\G (L++[i]) (upd vs i v) W'/\R i v W'))
  (hend:∀L vs W,(∀j,j<m->j∈L)->G L vs W->(∀j∈Kp,j<m->R j (vs j) W)->if m=ops.size then Q .normal (fL ops a vs (List.range m)) W else wpOp P ops Q m (fun a w=>Q .normal a w) (fL ops a vs (List.range m)) W) :
  ∀(fuel:Nat) (L:ZN) (vs:Nat->Value) (W:World) (listed:Array Bool),listed.size=ops.size->(∀j,j<ops.size->(listed.getD j true=true ↔ j∈L))->L.Nodup->(∀j∈L,j<m)->((List.range ops.size).filter (fun j=>!L.contains j)).length<=fuel->G L vs W->(∀i∈L,∀o,ops[i]?=some o->∀e∈o.after,Region.binds .any e=true->e.on∈L)->(∀j∈L,(j∈Kp\/∃c,c<m/\c∉L/\Km ops c j=true)->R j (vs j) W) ->
   wpAny P .any ops Q fuel listed (fL ops a vs L) W:=by
 obtain⟨zP,hm1,hm2,hda,hspec⟩:=amO hok;have hperm:∀L:ZN,L.Nodup->(∀j∈L,j<m)->(∀j,j<m->j∈L)->L.Perm (List.range m):=fun L h1 h2 h3 =>
  (List.perm_ext_iff_of_nodup h1 List.nodup_range).2 (fun j=>⟨fun h=>by simpa using h2 j h,fun h=>h3 j (by simpa using h)⟩)
 have hall:∀(L:ZN) (listed:Array Bool),listed.size=ops.size->(∀j,j<ops.size->(listed.getD j true=true ↔ j∈L))->(∀j∈Region.ready .any ops listed,¬j<m)->∀j,j<m->j∈L:=by
  intro L listed hsz hL hr j;induction j using Nat.strongRecOn with
  | _ j ih =>
   intro hj;by_cases Sh:j∈L
   ·exact Sh
   exfalso;refine hr j ?_ hj;have hjs:j<ops.size:=by omega
   rw[mem_ready];obtain⟨o,ho⟩:∃o,ops[j]?=some o:=⟨ops[j],aY hjs⟩
   refine⟨?_,o,ho,fun e he hb=>?_⟩
   ·cases hx:listed.getD j true
    ·rfl
    exact a40 ((hL j hjs).1 hx) Sh
   have hlt:=((hspec j o ho).2.1 e he).1 hb;have hm:=ih e.on hlt (by omega);have:=(hL e.on (by omega)).2 hm;have hin:e.on<listed.size:=by rw[hsz];omega
   simpa[Array.getD,hin] using this
 have abI:∀(L:ZN) (vs:Nat->Value) (W:World),L.Nodup->(∀j∈L,j<m)->(∀j,j<m->j∈L)->G L vs W->(∀j∈L,(j∈Kp\/∃c,c<m/\c∉L/\Km ops c j=true)->R j (vs j) W) ->
   if m=ops.size then Q .normal (fL ops a vs L) W else wpOp P ops Q m (fun a w=>Q .normal a w) (fL ops a vs L) W:=by
  intro L vs W hnd l7 wK hE hR;rw[Vo hda (hperm L hnd l7 wK)];exact hend L vs W wK hE (fun j hk hj=>hR j (wK j hj) (aoX hk))
 intro fuel;induction fuel with
 | zero =>
  intro L vs W listed hsz hL hnd l7 hlen hE hcl hR;have wK:∀j,j<ops.size->j∈L:=fun j hj=>by
   have h0:=aR (Nat.le_zero.1 hlen);have:j∉(List.range ops.size).filter (fun j=>!L.contains j):=by rw[h0];simp
   simpa[hj] using this
  have hmn:m=ops.size:=by
   rcases bJ m ops.size with h|h
   ·have:=l7 m (wK m h);omega
   omega
  have hf:=abI L vs W hnd l7 (fun j hj=>wK j (by omega)) hE hR;rw[bM hmn] at hf;refine⟨?_,hf⟩;rw[List.eq_nil_iff_forall_not_mem];intro j hj;obtain⟨h0,o,ho,_⟩:=mem_ready.1 hj;have:=(hL j (aQ.1 ho).1).2 (wK j (aQ.1 ho).1);rw[this] at h0;cases h0
 | succ fuel ih =>
  intro L vs W listed hsz hL hnd l7 hlen hE hcl hR;refine⟨fun hr=>?_,fun i hi=>?_⟩
  ·have wK:=hall L listed hsz hL (by rw[hr];simp);have hf:=abI L vs W hnd l7 wK hE hR;by_cases hmn:m=ops.size
   ·rw[bM hmn] at hf;exact hf
   exfalso;have hms:m<ops.size:=by omega
   have:m∈Region.ready .any ops listed:=by
    rw[mem_ready];obtain⟨o,ho⟩:∃o,ops[m]?=some o:=⟨ops[m],aY hms⟩
    refine⟨?_,o,ho,fun e he hb=>?_⟩
    ·cases hx:listed.getD m true
     ·rfl
     have:=l7 m ((hL m hms).1 hx);omega
    have hlt:=((hspec m o ho).2.1 e he).1 hb;have:=(hL e.on (by omega)).2 (wK e.on hlt);have hin:e.on<listed.size:=by rw[hsz];omega
    simpa[Array.getD,hin] using this
   rw[hr] at this;simp at this
  obtain⟨h0,o,ho,au8⟩:=mem_ready.1 hi;have GI:i<ops.size:=(aQ.1 ho).1;have yQ:i∉L:=fun h=>by rw[(hL i GI).2 h] at h0;cases h0
  have GK:∀e∈o.after,Region.binds .any e=true->e.on∈L:=fun e he hb=>by
   have h1:=au8 e he hb;have hlt:=((hspec i o ho).2.1 e he).1 hb;have hin:e.on<listed.size:=by rw[hsz];omega
   exact(hL e.on (by omega)).1 (by simpa[Array.getD,hin] using h1)
  have agI:∀j,j<ops.size->((listed.setIfInBounds i true).getD j true=true ↔ j∈L++[i]):=fun j hj=>by
   by_cases hij:i=j
   ·subst hij;simp[hsz,GI]
   rw[getD_set_ne true hij,hL j hj];simp;intro e;exact a40 e.symm hij
  by_cases him:i<m
  ·
   have hnc:∀j∈L,fK ops m j i=false:=fun j hj=>by
    cases hx:fK ops m j i
    ·rfl
    exact a40 (vW hcl m j i hj hx) yQ
   have TH:∀v W',E i W W'->G (L++[i]) (upd vs i v) W'->R i v W'->wpAny P .any ops Q fuel (listed.setIfInBounds i true) ((fL ops a vs L).put o.dst v) W':=by
    intro v W' hEW hE' hRv;have e1:(fL ops a vs L).put o.dst v=fL ops a (upd vs i v) (L++[i]):=by
     rw[Vn,Yg (vs:=upd vs i v) (vs':=vs) (fun j hj=>by unfold upd;rw[bL (fun e=>yQ (by rw[<-e];exact hj))])];simp[upd,dU,ho]
    rw[e1];refine ih (L++[i]) (upd vs i v) W' _ (by simpa using hsz) agI ?_ ?_ ?_ hE' ?_ ?_
    ·rw[List.nodup_append];exact⟨hnd,by simp,fun x hx y hy e=>by simp at hy;subst hy;subst e;exact yQ hx⟩
    ·intro j hj;rcases aN.1 hj with h|h
     ·exact l7 j h
     simp at h;omega
    ·have h1:(List.range ops.size).filter (fun j=>!(L++[i]).contains j)=((List.range ops.size).filter (fun j=>!L.contains j)).filter (fun j=>j != i):=by
      rw[List.filter_filter]
      congr 1
      funext j
      simp only[List.contains_append,Bool.not_or];rw[Bool.and_comm]
      congr 1
      rw[bH];simp[bne]
     have h2:(((List.range ops.size).filter (fun j=>!L.contains j)).filter (fun j=>j != i)).length<((List.range ops.size).filter (fun j=>!L.contains j)).length:=by
      rw[List.length_filter_lt_length_iff_exists];exact⟨i,by simp[GI,yQ],by simp⟩
     rw[h1];omega
    ·intro j hj o' ho' e he hb;rcases aN.1 hj with h|h
     ·exact aK _ (hcl j h o' ho' e he hb)
     simp at h;subst h;rw[ho] at ho';cases ho'
     exact aK _ (GK e he hb)
    intro j hj aq6;rcases aN.1 hj with h|h
    ·have:upd vs i v j=vs j:=by unfold upd;rw[bL (fun e=>yQ (by rw[<-e];exact h))]
     rw[this];have au4:j∈Kp\/∃c,c<m/\c∉L/\Km ops c j=true:=aq6.imp id (fun ⟨c,h1,h2,h3⟩=>⟨c,h1,fun hc=>h2 (aK _ hc),h3⟩);refine hRE j i _ W W' (l7 j h) him (fun e=>yQ (e ▸ h)) ?_ (hR j h au4) hEW;unfold Cm;rw[aF,Bool.not_eq_true',bG];refine⟨?_,?_⟩
     ·cases hx:fK ops m j i
      ·rfl
      exact a40 (vW hcl m j i h hx) yQ
     rcases aq6 with hk|⟨c,h1,h2,h3⟩
     ·exact aoX (List.contains_iff_mem.2 hk)
     refine a4Z (List.any_eq_true.2 ⟨c,by simpa using h1,?_⟩);rw[h3,Bool.and_true,aF,bne_iff_ne,Bool.not_eq_true'];refine⟨fun e=>by subst e;exact h2 (by simp),?_⟩;cases hx:fK ops m i c
     ·rfl
     exact a40 (aK _ (Fy hcl ho GK m c hx)) h2
    simp at h;subst h;simpa[upd] using hRv
   cases Yu:sk i
   case true =>
    unfold wpOp;simp only[ho];cases hgd:o.guard with
    | none=>exact a40 hgd (hSg i o him Yu ho)
    | some p =>
     obtain⟨j,b⟩:=p;obtain⟨t,ht,htn,e,he,heD,rfl⟩:=(hspec i o ho).1 him j b hgd;have Sh:=GK e he (((hspec i o ho).2.1 e he).2 heD);have hv:=hGd i o e.on b him ho hgd _ _ (hR e.on Sh (a4Z ⟨i,him,yQ,by unfold Km;rw[ho];exact Array.any_eq_true'.2 ⟨e,he,by simp[heD]⟩⟩));rw[bM Yu] at hv;rw[bL (by
      unfold Region.wanted;rw[hgd];have hev:=uU hda (a:=a) (vs:=vs) Sh ht;rw[bM (bF htn hN)] at hev;have hlt:t<(fL ops a vs L).tmps.size:=by rw[ab9];exact bF htn hN
      show ¬(yielded ops (fL ops a vs L).tmps e.on==some b)=true
      simp only[Act.eval] at hev;unfold yielded;have hdd:(ops[e.on]?).bind (·.dst)=some t:=ht;rw[hdd];simp only[Option.bind_some];rw[Array.getD_eq_getD_getElem?,aY hlt,Option.getD_some] at hev;rw[aY hlt,hev];cases hvs:vs e.on<;>simp
      intro hb;exact hv (by rw[hvs,hb]))]
     obtain⟨q1,q2,q3⟩:=hsk i him Yu L vs W yQ hE;exact TH undef W q1 q2 q3
   have hg:=hstep i o him Yu ho L vs W yQ hnc hE (fun e he hb=>hR _ (GK e he (((hspec i o ho).2.1 e he).2 hb)) (a4Z ⟨i,him,yQ,by unfold Km;rw[ho];exact Array.any_eq_true'.2 ⟨e,he,by simp[hb]⟩⟩)) _ (aj6 hda a m vs);have hex:execOp (fL ops a vs L).eval o=execOp (fL ops a vs (List.range m)).eval o:=by
    refine execOp_congr o (Region.noSelect_spec zP i o · · ho) (fun x hx=>?_);cases x with
    | tmp t =>
     have aDk:t∈o.looksAt ops:=aK _ (List.mem_filterMap.2 ⟨.tmp t,by simpa using hx,rfl⟩);by_cases hex:∃j,j<m/\dU ops j=some t
     ·obtain⟨j,hjm,hj⟩:=hex;obtain⟨e,he,hb,rfl⟩:=(hspec i o ho).2.2.1 him j t hjm hj aDk;have Sh:=GK e he hb;rw[uU hda Sh hj,uU hda (by simpa using l7 _ Sh) hj]
     have h1:∀j,j<m->dU ops j≠some t:=fun j hjm hj=>hex ⟨j,hjm,hj⟩
     rw[yL (fun j Sh=>h1 j (l7 j Sh)),yL (fun j hjr=>h1 j (by simpa using hjr))]
    | const v=>rfl
    | global g=>rfl
    | func f=>rfl
   unfold wpOp;simp only[ho];rw[bM (by
    unfold Region.wanted;cases hgd:o.guard with
    | none=>rfl
    | some p =>
     obtain⟨j,b⟩:=p;obtain⟨t,ht,htn,e,he,heD,rfl⟩:=(hspec i o ho).1 him j b hgd;have Sh:=GK e he (((hspec i o ho).2.1 e he).2 heD);have hv:=hGd i o e.on b him ho hgd _ _ (hR e.on Sh (a4Z ⟨i,him,yQ,by unfold Km;rw[ho];exact Array.any_eq_true'.2 ⟨e,he,by simp[heD]⟩⟩));rw[bL (by rw[Yu];decide)] at hv;have hev:=uU hda (a:=a) (vs:=vs) Sh ht;rw[bM (bF htn hN),hv] at hev;have hlt:t<(fL ops a vs L).tmps.size:=by rw[ab9];exact bF htn hN
     show (yielded ops (fL ops a vs L).tmps e.on==some b)=true
     simp only[Act.eval] at hev;unfold yielded;have hdd:(ops[e.on]?).bind (·.dst)=some t:=ht;rw[hdd];simp only[Option.bind_some];rw[Array.getD_eq_getD_getElem?,aY hlt,Option.getD_some] at hev;rw[aY hlt,hev];simp)]
   left
   refine Oper.wp_mono ?_ (hg.wp hex);rintro a' W' ⟨v,rfl,hEW,hE',hRv⟩;exact TH v W' hEW hE' hRv
  obtain rfl:i=m:=by omega
  have wK:∀j,j<i->j∈L:=fun j hj=>by
   obtain⟨e,he,hb,rfl⟩:=(hspec i o ho).2.2.2 rfl j hj;exact GK e he hb
  have hf:=abI L vs W hnd l7 wK hE hR;rw[bL (by omega)] at hf;refine wpOp_mono (fun a' W' hq=>?_) hf;refine wpAny_done ?_ hq fuel;rw[List.eq_nil_iff_forall_not_mem];intro j hj;obtain⟨h0',o',ho',_⟩:=mem_ready.1 hj;have hjs:=(aQ.1 ho').1;have:j∈L++[i]:=by
   by_cases hji:j<i
   ·exact aK _ (wK j hji)
   have:j=i:=by omega
   simp[this]
  rw[(agI j hjs).2 this] at h0';cases h0'
theorem jw {id:Nat} {w:World} (hm:P.follows .mixedOrders=true) {n:Nat} (hok:Zz ops m n=true) (hN:n<=a.tmps.size) (sk:Nat->Bool) (hSg:∀i o,i<m->sk i=true->ops[i]?=some o->o.guard≠none) (hGd:∀i o j b,i<m->ops[i]?=some o->o.guard=some (j,b)->∀v W,R j v W->if sk i=true then v≠.bool b else v=.bool b) (hsk:∀i,i<m->sk i=true->∀L vs W,i∉L->G L vs W->E i W W/\G (L++[i]) (upd vs i undef) W/\R i undef W) (hG:G [] (fun _=>undef) w.drew) (hRE:∀i k v W W',i<m->k<m->i≠k->Cm ops m Kp i k=true->R i v W->E k W W'->R i v W')
  (hstep:∀i o,i<m->sk i=false->ops[i]?=some o->∀L vs W,i∉L->(∀j∈L,fK ops m j i=false)->G L vs W->(∀e∈o.after,mA e=true->R e.on (vs e.on) W)->∀ρ,avU ops a m vs ρ->bQ P o ρ W (fun v W'=>E i W W'/\G (L++[i]) (upd vs i v) W'/\R i v W'))
  (hend:∀L vs W,(∀j,j<m->j∈L)->G L vs W->(∀j∈Kp,j<m->R j (vs j) W)->if m=ops.size then Q .normal (fL ops a vs (List.range m)) W else wpOp P ops Q m (fun a w=>Q .normal a w) (fL ops a vs (List.range m)) W) :
  (Code.region id ops true).wp P Q a w:=by
 refine wp_region_any hm ?_;refine aoH Kp G E R hok hN sk hSg hGd hsk hRE hstep hend ops.size [] (fun _=>undef) _ _ (by simp) (fun j hj=>?_) List.nodup_nil (fun j hj=>by simp at hj) ?_ hG (fun j hj=>by simp at hj) (fun j hj=>by simp at hj)
 ·simp[hj]
 exact aV (List.length_filter_le _ _) (by simp)
end
section
variable {P:Program} {ops:Array Oper} {Q:Exit->Act->World->Prop} {a:Act} {m:Nat} (Kp:ZN) (G:ZN->(Nat->Value)->World->Prop) (E:Nat->World->World->Prop) (R:Nat->Value->World->Prop)
theorem dF {id:Nat} {w:World} (hm:P.follows .mixedOrders=true) {n:Nat} (hok:Zz ops m n=true) (hN:n<=a.tmps.size) (hGd:∀i o j b,i<m->ops[i]?=some o->o.guard=some (j,b)->∀v W,R j v W->v=.bool b) (hG:G [] (fun _=>undef) w.drew) (hRE:∀i k v W W',i<m->k<m->i≠k->Cm ops m Kp i k=true->R i v W->E k W W'->R i v W')
  (hstep:∀i o,i<m->ops[i]?=some o->∀L vs W,i∉L->(∀j∈L,fK ops m j i=false)->G L vs W->(∀e∈o.after,mA e=true->R e.on (vs e.on) W)->∀ρ,avU ops a m vs ρ->bQ P o ρ W (fun v W'=>E i W W'/\G (L++[i]) (upd vs i v) W'/\R i v W'))
  (hend:∀L vs W,(∀j,j<m->j∈L)->G L vs W->(∀j∈Kp,j<m->R j (vs j) W)->if m=ops.size then Q .normal (fL ops a vs (List.range m)) W else wpOp P ops Q m (fun a w=>Q .normal a w) (fL ops a vs (List.range m)) W) :
  (Code.region id ops true).wp P Q a w:=by
 exact jw Kp G E R hm hok hN (fun _=>false) (fun _ _ _ h=>by cases h) (fun i o j b hi ho hg v W hv=>by rw[bL (by decide)];exact hGd i o j b hi ho hg v W hv) (fun _ _ h=>by cases h) hG hRE (fun i o hi _ ho=>hstep i o hi ho) hend
end
end Go.Proofs.YtefjomofjejklaaGreatDoor
