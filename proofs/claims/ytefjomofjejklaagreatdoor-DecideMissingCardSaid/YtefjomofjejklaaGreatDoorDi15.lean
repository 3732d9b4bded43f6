/- Joined. -/
import Derived.Test.YtefjomofjejklaaGreatDoorDi14
namespace Go.Proofs.YtefjomofjejklaaGreatDoor
set_option maxRecDepth 100000
set_option maxHeartbeats 32000000
open Go.RowKit
def KwQ (k:Int) (w:World) (e:Ending) (w':World):Prop:=∃s:BA,e=.returned (.string s)/\s.toList.isEmpty=!decide (1<=k/\k<=10)/\w=w'
theorem aiW (k:Int) (w:World):Calls Tryz.prog 181 #[ k] w (KwQ k w):=by
 by_cases h:1<=k/\k<=10
 ·have HD:=ai (show (!decide (1<=k/\k<=10))=false by rw[bO h];rfl);unfold KwQ;rw[HD.o];clear HD;have hk:k=1\/k=2\/k=3\/k=4\/k=5\/k=6\/k=7\/k=8\/k=9\/k=10:=by omega
  clear h;rcases hk with rfl|rfl|rfl|rfl|rfl|rfl|rfl|rfl|rfl|rfl
  all_goals
   go_enter Tryz.func181,Tryz.ntmps181
   go_wp2_with fail
   go_ret;exact⟨_,rfl,by decide +kernel,rfl⟩
 have HD:=ai (show (!decide (1<=k/\k<=10))=true by rw[bP h];rfl);unfold KwQ;rw[HD.o];have e1:(k==1)=false:=by simp;omega
 have e2:(k==2)=false:=by simp;omega
 have e3:(k==3)=false:=by simp;omega
 have e4:(k==4)=false:=by simp;omega
 have e5:(k==5)=false:=by simp;omega
 have e6:(k==6)=false:=by simp;omega
 have e7:(k==7)=false:=by simp;omega
 have e8:(k==8)=false:=by simp;omega
 have e9:(k==9)=false:=by simp;omega
 have e10:(k==10)=false:=by simp;omega
 clear h;go_enter Tryz.func181,Tryz.ntmps181
 go_wp2_with fail
 go_ret;exact⟨_,rfl,by decide +kernel,rfl⟩
theorem agO (k:Int) (w:World):Calls Tryz.prog 182 #[ k] w (pg (.int .i64 (ku k)) w):=by
 obtain⟨E,hE⟩:∃E,E=ku k:=⟨_,rfl⟩
 rw[<-hE];by_cases h:k=5\/k=6\/k=7\/k=10\/k=8
 ·have HE:=ai hE;clear hE;rcases h with rfl|rfl|rfl|rfl|rfl
  all_goals
   go_enter Tryz.func182,Tryz.ntmps182
   go_wp2_with fail
   go_ret;exact sZ (by rw[HE.o];rfl)
 have HE:=ai (show E=0 by rw[hE];unfold ku;rw[bL (by omega),bL (by omega)]);have e5:(k==5)=false:=by simp;omega
 have e6:(k==6)=false:=by simp;omega
 have e7:(k==7)=false:=by simp;omega
 have e8:(k==8)=false:=by simp;omega
 have e10:(k==10)=false:=by simp;omega
 clear h hE;go_enter Tryz.func182,Tryz.ntmps182
 go_wp2_with fail
 go_ret;exact sZ (by rw[HE.o])
theorem XY:(l:List Wb)->iK l<=mH l
 | []=>by simp[iK]
 | .mk n c u::r=>by
  have h1:=XY u;have h2:=XY r;rw[iK,mH];omega
theorem axO:(l:List Wb)->iK l<=40->mH l<=40
 | [],_=>by simp[mH]
 | .mk n c u::r,h=>by
  rw[iK] at h;have key:∀l:List Wb,iK l<=40->mH l<=iK l:=by
   intro l;induction l using mH.induct with
   | case1=>intro _;simp[mH]
   | case2 n c u r ih1 ih2 =>
    intro h;rw[iK] at h ⊢;have h1:=ih1 (by omega);have h2:=ih2 (by omega);rw[mH];omega
  have h1:=key u (by omega);have h2:=key r (by omega);rw[mH];omega
theorem aIz (l:List Wb):decide (iK l<=40)=decide (0+mH l<=40):=by
 have h1:=XY l;have h2:=axO l;rw[decide_eq_decide];constructor
 ·intro h;have:=h2 h;omega
 intro h;omega
theorem ahu (c:cK):gQ c=(decide (1<=c.kind/\c.kind<=10)&&gJ c.name&&eW c.cond&&(decide (c.gH.length=0)||(c.kind==3))&&(decide (min 1 (ku c.kind)<=c.ck)&&decide (c.ck<=ku c.kind))&&(mh 16 c.gH&&decide (0+mH c.gH<=40))):=by
 have hm:0<=ku c.kind:=by unfold ku;split<;>(try split)<;>omega
 have h1:((decide (ku c.kind=0)&&(c.ck==0))||(decide (0<ku c.kind)&&decide (1<=c.ck)&&decide (c.ck<=ku c.kind)))=(decide (min 1 (ku c.kind)<=c.ck)&&decide (c.ck<=ku c.kind)):=by
  generalize ku c.kind=m at *;generalize c.ck=a;rw[bH];simp only[bG,aF,aH,a47];omega
 unfold gQ;rw[h1,aIz];have h2:(decide (1<=c.kind)&&decide (c.kind<=10))=decide (1<=c.kind/\c.kind<=10):=by simp
 rw[h2];generalize (decide (min 1 (ku c.kind)<=c.ck)&&decide (c.ck<=ku c.kind))=A;by_cases hl:c.gH.length=0
 ·have:c.gH=[]:=aR hl;rw[this];simp[mh,mH]
 simp only[hl,decide_false,Bool.false_or];cases decide (1<=c.kind/\c.kind<=10)<;>cases gJ c.name<;>cases eW c.cond<;>cases (c.kind==3)<;>cases decide (0+mH c.gH<=40)<;>cases mh 16 c.gH<;>cases A<;>rfl
theorem aiw (c:cK) (v:fM) (w:World) (hc:ij w c v) (ho:dQ w) (hok:c.fit) :
  Calls Tryz.prog 166 #[.agg #[ v.kind,.string v.name,v.x.op,.string v.x.name,.slice v.x.aw v.x.nw v.x.cw,v.x.lo,v.x.hi,.slice v.x.aa v.x.na v.x.ca,.slice v.au v.nu v.cu,v.ck]] w (cz (.bool (gQ c)) w):=by
 obtain⟨hk,hnm,hex,ZW,-,-,iV,ham⟩:=hc;obtain⟨ho1,ho2,ho3,ho4,ho5,Fi⟩:=hok;rw[hk,hnm,ham];have zq:=ai hex;have HWB:=ai iV;have HNU:=ai ZW;have HO:=ai ho;have tX:=ai ho2;have CG:=ai Fi;have aDf:v.nu<=1000000000000000:=by rw[ZW];exact ho5
 obtain⟨R,hR⟩:∃R,R=gQ c:=⟨_,rfl⟩
 rw[<-hR];rw[ahu] at hR;have HR:=ai hR;clear hk hnm hex ZW iV ham ho2 ho3 ho4 ho5 Fi hR ho;obtain⟨kind,name,cond,gH,ck⟩:=c;simp only at *;obtain⟨vk,vn,x,au,nu,cu,va⟩:=v;simp only at *;obtain⟨wa,cN⟩:∃wa,wa=w.alloc (.cells #[ kind,.string name,x.op,.string x.name,.slice x.aw x.nw x.cw,x.lo,x.hi,.slice x.aa x.na x.ca,.slice au nu cu,ck] 48):=⟨_,rfl⟩
 have gB:Ext w wa:=by rw[cN];exact(Tz _).alloc _
 have hb:wa.heap[w.heap.size]?=some (.cells #[ kind,.string name,x.op,.string x.name,.slice x.aw x.nw x.cw,x.lo,x.hi,.slice x.aa x.na x.ca,.slice au nu cu,ck] 48 (0,0)):=by rw[cN];exact bR w _
 have dm:=ai gB;have HB:=ai hb;obtain⟨b0,b1,b2,b3,b4,b5,b6,b7,b8,b9,bf⟩:=rB hb;have kL:=bS hb;clear gB hb;go_enter Tryz.func166,Tryz.ntmps166
 go_upto_region 1 with fail
 rw[<-cN];clear cN;go_wp2_with fail
 refine(aiW kind wa).mono ?_;rintro r w1 ⟨s,rfl,hs,rfl⟩;cases tC:decide (1<=kind/\kind<=10)
 ·rw[tC] at hs HR;have HF:=ai (show R=false by rw[HR.o];rfl);have hs2:s.toList.isEmpty=true:=hs;clear hs tC;go_wp2_with fail
  go_ret;exact fQ (by rw[HF.o]) dm.o
 rw[tC] at hs HR;have hs2:s.toList.isEmpty=false:=hs;rw[Bool.true_and] at HR;clear hs tC;go_wp2_with fail
 refine(rN _ _ ho1).mono ?_;rintro r w1 ⟨rfl,rfl⟩;cases hnb:gJ name
 ·rw[hnb] at HR;have HF:=ai (show R=false by rw[HR.o];rfl);clear hnb;go_wp2_with fail
  go_ret;exact fQ (by rw[HF.o]) dm.o
 rw[hnb,Bool.true_and] at HR;clear hnb;go_wp2_with fail
 refine(rC cond _ _ (zq.o.ext dm.o) (HO.o.ext dm.o) tX.o).mono ?_;rintro r w2 ⟨rfl,hx2⟩;rw[zx];have dN:=ai (dm.o.trans hx2);have fY:=ai (hx2.blk HB.o);clear hx2 b0 b1 b2 b3 b4 b5 b6 b7 b8 b9 bf kL;obtain⟨b0,b1,b2,b3,b4,b5,b6,b7,b8,b9,bf⟩:=rB fY.o;have kL:=bS fY.o;cases hxb:eW cond
 ·rw[hxb] at HR;have HF:=ai (show R=false by rw[HR.o];rfl);clear hxb;go_wp2_with fail
  go_ret;exact fQ (by rw[HF.o]) dN.o
 rw[hxb,Bool.true_and] at HR;clear hxb;by_cases adI:kind≠3/\0<nu
 ·obtain⟨h3,h0⟩:=adI;have t3:(kind != 3)=true:=by simp[h3]
  have t0:=ag ((0:Int)<(nu:Int));have HF:=ai (show R=false by
   have e0:=ah (gH.length=0) (by have:=HNU.o;omega);have e3:(kind==3)=false:=by simp[h3]
   rw[HR.o,e0,e3];rfl)
  clear h3;go_wp2_with fail
  go_ret;exact fQ (by rw[HF.o]) dN.o
 have jI:=ai (show R=(decide (min 1 (ku kind)<=ck)&&decide (ck<=ku kind)&&(mh 16 gH&&decide (0+mH gH<=40))) by
  rw[HR.o];by_cases h0:nu=0
  ·have e0:=ag (gH.length=0) (by have:=HNU.o;omega);rw[e0];simp
  have e3:(kind==3)=true:=by
   by_cases h3:kind=3
   ·simp[h3]
   exact a40 ⟨h3,by omega⟩ adI
  rw[e3];simp)
 clear HR;obtain⟨M,hM⟩:∃M,M=ku kind:=⟨_,rfl⟩
 have hM0:0<=M/\M<=1073741824:=by rw[hM];unfold ku;split<;>(try split)<;>omega
 rw[<-hM] at jI;have HM:=ai hM;clear hM;obtain⟨hM0,hM1⟩:=hM0;by_cases h3:kind=3
 case' pos =>
  have t3:(kind != 3)=false:=by simp[h3]
  clear adI h3
 case' neg =>
  have t3:(kind != 3)=true:=by simp[h3]
  have hn0:nu=0:=by
   rcases Nat.eq_zero_or_pos nu with h|h
   ·exact h
   exact a40 ⟨h3,h⟩ adI
  have t0:=ah ((0:Int)<(nu:Int));have t00:=ah (0<nu);clear adI h3 hn0
 all_goals
  go_wp2_with fail
  refine(agO kind w2).mono ?_;rintro r w3 ⟨rfl,rfl⟩;rw[<-HM.o];clear HM;rcases(show M=0\/1<=M by omega) with h0|h1
  case inl =>
   subst h0;have hmin:min (1:Int) 0=0:=by decide
   by_cases hlo:ck<0
   ·have t4:=ag (ck<0) hlo;have HF:=ai (show R=false by
     have:decide (min 1 0<=ck)=false:=bP (by omega);rw[jI.o,this];rfl)
    clear hlo;go_wp2_with fail
    go_ret;exact fQ (by rw[HF.o]) dN.o
   have t4:=ah (ck<0) hlo;by_cases hhi:0<ck
   ·have t5:=ag (0<ck) hhi;have HF:=ai (show R=false by
     have:decide (ck<=0)=false:=bP (by omega);rw[jI.o,this];simp)
    clear hlo hhi;go_wp2_with fail
    go_ret;exact fQ (by rw[HF.o]) dN.o
   have t5:=ah (0<ck) hhi;have nL:=ai (show R=(mh 16 gH&&decide (0+mH gH<=40)) by
    have e1:=ag (min 1 0<=ck);have e2:=ag (ck<=0);rw[jI.o,e1,e2];rfl)
   clear hlo hhi jI;go_wp2_with fail
   have HWF:=ai (Np HO.o (mH gH+1) gH au _ cu 1 0 w2.heap.size (w2.alloc (.cells #[.int .i64 0] 3)) (by omega) aDf CG.o (by omega) (by omega) (by omega) HNU.o
    (gK.mono (fun p v hp=>by
     have hlt:p.block<w2.heap.size:=eB (dN.o.cell hp);rw[eA,bL (by simp;omega)];exact((Tz w2).alloc _).cell (dN.o.cell hp)) _ _ HWB.o) (dN.o.alloc _) dN.o.size (bR w2 _))
   refine HWF.o.mono ?_;rintro r w4 ⟨m4,rfl,-,-,-,hch⟩;have jl:=ai (hch.ext (dN.o.alloc _) (by have:=dN.o.size;simpa using this));clear hch;go_wp2_with fail
   go_ret;exact fQ (by rw[nL.o,Nat.zero_add]) jl.o
  have t6:=ag (1<=M) h1;have hmin:min (1:Int) M=1:=by omega
  by_cases hlo:ck<1
  ·have t4:=ag (ck<1) hlo;have HF:=ai (show R=false by
    have:decide (min 1 M<=ck)=false:=bP (by omega);rw[jI.o,this];rfl)
   clear hlo;go_wp2_with fail
   go_ret;exact fQ (by rw[HF.o]) dN.o
  have t4:=ah (ck<1) hlo;by_cases hhi:M<ck
  ·have t5:=ag (M<ck) hhi;have HF:=ai (show R=false by
    have:decide (ck<=M)=false:=bP (by omega);rw[jI.o,this];simp)
   clear hlo hhi;go_wp2_with fail
   go_ret;exact fQ (by rw[HF.o]) dN.o
  have t5:=ah (M<ck) hhi;have nL:=ai (show R=(mh 16 gH&&decide (0+mH gH<=40)) by
   have e1:=ag (min 1 M<=ck);have e2:=ag (ck<=M);rw[jI.o,e1,e2];rfl)
  clear hlo hhi jI;go_wp2_with fail
  have HWF:=ai (Np HO.o (mH gH+1) gH au _ cu 1 0 w2.heap.size (w2.alloc (.cells #[.int .i64 0] 3)) (by omega) aDf CG.o (by omega) (by omega) (by omega) HNU.o
   (gK.mono (fun p v hp=>by
    have hlt:p.block<w2.heap.size:=eB (dN.o.cell hp);rw[eA,bL (by simp;omega)];exact((Tz w2).alloc _).cell (dN.o.cell hp)) _ _ HWB.o) (dN.o.alloc _) dN.o.size (bR w2 _))
  refine HWF.o.mono ?_;rintro r w4 ⟨m4,rfl,-,-,-,hch⟩;have jl:=ai (hch.ext (dN.o.alloc _) (by have:=dN.o.size;simpa using this));clear hch;go_wp2_with fail
  go_ret;exact fQ (by rw[nL.o,Nat.zero_add]) jl.o
def OC (l:List cK):Bool:=decide (l.length<=40)&&l.all gQ
theorem afg (l:List cK) (a:OA) (n c:Nat) (w:World) (hl:cZ w l a n c) (ho:dQ w) (hok:∀x∈l,x.fit) (hn:n<=1000000000000000) :
  Calls Tryz.prog 136 #[.slice a n c] w (cz (.bool (OC l)) w):=by
 have HL:=ai hl;have HN:=ai hl.len;have HO:=ai ho;have zm:=ai hok;obtain⟨R,hR⟩:∃R,R=OC l:=⟨_,rfl⟩
 rw[<-hR];have HR:=ai (show R=(decide (l.length<=40)&&l.all gQ) from hR);clear hl ho hok hR;by_cases h40:40<n
 ·have t0:=ag ((40:Int)<(n:Int));have HF:=ai (show R=false by rw[HR.o,bP (by have:=HN.o;omega)];rfl);go_enter Tryz.func136,Tryz.ntmps136
  go_wp2_with fail
  go_ret;exact fQ (by rw[HF.o]) (Tz _)
 have t0:=ah ((40:Int)<(n:Int));have jI:=ai (show R=l.all gQ by rw[HR.o,bO (by have:=HN.o;omega)];rfl);clear HR;go_enter Tryz.func136,Tryz.ntmps136
 go_wp2_with fail
 go_loopw [10] (fun t wr=>∃k:Nat,t=.int .i64 k/\k<=n/\(∀j (h:j<l.length),j<k->gQ l[j]=true)/\Ext w wr) (fun t _=>n - (intOf t).toNat)
 case atStart=>exact⟨0,rfl,by omega,fun j _ h=>by omega,Tz _⟩
 case round =>
  obtain⟨k,rfl,hk,hall,lM⟩:=hrel;have mK:=ai hall;have gZ:=ai lM;clear hall lM;by_cases hkn:k<n
  ·have fq:k<l.length:=by have:=HN.o;omega
   have t1:=ag ((k:Int)<(n:Int));obtain⟨b,off,v,rfl,fO,hrow⟩:=(HL.o.ext gZ.o).at fq;obtain⟨c0,c1,c2,c3,c4,c5,c6,c7,c8,c9⟩:=hrow.BB;have HC:=ai (fun (W:World) (hW:Ext wr W)=>aiw l[k] v W (fO.mono hW.sub) (HO.o.ext (gZ.o.trans hW)) (zm.o _ (aD fq)));clear fO hrow;cases hcb:gQ l[k]
   ·have si:=ai hcb;have HF:=ai (show R=false by
     rw[jI.o,List.all_eq_false];exact⟨l[k],aD fq,by rw[hcb];simp⟩)
    clear hcb;go_wp2_with fail
    refine(HC.o _ ((Tz wr).alloc _)).mono ?_;rintro r w3 ⟨rfl,hx3⟩;rw[si.o];have dS:=ai ((gZ.o.alloc _).trans hx3);clear hx3 c0 c1 c2 c3 c4 c5 c6 c7 c8 c9;go_wp2_with fail
    go_ret;exact fQ (by rw[HF.o]) dS.o
   have si:=ai hcb;clear hcb;go_wp2_with fail
   refine(HC.o _ ((Tz wr).alloc _)).mono ?_;rintro r w3 ⟨rfl,hx3⟩;rw[si.o];have dS:=ai ((gZ.o.alloc _).trans hx3);clear hx3 c0 c1 c2 c3 c4 c5 c6 c7 c8 c9;go_wp2_with fail
   go_roundw
   case rel =>
    refine⟨k+1,by go_num,by omega,fun j hj hjk=>?_,dS.o⟩;by_cases e:j=k
    ·subst e;exact si.o
    exact mK.o j hj (by omega)
   case measure=>simp[intOf];omega
  have t1:=ah ((k:Int)<(n:Int));have HF:=ai (show R=true by
   rw[jI.o,aP];intro x hx;obtain⟨j,hj,rfl⟩:=aW.1 hx;exact mK.o j hj (by have:=HN.o;omega))
  go_wp2_with fail
  go_ret;exact fQ (by rw[HF.o]) gZ.o
theorem aiB (l:List cK) (a:OA) (n c:Nat) (w:World) (hl:cZ w l a n c) (ho:dQ w) (hok:∀x∈l,x.fit) (hn:n<=1000000000000000) :
  Calls Tryz.prog 106 #[.agg #[.slice a n c,.slice none 0 0]] w (cz (.bool (OC l)) w):=by
 obtain⟨wa,cN⟩:∃wa,wa=w.alloc (.cells #[.slice a n c,.slice none 0 0] 166):=⟨_,rfl⟩
 have gB:Ext w wa:=by rw[cN];exact(Tz _).alloc _
 have hb:wa.heap[w.heap.size]?=some (.cells #[.slice a n c,.slice none 0 0] 166 (0,0)):=by rw[cN];exact bR w _
 obtain⟨b0,b1,bf⟩:=uZ hb;have kL:=bS hb;have dm:=ai gB;have HB:=ai hb;have HC:=ai (afg l a n c wa (hl.ext gB) (ho.ext gB) hok hn);obtain⟨R,hR⟩:∃R,R=OC l:=⟨_,rfl⟩
 rw[<-hR] at HC ⊢;clear hl ho hok hR gB hb;go_enter Tryz.func106,Tryz.ntmps106
 go_upto_region 1 with fail
 rw[<-cN];clear cN;go_wp2_with fail
 refine HC.o.mono ?_;rintro r w3 ⟨rfl,hx3⟩;have dS:=ai (dm.o.trans hx3);have nU:=ai (hx3.blk HB.o);clear hx3 b0 b1 bf kL;obtain⟨b0,b1,bf⟩:=uZ nU.o;have kL:=bS nU.o;cases R
 ·go_wp2_with fail
  go_ret;exact fQ rfl dS.o
 go_wp2_with fail
 go_loop [18] (fun t=>t=.int .i64 0) (fun _=>0)
 case atStart=>exact rfl
 case round =>
  subst hrel;go_wp2_with fail
  go_ret;exact fQ rfl dS.o
theorem akK {w:World} {g:Nat} {v:fM} {x:cK} {t:TypeId} (h:w.heap[g]?=some (.cells v.cells.toArray t (0,0))) (hx:ij w x v):cZ w [x] (some ⟨g,0,none⟩) 1 1:=by
 refine⟨[v],⟨rfl,aU _,a4Z ⟨g,0,rfl⟩,fun i hi=>⟨g,0,rfl,fun j hj=>?_⟩⟩,rfl,fun i h1 h2=>?_⟩
 ·obtain rfl:i=0:=by simp at hi;omega
  rw[bX h];simp only[bB,Nat.zero_mul,Nat.zero_add,Nat.add_zero] at hj ⊢;simp[hj]
 obtain rfl:i=0:=by simp at h1;omega
 exact hx
theorem anW (c:cK):OC [c]=gQ c:=by simp[OC]
open Go.RowKit Go.Maps
def lC (c:cK):List Ex:=c.cond::pR c.gH
theorem XW (c:cK):(lC c).length=1+mH c.gH:=by simp[lC,XV];omega
theorem Dk (w:World):Sub w (mask w []):=fun p v hp=>by rw[eA,bL (by simp)];exact hp
theorem akn (w:World) (arr:Array Value) (e:TypeId) {size n base:Nat} (hs:arr.size=n*size) (hn:n<=maxLen) (hb:base<=w.heap.size):(w.alloc (.cells arr e)).ownsRow base e size (.slice (some ⟨w.heap.size,0,none⟩) n n) n arr.toList :=
 ⟨by simpa using hs,a4Z ⟨w.heap.size,n,arr,rfl,hb,bR w _,aU _,hn,hs,by rw[aS (by simp;omega)]⟩⟩
def aVm (c:cK) (w:World) (e:Ending) (w':World):Prop:=∃a n k,e=.returned (.slice a n k)/\n=(lC c).length/\n<=k/\eU w' (lC c) a/\Ext w w'
theorem Oz (c:cK) (v:fM) (w:World) (hc:ij w c v) (hn:mH c.gH<=9000) :
  Calls Tryz.prog 82 #[.agg #[ v.kind,.string v.name,v.x.op,.string v.x.name,.slice v.x.aw v.x.nw v.x.cw,v.x.lo,v.x.hi,.slice v.x.aa v.x.na v.x.ca,.slice v.au v.nu v.cu,v.ck]] w (aVm c w):=by
 obtain⟨-,-,hex,ZW,-,-,iV,-⟩:=hc;have zq:=ai hex;have HWB:=ai iV;have HNU:=ai ZW;obtain⟨wa,cN⟩:∃wa,wa=w.alloc (.cells #[ v.kind,.string v.name,v.x.op,.string v.x.name,.slice v.x.aw v.x.nw v.x.cw,v.x.lo,v.x.hi,.slice v.x.aa v.x.na v.x.ca,.slice v.au v.nu v.cu,v.ck] 48):=⟨_,rfl⟩
 have gB:Ext w wa:=by rw[cN];exact(Tz _).alloc _
 have hb:wa.heap[w.heap.size]?=some (.cells #[ v.kind,.string v.name,v.x.op,.string v.x.name,.slice v.x.aw v.x.nw v.x.cw,v.x.lo,v.x.hi,.slice v.x.aa v.x.na v.x.ca,.slice v.au v.nu v.cu,v.ck] 48 (0,0)):=by rw[cN];exact bR w _
 have dm:=ai gB;obtain⟨b0,b1,b2,b3,b4,b5,b6,b7,b8,b9,bf⟩:=rB hb;have kL:=bS hb;clear gB hb hex iV ZW;go_enter Tryz.func82,Tryz.ntmps82
 go_upto_region 1 with fail
 rw[<-cN];clear cN;obtain⟨wx,hwx⟩:∃wx,wx=wa.alloc (.cells #[ v.x.op,.string v.x.name,.slice v.x.aw v.x.nw v.x.cw,v.x.lo,v.x.hi,.slice v.x.aa v.x.na v.x.ca] 45):=⟨_,rfl⟩
 have yx:=ai (show Ext wa wx by rw[hwx];exact(Tz _).alloc _);have HOW:=ai (show wx.ownsRow wa.heap.size 45 6 (.slice (some ⟨wa.heap.size,0,none⟩) 1 1) 1 v.x.cells by rw[hwx];exact akn wa #[ v.x.op,.string v.x.name,.slice v.x.aw v.x.nw v.x.cw,v.x.lo,v.x.hi,.slice v.x.aa v.x.na v.x.ca] 45 (by simp) (by unfold maxLen;omega) (aU _));have HEC:=ai (abW (mH c.gH+1) c.gH v.au v.nu v.cu wa.heap.size (.slice (some ⟨wa.heap.size,0,none⟩) 1 1) 1 v.x.cells wx (by omega) HNU.o (by omega) HWB.o (dm.o.trans yx.o) dm.o.size yx.o.size HOW.o);go_wp2_with fail
 rw[<-hwx];clear hwx;refine HEC.o.mono ?_;rintro r w3 ⟨v3,ys,rfl,hown,hys,hch,hfr⟩;have vF:=ai hown;have HY3:=ai hys;have dS:=ai (show Ext w w3 from hch.ext (dm.o.trans yx.o) (fun y hy=>by have h1:=(HOW.o.lt y (bV.1 hy)).1;have:=dm.o.size;omega));clear hown hys hch hfr b0 b1 b2 b3 b4 b5 b6 b7 b8 b9 bf kL HEC;obtain⟨a3,c3,hv3⟩:=eP vF.o;subst hv3;go_wp2_with fail
 go_ret;have hl:(lC c).length=1+mH c.gH:=XW c;have hR:ug w (lC c) (v.x::ys):=by
  have h1:ug w [c.cond] [v.x]:=(ug.nil w).snoc zq.o;simpa[lC] using h1.app HY3.o
 obtain⟨a',c',e',h1,h2,h3⟩:=KC (M:=[]) (l:=lC c) (xs:=v.x::ys) (by rw[hl];simpa using vF.o) (by simp) (hR.mono (dS.o.sub.trans (Dk _)));rw[hl] at e';simp only[a45,true_and] at e';obtain⟨rfl,rfl⟩:=e';exact⟨_,_,_,rfl,hl.symm,by rw[<-hl];exact h1,eU.mono (cC _ _) _ _ h3,dS.o⟩
theorem Wh (s:List Attr) (l:List cK):(a b:List Ex)->dZ s l (a++b)=if dZ s l a≠0 then dZ s l a else dZ s l b
 | [],b=>by simp[dZ]
 | e::r,b=>by
  have ih:=Wh s l r b;simp only[a48];rw[dZ,dZ,ih];by_cases h:dr s l e≠0
  ·rw[bM h,bM h,bM h]
  rw[bL h,bL h]
theorem KU (s:List Attr) (l:List cK):(u:List Wb)->fG s l u=dZ s l (pR u)
 | []=>by rw[fG,pR,dZ]
 | .mk n c u::r=>by
  rw[fG,pR,dZ,Wh,KU s l u,KU s l r]
theorem FC (l:List cK):(u:List Wb)->eH l u=(pR u).any fun x=>decide (2000<dV l x)
 | []=>by rw[eH,pR];rfl
 | .mk n c u::r=>by
  rw[eH,pR,FC l u,FC l r];simp[List.any_append,Bool.or_assoc]
theorem X5:(d:Nat)->(u:List Wb)->mh d u=true->∀x∈pR u,eW x=true
 | _,[],_,x,hx=>by simp[pR] at hx
 | d,.mk n c u::r,h,x,hx=>by
  rw[mh] at h;simp only[aF] at h;rw[pR] at hx;rcases bz.1 hx with rfl|hx
  ·exact h.1.1.2
  rcases aN.1 hx with hx|hx
  ·exact X5 _ u h.1.2 x hx
  exact X5 _ r h.2 x hx
theorem wY {c:cK} (h:gQ c=true):(∀x∈lC c,eW x=true)/\mH c.gH<=40:=by
 have h0:=Ji h;rw[ahu] at h;simp only[aF,aH] at h;refine⟨fun x hx=>?_,by have:=h.2.2;omega⟩;rcases bz.1 hx with rfl|hx
 ·exact h0
 exact X5 _ _ h.2.1 x hx
theorem ab3:(u:List Wb)->nY u->∀x∈pR u,x.fits/\x.iT
 | [],_,x,hx=>by simp[pR] at hx
 | .mk n c u::r,h,x,hx=>by
  rw[nY] at h;rw[pR] at hx;rcases bz.1 hx with rfl|hx
  ·exact⟨h.2.1,h.2.2.1⟩
  rcases aN.1 hx with hx|hx
  ·exact ab3 u h.2.2.2.2.2.1 x hx
  exact ab3 r h.2.2.2.2.2.2 x hx
theorem ahp {c:cK} (h:c.fit):∀x∈lC c,x.fits/\x.iT:=fun x hx=>by
 rcases bz.1 hx with rfl|hx
 ·exact⟨h.2.1,h.2.2.1⟩
 exact ab3 _ h.2.2.2.2.2 x hx
def ar5 (s:List Attr) (l:List cK) (bef:List cK) (c:cK):Int :=
 if gQ c=false then 5 else if (findAt bef c.name).isSome then 8 else if (eO s c.name).isSome then 8 else dZ s l (lC c)
theorem ar4 (s:List Attr) (l:List cK) {i:Nat} (hi:i<l.length):ar5 s l (l.take i) l[i]=jE s l i:=by
 unfold ar5 jE;rw[fJ hi];have hf:(findAt (l.take i) l[i].name).isSome=decide ((findAt l l[i].name).getD 0<i):=by
  unfold findAt;cases h:l.findIdx? (fun c=>decide (c.name=l[i].name)) with
  | none =>
   rw[bh] at h;have:=h l[i] (aD hi);simp at this
  | some f =>
   rw[aJ] at h;obtain⟨hf,h1,h2⟩:=h;by_cases ZZ:f<i
   ·have:(l.take i).findIdx? (fun c=>decide (c.name=l[i].name))=some f:=by
     rw[aJ];exact⟨by simp;omega,by simpa using h1,fun j hj=>by simpa using h2 j hj⟩
    rw[this];simp[ZZ]
   have:(l.take i).findIdx? (fun c=>decide (c.name=l[i].name))=none:=by
    rw[bh];intro x hx;obtain⟨j,hj,rfl⟩:=aW.1 hx;have:=h2 j (by simp at hj;omega);simpa using this
   rw[this];simp[ZZ]
 rw[hf,KU];have hc:dZ s l (lC l[i])=if dr s l l[i].cond≠0 then dr s l l[i].cond else dZ s l (pR l[i].gH):=by rw[lC,dZ]
 rw[hc];simp only[aH]
theorem ajm (s:List Attr) (hse:dy s=0) (l bef:List cK) (hf:∀x∈s,x.fits) (hsl:s.length<=1000000000000000) (bm nm:Nat) (ba:OA) (bn bc:Nat) (c:cK) (v:fM) (sv:Value) (w:World) (hok:c.fit) (ho:dQ w) (hs:dB w s sv) (hd:xS w l bm nm) (hb:cZ w bef ba bn bc) (rO:bn<=1000000000000000) (hc:ij w c v) :
  Calls Tryz.prog 79 #[sv,.map (some bm),.slice ba bn bc,.agg #[ v.kind,.string v.name,v.x.op,.string v.x.name,.slice v.x.aw v.x.nw v.x.cw,v.x.lo,v.x.hi,.slice v.x.aa v.x.na v.x.ca,.slice v.au v.nu v.cu,v.ck]] w (cz (.int .i64 (ar5 s l bef c)) w):=by
 obtain⟨sa,sn,sc,rfl,B6⟩:=hs.slice;have HS:=ai hs;have HD:=ai hd;have HC:=ai hc;have zm:=ai hok;have Yl:=ai (fun (W:World) (hW:Ext w W) (g:Nat) (hg:W.heap[g]?=some (.cells v.cells.toArray 48 (0,0)))=>aiB [c] (some ⟨g,0,none⟩) 1 1 W (akK hg (hc.mono hW.sub)) (ho.ext hW) (by simpa using hok) (by omega));have HFI:=ai (fun (W:World) (hW:Ext w W)=>apx bef ba bn bc v.name W (hb.ext hW) rO);have tF:=ai (fun (W:World) (hW:Ext w W)=>IL s (.agg #[.slice sa sn sc]) v.name W (hs.ext hW) hsl);have zi:=ai (fun (e:Ex) (ev:Value) (W:World) (hW:Ext w W) (h1:e.iT) (h2:e.fits) (he:dw W e ev)=>Mq s hse l hf hsl bm nm e ev (.agg #[.slice sa sn sc]) W h1 h2 (ho.ext hW) (hs.ext hW) (hd.ext hW) he);rw[anW] at Yl;have hnm:v.name=c.name:=hc.2.1;obtain⟨R,hR⟩:∃R,R=ar5 s l bef c:=⟨_,rfl⟩
 rw[<-hR];have HR:=ai (show R=if gQ c=false then 5 else if (findAt bef v.name).isSome then 8 else if (eO s v.name).isSome then 8 else dZ s l (lC c) by rw[hnm];exact hR);clear hnm;obtain⟨wa,cN⟩:∃wa,wa=(w.alloc (.cells #[.slice sa sn sc] 24)).alloc (.cells #[ v.kind,.string v.name,v.x.op,.string v.x.name,.slice v.x.aw v.x.nw v.x.cw,v.x.lo,v.x.hi,.slice v.x.aa v.x.na v.x.ca,.slice v.au v.nu v.cu,v.ck] 48):=⟨_,rfl⟩
 have gB:Ext w wa:=by rw[cN];exact((Tz _).alloc _).alloc _
 have hb0:wa.heap[w.heap.size]?=some (.cells #[.slice sa sn sc] 24 (0,0)):=by rw[cN];exact bU (bR w _)
 have hb1:wa.heap[w.heap.size+1]?=some (.cells #[ v.kind,.string v.name,v.x.op,.string v.x.name,.slice v.x.aw v.x.nw v.x.cw,v.x.lo,v.x.hi,.slice v.x.aa v.x.na v.x.ca,.slice v.au v.nu v.cu,v.ck] 48 (0,0)):=by rw[cN];exact cT (by simp)
 have dm:=ai gB;have iO:=ai hb0;have gG:=ai hb1;obtain⟨b0,b1,b2,b3,b4,b5,b6,b7,b8,b9,bf⟩:=rB hb1;have kI:=bS hb1;clear hs hd hc hok hb ho hR B6 gB hb0 hb1 hf;go_enter Tryz.func79,Tryz.ntmps79
 go_upto_region 1 with fail
 rw[<-cN];clear cN;obtain⟨wx,hwx⟩:∃wx,wx=wa.alloc (.cells #[ v.kind,.string v.name,v.x.op,.string v.x.name,.slice v.x.aw v.x.nw v.x.cw,v.x.lo,v.x.hi,.slice v.x.aa v.x.na v.x.ca,.slice v.au v.nu v.cu,v.ck] 48):=⟨_,rfl⟩
 have Sd:Ext wa wx:=by rw[hwx];exact(Tz _).alloc _
 have jm:=ai (show wx.heap[wa.heap.size]?=some (.cells v.cells.toArray 48 (0,0)) by rw[hwx];exact bR wa _);have yx:=ai (dm.o.trans Sd);have iO:=ai (Sd.blk iO.o);have gG:=ai (Sd.blk gG.o);clear Sd;go_wp2_with fail
 rw[<-hwx];clear hwx;refine(Yl.o wx yx.o wa.heap.size jm.o).mono ?_;rintro r w3 ⟨rfl,hx3⟩;have dS:=ai (yx.o.trans hx3);have wQ:=ai (hx3.blk iO.o);have nW:=ai (hx3.blk gG.o);clear hx3 b0 b1 b2 b3 b4 b5 b6 b7 b8 b9 bf kI Yl;obtain⟨CB,hCB⟩:∃CB,CB=gQ c:=⟨_,rfl⟩
 rw[<-hCB] at HR ⊢;have si:=ai hCB;clear hCB;cases CB
 ·have HQ:=ai (show R=5 by rw[HR.o];rfl);go_wp2_with fail
  go_ret;exact cD (by rw[HQ.o]) dS.o
 have jI:=ai (show R=if (findAt bef v.name).isSome then 8 else if (eO s v.name).isSome then 8 else dZ s l (lC c) by rw[HR.o];rfl);clear HR;obtain⟨b0,b1,b2,b3,b4,b5,b6,b7,b8,b9,bf⟩:=rB nW.o;have kI:=bS nW.o;obtain⟨q,hq⟩:∃q,q=(findAt bef v.name).getD 0:=⟨_,rfl⟩
 obtain⟨fb,hfb⟩:∃fb,fb=(findAt bef v.name).isSome:=⟨_,rfl⟩
 have HFV:=ai (show sX (findAt bef v.name)=.tuple #[.int .i64 (q:Nat),.bool fb] by rw[hq,hfb];rfl);rw[<-hfb] at jI;clear hq hfb;go_wp2_with fail
 refine(HFI.o w3 dS.o).mono ?_;rw[HFV.o];rintro r w4 ⟨rfl,gV⟩;have jl:=ai (dS.o.trans gV);have aA0:=ai (gV.blk wQ.o);have FP:=ai (gV.blk nW.o);clear gV b0 b1 b2 b3 b4 b5 b6 b7 b8 b9 bf kI HFI HFV;cases fb
 case true =>
  have HQ:=ai (show R=8 by rw[jI.o];rfl);go_wp2_with fail
  go_ret;exact cD (by rw[HQ.o]) jl.o
 have nL:=ai (show R=if (eO s v.name).isSome then 8 else dZ s l (lC c) by rw[jI.o];rfl);clear jI;obtain⟨a0,af⟩:=dO aA0.o;obtain⟨b0,b1,b2,b3,b4,b5,b6,b7,b8,b9,bf⟩:=rB FP.o;have kI:=bS FP.o;obtain⟨q,hq⟩:∃q,q=(eO s v.name).getD 0:=⟨_,rfl⟩
 obtain⟨fb,hfb⟩:∃fb,fb=(eO s v.name).isSome:=⟨_,rfl⟩
 have HFV:=ai (show sX (eO s v.name)=.tuple #[.int .i64 (q:Nat),.bool fb] by rw[hq,hfb];rfl);rw[<-hfb] at nL;clear hq hfb;go_wp2_with fail
 refine(tF.o w4 jl.o).mono ?_;rw[HFV.o];rintro r w5 ⟨rfl,dh⟩;have gW:=ai (jl.o.trans dh);have aO4:=ai (dh.blk aA0.o);have Cc:=ai (dh.blk FP.o);clear dh a0 af b0 b1 b2 b3 b4 b5 b6 b7 b8 b9 bf kI tF HFV;cases fb
 case true =>
  have HQ:=ai (show R=8 by rw[nL.o];rfl);go_wp2_with fail
  go_ret;exact cD (by rw[HQ.o]) gW.o
 have sI:=ai (show R=dZ s l (lC c) by rw[nL.o];rfl);clear nL;obtain⟨b0,b1,b2,b3,b4,b5,b6,b7,b8,b9,bf⟩:=rB Cc.o;have kI:=bS Cc.o;have iV:=(wY si.o.symm).2;have HRF:=ai (wY si.o.symm).1;have HFT:=ai (ahp zm.o);have G9:=ai (Oz c v w5 (HC.o.mono gW.o.sub) (by omega));go_wp2_with fail
 refine G9.o.mono ?_;rintro r w6 ⟨ea,en,ek,rfl,hen,aWS,hed,gN⟩;have kR:=ai (gW.o.trans gN);have aGo:=ai (gN.blk aO4.o);have HED:=ai hed;have Li:=ai hen;have aDr:en<=41:=by have:=XW c;omega
 clear gN hed hen b0 b1 b2 b3 b4 b5 b6 b7 b8 b9 bf kI G9;go_wp2_with fail
 go_loopw [40] (fun t wr=>∃k:Nat,t=.int .i64 k/\k<=en/\(∀j (h:j<(lC c).length),j<k->dr s l (lC c)[j]=0)/\wr.heap[w.heap.size]?=some (.cells #[.slice sa sn sc] 24 (0,0))/\Ext w6 wr) (fun t _=>en - (intOf t).toNat)
 case atStart=>exact⟨0,rfl,by omega,fun j _ h=>by omega,aGo.o,Tz _⟩
 case round =>
  obtain⟨k,rfl,hk,hall,j6,lM⟩:=hrel;have mK:=ai hall;have GX:=ai j6;have gZ:=ai lM;obtain⟨a0,af⟩:=dO j6;have lU:=bS j6;clear hall j6 lM;by_cases hkn:k<en
  ·have fq:k<(lC c).length:=by have:=Li.o;omega
   have t1:=ag ((k:Int)<(en:Int));obtain⟨b,off,rfl,nJ,nD,nG,nK,nE,nI,h0,h1,h2,h3,h4,h5,h6⟩:=eU.at (lC c) _ (eU.ext gZ.o (lC c) _ HED.o) k fq;have hmem:=aD fq;have Lb:=ai (fun (W:World) (hW:Ext wr W)=>zi.o (lC c)[k] _ W ((kR.o.trans gZ.o).trans hW) (HFT.o _ hmem).2 (HFT.o _ hmem).1 (h6.ext hW));have HEE:=ai (show zV s l (lC c)[k]=dr s l (lC c)[k] by unfold zV;rw[HRF.o _ hmem];simp);have DK:=eB h0;simp only at DK;unfold fN at Lb;clear h6 hmem;rw[HEE.o] at Lb;obtain⟨E1,xK⟩:∃E1,E1=dr s l (lC c)[k]:=⟨_,rfl⟩
   rw[<-xK] at Lb;have ue:=ai xK;clear xK;go_wp2_with fail
   refine(Lb.o _ ((Tz wr).alloc _)).mono ?_;rintro r w7 ⟨rfl,ng⟩;have rZ:=ai ((gZ.o.alloc _).trans ng);have CX:=ai (ng.blk (bU GX.o));clear ng h0 h1 h2 h3 h4 h5 a0 af lU Lb;by_cases hz1:E1=0
   ·have tz1:(E1 != 0)=false:=by simp[hz1]
    have HZ1:=ai (ue.o.symm.trans hz1);clear hz1;go_wp2_with fail
    go_roundw
    case rel =>
     refine⟨k+1,by go_num,by omega,fun j hj hjk=>?_,CX.o,rZ.o⟩;by_cases e0:j=k
     ·subst e0;exact HZ1.o
     exact mK.o j hj (by omega)
    case measure=>simp[intOf];omega
   have tz1:(E1 != 0)=true:=by simp[hz1]
   have HQ:=ai (show R=E1 by rw[sI.o,FZ (lC c) k fq (by rw[<-ue.o];exact hz1) (fun j hj=>mK.o j (by omega) hj),ue.o]);clear hz1;go_wp2_with fail
   go_ret;exact cD (by rw[HQ.o]) (kR.o.trans rZ.o)
  have t1:=ah ((k:Int)<(en:Int));have HQ:=ai (show R=0 by rw[sI.o,tK (lC c) fun j hj=>mK.o j hj (by have:=Li.o;omega)]);go_wp2_with fail
  go_ret;exact cD (by rw[HQ.o]) (kR.o.trans gZ.o)
theorem abd (l:List cK):(o:ZN)->∀s n,qG l o s=some n->n<=2001:=by
 intro o;generalize hm:o.length=m;induction m generalizing o with
 | zero=>intro s n h;rw[aR hm] at h;simp[qG] at h
 | succ m ih =>
  intro s n h;have hne:o≠[]:=by intro e;rw[e] at hm;cases hm
  obtain⟨r,i,rfl⟩:∃r i,o=r++[i]:=⟨o.dropLast,o.getLast hne,(List.dropLast_concat_getLast hne).symm⟩
  have hr:=ih r (by simpa using hm);rw[LK] at h;by_cases e:s=(l.getD i fC).name
  ·rw[bM e] at h;cases h
   exact aBA hr _
  rw[bL e] at h;exact hr s n h
theorem ayS {l:List cK} {o:ZN} {i:Nat} (x:Lit):Rw (kV (Tl (qG l o))) (.string (l.getD i fC).name.data.toList) (some (.int .i64 (szE (qG l o) (l.getD i fC).cond))) x=kV (Tl (qG l (o++[i]))) x:=by
 rw[Dm];cases x<;>try rfl
 rename_i bs
 simp only[kV];by_cases e:(⟨bs.toArray⟩:BA)=(l.getD i fC).name
 ·rw[e,xY,Tl,LK,bM rfl]
  rfl
 rw[sR _ _ e,Tl,Tl,LK,bL e]
theorem axH {P:Program} {ops:Array Oper} {Q:Exit->Act->World->Prop} {a:Act} {w:World} {i:Nat} {o:Oper} (ho:ops[i]?=some o) (h:wpList P ops Q [o] a w):wpOp P ops Q i (fun a w=>Q .normal a w) a w:=by
 unfold wpOp;rw[ho];exact h
def amh (bf cb ld n c i:Nat) (v:fM) (z:Nat):Nat->Value
 | 0=>.map (some bf)|6=>.map (some bf)
 | 1=>.slice (some ⟨cb,ld,none⟩) n c|7=>.slice (some ⟨cb,ld,none⟩) n c
 | 2=>.int .i64 i|8=>.int .i64 i
 | 3=>.pointer (some ⟨cb,ld+i*10,none⟩)|9=>.pointer (some ⟨cb,ld+i*10,none⟩)
 | 4=>.pointer (some ⟨cb,ld+i*10+1,none⟩)|10=>.pointer (some ⟨cb,ld+i*10+2,none⟩)
 | 5=>.string v.name
 | 11=>.agg #[.int .i64 v.x.op,.string v.x.name,.slice v.x.aw v.x.nw v.x.cw,.int .i64 v.x.lo,.int .i64 v.x.hi,.slice v.x.aa v.x.na v.x.ca]
 | _=>.int .i64 z
def aXK (wr W:World):Prop:=Ext wr W
def aXL (_:Nat) (W W':World):Prop:=Ext W W'
def aXJ (f:Nat->Value) (j:Nat) (u:Value) (_:World):Prop:=u=f j
def aNb (l:List cK) (o:ZN) (w:World) (e:Ending) (w':World):Prop:=∃b,e=.returned (.map (some b))/\ig w' 9 b o.length (kV (Tl (qG l o)))/\Ext w w'
theorem acy (l:List cK) (a:OA) (n c:Nat) (o:ZN) (oa:OA) (oc:Nat) (w:World) (hl:cZ w l a n c) (_hn:n<=1000000) (ho:FK w (ints o) oa o.length oc) (hol:o.length<=1000000) (hlt:∀i∈o,i<l.length)
  (hsz:∀x∈l,x.name.size<=1000000000000000/\x.cond.size<=1000000000000000/\x.cond.fits) :
  Calls Tryz.prog 81 #[.slice a n c,.slice oa o.length oc] w (aNb l o w):=by
 have HL:=ai hl;have HN:=ai hl.len;have tR:=ai hsz;have HO:=ai ho;have kB:=ai hlt;clear hl hsz ho hlt;have hmm:=@run_makeMap Tryz.prog;have Uj:=ai (ig.made w 9);have BO:=ai ((Tz w).alloc (.map #[] 0));obtain⟨bf,Qd⟩:∃bf:Nat,bf=w.heap.size:=⟨_,rfl⟩
 rw[<-Qd] at Uj;have HBF:=ai Qd;go_enter Tryz.func81,Tryz.ntmps81
 go_wp2_with fail
 rw[<-Qd];clear Qd hmm;go_loopw [11] (fun i wr=>∃k:Nat,k<=o.length/\i=.int .i64 k/\ig wr 9 bf k (kV (Tl (qG l (o.take k))))/\Ext w wr) (fun i _=>o.length - (intOf i).toNat)
 case atStart =>
  refine⟨0,by omega,rfl,Uj.o.congr fun x=>?_,BO.o⟩;cases x<;>simp[kV,Tl,qG]
 case round =>
  obtain⟨k,hk,rfl,hmap,hx⟩:=hrel;have En:=ai hmap;have HX:=ai hx;have qL:=hmap.lt;clear hmap hx Uj BO;by_cases hlt:k<o.length
  ·have t1:=ag ((k:Int)<(o.length:Int));obtain⟨ob,aVW,rfl,oc1⟩:=(HO.o.mono HX.o.sub).2.2.2 k (by simpa[ints] using hlt);obtain⟨i,hi⟩:∃i,i=o[k]:=⟨_,rfl⟩
   have e1:(ints o)[k]'(by simpa[ints] using hlt)=(i:Int):=by simp[ints,hi]
   rw[e1] at oc1;have hil:i<l.length:=kB.o i (by rw[hi];exact aD hlt);have hin:i<n:=by have:=HN.o;omega
   obtain⟨cb,ld,v,rfl,fO,hrow⟩:=(HL.o.ext HX.o).at hil;obtain⟨c0,c1,c2,c3,c4,c5,c6,c7,c8,c9⟩:=hrow.BB;have aLI:=tR.o _ (aD hil);have zP:v.name.size<=1000000000000000:=by rw[fO.2.1];exact aLI.1
   have zq:=ai (show dw wr l[i].cond (.agg #[.int .i64 v.x.op,.string v.x.name,.slice v.x.aw v.x.nw v.x.cw,.int .i64 v.x.lo,.int .i64 v.x.hi,.slice v.x.aa v.x.na v.x.ca]) from fO.2.2.1);have HST:=ai (@ayS l (o.take k) i);have e2:o.take k++[i]=o.take (k+1):=by rw[hi,aO hlt]
   rw[fJ hil,<-fO.2.1,e2] at HST;have HSI:=ai aLI;have Sc:(0:Int)<=(i:Int):=by omega
   have ti1:(i:Int)<(n:Int):=by omega
   clear fO hrow e1 e2 hi aLI;go_upto_region 5 with fail
   have Un:=ai (fun (W:World) (hW:Ext wr W)=>X3 (qG l (o.take k)) (abd l _) bf k 1000000000000000 l[i].cond _ W HSI.o.2.1 (by omega) HSI.o.2.2 (En.o.ext hW) (zq.o.ext hW));obtain⟨Z,hZ⟩:∃Z,Z=szE (qG l (o.take k)) l[i].cond:=⟨_,rfl⟩
   rw[<-hZ] at Un HST;clear hZ;refine fk (m:=13) [0,5,12] (aXK wr) aXL (aXJ (amh bf cb ld n c i v Z)) (by kernel_rfl) (by kernel_rfl) ((Tz wr).drew) ?_ ?_ ?_
   ·exact fun _ _ _ _ _ _ _ _ _ h _=>h
   ·intro q op hq ho vs W hW hd ρ hρ;have jA:=ltc13 hq;clear hq;have o5:ρ (.tmp 5)=.map (some bf):=hρ.out 5 rfl;have o0:ρ (.tmp 0)=.slice (some ⟨cb,ld,none⟩) n c:=hρ.out 0 rfl;have o7:ρ (.tmp 7)=.int .i64 i:=hρ.out 7 rfl;have i1:=hρ.i 1 16;have i2:=hρ.i 2 17;have i3:=hρ.i 3 18;have i4:=hρ.i 4 19;have i7:=hρ.i 7 22;have i8:=hρ.i 8 23;have i9:=hρ.i 9 24;have i10:=hρ.i 10 25;have i6:=hρ.i 6 21;have i11:=hρ.i 11 26;have hc:=hρ.const;have hfn:=hρ.func;clear hρ;have hW:Ext wr W:=hW;have HW:=ai hW;clear hW;rcases jA with rfl|rfl|rfl|rfl|rfl|rfl|rfl|rfl|rfl|rfl|rfl|rfl|rfl
    ·cases ho;unfold bQ;go_simp;exact⟨Tz W,rfl⟩
    ·cases ho;unfold bQ;go_simp;exact⟨Tz W,rfl⟩
    ·cases ho;unfold bQ;go_simp;exact⟨Tz W,rfl⟩
    ·cases ho
     have h1:vs 1=_:=hd ⟨1,.data⟩ (by simp) rfl;have h2:vs 2=_:=hd ⟨2,.data⟩ (by simp) rfl;rw[h1] at i1;rw[h2] at i2;simp only[amh] at i1 i2;unfold bQ;go_simp;exact⟨Tz W,rfl⟩
    ·cases ho
     have h3:vs 3=_:=hd ⟨3,.data⟩ (by simp) rfl;rw[h3] at i3;simp only[amh] at i3;unfold bQ;go_simp;exact⟨Tz W,rfl⟩
    ·cases ho
     have h4:vs 4=_:=hd ⟨4,.data⟩ (by simp) rfl;rw[h4] at i4;simp only[amh] at i4;have g1:=HW.o.cell c1;unfold bQ;go_simp;exact⟨Tz W,rfl⟩
    ·cases ho;unfold bQ;go_simp;exact⟨Tz W,rfl⟩
    ·cases ho;unfold bQ;go_simp;exact⟨Tz W,rfl⟩
    ·cases ho;unfold bQ;go_simp;exact⟨Tz W,rfl⟩
    ·cases ho
     have h1:vs 7=_:=hd ⟨7,.data⟩ (by simp) rfl;have h2:vs 8=_:=hd ⟨8,.data⟩ (by simp) rfl;rw[h1] at i7;rw[h2] at i8;simp only[amh] at i7 i8;unfold bQ;go_simp;exact⟨Tz W,rfl⟩
    ·cases ho
     have h3:vs 9=_:=hd ⟨9,.data⟩ (by simp) rfl;rw[h3] at i9;simp only[amh] at i9;unfold bQ;go_simp;exact⟨Tz W,rfl⟩
    ·cases ho
     have h4:vs 10=_:=hd ⟨10,.data⟩ (by simp) rfl;rw[h4] at i10;simp only[amh] at i10;have g2:=HW.o.cell c2;have g3:=HW.o.cell c3;have g4:=HW.o.cell c4;have g5:=HW.o.cell c5;have g6:=HW.o.cell c6;have g7:=HW.o.cell c7;unfold bQ;go_simp;exact⟨Tz W,rfl⟩
    cases ho
    have h6:vs 6=_:=hd ⟨6,.data⟩ (by simp) rfl;have h11:vs 11=_:=hd ⟨11,.data⟩ (by simp) rfl;rw[h6] at i6;rw[h11] at i11;simp only[amh] at i6 i11;unfold bQ;go_simp;refine(Un.o W HW.o).mono ?_;rintro r w3 ⟨rfl,hx3⟩;exact⟨_,rfl,hx3,HW.o.trans hx3,rfl⟩
   intro vs W hW hR;rw[bL (by decide +kernel)];have h0:vs 0=_:=hR 0 (by simp) (by omega);have h5:vs 5=_:=hR 5 (by simp) (by omega);have h12:vs 12=_:=hR 12 (by simp) (by omega);simp only[amh] at h0 h5 h12;simp only[fL,dU,List.range,List.range.loop,aX,bN,h0,h5,h12];have hmx:=En.o.ext hW;refine axH rfl ?_
   change wpList _ _ _ [⟨none,.mapUpdate _ (.tmp 15) (.tmp 20) (.tmp 27),_,_,_,none⟩] _ _
   go_simp;refine lR _ rfl _ _ _ 136 rfl 9 3 gU JM bf k _ rfl hmx ?c3 _ _ _ rfl rfl (lB zP) trivial ?_
   case c3=>unfold maxLen;omega
   intro w1 hm1 hc1;have WO:=ai (hm1.congr HST.o);have dI:=ai (hc1.ext (HX.o.trans hW) (by rw[<-HBF.o];simp));clear hm1 hc1;go_wp2_with fail
   go_roundw
   case rel=>exact⟨k+1,by omega,by go_num,WO.o,dI.o⟩
   case measure=>simp[intOf];omega
  have t1:=ah ((k:Int)<(o.length:Int));have HGE:=ai (show ig wr 9 bf o.length (kV (Tl (qG l o))) by have:=En.o;rw[aS (by omega)] at this;exact this.more hk);go_wp2_with fail
  go_ret;exact⟨bf,rfl,HGE.o,HX.o⟩
def ye (u:List cK):ZB:=u.map (·.name)
def QS (l u:List cK) (x:Ex):Prop:=∀s∈fX x,∀d,dz l s=some d->s∈ye u
structure RP (l:List cK) (e:Ex) (u:List cK) (xs:List Ex):Prop where
 defs:∀c∈u,c.kind=1/\∃d,dz l c.name=some d/\c.cond=(l.getD d fC).cond/\Reach l e d
 names:(ye u).Nodup
 top:e∈xs\/QS l u e
 closed:∀c∈u,c.cond∈xs\/QS l u c.cond
 stack:∀x∈xs,x=e\/∃c∈u,c.cond=x
 SH:xs.length<=u.length+1
structure RPi (l:List cK) (e:Ex) (u:List cK) (xs:List Ex) (x:Ex) (ns:ZB) (j:Nat):Prop where
 defs:∀c∈u,c.kind=1/\∃d,dz l c.name=some d/\c.cond=(l.getD d fC).cond/\Reach l e d
 names:(ye u).Nodup
 top:e∈xs\/e=x\/QS l u e
 closed:∀c∈u,c.cond∈xs\/c.cond=x\/QS l u c.cond
 stack:∀y∈xs,y=e\/∃c∈u,c.cond=y
 cur:x=e\/∃c∈u,c.cond=x
 done:∀i (h:i<ns.length),i<j->∀d,dz l ns[i]=some d->ns[i]∈ye u
 SH:xs.length<=u.length
theorem RP.start (l:List cK) (e:Ex):RP l e [] [e]:=⟨by simp,by simp[ye],aoX (by simp),by simp,fun x hx=>aoX (by simpa using hx),by simp⟩
theorem RP.pop {l:List cK} {e:Ex} {u:List cK} {xs:List Ex} {x:Ex} (h:RP l e u (xs++[x])) (ns:ZB):RPi l e u xs x ns 0:=by
 refine⟨h.defs,h.names,?_,fun c hc=>?_,fun y hy=>h.stack y (by simp[hy]),h.stack x (by simp),fun i _ h=>by omega,by have:=h.SH;simpa using this⟩
 ·rcases h.top with h1|h1
  ·rcases aN.1 h1 with h2|h2
   ·exact aoX h2
   exact a4Z (aoX (by simpa using h2))
  exact a4Z (a4Z h1)
 rcases h.closed c hc with h1|h1
 ·rcases aN.1 h1 with h2|h2
  ·exact aoX h2
  exact a4Z (aoX (by simpa using h2))
 exact a4Z (a4Z h1)
theorem RPi.end {l:List cK} {e:Ex} {u:List cK} {xs:List Ex} {x:Ex} {ns:ZB} {j:Nat} (h:RPi l e u xs x ns j) (hj:ns.length<=j) (zP:∀s,s∈ns ↔ s∈fX x):RP l e u xs:=by
 have hx:QS l u x:=fun s hs d hd=>by
  obtain⟨i,hi,rfl⟩:=aW.1 ((zP s).2 hs);exact h.done i hi (by omega) d hd
 refine⟨h.defs,h.names,?_,fun c hc=>?_,h.stack,Nat.le_succ_of_le h.SH⟩
 ·rcases h.top with h1|rfl|h1
  ·exact aoX h1
  ·exact a4Z hx
  exact a4Z h1
 rcases h.closed c hc with h1|h1|h1
 ·exact aoX h1
 ·exact a4Z (h1 ▸ hx)
 exact a4Z h1
theorem RPi.skip {l:List cK} {e:Ex} {u:List cK} {xs:List Ex} {x:Ex} {ns:ZB} {j:Nat} (h:RPi l e u xs x ns j) (hj:j<ns.length) (hs:dz l ns[j]=none\/ns[j]∈ye u):RPi l e u xs x ns (j+1) :=
 ⟨h.defs,h.names,h.top,h.closed,h.stack,h.cur,fun i hi hij d hd=>by
  by_cases e':i=j
  ·subst e';rcases hs with h1|h1
   ·rw[h1] at hd;cases hd
   exact h1
  exact h.done i hi (by omega) d hd,h.SH⟩
theorem Kg (u:List cK) (c:cK):ye (u++[c])=ye u++[c.name]:=by simp[ye]
theorem RPi.step {l:List cK} {e:Ex} {u:List cK} {xs:List Ex} {x:Ex} {ns:ZB} {j:Nat} (h:RPi l e u xs x ns j) (hj:j<ns.length) (zP:∀s,s∈ns ↔ s∈fX x) {d:Nat} (hd:dz l ns[j]=some d) (hn:ns[j]∉ye u) {c:cK} (hk:c.kind=1) (hnm:c.name=ns[j]) (hc:c.cond=(l.getD d fC).cond) :
  RPi l e (u++[c]) (xs++[c.cond]) x ns (j+1):=by
 have up:∀y,QS l u y->QS l (u++[c]) y:=fun y hy s hs d hd=>by rw[Kg];exact aK _ (hy s hs d hd)
 refine⟨fun c' hc'=>?_,?_,?_,fun c' hc'=>?_,fun y hy=>?_,?_,fun i hi hij d' hd'=>?_,by have:=h.SH;simp;omega⟩
 ·rcases aN.1 hc' with h1|h1
  ·exact h.defs c' h1
  obtain rfl:c'=c:=by simpa using h1
  refine⟨hk,d,by rw[hnm];exact hd,hc,?_⟩;have hm:=(zP _).1 (aD hj);rcases h.cur with rfl|⟨c2,h2,rfl⟩
  ·exact Reach.base hm hd
  obtain⟨_,d2,g1,g2,g3⟩:=h.defs c2 h2;exact Reach.step g3 (g2 ▸ hm) hd
 ·rw[Kg,List.nodup_append];refine⟨h.names,by simp,fun a ha b hb e=>?_⟩;simp only[aG] at hb;subst e hb;exact hn (hnm ▸ ha)
 ·rcases h.top with h1|h1|h1
  ·exact aoX (aK _ h1)
  ·exact a4Z (aoX h1)
  exact a4Z (a4Z (up _ h1))
 ·rcases aN.1 hc' with h1|h1
  ·rcases h.closed c' h1 with h2|h2|h2
   ·exact aoX (aK _ h2)
   ·exact a4Z (aoX h2)
   exact a4Z (a4Z (up _ h2))
  obtain rfl:c'=c:=by simpa using h1
  exact aoX (by simp)
 ·rcases aN.1 hy with h1|h1
  ·rcases h.stack y h1 with h2|⟨c2,h2,h3⟩
   ·exact aoX h2
   exact a4Z ⟨c2,aK _ h2,h3⟩
  exact a4Z ⟨c,by simp,(aG.1 h1).symm⟩
 ·rcases h.cur with h1|⟨c2,h2,h3⟩
  ·exact aoX h1
  exact a4Z ⟨c2,aK _ h2,h3⟩
 rw[Kg];by_cases e':i=j
 ·subst e';simp[hnm]
 exact aK _ (h.done i hi (by omega) d' hd')
theorem RP.used {l:List cK} {e:Ex} {u:List cK} (h:RP l e u []):Used l e u :=
 ⟨h.defs,h.names,fun s hs d hd=>by
   rcases h.top with h1|h1;· simp at h1
   exact h1 s hs d hd,
 fun c hc s hs d hd=>by
   rcases h.closed c hc with h1|h1;· simp at h1
   exact h1 s hs d hd⟩
theorem Ow {l:List cK} {e:Ex} {u:List cK} (h1:∀c∈u,c.kind=1/\∃d,dz l c.name=some d/\c.cond=(l.getD d fC).cond/\Reach l e d) (h2:(ye u).Nodup):u.length<=l.length:=by
 have key:=vS (u.map fun c=>(dz l c.name).getD 0) (List.range l.length) ?_ ?_
 ·simpa using key
 ·rw[List.Nodup,List.pairwise_map];rw[List.Nodup,ye,List.pairwise_map] at h2;refine h2.imp_of_mem fun {a b} ha hb hne he=>?_
  obtain⟨_,d,g2,_⟩:=h1 a ha;obtain⟨_,d',g3,_⟩:=h1 b hb;rw[g2,g3] at he;simp only[Option.getD_some] at he;subst he;exact hne ((tP g2).1.symm.trans (tP g3).1)
 intro x hx;obtain⟨c,hc,rfl⟩:=List.mem_map.1 hx;obtain⟨_,d,g2,_⟩:=h1 c hc;rw[g2];exact a43.2 (ot g2)
structure RcS (w:World) (bs:Nat) (lv xv:Value) (u:List cK) (vs:List fM) (xs:List Ex) (evs:List dK) (wr:World):Prop where
 ext:Ext w wr
 OV:vG w u vs
 own:wr.ownsRow w.heap.size 48 10 lv u.length (vs.flatMap fM.cells)
 ex:ug w xs evs
 aek:wr.ownsRow w.heap.size 45 6 xv xs.length (evs.flatMap dK.cells)
 seen:ig wr 9 bs u.length (kV (Fb fun s=>s∈ye u))
 bsn:w.heap.size<=bs
 d1:∀g,lv.ownBlock=some g->g≠bs
 d2:∀g,xv.ownBlock=some g->g≠bs
 d3:∀g,lv.ownBlock=some g->xv.ownBlock≠some g
theorem RcS.Ot {w:World} {bs:Nat} {lv xv:Value} {u:List cK} {vs:List fM} {xs:List Ex} {evs:List dK} {wr wr':World} (h:RcS w bs lv xv u vs xs evs wr) (hx:Ext wr wr'):RcS w bs lv xv u vs xs evs wr' :=
 {h with ext:=h.ext.trans hx,own:=cO h.own (hx.cR []) (by simp),aek:=cO h.aek (hx.cR []) (by simp),seen:=h.seen.ext hx }
theorem azE {xs:List dK} {x:dK}:((xs++[x]).flatMap dK.cells).take (xs.length*6)=xs.flatMap dK.cells:=by
 rw[List.flatMap_append,List.take_left'];clear x;induction xs with
 | nil=>rfl
 | cons y r ih=>simp only[List.flatMap_cons,bg,oT,ih,List.length_cons];omega
theorem ayH {w:World} {base:Nat} {g n cap:Nat} {xs:List dK} {x:dK} (hn:n=xs.length) (h:w.ownsRow base 45 6 (.slice (some ⟨g,0,none⟩) (n+1) cap) (n+1) ((xs++[x]).flatMap dK.cells)) :
  w.ownsRow base 45 6 (.slice (some ⟨g,0,none⟩) n cap) n (xs.flatMap dK.cells):=by
 obtain⟨h1,h2⟩:=h;have hl:(xs.flatMap dK.cells).length=n*6:=by
  subst hn;clear h1 h2 x;induction xs with
  | nil=>rfl
  | cons y r ih=>simp only[List.flatMap_cons,bg,oT,ih,List.length_cons];omega
 refine⟨hl,a4Z ?_⟩;rcases h2 with ⟨h3,_⟩|⟨g',cap',cur,h3,h4,h5,h6,h7,h8,h9⟩
 ·simp at h3
 simp only[a45,a42,Addr.mk.injEq,and_true,true_and] at h3;obtain⟨rfl,rfl⟩:=h3;refine⟨g,cap,cur,rfl,h4,h5,by omega,h7,h8,?_⟩;have e1:cur.toList.take (n*6)=(cur.toList.take ((n+1)*6)).take (n*6):=by rw[List.take_take];congr 1;omega
 rw[e1,h9,hn,azE]
theorem ayG {w:World} {base:Nat} {n:Nat} {v:Value} {xs:List dK} {x:dK} (hn:n=xs.length) (h:w.ownsRow base 45 6 v (n+1) ((xs++[x]).flatMap dK.cells)) :
  ∃g cap,v=.slice (some ⟨g,0,none⟩) (n+1) cap/\w.cell? ⟨g,n*6,none⟩=some (.int .i64 x.op)/\w.cell? ⟨g,n*6+1,none⟩=some (.string x.name)/\w.cell? ⟨g,n*6+2,none⟩=some (.slice x.aw x.nw x.cw)/\w.cell? ⟨g,n*6+3,none⟩=some (.int .i64 x.lo)/\w.cell? ⟨g,n*6+4,none⟩=some (.int .i64 x.hi)/\w.cell? ⟨g,n*6+5,none⟩=some (.slice x.aa x.na x.ca):=by
 subst hn;have e0:xs.length+1=(xs++[x]).length:=by simp
 rw[e0] at h;obtain⟨a,c,rfl,hr⟩:=eE.iZ oT h;obtain⟨b,off,rfl,hc⟩:=hr.2.2.2 xs.length (by simp);have ha:off=0:=by
  obtain⟨_,h2⟩:=h;rcases h2 with ⟨h3,_⟩|⟨g',cap',cur,h3,_⟩
  ·simp at h3
  simp only[a45,a42,Addr.mk.injEq,and_true] at h3;exact h3.1.2
 subst ha;have key:∀j (hj:j<6),w.cell? ⟨b,xs.length*6+j,none⟩=some (x.cells[j]'(by rw[oT];exact hj)):=fun j hj=>by
  have:=hc j (by rw[oT];exact hj);simpa using this
 refine⟨b,c,by simp,?_,?_,?_,?_,?_,?_⟩
 ·exact key 0 (by omega)
 ·exact key 1 (by omega)
 ·exact key 2 (by omega)
 ·exact key 3 (by omega)
 ·exact key 4 (by omega)
 exact key 5 (by omega)
theorem aqj {w:World} {base:Nat} {e:TypeId} {size g n cap:Nat} {xs:List Value} (h:w.ownsRow base e size (.slice (some ⟨g,0,none⟩) n cap) n xs):base<=g/\n<=cap/\g<w.heap.size/\cap<=maxLen:=by
 obtain⟨_,h2⟩:=h;rcases h2 with ⟨h3,_⟩|⟨g',cap',cur,h3,h4,h5,h6,h7,_⟩
 ·simp at h3
 simp only[a45,a42,Addr.mk.injEq,and_true,true_and] at h3;obtain⟨rfl,rfl⟩:=h3;exact⟨h4,h6,bS h5,h7⟩
theorem RcS.step {w W w3 w8 w9:World} {bs:Nat} {lv xv lv' xv':Value} {u:List cK} {vs:List fM} {xs:List Ex} {evs:List dK} (h:RcS w bs lv xv u vs xs evs W) {c:cK} {cv:fM} (hcv:ij w c cv) {x:Ex} {ev:dK} (hev:dw w x ev.val) {F:Lit->Option Value}
  (hm:ig w3 9 bs (u.length+1) F) (hF:∀y,F y=kV (Fb fun s=>s∈ye (u++[c])) y) (hc3:ct [bs] W w3)
  (ho8:w8.ownsRow w.heap.size 48 10 lv' (u.length+1) (vs.flatMap fM.cells++cv.cells)) (iI:ct (rowOf lv) w3 w8) (gX:∀k,lv'.ownBlock=some k->lv.ownBlock=some k\/w3.heap.size<=k)
  (ho9:w9.ownsRow w.heap.size 45 6 xv' (xs.length+1) (evs.flatMap dK.cells++ev.cells)) (vH:ct (rowOf xv) w8 w9) (uj:∀k,xv'.ownBlock=some k->xv.ownBlock=some k\/w8.heap.size<=k) :
  RcS w bs lv' xv' (u++[c]) (vs++[cv]) (xs++[x]) (evs++[ev]) w9:=by
 have s3:=hc3.size;have s8:=iI.size;have hbl:=hm.lt;have xlt:∀q,xv.ownBlock=some q->q<W.heap.size:=fun q hq=>(h.aek.lt q hq).2
 have llt:∀q,lv.ownBlock=some q->q<W.heap.size:=fun q hq=>(h.own.lt q hq).2
 exact {
  ext:=vH.ext (iI.ext (hc3.ext h.ext (by simpa using h.bsn)) fun q hq=>(h.own.lt q (bV.1 hq)).1) fun q hq=>(h.aek.lt q (bV.1 hq)).1
  OV:=h.OV.snoc hcv
  own:=by
   have:=cO ho8 vH fun q hq hm=>by
    have h2:=bV.1 hm;rcases gX q hq with h1|h1
    ·exact h.d3 q h1 h2
    have:=xlt q h2;omega
   simpa using this
  ex:=h.ex.snoc hev
  aek:=by simpa using ho9
  seen:=by
   have:=((hm.cR iI fun hm=>h.d1 bs (bV.1 hm) rfl).cR vH fun hm=>h.d2 bs (bV.1 hm) rfl).congr hF;simpa using this
  bsn:=h.bsn
  d1:=fun q hq e=>by
   rcases gX q hq with h1|h1
   ·exact h.d1 q h1 e
   omega
  d2:=fun q hq e=>by
   rcases uj q hq with h1|h1
   ·exact h.d2 q h1 e
   omega
  d3:=fun q hq hq2=>by
   have h8:=(ho8.lt q hq).2;rcases uj q hq2 with h2|h2
   ·rcases gX q hq with h1|h1
    ·exact h.d3 q h1 h2
    have:=xlt q h2;omega
   omega }
theorem aCt (w:World) (arr:Array Value) (e:TypeId) {size n base:Nat} (hs:arr.size=n*size) (hn:n<=maxLen) (hb:base<=w.heap.size):(w.alloc (.cells arr e)).ownsRow base e size (.slice (some ⟨w.heap.size,0,none⟩) n n) n arr.toList :=
 ⟨by simpa using hs,a4Z ⟨w.heap.size,n,arr,rfl,hb,bR w _,aU _,hn,hs,by rw[aS (by simp;omega)]⟩⟩
theorem YM (w:World):(zeroValue 176).run Tryz.prog w=.ok (.agg #[]) w:=by kernel_rfl
def aE6 (l:List cK) (e:Ex) (w:World) (r:Ending) (w':World):Prop:=∃u a n c,r=.returned (.slice a n c)/\cZ w' u a n c/\Used l e u/\Ext w w'
def RL1 (w:World) (l:List cK) (e:Ex) (bs m:Nat) (lv xv:Value) (wr:World):Prop:=∃u vs xs evs,m=2*(l.length - u.length)+xs.length/\RcS w bs lv xv u vs xs evs wr/\RP l e u xs
def RL2 (w:World) (l:List cK) (e x:Ex) (ns:ZB) (na:OA) (nc bs m:Nat) (lv xv i:Value) (wr:World):Prop:=∃u vs xs evs j,i=.int .i64 (j:Nat)/\j<=ns.length/\2*(l.length - u.length)+xs.length<=m/\RcS w bs lv xv u vs xs evs wr/\RPi l e u xs x ns j/\fS wr ns na ns.length nc/\(∀b off,na=some ⟨b,off,none⟩->b≠bs/\some b≠lv.ownBlock/\some b≠xv.ownBlock)
theorem aD1 {w:World} {xs:List Ex} {evs:List dK} (h:ug w xs evs) (hne:xs≠[]):∃xs' x ans v,xs=xs'++[x]/\evs=ans++[v]/\ug w xs' ans/\dw w x v.val:=by
 obtain⟨xs',x,rfl⟩:∃r i,xs=r++[i]:=⟨xs.dropLast,xs.getLast hne,(List.dropLast_concat_getLast hne).symm⟩
 have aq2:evs≠[]:=by intro e0;have:=h.1;rw[e0] at this;simp at this
 obtain⟨ans,v,rfl⟩:∃r i,evs=r++[i]:=⟨evs.dropLast,evs.getLast aq2,(List.dropLast_concat_getLast aq2).symm⟩
 have hl:xs'.length=ans.length:=by have:=h.1;simpa using this
 refine⟨xs',x,ans,v,rfl,rfl,⟨hl,fun i h1 h2=>?_⟩,?_⟩
 ·have:=h.2 i (by simp;omega) (by simp;omega)
  rwa [bD h1,bD h2] at this
 have:=h.2 xs'.length (by simp) (by simp;omega);rw[bK (aU _)] at this;simpa[hl] using this
theorem Cf (w:World):Sub w (mask w []):=fun p v h=>by rw[eA,bL (by simp)];exact h
theorem aIy {l u:List cK} {e:Ex} (h1:∀c∈u,c.kind=1/\∃d,dz l c.name=some d/\c.cond=(l.getD d fC).cond/\Reach l e d) (hsz:∀x∈l,x.cond.size<=100000/\x.cond.fits) {c:cK} (hc:c∈u):c.cond.size<=100000/\c.cond.fits:=by
 obtain⟨_,d,hd,h2,_⟩:=h1 c hc;rw[h2,fJ (ot hd)];exact hsz _ (aD _)
theorem aiF (l:List cK) (e:Ex) (ev:Value) (b n:Nat) (w:World) (hd:xS w l b n) (he:dw w e ev) (hes:e.size<=100000/\e.fits) (hl:l.length<=100000) (hsz:∀x∈l,x.cond.size<=100000/\x.cond.fits) :
  Calls Tryz.prog 173 #[.map (some b),ev] w (aE6 l e w):=by
 obtain⟨g,hmp,hdg⟩:=hd;obtain⟨aw,nw,cw,aa,na,ca,rfl,-⟩:=he.parts;have En:=ai hmp;have HDG:=ai hdg;have HE:=ai he;have tR:=ai hsz;have HES:=ai hes;clear hmp hdg he hsz hes;unfold fN;have hmm:=@run_makeMap Tryz.prog;obtain⟨wa,cN⟩:∃wa,wa=w.alloc (.cells #[ e.op,.string e.name,.slice aw nw cw,e.lo,e.hi,.slice aa na ca] 45):=⟨_,rfl⟩
 have gB:Ext w wa:=by rw[cN];exact(Tz _).alloc _
 have hb1:wa.heap[w.heap.size]?=some (.cells #[ e.op,.string e.name,.slice aw nw cw,e.lo,e.hi,.slice aa na ca] 45 (0,0)):=by rw[cN];exact bR w _
 have hsa:wa.heap.size=w.heap.size+1:=by rw[cN];simp
 have dm:=ai gB;have HSA:=ai hsa;clear hsa;go_enter Tryz.func173,Tryz.ntmps173
 go_upto_region 1 with fail
 rw[<-cN];clear cN;obtain⟨bs,CR⟩:∃bs,bs=wa.heap.size:=⟨_,rfl⟩
 have Uj:=ai (ig.made wa 9);rw[<-CR] at Uj;have wH:=ai CR;go_upto_region 3 with fail
 rw[<-CR];clear CR;obtain⟨wb,iV⟩:∃wb,wb=wa.alloc (.map #[] 0):=⟨_,rfl⟩
 have jK:=ai (show Ext wa wb by rw[iV];exact(Tz _).alloc _);obtain⟨f0,f1,f2,f3,f4,f5,ff⟩:=cX (jK.o.blk hb1);rw[<-iV] at Uj ⊢;have hsb:wb.heap.size=w.heap.size+2:=by rw[iV];simp;have:=HSA.o;omega
 have Yn:=ai hsb;clear iV hb1 hsb;go_wp2_with fail
 have CA:=ai (show RcS w bs (.slice none 0 0) (.slice (some ⟨wb.heap.size,0,none⟩) 1 1) [] [] [e] [⟨e.op,e.name,aw,nw,cw,e.lo,e.hi,aa,na,ca⟩] (wb.alloc (.cells #[ e.op,.string e.name,.slice aw nw cw,e.lo,e.hi,.slice aa na ca] 45)) from
  {ext:=(dm.o.trans jK.o).alloc _
   OV:=⟨rfl,fun i h=>by simp at h⟩
   own:=a4' _ _ _ _
   ex:=⟨rfl,fun i h1 h2=>by
     obtain rfl:i=0:=by simp at h1;exact h1
     exact HE.o⟩
   aek:=aCt wb _ _ (n:=1) (by simp) (by unfold maxLen;omega) (by have:=Yn.o;omega)
   seen:=(Uj.o.ext ((Tz _).alloc _)).congr fun x=>by cases x<;>simp[kV,Fb,ye]
   bsn:=by have:=wH.o;have:=HSA.o;omega
   d1:=by simp[Value.ownBlock]
   d2:=by simp[Value.ownBlock];have:=wH.o;have:=HSA.o;have:=Yn.o;omega
   d3:=by simp[Value.ownBlock] })
 clear f0 f1 f2 f3 f4 f5 ff Uj jK dm
 go_loopg [5,7] (2*l.length+1) (RL1 w l e bs)
 case atStart=>exact⟨[],[],[e],_,rfl,CA.o,RP.start l e⟩
 case round =>
  obtain⟨u,vs,xs,evs,hm,sq,hrp⟩:=hrel;obtain⟨wo,rfl⟩:∃wo:World,wo=wr:=⟨_,rfl⟩
  clear CA;have HM:=ai hm;have HR:=ai sq;have HP:=ai hrp;have hul:=Ow hrp.defs hrp.names;obtain⟨la,lc,hlv⟩:=lF sq.own;subst hlv;clear hm;by_cases hne:xs=[]
  ·subst hne;obtain⟨xa,xc,qV⟩:=lF sq.aek;subst qV;obtain⟨a',c',hv,hcl⟩:=yJ (M:=[]) sq.own (by simp) (sq.OV.mono (sq.ext.sub.trans (Cf _)));have qC:=ai hcl;have HV:=ai hv;clear sq hrp hv hcl;go_wp2_with fail
   go_ret;rw[HV.o];exact⟨u,a',_,c',rfl,qC.o.mono (cC _ _),HP.o.used,HR.o.ext⟩
  obtain⟨xs',x,ans,v,rfl,rfl,hx1,hx2⟩:=aD1 sq.ex hne;obtain⟨n',hn'⟩:∃n',n'=xs'.length:=⟨_,rfl⟩
  have hl':n'=ans.length:=by rw[hn'];exact hx1.1
  have hxo:=sq.aek;have e0:(xs'++[x]).length=n'+1:=by simp[hn']
  rw[e0] at hxo;obtain⟨g2,cap,rfl,c0,c1,c2,c3,c4,c5⟩:=ayG hl' hxo;have hsx:x.size<=100000/\x.fits:=by
   rcases hrp.stack x (by simp) with rfl|⟨c,hc,rfl⟩
   ·exact HES.o
   exact aIy hrp.defs tR.o hc
  have dN:=ai (hx2.ext sq.ext);have Jm:=ai hsx;have tY:=ai hn';have HL':=ai hl';obtain⟨hg2,hcap,hgw,-⟩:=aqj hxo;have HRI:=ai (show RcS w bs (.slice la u.length lc) (.slice (some ⟨g2,0,none⟩) n' cap) u vs xs' ans wo from { sq with ex:=hx1,aek:=(by rw[<-hn'];exact ayH hl' hxo),d2:=(fun g hg=>sq.d2 g (by simpa[Value.ownBlock] using hg)),d3:=fun g hg hg2=>sq.d3 g hg (by simpa[Value.ownBlock] using hg2) });have Rp:=ai (hrp.pop (jB (fX x)));have hnn:n'<=u.length:=by have:=hrp.SH;simp at this;omega
  clear sq hrp hx1 hx2 hsx hn' hl' hxo e0 hne;have e1:(((n'+1:Nat):Int) - 1)=(n':Int):=by omega
  have t1:=ag ((0:Int)<((n'+1:Nat):Int));go_wp2_with fail
  refine(BD x _ wo (by have:=Jm.o.1;omega) Jm.o.2 dN.o).mono ?_;obtain⟨ns,zP⟩:∃ns,ns=jB (fX x):=⟨_,rfl⟩
  have AQ:=ai (show ∀s,s∈ns ↔ s∈fX x by intro s;rw[zP,sx]);rw[<-zP] at Rp ⊢;have G7:=ai (show ∀s∈ns,s.size<=1000000000000000 from fun s hs=>UI x Jm.o.2 s ((AQ.o s).1 hs));have hnl:ns.length<=100000:=by rw[zP];exact aV (FY _) (aV (zM _) Jm.o.1)
  clear zP;rintro r w5 ⟨sa,sc,rfl,hst,dh,hfr⟩;have HST:=ai hst;have qL:=HRI.o.seen.lt;have HFR:=ai (show ∀b off,sa=some ⟨b,off,none⟩->b≠bs/\some b≠(Value.slice la u.length lc).ownBlock/\some b≠(Value.slice (some ⟨g2,0,none⟩) n' cap).ownBlock from fun b' off' e'=>by
   have h1:=hfr b' off' e';refine⟨by omega,fun e2=>?_,fun e2=>?_⟩
   ·have:=(HRI.o.own.lt b' e2.symm).2;omega
   simp[Value.ownBlock] at e2;omega)
  have CU:=ai (HRI.o.Ot dh);clear hst dh hfr HRI c0 c1 c2 c3 c4 c5 dN Jm;go_wp2_with fail
  go_loopw [5,7,35] (RL2 w l e x ns sa sc bs (2*(l.length - u.length)+n')) (fun _ _ i _=>ns.length - (intOf i).toNat)
  case atStart=>exact⟨u,vs,xs',ans,0,rfl,by omega,by have:=tY.o;omega,CU.o,Rp.o,HST.o,HFR.o⟩
  case round =>
   obtain⟨u2,vs2,xs2,ev2,j,rfl,hj,hm2,hr2,hp2,aC',hfr2⟩:=hrel;obtain⟨la2,lc2,aL2⟩:=lF hr2.own;subst aL2;obtain⟨xa2,xc2,aV5⟩:=lF hr2.aek;subst aV5;have jI:=ai hr2;have oZ:=ai hp2;have oB:=ai aC';have Ez:=ai hfr2;have RX:=ai hm2;have hu2:=Ow hp2.defs hp2.names;have a2C:=hp2.SH;clear hr2 hp2 aC' hfr2 hm2 CU Rp HST HFR;by_cases hjl:j<ns.length
   ·have tj:=ag ((j:Int)<(ns.length:Int));obtain⟨bn,ayN,rfl,cn0⟩:=oB.o.2.2.2 j hjl;have uM:=G7.o _ (aD hjl);have mJ:=ai jI.o.ext;by_cases hmem:ns[j]∈ye u2
    ·have K8:=ai (show kV (Fb fun s=>s∈ye u2) (.string ns[j].data.toList)=some (.agg #[]) by rw[oQ];simp[Fb,hmem]);have Na:=ai (oZ.o.skip hjl (a4Z hmem));cases hda:dz l ns[j] with
     | none =>
      have HF:=ai (show kV g (.string ns[j].data.toList)=none by rw[oQ];exact(HDG.o _).1 hda);clear hda hmem;go_wp2_with (first
       | (at_lookup;refine gO _ rfl _ _ 131 rfl 9 45 gU EW (JH _) b n _ rfl (En.o.ext mJ.o) _ _ rfl (lB uM) trivial ?_;rw[HF.o])
       | (at_lookup;refine gO _ rfl _ _ 174 rfl 9 176 gU ail (YM _) bs u2.length _ rfl (jI.o.seen.ext ((Tz wr).alloc _)) _ _ rfl (lB uM) trivial ?_;rw[K8.o]))
      go_roundw
      case rel=>exact⟨u2,vs2,xs2,ev2,j+1,by go_num,by omega,RX.o,jI.o.Ot (((Tz wr).alloc _).alloc _),Na.o,oB.o.ext (((Tz wr).alloc _).alloc _),Ez.o⟩
      case measure=>simp[intOf];omega
     | some d =>
      obtain⟨uv,hu,hux⟩:=(HDG.o ns[j]).2 d hda;obtain⟨aw2,nw2,cw2,aa2,na2,ca2,rfl,-,-,-,-,-⟩:=hux.parts;have HF:=ai (show kV g (.string ns[j].data.toList)=some _ by rw[oQ];exact hu);unfold fN at HF;clear hda hmem hu hux;go_wp2_with (first
       | (at_lookup;refine gO _ rfl _ _ 131 rfl 9 45 gU EW (JH _) b n _ rfl (En.o.ext mJ.o) _ _ rfl (lB uM) trivial ?_;rw[HF.o])
       | (at_lookup;refine gO _ rfl _ _ 174 rfl 9 176 gU ail (YM _) bs u2.length _ rfl (jI.o.seen.ext ((Tz wr).alloc _)) _ _ rfl (lB uM) trivial ?_;rw[K8.o]))
      go_roundw
      case rel=>exact⟨u2,vs2,xs2,ev2,j+1,by go_num,by omega,RX.o,jI.o.Ot (((Tz wr).alloc _).alloc _),Na.o,oB.o.ext (((Tz wr).alloc _).alloc _),Ez.o⟩
      case measure=>simp[intOf];omega
    have K8:=ai (show kV (Fb fun s=>s∈ye u2) (.string ns[j].data.toList)=none by rw[oQ];simp[Fb,hmem]);cases hda:dz l ns[j] with
    | none =>
     have Na:=ai (oZ.o.skip hjl (aoX hda));have HF:=ai (show kV g (.string ns[j].data.toList)=none by rw[oQ];exact(HDG.o _).1 hda);clear hda hmem;go_wp2_with (first
      | (at_lookup;refine gO _ rfl _ _ 131 rfl 9 45 gU EW (JH _) b n _ rfl (En.o.ext mJ.o) _ _ rfl (lB uM) trivial ?_;rw[HF.o])
      | (at_lookup;refine gO _ rfl _ _ 174 rfl 9 176 gU ail (YM _) bs u2.length _ rfl (jI.o.seen.ext ((Tz wr).alloc _)) _ _ rfl (lB uM) trivial ?_;rw[K8.o]))
     go_roundw
     case rel=>exact⟨u2,vs2,xs2,ev2,j+1,by go_num,by omega,RX.o,jI.o.Ot (((Tz wr).alloc _).alloc _),Na.o,oB.o.ext (((Tz wr).alloc _).alloc _),Ez.o⟩
     case measure=>simp[intOf];omega
    | some d =>
     obtain⟨uv,hu,hux⟩:=(HDG.o ns[j]).2 d hda;have aLG:=hux;obtain⟨aw2,nw2,cw2,aa2,na2,ca2,rfl,-,-,-,-,-⟩:=hux.parts;have HF:=ai (show kV g (.string ns[j].data.toList)=some _ by rw[oQ];exact hu);obtain⟨xe,hxe⟩:∃xe,xe=(l.getD d fC).cond:=⟨_,rfl⟩
     rw[<-hxe] at HF aLG;have HST:=ai (oZ.o.step hjl AQ.o hda hmem (c:=⟨1,ns[j],xe,[],0⟩) rfl rfl hxe);have HUX:=ai aLG;unfold fN at HF;clear hda hmem hu hux aLG hxe;go_wp2_with (first
      | (at_lookup;refine gO _ rfl _ _ 131 rfl 9 45 gU EW (JH _) b n _ rfl (En.o.ext mJ.o) _ _ rfl (lB uM) trivial ?_;rw[HF.o])
      | (at_lookup;refine gO _ rfl _ _ 174 rfl 9 176 gU ail (YM _) bs u2.length _ rfl (jI.o.seen.ext ((Tz wr).alloc _)) _ _ rfl (lB uM) trivial ?_;rw[K8.o])
      | (at_mapUpdate;refine lR _ rfl _ _ _ 174 rfl 9 176 gU ail bs u2.length _ rfl (jI.o.seen.ext (((Tz wr).alloc _).alloc _)) ?c3 _ _ _ rfl rfl (lB uM) trivial ?_))
     case c3=>unfold maxLen;omega
     intro w3 hm3 hc3;have j6:=hc3.blk (((Tz _).alloc _).blk (bR wr (.cells #[ xe.op,.string xe.name,.slice aw2 nw2 cw2,xe.lo,xe.hi,.slice aa2 na2 ca2] 45))) (by have:=jI.o.seen.lt;simp;omega);have jm:=ai j6;obtain⟨f0,f1,f2,f3,f4,f5,ff⟩:=cX j6;have HW3:=ai hc3;have HM3:=ai hm3;have yM:=ai (jI.o.Ot (((Tz wr).alloc (.cells #[ xe.op,.string xe.name,.slice aw2 nw2 cw2,xe.lo,xe.hi,.slice aa2 na2 ca2] 45)).alloc (.cells #[] 176)));have vF:=ai (cO yM.o.own hc3 fun q hq hm=>by simp only[aG] at hm;exact yM.o.d1 q hq hm);have h3s:=hc3.size;have aXf:wr.heap.size<=w3.heap.size:=aV (((Tz wr).alloc _).alloc _).size hc3.size;have hww:=yM.o.ext.size;clear hm3 hc3 HF K8 j6;go_wp2_with (at_builtin;refine dA nr rfl _ _ rfl w.heap.size _ u2.length _ rfl vF.o _ 1 1 rfl ?f0 rfl ?f1 ?f2 ?f3 ?f4 ?_)
     case f0=>simp
     case f1=>simp[Value.oneCell']
     case f2=>unfold maxLen;omega
     case f3=>omega
     case f4=>omega
     intro v8 w8 dY iI gX;obtain⟨a8,c8,Iv⟩:=lF dY;subst Iv;obtain⟨f0,f1,f2,f3,f4,f5,ff⟩:=cX (iI.blk jm.o fun hm=>by have:=(jI.o.own.lt _ (bV.1 hm)).2;omega);have nB:=ai (cO (cO yM.o.aek HW3.o fun q hq hm=>by simp only[aG] at hm;exact yM.o.d2 q hq hm) iI fun q hq hm=>yM.o.d3 q (bV.1 hm) hq);have zo:=ai dY;have CM:=ai iI;have HW8:=ai gX;have h8s:=iI.size;clear dY iI gX;go_wp2_with (at_builtin;refine dA DM rfl _ _ rfl w.heap.size _ xs2.length _ rfl nB.o _ 1 1 rfl ?g0 rfl ?g1 ?g2 ?g3 ?g4 ?_)
     case g0=>simp
     case g1=>simp[Value.oneCell']
     case g2=>unfold maxLen;omega
     case g3=>omega
     case g4=>omega
     intro v9 w9 Bo vH uj;obtain⟨a9,c9,hv9⟩:=lF Bo;subst hv9;have HR9:=ai (yM.o.step (c:=⟨1,ns[j],xe,[],0⟩) (cv:=⟨1,ns[j],⟨xe.op,xe.name,aw2,nw2,cw2,xe.lo,xe.hi,aa2,na2,ca2⟩,none,0,0,0⟩) ⟨rfl,rfl,HUX.o,rfl,aU _,aoX ⟨rfl,rfl⟩,by simp only;unfold gK;trivial,rfl⟩ (x:=xe) (ev:=⟨xe.op,xe.name,aw2,nw2,cw2,xe.lo,xe.hi,aa2,na2,ca2⟩) HUX.o HM3.o (fun y=>by
      rw[akt]
      congr 2
      funext z
      rw[Kg];simp[or_comm]) HW3.o zo.o CM.o HW8.o Bo vH uj)
     have AM:=ai ((((oB.o.ext (((Tz wr).alloc _).alloc _)).cR HW3.o (fun b' off' e' hm=>(Ez.o b' off' e').1 (by simpa using hm))).cR CM.o (fun b' off' e' hm=>(Ez.o b' off' e').2.1 (bV.1 hm).symm)).cR vH (fun b' off' e' hm=>(Ez.o b' off' e').2.2 (bV.1 hm).symm));have HF9:=ai (show ∀b off,some (⟨bn,ayN,none⟩:Addr)=some ⟨b,off,none⟩->b≠bs/\some b≠(Value.slice a8 (u2.length+1) c8).ownBlock/\some b≠(Value.slice a9 (xs2.length+1) c9).ownBlock from fun b' off' e'=>by
      obtain⟨q1,q2,q3⟩:=Ez.o b' off' e';have hbl:b'<wr.heap.size:=by
       simp only[a42,Addr.mk.injEq,and_true] at e';have:=eB cn0;simp only at this;omega
      refine⟨q1,fun e2=>?_,fun e2=>?_⟩
      ·rcases HW8.o b' e2.symm with h|h
       ·exact q2 h.symm
       omega
      rcases uj b' e2.symm with h|h
      ·exact q3 h.symm
      omega)
     clear Bo vH uj f0 f1 f2 f3 f4 f5 ff cn0;go_wp2_with fail
     go_roundw
     case rel =>
      have hmm:2*(l.length - (u2++[(⟨1,ns[j],xe,[],0⟩:cK)]).length)+(xs2++[xe]).length<=2*(l.length - u.length)+n':=by
       have h1:=RX.o;have h2:=Ow HST.o.defs HST.o.names;simp only[bg,List.length_singleton] at h2 ⊢;omega
      exact⟨u2++[⟨1,ns[j],xe,[],0⟩],_,xs2++[xe],_,j+1,by go_num,by omega,hmm,HR9.o,HST.o,AM.o,HF9.o⟩
     case measure=>simp[intOf];omega
   have tj:=ah ((j:Int)<(ns.length:Int));have HPE:=ai (oZ.o.end (by omega) AQ.o);go_wp2_with fail
   go_roundg (2*(l.length - u2.length)+xs2.length)
   case rel=>exact⟨u2,vs2,xs2,ev2,rfl,jI.o,HPE.o⟩
   case measure=>have h1:=HM.o;have h2:=RX.o;have h3:=tY.o;simp at h1;omega
theorem BM (l:List cK) (a:OA) (n c:Nat) (e:Ex) (ev:Value) (w:World) (hl:cZ w l a n c) (he:dw w e ev) (hes:e.size<=100000/\e.fits/\qT e=true) (hn:n<=1000) (hsz:∀x∈l,x.name.size<=1000000000000000/\x.cond.size<=100000/\x.cond.fits/\qT x.cond=true) :
  Calls Tryz.prog 146 #[.slice a n c,ev] w (cz (.int .i64 (dV l e:Nat)) w):=by
 have vC:=hl.len;obtain⟨aw,nw,cw,aa,na,ca,rfl,-⟩:=he.parts;have HL:=ai hl;have HE:=ai he;have HES:=ai hes;have tR:=ai hsz;have tY:=ai vC;have HR:=ai (show ∀b m W,xS W l b m->Ext w W->Calls Tryz.prog 173 #[.map (some b),fN e.op e.name aw nw cw e.lo e.hi aa na ca] W (aE6 l e W) from fun b m W hd hx=>aiF l e _ b m W hd (he.ext hx) ⟨hes.1,hes.2.1⟩ (by omega) fun x hx=>⟨(hsz x hx).2.1,(hsz x hx).2.2.1⟩);clear hl he hes hsz vC;unfold fN at HR;unfold fN;obtain⟨wa,cN⟩:∃wa,wa=w.alloc (.cells #[ e.op,.string e.name,.slice aw nw cw,e.lo,e.hi,.slice aa na ca] 45):=⟨_,rfl⟩
 have gB:Ext w wa:=by rw[cN];exact(Tz _).alloc _
 have hb1:wa.heap[w.heap.size]?=some (.cells #[ e.op,.string e.name,.slice aw nw cw,e.lo,e.hi,.slice aa na ca] 45 (0,0)):=by rw[cN];exact bR w _
 have dm:=ai gB;have gG:=ai hb1;clear gB;go_enter Tryz.func146,Tryz.ntmps146
 go_upto_region 1 with fail
 rw[<-cN];clear cN;obtain⟨f0,f1,f2,f3,f4,f5,ff⟩:=cX hb1;clear hb1;have HD:=ai (fun (W:World) (hW:Ext wa W)=>DT l a n c W (HL.o.ext (dm.o.trans hW)) (by omega) fun x hx=>(tR.o x hx).1);have Z0:=bT f0;have Z1:=bT f1;have Z2:=bT f2;have Z3:=bT f3;have Z4:=bT f4;have Z5:=bT f5;refine kT 5 ?_
 repeat (refine bZ ?_;intro Ka cH;go_big_quiet_op;go_big_quiet_on)
 refine dP (γ:=Nat) (fun x=>.map (some x)) (fun x W=>xS W l x n) (fun W hW h _=>?_) (fun x _ _ hx h=>h.ext hx) ?_ ⟨0⟩
 ·unfold bQ;go_simp;refine(HD.o W hW).mono ?_;rintro r w5 ⟨bd,rfl,oW,dh⟩;exact⟨_,rfl,dh,bd,rfl,oW⟩
 intro bm Ka cH;go_simp;go_big_quiet_on
 repeat (refine bZ ?_;intro Ka cH;go_big_quiet_op;go_big_quiet_on)
 refine dP (γ:=List cK×OA×Nat×Nat) (fun x=>.slice x.2.1 x.2.2.1 x.2.2.2) (fun x W=>cZ W x.1 x.2.1 x.2.2.1 x.2.2.2/\Used l e x.1) (fun W hW h _=>?_) (fun x _ _ hx h=>⟨h.1.ext hx,h.2⟩) ?_ ⟨([],none,0,0)⟩
 ·unfold bQ;go_simp;refine(HR.o _ n W h (dm.o.trans hW)).mono ?_;rintro r w5 ⟨us,ua,un,uc,rfl,hc5,hu5,dh⟩;exact⟨_,rfl,dh,(us,ua,un,uc),rfl,hc5,hu5⟩
 rintro⟨us,ua,un,uc⟩ Ka cH;go_simp;go_big_quiet_on
 repeat (refine bZ ?_;intro Ka cH;go_big_quiet_op;go_big_quiet_on)
 refine gC fun W hW2 hs4 _=>?_
 have oY:=ai (show cZ W us ua un uc/\Used l e us from hs4);clear hs4;clear Z0 Z1 Z2 Z3 Z4 Z5;obtain⟨w2,hw2⟩:∃w2,w2=W:=⟨_,rfl⟩
 rw[<-hw2] at hW2 oY ⊢;have hle:us.length<=1000:=by have:=oY.o.2.len;have:=tY.o;omega
 have dN:=ai (dm.o.trans hW2);have fY:=ai (hW2.blk gG.o);clear hw2 hW2 f0 f1 f2 f3 f4 f5 ff;have HUS:=ai (oY.o.2);have qC:=ai (oY.o.1);have Nh:=ai oY.o.1.len;have HUZ:=ai (show ∀x∈us,x.name.size<=1000000000000000/\x.cond.size<=100000/\x.cond.fits/\qT x.cond=true by
  intro x hx;obtain⟨_,d,h1,h2,_⟩:=HUS.o.defs x hx;have hd:=ot h1;have:=tR.o _ (aD hd);rw[h2,fJ hd];refine⟨?_,this.2⟩;rw[<-(tP h1).1,fJ hd];exact this.1)
 clear oY;go_wp2_with fail
 refine(Gw (us.map cK.cl) ua un uc w2 qC.o.cls (by have:=tY.o;have:=Nh.o;omega) (by
  intro x hx;obtain⟨c',hc',rfl⟩:=List.mem_map.1 hx;have:=HUZ.o c' hc';exact⟨this.2.1,this.2.2.1,this.1⟩)).mono ?_
 rw[show (us.map cK.cl).map Cl.tV=us.map cK.tV by rw[List.map_map];rfl];rintro r w3 ⟨hx3,⟨o,oa,oc,ht,rfl,hoi⟩|⟨o,h1,h2,rfl⟩⟩
 ·have HT:=ai ht;have HOI:=ai hoi;have dS:=ai (dN.o.trans hx3);obtain⟨f0,f1,f2,f3,f4,f5,ff⟩:=cX (hx3.blk fY.o);have aZT:=ai (qC.o.ext hx3);have hol:o.length<=1000:=by have h1:=ht.len;simp at h1;omega
  clear ht hoi hx3;go_upto_region 5 with fail
  have HSI:=ai (fun (W:World) (hW:Ext w3 W)=>acy us ua un uc o oa oc W (aZT.o.ext hW) (by have:=tY.o;have:=Nh.o;omega) (HOI.o.mono hW.sub) (by omega) (fun i hi=>by have:=HT.o.lt hi;simpa using this) (fun x hx=>⟨(HUZ.o x hx).1,aV (HUZ.o x hx).2.1 (by omega),(HUZ.o x hx).2.2.1⟩));have Un:=ai (fun (bd:Nat) (W:World) (hW:Ext w3 W) (hm:ig W 9 bd o.length (kV (Tl (qG us o))))=>X3 (qG us o) (abd us o) bd o.length 1000000000000000 e _ W (by have:=HES.o.1;omega) (by omega) HES.o.2.1 hm (HE.o.ext (dS.o.trans hW)));obtain⟨R,hR⟩:∃R,R=szE (qG us o) e:=⟨_,rfl⟩
  have HRR:=ai (hR.trans (HUS.o.good HT.o (fun c hc=>(HUZ.o c hc).2.2.2) HES.o.2.2));rw[<-hR] at Un;clear hR;unfold fN at Un;have Z0:=bT f0;have Z1:=bT f1;have Z2:=bT f2;have Z3:=bT f3;have Z4:=bT f4;have Z5:=bT f5;refine kT 6 ?_
  repeat (refine bZ ?_;intro Ka cH;go_big_quiet_op;go_big_quiet_on)
  refine dP (γ:=Nat) (fun x=>.map (some x)) (fun x W=>ig W 9 x o.length (kV (Tl (qG us o)))) (fun W hW h _=>?_) (fun x _ _ hx h=>h.ext hx) ?_ ⟨0⟩
  ·unfold bQ;go_simp;refine(HSI.o W hW).mono ?_;rintro r w5 ⟨bd,rfl,oW,dh⟩;exact⟨_,rfl,dh,bd,rfl,oW⟩
  intro bm Ka cH;go_simp;go_big_quiet_on
  repeat (refine bZ ?_;intro Ka cH;go_big_quiet_op;go_big_quiet_on)
  refine fZ (.int .i64 R) (fun _=>True) (fun W hW h _=>?_) (fun _ _ _ h=>h) ?_
  ·unfold bQ;go_simp;refine(Un.o _ W hW h).mono ?_;rintro r w5 ⟨rfl,dh⟩;exact⟨_,rfl,dh,rfl,trivial⟩
  intro Ka cH;go_simp;go_big_quiet_on
  repeat (refine bZ ?_;intro Ka cH;go_big_quiet_op;go_big_quiet_on)
  refine gC fun W hW2 _ _=>?_
  go_wp2_with fail
  go_ret;exact cD (by rw[HRR.o]) (dS.o.trans hW2)
 have dS:=ai (dN.o.trans hx3);have HRR:=ai (HUS.o.aMQ h1 h2);clear hx3 h1 h2;go_wp2_with fail
 go_ret;exact cD (by rw[HRR.o];rfl) dS.o
end Go.Proofs.YtefjomofjejklaaGreatDoor
