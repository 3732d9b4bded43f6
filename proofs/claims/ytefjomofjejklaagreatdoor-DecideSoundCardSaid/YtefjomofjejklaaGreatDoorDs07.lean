/- Joined. -/
import Derived.Test.YtefjomofjejklaaGreatDoorDs06
import Derived.Laws.BytesString
import Derived.Maps.AppendAt
namespace Go.Proofs.YtefjomofjejklaaGreatDoor
set_option maxRecDepth 100000
set_option maxHeartbeats 32000000
open Go.RowKit
theorem az0 {l:List cK} {s:BA} {d:Nat} (h:dz l s=some d):d<l.length:=by
 unfold dz at h;rw[aJ] at h;exact h.1
def Sj (l:List cK) (f:Nat):BA->Option Nat:=fun s=>(dz l s).map fun d=>jT l f (l.getD d fC).cond
theorem j9 (l:List cK) (f:Nat) (e:Ex):jT l (f+1) e=wM (Sj l f) e:=rfl
def aVg (D:BA->Option Nat) (base na:Nat) (args:List Ex) (w1:World) (t i:Value) (wr:World):Prop:=∃k:Nat,i=.int .i64 k/\k<=na/\t=.int .i64 ((base+mI D (args.take k):Nat):Int)/\base+mI D (args.take k)<=4001/\Ext w1 wr
theorem awZ {D:BA->Option Nat} {base k:Nat} {args:List Ex} (h:2000<base+mI D (args.take k)\/args.length<=k):min (base+mI D (args.take k)) 2001=min (base+mI D args) 2001:=by
 rcases h with h|h
 ·have:=aam D args k;omega
 rw[aS h]
theorem atQ (l:List cK) (a:OA) (n c:Nat) (hn:n<=1000000) (hsz:∀x∈l,x.cond.size<=1000000000000000):∀(f m:Nat) (e:Ex) (ev:Value) (w:World) (d:Nat),f+d=n+1->e.size<=m->m<=1000000000000000->cZ w l a n c->dw w e ev ->
  Calls Tryz.prog 126 #[.slice a n c,ev,.int .i64 d] w (cz (.int .i64 (jT l f e)) w):=by
 intro f;induction f with
 | zero =>
  intro m e ev w d hd hm Re hl he;obtain⟨aw,nw,cw,aa,na,ca,rfl,hw,hna,hca,ha,hx⟩:=he.parts;have t0:=ag (n<d);have HR:=ai (show jT l 0 e=2001 from rfl);clear hw hna hca ha hx he hl;unfold fN;go_enter Tryz.func126,Tryz.ntmps126
  go_wp2_with fail;go_ret;exact cD (by rw[HR.o];rfl) ((Tz w).alloc _)
 | succ f ihf =>
  intro m;induction m with
  | zero=>intro e ev w d _ h;have:=size_pos e;omega
  | succ m ihm =>
   intro e ev w d hd hm Re hl he;obtain⟨aw,nw,cw,aa,na,ca,rfl,hw,hna,hca,ha,hx⟩:=he.parts;have hS:e.size=1+sizes e.args:=e.size_eq;have hla:=eR e.args;have Ks:na<=1000000000000000:=by omega
   have aC9:sizes e.args<=m:=by omega
   have hdn:d<=n:=by omega
   have t0:=ah (n<d);have HL:=ai hl;have tY:=ai hl.len;have HX:=ai hx;have kJ:=ai hna;have tR:=ai hsz;have Gk:=ai (show jT l (f+1) e=min ((if e.op=3 then (Sj l f e.name).getD 1 else 1)+mI (Sj l f) e.args) 2001 by rw[j9,Mi]);have IHM:=ai ihm;have IHF:=ai ihf;have HD:=ai hd;clear hw hna hca ha hx he hl hS hla ihm ihf hm hd;unfold fN;obtain⟨wa,cN⟩:∃wa,wa=w.alloc (.cells #[.int .i64 e.op,.string e.name,.slice aw nw cw,.int .i64 e.lo,.int .i64 e.hi,.slice aa na ca] 45):=⟨_,rfl⟩
   have gB:Ext w wa:=by rw[cN];exact(Tz _).alloc _
   have hb1:wa.heap[w.heap.size]?=some (.cells #[.int .i64 e.op,.string e.name,.slice aw nw cw,.int .i64 e.lo,.int .i64 e.hi,.slice aa na ca] 45 (0,0)):=by rw[cN];exact bR w _
   have dm:=ai gB;have gG:=ai hb1;obtain⟨f0,f1,f2,f3,f4,f5,ff⟩:=cX hb1;have kL:=bS hb1;clear gB hb1;by_cases GL:e.op=3/\(dz l e.name).isSome=true
   ·obtain⟨h3,hds⟩:=GL;obtain⟨dd,hdd⟩:=Option.isSome_iff_exists.1 hds;have t3:(e.op==3)=true:=by simp[h3]
    obtain⟨base,hbase⟩:∃base,base=jT l f (l.getD dd fC).cond:=⟨_,rfl⟩
    have hbl:base<=2001:=by rw[hbase];exact aan _ _ _
    have HQ:=ai (show jT l (f+1) e=min (base+mI (Sj l f) e.args) 2001 by rw[Gk.o,bM h3,hbase];simp[Sj,hdd]);have aMg:=az0 hdd;have a3T:dd<n:=by have:=tY.o;omega
    have VN:=ai (xB l a n c e.name wa (HL.o.ext dm.o) (by omega));rw[hdd,nX] at VN;obtain⟨cb,ld,v,rfl,fO,hrow⟩:=(HL.o.ext dm.o).at aMg;obtain⟨c0,c1,c2,c3,c4,c5,c6,c7,c8,c9⟩:=hrow.BB;have Lb:=ai fO.2.2.1;have hgd:l.getD dd fC=l[dd]:=by simp[aMg]
    rw[hgd] at hbase;have wH:=ai hbase;clear Gk hds hdd h3 fO hrow hbase hgd c0 c1 c8 c9;go_enter Tryz.func126,Tryz.ntmps126
    go_wp2_with fail;rw[<-cN];clear cN;refine VN.o.mono ?_;rintro r w1 ⟨rfl,rfl⟩;go_wp2_with fail;have hd1:f+(d+1)=n+1:=by have:=HD.o;omega
    have hcs:=tR.o l[dd] (aD aMg);refine(IHF.o 1000000000000000 l[dd].cond _ _ (d+1) hd1 hcs (by omega) (HL.o.ext dm.o) Lb.o).mono ?_;rw[<-wH.o];rintro r w2 ⟨rfl,hx2⟩;have dN:=ai (dm.o.trans hx2);have fY:=ai (hx2.blk gG.o);clear hx2 f0 f1 f2 f3 f4 f5 ff c2 c3 c4 c5 c6 c7;go_wp2_with fail;go_loopw [9,10] (aVg (Sj l f) base na e.args w2) (fun _ i _=>na - (intOf i).toNat)
    case atStart=>exact⟨0,rfl,by omega,by simp[mI],by simp[mI];omega,Tz _⟩
    case round =>
     obtain⟨k,rfl,hk,rfl,hle,lM⟩:=hrel;have gZ:=ai lM;obtain⟨f0,f1,f2,f3,f4,f5,ff⟩:=cX (lM.blk fY.o);clear lM;obtain⟨N,hN⟩:∃N,N=base+mI (Sj l f) (e.args.take k):=⟨_,rfl⟩
     rw[<-hN] at hle ⊢;have qY:=ai hN;clear hN;by_cases hgo:k<na/\N<=2000
     ·obtain⟨hkn,hN2⟩:=hgo;have hka:k<e.args.length:=by have:=kJ.o;omega
      have t1:=ag ((k:Int)<(na:Int));have t2:=ag ((N:Int)<=2000);obtain⟨b,off,rfl,nJ,nD,nG,nK,nE,nI,h0,h1,h2,h3,h4,h5,h6⟩:=eU.at e.args _ (eU.ext (dN.o.trans gZ.o) e.args _ HX.o) k hka;have H6:=ai h6;have hs1:=eD e.args k hka;have hs2:=dX e.args (k+1);have uk:e.args[k].size<=m:=by omega
      have uF:=ai (KE (Sj l f) e.args k hka);have hel:=aea (Sj l f) e.args[k];clear h6 hs1 hs2;go_wp2_with fail;refine(IHM.o e.args[k] _ _ d HD.o uk (by omega) (HL.o.ext (dN.o.trans gZ.o)) H6.o).mono ?_;rw[j9];rintro r w3 ⟨rfl,hx3⟩;have dS:=ai (gZ.o.trans hx3);clear hx3 h0 h1 h2 h3 h4 h5 f0 f1 f2 f3 f4 f5 ff;go_wp2_with fail;go_roundw
      case rel=>exact⟨k+1,by go_num,by omega,by rw[uF.o,<-Nat.add_assoc,<-qY.o];go_num,by rw[uF.o,<-Nat.add_assoc,<-qY.o];omega,dS.o⟩
      case measure=>simp[intOf];omega
     have HR:=ai (show (min N 2001:Nat)=jT l (f+1) e by
      rw[HQ.o,qY.o];exact awZ (by
       rw[<-qY.o];by_cases h:k<na
       ·exact aoX (by have:=fun h2=>hgo ⟨h,h2⟩;omega)
       exact a4Z (by have:=kJ.o;omega)))
     have hX:=dN.o.trans gZ.o;have zi:=ai hX;clear hX;by_cases hkn:k<na
     ·have t1:=ag ((k:Int)<(na:Int));have t2:=ah ((N:Int)<=2000);clear hgo;go_wp2_with fail
      all_goals (go_ret;exact cD (by rw[<-HR.o];omega) zi.o)
     have t1:=ah ((k:Int)<(na:Int));clear hgo;go_wp2_with fail
     all_goals (go_ret;exact cD (by rw[<-HR.o];omega) zi.o)
   have HQ:=ai (show jT l (f+1) e=min (1+mI (Sj l f) e.args) 2001 by
    rw[Gk.o];by_cases h3:e.op=3
    ·rw[bM h3];have:dz l e.name=none:=by
      cases hd:dz l e.name with
      | none=>rfl
      | some q=>exact a40 ⟨h3,by rw[hd];rfl⟩ GL
     simp[Sj,this]
    rw[bL h3])
   clear Gk;by_cases h3:e.op=3
   case' pos =>
    have aQY:dz l e.name=none:=by
     cases hd:dz l e.name with
     | none=>rfl
     | some q=>exact a40 ⟨h3,by rw[hd];rfl⟩ GL
    have t3:(e.op==3)=true:=by simp[h3]
    have VN:=ai (xB l a n c e.name wa (HL.o.ext dm.o) (by omega));rw[aQY,Al] at VN;clear aQY h3 GL;go_enter Tryz.func126,Tryz.ntmps126
    go_wp2_with fail;rw[<-cN];clear cN;refine VN.o.mono ?_;rintro r w1 ⟨rfl,rfl⟩;clear VN;go_wp2_with fail
   case' neg =>
    have t3:(e.op==3)=false:=by simp[h3]
    clear h3 GL;go_enter Tryz.func126,Tryz.ntmps126
    go_wp2_with fail;rw[<-cN];clear cN
   all_goals
    clear f0 f1 f2 f3 f4 f5 ff;go_loopw [11,12] (aVg (Sj l f) 1 na e.args wa) (fun _ i _=>na - (intOf i).toNat)
    case atStart=>exact⟨0,rfl,by omega,by simp[mI],by simp[mI],Tz _⟩
    case round =>
     obtain⟨k,rfl,hk,rfl,hle,lM⟩:=hrel;have gZ:=ai lM;obtain⟨f0,f1,f2,f3,f4,f5,ff⟩:=cX (lM.blk gG.o);clear lM;obtain⟨N,hN⟩:∃N,N=1+mI (Sj l f) (e.args.take k):=⟨_,rfl⟩
     rw[<-hN] at hle ⊢;have qY:=ai hN;clear hN;by_cases hgo:k<na/\N<=2000
     ·obtain⟨hkn,hN2⟩:=hgo;have hka:k<e.args.length:=by have:=kJ.o;omega
      have t1:=ag ((k:Int)<(na:Int));have t2:=ag ((N:Int)<=2000);obtain⟨b,off,rfl,nJ,nD,nG,nK,nE,nI,h0,h1,h2,h3,h4,h5,h6⟩:=eU.at e.args _ (eU.ext (dm.o.trans gZ.o) e.args _ HX.o) k hka;have H6:=ai h6;have hs1:=eD e.args k hka;have hs2:=dX e.args (k+1);have uk:e.args[k].size<=m:=by omega
      have uF:=ai (KE (Sj l f) e.args k hka);have hel:=aea (Sj l f) e.args[k];clear h6 hs1 hs2;go_wp2_with fail;refine(IHM.o e.args[k] _ _ d HD.o uk (by omega) (HL.o.ext (dm.o.trans gZ.o)) H6.o).mono ?_;rw[j9];rintro r w3 ⟨rfl,hx3⟩;have dS:=ai (gZ.o.trans hx3);clear hx3 h0 h1 h2 h3 h4 h5 f0 f1 f2 f3 f4 f5 ff;go_wp2_with fail;go_roundw
      case rel=>exact⟨k+1,by go_num,by omega,by rw[uF.o,<-Nat.add_assoc,<-qY.o];go_num,by rw[uF.o,<-Nat.add_assoc,<-qY.o];omega,dS.o⟩
      case measure=>simp[intOf];omega
     have HR:=ai (show (min N 2001:Nat)=jT l (f+1) e by
      rw[HQ.o,qY.o];exact awZ (by
       rw[<-qY.o];by_cases h:k<na
       ·exact aoX (by have:=fun h2=>hgo ⟨h,h2⟩;omega)
       exact a4Z (by have:=kJ.o;omega)))
     have hX:=dm.o.trans gZ.o;have zi:=ai hX;clear hX;by_cases hkn:k<na
     ·have t1:=ag ((k:Int)<(na:Int));have t2:=ah ((N:Int)<=2000);clear hgo;go_wp2_with fail
      all_goals (go_ret;exact cD (by rw[<-HR.o];omega) zi.o)
     have t1:=ah ((k:Int)<(na:Int));clear hgo;go_wp2_with fail
     all_goals (go_ret;exact cD (by rw[<-HR.o];omega) zi.o)
theorem uC (l:List cK) (a:OA) (n c:Nat) (hn:n<=1000000) (hsz:∀x∈l,x.cond.size<=1000000000000000) (e:Ex) (ev:Value) (w:World) (he:e.size<=1000000000000000) (hl:cZ w l a n c) (hx:dw w e ev) :
  Calls Tryz.prog 95 #[.slice a n c,ev] w (cz (.int .i64 (dV l e)) w):=by
 have HL:=ai hl;have HX:=ai hx;have tY:=ai hl.len;obtain⟨aw,nw,cw,aa,na,ca,rfl,-,-,-,-,-⟩:=hx.parts;have HC:=ai (atQ l a n c hn hsz (n+1) 1000000000000000 e (fN e.op e.name aw nw cw e.lo e.hi aa na ca));clear hl hx;unfold fN at *;go_enter Tryz.func95,Tryz.ntmps95
 go_wp2_with fail;refine(HC.o _ 0 (by omega) he (by omega) (HL.o.ext ((Tz w).alloc _)) (HX.o.ext ((Tz w).alloc _))).mono ?_;rintro r w1 ⟨rfl,hx1⟩;have dI:=ai (((Tz w).alloc _).trans hx1);clear hx1;go_wp2_with fail;go_ret;exact cD (by rw[dV,tY.o]) dI.o
inductive Pr where
 | mk (value:Bool) (pick:Int) (args:List Pr)
def Pr.value:Pr->Bool
 | .mk v _ _=>v
def Pr.pick:Pr->Int
 | .mk _ p _=>p
def Pr.args:Pr->List Pr
 | .mk _ _ a=>a
theorem Ao {α:Type} {l:List α} (h:l.length=1):∃q,l=[q]:=by
 match l,h with
 | [q],_=>exact⟨q,rfl⟩
mutual
def wI (s:List Attr) (f:ZI) (D:BA->Option (Pr->Bool)):Ex->Pr->Bool
 | .mk op name words lo hi args,.mk v k ps =>
  if op=6 then (k == -1)&&decide (ps.length=1)&&ps.all (fun q=>uH s f D args 0 q&&(v==!q.value))
  else if op=7\/op=8 then
   (if v=decide (op=8) then decide (0<=k)&&decide (ps.length=1)&&ps.all (fun q=>uH s f D args k.toNat q&&(q.value==v)) else (k == -1)&&mM s f D v args ps)
  else match (if op=3 then D name else none) with
   | some g=>(k == -1)&&decide (ps.length=1)&&ps.all (fun q=>g q&&(v==q.value))
   | none=>(k == -1)&&ps.isEmpty&&(v==um s f op name words lo hi)
def uH (s:List Attr) (f:ZI) (D:BA->Option (Pr->Bool)):List Ex->Nat->Pr->Bool
 | [],_,_=>false
 | e::_,0,q=>wI s f D e q
 | _::r,k+1,q=>uH s f D r k q
def mM (s:List Attr) (f:ZI) (D:BA->Option (Pr->Bool)) (v:Bool):List Ex->List Pr->Bool
 | [],[]=>true
 | e::r,q::t=>wI s f D e q&&(q.value==v)&&mM s f D v r t
 | [],_::_=>false
 | _::_,[]=>false
end
def js (s:List Attr) (l:List cK) (f:ZI):Nat->Ex->Pr->Bool
 | 0,_,_=>false
 | k+1,e,p=>wI s f (fun x=>(dz l x).map fun d=>js s l f k (l.getD d fC).cond) e p
def CY (s:List Attr) (l:List cK) (f:ZI) (e:Ex) (p:Pr):Bool:=js s l f (l.length+1) e p
theorem aew {s:List Attr} {f:ZI} {D:BA->Option Bool} (l:List Ex):Iq s f D l=(l[0]?.map (pK s f D)).getD false:=by
 cases l<;>simp[Iq]
mutual
theorem Xl {s:List Attr} {f:ZI} {D:BA->Option (Pr->Bool)} {V:BA->Option Bool} (h0:∀x,D x=none->V x=none) (h1:∀x g q,D x=some g->g q=true->V x=some q.value) :
  (e:Ex)->(p:Pr)->wI s f D e p=true->p.value=pK s f V e
 | .mk op name words lo hi args,.mk v k ps,h=>by
  rw[wI] at h;rw[pK];by_cases h6:op=6
  ·rw[bM h6] at h ⊢;simp only[aF,a47,aH] at h;obtain⟨q,rfl⟩:=Ao h.1.2;have hq:=h.2;simp only[List.all_cons,List.all_nil,Bool.and_true,aF,a47] at hq;have:=S8 h0 h1 args 0 q hq.1;rw[aew,<-this];exact hq.2
  rw[bL h6] at h ⊢;by_cases h78:op=7\/op=8
  ·rw[bM h78] at h;by_cases hv:v=decide (op=8)
   ·rw[bM hv] at h;simp only[aF,aH] at h;obtain⟨q,rfl⟩:=Ao h.1.2;have hz:=h.2;simp only[List.all_cons,List.all_nil,Bool.and_true,aF,a47] at hz;have hq:=S8 h0 h1 args k.toNat q hz.1;obtain⟨hm,hq⟩:∃e∈args,q.value=pK s f V e:=by
     cases hx:args[k.toNat]? with
     | none=>rw[hx] at hq;simp at hq
     | some e=>rw[hx] at hq;exact⟨e,List.mem_of_getElem? hx,by simpa using hq⟩
    rcases h78 with h7|h8
    ·subst h7;simp at hv;rw[bM rfl,xl];subst hv
     show false=_
     rw[eq_comm,List.all_eq_false];exact⟨hm,hq.1,by rw[<-hq.2,hz.2];simp⟩
    subst h8;simp at hv;rw[bL (by decide),bM rfl,xj];subst hv
    show true=_
    rw[eq_comm,List.any_eq_true];exact⟨hm,hq.1,by rw[<-hq.2,hz.2]⟩
   rw[bL hv] at h;simp only[aF] at h;have hz:=Zr h0 h1 v args ps h.2;rcases h78 with h7|h8
   ·subst h7;simp at hv;rw[bM rfl,xl];subst hv
    show true=_
    rw[eq_comm,aP];exact fun e he=>(hz e he).symm ▸ rfl
   subst h8;simp at hv;rw[bL (by decide),bM rfl,xj];subst hv
   show false=_
   rw[eq_comm,List.any_eq_false];exact fun e he=>by rw[<-hz e he];simp
  rw[bL h78] at h;rw[bL (fun e=>h78 (aoX e)),bL (fun e=>h78 (a4Z e))];by_cases h3:op=3
  ·rw[bM h3] at h ⊢;cases hD:D name with
   | none =>
    rw[hD] at h;simp only[aF,a47] at h;rw[h0 name hD];exact h.2
   | some g =>
    rw[hD] at h;simp only[aF,aH] at h;obtain⟨q,rfl⟩:=Ao h.1.2;have hz:=h.2;simp only[List.all_cons,List.all_nil,Bool.and_true,aF,a47] at hz;rw[h1 name g q hD hz.1];exact hz.2
  rw[bL h3] at h ⊢;simp only[aF,a47] at h;exact h.2
theorem S8 {s:List Attr} {f:ZI} {D:BA->Option (Pr->Bool)} {V:BA->Option Bool} (h0:∀x,D x=none->V x=none) (h1:∀x g q,D x=some g->g q=true->V x=some q.value) :
  (l:List Ex)->(k:Nat)->(q:Pr)->uH s f D l k q=true->some q.value=l[k]?.map (pK s f V)
 | [],k,q,h=>by rw[uH] at h;simp at h
 | e::r,0,q,h=>by rw[uH] at h;simp[Xl h0 h1 e q h]
 | e::r,k+1,q,h=>by rw[uH] at h;simpa using S8 h0 h1 r k q h
theorem Zr {s:List Attr} {f:ZI} {D:BA->Option (Pr->Bool)} {V:BA->Option Bool} (h0:∀x,D x=none->V x=none) (h1:∀x g q,D x=some g->g q=true->V x=some q.value) (v:Bool) :
  (l:List Ex)->(ps:List Pr)->mM s f D v l ps=true->∀e∈l,v=pK s f V e
 | [],_,_,e,he=>by simp at he
 | e::r,[],h,_,_=>by rw[mM] at h;simp at h
 | e::r,q::t,h,x,hx=>by
  rw[mM] at h;simp only[aF,a47] at h;rcases bz.1 hx with hx|hx
  ·rw[hx,<-h.1.2];exact Xl h0 h1 e q h.1.1
  exact Zr h0 h1 v r t h.2 x hx
end
theorem BW (s:List Attr) (l:List cK) (f:ZI):(k:Nat)->(e:Ex)->(p:Pr)->js s l f k e p=true->p.value=jN s l f k e
 | 0,_,_,h=>by simp[js] at h
 | k+1,e,p,h=>by
  rw[js] at h;rw[jN];refine Xl (fun x hx=>?_) (fun x g q hx hg=>?_) e p h
  ·cases hd:dz l x with
   | none=>rfl
   | some d=>rw[hd] at hx;simp at hx
  cases hd:dz l x with
  | none=>rw[hd] at hx;simp at hx
  | some d =>
   rw[hd] at hx;simp only[Option.map_some,a42] at hx ⊢;subst hx;exact(BW s l f k _ q hg).symm
theorem akf {s:List Attr} {l:List cK} {f:ZI} {e:Ex} {p:Pr} (h:CY s l f e p=true):p.value=val s l f e:=BW s l f _ e p h
def pr0:Pr:=.mk false (-1) []
def abg (d:Bool) (l:List Pr):Pr:=match l.findIdx? (fun q=>q.value==d) with
 | some k=>.mk d k [l.getD k pr0]
 | none=>.mk (!d) (-1) l
def aLe (o:Option Pr) (v:Bool):Pr:=match o with
 | some q=>.mk q.value (-1) [q]
 | none=>.mk v (-1) []
def notP (q:Pr):Pr:=.mk (!q.value) (-1) [q]
mutual
def UE (s:List Attr) (f:ZI) (D:BA->Option Pr):Ex->Pr
 | .mk op name words lo hi args=>if op=6 then notP (Xn s f D args) else if op=7\/op=8 then abg (decide (op=8)) (pfL s f D args) else aLe (if op=3 then D name else none) (um s f op name words lo hi)
def Xn (s:List Attr) (f:ZI) (D:BA->Option Pr):List Ex->Pr
 | []=>pr0
 | e::_=>UE s f D e
def pfL (s:List Attr) (f:ZI) (D:BA->Option Pr):List Ex->List Pr
 | []=>[]
 | e::r=>UE s f D e::pfL s f D r
end
def xT (s:List Attr) (l:List cK) (f:ZI):Nat->Ex->Pr
 | 0,_=>pr0
 | k+1,e=>UE s f (fun x=>(dz l x).map fun d=>xT s l f k (l.getD d fC).cond) e
def pf (s:List Attr) (l:List cK) (f:ZI) (e:Ex):Pr:=xT s l f (l.length+1) e
theorem aHj (s:List Attr) (f:ZI) (D:BA->Option (Pr->Bool)) (e:Ex) (p:Pr):wI s f D e p =
  if e.op=6 then (p.pick == -1)&&decide (p.args.length=1)&&p.args.all (fun q=>uH s f D e.args 0 q&&(p.value==!q.value))
  else if e.op=7\/e.op=8 then
   (if p.value=decide (e.op=8) then decide (0<=p.pick)&&decide (p.args.length=1)&&p.args.all (fun q=>uH s f D e.args p.pick.toNat q&&(q.value==p.value)) else (p.pick == -1)&&mM s f D p.value e.args p.args)
  else match (if e.op=3 then D e.name else none) with
   | some g=>(p.pick == -1)&&decide (p.args.length=1)&&p.args.all (fun q=>g q&&(p.value==q.value))
   | none=>(p.pick == -1)&&p.args.isEmpty&&(p.value==um s f e.op e.name e.words e.lo e.hi):=by
 cases e;cases p;rw[wI];rfl
theorem E8 {s:List Attr} {f:ZI} {D:BA->Option (Pr->Bool)}:(l:List Ex)->(k:Nat)->(q:Pr)->uH s f D l k q=(l[k]?.map fun e=>wI s f D e q).getD false
 | [],k,q=>by rw[uH];rfl
 | e::r,0,q=>by rw[uH];rfl
 | e::r,k+1,q=>by rw[uH,E8 r k q];simp
theorem NI {s:List Attr} {f:ZI} {D:BA->Option (Pr->Bool)} {v:Bool}:(l:List Ex)->(ps:List Pr)->l.length=ps.length->(∀i (h1:i<l.length) (h2:i<ps.length),wI s f D l[i] ps[i]=true/\ps[i].value=v)->mM s f D v l ps=true
 | [],[],_,_=>by rw[mM]
 | e::r,q::t,h,h2=>by
  have h0:=h2 0 (by simp) (by simp);simp only[bB] at h0;rw[mM,h0.1,NI r t (by simpa using h) fun i g1 g2=>by have:=h2 (i+1) (by simpa using g1) (by simpa using g2);simpa using this];simp[h0.2]
 | [],q::t,h,_=>by simp at h
 | e::r,[],h,_=>by simp at h
theorem Xk {s:List Attr} {f:ZI} {D:BA->Option (Pr->Bool)} {v:Bool}:(l:List Ex)->(ps:List Pr)->mM s f D v l ps=true->l.length=ps.length
 | [],[],_=>rfl
 | e::r,q::t,h=>by
  rw[mM] at h;simp only[aF] at h;simp[Xk r t h.2]
 | [],q::t,h=>by rw[mM] at h;simp at h
 | e::r,[],h=>by rw[mM] at h;simp at h
theorem akg {s:List Attr} {f:ZI} {D:BA->Option (Pr->Bool)} {v:Bool}:(l:List Ex)->(ps:List Pr)->mM s f D v l ps=true->∀i (h1:i<l.length) (h2:i<ps.length),wI s f D l[i] ps[i]=true/\ps[i].value=v
 | e::r,q::t,h,0,_,_=>by
  rw[mM] at h;simp only[aF,a47] at h;simpa using h.1
 | e::r,q::t,h,i+1,g1,g2=>by
  rw[mM] at h;simp only[aF] at h;simpa using akg r t h.2 i (by simpa using g1) (by simpa using g2)
def WY (s:List Attr) (l:List cK) (f:ZI) (g:Nat):BA->Option Bool:=fun x=>(dz l x).map fun d=>jN s l f g (l.getD d fC).cond
theorem al1 (s:List Attr) (l:List cK) (f:ZI) (g:Nat) (e:Ex):jN s l f (g+1) e=pK s f (WY s l f g) e:=rfl
def aM9 (s:List Attr) (f:ZI) (V:BA->Option Bool) (args:List Ex) (na:Nat) (bs:Nat) (o0 o1:Obj) (w:World) (t i:Value) (wr:World):Prop:=∃k q:Nat,i=.int .i64 k/\t=.int .i64 q/\k<=na/\q<=k/\(q=k ↔ ∀j (h:j<args.length),j<k->pK s f V args[j]=true)/\wr.heap[bs]?=some o0/\wr.heap[bs+1]?=some o1/\Ext w wr
def aM' (s:List Attr) (f:ZI) (V:BA->Option Bool) (args:List Ex) (na:Nat) (bs:Nat) (o0 o1:Obj) (w:World) (i:Value) (wr:World):Prop:=∃k:Nat,i=.int .i64 k/\k<=na/\(∀j (h:j<args.length),j<k->pK s f V args[j]=false)/\wr.heap[bs]?=some o0/\wr.heap[bs+1]?=some o1/\Ext w wr
theorem xz (s:List Attr) (l:List cK) (f:ZI) (hc:Chk s l) (qx:fW s f=true) (Hy:∀x∈s,x.fits) (a:OA) (n c:Nat) (fa:OA) (fn fc:Nat):∀(g m:Nat) (e:Ex) (ev sv:Value) (w:World),e.size<=m->m<=1000000->gq e->dr s l e=0->jT l g e<=2000->dB w s sv->cZ w l a n c->dw w e ev->dG w f fa fn ->
  Calls Tryz.prog 127 #[sv,.slice a n c,ev,.slice fa fn fc] w (cz (.bool (jN s l f g e)) w):=by
 intro g;induction g with
 | zero=>intro m e ev sv w _ _ _ _ h;simp[jT] at h
 | succ g ihg =>
  intro m;induction m with
  | zero=>intro e ev sv w h;have:=size_pos e;omega
  | succ m ihm =>
   intro e ev sv w hm Re hok hnd hex hs hl he hi;have GG:=abv hok hnd;obtain⟨-,RA⟩:=wT hnd;obtain⟨agE,Rz⟩:=iR hok;have RB:=KF (D:=Sj l g) (e:=e) (by rw[<-j9];exact hex);have TG:=Qn (D:=Sj l g) (e:=e) (by rw[<-j9];exact hex);obtain⟨sa,sn,sc,rfl,B6⟩:=hs.slice;obtain⟨aw,nw,cw,aa,na,ca,rfl,hw,hna,hca,ha,hx⟩:=he.parts;have hS:e.size=1+sizes e.args:=e.size_eq;have hla:=eR e.args;obtain⟨op,name,words,lo,hi',args⟩:=e;simp only[Ex.op,Ex.name,Ex.words,Ex.lo,Ex.hi,Ex.args] at *;have Ks:na<=1000000:=by omega
   have aC9:sizes args<=m:=by omega
   obtain⟨R,hR⟩:∃R,R=jN s l f (g+1) (.mk op name words lo hi' args):=⟨_,rfl⟩
   rw[<-hR];rw[al1,pK] at hR;have HR:=ai hR;have azc:=(iQ hc.x7).2.1;have aQg:sn<=6:=by omega
   have vC:=hl.len;have aDg:n<=100:=by rw[vC];exact hc.len
   have K8:=ai B6;have tY:=ai vC;have HC:=ai hc;have AD:=ai qx;have HSF:=ai Hy;have HS:=ai hs;have HL:=ai hl;have HX:=ai hx;have HW:=ai hw;have HI:=ai hi;have kJ:=ai hna;have mF:=ai (fun (j:Nat) (hj:j<args.length) (xv:Value) (W:World) (hW:Ext w W) (qV:dw W args[j] xv)=>ihm args[j] xv (.agg #[.slice sa sn sc]) W (by have h1:=eD args j hj;have h2:=dX args (j+1);omega) (by omega) (Rz _ (aD hj)) (RA j hj) (by rw[j9];exact RB j hj) (hs.ext hW) (hl.ext hW) qV (hi.ext hW));have CW:=ai (fun (h3:op=3) (d:Nat) (hd:dz l name=some d) (xv:Value) (W:World) (hW:Ext w W) (qV:dw W (l.getD d fC).cond xv)=>ihg 300 (l.getD d fC).cond xv (.agg #[.slice sa sn sc]) W (hc.cond (ju hd).1).2.2 (by omega) (hc.cond (ju hd).1).1 (hc.cond (ju hd).1).2.1 (TG h3 (by unfold Sj;rw[hd];rfl)) (hs.ext hW) (hl.ext hW) qV (hi.ext hW));have HWD:=ai (show op=4->words.length<=12 from fun h4=>by
    rcases agE with ⟨h1,-⟩|⟨h1,-⟩|⟨h1,-⟩|⟨h1,-,h2,-⟩|⟨h1,-⟩|⟨h1,-⟩|⟨h1,-⟩<;>simp only[Ex.op] at h1
    all_goals first|omega|skip
    simp only[Ex.words,qg,aF] at h2;exact of_decide_eq_true h2.1.1.2)
   clear hc qx Hy hs hl hx hw hi hna hca ha hS hla ihg ihm hm RA Rz RB TG agE hok hnd hex he B6 vC azc hR;unfold fN;obtain⟨wa,cN⟩:∃wa,wa=(w.alloc (.cells #[.slice sa sn sc] 24)).alloc (.cells #[ op,.string name,.slice aw nw cw,lo,hi',.slice aa na ca] 45):=⟨_,rfl⟩
   have gB:Ext w wa:=by rw[cN];exact((Tz _).alloc _).alloc _
   have hb0:wa.heap[w.heap.size]?=some (.cells #[.slice sa sn sc] 24 (0,0)):=by rw[cN];exact bU (bR w _)
   have hb1:wa.heap[w.heap.size+1]?=some (.cells #[ op,.string name,.slice aw nw cw,lo,hi',.slice aa na ca] 45 (0,0)):=by rw[cN];exact cT (by simp)
   have dm:=ai gB;have iO:=ai hb0;have gG:=ai hb1;obtain⟨f0,f1,f2,f3,f4,f5,ff⟩:=cX hb1;obtain⟨e0,ef⟩:=dO hb0;have kL:=bS hb1;have tF:=ai (Ai s _ name wa (HS.o.ext gB) (by have:=K8.o;omega));clear gB hb0 hb1;rcases GG with rfl|rfl|⟨rfl,i,hat,tC⟩|⟨rfl,hat,d,hdf⟩|⟨rfl,i,hat,tC⟩|⟨rfl,i,hat,tC⟩|⟨rfl,sA⟩|rfl|rfl
   ·have HQ:=ai (show R=true by rw[HR.o];simp[um]);go_enter Tryz.func127,Tryz.ntmps127
    go_upto_region 1 with fail;rw[<-cN];clear cN;go_wp2_with fail;refine tF.o.mono ?_;rintro r w1 ⟨rfl,hx1⟩;have dI:=ai (dm.o.trans hx1);unfold sX;clear f0 f1 f2 f3 f4 f5 ff e0 ef kL;obtain⟨f0,f1,f2,f3,f4,f5,ff⟩:=cX (hx1.blk gG.o);clear hx1;go_wp2_with fail;go_ret;exact bW (by rw[HQ.o]) dI.o
   ·have HQ:=ai (show R=false by rw[HR.o];simp[um]);go_enter Tryz.func127,Tryz.ntmps127
    go_upto_region 1 with fail;rw[<-cN];clear cN;go_wp2_with fail;refine tF.o.mono ?_;rintro r w1 ⟨rfl,hx1⟩;have dI:=ai (dm.o.trans hx1);unfold sX;clear f0 f1 f2 f3 f4 f5 ff e0 ef kL;obtain⟨f0,f1,f2,f3,f4,f5,ff⟩:=cX (hx1.blk gG.o);clear hx1;go_wp2_with fail;go_ret;exact bW (by rw[HQ.o]) dI.o
   ·obtain⟨GI,-⟩:=JE hat;obtain⟨hif,agH,abH⟩:=U7 AD.o GI;obtain⟨fb,fo,rfl,hcell⟩:=HI.o.2 i hif;obtain⟨z,hz⟩:∃z,z=f[i]:=⟨_,rfl⟩
    rw[<-hz] at hcell;have hdn:dz l name=none:=by
     cases hd:dz l name with
     | none=>rfl
     | some d=>rw[HC.o.apart hd] at hat;cases hat
    have HQ:=ai (show R=(z==1) by
     rw[HR.o];simp only[um,WY,hdn,hat];rw[bH];simp[hif,<-hz])
    have hin:i<fn:=by rw[HI.o.1];exact hif
    have Vs:=ai hcell;rw[hat,nX] at tF;clear hat tC GI hif agH abH hcell hz hdn;go_enter Tryz.func127,Tryz.ntmps127
    go_upto_region 1 with fail;rw[<-cN];clear cN;go_wp2_with fail;refine tF.o.mono ?_;rintro r w1 ⟨rfl,hx1⟩;have dI:=ai (dm.o.trans hx1);clear f0 f1 f2 f3 f4 f5 ff e0 ef kL;obtain⟨f0,f1,f2,f3,f4,f5,ff⟩:=cX (hx1.blk gG.o);have XI:=dI.o.cell Vs.o;clear hx1;go_wp2_with fail;go_ret;exact bW (by rw[HQ.o]) dI.o
   ·have hdl:=(ju hdf).1;have HQ:=ai (show R=jN s l f g (l.getD d fC).cond by
     rw[HR.o];rw[bL (by decide),bL (by decide),bL (by decide),bM rfl,WY,hdf];rfl)
    have hdn:d<n:=by rw[tY.o];exact hdl
    have VN:=ai (fun W (hW:Ext w W)=>xB l a n c name W (HL.o.ext hW) (by omega));rw[hdf] at VN;obtain⟨cb,ld,v,rfl,fO,hrow⟩:=HL.o.at hdl;have yM:=ai hrow;have Lb:=ai (show dw w (l.getD d fC).cond v.x.val by rw[ry hdl];exact fO.2.2.1);have HDF:=ai (CW.o rfl d hdf);obtain⟨V,hV⟩:∃V,V=jN s l f g (l.getD d fC).cond:=⟨_,rfl⟩
    rw[<-hV] at HQ HDF;rw[hat,Al] at tF;clear hV hat hdf hdl fO hrow CW mF;go_enter Tryz.func127,Tryz.ntmps127
    go_upto_region 1 with fail;rw[<-cN];clear cN;go_wp2_with fail;refine tF.o.mono ?_;rintro r w1 ⟨rfl,hx1⟩;have dI:=ai (dm.o.trans hx1);have pG:=ai (hx1.blk gG.o);have Uq:=ai (hx1.blk iO.o);clear f0 f1 f2 f3 f4 f5 ff e0 ef kL;obtain⟨f0,f1,f2,f3,f4,f5,ff⟩:=cX pG.o;clear hx1;go_wp2_with fail;refine(VN.o w1 dI.o).mono ?_;rintro r w2 ⟨rfl,rfl⟩;rw[nX];obtain⟨e0,ef⟩:=dO Uq.o;obtain⟨c0,c1,c2,c3,c4,c5,c6,c7,c8,c9⟩:=(yM.o.mono dI.o.sub).BB;go_wp2_with fail
    go_still_tail 8,(by kernel_rfl)
    change wpList _ _ _ _ _ w1.drew
    have hx2:Ext w1 w1.drew:=(Tz w1).drew;generalize w1.drew=w2 at hx2 ⊢;have dN:=ai (dI.o.trans hx2);clear hx2 c0 c1 c2 c3 c4 c5 c6 c7 c8 c9 f0 f1 f2 f3 f4 f5 ff e0 ef;have HDG:=ai (HDF.o v.x.val w2 dN.o (Lb.o.ext dN.o));unfold dK.val fN at HDG;go_wp2_with fail;refine HDG.o.mono ?_;rintro r w3 ⟨rfl,hx3⟩;have dS:=ai (dN.o.trans hx3);clear hx3;go_wp2_with fail;go_ret;exact bW (by rw[HQ.o]) dS.o
   ·obtain⟨GI,-⟩:=JE hat;obtain⟨hif,agH,abH⟩:=U7 AD.o GI;have au5:s[i].kind=1:=by rw[<-tC];simp[GI]
    have hdm:yS s[i]=(0,(s[i].words.length:Int) - 1):=by unfold yS;rw[bM au5]
    rw[hdm] at agH abH;simp only at agH abH;obtain⟨ab,ao,rfl,hA⟩:∃ab ao,sa=some ⟨ab,ao,none⟩/\QT w s[i] ab (ao+i*5):=by
     obtain⟨xa,xn,xc,e',-,-,-,hq⟩:=HS.o.parts;simp only[a5b,a5d,a5c,a45,and_true] at e';obtain⟨rfl,rfl,rfl⟩:=e';exact hq i GI
    obtain⟨x1,hx1⟩:∃x1,x1=s[i]:=⟨_,rfl⟩
    rw[<-hx1] at hA au5 abH;obtain⟨bw,nwa,cwa,Hx,TF⟩:=hA.five;have H5:=ai TF;obtain⟨fb,fo,rfl,hcell⟩:=HI.o.2 i hif;obtain⟨z,hz⟩:∃z:Nat,f[i]=(z:Int):=⟨f[i].toNat,by omega⟩
    rw[hz] at hcell agH abH;have hzw:z<x1.words.length:=by omega
    obtain⟨wb,wo,rfl,hwc⟩:=Hx.2.2.2 z hzw;have HWC:=ai hwc;have hzn:z<nwa:=by rw[Hx.1];exact hzw
    have HQ:=ai (show R=words.any (fun y=>decide (y=x1.words[z])) by
     rw[HR.o];simp only[um,hat];rw[bL (by decide),bL (by decide),bL (by decide),bL (by decide),bL (by decide),bL (by decide),bM (by decide)];simp[GI,hif,hz,<-hx1,hzw])
    have hin:i<fn:=by rw[HI.o.1];exact hif
    have aWN:i<sn:=by rw[K8.o];exact GI
    have Vs:=ai hcell;have HWI:=ai (fun W (hW:Ext w W)=>MH words aw nw cw x1.words[z] W (HW.o.ext hW) (by have:=HWD.o rfl;rw[HW.o.1];omega));rw[hat,nX] at tF;obtain⟨x,Sd⟩:∃x,x=x1.words[z]:=⟨_,rfl⟩
    rw[<-Sd] at HWC HQ HWI;clear hx1 hat tC GI hif agH abH hcell hz au5 hdm hA Hx TF hwc hzw Sd mF CW;go_enter Tryz.func127,Tryz.ntmps127
    go_upto_region 1 with fail;rw[<-cN];clear cN;go_wp2_with fail;refine tF.o.mono ?_;rintro r w1 ⟨rfl,hx1⟩;have dI:=ai (dm.o.trans hx1);clear f0 f1 f2 f3 f4 f5 ff e0 ef kL;obtain⟨f0,f1,f2,f3,f4,f5,ff⟩:=cX (hx1.blk gG.o);obtain⟨e0,ef⟩:=dO (hx1.blk iO.o);have XI:=dI.o.cell Vs.o;have hwf:=dI.o.cell HWC.o;obtain⟨g0,g1,g2,g3,g4⟩:=H5.o w1 dI.o;clear hx1;go_wp2_with fail
    go_still_tail 14,(by kernel_rfl)
    change wpList _ _ _ _ _ w1.drew
    have hx2:Ext w1 w1.drew:=(Tz w1).drew;generalize w1.drew=w2 at hx2 ⊢;have dN:=ai (dI.o.trans hx2);clear hx2 f0 f1 f2 f3 f4 f5 ff e0 ef XI hwf g0 g1 g2 g3 g4;go_wp2_with fail;refine(HWI.o w2 dN.o).mono ?_;rintro r w3 ⟨rfl,rfl⟩;go_wp2_with fail;go_ret;exact bW (by rw[HQ.o]) dN.o
   ·obtain⟨GI,-⟩:=JE hat;obtain⟨hif,-,-⟩:=U7 AD.o GI;obtain⟨fb,fo,rfl,hcell⟩:=HI.o.2 i hif;obtain⟨z,hz⟩:∃z,z=f[i]:=⟨_,rfl⟩
    rw[<-hz] at hcell;have HQ:=ai (show R=(decide (lo<=z)&&decide (z<=hi')) by
     rw[HR.o];simp only[um,hat];rw[bL (by decide),bL (by decide),bL (by decide),bL (by decide),bL (by decide),bL (by decide),bL (by decide),bM (by decide)];simp[hif,<-hz])
    have hin:i<fn:=by rw[HI.o.1];exact hif
    have Vs:=ai hcell;rw[hat,nX] at tF;clear hat tC GI hif hcell hz mF CW;have hw4:(decide (lo<=z)=true/\decide (z<=hi')=true/\R=true)\/(decide (lo<=z)=true/\decide (z<=hi')=false/\R=false)\/(decide (lo<=z)=false/\R=false):=by
     rw[HQ.o];cases decide (lo<=z)<;>cases decide (z<=hi')<;>simp
    rcases hw4 with ⟨t1,t2,hf⟩|⟨t1,t2,hf⟩|⟨t1,hf⟩
    all_goals
     have HF:=ai hf;clear hf;go_enter Tryz.func127,Tryz.ntmps127
     go_upto_region 1 with fail;rw[<-cN];clear cN;go_wp2_with fail;refine tF.o.mono ?_;rintro r w1 ⟨rfl,hx1⟩;have dI:=ai (dm.o.trans hx1);clear f0 f1 f2 f3 f4 f5 ff e0 ef kL;obtain⟨f0,f1,f2,f3,f4,f5,ff⟩:=cX (hx1.blk gG.o);have XI:=dI.o.cell Vs.o;clear hx1;go_wp2_with fail;go_quiet (fail)
     go_wp2_with fail;go_ret;exact bW (by rw[HF.o]) (dI.o.drewN _)
   ·have hj:0<args.length:=by omega
    have HQ:=ai (show R=!(jN s l f (g+1) args[0]) by
     rw[HR.o,bM rfl,aew,aT hj];rfl)
    have hnp:0<na:=by have:=kJ.o;omega
    have HXJ:=ai (fun W (hW:Ext w W)=>eU.at args _ (eU.ext hW args _ HX.o) 0 hj);have HA0:=ai (mF.o 0 hj);obtain⟨V,hV⟩:∃V,V=jN s l f (g+1) args[0]:=⟨_,rfl⟩
    rw[<-hV] at HQ HA0;clear sA hV mF CW;go_enter Tryz.func127,Tryz.ntmps127
    go_upto_region 1 with fail;rw[<-cN];clear cN;go_wp2_with fail;refine tF.o.mono ?_;rintro r w1 ⟨rfl,hx1⟩;have dI:=ai (dm.o.trans hx1);unfold sX;clear f0 f1 f2 f3 f4 f5 ff e0 ef kL;obtain⟨f0,f1,f2,f3,f4,f5,ff⟩:=cX (hx1.blk gG.o);obtain⟨e0,ef⟩:=dO (hx1.blk iO.o);obtain⟨b,off,rfl,nJ,nD,nG,nK,nE,nI,h0,h1,h2,h3,h4,h5,h6⟩:=HXJ.o w1 dI.o;have H6:=ai h6;simp only[Nat.zero_mul,Nat.add_zero] at h0 h1 h2 h3 h4 h5;clear hx1 h6;go_wp2_with fail
    go_still_tail 7,(by kernel_rfl)
    change wpList _ _ _ _ _ w1.drew
    have hx2:Ext w1 w1.drew:=(Tz w1).drew;generalize w1.drew=w2 at hx2 ⊢;have dN:=ai (dI.o.trans hx2);have HAX:=ai (HA0.o _ w2 dN.o (H6.o.ext hx2));unfold fN at HAX;clear hx2 f0 f1 f2 f3 f4 f5 ff e0 ef h0 h1 h2 h3 h4 h5;go_wp2_with fail;refine HAX.o.mono ?_;rintro r w3 ⟨rfl,hx3⟩;have dS:=ai (dN.o.trans hx3);clear hx3;go_wp2_with fail;go_ret;exact bW (by rw[HQ.o]) dS.o
   ·have HQ:=ai (show R=args.all (pK s f (WY s l f g)) by rw[HR.o,bL (by decide),bM rfl,xl]);have HXJ:=ai (fun W (hW:Ext w W)=>eU.at args _ (eU.ext hW args _ HX.o));obtain⟨V,hV⟩:∃V,V=WY s l f g:=⟨_,rfl⟩
    rw[<-hV] at HQ;have HAV:=ai (show ∀(j:Nat) (hj:j<args.length) (xv:Value) (W:World),Ext w W->dw W args[j] xv->Calls Tryz.prog 127 #[.agg #[.slice sa sn sc],.slice a n c,xv,.slice fa fn fc] W (cz (.bool (pK s f V args[j])) W) from fun j hj xv W hW qV=>by rw[hV,<-al1];exact mF.o j hj xv W hW qV);clear hV mF CW;go_enter Tryz.func127,Tryz.ntmps127
    go_upto_region 1 with fail;rw[<-cN];clear cN;go_wp2_with fail;refine tF.o.mono ?_;rintro r w1 ⟨rfl,hx1⟩;have dI:=ai (dm.o.trans hx1);have Uq:=ai (hx1.blk iO.o);have pG:=ai (hx1.blk gG.o);unfold sX;clear f0 f1 f2 f3 f4 f5 ff e0 ef kL;obtain⟨f0,f1,f2,f3,f4,f5,ff⟩:=cX pG.o;clear hx1;go_wp2_with fail;clear f0 f1 f2 f3 f4 f5 ff;go_loopw [13,14] (aM9 s f V args na w.heap.size (.cells #[.slice sa sn sc] 24 (0,0)) (.cells #[.int .i64 7,.string name,.slice aw nw cw,lo,hi',.slice aa na ca] 45 (0,0)) w) (fun _ i _=>na - (intOf i).toNat)
    case atStart=>exact⟨0,0,rfl,rfl,by omega,by omega,⟨fun _ j _ h=>by omega,fun _=>rfl⟩,Uq.o,pG.o,dI.o⟩
    case round =>
     obtain⟨k,q,rfl,rfl,hk,hqk,hall,hb0,hb1,lM⟩:=hrel;have mK:=ai hall;have aO3:=ai hb0;have aO2:=ai hb1;have gZ:=ai lM;obtain⟨e0,ef⟩:=dO hb0;obtain⟨f0,f1,f2,f3,f4,f5,ff⟩:=cX hb1;clear hall hb0 hb1 lM;by_cases hkn:k<na
     ·have hka:k<args.length:=by have:=kJ.o;omega
      have t1:=ag ((k:Int)<(na:Int));obtain⟨b,off,rfl,nJ,nD,nG,nK,nE,nI,h0,h1,h2,h3,h4,h5,h6⟩:=HXJ.o wr gZ.o k hka;have H6:=ai h6;have HAK:=ai (HAV.o k hka);obtain⟨B,hB⟩:∃B,B=pK s f V args[k]:=⟨_,rfl⟩
      rw[<-hB] at HAK;have jL:=ai hB;clear h6 hB;go_wp2_with fail
      go_still_tail 8,(by kernel_rfl)
      change wpList _ _ _ _ _ wr.drew
      have hx2:Ext wr wr.drew:=(Tz wr).drew;generalize wr.drew=w2 at hx2 ⊢;have dN:=ai (gZ.o.trans hx2);have ah8:=ai (hx2.blk aO3.o);have HB12:=ai (hx2.blk aO2.o);have HAX:=ai (HAK.o _ w2 dN.o (H6.o.ext hx2));unfold fN at HAX;clear hx2 f0 f1 f2 f3 f4 f5 ff e0 ef h0 h1 h2 h3 h4 h5;go_wp2_with fail;refine HAX.o.mono ?_;rintro r w3 ⟨rfl,hx3⟩;have dS:=ai (dN.o.trans hx3);have wQ:=ai (hx3.blk ah8.o);have nW:=ai (hx3.blk HB12.o);clear hx3;cases B
      ·go_wp2_with fail;go_roundw
       case rel =>
        refine⟨k+1,q,by go_num,rfl,by omega,by omega,⟨fun h=>by omega,fun h=>?_⟩,wQ.o,nW.o,dS.o⟩;have:=h k hka (by omega);rw[<-jL.o] at this;cases this
       case measure=>simp[intOf];omega
      go_wp2_with fail;go_roundw
      case rel =>
       refine⟨k+1,q+1,by go_num,by go_num,by omega,by omega,⟨fun h j hj hjk=>?_,fun h=>?_⟩,wQ.o,nW.o,dS.o⟩
       ·by_cases e:j=k
        ·subst e;exact jL.o.symm
        exact mK.o.1 (by omega) j hj (by omega)
       have:=mK.o.2 fun j hj hjk=>h j hj (by omega)
       omega
      case measure=>simp[intOf];omega
     have t1:=ah ((k:Int)<(na:Int));have HF:=ai (show R=((q:Int)==(na:Int)) by
      rw[HQ.o,bH,aP];simp only[a47];constructor
      ·intro h;have:=mK.o.2 fun j hj _=>h _ (aD hj)
       omega
      intro h x hx;obtain⟨j,hj,rfl⟩:=bA hx;exact mK.o.1 (by omega) j hj (by have:=kJ.o;omega))
     go_wp2_with fail;go_ret;exact bW (by rw[HF.o]) gZ.o
   have HQ:=ai (show R=args.any (pK s f (WY s l f g)) by rw[HR.o,bL (by decide),bL (by decide),bM rfl,xj]);have HXJ:=ai (fun W (hW:Ext w W)=>eU.at args _ (eU.ext hW args _ HX.o));obtain⟨V,hV⟩:∃V,V=WY s l f g:=⟨_,rfl⟩
   rw[<-hV] at HQ;have HAV:=ai (show ∀(j:Nat) (hj:j<args.length) (xv:Value) (W:World),Ext w W->dw W args[j] xv->Calls Tryz.prog 127 #[.agg #[.slice sa sn sc],.slice a n c,xv,.slice fa fn fc] W (cz (.bool (pK s f V args[j])) W) from fun j hj xv W hW qV=>by rw[hV,<-al1];exact mF.o j hj xv W hW qV);clear hV mF CW;go_enter Tryz.func127,Tryz.ntmps127
   go_upto_region 1 with fail;rw[<-cN];clear cN;go_wp2_with fail;refine tF.o.mono ?_;rintro r w1 ⟨rfl,hx1⟩;have dI:=ai (dm.o.trans hx1);have Uq:=ai (hx1.blk iO.o);have pG:=ai (hx1.blk gG.o);unfold sX;clear f0 f1 f2 f3 f4 f5 ff e0 ef kL;obtain⟨f0,f1,f2,f3,f4,f5,ff⟩:=cX pG.o;clear hx1;go_wp2_with fail;clear f0 f1 f2 f3 f4 f5 ff;go_loopw [15] (aM' s f V args na w.heap.size (.cells #[.slice sa sn sc] 24 (0,0)) (.cells #[.int .i64 8,.string name,.slice aw nw cw,lo,hi',.slice aa na ca] 45 (0,0)) w) (fun i _=>na - (intOf i).toNat)
   case atStart=>exact⟨0,rfl,by omega,fun j _ h=>by omega,Uq.o,pG.o,dI.o⟩
   case round =>
    obtain⟨k,rfl,hk,hall,hb0,hb1,lM⟩:=hrel;have mK:=ai hall;have aO3:=ai hb0;have aO2:=ai hb1;have gZ:=ai lM;obtain⟨e0,ef⟩:=dO hb0;obtain⟨f0,f1,f2,f3,f4,f5,ff⟩:=cX hb1;clear hall hb0 hb1 lM;by_cases hkn:k<na
    ·have hka:k<args.length:=by have:=kJ.o;omega
     have t1:=ag ((k:Int)<(na:Int));obtain⟨b,off,rfl,nJ,nD,nG,nK,nE,nI,h0,h1,h2,h3,h4,h5,h6⟩:=HXJ.o wr gZ.o k hka;have H6:=ai h6;have HAK:=ai (HAV.o k hka);obtain⟨B,hB⟩:∃B,B=pK s f V args[k]:=⟨_,rfl⟩
     rw[<-hB] at HAK;have jL:=ai hB;clear h6 hB;go_wp2_with fail
     go_still_tail 8,(by kernel_rfl)
     change wpList _ _ _ _ _ wr.drew
     have hx2:Ext wr wr.drew:=(Tz wr).drew;generalize wr.drew=w2 at hx2 ⊢;have dN:=ai (gZ.o.trans hx2);have ah8:=ai (hx2.blk aO3.o);have HB12:=ai (hx2.blk aO2.o);have HAX:=ai (HAK.o _ w2 dN.o (H6.o.ext hx2));unfold fN at HAX;clear hx2 f0 f1 f2 f3 f4 f5 ff e0 ef h0 h1 h2 h3 h4 h5;go_wp2_with fail;refine HAX.o.mono ?_;rintro r w3 ⟨rfl,hx3⟩;have dS:=ai (dN.o.trans hx3);have wQ:=ai (hx3.blk ah8.o);have nW:=ai (hx3.blk HB12.o);clear hx3;cases B
     ·go_wp2_with fail;go_roundw
      case rel =>
       refine⟨k+1,by go_num,by omega,fun j hj hjk=>?_,wQ.o,nW.o,dS.o⟩;by_cases e:j=k
       ·subst e;exact jL.o.symm
       exact mK.o j hj (by omega)
      case measure=>simp[intOf];omega
     have HF:=ai (show R=true by rw[HQ.o,List.any_eq_true];exact⟨_,aD hka,jL.o.symm⟩);go_wp2_with fail;go_ret;exact bW (by rw[HF.o]) dS.o
    have t1:=ah ((k:Int)<(na:Int));have HF:=ai (show R=false by
     rw[HQ.o,List.any_eq_false];intro x hx;obtain⟨j,hj,rfl⟩:=bA hx;rw[mK.o j hj (by have:=kJ.o;omega)];simp)
    go_wp2_with fail;go_ret;exact bW (by rw[HF.o]) gZ.o
structure gS where
 value:Bool
 pick:Int
 a:OA
 n:Nat
 c:Nat
def gS.cells (v:gS):List Value:=[.bool v.value,.int .i64 v.pick,.slice v.a v.n v.c]
def gS.val (v:gS):Value:=.agg #[.bool v.value,.int .i64 v.pick,.slice v.a v.n v.c]
theorem gS.len (v:gS):v.cells.length=3:=rfl
inductive gL (w:World):Pr->gS->Prop
 | mk {v:Bool} {k:Int} {ps:List Pr} {a:OA} {n c:Nat} (vs:List gS) (hr:eE w 3 gS.cells vs a n c) (hl:vs.length=ps.length)
   (h:∀i (h1:i<ps.length) (h2:i<vs.length),gL w ps[i] vs[i]):gL w (.mk v k ps) ⟨v,k,a,n,c⟩
theorem gL.mono {w w':World} {p:Pr} {v:gS} (h:gL w p v) (hs:Sub w w'):gL w' p v:=by
 induction h with
 | mk vs hr hl _ ih=>exact .mk vs (hr.mono hs) hl ih
theorem gL.ext {w w':World} {p:Pr} {v:gS} (h:gL w p v) (he:Ext w w'):gL w' p v:=h.mono he.sub
theorem gL.parts {w:World} {p:Pr} {v:gS} (h:gL w p v):v.value=p.value/\v.pick=p.pick/\v.n=p.args.length/\v.n<=v.c/\ny v.a v.c /\
  ∀i (hi:i<p.args.length),∃b off q,v.a=some ⟨b,off,none⟩/\gL w p.args[i] q/\w.cell? ⟨b,off+i*3,none⟩=some (.bool q.value)/\w.cell? ⟨b,off+i*3+1,none⟩=some (.int .i64 q.pick)/\w.cell? ⟨b,off+i*3+2,none⟩=some (.slice q.a q.n q.c):=by
 cases h with
 | mk vs hr hl h =>
  refine⟨rfl,rfl,hr.1.trans hl,hr.2.1,hr.2.2.1,fun i hi=>?_⟩;simp only[Pr.args] at hi ⊢;obtain⟨b,off,e,hc⟩:=hr.2.2.2 i (by omega);exact⟨b,off,_,e,h i hi (by omega),hc 0 (by simp[gS.len]),hc 1 (by simp[gS.len]),hc 2 (by simp[gS.len])⟩
theorem uBy:Tryz.prog.underlying 5=some (.int .u8):=by kernel_rfl
theorem uBs:Tryz.prog.underlying 153=some (.slice 5):=by kernel_rfl
theorem uSt:Tryz.prog.underlying 9=some .string:=by kernel_rfl
theorem JL {w0 w:World} {bd:Nat} (h:cg w0 w bd) (most:Int) (h0:0<=most) (h1:most<=10000000000000) :
  Calls Tryz.prog 43 #[.pointer (some ⟨bd,0,none⟩),.int .i64 most] w (alG 0 (most+1) w0 bd w):=by
 go_enter Tryz.func43,Tryz.ntmps43
 go_wp2_with fail;refine(dx h 6 (by omega) (by omega)).mono ?_;rintro e w1 ⟨r,rfl,hr0,hr1,hd,hc⟩;have HC:=ai hc;have h4:∀(k:Int),0<k->k<=10000000000001->Calls Tryz.prog 37 #[.pointer (some ⟨bd,0,none⟩),.int .i64 k] w1 (alG 0 k w0 bd w1):=fun k hk hk2=>dx hd k hk (by omega)
 have H4:=ai h4;clear hc hd h4;have hr:r=0\/r=1\/r=2\/r=3\/r=4\/r=5:=by omega
 clear hr0 hr1;rcases hr with rfl|rfl|rfl|rfl|rfl|rfl
 all_goals
  go_wp2_with fail
  all_goals
   refine(H4.o _ (by omega) (by omega)).mono ?_;rintro e w2 ⟨q,rfl,CQ,hq1,qd,hc2⟩;have iP:=ai (HC.o.then hc2);have pY:=ai qd;clear hc2 qd H4 HC;go_wp2_with fail
   all_goals
    go_ret;exact⟨_,rfl,by omega,by omega,pY.o,iP.o⟩
def aSw (w:World) (e:Ending) (w':World):Prop:=∃b:Bool,e=.returned (.bool b)/\Ext w w'
theorem auM {w0 w:World} {bd:Nat} (h:cg w0 w bd):Calls Tryz.prog 67 #[.pointer (some ⟨bd,0,none⟩)] w (aSw w):=by
 obtain⟨la,ln,lc,k,hb,hk,vC,hL,hx,hbd⟩:=h;obtain⟨c0,c1,cf⟩:=uZ hb;clear hL hx hb;go_enter Tryz.func67,Tryz.ntmps67
 go_wp2_with fail;go_quiet (fail)
 go_wp2_with fail;go_ret;exact⟨_,rfl,(Tz w).drewN _⟩
theorem aEt (w:World) (x:Nat) (hx:x=w.heap.size) (c d:Int) (t:TypeId):Sem.run Tryz.prog (convert 153 9 (.slice (some ⟨x,0,none⟩) 2 2)) (w.alloc (.cells #[.int .u8 c,.int .u8 d] t))=.ok (.string ⟨#[UInt8.ofNat c.toNat,UInt8.ofNat d.toNat]⟩) (w.alloc (.cells #[.int .u8 c,.int .u8 d] t)):=by
 subst hx;rw[run_convert_bytes_string _ _ _ 5 _ _ _ uBs uBy uSt];have:=run_bytesToString (P:=Tryz.prog) (w.alloc (.cells #[.int .u8 c,.int .u8 d] t)) ⟨w.heap.size,0,none⟩ 2 2 [c,d] (by
  refine run_loadCells_list (P:=Tryz.prog) _ _ [.int .u8 c,.int .u8 d] (fun j v hj=>?_);have:(⟨w.heap.size,0,none⟩:Addr).add j=⟨w.heap.size,j,none⟩:=by unfold Addr.add;split<;>simp_all
  rw[this,World.cell?_alloc_at _ _ _ _ rfl];simpa using hj)
 rw[this]
 rfl
def ym (p:BA) (k:Nat):BA:=p++⟨#[97+UInt8.ofNat (k / 26 % 26),97+UInt8.ofNat (k % 26)]⟩
theorem Wl (p:BA) (k:Nat):(ym p k).size=p.size+2:=by unfold ym;rw[ByteArray.size_append];rfl
def aFc (p:BA) (k:Nat) (w:World) (e:Ending) (w':World):Prop:=e=.returned (.string (ym p k))/\Ext w w'
theorem Wk (p:BA) (k:Nat) (hk:k<=1000) (hp:p.size<=1000) (w:World):Calls Tryz.prog 66 #[.string p,.int .i64 k] w (aFc p k w):=by
 have kc:=aEt;go_enter Tryz.func66,Tryz.ntmps66
 go_wp2_with fail;go_ret;exact⟨rfl,(Tz w).alloc _⟩
def mH:List Wb->Nat
 | []=>0
 | .mk _ _ u::r=>1+mH u+mH r
theorem zw:(l:List Wb)->(k:Nat)->(hk:k<l.length)->mH l[k].gH+1<=mH l
 | [],k,hk=>by simp at hk
 | .mk n c u::r,0,_=>by simp only[bB,Wb.gH,mH];omega
 | .mk n c u::r,k+1,hk=>by
  have:=zw r k (by simpa using hk);simp only[List.getElem_cons_succ,mH];omega
theorem ql:(l:List Wb)->l.length<=mH l
 | []=>by simp[mH]
 | .mk n c u::r=>by have:=ql r;simp only[List.length_cons,mH];omega
def Ea:List Wb->Nat
 | []=>0
 | .mk _ _ u::r=>min (iK u) 41+Ea r
theorem axh:(l:List Wb)->iK l=l.length+Ea l
 | []=>by simp[iK,Ea]
 | .mk n c u::r=>by rw[iK,Ea,axh r];simp;omega
theorem Rk:(l:List Wb)->(k:Nat)->(hk:k<l.length)->Ea (l.take (k+1))=Ea (l.take k)+min (iK l[k].gH) 41
 | [],k,hk=>by simp at hk
 | .mk n c u::r,0,_=>by simp[Ea,Wb.gH]
 | .mk n c u::r,k+1,hk=>by
  have:=Rk r k (by simpa using hk);simp[Ea] at this ⊢;omega
theorem WH:(l:List Wb)->(k:Nat)->Ea (l.take k)<=Ea l
 | [],k=>by simp[Ea]
 | .mk n c u::r,0=>by simp[Ea]
 | .mk n c u::r,k+1=>by have:=WH r k;simp[Ea];omega
def Nr:List Wb->Prop
 | []=>True
 | .mk n c u::r=>n.size<=1000000000000000/\c.fits/\c.iT/\c.size<=1000000000000000/\Nr u/\Nr r
theorem alU:(l:List Wb)->Nr l->(k:Nat)->(hk:k<l.length)->l[k].name.size<=1000000000000000/\l[k].cond.fits/\l[k].cond.iT/\l[k].cond.size<=1000000000000000/\Nr l[k].gH
 | [],_,k,hk=>by simp at hk
 | .mk n c u::r,h,0,_=>by rw[Nr] at h;exact⟨h.1,h.2.1,h.2.2.1,h.2.2.2.1,h.2.2.2.2.1⟩
 | .mk n c u::r,h,k+1,hk=>by rw[Nr] at h;simpa using alU r h.2.2.2.2.2 k (by simpa using hk)
def nY:List Wb->Prop
 | []=>True
 | .mk n c u::r=>n.size<=1000000000000000/\c.fits/\c.iT/\c.vP/\u.length<=1000000000000000/\nY u/\nY r
def Wb.fit (x:Wb):Prop:=x.name.size<=1000000000000000/\x.cond.fits/\x.cond.iT/\x.cond.vP/\x.gH.length<=1000000000000000/\nY x.gH
theorem Uu:(l:List Wb)->nY l->(k:Nat)->(hk:k<l.length)->l[k].fit
 | [],_,k,hk=>by simp at hk
 | .mk n c u::r,h,0,_=>by rw[nY] at h;exact⟨h.1,h.2.1,h.2.2.1,h.2.2.2.1,h.2.2.2.2.1,h.2.2.2.2.2.1⟩
 | .mk n c u::r,h,k+1,hk=>by rw[nY] at h;simpa using Uu r h.2.2.2.2.2.2 k (by simpa using hk)
theorem xh:(l:List Wb)->Nr l->mH l<=1000000000000000->nY l
 | [],_,_=>by unfold nY;trivial
 | .mk n c u::r,h,hn=>by
  rw[Nr] at h;rw[mH] at hn;have hu:=ql u;unfold nY;exact⟨h.1,h.2.1,h.2.2.1,iY c h.2.2.2.1,by omega,xh u h.2.2.2.2.1 (by omega),xh r h.2.2.2.2.2 (by omega)⟩
theorem amw (m:Nat):∀(l:List Wb) (a:OA) (n c:Nat) (w:World),mH l<=m->n<=1000000000000000->nY l->gK w l a->n=l.length ->
  Calls Tryz.prog 121 #[.slice a n c] w (pg (.int .i64 (min (iK l) 41:Nat)) w):=by
 induction m with
 | zero =>
  intro l a n c w hm hn2 hfit hd hn;have hl:=ql l;have:l=[]:=aR (by omega);subst this;subst hn;have HR:=ai (show (min (iK []) 41:Nat)=0 by simp[iK]);generalize (min (iK []) 41:Nat)=R at *;clear hd hfit;go_enter Tryz.func121,Tryz.ntmps121
  go_wp2_with fail
  go_loop [3,4] (fun t i=>t=.int .i64 0/\i=.int .i64 0) (fun _ _=>0)
  case atStart=>exact⟨rfl,rfl⟩
  case round =>
   obtain⟨rfl,rfl⟩:=hrel;go_wp2_with fail
   all_goals (go_ret;exact⟨by rw[HR.o];rfl,rfl⟩)
 | succ m ih =>
  intro l a n c w hm hn2 hfit hd hn;have HFT:=ai hfit;have HD:=ai hd;have HN:=ai hn;have IH:=ai ih;have VO:=ai (axh l);clear hd hn ih hfit;go_enter Tryz.func121,Tryz.ntmps121
  go_wp2_with fail
  go_loop [3,4] (fun t i=>∃k:Nat,i=.int .i64 k/\k<=n/\t=.int .i64 ((n+Ea (l.take k):Nat):Int)/\(k=0\/n+Ea (l.take k)<=81)) (fun _ i=>n - (intOf i).toNat)
  case atStart=>exact⟨0,rfl,by omega,by simp[Ea],aoX rfl⟩
  case round =>
   obtain⟨k,rfl,hk,rfl,hle⟩:=hrel;have hk0:Ea (l.take k)<=81:=by
    rcases hle with h|h
    ·subst h;simp[Ea]
    omega
   obtain⟨N,hN⟩:∃N,N=n+Ea (l.take k):=⟨_,rfl⟩
   rw[<-hN];have hNb:N<=1000000000000081:=by omega
   have qY:=ai hN;clear hN hle;by_cases hgo:k<n/\N<=40
   ·obtain⟨hkn,a4w⟩:=hgo;have fq:k<l.length:=by have:=HN.o;omega
    have t1:=ag ((k:Int)<(n:Int));have t2:=ag ((N:Int)<=40);obtain⟨b,off,rfl,v,hv0,hrow,hv2,hv3,hv4,hv5,hv6⟩:=gK.at l _ HD.o k fq;obtain⟨c0,c1,c2,c3,c4,c5,c6,c7⟩:=hrow.eight;have hwn:=zw l k fq;have HU:=ai hv6;have Nh:=ai hv3;have hft:=Uu l HFT.o k fq;have Co:v.nu<=1000000000000000:=by rw[hv3];exact hft.2.2.2.2.1
    have HFU:=ai hft.2.2.2.2.2;have uF:=ai (Rk l k fq);clear hrow hv0 hv2 hv3 hv4 hv5 hv6 hft;go_wp2_with fail;refine(IH.o l[k].gH _ _ _ w (by omega) Co HFU.o HU.o Nh.o).mono ?_;rintro r w1 ⟨rfl,rfl⟩;obtain⟨M,hM⟩:∃M,M=(min (iK l[k].gH) 41:Nat):=⟨_,rfl⟩
    have hMl:M<=41:=by omega
    rw[<-hM];rw[<-hM] at uF;clear hM;go_wp2_with fail
    go_round
    case rel=>exact⟨k+1,by go_num,by omega,by rw[uF.o,<-Nat.add_assoc,<-qY.o];go_num,a4Z (by rw[uF.o,<-Nat.add_assoc,<-qY.o];omega)⟩
    case measure=>simp[intOf];omega
   have HR:=ai (show (min (iK l) 41:Nat)=min N 41 by
    have h1:=VO.o;have h2:=HN.o;have h3:=qY.o;by_cases h:k<n
    ·have h4:40<N:=by have:=fun h2=>hgo ⟨h,h2⟩;omega
     have h5:=WH l k;omega
    have e:l.take k=l:=aS (by omega);rw[e] at h3;omega)
   generalize (min (iK l) 41:Nat)=R at *;by_cases hkn:k<n
   ·have t1:=ag ((k:Int)<(n:Int));have t2:=ah ((N:Int)<=40);clear hgo;go_wp2_with fail
    all_goals (go_ret;exact⟨congrArg (fun z:Int=>Ending.returned (.int .i64 z)) (by have:=HR.o;omega),rfl⟩)
   have t1:=ah ((k:Int)<(n:Int));clear hgo;go_wp2_with fail
   all_goals (go_ret;exact⟨congrArg (fun z:Int=>Ending.returned (.int .i64 z)) (by have:=HR.o;omega),rfl⟩)
def Tu (d:Nat) (x:Wb):Bool:=gJ x.name&&eW x.cond&&mh (d - 1) x.gH
theorem ab7 (d:Nat):(l:List Wb)->mh d l=((decide (l.length=0)||decide (d≠0))&&l.all (Tu d))
 | []=>by simp[mh]
 | .mk n c u::r=>by
  rw[mh,ab7 d r];simp only[List.length_cons,List.all_cons,Tu,Wb.name,Wb.cond,Wb.gH];by_cases hd:d=0
  ·simp[hd]
  simp[hd,Bool.and_assoc]
theorem fQ {a b:Bool} {w w':World} (h:a=b) (hx:Ext w w'):cz (.bool b) w (.returned (.bool a)) w':=by subst h;exact⟨rfl,hx⟩
theorem amx (m:Nat):∀(l:List Wb) (a:OA) (n c d:Nat) (w:World),mH l<=m->n<=1000000000000000->nY l->d<=1000->gK w l a->n=l.length ->
  Calls Tryz.prog 122 #[.slice a n c,.int .i64 d] w (cz (.bool (mh d l)) w):=by
 induction m with
 | zero =>
  intro l a n c d w hm hn2 hok hd hD hn;have hl:=ql l;have:l=[]:=aR (by omega);subst this;subst hn;have HR:=ai (show mh d []=true by simp[mh]);generalize mh d []=R at *;clear hD hok;go_enter Tryz.func122,Tryz.ntmps122
  go_wp2_with fail
  go_loop [5] (fun t=>t=.int .i64 0) (fun _=>0)
  case atStart=>exact rfl
  case round =>
   subst hrel;go_wp2_with fail
   all_goals (go_ret;exact fQ (by rw[HR.o]) (Tz _))
 | succ m ih =>
  intro l a n c d w hm hn2 hok hd hD hn;have HD:=ai hD;have HN:=ai hn;have zm:=ai hok;have IH:=ai ih;have HQ:=ai (ab7 d l);clear hD hn ih hok;obtain⟨R,hR⟩:∃R,R=mh d l:=⟨_,rfl⟩
  rw[<-hR];rw[<-hR] at HQ;clear hR;by_cases h0:0<n/\d=0
  ·obtain⟨hn0,hd0⟩:=h0;have t0:=ag ((0:Int)<(n:Int));have HR:=ai (show R=false by rw[HQ.o,<-HN.o,hd0];simp;intro h;omega);subst hd0;go_enter Tryz.func122,Tryz.ntmps122
   go_wp2_with fail;go_ret;exact fQ (by rw[HR.o]) (Tz _)
  have Ro:=ai (show R=l.all (Tu d) by
   rw[HQ.o];by_cases h:n=0
   ·have:l=[]:=aR (by have:=HN.o;omega);subst this;simp
   have hd1:d≠0:=fun e=>h0 ⟨by omega,e⟩
   simp[hd1])
  clear HQ;by_cases hn0:0<n
  case neg =>
   obtain rfl:n=0:=by omega
   have hl0:l=[]:=aR HN.o.symm;have HR:=ai (show R=true by rw[Ro.o,hl0];rfl);clear h0 hl0 hn0;go_enter Tryz.func122,Tryz.ntmps122
   go_wp2_with fail
   go_loop [5] (fun t=>t=.int .i64 0) (fun _=>0)
   case atStart=>exact rfl
   case round =>
    subst hrel;go_wp2_with fail
    all_goals (go_ret;exact fQ (by rw[HR.o]) (Tz _))
  case pos =>
   have t0:=ag ((0:Int)<(n:Int));have td:((d:Int)==0)=false:=by have:=fun e=>h0 ⟨hn0,e⟩;simp;omega
   go_enter Tryz.func122,Tryz.ntmps122
   go_wp2_with fail;go_loopw [5] (fun t wr=>∃k:Nat,t=.int .i64 k/\k<=n/\(∀j (h:j<l.length),j<k->Tu d l[j]=true)/\Ext w wr) (fun t _=>n - (intOf t).toNat)
   case atStart=>exact⟨0,rfl,by omega,fun j _ h=>by omega,Tz _⟩
   case round =>
    obtain⟨k,rfl,hk,hall,lM⟩:=hrel;have mK:=ai hall;have gZ:=ai lM;clear hall lM;by_cases hkn:k<n
    ·have fq:k<l.length:=by have:=HN.o;omega
     have t1:=ag ((k:Int)<(n:Int));have hd1:1<=d:=by have:=fun e=>h0 ⟨by omega,e⟩;omega
     obtain⟨b,off,rfl,v,hv0,hrow,hv2,hv3,hv4,hv5,hv6⟩:=gK.at l _ (gK.mono gZ.o.sub _ _ HD.o) k fq;obtain⟨c0,c1,c2,c3,c4,c5,c6,c7⟩:=hrow.eight;obtain⟨ho1,ho2,ho3,ho4,hou,ho5⟩:=Uu l zm.o k fq;have Co:v.nu<=1000000000000000:=by rw[hv3];exact hou
     have Em:=ai ho4;have hwn:=zw l k fq;have HU:=ai hv6;have Nh:=ai hv3;have zq:=ai hv2;have tX:=ai ho2;have vF:=ai ho3;have Da:=ai ho5;have Vq:=ai (show Tu d l[k]=(gJ l[k].name&&eW l[k].cond&&mh (d - 1) l[k].gH) from rfl);rw[hv0] at c0;clear hrow hv0 hv2 hv3 hv4 hv5 hv6 ho2 ho3 ho5 ho4 hou;have q1:((d:Int) - 1)=((d - 1:Nat):Int):=by omega
     cases hnb:gJ l[k].name
     ·have pX:=ai hnb;have HR:=ai (show R=false by
       rw[Ro.o,List.all_eq_false];exact⟨l[k],aD fq,by rw[Vq.o,hnb];simp⟩)
      clear hnb q1;go_wp2_with fail;refine(nO _ _ ho1).mono ?_;rintro r w1 ⟨rfl,rfl⟩;rw[pX.o];go_wp2_with fail;go_ret;exact fQ (by rw[HR.o]) gZ.o
     have pX:=ai hnb;cases hxb:eW l[k].cond
     ·have jK:=ai hxb;have HR:=ai (show R=false by
       rw[Ro.o,List.all_eq_false];exact⟨l[k],aD fq,by rw[Vq.o,hxb];simp⟩)
      clear hnb hxb q1;go_wp2_with fail;refine(nO _ _ ho1).mono ?_;rintro r w1 ⟨rfl,rfl⟩;rw[pX.o];go_wp2_with fail;refine(J5 l[k].cond _ _ zq.o Em.o tX.o vF.o).mono ?_;rintro r w1 ⟨rfl,hx1⟩;rw[jK.o];have dI:=ai (gZ.o.trans hx1);clear hx1 c0 c1 c2 c3 c4 c5 c6 c7;go_wp2_with fail;go_ret;exact fQ (by rw[HR.o]) dI.o
     have jK:=ai hxb;clear q1;go_wp2_with fail;refine(nO _ _ ho1).mono ?_;rintro r w1 ⟨rfl,rfl⟩;rw[pX.o];go_wp2_with fail;refine(J5 l[k].cond _ _ zq.o Em.o tX.o vF.o).mono ?_;rintro r w1 ⟨rfl,hx1⟩;rw[jK.o];have dI:=ai (gZ.o.trans hx1);have c7':=hx1.cell c7;have HU1:=ai (gK.mono hx1.sub _ _ HU.o);have q1:((d:Int) - 1)=((d - 1:Nat):Int):=by omega
     clear hx1 c0 c1 c2 c3 c4 c5 c6 c7;go_wp2_with fail;refine(IH.o l[k].gH _ _ _ (d - 1) w1 (by omega) Co Da.o (by omega) HU1.o Nh.o).mono ?_;rintro r w2 ⟨rfl,hx2⟩;have dN:=ai (dI.o.trans hx2);clear hx2 c7' q1;cases hbb:mh (d - 1) l[k].gH
     ·have HR:=ai (show R=false by
       rw[Ro.o,List.all_eq_false];exact⟨l[k],aD fq,by rw[Vq.o,hbb];simp⟩)
      clear hnb hxb;go_wp2_with fail;go_ret;exact fQ (by rw[HR.o]) dN.o
     have FO:=ai (show Tu d l[k]=true by rw[Vq.o,hnb,hxb,hbb];rfl);clear hnb hxb;go_wp2_with fail;go_roundw
     case rel =>
      refine⟨k+1,by go_num,by omega,fun j hj hjk=>?_,dN.o⟩;by_cases e:j=k
      ·subst e;exact FO.o
      exact mK.o j hj (by omega)
     case measure=>simp[intOf];omega
    have t1:=ah ((k:Int)<(n:Int));have HR:=ai (show R=true by
     rw[Ro.o,aP];intro x hx;obtain⟨j,hj,rfl⟩:=aW.1 hx;exact mK.o j hj (by have:=HN.o;omega))
    go_wp2_with fail;go_ret;exact fQ (by rw[HR.o]) gZ.o
theorem rB {w:World} {b:Nat} {v0 v1 v2 v3 v4 v5 v6 v7 v8 v9:Value} {t:TypeId} (h:w.heap[b]?=some (.cells #[v0,v1,v2,v3,v4,v5,v6,v7,v8,v9] t (0,0))) :
  w.cell? ⟨b,0,none⟩=some v0/\w.cell? ⟨b,1,none⟩=some v1/\w.cell? ⟨b,2,none⟩=some v2/\w.cell? ⟨b,3,none⟩=some v3/\w.cell? ⟨b,4,none⟩=some v4/\w.cell? ⟨b,5,none⟩=some v5/\w.cell? ⟨b,6,none⟩=some v6/\w.cell? ⟨b,7,none⟩=some v7/\w.cell? ⟨b,8,none⟩=some v8/\w.cell? ⟨b,9,none⟩=some v9/\(∀j,w.frozen? ⟨b,j,none⟩=false) :=
 ⟨bX h 0,bX h 1,bX h 2,bX h 3,bX h 4,bX h 5,bX h 6,bX h 7,bX h 8,bX h 9,fun j=>ie h j⟩
def cK.ok (c:cK):Prop:=c.name.size<=1000000000000000/\c.cond.fits/\c.cond.iT/\c.cond.size<=1000000000000000/\Nr c.gH/\mH c.gH<=1000000000000000
def cK.fit (c:cK):Prop:=c.name.size<=1000000000000000/\c.cond.fits/\c.cond.iT/\c.cond.vP/\c.gH.length<=1000000000000000/\nY c.gH
theorem cK.ok.fit {c:cK} (h:c.ok):c.fit:=⟨h.1,h.2.1,h.2.2.1,iY _ h.2.2.2.1,aV (ql _) h.2.2.2.2.2,xh _ h.2.2.2.2.1 h.2.2.2.2.2⟩
def axt (m ck:Int):Bool:=(decide (m=0)&&(ck==0))||(decide (0<m)&&decide (1<=ck)&&decide (ck<=m))
theorem SZ (c:cK) (v:fM) (w:World) (hc:ij w c v) (hok:c.fit) :
  Calls Tryz.prog 89 #[.agg #[ v.kind,.string v.name,v.x.op,.string v.x.name,.slice v.x.aw v.x.nw v.x.cw,v.x.lo,v.x.hi,.slice v.x.aa v.x.na v.x.ca,.slice v.au v.nu v.cu,v.ck]] w (cz (.bool (gQ c)) w):=by
 obtain⟨hk,hnm,hex,ZW,-,-,iV,ham⟩:=hc;obtain⟨ho1,ho2,ho3,ho4,ho5,Fi⟩:=hok;rw[hk,hnm,ham];have zq:=ai hex;have HWB:=ai iV;have HNU:=ai ZW;have tX:=ai ho2;have vF:=ai ho3;have Em:=ai ho4;have CG:=ai Fi;have aDf:v.nu<=1000000000000000:=by rw[ZW];exact ho5
 obtain⟨R,hR⟩:∃R,R=gQ c:=⟨_,rfl⟩
 rw[<-hR];have HR:=ai (show R=(decide (1<=c.kind)&&decide (c.kind<=10)&&gJ c.name&&eW c.cond&&(decide (c.gH.length=0)||((c.kind==3)&&decide (iK c.gH<=40)&&mh 16 c.gH))&&axt (ku c.kind) c.ck) by rw[hR];rfl);clear hk hnm hex ZW iV ham ho2 ho3 ho4 ho5 Fi hR;obtain⟨kind,name,cond,gH,ck⟩:=c;simp only at *;obtain⟨vk,vn,x,au,nu,cu,va⟩:=v;simp only at *;obtain⟨wa,cN⟩:∃wa,wa=w.alloc (.cells #[ kind,.string name,x.op,.string x.name,.slice x.aw x.nw x.cw,x.lo,x.hi,.slice x.aa x.na x.ca,.slice au nu cu,ck] 48):=⟨_,rfl⟩
 have gB:Ext w wa:=by rw[cN];exact(Tz _).alloc _
 have hb:wa.heap[w.heap.size]?=some (.cells #[ kind,.string name,x.op,.string x.name,.slice x.aw x.nw x.cw,x.lo,x.hi,.slice x.aa x.na x.ca,.slice au nu cu,ck] 48 (0,0)):=by rw[cN];exact bR w _
 have dm:=ai gB;have HB:=ai hb;clear gB hb;by_cases h1:kind<1
 ·have t1:=ag (kind<1) h1;have HF:=ai (show R=false by rw[HR.o];simp;intro h;omega);clear h1 cN;go_enter Tryz.func89,Tryz.ntmps89
  go_wp2_with fail;go_ret;exact fQ (by rw[HF.o]) ((Tz w).alloc _)
 have t1:=ah (kind<1) h1;by_cases h10:10<kind
 ·have t10:=ag (10<kind) h10;have HF:=ai (show R=false by rw[HR.o];simp;intro _ h;omega);clear h10 h1 cN;go_enter Tryz.func89,Tryz.ntmps89
  go_wp2_with fail;go_ret;exact fQ (by rw[HF.o]) ((Tz w).alloc _)
 have t10:=ah (10<kind) h10;have uk:=ag (1<=kind);have hk2:=ag (kind<=10);rw[uk,hk2,Bool.true_and,Bool.true_and] at HR;clear uk hk2 h1 h10;go_enter Tryz.func89,Tryz.ntmps89
 go_wp2_with fail;rw[<-cN];clear cN;refine(nO _ _ ho1).mono ?_;rintro r w1 ⟨rfl,rfl⟩;obtain⟨b0,b1,b2,b3,b4,b5,b6,b7,b8,b9,bf⟩:=rB HB.o;cases hnb:gJ name
 ·have HF:=ai (show R=false by rw[HR.o,hnb];rfl);go_wp2_with fail;go_ret;exact fQ (by rw[HF.o]) dm.o
 rw[hnb,Bool.true_and] at HR;clear hnb;go_wp2_with fail;refine(J5 cond _ _ (zq.o.ext dm.o) Em.o tX.o vF.o).mono ?_;rintro r w1 ⟨rfl,hx1⟩;have dI:=ai (dm.o.trans hx1);have gG:=ai (hx1.blk HB.o);clear hx1 b0 b1 b2 b3 b4 b5 b6 b7 b8 b9 bf HB;obtain⟨b0,b1,b2,b3,b4,b5,b6,b7,b8,b9,bf⟩:=rB gG.o;cases hxb:eW cond
 ·have HF:=ai (show R=false by rw[HR.o,hxb];rfl);go_wp2_with fail;go_ret;exact fQ (by rw[HF.o]) dI.o
 rw[hxb,Bool.true_and] at HR;clear hxb;obtain⟨U,hU⟩:∃U,U=(decide (gH.length=0)||((kind==3)&&decide (iK gH<=40)&&mh 16 gH)):=⟨_,rfl⟩
 rw[<-hU] at HR;have HU:=ai hU;clear hU;go_upto_region 3 with fail
 go_cut [44] (fun s44 wx=>s44=.bool (!U)/\Ext w1 wx)
 case first =>
  by_cases h0:nu=0
  ·have t0:=ah ((0:Int)<(nu:Int));have HF:=ai (show U=true by rw[HU.o,<-HNU.o,h0];simp);go_wp2_with fail
   go_meet
   case rel=>exact⟨by rw[HF.o];rfl,Tz _⟩
  have t0:=ag ((0:Int)<(nu:Int));have hl0:=ah (gH.length=0) (by have:=HNU.o;omega);rw[hl0,Bool.false_or] at HU;clear hl0;by_cases h3:kind=3
  ·have t3:(kind != 3)=false:=by simp[h3]
   have e3:(kind==3)=true:=by simp[h3]
   rw[e3,Bool.true_and] at HU;clear e3 h3;go_wp2_with fail;refine(amw (mH gH) gH _ _ _ w1 (aU _) aDf CG.o (gK.mono dI.o.sub _ _ HWB.o) HNU.o).mono ?_;rintro r w2 ⟨rfl,rfl⟩;obtain⟨M,hM⟩:∃M,M=(min (iK gH) 41:Nat):=⟨_,rfl⟩
   rw[<-hM];have hMl:M<=41:=by omega
   have si:=ai (show decide (iK gH<=40)=decide (M<=40) by rw[hM];congr 1;exact propext ⟨fun h=>by omega,fun h=>by omega⟩);rw[si.o] at HU;clear hM si;by_cases h40:M<=40
   ·have t40:=ah ((40:Int)<(M:Int));have e40:=ag (M<=40) h40;rw[e40,Bool.true_and] at HU;clear e40;go_wp2_with fail;refine(amx (mH gH) gH _ _ _ 16 w1 (aU _) aDf CG.o (by omega) (gK.mono dI.o.sub _ _ HWB.o) HNU.o).mono ?_;rw[<-HU.o];rintro r w2 ⟨rfl,hx2⟩;have dN:=ai hx2;clear hx2;go_wp2_with fail
    go_meet
    case rel=>exact⟨rfl,dN.o⟩
   have t40:=ag ((40:Int)<(M:Int));have HF:=ai (show U=false by rw[HU.o,bP h40];rfl);go_wp2_with fail
   go_meet
   case rel=>exact⟨by rw[HF.o];rfl,Tz _⟩
  have t3:(kind != 3)=true:=by simp[h3]
  have HF:=ai (show U=false by rw[HU.o];simp[h3]);clear h3;go_wp2_with fail
  go_meet
  case rel=>exact⟨by rw[HF.o];rfl,Tz _⟩
 case rest =>
  obtain⟨rfl,hx2⟩:=hcut;have dN:=ai (dI.o.trans hx2);have fY:=ai (hx2.blk gG.o);clear b0 b1 b2 b3 b4 b5 b6 b7 b8 b9 bf hx2 gG;obtain⟨b0,b1,b2,b3,b4,b5,b6,b7,b8,b9,bf⟩:=rB fY.o;cases hUc:U
  ·have HF:=ai (show R=false by rw[HR.o,hUc];rfl);go_wp2_with fail;go_ret;exact fQ (by rw[HF.o]) dN.o
  rw[hUc,Bool.true_and] at HR;clear hUc;go_wp2_with fail;refine(acH _ _).mono ?_;rintro r w3 ⟨rfl,rfl⟩;generalize ku kind=M at *;go_wp2_with fail
  all_goals (go_ret;exact fQ (by rw[HR.o,axt];simp_all<;>omega) dN.o)
def RE:Nat->Nat|0=>0|1=>1|d+2=>3*RE (d+1)+1
theorem acz:(gi.all fun l=>l.all fun a=>decide (a.name.size<=1000)&&(decide (a.words.length<=1000)&&a.words.all fun x=>decide (x.size<=1000)))=true:=by decide +kernel
theorem XO:(l:List Ex)->(∀x∈l,x.fits)->kE l
 | [],_=>by unfold kE;trivial
 | e::r,h=>by unfold kE;exact⟨h e (by simp),XO r fun x hx=>h x (by simp[hx])⟩
theorem Fm:(l:List Ex)->(∀x∈l,x.iT)->mR l
 | [],_=>by unfold mR;trivial
 | e::r,h=>by unfold mR;exact⟨h e (by simp),Fm r fun x hx=>h x (by simp[hx])⟩
theorem ahE:(l:List Ex)->(∀x∈l,qT x=true)->Eb l=true
 | [],_=>by unfold Eb;rfl
 | e::r,h=>by unfold Eb;rw[h e (by simp),ahE r fun x hx=>h x (by simp[hx])];rfl
theorem afd {k:Nat}:(l:List Ex)->(∀x∈l,x.size<=k)->sizes l<=l.length*k
 | [],_=>by simp[sizes]
 | e::r,h=>by
  have h1:=h e (by simp);have h2:=afd r fun x hx=>h x (by simp[hx])
  simp only[sizes,List.length_cons,Nat.succ_mul];omega
structure Ud (d:Nat) (e:Ex):Prop where
 fits:e.fits
 iT:e.iT
 size:e.size<=RE d
 bare:qT e=true
theorem aEC (d:Nat):1<=RE (d+1):=by cases d with|zero=>exact aU _|succ d=>simp only[RE];omega
theorem aAr {attrs:List Attr} (hs:attrs∈gi) {names:ZB} (hn:∀x∈names,x.size<=1000) {e:Ex} (h:acp attrs names e) (d:Nat):Ud (d+1) e:=by
 have hat:∀a∈attrs,_:=fun a ha=>aP.1 (aP.1 acz attrs hs) a ha
 obtain⟨op,name,words,lo,hi,args⟩:=e;obtain⟨ha,h⟩:=h;simp only[Ex.args] at ha;subst ha;simp only[Ex.op,Ex.name,Ex.words,Ex.lo,Ex.hi] at h;have key:name.size<=1000/\words.length<=1000/\∀x∈words,x.size<=1000:=by
  rcases h with ⟨h1,h2,h3,h4,h5⟩|⟨h1,h2,h3,h4,h5⟩|⟨h1,h2,h3,h4,h5⟩|⟨h1,⟨a,haa,hk,hnm,hne,hnd,hin⟩,h4,h5⟩|⟨h1,⟨a,haa,hk,hnm,sA,hl2,hl3⟩,h3⟩
  ·subst h2 h3;exact⟨by decide,by simp,by simp⟩
  ·subst h2 h3;exact⟨by decide,by simp,by simp⟩
  ·subst h3;refine⟨?_,by simp,by simp⟩;rcases h2 with h2|⟨a,haa,_,h2⟩
   ·exact hn _ h2
   have:=hat a haa;simp only[aF,aH] at this;rw[h2];exact this.1
  ·have hq:=hat a haa;simp only[aF,aH,aP] at hq;exact⟨by rw[hnm];exact hq.1,aV (List.Nodup.length_le_of_subset hnd (fun x hx=>hin x hx)) hq.2.1,fun x hx=>hq.2.2 x (hin x hx)⟩
  have hq:=hat a haa;simp only[aF,aH] at hq;subst h3;exact⟨by rw[hnm];exact hq.1,by simp,by simp⟩
 obtain⟨k1,k2,k3⟩:=key;have hb:=aEC d;refine⟨?_,?_,?_,?_⟩
 ·unfold Ex.fits;exact⟨by omega,fun x hx=>by have:=k3 x hx;omega,by unfold kE;trivial⟩
 ·unfold Ex.iT;exact⟨by omega,by unfold mR;trivial⟩
 ·simp[Ex.size,sizes];omega
 unfold qT;simp[Eb]
theorem yC {attrs:List Attr} (hs:attrs∈gi) {names:ZB} (hn:∀x∈names,x.size<=1000):(d:Nat)->(e:Ex)->oX attrs names d e->Ud d e
 | 0,e,h=>h.elim
 | d+1,e,h=>by
  rcases h with h|⟨hl,h1,h2,h3,h4,h⟩
  ·exact aAr hs hn h d
  have ih:=fun x hx=>yC hs hn d x (h x hx)
  have hne:e.args≠[]:=by intro e0;rw[e0] at hl;simp at hl
  obtain⟨d,rfl⟩:∃k,d=k+1:=by
   cases d with
   | succ k=>exact⟨k,rfl⟩
   | zero =>
    obtain⟨x,hx⟩:=List.exists_mem_of_ne_nil _ hne;exact(h x hx).elim
  have h3l:e.args.length<=3:=by omega
  have hop:e.op≠3:=by omega
  clear hl;obtain⟨op,name,words,lo,hi,args⟩:=e;simp only[Ex.args,Ex.name,Ex.words,Ex.op] at *;subst h1 h2;refine⟨?_,?_,?_,?_⟩
  ·unfold Ex.fits;exact⟨by show (0:Nat)<=_;omega,by simp,XO _ fun x hx=>(ih x hx).fits⟩
  ·unfold Ex.iT;exact⟨by simp,Fm _ fun x hx=>(ih x hx).iT⟩
  ·have:=afd args fun x hx=>(ih x hx).size
   have h5:args.length*RE (d+1)<=3*RE (d+1):=Nat.mul_le_mul_right _ h3l;simp only[Ex.size,RE];omega
  unfold qT;rw[ahE _ fun x hx=>(ih x hx).bare];simp[hop]
def GrG (wr W:World):Prop:=Ext wr W
def Lu (_:Nat) (W W':World):Prop:=Ext W W'
def uz (R:Nat->Value->World->Prop) (j:Nat) (u:Value) (W:World):Prop:=R j u W
theorem jx {P:Program} {ops:Array Oper} {Q:Exit->Act->World->Prop} {a:Act} {w:World} {i:Nat} {o:Oper} (ho:ops[i]?=some o) (h:wpList P ops Q [o] a w):wpOp P ops Q i (fun a w=>Q .normal a w) a w:=by
 unfold wpOp;rw[ho];exact h
theorem dA {t e:TypeId} {z:Value} {size bytes:Nat} (E:uq t e z size bytes) {ops:Array Oper} {rest:List Oper} {o:Oper} {a:Act} {Q:Exit->Act->World->Prop} {X:World} {arr:Array Value} {tt:TypeId}
  (hgd:o.guard=none) (s x:Operand) (ho:o.op=.call { callee:=.builtin .append,args:=#[s,x],argTypes:=#[t,t] }) (base:Nat) (v:Value) (n:Nat) (xs:List Value) (hs:a.eval s=v) (hown:X.ownsRow base e size v n xs)
  (B m c:Nat) (hx:a.eval x=.slice (some ⟨B,0,none⟩) m c) (hB:B=X.heap.size) (hl:arr.size=m*size) (h1:∀u∈arr.toList,u.oneCell'=true) (hm:n+m<=maxLen) (hb:(n+m)*bytes<=140737488355328) (hbase:base<=X.heap.size)
  (h:∀v' w',w'.ownsRow base e size v' (n+m) (xs++arr.toList)->ct (rowOf v) X w'->(∀k,v'.ownBlock=some k->v.ownBlock=some k\/X.heap.size<=k)->wpList Tryz.prog ops Q rest (a.put o.dst v') w'):wpList Tryz.prog ops Q (o::rest) a (X.alloc (.cells arr tt)):=by
 subst hB;obtain⟨i,hi,hz,hsz,hby⟩:=info_parts E.info;refine wpList_append_own_at (w:=X.alloc (.cells arr tt)) hgd s x t ho base e i z size bytes E.ht hi hz hsz hby E.hzs E.hsz v n xs hs (hown.alloc _) ⟨X.heap.size,0,none⟩ m c arr.toList hx (by simpa using hl) ?_ h1 hm hb (by simp;omega) ?_
 ·intro j u hu;have:(⟨X.heap.size,0,none⟩:Addr).add j=⟨X.heap.size,j,none⟩:=by unfold Addr.add;split<;>simp_all
  rw[this,World.cell?_alloc_at _ _ _ _ rfl];simpa using hu
 intro v' w' h2 h3 _ h5;refine h v' w' h2 ((((Tz X).alloc _).cR _).trans (eX h3) fun x hx=>aoX hx) fun k hk=>?_
 rcases h5 with e|e
 ·exact aoX (e ▸ hk)
 rw[e] at hk;simp at hk;exact a4Z (by omega)
theorem ct.weak {N M:ZN} {w w':World} (h:ct N w w') (hs:∀x∈N,x∈M):ct M w w':=⟨h.os,h.tape,h.output,h.size,fun k hk hn=>h.block k hk fun hm=>hn (hs k hm)⟩
theorem eP {w:World} {base:Nat} {e:TypeId} {size:Nat} {v:Value} {n:Nat} {xs:List Value} (h:w.ownsRow base e size v n xs):∃a c,v=.slice a n c:=by
 rcases h.2 with ⟨rfl,rfl⟩|⟨g,cap,cur,rfl,_⟩
 ·exact⟨none,0,rfl⟩
 exact⟨_,cap,rfl⟩
def Yj (w:World) (x:Wb) (v:Cz):Prop:=v.name=x.name/\dw w x.cond v.x.val/\v.nu=x.gH.length/\v.nu<=v.cu/\ny v.au v.cu/\gK w x.gH v.au
theorem Yj.mono {w w':World} {x:Wb} {v:Cz} (h:Yj w x v) (hs:Sub w w'):Yj w' x v:=⟨h.1,h.2.1.mono hs,h.2.2.1,h.2.2.2.1,h.2.2.2.2.1,gK.mono hs _ _ h.2.2.2.2.2⟩
def aaK (w:World) (l:List Wb) (vs:List Cz):Prop:=l.length=vs.length/\∀i (h1:i<l.length) (h2:i<vs.length),Yj w l[i] vs[i]
theorem aaK.mono {w w':World} {l:List Wb} {vs:List Cz} (h:aaK w l vs) (hs:Sub w w'):aaK w' l vs:=⟨h.1,fun i h1 h2=>(h.2 i h1 h2).mono hs⟩
theorem aaK.nil (w:World):aaK w [] []:=⟨rfl,fun i h=>by simp at h⟩
theorem aaK.snoc {w:World} {l:List Wb} {vs:List Cz} {c:Wb} {v:Cz} (h:aaK w l vs) (hc:Yj w c v):aaK w (l++[c]) (vs++[v]):=by
 refine⟨by simp[h.1],fun i h1 h2=>?_⟩;by_cases hi:i<l.length
 ·have hi2:i<vs.length:=by rw[<-h.1];exact hi
  simp only[bD hi,bD hi2];exact h.2 i hi hi2
 have e1:i=l.length:=by simp at h1;omega
 subst e1;simp only[bK (aU _),bK (show vs.length<=l.length by rw[h.1];exact aU _),Nat.sub_self,bB];simpa[h.1] using hc
theorem aMK:uq 46 53 (.agg #[.string ⟨#[]⟩,.int .i64 0,.string ⟨#[]⟩,.slice none 0 0,.int .i64 0,.int .i64 0,.slice none 0 0,.slice none 0 0]) 8 128:=⟨by kernel_rfl,by kernel_rfl,rfl,by decide⟩
theorem aBg {w:World} {M:ZN} {base:Nat} {v:Value} {l:List Wb} {vs:List Cz} (h:w.ownsRow base 53 8 v l.length (vs.flatMap Cz.cells)) (hM:∀k,v.ownBlock=some k->k∉M) (hR:aaK (mask w M) l vs) :
  ∃a c,v=.slice a l.length c/\l.length<=c/\ny a c/\gK (mask w M) l a:=by
 rw[hR.1] at h;obtain⟨a,c,rfl,hr⟩:=eE.iZ Cz.len h;refine⟨a,c,by rw[hR.1],by rw[hR.1];exact hr.2.1,hr.2.2.1,?_⟩
 match l,hR with
 | [],_=>unfold gK;trivial
 | e::r,hR =>
  obtain⟨b,off,rfl,h1⟩:=hr.2.2.2 0 (by rw[<-hR.1];simp);refine gK.of (e::r) off vs hR.1 fun i h3 h4=>?_
  obtain⟨q1,q2,q3,q4,q5,q6⟩:=hR.2 i h3 h4;refine⟨q1,fun j hj=>?_,q2,q3,q4,q5,q6⟩;obtain⟨b',off',e1,h5⟩:=hr.2.2.2 i h4;simp only[a42,Addr.mk.injEq,and_true] at e1;obtain⟨rfl,rfl⟩:=e1;rw[eA,bL (hM _ rfl),h5 j hj]
theorem aoQ:(l:List Wb)->(n:BA)->(c:Ex)->(u:List Wb)->mH (l++[.mk n c u])=mH l+1+mH u
 | [],n,c,u=>by simp[mH]
 | .mk n' c' u'::r,n,c,u=>by rw[a48,mH,mH,aoQ r n c u];omega
theorem Kk {x:BA} (h:gJ x=true):x.size<=16:=by
 simp only[gJ,kM,aF,aH] at h;exact h.1.1.1.1.2
def Rm (attrs:List Attr) (names:ZB):List Wb->Prop
 | []=>True
 | .mk n c u::r=>gJ n=true/\oX attrs names 2 c/\Rm attrs names u/\Rm attrs names r
theorem Rm.snoc {attrs:List Attr} {names:ZB}:(l:List Wb)->(n:BA)->(c:Ex)->(u:List Wb)->Rm attrs names l->gJ n=true->oX attrs names 2 c->Rm attrs names u->Rm attrs names (l++[.mk n c u])
 | [],n,c,u,_,h1,h2,h3=>by simp only[List.nil_append,Rm];exact⟨h1,h2,h3,trivial⟩
 | .mk n' c' u'::r,n,c,u,h,h1,h2,h3=>by
  rw[Rm] at h;rw[a48,Rm];exact⟨h.1,h.2.1,h.2.2.1,Rm.snoc r n c u h.2.2.2 h1 h2 h3⟩
theorem Rm.ok {attrs:List Attr} (hs:attrs∈gi) {names:ZB} (hn:∀x∈names,x.size<=1000):(l:List Wb)->Rm attrs names l->Nr l
 | [],_=>by unfold Nr;trivial
 | .mk n c u::r,h=>by
  rw[Rm] at h;have h1:=yC hs hn 2 c h.2.1;have h2:=h1.size;have h3:=Kk h.1;simp only[RE] at h2;rw[Nr];exact⟨by omega,h1.fits,h1.iT,by omega,Rm.ok hs hn u h.2.2.1,Rm.ok hs hn r h.2.2.2⟩
def ar6:Nat->Nat|0=>0|d+1=>2*(1+ar6 d)
def awp (attrs:List Attr) (names:ZB) (d:Nat) (w0:World) (bd:Nat) (M:ZN) (w:World) (e:Ending) (w':World):Prop:=∃l a n c,e=.returned (.slice a n c)/\n=l.length/\n<=c/\ny a c/\gK (mask w' M) l a/\Rm attrs names l/\mH l<=ar6 d/\cg w0 w' bd/\ct [bd] w w'
def GnB (bd q:Nat) (N:ZN) (k:Nat) (W W':World):Prop:=ct (if k=q then bd::N else [bd]) W W'
def GnL (w0 wr:World) (bd q:Nat) (N:ZN) (L:ZN) (W:World):Prop:=cg w0 W bd/\ct (bd::N) wr W/\(q∉L->ct [bd] wr W)
theorem gnl {w0 wr W W':World} {bd q:Nat} {N L:ZN} (h:cg w0 W bd/\ct [bd] wr W) (hd:cg w0 W' bd) (hc:ct [bd] W W'):GnL w0 wr bd q N L W' :=
 ⟨hd,(h.2.then hc).weak (fun y hy=>by simp at hy;simp[hy]),fun _=>h.2.then hc⟩
theorem cP {W W':World} {bd:Nat} {N:ZN} (h:ct [bd] W W') (hb:bd∈N):Sub (mask W N) (mask W' N):=cQ fun k hk hn=>⟨hn,h.block k hk fun hm=>hn (by simp only[aG] at hm;rw[hm];exact hb)⟩
def BkL (attrs:List Attr) (names:ZB) (w0 w:World) (d bd bw:Nat) (M:ZN) (sa:OA) (sn sc:Nat) (v k:Value) (wr:World):Prop:=∃(l:List Wb) (vs:List Cz) (q:Int),k=.int .i64 q/\q+l.length<=2/\0<=q/\wr.ownsRow (bw+1) 53 8 v l.length (vs.flatMap Cz.cells)/\aaK (mask wr (bd::rowOf v++M)) l vs /\
 Rm attrs names l/\mH l<=l.length*(1+ar6 d)/\cg w0 wr bd/\ct [bd] w wr/\wr.heap[bw]?=some (.cells #[.slice sa sn sc] 24 (0,0))
end Go.Proofs.YtefjomofjejklaaGreatDoor
