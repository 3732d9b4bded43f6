/- Joined. -/
import Derived.Test.YtefjomofjejklaaGreatDoorDs09
namespace Go.Proofs.YtefjomofjejklaaGreatDoor
set_option maxRecDepth 100000
set_option maxHeartbeats 32000000
open Go.RowKit
def vI (s:List Attr) (l:List cK) (x:Wb):Int:=if dr s l x.cond≠0 then dr s l x.cond else fG s l x.gH
theorem auR (s:List Attr) (l:List cK) (n:BA) (c:Ex) (u:List Wb):vI s l (.mk n c u)=if dr s l c≠0 then dr s l c else fG s l u:=rfl
theorem MY (s:List Attr) (l:List cK) (x:Wb) (r:List Wb):fG s l (x::r)=if vI s l x≠0 then vI s l x else fG s l r:=by
 obtain⟨n,c,u⟩:=x;rw[fG,auR];by_cases hn:dr s l c=0
 ·simp[hn]
 simp[hn]
theorem WI {s:List Attr} {l:List cK}:(r:List Wb)->(∀j (h:j<r.length),vI s l r[j]=0)->fG s l r=0
 | [],_=>by rw[fG]
 | x::r,h=>by
  have h0:vI s l x=0:=h 0 (by simp);have hr:=WI r fun j hj=>by have:=h (j+1) (by simpa using hj);simpa using this
  rw[MY,h0,hr];simp
theorem QD {s:List Attr} {l:List cK}:(r:List Wb)->(k:Nat)->(hk:k<r.length)->vI s l r[k]≠0->(∀j (h:j<k),vI s l (r[j]'(by omega))=0)->fG s l r=vI s l r[k]
 | [],k,hk,_,_=>by simp at hk
 | x::r,0,_,h,_=>by
  have h':vI s l x≠0:=h
  show fG s l (x::r)=vI s l x
  rw[MY,bM h']
 | x::r,k+1,hk,h,h0=>by
  have h1:vI s l x=0:=h0 0 (by omega);have hr:=QD r k (by simpa using hk) (by simpa using h) fun j hj=>by have:=h0 (j+1) (by omega);simpa using this
  simp only[List.getElem_cons_succ];rw[MY,h1,hr];simp
def UW (l:List cK) (x:Wb):Bool:=decide (2000<dV l x.cond)||eH l x.gH
theorem Ua (l:List cK):(r:List Wb)->eH l r=r.any (UW l)
 | []=>by simp[eH]
 | .mk n c u::r=>by rw[eH,Ua l r];rfl
theorem afw (s:List Attr) (l:List cK) (hf:∀x∈s,x.fits) (hsl:s.length<=1000000000000000) (a:OA) (n c:Nat) (hn:n<=1000000000000000) (m:Nat):∀(r:List Wb) (ra:OA) (rn rc:Nat) (sv:Value) (w:World),mH r<m->m<=1000000000000000->Nr r->dB w s sv->cZ w l a n c->gK w r ra->rn=r.length ->
  Calls Tryz.prog 93 #[sv,.slice a n c,.slice ra rn rc] w (cz (.int .i64 (fG s l r)) w):=by
 induction m with
 | zero=>intro r ra rn rc sv w h;omega
 | succ m ih =>
  intro r ra rn rc sv w hm hM hok hs hl hd pq;obtain⟨sa,sn,sc,rfl,B6⟩:=hs.slice;have hrl:=ql r;have aQk:rn<=1000000000000000:=by omega
  have HS:=ai hs;have HL:=ai hl;have HD:=ai hd;have IG:=ai pq;have zm:=ai hok;have IH:=ai ih;have HF:=ai hf;clear hs hl hd pq hok ih B6 hf;go_enter Tryz.func93,Tryz.ntmps93
  go_wp2_with fail;go_loopw [7] (fun t wr=>∃k:Nat,t=.int .i64 k/\k<=rn/\(∀j (h:j<r.length),j<k->vI s l r[j]=0)/\wr.heap[w.heap.size]?=some (.cells #[.slice sa sn sc] 24 (0,0))/\Ext w wr) (fun t _=>rn - (intOf t).toNat)
  case atStart=>exact⟨0,rfl,by omega,fun j _ h=>by omega,bR w _,(Tz w).alloc _⟩
  case round =>
   obtain⟨k,rfl,hk,hno,j6,lM⟩:=hrel;have jH:=ai hno;have jm:=ai j6;have gZ:=ai lM;obtain⟨d0,df⟩:=dO j6;clear hno j6 lM;by_cases hkn:k<rn
   ·have fq:k<r.length:=by have:=IG.o;omega
    have t1:=ag ((k:Int)<(rn:Int));obtain⟨b,off,rfl,v,hv0,hrow,hv2,hv3,hv4,hv5,hv6⟩:=gK.at r _ (gK.mono gZ.o.sub _ _ HD.o) k fq;obtain⟨c0,c1,c2,c3,c4,c5,c6,c7⟩:=hrow.eight;obtain⟨ho1,ho2,ho3,ho4,ho5⟩:=alU r zm.o k fq;have hwn:=zw r k fq;have HUU:=ai hv6;have Nh:=ai hv3;have zq:=ai hv2;have vF:=ai ho3;have Da:=ai ho5;have Sc:(0:Int)<=(k:Int):=by omega
    have ti1:(k:Int)<(rn:Int):=by omega
    clear hrow hv0 hv2 hv3 hv4 hv5 hv6 ho2 ho3 ho5 ho1;go_wp2_with fail
    go_still_tail 7,(by kernel_rfl)
    change wpList _ _ _ _ _ wr.drew
    have hx2:Ext wr wr.drew:=(Tz wr).drew;generalize wr.drew=w2 at hx2 ⊢;have dN:=ai (gZ.o.trans hx2);have fY:=ai (hx2.blk jm.o);have asN:=ai (zq.o.ext hx2);have c7':=hx2.cell c7;have HU2:=ai (gK.mono hx2.sub _ _ HUU.o);clear hx2 d0 df c0 c1 c2 c3 c4 c5 c6 c7;go_wp2_with fail;refine(Ho s l HF.o hsl a n c hn 1000000000000000 r[k].cond _ _ w2 ho4 (by omega) vF.o (HS.o.ext dN.o) (HL.o.ext dN.o) asN.o).mono ?_;rintro e w3 ⟨rfl,hx3⟩;have dS:=ai (dN.o.trans hx3);have nU:=ai (hx3.blk fY.o);obtain⟨d0,df⟩:=dO (hx3.blk fY.o);have c73:=hx3.cell c7';have HU3:=ai (gK.mono hx3.sub _ _ HU2.o);clear hx3 c7';by_cases hz:dr s l r[k].cond=0
    ·have tz:(dr s l r[k].cond != 0)=false:=by simp[hz]
     have HIE:=ai (show vI s l r[k]=fG s l r[k].gH by unfold vI;rw[bL (by simp[hz])]);clear hz;go_wp2_with fail
     go_still_tail 7,(by kernel_rfl)
     change wpList _ _ _ _ _ w3.drew
     have gV:Ext w3 w3.drew:=(Tz w3).drew;generalize w3.drew=w4 at gV ⊢;have jl:=ai (dS.o.trans gV);have qD:=ai (gV.blk nU.o);have HU4:=ai (gK.mono gV.sub _ _ HU3.o);clear gV d0 df c73;go_wp2_with fail;refine(IH.o r[k].gH _ _ _ _ w4 (by omega) (by omega) Da.o (HS.o.ext jl.o) (HL.o.ext jl.o) HU4.o Nh.o).mono ?_;rintro e w5 ⟨rfl,dh⟩;have gW:=ai (jl.o.trans dh);have uo:=ai (dh.blk qD.o);clear dh;by_cases hy:fG s l r[k].gH=0
     ·have ty:(fG s l r[k].gH != 0)=false:=by simp[hy]
      have HY:=ai hy;clear hy;go_wp2_with fail;go_roundw
      case rel =>
       refine⟨k+1,by go_num,by omega,fun j hj hjk=>?_,uo.o,gW.o⟩;by_cases e':j=k
       ·subst e';rw[HIE.o];exact HY.o
       exact jH.o j hj (by omega)
      case measure=>simp[intOf];omega
     have ty:(fG s l r[k].gH != 0)=true:=by simp[hy]
     have HR:=ai (show fG s l r=fG s l r[k].gH by rw[<-HIE.o];exact QD r k fq (by rw[HIE.o];exact hy) fun j hj=>jH.o j (by omega) hj);clear hy;go_wp2_with fail;go_ret;exact cD (by rw[HR.o]) gW.o
    have tz:(dr s l r[k].cond != 0)=true:=by simp[hz]
    have HIE:vI s l r[k]=dr s l r[k].cond:=by unfold vI;rw[bM hz]
    have HR:=ai (show fG s l r=dr s l r[k].cond by rw[<-HIE];exact QD r k fq (by rw[HIE];exact hz) fun j hj=>jH.o j (by omega) hj);clear hz HIE;go_wp2_with fail;go_ret;exact cD (by rw[HR.o]) dS.o
   have t1:=ah ((k:Int)<(rn:Int));have HR:=ai (show fG s l r=0 from WI r fun j hj=>jH.o j hj (by have:=IG.o;omega));go_wp2_with fail;go_ret;exact cD (by rw[HR.o]) gZ.o
theorem abk (l:List cK) (a:OA) (n c:Nat) (hn:n<=1000000) (hsz:∀x∈l,x.cond.size<=1000000000000000) (m:Nat):∀(r:List Wb) (ra:OA) (rn rc:Nat) (w:World),mH r<m->m<=1000000000000000->Nr r->cZ w l a n c->gK w r ra->rn=r.length ->
  Calls Tryz.prog 96 #[.slice a n c,.slice ra rn rc] w (cz (.bool (eH l r)) w):=by
 induction m with
 | zero=>intro r ra rn rc w h;omega
 | succ m ih =>
  intro r ra rn rc w hm hM hok hl hd pq;have hrl:=ql r;have aQk:rn<=1000000000000000:=by omega
  have HL:=ai hl;have HD:=ai hd;have IG:=ai pq;have zm:=ai hok;have IH:=ai ih;have tR:=ai hsz;obtain⟨R,hR⟩:∃R,R=eH l r:=⟨_,rfl⟩
  rw[<-hR];have HR:=ai (show R=r.any (UW l) by rw[hR];exact Ua l r);clear hl hd pq hok ih hR hsz;go_enter Tryz.func96,Tryz.ntmps96
  go_wp2_with fail;go_loopw [5] (fun t wr=>∃k:Nat,t=.int .i64 k/\k<=rn/\(∀j (h:j<r.length),j<k->UW l r[j]=false)/\Ext w wr) (fun t _=>rn - (intOf t).toNat)
  case atStart=>exact⟨0,rfl,by omega,fun j _ h=>by omega,Tz _⟩
  case round =>
   obtain⟨k,rfl,hk,hno,lM⟩:=hrel;have jH:=ai hno;have gZ:=ai lM;clear hno lM;by_cases hkn:k<rn
   ·have fq:k<r.length:=by have:=IG.o;omega
    have t1:=ag ((k:Int)<(rn:Int));obtain⟨b,off,rfl,v,hv0,hrow,hv2,hv3,hv4,hv5,hv6⟩:=gK.at r _ (gK.mono gZ.o.sub _ _ HD.o) k fq;obtain⟨c0,c1,c2,c3,c4,c5,c6,c7⟩:=hrow.eight;obtain⟨ho1,ho2,ho3,ho4,ho5⟩:=alU r zm.o k fq;have hwn:=zw r k fq;have HUU:=ai hv6;have Nh:=ai hv3;have zq:=ai hv2;have Da:=ai ho5;clear hrow hv0 hv2 hv3 hv4 hv5 hv6 ho2 ho3 ho5 ho1;go_wp2_with fail;refine(uC l a n c hn tR.o r[k].cond _ wr ho4 (HL.o.ext gZ.o) zq.o).mono ?_;rintro e w3 ⟨rfl,hx3⟩;have dS:=ai (gZ.o.trans hx3);have c73:=hx3.cell c7;have HU3:=ai (gK.mono hx3.sub _ _ HUU.o);clear hx3 c0 c1 c2 c3 c4 c5 c6 c7;have HIL:=ai (show UW l r[k]=(decide (2000<dV l r[k].cond)||eH l r[k].gH) from rfl);obtain⟨E,hE⟩:∃E,E=dV l r[k].cond:=⟨_,rfl⟩
    rw[<-hE];rw[<-hE] at HIL;clear hE;by_cases hz:2000<E
    ·have tz:=ag ((2000:Int)<(E:Int));have HF:=ai (show R=true by
      rw[HR.o,List.any_eq_true];exact⟨r[k],aD fq,by rw[HIL.o,bO hz];rfl⟩)
     go_wp2_with fail;go_ret;exact fQ (by rw[HF.o]) dS.o
    have tz:=ah ((2000:Int)<(E:Int));rw[bP hz,Bool.false_or] at HIL;go_wp2_with fail;refine(IH.o r[k].gH _ _ _ w3 (by omega) (by omega) Da.o (HL.o.ext dS.o) HU3.o Nh.o).mono ?_;rintro e w5 ⟨rfl,dh⟩;have gW:=ai (dS.o.trans dh);clear dh c73;cases hb:eH l r[k].gH
    ·have FO:=ai (HIL.o.trans hb);clear hb;go_wp2_with fail;go_roundw
     case rel =>
      refine⟨k+1,by go_num,by omega,fun j hj hjk=>?_,gW.o⟩;by_cases e':j=k
      ·subst e';exact FO.o
      exact jH.o j hj (by omega)
     case measure=>simp[intOf];omega
    have HF:=ai (show R=true by
     rw[HR.o,List.any_eq_true];exact⟨r[k],aD fq,by rw[HIL.o,hb]⟩)
    go_wp2_with fail;go_ret;exact fQ (by rw[HF.o]) gW.o
   have t1:=ah ((k:Int)<(rn:Int));have HF:=ai (show R=false by
    rw[HR.o,List.any_eq_false];intro x hx;obtain⟨j,hj,rfl⟩:=aW.1 hx;have:=jH.o j hj (by have:=IG.o;omega);simp[this])
   go_wp2_with fail;go_ret;exact fQ (by rw[HF.o]) gZ.o
structure RH (l:List uW) (o:ZN):Prop where
 nodup:o.Nodup
 sub:∀i∈o,iD l i=true
 after:After l o
theorem RH.start (l:List uW):RH l []:=⟨List.nodup_nil,by simp,fun p i h=>by simp at h⟩
theorem RH.snoc {l:List uW} {o:ZN} {p:Nat} (h:RH l o) (hd:iD l p=true) (hp:p∉o) (hm:mY l o p=[]):RH l (o++[p]) where
 nodup:=List.nodup_append.2 ⟨h.nodup,by simp,fun a ha b hb e=>hp (by simp at hb;rw[<-hb,<-e];exact ha)⟩
 sub i hi:=by
  rcases aN.1 hi with h1|h1
  ·exact h.sub i h1
  simp at h1;rw[h1];exact hd
 after:=h.after.snoc hm
theorem RH.le {l:List uW} {o:ZN} (h:RH l o):o.length<=lY l:=vS _ _ h.nodup fun i hi=>Dv.2 (h.sub i hi)
theorem RH.lt {l:List uW} {o:ZN} {p:Nat} (h:RH l o) (hd:iD l p=true) (hp:p∉o):o.length<lY l:=by
 have:=vS (p::o) ((List.range l.length).filter (iD l)) (List.nodup_cons.2 ⟨hp,h.nodup⟩) (fun i hi=>by
  rcases bz.1 hi with rfl|hi
  ·exact Dv.2 hd
  exact Dv.2 (h.sub i hi))
 simp only[List.length_cons] at this;unfold lY;omega
theorem RH.done {l:List uW} {o:ZN} (h:RH l o) (ha:∀i,iD l i=true->i∈o):Yi l o:=⟨h.nodup,fun i=>⟨h.sub i,ha i⟩,h.after⟩
theorem RH.stuck {l:List uW} {o:ZN} (hs:∀i,iD l i=true->i∉o->mY l o i≠[]) {p:Nat} (hd:iD l p=true) (hp:p∉o):¬vZ l:=by
 rintro⟨q,hq⟩;have key:∀(p i:Nat),q[p]?=some i->i∈o:=by
  intro p;induction p using Nat.strongRecOn with
  | ind p ih =>
   intro i hi;refine Classical.byContradiction fun hio=>?_
   refine hs i ((hq.all i).1 (List.mem_of_getElem? hi)) hio (yg.2 fun s hs d hd=>?_);obtain⟨k,hk⟩:=List.mem_iff_getElem?.1 (hq.after p i hi s hs d hd);have hkp:k<p:=by
    rcases bJ k p with h'|h'
    ·exact h'
    rw[List.getElem?_eq_none (by simp;omega)] at hk;cases hk
   rw[List.getElem?_take,bM hkp] at hk;exact ih k hkp d hk
 obtain⟨k,hk⟩:=List.mem_iff_getElem?.1 ((hq.all p).2 hd);exact hp (key k p hk)
theorem Va:uq 191 4 (.bool false) 1 1:=⟨by kernel_rfl,by kernel_rfl,rfl,by omega⟩
structure xQ (bs:Nat) (L:List Bool) (w:World):Prop where
 row:∃cur:Array Value,w.heap[bs]?=some (.cells cur 4 (0,0))/\cur.toList=L.map Value.bool
theorem xQ.cell {bs:Nat} {L:List Bool} {w:World} (h:xQ bs L w) {i:Nat} (hi:i<L.length):w.cell? ⟨bs,i,none⟩=some (.bool L[i]):=by
 obtain⟨cur,h1,h2⟩:=h.row;rw[bX h1];have:cur.toList[i]?=some (.bool L[i]):=by rw[h2];simp[hi]
 simpa using this
theorem xQ.free {bs:Nat} {L:List Bool} {w:World} (h:xQ bs L w) (i:Nat):w.frozen? ⟨bs,i,none⟩=false:=by
 obtain⟨cur,h1,h2⟩:=h.row;exact ie h1 i
theorem xQ.lt {bs:Nat} {L:List Bool} {w:World} (h:xQ bs L w):bs<w.heap.size:=by
 obtain⟨cur,h1,h2⟩:=h.row;exact bS h1
theorem xQ.ext {bs:Nat} {L:List Bool} {w w':World} (h:xQ bs L w) (hx:Ext w w'):xQ bs L w':=by
 obtain⟨cur,h1,h2⟩:=h.row;exact⟨cur,hx.blk h1,h2⟩
theorem xQ.set {bs:Nat} {L:List Bool} {w:World} (h:xQ bs L w) (i:Nat) (b:Bool):xQ bs (L.set i b) (w.setCell ⟨bs,i,none⟩ (.bool b)):=by
 obtain⟨cur,h1,h2⟩:=h.row;refine⟨_,aI w bs i _ _ (.bool b) h1,?_⟩;simp[h2,List.map_set]
theorem xQ.iZ {w:World} {base bs n:Nat} (h:w.ownsRow base 4 1 (.slice (some ⟨bs,0,none⟩) n n) n (madeCells #[Value.bool false] n).toList):xQ bs (List.replicate n false) w:=by
 rcases h.2 with ⟨h0,_⟩|⟨g,cap,cur,hv,_,hg,_,_,hs,ht⟩
 ·simp at h0
 simp only[a45,a42,Addr.mk.injEq,and_true,true_and] at hv;obtain⟨rfl,rfl⟩:=hv;refine⟨cur,hg,?_⟩;have e1:cur.toList.take (n*1)=cur.toList:=aS (by simp;omega);rw[e1] at ht;rw[ht];simp only[madeCells,List.map_replicate]
 apply List.ext_getElem
 ·simp
 intro i h1 h2;simp[Nat.mod_one]
def marks (o:ZN) (n:Nat):List Bool:=(List.range n).map fun j=>decide (j∈o)
theorem ayZ (n:Nat):marks [] n=List.replicate n false:=by simp[marks,List.map_const']
theorem NX (o:ZN) (n:Nat):(marks o n).length=n:=by simp[marks]
theorem ZF {o:ZN} {n j:Nat} (hj:j<n):(marks o n)[j]'(by rw[NX];exact hj)=decide (j∈o):=by simp[marks]
theorem ayY (o:ZN) (n p:Nat):(marks o n).set p true=marks (o++[p]) n:=by
 apply List.ext_getElem
 ·simp[marks]
 intro j h1 h2;have hj:j<n:=by simpa[marks] using h2
 have e1:(marks (o++[p]) n)[j]=decide (j∈o++[p]):=ZF hj;have e2:(marks o n)[j]'(by rw[NX];exact hj)=decide (j∈o):=ZF hj;rw[e1,List.getElem_set];by_cases e:p=j
 ·subst e;simp
 rw[bL e,e2]
 congr 1
 simp only[aN,aG];exact propext ⟨aoX,fun h=>h.resolve_right fun h=>e h.symm⟩
theorem azS:uq 26 3 (.int .i64 0) 1 8:=⟨by kernel_rfl,by kernel_rfl,rfl,by omega⟩
def aCL (l:ZN):List Value:=l.map fun (i:Nat)=>Value.int .i64 (i:Int)
theorem af1 {w:World} {base:Nat} {e:TypeId} {size:Nat} {v:Value} {n:Nat} {xs:List Value} (h:w.ownsRow base e size v n xs):∃a c,v=.slice a n c:=by
 rcases h.2 with ⟨rfl,h0⟩|⟨g,cap,cur,rfl,_⟩
 ·exact⟨none,0,by rw[h0]⟩
 exact⟨_,_,rfl⟩
def aSl (l:List uW) (w:World) (e:Ending) (w':World):Prop:=Ext w w'/\((vZ l/\∃a n c,e=.returned (.tuple #[.slice a n c,.int .i64 0]))\/(¬vZ l/\e=.returned (.tuple #[.slice none 0 0,.int .i64 10])))
def RO1 (w wb:World) (l:List uW) (bs n m:Nat) (v:Value) (wr:World):Prop:=∃o,m=lY l - o.length/\RH l o/\wr.ownsRow wb.heap.size 3 1 v o.length (aCL o)/\xQ bs (marks o n) wr/\Ext w wr/\wb.heap.size<=wr.heap.size
def RO2 (w3:World) (l:List uW) (o:ZN) (n:Nat) (nx lf i:Value) (wr:World):Prop:=∃k:Nat,i=.int .i64 k/\k<=n/\Ext w3 wr /\
 ((nx=.int .i64 (-1)/\(∃b:Bool,lf=.bool b/\(b=true ↔ ∃j,j<k/\iD l j=true/\j∉o))/\∀j,j<k->iD l j=true->j∉o->mY l o j≠[])\/(∃(p:Nat) (b:Bool),nx=.int .i64 p/\lf=.bool b/\p<n/\iD l p=true/\p∉o/\mY l o p=[]))
def RO3 (w5:World) (l:List uW) (o:ZN) (nm:ZB) (rd i:Value) (wr:World):Prop:=∃(k:Nat) (b:Bool),i=.int .i64 k/\k<=nm.length/\rd=.bool b/\(b=true ↔ ∀s∈nm.take k,∀d,gA l s=some d->d∈o)/\Ext w5 wr
theorem apL {l:List uW} {o:ZN} {nm:ZB} {k:Nat} (hk:k<nm.length) {b:Bool} (h:b=true ↔ ∀s∈nm.take k,∀d,gA l s=some d->d∈o) {b':Bool} (hb:b'=true ↔ ∀d,gA l nm[k]=some d->d∈o):(b&&b')=true ↔ ∀s∈nm.take (k+1),∀d,gA l s=some d->d∈o:=by
 rw[aF,h,hb,aO hk];constructor
 ·rintro⟨h1,h2⟩ s hs d hd;rcases aN.1 hs with h3|h3
  ·exact h1 s h3 d hd
  simp only[aG] at h3;subst h3;exact h2 d hd
 intro h1;exact⟨fun s hs=>h1 s (aK _ hs),h1 nm[k] (aL _ (by simp))⟩
theorem amz (l:List cK) (a:OA) (n c:Nat) (w:World) (hl:cZ w l a n c) (hn:n<=1000) (hsz:∀x∈l,x.cond.size<=100000) :
  Calls Tryz.prog 94 #[.slice a n c] w (aSl (l.map cK.tV) w):=by
 have HL:=ai hl;have HN:=ai hl.len;have tR:=ai hsz;obtain⟨dl,hdl⟩:∃dl,dl=l.map cK.tV:=⟨_,rfl⟩
 have QL:=ai hdl;have HDN:=ai (show n=dl.length by rw[hdl];simpa using hl.len);rw[<-hdl];clear hl hsz hdl;obtain⟨i0,Yy,hz0,hz1,hz2⟩:=info_parts Va.info;have hcn:lY dl<=1000:=by
  have h1:=HDN.o;have h2:lY dl<=dl.length:=by
   unfold lY;have:=List.length_filter_le (iD dl) (List.range dl.length);simpa using this
  omega
 go_enter Tryz.func94,Tryz.ntmps94
 go_wp2_with (at_make;refine wpList_make_full _ rfl _ _ 191 rfl w.heap.size 4 i0 (.bool false) 1 Va.ht Yy hz0 hz1 _ _ _ _ n rfl rfl rfl rfl ?c1 ?c2 ?c3 ?_)
 case c1=>rw[hz2];omega
 case c2=>unfold maxLen;omega
 case c3=>omega
 intro wb oC gY;obtain⟨bs,CR⟩:∃bs,bs=w.heap.size:=⟨_,rfl⟩
 rw[<-CR] at oC ⊢;have El:=ai (xQ.iZ oC);have dS:=ai (show Ext w wb from⟨gY.os,gY.tape,gY.output,gY.size,fun k hk=>gY.block k hk (by simp)⟩);have wH:=ai CR;have hbl:=El.o.lt;clear oC gY CR;go_wp2_with fail
 go_loopg [4] (lY dl) (RO1 w wb dl bs n)
 case atStart=>exact⟨[],rfl,RH.start dl,a4' _ _ _ _,by rw[ayZ];exact El.o,dS.o,aU _⟩
 case round =>
  obtain⟨o,hm,hinv,hown,akN,hx,a2D⟩:=hrel;obtain⟨wo,rfl⟩:∃wo:World,wo=wr:=⟨_,rfl⟩
  have HM:=ai hm;have HI:=ai hinv;have HO:=ai hown;have Ni:=ai akN;have HX:=ai hx;obtain⟨oa,oc,hov⟩:=af1 hown;subst hov;have hol:=hinv.le;clear hm hinv hown akN hx El dS;go_wp2_with fail;go_loopw [6,7,8] (RO2 wo dl o n) (fun _ _ i _=>n - (intOf i).toNat)
  case atStart=>exact⟨0,rfl,by omega,Tz _,aoX ⟨rfl,⟨false,rfl,by simp⟩,fun j h=>by omega⟩⟩
  case round =>
   obtain⟨k,rfl,hk,hxk,arc⟩:=hrel;obtain⟨wk,rfl⟩:∃wk:World,wk=wr:=⟨_,rfl⟩
   have HXK:=ai hxk;clear hxk;rcases arc with ⟨rfl,⟨b,rfl,hb⟩,hno⟩|⟨p,b,rfl,rfl,hpn,hpd,hpo,hpm⟩
   ·have HB:=ai hb;have jH:=ai hno;clear hb hno;by_cases hkn:k<n
    ·have fq:k<l.length:=by have:=HN.o;omega
     have t1:=ag ((k:Int)<(n:Int));obtain⟨cb,ld,v,rfl,fO,hrow⟩:=(HL.o.ext (HX.o.trans HXK.o)).at fq;obtain⟨c0,c1,c2,c3,c4,c5,c6,c7,c8,c9⟩:=hrow.BB;have zq:=ai fO.2.2.1;have hkk:=fO.1;have HID:=ai (show iD dl k=(l[k].kind==1) by rw[QL.o];exact sY fq);have HUS:=ai (show jy dl k=jB (fX l[k].cond) by rw[QL.o];exact xm fq);rw[hkk] at c0;have hLk:k<(marks o n).length:=by rw[NX];exact hkn
     have hcs:=(Ni.o.ext HXK.o).cell hLk;rw[ZF hkn] at hcs;have Sc:(0:Int)<=(k:Int):=by omega
     have ti1:(k:Int)<(n:Int):=by omega
     clear fO hrow hkk c1 c8 c9;by_cases hgo:iD dl k=true/\k∉o
     ·obtain⟨hgd,hgo⟩:=hgo;have tk:(l[k].kind != 1)=false:=by rw[HID.o] at hgd;simp[bne,hgd]
      have aJQ:=ah (k∈o) hgo;rw[aJQ] at hcs;clear aJQ;have HGO:=ai hgo;have R9:=ai hgd;clear hgo hgd;go_wp2_with fail;obtain⟨nm,hnm⟩:∃nm,nm=jB (fX l[k].cond):=⟨_,rfl⟩
      have aWd:=tR.o _ (aD fq);refine(IM l[k].cond _ _ (by omega) zq.o).mono ?_;rw[<-hnm];rw[<-hnm] at HUS;rintro r w5 ⟨na,nc,rfl,hst,dh⟩;have HST:=ai hst;have gW:=ai (HXK.o.trans dh);have aWr:nm.length<=100000:=by
       rw[hnm];have h1:(jB (fX l[k].cond)).length<=(fX l[k].cond).length:=by have:=aai (fX l[k].cond) [];simpa[jB] using this
       exact aV h1 (aV (zM _) aWd)
      clear hst dh hnm c0 c2 c3 c4 c5 c6 c7 hcs zq;go_wp2_with fail;go_loopw [9,11] (RO3 w5 dl o nm) (fun _ i _=>nm.length - (intOf i).toNat)
      case atStart=>exact⟨0,true,rfl,by omega,rfl,by simp,Tz _⟩
      case round =>
       obtain⟨q,rd,rfl,hq,rfl,hrd,hxq⟩:=hrel;have HRD:=ai hrd;have HXQ:=ai hxq;clear hrd hxq;by_cases hqn:q<nm.length
       ·have t2:=ag ((q:Int)<(nm.length:Int));obtain⟨nb,aVY,rfl,cn⟩:=(HST.o.ext HXQ.o).2.2.2 q hqn;have ac4:=HX.o.trans (gW.o.trans HXQ.o);have VN:=ai (xB l _ n c nm[q] wr (HL.o.ext ac4) (by omega));have AD:=ai (show gA dl nm[q]=dz l nm[q] by rw[QL.o];exact rA l _);cases hda:dz l nm[q] with
        | none =>
         rw[hda,Al] at VN;have HN3:=ai (apL hqn HRD.o (b':=true) (by rw[AD.o,hda];simp));clear hda ac4;cases rd
         all_goals
          go_wp2_with fail;refine VN.o.mono ?_;rintro r w6 ⟨rfl,rfl⟩;go_wp2_with fail;go_roundw
          case rel=>exact⟨q+1,_,by go_num,by omega,rfl,HN3.o,HXQ.o⟩
          case measure=>simp[intOf];omega
        | some d =>
         rw[hda,nX] at VN;have azk:d<l.length:=by
          have:=hda;unfold dz at this;rw[aJ] at this;exact this.1
         have hdn:d<n:=by have:=HN.o;omega
         have HN3:=ai (apL hqn HRD.o (b':=decide (d∈o)) (by rw[AD.o,hda];simp));have hLd:d<(marks o n).length:=by rw[NX];exact hdn
         have hcd:=(Ni.o.ext (gW.o.trans HXQ.o)).cell hLd;rw[ZF hdn] at hcd;have td0:(0:Int)<=(d:Int):=by omega
         have td1:(d:Int)<(n:Int):=by omega
         clear hda ac4;cases rd
         all_goals
          go_wp2_with fail;refine VN.o.mono ?_;rintro r w6 ⟨rfl,rfl⟩;go_wp2_with fail;go_roundw
          case rel=>exact⟨q+1,_,by go_num,by omega,rfl,HN3.o,HXQ.o⟩
          case measure=>simp[intOf];omega
       have t2:=ah ((q:Int)<(nm.length:Int));have HMI:=ai (show rd=true ↔ mY dl o k=[] by
        rw[HRD.o,aS (by omega),yg,HUS.o])
       cases rd
       ·go_wp2_with fail;go_roundw
        case rel =>
         refine⟨k+1,by go_num,by omega,gW.o.trans HXQ.o,aoX ⟨rfl,⟨true,rfl,?_⟩,fun j hj hd ho=>?_⟩⟩
         ·exact⟨fun _=>⟨k,by omega,R9.o,HGO.o⟩,fun _=>rfl⟩
         by_cases e:j=k
         ·subst e;intro h;have:=HMI.o.2 h;cases this
         exact jH.o j (by omega) hd ho
        case measure=>simp[intOf];omega
       go_wp2_with fail;go_roundw
       case rel=>exact⟨k+1,by go_num,by omega,gW.o.trans HXQ.o,a4Z ⟨k,true,rfl,rfl,hkn,R9.o,HGO.o,HMI.o.1 rfl⟩⟩
       case measure=>simp[intOf];omega
     have Na:=ai (show ∃b':Bool,Value.bool b=.bool b'/\(b'=true ↔ ∃j,j<k+1/\iD dl j=true/\j∉o) from⟨b,rfl,by
      rw[HB.o];constructor
      ·rintro⟨j,h1,h2⟩;exact⟨j,by omega,h2⟩
      rintro⟨j,h1,h2,h3⟩;refine⟨j,?_,h2,h3⟩;rcases bJ j k with h|h
      ·exact h
      obtain rfl:j=k:=by omega
      exact a40 ⟨h2,h3⟩ hgo⟩)
     have HN2:=ai (show ∀j,j<k+1->iD dl j=true->j∉o->mY dl o j≠[] from fun j hj hd ho=>by
      rcases bJ j k with h|h
      ·exact jH.o j h hd ho
      obtain rfl:j=k:=by omega
      exact a40 ⟨hd,ho⟩ hgo)
     by_cases tC:iD dl k=true
     ·have tk:(l[k].kind != 1)=false:=by rw[HID.o] at tC;simp[bne,tC]
      have hin:=ag (k∈o) (Classical.byContradiction fun h=>hgo ⟨tC,h⟩);rw[hin] at hcs;clear hin hgo tC;go_wp2_with fail;go_roundw
      case rel=>exact⟨k+1,by go_num,by omega,HXK.o,aoX ⟨rfl,Na.o,HN2.o⟩⟩
      case measure=>simp[intOf];omega
     have tk:(l[k].kind != 1)=true:=by rw[HID.o] at tC;simp[bne,tC]
     clear hgo tC;go_wp2_with fail;go_roundw
     case rel=>exact⟨k+1,by go_num,by omega,HXK.o,aoX ⟨rfl,Na.o,HN2.o⟩⟩
     case measure=>simp[intOf];omega
    have t1:=ah ((k:Int)<(n:Int));have tC:k=dl.length:=by have:=HDN.o;omega
    have zi:=ai (HX.o.trans HXK.o);cases hbc:b
    ·have uF:=ai (show vZ dl from⟨o,HI.o.done fun i hi=>Classical.byContradiction fun h=>by
      have:=HB.o.2 ⟨i,by rw[tC];exact mz hi,hi,h⟩;rw[hbc] at this;cases this⟩)
     clear tC;go_wp2_with fail
     go_ret2
     exact⟨zi.o,aoX ⟨uF.o,oa,_,oc,rfl⟩⟩
    obtain⟨j,hj1,hj2,hj3⟩:=HB.o.1 hbc;have uF:=ai (show ¬vZ dl from RH.stuck (fun i hi ho=>jH.o i (by rw[tC];exact mz hi) hi ho) hj2 hj3);clear tC;go_wp2_with fail
    go_ret2
    exact⟨zi.o,a4Z ⟨uF.o,rfl⟩⟩
   have t2:=ah ((p:Int)<0);have K8:=ai (HI.o.snoc hpd hpo hpm);have hlt:=HI.o.lt hpd hpo;have zm:=ai (cO HO.o (HXK.o.cR []) (by simp));have Na:=ai (Ni.o.ext HXK.o);have hbk:=Na.o.lt;have hLp:p<(marks o n).length:=by rw[NX];exact hpn
   have hzk:=HXK.o.size;have hfs:=Na.o.free p;have hcp:=Na.o.cell hLp;have HSS:=ai Na.o;have tp0:(0:Int)<=(p:Int):=by omega
   have tp1:(p:Int)<(n:Int):=by omega
   clear hpd hpo hpm;by_cases hkn:k<n
   case' pos=>have t1:=ag ((k:Int)<(n:Int))
   case' neg=>have t1:=ah ((k:Int)<(n:Int))
   all_goals
    go_wp2_with (at_builtin;refine dA azS rfl _ _ rfl wb.heap.size _ o.length _ rfl zm.o _ 1 1 rfl rfl rfl (by simp[Value.oneCell']) (by unfold maxLen;omega) (by omega) (by omega) ?_);intro v8 w8 dY iI gX;obtain⟨a8,c8,Iv⟩:=af1 dY;subst Iv;have hbr:bs∉rowOf (.slice oa o.length oc):=fun hm=>by have:=(HO.o.lt bs (bV.1 hm)).1;omega
    have hS8:xQ bs (marks o n) w8:=by
     obtain⟨cur,g1,g2⟩:=HSS.o.row;exact⟨cur,iI.blk g1 hbr,g2⟩
    have hf8:=hS8.free p;have a3W:=hS8.cell hLp;have AM:=ai (hS8.set p true);rw[ayY] at AM;have a4f:=hS8.lt;have zo:=ai (show w8.ownsRow wb.heap.size 3 1 (.slice a8 (o.length+1) c8) (o++[p]).length (aCL (o++[p])) by simpa[aCL] using dY);have nB:=ai (iI.ext (HX.o.trans HXK.o) (fun q hq=>by have h1:=(HO.o.lt q (bV.1 hq)).1;have h2:=wH.o;omega));have hz8:=iI.size;have aQz:∀q,(Value.slice a8 (o.length+1) c8).ownBlock=some q->q∉[bs]:=fun q hq hm=>by
     simp only[aG] at hm;subst hm;rcases gX q hq with e|e
     ·exact hbr (bV.2 e)
     omega
    have HO9:=ai (cO zo.o ((ct.refl [bs] w8).setCell (p:=⟨bs,p,none⟩) (aoX (by simp)) (.bool true)) aQz);clear dY iI gX hS8 hfs hcp hbr aQz;go_wp2_with fail
    go_roundg (lY dl - (o.length+1))
    case rel=>exact⟨o++[p],by simp,K8.o,HO9.o,AM.o,nB.o.fV (by simp;rw[wH.o];exact aU _) _,by simp;omega⟩
    case measure=>have:=HM.o;omega
theorem Bg {e:Ex} (h:eW e=true):e.size<=100000:=by
 unfold eW ep at h;simp only[aF,aH] at h;omega
theorem Ji {c:cK} (h:gQ c=true):eW c.cond=true:=by
 unfold gQ at h;simp only[aF] at h;exact h.1.1.2
theorem QA {s:List Attr} {l:List cK} {i:Nat} (h:jE s l i=0) (hi:i<l.length):gQ l[i]=true:=by
 unfold jE at h;rw[fJ hi] at h;cases hb:gQ l[i]
 ·rw[hb] at h;simp at h
 rfl
theorem axj {s:List Attr} {l:List cK} (h:dy s≠0):cV s l=(0,dy s):=by unfold cV;rw[bM h]
theorem arV {s:List Attr} {l:List cK} (h:dy s=0) (hn:100<l.length):cV s l=(0,4):=by unfold cV;rw[bL (by simp[h]),bM hn]
theorem axi {s:List Attr} {l:List cK} (h:dy s=0) (hn:¬100<l.length) {k:Nat} (hk:k<l.length) (h0:∀j,j<k->jE s l j=0) (h1:jE s l k≠0):cV s l=(k,jE s l k):=by
 unfold cV;have:=rQ h1 h0 l.length hk;rw[bL (by simp[h]),bL hn,this,bM h1]
theorem alh {s:List Attr} {l:List cK} (h:dy s=0) (hn:¬100<l.length) (h0:∀j,j<l.length->jE s l j=0) (hs:¬vZ (l.map cK.tV)):cV s l=(0,10):=by
 unfold cV;rw[bL (by simp[h]),bL hn,kz _ h0,bL (by simp),bM hs]
theorem ab4 {s:List Attr} {l:List cK} (h:dy s=0) (hn:¬100<l.length) (h0:∀j,j<l.length->jE s l j=0) (hs:vZ (l.map cK.tV)) {k:Nat} (hk:k<l.length) (g0:∀j,j<k->jQ l j=0) (g1:jQ l k=4):cV s l=(k,4):=by
 unfold cV;rw[bL (by simp[h]),bL hn,kz _ h0,bL (by simp),bL (by simp[hs]),rQ (by rw[g1];decide) g0 _ hk,g1]
theorem aaC {s:List Attr} {l:List cK} (h:dy s=0) (hn:¬100<l.length) (h0:∀j,j<l.length->jE s l j=0) (hs:vZ (l.map cK.tV)) (g0:∀j,j<l.length->jQ l j=0):cV s l=(0,0):=by
 unfold cV;rw[bL (by simp[h]),bL hn,kz _ h0,bL (by simp),bL (by simp[hs]),kz _ g0]
def T3 (r:Nat×Int):Value:=.tuple #[.int .i64 (r.1:Nat),.int .i64 r.2]
theorem mQ {r:Nat×Int} {i:Nat} {e:Int} {w w':World} (h:r=(i,e)) (hx:Ext w w'):cz (T3 r) w (.returned (.tuple #[.int .i64 (i:Nat),.int .i64 e])) w':=by subst h;exact⟨rfl,hx⟩
def cK.okk (c:cK):Prop:=c.ok/\mH c.gH<1000000000000000
theorem cK.okk.fit {c:cK} (h:c.okk):c.fit:=h.1.fit
theorem WW:(l:List Wb)->iK l<=40->mH l<=iK l
 | [],_=>by simp[mH]
 | .mk n c u::r,h=>by
  rw[iK] at h ⊢;have h1:=WW u (by omega);have h2:=WW r (by omega);rw[mH];omega
theorem alT:(d:Nat)->(l:List Wb)->mh d l=true->nY l->Nr l
 | _,[],_,_=>by unfold Nr;trivial
 | d,.mk n c u::r,h,hf=>by
  rw[mh] at h;simp only[aF] at h;rw[nY] at hf;have:=Bg h.1.1.2;unfold Nr;exact⟨hf.1,hf.2.1,hf.2.2.1,by omega,alT _ u h.1.2 hf.2.2.2.2.2.1,alT d r h.2 hf.2.2.2.2.2.2⟩
theorem cK.fit.okk {c:cK} (h:c.fit) (hc:gQ c=true):c.okk:=by
 have hx:=Bg (Ji hc);have key:Nr c.gH/\mH c.gH<=40:=by
  unfold gQ at hc;simp only[aF,bG,aH] at hc;rcases hc.1.2 with h0|⟨⟨_,h1⟩,h2⟩
  ·rw[aR h0];exact⟨by unfold Nr;trivial,by simp[mH]⟩
  exact⟨alT 16 _ h2 h.2.2.2.2.2,aV (WW _ h1) h1⟩
 exact⟨⟨h.1,h.2.1,h.2.2.1,by omega,key.1,by omega⟩,by omega⟩
theorem pM (s:List Attr) (l:List cK) (sv:Value) (a:OA) (n c:Nat) (w:World) (hs:dB w s sv) (hf:∀x∈s,x.fits) (hsl:s.length<=1000000000000000) (hl:cZ w l a n c) (hn:n<=1000000000000000) (hok:∀x∈l,x.fit) :
  Calls Tryz.prog 60 #[sv,.slice a n c] w (cz (T3 (cV s l)) w):=by
 obtain⟨sa,sn,sc,rfl,B6⟩:=hs.slice;have HS:=ai hs;have HL:=ai hl;have HN:=ai hl.len;have HF:=ai hf;have zm:=ai hok;obtain⟨R,hR⟩:∃R,R=cV s l:=⟨_,rfl⟩
 rw[<-hR];have HR:=ai hR;clear hs hl hf hok hR B6;go_enter Tryz.func60,Tryz.ntmps60
 go_upto_region 1 with fail;obtain⟨wa,cN⟩:∃wa,wa=w.alloc (.cells #[.slice sa sn sc] 24):=⟨_,rfl⟩
 have gB:Ext w wa:=by rw[cN];exact(Tz _).alloc _
 have hb:wa.heap[w.heap.size]?=some (.cells #[.slice sa sn sc] 24 (0,0)):=by rw[cN];exact bR w _
 have dm:=ai gB;have oF:=ai hb;obtain⟨d0,df⟩:=dO hb;rw[<-cN];clear gB hb cN;go_wp2_with fail;refine(Bi s _ wa (HS.o.ext dm.o) HF.o hsl).mono ?_;rintro r w1 ⟨rfl,hx1⟩;have dI:=ai (dm.o.trans hx1);have gG:=ai (hx1.blk oF.o);clear hx1 d0 df;by_cases hse:dy s=0
 case neg =>
  have tz:(dy s != 0)=true:=by simp[hse]
  have HQ:=ai (HR.o.trans (axj hse));go_wp2_with fail
  go_ret2
  exact mQ HQ.o dI.o
 have tz:(dy s != 0)=false:=by simp[hse]
 have Ni:=ai hse;clear hse;by_cases hm:100<n
 ·have tm:=ag ((100:Int)<(n:Int));have HQ:=ai (HR.o.trans (arV Ni.o (by have:=HN.o;omega)));go_wp2_with fail
  go_ret2
  exact mQ HQ.o dI.o
 have tm:=ah ((100:Int)<(n:Int));have HM:=ai (show ¬100<l.length by have:=HN.o;omega);go_wp2_with fail;go_loopw [7] (fun t wr=>∃k:Nat,t=.int .i64 k/\k<=n/\(∀j,j<k->jE s l j=0)/\wr.heap[w.heap.size]?=some (.cells #[.slice sa sn sc] 24 (0,0))/\Ext w wr) (fun t _=>n - (intOf t).toNat)
 case atStart=>exact⟨0,rfl,by omega,fun j h=>by omega,gG.o,dI.o⟩
 case round =>
  obtain⟨k,rfl,hk,hno,j6,lM⟩:=hrel;have jH:=ai hno;have jm:=ai j6;have gZ:=ai lM;obtain⟨d0,df⟩:=dO j6;clear hno j6 lM gG dI;by_cases hkn:k<n
  ·have fq:k<l.length:=by have:=HN.o;omega
   have t1:=ag ((k:Int)<(n:Int));obtain⟨b,off,v,rfl,fO,hrow⟩:=(HL.o.ext gZ.o).at fq;obtain⟨c0,c1,c2,c3,c4,c5,c6,c7,c8,c9⟩:=hrow.BB;have Ba:=ai fO;have yy:=ai hrow;have aTm:=ai (zm.o _ (aD fq));have Sc:(0:Int)<=(k:Int):=by omega
   have ti1:(k:Int)<(n:Int):=by omega
   have Un:=ai (show jE s l k=if gQ l[k]=false then 5 else if (findAt l l[k].name).getD 0<k then 8 else if (eO s l[k].name).isSome then 8 else if dr s l l[k].cond≠0 then dr s l l[k].cond else fG s l l[k].gH by unfold jE;rw[fJ fq]);have A7:=ai (fun (e:Int) (h:jE s l k=e) (h0:e≠0)=>HR.o.trans (by rw[axi Ni.o HM.o fq jH.o (by rw[h];exact h0),h]));have aTw:=ai fO.2.1;clear fO hrow;go_upto_region 9 with fail;go_wp2_with fail;refine(SZ l[k] v wr Ba.o aTm.o).mono ?_;rintro r w3 ⟨rfl,hx3⟩;have dS:=ai (gZ.o.trans hx3);have nU:=ai (hx3.blk jm.o);have oD:=ai (Ba.o.mono hx3.sub);have nL:=ai (yy.o.mono hx3.sub);clear hx3 d0 df c0 c1 c2 c3 c4 c5 c6 c7 c8 c9 jm Ba yy;obtain⟨d0,df⟩:=dO nU.o;obtain⟨c0,c1,c2,c3,c4,c5,c6,c7,c8,c9⟩:=nL.o.BB;cases hcb:gQ l[k]
   ·have HQ:=ai (A7.o 5 (by rw[Un.o,hcb];rfl) (by decide));clear hcb;go_wp2_with fail
    go_ret2
    exact mQ HQ.o dS.o
   have RU:=ai (aTm.o.okk hcb);rw[hcb] at Un;simp only[Bool.true_eq_false,if_false] at Un;clear hcb;go_wp2_with fail;rw[aTw.o];refine(Gs l _ n c l[k].name w3 (HL.o.ext dS.o) hn).mono ?_;rintro r w4 ⟨rfl,rfl⟩;unfold sX;obtain⟨F,hF⟩:∃F,F=(findAt l l[k].name).getD 0:=⟨_,rfl⟩
   rw[<-hF] at Un ⊢;have hFl:F<=l.length:=by
    rw[hF];cases qx:findAt l l[k].name with
    | none=>simp
    | some q =>
     unfold findAt at qx;rw[aJ] at qx;obtain⟨h1,_⟩:=qx;simp only[Option.getD_some];omega
   generalize (findAt l l[k].name).isSome=fb;clear hF;by_cases hfk:F<k
   ·have tf:=ag (F<k) hfk;have HQ:=ai (A7.o 8 (by rw[Un.o,bM hfk]) (by decide));go_wp2_with fail
    go_ret2
    exact mQ HQ.o dS.o
   have tf:=ah (F<k) hfk;rw[bL hfk] at Un;clear hFl;go_wp2_with fail;have tF:=ai (fun (W:World) (hW:Ext w3 W)=>Ai s _ l[k].name W (HS.o.ext (dS.o.trans hW)) hsl);obtain⟨q,hq⟩:∃q,q=(eO s l[k].name).getD 0:=⟨_,rfl⟩
   obtain⟨ab,hab⟩:∃ab,ab=(eO s l[k].name).isSome:=⟨_,rfl⟩
   have HIV:=ai (show sX (eO s l[k].name)=.tuple #[.int .i64 (q:Nat),.bool ab] by rw[hq,hab];rfl);rw[<-hab] at Un;rw[aTw.o] at c1;obtain⟨nm,hnm⟩:∃nm,nm=l[k].name:=⟨_,rfl⟩
   rw[<-hnm] at c1 tF HIV;clear hq hab hnm;go_upto_region 14 with fail;obtain⟨Z0,Z1,Z2,Z3,Z4,Z5⟩:=wcn6 d0 c0 c1 c2 c3 c4;obtain⟨Z6,Z7,Z8⟩:=wcn3 c5 c6 c7;have Z9:=bT c8;have Z10:=bT c9;refine kT 12 ?_
   repeat (refine bZ ?_;intro Ka cH;go_big_quiet_op;go_big_quiet_on)
   refine mU (v:=.tuple #[.int .i64 (q:Nat),.bool ab]) (fun W hW=>by have h:=tF.o W hW;rwa [HIV.o] at h) ?_;intro Ka cH;go_simp;go_big_quiet_on
   repeat (refine bZ ?_;intro Ka cH;go_big_quiet_op;go_big_quiet_on)
   refine gC fun W hW2 _ _=>?_
   clear Z0 Z1 Z2 Z3 Z4 Z5 Z6 Z7 Z8 Z9 Z10;have gN:=hW2;clear hW2;have kR:=ai (dS.o.trans gN);have jO:=ai (gN.blk nU.o);have RN:=ai (nL.o.mono gN.sub);have sK:=ai (oD.o.mono gN.sub);obtain⟨w6,rH⟩:∃w6,w6=W:=⟨_,rfl⟩
   rw[<-rH] at kR jO RN sK ⊢;clear rH gN nU nL oD d0 df c0 c1 c2 c3 c4 c5 c6 c7 c8 c9;obtain⟨d0,df⟩:=dO jO.o;obtain⟨c0,c1,c2,c3,c4,c5,c6,c7,c8,c9⟩:=RN.o.BB;cases hat:ab
   case true =>
    have HQ:=ai (A7.o 8 (by rw[Un.o,hat];rfl) (by decide));clear hat;go_wp2_with fail
    go_ret2
    exact mQ HQ.o kR.o
   rw[hat] at Un;simp only[Bool.false_eq_true,if_false] at Un;clear hat;go_wp2_with fail
   go_still_tail 7,(by kernel_rfl)
   change wpList _ _ _ _ _ w6.drew
   have ng:Ext w6 w6.drew:=(Tz w6).drew;generalize w6.drew=w7 at ng ⊢;have rZ:=ai (kR.o.trans ng);have CX:=ai (ng.blk jO.o);have WM:=ai (RN.o.mono ng.sub);have Bv:=ai (sK.o.mono ng.sub);clear ng d0 df c0 c1 c2 c3 c4 c5 c6 c7 c8 c9 jO RN sK;go_wp2_with fail;refine(Ho s l HF.o hsl _ n c hn 1000000000000000 l[k].cond _ _ w7 RU.o.1.2.2.2.1 (by omega) RU.o.1.2.2.1 (HS.o.ext rZ.o) (HL.o.ext rZ.o) Bv.o.2.2.1).mono ?_;rintro r w8 ⟨rfl,qW⟩;have nB:=ai (rZ.o.trans qW);have Lr:=ai (qW.blk CX.o);have HR8:=ai (WM.o.mono qW.sub);have CM:=ai (Bv.o.mono qW.sub);clear qW CX WM Bv;obtain⟨d0,df⟩:=dO Lr.o;obtain⟨c0,c1,c2,c3,c4,c5,c6,c7,c8,c9⟩:=HR8.o.BB;obtain⟨E1,xK⟩:∃E1,E1=dr s l l[k].cond:=⟨_,rfl⟩
   rw[<-xK] at Un ⊢;clear xK;by_cases hz:E1=0
   case neg =>
    have ty:(E1 != 0)=true:=by simp[hz]
    have HQ:=ai (A7.o E1 (by rw[Un.o,bM hz]) hz);clear hz;go_wp2_with fail
    go_ret2
    exact mQ HQ.o nB.o
   subst hz;simp only[ne_eq,not_true_eq_false,if_false] at Un;have ty:((0:Int) != 0)=false:=rfl;go_wp2_with fail
   go_still_tail 7,(by kernel_rfl)
   change wpList _ _ _ _ _ w8.drew
   have ux:Ext w8 w8.drew:=(Tz w8).drew;generalize w8.drew=w9 at ux ⊢;have vL:=ai (nB.o.trans ux);have Vt:=ai (ux.blk Lr.o);have HR9:=ai (HR8.o.mono ux.sub);have GW:=ai (CM.o.mono ux.sub);clear ux d0 df c0 c1 c2 c3 c4 c5 c6 c7 c8 c9 Lr HR8 CM;go_wp2_with fail;refine(afw s l HF.o hsl _ n c hn 1000000000000000 l[k].gH _ _ _ _ w9 RU.o.2 (by omega) RU.o.1.2.2.2.2.1 (HS.o.ext vL.o) (HL.o.ext vL.o) GW.o.2.2.2.2.2.2.1 GW.o.2.2.2.1).mono ?_;rintro r wA ⟨rfl,hxA⟩;have aSJ:=ai (vL.o.trans hxA);have adX:=ai (hxA.blk Vt.o);clear hxA Vt HR9 GW;obtain⟨E2,Bp⟩:∃E2,E2=fG s l l[k].gH:=⟨_,rfl⟩
   rw[<-Bp] at Un ⊢;clear Bp;by_cases hz2:E2=0
   case neg =>
    have tz2:(E2 != 0)=true:=by simp[hz2]
    have HQ:=ai (A7.o E2 Un.o hz2);clear hz2;go_wp2_with fail
    go_ret2
    exact mQ HQ.o aSJ.o
   subst hz2;go_wp2_with fail;go_roundw
   case rel =>
    refine⟨k+1,by go_num,by omega,fun j hj=>?_,adX.o,aSJ.o⟩;by_cases e':j=k
    ·subst e';exact Un.o
    exact jH.o j (by omega)
   case measure=>simp[intOf];omega
  have t1:=ah ((k:Int)<(n:Int));have kJ:=ai (show ∀j,j<l.length->jE s l j=0 from fun j hj=>jH.o j (by have:=HN.o;omega));have tR:=ai (show ∀x∈l,x.cond.size<=100000 by
   intro x hx;obtain⟨j,hj,rfl⟩:=aW.1 hx;exact Bg (Ji (QA (kJ.o j hj) hj)))
  clear jH jm d0 df;go_wp2_with fail;refine(amz l a n c wr (HL.o.ext gZ.o) (by omega) tR.o).mono ?_;rintro r w3 ⟨hx3,⟨hso,oa,on,oc,rfl⟩|⟨hso,rfl⟩⟩
  ·have dS:=ai (gZ.o.trans hx3);have HSO:=ai hso;clear hx3 hso;go_wp2_with fail;go_loopw [16] (fun t wr=>∃k:Nat,t=.int .i64 k/\k<=n/\(∀j,j<k->jQ l j=0)/\Ext w wr) (fun t _=>n - (intOf t).toNat)
   case atStart=>exact⟨0,rfl,by omega,fun j h=>by omega,dS.o⟩
   case round =>
    obtain⟨k2,rfl,hk2,hno,lM⟩:=hrel;have jH:=ai hno;have asw:=ai lM;clear hno lM dS gZ;by_cases aDm:k2<n
    ·have fq:k2<l.length:=by have:=HN.o;omega
     have t2:=ag ((k2:Int)<(n:Int));obtain⟨b,off,v,rfl,fO,hrow⟩:=(HL.o.ext asw.o).at fq;obtain⟨c0,c1,c2,c3,c4,c5,c6,c7,c8,c9⟩:=hrow.BB;have Ba:=ai fO;have RU:=ai ((zm.o _ (aD fq)).okk (QA (kJ.o k2 fq) fq));have Sc:(0:Int)<=(k2:Int):=by omega
     have ti1:(k2:Int)<(n:Int):=by omega
     have HLG:=ai (show jQ l k2=if 2000<dV l l[k2].cond\/eH l l[k2].gH=true then 4 else 0 by unfold jQ;rw[fJ fq]);have A7:=ai (fun (h:jQ l k2=4)=>HR.o.trans (ab4 Ni.o HM.o kJ.o HSO.o fq jH.o h));obtain⟨E,hE⟩:∃E,E=dV l l[k2].cond:=⟨_,rfl⟩
     have HEE:=ai hE;rw[<-hE] at HLG;clear fO hrow hE;go_wp2_with fail;refine(uC l _ n c (by omega) (fun x hx=>by have:=tR.o x hx;omega) l[k2].cond _ wr RU.o.1.2.2.2.1 (HL.o.ext asw.o) Ba.o.2.2.1).mono ?_;rw[<-HEE.o];rintro r w5 ⟨rfl,dh⟩;have gW:=ai (asw.o.trans dh);have c85:=dh.cell c8;have pU:=ai (Ba.o.mono dh.sub);clear dh c0 c1 c2 c3 c4 c5 c6 c7 c8 c9;by_cases hz:2000<E
     ·have tz:=ag ((2000:Int)<(E:Int));have HQ:=ai (A7.o (by rw[HLG.o,bM (aoX hz)]));go_wp2_with fail
      go_ret2
      exact mQ HQ.o gW.o
     have tz:=ah ((2000:Int)<(E:Int));have A4:=ai (show jQ l k2=if eH l l[k2].gH=true then 4 else 0 by rw[HLG.o];simp only[hz,false_or]);go_wp2_with fail;refine(abk l _ n c (by omega) (fun x hx=>by have:=tR.o x hx;omega) 1000000000000000 l[k2].gH _ _ _ w5 RU.o.2 (by omega) RU.o.1.2.2.2.2.1 (HL.o.ext gW.o) pU.o.2.2.2.2.2.2.1 pU.o.2.2.2.1).mono ?_;rintro r w6 ⟨rfl,gN⟩;have kR:=ai (gW.o.trans gN);clear gN c85;cases hb:eH l l[k2].gH
     ·have HZ:=ai (show jQ l k2=0 by rw[A4.o,hb];rfl);clear hb;go_wp2_with fail;go_roundw
      case rel =>
       refine⟨k2+1,by go_num,by omega,fun j hj=>?_,kR.o⟩;by_cases e':j=k2
       ·subst e';exact HZ.o
       exact jH.o j (by omega)
      case measure=>simp[intOf];omega
     have HQ:=ai (A7.o (by rw[A4.o,hb];rfl));clear hb;go_wp2_with fail
     go_ret2
     exact mQ HQ.o kR.o
    have t2:=ah ((k2:Int)<(n:Int));have HQ:=ai (HR.o.trans (aaC Ni.o HM.o kJ.o HSO.o fun j hj=>jH.o j (by have:=HN.o;omega)));go_wp2_with fail
    go_ret2
    exact mQ (i:=0) HQ.o asw.o
  have dS:=ai (gZ.o.trans hx3);have HQ:=ai (HR.o.trans (alh Ni.o HM.o kJ.o hso));clear hx3 hso;go_wp2_with fail
  go_ret2
  exact mQ (i:=0) HQ.o dS.o
open Go.RowKit Go.Maps
def St0 (bf bu bm bp:Nat):St where
 ρ:=fun k=>if k=bf then .first else if k=bp then .aPM else if k=bm then .miss else if k=bu then .aJN else .none
 mb:=fun _=>0
 uv:=fun _=>none
 U:=fun _=>[]
 D:=fun _=>False
 S:=fun _=>False
 M:=fun _ _=>False
 pv:=.slice none 0 0
 R:=[]
 vo:=.slice none 0 0
 O:=[]
theorem OB.start {w wr:World} {l:List uW} {bf t:Nat} (h:ig wr 9 bf t (kV (zT l))) (hx:Ext w wr) (hb:w.heap.size<=bf) :
  OB w l bf (wr.heap.size+2) (wr.heap.size+1) wr.heap.size t (St0 bf (wr.heap.size+2) (wr.heap.size+1) wr.heap.size) (((wr.alloc (.cells #[.slice none 0 0] 171)).alloc (.map #[] 0)).alloc (.map #[] 0)):=by
 have hlt:=h.lt;have hsz:=hx.size;have x1:Ext wr (wr.alloc (.cells #[.slice none 0 0] 171)):=(Tz _).alloc _;have x2:=x1.alloc (.map #[] 0);have x3:=x2.alloc (.map #[] 0);have z1:(wr.alloc (.cells #[.slice none 0 0] 171)).heap.size=wr.heap.size+1:=by simp
 have z2:((wr.alloc (.cells #[.slice none 0 0] 171)).alloc (.map #[] 0)).heap.size=wr.heap.size+2:=by simp
 refine { ext:=hx.trans x3,fresh:=?_,old:=?_,rf:=?_,hf:=h.ext x3,ru:=?_,hu:=?_,rows:=?_,aG8:=fun _ _=>rfl,rm:=?_,hm:=?_,dom:=fun _ h=>h,sets:=fun _ h=>h.elim,rp:=?_,hp:=?_,rpv:=?_,hv:=a4' _ _ _ _,rv:=?_ }
 ·intro k hk;simp at hk;simp only[St0];rw[bL (by omega),bL (by omega),bL (by omega),bL (by omega)]
 ·intro k hk;simp only[St0];rw[bL (by omega),bL (by omega),bL (by omega),bL (by omega)]
 ·simp[St0]
 ·simp only[St0];rw[bL (by omega),bL (by omega),bL (by omega),bM trivial]
 ·have:=ig.made ((wr.alloc (.cells #[.slice none 0 0] 171)).alloc (.map #[] 0)) 9;rw[z2] at this;exact(this.more (Nat.zero_le t)).congr fun x=>by cases x<;>rfl
 ·intro x v hv;cases hv
 ·simp only[St0];rw[bL (by omega),bL (by omega),bM trivial]
 ·have:=ig.made (wr.alloc (.cells #[.slice none 0 0] 171)) 3;rw[z1] at this;refine((this.more (Nat.zero_le t)).ext ((Tz _).alloc _)).congr fun x=>?_
  cases x<;>try rfl
  rename_i q z
  cases q<;>try rfl
  simp[adG,Gz,St0]
 ·simp only[St0];rw[bL (by omega),bM trivial]
 ·have:=Bu.fresh wr;refine⟨by omega,?_,a4' _ _ _ _,by simp[St0,Value.ownBlock]⟩;exact bU (bU (bR wr _))
 ·intro g hg;simp[St0,Value.ownBlock] at hg
 intro g hg;simp[St0,Value.ownBlock] at hg
theorem fS.cR {w w':World} {l:ZB} {a:OA} {n c:Nat} {N:ZN} (h:fS w l a n c) (hc:ct N w w') (hN:∀b off,a=some ⟨b,off,none⟩->b∉N):fS w' l a n c :=
 ⟨h.1,h.2.1,h.2.2.1,fun i hi=>by
  obtain⟨b,off,h1,h2⟩:=h.2.2.2 i hi;refine⟨b,off,h1,?_⟩;have hb:=eB h2;unfold World.cell? at h2 ⊢;rw[hc.block b hb (hN b off h1)];exact h2⟩
theorem apP {ρ:Nat->OK} {v v':Value} {r:OK} {n k:Nat} (hk:ρ k=.none) (hkn:k<n) (hr:r≠.none) (hv:∀g,v.ownBlock=some g->ρ g=r) (hw:∀g,v'.ownBlock=some g->v.ownBlock=some g\/n<=g):yO ρ v' r k=.none:=by
 rw[uG,hk];intro g hg e;subst e;rcases hw k hg with h|h
 ·exact hr ((hv k h).symm.trans hk)
 omega
open Classical in
noncomputable def UL (l:List uW) (k:Nat) (x:BA):ZN:=if (gA l x).isSome then (List.range k).filter fun i=>iD l i&&(jy l i).any fun y=>decide (y=x) else []
def RL (l:List uW) (k:Nat):ZN:=(List.range k).filter fun i=>iD l i&&(mY l [] i).isEmpty
def Mo (l:List uW) (k:Nat):Nat:=((List.range k).filter (iD l)).length
def Kh (l:ZN):ZI:=l.map fun (i:Nat)=>(i:Int)
structure Ph2 (l:List uW) (k:Nat) (s:St):Prop where
 D:∀i,s.D i ↔ (i<k/\iD l i=true)
 S:∀i,s.S i ↔ (i<k/\iD l i=true)
 M:∀i,s.S i->∀x,s.M i x ↔ x∈mY l [] i
 U:∀x,s.U x=UL l k x
 R:s.R.Perm (Kh (RL l k))
 vo:s.vo=.slice none 0 0
 O:s.O=[]
theorem Ph2.start (l:List uW) (bf bu bm bp:Nat):Ph2 l 0 (St0 bf bu bm bp) where
 D i:=by simp[St0]
 S i:=by simp[St0]
 M i h:=h.elim
 U x:=by simp[St0,UL]
 R:=by simp[St0,RL,Kh]
 vo:=rfl
 O:=rfl
structure Ph3 (l:List uW) (k j:Nat) (s:St):Prop where
 D:∀i,s.D i ↔ (i<k/\iD l i=true)
 S:∀i,s.S i ↔ ((i<k/\iD l i=true)\/i=k)
 M:∀i,i<k->s.S i->∀x,s.M i x ↔ x∈mY l [] i
 Mk:∀x,s.M k x ↔ (x∈(jy l k).take j/\(gA l x).isSome=true)
 U:∀x,s.U x=if (gA l x).isSome=true/\x∈(jy l k).take j then UL l k x++[k] else UL l k x
 R:s.R.Perm (Kh (RL l k))
 vo:s.vo=.slice none 0 0
 O:s.O=[]
theorem Ph2.skip {l:List uW} {k:Nat} {s:St} (h:Ph2 l k s) (hd:iD l k=false):Ph2 l (k+1) s/\Mo l (k+1)=Mo l k:=by
 have hi:∀i,(i<k+1/\iD l i=true) ↔ (i<k/\iD l i=true):=fun i=>by
  constructor
  ·rintro⟨h1,h2⟩;refine⟨?_,h2⟩;rcases bJ i k with h'|h'
   ·exact h'
   obtain rfl:i=k:=by omega
   rw[hd] at h2;cases h2
  rintro⟨h1,h2⟩;exact⟨by omega,h2⟩
 refine⟨{ D:=fun i=>(h.D i).trans (hi i).symm,S:=fun i=>(h.S i).trans (hi i).symm,M:=h.M,U:=fun x=>?_,R:=?_,vo:=h.vo,O:=h.O },?_⟩
 ·rw[h.U];unfold UL;rw[List.range_succ,List.filter_append];simp[hd]
 ·refine h.R.trans (List.Perm.of_eq ?_);unfold RL;rw[List.range_succ,List.filter_append];simp[hd]
 unfold Mo;rw[List.range_succ,List.filter_append];simp[hd]
theorem Ph2.enter {l:List uW} {k:Nat} {s:St} (h:Ph2 l k s) (b:Nat):Ph3 l k 0 (s.Xr k b) where
 D i:=h.D i
 S i:=by
  show (i=k\/s.S i) ↔ _
  rw[h.S];exact Or.comm
 M i hi hS x:=by
  show VW s.M k (fun _=>False) i x ↔ _
  rw[sS _ _ (by omega)];refine h.M i ?_ x;rcases hS with e|e
  ·omega
  exact e
 Mk x:=by
  show VW s.M k (fun _=>False) k x ↔ _
  rw[zy];simp
 U x:=by
  show s.U x=_
  rw[h.U];simp
 R:=h.R
 vo:=h.vo
 O:=h.O
theorem yA {α:Type} {l:List α} {j:Nat} (hj:j<l.length) (x:α):x∈l.take (j+1) ↔ x∈l.take j\/x=l[j]:=by
 rw[aO hj,aN,aG]
theorem Ph3.skip {l:List uW} {k j:Nat} {s:St} (h:Ph3 l k j s) (hj:j<(jy l k).length) (hf:gA l (jy l k)[j]=none):Ph3 l k (j+1) s:=by
 have hx:∀x,((gA l x).isSome=true/\x∈(jy l k).take (j+1)) ↔ ((gA l x).isSome=true/\x∈(jy l k).take j):=fun x=>by
  rw[yA hj];constructor
  ·rintro⟨h1,h2|rfl⟩
   ·exact⟨h1,h2⟩
   rw[hf] at h1;cases h1
  rintro⟨h1,h2⟩;exact⟨h1,aoX h2⟩
 exact { h with
  Mk:=fun x=>by rw[h.Mk,and_comm,<-hx x,and_comm]
  U:=fun x=>by
   rw[h.U];by_cases hc:(gA l x).isSome=true/\x∈(jy l k).take j
   ·rw[bM hc,bM ((hx x).2 hc)]
   rw[bL hc,bL fun h'=>hc ((hx x).1 h')] }
theorem Ph3.step {l:List uW} {k j:Nat} {s:St} (h:Ph3 l k j s) (hj:j<(jy l k).length) (hf:(gA l (jy l k)[j]).isSome=true) (hnd:(jy l k).Nodup) (v:Value) :
  Ph3 l k (j+1) ((s.aiu k fun x=>x=(jy l k)[j]\/s.M k x).apr (jy l k)[j] v (s.U (jy l k)[j]++[k])):=by
 have hnot:(jy l k)[j]∉(jy l k).take j:=by
  intro hm;obtain⟨q,hq,e⟩:=aW.1 hm;have jA:q<j:=by simp at hq;omega
  rw[List.getElem_take] at e;have:=(List.pairwise_iff_getElem.1 hnd) q j (by omega) hj jA;exact this e
 refine { D:=h.D,S:=h.S,M:=fun i hi hS x=>?_,Mk:=fun x=>?_,U:=fun x=>?_,R:=h.R,vo:=h.vo,O:=h.O }
 ·show VW s.M k _ i x ↔ _
  rw[sS _ _ (by omega)];exact h.M i hi hS x
 ·show VW s.M k _ k x ↔ _
  rw[zy,yA hj,h.Mk];constructor
  ·rintro(rfl|⟨h1,h2⟩)
   ·exact⟨a4Z rfl,hf⟩
   exact⟨aoX h1,h2⟩
  rintro⟨h1|rfl,h2⟩
  ·exact a4Z ⟨h1,h2⟩
  exact aoX rfl
 show upS s.U (jy l k)[j] (s.U (jy l k)[j]++[k]) x=_
 by_cases e:x=(jy l k)[j]
 ·rw[e,xY,bM ⟨hf,(yA hj _).2 (a4Z rfl)⟩,h.U,bL fun h'=>hnot h'.2]
 rw[sR _ _ e,h.U];have hx:((gA l x).isSome=true/\x∈(jy l k).take (j+1)) ↔ ((gA l x).isSome=true/\x∈(jy l k).take j):=by
  rw[yA hj];exact⟨fun ⟨h1,h2⟩=>⟨h1,h2.resolve_right e⟩,fun ⟨h1,h2⟩=>⟨h1,aoX h2⟩⟩
 by_cases hc:(gA l x).isSome=true/\x∈(jy l k).take j
 ·rw[bM hc,bM (hx.2 hc)]
 rw[bL hc,bL fun h'=>hc (hx.1 h')]
theorem Ff {l:List uW} {x:BA}:(gA l x).isSome=true ↔ ∃d,gA l x=some d:=by
 cases gA l x<;>simp
theorem axw {l:List uW} {k:Nat} (hd:iD l k=true) (x:BA):UL l (k+1) x=if (gA l x).isSome=true/\x∈jy l k then UL l k x++[k] else UL l k x:=by
 unfold UL;by_cases hs:(gA l x).isSome=true
 ·simp only[hs,if_true,true_and];rw[List.range_succ,List.filter_append];by_cases hm:x∈jy l k
  ·rw[bM hm]
   congr 1
   have:((jy l k).any fun y=>decide (y=x))=true:=List.any_eq_true.2 ⟨x,hm,by simp⟩;simp[hd,this]
  rw[bL hm];have:((jy l k).any fun y=>decide (y=x))=false:=by
   rw[List.any_eq_false];intro y hy;simp only[aH];intro e;exact hm (e ▸ hy)
  simp[hd,this]
 simp[hs]
theorem Ph3.leave {l:List uW} {k:Nat} {s:St} (h:Ph3 l k (jy l k).length s) (hd:iD l k=true) (he:mY l [] k≠[]):Ph2 l (k+1) (s.ax6 k)/\Mo l (k+1)=Mo l k+1:=by
 have hi:∀i,(i<k+1/\iD l i=true) ↔ (i=k\/(i<k/\iD l i=true)):=fun i=>⟨fun ⟨h1,h2⟩=>by
  rcases bJ i k with h'|h'
  ·exact a4Z ⟨h',h2⟩
  ·exact aoX (by omega),fun h'=>by
  rcases h' with rfl|⟨h1,h2⟩
  ·exact⟨by omega,hd⟩
  exact⟨by omega,h2⟩⟩
 refine⟨{ D:=fun i=>?_,S:=fun i=>?_,M:=fun i hS x=>?_,U:=fun x=>?_,R:=?_,vo:=h.vo,O:=h.O },?_⟩
 ·show (i=k\/s.D i) ↔ _
  rw[h.D,hi]
 ·show s.S i ↔ _
  rw[h.S,hi,Or.comm]
 ·show s.M i x ↔ _
  by_cases e:i=k
  ·subst e;rw[h.Mk,List.take_length,yh];constructor
   ·rintro⟨h1,h2⟩;obtain⟨d,hd⟩:=Ff.1 h2;exact⟨h1,d,hd,by simp⟩
   rintro⟨h1,d,h2,_⟩;exact⟨h1,Ff.2 ⟨d,h2⟩⟩
  refine h.M i ?_ hS x;have:=(h.S i).1 hS;omega
 ·show s.U x=_
  rw[h.U,List.take_length,axw hd]
 ·refine h.R.trans (List.Perm.of_eq ?_);unfold RL;rw[List.range_succ,List.filter_append];simp[hd,he]
 unfold Mo;rw[List.range_succ,List.filter_append];simp[hd]
theorem Ph3.leave0 {l:List uW} {k:Nat} {s:St} (h:Ph3 l k (jy l k).length s) (hd:iD l k=true) (he:mY l [] k=[]) {pv:Value} {R:ZI} (hR:R.Perm (s.R++[(k:Int)])):Ph2 l (k+1) ((s.ax6 k).abh pv R)/\Mo l (k+1)=Mo l k+1:=by
 have hi:∀i,(i<k+1/\iD l i=true) ↔ (i=k\/(i<k/\iD l i=true)):=fun i=>⟨fun ⟨h1,h2⟩=>by
  rcases bJ i k with h'|h'
  ·exact a4Z ⟨h',h2⟩
  ·exact aoX (by omega),fun h'=>by
  rcases h' with rfl|⟨h1,h2⟩
  ·exact⟨by omega,hd⟩
  exact⟨by omega,h2⟩⟩
 refine⟨{ D:=fun i=>?_,S:=fun i=>?_,M:=fun i hS x=>?_,U:=fun x=>?_,R:=?_,vo:=h.vo,O:=h.O },?_⟩
 ·show (i=k\/s.D i) ↔ _
  rw[h.D,hi]
 ·show s.S i ↔ _
  rw[h.S,hi,Or.comm]
 ·show s.M i x ↔ _
  by_cases e:i=k
  ·subst e;rw[h.Mk,List.take_length,yh];constructor
   ·rintro⟨h1,h2⟩;obtain⟨d,hd⟩:=Ff.1 h2;exact⟨h1,d,hd,by simp⟩
   rintro⟨h1,d,h2,_⟩;exact⟨h1,Ff.2 ⟨d,h2⟩⟩
  refine h.M i ?_ hS x;have:=(h.S i).1 hS;omega
 ·show s.U x=_
  rw[h.U,List.take_length,axw hd]
 ·refine hR.trans ?_;have e:Kh (RL l (k+1))=Kh (RL l k)++[(k:Int)]:=by
   unfold RL Kh;rw[List.range_succ,List.filter_append,List.map_append];simp[hd,he]
  rw[e];exact List.Perm.append_right _ h.R
 unfold Mo;rw[List.range_succ,List.filter_append];simp[hd]
theorem FY (l:ZB):(jB l).length<=l.length:=by have:=aai l [];simpa[jB] using this
mutual
theorem UI:(e:Ex)->e.fits->∀x∈fX e,x.size<=1000000000000000
 | .mk op name words lo hi args,h,x,hx=>by
  obtain⟨h1,h2⟩:=Mf h;rw[fX,aN] at hx;rcases hx with hx|hx
  ·split at hx
   ·simp at hx;subst hx;exact h1
   simp at hx
  exact age args h2 x hx
theorem age:(l:List Ex)->(∀y∈l,y.fits)->∀x∈iH l,x.size<=1000000000000000
 | [],_,x,hx=>by rw[iH] at hx;simp at hx
 | e::r,h,x,hx=>by
  rw[iH,aN] at hx;rcases hx with hx|hx
  ·exact UI e (h e (by simp)) x hx
  exact age r (fun y hy=>h y (by simp[hy])) x hx
end
def tb (k:Nat):Nat:=1000+k*1000000
theorem al' (k:Nat):tb k+1000000<=tb (k+1):=by unfold tb;omega
theorem aJR {k:Nat} (h:k<=1000):tb k<=2000000000:=by unfold tb;omega
theorem aGP:1000<=tb 0:=by unfold tb;omega
theorem aMS (l:List uW) (k:Nat):Mo l k<=k:=by
 unfold Mo;have:=List.length_filter_le (iD l) (List.range k);simpa using this
theorem aKl (l:List uW) (k:Nat) (x:BA):(UL l k x).length<=k:=by
 unfold UL;split
 ·have:=List.length_filter_le (fun i=>iD l i&&(jy l i).any fun y=>decide (y=x)) (List.range k);simpa using this
 simp
theorem aSm (l:List uW) (k:Nat):(RL l k).length<=k:=by
 unfold RL;have:=List.length_filter_le (fun i=>iD l i&&(mY l [] i).isEmpty) (List.range k);simpa using this
structure Ph4 (l:List uW) (s:St):Prop where
 D:∀i,s.D i ↔ iD l i=true
 S:∀i,s.S i ↔ iD l i=true
 M:∀i,iD l i=true->∀x,s.M i x ↔ x∈mY l s.O i
 U:∀x,s.U x=UL l l.length x
 inv:∃R,s.R.Perm (Kh R)/\Lo l s.O R
theorem Ph2.finish {l:List uW} {s:St} (h:Ph2 l l.length s):Ph4 l s where
 D i:=(h.D i).trans ⟨fun h=>h.2,fun h=>⟨mz h,h⟩⟩
 S i:=(h.S i).trans ⟨fun h=>h.2,fun h=>⟨mz h,h⟩⟩
 M i hi x:=by rw[h.O];exact h.M i ((h.S i).2 ⟨mz hi,hi⟩) x
 U:=h.U
 inv:=⟨RL l l.length,h.R,by rw[h.O];exact Lo.start l⟩
theorem ayR {R:ZN} {z:Int} {ys:ZI} (h:(Kh R).Perm (z::ys)):∃(i:Nat) (R':ZN),z=i/\R.Perm (i::R')/\ys.Perm (Kh R'):=by
 have hz:z∈Kh R:=h.mem_iff.2 (by simp);obtain⟨i,hi,rfl⟩:=List.mem_map.1 hz;refine⟨i,R.erase i,rfl,List.perm_cons_erase hi,?_⟩;have h1:(Kh R).Perm (Kh (i::R.erase i)):=(List.perm_cons_erase hi).map _;have h2:(Kh (i::R.erase i))=(i:Int)::Kh (R.erase i):=rfl;rw[h2] at h1;exact List.Perm.cons_inv (h.symm.trans h1)
theorem Wi {l:List uW} {o:ZN} {i u:Nat} (hf:gA l (nameAt l i)=some i) (x:BA):x∈mY l (o++[i]) u ↔ (x∈mY l o u/\x≠nameAt l i):=by
 rw[yh,yh];constructor
 ·rintro⟨h1,d,h2,h3⟩;simp only[aN,aG,not_or] at h3;refine⟨⟨h1,d,h2,h3.1⟩,fun e=>?_⟩;rw[e,hf] at h2;cases h2
  exact h3.2 rfl
 rintro⟨⟨h1,d,h2,h3⟩,h4⟩;refine⟨h1,d,h2,?_⟩;simp only[aN,aG,not_or];exact⟨h3,fun e=>h4 (by rw[<-e];exact(abQ h2).2.symm)⟩
structure Ph5 (l:List uW) (o:ZN) (i:Nat) (R':ZN) (uv:BA->Option Value) (vo:Value) (j:Nat) (s:St):Prop where
 D:∀i,s.D i ↔ iD l i=true
 S:∀i,s.S i ↔ iD l i=true
 M:∀u,iD l u=true->∀x,s.M u x ↔ x∈mY l (if u∈(UL l l.length (nameAt l i)).take j then o++[i] else o) u
 U:∀x,s.U x=UL l l.length x
 uv:s.uv=uv
 O:s.O=o++[i]
 vo:s.vo=vo
 R:s.R.Perm (Kh (R'++((UL l l.length (nameAt l i)).take j).filter fun u=>(mY l (o++[i]) u).isEmpty))
theorem aE0 (l:List uW) (k:Nat) (x:BA):(UL l k x).Nodup:=by
 unfold UL;split
 ·exact List.nodup_range.filter _
 exact List.nodup_nil
theorem asl {l:List uW} {x:BA} {d:Nat} (h:gA l x=some d):UL l l.length x=Uy l x:=by
 unfold UL Uy;rw[h];rfl
theorem aE1 {l:List uW} {k:Nat} {x:BA} {u:Nat} (h:u∈UL l k x):iD l u=true/\x∈jy l u:=by
 unfold UL at h;split at h
 ·simp only[List.mem_filter,aF,List.any_eq_true,aH,exists_eq_right] at h;exact h.2
 simp at h
theorem Ph5.start {l:List uW} {s:St} {R':ZN} {i:Nat} {R1:ZI} {pv vo:Value} (h:Ph4 l s) (hR:R1.Perm (Kh R')):Ph5 l s.O i R' s.uv vo 0 ((s.abh pv R1).atI vo (s.O++[i])) where
 D:=h.D
 S:=h.S
 M u hu x:=by
  show s.M u x ↔ _
  simpa using h.M u hu x
 U:=h.U
 uv:=rfl
 O:=rfl
 vo:=rfl
 R:=by
  show R1.Perm _
  simpa using hR
theorem aqp {α:Type} {l:List α} (h:l.Nodup) {j:Nat} (hj:j<l.length):l[j]∉l.take j:=by
 intro hm;obtain⟨q,hq,e⟩:=aW.1 hm;have jA:q<j:=by simp at hq;omega
 rw[List.getElem_take] at e;exact(List.pairwise_iff_getElem.1 h) q j (by omega) hj jA e
theorem Ph5.del {l:List uW} {o:ZN} {i:Nat} {R':ZN} {uv:BA->Option Value} {vo:Value} {j:Nat} {s:St} (h:Ph5 l o i R' uv vo j s) (hf:gA l (nameAt l i)=some i) (hj:j<(UL l l.length (nameAt l i)).length)
  {u:Nat} (hu:u=(UL l l.length (nameAt l i))[j]):(∀y,(s.M u y/\y≠nameAt l i) ↔ y∈mY l (o++[i]) u)/\((mY l (o++[i]) u).isEmpty=false->Ph5 l o i R' uv vo (j+1) (s.aiu u fun y=>s.M u y/\y≠nameAt l i)) /\
  ((mY l (o++[i]) u).isEmpty=true->∀pv R1,R1.Perm (s.R++[(u:Int)])->Ph5 l o i R' uv vo (j+1) ((s.aiu u fun y=>s.M u y/\y≠nameAt l i).abh pv R1)):=by
 have hud:=aE1 (show u∈UL l l.length (nameAt l i) by rw[hu];exact aD hj);have hnt:u∉(UL l l.length (nameAt l i)).take j:=by rw[hu];exact aqp (aE0 l _ _) hj
 have key:∀y,(s.M u y/\y≠nameAt l i) ↔ y∈mY l (o++[i]) u:=fun y=>by
  rw[h.M u hud.1,bL hnt,Wi hf]
 have hM:∀v,iD l v=true->∀x,(VW s.M u fun y=>s.M u y/\y≠nameAt l i) v x ↔ x∈mY l (if v∈(UL l l.length (nameAt l i)).take (j+1) then o++[i] else o) v:=by
  intro v hv x;by_cases e:v=u
  ·subst e;rw[zy,bM ((yA hj _).2 (a4Z hu))];exact key x
  rw[sS _ _ e,h.M v hv];have:v∈(UL l l.length (nameAt l i)).take (j+1) ↔ v∈(UL l l.length (nameAt l i)).take j:=by
   rw[yA hj];exact⟨fun h=>h.resolve_right (by rw[<-hu];exact e),aoX⟩
  by_cases hc:v∈(UL l l.length (nameAt l i)).take j
  ·rw[bM hc,bM (this.2 hc)]
  rw[bL hc,bL fun h'=>hc (this.1 h')]
 refine⟨key,fun hne=>?_,fun hem pv R1 hR1=>?_⟩
 ·refine { h with M:=hM,R:=?_ };refine h.R.trans (List.Perm.of_eq ?_);rw[aO hj,List.filter_append,<-hu];simp[hne]
 refine { h with M:=hM,R:=?_ };refine hR1.trans ?_;rw[aO hj,List.filter_append,<-hu];have e:Kh (R'++(((UL l l.length (nameAt l i)).take j).filter (fun u=>(mY l (o++[i]) u).isEmpty)++[u].filter fun u=>(mY l (o++[i]) u).isEmpty))=Kh (R'++((UL l l.length (nameAt l i)).take j).filter fun u=>(mY l (o++[i]) u).isEmpty)++[(u:Int)]:=by
  simp[Kh,hem]
 rw[e];exact List.Perm.append_right _ h.R
theorem Ph5.finish {l:List uW} {o:ZN} {i:Nat} {R R':ZN} {uv:BA->Option Value} {vo:Value} {s:St} (h:Ph5 l o i R' uv vo (UL l l.length (nameAt l i)).length s) (hf:gA l (nameAt l i)=some i) (hi:Lo l o R) (hR:R.Perm (i::R')):Ph4 l s where
 D:=h.D
 S:=h.S
 M u hu x:=by
  rw[h.M u hu,h.O,List.take_length];by_cases hc:u∈UL l l.length (nameAt l i)
  ·rw[bM hc]
  rw[bL hc,Wi hf];refine⟨fun hx=>⟨hx,fun e=>hc ?_⟩,fun hx=>hx.1⟩;have h1:=(yh.1 hx).1;rw[e] at h1;rw[asl hf];unfold Uy;simp only[List.mem_filter,a43,aF,List.any_eq_true,aH,exists_eq_right];exact⟨mz hu,hu,h1⟩
 U:=h.U
 inv:=by
  refine⟨R'++akY l o i,?_,by rw[h.O];exact hi.first hR hf⟩;have:=h.R;rw[List.take_length,asl hf] at this;exact this
theorem Ph4.other {l:List uW} {s:St} {R R':ZN} {i:Nat} {R1:ZI} {pv vo:Value} (h:Ph4 l s) (hi:Lo l s.O R) (hR:R.Perm (i::R')) (hR1:R1.Perm (Kh R')) (hn:∀x,gA l x≠some i):Ph4 l ((s.abh pv R1).atI vo (s.O++[i])) where
 D:=h.D
 S:=h.S
 M u hu x:=by
  show s.M u x ↔ x∈mY l (s.O++[i]) u
  rw[h.M u hu,yh,yh];constructor
  ·rintro⟨h1,d,h2,h3⟩;refine⟨h1,d,h2,?_⟩;simp only[aN,aG,not_or];exact⟨h3,fun e=>hn x (by rw[h2,e])⟩
  rintro⟨h1,d,h2,h3⟩;simp only[aN,aG,not_or] at h3;exact⟨h1,d,h2,h3.1⟩
 U:=h.U
 inv:=⟨R',hR1,hi.other hR hn⟩
theorem aIA (l:List uW):Mo l l.length=lY l:=rfl
theorem anm {l:List uW} {i:Nat} (h:iD l i=true):∃d,gA l (nameAt l i)=some d/\d<=i:=by
 have hlt:=mz h;cases hf:gA l (nameAt l i) with
 | none =>
  unfold gA at hf;rw[bh] at hf;have:=hf l[i] (aD hlt);unfold iD at h;unfold nameAt at this;rw[aT hlt] at h this;simp[h] at this
 | some d =>
  refine⟨d,rfl,?_⟩;unfold gA at hf;rw[aJ] at hf;obtain⟨_,_,h3⟩:=hf;rcases bJ i d with h'|h'
  ·have:=h3 i h';unfold iD at h;unfold nameAt at this;rw[aT hlt] at h this;simp[h] at this
  exact h'
def L2 (w:World) (dl:List uW) (bf bu bm bp n:Nat) (cnt i:Value) (wr:World):Prop:=∃k t s,k<=n/\i=.int .i64 k/\cnt=.int .i64 (Mo dl k)/\t<=tb k/\OB w dl bf bu bm bp t s wr/\Ph2 dl k s
def L3 (w:World) (dl:List uW) (bf bu bm bp k nb:Nat) (names:ZB) (an:OA) (m cn:Nat) (i:Value) (wr:World):Prop:=∃j t s,j<=m/\i=.int .i64 j/\t<=tb k+3*j+1/\OB w dl bf bu bm bp t s wr/\Ph3 dl k j s/\s.mb k=nb /\
 fS wr names an m cn/\∀b off,an=some ⟨b,off,none⟩->s.ρ b=.none
def L4 (w:World) (dl:List uW) (bf bu bm bp t m:Nat) (ord:Value) (wr:World):Prop:=∃s,m=lY dl - s.O.length/\OB w dl bf bu bm bp t s wr/\ord=s.vo/\Ph4 dl s
theorem am1 {w:World} {base:Nat} {e:TypeId} {o:ZN} {a:OA} {n c:Nat} (h:w.ownsRow base e 1 (.slice a n c) o.length (Q9 o)) (hn:n=o.length):FK w (ints o) a n c:=by
 subst hn;rcases h.2 with ⟨hv,h0⟩|⟨g,cap,cur,hv,_,hg,hle,_,_,_⟩
 ·simp only[a45] at hv;obtain⟨rfl,_,rfl⟩:=hv;have:o=[]:=aR h0;subst this;exact⟨rfl,by simp,aoX ⟨rfl,rfl⟩,fun i hi=>by simp[ints] at hi⟩
 simp only[a45] at hv;obtain⟨rfl,_,rfl⟩:=hv;refine⟨by simp[ints],hle,a4Z ⟨g,0,rfl⟩,fun i hi=>⟨g,0,rfl,?_⟩⟩;have hi':i<o.length:=by simpa[ints] using hi
 rw[Nat.zero_add,h.cellAt i (by omega)];simp[Q9,ints,hi']
def L5 (w:World) (dl:List uW) (bf bu bm bp t:Nat) (o:ZN) (i:Nat) (R':ZN) (uv:BA->Option Value) (vo:Value) (m:Nat) (q:Value) (wr:World):Prop:=∃j s,j<=m/\q=.int .i64 j/\OB w dl bf bu bm bp t s wr/\Ph5 dl o i R' uv vo j s
theorem mC:uq 26 3 (.int .i64 0) 1 8:=⟨by kernel_rfl,by kernel_rfl,rfl,by omega⟩
theorem akt (m:BA->Prop) (x:BA) (y:Lit):Rw (kV (Fb m)) (.string x.data.toList) (some (.agg #[])) y=kV (Fb fun z=>z=x\/m z) y:=by
 rw[Dm];cases y<;>try rfl
 rename_i bs
 simp only[kV];by_cases e:(⟨bs.toArray⟩:BA)=x
 ·rw[e,xY];simp[Fb]
 rw[sR _ _ e];by_cases h:m ⟨bs.toArray⟩<;>simp[Fb,e,h]
theorem aCP (m:BA->Prop) (x:BA) (y:Lit):Rw (kV (Fb m)) (.string x.data.toList) none y=kV (Fb fun z=>m z/\z≠x) y:=by
 rw[Dm];cases y<;>try rfl
 rename_i bs
 simp only[kV];by_cases e:(⟨bs.toArray⟩:BA)=x
 ·rw[e,xY];simp[Fb]
 rw[sR _ _ e];by_cases h:m ⟨bs.toArray⟩<;>simp[Fb,e,h]
theorem aj1 (m:BA->Prop):(∀x,WideAt.IsKeyLit x->kV (Fb m) x=none) ↔ ∀y,¬m y:=by
 constructor
 ·intro h y hy;have:=h (.string y.data.toList) trivial;rw[oQ] at this;simp[Fb,hy] at this
 intro h x _;cases x<;>try rfl
 simp[kV,Fb,h]
theorem aBp {l:ZB} (h:Up l):l.Nodup:=h.imp fun {a b} hab e=>by rw[e] at hab;exact a40 hab (List.lt_irrefl _)
theorem Gw (l:List Cl) (a:OA) (n c:Nat) (w:World) (hl:GR w l a n c) (hn:n<=1000) (hsz:∀x∈l,x.cond.size<=100000/\x.cond.fits/\x.name.size<=1000000000000000) :
  Calls Tryz.prog 80 #[.slice a n c] w (aNp (l.map Cl.tV) w):=by
 have HL:=ai hl;have HN:=ai hl.len;have tR:=ai hsz;obtain⟨dl,hdl⟩:∃dl,dl=l.map Cl.tV:=⟨_,rfl⟩
 have QL:=ai hdl;rw[<-hdl];clear hl hsz hdl;have hmm:=@run_makeMap Tryz.prog;have Uj:=ai (ig.made w 9);have BO:=ai ((Tz w).alloc (.map #[] 0));obtain⟨bf,Qd⟩:∃bf:Nat,bf=w.heap.size:=⟨_,rfl⟩
 rw[<-Qd] at Uj;have HBF:=ai Qd;go_enter Tryz.func80,Tryz.ntmps80
 go_wp2_with fail;rw[<-Qd];clear Qd hmm;go_loopw [29] (fun i wr=>∃k:Nat,k<=n/\i=.int .i64 k/\ig wr 9 bf k (kV (zT (dl.take k)))/\Ext w wr) (fun i _=>n - (intOf i).toNat)
 case atStart =>
  refine⟨0,by omega,rfl,Uj.o.congr fun x=>?_,BO.o⟩;cases x<;>simp[kV,zT,gA]
 case round =>
  obtain⟨k,hk,rfl,hmap,hx⟩:=hrel;have En:=ai hmap;have HX:=ai hx;have qL:=hmap.lt;clear hmap hx Uj BO;by_cases hlt:k<n
  ·have hlt':k<l.length:=by have:=HN.o;omega
   have t1:decide ((k:Int)<(n:Int))=true:=by simp;omega
   obtain⟨b,off,v,rfl,q1,q2,q3,c0,c1,c2,c3,c4,c5,c6,c7,c8,c9⟩:=(HL.o.ext HX.o).aM3 hlt';have hdk:dl[k]?=some l[k].tV:=by rw[QL.o];simp[hlt']
   have zP:v.name.size<=1000000000000000:=by rw[q2];exact(tR.o _ (aD hlt')).2.2
   have DK:=eB c0;simp only at DK;have azk:k<dl.length:=by rw[QL.o];simpa using hlt'
   have e0:dl[k]=l[k].tV:=by simp only[QL.o];simp
   have HEI:=ai (show dl[k].is=(v.kind==1) by rw[e0,q1];rfl);have Li:=ai (show dl[k].name=v.name by rw[e0,q2];rfl);have HST:=ai (@arv dl k azk);have Na:=ai (@arw dl k azk);rw[Li.o,HEI.o] at HST Na;clear e0 hdk q1 q2 q3 HEI Li;cases qx:gA (dl.take k) v.name with
   | none =>
    have HF:=ai (ac8 qx);cases tC:(v.kind==1)
    ·have Nd:=ai (Na.o (aoX tC));go_wp2_with (at_lookup;refine gO _ rfl _ _ 136 rfl 9 3 gU JM (IJ _) bf k _ rfl (En.o.ext ((Tz wr).alloc _)) _ _ rfl (lB zP) trivial ?_;rw[HF.o]);go_roundw
     case rel=>exact⟨k+1,by omega,by go_num,((En.o.ext ((Tz wr).alloc _)).more (by omega)).congr Nd.o,HX.o.alloc _⟩
     case measure=>simp[intOf];omega
    have Nd:=ai (HST.o tC qx);clear qx;go_wp2_with (first
     | (at_lookup;refine gO _ rfl _ _ 136 rfl 9 3 gU JM (IJ _) bf k _ rfl (En.o.ext ((Tz wr).alloc _)) _ _ rfl (lB zP) trivial ?_;rw[HF.o])
     | (at_mapUpdate;refine lR _ rfl _ _ _ 136 rfl 9 3 gU JM bf k _ rfl (En.o.ext ((Tz wr).alloc _)) ?c3 _ _ _ rfl rfl (lB zP) trivial ?_))
    case c3=>unfold maxLen;omega
    intro w1 hm1 hc1;have WO:=ai (hm1.congr Nd.o);have dI:=ai (hc1.ext (HX.o.alloc _) (by rw[<-HBF.o];simp));clear hm1 hc1;go_wp2_with fail;go_roundw
    case rel=>exact⟨k+1,by omega,by go_num,WO.o,dI.o⟩
    case measure=>simp[intOf];omega
   | some d =>
    have HF:=ai (TL qx);have Nd:=ai (Na.o (a4Z (by rw[qx];simp)));clear qx;cases tC:(v.kind==1)
    all_goals
     go_wp2_with (at_lookup;refine gO _ rfl _ _ 136 rfl 9 3 gU JM (IJ _) bf k _ rfl (En.o.ext ((Tz wr).alloc _)) _ _ rfl (lB zP) trivial ?_;rw[HF.o]);go_roundw
     case rel=>exact⟨k+1,by omega,by go_num,((En.o.ext ((Tz wr).alloc _)).more (by omega)).congr Nd.o,HX.o.alloc _⟩
     case measure=>simp[intOf];omega
  have hkn:k=dl.length:=by rw[QL.o];have:=HN.o;simp;omega
  have WO:=ai (show ig wr 9 bf 1000 (kV (zT dl)) by have:=En.o;rw[hkn,List.take_length] at this;exact this.more (by omega));have mJ:=ai HX.o;have aW2:w.heap.size<=bf:=by rw[HBF.o];exact aU _
  have HOB:=ai (OB.start WO.o HX.o aW2);have hmm:=@run_makeMap Tryz.prog;clear WO En qL hkn;go_upto_region 13 with fail;clear hmm hk hlt;generalize ((wr.alloc (.cells #[.slice none 0 0] 171)).alloc (.map #[] 0)).alloc (.map #[] 0)=wa at *;obtain⟨bp,U1⟩:∃bp:Nat,bp=wr.heap.size:=⟨_,rfl⟩
  obtain⟨bm,hbm⟩:∃bm:Nat,bm=wr.heap.size+1:=⟨_,rfl⟩
  obtain⟨bu,hbu⟩:∃bu:Nat,bu=wr.heap.size+2:=⟨_,rfl⟩
  rw[show wr.heap.size+1+1=wr.heap.size+2 from rfl];rw[<-hbu,<-hbm,<-U1] at HOB ⊢;clear U1 hbm hbu HX mJ;go_wp2_with fail;go_loopw [9,59] (L2 w dl bf bu bm bp n) (fun _ i _=>n - (intOf i).toNat)
  case atStart=>exact⟨0,1000,_,by omega,rfl,rfl,aGP,HOB.o,Ph2.start _ _ _ _ _⟩
  case round =>
   obtain⟨k2,t,s,hk2,rfl,rfl,ht,hob,hph⟩:=hrel;have tX:=ai hob;have oZ:=ai hph;have hcl:=aMS dl k2;clear hob hph HOB;by_cases hlt:k2<n
   ·have hlt':k2<l.length:=by have:=HN.o;omega
    have t1:decide ((k2:Int)<(n:Int))=true:=by simp;omega
    obtain⟨b,off,v,rfl,q1,q2,q3,c0,c1,c2,c3,c4,c5,c6,c7,c8,c9⟩:=(HL.o.ext tX.o.ext).aM3 hlt';have DK:=eB c0;simp only at DK;have azk:k2<dl.length:=by rw[QL.o];simpa using hlt'
    have e0:dl[k2]=l[k2].tV:=by simp only[QL.o];simp
    have HDF:=ai (show iD dl k2=(v.kind==1) by unfold iD;rw[aT azk,e0,q1];rfl);have HUS:=ai (show jy dl k2=jB (fX l[k2].cond) by unfold jy;rw[aT azk,e0];rfl);have RT:=ai q3;obtain⟨hs1,hs2,hs3⟩:=tR.o _ (aD hlt');have oB:=ai hs2;clear e0 q1 q2 q3 hs2;cases tC:(v.kind==1)
    ·have tk:(v.kind != 1)=true:=by simp[bne,tC]
     have HPS:=ai (oZ.o.skip (HDF.o.trans tC));go_wp2_with fail;go_roundw
     case rel=>exact⟨k2+1,t,s,by omega,by go_num,congrArg (fun q:Nat=>Value.int .i64 (q:Int)) HPS.o.2.symm,by have:=al' k2;omega,tX.o.Ot ((Tz _).alloc _),HPS.o.1⟩
     case measure=>simp[intOf];omega
    have tk:(v.kind != 1)=false:=by simp[bne,tC]
    have hmm:=@run_makeMap Tryz.prog;have HD:=ai (HDF.o.trans tC);clear HDF;have hnb:¬s.S k2:=fun h=>by have:=(oZ.o.S k2).1 h;omega
    go_wp2_with fail;clear hmm;obtain⟨nm,hnm⟩:∃nm,nm=jB (fX l[k2].cond):=⟨_,rfl⟩
    have hnl:nm.length<=100000:=by rw[hnm];exact aV (FY _) (aV (zM _) hs1)
    have HUP:=ai (show nm.Nodup by rw[hnm];exact aBp (acD _));have G7:=ai (show ∀x∈nm,x.size<=1000000000000000 by
     intro x hx;rw[hnm,sx] at hx;exact UI _ oB.o x hx)
    refine(BD l[k2].cond _ _ (by omega) oB.o (RT.o.ext (((Tz wr).alloc _).alloc _))).mono ?_;rw[<-hnm];rw[<-hnm] at HUS;rintro r w1 ⟨an,cn,rfl,hst,hx1,aQS⟩;have HST:=ai hst;have aLU:=(tX.o.Ot ((Tz wr).alloc (.cells #[.int .i64 v.kind,.string v.name,.int .i64 v.x.op,.string v.x.name,.slice v.x.aw v.x.nw v.x.cw,.int .i64 v.x.lo,.int .i64 v.x.hi,.slice v.x.aa v.x.na v.x.ca,.slice v.au v.nu v.cu,.int .i64 v.ck] 48))).Xr hnb;have vF:=ai (aLU.Ot hx1);have EN:=ai (oZ.o.enter (wr.alloc (.cells #[.int .i64 v.kind,.string v.name,.int .i64 v.x.op,.string v.x.name,.slice v.x.aw v.x.nw v.x.cw,.int .i64 v.x.lo,.int .i64 v.x.hi,.slice v.x.aa v.x.na v.x.ca,.slice v.au v.nu v.cu,.int .i64 v.ck] 48)).heap.size);have HFR:=ai (show ∀b off,an=some ⟨b,off,none⟩->(s.Xr k2 (wr.alloc (.cells #[.int .i64 v.kind,.string v.name,.int .i64 v.x.op,.string v.x.name,.slice v.x.aw v.x.nw v.x.cw,.int .i64 v.x.lo,.int .i64 v.x.hi,.slice v.x.aa v.x.na v.x.ca,.slice v.au v.nu v.cu,.int .i64 v.ck] 48)).heap.size).ρ b=.none from fun b off e=>aLU.fresh b (aQS b off e));obtain⟨nb,XE⟩:∃nb:Nat,nb=wr.heap.size+1:=⟨_,rfl⟩
    have e4:(wr.alloc (.cells #[.int .i64 v.kind,.string v.name,.int .i64 v.x.op,.string v.x.name,.slice v.x.aw v.x.nw v.x.cw,.int .i64 v.x.lo,.int .i64 v.x.hi,.slice v.x.aa v.x.na v.x.ca,.slice v.au v.nu v.cu,.int .i64 v.ck] 48)).heap.size=nb:=by rw[XE];simp
    rw[e4] at vF EN HFR;have pX:=ai (show (s.Xr k2 nb).mb k2=nb by show VW s.mb k2 nb k2=nb;exact zy _ _ _);rw[<-XE];generalize s.Xr k2 nb=s3 at *;clear aLU hx1 hst aQS e4 XE hnb c0 c1 c2 c3 c4 c5 c6 c7 c8 c9 tX oZ tC tk DK RT oB;clear hnm;go_wp2_with fail;go_loopw [74] (L3 w dl bf bu bm bp k2 nb nm an nm.length cn) (fun i _=>nm.length - (intOf i).toNat)
    case atStart=>exact⟨0,t,s3,by omega,rfl,by omega,vF.o,EN.o,pX.o,HST.o,HFR.o⟩
    case round =>
     obtain⟨j,t3,s,hj,rfl,ht3,hob,hph,hmb,hst,hfr⟩:=hrel;have HO:=ai hob;have HP:=ai hph;have HS:=ai hst;have HR:=ai hfr;have HMB:=ai hmb;have htb:=aJR (show k2<=1000 by omega);clear hob hph hst hfr hmb vF EN HST HFR pX;by_cases hjl:j<nm.length
     ·have tj:decide ((j:Int)<(nm.length:Int))=true:=by simp;omega
      obtain⟨bn,ayN,rfl,cn0⟩:=HS.o.2.2.2 j hjl;have uM:=G7.o _ (aD hjl);have hju:j<(jy dl k2).length:=by rw[HUS.o];exact hjl
      have HXJ:=ai (show (jy dl k2)[j]=nm[j] by simp only[HUS.o]);have hSk:s.S k2:=(HP.o.S k2).2 (a4Z rfl);cases qx:gA dl nm[j] with
      | none =>
       have HF:=ai (ac8 qx);have HPN:=ai (HP.o.skip hju (by rw[HXJ.o];exact qx));clear qx;go_wp2_with (at_lookup;refine gO _ rfl _ _ 136 rfl 9 3 gU JM (IJ _) bf t3 _ rfl HO.o.hf _ _ rfl (lB uM) trivial ?_;rw[HF.o]);go_roundw
       case rel=>exact⟨j+1,t3,s,by omega,by go_num,by omega,HO.o,HPN.o,HMB.o,HS.o,HR.o⟩
       case measure=>simp[intOf];omega
      | some d =>
       have HF:=ai (TL qx);have HPN:=ai (HP.o.step hju (by rw[HXJ.o,qx];rfl) (by rw[HUS.o];exact HUP.o));rw[HXJ.o] at HPN;obtain⟨x,Sd⟩:∃x,x=nm[j]:=⟨_,rfl⟩
       rw[<-Sd] at HF HPN uM cn0;have HOM:=ai (HO.o.more (show t3<=t3+1 by omega));have Ij:=ai (HOM.o.sets k2 hSk).2;rw[HMB.o] at Ij;clear qx Sd HXJ;go_wp2_with (first
        | (at_lookup;refine gO _ rfl _ _ 136 rfl 9 3 gU JM (IJ _) bf t3 _ rfl HO.o.hf _ _ rfl (lB uM) trivial ?_;rw[HF.o])
        | (at_mapUpdate;refine lR _ rfl _ _ _ 174 rfl 9 176 gU ail nb (t3+1) _ rfl Ij.o ?c3 _ _ _ rfl rfl (lB uM) trivial ?_))
       case c3=>unfold maxLen;omega
       intro w2 hm2 hc2;obtain⟨s4,hs4⟩:∃s4,s4=s.aiu k2 fun z=>z=x\/s.M k2 z:=⟨_,rfl⟩
       rw[<-hs4] at HPN;have Em:=ai (show OB w dl bf bu bm bp (t3+2) s4 w2 by
        rw[hs4];refine(HOM.o.more (Nat.le_succ _)).aiu hSk (by rw[HMB.o];exact hc2) ?_;rw[HMB.o];exact hm2.congr (akt _ x))
       have oY:=ai (HS.o.cR hc2 (fun b' off' e=>by
        intro hmem;simp only[aG] at hmem;have h1:=HR.o b' off' e;rw[hmem,<-HMB.o,((HO.o.sets k2 hSk).1)] at h1;cases h1))
       have sI:=ai (show ∀b' off',some (⟨bn,ayN,none⟩:Addr)=some ⟨b',off',none⟩->s4.ρ b'=.none by rw[hs4];exact HR.o);have aZg:=ai (show s4.mb k2=nb by rw[hs4];exact HMB.o);have HU4:=ai (show s4.U x=s.U x by rw[hs4];rfl);have hul:(s4.U x).length<=1001:=by
        rw[HU4.o,HP.o.U];have:=aKl dl k2 x;split
        ·simp;omega
        omega
       clear hs4 hm2 hc2 HOM Ij HO HS HR HF cn0;obtain⟨ra,rc,XB⟩:=lF (Em.o.Zh x);have aAU:=ai (show (kV s4.uv (.string x.data.toList)).getD (.slice none 0 0)=.slice ra (s4.U x).length rc by rw[oQ];exact XB);have kD:=ai (Em.o.Zh x);rw[XB] at kD;have HRV:=ai XB;obtain⟨i0,hi,hz0,hz1,hz2⟩:=info_parts mC.info;have iV:=Em.o.ext.size;obtain⟨ul,aLH⟩:∃ul,ul=(s4.U x).length:=⟨_,rfl⟩
       rw[<-aLH] at aAU kD HRV hul;have aYr:=ai aLH;clear XB aLH;go_wp2_with (first
        | (at_lookup;refine vM _ rfl _ _ 173 rfl 9 26 gU al4 (aoF _) bu (t3+2) _ rfl Em.o.hu _ _ rfl (lB uM) trivial ?_;rw[aAU.o])
        | (at_builtin;refine wpList_append_own_at _ rfl _ _ 26 rfl w.heap.size 3 i0 (.int .i64 0) 1 8 mC.ht hi hz0 hz1 hz2 rfl (by decide) _ ul _ rfl (kD.o.alloc _) ⟨w2.heap.size,0,none⟩ 1 1 [.int .i64 k2] rfl rfl ?c4 ?c5 ?c6 ?c7 ?c8 ?_))
       case c4=>exact cell_one_new _ _ _
       case c5=>simp[Value.oneCell']
       case c6=>unfold maxLen;omega
       case c7=>omega
       case c8=>simp;omega
       intro v5 w5 Cp tL _ aP2;obtain⟨a5,c5,hv5⟩:=lF Cp;subst hv5;have hc5:ct (rowOf (adx s4 x)) w2 w5:=by rw[HRV.o];exact(((Tz w2).alloc _).cR _).then (eX tL)
       have pU:=ai hc5;have hr5:=Em.o.UA x;have HU5:=ai (Em.o.hu.cR hc5 (fun hm=>by
        have h1:=hr5 bu (bV.1 hm);rw[Em.o.ru] at h1;cases h1))
       have Sl:=ai (show ∀k,(Value.slice a5 (ul+1) c5).ownBlock=some k->(adx s4 x).ownBlock=some k\/w2.heap.size<=k by
        intro q hq;rw[HRV.o];rcases aP2 with e|e
        ·exact aoX (e ▸ hq)
        rw[e] at hq;simp at hq;exact a4Z (by omega))
       have ah2:=ai Cp;clear Cp tL aP2 hc5 hr5 aAU kD;go_wp2_with (at_mapUpdate;refine lR _ rfl _ _ _ 173 rfl 9 26 gU al4 bu (t3+2) _ rfl HU5.o ?c9 _ _ _ rfl rfl (lB uM) trivial ?_)
       case c9=>unfold maxLen;omega
       intro w6 hm6 pI;have CG:=ai (show OB w dl bf bu bm bp (t3+3) (s4.apr x (.slice a5 (ul+1) c5) (s4.U x++[k2])) w6 by
        refine Em.o.apr (u:=s4.U x++[k2]) ?_ pU.o Sl.o pI (hm6.congr (Dm _ _ _));have:=ah2.o;rw[aYr.o] at this ⊢;simpa[Q9] using this)
       have Nc:=ai (HPN.o (.slice a5 (ul+1) c5));rw[<-HU4.o] at Nc;have a4b:bn<w2.heap.size:=by
        obtain⟨b',off',e,hcc⟩:=oY.o.2.2.2 j hjl;have:=eB hcc;simp only[a42,Addr.mk.injEq,and_true] at e;simp only at this;omega
       have RN:=ai (show ∀b' off',some (⟨bn,ayN,none⟩:Addr)=some ⟨b',off',none⟩->(s4.apr x (.slice a5 (ul+1) c5) (s4.U x++[k2])).ρ b'=.none by
        intro b' off' e;have h1:=sI.o b' off' e;simp only[a42,Addr.mk.injEq,and_true] at e;exact apP h1 (by omega) (by simp) (Em.o.UA x) Sl.o)
       have vE:=ai ((oY.o.cR pU.o (fun b' off' e hm=>by
        have h1:=sI.o b' off' e;rw[Em.o.UA x b' (bV.1 hm)] at h1;cases h1)).cR pI (fun b' off' e hm=>by
        simp only[aG] at hm;have h1:=sI.o b' off' e;rw[hm,Em.o.ru] at h1;cases h1))
       have aZf:=ai (show (s4.apr x (.slice a5 (ul+1) c5) (s4.U x++[k2])).mb k2=nb from aZg.o);generalize s4.apr x (.slice a5 (ul+1) c5) (s4.U x++[k2])=s6 at *;clear hm6 pI HU5;go_wp2_with fail;go_roundw
       case rel=>exact⟨j+1,t3+3,s6,by omega,by go_num,by omega,CG.o,Nc.o,aZf.o,vE.o,RN.o⟩
       case measure=>simp[intOf];omega
     have tj:decide ((j:Int)<(nm.length:Int))=false:=by simp;omega
     obtain rfl:j=nm.length:=by omega
     have HPE:=ai (show Ph3 dl k2 (jy dl k2).length s by rw[HUS.o];exact HP.o);have hSk:s.S k2:=(HP.o.S k2).2 (a4Z rfl);have Ij:=ai (HO.o.sets k2 hSk).2;rw[HMB.o] at Ij;have HSR:=ai (HO.o.sets k2 hSk).1;rw[HMB.o] at HSR;have aRt:(∀y,¬s.M k2 y) ↔ mY dl [] k2=[]:=by
      rw[List.eq_nil_iff_forall_not_mem];refine forall_congr' fun y=>not_congr ?_
      rw[HPE.o.Mk,List.take_length,yh];constructor
      ·rintro⟨h1,h2⟩;obtain⟨d,hd⟩:=Ff.1 h2;exact⟨h1,d,hd,by simp⟩
      rintro⟨h1,d,h2,_⟩;exact⟨h1,Ff.2 ⟨d,h2⟩⟩
     have aUc:=ai aRt;have hkk:k2<=1000000000000000:=by omega
     clear aRt HS HR G7;go_wp2_with (at_mapUpdate;refine lR _ rfl _ _ _ 172 rfl 3 174 agp ato bm t3 _ rfl HO.o.hm ?c10 _ _ _ rfl rfl (auO hkk) trivial ?_)
     case c10=>unfold maxLen;omega
     intro w7 hm7 rE;have VJ:=ai (show OB w dl bf bu bm bp (t3+1) (s.ax6 k2) w7 by
      refine HO.o.ax6 hSk rE (hm7.congr fun x=>?_);rw[HMB.o];exact aBO _ _ _ x)
     have aKw:=ai (Ij.o.cR rE (apart HSR.o HO.o.rm (by simp)));clear hm7 rE Ij HSR;go_wp2_with (at_len;refine Sr _ rfl _ 174 rfl 9 176 gU ail nb t3 _ rfl aKw.o ?_);intro sz hsz0 uM;rw[aj1,aUc.o] at uM;clear aKw aUc;by_cases hz:sz=0
     ·have HME:=ai (uM.1 hz);have tz:((sz:Int)==0)=true:=by simp;omega
      clear uM hz;have hRl:s.R.length<=1000:=by
       rw[HPE.o.R.length_eq];have:=aSm dl k2;simp only[Kh,List.length_map];omega
      have iV:=VJ.o.ext.size;go_wp2_with fail;refine(ac1 w.heap.size bp s.pv s.R k2 w7 VJ.o.hp iV (by omega)).mono ?_;rintro r w8 ⟨rfl,pv8,R8,hR8,hp8,iI,gX⟩;have zo:=ai (VJ.o.abh hp8 iI gX);have HP8:=ai (HPE.o.leave0 HD.o HME.o (pv:=pv8) hR8);clear hR8 hp8 iI gX;go_wp2_with fail;go_roundw
      case rel=>exact⟨k2+1,t3+1,_,by omega,by go_num,by rw[HP8.o.2];go_num,by have:=al' k2;omega,zo.o,HP8.o.1⟩
      case measure=>simp[intOf];omega
     have HME:=ai (fun h=>hz (uM.2 h));have tz:((sz:Int)==0)=false:=by simp;omega
     clear uM hz;have HP8:=ai (HPE.o.leave HD.o HME.o);go_wp2_with fail;go_roundw
     case rel=>exact⟨k2+1,t3+1,_,by omega,by go_num,by rw[HP8.o.2];go_num,by have:=al' k2;omega,VJ.o,HP8.o.1⟩
     case measure=>simp[intOf];omega
   have t1:decide ((k2:Int)<(n:Int))=false:=by simp;omega
   have tC:k2=dl.length:=by rw[QL.o];have:=HN.o;simp;omega
   have HP4:=ai (show Ph4 dl s by have:=oZ.o;rw[tC] at this;exact this.finish);have hcn:(Mo dl k2)=lY dl:=by rw[tC];exact aIA dl
   have HVO:=ai oZ.o.vo;have HO0:=ai oZ.o.O;have htb:=aJR (show k2<=1000 by omega);have hcb:lY dl<=1000:=by rw[<-hcn];omega
   rw[hcn];clear hcn tC oZ;go_wp2_with fail
   go_loopg [20] (lY dl) (L4 w dl bf bu bm bp t)
   case atStart=>exact⟨s,by rw[HO0.o];rfl,tX.o,HVO.o.symm,HP4.o⟩
   case round =>
    obtain⟨s,hm,hob,rfl,hph⟩:=hrel;have HO:=ai hob;have HP:=ai hph;have HM:=ai hm;obtain⟨R,hRp,hinv⟩:=hph.inv;have HRP:=ai hRp;have aci:=ai hinv;have aRn:s.R.length=R.length:=by rw[hRp.length_eq];simp[Kh]
    have hle:=hinv.le;have HRL:=ai aRn;obtain⟨pa,pc,hpv⟩:=hob.hp.form;have hpc:=bX hob.hp.hb 0;have aWp:=bS hob.hp.hb;simp at hpc;rw[hpv] at hpc;obtain⟨oa,oc,hov⟩:=lF hob.hv;rw[hov];have HOV:=ai hov;have Gi:=ai hpv;have a3i:s.O.length+R.length<=1000:=by simp at hle;omega
    clear hob hph hm hRp hinv hpv hov tX HP4 HVO HO0 hle;by_cases hR0:s.R.length=0
    ·have tr:decide ((0:Int)<(s.R.length:Int))=false:=by rw[hR0];rfl
     have hRn:R=[]:=aR (by have:=HRL.o;omega);have HI0:=ai (show Lo dl s.O [] by have:=aci.o;rw[hRn] at this;exact this);have HOW:=ai HO.o.hv;rw[HOV.o] at HOW;have yx:=ai HO.o.ext;clear hRn;go_wp2_with fail;refine(PY _ _ _ _).mono ?_;rintro r w1 ⟨rfl,rfl⟩;by_cases hcc:s.O.length<lY dl
     ·have tc:decide (s.O.length<lY dl)=true:=by simp[hcc]
      go_wp2_with fail
      go_ret2
      exact⟨yx.o,a4Z ⟨s.O,HI0.o,hcc,rfl⟩⟩
     have tc:decide (s.O.length<lY dl)=false:=by simp[hcc]
     go_wp2_with fail
     go_ret2
     exact⟨yx.o,aoX ⟨s.O,oa,oc,HI0.o.done (by omega),rfl,am1 HOW.o rfl⟩⟩
    have tr:=ag ((0:Int)<(s.R.length:Int));go_wp2_with fail;refine(PY _ _ _ _).mono ?_;rintro r w1 ⟨rfl,rfl⟩;go_wp2_with fail;refine(au1 w.heap.size bp s.pv s.R wr HO.o.hp (by omega) (by omega)).mono ?_;rintro r w1 ⟨z,pv1,R1,rfl,hR1,hp1,hc1,hw1⟩;obtain⟨i,R',rfl,hRR,aRo⟩:=ayR (HRP.o.symm.trans hR1);have Jn:=ai (HO.o.abh hp1 hc1 hw1);have HRR:=ai hRR;have rG:=ai aRo;have aMa:iD dl i=true:=((aci.o.ready i).1 (by rw[aN];exact a4Z (hRR.mem_iff.2 (by simp)))).1;have HID:=ai aMa;have aL':=mz aMa;have hin:i<n:=by have:=HN.o;rw[QL.o] at aL';simp at aL';omega
    have hta:∀W:World,(Instr.typeAssert (.iface 3 (.int .i64 (i:Int))) 20 3 true).run Tryz.prog W=.ok (.tuple #[.int .i64 (i:Int),.bool true]) W:=fun W=>by kernel_rfl
    clear hR1 hp1 hc1 hw1 hRR aRo aMa hpc aWp;obtain⟨i0,Yy,hz0,hz1,hz2⟩:=info_parts mC.info;have iV:=Jn.o.ext.size;have kD:=ai Jn.o.hv;have e7:(s.abh pv1 R1).vo=s.vo:=rfl;have e8:(s.abh pv1 R1).O=s.O:=rfl;rw[e7,e8,HOV.o] at kD;clear e7 e8;go_wp2_with (at_builtin;refine wpList_append_own_at _ rfl _ _ 26 rfl w.heap.size 3 i0 (.int .i64 0) 1 8 mC.ht Yy hz0 hz1 hz2 rfl (by decide) _ s.O.length _ rfl (kD.o.alloc _) ⟨w1.heap.size,0,none⟩ 1 1 [.int .i64 i] rfl rfl ?d1 ?d2 ?d3 ?d4 ?d5 ?_)
    case d1=>exact cell_one_new _ _ _
    case d2=>simp[Value.oneCell']
    case d3=>unfold maxLen;omega
    case d4=>omega
    case d5=>simp;omega
    intro v2 w2 jt iA _ aP3;obtain⟨a2,c2,hv2⟩:=lF jt;subst hv2;have vF:=ai (show OB w dl bf bu bm bp t ((s.abh pv1 R1).atI (.slice a2 (s.O.length+1) c2) (s.O++[i])) w2 by
     refine Jn.o.atI ?_ ?_ ?_
     ·have:=jt;simpa[Q9] using this
     ·show ct (rowOf s.vo) w1 w2
      rw[HOV.o];exact(((Tz w1).alloc _).cR _).then (eX iA)
     intro q hq
     show s.vo.ownBlock=some q\/_
     rw[HOV.o];rcases aP3 with e|e
     ·exact aoX (e ▸ hq)
     rw[e] at hq;simp at hq;exact a4Z (by omega))
    clear jt iA aP3 kD hta;have hil:i<l.length:=by have:=HN.o;omega
    obtain⟨b,off,v,rfl,q1,q2,q3,c0,c1,k2',c3,c4,c5,c6,c7,c8,c9⟩:=(HL.o.ext vF.o.ext).aM3 hil;have e0:dl[i]=l[i].tV:=by simp only[QL.o];simp
    have kJ:=ai (show nameAt dl i=v.name by unfold nameAt;rw[aT aL',e0,q2];rfl);have zP:v.name.size<=1000000000000000:=by rw[q2];exact(tR.o _ (aD hil)).2.2
    obtain⟨d,hd1,qd⟩:=anm HID.o;rw[kJ.o] at hd1;have tU:=ai hd1;have HF:=ai (TL hd1);have Sc:(0:Int)<=(i:Int):=by omega
    have ti1:(i:Int)<(n:Int):=by omega
    clear q1 q2 q3 c0 k2' c3 c4 c5 c6 c7 c8 c9 e0 hd1;by_cases hdi:d=i
    ·subst hdi;have td:((d:Int) != (d:Int))=false:=by simp
     have HP5:=ai (Ph5.start (R':=R') (i:=d) (pv:=pv1) (vo:=.slice a2 (s.O.length+1) c2) HP.o rG.o);obtain⟨s5,hs5⟩:∃s5,s5=(s.abh pv1 R1).atI (.slice a2 (s.O.length+1) c2) (s.O++[d]):=⟨_,rfl⟩
     rw[<-hs5] at vF HP5;have aLY:=kJ.o;obtain⟨ra,rc,XB⟩:=lF (vF.o.Zh v.name);obtain⟨m5,hm5⟩:∃m5,m5=(s5.U v.name).length:=⟨_,rfl⟩
     have aL1:m5=(UL dl dl.length (nameAt dl d)).length:=by rw[hm5,HP5.o.U,aLY]
     have Nk:=ai aL1;have a3n:m5<=1000:=by
      rw[aL1];have:=aKl dl dl.length (nameAt dl d);have h2:=HN.o;have h3:dl.length=l.length:=by rw[QL.o];simp
      omega
     rw[<-hm5] at XB;have aAU:=ai (show (kV s5.uv (.string v.name.data.toList)).getD (.slice none 0 0)=.slice ra m5 rc by rw[oQ];exact XB);have HUV:=ai (show adx s5 v.name=.slice ra m5 rc from XB);obtain⟨uv,huv⟩:∃uv,uv=s.uv:=⟨_,rfl⟩
     have aYp:=ai (show (uv v.name).getD (.slice none 0 0)=.slice ra m5 rc by rw[huv,<-HP5.o.uv];exact XB);rw[<-huv] at HP5;have AQ:=ai aLY;clear hs5 XB hm5 aL1 huv aLY;go_wp2_with (first
      | (at_lookup;refine vM _ rfl _ _ 136 rfl 9 3 gU JM (IJ _) bf t _ rfl vF.o.hf _ _ rfl (lB zP) trivial ?_;rw[HF.o])
      | (at_lookup;refine vM _ rfl _ _ 173 rfl 9 26 gU al4 (aoF _) bu t _ rfl vF.o.hu _ _ rfl (lB zP) trivial ?_;rw[aAU.o]))
     go_loopw [140] (L5 w dl bf bu bm bp t s.O d R' uv (.slice a2 (s.O.length+1) c2) m5) (fun q _=>m5 - (intOf q).toNat)
     case atStart=>exact⟨0,s5,by omega,rfl,vF.o,HP5.o⟩
     case round =>
      obtain⟨j,s6,hj,rfl,aQw,aQs⟩:=hrel;have CG:=ai aQw;have Nc:=ai aQs;clear aQw aQs vF HP5 aAU;by_cases hjl:j<m5
      ·have tj:decide ((j:Int)<(m5:Int))=true:=by simp;omega
       have hju:j<(UL dl dl.length (nameAt dl d)).length:=by have:=Nk.o;omega
       have HFD:aj (gA dl (nameAt dl d)=some d):=ai (by rw[AQ.o];exact tU.o);obtain⟨u,hu⟩:∃u,u=(UL dl dl.length (nameAt dl d))[j]:=⟨_,rfl⟩
       obtain⟨hkey,hgo,aQN⟩:=Nc.o.del HFD.o hju hu;have hud:=(aE1 (show u∈UL dl dl.length (nameAt dl d) by rw[hu];exact aD hju)).1;have hul:u<=1000000000000000:=by
         have h1:=mz hud;have h2:=HN.o;have h3:dl.length=l.length:=by rw[QL.o];simp
         omega
       have hDu:s6.D u:=(Nc.o.D u).2 hud;have hSu:s6.S u:=(Nc.o.S u).2 hud;have hrow:=CG.o.Zh v.name;have e5:adx s6 v.name=.slice ra m5 rc:=by unfold adx;rw[Nc.o.uv];exact aYp.o
       rw[e5] at hrow;have hrl:(s6.U v.name).length=m5:=by rw[Nc.o.U,<-AQ.o,<-Nk.o]
       rw[hrl] at hrow;obtain⟨g5,hg5,cj⟩:∃g5,ra=some ⟨g5,0,none⟩/\wr.cell? ⟨g5,j,none⟩=some (.int .i64 u):=by
        rcases hrow.2 with ⟨_,h0⟩|⟨g,cap,cur,hv,_⟩
        ·omega
        simp only[a45] at hv;obtain⟨rfl,_,rfl⟩:=hv;refine⟨g,rfl,?_⟩;have hcj:=hrow.cellAt j (by omega);rw[hcj,Nc.o.U,<-AQ.o];simp[Q9,hu,hju]
       subst hg5;have HGM:=ai (show (adG (Gz s6.D s6.mb) (.int .i64 (u:Int))).getD (.map none)=.map (some (s6.mb u)) by rw[awQ];simp[Gz,hDu]);have aTJ:=ai hkey;have HGO:=ai hgo;have aOr:=ai aQN;have aZa:aj (nameAt dl d=v.name):=AQ;clear hkey hgo aQN hrow e5 hrl hu;go_wp2_with (first
        | (at_lookup;refine vM _ rfl _ _ 172 rfl 3 174 agp ato (awq _) bm t _ rfl CG.o.hm _ _ rfl (auO hul) trivial ?_;rw[HGM.o])
        | (at_delete;refine ael _ rfl _ _ 174 9 rfl 176 gU ail (s6.mb u) t _ rfl (CG.o.sets u hSu).2 _ _ rfl (lB zP) trivial ?_))
       intro w7 hm7 rE;have hSr:=(CG.o.sets u hSu).1;have aUj:=ai (show ig w7 9 (s6.mb u) t (kV (Fb fun y=>s6.M u y/\y≠nameAt dl d)) by
        refine hm7.congr fun x=>?_
        rw[aZa.o];exact aCP _ _ x)
       have VJ:=ai (CG.o.aiu hSu rE aUj.o);have HEM:=ai (show (∀y,¬(s6.M u y/\y≠nameAt dl d)) ↔ (mY dl (s.O++[d]) u).isEmpty=true by
        rw[List.isEmpty_iff,List.eq_nil_iff_forall_not_mem];exact forall_congr' fun y=>not_congr (aTJ.o y))
       have aT5:=ai (show (adG (Gz (s6.aiu u fun y=>s6.M u y/\y≠nameAt dl d).D (s6.aiu u fun y=>s6.M u y/\y≠nameAt dl d).mb) (.int .i64 (u:Int))).getD (.map none)=.map (some (s6.mb u)) from HGM.o);clear hm7 rE hSr cj;go_wp2_with (first
        | (at_lookup;refine vM _ rfl _ _ 172 rfl 3 174 agp ato (awq _) bm t _ rfl VJ.o.hm _ _ rfl (auO hul) trivial ?_;rw[aT5.o])
        | (at_len;refine Sr _ rfl _ 174 rfl 9 176 gU ail (s6.mb u) t _ rfl aUj.o ?_))
       intro sz hsz0 uM;rw[aj1,HEM.o] at uM;clear HEM HGM aT5 aTJ;by_cases hz:sz=0
       ·have tz:((sz:Int)==0)=true:=by simp;omega
        have aOq:=ai (aOr.o (uM.1 hz));clear uM hz HGO aOr;have aV':=VJ.o.ext.size;have hRl:s6.R.length<=100000:=by
         rw[Nc.o.R.length_eq];simp only[Kh,List.length_map,bg];have h1:=List.length_filter_le (fun u=>(mY dl (s.O++[d]) u).isEmpty) ((UL dl dl.length (nameAt dl d)).take j);have h2:=HRR.o.length_eq;simp only[List.length_take,List.length_cons] at h1 h2;omega
        go_wp2_with fail;refine(ac1 w.heap.size bp s6.pv s6.R u w7 VJ.o.hp aV' (by omega)).mono ?_;rintro r w8 ⟨rfl,pv8,R8,hR8,hp8,iI,gX⟩;have zo:=ai (VJ.o.abh hp8 iI gX);have HP8:=ai (aOq.o pv8 R8 hR8);clear hR8 hp8 iI gX;go_wp2_with fail;go_roundw
        case rel=>exact⟨j+1,_,by omega,by go_num,zo.o,HP8.o⟩
        case measure=>simp[intOf];omega
       have tz:((sz:Int)==0)=false:=by simp;omega
       have aOq:=ai (HGO.o (by
        cases hb:(mY dl (s.O++[d]) u).isEmpty
        ·rfl
        exact a40 (uM.2 hb) hz))
       clear uM hz HGO aOr;go_wp2_with fail;go_roundw
       case rel=>exact⟨j+1,_,by omega,by go_num,VJ.o,aOq.o⟩
       case measure=>simp[intOf];omega
      have tj:decide ((j:Int)<(m5:Int))=false:=by simp;omega
      have HPF:=ai (show Ph4 dl s6 by
       have:=Nc.o;rw[show j=(UL dl dl.length (nameAt dl d)).length by rw[<-Nk.o];omega] at this;exact this.finish (by rw[AQ.o];exact tU.o) aci.o HRR.o)
      go_wp2_with fail
      go_roundg (lY dl - (s.O.length+1))
      case rel=>exact⟨s6,by rw[Nc.o.O];simp,CG.o,Nc.o.vo.symm,HPF.o⟩
      case measure =>
       have h1:=HM.o;have h2:=aci.o.le;have h3:=HRR.o.length_eq;simp only[bg,List.length_cons] at h2 h3;omega
    have td:((d:Int) != (i:Int))=true:=by simp;omega
    have HPN:=ai (HP.o.other (pv:=pv1) (vo:=.slice a2 (s.O.length+1) c2) aci.o HRR.o rG.o (fun x hx=>hdi (by
     have h1:=(abQ hx).2;rw[kJ.o] at h1;rw[<-h1,tU.o] at hx;exact Option.some.inj hx)))
    go_wp2_with (at_lookup;refine vM _ rfl _ _ 136 rfl 9 3 gU JM (IJ _) bf t _ rfl vF.o.hf _ _ rfl (lB zP) trivial ?_;rw[HF.o])
    go_roundg (lY dl - (s.O.length+1))
    case rel=>exact⟨_,by show _=lY dl - (s.O++[i]).length;simp,vF.o,rfl,HPN.o⟩
    case measure =>
     have h1:=HM.o;have h2:=aci.o.le;have h3:=HRR.o.length_eq;simp only[bg,List.length_cons] at h2 h3;omega
theorem rP {op lo hi:Int} {s:BA} (h:s.size<=1000000000000000):(Ex.mk op s [] lo hi []).fits:=by
 unfold Ex.fits;exact⟨h,by simp,by unfold kE;trivial⟩
theorem rK {w:World} {b:Nat} {v0 v1 v2 v3 v4 v5 v6 v7 v8 v9:Value} {t:TypeId} (h:w.heap[b]?=some (.cells #[v0,v1,v2,v3,v4,v5,v6,v7,v8,v9] t (0,0))) :
  w.cell? ⟨b,0,none⟩=some v0/\w.cell? ⟨b,1,none⟩=some v1/\w.cell? ⟨b,2,none⟩=some v2/\w.cell? ⟨b,3,none⟩=some v3/\w.cell? ⟨b,4,none⟩=some v4/\w.cell? ⟨b,5,none⟩=some v5/\w.cell? ⟨b,6,none⟩=some v6/\w.cell? ⟨b,7,none⟩=some v7/\w.cell? ⟨b,8,none⟩=some v8/\w.cell? ⟨b,9,none⟩=some v9/\(∀j,w.frozen? ⟨b,j,none⟩=false) :=
 ⟨bX h 0,bX h 1,bX h 2,bX h 3,bX h 4,bX h 5,bX h 6,bX h 7,bX h 8,bX h 9,fun j=>ie h j⟩
theorem nr:uq 25 48 (.agg #[.int .i64 0,.string ⟨#[]⟩,.int .i64 0,.string ⟨#[]⟩,.slice none 0 0,.int .i64 0,.int .i64 0,.slice none 0 0,.slice none 0 0,.int .i64 0]) 10 144:=⟨by kernel_rfl,by kernel_rfl,rfl,by decide⟩
def vG (w:World) (l:List cK) (vs:List fM):Prop:=l.length=vs.length/\∀i (h1:i<l.length) (h2:i<vs.length),ij w l[i] vs[i]
theorem vG.mono {w w':World} {l:List cK} {vs:List fM} (h:vG w l vs) (hs:Sub w w'):vG w' l vs:=⟨h.1,fun i h1 h2=>(h.2 i h1 h2).mono hs⟩
theorem vG.snoc {w:World} {l:List cK} {vs:List fM} {c:cK} {v:fM} (h:vG w l vs) (hc:ij w c v):vG w (l++[c]) (vs++[v]):=by
 refine⟨by simp[h.1],fun i h1 h2=>?_⟩;by_cases hi:i<l.length
 ·have hi2:i<vs.length:=by rw[<-h.1];exact hi
  simp only[bD hi,bD hi2];exact h.2 i hi hi2
 have e1:i=l.length:=by simp at h1;omega
 subst e1;simp only[bK (aU _),bK (show vs.length<=l.length by rw[h.1];exact aU _),Nat.sub_self,bB];simpa[h.1] using hc
theorem yJ {w:World} {M:ZN} {base:Nat} {v:Value} {l:List cK} {vs:List fM} (h:w.ownsRow base 48 10 v l.length (vs.flatMap fM.cells)) (hM:∀k,v.ownBlock=some k->k∉M) (hR:vG (mask w M) l vs) :
  ∃a c,v=.slice a l.length c/\cZ (mask w M) l a l.length c:=by
 rw[hR.1] at h;obtain⟨a,c,rfl,hr⟩:=eE.iZ fM.len h;refine⟨a,c,by rw[hR.1],vs,?_,hR.1,hR.2⟩;refine⟨hR.1,by rw[hR.1];exact hr.2.1,hr.2.2.1,fun i hi=>?_⟩;obtain⟨b,off,e,hc⟩:=hr.2.2.2 i hi;subst e;refine⟨b,off,rfl,fun j hj=>?_⟩;rw[eA,bL (hM b rfl)];exact hc j hj
def ErQ (sz base:Nat) (W W':World):Prop:=∃N,ct N W W'/\∀k∈N,base<=k/\∀cs t,W.heap[k]?=some (.cells cs t (0,0))->cs.size≠sz
theorem ErQ.of {sz base:Nat} {W W':World} (h:Ext W W'):ErQ sz base W W':=⟨[],h.cR [],fun k hk=>by simp at hk⟩
theorem ErQ.ext {sz base:Nat} {w W W':World} (hb:w.heap.size<=base) (h:Ext w W) (he:ErQ sz base W W'):Ext w W':=by
 obtain⟨N,hc,hN⟩:=he;exact hc.ext h fun y hy=>aV hb (hN y hy).1
theorem ErQ.lit {sz base:Nat} {W W':World} (h:ErQ sz base W W') {g:Nat} {cs:Array Value} {t:TypeId} (hg:W.heap[g]?=some (.cells cs t (0,0))) (h6:cs.size=sz):W'.heap[g]?=some (.cells cs t (0,0)):=by
 obtain⟨N,hc,hN⟩:=h;exact hc.blk hg fun hm=>(hN g hm).2 cs t hg h6
theorem cL {t e:TypeId} {z:Value} {size bytes:Nat} (E:uq t e z size bytes) {ρ:Operand->Value} {W:World} {T:Value->World->Prop} {dst:Option Tmp} {ty:TypeId} {pos:String} {after:Array Edge} {guard:Option (Nat×Bool)}
  (s x:Operand) (base n:Nat) (a0:OA) (c0:Nat) (xs:List Value) (hs:ρ s=.slice a0 n c0) (b off m c:Nat) (news:List Value) (hx:ρ x=.slice (some ⟨b,off,none⟩) m c) (hl:news.length=m*size) (h1:∀u∈news,u.oneCell'=true) (hm:0<m) (hn:n+m<=100000000) (hb:bytes<=1000)
  (hown:W.ownsRow base e size (.slice a0 n c0) n xs) (hnews:∀j (h:j<news.length),W.cell? ⟨b,off+j,none⟩=some news[j]) (hbase:base<=W.heap.size) (hc:c0=1->c0<n+m)
  (h:∀g cap w',w'.ownsRow base e size (.slice (some ⟨g,0,none⟩) (n+m) cap) (n+m) (xs++news)->ErQ size base W w'->T (.slice (some ⟨g,0,none⟩) (n+m) cap) w') :
  bQ Tryz.prog { dst:=dst,op:=.call { callee:=.builtin .append,args:=#[s,x],argTypes:=#[t,t] },type:=ty,pos:=pos,after:=after,guard:=guard } ρ W T:=by
 obtain⟨i,hi,hz,hsz,hby⟩:=info_parts E.info;have he:execOp ρ { dst:=dst,op:=.call { callee:=.builtin .append,args:=#[s,x],argTypes:=#[t,t] },type:=ty,pos:=pos,after:=after,guard:=guard }=(do pure (.value (<-Builtin.append_ #[t,t] ty #[.slice a0 n c0,.slice (some ⟨b,off,none⟩) m c]))):=by
  rw[<-hs,<-hx,BigFrame.execOp_builtin,BigFrame.builtin_append];simp
 have hnw:∀j u,news[j]?=some u->W.cell? ((⟨b,off,none⟩:Addr).add j)=some u:=by
  intro j u hu;obtain⟨hj,rfl⟩:=List.getElem?_eq_some_iff.1 hu;have:(⟨b,off,none⟩:Addr).add j=⟨b,off+j,none⟩:=by unfold Addr.add;split<;>simp_all
  rw[this];exact hnews j hj
 have hbt:(n+m)*bytes<=140737488355328:=by
  calc (n+m)*bytes<=100000000*1000:=Nat.mul_le_mul hn hb
   _<=140737488355328:=by omega
 obtain⟨g,cap,w',hrun,h2,h3,h4,h5⟩:=run_append_lies (P:=Tryz.prog) W t ty base e i z size bytes E.ht hi hz hsz hby E.hzs E.hsz _ n _ hown ⟨b,off,none⟩ m c news hl hnw h1 hm (by simp only[maxLen];omega) hbt hbase _ rfl;have hE:ErQ size base W w':=by
  rcases hown.2 with ⟨e',_⟩|⟨g0,ajn,cur,e',zR,hg2,hg3,hg4,hg5,zQ⟩
  ·rw[e'] at h3;exact⟨_,eX h3,fun k hk=>by have:=bV.1 hk;simp[Value.ownBlock] at this⟩
  simp only[a45,true_and] at e';obtain⟨rfl,rfl⟩:=e';rcases bJ c0 (n+m) with hlt|hge
  ·have hr2:=run_append_grow (P:=Tryz.prog) W t ty e i z E.ht hi hz ⟨g0,0,none⟩ n c0 _ (by rw[hsz];exact hown.1) (hown.cells (g:=g0) rfl) ⟨b,off,none⟩ m c _ (by rw[hsz,hl]) hnw hlt (by omega) (growslice_fits hlt (by rw[hby];exact hbt));rw[hrun] at hr2;simp only[Result.ok.injEq] at hr2;rw[hr2.2];exact ErQ.of ((Tz W).drew.alloc _)
  refine⟨_,eX h3,fun k hk=>?_⟩;have hk2:g0=k:=by simpa[Value.ownBlock] using bV.1 hk
  subst hk2;refine⟨zR,fun cs t hcs=>?_⟩;rw[hg2] at hcs;simp only[a42,Obj.cells.injEq] at hcs;rw[<-hcs.1,hg5];have h6:2*size<=c0*size:=Nat.mul_le_mul_right _ (by omega);have h7:=E.hsz;omega
 unfold bQ;rw[he];simp only[Sem.run_bind,hrun];exact h g cap w' h2 hE
end Go.Proofs.YtefjomofjejklaaGreatDoor
