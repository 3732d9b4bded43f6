/- Joined. -/
import Derived.Test.YtefjomofjejklaaGreatDoorDa03
import Derived.Orders
import Derived.BigFrame
namespace Go.Proofs.YtefjomofjejklaaGreatDoor
set_option maxRecDepth 100000
set_option maxHeartbeats 32000000
def yS (a:Attr):Int×Int:=if a.kind=1 then (0,(a.words.length:Int) - 1) else if a.kind=2 then (a.lo,a.hi) else (0,1)
def fW:List Attr->ZI->Bool
 | [],[]=>true
 | a::r,v::q=>decide ((yS a).1<=v)&&decide (v<=(yS a).2)&&fW r q
 | _,_=>false
def jU (s:List Attr) (f:ZI):Bool:=decide (dy s=0)&&fW s f
theorem kA:{s:List Attr}->{f:ZI}->fW s f=true->f.length=s.length
 | [],[],_=>rfl
 | a::r,v::q,h=>by
  simp only[fW,aF] at h;simp[kA h.2]
 | [],v::q,h=>by simp[fW] at h
 | a::r,[],h=>by simp[fW] at h
theorem TP:{s:List Attr}->{f:ZI}->fW s f=true->(i:Nat)->(hi:i<s.length)->(hj:i<f.length)->(yS s[i]).1<=f[i]/\f[i]<=(yS s[i]).2
 | a::r,v::q,h,0,_,_=>by
  simp only[fW,aF,aH] at h;simpa using h.1
 | a::r,v::q,h,i+1,hi,hj=>by
  simp only[fW,aF] at h;simpa using TP h.2 i (by simpa using hi) (by simpa using hj)
theorem Mg:{s:List Attr}->{f:ZI}->f.length=s.length->(∀i (hi:i<s.length) (hj:i<f.length),(yS s[i]).1<=f[i]/\f[i]<=(yS s[i]).2)->fW s f=true
 | [],[],_,_=>rfl
 | a::r,v::q,h,h2=>by
  have h0:=h2 0 (by simp) (by simp);simp only[bB] at h0;simp only[fW,aF,aH];exact⟨h0,Mg (by simpa using h) fun i hi hj=>by have:=h2 (i+1) (by simpa using hi) (by simpa using hj);simpa using this⟩
 | [],v::q,h,_=>by simp at h
 | a::r,[],h,_=>by simp at h
def um (s:List Attr) (f:ZI) (op:Int) (name:BA) (words:ZB) (lo hi:Int):Bool :=
 if op=1 then true else if op=2 then false else
 match eO s name with
 | none=>false
 | some i=>if op=4 then words.any (fun x=>decide (x=(s.getD i rL).words.getD (f.getD i 0).toNat ⟨#[]⟩)) else if op=5 then decide (lo<=f.getD i 0)&&decide (f.getD i 0<=hi) else decide (f.getD i 0=1)
mutual
def pK (s:List Attr) (f:ZI) (D:BA->Option Bool):Ex->Bool
 | .mk op name words lo hi args=>if op=6 then !(Iq s f D args) else if op=7 then BT s f D args else if op=8 then BS s f D args else if op=3 then (D name).getD (um s f op name words lo hi) else um s f op name words lo hi
def Iq (s:List Attr) (f:ZI) (D:BA->Option Bool):List Ex->Bool
 | []=>false
 | e::_=>pK s f D e
def BT (s:List Attr) (f:ZI) (D:BA->Option Bool):List Ex->Bool
 | []=>true
 | e::r=>pK s f D e&&BT s f D r
def BS (s:List Attr) (f:ZI) (D:BA->Option Bool):List Ex->Bool
 | []=>false
 | e::r=>pK s f D e||BS s f D r
end
theorem xl {s:List Attr} {f:ZI} {D:BA->Option Bool}:(l:List Ex)->BT s f D l=l.all (pK s f D)
 | []=>by rw[BT];rfl
 | e::r=>by rw[BT,xl r];rfl
theorem xj {s:List Attr} {f:ZI} {D:BA->Option Bool}:(l:List Ex)->BS s f D l=l.any (pK s f D)
 | []=>by rw[BS];rfl
 | e::r=>by rw[BS,xj r];rfl
def jN (s:List Attr) (l:List cK) (f:ZI):Nat->Ex->Bool
 | 0,_=>false
 | k+1,e=>pK s f (fun x=>(dz l x).map fun d=>jN s l f k (l.getD d fC).cond) e
def val (s:List Attr) (l:List cK) (f:ZI) (e:Ex):Bool:=jN s l f (l.length+1) e
mutual
theorem JK {s:List Attr} {f:ZI} {D D':BA->Option Bool}:(e:Ex)->(∀x∈fX e,D x=D' x)->pK s f D e=pK s f D' e
 | .mk op name words lo hi args,h=>by
  have h2:∀x∈iH args,D x=D' x:=fun x hx=>h x (by rw[fX];exact aL _ hx)
  obtain⟨q1,q2,q3⟩:=aev args h2;rw[pK,pK,q1,q2,q3];by_cases h3:op=3
  ·rw[h name (by rw[fX,h3];simp)]
  simp[h3]
theorem aev {s:List Attr} {f:ZI} {D D':BA->Option Bool}:(l:List Ex)->(∀x∈iH l,D x=D' x)->Iq s f D l=Iq s f D' l/\BT s f D l=BT s f D' l/\BS s f D l=BS s f D' l
 | [],_=>⟨by rw[Iq,Iq],by rw[BT,BT],by rw[BS,BS]⟩
 | e::r,h=>by
  have h1:=JK (s:=s) (f:=f) e fun x hx=>h x (by rw[iH];exact aK _ hx)
  obtain⟨_,q2,q3⟩:=aev (s:=s) (f:=f) r fun x hx=>h x (by rw[iH];exact aL _ hx)
  exact⟨by rw[Iq,Iq,h1],by rw[BT,BT,h1,q2],by rw[BS,BS,h1,q3]⟩
end
theorem U8 {D:BA->Option Nat}:(e:Ex)->wM D e<=2000->∀x n,x∈fX e->D x=some n->n<=2000
 | .mk op name words lo hi args,h,x,n,hx,hD=>by
  rw[wM] at h;rw[fX] at hx;rcases aN.1 hx with h1|h1
  ·by_cases h3:op=3
   ·simp[h3] at h1;subst h1;simp[h3,hD] at h;omega
   simp[h3] at h1
  exact ak4 args (by omega) x n h1 hD
where
 ak4 {D:BA->Option Nat}:(l:List Ex)->mI D l<=2000->∀x n,x∈iH l->D x=some n->n<=2000
  | [],_,x,n,hx,_=>by rw[iH] at hx;simp at hx
  | e::r,h,x,n,hx,hD=>by
   rw[mI] at h;rw[iH] at hx;rcases aN.1 hx with h1|h1
   ·exact U8 e (by omega) x n h1 hD
   exact ak4 r (by omega) x n h1 hD
theorem Sv (s:List Attr) (l:List cK) (f:ZI):(k m:Nat)->(e:Ex)->jT l k e<=2000->k<=m->jN s l f k e=jN s l f m e
 | 0,_,e,h,_=>by simp[jT] at h
 | k+1,0,e,_,hm=>by omega
 | k+1,m+1,e,h,hm=>by
  rw[jN,jN];refine JK e fun x hx=>?_
  cases hd:dz l x with
  | none=>rfl
  | some d =>
   rw[jT] at h;have:=U8 e h x (jT l k (l.getD d fC).cond) hx (by rw[hd];rfl);simp only[Option.map_some,a42];exact Sv s l f k m _ this (by omega)
mutual
def af0:Ex->Bool
 | .mk op name words lo hi args=>EE (.mk op name words lo hi args)&&Cj args
def Cj:List Ex->Bool
 | []=>true
 | e::r=>af0 e&&Cj r
end
mutual
theorem acq:(e:Ex)->(d n:Int)->n<=300->d<=17->((nZ e d n).1=true ↔ (d+e.depth<=17/\n+e.size<=300/\af0 e=true))/\((nZ e d n).1=true->(nZ e d n).2=n+e.size)
 | .mk op name words lo hi args,d,n,hn,hd=>by
  have hs:(Ex.mk op name words lo hi args).size=1+sizes args:=by simp[Ex.size]
  have hp:(Ex.mk op name words lo hi args).depth=jz args+1:=by simp[Ex.depth]
  rw[nZ,hs,hp,af0];by_cases hc:300<n+1\/16<d\/EE (.mk op name words lo hi args)=false
  ·rw[bM hc];refine⟨⟨fun h=>by simp at h,fun ⟨h1,h2,h3⟩=>?_⟩,fun h=>by simp at h⟩;rcases hc with hc|hc|hc
   ·omega
   ·omega
   rw[hc] at h3;simp at h3
  rw[bL hc];have hnb:EE (.mk op name words lo hi args)=true:=by
   cases hh:EE (.mk op name words lo hi args)
   ·exact a40 (a4Z (a4Z hh)) hc
   rfl
  obtain⟨h1,h2⟩:=YP args (d+1) (n+1) (by omega) (by omega);rw[hnb,Bool.true_and];refine⟨h1.trans ⟨fun ⟨a,b,c⟩=>⟨by omega,by omega,c⟩,fun ⟨a,b,c⟩=>⟨by omega,by omega,c⟩⟩,fun h=>by have:=h2 h;omega⟩
theorem YP:(l:List Ex)->(d n:Int)->n<=300->d<=17->((qq l d n).1=true ↔ (d+jz l<=17/\n+sizes l<=300/\Cj l=true))/\((qq l d n).1=true->(qq l d n).2=n+sizes l)
 | [],d,n,hn,hd=>by simp[qq,jz,sizes,Cj];omega
 | e::r,d,n,hn,hd=>by
  obtain⟨h1,h2⟩:=acq e d n hn hd;rw[qq,jz,sizes,Cj];by_cases hv:(nZ e d n).1=true
  ·rw[bM hv];have e2:=h2 hv;obtain⟨a1,a2,a3⟩:=h1.1 hv;obtain⟨h3,h4⟩:=YP r d (nZ e d n).2 (by omega) hd;refine⟨h3.trans ⟨fun ⟨a,b,c⟩=>⟨by omega,by omega,by rw[a3,c];rfl⟩,fun ⟨a,b,c⟩=>⟨by omega,by omega,by rw[a3] at c;simpa using c⟩⟩,fun h=>by have:=h4 h;omega⟩
  rw[bL hv];refine⟨⟨fun h=>by simp at h,fun ⟨a,b,c⟩=>a40 (h1.2 ⟨by omega,by omega,?_⟩) hv⟩,fun h=>by simp at h⟩;rw[aF] at c;exact c.1
end
theorem ayP (e:Ex) (h:e.args.length<=300):EE e=vQ e:=by
 obtain⟨op,name,words,lo,hi,args⟩:=e;simp only[EE,vQ,IQ,Ex.op,Ex.name,Ex.words,Ex.lo,Ex.hi,Ex.args,qg] at *;by_cases h1:1<=op/\op<=8
 ·have hk:op=1\/op=2\/op=3\/op=4\/op=5\/op=6\/op=7\/op=8:=by omega
  have hw:words.isEmpty=decide (words.length=0):=by cases words<;>simp
  have hw2:(words.length != 0)=decide (1<=words.length):=by cases words<;>simp
  rw[hw,hw2];rcases hk with rfl|rfl|rfl|rfl|rfl|rfl|rfl|rfl
  all_goals
   simp only[show ((1:Int).toNat)=1 from rfl,show ((2:Int).toNat)=2 from rfl,show ((3:Int).toNat)=3 from rfl,show ((4:Int).toNat)=4 from rfl,show ((5:Int).toNat)=5 from rfl,show ((6:Int).toNat)=6 from rfl,show ((7:Int).toNat)=7 from rfl,show ((8:Int).toNat)=8 from rfl,m8,qJ,oy];rw[bH];simp
   try grind
 simp[h1]
mutual
theorem Xo:(e:Ex)->e.size<=300->af0 e=AW e
 | .mk op name words lo hi args,h=>by
  have hs:(Ex.mk op name words lo hi args).size=1+sizes args:=by simp[Ex.size]
  have hl:=eR args;rw[af0,AW,ayP _ (by simp only[Ex.args];omega),We args (by omega)]
theorem We:(l:List Ex)->sizes l<=300->Cj l=uL l
 | [],_=>by simp[Cj,uL]
 | e::r,h=>by
  rw[sizes] at h;rw[Cj,uL,Xo e (by omega),We r (by omega)]
end
theorem zx (e:Ex):uX e=eW e:=by
 unfold uX eW;have h:=(acq e 1 0 (by omega) (by omega)).1;have e1:ep e<=300 ↔ e.size<=300:=by unfold ep;omega
 rw[bH,h,aF,aF];constructor
 ·rintro⟨a,b,c⟩;refine⟨⟨?_,?_⟩,by rw[<-Xo e (by omega)];exact c⟩
  ·rw[bP (by omega)];rfl
  rw[aH,e1];omega
 rintro⟨⟨a,b⟩,c⟩;have a2:¬16<e.depth:=fun h=>by rw[bO h] at a;cases a
 have b2:=e1.1 (of_decide_eq_true b);exact⟨by omega,by omega,by rw[Xo e (by omega)];exact c⟩
def zK (e:Ex):Prop :=
 (e.op=1/\e.name=⟨#[]⟩/\e.words=[]/\e.lo=0/\e.hi=0/\e.args=[])\/(e.op=2/\e.name=⟨#[]⟩/\e.words=[]/\e.lo=0/\e.hi=0/\e.args=[]) \/
 (e.op=3/\gJ e.name=true/\e.words=[]/\e.lo=0/\e.hi=0/\e.args=[])\/(e.op=4/\gJ e.name=true/\qg e.words=true/\e.lo=0/\e.hi=0/\e.args=[]) \/
 (e.op=5/\gJ e.name=true/\e.words=[]/\iM e.lo=true/\iM e.hi=true/\e.lo<=e.hi/\e.args=[]) \/
 (e.op=6/\e.name=⟨#[]⟩/\e.words=[]/\e.lo=0/\e.hi=0/\e.args.length=1) \/
 ((e.op=7\/e.op=8)/\e.name=⟨#[]⟩/\e.words=[]/\e.lo=0/\e.hi=0/\2<=e.args.length)
mutual
def gq:Ex->Prop
 | .mk op name words lo hi args=>zK (.mk op name words lo hi args)/\uK args
def uK:List Ex->Prop
 | []=>True
 | e::r=>gq e/\uK r
end
theorem atS (e:Ex):vQ e=true ↔ zK e:=by
 obtain⟨op,name,words,lo,hi,args⟩:=e;have hw:words=[] ↔ words.length=0:=by cases words<;>simp
 have ha:args=[] ↔ args.length=0:=by cases args<;>simp
 have hnm:name=⟨#[]⟩ ↔ name.toList.isEmpty=true:=by
  rw[List.isEmpty_iff,ByteArray.toList_eq];constructor
  ·rintro rfl;rfl
  intro h
  apply ByteArray.ext
  simpa using h
 simp only[vQ,IQ,zK,Ex.op,Ex.name,Ex.words,Ex.lo,Ex.hi,Ex.args,qg,hw,ha,hnm];by_cases h1:1<=op/\op<=8
 ·have hk:op=1\/op=2\/op=3\/op=4\/op=5\/op=6\/op=7\/op=8:=by omega
  rcases hk with rfl|rfl|rfl|rfl|rfl|rfl|rfl|rfl
  all_goals
   simp
   try grind
 simp[h1];omega
mutual
theorem Ke:(e:Ex)->(AW e=true ↔ gq e)
 | .mk op name words lo hi args=>by
  rw[AW,gq,aF,atS,acP args]
theorem acP:(l:List Ex)->(uL l=true ↔ uK l)
 | []=>by simp[uL,uK]
 | e::r=>by rw[uL,uK,aF,Ke e,acP r]
end
theorem acK {l:List Ex} (h:uK l):∀x∈l,gq x:=by
 induction l with
 | nil=>intro x hx;simp at hx
 | cons e r ih =>
  unfold uK at h;intro x hx;rcases bz.1 hx with rfl|hx
  ·exact h.1
  exact ih h.2 x hx
open Go.RowKit
def dU (ops:Array Oper) (j:Nat):Option Tmp:=(ops[j]?).bind (·.dst)
def fL (ops:Array Oper) (a:Act) (vs:Nat->Value) (L:ZN):Act:=L.foldl (fun b j=>b.put (dU ops j) (vs j)) a
theorem Vn (ops:Array Oper) (a:Act) (vs:Nat->Value) (L:ZN) (i:Nat):fL ops a vs (L++[i])=(fL ops a vs L).put (dU ops i) (vs i):=by simp[fL]
theorem Yg {ops:Array Oper} {a:Act} {vs vs':Nat->Value} {L:ZN} (h:∀j∈L,vs j=vs' j):fL ops a vs L=fL ops a vs' L:=by
 unfold fL;induction L generalizing a with
 | nil=>rfl
 | cons x r ih=>simp only[aX,h x (by simp)];exact ih (fun j hj=>h j (aZ _ hj))
theorem afE (a:Act) (d:Option Tmp) (v:Value):(a.put d v).tmps.size=a.tmps.size:=by cases d<;>simp[Act.put]
theorem ab9 (ops:Array Oper) (a:Act) (vs:Nat->Value) (L:ZN):(fL ops a vs L).tmps.size=a.tmps.size:=by
 unfold fL;induction L generalizing a with
 | nil=>rfl
 | cons x r ih=>rw[aX,ih,afE]
def GZ (ops:Array Oper):Prop:=∀i j d,dU ops i=some d->dU ops j=some d->i=j
theorem Wa (a:Act) (t:Tmp) (v:Value):(a.put (some t) v).eval (.tmp t)=if t<a.tmps.size then v else undef:=by
 by_cases h:t<a.tmps.size
 ·rw[bM h];simp[Act.put,Act.eval,h]
 rw[bL h];simp only[Act.put,Act.eval];rw[Array.setIfInBounds_eq_of_size_le (Nat.le_of_not_lt h)];simp;rw[Array.getElem?_eq_none (Nat.le_of_not_lt h)];rfl
theorem uU {ops:Array Oper} (hd:GZ ops) {a:Act} {vs:Nat->Value} {L:ZN} {t:Tmp} {j:Nat} (hj:j∈L) (ht:dU ops j=some t):(fL ops a vs L).eval (.tmp t)=if t<a.tmps.size then vs j else undef:=by
 induction L generalizing a with
 | nil=>simp at hj
 | cons x r ih =>
  simp only[fL,aX];by_cases hjr:j∈r
  ·have:=ih (a:=a.put (dU ops x) (vs x)) hjr;rw[afE] at this;exact this
  obtain rfl:j=x:=by rcases bz.1 hj with h|h;exact h;exact a40 h hjr
  have:∀(b:Act),(fL ops b vs r).eval (.tmp t)=b.eval (.tmp t):=by
   clear ih hj;induction r with
   | nil=>intro b;rfl
   | cons y s ih =>
    intro b;simp only[fL,aX];have h1:=ih (fun h=>hjr (aZ _ h)) (b.put (dU ops y) (vs y));simp only[fL] at h1;rw[h1];exact Act.eval_put (fun d hd' e=>by
     injection e with e
     subst e;exact hjr (by rw[hd _ _ _ ht hd'];simp))
  have h2:=this (a.put (dU ops j) (vs j));simp only[fL] at h2;rw[h2,ht,Wa]
theorem yL {ops:Array Oper} {a:Act} {vs:Nat->Value} {L:ZN} {t:Tmp} (ht:∀j∈L,dU ops j≠some t):(fL ops a vs L).eval (.tmp t)=a.eval (.tmp t):=by
 induction L generalizing a with
 | nil=>rfl
 | cons x r ih =>
  simp only[fL,aX];have:=ih (a:=a.put (dU ops x) (vs x)) (fun j hj=>ht j (aZ _ hj));simp only[fL] at this;rw[this];exact Act.eval_put (fun d hd' e=>by injection e with e;subst e;exact ht x (by simp) hd')
theorem Vo {ops:Array Oper} (hd:GZ ops) {a:Act} {vs:Nat->Value} {L L':ZN} (h:L.Perm L'):fL ops a vs L=fL ops a vs L':=by
 refine List.Perm.foldl_eq' h (fun x _ y _ z=>?_) a;by_cases hxy:x=y
 ·subst hxy;rfl
 exact Act.put_comm _ _ _ (fun d hx hy=>hxy (hd _ _ _ hx hy))
def abD (e:Edge):Bool:=match e.ground with|.data=>true|_=>false
def af6 (ops:Array Oper) (m:Nat):Bool :=
 Region.noSelect ops&&decide (m<=ops.size)&&decide (ops.size<=m+1) &&
 ((List.range ops.size).all fun i=>(List.range ops.size).all fun j=>i==j||dU ops i==none||dU ops i != dU ops j) &&
 ((List.range ops.size).all fun i=>match ops[i]? with
  | none=>false
  | some o=>(o.guard==none||i==m)&&(o.after.all fun e=>(!Region.binds .any e||decide (e.on<i))&&(!abD e||Region.binds .any e)) &&
   ((List.range m).all fun j=>match dU ops j with
    | none=>true
    | some t=>!(o.looksAt ops).contains t||(i==m)||o.after.any (fun e=>Region.binds .any e&&e.on==j)) &&
   (i != m||(List.range m).all fun j=>o.after.any (fun e=>Region.binds .any e&&e.on==j)))
theorem aqm {ops:Array Oper} {m:Nat} (h:af6 ops m=true):Region.noSelect ops=true/\m<=ops.size/\ops.size<=m+1/\GZ ops /\
  (∀i o,ops[i]?=some o->(i<m->o.guard=none)/\(∀e∈o.after,(Region.binds .any e=true->e.on<i)/\(abD e=true->Region.binds .any e=true))/\(i<m->∀j t,j<m->dU ops j=some t->t∈o.looksAt ops->∃e∈o.after,Region.binds .any e=true/\e.on=j) /\
   (i=m->∀j,j<m->∃e∈o.after,Region.binds .any e=true/\e.on=j)):=by
 simp only[af6,aF,aH] at h;obtain⟨⟨⟨⟨h1,h2⟩,h3⟩,h4⟩,h5⟩:=h;refine⟨h1,h2,h3,?_,?_⟩
 ·intro i j d hi hj;have li:i<ops.size:=by
   unfold dU at hi;rcases bJ i ops.size with h|h
   ·exact h
   rw[Array.getElem?_eq_none h] at hi;simp at hi
  have lj:j<ops.size:=by
   unfold dU at hj;rcases bJ j ops.size with h|h
   ·exact h
   rw[Array.getElem?_eq_none h] at hj;simp at hj
  have:=aP.1 (aP.1 h4 i (by simpa using li)) j (by simpa using lj);simpa[hi,hj] using this
 intro i o ho;have li:i<ops.size:=(aQ.1 ho).1;have h6:=aP.1 h5 i (by simpa using li);simp only[ho,aF] at h6;obtain⟨⟨⟨g1,g2⟩,g3⟩,g4⟩:=h6;refine⟨fun hm=>?_,fun e he=>?_,fun hm j t hjm hj ht=>?_,fun hm j hj=>?_⟩
 ·rcases Bool.or_eq_true_iff.1 g1 with g|g
  ·simpa using g
  have:i=m:=by simpa using g
  omega
 ·have:=Array.all_eq_true_iff_forall_mem.1 g2 e he;simp only[aF,bG,Bool.not_eq_true',aH] at this;refine⟨fun hb=>?_,fun hb=>?_⟩
  ·rcases this.1 with h|h
   ·rw[hb] at h;cases h
   exact h
  rcases this.2 with h|h
  ·rw[hb] at h;cases h
  exact h
 ·have:=aP.1 g3 j (by simpa using hjm);rw[hj] at this;simp only[bG,Bool.not_eq_true'] at this;rcases this with (h|h)|h
  ·rw[List.contains_iff_mem.2 ht] at h;cases h
  ·have:i=m:=by simpa using h
   omega
  obtain⟨e,he,hb⟩:=Array.any_eq_true'.1 h;simp only[aF,a47] at hb;exact⟨e,he,hb.1,hb.2⟩
 subst hm;rcases Bool.or_eq_true_iff.1 g4 with g|g
 ·simp at g
 have:=aP.1 g j (by simpa using hj);obtain⟨e,he,hb⟩:=Array.any_eq_true'.1 this;simp only[aF,a47] at hb;exact⟨e,he,hb.1,hb.2⟩
def bQ (P:Program) (o:Oper) (ρ:Operand->Value) (W:World) (T:Value->World->Prop):Prop:=match (execOp ρ o).run P W with
 | .ok (.value v) W'=>T v W'
 | .ok .skip W'=>T undef W'
 | .ok (.enter f args) W'=>Calls P f args W' (fun e W''=>∃v,e=.returned v/\T v W'')
 | _=>False
theorem bQ.wp {P:Program} {o:Oper} {ρ:Operand->Value} {a':Act} {W:World} {T:Value->World->Prop} {Q:Exit->Act->World->Prop} (h:bQ P o ρ W T) (he:execOp a'.eval o=execOp ρ o) :
  o.wp P a' W (fun a'' W'=>∃v,a''=a'.put o.dst v/\T v W') Q:=by
 unfold bQ at h;unfold Oper.wp;rw[he];generalize (execOp ρ o).run P W=r at *;cases r with
 | ok n w' =>
  cases n<;>simp only at h<;>simp only[Oper.upon]
  case value v=>exact⟨v,rfl,h⟩
  case skip=>exact⟨undef,rfl,h⟩
  case enter f args =>
   refine Calls.mono h (fun e w'' he=>?_);obtain⟨v,rfl,ht⟩:=he;exact⟨v,rfl,ht⟩
 | halt x w'=>simp only at h
structure avU (ops:Array Oper) (a:Act) (m:Nat) (vs:Nat->Value) (ρ:Operand->Value):Prop where
 ins:∀j t,j<m->dU ops j=some t->t<a.tmps.size->ρ (.tmp t)=vs j
 out:∀t,((List.range m).all fun j=>dU ops j != some t)=true->ρ (.tmp t)=a.eval (.tmp t)
 const:∀c,ρ (.const c)=c
 aXg:∀g,ρ (.global g)=.pointer (some ⟨g,0,none⟩)
 func:∀f,ρ (.func f)=.func (.func f) #[] #[]
theorem aj6 {ops:Array Oper} (hd:GZ ops) (a:Act) (m:Nat) (vs:Nat->Value):avU ops a m vs (fL ops a vs (List.range m)).eval where
 ins:=fun j t hj ht hs=>by rw[uU hd (by simpa using hj) ht,bM hs]
 out:=fun t ht=>yL (fun j hj=>by have:=aP.1 ht j hj;simpa using this)
 const:=fun _=>rfl
 aXg:=fun _=>rfl
 func:=fun _=>rfl
def upd (vs:Nat->Value) (i:Nat) (v:Value):Nat->Value:=fun j=>if j=i then v else vs j
def fK (ops:Array Oper):Nat->Nat->Nat->Bool
 | 0,_,_=>false
 | f+1,i,k=>match ops[i]? with
  | none=>false
  | some o=>o.after.any fun e=>Region.binds .any e&&(e.on==k||fK ops f e.on k)
theorem vW {ops:Array Oper} {L:ZN} (hcl:∀i∈L,∀o,ops[i]?=some o->∀e∈o.after,Region.binds .any e=true->e.on∈L):∀(f i k:Nat),i∈L->fK ops f i k=true->k∈L:=by
 intro f;induction f with
 | zero=>intro i k _ h;simp[fK] at h
 | succ f ih =>
  intro i k hi h;rw[fK] at h;cases ho:ops[i]? with
  | none=>rw[ho] at h;cases h
  | some o =>
   rw[ho] at h;obtain⟨e,he,hb⟩:=Array.any_eq_true'.1 h;simp only[aF,bG,a47] at hb;have hm:=hcl i hi o ho e he hb.1;rcases hb.2 with h1|h1
   ·rw[<-h1];exact hm
   exact ih e.on k hm h1
theorem Fy {ops:Array Oper} {L:ZN} (hcl:∀i∈L,∀o,ops[i]?=some o->∀e∈o.after,Region.binds .any e=true->e.on∈L) {i:Nat} {o:Oper} (ho:ops[i]?=some o) (hd:∀e∈o.after,Region.binds .any e=true->e.on∈L):∀(f k:Nat),fK ops f i k=true->k∈L:=by
 intro f k h;cases f with
 | zero=>simp[fK] at h
 | succ f =>
  rw[fK,ho] at h;obtain⟨e,he,hb⟩:=Array.any_eq_true'.1 h;simp only[aF,bG,a47] at hb;have hm:=hd e he hb.1;rcases hb.2 with h1|h1
  ·rw[<-h1];exact hm
  exact vW hcl f e.on k hm h1
def ZJ (ops:Array Oper) (c i:Nat):Bool:=match ops[c]? with|none=>false|some o=>o.after.any fun e=>abD e&&e.on==i
def mN (ops:Array Oper) (m:Nat) (Kp:ZN) (i k:Nat):Bool:=!fK ops m i k&&(Kp.contains i||(List.range m).any fun c=>c != k&&!fK ops m k c&&ZJ ops c i)
section
variable {P:Program} {ops:Array Oper} {Q:Exit->Act->World->Prop} {a:Act} {m:Nat} (Kp:ZN) (G:ZN->World->Prop) (E:Nat->World->World->Prop) (R:Nat->Value->World->Prop)
theorem as9 (hok:af6 ops m=true) (hRE:∀i k v W W',i<m->k<m->i≠k->mN ops m Kp i k=true->R i v W->E k W W'->R i v W')
  (hstep:∀i o,i<m->ops[i]?=some o->∀L vs W,i∉L->(∀j∈L,fK ops m j i=false)->G L W->(∀e∈o.after,abD e=true->R e.on (vs e.on) W)->∀ρ,avU ops a m vs ρ->bQ P o ρ W (fun v W'=>E i W W'/\G (L++[i]) W'/\R i v W'))
  (hend:∀L vs W,(∀j,j<m->j∈L)->G L W->(∀j∈Kp,j<m->R j (vs j) W)->if m=ops.size then Q .normal (fL ops a vs (List.range m)) W else wpOp P ops Q m (fun a w=>Q .normal a w) (fL ops a vs (List.range m)) W) :
  ∀(fuel:Nat) (L:ZN) (vs:Nat->Value) (W:World) (listed:Array Bool),listed.size=ops.size->(∀j,j<ops.size->(listed.getD j true=true ↔ j∈L))->L.Nodup->(∀j∈L,j<m)->((List.range ops.size).filter (fun j=>!L.contains j)).length<=fuel->G L W->(∀i∈L,∀o,ops[i]?=some o->∀e∈o.after,Region.binds .any e=true->e.on∈L)->(∀j∈L,(j∈Kp\/∃c,c<m/\c∉L/\ZJ ops c j=true)->R j (vs j) W) ->
   wpAny P .any ops Q fuel listed (fL ops a vs L) W:=by
 obtain⟨zP,hm1,hm2,hda,hspec⟩:=aqm hok;have hperm:∀L:ZN,L.Nodup->(∀j∈L,j<m)->(∀j,j<m->j∈L)->L.Perm (List.range m):=fun L h1 h2 h3 =>
  (List.perm_ext_iff_of_nodup h1 List.nodup_range).2 (fun j=>⟨fun h=>by simpa using h2 j h,fun h=>h3 j (by simpa using h)⟩)
 have hall:∀(L:ZN) (listed:Array Bool),listed.size=ops.size->(∀j,j<ops.size->(listed.getD j true=true ↔ j∈L))->(∀j∈Region.ready .any ops listed,¬j<m)->∀j,j<m->j∈L:=by
  intro L listed hsz hL hr j;induction j using Nat.strongRecOn with
  | _ j ih =>
   intro hj;by_cases Sh:j∈L
   ·exact Sh
   exfalso;refine hr j ?_ hj;have hjs:j<ops.size:=by omega
   rw[mem_ready];obtain⟨o,ho⟩:∃o,ops[j]?=some o:=⟨ops[j],aY hjs⟩
   refine⟨?_,o,ho,fun e he hb=>?_⟩
   ·cases hx:listed.getD j true
    ·rfl
    exact a40 ((hL j hjs).1 hx) Sh
   have hlt:=((hspec j o ho).2.1 e he).1 hb;have hm:=ih e.on hlt (by omega);have:=(hL e.on (by omega)).2 hm;have hin:e.on<listed.size:=by rw[hsz];omega
   simpa[Array.getD,hin] using this
 have abI:∀(L:ZN) (vs:Nat->Value) (W:World),L.Nodup->(∀j∈L,j<m)->(∀j,j<m->j∈L)->G L W->(∀j∈L,(j∈Kp\/∃c,c<m/\c∉L/\ZJ ops c j=true)->R j (vs j) W) ->
   if m=ops.size then Q .normal (fL ops a vs L) W else wpOp P ops Q m (fun a w=>Q .normal a w) (fL ops a vs L) W:=by
  intro L vs W hnd l7 wK hE hR;rw[Vo hda (hperm L hnd l7 wK)];exact hend L vs W wK hE (fun j hk hj=>hR j (wK j hj) (aoX hk))
 intro fuel;induction fuel with
 | zero =>
  intro L vs W listed hsz hL hnd l7 hlen hE hcl hR;have wK:∀j,j<ops.size->j∈L:=fun j hj=>by
   have h0:=aR (Nat.le_zero.1 hlen);have:j∉(List.range ops.size).filter (fun j=>!L.contains j):=by rw[h0];simp
   simpa[hj] using this
  have hmn:m=ops.size:=by
   rcases bJ m ops.size with h|h
   ·have:=l7 m (wK m h);omega
   omega
  have hf:=abI L vs W hnd l7 (fun j hj=>wK j (by omega)) hE hR;rw[bM hmn] at hf;refine⟨?_,hf⟩;rw[List.eq_nil_iff_forall_not_mem];intro j hj;obtain⟨h0,o,ho,_⟩:=mem_ready.1 hj;have:=(hL j (aQ.1 ho).1).2 (wK j (aQ.1 ho).1);rw[this] at h0;cases h0
 | succ fuel ih =>
  intro L vs W listed hsz hL hnd l7 hlen hE hcl hR;refine⟨fun hr=>?_,fun i hi=>?_⟩
  ·have wK:=hall L listed hsz hL (by rw[hr];simp);have hf:=abI L vs W hnd l7 wK hE hR;by_cases hmn:m=ops.size
   ·rw[bM hmn] at hf;exact hf
   exfalso;have hms:m<ops.size:=by omega
   have:m∈Region.ready .any ops listed:=by
    rw[mem_ready];obtain⟨o,ho⟩:∃o,ops[m]?=some o:=⟨ops[m],aY hms⟩
    refine⟨?_,o,ho,fun e he hb=>?_⟩
    ·cases hx:listed.getD m true
     ·rfl
     have:=l7 m ((hL m hms).1 hx);omega
    have hlt:=((hspec m o ho).2.1 e he).1 hb;have:=(hL e.on (by omega)).2 (wK e.on hlt);have hin:e.on<listed.size:=by rw[hsz];omega
    simpa[Array.getD,hin] using this
   rw[hr] at this;simp at this
  obtain⟨h0,o,ho,au8⟩:=mem_ready.1 hi;have GI:i<ops.size:=(aQ.1 ho).1;have yQ:i∉L:=fun h=>by rw[(hL i GI).2 h] at h0;cases h0
  have GK:∀e∈o.after,Region.binds .any e=true->e.on∈L:=fun e he hb=>by
   have h1:=au8 e he hb;have hlt:=((hspec i o ho).2.1 e he).1 hb;have hin:e.on<listed.size:=by rw[hsz];omega
   exact(hL e.on (by omega)).1 (by simpa[Array.getD,hin] using h1)
  have agI:∀j,j<ops.size->((listed.setIfInBounds i true).getD j true=true ↔ j∈L++[i]):=fun j hj=>by
   by_cases hij:i=j
   ·subst hij;simp[hsz,GI]
   rw[getD_set_ne true hij,hL j hj];simp;intro e;exact a40 e.symm hij
  by_cases him:i<m
  ·
   have hnc:∀j∈L,fK ops m j i=false:=fun j hj=>by
    cases hx:fK ops m j i
    ·rfl
    exact a40 (vW hcl m j i hj hx) yQ
   have hg:=hstep i o him ho L vs W yQ hnc hE (fun e he hb=>hR _ (GK e he (((hspec i o ho).2.1 e he).2 hb)) (a4Z ⟨i,him,yQ,by unfold ZJ;rw[ho];exact Array.any_eq_true'.2 ⟨e,he,by simp[hb]⟩⟩)) _ (aj6 hda a m vs);have hex:execOp (fL ops a vs L).eval o=execOp (fL ops a vs (List.range m)).eval o:=by
    refine execOp_congr o (Region.noSelect_spec zP i o · · ho) (fun x hx=>?_);cases x with
    | tmp t =>
     have aDk:t∈o.looksAt ops:=aK _ (List.mem_filterMap.2 ⟨.tmp t,by simpa using hx,rfl⟩);by_cases hex:∃j,j<m/\dU ops j=some t
     ·obtain⟨j,hjm,hj⟩:=hex;obtain⟨e,he,hb,rfl⟩:=(hspec i o ho).2.2.1 him j t hjm hj aDk;have Sh:=GK e he hb;rw[uU hda Sh hj,uU hda (by simpa using l7 _ Sh) hj]
     have h1:∀j,j<m->dU ops j≠some t:=fun j hjm hj=>hex ⟨j,hjm,hj⟩
     rw[yL (fun j Sh=>h1 j (l7 j Sh)),yL (fun j hjr=>h1 j (by simpa using hjr))]
    | const v=>rfl
    | global g=>rfl
    | func f=>rfl
   unfold wpOp;simp only[ho];rw[bM (by unfold Region.wanted;rw[(hspec i o ho).1 him])]
   left
   refine Oper.wp_mono ?_ (hg.wp hex);rintro a' W' ⟨v,rfl,hEW,hE',hRv⟩;have e1:(fL ops a vs L).put o.dst v=fL ops a (upd vs i v) (L++[i]):=by
    rw[Vn,Yg (vs:=upd vs i v) (vs':=vs) (fun j hj=>by unfold upd;rw[bL (fun e=>yQ (by rw[<-e];exact hj))])];simp[upd,dU,ho]
   rw[e1];refine ih (L++[i]) (upd vs i v) W' _ (by simpa using hsz) agI ?_ ?_ ?_ hE' ?_ ?_
   ·rw[List.nodup_append];exact⟨hnd,by simp,fun x hx y hy e=>by simp at hy;subst hy;subst e;exact yQ hx⟩
   ·intro j hj;rcases aN.1 hj with h|h
    ·exact l7 j h
    simp at h;omega
   ·have h1:(List.range ops.size).filter (fun j=>!(L++[i]).contains j)=((List.range ops.size).filter (fun j=>!L.contains j)).filter (fun j=>j != i):=by
     rw[List.filter_filter]
     congr 1
     funext j
     simp only[List.contains_append,Bool.not_or];rw[Bool.and_comm]
     congr 1
     rw[bH];simp[bne]
    have h2:(((List.range ops.size).filter (fun j=>!L.contains j)).filter (fun j=>j != i)).length<((List.range ops.size).filter (fun j=>!L.contains j)).length:=by
     rw[List.length_filter_lt_length_iff_exists];exact⟨i,by simp[GI,yQ],by simp⟩
    rw[h1];omega
   ·intro j hj o' ho' e he hb;rcases aN.1 hj with h|h
    ·exact aK _ (hcl j h o' ho' e he hb)
    simp at h;subst h;rw[ho] at ho';cases ho'
    exact aK _ (GK e he hb)
   intro j hj aq6;rcases aN.1 hj with h|h
   ·have:upd vs i v j=vs j:=by unfold upd;rw[bL (fun e=>yQ (by rw[<-e];exact h))]
    rw[this];have au4:j∈Kp\/∃c,c<m/\c∉L/\ZJ ops c j=true:=aq6.imp id (fun ⟨c,h1,h2,h3⟩=>⟨c,h1,fun hc=>h2 (aK _ hc),h3⟩);refine hRE j i _ W W' (l7 j h) him (fun e=>yQ (e ▸ h)) ?_ (hR j h au4) hEW;unfold mN;rw[aF,Bool.not_eq_true',bG];refine⟨?_,?_⟩
    ·cases hx:fK ops m j i
     ·rfl
     exact a40 (vW hcl m j i h hx) yQ
    rcases aq6 with hk|⟨c,h1,h2,h3⟩
    ·exact aoX (List.contains_iff_mem.2 hk)
    refine a4Z (List.any_eq_true.2 ⟨c,by simpa using h1,?_⟩);rw[h3,Bool.and_true,aF,bne_iff_ne,Bool.not_eq_true'];refine⟨fun e=>by subst e;exact h2 (by simp),?_⟩;cases hx:fK ops m i c
    ·rfl
    exact a40 (aK _ (Fy hcl ho GK m c hx)) h2
   simp at h;subst h;simpa[upd] using hRv
  obtain rfl:i=m:=by omega
  have wK:∀j,j<i->j∈L:=fun j hj=>by
   obtain⟨e,he,hb,rfl⟩:=(hspec i o ho).2.2.2 rfl j hj;exact GK e he hb
  have hf:=abI L vs W hnd l7 wK hE hR;rw[bL (by omega)] at hf;refine wpOp_mono (fun a' W' hq=>?_) hf;refine wpAny_done ?_ hq fuel;rw[List.eq_nil_iff_forall_not_mem];intro j hj;obtain⟨h0',o',ho',_⟩:=mem_ready.1 hj;have hjs:=(aQ.1 ho').1;have:j∈L++[i]:=by
   by_cases hji:j<i
   ·exact aK _ (wK j hji)
   have:j=i:=by omega
   simp[this]
  rw[(agI j hjs).2 this] at h0';cases h0'
theorem kU {id:Nat} {w:World} (hm:P.follows .mixedOrders=true) (hok:af6 ops m=true) (hG:G [] w.drew) (hRE:∀i k v W W',i<m->k<m->i≠k->mN ops m Kp i k=true->R i v W->E k W W'->R i v W')
  (hstep:∀i o,i<m->ops[i]?=some o->∀L vs W,i∉L->(∀j∈L,fK ops m j i=false)->G L W->(∀e∈o.after,abD e=true->R e.on (vs e.on) W)->∀ρ,avU ops a m vs ρ->bQ P o ρ W (fun v W'=>E i W W'/\G (L++[i]) W'/\R i v W'))
  (hend:∀L vs W,(∀j,j<m->j∈L)->G L W->(∀j∈Kp,j<m->R j (vs j) W)->if m=ops.size then Q .normal (fL ops a vs (List.range m)) W else wpOp P ops Q m (fun a w=>Q .normal a w) (fL ops a vs (List.range m)) W) :
  (Code.region id ops true).wp P Q a w:=by
 refine wp_region_any hm ?_;refine as9 Kp G E R hok hRE hstep hend ops.size [] (fun _=>undef) _ _ (by simp) (fun j hj=>?_) List.nodup_nil (fun j hj=>by simp at hj) ?_ hG (fun j hj=>by simp at hj) (fun j hj=>by simp at hj)
 ·simp[hj]
 exact aV (List.length_filter_le _ _) (by simp)
end
section
variable {P:Program} {ops:Array Oper} {Q:Exit->Act->World->Prop} {a:Act} {m:Nat} (Kp:ZN) (G:World->Prop) (E:Nat->World->World->Prop) (R:Nat->Value->World->Prop)
theorem fk {id:Nat} {w:World} (hm:P.follows .mixedOrders=true) (hok:af6 ops m=true) (hG:G w.drew) (hRE:∀i k v W W',i<m->k<m->i≠k->mN ops m Kp i k=true->R i v W->E k W W'->R i v W')
  (hstep:∀i o,i<m->ops[i]?=some o->∀vs W,G W->(∀e∈o.after,abD e=true->R e.on (vs e.on) W)->∀ρ,avU ops a m vs ρ->bQ P o ρ W (fun v W'=>E i W W'/\G W'/\R i v W'))
  (hend:∀vs W,G W->(∀j∈Kp,j<m->R j (vs j) W)->if m=ops.size then Q .normal (fL ops a vs (List.range m)) W else wpOp P ops Q m (fun a w=>Q .normal a w) (fL ops a vs (List.range m)) W) :
  (Code.region id ops true).wp P Q a w :=
 kU Kp (fun _ W=>G W) E R hm hok hG hRE (fun i o hi ho _ vs W _ _=>hstep i o hi ho vs W) (fun _ vs W _=>hend vs W)
end
theorem avU.i {ops : Array Oper} {a : Act} {m : Nat} {vs : Nat -> Value} {ρ : Operand -> Value} (h : avU ops a m vs ρ) (j t : Nat) (h1 : j < m := by omega) (h2 : dU ops j = some t := by rfl) (h3 : Nat.ble (t + 1) a.tmps.size = true := by rfl) : ρ (.tmp t) = vs j := h.ins j t h1 h2 (Nat.le_of_ble_eq_true h3)
theorem jS {t e:TypeId} {z:Value} {size bytes:Nat} (E:uq t e z size bytes) {ρ:Operand->Value} {W:World} {T:Value->World->Prop} {dst:Option Tmp} {ty:TypeId} {pos:String} {after:Array Edge} {guard:Option (Nat×Bool)}
  (s x:Operand) (base:Nat) (v:Value) (n:Nat) (xs:List Value) (hs:ρ s=v) (B m c:Nat) (news:List Value) (hx:ρ x=.slice (some ⟨B,0,none⟩) m c) (hl:news.length=m*size) (h1:∀u∈news,u.oneCell'=true) (hm:0<m) (hn:n+m<=100000000) (hb:bytes<=1000)
  (hown:W.ownsRow base e size v n xs) (hnews:∀j (h:j<news.length),W.cell? ⟨B,j,none⟩=some news[j]) (hbase:base<=W.heap.size)
  (h:∀g cap w',w'.ownsRow base e size (.slice (some ⟨g,0,none⟩) (n+m) cap) (n+m) (xs++news)->W.grownBy w' v.ownBlock->(v.ownBlock=some g\/g=W.heap.size)->g<w'.heap.size->T (.slice (some ⟨g,0,none⟩) (n+m) cap) w') :
  bQ Tryz.prog { dst:=dst,op:=.call { callee:=.builtin .append,args:=#[s,x],argTypes:=#[t,t] },type:=ty,pos:=pos,after:=after,guard:=guard } ρ W T:=by
 obtain⟨i,hi,hz,hsz,hby⟩:=info_parts E.info;obtain⟨g,cap,w',hrun,h2,h3,h4,h5⟩:=run_append_lies (P:=Tryz.prog) W t ty base e i z size bytes E.ht hi hz hsz hby E.hzs E.hsz v n xs hown ⟨B,0,none⟩ m c news hl (by
   intro j u hu;obtain⟨hj,rfl⟩:=List.getElem?_eq_some_iff.1 hu;have:(⟨B,0,none⟩:Addr).add j=⟨B,j,none⟩:=by unfold Addr.add;split<;>simp_all
   rw[this];exact hnews j hj) h1 hm (by simp only[maxLen];omega) (by
   calc (n+m)*bytes<=100000000*1000:=Nat.mul_le_mul hn hb
    _<=140737488355328:=by omega) hbase _ rfl
 unfold bQ;have he:execOp ρ { dst:=dst,op:=.call { callee:=.builtin .append,args:=#[s,x],argTypes:=#[t,t] },type:=ty,pos:=pos,after:=after,guard:=guard }=(do pure (.value (<-Builtin.append_ #[t,t] ty #[v,.slice (some ⟨B,0,none⟩) m c]))):=by
  rw[<-hs,<-hx,BigFrame.execOp_builtin,BigFrame.builtin_append];simp
 rw[he];simp only[Sem.run_bind,hrun];exact h g cap w' h2 h3 h4 h5
theorem alloc_at {w:World} {o:Obj} {n:Nat} (h:n=w.heap.size):(w.alloc o).heap[n]?=some o:=by subst h;exact bR w o
end Go.Proofs.YtefjomofjejklaaGreatDoor
