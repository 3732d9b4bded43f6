/-
  Texts of the claim, joined: Plain1, Fmt, OkTree, Fmt2, Plain2, Chk, SIdx, SVal.
-/
import Derived.Test.YtefjomofjejklaaGreatDoorDx12
namespace Go.Proofs.YtefjomofjejklaaGreatDoor
set_option maxRecDepth 100000
set_option maxHeartbeats 32000000
mutual
def akE:Ex->Bool
 | .mk op name words lo hi args=>KG (.mk op name words lo hi args)&&IE args
def IE:List Ex->Bool
 | []=>true
 | e::r=>akE e&&IE r
end
mutual
theorem ahk:(e:Ex)->(d n:Int)->n<=300->d<=17->((sD e d n).1=true ↔ (d+e.depth<=17/\n+e.size<=300/\akE e=true))/\((sD e d n).1=true->(sD e d n).2=n+e.size)
 | .mk op name words lo hi args,d,n,hn,hd=>by
  have hs:(Ex.mk op name words lo hi args).size=1+sizes args:=by simp[Ex.size]
  have hp:(Ex.mk op name words lo hi args).depth=depths args+1:=by simp[Ex.depth]
  rw[sD,hs,hp,akE];by_cases hc:300<n+1\/16<d\/KG (.mk op name words lo hi args)=false
  ·rw[dw hc];refine⟨⟨fun h=>by simp at h,fun ⟨h1,h2,h3⟩=>?_⟩,fun h=>by simp at h⟩;rcases hc with hc|hc|hc
   ·omega
   ·omega
   rw[hc] at h3;simp at h3
  rw[dh hc];have hnb:KG (.mk op name words lo hi args)=true:=by
   cases hh:KG (.mk op name words lo hi args)
   ·exact absurd (Or.inr (Or.inr hh)) hc
   rfl
  obtain⟨h1,h2⟩:=aeg args (d+1) (n+1) (by omega) (by omega);rw[hnb,Bool.true_and];refine⟨h1.trans ⟨fun ⟨a,b,c⟩=>⟨by omega,by omega,c⟩,fun ⟨a,b,c⟩=>⟨by omega,by omega,c⟩⟩,fun h=>by have:=h2 h;omega⟩
theorem aeg:(l:List Ex)->(d n:Int)->n<=300->d<=17->((uT l d n).1=true ↔ (d+depths l<=17/\n+sizes l<=300/\IE l=true))/\((uT l d n).1=true->(uT l d n).2=n+sizes l)
 | [],d,n,hn,hd=>by simp[uT,depths,sizes,IE];omega
 | e::r,d,n,hn,hd=>by
  obtain⟨h1,h2⟩:=ahk e d n hn hd;rw[uT,depths,sizes,IE];by_cases hv:(sD e d n).1=true
  ·rw[dw hv];have e2:=h2 hv;obtain⟨a1,a2,a3⟩:=h1.1 hv;obtain⟨h3,h4⟩:=aeg r d (sD e d n).2 (by omega) hd;refine⟨h3.trans ⟨fun ⟨a,b,c⟩=>⟨by omega,by omega,by rw[a3,c];rfl⟩,fun ⟨a,b,c⟩=>⟨by omega,by omega,by rw[a3] at c;simpa using c⟩⟩,fun h=>by have:=h4 h;omega⟩
  rw[dh hv];refine⟨⟨fun h=>by simp at h,fun ⟨a,b,c⟩=>absurd (h1.2 ⟨by omega,by omega,?_⟩) hv⟩,fun h=>by simp at h⟩;rw[aJ] at c;exact c.1
end
theorem aDa (e:Ex) (h:e.args.length<=300):KG e=Au e:=by
 obtain⟨op,name,words,lo,hi,args⟩:=e;simp only[KG,Au,OZ,Ex.op,Ex.name,Ex.words,Ex.lo,Ex.hi,Ex.args,uN] at *;by_cases h1:1<=op/\op<=8
 ·have hk:op=1\/op=2\/op=3\/op=4\/op=5\/op=6\/op=7\/op=8:=by omega
  have hw:words.isEmpty=decide (words.length=0):=by cases words<;>simp
  have hw2:(words.length != 0)=decide (1<=words.length):=by cases words<;>simp
  rw[hw,hw2];rcases hk with rfl|rfl|rfl|rfl|rfl|rfl|rfl|rfl
  all_goals
   simp only[show ((1:Int).toNat)=1 from rfl,show ((2:Int).toNat)=2 from rfl,show ((3:Int).toNat)=3 from rfl,show ((4:Int).toNat)=4 from rfl,show ((5:Int).toNat)=5 from rfl,show ((6:Int).toNat)=6 from rfl,show ((7:Int).toNat)=7 from rfl,show ((8:Int).toNat)=8 from rfl,qX,vC,sN];rw[bW];simp
   try grind
 simp[h1]
mutual
theorem adt:(e:Ex)->e.size<=300->akE e=Gt e
 | .mk op name words lo hi args,h=>by
  have hs:(Ex.mk op name words lo hi args).size=1+sizes args:=by simp[Ex.size]
  have hl:=iI args;rw[akE,Gt,aDa _ (by simp only[Ex.args];omega),acK args (by omega)]
theorem acK:(l:List Ex)->sizes l<=300->IE l=nodesAll l
 | [],_=>by simp[IE,nodesAll]
 | e::r,h=>by
  rw[sizes] at h;rw[IE,nodesAll,adt e (by omega),acK r (by omega)]
end
theorem Eo (e:Ex):zQ e=iL e:=by
 unfold zQ iL;have h:=(ahk e 1 0 (by omega) (by omega)).1;have e1:gZ e<=300 ↔ e.size<=300:=by unfold gZ;omega
 rw[bW,h,aJ,aJ];constructor
 ·rintro⟨a,b,c⟩;refine⟨⟨?_,?_⟩,by rw[<-adt e (by omega)];exact c⟩
  ·rw[dD (by omega)];rfl
  rw[aN,e1];omega
 rintro⟨⟨a,b⟩,c⟩;have a2:¬16<e.depth:=fun h=>by rw[dB h] at a;cases a
 have b2:=e1.1 (of_decide_eq_true b);exact⟨by omega,by omega,by rw[adt e (by omega)];exact c⟩
def eY (s:BA):Tok:=⟨1,s,0,0⟩
def markT (c:UInt8):Tok:=⟨4,⟨#[c]⟩,0,0⟩
def Bd (n:Int):Tok:=⟨2,⟨#[]⟩,n,0⟩
def wTo:BA:=⟨#[116,111]⟩
def iw:ZB->List Tok
 | []=>[]
 | [s]=>[eY s]
 | s::r=>eY s::markT 44::iw r
def paren (op aop:Int):Bool:=aop==8||(aop==7&&op != 8)
mutual
def tokE:Ex->List Tok
 | .mk op name words lo hi args =>
  if op=1 then [eY zW] else if op=2 then [eY uX] else if op=3 then [eY name] else
  if op=4 then [eY name,eY wIn,markT 40]++iw words++[markT 41] else
  if op=5 then [eY name,eY Aq,Bd lo,eY wTo,Bd hi] else
  (if op=6 then [eY CJ] else [])++lu op args
def lu (op:Int):List Ex->List Tok
 | []=>[]
 | a::r=>(if paren op a.op then [markT 40]++tokE a++[markT 41] else tokE a)++kS op r
def kS (op:Int):List Ex->List Tok
 | []=>[]
 | a::r=>[eY (if op=7 then vT else Sm)]++(if paren op a.op then [markT 40]++tokE a++[markT 41] else tokE a)++kS op r
end
def EH (e:Ex):Prop :=
 (e.op=1/\e.name=⟨#[]⟩/\e.words=[]/\e.lo=0/\e.hi=0/\e.args=[])\/(e.op=2/\e.name=⟨#[]⟩/\e.words=[]/\e.lo=0/\e.hi=0/\e.args=[]) \/
 (e.op=3/\nameB e.name=true/\e.words=[]/\e.lo=0/\e.hi=0/\e.args=[])\/(e.op=4/\nameB e.name=true/\uN e.words=true/\e.lo=0/\e.hi=0/\e.args=[]) \/
 (e.op=5/\nameB e.name=true/\e.words=[]/\kL e.lo=true/\kL e.hi=true/\e.lo<=e.hi/\e.args=[]) \/
 (e.op=6/\e.name=⟨#[]⟩/\e.words=[]/\e.lo=0/\e.hi=0/\e.args.length=1) \/
 ((e.op=7\/e.op=8)/\e.name=⟨#[]⟩/\e.words=[]/\e.lo=0/\e.hi=0/\2<=e.args.length)
mutual
def jA:Ex->Prop
 | .mk op name words lo hi args=>EH (.mk op name words lo hi args)/\zG args
def zG:List Ex->Prop
 | []=>True
 | e::r=>jA e/\zG r
end
theorem ayy (e:Ex):Au e=true ↔ EH e:=by
 obtain⟨op,name,words,lo,hi,args⟩:=e;have hw:words=[] ↔ words.length=0:=by cases words<;>simp
 have ha:args=[] ↔ args.length=0:=by cases args<;>simp
 have hnm:name=⟨#[]⟩ ↔ name.toList.isEmpty=true:=by
  rw[List.isEmpty_iff,ByteArray.toList_eq];constructor
  ·rintro rfl;rfl
  intro h
  apply ByteArray.ext
  simpa using h
 simp only[Au,OZ,EH,Ex.op,Ex.name,Ex.words,Ex.lo,Ex.hi,Ex.args,uN,hw,ha,hnm];by_cases h1:1<=op/\op<=8
 ·have hk:op=1\/op=2\/op=3\/op=4\/op=5\/op=6\/op=7\/op=8:=by omega
  rcases hk with rfl|rfl|rfl|rfl|rfl|rfl|rfl|rfl
  all_goals
   simp
   try grind
 simp[h1];omega
mutual
theorem QM:(e:Ex)->(Gt e=true ↔ jA e)
 | .mk op name words lo hi args=>by
  rw[Gt,jA,aJ,ayy,ahF args]
theorem ahF:(l:List Ex)->(nodesAll l=true ↔ zG l)
 | []=>by simp[nodesAll,zG]
 | e::r=>by rw[nodesAll,zG,aJ,QM e,ahF r]
end
theorem ahA {l:List Ex} (h:zG l):∀x∈l,jA x:=by
 induction l with
 | nil=>intro x hx;simp at hx
 | cons e r ih =>
  unfold zG at h;intro x hx;rcases bK.1 hx with rfl|hx
  ·exact h.1
  exact ih h.2 x hx
theorem kP {e:Ex} (h:jA e):EH e/\∀x∈e.args,jA x:=by
 cases e;unfold jA at h;exact⟨h.1,ahA h.2⟩
theorem nU {f:Nat->Int}:(n:Nat)->(oC f n).2=0->∀j,j<n->f j=0
 | 0,_,j,hj=>by omega
 | n+1,h,j,hj=>by
  rw[oC] at h;by_cases h1:(oC f n).2≠0
  ·rw[dw h1] at h;exact absurd h h1
  rw[dh h1] at h;have h1':(oC f n).2=0:=by simpa using h1
  by_cases h2:f n≠0
  ·rw[dw h2] at h;exact absurd h h2
  rcases Nat.lt_succ_iff_lt_or_eq.1 hj with h3|h3
  ·exact nU n h1' j h3
  subst h3;simpa using h2
structure Chk (s:List Attr) (l:List dY):Prop where
 DK:fD s=0
 len:l.length<=100
 good:∀c∈l,jA c.cond/\fB s l c.cond=0/\iL c.cond=true/\nameB c.name=true/\iE s c.name=none
 uniq:∀i j,i<l.length->j<i->(l.getD j iT).name≠(l.getD i iT).name
 exp:∀c∈l,expanded l c.cond<=2000
theorem vY {l:List dY} {i:Nat} (h:i<l.length):l.getD i iT=l[i]:=by simp[h]
theorem apt {l:List dY} {x:BA} {j:Nat} (hj:j<l.length) (h:(l.getD j iT).name=x):(findAt l x).getD 0<=j:=by
 unfold findAt;cases hf:l.findIdx? (fun c=>decide (c.name=x)) with
 | none =>
  rw[bJ] at hf;have:=hf _ (aI hj);rw[vY hj] at h;simp[h] at this
 | some k =>
  rw[aP] at hf;obtain⟨hk,_,h2⟩:=hf;simp only[Option.getD_some];rcases cO j k with h3|h3
  ·have:=h2 j h3;rw[vY hj] at h;simp[h] at this
  exact h3
theorem qO {s:List Attr} {l:List dY} (h:(eU s l).2=0):Chk s l:=by
 unfold eU at h;by_cases h1:fD s≠0
 ·rw[dw h1] at h;exact absurd h h1
 rw[dh h1] at h;by_cases h2:100<l.length
 ·rw[dw h2] at h;simp at h
 rw[dh h2] at h;by_cases h3:(oC (lU s l) l.length).2≠0
 ·rw[dw h3] at h;exact absurd h h3
 rw[dh h3] at h;by_cases h4:¬Sorts (l.map dY.dfn)
 ·rw[dw h4] at h;simp at h
 rw[dh h4] at h;have hc:=nU l.length (by simpa using h3);have hg:=nU l.length h;have hcl:∀i,i<l.length->jO (l.getD i iT)=true/\i<=(findAt l (l.getD i iT).name).getD 0/\iE s (l.getD i iT).name=none/\fB s l (l.getD i iT).cond=0:=by
  intro i hi;have:=hc i hi;unfold lU at this;by_cases g1:jO (l.getD i iT)=false
  ·rw[dw g1] at this;cases this
  rw[dh g1] at this;by_cases g2:(findAt l (l.getD i iT).name).getD 0<i
  ·rw[dw g2] at this;cases this
  rw[dh g2] at this;by_cases g3:(iE s (l.getD i iT).name).isSome
  ·rw[dw g3] at this;cases this
  rw[dh g3] at this;by_cases g4:fB s l (l.getD i iT).cond≠0
  ·rw[dw g4] at this;exact absurd this g4
  exact⟨by simpa using g1,by omega,by simpa using g3,by simpa using g4⟩
 refine⟨by simpa using h1,by omega,fun c hm=>?_,fun i j hi hj e=>?_,fun c hm=>?_⟩
 ·obtain⟨i,hi,rfl⟩:=bM hm;obtain⟨q1,_,q3,q4⟩:=hcl i hi;rw[vY hi] at q1 q3 q4;simp only[jO,aJ] at q1;obtain⟨⟨⟨⟨_,q5⟩,q6⟩,_⟩,_⟩:=q1;refine⟨?_,q4,q6,q5,q3⟩;rw[iL,aJ,aJ] at q6;exact(QM _).1 q6.2
 ·obtain⟨_,q2,_,_⟩:=hcl i hi;have:=apt (l:=l) (x:=(l.getD i iT).name) (j:=j) (by omega) e;omega
 obtain⟨i,hi,rfl⟩:=bM hm;have:=hg i hi;unfold mg at this;rw[vY hi] at this;by_cases g:2000<expanded l l[i].cond\/iC l l[i].jZ=true
 ·rw[dw g] at this;cases this
 simp only[not_or] at g;omega
theorem Qj {s:List Attr} {x:BA} {i:Nat} (h:iE s x=some i):i<s.length/\(s.getD i wO).name=x:=by
 unfold iE at h;rw[aP] at h;obtain⟨hi,h1,_⟩:=h;exact⟨hi,by simpa[hi] using h1⟩
theorem lG {l:List dY} {x:BA} {d:Nat} (h:fG l x=some d):d<l.length/\(l.getD d iT).kind=1/\(l.getD d iT).name=x:=by
 unfold fG at h;rw[aP] at h;obtain⟨hi,h1,_⟩:=h;simp only[aJ,beq_iff_eq,aN] at h1;rw[vY hi];exact⟨hi,h1.1,h1.2⟩
theorem Chk.apart {s:List Attr} {l:List dY} (h:Chk s l) {x:BA} {d:Nat} (hd:fG l x=some d):iE s x=none:=by
 obtain⟨h1,_,h3⟩:=lG hd;rw[vY h1] at h3;rw[<-h3];exact(h.good _ (aI h1)).2.2.2.2
theorem Chk.cond {s:List Attr} {l:List dY} (h:Chk s l) {d:Nat} (hd:d<l.length):jA (l.getD d iT).cond/\fB s l (l.getD d iT).cond=0/\(l.getD d iT).cond.size<=300:=by
 rw[vY hd];obtain⟨q1,q2,q3,_,_⟩:=h.good _ (aI hd);refine⟨q1,q2,?_⟩;rw[iL,aJ,aJ] at q3;have:=q3.1.2;simp only[aN] at this;unfold gZ at this;omega
theorem kN {s:List Attr} (h:fD s=0):1<=s.length/\s.length<=6/\∀i (hi:i<s.length),jT s[i]=0/\nameB s[i].name=true:=by
 unfold fD at h;by_cases h1:s.length=0
 ·rw[dw h1] at h;cases h
 rw[dh h1] at h;by_cases h2:6<s.length
 ·rw[dw h2] at h;cases h
 rw[dh h2] at h;refine⟨by omega,by omega,fun i hi=>?_⟩;have:=nU s.length h i hi;unfold xG at this;have e1:s.getD i wO=s[i]:=by simp[hi]
 rw[e1] at this;by_cases g1:nameB s[i].name=false
 ·rw[dw g1] at this;cases this
 rw[dh g1] at this;by_cases g2:(s.take i).any (fun b=>decide (b.name=s[i].name))=true
 ·rw[dw g2] at this;cases this
 rw[dh g2] at this;exact⟨this,by simpa using g1⟩
theorem amc {a:Attr} (h:jT a=0):(DU a).1<=(DU a).2 /\ -1000000000<=(DU a).1/\(DU a).2<=1000000000/\(a.kind=1\/a.kind=2\/a.kind=3)/\(a.kind=1->1<=a.words.length/\a.words.length<=12):=by
 unfold jT at h;unfold DU;by_cases h1:a.kind=1
 ·rw[dw h1] at h ⊢;by_cases g1:a.lo≠0\/a.hi≠0
  ·rw[dw g1] at h;cases h
  rw[dh g1] at h;by_cases g2:a.words.length=0
  ·rw[dw g2] at h;cases h
  rw[dh g2] at h;by_cases g3:12<a.words.length
  ·rw[dw g3] at h;cases h
  exact⟨by simp only;omega,by simp only;omega,by simp only;omega,Or.inl h1,fun _=>⟨by omega,by omega⟩⟩
 rw[dh h1] at h ⊢;by_cases h2:a.kind=2
 ·rw[dw h2] at h ⊢;by_cases g1:0<a.words.length
  ·rw[dw g1] at h;cases h
  rw[dh g1] at h;by_cases g2:a.hi<a.lo\/azN a.lo=true\/azN a.hi=true
  ·rw[dw g2] at h;cases h
  simp only[not_or,azN,kL,Bool.not_eq_true',bZ,Decidable.not_not] at g2;exact⟨by simp only;omega,by simp only;omega,by simp only;omega,Or.inr (Or.inl h2),fun e=>absurd e h1⟩
 rw[dh h2] at h ⊢;by_cases h3:a.kind=3
 ·exact⟨by decide,by decide,by decide,Or.inr (Or.inr h3),fun e=>absurd e h1⟩
 rw[dh h3] at h;cases h
theorem aeV {x:BA} (h:nameB x=true):x.size<=16:=by
 simp only[nameB,nR,aJ,aN] at h;exact h.1.1.1.1.2
theorem awc {D:BA->Option Nat}:(l:List Ex)->(k:Nat)->(hk:k<l.length)->Bf D l[k]<=qB D l
 | [],k,hk=>by simp at hk
 | e::r,0,_=>by simp[qB]
 | e::r,k+1,hk=>by
  have:=awc (D:=D) r k (by simpa using hk);simp only[qB,List.getElem_cons_succ];omega
theorem Rn {D:BA->Option Nat} {e:Ex} (h:Bf D e<=2000) (k:Nat) (hk:k<e.args.length):Bf D e.args[k]<=2000:=by
 rw[Ub] at h;have:=awc (D:=D) e.args k hk;omega
theorem XW {D:BA->Option Nat} {e:Ex} (h:Bf D e<=2000) (h3:e.op=3) {n:Nat} (hn:D e.name=some n):n<=2000:=by
 rw[Ub,dw h3,hn] at h;simp only[Option.getD_some] at h;omega
theorem aoS {s:List Attr} {l:List dY}:(r:List Ex)->gW s l r=0->∀k (hk:k<r.length),fB s l r[k]=0
 | [],_,k,hk=>by simp at hk
 | e::r,h,k,hk=>by
  rw[gW] at h;by_cases h1:fB s l e≠0
  ·rw[dw h1] at h;exact absurd h h1
  rw[dh h1] at h;cases k with
  | zero=>simpa using h1
  | succ k=>simpa using aoS r h k (by simpa using hk)
theorem Bv {s:List Attr} {l:List dY} {e:Ex} (h:fB s l e=0):iR s l e.op e.name e.words e.lo e.hi=0/\∀k (hk:k<e.args.length),fB s l e.args[k]=0:=by
 rw[EI] at h;by_cases h1:iR s l e.op e.name e.words e.lo e.hi≠0
 ·rw[dw h1] at h;exact absurd h h1
 rw[dh h1] at h;exact⟨by simpa using h1,aoS _ h⟩
theorem agx {s:List Attr} {l:List dY} {e:Ex} (ht:jA e) (h:fB s l e=0):(e.op=1)\/(e.op=2) \/
  (e.op=3/\∃i,iE s e.name=some i/\(s.getD i wO).kind=3)\/(e.op=3/\iE s e.name=none/\∃d,fG l e.name=some d) \/
  (e.op=4/\∃i,iE s e.name=some i/\(s.getD i wO).kind=1)\/(e.op=5/\∃i,iE s e.name=some i/\(s.getD i wO).kind=2) \/
  (e.op=6/\e.args.length=1)\/e.op=7\/e.op=8:=by
 have h0:=(Bv h).1;rcases(kP ht).1 with ⟨h1,-⟩|⟨h1,-⟩|⟨h1,-⟩|⟨h1,-⟩|⟨h1,-⟩|⟨h1,-,-,-,-,h2⟩|⟨h1|h1,-⟩
 ·exact Or.inl h1
 ·exact Or.inr (Or.inl h1)
 ·unfold iR at h0;rw[dw h1] at h0;cases ha:iE s e.name with
  | some i =>
   rw[ha] at h0;simp only at h0;by_cases hk:(s.getD i wO).kind≠3
   ·rw[dw hk] at h0;cases h0
   exact Or.inr (Or.inr (Or.inl ⟨h1,i,rfl,by simpa using hk⟩))
  | none =>
   rw[ha] at h0;simp only at h0;cases hd:fG l e.name with
   | some d=>exact Or.inr (Or.inr (Or.inr (Or.inl ⟨h1,rfl,d,rfl⟩)))
   | none=>rw[hd] at h0;simp at h0
 ·unfold iR at h0;rw[dh (by omega),dw h1] at h0;cases ha:iE s e.name with
  | some i =>
   rw[ha] at h0;simp only at h0;by_cases hk:(s.getD i wO).kind≠1
   ·rw[dw hk] at h0;cases h0
   exact Or.inr (Or.inr (Or.inr (Or.inr (Or.inl ⟨h1,i,rfl,by simpa using hk⟩))))
  | none=>rw[ha] at h0;cases h0
 ·unfold iR at h0;rw[dh (by omega),dh (by omega),dw h1] at h0;cases ha:iE s e.name with
  | some i =>
   rw[ha] at h0;simp only at h0;by_cases hk:(s.getD i wO).kind≠2
   ·rw[dw hk] at h0;cases h0
   exact Or.inr (Or.inr (Or.inr (Or.inr (Or.inr (Or.inl ⟨h1,i,rfl,by simpa using hk⟩)))))
  | none=>rw[ha] at h0;cases h0
 ·exact Or.inr (Or.inr (Or.inr (Or.inr (Or.inr (Or.inr (Or.inl ⟨h1,h2⟩))))))
 ·exact Or.inr (Or.inr (Or.inr (Or.inr (Or.inr (Or.inr (Or.inr (Or.inl h1)))))))
 exact Or.inr (Or.inr (Or.inr (Or.inr (Or.inr (Or.inr (Or.inr (Or.inr h1)))))))
open Go.RowKit
theorem OX (s:List Attr) (v:Value) (x:BA) (w:World) (hs:fJ w s v) (hl:s.length<=1000000000000000) :
  Calls Tryz.prog 104 #[v,.string x] w (dN (yw (iE s x)) w):=by
 obtain⟨a,n,c,rfl,hn,hnc,hoa,hat⟩:=hs.parts;have HS:=ak hs;have HN:=ak hn;have hn2:n<=1000000000000000:=by omega
 clear hs hn hat hnc hoa;go_enter Tryz.func104,Tryz.ntmps104
 go_wp2_with fail
 go_loopw [11] (fun t wr=>∃k:Nat,t=.int .i64 k/\k<=n/\(∀j (h:j<s.length),j<k->decide (s[j].name=x)=false)/\Ext w wr) (fun t _=>n - (intOf t).toNat)
 case atStart=>exact⟨0,rfl,by omega,fun j _ h=>by omega,(Ext.refl w).alloc _⟩
 case round =>
  obtain⟨k,rfl,hk,hno,hx⟩:=hrel;have lZ:=ak hno;have HX:=ak hx;clear hno hx;by_cases hkn:k<n
  ·have hks:k<s.length:=by have:=HN.o;omega
   obtain⟨a',n',c',e',hx1,hx2,hx3,hat⟩:=(HS.o.ext HX.o).parts;simp only[Value.agg.injEq,Array.mk.injEq,List.cons.injEq,Value.slice.injEq,and_true] at e';obtain⟨rfl,rfl,rfl⟩:=e';clear hx1 hx2 hx3;obtain⟨b,off,rfl,aw,nw,cw,h0,h1,h2,h3,h4,h5⟩:=hat k hks;have t1:=ah ((k:Int)<(n:Int));cases he:(s[k].name.toList==x.toList)
   ·have HE:=ak (uF he);clear hat h5;go_wp2_with fail
    go_roundw
    case rel =>
     refine⟨k+1,by go_num,by omega,fun j hj hjk=>?_,HX.o.alloc _⟩;by_cases e:j=k
     ·subst e;exact HE.o
     exact lZ.o j hj (by omega)
    case measure=>simp[intOf];omega
   have HF:=ak (show iE s x=some k from Rj hks (uF he) lZ.o);clear hat h5;go_wp2_with fail
   go_ret2
   exact⟨by rw[yw,HF.o];rfl,HX.o.alloc _⟩
  have t1:=aj ((k:Int)<(n:Int));have HF:=ak (show iE s x=none from Ls fun j hj=>lZ.o j hj (by have:=HN.o;omega));go_wp2_with fail
  go_ret2
  exact⟨by rw[yw,HF.o];rfl,HX.o⟩
theorem auf (l:List dY) (a:OA) (n c:Nat) (x:BA) (w:World) (hs:eX w l a n c) (hl:n<=1000000000000000) :
  Calls Tryz.prog 107 #[.slice a n c,.string x] w (dN (yw (findAt l x)) w):=by
 have HS:=ak hs;have HN:=ak hs.len;clear hs;go_enter Tryz.func107,Tryz.ntmps107
 go_wp2_with fail
 go_loopw [10] (fun t wr=>∃k:Nat,t=.int .i64 k/\k<=n/\(∀j (h:j<l.length),j<k->decide (l[j].name=x)=false)/\Ext w wr) (fun t _=>n - (intOf t).toNat)
 case atStart=>exact⟨0,rfl,by omega,fun j _ h=>by omega,Ext.refl _⟩
 case round =>
  obtain⟨k,rfl,hk,hno,hx⟩:=hrel;have lZ:=ak hno;have HX:=ak hx;clear hno hx;by_cases hkn:k<n
  ·have hks:k<l.length:=by have:=HN.o;omega
   obtain⟨b,off,v,rfl,jr,hrow⟩:=(HS.o.ext HX.o).at hks;obtain⟨c0,c1,c2,c3,c4,c5,c6,c7,c8,c9⟩:=hrow.ten;have hq2:=jr.2.1;rw[hq2] at c1;have t1:=ah ((k:Int)<(n:Int));cases he:(l[k].name.toList==x.toList)
   ·have HE:=ak (uF he);clear jr hrow hq2;go_wp2_with fail
    go_roundw
    case rel =>
     refine⟨k+1,by go_num,by omega,fun j hj hjk=>?_,HX.o.alloc _⟩;by_cases e:j=k
     ·subst e;exact HE.o
     exact lZ.o j hj (by omega)
    case measure=>simp[intOf];omega
   have HF:=ak (show findAt l x=some k from Rj hks (uF he) lZ.o);clear jr hrow hq2;go_wp2_with fail
   go_ret2
   exact⟨by rw[yw,HF.o];rfl,HX.o.alloc _⟩
  have t1:=aj ((k:Int)<(n:Int));have HF:=ak (show findAt l x=none from Ls fun j hj=>lZ.o j hj (by have:=HN.o;omega));go_wp2_with fail
  go_ret2
  exact⟨by rw[yw,HF.o];rfl,HX.o⟩
def En (l:ZB):Int:=if l.length=0 then 19 else if 12<l.length then 4 else if l.all nameB=false then 6 else if decide l.Nodup=false then 8 else 0
theorem asI (a:Attr) (h:a.kind=1):jT a=if a.lo≠0\/a.hi≠0 then 20 else En a.words:=by
 unfold jT En;rw[dw h]
theorem ay6 {l:ZB} {k:Nat} (hk:k<l.length) (h:(l.take k).Nodup) (h2:l[k]∉l.take k):(l.take (k+1)).Nodup:=by
 rw[aU hk,List.nodup_append];exact⟨h,by simp,fun a ha b hb=>by simp at hb;subst hb;intro e;subst e;exact h2 ha⟩
theorem aC' {l:ZB} {k:Nat} (hk:k<l.length) (h:l[k]∈l.take k):¬l.Nodup:=by
 intro h4;have:(l.take (k+1)).Nodup:=h4.sublist (List.take_sublist _ _);rw[aU hk,List.nodup_append] at this;exact absurd rfl (this.2.2 _ h _ (by simp))
theorem aqI (l:ZB) (a:OA) (n c:Nat) (w:World) (hl:ji w l a n c) (hn2:n<=1000000000000000) (hsz:∀x∈l,x.size<=1000000000000000) :
  Calls Tryz.prog 135 #[.slice a n c] w (Gives (.int .i64 (En l)) w):=by
 have HL:=ak hl;have HZ:=ak hsz;have HN:=ak hl.1;have hnc:=hl.2.1;clear hl hsz;by_cases h0:n=0
 ·have H:=ak (show En l=19 by unfold En;rw[dw (by have:=HN.o;omega)]);have hz:((n:Int)==0)=true:=by simp[h0]
  clear h0;go_enter Tryz.func135,Tryz.ntmps135
  go_wp2_with fail
  go_ret;exact yA (by rw[H.o])
 have hz:((n:Int)==0)=false:=by simp[h0]
 by_cases h12:12<n
 ·have H:=ak (show En l=4 by unfold En;rw[dh (by have:=HN.o;omega),dw (by have:=HN.o;omega)]);have t12:=ah ((12:Int)<(n:Int));go_enter Tryz.func135,Tryz.ntmps135
  go_wp2_with fail
  go_ret;exact yA (by rw[H.o])
 have t12:=aj ((12:Int)<(n:Int));have HE:=ak (show En l=if l.all nameB=false then 6 else if decide l.Nodup=false then 8 else 0 by unfold En;rw[dh (by have:=HN.o;omega),dh (by have:=HN.o;omega)]);obtain⟨E,hE⟩:∃E,E=En l:=⟨_,rfl⟩
 rw[<-hE] at HE ⊢;clear hE;go_enter Tryz.func135,Tryz.ntmps135
 go_wp2_with fail
 go_loop [15] (fun t=>∃k:Nat,t=.int .i64 k/\k<=n/\∀j (h:j<l.length),j<k->nameB l[j]=true) (fun t=>n - (intOf t).toNat)
 case atStart=>exact⟨0,rfl,by omega,fun j _ h=>by omega⟩
 case round =>
  obtain⟨k,rfl,hk,hall⟩:=hrel;have HA:=ak hall;clear hall;by_cases hlt:k<n
  ·have hlt':k<l.length:=by have:=HN.o;omega
   have t1:=ah ((k:Int)<(n:Int));have hsk:=HZ.o _ (aI hlt');obtain⟨b,off,rfl,hcell⟩:=HL.o.2.2.2 k hlt';cases h3:nameB l[k]
   ·have H:=ak (show E=6 by
     rw[HE.o,dw];rw[List.all_eq_false];exact⟨l[k],aI hlt',by rw[h3];simp⟩)
    have H3:=ak h3;clear h3;go_wp2_with fail
    refine(wQ _ _ hsk).mono ?_;rintro e w' ⟨rfl,rfl⟩;rw[H3.o];go_wp2_with fail
    go_ret;exact yA (by rw[H.o])
   have H3:=ak h3;clear h3;go_wp2_with fail
   refine(wQ _ _ hsk).mono ?_;rintro e w' ⟨rfl,rfl⟩;rw[H3.o];go_wp2_with fail
   go_round
   case rel =>
    refine⟨k+1,by go_num,by omega,fun j hj hjk=>?_⟩;by_cases e:j=k
    ·subst e;exact H3.o
    exact HA.o j hj (by omega)
   case measure=>simp[intOf];omega
  have t1:=aj ((k:Int)<(n:Int));have HE2:=ak (show E=if decide l.Nodup=false then 8 else 0 by
   rw[HE.o,dh];rw[Bool.not_eq_false,aV];intro x hx;obtain⟨j,hj,rfl⟩:=bD.1 hx;exact HA.o j hj (by have:=HN.o;omega))
  clear HE HA;go_wp2_with fail
  go_loop [25] (fun t=>∃k:Nat,t=.int .i64 k/\k<=n/\(l.take k).Nodup) (fun t=>n - (intOf t).toNat)
  case atStart=>exact⟨0,rfl,by omega,by simp⟩
  case round =>
   obtain⟨m,rfl,hm,hno⟩:=hrel;have lZ:=ak hno;clear hno;by_cases hmt:m<n
   ·have hmt':m<l.length:=by have:=HN.o;omega
    have t2:=ah ((m:Int)<(n:Int));have HT:=ak (HL.o.take hm);obtain⟨b,off,rfl,hcell⟩:=HL.o.2.2.2 m hmt';by_cases h4:l[m]∈l.take m
    ·have H:=ak (show E=8 by rw[HE2.o,dw (by simpa using aC' hmt' h4)]);have H4:=ak h4;clear h4;go_wp2_with fail
     refine(uG _ _ _ _ _ _ (by omega) HT.o).mono ?_;rintro e w' ⟨rfl,rfl⟩;rw[dB H4.o];go_wp2_with fail
     go_ret;exact yA (by rw[H.o])
    have H4:=ak h4;clear h4;go_wp2_with fail
    refine(uG _ _ _ _ _ _ (by omega) HT.o).mono ?_;rintro e w' ⟨rfl,rfl⟩;rw[dD H4.o];go_wp2_with fail
    go_round
    case rel=>exact⟨m+1,by go_num,by omega,ay6 hmt' lZ.o H4.o⟩
    case measure=>simp[intOf];omega
   have t2:=aj ((m:Int)<(n:Int));have H:=ak (show E=0 by
    have h5:=lZ.o;rw[aY (by have:=HN.o;omega)] at h5;rw[HE2.o,dh (by simpa using h5)])
   go_wp2_with fail
   go_ret;exact yA (by rw[H.o])
theorem ahD (n:Int):kL n=false ↔ n < -1000000000\/1000000000<n:=by simp[kL];omega
theorem aue (x:Attr) (aw:OA) (nw cw:Nat) (w:World) (hw:ji w x.words aw nw cw) (hf:x.fits) :
  Calls Tryz.prog 105 #[.agg #[.string x.name,.int .i64 x.kind,.slice aw nw cw,.int .i64 x.lo,.int .i64 x.hi]] w (dN (.int .i64 (jT x)) w):=by
 have HW:=ak hw;have HF:=ak hf;have hnw:=hw.1;have hnl:nw<=1000000000000000:=by rw[hnw];exact hf.2.1
 have HNW:=ak hnw;clear hw hf hnw;obtain⟨name,kind,words,lo,hi⟩:=x;simp only at *;obtain⟨E,hE⟩:∃E,E=jT ⟨name,kind,words,lo,hi⟩:=⟨_,rfl⟩
 rw[<-hE];by_cases h1:kind=1
 ·subst h1;rw[asI _ rfl] at hE;simp only at hE;have HE:=ak hE;clear hE;have HWC:=ak (aqI words aw nw cw (w.alloc (.cells #[.string name,.int .i64 1,.slice aw nw cw,.int .i64 lo,.int .i64 hi] 101)) (HW.o.ext ((Ext.refl w).alloc _)) hnl HF.o.2.2);by_cases hlo:lo=0
  ·have t1:(lo != 0)=false:=by simp[hlo]
   by_cases hhi:hi=0
   ·have t2:(hi != 0)=false:=by simp[hhi]
    have HQ:=ak (show E=En words by rw[HE.o,dh (by simp[hlo,hhi])]);clear HE hlo hhi;go_enter Tryz.func105,Tryz.ntmps105
    go_wp2_with fail
    refine HWC.o.mono ?_;rintro e w' ⟨rfl,rfl⟩;go_wp2_with fail
    go_ret;exact dP (by rw[HQ.o]) ((Ext.refl w).alloc _)
   have t2:(hi != 0)=true:=by simp[hhi]
   have HQ:=ak (show E=20 by rw[HE.o,dw (Or.inr hhi)]);clear HE hlo hhi;go_enter Tryz.func105,Tryz.ntmps105
   go_wp2_with fail
   go_ret;exact dP (by rw[HQ.o]) ((Ext.refl w).alloc _)
  have t1:(lo != 0)=true:=by simp[hlo]
  have HQ:=ak (show E=20 by rw[HE.o,dw (Or.inl hlo)]);clear HE hlo;go_enter Tryz.func105,Tryz.ntmps105
  go_wp2_with fail
  go_ret;exact dP (by rw[HQ.o]) ((Ext.refl w).alloc _)
 have e1:(kind==1)=false:=by simp[h1]
 by_cases h2:kind=2
 ·subst h2;have HE:=ak (show E=if 0<nw then 20 else if hi<lo\/(lo < -1000000000\/1000000000<lo)\/(hi < -1000000000\/1000000000<hi) then 1 else 0 by
   rw[hE];have k1:=ahD lo;have k2:=ahD hi;simp only[jT,azN,Bool.not_eq_true',k1,k2];rw[dh (by omega),dw trivial,<-HNW.o])
  clear hE;go_enter Tryz.func105,Tryz.ntmps105
  go_wp2_with fail
  all_goals (go_ret;exact dP (by rw[HE.o];simp_all<;>omega) ((Ext.refl w).alloc _))
 have e2:(kind==2)=false:=by simp[h2]
 by_cases h3:kind=3
 ·subst h3;have HE:=ak (show E=if 0<nw\/lo≠0\/hi≠0 then 20 else 0 by
   rw[hE];simp only[jT];rw[dh (by omega),dh (by omega),dw trivial,<-HNW.o])
  clear hE;go_enter Tryz.func105,Tryz.ntmps105
  go_wp2_with fail
  all_goals (go_ret;exact dP (by rw[HE.o];simp_all<;>omega) ((Ext.refl w).alloc _))
 have e3:(kind==3)=false:=by simp[h3]
 have HE:=ak (show E=11 by
  rw[hE];simp only[jT];rw[dh h1,dh h2,dh h3])
 clear hE;go_enter Tryz.func105,Tryz.ntmps105
 go_wp2_with fail
 go_ret;exact dP (by rw[HE.o]) ((Ext.refl w).alloc _)
theorem aIQ {s:List Attr} {k:Nat} (hk:k<s.length):∃f,iE s s[k].name=some f/\f<=k/\((s.take k).any (fun b=>decide (b.name=s[k].name))=decide (f<k)):=by
 cases h:iE s s[k].name with
 | none =>
  unfold iE at h;rw[bJ] at h;have:=h s[k] (aI hk);simp at this
 | some f =>
  unfold iE at h;rw[aP] at h;obtain⟨hf,h1,h2⟩:=h;have hfk:f<=k:=by
   rcases cO k f with h3|h3
   ·have:=h2 k h3;simp at this
   exact h3
  refine⟨f,rfl,hfk,?_⟩;by_cases h3:f<k
  ·rw[dB h3,List.any_eq_true];exact⟨s[f],bD.2 ⟨f,by simp;omega,by simp⟩,h1⟩
  rw[dD h3,List.any_eq_false];intro y hy;obtain⟨j,hj,rfl⟩:=bD.1 hy;have hjk:j<k:=by simp at hj;omega
  have:=h2 j (by omega);simpa using this
theorem Ho (s:List Attr) (v:Value) (w:World) (hs:fJ w s v) (hf:∀x∈s,x.fits) (hl:s.length<=1000000000000000) :
  Calls Tryz.prog 77 #[v] w (dN (.int .i64 (fD s)) w):=by
 obtain⟨a,n,c,rfl,hn,hnc,hoa,hat⟩:=hs.parts;have HS:=ak hs;have HN:=ak hn;have HF:=ak hf;have hn2:n<=1000000000000000:=by omega
 clear hs hn hat hnc hoa hf;by_cases h0:n=0
 ·have t0:((n:Int)==0)=true:=by simp[h0]
  have HE:=ak (show fD s=19 by unfold fD;rw[<-HN.o,dw h0]);clear h0;go_enter Tryz.func77,Tryz.ntmps77
  go_wp2_with fail
  go_ret;exact dP (by rw[HE.o]) ((Ext.refl w).alloc _)
 have t0:((n:Int)==0)=false:=by simp[h0]
 by_cases h6:6<n
 ·have t6:=ah ((6:Int)<(n:Int));have HE:=ak (show fD s=4 by unfold fD;rw[<-HN.o,dh h0,dw h6]);go_enter Tryz.func77,Tryz.ntmps77
  go_wp2_with fail
  go_ret;exact dP (by rw[HE.o]) ((Ext.refl w).alloc _)
 have t6:=aj ((6:Int)<(n:Int));have HE:=ak (show fD s=(oC (xG s) n).2 by unfold fD;rw[<-HN.o,dh h0,dh h6]);go_enter Tryz.func77,Tryz.ntmps77
 go_wp2_with fail
 go_loopw [19] (aWa s n a c w) (fun t _=>n - (intOf t).toNat)
 case atStart=>exact⟨0,rfl,by omega,fun j h=>by omega,dG w _,(Ext.refl w).alloc _⟩
 case round =>
  obtain⟨k,rfl,hk,hno,hbx,hx⟩:=hrel;obtain⟨wo,rfl⟩:∃wo:World,wo=wr:=⟨_,rfl⟩
  have lZ:=ak hno;have lV:=ak hbx;have HX:=ak hx;obtain⟨bb0,bbf⟩:=gQ hbx;have hlt0:=dH hbx;clear hno hbx hx;by_cases hkn:k<n
  ·have hks:k<s.length:=by have:=HN.o;omega
   obtain⟨a',n',c',e',hx1,hx2,hx3,hat⟩:=(HS.o.ext HX.o).parts;simp only[Value.agg.injEq,Array.mk.injEq,List.cons.injEq,Value.slice.injEq,and_true] at e';obtain⟨rfl,rfl,rfl⟩:=e';clear hx1 hx2 hx3;obtain⟨b,off,rfl,aw,nw,cw,h0,h1,h2,h3,h4,h5⟩:=hat k hks;have H5:=ak h5;have t1:=ah ((k:Int)<(n:Int));have hfk:=HF.o _ (aI hks);have hfn:=hfk.1;have HFK:=ak hfk;obtain⟨f,hfa,a7p,aOg⟩:=aIQ hks;have HAI:=ak (show xG s k=if nameB s[k].name=false then 6 else if decide (f<k)=true then 8 else jT s[k] by unfold xG;rw[Dy hks,aOg]);have Gh:=ak hfa;clear hat h5 hfk hfa aOg;obtain⟨wa,dW⟩:∃wa,wa=wo.alloc (.cells #[.string s[k].name,.int .i64 s[k].kind,.slice aw nw cw,.int .i64 s[k].lo,.int .i64 s[k].hi] 101):=⟨_,rfl⟩
   have hxa:Ext wo wa:=by rw[dW];exact(Ext.refl _).alloc _
   have hba:wa.heap[wo.heap.size]?=some (.cells #[.string s[k].name,.int .i64 s[k].kind,.slice aw nw cw,.int .i64 s[k].lo,.int .i64 s[k].hi] 101 (0,0)):=by rw[dW];exact dG wo _
   have fE:=ak hxa;have sS:=ak hba;have HB2:=ak (hxa.blk lV.o);clear hxa hba;cases hnb:nameB s[k].name
   ·have GL:=ak hnb;have HR:=ak (show fD s=6 by
     rw[HE.o,wU (k:=k) (by rw[HAI.o,dw hnb];omega) lZ.o n hkn]
     show xG s k=6
     rw[HAI.o,dw hnb])
    clear hnb HE;go_wp2_with fail
    rw[<-dW];clear dW;refine(wQ _ _ hfn).mono ?_;rintro e w' ⟨rfl,rfl⟩;rw[GL.o];go_wp2_with fail
    go_ret;exact dP (by rw[HR.o]) (HX.o.trans fE.o)
   have GL:=ak hnb;rw[hnb] at HAI;simp only[Bool.true_eq_false,if_false] at HAI;clear hnb;go_wp2_with fail
   rw[<-dW];clear dW h0 h1 h2 h3 h4 bb0 bbf;refine(wQ _ _ hfn).mono ?_;rintro e w' ⟨rfl,rfl⟩;rw[GL.o];obtain⟨d0,df⟩:=gQ HB2.o;obtain⟨a0,a1,a2,a3,a4,af⟩:=awN sS.o;have azA:=dH sS.o;go_wp2_with fail
   refine(OX s _ s[k].name _ (HS.o.ext (HX.o.trans fE.o)) hl).mono ?_;rintro e w5 ⟨rfl,hx5⟩;rw[Gh.o,show yw (some f)=.tuple #[.int .i64 f,.bool true] from rfl];have jY:=ak ((HX.o.trans fE.o).trans hx5);have Cj:=ak (hx5.blk HB2.o);have aYG:=ak (hx5.blk sS.o);have H55:=ak (H5.o.ext (fE.o.trans hx5));clear hx5 d0 df a0 a1 a2 a3 a4 af azA;obtain⟨a0,a1,a2,a3,a4,af⟩:=awN aYG.o;have azA:=dH aYG.o;by_cases hfk:f<k
   ·have t2:=ah ((f:Int)<(k:Int));have HR:=ak (show fD s=8 by
     have h8:xG s k=8:=by rw[HAI.o,dw (by simpa using hfk)]
     rw[HE.o,wU (k:=k) (by rw[h8];omega) lZ.o n hkn];exact h8)
    clear HE;go_wp2_with fail
    go_ret;exact dP (by rw[HR.o]) jY.o
   have t2:=aj ((f:Int)<(k:Int));have HAK:=ak (show xG s k=jT s[k] by rw[HAI.o,dh (by simpa using hfk)]);go_wp2_with fail
   refine(aue s[k] aw nw cw _ H55.o HFK.o).mono ?_;rintro e w' ⟨rfl,hx7⟩;have xH:=ak (jY.o.trans hx7);have NK:=ak (hx7.blk Cj.o);clear hx7 a0 a1 a2 a3 a4 af azA;by_cases hz:jT s[k]=0
   ·have tz:(jT s[k] != 0)=false:=by simp[hz]
    have HZ:=ak hz;clear hz;go_wp2_with fail
    go_roundw
    case rel =>
     refine⟨k+1,by go_num,by omega,fun j hj=>?_,NK.o,xH.o⟩;by_cases e:j=k
     ·subst e;rw[HAK.o];exact HZ.o
     exact lZ.o j (by omega)
    case measure=>simp[intOf];omega
   have tz:(jT s[k] != 0)=true:=by simp[hz]
   have HR:=ak (show fD s=jT s[k] by
    rw[HE.o,wU (k:=k) (by rw[HAK.o];exact hz) lZ.o n hkn];exact HAK.o)
   clear hz;go_wp2_with fail
   go_ret;exact dP (by rw[HR.o]) xH.o
  have t1:=aj ((k:Int)<(n:Int));have HR:=ak (show fD s=0 by rw[HE.o,nC n fun j hj=>lZ.o j (by omega)]);go_wp2_with fail
  go_ret;exact dP (by rw[HR.o]) HX.o
end Go.Proofs.YtefjomofjejklaaGreatDoor
