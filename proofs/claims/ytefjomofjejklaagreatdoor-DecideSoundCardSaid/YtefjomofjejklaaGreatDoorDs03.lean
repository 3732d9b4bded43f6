/- Joined. -/
import Derived.Test.YtefjomofjejklaaGreatDoorDs02
import Derived.Orders
import Derived.BigFrame
namespace Go.Proofs.YtefjomofjejklaaGreatDoor
set_option maxRecDepth 100000
set_option maxHeartbeats 32000000
structure uW where
 is:Bool
 name:BA
 uses:ZB
def gA (l:List uW) (s:BA):Option Nat:=l.findIdx? fun d=>d.is&&decide (d.name=s)
def iD (l:List uW) (i:Nat):Bool:=match l[i]? with|some d=>d.is|none=>false
def jy (l:List uW) (i:Nat):ZB:=match l[i]? with|some d=>d.uses|none=>[]
def nameAt (l:List uW) (i:Nat):BA:=match l[i]? with|some d=>d.name|none=>⟨#[]⟩
def mY (l:List uW) (o:ZN) (i:Nat):ZB:=(jy l i).filter fun s=>match gA l s with|some d=>decide (d∉o)|none=>false
def Uy (l:List uW) (s:BA):ZN:=(List.range l.length).filter fun i=>iD l i&&(jy l i).any fun t=>decide (t=s)
def lY (l:List uW):Nat:=((List.range l.length).filter (iD l)).length
def After (l:List uW) (o:ZN):Prop:=∀p i,o[p]?=some i->∀s∈jy l i,∀d,gA l s=some d->d∈o.take p
structure Yi (l:List uW) (o:ZN):Prop where
 nodup:o.Nodup
 all:∀i,i∈o ↔ iD l i=true
 after:After l o
structure Lo (l:List uW) (o R:ZN):Prop where
 nodup:(o++R).Nodup
 ready:∀i,i∈o++R ↔ (iD l i=true/\mY l o i=[])
 after:After l o
theorem yh {l:List uW} {o:ZN} {i:Nat} {s:BA}:s∈mY l o i ↔ s∈jy l i/\∃d,gA l s=some d/\d∉o:=by
 unfold mY;rw[List.mem_filter];refine and_congr_right fun _=>?_
 cases h:gA l s<;>simp
theorem yg {l:List uW} {o:ZN} {i:Nat}:mY l o i=[] ↔ ∀s∈jy l i,∀d,gA l s=some d->d∈o:=by
 rw[List.eq_nil_iff_forall_not_mem];constructor
 ·intro h s hs d hd;by_cases hm:d∈o
  ·exact hm
  exact a40 (yh.2 ⟨hs,d,hd,hm⟩) (h s)
 intro h s hs;obtain⟨h1,d,h2,h3⟩:=yh.1 hs;exact h3 (h s h1 d h2)
theorem mz {l:List uW} {i:Nat} (h:iD l i=true):i<l.length:=by
 unfold iD at h;rcases bJ i l.length with h'|h'
 ·exact h'
 rw[List.getElem?_eq_none h'] at h;cases h
theorem abQ {l:List uW} {s:BA} {d:Nat} (h:gA l s=some d):iD l d=true/\nameAt l d=s:=by
 unfold gA at h;rw[aJ] at h;obtain⟨hd,h1,_⟩:=h;simp only[aF,aH] at h1;unfold iD nameAt;rw[aT hd];exact h1
theorem Lo.start (l:List uW):Lo l [] ((List.range l.length).filter fun i=>iD l i&&(mY l [] i).isEmpty) where
 nodup:=List.nodup_range.filter _
 ready i:=by
  simp only[List.nil_append,List.mem_filter,a43,aF,List.isEmpty_iff];exact⟨fun h=>h.2,fun h=>⟨mz h.1,h⟩⟩
 after p i h:=by simp at h
theorem After.snoc {l:List uW} {o:ZN} {i:Nat} (h:After l o) (hm:mY l o i=[]):After l (o++[i]):=by
 intro p j hj s hs d hd;rcases Nat.lt_trichotomy p o.length with hp|hp|hp
 ·rw[List.getElem?_append_left hp] at hj;rw[List.take_append_of_le_length (by omega)];exact h p j hj s hs d hd
 ·subst hp;simp at hj;subst hj;rw[List.take_left']
  ·exact yg.1 hm s hs d hd
  rfl
 rw[List.getElem?_eq_none (by simp;omega)] at hj;cases hj
theorem Lo.other {l:List uW} {o R R':ZN} {i:Nat} (h:Lo l o R) (hR:R.Perm (i::R')) (hn:∀s,gA l s≠some i):Lo l (o++[i]) R' where
 nodup:=by
  have h1:=(List.Perm.append_left o hR).nodup_iff.1 h.nodup;simpa using h1
 ready j:=by
  have hm:mY l (o++[i]) j=[] ↔ mY l o j=[]:=by
   rw[yg,yg];constructor
   ·intro h1 s hs d hd;have:=h1 s hs d hd;simp only[aN,aG] at this;rcases this with h2|rfl
    ·exact h2
    exact a40 hd (hn s)
   intro h1 s hs d hd;simp[h1 s hs d hd]
  rw[hm,<-h.ready j];have:=(List.Perm.append_left o hR).mem_iff (a:=j);rw[this];simp
 after:=by
  have hi:i∈o++R:=by
   rw[(List.Perm.append_left o hR).mem_iff];simp
  exact h.after.snoc ((h.ready i).1 hi).2
def akY (l:List uW) (o:ZN) (i:Nat):ZN:=(Uy l (nameAt l i)).filter fun u=>(mY l (o++[i]) u).isEmpty
theorem Lo.first {l:List uW} {o R R':ZN} {i:Nat} (h:Lo l o R) (hR:R.Perm (i::R')) (hf:gA l (nameAt l i)=some i):Lo l (o++[i]) (R'++akY l o i):=by
 have hi:i∈o++R:=by
  rw[(List.Perm.append_left o hR).mem_iff];simp
 have hnd:=(List.Perm.append_left o hR).nodup_iff.1 h.nodup;have hio:i∉o:=fun hio=>by
  have:=List.nodup_append.1 hnd;exact this.2.2 i hio i (by simp) rfl
 have hfm:∀u,u∈akY l o i ↔ (iD l u=true/\nameAt l i∈jy l u/\mY l (o++[i]) u=[]):=by
  intro u;unfold akY Uy;simp only[List.mem_filter,a43,aF,List.any_eq_true,aH,List.isEmpty_iff,exists_eq_right];exact⟨fun ⟨⟨_,h1,h2⟩,h3⟩=>⟨h1,h2,h3⟩,fun ⟨h1,h2,h3⟩=>⟨⟨mz h1,h1,h2⟩,h3⟩⟩
 have hnot:∀u∈akY l o i,u∉o++R:=by
  intro u hu hm;have h1:=(hfm u).1 hu;have h2:=yg.1 ((h.ready u).1 hm).2 _ h1.2.1 _ hf;exact hio h2
 refine⟨?_,?_,h.after.snoc ((h.ready i).1 hi).2⟩
 ·have h1:(o++[i]++R').Nodup:=by simpa using hnd
  rw[<-List.append_assoc];refine List.nodup_append.2 ⟨h1,?_,?_⟩
  ·unfold akY Uy;exact(List.nodup_range.filter _).filter _
  rintro a ha b hb rfl;refine hnot a hb ?_;rw[(List.Perm.append_left o hR).mem_iff];simpa using ha
 intro j;have hmem:j∈o++R ↔ j∈o++[i]++R':=by
  rw[(List.Perm.append_left o hR).mem_iff];simp
 rw[<-List.append_assoc,aN,<-hmem,hfm,h.ready j];constructor
 ·rintro(⟨h1,h2⟩|⟨h1,_,h3⟩)
  ·exact⟨h1,yg.2 fun s hs d hd=>by simp[yg.1 h2 s hs d hd]⟩
  exact⟨h1,h3⟩
 rintro⟨h1,h2⟩;by_cases hu:nameAt l i∈jy l j
 ·exact a4Z ⟨h1,hu,h2⟩
 refine aoX ⟨h1,yg.2 fun s hs d hd=>?_⟩;have h3:=yg.1 h2 s hs d hd;simp only[aN,aG] at h3;rcases h3 with h3|rfl
 ·exact h3
 exact a40 hs ((abQ hd).2 ▸ hu)
theorem vS:(a b:ZN)->a.Nodup->(∀x∈a,x∈b)->a.length<=b.length
 | [],b,_,_=>by simp
 | x::a,b,h,hs=>by
  rw[List.nodup_cons] at h;have hx:x∈b:=hs x (by simp);have h1:=vS a (b.erase x) h.2 fun y hy=>by
   have hne:y≠x:=fun e=>h.1 (e ▸ hy)
   exact(List.mem_erase_of_ne hne).2 (hs y (by simp[hy]))
  rw[List.length_erase_of_mem hx] at h1;have:=List.length_pos_of_mem hx;simp only[List.length_cons];omega
theorem auz {a b:ZN} (h:a.Nodup) (hs:∀x∈a,x∈b) (hl:b.length<=a.length):∀x∈b,x∈a:=by
 intro x hx;by_cases hm:x∈a
 ·exact hm
 have h1:=vS (x::a) b (List.nodup_cons.2 ⟨hm,h⟩) (by simpa using ⟨hx,hs⟩);simp only[List.length_cons] at h1;omega
theorem Dv {l:List uW} {i:Nat}:i∈(List.range l.length).filter (iD l) ↔ iD l i=true:=by
 simp only[List.mem_filter,a43];exact⟨fun h=>h.2,fun h=>⟨mz h,h⟩⟩
theorem Lo.le {l:List uW} {o R:ZN} (h:Lo l o R):(o++R).length<=lY l :=
 vS _ _ h.nodup fun i hi=>Dv.2 ((h.ready i).1 hi).1
theorem Lo.done {l:List uW} {o:ZN} (h:Lo l o []) (hc:lY l<=o.length):Yi l o where
 nodup:=by simpa using h.nodup
 all i:=by
  have h1:o.Nodup:=by simpa using h.nodup
  have h2:∀x∈o,x∈(List.range l.length).filter (iD l):=fun x hx=>Dv.2 ((h.ready x).1 (by simpa using hx)).1
  have h3:=auz h1 h2 hc;exact⟨fun hi=>Dv.1 (h2 i hi),fun hi=>h3 i (Dv.2 hi)⟩
 after:=h.after
theorem Lo.none {l:List uW} {o:ZN} (h:Lo l o []) (hc:o.length<lY l):¬∃q,Yi l q:=by
 rintro⟨q,hq⟩;have key:∀(p i:Nat),q[p]?=some i->i∈o:=by
  intro p;induction p using Nat.strongRecOn with
  | ind p ih =>
   intro i hi;have h1:iD l i=true:=(hq.all i).1 (List.mem_of_getElem? hi);have h2:mY l o i=[]:=yg.2 fun s hs d hd=>by
    obtain⟨k,hk⟩:=List.mem_iff_getElem?.1 (hq.after p i hi s hs d hd);have hkp:k<p:=by
     rcases bJ k p with h'|h'
     ·exact h'
     rw[List.getElem?_eq_none (by simp;omega)] at hk;cases hk
    rw[List.getElem?_take,bM hkp] at hk;exact ih k hkp d hk
   have:=(h.ready i).2 ⟨h1,h2⟩;simpa using this
 have h3:=vS _ o (List.nodup_range.filter (iD l)) fun i hi=>by
  have:=(hq.all i).2 (Dv.1 hi);obtain⟨p,hp⟩:=List.mem_iff_getElem?.1 this;exact key p i hp
 unfold lY at hc;exact a40 h3 (by omega)
def kZ (f:Nat->Int):Nat->Nat×Int
 | 0=>(0,0)
 | n+1=>if (kZ f n).2≠0 then kZ f n else if f n≠0 then (n,f n) else (0,0)
theorem kz {f:Nat->Int}:(n:Nat)->(∀j,j<n->f j=0)->kZ f n=(0,0)
 | 0,_=>rfl
 | n+1,h=>by rw[kZ,kz n fun j hj=>h j (by omega),h n (by omega)];simp
theorem rQ {f:Nat->Int} {k:Nat} (hk:f k≠0) (h0:∀j,j<k->f j=0):(n:Nat)->k<n->kZ f n=(k,f k)
 | 0,h=>by omega
 | n+1,h=>by
  by_cases e:k=n
  ·subst e;rw[kZ,kz k h0];simp[hk]
  rw[kZ,rQ hk h0 n (by omega)];simp[hk]
def eO (s:List Attr) (x:BA):Option Nat:=s.findIdx? fun a=>decide (a.name=x)
def avl (n:Int):Bool:=!iM n
def iq (a:Attr):Int :=
 if a.kind=1 then (if a.lo≠0\/a.hi≠0 then 20 else if a.words.length=0 then 19 else if 12<a.words.length then 4 else if a.words.all gJ=false then 6 else if decide a.words.Nodup=false then 8 else 0)
 else if a.kind=2 then (if 0<a.words.length then 20 else if a.hi<a.lo\/avl a.lo=true\/avl a.hi=true then 1 else 0)
 else if a.kind=3 then (if 0<a.words.length\/a.lo≠0\/a.hi≠0 then 20 else 0) else 11
def rL:Attr:=⟨⟨#[]⟩,0,[],0,0⟩
def rY (s:List Attr) (i:Nat):Int :=
 if gJ (s.getD i rL).name=false then 6 else if (s.take i).any (fun b=>decide (b.name=(s.getD i rL).name))=true then 8 else iq (s.getD i rL)
def dy (s:List Attr):Int:=if s.length=0 then 19 else if 6<s.length then 4 else (kZ (rY s) s.length).2
def dz (l:List cK) (x:BA):Option Nat:=l.findIdx? fun c=>(c.kind==1)&&decide (c.name=x)
def fB (s:List Attr) (l:List cK) (op:Int) (name:BA) (words:ZB) (lo hi:Int):Int :=
 if op=3 then (match eO s name with|none=>if (dz l name).isSome then 0 else 7|some i=>if (s.getD i rL).kind≠3 then 9 else 0)
 else if op=4 then (match eO s name with|none=>7|some i=>if (s.getD i rL).kind≠1 then 9 else if words.all (fun x=>(s.getD i rL).words.any fun y=>decide (y=x))=false then 7 else 0)
 else if op=5 then (match eO s name with|none=>7|some i=>if (s.getD i rL).kind≠2 then 9 else if lo<(s.getD i rL).lo\/(s.getD i rL).hi<hi then 1 else 0)
 else 0
mutual
def dr (s:List Attr) (l:List cK):Ex->Int
 | .mk op name words lo hi args=>if fB s l op name words lo hi≠0 then fB s l op name words lo hi else dZ s l args
def dZ (s:List Attr) (l:List cK):List Ex->Int
 | []=>0
 | e::r=>if dr s l e≠0 then dr s l e else dZ s l r
end
theorem zL (s:List Attr) (l:List cK) (e:Ex):dr s l e=if fB s l e.op e.name e.words e.lo e.hi≠0 then fB s l e.op e.name e.words e.lo e.hi else dZ s l e.args:=by cases e;rw[dr];rfl
theorem tK {s:List Attr} {l:List cK}:(r:List Ex)->(∀j (h:j<r.length),dr s l r[j]=0)->dZ s l r=0
 | [],_=>by rw[dZ]
 | e::r,h=>by
  have h0:=h 0 (by simp);simp only[bB] at h0;rw[dZ,h0];simp only[ne_eq,not_true_eq_false,if_false];exact tK r fun j hj=>by have:=h (j+1) (by simpa using hj);simpa using this
theorem FZ {s:List Attr} {l:List cK}:(r:List Ex)->(k:Nat)->(hk:k<r.length)->dr s l r[k]≠0->(∀j (h:j<k),dr s l (r[j]'(by omega))=0)->dZ s l r=dr s l r[k]
 | [],k,hk,_,_=>by simp at hk
 | e::r,0,_,h,_=>by simp only[bB] at h ⊢;rw[dZ,bM h]
 | e::r,k+1,hk,h,h0=>by
  have h1:=h0 0 (by omega);simp only[bB] at h1;rw[dZ,h1];simp only[ne_eq,not_true_eq_false,if_false,List.getElem_cons_succ] at h ⊢;exact FZ r k (by simpa using hk) h fun j hj=>by have:=h0 (j+1) (by omega);simpa using this
mutual
def wM (D:BA->Option Nat):Ex->Nat
 | .mk op name _ _ _ args=>min ((if op=3 then (D name).getD 1 else 1)+mI D args) 2001
def mI (D:BA->Option Nat):List Ex->Nat
 | []=>0
 | e::r=>wM D e+mI D r
end
theorem Mi (D:BA->Option Nat) (e:Ex):wM D e=min ((if e.op=3 then (D e.name).getD 1 else 1)+mI D e.args) 2001:=by cases e;rw[wM];rfl
theorem KE (D:BA->Option Nat):(l:List Ex)->(k:Nat)->(hk:k<l.length)->mI D (l.take (k+1))=mI D (l.take k)+wM D l[k]
 | [],k,hk=>by simp at hk
 | e::r,0,_=>by simp[mI]
 | e::r,k+1,hk=>by
  have:=KE D r k (by simpa using hk);simp[mI] at this ⊢;omega
theorem aam (D:BA->Option Nat):(l:List Ex)->(k:Nat)->mI D (l.take k)<=mI D l
 | [],k=>by simp[mI]
 | e::r,0=>by simp[mI]
 | e::r,k+1=>by
  have:=aam D r k;simp[mI];omega
theorem aea (D:BA->Option Nat) (e:Ex):wM D e<=2001:=by rw[Mi];omega
def fC:cK:=⟨0,⟨#[]⟩,.mk 0 ⟨#[]⟩ [] 0 0 [],[],0⟩
def jT (l:List cK):Nat->Ex->Nat
 | 0,_=>2001
 | f+1,e=>wM (fun s=>(dz l s).map fun d=>jT l f (l.getD d fC).cond) e
def dV (l:List cK) (e:Ex):Nat:=jT l (l.length+1) e
theorem aan (l:List cK) (f:Nat) (e:Ex):jT l f e<=2001:=by cases f with|zero=>simp[jT]|succ f=>rw[jT];exact aea _ e
def iK:List Wb->Nat
 | []=>0
 | .mk _ _ u::r=>1+min (iK u) 41+iK r
def mh:Nat->List Wb->Bool
 | _,[]=>true
 | d,.mk n c u::r=>decide (d≠0)&&gJ n&&eW c&&mh (d - 1) u&&mh d r
def ku (kind:Int):Int:=if kind=5\/kind=6\/kind=7\/kind=10 then 1073741824 else if kind=8 then 1000000 else 0
def gQ (c:cK):Bool:=decide (1<=c.kind)&&decide (c.kind<=10)&&gJ c.name&&eW c.cond&&(decide (c.gH.length=0)||((c.kind==3)&&decide (iK c.gH<=40)&&mh 16 c.gH)) &&
 ((decide (ku c.kind=0)&&(c.ck==0))||(decide (0<ku c.kind)&&decide (1<=c.ck)&&decide (c.ck<=ku c.kind)))
def fG (s:List Attr) (l:List cK):List Wb->Int
 | []=>0
 | .mk _ c u::r=>if dr s l c≠0 then dr s l c else if fG s l u≠0 then fG s l u else fG s l r
def eH (l:List cK):List Wb->Bool
 | []=>false
 | .mk _ c u::r=>decide (2000<dV l c)||eH l u||eH l r
def findAt (l:List cK) (x:BA):Option Nat:=l.findIdx? fun c=>decide (c.name=x)
def jE (s:List Attr) (l:List cK) (i:Nat):Int :=
 if gQ (l.getD i fC)=false then 5 else if (findAt l (l.getD i fC).name).getD 0<i then 8 else if (eO s (l.getD i fC).name).isSome then 8 else
 if dr s l (l.getD i fC).cond≠0 then dr s l (l.getD i fC).cond else fG s l (l.getD i fC).gH
def jQ (l:List cK) (i:Nat):Int:=if 2000<dV l (l.getD i fC).cond\/eH l (l.getD i fC).gH=true then 4 else 0
def cK.tV (c:cK):uW:=⟨c.kind==1,c.name,jB (fX c.cond)⟩
def vZ (l:List uW):Prop:=∃o,Yi l o
open Classical in
noncomputable def cV (s:List Attr) (l:List cK):Nat×Int :=
 if dy s≠0 then (0,dy s) else if 100<l.length then (0,4) else if (kZ (jE s l) l.length).2≠0 then kZ (jE s l) l.length else
 if ¬vZ (l.map cK.tV) then (0,10) else kZ (jQ l) l.length
mutual
def qT:Ex->Bool
 | .mk op _ _ _ _ args=>(op != 3||args.isEmpty)&&Eb args
def Eb:List Ex->Bool
 | []=>true
 | e::r=>qT e&&Eb r
end
mutual
def szE (D:BA->Option Nat):Ex->Nat
 | .mk op name _ _ _ args=>match (if op=3 then D name else none) with|some n=>n|none=>szL D 1 args
def szL (D:BA->Option Nat):Nat->List Ex->Nat
 | n,[]=>n
 | n,e::r=>szL D (min (n+szE D e) 2001) r
end
theorem aGQ (D:BA->Option Nat) (e:Ex):szE D e=match (if e.op=3 then D e.name else none) with|some n=>n|none=>szL D 1 e.args:=by cases e;rw[szE];rfl
theorem ao9 (D:BA->Option Nat):(l:List Ex)->(n:Nat)->(e:Ex)->szL D n (l++[e])=min (szL D n l+szE D e) 2001
 | [],n,e=>by simp[szL]
 | x::r,n,e=>by simp[szL,ao9 D r]
theorem aip (D:BA->Option Nat) (l:List Ex) (n k:Nat) (h:k<l.length):szL D n (l.take (k+1))=min (szL D n (l.take k)+szE D l[k]) 2001:=by
 rw[aO h,ao9]
mutual
theorem ad1 {D:BA->Option Nat} (hD:∀s n,D s=some n->n<=2001):(e:Ex)->qT e=true->szE D e=wM D e
 | .mk op name words lo hi args,h=>by
  rw[qT,aF] at h;rw[szE,wM];have hl:=awv hD args h.2;by_cases h3:op=3
  ·have ha:args=[]:=by
    have:=h.1;rw[h3] at this;simpa using this
   subst ha;simp only[bM h3];cases hd:D name with
   | none=>simp[szL,mI]
   | some n=>have:=hD name n hd;simp[mI];omega
  simp only[bL h3];exact hl 1 (by omega)
theorem awv {D:BA->Option Nat} (hD:∀s n,D s=some n->n<=2001):(l:List Ex)->Eb l=true->∀n,n<=2001->szL D n l=min (n+mI D l) 2001
 | [],_,n,hn=>by simp[szL,mI];omega
 | e::r,h,n,hn=>by
  rw[Eb,aF] at h;rw[szL,mI,awv hD r h.2 _ (by omega),ad1 hD e h.1];omega
end
mutual
theorem tN {D D':BA->Option Nat}:(e:Ex)->(∀s∈fX e,D s=D' s)->wM D e=wM D' e
 | .mk op name words lo hi args,h=>by
  rw[wM,wM];rw[fX] at h;rw[ag2 args fun s hs=>h s (aL _ hs)];by_cases h3:op=3
  ·rw[bM h3,bM h3,h name (aK _ (by simp[h3]))]
  rw[bL h3,bL h3]
theorem ag2 {D D':BA->Option Nat}:(l:List Ex)->(∀s∈iH l,D s=D' s)->mI D l=mI D' l
 | [],_=>by rw[mI,mI]
 | e::r,h=>by
  rw[iH] at h;rw[mI,mI,tN e fun s hs=>h s (aK _ hs),ag2 r fun s hs=>h s (aL _ hs)]
end
theorem findIdx_map {α β:Type} (f:α->β) (p:β->Bool) (l:List α):(l.map f).findIdx? p=l.findIdx? (fun x=>p (f x)):=by
 rw[List.findIdx?_map];rfl
theorem rA (l:List cK) (s:BA):gA (l.map cK.tV) s=dz l s:=by
 unfold gA dz;rw[findIdx_map]
 rfl
theorem fJ {l:List cK} {i:Nat} (h:i<l.length):l.getD i fC=l[i]:=by simp[h]
theorem sY {l:List cK} {i:Nat} (h:i<l.length):iD (l.map cK.tV) i=(l[i].kind==1):=by
 unfold iD;simp[h,cK.tV]
theorem xm {l:List cK} {i:Nat} (h:i<l.length):jy (l.map cK.tV) i=jB (fX l[i].cond):=by
 unfold jy;simp[h,cK.tV]
theorem ot {l:List cK} {s:BA} {d:Nat} (h:dz l s=some d):d<l.length:=by
 unfold dz at h;rw[aJ] at h;exact h.1
theorem tP {l:List cK} {s:BA} {d:Nat} (h:dz l s=some d):(l.getD d fC).name=s/\(l.getD d fC).kind=1:=by
 have hd:=ot h;unfold dz at h;rw[aJ] at h;obtain⟨_,h1,_⟩:=h;simp only[aF,a47,aH] at h1;rw[fJ hd];exact⟨h1.2,h1.1⟩
theorem Yi.lt {l:List uW} {o:ZN} (h:Yi l o) {i:Nat} (hi:i∈o):i<l.length:=mz ((h.all i).1 hi)
theorem Yi.len {l:List uW} {o:ZN} (h:Yi l o):o.length<=l.length:=by
 have:=vS o (List.range l.length) h.nodup fun x hx=>a43.2 (h.lt hx)
 simpa using this
theorem Mh {l:List cK} {o:ZN} (h:Yi (l.map cK.tV) o):∀(q d:Nat),o[q]?=some d->∀f g,q<f->q<g->jT l f (l.getD d fC).cond=jT l g (l.getD d fC).cond:=by
 intro q;induction q using Nat.strongRecOn with
 | ind q ih =>
  intro d hd f g hf hg;obtain⟨f,rfl⟩:∃k,f=k+1:=⟨f - 1,by omega⟩
  obtain⟨g,rfl⟩:∃k,g=k+1:=⟨g - 1,by omega⟩
  rw[jT,jT];refine tN _ fun s hs=>?_
  have hdl:d<l.length:=by simpa using h.lt (List.mem_of_getElem? hd)
  cases hda:dz l s with
  | none=>rfl
  | some d' =>
   have h1:=h.after q d hd s (by rw[xm hdl,sx];rwa [fJ hdl] at hs) d' (by rw[rA];exact hda);obtain⟨q',jA⟩:=List.mem_iff_getElem?.1 h1;have hlt:q'<q:=by
    rcases bJ q' q with h'|h'
    ·exact h'
    rw[List.getElem?_eq_none (by simp;omega)] at jA;cases jA
   rw[List.getElem?_take,bM hlt] at jA;simp only[Option.map_some,a42];exact ih q' hlt d' jA f g (by omega) (by omega)
def qG (l:List cK) (o:ZN):BA->Option Nat:=o.foldl (fun D i s=>if s=(l.getD i fC).name then some (szE D (l.getD i fC).cond) else D s) (fun _=>none)
theorem LK (l:List cK) (o:ZN) (i:Nat) (s:BA):qG l (o++[i]) s=if s=(l.getD i fC).name then some (szE (qG l o) (l.getD i fC).cond) else qG l o s:=by simp[qG]
theorem apl {l:List cK} {o:ZN} (h:Yi (l.map cK.tV) o) (hu:∀i∈o,dz l (l.getD i fC).name=some i) (hb:∀i∈o,qT (l.getD i fC).cond=true) :
  ∀p,p<=o.length->∀s,qG l (o.take p) s=match dz l s with|some d=>if d∈o.take p then some (jT l l.length (l.getD d fC).cond) else none|none=>none:=by
 have hol:o.length<=l.length:=by simpa using h.len
 intro p;induction p with
 | zero =>
  intro _ s;simp only[List.take_zero,bC,if_false];cases dz l s<;>rfl
 | succ p ih =>
  intro hp s;have hp':p<o.length:=by omega
  have IH:=ih (by omega);have hD:∀s n,qG l (o.take p) s=some n->n<=2001:=by
   intro s n hn;rw[IH s] at hn;cases hd:dz l s with
   | none=>rw[hd] at hn;cases hn
   | some d =>
    rw[hd] at hn;simp only at hn;split at hn
    ·cases hn;exact aan _ _ _
    cases hn
  have him:o[p]∈o:=aD hp';have hil:o[p]<l.length:=by simpa using h.lt him
  rw[aO hp',LK];have key:szE (qG l (o.take p)) (l.getD o[p] fC).cond=jT l l.length (l.getD o[p] fC).cond:=by
   rw[ad1 hD _ (hb _ him),Mh h p o[p] (aT hp') l.length (l.length+1) (by omega) (by omega),jT];refine tN _ fun t ht=>?_
   rw[IH t];cases hda:dz l t with
   | none=>rfl
   | some d =>
    have h1:=h.after p o[p] (aT hp') t (by rw[xm hil,sx];rwa [fJ hil] at ht) d (by rw[rA];exact hda);simp[h1]
  by_cases hs:s=(l.getD o[p] fC).name
  ·rw[bM hs,key,hs,hu _ him];simp only[aN,aG,or_true,if_true]
  rw[bL hs,IH s];cases hd:dz l s with
  | none=>rfl
  | some d =>
   have hne:d≠o[p]:=fun e=>hs (by rw[<-e];exact(tP hd).1.symm)
   simp only[aN,aG,hne,or_false]
theorem ajX {l:List cK} {o:ZN} (h:Yi (l.map cK.tV) o) (hu:∀i∈o,dz l (l.getD i fC).name=some i) (hb:∀i∈o,qT (l.getD i fC).cond=true) (e:Ex) (he:qT e=true):szE (qG l o) e=dV l e:=by
 have hs:=apl h hu hb o.length (aU _);rw[List.take_length] at hs;have hD:∀s n,qG l o s=some n->n<=2001:=by
  intro s n hn;rw[hs s] at hn;cases hd:dz l s with
  | none=>rw[hd] at hn;cases hn
  | some d =>
   rw[hd] at hn;simp only at hn;split at hn
   ·cases hn;exact aan _ _ _
   cases hn
 rw[ad1 hD e he,dV,jT];refine tN _ fun t ht=>?_
 rw[hs t];cases hda:dz l t with
 | none=>rfl
 | some d =>
  have hdl:=ot hda;have:d∈o:=(h.all d).2 (by rw[sY hdl,<-fJ hdl,(tP hda).2];rfl);simp[this]
def yS (a:Attr):Int×Int:=if a.kind=1 then (0,(a.words.length:Int) - 1) else if a.kind=2 then (a.lo,a.hi) else (0,1)
def fW:List Attr->ZI->Bool
 | [],[]=>true
 | a::r,v::q=>decide ((yS a).1<=v)&&decide (v<=(yS a).2)&&fW r q
 | _,_=>false
def jU (s:List Attr) (f:ZI):Bool:=decide (dy s=0)&&fW s f
theorem kA:{s:List Attr}->{f:ZI}->fW s f=true->f.length=s.length
 | [],[],_=>rfl
 | a::r,v::q,h=>by
  simp only[fW,aF] at h;simp[kA h.2]
 | [],v::q,h=>by simp[fW] at h
 | a::r,[],h=>by simp[fW] at h
theorem TP:{s:List Attr}->{f:ZI}->fW s f=true->(i:Nat)->(hi:i<s.length)->(hj:i<f.length)->(yS s[i]).1<=f[i]/\f[i]<=(yS s[i]).2
 | a::r,v::q,h,0,_,_=>by
  simp only[fW,aF,aH] at h;simpa using h.1
 | a::r,v::q,h,i+1,hi,hj=>by
  simp only[fW,aF] at h;simpa using TP h.2 i (by simpa using hi) (by simpa using hj)
theorem Mg:{s:List Attr}->{f:ZI}->f.length=s.length->(∀i (hi:i<s.length) (hj:i<f.length),(yS s[i]).1<=f[i]/\f[i]<=(yS s[i]).2)->fW s f=true
 | [],[],_,_=>rfl
 | a::r,v::q,h,h2=>by
  have h0:=h2 0 (by simp) (by simp);simp only[bB] at h0;simp only[fW,aF,aH];exact⟨h0,Mg (by simpa using h) fun i hi hj=>by have:=h2 (i+1) (by simpa using hi) (by simpa using hj);simpa using this⟩
 | [],v::q,h,_=>by simp at h
 | a::r,[],h,_=>by simp at h
def um (s:List Attr) (f:ZI) (op:Int) (name:BA) (words:ZB) (lo hi:Int):Bool :=
 if op=1 then true else if op=2 then false else
 match eO s name with
 | none=>false
 | some i=>if op=4 then words.any (fun x=>decide (x=(s.getD i rL).words.getD (f.getD i 0).toNat ⟨#[]⟩)) else if op=5 then decide (lo<=f.getD i 0)&&decide (f.getD i 0<=hi) else decide (f.getD i 0=1)
mutual
def pK (s:List Attr) (f:ZI) (D:BA->Option Bool):Ex->Bool
 | .mk op name words lo hi args=>if op=6 then !(Iq s f D args) else if op=7 then BT s f D args else if op=8 then BS s f D args else if op=3 then (D name).getD (um s f op name words lo hi) else um s f op name words lo hi
def Iq (s:List Attr) (f:ZI) (D:BA->Option Bool):List Ex->Bool
 | []=>false
 | e::_=>pK s f D e
def BT (s:List Attr) (f:ZI) (D:BA->Option Bool):List Ex->Bool
 | []=>true
 | e::r=>pK s f D e&&BT s f D r
def BS (s:List Attr) (f:ZI) (D:BA->Option Bool):List Ex->Bool
 | []=>false
 | e::r=>pK s f D e||BS s f D r
end
theorem xl {s:List Attr} {f:ZI} {D:BA->Option Bool}:(l:List Ex)->BT s f D l=l.all (pK s f D)
 | []=>by rw[BT];rfl
 | e::r=>by rw[BT,xl r];rfl
theorem xj {s:List Attr} {f:ZI} {D:BA->Option Bool}:(l:List Ex)->BS s f D l=l.any (pK s f D)
 | []=>by rw[BS];rfl
 | e::r=>by rw[BS,xj r];rfl
def jN (s:List Attr) (l:List cK) (f:ZI):Nat->Ex->Bool
 | 0,_=>false
 | k+1,e=>pK s f (fun x=>(dz l x).map fun d=>jN s l f k (l.getD d fC).cond) e
def val (s:List Attr) (l:List cK) (f:ZI) (e:Ex):Bool:=jN s l f (l.length+1) e
mutual
theorem JK {s:List Attr} {f:ZI} {D D':BA->Option Bool}:(e:Ex)->(∀x∈fX e,D x=D' x)->pK s f D e=pK s f D' e
 | .mk op name words lo hi args,h=>by
  have h2:∀x∈iH args,D x=D' x:=fun x hx=>h x (by rw[fX];exact aL _ hx)
  obtain⟨q1,q2,q3⟩:=aev args h2;rw[pK,pK,q1,q2,q3];by_cases h3:op=3
  ·rw[h name (by rw[fX,h3];simp)]
  simp[h3]
theorem aev {s:List Attr} {f:ZI} {D D':BA->Option Bool}:(l:List Ex)->(∀x∈iH l,D x=D' x)->Iq s f D l=Iq s f D' l/\BT s f D l=BT s f D' l/\BS s f D l=BS s f D' l
 | [],_=>⟨by rw[Iq,Iq],by rw[BT,BT],by rw[BS,BS]⟩
 | e::r,h=>by
  have h1:=JK (s:=s) (f:=f) e fun x hx=>h x (by rw[iH];exact aK _ hx)
  obtain⟨_,q2,q3⟩:=aev (s:=s) (f:=f) r fun x hx=>h x (by rw[iH];exact aL _ hx)
  exact⟨by rw[Iq,Iq,h1],by rw[BT,BT,h1,q2],by rw[BS,BS,h1,q3]⟩
end
theorem U8 {D:BA->Option Nat}:(e:Ex)->wM D e<=2000->∀x n,x∈fX e->D x=some n->n<=2000
 | .mk op name words lo hi args,h,x,n,hx,hD=>by
  rw[wM] at h;rw[fX] at hx;rcases aN.1 hx with h1|h1
  ·by_cases h3:op=3
   ·simp[h3] at h1;subst h1;simp[h3,hD] at h;omega
   simp[h3] at h1
  exact ak4 args (by omega) x n h1 hD
where
 ak4 {D:BA->Option Nat}:(l:List Ex)->mI D l<=2000->∀x n,x∈iH l->D x=some n->n<=2000
  | [],_,x,n,hx,_=>by rw[iH] at hx;simp at hx
  | e::r,h,x,n,hx,hD=>by
   rw[mI] at h;rw[iH] at hx;rcases aN.1 hx with h1|h1
   ·exact U8 e (by omega) x n h1 hD
   exact ak4 r (by omega) x n h1 hD
theorem Sv (s:List Attr) (l:List cK) (f:ZI):(k m:Nat)->(e:Ex)->jT l k e<=2000->k<=m->jN s l f k e=jN s l f m e
 | 0,_,e,h,_=>by simp[jT] at h
 | k+1,0,e,_,hm=>by omega
 | k+1,m+1,e,h,hm=>by
  rw[jN,jN];refine JK e fun x hx=>?_
  cases hd:dz l x with
  | none=>rfl
  | some d =>
   rw[jT] at h;have:=U8 e h x (jT l k (l.getD d fC).cond) hx (by rw[hd];rfl);simp only[Option.map_some,a42];exact Sv s l f k m _ this (by omega)
mutual
def af0:Ex->Bool
 | .mk op name words lo hi args=>EE (.mk op name words lo hi args)&&Cj args
def Cj:List Ex->Bool
 | []=>true
 | e::r=>af0 e&&Cj r
end
mutual
theorem acq:(e:Ex)->(d n:Int)->n<=300->d<=17->((nZ e d n).1=true ↔ (d+e.depth<=17/\n+e.size<=300/\af0 e=true))/\((nZ e d n).1=true->(nZ e d n).2=n+e.size)
 | .mk op name words lo hi args,d,n,hn,hd=>by
  have hs:(Ex.mk op name words lo hi args).size=1+sizes args:=by simp[Ex.size]
  have hp:(Ex.mk op name words lo hi args).depth=jz args+1:=by simp[Ex.depth]
  rw[nZ,hs,hp,af0];by_cases hc:300<n+1\/16<d\/EE (.mk op name words lo hi args)=false
  ·rw[bM hc];refine⟨⟨fun h=>by simp at h,fun ⟨h1,h2,h3⟩=>?_⟩,fun h=>by simp at h⟩;rcases hc with hc|hc|hc
   ·omega
   ·omega
   rw[hc] at h3;simp at h3
  rw[bL hc];have hnb:EE (.mk op name words lo hi args)=true:=by
   cases hh:EE (.mk op name words lo hi args)
   ·exact a40 (a4Z (a4Z hh)) hc
   rfl
  obtain⟨h1,h2⟩:=YP args (d+1) (n+1) (by omega) (by omega);rw[hnb,Bool.true_and];refine⟨h1.trans ⟨fun ⟨a,b,c⟩=>⟨by omega,by omega,c⟩,fun ⟨a,b,c⟩=>⟨by omega,by omega,c⟩⟩,fun h=>by have:=h2 h;omega⟩
theorem YP:(l:List Ex)->(d n:Int)->n<=300->d<=17->((qq l d n).1=true ↔ (d+jz l<=17/\n+sizes l<=300/\Cj l=true))/\((qq l d n).1=true->(qq l d n).2=n+sizes l)
 | [],d,n,hn,hd=>by simp[qq,jz,sizes,Cj];omega
 | e::r,d,n,hn,hd=>by
  obtain⟨h1,h2⟩:=acq e d n hn hd;rw[qq,jz,sizes,Cj];by_cases hv:(nZ e d n).1=true
  ·rw[bM hv];have e2:=h2 hv;obtain⟨a1,a2,a3⟩:=h1.1 hv;obtain⟨h3,h4⟩:=YP r d (nZ e d n).2 (by omega) hd;refine⟨h3.trans ⟨fun ⟨a,b,c⟩=>⟨by omega,by omega,by rw[a3,c];rfl⟩,fun ⟨a,b,c⟩=>⟨by omega,by omega,by rw[a3] at c;simpa using c⟩⟩,fun h=>by have:=h4 h;omega⟩
  rw[bL hv];refine⟨⟨fun h=>by simp at h,fun ⟨a,b,c⟩=>a40 (h1.2 ⟨by omega,by omega,?_⟩) hv⟩,fun h=>by simp at h⟩;rw[aF] at c;exact c.1
end
theorem ayP (e:Ex) (h:e.args.length<=300):EE e=vQ e:=by
 obtain⟨op,name,words,lo,hi,args⟩:=e;simp only[EE,vQ,IQ,Ex.op,Ex.name,Ex.words,Ex.lo,Ex.hi,Ex.args,qg] at *;by_cases h1:1<=op/\op<=8
 ·have hk:op=1\/op=2\/op=3\/op=4\/op=5\/op=6\/op=7\/op=8:=by omega
  have hw:words.isEmpty=decide (words.length=0):=by cases words<;>simp
  have hw2:(words.length != 0)=decide (1<=words.length):=by cases words<;>simp
  rw[hw,hw2];rcases hk with rfl|rfl|rfl|rfl|rfl|rfl|rfl|rfl
  all_goals
   simp only[show ((1:Int).toNat)=1 from rfl,show ((2:Int).toNat)=2 from rfl,show ((3:Int).toNat)=3 from rfl,show ((4:Int).toNat)=4 from rfl,show ((5:Int).toNat)=5 from rfl,show ((6:Int).toNat)=6 from rfl,show ((7:Int).toNat)=7 from rfl,show ((8:Int).toNat)=8 from rfl,m8,qJ,oy];rw[bH];simp
   try grind
 simp[h1]
mutual
theorem Xo:(e:Ex)->e.size<=300->af0 e=AW e
 | .mk op name words lo hi args,h=>by
  have hs:(Ex.mk op name words lo hi args).size=1+sizes args:=by simp[Ex.size]
  have hl:=eR args;rw[af0,AW,ayP _ (by simp only[Ex.args];omega),We args (by omega)]
theorem We:(l:List Ex)->sizes l<=300->Cj l=uL l
 | [],_=>by simp[Cj,uL]
 | e::r,h=>by
  rw[sizes] at h;rw[Cj,uL,Xo e (by omega),We r (by omega)]
end
theorem zx (e:Ex):uX e=eW e:=by
 unfold uX eW;have h:=(acq e 1 0 (by omega) (by omega)).1;have e1:ep e<=300 ↔ e.size<=300:=by unfold ep;omega
 rw[bH,h,aF,aF];constructor
 ·rintro⟨a,b,c⟩;refine⟨⟨?_,?_⟩,by rw[<-Xo e (by omega)];exact c⟩
  ·rw[bP (by omega)];rfl
  rw[aH,e1];omega
 rintro⟨⟨a,b⟩,c⟩;have a2:¬16<e.depth:=fun h=>by rw[bO h] at a;cases a
 have b2:=e1.1 (of_decide_eq_true b);exact⟨by omega,by omega,by rw[Xo e (by omega)];exact c⟩
def zK (e:Ex):Prop :=
 (e.op=1/\e.name=⟨#[]⟩/\e.words=[]/\e.lo=0/\e.hi=0/\e.args=[])\/(e.op=2/\e.name=⟨#[]⟩/\e.words=[]/\e.lo=0/\e.hi=0/\e.args=[]) \/
 (e.op=3/\gJ e.name=true/\e.words=[]/\e.lo=0/\e.hi=0/\e.args=[])\/(e.op=4/\gJ e.name=true/\qg e.words=true/\e.lo=0/\e.hi=0/\e.args=[]) \/
 (e.op=5/\gJ e.name=true/\e.words=[]/\iM e.lo=true/\iM e.hi=true/\e.lo<=e.hi/\e.args=[]) \/
 (e.op=6/\e.name=⟨#[]⟩/\e.words=[]/\e.lo=0/\e.hi=0/\e.args.length=1) \/
 ((e.op=7\/e.op=8)/\e.name=⟨#[]⟩/\e.words=[]/\e.lo=0/\e.hi=0/\2<=e.args.length)
mutual
def gq:Ex->Prop
 | .mk op name words lo hi args=>zK (.mk op name words lo hi args)/\uK args
def uK:List Ex->Prop
 | []=>True
 | e::r=>gq e/\uK r
end
theorem atS (e:Ex):vQ e=true ↔ zK e:=by
 obtain⟨op,name,words,lo,hi,args⟩:=e;have hw:words=[] ↔ words.length=0:=by cases words<;>simp
 have ha:args=[] ↔ args.length=0:=by cases args<;>simp
 have hnm:name=⟨#[]⟩ ↔ name.toList.isEmpty=true:=by
  rw[List.isEmpty_iff,ByteArray.toList_eq];constructor
  ·rintro rfl;rfl
  intro h
  apply ByteArray.ext
  simpa using h
 simp only[vQ,IQ,zK,Ex.op,Ex.name,Ex.words,Ex.lo,Ex.hi,Ex.args,qg,hw,ha,hnm];by_cases h1:1<=op/\op<=8
 ·have hk:op=1\/op=2\/op=3\/op=4\/op=5\/op=6\/op=7\/op=8:=by omega
  rcases hk with rfl|rfl|rfl|rfl|rfl|rfl|rfl|rfl
  all_goals
   simp
   try grind
 simp[h1];omega
mutual
theorem Ke:(e:Ex)->(AW e=true ↔ gq e)
 | .mk op name words lo hi args=>by
  rw[AW,gq,aF,atS,acP args]
theorem acP:(l:List Ex)->(uL l=true ↔ uK l)
 | []=>by simp[uL,uK]
 | e::r=>by rw[uL,uK,aF,Ke e,acP r]
end
theorem acK {l:List Ex} (h:uK l):∀x∈l,gq x:=by
 induction l with
 | nil=>intro x hx;simp at hx
 | cons e r ih =>
  unfold uK at h;intro x hx;rcases bz.1 hx with rfl|hx
  ·exact h.1
  exact ih h.2 x hx
open Go.RowKit
def dU (ops:Array Oper) (j:Nat):Option Tmp:=(ops[j]?).bind (·.dst)
def fL (ops:Array Oper) (a:Act) (vs:Nat->Value) (L:ZN):Act:=L.foldl (fun b j=>b.put (dU ops j) (vs j)) a
theorem Vn (ops:Array Oper) (a:Act) (vs:Nat->Value) (L:ZN) (i:Nat):fL ops a vs (L++[i])=(fL ops a vs L).put (dU ops i) (vs i):=by simp[fL]
theorem Yg {ops:Array Oper} {a:Act} {vs vs':Nat->Value} {L:ZN} (h:∀j∈L,vs j=vs' j):fL ops a vs L=fL ops a vs' L:=by
 unfold fL;induction L generalizing a with
 | nil=>rfl
 | cons x r ih=>simp only[aX,h x (by simp)];exact ih (fun j hj=>h j (aZ _ hj))
theorem afE (a:Act) (d:Option Tmp) (v:Value):(a.put d v).tmps.size=a.tmps.size:=by cases d<;>simp[Act.put]
theorem ab9 (ops:Array Oper) (a:Act) (vs:Nat->Value) (L:ZN):(fL ops a vs L).tmps.size=a.tmps.size:=by
 unfold fL;induction L generalizing a with
 | nil=>rfl
 | cons x r ih=>rw[aX,ih,afE]
def GZ (ops:Array Oper):Prop:=∀i j d,dU ops i=some d->dU ops j=some d->i=j
theorem Wa (a:Act) (t:Tmp) (v:Value):(a.put (some t) v).eval (.tmp t)=if t<a.tmps.size then v else undef:=by
 by_cases h:t<a.tmps.size
 ·rw[bM h];simp[Act.put,Act.eval,h]
 rw[bL h];simp only[Act.put,Act.eval];rw[Array.setIfInBounds_eq_of_size_le (Nat.le_of_not_lt h)];simp;rw[Array.getElem?_eq_none (Nat.le_of_not_lt h)];rfl
theorem uU {ops:Array Oper} (hd:GZ ops) {a:Act} {vs:Nat->Value} {L:ZN} {t:Tmp} {j:Nat} (hj:j∈L) (ht:dU ops j=some t):(fL ops a vs L).eval (.tmp t)=if t<a.tmps.size then vs j else undef:=by
 induction L generalizing a with
 | nil=>simp at hj
 | cons x r ih =>
  simp only[fL,aX];by_cases hjr:j∈r
  ·have:=ih (a:=a.put (dU ops x) (vs x)) hjr;rw[afE] at this;exact this
  obtain rfl:j=x:=by rcases bz.1 hj with h|h;exact h;exact a40 h hjr
  have:∀(b:Act),(fL ops b vs r).eval (.tmp t)=b.eval (.tmp t):=by
   clear ih hj;induction r with
   | nil=>intro b;rfl
   | cons y s ih =>
    intro b;simp only[fL,aX];have h1:=ih (fun h=>hjr (aZ _ h)) (b.put (dU ops y) (vs y));simp only[fL] at h1;rw[h1];exact Act.eval_put (fun d hd' e=>by
     injection e with e
     subst e;exact hjr (by rw[hd _ _ _ ht hd'];simp))
  have h2:=this (a.put (dU ops j) (vs j));simp only[fL] at h2;rw[h2,ht,Wa]
theorem yL {ops:Array Oper} {a:Act} {vs:Nat->Value} {L:ZN} {t:Tmp} (ht:∀j∈L,dU ops j≠some t):(fL ops a vs L).eval (.tmp t)=a.eval (.tmp t):=by
 induction L generalizing a with
 | nil=>rfl
 | cons x r ih =>
  simp only[fL,aX];have:=ih (a:=a.put (dU ops x) (vs x)) (fun j hj=>ht j (aZ _ hj));simp only[fL] at this;rw[this];exact Act.eval_put (fun d hd' e=>by injection e with e;subst e;exact ht x (by simp) hd')
theorem Vo {ops:Array Oper} (hd:GZ ops) {a:Act} {vs:Nat->Value} {L L':ZN} (h:L.Perm L'):fL ops a vs L=fL ops a vs L':=by
 refine List.Perm.foldl_eq' h (fun x _ y _ z=>?_) a;by_cases hxy:x=y
 ·subst hxy;rfl
 exact Act.put_comm _ _ _ (fun d hx hy=>hxy (hd _ _ _ hx hy))
def abD (e:Edge):Bool:=match e.ground with|.data=>true|_=>false
def af6 (ops:Array Oper) (m:Nat):Bool :=
 Region.noSelect ops&&decide (m<=ops.size)&&decide (ops.size<=m+1) &&
 ((List.range ops.size).all fun i=>(List.range ops.size).all fun j=>i==j||dU ops i==none||dU ops i != dU ops j) &&
 ((List.range ops.size).all fun i=>match ops[i]? with
  | none=>false
  | some o=>(o.guard==none||i==m)&&(o.after.all fun e=>(!Region.binds .any e||decide (e.on<i))&&(!abD e||Region.binds .any e)) &&
   ((List.range m).all fun j=>match dU ops j with
    | none=>true
    | some t=>!(o.looksAt ops).contains t||(i==m)||o.after.any (fun e=>Region.binds .any e&&e.on==j)) &&
   (i != m||(List.range m).all fun j=>o.after.any (fun e=>Region.binds .any e&&e.on==j)))
theorem aqm {ops:Array Oper} {m:Nat} (h:af6 ops m=true):Region.noSelect ops=true/\m<=ops.size/\ops.size<=m+1/\GZ ops /\
  (∀i o,ops[i]?=some o->(i<m->o.guard=none)/\(∀e∈o.after,(Region.binds .any e=true->e.on<i)/\(abD e=true->Region.binds .any e=true))/\(i<m->∀j t,j<m->dU ops j=some t->t∈o.looksAt ops->∃e∈o.after,Region.binds .any e=true/\e.on=j) /\
   (i=m->∀j,j<m->∃e∈o.after,Region.binds .any e=true/\e.on=j)):=by
 simp only[af6,aF,aH] at h;obtain⟨⟨⟨⟨h1,h2⟩,h3⟩,h4⟩,h5⟩:=h;refine⟨h1,h2,h3,?_,?_⟩
 ·intro i j d hi hj;have li:i<ops.size:=by
   unfold dU at hi;rcases bJ i ops.size with h|h
   ·exact h
   rw[Array.getElem?_eq_none h] at hi;simp at hi
  have lj:j<ops.size:=by
   unfold dU at hj;rcases bJ j ops.size with h|h
   ·exact h
   rw[Array.getElem?_eq_none h] at hj;simp at hj
  have:=aP.1 (aP.1 h4 i (by simpa using li)) j (by simpa using lj);simpa[hi,hj] using this
 intro i o ho;have li:i<ops.size:=(aQ.1 ho).1;have h6:=aP.1 h5 i (by simpa using li);simp only[ho,aF] at h6;obtain⟨⟨⟨g1,g2⟩,g3⟩,g4⟩:=h6;refine⟨fun hm=>?_,fun e he=>?_,fun hm j t hjm hj ht=>?_,fun hm j hj=>?_⟩
 ·rcases Bool.or_eq_true_iff.1 g1 with g|g
  ·simpa using g
  have:i=m:=by simpa using g
  omega
 ·have:=Array.all_eq_true_iff_forall_mem.1 g2 e he;simp only[aF,bG,Bool.not_eq_true',aH] at this;refine⟨fun hb=>?_,fun hb=>?_⟩
  ·rcases this.1 with h|h
   ·rw[hb] at h;cases h
   exact h
  rcases this.2 with h|h
  ·rw[hb] at h;cases h
  exact h
 ·have:=aP.1 g3 j (by simpa using hjm);rw[hj] at this;simp only[bG,Bool.not_eq_true'] at this;rcases this with (h|h)|h
  ·rw[List.contains_iff_mem.2 ht] at h;cases h
  ·have:i=m:=by simpa using h
   omega
  obtain⟨e,he,hb⟩:=Array.any_eq_true'.1 h;simp only[aF,a47] at hb;exact⟨e,he,hb.1,hb.2⟩
 subst hm;rcases Bool.or_eq_true_iff.1 g4 with g|g
 ·simp at g
 have:=aP.1 g j (by simpa using hj);obtain⟨e,he,hb⟩:=Array.any_eq_true'.1 this;simp only[aF,a47] at hb;exact⟨e,he,hb.1,hb.2⟩
def bQ (P:Program) (o:Oper) (ρ:Operand->Value) (W:World) (T:Value->World->Prop):Prop:=match (execOp ρ o).run P W with
 | .ok (.value v) W'=>T v W'
 | .ok .skip W'=>T undef W'
 | .ok (.enter f args) W'=>Calls P f args W' (fun e W''=>∃v,e=.returned v/\T v W'')
 | _=>False
theorem bQ.wp {P:Program} {o:Oper} {ρ:Operand->Value} {a':Act} {W:World} {T:Value->World->Prop} {Q:Exit->Act->World->Prop} (h:bQ P o ρ W T) (he:execOp a'.eval o=execOp ρ o) :
  o.wp P a' W (fun a'' W'=>∃v,a''=a'.put o.dst v/\T v W') Q:=by
 unfold bQ at h;unfold Oper.wp;rw[he];generalize (execOp ρ o).run P W=r at *;cases r with
 | ok n w' =>
  cases n<;>simp only at h<;>simp only[Oper.upon]
  case value v=>exact⟨v,rfl,h⟩
  case skip=>exact⟨undef,rfl,h⟩
  case enter f args =>
   refine Calls.mono h (fun e w'' he=>?_);obtain⟨v,rfl,ht⟩:=he;exact⟨v,rfl,ht⟩
 | halt x w'=>simp only at h
structure avU (ops:Array Oper) (a:Act) (m:Nat) (vs:Nat->Value) (ρ:Operand->Value):Prop where
 ins:∀j t,j<m->dU ops j=some t->t<a.tmps.size->ρ (.tmp t)=vs j
 out:∀t,((List.range m).all fun j=>dU ops j != some t)=true->ρ (.tmp t)=a.eval (.tmp t)
 const:∀c,ρ (.const c)=c
 aXg:∀g,ρ (.global g)=.pointer (some ⟨g,0,none⟩)
 func:∀f,ρ (.func f)=.func (.func f) #[] #[]
theorem aj6 {ops:Array Oper} (hd:GZ ops) (a:Act) (m:Nat) (vs:Nat->Value):avU ops a m vs (fL ops a vs (List.range m)).eval where
 ins:=fun j t hj ht hs=>by rw[uU hd (by simpa using hj) ht,bM hs]
 out:=fun t ht=>yL (fun j hj=>by have:=aP.1 ht j hj;simpa using this)
 const:=fun _=>rfl
 aXg:=fun _=>rfl
 func:=fun _=>rfl
def upd (vs:Nat->Value) (i:Nat) (v:Value):Nat->Value:=fun j=>if j=i then v else vs j
def fK (ops:Array Oper):Nat->Nat->Nat->Bool
 | 0,_,_=>false
 | f+1,i,k=>match ops[i]? with
  | none=>false
  | some o=>o.after.any fun e=>Region.binds .any e&&(e.on==k||fK ops f e.on k)
theorem vW {ops:Array Oper} {L:ZN} (hcl:∀i∈L,∀o,ops[i]?=some o->∀e∈o.after,Region.binds .any e=true->e.on∈L):∀(f i k:Nat),i∈L->fK ops f i k=true->k∈L:=by
 intro f;induction f with
 | zero=>intro i k _ h;simp[fK] at h
 | succ f ih =>
  intro i k hi h;rw[fK] at h;cases ho:ops[i]? with
  | none=>rw[ho] at h;cases h
  | some o =>
   rw[ho] at h;obtain⟨e,he,hb⟩:=Array.any_eq_true'.1 h;simp only[aF,bG,a47] at hb;have hm:=hcl i hi o ho e he hb.1;rcases hb.2 with h1|h1
   ·rw[<-h1];exact hm
   exact ih e.on k hm h1
theorem Fy {ops:Array Oper} {L:ZN} (hcl:∀i∈L,∀o,ops[i]?=some o->∀e∈o.after,Region.binds .any e=true->e.on∈L) {i:Nat} {o:Oper} (ho:ops[i]?=some o) (hd:∀e∈o.after,Region.binds .any e=true->e.on∈L):∀(f k:Nat),fK ops f i k=true->k∈L:=by
 intro f k h;cases f with
 | zero=>simp[fK] at h
 | succ f =>
  rw[fK,ho] at h;obtain⟨e,he,hb⟩:=Array.any_eq_true'.1 h;simp only[aF,bG,a47] at hb;have hm:=hd e he hb.1;rcases hb.2 with h1|h1
  ·rw[<-h1];exact hm
  exact vW hcl f e.on k hm h1
def ZJ (ops:Array Oper) (c i:Nat):Bool:=match ops[c]? with|none=>false|some o=>o.after.any fun e=>abD e&&e.on==i
def mN (ops:Array Oper) (m:Nat) (Kp:ZN) (i k:Nat):Bool:=!fK ops m i k&&(Kp.contains i||(List.range m).any fun c=>c != k&&!fK ops m k c&&ZJ ops c i)
section
variable {P:Program} {ops:Array Oper} {Q:Exit->Act->World->Prop} {a:Act} {m:Nat} (Kp:ZN) (G:ZN->World->Prop) (E:Nat->World->World->Prop) (R:Nat->Value->World->Prop)
theorem as9 (hok:af6 ops m=true) (hRE:∀i k v W W',i<m->k<m->i≠k->mN ops m Kp i k=true->R i v W->E k W W'->R i v W')
  (hstep:∀i o,i<m->ops[i]?=some o->∀L vs W,i∉L->(∀j∈L,fK ops m j i=false)->G L W->(∀e∈o.after,abD e=true->R e.on (vs e.on) W)->∀ρ,avU ops a m vs ρ->bQ P o ρ W (fun v W'=>E i W W'/\G (L++[i]) W'/\R i v W'))
  (hend:∀L vs W,(∀j,j<m->j∈L)->G L W->(∀j∈Kp,j<m->R j (vs j) W)->if m=ops.size then Q .normal (fL ops a vs (List.range m)) W else wpOp P ops Q m (fun a w=>Q .normal a w) (fL ops a vs (List.range m)) W) :
  ∀(fuel:Nat) (L:ZN) (vs:Nat->Value) (W:World) (listed:Array Bool),listed.size=ops.size->(∀j,j<ops.size->(listed.getD j true=true ↔ j∈L))->L.Nodup->(∀j∈L,j<m)->((List.range ops.size).filter (fun j=>!L.contains j)).length<=fuel->G L W->(∀i∈L,∀o,ops[i]?=some o->∀e∈o.after,Region.binds .any e=true->e.on∈L)->(∀j∈L,(j∈Kp\/∃c,c<m/\c∉L/\ZJ ops c j=true)->R j (vs j) W) ->
   wpAny P .any ops Q fuel listed (fL ops a vs L) W:=by
 obtain⟨zP,hm1,hm2,hda,hspec⟩:=aqm hok;have hperm:∀L:ZN,L.Nodup->(∀j∈L,j<m)->(∀j,j<m->j∈L)->L.Perm (List.range m):=fun L h1 h2 h3 =>
  (List.perm_ext_iff_of_nodup h1 List.nodup_range).2 (fun j=>⟨fun h=>by simpa using h2 j h,fun h=>h3 j (by simpa using h)⟩)
 have hall:∀(L:ZN) (listed:Array Bool),listed.size=ops.size->(∀j,j<ops.size->(listed.getD j true=true ↔ j∈L))->(∀j∈Region.ready .any ops listed,¬j<m)->∀j,j<m->j∈L:=by
  intro L listed hsz hL hr j;induction j using Nat.strongRecOn with
  | _ j ih =>
   intro hj;by_cases Sh:j∈L
   ·exact Sh
   exfalso;refine hr j ?_ hj;have hjs:j<ops.size:=by omega
   rw[mem_ready];obtain⟨o,ho⟩:∃o,ops[j]?=some o:=⟨ops[j],aY hjs⟩
   refine⟨?_,o,ho,fun e he hb=>?_⟩
   ·cases hx:listed.getD j true
    ·rfl
    exact a40 ((hL j hjs).1 hx) Sh
   have hlt:=((hspec j o ho).2.1 e he).1 hb;have hm:=ih e.on hlt (by omega);have:=(hL e.on (by omega)).2 hm;have hin:e.on<listed.size:=by rw[hsz];omega
   simpa[Array.getD,hin] using this
 have abI:∀(L:ZN) (vs:Nat->Value) (W:World),L.Nodup->(∀j∈L,j<m)->(∀j,j<m->j∈L)->G L W->(∀j∈L,(j∈Kp\/∃c,c<m/\c∉L/\ZJ ops c j=true)->R j (vs j) W) ->
   if m=ops.size then Q .normal (fL ops a vs L) W else wpOp P ops Q m (fun a w=>Q .normal a w) (fL ops a vs L) W:=by
  intro L vs W hnd l7 wK hE hR;rw[Vo hda (hperm L hnd l7 wK)];exact hend L vs W wK hE (fun j hk hj=>hR j (wK j hj) (aoX hk))
 intro fuel;induction fuel with
 | zero =>
  intro L vs W listed hsz hL hnd l7 hlen hE hcl hR;have wK:∀j,j<ops.size->j∈L:=fun j hj=>by
   have h0:=aR (Nat.le_zero.1 hlen);have:j∉(List.range ops.size).filter (fun j=>!L.contains j):=by rw[h0];simp
   simpa[hj] using this
  have hmn:m=ops.size:=by
   rcases bJ m ops.size with h|h
   ·have:=l7 m (wK m h);omega
   omega
  have hf:=abI L vs W hnd l7 (fun j hj=>wK j (by omega)) hE hR;rw[bM hmn] at hf;refine⟨?_,hf⟩;rw[List.eq_nil_iff_forall_not_mem];intro j hj;obtain⟨h0,o,ho,_⟩:=mem_ready.1 hj;have:=(hL j (aQ.1 ho).1).2 (wK j (aQ.1 ho).1);rw[this] at h0;cases h0
 | succ fuel ih =>
  intro L vs W listed hsz hL hnd l7 hlen hE hcl hR;refine⟨fun hr=>?_,fun i hi=>?_⟩
  ·have wK:=hall L listed hsz hL (by rw[hr];simp);have hf:=abI L vs W hnd l7 wK hE hR;by_cases hmn:m=ops.size
   ·rw[bM hmn] at hf;exact hf
   exfalso;have hms:m<ops.size:=by omega
   have:m∈Region.ready .any ops listed:=by
    rw[mem_ready];obtain⟨o,ho⟩:∃o,ops[m]?=some o:=⟨ops[m],aY hms⟩
    refine⟨?_,o,ho,fun e he hb=>?_⟩
    ·cases hx:listed.getD m true
     ·rfl
     have:=l7 m ((hL m hms).1 hx);omega
    have hlt:=((hspec m o ho).2.1 e he).1 hb;have:=(hL e.on (by omega)).2 (wK e.on hlt);have hin:e.on<listed.size:=by rw[hsz];omega
    simpa[Array.getD,hin] using this
   rw[hr] at this;simp at this
  obtain⟨h0,o,ho,au8⟩:=mem_ready.1 hi;have GI:i<ops.size:=(aQ.1 ho).1;have yQ:i∉L:=fun h=>by rw[(hL i GI).2 h] at h0;cases h0
  have GK:∀e∈o.after,Region.binds .any e=true->e.on∈L:=fun e he hb=>by
   have h1:=au8 e he hb;have hlt:=((hspec i o ho).2.1 e he).1 hb;have hin:e.on<listed.size:=by rw[hsz];omega
   exact(hL e.on (by omega)).1 (by simpa[Array.getD,hin] using h1)
  have agI:∀j,j<ops.size->((listed.setIfInBounds i true).getD j true=true ↔ j∈L++[i]):=fun j hj=>by
   by_cases hij:i=j
   ·subst hij;simp[hsz,GI]
   rw[getD_set_ne true hij,hL j hj];simp;intro e;exact a40 e.symm hij
  by_cases him:i<m
  ·
   have hnc:∀j∈L,fK ops m j i=false:=fun j hj=>by
    cases hx:fK ops m j i
    ·rfl
    exact a40 (vW hcl m j i hj hx) yQ
   have hg:=hstep i o him ho L vs W yQ hnc hE (fun e he hb=>hR _ (GK e he (((hspec i o ho).2.1 e he).2 hb)) (a4Z ⟨i,him,yQ,by unfold ZJ;rw[ho];exact Array.any_eq_true'.2 ⟨e,he,by simp[hb]⟩⟩)) _ (aj6 hda a m vs);have hex:execOp (fL ops a vs L).eval o=execOp (fL ops a vs (List.range m)).eval o:=by
    refine execOp_congr o (Region.noSelect_spec zP i o · · ho) (fun x hx=>?_);cases x with
    | tmp t =>
     have aDk:t∈o.looksAt ops:=aK _ (List.mem_filterMap.2 ⟨.tmp t,by simpa using hx,rfl⟩);by_cases hex:∃j,j<m/\dU ops j=some t
     ·obtain⟨j,hjm,hj⟩:=hex;obtain⟨e,he,hb,rfl⟩:=(hspec i o ho).2.2.1 him j t hjm hj aDk;have Sh:=GK e he hb;rw[uU hda Sh hj,uU hda (by simpa using l7 _ Sh) hj]
     have h1:∀j,j<m->dU ops j≠some t:=fun j hjm hj=>hex ⟨j,hjm,hj⟩
     rw[yL (fun j Sh=>h1 j (l7 j Sh)),yL (fun j hjr=>h1 j (by simpa using hjr))]
    | const v=>rfl
    | global g=>rfl
    | func f=>rfl
   unfold wpOp;simp only[ho];rw[bM (by unfold Region.wanted;rw[(hspec i o ho).1 him])]
   left
   refine Oper.wp_mono ?_ (hg.wp hex);rintro a' W' ⟨v,rfl,hEW,hE',hRv⟩;have e1:(fL ops a vs L).put o.dst v=fL ops a (upd vs i v) (L++[i]):=by
    rw[Vn,Yg (vs:=upd vs i v) (vs':=vs) (fun j hj=>by unfold upd;rw[bL (fun e=>yQ (by rw[<-e];exact hj))])];simp[upd,dU,ho]
   rw[e1];refine ih (L++[i]) (upd vs i v) W' _ (by simpa using hsz) agI ?_ ?_ ?_ hE' ?_ ?_
   ·rw[List.nodup_append];exact⟨hnd,by simp,fun x hx y hy e=>by simp at hy;subst hy;subst e;exact yQ hx⟩
   ·intro j hj;rcases aN.1 hj with h|h
    ·exact l7 j h
    simp at h;omega
   ·have h1:(List.range ops.size).filter (fun j=>!(L++[i]).contains j)=((List.range ops.size).filter (fun j=>!L.contains j)).filter (fun j=>j != i):=by
     rw[List.filter_filter]
     congr 1
     funext j
     simp only[List.contains_append,Bool.not_or];rw[Bool.and_comm]
     congr 1
     rw[bH];simp[bne]
    have h2:(((List.range ops.size).filter (fun j=>!L.contains j)).filter (fun j=>j != i)).length<((List.range ops.size).filter (fun j=>!L.contains j)).length:=by
     rw[List.length_filter_lt_length_iff_exists];exact⟨i,by simp[GI,yQ],by simp⟩
    rw[h1];omega
   ·intro j hj o' ho' e he hb;rcases aN.1 hj with h|h
    ·exact aK _ (hcl j h o' ho' e he hb)
    simp at h;subst h;rw[ho] at ho';cases ho'
    exact aK _ (GK e he hb)
   intro j hj aq6;rcases aN.1 hj with h|h
   ·have:upd vs i v j=vs j:=by unfold upd;rw[bL (fun e=>yQ (by rw[<-e];exact h))]
    rw[this];have au4:j∈Kp\/∃c,c<m/\c∉L/\ZJ ops c j=true:=aq6.imp id (fun ⟨c,h1,h2,h3⟩=>⟨c,h1,fun hc=>h2 (aK _ hc),h3⟩);refine hRE j i _ W W' (l7 j h) him (fun e=>yQ (e ▸ h)) ?_ (hR j h au4) hEW;unfold mN;rw[aF,Bool.not_eq_true',bG];refine⟨?_,?_⟩
    ·cases hx:fK ops m j i
     ·rfl
     exact a40 (vW hcl m j i h hx) yQ
    rcases aq6 with hk|⟨c,h1,h2,h3⟩
    ·exact aoX (List.contains_iff_mem.2 hk)
    refine a4Z (List.any_eq_true.2 ⟨c,by simpa using h1,?_⟩);rw[h3,Bool.and_true,aF,bne_iff_ne,Bool.not_eq_true'];refine⟨fun e=>by subst e;exact h2 (by simp),?_⟩;cases hx:fK ops m i c
    ·rfl
    exact a40 (aK _ (Fy hcl ho GK m c hx)) h2
   simp at h;subst h;simpa[upd] using hRv
  obtain rfl:i=m:=by omega
  have wK:∀j,j<i->j∈L:=fun j hj=>by
   obtain⟨e,he,hb,rfl⟩:=(hspec i o ho).2.2.2 rfl j hj;exact GK e he hb
  have hf:=abI L vs W hnd l7 wK hE hR;rw[bL (by omega)] at hf;refine wpOp_mono (fun a' W' hq=>?_) hf;refine wpAny_done ?_ hq fuel;rw[List.eq_nil_iff_forall_not_mem];intro j hj;obtain⟨h0',o',ho',_⟩:=mem_ready.1 hj;have hjs:=(aQ.1 ho').1;have:j∈L++[i]:=by
   by_cases hji:j<i
   ·exact aK _ (wK j hji)
   have:j=i:=by omega
   simp[this]
  rw[(agI j hjs).2 this] at h0';cases h0'
theorem kU {id:Nat} {w:World} (hm:P.follows .mixedOrders=true) (hok:af6 ops m=true) (hG:G [] w.drew) (hRE:∀i k v W W',i<m->k<m->i≠k->mN ops m Kp i k=true->R i v W->E k W W'->R i v W')
  (hstep:∀i o,i<m->ops[i]?=some o->∀L vs W,i∉L->(∀j∈L,fK ops m j i=false)->G L W->(∀e∈o.after,abD e=true->R e.on (vs e.on) W)->∀ρ,avU ops a m vs ρ->bQ P o ρ W (fun v W'=>E i W W'/\G (L++[i]) W'/\R i v W'))
  (hend:∀L vs W,(∀j,j<m->j∈L)->G L W->(∀j∈Kp,j<m->R j (vs j) W)->if m=ops.size then Q .normal (fL ops a vs (List.range m)) W else wpOp P ops Q m (fun a w=>Q .normal a w) (fL ops a vs (List.range m)) W) :
  (Code.region id ops true).wp P Q a w:=by
 refine wp_region_any hm ?_;refine as9 Kp G E R hok hRE hstep hend ops.size [] (fun _=>undef) _ _ (by simp) (fun j hj=>?_) List.nodup_nil (fun j hj=>by simp at hj) ?_ hG (fun j hj=>by simp at hj) (fun j hj=>by simp at hj)
 ·simp[hj]
 exact aV (List.length_filter_le _ _) (by simp)
end
section
variable {P:Program} {ops:Array Oper} {Q:Exit->Act->World->Prop} {a:Act} {m:Nat} (Kp:ZN) (G:World->Prop) (E:Nat->World->World->Prop) (R:Nat->Value->World->Prop)
theorem fk {id:Nat} {w:World} (hm:P.follows .mixedOrders=true) (hok:af6 ops m=true) (hG:G w.drew) (hRE:∀i k v W W',i<m->k<m->i≠k->mN ops m Kp i k=true->R i v W->E k W W'->R i v W')
  (hstep:∀i o,i<m->ops[i]?=some o->∀vs W,G W->(∀e∈o.after,abD e=true->R e.on (vs e.on) W)->∀ρ,avU ops a m vs ρ->bQ P o ρ W (fun v W'=>E i W W'/\G W'/\R i v W'))
  (hend:∀vs W,G W->(∀j∈Kp,j<m->R j (vs j) W)->if m=ops.size then Q .normal (fL ops a vs (List.range m)) W else wpOp P ops Q m (fun a w=>Q .normal a w) (fL ops a vs (List.range m)) W) :
  (Code.region id ops true).wp P Q a w :=
 kU Kp (fun _ W=>G W) E R hm hok hG hRE (fun i o hi ho _ vs W _ _=>hstep i o hi ho vs W) (fun _ vs W _=>hend vs W)
end
theorem avU.i {ops : Array Oper} {a : Act} {m : Nat} {vs : Nat -> Value} {ρ : Operand -> Value} (h : avU ops a m vs ρ) (j t : Nat) (h1 : j < m := by omega) (h2 : dU ops j = some t := by rfl) (h3 : Nat.ble (t + 1) a.tmps.size = true := by rfl) : ρ (.tmp t) = vs j := h.ins j t h1 h2 (Nat.le_of_ble_eq_true h3)
theorem jS {t e:TypeId} {z:Value} {size bytes:Nat} (E:uq t e z size bytes) {ρ:Operand->Value} {W:World} {T:Value->World->Prop} {dst:Option Tmp} {ty:TypeId} {pos:String} {after:Array Edge} {guard:Option (Nat×Bool)}
  (s x:Operand) (base:Nat) (v:Value) (n:Nat) (xs:List Value) (hs:ρ s=v) (B m c:Nat) (news:List Value) (hx:ρ x=.slice (some ⟨B,0,none⟩) m c) (hl:news.length=m*size) (h1:∀u∈news,u.oneCell'=true) (hm:0<m) (hn:n+m<=100000000) (hb:bytes<=1000)
  (hown:W.ownsRow base e size v n xs) (hnews:∀j (h:j<news.length),W.cell? ⟨B,j,none⟩=some news[j]) (hbase:base<=W.heap.size)
  (h:∀g cap w',w'.ownsRow base e size (.slice (some ⟨g,0,none⟩) (n+m) cap) (n+m) (xs++news)->W.grownBy w' v.ownBlock->(v.ownBlock=some g\/g=W.heap.size)->g<w'.heap.size->T (.slice (some ⟨g,0,none⟩) (n+m) cap) w') :
  bQ Tryz.prog { dst:=dst,op:=.call { callee:=.builtin .append,args:=#[s,x],argTypes:=#[t,t] },type:=ty,pos:=pos,after:=after,guard:=guard } ρ W T:=by
 obtain⟨i,hi,hz,hsz,hby⟩:=info_parts E.info;obtain⟨g,cap,w',hrun,h2,h3,h4,h5⟩:=run_append_lies (P:=Tryz.prog) W t ty base e i z size bytes E.ht hi hz hsz hby E.hzs E.hsz v n xs hown ⟨B,0,none⟩ m c news hl (by
   intro j u hu;obtain⟨hj,rfl⟩:=List.getElem?_eq_some_iff.1 hu;have:(⟨B,0,none⟩:Addr).add j=⟨B,j,none⟩:=by unfold Addr.add;split<;>simp_all
   rw[this];exact hnews j hj) h1 hm (by simp only[maxLen];omega) (by
   calc (n+m)*bytes<=100000000*1000:=Nat.mul_le_mul hn hb
    _<=140737488355328:=by omega) hbase _ rfl
 unfold bQ;have he:execOp ρ { dst:=dst,op:=.call { callee:=.builtin .append,args:=#[s,x],argTypes:=#[t,t] },type:=ty,pos:=pos,after:=after,guard:=guard }=(do pure (.value (<-Builtin.append_ #[t,t] ty #[v,.slice (some ⟨B,0,none⟩) m c]))):=by
  rw[<-hs,<-hx,BigFrame.execOp_builtin,BigFrame.builtin_append];simp
 rw[he];simp only[Sem.run_bind,hrun];exact h g cap w' h2 h3 h4 h5
theorem alloc_at {w:World} {o:Obj} {n:Nat} (h:n=w.heap.size):(w.alloc o).heap[n]?=some o:=by subst h;exact bR w o
def Tj (o:Oper):Bool:=match o.op with
 | .call c=>(match c.callee with|.builtin .len=>true|.builtin .cap=>true|.builtin .min=>true|.builtin .max=>true|_=>false)
 | .move _|.assign _|.pick ..|.build ..|.load ..|.binOp ..|.unOp ..|.convert ..|.makeInterface ..|.slice ..|.fieldAddr ..|.field ..|.indexAddr ..|.index ..|.lookup ..|.typeAssert ..|.extract ..|.alloc ..|.box ..|.buildSlice ..|.makeSlice ..|.makeMap ..|.makeFunc ..=>true
 | _=>false
theorem auB (s:Sem Value) (P:Program) (W:World) (f:FuncId) (args:Array Value) (W':World):(do pure (.value (<-s)):Sem Next).run P W≠.ok (.enter f args) W':=by
 rw[Sem.run_bind];cases s.run P W<;>simp[Result.andThen,Sem.run_pure]
theorem auC (v:Value) (P:Program) (W:World) (f:FuncId) (args:Array Value) (W':World):(pure (.value v):Sem Next).run P W≠.ok (.enter f args) W':=by
 simp[Sem.run_pure]
theorem ZC {o:Oper} (h:Tj o=true) (ρ:Operand->Value) (P:Program) (W:World) (f:FuncId) (args:Array Value) (W':World):(execOp ρ o).run P W≠.ok (.enter f args) W':=by
 unfold Tj at h;unfold execOp;split at h
 ·rename_i c ho
  simp only[ho];split at h
  all_goals first
   | (cases h;done)
   | (rename_i hc;simp only[resolve,hc,Sem.run_bind,Sem.run_pure,Result.andThen,invoke,builtin];generalize (Sem.run P _ W)=r;cases r<;>simp)
 all_goals first
  | (cases h;done)
  | (rename_i ho;simp only[ho];exact auB _ _ _ _ _ _)
  | (rename_i ho;simp only[ho];exact auC _ _ _ _ _ _)
  | (rename_i ho;simp only[ho];rw[Sem.run_bind];generalize (Sem.run P _ W)=r;cases r<;>simp[Result.andThen,Sem.run_pure])
def WIn (C:World->Prop):={W:World // C W}
def Det (P:Program) (ops:Array Oper) (o:Oper) (A:Act) (W:World) (v:Value) (W':World):Prop :=
 (Region.wanted o (yielded ops A.tmps)=true/\((execOp A.eval o).run P W=.ok (.value v) W'\/((execOp A.eval o).run P W=.ok .skip W'/\v=undef))) \/
 (Region.wanted o (yielded ops A.tmps)=false/\v=undef/\W'=W)
theorem Det.same {P:Program} {ops:Array Oper} {o:Oper} {A:Act} {W:World} {v v2:Value} {W' W2:World} (h:Det P ops o A W v W') (k:Det P ops o A W v2 W2):v=v2/\W'=W2:=by
 unfold Det at h k;rcases h with ⟨h1,h2⟩|⟨h1,h2,h3⟩<;>rcases k with ⟨k1,k2⟩|⟨k1,k2,k3⟩
 ·rcases h2 with h2|⟨h2,h4⟩<;>rcases k2 with k2|⟨k2,k4⟩<;>rw[h2] at k2<;>cases k2
  ·exact⟨rfl,rfl⟩
  exact⟨by rw[h4,k4],rfl⟩
 ·rw[h1] at k1;cases k1
 ·rw[h1] at k1;cases k1
 exact⟨by rw[h2,k2],by rw[h3,k3]⟩
def aaM (P:Program) (ops:Array Oper) (o:Oper) (A:Act) (W:World) (T:Value->World->Prop):Prop :=
 if Region.wanted o (yielded ops A.tmps)=true then bQ P o A.eval W T else T undef W
theorem Det.outs {P:Program} {ops:Array Oper} {o:Oper} {A:Act} {W:World} {v:Value} {W':World} {T:Value->World->Prop} (h:Det P ops o A W v W') (ht:T v W'):aaM P ops o A W T:=by
 unfold aaM;rcases h with ⟨h1,h2⟩|⟨h1,h2,h3⟩
 ·rw[bM h1];unfold bQ;rcases h2 with h2|⟨h2,h4⟩<;>rw[h2]
  ·exact ht
  rw[h4] at ht;exact ht
 rw[h1,bL (by simp),<-h2,<-h3];exact ht
theorem bQ.mono {P:Program} {o:Oper} {ρ:Operand->Value} {W:World} {T T':Value->World->Prop} (h:bQ P o ρ W T) (ht:∀v W',T v W'->T' v W'):bQ P o ρ W T':=by
 unfold bQ at *;split at h
 ·exact ht _ _ h
 ·exact ht _ _ h
 ·refine Calls.mono h (fun e w'' he=>?_);obtain⟨v,hv,hk⟩:=he;exact⟨v,hv,ht _ _ hk⟩
 exact h
theorem aaM.mono {P:Program} {ops:Array Oper} {o:Oper} {A:Act} {W:World} {T T':Value->World->Prop} (h:aaM P ops o A W T) (ht:∀v W',T v W'->T' v W'):aaM P ops o A W T':=by
 unfold aaM at *;split
 ·rename_i hw;rw[bM hw] at h;exact h.mono ht
 rename_i hw;rw[bL hw] at h;exact ht _ _ h
def adA (ops:Array Oper) (m:Nat):Bool :=
 Region.noSelect ops&&decide (m<=ops.size) &&
 ((List.range ops.size).all fun i=>(List.range ops.size).all fun j=>i==j||dU ops i==none||dU ops i != dU ops j) &&
 ((List.range ops.size).all fun i=>match ops[i]? with
  | none=>false
  | some o=>(o.after.all fun e=>!Region.binds .any e||decide (e.on<i)) &&
   (decide (m<=i)||(List.range m).all fun j=>match dU ops j with
    | none=>true
    | some t=>!(o.looksAt ops).contains t||o.after.any (fun e=>Region.binds .any e&&e.on==j)) &&
   (decide (i<m)||(List.range i).all fun j=>o.after.any (fun e=>Region.binds .any e&&e.on==j)))
theorem Jv {ops:Array Oper} {m:Nat} (h:adA ops m=true):Region.noSelect ops=true/\m<=ops.size/\GZ ops /\
  (∀i o,ops[i]?=some o->(∀e∈o.after,Region.binds .any e=true->e.on<i)/\(i<m->∀j t,j<m->dU ops j=some t->t∈o.looksAt ops->∃e∈o.after,Region.binds .any e=true/\e.on=j) /\
   (m<=i->∀j,j<i->∃e∈o.after,Region.binds .any e=true/\e.on=j)):=by
 simp only[adA,aF,aH] at h;obtain⟨⟨⟨h1,h2⟩,h4⟩,h5⟩:=h;refine⟨h1,h2,?_,?_⟩
 ·intro i j d hi hj;have hlt:∀i,dU ops i=some d->i<ops.size:=fun i hi=>by
   unfold dU at hi;rcases bJ i ops.size with h|h
   ·exact h
   rw[Array.getElem?_eq_none h] at hi;simp at hi
  have:=aP.1 (aP.1 h4 i (by simpa using hlt i hi)) j (by simpa using hlt j hj);simpa[hi,hj] using this
 intro i o ho;have h6:=aP.1 h5 i (by simpa using (aQ.1 ho).1);simp only[ho,aF] at h6;obtain⟨⟨g2,g3⟩,g4⟩:=h6;have Qg:∀j,o.after.any (fun e=>Region.binds .any e&&e.on==j)=true->∃e∈o.after,Region.binds .any e=true/\e.on=j:=fun j h=>by
  obtain⟨e,he,hb⟩:=Array.any_eq_true'.1 h;simp only[aF,a47] at hb;exact⟨e,he,hb.1,hb.2⟩
 refine⟨fun e he hb=>?_,fun hm j t hjm hj ht=>?_,fun hm j hj=>?_⟩
 ·have:=Array.all_eq_true_iff_forall_mem.1 g2 e he;rw[hb] at this;simpa using this
 ·rcases Bool.or_eq_true_iff.1 g3 with g|g
  ·simp only[aH] at g;omega
  have:=aP.1 g j (by simpa using hjm);rw[hj] at this;simp only[bG,Bool.not_eq_true'] at this;rcases this with h|h
  ·rw[List.contains_iff_mem.2 ht] at h;cases h
  exact Qg j h
 rcases Bool.or_eq_true_iff.1 g4 with g|g
 ·simp only[aH] at g;omega
 exact Qg j (aP.1 g j (by simpa using hj))
def aJE (ops:Array Oper) (L:ZN):Prop:=∀i∈L,∀o,ops[i]?=some o->∀e∈o.after,Region.binds .any e=true->e.on∈L
section
variable {P:Program} {ops:Array Oper} {Q:Exit->Act->World->Prop} {a:Act} {m:Nat}
theorem as8 (hok:adA ops m=true):∀(r i fuel:Nat) (listed:Array Bool) (a:Act) (w:World),m<=i->i+r=ops.size->r<=fuel->listed.size=ops.size->(∀j,j<ops.size->(listed.getD j true=true ↔ j<i))->wpList P ops Q (ops.toList.drop i) a w->wpAny P .any ops Q fuel listed a w:=by
 obtain⟨-,-,-,hspec⟩:=Jv hok;intro r;induction r with
 | zero =>
  intro i fuel listed a w hmi hir hf hsz hL h;rw[List.drop_eq_nil_of_le (by simp;omega)] at h;refine wpAny_done ?_ h fuel;rw[List.eq_nil_iff_forall_not_mem];intro j hj;obtain⟨h0,o,ho,_⟩:=mem_ready.1 hj;have:=(hL j (aQ.1 ho).1).2 (by have:=(aQ.1 ho).1;omega);rw[this] at h0;cases h0
 | succ r ih =>
  intro i fuel listed a w hmi hir hf hsz hL h;obtain⟨fuel,rfl⟩:∃f,fuel=f+1:=⟨fuel - 1,by omega⟩
  have GI:i<ops.size:=by omega
  have hget:∀j,j<i->listed.getD j false=true:=fun j hj=>by
   have:=(hL j (by omega)).2 hj;have hin:j<listed.size:=by omega
   simpa[Array.getD,hin] using this
  have aDe:i∈Region.ready .any ops listed:=by
   rw[mem_ready];refine⟨?_,ops[i],aY GI,fun e he hb=>hget _ ((hspec i _ (aY GI)).1 e he hb)⟩;cases hx:listed.getD i true
   ·rfl
   have:=(hL i GI).1 hx;omega
  refine⟨fun hr=>by rw[hr] at aDe;simp at aDe,fun j hj=>?_⟩;obtain⟨h0,o,ho,au8⟩:=mem_ready.1 hj;have hjs:=(aQ.1 ho).1;have hge:¬j<i:=fun hlt=>by rw[(hL j hjs).2 hlt] at h0;cases h0
  have hji:j=i:=by
   rcases bJ i j with hlt|hle
   ·obtain⟨e,he,hb,rfl⟩:=(hspec j o ho).2.2 (by omega) i hlt;have h1:=au8 e he hb;have hin:e.on<listed.size:=by omega
    have h2:listed.getD e.on true=true:=by simpa[Array.getD,hin] using h1
    have:=(hL _ GI).1 h2;omega
   omega
  subst hji;have hd:ops.toList.drop j=o::ops.toList.drop (j+1):=by
   rw[List.drop_eq_getElem_cons (by simpa using hjs)]
   congr 1
   have:=(aQ.1 ho).2;simpa using this
  rw[hd] at h;have hnext:∀a' w',wpList P ops Q (ops.toList.drop (j+1)) a' w'->wpAny P .any ops Q fuel (listed.setIfInBounds j true) a' w':=fun a' w' h'=>by
   refine ih (j+1) fuel _ a' w' (by omega) (by omega) (by omega) (by simpa using hsz) (fun q hq=>?_) h';by_cases hjq:j=q
   ·subst hjq;simp[hsz,hjs]
   rw[getD_set_ne true hjq,hL q hq];omega
  unfold wpOp;simp only[ho];unfold wpList at h;split
  ·rename_i hw;rw[bM hw] at h;exact h.imp (Oper.wp_mono hnext) id
  rename_i hw;rw[bL hw] at h;exact hnext _ _ h
theorem ata (G:ZN->(Nat->Value)->World->Prop) (hok:adA ops m=true)
  (hstep:∀i o,i<m->ops[i]?=some o->∀L vs W,i∉L->(∀j∈L,j<m)->aJE ops L->(∀e∈o.after,Region.binds .any e=true->e.on∈L)->G L vs W->aaM P ops o (fL ops a vs L) W (fun v W'=>G (L++[i]) (upd vs i v) W'))
  (hend:∀L vs W,(∀j,j<m->j∈L)->G L vs W->wpList P ops Q (ops.toList.drop m) (fL ops a vs (List.range m)) W) :
  ∀(fuel:Nat) (L:ZN) (vs:Nat->Value) (W:World) (listed:Array Bool),listed.size=ops.size->(∀j,j<ops.size->(listed.getD j true=true ↔ j∈L))->L.Nodup->(∀j∈L,j<m)->((List.range ops.size).filter (fun j=>!L.contains j)).length<=fuel->aJE ops L->G L vs W ->
   wpAny P .any ops Q fuel listed (fL ops a vs L) W:=by
 obtain⟨zP,hm1,hda,hspec⟩:=Jv hok
 have abI:∀(fuel:Nat) (L:ZN) (vs:Nat->Value) (W:World) (listed:Array Bool),listed.size=ops.size->(∀j,j<ops.size->(listed.getD j true=true ↔ j∈L))->L.Nodup->(∀j∈L,j<m)->(∀j,j<m->j∈L)->((List.range ops.size).filter (fun j=>!L.contains j)).length<=fuel->G L vs W->wpAny P .any ops Q fuel listed (fL ops a vs L) W:=by
  intro fuel L vs W listed hsz hL hnd l7 wK hlen hE;have hmem:∀j,j∈L ↔ j<m:=fun j=>⟨l7 j,wK j⟩
  rw[Vo hda (L':=List.range m) ((List.perm_ext_iff_of_nodup hnd List.nodup_range).2 (fun j=>by rw[hmem j,a43]))];refine as8 hok (ops.size - m) m fuel listed _ _ (aU _) (by omega) ?_ hsz (fun j hj=>by rw[hL j hj,hmem]) (hend L vs W wK hE);refine aV ?_ hlen;have h1:(List.range' m (ops.size - m)).Sublist ((List.range ops.size).filter (fun j=>!L.contains j)):=by
   have h2:(List.range' m (ops.size - m))=(List.range' m (ops.size - m)).filter (fun j=>!L.contains j):=by
    rw[List.filter_eq_self.2];intro j hj;have:=List.mem_range'_1.1 hj;simp only[List.contains_eq_mem,Bool.not_eq_true',bI,hmem];omega
   rw[h2];refine List.Sublist.filter _ ?_;rw[List.range_eq_range'];have:List.range' 0 ops.size=List.range' 0 m++List.range' m (ops.size - m):=by
    have:=@List.range'_append 0 m (ops.size - m) 1;simp only[Nat.one_mul,Nat.zero_add] at this;rw[this]
    congr 1
    omega
   rw[this];exact List.sublist_append_right _ _
  have:=h1.length_le;simpa using this
 intro fuel;induction fuel with
 | zero =>
  intro L vs W listed hsz hL hnd l7 hlen hcl hE;refine abI 0 L vs W listed hsz hL hnd l7 (fun j hj=>?_) hlen hE;have h0:=aR (Nat.le_zero.1 hlen);have:j∉(List.range ops.size).filter (fun j=>!L.contains j):=by rw[h0];simp
  have hjs:j<ops.size:=by omega
  simpa[hjs] using this
 | succ fuel ih =>
  intro L vs W listed hsz hL hnd l7 hlen hcl hE;by_cases wK:∀j,j<m->j∈L
  ·exact abI _ L vs W listed hsz hL hnd l7 wK hlen hE
  obtain⟨j0,hj0,hj1,hj2⟩:∃j,j<m/\j∉L/\∀i,i<j->i∈L:=by
   have:∃j,j<m/\j∉L:=by simpa using wK
   obtain⟨j,hj,hn⟩:=this;induction j using Nat.strongRecOn with
   | _ j ihj =>
    by_cases hx:∀i,i<j->i∈L
    ·exact⟨j,hj,hn,hx⟩
    have:∃i,i<j/\i∉L:=by simpa using hx
    obtain⟨i,hi,hin⟩:=this;exact ihj i hi (by omega) hin
  have aDe:j0∈Region.ready .any ops listed:=by
   have hjs:j0<ops.size:=by omega
   rw[mem_ready];refine⟨?_,ops[j0],aY hjs,fun e he hb=>?_⟩
   ·cases hx:listed.getD j0 true
    ·rfl
    exact a40 ((hL j0 hjs).1 hx) hj1
   have hlt:=(hspec j0 _ (aY hjs)).1 e he hb;have:=(hL e.on (by omega)).2 (hj2 _ hlt);have hin:e.on<listed.size:=by omega
   simpa[Array.getD,hin] using this
  refine⟨fun hr=>by rw[hr] at aDe;simp at aDe,fun i hi=>?_⟩;obtain⟨h0,o,ho,au8⟩:=mem_ready.1 hi;have GI:i<ops.size:=(aQ.1 ho).1;have yQ:i∉L:=fun h=>by rw[(hL i GI).2 h] at h0;cases h0
  have GK:∀e∈o.after,Region.binds .any e=true->e.on∈L:=fun e he hb=>by
   have h1:=au8 e he hb;have hlt:=(hspec i o ho).1 e he hb;have hin:e.on<listed.size:=by rw[hsz];omega
   exact(hL e.on (by omega)).1 (by simpa[Array.getD,hin] using h1)
  have him:i<m:=by
   rcases bJ i m with h|h
   ·exact h
   obtain⟨e,he,hb,rfl⟩:=(hspec i o ho).2.2 h j0 (by omega);exact a40 (GK e he hb) hj1
  have TH:∀v W',G (L++[i]) (upd vs i v) W'->wpAny P .any ops Q fuel (listed.setIfInBounds i true) ((fL ops a vs L).put o.dst v) W':=by
   intro v W' hE';have e1:(fL ops a vs L).put o.dst v=fL ops a (upd vs i v) (L++[i]):=by
    rw[Vn,Yg (vs:=upd vs i v) (vs':=vs) (fun j hj=>by unfold upd;rw[bL (fun e=>yQ (by rw[<-e];exact hj))])];simp[upd,dU,ho]
   rw[e1];refine ih (L++[i]) (upd vs i v) W' _ (by simpa using hsz) (fun j hj=>?_) ?_ ?_ ?_ ?_ hE'
   ·by_cases hij:i=j
    ·subst hij;simp[hsz,GI]
    rw[getD_set_ne true hij,hL j hj];simp;intro e;exact a40 e.symm hij
   ·rw[List.nodup_append];exact⟨hnd,by simp,fun x hx y hy e=>by simp at hy;subst hy;subst e;exact yQ hx⟩
   ·intro j hj;rcases aN.1 hj with h|h
    ·exact l7 j h
    simp at h;omega
   ·have h1:(List.range ops.size).filter (fun j=>!(L++[i]).contains j)=((List.range ops.size).filter (fun j=>!L.contains j)).filter (fun j=>j != i):=by
     rw[List.filter_filter]
     congr 1
     funext j
     simp only[List.contains_append,Bool.not_or];rw[Bool.and_comm]
     congr 1
     rw[bH];simp[bne]
    have h2:(((List.range ops.size).filter (fun j=>!L.contains j)).filter (fun j=>j != i)).length<((List.range ops.size).filter (fun j=>!L.contains j)).length:=by
     rw[List.length_filter_lt_length_iff_exists];exact⟨i,by simp[GI,yQ],by simp⟩
    rw[h1];omega
   intro j hj o' ho' e he hb;rcases aN.1 hj with h|h
   ·exact aK _ (hcl j h o' ho' e he hb)
   simp at h;subst h;rw[ho] at ho';cases ho'
   exact aK _ (GK e he hb)
  have hg:=hstep i o him ho L vs W yQ l7 hcl GK hE;unfold wpOp;simp only[ho];unfold aaM at hg;split
  ·rename_i hw
   rw[bM hw] at hg
   left
   refine Oper.wp_mono ?_ (hg.wp rfl);rintro a' W' ⟨v,rfl,hk⟩;exact TH v W' hk
  rename_i hw
  rw[bL hw] at hg;exact TH _ _ hg
end
inductive Tr:Type 1
 | done
 | plain (v:Value) (next:Tr)
 | later (v:Value) (next:Tr)
 | alloc (val:Nat->Value) (F:Nat->World->Prop) (U:Bool) (next:Nat->Tr)
 | call (γ:Type) (val:γ->Value) (Φ:γ->World->Prop) (Ap:γ->Nat->Prop) (next:γ->Tr)
def FU (U:Bool) (F:Nat->World->Prop) (A:Nat->Prop) (g:Nat) (W:World):Prop:=F g W/\(U=true->g<W.heap.size/\A g)
section
variable (P:Program) (ops:Array Oper) (π:Nat->Nat) (Q:Exit->Act->World->Prop) (m:Nat) (Er:World->World->Prop) (C:World->Prop)
def Ok:Tr->Nat->Act->(World->Prop)->(World->Prop)->(Nat->Prop)->ZN->ZN->Prop
 | .done,k,ac,Φ,FA,_,_,_=>k=m/\∀W,C W->Φ W->FA W->wpList P ops Q (ops.toList.drop m) ac W
 | .plain v next,k,ac,Φ,FA,A,gh,pf=>k<m/\(∃o,ops[π k]?=some o/\∀W,C W->Det P ops o ac W v W)/\Ok next (k+1) (ac.put (dU ops (π k)) v) Φ FA A gh pf
 | .later v next,k,ac,Φ,FA,A,gh,pf=>k<m/\gh.all (fun j=>fK ops m (π k) j)=true/\(∃o,ops[π k]?=some o/\∀W,C W->Φ W->FA W->Det P ops o ac W v W)/\Ok next (k+1) (ac.put (dU ops (π k)) v) Φ FA A gh (π k::pf)
 | .alloc val F U next,k,ac,Φ,FA,A,gh,pf=>k<m/\(∃o,ops[π k]?=some o/\∀W,C W->∃g W',Det P ops o ac W (val g) W'/\Ext W W'/\F g W'/\(U=true->W.heap.size<=g/\g<W'.heap.size))/\((∀g W W',Er W W'->F g W->F g W')/\(U=true->∀W W',Er W W'->W.heap.size<=W'.heap.size)) /\
   ∀g,Ok (next g) (k+1) (ac.put (dU ops (π k)) (val g)) Φ (fun W=>FA W/\FU U F A g W) A (π k::gh) pf
 | .call γ val Φ' Ap next,k,ac,Φ,FA,A,gh,pf=>k<m/\gh.all (fun j=>fK ops m (π k) j)=true/\pf.all (fun j=>fK ops m (π k) j)=true /\
   (∃o,ops[π k]?=some o/\∀W,C W->Φ W->FA W->aaM P ops o ac W (fun v W'=>Er W W'/\∃c,v=val c/\Φ' c W'/\∀g,(g<W.heap.size\/W'.heap.size<=g)->Ap c g))/\Nonempty γ/\(∀c W W',Ext W W'->Φ' c W->Φ' c W') /\
   ∀c,Ok (next c) (k+1) (ac.put (dU ops (π k)) (val c)) (Φ' c) FA (fun g=>A g/\Ap c g) (π k::gh) pf
def Inv (L:ZN) (vs:Nat->Value) (W:World):Tr->Bool->Nat->(World->Prop)->(Nat->Prop)->Prop
 | .done,b,_,Φ,_=>b=true->Φ W
 | .plain v next,b,k,Φ,A=>(π k∈L->vs (π k)=v)/\Inv L vs W next b (k+1) Φ A
 | .later v next,b,k,Φ,A=>(π k∈L->vs (π k)=v)/\Inv L vs W next b (k+1) Φ A
 | .alloc val F U next,b,k,Φ,A=>(π k∈L/\∃g,vs (π k)=val g/\FU U F A g W/\Inv L vs W (next g) b (k+1) Φ A)\/(π k∉L/\(U=true->∀g,W.heap.size<=g->A g)/\∀g,Inv L vs W (next g) b (k+1) Φ A)
 | .call _ val Φ' Ap next,b,k,Φ,A=>(b=true/\π k∈L/\∃c,vs (π k)=val c/\Inv L vs W (next c) true (k+1) (Φ' c) (fun g=>A g/\Ap c g))\/(π k∉L/\(b=true->Φ W)/\∀c,Inv L vs W (next c) false (k+1) (Φ' c) A)
end
structure Lin (ops:Array Oper) (m:Nat) (π σ:Nat->Nat):Prop where
 lt:∀k,k<m->π k<m/\σ (π k)=k
 inv:∀i,i<m->σ i<m/\π (σ i)=i
 dep:∀i,i<m->∀o,ops[i]?=some o->∀e∈o.after,Region.binds .any e=true->σ e.on<σ i
section
variable {P:Program} {ops:Array Oper} {π σ:Nat->Nat} {Q:Exit->Act->World->Prop} {m:Nat} {Er:World->World->Prop} {C:World->Prop} {L:ZN} {vs:Nat->Value} {W:World} {a:Act}
theorem Inv.start:∀(t:Tr) (b:Bool) (k:Nat) (Φ:World->Prop) (A:Nat->Prop),(∀g,A g)->(b=true->Φ W)->Inv π [] vs W t b k Φ A:=by
 intro t;induction t with
 | done=>intro b k Φ A _ h;exact h
 | plain v next ih=>intro b k Φ A hA h;exact⟨fun h=>by simp at h,ih b _ _ _ hA h⟩
 | later v next ih=>intro b k Φ A hA h;exact⟨fun h=>by simp at h,ih b _ _ _ hA h⟩
 | alloc val F U next ih=>intro b k Φ A hA h;exact a4Z ⟨by simp,fun _ g _=>hA g,fun g=>ih g b _ _ _ hA h⟩
 | call γ val Φ' Ap next ih=>intro b k Φ A hA h;exact a4Z ⟨by simp,h,fun c=>ih c false _ _ _ hA (fun h=>by cases h)⟩
theorem Dl (hl:Lin ops m π σ) {i k:Nat} (hk:k<m) (h:k≠σ i):π k∈L++[i] ↔ π k∈L:=by
 simp;intro e;exact a40 (by rw[<-e,(hl.lt k hk).2]) h
theorem upd_ne (hl:Lin ops m π σ) {i k:Nat} {v:Value} (hk:k<m) (h:k≠σ i):upd vs i v (π k)=vs (π k):=by
 unfold upd;rw[bL fun e=>h (by rw[<-e,(hl.lt k hk).2])]
theorem Inv.keep (hl:Lin ops m π σ) {i:Nat} {v:Value} {W':World} (hE:Er W W') (hx:Ext W W'):∀(t:Tr) (b:Bool) (k:Nat) (ac:Act) (Φ FA:World->Prop) (A AO:Nat->Prop) (gh pf:ZN),Ok P ops π Q m Er C t k ac Φ FA AO gh pf->(∀W W',Ext W W'->Φ W->Φ W')->σ i<k->Inv π L vs W t b k Φ A->Inv π (L++[i]) (upd vs i v) W' t b k Φ A:=by
 intro t;induction t with
 | done=>intro b k ac Φ FA A AO gh pf _ hs _ h hb;exact hs _ _ hx (h hb)
 | plain u next ih =>
  intro b k ac Φ FA A AO gh pf hok hs hi h;refine⟨fun hk=>?_,ih _ _ _ _ _ _ _ _ _ hok.2.2 hs (by omega) h.2⟩;rw[upd_ne hl hok.1 (by omega)];exact h.1 ((Dl hl hok.1 (by omega)).1 hk)
 | later u next ih =>
  intro b k ac Φ FA A AO gh pf hok hs hi h;refine⟨fun hk=>?_,ih _ _ _ _ _ _ _ _ _ hok.2.2.2 hs (by omega) h.2⟩;rw[upd_ne hl hok.1 (by omega)];exact h.1 ((Dl hl hok.1 (by omega)).1 hk)
 | alloc val F U next ih =>
  intro b k ac Φ FA A AO gh pf hok hs hi h;have hm:=Dl (L:=L) hl hok.1 (show k≠σ i by omega);rcases h with ⟨hk,g,hv,hF,h⟩|⟨hk,hA,h⟩
  ·exact aoX ⟨hm.2 hk,g,by rw[upd_ne hl hok.1 (by omega)];exact hv,⟨hok.2.2.1.1 g _ _ hE hF.1,fun hU=>⟨bF (hF.2 hU).1 hx.size,(hF.2 hU).2⟩⟩,ih g _ _ _ _ _ _ _ _ _ (hok.2.2.2 g) hs (by omega) h⟩
  exact a4Z ⟨fun h'=>hk (hm.1 h'),fun hU g hg=>hA hU g (aV hx.size hg),fun g=>ih g _ _ _ _ _ _ _ _ _ (hok.2.2.2 g) hs (by omega) (h g)⟩
 | call γ val Φ' Ap next ih =>
  intro b k ac Φ FA A AO gh pf hok hs hi h;obtain⟨hkm,-,-,-,-,hst,hn⟩:=hok;have hm:=Dl (L:=L) hl hkm (show k≠σ i by omega);rcases h with ⟨hb,hk,c,hv,h⟩|⟨hk,hp,h⟩
  ·exact aoX ⟨hb,hm.2 hk,c,by rw[upd_ne hl hkm (by omega)];exact hv,ih c _ _ _ _ _ _ _ _ _ (hn c) (hst c) (by omega) h⟩
  exact a4Z ⟨fun h'=>hk (hm.1 h'),fun hb=>hs _ _ hx (hp hb),fun c=>ih c _ _ _ _ _ _ _ _ _ (hn c) (hst c) (by omega) (h c)⟩
theorem Inv.after (hl:Lin ops m π σ) {i:Nat} {v:Value} {W':World} (hE:Er W W'):∀(t:Tr) (b:Bool) (k:Nat) (ac:Act) (Φ FA:World->Prop) (A A' AO:Nat->Prop) (gh pf:ZN),Ok P ops π Q m Er C t k ac Φ FA AO gh pf->(b=true->Φ W')->(∀g,(g<W.heap.size\/W'.heap.size<=g)->A g->A' g)->σ i<k->Inv π L vs W t false k Φ A->Inv π (L++[i]) (upd vs i v) W' t b k Φ A':=by
 intro t;induction t with
 | done=>intro b k ac Φ FA A A' AO gh pf _ hp _ _ h hb;exact hp hb
 | plain u next ih =>
  intro b k ac Φ FA A A' AO gh pf hok hp hA hi h;refine⟨fun hk=>?_,ih _ _ _ _ _ _ _ _ _ _ hok.2.2 hp hA (by omega) h.2⟩;rw[upd_ne hl hok.1 (by omega)];exact h.1 ((Dl hl hok.1 (by omega)).1 hk)
 | later u next ih =>
  intro b k ac Φ FA A A' AO gh pf hok hp hA hi h;refine⟨fun hk=>?_,ih _ _ _ _ _ _ _ _ _ _ hok.2.2.2 hp hA (by omega) h.2⟩;rw[upd_ne hl hok.1 (by omega)];exact h.1 ((Dl hl hok.1 (by omega)).1 hk)
 | alloc val F U next ih =>
  intro b k ac Φ FA A A' AO gh pf hok hp hA hi h;have hm:=Dl (L:=L) hl hok.1 (show k≠σ i by omega);rcases h with ⟨hk,g,hv,hF,h⟩|⟨hk,hU0,h⟩
  ·exact aoX ⟨hm.2 hk,g,by rw[upd_ne hl hok.1 (by omega)];exact hv,⟨hok.2.2.1.1 g _ _ hE hF.1,fun hU=>⟨bF (hF.2 hU).1 (hok.2.2.1.2 hU _ _ hE),hA g (aoX (hF.2 hU).1) (hF.2 hU).2⟩⟩,ih g _ _ _ _ _ _ _ _ _ _ (hok.2.2.2 g) hp hA (by omega) h⟩
  exact a4Z ⟨fun h'=>hk (hm.1 h'),fun hU g hg=>hA g (a4Z hg) (hU0 hU g (aV (hok.2.2.1.2 hU _ _ hE) hg)),fun g=>ih g _ _ _ _ _ _ _ _ _ _ (hok.2.2.2 g) hp hA (by omega) (h g)⟩
 | call γ val Φ' Ap next ih =>
  intro b k ac Φ FA A A' AO gh pf hok hp hA hi h;obtain⟨hkm,-,-,-,-,hst,hn⟩:=hok;have hm:=Dl (L:=L) hl hkm (show k≠σ i by omega);rcases h with ⟨hb,-⟩|⟨hk,-,h⟩
  ·cases hb
  exact a4Z ⟨fun h'=>hk (hm.1 h'),hp,fun c=>ih c _ _ _ _ _ _ _ _ _ _ (hn c) (fun h=>by cases h) hA (by omega) (h c)⟩
theorem Inv.front {i:Nat} (hcl:aJE ops L) (hi:i∉L):∀(t:Tr) (k:Nat) (ac:Act) (Φ FA:World->Prop) (A AO:Nat->Prop) (gh pf:ZN),Ok P ops π Q m Er C t k ac Φ FA AO gh pf->i∈pf->Inv π L vs W t true k Φ A->Φ W:=by
 intro t;induction t with
 | done=>intro k ac Φ FA A AO gh pf _ _ h;exact h rfl
 | plain u next ih=>intro k ac Φ FA A AO gh pf hok hp h;exact ih _ _ _ _ _ _ _ _ hok.2.2 hp h.2
 | later u next ih=>intro k ac Φ FA A AO gh pf hok hp h;exact ih _ _ _ _ _ _ _ _ hok.2.2.2 (aZ _ hp) h.2
 | alloc val F U next ih =>
  intro k ac Φ FA A AO gh pf hok hp h;rcases h with ⟨hk,g,hv,hF,h⟩|⟨hk,-,h⟩
  ·exact ih g _ _ _ _ _ _ _ _ (hok.2.2.2 g) hp h
  exact ih 0 _ _ _ _ _ _ _ _ (hok.2.2.2 0) hp (h 0)
 | call γ val Φ' Ap next ih =>
  intro k ac Φ FA A AO gh pf hok hp h;rcases h with ⟨-,hk,-⟩|⟨-,hp,-⟩
  ·exact a40 (vW hcl m _ i hk (aP.1 hok.2.2.1 i hp)) hi
  exact hp rfl
def Agr (ops:Array Oper) (π:Nat->Nat) (a:Act) (L:ZN) (vs:Nat->Value) (k:Nat) (ac:Act):Prop :=
 ac.tmps.size=a.tmps.size/\∀t,(∀j,j<k->π j∈L->dU ops (π j)=some t->ac.eval (.tmp t)=if t<a.tmps.size then vs (π j) else undef)/\((∀j,j<k->dU ops (π j)≠some t)->ac.eval (.tmp t)=a.eval (.tmp t))
theorem Agr.step (hda:GZ ops) {k:Nat} {ac:Act} (h:Agr ops π a L vs k ac) {v:Value} (hv:π k∈L->vs (π k)=v):Agr ops π a L vs (k+1) (ac.put (dU ops (π k)) v):=by
 refine⟨by rw[afE];exact h.1,fun t=>⟨fun j hj Sh ht=>?_,fun hn=>?_⟩⟩
 ·by_cases hjk:π j=π k
  ·rw[hjk] at Sh ht ⊢;rw[ht,Wa,h.1,hv Sh]
  rw[Act.eval_put (fun d hd e=>by injection e with e;subst e;exact hjk (hda _ _ _ ht hd))];exact(h.2 t).1 j (by have:j≠k:=fun e=>hjk (by rw[e]);omega) Sh ht
 rw[Act.eval_put (fun d hd e=>by injection e with e;subst e;exact hn k (by omega) hd)];exact(h.2 t).2 fun j hj=>hn j (by omega)
theorem alX {o:Oper} {A B:Act} (hs:A.tmps.size=B.tmps.size) (h:∀t∈o.looksAt ops,A.eval (.tmp t)=B.eval (.tmp t)):Region.wanted o (yielded ops A.tmps)=Region.wanted o (yielded ops B.tmps):=by
 unfold Region.wanted;cases hg:o.guard with
 | none=>rfl
 | some gw =>
  obtain⟨j,b⟩:=gw;have:yielded ops A.tmps j=yielded ops B.tmps j:=by
   unfold yielded;cases hd:(ops[j]?).bind (·.dst) with
   | none=>rfl
   | some t =>
    have hl:=h t (by unfold Oper.looksAt;rw[hg];simp[hd]);simp only[Act.eval] at hl;rcases bJ t A.tmps.size with hlt|hge
    ·have hlt2:=hs ▸ hlt;simp only[Array.getD_eq_getD_getElem?,aY hlt,aY hlt2,Option.getD_some] at hl;simp only[Option.bind_some,aY hlt,aY hlt2,hl]
    simp only[Option.bind_some,Array.getElem?_eq_none hge,Array.getElem?_eq_none (hs ▸ hge)]
  simp only[this]
theorem aHq (hok:adA ops m=true) (hl:Lin ops m π σ) (hR:∀W,Er W W) (hXE:∀W W',Ext W W'->Er W W') {i:Nat} {o:Oper} (hi:i<m) (ho:ops[i]?=some o) (yQ:i∉L) (l7:∀j∈L,j<m) (hcl:aJE ops L) (hrd:∀e∈o.after,Region.binds .any e=true->e.on∈L) (hC:C W) :
  ∀(t:Tr) (b:Bool) (k:Nat) (ac:Act) (Φ FA:World->Prop) (A AO:Nat->Prop) (gh pf:ZN),Ok P ops π Q m Er C t k ac Φ FA AO gh pf->(∀W W',Ext W W'->Φ W->Φ W')->Inv π L vs W t b k Φ A->Agr ops π a L vs k ac->((∀j∈gh,j∈L)->FA W/\∀g,A g->AO g)->k<=σ i->(b=false->∃j∈gh,j∉L) ->
   (∃v W',Det P ops o (fL ops a vs L) W v W'/\Ext W W'/\Inv π (L++[i]) (upd vs i v) W' t b k Φ A) \/
   (b=true/\(∀j∈gh,j∈L)/\aaM P ops o (fL ops a vs L) W (fun v W'=>Er W W'/\Inv π (L++[i]) (upd vs i v) W' t b k Φ A)):=by
 obtain⟨zP,hm1,hda,hspec⟩:=Jv hok;have aRk:∀j,fK ops m i j=true->j∈L:=fun j h=>Fy hcl ho hrd m j h
 have hm':∀k,k<m->k<σ i->(π k∈L++[i] ↔ π k∈L):=fun k hk h=>Dl hl hk (by omega)
 have hu:∀v k,k<m->k<σ i->upd vs i v (π k)=vs (π k):=fun v k hk h=>upd_ne hl hk (by omega)
 have hui:∀v,upd vs i v i=v:=fun v=>by simp[upd]
 have hpi:π (σ i)=i:=(hl.inv i hi).2
 have aHP:∀ac,Agr ops π a L vs (σ i) ac->(∀W v W',Det P ops o ac W v W'->Det P ops o (fL ops a vs L) W v W')/\(∀W T,aaM P ops o ac W T->aaM P ops o (fL ops a vs L) W T):=by
  intro ac hag;have hev:∀t∈o.looksAt ops,ac.eval (.tmp t)=(fL ops a vs L).eval (.tmp t):=by
   intro t ht;by_cases hex:∃j,j<m/\dU ops j=some t
   ·obtain⟨j,hjm,hj⟩:=hex;obtain⟨e,he,hb,rfl⟩:=(hspec i o ho).2.1 hi j t hjm hj ht;have Sh:=hrd e he hb;have hlt:=hl.dep i hi o ho e he hb;have hpe:=(hl.inv e.on hjm).2;rw[uU hda Sh hj];have:=(hag.2 t).1 (σ e.on) hlt (by rw[hpe];exact Sh) (by rw[hpe];exact hj);rw[hpe] at this;exact this
   have h1:∀j,j<m->dU ops j≠some t:=fun j hjm hj=>hex ⟨j,hjm,hj⟩
   rw[yL (fun j Sh=>h1 j (l7 j Sh)),(hag.2 t).2 (fun j hj=>h1 _ (hl.lt j (by have:=(hl.inv i hi).1;omega)).1)]
  have aQV:execOp ac.eval o=execOp (fL ops a vs L).eval o:=by
   refine execOp_congr o (Region.noSelect_spec zP i o · · ho) (fun x hx=>?_);cases x with
   | tmp t=>exact hev t (aK _ (List.mem_filterMap.2 ⟨.tmp t,by simpa using hx,rfl⟩))
   | const v=>rfl
   | global g=>rfl
   | func f=>rfl
  have hw:=alX (ops:=ops) (o:=o) (A:=ac) (B:=fL ops a vs L) (by rw[ab9];exact hag.1) hev;exact⟨fun W v W' h=>by unfold Det at *;rw[<-aQV,<-hw];exact h,fun W T h=>by unfold aaM bQ at *;rw[<-aQV,<-hw];exact h⟩
 intro t;induction t with
 | done=>intro b k ac Φ FA A AO gh pf hok;have:=hok.1;have:=(hl.inv i hi).1;intro _ _ _ _ hk;omega
 | plain v next ih =>
  intro b k ac Φ FA A AO gh pf hok hs hinv hag hFA hki hb;obtain⟨hkm,⟨ok,agF,aDs⟩,hnx⟩:=hok;by_cases hk:k=σ i
  ·subst hk;have h1:=hinv.1;rw[hpi,ho] at agF;cases agF;exact aoX ⟨v,W,(aHP ac hag).1 _ _ _ (aDs W hC),Tz W,fun _=>by rw[hpi];exact hui v,Inv.keep hl (hR W) (Tz W) next b _ _ _ _ _ _ _ _ hnx hs (by omega) hinv.2⟩
  rcases ih b (k+1) _ Φ FA A AO gh pf hnx hs hinv.2 (hag.step hda hinv.1) hFA (by omega) hb with ⟨u,W',h1,h2,h3⟩|⟨h1,h2,h3⟩
  ·exact aoX ⟨u,W',h1,h2,fun h=>by rw[hu u k hkm (by omega)];exact hinv.1 ((hm' k hkm (by omega)).1 h),h3⟩
  exact a4Z ⟨h1,h2,h3.mono fun u W' ⟨q1,q2⟩=>⟨q1,fun h=>by rw[hu u k hkm (by omega)];exact hinv.1 ((hm' k hkm (by omega)).1 h),q2⟩⟩
 | later v next ih =>
  intro b k ac Φ FA A AO gh pf hok hs hinv hag hFA hki hb;obtain⟨hkm,hgh,⟨ok,agF,aDs⟩,hnx⟩:=hok;by_cases hk:k=σ i
  ·subst hk;rw[hpi] at hgh;rw[hpi,ho] at agF;cases agF;have azj:∀j∈gh,j∈L:=fun j hj=>aRk j (aP.1 hgh j hj)
   have hbt:b=true:=by
    cases b
    ·obtain⟨j,hj,Sh⟩:=hb rfl;exact a40 (azj j hj) Sh
    rfl
   subst hbt;have hΦ:=Inv.front (Q:=Q) (C:=C) (P:=P) (Er:=Er) hcl yQ next _ _ _ _ _ _ _ _ hnx (by rw[hpi];simp) hinv.2;exact aoX ⟨v,W,(aHP ac hag).1 _ _ _ (aDs W hC hΦ (hFA azj).1),Tz W,fun _=>by rw[hpi];exact hui v,Inv.keep hl (hR W) (Tz W) next _ _ _ _ _ _ _ _ _ hnx hs (by omega) hinv.2⟩
  rcases ih b (k+1) _ Φ FA A AO gh _ hnx hs hinv.2 (hag.step hda hinv.1) hFA (by omega) hb with ⟨u,W',h1,h2,h3⟩|⟨h1,h2,h3⟩
  ·exact aoX ⟨u,W',h1,h2,fun h=>by rw[hu u k hkm (by omega)];exact hinv.1 ((hm' k hkm (by omega)).1 h),h3⟩
  exact a4Z ⟨h1,h2,h3.mono fun u W' ⟨q1,q2⟩=>⟨q1,fun h=>by rw[hu u k hkm (by omega)];exact hinv.1 ((hm' k hkm (by omega)).1 h),q2⟩⟩
 | alloc val F U next ih =>
  intro b k ac Φ FA A AO gh pf hok hs hinv hag hFA hki hb;obtain⟨hkm,⟨ok,agF,aDs⟩,hst,hnx⟩:=hok;by_cases hk:k=σ i
  ·subst hk;rw[hpi,ho] at agF;cases agF;rcases hinv with ⟨hkL,-⟩|⟨-,hA0,hinv⟩
   ·exact a40 (by rw[hpi] at hkL;exact hkL) yQ
   obtain⟨g,W',hd,hx,hF,hg⟩:=aDs W hC;exact aoX ⟨val g,W',(aHP ac hag).1 _ _ _ hd,hx,aoX ⟨by rw[hpi];simp,g,by rw[hpi];exact hui _,⟨hF,fun hU=>⟨(hg hU).2,hA0 hU g (hg hU).1⟩⟩,Inv.keep hl (hXE _ _ hx) hx (next g) b _ _ _ _ _ _ _ _ (hnx g) hs (by omega) (hinv g)⟩⟩
  rcases hinv with ⟨hkL,g,hv,hF,hinv⟩|⟨hkL,hA0,hinv⟩
  ·have hFU:∀W',Er W W'->FU U F A g W':=fun W' h=>⟨hst.1 g _ _ h hF.1,fun hU=>⟨bF (hF.2 hU).1 (hst.2 hU _ _ h),(hF.2 hU).2⟩⟩
   rcases ih g b (k+1) _ Φ _ A AO _ pf (hnx g) hs hinv (hag.step hda (fun _=>hv)) (fun h=>⟨⟨(hFA fun j hj=>h j (aZ _ hj)).1,hF.1,fun hU=>⟨(hF.2 hU).1,(hFA fun j hj=>h j (aZ _ hj)).2 g (hF.2 hU).2⟩⟩,(hFA fun j hj=>h j (aZ _ hj)).2⟩) (by omega) (fun h=>by obtain⟨j,hj,Sh⟩:=hb h;exact⟨j,aZ _ hj,Sh⟩) with ⟨u,W',h1,h2,h3⟩|⟨h1,h2,h3⟩
   ·exact aoX ⟨u,W',h1,h2,aoX ⟨(hm' k hkm (by omega)).2 hkL,g,by rw[hu u k hkm (by omega)];exact hv,hFU _ (hXE _ _ h2),h3⟩⟩
   exact a4Z ⟨h1,fun j hj=>h2 j (aZ _ hj),h3.mono fun u W' ⟨q1,q2⟩=>⟨q1,aoX ⟨(hm' k hkm (by omega)).2 hkL,g,by rw[hu u k hkm (by omega)];exact hv,hFU _ q1,q2⟩⟩⟩
  have hall:∀g,∃v W',Det P ops o (fL ops a vs L) W v W'/\Ext W W'/\Inv π (L++[i]) (upd vs i v) W' (next g) b (k+1) Φ A:=fun g=>by
   rcases ih g b (k+1) _ Φ _ A AO _ pf (hnx g) hs (hinv g) (hag.step hda (fun h=>a40 h hkL)) (fun h=>a40 (h (π k) (by simp)) hkL) (by omega) (fun h=>⟨π k,by simp,hkL⟩) with h|⟨-,h2,-⟩
   ·exact h
   exact a40 (h2 (π k) (by simp)) hkL
  obtain⟨u,W',h1,h2,-⟩:=hall 0;refine aoX ⟨u,W',h1,h2,a4Z ⟨fun h=>hkL ((hm' k hkm (by omega)).1 h),fun hU g hg=>hA0 hU g (aV h2.size hg),fun g=>?_⟩⟩;obtain⟨u2,W2,k1,-,k3⟩:=hall g;obtain⟨rfl,rfl⟩:=h1.same k1;exact k3
 | call γ val Φ' Ap next ih =>
  intro b k ac Φ FA A AO gh pf hok hs hinv hag hFA hki hb;obtain⟨hkm,hgh,hpf,⟨ok,agF,hout⟩,hne,hst,hnx⟩:=hok;by_cases hk:k=σ i
  ·subst hk;rw[hpi] at hgh;rw[hpi,ho] at agF;cases agF;have azj:∀j∈gh,j∈L:=fun j hj=>aRk j (aP.1 hgh j hj)
   have hbt:b=true:=by
    cases b
    ·obtain⟨j,hj,Sh⟩:=hb rfl;exact a40 (azj j hj) Sh
    rfl
   subst hbt;rcases hinv with ⟨-,hkL,-⟩|⟨-,hΦ,hinv⟩
   ·exact a40 (by rw[hpi] at hkL;exact hkL) yQ
   refine a4Z ⟨rfl,azj,((aHP ac hag).2 _ _ (hout W hC (hΦ rfl) (hFA azj).1)).mono ?_⟩;rintro v W' ⟨hE,c,rfl,hΦ',hAp⟩;exact⟨hE,aoX ⟨rfl,by rw[hpi];simp,c,by rw[hpi];exact hui _,Inv.after hl hE (next c) true _ _ _ _ _ _ _ _ _ (hnx c) (fun _=>hΦ') (fun g hg hA=>⟨hA,hAp g hg⟩) (by omega) (hinv c)⟩⟩
  rcases hinv with ⟨hbt,hkL,c,hv,hinv⟩|⟨hkL,hp,hinv⟩
  ·rcases ih c true (k+1) _ (Φ' c) _ _ _ _ pf (hnx c) (hst c) hinv (hag.step hda (fun _=>hv)) (fun h=>⟨(hFA fun j hj=>h j (aZ _ hj)).1,fun g hg=>⟨(hFA fun j hj=>h j (aZ _ hj)).2 g hg.1,hg.2⟩⟩) (by omega) (fun h=>by cases h) with ⟨u,W',h1,h2,h3⟩|⟨h1,h2,h3⟩
   ·exact aoX ⟨u,W',h1,h2,aoX ⟨hbt,(hm' k hkm (by omega)).2 hkL,c,by rw[hu u k hkm (by omega)];exact hv,h3⟩⟩
   exact a4Z ⟨hbt,fun j hj=>h2 j (aZ _ hj),h3.mono fun u W' ⟨q1,q2⟩=>⟨q1,aoX ⟨hbt,(hm' k hkm (by omega)).2 hkL,c,by rw[hu u k hkm (by omega)];exact hv,q2⟩⟩⟩
  have hall:∀c,∃v W',Det P ops o (fL ops a vs L) W v W'/\Ext W W'/\Inv π (L++[i]) (upd vs i v) W' (next c) false (k+1) (Φ' c) A:=fun c=>by
   rcases ih c false (k+1) _ (Φ' c) _ _ _ _ pf (hnx c) (hst c) (hinv c) (hag.step hda (fun h=>a40 h hkL)) (fun h=>a40 (h (π k) (by simp)) hkL) (by omega) (fun _=>⟨π k,by simp,hkL⟩) with h|⟨h1,-⟩
   ·exact h
   cases h1
  obtain⟨c0⟩:=hne;obtain⟨u,W',h1,hx,-⟩:=hall c0;refine aoX ⟨u,W',h1,hx,a4Z ⟨fun h=>hkL ((hm' k hkm (by omega)).1 h),fun hb=>hs _ _ hx (hp hb),fun c=>?_⟩⟩;obtain⟨u2,W2,k1,-,k3⟩:=hall c;obtain⟨rfl,rfl⟩:=h1.same k1;exact k3
theorem Ok.fin (hl:Lin ops m π σ) (hda:GZ ops) (wK:∀j,j<m->j∈L) (hC:C W):∀(t:Tr) (k:Nat) (ac:Act) (Φ FA:World->Prop) (A AO:Nat->Prop) (gh pf:ZN),Ok P ops π Q m Er C t k ac Φ FA AO gh pf->Inv π L vs W t true k Φ A->FA W->(∀g,A g->AO g)->ac=fL ops a vs ((List.range k).map π) ->
  wpList P ops Q (ops.toList.drop m) (fL ops a vs (List.range m)) W:=by
 have hput:∀(k:Nat) (ac:Act) (v:Value),ac=fL ops a vs ((List.range k).map π)->vs (π k)=v->ac.put (dU ops (π k)) v=fL ops a vs ((List.range (k+1)).map π):=fun k ac v h1 h2=>by
  rw[List.range_succ,List.map_append,List.map_singleton,Vn,h1,h2]
 have hperm:fL ops a vs ((List.range m).map π)=fL ops a vs (List.range m):=by
  refine Vo hda ((List.perm_ext_iff_of_nodup ?_ List.nodup_range).2 fun j=>?_)
  ·unfold List.Nodup;rw[List.pairwise_map];refine List.Pairwise.imp_of_mem (fun {x y} hx hy hxy e=>hxy ?_) (List.nodup_range (n:=m));have h1:=(hl.lt x (a43.1 hx)).2;have h2:=(hl.lt y (a43.1 hy)).2;rw[<-h1,e,h2]
  rw[List.mem_map,a43];constructor
  ·rintro⟨k,hk,rfl⟩;exact(hl.lt k (a43.1 hk)).1
  intro hj;exact⟨σ j,a43.2 (hl.inv j hj).1,(hl.inv j hj).2⟩
 intro t;induction t with
 | done=>intro k ac Φ FA A AO gh pf hok hinv hFA _ he;obtain⟨rfl,hok⟩:=hok;rw[he,hperm] at hok;exact hok W hC (hinv rfl) hFA
 | plain v next ih=>intro k ac Φ FA A AO gh pf hok hinv hFA hA he;exact ih _ _ _ _ _ _ _ _ hok.2.2 hinv.2 hFA hA (hput k ac v he (hinv.1 (wK _ (hl.lt k hok.1).1)))
 | later v next ih=>intro k ac Φ FA A AO gh pf hok hinv hFA hA he;exact ih _ _ _ _ _ _ _ _ hok.2.2.2 hinv.2 hFA hA (hput k ac v he (hinv.1 (wK _ (hl.lt k hok.1).1)))
 | alloc val F U next ih =>
  intro k ac Φ FA A AO gh pf hok hinv hFA hA he;rcases hinv with ⟨hk,g,hv,hF,hinv⟩|⟨hk,-⟩
  ·exact ih g _ _ _ _ _ _ _ _ (hok.2.2.2 g) hinv ⟨hFA,hF.1,fun hU=>⟨(hF.2 hU).1,hA g (hF.2 hU).2⟩⟩ hA (hput k ac _ he hv)
  exact a40 (wK _ (hl.lt k hok.1).1) hk
 | call γ val Φ' Ap next ih =>
  intro k ac Φ FA A AO gh pf hok hinv hFA hA he;obtain⟨hkm,-,-,-,-,-,hnx⟩:=hok;rcases hinv with ⟨-,hk,c,hv,hinv⟩|⟨hk,-⟩
  ·exact ih c _ _ _ _ _ _ _ _ (hnx c) hinv hFA (fun g hg=>⟨hA g hg.1,hg.2⟩) (hput k ac _ he hv)
  exact a40 (wK _ (hl.lt k hkm).1) hk
theorem VU {id:Nat} {w:World} (hm:P.follows .mixedOrders=true) (hok:adA ops m=true) (hl:Lin ops m π σ) (hR:∀W,Er W W) (hXE:∀W W',Ext W W'->Er W W') (hCE:∀W W',C W->Er W W'->C W') {Φ:World->Prop} (hC:C w.drew) (hΦ:Φ w.drew) (hs:∀W W',Ext W W'->Φ W->Φ W')
  (h:∃t,Ok P ops π Q m Er C t 0 a Φ (fun _=>True) (fun _=>True) [] []):(Code.region id ops true).wp P Q a w:=by
 obtain⟨t,ht⟩:=h;refine wp_region_any hm ?_;refine ata (m:=m) (fun L vs W=>C W/\Inv π L vs W t true 0 Φ (fun _=>True)) hok ?_ ?_ ops.size [] (fun _=>undef) _ _ (by simp) (fun j hj=>?_) List.nodup_nil (fun j hj=>by simp at hj) ?_ (fun j hj=>by simp at hj) ⟨hC,Inv.start t true 0 Φ _ (fun _=>trivial) fun _=>hΦ⟩
 ·intro i o hi ho L vs W yQ l7 hcl hrd ⟨hC,hinv⟩;rcases aHq (Q:=Q) hok hl hR hXE hi ho yQ l7 hcl hrd hC t true 0 a Φ _ _ _ [] [] ht hs hinv ⟨rfl,fun t=>⟨fun j hj=>a40 hj (by omega),fun _=>rfl⟩⟩ (fun _=>⟨trivial,fun _ h=>h⟩) (by omega) (fun h=>by cases h) with ⟨v,W',h1,h2,h3⟩|⟨-,-,h3⟩
  ·exact h1.outs ⟨hCE _ _ hC (hXE _ _ h2),h3⟩
  exact h3.mono fun v W' ⟨q1,q2⟩=>⟨hCE _ _ hC q1,q2⟩
 ·intro L vs W wK ⟨hC,hinv⟩;exact Ok.fin hl (Jv hok).2.2.1 wK hC t 0 a Φ _ _ _ [] [] ht hinv trivial (fun _ h=>h) rfl
 ·simp[hj]
 exact aV (List.length_filter_le _ _) (by simp)
end
theorem aLu {ops:Array Oper} {m:Nat} (hok:adA ops m=true):Lin ops m (fun k=>k) (fun k=>k) :=
 ⟨fun _ h=>⟨h,rfl⟩,fun _ h=>⟨h,rfl⟩,fun i _ o ho e he hb=>((Jv hok).2.2.2 i o ho).1 e he hb⟩
def aLv (ops:Array Oper) (m:Nat) (p s:ZN):Bool :=
 (p.length==m)&&((List.range m).all fun k=>decide (p.getD k k<m)&&(s.getD (p.getD k k) 0==k)&&decide (s.getD k 0<m)&&(p.getD (s.getD k 0) (s.getD k 0)==k)) &&
 ((List.range m).all fun i=>match ops[i]? with|none=>true|some o=>o.after.all fun e=>!Region.binds .any e||decide (s.getD e.on 0<s.getD i 0))
theorem aLt {ops:Array Oper} {m:Nat} {p s:ZN} (h:aLv ops m p s=true):Lin ops m (fun k=>p.getD k k) (fun k=>s.getD k 0)/\p.length=m:=by
 simp only[aLv,aF,aP,a43,aH,a47] at h;obtain⟨⟨h0,h1⟩,h2⟩:=h;refine⟨⟨fun k hk=>⟨(h1 k hk).1.1.1,(h1 k hk).1.1.2⟩,fun i hi=>⟨(h1 i hi).1.2,(h1 i hi).2⟩,fun i hi o ho e he hb=>?_⟩,h0⟩;have:=h2 i hi;rw[ho] at this;have:=Array.all_eq_true_iff_forall_mem.1 this e he;rw[hb] at this;simpa using this
end Go.Proofs.YtefjomofjejklaaGreatDoor
