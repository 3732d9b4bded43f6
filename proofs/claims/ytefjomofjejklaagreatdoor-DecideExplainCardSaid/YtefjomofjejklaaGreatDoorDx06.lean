/-
  Texts of the claim, joined: Ref3, Ref4, Names1, Ord1, Spec10, Exp1, RIdx, RSch.
-/
import Derived.Test.YtefjomofjejklaaGreatDoorDx05
import Derived.Maps.OwnSet
import Derived.Sort.KeysCollected
import Derived.Deep.DeepCutAuto
namespace Go.Proofs.YtefjomofjejklaaGreatDoor
set_option maxRecDepth 100000
set_option maxHeartbeats 32000000
open Go.RowKit
def OZ (op:Int) (name:BA) (words:ZB) (lo hi:Int) (na nw:Nat):Bool :=
 decide (1<=op/\op<=8)&&(if op==3||op==4||op==5 then nameB name else name.toList.isEmpty)&&(if op==4 then decide (1<=nw)&&decide (nw<=12)&&words.all nameB&&decide words.Nodup else decide (nw=0)) &&
 (if op==5 then kL lo&&kL hi&&decide (lo<=hi) else (lo==0)&&(hi==0))&&(if op==6 then decide (na=1) else if op==7||op==8 then decide (2<=na) else decide (na=0))
def Au (e:Ex):Bool:=OZ e.op e.name e.words e.lo e.hi e.args.length e.words.length
theorem avE (n:Nat):((n:Int)==0)=decide (n=0):=by rw[bW];simp
theorem aHg (n:Nat):((n:Int)==1)=decide (n=1):=by rw[bW];simp;omega
theorem auu (e:Ex) (v:Value) (w:World) (he:fC w e v) (hs:e.name.size<=1000000000000000) (hws:∀x∈e.words,x.size<=1000000000000000) (hnw:e.words.length<=1000000000000000) :
  Calls Tryz.prog 177 #[v] w (dN (.bool (Au e)) w):=by
 obtain⟨aw,nw,cw,aa,na,ca,rfl,hw,hna,hca,ha,hx⟩:=he.parts;clear he hx ha hca;have HW:=ak hw;have HS:=ak hws;have aUC:nw<=1000000000000000:=by have:=hw.1;omega
 have HB:=ak (show Au e=OZ e.op e.name e.words e.lo e.hi na nw by unfold Au;rw[hna,hw.1]);generalize Au e=B at *;clear hw hws hna hnw;obtain⟨op,name,words,lo,hi,args⟩:=e;simp only[Ex.op,Ex.name,Ex.words,Ex.lo,Ex.hi] at *;unfold exV;by_cases h1:1<=op
 ·by_cases h8:op<=8
  ·have hk:op=1\/op=2\/op=3\/op=4\/op=5\/op=6\/op=7\/op=8:=by omega
   clear h1 h8;rcases hk with rfl|rfl|rfl|rfl|rfl|rfl|rfl|rfl
   case inr.inr.inr.inl =>
    obtain⟨P,hP⟩:∃P,P=words.all nameB:=⟨_,rfl⟩
    obtain⟨Q,hQ⟩:∃Q,Q=decide words.Nodup:=⟨_,rfl⟩
    have HP:=ak hP;have HQ:=ak hQ;have HB2:=ak (show B=(nameB name&&(decide (1<=nw)&&decide (nw<=12)&&P&&Q)&&((lo==0)&&(hi==0))&&decide (na=0)) by rw[HB.o];unfold OZ;rw[hP,hQ];simp);clear hP hQ HB;cases P
    all_goals cases Q
    all_goals
     by_cases hn1:1<=nw
     ·by_cases hn2:nw<=12
      ·have t1:decide ((nw:Int)<1)=false:=by simp;omega
       have t2:decide ((12:Int)<nw)=false:=by simp;omega
       have HB3:=ak HB2.o;simp only[hn1,hn2,decide_true,Bool.false_and,Bool.and_false,Bool.and_true] at HB3;clear HB2;go_enter Tryz.func177,Tryz.ntmps177
       go_wp2_with (first
        | (go_at_call 118;refine(rQ _ _ hs).mono ?_;rintro e w' ⟨rfl,rfl⟩)
        | (go_at_call 152;refine(Nj words _ _ _ _ (HW.o.ext ((Ext.refl w).alloc _)) aUC HS.o).mono ?_;rintro e w' ⟨rfl,rfl⟩;rw[<-HP.o])
        | (go_at_call 153;refine(JI words _ _ _ _ (HW.o.ext ((Ext.refl w).alloc _)) aUC).mono ?_;rintro e w' ⟨rfl,q,rfl⟩;rw[<-HQ.o]))
       all_goals (go_ret;exact dL (by first|(rw[HB3.o];done)|(rw[HB3.o];simp_all [avE])) (by first|exact(Ext.refl w).alloc _|exact((Ext.refl w).alloc _).drewN _))
      have t1:decide ((nw:Int)<1)=false:=by simp;omega
      have t2:decide ((12:Int)<nw)=true:=by simp;omega
      have HF:=ak (show B=false by rw[HB2.o];simp[hn2]);clear HB2;go_enter Tryz.func177,Tryz.ntmps177
      go_wp2_with (go_at_call 118;refine(rQ _ _ hs).mono ?_;rintro e w' ⟨rfl,rfl⟩)
      all_goals (go_ret;exact dL (by rw[HF.o]) ((Ext.refl w).alloc _))
     have t1:decide ((nw:Int)<1)=true:=by simp;omega
     have HF:=ak (show B=false by rw[HB2.o];simp[hn1]);clear HB2;go_enter Tryz.func177,Tryz.ntmps177
     go_wp2_with (go_at_call 118;refine(rQ _ _ hs).mono ?_;rintro e w' ⟨rfl,rfl⟩)
     all_goals (go_ret;exact dL (by rw[HF.o]) ((Ext.refl w).alloc _))
   all_goals
    go_enter Tryz.func177,Tryz.ntmps177
    go_wp2_with (first
     | (go_at_call 118;refine(rQ _ _ hs).mono ?_;rintro e w' ⟨rfl,rfl⟩)
     | (go_at_call 154;refine(abQ _ _).mono ?_;rintro e w' ⟨rfl,rfl⟩))
    all_goals (go_ret;exact dL (by rw[HB.o];simp_all [OZ,avE,aHg];try omega) ((Ext.refl w).alloc _))
  have H:=ak (show B=false by rw[HB.o];simp[OZ,h8]);have t1:decide (op<1)=false:=by simp;omega
  have t2:decide (8<op)=true:=by simp;omega
  have e3:(op==3)=false:=by simp;omega
  have e4:(op==4)=false:=by simp;omega
  have e5:(op==5)=false:=by simp;omega
  go_enter Tryz.func177,Tryz.ntmps177
  go_wp2_with fail
  go_ret;exact dL (by rw[H.o]) ((Ext.refl w).alloc _)
 have H:=ak (show B=false by rw[HB.o];simp[OZ,h1]);have t1:decide (op<1)=true:=by simp;omega
 have e3:(op==3)=false:=by simp;omega
 have e4:(op==4)=false:=by simp;omega
 have e5:(op==5)=false:=by simp;omega
 go_enter Tryz.func177,Tryz.ntmps177
 go_wp2_with fail
 go_ret;exact dL (by rw[H.o]) ((Ext.refl w).alloc _)
mutual
def Gt:Ex->Bool
 | .mk op name words lo hi args=>Au (.mk op name words lo hi args)&&nodesAll args
def nodesAll:List Ex->Bool
 | []=>true
 | e::r=>Gt e&&nodesAll r
end
theorem aoT (e:Ex):Gt e=(Au e&&nodesAll e.args):=by cases e;rw[Gt];rfl
theorem Xw (l:List Ex):nodesAll l=true ↔ ∀j (h:j<l.length),Gt l[j]=true:=by
 induction l with
 | nil=>simp[nodesAll]
 | cons e r ih =>
  rw[nodesAll,aJ,ih];constructor
  ·rintro⟨h1,h2⟩ j hj;cases j with
   | zero=>exact h1
   | succ j=>exact h2 j (by simpa using hj)
  intro h;exact⟨h 0 (by simp),fun j hj=>h (j+1) (by simpa using hj)⟩
mutual
def Ex.few:Ex->Prop
 | .mk _ _ words _ _ args=>words.length<=1000000000000000/\qM args
def qM:List Ex->Prop
 | []=>True
 | e::r=>e.few/\qM r
end
theorem LD:(l:List Ex)->qM l->(k:Nat)->(hk:k<l.length)->l[k].few
 | [],_,k,hk=>by simp at hk
 | e::r,h,0,_=>by unfold qM at h;exact h.1
 | e::r,h,k+1,hk=>by unfold qM at h;simpa using LD r h.2 k (by simpa using hk)
theorem wK {e:Ex} (h:e.few):e.words.length<=1000000000000000/\qM e.args:=by
 cases e;unfold Ex.few at h;exact h
theorem ava (m:Nat):∀(e:Ex) (v:Value) (w:World),e.size<=m->m<=1000000000000000->e.fits->e.few->fC w e v->Calls Tryz.prog 157 #[v] w (dN (.bool (Gt e)) w):=by
 induction m with
 | zero=>intro e v w h;have:=size_pos e;omega
 | succ m ih =>
  intro e v w hm YJ hf hw2 he;have HE:=ak he;obtain⟨aw,nw,cw,aa,na,ca,rfl,hw,hna,hca,ha,hx⟩:=he.parts;have HX:=ak hx;have HN:=ak hna;have HF:=ak (vG hf);have HW:=ak (wK hw2);have hS:e.size=1+sizes e.args:=e.size_eq;have hb2:sizes e.args<=m:=by omega
  have hla:=iI e.args;have H:aA (∀(e:Ex) (v:Value) (w:World),e.size<=m->e.fits->e.few->fC w e v->Calls Tryz.prog 157 #[v] w (dN (.bool (Gt e)) w)):=fun e v w h1 h2 h3 h4=>ih e v w h1 (by omega) h2 h3 h4
  have HQ:=ak (aoT e);generalize Gt e=B at *;clear ih hx hna hw hca ha he hS hm hf hw2;have HNC:=ak (auu e _ (w.alloc (.cells (aC e.op e.name aw nw cw e.lo e.hi aa na ca) 45)) (HE.o.ext ((Ext.refl w).alloc _)) HF.o.1 HF.o.2.1 HW.o.1);unfold exV at *;cases afb:Au e
  ·have HND:=ak afb;have H1:=ak (show B=false by rw[HQ.o,afb];rfl);clear afb;go_enter Tryz.func157,Tryz.ntmps157
   go_wp2_with fail
   refine HNC.o.mono ?_;rintro r w1 ⟨rfl,hx1⟩;rw[HND.o];have fQ:=ak (((Ext.refl w).alloc _).trans hx1);clear hx1;go_wp2_with fail
   go_ret;exact dL (by rw[H1.o]) fQ.o
  have HND:=ak afb;have HQ2:=ak (show B=nodesAll e.args by rw[HQ.o,afb];rfl);clear afb;go_enter Tryz.func157,Tryz.ntmps157
  go_wp2_with fail
  refine HNC.o.mono ?_;rintro r w1 ⟨rfl,hx1⟩;rw[HND.o];have an5:=ak (hx1.blk (dG w _));have fQ:=ak (((Ext.refl w).alloc _).trans hx1);clear hx1;go_wp2_with fail
  go_loopw [3] (fun i wr=>∃k:Nat,k<=na/\i=.int .i64 k/\(∀j (hj:j<e.args.length),j<k->Gt e.args[j]=true)/\wr.heap[w.heap.size]?=some (.cells (aC e.op e.name aw nw cw e.lo e.hi aa na ca) 45 (0,0))/\Ext w wr) (fun i _=>na - (intOf i).toNat)
  case atStart=>exact⟨0,by omega,rfl,fun j _ h=>by omega,an5.o,fQ.o⟩
  case round =>
   obtain⟨k,hk,rfl,hall,hbx,hb⟩:=hrel;have HA:=ak hall;have lV:=ak hbx;have HB:=ak hb;have hlt0:=dH hbx;obtain⟨b0,b1,b2,b3,b4,b5,bf⟩:=eP hbx;clear hbx hb hall;by_cases hlt:k<na
   ·have hlt':k<e.args.length:=by have:=HN.o;omega
    obtain⟨b,off,rfl,rJ,rF,rH,rM,rG,ca1,h0,h1,h2,h3,h4,h5,h6⟩:=iK.at e.args _ (iK.ext HB.o e.args _ HX.o) k hlt';have H6:=ak h6;have hsz:=iq e.args k hlt';have hsl:=gV e.args (k+1);have hk1:e.args[k].size<=m:=by omega
    clear h6 hsz hsl;go_wp2_with fail
    refine(H.o e.args[k] _ _ hk1 (XT _ HF.o.2.2 k hlt') (LD _ HW.o.2 k hlt') H6.o).mono ?_;rintro r w2 ⟨rfl,hb1⟩;have yS:=ak hb1;clear b0 b1 b2 b3 b4 b5 bf hb1;cases hdp:Gt e.args[k]
    ·have H1:=ak (show B=false by
      rw[HQ2.o];cases hz:nodesAll e.args
      ·rfl
      have:=(Xw _).1 hz k hlt';rw[hdp] at this;cases this)
     clear hdp;go_wp2_with fail
     go_ret;exact dL (by rw[H1.o]) (HB.o.trans yS.o)
    have a2M:=ak hdp;clear hdp;go_wp2_with fail
    go_roundw
    case rel =>
     refine⟨k+1,by omega,by go_num,fun j hj hjk=>?_,yS.o.blk lV.o,HB.o.trans yS.o⟩;by_cases ej:j=k
     ·subst ej;exact a2M.o
     exact HA.o j hj (by omega)
    case measure=>simp[intOf];omega
   have H1:=ak (show B=true by rw[HQ2.o];exact(Xw _).2 (fun j hj=>HA.o j hj (by have:=HN.o;omega)));go_wp2_with fail
   go_ret;exact dL (by rw[H1.o]) HB.o
def iL (e:Ex):Bool:=!decide (16<e.depth)&&decide (gZ e<=300)&&Gt e
theorem QE (e:Ex) (v:Value) (w:World) (he:fC w e v) (hsz:e.Ar) (hf:e.fits) (hw:e.few):Calls Tryz.prog 120 #[v] w (dN (.bool (iL e)) w):=by
 have HE:=ak he;have HF:=ak hf;have HW:=ak hw;have HQ:=ak (show iL e=(!decide (16<e.depth)&&decide (gZ e<=300)&&Gt e) from rfl);generalize iL e=B at *;obtain⟨aw,nw,cw,aa,na,ca,rfl,-⟩:=he.parts;have zN:=ak hsz;clear he hf hw hsz;have HA:=ak (fun W (h:Ext (w.alloc (.cells (aC e.op e.name aw nw cw e.lo e.hi aa na ca) 45)) W)=>((Ext.refl w).alloc _).trans h);have GL:=ak (dG w (.cells (aC e.op e.name aw nw cw e.lo e.hi aa na ca) 45));unfold exV at *;go_enter Tryz.func120,Tryz.ntmps120
 go_wp2_with fail
 refine(ah2 e.size e _ _ 16 (bg _) zN.o (by omega) (HE.o.ext ((Ext.refl w).alloc _))).mono ?_;rintro r w1 ⟨rfl,hx1⟩;have fQ:=ak (HA.o _ hx1);have hb1:=hx1.blk GL.o;have HB1:=ak hb1;have hz1:=dH hb1;obtain⟨b0,b1,b2,b3,b4,b5,bf⟩:=eP hb1;clear hx1 hb1 HA;by_cases hd:16<e.depth
 ·rw[dB hd];have H1:=ak (show B=false by rw[HQ.o];simp[hd]);clear hd;go_wp2_with fail
  go_ret;exact dL (by rw[H1.o]) fQ.o
 rw[dD hd];have HD:=ak hd;clear hd;go_wp2_with fail
 refine(Bo e.size e _ _ (bg _) (HE.o.ext fQ.o)).mono ?_;rintro r w2 ⟨rfl,hx2⟩;have gI:=ak (fQ.o.trans hx2);have hb2:=hx2.blk HB1.o;have hz2:=dH hb2;clear b0 b1 b2 b3 b4 b5 bf hx2;obtain⟨b0,b1,b2,b3,b4,b5,bf⟩:=eP hb2;clear hb2;by_cases hs:gZ e<=300
 ·have t1:decide ((gZ e:Int)<=300)=true:=by simp;omega
  have HS:=ak hs;have HZ:=ak (show e.size<=1000000000000000 by unfold gZ at hs;omega);clear hs;go_wp2_with fail
  refine(ava e.size e _ _ (bg _) HZ.o HF.o HW.o (HE.o.ext gI.o)).mono ?_;rintro r w3 ⟨rfl,hx3⟩;have gU:=ak (gI.o.trans hx3);clear b0 b1 b2 b3 b4 b5 bf hx3;go_wp2_with fail
  go_ret;exact dL (by rw[HQ.o];simp[HD.o,HS.o]) gU.o
 have t1:decide ((gZ e:Int)<=300)=false:=by simp;omega
 have H1:=ak (show B=false by rw[HQ.o];simp[hs]);clear hs;go_wp2_with fail
 go_ret;exact dL (by rw[H1.o]) gI.o
open Go.RowKit Go.Maps
mutual
def jo:Ex->ZB
 | .mk op name _ _ _ args=>(if op=3 then [name] else [])++kH args
def kH:List Ex->ZB
 | []=>[]
 | e::r=>jo e++kH r
end
theorem aoV (e:Ex):jo e=(if e.op=3 then [e.name] else [])++kH e.args:=by cases e;rw[jo];rfl
theorem avb (l:List Ex) (e:Ex):kH (l++[e])=kH l++jo e:=by
 induction l with
 | nil=>simp[kH]
 | cons a r ih=>simp[kH,ih]
theorem ahI (l:List Ex) (k:Nat) (h:k<l.length):kH (l.take (k+1))=kH (l.take k)++jo l[k]:=by
 rw[aU h,avb]
def ap6 (D:DataW Unit) (l:ZB):Prop:=∃es,D=.map es/\(∀p∈es,∃s,p.1=.string s)/\(strKeys D).Nodup/\∀s,s∈strKeys D ↔ ∃x∈l,x.data.toList=s
theorem aCq:ap6 (.map []) []:=⟨[],rfl,by simp,by simp[strKeys],by simp[strKeys]⟩
theorem insert_perm {H:Type} (x:Lit×DataW H):(l:List (Lit×DataW H))->(DataW.insert x l).Perm (x::l)
 | []=>List.Perm.refl _
 | y::r=>by
  rw[DataW.insert];split
  ·exact List.Perm.refl _
  exact((insert_perm x r).cons y).trans (List.Perm.swap x y r)
theorem ap6.put {D:DataW Unit} {l:ZB} (h:ap6 D l) (x:BA) (d:DataW Unit):ap6 (D.put (.string x.data.toList) d) (l++[x]):=by
 obtain⟨es,rfl,hs,hn,hm⟩:=h;have hp:=insert_perm ((.string x.data.toList,d):Lit×DataW Unit) (es.filter fun p=>!p.1.sameKey (.string x.data.toList));have hk:(strKeys (DataW.put (.map es) (.string x.data.toList) d)).Perm (x.data.toList::strKeys (H:=Unit) (.map (es.filter fun p=>!p.1.sameKey (.string x.data.toList)))):=by
  simp only[DataW.put,strKeys];exact hp.map _
 have hf:∀s,s∈strKeys (H:=Unit) (.map (es.filter fun p=>!p.1.sameKey (.string x.data.toList))) ↔ s∈strKeys (H:=Unit) (.map es)/\s≠x.data.toList:=by
  intro s;simp only[strKeys,List.mem_map,List.mem_filter];constructor
  ·rintro⟨p,⟨h1,h2⟩,rfl⟩;obtain⟨t,ht⟩:=hs p h1;refine⟨⟨p,h1,rfl⟩,fun e=>?_⟩;rw[ht] at h2 e;simp only[strOf] at e;subst e;simp[Lit.sameKey] at h2
  rintro⟨⟨p,h1,rfl⟩,h2⟩;obtain⟨t,ht⟩:=hs p h1;refine⟨p,⟨h1,?_⟩,rfl⟩;rw[ht] at h2 ⊢;simp only[strOf] at h2;simpa[Lit.sameKey] using h2
 refine⟨_,rfl,fun p hp'=>?_,?_,fun s=>?_⟩
 ·have:=hp.mem_iff.1 hp';rcases bK.1 this with rfl|h1
  ·exact⟨_,rfl⟩
  exact hs p (List.mem_filter.1 h1).1
 ·rw[hk.nodup_iff,List.nodup_cons];refine⟨fun h=>((hf _).1 h).2 rfl,?_⟩;have:(strKeys (H:=Unit) (.map (es.filter fun p=>!p.1.sameKey (.string x.data.toList)))).Sublist (strKeys (H:=Unit) (.map es)):=by
   simp only[strKeys];exact(List.filter_sublist).map _
  exact hn.sublist this
 rw[hk.mem_iff,bK,hf,hm];constructor
 ·rintro(rfl|⟨⟨y,h1,h2⟩,_⟩)
  ·exact⟨x,by simp,rfl⟩
  exact⟨y,by simp[h1],h2⟩
 rintro⟨y,h1,rfl⟩;rcases aT.1 h1 with h1|h1
 ·by_cases e:y.data.toList=x.data.toList
  ·exact Or.inl e
  exact Or.inr ⟨⟨y,h1,rfl⟩,e⟩
 rw[aK.1 h1];exact Or.inl rfl
def CS (s:BA):ZB->ZB
 | []=>[s]
 | x::r=>if s.toList<x.toList then s::x::r else if s.toList=x.toList then x::r else x::CS s r
def lQ (l:ZB):ZB:=l.foldl (fun l s=>CS s l) []
def Up (l:ZB):Prop:=l.Pairwise (fun a b=>a.toList<b.toList)
theorem aTO {a b:List UInt8} (h1:¬a<b) (h2:a≠b):b<a:=by
 by_cases h:b<a
 ·exact h
 exact absurd (List.le_antisymm (List.not_lt.1 h) (List.not_lt.1 h1)) h2
theorem akj (s y:BA):(l:ZB)->(y∈CS s l ↔ y=s\/y∈l)
 | []=>by simp[CS]
 | x::r=>by
  rw[CS];split
  ·simp
  split
  ·rename_i h1 h2
   have:=toList_inj h2;subst this;simp
  simp only[bK,akj s y r];constructor
  ·rintro(h|h|h)
   ·exact Or.inr (Or.inl h)
   ·exact Or.inl h
   exact Or.inr (Or.inr h)
  rintro(h|h|h)
  ·exact Or.inr (Or.inl h)
  ·exact Or.inl h
  exact Or.inr (Or.inr h)
theorem aAY (s:BA):(l:ZB)->Up l->Up (CS s l)
 | [],_=>by simp[CS,Up]
 | x::r,h=>by
  obtain⟨h1,h2⟩:=List.pairwise_cons.1 h;rw[CS];split
  ·rename_i hlt
   refine List.pairwise_cons.2 ⟨fun y hy=>?_,h⟩;rcases bK.1 hy with rfl|hy
   ·exact hlt
   exact List.lt_trans hlt (h1 y hy)
  split
  ·exact h
  rename_i n1 n2
  refine List.pairwise_cons.2 ⟨fun y hy=>?_,aAY s r h2⟩;rcases(akj s y r).1 hy with rfl|hy
  ·exact aTO n1 n2
  exact h1 y hy
theorem aMn (m:ZB):∀l,Up l->Up (m.foldl (fun l s=>CS s l) l):=by
 induction m with
 | nil=>intro l h;exact h
 | cons a r ih=>intro l h;exact ih _ (aAY a l h)
theorem aHZ (m:ZB):∀l y,y∈m.foldl (fun l s=>CS s l) l ↔ y∈m\/y∈l:=by
 induction m with
 | nil=>intro l y;simp
 | cons a r ih =>
  intro l y;rw[bF,ih,akj,bK];constructor
  ·rintro(h|h|h)
   ·exact Or.inl (Or.inr h)
   ·exact Or.inl (Or.inl h)
   exact Or.inr h
  rintro((h|h)|h)
  ·exact Or.inr (Or.inl h)
  ·exact Or.inl h
  exact Or.inr (Or.inr h)
theorem aht (l:ZB):Up (lQ l):=aMn l [] (by simp[Up])
theorem xP (l:ZB) (y:BA):y∈lQ l ↔ y∈l:=by rw[lQ,aHZ];simp
theorem aeI (s:BA):(l:ZB)->(CS s l).length<=l.length+1
 | []=>by simp[CS]
 | x::r=>by
  have:=aeI s r;rw[CS];split
  ·simp
  split<;>simp<;>omega
theorem afk (m:ZB):∀l:ZB,(m.foldl (fun l s=>CS s l) l).length<=m.length+l.length:=by
 induction m with
 | nil=>intro l;simp
 | cons a r ih=>intro l;have:=ih (CS a l);have:=aeI a l;simp only[bF,List.length_cons];omega
theorem aza {D:DataW Unit} {l:ZB} {ss:List (List UInt8)} (h:ap6 D l) (hp:ss.Perm (strKeys D)):(ss.mergeSort (fun x y=>decide (x<=y)))=(lQ l).map (·.data.toList):=by
 obtain⟨es,rfl,hs,hn,hm⟩:=h;have tr:∀a b c:List UInt8,decide (a<=b)=true->decide (b<=c)=true->decide (a<=c)=true:=fun a b c h1 h2=>by simp only[aN] at *;exact List.le_trans h1 h2
 have tto:∀a b:List UInt8,(decide (a<=b)||decide (b<=a))=true:=fun a b=>by simp only[bV,aN];exact List.le_total a b
 have hu:=aht l;have eL:∀x:BA,x.toList=x.data.toList:=fun x=>ByteArray.toList_eq x
 have hup:((lQ l).map (·.data.toList)).Pairwise (fun a b=>a<b):=by
  refine List.pairwise_map.2 (hu.imp fun {a b} h=>?_)
  rwa [eL,eL] at h
 have hnd:((lQ l).map (·.data.toList)).Nodup:=hup.imp fun {a b} h e=>by subst e;exact List.lt_irrefl _ h
 have hperm:((lQ l).map (·.data.toList)).Perm (strKeys (H:=Unit) (.map es)):=by
  refine(List.perm_ext_iff_of_nodup hnd hn).2 fun s=>?_
  rw[hm,List.mem_map];constructor
  ·rintro⟨x,hx,rfl⟩;exact⟨x,(xP l x).1 hx,rfl⟩
  rintro⟨x,hx,rfl⟩;exact⟨x,(xP l x).2 hx,rfl⟩
 refine List.Perm.eq_of_pairwise (le:=fun a b=>decide (a<=b)=true) (fun a b _ _ h1 h2=>?_) (List.pairwise_mergeSort tr tto ss) (hup.imp fun {a b} h=>?_) (((List.mergeSort_perm ss _).trans hp).trans hperm.symm)
 ·simp only[aN] at h1 h2;exact List.le_antisymm h1 h2
 simp only[aN];exact List.le_of_lt h
structure zO where
 is:Bool
 name:BA
 uses:ZB
def firstAt (l:List zO) (s:BA):Option Nat:=l.findIdx? fun d=>d.is&&decide (d.name=s)
def ku (l:List zO) (i:Nat):Bool:=match l[i]? with|some d=>d.is|none=>false
def lM (l:List zO) (i:Nat):ZB:=match l[i]? with|some d=>d.uses|none=>[]
def nameAt (l:List zO) (i:Nat):BA:=match l[i]? with|some d=>d.name|none=>⟨#[]⟩
def qV (l:List zO) (o:ZN) (i:Nat):ZB:=(lM l i).filter fun s=>match firstAt l s with|some d=>decide (d∉o)|none=>false
def abt (l:List zO) (s:BA):ZN:=(List.range l.length).filter fun i=>ku l i&&(lM l i).any fun t=>decide (t=s)
def countOf (l:List zO):Nat:=((List.range l.length).filter (ku l)).length
def After (l:List zO) (o:ZN):Prop:=∀p i,o[p]?=some i->∀s∈lM l i,∀d,firstAt l s=some d->d∈o.take p
structure ad8 (l:List zO) (o:ZN):Prop where
 nodup:o.Nodup
 all:∀i,i∈o ↔ ku l i=true
 after:After l o
structure SH (l:List zO) (o R:ZN):Prop where
 nodup:(o++R).Nodup
 ready:∀i,i∈o++R ↔ (ku l i=true/\qV l o i=[])
 after:After l o
theorem CX {l:List zO} {o:ZN} {i:Nat} {s:BA}:s∈qV l o i ↔ s∈lM l i/\∃d,firstAt l s=some d/\d∉o:=by
 unfold qV;rw[List.mem_filter];refine and_congr_right fun _=>?_
 cases h:firstAt l s<;>simp
theorem CW {l:List zO} {o:ZN} {i:Nat}:qV l o i=[] ↔ ∀s∈lM l i,∀d,firstAt l s=some d->d∈o:=by
 rw[List.eq_nil_iff_forall_not_mem];constructor
 ·intro h s hs d hd;by_cases hm:d∈o
  ·exact hm
  exact absurd (CX.2 ⟨hs,d,hd,hm⟩) (h s)
 intro h s hs;obtain⟨h1,d,h2,h3⟩:=CX.1 hs;exact h3 (h s h1 d h2)
theorem pY {l:List zO} {i:Nat} (h:ku l i=true):i<l.length:=by
 unfold ku at h;rcases cO i l.length with h'|h'
 ·exact h'
 rw[List.getElem?_eq_none h'] at h;cases h
theorem agP {l:List zO} {s:BA} {d:Nat} (h:firstAt l s=some d):ku l d=true/\nameAt l d=s:=by
 unfold firstAt at h;rw[aP] at h;obtain⟨hd,h1,_⟩:=h;simp only[aJ,aN] at h1;unfold ku nameAt;rw[aZ hd];exact h1
theorem SH.start (l:List zO):SH l [] ((List.range l.length).filter fun i=>ku l i&&(qV l [] i).isEmpty) where
 nodup:=List.nodup_range.filter _
 ready i:=by
  simp only[List.nil_append,List.mem_filter,List.mem_range,aJ,List.isEmpty_iff];exact⟨fun h=>h.2,fun h=>⟨pY h.1,h⟩⟩
 after p i h:=by simp at h
theorem After.snoc {l:List zO} {o:ZN} {i:Nat} (h:After l o) (hm:qV l o i=[]):After l (o++[i]):=by
 intro p j hj s hs d hd;rcases Nat.lt_trichotomy p o.length with hp|hp|hp
 ·rw[List.getElem?_append_left hp] at hj;rw[List.take_append_of_le_length (by omega)];exact h p j hj s hs d hd
 ·subst hp;simp at hj;subst hj;rw[List.take_left']
  ·exact CW.1 hm s hs d hd
  rfl
 rw[List.getElem?_eq_none (by simp;omega)] at hj;cases hj
theorem SH.other {l:List zO} {o R R':ZN} {i:Nat} (h:SH l o R) (hR:R.Perm (i::R')) (hn:∀s,firstAt l s≠some i):SH l (o++[i]) R' where
 nodup:=by
  have h1:=(List.Perm.append_left o hR).nodup_iff.1 h.nodup;simpa using h1
 ready j:=by
  have hm:qV l (o++[i]) j=[] ↔ qV l o j=[]:=by
   rw[CW,CW];constructor
   ·intro h1 s hs d hd;have:=h1 s hs d hd;simp only[aT,aK] at this;rcases this with h2|rfl
    ·exact h2
    exact absurd hd (hn s)
   intro h1 s hs d hd;simp[h1 s hs d hd]
  rw[hm,<-h.ready j];have:=(List.Perm.append_left o hR).mem_iff (a:=j);rw[this];simp
 after:=by
  have hi:i∈o++R:=by
   rw[(List.Perm.append_left o hR).mem_iff];simp
  exact h.after.snoc ((h.ready i).1 hi).2
def freed (l:List zO) (o:ZN) (i:Nat):ZN:=(abt l (nameAt l i)).filter fun u=>(qV l (o++[i]) u).isEmpty
theorem SH.first {l:List zO} {o R R':ZN} {i:Nat} (h:SH l o R) (hR:R.Perm (i::R')) (hf:firstAt l (nameAt l i)=some i):SH l (o++[i]) (R'++freed l o i):=by
 have hi:i∈o++R:=by
  rw[(List.Perm.append_left o hR).mem_iff];simp
 have hnd:=(List.Perm.append_left o hR).nodup_iff.1 h.nodup;have hio:i∉o:=fun hio=>by
  have:=List.nodup_append.1 hnd;exact this.2.2 i hio i (by simp) rfl
 have hfm:∀u,u∈freed l o i ↔ (ku l u=true/\nameAt l i∈lM l u/\qV l (o++[i]) u=[]):=by
  intro u;unfold freed abt;simp only[List.mem_filter,List.mem_range,aJ,List.any_eq_true,aN,List.isEmpty_iff,exists_eq_right];exact⟨fun ⟨⟨_,h1,h2⟩,h3⟩=>⟨h1,h2,h3⟩,fun ⟨h1,h2,h3⟩=>⟨⟨pY h1,h1,h2⟩,h3⟩⟩
 have hnot:∀u∈freed l o i,u∉o++R:=by
  intro u hu hm;have h1:=(hfm u).1 hu;have h2:=CW.1 ((h.ready u).1 hm).2 _ h1.2.1 _ hf;exact hio h2
 refine⟨?_,?_,h.after.snoc ((h.ready i).1 hi).2⟩
 ·have h1:(o++[i]++R').Nodup:=by simpa using hnd
  rw[<-List.append_assoc];refine List.nodup_append.2 ⟨h1,?_,?_⟩
  ·unfold freed abt;exact(List.nodup_range.filter _).filter _
  rintro a ha b hb rfl;refine hnot a hb ?_;rw[(List.Perm.append_left o hR).mem_iff];simpa using ha
 intro j;have hmem:j∈o++R ↔ j∈o++[i]++R':=by
  rw[(List.Perm.append_left o hR).mem_iff];simp
 rw[<-List.append_assoc,aT,<-hmem,hfm,h.ready j];constructor
 ·rintro(⟨h1,h2⟩|⟨h1,_,h3⟩)
  ·exact⟨h1,CW.2 fun s hs d hd=>by simp[CW.1 h2 s hs d hd]⟩
  exact⟨h1,h3⟩
 rintro⟨h1,h2⟩;by_cases hu:nameAt l i∈lM l j
 ·exact Or.inr ⟨h1,hu,h2⟩
 refine Or.inl ⟨h1,CW.2 fun s hs d hd=>?_⟩;have h3:=CW.1 h2 s hs d hd;simp only[aT,aK] at h3;rcases h3 with h3|rfl
 ·exact h3
 exact absurd hs ((agP hd).2 ▸ hu)
theorem Az:(a b:ZN)->a.Nodup->(∀x∈a,x∈b)->a.length<=b.length
 | [],b,_,_=>by simp
 | x::a,b,h,hs=>by
  rw[List.nodup_cons] at h;have hx:x∈b:=hs x (by simp);have h1:=Az a (b.erase x) h.2 fun y hy=>by
   have hne:y≠x:=fun e=>h.1 (e ▸ hy)
   exact(List.mem_erase_of_ne hne).2 (hs y (by simp[hy]))
  rw[List.length_erase_of_mem hx] at h1;have:=List.length_pos_of_mem hx;simp only[List.length_cons];omega
theorem ay7 {a b:ZN} (h:a.Nodup) (hs:∀x∈a,x∈b) (hl:b.length<=a.length):∀x∈b,x∈a:=by
 intro x hx;by_cases hm:x∈a
 ·exact hm
 have h1:=Az (x::a) b (List.nodup_cons.2 ⟨hm,h⟩) (by simpa using ⟨hx,hs⟩);simp only[List.length_cons] at h1;omega
theorem Jw {l:List zO} {i:Nat}:i∈(List.range l.length).filter (ku l) ↔ ku l i=true:=by
 simp only[List.mem_filter,List.mem_range];exact⟨fun h=>h.2,fun h=>⟨pY h,h⟩⟩
theorem SH.le {l:List zO} {o R:ZN} (h:SH l o R):(o++R).length<=countOf l :=
 Az _ _ h.nodup fun i hi=>Jw.2 ((h.ready i).1 hi).1
theorem SH.done {l:List zO} {o:ZN} (h:SH l o []) (hc:countOf l<=o.length):ad8 l o where
 nodup:=by simpa using h.nodup
 all i:=by
  have h1:o.Nodup:=by simpa using h.nodup
  have h2:∀x∈o,x∈(List.range l.length).filter (ku l):=fun x hx=>Jw.2 ((h.ready x).1 (by simpa using hx)).1
  have h3:=ay7 h1 h2 hc;exact⟨fun hi=>Jw.1 (h2 i hi),fun hi=>h3 i (Jw.2 hi)⟩
 after:=h.after
theorem SH.none {l:List zO} {o:ZN} (h:SH l o []) (hc:o.length<countOf l):¬∃q,ad8 l q:=by
 rintro⟨q,hq⟩;have key:∀(p i:Nat),q[p]?=some i->i∈o:=by
  intro p;induction p using Nat.strongRecOn with
  | ind p ih =>
   intro i hi;have h1:ku l i=true:=(hq.all i).1 (List.mem_of_getElem? hi);have h2:qV l o i=[]:=CW.2 fun s hs d hd=>by
    obtain⟨k,hk⟩:=List.mem_iff_getElem?.1 (hq.after p i hi s hs d hd);have hkp:k<p:=by
     rcases cO k p with h'|h'
     ·exact h'
     rw[List.getElem?_eq_none (by simp;omega)] at hk;cases hk
    rw[List.getElem?_take,dw hkp] at hk;exact ih k hkp d hk
   have:=(h.ready i).2 ⟨h1,h2⟩;simpa using this
 have h3:=Az _ o (List.nodup_range.filter (ku l)) fun i hi=>by
  have:=(hq.all i).2 (Jw.1 hi);obtain⟨p,hp⟩:=List.mem_iff_getElem?.1 this;exact key p i hp
 unfold countOf at hc;exact absurd h3 (by omega)
def oC (f:Nat->Int):Nat->Nat×Int
 | 0=>(0,0)
 | n+1=>if (oC f n).2≠0 then oC f n else if f n≠0 then (n,f n) else (0,0)
theorem nC {f:Nat->Int}:(n:Nat)->(∀j,j<n->f j=0)->oC f n=(0,0)
 | 0,_=>rfl
 | n+1,h=>by rw[oC,nC n fun j hj=>h j (by omega),h n (by omega)];simp
theorem wU {f:Nat->Int} {k:Nat} (hk:f k≠0) (h0:∀j,j<k->f j=0):(n:Nat)->k<n->oC f n=(k,f k)
 | 0,h=>by omega
 | n+1,h=>by
  by_cases e:k=n
  ·subst e;rw[oC,nC k h0];simp[hk]
  rw[oC,wU hk h0 n (by omega)];simp[hk]
def iE (s:List Attr) (x:BA):Option Nat:=s.findIdx? fun a=>decide (a.name=x)
def azN (n:Int):Bool:=!kL n
def jT (a:Attr):Int :=
 if a.kind=1 then (if a.lo≠0\/a.hi≠0 then 20 else if a.words.length=0 then 19 else if 12<a.words.length then 4 else if a.words.all nameB=false then 6 else if decide a.words.Nodup=false then 8 else 0)
 else if a.kind=2 then (if 0<a.words.length then 20 else if a.hi<a.lo\/azN a.lo=true\/azN a.hi=true then 1 else 0)
 else if a.kind=3 then (if 0<a.words.length\/a.lo≠0\/a.hi≠0 then 20 else 0) else 11
def wO:Attr:=⟨⟨#[]⟩,0,[],0,0⟩
def xG (s:List Attr) (i:Nat):Int :=
 if nameB (s.getD i wO).name=false then 6 else if (s.take i).any (fun b=>decide (b.name=(s.getD i wO).name))=true then 8 else jT (s.getD i wO)
def fD (s:List Attr):Int:=if s.length=0 then 19 else if 6<s.length then 4 else (oC (xG s) s.length).2
def fG (l:List dY) (x:BA):Option Nat:=l.findIdx? fun c=>(c.kind==1)&&decide (c.name=x)
def iR (s:List Attr) (l:List dY) (op:Int) (name:BA) (words:ZB) (lo hi:Int):Int :=
 if op=3 then (match iE s name with|none=>if (fG l name).isSome then 0 else 7|some i=>if (s.getD i wO).kind≠3 then 9 else 0)
 else if op=4 then (match iE s name with|none=>7|some i=>if (s.getD i wO).kind≠1 then 9 else if words.all (fun x=>(s.getD i wO).words.any fun y=>decide (y=x))=false then 7 else 0)
 else if op=5 then (match iE s name with|none=>7|some i=>if (s.getD i wO).kind≠2 then 9 else if lo<(s.getD i wO).lo\/(s.getD i wO).hi<hi then 1 else 0)
 else 0
mutual
def fB (s:List Attr) (l:List dY):Ex->Int
 | .mk op name words lo hi args=>if iR s l op name words lo hi≠0 then iR s l op name words lo hi else gW s l args
def gW (s:List Attr) (l:List dY):List Ex->Int
 | []=>0
 | e::r=>if fB s l e≠0 then fB s l e else gW s l r
end
theorem EI (s:List Attr) (l:List dY) (e:Ex):fB s l e=if iR s l e.op e.name e.words e.lo e.hi≠0 then iR s l e.op e.name e.words e.lo e.hi else gW s l e.args:=by cases e;rw[fB];rfl
theorem yG {s:List Attr} {l:List dY}:(r:List Ex)->(∀j (h:j<r.length),fB s l r[j]=0)->gW s l r=0
 | [],_=>by rw[gW]
 | e::r,h=>by
  have h0:=h 0 (by simp);simp only[bP] at h0;rw[gW,h0];simp only[ne_eq,not_true_eq_false,if_false];exact yG r fun j hj=>by have:=h (j+1) (by simpa using hj);simpa using this
theorem MI {s:List Attr} {l:List dY}:(r:List Ex)->(k:Nat)->(hk:k<r.length)->fB s l r[k]≠0->(∀j (h:j<k),fB s l (r[j]'(by omega))=0)->gW s l r=fB s l r[k]
 | [],k,hk,_,_=>by simp at hk
 | e::r,0,_,h,_=>by simp only[bP] at h ⊢;rw[gW,dw h]
 | e::r,k+1,hk,h,h0=>by
  have h1:=h0 0 (by omega);simp only[bP] at h1;rw[gW,h1];simp only[ne_eq,not_true_eq_false,if_false,List.getElem_cons_succ] at h ⊢;exact MI r k (by simpa using hk) h fun j hj=>by have:=h0 (j+1) (by omega);simpa using this
mutual
def Bf (D:BA->Option Nat):Ex->Nat
 | .mk op name _ _ _ args=>min ((if op=3 then (D name).getD 1 else 1)+qB D args) 2001
def qB (D:BA->Option Nat):List Ex->Nat
 | []=>0
 | e::r=>Bf D e+qB D r
end
theorem Ub (D:BA->Option Nat) (e:Ex):Bf D e=min ((if e.op=3 then (D e.name).getD 1 else 1)+qB D e.args) 2001:=by cases e;rw[Bf];rfl
theorem Rl (D:BA->Option Nat):(l:List Ex)->(k:Nat)->(hk:k<l.length)->qB D (l.take (k+1))=qB D (l.take k)+Bf D l[k]
 | [],k,hk=>by simp at hk
 | e::r,0,_=>by simp[qB]
 | e::r,k+1,hk=>by
  have:=Rl D r k (by simpa using hk);simp[qB] at this ⊢;omega
theorem afo (D:BA->Option Nat):(l:List Ex)->(k:Nat)->qB D (l.take k)<=qB D l
 | [],k=>by simp[qB]
 | e::r,0=>by simp[qB]
 | e::r,k+1=>by
  have:=afo D r k;simp[qB];omega
theorem aiQ (D:BA->Option Nat) (e:Ex):Bf D e<=2001:=by rw[Ub];omega
def iT:dY:=⟨0,⟨#[]⟩,.mk 0 ⟨#[]⟩ [] 0 0 [],[],0⟩
def mG (l:List dY):Nat->Ex->Nat
 | 0,_=>2001
 | f+1,e=>Bf (fun s=>(fG l s).map fun d=>mG l f (l.getD d iT).cond) e
def expanded (l:List dY) (e:Ex):Nat:=mG l (l.length+1) e
theorem afp (l:List dY) (f:Nat) (e:Ex):mG l f e<=2001:=by cases f with|zero=>simp[mG]|succ f=>rw[mG];exact aiQ _ e
def kK:List Wb->Nat
 | []=>0
 | .mk _ _ u::r=>1+min (kK u) 41+kK r
def pW:Nat->List Wb->Bool
 | _,[]=>true
 | d,.mk n c u::r=>decide (d≠0)&&nameB n&&iL c&&pW (d - 1) u&&pW d r
def ny (kind:Int):Int:=if kind=5\/kind=6\/kind=7\/kind=10 then 1073741824 else if kind=8 then 1000000 else 0
def jO (c:dY):Bool:=decide (1<=c.kind)&&decide (c.kind<=10)&&nameB c.name&&iL c.cond&&(decide (c.jZ.length=0)||((c.kind==3)&&decide (kK c.jZ<=40)&&pW 16 c.jZ)) &&
 ((decide (ny c.kind=0)&&(c.amount==0))||(decide (0<ny c.kind)&&decide (1<=c.amount)&&decide (c.amount<=ny c.kind)))
def iW (s:List Attr) (l:List dY):List Wb->Int
 | []=>0
 | .mk _ c u::r=>if fB s l c≠0 then fB s l c else if iW s l u≠0 then iW s l u else iW s l r
def iC (l:List dY):List Wb->Bool
 | []=>false
 | .mk _ c u::r=>decide (2000<expanded l c)||iC l u||iC l r
def findAt (l:List dY) (x:BA):Option Nat:=l.findIdx? fun c=>decide (c.name=x)
def lU (s:List Attr) (l:List dY) (i:Nat):Int :=
 if jO (l.getD i iT)=false then 5 else if (findAt l (l.getD i iT).name).getD 0<i then 8 else if (iE s (l.getD i iT).name).isSome then 8 else
 if fB s l (l.getD i iT).cond≠0 then fB s l (l.getD i iT).cond else iW s l (l.getD i iT).jZ
def mg (l:List dY) (i:Nat):Int:=if 2000<expanded l (l.getD i iT).cond\/iC l (l.getD i iT).jZ=true then 4 else 0
def dY.dfn (c:dY):zO:=⟨c.kind==1,c.name,lQ (jo c.cond)⟩
def Sorts (l:List zO):Prop:=∃o,ad8 l o
open Classical in
noncomputable def eU (s:List Attr) (l:List dY):Nat×Int :=
 if fD s≠0 then (0,fD s) else if 100<l.length then (0,4) else if (oC (lU s l) l.length).2≠0 then oC (lU s l) l.length else
 if ¬Sorts (l.map dY.dfn) then (0,10) else oC (mg l) l.length
mutual
def vJ:Ex->Bool
 | .mk op _ _ _ _ args=>(op != 3||args.isEmpty)&&JX args
def JX:List Ex->Bool
 | []=>true
 | e::r=>vJ e&&JX r
end
mutual
def szE (D:BA->Option Nat):Ex->Nat
 | .mk op name _ _ _ args=>match (if op=3 then D name else none) with|some n=>n|none=>szL D 1 args
def szL (D:BA->Option Nat):Nat->List Ex->Nat
 | n,[]=>n
 | n,e::r=>szL D (min (n+szE D e) 2001) r
end
theorem aK' (D:BA->Option Nat) (e:Ex):szE D e=match (if e.op=3 then D e.name else none) with|some n=>n|none=>szL D 1 e.args:=by cases e;rw[szE];rfl
theorem atL (D:BA->Option Nat):(l:List Ex)->(n:Nat)->(e:Ex)->szL D n (l++[e])=min (szL D n l+szE D e) 2001
 | [],n,e=>by simp[szL]
 | x::r,n,e=>by simp[szL,atL D r]
theorem amU (D:BA->Option Nat) (l:List Ex) (n k:Nat) (h:k<l.length):szL D n (l.take (k+1))=min (szL D n (l.take k)+szE D l[k]) 2001:=by
 rw[aU h,atL]
mutual
theorem aiK {D:BA->Option Nat} (hD:∀s n,D s=some n->n<=2001):(e:Ex)->vJ e=true->szE D e=Bf D e
 | .mk op name words lo hi args,h=>by
  rw[vJ,aJ] at h;rw[szE,Bf];have hl:=aAS hD args h.2;by_cases h3:op=3
  ·have ha:args=[]:=by
    have:=h.1;rw[h3] at this;simpa using this
   subst ha;simp only[dw h3];cases hd:D name with
   | none=>simp[szL,qB]
   | some n=>have:=hD name n hd;simp[qB];omega
  simp only[dh h3];exact hl 1 (by omega)
theorem aAS {D:BA->Option Nat} (hD:∀s n,D s=some n->n<=2001):(l:List Ex)->JX l=true->∀n,n<=2001->szL D n l=min (n+qB D l) 2001
 | [],_,n,hn=>by simp[szL,qB];omega
 | e::r,h,n,hn=>by
  rw[JX,aJ] at h;rw[szL,qB,aAS hD r h.2 _ (by omega),aiK hD e h.1];omega
end
mutual
theorem yI {D D':BA->Option Nat}:(e:Ex)->(∀s∈jo e,D s=D' s)->Bf D e=Bf D' e
 | .mk op name words lo hi args,h=>by
  rw[Bf,Bf];rw[jo] at h;rw[alz args fun s hs=>h s (aS _ hs)];by_cases h3:op=3
  ·rw[dw h3,dw h3,h name (aQ _ (by simp[h3]))]
  rw[dh h3,dh h3]
theorem alz {D D':BA->Option Nat}:(l:List Ex)->(∀s∈kH l,D s=D' s)->qB D l=qB D' l
 | [],_=>by rw[qB,qB]
 | e::r,h=>by
  rw[kH] at h;rw[qB,qB,yI e fun s hs=>h s (aQ _ hs),alz r fun s hs=>h s (aS _ hs)]
end
theorem findIdx_map {α β:Type} (f:α->β) (p:β->Bool) (l:List α):(l.map f).findIdx? p=l.findIdx? (fun x=>p (f x)):=by
 rw[List.findIdx?_map];rfl
theorem vZ (l:List dY) (s:BA):firstAt (l.map dY.dfn) s=fG l s:=by
 unfold firstAt fG;rw[findIdx_map]
 rfl
theorem iZ {l:List dY} {i:Nat} (h:i<l.length):l.getD i iT=l[i]:=by simp[h]
theorem yx {l:List dY} {i:Nat} (h:i<l.length):ku (l.map dY.dfn) i=(l[i].kind==1):=by
 unfold ku;simp[h,dY.dfn]
theorem BJ {l:List dY} {i:Nat} (h:i<l.length):lM (l.map dY.dfn) i=lQ (jo l[i].cond):=by
 unfold lM;simp[h,dY.dfn]
theorem sH {l:List dY} {s:BA} {d:Nat} (h:fG l s=some d):d<l.length:=by
 unfold fG at h;rw[aP] at h;exact h.1
theorem yJ {l:List dY} {s:BA} {d:Nat} (h:fG l s=some d):(l.getD d iT).name=s/\(l.getD d iT).kind=1:=by
 have hd:=sH h;unfold fG at h;rw[aP] at h;obtain⟨_,h1,_⟩:=h;simp only[aJ,beq_iff_eq,aN] at h1;rw[iZ hd];exact⟨h1.2,h1.1⟩
theorem ad8.lt {l:List zO} {o:ZN} (h:ad8 l o) {i:Nat} (hi:i∈o):i<l.length:=pY ((h.all i).1 hi)
theorem ad8.len {l:List zO} {o:ZN} (h:ad8 l o):o.length<=l.length:=by
 have:=Az o (List.range l.length) h.nodup fun x hx=>List.mem_range.2 (h.lt hx)
 simpa using this
theorem Ua {l:List dY} {o:ZN} (h:ad8 (l.map dY.dfn) o):∀(q d:Nat),o[q]?=some d->∀f g,q<f->q<g->mG l f (l.getD d iT).cond=mG l g (l.getD d iT).cond:=by
 intro q;induction q using Nat.strongRecOn with
 | ind q ih =>
  intro d hd f g hf hg;obtain⟨f,rfl⟩:∃k,f=k+1:=⟨f - 1,by omega⟩
  obtain⟨g,rfl⟩:∃k,g=k+1:=⟨g - 1,by omega⟩
  rw[mG,mG];refine yI _ fun s hs=>?_
  have hdl:d<l.length:=by simpa using h.lt (List.mem_of_getElem? hd)
  cases hda:fG l s with
  | none=>rfl
  | some d' =>
   have h1:=h.after q d hd s (by rw[BJ hdl,xP];rwa [iZ hdl] at hs) d' (by rw[vZ];exact hda);obtain⟨q',hq'⟩:=List.mem_iff_getElem?.1 h1;have hlt:q'<q:=by
    rcases cO q' q with h'|h'
    ·exact h'
    rw[List.getElem?_eq_none (by simp;omega)] at hq';cases hq'
   rw[List.getElem?_take,dw hlt] at hq';simp only[Option.map_some,Option.some.injEq];exact ih q' hlt d' hq' f g (by omega) (by omega)
def uY (l:List dY) (o:ZN):BA->Option Nat:=o.foldl (fun D i s=>if s=(l.getD i iT).name then some (szE D (l.getD i iT).cond) else D s) (fun _=>none)
theorem Tq (l:List dY) (o:ZN) (i:Nat) (s:BA):uY l (o++[i]) s=if s=(l.getD i iT).name then some (szE (uY l o) (l.getD i iT).cond) else uY l o s:=by simp[uY]
theorem atX {l:List dY} {o:ZN} (h:ad8 (l.map dY.dfn) o) (hu:∀i∈o,fG l (l.getD i iT).name=some i) (hb:∀i∈o,vJ (l.getD i iT).cond=true) :
  ∀p,p<=o.length->∀s,uY l (o.take p) s=match fG l s with|some d=>if d∈o.take p then some (mG l l.length (l.getD d iT).cond) else none|none=>none:=by
 have hol:o.length<=l.length:=by simpa using h.len
 intro p;induction p with
 | zero =>
  intro _ s;simp only[List.take_zero,bQ,if_false];cases fG l s<;>rfl
 | succ p ih =>
  intro hp s;have hp':p<o.length:=by omega
  have IH:=ih (by omega);have hD:∀s n,uY l (o.take p) s=some n->n<=2001:=by
   intro s n hn;rw[IH s] at hn;cases hd:fG l s with
   | none=>rw[hd] at hn;cases hn
   | some d =>
    rw[hd] at hn;simp only at hn;split at hn
    ·cases hn;exact afp _ _ _
    cases hn
  have him:o[p]∈o:=aI hp';have hil:o[p]<l.length:=by simpa using h.lt him
  rw[aU hp',Tq];have key:szE (uY l (o.take p)) (l.getD o[p] iT).cond=mG l l.length (l.getD o[p] iT).cond:=by
   rw[aiK hD _ (hb _ him),Ua h p o[p] (aZ hp') l.length (l.length+1) (by omega) (by omega),mG];refine yI _ fun t ht=>?_
   rw[IH t];cases hda:fG l t with
   | none=>rfl
   | some d =>
    have h1:=h.after p o[p] (aZ hp') t (by rw[BJ hil,xP];rwa [iZ hil] at ht) d (by rw[vZ];exact hda);simp[h1]
  by_cases hs:s=(l.getD o[p] iT).name
  ·rw[dw hs,key,hs,hu _ him];simp only[aT,aK,or_true,if_true]
  rw[dh hs,IH s];cases hd:fG l s with
  | none=>rfl
  | some d =>
   have hne:d≠o[p]:=fun e=>hs (by rw[<-e];exact(yJ hd).1.symm)
   simp only[aT,aK,hne,or_false]
theorem aoq {l:List dY} {o:ZN} (h:ad8 (l.map dY.dfn) o) (hu:∀i∈o,fG l (l.getD i iT).name=some i) (hb:∀i∈o,vJ (l.getD i iT).cond=true) (e:Ex) (he:vJ e=true):szE (uY l o) e=expanded l e:=by
 have hs:=atX h hu hb o.length (bg _);rw[List.take_length] at hs;have hD:∀s n,uY l o s=some n->n<=2001:=by
  intro s n hn;rw[hs s] at hn;cases hd:fG l s with
  | none=>rw[hd] at hn;cases hn
  | some d =>
   rw[hd] at hn;simp only at hn;split at hn
   ·cases hn;exact afp _ _ _
   cases hn
 rw[aiK hD e he,expanded,mG];refine yI _ fun t ht=>?_
 rw[hs t];cases hda:fG l t with
 | none=>rfl
 | some d =>
  have hdl:=sH hda;have:d∈o:=(h.all d).2 (by rw[yx hdl,<-iZ hdl,(yJ hda).2];rfl);simp[this]
theorem fJ.parts {w:World} {l:List Attr} {v:Value} (h:fJ w l v):∃a n c,v=.agg #[.slice a n c]/\n=l.length/\n<=c/\rP a c/\∀i (h:i<l.length),∃b off,a=some ⟨b,off,none⟩/\Yw w l[i] b (off+i*5):=h
theorem fJ.ext {w w':World} {l:List Attr} {v:Value} (h:fJ w l v) (he:Ext w w'):fJ w' l v:=h.mono he.sub
def yw (o:Option Nat):Value:=.tuple #[.int .i64 (o.getD 0:Nat),.bool o.isSome]
theorem Rj {α:Type} {p:α->Bool} {l:List α} {k:Nat} (hk:k<l.length) (h1:p l[k]=true) (h2:∀j (h:j<l.length),j<k->p l[j]=false):l.findIdx? p=some k:=by
 rw[aP];exact⟨hk,h1,fun j hj=>by rw[h2 j (by omega) hj];simp⟩
theorem Ls {α:Type} {p:α->Bool} {l:List α} (h:∀j (h:j<l.length),p l[j]=false):l.findIdx? p=none:=by
 rw[bJ];intro x hx;obtain⟨i,hi,rfl⟩:=bD.1 hx;simp[h i hi]
theorem gQ {w:World} {b:Nat} {v0:Value} {t:TypeId} (h:w.heap[b]?=some (.cells #[v0] t (0,0))):w.cell? ⟨b,0,none⟩=some v0/\(∀j,w.frozen? ⟨b,j,none⟩=false):=⟨dM h 0,fun j=>jS h j⟩
theorem uF {a b:BA} {u:Bool} (h:(a.toList==b.toList)=u):decide (a=b)=u:=by rw[<-Qr];exact h
theorem Fz (s:List Attr) (v:Value) (x:BA) (w:World) (hs:fJ w s v) (hl:s.length<=1000000000000000) :
  Calls Tryz.prog 91 #[v,.string x] w (dN (yw (iE s x)) w):=by
 obtain⟨a,n,c,rfl,hn,hnc,hoa,hat⟩:=hs.parts;have HS:=ak hs;have HN:=ak hn;have hn2:n<=1000000000000000:=by omega
 clear hs hn hat hnc hoa;go_enter Tryz.func91,Tryz.ntmps91
 go_wp2_with fail
 go_loopw [6] (fun t wr=>∃k:Nat,t=.int .i64 k/\k<=n/\(∀j (h:j<s.length),j<k->decide (s[j].name=x)=false)/\wr.heap[w.heap.size]?=some (.cells #[.slice a n c] 24 (0,0))/\Ext w wr) (fun t _=>n - (intOf t).toNat)
 case atStart=>exact⟨0,rfl,by omega,fun j _ h=>by omega,dG w _,(Ext.refl w).alloc _⟩
 case round =>
  obtain⟨k,rfl,hk,hno,hbx,hx⟩:=hrel;have lZ:=ak hno;have lV:=ak hbx;have HX:=ak hx;obtain⟨bb0,bbf⟩:=gQ hbx;have hlt0:=dH hbx;clear hno hbx hx;by_cases hkn:k<n
  ·have hks:k<s.length:=by have:=HN.o;omega
   obtain⟨a',n',c',e',hx1,hx2,hx3,hat⟩:=(HS.o.ext HX.o).parts;simp only[Value.agg.injEq,Array.mk.injEq,List.cons.injEq,Value.slice.injEq,and_true] at e';obtain⟨rfl,rfl,rfl⟩:=e';clear hx1 hx2 hx3;obtain⟨b,off,rfl,aw,nw,cw,h0,h1,h2,h3,h4,h5⟩:=hat k hks;have t1:=ah ((k:Int)<(n:Int));cases he:(s[k].name.toList==x.toList)
   ·have HE:=ak (uF he);clear hat h5;go_wp2_with fail
    go_roundw
    case rel =>
     refine⟨k+1,by go_num,by omega,fun j hj hjk=>?_,lV.o,HX.o⟩;by_cases e:j=k
     ·subst e;exact HE.o
     exact lZ.o j hj (by omega)
    case measure=>simp[intOf];omega
   have HF:=ak (show iE s x=some k from Rj hks (uF he) lZ.o);clear hat h5;go_wp2_with fail
   go_ret2
   exact⟨by rw[yw,HF.o];rfl,HX.o⟩
  have t1:=aj ((k:Int)<(n:Int));have HF:=ak (show iE s x=none from Ls fun j hj=>lZ.o j hj (by have:=HN.o;omega));go_wp2_with fail
  go_ret2
  exact⟨by rw[yw,HF.o];rfl,HX.o⟩
theorem MZ (l:List dY) (a:OA) (n c:Nat) (x:BA) (w:World) (hs:eX w l a n c) (hl:n<=1000000000000000) :
  Calls Tryz.prog 90 #[.slice a n c,.string x] w (Gives (yw (findAt l x)) w):=by
 have HS:=ak hs;have HN:=ak hs.len;clear hs;go_enter Tryz.func90,Tryz.ntmps90
 go_wp2_with fail
 go_loop [6] (fun t=>∃k:Nat,t=.int .i64 k/\k<=n/\(∀j (h:j<l.length),j<k->decide (l[j].name=x)=false)) (fun t=>n - (intOf t).toNat)
 case atStart=>exact⟨0,rfl,by omega,fun j _ h=>by omega⟩
 case round =>
  obtain⟨k,rfl,hk,hno⟩:=hrel;have lZ:=ak hno;clear hno;by_cases hkn:k<n
  ·have hks:k<l.length:=by have:=HN.o;omega
   obtain⟨b,off,v,rfl,jr,hrow⟩:=HS.o.at hks;obtain⟨c0,c1,-,-,-,-,-,-,-,-⟩:=hrow.ten;have hq2:=jr.2.1;rw[hq2] at c1;have t1:=ah ((k:Int)<(n:Int));cases he:(l[k].name.toList==x.toList)
   ·have HE:=ak (uF he);clear jr hrow hq2 c0;go_wp2_with fail
    go_round
    case rel =>
     refine⟨k+1,by go_num,by omega,fun j hj hjk=>?_⟩;by_cases e:j=k
     ·subst e;exact HE.o
     exact lZ.o j hj (by omega)
    case measure=>simp[intOf];omega
   have HF:=ak (show findAt l x=some k from Rj hks (uF he) lZ.o);clear jr hrow hq2 c0;go_wp2_with fail
   go_ret2
   exact⟨by rw[yw,HF.o];rfl,rfl⟩
  have t1:=aj ((k:Int)<(n:Int));have HF:=ak (show findAt l x=none from Ls fun j hj=>lZ.o j hj (by have:=HN.o;omega));go_wp2_with fail
  go_ret2
  exact⟨by rw[yw,HF.o];rfl,rfl⟩
theorem BP (l:List dY) (a:OA) (n c:Nat) (x:BA) (w:World) (hs:eX w l a n c) (hl:n<=1000000000000000) :
  Calls Tryz.prog 125 #[.slice a n c,.string x] w (Gives (yw (fG l x)) w):=by
 have HS:=ak hs;have HN:=ak hs.len;clear hs;go_enter Tryz.func125,Tryz.ntmps125
 go_wp2_with fail
 go_loop [6] (fun t=>∃k:Nat,t=.int .i64 k/\k<=n/\(∀j (h:j<l.length),j<k->((l[j].kind==1)&&decide (l[j].name=x))=false)) (fun t=>n - (intOf t).toNat)
 case atStart=>exact⟨0,rfl,by omega,fun j _ h=>by omega⟩
 case round =>
  obtain⟨k,rfl,hk,hno⟩:=hrel;have lZ:=ak hno;clear hno;by_cases hkn:k<n
  ·have hks:k<l.length:=by have:=HN.o;omega
   obtain⟨b,off,v,rfl,jr,hrow⟩:=HS.o.at hks;obtain⟨c0,c1,-,-,-,-,-,-,-,-⟩:=hrow.ten;have hq1:=jr.1;have hq2:=jr.2.1;rw[hq2] at c1;rw[hq1] at c0;have t1:=ah ((k:Int)<(n:Int));cases hkd:(l[k].kind==1)
   ·have HE:=ak (show ((l[k].kind==1)&&decide (l[k].name=x))=false by rw[hkd];rfl);clear jr hrow hq2 hq1;go_wp2_with fail
    go_round
    case rel =>
     refine⟨k+1,by go_num,by omega,fun j hj hjk=>?_⟩;by_cases e:j=k
     ·subst e;exact HE.o
     exact lZ.o j hj (by omega)
    case measure=>simp[intOf];omega
   cases he:(l[k].name.toList==x.toList)
   ·have HE:=ak (show ((l[k].kind==1)&&decide (l[k].name=x))=false by rw[hkd,uF he];rfl);clear jr hrow hq2 hq1;go_wp2_with fail
    go_round
    case rel =>
     refine⟨k+1,by go_num,by omega,fun j hj hjk=>?_⟩;by_cases e:j=k
     ·subst e;exact HE.o
     exact lZ.o j hj (by omega)
    case measure=>simp[intOf];omega
   have HF:=ak (show fG l x=some k from Rj hks (by rw[hkd,uF he];rfl) lZ.o);clear jr hrow hq2 hq1;go_wp2_with fail
   go_ret2
   exact⟨by rw[yw,HF.o];rfl,rfl⟩
  have t1:=aj ((k:Int)<(n:Int));have HF:=ak (show fG l x=none from Ls fun j hj=>lZ.o j hj (by have:=HN.o;omega));go_wp2_with fail
  go_ret2
  exact⟨by rw[yw,HF.o];rfl,rfl⟩
theorem UF (l:ZB) (a:OA) (n c:Nat) (x:BA) (w:World) (hs:ji w l a n c) (hl:n<=1000000000000000) :
  Calls Tryz.prog 158 #[.slice a n c,.string x] w (Gives (.bool (l.any fun y=>decide (y=x))) w):=by
 have HS:=ak hs;have HN:=ak hs.1;clear hs;go_enter Tryz.func158,Tryz.ntmps158
 go_wp2_with fail
 go_loop [5] (fun t=>∃k:Nat,t=.int .i64 k/\k<=n/\(∀j (h:j<l.length),j<k->decide (l[j]=x)=false)) (fun t=>n - (intOf t).toNat)
 case atStart=>exact⟨0,rfl,by omega,fun j _ h=>by omega⟩
 case round =>
  obtain⟨k,rfl,hk,hno⟩:=hrel;have lZ:=ak hno;clear hno;by_cases hkn:k<n
  ·have hks:k<l.length:=by have:=HN.o;omega
   obtain⟨b,off,rfl,c1⟩:=HS.o.2.2.2 k hks;have t1:=ah ((k:Int)<(n:Int));cases he:(l[k].toList==x.toList)
   ·have HE:=ak (uF he);go_wp2_with fail
    go_round
    case rel =>
     refine⟨k+1,by go_num,by omega,fun j hj hjk=>?_⟩;by_cases e:j=k
     ·subst e;exact HE.o
     exact lZ.o j hj (by omega)
    case measure=>simp[intOf];omega
   have HF:=ak (show (l.any fun y=>decide (y=x))=true from List.any_eq_true.2 ⟨l[k],aI hks,uF he⟩);go_wp2_with fail
   go_ret;exact jk (by rw[HF.o])
  have t1:=aj ((k:Int)<(n:Int));have HF:=ak (show (l.any fun y=>decide (y=x))=false by
   rw[List.any_eq_false];intro y hy;obtain⟨j,hj,rfl⟩:=bD.1 hy;have:=lZ.o j hj (by have:=HN.o;omega);simp[this])
  go_wp2_with fail
  go_ret;exact jk (by rw[HF.o])
theorem ahx (k:Int) (w:World):Calls Tryz.prog 42 #[.int .i64 k] w (Gives (.int .i64 (ny k)) w):=by
 by_cases h5:k=5
 ·subst h5;go_enter Tryz.func42,Tryz.ntmps42
  go_wp2_with fail
  go_ret;exact⟨rfl,rfl⟩
 by_cases h6:k=6
 ·subst h6;go_enter Tryz.func42,Tryz.ntmps42
  go_wp2_with fail
  go_ret;exact⟨rfl,rfl⟩
 by_cases h7:k=7
 ·subst h7;go_enter Tryz.func42,Tryz.ntmps42
  go_wp2_with fail
  go_ret;exact⟨rfl,rfl⟩
 by_cases h10:k=10
 ·subst h10;go_enter Tryz.func42,Tryz.ntmps42
  go_wp2_with fail
  go_ret;exact⟨rfl,rfl⟩
 by_cases h8:k=8
 ·subst h8;go_enter Tryz.func42,Tryz.ntmps42
  go_wp2_with fail
  go_ret;exact⟨rfl,rfl⟩
 have e5:(k==5)=false:=by simp[h5]
 have e6:(k==6)=false:=by simp[h6]
 have e7:(k==7)=false:=by simp[h7]
 have e10:(k==10)=false:=by simp[h10]
 have e8:(k==8)=false:=by simp[h8]
 have HM:=ak (show ny k=0 by unfold ny;rw[dh (by omega),dh (by omega)]);go_enter Tryz.func42,Tryz.ntmps42
 go_wp2_with fail
 go_ret;exact⟨by rw[HM.o];rfl,rfl⟩
theorem awN {w:World} {b:Nat} {v0 v1 v2 v3 v4:Value} {t:TypeId} (h:w.heap[b]?=some (.cells #[v0,v1,v2,v3,v4] t (0,0))) :
  w.cell? ⟨b,0,none⟩=some v0/\w.cell? ⟨b,1,none⟩=some v1/\w.cell? ⟨b,2,none⟩=some v2/\w.cell? ⟨b,3,none⟩=some v3/\w.cell? ⟨b,4,none⟩=some v4/\(∀j,w.frozen? ⟨b,j,none⟩=false) :=
 ⟨dM h 0,dM h 1,dM h 2,dM h 3,dM h 4,fun j=>jS h j⟩
def Attr.fits (a:Attr):Prop:=a.name.size<=1000000000000000/\a.words.length<=1000000000000000/\∀x∈a.words,x.size<=1000000000000000
theorem dP {k:IntKind} {a b:Int} {w w':World} (h:a=b) (hx:Ext w w'):dN (.int k b) w (.returned (.int k a)) w':=by subst h;exact⟨rfl,hx⟩
theorem auD (x:Attr) (aw:OA) (nw cw:Nat) (w:World) (hw:ji w x.words aw nw cw) (hf:x.fits) :
  Calls Tryz.prog 119 #[.agg #[.string x.name,.int .i64 x.kind,.slice aw nw cw,.int .i64 x.lo,.int .i64 x.hi]] w (dN (.int .i64 (jT x)) w):=by
 have HW:=ak hw;have HF:=ak hf;have hnw:=hw.1;have hnl:nw<=1000000000000000:=by rw[hnw];exact hf.2.1
 have HNW:=ak hnw;clear hw hf hnw;obtain⟨name,kind,words,lo,hi⟩:=x;simp only at *;by_cases h1:kind=1
 ·subst h1;by_cases hlo:lo=0
  ·subst hlo;by_cases hhi:hi=0
   ·subst hhi;by_cases h0:nw=0
    ·have HE:=ak (show jT ⟨name,1,words,0,0⟩=19 by simp[jT,<-HNW.o,h0]);subst h0;go_enter Tryz.func119,Tryz.ntmps119
     go_wp2_with fail
     go_ret;exact dP (by rw[HE.o]) ((Ext.refl w).alloc _)
    have t0:((nw:Int)==0)=false:=by simp;omega
    by_cases h12:12<nw
    ·have t12:=ah ((12:Int)<(nw:Int));have HE:=ak (show jT ⟨name,1,words,0,0⟩=4 by
      simp only[jT,if_true,<-HNW.o];rw[dh (by simp),dh h0,dw h12])
     go_enter Tryz.func119,Tryz.ntmps119
     go_wp2_with fail
     go_ret;exact dP (by rw[HE.o]) ((Ext.refl w).alloc _)
    have t12:=aj ((12:Int)<(nw:Int));cases hn:words.all nameB
    ·have HE:=ak (show jT ⟨name,1,words,0,0⟩=6 by
      simp only[jT,if_true,<-HNW.o];rw[dh (by simp),dh h0,dh h12,dw hn])
     have HB:=ak hn;clear hn;go_enter Tryz.func119,Tryz.ntmps119
     go_wp2_with fail
     refine(Nj words _ _ _ _ (HW.o.ext ((Ext.refl w).alloc _)) hnl HF.o.2.2).mono ?_;rintro e w' ⟨rfl,rfl⟩;rw[HB.o];go_wp2_with fail
     go_ret;exact dP (by rw[HE.o]) ((Ext.refl w).alloc _)
    have HB:=ak hn;cases hd:decide words.Nodup
    ·have HE:=ak (show jT ⟨name,1,words,0,0⟩=8 by
      simp only[jT,if_true,<-HNW.o];rw[dh (by simp),dh h0,dh h12,dh (by rw[hn];simp),dw hd])
     have HB2:=ak hd;clear hn hd;go_enter Tryz.func119,Tryz.ntmps119
     go_wp2_with fail
     refine(Nj words _ _ _ _ (HW.o.ext ((Ext.refl w).alloc _)) hnl HF.o.2.2).mono ?_;rintro e w' ⟨rfl,rfl⟩;rw[HB.o];go_wp2_with fail
     refine(JI words _ _ _ _ (HW.o.ext ((Ext.refl w).alloc _)) hnl).mono ?_;rintro e w' ⟨rfl,q,rfl⟩;rw[HB2.o];go_wp2_with fail
     go_ret;exact dP (by rw[HE.o]) (((Ext.refl w).alloc _).drewN _)
    have HE:=ak (show jT ⟨name,1,words,0,0⟩=0 by
     simp only[jT,if_true,<-HNW.o];rw[dh (by simp),dh h0,dh h12,dh (by rw[hn];simp),dh (by rw[hd];simp)])
    have HB2:=ak hd;clear hn hd;go_enter Tryz.func119,Tryz.ntmps119
    go_wp2_with fail
    refine(Nj words _ _ _ _ (HW.o.ext ((Ext.refl w).alloc _)) hnl HF.o.2.2).mono ?_;rintro e w' ⟨rfl,rfl⟩;rw[HB.o];go_wp2_with fail
    refine(JI words _ _ _ _ (HW.o.ext ((Ext.refl w).alloc _)) hnl).mono ?_;rintro e w' ⟨rfl,q,rfl⟩;rw[HB2.o];go_wp2_with fail
    go_ret;exact dP (by rw[HE.o]) (((Ext.refl w).alloc _).drewN _)
   have t1:(hi != 0)=true:=by simp[hhi]
   have HE:=ak (show jT ⟨name,1,words,0,hi⟩=20 by simp[jT,hhi]);go_enter Tryz.func119,Tryz.ntmps119
   go_wp2_with fail
   go_ret;exact dP (by rw[HE.o]) ((Ext.refl w).alloc _)
  have t1:(lo != 0)=true:=by simp[hlo]
  have HE:=ak (show jT ⟨name,1,words,lo,hi⟩=20 by simp[jT,hlo]);go_enter Tryz.func119,Tryz.ntmps119
  go_wp2_with fail
  go_ret;exact dP (by rw[HE.o]) ((Ext.refl w).alloc _)
 have e1:(kind==1)=false:=by simp[h1]
 by_cases h2:kind=2
 ·subst h2;have HE:=ak (show jT ⟨name,2,words,lo,hi⟩=if 0<nw then 20 else if hi<lo\/kL lo=false\/kL hi=false then 1 else 0 by
   simp only[jT,azN];rw[dh (by omega),dw trivial,<-HNW.o];simp)
  generalize jT ⟨name,2,words,lo,hi⟩=E at *;go_enter Tryz.func119,Tryz.ntmps119
  go_wp2_with (go_at_call 154;refine(abQ _ _).mono ?_;rintro e w' ⟨rfl,rfl⟩)
  all_goals (go_ret;exact dP (by rw[HE.o];simp_all<;>omega) ((Ext.refl w).alloc _))
 have e2:(kind==2)=false:=by simp[h2]
 by_cases h3:kind=3
 ·subst h3;have HE:=ak (show jT ⟨name,3,words,lo,hi⟩=if 0<nw\/lo≠0\/hi≠0 then 20 else 0 by
   simp only[jT];rw[dh (by omega),dh (by omega),dw trivial,<-HNW.o])
  generalize jT ⟨name,3,words,lo,hi⟩=E at *;go_enter Tryz.func119,Tryz.ntmps119
  go_wp2_with fail
  all_goals (go_ret;exact dP (by rw[HE.o];simp_all<;>omega) ((Ext.refl w).alloc _))
 have e3:(kind==3)=false:=by simp[h3]
 have HE:=ak (show jT ⟨name,kind,words,lo,hi⟩=11 by
  simp only[jT];rw[dh h1,dh h2,dh h3])
 generalize jT ⟨name,kind,words,lo,hi⟩=E at *;go_enter Tryz.func119,Tryz.ntmps119
 go_wp2_with fail
 go_ret;exact dP (by rw[HE.o]) ((Ext.refl w).alloc _)
def aWa (s:List Attr) (n:Nat) (a:OA) (c:Nat) (w:World) (t:Value) (wr:World):Prop:=∃k:Nat,t=.int .i64 k/\k<=n/\(∀j,j<k->xG s j=0)/\wr.heap[w.heap.size]?=some (.cells #[.slice a n c] 24 (0,0))/\Ext w wr
def a1e (s:List Attr) (k:Nat) (wa:World) (t:Value) (wr:World):Prop:=∃m:Nat,t=.int .i64 m/\m<=k/\(∀j (h:j<s.length),j<m->decide (s[j].name=(s.getD k wO).name)=false)/\(∃q,wr=wa.drewN q)
theorem Dy {s:List Attr} {i:Nat} (h:i<s.length):s.getD i wO=s[i]:=by simp[h]
theorem GX (s:List Attr) (v:Value) (w:World) (hs:fJ w s v) (hf:∀x∈s,x.fits) (hl:s.length<=1000000000000000) :
  Calls Tryz.prog 88 #[v] w (dN (.int .i64 (fD s)) w):=by
 obtain⟨a,n,c,rfl,hn,hnc,hoa,hat⟩:=hs.parts;have HS:=ak hs;have HN:=ak hn;have HF:=ak hf;have hn2:n<=1000000000000000:=by omega
 clear hs hn hat hnc hoa hf;by_cases h0:n=0
 ·have t0:((n:Int)==0)=true:=by simp[h0]
  have HE:=ak (show fD s=19 by unfold fD;rw[<-HN.o,dw h0]);clear h0;go_enter Tryz.func88,Tryz.ntmps88
  go_wp2_with fail
  go_ret;exact dP (by rw[HE.o]) ((Ext.refl w).alloc _)
 have t0:((n:Int)==0)=false:=by simp[h0]
 by_cases h6:6<n
 ·have t6:=ah ((6:Int)<(n:Int));have HE:=ak (show fD s=4 by unfold fD;rw[<-HN.o,dh h0,dw h6]);go_enter Tryz.func88,Tryz.ntmps88
  go_wp2_with fail
  go_ret;exact dP (by rw[HE.o]) ((Ext.refl w).alloc _)
 have t6:=aj ((6:Int)<(n:Int));have HE:=ak (show fD s=(oC (xG s) n).2 by unfold fD;rw[<-HN.o,dh h0,dh h6]);go_enter Tryz.func88,Tryz.ntmps88
 go_wp2_with fail
 go_loopw [3] (aWa s n a c w) (fun t _=>n - (intOf t).toNat)
 case atStart=>exact⟨0,rfl,by omega,fun j h=>by omega,dG w _,(Ext.refl w).alloc _⟩
 case round =>
  obtain⟨k,rfl,hk,hno,hbx,hx⟩:=hrel;obtain⟨wo,rfl⟩:∃wo:World,wo=wr:=⟨_,rfl⟩
  have lZ:=ak hno;have lV:=ak hbx;have HX:=ak hx;obtain⟨bb0,bbf⟩:=gQ hbx;have hlt0:=dH hbx;clear hno hbx hx;by_cases hkn:k<n
  ·have hks:k<s.length:=by have:=HN.o;omega
   obtain⟨a',n',c',e',hx1,hx2,hx3,hat⟩:=(HS.o.ext HX.o).parts;simp only[Value.agg.injEq,Array.mk.injEq,List.cons.injEq,Value.slice.injEq,and_true] at e';obtain⟨rfl,rfl,rfl⟩:=e';clear hx1 hx2 hx3;obtain⟨b,off,rfl,aw,nw,cw,h0,h1,h2,h3,h4,h5⟩:=hat k hks;have H5:=ak h5;have t1:=ah ((k:Int)<(n:Int));have hfk:=HF.o _ (aI hks);have hfn:=hfk.1;have HFK:=ak hfk;have HAI:=ak (show xG s k=if nameB s[k].name=false then 6 else if (s.take k).any (fun b=>decide (b.name=s[k].name))=true then 8 else jT s[k] by unfold xG;rw[Dy hks]);clear hat h5 hfk;cases hnb:nameB s[k].name
   ·have GL:=ak hnb;have HR:=ak (show fD s=6 by
     rw[HE.o,wU (k:=k) (by rw[HAI.o,dw hnb];omega) lZ.o n hkn]
     show xG s k=6
     rw[HAI.o,dw hnb])
    clear hnb HE;go_wp2_with fail
    refine(rQ _ _ hfn).mono ?_;rintro e w' ⟨rfl,rfl⟩;rw[GL.o];go_wp2_with fail
    go_ret;exact dP (by rw[HR.o]) (HX.o.alloc _)
   have GL:=ak hnb;go_wp2_with fail
   refine(rQ _ _ hfn).mono ?_;rintro e w' ⟨rfl,rfl⟩;rw[GL.o];clear h0 h1 h2 h3 h4 bb0 bbf;go_upto_region 11 with fail
   obtain⟨wa,dW⟩:∃wa,wa=wo.alloc (.cells #[.string s[k].name,.int .i64 s[k].kind,.slice aw nw cw,.int .i64 s[k].lo,.int .i64 s[k].hi] 101):=⟨_,rfl⟩
   rw[<-dW];have hxa:Ext wo wa:=by rw[dW];exact(Ext.refl _).alloc _
   have hba:wa.heap[wo.heap.size]?=some (.cells #[.string s[k].name,.int .i64 s[k].kind,.slice aw nw cw,.int .i64 s[k].lo,.int .i64 s[k].hi] 101 (0,0)):=by rw[dW];exact dG wo _
   have fE:=ak hxa;have sS:=ak hba;have HB2:=ak (hxa.blk lV.o);clear dW hxa hba;go_wp2_with fail
   go_loopw [5] (a1e s k wa) (fun t _=>k - (intOf t).toNat)
   case atStart=>exact⟨0,rfl,by omega,fun j _ h=>by omega,0,rfl⟩
   case round =>
    obtain⟨m,rfl,hm,hne,q,rfl⟩:=hrel;have wZ:=ak hne;clear hne;obtain⟨d0,df⟩:=gQ HB2.o;obtain⟨a0,a1,a2,a3,a4,af⟩:=awN sS.o;by_cases hmk:m<k
    ·have t2:=ah ((m:Int)<(k:Int));have hms:m<s.length:=by omega
     obtain⟨a',n',c',e',hx1,hx2,hx3,hat⟩:=(HS.o.ext (HX.o.trans fE.o)).parts;simp only[Value.agg.injEq,Array.mk.injEq,List.cons.injEq,Value.slice.injEq,and_true] at e';obtain⟨rfl,rfl,rfl⟩:=e';obtain⟨b',off',e'',aw',nw',cw',g0,g1,g2,g3,g4,g5⟩:=hat m hms;simp only[Option.some.injEq,Addr.mk.injEq,and_true] at e'';obtain⟨rfl,rfl⟩:=e'';have Zr:(0:Int)<=(m:Int):=by omega
     have ti1:(m:Int)<(n:Int):=by omega
     clear hx1 hx2 hx3 hat g1 g2 g3 g4 g5 a1 a2 a3 a4;cases he:(s[m].name.toList==s[k].name.toList)
     ·have MQ:=ak (uF he);go_wp2_with fail
      go_quiet (fail)
      go_wp2_with fail
      go_roundw
      case rel =>
       refine⟨m+1,by go_num,by omega,fun j hj hjm=>?_,_,rfl⟩;by_cases e:j=m
       ·subst e;rw[Dy hks];exact MQ.o
       exact wZ.o j hj (by omega)
      case measure=>simp[intOf];omega
     have h8:xG s k=8:=by
      rw[HAI.o,dh (by rw[GL.o];simp),dw];rw[List.any_eq_true];exact⟨s[m],bD.2 ⟨m,by simp;omega,by simp⟩,uF he⟩
     have HR:=ak (show fD s=8 by
      rw[HE.o,wU (k:=k) (by rw[h8];omega) lZ.o n hkn];exact h8)
     clear h8;go_wp2_with fail
     go_quiet (fail)
     go_wp2_with fail
     go_ret;exact dP (by rw[HR.o]) ((((HX.o.trans fE.o).drewN q)).drewN _)
    have t2:=aj ((m:Int)<(k:Int));have hany:((s.take k).any fun b=>decide (b.name=s[k].name))=false:=by
     rw[List.any_eq_false];intro y hy;obtain⟨j,hj,rfl⟩:=bD.1 hy;have hjk:j<k:=by simp at hj;omega
     have:=wZ.o j (by omega) (by omega);rw[Dy hks] at this;simp[this]
    have HAK:=ak (show xG s k=jT s[k] by rw[HAI.o,dh (by rw[GL.o];simp),dh (by rw[hany];simp)]);clear hany hnb;go_wp2_with fail
    refine(auD s[k] aw nw cw _ (H5.o.ext (fE.o.drewN q)) HFK.o).mono ?_;rintro e w' ⟨rfl,hx7⟩;have xH:=ak (((HX.o.trans fE.o).drewN q).trans hx7);have NK:=ak (hx7.blk (show (wa.drewN q).heap[w.heap.size]?=_ from HB2.o));clear hx7 d0 df a0 a1 a2 a3 a4 af;by_cases hz:jT s[k]=0
    ·have tz:(jT s[k] != 0)=false:=by simp[hz]
     have HZ:=ak hz;clear hz;go_wp2_with fail
     go_roundw
     case rel =>
      refine⟨k+1,by go_num,by omega,fun j hj=>?_,NK.o,xH.o⟩;by_cases e:j=k
      ·subst e;rw[HAK.o];exact HZ.o
      exact lZ.o j (by omega)
     case measure=>simp[intOf];omega
    have tz:(jT s[k] != 0)=true:=by simp[hz]
    have HR:=ak (show fD s=jT s[k] by
     rw[HE.o,wU (k:=k) (by rw[HAK.o];exact hz) lZ.o n hkn];exact HAK.o)
    clear hz;go_wp2_with fail
    go_ret;exact dP (by rw[HR.o]) xH.o
  have t1:=aj ((k:Int)<(n:Int));have HR:=ak (show fD s=0 by rw[HE.o,nC n fun j hj=>lZ.o j (by omega)]);go_wp2_with fail
  go_ret;exact dP (by rw[HR.o]) HX.o
end Go.Proofs.YtefjomofjejklaaGreatDoor
