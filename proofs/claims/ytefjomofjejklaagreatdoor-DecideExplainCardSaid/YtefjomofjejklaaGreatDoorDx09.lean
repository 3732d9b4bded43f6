/-
  Texts of the claim, joined: Names3, Names4, ROrd2, RCls, MapAt, Heap1, Heap2, Heap3.
-/
import Derived.Test.YtefjomofjejklaaGreatDoorDx08
import Derived.Laws.Cover1
import Derived.Sort.Walk0
import Derived.Maps.Range
import Derived.Lib.Builder
namespace Go.Proofs.YtefjomofjejklaaGreatDoor
set_option maxRecDepth 100000
set_option maxHeartbeats 32000000
open Go.RowKit Go.Maps
def anV (w:World) (base:Nat) (l:ZB) (v:Value):Prop:=w.ownsRow base 9 1 v l.length (l.flatMap strCells)
def aM5 (l:ZB) (w:World) (e:Ending) (w':World):Prop:=∃(a:OA) (c:Nat),e=.returned (.slice a l.length c)/\ji w' l a l.length c/\Ext w w'
theorem aLy {s x:BA} {r:ZB} (h:Op.bytesLess s.toList x.toList=true):CS s (x::r)=s::x::r:=by
 rw[Go.Proofs.bytesLess_eq,aN] at h;rw[CS,dw h]
theorem aCG {s x:BA} {r:ZB} (h1:Op.bytesLess s.toList x.toList=false) (h2:(s.toList==x.toList)=true):CS s (x::r)=x::r:=by
 rw[Go.Proofs.bytesLess_eq,bZ] at h1;rw[CS,dh h1,dw (by simpa using h2)]
theorem aLz {s x:BA} {r:ZB} (h1:Op.bytesLess s.toList x.toList=false) (h2:(s.toList==x.toList)=false):CS s (x::r)=x::CS s r:=by
 rw[Go.Proofs.bytesLess_eq,bZ] at h1;rw[CS,dh h1,dh (by simpa using h2)]
theorem drop_at {l:ZB} {k:Nat} (h:k<l.length):l.drop k=l[k]::l.drop (k+1):=by simp
theorem aCF (s:BA) (l:ZB) (a:OA) (n c:Nat) (w:World) (hs:ji w l a n c) (hn:n<=1000000) :
  Calls Tryz.prog 178 #[.slice a n c,.string s] w (aM5 (CS s l) w):=by
 have HS:=ak hs;have HN:=ak hs.1;have HLEN:=ak (aeI s l);clear hs;go_enter Tryz.func178,Tryz.ntmps178
 go_wp2_with fail
 go_loopg [5,6,7] n (fun m u d i wr=>∃(k:Nat) (out:ZB) (done:Bool),k<=n/\m=n - k/\i=.int .i64 k/\d=.bool done/\out.length<=k+1/\(done=false->out.length<=k)/\anV wr w.heap.size out u/\out++(if done then l.drop k else CS s (l.drop k))=CS s l/\Ext w wr)
 case atStart=>exact⟨0,[],false,by omega,rfl,rfl,rfl,by simp,by simp,World.ownsRow_nil _ _ _ _,by simp,Ext.refl _⟩
 case round =>
  obtain⟨k,out,done,hk,hm,rfl,rfl,hol,hod,hown,heq,hx⟩:=hrel;have HM:=ak hm;have HO:=ak hown;have MQ:=ak heq;have HX:=ak hx;have HOD:=ak hod;have hz:=hx.size;obtain⟨ua,uc,rfl,-,-⟩:=mD hown [] (by simp);clear hm hown heq hx hod;by_cases hlt:k<n
  ·have hlt':k<l.length:=by have:=HN.o;omega
   have td:decide ((k:Int)<(n:Int))=true:=by simp;omega
   obtain⟨b,off,rfl,hcell⟩:=HS.o.2.2.2 k hlt';have HC:=ak hcell
   replace hcell:=HX.o.cell hcell
   have HD:=ak (drop_at hlt');have hbl:=block_lt hcell;simp only at hbl;generalize l[k]=x at *;have fin:∀(aC5:ZB) (done2:Bool) (u2:Value) (w2:World),aC5++(if done2 then x::l.drop (k+1) else CS s (x::l.drop (k+1)))=CS s l->(done2=false->Op.bytesLess s.toList x.toList=false/\(s.toList==x.toList)=false)->aC5++[x]++(if done2 then l.drop (k+1) else CS s (l.drop (k+1)))=CS s l:=by
    intro aC5 done2 u2 w2 h1 h2;cases done2
    ·obtain⟨h3,h4⟩:=h2 rfl;rw[dh (by simp),aLz h3 h4] at h1;rw[dh (by simp),<-h1];simp
    rw[dw rfl] at h1 ⊢;rw[<-h1];simp
   have aci:=ak fin;clear fin;have aNv:=ak (show out++(if done then x::l.drop (k+1) else CS s (x::l.drop (k+1)))=CS s l by rw[<-HD.o];exact MQ.o);clear MQ HD;cases done
   ·have a6I:out.length<=k:=HOD.o rfl;cases h1:Op.bytesLess s.toList x.toList
    ·cases h2:(s.toList==x.toList)
     case' false =>
      have SK:=ak (aci.o out false (.bool false) wr aNv.o (fun _=>⟨h1,h2⟩));go_upto_region 10 with fail
     case' true =>
      have SK:=ak (aci.o out true (.bool false) wr (by rw[dw rfl,<-aCG h1 h2];have:=aNv.o;rwa [dh (by simp)] at this) (fun h=>by cases h));go_upto_region 10 with fail
     all_goals
      clear h1 h2;have hz1:=HX.o.size;go_wp2_with (at_builtin;refine oH Cb rfl _ _ rfl w.heap.size _ _ _ rfl HO.o _ 1 1 rfl ?c0 rfl ?c1 ?c2 ?c3 ?c4 ?_)
      case c0=>rfl
      case c1=>simp[Value.oneCell']
      case c2=>simp only[maxLen];omega
      case c3=>omega
      try (case c4=>omega)
      intro v2 w2 hown2 hgrow2;have yQ:=ak (show anV w2 w.heap.size (out++[x]) v2 by unfold anV;rw[bI,List.flatMap_append];exact hown2);have gI:=ak (HX.o.grown hgrow2 (IG HO.o));clear hown2 hgrow2 hcell;go_wp2_with fail
      go_roundg (n - (k+1))
      case measure=>have:=HM.o;omega
      case rel=>exact⟨k+1,out++[x],_,by omega,rfl,by go_num,rfl,by simp;omega,fun _=>by simp;omega,yQ.o,SK.o,gI.o⟩
    have SK:=ak (aci.o (out++[s]) true (.bool false) wr (by rw[dw rfl,List.append_assoc];have:=aNv.o;rw[dh (by simp),aLy h1] at this;simpa using this) (fun h=>by cases h));have hz1:=HX.o.size;go_wp2_with (at_builtin;refine oH Cb rfl _ _ rfl w.heap.size _ _ _ rfl HO.o _ 1 1 rfl ?c0 rfl ?c1 ?c2 ?c3 ?c4 ?_)
    case c0=>rfl
    case c1=>simp[Value.oneCell']
    case c2=>simp only[maxLen];omega
    case c3=>omega
    try (case c4=>omega)
    intro v2 w2 hown2 hgrow2;have yQ:=ak (show anV w2 w.heap.size (out++[s]) v2 by unfold anV;rw[bI,List.flatMap_append];exact hown2);have gI:=ak (HX.o.grown hgrow2 (IG HO.o));have hcell2:=gI.o.cell HC.o;have aQt:=block_lt hcell2;simp only at aQt;have hz2:=gI.o.size;have hown3:=yQ.o;unfold anV at hown3;have hl2:(out++[s]).length<=k+1:=by simp;omega
    generalize out++[s]=aC5 at *;obtain⟨ua2,uc2,rfl,-,-⟩:=mD hown3 [] (by simp);clear hown2 hgrow2 hcell hown3 h1;go_wp2_with (at_builtin;refine oH Cb rfl _ _ rfl w.heap.size _ _ _ rfl yQ.o _ 1 1 rfl ?d0 rfl ?d1 ?d2 ?d3 ?d4 ?_)
    case d0=>rfl
    case d1=>simp[Value.oneCell']
    case d2=>simp only[maxLen];omega
    case d3=>omega
    try (case d4=>omega)
    intro v4 w4 hown4 hgrow4;have PG:=ak (show anV w4 w.heap.size (aC5++[x]) v4 by unfold anV;rw[bI,List.flatMap_append];exact hown4);have lN:=ak (gI.o.grown hgrow4 (IG yQ.o));clear hown4 hgrow4 hcell2;go_wp2_with fail
    go_roundg (n - (k+1))
    case measure=>have:=HM.o;omega
    case rel=>exact⟨k+1,aC5++[x],true,by omega,rfl,by go_num,rfl,by simp;omega,fun h=>(by cases h),PG.o,SK.o,lN.o⟩
   have SK:=ak (aci.o out true (.bool false) wr aNv.o (fun h=>by cases h));have hz1:=HX.o.size;go_wp2_with (at_builtin;refine oH Cb rfl _ _ rfl w.heap.size _ _ _ rfl HO.o _ 1 1 rfl ?c0 rfl ?c1 ?c2 ?c3 ?c4 ?_)
   case c0=>rfl
   case c1=>simp[Value.oneCell']
   case c2=>simp only[maxLen];omega
   case c3=>omega
   try (case c4=>omega)
   intro v2 w2 hown2 hgrow2;have yQ:=ak (show anV w2 w.heap.size (out++[x]) v2 by unfold anV;rw[bI,List.flatMap_append];exact hown2);have gI:=ak (HX.o.grown hgrow2 (IG HO.o));clear hown2 hgrow2 hcell;go_wp2_with fail
   go_roundg (n - (k+1))
   case measure=>have:=HM.o;omega
   case rel=>exact⟨k+1,out++[x],true,by omega,rfl,by go_num,rfl,by simp;omega,fun h=>(by cases h),yQ.o,SK.o,gI.o⟩
  have td:decide ((k:Int)<(n:Int))=false:=by simp;omega
  have HDR:=ak (show l.drop k=[] from List.drop_eq_nil_of_le (by have:=HN.o;omega));cases done
  ·have ahf:=ak (show out++[s]=CS s l by have:=MQ.o;rw[dh (by simp),HDR.o] at this;exact this);go_wp2_with (at_builtin;refine oH Cb rfl _ _ rfl w.heap.size _ _ _ rfl HO.o _ 1 1 rfl ?c0 rfl ?c1 ?c2 ?c3 ?c4 ?_)
   case c0=>rfl
   case c1=>simp[Value.oneCell']
   case c2=>simp only[maxLen];omega
   case c3=>omega
   try (case c4=>omega)
   intro v2 w2 hown2 hgrow2;have hown3:w2.ownsRow w.heap.size 9 1 v2 (out++[s]).length ((out++[s]).flatMap strCells):=by rw[bI,List.flatMap_append];exact hown2
   have gI:=ak (HX.o.grown hgrow2 (IG HO.o));obtain⟨ua2,uc2,rfl,-,hst⟩:=mD hown3 [] (by simp);have HST:=ak hst;clear hown2 hgrow2 hown3 hst;go_wp2_with fail
   go_ret;refine⟨ua2,uc2,?_,?_,gI.o⟩
   ·rw[<-ahf.o];rfl
   rw[<-ahf.o];exact HST.o
  have ahf:=ak (show out=CS s l by have:=MQ.o;rw[dw rfl,HDR.o,List.append_nil] at this;exact this);obtain⟨ua2,uc2,e2,-,hst⟩:=mD HO.o [] (by simp);simp only[Value.slice.injEq,true_and] at e2;obtain⟨rfl,rfl⟩:=e2;have HST:=ak hst;clear hst;go_wp2_with fail
  go_ret;refine⟨ua,uc,?_,?_,HX.o⟩
  ·rw[<-ahf.o];rfl
  rw[<-ahf.o];exact HST.o
def Ri (m l:ZB):ZB:=m.foldl (fun l s=>CS s l) l
theorem ahV (m k l:ZB):Ri (m++k) l=Ri k (Ri m l):=by simp[Ri]
theorem aHW (l:ZB):Ri [] l=l:=rfl
theorem aHV (s:BA) (l:ZB):Ri [s] l=CS s l:=rfl
theorem aHX (m l:ZB):(Ri m l).length<=m.length+l.length:=afk m l
mutual
theorem EM:(e:Ex)->(jo e).length<=e.size
 | .mk op name words lo hi args=>by
  have:=Xx args;rw[jo,Ex.size,bI];split<;>simp<;>omega
theorem Xx:(l:List Ex)->(kH l).length<=sizes l
 | []=>by simp[kH,sizes]
 | e::r=>by
  have:=EM e;have:=Xx r;rw[kH,sizes,bI];omega
end
theorem arO (m:Nat):m<=1000000->∀(e:Ex) (v:Value) (w:World) (l:ZB) (a:OA) (n c:Nat),e.size<=m->fC w e v->ji w l a n c->n+e.size<=1000000 ->
  Calls Tryz.prog 159 #[.slice a n c,v] w (aM5 (Ri (jo e) l) w):=by
 induction m with
 | zero=>intro _ e v w l a n c h;have:=size_pos e;omega
 | succ m ih =>
  intro YJ e v w l a n c hm he hs hn;obtain⟨aw,nw,cw,aa,na,ca,rfl,hw,hna,hca,ha,hx⟩:=he.parts;have hS:e.size=1+sizes e.args:=e.size_eq;have hla:=iI e.args;have HX:=ak ((Ext.refl w).alloc (.cells (aC e.op e.name aw nw cw e.lo e.hi aa na ca) 45));have lV:=ak (dG w (.cells (aC e.op e.name aw nw cw e.lo e.hi aa na ca) 45));have Eh:=ak (iK.ext HX.o e.args aa hx);have HS:=ak (hs.ext HX.o);have RY:=ak hs.1;have nK:=ak hna;have Gm:=ak (aoV e);have IH:=ak (ih (by omega));have Q9:na<=1000000:=by omega
  have hsz:sizes e.args<=m:=by omega
  have hn2:n+1+sizes e.args<=1000000:=by omega
  clear hw hna hca ha hx he hs hS hla ih hm hn;generalize jo e=NE at *;unfold exV;go_enter Tryz.func159,Tryz.ntmps159
  go_upto_region 1 with fail
  generalize w.alloc (.cells (aC e.op e.name aw nw cw e.lo e.hi aa na ca) 45)=wb at *;obtain⟨b0,b1,b2,b3,b4,b5,bf⟩:=eP lV.o;have hlx:=dH lV.o;by_cases h3:e.op=3
  case' pos =>
   have t3:(e.op==3)=true:=by simp[h3]
   have wZ:=ak (show Ri NE l=Ri (kH e.args) (CS e.name l) by rw[Gm.o,dw h3,ahV,aHV]);have hpl:=aeI e.name l;clear h3;go_wp2_with fail
   refine(aCF e.name l a n c _ HS.o (by omega)).mono ?_;rintro r w1 ⟨a1,c1,rfl,hs1,hx1⟩;have Fh:=ak hs1;have fQ:=ak hx1;have HB1:=ak (hx1.blk lV.o);have hl1:(CS e.name l).length<=n+1:=by have:=RY.o;omega
   clear hs1 hx1 b0 b1 b2 b3 b4 b5 bf hlx HS RY hpl;generalize CS e.name l=l1 at *;obtain⟨n1,hn1⟩:∃n1,n1=l1.length:=⟨_,rfl⟩
   rw[<-hn1] at Fh hl1 ⊢;clear hn1;go_upto_region 3 with fail
  case' neg =>
   have t3:(e.op==3)=false:=by simp[h3]
   have wZ:=ak (show Ri NE l=Ri (kH e.args) l by rw[Gm.o,dh h3];simp);have fQ:=ak (Ext.refl wb);have HB1:=lV;have hl1:n<=n+1:=by omega
   have Fh:=HS;clear h3 HS;obtain⟨l1,aP8⟩:∃l1,l1=l:=⟨_,rfl⟩
   have aXl:=ak (show Ri NE l=Ri (kH e.args) l1 by rw[aP8];exact wZ.o);rw[<-aP8] at Fh RY;clear aP8 wZ;have wZ:=aXl;clear aXl;go_upto_region 3 with fail
   clear b0 b1 b2 b3 b4 b5 bf hlx
  all_goals
   go_wp2_with fail
   go_loopg [0,5] na (fun g u i wr=>∃(j:Nat) (al:OA) (nl cl:Nat),j<=na/\g=na - j/\i=.int .i64 j/\u=.slice al nl cl/\nl<=n+1+(kH (e.args.take j)).length/\ji wr (Ri (kH (e.args.take j)) l1) al nl cl/\Ext wb wr)
   case atStart=>exact⟨0,_,_,_,by omega,rfl,rfl,rfl,by omega,by simpa[kH,aHW] using Fh.o,fQ.o⟩
   case round =>
    obtain⟨j,al,nl,cl,hj,hgj,rfl,rfl,hnl,hsj,hxj⟩:=hrel;have PO:=ak hgj;have HSJ:=ak hsj;have HXJ:=ak hxj;have HNL:=ak hnl;have HBJ:=ak (hxj.blk lV.o);clear hsj hxj hgj hnl;obtain⟨b0,b1,b2,b3,b4,b5,bf⟩:=eP HBJ.o;have hlx:=dH HBJ.o;by_cases hlt:j<na
    ·have hlt':j<e.args.length:=by have:=nK.o;omega
     have td:decide ((j:Int)<(na:Int))=true:=by simp;omega
     obtain⟨bb,off,rfl,rJ,rF,rH,rM,rG,ca1,c0,c1,c2,c3,c4,c5,c6⟩:=iK.at e.args _ (iK.ext HXJ.o _ _ Eh.o) j hlt';have Fj:=ak c6;have HST:=ak (iq e.args j hlt');have HSL:=ak (gV e.args (j+1));have HNT:=ak (ahI e.args j hlt');have a2L:=ak (Xx (e.args.take j));clear c6;generalize e.args[j]=a' at *;go_wp2_with fail
     refine(IH.o a' _ _ _ al nl cl (by have:=HST.o;have:=HSL.o;omega) Fj.o HSJ.o (by have:=HST.o;have:=HSL.o;have:=HNL.o;have:=a2L.o;omega)).mono ?_;rintro r w2 ⟨a2,c2',rfl,hs2,hx2⟩;have HL2:=ak (show (Ri (jo a') (Ri (kH (e.args.take j)) l1)).length<=n+1+(kH (e.args.take (j+1))).length by
      have h1:=aHX (jo a') (Ri (kH (e.args.take j)) l1);have h2:=HSJ.o.1;have h3:=HNL.o;rw[HNT.o,bI];omega)
     have HS2:=ak (show ji w2 (Ri (kH (e.args.take (j+1))) l1) a2 (Ri (jo a') (Ri (kH (e.args.take j)) l1)).length c2' by rw[HNT.o,ahV];exact hs2);have gI:=ak (HXJ.o.trans hx2);clear hs2 hx2 c0 c1 c2 c3 c4 c5 b0 b1 b2 b3 b4 b5 bf hlx;generalize (Ri (jo a') (Ri (kH (e.args.take j)) l1)).length=n2 at *;go_wp2_with fail
     go_roundg (na - (j+1))
     case measure=>have:=PO.o;omega
     case rel=>exact⟨j+1,a2,n2,c2',by omega,rfl,by go_num,rfl,HL2.o,HS2.o,gI.o⟩
    have HE2:=ak (show e.args.take j=e.args from aY (by have:=nK.o;omega));have td:decide ((j:Int)<(na:Int))=false:=by simp;omega
    rw[HE2.o,<-wZ.o] at HSJ;have Bg:=ak HSJ.o.1;go_wp2_with fail
    go_ret;refine⟨al,cl,?_,?_,HX.o.trans HXJ.o⟩
    ·rw[<-Bg.o];rfl
    rw[<-Bg.o];exact HSJ.o
theorem OY (e:Ex) (v:Value) (w:World) (hs:e.size<=900000) (he:fC w e v):Calls Tryz.prog 124 #[v] w (aM5 (lQ (jo e)) w):=by
 obtain⟨aw,nw,cw,aa,na,ca,rfl,-,-,-,-,-⟩:=he.parts;have HX:=ak ((Ext.refl w).alloc (.cells (aC e.op e.name aw nw cw e.lo e.hi aa na ca) 45));have HE:=ak (he.ext HX.o);clear he;unfold exV at *;go_enter Tryz.func124,Tryz.ntmps124
 go_wp2_with fail
 refine(arO 900000 (by omega) e _ _ [] none 0 0 hs HE.o ⟨rfl,bg 0,Or.inl ⟨rfl,rfl⟩,fun i hi=>by simp at hi⟩ (by omega)).mono ?_;rintro r w1 ⟨a1,c1,rfl,hs1,hx1⟩;have Fh:=ak hs1;have fQ:=ak (HX.o.trans hx1);clear hs1 hx1;go_wp2_with fail
 go_ret;exact⟨a1,c1,rfl,Fh.o,fQ.o⟩
open Go.RowKit
theorem aD9:zh 26 3 (.int .i64 0) 1 8:=⟨by kernel_rfl,by kernel_rfl,rfl,by omega⟩
def aGZ (l:ZN):List Value:=l.map fun (i:Nat)=>Value.int .i64 (i:Int)
theorem akF {w:World} {base:Nat} {e:TypeId} {size:Nat} {v:Value} {n:Nat} {xs:List Value} (h:w.ownsRow base e size v n xs):∃a c,v=.slice a n c:=by
 rcases h.2 with ⟨rfl,h0⟩|⟨g,cap,cur,rfl,_⟩
 ·exact⟨none,0,by rw[h0]⟩
 exact⟨_,_,rfl⟩
def aWe (l:List zO) (w:World) (e:Ending) (w':World):Prop:=Ext w w'/\((Sorts l/\∃a n c,e=.returned (.tuple #[.slice a n c,.int .i64 0]))\/(¬Sorts l/\e=.returned (.tuple #[.slice none 0 0,.int .i64 10])))
def RO1 (w wb:World) (l:List zO) (bs n m:Nat) (v:Value) (wr:World):Prop:=∃o,m=countOf l - o.length/\RInv l o/\wr.ownsRow wb.heap.size 3 1 v o.length (aGZ o)/\Ce bs (marks o n) wr/\Ext w wr/\wb.heap.size<=wr.heap.size
def RO2 (w3:World) (l:List zO) (o:ZN) (n:Nat) (nx lf i:Value) (wr:World):Prop:=∃k:Nat,i=.int .i64 k/\k<=n/\Ext w3 wr /\
 ((nx=.int .i64 (-1)/\(∃b:Bool,lf=.bool b/\(b=true ↔ ∃j,j<k/\ku l j=true/\j∉o))/\∀j,j<k->ku l j=true->j∉o->qV l o j≠[])\/(∃(p:Nat) (b:Bool),nx=.int .i64 p/\lf=.bool b/\p<n/\ku l p=true/\p∉o/\qV l o p=[]))
def RO3 (w5:World) (l:List zO) (o:ZN) (nm:ZB) (rd i:Value) (wr:World):Prop:=∃(k:Nat) (b:Bool),i=.int .i64 k/\k<=nm.length/\rd=.bool b/\(b=true ↔ ∀s∈nm.take k,∀d,firstAt l s=some d->d∈o)/\Ext w5 wr
theorem aut {l:List zO} {o:ZN} {nm:ZB} {k:Nat} (hk:k<nm.length) {b:Bool} (h:b=true ↔ ∀s∈nm.take k,∀d,firstAt l s=some d->d∈o) {b':Bool} (hb:b'=true ↔ ∀d,firstAt l nm[k]=some d->d∈o):(b&&b')=true ↔ ∀s∈nm.take (k+1),∀d,firstAt l s=some d->d∈o:=by
 rw[aJ,h,hb,aU hk];constructor
 ·rintro⟨h1,h2⟩ s hs d hd;rcases aT.1 hs with h3|h3
  ·exact h1 s h3 d hd
  simp only[aK] at h3;subst h3;exact h2 d hd
 intro h1;exact⟨fun s hs=>h1 s (aQ _ hs),h1 nm[k] (aS _ (by simp))⟩
theorem aq3 (l:List dY) (a:OA) (n c:Nat) (w:World) (hl:eX w l a n c) (hn:n<=1000) (hsz:∀x∈l,x.cond.size<=100000) :
  Calls Tryz.prog 94 #[.slice a n c] w (aWe (l.map dY.dfn) w):=by
 have HL:=ak hl;have HN:=ak hl.len;have zN:=ak hsz;obtain⟨dl,hdl⟩:∃dl,dl=l.map dY.dfn:=⟨_,rfl⟩
 have Yp:=ak hdl;have HDN:=ak (show n=dl.length by rw[hdl];simpa using hl.len);rw[<-hdl];clear hl hsz hdl;obtain⟨i0,hi0,hz0,hz1,hz2⟩:=info_parts abU.info;have hcn:countOf dl<=1000:=by
  have h1:=HDN.o;have h2:countOf dl<=dl.length:=by
   unfold countOf;have:=List.length_filter_le (ku dl) (List.range dl.length);simpa using this
  omega
 go_enter Tryz.func94,Tryz.ntmps94
 go_wp2_with (at_make;refine wpList_make_full _ rfl _ _ 191 rfl w.heap.size 4 i0 (.bool false) 1 abU.ht hi0 hz0 hz1 _ _ _ _ n rfl rfl rfl rfl ?c1 ?c2 ?c3 ?_)
 case c1=>rw[hz2];omega
 case c2=>unfold maxLen;omega
 case c3=>omega
 intro wb hown3 hgrow3;obtain⟨bs,hbs⟩:∃bs,bs=w.heap.size:=⟨_,rfl⟩
 rw[<-hbs] at hown3 ⊢;have Ko:=ak (Ce.kZ hown3);have gU:=ak (show Ext w wb from⟨hgrow3.os,hgrow3.tape,hgrow3.output,hgrow3.size,fun k hk=>hgrow3.block k hk (by simp)⟩);have PU:=ak hbs;have hbl:=Ko.o.lt;clear hown3 hgrow3 hbs;go_wp2_with fail
 go_loopg [4] (countOf dl) (RO1 w wb dl bs n)
 case atStart=>exact⟨[],rfl,RInv.start dl,World.ownsRow_nil _ _ _ _,by rw[aDk];exact Ko.o,gU.o,bg _⟩
 case round =>
  obtain⟨o,hm,hinv,hown,apf,hx,a6d⟩:=hrel;obtain⟨wo,rfl⟩:∃wo:World,wo=wr:=⟨_,rfl⟩
  have HM:=ak hm;have HI:=ak hinv;have HO:=ak hown;have U8:=ak apf;have HX:=ak hx;obtain⟨oa,oc,hov⟩:=akF hown;subst hov;have hol:=hinv.le;clear hm hinv hown apf hx Ko gU;go_wp2_with fail
  go_loopw [6,7,8] (RO2 wo dl o n) (fun _ _ i _=>n - (intOf i).toNat)
  case atStart=>exact⟨0,rfl,by omega,Ext.refl _,Or.inl ⟨rfl,⟨false,rfl,by simp⟩,fun j h=>by omega⟩⟩
  case round =>
   obtain⟨k,rfl,hk,hxk,hcase⟩:=hrel;obtain⟨wk,rfl⟩:∃wk:World,wk=wr:=⟨_,rfl⟩
   have HXK:=ak hxk;clear hxk;rcases hcase with ⟨rfl,⟨b,rfl,hb⟩,hno⟩|⟨p,b,rfl,rfl,hpn,hpd,hpo,hpm⟩
   ·have HB:=ak hb;have lZ:=ak hno;clear hb hno;by_cases hkn:k<n
    ·have hkl:k<l.length:=by have:=HN.o;omega
     have t1:=ah ((k:Int)<(n:Int));obtain⟨cb,oZ,v,rfl,jr,hrow⟩:=(HL.o.ext (HX.o.trans HXK.o)).at hkl;obtain⟨c0,c1,c2,c3,c4,c5,c6,c7,c8,c9⟩:=hrow.ten;have HEX:=ak jr.2.2.1;have hkk:=jr.1;have HID:=ak (show ku dl k=(l[k].kind==1) by rw[Yp.o];exact yx hkl);have HUS:=ak (show lM dl k=lQ (jo l[k].cond) by rw[Yp.o];exact BJ hkl);rw[hkk] at c0;have hLk:k<(marks o n).length:=by rw[VL];exact hkn
     have hcs:=(U8.o.ext HXK.o).cell hLk;rw[aeX hkn] at hcs;have Zr:(0:Int)<=(k:Int):=by omega
     have ti1:(k:Int)<(n:Int):=by omega
     clear jr hrow hkk c1 c8 c9;by_cases hgo:ku dl k=true/\k∉o
     ·obtain⟨hgd,hgo⟩:=hgo;have tk:(l[k].kind != 1)=false:=by rw[HID.o] at hgd;simp[bne,hgd]
      have aN0:=aj (k∈o) hgo;rw[aN0] at hcs;clear aN0;have HGO:=ak hgo;have HGD:=ak hgd;clear hgo hgd;go_wp2_with fail
      obtain⟨nm,hnm⟩:∃nm,nm=lQ (jo l[k].cond):=⟨_,rfl⟩
      have aZT:=zN.o _ (aI hkl);refine(OY l[k].cond _ _ (by omega) HEX.o).mono ?_;rw[<-hnm];rw[<-hnm] at HUS;rintro r w5 ⟨na,nc,rfl,hst,hx5⟩;have HST:=ak hst;have jY:=ak (HXK.o.trans hx5);have aZ3:nm.length<=100000:=by
       rw[hnm];have h1:(lQ (jo l[k].cond)).length<=(jo l[k].cond).length:=by have:=afk (jo l[k].cond) [];simpa[lQ] using this
       exact bC h1 (bC (EM _) aZT)
      clear hst hx5 hnm c0 c2 c3 c4 c5 c6 c7 hcs HEX;go_wp2_with fail
      go_loopw [9,11] (RO3 w5 dl o nm) (fun _ i _=>nm.length - (intOf i).toNat)
      case atStart=>exact⟨0,true,rfl,by omega,rfl,by simp,Ext.refl _⟩
      case round =>
       obtain⟨q,rd,rfl,hq,rfl,hrd,hxq⟩:=hrel;have HRD:=ak hrd;have HXQ:=ak hxq;clear hrd hxq;by_cases hqn:q<nm.length
       ·have t2:=ah ((q:Int)<(nm.length:Int));obtain⟨nb,aZF,rfl,cn⟩:=(HST.o.ext HXQ.o).2.2.2 q hqn;have ahT:=HX.o.trans (jY.o.trans HXQ.o);have HDC:=ak (BP l _ n c nm[q] wr (HL.o.ext ahT) (by omega));have Gh:=ak (show firstAt dl nm[q]=fG l nm[q] by rw[Yp.o];exact vZ l _);cases hda:fG l nm[q] with
        | none =>
         rw[hda,FI] at HDC;have HN3:=ak (aut hqn HRD.o (b':=true) (by rw[Gh.o,hda];simp));clear hda ahT;cases rd
         all_goals
          go_wp2_with fail
          refine HDC.o.mono ?_;rintro r w6 ⟨rfl,rfl⟩;go_wp2_with fail
          go_roundw
          case rel=>exact⟨q+1,_,by go_num,by omega,rfl,HN3.o,HXQ.o⟩
          case measure=>simp[intOf];omega
        | some d =>
         rw[hda,rY] at HDC;have aDE:d<l.length:=by
          have:=hda;unfold fG at this;rw[aP] at this;exact this.1
         have hdn:d<n:=by have:=HN.o;omega
         have HN3:=ak (aut hqn HRD.o (b':=decide (d∈o)) (by rw[Gh.o,hda];simp));have hLd:d<(marks o n).length:=by rw[VL];exact hdn
         have hcd:=(U8.o.ext (jY.o.trans HXQ.o)).cell hLd;rw[aeX hdn] at hcd;have td0:(0:Int)<=(d:Int):=by omega
         have td1:(d:Int)<(n:Int):=by omega
         clear hda ahT;cases rd
         all_goals
          go_wp2_with fail
          refine HDC.o.mono ?_;rintro r w6 ⟨rfl,rfl⟩;go_wp2_with fail
          go_roundw
          case rel=>exact⟨q+1,_,by go_num,by omega,rfl,HN3.o,HXQ.o⟩
          case measure=>simp[intOf];omega
       have t2:=aj ((q:Int)<(nm.length:Int));have HMI:=ak (show rd=true ↔ qV dl o k=[] by
        rw[HRD.o,aY (by omega),CW,HUS.o])
       cases rd
       ·go_wp2_with fail
        go_roundw
        case rel =>
         refine⟨k+1,by go_num,by omega,jY.o.trans HXQ.o,Or.inl ⟨rfl,⟨true,rfl,?_⟩,fun j hj hd ho=>?_⟩⟩
         ·exact⟨fun _=>⟨k,by omega,HGD.o,HGO.o⟩,fun _=>rfl⟩
         by_cases e:j=k
         ·subst e;intro h;have:=HMI.o.2 h;cases this
         exact lZ.o j (by omega) hd ho
        case measure=>simp[intOf];omega
       go_wp2_with fail
       go_roundw
       case rel=>exact⟨k+1,by go_num,by omega,jY.o.trans HXQ.o,Or.inr ⟨k,true,rfl,rfl,hkn,HGD.o,HGO.o,HMI.o.1 rfl⟩⟩
       case measure=>simp[intOf];omega
     have Ym:=ak (show ∃b':Bool,Value.bool b=.bool b'/\(b'=true ↔ ∃j,j<k+1/\ku dl j=true/\j∉o) from⟨b,rfl,by
      rw[HB.o];constructor
      ·rintro⟨j,h1,h2⟩;exact⟨j,by omega,h2⟩
      rintro⟨j,h1,h2,h3⟩;refine⟨j,?_,h2,h3⟩;rcases cO j k with h|h
      ·exact h
      obtain rfl:j=k:=by omega
      exact absurd ⟨h2,h3⟩ hgo⟩)
     have HN2:=ak (show ∀j,j<k+1->ku dl j=true->j∉o->qV dl o j≠[] from fun j hj hd ho=>by
      rcases cO j k with h|h
      ·exact lZ.o j h hd ho
      obtain rfl:j=k:=by omega
      exact absurd ⟨hd,ho⟩ hgo)
     by_cases hkd:ku dl k=true
     ·have tk:(l[k].kind != 1)=false:=by rw[HID.o] at hkd;simp[bne,hkd]
      have hin:=ah (k∈o) (Classical.byContradiction fun h=>hgo ⟨hkd,h⟩);rw[hin] at hcs;clear hin hgo hkd;go_wp2_with fail
      go_roundw
      case rel=>exact⟨k+1,by go_num,by omega,HXK.o,Or.inl ⟨rfl,Ym.o,HN2.o⟩⟩
      case measure=>simp[intOf];omega
     have tk:(l[k].kind != 1)=true:=by rw[HID.o] at hkd;simp[bne,hkd]
     clear hgo hkd;go_wp2_with fail
     go_roundw
     case rel=>exact⟨k+1,by go_num,by omega,HXK.o,Or.inl ⟨rfl,Ym.o,HN2.o⟩⟩
     case measure=>simp[intOf];omega
    have t1:=aj ((k:Int)<(n:Int));have hkd:k=dl.length:=by have:=HDN.o;omega
    have NR:=ak (HX.o.trans HXK.o);cases hbc:b
    ·have Iq:=ak (show Sorts dl from⟨o,HI.o.done fun i hi=>Classical.byContradiction fun h=>by
      have:=HB.o.2 ⟨i,by rw[hkd];exact pY hi,hi,h⟩;rw[hbc] at this;cases this⟩)
     clear hkd;go_wp2_with fail
     go_ret2
     exact⟨NR.o,Or.inl ⟨Iq.o,oa,_,oc,rfl⟩⟩
    obtain⟨j,hj1,hj2,hj3⟩:=HB.o.1 hbc;have Iq:=ak (show ¬Sorts dl from RInv.stuck (fun i hi ho=>lZ.o i (by rw[hkd];exact pY hi) hi ho) hj2 hj3);clear hkd;go_wp2_with fail
    go_ret2
    exact⟨NR.o,Or.inr ⟨Iq.o,rfl⟩⟩
   have t2:=aj ((p:Int)<0);have RY:=ak (HI.o.snoc hpd hpo hpm);have hlt:=HI.o.lt hpd hpo;have Ej:=ak (eF HO.o (HXK.o.fH []) (by simp));have Ym:=ak (U8.o.ext HXK.o);have hbk:=Ym.o.lt;have hLp:p<(marks o n).length:=by rw[VL];exact hpn
   have hzk:=HXK.o.size;have hfs:=Ym.o.free p;have hcp:=Ym.o.cell hLp;have HSS:=ak Ym.o;have tp0:(0:Int)<=(p:Int):=by omega
   have tp1:(p:Int)<(n:Int):=by omega
   clear hpd hpo hpm;by_cases hkn:k<n
   case' pos=>have t1:=ah ((k:Int)<(n:Int))
   case' neg=>have t1:=aj ((k:Int)<(n:Int))
   all_goals
    go_wp2_with (at_builtin;refine fK aD9 rfl _ _ rfl wb.heap.size _ o.length _ rfl Ej.o _ 1 1 rfl rfl rfl (by simp[Value.oneCell']) (by unfold maxLen;omega) (by omega) (by omega) ?_)
    intro v8 w8 ig hc8 hw8;obtain⟨a8,c8,OI⟩:=akF ig;subst OI;have hbr:bs∉rowOf (.slice oa o.length oc):=fun hm=>by have:=(HO.o.lt bs (dK.1 hm)).1;omega
    have hS8:Ce bs (marks o n) w8:=by
     obtain⟨cur,g1,g2⟩:=HSS.o.row;exact⟨cur,hc8.blk g1 hbr,g2⟩
    have hf8:=hS8.free p;have a7u:=hS8.cell hLp;have G8:=ak (hS8.set p true);rw[aDj] at G8;have a7F:=hS8.lt;have GK:=ak (show w8.ownsRow wb.heap.size 3 1 (.slice a8 (o.length+1) c8) (o++[p]).length (aGZ (o++[p])) by simpa[aGZ] using ig);have rD:=ak (hc8.ext (HX.o.trans HXK.o) (fun q hq=>by have h1:=(HO.o.lt q (dK.1 hq)).1;have h2:=PU.o;omega));have hz8:=hc8.size;have aUE:∀q,(Value.slice a8 (o.length+1) c8).ownBlock=some q->q∉[bs]:=fun q hq hm=>by
     simp only[aK] at hm;subst hm;rcases hw8 q hq with e|e
     ·exact hbr (dK.2 e)
     omega
    have HO9:=ak (eF GK.o ((dO.refl [bs] w8).setCell (p:=⟨bs,p,none⟩) (Or.inl (by simp)) (.bool true)) aUE);clear ig hc8 hw8 hS8 hfs hcp hbr aUE;go_wp2_with fail
    go_roundg (countOf dl - (o.length+1))
    case rel=>exact⟨o++[p],by simp,RY.o,HO9.o,G8.o,rD.o.jl (by simp;rw[PU.o];exact bg _) _,by simp;omega⟩
    case measure=>have:=HM.o;omega
theorem GV {e:Ex} (h:iL e=true):e.size<=100000:=by
 unfold iL gZ at h;simp only[aJ,aN] at h;omega
theorem Px {c:dY} (h:jO c=true):iL c.cond=true:=by
 unfold jO at h;simp only[aJ] at h;exact h.1.1.2
theorem Yd {s:List Attr} {l:List dY} {i:Nat} (h:lU s l i=0) (hi:i<l.length):jO l[i]=true:=by
 unfold lU at h;rw[iZ hi] at h;cases hb:jO l[i]
 ·rw[hb] at h;simp at h
 rfl
theorem aBE {s:List Attr} {l:List dY} (h:fD s≠0):eU s l=(0,fD s):=by unfold eU;rw[dw h]
theorem awz {s:List Attr} {l:List dY} (h:fD s=0) (hn:100<l.length):eU s l=(0,4):=by unfold eU;rw[dh (by simp[h]),dw hn]
theorem aBD {s:List Attr} {l:List dY} (h:fD s=0) (hn:¬100<l.length) {k:Nat} (hk:k<l.length) (h0:∀j,j<k->lU s l j=0) (h1:lU s l k≠0):eU s l=(k,lU s l k):=by
 unfold eU;have:=wU h1 h0 l.length hk;rw[dh (by simp[h]),dh hn,this,dw h1]
theorem apL {s:List Attr} {l:List dY} (h:fD s=0) (hn:¬100<l.length) (h0:∀j,j<l.length->lU s l j=0) (hs:¬Sorts (l.map dY.dfn)):eU s l=(0,10):=by
 unfold eU;rw[dh (by simp[h]),dh hn,nC _ h0,dh (by simp),dw hs]
theorem ag3 {s:List Attr} {l:List dY} (h:fD s=0) (hn:¬100<l.length) (h0:∀j,j<l.length->lU s l j=0) (hs:Sorts (l.map dY.dfn)) {k:Nat} (hk:k<l.length) (g0:∀j,j<k->mg l j=0) (g1:mg l k=4):eU s l=(k,4):=by
 unfold eU;rw[dh (by simp[h]),dh hn,nC _ h0,dh (by simp),dh (by simp[hs]),wU (by rw[g1];decide) g0 _ hk,g1]
theorem afD {s:List Attr} {l:List dY} (h:fD s=0) (hn:¬100<l.length) (h0:∀j,j<l.length->lU s l j=0) (hs:Sorts (l.map dY.dfn)) (g0:∀j,j<l.length->mg l j=0):eU s l=(0,0):=by
 unfold eU;rw[dh (by simp[h]),dh hn,nC _ h0,dh (by simp),dh (by simp[hs]),nC _ g0]
def aa6 (r:Nat×Int):Value:=.tuple #[.int .i64 (r.1:Nat),.int .i64 r.2]
theorem qL {r:Nat×Int} {i:Nat} {e:Int} {w w':World} (h:r=(i,e)) (hx:Ext w w'):dN (aa6 r) w (.returned (.tuple #[.int .i64 (i:Nat),.int .i64 e])) w':=by subst h;exact⟨rfl,hx⟩
def a0V (b off n c k:Nat) (sa:OA) (sn sc:Nat) (nm:BA) (q:Nat) (ab:Bool):Nat->Value->World->Prop
 | 0,u,_=>u=.agg #[.slice sa sn sc]
 | 1,u,_=>u=.slice (some ⟨b,off,none⟩) n c
 | 2,u,_=>u=.int .i64 k
 | 3,u,_=>u=.pointer (some ⟨b,off+k*10,none⟩)
 | 4,u,_=>u=.pointer (some ⟨b,off+k*10+1,none⟩)
 | 5,u,_=>u=.string nm
 | 6,u,_=>u=.tuple #[.int .i64 q,.bool ab]
 | 7,u,_=>u=.tuple #[.int .i64 q,.bool ab]
 | 8,u,_=>u=.int .i64 q
 | 9,u,_=>u=.bool ab
 | 10,u,_=>u=.int .i64 q
 | _,u,_=>u=.bool ab
def dY.okk (c:dY):Prop:=c.ok/\qU c.jZ<1000000000000000
theorem dY.okk.fit {c:dY} (h:c.okk):c.fit:=h.1.fit
theorem ac9:(l:List Wb)->kK l<=40->qU l<=kK l
 | [],_=>by simp[qU]
 | .mk n c u::r,h=>by
  rw[kK] at h ⊢;have h1:=ac9 u (by omega);have h2:=ac9 r (by omega);rw[qU];omega
theorem aqn:(d:Nat)->(l:List Wb)->pW d l=true->su l->Vg l
 | _,[],_,_=>by unfold Vg;trivial
 | d,.mk n c u::r,h,hf=>by
  rw[pW] at h;simp only[aJ] at h;rw[su] at hf;have:=GV h.1.1.2;unfold Vg;exact⟨hf.1,hf.2.1,hf.2.2.1,by omega,aqn _ u h.1.2 hf.2.2.2.2.2.1,aqn d r h.2 hf.2.2.2.2.2.2⟩
theorem dY.fit.okk {c:dY} (h:c.fit) (hc:jO c=true):c.okk:=by
 have hx:=GV (Px hc);have key:Vg c.jZ/\qU c.jZ<=40:=by
  unfold jO at hc;simp only[aJ,bV,aN] at hc;rcases hc.1.2 with h0|⟨⟨_,h1⟩,h2⟩
  ·rw[aX h0];exact⟨by unfold Vg;trivial,by simp[qU]⟩
  exact⟨aqn 16 _ h2 h.2.2.2.2.2,bC (ac9 _ h1) h1⟩
 exact⟨⟨h.1,h.2.1,h.2.2.1,by omega,key.1,by omega⟩,by omega⟩
theorem uw (s:List Attr) (l:List dY) (sv:Value) (a:OA) (n c:Nat) (w:World) (hs:fJ w s sv) (hf:∀x∈s,x.fits) (hsl:s.length<=1000000000000000) (hl:eX w l a n c) (hn:n<=1000000000000000) (hok:∀x∈l,x.fit) :
  Calls Tryz.prog 60 #[sv,.slice a n c] w (dN (aa6 (eU s l)) w):=by
 obtain⟨sa,sn,sc,rfl,hsn⟩:=hs.slice;have HS:=ak hs;have HL:=ak hl;have HN:=ak hl.len;have HF:=ak hf;have Ej:=ak hok;obtain⟨R,hR⟩:∃R,R=eU s l:=⟨_,rfl⟩
 rw[<-hR];have HR:=ak hR;clear hs hl hf hok hR hsn;go_enter Tryz.func60,Tryz.ntmps60
 go_upto_region 1 with fail
 obtain⟨wa,dW⟩:∃wa,wa=w.alloc (.cells #[.slice sa sn sc] 24):=⟨_,rfl⟩
 have hxa:Ext w wa:=by rw[dW];exact(Ext.refl _).alloc _
 have hb:wa.heap[w.heap.size]?=some (.cells #[.slice sa sn sc] 24 (0,0)):=by rw[dW];exact dG w _
 have fE:=ak hxa;have sS:=ak hb;obtain⟨d0,df⟩:=gQ hb;rw[<-dW];clear hxa hb dW;go_wp2_with fail
 refine(GX s _ wa (HS.o.ext fE.o) HF.o hsl).mono ?_;rintro r w1 ⟨rfl,hx1⟩;have fQ:=ak (fE.o.trans hx1);have HB1:=ak (hx1.blk sS.o);clear hx1 d0 df;by_cases hse:fD s=0
 case neg =>
  have tz:(fD s != 0)=true:=by simp[hse]
  have HQ:=ak (HR.o.trans (aBE hse));go_wp2_with fail
  go_ret2
  exact qL HQ.o fQ.o
 have tz:(fD s != 0)=false:=by simp[hse]
 have U8:=ak hse;clear hse;by_cases hm:100<n
 ·have tm:=ah ((100:Int)<(n:Int));have HQ:=ak (HR.o.trans (awz U8.o (by have:=HN.o;omega)));go_wp2_with fail
  go_ret2
  exact qL HQ.o fQ.o
 have tm:=aj ((100:Int)<(n:Int));have HM:=ak (show ¬100<l.length by have:=HN.o;omega);go_wp2_with fail
 go_loopw [7] (fun t wr=>∃k:Nat,t=.int .i64 k/\k<=n/\(∀j,j<k->lU s l j=0)/\wr.heap[w.heap.size]?=some (.cells #[.slice sa sn sc] 24 (0,0))/\Ext w wr) (fun t _=>n - (intOf t).toNat)
 case atStart=>exact⟨0,rfl,by omega,fun j h=>by omega,HB1.o,fQ.o⟩
 case round =>
  obtain⟨k,rfl,hk,hno,hbx,hxr⟩:=hrel;have lZ:=ak hno;have lV:=ak hbx;have kC:=ak hxr;obtain⟨d0,df⟩:=gQ hbx;clear hno hbx hxr HB1 fQ;by_cases hkn:k<n
  ·have hkl:k<l.length:=by have:=HN.o;omega
   have t1:=ah ((k:Int)<(n:Int));obtain⟨b,off,v,rfl,jr,hrow⟩:=(HL.o.ext kC.o).at hkl;obtain⟨c0,c1,c2,c3,c4,c5,c6,c7,c8,c9⟩:=hrow.ten;have GI:=ak jr;have Ei:=ak hrow;have aXe:=ak (Ej.o _ (aI hkl));have Zr:(0:Int)<=(k:Int):=by omega
   have ti1:(k:Int)<(n:Int):=by omega
   have HCE:=ak (show lU s l k=if jO l[k]=false then 5 else if (findAt l l[k].name).getD 0<k then 8 else if (iE s l[k].name).isSome then 8 else if fB s l l[k].cond≠0 then fB s l l[k].cond else iW s l l[k].jZ by unfold lU;rw[iZ hkl]);have GH:=ak (fun (e:Int) (h:lU s l k=e) (h0:e≠0)=>HR.o.trans (by rw[aBD U8.o HM.o hkl lZ.o (by rw[h];exact h0),h]));have aXn:=ak jr.2.1;clear jr hrow;go_upto_region 9 with fail
   go_wp2_with fail
   refine(aae l[k] v wr GI.o aXe.o).mono ?_;rintro r w3 ⟨rfl,hx3⟩;have gU:=ak (kC.o.trans hx3);have HB3:=ak (hx3.blk lV.o);have tH:=ak (GI.o.mono hx3.sub);have HR3:=ak (Ei.o.mono hx3.sub);clear hx3 d0 df c0 c1 c2 c3 c4 c5 c6 c7 c8 c9 lV GI Ei;obtain⟨d0,df⟩:=gQ HB3.o;obtain⟨c0,c1,c2,c3,c4,c5,c6,c7,c8,c9⟩:=HR3.o.ten;cases hcb:jO l[k]
   ·have HQ:=ak (GH.o 5 (by rw[HCE.o,hcb];rfl) (by decide));clear hcb;go_wp2_with fail
    go_ret2
    exact qL HQ.o gU.o
   have Zm:=ak (aXe.o.okk hcb);rw[hcb] at HCE;simp only[Bool.true_eq_false,if_false] at HCE;clear hcb;go_wp2_with fail
   rw[aXn.o];refine(MZ l _ n c l[k].name w3 (HL.o.ext gU.o) hn).mono ?_;rintro r w4 ⟨rfl,rfl⟩;unfold yw;obtain⟨F,hF⟩:∃F,F=(findAt l l[k].name).getD 0:=⟨_,rfl⟩
   rw[<-hF] at HCE ⊢;have hFl:F<=l.length:=by
    rw[hF];cases hfa:findAt l l[k].name with
    | none=>simp
    | some q =>
     unfold findAt at hfa;rw[aP] at hfa;obtain⟨h1,_⟩:=hfa;simp only[Option.getD_some];omega
   generalize (findAt l l[k].name).isSome=fb;clear hF;by_cases hfk:F<k
   ·have tf:=ah (F<k) hfk;have HQ:=ak (GH.o 8 (by rw[HCE.o,dw hfk]) (by decide));go_wp2_with fail
    go_ret2
    exact qL HQ.o gU.o
   have tf:=aj (F<k) hfk;rw[dh hfk] at HCE;clear hFl;go_wp2_with fail
   have yD:=ak (fun (W:World) (hW:Ext w3 W)=>Fz s _ l[k].name W (HS.o.ext (gU.o.trans hW)) hsl);obtain⟨q,hq⟩:∃q,q=(iE s l[k].name).getD 0:=⟨_,rfl⟩
   obtain⟨ab,hab⟩:∃ab,ab=(iE s l[k].name).isSome:=⟨_,rfl⟩
   have HIV:=ak (show yw (iE s l[k].name)=.tuple #[.int .i64 (q:Nat),.bool ab] by rw[hq,hab];rfl);rw[<-hab] at HCE;rw[aXn.o] at c1;obtain⟨nm,hnm⟩:∃nm,nm=l[k].name:=⟨_,rfl⟩
   rw[<-hnm] at c1 yD HIV;clear hq hab hnm;go_upto_region 14 with fail
   refine iP (m:=12) [11] (GrG w3) SX (zu (a0V b off n c k sa sn sc nm q ab)) (by kernel_rfl) (by kernel_rfl) ((Ext.refl w3).drew) ?_ ?_ ?_
   ·intro i k v W W' hi hk hne hout h hE;have hE:Ext W W':=hE;have hi':=ltc12 hi;clear hi hk hne hout;rcases hi' with rfl|rfl|rfl|rfl|rfl|rfl|rfl|rfl|rfl|rfl|rfl|rfl
    ·exact h
    ·exact h
    ·exact h
    ·exact h
    ·exact h
    ·exact h
    ·exact h
    ·exact h
    ·exact h
    ·exact h
    ·exact h
    exact h
   ·intro q op hq ho vs W hW hd ρ hρ;have hq':=ltc12 hq;clear hq;have o2:ρ (.tmp 2)=.pointer (some ⟨w.heap.size,0,none⟩):=hρ.out 2 rfl;have o1:ρ (.tmp 1)=.slice (some ⟨b,off,none⟩) n c:=hρ.out 1 rfl;have o7:ρ (.tmp 7)=.int .i64 k:=hρ.out 7 rfl;have i1:=hρ.i 1 54;have i2:=hρ.i 2 55;have i3:=hρ.i 3 56;have i4:=hρ.i 4 57;have i0:=hρ.i 0 53;have i5:=hρ.i 5 58;have i6:=hρ.i 6 59;have i7:=hρ.i 7 52;have i8:=hρ.i 8 60;have i9:=hρ.i 9 61;have hc:=hρ.const;have hfn:=hρ.func;clear hρ;have HW:=ak (show Ext w3 W from hW);rcases hq' with rfl|rfl|rfl|rfl|rfl|rfl|rfl|rfl|rfl|rfl|rfl|rfl
    ·cases ho
     clear hd;have g0:=HW.o.cell d0;unfold dF;go_simp;exact⟨Ext.refl W,rfl⟩
    ·cases ho
     clear hd;unfold dF;go_simp;exact⟨Ext.refl W,rfl⟩
    ·cases ho
     clear hd;unfold dF;go_simp;exact⟨Ext.refl W,rfl⟩
    ·cases ho
     have h1:vs 1=_:=hd ⟨1,.data⟩ (by simp) rfl;rw[h1] at i1;have h2:vs 2=_:=hd ⟨2,.data⟩ (by simp) rfl;rw[h2] at i2;clear hd;unfold dF;go_simp;exact⟨Ext.refl W,rfl⟩
    ·cases ho
     have h3:vs 3=_:=hd ⟨3,.data⟩ (by simp) rfl;rw[h3] at i3;clear hd;unfold dF;go_simp;exact⟨Ext.refl W,rfl⟩
    ·cases ho
     have h4:vs 4=_:=hd ⟨4,.data⟩ (by simp) rfl;rw[h4] at i4;clear hd;have g1:=HW.o.cell c1;unfold dF;go_simp;exact⟨Ext.refl W,rfl⟩
    ·cases ho
     have h0:vs 0=_:=hd ⟨0,.data⟩ (by simp) rfl;rw[h0] at i0;have h5:vs 5=_:=hd ⟨5,.data⟩ (by simp) rfl;rw[h5] at i5;clear hd;unfold dF;go_simp;refine(yD.o W HW.o).mono ?_;rw[HIV.o];rintro r w5 ⟨rfl,hx5⟩;exact⟨_,rfl,hx5,HW.o.trans hx5,rfl⟩
    ·cases ho
     have h6:vs 6=_:=hd ⟨6,.data⟩ (by simp) rfl;rw[h6] at i6;clear hd;unfold dF;go_simp;exact⟨Ext.refl W,rfl⟩
    ·cases ho
     have h7:vs 7=_:=hd ⟨7,.data⟩ (by simp) rfl;rw[h7] at i7;clear hd;unfold dF;go_simp;exact⟨Ext.refl W,rfl⟩
    ·cases ho
     have h7:vs 7=_:=hd ⟨7,.data⟩ (by simp) rfl;rw[h7] at i7;clear hd;unfold dF;go_simp;exact⟨Ext.refl W,rfl⟩
    ·cases ho
     have h8:vs 8=_:=hd ⟨8,.data⟩ (by simp) rfl;rw[h8] at i8;clear hd;unfold dF;go_simp;exact⟨Ext.refl W,rfl⟩
    cases ho
    have h9:vs 9=_:=hd ⟨9,.data⟩ (by simp) rfl;rw[h9] at i9;clear hd;unfold dF;go_simp;exact⟨Ext.refl W,rfl⟩
   intro vs W hW hR;rw[dw (by decide +kernel)];have h11:vs 11=.bool ab:=hR 11 (by simp) (by omega);simp only[acts,gK,List.range,List.range.loop,bF,dA,h11];go_simp;have hW2:Ext w3 W:=hW;clear hR hW h11;have hx6:=hW2;clear hW2;have oL:=ak (gU.o.trans hx6);have nM:=ak (hx6.blk HB3.o);have HR6:=ak (HR3.o.mono hx6.sub);have Fj:=ak (tH.o.mono hx6.sub);obtain⟨w6,hw6⟩:∃w6,w6=W:=⟨_,rfl⟩
   rw[<-hw6] at oL nM HR6 Fj ⊢;clear hw6 hx6 HB3 HR3 tH d0 df c0 c1 c2 c3 c4 c5 c6 c7 c8 c9;obtain⟨d0,df⟩:=gQ nM.o;obtain⟨c0,c1,c2,c3,c4,c5,c6,c7,c8,c9⟩:=HR6.o.ten;cases hat:ab
   case true =>
    have HQ:=ak (GH.o 8 (by rw[HCE.o,hat];rfl) (by decide));clear hat;go_wp2_with fail
    go_ret2
    exact qL HQ.o oL.o
   rw[hat] at HCE;simp only[Bool.false_eq_true,if_false] at HCE;clear hat;go_wp2_with fail
   go_still_tail 7,(by kernel_rfl)
   change wpList _ _ _ _ _ w6.drew
   have hx7:Ext w6 w6.drew:=(Ext.refl w6).drew;generalize w6.drew=w7 at hx7 ⊢;have xH:=ak (oL.o.trans hx7);have NK:=ak (hx7.blk nM.o);have HR7:=ak (HR6.o.mono hx7.sub);have L9:=ak (Fj.o.mono hx7.sub);clear hx7 d0 df c0 c1 c2 c3 c4 c5 c6 c7 c8 c9 nM HR6 Fj;go_wp2_with fail
   refine(Oc s l HF.o hsl _ n c hn 1000000000000000 l[k].cond _ _ w7 Zm.o.1.2.2.2.1 (by omega) Zm.o.1.2.2.1 (HS.o.ext xH.o) (HL.o.ext xH.o) L9.o.2.2.1).mono ?_;rintro r w8 ⟨rfl,vM⟩;have rD:=ak (xH.o.trans vM);have Vd:=ak (vM.blk NK.o);have HR8:=ak (HR7.o.mono vM.sub);have MR:=ak (L9.o.mono vM.sub);clear vM NK HR7 L9;obtain⟨d0,df⟩:=gQ Vd.o;obtain⟨c0,c1,c2,c3,c4,c5,c6,c7,c8,c9⟩:=HR8.o.ten;obtain⟨E1,hE1⟩:∃E1,E1=fB s l l[k].cond:=⟨_,rfl⟩
   rw[<-hE1] at HCE ⊢;clear hE1;by_cases hz:E1=0
   case neg =>
    have ty:(E1 != 0)=true:=by simp[hz]
    have HQ:=ak (GH.o E1 (by rw[HCE.o,dw hz]) hz);clear hz;go_wp2_with fail
    go_ret2
    exact qL HQ.o rD.o
   subst hz;simp only[ne_eq,not_true_eq_false,if_false] at HCE;have ty:((0:Int) != 0)=false:=rfl;go_wp2_with fail
   go_still_tail 7,(by kernel_rfl)
   change wpList _ _ _ _ _ w8.drew
   have Ae:Ext w8 w8.drew:=(Ext.refl w8).drew;generalize w8.drew=w9 at Ae ⊢;have Ai:=ak (rD.o.trans Ae);have HB9:=ak (Ae.blk Vd.o);have HR9:=ak (HR8.o.mono Ae.sub);have NI:=ak (MR.o.mono Ae.sub);clear Ae d0 df c0 c1 c2 c3 c4 c5 c6 c7 c8 c9 Vd HR8 MR;go_wp2_with fail
   refine(akb s l HF.o hsl _ n c hn 1000000000000000 l[k].jZ _ _ _ _ w9 Zm.o.2 (by omega) Zm.o.1.2.2.2.2.1 (HS.o.ext Ai.o) (HL.o.ext Ai.o) NI.o.2.2.2.2.2.2.1 NI.o.2.2.2.1).mono ?_;rintro r wA ⟨rfl,hxA⟩;have aWB:=ak (Ai.o.trans hxA);have aiG:=ak (hxA.blk HB9.o);clear hxA HB9 HR9 NI;obtain⟨E2,hE2⟩:∃E2,E2=iW s l l[k].jZ:=⟨_,rfl⟩
   rw[<-hE2] at HCE ⊢;clear hE2;by_cases hz2:E2=0
   case neg =>
    have tz2:(E2 != 0)=true:=by simp[hz2]
    have HQ:=ak (GH.o E2 HCE.o hz2);clear hz2;go_wp2_with fail
    go_ret2
    exact qL HQ.o aWB.o
   subst hz2;go_wp2_with fail
   go_roundw
   case rel =>
    refine⟨k+1,by go_num,by omega,fun j hj=>?_,aiG.o,aWB.o⟩;by_cases e':j=k
    ·subst e';exact HCE.o
    exact lZ.o j (by omega)
   case measure=>simp[intOf];omega
  have t1:=aj ((k:Int)<(n:Int));have nK:=ak (show ∀j,j<l.length->lU s l j=0 from fun j hj=>lZ.o j (by have:=HN.o;omega));have zN:=ak (show ∀x∈l,x.cond.size<=100000 by
   intro x hx;obtain⟨j,hj,rfl⟩:=bD.1 hx;exact GV (Px (Yd (nK.o j hj) hj)))
  clear lZ lV d0 df;go_wp2_with fail
  refine(aq3 l a n c wr (HL.o.ext kC.o) (by omega) zN.o).mono ?_;rintro r w3 ⟨hx3,⟨hso,oa,on,oc,rfl⟩|⟨hso,rfl⟩⟩
  ·have gU:=ak (kC.o.trans hx3);have HSO:=ak hso;clear hx3 hso;go_wp2_with fail
   go_loopw [16] (fun t wr=>∃k:Nat,t=.int .i64 k/\k<=n/\(∀j,j<k->mg l j=0)/\Ext w wr) (fun t _=>n - (intOf t).toNat)
   case atStart=>exact⟨0,rfl,by omega,fun j h=>by omega,gU.o⟩
   case round =>
    obtain⟨k2,rfl,hk2,hno,hxr⟩:=hrel;have lZ:=ak hno;have axe:=ak hxr;clear hno hxr gU kC;by_cases hkn2:k2<n
    ·have hkl:k2<l.length:=by have:=HN.o;omega
     have t2:=ah ((k2:Int)<(n:Int));obtain⟨b,off,v,rfl,jr,hrow⟩:=(HL.o.ext axe.o).at hkl;obtain⟨c0,c1,c2,c3,c4,c5,c6,c7,c8,c9⟩:=hrow.ten;have GI:=ak jr;have Zm:=ak ((Ej.o _ (aI hkl)).okk (Yd (nK.o k2 hkl) hkl));have Zr:(0:Int)<=(k2:Int):=by omega
     have ti1:(k2:Int)<(n:Int):=by omega
     have HLG:=ak (show mg l k2=if 2000<expanded l l[k2].cond\/iC l l[k2].jZ=true then 4 else 0 by unfold mg;rw[iZ hkl]);have GH:=ak (fun (h:mg l k2=4)=>HR.o.trans (ag3 U8.o HM.o nK.o HSO.o hkl lZ.o h));obtain⟨E,hE⟩:∃E,E=expanded l l[k2].cond:=⟨_,rfl⟩
     have HEE:=ak hE;rw[<-hE] at HLG;clear jr hrow hE;go_wp2_with fail
     refine(zy l _ n c (by omega) (fun x hx=>by have:=zN.o x hx;omega) l[k2].cond _ wr Zm.o.1.2.2.2.1 (HL.o.ext axe.o) GI.o.2.2.1).mono ?_;rw[<-HEE.o];rintro r w5 ⟨rfl,hx5⟩;have jY:=ak (axe.o.trans hx5);have c85:=hx5.cell c8;have xq:=ak (GI.o.mono hx5.sub);clear hx5 c0 c1 c2 c3 c4 c5 c6 c7 c8 c9;by_cases hz:2000<E
     ·have tz:=ah ((2000:Int)<(E:Int));have HQ:=ak (GH.o (by rw[HLG.o,dw (Or.inl hz)]));go_wp2_with fail
      go_ret2
      exact qL HQ.o jY.o
     have tz:=aj ((2000:Int)<(E:Int));have HL2:=ak (show mg l k2=if iC l l[k2].jZ=true then 4 else 0 by rw[HLG.o];simp only[hz,false_or]);go_wp2_with fail
     refine(agm l _ n c (by omega) (fun x hx=>by have:=zN.o x hx;omega) 1000000000000000 l[k2].jZ _ _ _ w5 Zm.o.2 (by omega) Zm.o.1.2.2.2.2.1 (HL.o.ext jY.o) xq.o.2.2.2.2.2.2.1 xq.o.2.2.2.1).mono ?_;rintro r w6 ⟨rfl,hx6⟩;have oL:=ak (jY.o.trans hx6);clear hx6 c85;cases hb:iC l l[k2].jZ
     ·have HZ:=ak (show mg l k2=0 by rw[HL2.o,hb];rfl);clear hb;go_wp2_with fail
      go_roundw
      case rel =>
       refine⟨k2+1,by go_num,by omega,fun j hj=>?_,oL.o⟩;by_cases e':j=k2
       ·subst e';exact HZ.o
       exact lZ.o j (by omega)
      case measure=>simp[intOf];omega
     have HQ:=ak (GH.o (by rw[HL2.o,hb];rfl));clear hb;go_wp2_with fail
     go_ret2
     exact qL HQ.o oL.o
    have t2:=aj ((k2:Int)<(n:Int));have HQ:=ak (HR.o.trans (afD U8.o HM.o nK.o HSO.o fun j hj=>lZ.o j (by have:=HN.o;omega)));go_wp2_with fail
    go_ret2
    exact qL (i:=0) HQ.o axe.o
  have gU:=ak (kC.o.trans hx3);have HQ:=ak (HR.o.trans (apL U8.o HM.o nK.o hso));clear hx3 hso;go_wp2_with fail
  go_ret2
  exact qL (i:=0) HQ.o gU.o
def VZ (v:Value):Option (DataW Value×List MemPlace):=some (.held v,[])
def RU (D:DataW Value) (f:Lit->Option Value):Prop:=∀x,WideAt.IsKeyLit x->Maps.has D x=(f x).isSome/\∀v,f x=some v->∀z,D.atKey x z=.held v
def MapAt (w:World) (k:TypeId) (b n:Nat) (f:Lit->Option Value):Prop:=∃D:DataW Value,w.ownsMap Tryz.prog k VZ b n D/\RU D f
open Classical in
noncomputable def Y9 (f:Lit->Option Value) (x:Lit) (v:Option Value):Lit->Option Value:=fun y=>if y=x then v else f y
theorem Vr (f:Lit->Option Value) (x:Lit) (v:Option Value):Y9 f x v x=v:=by simp[Y9]
theorem Qz (f:Lit->Option Value) {x y:Lit} (v:Option Value) (h:y≠x):Y9 f x v y=f y:=by simp[Y9,h]
theorem MapAt.made (w:World) (k:TypeId):MapAt (w.alloc (.map #[] 0)) k w.heap.size 0 (fun _=>none) :=
 ⟨.map [],World.ownsMap_made w _ k VZ,fun x _=>⟨rfl,fun v h=>by cases h⟩⟩
theorem MapAt.lt {w:World} {k:TypeId} {b n:Nat} {f:Lit->Option Value} (h:MapAt w k b n f):b<w.heap.size:=by obtain⟨D,h,_⟩:=h;exact h.lt
theorem MapAt.more {w:World} {k:TypeId} {b n n':Nat} {f:Lit->Option Value} (h:MapAt w k b n f) (hn:n<=n'):MapAt w k b n' f:=by obtain⟨D,h,hs⟩:=h;exact⟨D,h.mono hn,hs⟩
theorem MapAt.fH {w w':World} {k:TypeId} {b n:Nat} {f:Lit->Option Value} {N:ZN} (h:MapAt w k b n f) (hc:dO N w w') (hn:b∉N):MapAt w' k b n f:=by
 have hlt:=h.lt;obtain⟨D,⟨es,clock,hb,r⟩,hs⟩:=h;exact⟨D,⟨es,clock,(hc.block b hlt hn).trans hb,r⟩,hs⟩
theorem MapAt.ext {w w':World} {k:TypeId} {b n:Nat} {f:Lit->Option Value} (h:MapAt w k b n f) (he:Ext w w'):MapAt w' k b n f:=h.fH (he.fH []) (by simp)
theorem MapAt.congr {w:World} {k:TypeId} {b n:Nat} {f g:Lit->Option Value} (h:MapAt w k b n f) (e:∀x,f x=g x):MapAt w k b n g:=by rw[show g=f from funext fun x=>(e x).symm];exact h
theorem apg {w w':World} {b:Nat} (h:w.grownBy w' (some b)):dO [b] w w':=⟨h.os,h.tape,h.output,h.size,fun k hk hn=>h.block k hk (fun e=>hn (by simp at e;simp[e]))⟩
theorem RU.at {D:DataW Value} {f:Lit->Option Value} (h:RU D f) {x:Lit} (hx:WideAt.IsKeyLit x) {v z:Value} (hv:DataW.held v=D.atKey x (.held z)):v=(f x).getD z:=by
 obtain⟨h1,h2⟩:=h x hx;cases hf:f x with
 | none =>
  rw[hf] at h1;rw[atKey_of_not_has h1] at hv;simpa using hv
 | some u =>
  rw[h2 u hf] at hv;simpa using hv
theorem RU.put {D:DataW Value} {f:Lit->Option Value} (h:RU D f) (hD:IsMap D) {x:Lit} (hx:WideAt.IsKeyLit x) (v:Value):RU (D.put x (.held v)) (Y9 f x (some v)):=by
 intro y hy;by_cases e:y=x
 ·subst e;rw[Vr];refine⟨by rw[has_put_same hD hx];rfl,fun u hu z=>?_⟩;rw[atKey_put_same hD hx];cases hu;rfl
 rw[Qz _ _ e];refine⟨by rw[has_put_other e];exact(h y hy).1,fun u hu z=>?_⟩;rw[atKey_put_other e];exact(h y hy).2 u hu z
theorem RU.del {D:DataW Value} {f:Lit->Option Value} (h:RU D f) {x:Lit} (hx:WideAt.IsKeyLit x):RU (D.del x) (Y9 f x none):=by
 intro y hy;by_cases e:y=x
 ·subst e;rw[Vr];exact⟨by rw[has_del_same];rfl,fun u hu=>by cases hu⟩
 rw[Qz _ _ e];refine⟨by rw[has_del_other e];exact(h y hy).1,fun u hu z=>?_⟩;rw[atKey_del_other e];exact(h y hy).2 u hu z
theorem RU.size {D:DataW Value} {f:Lit->Option Value} (h:RU D f) {es:List (Lit×DataW Value)} (hD:D=.map es) (hk:∀p∈es,WideAt.IsKeyLit p.1):Maps.size D=0 ↔ ∀x,WideAt.IsKeyLit x->f x=none:=by
 subst hD;rw[size_eq];constructor
 ·intro h0 x hx;have:=(h x hx).1;rw[aX h0] at this;cases hf:f x with
  | none=>rfl
  | some u=>rw[hf] at this;simp[has_eq] at this
 intro h0;cases es with
 | nil=>rfl
 | cons p r =>
  have hp:=hk p (by simp);have:=(h p.1 hp).1;rw[h0 p.1 hp,has_eq] at this;simp[WideAt.sameKey_self hp] at this
section
variable (w:World) {ops:Array Oper} {rest:List Oper} {o:Oper} {a:Act} {Q:Exit->Act->World->Prop}
theorem jI (hg:o.guard=none) (m x:Operand) (t:TypeId) (hop:o.op=Op.lookup t m x true) (k e:TypeId) (K:Keyed Tryz.prog k) (ht:Tryz.prog.underlying t=some (.map k e)) {z:Value} (hz:(zeroValue e).run Tryz.prog w=.ok z w) (b n:Nat) (f:Lit->Option Value)
  (hm:a.eval m=.map (some b)) (hmap:MapAt w k b n f) (key:Value) (kl:Lit) (hx:a.eval x=key) (hkey:keyOf Tryz.prog k key=some kl) (hkl:WideAt.IsKeyLit kl)
  (hK:wpList Tryz.prog ops Q rest (a.put o.dst (.tuple #[(f kl).getD z,.bool (f kl).isSome])) w):wpList Tryz.prog ops Q (o::rest) a w:=by
 obtain⟨D,hown,hf⟩:=hmap;refine wpList_lookup_own_ok w hg m x t hop k e K ht VZ hz (.held z) [] rfl b n D hm hown key kl hx hkey fun v ps hv=>?_
 have e1:DataW.held v=D.atKey kl (.held z):=by
  simp only[VZ,Option.some.injEq,Prod.mk.injEq] at hv;exact hv.1
 rw[hf.at hkl e1,(hf kl hkl).1];exact hK
theorem Ak (hg:o.guard=none) (m x:Operand) (t:TypeId) (hop:o.op=Op.lookup t m x false) (k e:TypeId) (K:Keyed Tryz.prog k) (ht:Tryz.prog.underlying t=some (.map k e)) {z:Value} (hz:(zeroValue e).run Tryz.prog w=.ok z w) (b n:Nat) (f:Lit->Option Value)
  (hm:a.eval m=.map (some b)) (hmap:MapAt w k b n f) (key:Value) (kl:Lit) (hx:a.eval x=key) (hkey:keyOf Tryz.prog k key=some kl) (hkl:WideAt.IsKeyLit kl)
  (hK:wpList Tryz.prog ops Q rest (a.put o.dst ((f kl).getD z)) w):wpList Tryz.prog ops Q (o::rest) a w:=by
 obtain⟨D,hown,hf⟩:=hmap;refine wpList_plain hg fun K' hK'=>?_
 obtain⟨v,ps,hrun,hv⟩:=hown.lookup K ht hz (zd:=.held z) (zp:=[]) rfl hkey;have e1:DataW.held v=D.atKey kl (.held z):=by
  simp only[VZ,Option.some.injEq,Prod.mk.injEq] at hv;exact hv.1
 rw[<-hf.at hkl e1] at hK;unfold Oper.wp;simp[execOp,hop,hm,hx,hrun,Result.andThen];exact hK' _ _ hK
theorem oU (hg:o.guard=none) (m x v:Operand) (t:TypeId) (hop:o.op=Op.mapUpdate t m x v) (k e:TypeId) (K:Keyed Tryz.prog k) (ht:Tryz.prog.underlying t=some (.map k e)) (b n:Nat) (f:Lit->Option Value)
  (hm:a.eval m=.map (some b)) (hmap:MapAt w k b n f) (hn:n<maxLen) (key val:Value) (kl:Lit) (hx:a.eval x=key) (hv:a.eval v=val) (hkey:keyOf Tryz.prog k key=some kl) (hkl:WideAt.IsKeyLit kl)
  (hK:∀w',MapAt w' k b (n+1) (Y9 f kl (some val))->dO [b] w w'->wpList Tryz.prog ops Q rest (a.put o.dst undef) w'):wpList Tryz.prog ops Q (o::rest) a w:=by
 obtain⟨D,hown,hf⟩:=hmap;refine wpList_mapUpdate_own w hg m x v t hop k e K ht VZ b n D hm hown hn key val kl hx hv hkey (.held val) [] rfl fun w' h1 h2=>?_
 exact hK w' ⟨_,h1,hf.put hown.isMap hkl val⟩ (apg h2)
theorem aiZ (hg:o.guard=none) (m x:Operand) (t k:TypeId) (hop:o.op=Op.call { callee:=Callee.builtin Builtin.delete,args:=#[m,x],argTypes:=#[t,k] }) (e:TypeId) (K:Keyed Tryz.prog k) (ht:Tryz.prog.underlying t=some (.map k e)) (b n:Nat) (f:Lit->Option Value)
  (hm:a.eval m=.map (some b)) (hmap:MapAt w k b n f) (key:Value) (kl:Lit) (hx:a.eval x=key) (hkey:keyOf Tryz.prog k key=some kl) (hkl:WideAt.IsKeyLit kl)
  (hK:∀w',MapAt w' k b n (Y9 f kl none)->dO [b] w w'->wpList Tryz.prog ops Q rest (a.put o.dst (.tuple #[])) w'):wpList Tryz.prog ops Q (o::rest) a w:=by
 obtain⟨D,hown,hf⟩:=hmap;refine wpList_delete_own w hg m x t k hop e K ht VZ b n D hm hown key kl hx hkey fun w' h1 h2=>?_
 exact hK w' ⟨_,h1,hf.del hkl⟩ (apg h2.grown)
theorem ZA (hg:o.guard=none) (m:Operand) (t:TypeId) (hop:o.op=Op.call { callee:=Callee.builtin Builtin.len,args:=#[m],argTypes:=#[t] }) (k e:TypeId) (K:Keyed Tryz.prog k) (ht:Tryz.prog.underlying t=some (.map k e)) (b n:Nat) (f:Lit->Option Value)
  (hm:a.eval m=.map (some b)) (hmap:MapAt w k b n f)
  (hK:∀s:Nat,s<=n->(s=0 ↔ ∀x,WideAt.IsKeyLit x->f x=none)->wpList Tryz.prog ops Q rest (a.put o.dst (.int .i64 s)) w):wpList Tryz.prog ops Q (o::rest) a w:=by
 obtain⟨D,hown,hf⟩:=hmap;refine wpList_len_own w hg m t hop k e ht VZ b n D hm hown ?_;obtain⟨es,hes,_,hk⟩:=hown.entries K;exact hK _ hown.size_le (hf.size hes hk)
end
theorem aCX {e:TypeId} {g:Nat} {cur:Array Value} {xs:ZI} {w:World} (hg:w.heap[g]?=some (.cells cur e (0,0))) (h4:cur.toList.take xs.length=xs.map fun z=>Value.int .i64 z) {i:Nat} (hi:i<xs.length):w.cell? ⟨g,i,none⟩=some (.int .i64 xs[i])/\w.frozen? ⟨g,i,none⟩=false:=by
 have h5:(cur.toList.take xs.length)[i]?=some (.int .i64 xs[i]):=by rw[h4];simp[hi]
 rw[List.getElem?_take,dw hi] at h5;refine⟨?_,Lib.frozen_of_heap hg i⟩;rw[Lib.cell_of_heap hg];simpa using h5
theorem aDe (n b:Nat) (w:World):(method (n+1) 168 (.pointer (some ⟨b,0,none⟩)) "Push").run Tryz.prog w=.ok (233,.pointer (some ⟨b,0,none⟩)) w:=by kernel_rfl
theorem aG2 (n b:Nat) (w:World):(method (n+1) 168 (.pointer (some ⟨b,0,none⟩)) "Pop").run Tryz.prog w=.ok (232,.pointer (some ⟨b,0,none⟩)) w:=by kernel_rfl
theorem avd (n b:Nat) (v:Value) (w:World) (h:w.cell? ⟨b,0,none⟩=some v):(method (n+1) 168 (.pointer (some ⟨b,0,none⟩)) "Len").run Tryz.prog w=.ok (111,v) w:=by
 have e:(method (n+1) 168 (.pointer (some ⟨b,0,none⟩)) "Len").run Tryz.prog w=(loadVar 169 ⟨b,0,none⟩ >>= fun v=>pure (111,v)).run Tryz.prog w:=by kernel_rfl
 rw[e];simp[loadVar,go_sem,h]
theorem agA (n b:Nat) (v:Value) (w:World) (h:w.cell? ⟨b,0,none⟩=some v):(method (n+1) 168 (.pointer (some ⟨b,0,none⟩)) "Less").run Tryz.prog w=.ok (231,v) w:=by
 have e:(method (n+1) 168 (.pointer (some ⟨b,0,none⟩)) "Less").run Tryz.prog w=(loadVar 169 ⟨b,0,none⟩ >>= fun v=>pure (231,v)).run Tryz.prog w:=by kernel_rfl
 rw[e];simp[loadVar,go_sem,h]
theorem agz (n b:Nat) (v:Value) (w:World) (h:w.cell? ⟨b,0,none⟩=some v):(method (n+1) 168 (.pointer (some ⟨b,0,none⟩)) "Swap").run Tryz.prog w=.ok (235,v) w:=by
 have e:(method (n+1) 168 (.pointer (some ⟨b,0,none⟩)) "Swap").run Tryz.prog w=(loadVar 169 ⟨b,0,none⟩ >>= fun v=>pure (235,v)).run Tryz.prog w:=by kernel_rfl
 rw[e];simp[loadVar,go_sem,h]
theorem ap3 (n b:Nat) (w:World):(nilAhead (n+1) 168 (.pointer (some ⟨b,0,none⟩)) "Len").run Tryz.prog w=.ok (some false) w:=by kernel_rfl
theorem ad5 (n b:Nat) (w:World):(nilAhead (n+1) 168 (.pointer (some ⟨b,0,none⟩)) "Less").run Tryz.prog w=.ok (some false) w:=by kernel_rfl
theorem ad4 (n b:Nat) (w:World):(nilAhead (n+1) 168 (.pointer (some ⟨b,0,none⟩)) "Swap").run Tryz.prog w=.ok (some false) w:=by kernel_rfl
theorem aAi (n b:Nat) (w:World):(nilAhead (n+1) 168 (.pointer (some ⟨b,0,none⟩)) "Push").run Tryz.prog w=.ok (some false) w:=by kernel_rfl
theorem aES (n b:Nat) (w:World):(nilAhead (n+1) 168 (.pointer (some ⟨b,0,none⟩)) "Pop").run Tryz.prog w=.ok (some false) w:=by kernel_rfl
theorem XI (a:OA) (n c:Nat) (w:World):Calls Tryz.prog 111 #[.slice a n c] w (Gives (.int .i64 n) w):=by
 go_enter Tryz.func111,Tryz.ntmps111
 go_wp2_with fail
 go_ret;exact⟨rfl,rfl⟩
theorem aaI (g n c i j:Nat) (x y:Int) (w:World) (hi:i<n) (hj:j<n) (h1:w.cell? ⟨g,i,none⟩=some (.int .i64 x)) (h2:w.cell? ⟨g,j,none⟩=some (.int .i64 y)) :
  Calls Tryz.prog 231 #[.slice (some ⟨g,0,none⟩) n c,.int .i64 i,.int .i64 j] w (dN (.bool (decide (x<y))) w):=by
 go_enter Tryz.func231,Tryz.ntmps231
 go_upto_region 1 with fail
 go_quiet (fail)
 go_wp2_with fail
 go_ret;exact⟨rfl,Ext.drewN (Ext.refl _) _⟩
def agb (g n c i j:Nat) (x y:Int):List Value :=
 [.slice (some ⟨g,0,none⟩) n c,.int .i64 i,.slice (some ⟨g,0,none⟩) n c,.int .i64 j,.slice (some ⟨g,0,none⟩) n c,.int .i64 j,.pointer (some ⟨g,j,none⟩),.int .i64 y,.slice (some ⟨g,0,none⟩) n c,.int .i64 i,.pointer (some ⟨g,i,none⟩),.int .i64 x,.pointer (some ⟨g,i,none⟩),undef,.pointer (some ⟨g,j,none⟩)]
def RS (tab:List Value) (i:Nat) (u:Value) (_:World):Prop:=u=tab.getD i undef
def GS (w w1:World) (L:ZN) (W:World):Prop:=(13∉L->∃k,W=w.drewN k)/\(13∈L->∃k,W=w1.drewN k)
def ES (_:Nat) (_ _:World):Prop:=True
theorem GS.plain {w w1:World} {L:ZN} {W:World} (h:GS w w1 L W) {i:Nat} (hi:i≠13):GS w w1 (L++[i]) W:=by
 have hm:13∈L++[i] ↔ 13∈L:=by simp;omega
 unfold GS;rw[hm];exact h
theorem a8l {ops:Array Oper} {m:Nat} {L:ZN} {i:Nat} (hg:(13==i||jd ops m 13 i)=true) (hi:i∉L) (hL:∀j∈L,jd ops m j i=false):13∉L:=by
 intro h;rw[hL 13 h] at hg;simp only[Bool.or_false,beq_iff_eq] at hg;exact hi (hg ▸ h)
theorem aaF (g n c i j:Nat) (x y:Int) (w:World) (hi:i<n) (hj:j<n) (h1:w.cell? ⟨g,i,none⟩=some (.int .i64 x)) (h2:w.cell? ⟨g,j,none⟩=some (.int .i64 y)) (hf:∀k,w.frozen? ⟨g,k,none⟩=false) :
  Calls Tryz.prog 235 #[.slice (some ⟨g,0,none⟩) n c,.int .i64 i,.int .i64 j] w (fun e w'=>e=.returned (.tuple #[])/\∃k,w'=((w.setCell ⟨g,i,none⟩ (.int .i64 y)).setCell ⟨g,j,none⟩ (.int .i64 x)).drewN k):=by
 go_enter Tryz.func235,Tryz.ntmps235
 go_upto_region 0 with fail
 refine og (m:=15) [11,14] (GS w (w.setCell ⟨g,i,none⟩ (.int .i64 y))) ES (RS (agb g n c i j x y)) (by kernel_rfl) (by kernel_rfl) ⟨fun _=>⟨1,rfl⟩,fun h=>by simp at h⟩ (fun _ _ _ _ _ _ _ _ _ hR _=>hR) ?_ ?_
 ·intro q o hq ho L vs W hiL hnc hG hd ρ hρ;have hq':=ltc15 hq;clear hq;have o0:ρ (.tmp 0)=.slice (some ⟨g,0,none⟩) n c:=hρ.out 0 rfl;have o1:ρ (.tmp 1)=.int .i64 i:=hρ.out 1 rfl;have o2:ρ (.tmp 2)=.int .i64 j:=hρ.out 2 rfl;have hcs:=hρ.const;have HG:=ak hG;clear hG;rcases hq' with rfl|rfl|rfl|rfl|rfl|rfl|rfl|rfl|rfl|rfl|rfl|rfl|rfl|rfl|rfl
  ·cases ho
   clear hρ hd;unfold dF;go_simp;exact⟨trivial,HG.o.plain (by omega),rfl⟩
  ·cases ho
   clear hρ hd;unfold dF;go_simp;exact⟨trivial,HG.o.plain (by omega),rfl⟩
  ·cases ho
   clear hρ hd;unfold dF;go_simp;exact⟨trivial,HG.o.plain (by omega),rfl⟩
  ·cases ho
   clear hρ hd;unfold dF;go_simp;exact⟨trivial,HG.o.plain (by omega),rfl⟩
  ·cases ho
   clear hρ hd;unfold dF;go_simp;exact⟨trivial,HG.o.plain (by omega),rfl⟩
  ·cases ho
   clear hρ hd;unfold dF;go_simp;exact⟨trivial,HG.o.plain (by omega),rfl⟩
  ·cases ho
   have i4:=hρ.i 4 10;have d4:vs 4=_:=hd ⟨4,.data⟩ (by simp) rfl;rw[d4] at i4;dsimp only[agb,List.getD_cons_zero,List.getD_cons_succ] at i4;have i5:=hρ.i 5 11;have d5:vs 5=_:=hd ⟨5,.data⟩ (by simp) rfl;rw[d5] at i5;dsimp only[agb,List.getD_cons_zero,List.getD_cons_succ] at i5;clear hρ hd;unfold dF;go_simp;exact⟨trivial,HG.o.plain (by omega),rfl⟩
  ·cases ho
   have i6:=hρ.i 6 12;have d6:vs 6=_:=hd ⟨6,.data⟩ (by simp) rfl;rw[d6] at i6;dsimp only[agb,List.getD_cons_zero,List.getD_cons_succ] at i6;obtain⟨kw,rfl⟩:=HG.o.1 (a8l (by decide +kernel) hiL hnc);have c1:(w.drewN kw).cell? ⟨g,i,none⟩=some (.int .i64 x):=h1;have c2:(w.drewN kw).cell? ⟨g,j,none⟩=some (.int .i64 y):=h2;have cf:∀k,(w.drewN kw).frozen? ⟨g,k,none⟩=false:=hf;clear hρ hd;unfold dF;go_simp;exact⟨trivial,HG.o.plain (by omega),rfl⟩
  ·cases ho
   clear hρ hd;unfold dF;go_simp;exact⟨trivial,HG.o.plain (by omega),rfl⟩
  ·cases ho
   clear hρ hd;unfold dF;go_simp;exact⟨trivial,HG.o.plain (by omega),rfl⟩
  ·cases ho
   have i8:=hρ.i 8 14;have d8:vs 8=_:=hd ⟨8,.data⟩ (by simp) rfl;rw[d8] at i8;dsimp only[agb,List.getD_cons_zero,List.getD_cons_succ] at i8;have i9:=hρ.i 9 15;have d9:vs 9=_:=hd ⟨9,.data⟩ (by simp) rfl;rw[d9] at i9;dsimp only[agb,List.getD_cons_zero,List.getD_cons_succ] at i9;clear hρ hd;unfold dF;go_simp;exact⟨trivial,HG.o.plain (by omega),rfl⟩
  ·cases ho
   have AA:=hρ.i 10 16;have d10:vs 10=_:=hd ⟨10,.data⟩ (by simp) rfl;rw[d10] at AA;dsimp only[agb,List.getD_cons_zero,List.getD_cons_succ] at AA;obtain⟨kw,rfl⟩:=HG.o.1 (a8l (by decide +kernel) hiL hnc);have c1:(w.drewN kw).cell? ⟨g,i,none⟩=some (.int .i64 x):=h1;have c2:(w.drewN kw).cell? ⟨g,j,none⟩=some (.int .i64 y):=h2;have cf:∀k,(w.drewN kw).frozen? ⟨g,k,none⟩=false:=hf;clear hρ hd;unfold dF;go_simp;exact⟨trivial,HG.o.plain (by omega),rfl⟩
  ·cases ho
   have i0:=hρ.i 0 6;have d0:vs 0=_:=hd ⟨0,.data⟩ (by simp) rfl;rw[d0] at i0;dsimp only[agb,List.getD_cons_zero,List.getD_cons_succ] at i0;have i1:=hρ.i 1 7;have d1:vs 1=_:=hd ⟨1,.data⟩ (by simp) rfl;rw[d1] at i1;dsimp only[agb,List.getD_cons_zero,List.getD_cons_succ] at i1;clear hρ hd;unfold dF;go_simp;exact⟨trivial,HG.o.plain (by omega),rfl⟩
  ·cases ho
   have i12:=hρ.i 12 18;have d12:vs 12=_:=hd ⟨12,.data⟩ (by simp) rfl;rw[d12] at i12;dsimp only[agb,List.getD_cons_zero,List.getD_cons_succ] at i12;have i7:=hρ.i 7 13;have d7:vs 7=_:=hd ⟨7,.data⟩ (by simp) rfl;rw[d7] at i7;dsimp only[agb,List.getD_cons_zero,List.getD_cons_succ] at i7;obtain⟨kw,rfl⟩:=HG.o.1 (a8l (by decide +kernel) hiL hnc);have c1:(w.drewN kw).cell? ⟨g,i,none⟩=some (.int .i64 x):=h1;have c2:(w.drewN kw).cell? ⟨g,j,none⟩=some (.int .i64 y):=h2;have cf:∀k,(w.drewN kw).frozen? ⟨g,k,none⟩=false:=hf;clear hρ hd;unfold dF;go_simp;exact⟨trivial,⟨fun h=>absurd (by simp) h,fun _=>⟨kw,rfl⟩⟩,rfl⟩
  cases ho
  have i2:=hρ.i 2 8;have d2:vs 2=_:=hd ⟨2,.data⟩ (by simp) rfl;rw[d2] at i2;dsimp only[agb,List.getD_cons_zero,List.getD_cons_succ] at i2;have i3:=hρ.i 3 9;have d3:vs 3=_:=hd ⟨3,.data⟩ (by simp) rfl;rw[d3] at i3;dsimp only[agb,List.getD_cons_zero,List.getD_cons_succ] at i3;clear hρ hd;unfold dF;go_simp;exact⟨trivial,HG.o.plain (by omega),rfl⟩
 intro L vs W hall hG hR;rw[dh (by decide +kernel)];have r11:vs 11=.int .i64 x:=hR 11 (by simp) (by omega);have r14:vs 14=.pointer (some ⟨g,j,none⟩):=hR 14 (by simp) (by omega);obtain⟨kw,rfl⟩:=hG.2 (hall 13 (by omega));have c2:∃u,((w.setCell ⟨g,i,none⟩ (.int .i64 y)).drewN kw).cell? ⟨g,j,none⟩=some u:=by
  by_cases e:i=j
  ·subst e;exact⟨_,World.cell?_setCell_same' w ⟨g,i,none⟩ (.int .i64 y) (by simp[h1])⟩
  exact⟨_,(World.cell?_setCell_other w _ _ _ (by simp only[ne_eq,Addr.mk.injEq,true_and,and_true];omega)).trans h2⟩
 obtain⟨u,c2⟩:=c2;have cf:((w.setCell ⟨g,i,none⟩ (.int .i64 y)).drewN kw).frozen? ⟨g,j,none⟩=false:=(World.frozen?_setCell _ _ _ _).trans (hf j);clear hG hall hR;unfold wpOp;simp only[acts,gK,List.range,List.range.loop,bF,dA,r11,r14];go_simp;refine Or.inl ?_;go_wp2_with fail
 go_end0
 exact⟨rfl,kw,rfl⟩
end Go.Proofs.YtefjomofjejklaaGreatDoor
