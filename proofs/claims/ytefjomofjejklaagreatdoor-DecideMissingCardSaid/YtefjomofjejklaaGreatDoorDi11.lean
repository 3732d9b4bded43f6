/- Joined. -/
import Derived.Test.YtefjomofjejklaaGreatDoorDi10
import Derived.Laws.Cover1
import Derived.Sort.Walk0
import Derived.Shelf.SlGeneric
import Derived.Shelf.SlIter.Nil
import Derived.Shelf.SortM.Plain
import Derived.Shelf.SortM.SortNone
import Derived.Ground.GgzProg
import Derived.Ground.SlgmProg
import Derived.Test.YtefjomofjejklaaGreatDoorDi09
namespace Go.Proofs.YtefjomofjejklaaGreatDoor
set_option maxRecDepth 100000
set_option maxHeartbeats 32000000
open Go.RowKit Go.Maps
def ajr (w:World) (base:Nat) (l:ZB) (v:Value):Prop:=w.ownsRow base 9 1 v l.length (l.flatMap iC)
def aIQ (l:ZB) (w:World) (e:Ending) (w':World):Prop:=∃(a:OA) (c:Nat),e=.returned (.slice a l.length c)/\fS w' l a l.length c/\Ext w w'
theorem aHe {s x:BA} {r:ZB} (h:Op.bytesLess s.toList x.toList=true):x9 s (x::r)=s::x::r:=by
 rw[Go.Proofs.bytesLess_eq,aH] at h;rw[x9,bM h]
theorem ayk {s x:BA} {r:ZB} (h1:Op.bytesLess s.toList x.toList=false) (h2:(s.toList==x.toList)=true):x9 s (x::r)=x::r:=by
 rw[Go.Proofs.bytesLess_eq,bI] at h1;rw[x9,bL h1,bM (by simpa using h2)]
theorem aHf {s x:BA} {r:ZB} (h1:Op.bytesLess s.toList x.toList=false) (h2:(s.toList==x.toList)=false):x9 s (x::r)=x::x9 s r:=by
 rw[Go.Proofs.bytesLess_eq,bI] at h1;rw[x9,bL h1,bL (by simpa using h2)]
theorem aIo {l:ZB} {k:Nat} (h:k<l.length):l.drop k=l[k]::l.drop (k+1):=by simp
theorem ayj (s:BA) (l:ZB) (a:OA) (n c:Nat) (w:World) (hs:fS w l a n c) (hn:n<=1000000) :
  Calls Tryz.prog 178 #[.slice a n c,.string s] w (aIQ (x9 s l) w):=by
 have HS:=ai hs;have HN:=ai hs.1;have qB:=ai (Zp s l);clear hs;go_enter Tryz.func178,Tryz.ntmps178
 go_wp2_with fail
 go_loopg [5,6,7] n (fun m u d i wr=>∃(k:Nat) (out:ZB) (done:Bool),k<=n/\m=n - k/\i=.int .i64 k/\d=.bool done/\out.length<=k+1/\(done=false->out.length<=k)/\ajr wr w.heap.size out u/\out++(if done then l.drop k else x9 s (l.drop k))=x9 s l/\Ext w wr)
 case atStart=>exact⟨0,[],false,by omega,rfl,rfl,rfl,by simp,by simp,a4' _ _ _ _,by simp,Tz _⟩
 case round =>
  obtain⟨k,out,done,hk,hm,rfl,rfl,hol,hod,hown,heq,hx⟩:=hrel;have HM:=ai hm;have HO:=ai hown;have Gk:=ai heq;have HX:=ai hx;have HOD:=ai hod;have hz:=hx.size;obtain⟨ua,uc,rfl,-,-⟩:=jR hown [] (by simp);clear hm hown heq hx hod;by_cases hlt:k<n
  ·have hlt':k<l.length:=by have:=HN.o;omega
   have td:decide ((k:Int)<(n:Int))=true:=by simp;omega
   obtain⟨b,off,rfl,hcell⟩:=HS.o.2.2.2 k hlt';have HC:=ai hcell
   replace hcell:=HX.o.cell hcell
   have HD:=ai (aIo hlt');have hbl:=eB hcell;simp only at hbl;generalize l[k]=x at *;have fin:∀(ayJ:ZB) (arI:Bool) (u2:Value) (w2:World),ayJ++(if arI then x::l.drop (k+1) else x9 s (x::l.drop (k+1)))=x9 s l->(arI=false->Op.bytesLess s.toList x.toList=false/\(s.toList==x.toList)=false)->ayJ++[x]++(if arI then l.drop (k+1) else x9 s (l.drop (k+1)))=x9 s l:=by
    intro ayJ arI u2 w2 h1 h2;cases arI
    ·obtain⟨h3,h4⟩:=h2 rfl;rw[bL (by simp),aHf h3 h4] at h1;rw[bL (by simp),<-h1];simp
    rw[bM rfl] at h1 ⊢;rw[<-h1];simp
   have VM:=ai fin;clear fin;have aJl:=ai (show out++(if done then x::l.drop (k+1) else x9 s (x::l.drop (k+1)))=x9 s l by rw[<-HD.o];exact Gk.o);clear Gk HD;cases done
   ·have a3h:out.length<=k:=HOD.o rfl;cases h1:Op.bytesLess s.toList x.toList
    ·cases h2:(s.toList==x.toList)
     case' false =>
      have Gj:=ai (VM.o out false (.bool false) wr aJl.o (fun _=>⟨h1,h2⟩));go_upto_region 10 with fail
     case' true =>
      have Gj:=ai (VM.o out true (.bool false) wr (by rw[bM rfl,<-ayk h1 h2];have:=aJl.o;rwa [bL (by simp)] at this) (fun h=>by cases h));go_upto_region 10 with fail
     all_goals
      clear h1 h2;have hz1:=HX.o.size;go_wp2_with (at_builtin;refine lu xM rfl _ _ rfl w.heap.size _ _ _ rfl HO.o _ 1 1 rfl ?c0 rfl ?c1 ?c2 ?c3 ?c4 ?_)
      case c0=>rfl
      case c1=>simp[Value.oneCell']
      case c2=>simp only[maxLen];omega
      case c3=>omega
      try (case c4=>omega)
      intro v2 w2 jt iA;have tX:=ai (show ajr w2 w.heap.size (out++[x]) v2 by unfold ajr;rw[bg,List.flatMap_append];exact jt);have dN:=ai (HX.o.grown iA (Ck HO.o));clear jt iA hcell;go_wp2_with fail
      go_roundg (n - (k+1))
      case measure=>have:=HM.o;omega
      case rel=>exact⟨k+1,out++[x],_,by omega,rfl,by go_num,rfl,by simp;omega,fun _=>by simp;omega,tX.o,Gj.o,dN.o⟩
    have Gj:=ai (VM.o (out++[s]) true (.bool false) wr (by rw[bM rfl,List.append_assoc];have:=aJl.o;rw[bL (by simp),aHe h1] at this;simpa using this) (fun h=>by cases h));have hz1:=HX.o.size;go_wp2_with (at_builtin;refine lu xM rfl _ _ rfl w.heap.size _ _ _ rfl HO.o _ 1 1 rfl ?c0 rfl ?c1 ?c2 ?c3 ?c4 ?_)
    case c0=>rfl
    case c1=>simp[Value.oneCell']
    case c2=>simp only[maxLen];omega
    case c3=>omega
    try (case c4=>omega)
    intro v2 w2 jt iA;have tX:=ai (show ajr w2 w.heap.size (out++[s]) v2 by unfold ajr;rw[bg,List.flatMap_append];exact jt);have dN:=ai (HX.o.grown iA (Ck HO.o));have au9:=dN.o.cell HC.o;have aMt:=eB au9;simp only at aMt;have hz2:=dN.o.size;have oC:=tX.o;unfold ajr at oC;have hl2:(out++[s]).length<=k+1:=by simp;omega
    generalize out++[s]=ayJ at *;obtain⟨ua2,uc2,rfl,-,-⟩:=jR oC [] (by simp);clear jt iA hcell oC h1;go_wp2_with (at_builtin;refine lu xM rfl _ _ rfl w.heap.size _ _ _ rfl tX.o _ 1 1 rfl ?d0 rfl ?d1 ?d2 ?d3 ?d4 ?_)
    case d0=>rfl
    case d1=>simp[Value.oneCell']
    case d2=>simp only[maxLen];omega
    case d3=>omega
    try (case d4=>omega)
    intro v4 w4 Cq DJ;have Em:=ai (show ajr w4 w.heap.size (ayJ++[x]) v4 by unfold ajr;rw[bg,List.flatMap_append];exact Cq);have jl:=ai (dN.o.grown DJ (Ck tX.o));clear Cq DJ au9;go_wp2_with fail
    go_roundg (n - (k+1))
    case measure=>have:=HM.o;omega
    case rel=>exact⟨k+1,ayJ++[x],true,by omega,rfl,by go_num,rfl,by simp;omega,fun h=>(by cases h),Em.o,Gj.o,jl.o⟩
   have Gj:=ai (VM.o out true (.bool false) wr aJl.o (fun h=>by cases h));have hz1:=HX.o.size;go_wp2_with (at_builtin;refine lu xM rfl _ _ rfl w.heap.size _ _ _ rfl HO.o _ 1 1 rfl ?c0 rfl ?c1 ?c2 ?c3 ?c4 ?_)
   case c0=>rfl
   case c1=>simp[Value.oneCell']
   case c2=>simp only[maxLen];omega
   case c3=>omega
   try (case c4=>omega)
   intro v2 w2 jt iA;have tX:=ai (show ajr w2 w.heap.size (out++[x]) v2 by unfold ajr;rw[bg,List.flatMap_append];exact jt);have dN:=ai (HX.o.grown iA (Ck HO.o));clear jt iA hcell;go_wp2_with fail
   go_roundg (n - (k+1))
   case measure=>have:=HM.o;omega
   case rel=>exact⟨k+1,out++[x],true,by omega,rfl,by go_num,rfl,by simp;omega,fun h=>(by cases h),tX.o,Gj.o,dN.o⟩
  have td:decide ((k:Int)<(n:Int))=false:=by simp;omega
  have YJ:=ai (show l.drop k=[] from List.drop_eq_nil_of_le (by have:=HN.o;omega));cases done
  ·have acj:=ai (show out++[s]=x9 s l by have:=Gk.o;rw[bL (by simp),YJ.o] at this;exact this);go_wp2_with (at_builtin;refine lu xM rfl _ _ rfl w.heap.size _ _ _ rfl HO.o _ 1 1 rfl ?c0 rfl ?c1 ?c2 ?c3 ?c4 ?_)
   case c0=>rfl
   case c1=>simp[Value.oneCell']
   case c2=>simp only[maxLen];omega
   case c3=>omega
   try (case c4=>omega)
   intro v2 w2 jt iA;have oC:w2.ownsRow w.heap.size 9 1 v2 (out++[s]).length ((out++[s]).flatMap iC):=by rw[bg,List.flatMap_append];exact jt
   have dN:=ai (HX.o.grown iA (Ck HO.o));obtain⟨ua2,uc2,rfl,-,hst⟩:=jR oC [] (by simp);have HST:=ai hst;clear jt iA oC hst;go_wp2_with fail
   go_ret;refine⟨ua2,uc2,?_,?_,dN.o⟩
   ·rw[<-acj.o];rfl
   rw[<-acj.o];exact HST.o
  have acj:=ai (show out=x9 s l by have:=Gk.o;rw[bM rfl,YJ.o,List.append_nil] at this;exact this);obtain⟨ua2,uc2,e2,-,hst⟩:=jR HO.o [] (by simp);simp only[a45,true_and] at e2;obtain⟨rfl,rfl⟩:=e2;have HST:=ai hst;clear hst;go_wp2_with fail
  go_ret;refine⟨ua,uc,?_,?_,HX.o⟩
  ·rw[<-acj.o];rfl
  rw[<-acj.o];exact HST.o
def Kz (m l:ZB):ZB:=m.foldl (fun l s=>x9 s l) l
theorem ac6 (m k l:ZB):Kz (m++k) l=Kz k (Kz m l):=by simp[Kz]
theorem aDS (l:ZB):Kz [] l=l:=rfl
theorem aDR (s:BA) (l:ZB):Kz [s] l=x9 s l:=rfl
theorem aDT (m l:ZB):(Kz m l).length<=m.length+l.length:=aai m l
mutual
theorem zM:(e:Ex)->(fX e).length<=e.size
 | .mk op name words lo hi args=>by
  have:=PG args;rw[fX,Ex.size,bg];split<;>simp<;>omega
theorem PG:(l:List Ex)->(iH l).length<=sizes l
 | []=>by simp[iH,sizes]
 | e::r=>by
  have:=zM e;have:=PG r;rw[iH,sizes,bg];omega
end
theorem ani (m:Nat):m<=1000000->∀(e:Ex) (v:Value) (w:World) (l:ZB) (a:OA) (n c:Nat),e.size<=m->dw w e v->fS w l a n c->n+e.size<=1000000 ->
  Calls Tryz.prog 159 #[.slice a n c,v] w (aIQ (Kz (fX e) l) w):=by
 induction m with
 | zero=>intro _ e v w l a n c h;have:=size_pos e;omega
 | succ m ih =>
  intro Re e v w l a n c hm he hs hn;obtain⟨aw,nw,cw,aa,na,ca,rfl,hw,hna,hca,ha,hx⟩:=he.parts;have hS:e.size=1+sizes e.args:=e.size_eq;have hla:=eR e.args;have HX:=ai ((Tz w).alloc (.cells #[.int .i64 e.op,.string e.name,.slice aw nw cw,.int .i64 e.lo,.int .i64 e.hi,.slice aa na ca] 45));have jm:=ai (bR w (.cells #[.int .i64 e.op,.string e.name,.slice aw nw cw,.int .i64 e.lo,.int .i64 e.hi,.slice aa na ca] 45));have zl:=ai (eU.ext HX.o e.args aa hx);have HS:=ai (hs.ext HX.o);have K8:=ai hs.1;have kJ:=ai hna;have AQ:=ai (akr e);have IH:=ai (ih (by omega));have Ks:na<=1000000:=by omega
  have hsz:sizes e.args<=m:=by omega
  have hn2:n+1+sizes e.args<=1000000:=by omega
  clear hw hna hca ha hx he hs hS hla ih hm hn;generalize fX e=NE at *;unfold fN;go_enter Tryz.func159,Tryz.ntmps159
  go_upto_region 1 with fail
  generalize w.alloc (.cells #[.int .i64 e.op,.string e.name,.slice aw nw cw,.int .i64 e.lo,.int .i64 e.hi,.slice aa na ca] 45)=wb at *;obtain⟨b0,b1,b2,b3,b4,b5,bf⟩:=cX jm.o;have Yw:=bS jm.o;by_cases h3:e.op=3
  case' pos =>
   have t3:(e.op==3)=true:=by simp[h3]
   have qP:=ai (show Kz NE l=Kz (iH e.args) (x9 e.name l) by rw[AQ.o,bM h3,ac6,aDR]);have hpl:=Zp e.name l;clear h3;go_wp2_with fail
   refine(ayj e.name l a n c _ HS.o (by omega)).mono ?_;rintro r w1 ⟨a1,c1,rfl,hs1,hx1⟩;have Ae:=ai hs1;have dI:=ai hx1;have gG:=ai (hx1.blk jm.o);have sA:(x9 e.name l).length<=n+1:=by have:=K8.o;omega
   clear hs1 hx1 b0 b1 b2 b3 b4 b5 bf Yw HS K8 hpl;generalize x9 e.name l=l1 at *;obtain⟨n1,Cr⟩:∃n1,n1=l1.length:=⟨_,rfl⟩
   rw[<-Cr] at Ae sA ⊢;clear Cr;go_upto_region 3 with fail
  case' neg =>
   have t3:(e.op==3)=false:=by simp[h3]
   have qP:=ai (show Kz NE l=Kz (iH e.args) l by rw[AQ.o,bL h3];simp);have dI:=ai (Tz wb);have gG:=jm;have sA:n<=n+1:=by omega
   have Ae:=HS;clear h3 HS;obtain⟨l1,aL6⟩:∃l1,l1=l:=⟨_,rfl⟩
   have aTt:=ai (show Kz NE l=Kz (iH e.args) l1 by rw[aL6];exact qP.o);rw[<-aL6] at Ae K8;clear aL6 qP;have qP:=aTt;clear aTt;go_upto_region 3 with fail
   clear b0 b1 b2 b3 b4 b5 bf Yw
  all_goals
   go_wp2_with fail
   go_loopg [0,5] na (fun g u i wr=>∃(j:Nat) (al:OA) (nl cl:Nat),j<=na/\g=na - j/\i=.int .i64 j/\u=.slice al nl cl/\nl<=n+1+(iH (e.args.take j)).length/\fS wr (Kz (iH (e.args.take j)) l1) al nl cl/\Ext wb wr)
   case atStart=>exact⟨0,_,_,_,by omega,rfl,rfl,rfl,by omega,by simpa[iH,aDS] using Ae.o,dI.o⟩
   case round =>
    obtain⟨j,al,nl,cl,hj,hgj,rfl,rfl,hnl,hsj,hxj⟩:=hrel;have Jp:=ai hgj;have HSJ:=ai hsj;have HXJ:=ai hxj;have OX:=ai hnl;have HBJ:=ai (hxj.blk jm.o);clear hsj hxj hgj hnl;obtain⟨b0,b1,b2,b3,b4,b5,bf⟩:=cX HBJ.o;have Yw:=bS HBJ.o;by_cases hlt:j<na
    ·have hlt':j<e.args.length:=by have:=kJ.o;omega
     have td:decide ((j:Int)<(na:Int))=true:=by simp;omega
     obtain⟨bb,off,rfl,nJ,nD,nG,nK,nE,nI,c0,c1,c2,c3,c4,c5,c6⟩:=eU.at e.args _ (eU.ext HXJ.o _ _ zl.o) j hlt';have sK:=ai c6;have HST:=ai (eD e.args j hlt');have Uf:=ai (dX e.args (j+1));have HNT:=ai (acS e.args j hlt');have aZc:=ai (PG (e.args.take j));clear c6;generalize e.args[j]=a' at *;go_wp2_with fail
     refine(IH.o a' _ _ _ al nl cl (by have:=HST.o;have:=Uf.o;omega) sK.o HSJ.o (by have:=HST.o;have:=Uf.o;have:=OX.o;have:=aZc.o;omega)).mono ?_;rintro r w2 ⟨a2,c2',rfl,hs2,hx2⟩;have A4:=ai (show (Kz (fX a') (Kz (iH (e.args.take j)) l1)).length<=n+1+(iH (e.args.take (j+1))).length by
      have h1:=aDT (fX a') (Kz (iH (e.args.take j)) l1);have h2:=HSJ.o.1;have h3:=OX.o;rw[HNT.o,bg];omega)
     have oB:=ai (show fS w2 (Kz (iH (e.args.take (j+1))) l1) a2 (Kz (fX a') (Kz (iH (e.args.take j)) l1)).length c2' by rw[HNT.o,ac6];exact hs2);have dN:=ai (HXJ.o.trans hx2);clear hs2 hx2 c0 c1 c2 c3 c4 c5 b0 b1 b2 b3 b4 b5 bf Yw;generalize (Kz (fX a') (Kz (iH (e.args.take j)) l1)).length=n2 at *;go_wp2_with fail
     go_roundg (na - (j+1))
     case measure=>have:=Jp.o;omega
     case rel=>exact⟨j+1,a2,n2,c2',by omega,rfl,by go_num,rfl,A4.o,oB.o,dN.o⟩
    have kH:=ai (show e.args.take j=e.args from aS (by have:=kJ.o;omega));have td:decide ((j:Int)<(na:Int))=false:=by simp;omega
    rw[kH.o,<-qP.o] at HSJ;have tY:=ai HSJ.o.1;go_wp2_with fail
    go_ret;refine⟨al,cl,?_,?_,HX.o.trans HXJ.o⟩
    ·rw[<-tY.o];rfl
    rw[<-tY.o];exact HSJ.o
theorem IM (e:Ex) (v:Value) (w:World) (hs:e.size<=900000) (he:dw w e v):Calls Tryz.prog 124 #[v] w (aIQ (jB (fX e)) w):=by
 obtain⟨aw,nw,cw,aa,na,ca,rfl,-,-,-,-,-⟩:=he.parts;have HX:=ai ((Tz w).alloc (.cells #[.int .i64 e.op,.string e.name,.slice aw nw cw,.int .i64 e.lo,.int .i64 e.hi,.slice aa na ca] 45));have HE:=ai (he.ext HX.o);clear he;unfold fN at *;go_enter Tryz.func124,Tryz.ntmps124
 go_wp2_with fail
 refine(ani 900000 (by omega) e _ _ [] none 0 0 hs HE.o ⟨rfl,aU 0,aoX ⟨rfl,rfl⟩,fun i hi=>by simp at hi⟩ (by omega)).mono ?_;rintro r w1 ⟨a1,c1,rfl,hs1,hx1⟩;have Ae:=ai hs1;have dI:=ai (HX.o.trans hx1);clear hs1 hx1;go_wp2_with fail
 go_ret;exact⟨a1,c1,rfl,Ae.o,dI.o⟩
end Go.Proofs.YtefjomofjejklaaGreatDoor
namespace Go.Proofs
set_option maxRecDepth 100000
set_option maxHeartbeats 32000000
open Go.Shelf
def Tryz.keys42_ren:Go.Shelf.Ren:=⟨fun|7=>142|10=>172|n=>n,fun|23=>174|26=>9|3=>176|28=>207|0=>0|27=>206|33=>160|4=>4|n=>n,fun|n=>n⟩
theorem Tryz.keys42:Go.Proofs.SlLaysZ.n7 Tryz.prog Tryz.keys42_ren:={
 mixed:=by kernel_rfl
 f7:=⟨Tryz.f142.name,by decide,Tryz.func142.trans (congrArg some (by kernel_rfl))⟩
 f10:=⟨Tryz.f172.name,by decide,Tryz.func172.trans (congrArg some (by kernel_rfl))⟩
 t0:=Tryz.underlying0
 a0:=Tryz.isAgg0
 z0:=Tryz.sizeOf0
 v0:=Tryz.zeroValue0
 t4:=Tryz.underlying4
 a4:=Tryz.isAgg4
 z4:=Tryz.sizeOf4
 v4:=Tryz.zeroValue4
 t23:=Tryz.underlying174
 a23:=Tryz.isAgg174
 z23:=Tryz.sizeOf174
 v23:=Tryz.zeroValue174
 t26:=Tryz.underlying9
 a26:=Tryz.isAgg9
 z26:=Tryz.sizeOf9
 v26:=Tryz.zeroValue9
 t27:=Tryz.underlying206
 a27:=Tryz.isAgg206
 z27:=Tryz.sizeOf206
 v27:=Tryz.zeroValue206
 t28:=Tryz.underlying207
 a28:=Tryz.isAgg207
 z28:=Tryz.sizeOf207
 v28:=Tryz.zeroValue207
 t33:=Tryz.underlying160
 a33:=Tryz.isAgg160
 z33:=Tryz.sizeOf160
 v33:=Tryz.zeroValue160 }
def Tryz.sorted41_ren:Go.Shelf.Ren:=⟨fun|6=>141|8=>170|9=>171|11=>185|13=>187|12=>186|23=>199|24=>200|14=>190|15=>191|16=>192|17=>193|18=>194|19=>195|20=>196|21=>197|22=>198|25=>201|26=>202|27=>203|28=>204|29=>205|30=>206|31=>207|n=>n,fun|26=>9|28=>207|24=>42|0=>0|3=>3|37=>240|48=>254|50=>256|4=>4|40=>247|39=>246|45=>145|5=>5|9=>9|51=>257|55=>228|57=>262|58=>117|33=>160|n=>n,fun|n=>n⟩
theorem Tryz.sorted41:Go.Proofs.SlLaysZ.n6 Tryz.prog Tryz.sorted41_ren:={
 mixed:=by kernel_rfl
 f6:=⟨Tryz.f141.name,by decide,Tryz.func141.trans (congrArg some (by kernel_rfl))⟩
 f8:=⟨Tryz.f170.name,by decide,Tryz.func170.trans (congrArg some (by kernel_rfl))⟩
 f11:=⟨Tryz.f185.name,by decide,Tryz.func185.trans (congrArg some (by kernel_rfl))⟩
 t0:=Tryz.underlying0
 a0:=Tryz.isAgg0
 z0:=Tryz.sizeOf0
 v0:=Tryz.zeroValue0
 t24:=Tryz.underlying42
 a24:=Tryz.isAgg42
 z24:=Tryz.sizeOf42
 v24:=Tryz.zeroValue42
 t26:=Tryz.underlying9
 a26:=Tryz.isAgg9
 z26:=Tryz.sizeOf9
 v26:=Tryz.zeroValue9
 t28:=Tryz.underlying207
 a28:=Tryz.isAgg207
 z28:=Tryz.sizeOf207
 v28:=Tryz.zeroValue207
 i26:=by kernel_rfl }
def Tryz.sort61_ren:Go.Shelf.Ren:=⟨fun|6=>171|8=>187|9=>186|19=>199|20=>200|21=>190|22=>191|23=>192|24=>193|25=>194|26=>195|27=>196|28=>197|29=>198|36=>201|31=>202|32=>203|37=>204|38=>205|39=>206|41=>207|n=>n,fun|27=>42|29=>9|3=>3|32=>240|26=>42|0=>0|44=>254|46=>256|4=>4|36=>247|35=>246|41=>145|5=>5|9=>9|53=>257|57=>228|63=>262|64=>117|n=>n,fun|n=>n⟩
theorem Tryz.sort61:Go.Proofs.SlLaysM.n6 Tryz.prog Tryz.sort61_ren:={
 mixed:=by kernel_rfl
 f6:=⟨Tryz.f171.name,by decide,Tryz.func171.trans (congrArg some (by kernel_rfl))⟩
 f8:=Tryz.func187.trans (congrArg some (by kernel_rfl))
 f9:=⟨Tryz.f186.name,by decide,Tryz.func186.trans (congrArg some (by kernel_rfl))⟩
 f19:=Tryz.func199.trans (congrArg some (by kernel_rfl))
 f20:=Tryz.func200.trans (congrArg some (by kernel_rfl))
 f21:=⟨Tryz.f190.name,by decide,Tryz.func190.trans (congrArg some (by kernel_rfl))⟩
 f22:=⟨Tryz.f191.name,by decide,Tryz.func191.trans (congrArg some (by kernel_rfl))⟩
 f23:=⟨Tryz.f192.name,by decide,Tryz.func192.trans (congrArg some (by kernel_rfl))⟩
 f24:=⟨Tryz.f193.name,by decide,Tryz.func193.trans (congrArg some (by kernel_rfl))⟩
 f25:=⟨Tryz.f194.name,by decide,Tryz.func194.trans (congrArg some (by kernel_rfl))⟩
 f26:=⟨Tryz.f195.name,by decide,Tryz.func195.trans (congrArg some (by kernel_rfl))⟩
 f27:=⟨Tryz.f196.name,by decide,Tryz.func196.trans (congrArg some (by kernel_rfl))⟩
 f28:=⟨Tryz.f197.name,by decide,Tryz.func197.trans (congrArg some (by kernel_rfl))⟩
 f29:=⟨Tryz.f198.name,by decide,Tryz.func198.trans (congrArg some (by kernel_rfl))⟩
 f31:=Tryz.func202.trans (congrArg some (by kernel_rfl))
 f32:=Tryz.func203.trans (congrArg some (by kernel_rfl))
 f36:=⟨Tryz.f201.name,by decide,Tryz.func201.trans (congrArg some (by kernel_rfl))⟩
 f37:=⟨Tryz.f204.name,by decide,Tryz.func204.trans (congrArg some (by kernel_rfl))⟩
 f38:=⟨Tryz.f205.name,by decide,Tryz.func205.trans (congrArg some (by kernel_rfl))⟩
 f39:=⟨Tryz.f206.name,by decide,Tryz.func206.trans (congrArg some (by kernel_rfl))⟩
 f41:=⟨Tryz.f207.name,by decide,Tryz.func207.trans (congrArg some (by kernel_rfl))⟩
 t0:=Tryz.underlying0
 a0:=Tryz.isAgg0
 z0:=Tryz.sizeOf0
 v0:=Tryz.zeroValue0
 t3:=Tryz.underlying3
 a3:=Tryz.isAgg3
 z3:=Tryz.sizeOf3
 v3:=Tryz.zeroValue3
 t4:=Tryz.underlying4
 a4:=Tryz.isAgg4
 z4:=Tryz.sizeOf4
 v4:=Tryz.zeroValue4
 t5:=Tryz.underlying5
 a5:=Tryz.isAgg5
 z5:=Tryz.sizeOf5
 v5:=Tryz.zeroValue5
 t9:=Tryz.underlying9
 a9:=Tryz.isAgg9
 z9:=Tryz.sizeOf9
 v9:=Tryz.zeroValue9
 t26:=Tryz.underlying42
 a26:=Tryz.isAgg42
 z26:=Tryz.sizeOf42
 v26:=Tryz.zeroValue42
 t27:=Tryz.underlying42
 a27:=Tryz.isAgg42
 z27:=Tryz.sizeOf42
 v27:=Tryz.zeroValue42
 t29:=Tryz.underlying9
 a29:=Tryz.isAgg9
 z29:=Tryz.sizeOf9
 v29:=Tryz.zeroValue9
 t32:=Tryz.underlying240
 a32:=Tryz.isAgg240
 z32:=Tryz.sizeOf240
 v32:=Tryz.zeroValue240
 t35:=Tryz.underlying246
 a35:=Tryz.isAgg246
 z35:=Tryz.sizeOf246
 v35:=Tryz.zeroValue246
 t36:=Tryz.underlying247
 a36:=Tryz.isAgg247
 z36:=Tryz.sizeOf247
 v36:=Tryz.zeroValue247
 t41:=Tryz.underlying145
 a41:=Tryz.isAgg145
 z41:=Tryz.sizeOf145
 v41:=Tryz.zeroValue145
 t44:=Tryz.underlying254
 a44:=Tryz.isAgg254
 z44:=Tryz.sizeOf254
 v44:=Tryz.zeroValue254
 t46:=Tryz.underlying256
 a46:=Tryz.isAgg256
 z46:=Tryz.sizeOf256
 v46:=Tryz.zeroValue256
 t53:=Tryz.underlying257
 a53:=Tryz.isAgg257
 z53:=Tryz.sizeOf257
 v53:=Tryz.zeroValue257
 t57:=Tryz.underlying228
 a57:=Tryz.isAgg228
 z57:=Tryz.sizeOf228
 v57:=Tryz.zeroValue228
 t63:=Tryz.underlying262
 a63:=Tryz.isAgg262
 z63:=Tryz.sizeOf262
 v63:=Tryz.zeroValue262
 t64:=Tryz.underlying117
 a64:=Tryz.isAgg117
 z64:=Tryz.sizeOf117
 v64:=Tryz.zeroValue117 }
end Go.Proofs
namespace Go.Proofs
set_option maxRecDepth 100000
set_option maxHeartbeats 32000000
open Go.RowKit Go.Maps Go.Sort Go.Shelf
theorem Tryz.sorts41 (m:Nat):AnyZ.SortsIn Tryz.prog Tryz.sorted41_ren Fence.wide m :=
 ⟨fun blk off cap ss W hH hblk hsz=>callsIn_wide.2 (AnyM.slices_Sort_string Tryz.sort61 blk off cap ss W hH hblk hsz),
 fun p cap W=>callsIn_wide.2 (AnyM.slices_Sort_string_none Tryz.sort61 p cap W)⟩
theorem Tryz.maps_Keys_42 (mb:Option Nat) (W:World):CallsIn Fence.wide 5 Tryz.prog 142 #[.map mb] W fun e w'=>e=.returned (.func (.func 172) #[] #[.pointer (some ⟨W.heap.size,0,none⟩)])/\w'=W.alloc (.cells #[.map mb] 174) :=
 AnyZ.keys_in Tryz.keys42 Fence.wide 5 trivial rfl mb W
theorem Tryz.slices_Sorted_keys_41_42 {H:Type} (b nn:Nat) (D0:DataW H) (R:Value->Option (DataW H×List MemPlace)) (w:World) (hown:w.ownsMap Tryz.prog 9 R b nn D0) (hmax:Maps.size D0<=maxLen) (hbytes:Maps.size D0*16<=140737488355328) :
  CallsIn Fence.wide 5 Tryz.prog 141 #[.func (.func 172) #[] #[.pointer (some ⟨w.heap.size,0,none⟩)]] (w.alloc (.cells #[.map (some b)] 174)) fun e w'=>∃(v:Value) (ss:List (List UInt8)),e=.returned v/\ss.Perm (strKeys D0) /\
   w'.ownsRow (w.alloc (.cells #[.map (some b)] 174)).heap.size 9 1 v ss.length ((ss.mergeSort (fun x y=>decide (x<=y))).map encStr)/\(v=.slice none 0 0 ↔ ss=[])/\Below (w.alloc (.cells #[.map (some b)] 174)).heap.size (w.alloc (.cells #[.map (some b)] 174)) w':=by
 have hbl:=hown.lt;have hseq:SeqGives Fence.wide 2 Tryz.prog 172 #[.pointer (some ⟨w.heap.size,0,none⟩)] encStr (fun ss=>ss.Perm (strKeys D0)) (Maps.size D0) (w.alloc (.cells #[.map (some b)] 174)) :=
  AnyZ.keys_gives (ρ:=Tryz.keys42_ren) { Tryz.keys42 with } Fence.wide _ trivial rfl (by omega) w.heap.size b nn D0 _ (by simp) (by simp) (by
   obtain⟨es,clock,hb,Ft,hs,hD⟩:=hown;exact⟨es,clock,(Below.heap_alloc _ _ b hbl).trans hb,Ft,hs,hD⟩)
 exact AnyZ.sorted_in Tryz.sorted41 Fence.wide 5 trivial trivial trivial trivial rfl (by omega) (Tryz.sorts41 _) (enters_of Tryz.func171 (by kernel_rfl) rfl) 172 #[.pointer (some ⟨w.heap.size,0,none⟩)] trivial (enters_of Tryz.func172 (by kernel_rfl) rfl) _ _ hmax hbytes _ hseq
end Go.Proofs
namespace Go.Proofs.YtefjomofjejklaaGreatDoor
set_option maxRecDepth 100000
set_option maxHeartbeats 32000000
open Go.RowKit Go.Maps Go.Sort Go.Shelf
theorem ape {w:World} {base:Nat} {l:ZB} {v:Value} {n:Nat} (h:w.ownsRow base 9 1 v n ((l.map (·.data.toList)).map encStr)) (hn:n=l.length):∃a c,v=.slice a l.length c/\fS w l a l.length c:=by
 subst hn;have e:(l.map (·.data.toList)).map encStr=l.flatMap iC:=by
  clear h;induction l with
  | nil=>rfl
  | cons x r ih=>simp only[List.map_cons,ih,List.flatMap_cons,iC];rfl
 rw[e] at h;obtain⟨a,c,h1,_,h2⟩:=jR h [] (by simp);exact⟨a,c,h1,h2⟩
theorem atG {w:World} {b n:Nat} {D:DataW Unit} {R:Value->Option (DataW Unit×List MemPlace)} (h:w.ownsMap Tryz.prog 9 R b n D):Maps.size D<=n:=by
 obtain⟨es,clock,_,_,hs,rfl⟩:=h;simp only[Maps.size];rw[length_sorted];simpa using hs
def aSo (l:ZB) (w:World) (e:Ending) (w':World):Prop:=∃(a:OA) (c:Nat),e=.returned (.slice a l.length c)/\fS w' l a l.length c/\Ext w w'/\∀b off,a=some ⟨b,off,none⟩->w.heap.size<=b
theorem BD (e:Ex) (v:Value) (w:World) (hs:e.size<=900000) (hf:e.fits) (he:dw w e v):Calls Tryz.prog 109 #[v] w (aSo (jB (fX e)) w):=by
 obtain⟨aw,nw,cw,aa,na,ca,rfl,-,-,-,-,-⟩:=he.parts;have HX:=ai (((Tz w).alloc (.cells #[.int .i64 e.op,.string e.name,.slice aw nw cw,.int .i64 e.lo,.int .i64 e.hi,.slice aa na ca] 45)).alloc (.map #[] 0));have Ij:=ai (show KW ((w.alloc (.cells #[.int .i64 e.op,.string e.name,.slice aw nw cw,.int .i64 e.lo,.int .i64 e.hi,.slice aa na ca] 45)).alloc (.map #[] 0)) (w.heap.size+1) 0 [] from
  ⟨.map [],by have:=World.ownsMap_made (H:=Unit) (w.alloc (.cells #[.int .i64 e.op,.string e.name,.slice aw nw cw,.int .i64 e.lo,.int .i64 e.hi,.slice aa na ca] 45)) Tryz.prog 9 unitElem;simpa using this,ax5⟩)
 have HE:=ai (show dw (mask ((w.alloc (.cells #[.int .i64 e.op,.string e.name,.slice aw nw cw,.int .i64 e.lo,.int .i64 e.hi,.slice aa na ca] 45)).alloc (.map #[] 0)) [w.heap.size+1]) e (fN e.op e.name aw nw cw e.lo e.hi aa na ca) from
  he.mono (fun p q hp=>by
   have hb:=eB hp;rw[eA,bL (by simp;omega)];exact HX.o.cell hp))
 have HC:=ai (aji 900000 (by omega) e _ _ _ _ _ hs hf HE.o Ij.o (by omega));have hmm:=@run_makeMap Tryz.prog;rw[List.nil_append] at HC;clear he Ij HE;unfold fN at *;refine(callsIn_wide (n:=6)).1 ?_;have hfK:Fence.wide.fn 142:=trivial;have hfS:Fence.wide.fn 141:=trivial;have hfC:Fence.wide.fn 140:=trivial;refine callsIn_of_wp Tryz.func109 rfl trivial ?_ rfl;simp only[Tryz.ntmps109,List.size_toArray,List.length_cons,List.length_nil,Nat.reduceAdd,Nat.reduceSub,Array.replicate_succ,Array.replicate_zero,List.push_toArray,List.append_toArray,List.nil_append,a48]
 gi_wp2_with (first
  | (gi_at_call 140;refine(callsIn_wide.2 HC.o).mono ?_;rintro r w1 ⟨rfl,aQi,hc1⟩)
  | (gi_at_call 142;refine(Tryz.maps_Keys_42 _ _).mono ?_;rintro r w' ⟨rfl,rfl⟩))
 obtain⟨D,hown,hsi⟩:=aQi;have hsize:=atG hown;have hwx:=hc1.ext HX.o (by simp);have dI:=ai hwx;have HSI:=ai hsi;clear hc1 hsi hwx;refine(Tryz.slices_Sorted_keys_41_42 (w.heap.size+1) _ D _ w1 hown (by unfold maxLen;omega) (by omega)).mono ?_;rintro r w2 ⟨v,ss,rfl,hS,hrow,-,hb⟩;have hsame:=auD HSI.o hS;have hlen:ss.length=(jB (fX e)).length:=by
  have:=congrArg List.length hsame;simpa using this
 rw[hsame] at hrow;have hfr:=hrow.lt;obtain⟨ra,rc,rfl,hst⟩:=ape hrow hlen;have HFR:=ai (show ∀b off,ra=some ⟨b,off,none⟩->w.heap.size<=b by
  intro b off e;subst e;have h1:=(hfr b rfl).1;have h2:=dI.o.size;simp at h1;omega)
 have HST:=ai hst;have dN:=ai ((dI.o.alloc (.cells #[.map (some (w.heap.size+1))] 174)).trans hb);clear hrow hst hb hS hsame hlen hown hsize hfr
 gi_wp2_with (fail)
 go_ret;exact⟨ra,rc,rfl,HST.o,dN.o,HFR.o⟩
open Go.RowKit Go.Maps
def Cl.tV (c:Cl):uW:=⟨c.kind==1,c.name,jB (fX c.cond)⟩
def FK (w:World) (l:ZI) (a:OA) (n c:Nat):Prop :=
 n=l.length/\n<=c/\ny a c/\∀i (h:i<l.length),∃b off,a=some ⟨b,off,none⟩/\w.cell? ⟨b,off+i,none⟩=some (.int .i64 l[i])
theorem FK.mono {w w':World} {l:ZI} {a:OA} {n c:Nat} (h:FK w l a n c) (he:Sub w w'):FK w' l a n c :=
 ⟨h.1,h.2.1,h.2.2.1,fun i hi=>by obtain⟨b,off,h1,h2⟩:=h.2.2.2 i hi;exact⟨b,off,h1,he _ _ h2⟩⟩
def ints (o:ZN):ZI:=o.map fun (i:Nat)=>(i:Int)
def aNp (l:List uW) (w:World) (e:Ending) (w':World):Prop:=Ext w w' /\
 ((∃o a c,Yi l o/\e=.returned (.tuple #[.slice a o.length c,.int .i64 0])/\FK w' (ints o) a o.length c)\/(∃o,Lo l o []/\o.length<lY l/\e=.returned (.tuple #[.slice none 0 0,.int .i64 10])))
theorem Qm {l:List uW} {k:Nat} (hk:k<l.length) (s:BA):gA (l.take (k+1)) s=match gA (l.take k) s with|some d=>some d|none=>if l[k].is=true/\l[k].name=s then some k else none:=by
 unfold gA;rw[aO hk,List.findIdx?_append];cases h:(l.take k).findIdx? fun d=>d.is&&decide (d.name=s) with
 | some d=>simp
 | none =>
  simp only[List.findIdx?_cons,List.findIdx?_nil,List.length_take];by_cases hc:l[k].is=true/\l[k].name=s
  ·simp[hc];omega
  rw[bL hc];have:(l[k].is&&decide (l[k].name=s))=false:=by
   simp only[Bool.and_eq_false_iff,bI];by_cases h1:l[k].is=true
   ·exact a4Z fun h2=>hc ⟨h1,h2⟩
   exact aoX (by simpa using h1)
  simp[this]
theorem JM:Tryz.prog.underlying 136=some (.map 9 3):=by kernel_rfl
theorem al4:Tryz.prog.underlying 173=some (.map 9 26):=by kernel_rfl
theorem ato:Tryz.prog.underlying 172=some (.map 3 174):=by kernel_rfl
theorem aJP:Tryz.prog.underlying 3=some (.int .i64):=by kernel_rfl
theorem agp:Keyed Tryz.prog 3:=int_keyed aJP
theorem IJ (w:World):(zeroValue 3).run Tryz.prog w=.ok (.int .i64 0) w:=by kernel_rfl
theorem aoF (w:World):(zeroValue 26).run Tryz.prog w=.ok (.slice none 0 0) w:=by kernel_rfl
theorem awq (w:World):(zeroValue 174).run Tryz.prog w=.ok (.map none) w:=by kernel_rfl
theorem lB {s:BA} (h:s.size<=1000000000000000):keyOf Tryz.prog 9 (.string s)=some (.string s.data.toList):=Go.WideMaps.keyOf_string_mk aBs (by unfold maxLen;omega)
theorem auO {i:Nat} (h:i<=1000000000000000):keyOf Tryz.prog 3 (.int .i64 i)=some (.int .i64 i):=keyOf_int_mk aJP (by simp[Lit.wf,IntKind.min,IntKind.max,IntKind.bits,IntKind.signed];omega)
theorem ac8 {l:List uW} {s:BA} (h:gA l s=none):kV (zT l) (.string s.data.toList)=none:=by rw[oQ,zT,h];rfl
theorem TL {l:List uW} {s:BA} {d:Nat} (h:gA l s=some d):kV (zT l) (.string s.data.toList)=some (.int .i64 d):=by rw[oQ,zT,h];rfl
theorem arv {l:List uW} {k:Nat} (hk:k<l.length) (hd:l[k].is=true) (hf:gA (l.take k) l[k].name=none) (x:Lit):Rw (kV (zT (l.take k))) (.string l[k].name.data.toList) (some (.int .i64 k)) x=kV (zT (l.take (k+1))) x:=by
 rw[Dm];cases x<;>try rfl
 rename_i bs
 simp only[kV];by_cases e:(⟨bs.toArray⟩:BA)=l[k].name
 ·rw[e,xY,zT,Qm hk,hf];simp[hd]
 rw[sR _ _ e,zT,zT,Qm hk];cases gA (l.take k) ⟨bs.toArray⟩ with
 | some d=>rfl
 | none =>
  have:¬(l[k].is=true/\l[k].name=⟨bs.toArray⟩):=fun h=>e h.2.symm
  rw[bL this]
theorem arw {l:List uW} {k:Nat} (hk:k<l.length) (hd:l[k].is=false\/gA (l.take k) l[k].name≠none) (x:Lit):kV (zT (l.take k)) x=kV (zT (l.take (k+1))) x:=by
 cases x<;>try rfl
 rename_i bs
 simp only[kV,zT];rw[Qm hk];cases h:gA (l.take k) ⟨bs.toArray⟩ with
 | some d=>rfl
 | none =>
  have:¬(l[k].is=true/\l[k].name=⟨bs.toArray⟩):=by
   rintro⟨h1,h2⟩;rcases hd with h3|h3
   ·rw[h3] at h1;cases h1
   rw[h2] at h3;exact h3 h
  rw[bL this]
def Tl (D:BA->Option Nat):BA->Option Value:=fun s=>(D s).map fun (n:Nat)=>Value.int .i64 (n:Int)
mutual
theorem aBA {D:BA->Option Nat} (hD:∀s n,D s=some n->n<=2001):(e:Ex)->szE D e<=2001
 | .mk op name _ _ _ args=>by
  rw[szE];have hl:=aBz hD args 1 (by omega);by_cases h3:op=3
  ·rw[bM h3];cases hd:D name with
   | none=>exact hl
   | some n=>exact hD name n hd
  rw[bL h3];exact hl
theorem aBz {D:BA->Option Nat} (hD:∀s n,D s=some n->n<=2001):(l:List Ex)->∀n,n<=2001->szL D n l<=2001
 | [],n,hn=>by simp[szL];omega
 | e::r,n,hn=>by
  rw[szL];exact aBz hD r _ (by omega)
end
def aVr (D:BA->Option Nat) (na:Nat) (args:List Ex) (w1:World) (t i:Value) (wr:World):Prop:=∃k:Nat,i=.int .i64 k/\k<=na/\t=.int .i64 ((szL D 1 (args.take k):Nat):Int)/\szL D 1 (args.take k)<=2001/\Ext w1 wr
theorem X3 (D:BA->Option Nat) (hD:∀s n,D s=some n->n<=2001) (bm nm:Nat):∀(m:Nat) (e:Ex) (ev:Value) (w:World),e.size<=m->m<=1000000000000000->e.fits->ig w 9 bm nm (kV (Tl D))->dw w e ev ->
  Calls Tryz.prog 83 #[.map (some bm),ev] w (cz (.int .i64 (szE D e)) w):=by
 intro m;induction m with
 | zero=>intro e ev w h;have:=size_pos e;omega
 | succ m ihm =>
  intro e ev w hm Re hfit hmap he;obtain⟨aw,nw,cw,aa,na,ca,rfl,hw,hna,hca,ha,hx⟩:=he.parts;obtain⟨hnm,qx⟩:=Mf hfit;have hS:e.size=1+sizes e.args:=e.size_eq;have hla:=eR e.args;have Ks:na<=1000000000000000:=by omega
  have aC9:sizes e.args<=m:=by omega
  have HM:=ai hmap;have HX:=ai hx;have kJ:=ai hna;have AD:=ai qx;have Uf:=ai (aBA hD);have Gk:=ai (aGQ D e);have IHM:=ai ihm;clear hw hna hca ha hx he hS hla ihm hm qx hfit hmap;unfold fN;obtain⟨wa,cN⟩:∃wa,wa=w.alloc (.cells #[.int .i64 e.op,.string e.name,.slice aw nw cw,.int .i64 e.lo,.int .i64 e.hi,.slice aa na ca] 45):=⟨_,rfl⟩
  have gB:Ext w wa:=by rw[cN];exact(Tz _).alloc _
  have hb1:wa.heap[w.heap.size]?=some (.cells #[.int .i64 e.op,.string e.name,.slice aw nw cw,.int .i64 e.lo,.int .i64 e.hi,.slice aa na ca] 45 (0,0)):=by rw[cN];exact bR w _
  have dm:=ai gB;have gG:=ai hb1;obtain⟨f0,f1,f2,f3,f4,f5,ff⟩:=cX hb1;have kL:=bS hb1;have GU:=ai (HM.o.ext gB);clear gB hb1;by_cases GL:e.op=3/\(D e.name).isSome=true
  ·obtain⟨h3,hds⟩:=GL;obtain⟨q,hq⟩:=Option.isSome_iff_exists.1 hds;have t3:(e.op==3)=true:=by simp[h3]
   have HQ:=ai (show szE D e=q by rw[Gk.o,bM h3,hq]);have HF:=ai (show kV (Tl D) (.string e.name.data.toList)=some (.int .i64 q) by rw[oQ,Tl,hq];rfl);clear hds hq h3 Gk;go_enter Tryz.func83,Tryz.ntmps83
   go_upto_region 2 with fail
   rw[<-cN];clear cN;go_wp2_with (at_lookup;refine gO _ rfl _ _ 136 rfl 9 3 gU JM (IJ _) bm nm _ rfl GU.o _ _ rfl (lB hnm) trivial ?_;rw[HF.o])
   go_ret;exact cD (by rw[HQ.o]) dm.o
  have HQ:=ai (show szE D e=szL D 1 e.args by
   rw[Gk.o];by_cases h3:e.op=3
   ·rw[bM h3];cases hd:D e.name with
    | none=>rfl
    | some q=>exact a40 ⟨h3,by rw[hd];rfl⟩ GL
   rw[bL h3])
  clear Gk;by_cases h3:e.op=3
  case' pos =>
   have t3:(e.op==3)=true:=by simp[h3]
   have HF:=ai (show kV (Tl D) (.string e.name.data.toList)=none by
    rw[oQ,Tl];cases hd:D e.name with
    | none=>rfl
    | some q=>exact a40 ⟨h3,by rw[hd];rfl⟩ GL)
   clear h3 GL;go_enter Tryz.func83,Tryz.ntmps83
   go_upto_region 2 with fail
   rw[<-cN];clear cN;go_wp2_with (at_lookup;refine gO _ rfl _ _ 136 rfl 9 3 gU JM (IJ _) bm nm _ rfl GU.o _ _ rfl (lB hnm) trivial ?_;rw[HF.o])
   clear HF
  case' neg =>
   have t3:(e.op==3)=false:=by simp[h3]
   clear h3 GL;go_enter Tryz.func83,Tryz.ntmps83
   go_wp2_with fail
   rw[<-cN];clear cN
  all_goals
   clear f0 f1 f2 f3 f4 f5 ff;go_loopw [7,25] (aVr D na e.args wa) (fun _ i _=>na - (intOf i).toNat)
   case atStart=>exact⟨0,rfl,by omega,by simp[szL],by simp[szL],Tz _⟩
   case round =>
    obtain⟨k,rfl,hk,rfl,hle,lM⟩:=hrel;have gZ:=ai lM;clear lM;obtain⟨N,hN⟩:∃N,N=szL D 1 (e.args.take k):=⟨_,rfl⟩
    rw[<-hN] at hle ⊢;have qY:=ai hN;clear hN;by_cases hkn:k<na
    ·have hka:k<e.args.length:=by have:=kJ.o;omega
     have t1:=ag ((k:Int)<(na:Int));obtain⟨b,off,rfl,nJ,nD,nG,nK,nE,nI,h0,h1,h2,h3,h4,h5,h6⟩:=eU.at e.args _ (eU.ext (dm.o.trans gZ.o) e.args _ HX.o) k hka;have H6:=ai h6;have hs1:=eD e.args k hka;have hs2:=dX e.args (k+1);have uk:e.args[k].size<=m:=by omega
     have uF:=ai (aip D e.args 1 k hka);have hel:=Uf.o e.args[k];have DK:=eB h0;simp only at DK;clear h6 hs1 hs2;obtain⟨wx,hwx⟩:∃wx,wx=wr.alloc (.cells #[.int .i64 e.args[k].op,.string e.args[k].name,.slice nJ nD nG,.int .i64 e.args[k].lo,.int .i64 e.args[k].hi,.slice nK nE nI] 45):=⟨_,rfl⟩
     have yx:=ai (show Ext wr wx by rw[hwx];exact(Tz _).alloc _);go_wp2_with fail
     rw[<-hwx];clear hwx;refine(IHM.o e.args[k] _ _ uk (by omega) (AD.o _ (aD hka)) (GU.o.ext (gZ.o.trans yx.o)) (H6.o.ext yx.o)).mono ?_;rintro r w3 ⟨rfl,hx3⟩;have dS:=ai (gZ.o.trans (yx.o.trans hx3));clear hx3 h0 h1 h2 h3 h4 h5;go_wp2_with fail
     all_goals
      go_roundw
      case rel=>exact⟨k+1,by go_num,by omega,by rw[uF.o,<-qY.o];congr 1;omega,by rw[uF.o];omega,dS.o⟩
      case measure=>simp[intOf];omega
    have t1:=ah ((k:Int)<(na:Int));have HR:=ai (show N=szE D e by rw[HQ.o,qY.o,aS (by have:=kJ.o;omega)]);have zi:=ai (dm.o.trans gZ.o);go_wp2_with fail
    go_ret;exact cD (by rw[<-HR.o]) zi.o
theorem EW:Tryz.prog.underlying 131=some (.map 9 45):=by kernel_rfl
theorem JH (w:World):(zeroValue 45).run Tryz.prog w=.ok (.agg #[.int .i64 0,.string ⟨#[]⟩,.slice none 0 0,.int .i64 0,.int .i64 0,.slice none 0 0]) w:=by kernel_rfl
theorem Qs {l:List cK} {k:Nat} (hk:k<l.length) (s:BA):dz (l.take (k+1)) s=match dz (l.take k) s with|some d=>some d|none=>if l[k].kind=1/\l[k].name=s then some k else none:=by
 have h:=Qm (l:=l.map cK.tV) (k:=k) (by simpa using hk) s;rw[<-List.map_take,<-List.map_take,rA,rA] at h;rw[h];cases dz (l.take k) s<;>simp[cK.tV]
def Rv (w:World) (l:List cK) (g:BA->Option Value):Prop:=∀s,(dz l s=none->g s=none)/\∀d,dz l s=some d->∃v,g s=some v/\dw w (l.getD d fC).cond v
theorem Rv.ext {w w':World} {l:List cK} {g:BA->Option Value} (h:Rv w l g) (hx:Ext w w'):Rv w' l g:=fun s=>⟨(h s).1,fun d hd=>by obtain⟨v,h1,h2⟩:=(h s).2 d hd;exact⟨v,h1,h2.ext hx⟩⟩
def xS (w:World) (l:List cK) (b n:Nat):Prop:=∃g,ig w 9 b n (kV g)/\Rv w l g
theorem xS.ext {w w':World} {l:List cK} {b n:Nat} (h:xS w l b n) (hx:Ext w w'):xS w' l b n:=by
 obtain⟨g,h1,h2⟩:=h;exact⟨g,h1.ext hx,h2.ext hx⟩
theorem getD_take {l:List cK} {k d:Nat} (hd:d<k):(l.take k).getD d fC=l.getD d fC:=by simp[List.getD,hd]
theorem Rv.skip {w:World} {l:List cK} {k:Nat} {g:BA->Option Value} (hk:k<l.length) (h:Rv w (l.take k) g) (hs:l[k].kind≠1\/dz (l.take k) l[k].name≠none):Rv w (l.take (k+1)) g:=by
 intro s;have hdd:∀d,dz (l.take k) s=some d->d<k:=fun d hd=>by have:=ot hd;simp at this;omega
 have key:dz (l.take (k+1)) s=dz (l.take k) s:=by
  rw[Qs hk];cases hd:dz (l.take k) s with
  | some d=>rfl
  | none =>
   rw[bL];rintro⟨h1,h2⟩;rcases hs with h3|h3
   ·exact h3 h1
   rw[h2] at h3;exact h3 hd
 rw[key];refine⟨(h s).1,fun d hd=>?_⟩;have:=hdd d hd;rw[getD_take (by omega),<-getD_take (k:=k) this];exact(h s).2 d hd
theorem Rv.step {w:World} {l:List cK} {k:Nat} {g:BA->Option Value} (hk:k<l.length) (h:Rv w (l.take k) g) (uk:l[k].kind=1) (hn:dz (l.take k) l[k].name=none) {v:Value} (hv:dw w l[k].cond v):Rv w (l.take (k+1)) (upS g l[k].name (some v)):=by
 intro s;rw[Qs hk];by_cases e:s=l[k].name
 ·subst e;rw[hn,xY];simp only[uk,and_self,if_true];refine⟨fun h=>by simp at h,fun d hd=>?_⟩;obtain rfl:k=d:=by simpa using hd
  rw[getD_take (by omega),fJ hk];exact⟨v,rfl,hv⟩
 rw[sR _ _ e];cases hd:dz (l.take k) s with
 | none =>
  have:¬(l[k].kind=1/\l[k].name=s):=fun h=>e h.2.symm
  simp only[bL this];exact⟨fun _=>(h s).1 hd,fun d hd'=>by cases hd'⟩
 | some d =>
  have hdk:d<k:=by have:=ot hd;simp at this;omega
  refine⟨fun h=>by simp at h,fun d' hd'=>?_⟩;obtain rfl:d=d':=by simpa using hd'
  rw[getD_take (by omega),<-getD_take (k:=k) hdk];exact(h s).2 d hd
def aVj (l:List cK) (n:Nat) (w:World) (e:Ending) (w':World):Prop:=∃b,e=.returned (.map (some b))/\xS w' l b n/\Ext w w'
theorem DT (l:List cK) (a:OA) (n c:Nat) (w:World) (hl:cZ w l a n c) (hn:n<=1000000) (hsz:∀x∈l,x.name.size<=1000000000000000) :
  Calls Tryz.prog 78 #[.slice a n c] w (aVj l n w):=by
 have HL:=ai hl;have HN:=ai hl.len;have tR:=ai hsz;clear hl hsz;have hmm:=@run_makeMap Tryz.prog;have Uj:=ai (ig.made w 9);have BO:=ai ((Tz w).alloc (.map #[] 0));obtain⟨bf,Qd⟩:∃bf:Nat,bf=w.heap.size:=⟨_,rfl⟩
 rw[<-Qd] at Uj;have HBF:=ai Qd;go_enter Tryz.func78,Tryz.ntmps78
 go_wp2_with fail
 rw[<-Qd];clear Qd hmm;go_loopw [11] (fun i wr=>∃(k:Nat) (g:BA->Option Value),k<=n/\i=.int .i64 k/\ig wr 9 bf k (kV g)/\Rv w (l.take k) g/\Ext w wr) (fun i _=>n - (intOf i).toNat)
 case atStart =>
  refine⟨0,fun _=>none,by omega,rfl,Uj.o.congr fun x=>?_,fun s=>⟨fun _=>rfl,fun d hd=>?_⟩,BO.o⟩
  ·cases x<;>simp[kV]
  simp[dz] at hd
 case round =>
  obtain⟨k,g,hk,rfl,hmap,hg,hx⟩:=hrel;have En:=ai hmap;have HX:=ai hx;have HG:=ai hg;have qL:=hmap.lt;clear hmap hx hg Uj BO;by_cases hlt:k<n
  ·have hlt':k<l.length:=by have:=HN.o;omega
   have t1:=ag ((k:Int)<(n:Int));obtain⟨cb,ld,v,rfl,fO,hrow⟩:=HL.o.at hlt';obtain⟨c0,c1,c2,c3,c4,c5,c6,c7,c8,c9⟩:=(hrow.mono HX.o.sub).BB;have zP:v.name.size<=1000000000000000:=by rw[fO.2.1];exact tR.o _ (aD hlt')
   have DK:=eB c0;simp only at DK;have zq:=ai (show dw w l[k].cond (.agg #[.int .i64 v.x.op,.string v.x.name,.slice v.x.aw v.x.nw v.x.cw,.int .i64 v.x.lo,.int .i64 v.x.hi,.slice v.x.aa v.x.na v.x.ca]) from fO.2.2.1);have HEK:=ai (show l[k].kind=v.kind from fO.1.symm);have Li:=ai (show l[k].name=v.name from fO.2.1.symm);have HST:=ai (fun h1 h2=>HG.o.step hlt' h1 h2 zq.o);have Na:=ai (HG.o.skip hlt');rw[HEK.o,Li.o] at HST Na;clear fO hrow;cases qx:dz (l.take k) v.name with
   | none =>
    have HF:=ai (show kV g (.string v.name.data.toList)=none by rw[oQ];exact(HG.o _).1 qx);cases tC:(v.kind==1)
    ·have Nd:=ai (Na.o (aoX (by simpa using tC)));go_wp2_with (at_lookup;refine gO _ rfl _ _ 131 rfl 9 45 gU EW (JH _) bf k _ rfl (En.o.ext ((Tz wr).alloc _)) _ _ rfl (lB zP) trivial ?_;rw[HF.o])
     go_roundw
     case rel=>exact⟨k+1,g,by omega,by go_num,(En.o.ext (((Tz wr).alloc _).alloc _)).more (by omega),Nd.o,(HX.o.alloc _).alloc _⟩
     case measure=>simp[intOf];omega
    have Nd:=ai (HST.o (by simpa using tC) qx);clear qx;go_wp2_with (first
     | (at_lookup;refine gO _ rfl _ _ 131 rfl 9 45 gU EW (JH _) bf k _ rfl (En.o.ext ((Tz wr).alloc _)) _ _ rfl (lB zP) trivial ?_;rw[HF.o])
     | (at_mapUpdate;refine lR _ rfl _ _ _ 131 rfl 9 45 gU EW bf k _ rfl (En.o.ext (((Tz wr).alloc _).alloc _)) ?c3 _ _ _ rfl rfl (lB zP) trivial ?_))
    case c3=>unfold maxLen;omega
    intro w1 hm1 hc1;have WO:=ai (hm1.congr (Dm g v.name _));have dI:=ai (hc1.ext ((HX.o.alloc _).alloc _) (by rw[<-HBF.o];simp));clear hm1 hc1;go_wp2_with fail
    go_roundw
    case rel=>exact⟨k+1,_,by omega,by go_num,WO.o,Nd.o,dI.o⟩
    case measure=>simp[intOf];omega
   | some d =>
    obtain⟨u,hu,hux⟩:=(HG.o v.name).2 d qx;obtain⟨aw,nw,cw,aa,na,ca,rfl,-,-,-,-,-⟩:=hux.parts;have HF:=ai (show kV g (.string v.name.data.toList)=some _ by rw[oQ];exact hu);have Nd:=ai (Na.o (a4Z (by rw[qx];simp)));unfold fN at HF;clear qx hu hux;cases tC:(v.kind==1)
    all_goals
     go_wp2_with (at_lookup;refine gO _ rfl _ _ 131 rfl 9 45 gU EW (JH _) bf k _ rfl (En.o.ext ((Tz wr).alloc _)) _ _ rfl (lB zP) trivial ?_;rw[HF.o])
     go_roundw
     case rel=>exact⟨k+1,g,by omega,by go_num,(En.o.ext (((Tz wr).alloc _).alloc _)).more (by omega),Nd.o,(HX.o.alloc _).alloc _⟩
     case measure=>simp[intOf];omega
  have t1:=ah ((k:Int)<(n:Int));have hkn:k=n:=by omega
  have HGE:=ai (show xS wr l bf n from⟨g,by rw[<-hkn];exact En.o,by have:=HG.o.ext HX.o;rwa [aS (by have:=HN.o;omega)] at this⟩);clear hkn;go_wp2_with fail
  go_ret;exact⟨bf,rfl,HGE.o,HX.o⟩
def Dx (op:Int):Int:=if op=3 then 3 else if op=4 then 1 else if op=5 then 2 else 0
def GP (s:List Attr) (l:List cK) (op:Int) (name:BA) (words:ZB) (lo hi:Int):Int :=
 if Dx op=0 then 0 else match eO s name with
 | none=>if op=3/\(dz l name).isSome=true then 0 else 7
 | some i=>if (s.getD i rL).kind≠Dx op then 9 else if (words.all fun x=>decide (x∈(s.getD i rL).words))=false then 7 else if lo<(s.getD i rL).lo\/(s.getD i rL).hi<hi then 1 else 0
theorem Qy {s:List Attr} {l:List cK} {op:Int} {name:BA} {words:ZB} {lo hi:Int} (hk:Dx op≠0) (h:eO s name=none):GP s l op name words lo hi=if op=3/\(dz l name).isSome=true then 0 else 7:=by
 unfold GP;rw[bL hk,h]
theorem Qx {s:List Attr} {l:List cK} {op:Int} {name:BA} {words:ZB} {lo hi:Int} (hk:Dx op≠0) {i:Nat} (h:eO s name=some i) (hi':i<s.length):GP s l op name words lo hi =
  if s[i].kind≠Dx op then 9 else if (words.all fun x=>decide (x∈s[i].words))=false then 7 else if lo<s[i].lo\/s[i].hi<hi then 1 else 0:=by
 unfold GP;rw[bL hk,h];simp only[yI hi']
theorem arU (s:List Attr) (sv:Value) (l:List cK) (bm nm:Nat) (e:Ex) (ev:Value) (w:World) (hs:dB w s sv) (hf:∀x∈s,x.fits) (hsl:s.length<=1000000000000000) (hd:xS w l bm nm) (he:dw w e ev) (hew:e.words.length<=1000000000000000) (hen:e.name.size<=1000000000000000) :
  Calls Tryz.prog 169 #[sv,.map (some bm),ev] w (cz (.int .i64 (GP s l e.op e.name e.words e.lo e.hi)) w):=by
 obtain⟨sa,sn,sc,rfl,B6⟩:=hs.slice;obtain⟨aw,nw,cw,aa,na,ca,rfl,hw,hna,hca,ha,hx⟩:=he.parts;have HS:=ai hs;have HF:=ai hf;have HD:=ai hd;have HW:=ai hw;have K8:=ai B6;have RV:=ai hw.1;have hnw:nw<=1000000000000000:=by rw[hw.1];exact hew
 have aQg:sn<=1000000000000000:=by omega
 clear hs hf hd hw B6 he hna hca ha hx hew;unfold fN;obtain⟨op,name,words,lo,hi,args⟩:=e;simp only[Ex.op,Ex.name,Ex.words,Ex.lo,Ex.hi] at *;obtain⟨wa,cN⟩:∃wa,wa=(w.alloc (.cells #[.slice sa sn sc] 24)).alloc (.cells #[.int .i64 op,.string name,.slice aw nw cw,.int .i64 lo,.int .i64 hi,.slice aa na ca] 45):=⟨_,rfl⟩
 have gB:Ext w wa:=by rw[cN];exact((Tz _).alloc _).alloc _
 have hb0:wa.heap[w.heap.size]?=some (.cells #[.slice sa sn sc] 24 (0,0)):=by rw[cN];exact bU (bR w _)
 have hb1:wa.heap[w.heap.size+1]?=some (.cells #[.int .i64 op,.string name,.slice aw nw cw,.int .i64 lo,.int .i64 hi,.slice aa na ca] 45 (0,0)):=by rw[cN];exact cT (by simp)
 have HI:=ai (IL s _ name wa (HS.o.ext gB) (by have:=K8.o;omega));have dm:=ai gB;have iO:=ai hb0;have gG:=ai hb1;obtain⟨E,hE⟩:∃E,E=GP s l op name words lo hi:=⟨_,rfl⟩
 rw[<-hE];have HE:=ai hE;clear hE;obtain⟨a0,af⟩:=dO hb0;obtain⟨b0,b1,b2,b3,b4,b5,bf⟩:=cX hb1;have kI:=bS hb1;clear gB hb0 hb1;by_cases hop:op=3\/op=4\/op=5
 case neg =>
  have HR:=ai (show E=0 by
   rw[HE.o,GP,bM];unfold Dx;rw[bL (by omega),bL (by omega),bL (by omega)])
  have e3:(op==3)=false:=by simp;omega
  have e4:(op==4)=false:=by simp;omega
  have e5:(op==5)=false:=by simp;omega
  clear hop;go_enter Tryz.func169,Tryz.ntmps169
  go_upto_region 1 with fail
  rw[<-cN];clear cN;go_wp2_with fail
  go_ret;exact cD (by rw[HR.o]) dm.o
 obtain⟨kd,tC⟩:∃kd:Int,(op=3/\kd=3)\/(op=4/\kd=1)\/(op=5/\kd=2):=by
  rcases hop with h|h|h
  ·exact⟨3,aoX ⟨h,rfl⟩⟩
  ·exact⟨1,a4Z (aoX ⟨h,rfl⟩)⟩
  exact⟨2,a4Z (a4Z ⟨h,rfl⟩)⟩
 have Yx:Dx op=kd/\kd≠0:=by
  rcases tC with ⟨rfl,rfl⟩|⟨rfl,rfl⟩|⟨rfl,rfl⟩<;>exact⟨rfl,by decide⟩
 clear hop;have HK0:=ai (show Dx op≠0 by rw[Yx.1];exact Yx.2);have Nl:=ai Yx.1;clear Yx;cases ho:eO s name with
 | none =>
  rw[ho,Al] at HI;have HQ:=ai (show E=if op=3/\(dz l name).isSome=true then 0 else 7 by rw[HE.o];exact Qy HK0.o ho);clear ho HE HK0 Nl;obtain⟨g,hmap,hg⟩:=HD.o;have En:=ai hmap;have HG:=ai hg;clear hmap hg;cases hda:dz l name with
  | none =>
   have HFN:=ai (show kV g (.string name.data.toList)=none by rw[oQ];exact(HG.o _).1 hda);have HR:=ai (show E=7 by rw[HQ.o,hda];simp);clear hda HQ;rcases tC with ⟨rfl,rfl⟩|⟨rfl,rfl⟩|⟨rfl,rfl⟩
   all_goals
    go_enter Tryz.func169,Tryz.ntmps169
    go_upto_region 1 with fail
    rw[<-cN];clear cN;go_wp2_with fail
    refine HI.o.mono ?_;rintro r w3 ⟨rfl,hx3⟩;have dS:=ai (dm.o.trans hx3);have HM3:=ai (En.o.ext dS.o);clear b0 b1 b2 b3 b4 b5 bf a0 af kI;obtain⟨b0,b1,b2,b3,b4,b5,bf⟩:=cX (hx3.blk gG.o);have hlt:=bS (hx3.blk gG.o);clear hx3;go_wp2_with (at_lookup;refine gO _ rfl _ _ 131 rfl 9 45 gU EW (JH _) bm nm _ rfl HM3.o _ _ rfl (lB hen) trivial ?_;rw[HFN.o])
    go_ret;exact cD (by rw[HR.o]) (dS.o.alloc _)
  | some d =>
   obtain⟨u,hu,hux⟩:=(HG.o name).2 d hda;obtain⟨X7,Xp,XU,aa',na',ca',rfl,-,-,-,-,-⟩:=hux.parts;have HFN:=ai (show kV g (.string name.data.toList)=some _ by rw[oQ];exact hu);unfold fN at HFN;have HR:=ai (show E=if op=3 then 0 else 7 by rw[HQ.o,hda];simp);clear hda HQ hu hux;rcases tC with ⟨rfl,rfl⟩|⟨rfl,rfl⟩|⟨rfl,rfl⟩
   all_goals
    go_enter Tryz.func169,Tryz.ntmps169
    go_upto_region 1 with fail
    rw[<-cN];clear cN;go_wp2_with fail
    refine HI.o.mono ?_;rintro r w3 ⟨rfl,hx3⟩;have dS:=ai (dm.o.trans hx3);have HM3:=ai (En.o.ext dS.o);clear b0 b1 b2 b3 b4 b5 bf a0 af kI;obtain⟨b0,b1,b2,b3,b4,b5,bf⟩:=cX (hx3.blk gG.o);have hlt:=bS (hx3.blk gG.o);clear hx3;go_wp2_with (at_lookup;refine gO _ rfl _ _ 131 rfl 9 45 gU EW (JH _) bm nm _ rfl HM3.o _ _ rfl (lB hen) trivial ?_;rw[HFN.o])
    go_ret;exact cD (by rw[HR.o];decide) (dS.o.alloc _)
 | some i =>
  rw[ho,nX] at HI;have GI:=JD ho;have hin:i<sn:=by have:=K8.o;omega
  have HQ:=ai (show E=if s[i].kind≠kd then 9 else if (words.all fun x=>decide (x∈s[i].words))=false then 7 else if lo<s[i].lo\/s[i].hi<hi then 1 else 0 by rw[HE.o,Qx HK0.o ho GI,Nl.o]);clear ho HE HK0 Nl;have Sc:(0:Int)<=(i:Int):=by omega
  have ti1:(i:Int)<(sn:Int):=by omega
  have ZZ:=HF.o _ (aD GI);have aV6:=ZZ.2.1;clear ZZ;by_cases hk:s[i].kind=kd
  case neg =>
   have tk:(s[i].kind != kd)=true:=by simp[hk]
   have HR:=ai (show E=9 by rw[HQ.o,bM hk]);clear hk HQ;rcases tC with ⟨rfl,rfl⟩|⟨rfl,rfl⟩|⟨rfl,rfl⟩
   all_goals
    go_enter Tryz.func169,Tryz.ntmps169
    go_upto_region 1 with fail
    rw[<-cN];clear cN;go_wp2_with fail
    refine HI.o.mono ?_;rintro r w3 ⟨rfl,hx3⟩;have dS:=ai (dm.o.trans hx3);clear b0 b1 b2 b3 b4 b5 bf a0 af kI;obtain⟨d0,df⟩:=dO (hx3.blk iO.o);have hlt:=bS (hx3.blk gG.o);obtain⟨sb,aPD,xw,xn,xc,rfl,g0,g1,g2,g3,g4,g5⟩:=(HS.o.ext dS.o).cells GI;clear hx3 g5;go_wp2_with fail
    go_ret;exact cD (by rw[HR.o]) (dS.o.alloc _)
  have tk:(s[i].kind != kd)=false:=by simp[hk]
  have HR:=ai (show E=if (words.all fun x=>decide (x∈s[i].words))=false then 7 else if lo<s[i].lo\/s[i].hi<hi then 1 else 0 by rw[HQ.o,bL (by simpa using hk)]);clear hk HQ;rcases tC with ⟨rfl,rfl⟩|⟨rfl,rfl⟩|⟨rfl,rfl⟩
  all_goals
   go_enter Tryz.func169,Tryz.ntmps169
   go_upto_region 1 with fail
   rw[<-cN];clear cN;go_wp2_with fail
   refine HI.o.mono ?_;rintro r w3 ⟨rfl,hx3⟩;have dS:=ai (dm.o.trans hx3);clear b0 b1 b2 b3 b4 b5 bf a0 af kI;obtain⟨d0,df⟩:=dO (hx3.blk iO.o);have nW:=ai (hx3.blk gG.o);have hlt:=bS (hx3.blk gG.o);obtain⟨sb,aPD,xw,xn,xc,rfl,g0,g1,g2,g3,g4,g5⟩:=(HS.o.ext dS.o).cells GI;have N6:=ai g5;have Wm:xn<=1000000000000000:=by rw[g5.1];exact aV6
   clear hx3 g5;go_upto_region 17 with fail
   obtain⟨wb,iV⟩:∃wb,wb=w3.alloc (.cells #[.string s[i].name,.int .i64 s[i].kind,.slice xw xn xc,.int .i64 s[i].lo,.int .i64 s[i].hi] 101):=⟨_,rfl⟩
   rw[<-iV];have hxb:Ext w3 wb:=by rw[iV];exact(Tz _).alloc _
   have hbb:wb.heap[w3.heap.size]?=some (.cells #[.string s[i].name,.int .i64 s[i].kind,.slice xw xn xc,.int .i64 s[i].lo,.int .i64 s[i].hi] 101 (0,0)):=by rw[iV];exact bR w3 _
   have jL:=ai hbb;have jO:=ai (hxb.blk nW.o);have jK:=ai (dS.o.trans hxb);have HGB:=ai (N6.o.ext hxb);have HWB:=ai (HW.o.ext jK.o);obtain⟨p0,p1,p2,p3,p4,pf⟩:=ar7 hbb;obtain⟨q0,q1,q2,q3,q4,q5,qf⟩:=cX jO.o;have ZY:=bS hbb;clear iV hxb hbb d0 df g0 g1 g2 g3 g4 N6 hlt;go_wp2_with fail
   go_loop [57] (fun t=>∃k:Nat,t=.int .i64 k/\k<=nw/\(∀j (h:j<words.length),j<k->decide (words[j]∈s[i].words)=true)) (fun t=>nw - (intOf t).toNat)
   case atStart=>exact⟨0,rfl,by omega,fun j _ h=>by omega⟩
   case round =>
    obtain⟨k,rfl,hk,hall⟩:=hrel;have mK:=ai hall;clear hall;by_cases hkn:k<nw
    ·have hkw:k<words.length:=by have:=RV.o;omega
     have t1:=ag ((k:Int)<(nw:Int));obtain⟨wb',aVx,rfl,cw0⟩:=HWB.o.2.2.2 k hkw;cases Qg:decide (words[k]∈s[i].words)
     ·have HA:=ai Qg;have jI:=ai (show E=7 by
       rw[HR.o,bM];rw[List.all_eq_false];exact⟨words[k],aD hkw,by rw[Qg];simp⟩)
      clear Qg;go_wp2_with fail
      refine(pQ _ _ _ _ _ _ Wm HGB.o).mono ?_;rintro e w' ⟨rfl,rfl⟩;rw[HA.o];go_wp2_with fail
      go_ret;exact cD (by rw[jI.o]) jK.o
     have HA:=ai Qg;clear Qg;go_wp2_with fail
     refine(pQ _ _ _ _ _ _ Wm HGB.o).mono ?_;rintro e w' ⟨rfl,rfl⟩;rw[HA.o];go_wp2_with fail
     go_round
     case rel =>
      refine⟨k+1,by go_num,by omega,fun j hj hjk=>?_⟩;by_cases e:j=k
      ·subst e;exact HA.o
      exact mK.o j hj (by omega)
     case measure=>simp[intOf];omega
    have t1:=ah ((k:Int)<(nw:Int));have jI:=ai (show E=if lo<s[i].lo\/s[i].hi<hi then 1 else 0 by
     rw[HR.o,bL];rw[Bool.not_eq_false,aP];intro y hy;obtain⟨j,hj,rfl⟩:=aW.1 hy;exact mK.o j hj (by have:=RV.o;omega))
    clear mK;go_wp2_with fail
    all_goals (go_ret;exact cD (by rw[jI.o];simp_all<;>omega) jK.o)
structure fT where
 sa:OA
 sn:Nat
 sc:Nat
 bm:Nat
 fa:OA
 fn:Nat
 fc:Nat
def fT.val (v:fT):Value:=.agg #[.slice v.sa v.sn v.sc,.map (some v.bm),.slice v.fa v.fn v.fc]
structure A3 (w:World) (s:List Attr) (l:List cK) (f:ZI) (v:fT) (nm:Nat):Prop where
 x7:dB w s (.agg #[.slice v.sa v.sn v.sc])
 defs:xS w l v.bm nm
 facts:dG w f v.fa v.fn
theorem A3.ext {w w':World} {s:List Attr} {l:List cK} {f:ZI} {v:fT} {nm:Nat} (h:A3 w s l f v nm) (hx:Ext w w'):A3 w' s l f v nm:=⟨h.x7.ext hx,h.defs.ext hx,h.facts.ext hx⟩
def TU:Value:=.agg #[.int .i64 0,.string ⟨#[]⟩,.slice none 0 0,.int .i64 0,.int .i64 0,.slice none 0 0]
def aVk (l:List cK) (op:Int) (name:BA) (w:World) (e:Ending) (w':World):Prop:=Ext w w'/\((op=3/\∃d v,dz l name=some d/\e=.returned (.tuple #[dK.val v,.bool true])/\dw w' (l.getD d fC).cond v.val)\/((op≠3\/dz l name=none)/\e=.returned (.tuple #[TU,.bool false])))
theorem aC2 {w:World} {e:Ex} {v:Value} (h:dw w e v):∃x:dK,v=x.val/\dw w e x.val:=by
 obtain⟨aw,nw,cw,aa,na,ca,rfl,-⟩:=h.parts;exact⟨⟨e.op,e.name,aw,nw,cw,e.lo,e.hi,aa,na,ca⟩,rfl,h⟩
theorem Fv (s:List Attr) (l:List cK) (f:ZI) (lv:fT) (nm:Nat) (e:Ex) (ev:Value) (w:World) (hl:A3 w s l f lv nm) (he:dw w e ev) (hen:e.name.size<=1000000000000000) :
  Calls Tryz.prog 148 #[lv.val,ev] w (aVk l e.op e.name w):=by
 obtain⟨aw,nw,cw,aa,na,ca,rfl,hw,hna,hca,ha,hx⟩:=he.parts;obtain⟨sa,sn,sc,bm,fa,fn,fc⟩:=lv;have HD:=ai hl.defs;clear hw hna hca ha hx hl he;unfold fN fT.val;obtain⟨op,name,words,lo,hi,args⟩:=e;simp only[Ex.op,Ex.name,Ex.lo,Ex.hi] at *;by_cases h3:op=3
 case neg =>
  have t3:(op != 3)=true:=by simp[h3]
  have H3:=ai h3;clear h3;go_enter Tryz.func148,Tryz.ntmps148
  go_wp2_with fail
  refine a5a (v:=.tuple #[TU,.bool false]) (by simp[results,Tryz.results148,go_sem,TU]) rfl ?_;exact⟨by first|exact(((Tz w).alloc _).alloc _).alloc _|exact Tz w,a4Z ⟨aoX H3.o,rfl⟩⟩
 subst h3;obtain⟨g,hmap,hg⟩:=HD.o;have En:=ai hmap;have HG:=ai hg;clear hmap hg;cases hda:dz l name with
 | none =>
  have HFN:=ai (show kV g (.string name.data.toList)=none by rw[oQ];exact(HG.o _).1 hda);have QM:=ai hda;clear hda HG;go_enter Tryz.func148,Tryz.ntmps148
  go_wp2_with (at_lookup;refine gO _ rfl _ _ 131 rfl 9 45 gU EW (JH _) bm nm _ rfl (En.o.ext ((((Tz w).alloc _).alloc _).alloc _)) _ _ rfl (lB hen) trivial ?_;rw[HFN.o])
  refine a5a (v:=.tuple #[TU,.bool false]) (by simp[results,Tryz.results148,go_sem,TU]) rfl ?_;exact⟨((((Tz w).alloc _).alloc _).alloc _).alloc _,a4Z ⟨a4Z QM.o,rfl⟩⟩
 | some d =>
  obtain⟨u,hu,hux⟩:=(HG.o name).2 d hda;obtain⟨xv,rfl,qV⟩:=aC2 hux;have HFN:=ai (show kV g (.string name.data.toList)=some _ by rw[oQ];exact hu);have HXV:=ai qV;have QM:=ai hda;clear hda HG hu hux qV;obtain⟨xo,xn,xaw,xnw,xcw,xlo,xhi,xaa,xna,xca⟩:=xv;unfold dK.val fN at HFN HXV;go_enter Tryz.func148,Tryz.ntmps148
  go_wp2_with (at_lookup;refine gO _ rfl _ _ 131 rfl 9 45 gU EW (JH _) bm nm _ rfl (En.o.ext ((((Tz w).alloc _).alloc _).alloc _)) _ _ rfl (lB hen) trivial ?_;rw[HFN.o])
  refine a5a (v:=.tuple #[dK.val ⟨xo,xn,xaw,xnw,xcw,xlo,xhi,xaa,xna,xca⟩,.bool true]) (by simp[results,Tryz.results148,go_sem,dK.val,fN]) rfl ?_;have hx:Ext w _:=(((((Tz w).alloc (.cells #[.slice sa sn sc,.map (some bm),.slice fa fn fc] 183)).alloc (.cells #[.int .i64 3,.string name,.slice aw nw cw,.int .i64 lo,.int .i64 hi,.slice aa na ca] 45)).alloc (.cells #[.int .i64 xo,.string xn,.slice xaw xnw xcw,.int .i64 xlo,.int .i64 xhi,.slice xaa xna xca] 45)).alloc (.cells #[.int .i64 xo,.string xn,.slice xaw xnw xcw,.int .i64 xlo,.int .i64 xhi,.slice xaa xna xca] 45))
  exact⟨hx,aoX ⟨rfl,d,_,QM.o,rfl,HXV.o.ext hx⟩⟩
theorem JB {s:List Attr} {l:List cK} {e:Ex} (ht:gq e) (h:dr s l e=0) (h6:e.op≠6/\e.op≠7/\e.op≠8) (hd:e.op=3->dz l e.name=none):e.op=1\/e.op=2\/(e.op=3/\∃i,eO s e.name=some i)\/(e.op=4/\∃i,eO s e.name=some i/\(s.getD i rL).kind=1)\/(e.op=5/\∃i,eO s e.name=some i):=by
 rcases abv ht h with h1|h1|⟨h1,i,h2,-⟩|⟨h1,-,d,h2⟩|⟨h1,i,h2,h3⟩|⟨h1,i,h2,-⟩|⟨h1,-⟩|h1|h1
 ·exact aoX h1
 ·exact a4Z (aoX h1)
 ·exact a4Z (a4Z (aoX ⟨h1,i,h2⟩))
 ·rw[hd h1] at h2;cases h2
 ·exact a4Z (a4Z (a4Z (aoX ⟨h1,i,h2,h3⟩)))
 ·exact a4Z (a4Z (a4Z (a4Z ⟨h1,i,h2⟩)))
 ·exact a40 h1 h6.1
 ·exact a40 h1 h6.2.1
 exact a40 h1 h6.2.2
theorem IY {e:Ex} (h:gq e):e.words.length<=12/\e.name.size<=1000:=by
 rcases(iR h).1 with ⟨-,h1,h2,-⟩|⟨-,h1,h2,-⟩|⟨-,h1,h2,-⟩|⟨-,h1,h2,-⟩|⟨-,h1,h2,-⟩|⟨-,h1,h2,-⟩|⟨-,h1,h2,-⟩
 ·rw[h1,h2];exact⟨by simp,by decide⟩
 ·rw[h1,h2];exact⟨by simp,by decide⟩
 ·rw[h2];exact⟨by simp,by have:=ZE h1;omega⟩
 ·simp only[qg,aF] at h2;exact⟨of_decide_eq_true h2.1.1.2,by have:=ZE h1;omega⟩
 ·rw[h2];exact⟨by simp,by have:=ZE h1;omega⟩
 ·rw[h1,h2];exact⟨by simp,by decide⟩
 rw[h1,h2];exact⟨by simp,by decide⟩
theorem XP (s:List Attr) (l:List cK) (f:ZI) (lv:fT) (nm:Nat) (hsc:dy s=0) (qx:fW s f=true) (e:Ex) (ev:Value) (w:World) (hl:A3 w s l f lv nm) (he:dw w e ev) (hok:gq e)
  (p9:e.op=1\/e.op=2\/(e.op=3/\∃i,eO s e.name=some i)\/(e.op=4/\∃i,eO s e.name=some i/\(s.getD i rL).kind=1)\/(e.op=5/\∃i,eO s e.name=some i)) :
  Calls Tryz.prog 149 #[lv.val,ev] w (cz (.bool (um s f e.op e.name e.words e.lo e.hi)) w):=by
 have hwl:=IY hok;obtain⟨aw,nw,cw,aa,na,ca,rfl,hw,hna,hca,ha,hx⟩:=he.parts;obtain⟨sa,sn,sc,bm,fa,fn,fc⟩:=lv;have HS:=ai hl.x7;have HI:=ai hl.facts;have HW:=ai hw;have AD:=ai qx;have azc:=(iQ hsc).2.1;have tF:=ai (fun W (hW:Ext w W)=>IL s _ e.name W (hl.x7.ext hW) (by omega));have K8:=ai (show sn=s.length by obtain⟨a',n',c',e',h',-⟩:=hl.x7.parts;simp at e';omega);clear hw hna hca ha hx hl he hok qx azc hsc;unfold fN fT.val;obtain⟨op,name,words,lo,hi,args⟩:=e;simp only[Ex.op,Ex.name,Ex.words,Ex.lo,Ex.hi] at *;have hwn:=hwl.1;have AQ:=ai hwl.2;clear hwl;obtain⟨R,hR⟩:∃R,R=um s f op name words lo hi:=⟨_,rfl⟩
 rw[<-hR];have HR:=ai hR;clear hR;obtain⟨wa,cN⟩:∃wa,wa=(w.alloc (.cells #[.slice sa sn sc,.map (some bm),.slice fa fn fc] 183)).alloc (.cells #[.int .i64 op,.string name,.slice aw nw cw,.int .i64 lo,.int .i64 hi,.slice aa na ca] 45):=⟨_,rfl⟩
 have gB:Ext w wa:=by rw[cN];exact((Tz _).alloc _).alloc _
 have hb0:wa.heap[w.heap.size]?=some (.cells #[.slice sa sn sc,.map (some bm),.slice fa fn fc] 183 (0,0)):=by rw[cN];exact bU (bR w _)
 have hb1:wa.heap[w.heap.size+1]?=some (.cells #[.int .i64 op,.string name,.slice aw nw cw,.int .i64 lo,.int .i64 hi,.slice aa na ca] 45 (0,0)):=by rw[cN];exact cT (by simp)
 have dm:=ai gB;have iO:=ai hb0;have gG:=ai hb1;obtain⟨f0,f1,f2,f3,f4,f5,ff⟩:=cX hb1;obtain⟨e0,e1,e2,ef⟩:=dM hb0;have kL:=bS hb1;clear gB hb0 hb1;rcases p9 with rfl|rfl|⟨rfl,i,hat⟩|⟨rfl,i,hat,tC⟩|⟨rfl,i,hat⟩
 ·have HQ:=ai (show R=true by rw[HR.o];simp[um]);go_enter Tryz.func149,Tryz.ntmps149
  go_upto_region 1 with fail
  rw[<-cN];clear cN;go_wp2_with fail
  go_ret;exact bW (by rw[HQ.o]) dm.o
 ·have HQ:=ai (show R=false by rw[HR.o];simp[um]);go_enter Tryz.func149,Tryz.ntmps149
  go_upto_region 1 with fail
  rw[<-cN];clear cN;go_wp2_with fail
  go_ret;exact bW (by rw[HQ.o]) dm.o
 ·obtain⟨GI,-⟩:=JE hat;obtain⟨hif,-,-⟩:=U7 AD.o GI;obtain⟨fb,fo,rfl,hcell⟩:=HI.o.2 i hif;obtain⟨z,hz⟩:∃z,z=f[i]:=⟨_,rfl⟩
  rw[<-hz] at hcell;have HQ:=ai (show R=(z==1) by
   rw[HR.o];simp only[um,hat];rw[bL (by decide),bL (by decide),bL (by decide),bL (by decide),bH];simp[hif,<-hz])
  have hin:i<fn:=by rw[HI.o.1];exact hif
  have Vs:=ai hcell;rw[hat,nX] at tF;clear hat GI hif hcell hz;go_enter Tryz.func149,Tryz.ntmps149
  go_upto_region 1 with fail
  rw[<-cN];clear cN;go_wp2_with fail
  refine(tF.o wa dm.o).mono ?_;rintro r w1 ⟨rfl,hx1⟩;have dI:=ai (dm.o.trans hx1);clear f0 f1 f2 f3 f4 f5 ff e0 e1 e2 ef kL;obtain⟨f0,f1,f2,f3,f4,f5,ff⟩:=cX (hx1.blk gG.o);obtain⟨e0,e1,e2,ef⟩:=dM (hx1.blk iO.o);have XI:=dI.o.cell Vs.o;clear hx1;go_wp2_with fail
  go_ret;exact bW (by rw[HQ.o]) dI.o
 ·obtain⟨GI,-⟩:=JE hat;obtain⟨hif,agH,abH⟩:=U7 AD.o GI;have au5:s[i].kind=1:=by rw[<-tC];simp[GI]
  have hdm:yS s[i]=(0,(s[i].words.length:Int) - 1):=by unfold yS;rw[bM au5]
  rw[hdm] at agH abH;simp only at agH abH;obtain⟨ab,ao,rfl,hA⟩:∃ab ao,sa=some ⟨ab,ao,none⟩/\QT w s[i] ab (ao+i*5):=by
   obtain⟨xa,xn,xc,e',-,-,-,hq⟩:=HS.o.parts;simp only[a5b,a5d,a5c,a45,and_true] at e';obtain⟨rfl,rfl,rfl⟩:=e';exact hq i GI
  obtain⟨x1,hx1⟩:∃x1,x1=s[i]:=⟨_,rfl⟩
  rw[<-hx1] at hA au5 abH;obtain⟨bw,nwa,cwa,Hx,TF⟩:=hA.five;have H5:=ai TF;obtain⟨fb,fo,rfl,hcell⟩:=HI.o.2 i hif;obtain⟨z,hz⟩:∃z:Nat,f[i]=(z:Int):=⟨f[i].toNat,by omega⟩
  rw[hz] at hcell agH abH;have hzw:z<x1.words.length:=by omega
  obtain⟨wb,wo,rfl,hwc⟩:=Hx.2.2.2 z hzw;have HWC:=ai hwc;have hzn:z<nwa:=by rw[Hx.1];exact hzw
  have HQ:=ai (show R=decide (x1.words[z]∈words) by
   rw[HR.o];simp only[um,hat];rw[bL (by decide),bL (by decide),bM (by decide),bH];simp[GI,hif,hz,<-hx1,hzw])
  have hin:i<fn:=by rw[HI.o.1];exact hif
  have aWN:i<sn:=by rw[K8.o];exact GI
  have Vs:=ai hcell;have HWI:=ai (fun W (hW:Ext w W)=>pQ words x1.words[z] aw nw cw W (by rw[HW.o.1];omega) (HW.o.ext hW));rw[hat,nX] at tF;obtain⟨x,Sd⟩:∃x,x=x1.words[z]:=⟨_,rfl⟩
  rw[<-Sd] at HWC HQ HWI;clear hx1 hat tC GI hif agH abH hcell hz au5 hdm hA Hx TF hwc hzw Sd;go_enter Tryz.func149,Tryz.ntmps149
  go_upto_region 1 with fail
  rw[<-cN];clear cN;go_wp2_with fail
  refine(tF.o wa dm.o).mono ?_;rintro r w1 ⟨rfl,hx1⟩;have dI:=ai (dm.o.trans hx1);clear f0 f1 f2 f3 f4 f5 ff e0 e1 e2 ef kL;obtain⟨f0,f1,f2,f3,f4,f5,ff⟩:=cX (hx1.blk gG.o);obtain⟨e0,e1,e2,ef⟩:=dM (hx1.blk iO.o);have XI:=dI.o.cell Vs.o;have hwf:=dI.o.cell HWC.o;obtain⟨g0,g1,g2,g3,g4⟩:=H5.o w1 dI.o;clear hx1;go_wp2_with fail
  go_still_tail 12,(by kernel_rfl)
  change wpList _ _ _ _ _ w1.drew
  have hx2:Ext w1 w1.drew:=(Tz w1).drew;generalize w1.drew=w2 at hx2 ⊢;have dN:=ai (dI.o.trans hx2);clear hx2 f0 f1 f2 f3 f4 f5 ff e0 e1 e2 ef XI hwf g0 g1 g2 g3 g4;go_wp2_with fail
  refine(HWI.o w2 dN.o).mono ?_;rintro r w3 ⟨rfl,rfl⟩;go_wp2_with fail
  go_ret;exact bW (by rw[HQ.o]) dN.o
 obtain⟨GI,-⟩:=JE hat;obtain⟨hif,-,-⟩:=U7 AD.o GI;obtain⟨fb,fo,rfl,hcell⟩:=HI.o.2 i hif;obtain⟨z,hz⟩:∃z,z=f[i]:=⟨_,rfl⟩
 rw[<-hz] at hcell;have HQ:=ai (show R=(decide (lo<=z)&&decide (z<=hi)) by
  rw[HR.o];simp only[um,hat];rw[bL (by decide),bL (by decide),bL (by decide),bM (by decide)];simp[hif,<-hz])
 have hin:i<fn:=by rw[HI.o.1];exact hif
 have Vs:=ai hcell;rw[hat,nX] at tF;clear hat GI hif hcell hz;have hw4:(decide (lo<=z)=true/\decide (z<=hi)=true/\R=true)\/(decide (lo<=z)=true/\decide (z<=hi)=false/\R=false)\/(decide (lo<=z)=false/\R=false):=by
  rw[HQ.o];cases decide (lo<=z)<;>cases decide (z<=hi)<;>simp
 rcases hw4 with ⟨t1,t2,hf⟩|⟨t1,t2,hf⟩|⟨t1,hf⟩
 all_goals
  have HF:=ai hf;clear hf;go_enter Tryz.func149,Tryz.ntmps149
  go_upto_region 1 with fail
  rw[<-cN];clear cN;go_wp2_with fail
  refine(tF.o wa dm.o).mono ?_;rintro r w1 ⟨rfl,hx1⟩;have dI:=ai (dm.o.trans hx1);clear f0 f1 f2 f3 f4 f5 ff e0 e1 e2 ef kL;obtain⟨f0,f1,f2,f3,f4,f5,ff⟩:=cX (hx1.blk gG.o);obtain⟨e0,e1,e2,ef⟩:=dM (hx1.blk iO.o);have XI:=dI.o.cell Vs.o;clear hx1;go_wp2_with fail
  go_ret;exact bW (by rw[HF.o]) dI.o
open Go.RowKit
theorem FR:(l:List Wb)->(k:Nat)->(hk:k<l.length)->mH (l.take (k+1))=mH (l.take k)+1+mH l[k].gH
 | [],k,hk=>by simp at hk
 | .mk n c u::r,0,_=>by simp[mH,Wb.gH]
 | .mk n c u::r,k+1,hk=>by
  have:=FR r k (by simpa using hk);simp[mH] at this ⊢;omega
theorem Gn:(l:List Wb)->(k:Nat)->mH (l.take k)<=mH l
 | [],k=>by simp[mH]
 | .mk n c u::r,0=>by simp[mH]
 | .mk n c u::r,k+1=>by have:=Gn r k;simp[mH];omega
def WbQ (R:Bool) (T:Nat) (bc:Nat) (w:World) (e:Ending) (w':World):Prop:=∃m:Nat,e=.returned (.bool R)/\w'.heap[bc]?=some (.cells #[.int .i64 ((m:Nat):Int)] 3 (0,0))/\m<=41/\(R=true->m=T)/\ct [bc] w w'
def aSb (w:World) (bc d n:Nat) (l:List Wb) (nl:Nat) (t:Value) (wr:World):Prop:=∃k m:Nat,t=.int .i64 ((k:Nat):Int)/\k<=nl/\(∀j (h:j<l.length),j<k->Tu (17 - d) l[j]=true)/\m=n+mH (l.take k)/\m<=40/\(k=0\/d≠17) /\
 wr.heap[bc]?=some (.cells #[.int .i64 ((m:Nat):Int)] 3 (0,0))/\ct [bc] w wr
theorem Np {w0:World} (ho:dQ w0) (fm:Nat):∀(l:List Wb) (a:OA) (nl c d n bc:Nat) (w:World),mH l<fm->nl<=1000000000000000->nY l->1<=d->d<=17->n<=40->nl=l.length->gK (mask w [bc]) l a->Ext w0 w->w0.heap.size<=bc ->
  w.heap[bc]?=some (.cells #[.int .i64 ((n:Nat):Int)] 3 (0,0)) ->
  Calls Tryz.prog 183 #[.slice a nl c,.int .i64 ((d:Nat):Int),.pointer (some ⟨bc,0,none⟩)] w (WbQ (mh (17 - d) l&&decide (n+mH l<=40)) (n+mH l) bc w):=by
 induction fm with
 | zero=>intro l a nl c d n bc w h;omega
 | succ fm ih =>
  intro l a nl c d n bc w hfm hnl hfit hd1 qd hn vC aDt hx0 hbc hcell;have HD:=ai aDt;have HN:=ai vC;have HFT:=ai hfit;have BO:=ai hx0;have HO:=ai ho;have IH:=ai ih;have Af:=ai hbc;have axC:=ai hcell;have HQ:=ai (ab7 (17 - d) l);obtain⟨R,hR⟩:∃R,R=(mh (17 - d) l&&decide (n+mH l<=40)):=⟨_,rfl⟩
  rw[<-hR];have HR:=ai hR;obtain⟨T,hT⟩:∃T,T=n+mH l:=⟨_,rfl⟩
  rw[<-hT];have HT:=ai hT;clear aDt vC hfit hx0 ih hcell hR hT ho;go_enter Tryz.func183,Tryz.ntmps183
  go_wp2_with fail
  go_loopw [11] (aSb w bc d n l nl) (fun t _=>nl - (intOf t).toNat)
  case atStart=>exact⟨0,n,rfl,by omega,fun j _ h=>by omega,by simp[mH],hn,aoX rfl,axC.o,ct.refl _ _⟩
  case round =>
   obtain⟨k,m,rfl,hk,hall,hm,a3o,aQI,hcb,hch⟩:=hrel;have aZp:=ai aQI;have mK:=ai hall;have HM:=ai hm;have si:=ai hcb;have HCH:=ai hch;obtain⟨cc0,ccf⟩:=dO hcb;have aW7:=bS hcb;clear hall hm hcb hch aQI;by_cases hkn:k<nl
   case neg =>
    have t1:=ah ((k:Int)<(nl:Int));have HE:=ai (show m=T/\R=true by
     have h1:=HM.o;have h2:=HN.o;rw[aS (by omega)] at h1;refine⟨by rw[HT.o,h1],?_⟩;rw[HR.o,aF];refine⟨?_,by simp;omega⟩;rw[HQ.o,aF];refine⟨?_,?_⟩
     ·by_cases h0:l.length=0
      ·simp[h0]
      have aWU:17 - d≠0:=by
       have:=aZp.o;omega
      simp[aWU]
     rw[aP];intro x hx;obtain⟨j,hj,rfl⟩:=aW.1 hx;exact mK.o j hj (by omega))
    go_wp2_with fail
    go_ret;exact⟨m,by rw[HE.o.2];rfl,si.o,by omega,fun _=>HE.o.1,HCH.o⟩
   have fq:k<l.length:=by have:=HN.o;omega
   have t1:=ag ((k:Int)<(nl:Int));obtain⟨b,off,rfl,v,hv0,hrow,hv2,hv3,hv4,hv5,hv6⟩:=gK.at l _ (gK.mono HCH.o.sub _ _ HD.o) k fq;obtain⟨c0,c1,c2,c3,c4,c5,c6,c7⟩:=(hrow.mono (cC _ _)).eight;obtain⟨ho1,ho2,ho3,ho4,hou,ho5⟩:=Uu l HFT.o k fq;have Co:v.nu<=1000000000000000:=by rw[hv3];exact hou
   have hwn:=zw l k fq;have HU:=ai hv6;have Nh:=ai hv3;have zq:=ai hv2;have tX:=ai ho2;have Da:=ai ho5;have Vq:=ai (show Tu (17 - d) l[k]=(gJ l[k].name&&eW l[k].cond&&mh (17 - d - 1) l[k].gH) from rfl);have uF:=ai (FR l k fq);have htl:=Gn l (k+1);have HTL:=ai htl;have DK:=eB c0;rw[hv0] at c0;simp only at DK;clear hrow hv0 hv2 hv3 hv4 hv5 hv6 ho2 ho3 ho4 hou ho5 htl;obtain⟨wx,hwx⟩:∃wx,wx=(wr.setCell ⟨bc,0,none⟩ (.int .i64 ((m:Int)+1))).alloc (.cells #[.string l[k].name,.int .i64 v.x.op,.string v.x.name,.slice v.x.aw v.x.nw v.x.cw,.int .i64 v.x.lo,.int .i64 v.x.hi,.slice v.x.aa v.x.na v.x.ca,.slice v.au v.nu v.cu] 53):=⟨_,rfl⟩
   have jm:=ai (show wx.heap[wr.heap.size]?=some (.cells #[.string l[k].name,.int .i64 v.x.op,.string v.x.name,.slice v.x.aw v.x.nw v.x.cw,.int .i64 v.x.lo,.int .i64 v.x.hi,.slice v.x.aa v.x.na v.x.ca,.slice v.au v.nu v.cu] 53 (0,0)) by
    rw[hwx];exact cT (by simp))
   have Lb:=ai (show wx.heap[bc]?=some (.cells #[.int .i64 (((m+1:Nat)):Int)] 3 (0,0)) by
    rw[hwx];have:=aI wr bc 0 _ _ (.int .i64 ((m:Int)+1)) si.o;exact bU this)
   have HHX:=ai (show ct [bc] wr wx by rw[hwx];exact((ct.refl [bc] wr).setCell (aoX (by simp)) _).alloc _);go_upto_region 5 with fail
   rw[<-hwx];have yx:=ai ((HCH.o.then HHX.o).ext BO.o (by simpa using Af.o));clear hwx cc0 ccf c0 c1 c2 c3 c4 c5 c6 c7;obtain⟨cc0,ccf⟩:=dO Lb.o;have aOu:=ai (fun (h:Tu (17 - d) l[k]=false)=>show R=false by
    rw[HR.o,HQ.o];have:l.all (Tu (17 - d))=false:=by
     rw[List.all_eq_false];exact⟨l[k],aD fq,by rw[h];simp⟩
    rw[this];simp)
   have aUq:=ai (fun (h:40<n+mH l)=>show R=false by
    rw[HR.o];have:decide (n+mH l<=40)=false:=bP (by omega);rw[this];simp)
   by_cases RD:d=17
   ·have t2:=ag ((16:Int)<(d:Int));have HF:=ai (show R=false by
     rw[HR.o,HQ.o,RD];have:¬l.length=0:=by omega
     simp[this])
    go_wp2_with fail
    go_ret;exact⟨m+1,by rw[HF.o];rfl,Lb.o,by omega,fun h=>(by rw[HF.o] at h;cases h),HCH.o.then HHX.o⟩
   have t2:=ah ((16:Int)<(d:Int));by_cases h40:40<m+1
   ·have t3:=ag ((40:Int)<((m+1:Nat):Int));have HF:=ai (aUq.o (by have h1:=HM.o;have h2:=uF.o;have h3:=HTL.o;omega));go_wp2_with fail
    go_ret;exact⟨m+1,by rw[HF.o];rfl,Lb.o,by omega,fun h=>(by rw[HF.o] at h;cases h),HCH.o.then HHX.o⟩
   have t3:=ah ((40:Int)<((m+1:Nat):Int));obtain⟨c0,c1,c2,c3,c4,c5,c6,c7,cf⟩:=oO jm.o;have aL3:=bS jm.o;cases hnb:gJ l[k].name
   ·have pX:=ai hnb;have HF:=ai (aOu.o (by rw[Vq.o,hnb];rfl));clear hnb;go_wp2_with fail
    refine(rN _ _ ho1).mono ?_;rintro r w1 ⟨rfl,rfl⟩;rw[pX.o];go_wp2_with fail
    go_ret;exact⟨m+1,by rw[HF.o];rfl,Lb.o,by omega,fun h=>(by rw[HF.o] at h;cases h),HCH.o.then HHX.o⟩
   have pX:=ai hnb;rw[hnb,Bool.true_and] at Vq;clear hnb;go_wp2_with fail
   refine(rN _ _ ho1).mono ?_;rintro r w1 ⟨rfl,rfl⟩;rw[pX.o];go_wp2_with fail
   refine(rC l[k].cond _ wx (zq.o.mono (HHX.o.sub.trans (cC _ _))) (HO.o.ext yx.o) tX.o).mono ?_;rintro r w2 ⟨rfl,hx2⟩;rw[zx];have dN:=ai (yx.o.trans hx2);have iP:=ai (hx2.blk Lb.o);have fY:=ai (hx2.blk jm.o);have aGa:=ai ((HCH.o.then HHX.o).then (hx2.cR [bc]));have HU2:=ai (gK.mono ((HHX.o.then (hx2.cR [bc])).sub) _ _ HU.o);clear hx2 c0 c1 c2 c3 c4 c5 c6 c7 cf cc0 ccf aL3;obtain⟨c0,c1,c2,c3,c4,c5,c6,c7,cf⟩:=oO fY.o;have aL3:=bS fY.o;cases hxb:eW l[k].cond
   ·have HF:=ai (aOu.o (by rw[Vq.o,hxb];rfl));go_wp2_with fail
    go_ret;exact⟨m+1,by rw[HF.o];rfl,iP.o,by omega,fun h=>(by rw[HF.o] at h;cases h),aGa.o⟩
   rw[hxb,Bool.true_and] at Vq;clear hxb;have Q1:=ai (show (d:Int)+1=((d+1:Nat):Int) by omega);have HWF:=ai (IH.o l[k].gH v.au v.nu v.cu (d+1) (m+1) bc w2 (by omega) Co Da.o (by omega) (by omega) (by omega) Nh.o HU2.o dN.o Af.o iP.o);have e1:17 - (d+1)=17 - d - 1:=by omega
   rw[e1,<-Vq.o] at HWF;clear e1;go_wp2_with fail
   rw[Q1.o];refine HWF.o.mono ?_;rintro r w3 ⟨m3,rfl,hc3,hm3,hT3,aQ6⟩;have oD:=ai hc3;have HT3:=ai hT3;have aOM:=ai (aGa.o.then aQ6);clear hc3 hT3 aQ6 c0 c1 c2 c3 c4 c5 c6 c7 cf aL3;cases hib:Tu (17 - d) l[k]
   ·have HF:=ai (aOu.o hib);simp only[Bool.false_and];clear hib;go_wp2_with fail
    go_ret;exact⟨m3,by rw[HF.o];rfl,oD.o,hm3,fun h=>(by rw[HF.o] at h;cases h),aOM.o⟩
   have EO:=ai hib;rw[hib] at HT3;clear hib;simp only[Bool.true_and];by_cases aLL:m+1+mH l[k].gH<=40
   case neg =>
    have t4:=ah (m+1+mH l[k].gH<=40) aLL;rw[t4];have HF:=ai (aUq.o (by have h1:=HM.o;have h2:=uF.o;have h3:=HTL.o;omega));clear t4;go_wp2_with fail
    go_ret;exact⟨m3,by rw[HF.o];rfl,oD.o,hm3,fun h=>(by rw[HF.o] at h;cases h),aOM.o⟩
   have t4:=ag (m+1+mH l[k].gH<=40) aLL;rw[t4];have II:=ai (HT3.o (by rw[t4];rfl));clear t4;go_wp2_with fail
   go_roundw
   case rel =>
    refine⟨k+1,m3,by go_num,by omega,fun j hj hjk=>?_,?_,?_,?_,oD.o,aOM.o⟩
    ·by_cases e:j=k
     ·subst e;exact EO.o
     exact mK.o j hj (by omega)
    ·rw[uF.o,II.o,HM.o];omega
    ·rw[II.o];exact aLL
    exact a4Z RD
   case measure=>simp[intOf];omega
end Go.Proofs.YtefjomofjejklaaGreatDoor
