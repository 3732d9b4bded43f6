/- Joined. -/
import Derived.Test.YtefjomofjejklaaGreatDoorDs05
import Derived.StillTailTactics
namespace Go.Proofs.YtefjomofjejklaaGreatDoor
set_option maxRecDepth 100000
set_option maxHeartbeats 32000000
open Go.RowKit
def oX (attrs:List Attr) (names:ZB):Nat->Ex->Prop
 | 0,_=>False
 | d+1,e=>acp attrs names e\/((e.op=6/\e.args.length=1\/(e.op=7\/e.op=8)/\2<=e.args.length/\e.args.length<=3)/\e.name=⟨#[]⟩/\e.words=[]/\e.lo=0/\e.hi=0/\∀x∈e.args,oX attrs names d x)
theorem oX.atom {attrs:List Attr} {names:ZB} {d:Nat} {e:Ex} (h:acp attrs names e) (hd:0<d):oX attrs names d e:=by
 obtain⟨d,rfl⟩:∃k,d=k+1:=⟨d - 1,by omega⟩
 exact aoX h
theorem Mv.mono {P P':Ex->Prop} {w0:World} {bd:Nat} {M:ZN} {w:World} {e:Ending} {w':World} (h:Mv P w0 bd M w e w') (hp:∀x,P x->P' x):Mv P' w0 bd M w e w':=by
 obtain⟨x,v,h1,h2,h3⟩:=h;exact⟨x,v,h1,hp x h2,h3⟩
def aVs (attrs:List Attr) (names:ZB) (d:Nat) (op k0:Int) (be bd:Nat) (K0:ZN) (w0 wa:World) (k:Value) (wr:World):Prop:=∃(l:List Ex) (xs:List dK) (v:Value),(l.length:Int)<=k0/\k=.int .i64 (k0 - l.length)/\(∀e∈l,oX attrs names d e) /\
 wr.heap[be]?=some (.cells #[.int .i64 op,.string ⟨#[]⟩,.slice none 0 0,.int .i64 0,.int .i64 0,v] 45 (0,0))/\wr.ownsRow (be+1) 45 6 v l.length (xs.flatMap dK.cells)/\ug (mask wr (K0++rowOf v)) l xs/\ct [bd] wa wr/\cg w0 wr bd
def Hu (g:Nat):dK:=⟨6,⟨#[]⟩,none,0,0,0,0,some ⟨g,0,none⟩,1,1⟩
theorem aHt {attrs:List Attr} {names:ZB} {d:Nat} {w0 w W:World} {bd B:Nat} {M:ZN} {v:dK} {x:Ex} (hc:ct [bd] w W) (hd:cg w0 W bd) (hB:w.heap.size<=B) (hBW:B<W.heap.size) (hbd:bd<w.heap.size) (hm:oX attrs names d x) (hx:dw (mask W (B::M)) x v.val) (hM:∀y∈M,y<W.heap.size) :
  Mv (oX attrs names (d+1)) w0 bd M w (.returned (Hu W.heap.size).val) ((Aj W B (Hu W.heap.size)).alloc (.cells v.cells.toArray 45)):=by
 have h0:w0.heap.size<=bd:=by obtain⟨_,_,_,_,_,_,_,_,_,h⟩:=hd;exact h
 have hp:=nC W B (Hu W.heap.size) (N:=B::M) (by simp);have hp1:=nC W B (Hu W.heap.size) (N:=[B]) (by simp);have hs:=abn W B (Hu W.heap.size);generalize Aj W B (Hu W.heap.size)=W6 at *;refine⟨.mk 6 ⟨#[]⟩ [] 0 0 [x],Hu W.heap.size,rfl,?_,?_,?_,?_⟩
 ·exact a4Z ⟨aoX ⟨rfl,rfl⟩,rfl,rfl,rfl,rfl,fun y hy=>by simp only[Ex.args,aG] at hy;subst hy;exact hm⟩
 ·refine ZQ (t:=45) (x:=v) (alloc_at hs.symm) (fun h=>by have:=hM _ h;omega) ?_;exact hx.mono ((hp.alloc _).sub.trans (cM _ (fun y hy=>aZ _ hy)))
 ·exact hd.cR (hp1.alloc _) (by simp;omega) (by simp;omega)
 exact hc.trans (hp1.alloc _) (by intro y hy;simp at hy;subst hy;exact a4Z hB)
theorem wW (attrs:List Attr) (names:ZB) (hok:∀a∈attrs,QG a) (hne:attrs≠[]) (hl:attrs.length<=1000) (hnl:names.length<=1000):∀(d:Nat),d<=100->∀{w0 w:World} {bd:Nat} (_:cg w0 w bd) (a:OA) (n c:Nat) (an:OA) (nn cn:Nat) (M:ZN) (_:dB (mask w [bd]) attrs (.agg #[.slice a n c])) (_:fS (mask w [bd]) names an nn cn) (_:∀y∈M,y<w.heap.size),
  Calls Tryz.prog 40 #[.pointer (some ⟨bd,0,none⟩),.agg #[.slice a n c],.slice an nn cn,.int .i64 ((d:Int)+1)] w (Mv (oX attrs names (d+1)) w0 bd M w):=by
 intro d;induction d using Nat.strongRecOn with
 | _ d ih =>
  intro a1q w0 w bd hd a n c an nn cn M hs hn hM;have IH:=ai ih;have HS:=ai hs;have HN:=ai hn;have HM:=ai hM;have zm:=ai hok;have hbd:bd<w.heap.size:=by obtain⟨_,_,_,_,hb,_⟩:=hd;exact bS hb
  have a4l:w0.heap.size<=bd:=by obtain⟨_,_,_,_,_,_,_,_,_,h⟩:=hd;exact h
  have HDW:=ai (hd.ext (((Tz w).alloc (.cells #[.slice a n c] 24)).alloc (.cells jD.cells.toArray 45)));have gG:=ai (bU (o':=.cells jD.cells.toArray 45) (bR w (.cells #[.slice a n c] 24)));have fY:=ai (alloc_at (w:=w.alloc (.cells #[.slice a n c] 24)) (o:=.cells jD.cells.toArray 45) (n:=w.heap.size+1) (by simp));have kH:=ai (fun (W:World) (h:ct [bd] ((w.alloc (.cells #[.slice a n c] 24)).alloc (.cells jD.cells.toArray 45)) W)=>(((ct.refl [bd] w).alloc (.cells #[.slice a n c] 24)).alloc (.cells jD.cells.toArray 45)).then h);clear ih hs hn hM hd hok;go_enter Tryz.func40,Tryz.ntmps40
  go_wp2_with fail;refine(dx HDW.o _ (by omega) (by omega)).mono ?_;rintro r w1 ⟨r1,rfl,hr0,hr1,hd1,hc1⟩;have tU:=ai hd1;have mE:=ai (kH.o _ hc1);have pG:=ai (hc1.blk gG.o (by simp;omega));have Lt:=ai (hc1.blk fY.o (by simp;omega));clear hd1 hc1 HDW gG fY kH;have hz1:=mE.o.size;have hzb:=bS Lt.o;have cs0:=bX pG.o 0;simp at cs0;by_cases aJ9:d=0\/r1<4
  ·rcases aJ9 with hd0|hr4
   case' inl =>
    have t1:decide ((d:Int)+1<2)=true:=by simp;omega
    go_wp2_with fail
   case' inr =>
    cases t1:decide ((d:Int)+1<2)
    all_goals
     have t2:decide (r1<4)=true:=by simpa using hr4
     go_wp2_with fail
   all_goals
    refine(dx tU.o _ (by omega) (by omega)).mono ?_;rintro r w2 ⟨r2,rfl,hs0,hs1,qd,hc2⟩;have pY:=ai qd;have iP:=ai (mE.o.then hc2);have HB12:=ai (hc2.blk pG.o (by simp;omega));have Uo:=ai (hc2.blk Lt.o (by simp;omega));clear qd hc2 cs0;have cs0:=bX HB12.o 0;simp at cs0;have hz2:=bS Uo.o;have hb2:=Uo.o;unfold jD dK.cells at hb2;obtain⟨b0,b1,b2,b3,b4,b5,bf⟩:=cX hb2;clear hb2;by_cases h10:r2=10
    ·subst h10;go_wp2_with fail;refine a5a (v:=(dK.mk 1 ⟨#[]⟩ none 0 0 0 0 none 0 0).val) (by simp[results,Tryz.results40,go_sem,dK.val,fN,b0,b1,b2,b3,b4,b5]) rfl ?_;exact yl (e:=.mk 1 ⟨#[]⟩ [] 0 0 []) (x:=⟨1,⟨#[]⟩,none,0,0,0,0,none,0,0⟩) iP.o pY.o (by omega) hbd (oX.atom ⟨rfl,aoX ⟨rfl,rfl,rfl,rfl,rfl⟩⟩ (by omega)) (eT _ 1 0 0 ⟨#[]⟩)
    have e10:(r2==10)=false:=by simpa using h10
    by_cases h11:r2=11
    ·subst h11;go_wp2_with fail;refine a5a (v:=(dK.mk 2 ⟨#[]⟩ none 0 0 0 0 none 0 0).val) (by simp[results,Tryz.results40,go_sem,dK.val,fN,b0,b1,b2,b3,b4,b5]) rfl ?_;exact yl (e:=.mk 2 ⟨#[]⟩ [] 0 0 []) (x:=⟨2,⟨#[]⟩,none,0,0,0,0,none,0,0⟩) iP.o pY.o (by omega) hbd (oX.atom ⟨rfl,a4Z (aoX ⟨rfl,rfl,rfl,rfl,rfl⟩)⟩ (by omega)) (eT _ 2 0 0 ⟨#[]⟩)
    have e11:(r2==11)=false:=by simpa using h11
    go_wp2_with fail;refine(avN pY.o attrs names a n c an nn cn ((w.heap.size+1)::M) (HS.o.mono iP.o.sub) (HN.o.mono iP.o.sub) zm.o hne hl hnl (fun q hq=>by
     rcases bz.1 hq with rfl|hq
     ·exact hz2
     have:=HM.o q hq;have:=iP.o.size;omega)).mono ?_
    rintro r w3 ⟨x,v,rfl,hat,hix,CZ,hc3⟩;have qE:=ai hat;have tF:=ai hix;have wG:=ai CZ;have oD:=ai (iP.o.then hc3);have hb3:=hc3.blk Uo.o (by simp;omega);clear hat hix CZ hc3 b0 b1 b2 b3 b4 b5 bf cs0;have hz3:=bS hb3;unfold jD dK.cells at hb3;obtain⟨b0,b1,b2,b3,b4,b5,bf⟩:=cX hb3;clear hb3;unfold dK.val fN;go_wp2_with fail;refine a5a (v:=v.val) (by simp[results,Tryz.results40,go_sem,dK.val,fN,b0,b1,b2,b3,b4,b5]) rfl ?_;exact yl (e:=x) (x:=v) oD.o wG.o (by omega) hbd (oX.atom qE.o (by omega)) tF.o
  obtain⟨d',rfl⟩:∃d',d=d'+1:=⟨d - 1,by omega⟩
  have t1:decide (((d'+1:Nat):Int)+1<2)=false:=by simp;omega
  have t2:decide (r1<4)=false:=by simp;omega
  have hr4:4<=r1:=by omega
  clear aJ9;by_cases h6:r1<6
  ·have t3:decide (r1<6)=true:=by simpa using h6
   go_wp2_with fail;refine(IH.o d' (by omega) (by omega) tU.o a n c an nn cn ((w.heap.size+1)::M) (HS.o.mono mE.o.sub) (HN.o.mono mE.o.sub) (fun q hq=>by
    rcases bz.1 hq with rfl|hq
    ·exact hzb
    have:=HM.o q hq;omega)).mono ?_
   rintro r w2 ⟨x,v,rfl,hmx,hix,qd,hc2⟩;have HMX:=ai hmx;have tF:=ai hix;have pY:=ai qd;have iP:=ai (mE.o.then hc2);have Uo:=ai (hc2.blk Lt.o (by simp;omega));have hz2:=bS Uo.o;have hb2:=Uo.o;unfold jD dK.cells at hb2;clear hmx hix qd hc2 cs0;obtain⟨b0,b1,b2,b3,b4,b5,bf⟩:=cX hb2;clear hb2;have VM:=ai (aHt iP.o pY.o (show w.heap.size<=w.heap.size+1 by omega) hz2 hbd HMX.o tF.o (fun q hq=>by have:=HM.o q hq;have:=iP.o.size;omega));unfold dK.val fN;go_wp2_with fail;refine a5a (v:=(Hu w2.heap.size).val) (by simp[results,Tryz.results40,go_sem,Hu,dK.val,fN,b0,b1,b2,b3,b4,b5,hz2]) rfl ?_;exact VM.o
  have t3:decide (r1<6)=false:=by simpa using h6
  have pX:=ai (bR w1 (.cells #[.int .i64 (r1+1),.string ⟨#[]⟩,.slice none 0 0,.int .i64 0,.int .i64 0,.slice none 0 0] 45));have HEB:=ai (fun (W:World) (h:ct [bd] (w1.alloc (.cells #[.int .i64 (r1+1),.string ⟨#[]⟩,.slice none 0 0,.int .i64 0,.int .i64 0,.slice none 0 0] 45)) W)=>((ct.refl [bd] w1).alloc (.cells #[.int .i64 (r1+1),.string ⟨#[]⟩,.slice none 0 0,.int .i64 0,.int .i64 0,.slice none 0 0] 45)).then h);go_wp2_with fail;refine(jG (tU.o.ext ((Tz w1).alloc _)) _ _ (by omega) (by omega) (by omega)).mono ?_;rintro r w2 ⟨k0,rfl,hk0,uk,qd,hc2⟩;have pY:=ai qd;have iP:=ai (HEB.o _ hc2);have dN:=ai (hc2.blk pX.o (by simp;omega));clear qd hc2 pX HEB cs0;go_wp2_with fail;go_loopw [11] (aVs attrs names (d'+1) (r1+1) k0 w1.heap.size bd ((w.heap.size+1)::w1.heap.size::bd::M) w0 w1) (fun k _=>(intOf k).toNat)
  case atStart=>exact⟨[],[],.slice none 0 0,by simp;omega,by simp,by simp,dN.o,a4' _ _ _ _,ug.nil _,iP.o,pY.o⟩
  case round =>
   obtain⟨l,xs,v,hlk,rfl,hml,Jz,hown,hex,hcr,hdr⟩:=hrel;clear pY iP dN;have HML:=ai hml;have jm:=ai Jz;have HOW:=ai hown;have zq:=ai hex;have xW:=ai hcr;have YJ:=ai hdr;have hrow:∀q∈rowOf v,w1.heap.size+1<=q:=fun q hq=>(hown.lt q (bV.1 hq)).1
   have aDd:∀q∈rowOf v,q<wr.heap.size:=fun q hq=>(hown.lt q (bV.1 hq)).2
   have yy:=ai hrow;have aS3:=ai aDd;have aW3:=bS Jz;have hzr:=hcr.size;obtain⟨e0,e1,e2,e3,e4,e5,ef⟩:=cX Jz;have cs0:=bX (hcr.blk pG.o (by simp;omega)) 0;simp at cs0;clear hml Jz hown hex hcr hdr hrow aDd;by_cases hlt:(l.length:Int)<k0
   ·have t4:decide (0<k0 - (l.length:Int))=true:=by simp;omega
    have hl3:l.length<=3:=by omega
    go_wp2_with fail;have hnm:∀y,y<=w1.heap.size->y≠bd->y∉bd::rowOf v:=fun y h1 h2 h=>by
     rcases bz.1 h with h|h
     ·exact h2 h
     have:=yy.o _ h;omega
    have C5:=cU e5 (show w1.heap.size∉bd::rowOf v from hnm _ (aU _) (by omega));have CS:=cU cs0 (show w.heap.size∉bd::rowOf v from hnm _ (by omega) (by omega));have ew:IntKind.i64.wrap ((d':Int)+1)=(d':Int)+1:=IntWalk.i64_in _ (by omega);refine pT 11 (bd::rowOf v) (fun W=>ct [bd] wr W/\cg w0 W bd) ⟨(ct.refl _ _).drew,YJ.o.ext ((Tz wr).drew)⟩ (fun _ _ hx h=>⟨h.1.then (hx.cR _),h.2.ext hx⟩) ?_
    repeat (refine bZ ?_;intro K hK;go_big_quiet_op;go_big_quiet_on)
    refine dP (γ:=Ex×dK) (fun x=>.agg #[.int .i64 x.2.op,.string x.2.name,.slice x.2.aw x.2.nw x.2.cw,.int .i64 x.2.lo,.int .i64 x.2.hi,.slice x.2.aa x.2.na x.2.ca]) (fun x W=>(ct [bd] wr W/\cg w0 W bd)/\oX attrs names (d'+1) x.1/\dw (mask W (((w.heap.size+1)::w1.heap.size::bd::M)++rowOf v)) x.1 x.2.val) (fun W hW h _=>?_) (fun x W W' hx h=>⟨⟨h.1.1.then (hx.cR _),h.1.2.ext hx⟩,h.2.1,h.2.2.mono (eG _ hx)⟩) ?_ ⟨(.mk 0 ⟨#[]⟩ [] 0 0 [],⟨0,⟨#[]⟩,none,0,0,0,0,none,0,0⟩)⟩
    ·unfold bQ;go_simp;have hCw:=mE.o.then (xW.o.then h.1)
     have hws:=hW.size;refine(IH.o d' (by omega) (by omega) h.2 a n c an nn cn (((w.heap.size+1)::w1.heap.size::bd::M)++rowOf v) (HS.o.mono hCw.sub) (HN.o.mono hCw.sub) (fun q hq=>by
      have hz:=hCw.size;rcases aN.1 hq with hq|hq
      ·simp only[bz] at hq;rcases hq with rfl|rfl|rfl|hq
       ·omega
       ·omega
       ·omega
       have:=HM.o q hq;omega
      have:=aS3.o q hq;omega)).mono ?_
     rintro e W' ⟨x,xv,rfl,hmx,hix,hd',hc'⟩;exact⟨_,rfl,(ct.refl _ W).trans hc' (fun y hy=>aoX (by rw[aG.1 hy];simp)),(x,xv),rfl,⟨h.1.then hc',hd'⟩,hmx,by simpa using hix⟩
    rintro⟨x,xv⟩ K hK;go_simp;go_big_quiet_on;refine Az (fun g=>.slice (some ⟨g,0,none⟩) 1 1) (fun g W=>g∉bd::rowOf v/\W.heap[g]?=some (.cells xv.cells.toArray 45 (0,0))) (fun W hW=>?_) (fun g W W' h q=>⟨q.1,h.blk q.2 q.1⟩) ?_
    ·unfold bQ;go_simp;exact⟨(Tz W).alloc _,W.heap.size,rfl,⟨fun h=>by have:=hW.size;omega,fun h=>by have:=hW.size;have:=aS3.o _ h;omega⟩,bR W _⟩
    intro x0 K hK;go_simp;go_big_quiet_on;refine dP (γ:=Nat×Nat) (fun q=>.slice (some ⟨q.1,0,none⟩) (l.length+1) q.2) (fun q W=>cg w0 W bd/\W.ownsRow (w1.heap.size+1) 45 6 (.slice (some ⟨q.1,0,none⟩) (l.length+1) q.2) (l.length+1) ((xs++[xv]).flatMap dK.cells)/\oX attrs names (d'+1) x/\dw (mask W ((((w.heap.size+1)::w1.heap.size::bd::M)++rowOf v)++[q.1])) x xv.val/\(v.ownBlock=some q.1\/wr.heap.size<=q.1)) (fun W hW h hF=>?_) (fun q W W' hx h=>⟨h.1.ext hx,cO h.2.1 (hx.cR []) (by simp),h.2.2.1,h.2.2.2.1.mono (eG _ hx),h.2.2.2.2⟩) ?_ ⟨(0,0)⟩
    ·have hws:=hW.size;refine jS DM _ _ (w1.heap.size+1) v l.length _ rfl x0 1 1 xv.cells rfl rfl (by simp[dK.cells,Value.oneCell']) (by omega) (by omega) (by omega) (cO HOW.o h.1.1 (fun q hq hm=>by have h2:q=bd:=aG.1 hm;have:=(HOW.o.lt q hq).1;omega)) (fun j hj=>by rw[bX hF.2.2];simp) (by omega) ?_;intro g cap w' ho' hg' hl' _;have hgc:ct (rowOf v) W w':=eX hg';refine⟨(ct.refl _ W).trans hgc (fun y hy=>aoX (aZ _ hy)),(g,cap),rfl,h.1.2.cR hgc (fun h=>by have:=yy.o _ h;omega) (fun q hq=>by have:=yy.o q hq;omega),by rw[List.flatMap_append];simpa using ho',h.2.1,h.2.2.mono (cQ fun q hq hn=>⟨fun h=>?_,hgc.block q hq (fun h=>hn (aL _ h))⟩),?_⟩
     ·rcases aN.1 h with h|h
      ·exact hn h
      have h2:q=g:=aG.1 h;rcases hl' with h3|h3
      ·exact hn (aL _ (bV.2 (h2 ▸ h3)))
      omega
     rcases hl' with h|h
     ·exact aoX h
     exact a4Z (by omega)
    rintro⟨g,cap⟩ K hK;go_simp;go_big_quiet_on
    repeat (refine bZ ?_;intro K hK;go_big_quiet_op;go_big_quiet_on)
    refine nH fun W hC hq _=>?_
    obtain⟨hdk,jt,hmx,hix,Qb⟩:=hq;dsimp only at jt hmx hix Qb;have ane:=hC.blk jm.o (hnm _ (aU _) (by omega));have aMt:=bS ane;have GX:=ai ane;have ajw:=ai jt;have HC:=ai hC;have yz:=ai hdk;have HMX:=ai hmx;have tF:=ai hix;have Yq:=ai Qb;clear e0 e1 e2 e3 e4 e5 ef cs0;obtain⟨e0,e1,e2,e3,e4,e5,ef⟩:=cX ane;clear hC ane jt hmx hix Qb hdk C5 CS ew hnm;go_wp2_with fail;go_roundw
    case rel =>
     have abG:=(ct.refl [w1.heap.size] W).setCell (p:=⟨w1.heap.size,5,none⟩) (aoX (by simp)) (.slice (some ⟨g,0,none⟩) (l.length+1) cap);have zR:=(ajw.o.lt g rfl).1;have hg2:=(ajw.o.lt g rfl).2;refine⟨l++[x],xs++[xv],.slice (some ⟨g,0,none⟩) (l.length+1) cap,by simp;omega,(by simp;omega),?_,?_,?_,?_,?_,?_⟩
     ·intro e he;rcases aN.1 he with he|he
      ·exact HML.o e he
      simp at he;subst he;exact HMX.o
     ·rw[aI _ _ _ _ _ _ GX.o];rfl
     ·rw[bg,List.length_singleton];exact cO ajw.o abG (fun q hq h=>by cases hq;have h2:g=w1.heap.size:=aG.1 h;omega)
     ·have hrg:rowOf (.slice (some ⟨g,0,none⟩) (l.length+1) cap)=[g]:=rfl;rw[hrg];refine ug.snoc (zq.o.mono (cQ fun q hq hn=>⟨fun h=>?_,?_⟩)) (tF.o.mono (cQ fun q hq hn=>⟨fun h=>?_,?_⟩))
      ·rcases aN.1 h with h|h
       ·exact hn (aK _ h)
       have h2:q=g:=aG.1 h;rcases Yq.o with h3|h3
       ·exact hn (aL _ (bV.2 (h2 ▸ h3)))
       omega
      ·rw[abG.block q (by have:=HC.o.size;omega) (fun h=>hn (by have h2:q=w1.heap.size:=aG.1 h;simp[h2]))];exact HC.o.block q hq (fun h=>hn (by
        rcases bz.1 h with h|h
        ·simp[h]
        exact aL _ h))
      ·rcases aN.1 h with h|h
       ·exact hn (aK _ (aK _ h))
       exact hn (aL _ h)
      exact abG.block q hq (fun h=>hn (by have h2:q=w1.heap.size:=aG.1 h;simp[h2]))
     ·refine(xW.o.trans HC.o (fun q hq=>?_)).trans abG (fun q hq=>by have h2:q=w1.heap.size:=aG.1 hq;exact a4Z (by omega));rcases bz.1 hq with rfl|hq
      ·exact aoX (by simp)
      exact a4Z (by have:=yy.o q hq;omega)
     exact yz.o.cR abG (by rw[aG];omega) (fun q hq=>by have h2:q=w1.heap.size:=aG.1 hq;omega)
    case measure=>simp[intOf];omega
   have rD:(l.length:Int)=k0:=by omega
   have t4:decide (0<k0 - (l.length:Int))=false:=by simp;omega
   have hrb:=(xW.o.blk Lt.o (by simp;omega))
   have aQl:=bS hrb;unfold jD dK.cells at hrb;obtain⟨b0,b1,b2,b3,b4,b5,bf⟩:=cX hrb;obtain⟨sa,sc,hv,hq1,hq2,Je⟩:=KC (M:=(w.heap.size+1)::M) HOW.o (fun q hq h=>by
    have h1:=(HOW.o.lt q hq).1;rcases bz.1 h with h|h
    ·omega
    have:=HM.o q h;omega) (zq.o.mono (cM _ (fun q hq=>aK _ (by
    rcases bz.1 hq with h|h
    ·simp[h]
    simp[h]))))
   subst hv;have HFX:=ai (show dw (mask wr ((w.heap.size+1)::M)) (.mk (r1+1) ⟨#[]⟩ [] 0 0 l) (fN (r1+1) ⟨#[]⟩ none 0 0 0 0 sa l.length sc) from dw.mk ⟨rfl,by omega,aoX ⟨rfl,rfl⟩,fun i hi=>by simp at hi⟩ rfl hq1 hq2 Je);have HFM:=ai (show oX attrs names (d'+1+1) (.mk (r1+1) ⟨#[]⟩ [] 0 0 l) from a4Z ⟨a4Z ⟨by simp only[Ex.op];omega,by simp only[Ex.args];omega,by simp only[Ex.args];omega⟩,rfl,rfl,rfl,rfl,HML.o⟩);clear hrb hq1 hq2 Je rD cs0;go_wp2_with fail;refine a5a (v:=(dK.mk (r1+1) ⟨#[]⟩ none 0 0 0 0 sa l.length sc).val) (by simp[results,Tryz.results40,go_sem,dK.val,fN,b0,b1,b2,b3,b4,b5]) rfl ?_;exact yl (e:=.mk (r1+1) ⟨#[]⟩ [] 0 0 l) (x:=⟨r1+1,⟨#[]⟩,none,0,0,0,0,sa,l.length,sc⟩) (mE.o.then xW.o) YJ.o (by omega) hbd HFM.o HFX.o
instance aPk (a:Attr):Decidable (QG a):=by unfold QG;infer_instance
theorem ei:∀l∈gi,(∀a∈l,QG a)/\l≠[]/\l.length<=1000:=by
 have h:∀l∈gi,(∀a∈l,QG a)/\l.length≠0/\l.length<=1000:=by decide +kernel
 intro l hl;obtain⟨h1,h2,h3⟩:=h l hl;exact⟨h1,fun e=>h2 (by rw[e];rfl),h3⟩
theorem iR {e:Ex} (h:gq e):zK e/\∀x∈e.args,gq x:=by
 cases e;unfold gq at h;exact⟨h.1,acK h.2⟩
theorem Am {e:Ex} (h1:zK e) (h2:∀x∈e.args,gq x):gq e:=by
 cases e with
 | mk op name words lo hi args =>
  unfold gq;refine⟨h1,?_⟩;simp only[Ex.args] at h2;clear h1;induction args with
  | nil=>unfold uK;trivial
  | cons a r ih=>unfold uK;exact⟨h2 a (by simp),ih (fun x hx=>h2 x (aZ _ hx))⟩
def IZ (a:Attr):Bool:=gJ a.name&&decide (a.name.size<=7)&&(a.kind != 1||(decide (a.words.length<=4)&&a.words.all fun x=>gJ x&&decide (x.size<=5)))&&(a.kind != 2||(decide (-1000000000<=a.lo)&&decide (a.hi<=1000000000)))
theorem acA:(gi.all fun l=>l.all IZ)=true:=by decide +kernel
theorem kO {f:Nat->Int}:(n:Nat)->(kZ f n).2=0->∀j,j<n->f j=0
 | 0,_,j,hj=>by omega
 | n+1,h,j,hj=>by
  rw[kZ] at h;by_cases h1:(kZ f n).2≠0
  ·rw[bM h1] at h;exact a40 h h1
  rw[bL h1] at h;have h1':(kZ f n).2=0:=by simpa using h1
  by_cases h2:f n≠0
  ·rw[bM h2] at h;exact a40 h h2
  rcases Nat.lt_succ_iff_lt_or_eq.1 hj with h3|h3
  ·exact kO n h1' j h3
  subst h3;simpa using h2
structure Chk (s:List Attr) (l:List cK):Prop where
 x7:dy s=0
 len:l.length<=100
 good:∀c∈l,gq c.cond/\dr s l c.cond=0/\eW c.cond=true/\gJ c.name=true/\eO s c.name=none
 uniq:∀i j,i<l.length->j<i->(l.getD j fC).name≠(l.getD i fC).name
 exp:∀c∈l,dV l c.cond<=2000
theorem ry {l:List cK} {i:Nat} (h:i<l.length):l.getD i fC=l[i]:=by simp[h]
theorem ak1 {l:List cK} {x:BA} {j:Nat} (hj:j<l.length) (h:(l.getD j fC).name=x):(findAt l x).getD 0<=j:=by
 unfold findAt;cases hf:l.findIdx? (fun c=>decide (c.name=x)) with
 | none =>
  rw[bh] at hf;have:=hf _ (aD hj);rw[ry hj] at h;simp[h] at this
 | some k =>
  rw[aJ] at hf;obtain⟨hk,_,h2⟩:=hf;simp only[Option.getD_some];rcases bJ j k with h3|h3
  ·have:=h2 j h3;rw[ry hj] at h;simp[h] at this
  exact h3
theorem lK {s:List Attr} {l:List cK} (h:(cV s l).2=0):Chk s l:=by
 unfold cV at h;by_cases h1:dy s≠0
 ·rw[bM h1] at h;exact a40 h h1
 rw[bL h1] at h;by_cases h2:100<l.length
 ·rw[bM h2] at h;simp at h
 rw[bL h2] at h;by_cases h3:(kZ (jE s l) l.length).2≠0
 ·rw[bM h3] at h;exact a40 h h3
 rw[bL h3] at h;by_cases h4:¬vZ (l.map cK.tV)
 ·rw[bM h4] at h;simp at h
 rw[bL h4] at h;have hc:=kO l.length (by simpa using h3);have hg:=kO l.length h;have hcl:∀i,i<l.length->gQ (l.getD i fC)=true/\i<=(findAt l (l.getD i fC).name).getD 0/\eO s (l.getD i fC).name=none/\dr s l (l.getD i fC).cond=0:=by
  intro i hi;have:=hc i hi;unfold jE at this;by_cases g1:gQ (l.getD i fC)=false
  ·rw[bM g1] at this;cases this
  rw[bL g1] at this;by_cases g2:(findAt l (l.getD i fC).name).getD 0<i
  ·rw[bM g2] at this;cases this
  rw[bL g2] at this;by_cases g3:(eO s (l.getD i fC).name).isSome
  ·rw[bM g3] at this;cases this
  rw[bL g3] at this;by_cases g4:dr s l (l.getD i fC).cond≠0
  ·rw[bM g4] at this;exact a40 this g4
  exact⟨by simpa using g1,by omega,by simpa using g3,by simpa using g4⟩
 refine⟨by simpa using h1,by omega,fun c hm=>?_,fun i j hi hj e=>?_,fun c hm=>?_⟩
 ·obtain⟨i,hi,rfl⟩:=bA hm;obtain⟨q1,_,q3,q4⟩:=hcl i hi;rw[ry hi] at q1 q3 q4;simp only[gQ,aF] at q1;obtain⟨⟨⟨⟨_,q5⟩,q6⟩,_⟩,_⟩:=q1;refine⟨?_,q4,q6,q5,q3⟩;rw[eW,aF,aF] at q6;exact(Ke _).1 q6.2
 ·obtain⟨_,q2,_,_⟩:=hcl i hi;have:=ak1 (l:=l) (x:=(l.getD i fC).name) (j:=j) (by omega) e;omega
 obtain⟨i,hi,rfl⟩:=bA hm;have:=hg i hi;unfold jQ at this;rw[ry hi] at this;by_cases g:2000<dV l l[i].cond\/eH l l[i].gH=true
 ·rw[bM g] at this;cases this
 simp only[not_or] at g;omega
theorem JE {s:List Attr} {x:BA} {i:Nat} (h:eO s x=some i):i<s.length/\(s.getD i rL).name=x:=by
 unfold eO at h;rw[aJ] at h;obtain⟨hi,h1,_⟩:=h;exact⟨hi,by simpa[hi] using h1⟩
theorem ju {l:List cK} {x:BA} {d:Nat} (h:dz l x=some d):d<l.length/\(l.getD d fC).kind=1/\(l.getD d fC).name=x:=by
 unfold dz at h;rw[aJ] at h;obtain⟨hi,h1,_⟩:=h;simp only[aF,a47,aH] at h1;rw[ry hi];exact⟨hi,h1.1,h1.2⟩
theorem Chk.apart {s:List Attr} {l:List cK} (h:Chk s l) {x:BA} {d:Nat} (hd:dz l x=some d):eO s x=none:=by
 obtain⟨h1,_,h3⟩:=ju hd;rw[ry h1] at h3;rw[<-h3];exact(h.good _ (aD h1)).2.2.2.2
theorem Chk.cond {s:List Attr} {l:List cK} (h:Chk s l) {d:Nat} (hd:d<l.length):gq (l.getD d fC).cond/\dr s l (l.getD d fC).cond=0/\(l.getD d fC).cond.size<=300:=by
 rw[ry hd];obtain⟨q1,q2,q3,_,_⟩:=h.good _ (aD hd);refine⟨q1,q2,?_⟩;rw[eW,aF,aF] at q3;have:=q3.1.2;simp only[aH] at this;unfold ep at this;omega
theorem iQ {s:List Attr} (h:dy s=0):1<=s.length/\s.length<=6/\∀i (hi:i<s.length),iq s[i]=0/\gJ s[i].name=true:=by
 unfold dy at h;by_cases h1:s.length=0
 ·rw[bM h1] at h;cases h
 rw[bL h1] at h;by_cases h2:6<s.length
 ·rw[bM h2] at h;cases h
 rw[bL h2] at h;refine⟨by omega,by omega,fun i hi=>?_⟩;have:=kO s.length h i hi;unfold rY at this;have e1:s.getD i rL=s[i]:=by simp[hi]
 rw[e1] at this;by_cases g1:gJ s[i].name=false
 ·rw[bM g1] at this;cases this
 rw[bL g1] at this;by_cases g2:(s.take i).any (fun b=>decide (b.name=s[i].name))=true
 ·rw[bM g2] at this;cases this
 rw[bL g2] at this;exact⟨this,by simpa using g1⟩
theorem ahF {a:Attr} (h:iq a=0):(yS a).1<=(yS a).2 /\ -1000000000<=(yS a).1/\(yS a).2<=1000000000/\(a.kind=1\/a.kind=2\/a.kind=3)/\(a.kind=1->1<=a.words.length/\a.words.length<=12):=by
 unfold iq at h;unfold yS;by_cases h1:a.kind=1
 ·rw[bM h1] at h ⊢;by_cases g1:a.lo≠0\/a.hi≠0
  ·rw[bM g1] at h;cases h
  rw[bL g1] at h;by_cases g2:a.words.length=0
  ·rw[bM g2] at h;cases h
  rw[bL g2] at h;by_cases g3:12<a.words.length
  ·rw[bM g3] at h;cases h
  exact⟨by simp only;omega,by simp only;omega,by simp only;omega,aoX h1,fun _=>⟨by omega,by omega⟩⟩
 rw[bL h1] at h ⊢;by_cases h2:a.kind=2
 ·rw[bM h2] at h ⊢;by_cases g1:0<a.words.length
  ·rw[bM g1] at h;cases h
  rw[bL g1] at h;by_cases g2:a.hi<a.lo\/avl a.lo=true\/avl a.hi=true
  ·rw[bM g2] at h;cases h
  simp only[not_or,avl,iM,Bool.not_eq_true',bI,Decidable.not_not] at g2;exact⟨by simp only;omega,by simp only;omega,by simp only;omega,a4Z (aoX h2),fun e=>a40 e h1⟩
 rw[bL h2] at h ⊢;by_cases h3:a.kind=3
 ·exact⟨by decide,by decide,by decide,a4Z (a4Z h3),fun e=>a40 e h1⟩
 rw[bL h3] at h;cases h
theorem ZE {x:BA} (h:gJ x=true):x.size<=16:=by
 simp only[gJ,kM,aF,aH] at h;exact h.1.1.1.1.2
theorem arz {D:BA->Option Nat}:(l:List Ex)->(k:Nat)->(hk:k<l.length)->wM D l[k]<=mI D l
 | [],k,hk=>by simp at hk
 | e::r,0,_=>by simp[mI]
 | e::r,k+1,hk=>by
  have:=arz (D:=D) r k (by simpa using hk);simp only[mI,List.getElem_cons_succ];omega
theorem KF {D:BA->Option Nat} {e:Ex} (h:wM D e<=2000) (k:Nat) (hk:k<e.args.length):wM D e.args[k]<=2000:=by
 rw[Mi] at h;have:=arz (D:=D) e.args k hk;omega
theorem Qn {D:BA->Option Nat} {e:Ex} (h:wM D e<=2000) (h3:e.op=3) {n:Nat} (hn:D e.name=some n):n<=2000:=by
 rw[Mi,bM h3,hn] at h;simp only[Option.getD_some] at h;omega
theorem ako {s:List Attr} {l:List cK}:(r:List Ex)->dZ s l r=0->∀k (hk:k<r.length),dr s l r[k]=0
 | [],_,k,hk=>by simp at hk
 | e::r,h,k,hk=>by
  rw[dZ] at h;by_cases h1:dr s l e≠0
  ·rw[bM h1] at h;exact a40 h h1
  rw[bL h1] at h;cases k with
  | zero=>simpa using h1
  | succ k=>simpa using ako r h k (by simpa using hk)
theorem wT {s:List Attr} {l:List cK} {e:Ex} (h:dr s l e=0):fB s l e.op e.name e.words e.lo e.hi=0/\∀k (hk:k<e.args.length),dr s l e.args[k]=0:=by
 rw[zL] at h;by_cases h1:fB s l e.op e.name e.words e.lo e.hi≠0
 ·rw[bM h1] at h;exact a40 h h1
 rw[bL h1] at h;exact⟨by simpa using h1,ako _ h⟩
theorem abv {s:List Attr} {l:List cK} {e:Ex} (ht:gq e) (h:dr s l e=0):(e.op=1)\/(e.op=2) \/
  (e.op=3/\∃i,eO s e.name=some i/\(s.getD i rL).kind=3)\/(e.op=3/\eO s e.name=none/\∃d,dz l e.name=some d) \/
  (e.op=4/\∃i,eO s e.name=some i/\(s.getD i rL).kind=1)\/(e.op=5/\∃i,eO s e.name=some i/\(s.getD i rL).kind=2) \/
  (e.op=6/\e.args.length=1)\/e.op=7\/e.op=8:=by
 have h0:=(wT h).1;rcases(iR ht).1 with ⟨h1,-⟩|⟨h1,-⟩|⟨h1,-⟩|⟨h1,-⟩|⟨h1,-⟩|⟨h1,-,-,-,-,h2⟩|⟨h1|h1,-⟩
 ·exact aoX h1
 ·exact a4Z (aoX h1)
 ·unfold fB at h0;rw[bM h1] at h0;cases ha:eO s e.name with
  | some i =>
   rw[ha] at h0;simp only at h0;by_cases hk:(s.getD i rL).kind≠3
   ·rw[bM hk] at h0;cases h0
   exact a4Z (a4Z (aoX ⟨h1,i,rfl,by simpa using hk⟩))
  | none =>
   rw[ha] at h0;simp only at h0;cases hd:dz l e.name with
   | some d=>exact a4Z (a4Z (a4Z (aoX ⟨h1,rfl,d,rfl⟩)))
   | none=>rw[hd] at h0;simp at h0
 ·unfold fB at h0;rw[bL (by omega),bM h1] at h0;cases ha:eO s e.name with
  | some i =>
   rw[ha] at h0;simp only at h0;by_cases hk:(s.getD i rL).kind≠1
   ·rw[bM hk] at h0;cases h0
   exact a4Z (a4Z (a4Z (a4Z (aoX ⟨h1,i,rfl,by simpa using hk⟩))))
  | none=>rw[ha] at h0;cases h0
 ·unfold fB at h0;rw[bL (by omega),bL (by omega),bM h1] at h0;cases ha:eO s e.name with
  | some i =>
   rw[ha] at h0;simp only at h0;by_cases hk:(s.getD i rL).kind≠2
   ·rw[bM hk] at h0;cases h0
   exact a4Z (a4Z (a4Z (a4Z (a4Z (aoX ⟨h1,i,rfl,by simpa using hk⟩)))))
  | none=>rw[ha] at h0;cases h0
 ·exact a4Z (a4Z (a4Z (a4Z (a4Z (a4Z (aoX ⟨h1,h2⟩))))))
 ·exact a4Z (a4Z (a4Z (a4Z (a4Z (a4Z (a4Z (aoX h1)))))))
 exact a4Z (a4Z (a4Z (a4Z (a4Z (a4Z (a4Z (a4Z h1)))))))
theorem dB.parts {w:World} {l:List Attr} {v:Value} (h:dB w l v):∃a n c,v=.agg #[.slice a n c]/\n=l.length/\n<=c/\ny a c/\∀i (h:i<l.length),∃b off,a=some ⟨b,off,none⟩/\QT w l[i] b (off+i*5):=h
theorem dB.ext {w w':World} {l:List Attr} {v:Value} (h:dB w l v) (he:Ext w w'):dB w' l v:=h.mono he.sub
def sX (o:Option Nat):Value:=.tuple #[.int .i64 (o.getD 0:Nat),.bool o.isSome]
theorem KA {α:Type} {p:α->Bool} {l:List α} {k:Nat} (hk:k<l.length) (h1:p l[k]=true) (h2:∀j (h:j<l.length),j<k->p l[j]=false):l.findIdx? p=some k:=by
 rw[aJ];exact⟨hk,h1,fun j hj=>by rw[h2 j (by omega) hj];simp⟩
theorem Fl {α:Type} {p:α->Bool} {l:List α} (h:∀j (h:j<l.length),p l[j]=false):l.findIdx? p=none:=by
 rw[bh];intro x hx;obtain⟨i,hi,rfl⟩:=aW.1 hx;simp[h i hi]
theorem dO {w:World} {b:Nat} {v0:Value} {t:TypeId} (h:w.heap[b]?=some (.cells #[v0] t (0,0))):w.cell? ⟨b,0,none⟩=some v0/\(∀j,w.frozen? ⟨b,j,none⟩=false):=⟨bX h 0,fun j=>ie h j⟩
theorem pP {a b:BA} {u:Bool} (h:(a.toList==b.toList)=u):decide (a=b)=u:=by rw[<-JN];exact h
theorem Ai (s:List Attr) (v:Value) (x:BA) (w:World) (hs:dB w s v) (hl:s.length<=1000000000000000) :
  Calls Tryz.prog 91 #[v,.string x] w (cz (sX (eO s x)) w):=by
 obtain⟨a,n,c,rfl,hn,hnc,hoa,hat⟩:=hs.parts;have HS:=ai hs;have HN:=ai hn;have hn2:n<=1000000000000000:=by omega
 clear hs hn hat hnc hoa;go_enter Tryz.func91,Tryz.ntmps91
 go_wp2_with fail;go_loopw [6] (fun t wr=>∃k:Nat,t=.int .i64 k/\k<=n/\(∀j (h:j<s.length),j<k->decide (s[j].name=x)=false)/\wr.heap[w.heap.size]?=some (.cells #[.slice a n c] 24 (0,0))/\Ext w wr) (fun t _=>n - (intOf t).toNat)
 case atStart=>exact⟨0,rfl,by omega,fun j _ h=>by omega,bR w _,(Tz w).alloc _⟩
 case round =>
  obtain⟨k,rfl,hk,hno,j6,hx⟩:=hrel;have jH:=ai hno;have jm:=ai j6;have HX:=ai hx;obtain⟨bb0,bbf⟩:=dO j6;have lU:=bS j6;clear hno j6 hx;by_cases hkn:k<n
  ·have hks:k<s.length:=by have:=HN.o;omega
   obtain⟨a',n',c',e',hx1,hx2,hx3,hat⟩:=(HS.o.ext HX.o).parts;simp only[a5b,a5d,a5c,a45,and_true] at e';obtain⟨rfl,rfl,rfl⟩:=e';clear hx1 hx2 hx3;obtain⟨b,off,rfl,aw,nw,cw,h0,h1,h2,h3,h4,h5⟩:=hat k hks;have t1:=ag ((k:Int)<(n:Int));cases he:(s[k].name.toList==x.toList)
   ·have HE:=ai (pP he);clear hat h5;go_wp2_with fail;go_roundw
    case rel =>
     refine⟨k+1,by go_num,by omega,fun j hj hjk=>?_,jm.o,HX.o⟩;by_cases e:j=k
     ·subst e;exact HE.o
     exact jH.o j hj (by omega)
    case measure=>simp[intOf];omega
   have HF:=ai (show eO s x=some k from KA hks (pP he) jH.o);clear hat h5;go_wp2_with fail
   go_ret2
   exact⟨by rw[sX,HF.o];rfl,HX.o⟩
  have t1:=ah ((k:Int)<(n:Int));have HF:=ai (show eO s x=none from Fl fun j hj=>jH.o j hj (by have:=HN.o;omega));go_wp2_with fail
  go_ret2
  exact⟨by rw[sX,HF.o];rfl,HX.o⟩
theorem Gs (l:List cK) (a:OA) (n c:Nat) (x:BA) (w:World) (hs:cZ w l a n c) (hl:n<=1000000000000000) :
  Calls Tryz.prog 90 #[.slice a n c,.string x] w (pg (sX (findAt l x)) w):=by
 have HS:=ai hs;have HN:=ai hs.len;clear hs;go_enter Tryz.func90,Tryz.ntmps90
 go_wp2_with fail
 go_loop [6] (fun t=>∃k:Nat,t=.int .i64 k/\k<=n/\(∀j (h:j<l.length),j<k->decide (l[j].name=x)=false)) (fun t=>n - (intOf t).toNat)
 case atStart=>exact⟨0,rfl,by omega,fun j _ h=>by omega⟩
 case round =>
  obtain⟨k,rfl,hk,hno⟩:=hrel;have jH:=ai hno;clear hno;by_cases hkn:k<n
  ·have hks:k<l.length:=by have:=HN.o;omega
   obtain⟨b,off,v,rfl,fO,hrow⟩:=HS.o.at hks;obtain⟨c0,c1,-,-,-,-,-,-,-,-⟩:=hrow.BB;have hq2:=fO.2.1;rw[hq2] at c1;have t1:=ag ((k:Int)<(n:Int));cases he:(l[k].name.toList==x.toList)
   ·have HE:=ai (pP he);clear fO hrow hq2 c0;go_wp2_with fail
    go_round
    case rel =>
     refine⟨k+1,by go_num,by omega,fun j hj hjk=>?_⟩;by_cases e:j=k
     ·subst e;exact HE.o
     exact jH.o j hj (by omega)
    case measure=>simp[intOf];omega
   have HF:=ai (show findAt l x=some k from KA hks (pP he) jH.o);clear fO hrow hq2 c0;go_wp2_with fail
   go_ret2
   exact⟨by rw[sX,HF.o];rfl,rfl⟩
  have t1:=ah ((k:Int)<(n:Int));have HF:=ai (show findAt l x=none from Fl fun j hj=>jH.o j hj (by have:=HN.o;omega));go_wp2_with fail
  go_ret2
  exact⟨by rw[sX,HF.o];rfl,rfl⟩
theorem xB (l:List cK) (a:OA) (n c:Nat) (x:BA) (w:World) (hs:cZ w l a n c) (hl:n<=1000000000000000) :
  Calls Tryz.prog 125 #[.slice a n c,.string x] w (pg (sX (dz l x)) w):=by
 have HS:=ai hs;have HN:=ai hs.len;clear hs;go_enter Tryz.func125,Tryz.ntmps125
 go_wp2_with fail
 go_loop [6] (fun t=>∃k:Nat,t=.int .i64 k/\k<=n/\(∀j (h:j<l.length),j<k->((l[j].kind==1)&&decide (l[j].name=x))=false)) (fun t=>n - (intOf t).toNat)
 case atStart=>exact⟨0,rfl,by omega,fun j _ h=>by omega⟩
 case round =>
  obtain⟨k,rfl,hk,hno⟩:=hrel;have jH:=ai hno;clear hno;by_cases hkn:k<n
  ·have hks:k<l.length:=by have:=HN.o;omega
   obtain⟨b,off,v,rfl,fO,hrow⟩:=HS.o.at hks;obtain⟨c0,c1,-,-,-,-,-,-,-,-⟩:=hrow.BB;have hq1:=fO.1;have hq2:=fO.2.1;rw[hq2] at c1;rw[hq1] at c0;have t1:=ag ((k:Int)<(n:Int));cases tC:(l[k].kind==1)
   ·have HE:=ai (show ((l[k].kind==1)&&decide (l[k].name=x))=false by rw[tC];rfl);clear fO hrow hq2 hq1;go_wp2_with fail
    go_round
    case rel =>
     refine⟨k+1,by go_num,by omega,fun j hj hjk=>?_⟩;by_cases e:j=k
     ·subst e;exact HE.o
     exact jH.o j hj (by omega)
    case measure=>simp[intOf];omega
   cases he:(l[k].name.toList==x.toList)
   ·have HE:=ai (show ((l[k].kind==1)&&decide (l[k].name=x))=false by rw[tC,pP he];rfl);clear fO hrow hq2 hq1;go_wp2_with fail
    go_round
    case rel =>
     refine⟨k+1,by go_num,by omega,fun j hj hjk=>?_⟩;by_cases e:j=k
     ·subst e;exact HE.o
     exact jH.o j hj (by omega)
    case measure=>simp[intOf];omega
   have HF:=ai (show dz l x=some k from KA hks (by rw[tC,pP he];rfl) jH.o);clear fO hrow hq2 hq1;go_wp2_with fail
   go_ret2
   exact⟨by rw[sX,HF.o];rfl,rfl⟩
  have t1:=ah ((k:Int)<(n:Int));have HF:=ai (show dz l x=none from Fl fun j hj=>jH.o j hj (by have:=HN.o;omega));go_wp2_with fail
  go_ret2
  exact⟨by rw[sX,HF.o];rfl,rfl⟩
theorem MH (l:ZB) (a:OA) (n c:Nat) (x:BA) (w:World) (hs:fS w l a n c) (hl:n<=1000000000000000) :
  Calls Tryz.prog 158 #[.slice a n c,.string x] w (pg (.bool (l.any fun y=>decide (y=x))) w):=by
 have HS:=ai hs;have HN:=ai hs.1;clear hs;go_enter Tryz.func158,Tryz.ntmps158
 go_wp2_with fail
 go_loop [5] (fun t=>∃k:Nat,t=.int .i64 k/\k<=n/\(∀j (h:j<l.length),j<k->decide (l[j]=x)=false)) (fun t=>n - (intOf t).toNat)
 case atStart=>exact⟨0,rfl,by omega,fun j _ h=>by omega⟩
 case round =>
  obtain⟨k,rfl,hk,hno⟩:=hrel;have jH:=ai hno;clear hno;by_cases hkn:k<n
  ·have hks:k<l.length:=by have:=HN.o;omega
   obtain⟨b,off,rfl,c1⟩:=HS.o.2.2.2 k hks;have t1:=ag ((k:Int)<(n:Int));cases he:(l[k].toList==x.toList)
   ·have HE:=ai (pP he);go_wp2_with fail
    go_round
    case rel =>
     refine⟨k+1,by go_num,by omega,fun j hj hjk=>?_⟩;by_cases e:j=k
     ·subst e;exact HE.o
     exact jH.o j hj (by omega)
    case measure=>simp[intOf];omega
   have HF:=ai (show (l.any fun y=>decide (y=x))=true from List.any_eq_true.2 ⟨l[k],aD hks,pP he⟩);go_wp2_with fail;go_ret;exact fU (by rw[HF.o])
  have t1:=ah ((k:Int)<(n:Int));have HF:=ai (show (l.any fun y=>decide (y=x))=false by
   rw[List.any_eq_false];intro y hy;obtain⟨j,hj,rfl⟩:=aW.1 hy;have:=jH.o j hj (by have:=HN.o;omega);simp[this])
  go_wp2_with fail;go_ret;exact fU (by rw[HF.o])
theorem acH (k:Int) (w:World):Calls Tryz.prog 42 #[.int .i64 k] w (pg (.int .i64 (ku k)) w):=by
 by_cases h5:k=5
 ·subst h5;go_enter Tryz.func42,Tryz.ntmps42
  go_wp2_with fail;go_ret;exact⟨rfl,rfl⟩
 by_cases h6:k=6
 ·subst h6;go_enter Tryz.func42,Tryz.ntmps42
  go_wp2_with fail;go_ret;exact⟨rfl,rfl⟩
 by_cases h7:k=7
 ·subst h7;go_enter Tryz.func42,Tryz.ntmps42
  go_wp2_with fail;go_ret;exact⟨rfl,rfl⟩
 by_cases h10:k=10
 ·subst h10;go_enter Tryz.func42,Tryz.ntmps42
  go_wp2_with fail;go_ret;exact⟨rfl,rfl⟩
 by_cases h8:k=8
 ·subst h8;go_enter Tryz.func42,Tryz.ntmps42
  go_wp2_with fail;go_ret;exact⟨rfl,rfl⟩
 have e5:(k==5)=false:=by simp[h5]
 have e6:(k==6)=false:=by simp[h6]
 have e7:(k==7)=false:=by simp[h7]
 have e10:(k==10)=false:=by simp[h10]
 have e8:(k==8)=false:=by simp[h8]
 have HM:=ai (show ku k=0 by unfold ku;rw[bL (by omega),bL (by omega)]);go_enter Tryz.func42,Tryz.ntmps42
 go_wp2_with fail;go_ret;exact⟨by rw[HM.o];rfl,rfl⟩
theorem ar7 {w:World} {b:Nat} {v0 v1 v2 v3 v4:Value} {t:TypeId} (h:w.heap[b]?=some (.cells #[v0,v1,v2,v3,v4] t (0,0))) :
  w.cell? ⟨b,0,none⟩=some v0/\w.cell? ⟨b,1,none⟩=some v1/\w.cell? ⟨b,2,none⟩=some v2/\w.cell? ⟨b,3,none⟩=some v3/\w.cell? ⟨b,4,none⟩=some v4/\(∀j,w.frozen? ⟨b,j,none⟩=false) :=
 ⟨bX h 0,bX h 1,bX h 2,bX h 3,bX h 4,fun j=>ie h j⟩
def Attr.fits (a:Attr):Prop:=a.name.size<=1000000000000000/\a.words.length<=1000000000000000/\∀x∈a.words,x.size<=1000000000000000
theorem cD {k:IntKind} {a b:Int} {w w':World} (h:a=b) (hx:Ext w w'):cz (.int k b) w (.returned (.int k a)) w':=by subst h;exact⟨rfl,hx⟩
theorem apV (x:Attr) (aw:OA) (nw cw:Nat) (w:World) (hw:fS w x.words aw nw cw) (hf:x.fits) :
  Calls Tryz.prog 119 #[.agg #[.string x.name,.int .i64 x.kind,.slice aw nw cw,.int .i64 x.lo,.int .i64 x.hi]] w (cz (.int .i64 (iq x)) w):=by
 have HW:=ai hw;have HF:=ai hf;have hnw:=hw.1;have hnl:nw<=1000000000000000:=by rw[hnw];exact hf.2.1
 have RV:=ai hnw;clear hw hf hnw;obtain⟨name,kind,words,lo,hi⟩:=x;simp only at *;by_cases h1:kind=1
 ·subst h1;by_cases hlo:lo=0
  ·subst hlo;by_cases hhi:hi=0
   ·subst hhi;by_cases h0:nw=0
    ·have HE:=ai (show iq ⟨name,1,words,0,0⟩=19 by simp[iq,<-RV.o,h0]);subst h0;go_enter Tryz.func119,Tryz.ntmps119
     go_wp2_with fail;go_ret;exact cD (by rw[HE.o]) ((Tz w).alloc _)
    have t0:((nw:Int)==0)=false:=by simp;omega
    by_cases h12:12<nw
    ·have t12:=ag ((12:Int)<(nw:Int));have HE:=ai (show iq ⟨name,1,words,0,0⟩=4 by
      simp only[iq,if_true,<-RV.o];rw[bL (by simp),bL h0,bM h12])
     go_enter Tryz.func119,Tryz.ntmps119
     go_wp2_with fail;go_ret;exact cD (by rw[HE.o]) ((Tz w).alloc _)
    have t12:=ah ((12:Int)<(nw:Int));cases hn:words.all gJ
    ·have HE:=ai (show iq ⟨name,1,words,0,0⟩=6 by
      simp only[iq,if_true,<-RV.o];rw[bL (by simp),bL h0,bL h12,bM hn])
     have HB:=ai hn;clear hn;go_enter Tryz.func119,Tryz.ntmps119
     go_wp2_with fail;refine(Gx words _ _ _ _ (HW.o.ext ((Tz w).alloc _)) hnl HF.o.2.2).mono ?_;rintro e w' ⟨rfl,rfl⟩;rw[HB.o];go_wp2_with fail;go_ret;exact cD (by rw[HE.o]) ((Tz w).alloc _)
    have HB:=ai hn;cases hd:decide words.Nodup
    ·have HE:=ai (show iq ⟨name,1,words,0,0⟩=8 by
      simp only[iq,if_true,<-RV.o];rw[bL (by simp),bL h0,bL h12,bL (by rw[hn];simp),bM hd])
     have fY:=ai hd;clear hn hd;go_enter Tryz.func119,Tryz.ntmps119
     go_wp2_with fail;refine(Gx words _ _ _ _ (HW.o.ext ((Tz w).alloc _)) hnl HF.o.2.2).mono ?_;rintro e w' ⟨rfl,rfl⟩;rw[HB.o];go_wp2_with fail;refine(DN words _ _ _ _ (HW.o.ext ((Tz w).alloc _)) hnl).mono ?_;rintro e w' ⟨rfl,q,rfl⟩;rw[fY.o];go_wp2_with fail;go_ret;exact cD (by rw[HE.o]) (((Tz w).alloc _).drewN _)
    have HE:=ai (show iq ⟨name,1,words,0,0⟩=0 by
     simp only[iq,if_true,<-RV.o];rw[bL (by simp),bL h0,bL h12,bL (by rw[hn];simp),bL (by rw[hd];simp)])
    have fY:=ai hd;clear hn hd;go_enter Tryz.func119,Tryz.ntmps119
    go_wp2_with fail;refine(Gx words _ _ _ _ (HW.o.ext ((Tz w).alloc _)) hnl HF.o.2.2).mono ?_;rintro e w' ⟨rfl,rfl⟩;rw[HB.o];go_wp2_with fail;refine(DN words _ _ _ _ (HW.o.ext ((Tz w).alloc _)) hnl).mono ?_;rintro e w' ⟨rfl,q,rfl⟩;rw[fY.o];go_wp2_with fail;go_ret;exact cD (by rw[HE.o]) (((Tz w).alloc _).drewN _)
   have t1:(hi != 0)=true:=by simp[hhi]
   have HE:=ai (show iq ⟨name,1,words,0,hi⟩=20 by simp[iq,hhi]);go_enter Tryz.func119,Tryz.ntmps119
   go_wp2_with fail;go_ret;exact cD (by rw[HE.o]) ((Tz w).alloc _)
  have t1:(lo != 0)=true:=by simp[hlo]
  have HE:=ai (show iq ⟨name,1,words,lo,hi⟩=20 by simp[iq,hlo]);go_enter Tryz.func119,Tryz.ntmps119
  go_wp2_with fail;go_ret;exact cD (by rw[HE.o]) ((Tz w).alloc _)
 have e1:(kind==1)=false:=by simp[h1]
 by_cases h2:kind=2
 ·subst h2;have HE:=ai (show iq ⟨name,2,words,lo,hi⟩=if 0<nw then 20 else if hi<lo\/iM lo=false\/iM hi=false then 1 else 0 by
   simp only[iq,avl];rw[bL (by omega),bM trivial,<-RV.o];simp)
  generalize iq ⟨name,2,words,lo,hi⟩=E at *;go_enter Tryz.func119,Tryz.ntmps119
  go_wp2_with (go_at_call 154;refine(U6 _ _).mono ?_;rintro e w' ⟨rfl,rfl⟩)
  all_goals (go_ret;exact cD (by rw[HE.o];simp_all<;>omega) ((Tz w).alloc _))
 have e2:(kind==2)=false:=by simp[h2]
 by_cases h3:kind=3
 ·subst h3;have HE:=ai (show iq ⟨name,3,words,lo,hi⟩=if 0<nw\/lo≠0\/hi≠0 then 20 else 0 by
   simp only[iq];rw[bL (by omega),bL (by omega),bM trivial,<-RV.o])
  generalize iq ⟨name,3,words,lo,hi⟩=E at *;go_enter Tryz.func119,Tryz.ntmps119
  go_wp2_with fail
  all_goals (go_ret;exact cD (by rw[HE.o];simp_all<;>omega) ((Tz w).alloc _))
 have e3:(kind==3)=false:=by simp[h3]
 have HE:=ai (show iq ⟨name,kind,words,lo,hi⟩=11 by
  simp only[iq];rw[bL h1,bL h2,bL h3])
 generalize iq ⟨name,kind,words,lo,hi⟩=E at *;go_enter Tryz.func119,Tryz.ntmps119
 go_wp2_with fail;go_ret;exact cD (by rw[HE.o]) ((Tz w).alloc _)
def aSh (s:List Attr) (n:Nat) (a:OA) (c:Nat) (w:World) (t:Value) (wr:World):Prop:=∃k:Nat,t=.int .i64 k/\k<=n/\(∀j,j<k->rY s j=0)/\wr.heap[w.heap.size]?=some (.cells #[.slice a n c] 24 (0,0))/\Ext w wr
def aXN (s:List Attr) (k:Nat) (wa:World) (t:Value) (wr:World):Prop:=∃m:Nat,t=.int .i64 m/\m<=k/\(∀j (h:j<s.length),j<m->decide (s[j].name=(s.getD k rL).name)=false)/\(∃q,wr=wa.drewN q)
theorem yI {s:List Attr} {i:Nat} (h:i<s.length):s.getD i rL=s[i]:=by simp[h]
theorem Bi (s:List Attr) (v:Value) (w:World) (hs:dB w s v) (hf:∀x∈s,x.fits) (hl:s.length<=1000000000000000) :
  Calls Tryz.prog 88 #[v] w (cz (.int .i64 (dy s)) w):=by
 obtain⟨a,n,c,rfl,hn,hnc,hoa,hat⟩:=hs.parts;have HS:=ai hs;have HN:=ai hn;have HF:=ai hf;have hn2:n<=1000000000000000:=by omega
 clear hs hn hat hnc hoa hf;by_cases h0:n=0
 ·have t0:((n:Int)==0)=true:=by simp[h0]
  have HE:=ai (show dy s=19 by unfold dy;rw[<-HN.o,bM h0]);clear h0;go_enter Tryz.func88,Tryz.ntmps88
  go_wp2_with fail;go_ret;exact cD (by rw[HE.o]) ((Tz w).alloc _)
 have t0:((n:Int)==0)=false:=by simp[h0]
 by_cases h6:6<n
 ·have t6:=ag ((6:Int)<(n:Int));have HE:=ai (show dy s=4 by unfold dy;rw[<-HN.o,bL h0,bM h6]);go_enter Tryz.func88,Tryz.ntmps88
  go_wp2_with fail;go_ret;exact cD (by rw[HE.o]) ((Tz w).alloc _)
 have t6:=ah ((6:Int)<(n:Int));have HE:=ai (show dy s=(kZ (rY s) n).2 by unfold dy;rw[<-HN.o,bL h0,bL h6]);go_enter Tryz.func88,Tryz.ntmps88
 go_wp2_with fail;go_loopw [3] (aSh s n a c w) (fun t _=>n - (intOf t).toNat)
 case atStart=>exact⟨0,rfl,by omega,fun j h=>by omega,bR w _,(Tz w).alloc _⟩
 case round =>
  obtain⟨k,rfl,hk,hno,j6,hx⟩:=hrel;obtain⟨wo,rfl⟩:∃wo:World,wo=wr:=⟨_,rfl⟩
  have jH:=ai hno;have jm:=ai j6;have HX:=ai hx;obtain⟨bb0,bbf⟩:=dO j6;have lU:=bS j6;clear hno j6 hx;by_cases hkn:k<n
  ·have hks:k<s.length:=by have:=HN.o;omega
   obtain⟨a',n',c',e',hx1,hx2,hx3,hat⟩:=(HS.o.ext HX.o).parts;simp only[a5b,a5d,a5c,a45,and_true] at e';obtain⟨rfl,rfl,rfl⟩:=e';clear hx1 hx2 hx3;obtain⟨b,off,rfl,aw,nw,cw,h0,h1,h2,h3,h4,h5⟩:=hat k hks;have H5:=ai h5;have t1:=ag ((k:Int)<(n:Int));have hfk:=HF.o _ (aD hks);have hfn:=hfk.1;have HFK:=ai hfk;have HAI:=ai (show rY s k=if gJ s[k].name=false then 6 else if (s.take k).any (fun b=>decide (b.name=s[k].name))=true then 8 else iq s[k] by unfold rY;rw[yI hks]);clear hat h5 hfk;cases hnb:gJ s[k].name
   ·have pX:=ai hnb;have HR:=ai (show dy s=6 by
     rw[HE.o,rQ (k:=k) (by rw[HAI.o,bM hnb];omega) jH.o n hkn]
     show rY s k=6
     rw[HAI.o,bM hnb])
    clear hnb HE;go_wp2_with fail;refine(nO _ _ hfn).mono ?_;rintro e w' ⟨rfl,rfl⟩;rw[pX.o];go_wp2_with fail;go_ret;exact cD (by rw[HR.o]) (HX.o.alloc _)
   have pX:=ai hnb;go_wp2_with fail;refine(nO _ _ hfn).mono ?_;rintro e w' ⟨rfl,rfl⟩;rw[pX.o];clear h0 h1 h2 h3 h4 bb0 bbf;go_upto_region 11 with fail;obtain⟨wa,cN⟩:∃wa,wa=wo.alloc (.cells #[.string s[k].name,.int .i64 s[k].kind,.slice aw nw cw,.int .i64 s[k].lo,.int .i64 s[k].hi] 101):=⟨_,rfl⟩
   rw[<-cN];have gB:Ext wo wa:=by rw[cN];exact(Tz _).alloc _
   have hba:wa.heap[wo.heap.size]?=some (.cells #[.string s[k].name,.int .i64 s[k].kind,.slice aw nw cw,.int .i64 s[k].lo,.int .i64 s[k].hi] 101 (0,0)):=by rw[cN];exact bR wo _
   have dm:=ai gB;have oF:=ai hba;have fY:=ai (gB.blk jm.o);clear cN gB hba;go_wp2_with fail;go_loopw [5] (aXN s k wa) (fun t _=>k - (intOf t).toNat)
   case atStart=>exact⟨0,rfl,by omega,fun j _ h=>by omega,0,rfl⟩
   case round =>
    obtain⟨m,rfl,hm,hne,q,rfl⟩:=hrel;have qP:=ai hne;clear hne;obtain⟨d0,df⟩:=dO fY.o;obtain⟨a0,a1,a2,a3,a4,af⟩:=ar7 oF.o;by_cases hmk:m<k
    ·have t2:=ag ((m:Int)<(k:Int));have hms:m<s.length:=by omega
     obtain⟨a',n',c',e',hx1,hx2,hx3,hat⟩:=(HS.o.ext (HX.o.trans dm.o)).parts;simp only[a5b,a5d,a5c,a45,and_true] at e';obtain⟨rfl,rfl,rfl⟩:=e';obtain⟨b',off',e'',X7,Xp,XU,g0,g1,g2,g3,g4,g5⟩:=hat m hms;simp only[a42,Addr.mk.injEq,and_true] at e'';obtain⟨rfl,rfl⟩:=e'';have Sc:(0:Int)<=(m:Int):=by omega
     have ti1:(m:Int)<(n:Int):=by omega
     clear hx1 hx2 hx3 hat g1 g2 g3 g4 g5 a1 a2 a3 a4;cases he:(s[m].name.toList==s[k].name.toList)
     ·have Gk:=ai (pP he);go_wp2_with fail;go_quiet (fail)
      go_wp2_with fail;go_roundw
      case rel =>
       refine⟨m+1,by go_num,by omega,fun j hj hjm=>?_,_,rfl⟩;by_cases e:j=m
       ·subst e;rw[yI hks];exact Gk.o
       exact qP.o j hj (by omega)
      case measure=>simp[intOf];omega
     have h8:rY s k=8:=by
      rw[HAI.o,bL (by rw[pX.o];simp),bM];rw[List.any_eq_true];exact⟨s[m],aW.2 ⟨m,by simp;omega,by simp⟩,pP he⟩
     have HR:=ai (show dy s=8 by
      rw[HE.o,rQ (k:=k) (by rw[h8];omega) jH.o n hkn];exact h8)
     clear h8;go_wp2_with fail;go_quiet (fail)
     go_wp2_with fail;go_ret;exact cD (by rw[HR.o]) ((((HX.o.trans dm.o).drewN q)).drewN _)
    have t2:=ah ((m:Int)<(k:Int));have Qg:((s.take k).any fun b=>decide (b.name=s[k].name))=false:=by
     rw[List.any_eq_false];intro y hy;obtain⟨j,hj,rfl⟩:=aW.1 hy;have hjk:j<k:=by simp at hj;omega
     have:=qP.o j (by omega) (by omega);rw[yI hks] at this;simp[this]
    have HAK:=ai (show rY s k=iq s[k] by rw[HAI.o,bL (by rw[pX.o];simp),bL (by rw[Qg];simp)]);clear Qg hnb;go_wp2_with fail;refine(apV s[k] aw nw cw _ (H5.o.ext (dm.o.drewN q)) HFK.o).mono ?_;rintro e w' ⟨rfl,ng⟩;have rZ:=ai (((HX.o.trans dm.o).drewN q).trans ng);have CX:=ai (ng.blk (show (wa.drewN q).heap[w.heap.size]?=_ from fY.o));clear ng d0 df a0 a1 a2 a3 a4 af;by_cases hz:iq s[k]=0
    ·have tz:(iq s[k] != 0)=false:=by simp[hz]
     have HZ:=ai hz;clear hz;go_wp2_with fail;go_roundw
     case rel =>
      refine⟨k+1,by go_num,by omega,fun j hj=>?_,CX.o,rZ.o⟩;by_cases e:j=k
      ·subst e;rw[HAK.o];exact HZ.o
      exact jH.o j (by omega)
     case measure=>simp[intOf];omega
    have tz:(iq s[k] != 0)=true:=by simp[hz]
    have HR:=ai (show dy s=iq s[k] by
     rw[HE.o,rQ (k:=k) (by rw[HAK.o];exact hz) jH.o n hkn];exact HAK.o)
    clear hz;go_wp2_with fail;go_ret;exact cD (by rw[HR.o]) rZ.o
  have t1:=ah ((k:Int)<(n:Int));have HR:=ai (show dy s=0 by rw[HE.o,kz n fun j hj=>jH.o j (by omega)]);go_wp2_with fail;go_ret;exact cD (by rw[HR.o]) HX.o
theorem IL (s:List Attr) (v:Value) (x:BA) (w:World) (hs:dB w s v) (hl:s.length<=1000000000000000) :
  Calls Tryz.prog 104 #[v,.string x] w (cz (sX (eO s x)) w):=by
 obtain⟨a,n,c,rfl,hn,hnc,hoa,hat⟩:=hs.parts;have HS:=ai hs;have HN:=ai hn;have hn2:n<=1000000000000000:=by omega
 clear hs hn hat hnc hoa;go_enter Tryz.func104,Tryz.ntmps104
 go_wp2_with fail;go_loopw [11] (fun t wr=>∃k:Nat,t=.int .i64 k/\k<=n/\(∀j (h:j<s.length),j<k->decide (s[j].name=x)=false)/\Ext w wr) (fun t _=>n - (intOf t).toNat)
 case atStart=>exact⟨0,rfl,by omega,fun j _ h=>by omega,(Tz w).alloc _⟩
 case round =>
  obtain⟨k,rfl,hk,hno,hx⟩:=hrel;have jH:=ai hno;have HX:=ai hx;clear hno hx;by_cases hkn:k<n
  ·have hks:k<s.length:=by have:=HN.o;omega
   obtain⟨a',n',c',e',hx1,hx2,hx3,hat⟩:=(HS.o.ext HX.o).parts;simp only[a5b,a5d,a5c,a45,and_true] at e';obtain⟨rfl,rfl,rfl⟩:=e';clear hx1 hx2 hx3;obtain⟨b,off,rfl,aw,nw,cw,h0,h1,h2,h3,h4,h5⟩:=hat k hks;have t1:=ag ((k:Int)<(n:Int));cases he:(s[k].name.toList==x.toList)
   ·have HE:=ai (pP he);clear hat h5;go_wp2_with fail;go_roundw
    case rel =>
     refine⟨k+1,by go_num,by omega,fun j hj hjk=>?_,HX.o.alloc _⟩;by_cases e:j=k
     ·subst e;exact HE.o
     exact jH.o j hj (by omega)
    case measure=>simp[intOf];omega
   have HF:=ai (show eO s x=some k from KA hks (pP he) jH.o);clear hat h5;go_wp2_with fail
   go_ret2
   exact⟨by rw[sX,HF.o];rfl,HX.o.alloc _⟩
  have t1:=ah ((k:Int)<(n:Int));have HF:=ai (show eO s x=none from Fl fun j hj=>jH.o j hj (by have:=HN.o;omega));go_wp2_with fail
  go_ret2
  exact⟨by rw[sX,HF.o];rfl,HX.o⟩
theorem apx (l:List cK) (a:OA) (n c:Nat) (x:BA) (w:World) (hs:cZ w l a n c) (hl:n<=1000000000000000) :
  Calls Tryz.prog 107 #[.slice a n c,.string x] w (cz (sX (findAt l x)) w):=by
 have HS:=ai hs;have HN:=ai hs.len;clear hs;go_enter Tryz.func107,Tryz.ntmps107
 go_wp2_with fail;go_loopw [10] (fun t wr=>∃k:Nat,t=.int .i64 k/\k<=n/\(∀j (h:j<l.length),j<k->decide (l[j].name=x)=false)/\Ext w wr) (fun t _=>n - (intOf t).toNat)
 case atStart=>exact⟨0,rfl,by omega,fun j _ h=>by omega,Tz _⟩
 case round =>
  obtain⟨k,rfl,hk,hno,hx⟩:=hrel;have jH:=ai hno;have HX:=ai hx;clear hno hx;by_cases hkn:k<n
  ·have hks:k<l.length:=by have:=HN.o;omega
   obtain⟨b,off,v,rfl,fO,hrow⟩:=(HS.o.ext HX.o).at hks;obtain⟨c0,c1,c2,c3,c4,c5,c6,c7,c8,c9⟩:=hrow.BB;have hq2:=fO.2.1;rw[hq2] at c1;have t1:=ag ((k:Int)<(n:Int));cases he:(l[k].name.toList==x.toList)
   ·have HE:=ai (pP he);clear fO hrow hq2;go_wp2_with fail;go_roundw
    case rel =>
     refine⟨k+1,by go_num,by omega,fun j hj hjk=>?_,HX.o.alloc _⟩;by_cases e:j=k
     ·subst e;exact HE.o
     exact jH.o j hj (by omega)
    case measure=>simp[intOf];omega
   have HF:=ai (show findAt l x=some k from KA hks (pP he) jH.o);clear fO hrow hq2;go_wp2_with fail
   go_ret2
   exact⟨by rw[sX,HF.o];rfl,HX.o.alloc _⟩
  have t1:=ah ((k:Int)<(n:Int));have HF:=ai (show findAt l x=none from Fl fun j hj=>jH.o j hj (by have:=HN.o;omega));go_wp2_with fail
  go_ret2
  exact⟨by rw[sX,HF.o];rfl,HX.o⟩
def zv (l:ZB):Int:=if l.length=0 then 19 else if 12<l.length then 4 else if l.all gJ=false then 6 else if decide l.Nodup=false then 8 else 0
theorem an8 (a:Attr) (h:a.kind=1):iq a=if a.lo≠0\/a.hi≠0 then 20 else zv a.words:=by
 unfold iq zv;rw[bM h]
theorem auy {l:ZB} {k:Nat} (hk:k<l.length) (h:(l.take k).Nodup) (h2:l[k]∉l.take k):(l.take (k+1)).Nodup:=by
 rw[aO hk,List.nodup_append];exact⟨h,by simp,fun a ha b hb=>by simp at hb;subst hb;intro e;subst e;exact h2 ha⟩
theorem ayO {l:ZB} {k:Nat} (hk:k<l.length) (h:l[k]∈l.take k):¬l.Nodup:=by
 intro h4;have:(l.take (k+1)).Nodup:=h4.sublist (List.take_sublist _ _);rw[aO hk,List.nodup_append] at this;exact a40 rfl (this.2.2 _ h _ (by simp))
theorem amc (l:ZB) (a:OA) (n c:Nat) (w:World) (hl:fS w l a n c) (hn2:n<=1000000000000000) (hsz:∀x∈l,x.size<=1000000000000000) :
  Calls Tryz.prog 135 #[.slice a n c] w (pg (.int .i64 (zv l)) w):=by
 have HL:=ai hl;have HZ:=ai hsz;have HN:=ai hl.1;have hnc:=hl.2.1;clear hl hsz;by_cases h0:n=0
 ·have H:=ai (show zv l=19 by unfold zv;rw[bM (by have:=HN.o;omega)]);have hz:((n:Int)==0)=true:=by simp[h0]
  clear h0;go_enter Tryz.func135,Tryz.ntmps135
  go_wp2_with fail;go_ret;exact sZ (by rw[H.o])
 have hz:((n:Int)==0)=false:=by simp[h0]
 by_cases h12:12<n
 ·have H:=ai (show zv l=4 by unfold zv;rw[bL (by have:=HN.o;omega),bM (by have:=HN.o;omega)]);have t12:=ag ((12:Int)<(n:Int));go_enter Tryz.func135,Tryz.ntmps135
  go_wp2_with fail;go_ret;exact sZ (by rw[H.o])
 have t12:=ah ((12:Int)<(n:Int));have HE:=ai (show zv l=if l.all gJ=false then 6 else if decide l.Nodup=false then 8 else 0 by unfold zv;rw[bL (by have:=HN.o;omega),bL (by have:=HN.o;omega)]);obtain⟨E,hE⟩:∃E,E=zv l:=⟨_,rfl⟩
 rw[<-hE] at HE ⊢;clear hE;go_enter Tryz.func135,Tryz.ntmps135
 go_wp2_with fail
 go_loop [15] (fun t=>∃k:Nat,t=.int .i64 k/\k<=n/\∀j (h:j<l.length),j<k->gJ l[j]=true) (fun t=>n - (intOf t).toNat)
 case atStart=>exact⟨0,rfl,by omega,fun j _ h=>by omega⟩
 case round =>
  obtain⟨k,rfl,hk,hall⟩:=hrel;have HA:=ai hall;clear hall;by_cases hlt:k<n
  ·have hlt':k<l.length:=by have:=HN.o;omega
   have t1:=ag ((k:Int)<(n:Int));have hsk:=HZ.o _ (aD hlt');obtain⟨b,off,rfl,hcell⟩:=HL.o.2.2.2 k hlt';cases h3:gJ l[k]
   ·have H:=ai (show E=6 by
     rw[HE.o,bM];rw[List.all_eq_false];exact⟨l[k],aD hlt',by rw[h3];simp⟩)
    have H3:=ai h3;clear h3;go_wp2_with fail;refine(rN _ _ hsk).mono ?_;rintro e w' ⟨rfl,rfl⟩;rw[H3.o];go_wp2_with fail;go_ret;exact sZ (by rw[H.o])
   have H3:=ai h3;clear h3;go_wp2_with fail;refine(rN _ _ hsk).mono ?_;rintro e w' ⟨rfl,rfl⟩;rw[H3.o];go_wp2_with fail
   go_round
   case rel =>
    refine⟨k+1,by go_num,by omega,fun j hj hjk=>?_⟩;by_cases e:j=k
    ·subst e;exact H3.o
    exact HA.o j hj (by omega)
   case measure=>simp[intOf];omega
  have t1:=ah ((k:Int)<(n:Int));have kH:=ai (show E=if decide l.Nodup=false then 8 else 0 by
   rw[HE.o,bL];rw[Bool.not_eq_false,aP];intro x hx;obtain⟨j,hj,rfl⟩:=aW.1 hx;exact HA.o j hj (by have:=HN.o;omega))
  clear HE HA;go_wp2_with fail
  go_loop [25] (fun t=>∃k:Nat,t=.int .i64 k/\k<=n/\(l.take k).Nodup) (fun t=>n - (intOf t).toNat)
  case atStart=>exact⟨0,rfl,by omega,by simp⟩
  case round =>
   obtain⟨m,rfl,hm,hno⟩:=hrel;have jH:=ai hno;clear hno;by_cases hmt:m<n
   ·have aL0:m<l.length:=by have:=HN.o;omega
    have t2:=ag ((m:Int)<(n:Int));have HT:=ai (HL.o.take hm);obtain⟨b,off,rfl,hcell⟩:=HL.o.2.2.2 m aL0;by_cases h4:l[m]∈l.take m
    ·have H:=ai (show E=8 by rw[kH.o,bM (by simpa using ayO aL0 h4)]);have H4:=ai h4;clear h4;go_wp2_with fail;refine(pQ _ _ _ _ _ _ (by omega) HT.o).mono ?_;rintro e w' ⟨rfl,rfl⟩;rw[bO H4.o];go_wp2_with fail;go_ret;exact sZ (by rw[H.o])
    have H4:=ai h4;clear h4;go_wp2_with fail;refine(pQ _ _ _ _ _ _ (by omega) HT.o).mono ?_;rintro e w' ⟨rfl,rfl⟩;rw[bP H4.o];go_wp2_with fail
    go_round
    case rel=>exact⟨m+1,by go_num,by omega,auy aL0 jH.o H4.o⟩
    case measure=>simp[intOf];omega
   have t2:=ah ((m:Int)<(n:Int));have H:=ai (show E=0 by
    have h5:=jH.o;rw[aS (by have:=HN.o;omega)] at h5;rw[kH.o,bL (by simpa using h5)])
   go_wp2_with fail;go_ret;exact sZ (by rw[H.o])
theorem acN (n:Int):iM n=false ↔ n < -1000000000\/1000000000<n:=by simp[iM];omega
theorem apw (x:Attr) (aw:OA) (nw cw:Nat) (w:World) (hw:fS w x.words aw nw cw) (hf:x.fits) :
  Calls Tryz.prog 105 #[.agg #[.string x.name,.int .i64 x.kind,.slice aw nw cw,.int .i64 x.lo,.int .i64 x.hi]] w (cz (.int .i64 (iq x)) w):=by
 have HW:=ai hw;have HF:=ai hf;have hnw:=hw.1;have hnl:nw<=1000000000000000:=by rw[hnw];exact hf.2.1
 have RV:=ai hnw;clear hw hf hnw;obtain⟨name,kind,words,lo,hi⟩:=x;simp only at *;obtain⟨E,hE⟩:∃E,E=iq ⟨name,kind,words,lo,hi⟩:=⟨_,rfl⟩
 rw[<-hE];by_cases h1:kind=1
 ·subst h1;rw[an8 _ rfl] at hE;simp only at hE;have HE:=ai hE;clear hE;have HWC:=ai (amc words aw nw cw (w.alloc (.cells #[.string name,.int .i64 1,.slice aw nw cw,.int .i64 lo,.int .i64 hi] 101)) (HW.o.ext ((Tz w).alloc _)) hnl HF.o.2.2);by_cases hlo:lo=0
  ·have t1:(lo != 0)=false:=by simp[hlo]
   by_cases hhi:hi=0
   ·have t2:(hi != 0)=false:=by simp[hhi]
    have HQ:=ai (show E=zv words by rw[HE.o,bL (by simp[hlo,hhi])]);clear HE hlo hhi;go_enter Tryz.func105,Tryz.ntmps105
    go_wp2_with fail;refine HWC.o.mono ?_;rintro e w' ⟨rfl,rfl⟩;go_wp2_with fail;go_ret;exact cD (by rw[HQ.o]) ((Tz w).alloc _)
   have t2:(hi != 0)=true:=by simp[hhi]
   have HQ:=ai (show E=20 by rw[HE.o,bM (a4Z hhi)]);clear HE hlo hhi;go_enter Tryz.func105,Tryz.ntmps105
   go_wp2_with fail;go_ret;exact cD (by rw[HQ.o]) ((Tz w).alloc _)
  have t1:(lo != 0)=true:=by simp[hlo]
  have HQ:=ai (show E=20 by rw[HE.o,bM (aoX hlo)]);clear HE hlo;go_enter Tryz.func105,Tryz.ntmps105
  go_wp2_with fail;go_ret;exact cD (by rw[HQ.o]) ((Tz w).alloc _)
 have e1:(kind==1)=false:=by simp[h1]
 by_cases h2:kind=2
 ·subst h2;have HE:=ai (show E=if 0<nw then 20 else if hi<lo\/(lo < -1000000000\/1000000000<lo)\/(hi < -1000000000\/1000000000<hi) then 1 else 0 by
   rw[hE];have k1:=acN lo;have k2:=acN hi;simp only[iq,avl,Bool.not_eq_true',k1,k2];rw[bL (by omega),bM trivial,<-RV.o])
  clear hE;go_enter Tryz.func105,Tryz.ntmps105
  go_wp2_with fail
  all_goals (go_ret;exact cD (by rw[HE.o];simp_all<;>omega) ((Tz w).alloc _))
 have e2:(kind==2)=false:=by simp[h2]
 by_cases h3:kind=3
 ·subst h3;have HE:=ai (show E=if 0<nw\/lo≠0\/hi≠0 then 20 else 0 by
   rw[hE];simp only[iq];rw[bL (by omega),bL (by omega),bM trivial,<-RV.o])
  clear hE;go_enter Tryz.func105,Tryz.ntmps105
  go_wp2_with fail
  all_goals (go_ret;exact cD (by rw[HE.o];simp_all<;>omega) ((Tz w).alloc _))
 have e3:(kind==3)=false:=by simp[h3]
 have HE:=ai (show E=11 by
  rw[hE];simp only[iq];rw[bL h1,bL h2,bL h3])
 clear hE;go_enter Tryz.func105,Tryz.ntmps105
 go_wp2_with fail;go_ret;exact cD (by rw[HE.o]) ((Tz w).alloc _)
theorem aEL {s:List Attr} {k:Nat} (hk:k<s.length):∃f,eO s s[k].name=some f/\f<=k/\((s.take k).any (fun b=>decide (b.name=s[k].name))=decide (f<k)):=by
 cases h:eO s s[k].name with
 | none =>
  unfold eO at h;rw[bh] at h;have:=h s[k] (aD hk);simp at this
 | some f =>
  unfold eO at h;rw[aJ] at h;obtain⟨hf,h1,h2⟩:=h;have hfk:f<=k:=by
   rcases bJ k f with h3|h3
   ·have:=h2 k h3;simp at this
   exact h3
  refine⟨f,rfl,hfk,?_⟩;by_cases h3:f<k
  ·rw[bO h3,List.any_eq_true];exact⟨s[f],aW.2 ⟨f,by simp;omega,by simp⟩,h1⟩
  rw[bP h3,List.any_eq_false];intro y hy;obtain⟨j,hj,rfl⟩:=aW.1 hy;have hjk:j<k:=by simp at hj;omega
  have:=h2 j (by omega);simpa using this
theorem BG (s:List Attr) (v:Value) (w:World) (hs:dB w s v) (hf:∀x∈s,x.fits) (hl:s.length<=1000000000000000) :
  Calls Tryz.prog 77 #[v] w (cz (.int .i64 (dy s)) w):=by
 obtain⟨a,n,c,rfl,hn,hnc,hoa,hat⟩:=hs.parts;have HS:=ai hs;have HN:=ai hn;have HF:=ai hf;have hn2:n<=1000000000000000:=by omega
 clear hs hn hat hnc hoa hf;by_cases h0:n=0
 ·have t0:((n:Int)==0)=true:=by simp[h0]
  have HE:=ai (show dy s=19 by unfold dy;rw[<-HN.o,bM h0]);clear h0;go_enter Tryz.func77,Tryz.ntmps77
  go_wp2_with fail;go_ret;exact cD (by rw[HE.o]) ((Tz w).alloc _)
 have t0:((n:Int)==0)=false:=by simp[h0]
 by_cases h6:6<n
 ·have t6:=ag ((6:Int)<(n:Int));have HE:=ai (show dy s=4 by unfold dy;rw[<-HN.o,bL h0,bM h6]);go_enter Tryz.func77,Tryz.ntmps77
  go_wp2_with fail;go_ret;exact cD (by rw[HE.o]) ((Tz w).alloc _)
 have t6:=ah ((6:Int)<(n:Int));have HE:=ai (show dy s=(kZ (rY s) n).2 by unfold dy;rw[<-HN.o,bL h0,bL h6]);go_enter Tryz.func77,Tryz.ntmps77
 go_wp2_with fail;go_loopw [19] (aSh s n a c w) (fun t _=>n - (intOf t).toNat)
 case atStart=>exact⟨0,rfl,by omega,fun j h=>by omega,bR w _,(Tz w).alloc _⟩
 case round =>
  obtain⟨k,rfl,hk,hno,j6,hx⟩:=hrel;obtain⟨wo,rfl⟩:∃wo:World,wo=wr:=⟨_,rfl⟩
  have jH:=ai hno;have jm:=ai j6;have HX:=ai hx;obtain⟨bb0,bbf⟩:=dO j6;have lU:=bS j6;clear hno j6 hx;by_cases hkn:k<n
  ·have hks:k<s.length:=by have:=HN.o;omega
   obtain⟨a',n',c',e',hx1,hx2,hx3,hat⟩:=(HS.o.ext HX.o).parts;simp only[a5b,a5d,a5c,a45,and_true] at e';obtain⟨rfl,rfl,rfl⟩:=e';clear hx1 hx2 hx3;obtain⟨b,off,rfl,aw,nw,cw,h0,h1,h2,h3,h4,h5⟩:=hat k hks;have H5:=ai h5;have t1:=ag ((k:Int)<(n:Int));have hfk:=HF.o _ (aD hks);have hfn:=hfk.1;have HFK:=ai hfk;obtain⟨f,qx,a3Q,aKb⟩:=aEL hks;have HAI:=ai (show rY s k=if gJ s[k].name=false then 6 else if decide (f<k)=true then 8 else iq s[k] by unfold rY;rw[yI hks,aKb]);have AD:=ai qx;clear hat h5 hfk qx aKb;obtain⟨wa,cN⟩:∃wa,wa=wo.alloc (.cells #[.string s[k].name,.int .i64 s[k].kind,.slice aw nw cw,.int .i64 s[k].lo,.int .i64 s[k].hi] 101):=⟨_,rfl⟩
   have gB:Ext wo wa:=by rw[cN];exact(Tz _).alloc _
   have hba:wa.heap[wo.heap.size]?=some (.cells #[.string s[k].name,.int .i64 s[k].kind,.slice aw nw cw,.int .i64 s[k].lo,.int .i64 s[k].hi] 101 (0,0)):=by rw[cN];exact bR wo _
   have dm:=ai gB;have oF:=ai hba;have fY:=ai (gB.blk jm.o);clear gB hba;cases hnb:gJ s[k].name
   ·have pX:=ai hnb;have HR:=ai (show dy s=6 by
     rw[HE.o,rQ (k:=k) (by rw[HAI.o,bM hnb];omega) jH.o n hkn]
     show rY s k=6
     rw[HAI.o,bM hnb])
    clear hnb HE;go_wp2_with fail;rw[<-cN];clear cN;refine(rN _ _ hfn).mono ?_;rintro e w' ⟨rfl,rfl⟩;rw[pX.o];go_wp2_with fail;go_ret;exact cD (by rw[HR.o]) (HX.o.trans dm.o)
   have pX:=ai hnb;rw[hnb] at HAI;simp only[Bool.true_eq_false,if_false] at HAI;clear hnb;go_wp2_with fail;rw[<-cN];clear cN h0 h1 h2 h3 h4 bb0 bbf;refine(rN _ _ hfn).mono ?_;rintro e w' ⟨rfl,rfl⟩;rw[pX.o];obtain⟨d0,df⟩:=dO fY.o;obtain⟨a0,a1,a2,a3,a4,af⟩:=ar7 oF.o;have au3:=bS oF.o;go_wp2_with fail;refine(IL s _ s[k].name _ (HS.o.ext (HX.o.trans dm.o)) hl).mono ?_;rintro e w5 ⟨rfl,dh⟩;rw[AD.o,show sX (some f)=.tuple #[.int .i64 f,.bool true] from rfl];have gW:=ai ((HX.o.trans dm.o).trans dh);have uo:=ai (dh.blk fY.o);have aUU:=ai (dh.blk oF.o);have H55:=ai (H5.o.ext (dm.o.trans dh));clear dh d0 df a0 a1 a2 a3 a4 af au3;obtain⟨a0,a1,a2,a3,a4,af⟩:=ar7 aUU.o;have au3:=bS aUU.o;by_cases hfk:f<k
   ·have t2:=ag ((f:Int)<(k:Int));have HR:=ai (show dy s=8 by
     have h8:rY s k=8:=by rw[HAI.o,bM (by simpa using hfk)]
     rw[HE.o,rQ (k:=k) (by rw[h8];omega) jH.o n hkn];exact h8)
    clear HE;go_wp2_with fail;go_ret;exact cD (by rw[HR.o]) gW.o
   have t2:=ah ((f:Int)<(k:Int));have HAK:=ai (show rY s k=iq s[k] by rw[HAI.o,bL (by simpa using hfk)]);go_wp2_with fail;refine(apw s[k] aw nw cw _ H55.o HFK.o).mono ?_;rintro e w' ⟨rfl,ng⟩;have rZ:=ai (gW.o.trans ng);have CX:=ai (ng.blk uo.o);clear ng a0 a1 a2 a3 a4 af au3;by_cases hz:iq s[k]=0
   ·have tz:(iq s[k] != 0)=false:=by simp[hz]
    have HZ:=ai hz;clear hz;go_wp2_with fail;go_roundw
    case rel =>
     refine⟨k+1,by go_num,by omega,fun j hj=>?_,CX.o,rZ.o⟩;by_cases e:j=k
     ·subst e;rw[HAK.o];exact HZ.o
     exact jH.o j (by omega)
    case measure=>simp[intOf];omega
   have tz:(iq s[k] != 0)=true:=by simp[hz]
   have HR:=ai (show dy s=iq s[k] by
    rw[HE.o,rQ (k:=k) (by rw[HAK.o];exact hz) jH.o n hkn];exact HAK.o)
   clear hz;go_wp2_with fail;go_ret;exact cD (by rw[HR.o]) rZ.o
  have t1:=ah ((k:Int)<(n:Int));have HR:=ai (show dy s=0 by rw[HE.o,kz n fun j hj=>jH.o j (by omega)]);go_wp2_with fail;go_ret;exact cD (by rw[HR.o]) HX.o
def dG (w:World) (f:ZI) (a:OA) (n:Nat):Prop:=n=f.length/\∀i (h:i<f.length),∃b off,a=some ⟨b,off,none⟩/\w.cell? ⟨b,off+i,none⟩=some (.int .i64 f[i])
theorem dG.mono {w w':World} {f:ZI} {a:OA} {n:Nat} (h:dG w f a n) (hs:Sub w w'):dG w' f a n:=⟨h.1,fun i hi=>by obtain⟨b,off,e,hc⟩:=h.2 i hi;exact⟨b,off,e,hs _ _ hc⟩⟩
theorem dG.ext {w w':World} {f:ZI} {a:OA} {n:Nat} (h:dG w f a n) (he:Ext w w'):dG w' f a n:=h.mono he.sub
def ab0 (a:Attr):Value:=.tuple #[.int .i64 (yS a).1,.int .i64 (yS a).2]
theorem Wx {s:List Attr} {f:ZI} {k:Nat} (hk:k<s.length) (hj:k<f.length) (h:f[k]<(yS s[k]).1\/(yS s[k]).2<f[k]):fW s f=false:=by
 cases hf:fW s f
 ·rfl
 have:=TP hf k hk hj;omega
theorem TN {s:List Attr} {f:ZI} (h:f.length≠s.length):fW s f=false:=by
 cases hf:fW s f
 ·rfl
 exact a40 (kA hf) h
theorem U7 {s:List Attr} {f:ZI} (h:fW s f=true) {i:Nat} (hi:i<s.length):∃h2:i<f.length,(yS s[i]).1<=f[i]/\f[i]<=(yS s[i]).2:=by
 have h2:i<f.length:=by rw[kA h];exact hi
 exact⟨h2,TP h i hi h2⟩
theorem QT.five {w:World} {x:Attr} {b off:Nat} (h:QT w x b off):∃aw nw cw,fS w x.words aw nw cw/\∀W,Ext w W->W.cell? ⟨b,off,none⟩=some (.string x.name)/\W.cell? ⟨b,off+1,none⟩=some (.int .i64 x.kind)/\W.cell? ⟨b,off+2,none⟩=some (.slice aw nw cw)/\W.cell? ⟨b,off+3,none⟩=some (.int .i64 x.lo)/\W.cell? ⟨b,off+4,none⟩=some (.int .i64 x.hi):=by
 obtain⟨aw,nw,cw,g0,g1,g2,g3,g4,g5⟩:=h;exact⟨aw,nw,cw,g5,fun W hW=>⟨hW.cell g0,hW.cell g1,hW.cell g2,hW.cell g3,hW.cell g4⟩⟩
theorem V8 (s:List Attr) (v:Value) (i:Nat) (w:World) (hs:dB w s v) (hf:∀x∈s,x.fits) (hl:s.length<=1000000000000000) (h0:dy s=0) (hi:i<s.length) :
  Calls Tryz.prog 65 #[v,.int .i64 (i:Nat)] w (cz (ab0 s[i]) w):=by
 obtain⟨q1,q2,q3⟩:=iQ h0;obtain⟨-,-,-,hk,-⟩:=ahF (q3 i hi).1;obtain⟨a,n,c,rfl,hn,hnc,hoa,hat⟩:=hs.parts;obtain⟨b,off,rfl,hA⟩:=hat i hi;obtain⟨aw,nw,cw,Hx,TF⟩:=hA.five;have HG:=ai TF;have HR:=ai (fun W (hW:Ext w W)=>Bi s _ W (hs.ext hW) hf hl);rw[h0] at HR;have t0:=ah ((i:Int)<0);have t1:=ah ((n:Int)<=(i:Int));have hin:i<n:=by omega
 have hn2:n<=1000000000000000:=by omega
 have hnw:nw<=1000000000000000:=by rw[Hx.1];exact(hf _ (aD hi)).2.1
 have RV:=ai Hx.1;clear hs hn hnc hoa hf h0 q1 q2 q3 hat hA Hx TF;obtain⟨x,hx⟩:∃x,x=s[i]:=⟨_,rfl⟩
 rw[<-hx] at hk HG RV ⊢;clear hx;obtain⟨wa,cN⟩:∃wa,wa=w.alloc (.cells #[.slice (some ⟨b,off,none⟩) n c] 24):=⟨_,rfl⟩
 have gB:Ext w wa:=by rw[cN];exact(Tz _).alloc _
 have hb0:wa.heap[w.heap.size]?=some (.cells #[.slice (some ⟨b,off,none⟩) n c] 24 (0,0)):=by rw[cN];exact bR w _
 have dm:=ai gB;have iO:=ai hb0;clear gB hb0;have GG:((x.kind==1)=true/\ab0 x=.tuple #[.int .i64 0,.int .i64 ((nw:Int) - 1)])\/((x.kind==1)=false/\(x.kind==2)=true/\ab0 x=.tuple #[ x.lo,x.hi])\/((x.kind==1)=false/\(x.kind==2)=false/\ab0 x=.tuple #[.int .i64 0,.int .i64 1]):=by
  unfold ab0 yS;rcases hk with hk|hk|hk
  ·exact aoX ⟨by simp[hk],by rw[bM hk,RV.o]⟩
  ·exact a4Z (aoX ⟨by simp[hk],by simp[hk],by rw[bL (by omega),bM hk]⟩)
  exact a4Z (a4Z ⟨by simp[hk],by simp[hk],by rw[bL (by omega),bL (by omega)]⟩)
 clear hk;rcases GG with ⟨e1,hv⟩|⟨e1,e2,hv⟩|⟨e1,e2,hv⟩
 all_goals
  have HV:=ai hv;clear hv;obtain⟨a0,af⟩:=dO iO.o;go_enter Tryz.func65,Tryz.ntmps65
  go_upto_region 1 with fail;rw[<-cN];clear cN;go_wp2_with fail;refine(HR.o wa dm.o).mono ?_;rintro r w3 ⟨rfl,hx3⟩;have dS:=ai (dm.o.trans hx3);obtain⟨d0,df⟩:=dO (hx3.blk iO.o);obtain⟨g0,g1,g2,g3,g4⟩:=HG.o w3 dS.o;clear hx3 a0 af iO;go_wp2_with fail
  try go_quiet (fail)
  try go_wp2_with fail
  go_ret2
  exact⟨by rw[HV.o];rfl,by first|exact(dS.o.alloc _).drewN _|exact dS.o.alloc _⟩
def aVf (s:List Attr) (f:ZI) (n:Nat) (bs:Nat) (o:Obj) (w:World) (t:Value) (wr:World):Prop:=∃k:Nat,t=.int .i64 k/\k<=n/\(∀i (hi:i<s.length) (hj:i<f.length),i<k->(yS s[i]).1<=f[i]/\f[i]<=(yS s[i]).2)/\wr.heap[bs]?=some o/\Ext w wr
theorem aiv (x:Attr) (aw:OA) (nw cw:Nat) (w:World) (hn:nw=x.words.length) (hnw:nw<=1000000000000000) (hk:x.kind=1\/x.kind=2\/x.kind=3) :
  Calls Tryz.prog 84 #[.agg #[.string x.name,x.kind,.slice aw nw cw,x.lo,x.hi]] w (cz (ab0 x) w):=by
 have GG:((x.kind==1)=true/\ab0 x=.tuple #[.int .i64 0,.int .i64 ((nw:Int) - 1)])\/((x.kind==1)=false/\(x.kind==2)=true/\ab0 x=.tuple #[ x.lo,x.hi])\/((x.kind==1)=false/\(x.kind==2)=false/\ab0 x=.tuple #[.int .i64 0,.int .i64 1]):=by
  unfold ab0 yS;rcases hk with hk|hk|hk
  ·exact aoX ⟨by simp[hk],by rw[bM hk,hn]⟩
  ·exact a4Z (aoX ⟨by simp[hk],by simp[hk],by rw[bL (by omega),bM hk]⟩)
  exact a4Z (a4Z ⟨by simp[hk],by simp[hk],by rw[bL (by omega),bL (by omega)]⟩)
 clear hk hn;rcases GG with ⟨e1,hv⟩|⟨e1,e2,hv⟩|⟨e1,e2,hv⟩
 all_goals
  have HV:=ai hv;clear hv;go_enter Tryz.func84,Tryz.ntmps84
  go_wp2_with fail
  try go_quiet (fail)
  try go_wp2_with fail
  go_ret2
  exact⟨by rw[HV.o];rfl,by first|exact((Tz w).alloc _).drewN _|exact(Tz w).alloc _⟩
theorem Ph (s:List Attr) (v:Value) (f:ZI) (fa:OA) (fn fc:Nat) (w:World) (hs:dB w s v) (hf:∀x∈s,x.fits) (hl:s.length<=1000000000000000) (hi:dG w f fa fn) (hfn:fn<=1000000000000000) :
  Calls Tryz.prog 57 #[v,.slice fa fn fc] w (cz (.bool (jU s f)) w):=by
 obtain⟨a,n,c,rfl,hn,hnc,hoa,hat⟩:=hs.parts;have HR:=ai (fun W (hW:Ext w W)=>BG s _ W (hs.ext hW) hf hl);have qE:=ai hat;have HN:=ai hn;have HF:=ai hf;have HI:=ai hi;have HFN:=ai hi.1;obtain⟨B,hB⟩:∃B,B=jU s f:=⟨_,rfl⟩
 rw[<-hB];have HB:=ai (show B=(decide (dy s=0)&&fW s f) from hB);have hn2:n<=1000000000000000:=by omega
 clear hs hn hnc hoa hat hf hi hB;obtain⟨wa,cN⟩:∃wa,wa=w.alloc (.cells #[.slice a n c] 24):=⟨_,rfl⟩
 have gB:Ext w wa:=by rw[cN];exact(Tz _).alloc _
 have hb0:wa.heap[w.heap.size]?=some (.cells #[.slice a n c] 24 (0,0)):=by rw[cN];exact bR w _
 have dm:=ai gB;have iO:=ai hb0;clear gB hb0;obtain⟨E,hE⟩:∃E,E=dy s:=⟨_,rfl⟩
 rw[<-hE] at HR HB;have HEE:=ai hE;clear hE;obtain⟨a0,af⟩:=dO iO.o;by_cases hz:E=0
 case neg =>
  have tz:(E != 0)=true:=by simp[hz]
  have HQ:=ai (show B=false by rw[HB.o];simp[hz]);clear hz;go_enter Tryz.func57,Tryz.ntmps57
  go_upto_region 1 with fail;rw[<-cN];clear cN;go_wp2_with fail;refine(HR.o wa dm.o).mono ?_;rintro r w3 ⟨rfl,hx3⟩;have dS:=ai (dm.o.trans hx3);clear hx3 a0 af iO;go_wp2_with fail;go_ret;exact bW (by rw[HQ.o]) dS.o
 have tz:(E != 0)=false:=by simp[hz]
 have fY:=ai (show B=fW s f by rw[HB.o];simp[hz]);have HSA:=ai (iQ (s:=s) (by rw[<-HEE.o];exact hz));clear hz HB HEE;by_cases hlen:fn=n
 case neg =>
  have tl:((fn:Int) != (n:Int))=true:=by simp;omega
  have HQ:=ai (show B=false by rw[fY.o];exact TN (by rw[<-HN.o,<-HFN.o];exact hlen));clear hlen;go_enter Tryz.func57,Tryz.ntmps57
  go_upto_region 1 with fail;rw[<-cN];clear cN;go_wp2_with fail;refine(HR.o wa dm.o).mono ?_;rintro r w3 ⟨rfl,hx3⟩;have dS:=ai (dm.o.trans hx3);obtain⟨d0,df⟩:=dO (hx3.blk iO.o);clear hx3 a0 af iO;go_wp2_with fail;go_ret;exact bW (by rw[HQ.o]) dS.o
 subst hlen;have tl:((fn:Int) != (fn:Int))=false:=by simp
 have tY:=ai (show f.length=s.length by rw[<-HN.o,<-HFN.o]);go_enter Tryz.func57,Tryz.ntmps57
 go_upto_region 1 with fail;rw[<-cN];clear cN;go_wp2_with fail;refine(HR.o wa dm.o).mono ?_;rintro r w3 ⟨rfl,hx3⟩;have dS:=ai (dm.o.trans hx3);have nU:=ai (hx3.blk iO.o);obtain⟨d0,df⟩:=dO (hx3.blk iO.o);clear hx3 a0 af iO;go_wp2_with fail;clear d0 df;go_loopw [22] (aVf s f fn w.heap.size (.cells #[.slice a fn c] 24 (0,0)) w) (fun t _=>fn - (intOf t).toNat)
 case atStart=>exact⟨0,rfl,by omega,fun i _ _ h=>by omega,nU.o,dS.o⟩
 case round =>
  obtain⟨k,rfl,hk,hno,j6,hx⟩:=hrel;have jH:=ai hno;have jm:=ai j6;have HX:=ai hx;obtain⟨d0,df⟩:=dO j6;clear hno j6 hx;by_cases hkn:k<fn
  ·have t1:=ag ((k:Int)<(fn:Int));have hks:k<s.length:=by rw[<-HN.o];exact hkn
   have Yx:k<f.length:=by rw[<-HFN.o];exact hkn
   obtain⟨b,off,rfl,hA⟩:=qE.o k hks;obtain⟨aw,nw,cw,Hx,TF⟩:=hA.five;obtain⟨g0,g1,g2,g3,g4⟩:=TF wr HX.o;have yz:=ai (fun W=>aiv s[k] aw nw cw W Hx.1 (by rw[Hx.1];exact(HF.o _ (aD hks)).2.1) (ahF (HSA.o.2.2 k hks).1).2.2.2.1);unfold ab0 at yz;obtain⟨fb,fo,rfl,hcell⟩:=HI.o.2 k Yx;have XI:=HX.o.cell hcell;obtain⟨z,hz⟩:∃z,z=f[k]:=⟨_,rfl⟩
   obtain⟨lo,hlo⟩:∃lo,lo=(yS s[k]).1:=⟨_,rfl⟩
   obtain⟨hi,hhi⟩:∃hi,hi=(yS s[k]).2:=⟨_,rfl⟩
   rw[<-hz] at XI;rw[<-hlo,<-hhi] at yz;have HZ:=ai hz;have Vp:=ai hlo;have HHI:=ai hhi;clear hcell hz hlo hhi hA Hx TF;go_wp2_with fail;refine(yz.o _).mono ?_;rintro r w5 ⟨rfl,dh⟩;have gW:=ai (HX.o.trans dh);have uo:=ai (dh.blk jm.o);clear dh d0 df yz;by_cases h1:z<lo\/hi<z
   ·have HQ:=ai (show B=false by rw[fY.o];exact Wx hks Yx (by rw[<-HZ.o,<-Vp.o,<-HHI.o];exact h1));by_cases h2:z<lo
    ·have t2:=ag (z<lo) h2;clear h1 h2;go_wp2_with fail;go_ret;exact bW (by rw[HQ.o]) gW.o
    have t2:=ah (z<lo) h2;have t3:=ag (hi<z);clear h1 h2;go_wp2_with fail;go_ret;exact bW (by rw[HQ.o]) gW.o
   have t2:=ah (z<lo);have t3:=ah (hi<z);have zm:=ai (show (yS s[k]).1<=f[k]/\f[k]<=(yS s[k]).2 by rw[<-HZ.o,<-Vp.o,<-HHI.o];omega);clear h1;go_wp2_with fail;go_roundw
   case rel =>
    refine⟨k+1,by go_num,by omega,fun i hi hj hik=>?_,uo.o,gW.o⟩;by_cases e:i=k
    ·subst e;exact zm.o
    exact jH.o i hi hj (by omega)
   case measure=>simp[intOf];omega
  have t1:=ah ((k:Int)<(fn:Int));have HQ:=ai (show B=true by rw[fY.o];exact Mg tY.o fun i hi hj=>jH.o i hi hj (by have:=HFN.o;omega));go_wp2_with fail;go_ret;exact bW (by rw[HQ.o]) HX.o
theorem cT {w:World} {o:Obj} {n:Nat} (h:n=w.heap.size):(w.alloc o).heap[n]?=some o:=by subst h;exact bR w o
theorem Al:sX none=.tuple #[.int .i64 0,.bool false]:=rfl
theorem nX (i:Nat):sX (some i)=.tuple #[.int .i64 i,.bool true]:=rfl
theorem JD {s:List Attr} {x:BA} {i:Nat} (h:eO s x=some i):i<s.length:=by
 unfold eO at h;rw[aJ] at h;exact h.1
theorem dB.cells {w:World} {s:List Attr} {a:OA} {n c:Nat} (h:dB w s (.agg #[.slice a n c])) {i:Nat} (hi:i<s.length):∃b off aw nw cw,a=some ⟨b,off,none⟩/\w.cell? ⟨b,off+i*5,none⟩=some (.string s[i].name)/\w.cell? ⟨b,off+i*5+1,none⟩=some (.int .i64 s[i].kind) /\
  w.cell? ⟨b,off+i*5+2,none⟩=some (.slice aw nw cw)/\w.cell? ⟨b,off+i*5+3,none⟩=some (.int .i64 s[i].lo)/\w.cell? ⟨b,off+i*5+4,none⟩=some (.int .i64 s[i].hi)/\fS w s[i].words aw nw cw:=by
 obtain⟨a',n',c',e',_,_,_,hat⟩:=h.parts;simp only[a5b,a5d,a5c,a45,and_true] at e';obtain⟨rfl,rfl,rfl⟩:=e';obtain⟨b,off,rfl,aw,nw,cw,h0,h1,h2,h3,h4,h5⟩:=hat i hi;exact⟨b,off,aw,nw,cw,rfl,h0,h1,h2,h3,h4,h5⟩
theorem dB.slice {w:World} {s:List Attr} {v:Value} (h:dB w s v):∃a n c,v=.agg #[.slice a n c]/\n=s.length:=by
 obtain⟨a,n,c,rfl,hn,_⟩:=h.parts;exact⟨a,n,c,rfl,hn⟩
theorem afn (s:List Attr) (sv:Value) (l:List cK) (a:OA) (n c:Nat) (e:Ex) (ev:Value) (w:World) (hs:dB w s sv) (hf:∀x∈s,x.fits) (hsl:s.length<=1000000000000000) (hl:cZ w l a n c) (hn:n<=1000000000000000) (he:dw w e ev) (hew:e.words.length<=1000000000000000) :
  Calls Tryz.prog 123 #[sv,.slice a n c,ev] w (cz (.int .i64 (fB s l e.op e.name e.words e.lo e.hi)) w):=by
 obtain⟨sa,sn,sc,rfl,B6⟩:=hs.slice;obtain⟨aw,nw,cw,aa,na,ca,rfl,hw,hna,hca,ha,hx⟩:=he.parts;have HS:=ai hs;have HF:=ai hf;have HL:=ai hl;have HW:=ai hw;have K8:=ai B6;have RV:=ai hw.1;have hnw:nw<=1000000000000000:=by rw[hw.1];exact hew
 have aQg:sn<=1000000000000000:=by omega
 clear hs hf hl hw B6 he hna hca ha hx hew;unfold fN;obtain⟨op,name,words,lo,hi,args⟩:=e;simp only[Ex.op,Ex.name,Ex.words,Ex.lo,Ex.hi] at *;obtain⟨wa,cN⟩:∃wa,wa=(w.alloc (.cells #[.slice sa sn sc] 24)).alloc (.cells #[.int .i64 op,.string name,.slice aw nw cw,.int .i64 lo,.int .i64 hi,.slice aa na ca] 45):=⟨_,rfl⟩
 have gB:Ext w wa:=by rw[cN];exact((Tz _).alloc _).alloc _
 have hb0:wa.heap[w.heap.size]?=some (.cells #[.slice sa sn sc] 24 (0,0)):=by rw[cN];exact bU (bR w _)
 have hb1:wa.heap[w.heap.size+1]?=some (.cells #[.int .i64 op,.string name,.slice aw nw cw,.int .i64 lo,.int .i64 hi,.slice aa na ca] 45 (0,0)):=by rw[cN];exact cT (by simp)
 have HI:=ai (Ai s _ name wa (HS.o.ext gB) (by have:=K8.o;omega));have dm:=ai gB;have iO:=ai hb0;have gG:=ai hb1;clear gB hb0 hb1;obtain⟨E,hE⟩:∃E,E=fB s l op name words lo hi:=⟨_,rfl⟩
 rw[<-hE];have HE:=ai hE;clear hE;cases ho:eO s name with
 | none =>
  rw[ho,Al] at HI;have HO:=ai ho;go_enter Tryz.func123,Tryz.ntmps123
  go_wp2_with fail;rw[<-cN];refine HI.o.mono ?_;rintro r w3 ⟨rfl,hx3⟩;obtain⟨d0,df⟩:=dO (hx3.blk iO.o);obtain⟨f0,f1,f2,f3,f4,f5,ff⟩:=cX (hx3.blk gG.o);have hlt:=bS (hx3.blk gG.o);have dS:=ai (dm.o.trans hx3);clear hx3 ho HI;by_cases h3:op=3
  ·subst h3;cases hd:dz l name with
   | none =>
    have HR:=ai (show E=7 by rw[HE.o];simp[fB,HO.o,hd]);have HD:=ai (xB l a n c name w3 (HL.o.ext dS.o) hn);rw[hd,Al] at HD;clear hd;go_wp2_with fail;refine HD.o.mono ?_;rintro r w4 ⟨rfl,rfl⟩;go_wp2_with fail;go_ret;exact cD (by rw[HR.o]) dS.o
   | some d =>
    have HR:=ai (show E=0 by rw[HE.o];simp[fB,HO.o,hd]);have HD:=ai (xB l a n c name w3 (HL.o.ext dS.o) hn);rw[hd,nX] at HD;clear hd;go_wp2_with fail;refine HD.o.mono ?_;rintro r w4 ⟨rfl,rfl⟩;go_wp2_with fail;go_ret;exact cD (by rw[HR.o]) dS.o
  have e3:(op==3)=false:=by simp[h3]
  by_cases h4:op=4
  ·subst h4;have HR:=ai (show E=7 by rw[HE.o];simp[fB,HO.o]);go_wp2_with fail;go_ret;exact cD (by rw[HR.o]) dS.o
  have e4:(op==4)=false:=by simp[h4]
  by_cases h5:op=5
  ·subst h5;have HR:=ai (show E=7 by rw[HE.o];simp[fB,HO.o]);go_wp2_with fail;go_ret;exact cD (by rw[HR.o]) dS.o
  have e5:(op==5)=false:=by simp[h5]
  have HR:=ai (show E=0 by rw[HE.o];simp[fB,h3,h4,h5]);go_wp2_with fail;go_ret;exact cD (by rw[HR.o]) dS.o
 | some i =>
  rw[ho,nX] at HI;have HO:=ai ho;have GI:=JD ho;have hin:i<sn:=by have:=K8.o;omega
  go_enter Tryz.func123,Tryz.ntmps123
  go_wp2_with fail;rw[<-cN];refine HI.o.mono ?_;rintro r w3 ⟨rfl,hx3⟩;obtain⟨d0,df⟩:=dO (hx3.blk iO.o);obtain⟨f0,f1,f2,f3,f4,f5,ff⟩:=cX (hx3.blk gG.o);have hlt:=bS (hx3.blk gG.o);have dS:=ai (dm.o.trans hx3);have nW:=ai (hx3.blk gG.o);obtain⟨sb,aPD,xw,xn,xc,rfl,g0,g1,g2,g3,g4,g5⟩:=(HS.o.ext dS.o).cells GI;have N6:=ai g5;have R9:=ai (yI GI);have Sc:(0:Int)<=(i:Int):=by omega
  have ti1:(i:Int)<(sn:Int):=by omega
  have ZZ:=HF.o _ (aD GI);have Wm:xn<=1000000000000000:=by rw[g5.1];exact ZZ.2.1
  clear hx3 ho HI g5 ZZ;by_cases h3:op=3
  ·subst h3;have HD:=ai (xB l a n c name w3 (HL.o.ext dS.o) hn);by_cases hk:s[i].kind=3
   ·have tk:(s[i].kind != 3)=false:=by simp[hk]
    have HR:=ai (show E=0 by rw[HE.o];simp only[fB,if_true,HO.o,R9.o];simp[hk]);clear hk;go_wp2_with fail;refine HD.o.mono ?_;rintro r w4 ⟨rfl,rfl⟩;unfold sX;go_wp2_with fail;go_ret;exact cD (by rw[HR.o]) dS.o
   have tk:(s[i].kind != 3)=true:=by simp[hk]
   have HR:=ai (show E=9 by rw[HE.o];simp only[fB,if_true,HO.o,R9.o];simp[hk]);clear hk;go_wp2_with fail;refine HD.o.mono ?_;rintro r w4 ⟨rfl,rfl⟩;unfold sX;go_wp2_with fail;go_ret;exact cD (by rw[HR.o]) dS.o
  have e3:(op==3)=false:=by simp[h3]
  by_cases h4:op=4
  ·subst h4;by_cases hk:s[i].kind=1
   ·have tk:(s[i].kind != 1)=false:=by simp[hk]
    have HR:=ai (show E=if (words.all fun x=>s[i].words.any fun y=>decide (y=x))=false then 7 else 0 by rw[HE.o];simp only[fB,HO.o,R9.o];simp[hk]);clear hk;go_upto_region 15 with fail;obtain⟨wb,iV⟩:∃wb,wb=w3.alloc (.cells #[.string s[i].name,.int .i64 s[i].kind,.slice xw xn xc,.int .i64 s[i].lo,.int .i64 s[i].hi] 101):=⟨_,rfl⟩
    rw[<-iV];have hxb:Ext w3 wb:=by rw[iV];exact(Tz _).alloc _
    have hbb:wb.heap[w3.heap.size]?=some (.cells #[.string s[i].name,.int .i64 s[i].kind,.slice xw xn xc,.int .i64 s[i].lo,.int .i64 s[i].hi] 101 (0,0)):=by rw[iV];exact bR w3 _
    have jL:=ai hbb;have jO:=ai (hxb.blk nW.o);have jK:=ai (dS.o.trans hxb);have HGB:=ai (N6.o.ext hxb);have HWB:=ai (HW.o.ext jK.o);clear iV hxb hbb d0 df f0 f1 f2 f3 f4 f5 ff g0 g1 g2 g3 g4 N6;go_wp2_with fail;go_loopw [12] (fun t wr=>∃k:Nat,t=.int .i64 k/\k<=nw/\(∀j (h:j<words.length),j<k->(s[i].words.any fun y=>decide (y=words[j]))=true)/\Ext wb wr) (fun t _=>nw - (intOf t).toNat)
    case atStart=>exact⟨0,rfl,by omega,fun j _ h=>by omega,Tz _⟩
    case round =>
     obtain⟨k,rfl,hk,hall,lM⟩:=hrel;have mK:=ai hall;have gZ:=ai lM;obtain⟨p0,p1,p2,p3,p4,pf⟩:=ar7 (lM.blk jL.o);obtain⟨q0,q1,q2,q3,q4,q5,qf⟩:=cX (lM.blk jO.o);clear hall lM;by_cases hkn:k<nw
     ·have hkw:k<words.length:=by have:=RV.o;omega
      have t1:=ag ((k:Int)<(nw:Int));obtain⟨wb',aVx,rfl,cw0⟩:=(HWB.o.ext gZ.o).2.2.2 k hkw;have tk0:(0:Int)<=(k:Int):=by omega
      have tk1:(k:Int)<(nw:Int):=by omega
      have HWI:=ai (fun (q:Nat)=>MH s[i].words xw xn xc words[k] (wr.drewN q) (HGB.o.ext (gZ.o.drewN q)) Wm);cases Qg:(s[i].words.any fun y=>decide (y=words[k]))
      ·have HA:=ai Qg;rw[Qg] at HWI;have jI:=ai (show E=7 by
        rw[HR.o,bM];rw[List.all_eq_false];exact⟨words[k],aD hkw,by rw[Qg];simp⟩)
       clear Qg;go_wp2_with fail;go_quiet ((go_at_call 158;exact Gt (HWI.o _)))
       go_wp2_with fail;go_ret;exact cD (by rw[jI.o]) ((jK.o.trans gZ.o).drewN _)
      have HA:=ai Qg;rw[Qg] at HWI;clear Qg;go_wp2_with fail;go_quiet ((go_at_call 158;exact Gt (HWI.o _)))
      go_wp2_with fail;go_roundw
      case rel =>
       refine⟨k+1,by go_num,by omega,fun j hj hjk=>?_,gZ.o.drewN _⟩;by_cases e:j=k
       ·subst e;exact HA.o
       exact mK.o j hj (by omega)
      case measure=>simp[intOf];omega
     have t1:=ah ((k:Int)<(nw:Int));have jI:=ai (show E=0 by
      rw[HR.o,bL];rw[Bool.not_eq_false,aP];intro y hy;obtain⟨j,hj,rfl⟩:=aW.1 hy;exact mK.o j hj (by have:=RV.o;omega))
     go_wp2_with fail;go_ret;exact cD (by rw[jI.o]) (jK.o.trans gZ.o)
   have tk:(s[i].kind != 1)=true:=by simp[hk]
   have HR:=ai (show E=9 by rw[HE.o];simp only[fB,HO.o,R9.o];simp[hk]);clear hk;go_wp2_with fail;go_ret;exact cD (by rw[HR.o]) (dS.o.alloc _)
  have e4:(op==4)=false:=by simp[h4]
  by_cases h5:op=5
  ·subst h5;by_cases hk:s[i].kind=2
   ·have tk:(s[i].kind != 2)=false:=by simp[hk]
    have HR:=ai (show E=if lo<s[i].lo\/s[i].hi<hi then 1 else 0 by rw[HE.o];simp only[fB,HO.o,R9.o];simp[hk]);clear hk;go_wp2_with fail
    all_goals (go_ret;exact cD (by rw[HR.o];simp_all<;>omega) (dS.o.alloc _))
   have tk:(s[i].kind != 2)=true:=by simp[hk]
   have HR:=ai (show E=9 by rw[HE.o];simp only[fB,HO.o,R9.o];simp[hk]);clear hk;go_wp2_with fail;go_ret;exact cD (by rw[HR.o]) (dS.o.alloc _)
  have e5:(op==5)=false:=by simp[h5]
  have HR:=ai (show E=0 by rw[HE.o];simp[fB,h3,h4,h5]);go_wp2_with fail;go_ret;exact cD (by rw[HR.o]) dS.o
theorem Ho (s:List Attr) (l:List cK) (hf:∀x∈s,x.fits) (hsl:s.length<=1000000000000000) (a:OA) (n c:Nat) (hn:n<=1000000000000000) (m:Nat):∀(e:Ex) (ev sv:Value) (w:World),e.size<=m->m<=1000000000000000->e.iT->dB w s sv->cZ w l a n c->dw w e ev ->
  Calls Tryz.prog 92 #[sv,.slice a n c,ev] w (cz (.int .i64 (dr s l e)) w):=by
 induction m with
 | zero=>intro e ev sv w h;have:=size_pos e;omega
 | succ m ih =>
  intro e ev sv w hm Re uP hs hl he;obtain⟨sa,sn,sc,rfl,B6⟩:=hs.slice;have HN0:=ai (afn s (.agg #[.slice sa sn sc]) l a n c e ev);obtain⟨hfw,qx⟩:=rI uP;obtain⟨aw,nw,cw,aa,na,ca,rfl,hw,hna,hca,ha,hx⟩:=he.parts;have hS:e.size=1+sizes e.args:=e.size_eq;have hla:=eR e.args;have Ks:na<=1000000000000000:=by omega
  have hsz:sizes e.args<=m:=by omega
  have HE:=ai he;have HS:=ai hs;have HL:=ai hl;have HX:=ai hx;have kJ:=ai hna;have HF:=ai hf;have Es:=ai hfw;have AD:=ai qx;have Gk:=ai (zL s l e);have IH:=ai ih;clear hs hl he hx hna hw hca ha hS hla B6 hfw qx uP ih hf hm;unfold fN at *;obtain⟨wa,cN⟩:∃wa,wa=(w.alloc (.cells #[.slice sa sn sc] 24)).alloc (.cells #[ e.op,.string e.name,.slice aw nw cw,e.lo,e.hi,.slice aa na ca] 45):=⟨_,rfl⟩
  have gB:Ext w wa:=by rw[cN];exact((Tz _).alloc _).alloc _
  have hb0:wa.heap[w.heap.size]?=some (.cells #[.slice sa sn sc] 24 (0,0)):=by rw[cN];exact bU (bR w _)
  have hb1:wa.heap[w.heap.size+1]?=some (.cells #[ e.op,.string e.name,.slice aw nw cw,e.lo,e.hi,.slice aa na ca] 45 (0,0)):=by rw[cN];exact cT (by simp)
  have dm:=ai gB;have iO:=ai hb0;have gG:=ai hb1;clear gB hb0 hb1;go_enter Tryz.func92,Tryz.ntmps92
  go_wp2_with fail;rw[<-cN];refine(HN0.o wa (HS.o.ext dm.o) HF.o hsl (HL.o.ext dm.o) hn (HE.o.ext dm.o) Es.o).mono ?_;rintro r w1 ⟨rfl,hx1⟩;have dI:=ai (dm.o.trans hx1);have Uq:=ai (hx1.blk iO.o);have pG:=ai (hx1.blk gG.o);clear hx1 cN;obtain⟨E,hE⟩:∃E,E=fB s l e.op e.name e.words e.lo e.hi:=⟨_,rfl⟩
  rw[<-hE];rw[<-hE] at Gk;clear hE;by_cases hz:E=0
  ·have tz:(E != 0)=false:=by simp[hz]
   have HQ:=ai (show dr s l e=dZ s l e.args by rw[Gk.o,bL (by simp[hz])]);clear hz;go_wp2_with fail;go_loopw [8] (fun t wr=>∃k:Nat,t=.int .i64 k/\k<=na/\(∀j (h:j<e.args.length),j<k->dr s l e.args[j]=0)/\Ext w1 wr) (fun t _=>na - (intOf t).toNat)
   case atStart=>exact⟨0,rfl,by omega,fun j _ h=>by omega,Tz _⟩
   case round =>
    obtain⟨k,rfl,hk,hno,lM⟩:=hrel;have jH:=ai hno;have gZ:=ai (dI.o.trans lM);have aYf:=ai lM;obtain⟨d0,df⟩:=dO (lM.blk Uq.o);obtain⟨f0,f1,f2,f3,f4,f5,ff⟩:=cX (lM.blk pG.o);clear hno lM;by_cases hkn:k<na
    ·have hka:k<e.args.length:=by have:=kJ.o;omega
     have t1:=ag ((k:Int)<(na:Int));obtain⟨b,off,rfl,nJ,nD,nG,nK,nE,nI,h0,h1,h2,h3,h4,h5,h6⟩:=eU.at e.args _ (eU.ext gZ.o e.args _ HX.o) k hka;have H6:=ai h6;have hs1:=eD e.args k hka;have hs2:=dX e.args (k+1);have uk:e.args[k].size<=m:=by omega
     have Sc:(0:Int)<=(k:Int):=by omega
     have ti1:(k:Int)<(na:Int):=by omega
     clear h6 hs1 hs2;go_wp2_with fail
     go_still_tail 7,(by kernel_rfl)
     change wpList _ _ _ _ _ wr.drew
     have hx2:Ext wr wr.drew:=(Tz wr).drew;generalize wr.drew=w2 at hx2 ⊢;have dN:=ai (gZ.o.trans hx2);have sH:=ai (aYf.o.trans hx2);have H62:=ai (H6.o.ext hx2);clear hx2 d0 df f0 f1 f2 f3 f4 f5 ff h0 h1 h2 h3 h4 h5;go_wp2_with fail;refine(IH.o e.args[k] _ _ w2 uk (by omega) (Fo _ AD.o k hka) (HS.o.ext dN.o) (HL.o.ext dN.o) H62.o).mono ?_;rintro r w3 ⟨rfl,hx3⟩;have dS:=ai (dN.o.trans hx3);have K7:=ai (sH.o.trans hx3);clear hx3;by_cases hz:dr s l e.args[k]=0
     ·have tz:(dr s l e.args[k] != 0)=false:=by simp[hz]
      have HZ:=ai hz;clear hz;go_wp2_with fail;go_roundw
      case rel =>
       refine⟨k+1,by go_num,by omega,fun j hj hjk=>?_,K7.o⟩;by_cases e':j=k
       ·subst e';exact HZ.o
       exact jH.o j hj (by omega)
      case measure=>simp[intOf];omega
     have tz:(dr s l e.args[k] != 0)=true:=by simp[hz]
     have HR:=ai (show dr s l e=dr s l e.args[k] by rw[HQ.o];exact FZ e.args k hka hz fun j hj=>jH.o j (by omega) hj);clear hz;go_wp2_with fail;go_ret;exact cD (by rw[HR.o]) dS.o
    have t1:=ah ((k:Int)<(na:Int));have HR:=ai (show dr s l e=0 by rw[HQ.o,tK];intro j hj;exact jH.o j hj (by have:=kJ.o;omega));go_wp2_with fail;go_ret;exact cD (by rw[HR.o]) gZ.o
  have tz:(E != 0)=true:=by simp[hz]
  have HQ:=ai (show dr s l e=E by rw[Gk.o,bM hz]);clear hz;go_wp2_with fail;go_ret;exact cD (by rw[HQ.o]) dI.o
end Go.Proofs.YtefjomofjejklaaGreatDoor
