/- Joined. -/
import Derived.Test.YtefjomofjejklaaGreatDoorDi24
namespace Go.Proofs.YtefjomofjejklaaGreatDoor
set_option maxRecDepth 100000
set_option maxHeartbeats 32000000
open Go.RowKit Go.Maps
def Xd:List Attr:=[uy,⟨⟨#[115,116,111,114,101,121,115]⟩,2,[],1,9⟩,⟨⟨#[97,108,97,114,109]⟩,3,[],0,0⟩]
def exF:Ex:=.mk 4 ⟨#[112,101,114,105,108]⟩ [⟨#[102,105,114,101]⟩] 0 0 []
def clF:cK:=⟨2,⟨#[102,105,114,101]⟩,exF,[],0⟩
def aSi (w:World) (e:Ending) (w':World):Prop:=∃v,e=.returned v/\dB w' Xd v/\Ext w w'
theorem atc (x n r:Int) (w:World) (hn:0<n) (hn2:n<=1000000000000000000) (hr:(x.tmod n+n).tmod n=r):Calls Tryz.prog 16 #[.int .i64 x,.int .i64 n] w (fun e w'=>e=.returned (.int .i64 r)/\w'=w):=by
 go_enter Tryz.func16,Tryz.ntmps16
 go_wp2_with fail
 go_ret;have a1:=Int.tmod_lt_of_pos x hn;have a5:=Int.lt_tmod_of_pos x hn;rw[IntWalk.wrap64_in (x.tmod n+n) (by omega),hr];exact⟨rfl,rfl⟩
theorem aiz (w:World):Calls Tryz.prog 26 #[.int .i64 0] w (aSi w):=by
 go_enter Tryz.func26,Tryz.ntmps26
 go_wp2_with fail
 refine(atc 0 6 0 _ (by omega) (by omega) (by decide)).mono ?_;rintro e w' ⟨rfl,rfl⟩;go_wp2_with fail
 refine(Te _).mono ?_;rintro e w' ⟨g,rfl,hp,hx,hgn⟩;simp at hgn;have eV:=hx.size;simp at eV;have hb:=hx.blk (bR w _);have hlt:=bS hb;have c0:=bX hb 0;have cf:=ie hb;simp at c0;have HX:=ai (((Tz w).alloc _).trans hx);have HP:=ai hp;clear hx hb hp;go_wp2_with fail
 refine a5a (v:=.agg #[.slice (some ⟨w'.heap.size,0,none⟩) 3 3]) (by simp[results,Tryz.results26,go_sem,c0,hlt]) rfl ?_;refine⟨_,rfl,?_,(HX.o.fV (by simp) _).alloc _⟩;refine Kq (Ub:=[⟨uy,some ⟨g,0,none⟩,4,4⟩,⟨⟨⟨#[115,116,111,114,101,121,115]⟩,2,[],1,9⟩,none,0,0⟩,⟨⟨⟨#[97,108,97,114,109]⟩,3,[],0,0⟩,none,0,0⟩]) (t:=101) ?_ rfl ?_
 ·simpa[qU.cells,uy] using bR (w'.setCell ⟨w.heap.size,0,none⟩ (.slice (some ⟨w'.heap.size,0,none⟩) 3 3)) (.cells #[.string uy.name,.int .i64 1,.slice (some ⟨g,0,none⟩) 4 4,.int .i64 0,.int .i64 0,.string ⟨#[115,116,111,114,101,121,115]⟩,.int .i64 2,.slice none 0 0,.int .i64 1,.int .i64 9,.string ⟨#[97,108,97,114,109]⟩,.int .i64 3,.slice none 0 0,.int .i64 0,.int .i64 0] 101)
 intro v hv;simp only[bz,bC,or_false] at hv;rcases hv with rfl|rfl|rfl
 ·exact PT HP.o (by omega) _ _
 ·exact ji _
 exact ji _
theorem aAq:jE Xd [clF] 0=0:=by
 unfold jE;rw[bL (by decide +kernel),bL (by decide +kernel),bL (by decide +kernel),bL (by decide +kernel)]
 show fG Xd [clF] []=0
 rw[fG]
theorem aEH:jQ [clF] 0=0:=by
 unfold jQ;rw[bL];rintro(h|h)
 ·exact a40 h (by decide +kernel)
 have h2:eH [clF] []=true:=h;rw[eH] at h2;cases h2
theorem aAp:(cV Xd [clF]).2=0:=by
 have h1:kZ (jE Xd [clF]) [clF].length=(0,0):=kz _ fun j hj=>by
  obtain rfl:j=0:=by simp at hj;omega
  exact aAq
 have h2:kZ (jQ [clF]) [clF].length=(0,0):=kz _ fun j hj=>by
  obtain rfl:j=0:=by simp at hj;omega
  exact aEH
 unfold cV;rw[bL (by decide +kernel),bL (by decide),h1,bL (by simp),bL (by
  rw[Classical.not_not];refine⟨[],List.nodup_nil,fun i=>⟨fun h=>by simp at h,fun h=>?_⟩,fun k i h=>by simp at h⟩;have h1:=mz h;obtain rfl:i=0:=by simp at h1;omega
  exact a40 h (by decide)),h2]
theorem asa (V:Ex->Bool):CN V [clF]=if V exF=true then ⟨4,-1,0,0,0,false⟩ else ⟨1,0,0,0,0,false⟩:=by
 have hw:nM V []=false:=by rw[nM]
 cases h:V exF<;>simp[CN,jC,ke,clF,hw,h,CP,N8,oU,pO]
theorem Vk (f:ZI) (h:jU Xd f=true):jP Xd [clF] f=0:=by
 unfold jP;rw[bL (by rw[aAp];decide),bL (by simp[h])]
theorem aEI:mS Xd [clF] [0,1,0]=⟨4,-1,0,0,0,false⟩:=by
 unfold mS;rw[bM (Vk _ (by decide +kernel)),asa,bM (by decide +kernel)]
theorem aAo:mS Xd [clF] [1,1,0]=⟨1,0,0,0,0,false⟩:=by
 unfold mS;rw[bM (Vk _ (by decide +kernel)),asa,bL (by decide +kernel)]
theorem aj7:∀x∈Xd,x.fits:=by
 intro x hx;simp only[Xd,bz,bC,or_false] at hx;rcases hx with rfl|rfl|rfl<;>refine⟨by decide,by simp[uy],fun x hx=>?_⟩<;>simp[uy] at hx
 rcases hx with rfl|rfl|rfl|rfl<;>decide
theorem axk:∀x∈[clF],x.fit:=by
 intro x hx;obtain rfl:=aG.1 hx;refine⟨by decide,?_,?_,?_,by simp[clF],by unfold clF nY;trivial⟩
 ·simp[clF,exF,Ex.fits,kE];decide
 ·simp[clF,exF,Ex.iT,mR]
 simp[clF,exF,Ex.vP,BF]
theorem vg (w:World) (ho:dQ w):Calls Tryz.prog 12 #[] w (cz (.bool true) w):=by
 have HO:=ai ho;clear ho;go_enter Tryz.func12,Tryz.ntmps12
 go_wp2_with fail
 refine(aiz w).mono ?_;rintro r w1 ⟨sv,rfl,hs,hx1⟩;obtain⟨sa,sn,sc,rfl,-⟩:=hs.slice;have HS:=ai hs;have dI:=ai hx1;clear hs hx1;go_upto_region 2 with fail
 obtain⟨w2,hw2⟩:∃w2,w2=w1.alloc (.cells #[.slice sa sn sc] 24):=⟨_,rfl⟩
 obtain⟨b1,hb1⟩:∃b1:Nat,b1=w1.heap.size:=⟨_,rfl⟩
 have dN:=ai (show Ext w1 w2 by rw[hw2];exact(Tz _).alloc _);have gG:=ai (show w2.heap[b1]?=some (.cells #[.slice sa sn sc] 24 (0,0)) by rw[hw2,hb1];exact bR w1 _);rw[<-hw2,<-hb1];clear hw2 hb1;go_upto_region 3 with fail
 obtain⟨w3,hw3⟩:∃w3,w3=(w2.alloc (.cells #[.string ⟨#[102,105,114,101]⟩] 9)).alloc (.cells #[.int .i64 2,.string ⟨#[102,105,114,101]⟩,.int .i64 4,.string ⟨#[112,101,114,105,108]⟩,.slice (some ⟨w2.heap.size,0,none⟩) 1 1,.int .i64 0,.int .i64 0,.slice none 0 0,.slice none 0 0,.int .i64 0] 48):=⟨_,rfl⟩
 obtain⟨y,hy⟩:∃y:Nat,y=w2.heap.size:=⟨_,rfl⟩
 have hx3:Ext w2 w3:=by rw[hw3];exact((Tz _).alloc _).alloc _
 have qC:=ai (show cZ w3 [clF] (some ⟨y+1,0,none⟩) 1 1 from akK (v:=⟨2,⟨#[102,105,114,101]⟩,⟨4,⟨#[112,101,114,105,108]⟩,some ⟨y,0,none⟩,1,1,0,0,none,0,0⟩,none,0,0,0⟩) (t:=48) (by rw[hw3,hy];exact cT (by simp)) ⟨rfl,rfl,PU (xH (l:=[⟨#[102,105,114,101]⟩]) (t:=9) (by rw[hw3,hy];exact bU (bR w2 _)) rfl) 4 0 0 _,rfl,aU _,aoX ⟨rfl,rfl⟩,by unfold clF gK;trivial,rfl⟩);rw[<-hw3,<-hy];have dS:=ai (dN.o.trans hx3);have nW:=ai (hx3.blk gG.o);clear hw3 hy hx3;obtain⟨e0,ef⟩:=dO nW.o;obtain⟨w4,hw4⟩:∃w4,w4=w3.alloc (.cells #[.int .i64 0,.int .i64 1,.int .i64 0] 3):=⟨_,rfl⟩
 have gV:Ext w3 w4:=by rw[hw4];exact(Tz _).alloc _
 have Nj:=ai (sF Xd [clF] [0,1,0] (.agg #[.slice sa sn sc]) (some ⟨y+1,0,none⟩) 1 1 (some ⟨w3.heap.size,0,none⟩) 3 3 w4 (HS.o.ext (dS.o.trans gV)) aj7 (by simp[Xd]) (qC.o.ext gV) (by omega) axk (by rw[hw4];exact xI rfl) (by omega) (HO.o.ext (dI.o.trans (dS.o.trans gV))));unfold ahh at Nj;rw[aEI,Vk _ (by decide +kernel)] at Nj;unfold rT.cells at Nj;have jl:=ai (dI.o.trans (dS.o.trans gV));have FP:=ai (gV.blk nW.o);have mo:=ai (qC.o.ext gV);have oY:=ai (HS.o.ext (dS.o.trans gV));clear gV;go_wp2_with fail
 rw[<-hw4];clear hw4 e0 ef nW qC HS dS dI;refine Nj.o.mono ?_;rintro r w5 ⟨rfl,dh⟩;go_upto_region 4 with fail
 obtain⟨w6,rH⟩:∃w6,w6=w5.alloc (.cells #[.int .i64 4,.int .i64 (-1),.int .i64 0,.int .i64 0,.int .i64 0,.bool false] 29):=⟨_,rfl⟩
 have gN:Ext w5 w6:=by rw[rH];exact(Tz _).alloc _
 obtain⟨b2,hb2⟩:∃b2:Nat,b2=w5.heap.size:=⟨_,rfl⟩
 have ER:=ai (show w6.heap[b2]?=some (.cells #[.int .i64 4,.int .i64 (-1),.int .i64 0,.int .i64 0,.int .i64 0,.bool false] 29 (0,0)) by rw[rH,hb2];exact bR w5 _);rw[<-rH,<-hb2];have kR:=ai (jl.o.trans (dh.trans gN));have jO:=ai ((dh.trans gN).blk FP.o);have sK:=ai (mo.o.ext (dh.trans gN));have vE:=ai (oY.o.ext (dh.trans gN));clear rH hb2 gN dh Nj jl FP mo oY;obtain⟨e0,ef⟩:=dO jO.o;obtain⟨w7,wF⟩:∃w7,w7=w6.alloc (.cells #[.int .i64 1,.int .i64 1,.int .i64 0] 3):=⟨_,rfl⟩
 have ng:Ext w6 w7:=by rw[wF];exact(Tz _).alloc _
 have HPD:=ai (sF Xd [clF] [1,1,0] (.agg #[.slice sa sn sc]) (some ⟨y+1,0,none⟩) 1 1 (some ⟨w6.heap.size,0,none⟩) 3 3 w7 (vE.o.ext ng) aj7 (by simp[Xd]) (sK.o.ext ng) (by omega) axk (by rw[wF];exact xI rfl) (by omega) (HO.o.ext (kR.o.trans ng)));unfold ahh at HPD;rw[aAo,Vk _ (by decide +kernel)] at HPD;unfold rT.cells at HPD;have rZ:=ai (kR.o.trans ng);have EP:=ai (ng.blk ER.o);clear ng;go_wp2_with fail
 rw[<-wF];clear wF e0 ef;refine HPD.o.mono ?_;rintro r w8 ⟨rfl,qW⟩;go_upto_region 5 with fail
 obtain⟨w9,uj⟩:∃w9,w9=w8.alloc (.cells #[.int .i64 1,.int .i64 0,.int .i64 0,.int .i64 0,.int .i64 0,.bool false] 29):=⟨_,rfl⟩
 have ux:Ext w8 w9:=by rw[uj];exact(Tz _).alloc _
 obtain⟨b3,hb3⟩:∃b3:Nat,b3=w8.heap.size:=⟨_,rfl⟩
 have HD9:=ai (show w9.heap[b3]?=some (.cells #[.int .i64 1,.int .i64 0,.int .i64 0,.int .i64 0,.int .i64 0,.bool false] 29 (0,0)) by rw[uj,hb3];exact bR w8 _);rw[<-uj,<-hb3];have vL:=ai (rZ.o.trans (qW.trans ux));have HE9:=ai ((qW.trans ux).blk EP.o);clear uj hb3 ux qW;obtain⟨d0,d1,d2,d3,d4,d5,df⟩:=dH HE9.o;obtain⟨g0,g1,g2,g3,g4,g5,gf⟩:=dH HD9.o;go_wp2_with fail
 go_ret;exact bW rfl vL.o
open Go.RowKit
theorem vD.fnl {w:World} {s:List Attr} {l:List cK} {f:ZI} {v:Yh} (h:vD w s l f v):v.fn<=1000:=by
 rw[h.ints.1,kA h.facts];exact(ei s h.mem).2.2
theorem UJ {W W':World} {g:Nat} (h:Ext W W'):Sub (mask W [g]) (mask W' [g]):=cF (h.cR []) (by simp)
theorem a5h (da:OA) (dn dc:Nat) (k0:Int) (w:World) (h1:dR w da dn) (hdn:dn<=1000000000000000) (ho:dQ w) :
  Calls Tryz.prog 11 #[.slice da dn dc,.int .i64 k0] w (cz (.bool true) w):=by
 have Rq:=ai (fun W (hW:Ext w W)=>vg W (ho.ext hW));have HO:=ai ho;have GU:=ai (xF da dn dc w h1 hdn);clear h1 ho;go_enter Tryz.func11,Tryz.ntmps11
 go_wp2_with fail
 refine GU.o.mono ?_;rintro r w1 ⟨s,l,f,v,bd,rfl,Og,hd,hx1⟩;unfold Yh.val;go_upto_region 2 with fail
 obtain⟨b3,hb3⟩:∃b3,b3=w1.heap.size:=⟨_,rfl⟩
 obtain⟨w2,hw2⟩:∃w2,w2=w1.alloc (.cells #[.slice v.sa v.sn v.sc,.slice v.la v.ln v.lc,.slice v.fa v.fn v.fc] 34):=⟨_,rfl⟩
 have hx2:Ext w1 w2:=by rw[hw2];exact(Tz _).alloc _
 have qO:=ai (show w2.heap[b3]?=some (.cells #[.slice v.sa v.sn v.sc,.slice v.la v.ln v.lc,.slice v.fa v.fn v.fc] 34 (0,0)) by rw[hw2,hb3];exact bR w1 _);have FN:=ai (Og.mono (UJ (g:=bd) hx2));have pY:=ai (hd.ext hx2);have dN:=ai (hx1.trans hx2);have pF:=ai (show bd<b3/\w.heap.size<=bd/\b3<w2.heap.size from⟨by rw[hb3];exact hd.lt,by obtain⟨_,_,_,_,_,_,_,_,_,q⟩:=hd;exact q,by rw[hw2,hb3];simp⟩);rw[<-hw2,<-hb3];clear hw2 hb3 hx1 hx2 Og hd GU;have HER:=ai (KJ (s:=s) (l:=l) (f:=f) FN.o.cls FN.o.fac);have HXD:=ai (fun W (hW:ct [bd] w2 W)=>show Ext w W from hW.ext dN.o (fun y hy=>by rw[aG.1 hy];exact pF.o.2.1));have HGV:=ai (fun W (hW:ct [bd] w2 W) (hd:cg w W bd)=>show Calls Tryz.prog 24 #[.pointer (some ⟨bd,0,none⟩),.agg #[.slice v.sa v.sn v.sc],.slice v.la v.ln v.lc,.slice v.fa v.fn v.fc] W (GvQ (val s l f) (aco (CY s l f) (val s l f) l) l w bd W) from aag v.fc ⟨FN.o.cls,FN.o.facts,iB FN.o.mem,hd,FN.o.x7.mono (cP hW (by simp)),FN.o.yT.mono (cP hW (by simp)),FN.o.ints.mono (cP hW (by simp))⟩);have HVF:=ai (fun W (hW:ct [bd] w2 W) (d:rT) (rs:List Rs) (ra:OA) (rn rc:Nat) (hr:iE W rs ra rn rc)=>show Calls Tryz.prog 23 #[.agg #[.slice v.sa v.sn v.sc],.slice v.la v.ln v.lc,.slice v.fa v.fn v.fc,.agg #[.int .i64 d.oP,.int .i64 d.lim,.int .i64 d.xV,.int .i64 d.xU,.int .i64 d.xN,.bool d.Bt,.slice ra rn rc]] W (cz (.bool (Lj (CY s l f) l d rs)) W) from by
  have hi:=FN.o.mono (cP hW (by simp));have hm:=cC W [bd];have hvl:=hi.yT.len;have hfl:=hi.fnl;have vC:=hi.len;have hc:=ai' s l f _ v.la v.ln v.lc v.fa v.fn v.fc d rs ra rn rc W (hi.x7.mono hm) (iB hi.mem) (by have:=(ei s hi.mem).2.2;omega) (hi.yT.mono hm) (by omega) hi.Ca (hi.ints.mono hm) (by omega) (HO.o.ext (HXD.o W hW)) hr;unfold aGI at hc
  rwa [bM HER.o.1] at hc)
 obtain⟨D,hD⟩:∃D,D=CN (val s l f) l:=⟨_,rfl⟩
 obtain⟨T,hT⟩:∃T:List Rs->Bool,T=Lj (CY s l f) l D:=⟨_,rfl⟩
 have aT4:=ai (fun W (hW:ct [bd] w2 W) (hd:cg w W bd)=>(HGV.o W hW hd).mono (fun e w' (q:GvQ (val s l f) (aco (CY s l f) (val s l f) l) l w bd W e w')=>show ∃(L:List Rs) (a:OA) (c:Nat),e=.returned (.agg #[.int .i64 D.oP,.int .i64 D.lim,.int .i64 D.xV,.int .i64 D.xU,.int .i64 D.xN,.bool D.Bt,.slice a L.length c])/\(0<L.length/\L.length<=5000000/\∀k (hk:k<L.length),T (L.take k++L.drop (k+1))=false/\T (L.take k++[L[k]]++L.drop k)=false/\T (L.set k (a5H L[k]))=false)/\iE w' L a L.length c/\ct [bd] W w' from by
  obtain⟨L,a,c,q1,q2,q5,q3,-,q4⟩:=q;have hv:Lj (CY s l f) l D L=true:=by rw[hD];exact aBi (fun _ _ h=>akf h) q2
  exact⟨L,a,c,by rw[q1,hD],⟨a5M hv FN.o.ai6.2.2,q5,fun k hk=>by rw[hT];exact a5y (lK FN.o.cls) hv hk⟩,q3.mono (cC _ _),q4⟩))
 have aSQ:=ai (fun W (hW:ct [bd] w2 W) (rs:List Rs) (ra:OA) (rn rc:Nat) (hr:iE W rs ra rn rc)=>HVF.o W hW D rs ra rn rc hr);rw[<-hT] at aSQ;clear hD hT HGV HVF;obtain⟨x0,x1,x2,xf⟩:=dM qO.o;go_wp2_with fail
 refine(aT4.o w2 (ct.refl _ _) pY.o).mono ?_;rintro r W1 ⟨L,a,c,rfl,⟨q1,q5,q2⟩,q3,q4⟩;clear x0 x1 x2 xf;obtain⟨vs,hvr,hvs⟩:=q3;have Nb:=ai q2;have HR:=ai hvr;have mE:=ai q4;have hvl:L.length=vs.length:=hvs.1;obtain⟨bl,off,rfl,-⟩:=hvs.2.2.2 0 (by omega);have yM:=ai hvs;have nU:=ai (q4.blk qO.o (by have:=pF.o;simp;omega));obtain⟨n,hn⟩:∃n,n=L.length:=⟨_,rfl⟩
 rw[<-hn] at yM;have hnc:n<=c:=by rw[hn];exact hvs.2.1
 have hn0:0<n:=by omega
 have hn5:n<=5000000:=by omega
 have OX:=ai hn;have hnv:vs.length<=n:=by omega
 have hnw:n<=vs.length:=by omega
 rw[<-hn];clear hvr hvs q1 q2 q4 q5 hvl hn aT4 pY qO;obtain⟨b7,hb7⟩:∃b,b=W1.heap.size:=⟨_,rfl⟩
 obtain⟨W3,hW3⟩:∃W,W=W1.alloc (.cells #[.int .i64 D.oP,.int .i64 D.lim,.int .i64 D.xV,.int .i64 D.xU,.int .i64 D.xN,.bool D.Bt,.slice (some ⟨bl,off,none⟩) n c] 57):=⟨_,rfl⟩
 have CX:=ai (show W3.heap[b7]?=some (.cells #[.int .i64 D.oP,.int .i64 D.lim,.int .i64 D.xV,.int .i64 D.xU,.int .i64 D.xN,.bool D.Bt,.slice (some ⟨bl,off,none⟩) n c] 57 (0,0)) by rw[hW3,hb7];exact bR W1 _);have dS:=ai (show Ext W1 W3 by rw[hW3];exact(Tz W1).alloc _);go_upto_region 3 with fail
 rw[<-hW3,<-hb7];have HN7:=ai hb7;clear hW3 hb7;have t0:((n:Int)==0)=false:=by simp;omega
 obtain⟨c0,c1,c2,c3,c4,c5,c6,cf⟩:=gR CX.o;go_wp2_with fail
 refine(Dd k0 (n:Int) W3 (by omega) (by omega)).mono ?_;rintro r w4 ⟨q,rfl,CQ,hq1,rfl⟩;obtain⟨k,rfl⟩:∃k:Nat,q=(k:Int):=⟨q.toNat,by omega⟩
 have hkn:k<n:=by omega
 obtain⟨m,hm⟩:∃m,m=k+1:=⟨_,rfl⟩
 have hmn:m<=n:=by omega
 have HM:=ai hm;have HMI:=ai (show (k:Int)+1=((m:Nat):Int) by omega);clear hm;clear CQ hq1 t0;go_upto_region 6 with fail
 obtain⟨V,hV⟩:∃V:Value,V=.agg #[.int .i64 D.oP,.int .i64 D.lim,.int .i64 D.xV,.int .i64 D.xU,.int .i64 D.xN,.bool D.Bt,.slice (some ⟨bl,off,none⟩) n c]:=⟨_,rfl⟩
 have HVV:=ai hV;clear hV;refine dF (n:=125) (m:=8) [5,2] (Bx3 W3 (.cells #[.int .i64 D.oP,.int .i64 D.lim,.int .i64 D.xV,.int .i64 D.xU,.int .i64 D.xN,.bool D.Bt,.slice (some ⟨bl,off,none⟩) n c] 57 (0,0))) (fun _=>BxE (.cells #[.int .i64 D.oP,.int .i64 D.lim,.int .i64 D.xV,.int .i64 D.xU,.int .i64 D.xN,.bool D.Bt,.slice (some ⟨bl,off,none⟩) n c] 57 (0,0))) (BxR W3 (.cells #[.int .i64 D.oP,.int .i64 D.lim,.int .i64 D.xV,.int .i64 D.xU,.int .i64 D.xN,.bool D.Bt,.slice (some ⟨bl,off,none⟩) n c] 57 (0,0)) (.agg #[.int .i64 D.oP,.int .i64 D.lim,.int .i64 D.xV,.int .i64 D.xU,.int .i64 D.xN,.bool D.Bt,.slice (some ⟨bl,off,none⟩) n c])) (by kernel_rfl) (by kernel_rfl) (Nat.le_of_ble_eq_true rfl) ?gd a5B ?_ ?_ ?_
 case gd =>
  intro i o j b hi ho hg;rcases ltc8 hi with rfl|rfl|rfl|rfl|rfl|rfl|rfl|rfl<;>(cases ho;cases hg)
 ·intro i k v W W' hi hk hne hout h hE;exact a5J h hE
 ·intro q op hq ho L' vs' W cG dD hW hd ρ hρ;have jA:=ltc8 hq;clear hq;have o7:ρ (.tmp 7)=.pointer (some ⟨b7,0,none⟩):=hρ.out 7 rfl;have i3:=hρ.i 3 9;have i4:=hρ.i 4 10;have i0:=hρ.i 0 35;have i1:=hρ.i 1 36;have hc:=hρ.const;have hfn:=hρ.func;clear hρ;have HG:=ai hW;have HW:=ai (show Ext W3 W from hW.1);have dL:=ai cG;clear hW cG dD;have g0:=HW.o.cell c0;have g1:=HW.o.cell c1;have g2:=HW.o.cell c2;have g3:=HW.o.cell c3;have g4:=HW.o.cell c4;have g5:=HW.o.cell c5;have g6:=HW.o.cell c6;clear c0 c1 c2 c3 c4 c5 c6;rcases jA with rfl|rfl|rfl|rfl|rfl|rfl|rfl|rfl
  iterate 3
   cases ho
   clear hd;unfold bQ;go_simp;exact⟨BxE.refl _ _,a5K (by omega) HG.o,rfl⟩
  iterate 3
   cases ho
   clear hd;unfold bQ;go_simp;exact⟨BxE.of ((Tz W).alloc _),a5C (by omega) (by omega) dL.o HG.o,W.heap.size,rfl,HG.o.1.size,aoX (bR W _)⟩
  ·cases ho
   obtain⟨g,hp,-,hz⟩:∃g,vs' 3=.pointer (some ⟨g,0,none⟩)/\W3.heap.size<=g/\(W.heap[g]?=some zDv\/W.heap[g]?=some (.cells #[.int .i64 D.oP,.int .i64 D.lim,.int .i64 D.xV,.int .i64 D.xU,.int .i64 D.xN,.bool D.Bt,.slice (some ⟨bl,off,none⟩) n c] 57 (0,0))):=hd ⟨3,.data⟩ (by simp) rfl;have hx:vs' 0=.agg #[.int .i64 D.oP,.int .i64 D.lim,.int .i64 D.xV,.int .i64 D.xU,.int .i64 D.xN,.bool D.Bt,.slice (some ⟨bl,off,none⟩) n c]:=hd ⟨0,.data⟩ (by simp) rfl;rw[hp] at i3;rw[hx] at i0;clear hd;obtain⟨u0,u1,u2,u3,u4,u5,u6,hy⟩:∃u0 u1 u2 u3 u4 u5 u6,W.heap[g]?=some (.cells #[u0,u1,u2,u3,u4,u5,u6] 57 (0,0)):=by
    rcases hz with hz|hz<;>exact⟨_,_,_,_,_,_,_,hz⟩
   have HS:=ai (a5l (i:=3) (v:=undef) (by omega) (by omega) hp (sU hy (v0:=.int .i64 D.oP) (v1:=.int .i64 D.lim) (v2:=.int .i64 D.xV) (v3:=.int .i64 D.xU) (v4:=.int .i64 D.xN) (v5:=.bool D.Bt) (v6:=.slice (some ⟨bl,off,none⟩) n c)) hz (pW W g (v0:=.int .i64 D.oP) (v1:=.int .i64 D.lim) (v2:=.int .i64 D.xV) (v3:=.int .i64 D.xU) (v4:=.int .i64 D.xN) (v5:=.bool D.Bt) (v6:=.slice (some ⟨bl,off,none⟩) n c)) HG.o);obtain⟨z0,z1,z2,z3,z4,z5,z6,zf⟩:=gR hy;unfold j5 at HS;clear hp hx hy hz;unfold bQ;go_simp;exact⟨HS.o.1,HS.o.2,trivial⟩
  cases ho
  obtain⟨g,hp,-,hz⟩:∃g,vs' 4=.pointer (some ⟨g,0,none⟩)/\W3.heap.size<=g/\(W.heap[g]?=some zDv\/W.heap[g]?=some (.cells #[.int .i64 D.oP,.int .i64 D.lim,.int .i64 D.xV,.int .i64 D.xU,.int .i64 D.xN,.bool D.Bt,.slice (some ⟨bl,off,none⟩) n c] 57 (0,0))):=hd ⟨4,.data⟩ (by simp) rfl;have hx:vs' 1=.agg #[.int .i64 D.oP,.int .i64 D.lim,.int .i64 D.xV,.int .i64 D.xU,.int .i64 D.xN,.bool D.Bt,.slice (some ⟨bl,off,none⟩) n c]:=hd ⟨1,.data⟩ (by simp) rfl;rw[hp] at i4;rw[hx] at i1;clear hd;obtain⟨u0,u1,u2,u3,u4,u5,u6,hy⟩:∃u0 u1 u2 u3 u4 u5 u6,W.heap[g]?=some (.cells #[u0,u1,u2,u3,u4,u5,u6] 57 (0,0)):=by
   rcases hz with hz|hz<;>exact⟨_,_,_,_,_,_,_,hz⟩
  have HS:=ai (a5l (i:=4) (v:=undef) (by omega) (by omega) hp (sU hy (v0:=.int .i64 D.oP) (v1:=.int .i64 D.lim) (v2:=.int .i64 D.xV) (v3:=.int .i64 D.xU) (v4:=.int .i64 D.xN) (v5:=.bool D.Bt) (v6:=.slice (some ⟨bl,off,none⟩) n c)) hz (pW W g (v0:=.int .i64 D.oP) (v1:=.int .i64 D.lim) (v2:=.int .i64 D.xV) (v3:=.int .i64 D.xU) (v4:=.int .i64 D.xN) (v5:=.bool D.Bt) (v6:=.slice (some ⟨bl,off,none⟩) n c)) HG.o);obtain⟨z0,z1,z2,z3,z4,z5,z6,zf⟩:=gR hy;unfold j5 at HS;clear hp hx hy hz;unfold bQ;go_simp;exact⟨HS.o.1,HS.o.2,trivial⟩
 intro L' vs' W hall hW hR;rw[bL (by decide +kernel)];obtain⟨g9,h3,G3,G9,G6⟩:=hW.2.1 3 (by omega) (by omega) (hall 3 (by omega));obtain⟨g10,h4,G4,G10,G7⟩:=hW.2.1 4 (by omega) (by omega) (hall 4 (by omega));obtain⟨g11,h5,G5,hz⟩:∃g,vs' 5=.pointer (some ⟨g,0,none⟩)/\W3.heap.size<=g/\(W.heap[g]?=some zDv\/W.heap[g]?=some (.cells #[.int .i64 D.oP,.int .i64 D.lim,.int .i64 D.xV,.int .i64 D.xU,.int .i64 D.xN,.bool D.Bt,.slice (some ⟨bl,off,none⟩) n c] 57 (0,0))):=hR 5 (by simp) (by omega);have h2:vs' 2=.agg #[.int .i64 D.oP,.int .i64 D.lim,.int .i64 D.xV,.int .i64 D.xU,.int .i64 D.xN,.bool D.Bt,.slice (some ⟨bl,off,none⟩) n c]:=hR 2 (by simp) (by omega);have e1:=hW.2.2.1 3 4 (by omega) (by omega) (by omega) (hall 3 (by omega)) (hall 4 (by omega));have e2:=hW.2.2.1 3 5 (by omega) (by omega) (by omega) (hall 3 (by omega)) (hall 5 (by omega));have e3:=hW.2.2.1 4 5 (by omega) (by omega) (by omega) (hall 4 (by omega)) (hall 5 (by omega));rw[h3,h4] at e1;rw[h3,h5] at e2;rw[h4,h5] at e3;simp only[ne_eq,Value.pointer.injEq,a42,Addr.mk.injEq,and_true] at e1 e2 e3;have jl:=ai (show Ext W3 W from hW.1);have Vt:=ai (G6 (hall 6 (by omega)));have acn:=ai (G7 (hall 7 (by omega)));obtain⟨u0,u1,u2,u3,u4,u5,u6,hy⟩:∃u0 u1 u2 u3 u4 u5 u6,W.heap[g11]?=some (.cells #[u0,u1,u2,u3,u4,u5,u6] 57 (0,0)):=by
  rcases hz with hz|hz<;>exact⟨_,_,_,_,_,_,_,hz⟩
 refine jx rfl ?_
 change wpList _ _ _ [⟨none,.store _ (.tmp 11) (.tmp 37),_,_,_,none⟩] _ _
 simp only[fL,dU,List.range,List.range.loop,aX,bN,h2,h3,h4,h5];clear hW hR hall G6 G7 h2 h3 h4 h5 hz;obtain⟨W6,hW6⟩:∃W',W'=j5 W g11 (.int .i64 D.oP) (.int .i64 D.lim) (.int .i64 D.xV) (.int .i64 D.xU) (.int .i64 D.xN) (.bool D.Bt) (.slice (some ⟨bl,off,none⟩) n c):=⟨_,rfl⟩
 have pI:ct [g11] W W6:=by rw[hW6];exact pW W g11
 have pG:=ai (show W6.heap[g11]?=some (.cells #[.int .i64 D.oP,.int .i64 D.lim,.int .i64 D.xV,.int .i64 D.xU,.int .i64 D.xN,.bool D.Bt,.slice (some ⟨bl,off,none⟩) n c] 57 (0,0)) by rw[hW6];exact sU hy);obtain⟨z0,z1,z2,z3,z4,z5,z6,zf⟩:=gR hy;unfold j5 at hW6;go_upto_region 7 with fail
 rw[<-hW6];have gN:Ext W3 W6:=pI.ext jl.o (fun y hy=>by rw[aG.1 hy];exact G5);have kR:=ai (dS.o.trans gN);have Vt:=ai (pI.blk Vt.o (by simpa using e2));have acn:=ai (pI.blk acn.o (by simpa using e3));have CX:=ai (gN.blk CX.o);have HNG:=ai (show g9≠g10/\g9≠g11/\g10≠g11/\W1.heap.size<=g9/\W1.heap.size<=g10/\W1.heap.size<=g11/\b7≠g9/\b7≠g10/\b7≠g11 from by
  have h1:=dS.o.size;have h2:=bS CX.o;have h3:=HN7.o;have h4:b7<W3.heap.size:=eB c0;omega)
 clear hW6 pI hy z0 z1 z2 z3 z4 z5 z6 zf gN jl e1 e2 e3 c0 c1 c2 c3 c4 c5 c6 cf G3 G4 G5 G9 G10;obtain⟨c0,c1,c2,c3,c4,c5,c6,cf⟩:=gR CX.o;have C6:=bT c6;have a54:=ai (yM.o.ext kR.o);have HG6:=ai (show ∀y∈[g9,g10,g11],y<W6.heap.size from fun y hy=>by
  simp only[bz,bC,or_false] at hy;rcases hy with rfl|rfl|rfl
  ·exact bS Vt.o
  ·exact bS acn.o
  exact bS pG.o)
 clear c0 c1 c2 c3 c4 c5 c6 cf;refine kG (m:=13) (Er:=ErQ W6.heap.size) (C:=Ext W6) (Φ:=fun _=>True) (fun _=>ErQ.of (Tz _)) (fun _ _ h=>ErQ.of h) (fun _ _ h q=>ErQ.ext h q) (Tz W6).drew trivial (fun _ _ _ h=>h) ?_;refine dP (γ:=Nat) (fun g=>.slice (some ⟨g,0,none⟩) 0 0) (fun g W=>W6.heap.size<=g/\W.heap[g]?=some (.cells #[] 69 (0,0))) (fun W hW _ _=>?_) (fun g W W' hx h=>⟨h.1,hx.blk h.2⟩) ?_ ⟨0⟩
 ·unfold bQ;go_simp;exact⟨ErQ.of ((Tz W).alloc _),W.heap.size,rfl,hW.size,bR W _⟩
 intro g0 K hK;go_simp;go_big_quiet_on
 repeat (refine bZ ?_;intro K hK;go_big_quiet_op;go_big_quiet_on)
 refine dP (γ:=OA×Nat) (fun q=>.slice q.1 k q.2) (fun q W=>W.ownsRow W6.heap.size 69 6 (.slice q.1 k q.2) k ((vs.take k).flatMap jf.cells)/\(k=0->q.2=0)) (fun W hW h _=>?_) (fun q W W' hx h=>⟨cO h.1 (hx.cR []) (by simp),h.2⟩) ?_ ⟨(none,0)⟩
 ·refine cL _ _ W6.heap.size 0 (some ⟨g0,0,none⟩) 0 [] (vs.take k) rfl (some ⟨bl,off,none⟩) k c rfl (by omega) ⟨rfl,a4Z ⟨g0,0,#[],rfl,h.1,h.2,aU _,by unfold maxLen;omega,rfl,rfl⟩⟩ (a5j (a54.o.ext hW) (by omega)) hW.size (by omega) ?_;intro a' c' w' ho he hm;exact⟨he,(a',c'),by rw[Nat.zero_add],by simpa using ho,hm⟩
 rintro⟨a1,c1⟩ K hK;go_simp;go_big_quiet_on
 repeat (refine bZ ?_;intro K hK;go_big_quiet_op;go_big_quiet_on)
 rw[HMI.o]
 repeat (refine bZ ?_;intro K hK;go_big_quiet_op;go_big_quiet_on)
 refine dP (γ:=OA×Nat) (fun q=>.slice q.1 (k+(n - (k+1))) q.2) (fun q W=>W.ownsRow W6.heap.size 69 6 (.slice q.1 (k+(n - (k+1))) q.2) (k+(n - (k+1))) ((vs.take k++vs.drop (k+1)).flatMap jf.cells)) (fun W hW h hF=>?_) (fun q W W' hx h=>cO h (hx.cR []) (by simp)) ?_ ⟨(none,0)⟩
 ·refine cL _ _ W6.heap.size (k) a1 c1 (vs.take k) (vs.drop (k+1)) rfl _ (n - (k+1)) (c - (k+1)) rfl (by omega) h.1 (a5k (a54.o.ext hW) (by omega)) hW.size (by have:=h.2;omega) ?_;intro a' c' w' ho he hm;exact⟨he,(a',c'),rfl,ho⟩
 rintro⟨a2,c2⟩ K hK;go_simp;go_big_quiet_on
 repeat (refine bZ ?_;intro K hK;go_big_quiet_op;go_big_quiet_on)
 refine nH fun W hW hd _=>?_
 have HYB:=ai (hW.blk Vt.o);have HO:=ai hd;have mJ:=ai hW;obtain⟨z0,z1,z2,z3,z4,z5,z6,zf⟩:=gR HYB.o;obtain⟨W7,hWj⟩:∃W',W'=W.setCell ⟨g9,6,none⟩ (.slice a2 (k+(n - (k+1))) c2):=⟨_,rfl⟩
 have HSC:=ai (show ct [g9] W W7 by rw[hWj];exact afN _ _ _ _);have Vt:=ai (show W7.heap[g9]?=some (.cells #[.int .i64 D.oP,.int .i64 D.lim,.int .i64 D.xV,.int .i64 D.xU,.int .i64 D.xN,.bool D.Bt,.slice a2 (k+(n - (k+1))) c2] 57 (0,0)) by rw[hWj];have:=afJ (i:=6) HYB.o (.slice a2 (k+(n - (k+1))) c2);simpa using this);clear hW hd C6;go_upto_region 8 with fail
 rw[<-hWj];clear hWj z0 z1 z2 z3 z4 z5 z6 zf HYB;have rZ:=ai (show Ext W1 W7 from HSC.o.ext (kR.o.trans mJ.o) (fun y hy=>by rw[aG.1 hy];have:=HNG.o;omega));have a5X:=ai (show ct [g9] W6 W7 from(mJ.o.cR _).then HSC.o);have HL7:=ai (show iE (mask W7 [g9,g10,g11]) (L.take k++L.drop (k+1)) a2 (k+(n - (k+1))) c2 from a5v (cO HO.o HSC.o (fun q hq hm=>by rw[aG.1 hm] at hq;have:=(HO.o.lt _ hq).1;have:=HG6.o g9 (by simp);omega)) HG6.o (by have:=OX.o;simp;omega) rZ.o (fun y hy=>by have:=HNG.o;simp only[bz,bC,or_false] at hy;omega) ((HR.o.take k).append (HR.o.drop (k+1))));have acn:=ai (a5X.o.blk acn.o (by have:=HNG.o;simp;omega));have pG:=ai (a5X.o.blk pG.o (by have:=HNG.o;simp;omega));have CX:=ai (a5X.o.blk CX.o (by have:=HNG.o;simp;omega));clear mJ HSC HO;generalize hax:(if c=k+1 then (some (⟨bl,off,none⟩:Addr)) else some ⟨bl,off+(k+1)*6,none⟩)=ax;clear hax;obtain⟨c0,c1,c2,c3,c4,c5,c6,cf⟩:=gR CX.o;have C6:=bT c6;have av2:=ai (yM.o.ext rZ.o);have HG7:=ai (show ∀y∈[g9,g10,g11],y<W7.heap.size from fun y hy=>by
  simp only[bz,bC,or_false] at hy;rcases hy with rfl|rfl|rfl
  ·exact bS Vt.o
  ·exact bS acn.o
  exact bS pG.o)
 clear c0 c1 c2 c3 c4 c5 c6 cf;have hkv:k<vs.length:=by omega
 have fq:k<L.length:=by have:=OX.o;omega
 obtain⟨z,hz⟩:∃z,z=vs[k]:=⟨_,rfl⟩
 have HZ:=ai hz;have he:∀j (hj:j<6),W7.cell? ⟨bl,off+k*6+j,none⟩=some (z.cells[j]'hj):=fun j hj=>by
  obtain⟨b',o',e,he⟩:=av2.o.2.2.2 k hkv;simp only[a42,Addr.mk.injEq,and_true] at e;obtain⟨rfl,rfl⟩:=e;have:=he j hj;rw[this];subst hz
  rfl
 have E0:=bT (show W7.cell? ⟨bl,off+k*6,none⟩=some (.string z.name) from he 0 (by omega));have E1:=bT (show W7.cell? ⟨bl,off+k*6+1,none⟩=some (.bool z.dg) from he 1 (by omega));have E2:=bT (show W7.cell? ⟨bl,off+k*6+2,none⟩=some (.bool z.p.value) from he 2 (by omega));have E3:=bT (show W7.cell? ⟨bl,off+k*6+3,none⟩=some (.int .i64 z.p.pick) from he 3 (by omega));have E4:=bT (show W7.cell? ⟨bl,off+k*6+4,none⟩=some (.slice z.p.a z.p.n z.p.c) from he 4 (by omega));have E5:=bT (show W7.cell? ⟨bl,off+k*6+5,none⟩=some (.slice z.a z.n z.c) from he 5 (by omega));clear he hz;refine kG (m:=19) (Er:=ErQ W7.heap.size) (C:=Ext W7) (Φ:=fun _=>True) (fun _=>ErQ.of (Tz _)) (fun _ _ h=>ErQ.of h) (fun _ _ h q=>ErQ.ext h q) (Tz W7).drew trivial (fun _ _ _ h=>h) ?_;refine dP (γ:=Nat) (fun g=>.slice (some ⟨g,0,none⟩) 0 0) (fun g W=>W7.heap.size<=g/\W.heap[g]?=some (.cells #[] 69 (0,0))) (fun W hW _ _=>?_) (fun g W W' hx h=>⟨h.1,hx.blk h.2⟩) ?_ ⟨0⟩
 ·unfold bQ;go_simp;exact⟨ErQ.of ((Tz W).alloc _),W.heap.size,rfl,hW.size,bR W _⟩
 intro p0 K hK;go_simp;go_big_quiet_on
 repeat (refine bZ ?_;intro K hK;go_big_quiet_op;go_big_quiet_on)
 refine dP (γ:=OA×Nat) (fun q=>.slice q.1 k q.2) (fun q W=>W.ownsRow W7.heap.size 69 6 (.slice q.1 k q.2) k ((vs.take k).flatMap jf.cells)/\(k=0->q.2=0)) (fun W hW h _=>?_) (fun q W W' hx h=>⟨cO h.1 (hx.cR []) (by simp),h.2⟩) ?_ ⟨(none,0)⟩
 ·refine cL _ _ W7.heap.size 0 (some ⟨p0,0,none⟩) 0 [] (vs.take k) rfl (some ⟨bl,off,none⟩) k c rfl (by omega) ⟨rfl,a4Z ⟨p0,0,#[],rfl,h.1,h.2,aU _,by unfold maxLen;omega,rfl,rfl⟩⟩ (a5j (av2.o.ext hW) (by omega)) hW.size (by omega) ?_;intro a' c' w' ho he hm;exact⟨he,(a',c'),by rw[Nat.zero_add],by simpa using ho,hm⟩
 rintro⟨a3,c3⟩ K hK;go_simp;go_big_quiet_on
 repeat (refine bZ ?_;intro K hK;go_big_quiet_op;go_big_quiet_on)
 refine Az (fun g=>.slice (some ⟨g,0,none⟩) 1 1) (fun g W=>W.heap[g]?=some (.cells z.cells.toArray 69 (0,0))) (fun W hW=>?_) (fun g W W' h q=>h.lit q rfl) ?_
 ·unfold bQ;go_simp;exact⟨(Tz W).alloc _,W.heap.size,rfl,bR W _⟩
 intro p1 K hK;go_simp;go_big_quiet_on
 repeat (refine bZ ?_;intro K hK;go_big_quiet_op;go_big_quiet_on)
 refine dP (γ:=OA×Nat) (fun q=>.slice q.1 (k+1) q.2) (fun q W=>W.ownsRow W7.heap.size 69 6 (.slice q.1 (k+1) q.2) (k+1) ((vs.take k++[z]).flatMap jf.cells)) (fun W hW h hF=>?_) (fun q W W' hx h=>cO h (hx.cR []) (by simp)) ?_ ⟨(none,0)⟩
 ·refine cL _ _ W7.heap.size (k) a3 c3 (vs.take k) ([z]) rfl (some ⟨p1,0,none⟩) 1 1 rfl (by omega) h.1 (a5E hF.2) hW.size (by have:=h.2;omega) ?_;intro a' c' w' ho he hm;exact⟨he,(a',c'),rfl,ho⟩
 rintro⟨a4,c4⟩ K hK;go_simp;go_big_quiet_on
 repeat (refine bZ ?_;intro K hK;go_big_quiet_op;go_big_quiet_on)
 refine dP (γ:=OA×Nat) (fun q=>.slice q.1 (k+1+(n - k)) q.2) (fun q W=>W.ownsRow W7.heap.size 69 6 (.slice q.1 (k+1+(n - k)) q.2) (k+1+(n - k)) ((vs.take k++[z]++vs.drop k).flatMap jf.cells)) (fun W hW h hF=>?_) (fun q W W' hx h=>cO h (hx.cR []) (by simp)) ?_ ⟨(none,0)⟩
 ·refine cL _ _ W7.heap.size (k+1) a4 c4 (vs.take k++[z]) (vs.drop k) rfl _ (n - k) (c - k) rfl (by omega) h (by have:=a5k (m:=k) (av2.o.ext hW) (by omega);rwa [bL (by omega)] at this) hW.size (by omega) ?_;intro a' c' w' ho he hm;exact⟨he,(a',c'),rfl,ho⟩
 rintro⟨a5,c5⟩ K hK;go_simp;go_big_quiet_on
 repeat (refine bZ ?_;intro K hK;go_big_quiet_op;go_big_quiet_on)
 refine nH fun W hW hd _=>?_
 have HYB:=ai (hW.blk acn.o);have HO:=ai hd;have mJ:=ai hW;obtain⟨z0,z1,z2,z3,z4,z5,z6,zf⟩:=gR HYB.o;obtain⟨W8,hWj⟩:∃W',W'=W.setCell ⟨g10,6,none⟩ (.slice a5 (k+1+(n - k)) c5):=⟨_,rfl⟩
 have HSC:=ai (show ct [g10] W W8 by rw[hWj];exact afN _ _ _ _);have acn:=ai (show W8.heap[g10]?=some (.cells #[.int .i64 D.oP,.int .i64 D.lim,.int .i64 D.xV,.int .i64 D.xU,.int .i64 D.xN,.bool D.Bt,.slice a5 (k+1+(n - k)) c5] 57 (0,0)) by rw[hWj];have:=afJ (i:=6) HYB.o (.slice a5 (k+1+(n - k)) c5);simpa using this);clear hW hd C6 E0 E1 E2 E3 E4 E5;go_upto_region 9 with fail
 rw[<-hWj];clear hWj z0 z1 z2 z3 z4 z5 z6 zf HYB;have nB:=ai (show Ext W1 W8 from HSC.o.ext (rZ.o.trans mJ.o) (fun y hy=>by rw[aG.1 hy];have:=HNG.o;omega));have a5Q:=ai (show ct [g10] W7 W8 from(mJ.o.cR _).then HSC.o);have HL8:=ai (show iE (mask W8 [g9,g10,g11]) (L.take k++[L[k]]++L.drop k) a5 (k+1+(n - k)) c5 from a5v (cO HO.o HSC.o (fun q hq hm=>by rw[aG.1 hm] at hq;have:=(HO.o.lt _ hq).1;have:=HG7.o g10 (by simp);omega)) HG7.o (by have:=OX.o;simp;omega) nB.o (fun y hy=>by have:=HNG.o;simp only[bz,bC,or_false] at hy;omega) (((HR.o.take k).append (by rw[HZ.o];exact a5D HR.o fq hkv)).append (HR.o.drop k)));have Vt:=ai (a5Q.o.blk Vt.o (by have:=HNG.o;simp;omega));have pG:=ai (a5Q.o.blk pG.o (by have:=HNG.o;simp;omega));have CX:=ai (a5Q.o.blk CX.o (by have:=HNG.o;simp;omega));clear mJ HSC HO;obtain⟨c0,c1',c2',c3',c4',c5',c6,cf⟩:=gR CX.o;have HRZ:=ai (yM.o.ext nB.o);have HG8:=ai (show ∀y∈[g9,g10,g11],y<W8.heap.size from fun y hy=>by
  simp only[bz,bC,or_false] at hy;rcases hy with rfl|rfl|rfl
  ·exact bS Vt.o
  ·exact bS acn.o
  exact bS pG.o)
 have hl7:=bS CX.o;have a56:=bS pG.o;obtain⟨d0,d1,d2,d3,d4,d5,d6,df⟩:=gR pG.o;go_wp2_with (at_builtin;refine gI Qq rfl _ _ rfl W8.heap.size _ 0 [] rfl ?o0 (some ⟨bl,off,none⟩) n c (vs.flatMap jf.cells) rfl ?o1 ?o2 ?o3 ?o4 ?o5 ?o6 ?_)
 case o0=>exact World.ownsRow_lit W8 #[] 0 (aU _) (by simp) rfl
 case o1=>rw[eN jf.cells 6 (fun _=>rfl) vs];omega
 case o2=>exact fun _=>⟨bl,off,rfl,fun j hj=>(Ext.cell ((Tz W8).alloc _) (atO HRZ.o j hj))⟩
 case o3=>exact aK' vs
 case o4=>omega
 case o5=>omega
 case o6=>simp
 intro v3 w3 oC gY abK;have a52:=ai (show Ext W8 w3 from(eX gY).ext ((Tz W8).alloc _) (fun y hy=>by have h:=bV.1 hy;simp only[Value.ownBlock,a42] at h;omega));obtain⟨g,cap,cur,hv3,zR,hgb,hgn,hgc,agM⟩:∃g cap cur,v3=.slice (some ⟨g,0,none⟩) n cap/\W8.heap.size<=g/\w3.heap[g]?=some (.cells cur 69 (0,0))/\n*6<=cur.size/\(∀j,j<n*6->cur[j]?=(vs.flatMap jf.cells)[j]?)/\n<=cap:=by
  rcases oC.2 with ⟨_,h0⟩|⟨g,cap,cur,h1,h2,h3,h4,h5,h6,h7⟩
  ·omega
  have hq:n<=cap:=by simpa using h4
  refine⟨g,cap,cur,by simpa using h1,h2,h3,by rw[h6];omega,fun j hj=>?_,hq⟩;have h8:=congrArg (fun l=>l[j]?) h7
  try simp only[Nat.zero_add] at h8
  rw[List.getElem?_take,bM hj] at h8;simpa using h8
 subst hv3;have pG:=ai (a52.o.blk pG.o);have HGC:=ai hgc;have HGB:=ai hgb;clear hgc hgb oC gY abK d0 d1 d2 d3 d4 d5 d6 df c0 c1' c2' c3' c4' c5' c6 cf;obtain⟨d0,d1,d2,d3,d4,d5,d6,df⟩:=gR pG.o;obtain⟨W9,hW9⟩:∃W',W'=w3.setCell ⟨g11,6,none⟩ (.slice (some ⟨g,0,none⟩) n cap):=⟨_,rfl⟩
 have AM:=ai (show ct [g11] w3 W9 by rw[hW9];exact afN _ _ _ _);have pG:=ai (show W9.heap[g11]?=some (.cells #[.int .i64 D.oP,.int .i64 D.lim,.int .i64 D.xV,.int .i64 D.xU,.int .i64 D.xN,.bool D.Bt,.slice (some ⟨g,0,none⟩) n cap] 57 (0,0)) by rw[hW9];have:=afJ (i:=6) pG.o (.slice (some ⟨g,0,none⟩) n cap);simpa using this);go_upto_region 10 with fail
 rw[<-hW9];have HGG:=ai (show g≠g9/\g≠g10/\g≠g11 from by
  have h1:=HG8.o g9 (by simp);have h2:=HG8.o g10 (by simp);have h3:=HG8.o g11 (by simp);omega)
 have HGB:=ai (AM.o.blk HGB.o (by have:=HGG.o;simp;omega));have a5Y:=ai (show ct [g11] W8 W9 from(a52.o.cR _).then AM.o);clear hW9 d0 d1 d2 d3 d4 d5 d6 df hl7 a56;have qw:=ai (show ∀j (hj:j<6),cur[k*6+j]?=some (z.cells[j]'hj) from fun j hj=>by
  have h2:=iJ jf.cells 6 jf.len vs k hkv j (by rw[jf.len];exact hj);rw[HGC.o (k*6+j) (by omega),h2,HZ.o]
  first|done|rfl)
 have e0:W9.cell? ⟨g,k*6,none⟩=some (.string z.name):=by rw[bX HGB.o];exact qw.o 0 (by omega)
 have e1:W9.cell? ⟨g,k*6+1,none⟩=some (.bool z.dg):=by rw[bX HGB.o];exact qw.o 1 (by omega)
 have e2:W9.cell? ⟨g,k*6+2,none⟩=some (.bool z.p.value):=by rw[bX HGB.o];exact qw.o 2 (by omega)
 have e3:W9.cell? ⟨g,k*6+3,none⟩=some (.int .i64 z.p.pick):=by rw[bX HGB.o];exact qw.o 3 (by omega)
 have e4:W9.cell? ⟨g,k*6+4,none⟩=some (.slice z.p.a z.p.n z.p.c):=by rw[bX HGB.o];exact qw.o 4 (by omega)
 have e5:W9.cell? ⟨g,k*6+5,none⟩=some (.slice z.a z.n z.c):=by rw[bX HGB.o];exact qw.o 5 (by omega)
 obtain⟨d0,d1,d2,d3,d4,d5,d6,df⟩:=gR pG.o;obtain⟨Sk,a5U⟩:∃b,b=W9.heap.size:=⟨_,rfl⟩
 obtain⟨W10,a5O⟩:∃W',W'=W9.alloc (.cells #[.string z.name,.bool z.dg,.bool z.p.value,.int .i64 z.p.pick,.slice z.p.a z.p.n z.p.c,.slice z.a z.n z.c] 69):=⟨_,rfl⟩
 have HB12:=ai (show W10.heap[Sk]?=some (.cells #[.string z.name,.bool z.dg,.bool z.p.value,.int .i64 z.p.pick,.slice z.p.a z.p.n z.p.c,.slice z.a z.n z.c] 69 (0,0)) by rw[a5O,a5U];exact bR W9 _);have kg:=ai (show Ext W9 W10 by rw[a5O];exact(Tz W9).alloc _);go_upto_region 11 with fail
 rw[<-a5O,<-a5U];have HGB:=ai (kg.o.blk HGB.o);have a5W:=ai (show Sk≠g/\W9.heap.size<=Sk from by have h2:=eB e0;simp only at h2;omega);have pG:=ai (kg.o.blk pG.o);clear a5U a5O e0 e1 e2 e3 e4 e5 d0 d1 d2 d3 d4 d5 d6 df;obtain⟨y0,y1,y2,y3,y4,y5,yf⟩:=dH HB12.o;obtain⟨W11,a5N⟩:∃W',W'=W10.setCell ⟨Sk,2,none⟩ (.bool !z.p.value):=⟨_,rfl⟩
 have K9:=ai (show ct [Sk] W10 W11 by rw[a5N];exact afN _ _ _ _);have HB12:=ai (show W11.heap[Sk]?=some (.cells #[.string z.name,.bool z.dg,.bool !z.p.value,.int .i64 z.p.pick,.slice z.p.a z.p.n z.p.c,.slice z.a z.n z.c] 69 (0,0)) by rw[a5N];have:=afJ (i:=2) HB12.o (.bool !z.p.value);simpa using this);go_upto_region 12 with fail
 rw[<-a5N];have HGB:=ai (K9.o.blk HGB.o (by have:=a5W.o;simp;omega));have pG:=ai (K9.o.blk pG.o (by have:=a5W.o;have:=bS pG.o;have:=HG8.o g11 (by simp);have:=a5Y.o.size;simp;omega));clear a5N y0 y1 y2 y3 y4 y5 yf;obtain⟨y0,y1,y2,y3,y4,y5,yf⟩:=dH HB12.o;obtain⟨d0,d1,d2,d3,d4,d5,d6,df⟩:=gR pG.o;have cg:∀j,W11.frozen? ⟨g,j,none⟩=false:=fun j=>frozen_of_row W11 g j cur _ HGB.o
 have e0:W11.cell? ⟨g,k*6,none⟩=some (.string z.name):=by rw[bX HGB.o];exact qw.o 0 (by omega)
 have e1:W11.cell? ⟨g,k*6+1,none⟩=some (.bool z.dg):=by rw[bX HGB.o];exact qw.o 1 (by omega)
 have e2:W11.cell? ⟨g,k*6+2,none⟩=some (.bool z.p.value):=by rw[bX HGB.o];exact qw.o 2 (by omega)
 have e3:W11.cell? ⟨g,k*6+3,none⟩=some (.int .i64 z.p.pick):=by rw[bX HGB.o];exact qw.o 3 (by omega)
 have e4:W11.cell? ⟨g,k*6+4,none⟩=some (.slice z.p.a z.p.n z.p.c):=by rw[bX HGB.o];exact qw.o 4 (by omega)
 have e5:W11.cell? ⟨g,k*6+5,none⟩=some (.slice z.a z.n z.c):=by rw[bX HGB.o];exact qw.o 5 (by omega)
 obtain⟨Yh,a5A⟩:∃W',W'=a5g W11 g (k*6) { z with p:={ z.p with value:=!z.p.value } }:=⟨_,rfl⟩
 have a58:=ai a5A;have Lp:=ai (show ct [g] W11 Yh by rw[a5A];exact a5w _ _ _ _);unfold a5g at a5A;dsimp only at a5A;go_upto_region 13 with fail
 rw[<-a5A];clear a5A y0 y1 y2 y3 y4 y5 yf d0 d1 d2 d3 d4 d5 d6 df cg e0 e1 e2 e3 e4 e5;have ah6:=ai (show ct [g11] W8 Yh from((a5Y.o.then (kg.o.cR _)).trans K9.o (fun y hy=>by rw[aG.1 hy];have:=a5Y.o.size;have:=a5W.o;exact a4Z (by omega))).trans Lp.o (fun y hy=>by rw[aG.1 hy];exact a4Z zR));have sH:=ai (show Ext W1 Yh from ah6.o.ext nB.o (fun y hy=>by rw[aG.1 hy];have:=HNG.o;omega));have pG:=ai (Lp.o.blk pG.o (by have:=HGG.o;simp;omega));have Vt:=ai (ah6.o.blk Vt.o (by have:=HNG.o;simp;omega));have acn:=ai (ah6.o.blk acn.o (by have:=HNG.o;simp;omega));have nU:=ai (sH.o.blk nU.o);have nS:=ai (show ct [bd] w2 Yh from mE.o.then (sH.o.cR _));obtain⟨P1,P2,P3⟩:=Nb.o k fq;have q1:=(HL7.o.mono ((cF a5Q.o (by simp)).trans (cF ah6.o (by simp)))).mono (cC _ _);have q2:=(HL8.o.mono (cF ah6.o (by simp))).mono (cC _ _);have CA:=HR.o.mono (a5p (N:=[]) sH.o (by simp));have q3:=(a5L HGB.o HGC.o hgn (by omega) hkn agM a58.o (by simp) CA (by rw[HZ.o];exact a5z (CA.2 k fq hkv))).mono (cC _ _);have V1:=fun W (hW:Ext Yh W)=>aSQ.o W (nS.o.then (hW.cR _)) _ _ _ _ (q1.mono hW.sub)
 have V2:=fun W (hW:Ext Yh W)=>aSQ.o W (nS.o.then (hW.cR _)) _ _ _ _ (q2.mono hW.sub)
 have V3:=fun W (hW:Ext Yh W)=>aSQ.o W (nS.o.then (hW.cR _)) _ _ _ _ (q3.mono hW.sub)
 rw[P1] at V1;rw[P2] at V2;rw[P3] at V3;have VG:=ai V1;have JF:=ai V2;have HV3:=ai V3;clear V1 V2 V3 CA P1 P2 P3 q1 q2 q3;obtain⟨x0,x1,x2,xf⟩:=dM (nU.o);obtain⟨d0,d1,d2,d3,d4,d5,d6,df⟩:=gR (Vt.o);go_wp2_with fail
 refine(VG.o Yh (Tz _)).mono ?_;rintro r LD ⟨rfl,hx⟩;have HY1:=ai (show Ext Yh LD from hx);clear hx x0 x1 x2 xf d0 d1 d2 d3 d4 d5 d6 df;obtain⟨x0,x1,x2,xf⟩:=dM (HY1.o.blk nU.o);obtain⟨d0,d1,d2,d3,d4,d5,d6,df⟩:=gR (HY1.o.blk acn.o);go_wp2_with fail
 refine(JF.o LD HY1.o).mono ?_;rintro r Jq ⟨rfl,hx⟩;have HY2:=ai (show Ext Yh Jq from HY1.o.trans hx);clear hx x0 x1 x2 xf d0 d1 d2 d3 d4 d5 d6 df;obtain⟨x0,x1,x2,xf⟩:=dM (HY2.o.blk nU.o);obtain⟨d0,d1,d2,d3,d4,d5,d6,df⟩:=gR (HY2.o.blk pG.o);go_wp2_with fail
 refine(HV3.o Jq HY2.o).mono ?_;rintro r w15 ⟨rfl,hx⟩;have HY3:=ai (show Ext Yh w15 from HY2.o.trans hx);clear hx x0 x1 x2 xf d0 d1 d2 d3 d4 d5 d6 df;go_wp2_with fail
 refine(Rq.o w15 (HXD.o w15 (nS.o.then (HY3.o.cR _)))).mono ?_;rintro r w16 ⟨rfl,hx⟩;have HY4:=ai ((HXD.o w15 (nS.o.then (HY3.o.cR _))).trans hx);clear hx;go_wp2_with fail
 go_ret;exact bW rfl HY4.o
end Go.Proofs.YtefjomofjejklaaGreatDoor
