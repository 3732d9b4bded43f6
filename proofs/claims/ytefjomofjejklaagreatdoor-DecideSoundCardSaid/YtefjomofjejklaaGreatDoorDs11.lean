/- Joined. -/
import Derived.Test.YtefjomofjejklaaGreatDoorDs10
namespace Go.Proofs.YtefjomofjejklaaGreatDoor
set_option maxRecDepth 100000
set_option maxHeartbeats 32000000
open Go.RowKit
def exT:Ex:=.mk 1 ⟨#[]⟩ [] 0 0 []
def Sb (attrs:List Attr) (names:ZB) (kd:Int) (nm:BA) (c:cK):Prop:=c.kind=kd/\c.name=nm/\oX attrs names 3 c.cond/\((kd=3/\Rm attrs names c.gH/\mH c.gH<=6)\/c.gH=[])/\aGB kd c.ck/\Us c
def aej (attrs:List Attr) (p:BA) (c:cK):Prop:=c.kind=2/\c.name=ym p 0/\(oX attrs [] 3 c.cond\/c.cond=exT)/\c.gH=[]/\c.ck=0
def adZ (attrs:List Attr) (p:BA) (l:List cK):Prop:=(∀c∈l,Us c/\c.name.size=p.size+2)/\((∃c,l=[c]/\aej attrs p c)\/cV attrs l=(0,0))/\∃c∈l,c.kind=2
def FQ:Obj:=.cells #[.int .i64 0,.string ⟨#[]⟩,.int .i64 0,.string ⟨#[]⟩,.slice none 0 0,.int .i64 0,.int .i64 0,.slice none 0 0,.slice none 0 0,.int .i64 0] 48 (0,0)
theorem lG {w w':World} {base:Nat} {e:TypeId} {size:Nat} {v:Value} {n:Nat} {xs:List Value} (h:w.ownsRow base e size v n xs) (hx:Ext w w'):w'.ownsRow base e size v n xs:=cO h (hx.cR []) (by simp)
section
variable {w0 w2 W W':World} {attrs:List Attr} {names:ZB} {bd:Nat} {N:ZN} {nm:BA} {L:ZN} {vs:Nat->Value}
end
theorem ayF {w:World} {base base':Nat} {e:TypeId} {size:Nat} {v:Value} {n:Nat} {xs:List Value} (h:w.ownsRow base e size v n xs) (hb:base'<=base):w.ownsRow base' e size v n xs:=by
 refine⟨h.1,?_⟩;rcases h.2 with h2|⟨g,cap,cur,h3,h4,h5⟩
 ·exact aoX h2
 exact a4Z ⟨g,cap,cur,h3,aV hb h4,h5⟩
theorem yD {W w2:World} {bd:Nat} {M:ZN} {v v':Value} (hc:ct (rowOf v) W w2) (hg:∀k,v'.ownBlock=some k->v.ownBlock=some k\/W.heap.size<=k):Sub (mask W (bd::rowOf v++M)) (mask w2 (bd::rowOf v'++M)):=by
 refine cQ fun k hk hn=>⟨fun hm=>?_,hc.block k hk fun hm=>hn (by simp[hm])⟩
 simp only[a48,bz,aN] at hm hn;rcases hm with h|h|h
 ·exact hn (aoX h)
 ·rcases hg k (bV.1 h) with e|e
  ·exact hn (a4Z (aoX (bV.2 e)))
  omega
 exact hn (a4Z (a4Z h))
theorem a5t {W:World} {c:cK} {v:fM} {n g:Nat} (h:ij (mask W (List.range n)) c v) (hg:g<n\/W.heap.size<=g):ij (mask W (List.range n++[g])) c v:=h.mono (fun p u hp=>by
 have hl:=eB (cC _ _ p u hp);rw[eA] at hp ⊢;by_cases hm:p.block∈List.range n
 ·rw[bM hm] at hp;cases hp
 rw[bL hm] at hp;rw[bL (fun q=>by
  rcases aN.1 q with q|q
  ·exact hm q
  rw[aG.1 q] at hl hm;rcases hg with hg|hg
  ·exact hm (a43.2 hg)
  omega)]
 exact hp)
def a0S (w0 w:World) (attrs:List Attr) (p:BA) (bd bs _lw g:Nat) (N:ZN) (sa:OA) (sn sc:Nat) (wx:World):Prop:=∃(c:cK) (cv:fM),wx.heap[g]?=some (.cells cv.cells.toArray 48 (0,0))/\ij (mask wx N) c cv/\aej attrs p c/\Us c/\cg w0 wx bd/\ct [bd] w wx/\wx.heap[bs]?=some (.cells #[.slice sa sn sc] 24 (0,0))
structure GLp (w0 w:World) (attrs:List Attr) (p:BA) (bd bs lw n:Nat) (M:ZN) (sa:OA) (sn sc:Nat) (nv lv:Value) (K:Nat) (names:ZB) (l:List cK) (VF:List fM) (wr:World):Prop where
 k1:1<=K
 kn:K<=n+1
 lk:l.length<=K
 l1:1<=l.length
 nk:names.length<=K
 nsz:∀x∈names,x.size<=1000
 adC:wr.ownsRow lw 9 1 nv names.length (names.flatMap iC)
 adE:wr.ownsRow lw 48 10 lv l.length (VF.flatMap fM.cells)
 OV:vG (mask wr (bd::rowOf nv++M)) l VF
 apart:∀g,lv.ownBlock=some g->nv.ownBlock≠some g
 ok:adZ attrs p l
 oA:cg w0 wr bd
 cR:ct [bd] w wr
 box:wr.heap[bs]?=some (.cells #[.slice sa sn sc] 24 (0,0))
def GLq (w0 w:World) (attrs:List Attr) (p:BA) (bd bs lw n:Nat) (M:ZN) (sa:OA) (sn sc:Nat) (nv lv k:Value) (wr:World):Prop:=∃(K:Nat) (names:ZB) (l:List cK) (VF:List fM),k=.int .i64 ((K:Nat):Int)/\GLp w0 w attrs p bd bs lw n M sa sn sc nv lv K names l VF wr
theorem GLp.Ot {w0 w:World} {attrs:List Attr} {p:BA} {bd bs lw n:Nat} {M:ZN} {sa:OA} {sn sc:Nat} {nv lv:Value} {K:Nat} {names:ZB} {l:List cK} {VF:List fM} {wr wr':World} (h:GLp w0 w attrs p bd bs lw n M sa sn sc nv lv K names l VF wr) (hx:Ext wr wr'):GLp w0 w attrs p bd bs lw n M sa sn sc nv lv K names l VF wr' :=
 {h with adC:=lG h.adC hx,adE:=lG h.adE hx,OV:=h.OV.mono (cP (hx.cR [bd]) (by simp)),oA:=h.oA.ext hx,cR:=h.cR.then (hx.cR _),box:=hx.blk h.box }
theorem adO {s:List Attr} {l:List cK} (h:(cV s l).2=0):cV s l=(0,0):=by
 have key:∀(f:Nat->Int) (n:Nat),(kZ f n).2=0->kZ f n=(0,0):=by
  intro f n;induction n with
  | zero=>intro _;rfl
  | succ n ih =>
   intro h;rw[kZ] at h ⊢;by_cases h1:(kZ f n).2≠0
   ·rw[bM h1] at h;exact a40 h h1
   rw[bL h1] at h ⊢;by_cases h2:f n≠0
   ·rw[bM h2] at h;exact a40 h h2
   rw[bL h2]
 unfold cV at h ⊢;split at h
 ·rename_i h1;exact a40 h h1
 split at h
 ·simp at h
 split at h
 ·rename_i h1;exact a40 h h1
 split at h
 ·simp at h
 rename_i h1 h2 h3 h4
 rw[bL h1,bL h2,bL h3,bL h4];exact key _ _ h
theorem iB {attrs:List Attr} (h:attrs∈gi):∀x∈attrs,x.fits:=by
 intro x hx;have:=aP.1 (aP.1 acz attrs h) x hx;simp only[aF,aH,aP] at this;exact⟨by omega,by omega,fun y hy=>by have:=this.2.2 y hy;omega⟩
def ake (w:World) (B:Nat) (v:fM):World:=(((((((((w.setCell ⟨B,0,none⟩ (.int .i64 v.kind)).setCell ⟨B,1,none⟩ (.string v.name)).setCell ⟨B,2,none⟩ (.int .i64 v.x.op)).setCell ⟨B,3,none⟩ (.string v.x.name)).setCell ⟨B,4,none⟩ (.slice v.x.aw v.x.nw v.x.cw)).setCell ⟨B,5,none⟩ (.int .i64 v.x.lo)).setCell ⟨B,6,none⟩ (.int .i64 v.x.hi)).setCell ⟨B,7,none⟩ (.slice v.x.aa v.x.na v.x.ca)).setCell ⟨B,8,none⟩ (.slice v.au v.nu v.cu)).setCell ⟨B,9,none⟩ (.int .i64 v.ck)
theorem ayt {w:World} {B:Nat} (h:w.heap[B]?=some FQ) (v:fM):(ake w B v).heap[B]?=some (.cells v.cells.toArray 48 (0,0)):=by
 unfold ake;unfold FQ at h;rw[aI _ _ _ _ _ _ (aI _ _ _ _ _ _ (aI _ _ _ _ _ _ (aI _ _ _ _ _ _ (aI _ _ _ _ _ _ (aI _ _ _ _ _ _ (aI _ _ _ _ _ _ (aI _ _ _ _ _ _ (aI _ _ _ _ _ _ (aI _ _ _ _ _ _ h)))))))))];simp[fM.cells]
theorem ays (w:World) (B:Nat) (v:fM):ct [B] w (ake w B v):=by
 unfold ake
 repeat (with_reducible (refine ct.setCell ?_ (aoX (by simp)) _))
 exact ct.refl _ _
def aGu (attrs:List Attr) (p:BA) (n:Nat) (w0:World) (bd:Nat) (M:ZN) (w:World) (e:Ending) (w':World):Prop:=∃l a ln c,e=.returned (.slice a ln c)/\cZ (mask w' M) l a ln c/\adZ attrs p l/\1<=l.length/\l.length<=n+1/\cg w0 w' bd/\ct [bd] w w'
theorem DL {attrs:List Attr} (hat:attrs∈gi) (hok:∀a∈attrs,QG a) (hne:attrs≠[]) (hl:attrs.length<=1000) {w0 w:World} {bd:Nat} (hd:cg w0 w bd) (sa:OA) (sn sc:Nat) (M:ZN) (hs:dB (mask w [bd]) attrs (.agg #[.slice sa sn sc])) (hM:∀y∈M,y<w.heap.size) (n:Nat) (hn:n<=50) (p:BA) (hp:p.size<=100) :
  Calls Tryz.prog 39 #[.pointer (some ⟨bd,0,none⟩),.agg #[.slice sa sn sc],.int .i64 (n:Nat),.string p] w (aGu attrs p n w0 bd M w):=by
 have qL:=hd.lt;obtain⟨wr,hwr⟩:∃wr,wr=w.alloc (.cells #[.slice sa sn sc] 24):=⟨_,rfl⟩
 obtain⟨bs,CR⟩:∃bs,bs=w.heap.size:=⟨_,rfl⟩
 have gB:Ext w wr:=by rw[hwr];exact(Tz w).alloc _
 have dm:=ai gB;have jm:=ai (show wr.heap[bs]?=some (.cells #[.slice sa sn sc] 24 (0,0)) by rw[hwr,CR];exact bR w _);have yz:=ai (hd.ext gB);have HS:=ai hs;have HM:=ai hM;have jL:=ai (show bd<bs/\bs=w.heap.size/\wr.heap.size=w.heap.size+1 from⟨by omega,CR,by rw[hwr];simp⟩);have RU:=ai hok;have HDS:=ai (show w0.heap.size<=w.heap.size by obtain⟨_,_,_,_,_,_,_,_,hxw,_⟩:=hd;exact hxw.size);have HPS:=ai (show p.size<=1000 by omega);go_enter Tryz.func39,Tryz.ntmps39
 go_upto_region 2 with fail;rw[<-hwr,<-CR];clear hwr CR gB hd hs hM hok qL;obtain⟨lw,hlw⟩:∃lw,lw=w.heap.size+1:=⟨_,rfl⟩
 have HLW:=ai (show lw<=wr.heap.size by have:=jL.o;omega);obtain⟨names,au2⟩:∃names:ZB,names=[]:=⟨_,rfl⟩
 obtain⟨kd,tC⟩:∃kd:Int,kd=2:=⟨_,rfl⟩
 obtain⟨nm,hnm⟩:∃nm,nm=ym p 0:=⟨_,rfl⟩
 obtain⟨N,hN⟩:∃N,N=bd::M:=⟨_,rfl⟩
 have qY:=ai (show bd∈N by rw[hN];simp);have qC:=ai (show ∀W,cg w0 W bd->ct [bd] wr W->Calls Tryz.prog 19 #[.pointer (some ⟨bd,0,none⟩),.agg #[.slice sa sn sc],.int .i64 2,.string (ym p 0),.slice none 0 0] W (aJG attrs names kd nm w0 bd N W) from fun W hd hW=>by
  rw[au2,tC,hnm];exact Ge hat [] RU.o hne hl (by simp) (by simp) hd sa sn sc none 0 0 N (HS.o.mono (cP ((dm.o.cR [bd]).then hW) (by simp))) (ji _) (fun y hy=>by
   rw[hN] at hy;have h1:=hW.size;have h2:=jL.o;rcases bz.1 hy with rfl|h
   ·omega
   have:=HM.o y h;omega) 2 _)
 have qP:=ai (show N=bd::M/\names=[]/\kd=2/\nm=ym p 0/\lw=w.heap.size+1 from⟨hN,au2,tC,hnm,hlw⟩);clear hN au2 tC hnm hlw;obtain⟨g7,gf7⟩:=dO jm.o;have C7:=cU g7 (show bs∉[bd] by have:=jL.o;simp;omega);refine pT 7 [bd] (fun W=>cg w0 W bd) (yz.o.ext (Tz _).drew) (fun _ _ hx h=>h.ext hx) ?_
 repeat (refine bZ ?_;intro Ka cH;go_big_quiet_op;go_big_quiet_on)
 refine mU (fun W _=>Wk p 0 (by omega) HPS.o W) ?_ (fun _ _ hx h=>h.ext hx);intro Ka cH;go_simp;go_big_quiet_on;refine dP (γ:=cK×fM) (fun x=>clV x.2) (fun x W=>ij (mask W N) x.1 x.2/\Sb attrs names kd nm x.1/\cg w0 W bd) (fun W hW hd _=>?_) (fun x _ _ hx h=>⟨h.1.mono (cF (hx.cR []) (by simp)),h.2.1,h.2.2.ext hx⟩) ?_ ⟨(fC,⟨0,⟨#[]⟩,⟨0,⟨#[]⟩,none,0,0,0,0,none,0,0⟩,none,0,0,0⟩)⟩
 ·unfold bQ;go_simp;refine(qC.o W hd hW).mono ?_;rintro e5 w5 ⟨c,cv,rfl,k1,k2,k3,k4,k5,k6,Iz,oW,hc5⟩;exact⟨_,rfl,hc5,(c,cv),rfl,Iz,⟨k1,k2,k3,k4,k5,k6⟩,oW⟩
 rintro⟨c,cv⟩ Ka cH;unfold clV;go_simp;go_big_quiet_on;refine Az (fun g=>.slice (some ⟨g,0,none⟩) 1 1) (fun g W=>W.heap[g]?=some (.cells #[.int .i64 cv.kind,.string cv.name,.int .i64 cv.x.op,.string cv.x.name,.slice cv.x.aw cv.x.nw cv.x.cw,.int .i64 cv.x.lo,.int .i64 cv.x.hi,.slice cv.x.aa cv.x.na cv.x.ca,.slice cv.au cv.nu cv.cu,.int .i64 cv.ck] 48 (0,0))/\lw<=g/\g≠bd) (fun W hW=>?_) (fun g W W' h q=>⟨h.blk q.1 (by simpa using q.2.2),q.2⟩) ?_
 ·unfold bQ;go_simp;exact⟨(Tz W).alloc _,W.heap.size,rfl,bR W _,by have:=hW.size;have:=HLW.o;omega,by have:=hW.size;have:=yz.o.lt;omega⟩
 intro g Ka cH;go_simp;go_big_quiet_on
 repeat (refine bZ ?_;intro Ka cH;go_big_quiet_op;go_big_quiet_on)
 refine gC fun W hW hy hf=>?_
 have vE:=ai (show W.heap[g]?=some (.cells cv.cells.toArray 48 (0,0))/\lw<=g/\g≠bd/\ij (mask W N) c cv/\Sb attrs names kd nm c from⟨hf.2.1,hf.2.2.1,hf.2.2.2,hy.1,hy.2.1⟩);have hW2:cg w0 W bd/\ct [bd] wr W:=⟨hy.2.2,hW⟩
 clear hy hf hW C7 g7 gf7;have qO:=ai hW2;obtain⟨hgb,Qb,hgd,hgi,hgc⟩:=vE.o;have HGB:=ai hgb;have HGI:=ai hgi;have HGC:=ai hgc;have Yq:=ai (And.intro Qb hgd);have HW3:=ai (show ct [bd] w W from(dm.o.cR [bd]).then hW2.2);have GX:=ai (hW2.2.blk jm.o (by have:=jL.o;simp;omega));clear hgb Qb hgd hgi hgc hW2 vE;go_wp2_with fail;refine(dx qO.o.1 3 (by omega) (by omega)).mono ?_;rintro e w5 ⟨z,rfl,hz0,hz1,oW,hc5⟩;have aMb:=hc5.blk HGB.o (by have:=Yq.o;simp;omega);have N6:=ai aMb;have uV:=ai oW;have pU:=ai (HW3.o.then hc5);have Um:=ai (HGI.o.mono (cP hc5 qY.o));have gW:=ai (hc5.blk GX.o (by have:=jL.o;simp;omega));obtain⟨c0,c1,c2,c3,c4,c5,c6,c7,c8,c9,cf⟩:=rB aMb;have Sa:=ai (show aej attrs p c from by
  obtain⟨_,e2,e3,e4,_⟩:=qP.o;obtain⟨k1,k2,k3,k4,k5,k6⟩:=HGC.o;rw[e2] at k3;refine⟨by rw[k1,e3],by rw[k2,e4],aoX k3,?_,?_⟩
  ·rcases k4 with h|h
   ·have:=h.1;omega
   exact h
  rw[e3] at k5;rcases k5 with ⟨_,h⟩|⟨h,_⟩
  ·exact h
  simp[ku] at h)
 clear oW hc5 aMb HGB HGI qO HW3 GX qC yz jm
 go_upto_if 24 with fail
 go_cut [] (a0S w0 w attrs p bd bs lw g N sa sn sc)
 case first =>
  by_cases hz:0<z
  ·have tz:=ag (0<z) hz;go_wp2_with fail
   go_meet
   case rel =>
    have hcs:ct [g] w5 ((((((w5.setCell ⟨g,2,none⟩ (.int .i64 1)).setCell ⟨g,3,none⟩ (.string ⟨#[]⟩)).setCell ⟨g,4,none⟩ (.slice none 0 0)).setCell ⟨g,5,none⟩ (.int .i64 0)).setCell ⟨g,6,none⟩ (.int .i64 0)).setCell ⟨g,7,none⟩ (.slice none 0 0)):=by
     repeat (with_reducible (refine ct.setCell ?_ (aoX (by simp)) _))
     exact ct.refl _ _
    obtain⟨i1,i2,i3,i4,i5,i6,i7,i8⟩:=Um.o;obtain⟨f1,f2,f3,f4,f5⟩:=Sa.o;refine⟨⟨c.kind,c.name,exT,c.gH,c.ck⟩,⟨cv.kind,cv.name,⟨1,⟨#[]⟩,none,0,0,0,0,none,0,0⟩,cv.au,cv.nu,cv.cu,cv.ck⟩,?_,⟨i1,i2,eT _ 1 0 0 _,i4,i5,i6,?_,i8⟩,⟨f1,f2,a4Z rfl,f4,f5⟩,?_,?_,?_,?_⟩
    ·have hh:=aI _ g 7 _ _ (.slice none 0 0) (aI _ g 6 _ _ (.int .i64 0) (aI _ g 5 _ _ (.int .i64 0) (aI _ g 4 _ _ (.slice none 0 0) (aI _ g 3 _ _ (.string ⟨#[]⟩) (aI _ g 2 _ _ (.int .i64 1) N6.o)))));rw[hh];simp[fM.cells]
    ·rw[f4];unfold gK;trivial
    ·obtain⟨k1,k2,k3,k4,k5,k6⟩:=HGC.o.2.2.2.2.2;exact⟨by unfold exT;exact rP (by show 0<=_;omega),by unfold exT Ex.iT mR;exact⟨by simp,trivial⟩,by simp[exT,Ex.size,sizes],by unfold exT qT;simp[Eb],k5,k6⟩
    ·exact uV.o.cR hcs (by have:=Yq.o;simp;omega) (fun y hy=>by simp only[aG] at hy;have:=Yq.o;have:=qP.o;have:=HDS.o;omega)
    ·exact pU.o.trans hcs (fun y hy=>by simp only[aG] at hy;have:=Yq.o;have:=qP.o;exact a4Z (by omega))
    exact hcs.blk gW.o (by have:=Yq.o;have:=qP.o;have:=jL.o;simp;omega)
  have tz:=ah (0<z) hz;go_wp2_with fail
  go_meet
  case rel=>exact⟨c,cv,N6.o,Um.o,Sa.o,HGC.o.2.2.2.2.2,uV.o,pU.o,gW.o⟩
 case rest =>
  obtain⟨wx,rfl⟩:∃wx:World,wx=wc:=⟨_,rfl⟩
  obtain⟨c',cv',lN,hi6,hf6,zQ,Ku,pI,gN⟩:=hcut;clear c0 c1 c2 c3 c4 c5 c6 c7 c8 c9 cf N6 uV pU Um gW Sa HGC;have HGP:=ai (show GLp w0 w attrs p bd bs lw n M sa sn sc (.slice none 0 0) (.slice (some ⟨g,0,none⟩) 1 1) 1 [] [c'] [cv'] wx from
   {k1:=by omega,kn:=by omega,lk:=by simp,l1:=by simp,nk:=by simp,nsz:=by simp,adC:=a4' _ _ _ _
    adE:=⟨rfl,a4Z ⟨g,1,_,rfl,Yq.o.1,lN,aU _,by unfold maxLen;omega,rfl,by simp[fM.cells]⟩⟩
    OV:=by
     refine⟨rfl,fun i h1 h2=>?_⟩;obtain rfl:i=0:=by simpa using h1
     have:=hi6;rw[qP.o.1] at this;exact this
    apart:=by simp[Value.ownBlock]
    ok:=⟨fun y hy=>by
     obtain rfl:y=c':=by simpa using hy
     exact⟨zQ,by rw[hf6.2.1,Wl]⟩,aoX ⟨c',rfl,hf6⟩,c',by simp,hf6.1⟩
    oA:=Ku,cR:=pI,box:=gN })
  have HLE:=ai qP.o.2.2.2.2;clear lN hi6 hf6 zQ Ku pI gN qP qY Yq dm HLW;go_wp2_with fail;go_loopw [9,10,11] (GLq w0 w attrs p bd bs lw n M sa sn sc) (fun _ _ k _=>n+1 - (intOf k).toNat)
  case atStart=>exact⟨1,[],[c'],[cv'],rfl,HGP.o⟩
  case round =>
   obtain⟨K,names,l,VF,rfl,hgp⟩:=hrel;clear HGP;obtain⟨an,cn,hnv⟩:=eP hgp.adC;subst hnv;obtain⟨lg,lc,rfl,-,-⟩:=hgp.adE.form hgp.l1;have HGP:=ai hgp;have hK1:=hgp.k1;have hKn:=hgp.kn;have hlk:=hgp.lk;have sA:=hgp.l1;have hdk:=hgp.oA;have yz:=ai hdk;clear hgp hdk;have aN2:=ai (show ∀W,Ext wr W->∃a c,Value.slice (some ⟨lg,0,none⟩) l.length lc=.slice a l.length c/\aGu attrs p n w0 bd M w (.returned (.slice a l.length c)) W from fun W hx=>by
    have h:=HGP.o.Ot hx;obtain⟨a',c',hv,hcl⟩:=yJ (M:=M) h.adE (fun k hk hm=>by have h1:=(h.adE.lt k hk).1;have:=HM.o k hm;have:=HLE.o;omega) (h.OV.mono (cM _ (fun y hy=>by simp[hy])));exact⟨a',c',hv,l,a',l.length,c',rfl,hcl,h.ok,h.l1,by have:=h.lk;omega,h.oA,h.cR⟩)
   by_cases hkn:K<=n
   ·have tk:=ag ((K:Int)<=(n:Int));go_wp2_with fail;refine(auM yz.o).mono ?_;rintro r w2 ⟨lb,rfl,hx2⟩;cases lb
    ·obtain⟨a',c',hv,hq⟩:=aN2.o w2 hx2;have HV:=ai hv;have HQ:=ai hq;clear hv hq hx2;go_wp2_with fail;go_ret;rw[HV.o];exact HQ.o
    have vr:=ai (HGP.o.Ot hx2);clear hx2 HGP yz aN2;go_upto_region 8 with fail;have yz:=ai vr.o.oA;have jm:=ai vr.o.box;have HLW:=ai (show lw<=w2.heap.size by have:=(vr.o.adE.lt lg rfl);omega);have HKB:=ai (show K<=51 by omega);have OX:=ai (show names.length<=51 by have:=vr.o.nk;omega);obtain⟨N0,hN0⟩:∃N0,N0=rowOf (.slice an names.length cn)++M:=⟨_,rfl⟩
    obtain⟨nm,hnm⟩:∃nm,nm=ym p K:=⟨_,rfl⟩
    have AQ:=ai hnm.symm;have pX:=ai (show ∀y∈bd::N0,y<w2.heap.size by
     intro y hy;rw[hN0] at hy;have h4:=jL.o;have h5:=HLW.o;have h6:=HLE.o;simp only[bz,aN] at hy;rcases hy with rfl|h|h
     ·omega
     ·exact(vr.o.adC.lt y (bV.1 h)).2
     have:=HM.o y h;omega)
    have qC:=ai (show ∀kd W M',cg w0 W bd->ct [bd] w2 W->(∀y∈M',y<W.heap.size)->Calls Tryz.prog 19 #[.pointer (some ⟨bd,0,none⟩),.agg #[.slice sa sn sc],.int .i64 kd,.string nm,.slice an names.length cn] W (aJG attrs names kd nm w0 bd M' W) from fun kd W M' hd hW hM'=>by
     have hbd:bd<lw:=by have:=jL.o;have:=HLE.o;omega
     obtain⟨a',c',hv,h1,h2⟩:=jR vr.o.adC [bd] (by simp;exact hbd);simp only[a45] at hv;obtain⟨rfl,_,rfl⟩:=hv;exact Ge hat names RU.o hne hl (by have:=OX.o;omega) vr.o.nsz hd sa sn sc _ _ _ M' (HS.o.mono (cP (vr.o.cR.then hW) (by simp))) (h1.mono (cP hW (by simp))) hM' kd _)
    have qP:=ai hN0;clear hN0 hnm;have kB:=ai (fun W=>show Calls Tryz.prog 66 #[.string p,.int .i64 (K:Nat)] W (cz (.string nm) W) from by rw[<-AQ.o];exact Wk p K (by have:=HKB.o;omega) HPS.o W);obtain⟨g7,gf7⟩:=dO jm.o;have C7:=cU g7 (show bs∉[bd] by have:=jL.o;simp;omega);refine pT 10 [bd] (fun W=>cg w0 W bd) (yz.o.ext (Tz _).drew) (fun _ _ hx h=>h.ext hx) ?_
    repeat (refine bZ ?_;intro Ka cH;go_big_quiet_op;go_big_quiet_on)
    refine dP (γ:=Int) (fun z=>.int .i64 z) (fun z W=>cg w0 W bd) (fun W hW hd _=>?_) (fun _ _ _ hx h=>h.ext hx) ?_
    ·unfold bQ;go_simp;refine(jG hd 1 10 (by omega) (by omega) (by omega)).mono ?_;rintro e5 w5 ⟨z,rfl,hz0,hz1,oW,hc5⟩;exact⟨_,rfl,hc5,z,rfl,oW⟩
    intro kd Ka cH;go_simp;go_big_quiet_on
    repeat (refine bZ ?_;intro Ka cH;go_big_quiet_op;go_big_quiet_on)
    refine mU (fun W _=>kB.o W) ?_ (fun _ _ hx h=>h.ext hx);intro Ka cH;go_simp;go_big_quiet_on
    repeat (refine bZ ?_;intro Ka cH;go_big_quiet_op;go_big_quiet_on)
    refine yK (γ:=cK×fM×Nat×Nat) (fun x=>clV x.2.1) (fun x W=>(cg w0 W bd/\Sb attrs names x.1.kind nm x.1)/\w2.heap.size<=x.2.2.1/\∀g,(g<x.2.2.1\/x.2.2.2<=g)->ij (mask W (List.range x.2.2.1++[g])) x.1 x.2.1) (fun x g=>g<x.2.2.1\/x.2.2.2<=g) (fun W hW hd _=>?_) (fun x W W' hx h=>⟨⟨h.1.1.ext hx,h.1.2⟩,h.2.1,fun g hg=>(h.2.2 g hg).mono (cF (hx.cR []) (by simp))⟩) ?_ ⟨(fC,⟨0,⟨#[]⟩,⟨0,⟨#[]⟩,none,0,0,0,0,none,0,0⟩,none,0,0,0⟩,0,0)⟩
    ·unfold bQ;go_simp;refine(qC.o kd W (List.range W.heap.size) hd hW (by simp)).mono ?_;rintro e5 w5 ⟨c,cv,rfl,k1,k2,k3,k4,k5,k6,Iz,oW,hc5⟩;exact⟨_,rfl,hc5,(c,cv,W.heap.size,w5.heap.size),rfl,⟨⟨oW,⟨rfl,k2,k3,by rw[k1];exact k4,by rw[k1];exact k5,k6⟩⟩,hW.size,fun g hg=>a5t Iz hg⟩,fun g hg=>hg⟩
    rintro⟨c,cv,n0,n1⟩ Ka cH;unfold clV;go_simp;go_big_quiet_on;refine Jj (fun g=>.pointer (some ⟨g,0,none⟩)) (fun g W=>w2.heap.size<=g/\W.heap[g]?=some FQ) (fun W hW=>?_) (fun g W W' h q=>⟨q.1,h.blk q.2 (by have:=yz.o.lt;have:=q.1;simp;omega)⟩) (fun _ _ h=>h.size) ?_
    ·unfold bQ;go_simp;exact⟨(Tz W).alloc _,W.heap.size,rfl,aU _,by simp,hW.size,bR W _⟩
    intro g Ka cH;go_simp;go_big_quiet_on;refine nH fun W hW hy hf=>?_
    obtain⟨⟨oW,Kv⟩,hn0,hci⟩:=hy;obtain⟨_,⟨Qb,hgb⟩,_,hA⟩:=hf;have Ik:=ai (show ij (mask W ((bd::N0)++[g])) c cv/\Sb attrs names c.kind nm c from⟨(hci g hA.2).mono (cM _ (fun y hy=>by
     rcases aN.1 hy with h|h
     ·exact aK _ (a43.2 (bF (pX.o y h) hn0))
     exact aL _ h)),Kv⟩)
    have AM:=ai (And.intro hgb Qb);have hW2:cg w0 W bd/\ct [bd] w2 W:=⟨oW,hW⟩
    clear oW Kv hn0 hci Qb hgb hA hW C7 g7 gf7 kB;have qO:=ai hW2;obtain⟨bc,hbc⟩:∃bc,bc=g:=⟨_,rfl⟩
    rw[<-hbc] at Ik AM ⊢;clear hbc hW2;have hbl:=bS AM.o.1;have hz0:=AM.o.1;unfold FQ at hz0;obtain⟨c0,c1,c2,c3,c4,c5,c6,c7,c8,c9,cf⟩:=rB hz0;clear hz0;go_upto_region 9 with fail;have hP:=ays W bc cv;have hPb:=ayt AM.o.1 cv;obtain⟨w4,hw4⟩:∃w4,w4=ake W bc cv:=⟨_,rfl⟩
    rw[<-hw4] at hP hPb;have p9:=hw4;unfold ake at p9;rw[<-p9];have HP:=ai hP;have HPB:=ai hPb;have a0f:=ai (show bc≠bd from fun e=>by
     have h1:=AM.o.1;rw[e] at h1;obtain⟨la,ln,lc',k,hb,_⟩:=qO.o.1;rw[h1] at hb;cases hb)
    have vt:=ai (show lw<=bc/\bc≠bd/\w2.heap.size<=bc from by have h1:=AM.o.2;have h3:=HLW.o;exact⟨by omega,a0f.o,by omega⟩);have pF:=ai (show bd<lw by have:=jL.o;have:=HLE.o;omega);clear hw4 p9 c0 c1 c2 c3 c4 c5 c6 c7 c8 c9 cf;obtain⟨c0,c1,c2,c3,c4,c5,c6,c7,c8,c9,cf⟩:=rB (show w4.heap[bc]?=some (.cells #[.int .i64 cv.kind,.string cv.name,.int .i64 cv.x.op,.string cv.x.name,.slice cv.x.aw cv.x.nw cv.x.cw,.int .i64 cv.x.lo,.int .i64 cv.x.hi,.slice cv.x.aa cv.x.na cv.x.ca,.slice cv.au cv.nu cv.cu,.int .i64 cv.ck] 48 (0,0)) from hPb);clear hP hPb;have si:=ai (show ct [bd,bc] w2 w4 from(qO.o.2.weak (by simp)).then (HP.o.weak (by simp)));have aNI:=ai (show w2.heap.size<=W.heap.size/\W.heap.size<=w4.heap.size from⟨qO.o.2.size,HP.o.size⟩);have HOL:=ai (cO vr.o.adE si.o (fun q hq hm=>by
     have h1:=vr.o.adE.lt q hq;have:=pF.o;have:=vt.o;simp only[bz,bC,or_false] at hm;omega))
    have HON:=ai (cO vr.o.adC si.o (fun q hq hm=>by
     have h1:=vr.o.adC.lt q hq;have:=pF.o;have:=vt.o;simp only[bz,bC,or_false] at hm;omega))
    have HFL:=ai (show (VF.flatMap fM.cells).length=l.length*10 from HOL.o.1);have HF1:=ai (show ∀u∈VF.flatMap fM.cells,u.oneCell'=true by
     intro u hu;obtain⟨v,_,hv⟩:=List.mem_flatMap.1 hu;simp only[fM.cells,bz,bC,or_false] at hv;rcases hv with rfl|rfl|rfl|rfl|rfl|rfl|rfl|rfl|rfl|rfl<;>rfl)
    have HL0:=ai (show 0<l.length by omega);have HLB:=ai (show l.length+1<=60 by omega);obtain⟨B,hB⟩:∃B,B=w4.heap.size:=⟨_,rfl⟩
    have HBL:=ai (show B<=w4.heap.size by omega);have wP:=ai (show w4.heap.size<=B by omega);have a6z:=wP.o;clear hB;obtain⟨w3,rfl⟩:∃w3:World,w3=W:=⟨_,rfl⟩
    obtain⟨C0,C1,C2,C3,C4,C5⟩:=wcn6 c0 c1 c2 c3 c4 c5;obtain⟨C6,C7,C8⟩:=wcn3 c6 c7 c8;have C9:=bT c9;refine kG (m:=7) (Er:=ErQ 10 B) (C:=Ext w4) (Φ:=fun _=>True) (fun _=>ErQ.of (Tz _)) (fun _ _ h=>ErQ.of h) (fun _ _ h q=>ErQ.ext a6z h q) (Tz w4).drew trivial (fun _ _ _ h=>h) ?_;refine dP (γ:=Nat) (fun g=>.slice (some ⟨g,0,none⟩) 0 0) (fun g W=>W.ownsRow B 48 10 (.slice (some ⟨g,0,none⟩) 0 0) 0 []) (fun W hW _ _=>?_) (fun g W W' hx h=>lG h hx) ?_ ⟨0⟩
    ·have hs:=hW.size;have HO:=ai (World.ownsRow_lit (e:=48) (size:=10) W #[] 0 (base:=B) (aV HBL.o hs) (by simp) rfl);unfold bQ;go_simp;exact⟨ErQ.of ((Tz W).alloc _),W.heap.size,rfl,HO.o⟩
    intro g0 K hK;go_simp;go_big_quiet_on
    repeat (refine bZ ?_;intro K hK;go_big_quiet_op;go_big_quiet_on)
    refine dP (γ:=Nat×Nat) (fun q=>.slice (some ⟨q.1,0,none⟩) l.length q.2) (fun q W=>W.ownsRow B 48 10 (.slice (some ⟨q.1,0,none⟩) l.length q.2) l.length (VF.flatMap fM.cells)) (fun W hW h _=>?_) (fun q W W' hx h=>lG h hx) ?_ ⟨(0,0)⟩
    ·refine cL nr _ _ B 0 (some ⟨g0,0,none⟩) 0 [] rfl lg 0 l.length lc _ rfl HFL.o HF1.o HL0.o (by have:=HLB.o;omega) (by omega) h (fun j hj=>by rw[Nat.zero_add,(lG HOL.o hW).cellAt j (by rw[<-HFL.o];exact hj)];exact aT hj) (aV HBL.o hW.size) (by omega) ?_;intro g cap w' ho he;exact⟨he,(g,cap),by rw[Nat.zero_add],by simpa using ho⟩
    rintro⟨g1,q1⟩ K hK;go_simp;go_big_quiet_on
    repeat (refine bZ ?_;intro K hK;go_big_quiet_op;go_big_quiet_on)
    refine Az (fun g=>.slice (some ⟨g,0,none⟩) 1 1) (fun g W=>W.heap[g]?=some (.cells cv.cells.toArray 48 (0,0))) (fun W hW=>?_) (fun g W W' h q=>h.lit q rfl) ?_
    ·unfold bQ;go_simp;exact⟨(Tz W).alloc _,W.heap.size,rfl,bR W _⟩
    intro g2 K hK;go_simp;go_big_quiet_on;refine dP (γ:=Nat×Nat) (fun q=>.slice (some ⟨q.1,0,none⟩) (l.length+1) q.2) (fun q W=>W.ownsRow B 48 10 (.slice (some ⟨q.1,0,none⟩) (l.length+1) q.2) (l.length+1) (VF.flatMap fM.cells++cv.cells)) (fun W hW h hF=>?_) (fun q W W' hx h=>lG h hx) ?_ ⟨(0,0)⟩
    ·refine cL nr _ _ B l.length (some ⟨g1,0,none⟩) q1 _ rfl g2 0 1 1 cv.cells rfl rfl (by simp[fM.cells,Value.oneCell']) (by omega) (by have:=HLB.o;omega) (by omega) h (fun j hj=>by rw[bX hF.2];simp) (aV HBL.o hW.size) (by have:=HL0.o;omega) ?_;intro g cap w' ho he;exact⟨he,(g,cap),rfl,ho⟩
    rintro⟨g,cp⟩ K hK;go_simp;go_big_quiet_on
    repeat (refine bZ ?_;intro K hK;go_big_quiet_op;go_big_quiet_on)
    refine gC fun W hW2 hq _=>?_
    have vE:=ai hq;clear hq C0 C1 C2 C3 C4 C5 C6 C7 C8 C9;have mJ:=ai hW2;have HOM:=ai (ayF vE.o (show lw<=B by have:=wP.o;have:=aNI.o;have:=HLW.o;omega));have HKI:=ai Ik.o.2;have mo:=ai (show ct [bd] w w4 from(vr.o.cR.trans si.o (fun y hy=>by
     simp only[bz,bC,or_false] at hy;rcases hy with rfl|rfl
     ·exact aoX (by simp)
     have:=vt.o;have:=HLE.o;exact a4Z (by omega))))
    have CJ:=ai (show cg w0 w4 bd from qO.o.1.cR HP.o (by have:=vt.o;simp;omega) (fun y hy=>by simp only[aG] at hy;have:=vt.o;have:=HLE.o;have:=HDS.o;omega));have RV:=ai (show Sub (mask w2 (bd::N0)) (mask W (bd::N0)) from(cF si.o (fun y hy=>by
     simp only[bz,bC,or_false] at hy;rcases hy with rfl|rfl
     ·exact aoX (by simp)
     exact a4Z vt.o.2.2)).trans (cP (hW2.cR [bd]) (by simp)))
    have HCI:=ai (show ij (mask W (bd::N0)) c cv from((Ik.o.1.mono (cF HP.o (fun y hy=>by simp only[aG] at hy;exact aoX (by simp[hy])))).mono (cM _ (fun y hy=>aK _ hy))).mono (cP (hW2.cR [bd]) (by simp)));have WS:=ai (show GLp w0 w attrs p bd bs lw n M sa sn sc (.slice an names.length cn) (.slice (some ⟨lg,0,none⟩) l.length lc) K names l VF W from
     {vr.o with
       adC:=lG HON.o hW2,adE:=lG HOL.o hW2
       OV:=by
        have:=vr.o.OV.mono (show Sub (mask w2 (bd::rowOf (.slice an names.length cn)++M)) (mask W (bd::rowOf (.slice an names.length cn)++M)) by have:=RV.o;rw[qP.o] at this;exact this);exact this
       oA:=CJ.o.ext hW2,cR:=mo.o.then (hW2.cR _)
       box:=hW2.blk (si.o.blk vr.o.box (by
        have:=jL.o;have:=vt.o;have:=HLE.o;simp only[bz,bC,or_false,not_or];omega)) })
    have HMC:=ai (show vG (mask W (bd::N0)) (l++[c]) (VF++[cv]) from by
     have h1:=WS.o.OV;have h2:=qP.o;rw[a48,<-h2] at h1;exact h1.snoc HCI.o)
    have aZ6:=ai (hW2.blk HPB.o);have hcn:=HCI.o.2.1;have aQy:c.name.size=p.size+2:=by rw[HKI.o.2.1,<-AQ.o,Wl]
    have G9:=ai (And.intro hcn aQy);have hWs:=hW2.size;have HGR:=ai (show B<=g/\g<W.heap.size from by
     have:=vE.o.lt g rfl;exact⟨this.1,this.2⟩)
    clear hW2 hcn aQy c0 c1 c2 c3 c4 c5 c6 c7 c8 c9 cf vE Ik HCI RV qO HOL HON HFL HF1 si HP HPB;have aOI:=ai (show cZ W (l++[c]) (some ⟨g,0,none⟩) (l.length+1) cp from by
     have ho:=HOM.o;obtain⟨a',c',hv,hcl⟩:=yJ (M:=[]) (l:=l++[c]) (vs:=VF++[cv]) (by simpa using ho) (by simp) (HMC.o.mono ((cC _ _).trans (fun p' v' h=>by rw[eA,bL (by simp)];exact h)));simp only[a45,bg,List.length_singleton] at hv;obtain⟨rfl,_,rfl⟩:=hv;have:=hcl.mono (cC _ _);simpa using this)
    have aY3:=ai (show ∀x∈l++[c],x.okk from fun x hx=>by
     have key:∀y:cK,Us y->y.name.size<=1000->y.okk:=fun y hy h=>by
      obtain⟨g1,g2,g3,g4,g5,g6⟩:=hy;exact⟨⟨by omega,g1,g2,by omega,g5,by omega⟩,by omega⟩
     rcases aN.1 hx with h|h
     ·have:=WS.o.ok.1 x h;exact key x this.1 (by omega)
     obtain rfl:x=c:=by simpa using h
     exact key x HKI.o.2.2.2.2.2 (by have:=G9.o.2;omega))
    obtain⟨b0,bf⟩:=dO WS.o.box;have HRC:=ai (pM attrs (l++[c]) _ _ (l.length+1) cp W ((HS.o.mono (cP WS.o.cR (by simp))).mono (cC _ _)) (iB hat) (by omega) aOI.o (by omega) fun x hx=>(aY3.o x hx).fit);obtain⟨E,hE⟩:∃E,E=cV attrs (l++[c]):=⟨_,rfl⟩
    rw[<-hE] at HRC;have HEE:=ai hE;clear hE;obtain⟨E1,E2⟩:=E;unfold T3 at HRC;simp only at HRC;go_wp2_with fail;refine HRC.o.mono ?_;rintro r w6 ⟨rfl,gN⟩;have HG6:=ai (WS.o.Ot gN);obtain⟨d0,d1,d2,d3,d4,d5,d6,d7,d8,d9,df⟩:=rB (show w6.heap[bc]?=some (.cells #[.int .i64 cv.kind,.string cv.name,.int .i64 cv.x.op,.string cv.x.name,.slice cv.x.aw cv.x.nw cv.x.cw,.int .i64 cv.x.lo,.int .i64 cv.x.hi,.slice cv.x.aa cv.x.na cv.x.ca,.slice cv.au cv.nu cv.cu,.int .i64 cv.ck] 48 (0,0)) from gN.blk aZ6.o);have kR:=ai gN;clear gN HRC b0 bf;by_cases hz:E2=0
    case neg =>
     have tz:(E2 != 0)=true:=by simp[hz]
     clear hz;go_wp2_with fail;go_roundw
     case rel=>exact⟨K+1,names,l,VF,by go_num,{ HG6.o with k1:=by omega,kn:=by omega,lk:=by omega,nk:=Nat.le_succ_of_le HG6.o.nk }⟩
     case measure=>simp[intOf];omega
    subst hz;have HZ:=ai (adO (s:=attrs) (l:=l++[c]) (by rw[<-HEE.o]));have adT:=ai (show adZ attrs p (l++[c]) from⟨fun x hx=>by
     rcases aN.1 hx with h|h
     ·exact HG6.o.ok.1 x h
     obtain rfl:x=c:=by simpa using h
     exact⟨HKI.o.2.2.2.2.2,G9.o.2⟩,a4Z HZ.o,by obtain⟨d,h1,h2⟩:=HG6.o.ok.2.2;exact⟨d,by simp[h1],h2⟩⟩)
    have CG:=ai (lG HOM.o kR.o);have HM6:=ai (HMC.o.mono (cP (kR.o.cR [bd]) (by simp)));have h6s:=kR.o.size;have hap:∀q,(Value.slice (some ⟨g,0,none⟩) (l.length+1) cp).ownBlock=some q->(Value.slice an names.length cn).ownBlock≠some q:=fun q hq hq2=>by
     have h1:=(vr.o.adC.lt q hq2).2;have h2:g=q:=by simpa[Value.ownBlock] using hq
     have:=HGR.o;have:=wP.o;have:=aNI.o;omega
    have Gl:=ai hap;clear hap;have TZ:((0:Int) != 0)=false:=rfl;cases tC:(cv.kind==1)
    ·go_wp2_with fail;go_roundw
     case rel=>exact⟨K+1,names,l++[c],VF++[cv],by go_num,{ HG6.o with k1:=by omega,kn:=by omega,lk:=by simp;omega,l1:=by simp,nk:=Nat.le_succ_of_le HG6.o.nk,adE:=(by have:=CG.o;simpa using this),OV:=(by have:=HM6.o;rw[qP.o] at this;exact this),apart:=Gl.o,ok:=adT.o }⟩
     case measure=>simp[intOf];omega
    have YH:=ai HG6.o.adC;have hnk:=HG6.o.nk;go_wp2_with (at_builtin;refine dA xM rfl _ _ rfl lw _ names.length _ rfl YH.o _ 1 1 rfl ?f0 rfl ?f1 ?f2 ?f3 ?f4 ?_)
    case f0=>simp
    case f1=>simp[Value.oneCell']
    case f2=>unfold maxLen;omega
    case f3=>omega
    case f4=>have:=HLW.o;have:=aNI.o;omega
    intro v8 w8 dY iI gX;obtain⟨a8,c8,Iv⟩:=eP dY;subst Iv;have hrow:∀y∈rowOf (.slice an names.length cn),lw<=y:=fun y hy=>(YH.o.lt y (bV.1 hy)).1
    have hlw:=HLE.o;have CR:=jL.o;have HG8:=ai (show GLp w0 w attrs p bd bs lw n M sa sn sc (.slice a8 (names.length+1) c8) (.slice (some ⟨g,0,none⟩) (l.length+1) cp) (K+1) (names++[cv.name]) (l++[c]) (VF++[cv]) w8 from
     {k1:=by omega,kn:=by omega,lk:=by simp;omega,l1:=by simp,nk:=by simp;omega
      nsz:=fun x hx=>by
       rcases aN.1 hx with h|h
       ·exact HG6.o.nsz x h
       obtain rfl:x=cv.name:=by simpa using h
       rw[G9.o.1];have:=G9.o.2;omega
      adC:=by simpa[iC] using dY
      adE:=by
       have:=cO CG.o iI (fun q hq hm=>Gl.o q hq (bV.1 hm));simpa using this
      OV:=by
       have h1:=HM6.o;rw[qP.o] at h1;exact h1.mono (yD iI gX)
      apart:=fun q hq hq2=>by
       rcases gX q hq2 with h|h
       ·exact Gl.o q hq h
       have h2:g=q:=by simpa[Value.ownBlock] using hq
       have:=HGR.o;omega
      ok:=adT.o
      oA:=HG6.o.oA.cR iI (fun hm=>by have:=hrow bd hm;omega) (fun y hy=>by have:=hrow y hy;have:=HDS.o;omega)
      cR:=HG6.o.cR.trans iI (fun y hy=>by have:=hrow y hy;exact a4Z (by omega))
      box:=iI.blk HG6.o.box (fun hm=>by have:=hrow bs hm;omega) })
    clear dY iI gX hrow hlw CR d0 d1 d2 d3 d4 d5 d6 d7 d8 d9 df;go_wp2_with fail;go_roundw
    case rel=>exact⟨K+1,names++[cv.name],l++[c],VF++[cv],by go_num,HG8.o⟩
    case measure=>simp[intOf];omega
   have tk:=ah ((K:Int)<=(n:Int));obtain⟨a',c',hv,hq⟩:=aN2.o wr (Tz _);have HV:=ai hv;have HQ:=ai hq;clear hv hq;go_wp2_with fail;go_ret;rw[HV.o];exact HQ.o
theorem aml:(gi.all fun s=>dy s==0)=true:=by decide +kernel
def aKi (s:List Attr) (a:Attr):Bool:=match eO s a.name with
 | some i=>(s.getD i rL).kind==a.kind&&decide ((s.getD i rL).words=a.words)&&(s.getD i rL).lo==a.lo&&(s.getD i rL).hi==a.hi
 | none=>false
theorem aix:(gi.all fun s=>s.all fun a=>aKi s a)=true:=by decide +kernel
theorem SL {attrs:List Attr} (hs:attrs∈gi):dy attrs=0:=by
 have:=aP.1 aml attrs hs;simpa using this
theorem LM {attrs:List Attr} (hs:attrs∈gi) {a:Attr} (ha:a∈attrs):∃i,eO attrs a.name=some i/\(attrs.getD i rL).kind=a.kind/\(attrs.getD i rL).words=a.words/\(attrs.getD i rL).lo=a.lo/\(attrs.getD i rL).hi=a.hi:=by
 have:=aP.1 (aP.1 aix attrs hs) a ha;unfold aKi at this;cases h:eO attrs a.name with
 | none=>rw[h] at this;cases this
 | some i =>
  rw[h] at this;simp only[aF,a47,aH] at this;exact⟨i,rfl,this.1.1.1,this.1.1.2,this.1.2,this.2⟩
theorem apt:(gi.all fun s=>(eO s (ym ⟨#[99,45]⟩ 0)).isNone)=true:=by decide +kernel
theorem aAs {attrs:List Attr} (hs:attrs∈gi) {names:ZB} (hn:∀x∈names,gJ x=true) {e:Ex} (h:acp attrs names e):zK e:=by
 have hat:∀a∈attrs,IZ a=true:=fun a ha=>aP.1 (aP.1 acA attrs hs) a ha
 obtain⟨ha,h⟩:=h;rcases h with ⟨h1,h2,h3,h4,h5⟩|⟨h1,h2,h3,h4,h5⟩|⟨h1,h2,h3,h4,h5⟩|⟨h1,⟨a,haa,hk,hnm,hne,hnd,hin⟩,h4,h5⟩|⟨h1,⟨a,haa,hk,hnm,sA,hl2,hl3⟩,h3⟩
 ·exact aoX ⟨h1,h2,h3,h4,h5,ha⟩
 ·exact a4Z (aoX ⟨h1,h2,h3,h4,h5,ha⟩)
 ·have hn:gJ e.name=true:=by
   rcases h2 with h2|⟨a,haa,_,h2⟩
   ·exact hn _ h2
   have:=hat a haa;simp only[IZ,aF,aH] at this;rw[h2];exact this.1.1.1
  exact a4Z (a4Z (aoX ⟨h1,hn,h3,h4,h5,ha⟩))
 ·have hq:=hat a haa;simp only[IZ,hk,aF,aH,bne_self_eq_false,Bool.false_or,aP] at hq;obtain⟨⟨⟨hq1,hq2⟩,Je,Wn⟩,_⟩:=hq;have hlen:e.words.length<=4:=aV (List.Nodup.length_le_of_subset hnd (fun x hx=>hin x hx)) Je;have hl0:e.words.length≠0:=fun h=>hne (aR h)
  refine a4Z (a4Z (a4Z (aoX ⟨h1,by rw[hnm];exact hq1,?_,h4,h5,ha⟩)));simp only[qg,aF,bne_iff_ne,aH,aP];exact⟨⟨⟨by simpa using hl0,by omega⟩,fun x hx=>(Wn x (hin x hx)).1⟩,hnd⟩
 have hq:=hat a haa;simp only[IZ,hk,aF,aH,bne_self_eq_false,Bool.false_or] at hq;obtain⟨⟨⟨hq1,hq2⟩,_⟩,Je,Wn⟩:=hq;have hlo:iM e.lo=true:=by simp[iM];omega
 have hhi:iM e.hi=true:=by simp[iM];omega
 exact a4Z (a4Z (a4Z (a4Z (aoX ⟨h1,by rw[hnm];exact hq1,h3,hlo,hhi,hl2,ha⟩))))
theorem Vc {k:Nat}:(l:List Ex)->(∀x∈l,x.depth<=k)->jz l<=k
 | [],_=>by simp[jz]
 | e::r,h=>by
  have h1:=h e (by simp);have h2:=Vc r fun x hx=>h x (by simp[hx])
  simp only[jz];omega
theorem UK {attrs:List Attr} (hs:attrs∈gi) {names:ZB} (hn:∀x∈names,gJ x=true):(d:Nat)->(e:Ex)->oX attrs names d e->gq e/\e.depth<=d
 | 0,_,h=>h.elim
 | d+1,e,h=>by
  rcases h with h|⟨hl,h1,h2,h3,h4,h⟩
  ·refine⟨Am (aAs hs hn h) fun x hx=>(by rw[h.1] at hx;cases hx),?_⟩;rw[Ex.uT,h.1];simp[jz]
  have ih:=fun x hx=>UK hs hn d x (h x hx)
  refine⟨Am ?_ fun x hx=>(ih x hx).1,?_⟩
  ·rcases hl with ⟨h5,h6⟩|⟨h5,h6,_⟩
   ·exact a4Z (a4Z (a4Z (a4Z (a4Z (aoX ⟨h5,h1,h2,h3,h4,h6⟩)))))
   exact a4Z (a4Z (a4Z (a4Z (a4Z (a4Z ⟨h5,h1,h2,h3,h4,h6⟩)))))
  rw[Ex.uT];have:=Vc _ fun x hx=>(ih x hx).2
  omega
theorem acE {e:Ex} (h1:gq e) (h2:e.depth<=16) (h3:e.size<=300):eW e=true:=by
 rw[eW,aF,aF,Ke];have e1:ep e<=300:=by unfold ep;omega
 exact⟨⟨by simpa using h2,by simpa using e1⟩,h1⟩
theorem ZG {attrs:List Attr} (hs:attrs∈gi) {names:ZB} (hn:∀x∈names,gJ x=true) {d:Nat} {e:Ex} (h:oX attrs names d e) (hd:d<=5):eW e=true:=by
 have h1:=UK hs hn d e h;have h2:=yC hs (fun x hx=>by have:=Kk (hn x hx);omega) d e h;have hb:RE d<=121:=by
  have:d=0\/d=1\/d=2\/d=3\/d=4\/d=5:=by omega
  rcases this with rfl|rfl|rfl|rfl|rfl|rfl<;>decide
 exact acE h1.1 (by omega) (by have:=h2.size;omega)
theorem uY {attrs:List Attr} (hs:attrs∈gi) {l:List cK} {names:ZB} (hn:∀x∈names,eO attrs x=none/\(dz l x).isSome=true):(d:Nat)->(e:Ex)->oX attrs names d e->dr attrs l e=0
 | 0,_,h=>h.elim
 | d+1,e,h=>by
  rw[zL];rcases h with h|⟨hl,h1,h2,h3,h4,h⟩
  ·obtain⟨ha,h⟩:=h;have h0:fB attrs l e.op e.name e.words e.lo e.hi=0:=by
    rcases h with ⟨h1,h2,h3,h4,h5⟩|⟨h1,h2,h3,h4,h5⟩|⟨h1,h2,h3,h4,h5⟩|⟨h1,⟨a,haa,hk,hnm,hne,hnd,hin⟩,h4,h5⟩|⟨h1,⟨a,haa,hk,hnm,sA,hl2,hl3⟩,h3⟩
    ·rw[h1];simp[fB]
    ·rw[h1];simp[fB]
    ·rw[h1];rcases h2 with h2|⟨a,haa,hk,h2⟩
     ·obtain⟨g1,g2⟩:=hn _ h2;simp[fB,g1,g2]
     obtain⟨i,g1,g2,g3,g4,g5⟩:=LM hs haa;rw[h2];simp only[fB,g1,g2,hk,if_true];simp
    ·obtain⟨i,g1,g2,g3,g4,g5⟩:=LM hs haa;rw[h1,hnm];have hall:(e.words.all fun x=>(a.words).any fun y=>decide (y=x))=true:=by
      rw[aP];intro x hx;rw[List.any_eq_true];exact⟨x,hin x hx,by simp⟩
     simp only[fB,g1,g2,g3,hk,hall];simp
    obtain⟨i,g1,g2,g3,g4,g5⟩:=LM hs haa;rw[h1,hnm];simp only[fB,g1,g2,g4,g5,hk];simp;omega
   rw[h0,ha,dZ];simp
  have h0:fB attrs l e.op e.name e.words e.lo e.hi=0:=by
   unfold fB;rw[bL (by omega),bL (by omega),bL (by omega)]
  rw[h0,tK e.args fun j hj=>uY hs hn d _ (h _ (aD hj))];simp
mutual
theorem abV:(e:Ex)->wM (fun _=>none) e<=e.size
 | .mk op name _ _ _ args=>by
  have:=ak3 args;rw[wM,Ex.size];have h1:(if op=3 then ((none:Option Nat)).getD 1 else 1)=1:=by split<;>rfl
  rw[h1];omega
theorem ak3:(l:List Ex)->mI (fun _=>none) l<=sizes l
 | []=>by rw[mI,sizes];omega
 | e::r=>by
  have h1:=abV e;have h2:=ak3 r;rw[mI,sizes];omega
end
theorem atC {d:uW} (h:d.is=false):vZ [d]:=by
 have hi:∀i,iD [d] i=false:=by
  intro i;cases i with
  | zero=>exact h
  | succ i=>rfl
 exact⟨[],by simp,fun i=>by simp[hi i],fun p i hp=>by simp at hp⟩
theorem aIc:eW exT=true:=by decide +kernel
theorem aEB:gJ (ym ⟨#[99,45]⟩ 0)=true:=by decide +kernel
theorem avi {attrs:List Attr} (hs:attrs∈gi) {c:cK} (h:aej attrs ⟨#[99,45]⟩ c):cV attrs [c]=(0,0):=by
 obtain⟨hk,hn,he,hu,ha⟩:=h;have hd:∀s,dz [c] s=none:=by
  intro s;simp[dz,hk]
 have hr:eW c.cond=true:=by
  rcases he with he|he
  ·exact ZG hs (fun x hx=>by cases hx) he (by omega)
  rw[he];exact aIc
 have hsz:c.cond.size<=300:=by
  have:=hr;rw[eW,aF,aF] at this;have h2:=this.1.2;simp only[aH] at h2;unfold ep at h2;omega
 have hz:dr attrs [c] c.cond=0:=by
  rcases he with he|he
  ·exact uY hs (fun x hx=>by cases hx) 3 _ he
  rw[he];simp[exT,dr,fB,dZ]
 have hg:[c].getD 0 fC=c:=rfl;have hb:gQ c=true:=by
  unfold gQ;rw[hk,hn,hr,hu,ha,aEB]
  decide
 have hc:jE attrs [c] 0=0:=by
  unfold jE;rw[hg,hb];have hf:findAt [c] c.name=some 0:=by simp[findAt]
  have hat:eO attrs c.name=none:=by
   have:=aP.1 apt attrs hs;rw[hn];simpa using this
  rw[hf,hat,hz,hu];simp[fG]
 have hx:dV [c] c.cond<=300:=by
  unfold dV
  show jT [c] 2 c.cond<=300
  rw[jT];have:(fun s=>(dz [c] s).map fun d=>jT [c] 1 ([c].getD d fC).cond)=fun _=>none:=by
   funext s;rw[hd s];rfl
  rw[this];have:=abV c.cond;omega
 refine aaC (SL hs) (by simp) (fun j hj=>?_) ?_ fun j hj=>?_
 ·obtain rfl:j=0:=by simpa using hj
  exact hc
 ·have:[c].map cK.tV=[c.tV]:=rfl;rw[this];exact atC (by simp[cK.tV,hk])
 obtain rfl:j=0:=by simpa using hj
 unfold jQ;rw[hg,hu,bL];rintro(h|h)
 ·omega
 simp[eH] at h
theorem U4 {attrs:List Attr} (hs:attrs∈gi) {l:List cK} (h:adZ attrs ⟨#[99,45]⟩ l):cV attrs l=(0,0):=by
 rcases h.2.1 with ⟨c,rfl,hc⟩|h
 ·exact avi hs hc
 exact h
noncomputable def jM (s:List Attr) (l:List cK) (e:Ex) (f:ZI):Int :=
 if (cV s l).2≠0 then (cV s l).2 else if qu s l e≠0 then qu s l e else if 2000<dV l e then 4 else if jU s f=false then 16 else 0
structure RI (s:List Attr) (l:List cK) (e:Ex) (f:ZI):Prop where
 cls:(cV s l).2=0
 ref:eW e=true
 node:dr s l e=0
 exp:dV l e<=2000
 facts:fW s f=true
theorem RI.chk {s:List Attr} {l:List cK} {e:Ex} {f:ZI} (h:RI s l e f):Chk s l:=lK h.cls
theorem B7 {s:List Attr} {l:List cK} {e:Ex} {f:ZI} (h:jM s l e f=0):RI s l e f:=by
 unfold jM at h;by_cases h1:(cV s l).2≠0
 ·rw[bM h1] at h;exact a40 h h1
 rw[bL h1] at h;by_cases h2:qu s l e≠0
 ·rw[bM h2] at h;exact a40 h h2
 rw[bL h2] at h;by_cases h3:2000<dV l e
 ·rw[bM h3] at h;cases h
 rw[bL h3] at h;by_cases h4:jU s f=false
 ·rw[bM h4] at h;cases h
 have h1:(cV s l).2=0:=by simpa using h1
 have hs:=(lK h1).x7;have h2:qu s l e=0:=by simpa using h2
 unfold qu at h2;rw[bL (by simpa using hs)] at h2;unfold zV at h2;by_cases h5:eW e=false
 ·rw[bM h5] at h2;cases h2
 rw[bL h5] at h2;have h4:jU s f=true:=by simpa using h4
 simp only[jU,aF] at h4;exact⟨h1,by simpa using h5,h2,by omega,h4.2⟩
theorem RI.tree {s:List Attr} {l:List cK} {e:Ex} {f:ZI} (h:RI s l e f):gq e:=by
 have:=h.ref;rw[eW,aF,aF] at this;exact(Ke _).1 this.2
theorem RI.size {s:List Attr} {l:List cK} {e:Ex} {f:ZI} (h:RI s l e f):e.size<=300:=by
 have:=h.ref;rw[eW,aF,aF] at this;have:=this.1.2;simp only[aH] at this;unfold ep at this;omega
open Go.RowKit Go.Maps
def aIE (l:List cK) (e:Ex) (aw:OA) (nw cw:Nat) (aa:OA) (na ca:Nat) (a:OA) (n c:Nat) (sa:OA) (sn sc:Nat) (N:Int):Nat->Value->World->Prop
 | 0,u,_=>u=.agg #[.slice sa sn sc]
 | 1,u,_=>u=.slice a n c
 | 2,u,W=>∃bd,u=.map (some bd)/\xS W l bd n
 | 3,u,_=>u=.agg #[ e.op,.string e.name,.slice aw nw cw,e.lo,e.hi,.slice aa na ca]
 | 4,u,_=>u=.int .i64 N
 | _,u,_=>u=.int .i64 N
theorem yu (s:List Attr) (l:List cK) (a:OA) (n c:Nat) (e:Ex) (ev sv:Value) (w:World) (hf:∀x∈s,x.fits) (hsl:s.length<=1000000000000000) (hl:cZ w l a n c) (hn:n<=1000000) (hsz:∀x∈l,x.name.size<=1000000000000000) (uP:e.iT) (hfit:e.fits) (ho:dQ w) (hs:dB w s sv) (he:dw w e ev) :
  Calls Tryz.prog 145 #[sv,.slice a n c,ev] w (cz (.int .i64 (qu s l e)) w):=by
 obtain⟨sa,sn,sc,rfl,B6⟩:=hs.slice;have HV:=ai (fun (W:World) (hW:Ext w W)=>BG s (.agg #[.slice sa sn sc]) W (hs.ext hW) hf hsl);have HD:=ai (fun (W:World) (hW:Ext w W)=>DT l a n c W (hl.ext hW) hn hsz);have HX:=ai (fun (hz:dy s=0) (bm:Nat) (W:World) (hW:Ext w W) (hd:xS W l bm n)=>Mq s hz l hf hsl bm n e ev (.agg #[.slice sa sn sc]) W uP hfit (ho.ext hW) (hs.ext hW) hd (he.ext hW));obtain⟨aw,nw,cw,aa,na,ca,rfl,-⟩:=he.parts;obtain⟨R,hR⟩:∃R,R=qu s l e:=⟨_,rfl⟩
 rw[<-hR];have HR:=ai (show R=if dy s≠0 then dy s else zV s l e from hR);obtain⟨E,hE⟩:∃E,E=dy s:=⟨_,rfl⟩
 rw[<-hE] at HV HR HX;obtain⟨N,hN⟩:∃N,N=zV s l e:=⟨_,rfl⟩
 rw[<-hN] at HR HX;clear hf hl hn hsz uP hfit ho hs he hR B6 hE hN;unfold fN at *;obtain⟨wa,cN⟩:∃wa,wa=(w.alloc (.cells #[.slice sa sn sc] 24)).alloc (.cells #[ e.op,.string e.name,.slice aw nw cw,e.lo,e.hi,.slice aa na ca] 45):=⟨_,rfl⟩
 have gB:Ext w wa:=by rw[cN];exact((Tz _).alloc _).alloc _
 have hb0:wa.heap[w.heap.size]?=some (.cells #[.slice sa sn sc] 24 (0,0)):=by rw[cN];exact bU (bR w _)
 have hb1:wa.heap[w.heap.size+1]?=some (.cells #[ e.op,.string e.name,.slice aw nw cw,e.lo,e.hi,.slice aa na ca] 45 (0,0)):=by rw[cN];exact cT (by simp)
 have dm:=ai gB;have iO:=ai hb0;have gG:=ai hb1;obtain⟨a0,af⟩:=dO hb0;have kI:=bS hb1;have VG:=ai (HV.o wa gB);clear gB hb0 hb1 HV;go_enter Tryz.func145,Tryz.ntmps145
 go_upto_region 1 with fail;rw[<-cN];clear cN;go_wp2_with fail;refine VG.o.mono ?_;rintro r w3 ⟨rfl,hx3⟩;have dS:=ai (dm.o.trans hx3);have aRj:=hx3.blk iO.o;have azq:=hx3.blk gG.o;clear hx3 a0 af kI VG;by_cases hz:E=0
 case neg =>
  have tz:(E != 0)=true:=by simp[hz]
  have HQ:=ai (show R=E by rw[HR.o,bM hz]);clear hz;go_wp2_with fail;go_ret;exact cD (by rw[HQ.o]) dS.o
 have tz:(E != 0)=false:=by simp[hz]
 have HQ:=ai (show R=N by rw[HR.o,bL (by simpa using hz)]);have yx:=ai (HX.o hz);clear hz HR HX;obtain⟨d0,df⟩:=dO aRj;obtain⟨f0,f1,f2,f3,f4,f5,ff⟩:=cX azq;clear aRj azq;go_upto_region 4 with fail;refine fk (m:=6) [5] (GrG w3) Lu (uz (aIE l e aw nw cw aa na ca a n c sa sn sc N)) (by kernel_rfl) (by kernel_rfl) ((Tz w3).drew) ?_ ?_ ?_
 ·intro i k v W W' hi hk hne hout h hE;have hE:Ext W W':=hE;have hi':=ltc6 hi;clear hi hk hne hout;rcases hi' with rfl|rfl|rfl|rfl|rfl|rfl
  ·exact h
  ·exact h
  ·obtain⟨bd,e0,h⟩:=h;exact⟨bd,e0,h.ext hE⟩
  ·exact h
  ·exact h
  exact h
 ·intro q op hq ho vs W hW hd ρ hρ;have jA:=ltc6 hq;clear hq;have o3:ρ (.tmp 3)=.pointer (some ⟨w.heap.size,0,none⟩):=hρ.out 3 rfl;have o1:ρ (.tmp 1)=.slice a n c:=hρ.out 1 rfl;have i1:=hρ.i 1 14;have o5:ρ (.tmp 5)=.pointer (some ⟨w.heap.size+1,0,none⟩):=hρ.out 5 rfl;have i0:=hρ.i 0 13;have i2:=hρ.i 2 15;have i3:=hρ.i 3 16;have i4:=hρ.i 4 17;have hc:=hρ.const;have hfn:=hρ.func;clear hρ;have HW:=ai (show Ext w3 W from hW);rcases jA with rfl|rfl|rfl|rfl|rfl|rfl
  ·cases ho
   clear hd;have g0:=HW.o.cell d0;unfold bQ;go_simp;exact⟨Tz W,rfl⟩
  ·cases ho
   clear hd;unfold bQ;go_simp;exact⟨Tz W,rfl⟩
  ·cases ho
   have h1:vs 1=_:=hd ⟨1,.data⟩ (by simp) rfl;rw[h1] at i1;clear hd;unfold bQ;go_simp;refine(HD.o W (dS.o.trans HW.o)).mono ?_;rintro r w5 ⟨bd,rfl,oW,dh⟩;exact⟨_,rfl,dh,HW.o.trans dh,_,rfl,oW⟩
  ·cases ho
   clear hd;have g0:=HW.o.cell f0;have g1:=HW.o.cell f1;have g2:=HW.o.cell f2;have g3:=HW.o.cell f3;have g4:=HW.o.cell f4;have g5:=HW.o.cell f5;unfold bQ;go_simp;exact⟨Tz W,rfl⟩
  ·cases ho
   have h0:vs 0=_:=hd ⟨0,.data⟩ (by simp) rfl;rw[h0] at i0;obtain⟨bd,h2,hs2⟩:∃bd,vs 2=.map (some bd)/\xS W l bd n:=hd ⟨2,.data⟩ (by simp) rfl;have oB:=ai hs2;clear hs2;rw[h2] at i2;have h3:vs 3=_:=hd ⟨3,.data⟩ (by simp) rfl;rw[h3] at i3;clear hd;unfold bQ;go_simp;refine(yx.o _ W (dS.o.trans HW.o) oB.o).mono ?_;rintro r w5 ⟨rfl,dh⟩;exact⟨_,rfl,dh,HW.o.trans dh,rfl⟩
  cases ho
  have h4:vs 4=_:=hd ⟨4,.data⟩ (by simp) rfl;rw[h4] at i4;clear hd;unfold bQ;go_simp;exact⟨Tz W,rfl⟩
 intro vs W hW hR;rw[bM (by decide +kernel)];have h5:vs 5=.int .i64 N:=hR 5 (by simp) (by omega);simp only[fL,dU,List.range,List.range.loop,aX,bN,h5];go_simp;have hW2:Ext w3 W:=hW;clear hR hW h5;have mJ:=ai (dS.o.trans hW2);clear hW2;go_wp2_with fail;go_ret;exact cD (by rw[HQ.o]) mJ.o
theorem afq {e:Ex} (h:eW e=true):e.size<=300:=by
 rw[eW,aF,aF] at h;have:=h.1.2;simp only[aH] at this;unfold ep at this;omega
theorem Chk.size {s:List Attr} {l:List cK} (h:Chk s l):∀c∈l,c.cond.size<=300:=fun c hc=>afq (h.good c hc).2.2.1
theorem TS {s:List Attr} {l:List cK} {e:Ex} (h:qu s l e=0):eW e=true:=by
 unfold qu at h;by_cases h1:dy s≠0
 ·rw[bM h1] at h;exact a40 h h1
 rw[bL h1] at h;unfold zV at h;cases hr:eW e
 ·rw[hr] at h;cases h
 rfl
theorem Hl {P:Program} (W:World) (t ty e:TypeId) (i:TypeInfo) (ht:P.underlying t=some (.slice e)) (hi:P.info? e=some i) (b:OA) (n cap:Nat) (hnc:n<=cap) (ax:OA) (c:Nat) :
  (Builtin.append_ #[t,t] ty #[.slice b n cap,.slice ax 0 c]).run P W=.ok (.slice b n cap) W:=by
 cases b<;>cases ax<;>simp[Builtin.append_,run_underlying ht,sizeOf,typeInfo,hi,Builtin.lenOf,Builtin.firstCells,hnc,storeCells,loadCells,loadCellsFrom]
theorem gI {t e:TypeId} {z:Value} {size bytes:Nat} (E:uq t e z size bytes) {ops:Array Oper} {rest:List Oper} {o:Oper} {a:Act} {Q:Exit->Act->World->Prop} {W:World}
  (hgd:o.guard=none) (s x:Operand) (ho:o.op=.call { callee:=.builtin .append,args:=#[s,x],argTypes:=#[t,t] }) (base:Nat) (v:Value) (n:Nat) (xs:List Value) (hs:a.eval s=v) (hown:W.ownsRow base e size v n xs)
  (ax:OA) (m c:Nat) (news:List Value) (hx:a.eval x=.slice ax m c) (hl:news.length=m*size) (hnews:0<m->∃b off,ax=some ⟨b,off,none⟩/\∀j (h:j<news.length),W.cell? ⟨b,off+j,none⟩=some news[j]) (h1:∀u∈news,u.oneCell'=true)
  (hn:n+m<=100000000) (hb:bytes<=1000) (hbase:base<=W.heap.size)
  (h:∀v' w',w'.ownsRow base e size v' (n+m) (xs++news)->W.grownBy w' v.ownBlock->(∀k,v'.ownBlock=some k->v.ownBlock=some k\/k=W.heap.size)->wpList Tryz.prog ops Q rest (a.put o.dst v') w'):wpList Tryz.prog ops Q (o::rest) a W:=by
 obtain⟨i,hi,hz,hsz,hby⟩:=info_parts E.info;by_cases hm:m=0
 ·subst hm;have hnil:news=[]:=aR (by simpa using hl);subst hnil;obtain⟨b,cap,rfl,hnc⟩:∃b cap,v=.slice b n cap/\n<=cap:=by
   rcases hown.2 with ⟨rfl,rfl⟩|⟨g,cap,cur,rfl,_,_,hnc,_⟩
   ·exact⟨none,0,rfl,by omega⟩
   exact⟨_,cap,rfl,hnc⟩
  refine wpList_plain hgd fun K hK=>?_
  have hrun:=Hl (P:=Tryz.prog) W t o.type e i E.ht hi b n cap hnc ax c;unfold Oper.wp;simp[execOp,ho,resolve,invoke,builtin,hs,hx,hrun,Result.andThen];refine hK _ _ (h _ _ (by simpa using hown) ⟨rfl,rfl,rfl,aU _,fun _ _ _=>rfl⟩ (fun k hk=>aoX hk))
 obtain⟨b,off,rfl,hcell⟩:=hnews (by omega);refine wpList_append_lies W hgd s x t ho base e i z size bytes E.ht hi hz hsz hby E.hzs E.hsz v n xs hs hown ⟨b,off,none⟩ m c news hx hl ?_ h1 (by omega) (by simp only[maxLen];omega) (by
  calc (n+m)*bytes<=100000000*1000:=Nat.mul_le_mul hn hb
   _<=140737488355328:=by omega) hbase _ rfl ?_
 ·intro j u hu;obtain⟨hj,rfl⟩:=List.getElem?_eq_some_iff.1 hu;have:(⟨b,off,none⟩:Addr).add j=⟨b,off+j,none⟩:=by unfold Addr.add;split<;>simp_all
  rw[this];exact hcell j hj
 intro g cap w' h2 h3 h4 _;refine h _ w' h2 h3 fun k hk=>?_
 simp only[Value.ownBlock] at hk;injection hk with hk
 subst hk;exact h4
theorem adj (w:World) (l:List Value) (t:TypeId):∀j (hj:j<l.length),(w.alloc (.cells l.toArray t)).cell? ⟨w.heap.size,0+j,none⟩=some l[j]:=by
 intro j hj;rw[World.cell?_alloc_at _ _ _ _ rfl];simp[hj]
theorem ct.cell' {N:ZN} {w w':World} (h:ct N w w') {p:Addr} (hn:p.block∉N) (hlt:p.block<w.heap.size):w'.cell? p=w.cell? p:=World.cell?_of_block (h.block _ hlt hn)
def pR:List Wb->List Ex
 | []=>[]
 | .mk _ c u::r=>c::(pR u++pR r)
theorem XV:(l:List Wb)->(pR l).length=mH l
 | []=>by simp[pR,mH]
 | .mk n c u::r=>by simp[pR,mH,XV u,XV r];omega
theorem Oy:(l:List Wb)->(k:Nat)->(hk:k<l.length)->pR (l.take (k+1))=pR (l.take k)++l[k].cond::pR l[k].gH
 | [],k,hk=>by simp at hk
 | .mk n c u::r,0,_=>by simp[pR,Wb.cond,Wb.gH]
 | .mk n c u::r,k+1,hk=>by
  have:=Oy r k (by simpa using hk);simp[pR] at this ⊢;rw[this]
theorem ug.app {w:World} {l l':List Ex} {xs xs':List dK} (h:ug w l xs) (h':ug w l' xs'):ug w (l++l') (xs++xs'):=by
 refine⟨by simp[h.1,h'.1],fun i h1 h2=>?_⟩;by_cases hi:i<l.length
 ·have hi2:i<xs.length:=by rw[<-h.1];exact hi
  simp only[bD hi,bD hi2];exact h.2 i hi hi2
 have hi2:xs.length<=i:=by have:=h.1;omega
 simp only[bK (Nat.le_of_not_lt hi),bK hi2];have e:=h.1;have:=h'.2 (i - l.length) (by simp at h1;omega) (by simp at h2;omega);simpa[e] using this
def a0E (w0:World) (B:Nat) (l:List Wb) (V:Value) (n:Nat) (zs:List Value) (w:World) (e:Ending) (w':World):Prop:=∃(v:Value) (ys:List dK),e=.returned v/\w'.ownsRow B 45 6 v (n+mH l) (zs++ys.flatMap dK.cells)/\ug w0 (pR l) ys /\
 ct (rowOf V) w w'/\(∀k,v.ownBlock=some k->V.ownBlock=some k\/w.heap.size<=k)
def a0F (w0:World) (B:Nat) (l:List Wb) (V:Value) (n:Nat) (zs:List Value) (w:World) (nl:Nat) (v t:Value) (wr:World):Prop:=∃(k:Nat) (ys:List dK),t=.int .i64 ((k:Nat):Int)/\k<=nl/\wr.ownsRow B 45 6 v (n+mH (l.take k)) (zs++ys.flatMap dK.cells)/\ug w0 (pR (l.take k)) ys /\
 ct (rowOf V) w wr/\(∀k,v.ownBlock=some k->V.ownBlock=some k\/w.heap.size<=k)
def ErV (v:Value) (n:Nat) (W W':World):Prop:=∃N,ct N W W'/\∀y∈N,y∈rowOf v\/n<=y
theorem ErV.of {v:Value} {n:Nat} {W W':World} (h:Ext W W'):ErV v n W W':=⟨[],h.cR [],fun k hk=>by simp at hk⟩
theorem ErV.cR {v:Value} {w W W':World} (h:ct (rowOf v) w W) (he:ErV v w.heap.size W W'):ct (rowOf v) w W':=by
 obtain⟨N,hc,hN⟩:=he;exact h.trans hc hN
theorem abW {w0:World} (fm:Nat):∀(l:List Wb) (a:OA) (nl c B:Nat) (V:Value) (n:Nat) (zs:List Value) (w:World),mH l<fm->nl=l.length->n+mH l<=10000->gK w0 l a->Ext w0 w->w0.heap.size<=B->B<=w.heap.size->w.ownsRow B 45 6 V n zs ->
  Calls Tryz.prog 113 #[V,.slice a nl c] w (a0E w0 B l V n zs w):=by
 induction fm with
 | zero=>intro l a nl c B V n zs w h;omega
 | succ fm ih =>
  intro l a nl c B V n zs w hfm vC hnb aDt hx0 hB hBw hown;have HD:=ai aDt;have HN:=ai vC;have BO:=ai hx0;have aFO:=ai hown;have IH:=ai ih;have HB:=ai hB;have wP:=ai hBw;have hwl:=ql l;have hnl:nl<=10000:=by omega
  clear aDt vC hx0 ih hown;go_enter Tryz.func113,Tryz.ntmps113
  go_wp2_with fail;go_loopw [0,9] (a0F w0 B l V n zs w nl) (fun _ t _=>nl - (intOf t).toNat)
  case atStart=>exact⟨0,[],rfl,by omega,by simpa[mH] using aFO.o,by simp[pR,ug.nil],ct.refl _ _,fun k hk=>aoX hk⟩
  case round =>
   obtain⟨k,ys,rfl,hk,how,hys,hch,hfr⟩:=hrel;obtain⟨va,vc,hv⟩:=eP how;subst hv;obtain⟨vn,Co⟩:∃vn,vn=n+mH (l.take k):=⟨_,rfl⟩
   rw[<-Co] at how hfr ⊢;have Lg:=ai Co;have hvb:vn<=10000:=by have:=Gn l k;omega
   obtain⟨zk,hzk⟩:∃zk,zk=zs++ys.flatMap dK.cells:=⟨_,rfl⟩
   rw[<-hzk] at how;have HZK:=ai hzk;have HOW:=ai how;have HYS:=ai hys;have HCH:=ai hch;have HFR:=ai hfr;have gZ:=ai (show Ext w0 wr from hch.ext BO.o (fun y hy=>by have:=(aFO.o.lt y (bV.1 hy)).1;have:=HB.o;omega));clear Co hzk how hys hch hfr;by_cases hkn:k<nl
   case neg =>
    have t1:=ah ((k:Int)<(nl:Int));have HT:=ai (show l.take k=l from aS (by have:=HN.o;omega));go_wp2_with fail;go_ret;refine⟨_,ys,rfl,?_,?_,HCH.o,HFR.o⟩
    ·have h1:=HOW.o;have h2:=Lg.o;rw[HT.o] at h2;rw[<-h2,<-HZK.o];exact h1
    have:=HYS.o
    rwa [HT.o] at this
   have fq:k<l.length:=by have:=HN.o;omega
   have t1:=ag ((k:Int)<(nl:Int));obtain⟨b,off,rfl,rv,hv0,hrow,hv2,hv3,hv4,hv5,hv6⟩:=gK.at l _ HD.o k fq;obtain⟨c0,c1,c2,c3,c4,c5,c6,c7⟩:=(hrow.mono gZ.o.sub).eight;have hwn:=zw l k fq;have HU:=ai hv6;have Nh:=ai hv3;have zq:=ai hv2;have uF:=ai (FR l k fq);have HCT:=ai (Oy l k fq);have HTL:=ai (Gn l (k+1));have aWb:vn+1+mH l[k].gH<=10000:=by have h1:=Gn l (k+1);have h2:=FR l k fq;have h3:=Lg.o;omega
   have aP8:mH l[k].gH<fm:=by omega
   clear hrow hv0 hv2 hv3 hv4 hv5 hv6;obtain⟨y,hy⟩:∃y,y=wr.heap.size:=⟨_,rfl⟩
   obtain⟨wx,hwx⟩:∃wx,wx=wr.alloc (.cells #[.string rv.name,rv.x.op,.string rv.x.name,.slice rv.x.aw rv.x.nw rv.x.cw,rv.x.lo,rv.x.hi,.slice rv.x.aa rv.x.na rv.x.ca,.slice rv.au rv.nu rv.cu] 53):=⟨_,rfl⟩
   have jm:=ai (show wx.heap[y]?=some (.cells #[.string rv.name,rv.x.op,.string rv.x.name,.slice rv.x.aw rv.x.nw rv.x.cw,rv.x.lo,rv.x.hi,.slice rv.x.aa rv.x.na rv.x.ca,.slice rv.au rv.nu rv.cu] 53 (0,0)) by rw[hwx,hy];exact bR wr _);have yx:=ai (show Ext wr wx by rw[hwx];exact(Tz _).alloc _);have HYN:=ai (show y∉rowOf (.slice va vn vc) from fun h=>by have:=(HOW.o.lt y (bV.1 h)).2;omega);have HOX:=ai (lG HOW.o yx.o);have HYW:=ai (show wr.heap.size<=y by omega);go_upto_region 4 with fail;rw[<-hwx,<-hy];clear hwx c0 c1 c2 c3 c4 c5 c6 c7 hy;obtain⟨U,hU⟩:∃U,U=l[k].gH:=⟨_,rfl⟩
   rw[<-hU] at HU Nh aWb aP8 uF HCT;have GX:=ai (show B<=wx.heap.size from aV wP.o (aV HCH.o.size yx.o.size));clear hU;obtain⟨g0,g1,g2,g3,g4,g5,g6,g7,gf⟩:=oO jm.o;have G1:=cU g1 (show y∉rowOf (.slice va vn vc) from HYN.o);have G2:=cU g2 (show y∉rowOf (.slice va vn vc) from HYN.o);have G3:=cU g3 (show y∉rowOf (.slice va vn vc) from HYN.o);have G4:=cU g4 (show y∉rowOf (.slice va vn vc) from HYN.o);have G5:=cU g5 (show y∉rowOf (.slice va vn vc) from HYN.o);have G6:=cU g6 (show y∉rowOf (.slice va vn vc) from HYN.o);have G7:=cU g7 (show y∉rowOf (.slice va vn vc) from HYN.o);refine kG (m:=8) (Er:=ErV (.slice va vn vc) wx.heap.size) (C:=ct (rowOf (.slice va vn vc)) wx) (Φ:=Ext wx) (fun _=>ErV.of (Tz _)) (fun _ _ h=>ErV.of h) (fun _ _ h q=>ErV.cR h q) ((Tz wx).drew.cR _) (Tz wx).drew (fun _ _ hx h=>h.trans hx) ?_
   repeat (refine bZ ?_;intro K hK;go_big_quiet_op;go_big_quiet_on)
   refine dP (γ:=Nat) (fun g=>.slice (some ⟨g,0,none⟩) 1 1) (fun g W=>Ext wx W/\W.heap[g]?=some (.cells rv.x.cells.toArray 45 (0,0))) (fun W hW h _=>?_) (fun g W W' hx h=>⟨h.1.trans hx,hx.blk h.2⟩) ?_ ⟨0⟩
   ·unfold bQ;go_simp;exact⟨ErV.of ((Tz W).alloc _),W.heap.size,rfl,h.alloc _,bR W _⟩
   intro g K hK;go_simp;go_big_quiet_on;refine dP (γ:=Nat×Nat) (fun q=>.slice (some ⟨q.1,0,none⟩) (vn+1) q.2) (fun q W=>W.ownsRow B 45 6 (.slice (some ⟨q.1,0,none⟩) (vn+1) q.2) (vn+1) (zk++rv.x.cells)/\(Value.ownBlock (.slice va vn vc)=some q.1\/wx.heap.size<=q.1)) (fun W hW h _=>?_) (fun q W W' hx h=>⟨cO h.1 (hx.cR []) (by simp),h.2⟩) ?_ ⟨(0,0)⟩
   ·refine jS DM _ _ B (.slice va vn vc) vn zk rfl g 1 1 rv.x.cells rfl rfl (by simp[dK.cells,Value.oneCell']) (by omega) (by omega) (by omega) (lG HOX.o h.1) (fun j hj=>by rw[bX h.2];simp[hj]) (by have:=GX.o;have:=h.1.size;omega) ?_;intro gg cp w6 Fi zQ UZ Ar;exact⟨⟨_,eX zQ,fun _ h=>aoX h⟩,(gg,cp),rfl,Fi,by rcases UZ with h'|h';exact aoX h';exact a4Z (by have:=h.1.size;omega)⟩
   rintro⟨gg,cp⟩ K hK;go_simp;go_big_quiet_on
   repeat (refine bZ ?_;intro K hK;go_big_quiet_op;go_big_quiet_on)
   refine dP (γ:=Value×List dK) (fun x=>x.1) (fun x W=>W.ownsRow B 45 6 x.1 (vn+1+mH U) (zk++rv.x.cells++x.2.flatMap dK.cells)/\ug w0 (pR U) x.2/\∀q,x.1.ownBlock=some q->Value.ownBlock (.slice va vn vc)=some q\/wx.heap.size<=q) (fun W hW h _=>?_) (fun x W W' hx h=>⟨cO h.1 (hx.cR []) (by simp),h.2⟩) ?_ ⟨(undef,[])⟩
   ·have hrow:∀q,some gg=some q->q∈rowOf (.slice va vn vc)\/wx.heap.size<=q:=fun q hq=>by
     obtain rfl:gg=q:=by simpa using hq
     rcases h.2 with h|h
     ·exact aoX (bV.2 h)
     exact a4Z h
    have yy:=ai hrow;have HH:=ai h.1;have aYd:=ai (show Ext w0 W from hW.ext (gZ.o.trans yx.o) (fun q hq=>by have:=(HOX.o.lt q (bV.1 hq)).1;have:=HB.o;omega));clear hrow h;unfold bQ;go_simp;refine(IH.o U rv.au rv.nu rv.cu B _ (vn+1) _ W aP8 Nh.o (by omega) HU.o aYd.o HB.o (by have:=GX.o;have:=hW.size;omega) HH.o).mono ?_;rintro r w6 ⟨v6,ys6,rfl,k1,k2,k3,k4⟩;exact⟨_,rfl,⟨_,k3,fun q hq=>yy.o q (bV.1 hq)⟩,(v6,ys6),rfl,by simpa using k1,k2,fun q hq=>by
     rcases k4 q hq with h|h
     ·exact(yy.o q h).imp bV.1 id
     exact a4Z (by have:=hW.size;omega)⟩
   rintro⟨v2,ysn⟩ K hK;go_simp;go_big_quiet_on;refine nH fun W hW2 hq _=>?_
   have JG:=ai hq;clear hq g0 g1 g2 g3 g4 g5 g6 g7 gf G1 G2 G3 G4 G5 G6 G7;obtain⟨h1,h2,h3⟩:=JG.o;have zo:=ai h1;have HY8:=ai h2;have HF8:=ai h3;have CM:=ai (show ct (rowOf (.slice va vn vc)) wx W from hW2);clear JG hW2 h1 h2 h3;go_wp2_with fail;go_roundw
   case rel =>
    refine⟨k+1,ys++rv.x::ysn,by go_num,by omega,?_,?_,?_,?_⟩
    ·have h1:=zo.o;have h2:vn+1+mH U=n+mH (l.take (k+1)):=by have:=Lg.o;have:=uF.o;omega
     rw[h2,HZK.o] at h1;simpa using h1
    ·rw[HCT.o];refine HYS.o.app ?_;have h1:ug w0 [l[k].cond] [rv.x]:=(ug.nil w0).snoc zq.o;have:=h1.app HY8.o;simpa using this
    ·refine(HCH.o.then (yx.o.cR _)).trans CM.o fun y hy=>?_
     rcases HFR.o y (bV.1 hy) with h|h
     ·exact aoX (bV.2 h)
     exact a4Z h
    intro q hq;rcases HF8.o q hq with h|h
    ·exact HFR.o q h
    exact a4Z (by have h1:=HCH.o.size;have h2:=yx.o.size;omega)
   case measure=>simp[intOf];omega
def KwQ (k:Int) (w:World) (e:Ending) (w':World):Prop:=∃s:BA,e=.returned (.string s)/\s.toList.isEmpty=!decide (1<=k/\k<=10)/\w=w'
theorem aiW (k:Int) (w:World):Calls Tryz.prog 181 #[ k] w (KwQ k w):=by
 by_cases h:1<=k/\k<=10
 ·have HD:=ai (show (!decide (1<=k/\k<=10))=false by rw[bO h];rfl);unfold KwQ;rw[HD.o];clear HD;have hk:k=1\/k=2\/k=3\/k=4\/k=5\/k=6\/k=7\/k=8\/k=9\/k=10:=by omega
  clear h;rcases hk with rfl|rfl|rfl|rfl|rfl|rfl|rfl|rfl|rfl|rfl
  all_goals
   go_enter Tryz.func181,Tryz.ntmps181
   go_wp2_with fail;go_ret;exact⟨_,rfl,by decide +kernel,rfl⟩
 have HD:=ai (show (!decide (1<=k/\k<=10))=true by rw[bP h];rfl);unfold KwQ;rw[HD.o];have e1:(k==1)=false:=by simp;omega
 have e2:(k==2)=false:=by simp;omega
 have e3:(k==3)=false:=by simp;omega
 have e4:(k==4)=false:=by simp;omega
 have e5:(k==5)=false:=by simp;omega
 have e6:(k==6)=false:=by simp;omega
 have e7:(k==7)=false:=by simp;omega
 have e8:(k==8)=false:=by simp;omega
 have e9:(k==9)=false:=by simp;omega
 have e10:(k==10)=false:=by simp;omega
 clear h;go_enter Tryz.func181,Tryz.ntmps181
 go_wp2_with fail;go_ret;exact⟨_,rfl,by decide +kernel,rfl⟩
theorem agO (k:Int) (w:World):Calls Tryz.prog 182 #[ k] w (pg (.int .i64 (ku k)) w):=by
 obtain⟨E,hE⟩:∃E,E=ku k:=⟨_,rfl⟩
 rw[<-hE];by_cases h:k=5\/k=6\/k=7\/k=10\/k=8
 ·have HE:=ai hE;clear hE;rcases h with rfl|rfl|rfl|rfl|rfl
  all_goals
   go_enter Tryz.func182,Tryz.ntmps182
   go_wp2_with fail;go_ret;exact sZ (by rw[HE.o];rfl)
 have HE:=ai (show E=0 by rw[hE];unfold ku;rw[bL (by omega),bL (by omega)]);have e5:(k==5)=false:=by simp;omega
 have e6:(k==6)=false:=by simp;omega
 have e7:(k==7)=false:=by simp;omega
 have e8:(k==8)=false:=by simp;omega
 have e10:(k==10)=false:=by simp;omega
 clear h hE;go_enter Tryz.func182,Tryz.ntmps182
 go_wp2_with fail;go_ret;exact sZ (by rw[HE.o])
theorem XY:(l:List Wb)->iK l<=mH l
 | []=>by simp[iK]
 | .mk n c u::r=>by
  have h1:=XY u;have h2:=XY r;rw[iK,mH];omega
theorem axO:(l:List Wb)->iK l<=40->mH l<=40
 | [],_=>by simp[mH]
 | .mk n c u::r,h=>by
  rw[iK] at h;have key:∀l:List Wb,iK l<=40->mH l<=iK l:=by
   intro l;induction l using mH.induct with
   | case1=>intro _;simp[mH]
   | case2 n c u r ih1 ih2 =>
    intro h;rw[iK] at h ⊢;have h1:=ih1 (by omega);have h2:=ih2 (by omega);rw[mH];omega
  have h1:=key u (by omega);have h2:=key r (by omega);rw[mH];omega
theorem aIz (l:List Wb):decide (iK l<=40)=decide (0+mH l<=40):=by
 have h1:=XY l;have h2:=axO l;rw[decide_eq_decide];constructor
 ·intro h;have:=h2 h;omega
 intro h;omega
theorem ahu (c:cK):gQ c=(decide (1<=c.kind/\c.kind<=10)&&gJ c.name&&eW c.cond&&(decide (c.gH.length=0)||(c.kind==3))&&(decide (min 1 (ku c.kind)<=c.ck)&&decide (c.ck<=ku c.kind))&&(mh 16 c.gH&&decide (0+mH c.gH<=40))):=by
 have hm:0<=ku c.kind:=by unfold ku;split<;>(try split)<;>omega
 have h1:((decide (ku c.kind=0)&&(c.ck==0))||(decide (0<ku c.kind)&&decide (1<=c.ck)&&decide (c.ck<=ku c.kind)))=(decide (min 1 (ku c.kind)<=c.ck)&&decide (c.ck<=ku c.kind)):=by
  generalize ku c.kind=m at *;generalize c.ck=a;rw[bH];simp only[bG,aF,aH,a47];omega
 unfold gQ;rw[h1,aIz];have h2:(decide (1<=c.kind)&&decide (c.kind<=10))=decide (1<=c.kind/\c.kind<=10):=by simp
 rw[h2];generalize (decide (min 1 (ku c.kind)<=c.ck)&&decide (c.ck<=ku c.kind))=A;by_cases hl:c.gH.length=0
 ·have:c.gH=[]:=aR hl;rw[this];simp[mh,mH]
 simp only[hl,decide_false,Bool.false_or];cases decide (1<=c.kind/\c.kind<=10)<;>cases gJ c.name<;>cases eW c.cond<;>cases (c.kind==3)<;>cases decide (0+mH c.gH<=40)<;>cases mh 16 c.gH<;>cases A<;>rfl
theorem aiw (c:cK) (v:fM) (w:World) (hc:ij w c v) (ho:dQ w) (hok:c.fit) :
  Calls Tryz.prog 166 #[.agg #[ v.kind,.string v.name,v.x.op,.string v.x.name,.slice v.x.aw v.x.nw v.x.cw,v.x.lo,v.x.hi,.slice v.x.aa v.x.na v.x.ca,.slice v.au v.nu v.cu,v.ck]] w (cz (.bool (gQ c)) w):=by
 obtain⟨hk,hnm,hex,ZW,-,-,iV,ham⟩:=hc;obtain⟨ho1,ho2,ho3,ho4,ho5,Fi⟩:=hok;rw[hk,hnm,ham];have zq:=ai hex;have HWB:=ai iV;have HNU:=ai ZW;have HO:=ai ho;have tX:=ai ho2;have CG:=ai Fi;have aDf:v.nu<=1000000000000000:=by rw[ZW];exact ho5
 obtain⟨R,hR⟩:∃R,R=gQ c:=⟨_,rfl⟩
 rw[<-hR];rw[ahu] at hR;have HR:=ai hR;clear hk hnm hex ZW iV ham ho2 ho3 ho4 ho5 Fi hR ho;obtain⟨kind,name,cond,gH,ck⟩:=c;simp only at *;obtain⟨vk,vn,x,au,nu,cu,va⟩:=v;simp only at *;obtain⟨wa,cN⟩:∃wa,wa=w.alloc (.cells #[ kind,.string name,x.op,.string x.name,.slice x.aw x.nw x.cw,x.lo,x.hi,.slice x.aa x.na x.ca,.slice au nu cu,ck] 48):=⟨_,rfl⟩
 have gB:Ext w wa:=by rw[cN];exact(Tz _).alloc _
 have hb:wa.heap[w.heap.size]?=some (.cells #[ kind,.string name,x.op,.string x.name,.slice x.aw x.nw x.cw,x.lo,x.hi,.slice x.aa x.na x.ca,.slice au nu cu,ck] 48 (0,0)):=by rw[cN];exact bR w _
 have dm:=ai gB;have HB:=ai hb;obtain⟨b0,b1,b2,b3,b4,b5,b6,b7,b8,b9,bf⟩:=rB hb;have kL:=bS hb;clear gB hb;go_enter Tryz.func166,Tryz.ntmps166
 go_upto_region 1 with fail;rw[<-cN];clear cN;go_wp2_with fail;refine(aiW kind wa).mono ?_;rintro r w1 ⟨s,rfl,hs,rfl⟩;cases tC:decide (1<=kind/\kind<=10)
 ·rw[tC] at hs HR;have HF:=ai (show R=false by rw[HR.o];rfl);have hs2:s.toList.isEmpty=true:=hs;clear hs tC;go_wp2_with fail;go_ret;exact fQ (by rw[HF.o]) dm.o
 rw[tC] at hs HR;have hs2:s.toList.isEmpty=false:=hs;rw[Bool.true_and] at HR;clear hs tC;go_wp2_with fail;refine(rN _ _ ho1).mono ?_;rintro r w1 ⟨rfl,rfl⟩;cases hnb:gJ name
 ·rw[hnb] at HR;have HF:=ai (show R=false by rw[HR.o];rfl);clear hnb;go_wp2_with fail;go_ret;exact fQ (by rw[HF.o]) dm.o
 rw[hnb,Bool.true_and] at HR;clear hnb;go_wp2_with fail;refine(rC cond _ _ (zq.o.ext dm.o) (HO.o.ext dm.o) tX.o).mono ?_;rintro r w2 ⟨rfl,hx2⟩;rw[zx];have dN:=ai (dm.o.trans hx2);have fY:=ai (hx2.blk HB.o);clear hx2 b0 b1 b2 b3 b4 b5 b6 b7 b8 b9 bf kL;obtain⟨b0,b1,b2,b3,b4,b5,b6,b7,b8,b9,bf⟩:=rB fY.o;have kL:=bS fY.o;cases hxb:eW cond
 ·rw[hxb] at HR;have HF:=ai (show R=false by rw[HR.o];rfl);clear hxb;go_wp2_with fail;go_ret;exact fQ (by rw[HF.o]) dN.o
 rw[hxb,Bool.true_and] at HR;clear hxb;by_cases adI:kind≠3/\0<nu
 ·obtain⟨h3,h0⟩:=adI;have t3:(kind != 3)=true:=by simp[h3]
  have t0:=ag ((0:Int)<(nu:Int));have HF:=ai (show R=false by
   have e0:=ah (gH.length=0) (by have:=HNU.o;omega);have e3:(kind==3)=false:=by simp[h3]
   rw[HR.o,e0,e3];rfl)
  clear h3;go_wp2_with fail;go_ret;exact fQ (by rw[HF.o]) dN.o
 have jI:=ai (show R=(decide (min 1 (ku kind)<=ck)&&decide (ck<=ku kind)&&(mh 16 gH&&decide (0+mH gH<=40))) by
  rw[HR.o];by_cases h0:nu=0
  ·have e0:=ag (gH.length=0) (by have:=HNU.o;omega);rw[e0];simp
  have e3:(kind==3)=true:=by
   by_cases h3:kind=3
   ·simp[h3]
   exact a40 ⟨h3,by omega⟩ adI
  rw[e3];simp)
 clear HR;obtain⟨M,hM⟩:∃M,M=ku kind:=⟨_,rfl⟩
 have hM0:0<=M/\M<=1073741824:=by rw[hM];unfold ku;split<;>(try split)<;>omega
 rw[<-hM] at jI;have HM:=ai hM;clear hM;obtain⟨hM0,hM1⟩:=hM0;by_cases h3:kind=3
 case' pos =>
  have t3:(kind != 3)=false:=by simp[h3]
  clear adI h3
 case' neg =>
  have t3:(kind != 3)=true:=by simp[h3]
  have hn0:nu=0:=by
   rcases Nat.eq_zero_or_pos nu with h|h
   ·exact h
   exact a40 ⟨h3,h⟩ adI
  have t0:=ah ((0:Int)<(nu:Int));have t00:=ah (0<nu);clear adI h3 hn0
 all_goals
  go_wp2_with fail;refine(agO kind w2).mono ?_;rintro r w3 ⟨rfl,rfl⟩;rw[<-HM.o];clear HM;rcases(show M=0\/1<=M by omega) with h0|h1
  case inl =>
   subst h0;have hmin:min (1:Int) 0=0:=by decide
   by_cases hlo:ck<0
   ·have t4:=ag (ck<0) hlo;have HF:=ai (show R=false by
     have:decide (min 1 0<=ck)=false:=bP (by omega);rw[jI.o,this];rfl)
    clear hlo;go_wp2_with fail;go_ret;exact fQ (by rw[HF.o]) dN.o
   have t4:=ah (ck<0) hlo;by_cases hhi:0<ck
   ·have t5:=ag (0<ck) hhi;have HF:=ai (show R=false by
     have:decide (ck<=0)=false:=bP (by omega);rw[jI.o,this];simp)
    clear hlo hhi;go_wp2_with fail;go_ret;exact fQ (by rw[HF.o]) dN.o
   have t5:=ah (0<ck) hhi;have nL:=ai (show R=(mh 16 gH&&decide (0+mH gH<=40)) by
    have e1:=ag (min 1 0<=ck);have e2:=ag (ck<=0);rw[jI.o,e1,e2];rfl)
   clear hlo hhi jI;go_wp2_with fail;have HWF:=ai (Np HO.o (mH gH+1) gH au _ cu 1 0 w2.heap.size (w2.alloc (.cells #[.int .i64 0] 3)) (by omega) aDf CG.o (by omega) (by omega) (by omega) HNU.o
    (gK.mono (fun p v hp=>by
     have hlt:p.block<w2.heap.size:=eB (dN.o.cell hp);rw[eA,bL (by simp;omega)];exact((Tz w2).alloc _).cell (dN.o.cell hp)) _ _ HWB.o) (dN.o.alloc _) dN.o.size (bR w2 _))
   refine HWF.o.mono ?_;rintro r w4 ⟨m4,rfl,-,-,-,hch⟩;have jl:=ai (hch.ext (dN.o.alloc _) (by have:=dN.o.size;simpa using this));clear hch;go_wp2_with fail;go_ret;exact fQ (by rw[nL.o,Nat.zero_add]) jl.o
  have t6:=ag (1<=M) h1;have hmin:min (1:Int) M=1:=by omega
  by_cases hlo:ck<1
  ·have t4:=ag (ck<1) hlo;have HF:=ai (show R=false by
    have:decide (min 1 M<=ck)=false:=bP (by omega);rw[jI.o,this];rfl)
   clear hlo;go_wp2_with fail;go_ret;exact fQ (by rw[HF.o]) dN.o
  have t4:=ah (ck<1) hlo;by_cases hhi:M<ck
  ·have t5:=ag (M<ck) hhi;have HF:=ai (show R=false by
    have:decide (ck<=M)=false:=bP (by omega);rw[jI.o,this];simp)
   clear hlo hhi;go_wp2_with fail;go_ret;exact fQ (by rw[HF.o]) dN.o
  have t5:=ah (M<ck) hhi;have nL:=ai (show R=(mh 16 gH&&decide (0+mH gH<=40)) by
   have e1:=ag (min 1 M<=ck);have e2:=ag (ck<=M);rw[jI.o,e1,e2];rfl)
  clear hlo hhi jI;go_wp2_with fail;have HWF:=ai (Np HO.o (mH gH+1) gH au _ cu 1 0 w2.heap.size (w2.alloc (.cells #[.int .i64 0] 3)) (by omega) aDf CG.o (by omega) (by omega) (by omega) HNU.o
   (gK.mono (fun p v hp=>by
    have hlt:p.block<w2.heap.size:=eB (dN.o.cell hp);rw[eA,bL (by simp;omega)];exact((Tz w2).alloc _).cell (dN.o.cell hp)) _ _ HWB.o) (dN.o.alloc _) dN.o.size (bR w2 _))
  refine HWF.o.mono ?_;rintro r w4 ⟨m4,rfl,-,-,-,hch⟩;have jl:=ai (hch.ext (dN.o.alloc _) (by have:=dN.o.size;simpa using this));clear hch;go_wp2_with fail;go_ret;exact fQ (by rw[nL.o,Nat.zero_add]) jl.o
def OC (l:List cK):Bool:=decide (l.length<=40)&&l.all gQ
theorem afg (l:List cK) (a:OA) (n c:Nat) (w:World) (hl:cZ w l a n c) (ho:dQ w) (hok:∀x∈l,x.fit) (hn:n<=1000000000000000) :
  Calls Tryz.prog 136 #[.slice a n c] w (cz (.bool (OC l)) w):=by
 have HL:=ai hl;have HN:=ai hl.len;have HO:=ai ho;have zm:=ai hok;obtain⟨R,hR⟩:∃R,R=OC l:=⟨_,rfl⟩
 rw[<-hR];have HR:=ai (show R=(decide (l.length<=40)&&l.all gQ) from hR);clear hl ho hok hR;by_cases h40:40<n
 ·have t0:=ag ((40:Int)<(n:Int));have HF:=ai (show R=false by rw[HR.o,bP (by have:=HN.o;omega)];rfl);go_enter Tryz.func136,Tryz.ntmps136
  go_wp2_with fail;go_ret;exact fQ (by rw[HF.o]) (Tz _)
 have t0:=ah ((40:Int)<(n:Int));have jI:=ai (show R=l.all gQ by rw[HR.o,bO (by have:=HN.o;omega)];rfl);clear HR;go_enter Tryz.func136,Tryz.ntmps136
 go_wp2_with fail;go_loopw [10] (fun t wr=>∃k:Nat,t=.int .i64 k/\k<=n/\(∀j (h:j<l.length),j<k->gQ l[j]=true)/\Ext w wr) (fun t _=>n - (intOf t).toNat)
 case atStart=>exact⟨0,rfl,by omega,fun j _ h=>by omega,Tz _⟩
 case round =>
  obtain⟨k,rfl,hk,hall,lM⟩:=hrel;have mK:=ai hall;have gZ:=ai lM;clear hall lM;by_cases hkn:k<n
  ·have fq:k<l.length:=by have:=HN.o;omega
   have t1:=ag ((k:Int)<(n:Int));obtain⟨b,off,v,rfl,fO,hrow⟩:=(HL.o.ext gZ.o).at fq;obtain⟨c0,c1,c2,c3,c4,c5,c6,c7,c8,c9⟩:=hrow.BB;have HC:=ai (fun (W:World) (hW:Ext wr W)=>aiw l[k] v W (fO.mono hW.sub) (HO.o.ext (gZ.o.trans hW)) (zm.o _ (aD fq)));clear fO hrow;cases hcb:gQ l[k]
   ·have si:=ai hcb;have HF:=ai (show R=false by
     rw[jI.o,List.all_eq_false];exact⟨l[k],aD fq,by rw[hcb];simp⟩)
    clear hcb;go_wp2_with fail;refine(HC.o _ ((Tz wr).alloc _)).mono ?_;rintro r w3 ⟨rfl,hx3⟩;rw[si.o];have dS:=ai ((gZ.o.alloc _).trans hx3);clear hx3 c0 c1 c2 c3 c4 c5 c6 c7 c8 c9;go_wp2_with fail;go_ret;exact fQ (by rw[HF.o]) dS.o
   have si:=ai hcb;clear hcb;go_wp2_with fail;refine(HC.o _ ((Tz wr).alloc _)).mono ?_;rintro r w3 ⟨rfl,hx3⟩;rw[si.o];have dS:=ai ((gZ.o.alloc _).trans hx3);clear hx3 c0 c1 c2 c3 c4 c5 c6 c7 c8 c9;go_wp2_with fail;go_roundw
   case rel =>
    refine⟨k+1,by go_num,by omega,fun j hj hjk=>?_,dS.o⟩;by_cases e:j=k
    ·subst e;exact si.o
    exact mK.o j hj (by omega)
   case measure=>simp[intOf];omega
  have t1:=ah ((k:Int)<(n:Int));have HF:=ai (show R=true by
   rw[jI.o,aP];intro x hx;obtain⟨j,hj,rfl⟩:=aW.1 hx;exact mK.o j hj (by have:=HN.o;omega))
  go_wp2_with fail;go_ret;exact fQ (by rw[HF.o]) gZ.o
theorem aiB (l:List cK) (a:OA) (n c:Nat) (w:World) (hl:cZ w l a n c) (ho:dQ w) (hok:∀x∈l,x.fit) (hn:n<=1000000000000000) :
  Calls Tryz.prog 106 #[.agg #[.slice a n c,.slice none 0 0]] w (cz (.bool (OC l)) w):=by
 obtain⟨wa,cN⟩:∃wa,wa=w.alloc (.cells #[.slice a n c,.slice none 0 0] 166):=⟨_,rfl⟩
 have gB:Ext w wa:=by rw[cN];exact(Tz _).alloc _
 have hb:wa.heap[w.heap.size]?=some (.cells #[.slice a n c,.slice none 0 0] 166 (0,0)):=by rw[cN];exact bR w _
 obtain⟨b0,b1,bf⟩:=uZ hb;have kL:=bS hb;have dm:=ai gB;have HB:=ai hb;have HC:=ai (afg l a n c wa (hl.ext gB) (ho.ext gB) hok hn);obtain⟨R,hR⟩:∃R,R=OC l:=⟨_,rfl⟩
 rw[<-hR] at HC ⊢;clear hl ho hok hR gB hb;go_enter Tryz.func106,Tryz.ntmps106
 go_upto_region 1 with fail;rw[<-cN];clear cN;go_wp2_with fail;refine HC.o.mono ?_;rintro r w3 ⟨rfl,hx3⟩;have dS:=ai (dm.o.trans hx3);have nU:=ai (hx3.blk HB.o);clear hx3 b0 b1 bf kL;obtain⟨b0,b1,bf⟩:=uZ nU.o;have kL:=bS nU.o;cases R
 ·go_wp2_with fail;go_ret;exact fQ rfl dS.o
 go_wp2_with fail
 go_loop [18] (fun t=>t=.int .i64 0) (fun _=>0)
 case atStart=>exact rfl
 case round =>
  subst hrel;go_wp2_with fail;go_ret;exact fQ rfl dS.o
theorem akK {w:World} {g:Nat} {v:fM} {x:cK} {t:TypeId} (h:w.heap[g]?=some (.cells v.cells.toArray t (0,0))) (hx:ij w x v):cZ w [x] (some ⟨g,0,none⟩) 1 1:=by
 refine⟨[v],⟨rfl,aU _,a4Z ⟨g,0,rfl⟩,fun i hi=>⟨g,0,rfl,fun j hj=>?_⟩⟩,rfl,fun i h1 h2=>?_⟩
 ·obtain rfl:i=0:=by simp at hi;omega
  rw[bX h];simp only[bB,Nat.zero_mul,Nat.zero_add,Nat.add_zero] at hj ⊢;simp[hj]
 obtain rfl:i=0:=by simp at h1;omega
 exact hx
theorem anW (c:cK):OC [c]=gQ c:=by simp[OC]
def lC (c:cK):List Ex:=c.cond::pR c.gH
theorem XW (c:cK):(lC c).length=1+mH c.gH:=by simp[lC,XV];omega
theorem Dk (w:World):Sub w (mask w []):=fun p v hp=>by rw[eA,bL (by simp)];exact hp
theorem akn (w:World) (arr:Array Value) (e:TypeId) {size n base:Nat} (hs:arr.size=n*size) (hn:n<=maxLen) (hb:base<=w.heap.size):(w.alloc (.cells arr e)).ownsRow base e size (.slice (some ⟨w.heap.size,0,none⟩) n n) n arr.toList :=
 ⟨by simpa using hs,a4Z ⟨w.heap.size,n,arr,rfl,hb,bR w _,aU _,hn,hs,by rw[aS (by simp;omega)]⟩⟩
def aVm (c:cK) (w:World) (e:Ending) (w':World):Prop:=∃a n k,e=.returned (.slice a n k)/\n=(lC c).length/\n<=k/\eU w' (lC c) a/\Ext w w'
theorem Oz (c:cK) (v:fM) (w:World) (hc:ij w c v) (hn:mH c.gH<=9000) :
  Calls Tryz.prog 82 #[.agg #[ v.kind,.string v.name,v.x.op,.string v.x.name,.slice v.x.aw v.x.nw v.x.cw,v.x.lo,v.x.hi,.slice v.x.aa v.x.na v.x.ca,.slice v.au v.nu v.cu,v.ck]] w (aVm c w):=by
 obtain⟨-,-,hex,ZW,-,-,iV,-⟩:=hc;have zq:=ai hex;have HWB:=ai iV;have HNU:=ai ZW;obtain⟨wa,cN⟩:∃wa,wa=w.alloc (.cells #[ v.kind,.string v.name,v.x.op,.string v.x.name,.slice v.x.aw v.x.nw v.x.cw,v.x.lo,v.x.hi,.slice v.x.aa v.x.na v.x.ca,.slice v.au v.nu v.cu,v.ck] 48):=⟨_,rfl⟩
 have gB:Ext w wa:=by rw[cN];exact(Tz _).alloc _
 have hb:wa.heap[w.heap.size]?=some (.cells #[ v.kind,.string v.name,v.x.op,.string v.x.name,.slice v.x.aw v.x.nw v.x.cw,v.x.lo,v.x.hi,.slice v.x.aa v.x.na v.x.ca,.slice v.au v.nu v.cu,v.ck] 48 (0,0)):=by rw[cN];exact bR w _
 have dm:=ai gB;obtain⟨b0,b1,b2,b3,b4,b5,b6,b7,b8,b9,bf⟩:=rB hb;have kL:=bS hb;clear gB hb hex iV ZW;go_enter Tryz.func82,Tryz.ntmps82
 go_upto_region 1 with fail;rw[<-cN];clear cN;obtain⟨wx,hwx⟩:∃wx,wx=wa.alloc (.cells #[ v.x.op,.string v.x.name,.slice v.x.aw v.x.nw v.x.cw,v.x.lo,v.x.hi,.slice v.x.aa v.x.na v.x.ca] 45):=⟨_,rfl⟩
 have yx:=ai (show Ext wa wx by rw[hwx];exact(Tz _).alloc _);have HOW:=ai (show wx.ownsRow wa.heap.size 45 6 (.slice (some ⟨wa.heap.size,0,none⟩) 1 1) 1 v.x.cells by rw[hwx];exact akn wa #[ v.x.op,.string v.x.name,.slice v.x.aw v.x.nw v.x.cw,v.x.lo,v.x.hi,.slice v.x.aa v.x.na v.x.ca] 45 (by simp) (by unfold maxLen;omega) (aU _));have HEC:=ai (abW (mH c.gH+1) c.gH v.au v.nu v.cu wa.heap.size (.slice (some ⟨wa.heap.size,0,none⟩) 1 1) 1 v.x.cells wx (by omega) HNU.o (by omega) HWB.o (dm.o.trans yx.o) dm.o.size yx.o.size HOW.o);go_wp2_with fail;rw[<-hwx];clear hwx;refine HEC.o.mono ?_;rintro r w3 ⟨v3,ys,rfl,hown,hys,hch,hfr⟩;have vF:=ai hown;have HY3:=ai hys;have dS:=ai (show Ext w w3 from hch.ext (dm.o.trans yx.o) (fun y hy=>by have h1:=(HOW.o.lt y (bV.1 hy)).1;have:=dm.o.size;omega));clear hown hys hch hfr b0 b1 b2 b3 b4 b5 b6 b7 b8 b9 bf kL HEC;obtain⟨a3,c3,hv3⟩:=eP vF.o;subst hv3;go_wp2_with fail;go_ret;have hl:(lC c).length=1+mH c.gH:=XW c;have hR:ug w (lC c) (v.x::ys):=by
  have h1:ug w [c.cond] [v.x]:=(ug.nil w).snoc zq.o;simpa[lC] using h1.app HY3.o
 obtain⟨a',c',e',h1,h2,h3⟩:=KC (M:=[]) (l:=lC c) (xs:=v.x::ys) (by rw[hl];simpa using vF.o) (by simp) (hR.mono (dS.o.sub.trans (Dk _)));rw[hl] at e';simp only[a45,true_and] at e';obtain⟨rfl,rfl⟩:=e';exact⟨_,_,_,rfl,hl.symm,by rw[<-hl];exact h1,eU.mono (cC _ _) _ _ h3,dS.o⟩
theorem Wh (s:List Attr) (l:List cK):(a b:List Ex)->dZ s l (a++b)=if dZ s l a≠0 then dZ s l a else dZ s l b
 | [],b=>by simp[dZ]
 | e::r,b=>by
  have ih:=Wh s l r b;simp only[a48];rw[dZ,dZ,ih];by_cases h:dr s l e≠0
  ·rw[bM h,bM h,bM h]
  rw[bL h,bL h]
theorem KU (s:List Attr) (l:List cK):(u:List Wb)->fG s l u=dZ s l (pR u)
 | []=>by rw[fG,pR,dZ]
 | .mk n c u::r=>by
  rw[fG,pR,dZ,Wh,KU s l u,KU s l r]
theorem FC (l:List cK):(u:List Wb)->eH l u=(pR u).any fun x=>decide (2000<dV l x)
 | []=>by rw[eH,pR];rfl
 | .mk n c u::r=>by
  rw[eH,pR,FC l u,FC l r];simp[List.any_append,Bool.or_assoc]
theorem X5:(d:Nat)->(u:List Wb)->mh d u=true->∀x∈pR u,eW x=true
 | _,[],_,x,hx=>by simp[pR] at hx
 | d,.mk n c u::r,h,x,hx=>by
  rw[mh] at h;simp only[aF] at h;rw[pR] at hx;rcases bz.1 hx with rfl|hx
  ·exact h.1.1.2
  rcases aN.1 hx with hx|hx
  ·exact X5 _ u h.1.2 x hx
  exact X5 _ r h.2 x hx
theorem wY {c:cK} (h:gQ c=true):(∀x∈lC c,eW x=true)/\mH c.gH<=40:=by
 have h0:=Ji h;rw[ahu] at h;simp only[aF,aH] at h;refine⟨fun x hx=>?_,by have:=h.2.2;omega⟩;rcases bz.1 hx with rfl|hx
 ·exact h0
 exact X5 _ _ h.2.1 x hx
theorem ab3:(u:List Wb)->nY u->∀x∈pR u,x.fits/\x.iT
 | [],_,x,hx=>by simp[pR] at hx
 | .mk n c u::r,h,x,hx=>by
  rw[nY] at h;rw[pR] at hx;rcases bz.1 hx with rfl|hx
  ·exact⟨h.2.1,h.2.2.1⟩
  rcases aN.1 hx with hx|hx
  ·exact ab3 u h.2.2.2.2.2.1 x hx
  exact ab3 r h.2.2.2.2.2.2 x hx
theorem ahp {c:cK} (h:c.fit):∀x∈lC c,x.fits/\x.iT:=fun x hx=>by
 rcases bz.1 hx with rfl|hx
 ·exact⟨h.2.1,h.2.2.1⟩
 exact ab3 _ h.2.2.2.2.2 x hx
def ar5 (s:List Attr) (l:List cK) (bef:List cK) (c:cK):Int :=
 if gQ c=false then 5 else if (findAt bef c.name).isSome then 8 else if (eO s c.name).isSome then 8 else dZ s l (lC c)
theorem ar4 (s:List Attr) (l:List cK) {i:Nat} (hi:i<l.length):ar5 s l (l.take i) l[i]=jE s l i:=by
 unfold ar5 jE;rw[fJ hi];have hf:(findAt (l.take i) l[i].name).isSome=decide ((findAt l l[i].name).getD 0<i):=by
  unfold findAt;cases h:l.findIdx? (fun c=>decide (c.name=l[i].name)) with
  | none =>
   rw[bh] at h;have:=h l[i] (aD hi);simp at this
  | some f =>
   rw[aJ] at h;obtain⟨hf,h1,h2⟩:=h;by_cases ZZ:f<i
   ·have:(l.take i).findIdx? (fun c=>decide (c.name=l[i].name))=some f:=by
     rw[aJ];exact⟨by simp;omega,by simpa using h1,fun j hj=>by simpa using h2 j hj⟩
    rw[this];simp[ZZ]
   have:(l.take i).findIdx? (fun c=>decide (c.name=l[i].name))=none:=by
    rw[bh];intro x hx;obtain⟨j,hj,rfl⟩:=aW.1 hx;have:=h2 j (by simp at hj;omega);simpa using this
   rw[this];simp[ZZ]
 rw[hf,KU];have hc:dZ s l (lC l[i])=if dr s l l[i].cond≠0 then dr s l l[i].cond else dZ s l (pR l[i].gH):=by rw[lC,dZ]
 rw[hc];simp only[aH]
theorem ajm (s:List Attr) (hse:dy s=0) (l bef:List cK) (hf:∀x∈s,x.fits) (hsl:s.length<=1000000000000000) (bm nm:Nat) (ba:OA) (bn bc:Nat) (c:cK) (v:fM) (sv:Value) (w:World) (hok:c.fit) (ho:dQ w) (hs:dB w s sv) (hd:xS w l bm nm) (hb:cZ w bef ba bn bc) (rO:bn<=1000000000000000) (hc:ij w c v) :
  Calls Tryz.prog 79 #[sv,.map (some bm),.slice ba bn bc,.agg #[ v.kind,.string v.name,v.x.op,.string v.x.name,.slice v.x.aw v.x.nw v.x.cw,v.x.lo,v.x.hi,.slice v.x.aa v.x.na v.x.ca,.slice v.au v.nu v.cu,v.ck]] w (cz (.int .i64 (ar5 s l bef c)) w):=by
 obtain⟨sa,sn,sc,rfl,B6⟩:=hs.slice;have HS:=ai hs;have HD:=ai hd;have HC:=ai hc;have zm:=ai hok;have Yl:=ai (fun (W:World) (hW:Ext w W) (g:Nat) (hg:W.heap[g]?=some (.cells v.cells.toArray 48 (0,0)))=>aiB [c] (some ⟨g,0,none⟩) 1 1 W (akK hg (hc.mono hW.sub)) (ho.ext hW) (by simpa using hok) (by omega));have HFI:=ai (fun (W:World) (hW:Ext w W)=>apx bef ba bn bc v.name W (hb.ext hW) rO);have tF:=ai (fun (W:World) (hW:Ext w W)=>IL s (.agg #[.slice sa sn sc]) v.name W (hs.ext hW) hsl);have zi:=ai (fun (e:Ex) (ev:Value) (W:World) (hW:Ext w W) (h1:e.iT) (h2:e.fits) (he:dw W e ev)=>Mq s hse l hf hsl bm nm e ev (.agg #[.slice sa sn sc]) W h1 h2 (ho.ext hW) (hs.ext hW) (hd.ext hW) he);rw[anW] at Yl;have hnm:v.name=c.name:=hc.2.1;obtain⟨R,hR⟩:∃R,R=ar5 s l bef c:=⟨_,rfl⟩
 rw[<-hR];have HR:=ai (show R=if gQ c=false then 5 else if (findAt bef v.name).isSome then 8 else if (eO s v.name).isSome then 8 else dZ s l (lC c) by rw[hnm];exact hR);clear hnm;obtain⟨wa,cN⟩:∃wa,wa=(w.alloc (.cells #[.slice sa sn sc] 24)).alloc (.cells #[ v.kind,.string v.name,v.x.op,.string v.x.name,.slice v.x.aw v.x.nw v.x.cw,v.x.lo,v.x.hi,.slice v.x.aa v.x.na v.x.ca,.slice v.au v.nu v.cu,v.ck] 48):=⟨_,rfl⟩
 have gB:Ext w wa:=by rw[cN];exact((Tz _).alloc _).alloc _
 have hb0:wa.heap[w.heap.size]?=some (.cells #[.slice sa sn sc] 24 (0,0)):=by rw[cN];exact bU (bR w _)
 have hb1:wa.heap[w.heap.size+1]?=some (.cells #[ v.kind,.string v.name,v.x.op,.string v.x.name,.slice v.x.aw v.x.nw v.x.cw,v.x.lo,v.x.hi,.slice v.x.aa v.x.na v.x.ca,.slice v.au v.nu v.cu,v.ck] 48 (0,0)):=by rw[cN];exact cT (by simp)
 have dm:=ai gB;have iO:=ai hb0;have gG:=ai hb1;obtain⟨b0,b1,b2,b3,b4,b5,b6,b7,b8,b9,bf⟩:=rB hb1;have kI:=bS hb1;clear hs hd hc hok hb ho hR B6 gB hb0 hb1 hf;go_enter Tryz.func79,Tryz.ntmps79
 go_upto_region 1 with fail;rw[<-cN];clear cN;obtain⟨wx,hwx⟩:∃wx,wx=wa.alloc (.cells #[ v.kind,.string v.name,v.x.op,.string v.x.name,.slice v.x.aw v.x.nw v.x.cw,v.x.lo,v.x.hi,.slice v.x.aa v.x.na v.x.ca,.slice v.au v.nu v.cu,v.ck] 48):=⟨_,rfl⟩
 have Sd:Ext wa wx:=by rw[hwx];exact(Tz _).alloc _
 have jm:=ai (show wx.heap[wa.heap.size]?=some (.cells v.cells.toArray 48 (0,0)) by rw[hwx];exact bR wa _);have yx:=ai (dm.o.trans Sd);have iO:=ai (Sd.blk iO.o);have gG:=ai (Sd.blk gG.o);clear Sd;go_wp2_with fail;rw[<-hwx];clear hwx;refine(Yl.o wx yx.o wa.heap.size jm.o).mono ?_;rintro r w3 ⟨rfl,hx3⟩;have dS:=ai (yx.o.trans hx3);have wQ:=ai (hx3.blk iO.o);have nW:=ai (hx3.blk gG.o);clear hx3 b0 b1 b2 b3 b4 b5 b6 b7 b8 b9 bf kI Yl;obtain⟨CB,hCB⟩:∃CB,CB=gQ c:=⟨_,rfl⟩
 rw[<-hCB] at HR ⊢;have si:=ai hCB;clear hCB;cases CB
 ·have HQ:=ai (show R=5 by rw[HR.o];rfl);go_wp2_with fail;go_ret;exact cD (by rw[HQ.o]) dS.o
 have jI:=ai (show R=if (findAt bef v.name).isSome then 8 else if (eO s v.name).isSome then 8 else dZ s l (lC c) by rw[HR.o];rfl);clear HR;obtain⟨b0,b1,b2,b3,b4,b5,b6,b7,b8,b9,bf⟩:=rB nW.o;have kI:=bS nW.o;obtain⟨q,hq⟩:∃q,q=(findAt bef v.name).getD 0:=⟨_,rfl⟩
 obtain⟨fb,hfb⟩:∃fb,fb=(findAt bef v.name).isSome:=⟨_,rfl⟩
 have HFV:=ai (show sX (findAt bef v.name)=.tuple #[.int .i64 (q:Nat),.bool fb] by rw[hq,hfb];rfl);rw[<-hfb] at jI;clear hq hfb;go_wp2_with fail;refine(HFI.o w3 dS.o).mono ?_;rw[HFV.o];rintro r w4 ⟨rfl,gV⟩;have jl:=ai (dS.o.trans gV);have aA0:=ai (gV.blk wQ.o);have FP:=ai (gV.blk nW.o);clear gV b0 b1 b2 b3 b4 b5 b6 b7 b8 b9 bf kI HFI HFV;cases fb
 case true =>
  have HQ:=ai (show R=8 by rw[jI.o];rfl);go_wp2_with fail;go_ret;exact cD (by rw[HQ.o]) jl.o
 have nL:=ai (show R=if (eO s v.name).isSome then 8 else dZ s l (lC c) by rw[jI.o];rfl);clear jI;obtain⟨a0,af⟩:=dO aA0.o;obtain⟨b0,b1,b2,b3,b4,b5,b6,b7,b8,b9,bf⟩:=rB FP.o;have kI:=bS FP.o;obtain⟨q,hq⟩:∃q,q=(eO s v.name).getD 0:=⟨_,rfl⟩
 obtain⟨fb,hfb⟩:∃fb,fb=(eO s v.name).isSome:=⟨_,rfl⟩
 have HFV:=ai (show sX (eO s v.name)=.tuple #[.int .i64 (q:Nat),.bool fb] by rw[hq,hfb];rfl);rw[<-hfb] at nL;clear hq hfb;go_wp2_with fail;refine(tF.o w4 jl.o).mono ?_;rw[HFV.o];rintro r w5 ⟨rfl,dh⟩;have gW:=ai (jl.o.trans dh);have aO4:=ai (dh.blk aA0.o);have Cc:=ai (dh.blk FP.o);clear dh a0 af b0 b1 b2 b3 b4 b5 b6 b7 b8 b9 bf kI tF HFV;cases fb
 case true =>
  have HQ:=ai (show R=8 by rw[nL.o];rfl);go_wp2_with fail;go_ret;exact cD (by rw[HQ.o]) gW.o
 have sI:=ai (show R=dZ s l (lC c) by rw[nL.o];rfl);clear nL;obtain⟨b0,b1,b2,b3,b4,b5,b6,b7,b8,b9,bf⟩:=rB Cc.o;have kI:=bS Cc.o;have iV:=(wY si.o.symm).2;have HRF:=ai (wY si.o.symm).1;have HFT:=ai (ahp zm.o);have G9:=ai (Oz c v w5 (HC.o.mono gW.o.sub) (by omega));go_wp2_with fail;refine G9.o.mono ?_;rintro r w6 ⟨ea,en,ek,rfl,hen,aWS,hed,gN⟩;have kR:=ai (gW.o.trans gN);have aGo:=ai (gN.blk aO4.o);have HED:=ai hed;have Li:=ai hen;have aDr:en<=41:=by have:=XW c;omega
 clear gN hed hen b0 b1 b2 b3 b4 b5 b6 b7 b8 b9 bf kI G9;go_wp2_with fail;go_loopw [40] (fun t wr=>∃k:Nat,t=.int .i64 k/\k<=en/\(∀j (h:j<(lC c).length),j<k->dr s l (lC c)[j]=0)/\wr.heap[w.heap.size]?=some (.cells #[.slice sa sn sc] 24 (0,0))/\Ext w6 wr) (fun t _=>en - (intOf t).toNat)
 case atStart=>exact⟨0,rfl,by omega,fun j _ h=>by omega,aGo.o,Tz _⟩
 case round =>
  obtain⟨k,rfl,hk,hall,j6,lM⟩:=hrel;have mK:=ai hall;have GX:=ai j6;have gZ:=ai lM;obtain⟨a0,af⟩:=dO j6;have lU:=bS j6;clear hall j6 lM;by_cases hkn:k<en
  ·have fq:k<(lC c).length:=by have:=Li.o;omega
   have t1:=ag ((k:Int)<(en:Int));obtain⟨b,off,rfl,nJ,nD,nG,nK,nE,nI,h0,h1,h2,h3,h4,h5,h6⟩:=eU.at (lC c) _ (eU.ext gZ.o (lC c) _ HED.o) k fq;have hmem:=aD fq;have Lb:=ai (fun (W:World) (hW:Ext wr W)=>zi.o (lC c)[k] _ W ((kR.o.trans gZ.o).trans hW) (HFT.o _ hmem).2 (HFT.o _ hmem).1 (h6.ext hW));have HEE:=ai (show zV s l (lC c)[k]=dr s l (lC c)[k] by unfold zV;rw[HRF.o _ hmem];simp);have DK:=eB h0;simp only at DK;unfold fN at Lb;clear h6 hmem;rw[HEE.o] at Lb;obtain⟨E1,xK⟩:∃E1,E1=dr s l (lC c)[k]:=⟨_,rfl⟩
   rw[<-xK] at Lb;have ue:=ai xK;clear xK;go_wp2_with fail;refine(Lb.o _ ((Tz wr).alloc _)).mono ?_;rintro r w7 ⟨rfl,ng⟩;have rZ:=ai ((gZ.o.alloc _).trans ng);have CX:=ai (ng.blk (bU GX.o));clear ng h0 h1 h2 h3 h4 h5 a0 af lU Lb;by_cases hz1:E1=0
   ·have tz1:(E1 != 0)=false:=by simp[hz1]
    have HZ1:=ai (ue.o.symm.trans hz1);clear hz1;go_wp2_with fail;go_roundw
    case rel =>
     refine⟨k+1,by go_num,by omega,fun j hj hjk=>?_,CX.o,rZ.o⟩;by_cases e0:j=k
     ·subst e0;exact HZ1.o
     exact mK.o j hj (by omega)
    case measure=>simp[intOf];omega
   have tz1:(E1 != 0)=true:=by simp[hz1]
   have HQ:=ai (show R=E1 by rw[sI.o,FZ (lC c) k fq (by rw[<-ue.o];exact hz1) (fun j hj=>mK.o j (by omega) hj),ue.o]);clear hz1;go_wp2_with fail;go_ret;exact cD (by rw[HQ.o]) (kR.o.trans rZ.o)
  have t1:=ah ((k:Int)<(en:Int));have HQ:=ai (show R=0 by rw[sI.o,tK (lC c) fun j hj=>mK.o j hj (by have:=Li.o;omega)]);go_wp2_with fail;go_ret;exact cD (by rw[HQ.o]) (kR.o.trans gZ.o)
end Go.Proofs.YtefjomofjejklaaGreatDoor
