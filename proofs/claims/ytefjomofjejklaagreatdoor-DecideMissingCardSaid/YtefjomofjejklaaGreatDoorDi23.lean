/- Joined. -/
import Derived.Test.YtefjomofjejklaaGreatDoorDi22
namespace Go.Proofs.YtefjomofjejklaaGreatDoor
set_option maxRecDepth 100000
set_option maxHeartbeats 32000000
open Go.RowKit
structure Yh where
 sa:OA
 sn:Nat
 sc:Nat
 la:OA
 ln:Nat
 lc:Nat
 fa:OA
 fn:Nat
 fc:Nat
def Yh.val (v:Yh):Value:=.agg #[.slice v.sa v.sn v.sc,.slice v.la v.ln v.lc,.slice v.fa v.fn v.fc]
structure vD (w:World) (s:List Attr) (l:List cK) (f:ZI) (v:Yh):Prop where
 mem:s∈gi
 x7:dB w s (.agg #[.slice v.sa v.sn v.sc])
 yT:cZ w l v.la v.ln v.lc
 ai6:adZ s pcd l
 len:l.length<=10
 one:1<=l.length
 facts:fW s f=true
 ints:dG w f v.fa v.fn
theorem vD.mono {w w':World} {s:List Attr} {l:List cK} {f:ZI} {v:Yh} (h:vD w s l f v) (hs:Sub w w'):vD w' s l f v :=
 ⟨h.mem,h.x7.mono hs,h.yT.mono hs,h.ai6,h.len,h.one,h.facts,h.ints.mono hs⟩
theorem agP {c:cK} (h:Us c) (hn:c.name.size<=1000):c.fit:=by
 obtain⟨g1,g2,g3,g4,g5,g6⟩:=h;have hl:=ql c.gH;exact⟨by omega,g1,g2,iY _ (by omega),by omega,xh _ g5 (by omega)⟩
theorem vD.Ca {w:World} {s:List Attr} {l:List cK} {f:ZI} {v:Yh} (h:vD w s l f v):∀c∈l,c.fit:=fun c hc=>agP (h.ai6.1 c hc).1 (by have:=(h.ai6.1 c hc).2;have h3:pcd.size=2:=rfl;omega)
theorem afJ {w:World} {b i:Nat} {cs:Array Value} {t:TypeId} (h:w.heap[b]?=some (.cells cs t (0,0))) (v:Value):(w.setCell ⟨b,i,none⟩ v).heap[b]?=some (.cells (cs.setIfInBounds i v) t (0,0)):=Go.heap_setCell_same w b i cs t v h
theorem afN (w:World) (b i:Nat) (v:Value):ct [b] w (w.setCell ⟨b,i,none⟩ v):=(ct.refl _ w).setCell (aoX (by simp)) _
theorem Wj {W W':World} {K N:ZN} (h:ct K W W') (hk:∀y∈K,y∈N):Sub (mask W N) (mask W' N):=cF h fun y hy=>aoX (hk y hy)
def aIU (w:World) (e:Ending) (w':World):Prop:=∃s l f v bd,e=.returned (.tuple #[Yh.val v,.pointer (some ⟨bd,0,none⟩)])/\vD (mask w' [bd]) s l f v/\cg w w' bd/\Ext w w'
theorem xF (da:OA) (dn dc:Nat) (w0:World) (h:dR w0 da dn) (hdl:dn<=1000000000000000):Calls Tryz.prog 15 #[.slice da dn dc] w0 (aIU w0):=by
 have HI:=ai h;clear h;obtain⟨rb,hrb⟩:∃rb,rb=w0.heap.size:=⟨_,rfl⟩
 obtain⟨wa,cN⟩:∃wa,wa=w0.alloc (.cells #[.slice none 0 0,.slice none 0 0,.slice none 0 0] 34):=⟨_,rfl⟩
 have dm:=ai (show Ext w0 wa by rw[cN];exact(Tz _).alloc _);have HRA:=ai (show wa.heap[rb]?=some (.cells #[.slice none 0 0,.slice none 0 0,.slice none 0 0] 34 (0,0)) by rw[cN,hrb];exact bR w0 _);have HRE:=ai hrb;go_enter Tryz.func15,Tryz.ntmps15
 go_upto_region 1 with fail
 rw[<-cN,<-hrb];clear cN hrb;go_wp2_with fail
 refine(oG da dn dc w0 wa HI.o dm.o hdl).mono ?_;rintro e w1 ⟨bd,rfl,hd1,hx1,hbl⟩;go_upto_region 3 with fail
 obtain⟨bw,qL⟩:∃bw,bw=w1.heap.size:=⟨_,rfl⟩
 obtain⟨w2,hw2⟩:∃w2,w2=w1.alloc (.cells #[.slice none 0 0,.slice none 0 0,.slice none 0 0] 34):=⟨_,rfl⟩
 have hx2:Ext w1 w2:=by rw[hw2];exact(Tz _).alloc _
 have qO:=ai (show w2.heap[bw]?=some (.cells #[.slice none 0 0,.slice none 0 0,.slice none 0 0] 34 (0,0)) by rw[hw2,qL];exact bR w1 _);have kB:=ai (show rb<bd/\bd<bw/\w0.heap.size<=rb by have:=bS HRA.o;have:=hd1.lt;have:=HRE.o;omega);rw[<-hw2,<-qL];clear hw2 qL;have pY:=ai (hd1.ext hx2);have jI:=ai (hx2.blk (hx1.blk HRA.o));clear hd1 hx1 hx2 hbl dm HRA HRE;go_wp2_with fail
 refine(dx pY.o 6 (by omega) (by omega)).mono ?_;rintro e w3 ⟨z,rfl,hz0,hz1,CZ,hc3⟩;have HLB:=ai (show ∀y∈[bd,bw,rb],y<w3.heap.size from fun y hy=>by
  have h1:=bS qO.o;have h2:=kB.o;have h3:=hc3.size;simp only[bz,bC,or_false] at hy;rcases hy with rfl|rfl|rfl<;>omega)
 have wG:=ai CZ;have HW3:=ai (hc3.blk qO.o (by have:=kB.o;simp;omega));have nL:=ai (hc3.blk jI.o (by have:=kB.o;simp;omega));clear CZ hc3 pY qO jI;go_wp2_with fail
 refine(xq z [bd,bw,rb] w3 HLB.o).mono ?_;rintro e w4 ⟨attrs,v,rfl,hat,AY,gV⟩;obtain⟨sa,sn,sc,rfl,B6⟩:=AY.slice;have qE:=ai hat;have sI:=ai (gV.blk nL.o);have CJ:=ai (wG.o.ext gV);have oY:=ai AY;have aFT:=ai (show ∀y∈[bd,bw,rb],y<w4.heap.size from fun y hy=>bF (HLB.o y hy) gV.size);have hw4:=gV.blk HW3.o;clear hat AY gV HW3 nL wG HLB B6;obtain⟨c0,c1,c2,cf⟩:=dM hw4;go_upto_region 4 with fail
 obtain⟨w5,p9⟩:∃w5,w5=w4.setCell ⟨bw,0,none⟩ (.slice sa sn sc):=⟨_,rfl⟩
 have hc5:ct [bw] w4 w5:=by rw[p9];exact afN _ _ _ _
 have Sl:=ai (show w5.heap[bw]?=some (.cells #[.slice sa sn sc,.slice none 0 0,.slice none 0 0] 34 (0,0)) by rw[p9];have:=afJ (i:=0) hw4 (.slice sa sn sc);simpa using this);rw[<-p9];clear p9 hw4 c0 c1 c2 cf;have CU:=ai (hc5.blk sI.o (by have:=kB.o;simp;omega));have uV:=ai (CJ.o.cR hc5 (by have:=kB.o;simp;omega) (fun y hy=>by simp only[aG] at hy;have:=kB.o;omega));have nA:=ai (oY.o.mono (Wj hc5 (by simp)));have av8:=ai (show ∀y∈[bd,bw,rb],y<w5.heap.size from fun y hy=>bF (aFT.o y hy) hc5.size);clear hc5 sI CJ oY aFT;obtain⟨c0,c1,c2,cf⟩:=dM Sl.o;go_wp2_with fail
 refine(DS (lD qE.o) (iB qE.o) uV.o sa sn sc [bd,bw,rb] (nA.o.mono (cM _ (by simp))) av8.o).mono ?_;rintro e w6 ⟨f,fa,fc,rfl,qx,-,hif,Ku,pI⟩;have AD:=ai qx;have awa:=ai hif;have ER:=ai Ku;have rH:=pI.blk Sl.o (by have:=kB.o;simp;omega);have RN:=ai (pI.blk CU.o (by have:=kB.o;simp;omega));have vE:=ai (nA.o.mono (Wj pI (by simp)));have aFS:=ai (show ∀y∈[bd,bw,rb],y<w6.heap.size from fun y hy=>bF (av8.o y hy) pI.size);clear qx hif Ku pI c0 c1 c2 cf uV Sl CU nA av8;obtain⟨c0,c1,c2,cf⟩:=dM rH;obtain⟨fn,hfn⟩:∃fn,fn=f.length:=⟨_,rfl⟩
 rw[<-hfn];rw[<-hfn] at awa;clear hfn;go_upto_region 5 with fail
 obtain⟨w7,wF⟩:∃w7,w7=w6.setCell ⟨bw,2,none⟩ (.slice fa fn fc):=⟨_,rfl⟩
 have rE:ct [bw] w6 w7:=by rw[wF];exact afN _ _ _ _
 have HW7:=ai (show w7.heap[bw]?=some (.cells #[.slice sa sn sc,.slice none 0 0,.slice fa fn fc] 34 (0,0)) by rw[wF];have:=afJ (i:=2) rH (.slice fa fn fc);simpa using this);rw[<-wF];clear wF rH c0 c1 c2 cf;have WM:=ai (rE.blk RN.o (by have:=kB.o;simp;omega));have EP:=ai (ER.o.cR rE (by have:=kB.o;simp;omega) (fun y hy=>by simp only[aG] at hy;have:=kB.o;omega));have JG:=ai (vE.o.mono (Wj rE (by simp)));have aFX:=ai (awa.o.mono (Wj rE (by simp)));have aAP:=ai (show ∀y∈[bd,bw,rb],y<w7.heap.size from fun y hy=>bF (aFS.o y hy) rE.size);clear rE RN ER vE aFS awa;obtain⟨c0,c1,c2,cf⟩:=dM HW7.o;have qC:=ai (show Calls Tryz.prog 39 #[.pointer (some ⟨bd,0,none⟩),.agg #[.slice sa sn sc],.int .i64 9,.string ⟨#[99,45]⟩] w7 (aGu attrs pcd 9 w0 bd [bd,bw,rb] w7) from
  DL qE.o (ei attrs qE.o).1 (ei attrs qE.o).2.1 (ei attrs qE.o).2.2 EP.o sa sn sc [bd,bw,rb] (JG.o.mono (cM _ (by simp))) aAP.o 9 (by omega) pcd (by decide))
 go_wp2_with fail
 refine qC.o.mono ?_;rintro e w8 ⟨l,la,ln,lc,rfl,hcl,Qb,sA,hl2,hd8,iI⟩;have Yq:=ai Qb;have QI:=ai (show l.length<=10 from hl2);have Sn:=ai sA;have aou:=ai hcl;have YK:=ai hd8;have gX:=iI.blk HW7.o (by have:=kB.o;simp;omega);have HR8:=ai (iI.blk WM.o (by have:=kB.o;simp;omega));have Ik:=ai (JG.o.mono (Wj iI (by simp)));have aFW:=ai (aFX.o.mono (Wj iI (by simp)));clear hcl Qb sA hl2 hd8 iI c0 c1 c2 cf EP HW7 WM JG aFX aAP qC;obtain⟨c0,c1,c2,cf⟩:=dM gX;go_upto_region 6 with fail
 obtain⟨w9,uj⟩:∃w9,w9=w8.setCell ⟨bw,1,none⟩ (.slice la ln lc):=⟨_,rfl⟩
 have vH:ct [bw] w8 w9:=by rw[uj];exact afN _ _ _ _
 have HW9:=ai (show w9.heap[bw]?=some (.cells #[.slice sa sn sc,.slice la ln lc,.slice fa fn fc] 34 (0,0)) by rw[uj];have:=afJ (i:=1) gX (.slice la ln lc);simpa using this);rw[<-uj];clear uj gX c0 c1 c2 cf;have HR9:=ai (vH.blk HR8.o (by have:=kB.o;simp;omega));have HD9:=ai (YK.o.cR vH (by have:=kB.o;simp;omega) (fun y hy=>by simp only[aG] at hy;have:=kB.o;omega));have FN:=ai (show vD (mask w9 [bd,bw,rb]) attrs l f ⟨sa,sn,sc,la,ln,lc,fa,fn,fc⟩ from⟨qE.o,Ik.o.mono (Wj vH (by simp)),aou.o.mono (Wj vH (by simp)),Yq.o,QI.o,Sn.o,AD.o,aFW.o.mono (Wj vH (by simp))⟩);clear vH HR8 YK Ik aFW aou;obtain⟨c0,c1,c2,cf⟩:=dM HW9.o;obtain⟨r0,r1,r2,rf⟩:=dM HR9.o;go_wp2_with fail
 obtain⟨wz,eV⟩:∃wz,wz=kW w9 rb (.slice sa sn sc) (.slice la ln lc) (.slice fa fn fc):=⟨_,rfl⟩
 have U0:ct [rb] w9 wz:=by rw[eV];exact rV _ _ _ _ _ (by simp)
 have HZ:wz.heap[rb]?=some (.cells #[.slice sa sn sc,.slice la ln lc,.slice fa fn fc] 34 (0,0)):=by rw[eV];exact rW HR9.o _ _ _
 unfold kW at eV;rw[<-eV];clear eV c0 c1 c2 cf r0 r1 r2 rf;obtain⟨z0,z1,z2,zf⟩:=dM HZ;have hdz:=HD9.o.cR U0 (by have:=kB.o;simp;omega) (fun y hy=>by simp only[aG] at hy;have:=kB.o;omega);refine a5a (v:=.tuple #[Yh.val ⟨sa,sn,sc,la,ln,lc,fa,fn,fc⟩,.pointer (some ⟨bd,0,none⟩)]) (by simp[results,Tryz.results15,go_sem,Yh.val,z0,z1,z2]) rfl ?_;exact⟨attrs,l,f,_,bd,rfl,(FN.o.mono (Wj U0 (by simp))).mono (cM _ (by simp)),hdz,by obtain⟨_,_,_,_,_,_,_,_,hxw,_⟩:=hdz;exact hxw⟩
def P2 (l:List cK) (e:Ex):Prop:=dV l e<=2000
theorem KJ {s:List Attr} {l:List cK} {f:ZI} (hc:(cV s l).2=0) (hf:jU s f=true):jP s l f=0/\mS s l f=CN (val s l f) l:=by
 have h0:jP s l f=0:=by
  unfold jP;rw[bL (by simp[hc]),bL (by simp[hf])]
 exact⟨h0,by unfold mS;rw[bM h0]⟩
theorem vD.cls {w:World} {s:List Attr} {l:List cK} {f:ZI} {v:Yh} (h:vD w s l f v):(cV s l).2=0:=by rw[U4 h.mem h.ai6]
theorem vD.fac {w:World} {s:List Attr} {l:List cK} {f:ZI} {v:Yh} (h:vD w s l f v):jU s f=true:=by
 unfold jU;rw[(lK h.cls).x7,h.facts]
 rfl
open Go.RowKit Go.Maps
theorem a5P {s:List Attr} {l:List cK} (h:Chk s l):∀c∈l,∀c'∈l,c.name=c'.name->c=c':=by
 intro c hc c' hc' e;obtain⟨i,hi,rfl⟩:=bA hc;obtain⟨j,hj,rfl⟩:=bA hc';rcases Nat.lt_trichotomy i j with g|g|g
 ·exact a40 (by rw[ry hi,ry hj];exact e) (h.uniq j i hj g)
 ·subst g;rfl
 exact a40 (by rw[ry hi,ry hj];exact e.symm) (h.uniq i j hi g)
theorem a5M {A:Ex->Pr->Bool} {l:List cK} {d:rT} {L:List Rs} (h:Lj A l d L=true) (hk:∃c∈l,c.kind=2):0<L.length:=by
 obtain⟨c,hc,h2⟩:=hk;have:0<(kS [2] l).length:=List.length_pos_of_mem (a:=c) (by unfold kS;exact List.mem_filter.2 ⟨hc,by simp[h2]⟩);rw[(YO h).1];unfold aRV;split
 ·exact this
 split
 ·omega
 split<;>omega
def a5H (r:Rs):Rs:=.mk r.name r.dg (.mk (!r.proof.value) r.proof.pick r.proof.args) r.gH
theorem a5y {s:List Attr} {l:List cK} {f:ZI} (hc:Chk s l) {d:rT} {L:List Rs} (h:Lj (CY s l f) l d L=true) {k:Nat} (hk:k<L.length) :
  Lj (CY s l f) l d (L.take k++L.drop (k+1))=false/\Lj (CY s l f) l d (L.take k++[L[k]]++L.drop k)=false/\Lj (CY s l f) l d (L.set k (a5H L[k]))=false:=by
 refine⟨aKZ h (by simp;omega),aKZ h (by simp;omega),?_⟩;exact aKX (fun _ _ h=>akf h) (a5P hc) h (aD hk) (aW.2 ⟨k,by simpa using hk,List.getElem_set_self _⟩) rfl rfl
theorem mj.take {w:World} {L:List Rs} {vs:List jf} (h:mj w L vs) (m:Nat):mj w (L.take m) (vs.take m) :=
 ⟨by rw[List.length_take,List.length_take,h.1],fun i g1 g2=>by simp only[List.getElem_take];exact h.2 i _ _⟩
theorem mj.drop {w:World} {L:List Rs} {vs:List jf} (h:mj w L vs) (m:Nat):mj w (L.drop m) (vs.drop m) :=
 ⟨by rw[List.length_drop,List.length_drop,h.1],fun i g1 g2=>by simp only[List.getElem_drop];exact h.2 _ _ _⟩
theorem a5j {w:World} {vs:List jf} {a:OA} {n c m:Nat} (h:eE w 6 jf.cells vs a n c) (hm:m<=n):eE w 6 jf.cells (vs.take m) a m c:=by
 obtain⟨h2,h3,h4,h5⟩:=h;refine⟨by rw[List.length_take];omega,aV hm h3,h4,fun i hi=>?_⟩;obtain⟨b,off,e,hc⟩:=h5 i (by rw[List.length_take] at hi;omega);refine⟨b,off,e,fun j hj=>?_⟩;simp only[List.getElem_take] at hj ⊢;exact hc j hj
theorem a5k {w:World} {vs:List jf} {bl off n c m:Nat} (h:eE w 6 jf.cells vs (some ⟨bl,off,none⟩) n c) (hm:m<=n):eE w 6 jf.cells (vs.drop m) (if c=m then some ⟨bl,off,none⟩ else some ⟨bl,off+m*6,none⟩) (n - m) (c - m):=by
 obtain⟨h2,h3,h4,h5⟩:=h;refine⟨by rw[List.length_drop];omega,by omega,by split<;>exact a4Z ⟨_,_,rfl⟩,fun i hi=>?_⟩;rw[List.length_drop] at hi;rw[bL (by omega)];obtain⟨b',off',e,hc⟩:=h5 (m+i) (by omega);simp only[a42,Addr.mk.injEq,and_true] at e;obtain⟨rfl,rfl⟩:=e;refine⟨bl,off+m*6,rfl,fun j hj=>?_⟩;simp only[List.getElem_drop] at hj ⊢;rw[show off+m*6+i*6+j=off+(m+i)*6+j by omega];exact hc j hj
def ErQ (base:Nat) (W W':World):Prop:=∃N,ct N W W'/\∀k∈N,base<=k/\∀cs t,W.heap[k]?=some (.cells cs t (0,0))->cs.size≠6
theorem ErQ.of {base:Nat} {W W':World} (h:Ext W W'):ErQ base W W':=⟨[],h.cR [],fun k hk=>by simp at hk⟩
theorem ErQ.ext {w W W':World} (h:Ext w W) (he:ErQ w.heap.size W W'):Ext w W':=by
 obtain⟨N,hc,hN⟩:=he;exact hc.ext h fun y hy=>(hN y hy).1
theorem ErQ.lit {base:Nat} {W W':World} (h:ErQ base W W') {g:Nat} {cs:Array Value} {t:TypeId} (hg:W.heap[g]?=some (.cells cs t (0,0))) (h6:cs.size=6):W'.heap[g]?=some (.cells cs t (0,0)):=by
 obtain⟨N,hc,hN⟩:=h;exact hc.blk hg fun hm=>(hN g hm).2 cs t hg h6
theorem cL {ρ:Operand->Value} {W:World} {T:Value->World->Prop} {dst:Option Tmp} {ty:TypeId} {pos:String} {after:Array Edge} {guard:Option (Nat×Bool)}
  (s x:Operand) (base n:Nat) (a0:OA) (c0:Nat) (vs us:List jf) (hs:ρ s=.slice a0 n c0) (a:OA) (m c:Nat) (hx:ρ x=.slice a m c) (hn:n+m<=100000000)
  (hown:W.ownsRow base 69 6 (.slice a0 n c0) n (vs.flatMap jf.cells)) (hr:eE W 6 jf.cells us a m c) (hbase:base<=W.heap.size) (h1:c0=1->0<m->c0<n+m)
  (h:∀a' c' w',w'.ownsRow base 69 6 (.slice a' (n+m) c') (n+m) ((vs++us).flatMap jf.cells)->ErQ base W w'->(m=0->c'=c0)->T (.slice a' (n+m) c') w') :
  bQ Tryz.prog { dst:=dst,op:=.call { callee:=.builtin .append,args:=#[s,x],argTypes:=#[55,55] },type:=ty,pos:=pos,after:=after,guard:=guard } ρ W T:=by
 have hmu:m=us.length:=hr.1;obtain⟨i,hi,hz,hsz,hby⟩:=info_parts Qq.info;have hnc:n<=c0:=by
  rcases hown.2 with ⟨e,e2⟩|⟨g,cap,cur,e,_,_,hnc,_⟩
  ·cases e;exact aU _
  cases e;exact hnc
 have he:execOp ρ { dst:=dst,op:=.call { callee:=.builtin .append,args:=#[s,x],argTypes:=#[55,55] },type:=ty,pos:=pos,after:=after,guard:=guard }=(do pure (.value (<-Builtin.append_ #[55,55] ty #[.slice a0 n c0,.slice a m c]))):=by
  rw[<-hs,<-hx,BigFrame.execOp_builtin,BigFrame.builtin_append];simp
 by_cases hm:m=0
 ·subst hm;obtain rfl:us=[]:=aR hmu.symm;have hrun:=Hl (P:=Tryz.prog) W 55 ty 69 i Qq.ht hi a0 n c0 hnc a c;unfold bQ;rw[he];simp only[Sem.run_bind,hrun];exact h a0 c0 W (by simpa using hown) (ErQ.of (Tz _)) fun _=>rfl
 have hlen:=eN jf.cells 6 (fun _=>rfl) us;obtain⟨b,off,rfl,-⟩:=hr.2.2.2 0 (by omega);have hnews:∀j u,(us.flatMap jf.cells)[j]?=some u->W.cell? ((⟨b,off,none⟩:Addr).add j)=some u:=by
  intro j u hu;obtain⟨hj,rfl⟩:=List.getElem?_eq_some_iff.1 hu;have:(⟨b,off,none⟩:Addr).add j=⟨b,off+j,none⟩:=by unfold Addr.add;split<;>simp_all
  rw[this];exact atO hr j hj
 have hb:(n+m)*88<=140737488355328:=by omega
 obtain⟨g,cap,w',hrun,h2,h3,h4,h5⟩:=run_append_lies (P:=Tryz.prog) W 55 ty base 69 i _ 6 88 Qq.ht hi hz hsz hby Qq.hzs Qq.hsz _ n _ hown ⟨b,off,none⟩ m c (us.flatMap jf.cells) (by rw[hlen,hmu]) hnews (aK' us) (by omega) (by simp only[maxLen];omega) hb hbase _ rfl;have hE:ErQ base W w':=by
  rcases hown.2 with ⟨e,_⟩|⟨g0,ajn,cur,e,zR,hg2,hg3,hg4,hg5,zQ⟩
  ·rw[e] at h3;exact⟨_,eX h3,fun k hk=>by have:=bV.1 hk;simp[Value.ownBlock] at this⟩
  simp only[a45,true_and] at e;obtain⟨rfl,rfl⟩:=e;rcases bJ c0 (n+m) with hlt|hge
  ·have hr2:=run_append_grow (P:=Tryz.prog) W 55 ty 69 i _ Qq.ht hi hz ⟨g0,0,none⟩ n c0 _ (by rw[hsz];exact hown.1) (hown.cells (g:=g0) rfl) ⟨b,off,none⟩ m c _ (by rw[hsz,hlen,hmu]) hnews hlt (by omega) (growslice_fits hlt (by rw[hby];exact hb));rw[hrun] at hr2;simp only[Result.ok.injEq] at hr2;rw[hr2.2];exact ErQ.of ((Tz W).drew.alloc _)
  refine⟨_,eX h3,fun k hk=>?_⟩;have hk2:g0=k:=by simpa[Value.ownBlock] using bV.1 hk
  subst hk2;refine⟨zR,fun cs t hcs=>?_⟩;rw[hg2] at hcs;simp only[a42,Obj.cells.injEq] at hcs;rw[<-hcs.1,hg5];omega
 unfold bQ;rw[he];simp only[Sem.run_bind,hrun];exact h (some ⟨g,0,none⟩) cap w' (by simpa using h2) hE fun e=>a40 e hm
theorem a5p {W W':World} {N:ZN} (h:Ext W W') (hn:∀y∈N,W.heap.size<=y):Sub W (mask W' N):=fun p u hp=>by
 have hl:=eB hp;rw[eA,bL (fun hm=>by have:=hn _ hm;omega)];exact h.cell hp
theorem a5v {w W:World} {N:ZN} {b:Nat} {a:OA} {n c:Nat} {L:List Rs} {vs:List jf} (ho:W.ownsRow b 69 6 (.slice a n c) n (vs.flatMap jf.cells)) (hb:∀y∈N,y<b) (hn:n=L.length) (hx:Ext w W) (hN:∀y∈N,w.heap.size<=y) (hR:mj w L vs):iE (mask W N) L a n c :=
 tH ho hn (fun q hq hm=>by have:=(ho.lt q hq).1;have:=hb q hm;omega) (hR.mono (a5p hx hN))
def a5g (w:World) (B o:Nat) (x:jf):World:=(((((w.setCell ⟨B,o,none⟩ (.string x.name)).setCell ⟨B,o+1,none⟩ (.bool x.dg)).setCell ⟨B,o+2,none⟩ (.bool x.p.value)).setCell ⟨B,o+3,none⟩ (.int .i64 x.p.pick)).setCell ⟨B,o+4,none⟩ (.slice x.p.a x.p.n x.p.c)).setCell ⟨B,o+5,none⟩ (.slice x.a x.n x.c)
theorem a5w (w:World) (B o:Nat) (x:jf):ct [B] w (a5g w B o x):=by
 unfold a5g
 repeat (with_reducible (refine ct.setCell ?_ (aoX (by simp)) _))
 exact ct.refl _ _
theorem a5x {w:World} {B o:Nat} {x:jf} {c:Array Value} {t:TypeId} (h:w.heap[B]?=some (.cells c t (0,0))):(a5g w B o x).heap[B]?=some (.cells ((((((c.setIfInBounds o (.string x.name)).setIfInBounds (o+1) (.bool x.dg)).setIfInBounds (o+2) (.bool x.p.value)).setIfInBounds (o+3) (.int .i64 x.p.pick)).setIfInBounds (o+4) (.slice x.p.a x.p.n x.p.c)).setIfInBounds (o+5) (.slice x.a x.n x.c)) t (0,0)):=by
 unfold a5g;rw[aI _ _ _ _ _ _ (aI _ _ _ _ _ _ (aI _ _ _ _ _ _ (aI _ _ _ _ _ _ (aI _ _ _ _ _ _ (aI _ _ _ _ _ _ h)))))]
theorem a5s {w:World} {B o:Nat} {x:jf} {c:Array Value} {t:TypeId} (h:w.heap[B]?=some (.cells c t (0,0))) (hs:o+6<=c.size) (j:Nat):(a5g w B o x).cell? ⟨B,j,none⟩=if o<=j/\j<o+6 then x.cells[j - o]? else c[j]?:=by
 rw[bX (a5x h)];simp only[Array.getElem?_setIfInBounds,Array.size_setIfInBounds];by_cases hj:o<=j/\j<o+6
 ·rw[bM hj];obtain⟨i,rfl⟩:∃i,j=o+i:=⟨j - o,by omega⟩
  rw[Nat.add_sub_cancel_left];have hi:i=0\/i=1\/i=2\/i=3\/i=4\/i=5:=by omega
  rcases hi with rfl|rfl|rfl|rfl|rfl|rfl
  all_goals simp[jf.cells]
  all_goals omega
 rw[bL hj,bL (by omega),bL (by omega),bL (by omega),bL (by omega),bL (by omega),bL (by omega)]
theorem a5L {w W:World} {N:ZN} {g n cap k:Nat} {cur:Array Value} {t:TypeId} {L:List Rs} {vs:List jf} {r':Rs} {v':jf} (hb:w.heap[g]?=some (.cells cur t (0,0))) (hc:∀j,j<n*6->cur[j]?=(vs.flatMap jf.cells)[j]?) (hs:n*6<=cur.size) (hn:vs.length=n) (hk:k<n) (hcap:n<=cap) (hW:W=a5g w g (k*6) v') (hg:g∉N) (hR:mj (mask W N) L vs) (hr:kC (mask W N) r' v'):iE (mask W N) (L.set k r') (some ⟨g,0,none⟩) n cap:=by
 have hcell:=a5s (x:=v') (o:=k*6) hb (by omega);rw[<-hW] at hcell;refine⟨vs.set k v',⟨by simp[hR.1],fun i h1 h2=>?_⟩,by simp[hn],hcap,a4Z ⟨g,0,rfl⟩,fun i h2=>⟨g,0,rfl,fun j hj=>?_⟩⟩
 ·by_cases hik:i=k
  ·subst hik;simp only[List.getElem_set_self];exact hr
  simp only[List.getElem_set_ne (fun h=>hik (Eq.symm h))];exact hR.2 i (by simpa using h1) (by simpa using h2)
 have hj6:j<6:=by rw[jf.len] at hj;exact hj
 have hi:i<vs.length:=by simpa using h2
 rw[eA,bL hg,hcell];by_cases hik:i=k
 ·subst hik;rw[bM (by omega)];simp only[List.getElem_set_self];rw[show 0+i*6+j - i*6=j by omega,aT (by rw[jf.len];exact hj6)]
 rw[bL (by omega)];simp only[List.getElem_set_ne (fun h=>hik (Eq.symm h))];rw[hc (0+i*6+j) (by omega)];have hq:=iJ jf.cells 6 jf.len vs i hi j (by rw[jf.len];exact hj6);rw[Nat.zero_add,hq]
theorem a5E {W:World} {g:Nat} {v:jf} {t:TypeId} (h:W.heap[g]?=some (.cells v.cells.toArray t (0,0))):eE W 6 jf.cells [v] (some ⟨g,0,none⟩) 1 1 :=
 ⟨rfl,aU _,a4Z ⟨g,0,rfl⟩,fun i hi=>⟨g,0,rfl,fun j hj=>by
  have h0:i=0:=by simp at hi;omega
  subst h0;simp only[bB] at hj ⊢;rw[bX h];simp⟩⟩
theorem a5D {W:World} {L:List Rs} {vs:List jf} (h:mj W L vs) {k:Nat} (h1:k<L.length) (h2:k<vs.length):mj W [L[k]] [vs[k]] :=
 ⟨rfl,fun i g1 g2=>by
  have h0:i=0:=by simp at g1;omega
  subst h0;exact h.2 k h1 h2⟩
theorem a5z {W:World} {r:Rs} {v:jf} (h:kC W r v):kC W (a5H r) { v with p:={ v.p with value:=!v.p.value } }:=by
 obtain⟨nm,b,p,us⟩:=r;cases h with
 | mk vs hp hr hl h =>
  cases hp with
  | mk xs hq hl2 hq2=>exact .mk vs (.mk xs hq hl2 hq2) hr hl h
def zDv:Obj:=.cells #[.int .i64 0,.int .i64 0,.int .i64 0,.int .i64 0,.int .i64 0,.bool false,.slice none 0 0] 57 (0,0)
def BxE (X:Obj) (W W':World):Prop:=W.heap.size<=W'.heap.size/\∀g,g<W.heap.size->W'.heap[g]?=W.heap[g]?\/((W.heap[g]?=some zDv\/W.heap[g]?=some X)/\W'.heap[g]?=some X)
def BxR (w0:World) (X:Obj) (V:Value):Nat->Value->World->Prop
 | 0,v,_=>v=V
 | 1,v,_=>v=V
 | 2,v,_=>v=V
 | 6,_,_=>True
 | 7,_,_=>True
 | _,v,W=>∃g,v=.pointer (some ⟨g,0,none⟩)/\w0.heap.size<=g/\(W.heap[g]?=some zDv\/W.heap[g]?=some X)
def Bx3 (w0:World) (X:Obj) (L:ZN) (vs:Nat->Value) (W:World):Prop:=Ext w0 W/\(∀a,3<=a->a<=5->a∈L->∃g,vs a=.pointer (some ⟨g,0,none⟩)/\w0.heap.size<=g/\g<W.heap.size/\(a+3∈L->W.heap[g]?=some X))/\(∀a b,3<=a->a<b->b<=5->a∈L->b∈L->vs a≠vs b)/\(∀a,3<=a->a<=5->a+3∈L->a∈L)/\∀a,a∉L->vs a=undef
section
variable {w0 W W':World} {X:Obj} {V:Value} {L:ZN} {vs:Nat->Value}
theorem BxE.refl (X:Obj) (W:World):BxE X W W:=⟨aU _,fun _ _=>aoX rfl⟩
theorem BxE.of (h:Ext W W'):BxE X W W':=⟨h.size,fun g hg=>aoX (h.block g hg)⟩
theorem BxE.box {g:Nat} (h:BxE X W W') (hb:W.heap[g]?=some zDv\/W.heap[g]?=some X):W'.heap[g]?=some zDv\/W'.heap[g]?=some X:=by
 have hl:g<W.heap.size:=by rcases hb with hb|hb<;>exact(aQ.1 hb).1
 rcases h.2 g hl with e|⟨-,e⟩
 ·rw[e];exact hb
 exact a4Z e
theorem BxE.full {g:Nat} (h:BxE X W W') (hb:W.heap[g]?=some X):W'.heap[g]?=some X:=by
 rcases h.2 g (aQ.1 hb).1 with e|⟨-,e⟩
 ·rw[e];exact hb
 exact e
theorem a5J {i:Nat} {v:Value} (h:BxR w0 X V i v W) (he:BxE X W W'):BxR w0 X V i v W':=by
 have key:(∃g,v=.pointer (some ⟨g,0,none⟩)/\w0.heap.size<=g/\(W.heap[g]?=some zDv\/W.heap[g]?=some X))->∃g,v=.pointer (some ⟨g,0,none⟩)/\w0.heap.size<=g/\(W'.heap[g]?=some zDv\/W'.heap[g]?=some X):=fun ⟨g,h1,h2,h3⟩=>⟨g,h1,h2,he.box h3⟩
 match i,h with
 | 0,h=>exact h
 | 1,h=>exact h
 | 2,h=>exact h
 | 3,h=>exact key h
 | 4,h=>exact key h
 | 5,h=>exact key h
 | 6,_=>trivial
 | 7,_=>trivial
 | n+8,h=>exact key h
theorem a5B:Bx3 w0 X [] (fun _=>undef) w0.drew:=⟨(Tz w0).drew,fun _ _ _ h=>by simp at h,fun _ _ _ _ _ h=>by simp at h,fun _ _ _ h=>by simp at h,fun _ _=>rfl⟩
theorem a5e {i j:Nat} (h:j≠i) (hm:j∈L++[i]):j∈L:=by
 rcases aN.1 hm with h'|h'
 ·exact h'
 exact a40 (aG.1 h') h
theorem a5I {i:Nat} {v:Value} (h:∀a,a∉L->vs a=undef):∀a,a∉L++[i]->upd vs i v a=undef:=fun a ha=>by
 simp only[aN,aG,not_or] at ha;unfold upd;rw[bL ha.2];exact h a ha.1
theorem a5V {i g:Nat} (h:∀a,a∉L->vs a=undef) (hv:vs i=.pointer (some ⟨g,0,none⟩)):i∈L:=by
 by_cases hm:i∈L
 ·exact hm
 rw[h i hm] at hv;cases hv
theorem a5f {i j:Nat} {v:Value} (h:j≠i):upd vs i v j=vs j:=by unfold upd;rw[bL h]
theorem a5K {i:Nat} {v:Value} (hi:i<3) (h:Bx3 w0 X L vs W):Bx3 w0 X (L++[i]) (upd vs i v) W:=by
 refine⟨h.1,fun a h3 h5 hm=>?_,fun a b h3 hab h5 hm hm2=>?_,fun a h3 h5 hm=>aK _ (h.2.2.2.1 a h3 h5 (a5e (by omega) hm)),a5I h.2.2.2.2⟩
 ·rw[a5f (by omega)];obtain⟨g,q1,q2,q3,q4⟩:=h.2.1 a h3 h5 (a5e (by omega) hm);exact⟨g,q1,q2,q3,fun hm2=>q4 (a5e (by omega) hm2)⟩
 rw[a5f (by omega),a5f (by omega)];exact h.2.2.1 a b h3 hab h5 (a5e (by omega) hm) (a5e (by omega) hm2)
theorem a5C {i:Nat} {O:Obj} (h3:3<=i) (h5:i<=5) (hL:i∉L) (h:Bx3 w0 X L vs W):Bx3 w0 X (L++[i]) (upd vs i (.pointer (some ⟨W.heap.size,0,none⟩))) (W.alloc O):=by
 have hx:=(Tz W).alloc O;have hs:(W.alloc O).heap.size=W.heap.size+1:=by simp
 have a5G:upd vs i (.pointer (some ⟨W.heap.size,0,none⟩)) i=.pointer (some ⟨W.heap.size,0,none⟩):=by simp[upd]
 have hd:∀a,3<=a->a<=5->a∈L->vs a≠.pointer (some ⟨W.heap.size,0,none⟩):=fun a g3 g5 hm e=>by
  obtain⟨g,q1,-,q3,-⟩:=h.2.1 a g3 g5 hm;rw[q1] at e;simp only[Value.pointer.injEq,a42,Addr.mk.injEq,and_true] at e;omega
 refine⟨h.1.trans hx,fun a g3 g5 hm=>?_,fun a b g3 hab g5 hm hm2=>?_,fun a g3 g5 hm=>aK _ (h.2.2.2.1 a g3 g5 (a5e (by omega) hm)),a5I h.2.2.2.2⟩
 ·by_cases e:a=i
  ·subst e;rw[a5G];exact⟨_,rfl,h.1.size,by omega,fun hm2=>a40 (h.2.2.2.1 a g3 g5 (a5e (by omega) hm2)) hL⟩
  rw[a5f e];obtain⟨g,q1,q2,q3,q4⟩:=h.2.1 a g3 g5 (a5e e hm);exact⟨g,q1,q2,by omega,fun hm2=>hx.blk (q4 (a5e (by omega) hm2))⟩
 by_cases e:a=i
 ·subst e;rw[a5G,a5f (by omega)];exact fun e=>hd b (by omega) g5 (a5e (by omega) hm2) e.symm
 rw[a5f e];by_cases e2:b=i
 ·subst e2;rw[a5G];exact hd a g3 (by omega) (a5e e hm)
 rw[a5f e2];exact h.2.2.1 a b g3 hab g5 (a5e e hm) (a5e e2 hm2)
theorem a5l {i g:Nat} {v:Value} (h3:3<=i) (h5:i<=5) (hv:vs i=.pointer (some ⟨g,0,none⟩)) (hb:W'.heap[g]?=some X) (hz:W.heap[g]?=some zDv\/W.heap[g]?=some X) (hc:ct [g] W W') (h:Bx3 w0 X L vs W):BxE X W W'/\Bx3 w0 X (L++[i+3]) (upd vs (i+3) v) W':=by
 have yQ:=a5V h.2.2.2.2 hv;have he:BxE X W W':=⟨hc.size,fun y hy=>by
  by_cases e:y=g
  ·subst e;exact a4Z ⟨hz,hb⟩
  exact aoX (hc.block y hy (by simpa using e))⟩
 obtain⟨g',q1,q2,-,-⟩:=h.2.1 i h3 h5 yQ;rw[hv] at q1;simp only[Value.pointer.injEq,a42,Addr.mk.injEq,and_true] at q1;subst q1;refine⟨he,hc.ext h.1 (fun y hy=>by rw[aG.1 hy];exact q2),fun a g3 g5 hm=>?_,fun a b g3 hab g5 hm hm2=>?_,fun a g3 g5 hm=>?_,a5I h.2.2.2.2⟩
 ·rw[a5f (by omega)];obtain⟨y,p1,p2,p3,p4⟩:=h.2.1 a g3 g5 (a5e (by omega) hm);refine⟨y,p1,p2,bF p3 hc.size,fun hm2=>?_⟩;by_cases e:a=i
  ·subst e;rw[hv] at p1;simp only[Value.pointer.injEq,a42,Addr.mk.injEq,and_true] at p1;rw[<-p1];exact hb
  exact he.full (p4 (a5e (by omega) hm2))
 ·rw[a5f (by omega),a5f (by omega)];exact h.2.2.1 a b g3 hab g5 (a5e (by omega) hm) (a5e (by omega) hm2)
 by_cases e:a=i
 ·subst e;exact aK _ yQ
 exact aK _ (h.2.2.2.1 a g3 g5 (a5e (by omega) hm))
end
theorem kC.parts {w:World} {r:Rs} {v:jf} (h:kC w r v):∃(rn:BA) (ra:Bool) (rp:Pr) (ru:List Rs) (pv:gS) (a:OA) (n c:Nat),r=.mk rn ra rp ru/\v=⟨rn,ra,pv,a,n,c⟩/\n=ru.length/\gL w rp pv/\iE w ru a n c:=by
 cases h with
 | mk vs hp hr hl h=>exact⟨_,_,_,_,_,_,_,_,rfl,rfl,by rw[hr.1,hl],hp,vs,⟨hl.symm,h⟩,hr⟩
theorem iE.nth {w:World} {L:List Rs} {a:OA} {n c:Nat} (h:iE w L a n c) {k:Nat} (hk:k<L.length):∃(bl off:Nat) (v:jf),a=some ⟨bl,off,none⟩/\kC w L[k] v/\w.cell? ⟨bl,off+k*6,none⟩=some (.string v.name)/\w.cell? ⟨bl,off+k*6+1,none⟩=some (.bool v.dg)/\w.cell? ⟨bl,off+k*6+2,none⟩=some (.bool v.p.value)/\w.cell? ⟨bl,off+k*6+3,none⟩=some (.int .i64 v.p.pick)/\w.cell? ⟨bl,off+k*6+4,none⟩=some (.slice v.p.a v.p.n v.p.c)/\w.cell? ⟨bl,off+k*6+5,none⟩=some (.slice v.a v.n v.c):=by
 obtain⟨vs,h1,h2⟩:=h;have hkv:k<vs.length:=by rw[<-h1.1];exact hk
 obtain⟨bl,off,ha,hc⟩:=h2.2.2.2 k hkv;exact⟨bl,off,vs[k],ha,h1.2 k hk hkv,by simpa[jf.cells] using hc 0 (by simp[jf.cells]),by simpa[jf.cells] using hc 1 (by simp[jf.cells]),by simpa[jf.cells] using hc 2 (by simp[jf.cells]),by simpa[jf.cells] using hc 3 (by simp[jf.cells]),by simpa[jf.cells] using hc 4 (by simp[jf.cells]),by simpa[jf.cells] using hc 5 (by simp[jf.cells])⟩
theorem iE.ln {w:World} {L:List Rs} {a:OA} {n c:Nat} (h:iE w L a n c):n=L.length:=by
 obtain⟨vs,h1,h2⟩:=h;rw[h2.1,h1.1]
theorem WU.verify {w:World} {s:List Attr} {l:List cK} {f:ZI} {lo:fT} {n:Nat} (h:WU w s l f lo n) {e:Ex} {ev:Value} (he:dw w e ev) (hp:Pd s l e) {u:List cK} {a:OA} {c:Nat} (hu:Ee l e u) (hc:cZ w u a u.length c) {p:Pr} {pv:gS} (hpr:gL w p pv) :
  Calls Tryz.prog 100 #[.agg #[.slice lo.sa lo.sn lo.sc],.slice a u.length c,ev,.slice lo.fa lo.fn lo.fc,pv.val] w (cz (.bool (CY s l f e p)) w):=by
 obtain⟨p1,p2,p3,p4,p5,p6⟩:=hp;obtain⟨q1,-⟩:=hu.eval h.ok p1 p2 p3 h.facts;obtain⟨-,q3⟩:=hu.pf (s:=s) (f:=f) p3;have hq:=Df s u e f p pv _ ev a u.length c lo.fa lo.fn lo.fc w ⟨h.agl.x7,h.ais,h.SH,hc,by have:=hu.1.len;have:=(lK h.ok).len;omega,fun x hx=>h.Ca x (hu.2 x hx),he,p4,p5,p6,h.agl.ints,h.fnl,h.ops⟩ hpr;unfold atj at hq;rw[bM q1,q3] at hq;exact hq
theorem aEh {A:Ex->Pr->Bool} {u:List Wb} {lo:fT} {au:OA} {nu cu:Nat} (w:World) (ZW:nu<=1000000) (hlen:nu=u.length) (hd:gK w u au) {rs:List Rs} {ja:OA} {jn jc:Nat} (hr:iE w rs ja jn jc)
  (ai2:∀(k:Nat) (hk:k<u.length) (v:Cz) (r:Rs) (rv:jf) (W:World),Ext w W->v.name=u[k].name->dw W u[k].cond v.x.val->v.nu=u[k].gH.length->gK W u[k].gH v.au->kC W r rv->Calls Tryz.prog 75 #[lo.val,.iface 113 (.agg #[.string v.name,v.x.op,.string v.x.name,.slice v.x.aw v.x.nw v.x.cw,v.x.lo,v.x.hi,.slice v.x.aa v.x.na v.x.ca,.slice v.au v.nu v.cu]),rv.val] W (cz (.bool (I8 A u[k].name u[k].cond u[k].gH r)) W)) :
  Calls Tryz.prog 101 #[lo.val,.slice au nu cu,.slice ja jn jc] w (cz (.bool ((qK A u).1 rs)) w):=by
 have HRL:=ai hr.ln;have HR:=ai hr;have HD:=ai hd;have qB:=ai hlen;have HRC:=ai ai2;have ZW:=ZW;obtain⟨Z,hZ⟩:∃Z,Z=(qK A u).1 rs:=⟨_,rfl⟩
 rw[<-hZ];have HZ:=ai hZ;clear hr hd hlen ai2 hZ;unfold fT.val jf.val at HRC;unfold fT.val;obtain⟨wa,cN⟩:∃wa,wa=w.alloc (.cells #[.slice lo.sa lo.sn lo.sc,.map (some lo.bm),.slice lo.fa lo.fn lo.fc] 74):=⟨_,rfl⟩
 have dm:=ai (show Ext w wa by rw[cN];exact(Tz _).alloc _);have HA:=ai (show wa.heap[w.heap.size]?=some (.cells #[.slice lo.sa lo.sn lo.sc,.map (some lo.bm),.slice lo.fa lo.fn lo.fc] 74 (0,0)) by rw[cN];exact bR w _);go_enter Tryz.func101,Tryz.ntmps101
 go_upto_region 1 with fail
 rw[<-cN];clear cN;by_cases hne:jn=nu
 case neg =>
  have t1:((jn:Int) != (nu:Int))=true:=by simp;omega
  have HQ:=ai (show Z=false by
   rw[HZ.o];cases hb:(qK A u).1 rs
   ·rfl
   exact a40 (by rw[HRL.o,qB.o];exact aqx A u rs hb) hne)
  clear hne;go_wp2_with fail
  go_ret;exact bW HQ.o.symm dm.o
 have t1:((jn:Int) != (nu:Int))=false:=by simp[hne]
 have qP:=ai hne;clear hne;go_wp2_with fail
 clear t1;go_loopw [16] (fun i wr=>∃k:Nat,i=.int .i64 k/\k<=nu/\(qK A u).1 rs=(qK A (u.drop k)).1 (rs.drop k)/\Ext wa wr) (fun i _=>nu - (intOf i).toNat)
 case atStart=>exact⟨0,rfl,Nat.zero_le _,rfl,Tz _⟩
 case round =>
  obtain⟨k,rfl,hk,hv,hx⟩:=hrel;have HV:=ai (HZ.o.trans hv);have HX:=ai (dm.o.trans hx);have HB:=ai (hx.blk HA.o);have BO:=ai hx;clear hv hx;by_cases hkn:k<nu
  ·have fq:k<u.length:=by have:=qB.o;omega
   have hkr:k<rs.length:=by have:=HRL.o;have:=qP.o;omega
   have t1:=ag ((k:Int)<(nu:Int));have tk0:(0:Int)<=(k:Int):=by omega
   have tk1:(k:Int)<(jn:Int):=by have:=qP.o;omega
   obtain⟨b,off,rfl,v,Co,hrow,wU,Sg,-,-,PZ⟩:=gK.at u _ (gK.mono HX.o.sub u _ HD.o) k fq;obtain⟨c0,c1,c2,c3,c4,c5,c6,c7⟩:=hrow.eight;obtain⟨br,aVX,rv,rfl,sq,e0,e1,e2,e3,e4,e5⟩:=(HR.o.mono HX.o.sub).nth hkr;have Gl:=ai sq.app;have se:=ai (fun W (hW:Ext wr W)=>HRC.o k fq v rs[k] rv W (HX.o.trans hW) Co (wU.ext hW) Sg (gK.mono hW.sub _ _ PZ) (sq.mono hW.sub));have HST:=ai (ayV A fq hkr);obtain⟨Q,hQ⟩:∃Q,Q=I8 A u[k].name u[k].cond u[k].gH rs[k]:=⟨_,rfl⟩
   rw[<-hQ] at se HST;rw[<-Gl.o] at HST;obtain⟨vn,va,vp,vua,vun,vuc⟩:=rv;simp only at e0 e1 e2 e3 e4 e5 HST se;clear Co hrow wU Sg PZ hQ sq Gl;obtain⟨wb,iV⟩:∃wb,wb=wr.alloc (.cells #[.string v.name,v.x.op,.string v.x.name,.slice v.x.aw v.x.nw v.x.cw,v.x.lo,v.x.hi,.slice v.x.aa v.x.na v.x.ca,.slice v.au v.nu v.cu] 53):=⟨_,rfl⟩
   have jK:=ai (show Ext wr wb by rw[iV];exact(Tz _).alloc _);have VB:wb.heap[wr.heap.size]?=some (.cells #[.string v.name,v.x.op,.string v.x.name,.slice v.x.aw v.x.nw v.x.cw,v.x.lo,v.x.hi,.slice v.x.aa v.x.na v.x.ca,.slice v.au v.nu v.cu] 53 (0,0)):=by rw[iV];exact bR wr _
   have D0:=jK.o.cell e0;have D1:=jK.o.cell e1;have D2:=jK.o.cell e2;have D3:=jK.o.cell e3;have D4:=jK.o.cell e4;have D5:=jK.o.cell e5;go_upto_region 6 with fail
   rw[<-iV];clear iV e0 e1 e2 e3 e4 e5 c0 c1 c2 c3 c4 c5 c6 c7;obtain⟨x0,x1,x2,xf⟩:=dM (jK.o.blk HB.o);obtain⟨f0,f1,f2,f3,f4,f5,f6,f7,ff⟩:=oO VB;clear VB;have E0:=bT D0;have E1:=bT D1;have E2:=bT D2;have E3:=bT D3;have E4:=bT D4;have E5:=bT D5;have X0:=bT x0;have X1:=bT x1;have X2:=bT x2;have F0:=bT f0;have F1:=bT f1;have F2:=bT f2;have F3:=bT f3;have F4:=bT f4;have F5:=bT f5;have F6:=bT f6;have F7:=bT f7;clear D0 D1 D2 D3 D4 D5 x0 x1 x2 xf f0 f1 f2 f3 f4 f5 f6 f7 ff;cases va
   case true =>
    have HQ:=ai (show Z=false by rw[HV.o,HST.o];rfl);refine kT 17 ?_
    repeat first|(refine bZ ?_;intro K hK;go_big_quiet_op;go_big_quiet_on)|(refine zX ?_;intro K hK;go_simp;go_big_quiet_on)
    refine gC fun w1 hx1 _ _=>?_
    have dI:=ai (HX.o.trans (jK.o.trans hx1));clear hx1 E0 E1 E2 E3 E4 E5 X0 X1 X2 F0 F1 F2 F3 F4 F5 F6 F7;go_wp2_with fail
    go_ret;exact bW HQ.o.symm dI.o
   refine kT 17 ?_
   repeat (refine bZ ?_;intro K hK;go_big_quiet_op;go_big_quiet_on)
   refine mU (fun W hW=>se.o W (jK.o.trans hW)) ?_;intro K hK;go_simp;go_big_quiet_on
   repeat (refine bZ ?_;intro K hK;go_big_quiet_op;go_big_quiet_on)
   refine gC fun w1 hx1 _ _=>?_
   have dI:=ai (HX.o.trans (jK.o.trans hx1));have dN:=ai (BO.o.trans (jK.o.trans hx1));clear hx1 E0 E1 E2 E3 E4 E5 X0 X1 X2 F0 F1 F2 F3 F4 F5 F6 F7;cases Q
   ·have HQ:=ai (show Z=false by rw[HV.o,HST.o];rfl);go_wp2_with fail
    go_ret;exact bW HQ.o.symm dI.o
   have qO:=ai (show (qK A u).1 rs=(qK A (u.drop (k+1))).1 (rs.drop (k+1)) by rw[<-HZ.o,HV.o,HST.o];rfl);go_wp2_with fail
   go_roundw
   case rel=>exact⟨k+1,by go_num,by omega,qO.o,dN.o⟩
   case measure=>simp[intOf];omega
  have t1:=ah ((k:Int)<(nu:Int));have HQ:=ai (show Z=true by
   rw[HV.o,show k=u.length by have:=qB.o;omega,List.drop_length,show u.length=rs.length by have:=HRL.o;have:=qP.o;have:=qB.o;omega,List.drop_length,qK];rfl)
  go_wp2_with fail
  go_ret;exact bW HQ.o.symm HX.o
theorem ala {s:List Attr} {l:List cK} {f:ZI} {lo:fT} {n:Nat} {T:TypeId} {pt:Value} {nm:BA} {x:dK} {au:OA} {nu cu:Nat} {fw fn fu:FuncId} (hpt:aog T pt nm x au nu cu fw fn fu) (cond:Ex) (u:List Wb) (w:World) (h:WU w s l f lo n) (hp:Pd s l cond) (ZW:nu<=1000000) (hlen:nu=u.length) (hex:dw w cond x.val) (hd:gK w u au) {r:Rs} {rv:jf} (hr:kC w r rv) {A:Ex->Pr->Bool} (hA:A=CY s l f)
  (ai2:∀(k:Nat) (hk:k<u.length) (v:Cz) (r:Rs) (rv:jf) (W:World),Ext w W->v.name=u[k].name->dw W u[k].cond v.x.val->v.nu=u[k].gH.length->gK W u[k].gH v.au->kC W r rv->Calls Tryz.prog 75 #[lo.val,.iface 113 (.agg #[.string v.name,v.x.op,.string v.x.name,.slice v.x.aw v.x.nw v.x.cw,v.x.lo,v.x.hi,.slice v.x.aa v.x.na v.x.ca,.slice v.au v.nu v.cu]),rv.val] W (cz (.bool (I8 A u[k].name u[k].cond u[k].gH r)) W)) :
  Calls Tryz.prog 75 #[lo.val,.iface T pt,rv.val] w (cz (.bool (I8 A nm cond u r)) w):=by
 have hck:=lK h.ok;have hsz:=(Bf hp.1).2;obtain⟨rn,ra,rp,ru,pv,ja,jn,jc,rfl,rfl,hjn,hpv,hru⟩:=hr.parts;have HU:=ai (fun W (hW:Ext w W)=>Xa s l f cond x.val lo n W (h.agl.ext hW) (by have:=hck.len;omega) (hex.ext hW) ⟨by omega,hp.2.2.2.2.1⟩ (fun x hx=>⟨by have:=(Bf (hck.good x hx).2.2.1).2;omega,(h.Ca x hx).2.1⟩));have HE:=ai (fun W (hW:Ext w W) (u:List cK) (a:OA) (c:Nat) (hu:Ee l cond u) (hc:cZ W u a u.length c)=>(h.ext hW).verify (hex.ext hW) hp hu hc (hpv.mono hW.sub));rw[<-hA] at HE;obtain⟨U,hU⟩:∃U:List cK->Prop,U=Ee l cond:=⟨_,rfl⟩
 unfold axv at HU;have HU2:=ai (fun W (hW:Ext w W)=>(HU.o W hW).mono (fun r w' (hq:∃u a c,r=.returned (.slice a u.length c)/\cZ w' u a u.length c/\Ee l cond u/\Ext W w')=>by rw[<-hU] at hq;exact hq));rw[<-hU] at HE;have HRC:=ai (fun (r:Rs) (rv:jf) (k:Nat) (hk:k<u.length) (v:Cz) (W:World) (hW:Ext w W)=>ai2 k hk v r rv W hW);have kJ:=ai (fun W (hW:Ext w W)=>aEh (A:=A) (u:=u) (lo:=lo) (cu:=cu) W ZW hlen (gK.mono hW.sub _ _ hd) (hru.mono hW.sub) (fun k hk v r rv W' hW'=>ai2 k hk v r rv W' (hW.trans hW')));have HD:=ai hd;have qB:=ai hlen;have HRU:=ai hru;have HJN:=ai hjn;have HPT:=ai hpt;have hm1:=hpt.mw;have hm2:=hpt.mn;have hm3:=hpt.mu;have he1:=hpt.ew;have he2:=hpt.en;have he3:=hpt.eu;obtain⟨B,hB⟩:∃B,B=A cond rp:=⟨_,rfl⟩
 rw[<-hB] at HE;obtain⟨N,hN⟩:∃N,N=(qK A u).1 ru:=⟨_,rfl⟩
 rw[<-hN] at kJ;have Gi:=ai (show pv.value=rp.value from hpv.parts.1);obtain⟨Z,hZ⟩:∃Z,Z=I8 A nm cond u (.mk rn ra rp ru):=⟨_,rfl⟩
 rw[<-hZ];have HZ:=ai (show Z=(decide (rn=nm)&&B&&(if (!pv.value||u.isEmpty)=true then ra==pv.value&&ru.isEmpty else if ra=true then N else api (qK A u).2 ru)) by rw[hZ,hB,hN,Gi.o];rfl);clear h hp hck hsz hU HU hlen hex hd ai2 hpt hr hpv hru hjn hB hN hZ hA;unfold dK.val fN at HU2 HE;unfold fT.val at HU2 kJ;unfold fT.val at HRC ⊢;unfold jf.val at HRC ⊢;unfold gS.val at HE;obtain⟨pb,pk,pa,pn,pc⟩:=pv;simp only at HE Gi HZ ⊢;obtain⟨b2,hb2⟩:∃b2,b2=w.heap.size:=⟨_,rfl⟩
 obtain⟨wa,cN⟩:∃wa,wa=(w.alloc (.cells #[.slice lo.sa lo.sn lo.sc,.map (some lo.bm),.slice lo.fa lo.fn lo.fc] 74)).alloc (.cells #[.string rn,.bool ra,.bool pb,pk,.slice pa pn pc,.slice ja jn jc] 69):=⟨_,rfl⟩
 have dm:=ai (show Ext w wa by rw[cN];exact((Tz _).alloc _).alloc _);have HA2:=ai (show wa.heap[b2]?=some (.cells #[.slice lo.sa lo.sn lo.sc,.map (some lo.bm),.slice lo.fa lo.fn lo.fc] 74 (0,0)) by rw[cN,hb2];exact bU (bR w _));have HA4:=ai (show wa.heap[b2+1]?=some (.cells #[.string rn,.bool ra,.bool pb,pk,.slice pa pn pc,.slice ja jn jc] 69 (0,0)) by rw[cN,hb2];exact cT (by simp));go_enter Tryz.func75,Tryz.ntmps75
 go_upto_region 1 with fail
 rw[<-cN,<-hb2];clear cN hb2;go_wp2_with fail
 refine(HPT.o.cw wa).mono ?_;rintro r w1 ⟨rfl,hx1⟩;go_upto_region 2 with fail
 obtain⟨b5,hb5⟩:∃b5,b5=w1.heap.size:=⟨_,rfl⟩
 obtain⟨w2,hw2⟩:∃w2,w2=w1.alloc (.cells #[ x.op,.string x.name,.slice x.aw x.nw x.cw,x.lo,x.hi,.slice x.aa x.na x.ca] 45):=⟨_,rfl⟩
 have hx2:Ext wa w2:=hx1.trans (by rw[hw2];exact(Tz _).alloc _);have HE5:=ai (show w2.heap[b5]?=some (.cells #[ x.op,.string x.name,.slice x.aw x.nw x.cw,x.lo,x.hi,.slice x.aa x.na x.ca] 45 (0,0)) by rw[hw2,hb5];exact bR w1 _);have dN:=ai (dm.o.trans hx2);have H2:=ai (hx2.blk HA2.o);have H4:=ai (hx2.blk HA4.o);rw[<-hw2,<-hb5];clear hw2 hb5 hx1 hx2 dm HA2 HA4;obtain⟨x0,x1,x2,xf⟩:=dM H2.o;obtain⟨f0,f1,f2,f3,f4,f5,ff⟩:=cX HE5.o;obtain⟨r0,r1,r2,r3,r4,r5,rf⟩:=dH H4.o;have C0:=bT x0;have C1:=bT x1;have C2:=bT x2;have D0:=bT f0;have D1:=bT f1;have D2:=bT f2;have D3:=bT f3;have D4:=bT f4;have D5:=bT f5;have E0:=bT r0;have E1:=bT r1;have E2:=bT r2;have E3:=bT r3;have E4:=bT r4;have E5:=bT r5;by_cases hnm:rn=nm
 case neg =>
  have t1:(rn.toList==nm.toList)=false:=by simpa using fun e=>hnm (toList_inj e)
  have HQ:=ai (show Z=false by rw[HZ.o,bP hnm];rfl);clear hnm;refine kT 19 ?_
  repeat (refine bZ ?_;intro K hK;go_big_quiet_op;go_big_quiet_on)
  refine mU (fun W hW=>HPT.o.cn W) ?_;intro K hK;go_simp;go_big_quiet_on
  repeat first|(refine bZ ?_;intro K hK;go_big_quiet_op;go_big_quiet_on)|(refine zX ?_;intro K hK;go_simp;go_big_quiet_on)
  refine gC fun w4 gV _ _=>?_
  have jl:=ai (dN.o.trans gV);clear gV x0 x1 x2 xf f0 f1 f2 f3 f4 f5 ff r0 r1 r2 r3 r4 r5 rf C0 C1 C2 D0 D1 D2 D3 D4 D5 E0 E1 E2 E3 E4 E5;go_wp2_with fail
  go_ret;exact bW HQ.o.symm jl.o
 have t1:(rn.toList==nm.toList)=true:=by simp[hnm]
 have IE:=ai (show Z=(B&&(if (!pb||u.isEmpty)=true then ra==pb&&ru.isEmpty else if ra=true then N else api (qK A u).2 ru)) by rw[HZ.o,bO hnm];rfl);clear hnm HZ;refine kT 19 ?_
 repeat (refine bZ ?_;intro K hK;go_big_quiet_op;go_big_quiet_on)
 refine mU (fun W hW=>HPT.o.cn W) ?_;intro K hK;go_simp;go_big_quiet_on
 repeat (refine bZ ?_;intro K hK;go_big_quiet_op;go_big_quiet_on)
 refine dP (γ:=List cK×OA×Nat) (fun x=>.slice x.2.1 x.1.length x.2.2) (fun x W=>U x.1/\cZ W x.1 x.2.1 x.1.length x.2.2) (fun W hW _ _=>?_) (fun x W W' hx h=>⟨h.1,h.2.ext hx⟩) ?_ ⟨([],none,0)⟩
 ·unfold bQ;go_simp;refine(HU2.o W (dN.o.trans hW)).mono ?_;rintro r w1 ⟨u,a,c,rfl,h1,h2,h3⟩;exact⟨_,rfl,h3,(u,a,c),rfl,h2,h1⟩
 rintro⟨u',a,c⟩ K hK;go_simp;go_big_quiet_on
 repeat (refine bZ ?_;intro K hK;go_big_quiet_op;go_big_quiet_on)
 refine fZ (.bool B) (fun _=>True) (fun W hW h _=>?_) (fun _ _ _ h=>h) ?_
 ·unfold bQ;go_simp;refine(HE.o W (dN.o.trans hW) u' a c h.1 h.2).mono ?_;rintro r w1 ⟨rfl,h3⟩;exact⟨_,rfl,h3,rfl,trivial⟩
 intro K hK;go_simp;go_big_quiet_on
 repeat (refine bZ ?_;intro K hK;go_big_quiet_op;go_big_quiet_on)
 refine gC fun w4 gV _ _=>?_
 have jl:=ai (dN.o.trans gV);have H24:=ai (gV.blk H2.o);have H44:=ai (gV.blk H4.o);clear gV x0 x1 x2 xf f0 f1 f2 f3 f4 f5 ff r0 r1 r2 r3 r4 r5 rf C0 C1 C2 D0 D1 D2 D3 D4 D5 E0 E1 E2 E3 E4 E5 HE HU2 HE5 H2 H4 t1 hm1 hm2 he1 he2 dN;cases B
 ·go_wp2_with fail
  go_ret;exact bW (by rw[IE.o];rfl) jl.o
 have HZ3:=ai (show Z=(if (!pb||u.isEmpty)=true then ra==pb&&ru.isEmpty else if ra=true then N else api (qK A u).2 ru) by rw[IE.o];rfl);clear IE;go_wp2_with fail
 refine(HPT.o.cu w4).mono ?_;rintro r w5 ⟨rfl,dh⟩;have gW:=ai (jl.o.trans dh);have H25:=ai (dh.blk H24.o);have H45:=ai (dh.blk H44.o);clear dh jl H24 H44 hm3 he3;obtain⟨x0,x1,x2,xf⟩:=dM H25.o;obtain⟨r0,r1,r2,r3,r4,r5,rf⟩:=dH H45.o;have hemp:(!pb||u.isEmpty)=true->Z=(ra==pb&&ru.isEmpty):=fun h=>by rw[HZ3.o,bM h]
 have aQR:(!pb||u.isEmpty)=false->Z=(if ra=true then N else api (qK A u).2 ru):=fun h=>by rw[HZ3.o,h];rfl
 have hju:ru.isEmpty=((jn:Int)==0):=by
  rw[HJN.o];cases ru
  ·rfl
  simp;omega
 have HEM:=ai hemp;have HFU:=ai aQR;have HJU:=ai hju;clear hemp aQR hju HZ3;cases pb
 case false =>
  have HQ:=ai (show Z=(ra==false&&((jn:Int)==0)) by rw[HEM.o rfl,HJU.o]);obtain⟨J,hJ⟩:∃J,J=((jn:Int)==0):=⟨_,rfl⟩
  rw[<-hJ] at HQ;have t3:=hJ.symm;clear hJ;cases ra
  ·go_wp2_with fail
   go_ret;exact bW (by rw[HQ.o];rfl) gW.o
  go_wp2_with fail
  go_ret;exact bW (by rw[HQ.o];rfl) gW.o
 by_cases hn0:nu=0
 ·have t2:((nu:Int)==0)=true:=by simp[hn0]
  have HQ:=ai (show Z=(ra==true&&((jn:Int)==0)) by
   rw[HEM.o (by
    have:u=[]:=aR (by have:=qB.o;omega);rw[this];rfl),HJU.o])
  obtain⟨J,hJ⟩:∃J,J=((jn:Int)==0):=⟨_,rfl⟩
  rw[<-hJ] at HQ;have t3:=hJ.symm;clear hJ hn0;cases ra
  ·go_wp2_with fail
   go_ret;exact bW (by rw[HQ.o];rfl) gW.o
  go_wp2_with fail
  go_ret;exact bW (by rw[HQ.o];rfl) gW.o
 have t2:((nu:Int)==0)=false:=by simp;omega
 have HQ:=ai (HFU.o (by
  cases hu:u with
  | nil=>have:=qB.o;rw[hu] at this;simp at this;omega
  | cons y t=>rfl))
 clear hn0 HEM HFU HJU;cases ra
 case true =>
  go_wp2_with fail
  refine(kJ.o w5 gW.o).mono ?_;rintro r w6 ⟨rfl,gN⟩;have kR:=ai (gW.o.trans gN);clear gN x0 x1 x2 xf r0 r1 r2 r3 r4 r5 rf;go_wp2_with fail
  go_ret;exact bW (by rw[HQ.o];rfl) kR.o
 have Ro:=ai (show Z=(api (qK A u).2 ru) by rw[HQ.o];rfl);clear HQ kJ;by_cases hj1:jn=1
 case neg =>
  have t3:((jn:Int) != 1)=true:=by simp;omega
  have HQ:=ai (show Z=false by
   rw[Ro.o];have:=HJN.o
   match ru,this with
   | [],_=>rfl
   | [y],h=>exact a40 h hj1
   | _::_::_,_=>rfl)
  clear hj1;go_wp2_with fail
  go_ret;exact bW HQ.o.symm gW.o
 have t3:((jn:Int) != 1)=false:=by simp[hj1]
 have tj:(0:Int)<(jn:Int):=by omega
 have hlr:ru.length=1:=by have:=HJN.o;omega
 obtain⟨y,rfl⟩:∃y,ru=[y]:=by
  match ru,hlr with
  | [y],_=>exact⟨y,rfl⟩
 obtain⟨br,aVX,rv,rfl,sq,e0,e1,e2,e3,e4,e5⟩:=(HRU.o.mono gW.o.sub).nth (k:=0) (by simp);have Gl:=ai (show rv.dg=y.dg from sq.app);have CA:=ai (show kC w5 y rv from sq);obtain⟨yn,ya,yp,yua,yun,yuc⟩:=rv;simp only[Nat.zero_mul,Nat.add_zero] at e0 e1 e2 e3 e4 e5 Gl;clear sq hlr hj1 CA;have RT:=ai (show Z=(ya&&(qK A u).2 y) by rw[Ro.o,Gl.o];rfl);clear Ro Gl;cases ya
 case false =>
  go_wp2_with fail
  go_ret;exact bW (by rw[RT.o];rfl) gW.o
 have HQ4:=ai (show Z=(qK A u).2 y by rw[RT.o];rfl);clear RT;go_wp2_with fail
 clear x0 x1 x2 xf r0 r1 r2 r3 r4 r5 rf e0 e1 e2 e3 e4 e5 t2 t3;go_loopw [76] (fun i wr=>∃k:Nat,i=.int .i64 k/\k<=nu/\(qK A u).2 y=(qK A (u.drop k)).2 y/\Ext w5 wr) (fun i _=>nu - (intOf i).toNat)
 case atStart=>exact⟨0,rfl,Nat.zero_le _,rfl,Tz _⟩
 case round =>
  obtain⟨k,rfl,hk,hv,hx⟩:=hrel;have HV:=ai (HQ4.o.trans hv);have HX:=ai (gW.o.trans hx);have fY:=ai (hx.blk H25.o);have qD:=ai (hx.blk H45.o);have BO:=ai hx;clear hv hx;by_cases hkn:k<nu
  ·have fq:k<u.length:=by have:=qB.o;omega
   have t1:=ag ((k:Int)<(nu:Int));obtain⟨b,off,rfl,v,Co,hrow,wU,Sg,-,-,PZ⟩:=gK.at u _ (gK.mono HX.o.sub u _ HD.o) k fq;obtain⟨c0,c1,c2,c3,c4,c5,c6,c7⟩:=hrow.eight;obtain⟨_,_,⟨zn,za,zp,zua,zun,zuc⟩,hq,sq,e0,e1,e2,e3,e4,e5⟩:=(HRU.o.mono HX.o.sub).nth (k:=0) (by simp);cases hq
   simp only[Nat.zero_mul,Nat.add_zero] at e0 e1 e2 e3 e4 e5;have se:=ai (fun W (hW:Ext wr W)=>HRC.o y ⟨zn,za,zp,zua,zun,zuc⟩ k fq v W (HX.o.trans hW) Co (wU.ext hW) Sg (gK.mono hW.sub _ _ PZ) (kC.mono sq hW.sub));have HST:=ai (aCS A fq y);obtain⟨Q,hQ⟩:∃Q,Q=I8 A u[k].name u[k].cond u[k].gH y:=⟨_,rfl⟩
   rw[<-hQ] at se HST;clear Co hrow wU Sg PZ hQ sq;obtain⟨wb,iV⟩:∃wb,wb=wr.alloc (.cells #[.string v.name,v.x.op,.string v.x.name,.slice v.x.aw v.x.nw v.x.cw,v.x.lo,v.x.hi,.slice v.x.aa v.x.na v.x.ca,.slice v.au v.nu v.cu] 53):=⟨_,rfl⟩
   have jK:=ai (show Ext wr wb by rw[iV];exact(Tz _).alloc _);have VB:wb.heap[wr.heap.size]?=some (.cells #[.string v.name,v.x.op,.string v.x.name,.slice v.x.aw v.x.nw v.x.cw,v.x.lo,v.x.hi,.slice v.x.aa v.x.na v.x.ca,.slice v.au v.nu v.cu] 53 (0,0)):=by rw[iV];exact bR wr _
   have D0:=jK.o.cell e0;have D1:=jK.o.cell e1;have D2:=jK.o.cell e2;have D3:=jK.o.cell e3;have D4:=jK.o.cell e4;have D5:=jK.o.cell e5;go_upto_region 14 with fail
   rw[<-iV];clear iV e0 e1 e2 e3 e4 e5 c0 c1 c2 c3 c4 c5 c6 c7;obtain⟨x0,x1,x2,xf⟩:=dM (jK.o.blk fY.o);obtain⟨r0,r1,r2,r3,r4,r5,rf⟩:=dH (jK.o.blk qD.o);obtain⟨f0,f1,f2,f3,f4,f5,f6,f7,ff⟩:=oO VB;clear VB;have E0:=bT D0;have E1:=bT D1;have E2:=bT D2;have E3:=bT D3;have E4:=bT D4;have E5:=bT D5;have X0:=bT x0;have X1:=bT x1;have X2:=bT x2;have F0:=bT f0;have F1:=bT f1;have F2:=bT f2;have F3:=bT f3;have F4:=bT f4;have F5:=bT f5;have F6:=bT f6;have F7:=bT f7;have R5:=bT r5;clear D0 D1 D2 D3 D4 D5 x0 x1 x2 xf f0 f1 f2 f3 f4 f5 f6 f7 ff r0 r1 r2 r3 r4 r5 rf;refine kT 9 ?_
   repeat (refine bZ ?_;intro K hK;go_big_quiet_op;go_big_quiet_on)
   refine mU (fun W hW=>se.o W (jK.o.trans hW)) ?_;intro K hK;go_simp;go_big_quiet_on
   repeat (refine bZ ?_;intro K hK;go_big_quiet_op;go_big_quiet_on)
   refine gC fun w6 gN _ _=>?_
   have kR:=ai (HX.o.trans (jK.o.trans gN));have rZ:=ai (BO.o.trans (jK.o.trans gN));clear gN E0 E1 E2 E3 E4 E5 X0 X1 X2 F0 F1 F2 F3 F4 F5 F6 F7 R5;cases Q
   ·have qO:=ai (show (qK A u).2 y=(qK A (u.drop (k+1))).2 y by rw[<-HQ4.o,HV.o,HST.o];rfl);go_wp2_with fail
    go_roundw
    case rel=>exact⟨k+1,by go_num,by omega,qO.o,rZ.o⟩
    case measure=>simp[intOf];omega
   go_wp2_with fail
   go_ret;exact bW (by rw[HV.o,HST.o];rfl) kR.o
  have t1:=ah ((k:Int)<(nu:Int));have HQ:=ai (show Z=false by
   rw[HV.o,show k=u.length by have:=qB.o;omega,List.drop_length,qK])
  go_wp2_with fail
  go_ret;exact bW HQ.o.symm HX.o
theorem azW {s:List Attr} {l:List cK} {f:ZI} {lo:fT} {n:Nat}:∀(m:Nat) (cond:Ex) (u:List Wb) (nm:BA) (x:dK) (au:OA) (nu cu:Nat) (w:World) (r:Rs) (rv:jf),mH u<=m->WU w s l f lo n->Pd s l cond->jY (Pd s l) u->mH u<=1000000->nu=u.length->dw w cond x.val->gK w u au->kC w r rv ->
  Calls Tryz.prog 75 #[lo.val,.iface 113 (.agg #[.string nm,x.op,.string x.name,.slice x.aw x.nw x.cw,x.lo,x.hi,.slice x.aa x.na x.ca,.slice au nu cu]),rv.val] w (cz (.bool (I8 (CY s l f) nm cond u r)) w):=by
 intro m;induction m using Nat.strongRecOn with
 | _ m ih =>
  intro cond u nm x au nu cu w r rv hm h hp hok ZW hlen hex hd hr;have hl:=ql u;refine ala (Sq nm x au nu cu) cond u w h hp (by omega) hlen hex hd hr rfl fun k hk v r rv W hW Co wU Sg PZ hr=>?_
  have hat:=zw u k hk;rw[<-Co];exact ih (mH u[k].gH) (by omega) u[k].cond u[k].gH v.name v.x v.au v.nu v.cu W r rv (aU _) (h.ext hW) (j7 u hok k hk).1 (j7 u hok k hk).2.1 (by omega) Sg wU PZ hr
theorem arK {s:List Attr} {l:List cK} {f:ZI} {lo:fT} {n:Nat} (cond:Ex) (u:List Wb) (kd:Int) (nm:BA) (x:dK) (au:OA) (nu cu:Nat) (am:Int) (w:World) (h:WU w s l f lo n) (hp:Pd s l cond) (hok:jY (Pd s l) u) (hn:mH u<=1000000) (hlen:nu=u.length) (hex:dw w cond x.val) (hd:gK w u au) {r:Rs} {rv:jf} (hr:kC w r rv) :
  Calls Tryz.prog 75 #[lo.val,.iface 81 (.agg #[ kd,.string nm,x.op,.string x.name,.slice x.aw x.nw x.cw,x.lo,x.hi,.slice x.aa x.na x.ca,.slice au nu cu,am]),rv.val] w (cz (.bool (I8 (CY s l f) nm cond u r)) w):=by
 have hl:=ql u;refine ala (adi kd nm x au nu cu am) cond u w h hp (by omega) hlen hex hd hr rfl fun k hk v r rv W hW Co wU Sg PZ hr=>?_
 have hat:=zw u k hk;rw[<-Co];exact azW (mH u[k].gH) u[k].cond u[k].gH v.name v.x v.au v.nu v.cu W r rv (aU _) (h.ext hW) (j7 u hok k hk).1 (j7 u hok k hk).2.1 (by omega) Sg wU PZ hr
end Go.Proofs.YtefjomofjejklaaGreatDoor
