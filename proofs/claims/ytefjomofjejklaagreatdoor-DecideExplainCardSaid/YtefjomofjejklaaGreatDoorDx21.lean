/-
  Texts of the claim, joined: DOf, DIns, DDec, Made12, RDec.
-/
import Derived.Test.YtefjomofjejklaaGreatDoorDx20
namespace Go.Proofs.YtefjomofjejklaaGreatDoor
set_option maxRecDepth 100000
set_option maxHeartbeats 32000000
open Go.RowKit Go.Maps
def ard (l:ZI) (x:Int):Int:=match l.findIdx? (fun y=>y==x) with|some i=>i|none => -1
theorem aGE {l:ZI} {x:Int} {k:Nat} (hk:k<l.length) (h1:∀j (hj:j<l.length),j<k->(l[j]==x)=false) (h2:(l[k]==x)=true):ard l x=k:=by
 unfold ard;rw[show l.findIdx? (fun y=>y==x)=some k from by
  rw[aP];exact⟨hk,h2,fun j hj=>by simpa using h1 j (by omega) hj⟩]
theorem aCW {l:ZI} {x:Int} (h1:∀j (hj:j<l.length),(l[j]==x)=false):ard l x = -1:=by
 unfold ard;rw[show l.findIdx? (fun y=>y==x)=none from by
  rw[bJ];intro y hy;obtain⟨j,hj,rfl⟩:=bM hy;exact h1 j hj]
theorem aGF (l:ZI) (x:Int):decide (0<=ard l x)=l.any (·==x):=by
 unfold ard;cases h:l.findIdx? (fun y=>y==x) with
 | none =>
  rw[bJ] at h;have:l.any (·==x)=false:=by
   rw[List.any_eq_false];intro y hy;simpa using h y hy
  rw[this]
  rfl
 | some i =>
  rw[aP] at h;obtain⟨hi,h2,_⟩:=h;have:l.any (·==x)=true:=List.any_eq_true.2 ⟨_,aI hi,h2⟩;rw[this];simp
theorem arE (l:ZI) (x:Int) (a:OA) (n c:Nat) (w:World) (hn:n<=1000000000000000) (hl:fO w l a n) :
  Calls Tryz.prog 114 #[.slice a n c,.int .i64 x] w (Gives (.int .i64 (ard l x)) w):=by
 have HL:=ak hl;have HNL:=ak hl.1;obtain⟨R,hR⟩:∃R,R=ard l x:=⟨_,rfl⟩
 rw[<-hR];have HR:=ak hR;clear hl hR;go_enter Tryz.func114,Tryz.ntmps114
 go_wp2_with fail
 go_loop [8] (fun t=>∃k:Nat,t=.int .i64 k/\k<=n/\∀j (hj:j<l.length),j<k->(l[j]==x)=false) (fun t=>n - (intOf t).toNat)
 case atStart=>exact⟨0,rfl,by omega,fun _ _ h=>by omega⟩
 case round =>
  obtain⟨k,rfl,hk,hne⟩:=hrel;have HE:=ak hne;clear hne;by_cases hlt:k<n
  ·have hlt':k<l.length:=by have:=HNL.o;omega
   have t1:=ah ((k:Int)<(n:Int));obtain⟨b,off,rfl,hcell⟩:=HL.o.2 k hlt';obtain⟨q,hq⟩:∃q,q=l[k]:=⟨_,rfl⟩
   rw[<-hq] at hcell;have HQ:=ak hq;clear hq;cases hx:(x==q)
   ·go_wp2_with fail
    go_round
    case rel =>
     refine⟨k+1,by go_num,by omega,?_⟩;intro j hj hj2;by_cases hjk:j<k
     ·exact HE.o j hj hjk
     obtain rfl:j=k:=by omega
     rw[<-HQ.o];rw[beq_eq_false_iff_ne] at hx ⊢;exact fun e=>hx e.symm
    case measure=>simp[intOf];omega
   have HH:=ak (show R=(k:Int) by rw[HR.o];exact aGE hlt' HE.o (by rw[<-HQ.o];rw[beq_iff_eq] at hx ⊢;exact hx.symm));go_wp2_with fail
   go_ret;exact yA HH.o.symm
  have t1:=aj ((k:Int)<(n:Int));have HH:=ak (show R = -1 by rw[HR.o];exact aCW (fun j hj=>HE.o j hj (by have:=HNL.o;omega)));go_wp2_with fail
  go_ret;exact yA HH.o.symm
theorem aiw (l:ZI) (x:Int) (a:OA) (n c:Nat) (w:World) (hn:n<=1000000000000000) (hl:fO w l a n) :
  Calls Tryz.prog 85 #[.slice a n c,.int .i64 x] w (Gives (.bool (l.any (·==x))) w):=by
 have HC:=ak (arE l x a n c w hn hl);rw[<-aGF];obtain⟨R,hR⟩:∃R,R=ard l x:=⟨_,rfl⟩
 rw[<-hR] at HC ⊢;clear hR hl;go_enter Tryz.func85,Tryz.ntmps85
 go_wp2_with fail
 refine HC.o.mono ?_;rintro e w' ⟨rfl,rfl⟩;go_wp2_with fail
 go_ret;exact jk rfl
def wJ (ks:ZI) (l:List dY):List dY:=l.filter fun x=>ks.any (·==x.kind)
theorem aGS (ks:ZI) {l:List dY} {k:Nat} (hk:k<l.length):wJ ks (l.take (k+1))=if ks.any (·==l[k].kind)=true then wJ ks (l.take k)++[l[k]] else wJ ks (l.take k):=by
 unfold wJ;rw[aU hk,List.filter_append,List.filter_cons];cases ks.any (·==l[k].kind)<;>simp
theorem aLM (ks:ZI) (l:List dY):(wJ ks l).length<=l.length:=List.length_filter_le _ _
def OfQ (ks:ZI) (l:List dY) (w:World) (r:Ending) (w':World):Prop:=∃u a c,u=wJ ks l/\r=.returned (.slice a u.length c)/\eX w' u a u.length c/\Ext w w'
def aEV (ks:ZI) (l:List dY) (w0 w:World) (r:Ending) (w':World):Prop:=∃u vs a c,u=wJ ks l/\r=.returned (.slice a u.length c)/\Dp w0 u vs/\iF (mask w' (List.range w.heap.size)) 10 jm.cells vs a u.length c/\Ext w w'
theorem aEV.of {ks:ZI} {l:List dY} {w:World} {r:Ending} {w':World} (h:aEV ks l w w r w'):OfQ ks l w r w':=by
 obtain⟨u,vs,a,c,h1,h2,h3,h4,h5⟩:=h;exact⟨u,a,c,h1,h2,⟨vs,h4.mono (dU _ _),h3.1,fun i q1 q2=>(h3.2 i q1 q2).mono h5.sub⟩,h5⟩
theorem aoR (l:List dY) (ks:ZI) (a:OA) (n c:Nat) (ka:OA) (kn kc:Nat) {w0:World} (w:World) (hl:eX w0 l a n c) (h0:Ext w0 w) (hn:n<=1000000) (hk:fO w ks ka kn) (hkn:kn<=100) :
  Calls Tryz.prog 58 #[.slice a n c,.slice ka kn kc] w (aEV ks l w0 w):=by
 have HCT:=ak (fun (x:Int) W (hW:Ext w W)=>aiw ks x ka kn kc W (by omega) (hk.ext hW));have HL:=ak hl;have H0:=ak h0;have HN:=ak hl.len;clear hl hk h0;go_enter Tryz.func58,Tryz.ntmps58
 go_wp2_with fail
 go_loopw [5,10] (fun lv i wr=>∃(k:Nat) (vs:List jm) (u:List dY),i=.int .i64 k/\k<=n/\u=wJ ks (l.take k)/\u.length<=k/\Dp w0 u vs/\wr.ownsRow w.heap.size 48 10 lv u.length (vs.flatMap jm.cells)/\Ext w wr) (fun _ i _=>n - (intOf i).toNat)
 case atStart=>exact⟨0,[],[],rfl,by omega,rfl,by simp,⟨rfl,fun i h=>by simp at h⟩,World.ownsRow_nil _ _ _ _,Ext.refl _⟩
 case round =>
  obtain⟨k,vs,u,rfl,hkn2,hu,hul,hcr,hown,hx⟩:=hrel;obtain⟨la,lc,hlv⟩:=pJ hown;subst hlv;have HU:=ak hu;have Fe:=ak hcr;have HOWN:=ak hown;have HX:=ak hx;clear hu hcr hown hx;by_cases hlt:k<n
  ·have hkl:k<l.length:=by have:=HN.o;omega
   have t1:=ah ((k:Int)<(n:Int));obtain⟨cb,oZ,v,rfl,jr,hrow⟩:=HL.o.at hkl;obtain⟨c0,c1,c2,c3,c4,c5,c6,c7,c8,c9⟩:=(hrow.mono (H0.o.trans HX.o).sub).ten;have vS:=ak jr;obtain⟨B,hB⟩:∃B,B=ks.any (·==v.kind):=⟨_,rfl⟩
   have HST:=ak (show wJ ks (l.take (k+1))=if B=true then u++[l[k]] else u by rw[aGS ks hkl,hB,jr.1,HU.o]);have Us:=ak (fun W (hW:Ext w W)=>HCT.o v.kind W hW);rw[<-hB] at Us;clear jr hrow hB;obtain⟨wb,hwb⟩:∃wb,wb=wr.alloc (.cells #[.int .i64 v.kind,.string v.name,.int .i64 v.x.op,.string v.x.name,.slice v.x.aw v.x.nw v.x.cw,.int .i64 v.x.lo,.int .i64 v.x.hi,.slice v.x.aa v.x.na v.x.ca,.slice v.au v.nu v.cu,.int .i64 v.amount] 48):=⟨_,rfl⟩
   have HXB:=ak (show Ext wr wb by rw[hwb];exact(Ext.refl _).alloc _);have hb:=(show wb.heap[wr.heap.size]?=some (.cells #[.int .i64 v.kind,.string v.name,.int .i64 v.x.op,.string v.x.name,.slice v.x.aw v.x.nw v.x.cw,.int .i64 v.x.lo,.int .i64 v.x.hi,.slice v.x.aa v.x.na v.x.ca,.slice v.au v.nu v.cu,.int .i64 v.amount] 48 (0,0)) by rw[hwb];exact dG wr _)
   have hsb:w.heap.size<=wb.heap.size:=bC HX.o.size HXB.o.size;obtain⟨f0,f1,f2,f3,f4,f5,f6,f7,f8,f9,ff⟩:=Aa hb;go_upto_region 5 with fail
   rw[<-hwb];clear hwb hb c0 c1 c2 c3 c4 c5 c6 c7 c8 c9;go_wp2_with fail
   refine(Us.o wb (HX.o.trans HXB.o)).mono ?_;rintro e w' ⟨rfl,rfl⟩;cases B
   case false =>
    go_wp2_with fail
    go_roundw
    case rel=>exact⟨k+1,vs,u,by go_num,by omega,by rw[HST.o];rfl,by omega,Fe.o,eF HOWN.o (HXB.o.fH []) (by simp),HX.o.trans HXB.o⟩
    case measure=>simp[intOf];omega
   case true =>
    have Ad:=ak (eF HOWN.o (HXB.o.fH []) (by simp));go_wp2_with (at_builtin;refine fK sQ rfl _ _ rfl w.heap.size _ u.length _ rfl Ad.o _ 1 1 rfl ?f0 rfl ?f1 ?f2 ?f3 ?f4 ?_)
    case f0=>simp
    case f1=>simp[Value.oneCell']
    case f2=>unfold maxLen;omega
    case f3=>omega
    case f4=>omega
    intro v8 w8 ig hc8 hw8;have GK:=ak ig;have rD:=ak (hc8.ext (HX.o.trans HXB.o) fun q hq=>(Ad.o.lt q (dK.1 hq)).1);clear ig hc8 hw8 f0 f1 f2 f3 f4 f5 f6 f7 f8 f9 ff;go_wp2_with fail
    go_roundw
    case rel=>exact⟨k+1,vs++[v],u++[l[k]],by go_num,by omega,by rw[HST.o];rfl,by simp;omega,Fe.o.snoc vS.o,by simpa[jm.cells] using GK.o,rD.o⟩
    case measure=>simp[intOf];omega
  have t1:=aj ((k:Int)<(n:Int));have HQ:=ak (show u=wJ ks l by rw[HU.o,aY (by have:=HN.o;omega)]);have hln:=Fe.o.1;have hown:=HOWN.o;rw[hln] at hown;obtain⟨a',c',hv,hr⟩:=iF.kZ jm.len hown;simp only[Value.slice.injEq] at hv;obtain⟨rfl,-,rfl⟩:=hv;have HRW:=ak (show iF (mask wr (List.range w.heap.size)) 10 jm.cells vs la u.length lc from⟨hln,by rw[hln];exact hr.2.1,hr.2.2.1,fun i hi=>by
   obtain⟨b',off',e1,h5⟩:=hr.2.2.2 i hi;subst e1;refine⟨b',off',rfl,fun j hj=>?_⟩;rw[iH,dh (fun hm=>by have h1:=(HOWN.o.lt b' rfl).1;have h2:b'<w.heap.size:=List.mem_range.1 hm;omega)];exact h5 j hj⟩)
  clear hown hr hln;go_wp2_with fail
  go_ret;exact⟨u,vs,_,_,HQ.o,rfl,Fe.o,HRW.o,HX.o⟩
theorem akL (l:List dY) (ks:ZI) (a:OA) (n c:Nat) (ka:OA) (kn kc:Nat) (w:World) (hl:eX w l a n c) (hn:n<=1000000) (hk:fO w ks ka kn) (hkn:kn<=100) :
  Calls Tryz.prog 58 #[.slice a n c,.slice ka kn kc] w (OfQ ks l w) :=
 (aoR l ks a n c ka kn kc w hl (Ext.refl w) hn hk hkn).mono fun _ _ h=>h.of
theorem Ll {W:World} {ks:ZI} {vs:Array Value} {t:TypeId} (hv:vs.toList=ks.map (fun x=>Value.int .i64 x)):fO (W.alloc (.cells vs t)) ks (some ⟨W.heap.size,0,none⟩) ks.length:=by
 refine⟨rfl,fun i hi=>⟨W.heap.size,0,rfl,?_⟩⟩;rw[Nat.zero_add,dM (dG W (.cells vs t)) i];have:vs[i]?=vs.toList[i]?:=by simp
 rw[this,hv];simp[hi]
theorem ac1 (l:List dY) (a:OA) (n c:Nat) (w:World) (hl:eX w l a n c) (hn:n<=1000000) :
  Calls Tryz.prog 29 #[.slice a n c] w (OfQ [2] l w):=by
 have HX:=ak ((Ext.refl w).alloc (.cells #[.int .i64 2] 3));have HOF:=ak (akL l [2] a n c (some ⟨w.heap.size,0,none⟩) 1 1 (w.alloc (.cells #[.int .i64 2] 3)) (hl.ext HX.o) hn (Ll rfl) (by omega));clear hl;go_enter Tryz.func29,Tryz.ntmps29
 go_wp2_with fail
 refine HOF.o.mono ?_;rintro r w1 ⟨u,a',c',hu,rfl,h1,h2⟩;have HQ:=ak (show OfQ [2] l w (.returned (.slice a' u.length c')) w1 from⟨u,a',c',hu,rfl,h1,HX.o.trans h2⟩);clear hu h1 h2;go_wp2_with fail
 go_ret;exact HQ.o
theorem Uh (l:List dY) (a:OA) (n c:Nat) (w:World) (hl:eX w l a n c) (hn:n<=1000000) :
  Calls Tryz.prog 30 #[.slice a n c] w (OfQ [4] l w):=by
 have HX:=ak ((Ext.refl w).alloc (.cells #[.int .i64 4] 3));have HOF:=ak (akL l [4] a n c (some ⟨w.heap.size,0,none⟩) 1 1 (w.alloc (.cells #[.int .i64 4] 3)) (hl.ext HX.o) hn (Ll rfl) (by omega));clear hl;go_enter Tryz.func30,Tryz.ntmps30
 go_wp2_with fail
 refine HOF.o.mono ?_;rintro r w1 ⟨u,a',c',hu,rfl,h1,h2⟩;have HQ:=ak (show OfQ [4] l w (.returned (.slice a' u.length c')) w1 from⟨u,a',c',hu,rfl,h1,HX.o.trans h2⟩);clear hu h1 h2;go_wp2_with fail
 go_ret;exact HQ.o
theorem Ug (l:List dY) (a:OA) (n c:Nat) (w:World) (hl:eX w l a n c) (hn:n<=1000000) :
  Calls Tryz.prog 31 #[.slice a n c] w (OfQ [3] l w):=by
 have HX:=ak ((Ext.refl w).alloc (.cells #[.int .i64 3] 3));have HOF:=ak (akL l [3] a n c (some ⟨w.heap.size,0,none⟩) 1 1 (w.alloc (.cells #[.int .i64 3] 3)) (hl.ext HX.o) hn (Ll rfl) (by omega));clear hl;go_enter Tryz.func31,Tryz.ntmps31
 go_wp2_with fail
 refine HOF.o.mono ?_;rintro r w1 ⟨u,a',c',hu,rfl,h1,h2⟩;have HQ:=ak (show OfQ [3] l w (.returned (.slice a' u.length c')) w1 from⟨u,a',c',hu,rfl,h1,HX.o.trans h2⟩);clear hu h1 h2;go_wp2_with fail
 go_ret;exact HQ.o
theorem ac0 (l:List dY) (a:OA) (n c:Nat) {w0:World} (w:World) (hl:eX w0 l a n c) (h0:Ext w0 w) (hn:n<=1000000) :
  Calls Tryz.prog 32 #[.slice a n c] w (aEV [5,6,7,8,9] l w0 w):=by
 have HX:=ak ((Ext.refl w).alloc (.cells #[.int .i64 5,.int .i64 6,.int .i64 7,.int .i64 8,.int .i64 9] 3));have HOF:=ak (aoR l [5,6,7,8,9] a n c (some ⟨w.heap.size,0,none⟩) 5 5 (w.alloc (.cells #[.int .i64 5,.int .i64 6,.int .i64 7,.int .i64 8,.int .i64 9] 3)) hl (h0.trans HX.o) hn (Ll rfl) (by omega));clear hl h0;go_enter Tryz.func32,Tryz.ntmps32
 go_wp2_with fail
 refine HOF.o.mono ?_;rintro r w1 ⟨u,vs,a',c',hu,rfl,h0,h1,h2⟩;have HQ:=ak (show aEV [5,6,7,8,9] l w0 w (.returned (.slice a' u.length c')) w1 from⟨u,vs,a',c',hu,rfl,h0,h1.mono (eG _ (fun y hy=>by have:=HX.o.size;rw[List.mem_range] at hy ⊢;omega)),HX.o.trans h2⟩);clear hu h0 h1 h2;go_wp2_with fail
 go_ret;exact HQ.o
theorem asj (l:List dY) (a:OA) (n c:Nat) (w:World) (hl:eX w l a n c) (hn:n<=1000000) :
  Calls Tryz.prog 32 #[.slice a n c] w (OfQ [5,6,7,8,9] l w) :=
 (ac0 l a n c w hl (Ext.refl w) hn).mono fun _ _ h=>h.of
def PdC (s:List Attr) (l:List dY) (x:dY):Prop:=Pd s l x.cond/\nN (Pd s l) x.jZ/\x.jZ.length<=1000000000000000
theorem az1 {s:List Attr} {l:List dY} {f:ZI} {lo:jH} {m:Nat} (L:List dY) (a:OA) (n c:Nat) (B:Bool) (w:World) (h:DIn w s l f lo m) (hl:eX w L a n c) (hn:n<=1000000) (hp:∀x∈L,PdC s l x) :
  Calls Tryz.prog 28 #[lo.val,.slice a n c,.bool B] w (dN (.bool (L.any fun x=>oK (val s l f) x==B)) w):=by
 have Zp:=ak (fun (k:Nat) (hk:k<L.length) (v:jm) (W:World) (hW:Ext w W) (hc:kR W L[k] v)=>acZ L[k].cond L[k].jZ v.kind v.name v.x v.au v.nu v.cu v.amount W (h.ext hW) (hp _ (aI hk)).1 (hp _ (aI hk)).2.1 (by rw[hc.2.2.2.1];exact(hp _ (aI hk)).2.2) hc.2.2.2.1 hc.2.2.1 hc.2.2.2.2.2.2.1);have HL:=ak hl;have HN:=ak hl.len;clear h hl hp;obtain⟨R,hR⟩:∃R,R=L.any fun x=>oK (val s l f) x==B:=⟨_,rfl⟩
 rw[<-hR];have HR:=ak hR;clear hR;unfold jH.val at *;obtain⟨wa,dW⟩:∃wa,wa=w.alloc (.cells #[.slice lo.sa lo.sn lo.sc,.map (some lo.bm),.slice lo.fa lo.fn lo.fc] 74):=⟨_,rfl⟩
 have fE:=ak (show Ext w wa by rw[dW];exact(Ext.refl _).alloc _);have HA:=ak (show wa.heap[w.heap.size]?=some (.cells #[.slice lo.sa lo.sn lo.sc,.map (some lo.bm),.slice lo.fa lo.fn lo.fc] 74 (0,0)) by rw[dW];exact dG w _);go_enter Tryz.func28,Tryz.ntmps28
 go_upto_region 1 with fail
 rw[<-dW];clear dW;go_wp2_with fail
 go_loopw [11] (fun i wr=>∃k:Nat,i=.int .i64 k/\k<=n/\(∀j (hj:j<L.length),j<k->(oK (val s l f) L[j]==B)=false)/\Ext wa wr) (fun i _=>n - (intOf i).toNat)
 case atStart=>exact⟨0,rfl,Nat.zero_le _,fun _ _ h=>by omega,Ext.refl _⟩
 case round =>
  obtain⟨k,rfl,hk,hne,hx⟩:=hrel;have HE:=ak hne;have HX:=ak hx;clear hne hx;by_cases hlt:k<n
  ·have hkl:k<L.length:=by have:=HN.o;omega
   have t1:=ah ((k:Int)<(n:Int));obtain⟨cb,oZ,v,rfl,jr,hrow⟩:=HL.o.at hkl;obtain⟨c0,c1,c2,c3,c4,c5,c6,c7,c8,c9⟩:=(hrow.mono (fE.o.trans HX.o).sub).ten;have xJ:=ak (fun W (hW:Ext w W)=>Zp.o k hkl v W hW (jr.mono hW.sub));obtain⟨Q,hQ⟩:∃Q,Q=oK (val s l f) L[k]:=⟨_,rfl⟩
   rw[show (val s l f L[k].cond&&!wG (val s l f) L[k].jZ)=Q from hQ.symm] at xJ;have HQ:=ak hQ;obtain⟨wb,hwb⟩:∃wb,wb=wr.alloc (.cells #[.int .i64 v.kind,.string v.name,.int .i64 v.x.op,.string v.x.name,.slice v.x.aw v.x.nw v.x.cw,.int .i64 v.x.lo,.int .i64 v.x.hi,.slice v.x.aa v.x.na v.x.ca,.slice v.au v.nu v.cu,.int .i64 v.amount] 48):=⟨_,rfl⟩
   have HXB:=ak (show Ext wr wb by rw[hwb];exact(Ext.refl _).alloc _);have hb:=(show wb.heap[wr.heap.size]?=some (.cells #[.int .i64 v.kind,.string v.name,.int .i64 v.x.op,.string v.x.name,.slice v.x.aw v.x.nw v.x.cw,.int .i64 v.x.lo,.int .i64 v.x.hi,.slice v.x.aa v.x.na v.x.ca,.slice v.au v.nu v.cu,.int .i64 v.amount] 48 (0,0)) by rw[hwb];exact dG wr _)
   obtain⟨x0,x1,x2,xf⟩:=fZ (HXB.o.blk (HX.o.blk HA.o));obtain⟨f0,f1,f2,f3,f4,f5,f6,f7,f8,f9,ff⟩:=Aa hb;go_upto_region 4 with fail
   rw[<-hwb];clear hwb hb c0 c1 c2 c3 c4 c5 c6 c7 c8 c9 jr hrow hQ;go_wp2_with fail
   refine(xJ.o wb ((fE.o.trans HX.o).trans HXB.o)).mono ?_;rintro e w5 ⟨rfl,hx5⟩;have jY:=ak ((HX.o.trans HXB.o).trans hx5);clear hx5 f0 f1 f2 f3 f4 f5 f6 f7 f8 f9 ff x0 x1 x2 xf;cases hqb:(Q==B)
   ·go_wp2_with fail
    go_roundw
    case rel =>
     refine⟨k+1,by go_num,by omega,?_,jY.o⟩;intro j hj hj2;by_cases hjk:j<k
     ·exact HE.o j hj hjk
     obtain rfl:j=k:=by omega
     rw[<-HQ.o];exact hqb
    case measure=>simp[intOf];omega
   have HH:=ak (show R=true by rw[HR.o];exact List.any_eq_true.2 ⟨_,aI hkl,by rw[<-HQ.o];exact hqb⟩);go_wp2_with fail
   go_ret;exact dL HH.o.symm (fE.o.trans jY.o)
  have t1:=aj ((k:Int)<(n:Int));have HH:=ak (show R=false by
   rw[HR.o,List.any_eq_false];intro x hx;obtain⟨j,hj,rfl⟩:=bM hx;rw[HE.o j hj (by have:=HN.o;omega)];simp)
  go_wp2_with fail
  go_ret;exact dL HH.o.symm (fE.o.trans HX.o)
def avF (d:Dec) (c:dY):Dec :=
 if c.kind=5 then (if d.lim<0\/c.amount<d.lim then { d with lim:=c.amount } else d)
 else if c.kind=6 then { d with Qg:=max d.Qg c.amount }
 else if c.kind=7 then { d with Qd:=max d.Qd c.amount }
 else if c.kind=8 then { d with Pq:=max d.Pq c.amount }
 else if c.kind=9 then { d with avg:=true } else d
def Q8 (d:Dec) (L:List dY):Dec:=L.foldl avF d
theorem aDs (d:Dec) {L:List dY} {k:Nat} (hk:k<L.length):Q8 d (L.take (k+1))=avF (Q8 d (L.take k)) L[k]:=by
 unfold Q8;rw[aU hk,List.foldl_append]
 rfl
def vF:ZI:=[5,6,7,8,9]
theorem aLZ (V:Ex->Bool) (d:Dec) (x:dY):(if (vF.any (·==x.kind)&&oK V x)=true then avF d x else d)=⟨d.ver,VP V d.lim x,uD V 6 d.Qg x,uD V 7 d.Qd x,uD V 8 d.Pq x,d.avg||(x.kind==9&&(oK V x != false))⟩:=by
 unfold VP uD avF vF;obtain⟨kd,nm,c,u,am⟩:=x;obtain⟨a,b,d6,d7,d8,d9⟩:=d;simp only[List.any_cons,List.any_nil,Bool.or_false];generalize oK V ⟨kd,nm,c,u,am⟩=Q;by_cases h5:kd=5
 ·subst h5;cases Q<;>simp<;>(split<;>rfl)
 by_cases h6:kd=6
 ·subst h6;cases Q<;>simp
 by_cases h7:kd=7
 ·subst h7;cases Q<;>simp
 by_cases h8:kd=8
 ·subst h8;cases Q<;>simp
 by_cases h9:kd=9
 ·subst h9;cases Q<;>simp
 have e5:((5:Int)==kd)=false:=by simp;omega
 have e6:((6:Int)==kd)=false:=by simp;omega
 have e7:((7:Int)==kd)=false:=by simp;omega
 have e8:((8:Int)==kd)=false:=by simp;omega
 have e9:((9:Int)==kd)=false:=by simp;omega
 have f5:(kd==5)=false:=by simp;omega
 have f6:(kd==6)=false:=by simp;omega
 have f7:(kd==7)=false:=by simp;omega
 have f8:(kd==8)=false:=by simp;omega
 have f9:(kd==9)=false:=by simp;omega
 simp[e5,e6,e7,e8,e9,f5,f6,f7,f8,f9]
theorem Q7 (V:Ex->Bool):(l:List dY)->(d:Dec)->Q8 d ((wJ vF l).filter (oK V))=⟨d.ver,l.foldl (VP V) d.lim,l.foldl (uD V 6) d.Qg,l.foldl (uD V 7) d.Qd,l.foldl (uD V 8) d.Pq,d.avg||nS V 9 false l⟩
 | [],d=>by cases d;simp[Q8,wJ,nS]
 | x::r,d=>by
  have ih:=Q7 V r (if (vF.any (·==x.kind)&&oK V x)=true then avF d x else d);have e:Q8 d ((wJ vF (x::r)).filter (oK V))=Q8 (if (vF.any (·==x.kind)&&oK V x)=true then avF d x else d) ((wJ vF r).filter (oK V)):=by
   unfold wJ;rw[List.filter_cons];cases vF.any (·==x.kind)
   ·simp
   cases hq:oK V x
   ·simp[hq]
   simp[hq,Q8]
  rw[e,ih,aLZ];simp only[bF,nS,Bool.or_assoc]
theorem Jk (V:Ex->Bool) (k:Int) (neg B:Bool) (hB:B=!neg):(l:List dY)->((wJ [k] l).any fun x=>oK V x==B)=nS V k neg l
 | []=>rfl
 | x::r=>by
  have ih:=Jk V k neg B hB r;rw[nS,<-ih];unfold wJ;rw[List.filter_cons];have e:([k].any (·==x.kind))=(x.kind==k):=by
   simp only[List.any_cons,List.any_nil,Bool.or_false];by_cases h:x.kind=k
   ·rw[h]
   rw[beq_eq_false_iff_ne.2 h,beq_eq_false_iff_ne.2 (fun e=>h e.symm)]
  rw[e];cases x.kind==k
  ·simp
  subst hB;rw[dw rfl,List.any_cons]
  congr 1
  cases oK V x<;>cases neg<;>rfl
theorem Ws {w:World} {B:Nat} {d d':Dec} (i:Nat) (v:Value) (h:w.heap[B]?=some (KA d)) (e:d.cells.setIfInBounds i v=d'.cells):(w.setCell ⟨B,i,none⟩ v).heap[B]?=some (KA d'):=by
 have:=aO w B i _ _ v h;rw[e] at this;exact this
theorem acR (L:List dY) (a:OA) (n c:Nat) (w:World) (hl:eX w L a n c) (hn:n<=1000000) :
  Calls Tryz.prog 34 #[.slice a n c] w (dN (.agg (Q8 ⟨4,-1,0,0,0,false⟩ L).cells) w):=by
 have HL:=ak hl;have HN:=ak hl.len;obtain⟨D0,hD0⟩:∃D0:Dec,D0=⟨4,-1,0,0,0,false⟩:=⟨_,rfl⟩
 rw[<-hD0];obtain⟨R,hR⟩:∃R,R=Q8 D0 L:=⟨_,rfl⟩
 rw[<-hR];have HR:=ak hR;have HD0:=ak hD0;clear hl hR hD0;obtain⟨wa,dW⟩:∃wa,wa=(w.alloc (.cells #[.int .i64 0,.int .i64 0,.int .i64 0,.int .i64 0,.int .i64 0,.bool false] 29)).alloc (.cells #[.int .i64 4,.int .i64 (-1),.int .i64 0,.int .i64 0,.int .i64 0,.bool false] 29):=⟨_,rfl⟩
 have fE:=ak (show Ext w wa by rw[dW];exact((Ext.refl _).alloc _).alloc _);have HA:=ak (show wa.heap[w.heap.size]?=some (KA ⟨0,0,0,0,0,false⟩) by rw[dW];exact dJ (dG w _));have HB:=ak (show wa.heap[w.heap.size+1]?=some (KA D0) by rw[dW,HD0.o];exact eH (by simp));go_enter Tryz.func34,Tryz.ntmps34
 go_upto_region 2 with fail
 rw[<-dW];clear dW;obtain⟨b0,hb0⟩:∃b0,b0=w.heap.size:=⟨_,rfl⟩
 rw[<-hb0] at HA HB ⊢;have hlo:w.heap.size<=b0:=by omega
 clear hb0;go_wp2_with fail
 go_loopw [9] (fun i wr=>∃(k:Nat) (d:Dec),i=.int .i64 k/\k<=n/\d=Q8 D0 (L.take k)/\wr.heap[b0]?=some (KA ⟨0,0,0,0,0,false⟩)/\wr.heap[b0+1]?=some (KA d)/\Ext w wr) (fun i _=>n - (intOf i).toNat)
 case atStart=>exact⟨0,D0,rfl,Nat.zero_le _,rfl,HA.o,HB.o,fE.o⟩
 case round =>
  obtain⟨k,d,rfl,hk,hd,h0,h1,hx⟩:=hrel;have HD:=ak hd;have H0:=ak h0;have H1:=ak h1;have HX:=ak hx;have hlt1:=dH h1;clear hd h0 h1 hx HA HB fE;by_cases hlt:k<n
  ·have hkl:k<L.length:=by have:=HN.o;omega
   have t1:=ah ((k:Int)<(n:Int));obtain⟨cb,oZ,v,rfl,jr,hrow⟩:=HL.o.at hkl;obtain⟨c0,c1,c2,c3,c4,c5,c6,c7,c8,c9⟩:=(hrow.mono HX.o.sub).ten;have HST:=ak (show Q8 D0 (L.take (k+1))=avF d L[k] by rw[aDs D0 hkl,HD.o]);have hvk:v.kind=L[k].kind:=jr.1;have hva:v.amount=L[k].amount:=jr.2.2.2.2.2.2.2;unfold avF at HST;rw[<-hvk,<-hva] at HST;clear jr hrow hvk hva;obtain⟨wb,hwb⟩:∃wb,wb=wr.alloc (.cells #[.int .i64 v.kind,.string v.name,.int .i64 v.x.op,.string v.x.name,.slice v.x.aw v.x.nw v.x.cw,.int .i64 v.x.lo,.int .i64 v.x.hi,.slice v.x.aa v.x.na v.x.ca,.slice v.au v.nu v.cu,.int .i64 v.amount] 48):=⟨_,rfl⟩
   have HXB:=ak (show Ext wr wb by rw[hwb];exact(Ext.refl _).alloc _);have hb:=(show wb.heap[wr.heap.size]?=some (.cells #[.int .i64 v.kind,.string v.name,.int .i64 v.x.op,.string v.x.name,.slice v.x.aw v.x.nw v.x.cw,.int .i64 v.x.lo,.int .i64 v.x.hi,.slice v.x.aa v.x.na v.x.ca,.slice v.au v.nu v.cu,.int .i64 v.amount] 48 (0,0)) by rw[hwb];exact dG wr _)
   obtain⟨f0,f1,f2,f3,f4,f5,f6,f7,f8,f9,ff⟩:=Aa hb;have G0:=ak (HXB.o.blk H0.o);have G1:=ak (HXB.o.blk H1.o);have Dl:=ak (HX.o.trans HXB.o);have g1:=G1.o;unfold KA Dec.cells at g1;obtain⟨d0,d1,d2,d3,d4,d5,df⟩:=gJ g1;go_upto_region 5 with fail
   rw[<-hwb];clear hwb hb c0 c1 c2 c3 c4 c5 c6 c7 c8 c9 g1 H0 H1 HX HXB;by_cases k5:v.kind=5
   ·have q5:(v.kind==5)=true:=by simp[k5]
    rw[dw k5] at HST;clear k5;cases t2:decide (d.lim<0)
    ·cases t3:decide (v.amount<d.lim)
     ·have HQ:=ak (show Q8 D0 (L.take (k+1))=d by rw[HST.o,dh];simp only[bZ] at t2 t3;omega);go_wp2_with fail
      go_roundw
      case rel=>exact⟨k+1,d,by go_num,by omega,HQ.o.symm,G0.o,G1.o,Dl.o⟩
      case measure=>simp[intOf];omega
     have HQ:=ak (show Q8 D0 (L.take (k+1))={ d with lim:=v.amount } by rw[HST.o,dw (Or.inr (of_decide_eq_true t3))]);go_wp2_with fail
     go_roundw
     case rel=>exact⟨k+1,{ d with lim:=v.amount },by go_num,by omega,HQ.o.symm,(show dO [b0+1] wb (wb.setCell ⟨b0+1,1,none⟩ (.int .i64 v.amount)) from(dO.refl _ _).setCell (Or.inl (by simp)) _).blk G0.o (by simp),Ws 1 (.int .i64 v.amount) G1.o rfl,(show dO [b0+1] wb (wb.setCell ⟨b0+1,1,none⟩ (.int .i64 v.amount)) from(dO.refl _ _).setCell (Or.inl (by simp)) _).ext Dl.o (by simp;omega)⟩
     case measure=>simp[intOf];omega
    have HQ:=ak (show Q8 D0 (L.take (k+1))={ d with lim:=v.amount } by rw[HST.o,dw (Or.inl (of_decide_eq_true t2))]);go_wp2_with fail
    go_roundw
    case rel=>exact⟨k+1,{ d with lim:=v.amount },by go_num,by omega,HQ.o.symm,(show dO [b0+1] wb (wb.setCell ⟨b0+1,1,none⟩ (.int .i64 v.amount)) from(dO.refl _ _).setCell (Or.inl (by simp)) _).blk G0.o (by simp),Ws 1 (.int .i64 v.amount) G1.o rfl,(show dO [b0+1] wb (wb.setCell ⟨b0+1,1,none⟩ (.int .i64 v.amount)) from(dO.refl _ _).setCell (Or.inl (by simp)) _).ext Dl.o (by simp;omega)⟩
    case measure=>simp[intOf];omega
   have q5:(v.kind==5)=false:=by simp[k5]
   rw[dh k5] at HST;clear k5;by_cases k6:v.kind=6
   ·have q6:(v.kind==6)=true:=by simp[k6]
    rw[dw k6] at HST;have HQ:=ak (show Q8 D0 (L.take (k+1))={ d with Qg:=max d.Qg v.amount } from HST.o);clear k6;go_wp2_with fail
    go_roundw
    case rel=>exact⟨k+1,{ d with Qg:=max d.Qg v.amount },by go_num,by omega,HQ.o.symm,(show dO [b0+1] wb (wb.setCell ⟨b0+1,2,none⟩ (.int .i64 (max d.Qg v.amount))) from(dO.refl _ _).setCell (Or.inl (by simp)) _).blk G0.o (by simp),Ws 2 (.int .i64 (max d.Qg v.amount)) G1.o rfl,(show dO [b0+1] wb (wb.setCell ⟨b0+1,2,none⟩ (.int .i64 (max d.Qg v.amount))) from(dO.refl _ _).setCell (Or.inl (by simp)) _).ext Dl.o (by simp;omega)⟩
    case measure=>simp[intOf];omega
   have q6:(v.kind==6)=false:=by simp[k6]
   rw[dh k6] at HST;clear k6;by_cases k7:v.kind=7
   ·have q7:(v.kind==7)=true:=by simp[k7]
    rw[dw k7] at HST;have HQ:=ak (show Q8 D0 (L.take (k+1))={ d with Qd:=max d.Qd v.amount } from HST.o);clear k7;go_wp2_with fail
    go_roundw
    case rel=>exact⟨k+1,{ d with Qd:=max d.Qd v.amount },by go_num,by omega,HQ.o.symm,(show dO [b0+1] wb (wb.setCell ⟨b0+1,3,none⟩ (.int .i64 (max d.Qd v.amount))) from(dO.refl _ _).setCell (Or.inl (by simp)) _).blk G0.o (by simp),Ws 3 (.int .i64 (max d.Qd v.amount)) G1.o rfl,(show dO [b0+1] wb (wb.setCell ⟨b0+1,3,none⟩ (.int .i64 (max d.Qd v.amount))) from(dO.refl _ _).setCell (Or.inl (by simp)) _).ext Dl.o (by simp;omega)⟩
    case measure=>simp[intOf];omega
   have q7:(v.kind==7)=false:=by simp[k7]
   rw[dh k7] at HST;clear k7;by_cases k8:v.kind=8
   ·have q8:(v.kind==8)=true:=by simp[k8]
    rw[dw k8] at HST;have HQ:=ak (show Q8 D0 (L.take (k+1))={ d with Pq:=max d.Pq v.amount } from HST.o);clear k8;go_wp2_with fail
    go_roundw
    case rel=>exact⟨k+1,{ d with Pq:=max d.Pq v.amount },by go_num,by omega,HQ.o.symm,(show dO [b0+1] wb (wb.setCell ⟨b0+1,4,none⟩ (.int .i64 (max d.Pq v.amount))) from(dO.refl _ _).setCell (Or.inl (by simp)) _).blk G0.o (by simp),Ws 4 (.int .i64 (max d.Pq v.amount)) G1.o rfl,(show dO [b0+1] wb (wb.setCell ⟨b0+1,4,none⟩ (.int .i64 (max d.Pq v.amount))) from(dO.refl _ _).setCell (Or.inl (by simp)) _).ext Dl.o (by simp;omega)⟩
    case measure=>simp[intOf];omega
   have q8:(v.kind==8)=false:=by simp[k8]
   rw[dh k8] at HST;clear k8;by_cases k9:v.kind=9
   ·have q9:(v.kind==9)=true:=by simp[k9]
    rw[dw k9] at HST;clear k9;go_wp2_with fail
    go_roundw
    case rel=>exact⟨k+1,{ d with avg:=true },by go_num,by omega,HST.o.symm,(show dO [b0+1] wb (wb.setCell ⟨b0+1,5,none⟩ (.bool true)) from(dO.refl _ _).setCell (Or.inl (by simp)) _).blk G0.o (by simp),Ws 5 (.bool true) G1.o rfl,(show dO [b0+1] wb (wb.setCell ⟨b0+1,5,none⟩ (.bool true)) from(dO.refl _ _).setCell (Or.inl (by simp)) _).ext Dl.o (by simp;omega)⟩
    case measure=>simp[intOf];omega
   have q9:(v.kind==9)=false:=by simp[k9]
   rw[dh k9] at HST;clear k9;go_wp2_with fail
   go_roundw
   case rel=>exact⟨k+1,d,by go_num,by omega,HST.o.symm,G0.o,G1.o,Dl.o⟩
   case measure=>simp[intOf];omega
  have t1:=aj ((k:Int)<(n:Int));have HQ:=ak (show R=d by rw[HR.o,HD.o,aY (by have:=HN.o;omega)]);have h1:=H1.o;have h0:=H0.o;unfold KA Dec.cells at h0 h1;obtain⟨d0,d1,d2,d3,d4,d5,df⟩:=gJ h1;obtain⟨z0,z1,z2,z3,z4,z5,zf⟩:=gJ h0;go_wp2_with fail
  obtain⟨w8,hw8⟩:∃w8,w8=jE wr b0 (.int .i64 d.ver) (.int .i64 d.lim) (.int .i64 d.Qg) (.int .i64 d.Qd) (.int .i64 d.Pq) (.bool d.avg):=⟨_,rfl⟩
  have rD:=ak (show Ext w w8 by rw[hw8];exact(iY _ _).ext HX.o (by simp;omega));have h8:w8.heap[b0]?=some (.cells #[.int .i64 d.ver,.int .i64 d.lim,.int .i64 d.Qg,.int .i64 d.Qd,.int .i64 d.Pq,.bool d.avg] 29 (0,0)):=by rw[hw8];exact jv h0
  unfold jE at hw8;rw[<-hw8];clear hw8 z0 z1 z2 z3 z4 z5 zf h0 h1;obtain⟨z0,z1,z2,z3,z4,z5,zf⟩:=gJ h8;refine bodyPost_ret (v:=.agg R.cells) (by rw[HQ.o];simp[results,Tryz.results34,go_sem,Dec.cells,z0,z1,z2,z3,z4,z5]) rfl ?_;exact⟨rfl,rD.o⟩
theorem ai2 {s:List Attr} {l:List dY}:(u:List Wb)->(d:Nat)->pW d u=true->iW s l u=0->iC l u=false->su u->nN (Pd s l) u
 | [],_,_,_,_,_=>by unfold nN;trivial
 | .mk n c u::r,d,h1,h2,h3,h4=>by
  rw[pW] at h1;simp only[aJ] at h1;obtain⟨⟨⟨⟨_,_⟩,g1⟩,g2⟩,g3⟩:=h1;rw[iW] at h2;by_cases k1:fB s l c≠0
  ·rw[dw k1] at h2;exact absurd h2 k1
  rw[dh k1] at h2;by_cases k2:iW s l u≠0
  ·rw[dw k2] at h2;exact absurd h2 k2
  rw[dh k2] at h2;rw[iC] at h3;simp only[Bool.or_eq_false_iff,bZ] at h3;obtain⟨⟨q1,q2⟩,q3⟩:=h3;rw[su] at h4;obtain⟨_,f1,f2,f3,f4,f5,f6⟩:=h4;unfold nN;exact⟨⟨g1,by simpa using k1,by omega,f2,f1,f3⟩,ai2 u (d - 1) g2 (by simpa using k2) q2 f5,f4,ai2 r d g3 h2 q3 f6⟩
theorem ayW {s:List Attr} {l:List dY} (h:(eU s l).2=0) (hok:∀x∈l,x.fit):∀x∈l,PdC s l x:=by
 have hc:=qO h;have hcb:=afE h;unfold eU at h;rw[dh (by simp[hc.DK]),dh (by have:=hc.len;omega)] at h;by_cases h3:(oC (lU s l) l.length).2≠0
 ·rw[dw h3] at h;exact absurd h h3
 rw[dh h3] at h;by_cases h4:¬Sorts (l.map dY.dfn)
 ·rw[dw h4] at h;simp at h
 rw[dh h4] at h;have h1:=nU l.length (by simpa using h3);have h2:=nU l.length h;intro x hx;obtain⟨f1,f2,f3,f4,f5,f6⟩:=hok x hx;obtain⟨_,g2,g3,_,_⟩:=hc.good x hx;have hb:=hcb x hx;have hxp:=hc.exp x hx;obtain⟨i,hi,rfl⟩:=bM hx;have k1:=h1 i hi;have k2:=h2 i hi;unfold lU at k1;unfold mg at k2;rw[vY hi] at k1 k2;rw[dh (by simp[hb])] at k1;by_cases q2:(findAt l l[i].name).getD 0<i
 ·rw[dw q2] at k1;cases k1
 rw[dh q2] at k1;by_cases q3:(iE s l[i].name).isSome
 ·rw[dw q3] at k1;cases k1
 rw[dh q3,dh (by simp[g2])] at k1;by_cases q5:2000<expanded l l[i].cond\/iC l l[i].jZ=true
 ·rw[dw q5] at k2;cases k2
 simp only[not_or] at q5;refine⟨⟨g3,g2,hxp,f3,f2,f4⟩,?_,f5⟩;simp only[jO,aJ,bV,aN,beq_iff_eq] at hb;obtain⟨⟨_,a5⟩,_⟩:=hb;rcases a5 with a5|⟨⟨_,_⟩,b3⟩
 ·rw[aX a5];unfold nN;trivial
 exact ai2 _ _ b3 k1 (by simpa using q5.2) f6
theorem zB {s:List Attr} {l:List dY} {f:ZI} (h:nI s l f=0):(eU s l).2=0/\mJ s f=true:=by
 unfold nI at h;by_cases h1:(eU s l).2≠0
 ·rw[dw h1] at h;exact absurd h h1
 rw[dh h1] at h;cases hf:mJ s f
 ·rw[hf] at h;simp at h
 exact⟨by simpa using h1,rfl⟩
theorem aA6 {ks:ZI} {l:List dY} {x:dY} (h:x∈wJ ks l):x∈l:=(List.mem_filter.1 h).1
noncomputable def qN (s:List Attr) (l:List dY) (f:ZI):Dec:=open Classical in if nI s l f=0 then Y8 (val s l f) l else ⟨0,0,0,0,0,false⟩
noncomputable def alQ (s:List Attr) (l:List dY) (f:ZI):Value:=.tuple #[.agg (qN s l f).cells,.int .i64 (nI s l f)]
theorem ahY {L:List dY} (p:dY->Bool) {k:Nat} (hk:k<L.length):(L.take (k+1)).filter p=if p L[k]=true then (L.take k).filter p++[L[k]] else (L.take k).filter p:=by
 rw[aU hk,List.filter_append,List.filter_cons];cases p L[k]<;>simp
theorem xR (s:List Attr) (l:List dY) (f:ZI) (sv:Value) (a:OA) (n c:Nat) (fa:OA) (fn fc:Nat) (w:World) (hs:fJ w s sv) (hf:∀x∈s,x.fits) (hsl:s.length<=1000000000000000) (hl:eX w l a n c) (hn:n<=1000000) (hok:∀x∈l,x.fit) (hi:fO w f fa fn) (hfn:fn<=1000000000000000) (ho:gG w) :
  Calls Tryz.prog 13 #[sv,.slice a n c,.slice fa fn fc] w (dN (alQ s l f) w):=by
 obtain⟨sa,sn,sc,rfl,hsn⟩:=hs.slice;have vP:=ak (fun W (hW:Ext w W)=>aa4 s l f _ a n c fa fn fc W (hs.ext hW) hf hsl (hl.ext hW) hn hok (hi.ext hW) hfn (ho.ext hW));have HDI:=ak (fun (h0:nI s l f=0) (lv:jH) W (hW:Ext w W) (h:Hz W s l f lv n)=>show DIn W s l f lv n from⟨h,(zB h0).1,(zB h0).2,hf,hok,by have h1:=h.ints.1;have h2:=hi.1;omega,ho.ext hW⟩);have YW:=ak (fun (h0:nI s l f=0)=>ayW (zB h0).1 hok);have HC2:=ak (fun W (hW:Ext w W)=>ac1 l a n c W (hl.ext hW) hn);have ug:=ak (fun W (hW:Ext w W)=>Uh l a n c W (hl.ext hW) hn);have tH:=ak (fun W (hW:Ext w W)=>Ug l a n c W (hl.ext hW) hn);have xq:=ak (fun W (hW:Ext w W)=>asj l a n c W (hl.ext hW) hn);have Bg:=ak (fun (ks:ZI)=>show (wJ ks l).length<=1000000 from bC (aLM ks l) (by rw[<-hl.len];exact hn));obtain⟨V,hV⟩:∃V,V=val s l f:=⟨_,rfl⟩
 obtain⟨E,hE⟩:∃E,E=nI s l f:=⟨_,rfl⟩
 obtain⟨R,hR⟩:∃R,R=qN s l f:=⟨_,rfl⟩
 unfold alQ;rw[<-hR,<-hE];unfold qN at hR;rw[<-hE,<-hV] at hR;unfold aB0 at vP;rw[<-hE] at vP HDI YW;have HAN:=ak (fun (h0:E=0) (lv:jH) (ks:ZI) (a':OA) (c':Nat) (B:Bool) W (hW:Ext w W) (h:Hz W s l f lv n) (hc:eX W (wJ ks l) a' (wJ ks l).length c')=>az1 (wJ ks l) a' _ c' B W (HDI.o h0 lv W hW h) hc (Bg.o ks) (fun x hx=>YW.o h0 x (aA6 hx)));have Zp:=ak (fun (h0:E=0) (lv:jH) (x:dY) (hx:x∈l) (v:jm) W (hW:Ext w W) (h:Hz W s l f lv n) (hc:kR W x v)=>acZ x.cond x.jZ v.kind v.name v.x v.au v.nu v.cu v.amount W (HDI.o h0 lv W hW h) (YW.o h0 x hx).1 (YW.o h0 x hx).2.1 (by rw[hc.2.2.2.1];exact(YW.o h0 x hx).2.2) hc.2.2.2.1 hc.2.2.1 hc.2.2.2.2.2.2.1);rw[<-hV] at HAN Zp;have HRZ:=ak (show E≠0->R=⟨0,0,0,0,0,false⟩ from fun h=>by rw[hR,dh h]);have HRV:=ak (show E=0->R=Y8 V l from fun h=>by rw[hR,dw h]);clear hs hf hsl hl hn hok hi hfn ho hsn hV hE hR HDI YW;obtain⟨wa,dW⟩:∃wa,wa=(w.alloc (.cells #[.slice sa sn sc] 24)).alloc (.cells #[.int .i64 0,.int .i64 0,.int .i64 0,.int .i64 0,.int .i64 0,.bool false] 29):=⟨_,rfl⟩
 have fE:=ak (show Ext w wa by rw[dW];exact((Ext.refl _).alloc _).alloc _);have HA:=ak (show wa.heap[w.heap.size+1]?=some (KA ⟨0,0,0,0,0,false⟩) by rw[dW];exact eH (by simp));obtain⟨s0,sf⟩:=gQ (show wa.heap[w.heap.size]?=some (.cells #[.slice sa sn sc] 24 (0,0)) by rw[dW];exact dJ (dG w _));go_enter Tryz.func13,Tryz.ntmps13
 go_upto_region 1 with fail
 rw[<-dW];clear dW;obtain⟨bd,hbd⟩:∃bd,bd=w.heap.size+1:=⟨_,rfl⟩
 rw[<-hbd] at HA ⊢;have hlo:w.heap.size<=bd:=by omega
 clear hbd;go_wp2_with fail
 refine(vP.o wa fE.o).mono ?_;rintro r w1 ⟨hx1,hr⟩;have fQ:=ak (fE.o.trans hx1);have HB:=ak (hx1.blk HA.o);clear hx1 HA fE vP s0 sf;rcases hr with ⟨h1,rfl⟩|⟨h1,lo,rfl,hlo1⟩
 ·have t1:(E != 0)=true:=by simp[h1]
  have HQ:=ak (HRZ.o h1);obtain⟨w2,hw2⟩:∃w2,w2=w1.alloc (.cells #[.slice none 0 0,.map none,.slice none 0 0] 74):=⟨_,rfl⟩
  have gI:=ak (show Ext w w2 by rw[hw2];exact fQ.o.alloc _);have HB2:=ak (show w2.heap[bd]?=some (KA ⟨0,0,0,0,0,false⟩) by rw[hw2];exact dJ HB.o);unfold uz;clear h1;go_upto_region 2 with fail
  rw[<-hw2];clear hw2 fQ HB;have hz:=HB2.o;unfold KA Dec.cells at hz;obtain⟨z0,z1,z2,z3,z4,z5,zf⟩:=gJ hz;dsimp only at z0 z1 z2 z3 z4 z5;go_wp2_with fail
  obtain⟨w8,hw8⟩:∃w8,w8=jE w2 bd (.int .i64 0) (.int .i64 0) (.int .i64 0) (.int .i64 0) (.int .i64 0) (.bool false):=⟨_,rfl⟩
  have rD:=ak (show Ext w w8 by rw[hw8];exact(iY _ _).ext gI.o (by simp;omega));have h8:w8.heap[bd]?=some (.cells #[.int .i64 0,.int .i64 0,.int .i64 0,.int .i64 0,.int .i64 0,.bool false] 29 (0,0)):=by rw[hw8];exact jv hz
  unfold jE at hw8;rw[<-hw8];clear hw8 z0 z1 z2 z3 z4 z5 zf hz;obtain⟨z0,z1,z2,z3,z4,z5,zf⟩:=gJ h8;refine bodyPost_ret (v:=.tuple #[.agg R.cells,.int .i64 E]) (by rw[HQ.o];simp[results,Tryz.results13,go_sem,Dec.cells,z0,z1,z2,z3,z4,z5]) rfl ?_;exact⟨rfl,rD.o⟩
 have HE0:=ak h1;have HLO:=ak hlo1;have aNg:=ak (HRV.o h1);subst h1;clear hlo1 HRZ HRV;have HA2:=ak (fun (ks:ZI) (B:Bool) (a':OA) (c':Nat) W (hW:Ext w1 W) hc=>HAN.o rfl lo ks a' c' B W (fQ.o.trans hW) (HLO.o.ext hW) hc);have HP2:=ak (fun (x:dY) (hx:x∈l) (v:jm) W (hW:Ext w1 W) hc=>Zp.o rfl lo x hx v W (fQ.o.trans hW) (HLO.o.ext hW) hc);have S2:=ak (Jk V 2 false true rfl l);have S4:=ak (Jk V 4 true false rfl l);have S3:=ak (Jk V 3 false true rfl l);obtain⟨L2,hL2⟩:∃L2,L2=wJ [2] l:=⟨_,rfl⟩
 obtain⟨L3,hL3⟩:∃L3,L3=wJ [3] l:=⟨_,rfl⟩
 obtain⟨L4,hL4⟩:∃L4,L4=wJ [4] l:=⟨_,rfl⟩
 have HN2:=ak (HA2.o [2] true);have HN3:=ak (HA2.o [3] true);have HN4:=ak (HA2.o [4] false);rw[<-hL2] at S2 HN2;rw[<-hL3] at S3 HN3;rw[<-hL4] at S4 HN4;obtain⟨Q2,hQ2⟩:∃Q2,Q2=nS V 2 false l:=⟨_,rfl⟩
 obtain⟨Q3,hQ3⟩:∃Q3,Q3=nS V 3 false l:=⟨_,rfl⟩
 obtain⟨Q4,hQ4⟩:∃Q4,Q4=nS V 4 true l:=⟨_,rfl⟩
 rw[S2.o,<-hQ2] at HN2;rw[S3.o,<-hQ3] at HN3;rw[S4.o,<-hQ4] at HN4;have HT:=ak (Q7 V l ⟨4,-1,0,0,0,false⟩);have HVD:=ak (show R=if Q2=false then ⟨1,0,0,0,0,false⟩ else if Q4=true then ⟨2,0,0,0,0,false⟩ else if Q3=true then ⟨3,0,0,0,0,false⟩ else Q8 ⟨4,-1,0,0,0,false⟩ ((wJ vF l).filter (oK V)) by
  rw[aNg.o,HT.o,hQ2,hQ3,hQ4,Bool.false_or];rfl)
 unfold OfQ at HC2 tH ug;have Zn:=ak (fun W (hW:Ext w W)=>(HC2.o W hW).mono (fun r w' (hq:∃u a c,u=wJ [2] l/\r=.returned (.slice a u.length c)/\eX w' u a u.length c/\Ext W w')=>show ∃x:OA×Nat,r=.returned (.slice x.1 L2.length x.2)/\eX w' L2 x.1 L2.length x.2/\Ext W w' by obtain⟨u,a,c,rfl,q2,q3,q4⟩:=hq;rw[<-hL2] at q2 q3;exact⟨(a,c),q2,q3,q4⟩));have HM3:=ak (fun W (hW:Ext w W)=>(tH.o W hW).mono (fun r w' (hq:∃u a c,u=wJ [3] l/\r=.returned (.slice a u.length c)/\eX w' u a u.length c/\Ext W w')=>show ∃x:OA×Nat,r=.returned (.slice x.1 L3.length x.2)/\eX w' L3 x.1 L3.length x.2/\Ext W w' by obtain⟨u,a,c,rfl,q2,q3,q4⟩:=hq;rw[<-hL3] at q2 q3;exact⟨(a,c),q2,q3,q4⟩));have HM4:=ak (fun W (hW:Ext w W)=>(ug.o W hW).mono (fun r w' (hq:∃u a c,u=wJ [4] l/\r=.returned (.slice a u.length c)/\eX w' u a u.length c/\Ext W w')=>show ∃x:OA×Nat,r=.returned (.slice x.1 L4.length x.2)/\eX w' L4 x.1 L4.length x.2/\Ext W w' by obtain⟨u,a,c,rfl,q2,q3,q4⟩:=hq;rw[<-hL4] at q2 q3;exact⟨(a,c),q2,q3,q4⟩));clear hL2 hL3 hL4 hQ2 hQ3 hQ4 S2 S3 S4 HT aNg HC2 tH ug HAN Zp HA2 HE0;unfold jH.val at *;obtain⟨w2,hw2⟩:∃w2,w2=w1.alloc (.cells #[.slice lo.sa lo.sn lo.sc,.map (some lo.bm),.slice lo.fa lo.fn lo.fc] 74):=⟨_,rfl⟩
 have xW:=ak (show Ext w1 w2 by rw[hw2];exact(Ext.refl _).alloc _);have HB2:=ak (xW.o.blk HB.o);have HL2:=ak (show w2.heap[w1.heap.size]?=some (.cells #[.slice lo.sa lo.sn lo.sc,.map (some lo.bm),.slice lo.fa lo.fn lo.fc] 74 (0,0)) by rw[hw2];exact dG w1 _);go_upto_region 4 with fail
 rw[<-hw2];clear hw2 HB;obtain⟨bl,hbl⟩:∃bl,bl=w1.heap.size:=⟨_,rfl⟩
 rw[<-hbl] at HL2 ⊢;clear hbl;obtain⟨x0,x1,x2,xf⟩:=fZ HL2.o;have C0:=dI x0;have C1:=dI x1;have C2:=dI x2;refine rC 5 ?_
 repeat (refine dQ ?_;intro K hK;go_big_quiet_op;go_big_quiet_on)
 refine je (γ:=OA×Nat) (fun x=>.slice x.1 L2.length x.2) (fun x W=>eX W L2 x.1 L2.length x.2) (fun W hW _ _=>?_) (fun x W W' hx h=>h.ext hx) ?_ ⟨(none,0)⟩
 ·unfold dF;go_simp;refine(Zn.o W ((fQ.o.trans xW.o).trans hW)).mono ?_;rintro r w9 ⟨x,rfl,h1,h2⟩;exact⟨_,rfl,h2,x,rfl,h1⟩
 rintro⟨xa,xc⟩ K hK;go_simp;go_big_quiet_on
 repeat (refine dQ ?_;intro K hK;go_big_quiet_op;go_big_quiet_on)
 refine lS (.bool Q2) (fun _=>True) (fun W hW hu _=>?_) (fun _ _ _ h=>h) ?_
 ·unfold dF;go_simp;refine(HN2.o xa xc W (xW.o.trans hW) hu).mono ?_;rintro r w9 ⟨rfl,Ae⟩;exact⟨_,rfl,Ae,rfl,trivial⟩
 intro K hK;go_simp;go_big_quiet_on
 repeat (refine dQ ?_;intro K hK;go_big_quiet_op;go_big_quiet_on)
 refine lH fun w3 hx _ _=>?_
 have RX:=ak (xW.o.trans hx);have HB3:=ak (hx.blk HB2.o);have HL3:=ak (hx.blk HL2.o);have a1E:=ak (fQ.o.trans RX.o);clear hx x0 x1 x2 xf C0 C1 C2 HB2 HL2 xW Zn HN2;cases Q2
 case false =>
  have HQ:=ak (show R=⟨1,0,0,0,0,false⟩ by rw[HVD.o];simp);have hz:=HB3.o;unfold KA Dec.cells at hz;obtain⟨z0,z1,z2,z3,z4,z5,zf⟩:=gJ hz;dsimp only at z0 z1 z2 z3 z4 z5;go_wp2_with fail
  obtain⟨w8,hw8⟩:∃w8,w8=jE w3 bd (.int .i64 1) (.int .i64 0) (.int .i64 0) (.int .i64 0) (.int .i64 0) (.bool false):=⟨_,rfl⟩
  have rD:=ak (show Ext w w8 by rw[hw8];exact(iY _ _).ext a1E.o (by simp;omega));have h8:w8.heap[bd]?=some (.cells #[.int .i64 1,.int .i64 0,.int .i64 0,.int .i64 0,.int .i64 0,.bool false] 29 (0,0)):=by rw[hw8];exact jv hz
  unfold jE at hw8;rw[<-hw8];clear hw8 z0 z1 z2 z3 z4 z5 zf hz;obtain⟨z0,z1,z2,z3,z4,z5,zf⟩:=gJ h8;refine bodyPost_ret (v:=.tuple #[.agg R.cells,.int .i64 0]) (by rw[HQ.o];simp[results,Tryz.results13,go_sem,Dec.cells,z0,z1,z2,z3,z4,z5]) rfl ?_;exact⟨rfl,rD.o⟩
 go_wp2_with fail
 obtain⟨x0,x1,x2,xf⟩:=fZ HL3.o;have C0:=dI x0;have C1:=dI x1;have C2:=dI x2;refine rC 4 ?_
 repeat (refine dQ ?_;intro K hK;go_big_quiet_op;go_big_quiet_on)
 refine je (γ:=OA×Nat) (fun x=>.slice x.1 L4.length x.2) (fun x W=>eX W L4 x.1 L4.length x.2) (fun W hW _ _=>?_) (fun x W W' hx h=>h.ext hx) ?_ ⟨(none,0)⟩
 ·unfold dF;go_simp;refine(HM4.o W ((fQ.o.trans RX.o).trans hW)).mono ?_;rintro r w9 ⟨x,rfl,h1,h2⟩;exact⟨_,rfl,h2,x,rfl,h1⟩
 rintro⟨xa,xc⟩ K hK;go_simp;go_big_quiet_on
 repeat (refine dQ ?_;intro K hK;go_big_quiet_op;go_big_quiet_on)
 refine lS (.bool Q4) (fun _=>True) (fun W hW hu _=>?_) (fun _ _ _ h=>h) ?_
 ·unfold dF;go_simp;refine(HN4.o xa xc W (RX.o.trans hW) hu).mono ?_;rintro r w9 ⟨rfl,Ae⟩;exact⟨_,rfl,Ae,rfl,trivial⟩
 intro K hK;go_simp;go_big_quiet_on
 repeat (refine dQ ?_;intro K hK;go_big_quiet_op;go_big_quiet_on)
 refine lH fun w4 hx _ _=>?_
 have Gz:=ak (RX.o.trans hx);have HB4:=ak (hx.blk HB3.o);have HL4:=ak (hx.blk HL3.o);have aEY:=ak (fQ.o.trans Gz.o);clear hx x0 x1 x2 xf C0 C1 C2 HB3 HL3 RX HM4 HN4;cases Q4
 case true =>
  have HQ:=ak (show R=⟨2,0,0,0,0,false⟩ by rw[HVD.o];simp);have hz:=HB4.o;unfold KA Dec.cells at hz;obtain⟨z0,z1,z2,z3,z4,z5,zf⟩:=gJ hz;dsimp only at z0 z1 z2 z3 z4 z5;go_wp2_with fail
  obtain⟨w8,hw8⟩:∃w8,w8=jE w4 bd (.int .i64 2) (.int .i64 0) (.int .i64 0) (.int .i64 0) (.int .i64 0) (.bool false):=⟨_,rfl⟩
  have rD:=ak (show Ext w w8 by rw[hw8];exact(iY _ _).ext aEY.o (by simp;omega));have h8:w8.heap[bd]?=some (.cells #[.int .i64 2,.int .i64 0,.int .i64 0,.int .i64 0,.int .i64 0,.bool false] 29 (0,0)):=by rw[hw8];exact jv hz
  unfold jE at hw8;rw[<-hw8];clear hw8 z0 z1 z2 z3 z4 z5 zf hz;obtain⟨z0,z1,z2,z3,z4,z5,zf⟩:=gJ h8;refine bodyPost_ret (v:=.tuple #[.agg R.cells,.int .i64 0]) (by rw[HQ.o];simp[results,Tryz.results13,go_sem,Dec.cells,z0,z1,z2,z3,z4,z5]) rfl ?_;exact⟨rfl,rD.o⟩
 go_wp2_with fail
 obtain⟨x0,x1,x2,xf⟩:=fZ HL4.o;have C0:=dI x0;have C1:=dI x1;have C2:=dI x2;refine rC 4 ?_
 repeat (refine dQ ?_;intro K hK;go_big_quiet_op;go_big_quiet_on)
 refine je (γ:=OA×Nat) (fun x=>.slice x.1 L3.length x.2) (fun x W=>eX W L3 x.1 L3.length x.2) (fun W hW _ _=>?_) (fun x W W' hx h=>h.ext hx) ?_ ⟨(none,0)⟩
 ·unfold dF;go_simp;refine(HM3.o W ((fQ.o.trans Gz.o).trans hW)).mono ?_;rintro r w9 ⟨x,rfl,h1,h2⟩;exact⟨_,rfl,h2,x,rfl,h1⟩
 rintro⟨xa,xc⟩ K hK;go_simp;go_big_quiet_on
 repeat (refine dQ ?_;intro K hK;go_big_quiet_op;go_big_quiet_on)
 refine lS (.bool Q3) (fun _=>True) (fun W hW hu _=>?_) (fun _ _ _ h=>h) ?_
 ·unfold dF;go_simp;refine(HN3.o xa xc W (Gz.o.trans hW) hu).mono ?_;rintro r w9 ⟨rfl,Ae⟩;exact⟨_,rfl,Ae,rfl,trivial⟩
 intro K hK;go_simp;go_big_quiet_on
 repeat (refine dQ ?_;intro K hK;go_big_quiet_op;go_big_quiet_on)
 refine lH fun w5 hx _ _=>?_
 have ahc:=ak (Gz.o.trans hx);have Cj:=ak (hx.blk HB4.o);have HL5:=ak (hx.blk HL4.o);have aNc:=ak (fQ.o.trans ahc.o);clear hx x0 x1 x2 xf C0 C1 C2 HB4 HL4 Gz HM3 HN3;cases Q3
 case true =>
  have HQ:=ak (show R=⟨3,0,0,0,0,false⟩ by rw[HVD.o];simp);have hz:=Cj.o;unfold KA Dec.cells at hz;obtain⟨z0,z1,z2,z3,z4,z5,zf⟩:=gJ hz;dsimp only at z0 z1 z2 z3 z4 z5;go_wp2_with fail
  obtain⟨w8,hw8⟩:∃w8,w8=jE w5 bd (.int .i64 3) (.int .i64 0) (.int .i64 0) (.int .i64 0) (.int .i64 0) (.bool false):=⟨_,rfl⟩
  have rD:=ak (show Ext w w8 by rw[hw8];exact(iY _ _).ext aNc.o (by simp;omega));have h8:w8.heap[bd]?=some (.cells #[.int .i64 3,.int .i64 0,.int .i64 0,.int .i64 0,.int .i64 0,.bool false] 29 (0,0)):=by rw[hw8];exact jv hz
  unfold jE at hw8;rw[<-hw8];clear hw8 z0 z1 z2 z3 z4 z5 zf hz;obtain⟨z0,z1,z2,z3,z4,z5,zf⟩:=gJ h8;refine bodyPost_ret (v:=.tuple #[.agg R.cells,.int .i64 0]) (by rw[HQ.o];simp[results,Tryz.results13,go_sem,Dec.cells,z0,z1,z2,z3,z4,z5]) rfl ?_;exact⟨rfl,rD.o⟩
 go_wp2_with fail
 have HQ:=ak (show R=Q8 ⟨4,-1,0,0,0,false⟩ ((wJ vF l).filter (oK V)) by rw[HVD.o];simp);have HKT:=ak (Bg.o vF);have HMT:=ak (fun x (hx:x∈wJ vF l)=>HP2.o x (aA6 hx));refine(xq.o w5 aNc.o).mono ?_;rintro r w6 ⟨u,ta,tc,hu,rfl,hcl,hx6⟩;have hu':u=wJ vF l:=hu;rw[<-hu'] at HQ HKT HMT;have a1D:=ak (aNc.o.trans hx6);have ahb:=ak (ahc.o.trans hx6);have nM:=ak (hx6.blk Cj.o);have HL6:=ak (hx6.blk HL5.o);have vS:=ak hcl;obtain⟨m,hm⟩:∃m,m=u.length:=⟨_,rfl⟩
 have HM:=ak hm;rw[<-hm] at HKT vS ⊢;have hm6:=HKT.o;clear hu hu' hcl hx6 hm xq HP2 HVD Bg Cj HL5 aNc ahc;go_wp2_with fail
 go_loopw [10,43] (fun lv i wr=>∃(k:Nat) (vs:List jm) (q:List dY),i=.int .i64 k/\k<=m/\q=(u.take k).filter (oK V)/\q.length<=k/\Dp w6 q vs/\wr.ownsRow w6.heap.size 48 10 lv q.length (vs.flatMap jm.cells)/\Ext w6 wr) (fun _ i _=>m - (intOf i).toNat)
 case atStart=>exact⟨0,[],[],rfl,by omega,rfl,by simp,⟨rfl,fun i h=>by simp at h⟩,World.ownsRow_nil _ _ _ _,Ext.refl _⟩
 case round =>
  obtain⟨k,vs,q,rfl,hkn2,hq,hql,hcr,hown,hx⟩:=hrel;obtain⟨la,lc,hlv⟩:=pJ hown;subst hlv;have HU:=ak hq;have Fe:=ak hcr;have HOWN:=ak hown;have HX:=ak hx;clear hq hcr hown hx;by_cases hlt:k<m
  ·have hkl:k<u.length:=by have:=HM.o;omega
   have t1:=ah ((k:Int)<(m:Int));obtain⟨cb,oZ,v,rfl,jr,hrow⟩:=vS.o.at hkl;obtain⟨c0,c1,c2,c3,c4,c5,c6,c7,c8,c9⟩:=(hrow.mono HX.o.sub).ten;have GI:=ak jr;have xJ:=ak (fun W (hW:Ext w6 W)=>HMT.o u[k] (aI hkl) v W (ahb.o.trans hW) (jr.mono hW.sub));have HST:=ak (ahY (oK V) hkl);obtain⟨T,hT⟩:∃T,T=oK V u[k]:=⟨_,rfl⟩
   rw[show (V u[k].cond&&!wG V u[k].jZ)=T from hT.symm] at xJ;rw[<-hT,<-HU.o] at HST;clear jr hrow hT;obtain⟨wb,hwb⟩:∃wb,wb=wr.alloc (.cells #[.int .i64 v.kind,.string v.name,.int .i64 v.x.op,.string v.x.name,.slice v.x.aw v.x.nw v.x.cw,.int .i64 v.x.lo,.int .i64 v.x.hi,.slice v.x.aa v.x.na v.x.ca,.slice v.au v.nu v.cu,.int .i64 v.amount] 48):=⟨_,rfl⟩
   have HXB:=ak (show Ext wr wb by rw[hwb];exact(Ext.refl _).alloc _);have Fp:=ak (show wb.heap[wr.heap.size]?=some (.cells #[.int .i64 v.kind,.string v.name,.int .i64 v.x.op,.string v.x.name,.slice v.x.aw v.x.nw v.x.cw,.int .i64 v.x.lo,.int .i64 v.x.hi,.slice v.x.aa v.x.na v.x.ca,.slice v.au v.nu v.cu,.int .i64 v.amount] 48 (0,0)) by rw[hwb];exact dG wr _);obtain⟨f0,f1,f2,f3,f4,f5,f6,f7,f8,f9,ff⟩:=Aa Fp.o;obtain⟨x0,x1,x2,xf⟩:=fZ ((HX.o.trans HXB.o).blk HL6.o);go_upto_region 14 with fail
   rw[<-hwb];clear hwb c0 c1 c2 c3 c4 c5 c6 c7 c8 c9;go_wp2_with fail
   refine(xJ.o wb (HX.o.trans HXB.o)).mono ?_;rintro e w9 ⟨rfl,Ae⟩;have Ai:=ak (HXB.o.trans Ae);have a3Y:=ak (Ae.blk Fp.o);have hsb:w6.heap.size<=w9.heap.size:=bC HX.o.size Ai.o.size;clear Ae f0 f1 f2 f3 f4 f5 f6 f7 f8 f9 ff x0 x1 x2 xf Fp HXB;cases T
   case false =>
    go_wp2_with fail
    go_roundw
    case rel=>exact⟨k+1,vs,q,by go_num,by omega,by rw[HST.o];rfl,by omega,Fe.o,eF HOWN.o (Ai.o.fH []) (by simp),HX.o.trans Ai.o⟩
    case measure=>simp[intOf];omega
   case true =>
    have Ad:=ak (eF HOWN.o (Ai.o.fH []) (by simp));obtain⟨f0,f1,f2,f3,f4,f5,f6,f7,f8,f9,ff⟩:=Aa a3Y.o;go_wp2_with (at_builtin;refine fK sQ rfl _ _ rfl w6.heap.size _ q.length _ rfl Ad.o _ 1 1 rfl ?f0 rfl ?f1 ?f2 ?f3 ?f4 ?_)
    case f0=>simp
    case f1=>simp[Value.oneCell']
    case f2=>unfold maxLen;omega
    case f3=>omega
    case f4=>omega
    intro v8 w8 ig hc8 hw8;have GK:=ak ig;have rD:=ak (hc8.ext (HX.o.trans Ai.o) fun q hq=>(Ad.o.lt q (dK.1 hq)).1);clear ig hc8 hw8 f0 f1 f2 f3 f4 f5 f6 f7 f8 f9 ff;go_wp2_with fail
    go_roundw
    case rel=>exact⟨k+1,vs++[v],q++[u[k]],by go_num,by omega,by rw[HST.o];rfl,by simp;omega,Fe.o.snoc GI.o,by simpa[jm.cells] using GK.o,rD.o⟩
    case measure=>simp[intOf];omega
  have t1:=aj ((k:Int)<(m:Int));have HQ2:=ak (show R=Q8 ⟨4,-1,0,0,0,false⟩ q by rw[HQ.o,HU.o,aY (by have:=HM.o;omega)]);have hcl:=Dz (M:=[]) HOWN.o (by simp) (Fe.o.mono (HX.o.sub.trans (Iw _)));obtain⟨a',c',hv,hcl⟩:=hcl;simp only[Value.slice.injEq,true_and] at hv;obtain⟨rfl,rfl⟩:=hv;have as6:=ak (acR q la q.length lc wr (hcl.mono (dU _ _)) (by omega));rw[<-HQ2.o] at as6;have DJ:=ak (HX.o.blk nM.o);clear hcl;obtain⟨r1,r2,r3,r4,r5,r6⟩:=R;unfold Dec.cells at as6;go_wp2_with fail
  refine as6.o.mono ?_;rintro e w7 ⟨rfl,hx7⟩;have xH:=ak ((a1D.o.trans HX.o).trans hx7);have NK:=ak (hx7.blk DJ.o);clear hx7;have hz:=NK.o;unfold KA Dec.cells at hz;obtain⟨z0,z1,z2,z3,z4,z5,zf⟩:=gJ hz;dsimp only at z0 z1 z2 z3 z4 z5;go_wp2_with fail
  obtain⟨w8,hw8⟩:∃w8,w8=jE w7 bd (.int .i64 r1) (.int .i64 r2) (.int .i64 r3) (.int .i64 r4) (.int .i64 r5) (.bool r6):=⟨_,rfl⟩
  have rD:=ak (show Ext w w8 by rw[hw8];exact(iY _ _).ext xH.o (by simp;omega));have h8:w8.heap[bd]?=some (.cells #[.int .i64 r1,.int .i64 r2,.int .i64 r3,.int .i64 r4,.int .i64 r5,.bool r6] 29 (0,0)):=by rw[hw8];exact jv hz
  unfold jE at hw8;rw[<-hw8];clear hw8 z0 z1 z2 z3 z4 z5 zf hz;obtain⟨z0,z1,z2,z3,z4,z5,zf⟩:=gJ h8;refine bodyPost_ret (v:=.tuple #[.agg #[.int .i64 r1,.int .i64 r2,.int .i64 r3,.int .i64 r4,.int .i64 r5,.bool r6],.int .i64 0]) (by simp[results,Tryz.results13,go_sem,z0,z1,z2,z3,z4,z5]) rfl ?_;exact⟨rfl,rD.o⟩
open Go.RowKit
structure W12 where
 sa:OA
 sn:Nat
 sc:Nat
 la:OA
 ln:Nat
 lc:Nat
 fa:OA
 fn:Nat
 fc:Nat
def W12.val (v:W12):Value:=.agg #[.slice v.sa v.sn v.sc,.slice v.la v.ln v.lc,.slice v.fa v.fn v.fc]
structure Ac (w:World) (s:List Attr) (l:List dY) (f:ZI) (v:W12):Prop where
 mem:s∈jw
 DK:fJ w s (.agg #[.slice v.sa v.sn v.sc])
 FY:eX w l v.la v.ln v.lc
 anB:aiI s pcd l
 len:l.length<=10
 one:1<=l.length
 facts:jq s f=true
 ints:fO w f v.fa v.fn
theorem Ac.mono {w w':World} {s:List Attr} {l:List dY} {f:ZI} {v:W12} (h:Ac w s l f v) (hs:Sub w w'):Ac w' s l f v :=
 ⟨h.mem,h.DK.mono hs,h.FY.mono hs,h.anB,h.len,h.one,h.facts,h.ints.mono hs⟩
theorem alj {c:dY} (h:abn c) (hn:c.name.size<=1000):c.fit:=by
 obtain⟨g1,g2,g3,g4,g5,g6⟩:=h;have hl:=wI c.jZ;exact⟨by omega,g1,g2,kT _ (by omega),by omega,BG _ g5 (by omega)⟩
theorem Ac.Ja {w:World} {s:List Attr} {l:List dY} {f:ZI} {v:W12} (h:Ac w s l f v):∀c∈l,c.fit:=fun c hc=>alj (h.anB.1 c hc).1 (by have:=(h.anB.1 c hc).2;have h3:pcd.size=2:=rfl;omega)
theorem akn {w:World} {b i:Nat} {cs:Array Value} {t:TypeId} (h:w.heap[b]?=some (.cells cs t (0,0))) (v:Value):(w.setCell ⟨b,i,none⟩ v).heap[b]?=some (.cells (cs.setIfInBounds i v) t (0,0)):=Go.heap_setCell_same w b i cs t v h
theorem akr (w:World) (b i:Nat) (v:Value):dO [b] w (w.setCell ⟨b,i,none⟩ v):=(dO.refl _ w).setCell (Or.inl (by simp)) _
theorem acO {W W':World} {K N:ZN} (h:dO K W W') (hk:∀y∈K,y∈N):Sub (mask W N) (mask W' N):=fA h fun y hy=>Or.inl (hk y hy)
def aM9 (w:World) (e:Ending) (w':World):Prop:=∃s l f v bd,e=.returned (.tuple #[W12.val v,.pointer (some ⟨bd,0,none⟩)])/\Ac (mask w' [bd]) s l f v/\dS w w' bd/\Ext w w'
theorem FM (da:OA) (dn dc:Nat) (w0:World) (h:gB w0 da dn) (hdl:dn<=1000000000000000):Calls Tryz.prog 15 #[.slice da dn dc] w0 (aM9 w0):=by
 have HI:=ak h;clear h;obtain⟨rb,hrb⟩:∃rb,rb=w0.heap.size:=⟨_,rfl⟩
 obtain⟨wa,dW⟩:∃wa,wa=w0.alloc (.cells #[.slice none 0 0,.slice none 0 0,.slice none 0 0] 34):=⟨_,rfl⟩
 have fE:=ak (show Ext w0 wa by rw[dW];exact(Ext.refl _).alloc _);have HRA:=ak (show wa.heap[rb]?=some (.cells #[.slice none 0 0,.slice none 0 0,.slice none 0 0] 34 (0,0)) by rw[dW,hrb];exact dG w0 _);have HRE:=ak hrb;go_enter Tryz.func15,Tryz.ntmps15
 go_upto_region 1 with fail
 rw[<-dW,<-hrb];clear dW hrb;go_wp2_with fail
 refine(sU da dn dc w0 wa HI.o fE.o hdl).mono ?_;rintro e w1 ⟨bd,rfl,hd1,hx1,hbl⟩;go_upto_region 3 with fail
 obtain⟨bw,hbw⟩:∃bw,bw=w1.heap.size:=⟨_,rfl⟩
 obtain⟨w2,hw2⟩:∃w2,w2=w1.alloc (.cells #[.slice none 0 0,.slice none 0 0,.slice none 0 0] 34):=⟨_,rfl⟩
 have hx2:Ext w1 w2:=by rw[hw2];exact(Ext.refl _).alloc _
 have HW2:=ak (show w2.heap[bw]?=some (.cells #[.slice none 0 0,.slice none 0 0,.slice none 0 0] 34 (0,0)) by rw[hw2,hbw];exact dG w1 _);have nH:=ak (show rb<bd/\bd<bw/\w0.heap.size<=rb by have:=dH HRA.o;have:=hd1.lt;have:=HRE.o;omega);rw[<-hw2,<-hbw];clear hw2 hbw;have HD2:=ak (hd1.ext hx2);have HR2:=ak (hx2.blk (hx1.blk HRA.o));clear hd1 hx1 hx2 hbl fE HRA HRE;go_wp2_with fail
 refine(fF HD2.o 6 (by omega) (by omega)).mono ?_;rintro e w3 ⟨z,rfl,hz0,hz1,hd3,hc3⟩;have HLB:=ak (show ∀y∈[bd,bw,rb],y<w3.heap.size from fun y hy=>by
  have h1:=dH HW2.o;have h2:=nH.o;have h3:=hc3.size;simp only[bK,bQ,or_false] at hy;rcases hy with rfl|rfl|rfl<;>omega)
 have HD3:=ak hd3;have HW3:=ak (hc3.blk HW2.o (by have:=nH.o;simp;omega));have HR3:=ak (hc3.blk HR2.o (by have:=nH.o;simp;omega));clear hd3 hc3 HD2 HW2 HR2;go_wp2_with fail
 refine(BL z [bd,bw,rb] w3 HLB.o).mono ?_;rintro e w4 ⟨attrs,v,rfl,hat,Gv,hx4⟩;obtain⟨sa,sn,sc,rfl,hsn⟩:=Gv.slice;have HAT:=ak hat;have HR4:=ak (hx4.blk HR3.o);have HD4:=ak (HD3.o.ext hx4);have xI:=ak Gv;have aJY:=ak (show ∀y∈[bd,bw,rb],y<w4.heap.size from fun y hy=>bU (HLB.o y hy) hx4.size);have hw4:=hx4.blk HW3.o;clear hat Gv hx4 HW3 HR3 HD3 HLB hsn;obtain⟨c0,c1,c2,cf⟩:=fZ hw4;go_upto_region 4 with fail
 obtain⟨w5,hw5⟩:∃w5,w5=w4.setCell ⟨bw,0,none⟩ (.slice sa sn sc):=⟨_,rfl⟩
 have hc5:dO [bw] w4 w5:=by rw[hw5];exact akr _ _ _ _
 have Zv:=ak (show w5.heap[bw]?=some (.cells #[.slice sa sn sc,.slice none 0 0,.slice none 0 0] 34 (0,0)) by rw[hw5];have:=akn (i:=0) hw4 (.slice sa sn sc);simpa using this);rw[<-hw5];clear hw5 hw4 c0 c1 c2 cf;have Kq:=ak (hc5.blk HR4.o (by have:=nH.o;simp;omega));have HD5:=ak (HD4.o.fH hc5 (by have:=nH.o;simp;omega) (fun y hy=>by simp only[aK] at hy;have:=nH.o;omega));have uj:=ak (xI.o.mono (acO hc5 (by simp)));have aAw:=ak (show ∀y∈[bd,bw,rb],y<w5.heap.size from fun y hy=>bU (aJY.o y hy) hc5.size);clear hc5 HR4 HD4 xI aJY;obtain⟨c0,c1,c2,cf⟩:=fZ Zv.o;go_wp2_with fail
 refine(JK (oM HAT.o) (kM HAT.o) HD5.o sa sn sc [bd,bw,rb] (uj.o.mono (eG _ (by simp))) aAw.o).mono ?_;rintro e w6 ⟨f,fa,fc,rfl,hfa,-,hif,hd6,hc6⟩;have Gh:=ak hfa;have aAy:=ak hif;have HD6:=ak hd6;have hw6:=hc6.blk Zv.o (by have:=nH.o;simp;omega);have HR6:=ak (hc6.blk Kq.o (by have:=nH.o;simp;omega));have Fg:=ak (uj.o.mono (acO hc6 (by simp)));have aJX:=ak (show ∀y∈[bd,bw,rb],y<w6.heap.size from fun y hy=>bU (aAw.o y hy) hc6.size);clear hfa hif hd6 hc6 c0 c1 c2 cf HD5 Zv Kq uj aAw;obtain⟨c0,c1,c2,cf⟩:=fZ hw6;obtain⟨fn,hfn⟩:∃fn,fn=f.length:=⟨_,rfl⟩
 rw[<-hfn];rw[<-hfn] at aAy;clear hfn;go_upto_region 5 with fail
 obtain⟨w7,hw7⟩:∃w7,w7=w6.setCell ⟨bw,2,none⟩ (.slice fa fn fc):=⟨_,rfl⟩
 have yM:dO [bw] w6 w7:=by rw[hw7];exact akr _ _ _ _
 have HW7:=ak (show w7.heap[bw]?=some (.cells #[.slice sa sn sc,.slice none 0 0,.slice fa fn fc] 34 (0,0)) by rw[hw7];have:=akn (i:=2) hw6 (.slice fa fn fc);simpa using this);rw[<-hw7];clear hw7 hw6 c0 c1 c2 cf;have HR7:=ak (yM.blk HR6.o (by have:=nH.o;simp;omega));have HD7:=ak (HD6.o.fH yM (by have:=nH.o;simp;omega) (fun y hy=>by simp only[aK] at hy;have:=nH.o;omega));have YU:=ak (Fg.o.mono (acO yM (by simp)));have aJ3:=ak (aAy.o.mono (acO yM (by simp)));have aE5:=ak (show ∀y∈[bd,bw,rb],y<w7.heap.size from fun y hy=>bU (aJX.o y hy) yM.size);clear yM HR6 HD6 Fg aJX aAy;obtain⟨c0,c1,c2,cf⟩:=fZ HW7.o;have vS:=ak (show Calls Tryz.prog 39 #[.pointer (some ⟨bd,0,none⟩),.agg #[.slice sa sn sc],.int .i64 9,.string ⟨#[99,45]⟩] w7 (aKy attrs pcd 9 w0 bd [bd,bw,rb] w7) from
  JG HAT.o (gY attrs HAT.o).1 (gY attrs HAT.o).2.1 (gY attrs HAT.o).2.2 HD7.o sa sn sc [bd,bw,rb] (YU.o.mono (eG _ (by simp))) aE5.o 9 (by omega) pcd (by decide))
 go_wp2_with fail
 refine vS.o.mono ?_;rintro e w8 ⟨l,la,ln,lc,rfl,hcl,hgl,hl1,hl2,hd8,hc8⟩;have HGL:=ak hgl;have HLL:=ak (show l.length<=10 from hl2);have Zx:=ak hl1;have as5:=ak hcl;have HD8:=ak hd8;have hw8:=hc8.blk HW7.o (by have:=nH.o;simp;omega);have HR8:=ak (hc8.blk HR7.o (by have:=nH.o;simp;omega));have U4:=ak (YU.o.mono (acO hc8 (by simp)));have aJ2:=ak (aJ3.o.mono (acO hc8 (by simp)));clear hcl hgl hl1 hl2 hd8 hc8 c0 c1 c2 cf HD7 HW7 HR7 YU aJ3 aE5 vS;obtain⟨c0,c1,c2,cf⟩:=fZ hw8;go_upto_region 6 with fail
 obtain⟨w9,yY⟩:∃w9,w9=w8.setCell ⟨bw,1,none⟩ (.slice la ln lc):=⟨_,rfl⟩
 have Af:dO [bw] w8 w9:=by rw[yY];exact akr _ _ _ _
 have HW9:=ak (show w9.heap[bw]?=some (.cells #[.slice sa sn sc,.slice la ln lc,.slice fa fn fc] 34 (0,0)) by rw[yY];have:=akn (i:=1) hw8 (.slice la ln lc);simpa using this);rw[<-yY];clear yY hw8 c0 c1 c2 cf;have HR9:=ak (Af.blk HR8.o (by have:=nH.o;simp;omega));have HD9:=ak (HD8.o.fH Af (by have:=nH.o;simp;omega) (fun y hy=>by simp only[aK] at hy;have:=nH.o;omega));have SL:=ak (show Ac (mask w9 [bd,bw,rb]) attrs l f ⟨sa,sn,sc,la,ln,lc,fa,fn,fc⟩ from⟨HAT.o,U4.o.mono (acO Af (by simp)),as5.o.mono (acO Af (by simp)),HGL.o,HLL.o,Zx.o,Gh.o,aJ2.o.mono (acO Af (by simp))⟩);clear Af HR8 HD8 U4 aJ2 as5;obtain⟨c0,c1,c2,cf⟩:=fZ HW9.o;obtain⟨r0,r1,r2,rf⟩:=fZ HR9.o;go_wp2_with fail
 obtain⟨wz,hwz⟩:∃wz,wz=oq w9 rb (.slice sa sn sc) (.slice la ln lc) (.slice fa fn fc):=⟨_,rfl⟩
 have hcz:dO [rb] w9 wz:=by rw[hwz];exact xB _ _ _ _ _ (by simp)
 have HZ:wz.heap[rb]?=some (.cells #[.slice sa sn sc,.slice la ln lc,.slice fa fn fc] 34 (0,0)):=by rw[hwz];exact xC HR9.o _ _ _
 unfold oq at hwz;rw[<-hwz];clear hwz c0 c1 c2 cf r0 r1 r2 rf;obtain⟨z0,z1,z2,zf⟩:=fZ HZ;have hdz:=HD9.o.fH hcz (by have:=nH.o;simp;omega) (fun y hy=>by simp only[aK] at hy;have:=nH.o;omega);refine bodyPost_ret (v:=.tuple #[W12.val ⟨sa,sn,sc,la,ln,lc,fa,fn,fc⟩,.pointer (some ⟨bd,0,none⟩)]) (by simp[results,Tryz.results15,go_sem,W12.val,z0,z1,z2]) rfl ?_;exact⟨attrs,l,f,_,bd,rfl,(SL.o.mono (acO hcz (by simp))).mono (eG _ (by simp)),hdz,by obtain⟨_,_,_,_,_,_,_,_,hxw,_⟩:=hdz;exact hxw⟩
theorem acG (s:List Attr) (l:List dY) (f:ZI) (sv:Value) (a:OA) (n c:Nat) (fa:OA) (fn fc:Nat) (w:World) (hs:fJ w s sv) (hf:∀x∈s,x.fits) (hsl:s.length<=1000000000000000) (hl:eX w l a n c) (hn:n<=1000000) (hok:∀x∈l,x.fit) (hi:fO w f fa fn) :
  Calls Tryz.prog 35 #[sv,.slice a n c,.slice fa fn fc] w (dN (.int .i64 (nI s l f)) w):=by
 obtain⟨sa,sn,sc,rfl,hsn⟩:=hs.slice;have vS:=ak (fun W (hW:Ext w W)=>uw s l _ a n c W (hs.ext hW) hf hsl (hl.ext hW) (by omega) hok);have Kt:=ak (fun W (hW:Ext w W)=>Js s _ f fa fn fc W (hs.ext hW) hf hsl (hi.ext hW));obtain⟨R,hR⟩:∃R,R=nI s l f:=⟨_,rfl⟩
 rw[<-hR];unfold nI at hR;obtain⟨⟨i0,E1⟩,hE1⟩:∃E:Nat×Int,E=eU s l:=⟨_,rfl⟩
 rw[<-hE1] at vS hR;obtain⟨B,hB⟩:∃B,B=mJ s f:=⟨_,rfl⟩
 rw[<-hB] at Kt hR;have HR:=ak hR;clear hs hf hsl hl hn hok hi hsn hR hE1 hB;unfold aa6 at vS;obtain⟨wa,dW⟩:∃wa,wa=w.alloc (.cells #[.slice sa sn sc] 24):=⟨_,rfl⟩
 have fE:=ak (show Ext w wa by rw[dW];exact(Ext.refl _).alloc _);have HA:=ak (show wa.heap[w.heap.size]?=some (.cells #[.slice sa sn sc] 24 (0,0)) by rw[dW];exact dG w _);obtain⟨s0,sf⟩:=gQ HA.o;go_enter Tryz.func35,Tryz.ntmps35
 go_upto_region 1 with fail
 rw[<-dW];clear dW;go_wp2_with fail
 refine(vS.o wa fE.o).mono ?_;rintro r w1 ⟨rfl,hx1⟩;have fQ:=ak (fE.o.trans hx1);have HB:=ak (hx1.blk HA.o);clear hx1 s0 sf HA fE vS;by_cases h1:E1=0
 case neg =>
  have t1:(E1 != 0)=true:=by simp[h1]
  have HQ:=ak (show R=E1 by rw[HR.o,dw h1]);clear h1;go_wp2_with fail
  go_ret;exact⟨by rw[HQ.o];rfl,fQ.o⟩
 have HR4:=ak (show R=if B=false then 16 else 0 by rw[HR.o,dh (by simpa using h1)]);subst h1;clear HR;obtain⟨s0,sf⟩:=gQ HB.o;go_wp2_with fail
 refine(Kt.o w1 fQ.o).mono ?_;rintro r w4 ⟨rfl,hx4⟩;have lN:=ak (fQ.o.trans hx4);clear hx4 s0 sf Kt;cases B
 case false =>
  have HQ:=ak (show R=16 by rw[HR4.o];rfl);go_wp2_with fail
  go_ret;exact⟨by rw[HQ.o];rfl,lN.o⟩
 have HQ:=ak (show R=0 by rw[HR4.o];rfl);go_wp2_with fail
 go_ret;exact⟨by rw[HQ.o];rfl,lN.o⟩
end Go.Proofs.YtefjomofjejklaaGreatDoor
