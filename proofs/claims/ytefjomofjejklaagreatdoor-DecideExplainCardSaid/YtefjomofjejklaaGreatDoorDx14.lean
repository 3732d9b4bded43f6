/-
  Texts of the claim, joined: Facts, DFacts, Exp2, CExp1, Defs, CNode, Loss.
-/
import Derived.Test.YtefjomofjejklaaGreatDoorDx13
namespace Go.Proofs.YtefjomofjejklaaGreatDoor
set_option maxRecDepth 100000
set_option maxHeartbeats 32000000
open Go.RowKit
def fO (w:World) (f:ZI) (a:OA) (n:Nat):Prop:=n=f.length/\∀i (h:i<f.length),∃b off,a=some ⟨b,off,none⟩/\w.cell? ⟨b,off+i,none⟩=some (.int .i64 f[i])
theorem fO.mono {w w':World} {f:ZI} {a:OA} {n:Nat} (h:fO w f a n) (hs:Sub w w'):fO w' f a n:=⟨h.1,fun i hi=>by obtain⟨b,off,e,hc⟩:=h.2 i hi;exact⟨b,off,e,hs _ _ hc⟩⟩
theorem fO.ext {w w':World} {f:ZI} {a:OA} {n:Nat} (h:fO w f a n) (he:Ext w w'):fO w' f a n:=h.mono he.sub
def agZ (a:Attr):Value:=.tuple #[.int .i64 (DU a).1,.int .i64 (DU a).2]
theorem acU {s:List Attr} {f:ZI} {k:Nat} (hk:k<s.length) (hj:k<f.length) (h:f[k]<(DU s[k]).1\/(DU s[k]).2<f[k]):jq s f=false:=by
 cases hf:jq s f
 ·rfl
 have:=aaR hf k hk hj;omega
theorem aaQ {s:List Attr} {f:ZI} (h:f.length≠s.length):jq s f=false:=by
 cases hf:jq s f
 ·rfl
 exact absurd (nD hf) h
theorem abR {s:List Attr} {f:ZI} (h:jq s f=true) {i:Nat} (hi:i<s.length):∃h2:i<f.length,(DU s[i]).1<=f[i]/\f[i]<=(DU s[i]).2:=by
 have h2:i<f.length:=by rw[nD h];exact hi
 exact⟨h2,aaR h i hi h2⟩
theorem Yw.five {w:World} {x:Attr} {b off:Nat} (h:Yw w x b off):∃aw nw cw,ji w x.words aw nw cw/\∀W,Ext w W->W.cell? ⟨b,off,none⟩=some (.string x.name)/\W.cell? ⟨b,off+1,none⟩=some (.int .i64 x.kind)/\W.cell? ⟨b,off+2,none⟩=some (.slice aw nw cw)/\W.cell? ⟨b,off+3,none⟩=some (.int .i64 x.lo)/\W.cell? ⟨b,off+4,none⟩=some (.int .i64 x.hi):=by
 obtain⟨aw,nw,cw,g0,g1,g2,g3,g4,g5⟩:=h;exact⟨aw,nw,cw,g5,fun W hW=>⟨hW.cell g0,hW.cell g1,hW.cell g2,hW.cell g3,hW.cell g4⟩⟩
theorem acF (s:List Attr) (v:Value) (i:Nat) (w:World) (hs:fJ w s v) (hf:∀x∈s,x.fits) (hl:s.length<=1000000000000000) (h0:fD s=0) (hi:i<s.length) :
  Calls Tryz.prog 65 #[v,.int .i64 (i:Nat)] w (dN (agZ s[i]) w):=by
 obtain⟨q1,q2,q3⟩:=kN h0;obtain⟨-,-,-,hk,-⟩:=amc (q3 i hi).1;obtain⟨a,n,c,rfl,hn,hnc,hoa,hat⟩:=hs.parts;obtain⟨b,off,rfl,hA⟩:=hat i hi;obtain⟨aw,nw,cw,hstr,aaK⟩:=hA.five;have HG:=ak aaK;have HR:=ak (fun W (hW:Ext w W)=>GX s _ W (hs.ext hW) hf hl);rw[h0] at HR;have t0:=aj ((i:Int)<0);have t1:=aj ((n:Int)<=(i:Int));have hin:i<n:=by omega
 have hn2:n<=1000000000000000:=by omega
 have hnw:nw<=1000000000000000:=by rw[hstr.1];exact(hf _ (aI hi)).2.1
 have HNW:=ak hstr.1;clear hs hn hnc hoa hf h0 q1 q2 q3 hat hA hstr aaK;obtain⟨x,hx⟩:∃x,x=s[i]:=⟨_,rfl⟩
 rw[<-hx] at hk HG HNW ⊢;clear hx;obtain⟨wa,dW⟩:∃wa,wa=w.alloc (.cells #[.slice (some ⟨b,off,none⟩) n c] 24):=⟨_,rfl⟩
 have hxa:Ext w wa:=by rw[dW];exact(Ext.refl _).alloc _
 have hb0:wa.heap[w.heap.size]?=some (.cells #[.slice (some ⟨b,off,none⟩) n c] 24 (0,0)):=by rw[dW];exact dG w _
 have fE:=ak hxa;have HB0:=ak hb0;clear hxa hb0;have Ns:((x.kind==1)=true/\agZ x=.tuple #[.int .i64 0,.int .i64 ((nw:Int) - 1)])\/((x.kind==1)=false/\(x.kind==2)=true/\agZ x=.tuple #[.int .i64 x.lo,.int .i64 x.hi])\/((x.kind==1)=false/\(x.kind==2)=false/\agZ x=.tuple #[.int .i64 0,.int .i64 1]):=by
  unfold agZ DU;rcases hk with hk|hk|hk
  ·exact Or.inl ⟨by simp[hk],by rw[dw hk,HNW.o]⟩
  ·exact Or.inr (Or.inl ⟨by simp[hk],by simp[hk],by rw[dh (by omega),dw hk]⟩)
  exact Or.inr (Or.inr ⟨by simp[hk],by simp[hk],by rw[dh (by omega),dh (by omega)]⟩)
 clear hk;rcases Ns with ⟨e1,hv⟩|⟨e1,e2,hv⟩|⟨e1,e2,hv⟩
 all_goals
  have HV:=ak hv;clear hv;obtain⟨a0,af⟩:=gQ HB0.o;go_enter Tryz.func65,Tryz.ntmps65
  go_upto_region 1 with fail
  rw[<-dW];clear dW;go_wp2_with fail
  refine(HR.o wa fE.o).mono ?_;rintro r w3 ⟨rfl,hx3⟩;have gU:=ak (fE.o.trans hx3);obtain⟨d0,df⟩:=gQ (hx3.blk HB0.o);obtain⟨g0,g1,g2,g3,g4⟩:=HG.o w3 gU.o;clear hx3 a0 af HB0;go_wp2_with fail
  try go_quiet (fail)
  try go_wp2_with fail
  go_ret2
  exact⟨by rw[HV.o];rfl,by first|exact(gU.o.alloc _).drewN _|exact gU.o.alloc _⟩
def aYZ (s:List Attr) (f:ZI) (n:Nat) (bs:Nat) (o:Obj) (w:World) (t:Value) (wr:World):Prop:=∃k:Nat,t=.int .i64 k/\k<=n/\(∀i (hi:i<s.length) (hj:i<f.length),i<k->(DU s[i]).1<=f[i]/\f[i]<=(DU s[i]).2)/\wr.heap[bs]?=some o/\Ext w wr
theorem Js (s:List Attr) (v:Value) (f:ZI) (fa:OA) (fn fc:Nat) (w:World) (hs:fJ w s v) (hf:∀x∈s,x.fits) (hl:s.length<=1000000000000000) (hi:fO w f fa fn) :
  Calls Tryz.prog 61 #[v,.slice fa fn fc] w (dN (.bool (mJ s f)) w):=by
 obtain⟨a,n,c,rfl,hn,hnc,hoa,hat⟩:=hs.parts;have HR:=ak (fun W (hW:Ext w W)=>GX s _ W (hs.ext hW) hf hl);have HD:=ak (fun (h0:fD s=0) (i:Nat) (hi:i<s.length) W (hW:Ext w W)=>acF s _ i W (hs.ext hW) hf hl h0 hi);have HN:=ak hn;have HI:=ak hi;have HFN:=ak hi.1;obtain⟨B,hB⟩:∃B,B=mJ s f:=⟨_,rfl⟩
 rw[<-hB];have HB:=ak (show B=(decide (fD s=0)&&jq s f) from hB);clear hs hn hnc hoa hat hf hi hB;obtain⟨wa,dW⟩:∃wa,wa=w.alloc (.cells #[.slice a n c] 24):=⟨_,rfl⟩
 have hxa:Ext w wa:=by rw[dW];exact(Ext.refl _).alloc _
 have hb0:wa.heap[w.heap.size]?=some (.cells #[.slice a n c] 24 (0,0)):=by rw[dW];exact dG w _
 have fE:=ak hxa;have HB0:=ak hb0;clear hxa hb0;obtain⟨E,hE⟩:∃E,E=fD s:=⟨_,rfl⟩
 rw[<-hE] at HR HB;have HEE:=ak hE;clear hE;obtain⟨a0,af⟩:=gQ HB0.o;by_cases hz:E=0
 case neg =>
  have tz:(E != 0)=true:=by simp[hz]
  have HQ:=ak (show B=false by rw[HB.o];simp[hz]);clear hz;go_enter Tryz.func61,Tryz.ntmps61
  go_upto_region 1 with fail
  rw[<-dW];clear dW;go_wp2_with fail
  refine(HR.o wa fE.o).mono ?_;rintro r w3 ⟨rfl,hx3⟩;have gU:=ak (fE.o.trans hx3);clear hx3 a0 af HB0;go_wp2_with fail
  go_ret;exact dL (by rw[HQ.o]) gU.o
 have tz:(E != 0)=false:=by simp[hz]
 have HB2:=ak (show B=jq s f by rw[HB.o];simp[hz]);have HDD:=ak (HD.o (by rw[<-HEE.o];exact hz));have hs6:n<=6:=by have:=(kN (s:=s) (by rw[<-HEE.o];exact hz)).2.1;rw[HN.o];exact this
 clear hz HD HB HEE;by_cases hlen:fn=n
 case neg =>
  have tl:((fn:Int) != (n:Int))=true:=by simp;omega
  have HQ:=ak (show B=false by rw[HB2.o];exact aaQ (by rw[<-HN.o,<-HFN.o];exact hlen));clear hlen;go_enter Tryz.func61,Tryz.ntmps61
  go_upto_region 1 with fail
  rw[<-dW];clear dW;go_wp2_with fail
  refine(HR.o wa fE.o).mono ?_;rintro r w3 ⟨rfl,hx3⟩;have gU:=ak (fE.o.trans hx3);obtain⟨d0,df⟩:=gQ (hx3.blk HB0.o);clear hx3 a0 af HB0;go_wp2_with fail
  go_ret;exact dL (by rw[HQ.o]) gU.o
 subst hlen;have tl:((fn:Int) != (fn:Int))=false:=by simp
 have Bg:=ak (show f.length=s.length by rw[<-HN.o,<-HFN.o]);go_enter Tryz.func61,Tryz.ntmps61
 go_upto_region 1 with fail
 rw[<-dW];clear dW;go_wp2_with fail
 refine(HR.o wa fE.o).mono ?_;rintro r w3 ⟨rfl,hx3⟩;have gU:=ak (fE.o.trans hx3);have HB3:=ak (hx3.blk HB0.o);obtain⟨d0,df⟩:=gQ (hx3.blk HB0.o);clear hx3 a0 af HB0;go_wp2_with fail
 clear d0 df;go_loopw [5] (aYZ s f fn w.heap.size (.cells #[.slice a fn c] 24 (0,0)) w) (fun t _=>fn - (intOf t).toNat)
 case atStart=>exact⟨0,rfl,by omega,fun i _ _ h=>by omega,HB3.o,gU.o⟩
 case round =>
  obtain⟨k,rfl,hk,hno,hbx,hx⟩:=hrel;have lZ:=ak hno;have lV:=ak hbx;have HX:=ak hx;obtain⟨d0,df⟩:=gQ hbx;clear hno hbx hx;by_cases hkn:k<fn
  ·have t1:=ah ((k:Int)<(fn:Int));have hks:k<s.length:=by rw[<-HN.o];exact hkn
   have hkf:k<f.length:=by rw[<-HFN.o];exact hkn
   have HDK:=ak (HDD.o k hks wr HX.o);unfold agZ at HDK;obtain⟨fb,fo,rfl,hcell⟩:=HI.o.2 k hkf;have HCF:=ak hcell;obtain⟨z,hz⟩:∃z,z=f[k]:=⟨_,rfl⟩
   obtain⟨lo,hlo⟩:∃lo,lo=(DU s[k]).1:=⟨_,rfl⟩
   obtain⟨hi,hhi⟩:∃hi,hi=(DU s[k]).2:=⟨_,rfl⟩
   rw[<-hz] at HCF;rw[<-hlo,<-hhi] at HDK;have HZ:=ak hz;have HLO:=ak hlo;have HHI:=ak hhi;clear hcell hz hlo hhi;go_wp2_with fail
   refine HDK.o.mono ?_;rintro r w5 ⟨rfl,hx5⟩;have jY:=ak (HX.o.trans hx5);have Cj:=ak (hx5.blk lV.o);have g0:=jY.o.cell HCF.o;clear hx5 d0 df HDK;by_cases h1:z<lo\/hi<z
   ·have HQ:=ak (show B=false by rw[HB2.o];exact acU hks hkf (by rw[<-HZ.o,<-HLO.o,<-HHI.o];exact h1));by_cases h2:z<lo
    ·have t2:=ah (z<lo) h2;clear h1 h2;go_wp2_with fail
     go_ret;exact dL (by rw[HQ.o]) jY.o
    have t2:=aj (z<lo) h2;have t3:=ah (hi<z);clear h1 h2;go_wp2_with fail
    go_ret;exact dL (by rw[HQ.o]) jY.o
   have t2:=aj (z<lo);have t3:=aj (hi<z);have Ej:=ak (show (DU s[k]).1<=f[k]/\f[k]<=(DU s[k]).2 by rw[<-HZ.o,<-HLO.o,<-HHI.o];omega);clear h1;go_wp2_with fail
   go_roundw
   case rel =>
    refine⟨k+1,by go_num,by omega,fun i hi hj hik=>?_,Cj.o,jY.o⟩;by_cases e:i=k
    ·subst e;exact Ej.o
    exact lZ.o i hi hj (by omega)
   case measure=>simp[intOf];omega
  have t1:=aj ((k:Int)<(fn:Int));have HQ:=ak (show B=true by rw[HB2.o];exact TY Bg.o fun i hi hj=>lZ.o i hi hj (by have:=HFN.o;omega));go_wp2_with fail
  go_ret;exact dL (by rw[HQ.o]) HX.o
theorem am0 (x:Attr) (aw:OA) (nw cw:Nat) (w:World) (hn:nw=x.words.length) (hnw:nw<=1000000000000000) (hk:x.kind=1\/x.kind=2\/x.kind=3) :
  Calls Tryz.prog 84 #[.agg #[.string x.name,.int .i64 x.kind,.slice aw nw cw,.int .i64 x.lo,.int .i64 x.hi]] w (dN (agZ x) w):=by
 have Ns:((x.kind==1)=true/\agZ x=.tuple #[.int .i64 0,.int .i64 ((nw:Int) - 1)])\/((x.kind==1)=false/\(x.kind==2)=true/\agZ x=.tuple #[.int .i64 x.lo,.int .i64 x.hi])\/((x.kind==1)=false/\(x.kind==2)=false/\agZ x=.tuple #[.int .i64 0,.int .i64 1]):=by
  unfold agZ DU;rcases hk with hk|hk|hk
  ·exact Or.inl ⟨by simp[hk],by rw[dw hk,hn]⟩
  ·exact Or.inr (Or.inl ⟨by simp[hk],by simp[hk],by rw[dh (by omega),dw hk]⟩)
  exact Or.inr (Or.inr ⟨by simp[hk],by simp[hk],by rw[dh (by omega),dh (by omega)]⟩)
 clear hk hn;rcases Ns with ⟨e1,hv⟩|⟨e1,e2,hv⟩|⟨e1,e2,hv⟩
 all_goals
  have HV:=ak hv;clear hv;go_enter Tryz.func84,Tryz.ntmps84
  go_wp2_with fail
  try go_quiet (fail)
  try go_wp2_with fail
  go_ret2
  exact⟨by rw[HV.o];rfl,by first|exact((Ext.refl w).alloc _).drewN _|exact(Ext.refl w).alloc _⟩
theorem Xj (s:List Attr) (v:Value) (f:ZI) (fa:OA) (fn fc:Nat) (w:World) (hs:fJ w s v) (hf:∀x∈s,x.fits) (hl:s.length<=1000000000000000) (hi:fO w f fa fn) (hfn:fn<=1000000000000000) :
  Calls Tryz.prog 57 #[v,.slice fa fn fc] w (dN (.bool (mJ s f)) w):=by
 obtain⟨a,n,c,rfl,hn,hnc,hoa,hat⟩:=hs.parts;have HR:=ak (fun W (hW:Ext w W)=>Ho s _ W (hs.ext hW) hf hl);have HAT:=ak hat;have HN:=ak hn;have HF:=ak hf;have HI:=ak hi;have HFN:=ak hi.1;obtain⟨B,hB⟩:∃B,B=mJ s f:=⟨_,rfl⟩
 rw[<-hB];have HB:=ak (show B=(decide (fD s=0)&&jq s f) from hB);have hn2:n<=1000000000000000:=by omega
 clear hs hn hnc hoa hat hf hi hB;obtain⟨wa,dW⟩:∃wa,wa=w.alloc (.cells #[.slice a n c] 24):=⟨_,rfl⟩
 have hxa:Ext w wa:=by rw[dW];exact(Ext.refl _).alloc _
 have hb0:wa.heap[w.heap.size]?=some (.cells #[.slice a n c] 24 (0,0)):=by rw[dW];exact dG w _
 have fE:=ak hxa;have HB0:=ak hb0;clear hxa hb0;obtain⟨E,hE⟩:∃E,E=fD s:=⟨_,rfl⟩
 rw[<-hE] at HR HB;have HEE:=ak hE;clear hE;obtain⟨a0,af⟩:=gQ HB0.o;by_cases hz:E=0
 case neg =>
  have tz:(E != 0)=true:=by simp[hz]
  have HQ:=ak (show B=false by rw[HB.o];simp[hz]);clear hz;go_enter Tryz.func57,Tryz.ntmps57
  go_upto_region 1 with fail
  rw[<-dW];clear dW;go_wp2_with fail
  refine(HR.o wa fE.o).mono ?_;rintro r w3 ⟨rfl,hx3⟩;have gU:=ak (fE.o.trans hx3);clear hx3 a0 af HB0;go_wp2_with fail
  go_ret;exact dL (by rw[HQ.o]) gU.o
 have tz:(E != 0)=false:=by simp[hz]
 have HB2:=ak (show B=jq s f by rw[HB.o];simp[hz]);have HSA:=ak (kN (s:=s) (by rw[<-HEE.o];exact hz));clear hz HB HEE;by_cases hlen:fn=n
 case neg =>
  have tl:((fn:Int) != (n:Int))=true:=by simp;omega
  have HQ:=ak (show B=false by rw[HB2.o];exact aaQ (by rw[<-HN.o,<-HFN.o];exact hlen));clear hlen;go_enter Tryz.func57,Tryz.ntmps57
  go_upto_region 1 with fail
  rw[<-dW];clear dW;go_wp2_with fail
  refine(HR.o wa fE.o).mono ?_;rintro r w3 ⟨rfl,hx3⟩;have gU:=ak (fE.o.trans hx3);obtain⟨d0,df⟩:=gQ (hx3.blk HB0.o);clear hx3 a0 af HB0;go_wp2_with fail
  go_ret;exact dL (by rw[HQ.o]) gU.o
 subst hlen;have tl:((fn:Int) != (fn:Int))=false:=by simp
 have Bg:=ak (show f.length=s.length by rw[<-HN.o,<-HFN.o]);go_enter Tryz.func57,Tryz.ntmps57
 go_upto_region 1 with fail
 rw[<-dW];clear dW;go_wp2_with fail
 refine(HR.o wa fE.o).mono ?_;rintro r w3 ⟨rfl,hx3⟩;have gU:=ak (fE.o.trans hx3);have HB3:=ak (hx3.blk HB0.o);obtain⟨d0,df⟩:=gQ (hx3.blk HB0.o);clear hx3 a0 af HB0;go_wp2_with fail
 clear d0 df;go_loopw [22] (aYZ s f fn w.heap.size (.cells #[.slice a fn c] 24 (0,0)) w) (fun t _=>fn - (intOf t).toNat)
 case atStart=>exact⟨0,rfl,by omega,fun i _ _ h=>by omega,HB3.o,gU.o⟩
 case round =>
  obtain⟨k,rfl,hk,hno,hbx,hx⟩:=hrel;have lZ:=ak hno;have lV:=ak hbx;have HX:=ak hx;obtain⟨d0,df⟩:=gQ hbx;clear hno hbx hx;by_cases hkn:k<fn
  ·have t1:=ah ((k:Int)<(fn:Int));have hks:k<s.length:=by rw[<-HN.o];exact hkn
   have hkf:k<f.length:=by rw[<-HFN.o];exact hkn
   obtain⟨b,off,rfl,hA⟩:=HAT.o k hks;obtain⟨aw,nw,cw,hstr,aaK⟩:=hA.five;obtain⟨g0,g1,g2,g3,g4⟩:=aaK wr HX.o;have HDK:=ak (fun W=>am0 s[k] aw nw cw W hstr.1 (by rw[hstr.1];exact(HF.o _ (aI hks)).2.1) (amc (HSA.o.2.2 k hks).1).2.2.2.1);unfold agZ at HDK;obtain⟨fb,fo,rfl,hcell⟩:=HI.o.2 k hkf;have hcf:=HX.o.cell hcell;obtain⟨z,hz⟩:∃z,z=f[k]:=⟨_,rfl⟩
   obtain⟨lo,hlo⟩:∃lo,lo=(DU s[k]).1:=⟨_,rfl⟩
   obtain⟨hi,hhi⟩:∃hi,hi=(DU s[k]).2:=⟨_,rfl⟩
   rw[<-hz] at hcf;rw[<-hlo,<-hhi] at HDK;have HZ:=ak hz;have HLO:=ak hlo;have HHI:=ak hhi;clear hcell hz hlo hhi hA hstr aaK;go_wp2_with fail
   refine(HDK.o _).mono ?_;rintro r w5 ⟨rfl,hx5⟩;have jY:=ak (HX.o.trans hx5);have Cj:=ak (hx5.blk lV.o);clear hx5 d0 df HDK;by_cases h1:z<lo\/hi<z
   ·have HQ:=ak (show B=false by rw[HB2.o];exact acU hks hkf (by rw[<-HZ.o,<-HLO.o,<-HHI.o];exact h1));by_cases h2:z<lo
    ·have t2:=ah (z<lo) h2;clear h1 h2;go_wp2_with fail
     go_ret;exact dL (by rw[HQ.o]) jY.o
    have t2:=aj (z<lo) h2;have t3:=ah (hi<z);clear h1 h2;go_wp2_with fail
    go_ret;exact dL (by rw[HQ.o]) jY.o
   have t2:=aj (z<lo);have t3:=aj (hi<z);have Ej:=ak (show (DU s[k]).1<=f[k]/\f[k]<=(DU s[k]).2 by rw[<-HZ.o,<-HLO.o,<-HHI.o];omega);clear h1;go_wp2_with fail
   go_roundw
   case rel =>
    refine⟨k+1,by go_num,by omega,fun i hi hj hik=>?_,Cj.o,jY.o⟩;by_cases e:i=k
    ·subst e;exact Ej.o
    exact lZ.o i hi hj (by omega)
   case measure=>simp[intOf];omega
  have t1:=aj ((k:Int)<(fn:Int));have HQ:=ak (show B=true by rw[HB2.o];exact TY Bg.o fun i hi hj=>lZ.o i hi hj (by have:=HFN.o;omega));go_wp2_with fail
  go_ret;exact dL (by rw[HQ.o]) HX.o
def intCells (z:Int):List Value:=[.int .i64 z]
def a4q (attrs:List Attr) (w0:World) (bd:Nat) (M:ZN) (w:World) (e:Ending) (w':World):Prop:=∃(f:ZI) (a:OA) (c:Nat),e=.returned (.slice a f.length c)/\jq attrs f=true/\f.length<=1000/\fO (mask w' M) f a f.length/\dS w0 w' bd/\dO [bd] w w'
def a4r (attrs:List Attr) (w0 w:World) (bd bs base:Nat) (o:Obj) (v i:Value) (wr:World):Prop:=∃f:ZI,i=.int .i64 (f.length:Nat)/\f.length<=attrs.length/\(∀j (h1:j<attrs.length) (h2:j<f.length),(DU attrs[j]).1<=f[j]/\f[j]<=(DU attrs[j]).2)/\wr.ownsRow base 3 1 v f.length (f.flatMap intCells)/\wr.heap[bs]?=some o/\dS w0 wr bd/\dO [bd] w wr
theorem aua:(jw.all fun l=>decide (fD l=0)&&l.all fun a=>decide (a.name.size<=1000)&&(decide (a.words.length<=1000)&&a.words.all fun x=>decide (x.size<=1000)))=true:=by decide +kernel
theorem oM {l:List Attr} (h:l∈jw):fD l=0:=by
 have:=aV.1 aua l h;simp only[aJ,aN] at this;exact this.1
theorem GZ {w:World} {M:ZN} {base:Nat} {v:Value} {f:ZI} (h:w.ownsRow base 3 1 v f.length (f.flatMap intCells)) (hM:∀k,v.ownBlock=some k->k∉M):∃a c,v=.slice a f.length c/\fO (mask w M) f a f.length:=by
 obtain⟨a,c,rfl,hr⟩:=iF.kZ (f:=intCells) (fun _=>rfl) h;refine⟨a,c,rfl,rfl,fun i hi=>?_⟩;obtain⟨b,off,rfl,hc⟩:=hr.2.2.2 i hi;refine⟨b,off,rfl,?_⟩;have:=hc 0 (by simp[intCells]);rw[iH,dh (hM _ rfl)];simpa[intCells] using this
theorem Nc {w:World} {base:Nat} {v:Value} {f:ZI} {k:Nat} {z:Int} (hk:k=f.length) (h:w.ownsRow base 3 1 v (k+1) (f.flatMap intCells++(#[Value.int .i64 z]:Array Value).toList)):w.ownsRow base 3 1 v (f++[z]).length ((f++[z]).flatMap intCells):=by
 have:(f++[z]).length=k+1:=by simp[hk]
 rw[this];simpa[intCells] using h
theorem JK {attrs:List Attr} (h0:fD attrs=0) (hf:∀x∈attrs,x.fits) {w0 w:World} {bd:Nat} (hd:dS w0 w bd) (sa:OA) (sn sc:Nat) (M:ZN) (hs:fJ (mask w [bd]) attrs (.agg #[.slice sa sn sc])) (hM:∀y∈M,y<w.heap.size) :
  Calls Tryz.prog 38 #[.pointer (some ⟨bd,0,none⟩),.agg #[.slice sa sn sc]] w (a4q attrs w0 bd M w):=by
 obtain⟨q1,q2,q3⟩:=kN h0;have hbw:=hd.lt;have RY:=ak (show sn=attrs.length by obtain⟨a',n',c',e',h',-⟩:=hs.parts;simp at e';omega);have a3v:=ak (fun (i:Nat) (hi:i<attrs.length) W (hW:dO [bd] w W)=>acF attrs (.agg #[.slice sa sn sc]) i W (((hs.mono (dZ hW (by simp))).mono (dU _ _))) hf (by omega) h0 hi);have HAD:=ak (fun (i:Nat) (hi:i<attrs.length)=>amc (q3 i hi).1);have HD:=ak hd;have HM:=ak hM;have HW0:=ak (show w0.heap.size<=w.heap.size by obtain⟨_,_,_,_,_,_,_,_,hxw,_⟩:=hd;exact hxw.size);clear hs hM hf q1 q3 h0 hd;obtain⟨wa,dW⟩:∃wa,wa=w.alloc (.cells #[.slice sa sn sc] 24):=⟨_,rfl⟩
 have hxa:Ext w wa:=by rw[dW];exact(Ext.refl _).alloc _
 have HB0:=ak (show wa.heap[w.heap.size]?=some (.cells #[.slice sa sn sc] 24 (0,0)) by rw[dW];exact dG w _);have Yq:=ak (HD.o.ext hxa);have Sl:=ak (hxa.fH [bd]);clear hxa;go_enter Tryz.func38,Tryz.ntmps38
 go_upto_region 1 with fail
 rw[<-dW];clear dW;go_wp2_with fail
 go_loopw [5,6] (a4r attrs w0 w bd w.heap.size (w.heap.size+1) (.cells #[.slice sa sn sc] 24 (0,0))) (fun _ i _=>sn - (intOf i).toNat)
 case atStart=>exact⟨[],rfl,by simp,fun j _ h=>by simp at h,⟨rfl,Or.inl ⟨rfl,rfl⟩⟩,HB0.o,Yq.o,Sl.o⟩
 case round =>
  obtain⟨f,rfl,hk,hall,hown,hb0,hd,hc⟩:=hrel;obtain⟨k,hkf⟩:∃k,k=f.length:=⟨_,rfl⟩
  rw[<-hkf] at hown hk ⊢;have Va:=ak hkf;have qE:=ak hall;have HOWN:=ak hown;have nZ:=ak hb0;have HDR:=ak hd;have Fe:=ak hc;obtain⟨e0,ef⟩:=gQ hb0;have Zw:=ak (show ∀z∈rowOf u5,w.heap.size+1<=z/\z<wr.heap.size from fun z hz=>⟨(hown.lt z (dK.1 hz)).1,(hown.lt z (dK.1 hz)).2⟩);clear hkf hall hown hb0 hd hc;by_cases hkn:k<sn
  ·have hka:k<attrs.length:=by have:=RY.o;omega
   have t1:=ah ((k:Int)<(sn:Int));have HDK:=ak (a3v.o k hka wr Fe.o);obtain⟨hlh,hlo,hhi,-,-⟩:=HAD.o k hka;unfold agZ at HDK;obtain⟨lo,aL9⟩:∃lo,lo=(DU attrs[k]).1:=⟨_,rfl⟩
   obtain⟨hi,aMb⟩:∃hi,hi=(DU attrs[k]).2:=⟨_,rfl⟩
   rw[<-aL9,<-aMb] at HDK;rw[<-aL9] at hlh hlo;rw[<-aMb] at hlh hhi;have HLV:=ak aL9;have HHV:=ak aMb;clear aL9 aMb;go_wp2_with fail
   refine HDK.o.mono ?_;rintro r w1 ⟨rfl,hx1⟩;have HD1:=ak (HDR.o.ext hx1);have qw:=ak (Fe.o.then (hx1.fH [bd]));have HB1:=ak (hx1.blk nZ.o);have PK:=ak (jF HOWN.o hx1);have HR1:=ak (show ∀z∈rowOf u5,w.heap.size+1<=z/\z<w1.heap.size from fun z hz=>by have:=Zw.o z hz;have:=hx1.size;omega);clear hx1 e0 ef HDR Fe nZ HOWN Zw HDK;go_wp2_with fail
   refine(fF HD1.o (hi - lo+1) (by omega) (by omega)).mono ?_;rintro r w2 ⟨r1,rfl,hr1,hr2,hd2,hc2⟩;have HD2:=ak hd2;have HC2:=ak (qw.o.then hc2);have HB2:=ak (hc2.blk HB1.o (by simp;omega));have yQ:=ak (eF PK.o hc2 (fun q hq hm=>by have:=(HR1.o q (dK.2 hq)).1;simp only[aK] at hm;omega));have HR2:=ak (show ∀z∈rowOf u5,w.heap.size+1<=z/\z<w2.heap.size from fun z hz=>by have:=HR1.o z hz;have:=hc2.size;omega);clear hd2 hc2 HD1 qw HB1 PK HR1;have HLH:=ak (show lo<=hi/\0<=r1/\r1<hi - lo+1 from⟨hlh,hr1,hr2⟩);go_wp2_with fail
   refine(fF HD2.o 5 (by omega) (by omega)).mono ?_;rintro r w3 ⟨r3,rfl,hr3,hr4,hd3,hc3⟩;have HD3:=ak hd3;have tH:=ak (HC2.o.then hc3);have HB3:=ak (hc3.blk HB2.o (by simp;omega));have Ad:=ak (eF yQ.o hc3 (fun q hq hm=>by have:=(HR2.o q (dK.2 hq)).1;simp only[aK] at hm;omega));have HR3:=ak (show ∀z∈rowOf u5,w.heap.size+1<=z/\z<w3.heap.size from fun z hz=>by have:=HR2.o z hz;have:=hc3.size;omega);clear hd3 hc3 HD2 HC2 HB2 yQ HR2 hlh hlo hhi hr1 hr2;rcases(by omega:r3=0\/r3=1\/r3=2\/(r3≠0/\r3≠1/\r3≠2)) with rfl|rfl|rfl|⟨q0,q1,q2⟩
   case' inl=>go_upto_region 14 with fail
   case' inr.inl=>go_upto_region 14 with fail
   case' inr.inr.inl =>
    go_wp2_with fail
    refine(fF HD3.o 12 (by omega) (by omega)).mono ?_;rintro r w3 ⟨r5,rfl,hr5,hr6,hd3,hc3⟩;have HD3:=ak hd3;have tH:=ak (tH.o.then hc3);have HB3:=ak (hc3.blk HB3.o (by simp;omega));have Ad:=ak (eF Ad.o hc3 (fun q hq hm=>by have:=(HR3.o q (dK.2 hq)).1;simp only[aK] at hm;omega));have HR3:=ak (show ∀z∈rowOf u5,w.heap.size+1<=z/\z<w3.heap.size from fun z hz=>by have:=HR3.o z hz;have:=hc3.size;omega);clear hd3 hc3;go_upto_region 14 with fail
   case' inr.inr.inr =>
    have t0:(r3==0)=false:=by simp[q0]
    have t2:(r3==1)=false:=by simp[q1]
    have t3:(r3==2)=false:=by simp[q2]
    go_upto_region 14 with fail
   all_goals
    have hsx:=tH.o.size;have hblt:=dH HB3.o;go_wp2_with (at_builtin;refine fK qh rfl _ _ rfl (w.heap.size+1) _ k _ rfl Ad.o _ 1 1 rfl ?f0 rfl ?f1 ?f2 ?f3 ?f4 ?_)
    case f0=>simp
    case f1=>simp[Value.oneCell']
    case f2=>unfold maxLen;omega
    case f3=>omega
    case f4=>omega
    intro v8 w8 ig hc8 hw8;have GK:=ak (Nc Va.o ig);have Vd:=ak (hc8.blk HB3.o (fun hm=>by have:=(HR3.o _ hm).1;omega));have HD8:=ak (HD3.o.fH hc8 (fun hm=>by have:=(HR3.o _ hm).1;omega) (fun y hy=>by have:=(HR3.o _ hy).1;have:=HW0.o;omega));have MR:=ak (tH.o.trans hc8 (fun y hy=>Or.inr (by have:=(HR3.o _ hy).1;omega)));obtain⟨a8,c8,OI⟩:=iG ig;subst OI;clear ig hc8 hw8;go_wp2_with fail
    go_roundw
    case rel =>
     have hlh:=HLH.o;refine⟨f++[_],?_,?_,fun j h1 h2=>?_,GK.o,Vd.o,HD8.o,MR.o⟩
     ·rw[bI,<-Va.o]
      go_num
     ·rw[bI,<-Va.o];simp;omega
     by_cases e:j<f.length
     ·rw[bT e];exact qE.o j h1 e
     have hjk:j=k:=by have:=Va.o;simp at h2;omega
     subst hjk;rw[cZ (by omega)];simp only[List.getElem_singleton];rw[<-HLV.o,<-HHV.o];exact⟨by omega,by omega⟩
    case measure=>simp[intOf];omega
  have t1:=aj ((k:Int)<(sn:Int));have hk2:k=attrs.length:=by have:=RY.o;omega
  have hos:=HOWN.o;rw[Va.o] at hos;obtain⟨a',c',rfl,hii⟩:=GZ (M:=M) hos (fun z hz hm=>by have:=(Zw.o z (dK.2 hz)).1;have:=HM.o z hm;omega);have HII:=ak hii;clear hos hii;go_wp2_with fail
  go_ret;exact⟨f,a',c',by rw[<-Va.o];rfl,TY (by rw[<-Va.o];exact hk2) qE.o,by rw[<-Va.o];omega,HII.o,HDR.o,Fe.o⟩
mutual
theorem aBp {D:BA->Option Nat} {s:BA} {n:Nat} (hn:D s=some n):(e:Ex)->s∈jo e->min n 2001<=Bf D e
 | .mk op name words lo hi args,h=>by
  rw[jo,aT] at h;rw[Bf];rcases h with h|h
  ·by_cases h3:op=3
   ·rw[dw h3] at h;have:s=name:=by simpa using h
    subst this;rw[dw h3,hn];simp only[Option.getD_some];omega
   rw[dh h3] at h;simp at h
  have:=aBo hn args h;omega
theorem aBo {D:BA->Option Nat} {s:BA} {n:Nat} (hn:D s=some n):(l:List Ex)->s∈kH l->min n 2001<=qB D l
 | [],h=>by rw[kH] at h;simp at h
 | e::r,h=>by
  rw[kH,aT] at h;rw[qB];rcases h with h|h
  ·have:=aBp hn e h;omega
  have:=aBo hn r h;omega
end
theorem aiP {l:List dY} {e:Ex} {s:BA} {d:Nat} (hs:s∈jo e) (hd:fG l s=some d) {f:Nat} (h:mG l f (l.getD d iT).cond=2001):mG l (f+1) e=2001:=by
 have h1:=afp l (f+1) e;rw[mG] at h1 ⊢;have:=aBp (D:=fun s=>(fG l s).map fun d=>mG l f (l.getD d iT).cond) (n:=2001) (by rw[hd];simp only[Option.map_some];rw[h]) e hs;omega
inductive Reach (l:List dY) (e:Ex):Nat->Prop
 | base {s:BA} {d:Nat}:s∈jo e->fG l s=some d->Reach l e d
 | step {d d':Nat} {s:BA}:Reach l e d->s∈jo (l.getD d iT).cond->fG l s=some d'->Reach l e d'
theorem Reach.large {l:List dY} {e:Ex} {d:Nat} (h:Reach l e d):(∀f,mG l f (l.getD d iT).cond=2001)->∀f,mG l f e=2001:=by
 induction h with
 | base hs hd =>
  intro h f;cases f with
  | zero=>rfl
  | succ f=>exact aiP hs hd (h f)
 | step _ hs hd ih =>
  intro h;refine ih fun f=>?_
  cases f with
  | zero=>rfl
  | succ f=>exact aiP hs hd (h f)
structure Used (l:List dY) (e:Ex) (u:List dY):Prop where
 defs:∀c∈u,c.kind=1/\∃d,fG l c.name=some d/\c.cond=(l.getD d iT).cond/\Reach l e d
 names:(u.map (·.name)).Nodup
 top:∀s∈jo e,∀d,fG l s=some d->s∈u.map (·.name)
 closed:∀c∈u,∀s∈jo c.cond,∀d,fG l s=some d->s∈u.map (·.name)
theorem Used.fG {l:List dY} {e:Ex} {u:List dY} (h:Used l e u) {i:Nat} (hi:i<u.length):fG u u[i].name=some i:=by
 unfold Proofs.YtefjomofjejklaaGreatDoor.fG;rw[aP];refine⟨hi,?_,fun j hj=>?_⟩
 ·have:=(h.defs u[i] (aI hi)).1;simp[this]
 have hne:u[j].name≠u[i].name:=by
  have:=(List.pairwise_iff_getElem.1 h.names) j i (by simp;omega) (by simpa using hi) hj;simpa using this
 simp[hne]
theorem Used.at {l:List dY} {e:Ex} {u:List dY} (h:Used l e u) {s:BA} (hm:s∈u.map (·.name)):∃i d,i<u.length/\Proofs.YtefjomofjejklaaGreatDoor.fG u s=some i/\Proofs.YtefjomofjejklaaGreatDoor.fG l s=some d/\(u.getD i iT).cond=(l.getD d iT).cond:=by
 obtain⟨c,hc,rfl⟩:=List.mem_map.1 hm;obtain⟨i,hi,rfl⟩:=bD.1 hc;obtain⟨_,d,h1,h2,_⟩:=h.defs _ hc;exact⟨i,d,hi,h.fG hi,h1,by rw[iZ hi];exact h2⟩
theorem Used.only {l:List dY} {e:Ex} {u:List dY} (h:Used l e u) {s:BA} (hn:Proofs.YtefjomofjejklaaGreatDoor.fG l s=none):Proofs.YtefjomofjejklaaGreatDoor.fG u s=none:=by
 cases hd:Proofs.YtefjomofjejklaaGreatDoor.fG u s with
 | none=>rfl
 | some i =>
  have hi:=sH hd;have h1:=(yJ hd).1;rw[iZ hi] at h1;obtain⟨_,d,h2,_⟩:=h.defs _ (aI hi);rw[h1,hn] at h2;cases h2
theorem Used.same {l:List dY} {e:Ex} {u:List dY} (h:Used l e u):∀f x,(∀s∈jo x,∀d,Proofs.YtefjomofjejklaaGreatDoor.fG l s=some d->s∈u.map (·.name))->mG u f x=mG l f x:=by
 intro f;induction f with
 | zero=>intro x _;rfl
 | succ f ih =>
  intro x hx;rw[mG,mG];refine yI _ fun s hs=>?_
  cases hd:Proofs.YtefjomofjejklaaGreatDoor.fG l s with
  | none=>rw[h.only hd];rfl
  | some d =>
   obtain⟨i,d',hi,h1,h2,h3⟩:=h.at (hx s hs d hd);rw[hd] at h2;cases h2
   rw[h1];simp only[Option.map_some,h3,Option.some.injEq];refine ih _ fun t ht d2 hd2=>?_
   rw[<-h3,iZ hi] at ht;exact h.closed _ (aI hi) t ht d2 hd2
theorem Used.len {l:List dY} {e:Ex} {u:List dY} (h:Used l e u):u.length<=l.length:=by
 have key:=Az (u.map fun c=>(Proofs.YtefjomofjejklaaGreatDoor.fG l c.name).getD 0) (List.range l.length) ?_ ?_
 ·simpa using key
 ·rw[List.Nodup,List.pairwise_map];have h1:=h.names;rw[List.Nodup,List.pairwise_map] at h1;refine h1.imp_of_mem fun {a b} ha hb hne he=>?_
  obtain⟨_,d,h2,_⟩:=h.defs a ha;obtain⟨_,d',h3,_⟩:=h.defs b hb;rw[h2,h3] at he;simp only[Option.getD_some] at he;subst he;exact hne ((yJ h2).1.symm.trans (yJ h3).1)
 intro x hx;obtain⟨c,hc,rfl⟩:=List.mem_map.1 hx;obtain⟨_,d,h2,_⟩:=h.defs c hc;rw[h2];exact List.mem_range.2 (sH h2)
theorem Used.good {l:List dY} {e:Ex} {u:List dY} (h:Used l e u) {o:ZN} (ht:ad8 (u.map dY.dfn) o) (hb:∀c∈u,vJ c.cond=true) (he:vJ e=true):szE (uY u o) e=expanded l e:=by
 have hlt:∀i∈o,i<u.length:=fun i hi=>by simpa using ht.lt hi
 rw[aoq ht (fun i hi=>by rw[iZ (hlt i hi)];exact h.fG (hlt i hi)) (fun i hi=>by rw[iZ (hlt i hi)];exact hb _ (aI _)) e he];unfold expanded;rw[<-h.same (l.length+1) e h.top,mG,mG];refine yI _ fun s hs=>?_
 cases hd:Proofs.YtefjomofjejklaaGreatDoor.fG u s with
 | none=>rfl
 | some i =>
  have hi:=sH hd;have hio:i∈o:=(ht.all i).2 (by rw[yx hi,(h.defs _ (aI hi)).1];rfl);obtain⟨q,hq⟩:=List.mem_iff_getElem?.1 hio;have hql:q<o.length:=(List.getElem?_eq_some_iff.1 hq).1;have h1:=ht.len;have h2:=h.len;simp only[List.length_map] at h1;simp only[Option.map_some,Option.some.injEq];exact Ua ht q i hq _ _ (by omega) (by omega)
theorem Used.cyclic {l:List dY} {e:Ex} {u:List dY} (h:Used l e u) {o:ZN} (ho:SH (u.map dY.dfn) o []) (hc:o.length<countOf (u.map dY.dfn)):expanded l e=2001:=by
 have hbad:∀f i,(hi:i<u.length)->i∉o->mG u f u[i].cond=2001:=by
  intro f;induction f with
  | zero=>intro i _ _;rfl
  | succ f ih =>
   intro i hi hio;have hdef:ku (u.map dY.dfn) i=true:=by rw[yx hi,(h.defs _ (aI hi)).1];rfl
   have hm:qV (u.map dY.dfn) o i≠[]:=fun hm=>hio (by have:=(ho.ready i).2 ⟨hdef,hm⟩;simpa using this)
   obtain⟨s,hs⟩:=List.exists_mem_of_ne_nil _ hm;obtain⟨h1,d,h2,h3⟩:=CX.1 hs;rw[BJ hi,xP] at h1;rw[vZ] at h2;have hdl:=sH h2;refine aiP h1 h2 ?_;rw[iZ hdl];exact ih d hdl h3
 obtain⟨i,hi,hio⟩:∃i,i<u.length/\i∉o:=by
  refine Classical.byContradiction fun hn=>?_
  have:=Az _ o (List.nodup_range.filter (ku (u.map dY.dfn))) fun i hi=>Classical.byContradiction fun hio=>hn ⟨i,by simpa using pY (Jw.1 hi),hio⟩
  unfold countOf at hc;omega
 obtain⟨_,d,h1,h2,h3⟩:=h.defs _ (aI hi);refine h3.large (fun f=>?_) _;rw[<-h2,<-h.same f u[i].cond (h.closed _ (aI hi))];exact hbad f i hi hio
open Go.RowKit Go.Maps
def aaw (D:BA->Option Nat):BA->Option Value:=fun s=>(D s).map fun (n:Nat)=>Value.int .i64 (n:Int)
mutual
theorem aFP {D:BA->Option Nat} (hD:∀s n,D s=some n->n<=2001):(e:Ex)->szE D e<=2001
 | .mk op name _ _ _ args=>by
  rw[szE];have hl:=aFO hD args 1 (by omega);by_cases h3:op=3
  ·rw[dw h3];cases hd:D name with
   | none=>exact hl
   | some n=>exact hD name n hd
  rw[dh h3];exact hl
theorem aFO {D:BA->Option Nat} (hD:∀s n,D s=some n->n<=2001):(l:List Ex)->∀n,n<=2001->szL D n l<=2001
 | [],n,hn=>by simp[szL];omega
 | e::r,n,hn=>by
  rw[szL];exact aFO hD r _ (by omega)
end
def aZa (D:BA->Option Nat) (na:Nat) (args:List Ex) (w1:World) (t i:Value) (wr:World):Prop:=∃k:Nat,i=.int .i64 k/\k<=na/\t=.int .i64 ((szL D 1 (args.take k):Nat):Int)/\szL D 1 (args.take k)<=2001/\Ext w1 wr
theorem adW (D:BA->Option Nat) (hD:∀s n,D s=some n->n<=2001) (bm nm:Nat):∀(m:Nat) (e:Ex) (ev:Value) (w:World),e.size<=m->m<=1000000000000000->e.fits->MapAt w 9 bm nm (oh (aaw D))->fC w e ev ->
  Calls Tryz.prog 83 #[.map (some bm),ev] w (dN (.int .i64 (szE D e)) w):=by
 intro m;induction m with
 | zero=>intro e ev w h;have:=size_pos e;omega
 | succ m ihm =>
  intro e ev w hm YJ hfit hmap he;obtain⟨aw,nw,cw,aa,na,ca,rfl,hw,hna,hca,ha,hx⟩:=he.parts;obtain⟨hnm,hfa⟩:=TW hfit;have hS:e.size=1+sizes e.args:=e.size_eq;have hla:=iI e.args;have Q9:na<=1000000000000000:=by omega
  have aHm:sizes e.args<=m:=by omega
  have HM:=ak hmap;have HX:=ak hx;have nK:=ak hna;have Gh:=ak hfa;have HSL:=ak (aFP hD);have MQ:=ak (aK' D e);have IHM:=ak ihm;clear hw hna hca ha hx he hS hla ihm hm hfa hfit hmap;unfold exV;obtain⟨wa,dW⟩:∃wa,wa=w.alloc (.cells (aC e.op e.name aw nw cw e.lo e.hi aa na ca) 45):=⟨_,rfl⟩
  have hxa:Ext w wa:=by rw[dW];exact(Ext.refl _).alloc _
  have hb1:wa.heap[w.heap.size]?=some (.cells (aC e.op e.name aw nw cw e.lo e.hi aa na ca) 45 (0,0)):=by rw[dW];exact dG w _
  have fE:=ak hxa;have HB1:=ak hb1;obtain⟨f0,f1,f2,f3,f4,f5,ff⟩:=eP hb1;have nP:=dH hb1;have OU:=ak (HM.o.ext hxa);clear hxa hb1;by_cases hdef:e.op=3/\(D e.name).isSome=true
  ·obtain⟨h3,hds⟩:=hdef;obtain⟨q,hq⟩:=Option.isSome_iff_exists.1 hds;have t3:(e.op==3)=true:=by simp[h3]
   have HQ:=ak (show szE D e=q by rw[MQ.o,dw h3,hq]);have HF:=ak (show oh (aaw D) (.string e.name.data.toList)=some (.int .i64 q) by rw[tV,aaw,hq];rfl);clear hds hq h3 MQ;go_enter Tryz.func83,Tryz.ntmps83
   go_upto_region 2 with fail
   rw[<-dW];clear dW;go_wp2_with (at_lookup;refine jI _ rfl _ _ 136 rfl 9 3 jR Qq (OV _) bm nm _ rfl OU.o _ _ rfl (oI hnm) trivial ?_;rw[HF.o])
   go_ret;exact dP (by rw[HQ.o]) fE.o
  have HQ:=ak (show szE D e=szL D 1 e.args by
   rw[MQ.o];by_cases h3:e.op=3
   ·rw[dw h3];cases hd:D e.name with
    | none=>rfl
    | some q=>exact absurd ⟨h3,by rw[hd];rfl⟩ hdef
   rw[dh h3])
  clear MQ;by_cases h3:e.op=3
  case' pos =>
   have t3:(e.op==3)=true:=by simp[h3]
   have HF:=ak (show oh (aaw D) (.string e.name.data.toList)=none by
    rw[tV,aaw];cases hd:D e.name with
    | none=>rfl
    | some q=>exact absurd ⟨h3,by rw[hd];rfl⟩ hdef)
   clear h3 hdef;go_enter Tryz.func83,Tryz.ntmps83
   go_upto_region 2 with fail
   rw[<-dW];clear dW;go_wp2_with (at_lookup;refine jI _ rfl _ _ 136 rfl 9 3 jR Qq (OV _) bm nm _ rfl OU.o _ _ rfl (oI hnm) trivial ?_;rw[HF.o])
   clear HF
  case' neg =>
   have t3:(e.op==3)=false:=by simp[h3]
   clear h3 hdef;go_enter Tryz.func83,Tryz.ntmps83
   go_wp2_with fail
   rw[<-dW];clear dW
  all_goals
   clear f0 f1 f2 f3 f4 f5 ff;go_loopw [7,25] (aZa D na e.args wa) (fun _ i _=>na - (intOf i).toNat)
   case atStart=>exact⟨0,rfl,by omega,by simp[szL],by simp[szL],Ext.refl _⟩
   case round =>
    obtain⟨k,rfl,hk,rfl,hle,hxr⟩:=hrel;have kC:=ak hxr;clear hxr;obtain⟨N,hN⟩:∃N,N=szL D 1 (e.args.take k):=⟨_,rfl⟩
    rw[<-hN] at hle ⊢;have Aj:=ak hN;clear hN;by_cases hkn:k<na
    ·have hka:k<e.args.length:=by have:=nK.o;omega
     have t1:=ah ((k:Int)<(na:Int));obtain⟨b,off,rfl,rJ,rF,rH,rM,rG,ca1,h0,h1,h2,h3,h4,h5,h6⟩:=iK.at e.args _ (iK.ext (fE.o.trans kC.o) e.args _ HX.o) k hka;have H6:=ak h6;have hs1:=iq e.args k hka;have hs2:=gV e.args (k+1);have hk1:e.args[k].size<=m:=by omega
     have Iq:=ak (amU D e.args 1 k hka);have hel:=HSL.o e.args[k];have hblt:=block_lt h0;simp only at hblt;clear h6 hs1 hs2;obtain⟨wx,hwx⟩:∃wx,wx=wr.alloc (.cells #[.int .i64 e.args[k].op,.string e.args[k].name,.slice rJ rF rH,.int .i64 e.args[k].lo,.int .i64 e.args[k].hi,.slice rM rG ca1] 45):=⟨_,rfl⟩
     have Dl:=ak (show Ext wr wx by rw[hwx];exact(Ext.refl _).alloc _);go_wp2_with fail
     rw[<-hwx];clear hwx;refine(IHM.o e.args[k] _ _ hk1 (by omega) (Gh.o _ (aI hka)) (OU.o.ext (kC.o.trans Dl.o)) (H6.o.ext Dl.o)).mono ?_;rintro r w3 ⟨rfl,hx3⟩;have gU:=ak (kC.o.trans (Dl.o.trans hx3));clear hx3 h0 h1 h2 h3 h4 h5;go_wp2_with fail
     all_goals
      go_roundw
      case rel=>exact⟨k+1,by go_num,by omega,by rw[Iq.o,<-Aj.o];congr 1;omega,by rw[Iq.o];omega,gU.o⟩
      case measure=>simp[intOf];omega
    have t1:=aj ((k:Int)<(na:Int));have HR:=ak (show N=szE D e by rw[HQ.o,Aj.o,aY (by have:=nK.o;omega)]);have NR:=ak (fE.o.trans kC.o);go_wp2_with fail
    go_ret;exact dP (by rw[<-HR.o]) NR.o
theorem KT:Tryz.prog.underlying 131=some (.map 9 45):=by kernel_rfl
theorem Ql (w:World):(zeroValue 45).run Tryz.prog w=.ok (.agg #[.int .i64 0,.string ⟨#[]⟩,.slice none 0 0,.int .i64 0,.int .i64 0,.slice none 0 0]) w:=by kernel_rfl
theorem X5 {l:List dY} {k:Nat} (hk:k<l.length) (s:BA):fG (l.take (k+1)) s=match fG (l.take k) s with|some d=>some d|none=>if l[k].kind=1/\l[k].name=s then some k else none:=by
 have h:=XV (l:=l.map dY.dfn) (k:=k) (by simpa using hk) s;rw[<-List.map_take,<-List.map_take,vZ,vZ] at h;rw[h];cases fG (l.take k) s<;>simp[dY.dfn]
def YZ (w:World) (l:List dY) (g:BA->Option Value):Prop:=∀s,(fG l s=none->g s=none)/\∀d,fG l s=some d->∃v,g s=some v/\fC w (l.getD d iT).cond v
theorem YZ.ext {w w':World} {l:List dY} {g:BA->Option Value} (h:YZ w l g) (hx:Ext w w'):YZ w' l g:=fun s=>⟨(h s).1,fun d hd=>by obtain⟨v,h1,h2⟩:=(h s).2 d hd;exact⟨v,h1,h2.ext hx⟩⟩
def Cm (w:World) (l:List dY) (b n:Nat):Prop:=∃g,MapAt w 9 b n (oh g)/\YZ w l g
theorem Cm.ext {w w':World} {l:List dY} {b n:Nat} (h:Cm w l b n) (hx:Ext w w'):Cm w' l b n:=by
 obtain⟨g,h1,h2⟩:=h;exact⟨g,h1.ext hx,h2.ext hx⟩
theorem getD_take {l:List dY} {k d:Nat} (hd:d<k):(l.take k).getD d iT=l.getD d iT:=by simp[List.getD,hd]
theorem YZ.skip {w:World} {l:List dY} {k:Nat} {g:BA->Option Value} (hk:k<l.length) (h:YZ w (l.take k) g) (hs:l[k].kind≠1\/fG (l.take k) l[k].name≠none):YZ w (l.take (k+1)) g:=by
 intro s;have hdd:∀d,fG (l.take k) s=some d->d<k:=fun d hd=>by have:=sH hd;simp at this;omega
 have key:fG (l.take (k+1)) s=fG (l.take k) s:=by
  rw[X5 hk];cases hd:fG (l.take k) s with
  | some d=>rfl
  | none =>
   rw[dh];rintro⟨h1,h2⟩;rcases hs with h3|h3
   ·exact h3 h1
   rw[h2] at h3;exact h3 hd
 rw[key];refine⟨(h s).1,fun d hd=>?_⟩;have:=hdd d hd;rw[getD_take (by omega),<-getD_take (k:=k) this];exact(h s).2 d hd
theorem YZ.step {w:World} {l:List dY} {k:Nat} {g:BA->Option Value} (hk:k<l.length) (h:YZ w (l.take k) g) (hk1:l[k].kind=1) (hn:fG (l.take k) l[k].name=none) {v:Value} (hv:fC w l[k].cond v):YZ w (l.take (k+1)) (upS g l[k].name (some v)):=by
 intro s;rw[X5 hk];by_cases e:s=l[k].name
 ·subst e;rw[hn,CO];simp only[hk1,and_self,if_true];refine⟨fun h=>by simp at h,fun d hd=>?_⟩;obtain rfl:k=d:=by simpa using hd
  rw[getD_take (by omega),iZ hk];exact⟨v,rfl,hv⟩
 rw[yj _ _ e];cases hd:fG (l.take k) s with
 | none =>
  have:¬(l[k].kind=1/\l[k].name=s):=fun h=>e h.2.symm
  simp only[dh this];exact⟨fun _=>(h s).1 hd,fun d hd'=>by cases hd'⟩
 | some d =>
  have hdk:d<k:=by have:=sH hd;simp at this;omega
  refine⟨fun h=>by simp at h,fun d' hd'=>?_⟩;obtain rfl:d=d':=by simpa using hd'
  rw[getD_take (by omega),<-getD_take (k:=k) hdk];exact(h s).2 d hd
def aY3 (l:List dY) (n:Nat) (w:World) (e:Ending) (w':World):Prop:=∃b,e=.returned (.map (some b))/\Cm w' l b n/\Ext w w'
theorem JL (l:List dY) (a:OA) (n c:Nat) (w:World) (hl:eX w l a n c) (hn:n<=1000000) (hsz:∀x∈l,x.name.size<=1000000000000000) :
  Calls Tryz.prog 78 #[.slice a n c] w (aY3 l n w):=by
 have HL:=ak hl;have HN:=ak hl.len;have zN:=ak hsz;clear hl hsz;have hmm:=@run_makeMap Tryz.prog;have HM0:=ak (MapAt.made w 9);have HX0:=ak ((Ext.refl w).alloc (.map #[] 0));obtain⟨bf,hbf⟩:∃bf:Nat,bf=w.heap.size:=⟨_,rfl⟩
 rw[<-hbf] at HM0;have HBF:=ak hbf;go_enter Tryz.func78,Tryz.ntmps78
 go_wp2_with fail
 rw[<-hbf];clear hbf hmm;go_loopw [11] (fun i wr=>∃(k:Nat) (g:BA->Option Value),k<=n/\i=.int .i64 k/\MapAt wr 9 bf k (oh g)/\YZ w (l.take k) g/\Ext w wr) (fun i _=>n - (intOf i).toNat)
 case atStart =>
  refine⟨0,fun _=>none,by omega,rfl,HM0.o.congr fun x=>?_,fun s=>⟨fun _=>rfl,fun d hd=>?_⟩,HX0.o⟩
  ·cases x<;>simp[oh]
  simp[fG] at hd
 case round =>
  obtain⟨k,g,hk,rfl,hmap,hg,hx⟩:=hrel;have Kr:=ak hmap;have HX:=ak hx;have HG:=ak hg;have hbw:=hmap.lt;clear hmap hx hg HM0 HX0;by_cases hlt:k<n
  ·have hlt':k<l.length:=by have:=HN.o;omega
   have t1:=ah ((k:Int)<(n:Int));obtain⟨cb,oZ,v,rfl,jr,hrow⟩:=HL.o.at hlt';obtain⟨c0,c1,c2,c3,c4,c5,c6,c7,c8,c9⟩:=(hrow.mono HX.o.sub).ten;have hns:v.name.size<=1000000000000000:=by rw[jr.2.1];exact zN.o _ (aI hlt')
   have hblt:=block_lt c0;simp only at hblt;have HEX:=ak (show fC w l[k].cond (.agg #[.int .i64 v.x.op,.string v.x.name,.slice v.x.aw v.x.nw v.x.cw,.int .i64 v.x.lo,.int .i64 v.x.hi,.slice v.x.aa v.x.na v.x.ca]) from jr.2.2.1);have HEK:=ak (show l[k].kind=v.kind from jr.1.symm);have SA:=ak (show l[k].name=v.name from jr.2.1.symm);have HST:=ak (fun h1 h2=>HG.o.step hlt' h1 h2 HEX.o);have Ym:=ak (HG.o.skip hlt');rw[HEK.o,SA.o] at HST Ym;clear jr hrow;cases hfa:fG (l.take k) v.name with
   | none =>
    have HF:=ak (show oh g (.string v.name.data.toList)=none by rw[tV];exact(HG.o _).1 hfa);cases hkd:(v.kind==1)
    ·have U6:=ak (Ym.o (Or.inl (by simpa using hkd)));go_wp2_with (at_lookup;refine jI _ rfl _ _ 131 rfl 9 45 jR KT (Ql _) bf k _ rfl (Kr.o.ext ((Ext.refl wr).alloc _)) _ _ rfl (oI hns) trivial ?_;rw[HF.o])
     go_roundw
     case rel=>exact⟨k+1,g,by omega,by go_num,(Kr.o.ext (((Ext.refl wr).alloc _).alloc _)).more (by omega),U6.o,(HX.o.alloc _).alloc _⟩
     case measure=>simp[intOf];omega
    have U6:=ak (HST.o (by simpa using hkd) hfa);clear hfa;go_wp2_with (first
     | (at_lookup;refine jI _ rfl _ _ 131 rfl 9 45 jR KT (Ql _) bf k _ rfl (Kr.o.ext ((Ext.refl wr).alloc _)) _ _ rfl (oI hns) trivial ?_;rw[HF.o])
     | (at_mapUpdate;refine oU _ rfl _ _ _ 131 rfl 9 45 jR KT bf k _ rfl (Kr.o.ext (((Ext.refl wr).alloc _).alloc _)) ?c3 _ _ _ rfl rfl (oI hns) trivial ?_))
    case c3=>unfold maxLen;omega
    intro w1 hm1 hc1;have HM1:=ak (hm1.congr (Jm g v.name _));have fQ:=ak (hc1.ext ((HX.o.alloc _).alloc _) (by rw[<-HBF.o];simp));clear hm1 hc1;go_wp2_with fail
    go_roundw
    case rel=>exact⟨k+1,_,by omega,by go_num,HM1.o,U6.o,fQ.o⟩
    case measure=>simp[intOf];omega
   | some d =>
    obtain⟨u,hu,hux⟩:=(HG.o v.name).2 d hfa;obtain⟨aw,nw,cw,aa,na,ca,rfl,-,-,-,-,-⟩:=hux.parts;have HF:=ak (show oh g (.string v.name.data.toList)=some _ by rw[tV];exact hu);have U6:=ak (Ym.o (Or.inr (by rw[hfa];simp)));unfold exV at HF;clear hfa hu hux;cases hkd:(v.kind==1)
    all_goals
     go_wp2_with (at_lookup;refine jI _ rfl _ _ 131 rfl 9 45 jR KT (Ql _) bf k _ rfl (Kr.o.ext ((Ext.refl wr).alloc _)) _ _ rfl (oI hns) trivial ?_;rw[HF.o])
     go_roundw
     case rel=>exact⟨k+1,g,by omega,by go_num,(Kr.o.ext (((Ext.refl wr).alloc _).alloc _)).more (by omega),U6.o,(HX.o.alloc _).alloc _⟩
     case measure=>simp[intOf];omega
  have t1:=aj ((k:Int)<(n:Int));have hkn:k=n:=by omega
  have HGE:=ak (show Cm wr l bf n from⟨g,by rw[<-hkn];exact Kr.o,by have:=HG.o.ext HX.o;rwa [aY (by have:=HN.o;omega)] at this⟩);clear hkn;go_wp2_with fail
  go_ret;exact⟨bf,rfl,HGE.o,HX.o⟩
def Jz (op:Int):Int:=if op=3 then 3 else if op=4 then 1 else if op=5 then 2 else 0
def NC (s:List Attr) (l:List dY) (op:Int) (name:BA) (words:ZB) (lo hi:Int):Int :=
 if Jz op=0 then 0 else match iE s name with
 | none=>if op=3/\(fG l name).isSome=true then 0 else 7
 | some i=>if (s.getD i wO).kind≠Jz op then 9 else if (words.all fun x=>decide (x∈(s.getD i wO).words))=false then 7 else if lo<(s.getD i wO).lo\/(s.getD i wO).hi<hi then 1 else 0
theorem Yb {s:List Attr} {l:List dY} {op:Int} {name:BA} {words:ZB} {lo hi:Int} (hk:Jz op≠0) (h:iE s name=none):NC s l op name words lo hi=if op=3/\(fG l name).isSome=true then 0 else 7:=by
 unfold NC;rw[dh hk,h]
theorem Ya {s:List Attr} {l:List dY} {op:Int} {name:BA} {words:ZB} {lo hi:Int} (hk:Jz op≠0) {i:Nat} (h:iE s name=some i) (hi':i<s.length):NC s l op name words lo hi =
  if s[i].kind≠Jz op then 9 else if (words.all fun x=>decide (x∈s[i].words))=false then 7 else if lo<s[i].lo\/s[i].hi<hi then 1 else 0:=by
 unfold NC;rw[dh hk,h];simp only[Dy hi']
theorem awy (s:List Attr) (sv:Value) (l:List dY) (bm nm:Nat) (e:Ex) (ev:Value) (w:World) (hs:fJ w s sv) (hf:∀x∈s,x.fits) (hsl:s.length<=1000000000000000) (hd:Cm w l bm nm) (he:fC w e ev) (hew:e.words.length<=1000000000000000) (hen:e.name.size<=1000000000000000) :
  Calls Tryz.prog 169 #[sv,.map (some bm),ev] w (dN (.int .i64 (NC s l e.op e.name e.words e.lo e.hi)) w):=by
 obtain⟨sa,sn,sc,rfl,hsn⟩:=hs.slice;obtain⟨aw,nw,cw,aa,na,ca,rfl,hw,hna,hca,ha,hx⟩:=he.parts;have HS:=ak hs;have HF:=ak hf;have HD:=ak hd;have HW:=ak hw;have RY:=ak hsn;have HNW:=ak hw.1;have hnw:nw<=1000000000000000:=by rw[hw.1];exact hew
 have aUm:sn<=1000000000000000:=by omega
 clear hs hf hd hw hsn he hna hca ha hx hew;unfold exV;obtain⟨op,name,words,lo,hi,args⟩:=e;simp only[Ex.op,Ex.name,Ex.words,Ex.lo,Ex.hi] at *;obtain⟨wa,dW⟩:∃wa,wa=(w.alloc (.cells #[.slice sa sn sc] 24)).alloc (.cells (aC op name aw nw cw lo hi aa na ca) 45):=⟨_,rfl⟩
 have hxa:Ext w wa:=by rw[dW];exact((Ext.refl _).alloc _).alloc _
 have hb0:wa.heap[w.heap.size]?=some (.cells #[.slice sa sn sc] 24 (0,0)):=by rw[dW];exact dJ (dG w _)
 have hb1:wa.heap[w.heap.size+1]?=some (.cells (aC op name aw nw cw lo hi aa na ca) 45 (0,0)):=by rw[dW];exact eH (by simp)
 have HI:=ak (OX s _ name wa (HS.o.ext hxa) (by have:=RY.o;omega));have fE:=ak hxa;have HB0:=ak hb0;have HB1:=ak hb1;obtain⟨E,hE⟩:∃E,E=NC s l op name words lo hi:=⟨_,rfl⟩
 rw[<-hE];have HE:=ak hE;clear hE;obtain⟨a0,af⟩:=gQ hb0;obtain⟨b0,b1,b2,b3,b4,b5,bf⟩:=eP hb1;have hlt1:=dH hb1;clear hxa hb0 hb1;by_cases hop:op=3\/op=4\/op=5
 case neg =>
  have HR:=ak (show E=0 by
   rw[HE.o,NC,dw];unfold Jz;rw[dh (by omega),dh (by omega),dh (by omega)])
  have e3:(op==3)=false:=by simp;omega
  have e4:(op==4)=false:=by simp;omega
  have e5:(op==5)=false:=by simp;omega
  clear hop;go_enter Tryz.func169,Tryz.ntmps169
  go_upto_region 1 with fail
  rw[<-dW];clear dW;go_wp2_with fail
  go_ret;exact dP (by rw[HR.o]) fE.o
 obtain⟨kd,hkd⟩:∃kd:Int,(op=3/\kd=3)\/(op=4/\kd=1)\/(op=5/\kd=2):=by
  rcases hop with h|h|h
  ·exact⟨3,Or.inl ⟨h,rfl⟩⟩
  ·exact⟨1,Or.inr (Or.inl ⟨h,rfl⟩)⟩
  exact⟨2,Or.inr (Or.inr ⟨h,rfl⟩)⟩
 have hkf:Jz op=kd/\kd≠0:=by
  rcases hkd with ⟨rfl,rfl⟩|⟨rfl,rfl⟩|⟨rfl,rfl⟩<;>exact⟨rfl,by decide⟩
 clear hop;have HK0:=ak (show Jz op≠0 by rw[hkf.1];exact hkf.2);have Va:=ak hkf.1;clear hkf;cases ho:iE s name with
 | none =>
  rw[ho,FI] at HI;have HQ:=ak (show E=if op=3/\(fG l name).isSome=true then 0 else 7 by rw[HE.o];exact Yb HK0.o ho);clear ho HE HK0 Va;obtain⟨g,hmap,hg⟩:=HD.o;have Kr:=ak hmap;have HG:=ak hg;clear hmap hg;cases hda:fG l name with
  | none =>
   have HFN:=ak (show oh g (.string name.data.toList)=none by rw[tV];exact(HG.o _).1 hda);have HR:=ak (show E=7 by rw[HQ.o,hda];simp);clear hda HQ;rcases hkd with ⟨rfl,rfl⟩|⟨rfl,rfl⟩|⟨rfl,rfl⟩
   all_goals
    go_enter Tryz.func169,Tryz.ntmps169
    go_upto_region 1 with fail
    rw[<-dW];clear dW;go_wp2_with fail
    refine HI.o.mono ?_;rintro r w3 ⟨rfl,hx3⟩;have gU:=ak (fE.o.trans hx3);have HM3:=ak (Kr.o.ext gU.o);clear b0 b1 b2 b3 b4 b5 bf a0 af hlt1;obtain⟨b0,b1,b2,b3,b4,b5,bf⟩:=eP (hx3.blk HB1.o);have hlt:=dH (hx3.blk HB1.o);clear hx3;go_wp2_with (at_lookup;refine jI _ rfl _ _ 131 rfl 9 45 jR KT (Ql _) bm nm _ rfl HM3.o _ _ rfl (oI hen) trivial ?_;rw[HFN.o])
    go_ret;exact dP (by rw[HR.o]) (gU.o.alloc _)
  | some d =>
   obtain⟨u,hu,hux⟩:=(HG.o name).2 d hda;obtain⟨aw',nw',cw',aa',na',ca',rfl,-,-,-,-,-⟩:=hux.parts;have HFN:=ak (show oh g (.string name.data.toList)=some _ by rw[tV];exact hu);unfold exV at HFN;have HR:=ak (show E=if op=3 then 0 else 7 by rw[HQ.o,hda];simp);clear hda HQ hu hux;rcases hkd with ⟨rfl,rfl⟩|⟨rfl,rfl⟩|⟨rfl,rfl⟩
   all_goals
    go_enter Tryz.func169,Tryz.ntmps169
    go_upto_region 1 with fail
    rw[<-dW];clear dW;go_wp2_with fail
    refine HI.o.mono ?_;rintro r w3 ⟨rfl,hx3⟩;have gU:=ak (fE.o.trans hx3);have HM3:=ak (Kr.o.ext gU.o);clear b0 b1 b2 b3 b4 b5 bf a0 af hlt1;obtain⟨b0,b1,b2,b3,b4,b5,bf⟩:=eP (hx3.blk HB1.o);have hlt:=dH (hx3.blk HB1.o);clear hx3;go_wp2_with (at_lookup;refine jI _ rfl _ _ 131 rfl 9 45 jR KT (Ql _) bm nm _ rfl HM3.o _ _ rfl (oI hen) trivial ?_;rw[HFN.o])
    go_ret;exact dP (by rw[HR.o];decide) (gU.o.alloc _)
 | some i =>
  rw[ho,rY] at HI;have his:=Qi ho;have hin:i<sn:=by have:=RY.o;omega
  have HQ:=ak (show E=if s[i].kind≠kd then 9 else if (words.all fun x=>decide (x∈s[i].words))=false then 7 else if lo<s[i].lo\/s[i].hi<hi then 1 else 0 by rw[HE.o,Ya HK0.o ho his,Va.o]);clear ho HE HK0 Va;have Zr:(0:Int)<=(i:Int):=by omega
  have ti1:(i:Int)<(sn:Int):=by omega
  have hfi:=HF.o _ (aI his);have aZN:=hfi.2.1;clear hfi;by_cases hk:s[i].kind=kd
  case neg =>
   have tk:(s[i].kind != kd)=true:=by simp[hk]
   have HR:=ak (show E=9 by rw[HQ.o,dw hk]);clear hk HQ;rcases hkd with ⟨rfl,rfl⟩|⟨rfl,rfl⟩|⟨rfl,rfl⟩
   all_goals
    go_enter Tryz.func169,Tryz.ntmps169
    go_upto_region 1 with fail
    rw[<-dW];clear dW;go_wp2_with fail
    refine HI.o.mono ?_;rintro r w3 ⟨rfl,hx3⟩;have gU:=ak (fE.o.trans hx3);clear b0 b1 b2 b3 b4 b5 bf a0 af hlt1;obtain⟨d0,df⟩:=gQ (hx3.blk HB0.o);have hlt:=dH (hx3.blk HB1.o);obtain⟨sb,aTD,xw,xn,xc,rfl,g0,g1,g2,g3,g4,g5⟩:=(HS.o.ext gU.o).cells his;clear hx3 g5;go_wp2_with fail
    go_ret;exact dP (by rw[HR.o]) (gU.o.alloc _)
  have tk:(s[i].kind != kd)=false:=by simp[hk]
  have HR:=ak (show E=if (words.all fun x=>decide (x∈s[i].words))=false then 7 else if lo<s[i].lo\/s[i].hi<hi then 1 else 0 by rw[HQ.o,dh (by simpa using hk)]);clear hk HQ;rcases hkd with ⟨rfl,rfl⟩|⟨rfl,rfl⟩|⟨rfl,rfl⟩
  all_goals
   go_enter Tryz.func169,Tryz.ntmps169
   go_upto_region 1 with fail
   rw[<-dW];clear dW;go_wp2_with fail
   refine HI.o.mono ?_;rintro r w3 ⟨rfl,hx3⟩;have gU:=ak (fE.o.trans hx3);clear b0 b1 b2 b3 b4 b5 bf a0 af hlt1;obtain⟨d0,df⟩:=gQ (hx3.blk HB0.o);have rX:=ak (hx3.blk HB1.o);have hlt:=dH (hx3.blk HB1.o);obtain⟨sb,aTD,xw,xn,xc,rfl,g0,g1,g2,g3,g4,g5⟩:=(HS.o.ext gU.o).cells his;have HG5:=ak g5;have hxn:xn<=1000000000000000:=by rw[g5.1];exact aZN
   clear hx3 g5;go_upto_region 17 with fail
   obtain⟨wb,hwb⟩:∃wb,wb=w3.alloc (.cells #[.string s[i].name,.int .i64 s[i].kind,.slice xw xn xc,.int .i64 s[i].lo,.int .i64 s[i].hi] 101):=⟨_,rfl⟩
   rw[<-hwb];have hxb:Ext w3 wb:=by rw[hwb];exact(Ext.refl _).alloc _
   have hbb:wb.heap[w3.heap.size]?=some (.cells #[.string s[i].name,.int .i64 s[i].kind,.slice xw xn xc,.int .i64 s[i].lo,.int .i64 s[i].hi] 101 (0,0)):=by rw[hwb];exact dG w3 _
   have nZ:=ak hbb;have nM:=ak (hxb.blk rX.o);have HXB:=ak (gU.o.trans hxb);have HGB:=ak (HG5.o.ext hxb);have HWB:=ak (HW.o.ext HXB.o);obtain⟨p0,p1,p2,p3,p4,pf⟩:=awN hbb;obtain⟨q0,q1,q2,q3,q4,q5,qf⟩:=eP nM.o;have afc:=dH hbb;clear hwb hxb hbb d0 df g0 g1 g2 g3 g4 HG5 hlt;go_wp2_with fail
   go_loop [57] (fun t=>∃k:Nat,t=.int .i64 k/\k<=nw/\(∀j (h:j<words.length),j<k->decide (words[j]∈s[i].words)=true)) (fun t=>nw - (intOf t).toNat)
   case atStart=>exact⟨0,rfl,by omega,fun j _ h=>by omega⟩
   case round =>
    obtain⟨k,rfl,hk,hall⟩:=hrel;have qE:=ak hall;clear hall;by_cases hkn:k<nw
    ·have hkw:k<words.length:=by have:=HNW.o;omega
     have t1:=ah ((k:Int)<(nw:Int));obtain⟨wb',woff,rfl,cw0⟩:=HWB.o.2.2.2 k hkw;cases hany:decide (words[k]∈s[i].words)
     ·have HA:=ak hany;have HR2:=ak (show E=7 by
       rw[HR.o,dw];rw[List.all_eq_false];exact⟨words[k],aI hkw,by rw[hany];simp⟩)
      clear hany;go_wp2_with fail
      refine(uG _ _ _ _ _ _ hxn HGB.o).mono ?_;rintro e w' ⟨rfl,rfl⟩;rw[HA.o];go_wp2_with fail
      go_ret;exact dP (by rw[HR2.o]) HXB.o
     have HA:=ak hany;clear hany;go_wp2_with fail
     refine(uG _ _ _ _ _ _ hxn HGB.o).mono ?_;rintro e w' ⟨rfl,rfl⟩;rw[HA.o];go_wp2_with fail
     go_round
     case rel =>
      refine⟨k+1,by go_num,by omega,fun j hj hjk=>?_⟩;by_cases e:j=k
      ·subst e;exact HA.o
      exact qE.o j hj (by omega)
     case measure=>simp[intOf];omega
    have t1:=aj ((k:Int)<(nw:Int));have HR2:=ak (show E=if lo<s[i].lo\/s[i].hi<hi then 1 else 0 by
     rw[HR.o,dh];rw[Bool.not_eq_false,aV];intro y hy;obtain⟨j,hj,rfl⟩:=bD.1 hy;exact qE.o j hj (by have:=HNW.o;omega))
    clear qE;go_wp2_with fail
    all_goals (go_ret;exact dP (by rw[HR2.o];simp_all<;>omega) HXB.o)
structure jH where
 sa:OA
 sn:Nat
 sc:Nat
 bm:Nat
 fa:OA
 fn:Nat
 fc:Nat
def jH.val (v:jH):Value:=.agg #[.slice v.sa v.sn v.sc,.map (some v.bm),.slice v.fa v.fn v.fc]
structure Gy (w:World) (s:List Attr) (l:List dY) (f:ZI) (v:jH) (nm:Nat):Prop where
 DK:fJ w s (.agg #[.slice v.sa v.sn v.sc])
 defs:Cm w l v.bm nm
 facts:fO w f v.fa v.fn
theorem Gy.ext {w w':World} {s:List Attr} {l:List dY} {f:ZI} {v:jH} {nm:Nat} (h:Gy w s l f v nm) (hx:Ext w w'):Gy w' s l f v nm:=⟨h.DK.ext hx,h.defs.ext hx,h.facts.ext hx⟩
def aaV:Value:=.agg #[.int .i64 0,.string ⟨#[]⟩,.slice none 0 0,.int .i64 0,.int .i64 0,.slice none 0 0]
def aY4 (l:List dY) (op:Int) (name:BA) (w:World) (e:Ending) (w':World):Prop:=Ext w w'/\((op=3/\∃d v,fG l name=some d/\e=.returned (.tuple #[fU.val v,.bool true])/\fC w' (l.getD d iT).cond v.val)\/((op≠3\/fG l name=none)/\e=.returned (.tuple #[aaV,.bool false])))
theorem aHd {w:World} {e:Ex} {v:Value} (h:fC w e v):∃x:fU,v=x.val/\fC w e x.val:=by
 obtain⟨aw,nw,cw,aa,na,ca,rfl,-⟩:=h.parts;exact⟨⟨e.op,e.name,aw,nw,cw,e.lo,e.hi,aa,na,ca⟩,rfl,h⟩
theorem LM (s:List Attr) (l:List dY) (f:ZI) (lv:jH) (nm:Nat) (e:Ex) (ev:Value) (w:World) (hl:Gy w s l f lv nm) (he:fC w e ev) (hen:e.name.size<=1000000000000000) :
  Calls Tryz.prog 148 #[lv.val,ev] w (aY4 l e.op e.name w):=by
 obtain⟨aw,nw,cw,aa,na,ca,rfl,hw,hna,hca,ha,hx⟩:=he.parts;obtain⟨sa,sn,sc,bm,fa,fn,fc⟩:=lv;have HD:=ak hl.defs;clear hw hna hca ha hx hl he;unfold exV jH.val;obtain⟨op,name,words,lo,hi,args⟩:=e;simp only[Ex.op,Ex.name,Ex.lo,Ex.hi] at *;by_cases h3:op=3
 case neg =>
  have t3:(op != 3)=true:=by simp[h3]
  have H3:=ak h3;clear h3;go_enter Tryz.func148,Tryz.ntmps148
  go_wp2_with fail
  refine bodyPost_ret (v:=.tuple #[aaV,.bool false]) (by simp[results,Tryz.results148,go_sem,aaV]) rfl ?_;exact⟨by first|exact(((Ext.refl w).alloc _).alloc _).alloc _|exact Ext.refl w,Or.inr ⟨Or.inl H3.o,rfl⟩⟩
 subst h3;obtain⟨g,hmap,hg⟩:=HD.o;have Kr:=ak hmap;have HG:=ak hg;clear hmap hg;cases hda:fG l name with
 | none =>
  have HFN:=ak (show oh g (.string name.data.toList)=none by rw[tV];exact(HG.o _).1 hda);have Yq:=ak hda;clear hda HG;go_enter Tryz.func148,Tryz.ntmps148
  go_wp2_with (at_lookup;refine jI _ rfl _ _ 131 rfl 9 45 jR KT (Ql _) bm nm _ rfl (Kr.o.ext ((((Ext.refl w).alloc _).alloc _).alloc _)) _ _ rfl (oI hen) trivial ?_;rw[HFN.o])
  refine bodyPost_ret (v:=.tuple #[aaV,.bool false]) (by simp[results,Tryz.results148,go_sem,aaV]) rfl ?_;exact⟨((((Ext.refl w).alloc _).alloc _).alloc _).alloc _,Or.inr ⟨Or.inr Yq.o,rfl⟩⟩
 | some d =>
  obtain⟨u,hu,hux⟩:=(HG.o name).2 d hda;obtain⟨xv,rfl,hxv⟩:=aHd hux;have HFN:=ak (show oh g (.string name.data.toList)=some _ by rw[tV];exact hu);have HXV:=ak hxv;have Yq:=ak hda;clear hda HG hu hux hxv;obtain⟨xo,xn,xaw,xnw,xcw,xlo,xhi,xaa,xna,xca⟩:=xv;unfold fU.val exV at HFN HXV;go_enter Tryz.func148,Tryz.ntmps148
  go_wp2_with (at_lookup;refine jI _ rfl _ _ 131 rfl 9 45 jR KT (Ql _) bm nm _ rfl (Kr.o.ext ((((Ext.refl w).alloc _).alloc _).alloc _)) _ _ rfl (oI hen) trivial ?_;rw[HFN.o])
  refine bodyPost_ret (v:=.tuple #[fU.val ⟨xo,xn,xaw,xnw,xcw,xlo,xhi,xaa,xna,xca⟩,.bool true]) (by simp[results,Tryz.results148,go_sem,fU.val,exV]) rfl ?_;have hx:Ext w _:=(((((Ext.refl w).alloc (.cells #[.slice sa sn sc,.map (some bm),.slice fa fn fc] 183)).alloc (.cells (aC 3 name aw nw cw lo hi aa na ca) 45)).alloc (.cells (aC xo xn xaw xnw xcw xlo xhi xaa xna xca) 45)).alloc (.cells (aC xo xn xaw xnw xcw xlo xhi xaa xna xca) 45))
  exact⟨hx,Or.inl ⟨rfl,d,_,Yq.o,rfl,HXV.o.ext hx⟩⟩
theorem Qe {s:List Attr} {l:List dY} {e:Ex} (ht:jA e) (h:fB s l e=0) (h6:e.op≠6/\e.op≠7/\e.op≠8) (hd:e.op=3->fG l e.name=none):e.op=1\/e.op=2\/(e.op=3/\∃i,iE s e.name=some i)\/(e.op=4/\∃i,iE s e.name=some i/\(s.getD i wO).kind=1)\/(e.op=5/\∃i,iE s e.name=some i):=by
 rcases agx ht h with h1|h1|⟨h1,i,h2,-⟩|⟨h1,-,d,h2⟩|⟨h1,i,h2,h3⟩|⟨h1,i,h2,-⟩|⟨h1,-⟩|h1|h1
 ·exact Or.inl h1
 ·exact Or.inr (Or.inl h1)
 ·exact Or.inr (Or.inr (Or.inl ⟨h1,i,h2⟩))
 ·rw[hd h1] at h2;cases h2
 ·exact Or.inr (Or.inr (Or.inr (Or.inl ⟨h1,i,h2,h3⟩)))
 ·exact Or.inr (Or.inr (Or.inr (Or.inr ⟨h1,i,h2⟩)))
 ·exact absurd h1 h6.1
 ·exact absurd h1 h6.2.1
 exact absurd h1 h6.2.2
theorem O7 {e:Ex} (h:jA e):e.words.length<=12/\e.name.size<=1000:=by
 rcases(kP h).1 with ⟨-,h1,h2,-⟩|⟨-,h1,h2,-⟩|⟨-,h1,h2,-⟩|⟨-,h1,h2,-⟩|⟨-,h1,h2,-⟩|⟨-,h1,h2,-⟩|⟨-,h1,h2,-⟩
 ·rw[h1,h2];exact⟨by simp,by decide⟩
 ·rw[h1,h2];exact⟨by simp,by decide⟩
 ·rw[h2];exact⟨by simp,by have:=aeV h1;omega⟩
 ·simp only[uN,aJ] at h2;exact⟨of_decide_eq_true h2.1.1.2,by have:=aeV h1;omega⟩
 ·rw[h2];exact⟨by simp,by have:=aeV h1;omega⟩
 ·rw[h1,h2];exact⟨by simp,by decide⟩
 rw[h1,h2];exact⟨by simp,by decide⟩
theorem adN (s:List Attr) (l:List dY) (f:ZI) (lv:jH) (nm:Nat) (hsc:fD s=0) (hfa:jq s f=true) (e:Ex) (ev:Value) (w:World) (hl:Gy w s l f lv nm) (he:fC w e ev) (hok:jA e)
  (hw5:e.op=1\/e.op=2\/(e.op=3/\∃i,iE s e.name=some i)\/(e.op=4/\∃i,iE s e.name=some i/\(s.getD i wO).kind=1)\/(e.op=5/\∃i,iE s e.name=some i)) :
  Calls Tryz.prog 149 #[lv.val,ev] w (dN (.bool (yZ s f e.op e.name e.words e.lo e.hi)) w):=by
 have hwl:=O7 hok;obtain⟨aw,nw,cw,aa,na,ca,rfl,hw,hna,hca,ha,hx⟩:=he.parts;obtain⟨sa,sn,sc,bm,fa,fn,fc⟩:=lv;have HS:=ak hl.DK;have HI:=ak hl.facts;have HW:=ak hw;have Gh:=ak hfa;have aDx:=(kN hsc).2.1;have yD:=ak (fun W (hW:Ext w W)=>OX s _ e.name W (hl.DK.ext hW) (by omega));have RY:=ak (show sn=s.length by obtain⟨a',n',c',e',h',-⟩:=hl.DK.parts;simp at e';omega);clear hw hna hca ha hx hl he hok hfa aDx hsc;unfold exV jH.val;obtain⟨op,name,words,lo,hi,args⟩:=e;simp only[Ex.op,Ex.name,Ex.words,Ex.lo,Ex.hi] at *;have hwn:=hwl.1;have Gm:=ak hwl.2;clear hwl;obtain⟨R,hR⟩:∃R,R=yZ s f op name words lo hi:=⟨_,rfl⟩
 rw[<-hR];have HR:=ak hR;clear hR;obtain⟨wa,dW⟩:∃wa,wa=(w.alloc (.cells #[.slice sa sn sc,.map (some bm),.slice fa fn fc] 183)).alloc (.cells (aC op name aw nw cw lo hi aa na ca) 45):=⟨_,rfl⟩
 have hxa:Ext w wa:=by rw[dW];exact((Ext.refl _).alloc _).alloc _
 have hb0:wa.heap[w.heap.size]?=some (.cells #[.slice sa sn sc,.map (some bm),.slice fa fn fc] 183 (0,0)):=by rw[dW];exact dJ (dG w _)
 have hb1:wa.heap[w.heap.size+1]?=some (.cells (aC op name aw nw cw lo hi aa na ca) 45 (0,0)):=by rw[dW];exact eH (by simp)
 have fE:=ak hxa;have HB0:=ak hb0;have HB1:=ak hb1;obtain⟨f0,f1,f2,f3,f4,f5,ff⟩:=eP hb1;obtain⟨e0,e1,e2,ef⟩:=fZ hb0;have nP:=dH hb1;clear hxa hb0 hb1;rcases hw5 with rfl|rfl|⟨rfl,i,hat⟩|⟨rfl,i,hat,hkd⟩|⟨rfl,i,hat⟩
 ·have HQ:=ak (show R=true by rw[HR.o];simp[yZ]);go_enter Tryz.func149,Tryz.ntmps149
  go_upto_region 1 with fail
  rw[<-dW];clear dW;go_wp2_with fail
  go_ret;exact dL (by rw[HQ.o]) fE.o
 ·have HQ:=ak (show R=false by rw[HR.o];simp[yZ]);go_enter Tryz.func149,Tryz.ntmps149
  go_upto_region 1 with fail
  rw[<-dW];clear dW;go_wp2_with fail
  go_ret;exact dL (by rw[HQ.o]) fE.o
 ·obtain⟨his,-⟩:=Qj hat;obtain⟨hif,-,-⟩:=abR Gh.o his;obtain⟨fb,fo,rfl,hcell⟩:=HI.o.2 i hif;obtain⟨z,hz⟩:∃z,z=f[i]:=⟨_,rfl⟩
  rw[<-hz] at hcell;have HQ:=ak (show R=(z==1) by
   rw[HR.o];simp only[yZ,hat];rw[dh (by decide),dh (by decide),dh (by decide),dh (by decide),bW];simp[hif,<-hz])
  have hin:i<fn:=by rw[HI.o.1];exact hif
  have HCF:=ak hcell;rw[hat,rY] at yD;clear hat his hif hcell hz;go_enter Tryz.func149,Tryz.ntmps149
  go_upto_region 1 with fail
  rw[<-dW];clear dW;go_wp2_with fail
  refine(yD.o wa fE.o).mono ?_;rintro r w1 ⟨rfl,hx1⟩;have fQ:=ak (fE.o.trans hx1);clear f0 f1 f2 f3 f4 f5 ff e0 e1 e2 ef nP;obtain⟨f0,f1,f2,f3,f4,f5,ff⟩:=eP (hx1.blk HB1.o);obtain⟨e0,e1,e2,ef⟩:=fZ (hx1.blk HB0.o);have hcf:=fQ.o.cell HCF.o;clear hx1;go_wp2_with fail
  go_ret;exact dL (by rw[HQ.o]) fQ.o
 ·obtain⟨his,-⟩:=Qj hat;obtain⟨hif,hlo2,hhi2⟩:=abR Gh.o his;have azC:s[i].kind=1:=by rw[<-hkd];simp[his]
  have hdm:DU s[i]=(0,(s[i].words.length:Int) - 1):=by unfold DU;rw[dw azC]
  rw[hdm] at hlo2 hhi2;simp only at hlo2 hhi2;obtain⟨ab,ao,rfl,hA⟩:∃ab ao,sa=some ⟨ab,ao,none⟩/\Yw w s[i] ab (ao+i*5):=by
   obtain⟨xa,xn,xc,e',-,-,-,hq⟩:=HS.o.parts;simp only[Value.agg.injEq,Array.mk.injEq,List.cons.injEq,Value.slice.injEq,and_true] at e';obtain⟨rfl,rfl,rfl⟩:=e';exact hq i his
  obtain⟨x1,hx1⟩:∃x1,x1=s[i]:=⟨_,rfl⟩
  rw[<-hx1] at hA azC hhi2;obtain⟨bw,nwa,cwa,hstr,aaK⟩:=hA.five;have H5:=ak aaK;obtain⟨fb,fo,rfl,hcell⟩:=HI.o.2 i hif;obtain⟨z,hz⟩:∃z:Nat,f[i]=(z:Int):=⟨f[i].toNat,by omega⟩
  rw[hz] at hcell hlo2 hhi2;have hzw:z<x1.words.length:=by omega
  obtain⟨wb,wo,rfl,hwc⟩:=hstr.2.2.2 z hzw;have HWC:=ak hwc;have hzn:z<nwa:=by rw[hstr.1];exact hzw
  have HQ:=ak (show R=decide (x1.words[z]∈words) by
   rw[HR.o];simp only[yZ,hat];rw[dh (by decide),dh (by decide),dw (by decide),bW];simp[his,hif,hz,<-hx1,hzw])
  have hin:i<fn:=by rw[HI.o.1];exact hif
  have a0k:i<sn:=by rw[RY.o];exact his
  have HCF:=ak hcell;have HWI:=ak (fun W (hW:Ext w W)=>uG words x1.words[z] aw nw cw W (by rw[HW.o.1];omega) (HW.o.ext hW));rw[hat,rY] at yD;obtain⟨x,hxx⟩:∃x,x=x1.words[z]:=⟨_,rfl⟩
  rw[<-hxx] at HWC HQ HWI;clear hx1 hat hkd his hif hlo2 hhi2 hcell hz azC hdm hA hstr aaK hwc hzw hxx;go_enter Tryz.func149,Tryz.ntmps149
  go_upto_region 1 with fail
  rw[<-dW];clear dW;go_wp2_with fail
  refine(yD.o wa fE.o).mono ?_;rintro r w1 ⟨rfl,hx1⟩;have fQ:=ak (fE.o.trans hx1);clear f0 f1 f2 f3 f4 f5 ff e0 e1 e2 ef nP;obtain⟨f0,f1,f2,f3,f4,f5,ff⟩:=eP (hx1.blk HB1.o);obtain⟨e0,e1,e2,ef⟩:=fZ (hx1.blk HB0.o);have hcf:=fQ.o.cell HCF.o;have hwf:=fQ.o.cell HWC.o;obtain⟨g0,g1,g2,g3,g4⟩:=H5.o w1 fQ.o;clear hx1;go_wp2_with fail
  go_still_tail 12,(by kernel_rfl)
  change wpList _ _ _ _ _ w1.drew
  have hx2:Ext w1 w1.drew:=(Ext.refl w1).drew;generalize w1.drew=w2 at hx2 ⊢;have gI:=ak (fQ.o.trans hx2);clear hx2 f0 f1 f2 f3 f4 f5 ff e0 e1 e2 ef hcf hwf g0 g1 g2 g3 g4;go_wp2_with fail
  refine(HWI.o w2 gI.o).mono ?_;rintro r w3 ⟨rfl,rfl⟩;go_wp2_with fail
  go_ret;exact dL (by rw[HQ.o]) gI.o
 obtain⟨his,-⟩:=Qj hat;obtain⟨hif,-,-⟩:=abR Gh.o his;obtain⟨fb,fo,rfl,hcell⟩:=HI.o.2 i hif;obtain⟨z,hz⟩:∃z,z=f[i]:=⟨_,rfl⟩
 rw[<-hz] at hcell;have HQ:=ak (show R=(decide (lo<=z)&&decide (z<=hi)) by
  rw[HR.o];simp only[yZ,hat];rw[dh (by decide),dh (by decide),dh (by decide),dw (by decide)];simp[hif,<-hz])
 have hin:i<fn:=by rw[HI.o.1];exact hif
 have HCF:=ak hcell;rw[hat,rY] at yD;clear hat his hif hcell hz;have hw4:(decide (lo<=z)=true/\decide (z<=hi)=true/\R=true)\/(decide (lo<=z)=true/\decide (z<=hi)=false/\R=false)\/(decide (lo<=z)=false/\R=false):=by
  rw[HQ.o];cases decide (lo<=z)<;>cases decide (z<=hi)<;>simp
 rcases hw4 with ⟨t1,t2,hf⟩|⟨t1,t2,hf⟩|⟨t1,hf⟩
 all_goals
  have HF:=ak hf;clear hf;go_enter Tryz.func149,Tryz.ntmps149
  go_upto_region 1 with fail
  rw[<-dW];clear dW;go_wp2_with fail
  refine(yD.o wa fE.o).mono ?_;rintro r w1 ⟨rfl,hx1⟩;have fQ:=ak (fE.o.trans hx1);clear f0 f1 f2 f3 f4 f5 ff e0 e1 e2 ef nP;obtain⟨f0,f1,f2,f3,f4,f5,ff⟩:=eP (hx1.blk HB1.o);obtain⟨e0,e1,e2,ef⟩:=fZ (hx1.blk HB0.o);have hcf:=fQ.o.cell HCF.o;clear hx1;go_wp2_with fail
  go_ret;exact dL (by rw[HF.o]) fQ.o
end Go.Proofs.YtefjomofjejklaaGreatDoor
