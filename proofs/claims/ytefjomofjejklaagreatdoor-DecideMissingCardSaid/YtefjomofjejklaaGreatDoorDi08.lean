/- Joined. -/
import Derived.Test.YtefjomofjejklaaGreatDoorDi07
import Derived.StillTailTactics
import Derived.Laws.BytesString
namespace Go.Proofs.YtefjomofjejklaaGreatDoor
set_option maxRecDepth 100000
set_option maxHeartbeats 32000000
open Go.RowKit
def dG (w:World) (f:ZI) (a:OA) (n:Nat):Prop:=n=f.length/\∀i (h:i<f.length),∃b off,a=some ⟨b,off,none⟩/\w.cell? ⟨b,off+i,none⟩=some (.int .i64 f[i])
theorem dG.mono {w w':World} {f:ZI} {a:OA} {n:Nat} (h:dG w f a n) (hs:Sub w w'):dG w' f a n:=⟨h.1,fun i hi=>by obtain⟨b,off,e,hc⟩:=h.2 i hi;exact⟨b,off,e,hs _ _ hc⟩⟩
theorem dG.ext {w w':World} {f:ZI} {a:OA} {n:Nat} (h:dG w f a n) (he:Ext w w'):dG w' f a n:=h.mono he.sub
def ab0 (a:Attr):Value:=.tuple #[.int .i64 (yS a).1,.int .i64 (yS a).2]
theorem Wx {s:List Attr} {f:ZI} {k:Nat} (hk:k<s.length) (hj:k<f.length) (h:f[k]<(yS s[k]).1\/(yS s[k]).2<f[k]):fW s f=false:=by
 cases hf:fW s f
 ·rfl
 have:=TP hf k hk hj;omega
theorem TN {s:List Attr} {f:ZI} (h:f.length≠s.length):fW s f=false:=by
 cases hf:fW s f
 ·rfl
 exact a40 (kA hf) h
theorem U7 {s:List Attr} {f:ZI} (h:fW s f=true) {i:Nat} (hi:i<s.length):∃h2:i<f.length,(yS s[i]).1<=f[i]/\f[i]<=(yS s[i]).2:=by
 have h2:i<f.length:=by rw[kA h];exact hi
 exact⟨h2,TP h i hi h2⟩
theorem QT.five {w:World} {x:Attr} {b off:Nat} (h:QT w x b off):∃aw nw cw,fS w x.words aw nw cw/\∀W,Ext w W->W.cell? ⟨b,off,none⟩=some (.string x.name)/\W.cell? ⟨b,off+1,none⟩=some (.int .i64 x.kind)/\W.cell? ⟨b,off+2,none⟩=some (.slice aw nw cw)/\W.cell? ⟨b,off+3,none⟩=some (.int .i64 x.lo)/\W.cell? ⟨b,off+4,none⟩=some (.int .i64 x.hi):=by
 obtain⟨aw,nw,cw,g0,g1,g2,g3,g4,g5⟩:=h;exact⟨aw,nw,cw,g5,fun W hW=>⟨hW.cell g0,hW.cell g1,hW.cell g2,hW.cell g3,hW.cell g4⟩⟩
theorem V8 (s:List Attr) (v:Value) (i:Nat) (w:World) (hs:dB w s v) (hf:∀x∈s,x.fits) (hl:s.length<=1000000000000000) (h0:dy s=0) (hi:i<s.length) :
  Calls Tryz.prog 65 #[v,.int .i64 (i:Nat)] w (cz (ab0 s[i]) w):=by
 obtain⟨q1,q2,q3⟩:=iQ h0;obtain⟨-,-,-,hk,-⟩:=ahF (q3 i hi).1;obtain⟨a,n,c,rfl,hn,hnc,hoa,hat⟩:=hs.parts;obtain⟨b,off,rfl,hA⟩:=hat i hi;obtain⟨aw,nw,cw,Hx,TF⟩:=hA.five;have HG:=ai TF;have HR:=ai (fun W (hW:Ext w W)=>Bi s _ W (hs.ext hW) hf hl);rw[h0] at HR;have t0:=ah ((i:Int)<0);have t1:=ah ((n:Int)<=(i:Int));have hin:i<n:=by omega
 have hn2:n<=1000000000000000:=by omega
 have hnw:nw<=1000000000000000:=by rw[Hx.1];exact(hf _ (aD hi)).2.1
 have RV:=ai Hx.1;clear hs hn hnc hoa hf h0 q1 q2 q3 hat hA Hx TF;obtain⟨x,hx⟩:∃x,x=s[i]:=⟨_,rfl⟩
 rw[<-hx] at hk HG RV ⊢;clear hx;obtain⟨wa,cN⟩:∃wa,wa=w.alloc (.cells #[.slice (some ⟨b,off,none⟩) n c] 24):=⟨_,rfl⟩
 have gB:Ext w wa:=by rw[cN];exact(Tz _).alloc _
 have hb0:wa.heap[w.heap.size]?=some (.cells #[.slice (some ⟨b,off,none⟩) n c] 24 (0,0)):=by rw[cN];exact bR w _
 have dm:=ai gB;have iO:=ai hb0;clear gB hb0;have GG:((x.kind==1)=true/\ab0 x=.tuple #[.int .i64 0,.int .i64 ((nw:Int) - 1)])\/((x.kind==1)=false/\(x.kind==2)=true/\ab0 x=.tuple #[.int .i64 x.lo,.int .i64 x.hi])\/((x.kind==1)=false/\(x.kind==2)=false/\ab0 x=.tuple #[.int .i64 0,.int .i64 1]):=by
  unfold ab0 yS;rcases hk with hk|hk|hk
  ·exact aoX ⟨by simp[hk],by rw[bM hk,RV.o]⟩
  ·exact a4Z (aoX ⟨by simp[hk],by simp[hk],by rw[bL (by omega),bM hk]⟩)
  exact a4Z (a4Z ⟨by simp[hk],by simp[hk],by rw[bL (by omega),bL (by omega)]⟩)
 clear hk;rcases GG with ⟨e1,hv⟩|⟨e1,e2,hv⟩|⟨e1,e2,hv⟩
 all_goals
  have HV:=ai hv;clear hv;obtain⟨a0,af⟩:=dO iO.o;go_enter Tryz.func65,Tryz.ntmps65
  go_upto_region 1 with fail
  rw[<-cN];clear cN;go_wp2_with fail
  refine(HR.o wa dm.o).mono ?_;rintro r w3 ⟨rfl,hx3⟩;have dS:=ai (dm.o.trans hx3);obtain⟨d0,df⟩:=dO (hx3.blk iO.o);obtain⟨g0,g1,g2,g3,g4⟩:=HG.o w3 dS.o;clear hx3 a0 af iO;go_wp2_with fail
  try go_quiet (fail)
  try go_wp2_with fail
  go_ret2
  exact⟨by rw[HV.o];rfl,by first|exact(dS.o.alloc _).drewN _|exact dS.o.alloc _⟩
def aVf (s:List Attr) (f:ZI) (n:Nat) (bs:Nat) (o:Obj) (w:World) (t:Value) (wr:World):Prop:=∃k:Nat,t=.int .i64 k/\k<=n/\(∀i (hi:i<s.length) (hj:i<f.length),i<k->(yS s[i]).1<=f[i]/\f[i]<=(yS s[i]).2)/\wr.heap[bs]?=some o/\Ext w wr
theorem aiv (x:Attr) (aw:OA) (nw cw:Nat) (w:World) (hn:nw=x.words.length) (hnw:nw<=1000000000000000) (hk:x.kind=1\/x.kind=2\/x.kind=3) :
  Calls Tryz.prog 84 #[.agg #[.string x.name,.int .i64 x.kind,.slice aw nw cw,.int .i64 x.lo,.int .i64 x.hi]] w (cz (ab0 x) w):=by
 have GG:((x.kind==1)=true/\ab0 x=.tuple #[.int .i64 0,.int .i64 ((nw:Int) - 1)])\/((x.kind==1)=false/\(x.kind==2)=true/\ab0 x=.tuple #[.int .i64 x.lo,.int .i64 x.hi])\/((x.kind==1)=false/\(x.kind==2)=false/\ab0 x=.tuple #[.int .i64 0,.int .i64 1]):=by
  unfold ab0 yS;rcases hk with hk|hk|hk
  ·exact aoX ⟨by simp[hk],by rw[bM hk,hn]⟩
  ·exact a4Z (aoX ⟨by simp[hk],by simp[hk],by rw[bL (by omega),bM hk]⟩)
  exact a4Z (a4Z ⟨by simp[hk],by simp[hk],by rw[bL (by omega),bL (by omega)]⟩)
 clear hk hn;rcases GG with ⟨e1,hv⟩|⟨e1,e2,hv⟩|⟨e1,e2,hv⟩
 all_goals
  have HV:=ai hv;clear hv;go_enter Tryz.func84,Tryz.ntmps84
  go_wp2_with fail
  try go_quiet (fail)
  try go_wp2_with fail
  go_ret2
  exact⟨by rw[HV.o];rfl,by first|exact((Tz w).alloc _).drewN _|exact(Tz w).alloc _⟩
theorem Ph (s:List Attr) (v:Value) (f:ZI) (fa:OA) (fn fc:Nat) (w:World) (hs:dB w s v) (hf:∀x∈s,x.fits) (hl:s.length<=1000000000000000) (hi:dG w f fa fn) (hfn:fn<=1000000000000000) :
  Calls Tryz.prog 57 #[v,.slice fa fn fc] w (cz (.bool (jU s f)) w):=by
 obtain⟨a,n,c,rfl,hn,hnc,hoa,hat⟩:=hs.parts;have HR:=ai (fun W (hW:Ext w W)=>BG s _ W (hs.ext hW) hf hl);have qE:=ai hat;have HN:=ai hn;have HF:=ai hf;have HI:=ai hi;have HFN:=ai hi.1;obtain⟨B,hB⟩:∃B,B=jU s f:=⟨_,rfl⟩
 rw[<-hB];have HB:=ai (show B=(decide (dy s=0)&&fW s f) from hB);have hn2:n<=1000000000000000:=by omega
 clear hs hn hnc hoa hat hf hi hB;obtain⟨wa,cN⟩:∃wa,wa=w.alloc (.cells #[.slice a n c] 24):=⟨_,rfl⟩
 have gB:Ext w wa:=by rw[cN];exact(Tz _).alloc _
 have hb0:wa.heap[w.heap.size]?=some (.cells #[.slice a n c] 24 (0,0)):=by rw[cN];exact bR w _
 have dm:=ai gB;have iO:=ai hb0;clear gB hb0;obtain⟨E,hE⟩:∃E,E=dy s:=⟨_,rfl⟩
 rw[<-hE] at HR HB;have HEE:=ai hE;clear hE;obtain⟨a0,af⟩:=dO iO.o;by_cases hz:E=0
 case neg =>
  have tz:(E != 0)=true:=by simp[hz]
  have HQ:=ai (show B=false by rw[HB.o];simp[hz]);clear hz;go_enter Tryz.func57,Tryz.ntmps57
  go_upto_region 1 with fail
  rw[<-cN];clear cN;go_wp2_with fail
  refine(HR.o wa dm.o).mono ?_;rintro r w3 ⟨rfl,hx3⟩;have dS:=ai (dm.o.trans hx3);clear hx3 a0 af iO;go_wp2_with fail
  go_ret;exact bW (by rw[HQ.o]) dS.o
 have tz:(E != 0)=false:=by simp[hz]
 have fY:=ai (show B=fW s f by rw[HB.o];simp[hz]);have HSA:=ai (iQ (s:=s) (by rw[<-HEE.o];exact hz));clear hz HB HEE;by_cases hlen:fn=n
 case neg =>
  have tl:((fn:Int) != (n:Int))=true:=by simp;omega
  have HQ:=ai (show B=false by rw[fY.o];exact TN (by rw[<-HN.o,<-HFN.o];exact hlen));clear hlen;go_enter Tryz.func57,Tryz.ntmps57
  go_upto_region 1 with fail
  rw[<-cN];clear cN;go_wp2_with fail
  refine(HR.o wa dm.o).mono ?_;rintro r w3 ⟨rfl,hx3⟩;have dS:=ai (dm.o.trans hx3);obtain⟨d0,df⟩:=dO (hx3.blk iO.o);clear hx3 a0 af iO;go_wp2_with fail
  go_ret;exact bW (by rw[HQ.o]) dS.o
 subst hlen;have tl:((fn:Int) != (fn:Int))=false:=by simp
 have tY:=ai (show f.length=s.length by rw[<-HN.o,<-HFN.o]);go_enter Tryz.func57,Tryz.ntmps57
 go_upto_region 1 with fail
 rw[<-cN];clear cN;go_wp2_with fail
 refine(HR.o wa dm.o).mono ?_;rintro r w3 ⟨rfl,hx3⟩;have dS:=ai (dm.o.trans hx3);have nU:=ai (hx3.blk iO.o);obtain⟨d0,df⟩:=dO (hx3.blk iO.o);clear hx3 a0 af iO;go_wp2_with fail
 clear d0 df;go_loopw [22] (aVf s f fn w.heap.size (.cells #[.slice a fn c] 24 (0,0)) w) (fun t _=>fn - (intOf t).toNat)
 case atStart=>exact⟨0,rfl,by omega,fun i _ _ h=>by omega,nU.o,dS.o⟩
 case round =>
  obtain⟨k,rfl,hk,hno,j6,hx⟩:=hrel;have jH:=ai hno;have jm:=ai j6;have HX:=ai hx;obtain⟨d0,df⟩:=dO j6;clear hno j6 hx;by_cases hkn:k<fn
  ·have t1:=ag ((k:Int)<(fn:Int));have hks:k<s.length:=by rw[<-HN.o];exact hkn
   have Yx:k<f.length:=by rw[<-HFN.o];exact hkn
   obtain⟨b,off,rfl,hA⟩:=qE.o k hks;obtain⟨aw,nw,cw,Hx,TF⟩:=hA.five;obtain⟨g0,g1,g2,g3,g4⟩:=TF wr HX.o;have yz:=ai (fun W=>aiv s[k] aw nw cw W Hx.1 (by rw[Hx.1];exact(HF.o _ (aD hks)).2.1) (ahF (HSA.o.2.2 k hks).1).2.2.2.1);unfold ab0 at yz;obtain⟨fb,fo,rfl,hcell⟩:=HI.o.2 k Yx;have XI:=HX.o.cell hcell;obtain⟨z,hz⟩:∃z,z=f[k]:=⟨_,rfl⟩
   obtain⟨lo,hlo⟩:∃lo,lo=(yS s[k]).1:=⟨_,rfl⟩
   obtain⟨hi,hhi⟩:∃hi,hi=(yS s[k]).2:=⟨_,rfl⟩
   rw[<-hz] at XI;rw[<-hlo,<-hhi] at yz;have HZ:=ai hz;have Vp:=ai hlo;have HHI:=ai hhi;clear hcell hz hlo hhi hA Hx TF;go_wp2_with fail
   refine(yz.o _).mono ?_;rintro r w5 ⟨rfl,dh⟩;have gW:=ai (HX.o.trans dh);have uo:=ai (dh.blk jm.o);clear dh d0 df yz;by_cases h1:z<lo\/hi<z
   ·have HQ:=ai (show B=false by rw[fY.o];exact Wx hks Yx (by rw[<-HZ.o,<-Vp.o,<-HHI.o];exact h1));by_cases h2:z<lo
    ·have t2:=ag (z<lo) h2;clear h1 h2;go_wp2_with fail
     go_ret;exact bW (by rw[HQ.o]) gW.o
    have t2:=ah (z<lo) h2;have t3:=ag (hi<z);clear h1 h2;go_wp2_with fail
    go_ret;exact bW (by rw[HQ.o]) gW.o
   have t2:=ah (z<lo);have t3:=ah (hi<z);have zm:=ai (show (yS s[k]).1<=f[k]/\f[k]<=(yS s[k]).2 by rw[<-HZ.o,<-Vp.o,<-HHI.o];omega);clear h1;go_wp2_with fail
   go_roundw
   case rel =>
    refine⟨k+1,by go_num,by omega,fun i hi hj hik=>?_,uo.o,gW.o⟩;by_cases e:i=k
    ·subst e;exact zm.o
    exact jH.o i hi hj (by omega)
   case measure=>simp[intOf];omega
  have t1:=ah ((k:Int)<(fn:Int));have HQ:=ai (show B=true by rw[fY.o];exact Mg tY.o fun i hi hj=>jH.o i hi hj (by have:=HFN.o;omega));go_wp2_with fail
  go_ret;exact bW (by rw[HQ.o]) HX.o
theorem cT {w:World} {o:Obj} {n:Nat} (h:n=w.heap.size):(w.alloc o).heap[n]?=some o:=by subst h;exact bR w o
theorem Al:sX none=.tuple #[.int .i64 0,.bool false]:=rfl
theorem nX (i:Nat):sX (some i)=.tuple #[.int .i64 i,.bool true]:=rfl
theorem JD {s:List Attr} {x:BA} {i:Nat} (h:eO s x=some i):i<s.length:=by
 unfold eO at h;rw[aJ] at h;exact h.1
theorem dB.cells {w:World} {s:List Attr} {a:OA} {n c:Nat} (h:dB w s (.agg #[.slice a n c])) {i:Nat} (hi:i<s.length):∃b off aw nw cw,a=some ⟨b,off,none⟩/\w.cell? ⟨b,off+i*5,none⟩=some (.string s[i].name)/\w.cell? ⟨b,off+i*5+1,none⟩=some (.int .i64 s[i].kind) /\
  w.cell? ⟨b,off+i*5+2,none⟩=some (.slice aw nw cw)/\w.cell? ⟨b,off+i*5+3,none⟩=some (.int .i64 s[i].lo)/\w.cell? ⟨b,off+i*5+4,none⟩=some (.int .i64 s[i].hi)/\fS w s[i].words aw nw cw:=by
 obtain⟨a',n',c',e',_,_,_,hat⟩:=h.parts;simp only[a5b,a5d,a5c,a45,and_true] at e';obtain⟨rfl,rfl,rfl⟩:=e';obtain⟨b,off,rfl,aw,nw,cw,h0,h1,h2,h3,h4,h5⟩:=hat i hi;exact⟨b,off,aw,nw,cw,rfl,h0,h1,h2,h3,h4,h5⟩
theorem dB.slice {w:World} {s:List Attr} {v:Value} (h:dB w s v):∃a n c,v=.agg #[.slice a n c]/\n=s.length:=by
 obtain⟨a,n,c,rfl,hn,_⟩:=h.parts;exact⟨a,n,c,rfl,hn⟩
theorem afn (s:List Attr) (sv:Value) (l:List cK) (a:OA) (n c:Nat) (e:Ex) (ev:Value) (w:World) (hs:dB w s sv) (hf:∀x∈s,x.fits) (hsl:s.length<=1000000000000000) (hl:cZ w l a n c) (hn:n<=1000000000000000) (he:dw w e ev) (hew:e.words.length<=1000000000000000) :
  Calls Tryz.prog 123 #[sv,.slice a n c,ev] w (cz (.int .i64 (fB s l e.op e.name e.words e.lo e.hi)) w):=by
 obtain⟨sa,sn,sc,rfl,B6⟩:=hs.slice;obtain⟨aw,nw,cw,aa,na,ca,rfl,hw,hna,hca,ha,hx⟩:=he.parts;have HS:=ai hs;have HF:=ai hf;have HL:=ai hl;have HW:=ai hw;have K8:=ai B6;have RV:=ai hw.1;have hnw:nw<=1000000000000000:=by rw[hw.1];exact hew
 have aQg:sn<=1000000000000000:=by omega
 clear hs hf hl hw B6 he hna hca ha hx hew;unfold fN;obtain⟨op,name,words,lo,hi,args⟩:=e;simp only[Ex.op,Ex.name,Ex.words,Ex.lo,Ex.hi] at *;obtain⟨wa,cN⟩:∃wa,wa=(w.alloc (.cells #[.slice sa sn sc] 24)).alloc (.cells #[.int .i64 op,.string name,.slice aw nw cw,.int .i64 lo,.int .i64 hi,.slice aa na ca] 45):=⟨_,rfl⟩
 have gB:Ext w wa:=by rw[cN];exact((Tz _).alloc _).alloc _
 have hb0:wa.heap[w.heap.size]?=some (.cells #[.slice sa sn sc] 24 (0,0)):=by rw[cN];exact bU (bR w _)
 have hb1:wa.heap[w.heap.size+1]?=some (.cells #[.int .i64 op,.string name,.slice aw nw cw,.int .i64 lo,.int .i64 hi,.slice aa na ca] 45 (0,0)):=by rw[cN];exact cT (by simp)
 have HI:=ai (Ai s _ name wa (HS.o.ext gB) (by have:=K8.o;omega));have dm:=ai gB;have iO:=ai hb0;have gG:=ai hb1;clear gB hb0 hb1;obtain⟨E,hE⟩:∃E,E=fB s l op name words lo hi:=⟨_,rfl⟩
 rw[<-hE];have HE:=ai hE;clear hE;cases ho:eO s name with
 | none =>
  rw[ho,Al] at HI;have HO:=ai ho;go_enter Tryz.func123,Tryz.ntmps123
  go_wp2_with fail
  rw[<-cN];refine HI.o.mono ?_;rintro r w3 ⟨rfl,hx3⟩;obtain⟨d0,df⟩:=dO (hx3.blk iO.o);obtain⟨f0,f1,f2,f3,f4,f5,ff⟩:=cX (hx3.blk gG.o);have hlt:=bS (hx3.blk gG.o);have dS:=ai (dm.o.trans hx3);clear hx3 ho HI;by_cases h3:op=3
  ·subst h3;cases hd:dz l name with
   | none =>
    have HR:=ai (show E=7 by rw[HE.o];simp[fB,HO.o,hd]);have HD:=ai (xB l a n c name w3 (HL.o.ext dS.o) hn);rw[hd,Al] at HD;clear hd;go_wp2_with fail
    refine HD.o.mono ?_;rintro r w4 ⟨rfl,rfl⟩;go_wp2_with fail
    go_ret;exact cD (by rw[HR.o]) dS.o
   | some d =>
    have HR:=ai (show E=0 by rw[HE.o];simp[fB,HO.o,hd]);have HD:=ai (xB l a n c name w3 (HL.o.ext dS.o) hn);rw[hd,nX] at HD;clear hd;go_wp2_with fail
    refine HD.o.mono ?_;rintro r w4 ⟨rfl,rfl⟩;go_wp2_with fail
    go_ret;exact cD (by rw[HR.o]) dS.o
  have e3:(op==3)=false:=by simp[h3]
  by_cases h4:op=4
  ·subst h4;have HR:=ai (show E=7 by rw[HE.o];simp[fB,HO.o]);go_wp2_with fail
   go_ret;exact cD (by rw[HR.o]) dS.o
  have e4:(op==4)=false:=by simp[h4]
  by_cases h5:op=5
  ·subst h5;have HR:=ai (show E=7 by rw[HE.o];simp[fB,HO.o]);go_wp2_with fail
   go_ret;exact cD (by rw[HR.o]) dS.o
  have e5:(op==5)=false:=by simp[h5]
  have HR:=ai (show E=0 by rw[HE.o];simp[fB,h3,h4,h5]);go_wp2_with fail
  go_ret;exact cD (by rw[HR.o]) dS.o
 | some i =>
  rw[ho,nX] at HI;have HO:=ai ho;have GI:=JD ho;have hin:i<sn:=by have:=K8.o;omega
  go_enter Tryz.func123,Tryz.ntmps123
  go_wp2_with fail
  rw[<-cN];refine HI.o.mono ?_;rintro r w3 ⟨rfl,hx3⟩;obtain⟨d0,df⟩:=dO (hx3.blk iO.o);obtain⟨f0,f1,f2,f3,f4,f5,ff⟩:=cX (hx3.blk gG.o);have hlt:=bS (hx3.blk gG.o);have dS:=ai (dm.o.trans hx3);have nW:=ai (hx3.blk gG.o);obtain⟨sb,aPD,xw,xn,xc,rfl,g0,g1,g2,g3,g4,g5⟩:=(HS.o.ext dS.o).cells GI;have N6:=ai g5;have R9:=ai (yI GI);have Sc:(0:Int)<=(i:Int):=by omega
  have ti1:(i:Int)<(sn:Int):=by omega
  have ZZ:=HF.o _ (aD GI);have Wm:xn<=1000000000000000:=by rw[g5.1];exact ZZ.2.1
  clear hx3 ho HI g5 ZZ;by_cases h3:op=3
  ·subst h3;have HD:=ai (xB l a n c name w3 (HL.o.ext dS.o) hn);by_cases hk:s[i].kind=3
   ·have tk:(s[i].kind != 3)=false:=by simp[hk]
    have HR:=ai (show E=0 by rw[HE.o];simp only[fB,if_true,HO.o,R9.o];simp[hk]);clear hk;go_wp2_with fail
    refine HD.o.mono ?_;rintro r w4 ⟨rfl,rfl⟩;unfold sX;go_wp2_with fail
    go_ret;exact cD (by rw[HR.o]) dS.o
   have tk:(s[i].kind != 3)=true:=by simp[hk]
   have HR:=ai (show E=9 by rw[HE.o];simp only[fB,if_true,HO.o,R9.o];simp[hk]);clear hk;go_wp2_with fail
   refine HD.o.mono ?_;rintro r w4 ⟨rfl,rfl⟩;unfold sX;go_wp2_with fail
   go_ret;exact cD (by rw[HR.o]) dS.o
  have e3:(op==3)=false:=by simp[h3]
  by_cases h4:op=4
  ·subst h4;by_cases hk:s[i].kind=1
   ·have tk:(s[i].kind != 1)=false:=by simp[hk]
    have HR:=ai (show E=if (words.all fun x=>s[i].words.any fun y=>decide (y=x))=false then 7 else 0 by rw[HE.o];simp only[fB,HO.o,R9.o];simp[hk]);clear hk;go_upto_region 15 with fail
    obtain⟨wb,iV⟩:∃wb,wb=w3.alloc (.cells #[.string s[i].name,.int .i64 s[i].kind,.slice xw xn xc,.int .i64 s[i].lo,.int .i64 s[i].hi] 101):=⟨_,rfl⟩
    rw[<-iV];have hxb:Ext w3 wb:=by rw[iV];exact(Tz _).alloc _
    have hbb:wb.heap[w3.heap.size]?=some (.cells #[.string s[i].name,.int .i64 s[i].kind,.slice xw xn xc,.int .i64 s[i].lo,.int .i64 s[i].hi] 101 (0,0)):=by rw[iV];exact bR w3 _
    have jL:=ai hbb;have jO:=ai (hxb.blk nW.o);have jK:=ai (dS.o.trans hxb);have HGB:=ai (N6.o.ext hxb);have HWB:=ai (HW.o.ext jK.o);clear iV hxb hbb d0 df f0 f1 f2 f3 f4 f5 ff g0 g1 g2 g3 g4 N6;go_wp2_with fail
    go_loopw [12] (fun t wr=>∃k:Nat,t=.int .i64 k/\k<=nw/\(∀j (h:j<words.length),j<k->(s[i].words.any fun y=>decide (y=words[j]))=true)/\Ext wb wr) (fun t _=>nw - (intOf t).toNat)
    case atStart=>exact⟨0,rfl,by omega,fun j _ h=>by omega,Tz _⟩
    case round =>
     obtain⟨k,rfl,hk,hall,lM⟩:=hrel;have mK:=ai hall;have gZ:=ai lM;obtain⟨p0,p1,p2,p3,p4,pf⟩:=ar7 (lM.blk jL.o);obtain⟨q0,q1,q2,q3,q4,q5,qf⟩:=cX (lM.blk jO.o);clear hall lM;by_cases hkn:k<nw
     ·have hkw:k<words.length:=by have:=RV.o;omega
      have t1:=ag ((k:Int)<(nw:Int));obtain⟨wb',aVx,rfl,cw0⟩:=(HWB.o.ext gZ.o).2.2.2 k hkw;have tk0:(0:Int)<=(k:Int):=by omega
      have tk1:(k:Int)<(nw:Int):=by omega
      have HWI:=ai (fun (q:Nat)=>MH s[i].words xw xn xc words[k] (wr.drewN q) (HGB.o.ext (gZ.o.drewN q)) Wm);cases Qg:(s[i].words.any fun y=>decide (y=words[k]))
      ·have HA:=ai Qg;rw[Qg] at HWI;have jI:=ai (show E=7 by
        rw[HR.o,bM];rw[List.all_eq_false];exact⟨words[k],aD hkw,by rw[Qg];simp⟩)
       clear Qg;go_wp2_with fail
       go_quiet ((go_at_call 158;exact Gt (HWI.o _)))
       go_wp2_with fail
       go_ret;exact cD (by rw[jI.o]) ((jK.o.trans gZ.o).drewN _)
      have HA:=ai Qg;rw[Qg] at HWI;clear Qg;go_wp2_with fail
      go_quiet ((go_at_call 158;exact Gt (HWI.o _)))
      go_wp2_with fail
      go_roundw
      case rel =>
       refine⟨k+1,by go_num,by omega,fun j hj hjk=>?_,gZ.o.drewN _⟩;by_cases e:j=k
       ·subst e;exact HA.o
       exact mK.o j hj (by omega)
      case measure=>simp[intOf];omega
     have t1:=ah ((k:Int)<(nw:Int));have jI:=ai (show E=0 by
      rw[HR.o,bL];rw[Bool.not_eq_false,aP];intro y hy;obtain⟨j,hj,rfl⟩:=aW.1 hy;exact mK.o j hj (by have:=RV.o;omega))
     go_wp2_with fail
     go_ret;exact cD (by rw[jI.o]) (jK.o.trans gZ.o)
   have tk:(s[i].kind != 1)=true:=by simp[hk]
   have HR:=ai (show E=9 by rw[HE.o];simp only[fB,HO.o,R9.o];simp[hk]);clear hk;go_wp2_with fail
   go_ret;exact cD (by rw[HR.o]) (dS.o.alloc _)
  have e4:(op==4)=false:=by simp[h4]
  by_cases h5:op=5
  ·subst h5;by_cases hk:s[i].kind=2
   ·have tk:(s[i].kind != 2)=false:=by simp[hk]
    have HR:=ai (show E=if lo<s[i].lo\/s[i].hi<hi then 1 else 0 by rw[HE.o];simp only[fB,HO.o,R9.o];simp[hk]);clear hk;go_wp2_with fail
    all_goals (go_ret;exact cD (by rw[HR.o];simp_all<;>omega) (dS.o.alloc _))
   have tk:(s[i].kind != 2)=true:=by simp[hk]
   have HR:=ai (show E=9 by rw[HE.o];simp only[fB,HO.o,R9.o];simp[hk]);clear hk;go_wp2_with fail
   go_ret;exact cD (by rw[HR.o]) (dS.o.alloc _)
  have e5:(op==5)=false:=by simp[h5]
  have HR:=ai (show E=0 by rw[HE.o];simp[fB,h3,h4,h5]);go_wp2_with fail
  go_ret;exact cD (by rw[HR.o]) dS.o
theorem Ho (s:List Attr) (l:List cK) (hf:∀x∈s,x.fits) (hsl:s.length<=1000000000000000) (a:OA) (n c:Nat) (hn:n<=1000000000000000) (m:Nat):∀(e:Ex) (ev sv:Value) (w:World),e.size<=m->m<=1000000000000000->e.iT->dB w s sv->cZ w l a n c->dw w e ev ->
  Calls Tryz.prog 92 #[sv,.slice a n c,ev] w (cz (.int .i64 (dr s l e)) w):=by
 induction m with
 | zero=>intro e ev sv w h;have:=size_pos e;omega
 | succ m ih =>
  intro e ev sv w hm Re uP hs hl he;obtain⟨sa,sn,sc,rfl,B6⟩:=hs.slice;have HN0:=ai (afn s (.agg #[.slice sa sn sc]) l a n c e ev);obtain⟨hfw,qx⟩:=rI uP;obtain⟨aw,nw,cw,aa,na,ca,rfl,hw,hna,hca,ha,hx⟩:=he.parts;have hS:e.size=1+sizes e.args:=e.size_eq;have hla:=eR e.args;have Ks:na<=1000000000000000:=by omega
  have hsz:sizes e.args<=m:=by omega
  have HE:=ai he;have HS:=ai hs;have HL:=ai hl;have HX:=ai hx;have kJ:=ai hna;have HF:=ai hf;have Es:=ai hfw;have AD:=ai qx;have Gk:=ai (zL s l e);have IH:=ai ih;clear hs hl he hx hna hw hca ha hS hla B6 hfw qx uP ih hf hm;unfold fN at *;obtain⟨wa,cN⟩:∃wa,wa=(w.alloc (.cells #[.slice sa sn sc] 24)).alloc (.cells #[.int .i64 e.op,.string e.name,.slice aw nw cw,.int .i64 e.lo,.int .i64 e.hi,.slice aa na ca] 45):=⟨_,rfl⟩
  have gB:Ext w wa:=by rw[cN];exact((Tz _).alloc _).alloc _
  have hb0:wa.heap[w.heap.size]?=some (.cells #[.slice sa sn sc] 24 (0,0)):=by rw[cN];exact bU (bR w _)
  have hb1:wa.heap[w.heap.size+1]?=some (.cells #[.int .i64 e.op,.string e.name,.slice aw nw cw,.int .i64 e.lo,.int .i64 e.hi,.slice aa na ca] 45 (0,0)):=by rw[cN];exact cT (by simp)
  have dm:=ai gB;have iO:=ai hb0;have gG:=ai hb1;clear gB hb0 hb1;go_enter Tryz.func92,Tryz.ntmps92
  go_wp2_with fail
  rw[<-cN];refine(HN0.o wa (HS.o.ext dm.o) HF.o hsl (HL.o.ext dm.o) hn (HE.o.ext dm.o) Es.o).mono ?_;rintro r w1 ⟨rfl,hx1⟩;have dI:=ai (dm.o.trans hx1);have Uq:=ai (hx1.blk iO.o);have pG:=ai (hx1.blk gG.o);clear hx1 cN;obtain⟨E,hE⟩:∃E,E=fB s l e.op e.name e.words e.lo e.hi:=⟨_,rfl⟩
  rw[<-hE];rw[<-hE] at Gk;clear hE;by_cases hz:E=0
  ·have tz:(E != 0)=false:=by simp[hz]
   have HQ:=ai (show dr s l e=dZ s l e.args by rw[Gk.o,bL (by simp[hz])]);clear hz;go_wp2_with fail
   go_loopw [8] (fun t wr=>∃k:Nat,t=.int .i64 k/\k<=na/\(∀j (h:j<e.args.length),j<k->dr s l e.args[j]=0)/\Ext w1 wr) (fun t _=>na - (intOf t).toNat)
   case atStart=>exact⟨0,rfl,by omega,fun j _ h=>by omega,Tz _⟩
   case round =>
    obtain⟨k,rfl,hk,hno,lM⟩:=hrel;have jH:=ai hno;have gZ:=ai (dI.o.trans lM);have aYf:=ai lM;obtain⟨d0,df⟩:=dO (lM.blk Uq.o);obtain⟨f0,f1,f2,f3,f4,f5,ff⟩:=cX (lM.blk pG.o);clear hno lM;by_cases hkn:k<na
    ·have hka:k<e.args.length:=by have:=kJ.o;omega
     have t1:=ag ((k:Int)<(na:Int));obtain⟨b,off,rfl,nJ,nD,nG,nK,nE,nI,h0,h1,h2,h3,h4,h5,h6⟩:=eU.at e.args _ (eU.ext gZ.o e.args _ HX.o) k hka;have H6:=ai h6;have hs1:=eD e.args k hka;have hs2:=dX e.args (k+1);have uk:e.args[k].size<=m:=by omega
     have Sc:(0:Int)<=(k:Int):=by omega
     have ti1:(k:Int)<(na:Int):=by omega
     clear h6 hs1 hs2;go_wp2_with fail
     go_still_tail 7,(by kernel_rfl)
     change wpList _ _ _ _ _ wr.drew
     have hx2:Ext wr wr.drew:=(Tz wr).drew;generalize wr.drew=w2 at hx2 ⊢;have dN:=ai (gZ.o.trans hx2);have sH:=ai (aYf.o.trans hx2);have H62:=ai (H6.o.ext hx2);clear hx2 d0 df f0 f1 f2 f3 f4 f5 ff h0 h1 h2 h3 h4 h5;go_wp2_with fail
     refine(IH.o e.args[k] _ _ w2 uk (by omega) (Fo _ AD.o k hka) (HS.o.ext dN.o) (HL.o.ext dN.o) H62.o).mono ?_;rintro r w3 ⟨rfl,hx3⟩;have dS:=ai (dN.o.trans hx3);have K7:=ai (sH.o.trans hx3);clear hx3;by_cases hz:dr s l e.args[k]=0
     ·have tz:(dr s l e.args[k] != 0)=false:=by simp[hz]
      have HZ:=ai hz;clear hz;go_wp2_with fail
      go_roundw
      case rel =>
       refine⟨k+1,by go_num,by omega,fun j hj hjk=>?_,K7.o⟩;by_cases e':j=k
       ·subst e';exact HZ.o
       exact jH.o j hj (by omega)
      case measure=>simp[intOf];omega
     have tz:(dr s l e.args[k] != 0)=true:=by simp[hz]
     have HR:=ai (show dr s l e=dr s l e.args[k] by rw[HQ.o];exact FZ e.args k hka hz fun j hj=>jH.o j (by omega) hj);clear hz;go_wp2_with fail
     go_ret;exact cD (by rw[HR.o]) dS.o
    have t1:=ah ((k:Int)<(na:Int));have HR:=ai (show dr s l e=0 by rw[HQ.o,tK];intro j hj;exact jH.o j hj (by have:=kJ.o;omega));go_wp2_with fail
    go_ret;exact cD (by rw[HR.o]) gZ.o
  have tz:(E != 0)=true:=by simp[hz]
  have HQ:=ai (show dr s l e=E by rw[Gk.o,bM hz]);clear hz;go_wp2_with fail
  go_ret;exact cD (by rw[HQ.o]) dI.o
theorem az0 {l:List cK} {s:BA} {d:Nat} (h:dz l s=some d):d<l.length:=by
 unfold dz at h;rw[aJ] at h;exact h.1
def Sj (l:List cK) (f:Nat):BA->Option Nat:=fun s=>(dz l s).map fun d=>jT l f (l.getD d fC).cond
theorem j9 (l:List cK) (f:Nat) (e:Ex):jT l (f+1) e=wM (Sj l f) e:=rfl
def aVg (D:BA->Option Nat) (base na:Nat) (args:List Ex) (w1:World) (t i:Value) (wr:World):Prop:=∃k:Nat,i=.int .i64 k/\k<=na/\t=.int .i64 ((base+mI D (args.take k):Nat):Int)/\base+mI D (args.take k)<=4001/\Ext w1 wr
theorem awZ {D:BA->Option Nat} {base k:Nat} {args:List Ex} (h:2000<base+mI D (args.take k)\/args.length<=k):min (base+mI D (args.take k)) 2001=min (base+mI D args) 2001:=by
 rcases h with h|h
 ·have:=aam D args k;omega
 rw[aS h]
theorem atQ (l:List cK) (a:OA) (n c:Nat) (hn:n<=1000000) (hsz:∀x∈l,x.cond.size<=1000000000000000):∀(f m:Nat) (e:Ex) (ev:Value) (w:World) (d:Nat),f+d=n+1->e.size<=m->m<=1000000000000000->cZ w l a n c->dw w e ev ->
  Calls Tryz.prog 126 #[.slice a n c,ev,.int .i64 d] w (cz (.int .i64 (jT l f e)) w):=by
 intro f;induction f with
 | zero =>
  intro m e ev w d hd hm Re hl he;obtain⟨aw,nw,cw,aa,na,ca,rfl,hw,hna,hca,ha,hx⟩:=he.parts;have t0:=ag (n<d);have HR:=ai (show jT l 0 e=2001 from rfl);clear hw hna hca ha hx he hl;unfold fN;go_enter Tryz.func126,Tryz.ntmps126
  go_wp2_with fail
  go_ret;exact cD (by rw[HR.o];rfl) ((Tz w).alloc _)
 | succ f ihf =>
  intro m;induction m with
  | zero=>intro e ev w d _ h;have:=size_pos e;omega
  | succ m ihm =>
   intro e ev w d hd hm Re hl he;obtain⟨aw,nw,cw,aa,na,ca,rfl,hw,hna,hca,ha,hx⟩:=he.parts;have hS:e.size=1+sizes e.args:=e.size_eq;have hla:=eR e.args;have Ks:na<=1000000000000000:=by omega
   have aC9:sizes e.args<=m:=by omega
   have hdn:d<=n:=by omega
   have t0:=ah (n<d);have HL:=ai hl;have tY:=ai hl.len;have HX:=ai hx;have kJ:=ai hna;have tR:=ai hsz;have Gk:=ai (show jT l (f+1) e=min ((if e.op=3 then (Sj l f e.name).getD 1 else 1)+mI (Sj l f) e.args) 2001 by rw[j9,Mi]);have IHM:=ai ihm;have IHF:=ai ihf;have HD:=ai hd;clear hw hna hca ha hx he hl hS hla ihm ihf hm hd;unfold fN;obtain⟨wa,cN⟩:∃wa,wa=w.alloc (.cells #[.int .i64 e.op,.string e.name,.slice aw nw cw,.int .i64 e.lo,.int .i64 e.hi,.slice aa na ca] 45):=⟨_,rfl⟩
   have gB:Ext w wa:=by rw[cN];exact(Tz _).alloc _
   have hb1:wa.heap[w.heap.size]?=some (.cells #[.int .i64 e.op,.string e.name,.slice aw nw cw,.int .i64 e.lo,.int .i64 e.hi,.slice aa na ca] 45 (0,0)):=by rw[cN];exact bR w _
   have dm:=ai gB;have gG:=ai hb1;obtain⟨f0,f1,f2,f3,f4,f5,ff⟩:=cX hb1;have kL:=bS hb1;clear gB hb1;by_cases GL:e.op=3/\(dz l e.name).isSome=true
   ·obtain⟨h3,hds⟩:=GL;obtain⟨dd,hdd⟩:=Option.isSome_iff_exists.1 hds;have t3:(e.op==3)=true:=by simp[h3]
    obtain⟨base,hbase⟩:∃base,base=jT l f (l.getD dd fC).cond:=⟨_,rfl⟩
    have hbl:base<=2001:=by rw[hbase];exact aan _ _ _
    have HQ:=ai (show jT l (f+1) e=min (base+mI (Sj l f) e.args) 2001 by rw[Gk.o,bM h3,hbase];simp[Sj,hdd]);have aMg:=az0 hdd;have a3T:dd<n:=by have:=tY.o;omega
    have VN:=ai (xB l a n c e.name wa (HL.o.ext dm.o) (by omega));rw[hdd,nX] at VN;obtain⟨cb,ld,v,rfl,fO,hrow⟩:=(HL.o.ext dm.o).at aMg;obtain⟨c0,c1,c2,c3,c4,c5,c6,c7,c8,c9⟩:=hrow.BB;have Lb:=ai fO.2.2.1;have hgd:l.getD dd fC=l[dd]:=by simp[aMg]
    rw[hgd] at hbase;have wH:=ai hbase;clear Gk hds hdd h3 fO hrow hbase hgd c0 c1 c8 c9;go_enter Tryz.func126,Tryz.ntmps126
    go_wp2_with fail
    rw[<-cN];clear cN;refine VN.o.mono ?_;rintro r w1 ⟨rfl,rfl⟩;go_wp2_with fail
    have hd1:f+(d+1)=n+1:=by have:=HD.o;omega
    have hcs:=tR.o l[dd] (aD aMg);refine(IHF.o 1000000000000000 l[dd].cond _ _ (d+1) hd1 hcs (by omega) (HL.o.ext dm.o) Lb.o).mono ?_;rw[<-wH.o];rintro r w2 ⟨rfl,hx2⟩;have dN:=ai (dm.o.trans hx2);have fY:=ai (hx2.blk gG.o);clear hx2 f0 f1 f2 f3 f4 f5 ff c2 c3 c4 c5 c6 c7;go_wp2_with fail
    go_loopw [9,10] (aVg (Sj l f) base na e.args w2) (fun _ i _=>na - (intOf i).toNat)
    case atStart=>exact⟨0,rfl,by omega,by simp[mI],by simp[mI];omega,Tz _⟩
    case round =>
     obtain⟨k,rfl,hk,rfl,hle,lM⟩:=hrel;have gZ:=ai lM;obtain⟨f0,f1,f2,f3,f4,f5,ff⟩:=cX (lM.blk fY.o);clear lM;obtain⟨N,hN⟩:∃N,N=base+mI (Sj l f) (e.args.take k):=⟨_,rfl⟩
     rw[<-hN] at hle ⊢;have qY:=ai hN;clear hN;by_cases hgo:k<na/\N<=2000
     ·obtain⟨hkn,hN2⟩:=hgo;have hka:k<e.args.length:=by have:=kJ.o;omega
      have t1:=ag ((k:Int)<(na:Int));have t2:=ag ((N:Int)<=2000);obtain⟨b,off,rfl,nJ,nD,nG,nK,nE,nI,h0,h1,h2,h3,h4,h5,h6⟩:=eU.at e.args _ (eU.ext (dN.o.trans gZ.o) e.args _ HX.o) k hka;have H6:=ai h6;have hs1:=eD e.args k hka;have hs2:=dX e.args (k+1);have uk:e.args[k].size<=m:=by omega
      have uF:=ai (KE (Sj l f) e.args k hka);have hel:=aea (Sj l f) e.args[k];clear h6 hs1 hs2;go_wp2_with fail
      refine(IHM.o e.args[k] _ _ d HD.o uk (by omega) (HL.o.ext (dN.o.trans gZ.o)) H6.o).mono ?_;rw[j9];rintro r w3 ⟨rfl,hx3⟩;have dS:=ai (gZ.o.trans hx3);clear hx3 h0 h1 h2 h3 h4 h5 f0 f1 f2 f3 f4 f5 ff;go_wp2_with fail
      go_roundw
      case rel=>exact⟨k+1,by go_num,by omega,by rw[uF.o,<-Nat.add_assoc,<-qY.o];go_num,by rw[uF.o,<-Nat.add_assoc,<-qY.o];omega,dS.o⟩
      case measure=>simp[intOf];omega
     have HR:=ai (show (min N 2001:Nat)=jT l (f+1) e by
      rw[HQ.o,qY.o];exact awZ (by
       rw[<-qY.o];by_cases h:k<na
       ·exact aoX (by have:=fun h2=>hgo ⟨h,h2⟩;omega)
       exact a4Z (by have:=kJ.o;omega)))
     have hX:=dN.o.trans gZ.o;have zi:=ai hX;clear hX;by_cases hkn:k<na
     ·have t1:=ag ((k:Int)<(na:Int));have t2:=ah ((N:Int)<=2000);clear hgo;go_wp2_with fail
      all_goals (go_ret;exact cD (by rw[<-HR.o];omega) zi.o)
     have t1:=ah ((k:Int)<(na:Int));clear hgo;go_wp2_with fail
     all_goals (go_ret;exact cD (by rw[<-HR.o];omega) zi.o)
   have HQ:=ai (show jT l (f+1) e=min (1+mI (Sj l f) e.args) 2001 by
    rw[Gk.o];by_cases h3:e.op=3
    ·rw[bM h3];have:dz l e.name=none:=by
      cases hd:dz l e.name with
      | none=>rfl
      | some q=>exact a40 ⟨h3,by rw[hd];rfl⟩ GL
     simp[Sj,this]
    rw[bL h3])
   clear Gk;by_cases h3:e.op=3
   case' pos =>
    have aQY:dz l e.name=none:=by
     cases hd:dz l e.name with
     | none=>rfl
     | some q=>exact a40 ⟨h3,by rw[hd];rfl⟩ GL
    have t3:(e.op==3)=true:=by simp[h3]
    have VN:=ai (xB l a n c e.name wa (HL.o.ext dm.o) (by omega));rw[aQY,Al] at VN;clear aQY h3 GL;go_enter Tryz.func126,Tryz.ntmps126
    go_wp2_with fail
    rw[<-cN];clear cN;refine VN.o.mono ?_;rintro r w1 ⟨rfl,rfl⟩;clear VN;go_wp2_with fail
   case' neg =>
    have t3:(e.op==3)=false:=by simp[h3]
    clear h3 GL;go_enter Tryz.func126,Tryz.ntmps126
    go_wp2_with fail
    rw[<-cN];clear cN
   all_goals
    clear f0 f1 f2 f3 f4 f5 ff;go_loopw [11,12] (aVg (Sj l f) 1 na e.args wa) (fun _ i _=>na - (intOf i).toNat)
    case atStart=>exact⟨0,rfl,by omega,by simp[mI],by simp[mI],Tz _⟩
    case round =>
     obtain⟨k,rfl,hk,rfl,hle,lM⟩:=hrel;have gZ:=ai lM;obtain⟨f0,f1,f2,f3,f4,f5,ff⟩:=cX (lM.blk gG.o);clear lM;obtain⟨N,hN⟩:∃N,N=1+mI (Sj l f) (e.args.take k):=⟨_,rfl⟩
     rw[<-hN] at hle ⊢;have qY:=ai hN;clear hN;by_cases hgo:k<na/\N<=2000
     ·obtain⟨hkn,hN2⟩:=hgo;have hka:k<e.args.length:=by have:=kJ.o;omega
      have t1:=ag ((k:Int)<(na:Int));have t2:=ag ((N:Int)<=2000);obtain⟨b,off,rfl,nJ,nD,nG,nK,nE,nI,h0,h1,h2,h3,h4,h5,h6⟩:=eU.at e.args _ (eU.ext (dm.o.trans gZ.o) e.args _ HX.o) k hka;have H6:=ai h6;have hs1:=eD e.args k hka;have hs2:=dX e.args (k+1);have uk:e.args[k].size<=m:=by omega
      have uF:=ai (KE (Sj l f) e.args k hka);have hel:=aea (Sj l f) e.args[k];clear h6 hs1 hs2;go_wp2_with fail
      refine(IHM.o e.args[k] _ _ d HD.o uk (by omega) (HL.o.ext (dm.o.trans gZ.o)) H6.o).mono ?_;rw[j9];rintro r w3 ⟨rfl,hx3⟩;have dS:=ai (gZ.o.trans hx3);clear hx3 h0 h1 h2 h3 h4 h5 f0 f1 f2 f3 f4 f5 ff;go_wp2_with fail
      go_roundw
      case rel=>exact⟨k+1,by go_num,by omega,by rw[uF.o,<-Nat.add_assoc,<-qY.o];go_num,by rw[uF.o,<-Nat.add_assoc,<-qY.o];omega,dS.o⟩
      case measure=>simp[intOf];omega
     have HR:=ai (show (min N 2001:Nat)=jT l (f+1) e by
      rw[HQ.o,qY.o];exact awZ (by
       rw[<-qY.o];by_cases h:k<na
       ·exact aoX (by have:=fun h2=>hgo ⟨h,h2⟩;omega)
       exact a4Z (by have:=kJ.o;omega)))
     have hX:=dm.o.trans gZ.o;have zi:=ai hX;clear hX;by_cases hkn:k<na
     ·have t1:=ag ((k:Int)<(na:Int));have t2:=ah ((N:Int)<=2000);clear hgo;go_wp2_with fail
      all_goals (go_ret;exact cD (by rw[<-HR.o];omega) zi.o)
     have t1:=ah ((k:Int)<(na:Int));clear hgo;go_wp2_with fail
     all_goals (go_ret;exact cD (by rw[<-HR.o];omega) zi.o)
theorem uC (l:List cK) (a:OA) (n c:Nat) (hn:n<=1000000) (hsz:∀x∈l,x.cond.size<=1000000000000000) (e:Ex) (ev:Value) (w:World) (he:e.size<=1000000000000000) (hl:cZ w l a n c) (hx:dw w e ev) :
  Calls Tryz.prog 95 #[.slice a n c,ev] w (cz (.int .i64 (dV l e)) w):=by
 have HL:=ai hl;have HX:=ai hx;have tY:=ai hl.len;obtain⟨aw,nw,cw,aa,na,ca,rfl,-,-,-,-,-⟩:=hx.parts;have HC:=ai (atQ l a n c hn hsz (n+1) 1000000000000000 e (fN e.op e.name aw nw cw e.lo e.hi aa na ca));clear hl hx;unfold fN at *;go_enter Tryz.func95,Tryz.ntmps95
 go_wp2_with fail
 refine(HC.o _ 0 (by omega) he (by omega) (HL.o.ext ((Tz w).alloc _)) (HX.o.ext ((Tz w).alloc _))).mono ?_;rintro r w1 ⟨rfl,hx1⟩;have dI:=ai (((Tz w).alloc _).trans hx1);clear hx1;go_wp2_with fail
 go_ret;exact cD (by rw[dV,tY.o]) dI.o
inductive Pr where
 | mk (value:Bool) (pick:Int) (args:List Pr)
def Pr.value:Pr->Bool
 | .mk v _ _=>v
def Pr.pick:Pr->Int
 | .mk _ p _=>p
def Pr.args:Pr->List Pr
 | .mk _ _ a=>a
theorem Ao {α:Type} {l:List α} (h:l.length=1):∃q,l=[q]:=by
 match l,h with
 | [q],_=>exact⟨q,rfl⟩
mutual
def wI (s:List Attr) (f:ZI) (D:BA->Option (Pr->Bool)):Ex->Pr->Bool
 | .mk op name words lo hi args,.mk v k ps =>
  if op=6 then (k == -1)&&decide (ps.length=1)&&ps.all (fun q=>uH s f D args 0 q&&(v==!q.value))
  else if op=7\/op=8 then
   (if v=decide (op=8) then decide (0<=k)&&decide (ps.length=1)&&ps.all (fun q=>uH s f D args k.toNat q&&(q.value==v)) else (k == -1)&&mM s f D v args ps)
  else match (if op=3 then D name else none) with
   | some g=>(k == -1)&&decide (ps.length=1)&&ps.all (fun q=>g q&&(v==q.value))
   | none=>(k == -1)&&ps.isEmpty&&(v==um s f op name words lo hi)
def uH (s:List Attr) (f:ZI) (D:BA->Option (Pr->Bool)):List Ex->Nat->Pr->Bool
 | [],_,_=>false
 | e::_,0,q=>wI s f D e q
 | _::r,k+1,q=>uH s f D r k q
def mM (s:List Attr) (f:ZI) (D:BA->Option (Pr->Bool)) (v:Bool):List Ex->List Pr->Bool
 | [],[]=>true
 | e::r,q::t=>wI s f D e q&&(q.value==v)&&mM s f D v r t
 | [],_::_=>false
 | _::_,[]=>false
end
def js (s:List Attr) (l:List cK) (f:ZI):Nat->Ex->Pr->Bool
 | 0,_,_=>false
 | k+1,e,p=>wI s f (fun x=>(dz l x).map fun d=>js s l f k (l.getD d fC).cond) e p
def CY (s:List Attr) (l:List cK) (f:ZI) (e:Ex) (p:Pr):Bool:=js s l f (l.length+1) e p
theorem aew {s:List Attr} {f:ZI} {D:BA->Option Bool} (l:List Ex):Iq s f D l=(l[0]?.map (pK s f D)).getD false:=by
 cases l<;>simp[Iq]
mutual
theorem Xl {s:List Attr} {f:ZI} {D:BA->Option (Pr->Bool)} {V:BA->Option Bool} (h0:∀x,D x=none->V x=none) (h1:∀x g q,D x=some g->g q=true->V x=some q.value) :
  (e:Ex)->(p:Pr)->wI s f D e p=true->p.value=pK s f V e
 | .mk op name words lo hi args,.mk v k ps,h=>by
  rw[wI] at h;rw[pK];by_cases h6:op=6
  ·rw[bM h6] at h ⊢;simp only[aF,a47,aH] at h;obtain⟨q,rfl⟩:=Ao h.1.2;have hq:=h.2;simp only[List.all_cons,List.all_nil,Bool.and_true,aF,a47] at hq;have:=S8 h0 h1 args 0 q hq.1;rw[aew,<-this];exact hq.2
  rw[bL h6] at h ⊢;by_cases h78:op=7\/op=8
  ·rw[bM h78] at h;by_cases hv:v=decide (op=8)
   ·rw[bM hv] at h;simp only[aF,aH] at h;obtain⟨q,rfl⟩:=Ao h.1.2;have hz:=h.2;simp only[List.all_cons,List.all_nil,Bool.and_true,aF,a47] at hz;have hq:=S8 h0 h1 args k.toNat q hz.1;obtain⟨hm,hq⟩:∃e∈args,q.value=pK s f V e:=by
     cases hx:args[k.toNat]? with
     | none=>rw[hx] at hq;simp at hq
     | some e=>rw[hx] at hq;exact⟨e,List.mem_of_getElem? hx,by simpa using hq⟩
    rcases h78 with h7|h8
    ·subst h7;simp at hv;rw[bM rfl,xl];subst hv
     show false=_
     rw[eq_comm,List.all_eq_false];exact⟨hm,hq.1,by rw[<-hq.2,hz.2];simp⟩
    subst h8;simp at hv;rw[bL (by decide),bM rfl,xj];subst hv
    show true=_
    rw[eq_comm,List.any_eq_true];exact⟨hm,hq.1,by rw[<-hq.2,hz.2]⟩
   rw[bL hv] at h;simp only[aF] at h;have hz:=Zr h0 h1 v args ps h.2;rcases h78 with h7|h8
   ·subst h7;simp at hv;rw[bM rfl,xl];subst hv
    show true=_
    rw[eq_comm,aP];exact fun e he=>(hz e he).symm ▸ rfl
   subst h8;simp at hv;rw[bL (by decide),bM rfl,xj];subst hv
   show false=_
   rw[eq_comm,List.any_eq_false];exact fun e he=>by rw[<-hz e he];simp
  rw[bL h78] at h;rw[bL (fun e=>h78 (aoX e)),bL (fun e=>h78 (a4Z e))];by_cases h3:op=3
  ·rw[bM h3] at h ⊢;cases hD:D name with
   | none =>
    rw[hD] at h;simp only[aF,a47] at h;rw[h0 name hD];exact h.2
   | some g =>
    rw[hD] at h;simp only[aF,aH] at h;obtain⟨q,rfl⟩:=Ao h.1.2;have hz:=h.2;simp only[List.all_cons,List.all_nil,Bool.and_true,aF,a47] at hz;rw[h1 name g q hD hz.1];exact hz.2
  rw[bL h3] at h ⊢;simp only[aF,a47] at h;exact h.2
theorem S8 {s:List Attr} {f:ZI} {D:BA->Option (Pr->Bool)} {V:BA->Option Bool} (h0:∀x,D x=none->V x=none) (h1:∀x g q,D x=some g->g q=true->V x=some q.value) :
  (l:List Ex)->(k:Nat)->(q:Pr)->uH s f D l k q=true->some q.value=l[k]?.map (pK s f V)
 | [],k,q,h=>by rw[uH] at h;simp at h
 | e::r,0,q,h=>by rw[uH] at h;simp[Xl h0 h1 e q h]
 | e::r,k+1,q,h=>by rw[uH] at h;simpa using S8 h0 h1 r k q h
theorem Zr {s:List Attr} {f:ZI} {D:BA->Option (Pr->Bool)} {V:BA->Option Bool} (h0:∀x,D x=none->V x=none) (h1:∀x g q,D x=some g->g q=true->V x=some q.value) (v:Bool) :
  (l:List Ex)->(ps:List Pr)->mM s f D v l ps=true->∀e∈l,v=pK s f V e
 | [],_,_,e,he=>by simp at he
 | e::r,[],h,_,_=>by rw[mM] at h;simp at h
 | e::r,q::t,h,x,hx=>by
  rw[mM] at h;simp only[aF,a47] at h;rcases bz.1 hx with hx|hx
  ·rw[hx,<-h.1.2];exact Xl h0 h1 e q h.1.1
  exact Zr h0 h1 v r t h.2 x hx
end
theorem BW (s:List Attr) (l:List cK) (f:ZI):(k:Nat)->(e:Ex)->(p:Pr)->js s l f k e p=true->p.value=jN s l f k e
 | 0,_,_,h=>by simp[js] at h
 | k+1,e,p,h=>by
  rw[js] at h;rw[jN];refine Xl (fun x hx=>?_) (fun x g q hx hg=>?_) e p h
  ·cases hd:dz l x with
   | none=>rfl
   | some d=>rw[hd] at hx;simp at hx
  cases hd:dz l x with
  | none=>rw[hd] at hx;simp at hx
  | some d =>
   rw[hd] at hx;simp only[Option.map_some,a42] at hx ⊢;subst hx;exact(BW s l f k _ q hg).symm
theorem akf {s:List Attr} {l:List cK} {f:ZI} {e:Ex} {p:Pr} (h:CY s l f e p=true):p.value=val s l f e:=BW s l f _ e p h
def pr0:Pr:=.mk false (-1) []
def abg (d:Bool) (l:List Pr):Pr:=match l.findIdx? (fun q=>q.value==d) with
 | some k=>.mk d k [l.getD k pr0]
 | none=>.mk (!d) (-1) l
def aLe (o:Option Pr) (v:Bool):Pr:=match o with
 | some q=>.mk q.value (-1) [q]
 | none=>.mk v (-1) []
def notP (q:Pr):Pr:=.mk (!q.value) (-1) [q]
mutual
def UE (s:List Attr) (f:ZI) (D:BA->Option Pr):Ex->Pr
 | .mk op name words lo hi args=>if op=6 then notP (Xn s f D args) else if op=7\/op=8 then abg (decide (op=8)) (pfL s f D args) else aLe (if op=3 then D name else none) (um s f op name words lo hi)
def Xn (s:List Attr) (f:ZI) (D:BA->Option Pr):List Ex->Pr
 | []=>pr0
 | e::_=>UE s f D e
def pfL (s:List Attr) (f:ZI) (D:BA->Option Pr):List Ex->List Pr
 | []=>[]
 | e::r=>UE s f D e::pfL s f D r
end
def xT (s:List Attr) (l:List cK) (f:ZI):Nat->Ex->Pr
 | 0,_=>pr0
 | k+1,e=>UE s f (fun x=>(dz l x).map fun d=>xT s l f k (l.getD d fC).cond) e
def pf (s:List Attr) (l:List cK) (f:ZI) (e:Ex):Pr:=xT s l f (l.length+1) e
theorem aHj (s:List Attr) (f:ZI) (D:BA->Option (Pr->Bool)) (e:Ex) (p:Pr):wI s f D e p =
  if e.op=6 then (p.pick == -1)&&decide (p.args.length=1)&&p.args.all (fun q=>uH s f D e.args 0 q&&(p.value==!q.value))
  else if e.op=7\/e.op=8 then
   (if p.value=decide (e.op=8) then decide (0<=p.pick)&&decide (p.args.length=1)&&p.args.all (fun q=>uH s f D e.args p.pick.toNat q&&(q.value==p.value)) else (p.pick == -1)&&mM s f D p.value e.args p.args)
  else match (if e.op=3 then D e.name else none) with
   | some g=>(p.pick == -1)&&decide (p.args.length=1)&&p.args.all (fun q=>g q&&(p.value==q.value))
   | none=>(p.pick == -1)&&p.args.isEmpty&&(p.value==um s f e.op e.name e.words e.lo e.hi):=by
 cases e;cases p;rw[wI];rfl
theorem E8 {s:List Attr} {f:ZI} {D:BA->Option (Pr->Bool)}:(l:List Ex)->(k:Nat)->(q:Pr)->uH s f D l k q=(l[k]?.map fun e=>wI s f D e q).getD false
 | [],k,q=>by rw[uH];rfl
 | e::r,0,q=>by rw[uH];rfl
 | e::r,k+1,q=>by rw[uH,E8 r k q];simp
theorem NI {s:List Attr} {f:ZI} {D:BA->Option (Pr->Bool)} {v:Bool}:(l:List Ex)->(ps:List Pr)->l.length=ps.length->(∀i (h1:i<l.length) (h2:i<ps.length),wI s f D l[i] ps[i]=true/\ps[i].value=v)->mM s f D v l ps=true
 | [],[],_,_=>by rw[mM]
 | e::r,q::t,h,h2=>by
  have h0:=h2 0 (by simp) (by simp);simp only[bB] at h0;rw[mM,h0.1,NI r t (by simpa using h) fun i g1 g2=>by have:=h2 (i+1) (by simpa using g1) (by simpa using g2);simpa using this];simp[h0.2]
 | [],q::t,h,_=>by simp at h
 | e::r,[],h,_=>by simp at h
theorem Xk {s:List Attr} {f:ZI} {D:BA->Option (Pr->Bool)} {v:Bool}:(l:List Ex)->(ps:List Pr)->mM s f D v l ps=true->l.length=ps.length
 | [],[],_=>rfl
 | e::r,q::t,h=>by
  rw[mM] at h;simp only[aF] at h;simp[Xk r t h.2]
 | [],q::t,h=>by rw[mM] at h;simp at h
 | e::r,[],h=>by rw[mM] at h;simp at h
theorem akg {s:List Attr} {f:ZI} {D:BA->Option (Pr->Bool)} {v:Bool}:(l:List Ex)->(ps:List Pr)->mM s f D v l ps=true->∀i (h1:i<l.length) (h2:i<ps.length),wI s f D l[i] ps[i]=true/\ps[i].value=v
 | e::r,q::t,h,0,_,_=>by
  rw[mM] at h;simp only[aF,a47] at h;simpa using h.1
 | e::r,q::t,h,i+1,g1,g2=>by
  rw[mM] at h;simp only[aF] at h;simpa using akg r t h.2 i (by simpa using g1) (by simpa using g2)
def WY (s:List Attr) (l:List cK) (f:ZI) (g:Nat):BA->Option Bool:=fun x=>(dz l x).map fun d=>jN s l f g (l.getD d fC).cond
theorem al1 (s:List Attr) (l:List cK) (f:ZI) (g:Nat) (e:Ex):jN s l f (g+1) e=pK s f (WY s l f g) e:=rfl
def aM9 (s:List Attr) (f:ZI) (V:BA->Option Bool) (args:List Ex) (na:Nat) (bs:Nat) (o0 o1:Obj) (w:World) (t i:Value) (wr:World):Prop:=∃k q:Nat,i=.int .i64 k/\t=.int .i64 q/\k<=na/\q<=k/\(q=k ↔ ∀j (h:j<args.length),j<k->pK s f V args[j]=true)/\wr.heap[bs]?=some o0/\wr.heap[bs+1]?=some o1/\Ext w wr
def aM' (s:List Attr) (f:ZI) (V:BA->Option Bool) (args:List Ex) (na:Nat) (bs:Nat) (o0 o1:Obj) (w:World) (i:Value) (wr:World):Prop:=∃k:Nat,i=.int .i64 k/\k<=na/\(∀j (h:j<args.length),j<k->pK s f V args[j]=false)/\wr.heap[bs]?=some o0/\wr.heap[bs+1]?=some o1/\Ext w wr
theorem xz (s:List Attr) (l:List cK) (f:ZI) (hc:Chk s l) (qx:fW s f=true) (Hy:∀x∈s,x.fits) (a:OA) (n c:Nat) (fa:OA) (fn fc:Nat):∀(g m:Nat) (e:Ex) (ev sv:Value) (w:World),e.size<=m->m<=1000000->gq e->dr s l e=0->jT l g e<=2000->dB w s sv->cZ w l a n c->dw w e ev->dG w f fa fn ->
  Calls Tryz.prog 127 #[sv,.slice a n c,ev,.slice fa fn fc] w (cz (.bool (jN s l f g e)) w):=by
 intro g;induction g with
 | zero=>intro m e ev sv w _ _ _ _ h;simp[jT] at h
 | succ g ihg =>
  intro m;induction m with
  | zero=>intro e ev sv w h;have:=size_pos e;omega
  | succ m ihm =>
   intro e ev sv w hm Re hok hnd hex hs hl he hi;have GG:=abv hok hnd;obtain⟨-,RA⟩:=wT hnd;obtain⟨agE,Rz⟩:=iR hok;have RB:=KF (D:=Sj l g) (e:=e) (by rw[<-j9];exact hex);have TG:=Qn (D:=Sj l g) (e:=e) (by rw[<-j9];exact hex);obtain⟨sa,sn,sc,rfl,B6⟩:=hs.slice;obtain⟨aw,nw,cw,aa,na,ca,rfl,hw,hna,hca,ha,hx⟩:=he.parts;have hS:e.size=1+sizes e.args:=e.size_eq;have hla:=eR e.args;obtain⟨op,name,words,lo,hi',args⟩:=e;simp only[Ex.op,Ex.name,Ex.words,Ex.lo,Ex.hi,Ex.args] at *;have Ks:na<=1000000:=by omega
   have aC9:sizes args<=m:=by omega
   obtain⟨R,hR⟩:∃R,R=jN s l f (g+1) (.mk op name words lo hi' args):=⟨_,rfl⟩
   rw[<-hR];rw[al1,pK] at hR;have HR:=ai hR;have azc:=(iQ hc.x7).2.1;have aQg:sn<=6:=by omega
   have vC:=hl.len;have aDg:n<=100:=by rw[vC];exact hc.len
   have K8:=ai B6;have tY:=ai vC;have HC:=ai hc;have AD:=ai qx;have HSF:=ai Hy;have HS:=ai hs;have HL:=ai hl;have HX:=ai hx;have HW:=ai hw;have HI:=ai hi;have kJ:=ai hna;have mF:=ai (fun (j:Nat) (hj:j<args.length) (xv:Value) (W:World) (hW:Ext w W) (qV:dw W args[j] xv)=>ihm args[j] xv (.agg #[.slice sa sn sc]) W (by have h1:=eD args j hj;have h2:=dX args (j+1);omega) (by omega) (Rz _ (aD hj)) (RA j hj) (by rw[j9];exact RB j hj) (hs.ext hW) (hl.ext hW) qV (hi.ext hW));have CW:=ai (fun (h3:op=3) (d:Nat) (hd:dz l name=some d) (xv:Value) (W:World) (hW:Ext w W) (qV:dw W (l.getD d fC).cond xv)=>ihg 300 (l.getD d fC).cond xv (.agg #[.slice sa sn sc]) W (hc.cond (ju hd).1).2.2 (by omega) (hc.cond (ju hd).1).1 (hc.cond (ju hd).1).2.1 (TG h3 (by unfold Sj;rw[hd];rfl)) (hs.ext hW) (hl.ext hW) qV (hi.ext hW));have HWD:=ai (show op=4->words.length<=12 from fun h4=>by
    rcases agE with ⟨h1,-⟩|⟨h1,-⟩|⟨h1,-⟩|⟨h1,-,h2,-⟩|⟨h1,-⟩|⟨h1,-⟩|⟨h1,-⟩<;>simp only[Ex.op] at h1
    all_goals first|omega|skip
    simp only[Ex.words,qg,aF] at h2;exact of_decide_eq_true h2.1.1.2)
   clear hc qx Hy hs hl hx hw hi hna hca ha hS hla ihg ihm hm RA Rz RB TG agE hok hnd hex he B6 vC azc hR;unfold fN;obtain⟨wa,cN⟩:∃wa,wa=(w.alloc (.cells #[.slice sa sn sc] 24)).alloc (.cells #[.int .i64 op,.string name,.slice aw nw cw,.int .i64 lo,.int .i64 hi',.slice aa na ca] 45):=⟨_,rfl⟩
   have gB:Ext w wa:=by rw[cN];exact((Tz _).alloc _).alloc _
   have hb0:wa.heap[w.heap.size]?=some (.cells #[.slice sa sn sc] 24 (0,0)):=by rw[cN];exact bU (bR w _)
   have hb1:wa.heap[w.heap.size+1]?=some (.cells #[.int .i64 op,.string name,.slice aw nw cw,.int .i64 lo,.int .i64 hi',.slice aa na ca] 45 (0,0)):=by rw[cN];exact cT (by simp)
   have dm:=ai gB;have iO:=ai hb0;have gG:=ai hb1;obtain⟨f0,f1,f2,f3,f4,f5,ff⟩:=cX hb1;obtain⟨e0,ef⟩:=dO hb0;have kL:=bS hb1;have tF:=ai (Ai s _ name wa (HS.o.ext gB) (by have:=K8.o;omega));clear gB hb0 hb1;rcases GG with rfl|rfl|⟨rfl,i,hat,tC⟩|⟨rfl,hat,d,hdf⟩|⟨rfl,i,hat,tC⟩|⟨rfl,i,hat,tC⟩|⟨rfl,sA⟩|rfl|rfl
   ·have HQ:=ai (show R=true by rw[HR.o];simp[um]);go_enter Tryz.func127,Tryz.ntmps127
    go_upto_region 1 with fail
    rw[<-cN];clear cN;go_wp2_with fail
    refine tF.o.mono ?_;rintro r w1 ⟨rfl,hx1⟩;have dI:=ai (dm.o.trans hx1);unfold sX;clear f0 f1 f2 f3 f4 f5 ff e0 ef kL;obtain⟨f0,f1,f2,f3,f4,f5,ff⟩:=cX (hx1.blk gG.o);clear hx1;go_wp2_with fail
    go_ret;exact bW (by rw[HQ.o]) dI.o
   ·have HQ:=ai (show R=false by rw[HR.o];simp[um]);go_enter Tryz.func127,Tryz.ntmps127
    go_upto_region 1 with fail
    rw[<-cN];clear cN;go_wp2_with fail
    refine tF.o.mono ?_;rintro r w1 ⟨rfl,hx1⟩;have dI:=ai (dm.o.trans hx1);unfold sX;clear f0 f1 f2 f3 f4 f5 ff e0 ef kL;obtain⟨f0,f1,f2,f3,f4,f5,ff⟩:=cX (hx1.blk gG.o);clear hx1;go_wp2_with fail
    go_ret;exact bW (by rw[HQ.o]) dI.o
   ·obtain⟨GI,-⟩:=JE hat;obtain⟨hif,agH,abH⟩:=U7 AD.o GI;obtain⟨fb,fo,rfl,hcell⟩:=HI.o.2 i hif;obtain⟨z,hz⟩:∃z,z=f[i]:=⟨_,rfl⟩
    rw[<-hz] at hcell;have hdn:dz l name=none:=by
     cases hd:dz l name with
     | none=>rfl
     | some d=>rw[HC.o.apart hd] at hat;cases hat
    have HQ:=ai (show R=(z==1) by
     rw[HR.o];simp only[um,WY,hdn,hat];rw[bH];simp[hif,<-hz])
    have hin:i<fn:=by rw[HI.o.1];exact hif
    have Vs:=ai hcell;rw[hat,nX] at tF;clear hat tC GI hif agH abH hcell hz hdn;go_enter Tryz.func127,Tryz.ntmps127
    go_upto_region 1 with fail
    rw[<-cN];clear cN;go_wp2_with fail
    refine tF.o.mono ?_;rintro r w1 ⟨rfl,hx1⟩;have dI:=ai (dm.o.trans hx1);clear f0 f1 f2 f3 f4 f5 ff e0 ef kL;obtain⟨f0,f1,f2,f3,f4,f5,ff⟩:=cX (hx1.blk gG.o);have XI:=dI.o.cell Vs.o;clear hx1;go_wp2_with fail
    go_ret;exact bW (by rw[HQ.o]) dI.o
   ·have hdl:=(ju hdf).1;have HQ:=ai (show R=jN s l f g (l.getD d fC).cond by
     rw[HR.o];rw[bL (by decide),bL (by decide),bL (by decide),bM rfl,WY,hdf];rfl)
    have hdn:d<n:=by rw[tY.o];exact hdl
    have VN:=ai (fun W (hW:Ext w W)=>xB l a n c name W (HL.o.ext hW) (by omega));rw[hdf] at VN;obtain⟨cb,ld,v,rfl,fO,hrow⟩:=HL.o.at hdl;have yM:=ai hrow;have Lb:=ai (show dw w (l.getD d fC).cond v.x.val by rw[ry hdl];exact fO.2.2.1);have HDF:=ai (CW.o rfl d hdf);obtain⟨V,hV⟩:∃V,V=jN s l f g (l.getD d fC).cond:=⟨_,rfl⟩
    rw[<-hV] at HQ HDF;rw[hat,Al] at tF;clear hV hat hdf hdl fO hrow CW mF;go_enter Tryz.func127,Tryz.ntmps127
    go_upto_region 1 with fail
    rw[<-cN];clear cN;go_wp2_with fail
    refine tF.o.mono ?_;rintro r w1 ⟨rfl,hx1⟩;have dI:=ai (dm.o.trans hx1);have pG:=ai (hx1.blk gG.o);have Uq:=ai (hx1.blk iO.o);clear f0 f1 f2 f3 f4 f5 ff e0 ef kL;obtain⟨f0,f1,f2,f3,f4,f5,ff⟩:=cX pG.o;clear hx1;go_wp2_with fail
    refine(VN.o w1 dI.o).mono ?_;rintro r w2 ⟨rfl,rfl⟩;rw[nX];obtain⟨e0,ef⟩:=dO Uq.o;obtain⟨c0,c1,c2,c3,c4,c5,c6,c7,c8,c9⟩:=(yM.o.mono dI.o.sub).BB;go_wp2_with fail
    go_still_tail 8,(by kernel_rfl)
    change wpList _ _ _ _ _ w1.drew
    have hx2:Ext w1 w1.drew:=(Tz w1).drew;generalize w1.drew=w2 at hx2 ⊢;have dN:=ai (dI.o.trans hx2);clear hx2 c0 c1 c2 c3 c4 c5 c6 c7 c8 c9 f0 f1 f2 f3 f4 f5 ff e0 ef;have HDG:=ai (HDF.o v.x.val w2 dN.o (Lb.o.ext dN.o));unfold dK.val fN at HDG;go_wp2_with fail
    refine HDG.o.mono ?_;rintro r w3 ⟨rfl,hx3⟩;have dS:=ai (dN.o.trans hx3);clear hx3;go_wp2_with fail
    go_ret;exact bW (by rw[HQ.o]) dS.o
   ·obtain⟨GI,-⟩:=JE hat;obtain⟨hif,agH,abH⟩:=U7 AD.o GI;have au5:s[i].kind=1:=by rw[<-tC];simp[GI]
    have hdm:yS s[i]=(0,(s[i].words.length:Int) - 1):=by unfold yS;rw[bM au5]
    rw[hdm] at agH abH;simp only at agH abH;obtain⟨ab,ao,rfl,hA⟩:∃ab ao,sa=some ⟨ab,ao,none⟩/\QT w s[i] ab (ao+i*5):=by
     obtain⟨xa,xn,xc,e',-,-,-,hq⟩:=HS.o.parts;simp only[a5b,a5d,a5c,a45,and_true] at e';obtain⟨rfl,rfl,rfl⟩:=e';exact hq i GI
    obtain⟨x1,hx1⟩:∃x1,x1=s[i]:=⟨_,rfl⟩
    rw[<-hx1] at hA au5 abH;obtain⟨bw,nwa,cwa,Hx,TF⟩:=hA.five;have H5:=ai TF;obtain⟨fb,fo,rfl,hcell⟩:=HI.o.2 i hif;obtain⟨z,hz⟩:∃z:Nat,f[i]=(z:Int):=⟨f[i].toNat,by omega⟩
    rw[hz] at hcell agH abH;have hzw:z<x1.words.length:=by omega
    obtain⟨wb,wo,rfl,hwc⟩:=Hx.2.2.2 z hzw;have HWC:=ai hwc;have hzn:z<nwa:=by rw[Hx.1];exact hzw
    have HQ:=ai (show R=words.any (fun y=>decide (y=x1.words[z])) by
     rw[HR.o];simp only[um,hat];rw[bL (by decide),bL (by decide),bL (by decide),bL (by decide),bL (by decide),bL (by decide),bM (by decide)];simp[GI,hif,hz,<-hx1,hzw])
    have hin:i<fn:=by rw[HI.o.1];exact hif
    have aWN:i<sn:=by rw[K8.o];exact GI
    have Vs:=ai hcell;have HWI:=ai (fun W (hW:Ext w W)=>MH words aw nw cw x1.words[z] W (HW.o.ext hW) (by have:=HWD.o rfl;rw[HW.o.1];omega));rw[hat,nX] at tF;obtain⟨x,Sd⟩:∃x,x=x1.words[z]:=⟨_,rfl⟩
    rw[<-Sd] at HWC HQ HWI;clear hx1 hat tC GI hif agH abH hcell hz au5 hdm hA Hx TF hwc hzw Sd mF CW;go_enter Tryz.func127,Tryz.ntmps127
    go_upto_region 1 with fail
    rw[<-cN];clear cN;go_wp2_with fail
    refine tF.o.mono ?_;rintro r w1 ⟨rfl,hx1⟩;have dI:=ai (dm.o.trans hx1);clear f0 f1 f2 f3 f4 f5 ff e0 ef kL;obtain⟨f0,f1,f2,f3,f4,f5,ff⟩:=cX (hx1.blk gG.o);obtain⟨e0,ef⟩:=dO (hx1.blk iO.o);have XI:=dI.o.cell Vs.o;have hwf:=dI.o.cell HWC.o;obtain⟨g0,g1,g2,g3,g4⟩:=H5.o w1 dI.o;clear hx1;go_wp2_with fail
    go_still_tail 14,(by kernel_rfl)
    change wpList _ _ _ _ _ w1.drew
    have hx2:Ext w1 w1.drew:=(Tz w1).drew;generalize w1.drew=w2 at hx2 ⊢;have dN:=ai (dI.o.trans hx2);clear hx2 f0 f1 f2 f3 f4 f5 ff e0 ef XI hwf g0 g1 g2 g3 g4;go_wp2_with fail
    refine(HWI.o w2 dN.o).mono ?_;rintro r w3 ⟨rfl,rfl⟩;go_wp2_with fail
    go_ret;exact bW (by rw[HQ.o]) dN.o
   ·obtain⟨GI,-⟩:=JE hat;obtain⟨hif,-,-⟩:=U7 AD.o GI;obtain⟨fb,fo,rfl,hcell⟩:=HI.o.2 i hif;obtain⟨z,hz⟩:∃z,z=f[i]:=⟨_,rfl⟩
    rw[<-hz] at hcell;have HQ:=ai (show R=(decide (lo<=z)&&decide (z<=hi')) by
     rw[HR.o];simp only[um,hat];rw[bL (by decide),bL (by decide),bL (by decide),bL (by decide),bL (by decide),bL (by decide),bL (by decide),bM (by decide)];simp[hif,<-hz])
    have hin:i<fn:=by rw[HI.o.1];exact hif
    have Vs:=ai hcell;rw[hat,nX] at tF;clear hat tC GI hif hcell hz mF CW;have hw4:(decide (lo<=z)=true/\decide (z<=hi')=true/\R=true)\/(decide (lo<=z)=true/\decide (z<=hi')=false/\R=false)\/(decide (lo<=z)=false/\R=false):=by
     rw[HQ.o];cases decide (lo<=z)<;>cases decide (z<=hi')<;>simp
    rcases hw4 with ⟨t1,t2,hf⟩|⟨t1,t2,hf⟩|⟨t1,hf⟩
    all_goals
     have HF:=ai hf;clear hf;go_enter Tryz.func127,Tryz.ntmps127
     go_upto_region 1 with fail
     rw[<-cN];clear cN;go_wp2_with fail
     refine tF.o.mono ?_;rintro r w1 ⟨rfl,hx1⟩;have dI:=ai (dm.o.trans hx1);clear f0 f1 f2 f3 f4 f5 ff e0 ef kL;obtain⟨f0,f1,f2,f3,f4,f5,ff⟩:=cX (hx1.blk gG.o);have XI:=dI.o.cell Vs.o;clear hx1;go_wp2_with fail
     go_quiet (fail)
     go_wp2_with fail
     go_ret;exact bW (by rw[HF.o]) (dI.o.drewN _)
   ·have hj:0<args.length:=by omega
    have HQ:=ai (show R=!(jN s l f (g+1) args[0]) by
     rw[HR.o,bM rfl,aew,aT hj];rfl)
    have hnp:0<na:=by have:=kJ.o;omega
    have HXJ:=ai (fun W (hW:Ext w W)=>eU.at args _ (eU.ext hW args _ HX.o) 0 hj);have HA0:=ai (mF.o 0 hj);obtain⟨V,hV⟩:∃V,V=jN s l f (g+1) args[0]:=⟨_,rfl⟩
    rw[<-hV] at HQ HA0;clear sA hV mF CW;go_enter Tryz.func127,Tryz.ntmps127
    go_upto_region 1 with fail
    rw[<-cN];clear cN;go_wp2_with fail
    refine tF.o.mono ?_;rintro r w1 ⟨rfl,hx1⟩;have dI:=ai (dm.o.trans hx1);unfold sX;clear f0 f1 f2 f3 f4 f5 ff e0 ef kL;obtain⟨f0,f1,f2,f3,f4,f5,ff⟩:=cX (hx1.blk gG.o);obtain⟨e0,ef⟩:=dO (hx1.blk iO.o);obtain⟨b,off,rfl,nJ,nD,nG,nK,nE,nI,h0,h1,h2,h3,h4,h5,h6⟩:=HXJ.o w1 dI.o;have H6:=ai h6;simp only[Nat.zero_mul,Nat.add_zero] at h0 h1 h2 h3 h4 h5;clear hx1 h6;go_wp2_with fail
    go_still_tail 7,(by kernel_rfl)
    change wpList _ _ _ _ _ w1.drew
    have hx2:Ext w1 w1.drew:=(Tz w1).drew;generalize w1.drew=w2 at hx2 ⊢;have dN:=ai (dI.o.trans hx2);have HAX:=ai (HA0.o _ w2 dN.o (H6.o.ext hx2));unfold fN at HAX;clear hx2 f0 f1 f2 f3 f4 f5 ff e0 ef h0 h1 h2 h3 h4 h5;go_wp2_with fail
    refine HAX.o.mono ?_;rintro r w3 ⟨rfl,hx3⟩;have dS:=ai (dN.o.trans hx3);clear hx3;go_wp2_with fail
    go_ret;exact bW (by rw[HQ.o]) dS.o
   ·have HQ:=ai (show R=args.all (pK s f (WY s l f g)) by rw[HR.o,bL (by decide),bM rfl,xl]);have HXJ:=ai (fun W (hW:Ext w W)=>eU.at args _ (eU.ext hW args _ HX.o));obtain⟨V,hV⟩:∃V,V=WY s l f g:=⟨_,rfl⟩
    rw[<-hV] at HQ;have HAV:=ai (show ∀(j:Nat) (hj:j<args.length) (xv:Value) (W:World),Ext w W->dw W args[j] xv->Calls Tryz.prog 127 #[.agg #[.slice sa sn sc],.slice a n c,xv,.slice fa fn fc] W (cz (.bool (pK s f V args[j])) W) from fun j hj xv W hW qV=>by rw[hV,<-al1];exact mF.o j hj xv W hW qV);clear hV mF CW;go_enter Tryz.func127,Tryz.ntmps127
    go_upto_region 1 with fail
    rw[<-cN];clear cN;go_wp2_with fail
    refine tF.o.mono ?_;rintro r w1 ⟨rfl,hx1⟩;have dI:=ai (dm.o.trans hx1);have Uq:=ai (hx1.blk iO.o);have pG:=ai (hx1.blk gG.o);unfold sX;clear f0 f1 f2 f3 f4 f5 ff e0 ef kL;obtain⟨f0,f1,f2,f3,f4,f5,ff⟩:=cX pG.o;clear hx1;go_wp2_with fail
    clear f0 f1 f2 f3 f4 f5 ff;go_loopw [13,14] (aM9 s f V args na w.heap.size (.cells #[.slice sa sn sc] 24 (0,0)) (.cells #[.int .i64 7,.string name,.slice aw nw cw,.int .i64 lo,.int .i64 hi',.slice aa na ca] 45 (0,0)) w) (fun _ i _=>na - (intOf i).toNat)
    case atStart=>exact⟨0,0,rfl,rfl,by omega,by omega,⟨fun _ j _ h=>by omega,fun _=>rfl⟩,Uq.o,pG.o,dI.o⟩
    case round =>
     obtain⟨k,q,rfl,rfl,hk,hqk,hall,hb0,hb1,lM⟩:=hrel;have mK:=ai hall;have aO3:=ai hb0;have aO2:=ai hb1;have gZ:=ai lM;obtain⟨e0,ef⟩:=dO hb0;obtain⟨f0,f1,f2,f3,f4,f5,ff⟩:=cX hb1;clear hall hb0 hb1 lM;by_cases hkn:k<na
     ·have hka:k<args.length:=by have:=kJ.o;omega
      have t1:=ag ((k:Int)<(na:Int));obtain⟨b,off,rfl,nJ,nD,nG,nK,nE,nI,h0,h1,h2,h3,h4,h5,h6⟩:=HXJ.o wr gZ.o k hka;have H6:=ai h6;have HAK:=ai (HAV.o k hka);obtain⟨B,hB⟩:∃B,B=pK s f V args[k]:=⟨_,rfl⟩
      rw[<-hB] at HAK;have jL:=ai hB;clear h6 hB;go_wp2_with fail
      go_still_tail 8,(by kernel_rfl)
      change wpList _ _ _ _ _ wr.drew
      have hx2:Ext wr wr.drew:=(Tz wr).drew;generalize wr.drew=w2 at hx2 ⊢;have dN:=ai (gZ.o.trans hx2);have ah8:=ai (hx2.blk aO3.o);have HB12:=ai (hx2.blk aO2.o);have HAX:=ai (HAK.o _ w2 dN.o (H6.o.ext hx2));unfold fN at HAX;clear hx2 f0 f1 f2 f3 f4 f5 ff e0 ef h0 h1 h2 h3 h4 h5;go_wp2_with fail
      refine HAX.o.mono ?_;rintro r w3 ⟨rfl,hx3⟩;have dS:=ai (dN.o.trans hx3);have wQ:=ai (hx3.blk ah8.o);have nW:=ai (hx3.blk HB12.o);clear hx3;cases B
      ·go_wp2_with fail
       go_roundw
       case rel =>
        refine⟨k+1,q,by go_num,rfl,by omega,by omega,⟨fun h=>by omega,fun h=>?_⟩,wQ.o,nW.o,dS.o⟩;have:=h k hka (by omega);rw[<-jL.o] at this;cases this
       case measure=>simp[intOf];omega
      go_wp2_with fail
      go_roundw
      case rel =>
       refine⟨k+1,q+1,by go_num,by go_num,by omega,by omega,⟨fun h j hj hjk=>?_,fun h=>?_⟩,wQ.o,nW.o,dS.o⟩
       ·by_cases e:j=k
        ·subst e;exact jL.o.symm
        exact mK.o.1 (by omega) j hj (by omega)
       have:=mK.o.2 fun j hj hjk=>h j hj (by omega)
       omega
      case measure=>simp[intOf];omega
     have t1:=ah ((k:Int)<(na:Int));have HF:=ai (show R=((q:Int)==(na:Int)) by
      rw[HQ.o,bH,aP];simp only[a47];constructor
      ·intro h;have:=mK.o.2 fun j hj _=>h _ (aD hj)
       omega
      intro h x hx;obtain⟨j,hj,rfl⟩:=bA hx;exact mK.o.1 (by omega) j hj (by have:=kJ.o;omega))
     go_wp2_with fail
     go_ret;exact bW (by rw[HF.o]) gZ.o
   have HQ:=ai (show R=args.any (pK s f (WY s l f g)) by rw[HR.o,bL (by decide),bL (by decide),bM rfl,xj]);have HXJ:=ai (fun W (hW:Ext w W)=>eU.at args _ (eU.ext hW args _ HX.o));obtain⟨V,hV⟩:∃V,V=WY s l f g:=⟨_,rfl⟩
   rw[<-hV] at HQ;have HAV:=ai (show ∀(j:Nat) (hj:j<args.length) (xv:Value) (W:World),Ext w W->dw W args[j] xv->Calls Tryz.prog 127 #[.agg #[.slice sa sn sc],.slice a n c,xv,.slice fa fn fc] W (cz (.bool (pK s f V args[j])) W) from fun j hj xv W hW qV=>by rw[hV,<-al1];exact mF.o j hj xv W hW qV);clear hV mF CW;go_enter Tryz.func127,Tryz.ntmps127
   go_upto_region 1 with fail
   rw[<-cN];clear cN;go_wp2_with fail
   refine tF.o.mono ?_;rintro r w1 ⟨rfl,hx1⟩;have dI:=ai (dm.o.trans hx1);have Uq:=ai (hx1.blk iO.o);have pG:=ai (hx1.blk gG.o);unfold sX;clear f0 f1 f2 f3 f4 f5 ff e0 ef kL;obtain⟨f0,f1,f2,f3,f4,f5,ff⟩:=cX pG.o;clear hx1;go_wp2_with fail
   clear f0 f1 f2 f3 f4 f5 ff;go_loopw [15] (aM' s f V args na w.heap.size (.cells #[.slice sa sn sc] 24 (0,0)) (.cells #[.int .i64 8,.string name,.slice aw nw cw,.int .i64 lo,.int .i64 hi',.slice aa na ca] 45 (0,0)) w) (fun i _=>na - (intOf i).toNat)
   case atStart=>exact⟨0,rfl,by omega,fun j _ h=>by omega,Uq.o,pG.o,dI.o⟩
   case round =>
    obtain⟨k,rfl,hk,hall,hb0,hb1,lM⟩:=hrel;have mK:=ai hall;have aO3:=ai hb0;have aO2:=ai hb1;have gZ:=ai lM;obtain⟨e0,ef⟩:=dO hb0;obtain⟨f0,f1,f2,f3,f4,f5,ff⟩:=cX hb1;clear hall hb0 hb1 lM;by_cases hkn:k<na
    ·have hka:k<args.length:=by have:=kJ.o;omega
     have t1:=ag ((k:Int)<(na:Int));obtain⟨b,off,rfl,nJ,nD,nG,nK,nE,nI,h0,h1,h2,h3,h4,h5,h6⟩:=HXJ.o wr gZ.o k hka;have H6:=ai h6;have HAK:=ai (HAV.o k hka);obtain⟨B,hB⟩:∃B,B=pK s f V args[k]:=⟨_,rfl⟩
     rw[<-hB] at HAK;have jL:=ai hB;clear h6 hB;go_wp2_with fail
     go_still_tail 8,(by kernel_rfl)
     change wpList _ _ _ _ _ wr.drew
     have hx2:Ext wr wr.drew:=(Tz wr).drew;generalize wr.drew=w2 at hx2 ⊢;have dN:=ai (gZ.o.trans hx2);have ah8:=ai (hx2.blk aO3.o);have HB12:=ai (hx2.blk aO2.o);have HAX:=ai (HAK.o _ w2 dN.o (H6.o.ext hx2));unfold fN at HAX;clear hx2 f0 f1 f2 f3 f4 f5 ff e0 ef h0 h1 h2 h3 h4 h5;go_wp2_with fail
     refine HAX.o.mono ?_;rintro r w3 ⟨rfl,hx3⟩;have dS:=ai (dN.o.trans hx3);have wQ:=ai (hx3.blk ah8.o);have nW:=ai (hx3.blk HB12.o);clear hx3;cases B
     ·go_wp2_with fail
      go_roundw
      case rel =>
       refine⟨k+1,by go_num,by omega,fun j hj hjk=>?_,wQ.o,nW.o,dS.o⟩;by_cases e:j=k
       ·subst e;exact jL.o.symm
       exact mK.o j hj (by omega)
      case measure=>simp[intOf];omega
     have HF:=ai (show R=true by rw[HQ.o,List.any_eq_true];exact⟨_,aD hka,jL.o.symm⟩);go_wp2_with fail
     go_ret;exact bW (by rw[HF.o]) dS.o
    have t1:=ah ((k:Int)<(na:Int));have HF:=ai (show R=false by
     rw[HQ.o,List.any_eq_false];intro x hx;obtain⟨j,hj,rfl⟩:=bA hx;rw[mK.o j hj (by have:=kJ.o;omega)];simp)
    go_wp2_with fail
    go_ret;exact bW (by rw[HF.o]) gZ.o
structure gS where
 value:Bool
 pick:Int
 a:OA
 n:Nat
 c:Nat
def gS.cells (v:gS):List Value:=[.bool v.value,.int .i64 v.pick,.slice v.a v.n v.c]
def gS.val (v:gS):Value:=.agg #[.bool v.value,.int .i64 v.pick,.slice v.a v.n v.c]
theorem gS.len (v:gS):v.cells.length=3:=rfl
inductive gL (w:World):Pr->gS->Prop
 | mk {v:Bool} {k:Int} {ps:List Pr} {a:OA} {n c:Nat} (vs:List gS) (hr:eE w 3 gS.cells vs a n c) (hl:vs.length=ps.length)
   (h:∀i (h1:i<ps.length) (h2:i<vs.length),gL w ps[i] vs[i]):gL w (.mk v k ps) ⟨v,k,a,n,c⟩
theorem gL.mono {w w':World} {p:Pr} {v:gS} (h:gL w p v) (hs:Sub w w'):gL w' p v:=by
 induction h with
 | mk vs hr hl _ ih=>exact .mk vs (hr.mono hs) hl ih
theorem gL.ext {w w':World} {p:Pr} {v:gS} (h:gL w p v) (he:Ext w w'):gL w' p v:=h.mono he.sub
theorem gL.parts {w:World} {p:Pr} {v:gS} (h:gL w p v):v.value=p.value/\v.pick=p.pick/\v.n=p.args.length/\v.n<=v.c/\ny v.a v.c /\
  ∀i (hi:i<p.args.length),∃b off q,v.a=some ⟨b,off,none⟩/\gL w p.args[i] q/\w.cell? ⟨b,off+i*3,none⟩=some (.bool q.value)/\w.cell? ⟨b,off+i*3+1,none⟩=some (.int .i64 q.pick)/\w.cell? ⟨b,off+i*3+2,none⟩=some (.slice q.a q.n q.c):=by
 cases h with
 | mk vs hr hl h =>
  refine⟨rfl,rfl,hr.1.trans hl,hr.2.1,hr.2.2.1,fun i hi=>?_⟩;simp only[Pr.args] at hi ⊢;obtain⟨b,off,e,hc⟩:=hr.2.2.2 i (by omega);exact⟨b,off,_,e,h i hi (by omega),hc 0 (by simp[gS.len]),hc 1 (by simp[gS.len]),hc 2 (by simp[gS.len])⟩
theorem uBy:Tryz.prog.underlying 5=some (.int .u8):=by kernel_rfl
theorem uBs:Tryz.prog.underlying 153=some (.slice 5):=by kernel_rfl
theorem uSt:Tryz.prog.underlying 9=some .string:=by kernel_rfl
theorem JL {w0 w:World} {bd:Nat} (h:cg w0 w bd) (most:Int) (h0:0<=most) (h1:most<=10000000000000) :
  Calls Tryz.prog 43 #[.pointer (some ⟨bd,0,none⟩),.int .i64 most] w (alG 0 (most+1) w0 bd w):=by
 go_enter Tryz.func43,Tryz.ntmps43
 go_wp2_with fail
 refine(dx h 6 (by omega) (by omega)).mono ?_;rintro e w1 ⟨r,rfl,hr0,hr1,hd,hc⟩;have HC:=ai hc;have h4:∀(k:Int),0<k->k<=10000000000001->Calls Tryz.prog 37 #[.pointer (some ⟨bd,0,none⟩),.int .i64 k] w1 (alG 0 k w0 bd w1):=fun k hk hk2=>dx hd k hk (by omega)
 have H4:=ai h4;clear hc hd h4;have hr:r=0\/r=1\/r=2\/r=3\/r=4\/r=5:=by omega
 clear hr0 hr1;rcases hr with rfl|rfl|rfl|rfl|rfl|rfl
 all_goals
  go_wp2_with fail
  all_goals
   refine(H4.o _ (by omega) (by omega)).mono ?_;rintro e w2 ⟨q,rfl,CQ,hq1,qd,hc2⟩;have iP:=ai (HC.o.then hc2);have pY:=ai qd;clear hc2 qd H4 HC;go_wp2_with fail
   all_goals
    go_ret;exact⟨_,rfl,by omega,by omega,pY.o,iP.o⟩
def aSw (w:World) (e:Ending) (w':World):Prop:=∃b:Bool,e=.returned (.bool b)/\Ext w w'
theorem auM {w0 w:World} {bd:Nat} (h:cg w0 w bd):Calls Tryz.prog 67 #[.pointer (some ⟨bd,0,none⟩)] w (aSw w):=by
 obtain⟨la,ln,lc,k,hb,hk,vC,hL,hx,hbd⟩:=h;obtain⟨c0,c1,cf⟩:=uZ hb;clear hL hx hb;go_enter Tryz.func67,Tryz.ntmps67
 go_wp2_with fail
 go_quiet (fail)
 go_wp2_with fail
 go_ret;exact⟨_,rfl,(Tz w).drewN _⟩
theorem aEt (w:World) (x:Nat) (hx:x=w.heap.size) (c d:Int) (t:TypeId):Sem.run Tryz.prog (convert 153 9 (.slice (some ⟨x,0,none⟩) 2 2)) (w.alloc (.cells #[.int .u8 c,.int .u8 d] t))=.ok (.string ⟨#[UInt8.ofNat c.toNat,UInt8.ofNat d.toNat]⟩) (w.alloc (.cells #[.int .u8 c,.int .u8 d] t)):=by
 subst hx;rw[run_convert_bytes_string _ _ _ 5 _ _ _ uBs uBy uSt];have:=run_bytesToString (P:=Tryz.prog) (w.alloc (.cells #[.int .u8 c,.int .u8 d] t)) ⟨w.heap.size,0,none⟩ 2 2 [c,d] (by
  refine run_loadCells_list (P:=Tryz.prog) _ _ [.int .u8 c,.int .u8 d] (fun j v hj=>?_);have:(⟨w.heap.size,0,none⟩:Addr).add j=⟨w.heap.size,j,none⟩:=by unfold Addr.add;split<;>simp_all
  rw[this,World.cell?_alloc_at _ _ _ _ rfl];simpa using hj)
 rw[this]
 rfl
def ym (p:BA) (k:Nat):BA:=p++⟨#[97+UInt8.ofNat (k / 26 % 26),97+UInt8.ofNat (k % 26)]⟩
theorem Wl (p:BA) (k:Nat):(ym p k).size=p.size+2:=by unfold ym;rw[ByteArray.size_append];rfl
def aFc (p:BA) (k:Nat) (w:World) (e:Ending) (w':World):Prop:=e=.returned (.string (ym p k))/\Ext w w'
theorem Wk (p:BA) (k:Nat) (hk:k<=1000) (hp:p.size<=1000) (w:World):Calls Tryz.prog 66 #[.string p,.int .i64 k] w (aFc p k w):=by
 have kc:=aEt;go_enter Tryz.func66,Tryz.ntmps66
 go_wp2_with fail
 go_ret;exact⟨rfl,(Tz w).alloc _⟩
end Go.Proofs.YtefjomofjejklaaGreatDoor
