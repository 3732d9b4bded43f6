/- Joined. -/
import Derived.Test.YtefjomofjejklaaGreatDoorDa10
namespace Go.Proofs.YtefjomofjejklaaGreatDoor
set_option maxRecDepth 100000
set_option maxHeartbeats 32000000
open Go.RowKit
def nM (V:Ex->Bool):List Wb->Bool
 | []=>false
 | .mk _ c u::r=>(V c&&!nM V u)||nM V r
def jY (P:Ex->Prop):List Wb->Prop
 | []=>True
 | .mk _ c u::r=>P c/\jY P u/\u.length<=1000000000000000/\jY P r
theorem aa4 (V:Ex->Bool) {l:List Wb} {k:Nat} (hk:k<l.length):nM V (l.drop k)=((V l[k].cond&&!nM V l[k].gH)||nM V (l.drop (k+1))):=by
 rw[List.drop_eq_getElem_cons hk];cases h:l[k] with
 | mk n c u=>rw[nM];rfl
theorem j7 {P:Ex->Prop}:(l:List Wb)->jY P l->(k:Nat)->(hk:k<l.length)->P l[k].cond/\jY P l[k].gH/\l[k].gH.length<=1000000000000000
 | [],_,k,hk=>by simp at hk
 | .mk n c u::r,h,0,_=>by
  unfold jY at h;exact⟨h.1,h.2.1,h.2.2.1⟩
 | .mk n c u::r,h,k+1,hk=>by
  unfold jY at h;simpa using j7 r h.2.2.2 k (by simpa using hk)
def aaL (w0:World) (sa:OA) (sn sc:Nat) (a:OA) (n c:Nat) (fa:OA) (fn fc:Nat) (V:Ex->Bool) (P:Ex->Prop):Prop :=
 ∀(e:Ex) (x:dK) (W:World),Ext w0 W->P e->dw W e x.val->Calls Tryz.prog 127 #[.agg #[.slice sa sn sc],.slice a n c,x.val,.slice fa fn fc] W (cz (.bool (V e)) W)
def aSc (nm:BA) (x:dK) (au:OA) (nu cu:Nat):Obj:=.cells #[.string nm,x.op,.string x.name,.slice x.aw x.nw x.cw,x.lo,x.hi,.slice x.aa x.na x.ca,.slice au nu cu] 53 (0,0)
def BkI (V:Ex->Bool) (u:List Wb) (n:Nat) (w:World) (i:Value) (wr:World):Prop:=∃k:Nat,i=.int .i64 k/\k<=n/\nM V u=nM V (u.drop k)/\Ext w wr
def aPJ (b0:Nat) (sa:OA) (sn sc:Nat) (a:OA) (n c:Nat) (fa:OA) (fn fc:Nat) (b off k nu cu:Nat) (v:Cz) (Q:Bool):Nat->Value->World->Prop
 | 0,u,_=>u=.agg #[.slice sa sn sc]
 | 1,u,_=>u=.slice a n c
 | 2,u,_=>u=.pointer (some ⟨b0+1,7,none⟩)
 | 3,u,_=>u=.slice (some ⟨b,off,none⟩) nu cu
 | 4,u,_=>u=.int .i64 k
 | 5,u,_=>u=.pointer (some ⟨b,off+k*8,none⟩)
 | 6,u,_=>u=.agg #[.string v.name,v.x.op,.string v.x.name,.slice v.x.aw v.x.nw v.x.cw,v.x.lo,v.x.hi,.slice v.x.aa v.x.na v.x.ca,.slice v.au v.nu v.cu]
 | 7,u,_=>u=.slice fa fn fc
 | _,u,_=>u=.bool Q
theorem S5 {w0:World} {sa:OA} {sn sc:Nat} {a:OA} {n c:Nat} {fa:OA} {fn fc:Nat} {V:Ex->Bool} {P:Ex->Prop} (ht:aaL w0 sa sn sc a n c fa fn fc V P):∀(m:Nat) (cond:Ex) (u:List Wb) (nm:BA) (x:dK) (au:OA) (nu cu:Nat) (w:World),mH u<=m->Ext w0 w->P cond->jY P u->nu<=1000000000000000->nu=u.length->dw w cond x.val->gK w u au ->
  Calls Tryz.prog 97 #[.agg #[.slice sa sn sc],.slice a n c,.agg #[.string nm,x.op,.string x.name,.slice x.aw x.nw x.cw,x.lo,x.hi,.slice x.aa x.na x.ca,.slice au nu cu],.slice fa fn fc] w (cz (.bool (V cond&&!nM V u)) w):=by
 intro m;induction m using Nat.strongRecOn with
 | _ m ih =>
  intro cond u nm x au nu cu w hm hx0 hp hok ZW hlen hex hd;have HT:=ai (fun (W:World) (hW:Ext w W)=>ht cond x W (hx0.trans hW) hp (hex.ext hW));have HIH:=ai (fun (k:Nat) (hk:k<u.length) (v:Cz) (W:World) (hW:Ext w W) (wU:dw W u[k].cond v.x.val) (Co:v.nu=u[k].gH.length) (PZ:gK W u[k].gH v.au)=>ih (mH u[k].gH) (by have:=zw u k hk;omega) u[k].cond u[k].gH v.name v.x v.au v.nu v.cu W (aU _) (hx0.trans hW) (j7 u hok k hk).1 (j7 u hok k hk).2.1 (by have:=(j7 u hok k hk).2.2;omega) Co wU PZ);have HD:=ai hd;have qB:=ai hlen;unfold dK.val fN at HT;obtain⟨T,hT⟩:∃T,T=V cond:=⟨_,rfl⟩
  rw[<-hT] at HT ⊢;clear ih hm hx0 hp hok hlen hex hd hT;obtain⟨wa,cN⟩:∃wa,wa=(w.alloc (.cells #[.slice sa sn sc] 24)).alloc (.cells #[.string nm,x.op,.string x.name,.slice x.aw x.nw x.cw,x.lo,x.hi,.slice x.aa x.na x.ca,.slice au nu cu] 53):=⟨_,rfl⟩
  have dm:=ai (show Ext w wa by rw[cN];exact((Tz _).alloc _).alloc _);have HA4:=ai (show wa.heap[w.heap.size]?=some (.cells #[.slice sa sn sc] 24 (0,0)) by rw[cN];exact bU (bR w _));have Ru:=ai (show wa.heap[w.heap.size+1]?=some (aSc nm x au nu cu) by rw[cN];exact alloc_at (by simp));obtain⟨s0,sf⟩:=dO HA4.o;obtain⟨y0,y1,y2,y3,y4,y5,y6,y7,yf⟩:=oO Ru.o;go_enter Tryz.func97,Tryz.ntmps97
  go_upto_region 1 with fail
  rw[<-cN];clear cN;go_wp2_with fail
  refine(HT.o wa dm.o).mono ?_;rintro r w1 ⟨rfl,hx1⟩;have dI:=ai (dm.o.trans hx1);have qD:=ai (hx1.blk HA4.o);have jO:=ai (hx1.blk Ru.o);clear hx1 s0 sf y0 y1 y2 y3 y4 y5 y6 y7 yf HA4 Ru HT dm;cases T
  ·go_wp2_with fail
   go_ret;exact bW (by simp) dI.o
  go_wp2_with fail
  go_loopw [9] (BkI V u nu w1) (fun i _=>nu - (intOf i).toNat)
  case atStart=>exact⟨0,rfl,Nat.zero_le _,rfl,Tz _⟩
  case round =>
   obtain⟨k,rfl,hk,hv,hx⟩:=hrel;obtain⟨wo,rfl⟩:∃wo:World,wo=wr:=⟨_,rfl⟩
   have HV:=ai hv;have HX:=ai hx;obtain⟨b0,hb0⟩:∃b0,b0=w.heap.size:=⟨_,rfl⟩
   rw[<-hb0] at qD jO ⊢;obtain⟨s0,sf⟩:=dO (hx.blk qD.o);obtain⟨y0,y1,y2,y3,y4,y5,y6,y7,yf⟩:=oO (hx.blk jO.o);clear hv hx hb0;by_cases hkn:k<nu
   ·have fq:k<u.length:=by have:=qB.o;omega
    have t1:=ag ((k:Int)<(nu:Int));have tk0:(0:Int)<=(k:Int):=by omega
    have tk1:(k:Int)<(nu:Int):=by omega
    obtain⟨b,off,rfl,v,Co,hrow,wU,Sg,-,-,PZ⟩:=gK.at u _ (gK.mono (dI.o.trans HX.o).sub u _ HD.o) k fq;obtain⟨c0,c1,c2,c3,c4,c5,c6,c7⟩:=hrow.eight;have se:=ai (fun W (hW:Ext wo W)=>HIH.o k fq v W ((dI.o.trans HX.o).trans hW) (wU.ext hW) Sg (gK.mono hW.sub _ _ PZ));have HST:=ai (aa4 V fq);obtain⟨Q,hQ⟩:∃Q,Q=(V u[k].cond&&!nM V u[k].gH):=⟨_,rfl⟩
    rw[<-hQ] at se HST;clear Co hrow wU Sg PZ hQ HIH;go_upto_region 6 with fail
    refine fk (m:=9) [8] (GrG wo) Lu (uz (aPJ b0 sa sn sc a n c fa fn fc b off k nu cu v Q)) (by kernel_rfl) (by kernel_rfl) ((Tz wo).drew) ?_ ?_ ?_
    ·intro i k v W W' hi hk hne hout h hE;have hE:Ext W W':=hE;have hi':=ltc9 hi;clear hi hk hne hout;rcases hi' with rfl|rfl|rfl|rfl|rfl|rfl|rfl|rfl|rfl
     ·exact h
     ·exact h
     ·exact h
     ·exact h
     ·exact h
     ·exact h
     ·exact h
     ·exact h
     exact h
    ·intro q op hq ho vs W hW hd ρ hρ;have jA:=ltc9 hq;clear hq;have o4:ρ (.tmp 4)=.pointer (some ⟨b0,0,none⟩):=hρ.out 4 rfl;have o1:ρ (.tmp 1)=.slice a n c:=hρ.out 1 rfl;have o6:ρ (.tmp 6)=.pointer (some ⟨b0+1,0,none⟩):=hρ.out 6 rfl;have i2:=hρ.i 2 26;have o9:ρ (.tmp 9)=.int .i64 k:=hρ.out 9 rfl;have i3:=hρ.i 3 27;have i4:=hρ.i 4 28;have i5:=hρ.i 5 29;have o3:ρ (.tmp 3)=.slice fa fn fc:=hρ.out 3 rfl;have i0:=hρ.i 0 24;have i1:=hρ.i 1 25;have i6:=hρ.i 6 30;have i7:=hρ.i 7 31;have hc:=hρ.const;have hfn:=hρ.func;clear hρ;have HW:=ai (show Ext wo W from hW);rcases jA with rfl|rfl|rfl|rfl|rfl|rfl|rfl|rfl|rfl
     ·cases ho
      clear hd;have g0:=HW.o.cell s0;unfold bQ;go_simp;exact⟨Tz W,rfl⟩
     ·cases ho
      clear hd;unfold bQ;go_simp;exact⟨Tz W,rfl⟩
     ·cases ho
      clear hd;unfold bQ;go_simp;exact⟨Tz W,rfl⟩
     ·cases ho
      have h2:vs 2=_:=hd ⟨2,.data⟩ (by simp) rfl;rw[h2] at i2;clear hd;have g0:=HW.o.cell y7;unfold bQ;go_simp;exact⟨Tz W,rfl⟩
     ·cases ho
      clear hd;unfold bQ;go_simp;exact⟨Tz W,rfl⟩
     ·cases ho
      have h3:vs 3=_:=hd ⟨3,.data⟩ (by simp) rfl;rw[h3] at i3;have h4:vs 4=_:=hd ⟨4,.data⟩ (by simp) rfl;rw[h4] at i4;clear hd;unfold bQ;go_simp;exact⟨Tz W,rfl⟩
     ·cases ho
      have h5:vs 5=_:=hd ⟨5,.data⟩ (by simp) rfl;rw[h5] at i5;clear hd;have g0:=HW.o.cell c0;have g1:=HW.o.cell c1;have g2:=HW.o.cell c2;have g3:=HW.o.cell c3;have g4:=HW.o.cell c4;have g5:=HW.o.cell c5;have g6:=HW.o.cell c6;have g7:=HW.o.cell c7;unfold bQ;go_simp;exact⟨Tz W,rfl⟩
     ·cases ho
      clear hd;unfold bQ;go_simp;exact⟨Tz W,rfl⟩
     cases ho
     have h0:vs 0=_:=hd ⟨0,.data⟩ (by simp) rfl;rw[h0] at i0;have h1:vs 1=_:=hd ⟨1,.data⟩ (by simp) rfl;rw[h1] at i1;have h6:vs 6=_:=hd ⟨6,.data⟩ (by simp) rfl;rw[h6] at i6;have h7:vs 7=_:=hd ⟨7,.data⟩ (by simp) rfl;rw[h7] at i7;clear hd;unfold bQ;go_simp;refine(se.o W HW.o).mono ?_;rintro r w5 ⟨rfl,dh⟩;exact⟨_,rfl,dh,HW.o.trans dh,rfl⟩
    intro vs W hW hR;rw[bM (by decide +kernel)];have h8:vs 8=.bool Q:=hR 8 (by simp) (by omega);simp only[fL,dU,List.range,List.range.loop,aX,bN,h8];go_simp;have hW2:Ext wo W:=hW;clear hR hW h8;cases Q
    ·go_wp2_with fail
     go_roundw
     case rel=>exact⟨k+1,by go_num,by omega,by rw[HV.o,HST.o];rfl,HX.o.trans hW2⟩
     case measure=>simp[intOf];omega
    have HQ:=ai (show nM V u=true by rw[HV.o,HST.o];rfl);go_wp2_with fail
    go_ret;exact bW (by rw[HQ.o];rfl) ((dI.o.trans HX.o).trans hW2)
   have t1:=ah ((k:Int)<(nu:Int));have HQ:=ai (show nM V u=false by
    rw[HV.o,show k=u.length by have:=qB.o;omega,List.drop_length,nM])
   go_wp2_with fail
   go_ret;exact bW (by rw[HQ.o];rfl) (dI.o.trans HX.o)
def ke (V:Ex->Bool) (x:cK):Bool:=V x.cond&&!nM V x.gH
theorem tJ {w0:World} {sa:OA} {sn sc:Nat} {a:OA} {n c:Nat} {fa:OA} {fn fc:Nat} {V:Ex->Bool} {P:Ex->Prop} (ht:aaL w0 sa sn sc a n c fa fn fc V P) (x:cK) (v:fM) (w:World) (hx0:Ext w0 w) (hp:P x.cond) (hok:jY P x.gH) (ZW:x.gH.length<=1000000000000000) (hi:ij w x v) :
  Calls Tryz.prog 64 #[.agg #[.slice sa sn sc],.slice a n c,.agg #[ v.kind,.string v.name,v.x.op,.string v.x.name,.slice v.x.aw v.x.nw v.x.cw,v.x.lo,v.x.hi,.slice v.x.aa v.x.na v.x.ca,.slice v.au v.nu v.cu,v.ck],.slice fa fn fc] w (cz (.bool (ke V x)) w):=by
 obtain⟨-,-,hex,hlen,-,-,hd,-⟩:=hi;have HB:=ai (fun (W:World) (hW:Ext w W)=>S5 ht (mH x.gH) x.cond x.gH ⟨#[]⟩ v.x v.au v.nu v.cu W (aU _) (hx0.trans hW) hp hok (by omega) hlen (hex.ext hW) (gK.mono hW.sub _ _ hd));obtain⟨R,hR⟩:∃R,R=ke V x:=⟨_,rfl⟩
 rw[<-hR];have hR':(V x.cond&&!nM V x.gH)=R:=hR.symm;rw[hR'] at HB;clear hR hR' hex hlen hd;obtain⟨wa,cN⟩:∃wa,wa=(w.alloc (.cells #[.slice sa sn sc] 24)).alloc (.cells #[ v.kind,.string v.name,v.x.op,.string v.x.name,.slice v.x.aw v.x.nw v.x.cw,v.x.lo,v.x.hi,.slice v.x.aa v.x.na v.x.ca,.slice v.au v.nu v.cu,v.ck] 48):=⟨_,rfl⟩
 have dm:=ai (show Ext w wa by rw[cN];exact((Tz _).alloc _).alloc _);obtain⟨s0,sf⟩:=dO (show wa.heap[w.heap.size]?=some (.cells #[.slice sa sn sc] 24 (0,0)) by rw[cN];exact bU (bR w _));obtain⟨y0,y1,y2,y3,y4,y5,y6,y7,y8,y9,yf⟩:=rB (show wa.heap[w.heap.size+1]?=some (.cells #[ v.kind,.string v.name,v.x.op,.string v.x.name,.slice v.x.aw v.x.nw v.x.cw,v.x.lo,v.x.hi,.slice v.x.aa v.x.na v.x.ca,.slice v.au v.nu v.cu,v.ck] 48 (0,0)) by rw[cN];exact alloc_at (by simp));go_enter Tryz.func64,Tryz.ntmps64
 go_upto_region 1 with fail
 rw[<-cN];clear cN;go_wp2_with fail
 refine(HB.o wa dm.o).mono ?_;rintro r w1 ⟨rfl,hx1⟩;have dI:=ai (dm.o.trans hx1);clear hx1;go_wp2_with fail
 go_ret;exact bW rfl dI.o
structure axu (w0:World) (sa:OA) (sn sc:Nat) (l:List cK) (a:OA) (n c:Nat) (fa:OA) (fn fc:Nat) (V:Ex->Bool) (P:Ex->Prop):Prop where
 tr:aaL w0 sa sn sc a n c fa fn fc V P
 OV:cZ w0 l a n c
 iT:n<=1000000
 ok:∀x∈l,P x.cond/\jY P x.gH/\x.gH.length<=1000000000000000
def jC (V:Ex->Bool) (kind:Int) (neg:Bool):List cK->Bool
 | []=>false
 | x::r=>(x.kind==kind&&(ke V x != neg))||jC V kind neg r
theorem atE (V:Ex->Bool) (kind:Int) (neg:Bool) {l:List cK} {k:Nat} (hk:k<l.length):jC V kind neg (l.drop k)=((l[k].kind==kind&&(ke V l[k] != neg))||jC V kind neg (l.drop (k+1))):=by
 rw[List.drop_eq_getElem_cons hk,jC]
def pO (V:Ex->Bool) (kind:Int) (m:Int) (x:cK):Int:=if (x.kind==kind&&ke V x)=true then max m x.ck else m
def oU (V:Ex->Bool) (kind:Int) (l:List cK):Int:=l.foldl (pO V kind) 0
theorem arl (V:Ex->Bool) (kind:Int) {l:List cK} {k:Nat} (hk:k<l.length):oU V kind (l.take (k+1))=pO V kind (oU V kind (l.take k)) l[k]:=by
 unfold oU;rw[aO hk,List.foldl_append]
 rfl
def SmL (V:Ex->Bool) (kind:Int) (neg:Bool) (l:List cK) (n:Nat) (w:World) (i:Value) (wr:World):Prop:=∃k:Nat,i=.int .i64 k/\k<=n/\jC V kind neg l=jC V kind neg (l.drop k)/\Ext w wr
def GtL (V:Ex->Bool) (kind:Int) (l:List cK) (n:Nat) (w:World) (v i:Value) (wr:World):Prop:=∃k:Nat,v=.int .i64 (oU V kind (l.take k))/\i=.int .i64 k/\k<=n/\Ext w wr
def aU' (wr:World) (_:ZN) (_:Nat->Value) (W:World):Prop:=Ext wr W
def aBR (_b0:Nat) (sa:OA) (sn sc b off n c:Nat) (fa:OA) (fn fc k:Nat) (kind:Int) (neg:Bool) (v:fM) (Q:Bool):Nat->Value->World->Prop
 | 0,u,_=>u=.slice (some ⟨b,off,none⟩) n c
 | 1,u,_=>u=.int .i64 k
 | 2,u,_=>u=.pointer (some ⟨b,off+k*10,none⟩)
 | 3,u,_=>u=.pointer (some ⟨b,off+k*10,none⟩)
 | 4,u,_=>u=.int .i64 v.kind
 | 5,u,_=>u=.int .i64 kind
 | 6,u,_=>u=.bool true
 | 7,u,_=>u=.bool true
 | 8,u,_=>u=.agg #[.slice sa sn sc]
 | 9,u,_=>u=.slice (some ⟨b,off,none⟩) n c
 | 10,u,_=>u=.slice (some ⟨b,off,none⟩) n c
 | 11,u,_=>u=.int .i64 k
 | 12,u,_=>u=.pointer (some ⟨b,off+k*10,none⟩)
 | 13,u,_=>u=.agg #[ v.kind,.string v.name,v.x.op,.string v.x.name,.slice v.x.aw v.x.nw v.x.cw,v.x.lo,v.x.hi,.slice v.x.aa v.x.na v.x.ca,.slice v.au v.nu v.cu,v.ck]
 | 14,u,_=>u=.slice fa fn fc
 | 15,u,_=>u=.bool Q
 | 16,u,_=>u=.bool neg
 | 17,u,_=>u=.bool (Q != neg)
 | _,u,_=>u=.bool (Q != neg)
def aB6 (_b0:Nat) (sa:OA) (sn sc b off n c:Nat) (fa:OA) (fn fc k:Nat) (kind:Int) (v:fM) (Q:Bool):Nat->Value->World->Prop
 | 0,u,_=>u=.slice (some ⟨b,off,none⟩) n c
 | 1,u,_=>u=.int .i64 k
 | 2,u,_=>u=.pointer (some ⟨b,off+k*10,none⟩)
 | 3,u,_=>u=.pointer (some ⟨b,off+k*10,none⟩)
 | 4,u,_=>u=.int .i64 v.kind
 | 5,u,_=>u=.int .i64 kind
 | 6,u,_=>u=.bool true
 | 7,u,_=>u=.bool true
 | 8,u,_=>u=.agg #[.slice sa sn sc]
 | 9,u,_=>u=.slice (some ⟨b,off,none⟩) n c
 | 10,u,_=>u=.slice (some ⟨b,off,none⟩) n c
 | 11,u,_=>u=.int .i64 k
 | 12,u,_=>u=.pointer (some ⟨b,off+k*10,none⟩)
 | 13,u,_=>u=.agg #[ v.kind,.string v.name,v.x.op,.string v.x.name,.slice v.x.aw v.x.nw v.x.cw,v.x.lo,v.x.hi,.slice v.x.aa v.x.na v.x.ca,.slice v.au v.nu v.cu,v.ck]
 | 14,u,_=>u=.slice fa fn fc
 | 15,u,_=>u=.bool Q
 | _,u,_=>u=.bool Q
theorem ap1 {w0:World} {sa:OA} {sn sc:Nat} {l:List cK} {a:OA} {n c:Nat} {fa:OA} {fn fc:Nat} {V:Ex->Bool} {P:Ex->Prop} (hv:axu w0 sa sn sc l a n c fa fn fc V P) (kind:Int) (neg:Bool) (w:World) (hx0:Ext w0 w) :
  Calls Tryz.prog 62 #[.agg #[.slice sa sn sc],.slice a n c,kind,.slice fa fn fc,.bool neg] w (cz (.bool (jC V kind neg l)) w):=by
 have HN:=ai hv.OV.len;have HC:=ai hv.OV;have hn:=hv.iT;have Gl:=ai (fun (k:Nat) (hk:k<l.length) (v:fM) W (hW:Ext w W) (hcl:ij W l[k] v)=>tJ hv.tr l[k] v W (hx0.trans hW) (hv.ok _ (aD hk)).1 (hv.ok _ (aD hk)).2.1 (hv.ok _ (aD hk)).2.2 hcl);have BO:=ai hx0;clear hv hx0;obtain⟨wa,cN⟩:∃wa,wa=w.alloc (.cells #[.slice sa sn sc] 24):=⟨_,rfl⟩
 have dm:=ai (show Ext w wa by rw[cN];exact(Tz _).alloc _);have Nn:=ai (show wa.heap[w.heap.size]?=some (.cells #[.slice sa sn sc] 24 (0,0)) by rw[cN];exact bR w _);go_enter Tryz.func62,Tryz.ntmps62
 go_upto_region 1 with fail
 rw[<-cN];clear cN;go_wp2_with fail
 go_loopw [11] (SmL V kind neg l n wa) (fun i _=>n - (intOf i).toNat)
 case atStart=>exact⟨0,rfl,Nat.zero_le _,rfl,Tz _⟩
 case round =>
  obtain⟨k,rfl,hk,hv,hx⟩:=hrel;obtain⟨wo,rfl⟩:∃wo:World,wo=wr:=⟨_,rfl⟩
  have HV:=ai hv;have HX:=ai hx;obtain⟨b0,hb0⟩:∃b0,b0=w.heap.size:=⟨_,rfl⟩
  rw[<-hb0] at Nn ⊢;obtain⟨s0,sf⟩:=dO (hx.blk Nn.o);clear hv hx hb0;by_cases hkn:k<n
  ·have fq:k<l.length:=by have:=HN.o;omega
   have t1:=ag ((k:Int)<(n:Int));have tk0:(0:Int)<=(k:Int):=by omega
   have tk1:(k:Int)<(n:Int):=by omega
   obtain⟨b,off,v,rfl,hcl,hrow⟩:=(HC.o.ext (BO.o.trans (dm.o.trans HX.o))).at fq;obtain⟨c0,c1,c2,c3,c4,c5,c6,c7,c8,c9⟩:=hrow.BB;have hvk:v.kind=l[k].kind:=hcl.1;have se:=ai (fun W (hW:Ext wo W)=>Gl.o k fq v W ((dm.o.trans HX.o).trans hW) (hcl.mono hW.sub));have HST:=ai (atE V kind neg fq);rw[<-hvk] at HST;obtain⟨Q,hQ⟩:∃Q,Q=ke V l[k]:=⟨_,rfl⟩
   rw[<-hQ] at se HST;clear hrow hcl hvk hQ Gl;cases hq:(v.kind==kind)
   ·have HQ:=ai hq;go_wp2_with fail
    go_quiet (fail)
    go_wp2_with fail
    go_roundw
    case rel=>exact⟨k+1,by go_num,by omega,by rw[HV.o,HST.o,HQ.o];rfl,HX.o.drewN _⟩
    case measure=>simp[intOf];omega
   have HQ:=ai hq;go_upto_region 4 with fail
   refine dF (n:=37) (m:=19) [18] (aU' wo) Lu (uz (aBR b0 sa sn sc b off n c fa fn fc k kind neg v Q)) (by kernel_rfl) (by kernel_rfl) (Nat.le_of_ble_eq_true rfl) ?gd ((Tz wo).drew) ?_ ?_ ?_
   case gd =>
    intro i o j b hi ho hg;rcases ltc19 hi with rfl|rfl|rfl|rfl|rfl|rfl|rfl|rfl|rfl|rfl|rfl|rfl|rfl|rfl|rfl|rfl|rfl|rfl|rfl<;>(cases ho;first|(cases hg;done)|(cases hg;intro v W h;exact h))
   ·intro i k v W W' hi hk hne hout h hE;have hE:Ext W W':=hE;have hi':=ltc19 hi;clear hi hk hne hout;rcases hi' with rfl|rfl|rfl|rfl|rfl|rfl|rfl|rfl|rfl|rfl|rfl|rfl|rfl|rfl|rfl|rfl|rfl|rfl|rfl
    ·exact h
    ·exact h
    ·exact h
    ·exact h
    ·exact h
    ·exact h
    ·exact h
    ·exact h
    ·exact h
    ·exact h
    ·exact h
    ·exact h
    ·exact h
    ·exact h
    ·exact h
    ·exact h
    ·exact h
    ·exact h
    exact h
   ·intro q op hq ho L vs W cG dD hW hd ρ hρ;have jA:=ltc19 hq;clear hq;have o1:ρ (.tmp 1)=.slice (some ⟨b,off,none⟩) n c:=hρ.out 1 rfl;have o11:ρ (.tmp 11)=.int .i64 k:=hρ.out 11 rfl;have i0:=hρ.i 0 18;have i1:=hρ.i 1 19;have i2:=hρ.i 2 20;have i3:=hρ.i 3 21;have o2:ρ (.tmp 2)=.int .i64 kind:=hρ.out 2 rfl;have i4:=hρ.i 4 22;have i5:=hρ.i 5 23;have i6:=hρ.i 6 24;have o5:ρ (.tmp 5)=.pointer (some ⟨b0,0,none⟩):=hρ.out 5 rfl;have i10:=hρ.i 10 28;have i11:=hρ.i 11 29;have i12:=hρ.i 12 30;have o3:ρ (.tmp 3)=.slice fa fn fc:=hρ.out 3 rfl;have i8:=hρ.i 8 26;have i9:=hρ.i 9 27;have i13:=hρ.i 13 31;have i14:=hρ.i 14 32;have o4:ρ (.tmp 4)=.bool neg:=hρ.out 4 rfl;have i15:=hρ.i 15 33;have i16:=hρ.i 16 34;have i7:=hρ.i 7 25;have i17:=hρ.i 17 35;have hc:=hρ.const;have hfn:=hρ.func;clear hρ;have HG:=ai hW;have HW:=ai (show Ext wo W from hW);have dL:=ai cG;clear hW cG dD;have kf0:=HW.o.cell s0;have kf1:=HW.o.cell c0;have kf2:=HW.o.cell c1;have kf3:=HW.o.cell c2;have kf4:=HW.o.cell c3;have kf5:=HW.o.cell c4;have kf6:=HW.o.cell c5;have kf7:=HW.o.cell c6;have kf8:=HW.o.cell c7;have kf9:=HW.o.cell c8;have Xw:=HW.o.cell c9;by_cases ZU:q=15
    ·subst ZU;clear jA;cases ho
     have h8:vs 8=_:=hd ⟨8,.data⟩ (by simp) rfl;rw[h8] at i8;have h9:vs 9=_:=hd ⟨9,.data⟩ (by simp) rfl;rw[h9] at i9;have Kw:vs 13=_:=hd ⟨13,.data⟩ (by simp) rfl;rw[Kw] at i13;have Lf:vs 14=_:=hd ⟨14,.data⟩ (by simp) rfl;rw[Lf] at i14;clear hd;unfold bQ;go_simp;refine(se.o W HW.o).mono ?_;rintro r w5 ⟨rfl,dh⟩;exact⟨_,rfl,dh,HW.o.trans dh,rfl⟩
    rcases jA with rfl|rfl|rfl|rfl|rfl|rfl|rfl|rfl|rfl|rfl|rfl|rfl|rfl|rfl|rfl|rfl|rfl|rfl|rfl
    all_goals first|(exact a40 rfl ZU;done)|skip
    all_goals
     cases ho
     simp[mA,uz,aBR] at hd;clear ZU;unfold bQ;go_simp;exact⟨Tz _,HW.o,rfl⟩
   intro L vs W l7 hW hR;rw[bM (by decide +kernel)];have h18:vs 18=.bool (Q != neg):=hR 18 (by simp) (by omega);simp only[fL,dU,List.range,List.range.loop,aX,bN,h18];go_simp;have hW2:Ext wo W:=hW;clear hR hW l7 h18;cases hqn:(Q != neg)
   ·have HQN:=ai hqn;go_wp2_with fail
    go_roundw
    case rel=>exact⟨k+1,by go_num,by omega,by rw[HV.o,HST.o,HQ.o,HQN.o];rfl,HX.o.trans hW2⟩
    case measure=>simp[intOf];omega
   have HQN:=ai hqn;have HR:=ai (show jC V kind neg l=true by rw[HV.o,HST.o,HQ.o,HQN.o];rfl);go_wp2_with fail
   go_ret;exact bW (by rw[HR.o]) (dm.o.trans (HX.o.trans hW2))
  have t1:=ah ((k:Int)<(n:Int));have HQ:=ai (show jC V kind neg l=false by
   rw[HV.o,show k=l.length by have:=HN.o;omega,List.drop_length,jC])
  go_wp2_with fail
  go_ret;exact bW (by rw[HQ.o]) (dm.o.trans HX.o)
theorem ady {w0:World} {sa:OA} {sn sc:Nat} {l:List cK} {a:OA} {n c:Nat} {fa:OA} {fn fc:Nat} {V:Ex->Bool} {P:Ex->Prop} (hv:axu w0 sa sn sc l a n c fa fn fc V P) (kind:Int) (w:World) (hx0:Ext w0 w) :
  Calls Tryz.prog 63 #[.agg #[.slice sa sn sc],.slice a n c,kind,.slice fa fn fc] w (cz (.int .i64 (oU V kind l)) w):=by
 have HN:=ai hv.OV.len;have HC:=ai hv.OV;have hn:=hv.iT;have Gl:=ai (fun (k:Nat) (hk:k<l.length) (v:fM) W (hW:Ext w W) (hcl:ij W l[k] v)=>tJ hv.tr l[k] v W (hx0.trans hW) (hv.ok _ (aD hk)).1 (hv.ok _ (aD hk)).2.1 (hv.ok _ (aD hk)).2.2 hcl);have BO:=ai hx0;clear hv hx0;obtain⟨wa,cN⟩:∃wa,wa=w.alloc (.cells #[.slice sa sn sc] 24):=⟨_,rfl⟩
 have dm:=ai (show Ext w wa by rw[cN];exact(Tz _).alloc _);have Nn:=ai (show wa.heap[w.heap.size]?=some (.cells #[.slice sa sn sc] 24 (0,0)) by rw[cN];exact bR w _);go_enter Tryz.func63,Tryz.ntmps63
 go_upto_region 1 with fail
 rw[<-cN];clear cN;go_wp2_with fail
 go_loopw [9,10] (GtL V kind l n wa) (fun _ i _=>n - (intOf i).toNat)
 case atStart=>exact⟨0,rfl,rfl,Nat.zero_le _,Tz _⟩
 case round =>
  obtain⟨k,rfl,rfl,hk,hx⟩:=hrel;obtain⟨wo,rfl⟩:∃wo:World,wo=wr:=⟨_,rfl⟩
  have HX:=ai hx;obtain⟨b0,hb0⟩:∃b0,b0=w.heap.size:=⟨_,rfl⟩
  rw[<-hb0] at Nn ⊢;obtain⟨s0,sf⟩:=dO (hx.blk Nn.o);clear hx hb0;by_cases hkn:k<n
  ·have fq:k<l.length:=by have:=HN.o;omega
   have t1:=ag ((k:Int)<(n:Int));have tk0:(0:Int)<=(k:Int):=by omega
   have tk1:(k:Int)<(n:Int):=by omega
   obtain⟨b,off,v,rfl,hcl,hrow⟩:=(HC.o.ext (BO.o.trans (dm.o.trans HX.o))).at fq;obtain⟨c0,c1,c2,c3,c4,c5,c6,c7,c8,c9⟩:=hrow.BB;have hvk:v.kind=l[k].kind:=hcl.1;have hva:v.ck=l[k].ck:=hcl.2.2.2.2.2.2.2;have se:=ai (fun W (hW:Ext wo W)=>Gl.o k fq v W ((dm.o.trans HX.o).trans hW) (hcl.mono hW.sub));have HST:=ai (arl V kind fq);obtain⟨G,hG⟩:∃G,G=oU V kind (l.take k):=⟨_,rfl⟩
   rw[<-hG] at HST ⊢;have M8:=ai (show oU V kind (l.take (k+1))=if (v.kind==kind&&ke V l[k])=true then max G v.ck else G by rw[HST.o,pO,hvk,hva]);obtain⟨Q,hQ⟩:∃Q,Q=ke V l[k]:=⟨_,rfl⟩
   rw[<-hQ] at se M8;clear hrow hcl hvk hva hQ Gl hG HST;cases hq:(v.kind==kind)
   ·have HQ:=ai hq;go_wp2_with fail
    go_quiet (fail)
    go_wp2_with fail
    go_roundw
    case rel=>exact⟨k+1,by rw[M8.o,HQ.o];rfl,by go_num,by omega,HX.o.drewN _⟩
    case measure=>simp[intOf];omega
   have HQ:=ai hq;go_upto_region 5 with fail
   refine dF (n:=42) (m:=17) [16] (aU' wo) Lu (uz (aB6 b0 sa sn sc b off n c fa fn fc k kind v Q)) (by kernel_rfl) (by kernel_rfl) (Nat.le_of_ble_eq_true rfl) ?gd ((Tz wo).drew) ?_ ?_ ?_
   case gd =>
    intro i o j b hi ho hg;have hi':i=0\/i=1\/i=2\/i=3\/i=4\/i=5\/i=6\/i=7\/i=8\/i=9\/i=10\/i=11\/i=12\/i=13\/i=14\/i=15\/i=16:=by omega
    rcases hi' with rfl|rfl|rfl|rfl|rfl|rfl|rfl|rfl|rfl|rfl|rfl|rfl|rfl|rfl|rfl|rfl|rfl<;>(cases ho;first|(cases hg;done)|(cases hg;intro v W h;exact h))
   ·intro i k v W W' hi hk hne hout h hE;have hE:Ext W W':=hE;have hi':i=0\/i=1\/i=2\/i=3\/i=4\/i=5\/i=6\/i=7\/i=8\/i=9\/i=10\/i=11\/i=12\/i=13\/i=14\/i=15\/i=16:=by omega
    clear hi hk hne hout;rcases hi' with rfl|rfl|rfl|rfl|rfl|rfl|rfl|rfl|rfl|rfl|rfl|rfl|rfl|rfl|rfl|rfl|rfl
    ·exact h
    ·exact h
    ·exact h
    ·exact h
    ·exact h
    ·exact h
    ·exact h
    ·exact h
    ·exact h
    ·exact h
    ·exact h
    ·exact h
    ·exact h
    ·exact h
    ·exact h
    ·exact h
    exact h
   ·intro q op hq ho L vs W cG dD hW hd ρ hρ;have jA:q=0\/q=1\/q=2\/q=3\/q=4\/q=5\/q=6\/q=7\/q=8\/q=9\/q=10\/q=11\/q=12\/q=13\/q=14\/q=15\/q=16:=by omega
    clear hq;have o1:ρ (.tmp 1)=.slice (some ⟨b,off,none⟩) n c:=hρ.out 1 rfl;have o10:ρ (.tmp 10)=.int .i64 k:=hρ.out 10 rfl;have i0:=hρ.i 0 17;have i1:=hρ.i 1 18;have i2:=hρ.i 2 19;have i3:=hρ.i 3 20;have o2:ρ (.tmp 2)=.int .i64 kind:=hρ.out 2 rfl;have i4:=hρ.i 4 21;have i5:=hρ.i 5 22;have i6:=hρ.i 6 23;have o4:ρ (.tmp 4)=.pointer (some ⟨b0,0,none⟩):=hρ.out 4 rfl;have i10:=hρ.i 10 27;have i11:=hρ.i 11 28;have i12:=hρ.i 12 29;have o3:ρ (.tmp 3)=.slice fa fn fc:=hρ.out 3 rfl;have i8:=hρ.i 8 25;have i9:=hρ.i 9 26;have i13:=hρ.i 13 30;have i14:=hρ.i 14 31;have i7:=hρ.i 7 24;have i15:=hρ.i 15 32;have hc:=hρ.const;have hfn:=hρ.func;clear hρ;have HG:=ai hW;have HW:=ai (show Ext wo W from hW);have dL:=ai cG;clear hW cG dD;have kf0:=HW.o.cell s0;have kf1:=HW.o.cell c0;have kf2:=HW.o.cell c1;have kf3:=HW.o.cell c2;have kf4:=HW.o.cell c3;have kf5:=HW.o.cell c4;have kf6:=HW.o.cell c5;have kf7:=HW.o.cell c6;have kf8:=HW.o.cell c7;have kf9:=HW.o.cell c8;have Xw:=HW.o.cell c9;by_cases ZU:q=15
    ·subst ZU;clear jA;cases ho
     have h8:vs 8=_:=hd ⟨8,.data⟩ (by simp) rfl;rw[h8] at i8;have h9:vs 9=_:=hd ⟨9,.data⟩ (by simp) rfl;rw[h9] at i9;have Kw:vs 13=_:=hd ⟨13,.data⟩ (by simp) rfl;rw[Kw] at i13;have Lf:vs 14=_:=hd ⟨14,.data⟩ (by simp) rfl;rw[Lf] at i14;clear hd;unfold bQ;go_simp;refine(se.o W HW.o).mono ?_;rintro r w5 ⟨rfl,dh⟩;exact⟨_,rfl,dh,HW.o.trans dh,rfl⟩
    rcases jA with rfl|rfl|rfl|rfl|rfl|rfl|rfl|rfl|rfl|rfl|rfl|rfl|rfl|rfl|rfl|rfl|rfl
    all_goals first|(exact a40 rfl ZU;done)|skip
    all_goals
     cases ho
     simp[mA,uz,aB6] at hd;clear ZU;unfold bQ;go_simp;exact⟨Tz _,HW.o,rfl⟩
   intro L vs W l7 hW hR;rw[bM (by decide +kernel)];have VC:vs 16=.bool Q:=hR 16 (by simp) (by omega);simp only[fL,dU,List.range,List.range.loop,aX,bN,VC];go_simp;have hW2:Ext wo W:=hW;clear hR hW l7 VC;have qO:=ai hW2;have e0:=hW2.cell c9;clear hW2;cases Q
   ·go_wp2_with fail
    go_roundw
    case rel=>exact⟨k+1,by rw[M8.o,HQ.o];rfl,by go_num,by omega,HX.o.trans qO.o⟩
    case measure=>simp[intOf];omega
   go_wp2_with fail
   go_roundw
   case rel=>exact⟨k+1,by first|(rw[M8.o,HQ.o,bM (show (true&&true)=true from rfl)];done)|(rw[M8.o,HQ.o,bM (show (true&&true)=true from rfl),Int.max_def];congr 1;split<;>split<;>omega),by go_num,by omega,HX.o.trans qO.o⟩
   case measure=>simp[intOf];omega
  have t1:=ah ((k:Int)<(n:Int));have HQ:=ai (show l.take k=l from aS (by have:=HN.o;omega));rw[HQ.o];go_wp2_with fail
  go_ret;exact cD rfl (dm.o.trans HX.o)
def Tj (o:Oper):Bool:=match o.op with
 | .call c=>(match c.callee with|.builtin .len=>true|.builtin .cap=>true|.builtin .min=>true|.builtin .max=>true|_=>false)
 | .move _|.assign _|.pick ..|.build ..|.load ..|.binOp ..|.unOp ..|.convert ..|.makeInterface ..|.slice ..|.fieldAddr ..|.field ..|.indexAddr ..|.index ..|.lookup ..|.typeAssert ..|.extract ..|.alloc ..|.box ..|.buildSlice ..|.makeSlice ..|.makeMap ..|.makeFunc ..=>true
 | _=>false
theorem auB (s:Sem Value) (P:Program) (W:World) (f:FuncId) (args:Array Value) (W':World):(do pure (.value (<-s)):Sem Next).run P W≠.ok (.enter f args) W':=by
 rw[Sem.run_bind];cases s.run P W<;>simp[Result.andThen,Sem.run_pure]
theorem auC (v:Value) (P:Program) (W:World) (f:FuncId) (args:Array Value) (W':World):(pure (.value v):Sem Next).run P W≠.ok (.enter f args) W':=by
 simp[Sem.run_pure]
theorem ZC {o:Oper} (h:Tj o=true) (ρ:Operand->Value) (P:Program) (W:World) (f:FuncId) (args:Array Value) (W':World):(execOp ρ o).run P W≠.ok (.enter f args) W':=by
 unfold Tj at h;unfold execOp;split at h
 ·rename_i c ho
  simp only[ho];split at h
  all_goals first
   | (cases h;done)
   | (rename_i hc;simp only[resolve,hc,Sem.run_bind,Sem.run_pure,Result.andThen,invoke,builtin];generalize (Sem.run P _ W)=r;cases r<;>simp)
 all_goals first
  | (cases h;done)
  | (rename_i ho;simp only[ho];exact auB _ _ _ _ _ _)
  | (rename_i ho;simp only[ho];exact auC _ _ _ _ _ _)
  | (rename_i ho;simp only[ho];rw[Sem.run_bind];generalize (Sem.run P _ W)=r;cases r<;>simp[Result.andThen,Sem.run_pure])
def WIn (C:World->Prop):={W:World // C W}
def Det (P:Program) (ops:Array Oper) (o:Oper) (A:Act) (W:World) (v:Value) (W':World):Prop :=
 (Region.wanted o (yielded ops A.tmps)=true/\((execOp A.eval o).run P W=.ok (.value v) W'\/((execOp A.eval o).run P W=.ok .skip W'/\v=undef))) \/
 (Region.wanted o (yielded ops A.tmps)=false/\v=undef/\W'=W)
theorem Det.same {P:Program} {ops:Array Oper} {o:Oper} {A:Act} {W:World} {v v2:Value} {W' W2:World} (h:Det P ops o A W v W') (k:Det P ops o A W v2 W2):v=v2/\W'=W2:=by
 unfold Det at h k;rcases h with ⟨h1,h2⟩|⟨h1,h2,h3⟩<;>rcases k with ⟨k1,k2⟩|⟨k1,k2,k3⟩
 ·rcases h2 with h2|⟨h2,h4⟩<;>rcases k2 with k2|⟨k2,k4⟩<;>rw[h2] at k2<;>cases k2
  ·exact⟨rfl,rfl⟩
  exact⟨by rw[h4,k4],rfl⟩
 ·rw[h1] at k1;cases k1
 ·rw[h1] at k1;cases k1
 exact⟨by rw[h2,k2],by rw[h3,k3]⟩
def aaM (P:Program) (ops:Array Oper) (o:Oper) (A:Act) (W:World) (T:Value->World->Prop):Prop :=
 if Region.wanted o (yielded ops A.tmps)=true then bQ P o A.eval W T else T undef W
theorem Det.outs {P:Program} {ops:Array Oper} {o:Oper} {A:Act} {W:World} {v:Value} {W':World} {T:Value->World->Prop} (h:Det P ops o A W v W') (ht:T v W'):aaM P ops o A W T:=by
 unfold aaM;rcases h with ⟨h1,h2⟩|⟨h1,h2,h3⟩
 ·rw[bM h1];unfold bQ;rcases h2 with h2|⟨h2,h4⟩<;>rw[h2]
  ·exact ht
  rw[h4] at ht;exact ht
 rw[h1,bL (by simp),<-h2,<-h3];exact ht
theorem bQ.mono {P:Program} {o:Oper} {ρ:Operand->Value} {W:World} {T T':Value->World->Prop} (h:bQ P o ρ W T) (ht:∀v W',T v W'->T' v W'):bQ P o ρ W T':=by
 unfold bQ at *;split at h
 ·exact ht _ _ h
 ·exact ht _ _ h
 ·refine Calls.mono h (fun e w'' he=>?_);obtain⟨v,hv,hk⟩:=he;exact⟨v,hv,ht _ _ hk⟩
 exact h
theorem aaM.mono {P:Program} {ops:Array Oper} {o:Oper} {A:Act} {W:World} {T T':Value->World->Prop} (h:aaM P ops o A W T) (ht:∀v W',T v W'->T' v W'):aaM P ops o A W T':=by
 unfold aaM at *;split
 ·rename_i hw;rw[bM hw] at h;exact h.mono ht
 rename_i hw;rw[bL hw] at h;exact ht _ _ h
def adA (ops:Array Oper) (m:Nat):Bool :=
 Region.noSelect ops&&decide (m<=ops.size) &&
 ((List.range ops.size).all fun i=>(List.range ops.size).all fun j=>i==j||dU ops i==none||dU ops i != dU ops j) &&
 ((List.range ops.size).all fun i=>match ops[i]? with
  | none=>false
  | some o=>(o.after.all fun e=>!Region.binds .any e||decide (e.on<i)) &&
   (decide (m<=i)||(List.range m).all fun j=>match dU ops j with
    | none=>true
    | some t=>!(o.looksAt ops).contains t||o.after.any (fun e=>Region.binds .any e&&e.on==j)) &&
   (decide (i<m)||(List.range i).all fun j=>o.after.any (fun e=>Region.binds .any e&&e.on==j)))
theorem Jv {ops:Array Oper} {m:Nat} (h:adA ops m=true):Region.noSelect ops=true/\m<=ops.size/\GZ ops /\
  (∀i o,ops[i]?=some o->(∀e∈o.after,Region.binds .any e=true->e.on<i)/\(i<m->∀j t,j<m->dU ops j=some t->t∈o.looksAt ops->∃e∈o.after,Region.binds .any e=true/\e.on=j) /\
   (m<=i->∀j,j<i->∃e∈o.after,Region.binds .any e=true/\e.on=j)):=by
 simp only[adA,aF,aH] at h;obtain⟨⟨⟨h1,h2⟩,h4⟩,h5⟩:=h;refine⟨h1,h2,?_,?_⟩
 ·intro i j d hi hj;have hlt:∀i,dU ops i=some d->i<ops.size:=fun i hi=>by
   unfold dU at hi;rcases bJ i ops.size with h|h
   ·exact h
   rw[Array.getElem?_eq_none h] at hi;simp at hi
  have:=aP.1 (aP.1 h4 i (by simpa using hlt i hi)) j (by simpa using hlt j hj);simpa[hi,hj] using this
 intro i o ho;have h6:=aP.1 h5 i (by simpa using (aQ.1 ho).1);simp only[ho,aF] at h6;obtain⟨⟨g2,g3⟩,g4⟩:=h6;have Qg:∀j,o.after.any (fun e=>Region.binds .any e&&e.on==j)=true->∃e∈o.after,Region.binds .any e=true/\e.on=j:=fun j h=>by
  obtain⟨e,he,hb⟩:=Array.any_eq_true'.1 h;simp only[aF,a47] at hb;exact⟨e,he,hb.1,hb.2⟩
 refine⟨fun e he hb=>?_,fun hm j t hjm hj ht=>?_,fun hm j hj=>?_⟩
 ·have:=Array.all_eq_true_iff_forall_mem.1 g2 e he;rw[hb] at this;simpa using this
 ·rcases Bool.or_eq_true_iff.1 g3 with g|g
  ·simp only[aH] at g;omega
  have:=aP.1 g j (by simpa using hjm);rw[hj] at this;simp only[bG,Bool.not_eq_true'] at this;rcases this with h|h
  ·rw[List.contains_iff_mem.2 ht] at h;cases h
  exact Qg j h
 rcases Bool.or_eq_true_iff.1 g4 with g|g
 ·simp only[aH] at g;omega
 exact Qg j (aP.1 g j (by simpa using hj))
def aJE (ops:Array Oper) (L:ZN):Prop:=∀i∈L,∀o,ops[i]?=some o->∀e∈o.after,Region.binds .any e=true->e.on∈L
section
variable {P:Program} {ops:Array Oper} {Q:Exit->Act->World->Prop} {a:Act} {m:Nat}
theorem as8 (hok:adA ops m=true):∀(r i fuel:Nat) (listed:Array Bool) (a:Act) (w:World),m<=i->i+r=ops.size->r<=fuel->listed.size=ops.size->(∀j,j<ops.size->(listed.getD j true=true ↔ j<i))->wpList P ops Q (ops.toList.drop i) a w->wpAny P .any ops Q fuel listed a w:=by
 obtain⟨-,-,-,hspec⟩:=Jv hok;intro r;induction r with
 | zero =>
  intro i fuel listed a w hmi hir hf hsz hL h;rw[List.drop_eq_nil_of_le (by simp;omega)] at h;refine wpAny_done ?_ h fuel;rw[List.eq_nil_iff_forall_not_mem];intro j hj;obtain⟨h0,o,ho,_⟩:=mem_ready.1 hj;have:=(hL j (aQ.1 ho).1).2 (by have:=(aQ.1 ho).1;omega);rw[this] at h0;cases h0
 | succ r ih =>
  intro i fuel listed a w hmi hir hf hsz hL h;obtain⟨fuel,rfl⟩:∃f,fuel=f+1:=⟨fuel - 1,by omega⟩
  have GI:i<ops.size:=by omega
  have hget:∀j,j<i->listed.getD j false=true:=fun j hj=>by
   have:=(hL j (by omega)).2 hj;have hin:j<listed.size:=by omega
   simpa[Array.getD,hin] using this
  have aDe:i∈Region.ready .any ops listed:=by
   rw[mem_ready];refine⟨?_,ops[i],aY GI,fun e he hb=>hget _ ((hspec i _ (aY GI)).1 e he hb)⟩;cases hx:listed.getD i true
   ·rfl
   have:=(hL i GI).1 hx;omega
  refine⟨fun hr=>by rw[hr] at aDe;simp at aDe,fun j hj=>?_⟩;obtain⟨h0,o,ho,au8⟩:=mem_ready.1 hj;have hjs:=(aQ.1 ho).1;have hge:¬j<i:=fun hlt=>by rw[(hL j hjs).2 hlt] at h0;cases h0
  have hji:j=i:=by
   rcases bJ i j with hlt|hle
   ·obtain⟨e,he,hb,rfl⟩:=(hspec j o ho).2.2 (by omega) i hlt;have h1:=au8 e he hb;have hin:e.on<listed.size:=by omega
    have h2:listed.getD e.on true=true:=by simpa[Array.getD,hin] using h1
    have:=(hL _ GI).1 h2;omega
   omega
  subst hji;have hd:ops.toList.drop j=o::ops.toList.drop (j+1):=by
   rw[List.drop_eq_getElem_cons (by simpa using hjs)]
   congr 1
   have:=(aQ.1 ho).2;simpa using this
  rw[hd] at h;have hnext:∀a' w',wpList P ops Q (ops.toList.drop (j+1)) a' w'->wpAny P .any ops Q fuel (listed.setIfInBounds j true) a' w':=fun a' w' h'=>by
   refine ih (j+1) fuel _ a' w' (by omega) (by omega) (by omega) (by simpa using hsz) (fun q hq=>?_) h';by_cases hjq:j=q
   ·subst hjq;simp[hsz,hjs]
   rw[getD_set_ne true hjq,hL q hq];omega
  unfold wpOp;simp only[ho];unfold wpList at h;split
  ·rename_i hw;rw[bM hw] at h;exact h.imp (Oper.wp_mono hnext) id
  rename_i hw;rw[bL hw] at h;exact hnext _ _ h
theorem ata (G:ZN->(Nat->Value)->World->Prop) (hok:adA ops m=true)
  (hstep:∀i o,i<m->ops[i]?=some o->∀L vs W,i∉L->(∀j∈L,j<m)->aJE ops L->(∀e∈o.after,Region.binds .any e=true->e.on∈L)->G L vs W->aaM P ops o (fL ops a vs L) W (fun v W'=>G (L++[i]) (upd vs i v) W'))
  (hend:∀L vs W,(∀j,j<m->j∈L)->G L vs W->wpList P ops Q (ops.toList.drop m) (fL ops a vs (List.range m)) W) :
  ∀(fuel:Nat) (L:ZN) (vs:Nat->Value) (W:World) (listed:Array Bool),listed.size=ops.size->(∀j,j<ops.size->(listed.getD j true=true ↔ j∈L))->L.Nodup->(∀j∈L,j<m)->((List.range ops.size).filter (fun j=>!L.contains j)).length<=fuel->aJE ops L->G L vs W ->
   wpAny P .any ops Q fuel listed (fL ops a vs L) W:=by
 obtain⟨zP,hm1,hda,hspec⟩:=Jv hok
 have abI:∀(fuel:Nat) (L:ZN) (vs:Nat->Value) (W:World) (listed:Array Bool),listed.size=ops.size->(∀j,j<ops.size->(listed.getD j true=true ↔ j∈L))->L.Nodup->(∀j∈L,j<m)->(∀j,j<m->j∈L)->((List.range ops.size).filter (fun j=>!L.contains j)).length<=fuel->G L vs W->wpAny P .any ops Q fuel listed (fL ops a vs L) W:=by
  intro fuel L vs W listed hsz hL hnd l7 wK hlen hE;have hmem:∀j,j∈L ↔ j<m:=fun j=>⟨l7 j,wK j⟩
  rw[Vo hda (L':=List.range m) ((List.perm_ext_iff_of_nodup hnd List.nodup_range).2 (fun j=>by rw[hmem j,a43]))];refine as8 hok (ops.size - m) m fuel listed _ _ (aU _) (by omega) ?_ hsz (fun j hj=>by rw[hL j hj,hmem]) (hend L vs W wK hE);refine aV ?_ hlen;have h1:(List.range' m (ops.size - m)).Sublist ((List.range ops.size).filter (fun j=>!L.contains j)):=by
   have h2:(List.range' m (ops.size - m))=(List.range' m (ops.size - m)).filter (fun j=>!L.contains j):=by
    rw[List.filter_eq_self.2];intro j hj;have:=List.mem_range'_1.1 hj;simp only[List.contains_eq_mem,Bool.not_eq_true',bI,hmem];omega
   rw[h2];refine List.Sublist.filter _ ?_;rw[List.range_eq_range'];have:List.range' 0 ops.size=List.range' 0 m++List.range' m (ops.size - m):=by
    have:=@List.range'_append 0 m (ops.size - m) 1;simp only[Nat.one_mul,Nat.zero_add] at this;rw[this]
    congr 1
    omega
   rw[this];exact List.sublist_append_right _ _
  have:=h1.length_le;simpa using this
 intro fuel;induction fuel with
 | zero =>
  intro L vs W listed hsz hL hnd l7 hlen hcl hE;refine abI 0 L vs W listed hsz hL hnd l7 (fun j hj=>?_) hlen hE;have h0:=aR (Nat.le_zero.1 hlen);have:j∉(List.range ops.size).filter (fun j=>!L.contains j):=by rw[h0];simp
  have hjs:j<ops.size:=by omega
  simpa[hjs] using this
 | succ fuel ih =>
  intro L vs W listed hsz hL hnd l7 hlen hcl hE;by_cases wK:∀j,j<m->j∈L
  ·exact abI _ L vs W listed hsz hL hnd l7 wK hlen hE
  obtain⟨j0,hj0,hj1,hj2⟩:∃j,j<m/\j∉L/\∀i,i<j->i∈L:=by
   have:∃j,j<m/\j∉L:=by simpa using wK
   obtain⟨j,hj,hn⟩:=this;induction j using Nat.strongRecOn with
   | _ j ihj =>
    by_cases hx:∀i,i<j->i∈L
    ·exact⟨j,hj,hn,hx⟩
    have:∃i,i<j/\i∉L:=by simpa using hx
    obtain⟨i,hi,hin⟩:=this;exact ihj i hi (by omega) hin
  have aDe:j0∈Region.ready .any ops listed:=by
   have hjs:j0<ops.size:=by omega
   rw[mem_ready];refine⟨?_,ops[j0],aY hjs,fun e he hb=>?_⟩
   ·cases hx:listed.getD j0 true
    ·rfl
    exact a40 ((hL j0 hjs).1 hx) hj1
   have hlt:=(hspec j0 _ (aY hjs)).1 e he hb;have:=(hL e.on (by omega)).2 (hj2 _ hlt);have hin:e.on<listed.size:=by omega
   simpa[Array.getD,hin] using this
  refine⟨fun hr=>by rw[hr] at aDe;simp at aDe,fun i hi=>?_⟩;obtain⟨h0,o,ho,au8⟩:=mem_ready.1 hi;have GI:i<ops.size:=(aQ.1 ho).1;have yQ:i∉L:=fun h=>by rw[(hL i GI).2 h] at h0;cases h0
  have GK:∀e∈o.after,Region.binds .any e=true->e.on∈L:=fun e he hb=>by
   have h1:=au8 e he hb;have hlt:=(hspec i o ho).1 e he hb;have hin:e.on<listed.size:=by rw[hsz];omega
   exact(hL e.on (by omega)).1 (by simpa[Array.getD,hin] using h1)
  have him:i<m:=by
   rcases bJ i m with h|h
   ·exact h
   obtain⟨e,he,hb,rfl⟩:=(hspec i o ho).2.2 h j0 (by omega);exact a40 (GK e he hb) hj1
  have TH:∀v W',G (L++[i]) (upd vs i v) W'->wpAny P .any ops Q fuel (listed.setIfInBounds i true) ((fL ops a vs L).put o.dst v) W':=by
   intro v W' hE';have e1:(fL ops a vs L).put o.dst v=fL ops a (upd vs i v) (L++[i]):=by
    rw[Vn,Yg (vs:=upd vs i v) (vs':=vs) (fun j hj=>by unfold upd;rw[bL (fun e=>yQ (by rw[<-e];exact hj))])];simp[upd,dU,ho]
   rw[e1];refine ih (L++[i]) (upd vs i v) W' _ (by simpa using hsz) (fun j hj=>?_) ?_ ?_ ?_ ?_ hE'
   ·by_cases hij:i=j
    ·subst hij;simp[hsz,GI]
    rw[getD_set_ne true hij,hL j hj];simp;intro e;exact a40 e.symm hij
   ·rw[List.nodup_append];exact⟨hnd,by simp,fun x hx y hy e=>by simp at hy;subst hy;subst e;exact yQ hx⟩
   ·intro j hj;rcases aN.1 hj with h|h
    ·exact l7 j h
    simp at h;omega
   ·have h1:(List.range ops.size).filter (fun j=>!(L++[i]).contains j)=((List.range ops.size).filter (fun j=>!L.contains j)).filter (fun j=>j != i):=by
     rw[List.filter_filter]
     congr 1
     funext j
     simp only[List.contains_append,Bool.not_or];rw[Bool.and_comm]
     congr 1
     rw[bH];simp[bne]
    have h2:(((List.range ops.size).filter (fun j=>!L.contains j)).filter (fun j=>j != i)).length<((List.range ops.size).filter (fun j=>!L.contains j)).length:=by
     rw[List.length_filter_lt_length_iff_exists];exact⟨i,by simp[GI,yQ],by simp⟩
    rw[h1];omega
   intro j hj o' ho' e he hb;rcases aN.1 hj with h|h
   ·exact aK _ (hcl j h o' ho' e he hb)
   simp at h;subst h;rw[ho] at ho';cases ho'
   exact aK _ (GK e he hb)
  have hg:=hstep i o him ho L vs W yQ l7 hcl GK hE;unfold wpOp;simp only[ho];unfold aaM at hg;split
  ·rename_i hw
   rw[bM hw] at hg
   left
   refine Oper.wp_mono ?_ (hg.wp rfl);rintro a' W' ⟨v,rfl,hk⟩;exact TH v W' hk
  rename_i hw
  rw[bL hw] at hg;exact TH _ _ hg
end
inductive Tr:Type 1
 | done
 | plain (v:Value) (next:Tr)
 | later (v:Value) (next:Tr)
 | alloc (val:Nat->Value) (F:Nat->World->Prop) (U:Bool) (next:Nat->Tr)
 | call (γ:Type) (val:γ->Value) (Φ:γ->World->Prop) (Ap:γ->Nat->Prop) (next:γ->Tr)
def FU (U:Bool) (F:Nat->World->Prop) (A:Nat->Prop) (g:Nat) (W:World):Prop:=F g W/\(U=true->g<W.heap.size/\A g)
section
variable (P:Program) (ops:Array Oper) (π:Nat->Nat) (Q:Exit->Act->World->Prop) (m:Nat) (Er:World->World->Prop) (C:World->Prop)
def Ok:Tr->Nat->Act->(World->Prop)->(World->Prop)->(Nat->Prop)->ZN->ZN->Prop
 | .done,k,ac,Φ,FA,_,_,_=>k=m/\∀W,C W->Φ W->FA W->wpList P ops Q (ops.toList.drop m) ac W
 | .plain v next,k,ac,Φ,FA,A,gh,pf=>k<m/\(∃o,ops[π k]?=some o/\∀W,C W->Det P ops o ac W v W)/\Ok next (k+1) (ac.put (dU ops (π k)) v) Φ FA A gh pf
 | .later v next,k,ac,Φ,FA,A,gh,pf=>k<m/\gh.all (fun j=>fK ops m (π k) j)=true/\(∃o,ops[π k]?=some o/\∀W,C W->Φ W->FA W->Det P ops o ac W v W)/\Ok next (k+1) (ac.put (dU ops (π k)) v) Φ FA A gh (π k::pf)
 | .alloc val F U next,k,ac,Φ,FA,A,gh,pf=>k<m/\(∃o,ops[π k]?=some o/\∀W,C W->∃g W',Det P ops o ac W (val g) W'/\Ext W W'/\F g W'/\(U=true->W.heap.size<=g/\g<W'.heap.size))/\((∀g W W',Er W W'->F g W->F g W')/\(U=true->∀W W',Er W W'->W.heap.size<=W'.heap.size)) /\
   ∀g,Ok (next g) (k+1) (ac.put (dU ops (π k)) (val g)) Φ (fun W=>FA W/\FU U F A g W) A (π k::gh) pf
 | .call γ val Φ' Ap next,k,ac,Φ,FA,A,gh,pf=>k<m/\gh.all (fun j=>fK ops m (π k) j)=true/\pf.all (fun j=>fK ops m (π k) j)=true /\
   (∃o,ops[π k]?=some o/\∀W,C W->Φ W->FA W->aaM P ops o ac W (fun v W'=>Er W W'/\∃c,v=val c/\Φ' c W'/\∀g,(g<W.heap.size\/W'.heap.size<=g)->Ap c g))/\Nonempty γ/\(∀c W W',Ext W W'->Φ' c W->Φ' c W') /\
   ∀c,Ok (next c) (k+1) (ac.put (dU ops (π k)) (val c)) (Φ' c) FA (fun g=>A g/\Ap c g) (π k::gh) pf
def Inv (L:ZN) (vs:Nat->Value) (W:World):Tr->Bool->Nat->(World->Prop)->(Nat->Prop)->Prop
 | .done,b,_,Φ,_=>b=true->Φ W
 | .plain v next,b,k,Φ,A=>(π k∈L->vs (π k)=v)/\Inv L vs W next b (k+1) Φ A
 | .later v next,b,k,Φ,A=>(π k∈L->vs (π k)=v)/\Inv L vs W next b (k+1) Φ A
 | .alloc val F U next,b,k,Φ,A=>(π k∈L/\∃g,vs (π k)=val g/\FU U F A g W/\Inv L vs W (next g) b (k+1) Φ A)\/(π k∉L/\(U=true->∀g,W.heap.size<=g->A g)/\∀g,Inv L vs W (next g) b (k+1) Φ A)
 | .call _ val Φ' Ap next,b,k,Φ,A=>(b=true/\π k∈L/\∃c,vs (π k)=val c/\Inv L vs W (next c) true (k+1) (Φ' c) (fun g=>A g/\Ap c g))\/(π k∉L/\(b=true->Φ W)/\∀c,Inv L vs W (next c) false (k+1) (Φ' c) A)
end
structure Lin (ops:Array Oper) (m:Nat) (π σ:Nat->Nat):Prop where
 lt:∀k,k<m->π k<m/\σ (π k)=k
 inv:∀i,i<m->σ i<m/\π (σ i)=i
 dep:∀i,i<m->∀o,ops[i]?=some o->∀e∈o.after,Region.binds .any e=true->σ e.on<σ i
section
variable {P:Program} {ops:Array Oper} {π σ:Nat->Nat} {Q:Exit->Act->World->Prop} {m:Nat} {Er:World->World->Prop} {C:World->Prop} {L:ZN} {vs:Nat->Value} {W:World} {a:Act}
theorem Inv.start:∀(t:Tr) (b:Bool) (k:Nat) (Φ:World->Prop) (A:Nat->Prop),(∀g,A g)->(b=true->Φ W)->Inv π [] vs W t b k Φ A:=by
 intro t;induction t with
 | done=>intro b k Φ A _ h;exact h
 | plain v next ih=>intro b k Φ A hA h;exact⟨fun h=>by simp at h,ih b _ _ _ hA h⟩
 | later v next ih=>intro b k Φ A hA h;exact⟨fun h=>by simp at h,ih b _ _ _ hA h⟩
 | alloc val F U next ih=>intro b k Φ A hA h;exact a4Z ⟨by simp,fun _ g _=>hA g,fun g=>ih g b _ _ _ hA h⟩
 | call γ val Φ' Ap next ih=>intro b k Φ A hA h;exact a4Z ⟨by simp,h,fun c=>ih c false _ _ _ hA (fun h=>by cases h)⟩
theorem Dl (hl:Lin ops m π σ) {i k:Nat} (hk:k<m) (h:k≠σ i):π k∈L++[i] ↔ π k∈L:=by
 simp;intro e;exact a40 (by rw[<-e,(hl.lt k hk).2]) h
theorem upd_ne (hl:Lin ops m π σ) {i k:Nat} {v:Value} (hk:k<m) (h:k≠σ i):upd vs i v (π k)=vs (π k):=by
 unfold upd;rw[bL fun e=>h (by rw[<-e,(hl.lt k hk).2])]
theorem Inv.keep (hl:Lin ops m π σ) {i:Nat} {v:Value} {W':World} (hE:Er W W') (hx:Ext W W'):∀(t:Tr) (b:Bool) (k:Nat) (ac:Act) (Φ FA:World->Prop) (A AO:Nat->Prop) (gh pf:ZN),Ok P ops π Q m Er C t k ac Φ FA AO gh pf->(∀W W',Ext W W'->Φ W->Φ W')->σ i<k->Inv π L vs W t b k Φ A->Inv π (L++[i]) (upd vs i v) W' t b k Φ A:=by
 intro t;induction t with
 | done=>intro b k ac Φ FA A AO gh pf _ hs _ h hb;exact hs _ _ hx (h hb)
 | plain u next ih =>
  intro b k ac Φ FA A AO gh pf hok hs hi h;refine⟨fun hk=>?_,ih _ _ _ _ _ _ _ _ _ hok.2.2 hs (by omega) h.2⟩;rw[upd_ne hl hok.1 (by omega)];exact h.1 ((Dl hl hok.1 (by omega)).1 hk)
 | later u next ih =>
  intro b k ac Φ FA A AO gh pf hok hs hi h;refine⟨fun hk=>?_,ih _ _ _ _ _ _ _ _ _ hok.2.2.2 hs (by omega) h.2⟩;rw[upd_ne hl hok.1 (by omega)];exact h.1 ((Dl hl hok.1 (by omega)).1 hk)
 | alloc val F U next ih =>
  intro b k ac Φ FA A AO gh pf hok hs hi h;have hm:=Dl (L:=L) hl hok.1 (show k≠σ i by omega);rcases h with ⟨hk,g,hv,hF,h⟩|⟨hk,hA,h⟩
  ·exact aoX ⟨hm.2 hk,g,by rw[upd_ne hl hok.1 (by omega)];exact hv,⟨hok.2.2.1.1 g _ _ hE hF.1,fun hU=>⟨bF (hF.2 hU).1 hx.size,(hF.2 hU).2⟩⟩,ih g _ _ _ _ _ _ _ _ _ (hok.2.2.2 g) hs (by omega) h⟩
  exact a4Z ⟨fun h'=>hk (hm.1 h'),fun hU g hg=>hA hU g (aV hx.size hg),fun g=>ih g _ _ _ _ _ _ _ _ _ (hok.2.2.2 g) hs (by omega) (h g)⟩
 | call γ val Φ' Ap next ih =>
  intro b k ac Φ FA A AO gh pf hok hs hi h;obtain⟨hkm,-,-,-,-,hst,hn⟩:=hok;have hm:=Dl (L:=L) hl hkm (show k≠σ i by omega);rcases h with ⟨hb,hk,c,hv,h⟩|⟨hk,hp,h⟩
  ·exact aoX ⟨hb,hm.2 hk,c,by rw[upd_ne hl hkm (by omega)];exact hv,ih c _ _ _ _ _ _ _ _ _ (hn c) (hst c) (by omega) h⟩
  exact a4Z ⟨fun h'=>hk (hm.1 h'),fun hb=>hs _ _ hx (hp hb),fun c=>ih c _ _ _ _ _ _ _ _ _ (hn c) (hst c) (by omega) (h c)⟩
theorem Inv.after (hl:Lin ops m π σ) {i:Nat} {v:Value} {W':World} (hE:Er W W'):∀(t:Tr) (b:Bool) (k:Nat) (ac:Act) (Φ FA:World->Prop) (A A' AO:Nat->Prop) (gh pf:ZN),Ok P ops π Q m Er C t k ac Φ FA AO gh pf->(b=true->Φ W')->(∀g,(g<W.heap.size\/W'.heap.size<=g)->A g->A' g)->σ i<k->Inv π L vs W t false k Φ A->Inv π (L++[i]) (upd vs i v) W' t b k Φ A':=by
 intro t;induction t with
 | done=>intro b k ac Φ FA A A' AO gh pf _ hp _ _ h hb;exact hp hb
 | plain u next ih =>
  intro b k ac Φ FA A A' AO gh pf hok hp hA hi h;refine⟨fun hk=>?_,ih _ _ _ _ _ _ _ _ _ _ hok.2.2 hp hA (by omega) h.2⟩;rw[upd_ne hl hok.1 (by omega)];exact h.1 ((Dl hl hok.1 (by omega)).1 hk)
 | later u next ih =>
  intro b k ac Φ FA A A' AO gh pf hok hp hA hi h;refine⟨fun hk=>?_,ih _ _ _ _ _ _ _ _ _ _ hok.2.2.2 hp hA (by omega) h.2⟩;rw[upd_ne hl hok.1 (by omega)];exact h.1 ((Dl hl hok.1 (by omega)).1 hk)
 | alloc val F U next ih =>
  intro b k ac Φ FA A A' AO gh pf hok hp hA hi h;have hm:=Dl (L:=L) hl hok.1 (show k≠σ i by omega);rcases h with ⟨hk,g,hv,hF,h⟩|⟨hk,hU0,h⟩
  ·exact aoX ⟨hm.2 hk,g,by rw[upd_ne hl hok.1 (by omega)];exact hv,⟨hok.2.2.1.1 g _ _ hE hF.1,fun hU=>⟨bF (hF.2 hU).1 (hok.2.2.1.2 hU _ _ hE),hA g (aoX (hF.2 hU).1) (hF.2 hU).2⟩⟩,ih g _ _ _ _ _ _ _ _ _ _ (hok.2.2.2 g) hp hA (by omega) h⟩
  exact a4Z ⟨fun h'=>hk (hm.1 h'),fun hU g hg=>hA g (a4Z hg) (hU0 hU g (aV (hok.2.2.1.2 hU _ _ hE) hg)),fun g=>ih g _ _ _ _ _ _ _ _ _ _ (hok.2.2.2 g) hp hA (by omega) (h g)⟩
 | call γ val Φ' Ap next ih =>
  intro b k ac Φ FA A A' AO gh pf hok hp hA hi h;obtain⟨hkm,-,-,-,-,hst,hn⟩:=hok;have hm:=Dl (L:=L) hl hkm (show k≠σ i by omega);rcases h with ⟨hb,-⟩|⟨hk,-,h⟩
  ·cases hb
  exact a4Z ⟨fun h'=>hk (hm.1 h'),hp,fun c=>ih c _ _ _ _ _ _ _ _ _ _ (hn c) (fun h=>by cases h) hA (by omega) (h c)⟩
theorem Inv.front {i:Nat} (hcl:aJE ops L) (hi:i∉L):∀(t:Tr) (k:Nat) (ac:Act) (Φ FA:World->Prop) (A AO:Nat->Prop) (gh pf:ZN),Ok P ops π Q m Er C t k ac Φ FA AO gh pf->i∈pf->Inv π L vs W t true k Φ A->Φ W:=by
 intro t;induction t with
 | done=>intro k ac Φ FA A AO gh pf _ _ h;exact h rfl
 | plain u next ih=>intro k ac Φ FA A AO gh pf hok hp h;exact ih _ _ _ _ _ _ _ _ hok.2.2 hp h.2
 | later u next ih=>intro k ac Φ FA A AO gh pf hok hp h;exact ih _ _ _ _ _ _ _ _ hok.2.2.2 (aZ _ hp) h.2
 | alloc val F U next ih =>
  intro k ac Φ FA A AO gh pf hok hp h;rcases h with ⟨hk,g,hv,hF,h⟩|⟨hk,-,h⟩
  ·exact ih g _ _ _ _ _ _ _ _ (hok.2.2.2 g) hp h
  exact ih 0 _ _ _ _ _ _ _ _ (hok.2.2.2 0) hp (h 0)
 | call γ val Φ' Ap next ih =>
  intro k ac Φ FA A AO gh pf hok hp h;rcases h with ⟨-,hk,-⟩|⟨-,hp,-⟩
  ·exact a40 (vW hcl m _ i hk (aP.1 hok.2.2.1 i hp)) hi
  exact hp rfl
def Agr (ops:Array Oper) (π:Nat->Nat) (a:Act) (L:ZN) (vs:Nat->Value) (k:Nat) (ac:Act):Prop :=
 ac.tmps.size=a.tmps.size/\∀t,(∀j,j<k->π j∈L->dU ops (π j)=some t->ac.eval (.tmp t)=if t<a.tmps.size then vs (π j) else undef)/\((∀j,j<k->dU ops (π j)≠some t)->ac.eval (.tmp t)=a.eval (.tmp t))
theorem Agr.step (hda:GZ ops) {k:Nat} {ac:Act} (h:Agr ops π a L vs k ac) {v:Value} (hv:π k∈L->vs (π k)=v):Agr ops π a L vs (k+1) (ac.put (dU ops (π k)) v):=by
 refine⟨by rw[afE];exact h.1,fun t=>⟨fun j hj Sh ht=>?_,fun hn=>?_⟩⟩
 ·by_cases hjk:π j=π k
  ·rw[hjk] at Sh ht ⊢;rw[ht,Wa,h.1,hv Sh]
  rw[Act.eval_put (fun d hd e=>by injection e with e;subst e;exact hjk (hda _ _ _ ht hd))];exact(h.2 t).1 j (by have:j≠k:=fun e=>hjk (by rw[e]);omega) Sh ht
 rw[Act.eval_put (fun d hd e=>by injection e with e;subst e;exact hn k (by omega) hd)];exact(h.2 t).2 fun j hj=>hn j (by omega)
theorem alX {o:Oper} {A B:Act} (hs:A.tmps.size=B.tmps.size) (h:∀t∈o.looksAt ops,A.eval (.tmp t)=B.eval (.tmp t)):Region.wanted o (yielded ops A.tmps)=Region.wanted o (yielded ops B.tmps):=by
 unfold Region.wanted;cases hg:o.guard with
 | none=>rfl
 | some gw =>
  obtain⟨j,b⟩:=gw;have:yielded ops A.tmps j=yielded ops B.tmps j:=by
   unfold yielded;cases hd:(ops[j]?).bind (·.dst) with
   | none=>rfl
   | some t =>
    have hl:=h t (by unfold Oper.looksAt;rw[hg];simp[hd]);simp only[Act.eval] at hl;rcases bJ t A.tmps.size with hlt|hge
    ·have hlt2:=hs ▸ hlt;simp only[Array.getD_eq_getD_getElem?,aY hlt,aY hlt2,Option.getD_some] at hl;simp only[Option.bind_some,aY hlt,aY hlt2,hl]
    simp only[Option.bind_some,Array.getElem?_eq_none hge,Array.getElem?_eq_none (hs ▸ hge)]
  simp only[this]
theorem aHq (hok:adA ops m=true) (hl:Lin ops m π σ) (hR:∀W,Er W W) (hXE:∀W W',Ext W W'->Er W W') {i:Nat} {o:Oper} (hi:i<m) (ho:ops[i]?=some o) (yQ:i∉L) (l7:∀j∈L,j<m) (hcl:aJE ops L) (hrd:∀e∈o.after,Region.binds .any e=true->e.on∈L) (hC:C W) :
  ∀(t:Tr) (b:Bool) (k:Nat) (ac:Act) (Φ FA:World->Prop) (A AO:Nat->Prop) (gh pf:ZN),Ok P ops π Q m Er C t k ac Φ FA AO gh pf->(∀W W',Ext W W'->Φ W->Φ W')->Inv π L vs W t b k Φ A->Agr ops π a L vs k ac->((∀j∈gh,j∈L)->FA W/\∀g,A g->AO g)->k<=σ i->(b=false->∃j∈gh,j∉L) ->
   (∃v W',Det P ops o (fL ops a vs L) W v W'/\Ext W W'/\Inv π (L++[i]) (upd vs i v) W' t b k Φ A) \/
   (b=true/\(∀j∈gh,j∈L)/\aaM P ops o (fL ops a vs L) W (fun v W'=>Er W W'/\Inv π (L++[i]) (upd vs i v) W' t b k Φ A)):=by
 obtain⟨zP,hm1,hda,hspec⟩:=Jv hok;have aRk:∀j,fK ops m i j=true->j∈L:=fun j h=>Fy hcl ho hrd m j h
 have hm':∀k,k<m->k<σ i->(π k∈L++[i] ↔ π k∈L):=fun k hk h=>Dl hl hk (by omega)
 have hu:∀v k,k<m->k<σ i->upd vs i v (π k)=vs (π k):=fun v k hk h=>upd_ne hl hk (by omega)
 have hui:∀v,upd vs i v i=v:=fun v=>by simp[upd]
 have hpi:π (σ i)=i:=(hl.inv i hi).2
 have aHP:∀ac,Agr ops π a L vs (σ i) ac->(∀W v W',Det P ops o ac W v W'->Det P ops o (fL ops a vs L) W v W')/\(∀W T,aaM P ops o ac W T->aaM P ops o (fL ops a vs L) W T):=by
  intro ac hag;have hev:∀t∈o.looksAt ops,ac.eval (.tmp t)=(fL ops a vs L).eval (.tmp t):=by
   intro t ht;by_cases hex:∃j,j<m/\dU ops j=some t
   ·obtain⟨j,hjm,hj⟩:=hex;obtain⟨e,he,hb,rfl⟩:=(hspec i o ho).2.1 hi j t hjm hj ht;have Sh:=hrd e he hb;have hlt:=hl.dep i hi o ho e he hb;have hpe:=(hl.inv e.on hjm).2;rw[uU hda Sh hj];have:=(hag.2 t).1 (σ e.on) hlt (by rw[hpe];exact Sh) (by rw[hpe];exact hj);rw[hpe] at this;exact this
   have h1:∀j,j<m->dU ops j≠some t:=fun j hjm hj=>hex ⟨j,hjm,hj⟩
   rw[yL (fun j Sh=>h1 j (l7 j Sh)),(hag.2 t).2 (fun j hj=>h1 _ (hl.lt j (by have:=(hl.inv i hi).1;omega)).1)]
  have aQV:execOp ac.eval o=execOp (fL ops a vs L).eval o:=by
   refine execOp_congr o (Region.noSelect_spec zP i o · · ho) (fun x hx=>?_);cases x with
   | tmp t=>exact hev t (aK _ (List.mem_filterMap.2 ⟨.tmp t,by simpa using hx,rfl⟩))
   | const v=>rfl
   | global g=>rfl
   | func f=>rfl
  have hw:=alX (ops:=ops) (o:=o) (A:=ac) (B:=fL ops a vs L) (by rw[ab9];exact hag.1) hev;exact⟨fun W v W' h=>by unfold Det at *;rw[<-aQV,<-hw];exact h,fun W T h=>by unfold aaM bQ at *;rw[<-aQV,<-hw];exact h⟩
 intro t;induction t with
 | done=>intro b k ac Φ FA A AO gh pf hok;have:=hok.1;have:=(hl.inv i hi).1;intro _ _ _ _ hk;omega
 | plain v next ih =>
  intro b k ac Φ FA A AO gh pf hok hs hinv hag hFA hki hb;obtain⟨hkm,⟨ok,agF,aDs⟩,hnx⟩:=hok;by_cases hk:k=σ i
  ·subst hk;have h1:=hinv.1;rw[hpi,ho] at agF;cases agF;exact aoX ⟨v,W,(aHP ac hag).1 _ _ _ (aDs W hC),Tz W,fun _=>by rw[hpi];exact hui v,Inv.keep hl (hR W) (Tz W) next b _ _ _ _ _ _ _ _ hnx hs (by omega) hinv.2⟩
  rcases ih b (k+1) _ Φ FA A AO gh pf hnx hs hinv.2 (hag.step hda hinv.1) hFA (by omega) hb with ⟨u,W',h1,h2,h3⟩|⟨h1,h2,h3⟩
  ·exact aoX ⟨u,W',h1,h2,fun h=>by rw[hu u k hkm (by omega)];exact hinv.1 ((hm' k hkm (by omega)).1 h),h3⟩
  exact a4Z ⟨h1,h2,h3.mono fun u W' ⟨q1,q2⟩=>⟨q1,fun h=>by rw[hu u k hkm (by omega)];exact hinv.1 ((hm' k hkm (by omega)).1 h),q2⟩⟩
 | later v next ih =>
  intro b k ac Φ FA A AO gh pf hok hs hinv hag hFA hki hb;obtain⟨hkm,hgh,⟨ok,agF,aDs⟩,hnx⟩:=hok;by_cases hk:k=σ i
  ·subst hk;rw[hpi] at hgh;rw[hpi,ho] at agF;cases agF;have azj:∀j∈gh,j∈L:=fun j hj=>aRk j (aP.1 hgh j hj)
   have hbt:b=true:=by
    cases b
    ·obtain⟨j,hj,Sh⟩:=hb rfl;exact a40 (azj j hj) Sh
    rfl
   subst hbt;have hΦ:=Inv.front (Q:=Q) (C:=C) (P:=P) (Er:=Er) hcl yQ next _ _ _ _ _ _ _ _ hnx (by rw[hpi];simp) hinv.2;exact aoX ⟨v,W,(aHP ac hag).1 _ _ _ (aDs W hC hΦ (hFA azj).1),Tz W,fun _=>by rw[hpi];exact hui v,Inv.keep hl (hR W) (Tz W) next _ _ _ _ _ _ _ _ _ hnx hs (by omega) hinv.2⟩
  rcases ih b (k+1) _ Φ FA A AO gh _ hnx hs hinv.2 (hag.step hda hinv.1) hFA (by omega) hb with ⟨u,W',h1,h2,h3⟩|⟨h1,h2,h3⟩
  ·exact aoX ⟨u,W',h1,h2,fun h=>by rw[hu u k hkm (by omega)];exact hinv.1 ((hm' k hkm (by omega)).1 h),h3⟩
  exact a4Z ⟨h1,h2,h3.mono fun u W' ⟨q1,q2⟩=>⟨q1,fun h=>by rw[hu u k hkm (by omega)];exact hinv.1 ((hm' k hkm (by omega)).1 h),q2⟩⟩
 | alloc val F U next ih =>
  intro b k ac Φ FA A AO gh pf hok hs hinv hag hFA hki hb;obtain⟨hkm,⟨ok,agF,aDs⟩,hst,hnx⟩:=hok;by_cases hk:k=σ i
  ·subst hk;rw[hpi,ho] at agF;cases agF;rcases hinv with ⟨hkL,-⟩|⟨-,hA0,hinv⟩
   ·exact a40 (by rw[hpi] at hkL;exact hkL) yQ
   obtain⟨g,W',hd,hx,hF,hg⟩:=aDs W hC;exact aoX ⟨val g,W',(aHP ac hag).1 _ _ _ hd,hx,aoX ⟨by rw[hpi];simp,g,by rw[hpi];exact hui _,⟨hF,fun hU=>⟨(hg hU).2,hA0 hU g (hg hU).1⟩⟩,Inv.keep hl (hXE _ _ hx) hx (next g) b _ _ _ _ _ _ _ _ (hnx g) hs (by omega) (hinv g)⟩⟩
  rcases hinv with ⟨hkL,g,hv,hF,hinv⟩|⟨hkL,hA0,hinv⟩
  ·have hFU:∀W',Er W W'->FU U F A g W':=fun W' h=>⟨hst.1 g _ _ h hF.1,fun hU=>⟨bF (hF.2 hU).1 (hst.2 hU _ _ h),(hF.2 hU).2⟩⟩
   rcases ih g b (k+1) _ Φ _ A AO _ pf (hnx g) hs hinv (hag.step hda (fun _=>hv)) (fun h=>⟨⟨(hFA fun j hj=>h j (aZ _ hj)).1,hF.1,fun hU=>⟨(hF.2 hU).1,(hFA fun j hj=>h j (aZ _ hj)).2 g (hF.2 hU).2⟩⟩,(hFA fun j hj=>h j (aZ _ hj)).2⟩) (by omega) (fun h=>by obtain⟨j,hj,Sh⟩:=hb h;exact⟨j,aZ _ hj,Sh⟩) with ⟨u,W',h1,h2,h3⟩|⟨h1,h2,h3⟩
   ·exact aoX ⟨u,W',h1,h2,aoX ⟨(hm' k hkm (by omega)).2 hkL,g,by rw[hu u k hkm (by omega)];exact hv,hFU _ (hXE _ _ h2),h3⟩⟩
   exact a4Z ⟨h1,fun j hj=>h2 j (aZ _ hj),h3.mono fun u W' ⟨q1,q2⟩=>⟨q1,aoX ⟨(hm' k hkm (by omega)).2 hkL,g,by rw[hu u k hkm (by omega)];exact hv,hFU _ q1,q2⟩⟩⟩
  have hall:∀g,∃v W',Det P ops o (fL ops a vs L) W v W'/\Ext W W'/\Inv π (L++[i]) (upd vs i v) W' (next g) b (k+1) Φ A:=fun g=>by
   rcases ih g b (k+1) _ Φ _ A AO _ pf (hnx g) hs (hinv g) (hag.step hda (fun h=>a40 h hkL)) (fun h=>a40 (h (π k) (by simp)) hkL) (by omega) (fun h=>⟨π k,by simp,hkL⟩) with h|⟨-,h2,-⟩
   ·exact h
   exact a40 (h2 (π k) (by simp)) hkL
  obtain⟨u,W',h1,h2,-⟩:=hall 0;refine aoX ⟨u,W',h1,h2,a4Z ⟨fun h=>hkL ((hm' k hkm (by omega)).1 h),fun hU g hg=>hA0 hU g (aV h2.size hg),fun g=>?_⟩⟩;obtain⟨u2,W2,k1,-,k3⟩:=hall g;obtain⟨rfl,rfl⟩:=h1.same k1;exact k3
 | call γ val Φ' Ap next ih =>
  intro b k ac Φ FA A AO gh pf hok hs hinv hag hFA hki hb;obtain⟨hkm,hgh,hpf,⟨ok,agF,hout⟩,hne,hst,hnx⟩:=hok;by_cases hk:k=σ i
  ·subst hk;rw[hpi] at hgh;rw[hpi,ho] at agF;cases agF;have azj:∀j∈gh,j∈L:=fun j hj=>aRk j (aP.1 hgh j hj)
   have hbt:b=true:=by
    cases b
    ·obtain⟨j,hj,Sh⟩:=hb rfl;exact a40 (azj j hj) Sh
    rfl
   subst hbt;rcases hinv with ⟨-,hkL,-⟩|⟨-,hΦ,hinv⟩
   ·exact a40 (by rw[hpi] at hkL;exact hkL) yQ
   refine a4Z ⟨rfl,azj,((aHP ac hag).2 _ _ (hout W hC (hΦ rfl) (hFA azj).1)).mono ?_⟩;rintro v W' ⟨hE,c,rfl,hΦ',hAp⟩;exact⟨hE,aoX ⟨rfl,by rw[hpi];simp,c,by rw[hpi];exact hui _,Inv.after hl hE (next c) true _ _ _ _ _ _ _ _ _ (hnx c) (fun _=>hΦ') (fun g hg hA=>⟨hA,hAp g hg⟩) (by omega) (hinv c)⟩⟩
  rcases hinv with ⟨hbt,hkL,c,hv,hinv⟩|⟨hkL,hp,hinv⟩
  ·rcases ih c true (k+1) _ (Φ' c) _ _ _ _ pf (hnx c) (hst c) hinv (hag.step hda (fun _=>hv)) (fun h=>⟨(hFA fun j hj=>h j (aZ _ hj)).1,fun g hg=>⟨(hFA fun j hj=>h j (aZ _ hj)).2 g hg.1,hg.2⟩⟩) (by omega) (fun h=>by cases h) with ⟨u,W',h1,h2,h3⟩|⟨h1,h2,h3⟩
   ·exact aoX ⟨u,W',h1,h2,aoX ⟨hbt,(hm' k hkm (by omega)).2 hkL,c,by rw[hu u k hkm (by omega)];exact hv,h3⟩⟩
   exact a4Z ⟨hbt,fun j hj=>h2 j (aZ _ hj),h3.mono fun u W' ⟨q1,q2⟩=>⟨q1,aoX ⟨hbt,(hm' k hkm (by omega)).2 hkL,c,by rw[hu u k hkm (by omega)];exact hv,q2⟩⟩⟩
  have hall:∀c,∃v W',Det P ops o (fL ops a vs L) W v W'/\Ext W W'/\Inv π (L++[i]) (upd vs i v) W' (next c) false (k+1) (Φ' c) A:=fun c=>by
   rcases ih c false (k+1) _ (Φ' c) _ _ _ _ pf (hnx c) (hst c) (hinv c) (hag.step hda (fun h=>a40 h hkL)) (fun h=>a40 (h (π k) (by simp)) hkL) (by omega) (fun _=>⟨π k,by simp,hkL⟩) with h|⟨h1,-⟩
   ·exact h
   cases h1
  obtain⟨c0⟩:=hne;obtain⟨u,W',h1,hx,-⟩:=hall c0;refine aoX ⟨u,W',h1,hx,a4Z ⟨fun h=>hkL ((hm' k hkm (by omega)).1 h),fun hb=>hs _ _ hx (hp hb),fun c=>?_⟩⟩;obtain⟨u2,W2,k1,-,k3⟩:=hall c;obtain⟨rfl,rfl⟩:=h1.same k1;exact k3
theorem Ok.fin (hl:Lin ops m π σ) (hda:GZ ops) (wK:∀j,j<m->j∈L) (hC:C W):∀(t:Tr) (k:Nat) (ac:Act) (Φ FA:World->Prop) (A AO:Nat->Prop) (gh pf:ZN),Ok P ops π Q m Er C t k ac Φ FA AO gh pf->Inv π L vs W t true k Φ A->FA W->(∀g,A g->AO g)->ac=fL ops a vs ((List.range k).map π) ->
  wpList P ops Q (ops.toList.drop m) (fL ops a vs (List.range m)) W:=by
 have hput:∀(k:Nat) (ac:Act) (v:Value),ac=fL ops a vs ((List.range k).map π)->vs (π k)=v->ac.put (dU ops (π k)) v=fL ops a vs ((List.range (k+1)).map π):=fun k ac v h1 h2=>by
  rw[List.range_succ,List.map_append,List.map_singleton,Vn,h1,h2]
 have hperm:fL ops a vs ((List.range m).map π)=fL ops a vs (List.range m):=by
  refine Vo hda ((List.perm_ext_iff_of_nodup ?_ List.nodup_range).2 fun j=>?_)
  ·unfold List.Nodup;rw[List.pairwise_map];refine List.Pairwise.imp_of_mem (fun {x y} hx hy hxy e=>hxy ?_) (List.nodup_range (n:=m));have h1:=(hl.lt x (a43.1 hx)).2;have h2:=(hl.lt y (a43.1 hy)).2;rw[<-h1,e,h2]
  rw[List.mem_map,a43];constructor
  ·rintro⟨k,hk,rfl⟩;exact(hl.lt k (a43.1 hk)).1
  intro hj;exact⟨σ j,a43.2 (hl.inv j hj).1,(hl.inv j hj).2⟩
 intro t;induction t with
 | done=>intro k ac Φ FA A AO gh pf hok hinv hFA _ he;obtain⟨rfl,hok⟩:=hok;rw[he,hperm] at hok;exact hok W hC (hinv rfl) hFA
 | plain v next ih=>intro k ac Φ FA A AO gh pf hok hinv hFA hA he;exact ih _ _ _ _ _ _ _ _ hok.2.2 hinv.2 hFA hA (hput k ac v he (hinv.1 (wK _ (hl.lt k hok.1).1)))
 | later v next ih=>intro k ac Φ FA A AO gh pf hok hinv hFA hA he;exact ih _ _ _ _ _ _ _ _ hok.2.2.2 hinv.2 hFA hA (hput k ac v he (hinv.1 (wK _ (hl.lt k hok.1).1)))
 | alloc val F U next ih =>
  intro k ac Φ FA A AO gh pf hok hinv hFA hA he;rcases hinv with ⟨hk,g,hv,hF,hinv⟩|⟨hk,-⟩
  ·exact ih g _ _ _ _ _ _ _ _ (hok.2.2.2 g) hinv ⟨hFA,hF.1,fun hU=>⟨(hF.2 hU).1,hA g (hF.2 hU).2⟩⟩ hA (hput k ac _ he hv)
  exact a40 (wK _ (hl.lt k hok.1).1) hk
 | call γ val Φ' Ap next ih =>
  intro k ac Φ FA A AO gh pf hok hinv hFA hA he;obtain⟨hkm,-,-,-,-,-,hnx⟩:=hok;rcases hinv with ⟨-,hk,c,hv,hinv⟩|⟨hk,-⟩
  ·exact ih c _ _ _ _ _ _ _ _ (hnx c) hinv hFA (fun g hg=>⟨hA g hg.1,hg.2⟩) (hput k ac _ he hv)
  exact a40 (wK _ (hl.lt k hkm).1) hk
theorem VU {id:Nat} {w:World} (hm:P.follows .mixedOrders=true) (hok:adA ops m=true) (hl:Lin ops m π σ) (hR:∀W,Er W W) (hXE:∀W W',Ext W W'->Er W W') (hCE:∀W W',C W->Er W W'->C W') {Φ:World->Prop} (hC:C w.drew) (hΦ:Φ w.drew) (hs:∀W W',Ext W W'->Φ W->Φ W')
  (h:∃t,Ok P ops π Q m Er C t 0 a Φ (fun _=>True) (fun _=>True) [] []):(Code.region id ops true).wp P Q a w:=by
 obtain⟨t,ht⟩:=h;refine wp_region_any hm ?_;refine ata (m:=m) (fun L vs W=>C W/\Inv π L vs W t true 0 Φ (fun _=>True)) hok ?_ ?_ ops.size [] (fun _=>undef) _ _ (by simp) (fun j hj=>?_) List.nodup_nil (fun j hj=>by simp at hj) ?_ (fun j hj=>by simp at hj) ⟨hC,Inv.start t true 0 Φ _ (fun _=>trivial) fun _=>hΦ⟩
 ·intro i o hi ho L vs W yQ l7 hcl hrd ⟨hC,hinv⟩;rcases aHq (Q:=Q) hok hl hR hXE hi ho yQ l7 hcl hrd hC t true 0 a Φ _ _ _ [] [] ht hs hinv ⟨rfl,fun t=>⟨fun j hj=>a40 hj (by omega),fun _=>rfl⟩⟩ (fun _=>⟨trivial,fun _ h=>h⟩) (by omega) (fun h=>by cases h) with ⟨v,W',h1,h2,h3⟩|⟨-,-,h3⟩
  ·exact h1.outs ⟨hCE _ _ hC (hXE _ _ h2),h3⟩
  exact h3.mono fun v W' ⟨q1,q2⟩=>⟨hCE _ _ hC q1,q2⟩
 ·intro L vs W wK ⟨hC,hinv⟩;exact Ok.fin hl (Jv hok).2.2.1 wK hC t 0 a Φ _ _ _ [] [] ht hinv trivial (fun _ h=>h) rfl
 ·simp[hj]
 exact aV (List.length_filter_le _ _) (by simp)
end
theorem aLu {ops:Array Oper} {m:Nat} (hok:adA ops m=true):Lin ops m (fun k=>k) (fun k=>k) :=
 ⟨fun _ h=>⟨h,rfl⟩,fun _ h=>⟨h,rfl⟩,fun i _ o ho e he hb=>((Jv hok).2.2.2 i o ho).1 e he hb⟩
section
variable {P:Program} {ops:Array Oper} {π:Nat->Nat} {Q:Exit->Act->World->Prop} {m:Nat} {Er:World->World->Prop} {C:World->Prop} {k:Nat} {o:Oper} {r l:List Oper} {ac:Act} {Φ FA:World->Prop} {A:Nat->Prop} {gh pf:ZN}
theorem Ok.weak:∀(t:Tr) (k:Nat) (ac:Act) (Φ FA FA':World->Prop) (A:Nat->Prop) (gh pf:ZN),(∀W,FA' W->FA W)->Ok P ops π Q m Er C t k ac Φ FA A gh pf->Ok P ops π Q m Er C t k ac Φ FA' A gh pf:=by
 intro t;induction t with
 | done=>intro k ac Φ FA FA' A gh pf hw h;exact⟨h.1,fun W h1 h2 h3=>h.2 W h1 h2 (hw W h3)⟩
 | plain v next ih=>intro k ac Φ FA FA' A gh pf hw h;exact⟨h.1,h.2.1,ih _ _ _ _ _ _ _ _ hw h.2.2⟩
 | later v next ih =>
  intro k ac Φ FA FA' A gh pf hw ⟨h1,h2,⟨o,h3,h4⟩,h5⟩;exact⟨h1,h2,⟨o,h3,fun W q1 q2 q3=>h4 W q1 q2 (hw W q3)⟩,ih _ _ _ _ _ _ _ _ hw h5⟩
 | alloc val F U next ih=>intro k ac Φ FA FA' A gh pf hw h;exact⟨h.1,h.2.1,h.2.2.1,fun g=>ih g _ _ _ _ _ _ _ _ (fun W q=>⟨hw W q.1,q.2⟩) (h.2.2.2 g)⟩
 | call γ val Φ' Ap next ih =>
  intro k ac Φ FA FA' A gh pf hw ⟨h1,h2,h3,⟨o,h4,h5⟩,h6,h7,h8⟩;exact⟨h1,h2,h3,⟨o,h4,fun W q1 q2 q3=>h5 W q1 q2 (hw W q3)⟩,h6,h7,fun c=>ih c _ _ _ _ _ _ _ _ hw (h8 c)⟩
def Vu (P:Program) (ops:Array Oper) (π:Nat->Nat) (Q:Exit->Act->World->Prop) (m:Nat) (Er:World->World->Prop) (C:World->Prop) (k:Nat) (l:List Oper) (ac:Act) (Φ FA:World->Prop) (A:Nat->Prop) (gh pf:ZN):Prop:=(∀j,l[j]?=ops[π (k+j)]?)->(∀j,m<=j->π j=j)->∃t,Ok P ops π Q m Er C t k ac Φ FA A gh pf
theorem XZ (h:∀j,(o::r)[j]?=ops[π (k+j)]?):ops[π k]?=some o/\dU ops (π k)=o.dst/\∀j,r[j]?=ops[π (k+1+j)]?:=by
 have h0:ops[π k]?=some o:=by simpa using (h 0).symm
 exact⟨h0,by unfold dU;rw[h0];rfl,fun j=>by have:=h (j+1);rw[Nat.add_assoc,Nat.add_comm 1 j];simpa using this⟩
theorem ald {W:World} {v:Value} {D:World->Prop} (hn:Tj o=true) (hw:Region.wanted o (yielded ops ac.tmps)=true) (h:o.quietAt P ac D W v):Det P ops o ac W v W:=by
 unfold Oper.quietAt at h;have hne:=fun f args W'=>ZC hn ac.eval P W f args W'
 unfold Det;refine aoX ⟨hw,?_⟩
 revert h hne
 generalize (execOp ac.eval o).run P W=q;intro h hne;cases q with
 | ok n w' =>
  cases n<;>simp only[Oper.quietUpon] at h
  case value u=>obtain⟨rfl,rfl⟩:=h;exact aoX rfl
  case skip=>obtain⟨rfl,rfl⟩:=h;exact a4Z ⟨rfl,rfl⟩
  case enter f args=>exact a40 rfl (hne f args w')
 | halt x w'=>simp only[Oper.quietUpon] at h
structure aNs (Er:World->World->Prop) (v:Value) (Φ':World->Prop) (W:World) (u:Value) (W':World):Prop where
 er:Er W W'
 val:u=v
 phi:Φ' W'
structure aGy {γ:Type} (Er:World->World->Prop) (val:γ->Value) (Φ':γ->World->Prop) (W:World) (u:Value) (W':World):Prop where
 er:Er W W'
 ex:∃c,u=val c/\Φ' c W'
structure aVp {γ:Type} (Er:World->World->Prop) (val:γ->Value) (Φ':γ->World->Prop) (Ap:γ->Nat->Prop) (W:World) (u:Value) (W':World):Prop where
 er:Er W W'
 ex:∃c,u=val c/\Φ' c W'/\∀g,(g<W.heap.size\/W'.heap.size<=g)->Ap c g
structure aX2 (val:Nat->Value) (F:Nat->World->Prop) (W:World) (u:Value) (W':World):Prop where
 er:Ext W W'
 ex:∃g,u=val g/\F g W'
structure a0Z (val:Nat->Value) (F:Nat->World->Prop) (W:World) (u:Value) (W':World):Prop where
 er:Ext W W'
 ex:∃g,u=val g/\W.heap.size<=g/\g<W'.heap.size/\F g W'
theorem bZ (h:∀K:Act->Prop,(∀a,Vu P ops π Q m Er C (k+1) r a Φ FA A gh pf->K a)->o.quiet P ac (fun w=>∃τ:WIn C,w=τ.1) K) (hw:Region.wanted o (yielded ops ac.tmps)=true:=by rfl) (hk:Nat.ble (k+1) m=true:=by rfl) (hn:Tj o=true:=by rfl):Vu P ops π Q m Er C k (o::r) ac Φ FA A gh pf:=by
 intro hl hπ;obtain⟨ho,hd,hr⟩:=XZ hl;obtain⟨v,hv,hn'⟩:=h (fun a=>Vu P ops π Q m Er C (k+1) r a Φ FA A gh pf) (fun _ h=>h);obtain⟨t,ht⟩:=hn' hr hπ;exact⟨.plain v t,Nat.le_of_ble_eq_true hk,⟨o,ho,fun W hC=>ald hn hw (hv W ⟨⟨W,hC⟩,rfl⟩)⟩,by rw[hd];exact ht⟩
theorem zX (h:∀K:Act->Prop,(∀a,Vu P ops π Q m Er C (k+1) r a Φ FA A gh pf->K a)->K (ac.put o.dst undef)) (hw:Region.wanted o (yielded ops ac.tmps)=false:=by rfl) (hk:Nat.ble (k+1) m=true:=by rfl):Vu P ops π Q m Er C k (o::r) ac Φ FA A gh pf:=by
 intro hl hπ;obtain⟨ho,hd,hr⟩:=XZ hl;obtain⟨t,ht⟩:=h (fun a=>Vu P ops π Q m Er C (k+1) r a Φ FA A gh pf) (fun _ h=>h) hr hπ;exact⟨.plain undef t,Nat.le_of_ble_eq_true hk,⟨o,ho,fun W hC=>a4Z ⟨hw,rfl,rfl⟩⟩,by rw[hd];exact ht⟩
theorem akW {val:Nat->Value} {T:Value->World->Prop} {G:Nat->World->World->Prop} (hw:Region.wanted o (yielded ops ac.tmps)=true) (hn:Tj o=true) {W:World} (hT:∀u W',T u W'->∃g,u=val g/\G g W W') (h1:bQ P o ac.eval W T):∃g W',Det P ops o ac W (val g) W'/\G g W W':=by
 have hne:=fun f args W'=>ZC hn ac.eval P W f args W'
 unfold bQ at h1;unfold Det
 revert h1 hne
 generalize (execOp ac.eval o).run P W=q;intro h1 hne;split at h1
 ·obtain⟨g,rfl,a3⟩:=hT _ _ h1;exact⟨g,_,aoX ⟨hw,aoX rfl⟩,a3⟩
 ·obtain⟨g,a2,a3⟩:=hT _ _ h1;exact⟨g,_,aoX ⟨hw,a4Z ⟨rfl,a2.symm⟩⟩,a3⟩
 ·exact a40 rfl (hne _ _ _)
 exact h1.elim
theorem Az (val:Nat->Value) (F:Nat->World->Prop) (h:∀W,C W->bQ P o ac.eval W (aX2 val F W)) (hs:∀g W W',Er W W'->F g W->F g W')
  (hx:∀g,∀K:Act->Prop,(∀a,Vu P ops π Q m Er C (k+1) r a Φ (fun W=>FA W/\F g W) A (π k::gh) pf->K a)->K (ac.put o.dst (val g))) (hw:Region.wanted o (yielded ops ac.tmps)=true:=by rfl) (hk:Nat.ble (k+1) m=true:=by rfl) (hn:Tj o=true:=by rfl):Vu P ops π Q m Er C k (o::r) ac Φ FA A gh pf:=by
 intro hl hπ;obtain⟨ho,hd,hr⟩:=XZ hl;have hy:∀g,∃t,Ok P ops π Q m Er C t (k+1) (ac.put o.dst (val g)) Φ (fun W=>FA W/\F g W) A (π k::gh) pf:=fun g=>hx g (fun a=>Vu P ops π Q m Er C (k+1) r a Φ (fun W=>FA W/\F g W) A (π k::gh) pf) (fun _ h=>h) hr hπ
 exact⟨.alloc val F false (fun g=>(hy g).choose),Nat.le_of_ble_eq_true hk,⟨o,ho,fun W hC=>by
  obtain⟨g,W',h1,h2,h3⟩:=akW (G:=fun g W W'=>Ext W W'/\F g W') hw hn (fun u W' ⟨q1,g,q2,q3⟩=>⟨g,q2,q1,q3⟩) (h W hC);exact⟨g,W',h1,h2,h3,fun e=>by cases e⟩⟩,⟨hs,fun e=>by cases e⟩,fun g=>by rw[hd];exact Ok.weak _ _ _ _ _ _ _ _ _ (fun W q=>⟨q.1,q.2.1⟩) (hy g).choose_spec⟩
theorem Jj (val:Nat->Value) (F:Nat->World->Prop) (h:∀W,C W->bQ P o ac.eval W (a0Z val F W)) (hs:∀g W W',Er W W'->F g W->F g W') (hz:∀W W',Er W W'->W.heap.size<=W'.heap.size)
  (hx:∀g,∀K:Act->Prop,(∀a,Vu P ops π Q m Er C (k+1) r a Φ (fun W=>FA W/\F g W/\g<W.heap.size/\A g) A (π k::gh) pf->K a)->K (ac.put o.dst (val g))) (hw:Region.wanted o (yielded ops ac.tmps)=true:=by rfl) (hk:Nat.ble (k+1) m=true:=by rfl) (hn:Tj o=true:=by rfl):Vu P ops π Q m Er C k (o::r) ac Φ FA A gh pf:=by
 intro hl hπ;obtain⟨ho,hd,hr⟩:=XZ hl;have hy:∀g,∃t,Ok P ops π Q m Er C t (k+1) (ac.put o.dst (val g)) Φ (fun W=>FA W/\F g W/\g<W.heap.size/\A g) A (π k::gh) pf:=fun g=>hx g (fun a=>Vu P ops π Q m Er C (k+1) r a Φ (fun W=>FA W/\F g W/\g<W.heap.size/\A g) A (π k::gh) pf) (fun _ h=>h) hr hπ
 exact⟨.alloc val F true (fun g=>(hy g).choose),Nat.le_of_ble_eq_true hk,⟨o,ho,fun W hC=>by
  obtain⟨g,W',h1,h2,h3,h4,h5⟩:=akW (G:=fun g W W'=>Ext W W'/\W.heap.size<=g/\g<W'.heap.size/\F g W') hw hn (fun u W' ⟨q1,g,q2,q3⟩=>⟨g,q2,q1,q3⟩) (h W hC);exact⟨g,W',h1,h2,h5,fun _=>⟨h3,h4⟩⟩⟩,⟨hs,fun _=>hz⟩,fun g=>by rw[hd];exact Ok.weak _ _ _ _ _ _ _ _ _ (fun W q=>⟨q.1,q.2.1,(q.2.2 rfl).1,(q.2.2 rfl).2⟩) (hy g).choose_spec⟩
theorem yK {γ:Type} (val:γ->Value) (Φ':γ->World->Prop) (Ap:γ->Nat->Prop) (h:∀W,C W->Φ W->FA W->bQ P o ac.eval W (aVp Er val Φ' Ap W)) (hs:∀c W W',Ext W W'->Φ' c W->Φ' c W')
  (hx:∀c,∀K:Act->Prop,(∀a,Vu P ops π Q m Er C (k+1) r a (Φ' c) FA (fun g=>A g/\Ap c g) (π k::gh) pf->K a)->K (ac.put o.dst (val c))) (hne:Nonempty γ:=by infer_instance) (hw:Region.wanted o (yielded ops ac.tmps)=true:=by rfl) (hk:Nat.ble (k+1) m=true:=by rfl)
  (hg:gh.all (fun j=>fK ops m (π k) j)=true:=by kernel_rfl) (hp:pf.all (fun j=>fK ops m (π k) j)=true:=by kernel_rfl):Vu P ops π Q m Er C k (o::r) ac Φ FA A gh pf:=by
 intro hl hπ;obtain⟨ho,hd,hr⟩:=XZ hl;have hy:∀c,∃t,Ok P ops π Q m Er C t (k+1) (ac.put o.dst (val c)) (Φ' c) FA (fun g=>A g/\Ap c g) (π k::gh) pf:=fun c=>hx c (fun a=>Vu P ops π Q m Er C (k+1) r a (Φ' c) FA (fun g=>A g/\Ap c g) (π k::gh) pf) (fun _ h=>h) hr hπ
 exact⟨.call γ val Φ' Ap (fun c=>(hy c).choose),Nat.le_of_ble_eq_true hk,hg,hp,⟨o,ho,fun W h1 h2 h3=>by unfold aaM;rw[bM hw];exact(h W h1 h2 h3).mono fun _ _ q=>⟨q.er,q.ex⟩⟩,hne,hs,fun c=>by rw[hd];exact(hy c).choose_spec⟩
theorem dP {γ:Type} (val:γ->Value) (Φ':γ->World->Prop) (h:∀W,C W->Φ W->FA W->bQ P o ac.eval W (aGy Er val Φ' W)) (hs:∀c W W',Ext W W'->Φ' c W->Φ' c W')
  (hx:∀c,∀K:Act->Prop,(∀a,Vu P ops π Q m Er C (k+1) r a (Φ' c) FA (fun g=>A g/\True) (π k::gh) pf->K a)->K (ac.put o.dst (val c))) (hne:Nonempty γ:=by infer_instance) (hw:Region.wanted o (yielded ops ac.tmps)=true:=by rfl) (hk:Nat.ble (k+1) m=true:=by rfl)
  (hg:gh.all (fun j=>fK ops m (π k) j)=true:=by kernel_rfl) (hp:pf.all (fun j=>fK ops m (π k) j)=true:=by kernel_rfl):Vu P ops π Q m Er C k (o::r) ac Φ FA A gh pf :=
 yK val Φ' (fun _ _=>True) (fun W h1 h2 h3=>(h W h1 h2 h3).mono fun _ _ ⟨q1,c,q2,q3⟩=>⟨q1,c,q2,q3,fun _ _=>trivial⟩) hs hx hne hw hk hg hp
theorem fZ (v:Value) (Φ':World->Prop) (h:∀W,C W->Φ W->FA W->bQ P o ac.eval W (aNs Er v Φ' W)) (hs:∀W W',Ext W W'->Φ' W->Φ' W')
  (hx:∀K:Act->Prop,(∀a,Vu P ops π Q m Er C (k+1) r a Φ' FA (fun g=>A g/\True) (π k::gh) pf->K a)->K (ac.put o.dst v)) (hw:Region.wanted o (yielded ops ac.tmps)=true:=by rfl) (hk:Nat.ble (k+1) m=true:=by rfl)
  (hg:gh.all (fun j=>fK ops m (π k) j)=true:=by kernel_rfl) (hp:pf.all (fun j=>fK ops m (π k) j)=true:=by kernel_rfl):Vu P ops π Q m Er C k (o::r) ac Φ FA A gh pf :=
 dP (γ:=Unit) (fun _=>v) (fun _=>Φ') (fun W h1 h2 h3=>(h W h1 h2 h3).mono fun _ _ ⟨q1,q2,q3⟩=>⟨q1,(),q2,q3⟩) (fun _=>hs) (fun _=>hx) ⟨()⟩ hw hk hg hp
theorem mU {f:FuncId} {args:Array Value} {v:Value} (h:∀W,C W->Calls P f args W (cz v W))
  (hx:∀K:Act->Prop,(∀a,Vu P ops π Q m Er C (k+1) r a Φ FA (fun g=>A g/\True) (π k::gh) pf->K a)->K (ac.put o.dst v)) (hs:∀W W',Ext W W'->Φ W->Φ W':=by exact fun _ _ _ h=>h) (hX:∀W W',Ext W W'->Er W W':=by first|exact fun _ _ h=>h|exact fun _ _ h=>h.shp _|exact fun _ _ h=>h.cR _) (he:∀(W:World) (T:Value->World->Prop),Calls P f args W (fun e W'=>∃u,e=.returned u/\T u W')->bQ P o ac.eval W T:=by intro _ _ _;unfold bQ;go_simp<;>assumption) (hw:Region.wanted o (yielded ops ac.tmps)=true:=by rfl) (hk:Nat.ble (k+1) m=true:=by rfl)
  (hg:gh.all (fun j=>fK ops m (π k) j)=true:=by kernel_rfl) (hp:pf.all (fun j=>fK ops m (π k) j)=true:=by kernel_rfl):Vu P ops π Q m Er C k (o::r) ac Φ FA A gh pf :=
 fZ v Φ (fun W h1 h2 _=>he W _ ((h W h1).mono fun _ _ ⟨q1,q2⟩=>⟨v,q1,hX _ _ q2,rfl,hs _ _ q2 h2⟩)) hs hx hw hk hg hp
theorem nH (h:∀W,C W->Φ W->FA W->wpList P ops Q l ac W) (hk:k=m:=by rfl):Vu P ops π Q m Er C k l ac Φ FA A gh pf:=fun hl hπ=>⟨.done,hk,fun W h1 h2 h3=>by
 have:ops.toList.drop m=l:=by
  apply List.ext_getElem?
  intro j;rw[List.getElem?_drop,hl j,hπ _ (by omega),<-hk,Array.getElem?_toList]
 rw[this];exact h W h1 h2 h3⟩
theorem gC (h:∀W,C W->Φ W->FA W->Q .normal ac W) (hk:k=m:=by rfl):Vu P ops π Q m Er C k [] ac Φ FA A gh pf:=nH h hk
theorem kG {id:Nat} {a:Act} {w:World} (hR:∀W,Er W W) (hXE:∀W W',Ext W W'->Er W W') (hCE:∀W W',C W->Er W W'->C W') (hC:C w.drew) (hΦ:Φ w.drew) (hs:∀W W',Ext W W'->Φ W->Φ W')
  (h:Vu P l.toArray (fun k=>k) Q m Er C 0 l a Φ (fun _=>True) (fun _=>True) [] []) (hm:P.follows .mixedOrders=true:=by kernel_rfl) (hok:adA l.toArray m=true:=by kernel_rfl):(Code.region id l.toArray true).wp P Q a w :=
 VU hm hok (aLu hok) hR hXE hCE hC hΦ hs (h (fun j=>by simp) fun _ _=>rfl)
theorem kT {id:Nat} {a:Act} {w:World} (m:Nat) (h:Vu P l.toArray (fun k=>k) Q m Ext (Ext w) 0 l a (fun _=>True) (fun _=>True) (fun _=>True) [] []) (hm:P.follows .mixedOrders=true:=by kernel_rfl) (hok:adA l.toArray m=true:=by kernel_rfl):(Code.region id l.toArray true).wp P Q a w :=
 kG Tz (fun _ _ h=>h) (fun _ _ h k=>h.trans k) (Tz w).drew trivial (fun _ _ _ h=>h) h hm hok
theorem pT {id:Nat} {a:Act} {w:World} (m:Nat) (N:ZN) (Φ:World->Prop) (hΦ:Φ w.drew) (hs:∀W W',Ext W W'->Φ W->Φ W') (h:Vu P l.toArray (fun k=>k) Q m (ct N) (ct N w) 0 l a Φ (fun _=>True) (fun _=>True) [] []) (hm:P.follows .mixedOrders=true:=by kernel_rfl) (hok:adA l.toArray m=true:=by kernel_rfl):(Code.region id l.toArray true).wp P Q a w :=
 kG (ct.refl N) (fun _ _ h=>h.cR N) (fun _ _ h k=>h.then k) ((Tz w).drew.cR N) hΦ hs h hm hok
end
instance (w:World):Nonempty (WIn (Ext w)):=⟨⟨w,Tz w⟩⟩
instance (N:ZN) (w:World):Nonempty (WIn (ct N w)):=⟨⟨w,ct.refl N w⟩⟩
theorem bT {w:World} {p:Addr} {v:Value} (h:w.cell? p=some v):∀τ:WIn (Ext w),τ.1.cell? p=some v:=fun τ=>τ.2.cell h
end Go.Proofs.YtefjomofjejklaaGreatDoor
