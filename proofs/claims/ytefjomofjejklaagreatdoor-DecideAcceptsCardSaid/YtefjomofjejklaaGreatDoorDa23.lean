/- Joined. -/
import Derived.Test.YtefjomofjejklaaGreatDoorDa21
namespace Go.Proofs.YtefjomofjejklaaGreatDoor
set_option maxRecDepth 100000
set_option maxHeartbeats 32000000
open Go.RowKit Go.Maps
theorem kC.parts {w:World} {r:Rs} {v:jf} (h:kC w r v):∃(rn:BA) (ra:Bool) (rp:Pr) (ru:List Rs) (pv:gS) (a:OA) (n c:Nat),r=.mk rn ra rp ru/\v=⟨rn,ra,pv,a,n,c⟩/\n=ru.length/\gL w rp pv/\iE w ru a n c:=by
 cases h with
 | mk vs hp hr hl h=>exact⟨_,_,_,_,_,_,_,_,rfl,rfl,by rw[hr.1,hl],hp,vs,⟨hl.symm,h⟩,hr⟩
theorem iE.nth {w:World} {L:List Rs} {a:OA} {n c:Nat} (h:iE w L a n c) {k:Nat} (hk:k<L.length):∃(bl off:Nat) (v:jf),a=some ⟨bl,off,none⟩/\kC w L[k] v/\w.cell? ⟨bl,off+k*6,none⟩=some (.string v.name)/\w.cell? ⟨bl,off+k*6+1,none⟩=some (.bool v.dg)/\w.cell? ⟨bl,off+k*6+2,none⟩=some (.bool v.p.value)/\w.cell? ⟨bl,off+k*6+3,none⟩=some (.int .i64 v.p.pick)/\w.cell? ⟨bl,off+k*6+4,none⟩=some (.slice v.p.a v.p.n v.p.c)/\w.cell? ⟨bl,off+k*6+5,none⟩=some (.slice v.a v.n v.c):=by
 obtain⟨vs,h1,h2⟩:=h;have hkv:k<vs.length:=by rw[<-h1.1];exact hk
 obtain⟨bl,off,ha,hc⟩:=h2.2.2.2 k hkv;exact⟨bl,off,vs[k],ha,h1.2 k hk hkv,by simpa[jf.cells] using hc 0 (by simp[jf.cells]),by simpa[jf.cells] using hc 1 (by simp[jf.cells]),by simpa[jf.cells] using hc 2 (by simp[jf.cells]),by simpa[jf.cells] using hc 3 (by simp[jf.cells]),by simpa[jf.cells] using hc 4 (by simp[jf.cells]),by simpa[jf.cells] using hc 5 (by simp[jf.cells])⟩
theorem iE.ln {w:World} {L:List Rs} {a:OA} {n c:Nat} (h:iE w L a n c):n=L.length:=by
 obtain⟨vs,h1,h2⟩:=h;rw[h2.1,h1.1]
theorem WU.verify {w:World} {s:List Attr} {l:List cK} {f:ZI} {lo:fT} {n:Nat} (h:WU w s l f lo n) {e:Ex} {ev:Value} (he:dw w e ev) (hp:Pd s l e) {u:List cK} {a:OA} {c:Nat} (hu:Ee l e u) (hc:cZ w u a u.length c) {p:Pr} {pv:gS} (hpr:gL w p pv) :
  Calls Tryz.prog 100 #[.agg #[.slice lo.sa lo.sn lo.sc],.slice a u.length c,ev,.slice lo.fa lo.fn lo.fc,pv.val] w (cz (.bool (CY s l f e p)) w):=by
 obtain⟨p1,p2,p3,p4,p5,p6⟩:=hp;obtain⟨q1,-⟩:=hu.eval h.ok p1 p2 p3 h.facts;obtain⟨-,q3⟩:=hu.pf (s:=s) (f:=f) p3;have hq:=Df s u e f p pv _ ev a u.length c lo.fa lo.fn lo.fc w ⟨h.agl.x7,h.ais,h.SH,hc,by have:=hu.1.len;have:=(lK h.ok).len;omega,fun x hx=>h.Ca x (hu.2 x hx),he,p4,p5,p6,h.agl.ints,h.fnl,h.ops⟩ hpr;unfold atj at hq;rw[bM q1,q3] at hq;exact hq
theorem aEh {A:Ex->Pr->Bool} {u:List Wb} {lo:fT} {au:OA} {nu cu:Nat} (w:World) (ZW:nu<=1000000) (hlen:nu=u.length) (hd:gK w u au) {rs:List Rs} {ja:OA} {jn jc:Nat} (hr:iE w rs ja jn jc)
  (ai2:∀(k:Nat) (hk:k<u.length) (v:Cz) (r:Rs) (rv:jf) (W:World),Ext w W->v.name=u[k].name->dw W u[k].cond v.x.val->v.nu=u[k].gH.length->gK W u[k].gH v.au->kC W r rv->Calls Tryz.prog 75 #[lo.val,.iface 113 (.agg #[.string v.name,v.x.op,.string v.x.name,.slice v.x.aw v.x.nw v.x.cw,v.x.lo,v.x.hi,.slice v.x.aa v.x.na v.x.ca,.slice v.au v.nu v.cu]),rv.val] W (cz (.bool (I8 A u[k].name u[k].cond u[k].gH r)) W)) :
  Calls Tryz.prog 101 #[lo.val,.slice au nu cu,.slice ja jn jc] w (cz (.bool ((qK A u).1 rs)) w):=by
 have HRL:=ai hr.ln;have HR:=ai hr;have HD:=ai hd;have qB:=ai hlen;have HRC:=ai ai2;have ZW:=ZW;obtain⟨Z,hZ⟩:∃Z,Z=(qK A u).1 rs:=⟨_,rfl⟩
 rw[<-hZ];have HZ:=ai hZ;clear hr hd hlen ai2 hZ;unfold fT.val jf.val at HRC;unfold fT.val;obtain⟨wa,cN⟩:∃wa,wa=w.alloc (.cells #[.slice lo.sa lo.sn lo.sc,.map (some lo.bm),.slice lo.fa lo.fn lo.fc] 74):=⟨_,rfl⟩
 have dm:=ai (show Ext w wa by rw[cN];exact(Tz _).alloc _);have HA:=ai (show wa.heap[w.heap.size]?=some (.cells #[.slice lo.sa lo.sn lo.sc,.map (some lo.bm),.slice lo.fa lo.fn lo.fc] 74 (0,0)) by rw[cN];exact bR w _);go_enter Tryz.func101,Tryz.ntmps101
 go_upto_region 1 with fail;rw[<-cN];clear cN;by_cases hne:jn=nu
 case neg =>
  have t1:((jn:Int) != (nu:Int))=true:=by simp;omega
  have HQ:=ai (show Z=false by
   rw[HZ.o];cases hb:(qK A u).1 rs
   ·rfl
   exact a40 (by rw[HRL.o,qB.o];exact aqx A u rs hb) hne)
  clear hne;go_wp2_with fail;go_ret;exact bW HQ.o.symm dm.o
 have t1:((jn:Int) != (nu:Int))=false:=by simp[hne]
 have qP:=ai hne;clear hne;go_wp2_with fail;clear t1;go_loopw [16] (fun i wr=>∃k:Nat,i=.int .i64 k/\k<=nu/\(qK A u).1 rs=(qK A (u.drop k)).1 (rs.drop k)/\Ext wa wr) (fun i _=>nu - (intOf i).toNat)
 case atStart=>exact⟨0,rfl,Nat.zero_le _,rfl,Tz _⟩
 case round =>
  obtain⟨k,rfl,hk,hv,hx⟩:=hrel;have HV:=ai (HZ.o.trans hv);have HX:=ai (dm.o.trans hx);have HB:=ai (hx.blk HA.o);have BO:=ai hx;clear hv hx;by_cases hkn:k<nu
  ·have fq:k<u.length:=by have:=qB.o;omega
   have hkr:k<rs.length:=by have:=HRL.o;have:=qP.o;omega
   have t1:=ag ((k:Int)<(nu:Int));have tk0:(0:Int)<=(k:Int):=by omega
   have tk1:(k:Int)<(jn:Int):=by have:=qP.o;omega
   obtain⟨b,off,rfl,v,Co,hrow,wU,Sg,-,-,PZ⟩:=gK.at u _ (gK.mono HX.o.sub u _ HD.o) k fq;obtain⟨c0,c1,c2,c3,c4,c5,c6,c7⟩:=hrow.eight;obtain⟨br,aVX,rv,rfl,sq,e0,e1,e2,e3,e4,e5⟩:=(HR.o.mono HX.o.sub).nth hkr;have Gl:=ai sq.app;have se:=ai (fun W (hW:Ext wr W)=>HRC.o k fq v rs[k] rv W (HX.o.trans hW) Co (wU.ext hW) Sg (gK.mono hW.sub _ _ PZ) (sq.mono hW.sub));have HST:=ai (ayV A fq hkr);obtain⟨Q,hQ⟩:∃Q,Q=I8 A u[k].name u[k].cond u[k].gH rs[k]:=⟨_,rfl⟩
   rw[<-hQ] at se HST;rw[<-Gl.o] at HST;obtain⟨vn,va,vp,vua,vun,vuc⟩:=rv;simp only at e0 e1 e2 e3 e4 e5 HST se;clear Co hrow wU Sg PZ hQ sq Gl;obtain⟨wb,iV⟩:∃wb,wb=wr.alloc (.cells #[.string v.name,v.x.op,.string v.x.name,.slice v.x.aw v.x.nw v.x.cw,v.x.lo,v.x.hi,.slice v.x.aa v.x.na v.x.ca,.slice v.au v.nu v.cu] 53):=⟨_,rfl⟩
   have jK:=ai (show Ext wr wb by rw[iV];exact(Tz _).alloc _);have VB:wb.heap[wr.heap.size]?=some (.cells #[.string v.name,v.x.op,.string v.x.name,.slice v.x.aw v.x.nw v.x.cw,v.x.lo,v.x.hi,.slice v.x.aa v.x.na v.x.ca,.slice v.au v.nu v.cu] 53 (0,0)):=by rw[iV];exact bR wr _
   have D0:=jK.o.cell e0;have D1:=jK.o.cell e1;have D2:=jK.o.cell e2;have D3:=jK.o.cell e3;have D4:=jK.o.cell e4;have D5:=jK.o.cell e5;go_upto_region 6 with fail;rw[<-iV];clear iV e0 e1 e2 e3 e4 e5 c0 c1 c2 c3 c4 c5 c6 c7;obtain⟨x0,x1,x2,xf⟩:=dM (jK.o.blk HB.o);obtain⟨f0,f1,f2,f3,f4,f5,f6,f7,ff⟩:=oO VB;clear VB;have E0:=bT D0;have E1:=bT D1;have E2:=bT D2;have E3:=bT D3;have E4:=bT D4;have E5:=bT D5;have X0:=bT x0;have X1:=bT x1;have X2:=bT x2;have F0:=bT f0;have F1:=bT f1;have F2:=bT f2;have F3:=bT f3;have F4:=bT f4;have F5:=bT f5;have F6:=bT f6;have F7:=bT f7;clear D0 D1 D2 D3 D4 D5 x0 x1 x2 xf f0 f1 f2 f3 f4 f5 f6 f7 ff;cases va
   case true =>
    have HQ:=ai (show Z=false by rw[HV.o,HST.o];rfl);refine kT 17 ?_
    repeat first|(refine bZ ?_;intro K hK;go_big_quiet_op;go_big_quiet_on)|(refine zX ?_;intro K hK;go_simp;go_big_quiet_on)
    refine gC fun w1 hx1 _ _=>?_
    have dI:=ai (HX.o.trans (jK.o.trans hx1));clear hx1 E0 E1 E2 E3 E4 E5 X0 X1 X2 F0 F1 F2 F3 F4 F5 F6 F7;go_wp2_with fail
    go_ret;exact bW HQ.o.symm dI.o
   refine kT 17 ?_
   repeat (refine bZ ?_;intro K hK;go_big_quiet_op;go_big_quiet_on)
   refine mU (fun W hW=>se.o W (jK.o.trans hW)) ?_;intro K hK;go_simp;go_big_quiet_on
   repeat (refine bZ ?_;intro K hK;go_big_quiet_op;go_big_quiet_on)
   refine gC fun w1 hx1 _ _=>?_
   have dI:=ai (HX.o.trans (jK.o.trans hx1));have dN:=ai (BO.o.trans (jK.o.trans hx1));clear hx1 E0 E1 E2 E3 E4 E5 X0 X1 X2 F0 F1 F2 F3 F4 F5 F6 F7;cases Q
   ·have HQ:=ai (show Z=false by rw[HV.o,HST.o];rfl);go_wp2_with fail
    go_ret;exact bW HQ.o.symm dI.o
   have qO:=ai (show (qK A u).1 rs=(qK A (u.drop (k+1))).1 (rs.drop (k+1)) by rw[<-HZ.o,HV.o,HST.o];rfl);go_wp2_with fail
   go_roundw
   case rel=>exact⟨k+1,by go_num,by omega,qO.o,dN.o⟩
   case measure=>simp[intOf];omega
  have t1:=ah ((k:Int)<(nu:Int));have HQ:=ai (show Z=true by
   rw[HV.o,show k=u.length by have:=qB.o;omega,List.drop_length,show u.length=rs.length by have:=HRL.o;have:=qP.o;have:=qB.o;omega,List.drop_length,qK];rfl)
  go_wp2_with fail;go_ret;exact bW HQ.o.symm HX.o
theorem ala {s:List Attr} {l:List cK} {f:ZI} {lo:fT} {n:Nat} {T:TypeId} {pt:Value} {nm:BA} {x:dK} {au:OA} {nu cu:Nat} {fw fn fu:FuncId} (hpt:aog T pt nm x au nu cu fw fn fu) (cond:Ex) (u:List Wb) (w:World) (h:WU w s l f lo n) (hp:Pd s l cond) (ZW:nu<=1000000) (hlen:nu=u.length) (hex:dw w cond x.val) (hd:gK w u au) {r:Rs} {rv:jf} (hr:kC w r rv) {A:Ex->Pr->Bool} (hA:A=CY s l f)
  (ai2:∀(k:Nat) (hk:k<u.length) (v:Cz) (r:Rs) (rv:jf) (W:World),Ext w W->v.name=u[k].name->dw W u[k].cond v.x.val->v.nu=u[k].gH.length->gK W u[k].gH v.au->kC W r rv->Calls Tryz.prog 75 #[lo.val,.iface 113 (.agg #[.string v.name,v.x.op,.string v.x.name,.slice v.x.aw v.x.nw v.x.cw,v.x.lo,v.x.hi,.slice v.x.aa v.x.na v.x.ca,.slice v.au v.nu v.cu]),rv.val] W (cz (.bool (I8 A u[k].name u[k].cond u[k].gH r)) W)) :
  Calls Tryz.prog 75 #[lo.val,.iface T pt,rv.val] w (cz (.bool (I8 A nm cond u r)) w):=by
 have hck:=lK h.ok;have hsz:=(Bf hp.1).2;obtain⟨rn,ra,rp,ru,pv,ja,jn,jc,rfl,rfl,hjn,hpv,hru⟩:=hr.parts;have HU:=ai (fun W (hW:Ext w W)=>Xa s l f cond x.val lo n W (h.agl.ext hW) (by have:=hck.len;omega) (hex.ext hW) ⟨by omega,hp.2.2.2.2.1⟩ (fun x hx=>⟨by have:=(Bf (hck.good x hx).2.2.1).2;omega,(h.Ca x hx).2.1⟩));have HE:=ai (fun W (hW:Ext w W) (u:List cK) (a:OA) (c:Nat) (hu:Ee l cond u) (hc:cZ W u a u.length c)=>(h.ext hW).verify (hex.ext hW) hp hu hc (hpv.mono hW.sub));rw[<-hA] at HE;obtain⟨U,hU⟩:∃U:List cK->Prop,U=Ee l cond:=⟨_,rfl⟩
 unfold axv at HU;have HU2:=ai (fun W (hW:Ext w W)=>(HU.o W hW).mono (fun r w' (hq:∃u a c,r=.returned (.slice a u.length c)/\cZ w' u a u.length c/\Ee l cond u/\Ext W w')=>by rw[<-hU] at hq;exact hq));rw[<-hU] at HE;have HRC:=ai (fun (r:Rs) (rv:jf) (k:Nat) (hk:k<u.length) (v:Cz) (W:World) (hW:Ext w W)=>ai2 k hk v r rv W hW);have kJ:=ai (fun W (hW:Ext w W)=>aEh (A:=A) (u:=u) (lo:=lo) (cu:=cu) W ZW hlen (gK.mono hW.sub _ _ hd) (hru.mono hW.sub) (fun k hk v r rv W' hW'=>ai2 k hk v r rv W' (hW.trans hW')));have HD:=ai hd;have qB:=ai hlen;have HRU:=ai hru;have HJN:=ai hjn;have HPT:=ai hpt;have hm1:=hpt.mw;have hm2:=hpt.mn;have hm3:=hpt.mu;have he1:=hpt.ew;have he2:=hpt.en;have he3:=hpt.eu;obtain⟨B,hB⟩:∃B,B=A cond rp:=⟨_,rfl⟩
 rw[<-hB] at HE;obtain⟨N,hN⟩:∃N,N=(qK A u).1 ru:=⟨_,rfl⟩
 rw[<-hN] at kJ;have Gi:=ai (show pv.value=rp.value from hpv.parts.1);obtain⟨Z,hZ⟩:∃Z,Z=I8 A nm cond u (.mk rn ra rp ru):=⟨_,rfl⟩
 rw[<-hZ];have HZ:=ai (show Z=(decide (rn=nm)&&B&&(if (!pv.value||u.isEmpty)=true then ra==pv.value&&ru.isEmpty else if ra=true then N else api (qK A u).2 ru)) by rw[hZ,hB,hN,Gi.o];rfl);clear h hp hck hsz hU HU hlen hex hd ai2 hpt hr hpv hru hjn hB hN hZ hA;unfold dK.val fN at HU2 HE;unfold fT.val at HU2 kJ;unfold fT.val at HRC ⊢;unfold jf.val at HRC ⊢;unfold gS.val at HE;obtain⟨pb,pk,pa,pn,pc⟩:=pv;simp only at HE Gi HZ ⊢;obtain⟨b2,hb2⟩:∃b2,b2=w.heap.size:=⟨_,rfl⟩
 obtain⟨wa,cN⟩:∃wa,wa=(w.alloc (.cells #[.slice lo.sa lo.sn lo.sc,.map (some lo.bm),.slice lo.fa lo.fn lo.fc] 74)).alloc (.cells #[.string rn,.bool ra,.bool pb,pk,.slice pa pn pc,.slice ja jn jc] 69):=⟨_,rfl⟩
 have dm:=ai (show Ext w wa by rw[cN];exact((Tz _).alloc _).alloc _);have HA2:=ai (show wa.heap[b2]?=some (.cells #[.slice lo.sa lo.sn lo.sc,.map (some lo.bm),.slice lo.fa lo.fn lo.fc] 74 (0,0)) by rw[cN,hb2];exact bU (bR w _));have HA4:=ai (show wa.heap[b2+1]?=some (.cells #[.string rn,.bool ra,.bool pb,pk,.slice pa pn pc,.slice ja jn jc] 69 (0,0)) by rw[cN,hb2];exact cT (by simp));go_enter Tryz.func75,Tryz.ntmps75
 go_upto_region 1 with fail;rw[<-cN,<-hb2];clear cN hb2;go_wp2_with fail;refine(HPT.o.cw wa).mono ?_;rintro r w1 ⟨rfl,hx1⟩;go_upto_region 2 with fail
 obtain⟨b5,hb5⟩:∃b5,b5=w1.heap.size:=⟨_,rfl⟩
 obtain⟨w2,hw2⟩:∃w2,w2=w1.alloc (.cells #[ x.op,.string x.name,.slice x.aw x.nw x.cw,x.lo,x.hi,.slice x.aa x.na x.ca] 45):=⟨_,rfl⟩
 have hx2:Ext wa w2:=hx1.trans (by rw[hw2];exact(Tz _).alloc _);have HE5:=ai (show w2.heap[b5]?=some (.cells #[ x.op,.string x.name,.slice x.aw x.nw x.cw,x.lo,x.hi,.slice x.aa x.na x.ca] 45 (0,0)) by rw[hw2,hb5];exact bR w1 _);have dN:=ai (dm.o.trans hx2);have H2:=ai (hx2.blk HA2.o);have H4:=ai (hx2.blk HA4.o);rw[<-hw2,<-hb5];clear hw2 hb5 hx1 hx2 dm HA2 HA4;obtain⟨x0,x1,x2,xf⟩:=dM H2.o;obtain⟨f0,f1,f2,f3,f4,f5,ff⟩:=cX HE5.o;obtain⟨r0,r1,r2,r3,r4,r5,rf⟩:=dH H4.o;have C0:=bT x0;have C1:=bT x1;have C2:=bT x2;have D0:=bT f0;have D1:=bT f1;have D2:=bT f2;have D3:=bT f3;have D4:=bT f4;have D5:=bT f5;have E0:=bT r0;have E1:=bT r1;have E2:=bT r2;have E3:=bT r3;have E4:=bT r4;have E5:=bT r5;by_cases hnm:rn=nm
 case neg =>
  have t1:(rn.toList==nm.toList)=false:=by simpa using fun e=>hnm (toList_inj e)
  have HQ:=ai (show Z=false by rw[HZ.o,bP hnm];rfl);clear hnm;refine kT 19 ?_
  repeat (refine bZ ?_;intro K hK;go_big_quiet_op;go_big_quiet_on)
  refine mU (fun W hW=>HPT.o.cn W) ?_;intro K hK;go_simp;go_big_quiet_on
  repeat first|(refine bZ ?_;intro K hK;go_big_quiet_op;go_big_quiet_on)|(refine zX ?_;intro K hK;go_simp;go_big_quiet_on)
  refine gC fun w4 gV _ _=>?_
  have jl:=ai (dN.o.trans gV);clear gV x0 x1 x2 xf f0 f1 f2 f3 f4 f5 ff r0 r1 r2 r3 r4 r5 rf C0 C1 C2 D0 D1 D2 D3 D4 D5 E0 E1 E2 E3 E4 E5;go_wp2_with fail
  go_ret;exact bW HQ.o.symm jl.o
 have t1:(rn.toList==nm.toList)=true:=by simp[hnm]
 have IE:=ai (show Z=(B&&(if (!pb||u.isEmpty)=true then ra==pb&&ru.isEmpty else if ra=true then N else api (qK A u).2 ru)) by rw[HZ.o,bO hnm];rfl);clear hnm HZ;refine kT 19 ?_
 repeat (refine bZ ?_;intro K hK;go_big_quiet_op;go_big_quiet_on)
 refine mU (fun W hW=>HPT.o.cn W) ?_;intro K hK;go_simp;go_big_quiet_on
 repeat (refine bZ ?_;intro K hK;go_big_quiet_op;go_big_quiet_on)
 refine dP (γ:=List cK×OA×Nat) (fun x=>.slice x.2.1 x.1.length x.2.2) (fun x W=>U x.1/\cZ W x.1 x.2.1 x.1.length x.2.2) (fun W hW _ _=>?_) (fun x W W' hx h=>⟨h.1,h.2.ext hx⟩) ?_ ⟨([],none,0)⟩
 ·unfold bQ;go_simp;refine(HU2.o W (dN.o.trans hW)).mono ?_;rintro r w1 ⟨u,a,c,rfl,h1,h2,h3⟩;exact⟨_,rfl,h3,(u,a,c),rfl,h2,h1⟩
 rintro⟨u',a,c⟩ K hK;go_simp;go_big_quiet_on
 repeat (refine bZ ?_;intro K hK;go_big_quiet_op;go_big_quiet_on)
 refine fZ (.bool B) (fun _=>True) (fun W hW h _=>?_) (fun _ _ _ h=>h) ?_
 ·unfold bQ;go_simp;refine(HE.o W (dN.o.trans hW) u' a c h.1 h.2).mono ?_;rintro r w1 ⟨rfl,h3⟩;exact⟨_,rfl,h3,rfl,trivial⟩
 intro K hK;go_simp;go_big_quiet_on
 repeat (refine bZ ?_;intro K hK;go_big_quiet_op;go_big_quiet_on)
 refine gC fun w4 gV _ _=>?_
 have jl:=ai (dN.o.trans gV);have H24:=ai (gV.blk H2.o);have H44:=ai (gV.blk H4.o);clear gV x0 x1 x2 xf f0 f1 f2 f3 f4 f5 ff r0 r1 r2 r3 r4 r5 rf C0 C1 C2 D0 D1 D2 D3 D4 D5 E0 E1 E2 E3 E4 E5 HE HU2 HE5 H2 H4 t1 hm1 hm2 he1 he2 dN;cases B
 ·go_wp2_with fail;go_ret;exact bW (by rw[IE.o];rfl) jl.o
 have HZ3:=ai (show Z=(if (!pb||u.isEmpty)=true then ra==pb&&ru.isEmpty else if ra=true then N else api (qK A u).2 ru) by rw[IE.o];rfl);clear IE;go_wp2_with fail
 refine(HPT.o.cu w4).mono ?_;rintro r w5 ⟨rfl,dh⟩;have gW:=ai (jl.o.trans dh);have H25:=ai (dh.blk H24.o);have H45:=ai (dh.blk H44.o);clear dh jl H24 H44 hm3 he3;obtain⟨x0,x1,x2,xf⟩:=dM H25.o;obtain⟨r0,r1,r2,r3,r4,r5,rf⟩:=dH H45.o;have hemp:(!pb||u.isEmpty)=true->Z=(ra==pb&&ru.isEmpty):=fun h=>by rw[HZ3.o,bM h]
 have aQR:(!pb||u.isEmpty)=false->Z=(if ra=true then N else api (qK A u).2 ru):=fun h=>by rw[HZ3.o,h];rfl
 have hju:ru.isEmpty=((jn:Int)==0):=by
  rw[HJN.o];cases ru
  ·rfl
  simp;omega
 have HEM:=ai hemp;have HFU:=ai aQR;have HJU:=ai hju;clear hemp aQR hju HZ3;cases pb
 case false =>
  have HQ:=ai (show Z=(ra==false&&((jn:Int)==0)) by rw[HEM.o rfl,HJU.o]);obtain⟨J,hJ⟩:∃J,J=((jn:Int)==0):=⟨_,rfl⟩
  rw[<-hJ] at HQ;have t3:=hJ.symm;clear hJ;cases ra
  ·go_wp2_with fail;go_ret;exact bW (by rw[HQ.o];rfl) gW.o
  go_wp2_with fail;go_ret;exact bW (by rw[HQ.o];rfl) gW.o
 by_cases hn0:nu=0
 ·have t2:((nu:Int)==0)=true:=by simp[hn0]
  have HQ:=ai (show Z=(ra==true&&((jn:Int)==0)) by
   rw[HEM.o (by
    have:u=[]:=aR (by have:=qB.o;omega)
    rw[this];rfl),HJU.o])
  obtain⟨J,hJ⟩:∃J,J=((jn:Int)==0):=⟨_,rfl⟩
  rw[<-hJ] at HQ;have t3:=hJ.symm;clear hJ hn0;cases ra
  ·go_wp2_with fail;go_ret;exact bW (by rw[HQ.o];rfl) gW.o
  go_wp2_with fail;go_ret;exact bW (by rw[HQ.o];rfl) gW.o
 have t2:((nu:Int)==0)=false:=by simp;omega
 have HQ:=ai (HFU.o (by
  cases hu:u with
  | nil=>have:=qB.o;rw[hu] at this;simp at this;omega
  | cons y t=>rfl))
 clear hn0 HEM HFU HJU;cases ra
 case true =>
  go_wp2_with fail;refine(kJ.o w5 gW.o).mono ?_;rintro r w6 ⟨rfl,gN⟩;have kR:=ai (gW.o.trans gN);clear gN x0 x1 x2 xf r0 r1 r2 r3 r4 r5 rf;go_wp2_with fail
  go_ret;exact bW (by rw[HQ.o];rfl) kR.o
 have Ro:=ai (show Z=(api (qK A u).2 ru) by rw[HQ.o];rfl);clear HQ kJ;by_cases hj1:jn=1
 case neg =>
  have t3:((jn:Int) != 1)=true:=by simp;omega
  have HQ:=ai (show Z=false by
   rw[Ro.o];have:=HJN.o
   match ru,this with
   | [],_=>rfl
   | [y],h=>exact a40 h hj1
   | _::_::_,_=>rfl)
  clear hj1;go_wp2_with fail;go_ret;exact bW HQ.o.symm gW.o
 have t3:((jn:Int) != 1)=false:=by simp[hj1]
 have tj:(0:Int)<(jn:Int):=by omega
 have hlr:ru.length=1:=by have:=HJN.o;omega
 obtain⟨y,rfl⟩:∃y,ru=[y]:=by
  match ru,hlr with
  | [y],_=>exact⟨y,rfl⟩
 obtain⟨br,aVX,rv,rfl,sq,e0,e1,e2,e3,e4,e5⟩:=(HRU.o.mono gW.o.sub).nth (k:=0) (by simp);have Gl:=ai (show rv.dg=y.dg from sq.app);have CA:=ai (show kC w5 y rv from sq);obtain⟨yn,ya,yp,yua,yun,yuc⟩:=rv;simp only[Nat.zero_mul,Nat.add_zero] at e0 e1 e2 e3 e4 e5 Gl;clear sq hlr hj1 CA;have RT:=ai (show Z=(ya&&(qK A u).2 y) by rw[Ro.o,Gl.o];rfl);clear Ro Gl;cases ya
 case false =>
  go_wp2_with fail;go_ret;exact bW (by rw[RT.o];rfl) gW.o
 have HQ4:=ai (show Z=(qK A u).2 y by rw[RT.o];rfl);clear RT;go_wp2_with fail
 clear x0 x1 x2 xf r0 r1 r2 r3 r4 r5 rf e0 e1 e2 e3 e4 e5 t2 t3;go_loopw [76] (fun i wr=>∃k:Nat,i=.int .i64 k/\k<=nu/\(qK A u).2 y=(qK A (u.drop k)).2 y/\Ext w5 wr) (fun i _=>nu - (intOf i).toNat)
 case atStart=>exact⟨0,rfl,Nat.zero_le _,rfl,Tz _⟩
 case round =>
  obtain⟨k,rfl,hk,hv,hx⟩:=hrel;have HV:=ai (HQ4.o.trans hv);have HX:=ai (gW.o.trans hx);have fY:=ai (hx.blk H25.o);have qD:=ai (hx.blk H45.o);have BO:=ai hx;clear hv hx;by_cases hkn:k<nu
  ·have fq:k<u.length:=by have:=qB.o;omega
   have t1:=ag ((k:Int)<(nu:Int));obtain⟨b,off,rfl,v,Co,hrow,wU,Sg,-,-,PZ⟩:=gK.at u _ (gK.mono HX.o.sub u _ HD.o) k fq;obtain⟨c0,c1,c2,c3,c4,c5,c6,c7⟩:=hrow.eight;obtain⟨_,_,⟨zn,za,zp,zua,zun,zuc⟩,hq,sq,e0,e1,e2,e3,e4,e5⟩:=(HRU.o.mono HX.o.sub).nth (k:=0) (by simp);cases hq
   simp only[Nat.zero_mul,Nat.add_zero] at e0 e1 e2 e3 e4 e5;have se:=ai (fun W (hW:Ext wr W)=>HRC.o y ⟨zn,za,zp,zua,zun,zuc⟩ k fq v W (HX.o.trans hW) Co (wU.ext hW) Sg (gK.mono hW.sub _ _ PZ) (kC.mono sq hW.sub));have HST:=ai (aCS A fq y);obtain⟨Q,hQ⟩:∃Q,Q=I8 A u[k].name u[k].cond u[k].gH y:=⟨_,rfl⟩
   rw[<-hQ] at se HST;clear Co hrow wU Sg PZ hQ sq;obtain⟨wb,iV⟩:∃wb,wb=wr.alloc (.cells #[.string v.name,v.x.op,.string v.x.name,.slice v.x.aw v.x.nw v.x.cw,v.x.lo,v.x.hi,.slice v.x.aa v.x.na v.x.ca,.slice v.au v.nu v.cu] 53):=⟨_,rfl⟩
   have jK:=ai (show Ext wr wb by rw[iV];exact(Tz _).alloc _);have VB:wb.heap[wr.heap.size]?=some (.cells #[.string v.name,v.x.op,.string v.x.name,.slice v.x.aw v.x.nw v.x.cw,v.x.lo,v.x.hi,.slice v.x.aa v.x.na v.x.ca,.slice v.au v.nu v.cu] 53 (0,0)):=by rw[iV];exact bR wr _
   have D0:=jK.o.cell e0;have D1:=jK.o.cell e1;have D2:=jK.o.cell e2;have D3:=jK.o.cell e3;have D4:=jK.o.cell e4;have D5:=jK.o.cell e5;go_upto_region 14 with fail;rw[<-iV];clear iV e0 e1 e2 e3 e4 e5 c0 c1 c2 c3 c4 c5 c6 c7;obtain⟨x0,x1,x2,xf⟩:=dM (jK.o.blk fY.o);obtain⟨r0,r1,r2,r3,r4,r5,rf⟩:=dH (jK.o.blk qD.o);obtain⟨f0,f1,f2,f3,f4,f5,f6,f7,ff⟩:=oO VB;clear VB;have E0:=bT D0;have E1:=bT D1;have E2:=bT D2;have E3:=bT D3;have E4:=bT D4;have E5:=bT D5;have X0:=bT x0;have X1:=bT x1;have X2:=bT x2;have F0:=bT f0;have F1:=bT f1;have F2:=bT f2;have F3:=bT f3;have F4:=bT f4;have F5:=bT f5;have F6:=bT f6;have F7:=bT f7;have R5:=bT r5;clear D0 D1 D2 D3 D4 D5 x0 x1 x2 xf f0 f1 f2 f3 f4 f5 f6 f7 ff r0 r1 r2 r3 r4 r5 rf;refine kT 9 ?_
   repeat (refine bZ ?_;intro K hK;go_big_quiet_op;go_big_quiet_on)
   refine mU (fun W hW=>se.o W (jK.o.trans hW)) ?_;intro K hK;go_simp;go_big_quiet_on
   repeat (refine bZ ?_;intro K hK;go_big_quiet_op;go_big_quiet_on)
   refine gC fun w6 gN _ _=>?_
   have kR:=ai (HX.o.trans (jK.o.trans gN));have rZ:=ai (BO.o.trans (jK.o.trans gN));clear gN E0 E1 E2 E3 E4 E5 X0 X1 X2 F0 F1 F2 F3 F4 F5 F6 F7 R5;cases Q
   ·have qO:=ai (show (qK A u).2 y=(qK A (u.drop (k+1))).2 y by rw[<-HQ4.o,HV.o,HST.o];rfl);go_wp2_with fail
    go_roundw
    case rel=>exact⟨k+1,by go_num,by omega,qO.o,rZ.o⟩
    case measure=>simp[intOf];omega
   go_wp2_with fail;go_ret;exact bW (by rw[HV.o,HST.o];rfl) kR.o
  have t1:=ah ((k:Int)<(nu:Int));have HQ:=ai (show Z=false by
   rw[HV.o,show k=u.length by have:=qB.o;omega,List.drop_length,qK])
  go_wp2_with fail;go_ret;exact bW HQ.o.symm HX.o
theorem azW {s:List Attr} {l:List cK} {f:ZI} {lo:fT} {n:Nat}:∀(m:Nat) (cond:Ex) (u:List Wb) (nm:BA) (x:dK) (au:OA) (nu cu:Nat) (w:World) (r:Rs) (rv:jf),mH u<=m->WU w s l f lo n->Pd s l cond->jY (Pd s l) u->mH u<=1000000->nu=u.length->dw w cond x.val->gK w u au->kC w r rv ->
  Calls Tryz.prog 75 #[lo.val,.iface 113 (.agg #[.string nm,x.op,.string x.name,.slice x.aw x.nw x.cw,x.lo,x.hi,.slice x.aa x.na x.ca,.slice au nu cu]),rv.val] w (cz (.bool (I8 (CY s l f) nm cond u r)) w):=by
 intro m;induction m using Nat.strongRecOn with
 | _ m ih =>
  intro cond u nm x au nu cu w r rv hm h hp hok ZW hlen hex hd hr;have hl:=ql u;refine ala (Sq nm x au nu cu) cond u w h hp (by omega) hlen hex hd hr rfl fun k hk v r rv W hW Co wU Sg PZ hr=>?_
  have hat:=zw u k hk;rw[<-Co];exact ih (mH u[k].gH) (by omega) u[k].cond u[k].gH v.name v.x v.au v.nu v.cu W r rv (aU _) (h.ext hW) (j7 u hok k hk).1 (j7 u hok k hk).2.1 (by omega) Sg wU PZ hr
theorem arK {s:List Attr} {l:List cK} {f:ZI} {lo:fT} {n:Nat} (cond:Ex) (u:List Wb) (kd:Int) (nm:BA) (x:dK) (au:OA) (nu cu:Nat) (am:Int) (w:World) (h:WU w s l f lo n) (hp:Pd s l cond) (hok:jY (Pd s l) u) (hn:mH u<=1000000) (hlen:nu=u.length) (hex:dw w cond x.val) (hd:gK w u au) {r:Rs} {rv:jf} (hr:kC w r rv) :
  Calls Tryz.prog 75 #[lo.val,.iface 81 (.agg #[ kd,.string nm,x.op,.string x.name,.slice x.aw x.nw x.cw,x.lo,x.hi,.slice x.aa x.na x.ca,.slice au nu cu,am]),rv.val] w (cz (.bool (I8 (CY s l f) nm cond u r)) w):=by
 have hl:=ql u;refine ala (adi kd nm x au nu cu am) cond u w h hp (by omega) hlen hex hd hr rfl fun k hk v r rv W hW Co wU Sg PZ hr=>?_
 have hat:=zw u k hk;rw[<-Co];exact azW (mH u[k].gH) u[k].cond u[k].gH v.name v.x v.au v.nu v.cu W r rv (aU _) (h.ext hW) (j7 u hok k hk).1 (j7 u hok k hk).2.1 (by omega) Sg wU PZ hr
theorem Xt {b y:Nat} {K:ZN} (h:y∈[b]):y∈b::K:=by rw[aG.1 h];simp
def RdS (K:ZN) (b:Nat) (lo:fT) (st:Option (List Rs)) (w:World):Prop:=∃(ra:OA) (rn rc:Nat) (wr:Bool),w.heap[b]?=some (.cells #[.slice lo.sa lo.sn lo.sc,.map (some lo.bm),.slice lo.fa lo.fn lo.fc,.slice ra rn rc,.bool wr] 97 (0,0))/\match st with
 | some rs=>wr=false/\iE (mask w (b::K)) rs ra rn rc
 | none=>wr=true
theorem RdS.cR {K:ZN} {b:Nat} {lo:fT} {st:Option (List Rs)} {w w':World} (h:RdS K b lo st w) (hx:Ext w w'):RdS K b lo st w':=by
 obtain⟨ra,rn,rc,wr,h1,h2⟩:=h;refine⟨ra,rn,rc,wr,hx.blk h1,?_⟩;cases st with
 | none=>exact h2
 | some rs=>exact⟨h2.1,h2.2.mono (cF (hx.cR []) (by simp))⟩
theorem iE.tail {w:World} {r:Rs} {t:List Rs} {bl off n c:Nat} (h:iE w (r::t) (some ⟨bl,off,none⟩) n c):iE w t (if c=1 then some ⟨bl,off,none⟩ else some ⟨bl,off+6,none⟩) (n - 1) (c - 1):=by
 obtain⟨vs,h1,h2,h3,h4,h5⟩:=h;cases vs with
 | nil=>have:=h1.1;simp at this
 | cons v vs =>
  refine⟨vs,⟨by simpa using h1.1,fun i g1 g2=>?_⟩,by simp at h2;omega,by omega,by split<;>exact a4Z ⟨_,_,rfl⟩,fun i hi=>?_⟩
  ·have:=h1.2 (i+1) (by simpa using g1) (by simpa using g2)
   rwa [List.getElem_cons_succ,List.getElem_cons_succ] at this
  obtain⟨b',off',e,h6⟩:=h5 (i+1) (by simpa using hi);simp only[a42,Addr.mk.injEq] at e;obtain⟨rfl,rfl,-⟩:=e;rw[bL (by simp at h2;omega)];refine⟨bl,off+6,rfl,fun j hj=>?_⟩;have:=h6 j (by simpa using hj);rw[show off+6+i*6+j=off+(i+1)*6+j by omega];simpa using this
def zRs:jf:=⟨⟨#[]⟩,false,⟨false,0,none,0,0⟩,none,0,0⟩
def aXU (K:ZN) (b:Nat) (lo:fT) (st:Option (List Rs)) (w:World) (e:Ending) (w':World):Prop:=ct [b] w w' /\
 ((∃r t v,st=some (r::t)/\e=.returned (.tuple #[v.val,.bool true])/\kC (mask w' (b::K)) r v/\RdS K b lo (some t) w')\/((∀r t,st≠some (r::t))/\e=.returned (.tuple #[zRs.val,.bool false])/\RdS K b lo none w'))
theorem SR {K:ZN} {b:Nat} {lo:fT} {st:Option (List Rs)} (w:World) (h:RdS K b lo st w):Calls Tryz.prog 74 #[.pointer (some ⟨b,0,none⟩)] w (aXU K b lo st w):=by
 obtain⟨ra,rn,rc,wr,hb,hst⟩:=h;have hbl:=bS hb;obtain⟨wa,cN⟩:∃wa,wa=w.alloc (.cells #[.string ⟨#[]⟩,.bool false,.bool false,.int .i64 0,.slice none 0 0,.slice none 0 0] 69):=⟨_,rfl⟩
 have dm:=ai (show Ext w wa by rw[cN];exact(Tz _).alloc _);have HB:=ai (dm.o.blk hb);have HA:=ai (show wa.heap[w.heap.size]?=some (.cells #[.string ⟨#[]⟩,.bool false,.bool false,.int .i64 0,.slice none 0 0,.slice none 0 0] 69 (0,0)) by rw[cN];exact bR w _);go_enter Tryz.func74,Tryz.ntmps74
 go_upto_region 1 with fail;rw[<-cN];clear cN;obtain⟨k0,k1,k2,k3,k4,kf⟩:=KT HB.o;have wP:=ai (show b<w.heap.size/\b∉[w.heap.size] from⟨hbl,by simp;omega⟩);have arc:(∃r t v bl off,st=some (r::t)/\wr=false/\ra=some ⟨bl,off,none⟩/\rn≠0/\kC (mask w (b::K)) r v/\iE (mask w (b::K)) t (if rc=1 then some ⟨bl,off,none⟩ else some ⟨bl,off+6,none⟩) (rn - 1) (rc - 1)/\rn<=rc/\wa.cell? ⟨bl,off,none⟩=some (.string v.name)/\wa.cell? ⟨bl,off+1,none⟩=some (.bool v.dg)/\wa.cell? ⟨bl,off+2,none⟩=some (.bool v.p.value)/\wa.cell? ⟨bl,off+3,none⟩=some (.int .i64 v.p.pick)/\wa.cell? ⟨bl,off+4,none⟩=some (.slice v.p.a v.p.n v.p.c)/\wa.cell? ⟨bl,off+5,none⟩=some (.slice v.a v.n v.c))\/((∀r t,st≠some (r::t))/\(wr=true\/(wr=false/\rn=0))):=by
  match st,hst with
  | none,h=>exact a4Z ⟨fun r t h=>(by cases h),aoX h⟩
  | some [],h=>exact a4Z ⟨fun r t h=>(by cases h),a4Z ⟨h.1,h.2.ln⟩⟩
  | some (r::t),h =>
   have hm:=h.2;have hle:=hm.ln;obtain⟨bl,off,v,rfl,hr,e0,e1,e2,e3,e4,e5⟩:=hm.nth (k:=0) (by simp);simp only[Nat.zero_mul,Nat.add_zero] at e0 e1 e2 e3 e4 e5;have hs:=cC w (b::K);exact aoX ⟨r,t,v,bl,off,rfl,h.1,rfl,by rw[hle];simp,hr,hm.tail,by obtain⟨_,_,q⟩:=hm;exact q.2.1,dm.o.cell (hs _ _ e0),dm.o.cell (hs _ _ e1),dm.o.cell (hs _ _ e2),dm.o.cell (hs _ _ e3),dm.o.cell (hs _ _ e4),dm.o.cell (hs _ _ e5)⟩
 clear hb hst hbl;rcases arc with ⟨r,t,v,bl,off,rfl,rfl,rfl,hn0,hr,ht,hle,e0,e1,e2,e3,e4,e5⟩|⟨hno,adI⟩
 ·have t1:((rn:Int)==0)=false:=by simp;omega
  have ti:(0:Int)<(rn:Int):=by omega
  have tl:(1:Int)<=(rn:Int):=by omega
  have tc:(rn:Int)<=(rc:Int):=by omega
  have HRR:=ai hr;obtain⟨A,hAd⟩:∃A,A=(if rc=1 then some (⟨bl,off,none⟩:Addr) else some ⟨bl,off+6,none⟩):=⟨_,rfl⟩
  rw[<-hAd] at ht;have WL:=ai ht;have HLE:=ai hle;have HN0:=ai hn0;clear hr ht hle hn0;go_upto_region 5 with fail;obtain⟨w4,hw4⟩:∃w4,w4=wa.alloc (.cells #[.string v.name,.bool v.dg,.bool v.p.value,v.p.pick,.slice v.p.a v.p.n v.p.c,.slice v.a v.n v.c] 69):=⟨_,rfl⟩
  have jl:=ai (show Ext wa w4 by rw[hw4];exact(Tz _).alloc _);have sI:=ai (show w4.heap[wa.heap.size]?=some (.cells #[.string v.name,.bool v.dg,.bool v.p.value,v.p.pick,.slice v.p.a v.p.n v.p.c,.slice v.a v.n v.c] 69 (0,0)) by rw[hw4];exact bR wa _);rw[<-hw4];clear hw4 e0 e1 e2 e3 e4 e5 k0 k1 k2 k3 k4 kf;obtain⟨k0,k1,k2,k3,k4,kf⟩:=KT (jl.o.blk HB.o);go_upto_region 6 with fail
  rw[<-hAd];clear hAd;obtain⟨w5,p9⟩:∃w5,w5=w4.setCell ⟨b,3,none⟩ (.slice A (rn - 1) (rc - 1)):=⟨_,rfl⟩
  have hc5:ct [b] w4 w5:=by rw[p9];exact(ct.refl _ _).setCell (aoX (by simp)) _
  have uo:=ai (show w5.heap[b]?=some (.cells #[.slice lo.sa lo.sn lo.sc,.map (some lo.bm),.slice lo.fa lo.fn lo.fc,.slice A (rn - 1) (rc - 1),.bool false] 97 (0,0)) by rw[p9,aI _ _ _ _ _ _ (jl.o.blk HB.o)];simp);have CU:=ai (hc5.blk sI.o (by have:=wP.o;have:=dm.o.size;simp;omega));have Nn:=ai (hc5.blk (jl.o.blk HA.o) (by have:=wP.o;simp;omega));have pU:=ai (((dm.o.trans jl.o).cR [b]).then hc5);rw[<-p9];clear p9 hc5 k0 k1 k2 k3 k4 kf;obtain⟨r0,r1,r2,r3,r4,r5,rf⟩:=dH CU.o;obtain⟨q0,q1,q2,q3,q4,q5,qf⟩:=dH Nn.o;go_wp2_with fail
  obtain⟨wz,eV⟩:∃wz,wz=fA w5 w.heap.size (.string v.name) (.bool v.dg) (.bool v.p.value) (.int .i64 v.p.pick) (.slice v.p.a v.p.n v.p.c) (.slice v.a v.n v.c):=⟨_,rfl⟩
  have HZ:=ai (show wz.heap[w.heap.size]?=some (.cells #[.string v.name,.bool v.dg,.bool v.p.value,v.p.pick,.slice v.p.a v.p.n v.p.c,.slice v.a v.n v.c] 69 (0,0)) by rw[eV];exact fH Nn.o);have HCZ:=ai (show ct [w.heap.size] w5 wz by rw[eV];exact fe _ _);unfold fA at eV;rw[<-eV];clear eV r0 r1 r2 r3 r4 r5 rf q0 q1 q2 q3 q4 q5 qf;obtain⟨z0,z1,z2,z3,z4,z5,zf⟩:=dH HZ.o;refine a5a (v:=.tuple #[v.val,.bool true]) (by simp[results,Tryz.results74,go_sem,jf.val,z0,z1,z2,z3,z4,z5]) rfl ?_;have U0:=pU.o.trans HCZ.o (fun y hy=>a4Z (by rw[aG.1 hy];exact aU _));have hs:=cF (N:=b::K) U0 (fun y hy=>aoX (Xt hy));exact⟨U0,aoX ⟨r,t,v,rfl,rfl,kC.mono HRR.o hs,_,_,_,_,HCZ.o.blk uo.o wP.o.2,rfl,WL.o.mono hs⟩⟩
 have jH:=ai hno;clear hno;have hgo:((wr=true)\/(wr=false/\((rn:Int)==0)=true)):=adI.imp id (fun h=>⟨h.1,by simp[h.2]⟩);clear adI;rcases hgo with rfl|⟨rfl,t1⟩
 all_goals
  go_upto_region 3 with fail;obtain⟨w3,hw3⟩:∃w3,w3=wa.setCell ⟨b,4,none⟩ (.bool true):=⟨_,rfl⟩
  have hc3:ct [b] wa w3:=by rw[hw3];exact(ct.refl _ _).setCell (aoX (by simp)) _
  have nU:=ai (show w3.heap[b]?=some (.cells #[.slice lo.sa lo.sn lo.sc,.map (some lo.bm),.slice lo.fa lo.fn lo.fc,.slice ra rn rc,.bool true] 97 (0,0)) by rw[hw3,aI _ _ _ _ _ _ HB.o];simp);have oD:=ai ((dm.o.cR [b]).then hc3);have HA3:=ai (hc3.blk HA.o (by have:=wP.o;simp;omega));rw[<-hw3];clear hw3 hc3 k0 k1 k2 k3 k4 kf;obtain⟨r0,r1,r2,r3,r4,r5,rf⟩:=dH HA3.o;go_wp2_with fail
  obtain⟨wz,eV⟩:∃wz,wz=fA w3 w.heap.size (.string ⟨#[]⟩) (.bool false) (.bool false) (.int .i64 0) (.slice none 0 0) (.slice none 0 0):=⟨_,rfl⟩
  have HZ:=ai (show wz.heap[w.heap.size]?=some (.cells #[.string ⟨#[]⟩,.bool false,.bool false,.int .i64 0,.slice none 0 0,.slice none 0 0] 69 (0,0)) by rw[eV];exact fH HA3.o);have HCZ:=ai (show ct [w.heap.size] w3 wz by rw[eV];exact fe _ _);unfold fA at eV;rw[<-eV];clear eV r0 r1 r2 r3 r4 r5 rf;obtain⟨z0,z1,z2,z3,z4,z5,zf⟩:=dH HZ.o;refine a5a (v:=.tuple #[zRs.val,.bool false]) (by simp[results,Tryz.results74,go_sem,zRs,jf.val,z0,z1,z2,z3,z4,z5]) rfl ?_;exact⟨oD.o.trans HCZ.o (fun y hy=>a4Z (by rw[aG.1 hy];exact aU _)),a4Z ⟨jH.o,rfl,_,_,_,_,HCZ.o.blk nU.o wP.o.2,rfl⟩⟩
section
variable {P:Program} {ops:Array Oper} {π:Nat->Nat} {Q:Exit->Act->World->Prop} {m:Nat} {Er:World->World->Prop} {C:World->Prop} {k:Nat} {o:Oper} {r:List Oper} {ac:Act} {Φ FA:World->Prop} {A:Nat->Prop} {gh pf:ZN}
theorem uD {x:Operand} {p:Addr} (hop:o.op=.nilCheck x) (hx:ac.eval x=.pointer (some p)) (h:∀K:Act->Prop,(∀a,Vu P ops π Q m Er C (k+1) r a Φ FA A gh pf->K a)->K (ac.put o.dst (.pointer (some p)))) (hw:Region.wanted o (yielded ops ac.tmps)=true:=by rfl) (hk:Nat.ble (k+1) m=true:=by rfl):Vu P ops π Q m Er C k (o::r) ac Φ FA A gh pf:=by
 intro hl hπ;obtain⟨ho,hd,hr⟩:=XZ hl;obtain⟨t,ht⟩:=h (fun a=>Vu P ops π Q m Er C (k+1) r a Φ FA A gh pf) (fun _ h=>h) hr hπ;exact⟨.plain (.pointer (some p)) t,Nat.le_of_ble_eq_true hk,⟨o,ho,fun W hC=>aoX ⟨hw,aoX (by unfold execOp;rw[hop];simp only[hx];rfl)⟩⟩,by rw[hd];exact ht⟩
end
theorem anG {s:List Attr} {l:List cK} {f:ZI} {lo:fT} {n:Nat} {w:World} (h:WU w s l f lo n) {x:cK} {v:fM} (hp:PdR s l x) (hc:ij w x v) {r:Rs} {rv:jf} (hr:kC w r rv) :
  Calls Tryz.prog 75 #[lo.val,.iface 81 (.agg #[ v.kind,.string v.name,v.x.op,.string v.x.name,.slice v.x.aw v.x.nw v.x.cw,v.x.lo,v.x.hi,.slice v.x.aa v.x.na v.x.ca,.slice v.au v.nu v.cu,v.ck]),rv.val] w (cz (.bool (xE (CY s l f) x r)) w):=by
 obtain⟨c1,c2,c3,c4,c5,c6,c7,c8⟩:=hc;unfold xE;rw[<-c2];exact arK x.cond x.gH v.kind v.name v.x v.au v.nu v.cu v.ck w h hp.1 hp.2.1 hp.2.2 c4 c3 c7 hr
theorem ajV {w W:World} {b:Nat} (hx:Ext w W) (hb:w.heap.size<=b):Sub w (mask W [b]):=fun p v hp=>by
 have hl:=eB hp;rw[eA,bL (fun hm=>by rw[aG.1 hm] at hl;omega)];exact hx.sub p v hp
def RdQ (b:Nat) (lo:fT) (st:Option (List Rs)) (w:World) (e:Ending) (w':World):Prop:=e=.returned (.tuple #[])/\ct [b] w w'/\RdS [] b lo st w'
theorem aCz {A:Ex->Pr->Bool} {cs:List cK} {B:Bool} {st:Option (List Rs)} (h:∀r t,st≠some (r::t)):Ht A cs B st=none:=by
 unfold Ht;split
 ·rename_i r t;exact a40 rfl (h r t)
 rfl
theorem ant {A:Ex->Pr->Bool} {c:cK} {B:Bool} {st:Option (List Rs)} (h:∀r t,st≠some (r::t)):evS A B st c=none:=by
 unfold evS;split
 ·rename_i r t;exact a40 rfl (h r t)
 rfl
theorem xP {w0 w w':World} {b:Nat} (h0:Ext w0 w) (hb:w0.heap.size<=b) (hc:ct [b] w w'):Ext w0 w':=hc.ext h0 (fun y hy=>by rw[aG.1 hy];exact hb)
theorem J4 {s:List Attr} {l:List cK} {f:ZI} {lo:fT} {n b:Nat} {st:Option (List Rs)} (cs:List cK) (ca:OA) (cn cc:Nat) (B:Bool) {w0:World} (w:World) (h:WU w0 s l f lo n) (hx:Ext w0 w) (hb:w0.heap.size<=b) (hs:RdS [] b lo st w) (hl:cZ (mask w [b]) cs ca cn cc) (hp:∀x∈cs,PdR s l x) (hn:cn<=1000000) :
  Calls Tryz.prog 49 #[.pointer (some ⟨b,0,none⟩),.slice ca cn cc,.bool B] w (RdQ b lo (Ht (CY s l f) cs B st) w):=by
 have Gj:=ai (SR w hs);have HM:=ai (fun (k:Nat) (hk:k<cs.length) (v:fM) (r:Rs) (rv:jf) W (hW:Ext w0 W) (hv:ij W cs[k] v) (hr:kC W r rv)=>anG (h.ext hW) (hp _ (aD hk)) hv hr);have qL:b<w.heap.size:=by obtain⟨_,_,_,_,h1,_⟩:=hs;exact bS h1
 obtain⟨A,hA⟩:∃A,A=CY s l f:=⟨_,rfl⟩
 rw[<-hA] at HM ⊢;have HL:=ai hl;have HN:=ai hl.len;have HX:=ai hx;have iO:=ai (And.intro hb qL);clear h hx hb hs hl hp hA qL;unfold fT.val jf.val at HM;go_enter Tryz.func49,Tryz.ntmps49
 go_wp2_with fail;refine Gj.o.mono ?_;rintro e w1 ⟨hc1,⟨r,t,v,rfl,rfl,hr,hst⟩|⟨hno,rfl,hst⟩⟩
 case' inr =>
  have HQ:=ai (show RdQ b lo (Ht A cs B st) w (.returned (.tuple #[])) (w1.alloc (.cells #[.string ⟨#[]⟩,.bool false,.bool false,.int .i64 0,.slice none 0 0,.slice none 0 0] 69)) from⟨rfl,hc1.then (((Tz w1).alloc _).cR _),by rw[aCz hno];exact hst.cR ((Tz w1).alloc _)⟩);clear hc1 hno hst;unfold zRs jf.val;go_wp2_with fail
  refine a5a (v:=.tuple #[]) (by simp[results,Tryz.results49,go_sem]) rfl ?_;exact HQ.o
 obtain⟨rn,ra,rp,ra',rn',rc'⟩:=v;unfold jf.val;go_upto_region 1 with fail;obtain⟨b6,lN⟩:∃b6,b6=w1.heap.size:=⟨_,rfl⟩
 obtain⟨w2,hw2⟩:∃w2,w2=w1.alloc (.cells #[.string rn,.bool ra,.bool rp.value,rp.pick,.slice rp.a rp.n rp.c,.slice ra' rn' rc'] 69):=⟨_,rfl⟩
 have hx2:Ext w1 w2:=by rw[hw2];exact(Tz _).alloc _
 have jO:=ai (show w2.heap[b6]?=some (.cells #[.string rn,.bool ra,.bool rp.value,rp.pick,.slice rp.a rp.n rp.c,.slice ra' rn' rc'] 69 (0,0)) by rw[hw2,lN];exact bR w1 _);have HST:=ai (hst.cR hx2);have iP:=ai (hc1.then (hx2.cR _));have HR:=ai (kC.mono hr ((cC _ _).trans hx2.sub));have Gl:=ai (show ra=r.dg from hr.app);rw[<-hw2,<-lN];clear hw2 lN hx2 hst hc1 hr;have A4:=ai (cZ.mono HL.o (cF (N:=[b]) iP.o (fun y hy=>aoX hy)));have dN:=ai (xP HX.o iO.o.1 iP.o);obtain⟨xa,xn,xc,xw,j6,-,sq⟩:=HST.o;have jm:=ai j6;clear j6 sq;go_wp2_with fail
 go_loopw [19] (fun i wr=>∃k:Nat,i=.int .i64 k/\k<=cn/\(∀c∈cs.take k,(r.dg==B&&xE A c r)=false)/\Ext w2 wr) (fun i _=>cn - (intOf i).toNat)
 case atStart=>exact⟨0,rfl,Nat.zero_le _,by simp,Tz _⟩
 case round =>
  obtain⟨k,rfl,hk,hno,hx⟩:=hrel;have jH:=ai hno;have gZ:=ai hx;clear hno hx;by_cases hkn:k<cn
  ·have fq:k<cs.length:=by have:=HN.o;omega
   have t1:=ag ((k:Int)<(cn:Int));obtain⟨cb,ld,v,rfl,fO,hrow⟩:=(A4.o.mono ((cC _ _).trans gZ.o.sub)).at fq;obtain⟨c0,c1,c2,c3,c4,c5,c6,c7,c8,c9⟩:=hrow.BB;have OO:=ai (fun W (hW:Ext wr W)=>HM.o k fq v r ⟨rn,ra,rp,ra',rn',rc'⟩ W ((dN.o.trans gZ.o).trans hW) (fO.mono hW.sub) (kC.mono HR.o (gZ.o.trans hW).sub));obtain⟨Z,hZ⟩:∃Z,Z=xE A cs[k] r:=⟨_,rfl⟩
   rw[<-hZ] at OO;have uF:=ai (show cs.take (k+1)=cs.take k++[cs[k]] from aO fq);have HZ:=ai hZ;have HCM:=ai (aD fq);clear fO hrow hZ;obtain⟨wb,iV⟩:∃wb,wb=wr.alloc (.cells #[ v.kind,.string v.name,v.x.op,.string v.x.name,.slice v.x.aw v.x.nw v.x.cw,v.x.lo,v.x.hi,.slice v.x.aa v.x.na v.x.ca,.slice v.au v.nu v.cu,v.ck] 48):=⟨_,rfl⟩
   have jK:=ai (show Ext wr wb by rw[iV];exact(Tz _).alloc _);have hbb:=(show wb.heap[wr.heap.size]?=some (.cells #[ v.kind,.string v.name,v.x.op,.string v.x.name,.slice v.x.aw v.x.nw v.x.cw,v.x.lo,v.x.hi,.slice v.x.aa v.x.na v.x.ca,.slice v.au v.nu v.cu,v.ck] 48 (0,0)) by rw[iV];exact bR wr _)
   go_upto_region 5 with fail;rw[<-iV];clear iV c0 c1 c2 c3 c4 c5 c6 c7 c8 c9;obtain⟨x0,x1,x2,x3,x4,xf⟩:=KT ((gZ.o.trans jK.o).blk jm.o);obtain⟨r0,r1,r2,r3,r4,r5,rf⟩:=dH ((gZ.o.trans jK.o).blk jO.o);obtain⟨f0,f1,f2,f3,f4,f5,f6,f7,f8,f9,ff⟩:=rK hbb;have C0:=bT x0;have C1:=bT x1;have C2:=bT x2;have R0:=bT r0;have R1:=bT r1;have R2:=bT r2;have R3:=bT r3;have R4:=bT r4;have R5:=bT r5;have F0:=bT f0;have F1:=bT f1;have F2:=bT f2;have F3:=bT f3;have F4:=bT f4;have F5:=bT f5;have F6:=bT f6;have F7:=bT f7;have F8:=bT f8;have F9:=bT f9;clear x0 x1 x2 x3 x4 xf r0 r1 r2 r3 r4 r5 rf f0 f1 f2 f3 f4 f5 f6 f7 f8 f9 ff hbb;by_cases hab:ra=B
   case neg =>
    have tq:(ra==B)=false:=by simp[hab]
    have HF:=ai (show (r.dg==B&&xE A cs[k] r)=false by rw[<-Gl.o,tq];rfl);clear hab;refine kT 15 ?_
    repeat first|(refine bZ ?_;intro K hK;go_big_quiet_op;go_big_quiet_on)|(refine uD rfl rfl ?_;intro K hK;go_simp;go_big_quiet_on)|(refine zX ?_;intro K hK;go_simp;go_big_quiet_on)
    refine gC fun w3 hx3 _ _=>?_
    have dS:=ai ((gZ.o.trans jK.o).trans hx3);clear hx3 C0 C1 C2 R0 R1 R2 R3 R4 R5 F0 F1 F2 F3 F4 F5 F6 F7 F8 F9;go_wp2_with fail
    go_roundw
    case rel=>exact⟨k+1,by go_num,by omega,fun c hc=>by
     rw[uF.o] at hc;rcases aN.1 hc with h|h
     ·exact jH.o c h
     rw[aG.1 h];exact HF.o,dS.o⟩
    case measure=>simp[intOf];omega
   have tq:(ra==B)=true:=by simp[hab]
   have HAB:=ai (show (r.dg==B)=true by rw[<-Gl.o,tq]);clear hab;refine kT 15 ?_
   repeat first|(refine bZ ?_;intro K hK;go_big_quiet_op;go_big_quiet_on)|(refine uD rfl rfl ?_;intro K hK;go_simp;go_big_quiet_on)
   refine mU (fun W hW=>OO.o W (jK.o.trans hW)) ?_;intro K hK;go_simp;go_big_quiet_on
   repeat first|(refine bZ ?_;intro K hK;go_big_quiet_op;go_big_quiet_on)|(refine uD rfl rfl ?_;intro K hK;go_simp;go_big_quiet_on)
   refine gC fun w3 hx3 _ _=>?_
   have dS:=ai ((gZ.o.trans jK.o).trans hx3);clear hx3 C0 C1 C2 R0 R1 R2 R3 R4 R5 F0 F1 F2 F3 F4 F5 F6 F7 F8 F9;cases Z
   ·have HF:=ai (show (r.dg==B&&xE A cs[k] r)=false by rw[<-HZ.o];simp);go_wp2_with fail
    go_roundw
    case rel=>exact⟨k+1,by go_num,by omega,fun c hc=>by
     rw[uF.o] at hc;rcases aN.1 hc with h|h
     ·exact jH.o c h
     rw[aG.1 h];exact HF.o,dS.o⟩
    case measure=>simp[intOf];omega
   have HQ:=ai (show Ht A cs B (some (r::t))=some t by
    unfold Ht
    show (if (cs.any fun c=>r.dg==B&&xE A c r)=true then some t else none)=_
    rw[bM (List.any_eq_true.2 ⟨cs[k],HCM.o,by rw[HAB.o,<-HZ.o];rfl⟩)])
   go_wp2_with fail;refine a5a (v:=.tuple #[]) (by simp[results,Tryz.results49,go_sem]) rfl ?_;exact⟨rfl,iP.o.then (dS.o.cR _),by rw[HQ.o];exact HST.o.cR dS.o⟩
  have t1:=ah ((k:Int)<(cn:Int));have HQ:=ai (show Ht A cs B (some (r::t))=none by
   unfold Ht
   show (if (cs.any fun c=>r.dg==B&&xE A c r)=true then some t else none)=_
   rw[bL];rw[Bool.not_eq_true,List.any_eq_false];intro c hc;have:=jH.o c (by rw[aS (by have:=HN.o;omega)];exact hc);rw[this];simp)
  obtain⟨x0,x1,x2,x3,x4,xf⟩:=KT (gZ.o.blk jm.o);go_wp2_with fail
  refine a5a (v:=.tuple #[]) (by simp[results,Tryz.results49,go_sem]) rfl ?_;refine⟨rfl,(iP.o.then (gZ.o.cR _)).then ((ct.refl _ _).setCell (aoX (by simp)) _),?_⟩;rw[HQ.o];exact⟨xa,xn,xc,true,by rw[aI _ _ _ _ _ _ (gZ.o.blk jm.o)];simp,rfl⟩
def Db (b:Nat) (W W':World):Prop:=ct [b] W W'/\∀o:Nat,o<4->∀v,W.cell? ⟨b,o,none⟩=some v->W'.cell? ⟨b,o,none⟩=some v
theorem Db.refl (b:Nat) (W:World):Db b W W:=⟨ct.refl _ _,fun _ _ _ h=>h⟩
theorem Db.ext {b:Nat} {W W':World} (h:Ext W W'):Db b W W':=⟨h.cR _,fun _ _ _ q=>h.cell q⟩
theorem Db.trans {b:Nat} {W W' W2:World} (h:Db b W W') (k:Db b W' W2):Db b W W2:=⟨h.1.then k.1,fun o ho v q=>k.2 o ho v (h.2 o ho v q)⟩
theorem Db.put (W:World) (b:Nat) (u:Value):Db b W (W.setCell ⟨b,4,none⟩ u):=⟨(ct.refl _ _).setCell (aoX (by simp)) _,fun o ho v q=>by
 rw[World.cell?_setCell_other _ _ _ _ (fun e=>by simp only[Addr.mk.injEq] at e;omega)];exact q⟩
instance (b:Nat) (w:World):Nonempty (WIn (Db b w)):=⟨⟨w,Db.refl b w⟩⟩
theorem lz {b:Nat} {w:World} {p:Addr} {v:Value} (h:w.cell? p=some v) (hp:p.block∉[b]):∀τ:WIn (Db b w),τ.1.cell? p=some v:=fun τ=>τ.2.1.cell h hp
theorem Ut {b o:Nat} {w:World} {v:Value} (h:w.cell? ⟨b,o,none⟩=some v) (ho:o<4):∀τ:WIn (Db b w),τ.1.cell? ⟨b,o,none⟩=some v:=fun τ=>τ.2.2 o ho v h
theorem afv {K:ZN} {b:Nat} {lo:fT} {w:World} {xa:OA} {xn xc:Nat} {xw q:Bool} {st:Option (List Rs)} (h:w.heap[b]?=some (.cells #[.slice lo.sa lo.sn lo.sc,.map (some lo.bm),.slice lo.fa lo.fn lo.fc,.slice xa xn xc,.bool xw] 97 (0,0))) (hq:(q=false/\∃t,st=some t/\iE (mask w (b::K)) t xa xn xc)\/(q=true/\st=none)):RdS K b lo st (w.setCell ⟨b,4,none⟩ (.bool q)):=by
 refine⟨xa,xn,xc,q,by rw[aI _ _ _ _ _ _ h];simp,?_⟩;rcases hq with ⟨rfl,t,rfl,ht⟩|⟨rfl,rfl⟩
 ·exact⟨rfl,ht.mono (cF ((ct.refl _ _).setCell (aoX (by simp)) _) (fun y hy=>aoX (Xt hy)))⟩
 rfl
theorem anu (A:Ex->Pr->Bool) (B:Bool) (st:Option (List Rs)) (cs:List cK) (c:cK):oq A (cs++[c]) B st=evS A B (oq A cs B st) c:=by
 unfold oq;rw[List.foldl_append]
 rfl
theorem aIg {A:Ex->Pr->Bool} {B:Bool} {st:Option (List Rs)} {cs ds es:List cK} {c:cK} (h:∀r t,oq A ds B st≠some (r::t)) (hc:cs=ds++c::es):oq A cs B st=none:=by
 rw[hc];unfold oq;rw[List.foldl_append,aX]
 show es.foldl (evS A B) (evS A B (oq A ds B st) c)=none
 rw[ant h,aeb]
theorem IP {s:List Attr} {l:List cK} {f:ZI} {lo:fT} {n b:Nat} {st:Option (List Rs)} (cs:List cK) (ca:OA) (cn cc:Nat) (B:Bool) {w0:World} (w:World) (h:WU w0 s l f lo n) (hx:Ext w0 w) (hb:w0.heap.size<=b) (hs:RdS [] b lo st w) (hl:cZ (mask w [b]) cs ca cn cc) (hp:∀x∈cs,PdR s l x) (hn:cn<=1000000) :
  Calls Tryz.prog 48 #[.pointer (some ⟨b,0,none⟩),.slice ca cn cc,.bool B] w (RdQ b lo (oq (CY s l f) cs B st) w):=by
 have HM:=ai (fun (k:Nat) (hk:k<cs.length) (v:fM) (r:Rs) (rv:jf) W (hW:Ext w0 W) (hv:ij W cs[k] v) (hr:kC W r rv)=>anG (h.ext hW) (hp _ (aD hk)) hv hr);have qL:b<w.heap.size:=by obtain⟨_,_,_,_,h1,_⟩:=hs;exact bS h1
 obtain⟨A,hA⟩:∃A,A=CY s l f:=⟨_,rfl⟩
 rw[<-hA] at HM ⊢;have HL:=ai hl;have HN:=ai hl.len;have HX:=ai hx;have iO:=ai (And.intro hb qL);have wN:=ai hs;clear h hx hb hs hl hp hA qL;unfold fT.val jf.val at HM;go_enter Tryz.func48,Tryz.ntmps48
 go_wp2_with fail;go_loopw [12] (fun i wr=>∃k:Nat,i=.int .i64 k/\k<=cn/\RdS [] b lo (oq A (cs.take k) B st) wr/\ct [b] w wr) (fun i _=>cn - (intOf i).toNat)
 case atStart=>exact⟨0,rfl,Nat.zero_le _,wN.o,ct.refl _ _⟩
 case round =>
  obtain⟨k,rfl,hk,hst,hc⟩:=hrel;have HST:=ai hst;have HC:=ai hc;clear hst hc;by_cases hkn:k<cn
  ·have fq:k<cs.length:=by have:=HN.o;omega
   have t1:=ag ((k:Int)<(cn:Int));obtain⟨cb,ld,v,rfl,fO,hrow⟩:=(cZ.mono HL.o (cF (N:=[b]) HC.o (fun y hy=>aoX hy))).at fq;obtain⟨c0,c1,c2,c3,c4,c5,c6,c7,c8,c9⟩:=(hrow.mono (cC _ _)).BB;have OO:=ai (fun (r:Rs) (rv:jf) W (hW:ct [b] wr W) (hr:kC W r rv)=>HM.o k fq v r rv W (xP HX.o iO.o.1 (HC.o.then hW)) ((fO.mono (cF hW (fun y hy=>aoX hy))).mono (cC _ _)) hr);have uF:=ai (show cs.take (k+1)=cs.take k++[cs[k]] from aO fq);have YJ:=ai (show cs=cs.take k++cs[k]::cs.drop (k+1) by rw[<-List.drop_eq_getElem_cons fq,List.take_append_drop]);obtain⟨y,hy⟩:∃y,y=cs[k]:=⟨_,rfl⟩
   rw[<-hy] at OO uF YJ;clear hrow hy;obtain⟨bk,hbk⟩:∃bk,bk=wr.heap.size:=⟨_,rfl⟩
   obtain⟨wb,iV⟩:∃wb,wb=wr.alloc (.cells #[ v.kind,.string v.name,v.x.op,.string v.x.name,.slice v.x.aw v.x.nw v.x.cw,v.x.lo,v.x.hi,.slice v.x.aa v.x.na v.x.ca,.slice v.au v.nu v.cu,v.ck] 48):=⟨_,rfl⟩
   have hxb:Ext wr wb:=by rw[iV];exact(Tz _).alloc _
   have HBK:=ai (show wb.heap[bk]?=some (.cells #[ v.kind,.string v.name,v.x.op,.string v.x.name,.slice v.x.aw v.x.nw v.x.cw,v.x.lo,v.x.hi,.slice v.x.aa v.x.na v.x.ca,.slice v.au v.nu v.cu,v.ck] 48 (0,0)) by rw[iV,hbk];exact bR wr _);have si:=ai (HC.o.then (hxb.cR _));have jK:=ai hxb;have vt:=ai (show bk∉[b] by have:=iO.o.2;have:=HC.o.size;simp;omega);have Gj:=ai (SR wb (HST.o.cR hxb));go_upto_region 3 with fail
   rw[<-iV,<-hbk];clear iV hbk hxb fO c0 c1 c2 c3 c4 c5 c6 c7 c8 c9;go_wp2_with fail;refine Gj.o.mono ?_;rintro e w1 ⟨hc1,⟨r,t,rv,hsk,rfl,hr,hst⟩|⟨hno,rfl,hst⟩⟩
   case' inr =>
    have HQ:=ai (show RdQ b lo (oq A cs B st) w (.returned (.tuple #[])) (w1.alloc (.cells #[.string ⟨#[]⟩,.bool false,.bool false,.int .i64 0,.slice none 0 0,.slice none 0 0] 69)) from⟨rfl,si.o.then (hc1.then (((Tz w1).alloc _).cR _)),by rw[aIg hno YJ.o];exact hst.cR ((Tz w1).alloc _)⟩);clear hc1 hno hst;unfold zRs jf.val;go_wp2_with fail
    refine a5a (v:=.tuple #[]) (by simp[results,Tryz.results48,go_sem]) rfl ?_;exact HQ.o
   have Na:=ai hsk;clear hsk;obtain⟨xa,xn,xc,xw,j6,-,sq⟩:=id hst;have CA:=ai sq;obtain⟨rn,ra,rp,ra',rn',rc'⟩:=rv;unfold jf.val;go_upto_region 4 with fail;obtain⟨b6,lN⟩:∃b6,b6=w1.heap.size:=⟨_,rfl⟩
   obtain⟨w2,hw2⟩:∃w2,w2=w1.alloc (.cells #[.string rn,.bool ra,.bool rp.value,rp.pick,.slice rp.a rp.n rp.c,.slice ra' rn' rc'] 69):=⟨_,rfl⟩
   have hx2:Ext w1 w2:=by rw[hw2];exact(Tz _).alloc _
   have jO:=ai (show w2.heap[b6]?=some (.cells #[.string rn,.bool ra,.bool rp.value,rp.pick,.slice rp.a rp.n rp.c,.slice ra' rn' rc'] 69 (0,0)) by rw[hw2,lN];exact bR w1 _);have Yr:=ai (show b6∉[b]/\w.heap.size<=b6 by have:=iO.o.2;have:=si.o.size;have:=hc1.size;simp;omega);have iP:=ai (si.o.then (hc1.then (hx2.cR _)));have aGl:=ai (hx2.blk (hc1.blk HBK.o vt.o));have jm:=ai (hx2.blk j6);have M8:=ai (hst.cR hx2);have HRM:=ai (fun W (hW:ct [b] w2 W)=>sq.mono (cF ((hx2.cR [b]).then hW) (fun y hy=>aoX (Xt hy))));have Gl:=ai (show ra=r.dg from hr.app);rw[<-hw2,<-lN];have aok:=ai (fun W (hW:ct [b] w2 W)=>OO.o r ⟨rn,ra,rp,ra',rn',rc'⟩ W (((jK.o.cR [b]).then (hc1.then (hx2.cR _))).then hW) (kC.mono hr ((cF ((hx2.cR [b]).then hW) (fun y hy=>aoX (Xt hy))).trans (cC _ _))));have aF7:=ai (show ct [b] wr w2 from(jK.o.cR [b]).then (hc1.then (hx2.cR _)));clear hw2 lN hx2 hst hc1 hr j6 sq;go_upto_region 5 with fail
   obtain⟨x0,x1,x2,x3,x4,xf⟩:=KT jm.o;obtain⟨r0,r1,r2,r3,r4,r5,rf⟩:=dH jO.o;obtain⟨f0,f1,f2,f3,f4,f5,f6,f7,f8,f9,ff⟩:=rK aGl.o;have C0:=Ut (b:=b) x0 (by decide);have C1:=Ut (b:=b) x1 (by decide);have C2:=Ut (b:=b) x2 (by decide);have R0:=lz r0 Yr.o.1;have R1:=lz r1 Yr.o.1;have R2:=lz r2 Yr.o.1;have R3:=lz r3 Yr.o.1;have R4:=lz r4 Yr.o.1;have R5:=lz r5 Yr.o.1;have F0:=lz f0 vt.o;have F1:=lz f1 vt.o;have F2:=lz f2 vt.o;have F3:=lz f3 vt.o;have F4:=lz f4 vt.o;have F5:=lz f5 vt.o;have F6:=lz f6 vt.o;have F7:=lz f7 vt.o;have F8:=lz f8 vt.o;have F9:=lz f9 vt.o;clear x0 x1 x2 x3 x4 xf r0 r1 r2 r3 r4 r5 rf f0 f1 f2 f3 f4 f5 f6 f7 f8 f9 ff;obtain⟨Z,hZ⟩:∃Z,Z=xE A y r:=⟨_,rfl⟩
   rw[<-hZ] at aok;have HZ:=ai hZ;clear hZ;by_cases hab:ra=B
   case neg =>
    have tq:(ra==B)=false:=by simp[hab]
    have HF:=ai (show (r.dg==B&&xE A y r)=false by rw[<-Gl.o,tq];rfl);clear hab;refine kG (m:=20) (Er:=Db b) (C:=Db b w2) (Φ:=fun W=>W.heap[b]?=some (.cells #[.slice lo.sa lo.sn lo.sc,.map (some lo.bm),.slice lo.fa lo.fn lo.fc,.slice xa xn xc,.bool xw] 97 (0,0))) (Db.refl b) (fun _ _ h=>Db.ext h) (fun _ _ h q=>h.trans q) (Db.ext (Tz w2).drew) ((Tz w2).drew.blk jm.o) (fun _ _ hx h=>hx.blk h) ?_
    repeat first|(refine bZ ?_;intro K hK;go_big_quiet_op;go_big_quiet_on)|(refine uD rfl rfl ?_;intro K hK;go_simp;go_big_quiet_on)|(refine zX ?_;intro K hK;go_simp;go_big_quiet_on)
    refine fZ undef (fun W=>RdS [] b lo (oq A (cs.take (k+1)) B st) W) (fun W hW h _=>?_) (fun _ _ hx h=>h.cR hx) ?_
    ·obtain⟨z0,z1,z2,z3,z4,zf⟩:=KT h;have HP:=ai (afv (K:=[]) (q:=true) (st:=oq A (cs.take (k+1)) B st) h (by rw[uF.o,anu,Na.o];exact a4Z ⟨rfl,by show (if (r.dg==B&&xE A y r)=true then some t else none)=none;rw[HF.o];rfl⟩));have HE:=ai (Db.put W b (.bool true));clear h;unfold bQ;go_simp;exact⟨HE.o,rfl,HP.o⟩
    intro K hK;go_simp;go_big_quiet_on;refine gC fun w4 gV hy4 _=>?_
    have oY:=ai hy4;have mo:=ai (show ct [b] w2 w4 from gV.1);clear gV hy4 C0 C1 C2 R0 R1 R2 R3 R4 R5 F0 F1 F2 F3 F4 F5 F6 F7 F8 F9;go_wp2_with fail
    go_roundw
    case rel=>exact⟨k+1,by go_num,by omega,oY.o,iP.o.then mo.o⟩
    case measure=>simp[intOf];omega
   have tq:(ra==B)=true:=by simp[hab]
   have HAB:=ai (show (r.dg==B)=true by rw[<-Gl.o,tq]);clear hab;cases Z
   ·refine kG (m:=20) (Er:=Db b) (C:=Db b w2) (Φ:=fun W=>W.heap[b]?=some (.cells #[.slice lo.sa lo.sn lo.sc,.map (some lo.bm),.slice lo.fa lo.fn lo.fc,.slice xa xn xc,.bool xw] 97 (0,0))) (Db.refl b) (fun _ _ h=>Db.ext h) (fun _ _ h q=>h.trans q) (Db.ext (Tz w2).drew) ((Tz w2).drew.blk jm.o) (fun _ _ hx h=>hx.blk h) ?_
    repeat first|(refine bZ ?_;intro K hK;go_big_quiet_op;go_big_quiet_on)|(refine uD rfl rfl ?_;intro K hK;go_simp;go_big_quiet_on)
    refine fZ (.bool false) (fun W=>W.heap[b]?=some (.cells #[.slice lo.sa lo.sn lo.sc,.map (some lo.bm),.slice lo.fa lo.fn lo.fc,.slice xa xn xc,.bool xw] 97 (0,0))) (fun W hW h _=>?_) (fun _ _ hx h=>hx.blk h) ?_
    ·unfold bQ;go_simp;refine(aok.o W hW.1).mono ?_;rintro e wz ⟨rfl,hz⟩;exact⟨_,rfl,Db.ext hz,rfl,hz.blk h⟩
    intro K hK;go_simp;go_big_quiet_on
    repeat first|(refine bZ ?_;intro K hK;go_big_quiet_op;go_big_quiet_on)|(refine uD rfl rfl ?_;intro K hK;go_simp;go_big_quiet_on)
    refine fZ undef (fun W=>RdS [] b lo (oq A (cs.take (k+1)) B st) W) (fun W hW h _=>?_) (fun _ _ hx h=>h.cR hx) ?_
    ·obtain⟨z0,z1,z2,z3,z4,zf⟩:=KT h;have HP:=ai (afv (K:=[]) (q:=true) (st:=oq A (cs.take (k+1)) B st) h (by rw[uF.o,anu,Na.o];exact a4Z ⟨rfl,by show (if (r.dg==B&&xE A y r)=true then some t else none)=none;rw[<-HZ.o,HAB.o];rfl⟩));have HE:=ai (Db.put W b (.bool true));clear h;unfold bQ;go_simp;exact⟨HE.o,rfl,HP.o⟩
    intro K hK;go_simp;go_big_quiet_on;refine gC fun w4 gV hy4 _=>?_
    have oY:=ai hy4;have mo:=ai (show ct [b] w2 w4 from gV.1);clear gV hy4 C0 C1 C2 R0 R1 R2 R3 R4 R5 F0 F1 F2 F3 F4 F5 F6 F7 F8 F9;go_wp2_with fail
    go_roundw
    case rel=>exact⟨k+1,by go_num,by omega,oY.o,iP.o.then mo.o⟩
    case measure=>simp[intOf];omega
   refine kG (m:=20) (Er:=Db b) (C:=Db b w2) (Φ:=fun W=>W.heap[b]?=some (.cells #[.slice lo.sa lo.sn lo.sc,.map (some lo.bm),.slice lo.fa lo.fn lo.fc,.slice xa xn xc,.bool xw] 97 (0,0))) (Db.refl b) (fun _ _ h=>Db.ext h) (fun _ _ h q=>h.trans q) (Db.ext (Tz w2).drew) ((Tz w2).drew.blk jm.o) (fun _ _ hx h=>hx.blk h) ?_
   repeat first|(refine bZ ?_;intro K hK;go_big_quiet_op;go_big_quiet_on)|(refine uD rfl rfl ?_;intro K hK;go_simp;go_big_quiet_on)
   refine fZ (.bool true) (fun W=>W.heap[b]?=some (.cells #[.slice lo.sa lo.sn lo.sc,.map (some lo.bm),.slice lo.fa lo.fn lo.fc,.slice xa xn xc,.bool xw] 97 (0,0))) (fun W hW h _=>?_) (fun _ _ hx h=>hx.blk h) ?_
   ·unfold bQ;go_simp;refine(aok.o W hW.1).mono ?_;rintro e wz ⟨rfl,hz⟩;exact⟨_,rfl,Db.ext hz,rfl,hz.blk h⟩
   intro K hK;go_simp;go_big_quiet_on
   repeat first|(refine bZ ?_;intro K hK;go_big_quiet_op;go_big_quiet_on)|(refine uD rfl rfl ?_;intro K hK;go_simp;go_big_quiet_on)
   refine fZ undef (fun W=>RdS [] b lo (oq A (cs.take (k+1)) B st) W) (fun W hW h _=>?_) (fun _ _ hx h=>h.cR hx) ?_
   ·obtain⟨z0,z1,z2,z3,z4,zf⟩:=KT h;have HP:=ai (afv (K:=[]) (q:=false) (st:=oq A (cs.take (k+1)) B st) h (by rw[uF.o,anu,Na.o];exact aoX ⟨rfl,t,by show (if (r.dg==B&&xE A y r)=true then some t else none)=some t;rw[<-HZ.o,HAB.o];rfl,HRM.o W hW.1⟩));have HE:=ai (Db.put W b (.bool false));clear h;unfold bQ;go_simp;exact⟨HE.o,rfl,HP.o⟩
   intro K hK;go_simp;go_big_quiet_on;refine gC fun w4 gV hy4 _=>?_
   have oY:=ai hy4;have mo:=ai (show ct [b] w2 w4 from gV.1);clear gV hy4 C0 C1 C2 R0 R1 R2 R3 R4 R5 F0 F1 F2 F3 F4 F5 F6 F7 F8 F9;go_wp2_with fail
   go_roundw
   case rel=>exact⟨k+1,by go_num,by omega,oY.o,iP.o.then mo.o⟩
   case measure=>simp[intOf];omega
  have t1:=ah ((k:Int)<(cn:Int));have HQ:=ai (show cs.take k=cs from aS (by have:=HN.o;omega));go_wp2_with fail
  refine a5a (v:=.tuple #[]) (by simp[results,Tryz.results48,go_sem]) rfl ?_;exact⟨rfl,HC.o,by have:=HST.o;rwa [HQ.o] at this⟩
def aSn (b:Nat) (lo:fT) (X:Option (List Rs×List cK)) (m:Nat) (w:World) (e:Ending) (w':World):Prop:=ct [b] w w'/\∃(F:List cK) (a:OA) (c:Nat),e=.returned (.slice a F.length c)/\cZ w' F a F.length c/\F.length<=m/\RdS [] b lo (X.map Prod.fst) w'/\∀q,X=some q->F=q.2
theorem Ms (A:Ex->Pr->Bool) (st:Option (List Rs)) (cs:List cK) (c:cK):RF A (cs++[c]) st=apS A (RF A cs st) c:=by
 unfold RF;rw[List.foldl_append]
 rfl
theorem axq {A:Ex->Pr->Bool} {st:Option (List Rs)} {cs ds es:List cK} {c:cK} (h:∀r t,(RF A ds st).map Prod.fst≠some (r::t)) (hc:cs=ds++c::es):RF A cs st=none:=by
 rw[hc];unfold RF at h ⊢;rw[List.foldl_append,aX];have:apS A (ds.foldl (apS A) (st.map fun rs=>(rs,[]))) c=none:=by
  revert h
  generalize ds.foldl (apS A) (st.map fun rs=>(rs,[]))=X;intro h
  match X,h with
  | none,_=>rfl
  | some ([],f),_=>rfl
  | some (r::t,f),h=>exact a40 rfl (h r t)
 rw[this,aeg]
theorem awB {b:Nat} {lo:fT} {st:Option (List Rs)} {w w':World} {v v':Value} (h:RdS (rowOf v) b lo st w) (hc:ct (rowOf v) w w') (hg:∀k,v'.ownBlock=some k->v.ownBlock=some k\/w.heap.size<=k) (hb:∀q∈rowOf v,b<q):RdS (rowOf v') b lo st w':=by
 obtain⟨ra,rn,rc,wr,h1,h2⟩:=h;refine⟨ra,rn,rc,wr,hc.blk h1 (fun hm=>by have:=hb _ hm;omega),?_⟩;cases st with
 | none=>exact h2
 | some rs =>
  have hk:=yD (bd:=b) (M:=[]) hc hg;rw[List.append_nil,List.append_nil] at hk;exact⟨h2.1,h2.2.mono hk⟩
theorem RdS.less {K:ZN} {b:Nat} {lo:fT} {st:Option (List Rs)} {w:World} (h:RdS K b lo st w):RdS [] b lo st w:=by
 obtain⟨ra,rn,rc,wr,h1,h2⟩:=h;refine⟨ra,rn,rc,wr,h1,?_⟩;cases st with
 | none=>exact h2
 | some rs=>exact⟨h2.1,h2.2.mono (cM _ (fun y hy=>Xt hy))⟩
theorem afy {s:List Attr} {l:List cK} {f:ZI} {lo:fT} {n b:Nat} {st:Option (List Rs)} (cs:List cK) (vs0:List fM) (ca:OA) (cn cc:Nat) {w0:World} (w:World) (h:WU w0 s l f lo n) (hx:Ext w0 w) (hb:w0.heap.size<=b) (hs:RdS [] b lo st w) (hcr0:vG w0 cs vs0) (hrw:eE (mask w [b]) 10 fM.cells vs0 ca cn cc) (hp:∀x∈cs,PdR s l x) (hn:cn<=1000000) :
  Calls Tryz.prog 50 #[.pointer (some ⟨b,0,none⟩),.slice ca cn cc] w (aSn b lo (RF (CY s l f) cs st) cs.length w):=by
 have HM:=ai (fun (k:Nat) (hk:k<cs.length) (v:fM) (r:Rs) (rv:jf) W (hW:Ext w0 W) (hv:ij W cs[k] v) (hr:kC W r rv)=>anG (h.ext hW) (hp _ (aD hk)) hv hr);have qL:b<w.heap.size:=by obtain⟨_,_,_,_,h1,_⟩:=hs;exact bS h1
 obtain⟨A,hA⟩:∃A,A=CY s l f:=⟨_,rfl⟩
 rw[<-hA] at HM ⊢;have aUp:=ai hcr0;have yM:=ai hrw;have HN:=ai (show cn=cs.length by rw[hrw.1,hcr0.1]);have HX:=ai hx;have iO:=ai (And.intro hb qL);have wN:=ai hs;clear h hx hb hs hcr0 hrw hp hA qL;unfold fT.val jf.val at HM;go_enter Tryz.func50,Tryz.ntmps50
 go_wp2_with fail;go_loopw [5,12] (fun lv i wr=>∃(k:Nat) (vs:List fM) (F:List cK),i=.int .i64 k/\k<=cn/\F.length<=k/\vG w0 F vs/\wr.ownsRow w.heap.size 48 10 lv F.length (vs.flatMap fM.cells)/\ct [b] w wr/\RdS (rowOf lv) b lo ((RF A (cs.take k) st).map Prod.fst) wr/\∀q,RF A (cs.take k) st=some q->F=q.2) (fun _ i _=>cn - (intOf i).toNat)
 case atStart=>exact⟨0,[],[],rfl,by omega,by simp,⟨rfl,fun i h=>by simp at h⟩,a4' _ _ _ _,ct.refl _ _,by cases st<;>exact wN.o,fun q hq=>by
  cases st with
  | none=>cases hq
  | some rs =>
   have:(rs,([]:List cK))=q:=by simpa[RF] using hq
   rw[<-this]⟩
 case round =>
  obtain⟨k,vs,F,rfl,hk,hfl,hcr,how,hc,hst,hF⟩:=hrel;obtain⟨la,lc,hlv⟩:=lF how;subst hlv;have HST:=ai hst;have HC:=ai hc;have xW:=ai hcr;have HOW:=ai how;have HFX:=ai hF;clear hst hc hcr how hF;by_cases hkn:k<cn
  ·have fq:k<cs.length:=by have:=HN.o;omega
   have t1:=ag ((k:Int)<(cn:Int));have hkv:k<vs0.length:=by have:=aUp.o.1;omega
   obtain⟨cb,ld,rfl,hrow⟩:∃cb ld,ca=some ⟨cb,ld,none⟩/\EM (mask wr [b]) cb (ld+k*10) vs0[k].cells:=by
    obtain⟨b',o',e,h⟩:=(yM.o.mono (cF (N:=[b]) HC.o (fun y hy=>aoX hy))).2.2.2 k hkv;exact⟨b',o',e,h⟩
   have fO:=aUp.o.2 k fq hkv;obtain⟨v,hv⟩:∃v,v=vs0[k]:=⟨_,rfl⟩
   rw[<-hv] at hrow fO;clear hv;have qC:=ai fO;obtain⟨c0,c1,c2,c3,c4,c5,c6,c7,c8,c9⟩:=(hrow.mono (cC _ _)).BB;have OO:=ai (fun (r:Rs) (rv:jf) W (hW:ct [b] wr W) (hr:kC W r rv)=>HM.o k fq v r rv W (xP HX.o iO.o.1 (HC.o.then hW)) (fO.mono (xP HX.o iO.o.1 (HC.o.then hW)).sub) hr);have uF:=ai (show cs.take (k+1)=cs.take k++[cs[k]] from aO fq);have YJ:=ai (show cs=cs.take k++cs[k]::cs.drop (k+1) by rw[<-List.drop_eq_getElem_cons fq,List.take_append_drop]);obtain⟨y,hy⟩:∃y,y=cs[k]:=⟨_,rfl⟩
   have aUr:=ai (show ij w0 y v by rw[hy];exact qC.o);rw[<-hy] at OO uF YJ;clear hrow hy;obtain⟨bk,hbk⟩:∃bk,bk=wr.heap.size:=⟨_,rfl⟩
   obtain⟨wb,iV⟩:∃wb,wb=wr.alloc (.cells #[ v.kind,.string v.name,v.x.op,.string v.x.name,.slice v.x.aw v.x.nw v.x.cw,v.x.lo,v.x.hi,.slice v.x.aa v.x.na v.x.ca,.slice v.au v.nu v.cu,v.ck] 48):=⟨_,rfl⟩
   have hxb:Ext wr wb:=by rw[iV];exact(Tz _).alloc _
   have HBK:=ai (show wb.heap[bk]?=some (.cells #[ v.kind,.string v.name,v.x.op,.string v.x.name,.slice v.x.aw v.x.nw v.x.cw,v.x.lo,v.x.hi,.slice v.x.aa v.x.na v.x.ca,.slice v.au v.nu v.cu,v.ck] 48 (0,0)) by rw[iV,hbk];exact bR wr _);have si:=ai (HC.o.then (hxb.cR _));have jK:=ai hxb;have vt:=ai (show bk∉[b] by have:=iO.o.2;have:=HC.o.size;simp;omega);have Gj:=ai (SR wb (HST.o.cR hxb));go_upto_region 5 with fail
   rw[<-iV,<-hbk];clear iV hbk hxb fO c0 c1 c2 c3 c4 c5 c6 c7 c8 c9;go_wp2_with fail;refine Gj.o.mono ?_;rintro e w1 ⟨hc1,⟨r,t,rv,hsk,rfl,hr,hst⟩|⟨hno,rfl,hst⟩⟩
   case' inr =>
    have HQ:=ai (show aSn b lo (RF A cs st) cs.length w (.returned (.slice none 0 0)) (w1.alloc (.cells #[.string ⟨#[]⟩,.bool false,.bool false,.int .i64 0,.slice none 0 0,.slice none 0 0] 69)) from⟨si.o.then (hc1.then (((Tz w1).alloc _).cR _)),[],none,0,rfl,⟨[],⟨rfl,aU _,aoX ⟨rfl,rfl⟩,fun i h=>by simp at h⟩,rfl,fun i h=>by simp at h⟩,by simp,by rw[axq hno YJ.o];exact(hst.cR ((Tz w1).alloc _)).less,by rw[axq hno YJ.o];intro q hq;cases hq⟩);clear hc1 hno hst;unfold zRs jf.val;go_wp2_with fail
    go_ret;exact HQ.o
   obtain⟨X1,hX1⟩:∃X1,X1=apS A (RF A (cs.take k) st) y:=⟨_,rfl⟩
   have dN:=ai hX1;have zi:=ai (show X1=if xE A y r=true then some (t,if r.dg=true then F++[y] else F) else none by
    obtain⟨q,hq,hq2⟩:=Option.map_eq_some_iff.1 hsk;have:=HFX.o q hq;rw[hX1,hq,show q=(r::t,F) from Prod.ext hq2 this.symm]
    rfl)
   clear hsk hX1;obtain⟨xa,xn,xc,xw,j6,-,sq⟩:=id hst;have CA:=ai sq;obtain⟨rn,ra,rp,ra',rn',rc'⟩:=rv;unfold jf.val;go_upto_region 6 with fail;obtain⟨b6,lN⟩:∃b6,b6=w1.heap.size:=⟨_,rfl⟩
   obtain⟨w2,hw2⟩:∃w2,w2=w1.alloc (.cells #[.string rn,.bool ra,.bool rp.value,rp.pick,.slice rp.a rp.n rp.c,.slice ra' rn' rc'] 69):=⟨_,rfl⟩
   have hx2:Ext w1 w2:=by rw[hw2];exact(Tz _).alloc _
   have jO:=ai (show w2.heap[b6]?=some (.cells #[.string rn,.bool ra,.bool rp.value,rp.pick,.slice rp.a rp.n rp.c,.slice ra' rn' rc'] 69 (0,0)) by rw[hw2,lN];exact bR w1 _);have Yr:=ai (show b6∉[b]/\w.heap.size<=b6 by have:=iO.o.2;have:=si.o.size;have:=hc1.size;simp;omega);have iP:=ai (si.o.then (hc1.then (hx2.cR _)));have aGl:=ai (hx2.blk (hc1.blk HBK.o vt.o));have jm:=ai (hx2.blk j6);have M8:=ai (hst.cR hx2);have HRM:=ai (fun W (hW:ct [b] w2 W)=>sq.mono (cF ((hx2.cR [b]).then hW) (fun y hy=>aoX (Xt hy))));have Gl:=ai (show ra=r.dg from hr.app);rw[<-hw2,<-lN];have aok:=ai (fun W (hW:ct [b] w2 W)=>OO.o r ⟨rn,ra,rp,ra',rn',rc'⟩ W (((jK.o.cR [b]).then (hc1.then (hx2.cR _))).then hW) (kC.mono hr ((cF ((hx2.cR [b]).then hW) (fun y hy=>aoX (Xt hy))).trans (cC _ _))));have aF7:=ai (show ct [b] wr w2 from(jK.o.cR [b]).then (hc1.then (hx2.cR _)));clear hw2 lN hx2 hst hc1 hr j6 sq;go_upto_region 8 with fail
   obtain⟨x0,x1,x2,x3,x4,xf⟩:=KT jm.o;obtain⟨r0,r1,r2,r3,r4,r5,rf⟩:=dH jO.o;obtain⟨f0,f1,f2,f3,f4,f5,f6,f7,f8,f9,ff⟩:=rK aGl.o;have C0:=Ut (b:=b) x0 (by decide);have C1:=Ut (b:=b) x1 (by decide);have C2:=Ut (b:=b) x2 (by decide);have R0:=lz r0 Yr.o.1;have R1:=lz r1 Yr.o.1;have R2:=lz r2 Yr.o.1;have R3:=lz r3 Yr.o.1;have R4:=lz r4 Yr.o.1;have R5:=lz r5 Yr.o.1;have F0:=lz f0 vt.o;have F1:=lz f1 vt.o;have F2:=lz f2 vt.o;have F3:=lz f3 vt.o;have F4:=lz f4 vt.o;have F5:=lz f5 vt.o;have F6:=lz f6 vt.o;have F7:=lz f7 vt.o;have F8:=lz f8 vt.o;have F9:=lz f9 vt.o;clear x0 x1 x2 x3 x4 xf r0 r1 r2 r3 r4 r5 rf f0 f1 f2 f3 f4 f5 f6 f7 f8 f9 ff;obtain⟨Z,hZ⟩:∃Z,Z=xE A y r:=⟨_,rfl⟩
   rw[<-hZ] at aok zi;clear hZ;cases Z
   ·have dI:=ai (show X1.map Prod.fst=none by rw[zi.o];rfl);have dS:=ai (show ∀q,X1=some q->(if r.dg=true then F++[y] else F)=q.2 by rw[zi.o];intro q hq;cases hq);refine kG (m:=14) (Er:=Db b) (C:=Db b w2) (Φ:=fun W=>W.heap[b]?=some (.cells #[.slice lo.sa lo.sn lo.sc,.map (some lo.bm),.slice lo.fa lo.fn lo.fc,.slice xa xn xc,.bool xw] 97 (0,0))) (Db.refl b) (fun _ _ h=>Db.ext h) (fun _ _ h q=>h.trans q) (Db.ext (Tz w2).drew) ((Tz w2).drew.blk jm.o) (fun _ _ hx h=>hx.blk h) ?_
    repeat first|(refine bZ ?_;intro K hK;go_big_quiet_op;go_big_quiet_on)|(refine uD rfl rfl ?_;intro K hK;go_simp;go_big_quiet_on)
    refine fZ (.bool false) (fun W=>W.heap[b]?=some (.cells #[.slice lo.sa lo.sn lo.sc,.map (some lo.bm),.slice lo.fa lo.fn lo.fc,.slice xa xn xc,.bool xw] 97 (0,0))) (fun W hW h _=>?_) (fun _ _ hx h=>hx.blk h) ?_
    ·unfold bQ;go_simp;refine(aok.o W hW.1).mono ?_;rintro e wz ⟨rfl,hz⟩;exact⟨_,rfl,Db.ext hz,rfl,hz.blk h⟩
    intro K hK;go_simp;go_big_quiet_on
    repeat first|(refine bZ ?_;intro K hK;go_big_quiet_op;go_big_quiet_on)|(refine uD rfl rfl ?_;intro K hK;go_simp;go_big_quiet_on)
    refine fZ undef (fun W=>RdS (rowOf (.slice la F.length lc)) b lo (X1.map Prod.fst) W) (fun W hW h _=>?_) (fun _ _ hx h=>h.cR hx) ?_
    ·obtain⟨z0,z1,z2,z3,z4,zf⟩:=KT h;have HP:=ai (afv (K:=(rowOf (.slice la F.length lc))) (q:=true) (st:=X1.map Prod.fst) h (by exact a4Z ⟨rfl,dI.o⟩));have HE:=ai (Db.put W b (.bool true));clear h;unfold bQ;go_simp;exact⟨HE.o,rfl,HP.o⟩
    intro K hK;go_simp;go_big_quiet_on;refine gC fun w4 gV hy4 _=>?_
    have oY:=ai hy4;have mo:=ai (show ct [b] w2 w4 from gV.1);clear gV hy4 C0 C1 C2 R0 R1 R2 R3 R4 R5 F0 F1 F2 F3 F4 F5 F6 F7 F8 F9;have Em:=ai (cO HOW.o (aF7.o.then mo.o) (fun q hq hm=>by rw[aG.1 hm] at hq;have:=(HOW.o.lt b hq).1;have:=iO.o.2;omega));have nS:=ai (iP.o.then mo.o);obtain⟨r0,r1,r2,r3,r4,r5,rf⟩:=dH (mo.o.blk jO.o Yr.o.1);obtain⟨f0,f1,f2,f3,f4,f5,f6,f7,f8,f9,ff⟩:=rK (mo.o.blk aGl.o vt.o);have hsz:=nS.o.size;cases ra
    ·go_wp2_with fail;go_roundw
     case rel=>exact⟨k+1,vs,F,by go_num,by omega,by omega,xW.o,Em.o,nS.o,by rw[uF.o,Ms,<-dN.o];exact oY.o,by
      rw[uF.o,Ms,<-dN.o];intro q hq;have:=dS.o q hq;rw[<-Gl.o] at this;simpa using this⟩
     case measure=>simp[intOf];omega
    go_wp2_with (at_builtin;refine dA nr rfl _ _ rfl w.heap.size _ F.length _ rfl Em.o _ 1 1 rfl ?f0 rfl ?f1 ?f2 ?f3 hsz ?_)
    case f0=>simp
    case f1=>simp[Value.oneCell']
    case f2=>unfold maxLen;omega
    case f3=>omega
    intro v8 w8 dY iI gX;have zo:=ai dY;have CM:=ai (show ct [b] w w8 from nS.o.trans iI (fun q hq=>a4Z (Em.o.lt q (bV.1 hq)).1));have Ik:=ai (awB oY.o iI gX (fun q hq=>by have:=(Em.o.lt q (bV.1 hq)).1;have:=iO.o.2;omega));clear dY iI gX f0 f1 f2 f3 f4 f5 f6 f7 f8 f9 ff;go_wp2_with fail
    go_roundw
    case rel=>exact⟨k+1,vs++[v],F++[y],by go_num,by omega,by simp;omega,xW.o.snoc aUr.o,by simpa[fM.cells] using zo.o,CM.o,by rw[uF.o,Ms,<-dN.o];exact Ik.o,by
     rw[uF.o,Ms,<-dN.o];intro q hq;have:=dS.o q hq;rw[<-Gl.o] at this;simpa using this⟩
    case measure=>simp[intOf];omega
   have dI:=ai (show X1.map Prod.fst=some t by rw[zi.o];rfl);have dS:=ai (show ∀q,X1=some q->(if r.dg=true then F++[y] else F)=q.2 by
    rw[zi.o];intro q hq;have e:(t,if r.dg=true then F++[y] else F)=q:=by simpa using hq
    rw[<-e])
   refine kG (m:=14) (Er:=Db b) (C:=Db b w2) (Φ:=fun W=>W.heap[b]?=some (.cells #[.slice lo.sa lo.sn lo.sc,.map (some lo.bm),.slice lo.fa lo.fn lo.fc,.slice xa xn xc,.bool xw] 97 (0,0))) (Db.refl b) (fun _ _ h=>Db.ext h) (fun _ _ h q=>h.trans q) (Db.ext (Tz w2).drew) ((Tz w2).drew.blk jm.o) (fun _ _ hx h=>hx.blk h) ?_
   repeat first|(refine bZ ?_;intro K hK;go_big_quiet_op;go_big_quiet_on)|(refine uD rfl rfl ?_;intro K hK;go_simp;go_big_quiet_on)
   refine fZ (.bool true) (fun W=>W.heap[b]?=some (.cells #[.slice lo.sa lo.sn lo.sc,.map (some lo.bm),.slice lo.fa lo.fn lo.fc,.slice xa xn xc,.bool xw] 97 (0,0))) (fun W hW h _=>?_) (fun _ _ hx h=>hx.blk h) ?_
   ·unfold bQ;go_simp;refine(aok.o W hW.1).mono ?_;rintro e wz ⟨rfl,hz⟩;exact⟨_,rfl,Db.ext hz,rfl,hz.blk h⟩
   intro K hK;go_simp;go_big_quiet_on
   repeat first|(refine bZ ?_;intro K hK;go_big_quiet_op;go_big_quiet_on)|(refine uD rfl rfl ?_;intro K hK;go_simp;go_big_quiet_on)
   refine fZ undef (fun W=>RdS (rowOf (.slice la F.length lc)) b lo (X1.map Prod.fst) W) (fun W hW h _=>?_) (fun _ _ hx h=>h.cR hx) ?_
   ·obtain⟨z0,z1,z2,z3,z4,zf⟩:=KT h;have HP:=ai (afv (K:=(rowOf (.slice la F.length lc))) (q:=false) (st:=X1.map Prod.fst) h (by exact aoX ⟨rfl,t,dI.o,HRM.o W hW.1⟩));have HE:=ai (Db.put W b (.bool false));clear h;unfold bQ;go_simp;exact⟨HE.o,rfl,HP.o⟩
   intro K hK;go_simp;go_big_quiet_on;refine gC fun w4 gV hy4 _=>?_
   have oY:=ai hy4;have mo:=ai (show ct [b] w2 w4 from gV.1);clear gV hy4 C0 C1 C2 R0 R1 R2 R3 R4 R5 F0 F1 F2 F3 F4 F5 F6 F7 F8 F9;have Em:=ai (cO HOW.o (aF7.o.then mo.o) (fun q hq hm=>by rw[aG.1 hm] at hq;have:=(HOW.o.lt b hq).1;have:=iO.o.2;omega));have nS:=ai (iP.o.then mo.o);obtain⟨r0,r1,r2,r3,r4,r5,rf⟩:=dH (mo.o.blk jO.o Yr.o.1);obtain⟨f0,f1,f2,f3,f4,f5,f6,f7,f8,f9,ff⟩:=rK (mo.o.blk aGl.o vt.o);have hsz:=nS.o.size;cases ra
   ·go_wp2_with fail;go_roundw
    case rel=>exact⟨k+1,vs,F,by go_num,by omega,by omega,xW.o,Em.o,nS.o,by rw[uF.o,Ms,<-dN.o];exact oY.o,by
     rw[uF.o,Ms,<-dN.o];intro q hq;have:=dS.o q hq;rw[<-Gl.o] at this;simpa using this⟩
    case measure=>simp[intOf];omega
   go_wp2_with (at_builtin;refine dA nr rfl _ _ rfl w.heap.size _ F.length _ rfl Em.o _ 1 1 rfl ?p0 rfl ?p1 ?p2 ?p3 hsz ?_)
   case p0=>simp
   case p1=>simp[Value.oneCell']
   case p2=>unfold maxLen;omega
   case p3=>omega
   intro v8 w8 dY iI gX;have zo:=ai dY;have CM:=ai (show ct [b] w w8 from nS.o.trans iI (fun q hq=>a4Z (Em.o.lt q (bV.1 hq)).1));have Ik:=ai (awB oY.o iI gX (fun q hq=>by have:=(Em.o.lt q (bV.1 hq)).1;have:=iO.o.2;omega));clear dY iI gX f0 f1 f2 f3 f4 f5 f6 f7 f8 f9 ff;go_wp2_with fail
   go_roundw
   case rel=>exact⟨k+1,vs++[v],F++[y],by go_num,by omega,by simp;omega,xW.o.snoc aUr.o,by simpa[fM.cells] using zo.o,CM.o,by rw[uF.o,Ms,<-dN.o];exact Ik.o,by
    rw[uF.o,Ms,<-dN.o];intro q hq;have:=dS.o q hq;rw[<-Gl.o] at this;simpa using this⟩
   case measure=>simp[intOf];omega
  have t1:=ah ((k:Int)<(cn:Int));have HQ:=ai (show cs.take k=cs from aS (by have:=HN.o;omega));have vC:=xW.o.1;have hown:=HOW.o;rw[vC] at hown;obtain⟨a',c',hv,hr⟩:=eE.iZ fM.len hown;simp only[a45] at hv;obtain⟨rfl,-,rfl⟩:=hv;have WR:=ai (show cZ wr F la F.length lc from⟨vs,by rw[vC];exact hr,vC,fun i q1 q2=>(xW.o.2 i q1 q2).mono (xP HX.o iO.o.1 HC.o).sub⟩);clear hown hr vC;go_wp2_with fail
  go_ret;exact⟨HC.o,F,_,_,rfl,WR.o,by have:=HN.o;omega,by have:=HST.o.less;rwa [HQ.o] at this,by have:=HFX.o;rwa [HQ.o] at this⟩
end Go.Proofs.YtefjomofjejklaaGreatDoor
