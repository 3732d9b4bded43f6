/- Joined. -/
import Derived.Test.YtefjomofjejklaaGreatDoorDs15
namespace Go.Proofs.YtefjomofjejklaaGreatDoor
set_option maxRecDepth 100000
set_option maxHeartbeats 32000000
open Go.RowKit Go.Maps
structure aog (T:TypeId) (p:Value) (nm:BA) (x:dK) (au:OA) (nu cu:Nat) (fw fn fu:FuncId):Prop where
 mw:∀(n:Nat) (W:World),(method (n+1) T p "treaty/decide.when").run Tryz.prog W=.ok (fw,p) W
 mn:∀(n:Nat) (W:World),(method (n+1) T p "treaty/decide.name").run Tryz.prog W=.ok (fn,p) W
 mu:∀(n:Nat) (W:World),(method (n+1) T p "treaty/decide.unless").run Tryz.prog W=.ok (fu,p) W
 ew:∀W,Sem.run Tryz.prog (callFunc fw #[p]) W=.ok (.enter fw #[p]) W
 en:∀W,Sem.run Tryz.prog (callFunc fn #[p]) W=.ok (.enter fn #[p]) W
 eu:∀W,Sem.run Tryz.prog (callFunc fu #[p]) W=.ok (.enter fu #[p]) W
 cw:∀W,Calls Tryz.prog fw #[p] W (cz (.agg #[ x.op,.string x.name,.slice x.aw x.nw x.cw,x.lo,x.hi,.slice x.aa x.na x.ca]) W)
 cn:∀W,Calls Tryz.prog fn #[p] W (cz (.string nm) W)
 cu:∀W,Calls Tryz.prog fu #[p] W (cz (.slice au nu cu) W)
theorem Vv (nm:BA) (x:dK) (au:OA) (nu cu:Nat) (w:World):Calls Tryz.prog 228 #[.agg #[.string nm,x.op,.string x.name,.slice x.aw x.nw x.cw,x.lo,x.hi,.slice x.aa x.na x.ca,.slice au nu cu]] w (cz (.string nm) w):=by
 obtain⟨wa,cN⟩:∃wa,wa=w.alloc (.cells #[.string nm,x.op,.string x.name,.slice x.aw x.nw x.cw,x.lo,x.hi,.slice x.aa x.na x.ca,.slice au nu cu] 113):=⟨_,rfl⟩
 have dm:=ai (show Ext w wa by rw[cN];exact(Tz _).alloc _);obtain⟨f0,f1,f2,f3,f4,f5,f6,f7,ff⟩:=oO (show wa.heap[w.heap.size]?=some (.cells #[.string nm,x.op,.string x.name,.slice x.aw x.nw x.cw,x.lo,x.hi,.slice x.aa x.na x.ca,.slice au nu cu] 113 (0,0)) by rw[cN];exact bR w _);go_enter Tryz.func228,Tryz.ntmps228
 go_upto_region 1 with fail;rw[<-cN];clear cN;go_wp2_with fail;go_ret;exact⟨rfl,dm.o⟩
theorem adt (n:Nat) (nm:BA) (x:dK) (au:OA) (nu cu:Nat) (W:World):(method (n+1) 113 (.agg #[.string nm,x.op,.string x.name,.slice x.aw x.nw x.cw,x.lo,x.hi,.slice x.aa x.na x.ca,.slice au nu cu]) "treaty/decide.name").run Tryz.prog W=.ok (228,.agg #[.string nm,x.op,.string x.name,.slice x.aw x.nw x.cw,x.lo,x.hi,.slice x.aa x.na x.ca,.slice au nu cu]) W:=by kernel_rfl
theorem Sq (nm:BA) (x:dK) (au:OA) (nu cu:Nat):aog 113 (.agg #[.string nm,x.op,.string x.name,.slice x.aw x.nw x.cw,x.lo,x.hi,.slice x.aa x.na x.ca,.slice au nu cu]) nm x au nu cu 230 228 229 :=
 ⟨fun n W=>QU n nm x au nu cu W,fun n W=>adt n nm x au nu cu W,fun n W=>LA n nm x au nu cu W,fun W=>by kernel_rfl,fun W=>by kernel_rfl,fun W=>by kernel_rfl,fun W=>Ip nm x au nu cu W,fun W=>Vv nm x au nu cu W,fun W=>EB nm x au nu cu W⟩
theorem ab5 (kd:Int) (nm:BA) (x:dK) (au:OA) (nu cu:Nat) (am:Int) (w:World):Calls Tryz.prog 225 #[.agg #[ kd,.string nm,x.op,.string x.name,.slice x.aw x.nw x.cw,x.lo,x.hi,.slice x.aa x.na x.ca,.slice au nu cu,am]] w (cz (.string nm) w):=by
 obtain⟨wa,cN⟩:∃wa,wa=w.alloc (.cells #[ kd,.string nm,x.op,.string x.name,.slice x.aw x.nw x.cw,x.lo,x.hi,.slice x.aa x.na x.ca,.slice au nu cu,am] 81):=⟨_,rfl⟩
 have dm:=ai (show Ext w wa by rw[cN];exact(Tz _).alloc _);obtain⟨f0,f1,f2,f3,f4,f5,f6,f7,f8,f9,ff⟩:=rB (show wa.heap[w.heap.size]?=some (.cells #[ kd,.string nm,x.op,.string x.name,.slice x.aw x.nw x.cw,x.lo,x.hi,.slice x.aa x.na x.ca,.slice au nu cu,am] 81 (0,0)) by rw[cN];exact bR w _);go_enter Tryz.func225,Tryz.ntmps225
 go_upto_region 1 with fail;rw[<-cN];clear cN;go_wp2_with fail;go_ret;exact⟨rfl,dm.o⟩
theorem anX (n:Nat) (kd:Int) (nm:BA) (x:dK) (au:OA) (nu cu:Nat) (am:Int) (W:World):(method (n+1) 81 (.agg #[ kd,.string nm,x.op,.string x.name,.slice x.aw x.nw x.cw,x.lo,x.hi,.slice x.aa x.na x.ca,.slice au nu cu,am]) "treaty/decide.name").run Tryz.prog W=.ok (225,.agg #[ kd,.string nm,x.op,.string x.name,.slice x.aw x.nw x.cw,x.lo,x.hi,.slice x.aa x.na x.ca,.slice au nu cu,am]) W:=by kernel_rfl
theorem adi (kd:Int) (nm:BA) (x:dK) (au:OA) (nu cu:Nat) (am:Int):aog 81 (.agg #[ kd,.string nm,x.op,.string x.name,.slice x.aw x.nw x.cw,x.lo,x.hi,.slice x.aa x.na x.ca,.slice au nu cu,am]) nm x au nu cu 227 225 226 :=
 ⟨fun n W=>aaD n kd nm x au nu cu am W,fun n W=>anX n kd nm x au nu cu am W,fun n W=>T4 n kd nm x au nu cu am W,fun W=>by kernel_rfl,fun W=>by kernel_rfl,fun W=>by kernel_rfl,fun W=>OD kd nm x au nu cu am W,fun W=>ab5 kd nm x au nu cu am W,fun W=>KR kd nm x au nu cu am W⟩
theorem kC.app {w:World} {r:Rs} {v:jf} (h:kC w r v):v.dg=r.dg:=by cases h;rfl
theorem aeo {s:List Attr} {l:List cK}:(u:List Wb)->(d:Nat)->mh d u=true->fG s l u=0->eH l u=false->nY u->jY (Pd s l) u
 | [],_,_,_,_,_=>by unfold jY;trivial
 | .mk n c u::r,d,h1,h2,h3,h4=>by
  rw[mh] at h1;simp only[aF] at h1;obtain⟨⟨⟨⟨_,_⟩,g1⟩,g2⟩,g3⟩:=h1;rw[fG] at h2;by_cases k1:dr s l c≠0
  ·rw[bM k1] at h2;exact a40 h2 k1
  rw[bL k1] at h2;by_cases k2:fG s l u≠0
  ·rw[bM k2] at h2;exact a40 h2 k2
  rw[bL k2] at h2;rw[eH] at h3;simp only[Bool.or_eq_false_iff,bI] at h3;obtain⟨⟨q1,q2⟩,q3⟩:=h3;rw[nY] at h4;obtain⟨_,f1,f2,f3,f4,f5,f6⟩:=h4;unfold jY;exact⟨⟨g1,by simpa using k1,by omega,f2,f1,f3⟩,aeo u (d - 1) g2 (by simpa using k2) q2 f5,f4,aeo r d g3 h2 q3 f6⟩
theorem aum {s:List Attr} {l:List cK} (h:(cV s l).2=0) (hok:∀x∈l,x.fit):∀x∈l,PdC s l x:=by
 have hc:=lK h;have hcb:=Vg h;unfold cV at h;rw[bL (by simp[hc.x7]),bL (by have:=hc.len;omega)] at h;by_cases h3:(kZ (jE s l) l.length).2≠0
 ·rw[bM h3] at h;exact a40 h h3
 rw[bL h3] at h;by_cases h4:¬vZ (l.map cK.tV)
 ·rw[bM h4] at h;simp at h
 rw[bL h4] at h;have h1:=kO l.length (by simpa using h3);have h2:=kO l.length h;intro x hx;obtain⟨f1,f2,f3,f4,f5,f6⟩:=hok x hx;obtain⟨_,g2,g3,_,_⟩:=hc.good x hx;have hb:=hcb x hx;have hxp:=hc.exp x hx;obtain⟨i,hi,rfl⟩:=bA hx;have k1:=h1 i hi;have k2:=h2 i hi;unfold jE at k1;unfold jQ at k2;rw[ry hi] at k1 k2;rw[bL (by simp[hb])] at k1;by_cases q2:(findAt l l[i].name).getD 0<i
 ·rw[bM q2] at k1;cases k1
 rw[bL q2] at k1;by_cases q3:(eO s l[i].name).isSome
 ·rw[bM q3] at k1;cases k1
 rw[bL q3,bL (by simp[g2])] at k1;by_cases q5:2000<dV l l[i].cond\/eH l l[i].gH=true
 ·rw[bM q5] at k2;cases k2
 simp only[not_or] at q5;refine⟨⟨g3,g2,hxp,f3,f2,f4⟩,?_,f5⟩;simp only[gQ,aF,bG,aH,a47] at hb;obtain⟨⟨_,a5⟩,_⟩:=hb;rcases a5 with a5|⟨⟨_,_⟩,b3⟩
 ·rw[aR a5];unfold jY;trivial
 exact aeo _ _ b3 k1 (by simpa using q5.2) f6
theorem qN {s:List Attr} {l:List cK} {f:ZI} (h:jP s l f=0):(cV s l).2=0/\jU s f=true:=by
 unfold jP at h;by_cases h1:(cV s l).2≠0
 ·rw[bM h1] at h;exact a40 h h1
 rw[bL h1] at h;cases hf:jU s f
 ·rw[hf] at h;simp at h
 exact⟨by simpa using h1,rfl⟩
theorem BI {ks:ZI} {l:List cK} {x:cK} (h:x∈kS ks l):x∈l:=(List.mem_filter.1 h).1
noncomputable def mS (s:List Attr) (l:List cK) (f:ZI):rT:=open Classical in if jP s l f=0 then CN (val s l f) l else ⟨0,0,0,0,0,false⟩
noncomputable def ahh (s:List Attr) (l:List cK) (f:ZI):Value:=.tuple #[.agg (mS s l f).cells,.int .i64 (jP s l f)]
theorem ac9 {L:List cK} (p:cK->Bool) {k:Nat} (hk:k<L.length):(L.take (k+1)).filter p=if p L[k]=true then (L.take k).filter p++[L[k]] else (L.take k).filter p:=by
 rw[aO hk,List.filter_append,List.filter_cons];cases p L[k]<;>simp
theorem sF (s:List Attr) (l:List cK) (f:ZI) (sv:Value) (a:OA) (n c:Nat) (fa:OA) (fn fc:Nat) (w:World) (hs:dB w s sv) (hf:∀x∈s,x.fits) (hsl:s.length<=1000000000000000) (hl:cZ w l a n c) (hn:n<=1000000) (hok:∀x∈l,x.fit) (hi:dG w f fa fn) (hfn:fn<=1000000000000000) (ho:dQ w) :
  Calls Tryz.prog 13 #[sv,.slice a n c,.slice fa fn fc] w (cz (ahh s l f) w):=by
 obtain⟨sa,sn,sc,rfl,B6⟩:=hs.slice;have qw:=ai (fun W (hW:Ext w W)=>KM s l f _ a n c fa fn fc W (hs.ext hW) hf hsl (hl.ext hW) hn hok (hi.ext hW) hfn (ho.ext hW));have HDI:=ai (fun (h0:jP s l f=0) (lv:fT) W (hW:Ext w W) (h:AA W s l f lv n)=>show WU W s l f lv n from⟨h,(qN h0).1,(qN h0).2,hf,hok,by have h1:=h.ints.1;have h2:=hi.1;omega,ho.ext hW⟩);have Nj:=ai (fun (h0:jP s l f=0)=>aum (qN h0).1 hok);have iP:=ai (fun W (hW:Ext w W)=>WE l a n c W (hl.ext hW) hn);have mo:=ai (fun W (hW:Ext w W)=>Mn l a n c W (hl.ext hW) hn);have oD:=ai (fun W (hW:Ext w W)=>Mm l a n c W (hl.ext hW) hn);have pU:=ai (fun W (hW:Ext w W)=>anP l a n c W (hl.ext hW) hn);have tY:=ai (fun (ks:ZI)=>show (kS ks l).length<=1000000 from aV (amP ks l) (by rw[<-hl.len];exact hn));obtain⟨V,hV⟩:∃V,V=val s l f:=⟨_,rfl⟩
 obtain⟨E,hE⟩:∃E,E=jP s l f:=⟨_,rfl⟩
 obtain⟨R,hR⟩:∃R,R=mS s l f:=⟨_,rfl⟩
 unfold ahh;rw[<-hR,<-hE];unfold mS at hR;rw[<-hE,<-hV] at hR;unfold as2 at qw;rw[<-hE] at qw HDI Nj;have HAN:=ai (fun (h0:E=0) (lv:fT) (ks:ZI) (a':OA) (c':Nat) (B:Bool) W (hW:Ext w W) (h:AA W s l f lv n) (hc:cZ W (kS ks l) a' (kS ks l).length c')=>avA (kS ks l) a' _ c' B W (HDI.o h0 lv W hW h) hc (tY.o ks) (fun x hx=>Nj.o h0 x (BI hx)));have Gl:=ai (fun (h0:E=0) (lv:fT) (x:cK) (hx:x∈l) (v:fM) W (hW:Ext w W) (h:AA W s l f lv n) (hc:ij W x v)=>WD x.cond x.gH v.kind v.name v.x v.au v.nu v.cu v.ck W (HDI.o h0 lv W hW h) (Nj.o h0 x hx).1 (Nj.o h0 x hx).2.1 (by rw[hc.2.2.2.1];exact(Nj.o h0 x hx).2.2) hc.2.2.2.1 hc.2.2.1 hc.2.2.2.2.2.2.1);rw[<-hV] at HAN Gl;have HRZ:=ai (show E≠0->R=⟨0,0,0,0,0,false⟩ from fun h=>by rw[hR,bL h]);have HRV:=ai (show E=0->R=CN V l from fun h=>by rw[hR,bM h]);clear hs hf hsl hl hn hok hi hfn ho B6 hV hE hR HDI Nj;obtain⟨wa,cN⟩:∃wa,wa=(w.alloc (.cells #[.slice sa sn sc] 24)).alloc (.cells #[.int .i64 0,.int .i64 0,.int .i64 0,.int .i64 0,.int .i64 0,.bool false] 29):=⟨_,rfl⟩
 have dm:=ai (show Ext w wa by rw[cN];exact((Tz _).alloc _).alloc _);have HA:=ai (show wa.heap[w.heap.size+1]?=some (EA ⟨0,0,0,0,0,false⟩) by rw[cN];exact cT (by simp));obtain⟨s0,sf⟩:=dO (show wa.heap[w.heap.size]?=some (.cells #[.slice sa sn sc] 24 (0,0)) by rw[cN];exact bU (bR w _));go_enter Tryz.func13,Tryz.ntmps13
 go_upto_region 1 with fail;rw[<-cN];clear cN;obtain⟨bd,hbd⟩:∃bd,bd=w.heap.size+1:=⟨_,rfl⟩
 rw[<-hbd] at HA ⊢;have hlo:w.heap.size<=bd:=by omega
 clear hbd;go_wp2_with fail;refine(qw.o wa dm.o).mono ?_;rintro r w1 ⟨hx1,hr⟩;have dI:=ai (dm.o.trans hx1);have HB:=ai (hx1.blk HA.o);clear hx1 HA dm qw s0 sf;rcases hr with ⟨h1,rfl⟩|⟨h1,lo,rfl,aq5⟩
 ·have t1:(E != 0)=true:=by simp[h1]
  have HQ:=ai (HRZ.o h1);obtain⟨w2,hw2⟩:∃w2,w2=w1.alloc (.cells #[.slice none 0 0,.map none,.slice none 0 0] 74):=⟨_,rfl⟩
  have dN:=ai (show Ext w w2 by rw[hw2];exact dI.o.alloc _);have fY:=ai (show w2.heap[bd]?=some (EA ⟨0,0,0,0,0,false⟩) by rw[hw2];exact bU HB.o);unfold oM;clear h1;go_upto_region 2 with fail;rw[<-hw2];clear hw2 dI HB;have hz:=fY.o;unfold EA rT.cells at hz;obtain⟨z0,z1,z2,z3,z4,z5,zf⟩:=dH hz;dsimp only at z0 z1 z2 z3 z4 z5;go_wp2_with fail;obtain⟨w8,gX⟩:∃w8,w8=fA w2 bd (.int .i64 0) (.int .i64 0) (.int .i64 0) (.int .i64 0) (.int .i64 0) (.bool false):=⟨_,rfl⟩
  have nB:=ai (show Ext w w8 by rw[gX];exact(fe _ _).ext dN.o (by simp;omega));have h8:w8.heap[bd]?=some (.cells #[.int .i64 0,.int .i64 0,.int .i64 0,.int .i64 0,.int .i64 0,.bool false] 29 (0,0)):=by rw[gX];exact fH hz
  unfold fA at gX;rw[<-gX];clear gX z0 z1 z2 z3 z4 z5 zf hz;obtain⟨z0,z1,z2,z3,z4,z5,zf⟩:=dH h8;refine a5a (v:=.tuple #[.agg R.cells,E]) (by rw[HQ.o];simp[results,Tryz.results13,go_sem,rT.cells,z0,z1,z2,z3,z4,z5]) rfl ?_;exact⟨rfl,nB.o⟩
 have HE0:=ai h1;have Vp:=ai aq5;have aI4:=ai (HRV.o h1);subst h1;clear aq5 HRZ HRV;have HA2:=ai (fun (ks:ZI) (B:Bool) (a':OA) (c':Nat) W (hW:Ext w1 W) hc=>HAN.o rfl lo ks a' c' B W (dI.o.trans hW) (Vp.o.ext hW) hc);have oZ:=ai (fun (x:cK) (hx:x∈l) (v:fM) W (hW:Ext w1 W) hc=>Gl.o rfl lo x hx v W (dI.o.trans hW) (Vp.o.ext hW) hc);have S2:=ai (zD V 2 false true rfl l);have S4:=ai (zD V 4 true false rfl l);have S3:=ai (zD V 3 false true rfl l);obtain⟨L2,hL2⟩:∃L2,L2=kS [2] l:=⟨_,rfl⟩
 obtain⟨L3,hL3⟩:∃L3,L3=kS [3] l:=⟨_,rfl⟩
 obtain⟨L4,hL4⟩:∃L4,L4=kS [4] l:=⟨_,rfl⟩
 have HN2:=ai (HA2.o [2] true);have HN3:=ai (HA2.o [3] true);have HN4:=ai (HA2.o [4] false);rw[<-hL2] at S2 HN2;rw[<-hL3] at S3 HN3;rw[<-hL4] at S4 HN4;obtain⟨Q2,hQ2⟩:∃Q2,Q2=jC V 2 false l:=⟨_,rfl⟩
 obtain⟨Q3,hQ3⟩:∃Q3,Q3=jC V 3 false l:=⟨_,rfl⟩
 obtain⟨Q4,hQ4⟩:∃Q4,Q4=jC V 4 true l:=⟨_,rfl⟩
 rw[S2.o,<-hQ2] at HN2;rw[S3.o,<-hQ3] at HN3;rw[S4.o,<-hQ4] at HN4;have HT:=ai (Fh V l ⟨4,-1,0,0,0,false⟩);have HVD:=ai (show R=if Q2=false then ⟨1,0,0,0,0,false⟩ else if Q4=true then ⟨2,0,0,0,0,false⟩ else if Q3=true then ⟨3,0,0,0,0,false⟩ else Hw ⟨4,-1,0,0,0,false⟩ ((kS lJ l).filter (ke V)) by
  rw[aI4.o,HT.o,hQ2,hQ3,hQ4,Bool.false_or];rfl)
 unfold OfQ at iP oD mo;have RX:=ai (fun W (hW:Ext w W)=>(iP.o W hW).mono (fun r w' (hq:∃u a c,u=kS [2] l/\r=.returned (.slice a u.length c)/\cZ w' u a u.length c/\Ext W w')=>show ∃x:OA×Nat,r=.returned (.slice x.1 L2.length x.2)/\cZ w' L2 x.1 L2.length x.2/\Ext W w' by obtain⟨u,a,c,rfl,q2,q3,q4⟩:=hq;rw[<-hL2] at q2 q3;exact⟨(a,c),q2,q3,q4⟩));have HM3:=ai (fun W (hW:Ext w W)=>(oD.o W hW).mono (fun r w' (hq:∃u a c,u=kS [3] l/\r=.returned (.slice a u.length c)/\cZ w' u a u.length c/\Ext W w')=>show ∃x:OA×Nat,r=.returned (.slice x.1 L3.length x.2)/\cZ w' L3 x.1 L3.length x.2/\Ext W w' by obtain⟨u,a,c,rfl,q2,q3,q4⟩:=hq;rw[<-hL3] at q2 q3;exact⟨(a,c),q2,q3,q4⟩));have HM4:=ai (fun W (hW:Ext w W)=>(mo.o W hW).mono (fun r w' (hq:∃u a c,u=kS [4] l/\r=.returned (.slice a u.length c)/\cZ w' u a u.length c/\Ext W w')=>show ∃x:OA×Nat,r=.returned (.slice x.1 L4.length x.2)/\cZ w' L4 x.1 L4.length x.2/\Ext W w' by obtain⟨u,a,c,rfl,q2,q3,q4⟩:=hq;rw[<-hL4] at q2 q3;exact⟨(a,c),q2,q3,q4⟩));clear hL2 hL3 hL4 hQ2 hQ3 hQ4 S2 S3 S4 HT aI4 iP oD mo HAN Gl HA2 HE0;unfold fT.val at *;obtain⟨w2,hw2⟩:∃w2,w2=w1.alloc (.cells #[.slice lo.sa lo.sn lo.sc,.map (some lo.bm),.slice lo.fa lo.fn lo.fc] 74):=⟨_,rfl⟩
 have sH:=ai (show Ext w1 w2 by rw[hw2];exact(Tz _).alloc _);have fY:=ai (sH.o.blk HB.o);have A4:=ai (show w2.heap[w1.heap.size]?=some (.cells #[.slice lo.sa lo.sn lo.sc,.map (some lo.bm),.slice lo.fa lo.fn lo.fc] 74 (0,0)) by rw[hw2];exact bR w1 _);go_upto_region 4 with fail;rw[<-hw2];clear hw2 HB;obtain⟨bl,hbl⟩:∃bl,bl=w1.heap.size:=⟨_,rfl⟩
 rw[<-hbl] at A4 ⊢;clear hbl;obtain⟨x0,x1,x2,xf⟩:=dM A4.o;obtain⟨C0,C1,C2⟩:=wcn3 x0 x1 x2;refine kT 5 ?_
 repeat (refine bZ ?_;intro K hK;go_big_quiet_op;go_big_quiet_on)
 refine dP (γ:=OA×Nat) (fun x=>.slice x.1 L2.length x.2) (fun x W=>cZ W L2 x.1 L2.length x.2) (fun W hW _ _=>?_) (fun x W W' hx h=>h.ext hx) ?_ ⟨(none,0)⟩
 ·unfold bQ;go_simp;refine(RX.o W ((dI.o.trans sH.o).trans hW)).mono ?_;rintro r w9 ⟨x,rfl,h1,h2⟩;exact⟨_,rfl,h2,x,rfl,h1⟩
 rintro⟨xa,xc⟩ K hK;go_simp;go_big_quiet_on
 repeat (refine bZ ?_;intro K hK;go_big_quiet_op;go_big_quiet_on)
 refine fZ (.bool Q2) (fun _=>True) (fun W hW hu _=>?_) (fun _ _ _ h=>h) ?_
 ·unfold bQ;go_simp;refine(HN2.o xa xc W (sH.o.trans hW) hu).mono ?_;rintro r w9 ⟨rfl,ux⟩;exact⟨_,rfl,ux,rfl,trivial⟩
 intro K hK;go_simp;go_big_quiet_on
 repeat (refine bZ ?_;intro K hK;go_big_quiet_op;go_big_quiet_on)
 refine gC fun w3 hx _ _=>?_
 have K7:=ai (sH.o.trans hx);have nU:=ai (hx.blk fY.o);have HL3:=ai (hx.blk A4.o);have aYc:=ai (dI.o.trans K7.o);clear hx x0 x1 x2 xf C0 C1 C2 fY A4 sH RX HN2;cases Q2
 case false =>
  have HQ:=ai (show R=⟨1,0,0,0,0,false⟩ by rw[HVD.o];simp);have hz:=nU.o;unfold EA rT.cells at hz;obtain⟨z0,z1,z2,z3,z4,z5,zf⟩:=dH hz;dsimp only at z0 z1 z2 z3 z4 z5;go_wp2_with fail;obtain⟨w8,gX⟩:∃w8,w8=fA w3 bd (.int .i64 1) (.int .i64 0) (.int .i64 0) (.int .i64 0) (.int .i64 0) (.bool false):=⟨_,rfl⟩
  have nB:=ai (show Ext w w8 by rw[gX];exact(fe _ _).ext aYc.o (by simp;omega));have h8:w8.heap[bd]?=some (.cells #[.int .i64 1,.int .i64 0,.int .i64 0,.int .i64 0,.int .i64 0,.bool false] 29 (0,0)):=by rw[gX];exact fH hz
  unfold fA at gX;rw[<-gX];clear gX z0 z1 z2 z3 z4 z5 zf hz;obtain⟨z0,z1,z2,z3,z4,z5,zf⟩:=dH h8;refine a5a (v:=.tuple #[.agg R.cells,.int .i64 0]) (by rw[HQ.o];simp[results,Tryz.results13,go_sem,rT.cells,z0,z1,z2,z3,z4,z5]) rfl ?_;exact⟨rfl,nB.o⟩
 go_wp2_with fail;obtain⟨x0,x1,x2,xf⟩:=dM HL3.o;obtain⟨C0,C1,C2⟩:=wcn3 x0 x1 x2;refine kT 4 ?_
 repeat (refine bZ ?_;intro K hK;go_big_quiet_op;go_big_quiet_on)
 refine dP (γ:=OA×Nat) (fun x=>.slice x.1 L4.length x.2) (fun x W=>cZ W L4 x.1 L4.length x.2) (fun W hW _ _=>?_) (fun x W W' hx h=>h.ext hx) ?_ ⟨(none,0)⟩
 ·unfold bQ;go_simp;refine(HM4.o W ((dI.o.trans K7.o).trans hW)).mono ?_;rintro r w9 ⟨x,rfl,h1,h2⟩;exact⟨_,rfl,h2,x,rfl,h1⟩
 rintro⟨xa,xc⟩ K hK;go_simp;go_big_quiet_on
 repeat (refine bZ ?_;intro K hK;go_big_quiet_op;go_big_quiet_on)
 refine fZ (.bool Q4) (fun _=>True) (fun W hW hu _=>?_) (fun _ _ _ h=>h) ?_
 ·unfold bQ;go_simp;refine(HN4.o xa xc W (K7.o.trans hW) hu).mono ?_;rintro r w9 ⟨rfl,ux⟩;exact⟨_,rfl,ux,rfl,trivial⟩
 intro K hK;go_simp;go_big_quiet_on
 repeat (refine bZ ?_;intro K hK;go_big_quiet_op;go_big_quiet_on)
 refine gC fun w4 hx _ _=>?_
 have qz:=ai (K7.o.trans hx);have qD:=ai (hx.blk nU.o);have HL4:=ai (hx.blk HL3.o);have aAG:=ai (dI.o.trans qz.o);clear hx x0 x1 x2 xf C0 C1 C2 nU HL3 K7 HM4 HN4;cases Q4
 case true =>
  have HQ:=ai (show R=⟨2,0,0,0,0,false⟩ by rw[HVD.o];simp);have hz:=qD.o;unfold EA rT.cells at hz;obtain⟨z0,z1,z2,z3,z4,z5,zf⟩:=dH hz;dsimp only at z0 z1 z2 z3 z4 z5;go_wp2_with fail;obtain⟨w8,gX⟩:∃w8,w8=fA w4 bd (.int .i64 2) (.int .i64 0) (.int .i64 0) (.int .i64 0) (.int .i64 0) (.bool false):=⟨_,rfl⟩
  have nB:=ai (show Ext w w8 by rw[gX];exact(fe _ _).ext aAG.o (by simp;omega));have h8:w8.heap[bd]?=some (.cells #[.int .i64 2,.int .i64 0,.int .i64 0,.int .i64 0,.int .i64 0,.bool false] 29 (0,0)):=by rw[gX];exact fH hz
  unfold fA at gX;rw[<-gX];clear gX z0 z1 z2 z3 z4 z5 zf hz;obtain⟨z0,z1,z2,z3,z4,z5,zf⟩:=dH h8;refine a5a (v:=.tuple #[.agg R.cells,.int .i64 0]) (by rw[HQ.o];simp[results,Tryz.results13,go_sem,rT.cells,z0,z1,z2,z3,z4,z5]) rfl ?_;exact⟨rfl,nB.o⟩
 go_wp2_with fail;obtain⟨x0,x1,x2,xf⟩:=dM HL4.o;obtain⟨C0,C1,C2⟩:=wcn3 x0 x1 x2;refine kT 4 ?_
 repeat (refine bZ ?_;intro K hK;go_big_quiet_op;go_big_quiet_on)
 refine dP (γ:=OA×Nat) (fun x=>.slice x.1 L3.length x.2) (fun x W=>cZ W L3 x.1 L3.length x.2) (fun W hW _ _=>?_) (fun x W W' hx h=>h.ext hx) ?_ ⟨(none,0)⟩
 ·unfold bQ;go_simp;refine(HM3.o W ((dI.o.trans qz.o).trans hW)).mono ?_;rintro r w9 ⟨x,rfl,h1,h2⟩;exact⟨_,rfl,h2,x,rfl,h1⟩
 rintro⟨xa,xc⟩ K hK;go_simp;go_big_quiet_on
 repeat (refine bZ ?_;intro K hK;go_big_quiet_op;go_big_quiet_on)
 refine fZ (.bool Q3) (fun _=>True) (fun W hW hu _=>?_) (fun _ _ _ h=>h) ?_
 ·unfold bQ;go_simp;refine(HN3.o xa xc W (qz.o.trans hW) hu).mono ?_;rintro r w9 ⟨rfl,ux⟩;exact⟨_,rfl,ux,rfl,trivial⟩
 intro K hK;go_simp;go_big_quiet_on
 repeat (refine bZ ?_;intro K hK;go_big_quiet_op;go_big_quiet_on)
 refine gC fun w5 hx _ _=>?_
 have AB:=ai (qz.o.trans hx);have uo:=ai (hx.blk qD.o);have HL5:=ai (hx.blk HL4.o);have aIY:=ai (dI.o.trans AB.o);clear hx x0 x1 x2 xf C0 C1 C2 qD HL4 qz HM3 HN3;cases Q3
 case true =>
  have HQ:=ai (show R=⟨3,0,0,0,0,false⟩ by rw[HVD.o];simp);have hz:=uo.o;unfold EA rT.cells at hz;obtain⟨z0,z1,z2,z3,z4,z5,zf⟩:=dH hz;dsimp only at z0 z1 z2 z3 z4 z5;go_wp2_with fail;obtain⟨w8,gX⟩:∃w8,w8=fA w5 bd (.int .i64 3) (.int .i64 0) (.int .i64 0) (.int .i64 0) (.int .i64 0) (.bool false):=⟨_,rfl⟩
  have nB:=ai (show Ext w w8 by rw[gX];exact(fe _ _).ext aIY.o (by simp;omega));have h8:w8.heap[bd]?=some (.cells #[.int .i64 3,.int .i64 0,.int .i64 0,.int .i64 0,.int .i64 0,.bool false] 29 (0,0)):=by rw[gX];exact fH hz
  unfold fA at gX;rw[<-gX];clear gX z0 z1 z2 z3 z4 z5 zf hz;obtain⟨z0,z1,z2,z3,z4,z5,zf⟩:=dH h8;refine a5a (v:=.tuple #[.agg R.cells,.int .i64 0]) (by rw[HQ.o];simp[results,Tryz.results13,go_sem,rT.cells,z0,z1,z2,z3,z4,z5]) rfl ?_;exact⟨rfl,nB.o⟩
 go_wp2_with fail;have HQ:=ai (show R=Hw ⟨4,-1,0,0,0,false⟩ ((kS lJ l).filter (ke V)) by rw[HVD.o];simp);have HKT:=ai (tY.o lJ);have HMT:=ai (fun x (hx:x∈kS lJ l)=>oZ.o x (BI hx));refine(pU.o w5 aIY.o).mono ?_;rintro r w6 ⟨u,ta,tc,hu,rfl,hcl,gN⟩;have hu':u=kS lJ l:=hu;rw[<-hu'] at HQ HKT HMT;have aYb:=ai (aIY.o.trans gN);have Ey:=ai (AB.o.trans gN);have jO:=ai (gN.blk uo.o);have HL6:=ai (gN.blk HL5.o);have qC:=ai hcl;obtain⟨m,hm⟩:∃m,m=u.length:=⟨_,rfl⟩
 have HM:=ai hm;rw[<-hm] at HKT qC ⊢;have hm6:=HKT.o;clear hu hu' hcl gN hm pU oZ HVD tY uo HL5 aIY AB;go_wp2_with fail;go_loopw [10,43] (fun lv i wr=>∃(k:Nat) (vs:List fM) (q:List cK),i=.int .i64 k/\k<=m/\q=(u.take k).filter (ke V)/\q.length<=k/\vG w6 q vs/\wr.ownsRow w6.heap.size 48 10 lv q.length (vs.flatMap fM.cells)/\Ext w6 wr) (fun _ i _=>m - (intOf i).toNat)
 case atStart=>exact⟨0,[],[],rfl,by omega,rfl,by simp,⟨rfl,fun i h=>by simp at h⟩,a4' _ _ _ _,Tz _⟩
 case round =>
  obtain⟨k,vs,q,rfl,aDm,hq,hql,hcr,hown,hx⟩:=hrel;obtain⟨la,lc,hlv⟩:=lF hown;subst hlv;have HU:=ai hq;have xW:=ai hcr;have kD:=ai hown;have HX:=ai hx;clear hq hcr hown hx;by_cases hlt:k<m
  ·have fq:k<u.length:=by have:=HM.o;omega
   have t1:=ag ((k:Int)<(m:Int));obtain⟨cb,ld,v,rfl,fO,hrow⟩:=qC.o.at fq;obtain⟨c0,c1,c2,c3,c4,c5,c6,c7,c8,c9⟩:=(hrow.mono HX.o.sub).BB;have Ba:=ai fO;have se:=ai (fun W (hW:Ext w6 W)=>HMT.o u[k] (aD fq) v W (Ey.o.trans hW) (fO.mono hW.sub));have HST:=ai (ac9 (ke V) fq);obtain⟨T,hT⟩:∃T,T=ke V u[k]:=⟨_,rfl⟩
   rw[show (V u[k].cond&&!nM V u[k].gH)=T from hT.symm] at se;rw[<-hT,<-HU.o] at HST;clear fO hrow hT;obtain⟨wb,iV⟩:∃wb,wb=wr.alloc (.cells #[ v.kind,.string v.name,v.x.op,.string v.x.name,.slice v.x.aw v.x.nw v.x.cw,v.x.lo,v.x.hi,.slice v.x.aa v.x.na v.x.ca,.slice v.au v.nu v.cu,v.ck] 48):=⟨_,rfl⟩
   have jK:=ai (show Ext wr wb by rw[iV];exact(Tz _).alloc _);have Af:=ai (show wb.heap[wr.heap.size]?=some (.cells #[ v.kind,.string v.name,v.x.op,.string v.x.name,.slice v.x.aw v.x.nw v.x.cw,v.x.lo,v.x.hi,.slice v.x.aa v.x.na v.x.ca,.slice v.au v.nu v.cu,v.ck] 48 (0,0)) by rw[iV];exact bR wr _);obtain⟨f0,f1,f2,f3,f4,f5,f6,f7,f8,f9,ff⟩:=rK Af.o;obtain⟨x0,x1,x2,xf⟩:=dM ((HX.o.trans jK.o).blk HL6.o);go_upto_region 14 with fail;rw[<-iV];clear iV c0 c1 c2 c3 c4 c5 c6 c7 c8 c9;go_wp2_with fail;refine(se.o wb (HX.o.trans jK.o)).mono ?_;rintro e w9 ⟨rfl,ux⟩;have vL:=ai (jK.o.trans ux);have a0g:=ai (ux.blk Af.o);have hsb:w6.heap.size<=w9.heap.size:=aV HX.o.size vL.o.size;clear ux f0 f1 f2 f3 f4 f5 f6 f7 f8 f9 ff x0 x1 x2 xf Af jK;cases T
   case false =>
    go_wp2_with fail;go_roundw
    case rel=>exact⟨k+1,vs,q,by go_num,by omega,by rw[HST.o];rfl,by omega,xW.o,cO kD.o (vL.o.cR []) (by simp),HX.o.trans vL.o⟩
    case measure=>simp[intOf];omega
   case true =>
    have vF:=ai (cO kD.o (vL.o.cR []) (by simp));obtain⟨f0,f1,f2,f3,f4,f5,f6,f7,f8,f9,ff⟩:=rK a0g.o;go_wp2_with (at_builtin;refine dA nr rfl _ _ rfl w6.heap.size _ q.length _ rfl vF.o _ 1 1 rfl ?f0 rfl ?f1 ?f2 ?f3 ?f4 ?_)
    case f0=>simp
    case f1=>simp[Value.oneCell']
    case f2=>unfold maxLen;omega
    case f3=>omega
    case f4=>omega
    intro v8 w8 dY iI gX;have zo:=ai dY;have nB:=ai (iI.ext (HX.o.trans vL.o) fun q hq=>(vF.o.lt q (bV.1 hq)).1);clear dY iI gX f0 f1 f2 f3 f4 f5 f6 f7 f8 f9 ff;go_wp2_with fail;go_roundw
    case rel=>exact⟨k+1,vs++[v],q++[u[k]],by go_num,by omega,by rw[HST.o];rfl,by simp;omega,xW.o.snoc Ba.o,by simpa[fM.cells] using zo.o,nB.o⟩
    case measure=>simp[intOf];omega
  have t1:=ah ((k:Int)<(m:Int));have Ro:=ai (show R=Hw ⟨4,-1,0,0,0,false⟩ q by rw[HQ.o,HU.o,aS (by have:=HM.o;omega)]);have hcl:=yJ (M:=[]) kD.o (by simp) (xW.o.mono (HX.o.sub.trans (Cf _)));obtain⟨a',c',hv,hcl⟩:=hcl;simp only[a45,true_and] at hv;obtain⟨rfl,rfl⟩:=hv;have aov:=ai (MN q la q.length lc wr (hcl.mono (cC _ _)) (by omega));rw[<-Ro.o] at aov;have wP:=ai (HX.o.blk jO.o);clear hcl;obtain⟨r1,r2,r3,r4,r5,r6⟩:=R;unfold rT.cells at aov;go_wp2_with fail;refine aov.o.mono ?_;rintro e w7 ⟨rfl,ng⟩;have rZ:=ai ((aYb.o.trans HX.o).trans ng);have CX:=ai (ng.blk wP.o);clear ng;have hz:=CX.o;unfold EA rT.cells at hz;obtain⟨z0,z1,z2,z3,z4,z5,zf⟩:=dH hz;dsimp only at z0 z1 z2 z3 z4 z5;go_wp2_with fail;obtain⟨w8,gX⟩:∃w8,w8=fA w7 bd (.int .i64 r1) (.int .i64 r2) (.int .i64 r3) (.int .i64 r4) (.int .i64 r5) (.bool r6):=⟨_,rfl⟩
  have nB:=ai (show Ext w w8 by rw[gX];exact(fe _ _).ext rZ.o (by simp;omega));have h8:w8.heap[bd]?=some (.cells #[ r1,r2,r3,r4,r5,.bool r6] 29 (0,0)):=by rw[gX];exact fH hz
  unfold fA at gX;rw[<-gX];clear gX z0 z1 z2 z3 z4 z5 zf hz;obtain⟨z0,z1,z2,z3,z4,z5,zf⟩:=dH h8;refine a5a (v:=.tuple #[.agg #[ r1,r2,r3,r4,r5,.bool r6],.int .i64 0]) (by simp[results,Tryz.results13,go_sem,z0,z1,z2,z3,z4,z5]) rfl ?_;exact⟨rfl,nB.o⟩
def PdR (s:List Attr) (l:List cK) (x:cK):Prop:=Pd s l x.cond/\jY (Pd s l) x.gH/\mH x.gH<=1000000
theorem aul {s:List Attr} {l:List cK} (hc:(cV s l).2=0) (hf:∀x∈l,x.fit):∀x∈l,PdR s l x:=fun x hx=>by
 obtain⟨h1,h2,-⟩:=aum hc hf x hx;have:=(wY (Vg hc x hx)).2;exact⟨h1,h2,by omega⟩
theorem aK' (vs:List jf):∀u∈vs.flatMap jf.cells,u.oneCell'=true:=by
 intro u hu;obtain⟨v,_,hv⟩:=List.mem_flatMap.1 hu;simp only[jf.cells,bz,bC,or_false] at hv;rcases hv with rfl|rfl|rfl|rfl|rfl|rfl<;>rfl
theorem oh {t e:TypeId} {z:Value} {size bytes:Nat} (E:uq t e z size bytes) {ρ:Operand->Value} {W:World} {T:Value->World->Prop} {dst:Option Tmp} {ty:TypeId} {pos:String} {after:Array Edge} {guard:Option (Nat×Bool)}
  (s x:Operand) (base:Nat) (v:Value) (n:Nat) (xs:List Value) (hs:ρ s=v) (B off m c:Nat) (news:List Value) (hx:ρ x=.slice (some ⟨B,off,none⟩) m c) (hl:news.length=m*size) (h1:∀u∈news,u.oneCell'=true) (hm:0<m) (hn:n+m<=100000000) (hb:bytes<=1000)
  (hown:W.ownsRow base e size v n xs) (hnews:∀j (h:j<news.length),W.cell? ⟨B,off+j,none⟩=some news[j]) (hbase:base<=W.heap.size)
  (h:∀g cap w',w'.ownsRow base e size (.slice (some ⟨g,0,none⟩) (n+m) cap) (n+m) (xs++news)->W.grownBy w' v.ownBlock->(v.ownBlock=some g\/g=W.heap.size)->g<w'.heap.size->T (.slice (some ⟨g,0,none⟩) (n+m) cap) w') :
  bQ Tryz.prog { dst:=dst,op:=.call { callee:=.builtin .append,args:=#[s,x],argTypes:=#[t,t] },type:=ty,pos:=pos,after:=after,guard:=guard } ρ W T:=by
 obtain⟨i,hi,hz,hsz,hby⟩:=info_parts E.info;obtain⟨g,cap,w',hrun,h2,h3,h4,h5⟩:=run_append_lies (P:=Tryz.prog) W t ty base e i z size bytes E.ht hi hz hsz hby E.hzs E.hsz v n xs hown ⟨B,off,none⟩ m c news hl (by
   intro j u hu;obtain⟨hj,rfl⟩:=List.getElem?_eq_some_iff.1 hu;have:(⟨B,off,none⟩:Addr).add j=⟨B,off+j,none⟩:=by unfold Addr.add;split<;>simp_all
   rw[this];exact hnews j hj) h1 hm (by simp only[maxLen];omega) (by
   calc (n+m)*bytes<=100000000*1000:=Nat.mul_le_mul hn hb
    _<=140737488355328:=by omega) hbase _ rfl
 unfold bQ;have he:execOp ρ { dst:=dst,op:=.call { callee:=.builtin .append,args:=#[s,x],argTypes:=#[t,t] },type:=ty,pos:=pos,after:=after,guard:=guard }=(do pure (.value (<-Builtin.append_ #[t,t] ty #[v,.slice (some ⟨B,off,none⟩) m c]))):=by
  rw[<-hs,<-hx,BigFrame.execOp_builtin,BigFrame.builtin_append];simp
 rw[he];simp only[Sem.run_bind,hrun];exact h g cap w' h2 h3 h4 h5
theorem ahI {c:Array Value} (h:c.size=6):∃v0 v1 v2 v3 v4 v5,c=#[v0,v1,v2,v3,v4,v5]:=by
 obtain⟨l⟩:=c
 match l,h with
 | [v0,v1,v2,v3,v4,v5],_=>exact⟨v0,v1,v2,v3,v4,v5,rfl⟩
theorem Ch {W:World} {K K':ZN} {g:Nat} (hK:∀y∈K',y∈K) (hg:g∈K\/W.heap.size<=g):Sub (mask W K) (mask W (g::K')):=fun p v hp=>by
 rw[eA] at hp ⊢;by_cases h:p.block∈K
 ·rw[bM h] at hp;cases hp
 rw[bL h] at hp;have hl:=eB hp;rw[bL fun hm=>?_]
 ·exact hp
 rcases bz.1 hm with e|e
 ·rcases hg with hg|hg
  ·exact h (by rw[e];exact hg)
  omega
 exact h (hK _ e)
theorem mj.append {w:World} {l l':List Rs} {vs vs':List jf} (h:mj w l vs) (h':mj w l' vs'):mj w (l++l') (vs++vs'):=by
 refine⟨by simp[h.1,h'.1],fun i h1 h2=>?_⟩;by_cases hi:i<l.length
 ·have hi2:i<vs.length:=by rw[<-h.1];exact hi
  simp only[bD hi,bD hi2];exact h.2 i hi hi2
 have hi2:¬i<vs.length:=by rw[<-h.1];exact hi
 rw[bK (by omega),bK (by omega)];simp only[h.1];exact h'.2 (i - vs.length) (by have:=h.1;simp at h1;omega) (by simp at h2;omega)
theorem atO {w:World} {b off n c:Nat} {vs:List jf} (h:eE w 6 jf.cells vs (some ⟨b,off,none⟩) n c):∀j (hj:j<(vs.flatMap jf.cells).length),w.cell? ⟨b,off+j,none⟩=some (vs.flatMap jf.cells)[j]:=by
 intro j hj;have hl:=eN jf.cells 6 (fun _=>rfl) vs;have hi:j / 6<vs.length:=by omega
 have hr:j % 6<(vs[j / 6]).cells.length:=by have:(vs[j / 6]).cells.length=6:=rfl;omega
 obtain⟨b',off',e,hc⟩:=h.2.2.2 (j / 6) hi;simp only[a42,Addr.mk.injEq,and_true] at e;obtain⟨rfl,rfl⟩:=e;have h1:=hc (j % 6) hr;have h2:=iJ jf.cells 6 (fun _=>rfl) vs (j / 6) hi (j % 6) hr;have e1:j / 6*6+j % 6=j:=by omega
 rw[e1,aT hj] at h2;rw[Nat.add_assoc,e1] at h1;rw[h1,<-h2]
theorem Au {ρ:Operand->Value} {W:World} {T:Value->World->Prop} {dst:Option Tmp} {ty:TypeId} {pos:String} {after:Array Edge} {guard:Option (Nat×Bool)}
  (s x:Operand) (base n:Nat) (a0:OA) (c0:Nat) (vs us:List jf) (hs:ρ s=.slice a0 n c0) (a:OA) (m c:Nat) (hx:ρ x=.slice a m c) (hn:n+m<=100000000)
  (hown:W.ownsRow base 69 6 (.slice a0 n c0) n (vs.flatMap jf.cells)) (hr:eE W 6 jf.cells us a m c) (hbase:base<=W.heap.size)
  (h:∀a' c' w',w'.ownsRow base 69 6 (.slice a' (n+m) c') (n+m) ((vs++us).flatMap jf.cells)->ct (rowOf (.slice a0 n c0)) W w'->(∀k,(Value.slice a' (n+m) c').ownBlock=some k->(Value.slice a0 n c0).ownBlock=some k\/W.heap.size<=k)->T (.slice a' (n+m) c') w') :
  bQ Tryz.prog { dst:=dst,op:=.call { callee:=.builtin .append,args:=#[s,x],argTypes:=#[55,55] },type:=ty,pos:=pos,after:=after,guard:=guard } ρ W T:=by
 have hmu:m=us.length:=hr.1;by_cases hm:m=0
 ·subst hm;obtain rfl:us=[]:=aR hmu.symm;obtain⟨i,hi,hz,hsz,hby⟩:=info_parts Qq.info;have hnc:n<=c0:=by
   rcases hown.2 with ⟨e,e2⟩|⟨g,cap,cur,e,_,_,hnc,_⟩
   ·cases e;exact aU _
   cases e;exact hnc
  have hrun:=Hl (P:=Tryz.prog) W 55 ty 69 i Qq.ht hi a0 n c0 hnc a c;unfold bQ;have he:execOp ρ { dst:=dst,op:=.call { callee:=.builtin .append,args:=#[s,x],argTypes:=#[55,55] },type:=ty,pos:=pos,after:=after,guard:=guard }=(do pure (.value (<-Builtin.append_ #[55,55] ty #[.slice a0 n c0,.slice a 0 c]))):=by
   rw[<-hs,<-hx,BigFrame.execOp_builtin,BigFrame.builtin_append];simp
  rw[he];simp only[Sem.run_bind,hrun];exact h a0 c0 W (by simpa using hown) (ct.refl _ _) fun k hk=>aoX hk
 have hlen:=eN jf.cells 6 (fun _=>rfl) us;obtain⟨b,off,rfl,-⟩:=hr.2.2.2 0 (by omega);refine oh Qq s x base _ n _ hs b off m c (us.flatMap jf.cells) hx (by rw[hlen,hmu]) (aK' us) (by omega) hn (by omega) hown (atO hr) hbase ?_;intro g cap w' ho hg hw _;refine h (some ⟨g,0,none⟩) cap w' (by simpa using ho) (eX hg) fun k hk=>?_
 simp only[Value.ownBlock,a42] at hk;subst hk;exact hw.imp id fun e=>by omega
def j5 (w:World) (B:Nat) (v0 v1 v2 v3 v4 v5 v6:Value):World:=((((((w.setCell ⟨B,0,none⟩ v0).setCell ⟨B,1,none⟩ v1).setCell ⟨B,2,none⟩ v2).setCell ⟨B,3,none⟩ v3).setCell ⟨B,4,none⟩ v4).setCell ⟨B,5,none⟩ v5).setCell ⟨B,6,none⟩ v6
theorem sU {w:World} {B:Nat} {u0 u1 u2 u3 u4 u5 u6 v0 v1 v2 v3 v4 v5 v6:Value} {t:TypeId} (h:w.heap[B]?=some (.cells #[u0,u1,u2,u3,u4,u5,u6] t (0,0))):(j5 w B v0 v1 v2 v3 v4 v5 v6).heap[B]?=some (.cells #[v0,v1,v2,v3,v4,v5,v6] t (0,0)):=by
 unfold j5;rw[aI _ _ _ _ _ _ (aI _ _ _ _ _ _ (aI _ _ _ _ _ _ (aI _ _ _ _ _ _ (aI _ _ _ _ _ _ (aI _ _ _ _ _ _ (aI _ _ _ _ _ _ h))))))];simp
theorem pW (w:World) (B:Nat) {v0 v1 v2 v3 v4 v5 v6:Value}:ct [B] w (j5 w B v0 v1 v2 v3 v4 v5 v6):=by
 unfold j5
 repeat (with_reducible (refine ct.setCell ?_ ?_ _))
 exact ct.refl _ _
 all_goals exact aoX (by simp)
theorem gR {w:World} {b:Nat} {v0 v1 v2 v3 v4 v5 v6:Value} {t:TypeId} (h:w.heap[b]?=some (.cells #[v0,v1,v2,v3,v4,v5,v6] t (0,0))) :
  w.cell? ⟨b,0,none⟩=some v0/\w.cell? ⟨b,1,none⟩=some v1/\w.cell? ⟨b,2,none⟩=some v2/\w.cell? ⟨b,3,none⟩=some v3/\w.cell? ⟨b,4,none⟩=some v4/\w.cell? ⟨b,5,none⟩=some v5/\w.cell? ⟨b,6,none⟩=some v6/\(∀o,w.frozen? ⟨b,o,none⟩=false) :=
 ⟨bX h 0,bX h 1,bX h 2,bX h 3,bX h 4,bX h 5,bX h 6,fun o=>ie h o⟩
theorem Ka {W:World} {g base:Nat} {v:jf} (h:W.heap[g]?=some (.cells v.cells.toArray 69 (0,0))) (hg:base<=g):W.ownsRow base 69 6 (.slice (some ⟨g,0,none⟩) 1 1) 1 ([v].flatMap jf.cells) :=
 ⟨rfl,a4Z ⟨g,1,v.cells.toArray,rfl,hg,h,aU _,by unfold maxLen;omega,rfl,by simp[jf.cells]⟩⟩
theorem Tq {W w2:World} {v v':Value} {K K':ZN} (hc:ct (rowOf v) W w2) (hg:∀k,v'.ownBlock=some k->v.ownBlock=some k\/W.heap.size<=k) (h1:∀y∈rowOf v,y∈K) (h2:∀y∈K',y∈K\/y∈rowOf v'):Sub (mask W K) (mask w2 K') :=
 cQ fun k hk hn=>⟨fun hm=>by
  rcases h2 k hm with h|h
  ·exact hn h
  rcases hg k (bV.1 h) with e|e
  ·exact hn (h1 k (bV.2 e))
  omega,hc.block k hk fun hm=>hn (h1 k hm)⟩
structure ajF (s:List Attr) (l:List cK) (f:ZI) (w0:World) (bd:Nat) (sa:OA) (sn sc:Nat) (a:OA) (n c:Nat) (fa:OA) (fn:Nat) (w:World):Prop where
 ok:(cV s l).2=0
 fac:fW s f=true
 fit:∀x∈s,x.fits
 oA:cg w0 w bd
 dat:aGv s l f bd sa sn sc a n c fa fn w
theorem ajF.cR {s:List Attr} {l:List cK} {f:ZI} {w0:World} {bd:Nat} {sa:OA} {sn sc:Nat} {a:OA} {n c:Nat} {fa:OA} {fn:Nat} {w w':World} (h:ajF s l f w0 bd sa sn sc a n c fa fn w) (hc:ct [bd] w w') (hd:cg w0 w' bd):ajF s l f w0 bd sa sn sc a n c fa fn w':=⟨h.ok,h.fac,h.fit,hd,h.dat.cR hc⟩
structure ahS (w:World) (bd:Nat) (cond:Ex) (u:List Wb) (x:dK) (au:OA) (nu cu:Nat):Prop where
 ex:dw (mask w [bd]) cond x.val
 len:nu=u.length
 cap:nu<=cu
 adr:ny au cu
 gH:gK (mask w [bd]) u au
theorem ahS.cR {w w':World} {bd:Nat} {cond:Ex} {u:List Wb} {x:dK} {au:OA} {nu cu:Nat} (h:ahS w bd cond u x au nu cu) (hc:ct [bd] w w'):ahS w' bd cond u x au nu cu:=⟨h.ex.mono (cP hc (by simp)),h.len,h.cap,h.adr,gK.mono (cP hc (by simp)) _ _ h.gH⟩
theorem ahS.at {w:World} {bd:Nat} {cond:Ex} {u:List Wb} {x:dK} {au:OA} {nu cu:Nat} (h:ahS w bd cond u x au nu cu) {k:Nat} (hk:k<u.length):∃b off,au=some ⟨b,off,none⟩/\b∉[bd]/\∃v:Cz,v.name=u[k].name/\EM w b (off+k*8) v.cells/\ahS w bd u[k].cond u[k].gH v.x v.au v.nu v.cu:=by
 obtain⟨b,off,h1,v,h2,h3,h4,h5,h6,h7,h8⟩:=gK.at u _ h.gH k hk;obtain⟨c0,-⟩:=h3.eight;exact⟨b,off,h1,fun hm=>(by rw[eA,bM hm] at c0;cases c0),v,h2,h3.mono (cC _ _),h4,h5,h6,h7,h8⟩
theorem acs {s:List Attr} {l:List cK} {f:ZI} {w0:World} {bd:Nat} {sa:OA} {sn sc:Nat} {a:OA} {n c:Nat} {fa:OA} {fn:Nat} (fc:Nat) {w:World} (h:ajF s l f w0 bd sa sn sc a n c fa fn w) {cond:Ex} {u:List Wb} (nm:BA) {x:dK} {au:OA} {nu cu:Nat} (hb:ahS w bd cond u x au nu cu) (hp:Pv s l cond) (hok:jY (Pv s l) u) (ZW:nu<=1000000000000000) :
  Calls Tryz.prog 131 #[.agg #[.slice sa sn sc],.slice a n c,.agg #[.string nm,x.op,.string x.name,.slice x.aw x.nw x.cw,x.lo,x.hi,.slice x.aa x.na x.ca,.slice au nu cu],.slice fa fn fc] w (cz (.bool (val s l f cond&&!nM (val s l f) u)) w):=by
 have hs:=cC w [bd];have hv:=Dg h.ok h.fac h.fit fc (h.dat.1.mono hs) (h.dat.2.1.mono hs) (h.dat.2.2.mono hs);have Gl:=ai (fun W (hW:Ext w W)=>tJ hv.tr (.mk 0 ⟨#[]⟩ cond u 0) ⟨0,⟨#[]⟩,x,au,nu,cu,0⟩ W hW hp hok (by rw[<-hb.len];exact ZW) ⟨rfl,rfl,(hb.ex.mono hs).ext hW,hb.len,hb.cap,hb.adr,gK.mono (hs.trans hW.sub) _ _ hb.gH,rfl⟩);obtain⟨Q,hQ⟩:∃Q,Q=ke (jN s l f (l.length+1)) (.mk 0 ⟨#[]⟩ cond u 0):=⟨_,rfl⟩
 rw[<-hQ] at Gl;have HQ:=ai (show Q=(val s l f cond&&!nM (val s l f) u) from hQ);rw[<-HQ.o];clear h hb hp hok hs hv hQ;obtain⟨wa,cN⟩:∃wa,wa=(w.alloc (.cells #[.slice sa sn sc] 24)).alloc (.cells #[.string nm,x.op,.string x.name,.slice x.aw x.nw x.cw,x.lo,x.hi,.slice x.aa x.na x.ca,.slice au nu cu] 53):=⟨_,rfl⟩
 have dm:=ai (show Ext w wa by rw[cN];exact((Tz _).alloc _).alloc _);obtain⟨s0,sf⟩:=dO (show wa.heap[w.heap.size]?=some (.cells #[.slice sa sn sc] 24 (0,0)) by rw[cN];exact bU (bR w _));obtain⟨f0,f1,f2,f3,f4,f5,f6,f7,ff⟩:=oO (show wa.heap[w.heap.size+1]?=some (.cells #[.string nm,x.op,.string x.name,.slice x.aw x.nw x.cw,x.lo,x.hi,.slice x.aa x.na x.ca,.slice au nu cu] 53 (0,0)) by rw[cN];exact cT (by simp));go_enter Tryz.func131,Tryz.ntmps131
 go_upto_region 1 with fail;rw[<-cN];clear cN;go_wp2_with fail;refine(Gl.o wa dm.o).mono ?_;rintro r w1 ⟨rfl,hx1⟩;have dI:=ai (dm.o.trans hx1);clear hx1 s0 sf f0 f1 f2 f3 f4 f5 f6 f7 ff;go_wp2_with fail;go_ret;exact bW rfl dI.o
def BkQ (P:Rs->Prop) (w0:World) (bd:Nat) (w:World) (e:Ending) (w':World):Prop:=∃(r:Rs) (rv:jf),e=.returned rv.val/\P r/\kC (mask w' (List.range w.heap.size)) r rv/\cg w0 w' bd/\ct [bd] w w'
def PbK (A:Ex->Pr->Bool) (n:BA) (c:Ex) (u:List Wb) (r:Rs):Prop:=I8 A n c u r=true/\r.proof.iT 1000000/\r.gH.length<=1000000
def ErK (bd base:Nat) (W W':World):Prop:=∃N,ct N W W'/\∀k∈N,k=bd\/(base<=k/\∀cs t,W.heap[k]?=some (.cells cs t (0,0))->cs.size=6->∃cs',W'.heap[k]?=some (.cells cs' t (0,0))/\cs'.size=6)
theorem ErK.refl (bd base:Nat) (W:World):ErK bd base W W:=⟨[],ct.refl _ _,fun k hk=>by simp at hk⟩
theorem ErK.of {bd base:Nat} {W W':World} (h:Ext W W'):ErK bd base W W':=⟨[],h.cR [],fun k hk=>by simp at hk⟩
theorem ErK.oA {bd base:Nat} {W W':World} (h:ct [bd] W W'):ErK bd base W W':=⟨[bd],h,fun k hk=>aoX (by simpa using hk)⟩
theorem ErK.cR {bd:Nat} {w W W':World} (h:ct [bd] w W) (he:ErK bd w.heap.size W W'):ct [bd] w W':=by
 obtain⟨N,hc,hN⟩:=he;exact h.trans hc fun y hy=>(hN y hy).imp (fun e=>by rw[e];simp) (fun e=>e.1)
theorem ErK.size {bd base:Nat} {W W':World} (h:ErK bd base W W'):W.heap.size<=W'.heap.size:=by
 obtain⟨N,hc,_⟩:=h;exact hc.size
theorem ErK.shape {bd base:Nat} {W W':World} (h:ErK bd base W W') {g:Nat} (hg0:g≠bd) {cs:Array Value} {t:TypeId} (hg:W.heap[g]?=some (.cells cs t (0,0))) (h6:cs.size=6):∃cs',W'.heap[g]?=some (.cells cs' t (0,0))/\cs'.size=6:=by
 obtain⟨N,hc,hN⟩:=h;by_cases hm:g∈N
 ·rcases hN g hm with e|e
  ·exact a40 e hg0
  exact e.2 cs t hg h6
 exact⟨cs,hc.blk hg hm,h6⟩
theorem aqy {A:Ex->Pr->Bool}:(u:List Wb)->(L:List Rs)->L.length=u.length->(∀j (h1:j<u.length) (h2:j<L.length),L[j].dg=false/\I8 A u[j].name u[j].cond u[j].gH L[j]=true)->(qK A u).1 L=true
 | [],[],_,_=>by rw[qK];rfl
 | .mk n c u::t,r::rs,hl,h=>by
  have h0:=h 0 (by simp) (by simp);have hr:=aqy (A:=A) t rs (by simpa using hl) fun j h1 h2=>h (j+1) (by simpa using h1) (by simpa using h2)
  rw[qK];simp only[bB,I8] at h0;simp only[h0.1,hr,Bool.and_true,Bool.not_false,Bool.true_and];exact h0.2
 | [],r::rs,hl,_=>by simp at hl
 | .mk _ _ _::_,[],hl,_=>by simp at hl
theorem akv {A:Ex->Pr->Bool}:(u:List Wb)->(k:Nat)->(hk:k<u.length)->(r:Rs)->I8 A u[k].name u[k].cond u[k].gH r=true->(qK A u).2 r=true
 | .mk n c u::t,0,_,r,h=>by rw[qK];simp only[bB,I8] at h;simp only[bG];exact aoX h
 | .mk n c u::t,k+1,hk,r,h=>by rw[qK];simp only[bG];exact a4Z (akv t k (by simpa using hk) r (by simpa using h))
theorem aoN {V:Ex->Bool}:(u:List Wb)->nM V u=true->∃k,∃hk:k<u.length,(V u[k].cond&&!nM V u[k].gH)=true
 | [],h=>by rw[nM] at h;cases h
 | .mk n c u::t,h=>by
  rw[nM,bG] at h;rcases h with h|h
  ·exact⟨0,by simp,h⟩
  obtain⟨k,hk,h⟩:=aoN t h;exact⟨k+1,by simpa using hk,by simpa using h⟩
theorem aoP {V:Ex->Bool}:(u:List Wb)->nM V u=false->∀k (hk:k<u.length),(V u[k].cond&&!nM V u[k].gH)=false
 | .mk n c u::t,h,0,_=>by rw[nM,Bool.or_eq_false_iff] at h;exact h.1
 | .mk n c u::t,h,k+1,hk=>by rw[nM,Bool.or_eq_false_iff] at h;simpa using aoP t h.2 k (by simpa using hk)
theorem ad6 {A:Ex->Pr->Bool} {n:BA} {c:Ex} {u:List Wb} {q:Bool} {p:Pr} {us:List Rs} (hA:A c p=true):I8 A n c u (.mk n q p us)=(if (!p.value||u.isEmpty)=true then q==p.value&&us.isEmpty else if q=true then (qK A u).1 us else api (qK A u).2 us):=by
 unfold I8 abz;simp only[hA];simp
theorem ahD {w0 w W:World} {bd Bc:Nat} {r:Rs} {v:jf} (hb:W.heap[Bc]?=some (.cells #[.string ⟨#[]⟩,.bool false,.bool false,.int .i64 0,.slice none 0 0,.slice none 0 0] 69 (0,0))) (hd:cg w0 W bd) (hc:ct [bd] w W) (h1:w.heap.size<=Bc) (h2:bd≠Bc) (h3:w0.heap.size<=Bc) (hr:kC (mask W (Bc::List.range w.heap.size)) r v) :
  (fA W Bc (.string v.name) (.bool v.dg) (.bool v.p.value) (.int .i64 v.p.pick) (.slice v.p.a v.p.n v.p.c) (.slice v.a v.n v.c)).heap[Bc]?=some (.cells #[.string v.name,.bool v.dg,.bool v.p.value,v.p.pick,.slice v.p.a v.p.n v.p.c,.slice v.a v.n v.c] 69 (0,0))/\kC (mask (fA W Bc (.string v.name) (.bool v.dg) (.bool v.p.value) (.int .i64 v.p.pick) (.slice v.p.a v.p.n v.p.c) (.slice v.a v.n v.c)) (List.range w.heap.size)) r v/\cg w0 (fA W Bc (.string v.name) (.bool v.dg) (.bool v.p.value) (.int .i64 v.p.pick) (.slice v.p.a v.p.n v.p.c) (.slice v.a v.n v.c)) bd/\ct [bd] w (fA W Bc (.string v.name) (.bool v.dg) (.bool v.p.value) (.int .i64 v.p.pick) (.slice v.p.a v.p.n v.p.c) (.slice v.a v.n v.c)):=by
 have hp:ct [Bc] W (fA W Bc (.string v.name) (.bool v.dg) (.bool v.p.value) (.int .i64 v.p.pick) (.slice v.p.a v.p.n v.p.c) (.slice v.a v.n v.c)):=fe W Bc;exact⟨fH hb,(kC.mono hr (cF hp (fun y hy=>aoX (by rw[aG.1 hy];simp)))).mono (cM _ (fun y hy=>aZ _ hy)),hd.cR hp (by simpa using h2) (fun y hy=>by rw[aG.1 hy];exact h3),hc.trans hp (fun y hy=>a4Z (by rw[aG.1 hy];exact h1))⟩
theorem arq {s:List Attr} {l:List cK} {f:ZI} {w0:World} {bd:Nat} {sa:OA} {sn sc:Nat} {a:OA} {n c:Nat} {fa:OA} {fn:Nat} (fc:Nat):∀(m:Nat) (cond:Ex) (u:List Wb) (nm:BA) (x:dK) (au:OA) (nu cu:Nat) (w:World),mH u<=m->ajF s l f w0 bd sa sn sc a n c fa fn w->Pv s l cond->jY (Pv s l) u->mH u<=1000000->ahS w bd cond u x au nu cu ->
  Calls Tryz.prog 102 #[.pointer (some ⟨bd,0,none⟩),.agg #[.slice sa sn sc],.slice a n c,.agg #[.string nm,x.op,.string x.name,.slice x.aw x.nw x.cw,x.lo,x.hi,.slice x.aa x.na x.ca,.slice au nu cu],.slice fa fn fc] w (BkQ (PbK (CY s l f) nm cond u) w0 bd w):=by
 intro m;induction m using Nat.strongRecOn with
 | _ m ih =>
 intro cond u nm x au nu cu w hm h hp hok ZW hb;have vC:=ql u;have HRC:=ai (fun (k:Nat) (hk:k<u.length) (v:Cz) (W:World) (hW:ct [bd] w W) (hd:cg w0 W bd) (hn:v.name=u[k].name) (hbk:ahS W bd u[k].cond u[k].gH v.x v.au v.nu v.cu)=>show Calls Tryz.prog 102 #[.pointer (some ⟨bd,0,none⟩),.agg #[.slice sa sn sc],.slice a n c,.agg #[.string v.name,v.x.op,.string v.x.name,.slice v.x.aw v.x.nw v.x.cw,v.x.lo,v.x.hi,.slice v.x.aa v.x.na v.x.ca,.slice v.au v.nu v.cu],.slice fa fn fc] W (BkQ (PbK (CY s l f) u[k].name u[k].cond u[k].gH) w0 bd W) from by
  have hat:=zw u k hk;obtain⟨q1,q2,q3⟩:=j7 u hok k hk;refine(ih (mH u[k].gH) (by omega) u[k].cond u[k].gH v.name v.x v.au v.nu v.cu W (aU _) (h.cR hW hd) q1 q2 (by omega) hbk).mono fun e w' q=>?_
  rw[<-hn];exact q)
 have HTB:=ai (fun (k:Nat) (hk:k<u.length) (v:Cz) (W:World) (hW:ct [bd] w W) (hd:cg w0 W bd) (hbk:ahS W bd u[k].cond u[k].gH v.x v.au v.nu v.cu)=>acs fc (h.cR hW hd) v.name hbk (j7 u hok k hk).1 (j7 u hok k hk).2.1 (by rw[hbk.len];exact(j7 u hok k hk).2.2));have aI0:=ai (fun (W:World) (hW:ct [bd] w W) (hd:cg w0 W bd)=>acs fc (h.cR hW hd) nm (hb.cR hW) hp hok (by have:=hb.len;omega));have HPR:=ai (fun (W:World) (hW:ct [bd] w W) (hd:cg w0 W bd)=>show Calls Tryz.prog 132 #[.pointer (some ⟨bd,0,none⟩),.agg #[.slice sa sn sc],.slice a n c,x.val,.slice fa fn fc] W (aic (fun p=>CY s l f cond p=true/\p.iT 1000000) w0 bd (List.range W.heap.size) W) from aav s l f (lK h.ok) h.fac h.fit a n c fa fn fc sa sn sc w0 bd (l.length+1) 300 cond x.val (List.range W.heap.size) W hp.2.2.2 (by omega) hp.1 hp.2.1 hp.2.2.1 (by simp) hd (h.dat.cR hW) (hb.cR hW).ex);have HS:=ai (fun (e:Ex) (p:Pr) (h:CY s l f e p=true)=>akf h);obtain⟨A,hA⟩:∃A,A=CY s l f:=⟨_,rfl⟩
 obtain⟨V,hV⟩:∃V,V=val s l f:=⟨_,rfl⟩
 rw[<-hA] at HRC HPR HS ⊢;rw[<-hV] at HTB aI0 HS;have HBK:=ai hb;have qB:=ai hb.len;have HNU:=ai (show nu<=1000000 by have:=hb.len;omega);have yz:=ai h.oA;have pF:=ai (show bd<w.heap.size/\w0.heap.size<=bd from⟨h.oA.lt,by obtain⟨_,_,_,_,_,_,_,_,_,q⟩:=h.oA;exact q⟩);obtain⟨Q,hQ⟩:∃Q,Q=(V cond&&!nM V u):=⟨_,rfl⟩
 rw[<-hQ] at aI0;have HQ:=ai hQ;clear ih hm h hp hok ZW hb vC hA hV hQ;unfold dK.val fN at HPR;obtain⟨n0,hn0⟩:∃n0,n0=w.heap.size:=⟨_,rfl⟩
 obtain⟨w3,hw3⟩:∃w3,w3=((w.alloc (.cells #[.slice sa sn sc] 24)).alloc (.cells #[.string nm,x.op,.string x.name,.slice x.aw x.nw x.cw,x.lo,x.hi,.slice x.aa x.na x.ca,.slice au nu cu] 53)).alloc (.cells #[.string ⟨#[]⟩,.bool false,.bool false,.int .i64 0,.slice none 0 0,.slice none 0 0] 69):=⟨_,rfl⟩
 have dS:=ai (show Ext w w3 by rw[hw3];exact(((Tz _).alloc _).alloc _).alloc _);have H63:=ai (show w3.heap[n0]?=some (.cells #[.slice sa sn sc] 24 (0,0)) by rw[hw3,hn0];exact bU (bU (bR w _)));have H83:=ai (show w3.heap[n0+1]?=some (.cells #[.string nm,x.op,.string x.name,.slice x.aw x.nw x.cw,x.lo,x.hi,.slice x.aa x.na x.ca,.slice au nu cu] 53 (0,0)) by rw[hw3,hn0];exact bU (cT (by simp)));have aU8:=ai (show w3.heap[n0+2]?=some (.cells #[.string ⟨#[]⟩,.bool false,.bool false,.int .i64 0,.slice none 0 0,.slice none 0 0] 69 (0,0)) by rw[hw3,hn0];exact cT (by simp));obtain⟨n3,hn3⟩:∃n3,n3=w3.heap.size:=⟨_,rfl⟩
 have HN:=ai (show n0=w.heap.size/\n3=n0+3/\n3=w3.heap.size from⟨hn0,by rw[hn3,hw3,hn0];simp,hn3⟩);have YH:=ai (show n0∉[bd] by have:=pF.o.1;simp;omega);have HN8:=ai (show n0+1∉[bd] by have:=pF.o.1;simp;omega);have aN9:=ai (show n0+2∉[bd] by have:=pF.o.1;simp;omega);go_enter Tryz.func102,Tryz.ntmps102
 go_upto_region 1 with fail;rw[<-hw3,<-hn0];clear hw3 hn0 hn3;obtain⟨s0,sf⟩:=dO H63.o;obtain⟨f0,f1,f2,f3,f4,f5,f6,f7,ff⟩:=oO H83.o;obtain⟨D0,D1,D2,D3,D4,D5⟩:=wgn6 HN8.o f0 f1 f2 f3 f4 f5;have D6:=cU f6 HN8.o;have D7:=cU f7 HN8.o;have C0:=cU s0 YH.o;refine kG (m:=17) (Er:=ErK bd w3.heap.size) (C:=ct [bd] w3) (Φ:=fun W=>cg w0 W bd) (ErK.refl _ _) (fun _ _ h=>ErK.of h) (fun _ _ h q=>ErK.cR h q) ((Tz w3).drew.cR _) ((yz.o.ext dS.o).ext (Tz w3).drew) (fun _ _ hx h=>h.ext hx) ?_
 repeat (refine bZ ?_;intro K hK;go_big_quiet_op;go_big_quiet_on)
 refine fZ (.bool Q) (fun W=>cg w0 W bd) (fun W hW hd _=>?_) (fun _ _ hx h=>h.ext hx) ?_
 ·unfold bQ;go_simp;refine(aI0.o W ((dS.o.cR _).then hW) hd).mono ?_;rintro r wz ⟨rfl,hz⟩;exact⟨_,rfl,ErK.of hz,rfl,hd.ext hz⟩
 intro K hK;go_simp;go_big_quiet_on
 repeat (refine bZ ?_;intro K hK;go_big_quiet_op;go_big_quiet_on)
 refine yK (γ:=Pr×gS×Nat×Nat) (fun x=>.agg #[.bool x.2.1.value,x.2.1.pick,.slice x.2.1.a x.2.1.n x.2.1.c]) (fun x W=>cg w0 W bd/\(A cond x.1=true/\x.1.iT 1000000)/\∀g,(g<x.2.2.1\/x.2.2.2<=g)->gL (mask W (g::List.range n3)) x.1 x.2.1) (fun x g=>g<x.2.2.1\/x.2.2.2<=g) (fun W hW hd _=>?_) (fun x W W' hx h=>⟨h.1.ext hx,h.2.1,fun g hg=>(h.2.2 g hg).mono (cF (hx.cR []) (by simp))⟩) ?_ ⟨(.mk false 0 [],⟨false,0,none,0,0⟩,0,0)⟩
 ·unfold bQ;go_simp;have hsz:=hW.size;refine(HPR.o W ((dS.o.cR _).then hW) hd).mono ?_;rintro r wz ⟨p,pv,rfl,hpp,Ll,hdz,U0⟩;exact⟨_,rfl,ErK.oA U0,(p,pv,W.heap.size,wz.heap.size),rfl,⟨hdz,hpp,fun g hg=>Ll.mono (Ch (fun y hy=>by have:=HN.o.2.2;rw[a43] at hy ⊢;omega) (hg.imp (fun h=>a43.2 h) id))⟩,fun g hg=>hg⟩
 rintro⟨p,⟨pb,pk,pa,pn,pc⟩,m0,m1⟩ K hK;go_simp;go_big_quiet_on
 repeat (refine bZ ?_;intro K hK;go_big_quiet_op;go_big_quiet_on)
 refine Jj (fun g=>.pointer (some ⟨g,0,none⟩)) (fun g W=>w3.heap.size<=g/\∃c,W.heap[g]?=some (.cells c 69 (0,0))/\c.size=6) (fun W hW=>?_) (fun g W W' he ⟨k1,c,k2,k3⟩=>?_) (fun _ _ h=>h.size) ?_
 ·unfold bQ;go_simp;exact⟨(Tz W).alloc _,W.heap.size,rfl,aU _,by simp,hW.size,_,bR W _,rfl⟩
 ·obtain⟨c',e1,e2⟩:=he.shape (by have:=pF.o.1;have:=HN.o;omega) k2 k3;exact⟨k1,c',e1,e2⟩
 intro eZ K hK;go_simp;go_big_quiet_on;refine fZ undef (fun W=>w3.heap.size<=eZ/\W.heap[eZ]?=some (.cells #[.string nm,.bool Q,.bool pb,pk,.slice pa pn pc,.slice none 0 0] 69 (0,0))/\cg w0 W bd/\(A cond p=true/\p.iT 1000000)/\gL (mask W (eZ::List.range n3)) p ⟨pb,pk,pa,pn,pc⟩) (fun W hW hq hF=>?_) (fun W W' hx q=>⟨q.1,hx.blk q.2.1,q.2.2.1.ext hx,q.2.2.2.1,q.2.2.2.2.mono (cF (hx.cR []) (by simp))⟩) ?_
 ·obtain⟨_,⟨Et,cc,hyb,hcs⟩,_,hA⟩:=hF;obtain⟨v0,v1,v2,v3,v4,v5,rfl⟩:=ahI hcs;obtain⟨z0,z1,z2,z3,z4,z5,zf⟩:=dH hyb;have HP:=ai (fH hyb (v0:=.string nm) (v1:=.bool Q) (v2:=.bool pb) (v3:=.int .i64 pk) (v4:=.slice pa pn pc) (v5:=.slice none 0 0));have HE:=ai (fe W eZ (v0:=.string nm) (v1:=.bool Q) (v2:=.bool pb) (v3:=.int .i64 pk) (v4:=.slice pa pn pc) (v5:=.slice none 0 0));have HY:=ai hyb;have HH:=ai (And.intro hq.1 (And.intro hq.2.1 (hq.2.2 eZ hA.2)));have HYL:=ai Et;clear hyb hq hA hcs Et;unfold fA at HP HE;unfold bQ;go_simp;exact⟨⟨[eZ],HE.o,fun k hk=>a4Z (by
   rw[aG.1 hk];exact⟨HYL.o,fun cs t hb _=>by
    rw[HY.o] at hb;simp only[a42,Obj.cells.injEq] at hb;obtain⟨_,rfl,_⟩:=hb;exact⟨_,HP.o,rfl⟩⟩)⟩,rfl,HYL.o,HP.o,HH.o.1.cR HE.o (by have:=pF.o.1;have:=HN.o;have:=HYL.o;simp;omega) (fun y hy=>by rw[aG.1 hy];have:=pF.o;have:=HN.o;have:=HYL.o;omega),HH.o.2.1,HH.o.2.2.mono (cF HE.o (fun y hy=>aoX (by rw[aG.1 hy];simp)))⟩
 intro K hK;go_simp;go_big_quiet_on;refine gC fun w4 hc4 hy _=>?_
 obtain⟨hlo,h11,Si,hpp,Ll⟩:=hy;have mo:=ai ((dS.o.cR [bd]).then hc4);have H64:=ai (hc4.blk H63.o YH.o);have H84:=ai (hc4.blk H83.o HN8.o);have awk:=ai (hc4.blk aU8.o aN9.o);have aA2:=ai h11;have CJ:=ai Si;have Rp:=ai hpp;have RY:=ai Ll;have Vp:=ai (show n3<=eZ/\n3<=w4.heap.size/\eZ<w4.heap.size from⟨by rw[HN.o.2.2];exact hlo,by rw[HN.o.2.2];exact hc4.size,bS h11⟩);have Gi:=ai (show pb=V cond by rw[<-HS.o cond p hpp.1];exact Ll.parts.1);have aI9:=ai (show p.value=pb from Ll.parts.1.symm);clear hc4 hlo h11 Si hpp Ll s0 sf f0 f1 f2 f3 f4 f5 f6 f7 ff C0 D0 D1 D2 D3 D4 D5 D6 D7 aI0 HPR H63 H83 aU8;obtain⟨r0,r1,r2,r3,r4,r5,rf⟩:=dH aA2.o;obtain⟨f0,f1,f2,f3,f4,f5,f6,f7,ff⟩:=oO H84.o;cases pb
 case false =>
  obtain⟨r0,r1,r2,r3,r4,r5,rf⟩:=dH aA2.o;obtain⟨q0,q1,q2,q3,q4,q5,qf⟩:=dH awk.o;have HF:=ai (ahD (r:=.mk nm Q p []) (v:=⟨nm,Q,⟨false,pk,pa,pn,pc⟩,none,0,0⟩) awk.o CJ.o mo.o (by have:=HN.o;omega) (by have:=pF.o;have:=HN.o;omega) (by have:=pF.o;have:=HN.o;omega) (Gc (RY.o.mono (cM _ (by intro y hy;have:=HN.o;simp only[bz,a43] at hy ⊢;omega))) (Fg _) _ _));have HM:=ai (show PbK A nm cond u (.mk nm Q p []) from(⟨by rw[ad6 Rp.o.1,aI9.o,HQ.o,<-Gi.o];simp,Rp.o.2,by simp[Rs.gH]⟩));go_wp2_with fail;obtain⟨wz,eV⟩:∃wz,wz=fA w4 (n0+2) (.string nm) (.bool Q) (.bool false) (.int .i64 pk) (.slice pa pn pc) (.slice none 0 0):=⟨_,rfl⟩
  rw[<-eV] at HF;unfold fA at eV;rw[<-eV];clear eV q0 q1 q2 q3 q4 q5 qf;obtain⟨q0,q1,q2,q3,q4,q5,qf⟩:=dH HF.o.1;refine a5a (v:=jf.val ⟨nm,Q,⟨false,pk,pa,pn,pc⟩,none,0,0⟩) (by simp[results,Tryz.results102,go_sem,jf.val,q0,q1,q2,q3,q4,q5]) rfl ?_;exact⟨_,_,rfl,HM.o,HF.o.2.1,HF.o.2.2.1,HF.o.2.2.2⟩
 by_cases hn0:nu=0
 case pos =>
  have t2:((nu:Int)==0)=true:=by simp[hn0]
  have HU:=ai (show u=[] from aR (by have:=qB.o;omega));clear hn0;obtain⟨r0,r1,r2,r3,r4,r5,rf⟩:=dH aA2.o;obtain⟨q0,q1,q2,q3,q4,q5,qf⟩:=dH awk.o;have HF:=ai (ahD (r:=.mk nm Q p []) (v:=⟨nm,Q,⟨true,pk,pa,pn,pc⟩,none,0,0⟩) awk.o CJ.o mo.o (by have:=HN.o;omega) (by have:=pF.o;have:=HN.o;omega) (by have:=pF.o;have:=HN.o;omega) (Gc (RY.o.mono (cM _ (by intro y hy;have:=HN.o;simp only[bz,a43] at hy ⊢;omega))) (Fg _) _ _));have HM:=ai (show PbK A nm cond u (.mk nm Q p []) from(⟨by rw[ad6 Rp.o.1,aI9.o,HQ.o,<-Gi.o,HU.o,nM];simp,Rp.o.2,by simp[Rs.gH]⟩));go_wp2_with fail;obtain⟨wz,eV⟩:∃wz,wz=fA w4 (n0+2) (.string nm) (.bool Q) (.bool true) (.int .i64 pk) (.slice pa pn pc) (.slice none 0 0):=⟨_,rfl⟩
  rw[<-eV] at HF;unfold fA at eV;rw[<-eV];clear eV q0 q1 q2 q3 q4 q5 qf;obtain⟨q0,q1,q2,q3,q4,q5,qf⟩:=dH HF.o.1;refine a5a (v:=jf.val ⟨nm,Q,⟨true,pk,pa,pn,pc⟩,none,0,0⟩) (by simp[results,Tryz.results102,go_sem,jf.val,q0,q1,q2,q3,q4,q5]) rfl ?_;exact⟨_,_,rfl,HM.o,HF.o.2.1,HF.o.2.2.1,HF.o.2.2.2⟩
 have t2:((nu:Int)==0)=false:=by simp;omega
 have Ro:=ai (show Q=!nM V u by rw[HQ.o,<-Gi.o];rfl);have HUE:=ai (show u.isEmpty=false by
  cases hu:u with
  | nil=>have:=qB.o;rw[hu] at this;simp at this;omega
  | cons y t=>rfl)
 have HN0:=ai (show 0<nu by omega);clear hn0 HQ Gi;cases Q
 case true =>
  have HWF:=ai (show nM V u=false by have:=Ro.o;simpa using this.symm);go_wp2_with fail;clear r0 r1 r2 r3 r4 r5 rf f0 f1 f2 f3 f4 f5 f6 f7 ff;go_loopw [12] (fun i wr=>∃(k:Nat) (L:List Rs) (vs:List jf) (ua:OA) (uc:Nat),i=.int .i64 k/\k<=nu/\L.length=k/\wr.heap[eZ]?=some (.cells #[.string nm,.bool true,.bool true,pk,.slice pa pn pc,.slice ua k uc] 69 (0,0))/\gL (mask wr (eZ::rowOf (.slice ua k uc)++List.range n3)) p ⟨true,pk,pa,pn,pc⟩/\wr.ownsRow w4.heap.size 69 6 (.slice ua k uc) k (vs.flatMap jf.cells)/\mj (mask wr (eZ::rowOf (.slice ua k uc)++List.range n3)) L vs/\(∀j (h1:j<u.length) (h2:j<L.length),L[j].dg=false/\I8 A u[j].name u[j].cond u[j].gH L[j]=true)/\cg w0 wr bd/\ct [bd,eZ] w4 wr) (fun i _=>nu - (intOf i).toNat)
  case atStart=>exact⟨0,[],[],none,0,rfl,Nat.zero_le _,rfl,aA2.o,RY.o,a4' _ _ _ _,mj.nil _,fun j _ h=>by simp at h,CJ.o,ct.refl _ _⟩
  case round =>
   obtain⟨k,L,vs,ua,uc,rfl,hk,hL,h11,Ll,how,sq,hmt,hd,hc⟩:=hrel;have nS:=ai (mo.o.trans hc (fun y hy=>by
    simp only[bz,bC,or_false] at hy;rcases hy with rfl|rfl
    ·exact aoX (by simp)
    have:=Vp.o;have:=HN.o;exact a4Z (by omega)))
   have hnb:∀y,y=n0\/y=n0+1\/y=n0+2->y∉[bd,eZ]:=fun y hy=>by have:=Vp.o;have:=HN.o;have:=pF.o;simp;omega
   have H6r:=ai (hc.blk H64.o (hnb _ (aoX rfl)));have H8r:=ai (hc.blk H84.o (hnb _ (a4Z (aoX rfl))));have aU6:=ai (hc.blk awk.o (hnb _ (a4Z (a4Z rfl))));have aO5:=ai h11;have aTS:=ai Ll;have HOW:=ai how;have CA:=ai sq;have HMT:=ai hmt;have HDr:=ai hd;have QI:=ai hL;have tR:=ai hc.size;have HCr:=ai hc;clear h11 Ll how sq hmt hd hc hL hnb;by_cases hkn:k<nu
   ·have fq:k<u.length:=by have:=qB.o;omega
    have t1:=ag ((k:Int)<(nu:Int));have tk0:(0:Int)<=(k:Int):=by omega
    have tk1:(k:Int)<(nu:Int):=by omega
    obtain⟨b,off,rfl,rO,v,Co,hrow,hbk⟩:=HBK.o.at fq;have DK:b<w.heap.size:=eB hrow.eight.1;have OO:=ai (fun (W:World) (hW:ct [bd] wr W) (hd:cg w0 W bd)=>HRC.o k fq v W (nS.o.then hW) hd Co (hbk.cR (nS.o.then hW)));obtain⟨c0,c1,c2,c3,c4,c5,c6,c7⟩:=hrow.eight
    replace c0:=nS.o.cell c0 rO
    replace c1:=nS.o.cell c1 rO
    replace c2:=nS.o.cell c2 rO
    replace c3:=nS.o.cell c3 rO
    replace c4:=nS.o.cell c4 rO
    replace c5:=nS.o.cell c5 rO
    replace c6:=nS.o.cell c6 rO
    replace c7:=nS.o.cell c7 rO
    obtain⟨P,hP⟩:∃P,P=PbK A u[k].name u[k].cond u[k].gH:=⟨_,rfl⟩
    rw[<-hP] at OO;have RV:=ai (aoP u HWF.o k fq);have HPX:=ai (show ∀X,P X->X.dg=false/\I8 A u[k].name u[k].cond u[k].gH X=true from fun X hX=>by
     rw[hP] at hX;exact⟨by rw[(PK HS.o (zN HS.o _).1 (zN HS.o _).2 hX.1).1];exact RV.o,hX.1⟩)
    clear hP Co hrow hbk;obtain⟨f0,f1,f2,f3,f4,f5,f6,f7,ff⟩:=oO H8r.o;go_upto_region 8 with fail;obtain⟨N,hN⟩:∃N,N=rowOf (.slice ua k uc):=⟨_,rfl⟩
    have qY:=ai (show ∀y∈N,w4.heap.size<=y/\y<wr.heap.size from fun y hy=>by rw[hN] at hy;exact HOW.o.lt y (bV.1 hy));have pX:=ai (show bd∉N/\eZ∉N/\bd≠eZ from⟨fun hm=>by have:=(qY.o _ hm).1;have:=Vp.o;have:=HN.o;have:=pF.o;omega,fun hm=>by have:=(qY.o _ hm).1;have:=Vp.o;omega,by have:=Vp.o;have:=HN.o;have:=pF.o;omega⟩);have hnn:∀y,y<w4.heap.size->y≠bd->y∉bd::N:=fun y h1 h2 hm=>by
     rcases bz.1 hm with h|h
     ·exact h2 h
     have:=(qY.o _ h).1;omega
    have hn6:n0∉bd::N:=hnn _ (by have:=Vp.o;have:=HN.o;omega) (by have:=HN.o;have:=pF.o;omega);have hn8:n0+1∉bd::N:=hnn _ (by have:=Vp.o;have:=HN.o;omega) (by have:=HN.o;have:=pF.o;omega);have aQA:eZ∉bd::N:=hnn _ (by have:=Vp.o;omega) (by have:=pX.o.2.2;omega);have hnb:b∉bd::N:=hnn _ (by have:=Vp.o;have:=HN.o;omega) (by simpa using rO);have qP:=ai hN;have Uk:=ai (show ∀(W:World),ct [bd] wr W->∀y∈eZ::N++List.range n3,y∈List.range W.heap.size from fun W hW y hy=>by
     have h1:=hW.size;have h2:=tR.o;have h3:=Vp.o;rw[a43];simp only[a48,bz,aN,a43] at hy;rcases hy with rfl|hy|hy
     ·omega
     ·have:=(qY.o y hy).2;omega
     omega)
    clear hN;obtain⟨s0,sf⟩:=dO H6r.o;obtain⟨r0,r1,r2,r3,r4,r5,rf⟩:=dH aO5.o;have S0:=cU s0 hn6;obtain⟨F5,F6,F7⟩:=wgn3 hn8 f5 f6 f7;have R5:=cU r5 aQA;obtain⟨C0,C1,C2,C3,C4,C5⟩:=wgn6 hnb c0 c1 c2 c3 c4 c5;have C6:=cU c6 hnb;have C7:=cU c7 hnb;clear hnn hn6 hn8 aQA hnb rO DK;refine pT 15 (bd::N) (fun W=>ct [bd] wr W/\cg w0 W bd) ⟨(Tz wr).drew.cR _,HDr.o.ext (Tz wr).drew⟩ (fun _ _ hx h=>⟨h.1.then (hx.cR _),h.2.ext hx⟩) ?_
    repeat (refine bZ ?_;intro K hK;go_big_quiet_op;go_big_quiet_on)
    refine dP (γ:=Rs×jf) (fun x=>.agg #[.string x.2.name,.bool x.2.dg,.bool x.2.p.value,x.2.p.pick,.slice x.2.p.a x.2.p.n x.2.p.c,.slice x.2.a x.2.n x.2.c]) (fun x W=>(ct [bd] wr W/\cg w0 W bd)/\P x.1/\kC (mask W (eZ::N++List.range n3)) x.1 x.2) (fun W hW h _=>?_) (fun x W W' hx h=>⟨⟨h.1.1.then (hx.cR _),h.1.2.ext hx⟩,h.2.1,kC.mono h.2.2 (cF (hx.cR []) (by simp))⟩) ?_ ⟨(.mk ⟨#[]⟩ false (.mk false 0 []) [],⟨⟨#[]⟩,false,⟨false,0,none,0,0⟩,none,0,0⟩)⟩
    ·unfold bQ;go_simp;refine(OO.o W h.1 h.2).mono ?_;rintro r wz ⟨X,xv,rfl,hp,hi,hd,hc⟩;exact⟨_,rfl,hc.weak (by simp),(X,xv),rfl,⟨h.1.then hc,hd⟩,hp,kC.mono hi (cM _ (Uk.o W h.1))⟩
    rintro⟨X,vn,Q',qv,va,vm,vc⟩ K hK;go_simp;go_big_quiet_on
    repeat (refine bZ ?_;intro K hK;go_big_quiet_op;go_big_quiet_on)
    refine dP (γ:=Nat) (fun g=>.slice (some ⟨g,0,none⟩) 1 1) (fun g W=>(ct [bd] wr W/\cg w0 W bd)/\P X/\iE (mask W (eZ::N++List.range n3)) [X] (some ⟨g,0,none⟩) 1 1) (fun W hW h _=>?_) (fun x W W' hx h=>⟨⟨h.1.1.then (hx.cR _),h.1.2.ext hx⟩,h.2.1,h.2.2.mono (cF (hx.cR []) (by simp))⟩) ?_ ⟨0⟩
    ·have HH:=ai h;have HYY:=ai (show ∀y∈eZ::N++List.range n3,y<W.heap.size from fun y hy=>a43.1 (Uk.o W h.1.1 y hy));clear h;unfold bQ;go_simp;exact⟨((Tz W).alloc _).cR _,W.heap.size,rfl,⟨HH.o.1.1.then (((Tz W).alloc _).cR _),HH.o.1.2.ext ((Tz W).alloc _)⟩,HH.o.2.1,Jw (v:=⟨vn,Q',qv,va,vm,vc⟩) (bR W _) (fun hm=>a40 (HYY.o _ hm) (by omega)) (kC.mono HH.o.2.2 (cF (((Tz W).alloc _).cR []) (by simp)))⟩
    rintro g K hK;go_simp;go_big_quiet_on
    repeat (refine bZ ?_;intro K hK;go_big_quiet_op;go_big_quiet_on)
    refine dP (γ:=OA×Nat×List jf) (fun x=>.slice x.1 (k+1) x.2.1) (fun x W=>(ct (bd::N) wr W/\cg w0 W bd)/\P X/\W.ownsRow w4.heap.size 69 6 (.slice x.1 (k+1) x.2.1) (k+1) ((vs++x.2.2).flatMap jf.cells)/\mj (mask W (eZ::rowOf (.slice x.1 (k+1) x.2.1)++List.range n3)) (L++[X]) (vs++x.2.2)/\gL (mask W (eZ::rowOf (.slice x.1 (k+1) x.2.1)++List.range n3)) p ⟨true,pk,pa,pn,pc⟩) (fun W hW h _=>?_) (fun x W W' hx h=>⟨⟨h.1.1.then (hx.cR _),h.1.2.ext hx⟩,h.2.1,cO h.2.2.1 (hx.cR []) (by simp),h.2.2.2.1.mono (cF (hx.cR []) (by simp)),h.2.2.2.2.mono (cF (hx.cR []) (by simp))⟩) ?_ ⟨(none,0,[])⟩
    ·obtain⟨us,hu1,hu2⟩:=h.2.2;refine Au _ _ w4.heap.size k ua uc vs us rfl (some ⟨g,0,none⟩) 1 1 rfl (by have:=HNU.o;omega) (cO HOW.o h.1.1 (fun q hq hm=>by rw[aG.1 hm] at hq;exact pX.o.1 (by rw[qP.o];exact bV.2 hq))) (hu2.mono (cC _ _)) (by have:=h.1.1.size;have:=tR.o;omega) ?_;intro a' c' w' ho hc hg;have hkp:Sub (mask W (eZ::N++List.range n3)) (mask w' (eZ::rowOf (.slice a' (k+1) c')++List.range n3)):=by
      rw[qP.o];exact Tq hc hg (fun y hy=>by simp[hy]) (fun y hy=>by
       simp only[a48,bz,aN] at hy ⊢;rcases hy with h|h|h
       ·exact aoX (aoX h)
       ·exact a4Z h
       exact aoX (a4Z (a4Z h)))
     have hkw:Sub (mask wr (eZ::N++List.range n3)) (mask W (eZ::N++List.range n3)):=cF h.1.1 (fun y hy=>by rw[aG.1 hy];have:=HN.o;have:=pF.o;simp;omega);rw[<-qP.o] at hc;have hr0:=CA.o;have Yy:=aTS.o;rw[<-qP.o] at hr0 Yy;exact⟨hc.weak (fun y hy=>aZ _ hy),(a',c',us),rfl,⟨(h.1.1.weak (by simp)).then (hc.weak (fun y hy=>aZ _ hy)),h.1.2.cR hc pX.o.1 (fun y hy=>by have:=(qY.o y hy).1;have:=Vp.o;have:=HN.o;have:=pF.o;omega)⟩,h.2.1,ho,mj.append ((hr0.mono hkw).mono hkp) (hu1.mono hkp),(Yy.mono hkw).mono hkp⟩
    rintro⟨ga,gc,us⟩ K hK;go_simp;go_big_quiet_on
    repeat (refine bZ ?_;intro K hK;go_big_quiet_op;go_big_quiet_on)
    refine nH fun w5 hc5 hy _=>?_
    obtain⟨⟨-,oW⟩,hpx,ho5,hl5,Iz⟩:=hy;dsimp only at ho5 hl5 Iz;clear S0 F5 F6 F7 R5 C0 C1 C2 C3 C4 C5 C6 C7 s0 sf c0 c1 c2 c3 c4 c5 c6 c7 f0 f1 f2 f3 f4 f5 f6 f7 ff;have aMD:=hc5.blk aO5.o (fun hm=>by rcases bz.1 hm with h|h;exact pX.o.2.2 h.symm;exact pX.o.2.1 h);obtain⟨w6,rH⟩:∃w6,w6=w5.setCell ⟨eZ,5,none⟩ (.slice ga (k+1) gc):=⟨_,rfl⟩
    have pI:ct [eZ] w5 w6:=by rw[rH];exact(ct.refl _ _).setCell (aoX (by simp)) _
    have hm6:∀M:ZN,Sub (mask w5 (eZ::M)) (mask w6 (eZ::M)):=fun M=>cF pI (fun y hy=>aoX (by rw[aG.1 hy];simp))
    have aO6:=ai (show w6.heap[eZ]?=some (.cells #[.string nm,.bool true,.bool true,pk,.slice pa pn pc,.slice ga (k+1) gc] 69 (0,0)) by rw[rH,aI _ _ _ _ _ _ aMD];simp);have CG:=ai (cO ho5 pI (fun q hq hm=>by rw[aG.1 hm] at hq;have:=(ho5.lt eZ hq).1;have:=Vp.o;omega));have RN:=ai (hl5.mono (hm6 _));have HI6:=ai (Iz.mono (hm6 _));have ER:=ai (oW.cR pI (by simpa using pX.o.2.2) (fun y hy=>by rw[aG.1 hy];have:=Vp.o;have:=HN.o;have:=pF.o;omega));have sK:=ai (show ct [bd,eZ] w4 w6 from(HCr.o.trans hc5 (fun y hy=>by
     rcases bz.1 hy with h|h
     ·exact aoX (by rw[h];simp)
     exact a4Z (qY.o y h).1)).trans pI (fun y hy=>aoX (by rw[aG.1 hy];simp)))
    have aYQ:=ai (HPX.o X hpx);have aWq:=HNU.o;clear hc5 oW hpx ho5 hl5 Iz pI hm6 r0 r1 r2 r3 r4 r5 rf;obtain⟨r0,r1,r2,r3,r4,r5,rf⟩:=dH aMD;go_upto_region 7 with fail;rw[<-rH];clear rH aMD r0 r1 r2 r3 r4 r5 rf;go_wp2_with fail;go_roundw
    case rel=>exact⟨k+1,L++[X],vs++us,ga,gc,by go_num,by omega,by rw[bg,QI.o];rfl,aO6.o,HI6.o,CG.o,RN.o,fun j h1 h2=>by
     by_cases hj:j<L.length
     ·rw[bD hj];exact HMT.o j h1 hj
     have e:j=L.length:=by simp at h2;omega
     subst e;have e2:L.length=k:=QI.o;subst e2;simpa using aYQ.o,ER.o,sK.o⟩
    case measure=>simp[intOf];omega
   have t1:=ah ((k:Int)<(nu:Int));have HKE:=ai (show k=u.length by have:=qB.o;omega);obtain⟨f0,f1,f2,f3,f4,f5,f6,f7,ff⟩:=oO H8r.o;obtain⟨r0,r1,r2,r3,r4,r5,rf⟩:=dH aO5.o;obtain⟨q0,q1,q2,q3,q4,q5,qf⟩:=dH aU6.o;have HF:=ai (ahD (r:=.mk nm true p L) (v:=⟨nm,true,⟨true,pk,pa,pn,pc⟩,ua,k,uc⟩) aU6.o HDr.o nS.o (by have:=HN.o;omega) (by have:=pF.o;have:=HN.o;omega) (by have:=pF.o;have:=HN.o;omega) (Gc (aTS.o.mono (cM _ (by intro y hy;have:=HN.o;simp only[a48,bz,aN,a43] at hy ⊢;omega))) (by rw[<-QI.o];exact tH (by rw[QI.o];exact HOW.o) rfl (fun q hq hm=>by have:=(HOW.o.lt q (by rw[<-QI.o];exact hq)).1;have:=Vp.o;have:=HN.o;simp only[bz,a43] at hm;omega) (CA.o.mono (cM _ (by intro y hy;have:=HN.o;simp only[a48,bz,aN,a43] at hy ⊢;omega)))) _ _));have HM:=ai (show PbK A nm cond u (.mk nm true p L) from(⟨by rw[ad6 Rp.o.1,aI9.o,HUE.o];exact aqy u L (by rw[QI.o,HKE.o]) HMT.o,Rp.o.2,by show L.length<=1000000;rw[QI.o];have:=HNU.o;omega⟩));go_wp2_with fail;obtain⟨wz,eV⟩:∃wz,wz=fA wr (n0+2) (.string nm) (.bool true) (.bool true) (.int .i64 pk) (.slice pa pn pc) (.slice ua k uc):=⟨_,rfl⟩
   rw[<-eV] at HF;unfold fA at eV;rw[<-eV];clear eV q0 q1 q2 q3 q4 q5 qf;obtain⟨q0,q1,q2,q3,q4,q5,qf⟩:=dH HF.o.1;refine a5a (v:=jf.val ⟨nm,true,⟨true,pk,pa,pn,pc⟩,ua,k,uc⟩) (by simp[results,Tryz.results102,go_sem,jf.val,q0,q1,q2,q3,q4,q5]) rfl ?_;exact⟨_,_,rfl,HM.o,HF.o.2.1,HF.o.2.2.1,HF.o.2.2.2⟩
 obtain⟨j0,hj0,hj1⟩:=aoN (V:=V) u (by have:=Ro.o;simpa using this.symm);have HJ:=ai hj1;have hjn:j0<nu:=by have:=qB.o;omega
 have aWq:=HNU.o;have Gj:=ai (dx CJ.o (nu:Int) (by have:=HN0.o;omega) (by omega));clear hj1 Ro;go_wp2_with fail;refine Gj.o.mono ?_;rintro r w5 ⟨z,rfl,hz0,hz1,oW,hc5⟩;obtain⟨k0,rfl⟩:∃k0:Nat,z=k0:=⟨z.toNat,by omega⟩
 have hk0:k0<nu:=by omega
 have pU:=ai (mo.o.then hc5);have uV:=ai oW;have H65:=ai (hc5.blk H64.o YH.o);have H85:=ai (hc5.blk H84.o HN8.o);have a0y:=ai (hc5.blk awk.o aN9.o);have ah3:=ai (show eZ∉[bd] by have:=Vp.o;have:=HN.o;have:=pF.o;simp;omega);have a0w:=ai (hc5.blk aA2.o ah3.o);have asL:=ai (RY.o.mono (cF hc5 (fun y hy=>by rw[aG.1 hy];have:=HN.o;have:=pF.o;simp;omega)));have tR:=ai hc5.size;clear oW hc5 hz0 hz1 Gj CJ mo H64 H84 awk aA2 RY r0 r1 r2 r3 r4 r5 rf f0 f1 f2 f3 f4 f5 f6 f7 ff t2;go_wp2_with fail;go_loopw [13] (fun i wr=>∃k:Nat,i=.int .i64 k/\k<nu/\Ext w5 wr) (fun i _=>(j0+nu - (intOf i).toNat) % nu)
 case atStart=>exact⟨k0,rfl,hk0,Tz _⟩
 case round =>
  obtain⟨k,rfl,hk,lM⟩:=hrel;have fq:k<u.length:=by have:=qB.o;omega
  have tk0:(0:Int)<=(k:Int):=by omega
  have tk1:(k:Int)<(nu:Int):=by omega
  have tn0:((nu:Int)==0)=false:=by simp;omega
  have gZ:=ai lM;have H6r:=ai (lM.blk H65.o);have H8r:=ai (lM.blk H85.o);have nS:=ai (pU.o.then (lM.cR [bd]));clear lM;obtain⟨b,off,rfl,rO,v,Co,hrow,hbk⟩:=HBK.o.at fq;have vt:=ai rO;have yy:=ai hrow;have a0d:=ai hbk;have Lg:=ai Co;obtain⟨c0,c1,c2,c3,c4,c5,c6,c7⟩:=hrow.eight
  replace c0:=nS.o.cell c0 rO
  replace c1:=nS.o.cell c1 rO
  replace c2:=nS.o.cell c2 rO
  replace c3:=nS.o.cell c3 rO
  replace c4:=nS.o.cell c4 rO
  replace c5:=nS.o.cell c5 rO
  replace c6:=nS.o.cell c6 rO
  replace c7:=nS.o.cell c7 rO
  obtain⟨T,hT⟩:∃T,T=(V u[k].cond&&!nM V u[k].gH):=⟨_,rfl⟩
  have HTK:=ai (fun (W:World) (hW:Ext wr W)=>HTB.o k fq v W (nS.o.then (hW.cR _)) ((uV.o.ext gZ.o).ext hW) (hbk.cR (nS.o.then (hW.cR _))));rw[<-hT] at HTK;have HT:=ai hT;clear hT rO Co hrow hbk;obtain⟨s0,sf⟩:=dO H6r.o;obtain⟨f0,f1,f2,f3,f4,f5,f6,f7,ff⟩:=oO H8r.o;obtain⟨S0,F5,F6,F7,C0,C1⟩:=wcn6 s0 f5 f6 f7 c0 c1;obtain⟨C2,C3,C4,C5,C6,C7⟩:=wcn6 c2 c3 c4 c5 c6 c7;go_upto_region 11 with fail;refine kT 10 ?_
  repeat (refine bZ ?_;intro K hK;go_big_quiet_op;go_big_quiet_on)
  refine mU (fun W hW=>HTK.o W hW) ?_;intro K hK;go_simp;go_big_quiet_on
  repeat (refine bZ ?_;intro K hK;go_big_quiet_op;go_big_quiet_on)
  refine gC fun w6 gN _ _=>?_
  have kR:=ai (gZ.o.trans gN);have H66:=ai (gN.blk H6r.o);have H86:=ai (gN.blk H8r.o);clear gN S0 F5 F6 F7 C0 C1 C2 C3 C4 C5 C6 C7 c0 c1 c2 c3 c4 c5 c6 c7 s0 sf f0 f1 f2 f3 f4 f5 f6 f7 ff H6r H8r HTK;cases T
  case false =>
   have hne:k≠j0:=fun e=>by subst e;have:=HT.o;rw[HJ.o] at this;cases this
   have hr:((k:Int)+1).tmod (nu:Int)=(((k+1) % nu:Nat):Int):=by
    rw[Int.tmod_eq_emod_of_nonneg (by omega)];norm_cast
   obtain⟨f0,f1,f2,f3,f4,f5,f6,f7,ff⟩:=oO H86.o;go_wp2_with fail;go_roundw
   case rel=>exact⟨(k+1) % nu,by first|rfl|(rw[hr])|(simp[hr])|(congr 1),(UB hk hjn hne).1,kR.o⟩
   case measure =>
    have:=(UB hk hjn hne).2;have hr2:(((k:Int)+1) % (nu:Int)).toNat=(k+1) % nu:=by
     have e:((k:Int)+1) % (nu:Int)=(((k+1) % nu:Nat):Int):=by norm_cast
     rw[e,Int.toNat_natCast]
    simpa[intOf,hr2] using this
  have sK:=ai (pU.o.then (kR.o.cR [bd]));have ER:=ai (uV.o.ext kR.o);have a0x:=ai (kR.o.blk a0y.o);have aO6:=ai (kR.o.blk a0w.o);have av':=ai (asL.o.mono (cF (kR.o.cR []) (by simp)));have asB:=ai (aV tR.o kR.o.size);have OO:=ai (fun (W:World) (hW:ct [bd] w6 W) (hd:cg w0 W bd)=>HRC.o k fq v W (sK.o.then hW) hd Lg.o (a0d.o.cR (sK.o.then hW)));obtain⟨c0,c1,c2,c3,c4,c5,c6,c7⟩:=yy.o.eight
  replace c0:=cU (sK.o.cell c0 vt.o) vt.o
  replace c1:=cU (sK.o.cell c1 vt.o) vt.o
  replace c2:=cU (sK.o.cell c2 vt.o) vt.o
  replace c3:=cU (sK.o.cell c3 vt.o) vt.o
  replace c4:=cU (sK.o.cell c4 vt.o) vt.o
  replace c5:=cU (sK.o.cell c5 vt.o) vt.o
  replace c6:=cU (sK.o.cell c6 vt.o) vt.o
  replace c7:=cU (sK.o.cell c7 vt.o) vt.o
  obtain⟨s0,sf⟩:=dO H66.o;obtain⟨f0,f1,f2,f3,f4,f5,f6,f7,ff⟩:=oO H86.o;have S0:=cU s0 YH.o;obtain⟨F5,F6,F7⟩:=wgn3 HN8.o f5 f6 f7;go_upto_region 13 with fail;refine pT 12 [bd] (fun W=>ct [bd] w6 W/\cg w0 W bd) ⟨(Tz w6).drew.cR _,ER.o.ext (Tz w6).drew⟩ (fun _ _ hx h=>⟨h.1.then (hx.cR _),h.2.ext hx⟩) ?_
  repeat (refine bZ ?_;intro K hK;go_big_quiet_op;go_big_quiet_on)
  refine dP (γ:=Rs×jf) (fun x=>.agg #[.string x.2.name,.bool x.2.dg,.bool x.2.p.value,x.2.p.pick,.slice x.2.p.a x.2.p.n x.2.p.c,.slice x.2.a x.2.n x.2.c]) (fun x W=>(ct [bd] w6 W/\cg w0 W bd)/\PbK A u[k].name u[k].cond u[k].gH x.1/\kC (mask W (List.range w6.heap.size)) x.1 x.2) (fun W hW h _=>?_) (fun x W W' hx h=>⟨⟨h.1.1.then (hx.cR _),h.1.2.ext hx⟩,h.2.1,kC.mono h.2.2 (cF (hx.cR []) (by simp))⟩) ?_ ⟨(.mk ⟨#[]⟩ false (.mk false 0 []) [],⟨⟨#[]⟩,false,⟨false,0,none,0,0⟩,none,0,0⟩)⟩
  ·unfold bQ;go_simp;have hsz:=h.1.size;refine(OO.o W h.1 h.2).mono ?_;rintro r wz ⟨X,xv,rfl,hp,hi,hd,hc⟩;exact⟨_,rfl,hc,(X,xv),rfl,⟨h.1.then hc,hd⟩,hp,kC.mono hi (cM _ (fun y hy=>by rw[a43] at hy ⊢;omega))⟩
  rintro⟨X,vn,Q',qv,va,vm,vc⟩ K hK;go_simp;go_big_quiet_on
  repeat (refine bZ ?_;intro K hK;go_big_quiet_op;go_big_quiet_on)
  refine dP (γ:=Nat) (fun g=>.slice (some ⟨g,0,none⟩) 1 1) (fun g W=>(ct [bd] w6 W/\cg w0 W bd)/\PbK A u[k].name u[k].cond u[k].gH X/\iE (mask W (List.range w6.heap.size)) [X] (some ⟨g,0,none⟩) 1 1) (fun W hW h _=>?_) (fun x W W' hx h=>⟨⟨h.1.1.then (hx.cR _),h.1.2.ext hx⟩,h.2.1,h.2.2.mono (cF (hx.cR []) (by simp))⟩) ?_ ⟨0⟩
  ·have HH:=ai h;have HYY:=ai h.1.1.size;clear h;unfold bQ;go_simp;exact⟨((Tz W).alloc _).cR _,W.heap.size,rfl,⟨HH.o.1.1.then (((Tz W).alloc _).cR _),HH.o.1.2.ext ((Tz W).alloc _)⟩,HH.o.2.1,Jw (v:=⟨vn,Q',qv,va,vm,vc⟩) (bR W _) (fun hm=>by have:=HYY.o;rw[a43] at hm;omega) (kC.mono HH.o.2.2 (cF (((Tz W).alloc _).cR []) (by simp)))⟩
  rintro g K hK;go_simp;go_big_quiet_on
  repeat (refine bZ ?_;intro K hK;go_big_quiet_op;go_big_quiet_on)
  refine nH fun w7 rE hy _=>?_
  obtain⟨⟨-,hd7⟩,hpx,hi7⟩:=hy;clear S0 F5 F6 F7 c0 c1 c2 c3 c4 c5 c6 c7 s0 sf f0 f1 f2 f3 f4 f5 f6 f7 ff;have aMC:=rE.blk aO6.o ah3.o;obtain⟨w8,gX⟩:∃w8,w8=w7.setCell ⟨eZ,5,none⟩ (.slice (some ⟨g,0,none⟩) 1 1):=⟨_,rfl⟩
  have iI:ct [eZ] w7 w8:=by rw[gX];exact(ct.refl _ _).setCell (aoX (by simp)) _
  have hbb:bd≠eZ:=by have:=Vp.o;have:=HN.o;have:=pF.o;omega
  have a0v:=ai (show w8.heap[eZ]?=some (.cells #[.string nm,.bool false,.bool true,pk,.slice pa pn pc,.slice (some ⟨g,0,none⟩) 1 1] 69 (0,0)) by rw[gX,aI _ _ _ _ _ _ aMC];simp);have aU7:=ai (iI.blk (rE.blk a0x.o aN9.o) (by have:=Vp.o;have:=HN.o;simp;omega));have YK:=ai (hd7.cR iI (by simpa using hbb) (fun y hy=>by rw[aG.1 hy];have:=Vp.o;have:=HN.o;have:=pF.o;omega));have CM:=ai ((sK.o.then rE).trans iI (fun y hy=>a4Z (by rw[aG.1 hy];have:=Vp.o;have:=HN.o;omega)));have HI8:=ai (av'.o.mono ((cF rE (fun y hy=>by rw[aG.1 hy];have:=HN.o;have:=pF.o;simp;omega)).trans (cF iI (fun y hy=>aoX (by rw[aG.1 hy];simp)))));have HR8:=ai (hi7.mono (cF iI (fun y hy=>aoX (by rw[aG.1 hy];have:=Vp.o;have:=asB.o;rw[a43];omega))));have HPX:=ai (show X.dg=true/\(qK A u).2 X=true from⟨by rw[(PK HS.o (zN HS.o _).1 (zN HS.o _).2 hpx.1).1];exact HT.o.symm,akv u k fq X hpx.1⟩);clear rE hd7 hpx hi7 iI;obtain⟨r0,r1,r2,r3,r4,r5,rf⟩:=dH aMC;go_upto_region 14 with fail;rw[<-gX];clear gX aMC r0 r1 r2 r3 r4 r5 rf;obtain⟨r0,r1,r2,r3,r4,r5,rf⟩:=dH a0v.o;obtain⟨q0,q1,q2,q3,q4,q5,qf⟩:=dH aU7.o;have HF:=ai (ahD (r:=.mk nm false p [X]) (v:=⟨nm,false,⟨true,pk,pa,pn,pc⟩,some ⟨g,0,none⟩,1,1⟩) aU7.o YK.o CM.o (by have:=HN.o;omega) (by have:=pF.o;have:=HN.o;omega) (by have:=pF.o;have:=HN.o;omega) (Gc (HI8.o.mono (cM _ (by intro y hy;have:=HN.o;simp only[bz,a43] at hy ⊢;omega))) (HR8.o.mono (cM _ (by intro y hy;have:=HN.o;have:=Vp.o;have:=asB.o;simp only[bz,a43] at hy ⊢;omega))) _ _));have HM:=ai (show PbK A nm cond u (.mk nm false p [X]) from(⟨by rw[ad6 Rp.o.1,aI9.o,HUE.o];show (X.dg&&(qK A u).2 X)=true;rw[HPX.o.1,HPX.o.2];rfl,Rp.o.2,by simp[Rs.gH]⟩));go_wp2_with fail;obtain⟨wz,eV⟩:∃wz,wz=fA w8 (n0+2) (.string nm) (.bool false) (.bool true) (.int .i64 pk) (.slice pa pn pc) (.slice (some ⟨g,0,none⟩) 1 1):=⟨_,rfl⟩
  rw[<-eV] at HF;unfold fA at eV;rw[<-eV];clear eV q0 q1 q2 q3 q4 q5 qf;obtain⟨q0,q1,q2,q3,q4,q5,qf⟩:=dH HF.o.1;refine a5a (v:=jf.val ⟨nm,false,⟨true,pk,pa,pn,pc⟩,some ⟨g,0,none⟩,1,1⟩) (by simp[results,Tryz.results102,go_sem,jf.val,q0,q1,q2,q3,q4,q5]) rfl ?_;exact⟨_,_,rfl,HM.o,HF.o.2.1,HF.o.2.2.1,HF.o.2.2.2⟩
end Go.Proofs.YtefjomofjejklaaGreatDoor
