/- Joined. -/
import Derived.Test.YtefjomofjejklaaGreatDoorDi20
namespace Go.Proofs.YtefjomofjejklaaGreatDoor
set_option maxRecDepth 100000
set_option maxHeartbeats 32000000
open Go.RowKit Go.Maps
structure ajF (s:List Attr) (l:List cK) (f:ZI) (w0:World) (bd:Nat) (sa:OA) (sn sc:Nat) (a:OA) (n c:Nat) (fa:OA) (fn:Nat) (w:World):Prop where
 ok:(cV s l).2=0
 fac:fW s f=true
 fit:∀x∈s,x.fits
 oA:cg w0 w bd
 dat:aGv s l f bd sa sn sc a n c fa fn w
theorem ajF.cR {s:List Attr} {l:List cK} {f:ZI} {w0:World} {bd:Nat} {sa:OA} {sn sc:Nat} {a:OA} {n c:Nat} {fa:OA} {fn:Nat} {w w':World} (h:ajF s l f w0 bd sa sn sc a n c fa fn w) (hc:ct [bd] w w') (hd:cg w0 w' bd):ajF s l f w0 bd sa sn sc a n c fa fn w':=⟨h.ok,h.fac,h.fit,hd,h.dat.cR hc⟩
structure ahS (w:World) (bd:Nat) (cond:Ex) (u:List Wb) (x:dK) (au:OA) (nu cu:Nat):Prop where
 ex:dw (mask w [bd]) cond x.val
 len:nu=u.length
 cap:nu<=cu
 adr:ny au cu
 gH:gK (mask w [bd]) u au
theorem ahS.cR {w w':World} {bd:Nat} {cond:Ex} {u:List Wb} {x:dK} {au:OA} {nu cu:Nat} (h:ahS w bd cond u x au nu cu) (hc:ct [bd] w w'):ahS w' bd cond u x au nu cu:=⟨h.ex.mono (cP hc (by simp)),h.len,h.cap,h.adr,gK.mono (cP hc (by simp)) _ _ h.gH⟩
theorem ahS.at {w:World} {bd:Nat} {cond:Ex} {u:List Wb} {x:dK} {au:OA} {nu cu:Nat} (h:ahS w bd cond u x au nu cu) {k:Nat} (hk:k<u.length):∃b off,au=some ⟨b,off,none⟩/\b∉[bd]/\∃v:Cz,v.name=u[k].name/\EM w b (off+k*8) v.cells/\ahS w bd u[k].cond u[k].gH v.x v.au v.nu v.cu:=by
 obtain⟨b,off,h1,v,h2,h3,h4,h5,h6,h7,h8⟩:=gK.at u _ h.gH k hk;obtain⟨c0,-⟩:=h3.eight;exact⟨b,off,h1,fun hm=>(by rw[eA,bM hm] at c0;cases c0),v,h2,h3.mono (cC _ _),h4,h5,h6,h7,h8⟩
theorem acs {s:List Attr} {l:List cK} {f:ZI} {w0:World} {bd:Nat} {sa:OA} {sn sc:Nat} {a:OA} {n c:Nat} {fa:OA} {fn:Nat} (fc:Nat) {w:World} (h:ajF s l f w0 bd sa sn sc a n c fa fn w) {cond:Ex} {u:List Wb} (nm:BA) {x:dK} {au:OA} {nu cu:Nat} (hb:ahS w bd cond u x au nu cu) (hp:Pv s l cond) (hok:jY (Pv s l) u) (ZW:nu<=1000000000000000) :
  Calls Tryz.prog 131 #[.agg #[.slice sa sn sc],.slice a n c,.agg #[.string nm,x.op,.string x.name,.slice x.aw x.nw x.cw,x.lo,x.hi,.slice x.aa x.na x.ca,.slice au nu cu],.slice fa fn fc] w (cz (.bool (val s l f cond&&!nM (val s l f) u)) w):=by
 have hs:=cC w [bd];have hv:=Dg h.ok h.fac h.fit fc (h.dat.1.mono hs) (h.dat.2.1.mono hs) (h.dat.2.2.mono hs);have Gl:=ai (fun W (hW:Ext w W)=>tJ hv.tr (.mk 0 ⟨#[]⟩ cond u 0) ⟨0,⟨#[]⟩,x,au,nu,cu,0⟩ W hW hp hok (by rw[<-hb.len];exact ZW) ⟨rfl,rfl,(hb.ex.mono hs).ext hW,hb.len,hb.cap,hb.adr,gK.mono (hs.trans hW.sub) _ _ hb.gH,rfl⟩);obtain⟨Q,hQ⟩:∃Q,Q=ke (jN s l f (l.length+1)) (.mk 0 ⟨#[]⟩ cond u 0):=⟨_,rfl⟩
 rw[<-hQ] at Gl;have HQ:=ai (show Q=(val s l f cond&&!nM (val s l f) u) from hQ);rw[<-HQ.o];clear h hb hp hok hs hv hQ;obtain⟨wa,cN⟩:∃wa,wa=(w.alloc (.cells #[.slice sa sn sc] 24)).alloc (.cells #[.string nm,x.op,.string x.name,.slice x.aw x.nw x.cw,x.lo,x.hi,.slice x.aa x.na x.ca,.slice au nu cu] 53):=⟨_,rfl⟩
 have dm:=ai (show Ext w wa by rw[cN];exact((Tz _).alloc _).alloc _);obtain⟨s0,sf⟩:=dO (show wa.heap[w.heap.size]?=some (.cells #[.slice sa sn sc] 24 (0,0)) by rw[cN];exact bU (bR w _));obtain⟨f0,f1,f2,f3,f4,f5,f6,f7,ff⟩:=oO (show wa.heap[w.heap.size+1]?=some (.cells #[.string nm,x.op,.string x.name,.slice x.aw x.nw x.cw,x.lo,x.hi,.slice x.aa x.na x.ca,.slice au nu cu] 53 (0,0)) by rw[cN];exact cT (by simp));go_enter Tryz.func131,Tryz.ntmps131
 go_upto_region 1 with fail
 rw[<-cN];clear cN;go_wp2_with fail
 refine(Gl.o wa dm.o).mono ?_;rintro r w1 ⟨rfl,hx1⟩;have dI:=ai (dm.o.trans hx1);clear hx1 s0 sf f0 f1 f2 f3 f4 f5 f6 f7 ff;go_wp2_with fail
 go_ret;exact bW rfl dI.o
def BkQ (P:Rs->Prop) (w0:World) (bd:Nat) (w:World) (e:Ending) (w':World):Prop:=∃(r:Rs) (rv:jf),e=.returned rv.val/\P r/\kC (mask w' (List.range w.heap.size)) r rv/\cg w0 w' bd/\ct [bd] w w'
def PbK (A:Ex->Pr->Bool) (n:BA) (c:Ex) (u:List Wb) (r:Rs):Prop:=I8 A n c u r=true/\r.proof.iT 1000000/\r.gH.length<=1000000
def ErK (bd base:Nat) (W W':World):Prop:=∃N,ct N W W'/\∀k∈N,k=bd\/(base<=k/\∀cs t,W.heap[k]?=some (.cells cs t (0,0))->cs.size=6->∃cs',W'.heap[k]?=some (.cells cs' t (0,0))/\cs'.size=6)
theorem ErK.refl (bd base:Nat) (W:World):ErK bd base W W:=⟨[],ct.refl _ _,fun k hk=>by simp at hk⟩
theorem ErK.of {bd base:Nat} {W W':World} (h:Ext W W'):ErK bd base W W':=⟨[],h.cR [],fun k hk=>by simp at hk⟩
theorem ErK.oA {bd base:Nat} {W W':World} (h:ct [bd] W W'):ErK bd base W W':=⟨[bd],h,fun k hk=>aoX (by simpa using hk)⟩
theorem ErK.cR {bd:Nat} {w W W':World} (h:ct [bd] w W) (he:ErK bd w.heap.size W W'):ct [bd] w W':=by
 obtain⟨N,hc,hN⟩:=he;exact h.trans hc fun y hy=>(hN y hy).imp (fun e=>by rw[e];simp) (fun e=>e.1)
theorem ErK.size {bd base:Nat} {W W':World} (h:ErK bd base W W'):W.heap.size<=W'.heap.size:=by
 obtain⟨N,hc,_⟩:=h;exact hc.size
theorem ErK.shape {bd base:Nat} {W W':World} (h:ErK bd base W W') {g:Nat} (hg0:g≠bd) {cs:Array Value} {t:TypeId} (hg:W.heap[g]?=some (.cells cs t (0,0))) (h6:cs.size=6):∃cs',W'.heap[g]?=some (.cells cs' t (0,0))/\cs'.size=6:=by
 obtain⟨N,hc,hN⟩:=h;by_cases hm:g∈N
 ·rcases hN g hm with e|e
  ·exact a40 e hg0
  exact e.2 cs t hg h6
 exact⟨cs,hc.blk hg hm,h6⟩
theorem aqy {A:Ex->Pr->Bool}:(u:List Wb)->(L:List Rs)->L.length=u.length->(∀j (h1:j<u.length) (h2:j<L.length),L[j].dg=false/\I8 A u[j].name u[j].cond u[j].gH L[j]=true)->(qK A u).1 L=true
 | [],[],_,_=>by rw[qK];rfl
 | .mk n c u::t,r::rs,hl,h=>by
  have h0:=h 0 (by simp) (by simp);have hr:=aqy (A:=A) t rs (by simpa using hl) fun j h1 h2=>h (j+1) (by simpa using h1) (by simpa using h2)
  rw[qK];simp only[bB,I8] at h0;simp only[h0.1,hr,Bool.and_true,Bool.not_false,Bool.true_and];exact h0.2
 | [],r::rs,hl,_=>by simp at hl
 | .mk _ _ _::_,[],hl,_=>by simp at hl
theorem akv {A:Ex->Pr->Bool}:(u:List Wb)->(k:Nat)->(hk:k<u.length)->(r:Rs)->I8 A u[k].name u[k].cond u[k].gH r=true->(qK A u).2 r=true
 | .mk n c u::t,0,_,r,h=>by rw[qK];simp only[bB,I8] at h;simp only[bG];exact aoX h
 | .mk n c u::t,k+1,hk,r,h=>by rw[qK];simp only[bG];exact a4Z (akv t k (by simpa using hk) r (by simpa using h))
theorem aoN {V:Ex->Bool}:(u:List Wb)->nM V u=true->∃k,∃hk:k<u.length,(V u[k].cond&&!nM V u[k].gH)=true
 | [],h=>by rw[nM] at h;cases h
 | .mk n c u::t,h=>by
  rw[nM,bG] at h;rcases h with h|h
  ·exact⟨0,by simp,h⟩
  obtain⟨k,hk,h⟩:=aoN t h;exact⟨k+1,by simpa using hk,by simpa using h⟩
theorem aoP {V:Ex->Bool}:(u:List Wb)->nM V u=false->∀k (hk:k<u.length),(V u[k].cond&&!nM V u[k].gH)=false
 | .mk n c u::t,h,0,_=>by rw[nM,Bool.or_eq_false_iff] at h;exact h.1
 | .mk n c u::t,h,k+1,hk=>by rw[nM,Bool.or_eq_false_iff] at h;simpa using aoP t h.2 k (by simpa using hk)
theorem ad6 {A:Ex->Pr->Bool} {n:BA} {c:Ex} {u:List Wb} {q:Bool} {p:Pr} {us:List Rs} (hA:A c p=true):I8 A n c u (.mk n q p us)=(if (!p.value||u.isEmpty)=true then q==p.value&&us.isEmpty else if q=true then (qK A u).1 us else api (qK A u).2 us):=by
 unfold I8 abz;simp only[hA];simp
theorem ahD {w0 w W:World} {bd Bc:Nat} {r:Rs} {v:jf} (hb:W.heap[Bc]?=some (.cells #[.string ⟨#[]⟩,.bool false,.bool false,.int .i64 0,.slice none 0 0,.slice none 0 0] 69 (0,0))) (hd:cg w0 W bd) (hc:ct [bd] w W) (h1:w.heap.size<=Bc) (h2:bd≠Bc) (h3:w0.heap.size<=Bc) (hr:kC (mask W (Bc::List.range w.heap.size)) r v) :
  (fA W Bc (.string v.name) (.bool v.dg) (.bool v.p.value) (.int .i64 v.p.pick) (.slice v.p.a v.p.n v.p.c) (.slice v.a v.n v.c)).heap[Bc]?=some (.cells #[.string v.name,.bool v.dg,.bool v.p.value,v.p.pick,.slice v.p.a v.p.n v.p.c,.slice v.a v.n v.c] 69 (0,0))/\kC (mask (fA W Bc (.string v.name) (.bool v.dg) (.bool v.p.value) (.int .i64 v.p.pick) (.slice v.p.a v.p.n v.p.c) (.slice v.a v.n v.c)) (List.range w.heap.size)) r v/\cg w0 (fA W Bc (.string v.name) (.bool v.dg) (.bool v.p.value) (.int .i64 v.p.pick) (.slice v.p.a v.p.n v.p.c) (.slice v.a v.n v.c)) bd/\ct [bd] w (fA W Bc (.string v.name) (.bool v.dg) (.bool v.p.value) (.int .i64 v.p.pick) (.slice v.p.a v.p.n v.p.c) (.slice v.a v.n v.c)):=by
 have hp:ct [Bc] W (fA W Bc (.string v.name) (.bool v.dg) (.bool v.p.value) (.int .i64 v.p.pick) (.slice v.p.a v.p.n v.p.c) (.slice v.a v.n v.c)):=fe W Bc;exact⟨fH hb,(kC.mono hr (cF hp (fun y hy=>aoX (by rw[aG.1 hy];simp)))).mono (cM _ (fun y hy=>aZ _ hy)),hd.cR hp (by simpa using h2) (fun y hy=>by rw[aG.1 hy];exact h3),hc.trans hp (fun y hy=>a4Z (by rw[aG.1 hy];exact h1))⟩
theorem arq {s:List Attr} {l:List cK} {f:ZI} {w0:World} {bd:Nat} {sa:OA} {sn sc:Nat} {a:OA} {n c:Nat} {fa:OA} {fn:Nat} (fc:Nat):∀(m:Nat) (cond:Ex) (u:List Wb) (nm:BA) (x:dK) (au:OA) (nu cu:Nat) (w:World),mH u<=m->ajF s l f w0 bd sa sn sc a n c fa fn w->Pv s l cond->jY (Pv s l) u->mH u<=1000000->ahS w bd cond u x au nu cu ->
  Calls Tryz.prog 102 #[.pointer (some ⟨bd,0,none⟩),.agg #[.slice sa sn sc],.slice a n c,.agg #[.string nm,x.op,.string x.name,.slice x.aw x.nw x.cw,x.lo,x.hi,.slice x.aa x.na x.ca,.slice au nu cu],.slice fa fn fc] w (BkQ (PbK (CY s l f) nm cond u) w0 bd w):=by
 intro m;induction m using Nat.strongRecOn with
 | _ m ih =>
 intro cond u nm x au nu cu w hm h hp hok ZW hb;have vC:=ql u;have HRC:=ai (fun (k:Nat) (hk:k<u.length) (v:Cz) (W:World) (hW:ct [bd] w W) (hd:cg w0 W bd) (hn:v.name=u[k].name) (hbk:ahS W bd u[k].cond u[k].gH v.x v.au v.nu v.cu)=>show Calls Tryz.prog 102 #[.pointer (some ⟨bd,0,none⟩),.agg #[.slice sa sn sc],.slice a n c,.agg #[.string v.name,v.x.op,.string v.x.name,.slice v.x.aw v.x.nw v.x.cw,v.x.lo,v.x.hi,.slice v.x.aa v.x.na v.x.ca,.slice v.au v.nu v.cu],.slice fa fn fc] W (BkQ (PbK (CY s l f) u[k].name u[k].cond u[k].gH) w0 bd W) from by
  have hat:=zw u k hk;obtain⟨q1,q2,q3⟩:=j7 u hok k hk;refine(ih (mH u[k].gH) (by omega) u[k].cond u[k].gH v.name v.x v.au v.nu v.cu W (aU _) (h.cR hW hd) q1 q2 (by omega) hbk).mono fun e w' q=>?_
  rw[<-hn];exact q)
 have HTB:=ai (fun (k:Nat) (hk:k<u.length) (v:Cz) (W:World) (hW:ct [bd] w W) (hd:cg w0 W bd) (hbk:ahS W bd u[k].cond u[k].gH v.x v.au v.nu v.cu)=>acs fc (h.cR hW hd) v.name hbk (j7 u hok k hk).1 (j7 u hok k hk).2.1 (by rw[hbk.len];exact(j7 u hok k hk).2.2));have aI0:=ai (fun (W:World) (hW:ct [bd] w W) (hd:cg w0 W bd)=>acs fc (h.cR hW hd) nm (hb.cR hW) hp hok (by have:=hb.len;omega));have HPR:=ai (fun (W:World) (hW:ct [bd] w W) (hd:cg w0 W bd)=>show Calls Tryz.prog 132 #[.pointer (some ⟨bd,0,none⟩),.agg #[.slice sa sn sc],.slice a n c,x.val,.slice fa fn fc] W (aic (fun p=>CY s l f cond p=true/\p.iT 1000000) w0 bd (List.range W.heap.size) W) from aav s l f (lK h.ok) h.fac h.fit a n c fa fn fc sa sn sc w0 bd (l.length+1) 300 cond x.val (List.range W.heap.size) W hp.2.2.2 (by omega) hp.1 hp.2.1 hp.2.2.1 (by simp) hd (h.dat.cR hW) (hb.cR hW).ex);have HS:=ai (fun (e:Ex) (p:Pr) (h:CY s l f e p=true)=>akf h);obtain⟨A,hA⟩:∃A,A=CY s l f:=⟨_,rfl⟩
 obtain⟨V,hV⟩:∃V,V=val s l f:=⟨_,rfl⟩
 rw[<-hA] at HRC HPR HS ⊢;rw[<-hV] at HTB aI0 HS;have HBK:=ai hb;have qB:=ai hb.len;have HNU:=ai (show nu<=1000000 by have:=hb.len;omega);have yz:=ai h.oA;have pF:=ai (show bd<w.heap.size/\w0.heap.size<=bd from⟨h.oA.lt,by obtain⟨_,_,_,_,_,_,_,_,_,q⟩:=h.oA;exact q⟩);obtain⟨Q,hQ⟩:∃Q,Q=(V cond&&!nM V u):=⟨_,rfl⟩
 rw[<-hQ] at aI0;have HQ:=ai hQ;clear ih hm h hp hok ZW hb vC hA hV hQ;unfold dK.val fN at HPR;obtain⟨n0,hn0⟩:∃n0,n0=w.heap.size:=⟨_,rfl⟩
 obtain⟨w3,hw3⟩:∃w3,w3=((w.alloc (.cells #[.slice sa sn sc] 24)).alloc (.cells #[.string nm,x.op,.string x.name,.slice x.aw x.nw x.cw,x.lo,x.hi,.slice x.aa x.na x.ca,.slice au nu cu] 53)).alloc (.cells #[.string ⟨#[]⟩,.bool false,.bool false,.int .i64 0,.slice none 0 0,.slice none 0 0] 69):=⟨_,rfl⟩
 have dS:=ai (show Ext w w3 by rw[hw3];exact(((Tz _).alloc _).alloc _).alloc _);have H63:=ai (show w3.heap[n0]?=some (.cells #[.slice sa sn sc] 24 (0,0)) by rw[hw3,hn0];exact bU (bU (bR w _)));have H83:=ai (show w3.heap[n0+1]?=some (.cells #[.string nm,x.op,.string x.name,.slice x.aw x.nw x.cw,x.lo,x.hi,.slice x.aa x.na x.ca,.slice au nu cu] 53 (0,0)) by rw[hw3,hn0];exact bU (cT (by simp)));have aU8:=ai (show w3.heap[n0+2]?=some (.cells #[.string ⟨#[]⟩,.bool false,.bool false,.int .i64 0,.slice none 0 0,.slice none 0 0] 69 (0,0)) by rw[hw3,hn0];exact cT (by simp));obtain⟨n3,hn3⟩:∃n3,n3=w3.heap.size:=⟨_,rfl⟩
 have HN:=ai (show n0=w.heap.size/\n3=n0+3/\n3=w3.heap.size from⟨hn0,by rw[hn3,hw3,hn0];simp,hn3⟩);have YH:=ai (show n0∉[bd] by have:=pF.o.1;simp;omega);have HN8:=ai (show n0+1∉[bd] by have:=pF.o.1;simp;omega);have aN9:=ai (show n0+2∉[bd] by have:=pF.o.1;simp;omega);go_enter Tryz.func102,Tryz.ntmps102
 go_upto_region 1 with fail
 rw[<-hw3,<-hn0];clear hw3 hn0 hn3;obtain⟨s0,sf⟩:=dO H63.o;obtain⟨f0,f1,f2,f3,f4,f5,f6,f7,ff⟩:=oO H83.o;have D0:=cU f0 HN8.o;have D1:=cU f1 HN8.o;have D2:=cU f2 HN8.o;have D3:=cU f3 HN8.o;have D4:=cU f4 HN8.o;have D5:=cU f5 HN8.o;have D6:=cU f6 HN8.o;have D7:=cU f7 HN8.o;have C0:=cU s0 YH.o;refine kG (m:=17) (Er:=ErK bd w3.heap.size) (C:=ct [bd] w3) (Φ:=fun W=>cg w0 W bd) (ErK.refl _ _) (fun _ _ h=>ErK.of h) (fun _ _ h q=>ErK.cR h q) ((Tz w3).drew.cR _) ((yz.o.ext dS.o).ext (Tz w3).drew) (fun _ _ hx h=>h.ext hx) ?_
 repeat (refine bZ ?_;intro K hK;go_big_quiet_op;go_big_quiet_on)
 refine fZ (.bool Q) (fun W=>cg w0 W bd) (fun W hW hd _=>?_) (fun _ _ hx h=>h.ext hx) ?_
 ·unfold bQ;go_simp;refine(aI0.o W ((dS.o.cR _).then hW) hd).mono ?_;rintro r wz ⟨rfl,hz⟩;exact⟨_,rfl,ErK.of hz,rfl,hd.ext hz⟩
 intro K hK;go_simp;go_big_quiet_on
 repeat (refine bZ ?_;intro K hK;go_big_quiet_op;go_big_quiet_on)
 refine yK (γ:=Pr×gS×Nat×Nat) (fun x=>.agg #[.bool x.2.1.value,x.2.1.pick,.slice x.2.1.a x.2.1.n x.2.1.c]) (fun x W=>cg w0 W bd/\(A cond x.1=true/\x.1.iT 1000000)/\∀g,(g<x.2.2.1\/x.2.2.2<=g)->gL (mask W (g::List.range n3)) x.1 x.2.1) (fun x g=>g<x.2.2.1\/x.2.2.2<=g) (fun W hW hd _=>?_) (fun x W W' hx h=>⟨h.1.ext hx,h.2.1,fun g hg=>(h.2.2 g hg).mono (cF (hx.cR []) (by simp))⟩) ?_ ⟨(.mk false 0 [],⟨false,0,none,0,0⟩,0,0)⟩
 ·unfold bQ;go_simp;have hsz:=hW.size;refine(HPR.o W ((dS.o.cR _).then hW) hd).mono ?_;rintro r wz ⟨p,pv,rfl,hpp,Ll,hdz,U0⟩;exact⟨_,rfl,ErK.oA U0,(p,pv,W.heap.size,wz.heap.size),rfl,⟨hdz,hpp,fun g hg=>Ll.mono (Ch (fun y hy=>by have:=HN.o.2.2;rw[a43] at hy ⊢;omega) (hg.imp (fun h=>a43.2 h) id))⟩,fun g hg=>hg⟩
 rintro⟨p,⟨pb,pk,pa,pn,pc⟩,m0,m1⟩ K hK;go_simp;go_big_quiet_on
 repeat (refine bZ ?_;intro K hK;go_big_quiet_op;go_big_quiet_on)
 refine Jj (fun g=>.pointer (some ⟨g,0,none⟩)) (fun g W=>w3.heap.size<=g/\∃c,W.heap[g]?=some (.cells c 69 (0,0))/\c.size=6) (fun W hW=>?_) (fun g W W' he ⟨k1,c,k2,k3⟩=>?_) (fun _ _ h=>h.size) ?_
 ·unfold bQ;go_simp;exact⟨(Tz W).alloc _,W.heap.size,rfl,aU _,by simp,hW.size,_,bR W _,rfl⟩
 ·obtain⟨c',e1,e2⟩:=he.shape (by have:=pF.o.1;have:=HN.o;omega) k2 k3;exact⟨k1,c',e1,e2⟩
 intro eZ K hK;go_simp;go_big_quiet_on;refine fZ undef (fun W=>w3.heap.size<=eZ/\W.heap[eZ]?=some (.cells #[.string nm,.bool Q,.bool pb,pk,.slice pa pn pc,.slice none 0 0] 69 (0,0))/\cg w0 W bd/\(A cond p=true/\p.iT 1000000)/\gL (mask W (eZ::List.range n3)) p ⟨pb,pk,pa,pn,pc⟩) (fun W hW hq hF=>?_) (fun W W' hx q=>⟨q.1,hx.blk q.2.1,q.2.2.1.ext hx,q.2.2.2.1,q.2.2.2.2.mono (cF (hx.cR []) (by simp))⟩) ?_
 ·obtain⟨_,⟨Et,cc,hyb,hcs⟩,_,hA⟩:=hF;obtain⟨v0,v1,v2,v3,v4,v5,rfl⟩:=ahI hcs;obtain⟨z0,z1,z2,z3,z4,z5,zf⟩:=dH hyb;have HP:=ai (fH hyb (v0:=.string nm) (v1:=.bool Q) (v2:=.bool pb) (v3:=.int .i64 pk) (v4:=.slice pa pn pc) (v5:=.slice none 0 0));have HE:=ai (fe W eZ (v0:=.string nm) (v1:=.bool Q) (v2:=.bool pb) (v3:=.int .i64 pk) (v4:=.slice pa pn pc) (v5:=.slice none 0 0));have HY:=ai hyb;have HH:=ai (And.intro hq.1 (And.intro hq.2.1 (hq.2.2 eZ hA.2)));have HYL:=ai Et;clear hyb hq hA hcs Et;unfold fA at HP HE;unfold bQ;go_simp;exact⟨⟨[eZ],HE.o,fun k hk=>a4Z (by
   rw[aG.1 hk];exact⟨HYL.o,fun cs t hb _=>by
    rw[HY.o] at hb;simp only[a42,Obj.cells.injEq] at hb;obtain⟨_,rfl,_⟩:=hb;exact⟨_,HP.o,rfl⟩⟩)⟩,rfl,HYL.o,HP.o,HH.o.1.cR HE.o (by have:=pF.o.1;have:=HN.o;have:=HYL.o;simp;omega) (fun y hy=>by rw[aG.1 hy];have:=pF.o;have:=HN.o;have:=HYL.o;omega),HH.o.2.1,HH.o.2.2.mono (cF HE.o (fun y hy=>aoX (by rw[aG.1 hy];simp)))⟩
 intro K hK;go_simp;go_big_quiet_on;refine gC fun w4 hc4 hy _=>?_
 obtain⟨hlo,h11,Si,hpp,Ll⟩:=hy;have mo:=ai ((dS.o.cR [bd]).then hc4);have H64:=ai (hc4.blk H63.o YH.o);have H84:=ai (hc4.blk H83.o HN8.o);have awk:=ai (hc4.blk aU8.o aN9.o);have aA2:=ai h11;have CJ:=ai Si;have Rp:=ai hpp;have RY:=ai Ll;have Vp:=ai (show n3<=eZ/\n3<=w4.heap.size/\eZ<w4.heap.size from⟨by rw[HN.o.2.2];exact hlo,by rw[HN.o.2.2];exact hc4.size,bS h11⟩);have Gi:=ai (show pb=V cond by rw[<-HS.o cond p hpp.1];exact Ll.parts.1);have aI9:=ai (show p.value=pb from Ll.parts.1.symm);clear hc4 hlo h11 Si hpp Ll s0 sf f0 f1 f2 f3 f4 f5 f6 f7 ff C0 D0 D1 D2 D3 D4 D5 D6 D7 aI0 HPR H63 H83 aU8;obtain⟨r0,r1,r2,r3,r4,r5,rf⟩:=dH aA2.o;obtain⟨f0,f1,f2,f3,f4,f5,f6,f7,ff⟩:=oO H84.o;cases pb
 case false =>
  obtain⟨r0,r1,r2,r3,r4,r5,rf⟩:=dH aA2.o;obtain⟨q0,q1,q2,q3,q4,q5,qf⟩:=dH awk.o;have HF:=ai (ahD (r:=.mk nm Q p []) (v:=⟨nm,Q,⟨false,pk,pa,pn,pc⟩,none,0,0⟩) awk.o CJ.o mo.o (by have:=HN.o;omega) (by have:=pF.o;have:=HN.o;omega) (by have:=pF.o;have:=HN.o;omega) (Gc (RY.o.mono (cM _ (by intro y hy;have:=HN.o;simp only[bz,a43] at hy ⊢;omega))) (Fg _) _ _));have HM:=ai (show PbK A nm cond u (.mk nm Q p []) from(⟨by rw[ad6 Rp.o.1,aI9.o,HQ.o,<-Gi.o];simp,Rp.o.2,by simp[Rs.gH]⟩));go_wp2_with fail
  obtain⟨wz,eV⟩:∃wz,wz=fA w4 (n0+2) (.string nm) (.bool Q) (.bool false) (.int .i64 pk) (.slice pa pn pc) (.slice none 0 0):=⟨_,rfl⟩
  rw[<-eV] at HF;unfold fA at eV;rw[<-eV];clear eV q0 q1 q2 q3 q4 q5 qf;obtain⟨q0,q1,q2,q3,q4,q5,qf⟩:=dH HF.o.1;refine a5a (v:=jf.val ⟨nm,Q,⟨false,pk,pa,pn,pc⟩,none,0,0⟩) (by simp[results,Tryz.results102,go_sem,jf.val,q0,q1,q2,q3,q4,q5]) rfl ?_;exact⟨_,_,rfl,HM.o,HF.o.2.1,HF.o.2.2.1,HF.o.2.2.2⟩
 by_cases hn0:nu=0
 case pos =>
  have t2:((nu:Int)==0)=true:=by simp[hn0]
  have HU:=ai (show u=[] from aR (by have:=qB.o;omega));clear hn0;obtain⟨r0,r1,r2,r3,r4,r5,rf⟩:=dH aA2.o;obtain⟨q0,q1,q2,q3,q4,q5,qf⟩:=dH awk.o;have HF:=ai (ahD (r:=.mk nm Q p []) (v:=⟨nm,Q,⟨true,pk,pa,pn,pc⟩,none,0,0⟩) awk.o CJ.o mo.o (by have:=HN.o;omega) (by have:=pF.o;have:=HN.o;omega) (by have:=pF.o;have:=HN.o;omega) (Gc (RY.o.mono (cM _ (by intro y hy;have:=HN.o;simp only[bz,a43] at hy ⊢;omega))) (Fg _) _ _));have HM:=ai (show PbK A nm cond u (.mk nm Q p []) from(⟨by rw[ad6 Rp.o.1,aI9.o,HQ.o,<-Gi.o,HU.o,nM];simp,Rp.o.2,by simp[Rs.gH]⟩));go_wp2_with fail
  obtain⟨wz,eV⟩:∃wz,wz=fA w4 (n0+2) (.string nm) (.bool Q) (.bool true) (.int .i64 pk) (.slice pa pn pc) (.slice none 0 0):=⟨_,rfl⟩
  rw[<-eV] at HF;unfold fA at eV;rw[<-eV];clear eV q0 q1 q2 q3 q4 q5 qf;obtain⟨q0,q1,q2,q3,q4,q5,qf⟩:=dH HF.o.1;refine a5a (v:=jf.val ⟨nm,Q,⟨true,pk,pa,pn,pc⟩,none,0,0⟩) (by simp[results,Tryz.results102,go_sem,jf.val,q0,q1,q2,q3,q4,q5]) rfl ?_;exact⟨_,_,rfl,HM.o,HF.o.2.1,HF.o.2.2.1,HF.o.2.2.2⟩
 have t2:((nu:Int)==0)=false:=by simp;omega
 have Ro:=ai (show Q=!nM V u by rw[HQ.o,<-Gi.o];rfl);have HUE:=ai (show u.isEmpty=false by
  cases hu:u with
  | nil=>have:=qB.o;rw[hu] at this;simp at this;omega
  | cons y t=>rfl)
 have HN0:=ai (show 0<nu by omega);clear hn0 HQ Gi;cases Q
 case true =>
  have HWF:=ai (show nM V u=false by have:=Ro.o;simpa using this.symm);go_wp2_with fail
  clear r0 r1 r2 r3 r4 r5 rf f0 f1 f2 f3 f4 f5 f6 f7 ff;go_loopw [12] (fun i wr=>∃(k:Nat) (L:List Rs) (vs:List jf) (ua:OA) (uc:Nat),i=.int .i64 k/\k<=nu/\L.length=k/\wr.heap[eZ]?=some (.cells #[.string nm,.bool true,.bool true,pk,.slice pa pn pc,.slice ua k uc] 69 (0,0))/\gL (mask wr (eZ::rowOf (.slice ua k uc)++List.range n3)) p ⟨true,pk,pa,pn,pc⟩/\wr.ownsRow w4.heap.size 69 6 (.slice ua k uc) k (vs.flatMap jf.cells)/\mj (mask wr (eZ::rowOf (.slice ua k uc)++List.range n3)) L vs/\(∀j (h1:j<u.length) (h2:j<L.length),L[j].dg=false/\I8 A u[j].name u[j].cond u[j].gH L[j]=true)/\cg w0 wr bd/\ct [bd,eZ] w4 wr) (fun i _=>nu - (intOf i).toNat)
  case atStart=>exact⟨0,[],[],none,0,rfl,Nat.zero_le _,rfl,aA2.o,RY.o,a4' _ _ _ _,mj.nil _,fun j _ h=>by simp at h,CJ.o,ct.refl _ _⟩
  case round =>
   obtain⟨k,L,vs,ua,uc,rfl,hk,hL,h11,Ll,how,sq,hmt,hd,hc⟩:=hrel;have nS:=ai (mo.o.trans hc (fun y hy=>by
    simp only[bz,bC,or_false] at hy;rcases hy with rfl|rfl
    ·exact aoX (by simp)
    have:=Vp.o;have:=HN.o;exact a4Z (by omega)))
   have hnb:∀y,y=n0\/y=n0+1\/y=n0+2->y∉[bd,eZ]:=fun y hy=>by have:=Vp.o;have:=HN.o;have:=pF.o;simp;omega
   have H6r:=ai (hc.blk H64.o (hnb _ (aoX rfl)));have H8r:=ai (hc.blk H84.o (hnb _ (a4Z (aoX rfl))));have aU6:=ai (hc.blk awk.o (hnb _ (a4Z (a4Z rfl))));have aO5:=ai h11;have aTS:=ai Ll;have HOW:=ai how;have CA:=ai sq;have HMT:=ai hmt;have HDr:=ai hd;have QI:=ai hL;have tR:=ai hc.size;have HCr:=ai hc;clear h11 Ll how sq hmt hd hc hL hnb;by_cases hkn:k<nu
   ·have fq:k<u.length:=by have:=qB.o;omega
    have t1:=ag ((k:Int)<(nu:Int));have tk0:(0:Int)<=(k:Int):=by omega
    have tk1:(k:Int)<(nu:Int):=by omega
    obtain⟨b,off,rfl,rO,v,Co,hrow,hbk⟩:=HBK.o.at fq;have DK:b<w.heap.size:=eB hrow.eight.1;have OO:=ai (fun (W:World) (hW:ct [bd] wr W) (hd:cg w0 W bd)=>HRC.o k fq v W (nS.o.then hW) hd Co (hbk.cR (nS.o.then hW)));obtain⟨c0,c1,c2,c3,c4,c5,c6,c7⟩:=hrow.eight
    replace c0:=nS.o.cell c0 rO
    replace c1:=nS.o.cell c1 rO
    replace c2:=nS.o.cell c2 rO
    replace c3:=nS.o.cell c3 rO
    replace c4:=nS.o.cell c4 rO
    replace c5:=nS.o.cell c5 rO
    replace c6:=nS.o.cell c6 rO
    replace c7:=nS.o.cell c7 rO
    obtain⟨P,hP⟩:∃P,P=PbK A u[k].name u[k].cond u[k].gH:=⟨_,rfl⟩
    rw[<-hP] at OO;have RV:=ai (aoP u HWF.o k fq);have HPX:=ai (show ∀X,P X->X.dg=false/\I8 A u[k].name u[k].cond u[k].gH X=true from fun X hX=>by
     rw[hP] at hX;exact⟨by rw[(PK HS.o (zN HS.o _).1 (zN HS.o _).2 hX.1).1];exact RV.o,hX.1⟩)
    clear hP Co hrow hbk;obtain⟨f0,f1,f2,f3,f4,f5,f6,f7,ff⟩:=oO H8r.o;go_upto_region 8 with fail
    obtain⟨N,hN⟩:∃N,N=rowOf (.slice ua k uc):=⟨_,rfl⟩
    have qY:=ai (show ∀y∈N,w4.heap.size<=y/\y<wr.heap.size from fun y hy=>by rw[hN] at hy;exact HOW.o.lt y (bV.1 hy));have pX:=ai (show bd∉N/\eZ∉N/\bd≠eZ from⟨fun hm=>by have:=(qY.o _ hm).1;have:=Vp.o;have:=HN.o;have:=pF.o;omega,fun hm=>by have:=(qY.o _ hm).1;have:=Vp.o;omega,by have:=Vp.o;have:=HN.o;have:=pF.o;omega⟩);have hnn:∀y,y<w4.heap.size->y≠bd->y∉bd::N:=fun y h1 h2 hm=>by
     rcases bz.1 hm with h|h
     ·exact h2 h
     have:=(qY.o _ h).1;omega
    have hn6:n0∉bd::N:=hnn _ (by have:=Vp.o;have:=HN.o;omega) (by have:=HN.o;have:=pF.o;omega);have hn8:n0+1∉bd::N:=hnn _ (by have:=Vp.o;have:=HN.o;omega) (by have:=HN.o;have:=pF.o;omega);have aQA:eZ∉bd::N:=hnn _ (by have:=Vp.o;omega) (by have:=pX.o.2.2;omega);have hnb:b∉bd::N:=hnn _ (by have:=Vp.o;have:=HN.o;omega) (by simpa using rO);have qP:=ai hN;have Uk:=ai (show ∀(W:World),ct [bd] wr W->∀y∈eZ::N++List.range n3,y∈List.range W.heap.size from fun W hW y hy=>by
     have h1:=hW.size;have h2:=tR.o;have h3:=Vp.o;rw[a43];simp only[a48,bz,aN,a43] at hy;rcases hy with rfl|hy|hy
     ·omega
     ·have:=(qY.o y hy).2;omega
     omega)
    clear hN;obtain⟨s0,sf⟩:=dO H6r.o;obtain⟨r0,r1,r2,r3,r4,r5,rf⟩:=dH aO5.o;have S0:=cU s0 hn6;have F5:=cU f5 hn8;have F6:=cU f6 hn8;have F7:=cU f7 hn8;have R5:=cU r5 aQA;have C0:=cU c0 hnb;have C1:=cU c1 hnb;have C2:=cU c2 hnb;have C3:=cU c3 hnb;have C4:=cU c4 hnb;have C5:=cU c5 hnb;have C6:=cU c6 hnb;have C7:=cU c7 hnb;clear hnn hn6 hn8 aQA hnb rO DK;refine pT 15 (bd::N) (fun W=>ct [bd] wr W/\cg w0 W bd) ⟨(Tz wr).drew.cR _,HDr.o.ext (Tz wr).drew⟩ (fun _ _ hx h=>⟨h.1.then (hx.cR _),h.2.ext hx⟩) ?_
    repeat (refine bZ ?_;intro K hK;go_big_quiet_op;go_big_quiet_on)
    refine dP (γ:=Rs×jf) (fun x=>.agg #[.string x.2.name,.bool x.2.dg,.bool x.2.p.value,x.2.p.pick,.slice x.2.p.a x.2.p.n x.2.p.c,.slice x.2.a x.2.n x.2.c]) (fun x W=>(ct [bd] wr W/\cg w0 W bd)/\P x.1/\kC (mask W (eZ::N++List.range n3)) x.1 x.2) (fun W hW h _=>?_) (fun x W W' hx h=>⟨⟨h.1.1.then (hx.cR _),h.1.2.ext hx⟩,h.2.1,kC.mono h.2.2 (cF (hx.cR []) (by simp))⟩) ?_ ⟨(.mk ⟨#[]⟩ false (.mk false 0 []) [],⟨⟨#[]⟩,false,⟨false,0,none,0,0⟩,none,0,0⟩)⟩
    ·unfold bQ;go_simp;refine(OO.o W h.1 h.2).mono ?_;rintro r wz ⟨X,xv,rfl,hp,hi,hd,hc⟩;exact⟨_,rfl,hc.weak (by simp),(X,xv),rfl,⟨h.1.then hc,hd⟩,hp,kC.mono hi (cM _ (Uk.o W h.1))⟩
    rintro⟨X,vn,Q',qv,va,vm,vc⟩ K hK;go_simp;go_big_quiet_on
    repeat (refine bZ ?_;intro K hK;go_big_quiet_op;go_big_quiet_on)
    refine dP (γ:=Nat) (fun g=>.slice (some ⟨g,0,none⟩) 1 1) (fun g W=>(ct [bd] wr W/\cg w0 W bd)/\P X/\iE (mask W (eZ::N++List.range n3)) [X] (some ⟨g,0,none⟩) 1 1) (fun W hW h _=>?_) (fun x W W' hx h=>⟨⟨h.1.1.then (hx.cR _),h.1.2.ext hx⟩,h.2.1,h.2.2.mono (cF (hx.cR []) (by simp))⟩) ?_ ⟨0⟩
    ·have HH:=ai h;have HYY:=ai (show ∀y∈eZ::N++List.range n3,y<W.heap.size from fun y hy=>a43.1 (Uk.o W h.1.1 y hy));clear h;unfold bQ;go_simp;exact⟨((Tz W).alloc _).cR _,W.heap.size,rfl,⟨HH.o.1.1.then (((Tz W).alloc _).cR _),HH.o.1.2.ext ((Tz W).alloc _)⟩,HH.o.2.1,Jw (v:=⟨vn,Q',qv,va,vm,vc⟩) (bR W _) (fun hm=>a40 (HYY.o _ hm) (by omega)) (kC.mono HH.o.2.2 (cF (((Tz W).alloc _).cR []) (by simp)))⟩
    rintro g K hK;go_simp;go_big_quiet_on
    repeat (refine bZ ?_;intro K hK;go_big_quiet_op;go_big_quiet_on)
    refine dP (γ:=OA×Nat×List jf) (fun x=>.slice x.1 (k+1) x.2.1) (fun x W=>(ct (bd::N) wr W/\cg w0 W bd)/\P X/\W.ownsRow w4.heap.size 69 6 (.slice x.1 (k+1) x.2.1) (k+1) ((vs++x.2.2).flatMap jf.cells)/\mj (mask W (eZ::rowOf (.slice x.1 (k+1) x.2.1)++List.range n3)) (L++[X]) (vs++x.2.2)/\gL (mask W (eZ::rowOf (.slice x.1 (k+1) x.2.1)++List.range n3)) p ⟨true,pk,pa,pn,pc⟩) (fun W hW h _=>?_) (fun x W W' hx h=>⟨⟨h.1.1.then (hx.cR _),h.1.2.ext hx⟩,h.2.1,cO h.2.2.1 (hx.cR []) (by simp),h.2.2.2.1.mono (cF (hx.cR []) (by simp)),h.2.2.2.2.mono (cF (hx.cR []) (by simp))⟩) ?_ ⟨(none,0,[])⟩
    ·obtain⟨us,hu1,hu2⟩:=h.2.2;refine Au _ _ w4.heap.size k ua uc vs us rfl (some ⟨g,0,none⟩) 1 1 rfl (by have:=HNU.o;omega) (cO HOW.o h.1.1 (fun q hq hm=>by rw[aG.1 hm] at hq;exact pX.o.1 (by rw[qP.o];exact bV.2 hq))) (hu2.mono (cC _ _)) (by have:=h.1.1.size;have:=tR.o;omega) ?_;intro a' c' w' ho hc hg;have hkp:Sub (mask W (eZ::N++List.range n3)) (mask w' (eZ::rowOf (.slice a' (k+1) c')++List.range n3)):=by
      rw[qP.o];exact Tq hc hg (fun y hy=>by simp[hy]) (fun y hy=>by
       simp only[a48,bz,aN] at hy ⊢;rcases hy with h|h|h
       ·exact aoX (aoX h)
       ·exact a4Z h
       exact aoX (a4Z (a4Z h)))
     have hkw:Sub (mask wr (eZ::N++List.range n3)) (mask W (eZ::N++List.range n3)):=cF h.1.1 (fun y hy=>by rw[aG.1 hy];have:=HN.o;have:=pF.o;simp;omega);rw[<-qP.o] at hc;have hr0:=CA.o;have Yy:=aTS.o;rw[<-qP.o] at hr0 Yy;exact⟨hc.weak (fun y hy=>aZ _ hy),(a',c',us),rfl,⟨(h.1.1.weak (by simp)).then (hc.weak (fun y hy=>aZ _ hy)),h.1.2.cR hc pX.o.1 (fun y hy=>by have:=(qY.o y hy).1;have:=Vp.o;have:=HN.o;have:=pF.o;omega)⟩,h.2.1,ho,mj.append ((hr0.mono hkw).mono hkp) (hu1.mono hkp),(Yy.mono hkw).mono hkp⟩
    rintro⟨ga,gc,us⟩ K hK;go_simp;go_big_quiet_on
    repeat (refine bZ ?_;intro K hK;go_big_quiet_op;go_big_quiet_on)
    refine nH fun w5 hc5 hy _=>?_
    obtain⟨⟨-,oW⟩,hpx,ho5,hl5,Iz⟩:=hy;dsimp only at ho5 hl5 Iz;clear S0 F5 F6 F7 R5 C0 C1 C2 C3 C4 C5 C6 C7 s0 sf c0 c1 c2 c3 c4 c5 c6 c7 f0 f1 f2 f3 f4 f5 f6 f7 ff;have aMD:=hc5.blk aO5.o (fun hm=>by rcases bz.1 hm with h|h;exact pX.o.2.2 h.symm;exact pX.o.2.1 h);obtain⟨w6,rH⟩:∃w6,w6=w5.setCell ⟨eZ,5,none⟩ (.slice ga (k+1) gc):=⟨_,rfl⟩
    have pI:ct [eZ] w5 w6:=by rw[rH];exact(ct.refl _ _).setCell (aoX (by simp)) _
    have hm6:∀M:ZN,Sub (mask w5 (eZ::M)) (mask w6 (eZ::M)):=fun M=>cF pI (fun y hy=>aoX (by rw[aG.1 hy];simp))
    have aO6:=ai (show w6.heap[eZ]?=some (.cells #[.string nm,.bool true,.bool true,pk,.slice pa pn pc,.slice ga (k+1) gc] 69 (0,0)) by rw[rH,aI _ _ _ _ _ _ aMD];simp);have CG:=ai (cO ho5 pI (fun q hq hm=>by rw[aG.1 hm] at hq;have:=(ho5.lt eZ hq).1;have:=Vp.o;omega));have RN:=ai (hl5.mono (hm6 _));have HI6:=ai (Iz.mono (hm6 _));have ER:=ai (oW.cR pI (by simpa using pX.o.2.2) (fun y hy=>by rw[aG.1 hy];have:=Vp.o;have:=HN.o;have:=pF.o;omega));have sK:=ai (show ct [bd,eZ] w4 w6 from(HCr.o.trans hc5 (fun y hy=>by
     rcases bz.1 hy with h|h
     ·exact aoX (by rw[h];simp)
     exact a4Z (qY.o y h).1)).trans pI (fun y hy=>aoX (by rw[aG.1 hy];simp)))
    have aYQ:=ai (HPX.o X hpx);have aWq:=HNU.o;clear hc5 oW hpx ho5 hl5 Iz pI hm6 r0 r1 r2 r3 r4 r5 rf;obtain⟨r0,r1,r2,r3,r4,r5,rf⟩:=dH aMD;go_upto_region 7 with fail
    rw[<-rH];clear rH aMD r0 r1 r2 r3 r4 r5 rf;go_wp2_with fail
    go_roundw
    case rel=>exact⟨k+1,L++[X],vs++us,ga,gc,by go_num,by omega,by rw[bg,QI.o];rfl,aO6.o,HI6.o,CG.o,RN.o,fun j h1 h2=>by
     by_cases hj:j<L.length
     ·rw[bD hj];exact HMT.o j h1 hj
     have e:j=L.length:=by simp at h2;omega
     subst e;have e2:L.length=k:=QI.o;subst e2;simpa using aYQ.o,ER.o,sK.o⟩
    case measure=>simp[intOf];omega
   have t1:=ah ((k:Int)<(nu:Int));have HKE:=ai (show k=u.length by have:=qB.o;omega);obtain⟨f0,f1,f2,f3,f4,f5,f6,f7,ff⟩:=oO H8r.o;obtain⟨r0,r1,r2,r3,r4,r5,rf⟩:=dH aO5.o;obtain⟨q0,q1,q2,q3,q4,q5,qf⟩:=dH aU6.o;have HF:=ai (ahD (r:=.mk nm true p L) (v:=⟨nm,true,⟨true,pk,pa,pn,pc⟩,ua,k,uc⟩) aU6.o HDr.o nS.o (by have:=HN.o;omega) (by have:=pF.o;have:=HN.o;omega) (by have:=pF.o;have:=HN.o;omega) (Gc (aTS.o.mono (cM _ (by intro y hy;have:=HN.o;simp only[a48,bz,aN,a43] at hy ⊢;omega))) (by rw[<-QI.o];exact tH (by rw[QI.o];exact HOW.o) rfl (fun q hq hm=>by have:=(HOW.o.lt q (by rw[<-QI.o];exact hq)).1;have:=Vp.o;have:=HN.o;simp only[bz,a43] at hm;omega) (CA.o.mono (cM _ (by intro y hy;have:=HN.o;simp only[a48,bz,aN,a43] at hy ⊢;omega)))) _ _));have HM:=ai (show PbK A nm cond u (.mk nm true p L) from(⟨by rw[ad6 Rp.o.1,aI9.o,HUE.o];exact aqy u L (by rw[QI.o,HKE.o]) HMT.o,Rp.o.2,by show L.length<=1000000;rw[QI.o];have:=HNU.o;omega⟩));go_wp2_with fail
   obtain⟨wz,eV⟩:∃wz,wz=fA wr (n0+2) (.string nm) (.bool true) (.bool true) (.int .i64 pk) (.slice pa pn pc) (.slice ua k uc):=⟨_,rfl⟩
   rw[<-eV] at HF;unfold fA at eV;rw[<-eV];clear eV q0 q1 q2 q3 q4 q5 qf;obtain⟨q0,q1,q2,q3,q4,q5,qf⟩:=dH HF.o.1;refine a5a (v:=jf.val ⟨nm,true,⟨true,pk,pa,pn,pc⟩,ua,k,uc⟩) (by simp[results,Tryz.results102,go_sem,jf.val,q0,q1,q2,q3,q4,q5]) rfl ?_;exact⟨_,_,rfl,HM.o,HF.o.2.1,HF.o.2.2.1,HF.o.2.2.2⟩
 obtain⟨j0,hj0,hj1⟩:=aoN (V:=V) u (by have:=Ro.o;simpa using this.symm);have HJ:=ai hj1;have hjn:j0<nu:=by have:=qB.o;omega
 have aWq:=HNU.o;have Gj:=ai (dx CJ.o (nu:Int) (by have:=HN0.o;omega) (by omega));clear hj1 Ro;go_wp2_with fail
 refine Gj.o.mono ?_;rintro r w5 ⟨z,rfl,hz0,hz1,oW,hc5⟩;obtain⟨k0,rfl⟩:∃k0:Nat,z=k0:=⟨z.toNat,by omega⟩
 have hk0:k0<nu:=by omega
 have pU:=ai (mo.o.then hc5);have uV:=ai oW;have H65:=ai (hc5.blk H64.o YH.o);have H85:=ai (hc5.blk H84.o HN8.o);have a0y:=ai (hc5.blk awk.o aN9.o);have ah3:=ai (show eZ∉[bd] by have:=Vp.o;have:=HN.o;have:=pF.o;simp;omega);have a0w:=ai (hc5.blk aA2.o ah3.o);have asL:=ai (RY.o.mono (cF hc5 (fun y hy=>by rw[aG.1 hy];have:=HN.o;have:=pF.o;simp;omega)));have tR:=ai hc5.size;clear oW hc5 hz0 hz1 Gj CJ mo H64 H84 awk aA2 RY r0 r1 r2 r3 r4 r5 rf f0 f1 f2 f3 f4 f5 f6 f7 ff t2;go_wp2_with fail
 go_loopw [13] (fun i wr=>∃k:Nat,i=.int .i64 k/\k<nu/\Ext w5 wr) (fun i _=>(j0+nu - (intOf i).toNat) % nu)
 case atStart=>exact⟨k0,rfl,hk0,Tz _⟩
 case round =>
  obtain⟨k,rfl,hk,lM⟩:=hrel;have fq:k<u.length:=by have:=qB.o;omega
  have tk0:(0:Int)<=(k:Int):=by omega
  have tk1:(k:Int)<(nu:Int):=by omega
  have tn0:((nu:Int)==0)=false:=by simp;omega
  have gZ:=ai lM;have H6r:=ai (lM.blk H65.o);have H8r:=ai (lM.blk H85.o);have nS:=ai (pU.o.then (lM.cR [bd]));clear lM;obtain⟨b,off,rfl,rO,v,Co,hrow,hbk⟩:=HBK.o.at fq;have vt:=ai rO;have yy:=ai hrow;have a0d:=ai hbk;have Lg:=ai Co;obtain⟨c0,c1,c2,c3,c4,c5,c6,c7⟩:=hrow.eight
  replace c0:=nS.o.cell c0 rO
  replace c1:=nS.o.cell c1 rO
  replace c2:=nS.o.cell c2 rO
  replace c3:=nS.o.cell c3 rO
  replace c4:=nS.o.cell c4 rO
  replace c5:=nS.o.cell c5 rO
  replace c6:=nS.o.cell c6 rO
  replace c7:=nS.o.cell c7 rO
  obtain⟨T,hT⟩:∃T,T=(V u[k].cond&&!nM V u[k].gH):=⟨_,rfl⟩
  have HTK:=ai (fun (W:World) (hW:Ext wr W)=>HTB.o k fq v W (nS.o.then (hW.cR _)) ((uV.o.ext gZ.o).ext hW) (hbk.cR (nS.o.then (hW.cR _))));rw[<-hT] at HTK;have HT:=ai hT;clear hT rO Co hrow hbk;obtain⟨s0,sf⟩:=dO H6r.o;obtain⟨f0,f1,f2,f3,f4,f5,f6,f7,ff⟩:=oO H8r.o;have S0:=bT s0;have F5:=bT f5;have F6:=bT f6;have F7:=bT f7;have C0:=bT c0;have C1:=bT c1;have C2:=bT c2;have C3:=bT c3;have C4:=bT c4;have C5:=bT c5;have C6:=bT c6;have C7:=bT c7;go_upto_region 11 with fail
  refine kT 10 ?_
  repeat (refine bZ ?_;intro K hK;go_big_quiet_op;go_big_quiet_on)
  refine mU (fun W hW=>HTK.o W hW) ?_;intro K hK;go_simp;go_big_quiet_on
  repeat (refine bZ ?_;intro K hK;go_big_quiet_op;go_big_quiet_on)
  refine gC fun w6 gN _ _=>?_
  have kR:=ai (gZ.o.trans gN);have H66:=ai (gN.blk H6r.o);have H86:=ai (gN.blk H8r.o);clear gN S0 F5 F6 F7 C0 C1 C2 C3 C4 C5 C6 C7 c0 c1 c2 c3 c4 c5 c6 c7 s0 sf f0 f1 f2 f3 f4 f5 f6 f7 ff H6r H8r HTK;cases T
  case false =>
   have hne:k≠j0:=fun e=>by subst e;have:=HT.o;rw[HJ.o] at this;cases this
   have hr:((k:Int)+1).tmod (nu:Int)=(((k+1) % nu:Nat):Int):=by
    rw[Int.tmod_eq_emod_of_nonneg (by omega)];norm_cast
   obtain⟨f0,f1,f2,f3,f4,f5,f6,f7,ff⟩:=oO H86.o;go_wp2_with fail
   go_roundw
   case rel=>exact⟨(k+1) % nu,by first|rfl|(rw[hr])|(simp[hr])|(congr 1),(UB hk hjn hne).1,kR.o⟩
   case measure =>
    have:=(UB hk hjn hne).2;have hr2:(((k:Int)+1) % (nu:Int)).toNat=(k+1) % nu:=by
     have e:((k:Int)+1) % (nu:Int)=(((k+1) % nu:Nat):Int):=by norm_cast
     rw[e,Int.toNat_natCast]
    simpa[intOf,hr2] using this
  have sK:=ai (pU.o.then (kR.o.cR [bd]));have ER:=ai (uV.o.ext kR.o);have a0x:=ai (kR.o.blk a0y.o);have aO6:=ai (kR.o.blk a0w.o);have av':=ai (asL.o.mono (cF (kR.o.cR []) (by simp)));have asB:=ai (aV tR.o kR.o.size);have OO:=ai (fun (W:World) (hW:ct [bd] w6 W) (hd:cg w0 W bd)=>HRC.o k fq v W (sK.o.then hW) hd Lg.o (a0d.o.cR (sK.o.then hW)));obtain⟨c0,c1,c2,c3,c4,c5,c6,c7⟩:=yy.o.eight
  replace c0:=cU (sK.o.cell c0 vt.o) vt.o
  replace c1:=cU (sK.o.cell c1 vt.o) vt.o
  replace c2:=cU (sK.o.cell c2 vt.o) vt.o
  replace c3:=cU (sK.o.cell c3 vt.o) vt.o
  replace c4:=cU (sK.o.cell c4 vt.o) vt.o
  replace c5:=cU (sK.o.cell c5 vt.o) vt.o
  replace c6:=cU (sK.o.cell c6 vt.o) vt.o
  replace c7:=cU (sK.o.cell c7 vt.o) vt.o
  obtain⟨s0,sf⟩:=dO H66.o;obtain⟨f0,f1,f2,f3,f4,f5,f6,f7,ff⟩:=oO H86.o;have S0:=cU s0 YH.o;have F5:=cU f5 HN8.o;have F6:=cU f6 HN8.o;have F7:=cU f7 HN8.o;go_upto_region 13 with fail
  refine pT 12 [bd] (fun W=>ct [bd] w6 W/\cg w0 W bd) ⟨(Tz w6).drew.cR _,ER.o.ext (Tz w6).drew⟩ (fun _ _ hx h=>⟨h.1.then (hx.cR _),h.2.ext hx⟩) ?_
  repeat (refine bZ ?_;intro K hK;go_big_quiet_op;go_big_quiet_on)
  refine dP (γ:=Rs×jf) (fun x=>.agg #[.string x.2.name,.bool x.2.dg,.bool x.2.p.value,x.2.p.pick,.slice x.2.p.a x.2.p.n x.2.p.c,.slice x.2.a x.2.n x.2.c]) (fun x W=>(ct [bd] w6 W/\cg w0 W bd)/\PbK A u[k].name u[k].cond u[k].gH x.1/\kC (mask W (List.range w6.heap.size)) x.1 x.2) (fun W hW h _=>?_) (fun x W W' hx h=>⟨⟨h.1.1.then (hx.cR _),h.1.2.ext hx⟩,h.2.1,kC.mono h.2.2 (cF (hx.cR []) (by simp))⟩) ?_ ⟨(.mk ⟨#[]⟩ false (.mk false 0 []) [],⟨⟨#[]⟩,false,⟨false,0,none,0,0⟩,none,0,0⟩)⟩
  ·unfold bQ;go_simp;have hsz:=h.1.size;refine(OO.o W h.1 h.2).mono ?_;rintro r wz ⟨X,xv,rfl,hp,hi,hd,hc⟩;exact⟨_,rfl,hc,(X,xv),rfl,⟨h.1.then hc,hd⟩,hp,kC.mono hi (cM _ (fun y hy=>by rw[a43] at hy ⊢;omega))⟩
  rintro⟨X,vn,Q',qv,va,vm,vc⟩ K hK;go_simp;go_big_quiet_on
  repeat (refine bZ ?_;intro K hK;go_big_quiet_op;go_big_quiet_on)
  refine dP (γ:=Nat) (fun g=>.slice (some ⟨g,0,none⟩) 1 1) (fun g W=>(ct [bd] w6 W/\cg w0 W bd)/\PbK A u[k].name u[k].cond u[k].gH X/\iE (mask W (List.range w6.heap.size)) [X] (some ⟨g,0,none⟩) 1 1) (fun W hW h _=>?_) (fun x W W' hx h=>⟨⟨h.1.1.then (hx.cR _),h.1.2.ext hx⟩,h.2.1,h.2.2.mono (cF (hx.cR []) (by simp))⟩) ?_ ⟨0⟩
  ·have HH:=ai h;have HYY:=ai h.1.1.size;clear h;unfold bQ;go_simp;exact⟨((Tz W).alloc _).cR _,W.heap.size,rfl,⟨HH.o.1.1.then (((Tz W).alloc _).cR _),HH.o.1.2.ext ((Tz W).alloc _)⟩,HH.o.2.1,Jw (v:=⟨vn,Q',qv,va,vm,vc⟩) (bR W _) (fun hm=>by have:=HYY.o;rw[a43] at hm;omega) (kC.mono HH.o.2.2 (cF (((Tz W).alloc _).cR []) (by simp)))⟩
  rintro g K hK;go_simp;go_big_quiet_on
  repeat (refine bZ ?_;intro K hK;go_big_quiet_op;go_big_quiet_on)
  refine nH fun w7 rE hy _=>?_
  obtain⟨⟨-,hd7⟩,hpx,hi7⟩:=hy;clear S0 F5 F6 F7 c0 c1 c2 c3 c4 c5 c6 c7 s0 sf f0 f1 f2 f3 f4 f5 f6 f7 ff;have aMC:=rE.blk aO6.o ah3.o;obtain⟨w8,gX⟩:∃w8,w8=w7.setCell ⟨eZ,5,none⟩ (.slice (some ⟨g,0,none⟩) 1 1):=⟨_,rfl⟩
  have iI:ct [eZ] w7 w8:=by rw[gX];exact(ct.refl _ _).setCell (aoX (by simp)) _
  have hbb:bd≠eZ:=by have:=Vp.o;have:=HN.o;have:=pF.o;omega
  have a0v:=ai (show w8.heap[eZ]?=some (.cells #[.string nm,.bool false,.bool true,pk,.slice pa pn pc,.slice (some ⟨g,0,none⟩) 1 1] 69 (0,0)) by rw[gX,aI _ _ _ _ _ _ aMC];simp);have aU7:=ai (iI.blk (rE.blk a0x.o aN9.o) (by have:=Vp.o;have:=HN.o;simp;omega));have YK:=ai (hd7.cR iI (by simpa using hbb) (fun y hy=>by rw[aG.1 hy];have:=Vp.o;have:=HN.o;have:=pF.o;omega));have CM:=ai ((sK.o.then rE).trans iI (fun y hy=>a4Z (by rw[aG.1 hy];have:=Vp.o;have:=HN.o;omega)));have HI8:=ai (av'.o.mono ((cF rE (fun y hy=>by rw[aG.1 hy];have:=HN.o;have:=pF.o;simp;omega)).trans (cF iI (fun y hy=>aoX (by rw[aG.1 hy];simp)))));have HR8:=ai (hi7.mono (cF iI (fun y hy=>aoX (by rw[aG.1 hy];have:=Vp.o;have:=asB.o;rw[a43];omega))));have HPX:=ai (show X.dg=true/\(qK A u).2 X=true from⟨by rw[(PK HS.o (zN HS.o _).1 (zN HS.o _).2 hpx.1).1];exact HT.o.symm,akv u k fq X hpx.1⟩);clear rE hd7 hpx hi7 iI;obtain⟨r0,r1,r2,r3,r4,r5,rf⟩:=dH aMC;go_upto_region 14 with fail
  rw[<-gX];clear gX aMC r0 r1 r2 r3 r4 r5 rf;obtain⟨r0,r1,r2,r3,r4,r5,rf⟩:=dH a0v.o;obtain⟨q0,q1,q2,q3,q4,q5,qf⟩:=dH aU7.o;have HF:=ai (ahD (r:=.mk nm false p [X]) (v:=⟨nm,false,⟨true,pk,pa,pn,pc⟩,some ⟨g,0,none⟩,1,1⟩) aU7.o YK.o CM.o (by have:=HN.o;omega) (by have:=pF.o;have:=HN.o;omega) (by have:=pF.o;have:=HN.o;omega) (Gc (HI8.o.mono (cM _ (by intro y hy;have:=HN.o;simp only[bz,a43] at hy ⊢;omega))) (HR8.o.mono (cM _ (by intro y hy;have:=HN.o;have:=Vp.o;have:=asB.o;simp only[bz,a43] at hy ⊢;omega))) _ _));have HM:=ai (show PbK A nm cond u (.mk nm false p [X]) from(⟨by rw[ad6 Rp.o.1,aI9.o,HUE.o];show (X.dg&&(qK A u).2 X)=true;rw[HPX.o.1,HPX.o.2];rfl,Rp.o.2,by simp[Rs.gH]⟩));go_wp2_with fail
  obtain⟨wz,eV⟩:∃wz,wz=fA w8 (n0+2) (.string nm) (.bool false) (.bool true) (.int .i64 pk) (.slice pa pn pc) (.slice (some ⟨g,0,none⟩) 1 1):=⟨_,rfl⟩
  rw[<-eV] at HF;unfold fA at eV;rw[<-eV];clear eV q0 q1 q2 q3 q4 q5 qf;obtain⟨q0,q1,q2,q3,q4,q5,qf⟩:=dH HF.o.1;refine a5a (v:=jf.val ⟨nm,false,⟨true,pk,pa,pn,pc⟩,some ⟨g,0,none⟩,1,1⟩) (by simp[results,Tryz.results102,go_sem,jf.val,q0,q1,q2,q3,q4,q5]) rfl ?_;exact⟨_,_,rfl,HM.o,HF.o.2.1,HF.o.2.2.1,HF.o.2.2.2⟩
end Go.Proofs.YtefjomofjejklaaGreatDoor
