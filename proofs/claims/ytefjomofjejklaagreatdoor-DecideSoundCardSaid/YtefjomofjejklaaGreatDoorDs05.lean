/- Joined. -/
import Derived.Test.YtefjomofjejklaaGreatDoorDs04
import Derived.Deep.DeepCutAuto
namespace Go.Proofs.YtefjomofjejklaaGreatDoor
set_option maxRecDepth 100000
set_option maxHeartbeats 32000000
open Go.RowKit
def QG (a:Attr):Prop:=(a.kind=1/\a.words≠[]/\a.words.Nodup/\a.words.length<=1000)\/(a.kind=2/\a.lo<=a.hi /\ -1000000000<=a.lo/\a.hi<=1000000000)\/a.kind=3
def acp (attrs:List Attr) (names:ZB) (e:Ex):Prop:=e.args=[] /\
 ((e.op=1/\e.name=⟨#[]⟩/\e.words=[]/\e.lo=0/\e.hi=0)\/(e.op=2/\e.name=⟨#[]⟩/\e.words=[]/\e.lo=0/\e.hi=0) \/
 (e.op=3/\(e.name∈names\/∃a∈attrs,a.kind=3/\e.name=a.name)/\e.words=[]/\e.lo=0/\e.hi=0) \/
 (e.op=4/\(∃a∈attrs,a.kind=1/\e.name=a.name/\e.words≠[]/\e.words.Nodup/\(∀x∈e.words,x∈a.words))/\e.lo=0/\e.hi=0) \/
 (e.op=5/\(∃a∈attrs,a.kind=2/\e.name=a.name/\a.lo<=e.lo/\e.lo<=e.hi/\e.hi<=a.hi)/\e.words=[]))
def Mv (Pr:Ex->Prop) (w0:World) (bd:Nat) (M:ZN) (w:World) (e:Ending) (w':World):Prop:=∃(x:Ex) (v:dK),e=.returned v.val/\Pr x/\dw (mask w' M) x v.val/\cg w0 w' bd/\ct [bd] w w'
theorem ct.cell {N:ZN} {w w':World} (h:ct N w w') {p:Addr} {v:Value} (hp:w.cell? p=some v) (hn:p.block∉N):w'.cell? p=some v:=by
 rw[World.cell?_of_block (h.block _ (eB hp) hn)];exact hp
theorem Ga {w:World} {M:ZN} {p:Addr} {v:Value} (h:(mask w M).cell? p=some v):w.cell? p=some v/\p.block∉M:=by
 rw[eA] at h;by_cases hm:p.block∈M
 ·rw[bM hm] at h;cases h
 rw[bL hm] at h;exact⟨h,hm⟩
theorem KT {w:World} {b:Nat} {v0 v1 v2 v3 v4:Value} {t:TypeId} (h:w.heap[b]?=some (.cells #[v0,v1,v2,v3,v4] t (0,0))) :
  w.cell? ⟨b,0,none⟩=some v0/\w.cell? ⟨b,1,none⟩=some v1/\w.cell? ⟨b,2,none⟩=some v2/\w.cell? ⟨b,3,none⟩=some v3/\w.cell? ⟨b,4,none⟩=some v4/\(∀j,w.frozen? ⟨b,j,none⟩=false) :=
 ⟨bX h 0,bX h 1,bX h 2,bX h 3,bX h 4,fun j=>ie h j⟩
theorem dB.at {w:World} {attrs:List Attr} {a:OA} {n c:Nat} (h:dB w attrs (.agg #[.slice a n c])) {r:Nat} (hr:r<n):∃(b off:Nat) (x:qU),a=some ⟨b,off,none⟩/\x.x∈attrs/\w.cell? ⟨b,off+r*5,none⟩=some (.string x.x.name)/\w.cell? ⟨b,off+r*5+1,none⟩=some (.int .i64 x.x.kind) /\
  w.cell? ⟨b,off+r*5+2,none⟩=some (.slice x.a x.n x.c)/\w.cell? ⟨b,off+r*5+3,none⟩=some (.int .i64 x.x.lo)/\w.cell? ⟨b,off+r*5+4,none⟩=some (.int .i64 x.x.hi)/\fS w x.x.words x.a x.n x.c:=by
 obtain⟨_,_,_,e,e1,_,_,hat⟩:=h;cases e
 obtain⟨b,off,e2,aw,nw,cw,g0,g1,g2,g3,g4,g5⟩:=hat r (by omega);exact⟨b,off,⟨attrs[r]'(by omega),aw,nw,cw⟩,e2,aD _,g0,g1,g2,g3,g4,g5⟩
def aCf (w:World) (B:Nat) (x:qU):World:=((((w.setCell ⟨B,0,none⟩ (.string x.x.name)).setCell ⟨B,1,none⟩ (.int .i64 x.x.kind)).setCell ⟨B,2,none⟩ (.slice x.a x.n x.c)).setCell ⟨B,3,none⟩ (.int .i64 x.x.lo)).setCell ⟨B,4,none⟩ (.int .i64 x.x.hi)
theorem aCe {w:World} {B:Nat} {v0 v1 v2 v3 v4:Value} {t:TypeId} (h:w.heap[B]?=some (.cells #[v0,v1,v2,v3,v4] t (0,0))) (x:qU):(aCf w B x).heap[B]?=some (.cells x.cells.toArray t (0,0)):=by
 unfold aCf;rw[aI _ _ _ _ _ _ (aI _ _ _ _ _ _ (aI _ _ _ _ _ _ (aI _ _ _ _ _ _ (aI _ _ _ _ _ _ h))))]
 rfl
theorem aCd (w:World) (B:Nat) (x:qU) {N:ZN} (h:B∈N):ct N w (aCf w B x):=by
 unfold aCf
 repeat (with_reducible (refine ct.setCell ?_ ?_ _))
 exact ct.refl _ _
 all_goals exact aoX h
theorem yl {Pr:Ex->Prop} {w0 w W:World} {bd B:Nat} {M:ZN} {x:dK} {e:Ex} (hc:ct [bd] w W) (hd:cg w0 W bd) (hB:w.heap.size<=B) (hbd:bd<w.heap.size) (he:Pr e) (hx:dw (mask W (B::M)) e x.val):Mv Pr w0 bd M w (.returned x.val) (Aj W B x):=by
 have h0:w0.heap.size<=bd:=by obtain⟨_,_,_,_,_,_,_,_,_,h⟩:=hd;exact h
 refine⟨e,x,rfl,he,hx.mono ((nC W B x (N:=B::M) (by simp)).sub.trans (cM _ (fun y hy=>aZ _ hy))),hd.cR (nC W B x (N:=[B]) (by simp)) (by simp;omega) (by simp;omega),hc.trans (nC W B x (N:=[B]) (by simp)) (by intro y hy;simp at hy;subst hy;exact a4Z hB)⟩
def NK (l:ZB) (f j:Nat):ZB:=(List.range j).map fun i=>l.getD ((f+i) % l.length) ⟨#[]⟩
theorem auk (l:ZB) (f j:Nat):NK l f (j+1)=NK l f j++[l.getD ((f+j) % l.length) ⟨#[]⟩]:=by simp[NK,List.range_succ]
theorem Py (l:ZB) (f j:Nat):(NK l f j).length=j:=by simp[NK]
theorem ayC {l:ZB} {f j:Nat} (h0:0<l.length):∀x∈NK l f j,x∈l:=by
 intro x hx;obtain⟨i,_,rfl⟩:=List.mem_map.1 hx;have hm:=Nat.mod_lt (f+i) h0;rw[List.getD_eq_getElem?_getD,aT hm];exact aD hm
theorem aqf {l:ZB} {f j:Nat} (h0:0<l.length) (hj:j<=l.length) (hn:l.Nodup):(NK l f j).Nodup:=by
 unfold NK;rw[List.Nodup,List.pairwise_map];refine List.Pairwise.imp_of_mem ?_ List.pairwise_lt_range;intro a b ha hb hab e;simp only[a43] at ha hb;have hma:=Nat.mod_lt (f+a) h0;have hmb:=Nat.mod_lt (f+b) h0;rw[List.getD_eq_getElem?_getD,List.getD_eq_getElem?_getD,aT hma,aT hmb] at e;simp only[Option.getD_some] at e;have hij:(f+a) % l.length=(f+b) % l.length:=by
  rw[List.Nodup,List.pairwise_iff_getElem] at hn;rcases Nat.lt_trichotomy ((f+a) % l.length) ((f+b) % l.length) with h|h|h
  ·exact a40 e (hn _ _ hma hmb h)
  ·exact h
  exact a40 e.symm (hn _ _ hmb hma h)
 have h1:=Nat.sub_mod_eq_zero_of_mod_eq hij.symm;rw[show f+b - (f+a)=b - a by omega,Nat.mod_eq_of_lt (by omega)] at h1;omega
theorem aBc {w:World} {l:ZB} {a:OA} {n c:Nat} (h:fS w l a n c) (h0:0<n) (f j:Nat):∃(b off idx:Nat),a=some ⟨b,off,none⟩/\idx<n/\w.cell? ⟨b,off+idx,none⟩=some (.string (l.getD ((f+j) % l.length) ⟨#[]⟩))/\((f:Int)+j).tmod (n:Int)=(idx:Int):=by
 have hn:=h.1;subst hn;have hm:=Nat.mod_lt (f+j) h0;obtain⟨b,off,e,hc⟩:=h.2.2.2 _ hm;refine⟨b,off,(f+j) % l.length,e,hm,?_,by rw[<-Int.natCast_add,<-Int.ofNat_tmod]⟩;rw[hc,List.getD_eq_getElem?_getD,aT hm]
 rfl
def aNe (be y:Nat) (v:Value) (a:OA) (n c j:Nat) (fj:Int) (idx b off:Nat) (t:BA) (xs:List Value):Nat->Value->World->Prop
 | 0,u,_=>u=.pointer (some ⟨be,2,none⟩)
 | 1,u,_=>u=v
 | 2,u,_=>u=.pointer (some ⟨y,2,none⟩)
 | 3,u,_=>u=.slice a n c
 | 4,u,_=>u=.int .i64 fj
 | 5,u,_=>u=.pointer (some ⟨y,2,none⟩)
 | 6,u,_=>u=.slice a n c
 | 7,u,_=>u=.int .i64 n
 | 8,u,_=>u=.int .i64 idx
 | 9,u,_=>u=.pointer (some ⟨b,off+idx,none⟩)
 | 10,u,_=>u=.string t
 | 11,u,W=>∃x0,u=.slice (some ⟨x0,0,none⟩) 1 1/\W.heap[x0]?=some (.cells #[.string t] 9 (0,0))/\W.ownsRow (be+1) 9 1 v j xs
 | 12,u,W=>∃g cap,u=.slice (some ⟨g,0,none⟩) (j+1) cap/\W.ownsRow (be+1) 9 1 (.slice (some ⟨g,0,none⟩) (j+1) cap) (j+1) (xs++[.string t])
 | 13,u,_=>u=.pointer (some ⟨be,2,none⟩)
 | _,_,_=>True
def E13 (k:Nat) (W W':World):Prop:=k=11\/k=12\/W=W'
def G13 (v:Value) (wr:World) (L:ZN) (W:World):Prop:=ct (rowOf v) wr W/\(12∉L->Ext wr W)
theorem atU {ops:Array Oper} {be y:Nat} {v:Value} {a:OA} {n c j:Nat} {fj:Int} {idx b off:Nat} {t:BA} {xs:List Value} (ana:(!mN ops 14 [12,13] 11 12&&!mN ops 14 [12,13] 12 11)=true) :
  ∀i k u W W',i<14->k<14->i≠k->mN ops 14 [12,13] i k=true->aNe be y v a n c j fj idx b off t xs i u W->E13 k W W'->aNe be y v a n c j fj idx b off t xs i u W':=by
 intro i k u W W' hi hk hne ho hR hE;simp only[aF,Bool.not_eq_true'] at ana;rcases ltc14 hi with rfl|rfl|rfl|rfl|rfl|rfl|rfl|rfl|rfl|rfl|rfl|rfl|rfl|rfl
 case inr.inr.inr.inr.inr.inr.inr.inr.inr.inr.inr.inl =>
  rcases hE with rfl|rfl|rfl
  ·exact a40 rfl hne
  ·rw[ana.1] at ho;cases ho
  exact hR
 case inr.inr.inr.inr.inr.inr.inr.inr.inr.inr.inr.inr.inl =>
  rcases hE with rfl|rfl|rfl
  ·rw[ana.2] at ho;cases ho
  ·exact a40 rfl hne
  exact hR
 all_goals exact hR
def aM7 (words:ZB) (name:BA) (be bd f:Nat) (k0:Int) (w0 wa:World) (fr k:Value) (wr:World):Prop:=∃(j:Nat) (v:Value),(j:Int)<=k0/\fr=.int .i64 ((f:Int)+j)/\k=.int .i64 (k0 - j) /\
 wr.heap[be]?=some (.cells #[.int .i64 4,.string name,v,.int .i64 0,.int .i64 0,.slice none 0 0] 45 (0,0))/\wr.ownsRow (be+1) 9 1 v j ((NK words f j).flatMap iC)/\ct [bd] wa wr/\cg w0 wr bd
theorem avN {w0 w:World} {bd:Nat} (hd:cg w0 w bd) (attrs:List Attr) (names:ZB) (a:OA) (n c:Nat) (an:OA) (nn cn:Nat) (M:ZN) (hs:dB (mask w [bd]) attrs (.agg #[.slice a n c])) (hn:fS (mask w [bd]) names an nn cn)
  (hok:∀a∈attrs,QG a) (hne:attrs≠[]) (hl:attrs.length<=1000) (hnl:names.length<=1000) (hM:∀y∈M,y<w.heap.size) :
  Calls Tryz.prog 68 #[.pointer (some ⟨bd,0,none⟩),.agg #[.slice a n c],.slice an nn cn] w (Mv (acp attrs names) w0 bd M w):=by
 have HD:=ai hd;have HS:=ai hs;have HN:=ai hn;have zm:=ai hok;have HM:=ai hM;have hbd:bd<w.heap.size:=by obtain⟨_,_,_,_,hb,_⟩:=hd;exact bS hb
 have a3m:nn<=1000:=by have:=hn.1;omega
 have hnn:=ai hn.1;have hal:n<=1000:=by obtain⟨_,_,_,e,h1,_⟩:=hs;cases e;omega
 have ha0:0<n:=by
  obtain⟨_,_,_,e,h1,_⟩:=hs;cases e
  have:0<attrs.length:=List.length_pos_iff.2 hne;omega
 clear hd hs hn hok hM hne;have arc:nn=0\/0<nn:=by omega
 rcases arc with h0|h0
 case' inl =>
  have t1:decide (0<(nn:Int))=false:=by simp;omega
  have t2:decide (0<nn)=false:=by simp;omega
  clear h0;have hcW:∀o1 o2,ct [bd] w ((w.alloc o1).alloc o2):=fun o1 o2=>((ct.refl [bd] w).alloc _).alloc _
  have nS:=ai (hcW (.cells #[.slice a n c] 24) (.cells jD.cells.toArray 45));have HDW:=ai (HD.o.ext (((Tz w).alloc (.cells #[.slice a n c] 24)).alloc (.cells jD.cells.toArray 45)));have gG:=ai (bU (o':=.cells jD.cells.toArray 45) (bR w (.cells #[.slice a n c] 24)));have fY:=ai (alloc_at (w:=w.alloc (.cells #[.slice a n c] 24)) (o:=.cells jD.cells.toArray 45) (n:=w.heap.size+1) (by simp));clear hcW;go_enter Tryz.func68,Tryz.ntmps68
  go_wp2_with fail;unfold jD dK.cells at nS HDW gG fY;generalize (w.alloc (.cells #[.slice a n c] 24)).alloc (.cells #[.int .i64 0,.string ⟨#[]⟩,.slice none 0 0,.int .i64 0,.int .i64 0,.slice none 0 0] 45)=wc at *
 case' inr =>
  have t1:decide (0<(nn:Int))=true:=by simp;omega
  have t2:decide (0<nn)=true:=by simp;omega
  have HDW:=ai (HD.o.ext (((Tz w).alloc (.cells #[.slice a n c] 24)).alloc (.cells jD.cells.toArray 45)));have gG:=ai (bU (o':=.cells jD.cells.toArray 45) (bR w (.cells #[.slice a n c] 24)));have fY:=ai (alloc_at (w:=w.alloc (.cells #[.slice a n c] 24)) (o:=.cells jD.cells.toArray 45) (n:=w.heap.size+1) (by simp));have kH:=ai (fun (W:World) (h:ct [bd] ((w.alloc (.cells #[.slice a n c] 24)).alloc (.cells jD.cells.toArray 45)) W)=>(((ct.refl [bd] w).alloc (.cells #[.slice a n c] 24)).alloc (.cells jD.cells.toArray 45)).then h);go_enter Tryz.func68,Tryz.ntmps68
  go_wp2_with fail;refine(dx HDW.o _ (by omega) (by omega)).mono ?_;rintro r wc ⟨r1,rfl,hr0,hr1,hd1,hc1⟩;have aJn:=ai hd1;have aF8:=ai (kH.o _ hc1);have pG:=ai (hc1.blk gG.o (by simp;omega));have Lt:=ai (hc1.blk fY.o (by simp;omega));clear hd1 hc1 HDW gG fY kH;by_cases hr:r1=0
  ·subst hr;go_wp2_with fail;refine(dx aJn.o _ (by omega) (by omega)).mono ?_;rintro r w2 ⟨r2,rfl,hs0,hs1,qd,hc2⟩;obtain⟨q,rfl⟩:∃q:Nat,r2=(q:Int):=⟨r2.toNat,by omega⟩
   have hq:q<names.length:=by have:=hnn.out;omega
   have hqn:q<nn:=by omega
   obtain⟨b,off,rfl,hcell⟩:=HN.o.2.2.2 q hq;obtain⟨aDx,hcb⟩:=Ga hcell;have au9:=(aF8.o.then hc2).cell aDx hcb;have aZN:=ai qd;have aF7:=ai (aF8.o.then hc2);have hb2:=hc2.blk Lt.o (by simp;omega);have hlt2:=bS hb2;unfold jD dK.cells at hb2;obtain⟨b0,b1,b2,b3,b4,b5,bf⟩:=cX hb2;have HEL:=ai (aD hq);clear qd hc2 hcell aDx hcb hb2 aJn aF8 pG Lt;go_wp2_with fail;refine a5a (v:=(dK.mk 3 names[q] none 0 0 0 0 none 0 0).val) (by simp[results,Tryz.results68,go_sem,dK.val,fN,b0,b1,b2,b3,b4,b5]) rfl ?_;exact yl (e:=.mk 3 names[q] [] 0 0 []) (x:=⟨3,names[q],none,0,0,0,0,none,0,0⟩) aF7.o aZN.o (by omega) hbd ⟨rfl,a4Z (a4Z (aoX ⟨rfl,aoX HEL.o,rfl,rfl,rfl⟩))⟩ (eT _ 3 0 0 names[q])
  have hr':(r1==0)=false:=by simpa using hr
  go_wp2_with fail;have HDW:=aJn;have nS:=aF8;have gG:=pG;have fY:=Lt;clear aJn aF8 pG Lt;unfold jD dK.cells at fY
 all_goals
  have hb1:=gG.o;have hb2:=fY.o;have ZY:=bS hb2;have c0:=bX hb1 0;simp at c0;clear hb1 hb2;have C0:=cU c0 (show w.heap.size∉[bd] by simp;omega);refine pT 10 [bd] (fun W=>cg w0 W bd) (HDW.o.ext ((Tz wc).drew)) (fun _ _ hx h=>h.ext hx) ?_
  repeat (refine bZ ?_;intro Ka cH;go_big_quiet_op;go_big_quiet_on)
  refine dP (γ:={r:Nat // r<n}) (fun r=>.int .i64 (r.1:Nat)) (fun _ W=>cg w0 W bd) (fun W hW hd _=>?_) (fun _ _ _ hx h=>h.ext hx) ?_ ⟨⟨0,by omega⟩⟩
  ·unfold bQ;go_simp;refine(dx hd _ (by omega) (by omega)).mono ?_;rintro e W' ⟨r,rfl,hr0,hr1,hd',hc'⟩;exact⟨_,rfl,hc',⟨r.toNat,by omega⟩,by rw[Int.toNat_of_nonneg hr0],hd'⟩
  rintro⟨r,hr⟩ Ka cH;obtain⟨b,off,x,rfl,hx1,g0,g1,g2,g3,g4,g5⟩:=HS.o.at hr;have ti:(r:Int)<(n:Int):=by omega
  have hh:=fun {p v} (h:(mask w [bd]).cell? p=some v) (τ:WIn (ct [bd] wc))=>(nS.o.then τ.2).cell (Ga h).1 (Ga h).2
  have G0:=hh g0;have G1:=hh g1;have G2:=hh g2;have G3:=hh g3;have G4:=hh g4;have dI:=ai hx1;have dN:=ai g5;clear hh g0 g1 g2 g3 g4 g5 hx1;go_simp;go_big_quiet_on
  repeat (refine bZ ?_;intro Ka cH;go_big_quiet_op;go_big_quiet_on)
  refine Az (fun y=>.pointer (some ⟨y,0,none⟩)) (fun y W=>wc.heap.size<=y/\W.heap[y]?=some (.cells #[.string ⟨#[]⟩,.int .i64 0,.slice none 0 0,.int .i64 0,.int .i64 0] 101 (0,0))) (fun W hW=>?_) (fun y W W' h q=>⟨q.1,h.blk q.2 (by have:=q.1;simp;omega)⟩) ?_
  ·unfold bQ;go_simp;exact⟨(Tz W).alloc _,W.heap.size,rfl,hW.size,bR W _⟩
  intro y Ka cH;go_simp;go_big_quiet_on;refine nH fun W hW hd hf=>?_
  have HG:=ai (show ct [bd] wc W/\cg w0 W bd from⟨hW,hd⟩);have hy1:=hf.2.1;have hy2:=hf.2.2;have Et:=bS hy2;obtain⟨y0,y1,y2,y3,y4,yf⟩:=KT hy2;have HY2:=ai hy2;clear hW hd hf hy2 C0 G0 G1 G2 G3 G4 ti hr;go_upto_region 4 with fail;have hPc:=aCd W y x (N:=[y]) (by simp);have hPb:=aCe HY2.o x;unfold aCf at hPc hPb;generalize (((((W.setCell ⟨y,0,none⟩ (.string x.x.name)).setCell ⟨y,1,none⟩ (.int .i64 x.x.kind)).setCell ⟨y,2,none⟩ (.slice x.a x.n x.c)).setCell ⟨y,3,none⟩ (.int .i64 x.x.lo)).setCell ⟨y,4,none⟩ (.int .i64 x.x.hi))=wa at *;have a4j:w0.heap.size<=bd:=by obtain⟨_,_,_,_,_,_,_,_,_,h⟩:=HG.o.2;exact h
  have QM:=ai (HG.o.2.cR hPc (by simp;omega) (by simp;omega));have He:=ai ((nS.o.then HG.o.1).trans hPc (by intro q hq;simp at hq;subst hq;exact a4Z (by omega)));have HRB:=ai (hPc.blk (HG.o.1.blk fY.o (by simp;omega)) (by simp;omega));have HAB:=ai hPb;have hyw:w.heap.size+1<y:=by omega
  have hya:=bS hPb;have hra:=bS HRB.o;unfold qU.cells at hPb;have HYC:=KT hPb;have hrb:=HRB.o;obtain⟨b0,b1,b2,b3,b4,b5,bf⟩:=cX hrb;clear y0 y1 y2 y3 y4 yf;obtain⟨y0,y1,y2,y3,y4,yf⟩:=HYC;clear hPc hPb hrb HG HY2 Et gG fY nS HDW c0 ZY;rcases zm.o _ dI.o with tC|tC|tC
  ·have k3:(x.x.kind==3)=false:=by simp[tC.1]
   have k1:(x.x.kind==1)=true:=by simp[tC.1]
   have HK:=ai tC;have HWN:=ai dN.o.1;have hn0:0<x.n:=by have:=List.length_pos_iff.2 tC.2.1;have:=dN.o.1;omega
   have Cr:x.n<=1000:=by have:=tC.2.2.2;have:=dN.o.1;omega
   clear tC;have Jz:∀(o:Obj),ct [bd] wa (wa.alloc o):=fun o=>(ct.refl _ _).alloc o
   have lQ:=ai Jz;have qP:=ai (bR wa (.cells #[.int .i64 4,.string x.x.name,.slice none 0 0,.int .i64 0,.int .i64 0,.slice none 0 0] 45));clear Jz;go_wp2_with fail;refine(dx (QM.o.ext ((Tz wa).alloc _)) _ (by omega) (by omega)).mono ?_;rintro e1 wb ⟨f0,rfl,hf0,hf1,hd1,hc1⟩;obtain⟨f,rfl⟩:∃f:Nat,f0=(f:Int):=⟨f0.toNat,by omega⟩
   have si:=ai ((lQ.o _).then hc1);have HDB:=ai hd1;have HEB:=ai (hc1.blk qP.o (by simp;omega));clear hd1 hc1 y0 y1 y2 y3 y4 yf b0 b1 b2 b3 b4 b5 bf;have hyb:=(si.o.blk HAB.o (by simp;omega))
   unfold qU.cells at hyb;have aV4:=bS hyb;obtain⟨y0,y1,y2,y3,y4,yf⟩:=KT hyb;clear hyb;go_wp2_with fail;refine(jG HDB.o _ _ (by omega) (by omega) (by omega)).mono ?_;rintro e2 wd ⟨k0,rfl,hk0,uk,hd1,hc1⟩;have HCD:=ai (si.o.then hc1);have HDD:=ai hd1;have hez:=bS HEB.o;have HED:=ai (hc1.blk HEB.o (by simp;omega));clear hd1 hc1 HDB si HEB y0 y1 y2 y3 y4 yf;go_wp2_with fail;go_loopw [9,10] (aM7 x.x.words x.x.name wa.heap.size bd f k0 w0 wa) (fun _ k _=>(intOf k).toNat)
   case atStart=>exact⟨0,.slice none 0 0,by omega,by simp,by simp,HED.o,a4' _ _ _ _,HCD.o,HDD.o⟩
   case round =>
    obtain⟨j,v,hj,rfl,rfl,Jz,hown,hcr,hdr⟩:=hrel;clear HCD HDD HED qP;have jm:=ai Jz;have HOW:=ai hown;have xW:=ai hcr;have YJ:=ai hdr;have hyb:=(hcr.blk HAB.o (by simp;omega))
    have aW3:=bS Jz;unfold qU.cells at hyb;have aPX:=bS hyb;obtain⟨y0,y1,y2,y3,y4,yf⟩:=KT hyb;obtain⟨e0,e1,e2,e3,e4,e5,ef⟩:=cX Jz;clear Jz hown hcr hdr hyb;by_cases hlt:(j:Int)<k0
    ·have t1:decide (0<k0 - (j:Int))=true:=by simp;omega
     obtain⟨b,off,idx,gB,hidx,hcell,htm⟩:=aBc dN.o hn0 f j;obtain⟨hcw,hcb⟩:=Ga hcell;have qL:b<w.heap.size:=eB hcw;have hcr:=xW.o.cell (He.o.cell hcw hcb) hcb;have hrow:∀q∈rowOf v,wa.heap.size+1<=q:=fun q hq=>(HOW.o.lt q (bV.1 hq)).1
     have a2E:=He.o.size;have hzr:=xW.o.size;have HPS:=ai (auk x.x.words f j);generalize x.x.words.getD ((f+j) % x.x.words.length) ⟨#[]⟩=t at *;have HTM:=ai htm;have dm:=ai gB;have yy:=ai hrow;clear htm gB hcell hcw hrow;go_wp2_with fail;refine kU (m:=14) [12,13] (G13 v wr) E13 (aNe wa.heap.size y v x.a x.n x.c j ((f:Int)+j) idx b off t ((NK x.x.words f j).flatMap iC)) (by kernel_rfl) (by kernel_rfl) ⟨(ct.refl _ _).drew,fun _=>(Tz wr).drew⟩ (atU (by kernel_rfl)) ?_ ?_
     ·intro i o hi ho L vs W yQ hnc hG hd ρ hρ;have hi':=ltc14 hi;clear hi;have o8:ρ (.tmp 8)=.pointer (some ⟨wa.heap.size,0,none⟩):=hρ.out 8 rfl;have i0:=hρ.i 0 64;have o7:ρ (.tmp 7)=.pointer (some ⟨y,0,none⟩):=hρ.out 7 rfl;have i2:=hρ.i 2 66;have o9:ρ (.tmp 9)=.int .i64 ((f:Int)+j):=hρ.out 9 rfl;have i5:=hρ.i 5 69;have i6:=hρ.i 6 70;have i4:=hρ.i 4 68;have i7:=hρ.i 7 71;have i3:=hρ.i 3 67;have i8:=hρ.i 8 72;have i9:=hρ.i 9 73;have i10:=hρ.i 10 74;have i1:=hρ.i 1 65;have i11:=hρ.i 11 75;have i13:=hρ.i 13 77;have i12:=hρ.i 12 76;have hcs:=hρ.const;clear hρ;have Jp:=ai (show ∀i,i≠12->G13 v wr (L++[i]) W from fun i hi=>⟨hG.1,fun h=>hG.2 (fun h'=>h (aK _ h'))⟩);have HG:=ai hG;have cE:=hG.1.cell e2 (fun h=>by have h2:wa.heap.size+1<=wa.heap.size:=yy.o _ h;omega);have cY:=hG.1.cell y2 (fun h=>by have h2:wa.heap.size+1<=y:=yy.o _ h;omega);have cB:=hG.1.cell hcr (fun h=>by have h2:wa.heap.size+1<=b:=yy.o _ h;omega);have hws:=hG.1.size;clear hG y0 y1 y2 y3 y4 yf e0 e1 e2 e3 e4 e5 ef;rcases hi' with rfl|rfl|rfl|rfl|rfl|rfl|rfl|rfl|rfl|rfl|rfl|rfl|rfl|rfl
      ·cases ho
       unfold bQ;go_simp;exact⟨a4Z (a4Z rfl),Jp.o _ (by simp),rfl⟩
      ·cases ho
       have h0:vs 0=_:=hd ⟨0,.data⟩ (by simp) rfl;rw[h0] at i0;unfold bQ;go_simp;exact⟨a4Z (a4Z rfl),Jp.o _ (by simp),rfl⟩
      ·cases ho
       unfold bQ;go_simp;exact⟨a4Z (a4Z rfl),Jp.o _ (by simp),rfl⟩
      ·cases ho
       have h2:vs 2=_:=hd ⟨2,.data⟩ (by simp) rfl;rw[h2] at i2;unfold bQ;go_simp;exact⟨a4Z (a4Z rfl),Jp.o _ (by simp),rfl⟩
      ·cases ho
       unfold bQ;go_simp;exact⟨a4Z (a4Z rfl),Jp.o _ (by simp),rfl⟩
      ·cases ho
       unfold bQ;go_simp;exact⟨a4Z (a4Z rfl),Jp.o _ (by simp),rfl⟩
      ·cases ho
       have h5:vs 5=_:=hd ⟨5,.data⟩ (by simp) rfl;rw[h5] at i5;unfold bQ;go_simp;exact⟨a4Z (a4Z rfl),Jp.o _ (by simp),rfl⟩
      ·cases ho
       have h6:vs 6=_:=hd ⟨6,.data⟩ (by simp) rfl;rw[h6] at i6;unfold bQ;go_simp;exact⟨a4Z (a4Z rfl),Jp.o _ (by simp),rfl⟩
      ·cases ho
       have h4:vs 4=_:=hd ⟨4,.data⟩ (by simp) rfl;have h7:vs 7=_:=hd ⟨7,.data⟩ (by simp) rfl;rw[h4] at i4;rw[h7] at i7;have hnz:((x.n:Int)==0)=false:=by simp;omega
       have a3j:¬x.n=0:=by omega
       have htm:=HTM.o;unfold bQ;go_simp;exact⟨a4Z (a4Z rfl),Jp.o _ (by simp),rfl⟩
      ·cases ho
       have h3:vs 3=_:=hd ⟨3,.data⟩ (by simp) rfl;have h8:vs 8=_:=hd ⟨8,.data⟩ (by simp) rfl;rw[h3,dm.o] at i3;rw[h8] at i8;have ti:(idx:Int)<(x.n:Int):=by omega
       unfold bQ;go_simp;exact⟨a4Z (a4Z rfl),Jp.o _ (by simp),rfl⟩
      ·cases ho
       have h9:vs 9=_:=hd ⟨9,.data⟩ (by simp) rfl;rw[h9] at i9;unfold bQ;go_simp;exact⟨a4Z (a4Z rfl),Jp.o _ (by simp),rfl⟩
      ·cases ho
       have h10:vs 10=_:=hd ⟨10,.data⟩ (by simp) rfl;rw[h10] at i10;have hno:12∉L:=fun h=>by have:=hnc 12 h;revert this;decide +kernel
       have hEW:=HG.o.2 hno;have HEW:=ai hEW;clear hEW;unfold bQ;go_simp;exact⟨aoX rfl,⟨HG.o.1.alloc _,fun _=>HEW.o.alloc _⟩,W.heap.size,rfl,bR W _,gF HOW.o (HEW.o.alloc _)⟩
      ·cases ho
       have h1:vs 1=_:=hd ⟨1,.data⟩ (by simp) rfl;obtain⟨x0,h11,hx0,hxo⟩:=hd ⟨11,.data⟩ (by simp) rfl;rw[h1] at i1;rw[h11] at i11;have hnew:∀q (hq:q < [Value.string t].length),W.cell? ⟨x0,q,none⟩=some [Value.string t][q]:=by
        intro q hq;obtain rfl:q=0:=by simpa using hq
        rw[bX hx0];rfl
       refine jS xM _ _ (wa.heap.size+1) _ j _ i1 x0 1 1 [.string t] i11 rfl (by simp[Value.oneCell']) (by omega) (by omega) (by omega) hxo hnew (by omega) ?_;intro g cap w' ho' hg' _ _;refine⟨a4Z (aoX rfl),⟨HG.o.1.then (eX hg'),fun h=>a40 (by simp) h⟩,g,cap,rfl,ho'⟩
      cases ho
      unfold bQ;go_simp;exact⟨a4Z (a4Z rfl),Jp.o _ (by simp),rfl⟩
     intro L vs W _ hG hR;rw[bL (by decide +kernel)];obtain⟨g,cap,h12,jt⟩:=hR 12 (by simp) (by omega);have Kw:vs 13=_:=hR 13 (by simp) (by omega);have hC:=hG.1;have ane:=hC.blk jm.o (fun h=>by have:=yy.o _ h;omega);have aMt:=bS ane;have GX:=ai ane;have ajw:=ai jt;have HC:=ai hC;clear e0 e1 e2 e3 e4 e5 ef y0 y1 y2 y3 y4 yf hcr;obtain⟨e0,e1,e2,e3,e4,e5,ef⟩:=cX ane;clear hG hR hC ane jt;unfold wpOp;simp only[fL,dU,List.range,List.range.loop,aX,bN,h12,Kw];clear h12 Kw;go_simp;refine aoX ?_;go_wp2_with fail;go_roundw
     case rel =>
      have abG:=(ct.refl [wa.heap.size] W).setCell (p:=⟨wa.heap.size,2,none⟩) (aoX (by simp)) (.slice (some ⟨g,0,none⟩) (j+1) cap);have zR:=(ajw.o.lt g rfl).1;refine⟨j+1,.slice (some ⟨g,0,none⟩) (j+1) cap,by omega,(by first|(congr 1;omega)|rfl),(by first|(congr 1;omega)|rfl),?_,?_,?_,?_⟩
      ·rw[aI _ _ _ _ _ _ GX.o];rfl
      ·rw[HPS.o,List.flatMap_append];exact cO ajw.o abG (fun q hq h=>by cases hq;have h2:g=wa.heap.size:=aG.1 h;omega)
      ·refine(xW.o.trans HC.o (fun q hq=>a4Z (by have:=yy.o q hq;omega))).trans abG (fun q hq=>by simp at hq;subst hq;exact a4Z (aU _))
      have h1:=YJ.o.cR HC.o (fun h=>by have h2:wa.heap.size+1<=bd:=yy.o _ h;omega) (fun q hq=>by have:=yy.o q hq;omega);exact h1.cR abG (by rw[aG];omega) (fun q hq=>by rw[aG] at hq;subst hq;have:=He.o.size;omega)
     case measure=>simp[intOf];omega
    have hjk:(j:Int)=k0:=by omega
    have t1:decide (0<k0 - (j:Int))=false:=by simp;omega
    have hrb:=(xW.o.blk HRB.o (by simp;omega))
    have aQl:=bS hrb;obtain⟨b0,b1,b2,b3,b4,b5,bf⟩:=cX hrb;obtain⟨sa,sc,rfl,hs1,hs2⟩:=jR (l:=NK x.x.words f j) (by rw[Py];exact HOW.o) ((w.heap.size+1)::M) (fun q hq=>by
     have h1:=He.o.size;rcases bz.1 hq with rfl|hq
     ·omega
     have:=HM.o q hq;omega)
    rw[Py] at hs1 e2;have Ae:=ai hs1;clear hrb hs1 hs2;go_wp2_with fail;refine a5a (v:=(dK.mk 4 x.x.name sa j sc 0 0 none 0 0).val) (by simp[results,Tryz.results68,go_sem,dK.val,fN,b0,b1,b2,b3,b4,b5]) rfl ?_;exact yl (e:=.mk 4 x.x.name (NK x.x.words f j) 0 0 []) (x:=⟨4,x.x.name,sa,j,sc,0,0,none,0,0⟩) (He.o.then xW.o) YJ.o (by omega) hbd ⟨rfl,a4Z (a4Z (a4Z (aoX ⟨rfl,⟨x.x,dI.o,HK.o.1,rfl,(fun e=>by have:=Py x.x.words f j;rw[show NK x.x.words f j=[] from e] at this;simp at this;omega),aqf (by have:=HWN.o;omega) (by have:=HWN.o;omega) HK.o.2.2.1,ayC (by have:=HWN.o;omega)⟩,rfl,rfl⟩)))⟩ (PU Ae.o 4 0 0 x.x.name)
  ·have k3:(x.x.kind==3)=false:=by simp[tC.1]
   have k1:(x.x.kind==1)=false:=by simp[tC.1]
   have HK:=ai tC.1;obtain⟨_,l1,l2,l3⟩:=tC;have e1:IntKind.i64.wrap (x.x.hi - x.x.lo)=x.x.hi - x.x.lo:=IntWalk.i64_in _ (by omega);have e2:IntKind.i64.wrap (x.x.hi - x.x.lo+1)=x.x.hi - x.x.lo+1:=IntWalk.i64_in _ (by omega);have E1:=ai e1;have E2:=ai e2;clear e1 e2;go_wp2_with fail;have Y3:=cU y3 (show y∉[bd] by simp;omega);have Y4:=cU y4 (show y∉[bd] by simp;omega);have e1:=E1.o;have e2:=E2.o;refine pT 12 [bd] (fun W=>cg w0 W bd) (QM.o.ext ((Tz wa).drew)) (fun _ _ hx h=>h.ext hx) ?_
   repeat (refine bZ ?_;intro Ka cH;go_big_quiet_op;go_big_quiet_on)
   refine dP (γ:={r:Int // 0<=r/\r<=x.x.hi - x.x.lo}) (fun r=>.int .i64 r.1) (fun _ W=>cg w0 W bd) (fun W hW hd _=>?_) (fun _ _ _ hx h=>h.ext hx) ?_ ⟨⟨0,by omega⟩⟩
   ·unfold bQ;go_simp;refine(dx hd _ (by omega) (by omega)).mono ?_;rintro e W' ⟨r,rfl,hr0,hr1,hd',hc'⟩;exact⟨_,rfl,hc',⟨r,hr0,by omega⟩,rfl,hd'⟩
   rintro⟨r,hr0,hr1⟩ Ka cH;have e3:IntKind.i64.wrap (x.x.lo+r)=x.x.lo+r:=IntWalk.i64_in _ (by omega);go_simp;go_big_quiet_on
   repeat (refine bZ ?_;intro Ka cH;go_big_quiet_op;go_big_quiet_on)
   refine gC fun W hW hd _=>?_
   obtain⟨z,hz⟩:∃z,z=x.x.lo+r:=⟨_,rfl⟩
   rw[<-hz];have hz1:x.x.lo<=z:=by omega
   have hz2:z<=x.x.hi:=by omega
   have HDB:=ai hd;have si:=ai hW;clear hz hr0 hr1 hd hW e1 e2 e3 Y3 Y4;clear y0 y1 y2 y3 y4 yf b0 b1 b2 b3 b4 b5 bf E1 E2 QM;go_wp2_with fail;refine(dx HDB.o _ (by omega) (by omega)).mono ?_;rintro e1 wb ⟨r2,rfl,aLQ,aWm,qd,hc2⟩;have aGd:=ai (si.o.then hc2);have aJp:=ai qd;clear HDB si qd hc2;have hyb:=(aGd.o.blk HAB.o (by simp;omega))
   unfold qU.cells at hyb;have aV4:=bS hyb;obtain⟨y0,y1,y2,y3,y4,yf⟩:=KT hyb;clear hyb;by_cases hr2:r2=0
   case' pos =>
    subst hr2;go_wp2_with fail;have Y3:=cU y3 (show y∉[bd] by simp;omega);have Y4:=cU y4 (show y∉[bd] by simp;omega);refine pT 10 [bd] (fun W=>cg w0 W bd) (aJp.o.ext ((Tz wb).drew)) (fun _ _ hx h=>h.ext hx) ?_
    repeat (refine bZ ?_;intro Ka cH;go_big_quiet_op;go_big_quiet_on)
    refine dP (γ:={r:Int // 0<=r/\r<12}) (fun r=>.int .i64 r.1) (fun _ W=>cg w0 W bd) (fun W hW hd _=>?_) (fun _ _ _ hx h=>h.ext hx) ?_ ⟨⟨0,by omega⟩⟩
    ·unfold bQ;go_simp;refine(dx hd _ (by omega) (by omega)).mono ?_;rintro e W' ⟨r,rfl,hr0,hr1,hd',hc'⟩;exact⟨_,rfl,hc',⟨r,hr0,by omega⟩,rfl,hd'⟩
    rintro⟨r,hr0,hr1⟩ Ka cH;go_simp;go_big_quiet_on
    repeat (refine bZ ?_;intro Ka cH;go_big_quiet_op;go_big_quiet_on)
    refine gC fun wd hW hd _=>?_
    clear hz1 hz2;obtain⟨m,hm⟩:∃m,m=max (r - 4) x.x.lo:=⟨_,rfl⟩
    have hm0:(if r - 4<x.x.lo then x.x.lo else r - 4)=m:=by rw[hm];split<;>omega
    first|rw[hm0]|rw[<-hm]
    obtain⟨z,hz⟩:∃z,z=min m x.x.hi:=⟨_,rfl⟩
    have hz0:(if x.x.hi<m then x.x.hi else m)=z:=by rw[hz];split<;>omega
    first|rw[hz0]|rw[<-hz]
    have hz1:x.x.lo<=z:=by omega
    have hz2:z<=x.x.hi:=by omega
    have VN:=ai hd;have HCC:=ai (aGd.o.then hW);clear hz hz0 hm hm0 hr0 hr1 hd hW Y3 Y4;clear y0 y1 y2 y3 y4 yf aJp aGd
   case' neg =>
    have a2T:(r2==0)=false:=by simpa using hr2
    have VN:=aJp;have HCC:=aGd;clear aJp aGd y0 y1 y2 y3 y4 yf;obtain⟨wd,hwd⟩:∃wd,wd=wb:=⟨_,rfl⟩
    subst hwd
   all_goals
    have hyb:=(HCC.o.blk HAB.o (by simp;omega))
    unfold qU.cells at hyb;have aPX:=bS hyb;obtain⟨y0,y1,y2,y3,y4,yf⟩:=KT hyb;clear hyb;go_wp2_with fail;refine(dx VN.o _ (by omega) (by omega)).mono ?_;rintro e3 we ⟨r3,rfl,aWl,a2S,CZ,hc3⟩;have HDE:=ai CZ;have Un:=ai (HCC.o.then hc3);clear CZ hc3 y0 y1 y2 y3 y4 yf VN HCC;go_wp2_with fail;refine(dx HDE.o _ (by omega) (by omega)).mono ?_;rintro e4 wf ⟨r4,rfl,a2P,a2O,Si,hc4⟩;have HDF:=ai Si;have Vs:=ai (Un.o.then hc4);clear Si hc4 HDE Un;have hyb:=(Vs.o.blk HAB.o (by simp;omega))
    unfold qU.cells at hyb;have a1b:=bS hyb;obtain⟨y0,y1,y2,y3,y4,yf⟩:=KT hyb;clear hyb;by_cases hr4:r4=0
    case' pos =>
     subst hr4;go_wp2_with fail;have Y4:=cU y4 (show y∉[bd] by simp;omega);refine pT 8 [bd] (fun W=>cg w0 W bd) (HDF.o.ext ((Tz wf).drew)) (fun _ _ hx h=>h.ext hx) ?_
     repeat (refine bZ ?_;intro Ka cH;go_big_quiet_op;go_big_quiet_on)
     refine dP (γ:={r:Int // 0<=r/\r<4}) (fun r=>.int .i64 r.1) (fun _ W=>cg w0 W bd) (fun W hW hd _=>?_) (fun _ _ _ hx h=>h.ext hx) ?_ ⟨⟨0,by omega⟩⟩
     ·unfold bQ;go_simp;refine(dx hd _ (by omega) (by omega)).mono ?_;rintro e W' ⟨r,rfl,hr0,hr1,hd',hc'⟩;exact⟨_,rfl,hc',⟨r,hr0,by omega⟩,rfl,hd'⟩
     rintro⟨r,hr0,hr1⟩ Ka cH;go_simp;go_big_quiet_on
     repeat (refine bZ ?_;intro Ka cH;go_big_quiet_op;go_big_quiet_on)
     refine gC fun wg hW hd _=>?_
     obtain⟨u,hu⟩:∃u,u=min (z+r) x.x.hi:=⟨_,rfl⟩
     have hu0:(if x.x.hi<z+r then x.x.hi else z+r)=u:=by rw[hu];split<;>omega
     first|rw[hu0]|rw[<-hu]
     have hu1:z<=u:=by omega
     have hu2:u<=x.x.hi:=by omega
     have HDH:=ai hd;have HCH:=ai (Vs.o.then hW);clear hu hu0 hr0 hr1 hd hW Y4;clear y0 y1 y2 y3 y4 yf HDF Vs
    case' neg =>
     have a2Q:(r4==0)=false:=by simpa using hr4
     have HDH:=HDF;have HCH:=Vs;clear HDF Vs y0 y1 y2 y3 y4 yf;obtain⟨wg,hwg⟩:∃wg,wg=wf:=⟨_,rfl⟩
     subst hwg;obtain⟨u,hu⟩:∃u,u=z+r3:=⟨_,rfl⟩
     rw[<-hu];have hu1:z<=u:=by omega
     have hu2:u<=x.x.hi:=by omega
     clear hu
    all_goals
     have hyb:=(HCH.o.blk HAB.o (by simp;omega))
     unfold qU.cells at hyb;have a1a:=bS hyb;obtain⟨y0,y1,y2,y3,y4,yf⟩:=KT hyb;have hrb:=(HCH.o.blk HRB.o (by simp;omega))
     have aQl:=bS hrb;obtain⟨b0,b1,b2,b3,b4,b5,bf⟩:=cX hrb;clear hyb hrb;go_wp2_with fail;refine a5a (v:=(dK.mk 5 x.x.name none 0 0 z u none 0 0).val) (by simp[results,Tryz.results68,go_sem,dK.val,fN,b0,b1,b2,b3,b4,b5]) rfl ?_;exact yl (e:=.mk 5 x.x.name [] z u []) (x:=⟨5,x.x.name,none,0,0,z,u,none,0,0⟩) (He.o.then HCH.o) HDH.o (by omega) hbd ⟨rfl,a4Z (a4Z (a4Z (a4Z ⟨rfl,⟨x.x,dI.o,HK.o,rfl,hz1,hu1,hu2⟩,rfl⟩)))⟩ (eT _ 5 z u x.x.name)
  have k3:(x.x.kind==3)=true:=by simp[tC]
  have HK:=ai tC;clear tC;go_wp2_with fail;refine a5a (v:=(dK.mk 3 x.x.name none 0 0 0 0 none 0 0).val) (by simp[results,Tryz.results68,go_sem,dK.val,fN,b0,b1,b2,b3,b4,b5]) rfl ?_;exact yl (e:=.mk 3 x.x.name [] 0 0 []) (x:=⟨3,x.x.name,none,0,0,0,0,none,0,0⟩) He.o QM.o (by omega) hbd ⟨rfl,a4Z (a4Z (aoX ⟨rfl,a4Z ⟨x.x,dI.o,HK.o,rfl⟩,rfl,rfl,rfl⟩))⟩ (eT _ 3 0 0 x.x.name)
end Go.Proofs.YtefjomofjejklaaGreatDoor
