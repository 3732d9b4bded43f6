/-
  Texts of the claim, joined: Made.
-/
import Derived.Test.YtefjomofjejklaaGreatDoorDx03
namespace Go.Proofs.YtefjomofjejklaaGreatDoor
set_option maxRecDepth 100000
set_option maxHeartbeats 32000000
open Go.RowKit
def Yj (a:Attr):Prop:=(a.kind=1/\a.words≠[]/\a.words.Nodup/\a.words.length<=1000)\/(a.kind=2/\a.lo<=a.hi /\ -1000000000<=a.lo/\a.hi<=1000000000)\/a.kind=3
def ahj (attrs:List Attr) (names:ZB) (e:Ex):Prop:=e.args=[] /\
 ((e.op=1/\e.name=⟨#[]⟩/\e.words=[]/\e.lo=0/\e.hi=0)\/(e.op=2/\e.name=⟨#[]⟩/\e.words=[]/\e.lo=0/\e.hi=0) \/
 (e.op=3/\(e.name∈names\/∃a∈attrs,a.kind=3/\e.name=a.name)/\e.words=[]/\e.lo=0/\e.hi=0) \/
 (e.op=4/\(∃a∈attrs,a.kind=1/\e.name=a.name/\e.words≠[]/\e.words.Nodup/\(∀x∈e.words,x∈a.words))/\e.lo=0/\e.hi=0) \/
 (e.op=5/\(∃a∈attrs,a.kind=2/\e.name=a.name/\a.lo<=e.lo/\e.lo<=e.hi/\e.hi<=a.hi)/\e.words=[]))
def Un (Pr:Ex->Prop) (w0:World) (bd:Nat) (M:ZN) (w:World) (e:Ending) (w':World):Prop:=∃(x:Ex) (v:fU),e=.returned v.val/\Pr x/\fC (mask w' M) x v.val/\dS w0 w' bd/\dO [bd] w w'
theorem dO.cell {N:ZN} {w w':World} (h:dO N w w') {p:Addr} {v:Value} (hp:w.cell? p=some v) (hn:p.block∉N):w'.cell? p=some v:=by
 rw[World.cell?_of_block (h.block _ (block_lt hp) hn)];exact hp
theorem MJ {w:World} {M:ZN} {p:Addr} {v:Value} (h:(mask w M).cell? p=some v):w.cell? p=some v/\p.block∉M:=by
 rw[iH] at h;by_cases hm:p.block∈M
 ·rw[dw hm] at h;cases h
 rw[dh hm] at h;exact⟨h,hm⟩
theorem asE {w:World} {b:Nat} {v0 v1 v2 v3 v4:Value} {t:TypeId} (h:w.heap[b]?=some (.cells #[v0,v1,v2,v3,v4] t (0,0))) :
  w.cell? ⟨b,0,none⟩=some v0/\w.cell? ⟨b,1,none⟩=some v1/\w.cell? ⟨b,2,none⟩=some v2/\w.cell? ⟨b,3,none⟩=some v3/\w.cell? ⟨b,4,none⟩=some v4/\(∀j,w.frozen? ⟨b,j,none⟩=false) :=
 ⟨dM h 0,dM h 1,dM h 2,dM h 3,dM h 4,fun j=>jS h j⟩
theorem fJ.at {w:World} {attrs:List Attr} {a:OA} {n c:Nat} (h:fJ w attrs (.agg #[.slice a n c])) {r:Nat} (hr:r<n):∃(b off:Nat) (x:vK),a=some ⟨b,off,none⟩/\x.x∈attrs/\w.cell? ⟨b,off+r*5,none⟩=some (.string x.x.name)/\w.cell? ⟨b,off+r*5+1,none⟩=some (.int .i64 x.x.kind) /\
  w.cell? ⟨b,off+r*5+2,none⟩=some (.slice x.a x.n x.c)/\w.cell? ⟨b,off+r*5+3,none⟩=some (.int .i64 x.x.lo)/\w.cell? ⟨b,off+r*5+4,none⟩=some (.int .i64 x.x.hi)/\ji w x.x.words x.a x.n x.c:=by
 obtain⟨_,_,_,e,e1,_,_,hat⟩:=h;cases e
 obtain⟨b,off,e2,aw,nw,cw,g0,g1,g2,g3,g4,g5⟩:=hat r (by omega);exact⟨b,off,⟨attrs[r]'(by omega),aw,nw,cw⟩,e2,aI _,g0,g1,g2,g3,g4,g5⟩
def aGu (w:World) (B:Nat) (x:vK):World:=((((w.setCell ⟨B,0,none⟩ (.string x.x.name)).setCell ⟨B,1,none⟩ (.int .i64 x.x.kind)).setCell ⟨B,2,none⟩ (.slice x.a x.n x.c)).setCell ⟨B,3,none⟩ (.int .i64 x.x.lo)).setCell ⟨B,4,none⟩ (.int .i64 x.x.hi)
theorem aGt {w:World} {B:Nat} {v0 v1 v2 v3 v4:Value} {t:TypeId} (h:w.heap[B]?=some (.cells #[v0,v1,v2,v3,v4] t (0,0))) (x:vK):(aGu w B x).heap[B]?=some (.cells x.cells.toArray t (0,0)):=by
 unfold aGu;rw[aO _ _ _ _ _ _ (aO _ _ _ _ _ _ (aO _ _ _ _ _ _ (aO _ _ _ _ _ _ (aO _ _ _ _ _ _ h))))]
 rfl
theorem aGs (w:World) (B:Nat) (x:vK) {N:ZN} (h:B∈N):dO N w (aGu w B x):=by
 unfold aGu
 repeat (with_reducible (refine dO.setCell ?_ ?_ _))
 exact dO.refl _ _
 all_goals exact Or.inl h
theorem CZ {Pr:Ex->Prop} {w0 w W:World} {bd B:Nat} {M:ZN} {x:fU} {e:Ex} (hc:dO [bd] w W) (hd:dS w0 W bd) (hB:w.heap.size<=B) (hbd:bd<w.heap.size) (he:Pr e) (hx:fC (mask W (B::M)) e x.val):Un Pr w0 bd M w (.returned x.val) (FC W B x):=by
 have h0:w0.heap.size<=bd:=by obtain⟨_,_,_,_,_,_,_,_,_,h⟩:=hd;exact h
 refine⟨e,x,rfl,he,hx.mono ((rE W B x (N:=B::M) (by simp)).sub.trans (eG _ (fun y hy=>bH _ hy))),hd.fH (rE W B x (N:=[B]) (by simp)) (by simp;omega) (by simp;omega),hc.trans (rE W B x (N:=[B]) (by simp)) (by intro y hy;simp at hy;subst hy;exact Or.inr hB)⟩
def Ra3 (attrs:List Attr) (bd bs n:Nat) (a:OA) (c:Nat) (base:Nat) (wb:World):Nat->Value->World->Prop
 | 0,v,_=>v=.pointer (some ⟨bs,0,none⟩)
 | 1,v,_=>v=.slice a n c
 | 2,v,_=>v=.pointer (some ⟨bd,0,none⟩)
 | 3,v,_=>v=.pointer (some ⟨bs,0,none⟩)
 | 4,v,_=>v=.slice a n c
 | 5,v,_=>v=.int .i64 n
 | 6,v,_=>∃r:Nat,r<n/\v=.int .i64 r
 | 7,v,_=>∃(r b off:Nat),r<n/\a=some ⟨b,off,none⟩/\v=.pointer (some ⟨b,off+r*5,none⟩)
 | 8,v,_=>∃(x:vK),x.x∈attrs/\v=.agg x.cells.toArray/\ji (mask wb [bd]) x.x.words x.a x.n x.c
 | 9,v,W=>∃y,v=.pointer (some ⟨y,0,none⟩)/\base<=y/\W.heap[y]?=some (.cells #[.string ⟨#[]⟩,.int .i64 0,.slice none 0 0,.int .i64 0,.int .i64 0] 101 (0,0))
 | _,_,_=>True
def aRc (bd y:Nat) (lo hi:Int):Nat->Value->World->Prop
 | 0,v,_=>v=.pointer (some ⟨y,3,none⟩)
 | 1,v,_=>v=.int .i64 lo
 | 2,v,_=>v=.pointer (some ⟨bd,0,none⟩)
 | 3,v,_=>v=.pointer (some ⟨y,4,none⟩)
 | 4,v,_=>v=.int .i64 hi
 | 5,v,_=>v=.pointer (some ⟨y,3,none⟩)
 | 6,v,_=>v=.int .i64 lo
 | 7,v,_=>v=.int .i64 (hi - lo)
 | 8,v,_=>v=.int .i64 (hi - lo+1)
 | 9,v,_=>∃r:Int,v=.int .i64 r/\0<=r/\r<=hi - lo
 | 10,v,_=>∃z:Int,v=.int .i64 z/\lo<=z/\z<=hi
 | 11,v,_=>∃z:Int,v=.int .i64 z/\lo<=z/\z<=hi
 | _,_,_=>True
theorem ayD {bd y:Nat} {lo hi:Int} (i:Nat) (v:Value) (W W':World) (hi':i<12) (h:aRc bd y lo hi i v W):aRc bd y lo hi i v W':=by
 have:i=0\/i=1\/i=2\/i=3\/i=4\/i=5\/i=6\/i=7\/i=8\/i=9\/i=10\/i=11:=by omega
 rcases this with rfl|rfl|rfl|rfl|rfl|rfl|rfl|rfl|rfl|rfl|rfl|rfl<;>exact h
def aRb (bd y:Nat) (lo hi:Int):Nat->Value->World->Prop
 | 0,v,_=>v=.pointer (some ⟨bd,0,none⟩)
 | 1,v,_=>∃r:Int,v=.int .i64 r/\0<=r/\r<12
 | 2,v,_=>∃r:Int,v=.int .i64 r /\ -4<=r/\r<8
 | 3,v,_=>v=.pointer (some ⟨y,3,none⟩)
 | 4,v,_=>v=.int .i64 lo
 | 5,v,_=>∃r:Int,v=.int .i64 r/\lo<=r
 | 6,v,_=>v=.pointer (some ⟨y,4,none⟩)
 | 7,v,_=>v=.int .i64 hi
 | 8,v,_=>∃z:Int,v=.int .i64 z/\lo<=z/\z<=hi
 | 9,v,_=>∃z:Int,v=.int .i64 z/\lo<=z/\z<=hi
 | _,_,_=>True
theorem ayC {bd y:Nat} {lo hi:Int} (i:Nat) (v:Value) (W W':World) (hi':i<10) (h:aRb bd y lo hi i v W):aRb bd y lo hi i v W':=by
 have:i=0\/i=1\/i=2\/i=3\/i=4\/i=5\/i=6\/i=7\/i=8\/i=9:=by omega
 rcases this with rfl|rfl|rfl|rfl|rfl|rfl|rfl|rfl|rfl|rfl<;>exact h
def aRa (bd y:Nat) (z hi:Int):Nat->Value->World->Prop
 | 0,v,_=>v=.int .i64 z
 | 1,v,_=>v=.pointer (some ⟨bd,0,none⟩)
 | 2,v,_=>∃r:Int,v=.int .i64 r/\0<=r/\r<4
 | 3,v,_=>∃r:Int,v=.int .i64 r/\z<=r
 | 4,v,_=>v=.pointer (some ⟨y,4,none⟩)
 | 5,v,_=>v=.int .i64 hi
 | 6,v,_=>∃u:Int,v=.int .i64 u/\z<=u/\u<=hi
 | 7,v,_=>∃u:Int,v=.int .i64 u/\z<=u/\u<=hi
 | _,_,_=>True
theorem ayB {bd y:Nat} {z hi:Int} (i:Nat) (v:Value) (W W':World) (hi':i<8) (h:aRa bd y z hi i v W):aRa bd y z hi i v W':=by
 have:i=0\/i=1\/i=2\/i=3\/i=4\/i=5\/i=6\/i=7:=by omega
 rcases this with rfl|rfl|rfl|rfl|rfl|rfl|rfl|rfl<;>exact h
def VE (l:ZB) (f j:Nat):ZB:=(List.range j).map fun i=>l.getD ((f+i) % l.length) ⟨#[]⟩
theorem ayV (l:ZB) (f j:Nat):VE l f (j+1)=VE l f j++[l.getD ((f+j) % l.length) ⟨#[]⟩]:=by simp[VE,List.range_succ]
theorem Xr (l:ZB) (f j:Nat):(VE l f j).length=j:=by simp[VE]
theorem aCY {l:ZB} {f j:Nat} (h0:0<l.length):∀x∈VE l f j,x∈l:=by
 intro x hx;obtain⟨i,_,rfl⟩:=List.mem_map.1 hx;have hm:=Nat.mod_lt (f+i) h0;rw[List.getD_eq_getElem?_getD,aZ hm];exact aI hm
theorem auY {l:ZB} {f j:Nat} (h0:0<l.length) (hj:j<=l.length) (hn:l.Nodup):(VE l f j).Nodup:=by
 unfold VE;rw[List.Nodup,List.pairwise_map];refine List.Pairwise.imp_of_mem ?_ List.pairwise_lt_range;intro a b ha hb hab e;simp only[List.mem_range] at ha hb;have hma:=Nat.mod_lt (f+a) h0;have hmb:=Nat.mod_lt (f+b) h0;rw[List.getD_eq_getElem?_getD,List.getD_eq_getElem?_getD,aZ hma,aZ hmb] at e;simp only[Option.getD_some] at e;have hij:(f+a) % l.length=(f+b) % l.length:=by
  rw[List.Nodup,List.pairwise_iff_getElem] at hn;rcases Nat.lt_trichotomy ((f+a) % l.length) ((f+b) % l.length) with h|h|h
  ·exact absurd e (hn _ _ hma hmb h)
  ·exact h
  exact absurd e.symm (hn _ _ hmb hma h)
 have h1:=Nat.sub_mod_eq_zero_of_mod_eq hij.symm;rw[show f+b - (f+a)=b - a by omega,Nat.mod_eq_of_lt (by omega)] at h1;omega
theorem aFs {w:World} {l:ZB} {a:OA} {n c:Nat} (h:ji w l a n c) (h0:0<n) (f j:Nat):∃(b off idx:Nat),a=some ⟨b,off,none⟩/\idx<n/\w.cell? ⟨b,off+idx,none⟩=some (.string (l.getD ((f+j) % l.length) ⟨#[]⟩))/\((f:Int)+j).tmod (n:Int)=(idx:Int):=by
 have hn:=h.1;subst hn;have hm:=Nat.mod_lt (f+j) h0;obtain⟨b,off,e,hc⟩:=h.2.2.2 _ hm;refine⟨b,off,(f+j) % l.length,e,hm,?_,by rw[<-Int.natCast_add,<-Int.ofNat_tmod]⟩;rw[hc,List.getD_eq_getElem?_getD,aZ hm]
 rfl
def aQ' (be y:Nat) (v:Value) (a:OA) (n c j:Nat) (fj:Int) (idx b off:Nat) (t:BA) (xs:List Value):Nat->Value->World->Prop
 | 0,u,_=>u=.pointer (some ⟨be,2,none⟩)
 | 1,u,_=>u=v
 | 2,u,_=>u=.pointer (some ⟨y,2,none⟩)
 | 3,u,_=>u=.slice a n c
 | 4,u,_=>u=.int .i64 fj
 | 5,u,_=>u=.pointer (some ⟨y,2,none⟩)
 | 6,u,_=>u=.slice a n c
 | 7,u,_=>u=.int .i64 n
 | 8,u,_=>u=.int .i64 idx
 | 9,u,_=>u=.pointer (some ⟨b,off+idx,none⟩)
 | 10,u,_=>u=.string t
 | 11,u,W=>∃x0,u=.slice (some ⟨x0,0,none⟩) 1 1/\W.heap[x0]?=some (.cells #[.string t] 9 (0,0))/\W.ownsRow (be+1) 9 1 v j xs
 | 12,u,W=>∃g cap,u=.slice (some ⟨g,0,none⟩) (j+1) cap/\W.ownsRow (be+1) 9 1 (.slice (some ⟨g,0,none⟩) (j+1) cap) (j+1) (xs++[.string t])
 | 13,u,_=>u=.pointer (some ⟨be,2,none⟩)
 | _,_,_=>True
def E13 (k:Nat) (W W':World):Prop:=k=11\/k=12\/W=W'
def G13 (v:Value) (wr:World) (L:ZN) (W:World):Prop:=dO (rowOf v) wr W/\(12∉L->Ext wr W)
theorem ayA {ops:Array Oper} {be y:Nat} {v:Value} {a:OA} {n c j:Nat} {fj:Int} {idx b off:Nat} {t:BA} {xs:List Value} (hops:(!qI ops 14 [12,13] 11 12&&!qI ops 14 [12,13] 12 11)=true) :
  ∀i k u W W',i<14->k<14->i≠k->qI ops 14 [12,13] i k=true->aQ' be y v a n c j fj idx b off t xs i u W->E13 k W W'->aQ' be y v a n c j fj idx b off t xs i u W':=by
 intro i k u W W' hi hk hne ho hR hE;simp only[aJ,Bool.not_eq_true'] at hops;rcases ltc14 hi with rfl|rfl|rfl|rfl|rfl|rfl|rfl|rfl|rfl|rfl|rfl|rfl|rfl|rfl
 case inr.inr.inr.inr.inr.inr.inr.inr.inr.inr.inr.inl =>
  rcases hE with rfl|rfl|rfl
  ·exact absurd rfl hne
  ·rw[hops.1] at ho;cases ho
  exact hR
 case inr.inr.inr.inr.inr.inr.inr.inr.inr.inr.inr.inr.inl =>
  rcases hE with rfl|rfl|rfl
  ·rw[hops.2] at ho;cases ho
  ·exact absurd rfl hne
  exact hR
 all_goals exact hR
def aQ2 (words:ZB) (name:BA) (be bd f:Nat) (k0:Int) (w0 wa:World) (fr k:Value) (wr:World):Prop:=∃(j:Nat) (v:Value),(j:Int)<=k0/\fr=.int .i64 ((f:Int)+j)/\k=.int .i64 (k0 - j) /\
 wr.heap[be]?=some (.cells #[.int .i64 4,.string name,v,.int .i64 0,.int .i64 0,.slice none 0 0] 45 (0,0))/\wr.ownsRow (be+1) 9 1 v j ((VE words f j).flatMap strCells)/\dO [bd] wa wr/\dS w0 wr bd
theorem aAd {w0 w:World} {bd:Nat} (hd:dS w0 w bd) (attrs:List Attr) (names:ZB) (a:OA) (n c:Nat) (an:OA) (nn cn:Nat) (M:ZN) (hs:fJ (mask w [bd]) attrs (.agg #[.slice a n c])) (hn:ji (mask w [bd]) names an nn cn)
  (hok:∀a∈attrs,Yj a) (hne:attrs≠[]) (hl:attrs.length<=1000) (hnl:names.length<=1000) (hM:∀y∈M,y<w.heap.size) :
  Calls Tryz.prog 68 #[.pointer (some ⟨bd,0,none⟩),.agg #[.slice a n c],.slice an nn cn] w (Un (ahj attrs names) w0 bd M w):=by
 have HD:=ak hd;have HS:=ak hs;have HN:=ak hn;have Ej:=ak hok;have HM:=ak hM;have hbd:bd<w.heap.size:=by obtain⟨_,_,_,_,hb,_⟩:=hd;exact dH hb
 have a6N:nn<=1000:=by have:=hn.1;omega
 have hnn:=ak hn.1;have hal:n<=1000:=by obtain⟨_,_,_,e,h1,_⟩:=hs;cases e;omega
 have ha0:0<n:=by
  obtain⟨_,_,_,e,h1,_⟩:=hs;cases e
  have:0<attrs.length:=List.length_pos_iff.2 hne;omega
 clear hd hs hn hok hM hne;have hcase:nn=0\/0<nn:=by omega
 rcases hcase with h0|h0
 case' inl =>
  have t1:decide (0<(nn:Int))=false:=by simp;omega
  have t2:decide (0<nn)=false:=by simp;omega
  clear h0;have hcW:∀o1 o2,dO [bd] w ((w.alloc o1).alloc o2):=fun o1 o2=>((dO.refl [bd] w).alloc _).alloc _
  have Ed:=ak (hcW (.cells #[.slice a n c] 24) (.cells lT.cells.toArray 45));have HDW:=ak (HD.o.ext (((Ext.refl w).alloc (.cells #[.slice a n c] 24)).alloc (.cells lT.cells.toArray 45)));have HB1:=ak (dJ (o':=.cells lT.cells.toArray 45) (dG w (.cells #[.slice a n c] 24)));have HB2:=ak (alloc_at (w:=w.alloc (.cells #[.slice a n c] 24)) (o:=.cells lT.cells.toArray 45) (n:=w.heap.size+1) (by simp));clear hcW;go_enter Tryz.func68,Tryz.ntmps68
  go_wp2_with fail
  unfold lT fU.cells at Ed HDW HB1 HB2;generalize (w.alloc (.cells #[.slice a n c] 24)).alloc (.cells #[.int .i64 0,.string ⟨#[]⟩,.slice none 0 0,.int .i64 0,.int .i64 0,.slice none 0 0] 45)=wc at *
 case' inr =>
  have t1:decide (0<(nn:Int))=true:=by simp;omega
  have t2:decide (0<nn)=true:=by simp;omega
  have HDW:=ak (HD.o.ext (((Ext.refl w).alloc (.cells #[.slice a n c] 24)).alloc (.cells lT.cells.toArray 45)));have HB1:=ak (dJ (o':=.cells lT.cells.toArray 45) (dG w (.cells #[.slice a n c] 24)));have HB2:=ak (alloc_at (w:=w.alloc (.cells #[.slice a n c] 24)) (o:=.cells lT.cells.toArray 45) (n:=w.heap.size+1) (by simp));have HE2:=ak (fun (W:World) (h:dO [bd] ((w.alloc (.cells #[.slice a n c] 24)).alloc (.cells lT.cells.toArray 45)) W)=>(((dO.refl [bd] w).alloc (.cells #[.slice a n c] 24)).alloc (.cells lT.cells.toArray 45)).then h);go_enter Tryz.func68,Tryz.ntmps68
  go_wp2_with fail
  refine(fF HDW.o _ (by omega) (by omega)).mono ?_;rintro r wc ⟨r1,rfl,hr0,hr1,hd1,hc1⟩;have aNx:=ak hd1;have aKc:=ak (HE2.o _ hc1);have uh:=ak (hc1.blk HB1.o (by simp;omega));have SV:=ak (hc1.blk HB2.o (by simp;omega));clear hd1 hc1 HDW HB1 HB2 HE2;by_cases hr:r1=0
  ·subst hr;go_wp2_with fail
   refine(fF aNx.o _ (by omega) (by omega)).mono ?_;rintro r w2 ⟨r2,rfl,hs0,hs1,hd2,hc2⟩;obtain⟨q,rfl⟩:∃q:Nat,r2=(q:Int):=⟨r2.toNat,by omega⟩
   have hq:q<names.length:=by have:=hnn.out;omega
   have hqn:q<nn:=by omega
   obtain⟨b,off,rfl,hcell⟩:=HN.o.2.2.2 q hq;obtain⟨hcell1,hcb⟩:=MJ hcell;have hcell2:=(aKc.o.then hc2).cell hcell1 hcb;have a3u:=ak hd2;have a3z:=ak (aKc.o.then hc2);have hb2:=hc2.blk SV.o (by simp;omega);have hlt2:=dH hb2;unfold lT fU.cells at hb2;obtain⟨b0,b1,b2,b3,b4,b5,bf⟩:=eP hb2;have HEL:=ak (aI hq);clear hd2 hc2 hcell hcell1 hcb hb2 aNx aKc uh SV;go_wp2_with fail
   refine bodyPost_ret (v:=(fU.mk 3 names[q] none 0 0 0 0 none 0 0).val) (by simp[results,Tryz.results68,go_sem,fU.val,exV,b0,b1,b2,b3,b4,b5]) rfl ?_;exact CZ (e:=.mk 3 names[q] [] 0 0 []) (x:=⟨3,names[q],none,0,0,0,0,none,0,0⟩) a3z.o a3u.o (by omega) hbd ⟨rfl,Or.inr (Or.inr (Or.inl ⟨rfl,Or.inl HEL.o,rfl,rfl,rfl⟩))⟩ (iJ _ 3 0 0 names[q])
  have hr':(r1==0)=false:=by simpa using hr
  go_wp2_with fail
  have HDW:=aNx;have Ed:=aKc;have HB1:=uh;have HB2:=SV;clear aNx aKc uh SV;unfold lT fU.cells at HB2
 all_goals
  have hb1:=HB1.o;have hb2:=HB2.o;have afc:=dH hb2;have c0:=dM hb1 0;simp at c0;clear hb1 hb2;refine iP (m:=10) [8,9] (fun W=>dO [bd] wc W/\dS w0 W bd) (fun _ W W'=>dO [bd] W W') (Ra3 attrs bd w.heap.size n a c wc.heap.size w) (by kernel_rfl) (by kernel_rfl) ⟨(dO.refl _ _).drew,HDW.o.ext ((Ext.refl wc).drew)⟩ ?_ ?_ ?_
  ·intro i k v W W' hi hk hik _ hR hE;have hi':i=9\/i<9:=by omega
   rcases hi' with rfl|hi'
   ·obtain⟨y,h1,h2,h3⟩:=hR;exact⟨y,h1,h2,hE.blk h3 (by simp;omega)⟩
   have:i=0\/i=1\/i=2\/i=3\/i=4\/i=5\/i=6\/i=7\/i=8:=by omega
   rcases this with rfl|rfl|rfl|rfl|rfl|rfl|rfl|rfl|rfl<;>exact hR
  ·intro i o hi ho vs W hG hd ρ hρ;have hi':=ltc10 hi;clear hi;have o4:ρ (.tmp 4)=.pointer (some ⟨w.heap.size,0,none⟩):=hρ.out 4 rfl;have o0:ρ (.tmp 0)=.pointer (some ⟨bd,0,none⟩):=hρ.out 0 rfl;have i0:=hρ.i 0 29;have i3:=hρ.i 3 32;have i4:=hρ.i 4 33;have i2:=hρ.i 2 31;have i5:=hρ.i 5 34;have i1:=hρ.i 1 30;have i6:=hρ.i 6 35;have i7:=hρ.i 7 36;have hcs:=hρ.const;have hfn:=hρ.func;clear hρ;have cW:=hG.1.cell c0 (by simp;omega);have hwz:=hG.1.size;have HG:=ak hG;clear hG;rcases hi' with rfl|rfl|rfl|rfl|rfl|rfl|rfl|rfl|rfl|rfl
   ·cases ho
    unfold dF;go_simp;exact⟨dO.refl _ _,HG.o,rfl⟩
   ·cases ho
    have h1:vs 0=_:=hd ⟨0,.data⟩ (by simp) rfl;rw[h1] at i0;unfold dF;go_simp;exact⟨dO.refl _ _,HG.o,rfl⟩
   ·cases ho
    unfold dF;go_simp;exact⟨dO.refl _ _,HG.o,rfl⟩
   ·cases ho
    unfold dF;go_simp;exact⟨dO.refl _ _,HG.o,rfl⟩
   ·cases ho
    have h1:vs 3=_:=hd ⟨3,.data⟩ (by simp) rfl;rw[h1] at i3;unfold dF;go_simp;exact⟨dO.refl _ _,HG.o,rfl⟩
   ·cases ho
    have h1:vs 4=_:=hd ⟨4,.data⟩ (by simp) rfl;rw[h1] at i4;unfold dF;go_simp;exact⟨dO.refl _ _,HG.o,rfl⟩
   ·cases ho
    have h1:vs 2=_:=hd ⟨2,.data⟩ (by simp) rfl;have h2:vs 5=_:=hd ⟨5,.data⟩ (by simp) rfl;rw[h1] at i2;rw[h2] at i5;unfold dF;go_simp;refine(fF HG.o.2 _ (by omega) (by omega)).mono ?_;rintro e W' ⟨r,rfl,hr0,hr1,hd',hc'⟩;exact⟨_,rfl,hc',⟨HG.o.1.then hc',hd'⟩,r.toNat,by omega,by rw[Int.toNat_of_nonneg hr0]⟩
   ·cases ho
    have h1:vs 1=_:=hd ⟨1,.data⟩ (by simp) rfl;obtain⟨r,hr,h2⟩:=hd ⟨6,.data⟩ (by simp) rfl;rw[h1] at i1;rw[h2] at i6;obtain⟨b,off,_,rfl,_⟩:=HS.o.at hr;have ti:(r:Int)<(n:Int):=by omega
    unfold dF;go_simp;exact⟨dO.refl _ _,HG.o,r,b,off,hr,rfl,rfl⟩
   ·cases ho
    obtain⟨r,b,off,hr,rfl,h1⟩:=hd ⟨7,.data⟩ (by simp) rfl;rw[h1] at i7;obtain⟨b',off',x,e2,hx1,g0,g1,g2,g3,g4,g5⟩:=HS.o.at hr;cases e2
    have hh:=fun {p v} (h:(mask w [bd]).cell? p=some v)=>(Ed.o.then HG.o.1).cell (MJ h).1 (MJ h).2
    have k0:=hh g0;have k1:=hh g1;have k2:=hh g2;have k3:=hh g3;have k4:=hh g4;have fQ:=ak hx1;have HG5:=ak g5;clear hh g0 g1 g2 g3 g4 g5 hx1;unfold dF;go_simp;exact⟨dO.refl _ _,HG.o,x,fQ.o,rfl,HG5.o⟩
   cases ho
   unfold dF;go_simp;exact⟨(dO.refl _ _).alloc _,⟨HG.o.1.alloc _,HG.o.2.ext ((Ext.refl W).alloc _)⟩,W.heap.size,rfl,hwz,dG W _⟩
  intro vs W hG hR;rw[dh (by decide +kernel)];obtain⟨x,hx1,h8,hx2⟩:=hR 8 (by simp) (by omega);obtain⟨y,h9,hy1,hy2⟩:=hR 9 (by simp) (by omega);have HG:=ak hG;have hyl:=dH hy2;obtain⟨y0,y1,y2,y3,y4,yf⟩:=asE hy2;unfold vK.cells at h8;have fQ:=ak hx1;have gI:=ak hx2;have HY2:=ak hy2;clear hG hR hx1 hx2 hy2;unfold wpOp;simp only[acts,gK,List.range,List.range.loop,bF,dA,h8,h9];clear h8 h9;go_simp;refine Or.inl ?_;have hPc:=aGs W y x (N:=[y]) (by simp);have hPb:=aGt HY2.o x;unfold aGu at hPc hPb;generalize (((((W.setCell ⟨y,0,none⟩ (.string x.x.name)).setCell ⟨y,1,none⟩ (.int .i64 x.x.kind)).setCell ⟨y,2,none⟩ (.slice x.a x.n x.c)).setCell ⟨y,3,none⟩ (.int .i64 x.x.lo)).setCell ⟨y,4,none⟩ (.int .i64 x.x.hi))=wa at *;have a7J:w0.heap.size<=bd:=by obtain⟨_,_,_,_,_,_,_,_,_,h⟩:=HG.o.2;exact h
  have Yq:=ak (HG.o.2.fH hPc (by simp;omega) (by simp;omega));have Sl:=ak ((Ed.o.then HG.o.1).trans hPc (by intro q hq;simp at hq;subst hq;exact Or.inr (by omega)));have HRB:=ak (hPc.blk (HG.o.1.blk HB2.o (by simp;omega)) (by simp;omega));have HAB:=ak hPb;have hyw:w.heap.size+1<y:=by omega
  have hya:=dH hPb;have hra:=dH HRB.o;unfold vK.cells at hPb;have HYC:=asE hPb;have hrb:=HRB.o;obtain⟨b0,b1,b2,b3,b4,b5,bf⟩:=eP hrb;clear y0 y1 y2 y3 y4 yf;obtain⟨y0,y1,y2,y3,y4,yf⟩:=HYC;clear hPc hPb hrb HG HY2 hyl HB1 HB2 Ed HDW c0 afc;rcases Ej.o _ fQ.o with hkd|hkd|hkd
  ·have k3:(x.x.kind==3)=false:=by simp[hkd.1]
   have k1:(x.x.kind==1)=true:=by simp[hkd.1]
   have HK:=ak hkd;have HWN:=ak gI.o.1;have hn0:0<x.n:=by have:=List.length_pos_iff.2 hkd.2.1;have:=gI.o.1;omega
   have hn1:x.n<=1000:=by have:=hkd.2.2.2;have:=gI.o.1;omega
   clear hkd;have hbe:∀(o:Obj),dO [bd] wa (wa.alloc o):=fun o=>(dO.refl _ _).alloc o
   have oQ:=ak hbe;have wZ:=ak (dG wa (.cells (aC 4 x.x.name none 0 0 0 0 none 0 0) 45));clear hbe;go_wp2_with fail
   refine(fF (Yq.o.ext ((Ext.refl wa).alloc _)) _ (by omega) (by omega)).mono ?_;rintro e1 wb ⟨f0,rfl,hf0,hf1,hd1,hc1⟩;obtain⟨f,rfl⟩:∃f:Nat,f0=(f:Int):=⟨f0.toNat,by omega⟩
   have yT:=ak ((oQ.o _).then hc1);have HDB:=ak hd1;have HEB:=ak (hc1.blk wZ.o (by simp;omega));clear hd1 hc1 y0 y1 y2 y3 y4 yf b0 b1 b2 b3 b4 b5 bf;have hyb:=(yT.o.blk HAB.o (by simp;omega))
   unfold vK.cells at hyb;have aZL:=dH hyb;obtain⟨y0,y1,y2,y3,y4,yf⟩:=asE hyb;clear hyb;go_wp2_with fail
   refine(lX HDB.o _ _ (by omega) (by omega) (by omega)).mono ?_;rintro e2 wd ⟨k0,rfl,hk0,hk1,hd1,hc1⟩;have HCD:=ak (yT.o.then hc1);have HDD:=ak hd1;have hez:=dH HEB.o;have HED:=ak (hc1.blk HEB.o (by simp;omega));clear hd1 hc1 HDB yT HEB y0 y1 y2 y3 y4 yf;go_wp2_with fail
   go_loopw [9,10] (aQ2 x.x.words x.x.name wa.heap.size bd f k0 w0 wa) (fun _ k _=>(intOf k).toNat)
   case atStart=>exact⟨0,.slice none 0 0,by omega,by simp,by simp,HED.o,World.ownsRow_nil _ _ _ _,HCD.o,HDD.o⟩
   case round =>
    obtain⟨j,v,hj,rfl,rfl,hbe,hown,hcr,hdr⟩:=hrel;clear HCD HDD HED wZ;have lV:=ak hbe;have HOW:=ak hown;have Fe:=ak hcr;have HDR:=ak hdr;have hyb:=(hcr.blk HAB.o (by simp;omega))
    have hbel:=dH hbe;unfold vK.cells at hyb;have aT4:=dH hyb;obtain⟨y0,y1,y2,y3,y4,yf⟩:=asE hyb;obtain⟨e0,e1,e2,e3,e4,e5,ef⟩:=eP hbe;clear hbe hown hcr hdr hyb;by_cases hlt:(j:Int)<k0
    ·have t1:decide (0<k0 - (j:Int))=true:=by simp;omega
     obtain⟨b,off,idx,hxa,hidx,hcell,htm⟩:=aFs gI.o hn0 f j;obtain⟨hcw,hcb⟩:=MJ hcell;have hbw:b<w.heap.size:=block_lt hcw;have hcr:=Fe.o.cell (Sl.o.cell hcw hcb) hcb;have hrow:∀q∈rowOf v,wa.heap.size+1<=q:=fun q hq=>(HOW.o.lt q (dK.1 hq)).1
     have a6e:=Sl.o.size;have hzr:=Fe.o.size;have HPS:=ak (ayV x.x.words f j);generalize x.x.words.getD ((f+j) % x.x.words.length) ⟨#[]⟩=t at *;have HTM:=ak htm;have fE:=ak hxa;have Ei:=ak hrow;clear htm hxa hcell hcw hrow;go_wp2_with fail
     refine og (m:=14) [12,13] (G13 v wr) E13 (aQ' wa.heap.size y v x.a x.n x.c j ((f:Int)+j) idx b off t ((VE x.x.words f j).flatMap strCells)) (by kernel_rfl) (by kernel_rfl) ⟨(dO.refl _ _).drew,fun _=>(Ext.refl wr).drew⟩ (ayA (by kernel_rfl)) ?_ ?_
     ·intro i o hi ho L vs W hiL hnc hG hd ρ hρ;have hi':=ltc14 hi;clear hi;have o8:ρ (.tmp 8)=.pointer (some ⟨wa.heap.size,0,none⟩):=hρ.out 8 rfl;have i0:=hρ.i 0 64;have o7:ρ (.tmp 7)=.pointer (some ⟨y,0,none⟩):=hρ.out 7 rfl;have i2:=hρ.i 2 66;have o9:ρ (.tmp 9)=.int .i64 ((f:Int)+j):=hρ.out 9 rfl;have i5:=hρ.i 5 69;have i6:=hρ.i 6 70;have i4:=hρ.i 4 68;have i7:=hρ.i 7 71;have i3:=hρ.i 3 67;have i8:=hρ.i 8 72;have i9:=hρ.i 9 73;have AA:=hρ.i 10 74;have i1:=hρ.i 1 65;have i11:=hρ.i 11 75;have Nr:=hρ.i 13 77;have i12:=hρ.i 12 76;have hcs:=hρ.const;clear hρ;have PO:=ak (show ∀i,i≠12->G13 v wr (L++[i]) W from fun i hi=>⟨hG.1,fun h=>hG.2 (fun h'=>h (aQ _ h'))⟩);have HG:=ak hG;have cE:=hG.1.cell e2 (fun h=>by have h2:wa.heap.size+1<=wa.heap.size:=Ei.o _ h;omega);have cY:=hG.1.cell y2 (fun h=>by have h2:wa.heap.size+1<=y:=Ei.o _ h;omega);have cB:=hG.1.cell hcr (fun h=>by have h2:wa.heap.size+1<=b:=Ei.o _ h;omega);have hws:=hG.1.size;clear hG y0 y1 y2 y3 y4 yf e0 e1 e2 e3 e4 e5 ef;rcases hi' with rfl|rfl|rfl|rfl|rfl|rfl|rfl|rfl|rfl|rfl|rfl|rfl|rfl|rfl
      ·cases ho
       unfold dF;go_simp;exact⟨Or.inr (Or.inr rfl),PO.o _ (by simp),rfl⟩
      ·cases ho
       have h0:vs 0=_:=hd ⟨0,.data⟩ (by simp) rfl;rw[h0] at i0;unfold dF;go_simp;exact⟨Or.inr (Or.inr rfl),PO.o _ (by simp),rfl⟩
      ·cases ho
       unfold dF;go_simp;exact⟨Or.inr (Or.inr rfl),PO.o _ (by simp),rfl⟩
      ·cases ho
       have h2:vs 2=_:=hd ⟨2,.data⟩ (by simp) rfl;rw[h2] at i2;unfold dF;go_simp;exact⟨Or.inr (Or.inr rfl),PO.o _ (by simp),rfl⟩
      ·cases ho
       unfold dF;go_simp;exact⟨Or.inr (Or.inr rfl),PO.o _ (by simp),rfl⟩
      ·cases ho
       unfold dF;go_simp;exact⟨Or.inr (Or.inr rfl),PO.o _ (by simp),rfl⟩
      ·cases ho
       have h5:vs 5=_:=hd ⟨5,.data⟩ (by simp) rfl;rw[h5] at i5;unfold dF;go_simp;exact⟨Or.inr (Or.inr rfl),PO.o _ (by simp),rfl⟩
      ·cases ho
       have h6:vs 6=_:=hd ⟨6,.data⟩ (by simp) rfl;rw[h6] at i6;unfold dF;go_simp;exact⟨Or.inr (Or.inr rfl),PO.o _ (by simp),rfl⟩
      ·cases ho
       have h4:vs 4=_:=hd ⟨4,.data⟩ (by simp) rfl;have h7:vs 7=_:=hd ⟨7,.data⟩ (by simp) rfl;rw[h4] at i4;rw[h7] at i7;have hnz:((x.n:Int)==0)=false:=by simp;omega
       have a6K:¬x.n=0:=by omega
       have htm:=HTM.o;unfold dF;go_simp;exact⟨Or.inr (Or.inr rfl),PO.o _ (by simp),rfl⟩
      ·cases ho
       have h3:vs 3=_:=hd ⟨3,.data⟩ (by simp) rfl;have h8:vs 8=_:=hd ⟨8,.data⟩ (by simp) rfl;rw[h3,fE.o] at i3;rw[h8] at i8;have ti:(idx:Int)<(x.n:Int):=by omega
       unfold dF;go_simp;exact⟨Or.inr (Or.inr rfl),PO.o _ (by simp),rfl⟩
      ·cases ho
       have h9:vs 9=_:=hd ⟨9,.data⟩ (by simp) rfl;rw[h9] at i9;unfold dF;go_simp;exact⟨Or.inr (Or.inr rfl),PO.o _ (by simp),rfl⟩
      ·cases ho
       have h10:vs 10=_:=hd ⟨10,.data⟩ (by simp) rfl;rw[h10] at AA;have hno:12∉L:=fun h=>by have:=hnc 12 h;revert this;decide +kernel
       have hEW:=HG.o.2 hno;have HEW:=ak hEW;clear hEW;unfold dF;go_simp;exact⟨Or.inl rfl,⟨HG.o.1.alloc _,fun _=>HEW.o.alloc _⟩,W.heap.size,rfl,dG W _,jF HOW.o (HEW.o.alloc _)⟩
      ·cases ho
       have h1:vs 1=_:=hd ⟨1,.data⟩ (by simp) rfl;obtain⟨x0,h11,hx0,hxo⟩:=hd ⟨11,.data⟩ (by simp) rfl;rw[h1] at i1;rw[h11] at i11;have hnew:∀q (hq:q < [Value.string t].length),W.cell? ⟨x0,q,none⟩=some [Value.string t][q]:=by
        intro q hq;obtain rfl:q=0:=by simpa using hq
        rw[dM hx0];rfl
       refine mF Cb _ _ (wa.heap.size+1) _ j _ i1 x0 1 1 [.string t] i11 rfl (by simp[Value.oneCell']) (by omega) (by omega) (by omega) hxo hnew (by omega) ?_;intro g cap w' ho' hg' _ _;refine⟨Or.inr (Or.inl rfl),⟨HG.o.1.then (iM hg'),fun h=>absurd (by simp) h⟩,g,cap,rfl,ho'⟩
      cases ho
      unfold dF;go_simp;exact⟨Or.inr (Or.inr rfl),PO.o _ (by simp),rfl⟩
     intro L vs W _ hG hR;rw[dh (by decide +kernel)];obtain⟨g,cap,h12,hown2⟩:=hR 12 (by simp) (by omega);have h13:vs 13=_:=hR 13 (by simp) (by omega);have hC:=hG.1;have hbx2:=hC.blk lV.o (fun h=>by have:=Ei.o _ h;omega);have aQt:=dH hbx2;have NJ:=ak hbx2;have an0:=ak hown2;have HC:=ak hC;clear e0 e1 e2 e3 e4 e5 ef y0 y1 y2 y3 y4 yf hcr;obtain⟨e0,e1,e2,e3,e4,e5,ef⟩:=eP hbx2;clear hG hR hC hbx2 hown2;unfold wpOp;simp only[acts,gK,List.range,List.range.loop,bF,dA,h12,h13];clear h12 h13;go_simp;refine Or.inl ?_;go_wp2_with fail
     go_roundw
     case rel =>
      have hset:=(dO.refl [wa.heap.size] W).setCell (p:=⟨wa.heap.size,2,none⟩) (Or.inl (by simp)) (.slice (some ⟨g,0,none⟩) (j+1) cap);have hg1:=(an0.o.lt g rfl).1;refine⟨j+1,.slice (some ⟨g,0,none⟩) (j+1) cap,by omega,(by first|(congr 1;omega)|rfl),(by first|(congr 1;omega)|rfl),?_,?_,?_,?_⟩
      ·rw[aO _ _ _ _ _ _ NJ.o];rfl
      ·rw[HPS.o,List.flatMap_append];exact eF an0.o hset (fun q hq h=>by cases hq;have h2:g=wa.heap.size:=aK.1 h;omega)
      ·refine(Fe.o.trans HC.o (fun q hq=>Or.inr (by have:=Ei.o q hq;omega))).trans hset (fun q hq=>by simp at hq;subst hq;exact Or.inr (bg _))
      have h1:=HDR.o.fH HC.o (fun h=>by have h2:wa.heap.size+1<=bd:=Ei.o _ h;omega) (fun q hq=>by have:=Ei.o q hq;omega);exact h1.fH hset (by rw[aK];omega) (fun q hq=>by rw[aK] at hq;subst hq;have:=Sl.o.size;omega)
     case measure=>simp[intOf];omega
    have hjk:(j:Int)=k0:=by omega
    have t1:decide (0<k0 - (j:Int))=false:=by simp;omega
    have hrb:=(Fe.o.blk HRB.o (by simp;omega))
    have aUq:=dH hrb;obtain⟨b0,b1,b2,b3,b4,b5,bf⟩:=eP hrb;obtain⟨sa,sc,rfl,hs1,hs2⟩:=mD (l:=VE x.x.words f j) (by rw[Xr];exact HOW.o) ((w.heap.size+1)::M) (fun q hq=>by
     have h1:=Sl.o.size;rcases bK.1 hq with rfl|hq
     ·omega
     have:=HM.o q hq;omega)
    rw[Xr] at hs1 e2;have Fh:=ak hs1;clear hrb hs1 hs2;go_wp2_with fail
    refine bodyPost_ret (v:=(fU.mk 4 x.x.name sa j sc 0 0 none 0 0).val) (by simp[results,Tryz.results68,go_sem,fU.val,exV,b0,b1,b2,b3,b4,b5]) rfl ?_;exact CZ (e:=.mk 4 x.x.name (VE x.x.words f j) 0 0 []) (x:=⟨4,x.x.name,sa,j,sc,0,0,none,0,0⟩) (Sl.o.then Fe.o) HDR.o (by omega) hbd ⟨rfl,Or.inr (Or.inr (Or.inr (Or.inl ⟨rfl,⟨x.x,fQ.o,HK.o.1,rfl,(fun e=>by have:=Xr x.x.words f j;rw[show VE x.x.words f j=[] from e] at this;simp at this;omega),auY (by have:=HWN.o;omega) (by have:=HWN.o;omega) HK.o.2.2.1,aCY (by have:=HWN.o;omega)⟩,rfl,rfl⟩)))⟩ (XG Fh.o 4 0 0 x.x.name)
  ·have k3:(x.x.kind==3)=false:=by simp[hkd.1]
   have k1:(x.x.kind==1)=false:=by simp[hkd.1]
   have HK:=ak hkd.1;obtain⟨_,l1,l2,l3⟩:=hkd;have e1:IntKind.i64.wrap (x.x.hi - x.x.lo)=x.x.hi - x.x.lo:=IntWalk.i64_in _ (by omega);have e2:IntKind.i64.wrap (x.x.hi - x.x.lo+1)=x.x.hi - x.x.lo+1:=IntWalk.i64_in _ (by omega);have E1:=ak e1;have E2:=ak e2;clear e1 e2;go_wp2_with fail
   refine iP (m:=12) [11] (fun W=>dO [bd] wa W/\dS w0 W bd) (fun _ W W'=>dO [bd] W W') (aRc bd y x.x.lo x.x.hi) (by kernel_rfl) (by kernel_rfl) ⟨(dO.refl _ _).drew,Yq.o.ext ((Ext.refl wa).drew)⟩ (fun i k v W W' hi _ _ _ h _=>ayD i v W W' hi h) ?_ ?_
   ·intro i o hi ho vs W hG hd ρ hρ;have hi':=ltc12 hi;clear hi;have o7:ρ (.tmp 7)=.pointer (some ⟨y,0,none⟩):=hρ.out 7 rfl;have o0:ρ (.tmp 0)=.pointer (some ⟨bd,0,none⟩):=hρ.out 0 rfl;have i0:=hρ.i 0 81;have i1:=hρ.i 1 82;have i2:=hρ.i 2 83;have i3:=hρ.i 3 84;have i4:=hρ.i 4 85;have i5:=hρ.i 5 86;have i6:=hρ.i 6 87;have i7:=hρ.i 7 88;have i8:=hρ.i 8 89;have i9:=hρ.i 9 90;have AA:=hρ.i 10 91;have hcs:=hρ.const;have hfn:=hρ.func;clear hρ;have cL:=hG.1.cell y3 (by simp;omega);have cH:=hG.1.cell y4 (by simp;omega);have HG:=ak hG;clear hG y0 y1 y2 y3 y4 yf b0 b1 b2 b3 b4 b5 bf;rcases hi' with rfl|rfl|rfl|rfl|rfl|rfl|rfl|rfl|rfl|rfl|rfl|rfl
    ·cases ho
     unfold dF;go_simp;exact⟨dO.refl _ _,HG.o,rfl⟩
    ·cases ho
     have h1:vs 0=_:=hd ⟨0,.data⟩ (by simp) rfl;rw[h1] at i0;unfold dF;go_simp;exact⟨dO.refl _ _,HG.o,rfl⟩
    ·cases ho
     unfold dF;go_simp;exact⟨dO.refl _ _,HG.o,rfl⟩
    ·cases ho
     unfold dF;go_simp;exact⟨dO.refl _ _,HG.o,rfl⟩
    ·cases ho
     have h1:vs 3=_:=hd ⟨3,.data⟩ (by simp) rfl;rw[h1] at i3;unfold dF;go_simp;exact⟨dO.refl _ _,HG.o,rfl⟩
    ·cases ho
     unfold dF;go_simp;exact⟨dO.refl _ _,HG.o,rfl⟩
    ·cases ho
     have h1:vs 5=_:=hd ⟨5,.data⟩ (by simp) rfl;rw[h1] at i5;unfold dF;go_simp;exact⟨dO.refl _ _,HG.o,rfl⟩
    ·cases ho
     have h1:vs 4=_:=hd ⟨4,.data⟩ (by simp) rfl;have h2:vs 6=_:=hd ⟨6,.data⟩ (by simp) rfl;rw[h1] at i4;rw[h2] at i6;have e1:=E1.o;unfold dF;go_simp;exact⟨dO.refl _ _,HG.o,rfl⟩
    ·cases ho
     have h1:vs 7=_:=hd ⟨7,.data⟩ (by simp) rfl;rw[h1] at i7;have e1:=E2.o;unfold dF;go_simp;exact⟨dO.refl _ _,HG.o,rfl⟩
    ·cases ho
     have h1:vs 2=_:=hd ⟨2,.data⟩ (by simp) rfl;have h2:vs 8=_:=hd ⟨8,.data⟩ (by simp) rfl;rw[h1] at i2;rw[h2] at i8;unfold dF;go_simp;refine(fF HG.o.2 _ (by omega) (by omega)).mono ?_;rintro e W' ⟨r,rfl,hr0,hr1,hd',hc'⟩;exact⟨_,rfl,hc',⟨HG.o.1.then hc',hd'⟩,r,rfl,hr0,by omega⟩
    ·cases ho
     have h1:vs 1=_:=hd ⟨1,.data⟩ (by simp) rfl;obtain⟨r,h2,r1,r2⟩:=hd ⟨9,.data⟩ (by simp) rfl;rw[h1] at i1;rw[h2] at i9;have e1:IntKind.i64.wrap (x.x.lo+r)=x.x.lo+r:=IntWalk.i64_in _ (by omega);unfold dF;go_simp;exact⟨dO.refl _ _,HG.o,_,rfl,by omega,by omega⟩
    cases ho
    obtain⟨z,h2,r1,r2⟩:=hd ⟨10,.data⟩ (by simp) rfl;rw[h2] at AA;unfold dF;go_simp;exact⟨dO.refl _ _,HG.o,z,rfl,r1,r2⟩
   intro vs W hG hR;rw[dw (by decide +kernel)];obtain⟨z,h11,hz1,hz2⟩:=hR 11 (by simp) (by omega);have HG:=ak hG;clear hG hR;simp only[acts,gK,List.range,List.range.loop,bF,dA,h11];clear h11;go_simp;have HDB:=ak HG.o.2;have yT:=ak HG.o.1;clear HG y0 y1 y2 y3 y4 yf b0 b1 b2 b3 b4 b5 bf E1 E2 Yq;go_wp2_with fail
   refine(fF HDB.o _ (by omega) (by omega)).mono ?_;rintro e1 wb ⟨r2,rfl,aPU,aZZ,hd2,hc2⟩;have aKi:=ak (yT.o.then hc2);have aNz:=ak hd2;clear HDB yT hd2 hc2;have hyb:=(aKi.o.blk HAB.o (by simp;omega))
   unfold vK.cells at hyb;have aZL:=dH hyb;obtain⟨y0,y1,y2,y3,y4,yf⟩:=asE hyb;clear hyb;by_cases hr2:r2=0
   case' pos =>
    subst hr2;go_wp2_with fail
    refine iP (m:=10) [9] (fun W=>dO [bd] wb W/\dS w0 W bd) (fun _ W W'=>dO [bd] W W') (aRb bd y x.x.lo x.x.hi) (by kernel_rfl) (by kernel_rfl) ⟨(dO.refl _ _).drew,aNz.o.ext ((Ext.refl wb).drew)⟩ (fun i k v W W' hi _ _ _ h _=>ayC i v W W' hi h) ?_ ?_
    ·intro i o hi ho vs W hG hd ρ hρ;have hi':=ltc10 hi;clear hi;have o7:ρ (.tmp 7)=.pointer (some ⟨y,0,none⟩):=hρ.out 7 rfl;have o0:ρ (.tmp 0)=.pointer (some ⟨bd,0,none⟩):=hρ.out 0 rfl;have i0:=hρ.i 0 95;have i1:=hρ.i 1 96;have i2:=hρ.i 2 97;have i3:=hρ.i 3 98;have i4:=hρ.i 4 99;have i5:=hρ.i 5 100;have i6:=hρ.i 6 101;have i7:=hρ.i 7 102;have i8:=hρ.i 8 103;have hcs:=hρ.const;have hfn:=hρ.func;clear hρ;have cL:=hG.1.cell y3 (by simp;omega);have cH:=hG.1.cell y4 (by simp;omega);have HG:=ak hG;clear hG y0 y1 y2 y3 y4 yf;rcases hi' with rfl|rfl|rfl|rfl|rfl|rfl|rfl|rfl|rfl|rfl
     ·cases ho
      unfold dF;go_simp;exact⟨dO.refl _ _,HG.o,rfl⟩
     ·cases ho
      have h1:vs 0=_:=hd ⟨0,.data⟩ (by simp) rfl;rw[h1] at i0;unfold dF;go_simp;refine(fF HG.o.2 _ (by omega) (by omega)).mono ?_;rintro e W' ⟨r,rfl,hr0,hr1,hd',hc'⟩;exact⟨_,rfl,hc',⟨HG.o.1.then hc',hd'⟩,r,rfl,hr0,hr1⟩
     ·cases ho
      obtain⟨r,h1,r1',r2'⟩:=hd ⟨1,.data⟩ (by simp) rfl;rw[h1] at i1;have e1:IntKind.i64.wrap (r - 4)=r - 4:=IntWalk.i64_in _ (by omega);unfold dF;go_simp;exact⟨dO.refl _ _,HG.o,_,rfl,by omega,by omega⟩
     ·cases ho
      unfold dF;go_simp;exact⟨dO.refl _ _,HG.o,rfl⟩
     ·cases ho
      have h1:vs 3=_:=hd ⟨3,.data⟩ (by simp) rfl;rw[h1] at i3;unfold dF;go_simp;exact⟨dO.refl _ _,HG.o,rfl⟩
     ·cases ho
      obtain⟨r,h1,r1',r2'⟩:=hd ⟨2,.data⟩ (by simp) rfl;have h2:vs 4=_:=hd ⟨4,.data⟩ (by simp) rfl;rw[h1] at i2;rw[h2] at i4;unfold dF;go_simp;exact⟨dO.refl _ _,HG.o,_,rfl,by first|omega|(split<;>omega)⟩
     ·cases ho
      unfold dF;go_simp;exact⟨dO.refl _ _,HG.o,rfl⟩
     ·cases ho
      have h1:vs 6=_:=hd ⟨6,.data⟩ (by simp) rfl;rw[h1] at i6;unfold dF;go_simp;exact⟨dO.refl _ _,HG.o,rfl⟩
     ·cases ho
      obtain⟨r,h1,r1'⟩:=hd ⟨5,.data⟩ (by simp) rfl;have h2:vs 7=_:=hd ⟨7,.data⟩ (by simp) rfl;rw[h1] at i5;rw[h2] at i7;unfold dF;go_simp;exact⟨dO.refl _ _,HG.o,_,rfl,by first|omega|(split<;>omega),by first|omega|(split<;>omega)⟩
     cases ho
     obtain⟨r,h1,r1',r2'⟩:=hd ⟨8,.data⟩ (by simp) rfl;rw[h1] at i8;unfold dF;go_simp;exact⟨dO.refl _ _,HG.o,_,rfl,r1',r2'⟩
    intro vs wd hG hR;rw[dw (by decide +kernel)];clear hz1 hz2;obtain⟨z,h9,hz1,hz2⟩:=hR 9 (by simp) (by omega);have HDC:=ak hG.2;have HCC:=ak (aKi.o.then hG.1);clear hG hR;simp only[acts,gK,List.range,List.range.loop,bF,dA,h9];clear h9 y0 y1 y2 y3 y4 yf aNz aKi;go_simp
   case' neg =>
    have hr2':(r2==0)=false:=by simpa using hr2
    have HDC:=aNz;have HCC:=aKi;clear aNz aKi y0 y1 y2 y3 y4 yf;obtain⟨wd,hwd⟩:∃wd,wd=wb:=⟨_,rfl⟩
    subst hwd
   all_goals
    have hyb:=(HCC.o.blk HAB.o (by simp;omega))
    unfold vK.cells at hyb;have aT4:=dH hyb;obtain⟨y0,y1,y2,y3,y4,yf⟩:=asE hyb;clear hyb;go_wp2_with fail
    refine(fF HDC.o _ (by omega) (by omega)).mono ?_;rintro e3 we ⟨r3,rfl,aZY,a6t,hd3,hc3⟩;have HDE:=ak hd3;have HCE:=ak (HCC.o.then hc3);clear hd3 hc3 y0 y1 y2 y3 y4 yf HDC HCC;go_wp2_with fail
    refine(fF HDE.o _ (by omega) (by omega)).mono ?_;rintro e4 wf ⟨r4,rfl,a6q,a6p,hd4,hc4⟩;have HDF:=ak hd4;have HCF:=ak (HCE.o.then hc4);clear hd4 hc4 HDE HCE;have hyb:=(HCF.o.blk HAB.o (by simp;omega))
    unfold vK.cells at hyb;have a5a:=dH hyb;obtain⟨y0,y1,y2,y3,y4,yf⟩:=asE hyb;clear hyb;by_cases hr4:r4=0
    case' pos =>
     subst hr4;go_wp2_with fail
     refine iP (m:=8) [7] (fun W=>dO [bd] wf W/\dS w0 W bd) (fun _ W W'=>dO [bd] W W') (aRa bd y z x.x.hi) (by kernel_rfl) (by kernel_rfl) ⟨(dO.refl _ _).drew,HDF.o.ext ((Ext.refl wf).drew)⟩ (fun i k v W W' hi _ _ _ h _=>ayB i v W W' hi h) ?_ ?_
     ·intro i o hi ho vs W hG hd ρ hρ;have hi':=ltc8 hi;clear hi;have o7:ρ (.tmp 7)=.pointer (some ⟨y,0,none⟩):=hρ.out 7 rfl;have o0:ρ (.tmp 0)=.pointer (some ⟨bd,0,none⟩):=hρ.out 0 rfl;have o11:ρ (.tmp 11)=.int .i64 z:=hρ.out 11 rfl;have i0:=hρ.i 0 116;have i1:=hρ.i 1 117;have i2:=hρ.i 2 118;have i3:=hρ.i 3 119;have i4:=hρ.i 4 120;have i5:=hρ.i 5 121;have i6:=hρ.i 6 122;have hcs:=hρ.const;have hfn:=hρ.func;clear hρ;have cH:=hG.1.cell y4 (by simp;omega);have HG:=ak hG;clear hG y0 y1 y2 y3 y4 yf;rcases hi' with rfl|rfl|rfl|rfl|rfl|rfl|rfl|rfl
      ·cases ho
       unfold dF;go_simp;exact⟨dO.refl _ _,HG.o,rfl⟩
      ·cases ho
       unfold dF;go_simp;exact⟨dO.refl _ _,HG.o,rfl⟩
      ·cases ho
       have h1:vs 1=_:=hd ⟨1,.data⟩ (by simp) rfl;rw[h1] at i1;unfold dF;go_simp;refine(fF HG.o.2 _ (by omega) (by omega)).mono ?_;rintro e W' ⟨r,rfl,hr0,hr1,hd',hc'⟩;exact⟨_,rfl,hc',⟨HG.o.1.then hc',hd'⟩,r,rfl,hr0,hr1⟩
      ·cases ho
       have h1:vs 0=_:=hd ⟨0,.data⟩ (by simp) rfl;obtain⟨r,h2,r1',r2'⟩:=hd ⟨2,.data⟩ (by simp) rfl;rw[h1] at i0;rw[h2] at i2;have e1:IntKind.i64.wrap (z+r)=z+r:=IntWalk.i64_in _ (by omega);unfold dF;go_simp;exact⟨dO.refl _ _,HG.o,_,rfl,by omega⟩
      ·cases ho
       unfold dF;go_simp;exact⟨dO.refl _ _,HG.o,rfl⟩
      ·cases ho
       have h1:vs 4=_:=hd ⟨4,.data⟩ (by simp) rfl;rw[h1] at i4;unfold dF;go_simp;exact⟨dO.refl _ _,HG.o,rfl⟩
      ·cases ho
       obtain⟨r,h1,r1'⟩:=hd ⟨3,.data⟩ (by simp) rfl;have h2:vs 5=_:=hd ⟨5,.data⟩ (by simp) rfl;rw[h1] at i3;rw[h2] at i5;unfold dF;go_simp;exact⟨dO.refl _ _,HG.o,_,rfl,by first|omega|(split<;>omega),by first|omega|(split<;>omega)⟩
      cases ho
      obtain⟨r,h1,r1',r2'⟩:=hd ⟨6,.data⟩ (by simp) rfl;rw[h1] at i6;unfold dF;go_simp;exact⟨dO.refl _ _,HG.o,_,rfl,r1',r2'⟩
     intro vs wg hG hR;rw[dw (by decide +kernel)];obtain⟨u,h7,hu1,hu2⟩:=hR 7 (by simp) (by omega);have HDH:=ak hG.2;have HCH:=ak (HCF.o.then hG.1);clear hG hR;simp only[acts,gK,List.range,List.range.loop,bF,dA,h7];clear h7 y0 y1 y2 y3 y4 yf HDF HCF;go_simp
    case' neg =>
     have a6r:(r4==0)=false:=by simpa using hr4
     have HDH:=HDF;have HCH:=HCF;clear HDF HCF y0 y1 y2 y3 y4 yf;obtain⟨wg,hwg⟩:∃wg,wg=wf:=⟨_,rfl⟩
     subst hwg;obtain⟨u,hu⟩:∃u,u=z+r3:=⟨_,rfl⟩
     rw[<-hu];have hu1:z<=u:=by omega
     have hu2:u<=x.x.hi:=by omega
     clear hu
    all_goals
     have hyb:=(HCH.o.blk HAB.o (by simp;omega))
     unfold vK.cells at hyb;have a4Z:=dH hyb;obtain⟨y0,y1,y2,y3,y4,yf⟩:=asE hyb;have hrb:=(HCH.o.blk HRB.o (by simp;omega))
     have aUq:=dH hrb;obtain⟨b0,b1,b2,b3,b4,b5,bf⟩:=eP hrb;clear hyb hrb;go_wp2_with fail
     refine bodyPost_ret (v:=(fU.mk 5 x.x.name none 0 0 z u none 0 0).val) (by simp[results,Tryz.results68,go_sem,fU.val,exV,b0,b1,b2,b3,b4,b5]) rfl ?_;exact CZ (e:=.mk 5 x.x.name [] z u []) (x:=⟨5,x.x.name,none,0,0,z,u,none,0,0⟩) (Sl.o.then HCH.o) HDH.o (by omega) hbd ⟨rfl,Or.inr (Or.inr (Or.inr (Or.inr ⟨rfl,⟨x.x,fQ.o,HK.o,rfl,hz1,hu1,hu2⟩,rfl⟩)))⟩ (iJ _ 5 z u x.x.name)
  have k3:(x.x.kind==3)=true:=by simp[hkd]
  have HK:=ak hkd;clear hkd;go_wp2_with fail
  refine bodyPost_ret (v:=(fU.mk 3 x.x.name none 0 0 0 0 none 0 0).val) (by simp[results,Tryz.results68,go_sem,fU.val,exV,b0,b1,b2,b3,b4,b5]) rfl ?_;exact CZ (e:=.mk 3 x.x.name [] 0 0 []) (x:=⟨3,x.x.name,none,0,0,0,0,none,0,0⟩) Sl.o Yq.o (by omega) hbd ⟨rfl,Or.inr (Or.inr (Or.inl ⟨rfl,Or.inr ⟨x.x,fQ.o,HK.o,rfl⟩,rfl,rfl,rfl⟩))⟩ (iJ _ 3 0 0 x.x.name)
end Go.Proofs.YtefjomofjejklaaGreatDoor
