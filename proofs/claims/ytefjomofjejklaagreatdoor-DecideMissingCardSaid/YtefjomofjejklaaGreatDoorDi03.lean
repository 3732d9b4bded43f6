/- Joined. -/
import Derived.Test.YtefjomofjejklaaGreatDoorDi02
import Derived.Maps.OwnSet
import Derived.Sort.KeysCollected
namespace Go.Proofs.YtefjomofjejklaaGreatDoor
set_option maxRecDepth 100000
set_option maxHeartbeats 32000000
open Go.RowKit
structure Attr where
 name:BA
 kind:Int
 words:ZB
 lo:Int
 hi:Int
def QT (w:World) (x:Attr) (b off:Nat):Prop:=∃aw nw cw,w.cell? ⟨b,off,none⟩=some (.string x.name)/\w.cell? ⟨b,off+1,none⟩=some (.int .i64 x.kind)/\w.cell? ⟨b,off+2,none⟩=some (.slice aw nw cw)/\w.cell? ⟨b,off+3,none⟩=some (.int .i64 x.lo) /\
 w.cell? ⟨b,off+4,none⟩=some (.int .i64 x.hi)/\fS w x.words aw nw cw
def dB (w:World) (l:List Attr) (v:Value):Prop:=∃a n c,v=.agg #[.slice a n c]/\n=l.length/\n<=c/\ny a c/\∀i (h:i<l.length),∃b off,a=some ⟨b,off,none⟩/\QT w l[i] b (off+i*5)
theorem QT.mono {w w':World} {x:Attr} {b off:Nat} (h:QT w x b off) (hs:Sub w w'):QT w' x b off:=by
 obtain⟨aw,nw,cw,h0,h1,h2,h3,h4,h5⟩:=h;exact⟨aw,nw,cw,hs _ _ h0,hs _ _ h1,hs _ _ h2,hs _ _ h3,hs _ _ h4,h5.mono hs⟩
theorem dB.mono {w w':World} {l:List Attr} {v:Value} (h:dB w l v) (hs:Sub w w'):dB w' l v:=by
 obtain⟨a,n,c,h1,h2,h3,h4,h5⟩:=h;exact⟨a,n,c,h1,h2,h3,h4,fun i hi=>by obtain⟨b,off,e1,e2⟩:=h5 i hi;exact⟨b,off,e1,e2.mono hs⟩⟩
def uy:Attr:=⟨⟨#[112,101,114,105,108]⟩,1,[⟨#[102,105,114,101]⟩,⟨#[102,108,111,111,100]⟩,⟨#[119,105,110,100]⟩,⟨#[116,104,101,102,116]⟩],0,0⟩
def gi:List (List Attr):=[[uy,⟨⟨#[115,116,111,114,101,121,115]⟩,2,[],1,9⟩,⟨⟨#[97,108,97,114,109]⟩,3,[],0,0⟩],
 [⟨⟨#[110]⟩,2,[],-5,20⟩],
 [⟨⟨#[97]⟩,3,[],0,0⟩,⟨⟨#[114,111,108,101]⟩,1,[⟨#[99,114,101,119]⟩,⟨#[103,117,101,115,116]⟩],0,0⟩,⟨⟨#[98]⟩,3,[],0,0⟩],
 [⟨⟨#[110]⟩,2,[],-1000000000,1000000000⟩,⟨⟨#[116]⟩,3,[],0,0⟩],
 [⟨⟨#[111,110,101]⟩,1,[⟨#[111,110,108,121]⟩],0,0⟩,uy,⟨⟨#[110]⟩,2,[],0,6⟩,⟨⟨#[116]⟩,3,[],0,0⟩],
 [⟨⟨#[116]⟩,3,[],0,0⟩]]
theorem Dd (x n:Int) (w:World) (hn:0<n) (hn2:n<=1000000000000000000):Calls Tryz.prog 16 #[.int .i64 x,.int .i64 n] w (fun e w'=>∃r:Int,e=.returned (.int .i64 r)/\0<=r/\r<n/\w=w'):=by
 go_enter Tryz.func16,Tryz.ntmps16
 go_wp2_with fail
 go_ret;have a1:=Int.tmod_lt_of_pos x hn;have a5:=Int.lt_tmod_of_pos x hn;rw[IntWalk.wrap64_in (x.tmod n+n) (by omega)];exact⟨_,rfl,Int.tmod_nonneg n (by omega),Int.tmod_lt_of_pos (x.tmod n+n) hn,rfl⟩
theorem PT {w:World} {l:ZB} {g n c:Nat} (h:fS w l (some ⟨g,0,none⟩) n c) {b:Nat} (hb:g≠b) (u:Value) (o:Obj):fS ((w.setCell ⟨b,0,none⟩ u).alloc o) l (some ⟨g,0,none⟩) n c:=by
 refine⟨h.1,h.2.1,h.2.2.1,fun i hi=>?_⟩;obtain⟨b',off,e1,e2⟩:=h.2.2.2 i hi;simp only[a42,Addr.mk.injEq,and_true] at e1;obtain⟨rfl,rfl⟩:=e1;refine⟨g,0,rfl,Ext.cell ((Tz _).alloc o) ?_⟩;rw[World.cell?_setCell_other _ _ _ _ (fun e=>hb (by injection e with e1;exact e1.symm))];exact e2
def aNm (w:World) (e:Ending) (w':World):Prop:=∃g,e=.returned (.agg #[.string uy.name,.int .i64 1,.slice (some ⟨g,0,none⟩) 4 4,.int .i64 0,.int .i64 0])/\fS w' uy.words (some ⟨g,0,none⟩) 4 4/\Ext w w'/\w.heap.size<g
theorem xH {w:World} {g:Nat} {l:ZB} {t:TypeId} (h:w.heap[g]?=some (.cells (l.map Value.string).toArray t (0,0))) {n:Nat} (hn:n=l.length):fS w l (some ⟨g,0,none⟩) n n:=by
 subst hn;refine⟨rfl,aU _,a4Z ⟨g,0,rfl⟩,fun i hi=>⟨g,0,rfl,?_⟩⟩;rw[Nat.zero_add,bX h];simp[hi]
structure qU where
 x:Attr
 a:OA
 n:Nat
 c:Nat
def qU.cells (v:qU):List Value:=[.string v.x.name,.int .i64 v.x.kind,.slice v.a v.n v.c,.int .i64 v.x.lo,.int .i64 v.x.hi]
theorem ji (w:World):fS w [] none 0 0:=⟨rfl,by omega,aoX ⟨rfl,rfl⟩,fun i hi=>by simp at hi⟩
theorem Kq {w:World} {g:Nat} {Ub:List qU} {t:TypeId} (h:w.heap[g]?=some (.cells (Ub.flatMap qU.cells).toArray t (0,0))) {n:Nat} (hn:n=Ub.length) (hs:∀v∈Ub,fS w v.x.words v.a v.n v.c):dB w (Ub.map (·.x)) (.agg #[.slice (some ⟨g,0,none⟩) n n]):=by
 subst hn;refine⟨some ⟨g,0,none⟩,_,_,rfl,by simp,aU _,a4Z ⟨g,0,rfl⟩,fun i hi=>⟨g,0,rfl,?_⟩⟩;have hi':i<Ub.length:=by simpa using hi
 have key:∀j (hj:j<5),w.cell? ⟨g,i*5+j,none⟩=some ((Ub[i].cells)[j]'(by simp[qU.cells];omega)):=by
  intro j hj;rw[bX h];have:=iJ qU.cells 5 (fun _=>rfl) Ub i hi' j (by simp[qU.cells];omega);simpa using this
 have e:(Ub.map (·.x))[i]=Ub[i].x:=by simp
 rw[e,Nat.zero_add];exact⟨Ub[i].a,Ub[i].n,Ub[i].c,key 0 (by omega),key 1 (by omega),key 2 (by omega),key 3 (by omega),key 4 (by omega),hs _ (aD hi')⟩
theorem Te (w:World):Calls Tryz.prog 55 #[] w (aNm w):=by
 go_enter Tryz.func55,Tryz.ntmps55
 go_wp2_with fail
 refine a5a (v:=.agg #[.string uy.name,.int .i64 1,.slice (some ⟨w.heap.size+1,0,none⟩) 4 4,.int .i64 0,.int .i64 0]) (by simp[results,Tryz.results55,go_sem,uy]) rfl ?_;refine⟨_,rfl,xH (l:=uy.words) (t:=9) ?_ rfl,((Tz w).alloc _).alloc _,by omega⟩;have:=bR (w.alloc (.cells #[.string uy.name,.int .i64 1,.slice (some ⟨w.heap.size+1,0,none⟩) 4 4,.int .i64 0,.int .i64 0] 101)) (.cells (uy.words.map Value.string).toArray 9);simpa[uy] using this
theorem Tx {w:World} {M:ZN} {l:ZB} {a:OA} {n c:Nat} (h:fS w l a n c) (ha:∀b off,a=some ⟨b,off,none⟩->b∉M):fS (mask w M) l a n c:=by
 refine⟨h.1,h.2.1,h.2.2.1,fun i hi=>?_⟩;obtain⟨b,off,e,hc⟩:=h.2.2.2 i hi;exact⟨b,off,e,by rw[eA,bL (ha b off e)];exact hc⟩
theorem aCT {w:World} {M:ZN} {g:Nat} {o:Obj} (h:w.heap[g]?=some o) (hg:g∉M):(mask w M).heap[g]?=some o:=by
 unfold mask;simp only[Array.getElem?_mapIdx,h,Option.map_some,hg,if_false]
def axx (M:ZN) (w:World) (e:Ending) (w':World):Prop:=∃l v,e=.returned v/\l∈gi/\dB (mask w' M) l v/\Ext w w'
theorem E6 {w W:World} {g n:Nat} {l:List Attr} {M:ZN} (hM:∀y∈M,y<w.heap.size) (Ub:List qU) {t:TypeId} (hg:w.heap.size<=g) (ha:∀v∈Ub,∀b off,v.a=some ⟨b,off,none⟩->w.heap.size<=b) (h:W.heap[g]?=some (.cells (Ub.flatMap qU.cells).toArray t (0,0))) (hn:n=Ub.length) (hl:Ub.map (·.x)=l) (hm:l∈gi) (hs:∀v∈Ub,fS W v.x.words v.a v.n v.c) (hx:Ext w W) :
  axx M w (.returned (.agg #[.slice (some ⟨g,0,none⟩) n n])) W :=
 ⟨l,_,rfl,hm,hl ▸ Kq (aCT h (fun hh=>by have:=hM _ hh;omega)) hn (fun v hv=>Tx (hs v hv) (fun b off e hh=>by have:=hM _ hh;have:=ha v hv b off e;omega)),hx⟩
theorem xq (k:Int) (M:ZN) (w:World) (hM:∀y∈M,y<w.heap.size):Calls Tryz.prog 26 #[.int .i64 k] w (axx M w):=by
 have II:=ai hM;clear hM;go_enter Tryz.func26,Tryz.ntmps26
 go_wp2_with fail
 refine(Dd _ _ _ (by omega) (by omega)).mono ?_;rintro e w' ⟨r,rfl,h0,h1,rfl⟩;have h:r=0\/r=1\/r=2\/r=3\/r=4\/r=5:=by omega
 clear h0 h1;rcases h with rfl|rfl|rfl|rfl|rfl|rfl
 ·go_wp2_with fail
  refine(Te _).mono ?_;rintro e w' ⟨g,rfl,hp,hx,hgn⟩;simp at hgn;have eV:=hx.size;simp at eV;have hb:=hx.blk (bR w _);have hlt:=bS hb;have c0:=bX hb 0;have cf:=ie hb;simp at c0;have HX:=ai (((Tz w).alloc _).trans hx);have HP:=ai hp;clear hx hb hp;go_wp2_with fail
  refine a5a (v:=.agg #[.slice (some ⟨w'.heap.size,0,none⟩) 3 3]) (by simp[results,Tryz.results26,go_sem,c0,hlt]) rfl ?_;refine E6 II.o [⟨uy,some ⟨g,0,none⟩,4,4⟩,⟨⟨⟨#[115,116,111,114,101,121,115]⟩,2,[],1,9⟩,none,0,0⟩,⟨⟨⟨#[97,108,97,114,109]⟩,3,[],0,0⟩,none,0,0⟩] (t:=101) (by omega) (by intro v hv b off he;simp only[bz,bC,or_false] at hv;(repeat' (rcases hv with rfl|hv))<;>(try subst hv)<;>simp at he<;>omega) ?_ rfl rfl (by simp[gi]) ?_ ?_
  ·simpa[qU.cells,uy] using bR (w'.setCell ⟨w.heap.size,0,none⟩ (.slice (some ⟨w'.heap.size,0,none⟩) 3 3)) (.cells #[.string uy.name,.int .i64 1,.slice (some ⟨g,0,none⟩) 4 4,.int .i64 0,.int .i64 0,.string ⟨#[115,116,111,114,101,121,115]⟩,.int .i64 2,.slice none 0 0,.int .i64 1,.int .i64 9,.string ⟨#[97,108,97,114,109]⟩,.int .i64 3,.slice none 0 0,.int .i64 0,.int .i64 0] 101)
  ·intro v hv;simp only[bz,bC,or_false] at hv;rcases hv with rfl|rfl|rfl
   ·exact PT HP.o (by omega) _ _
   ·exact ji _
   exact ji _
  exact(HX.o.fV (by simp) _).alloc _
 ·go_wp2_with fail
  refine a5a (v:=.agg #[.slice (some ⟨w.heap.size+1,0,none⟩) 1 1]) (by simp[results,Tryz.results26,go_sem]) rfl ?_;refine E6 II.o [⟨⟨⟨#[110]⟩,2,[],-5,20⟩,none,0,0⟩] (t:=101) (by omega) (by intro v hv b off he;simp only[bz,bC,or_false] at hv;(repeat' (rcases hv with rfl|hv))<;>(try subst hv)<;>simp at he<;>omega) ?_ rfl rfl (by simp[gi]) (by intro v hv;simp at hv;subst hv;exact ji _) (((Tz w).alloc _).alloc _);simpa[qU.cells] using bR (w.alloc (.cells #[.slice (some ⟨w.heap.size+1,0,none⟩) 1 1] 24)) (.cells #[.string ⟨#[110]⟩,.int .i64 2,.slice none 0 0,.int .i64 (-5),.int .i64 20] 101)
 ·go_wp2_with fail
  refine a5a (v:=.agg #[.slice (some ⟨w.heap.size+2,0,none⟩) 3 3]) (by simp[results,Tryz.results26,go_sem]) rfl ?_;refine E6 II.o [⟨⟨⟨#[97]⟩,3,[],0,0⟩,none,0,0⟩,⟨⟨⟨#[114,111,108,101]⟩,1,[⟨#[99,114,101,119]⟩,⟨#[103,117,101,115,116]⟩],0,0⟩,some ⟨w.heap.size+1,0,none⟩,2,2⟩,⟨⟨⟨#[98]⟩,3,[],0,0⟩,none,0,0⟩] (t:=101) (by omega) (by intro v hv b off he;simp only[bz,bC,or_false] at hv;(repeat' (rcases hv with rfl|hv))<;>(try subst hv)<;>simp at he<;>omega) ?_ rfl rfl (by simp[gi]) ?_ ((((Tz w).alloc _).alloc _).alloc _)
  ·simpa[qU.cells] using bR ((w.alloc (.cells #[.slice (some ⟨w.heap.size+2,0,none⟩) 3 3] 24)).alloc (.cells #[.string ⟨#[99,114,101,119]⟩,.string ⟨#[103,117,101,115,116]⟩] 9)) (.cells #[.string ⟨#[97]⟩,.int .i64 3,.slice none 0 0,.int .i64 0,.int .i64 0,.string ⟨#[114,111,108,101]⟩,.int .i64 1,.slice (some ⟨w.heap.size+1,0,none⟩) 2 2,.int .i64 0,.int .i64 0,.string ⟨#[98]⟩,.int .i64 3,.slice none 0 0,.int .i64 0,.int .i64 0] 101)
  intro v hv;simp only[bz,bC,or_false] at hv;rcases hv with rfl|rfl|rfl
  ·exact ji _
  ·refine xH (t:=9) (bU ?_) rfl;simpa using bR (w.alloc (.cells #[.slice (some ⟨w.heap.size+2,0,none⟩) 3 3] 24)) (.cells #[.string ⟨#[99,114,101,119]⟩,.string ⟨#[103,117,101,115,116]⟩] 9)
  exact ji _
 ·go_wp2_with fail
  refine a5a (v:=.agg #[.slice (some ⟨w.heap.size+1,0,none⟩) 2 2]) (by simp[results,Tryz.results26,go_sem]) rfl ?_;refine E6 II.o [⟨⟨⟨#[110]⟩,2,[],-1000000000,1000000000⟩,none,0,0⟩,⟨⟨⟨#[116]⟩,3,[],0,0⟩,none,0,0⟩] (t:=101) (by omega) (by intro v hv b off he;simp only[bz,bC,or_false] at hv;(repeat' (rcases hv with rfl|hv))<;>(try subst hv)<;>simp at he<;>omega) ?_ rfl rfl (by simp[gi]) ?_ (((Tz w).alloc _).alloc _)
  ·simpa[qU.cells] using bR (w.alloc (.cells #[.slice (some ⟨w.heap.size+1,0,none⟩) 2 2] 24)) (.cells #[.string ⟨#[110]⟩,.int .i64 2,.slice none 0 0,.int .i64 (-1000000000),.int .i64 1000000000,.string ⟨#[116]⟩,.int .i64 3,.slice none 0 0,.int .i64 0,.int .i64 0] 101)
  intro v hv;simp only[bz,bC,or_false] at hv;rcases hv with rfl|rfl<;>exact ji _
 ·go_wp2_with fail
  refine(Te _).mono ?_;rintro e w' ⟨g,rfl,hp,hx,hgn⟩;simp at hgn;have eV:=hx.size;simp at eV;have HO:=ai (hx.blk (bR (w.alloc (.cells #[.slice none 0 0] 24)) (.cells #[.string ⟨#[111,110,108,121]⟩] 9)));have hb:=hx.blk (bU (o':=.cells #[.string ⟨#[111,110,108,121]⟩] 9) (bR w (.cells #[.slice none 0 0] 24)));have hlt:=bS hb;have c0:=bX hb 0;have cf:=ie hb;simp at c0;have HX:=ai ((((Tz w).alloc _).alloc _).trans hx);have HP:=ai hp;clear hx hb hp;go_wp2_with fail
  refine a5a (v:=.agg #[.slice (some ⟨w'.heap.size,0,none⟩) 4 4]) (by simp[results,Tryz.results26,go_sem,c0,hlt]) rfl ?_;refine E6 II.o [⟨⟨⟨#[111,110,101]⟩,1,[⟨#[111,110,108,121]⟩],0,0⟩,some ⟨w.heap.size+1,0,none⟩,1,1⟩,⟨uy,some ⟨g,0,none⟩,4,4⟩,⟨⟨⟨#[110]⟩,2,[],0,6⟩,none,0,0⟩,⟨⟨⟨#[116]⟩,3,[],0,0⟩,none,0,0⟩] (t:=101) (by omega) (by intro v hv b off he;simp only[bz,bC,or_false] at hv;(repeat' (rcases hv with rfl|hv))<;>(try subst hv)<;>simp at he<;>omega) ?_ rfl rfl (by simp[gi]) ?_ ?_
  ·simpa[qU.cells,uy] using bR (w'.setCell ⟨w.heap.size,0,none⟩ (.slice (some ⟨w'.heap.size,0,none⟩) 4 4)) (.cells #[.string ⟨#[111,110,101]⟩,.int .i64 1,.slice (some ⟨w.heap.size+1,0,none⟩) 1 1,.int .i64 0,.int .i64 0,.string uy.name,.int .i64 1,.slice (some ⟨g,0,none⟩) 4 4,.int .i64 0,.int .i64 0,.string ⟨#[110]⟩,.int .i64 2,.slice none 0 0,.int .i64 0,.int .i64 6,.string ⟨#[116]⟩,.int .i64 3,.slice none 0 0,.int .i64 0,.int .i64 0] 101)
  ·intro v hv;simp only[bz,bC,or_false] at hv;rcases hv with rfl|rfl|rfl|rfl
   ·refine PT (xH (t:=9) (l:=[⟨#[111,110,108,121]⟩]) ?_ rfl) (by simp) _ _;simpa using HO.o
   ·exact PT HP.o (by omega) _ _
   ·exact ji _
   exact ji _
  exact(HX.o.fV (by simp) _).alloc _
 go_wp2_with fail
 refine a5a (v:=.agg #[.slice (some ⟨w.heap.size+1,0,none⟩) 1 1]) (by simp[results,Tryz.results26,go_sem]) rfl ?_;refine E6 II.o [⟨⟨⟨#[116]⟩,3,[],0,0⟩,none,0,0⟩] (t:=101) (by omega) (by intro v hv b off he;simp only[bz,bC,or_false] at hv;(repeat' (rcases hv with rfl|hv))<;>(try subst hv)<;>simp at he<;>omega) ?_ rfl rfl (by simp[gi]) (by intro v hv;simp at hv;subst hv;exact ji _) (((Tz w).alloc _).alloc _);simpa[qU.cells] using bR (w.alloc (.cells #[.slice (some ⟨w.heap.size+1,0,none⟩) 1 1] 24)) (.cells #[.string ⟨#[116]⟩,.int .i64 3,.slice none 0 0,.int .i64 0,.int .i64 0] 101)
theorem jv (c:Int) (w:World):Calls Tryz.prog 175 #[.int .u8 c] w (pg (.bool (jX c)) w):=by
 go_enter Tryz.func175,Tryz.ntmps175
 go_wp2_with fail
 all_goals (go_ret;exact fU (by simp[jX];omega))
theorem ox (c:Int) (w:World):Calls Tryz.prog 176 #[.int .u8 c] w (pg (.bool (gP c)) w):=by
 go_enter Tryz.func176,Tryz.ntmps176
 go_wp2_with fail
 all_goals (go_ret;exact fU (by simp[gP];omega))
theorem U6 (n:Int) (w:World):Calls Tryz.prog 154 #[.int .i64 n] w (pg (.bool (!iM n)) w):=by
 go_enter Tryz.func154,Tryz.ntmps154
 go_wp2_with fail
 all_goals (go_ret;exact fU (by rw[bH];simp[iM];omega))
theorem adw (s:BA) (w:World):Calls Tryz.prog 151 #[.string s] w (pg (.bool (NF s)) w):=by
 go_enter Tryz.func151,Tryz.ntmps151
 go_wp2_with fail
 all_goals (go_ret;exact fU (by simp_all [NF,MG]))
theorem acw (p:Int->Bool) (s:BA):∀(m k:Nat),s.size - k=m->k<=s.size->(ki p s (s.size - k) k=s.size ↔ ∀j (h:j<s.size),k<=j->p (s[j].toNat:Int)=true):=by
 intro m;induction m with
 | zero =>
  intro k hm hk;rw[Nx (by omega)];exact⟨fun _ j h hj=>by omega,fun _=>by omega⟩
 | succ m ih =>
  intro k hm hk;have hlt:k<s.size:=by omega
  cases hp:p (s[k].toNat:Int)
  ·rw[JS hlt hp];exact⟨fun h=>by omega,fun h=>by rw[h k hlt (aU _)] at hp;cases hp⟩
  rw[zB hlt hp,ih (k+1) (by omega) (by omega)];refine⟨fun h j hj hkj=>?_,fun h j hj hkj=>h j hj (by omega)⟩;by_cases e:j=k
  ·subst e;exact hp
  exact h j hj (by omega)
theorem aBd {s:BA} (h0:s.size≠0) (h1:s.size<=16) (h2:jX (jo s 0)=true) (h3:jo s (s.size - 1)≠45) (h:∀j (hj:j<s.size),gm (s[j].toNat:Int)=true):kM s=true:=by
 have:=(acw gm s _ 0 rfl (by omega)).2 (fun j hj _=>h j hj);rw[Nat.sub_zero] at this;simp[kM,h0,h1,h2,h3,this]
theorem aBe {s:BA} {j:Nat} (hj:j<s.size) (h:gm (s[j].toNat:Int)=false):kM s=false:=by
 cases hb:kM s
 ·rfl
 simp only[kM,aF,a47] at hb;have:=(acw gm s _ 0 rfl (by omega)).1 (by rw[Nat.sub_zero];exact hb.2) j hj (by omega);rw[h] at this;cases this
theorem LO (s:BA) (w:World) (hs:s.size<=1000000000000000):Calls Tryz.prog 150 #[.string s] w (pg (.bool (kM s)) w):=by
 by_cases h0:s.size=0
 ·have H:=ai (show kM s=false by simp[kM,h0]);have hz:decide ((s.size:Int)<1)=true:=by simp[h0]
  clear h0;go_enter Tryz.func150,Tryz.ntmps150
  go_wp2_with fail
  go_ret;exact fU (by rw[H.o])
 have hz:decide ((s.size:Int)<1)=false:=by simp;omega
 by_cases h1:s.size<=16
 ·have hb0:=lp (show 0<s.size by omega);have hb1:=lp (show s.size - 1<s.size by omega);have hz2:decide ((16:Int)<s.size)=false:=by simp;omega
  cases h2:jX (s[0]'(by omega)).toNat
  ·have H:=ai (show kM s=false by simp[kM,hb0,h2]);have H2:=ai h2;clear h2 hb0 hb1;go_enter Tryz.func150,Tryz.ntmps150
   go_wp2_with fail
   refine(jv _ _).mono ?_;rintro e w' ⟨rfl,rfl⟩;rw[H2.o];go_wp2_with fail
   go_ret;exact fU (by rw[H.o])
  have H2:=ai h2;have iO:=ai hb0;have gG:=ai hb1;clear h2 hb0 hb1;have e1:((s.size:Int) - 1).toNat=s.size - 1:=by omega
  cases h3:((s[s.size - 1]'(by omega)).toNat:Int)==45
  ·have HY:=ai (show (∀j (hj:j<s.size),gm (s[j].toNat:Int)=true)->kM s=true from fun h=>aBd h0 h1 (by rw[iO.o];exact H2.o) (by rw[gG.o];simpa using h3) h);go_enter Tryz.func150,Tryz.ntmps150
   go_wp2_with fail
   refine(jv _ _).mono ?_;rintro e w' ⟨rfl,rfl⟩;rw[H2.o];go_wp2_with fail
   go_loop [3] (fun i=>∃k:Nat,i=.int .i64 k/\k<=s.size/\∀j (hj:j<s.size),j<k->gm (s[j].toNat:Int)=true) (fun i=>s.size - (intOf i).toNat)
   case atStart=>exact⟨0,rfl,by omega,fun j _ h=>by omega⟩
   case round =>
    obtain⟨k,rfl,hk,hall⟩:=hrel;have HA:=ai hall;clear hall;by_cases hlt:k<s.size
    ·have HN:=ai (fun h=>aBe (s:=s) hlt h);cases h4:jX (s[k].toNat:Int)
     ·cases h5:gP (s[k].toNat:Int)
      ·cases h6:((s[k].toNat:Int)==45)
       ·have H:=ai (HN.o (by simp[gm,h4,h5,h6]));have h6':((s[k].toNat:Int) != 45)=true:=by simpa using h6
        have H4:=ai h4;have H5:=ai h5;clear h4 h5;go_wp2_with fail
        refine(jv _ _).mono ?_;rintro e w' ⟨rfl,rfl⟩;rw[H4.o];go_wp2_with fail
        refine(ox _ _).mono ?_;rintro e w' ⟨rfl,rfl⟩;rw[H5.o];go_wp2_with fail
        go_ret;exact fU (by rw[H.o])
       have H:=ai (show gm (s[k].toNat:Int)=true by simp[gm,h4,h5,h6]);have h6':((s[k].toNat:Int) != 45)=false:=by simpa using h6
       have H4:=ai h4;have H5:=ai h5;clear h4 h5;go_wp2_with fail
       refine(jv _ _).mono ?_;rintro e w' ⟨rfl,rfl⟩;rw[H4.o];go_wp2_with fail
       refine(ox _ _).mono ?_;rintro e w' ⟨rfl,rfl⟩;rw[H5.o];go_wp2_with fail
       go_round
       case rel=>exact⟨k+1,by go_num,by omega,fun j hj hjk=>by
        by_cases e:j=k
        ·subst e;exact H.o
        exact HA.o j hj (by omega)⟩
       case measure=>simp[intOf];omega
      have H:=ai (show gm (s[k].toNat:Int)=true by simp[gm,h4,h5]);have H4:=ai h4;have H5:=ai h5;clear h4 h5;go_wp2_with fail
      refine(jv _ _).mono ?_;rintro e w' ⟨rfl,rfl⟩;rw[H4.o];go_wp2_with fail
      refine(ox _ _).mono ?_;rintro e w' ⟨rfl,rfl⟩;rw[H5.o];go_wp2_with fail
      go_round
      case rel=>exact⟨k+1,by go_num,by omega,fun j hj hjk=>by
       by_cases e:j=k
       ·subst e;exact H.o
       exact HA.o j hj (by omega)⟩
      case measure=>simp[intOf];omega
     have H:=ai (show gm (s[k].toNat:Int)=true by simp[gm,h4]);have H4:=ai h4;clear h4;go_wp2_with fail
     refine(jv _ _).mono ?_;rintro e w' ⟨rfl,rfl⟩;rw[H4.o];go_wp2_with fail
     go_round
     case rel=>exact⟨k+1,by go_num,by omega,fun j hj hjk=>by
      by_cases e:j=k
      ·subst e;exact H.o
      exact HA.o j hj (by omega)⟩
     case measure=>simp[intOf];omega
    go_wp2_with fail
    go_ret;exact fU (by rw[HY.o (fun j hj=>HA.o j hj (by omega))])
  have H:=ai (show kM s=false by simp[kM,iO.o,gG.o,H2.o,h1,h0];intro h;simp at h3;omega);go_enter Tryz.func150,Tryz.ntmps150
  go_wp2_with fail
  refine(jv _ _).mono ?_;rintro e w' ⟨rfl,rfl⟩;rw[H2.o];go_wp2_with fail
  go_ret;exact fU (by rw[H.o])
 have H:=ai (show kM s=false by simp[kM];omega);have hz2:decide ((16:Int)<s.size)=true:=by simp;omega
 go_enter Tryz.func150,Tryz.ntmps150
 go_wp2_with fail
 go_ret;exact fU (by rw[H.o])
theorem nO (s:BA) (w:World) (hs:s.size<=1000000000000000):Calls Tryz.prog 118 #[.string s] w (pg (.bool (gJ s)) w):=by
 go_enter Tryz.func118,Tryz.ntmps118
 go_wp2_with (first
  | (go_at_call 150;refine(LO _ _ hs).mono ?_;rintro e w' ⟨rfl,rfl⟩)
  | (go_at_call 151;refine(adw _ _).mono ?_;rintro e w' ⟨rfl,rfl⟩))
 all_goals (go_ret;exact fU (by simp_all [gJ]))
theorem Gx (l:ZB) (a:OA) (n c:Nat) (w:World) (hl:fS w l a n c) (hn:n<=1000000000000000) (hsz:∀x∈l,x.size<=1000000000000000) :
  Calls Tryz.prog 152 #[.slice a n c] w (pg (.bool (l.all gJ)) w):=by
 have HL:=ai hl;have HZ:=ai hsz;have hnl:=ai hl.1;clear hl hsz;go_enter Tryz.func152,Tryz.ntmps152
 go_wp2_with fail
 go_loop [3] (fun t=>∃k:Nat,t=.int .i64 k/\k<=n/\∀j (hj:j<l.length),j<k->gJ l[j]=true) (fun t=>n - (intOf t).toNat)
 case atStart=>exact⟨0,rfl,by omega,fun j _ h=>by omega⟩
 case round =>
  obtain⟨k,rfl,hk,hlo⟩:=hrel;have HO:=ai hlo;clear hlo;by_cases hlt:k<n
  ·have hlt':k<l.length:=by have:=hnl.out;omega
   have hsk:=HZ.o _ (aD hlt');obtain⟨b,off,rfl,hcell⟩:=HL.o.2.2.2 k hlt';cases h3:gJ l[k]
   ·have H:=ai (show l.all gJ=false by
     rw[List.all_eq_false];exact⟨l[k],aD hlt',by simp[h3]⟩)
    have H3:=ai h3;clear h3;go_wp2_with fail
    refine(nO _ _ hsk).mono ?_;rintro e w' ⟨rfl,rfl⟩;rw[H3.o];go_wp2_with fail
    go_ret;exact fU (by rw[H.o])
   have H3:=ai h3;clear h3;go_wp2_with fail
   refine(nO _ _ hsk).mono ?_;rintro e w' ⟨rfl,rfl⟩;rw[H3.o];go_wp2_with fail
   go_round
   case rel=>exact⟨k+1,by go_num,by omega,fun j hj hjk=>by
    by_cases e:j=k
    ·subst e;exact H3.o
    exact HO.o j hj (by omega)⟩
   case measure=>simp[intOf];omega
  go_wp2_with fail
  go_ret;exact fU (by
   symm
   rw[aP];intro x hx;obtain⟨j,hj,rfl⟩:=bA hx;exact HO.o j hj (by have:=hnl.out;omega))
theorem aCG {l:ZB} {n:Nat} (hn:n=l.length) (h:∀i j (hi:i<l.length) (hj:j<l.length),i<n->j<i->l[i]≠l[j]):l.Nodup:=by
 rw[List.Nodup,List.pairwise_iff_getElem];intro i j hi hj hij e;exact h j i hj hi (by omega) hij e.symm
def Ys (v:Value) (w:World) (e:Ending) (w':World):Prop:=e=.returned v/\∃n,w'=w.drewN n
theorem drewN_drewN (w:World) (a b:Nat):(w.drewN a).drewN b=w.drewN (a+b):=by simp[World.drewN,Nat.add_assoc]
theorem nR {a b:Bool} {w w':World} (h:a=b) (hx:∃n,w'=w.drewN n):Ys (.bool b) w (.returned (.bool a)) w':=by subst h;exact⟨rfl,hx⟩
theorem DN (l:ZB) (a:OA) (n c:Nat) (w:World) (hl:fS w l a n c) (hn:n<=1000000000000000) :
  Calls Tryz.prog 153 #[.slice a n c] w (Ys (.bool (decide l.Nodup)) w):=by
 have HL:=ai hl;have hnl:=ai hl.1;clear hl;go_enter Tryz.func153,Tryz.ntmps153
 go_wp2_with fail
 go_loopw [3,4] (fun t _ wr=>∃k:Nat,t=.int .i64 k/\k<=n/\(∀i j (hi:i<l.length) (hj:j<l.length),i<k->j<i->l[i]≠l[j])/\∃q,wr=w.drewN q) (fun t _ _=>n - (intOf t).toNat)
 case atStart=>exact⟨0,rfl,by omega,fun i j _ _ h=>by omega,0,rfl⟩
 case round =>
  obtain⟨k,rfl,hk,hlo,q,rfl⟩:=hrel;have HO:=ai hlo;clear hlo;by_cases hlt:k<n
  ·have hlt':k<l.length:=by have:=hnl.out;omega
   go_wp2_with fail
   go_loopw [4] (fun t wr2=>∃m:Nat,t=.int .i64 m/\m<=k/\(∀j (hj:j<l.length),j<m->l[k]≠l[j])/\∃q,wr2=w.drewN q) (fun t _=>k - (intOf t).toNat)
   case atStart=>exact⟨0,rfl,by omega,fun j _ h=>by omega,q,rfl⟩
   case round =>
    obtain⟨m,rfl,hm,hne,q2,rfl⟩:=hrel;have HE:=ai hne;clear hne;by_cases hmk:m<k
    ·have aQC:m<l.length:=by omega
     obtain⟨b,off,rfl,hc1⟩:=HL.o.2.2.2 k hlt';obtain⟨b',off',e,hc2⟩:=HL.o.2.2.2 m aQC;simp only[a42,Addr.mk.injEq,and_true] at e;obtain⟨rfl,rfl⟩:=e;have Sc:(0:Int)<=(k:Int):=by omega
     have ti1:(k:Int)<(n:Int):=by omega
     have tj0:(0:Int)<=(m:Int):=by omega
     have tj1:(m:Int)<(n:Int):=by omega
     cases he:(l[k].toList==l[m].toList)
     ·have HQ:=ai he;go_wp2_with fail
      go_quiet (fail)
      go_wp2_with fail
      go_roundw
      case rel =>
       refine⟨m+1,by go_num,by omega,fun j hj hjm=>?_,_,rfl⟩;by_cases e:j=m
       ·subst e;intro h;have:=HQ.o;rw[h] at this;simp at this
       exact HE.o j hj (by omega)
      case measure=>simp[intOf];omega
     have H:=ai (show decide l.Nodup=false by
      rw[bI];intro hnd;have h1:=toList_inj (a47.1 he);rw[List.Nodup,List.pairwise_iff_getElem] at hnd;exact hnd m k aQC hlt' hmk h1.symm)
     go_wp2_with fail
     go_quiet (fail)
     go_wp2_with fail
     go_ret;exact nR (by rw[H.o]) ⟨_,drewN_drewN _ _ _⟩
    go_wp2_with fail
    go_roundw
    case rel =>
     refine⟨k+1,by go_num,by omega,fun i j hi hj hik hji=>?_,q2,rfl⟩;by_cases e:i=k
     ·subst e;exact HE.o j hj (by omega)
     exact HO.o i j hi hj (by omega) hji
    case measure=>simp[intOf];omega
  go_wp2_with fail
  go_ret;exact nR (by
   symm
   rw[aH];exact aCG hnl.out (fun i j hi hj hin hji=>HO.o i j hi hj (by omega) hji)) ⟨q,rfl⟩
mutual
def Ex.vP:Ex->Prop
 | .mk _ _ _ _ _ args=>args.length<=1000000000000000/\BF args
def BF:List Ex->Prop
 | []=>True
 | e::r=>e.vP/\BF r
end
theorem SG:(l:List Ex)->(BF l ↔ ∀x∈l,x.vP)
 | []=>by simp[BF]
 | e::r=>by rw[BF,SG r];simp
theorem atF {e:Ex} (h:e.vP):e.args.length<=1000000000000000/\∀x∈e.args,x.vP:=by
 cases e;unfold Ex.vP at h;exact⟨h.1,(SG _).1 h.2⟩
mutual
theorem iY:(e:Ex)->e.size<=1000000000000000->e.vP
 | .mk op name words lo hi args,h=>by
  rw[Ex.size] at h;have:=eR args;unfold Ex.vP;exact⟨by omega,Q7 args (by omega)⟩
theorem Q7:(l:List Ex)->sizes l<=1000000000000000->BF l
 | [],_=>by unfold BF;trivial
 | e::r,h=>by
  rw[sizes] at h;unfold BF;exact⟨iY e (by omega),Q7 r (by omega)⟩
end
theorem size_pos (e:Ex):1<=e.size:=by rw[e.size_eq];omega
def ep (e:Ex):Nat:=min e.size 301
def oL:List Ex->Nat
 | []=>0
 | e::r=>ep e+oL r
theorem SV (l:List Ex):oL l<=sizes l/\l.length<=oL l/\min (1+oL l) 301=min (1+sizes l) 301:=by
 induction l with
 | nil=>simp[oL,sizes]
 | cons e r ih=>have:=size_pos e;simp only[oL,sizes,ep,List.length_cons];omega
theorem Xh (l:List Ex) (k:Nat) (hk:k<l.length):oL (l.take (k+1))=oL (l.take k)+ep l[k]:=by
 induction l generalizing k with
 | nil=>simp at hk
 | cons e r ih =>
  cases k with
  | zero=>simp[oL]
  | succ k=>have:=ih k (by simpa using hk);simp only[List.take_succ_cons,oL,this,List.getElem_cons_succ];omega
theorem afs {e:Ex} {k:Nat} (hs:k=e.args.length\/300<1+oL (e.args.take k)):min (1+oL (e.args.take k)) 301=ep e:=by
 have h1:=e.size_eq;have h2:=SV (e.args.take k);have h3:=dX e.args k;have h4:=SV e.args;unfold ep;rcases hs with hs|hs
 ·rw[hs,List.take_length];omega
 omega
theorem wR (m:Nat):∀(e:Ex) (v:Value) (w:World),e.size<=m->dw w e v->Calls Tryz.prog 156 #[v] w (cz (.int .i64 (ep e)) w):=by
 induction m with
 | zero=>intro e v w h;have:=size_pos e;omega
 | succ m ih =>
  intro e v w hm he;obtain⟨aw,nw,cw,aa,na,ca,rfl,hw,hna,hca,ha,hx⟩:=he.parts;have HX:=ai hx;have HN:=ai hna;have hS:e.size=1+sizes e.args:=e.size_eq;have hb2:sizes e.args<=m:=by omega
  have H:aj (∀(e:Ex) (v:Value) (w:World),e.size<=m->dw w e v->Calls Tryz.prog 156 #[v] w (cz (.int .i64 (ep e)) w)):=ih;clear ih hx hna hw hca ha he hS hm;unfold fN;go_enter Tryz.func156,Tryz.ntmps156
  go_wp2_with fail
  go_loopw [3,4] (fun s i wr=>∃k:Nat,k<=na/\i=.int .i64 k/\s=.int .i64 (1+(oL (e.args.take k):Int))/\oL (e.args.take k)<=601/\wr.heap[w.heap.size]?=some (.cells #[.int .i64 e.op,.string e.name,.slice aw nw cw,.int .i64 e.lo,.int .i64 e.hi,.slice aa na ca] 45 (0,0))/\Ext w wr) (fun _ i _=>na - (intOf i).toNat)
  case atStart=>exact⟨0,by omega,rfl,by simp[oL],by simp[oL],bR w _,(Tz w).alloc _⟩
  case round =>
   obtain⟨k,hk,rfl,rfl,lN,j6,hb⟩:=hrel;have jm:=ai j6;have HB:=ai hb;have lU:=bS j6;obtain⟨b0,b1,b2,b3,b4,b5,bf⟩:=cX j6;have fq:k<=oL (e.args.take k):=by have:=(SV (e.args.take k)).2.1;have hl:=HN.o;rw[List.length_take] at this;omega
   clear j6 hb;by_cases hlt:k<na
   ·have hlt':k<e.args.length:=by have:=HN.o;omega
    by_cases hc:oL (e.args.take k)<=299
    ·have t1:decide ((k:Int)<(na:Int))=true:=by simp;omega
     have t2:decide (1+(oL (e.args.take k):Int)<=300)=true:=by simp;omega
     obtain⟨b,off,rfl,nJ,nD,nG,nK,nE,nI,h0,h1,h2,h3,h4,h5,h6⟩:=eU.at e.args _ (eU.ext HB.o e.args _ HX.o) k hlt';have H6:=ai h6;have hs1:=ai (Xh e.args k hlt');have hsz:=eD e.args k hlt';have hsl:=dX e.args (k+1);have uk:e.args[k].size<=m:=by omega
     have hr:ep e.args[k]<=301:=by unfold ep;omega
     clear h6 hsz hsl;go_wp2_with fail
     refine(H.o e.args[k] _ _ uk H6.o).mono ?_;rintro r w1 ⟨rfl,hb1⟩;have ue:=ai hb1;clear b0 b1 b2 b3 b4 b5 bf hb1;go_wp2_with fail
     go_roundw
     case rel=>exact⟨k+1,by omega,by go_num,by rw[hs1.out];go_num,by rw[hs1.out];omega,ue.o.blk jm.o,HB.o.trans ue.o⟩
     case measure=>simp[intOf];omega
    have t1:decide ((k:Int)<(na:Int))=true:=by simp;omega
    have t2:decide (1+(oL (e.args.take k):Int)<=300)=false:=by simp;omega
    have H1:=ai (afs (e:=e) (k:=k) (a4Z (by omega)));go_wp2_with fail
    all_goals (go_ret;exact Qj (by rw[<-H1.o];omega) HB.o)
   have t1:decide ((k:Int)<(na:Int))=false:=by simp;omega
   have H1:=ai (afs (e:=e) (k:=k) (aoX (by have:=HN.o;omega)));go_wp2_with fail
   all_goals (go_ret;exact Qj (by rw[<-H1.o];omega) HB.o)
theorem adf (m:Nat):∀(e:Ex) (v:Value) (w:World) (n:Nat),e.size<=m->e.vP->n<=1000->dw w e v->Calls Tryz.prog 155 #[v,.int .i64 n] w (cz (.bool (decide (n<e.depth))) w):=by
 induction m with
 | zero=>intro e v w n h;have:=size_pos e;omega
 | succ m ih =>
  intro e v w n hm hsl hn he;obtain⟨aWi,aQh⟩:=atF hsl;obtain⟨aw,nw,cw,aa,na,ca,rfl,hw,hna,hca,ha,hx⟩:=he.parts;have HX:=ai hx;have HN:=ai hna;have HD:=ai e.uT;have hS:e.size=1+sizes e.args:=e.size_eq;have hb2:sizes e.args<=m:=by omega
  have Ks:na<=1000000000000000:=by omega
  have Uf:=ai aQh;have H:aj (∀(e:Ex) (v:Value) (w:World) (n:Nat),e.size<=m->e.vP->n<=1000->dw w e v->Calls Tryz.prog 155 #[v,.int .i64 n] w (cz (.bool (decide (n<e.depth))) w)):=fun e v w n h1 h0 h2 h3=>ih e v w n h1 h0 h2 h3
  clear hsl aWi aQh ih hx hna hw hca ha he hS hm;unfold fN;by_cases hn0:n=0
  ·have t1:((n:Int)==0)=true:=by simp[hn0]
   have H1:=ai (show decide (n<e.depth)=true by rw[aH,HD.o];omega);generalize decide (n<e.depth)=B at *;go_enter Tryz.func155,Tryz.ntmps155
   go_wp2_with fail
   go_ret;exact bW (by rw[H1.o]) ((Tz w).alloc _)
  have Cr:1<=n:=by omega
  have t1:((n:Int)==0)=false:=by simp;omega
  obtain⟨B,hB⟩:∃B,B=decide (n<e.depth):=⟨_,rfl⟩
  rw[<-hB];have HBQ:=ai hB;clear hB;go_enter Tryz.func155,Tryz.ntmps155
  go_wp2_with fail
  go_loopw [5] (fun i wr=>∃k:Nat,k<=na/\i=.int .i64 k/\(∀j (hj:j<e.args.length),j<k->¬n - 1<e.args[j].depth)/\wr.heap[w.heap.size]?=some (.cells #[.int .i64 e.op,.string e.name,.slice aw nw cw,.int .i64 e.lo,.int .i64 e.hi,.slice aa na ca] 45 (0,0))/\Ext w wr) (fun i _=>na - (intOf i).toNat)
  case atStart=>exact⟨0,by omega,rfl,fun j _ h=>by omega,bR w _,(Tz w).alloc _⟩
  case round =>
   obtain⟨k,hk,rfl,hall,j6,hb⟩:=hrel;have HA:=ai hall;have jm:=ai j6;have HB:=ai hb;have lU:=bS j6;obtain⟨b0,b1,b2,b3,b4,b5,bf⟩:=cX j6;clear j6 hb hall;by_cases hlt:k<na
   ·have hlt':k<e.args.length:=by have:=HN.o;omega
    obtain⟨b,off,rfl,nJ,nD,nG,nK,nE,nI,h0,h1,h2,h3,h4,h5,h6⟩:=eU.at e.args _ (eU.ext HB.o e.args _ HX.o) k hlt';have H6:=ai h6;have hsz:=eD e.args k hlt';have hsl:=dX e.args (k+1);have uk:e.args[k].size<=m:=by omega
    have WO:=ai (ahe (aD hlt'));clear h6 hsz hsl;have He:=ai (show (n:Int) - 1=((n - 1:Nat):Int) by omega);go_wp2_with fail
    rw[He.o];refine(H.o e.args[k] _ _ (n - 1) uk (Uf.o _ (aD hlt')) (by omega) H6.o).mono ?_;rintro r w1 ⟨rfl,hb1⟩;have ue:=ai hb1;clear b0 b1 b2 b3 b4 b5 bf hb1;by_cases hdp:n - 1<e.args[k].depth
    ·rw[bO hdp];have H1:=ai (show B=true by rw[HBQ.o,aH,HD.o];have:=WO.o;omega);clear hdp;go_wp2_with fail
     go_ret;exact bW (by rw[H1.o]) (HB.o.trans ue.o)
    rw[bP hdp];have HND:=ai hdp;clear hdp;go_wp2_with fail
    go_roundw
    case rel =>
     refine⟨k+1,by omega,by go_num,fun j hj hjk=>?_,ue.o.blk jm.o,HB.o.trans ue.o⟩;by_cases ej:j=k
     ·subst ej;exact HND.o
     exact HA.o j hj (by omega)
    case measure=>simp[intOf];omega
   have H1:=ai (show B=false by
    rw[HBQ.o,bI,HD.o];have:∀l:List Ex,(∀x∈l,¬n - 1<x.depth)->jz l<=n - 1:=by
     intro l;induction l with
     | nil=>intro _;simp[jz]
     | cons y r ih =>
      intro h;have h1:=h y (by simp);have h2:=ih (fun x hx=>h x (aZ _ hx));simp only[jz];omega
    have:=this e.args (fun x hx=>by
     obtain⟨j,hj,rfl⟩:=bA hx;exact HA.o j hj (by have:=HN.o;omega))
    omega)
   go_wp2_with fail
   go_ret;exact bW (by rw[H1.o]) HB.o
def IQ (op:Int) (name:BA) (words:ZB) (lo hi:Int) (na nw:Nat):Bool :=
 decide (1<=op/\op<=8)&&(if op==3||op==4||op==5 then gJ name else name.toList.isEmpty)&&(if op==4 then decide (1<=nw)&&decide (nw<=12)&&words.all gJ&&decide words.Nodup else decide (nw=0)) &&
 (if op==5 then iM lo&&iM hi&&decide (lo<=hi) else (lo==0)&&(hi==0))&&(if op==6 then decide (na=1) else if op==7||op==8 then decide (2<=na) else decide (na=0))
def vQ (e:Ex):Bool:=IQ e.op e.name e.words e.lo e.hi e.args.length e.words.length
theorem aqS (n:Nat):((n:Int)==0)=decide (n=0):=by rw[bH];simp
theorem aC3 (n:Nat):((n:Int)==1)=decide (n=1):=by rw[bH];simp;omega
theorem apM (e:Ex) (v:Value) (w:World) (he:dw w e v) (hs:e.name.size<=1000000000000000) (hws:∀x∈e.words,x.size<=1000000000000000) (hnw:e.words.length<=1000000000000000) :
  Calls Tryz.prog 177 #[v] w (cz (.bool (vQ e)) w):=by
 obtain⟨aw,nw,cw,aa,na,ca,rfl,hw,hna,hca,ha,hx⟩:=he.parts;clear he hx ha hca;have HW:=ai hw;have HS:=ai hws;have aQx:nw<=1000000000000000:=by have:=hw.1;omega
 have HB:=ai (show vQ e=IQ e.op e.name e.words e.lo e.hi na nw by unfold vQ;rw[hna,hw.1]);generalize vQ e=B at *;clear hw hws hna hnw;obtain⟨op,name,words,lo,hi,args⟩:=e;simp only[Ex.op,Ex.name,Ex.words,Ex.lo,Ex.hi] at *;unfold fN;by_cases h1:1<=op
 ·by_cases h8:op<=8
  ·have hk:op=1\/op=2\/op=3\/op=4\/op=5\/op=6\/op=7\/op=8:=by omega
   clear h1 h8;rcases hk with rfl|rfl|rfl|rfl|rfl|rfl|rfl|rfl
   case inr.inr.inr.inl =>
    obtain⟨P,hP⟩:∃P,P=words.all gJ:=⟨_,rfl⟩
    obtain⟨Q,hQ⟩:∃Q,Q=decide words.Nodup:=⟨_,rfl⟩
    have HP:=ai hP;have HQ:=ai hQ;have fY:=ai (show B=(gJ name&&(decide (1<=nw)&&decide (nw<=12)&&P&&Q)&&((lo==0)&&(hi==0))&&decide (na=0)) by rw[HB.o];unfold IQ;rw[hP,hQ];simp);clear hP hQ HB;cases P
    all_goals cases Q
    all_goals
     by_cases Cr:1<=nw
     ·by_cases hn2:nw<=12
      ·have t1:decide ((nw:Int)<1)=false:=by simp;omega
       have t2:decide ((12:Int)<nw)=false:=by simp;omega
       have nU:=ai fY.o;simp only[Cr,hn2,decide_true,Bool.false_and,Bool.and_false,Bool.and_true] at nU;clear fY;go_enter Tryz.func177,Tryz.ntmps177
       go_wp2_with (first
        | (go_at_call 118;refine(nO _ _ hs).mono ?_;rintro e w' ⟨rfl,rfl⟩)
        | (go_at_call 152;refine(Gx words _ _ _ _ (HW.o.ext ((Tz w).alloc _)) aQx HS.o).mono ?_;rintro e w' ⟨rfl,rfl⟩;rw[<-HP.o])
        | (go_at_call 153;refine(DN words _ _ _ _ (HW.o.ext ((Tz w).alloc _)) aQx).mono ?_;rintro e w' ⟨rfl,q,rfl⟩;rw[<-HQ.o]))
       all_goals (go_ret;exact bW (by first|(rw[nU.o];done)|(rw[nU.o];simp_all [aqS])) (by first|exact(Tz w).alloc _|exact((Tz w).alloc _).drewN _))
      have t1:decide ((nw:Int)<1)=false:=by simp;omega
      have t2:decide ((12:Int)<nw)=true:=by simp;omega
      have HF:=ai (show B=false by rw[fY.o];simp[hn2]);clear fY;go_enter Tryz.func177,Tryz.ntmps177
      go_wp2_with (go_at_call 118;refine(nO _ _ hs).mono ?_;rintro e w' ⟨rfl,rfl⟩)
      all_goals (go_ret;exact bW (by rw[HF.o]) ((Tz w).alloc _))
     have t1:decide ((nw:Int)<1)=true:=by simp;omega
     have HF:=ai (show B=false by rw[fY.o];simp[Cr]);clear fY;go_enter Tryz.func177,Tryz.ntmps177
     go_wp2_with (go_at_call 118;refine(nO _ _ hs).mono ?_;rintro e w' ⟨rfl,rfl⟩)
     all_goals (go_ret;exact bW (by rw[HF.o]) ((Tz w).alloc _))
   all_goals
    go_enter Tryz.func177,Tryz.ntmps177
    go_wp2_with (first
     | (go_at_call 118;refine(nO _ _ hs).mono ?_;rintro e w' ⟨rfl,rfl⟩)
     | (go_at_call 154;refine(U6 _ _).mono ?_;rintro e w' ⟨rfl,rfl⟩))
    all_goals (go_ret;exact bW (by rw[HB.o];simp_all [IQ,aqS,aC3];try omega) ((Tz w).alloc _))
  have H:=ai (show B=false by rw[HB.o];simp[IQ,h8]);have t1:decide (op<1)=false:=by simp;omega
  have t2:decide (8<op)=true:=by simp;omega
  have e3:(op==3)=false:=by simp;omega
  have e4:(op==4)=false:=by simp;omega
  have e5:(op==5)=false:=by simp;omega
  go_enter Tryz.func177,Tryz.ntmps177
  go_wp2_with fail
  go_ret;exact bW (by rw[H.o]) ((Tz w).alloc _)
 have H:=ai (show B=false by rw[HB.o];simp[IQ,h1]);have t1:decide (op<1)=true:=by simp;omega
 have e3:(op==3)=false:=by simp;omega
 have e4:(op==4)=false:=by simp;omega
 have e5:(op==5)=false:=by simp;omega
 go_enter Tryz.func177,Tryz.ntmps177
 go_wp2_with fail
 go_ret;exact bW (by rw[H.o]) ((Tz w).alloc _)
mutual
def AW:Ex->Bool
 | .mk op name words lo hi args=>vQ (.mk op name words lo hi args)&&uL args
def uL:List Ex->Bool
 | []=>true
 | e::r=>AW e&&uL r
end
theorem akp (e:Ex):AW e=(vQ e&&uL e.args):=by cases e;rw[AW];rfl
theorem PE (l:List Ex):uL l=true ↔ ∀j (h:j<l.length),AW l[j]=true:=by
 induction l with
 | nil=>simp[uL]
 | cons e r ih =>
  rw[uL,aF,ih];constructor
  ·rintro⟨h1,h2⟩ j hj;cases j with
   | zero=>exact h1
   | succ j=>exact h2 j (by simpa using hj)
  intro h;exact⟨h 0 (by simp),fun j hj=>h (j+1) (by simpa using hj)⟩
mutual
def Ex.iT:Ex->Prop
 | .mk _ _ words _ _ args=>words.length<=1000000000000000/\mR args
def mR:List Ex->Prop
 | []=>True
 | e::r=>e.iT/\mR r
end
theorem Fo:(l:List Ex)->mR l->(k:Nat)->(hk:k<l.length)->l[k].iT
 | [],_,k,hk=>by simp at hk
 | e::r,h,0,_=>by unfold mR at h;exact h.1
 | e::r,h,k+1,hk=>by unfold mR at h;simpa using Fo r h.2 k (by simpa using hk)
theorem rI {e:Ex} (h:e.iT):e.words.length<=1000000000000000/\mR e.args:=by
 cases e;unfold Ex.iT at h;exact h
theorem aqs (m:Nat):∀(e:Ex) (v:Value) (w:World),e.size<=m->m<=1000000000000000->e.fits->e.iT->dw w e v->Calls Tryz.prog 157 #[v] w (cz (.bool (AW e)) w):=by
 induction m with
 | zero=>intro e v w h;have:=size_pos e;omega
 | succ m ih =>
  intro e v w hm Re hf hw2 he;have HE:=ai he;obtain⟨aw,nw,cw,aa,na,ca,rfl,hw,hna,hca,ha,hx⟩:=he.parts;have HX:=ai hx;have HN:=ai hna;have HF:=ai (qM hf);have HW:=ai (rI hw2);have hS:e.size=1+sizes e.args:=e.size_eq;have hb2:sizes e.args<=m:=by omega
  have hla:=eR e.args;have H:aj (∀(e:Ex) (v:Value) (w:World),e.size<=m->e.fits->e.iT->dw w e v->Calls Tryz.prog 157 #[v] w (cz (.bool (AW e)) w)):=fun e v w h1 h2 h3 h4=>ih e v w h1 (by omega) h2 h3 h4
  have HQ:=ai (akp e);generalize AW e=B at *;clear ih hx hna hw hca ha he hS hm hf hw2;have HNC:=ai (apM e _ (w.alloc (.cells #[.int .i64 e.op,.string e.name,.slice aw nw cw,.int .i64 e.lo,.int .i64 e.hi,.slice aa na ca] 45)) (HE.o.ext ((Tz w).alloc _)) HF.o.1 HF.o.2.1 HW.o.1);unfold fN at *;cases ZX:vQ e
  ·have HND:=ai ZX;have H1:=ai (show B=false by rw[HQ.o,ZX];rfl);clear ZX;go_enter Tryz.func157,Tryz.ntmps157
   go_wp2_with fail
   refine HNC.o.mono ?_;rintro r w1 ⟨rfl,hx1⟩;rw[HND.o];have dI:=ai (((Tz w).alloc _).trans hx1);clear hx1;go_wp2_with fail
   go_ret;exact bW (by rw[H1.o]) dI.o
  have HND:=ai ZX;have Ro:=ai (show B=uL e.args by rw[HQ.o,ZX];rfl);clear ZX;go_enter Tryz.func157,Tryz.ntmps157
  go_wp2_with fail
  refine HNC.o.mono ?_;rintro r w1 ⟨rfl,hx1⟩;rw[HND.o];have ajB:=ai (hx1.blk (bR w _));have dI:=ai (((Tz w).alloc _).trans hx1);clear hx1;go_wp2_with fail
  go_loopw [3] (fun i wr=>∃k:Nat,k<=na/\i=.int .i64 k/\(∀j (hj:j<e.args.length),j<k->AW e.args[j]=true)/\wr.heap[w.heap.size]?=some (.cells #[.int .i64 e.op,.string e.name,.slice aw nw cw,.int .i64 e.lo,.int .i64 e.hi,.slice aa na ca] 45 (0,0))/\Ext w wr) (fun i _=>na - (intOf i).toNat)
  case atStart=>exact⟨0,by omega,rfl,fun j _ h=>by omega,ajB.o,dI.o⟩
  case round =>
   obtain⟨k,hk,rfl,hall,j6,hb⟩:=hrel;have HA:=ai hall;have jm:=ai j6;have HB:=ai hb;have lU:=bS j6;obtain⟨b0,b1,b2,b3,b4,b5,bf⟩:=cX j6;clear j6 hb hall;by_cases hlt:k<na
   ·have hlt':k<e.args.length:=by have:=HN.o;omega
    obtain⟨b,off,rfl,nJ,nD,nG,nK,nE,nI,h0,h1,h2,h3,h4,h5,h6⟩:=eU.at e.args _ (eU.ext HB.o e.args _ HX.o) k hlt';have H6:=ai h6;have hsz:=eD e.args k hlt';have hsl:=dX e.args (k+1);have uk:e.args[k].size<=m:=by omega
    clear h6 hsz hsl;go_wp2_with fail
    refine(H.o e.args[k] _ _ uk (Qk _ HF.o.2.2 k hlt') (Fo _ HW.o.2 k hlt') H6.o).mono ?_;rintro r w2 ⟨rfl,hb1⟩;have ue:=ai hb1;clear b0 b1 b2 b3 b4 b5 bf hb1;cases hdp:AW e.args[k]
    ·have H1:=ai (show B=false by
      rw[Ro.o];cases hz:uL e.args
      ·rfl
      have:=(PE _).1 hz k hlt';rw[hdp] at this;cases this)
     clear hdp;go_wp2_with fail
     go_ret;exact bW (by rw[H1.o]) (HB.o.trans ue.o)
    have aZd:=ai hdp;clear hdp;go_wp2_with fail
    go_roundw
    case rel =>
     refine⟨k+1,by omega,by go_num,fun j hj hjk=>?_,ue.o.blk jm.o,HB.o.trans ue.o⟩;by_cases ej:j=k
     ·subst ej;exact aZd.o
     exact HA.o j hj (by omega)
    case measure=>simp[intOf];omega
   have H1:=ai (show B=true by rw[Ro.o];exact(PE _).2 (fun j hj=>HA.o j hj (by have:=HN.o;omega)));go_wp2_with fail
   go_ret;exact bW (by rw[H1.o]) HB.o
def eW (e:Ex):Bool:=!decide (16<e.depth)&&decide (ep e<=300)&&AW e
theorem J5 (e:Ex) (v:Value) (w:World) (he:dw w e v) (hsz:e.vP) (hf:e.fits) (hw:e.iT):Calls Tryz.prog 120 #[v] w (cz (.bool (eW e)) w):=by
 have HE:=ai he;have HF:=ai hf;have HW:=ai hw;have HQ:=ai (show eW e=(!decide (16<e.depth)&&decide (ep e<=300)&&AW e) from rfl);generalize eW e=B at *;obtain⟨aw,nw,cw,aa,na,ca,rfl,-⟩:=he.parts;have tR:=ai hsz;clear he hf hw hsz;have HA:=ai (fun W (h:Ext (w.alloc (.cells #[.int .i64 e.op,.string e.name,.slice aw nw cw,.int .i64 e.lo,.int .i64 e.hi,.slice aa na ca] 45)) W)=>((Tz w).alloc _).trans h);have pX:=ai (bR w (.cells #[.int .i64 e.op,.string e.name,.slice aw nw cw,.int .i64 e.lo,.int .i64 e.hi,.slice aa na ca] 45));unfold fN at *;go_enter Tryz.func120,Tryz.ntmps120
 go_wp2_with fail
 refine(adf e.size e _ _ 16 (aU _) tR.o (by omega) (HE.o.ext ((Tz w).alloc _))).mono ?_;rintro r w1 ⟨rfl,hx1⟩;have dI:=ai (HA.o _ hx1);have hb1:=hx1.blk pX.o;have gG:=ai hb1;have hz1:=bS hb1;obtain⟨b0,b1,b2,b3,b4,b5,bf⟩:=cX hb1;clear hx1 hb1 HA;by_cases hd:16<e.depth
 ·rw[bO hd];have H1:=ai (show B=false by rw[HQ.o];simp[hd]);clear hd;go_wp2_with fail
  go_ret;exact bW (by rw[H1.o]) dI.o
 rw[bP hd];have HD:=ai hd;clear hd;go_wp2_with fail
 refine(wR e.size e _ _ (aU _) (HE.o.ext dI.o)).mono ?_;rintro r w2 ⟨rfl,hx2⟩;have dN:=ai (dI.o.trans hx2);have hb2:=hx2.blk gG.o;have hz2:=bS hb2;clear b0 b1 b2 b3 b4 b5 bf hx2;obtain⟨b0,b1,b2,b3,b4,b5,bf⟩:=cX hb2;clear hb2;by_cases hs:ep e<=300
 ·have t1:decide ((ep e:Int)<=300)=true:=by simp;omega
  have HS:=ai hs;have HZ:=ai (show e.size<=1000000000000000 by unfold ep at hs;omega);clear hs;go_wp2_with fail
  refine(aqs e.size e _ _ (aU _) HZ.o HF.o HW.o (HE.o.ext dN.o)).mono ?_;rintro r w3 ⟨rfl,hx3⟩;have dS:=ai (dN.o.trans hx3);clear b0 b1 b2 b3 b4 b5 bf hx3;go_wp2_with fail
  go_ret;exact bW (by rw[HQ.o];simp[HD.o,HS.o]) dS.o
 have t1:decide ((ep e:Int)<=300)=false:=by simp;omega
 have H1:=ai (show B=false by rw[HQ.o];simp[hs]);clear hs;go_wp2_with fail
 go_ret;exact bW (by rw[H1.o]) dN.o
open Go.RowKit Go.Maps
mutual
def fX:Ex->ZB
 | .mk op name _ _ _ args=>(if op=3 then [name] else [])++iH args
def iH:List Ex->ZB
 | []=>[]
 | e::r=>fX e++iH r
end
theorem akr (e:Ex):fX e=(if e.op=3 then [e.name] else [])++iH e.args:=by cases e;rw[fX];rfl
theorem aqt (l:List Ex) (e:Ex):iH (l++[e])=iH l++fX e:=by
 induction l with
 | nil=>simp[iH]
 | cons a r ih=>simp[iH,ih]
theorem acS (l:List Ex) (k:Nat) (h:k<l.length):iH (l.take (k+1))=iH (l.take k)++fX l[k]:=by
 rw[aO h,aqt]
def alC (D:DataW Unit) (l:ZB):Prop:=∃es,D=.map es/\(∀p∈es,∃s,p.1=.string s)/\(strKeys D).Nodup/\∀s,s∈strKeys D ↔ ∃x∈l,x.data.toList=s
theorem ax5:alC (.map []) []:=⟨[],rfl,by simp,by simp[strKeys],by simp[strKeys]⟩
theorem insert_perm {H:Type} (x:Lit×DataW H):(l:List (Lit×DataW H))->(DataW.insert x l).Perm (x::l)
 | []=>List.Perm.refl _
 | y::r=>by
  rw[DataW.insert];split
  ·exact List.Perm.refl _
  exact((insert_perm x r).cons y).trans (List.Perm.swap x y r)
theorem alC.put {D:DataW Unit} {l:ZB} (h:alC D l) (x:BA) (d:DataW Unit):alC (D.put (.string x.data.toList) d) (l++[x]):=by
 obtain⟨es,rfl,hs,hn,hm⟩:=h;have hp:=insert_perm ((.string x.data.toList,d):Lit×DataW Unit) (es.filter fun p=>!p.1.sameKey (.string x.data.toList));have hk:(strKeys (DataW.put (.map es) (.string x.data.toList) d)).Perm (x.data.toList::strKeys (H:=Unit) (.map (es.filter fun p=>!p.1.sameKey (.string x.data.toList)))):=by
  simp only[DataW.put,strKeys];exact hp.map _
 have hf:∀s,s∈strKeys (H:=Unit) (.map (es.filter fun p=>!p.1.sameKey (.string x.data.toList))) ↔ s∈strKeys (H:=Unit) (.map es)/\s≠x.data.toList:=by
  intro s;simp only[strKeys,List.mem_map,List.mem_filter];constructor
  ·rintro⟨p,⟨h1,h2⟩,rfl⟩;obtain⟨t,ht⟩:=hs p h1;refine⟨⟨p,h1,rfl⟩,fun e=>?_⟩;rw[ht] at h2 e;simp only[strOf] at e;subst e;simp[Lit.sameKey] at h2
  rintro⟨⟨p,h1,rfl⟩,h2⟩;obtain⟨t,ht⟩:=hs p h1;refine⟨p,⟨h1,?_⟩,rfl⟩;rw[ht] at h2 ⊢;simp only[strOf] at h2;simpa[Lit.sameKey] using h2
 refine⟨_,rfl,fun p hp'=>?_,?_,fun s=>?_⟩
 ·have:=hp.mem_iff.1 hp';rcases bz.1 this with rfl|h1
  ·exact⟨_,rfl⟩
  exact hs p (List.mem_filter.1 h1).1
 ·rw[hk.nodup_iff,List.nodup_cons];refine⟨fun h=>((hf _).1 h).2 rfl,?_⟩;have:(strKeys (H:=Unit) (.map (es.filter fun p=>!p.1.sameKey (.string x.data.toList)))).Sublist (strKeys (H:=Unit) (.map es)):=by
   simp only[strKeys];exact(List.filter_sublist).map _
  exact hn.sublist this
 rw[hk.mem_iff,bz,hf,hm];constructor
 ·rintro(rfl|⟨⟨y,h1,h2⟩,_⟩)
  ·exact⟨x,by simp,rfl⟩
  exact⟨y,by simp[h1],h2⟩
 rintro⟨y,h1,rfl⟩;rcases aN.1 h1 with h1|h1
 ·by_cases e:y.data.toList=x.data.toList
  ·exact aoX e
  exact a4Z ⟨⟨y,h1,rfl⟩,e⟩
 rw[aG.1 h1];exact aoX rfl
def x9 (s:BA):ZB->ZB
 | []=>[s]
 | x::r=>if s.toList<x.toList then s::x::r else if s.toList=x.toList then x::r else x::x9 s r
def jB (l:ZB):ZB:=l.foldl (fun l s=>x9 s l) []
def Up (l:ZB):Prop:=l.Pairwise (fun a b=>a.toList<b.toList)
theorem aPQ {a b:List UInt8} (h1:¬a<b) (h2:a≠b):b<a:=by
 by_cases h:b<a
 ·exact h
 exact a40 (List.le_antisymm (List.not_lt.1 h) (List.not_lt.1 h1)) h2
theorem afF (s y:BA):(l:ZB)->(y∈x9 s l ↔ y=s\/y∈l)
 | []=>by simp[x9]
 | x::r=>by
  rw[x9];split
  ·simp
  split
  ·rename_i h1 h2
   have:=toList_inj h2;subst this;simp
  simp only[bz,afF s y r];constructor
  ·rintro(h|h|h)
   ·exact a4Z (aoX h)
   ·exact aoX h
   exact a4Z (a4Z h)
  rintro(h|h|h)
  ·exact a4Z (aoX h)
  ·exact aoX h
  exact a4Z (a4Z h)
theorem awC (s:BA):(l:ZB)->Up l->Up (x9 s l)
 | [],_=>by simp[x9,Up]
 | x::r,h=>by
  obtain⟨h1,h2⟩:=List.pairwise_cons.1 h;rw[x9];split
  ·rename_i hlt
   refine List.pairwise_cons.2 ⟨fun y hy=>?_,h⟩;rcases bz.1 hy with rfl|hy
   ·exact hlt
   exact List.lt_trans hlt (h1 y hy)
  split
  ·exact h
  rename_i n1 n2
  refine List.pairwise_cons.2 ⟨fun y hy=>?_,awC s r h2⟩;rcases(afF s y r).1 hy with rfl|hy
  ·exact aPQ n1 n2
  exact h1 y hy
theorem aH7 (m:ZB):∀l,Up l->Up (m.foldl (fun l s=>x9 s l) l):=by
 induction m with
 | nil=>intro l h;exact h
 | cons a r ih=>intro l h;exact ih _ (awC a l h)
theorem aDV (m:ZB):∀l y,y∈m.foldl (fun l s=>x9 s l) l ↔ y∈m\/y∈l:=by
 induction m with
 | nil=>intro l y;simp
 | cons a r ih =>
  intro l y;rw[aX,ih,afF,bz];constructor
  ·rintro(h|h|h)
   ·exact aoX (a4Z h)
   ·exact aoX (aoX h)
   exact a4Z h
  rintro((h|h)|h)
  ·exact a4Z (aoX h)
  ·exact aoX h
  exact a4Z (a4Z h)
theorem acD (l:ZB):Up (jB l):=aH7 l [] (by simp[Up])
theorem sx (l:ZB) (y:BA):y∈jB l ↔ y∈l:=by rw[jB,aDV];simp
theorem Zp (s:BA):(l:ZB)->(x9 s l).length<=l.length+1
 | []=>by simp[x9]
 | x::r=>by
  have:=Zp s r;rw[x9];split
  ·simp
  split<;>simp<;>omega
theorem aai (m:ZB):∀l:ZB,(m.foldl (fun l s=>x9 s l) l).length<=m.length+l.length:=by
 induction m with
 | nil=>intro l;simp
 | cons a r ih=>intro l;have:=ih (x9 a l);have:=Zp a l;simp only[aX,List.length_cons];omega
theorem auD {D:DataW Unit} {l:ZB} {ss:List (List UInt8)} (h:alC D l) (hp:ss.Perm (strKeys D)):(ss.mergeSort (fun x y=>decide (x<=y)))=(jB l).map (·.data.toList):=by
 obtain⟨es,rfl,hs,hn,hm⟩:=h;have tr:∀a b c:List UInt8,decide (a<=b)=true->decide (b<=c)=true->decide (a<=c)=true:=fun a b c h1 h2=>by simp only[aH] at *;exact List.le_trans h1 h2
 have tto:∀a b:List UInt8,(decide (a<=b)||decide (b<=a))=true:=fun a b=>by simp only[bG,aH];exact List.le_total a b
 have hu:=acD l;have eL:∀x:BA,x.toList=x.data.toList:=fun x=>ByteArray.toList_eq x
 have hup:((jB l).map (·.data.toList)).Pairwise (fun a b=>a<b):=by
  refine List.pairwise_map.2 (hu.imp fun {a b} h=>?_)
  rwa [eL,eL] at h
 have hnd:((jB l).map (·.data.toList)).Nodup:=hup.imp fun {a b} h e=>by subst e;exact List.lt_irrefl _ h
 have hperm:((jB l).map (·.data.toList)).Perm (strKeys (H:=Unit) (.map es)):=by
  refine(List.perm_ext_iff_of_nodup hnd hn).2 fun s=>?_
  rw[hm,List.mem_map];constructor
  ·rintro⟨x,hx,rfl⟩;exact⟨x,(sx l x).1 hx,rfl⟩
  rintro⟨x,hx,rfl⟩;exact⟨x,(sx l x).2 hx,rfl⟩
 refine List.Perm.eq_of_pairwise (le:=fun a b=>decide (a<=b)=true) (fun a b _ _ h1 h2=>?_) (List.pairwise_mergeSort tr tto ss) (hup.imp fun {a b} h=>?_) (((List.mergeSort_perm ss _).trans hp).trans hperm.symm)
 ·simp only[aH] at h1 h2;exact List.le_antisymm h1 h2
 simp only[aH];exact List.le_of_lt h
structure uW where
 is:Bool
 name:BA
 uses:ZB
def gA (l:List uW) (s:BA):Option Nat:=l.findIdx? fun d=>d.is&&decide (d.name=s)
def iD (l:List uW) (i:Nat):Bool:=match l[i]? with|some d=>d.is|none=>false
def jy (l:List uW) (i:Nat):ZB:=match l[i]? with|some d=>d.uses|none=>[]
def nameAt (l:List uW) (i:Nat):BA:=match l[i]? with|some d=>d.name|none=>⟨#[]⟩
def mY (l:List uW) (o:ZN) (i:Nat):ZB:=(jy l i).filter fun s=>match gA l s with|some d=>decide (d∉o)|none=>false
def Uy (l:List uW) (s:BA):ZN:=(List.range l.length).filter fun i=>iD l i&&(jy l i).any fun t=>decide (t=s)
def lY (l:List uW):Nat:=((List.range l.length).filter (iD l)).length
def After (l:List uW) (o:ZN):Prop:=∀p i,o[p]?=some i->∀s∈jy l i,∀d,gA l s=some d->d∈o.take p
structure Yi (l:List uW) (o:ZN):Prop where
 nodup:o.Nodup
 all:∀i,i∈o ↔ iD l i=true
 after:After l o
structure Lo (l:List uW) (o R:ZN):Prop where
 nodup:(o++R).Nodup
 ready:∀i,i∈o++R ↔ (iD l i=true/\mY l o i=[])
 after:After l o
theorem yh {l:List uW} {o:ZN} {i:Nat} {s:BA}:s∈mY l o i ↔ s∈jy l i/\∃d,gA l s=some d/\d∉o:=by
 unfold mY;rw[List.mem_filter];refine and_congr_right fun _=>?_
 cases h:gA l s<;>simp
theorem yg {l:List uW} {o:ZN} {i:Nat}:mY l o i=[] ↔ ∀s∈jy l i,∀d,gA l s=some d->d∈o:=by
 rw[List.eq_nil_iff_forall_not_mem];constructor
 ·intro h s hs d hd;by_cases hm:d∈o
  ·exact hm
  exact a40 (yh.2 ⟨hs,d,hd,hm⟩) (h s)
 intro h s hs;obtain⟨h1,d,h2,h3⟩:=yh.1 hs;exact h3 (h s h1 d h2)
theorem mz {l:List uW} {i:Nat} (h:iD l i=true):i<l.length:=by
 unfold iD at h;rcases bJ i l.length with h'|h'
 ·exact h'
 rw[List.getElem?_eq_none h'] at h;cases h
theorem abQ {l:List uW} {s:BA} {d:Nat} (h:gA l s=some d):iD l d=true/\nameAt l d=s:=by
 unfold gA at h;rw[aJ] at h;obtain⟨hd,h1,_⟩:=h;simp only[aF,aH] at h1;unfold iD nameAt;rw[aT hd];exact h1
theorem Lo.start (l:List uW):Lo l [] ((List.range l.length).filter fun i=>iD l i&&(mY l [] i).isEmpty) where
 nodup:=List.nodup_range.filter _
 ready i:=by
  simp only[List.nil_append,List.mem_filter,a43,aF,List.isEmpty_iff];exact⟨fun h=>h.2,fun h=>⟨mz h.1,h⟩⟩
 after p i h:=by simp at h
theorem After.snoc {l:List uW} {o:ZN} {i:Nat} (h:After l o) (hm:mY l o i=[]):After l (o++[i]):=by
 intro p j hj s hs d hd;rcases Nat.lt_trichotomy p o.length with hp|hp|hp
 ·rw[List.getElem?_append_left hp] at hj;rw[List.take_append_of_le_length (by omega)];exact h p j hj s hs d hd
 ·subst hp;simp at hj;subst hj;rw[List.take_left']
  ·exact yg.1 hm s hs d hd
  rfl
 rw[List.getElem?_eq_none (by simp;omega)] at hj;cases hj
theorem Lo.other {l:List uW} {o R R':ZN} {i:Nat} (h:Lo l o R) (hR:R.Perm (i::R')) (hn:∀s,gA l s≠some i):Lo l (o++[i]) R' where
 nodup:=by
  have h1:=(List.Perm.append_left o hR).nodup_iff.1 h.nodup;simpa using h1
 ready j:=by
  have hm:mY l (o++[i]) j=[] ↔ mY l o j=[]:=by
   rw[yg,yg];constructor
   ·intro h1 s hs d hd;have:=h1 s hs d hd;simp only[aN,aG] at this;rcases this with h2|rfl
    ·exact h2
    exact a40 hd (hn s)
   intro h1 s hs d hd;simp[h1 s hs d hd]
  rw[hm,<-h.ready j];have:=(List.Perm.append_left o hR).mem_iff (a:=j);rw[this];simp
 after:=by
  have hi:i∈o++R:=by
   rw[(List.Perm.append_left o hR).mem_iff];simp
  exact h.after.snoc ((h.ready i).1 hi).2
def akY (l:List uW) (o:ZN) (i:Nat):ZN:=(Uy l (nameAt l i)).filter fun u=>(mY l (o++[i]) u).isEmpty
theorem Lo.first {l:List uW} {o R R':ZN} {i:Nat} (h:Lo l o R) (hR:R.Perm (i::R')) (hf:gA l (nameAt l i)=some i):Lo l (o++[i]) (R'++akY l o i):=by
 have hi:i∈o++R:=by
  rw[(List.Perm.append_left o hR).mem_iff];simp
 have hnd:=(List.Perm.append_left o hR).nodup_iff.1 h.nodup;have hio:i∉o:=fun hio=>by
  have:=List.nodup_append.1 hnd;exact this.2.2 i hio i (by simp) rfl
 have hfm:∀u,u∈akY l o i ↔ (iD l u=true/\nameAt l i∈jy l u/\mY l (o++[i]) u=[]):=by
  intro u;unfold akY Uy;simp only[List.mem_filter,a43,aF,List.any_eq_true,aH,List.isEmpty_iff,exists_eq_right];exact⟨fun ⟨⟨_,h1,h2⟩,h3⟩=>⟨h1,h2,h3⟩,fun ⟨h1,h2,h3⟩=>⟨⟨mz h1,h1,h2⟩,h3⟩⟩
 have hnot:∀u∈akY l o i,u∉o++R:=by
  intro u hu hm;have h1:=(hfm u).1 hu;have h2:=yg.1 ((h.ready u).1 hm).2 _ h1.2.1 _ hf;exact hio h2
 refine⟨?_,?_,h.after.snoc ((h.ready i).1 hi).2⟩
 ·have h1:(o++[i]++R').Nodup:=by simpa using hnd
  rw[<-List.append_assoc];refine List.nodup_append.2 ⟨h1,?_,?_⟩
  ·unfold akY Uy;exact(List.nodup_range.filter _).filter _
  rintro a ha b hb rfl;refine hnot a hb ?_;rw[(List.Perm.append_left o hR).mem_iff];simpa using ha
 intro j;have hmem:j∈o++R ↔ j∈o++[i]++R':=by
  rw[(List.Perm.append_left o hR).mem_iff];simp
 rw[<-List.append_assoc,aN,<-hmem,hfm,h.ready j];constructor
 ·rintro(⟨h1,h2⟩|⟨h1,_,h3⟩)
  ·exact⟨h1,yg.2 fun s hs d hd=>by simp[yg.1 h2 s hs d hd]⟩
  exact⟨h1,h3⟩
 rintro⟨h1,h2⟩;by_cases hu:nameAt l i∈jy l j
 ·exact a4Z ⟨h1,hu,h2⟩
 refine aoX ⟨h1,yg.2 fun s hs d hd=>?_⟩;have h3:=yg.1 h2 s hs d hd;simp only[aN,aG] at h3;rcases h3 with h3|rfl
 ·exact h3
 exact a40 hs ((abQ hd).2 ▸ hu)
theorem vS:(a b:ZN)->a.Nodup->(∀x∈a,x∈b)->a.length<=b.length
 | [],b,_,_=>by simp
 | x::a,b,h,hs=>by
  rw[List.nodup_cons] at h;have hx:x∈b:=hs x (by simp);have h1:=vS a (b.erase x) h.2 fun y hy=>by
   have hne:y≠x:=fun e=>h.1 (e ▸ hy)
   exact(List.mem_erase_of_ne hne).2 (hs y (by simp[hy]))
  rw[List.length_erase_of_mem hx] at h1;have:=List.length_pos_of_mem hx;simp only[List.length_cons];omega
theorem auz {a b:ZN} (h:a.Nodup) (hs:∀x∈a,x∈b) (hl:b.length<=a.length):∀x∈b,x∈a:=by
 intro x hx;by_cases hm:x∈a
 ·exact hm
 have h1:=vS (x::a) b (List.nodup_cons.2 ⟨hm,h⟩) (by simpa using ⟨hx,hs⟩);simp only[List.length_cons] at h1;omega
theorem Dv {l:List uW} {i:Nat}:i∈(List.range l.length).filter (iD l) ↔ iD l i=true:=by
 simp only[List.mem_filter,a43];exact⟨fun h=>h.2,fun h=>⟨mz h,h⟩⟩
theorem Lo.le {l:List uW} {o R:ZN} (h:Lo l o R):(o++R).length<=lY l :=
 vS _ _ h.nodup fun i hi=>Dv.2 ((h.ready i).1 hi).1
theorem Lo.done {l:List uW} {o:ZN} (h:Lo l o []) (hc:lY l<=o.length):Yi l o where
 nodup:=by simpa using h.nodup
 all i:=by
  have h1:o.Nodup:=by simpa using h.nodup
  have h2:∀x∈o,x∈(List.range l.length).filter (iD l):=fun x hx=>Dv.2 ((h.ready x).1 (by simpa using hx)).1
  have h3:=auz h1 h2 hc;exact⟨fun hi=>Dv.1 (h2 i hi),fun hi=>h3 i (Dv.2 hi)⟩
 after:=h.after
theorem Lo.none {l:List uW} {o:ZN} (h:Lo l o []) (hc:o.length<lY l):¬∃q,Yi l q:=by
 rintro⟨q,hq⟩;have key:∀(p i:Nat),q[p]?=some i->i∈o:=by
  intro p;induction p using Nat.strongRecOn with
  | ind p ih =>
   intro i hi;have h1:iD l i=true:=(hq.all i).1 (List.mem_of_getElem? hi);have h2:mY l o i=[]:=yg.2 fun s hs d hd=>by
    obtain⟨k,hk⟩:=List.mem_iff_getElem?.1 (hq.after p i hi s hs d hd);have hkp:k<p:=by
     rcases bJ k p with h'|h'
     ·exact h'
     rw[List.getElem?_eq_none (by simp;omega)] at hk;cases hk
    rw[List.getElem?_take,bM hkp] at hk;exact ih k hkp d hk
   have:=(h.ready i).2 ⟨h1,h2⟩;simpa using this
 have h3:=vS _ o (List.nodup_range.filter (iD l)) fun i hi=>by
  have:=(hq.all i).2 (Dv.1 hi);obtain⟨p,hp⟩:=List.mem_iff_getElem?.1 this;exact key p i hp
 unfold lY at hc;exact a40 h3 (by omega)
def kZ (f:Nat->Int):Nat->Nat×Int
 | 0=>(0,0)
 | n+1=>if (kZ f n).2≠0 then kZ f n else if f n≠0 then (n,f n) else (0,0)
theorem kz {f:Nat->Int}:(n:Nat)->(∀j,j<n->f j=0)->kZ f n=(0,0)
 | 0,_=>rfl
 | n+1,h=>by rw[kZ,kz n fun j hj=>h j (by omega),h n (by omega)];simp
theorem rQ {f:Nat->Int} {k:Nat} (hk:f k≠0) (h0:∀j,j<k->f j=0):(n:Nat)->k<n->kZ f n=(k,f k)
 | 0,h=>by omega
 | n+1,h=>by
  by_cases e:k=n
  ·subst e;rw[kZ,kz k h0];simp[hk]
  rw[kZ,rQ hk h0 n (by omega)];simp[hk]
def eO (s:List Attr) (x:BA):Option Nat:=s.findIdx? fun a=>decide (a.name=x)
def avl (n:Int):Bool:=!iM n
def iq (a:Attr):Int :=
 if a.kind=1 then (if a.lo≠0\/a.hi≠0 then 20 else if a.words.length=0 then 19 else if 12<a.words.length then 4 else if a.words.all gJ=false then 6 else if decide a.words.Nodup=false then 8 else 0)
 else if a.kind=2 then (if 0<a.words.length then 20 else if a.hi<a.lo\/avl a.lo=true\/avl a.hi=true then 1 else 0)
 else if a.kind=3 then (if 0<a.words.length\/a.lo≠0\/a.hi≠0 then 20 else 0) else 11
def rL:Attr:=⟨⟨#[]⟩,0,[],0,0⟩
def rY (s:List Attr) (i:Nat):Int :=
 if gJ (s.getD i rL).name=false then 6 else if (s.take i).any (fun b=>decide (b.name=(s.getD i rL).name))=true then 8 else iq (s.getD i rL)
def dy (s:List Attr):Int:=if s.length=0 then 19 else if 6<s.length then 4 else (kZ (rY s) s.length).2
def dz (l:List cK) (x:BA):Option Nat:=l.findIdx? fun c=>(c.kind==1)&&decide (c.name=x)
def fB (s:List Attr) (l:List cK) (op:Int) (name:BA) (words:ZB) (lo hi:Int):Int :=
 if op=3 then (match eO s name with|none=>if (dz l name).isSome then 0 else 7|some i=>if (s.getD i rL).kind≠3 then 9 else 0)
 else if op=4 then (match eO s name with|none=>7|some i=>if (s.getD i rL).kind≠1 then 9 else if words.all (fun x=>(s.getD i rL).words.any fun y=>decide (y=x))=false then 7 else 0)
 else if op=5 then (match eO s name with|none=>7|some i=>if (s.getD i rL).kind≠2 then 9 else if lo<(s.getD i rL).lo\/(s.getD i rL).hi<hi then 1 else 0)
 else 0
mutual
def dr (s:List Attr) (l:List cK):Ex->Int
 | .mk op name words lo hi args=>if fB s l op name words lo hi≠0 then fB s l op name words lo hi else dZ s l args
def dZ (s:List Attr) (l:List cK):List Ex->Int
 | []=>0
 | e::r=>if dr s l e≠0 then dr s l e else dZ s l r
end
theorem zL (s:List Attr) (l:List cK) (e:Ex):dr s l e=if fB s l e.op e.name e.words e.lo e.hi≠0 then fB s l e.op e.name e.words e.lo e.hi else dZ s l e.args:=by cases e;rw[dr];rfl
theorem tK {s:List Attr} {l:List cK}:(r:List Ex)->(∀j (h:j<r.length),dr s l r[j]=0)->dZ s l r=0
 | [],_=>by rw[dZ]
 | e::r,h=>by
  have h0:=h 0 (by simp);simp only[bB] at h0;rw[dZ,h0];simp only[ne_eq,not_true_eq_false,if_false];exact tK r fun j hj=>by have:=h (j+1) (by simpa using hj);simpa using this
theorem FZ {s:List Attr} {l:List cK}:(r:List Ex)->(k:Nat)->(hk:k<r.length)->dr s l r[k]≠0->(∀j (h:j<k),dr s l (r[j]'(by omega))=0)->dZ s l r=dr s l r[k]
 | [],k,hk,_,_=>by simp at hk
 | e::r,0,_,h,_=>by simp only[bB] at h ⊢;rw[dZ,bM h]
 | e::r,k+1,hk,h,h0=>by
  have h1:=h0 0 (by omega);simp only[bB] at h1;rw[dZ,h1];simp only[ne_eq,not_true_eq_false,if_false,List.getElem_cons_succ] at h ⊢;exact FZ r k (by simpa using hk) h fun j hj=>by have:=h0 (j+1) (by omega);simpa using this
mutual
def wM (D:BA->Option Nat):Ex->Nat
 | .mk op name _ _ _ args=>min ((if op=3 then (D name).getD 1 else 1)+mI D args) 2001
def mI (D:BA->Option Nat):List Ex->Nat
 | []=>0
 | e::r=>wM D e+mI D r
end
theorem Mi (D:BA->Option Nat) (e:Ex):wM D e=min ((if e.op=3 then (D e.name).getD 1 else 1)+mI D e.args) 2001:=by cases e;rw[wM];rfl
theorem KE (D:BA->Option Nat):(l:List Ex)->(k:Nat)->(hk:k<l.length)->mI D (l.take (k+1))=mI D (l.take k)+wM D l[k]
 | [],k,hk=>by simp at hk
 | e::r,0,_=>by simp[mI]
 | e::r,k+1,hk=>by
  have:=KE D r k (by simpa using hk);simp[mI] at this ⊢;omega
theorem aam (D:BA->Option Nat):(l:List Ex)->(k:Nat)->mI D (l.take k)<=mI D l
 | [],k=>by simp[mI]
 | e::r,0=>by simp[mI]
 | e::r,k+1=>by
  have:=aam D r k;simp[mI];omega
theorem aea (D:BA->Option Nat) (e:Ex):wM D e<=2001:=by rw[Mi];omega
def fC:cK:=⟨0,⟨#[]⟩,.mk 0 ⟨#[]⟩ [] 0 0 [],[],0⟩
def jT (l:List cK):Nat->Ex->Nat
 | 0,_=>2001
 | f+1,e=>wM (fun s=>(dz l s).map fun d=>jT l f (l.getD d fC).cond) e
def dV (l:List cK) (e:Ex):Nat:=jT l (l.length+1) e
theorem aan (l:List cK) (f:Nat) (e:Ex):jT l f e<=2001:=by cases f with|zero=>simp[jT]|succ f=>rw[jT];exact aea _ e
def iK:List Wb->Nat
 | []=>0
 | .mk _ _ u::r=>1+min (iK u) 41+iK r
def mh:Nat->List Wb->Bool
 | _,[]=>true
 | d,.mk n c u::r=>decide (d≠0)&&gJ n&&eW c&&mh (d - 1) u&&mh d r
def ku (kind:Int):Int:=if kind=5\/kind=6\/kind=7\/kind=10 then 1073741824 else if kind=8 then 1000000 else 0
def gQ (c:cK):Bool:=decide (1<=c.kind)&&decide (c.kind<=10)&&gJ c.name&&eW c.cond&&(decide (c.gH.length=0)||((c.kind==3)&&decide (iK c.gH<=40)&&mh 16 c.gH)) &&
 ((decide (ku c.kind=0)&&(c.ck==0))||(decide (0<ku c.kind)&&decide (1<=c.ck)&&decide (c.ck<=ku c.kind)))
def fG (s:List Attr) (l:List cK):List Wb->Int
 | []=>0
 | .mk _ c u::r=>if dr s l c≠0 then dr s l c else if fG s l u≠0 then fG s l u else fG s l r
def eH (l:List cK):List Wb->Bool
 | []=>false
 | .mk _ c u::r=>decide (2000<dV l c)||eH l u||eH l r
def findAt (l:List cK) (x:BA):Option Nat:=l.findIdx? fun c=>decide (c.name=x)
def jE (s:List Attr) (l:List cK) (i:Nat):Int :=
 if gQ (l.getD i fC)=false then 5 else if (findAt l (l.getD i fC).name).getD 0<i then 8 else if (eO s (l.getD i fC).name).isSome then 8 else
 if dr s l (l.getD i fC).cond≠0 then dr s l (l.getD i fC).cond else fG s l (l.getD i fC).gH
def jQ (l:List cK) (i:Nat):Int:=if 2000<dV l (l.getD i fC).cond\/eH l (l.getD i fC).gH=true then 4 else 0
def cK.tV (c:cK):uW:=⟨c.kind==1,c.name,jB (fX c.cond)⟩
def vZ (l:List uW):Prop:=∃o,Yi l o
open Classical in
noncomputable def cV (s:List Attr) (l:List cK):Nat×Int :=
 if dy s≠0 then (0,dy s) else if 100<l.length then (0,4) else if (kZ (jE s l) l.length).2≠0 then kZ (jE s l) l.length else
 if ¬vZ (l.map cK.tV) then (0,10) else kZ (jQ l) l.length
mutual
def qT:Ex->Bool
 | .mk op _ _ _ _ args=>(op != 3||args.isEmpty)&&Eb args
def Eb:List Ex->Bool
 | []=>true
 | e::r=>qT e&&Eb r
end
mutual
def szE (D:BA->Option Nat):Ex->Nat
 | .mk op name _ _ _ args=>match (if op=3 then D name else none) with|some n=>n|none=>szL D 1 args
def szL (D:BA->Option Nat):Nat->List Ex->Nat
 | n,[]=>n
 | n,e::r=>szL D (min (n+szE D e) 2001) r
end
theorem aGQ (D:BA->Option Nat) (e:Ex):szE D e=match (if e.op=3 then D e.name else none) with|some n=>n|none=>szL D 1 e.args:=by cases e;rw[szE];rfl
theorem ao9 (D:BA->Option Nat):(l:List Ex)->(n:Nat)->(e:Ex)->szL D n (l++[e])=min (szL D n l+szE D e) 2001
 | [],n,e=>by simp[szL]
 | x::r,n,e=>by simp[szL,ao9 D r]
theorem aip (D:BA->Option Nat) (l:List Ex) (n k:Nat) (h:k<l.length):szL D n (l.take (k+1))=min (szL D n (l.take k)+szE D l[k]) 2001:=by
 rw[aO h,ao9]
mutual
theorem ad1 {D:BA->Option Nat} (hD:∀s n,D s=some n->n<=2001):(e:Ex)->qT e=true->szE D e=wM D e
 | .mk op name words lo hi args,h=>by
  rw[qT,aF] at h;rw[szE,wM];have hl:=awv hD args h.2;by_cases h3:op=3
  ·have ha:args=[]:=by
    have:=h.1;rw[h3] at this;simpa using this
   subst ha;simp only[bM h3];cases hd:D name with
   | none=>simp[szL,mI]
   | some n=>have:=hD name n hd;simp[mI];omega
  simp only[bL h3];exact hl 1 (by omega)
theorem awv {D:BA->Option Nat} (hD:∀s n,D s=some n->n<=2001):(l:List Ex)->Eb l=true->∀n,n<=2001->szL D n l=min (n+mI D l) 2001
 | [],_,n,hn=>by simp[szL,mI];omega
 | e::r,h,n,hn=>by
  rw[Eb,aF] at h;rw[szL,mI,awv hD r h.2 _ (by omega),ad1 hD e h.1];omega
end
mutual
theorem tN {D D':BA->Option Nat}:(e:Ex)->(∀s∈fX e,D s=D' s)->wM D e=wM D' e
 | .mk op name words lo hi args,h=>by
  rw[wM,wM];rw[fX] at h;rw[ag2 args fun s hs=>h s (aL _ hs)];by_cases h3:op=3
  ·rw[bM h3,bM h3,h name (aK _ (by simp[h3]))]
  rw[bL h3,bL h3]
theorem ag2 {D D':BA->Option Nat}:(l:List Ex)->(∀s∈iH l,D s=D' s)->mI D l=mI D' l
 | [],_=>by rw[mI,mI]
 | e::r,h=>by
  rw[iH] at h;rw[mI,mI,tN e fun s hs=>h s (aK _ hs),ag2 r fun s hs=>h s (aL _ hs)]
end
theorem findIdx_map {α β:Type} (f:α->β) (p:β->Bool) (l:List α):(l.map f).findIdx? p=l.findIdx? (fun x=>p (f x)):=by
 rw[List.findIdx?_map];rfl
theorem rA (l:List cK) (s:BA):gA (l.map cK.tV) s=dz l s:=by
 unfold gA dz;rw[findIdx_map]
 rfl
theorem fJ {l:List cK} {i:Nat} (h:i<l.length):l.getD i fC=l[i]:=by simp[h]
theorem sY {l:List cK} {i:Nat} (h:i<l.length):iD (l.map cK.tV) i=(l[i].kind==1):=by
 unfold iD;simp[h,cK.tV]
theorem xm {l:List cK} {i:Nat} (h:i<l.length):jy (l.map cK.tV) i=jB (fX l[i].cond):=by
 unfold jy;simp[h,cK.tV]
theorem ot {l:List cK} {s:BA} {d:Nat} (h:dz l s=some d):d<l.length:=by
 unfold dz at h;rw[aJ] at h;exact h.1
theorem tP {l:List cK} {s:BA} {d:Nat} (h:dz l s=some d):(l.getD d fC).name=s/\(l.getD d fC).kind=1:=by
 have hd:=ot h;unfold dz at h;rw[aJ] at h;obtain⟨_,h1,_⟩:=h;simp only[aF,a47,aH] at h1;rw[fJ hd];exact⟨h1.2,h1.1⟩
theorem Yi.lt {l:List uW} {o:ZN} (h:Yi l o) {i:Nat} (hi:i∈o):i<l.length:=mz ((h.all i).1 hi)
theorem Yi.len {l:List uW} {o:ZN} (h:Yi l o):o.length<=l.length:=by
 have:=vS o (List.range l.length) h.nodup fun x hx=>a43.2 (h.lt hx)
 simpa using this
theorem Mh {l:List cK} {o:ZN} (h:Yi (l.map cK.tV) o):∀(q d:Nat),o[q]?=some d->∀f g,q<f->q<g->jT l f (l.getD d fC).cond=jT l g (l.getD d fC).cond:=by
 intro q;induction q using Nat.strongRecOn with
 | ind q ih =>
  intro d hd f g hf hg;obtain⟨f,rfl⟩:∃k,f=k+1:=⟨f - 1,by omega⟩
  obtain⟨g,rfl⟩:∃k,g=k+1:=⟨g - 1,by omega⟩
  rw[jT,jT];refine tN _ fun s hs=>?_
  have hdl:d<l.length:=by simpa using h.lt (List.mem_of_getElem? hd)
  cases hda:dz l s with
  | none=>rfl
  | some d' =>
   have h1:=h.after q d hd s (by rw[xm hdl,sx];rwa [fJ hdl] at hs) d' (by rw[rA];exact hda);obtain⟨q',jA⟩:=List.mem_iff_getElem?.1 h1;have hlt:q'<q:=by
    rcases bJ q' q with h'|h'
    ·exact h'
    rw[List.getElem?_eq_none (by simp;omega)] at jA;cases jA
   rw[List.getElem?_take,bM hlt] at jA;simp only[Option.map_some,a42];exact ih q' hlt d' jA f g (by omega) (by omega)
def qG (l:List cK) (o:ZN):BA->Option Nat:=o.foldl (fun D i s=>if s=(l.getD i fC).name then some (szE D (l.getD i fC).cond) else D s) (fun _=>none)
theorem LK (l:List cK) (o:ZN) (i:Nat) (s:BA):qG l (o++[i]) s=if s=(l.getD i fC).name then some (szE (qG l o) (l.getD i fC).cond) else qG l o s:=by simp[qG]
theorem apl {l:List cK} {o:ZN} (h:Yi (l.map cK.tV) o) (hu:∀i∈o,dz l (l.getD i fC).name=some i) (hb:∀i∈o,qT (l.getD i fC).cond=true) :
  ∀p,p<=o.length->∀s,qG l (o.take p) s=match dz l s with|some d=>if d∈o.take p then some (jT l l.length (l.getD d fC).cond) else none|none=>none:=by
 have hol:o.length<=l.length:=by simpa using h.len
 intro p;induction p with
 | zero =>
  intro _ s;simp only[List.take_zero,bC,if_false];cases dz l s<;>rfl
 | succ p ih =>
  intro hp s;have hp':p<o.length:=by omega
  have IH:=ih (by omega);have hD:∀s n,qG l (o.take p) s=some n->n<=2001:=by
   intro s n hn;rw[IH s] at hn;cases hd:dz l s with
   | none=>rw[hd] at hn;cases hn
   | some d =>
    rw[hd] at hn;simp only at hn;split at hn
    ·cases hn;exact aan _ _ _
    cases hn
  have him:o[p]∈o:=aD hp';have hil:o[p]<l.length:=by simpa using h.lt him
  rw[aO hp',LK];have key:szE (qG l (o.take p)) (l.getD o[p] fC).cond=jT l l.length (l.getD o[p] fC).cond:=by
   rw[ad1 hD _ (hb _ him),Mh h p o[p] (aT hp') l.length (l.length+1) (by omega) (by omega),jT];refine tN _ fun t ht=>?_
   rw[IH t];cases hda:dz l t with
   | none=>rfl
   | some d =>
    have h1:=h.after p o[p] (aT hp') t (by rw[xm hil,sx];rwa [fJ hil] at ht) d (by rw[rA];exact hda);simp[h1]
  by_cases hs:s=(l.getD o[p] fC).name
  ·rw[bM hs,key,hs,hu _ him];simp only[aN,aG,or_true,if_true]
  rw[bL hs,IH s];cases hd:dz l s with
  | none=>rfl
  | some d =>
   have hne:d≠o[p]:=fun e=>hs (by rw[<-e];exact(tP hd).1.symm)
   simp only[aN,aG,hne,or_false]
theorem ajX {l:List cK} {o:ZN} (h:Yi (l.map cK.tV) o) (hu:∀i∈o,dz l (l.getD i fC).name=some i) (hb:∀i∈o,qT (l.getD i fC).cond=true) (e:Ex) (he:qT e=true):szE (qG l o) e=dV l e:=by
 have hs:=apl h hu hb o.length (aU _);rw[List.take_length] at hs;have hD:∀s n,qG l o s=some n->n<=2001:=by
  intro s n hn;rw[hs s] at hn;cases hd:dz l s with
  | none=>rw[hd] at hn;cases hn
  | some d =>
   rw[hd] at hn;simp only at hn;split at hn
   ·cases hn;exact aan _ _ _
   cases hn
 rw[ad1 hD e he,dV,jT];refine tN _ fun t ht=>?_
 rw[hs t];cases hda:dz l t with
 | none=>rfl
 | some d =>
  have hdl:=ot hda;have:d∈o:=(h.all d).2 (by rw[sY hdl,<-fJ hdl,(tP hda).2];rfl);simp[this]
end Go.Proofs.YtefjomofjejklaaGreatDoor
