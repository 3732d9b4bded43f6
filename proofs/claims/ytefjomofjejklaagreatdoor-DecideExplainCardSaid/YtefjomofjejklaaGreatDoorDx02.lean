/-
  Texts of the claim, joined: Part, Composed, Lex4, Parse1, Parse2, Parse3, Parse4, Deck.
-/
import Derived.Test.YtefjomofjejklaaGreatDoorDx01
import Derived.WalkMore
import Derived.Deep.LoopGhost
import Derived.IntWalk
namespace Go.Proofs.YtefjomofjejklaaGreatDoor
set_option maxRecDepth 100000
set_option maxHeartbeats 32000000
open Go.RowKit
def mask (w:World) (M:ZN):World:={ w with heap:=w.heap.mapIdx fun i o=>if i∈M then .map #[] 0 else o }
theorem iH (w:World) (M:ZN) (p:Addr):(mask w M).cell? p=if p.block∈M then none else w.cell? p:=by
 unfold World.cell? mask;simp only[Array.getElem?_mapIdx];by_cases h:p.block∈M
 ·simp only[h,if_true];cases w.heap[p.block]?<;>simp
 simp only[h,if_false];cases w.heap[p.block]?<;>simp
theorem dU (w:World) (M:ZN):Sub (mask w M) w:=by
 intro p v h;rw[iH] at h;split at h
 ·cases h
 exact h
theorem aDi (w:World) (M:ZN):(mask w M).heap.size=w.heap.size:=by simp[mask]
theorem dX {w w':World} {M M':ZN} (h:∀k,k<w.heap.size->k∉M->k∉M'/\w'.heap[k]?=w.heap[k]?):Sub (mask w M) (mask w' M'):=by
 intro p v hp;have hb:=block_lt hp;rw[aDi] at hb;rw[iH] at hp ⊢;split at hp
 ·cases hp
 rename_i hn
 obtain⟨h1,h2⟩:=h _ hb hn;rw[dh h1];rw[World.cell?_of_block (w:=w) (w':=w') h2];exact hp
theorem iy {w w':World} (M:ZN) (h:Ext w w'):Sub (mask w M) (mask w' M):=dX fun k hk hn=>⟨hn,h.block k hk⟩
structure fU where
 op:Int
 name:BA
 aw:OA
 nw:Nat
 cw:Nat
 lo:Int
 hi:Int
 aa:OA
 na:Nat
 ca:Nat
abbrev aB (x:fU):Array Value:=#[.int .i64 x.op, .string x.name, .slice x.aw x.nw x.cw, .int .i64 x.lo, .int .i64 x.hi, .slice x.aa x.na x.ca]
def fU.cells (x:fU):List Value:=[.int .i64 x.op,.string x.name,.slice x.aw x.nw x.cw,.int .i64 x.lo,.int .i64 x.hi,.slice x.aa x.na x.ca]
def fU.val (x:fU):Value:=exV x.op x.name x.aw x.nw x.cw x.lo x.hi x.aa x.na x.ca
theorem dM {w:World} {b:Nat} {cs:Array Value} {t:TypeId} (h:w.heap[b]?=some (.cells cs t (0,0))) (j:Nat):w.cell? ⟨b,j,none⟩=cs[j]?:=cell_of_row w b j cs t (0,0) h
theorem jS {w:World} {b:Nat} {cs:Array Value} {t:TypeId} (h:w.heap[b]?=some (.cells cs t (0,0))) (j:Nat):w.frozen? ⟨b,j,none⟩=false:=frozen_of_row w b j cs t h
theorem dH {w:World} {b:Nat} {o:Obj} (h:w.heap[b]?=some o):b<w.heap.size:=(aW.1 h).1
theorem Ext.blk {w w':World} (h:Ext w w') {b:Nat} {o:Obj} (hb:w.heap[b]?=some o):w'.heap[b]?=some o:=(h.block b (dH hb)).trans hb
theorem dG (w:World) (o:Obj):(w.alloc o).heap[w.heap.size]?=some o:=by show (w.heap.push o)[w.heap.size]?=_;simp
theorem dJ {w:World} {b:Nat} {o o':Obj} (hb:w.heap[b]?=some o):(w.alloc o').heap[b]?=some o:=(Below.heap_alloc w o' b (dH hb)).trans hb
theorem vN {w:World} {b:Nat} {v0 v1 v2 v3 v4 v5 v6 v7:Value} {t:TypeId} (h:w.heap[b]?=some (.cells #[v0,v1,v2,v3,v4,v5,v6,v7] t (0,0))) :
  w.cell? ⟨b,0,none⟩=some v0/\w.cell? ⟨b,1,none⟩=some v1/\w.cell? ⟨b,2,none⟩=some v2/\w.cell? ⟨b,3,none⟩=some v3/\w.cell? ⟨b,4,none⟩=some v4/\w.cell? ⟨b,5,none⟩=some v5/\w.cell? ⟨b,6,none⟩=some v6/\w.cell? ⟨b,7,none⟩=some v7 /\
  (∀j,w.frozen? ⟨b,j,none⟩=false) :=
 ⟨dM h 0,dM h 1,dM h 2,dM h 3,dM h 4,dM h 5,dM h 6,dM h 7,fun j=>jS h j⟩
theorem fZ {w:World} {b:Nat} {v0 v1 v2:Value} {t:TypeId} (h:w.heap[b]?=some (.cells #[v0,v1,v2] t (0,0))) :
  w.cell? ⟨b,0,none⟩=some v0/\w.cell? ⟨b,1,none⟩=some v1/\w.cell? ⟨b,2,none⟩=some v2/\(∀j,w.frozen? ⟨b,j,none⟩=false) :=
 ⟨dM h 0,dM h 1,dM h 2,fun j=>jS h j⟩
theorem iK.of {w:World} {b:Nat}:(l:List Ex)->(off:Nat)->(xs:List fU)->l.length=xs.length ->
  (∀i (h1:i<l.length) (h2:i<xs.length),(∀j,j<6->w.cell? ⟨b,off+i*6+j,none⟩=xs[i].cells[j]?)/\fC w l[i] xs[i].val)->iK w l (some ⟨b,off,none⟩)
 | [],_,_,_,_=>by unfold iK;trivial
 | .mk op name words lo hi args::r,off,[],hl,_=>by simp at hl
 | .mk op name words lo hi args::r,off,x::xs,hl,h=>by
  unfold iK;obtain⟨h1,h2⟩:=h 0 (by simp) (by simp);simp only[bP,Nat.zero_mul,Nat.add_zero] at h1 h2;obtain⟨aw,nw,cw,aa,na,ca,e1,g1,g2,g3,g4,g5⟩:=h2.parts;simp only[fU.val,exV,Value.agg.injEq,Ex.op,Ex.name,Ex.lo,Ex.hi,Ex.words,Ex.args] at e1 g1 g2 g5;simp at e1;obtain⟨e2,e3,⟨e4,e5,e6⟩,e7,e8,e9,e10,e11⟩:=e1;refine⟨b,off,rfl,⟨aw,nw,cw,aa,na,ca,?_,?_,?_,?_,?_,?_,g1,g2,g3,g4,g5⟩,?_⟩
  ·have:=h1 0 (by omega);simpa[fU.cells,e2] using this
  ·have:=h1 1 (by omega);simpa[fU.cells,e3] using this
  ·have:=h1 2 (by omega);simpa[fU.cells,e4,e5,e6] using this
  ·have:=h1 3 (by omega);simpa[fU.cells,e7] using this
  ·have:=h1 4 (by omega);simpa[fU.cells,e8] using this
  ·have:=h1 5 (by omega);simpa[fU.cells,e9,e10,e11] using this
  refine iK.of r (off+6) xs (by simpa using hl) fun i h3 h4=>?_
  have:=h (i+1) (by simpa using h3) (by simpa using h4);simp only[List.getElem_cons_succ] at this;rw[show off+(i+1)*6=off+6+i*6 by omega] at this;exact this
theorem JH:zh 43 45 (.agg #[.int .i64 0,.string ⟨#[]⟩,.slice none 0 0,.int .i64 0,.int .i64 0,.slice none 0 0]) 6 88:=⟨by kernel_rfl,by kernel_rfl,rfl,by decide⟩
structure Tok where
 kind:Int
 text:BA
 num:Int
 pos:Int
structure dO (N:ZN) (w w':World):Prop where
 os:w'.os=w.os
 tape:w'.tape=w.tape
 output:w'.output=w.output
 size:w.heap.size<=w'.heap.size
 block:∀k,k<w.heap.size->k∉N->w'.heap[k]?=w.heap[k]?
theorem dO.refl (N:ZN) (w:World):dO N w w:=⟨rfl,rfl,rfl,bg _,fun _ _ _=>rfl⟩
theorem dO.trans {N N':ZN} {a b c:World} (h:dO N a b) (k:dO N' b c) (hN:∀x∈N',x∈N\/a.heap.size<=x):dO N a c :=
 ⟨k.os.trans h.os,k.tape.trans h.tape,k.output.trans h.output,bC h.size k.size,fun i hi hn =>
  (k.block i (bU hi h.size) (fun h'=>by rcases hN i h' with h'|h';exact hn h';omega)).trans (h.block i hi hn)⟩
theorem Ext.fH {w w':World} (h:Ext w w') (N:ZN):dO N w w':=⟨h.os,h.tape,h.output,h.size,fun k hk _=>h.block k hk⟩
theorem dO.ext {N:ZN} {w0 w w':World} (h:dO N w w') (h0:Ext w0 w) (hN:∀x∈N,w0.heap.size<=x):Ext w0 w' :=
 ⟨h.os.trans h0.os,h.tape.trans h0.tape,h.output.trans h0.output,bC h0.size h.size,fun k hk =>
  (h.block k (bU hk h0.size) (fun h'=>by have:=hN k h';omega)).trans (h0.block k hk)⟩
theorem dO.setCell {N:ZN} {a w:World} (h:dO N a w) {p:Addr} (hp:p.block∈N\/a.heap.size<=p.block) (v:Value):dO N a (w.setCell p v) :=
 ⟨h.os,h.tape,h.output,by simpa using h.size,fun k hk hn=>(heap_setCell_other w p k v (fun e=>by subst e;rcases hp with hp|hp;exact hn hp;omega)).trans (h.block k hk hn)⟩
theorem dO.alloc {N:ZN} {a w:World} (h:dO N a w) (o:Obj):dO N a (w.alloc o) :=
 ⟨h.os,h.tape,h.output,by have:=h.size;simp;omega,fun k hk hn=>(Below.heap_alloc w o k (by have:=h.size;omega)).trans (h.block k hk hn)⟩
theorem dO.drew {N:ZN} {a w:World} (h:dO N a w):dO N a w.drew:=⟨h.os,h.tape,h.output,h.size,h.block⟩
theorem Ext.drewN {a w:World} (h:Ext a w) (n:Nat):Ext a (w.drewN n):=⟨h.os,h.tape,h.output,h.size,h.block⟩
theorem dO.drewN {N:ZN} {a w:World} (h:dO N a w) (n:Nat):dO N a (w.drewN n):=⟨h.os,h.tape,h.output,h.size,h.block⟩
theorem Na {f:FuncId} {args:Array Value} {w:World} {n:Nat} {v:Value} (h:Calls Tryz.prog f args (w.drewN n) (Gives v (w.drewN n))):Calls Tryz.prog f args (w.drewN n) fun e w''=>e=.returned v/\∃m,w''=w.drewN m :=
 h.mono fun _ _ ⟨he,hm⟩=>⟨he,n,hm.symm⟩
theorem dO.then {N:ZN} {a b c:World} (h:dO N a b) (k:dO N b c):dO N a c:=h.trans k fun _ hx=>Or.inl hx
theorem Cb:zh 42 9 (.string ⟨#[]⟩) 1 16:=⟨by kernel_rfl,by kernel_rfl,rfl,by decide⟩
theorem eF {N:ZN} {w w':World} {base:Nat} {e:TypeId} {size:Nat} {v:Value} {n:Nat} {xs:List Value} (h:w.ownsRow base e size v n xs) (hc:dO N w w') (hN:∀k,v.ownBlock=some k->k∉N):w'.ownsRow base e size v n xs:=by
 refine⟨h.1,?_⟩;rcases h.2 with hn|⟨g,cap,cur,rfl,hb,hgg,rest⟩
 ·exact .inl hn
 refine .inr ⟨g,cap,cur,rfl,hb,?_,rest⟩;rw[hc.block g (aW.1 hgg).1 (hN g rfl)];exact hgg
def rowOf (v:Value):ZN:=match v.ownBlock with|some k=>[k]|none=>[]
theorem dK {v:Value} {k:Nat}:k∈rowOf v ↔ v.ownBlock=some k:=by
 unfold rowOf;cases v.ownBlock with
 | none=>simp
 | some x=>simp[eq_comm]
theorem iM {w w':World} {v:Value} (h:w.grownBy w' v.ownBlock):dO (rowOf v) w w' :=
 ⟨h.os,h.tape,h.output,h.size,fun k hk hn=>h.block k hk (fun e=>hn (dK.2 e.symm))⟩
def strCells (s:BA):List Value:=[.string s]
theorem mD {w:World} {base:Nat} {l:ZB} {v:Value} (h:w.ownsRow base 9 1 v l.length (l.flatMap strCells)) (M:ZN) (hM:∀x∈M,x<base):∃a c,v=.slice a l.length c/\ji (mask w M) l a l.length c/\ji w l a l.length c:=by
 have hlt:=h.lt;obtain⟨a,c,rfl,hr⟩:=iF.kZ (f:=strCells) (fun _=>rfl) h;have hs:ji w l a l.length c:=⟨hr.1,hr.2.1,hr.2.2.1,fun i hi=>by
  obtain⟨b,off,e1,e2⟩:=hr.2.2.2 i hi;have:=e2 0 (by simp[strCells]);simp only[strCells,bP,Nat.mul_one,Nat.add_zero] at this;exact⟨b,off,e1,this⟩⟩
 refine⟨a,c,rfl,⟨hs.1,hs.2.1,hs.2.2.1,fun i hi=>?_⟩,hs⟩;obtain⟨b,off,e1,e2⟩:=hs.2.2.2 i hi;refine⟨b,off,e1,?_⟩;rw[iH,dh,e2];intro hm;have h1:=hM _ hm;have h2:=(hlt b (by rw[e1];rfl)).1;simp only at h1;omega
def zW:BA:=⟨#[116,114,117,101]⟩
def uX:BA:=⟨#[102,97,108,115,101]⟩
def wIn:BA:=⟨#[105,110]⟩
def Aq:BA:=⟨#[102,114,111,109]⟩
def CJ:BA:=⟨#[110,111,116]⟩
def vT:BA:=⟨#[97,110,100]⟩
def Sm:BA:=⟨#[111,114]⟩
theorem iJ (w:World) (op lo hi:Int) (name:BA):fC w (.mk op name [] lo hi []) (exV op name none 0 0 lo hi none 0 0):=by
 refine fC.mk ⟨rfl,by omega,Or.inl ⟨rfl,rfl⟩,fun i hi=>by simp at hi⟩ rfl (by omega) (Or.inl ⟨rfl,rfl⟩) ?_;unfold iK
 trivial
theorem XG {w:World} {words:ZB} {a:OA} {n c:Nat} (h:ji w words a n c) (op lo hi:Int) (name:BA):fC w (.mk op name words lo hi []) (exV op name a n c lo hi none 0 0):=by
 refine fC.mk h rfl (by omega) (Or.inl ⟨rfl,rfl⟩) ?_;unfold iK
 trivial
theorem eP {w:World} {b:Nat} {v0 v1 v2 v3 v4 v5:Value} {t:TypeId} (h:w.heap[b]?=some (.cells #[v0,v1,v2,v3,v4,v5] t (0,0))) :
  w.cell? ⟨b,0,none⟩=some v0/\w.cell? ⟨b,1,none⟩=some v1/\w.cell? ⟨b,2,none⟩=some v2/\w.cell? ⟨b,3,none⟩=some v3/\w.cell? ⟨b,4,none⟩=some v4/\w.cell? ⟨b,5,none⟩=some v5/\(∀j,w.frozen? ⟨b,j,none⟩=false) :=
 ⟨dM h 0,dM h 1,dM h 2,dM h 3,dM h 4,dM h 5,fun j=>jS h j⟩
theorem dO.blk {N:ZN} {w w':World} (h:dO N w w') {b:Nat} {o:Obj} (hb:w.heap[b]?=some o) (hn:b∉N):w'.heap[b]?=some o:=(h.block b (dH hb) hn).trans hb
theorem zT {w:World} {b:Nat} {v0 v1:Value} {t:TypeId} (h:w.heap[b]?=some (.cells #[v0,v1] t (0,0))) :
  w.cell? ⟨b,0,none⟩=some v0/\w.cell? ⟨b,1,none⟩=some v1/\(∀j,w.frozen? ⟨b,j,none⟩=false) :=
 ⟨dM h 0,dM h 1,fun j=>jS h j⟩
def gB (w:World) (a:OA) (n:Nat):Prop:=∀i,i<n->∃b off z,a=some ⟨b,off,none⟩/\w.cell? ⟨b,off+i,none⟩=some (.int .i64 z)
def dS (w0 w:World) (bd:Nat):Prop:=∃(la:OA) (ln lc k:Nat),w.heap[bd]?=some (.cells #[.slice la ln lc,.int .i64 k] 89 (0,0))/\k<=ln/\ln<=1000000000000000/\gB w0 la ln/\Ext w0 w/\w0.heap.size<=bd
theorem dS.fH {w0 w w':World} {bd:Nat} {N:ZN} (h:dS w0 w bd) (hc:dO N w w') (hn:bd∉N) (h0:∀x∈N,w0.heap.size<=x):dS w0 w' bd:=by
 obtain⟨la,ln,lc,k,hb,hk,hln,hL,hx,hbd⟩:=h;exact⟨la,ln,lc,k,hc.blk hb hn,hk,hln,hL,hc.ext hx h0,hbd⟩
theorem dS.ext {w0 w w':World} {bd:Nat} (h:dS w0 w bd) (hx:Ext w w'):dS w0 w' bd:=h.fH (hx.fH []) (by simp) (by simp)
def ap' (lo hi:Int) (w0:World) (bd:Nat) (w:World) (e:Ending) (w':World):Prop:=∃r:Int,e=.returned (.int .i64 r)/\lo<=r/\r<hi/\dS w0 w' bd/\dO [bd] w w'
theorem fF {w0 w:World} {bd:Nat} (h:dS w0 w bd) (n:Int) (hn:0<n) (hn2:n<=1000000000000000000) :
  Calls Tryz.prog 37 #[.pointer (some ⟨bd,0,none⟩),.int .i64 n] w (ap' 0 n w0 bd w):=by
 have HD:=ak h;obtain⟨la,ln,lc,k,hb,hk,hln,hL,hx,hbd⟩:=h;have HB:=ak hb;have hbw:=dH hb;obtain⟨c0,c1,cf⟩:=zT hb;clear hb;by_cases hlt:k<ln
 ·obtain⟨b,off,z,rfl,hz⟩:=hL k hlt;have hz':=hx.cell hz;have hzb:b≠bd:=by have:=block_lt hz;simp at this;omega
  have HL:=ak hL;have HX:=ak hx;have t1:decide (ln<=k)=false:=by simp;omega
  have t2:((k:Int)+1 - 1)=k:=by omega
  have t3:(0:Int)<=(k:Int):=by omega
  have t4:(k:Int)<(ln:Int):=by omega
  clear hL hx hz HD;go_enter Tryz.func37,Tryz.ntmps37
  go_wp2_with fail
  go_quiet (fail)
  go_wp2_with fail
  go_quiet (fail)
  go_wp2_with fail
  go_ret;have hr:wrap64 (z.tmod n+n)=z.tmod n+n:=by
   have a1:=Int.tmod_lt_of_pos z hn;have a2:=Int.lt_tmod_of_pos z hn;exact IntWalk.wrap64_in (z.tmod n+n) (by omega)
  rw[hr];have a1:=Int.tmod_lt_of_pos z hn;have a2:=Int.tmod_lt_of_pos (z.tmod n+n) hn;have a3:0<=z.tmod n+n:=by
   have:=Int.lt_tmod_of_pos z hn;omega
  have a4:=Int.tmod_nonneg n a3;refine⟨_,rfl,a4,a2,⟨_,ln,lc,k+1,?_,by omega,hln,HL.o,?_,hbd⟩,?_⟩
  ·have:=aO (w.drewN 0) bd 1 _ _ (.int .i64 ((k:Int)+1)) HB.o;exact this
  ·exact((HX.o.drewN _).jl (by simpa using hbd) _).drewN _
  exact(((dO.refl [bd] w).drewN _).setCell (Or.inl (by simp)) _).drewN _
 have t1:decide (ln<=k)=true:=by simp;omega
 go_enter Tryz.func37,Tryz.ntmps37
 go_wp2_with fail
 go_quiet (fail)
 go_wp2_with fail
 go_ret;exact⟨0,rfl,by omega,hn,HD.o.ext ((Ext.refl w).drewN _),(dO.refl _ w).drewN _⟩
theorem lX {w0 w:World} {bd:Nat} (h:dS w0 w bd) (lo hi:Int) (h1:lo<=hi) (h2 : -100000000000000000<=lo) (h3:hi<=100000000000000000) :
  Calls Tryz.prog 53 #[.pointer (some ⟨bd,0,none⟩),.int .i64 lo,.int .i64 hi] w (ap' lo (hi+1) w0 bd w):=by
 go_enter Tryz.func53,Tryz.ntmps53
 go_wp2_with fail
 refine(fF h _ (by omega) (by omega)).mono ?_;rintro e w1 ⟨r,rfl,hr0,hr1,hd,hc⟩;go_wp2_with fail
 go_ret;exact⟨lo+r,rfl,by omega,by omega,hd,hc⟩
end Go.Proofs.YtefjomofjejklaaGreatDoor
