/-
  Texts of the claim, joined: Args, LaidD, Schema, Gram, Tokens, Exs, Grow, Grow2.
-/
import Derived.Test.YtefjomofjejklaaGreatDoorDx02
import Derived.Carry
import Derived.ChangeSlices
import Derived.SizedLaws
import Derived.Test.YtefjomofjejklaaGreatDoorRows
import Derived.Deep.AppendLies
import Derived.Deep.RegionLaw
import Derived.RegionTactic
import Derived.Orders
import Derived.BigFrame
namespace Go.Proofs.YtefjomofjejklaaGreatDoor
set_option maxRecDepth 100000
set_option maxHeartbeats 32000000
open Go.ChangeShapes Go.WideShapes Go.ChangeAt Go.RowKit
theorem laidOut:laidOutB Tryz.prog=true:=by kernel_rfl
def aqW (P:Program) (ts:List TypeId):Bool:=ts.all fun t=>P.readableRec t&&decide (t<P.types.size)
theorem amf {H:Type} {enc:TypeId×Value->H} {P:Program} (hl:laidOutB P=true) {W W':World} (hb:Ext W W'):∀{ts:List TypeId} {vs:List Value} {ds:List (DataW H)} {ps:List MemPlace},aqW P ts=true->DataW.TrodAll enc P W 0 (fun _=>true) true ts vs ds ps->(∀x∈ps,x.block<W.heap.size)->DataW.TrodAll enc P W' 0 (fun b=>decide (b<W.heap.size)) true ts vs ds ps
 | [],[],[],_,_,h,_=>h
 | t::ts,v::vs,d::ds,ps,hr,h,hlt=>by
  obtain⟨p,q,h1,h2,e⟩:=h;simp only[aqW,List.all_cons,aJ,aN] at hr;subst e;exact⟨p,q,Below.trod hl hr.1.1 hr.1.2 h1 hb (fun x hx=>hlt x (by simp[hx])),amf hl hb (by simpa[aqW] using hr.2) h2 (fun x hx=>hlt x (by simp[hx])),rfl⟩
 | [],_::_,_,_,_,h,_=>by simp[DataW.TrodAll] at h
 | [],[],_::_,_,_,h,_=>by simp[DataW.TrodAll] at h
 | _::_,[],_,_,_,h,_=>by simp[DataW.TrodAll] at h
 | _::_,_::_,[],_,_,h,_=>by simp[DataW.TrodAll] at h
theorem lF {H:Type} {enc:TypeId×Value->H} {f:Func} {s:ChangeSpec} {W W':World} {args:Array Value} {ds:List (DataW H)} {before:List MemPlace}
  (hW:DataW.Whole enc Tryz.prog f.params.toList s.vars false W args.toList ds [] before) (hv:s.vars=[]) (hrt:f.resultTypes=#[4]) (hfn:(s.fn H (ds++[])).results=[.lit (.bool true)]) (hfa:(s.fn H (ds++[])).args=ds) (hfv:(s.fn H (ds++[])).vars=[]) (hrw:aqW Tryz.prog f.params.toList=true)
  (hx:Ext W W'):s.post enc Tryz.prog f false true false false W args (.bool true) W':=by
 have hW2:=hW;obtain⟨p,q,hA,hV,rfl,hfz,hnd⟩:=hW2;rw[hv] at hV;obtain⟨_,rfl⟩:=trodVars_none hV;have hlt:∀x∈p++[],x.block<W.heap.size:=fun x hx=>by simpa using hW.lt x hx
 simp only[List.append_nil] at *;have hres:∀(b:Nat) (sp:Nat->Bool) (hd:Bool),DataW.TrodAll enc Tryz.prog W' b sp hd f.resultTypes.toList ((Value.bool true).resultList f.resultTypes.size) (s.fn H (ds++[])).results []:=by
  intro b sp hd;rw[hrt,List.append_nil,hfn];exact trodAll_cons_mk (shut_bool uB _) trodAll_mk0
 refine⟨ds,[],p,[],p,[],hW,hres _ _ _,by rw[List.append_nil,hfa];exact amf laidOut hx hrw hA hlt,?_,World.keptBut_mono (fun p hp=>hp) (Below.frame hx _),fun h=>by cases h⟩;rw[hv,List.append_nil,hfv]
 rfl
theorem uIs:Tryz.prog.underlying 26=some (.slice 3):=by kernel_rfl
theorem a00:Tryz.prog.bytesOf 3=8:=by kernel_rfl
theorem jC {H:Type} {enc:TypeId×Value->H} {W:World} {base:Nat} {v:Value} {d:DataW H} {p:List MemPlace} {ts:List TypeId} {ds:List (DataW H)} {j:Nat} (hval:Value.okWide Tryz.prog W .any base 26 v) (h:DataW.Trod enc Tryz.prog W 0 (fun _=>true) true 26 v d p)
  (hs:(DataW.weightsEach Tryz.prog ts ds).all (·<=reachBytes)=true) (ht:ts[j]?=some 26) (hd:ds[j]?=some d):∃a n c,v=.slice a n c/\gB W a n/\n<=1000000000000000:=by
 obtain⟨a,n,c,rfl⟩:=okWide_slice uIs hval;refine⟨a,n,c,rfl,?_⟩;obtain⟨fuel,hf⟩:=h;rcases open_ints uIs uI cI hf with ⟨hcs,hx⟩|⟨ad,len,cap,zs,hcs,_,hl,hm,hz,hx,hcell,hw⟩
 ·simp[Value.cells] at hcs;obtain⟨rfl,rfl,rfl⟩:=hcs;exact⟨fun i hi=>by omega,by omega⟩
 simp[Value.cells] at hcs;obtain⟨rfl,rfl,rfl⟩:=hcs;simp only[Prod.mk.injEq] at hx;obtain⟨rfl,rfl⟩:=hx;simp only[if_true] at hz;have hb:=sized_slice hs ht hd uIs;rw[a00] at hb;simp only[lits,List.length_map,List.length_take,List.length_drop] at hb;have hr:=reachBytes_lt;refine⟨fun i hi=>?_,by omega⟩;obtain⟨b,off,spot⟩:=ad;have h0:=hcell 0 (by omega);have hsp:spot=none:=by
  cases spot with
  | none=>rfl
  | some x =>
   exfalso;simp only[Addr.add,if_true,World.cell?] at h0;split at h0<;>simp at h0
 subst hsp;have:=hcell i (by omega);refine⟨b,off,zs.getD i 0,rfl,?_⟩;rw[<-this]
 congr 1
 unfold Addr.add;split<;>simp_all
open Go.ChangeShapes Go.WideShapes Go.ChangeAt Go.WideMaps Go.WideElems Go.RowKit
theorem iQ {W:World} (h:laidMetH Tryz.prog Rows.decideVerdictRow.laid W):gG W:=by
 rw[MakeChecks.laidMetH_plain _ _ _ (by kernel_rfl)] at h;obtain⟨ps,⟨g1,t1,cs1,f1,p1,q1,hg1,ht1,hv1,hd1,_,_⟩,_,_⟩:=h;obtain rfl:=Option.some.inj (aDT.symm.trans hg1);obtain rfl:=Option.some.inj (aCe.symm.trans ht1);obtain⟨xs,m,rfl,hx,hlen,hn,hel⟩:=DataW.trod_array aB' hd1;simp only[Prod.mk.injEq] at hx;have hx1:=hx.1;intro k hk;have hD:(xs.map (·.1))[k]?=some (.agg [.lit (.string (oP k).data.toList),.lit (.bool (sN k)),.lit (.int .i64 (qX k)),.lit (.int .i64 (vC k)),.lit (.int .i64 (sO k))]):=by
  unfold Rows.laid_treaty_syntax_operators at hx1;injection hx1 with hx1
  rw[<-hx1];have hk':k=0\/k=1\/k=2\/k=3\/k=4\/k=5\/k=6\/k=7\/k=8:=by omega
  rcases hk' with rfl|rfl|rfl|rfl|rfl|rfl|rfl|rfl|rfl<;>rfl
 rw[List.getElem?_map] at hD;have hek:=hel k hk;cases hy:xs[k]? with
 | none=>rw[hy] at hD;cases hD
 | some y =>
  rw[hy] at hD hek;simp only[Option.map_some,Option.some.injEq] at hD;rw[cOp] at hek;have hc:=VH hek hD;have key:∀j,j<5->W.cell? ⟨0,k*5+j,none⟩=([.string (oP k),.bool (sN k),.int .i64 (qX k),.int .i64 (vC k),.int .i64 (sO k)]:List Value)[j]?:=by
   intro j hj;have e1:(⟨(oP k).data.toList.toArray⟩:BA)=oP k:=by simp
   rw[World.var?_cell hg1 hv1 (k*5+j),<-e1,<-hc,List.getElem?_take,dw hj,List.getElem?_drop];simp
  have k0:=key 0 (by omega);rw[Nat.add_zero] at k0;exact⟨k0,key 1 (by omega),key 2 (by omega),key 3 (by omega),key 4 (by omega)⟩
open Go.RowKit
structure Attr where
 name:BA
 kind:Int
 words:ZB
 lo:Int
 hi:Int
def Yw (w:World) (x:Attr) (b off:Nat):Prop:=∃aw nw cw,w.cell? ⟨b,off,none⟩=some (.string x.name)/\w.cell? ⟨b,off+1,none⟩=some (.int .i64 x.kind)/\w.cell? ⟨b,off+2,none⟩=some (.slice aw nw cw)/\w.cell? ⟨b,off+3,none⟩=some (.int .i64 x.lo) /\
 w.cell? ⟨b,off+4,none⟩=some (.int .i64 x.hi)/\ji w x.words aw nw cw
def fJ (w:World) (l:List Attr) (v:Value):Prop:=∃a n c,v=.agg #[.slice a n c]/\n=l.length/\n<=c/\rP a c/\∀i (h:i<l.length),∃b off,a=some ⟨b,off,none⟩/\Yw w l[i] b (off+i*5)
theorem Yw.mono {w w':World} {x:Attr} {b off:Nat} (h:Yw w x b off) (hs:Sub w w'):Yw w' x b off:=by
 obtain⟨aw,nw,cw,h0,h1,h2,h3,h4,h5⟩:=h;exact⟨aw,nw,cw,hs _ _ h0,hs _ _ h1,hs _ _ h2,hs _ _ h3,hs _ _ h4,h5.mono hs⟩
theorem fJ.mono {w w':World} {l:List Attr} {v:Value} (h:fJ w l v) (hs:Sub w w'):fJ w' l v:=by
 obtain⟨a,n,c,h1,h2,h3,h4,h5⟩:=h;exact⟨a,n,c,h1,h2,h3,h4,fun i hi=>by obtain⟨b,off,e1,e2⟩:=h5 i hi;exact⟨b,off,e1,e2.mono hs⟩⟩
def zq:Attr:=⟨⟨#[112,101,114,105,108]⟩,1,[⟨#[102,105,114,101]⟩,⟨#[102,108,111,111,100]⟩,⟨#[119,105,110,100]⟩,⟨#[116,104,101,102,116]⟩],0,0⟩
def jw:List (List Attr):=[[zq,⟨⟨#[115,116,111,114,101,121,115]⟩,2,[],1,9⟩,⟨⟨#[97,108,97,114,109]⟩,3,[],0,0⟩],
 [⟨⟨#[110]⟩,2,[],-5,20⟩],
 [⟨⟨#[97]⟩,3,[],0,0⟩,⟨⟨#[114,111,108,101]⟩,1,[⟨#[99,114,101,119]⟩,⟨#[103,117,101,115,116]⟩],0,0⟩,⟨⟨#[98]⟩,3,[],0,0⟩],
 [⟨⟨#[110]⟩,2,[],-1000000000,1000000000⟩,⟨⟨#[116]⟩,3,[],0,0⟩],
 [⟨⟨#[111,110,101]⟩,1,[⟨#[111,110,108,121]⟩],0,0⟩,zq,⟨⟨#[110]⟩,2,[],0,6⟩,⟨⟨#[116]⟩,3,[],0,0⟩],
 [⟨⟨#[116]⟩,3,[],0,0⟩]]
theorem Jd (x n:Int) (w:World) (hn:0<n) (hn2:n<=1000000000000000000):Calls Tryz.prog 16 #[.int .i64 x,.int .i64 n] w (fun e w'=>∃r:Int,e=.returned (.int .i64 r)/\0<=r/\r<n/\w=w'):=by
 go_enter Tryz.func16,Tryz.ntmps16
 go_wp2_with fail
 go_ret;have a1:=Int.tmod_lt_of_pos x hn;have a5:=Int.lt_tmod_of_pos x hn;rw[IntWalk.wrap64_in (x.tmod n+n) (by omega)];exact⟨_,rfl,Int.tmod_nonneg n (by omega),Int.tmod_lt_of_pos (x.tmod n+n) hn,rfl⟩
theorem XE {w:World} {l:ZB} {g n c:Nat} (h:ji w l (some ⟨g,0,none⟩) n c) {b:Nat} (hb:g≠b) (u:Value) (o:Obj):ji ((w.setCell ⟨b,0,none⟩ u).alloc o) l (some ⟨g,0,none⟩) n c:=by
 refine⟨h.1,h.2.1,h.2.2.1,fun i hi=>?_⟩;obtain⟨b',off,e1,e2⟩:=h.2.2.2 i hi;simp only[Option.some.injEq,Addr.mk.injEq,and_true] at e1;obtain⟨rfl,rfl⟩:=e1;refine⟨g,0,rfl,Ext.cell ((Ext.refl _).alloc o) ?_⟩;rw[World.cell?_setCell_other _ _ _ _ (fun e=>hb (by injection e with e1;exact e1.symm))];exact e2
def aRh (w:World) (e:Ending) (w':World):Prop:=∃g,e=.returned (.agg #[.string zq.name,.int .i64 1,.slice (some ⟨g,0,none⟩) 4 4,.int .i64 0,.int .i64 0])/\ji w' zq.words (some ⟨g,0,none⟩) 4 4/\Ext w w'/\w.heap.size<g
theorem BX {w:World} {g:Nat} {l:ZB} {t:TypeId} (h:w.heap[g]?=some (.cells (l.map Value.string).toArray t (0,0))) {n:Nat} (hn:n=l.length):ji w l (some ⟨g,0,none⟩) n n:=by
 subst hn;refine⟨rfl,bg _,Or.inr ⟨g,0,rfl⟩,fun i hi=>⟨g,0,rfl,?_⟩⟩;rw[Nat.zero_add,dM h];simp[hi]
structure vK where
 x:Attr
 a:OA
 n:Nat
 c:Nat
def vK.cells (v:vK):List Value:=[.string v.x.name,.int .i64 v.x.kind,.slice v.a v.n v.c,.int .i64 v.x.lo,.int .i64 v.x.hi]
theorem kX (w:World):ji w [] none 0 0:=⟨rfl,by omega,Or.inl ⟨rfl,rfl⟩,fun i hi=>by simp at hi⟩
theorem Q5 {w:World} {g:Nat} {avs:List vK} {t:TypeId} (h:w.heap[g]?=some (.cells (avs.flatMap vK.cells).toArray t (0,0))) {n:Nat} (hn:n=avs.length) (hs:∀v∈avs,ji w v.x.words v.a v.n v.c):fJ w (avs.map (·.x)) (.agg #[.slice (some ⟨g,0,none⟩) n n]):=by
 subst hn;refine⟨some ⟨g,0,none⟩,_,_,rfl,by simp,bg _,Or.inr ⟨g,0,rfl⟩,fun i hi=>⟨g,0,rfl,?_⟩⟩;have hi':i<avs.length:=by simpa using hi
 have key:∀j (hj:j<5),w.cell? ⟨g,i*5+j,none⟩=some ((avs[i].cells)[j]'(by simp[vK.cells];omega)):=by
  intro j hj;rw[dM h];have:=kJ vK.cells 5 (fun _=>rfl) avs i hi' j (by simp[vK.cells];omega);simpa using this
 have e:(avs.map (·.x))[i]=avs[i].x:=by simp
 rw[e,Nat.zero_add];exact⟨avs[i].a,avs[i].n,avs[i].c,key 0 (by omega),key 1 (by omega),key 2 (by omega),key 3 (by omega),key 4 (by omega),hs _ (aI hi')⟩
theorem aao (w:World):Calls Tryz.prog 55 #[] w (aRh w):=by
 go_enter Tryz.func55,Tryz.ntmps55
 go_wp2_with fail
 refine bodyPost_ret (v:=.agg #[.string zq.name,.int .i64 1,.slice (some ⟨w.heap.size+1,0,none⟩) 4 4,.int .i64 0,.int .i64 0]) (by simp[results,Tryz.results55,go_sem,zq]) rfl ?_;refine⟨_,rfl,BX (l:=zq.words) (t:=9) ?_ rfl,((Ext.refl w).alloc _).alloc _,by omega⟩;have:=dG (w.alloc (.cells #[.string zq.name,.int .i64 1,.slice (some ⟨w.heap.size+1,0,none⟩) 4 4,.int .i64 0,.int .i64 0] 101)) (.cells (zq.words.map Value.string).toArray 9);simpa[zq] using this
theorem aaG {w:World} {M:ZN} {l:ZB} {a:OA} {n c:Nat} (h:ji w l a n c) (ha:∀b off,a=some ⟨b,off,none⟩->b∉M):ji (mask w M) l a n c:=by
 refine⟨h.1,h.2.1,h.2.2.1,fun i hi=>?_⟩;obtain⟨b,off,e,hc⟩:=h.2.2.2 i hi;exact⟨b,off,e,by rw[iH,dh (ha b off e)];exact hc⟩
theorem aG6 {w:World} {M:ZN} {g:Nat} {o:Obj} (h:w.heap[g]?=some o) (hg:g∉M):(mask w M).heap[g]?=some o:=by
 unfold mask;simp only[Array.getElem?_mapIdx,h,Option.map_some,hg,if_false]
def aBQ (M:ZN) (w:World) (e:Ending) (w':World):Prop:=∃l v,e=.returned v/\l∈jw/\fJ (mask w' M) l v/\Ext w w'
theorem KY {w W:World} {g n:Nat} {l:List Attr} {M:ZN} (hM:∀y∈M,y<w.heap.size) (avs:List vK) {t:TypeId} (hg:w.heap.size<=g) (ha:∀v∈avs,∀b off,v.a=some ⟨b,off,none⟩->w.heap.size<=b) (h:W.heap[g]?=some (.cells (avs.flatMap vK.cells).toArray t (0,0))) (hn:n=avs.length) (hl:avs.map (·.x)=l) (hm:l∈jw) (hs:∀v∈avs,ji W v.x.words v.a v.n v.c) (hx:Ext w W) :
  aBQ M w (.returned (.agg #[.slice (some ⟨g,0,none⟩) n n])) W :=
 ⟨l,_,rfl,hm,hl ▸ Q5 (aG6 h (fun hh=>by have:=hM _ hh;omega)) hn (fun v hv=>aaG (hs v hv) (fun b off e hh=>by have:=hM _ hh;have:=ha v hv b off e;omega)),hx⟩
theorem BL (k:Int) (M:ZN) (w:World) (hM:∀y∈M,y<w.heap.size):Calls Tryz.prog 26 #[.int .i64 k] w (aBQ M w):=by
 have OT:=ak hM;clear hM;go_enter Tryz.func26,Tryz.ntmps26
 go_wp2_with fail
 refine(Jd _ _ _ (by omega) (by omega)).mono ?_;rintro e w' ⟨r,rfl,h0,h1,rfl⟩;have h:r=0\/r=1\/r=2\/r=3\/r=4\/r=5:=by omega
 clear h0 h1;rcases h with rfl|rfl|rfl|rfl|rfl|rfl
 ·go_wp2_with fail
  refine(aao _).mono ?_;rintro e w' ⟨g,rfl,hp,hx,hgn⟩;simp at hgn;have hwz:=hx.size;simp at hwz;have hb:=hx.blk (dG w _);have hlt:=dH hb;have c0:=dM hb 0;have cf:=jS hb;simp at c0;have HX:=ak (((Ext.refl w).alloc _).trans hx);have HP:=ak hp;clear hx hb hp;go_wp2_with fail
  refine bodyPost_ret (v:=.agg #[.slice (some ⟨w'.heap.size,0,none⟩) 3 3]) (by simp[results,Tryz.results26,go_sem,c0,hlt]) rfl ?_;refine KY OT.o [⟨zq,some ⟨g,0,none⟩,4,4⟩,⟨⟨⟨#[115,116,111,114,101,121,115]⟩,2,[],1,9⟩,none,0,0⟩,⟨⟨⟨#[97,108,97,114,109]⟩,3,[],0,0⟩,none,0,0⟩] (t:=101) (by omega) (by intro v hv b off he;simp only[bK,bQ,or_false] at hv;(repeat' (rcases hv with rfl|hv))<;>(try subst hv)<;>simp at he<;>omega) ?_ rfl rfl (by simp[jw]) ?_ ?_
  ·simpa[vK.cells,zq] using dG (w'.setCell ⟨w.heap.size,0,none⟩ (.slice (some ⟨w'.heap.size,0,none⟩) 3 3)) (.cells #[.string zq.name,.int .i64 1,.slice (some ⟨g,0,none⟩) 4 4,.int .i64 0,.int .i64 0,.string ⟨#[115,116,111,114,101,121,115]⟩,.int .i64 2,.slice none 0 0,.int .i64 1,.int .i64 9,.string ⟨#[97,108,97,114,109]⟩,.int .i64 3,.slice none 0 0,.int .i64 0,.int .i64 0] 101)
  ·intro v hv;simp only[bK,bQ,or_false] at hv;rcases hv with rfl|rfl|rfl
   ·exact XE HP.o (by omega) _ _
   ·exact kX _
   exact kX _
  exact(HX.o.jl (by simp) _).alloc _
 ·go_wp2_with fail
  refine bodyPost_ret (v:=.agg #[.slice (some ⟨w.heap.size+1,0,none⟩) 1 1]) (by simp[results,Tryz.results26,go_sem]) rfl ?_;refine KY OT.o [⟨⟨⟨#[110]⟩,2,[],-5,20⟩,none,0,0⟩] (t:=101) (by omega) (by intro v hv b off he;simp only[bK,bQ,or_false] at hv;(repeat' (rcases hv with rfl|hv))<;>(try subst hv)<;>simp at he<;>omega) ?_ rfl rfl (by simp[jw]) (by intro v hv;simp at hv;subst hv;exact kX _) (((Ext.refl w).alloc _).alloc _);simpa[vK.cells] using dG (w.alloc (.cells #[.slice (some ⟨w.heap.size+1,0,none⟩) 1 1] 24)) (.cells #[.string ⟨#[110]⟩,.int .i64 2,.slice none 0 0,.int .i64 (-5),.int .i64 20] 101)
 ·go_wp2_with fail
  refine bodyPost_ret (v:=.agg #[.slice (some ⟨w.heap.size+2,0,none⟩) 3 3]) (by simp[results,Tryz.results26,go_sem]) rfl ?_;refine KY OT.o [⟨⟨⟨#[97]⟩,3,[],0,0⟩,none,0,0⟩,⟨⟨⟨#[114,111,108,101]⟩,1,[⟨#[99,114,101,119]⟩,⟨#[103,117,101,115,116]⟩],0,0⟩,some ⟨w.heap.size+1,0,none⟩,2,2⟩,⟨⟨⟨#[98]⟩,3,[],0,0⟩,none,0,0⟩] (t:=101) (by omega) (by intro v hv b off he;simp only[bK,bQ,or_false] at hv;(repeat' (rcases hv with rfl|hv))<;>(try subst hv)<;>simp at he<;>omega) ?_ rfl rfl (by simp[jw]) ?_ ((((Ext.refl w).alloc _).alloc _).alloc _)
  ·simpa[vK.cells] using dG ((w.alloc (.cells #[.slice (some ⟨w.heap.size+2,0,none⟩) 3 3] 24)).alloc (.cells #[.string ⟨#[99,114,101,119]⟩,.string ⟨#[103,117,101,115,116]⟩] 9)) (.cells #[.string ⟨#[97]⟩,.int .i64 3,.slice none 0 0,.int .i64 0,.int .i64 0,.string ⟨#[114,111,108,101]⟩,.int .i64 1,.slice (some ⟨w.heap.size+1,0,none⟩) 2 2,.int .i64 0,.int .i64 0,.string ⟨#[98]⟩,.int .i64 3,.slice none 0 0,.int .i64 0,.int .i64 0] 101)
  intro v hv;simp only[bK,bQ,or_false] at hv;rcases hv with rfl|rfl|rfl
  ·exact kX _
  ·refine BX (t:=9) (dJ ?_) rfl;simpa using dG (w.alloc (.cells #[.slice (some ⟨w.heap.size+2,0,none⟩) 3 3] 24)) (.cells #[.string ⟨#[99,114,101,119]⟩,.string ⟨#[103,117,101,115,116]⟩] 9)
  exact kX _
 ·go_wp2_with fail
  refine bodyPost_ret (v:=.agg #[.slice (some ⟨w.heap.size+1,0,none⟩) 2 2]) (by simp[results,Tryz.results26,go_sem]) rfl ?_;refine KY OT.o [⟨⟨⟨#[110]⟩,2,[],-1000000000,1000000000⟩,none,0,0⟩,⟨⟨⟨#[116]⟩,3,[],0,0⟩,none,0,0⟩] (t:=101) (by omega) (by intro v hv b off he;simp only[bK,bQ,or_false] at hv;(repeat' (rcases hv with rfl|hv))<;>(try subst hv)<;>simp at he<;>omega) ?_ rfl rfl (by simp[jw]) ?_ (((Ext.refl w).alloc _).alloc _)
  ·simpa[vK.cells] using dG (w.alloc (.cells #[.slice (some ⟨w.heap.size+1,0,none⟩) 2 2] 24)) (.cells #[.string ⟨#[110]⟩,.int .i64 2,.slice none 0 0,.int .i64 (-1000000000),.int .i64 1000000000,.string ⟨#[116]⟩,.int .i64 3,.slice none 0 0,.int .i64 0,.int .i64 0] 101)
  intro v hv;simp only[bK,bQ,or_false] at hv;rcases hv with rfl|rfl<;>exact kX _
 ·go_wp2_with fail
  refine(aao _).mono ?_;rintro e w' ⟨g,rfl,hp,hx,hgn⟩;simp at hgn;have hwz:=hx.size;simp at hwz;have HO:=ak (hx.blk (dG (w.alloc (.cells #[.slice none 0 0] 24)) (.cells #[.string ⟨#[111,110,108,121]⟩] 9)));have hb:=hx.blk (dJ (o':=.cells #[.string ⟨#[111,110,108,121]⟩] 9) (dG w (.cells #[.slice none 0 0] 24)));have hlt:=dH hb;have c0:=dM hb 0;have cf:=jS hb;simp at c0;have HX:=ak ((((Ext.refl w).alloc _).alloc _).trans hx);have HP:=ak hp;clear hx hb hp;go_wp2_with fail
  refine bodyPost_ret (v:=.agg #[.slice (some ⟨w'.heap.size,0,none⟩) 4 4]) (by simp[results,Tryz.results26,go_sem,c0,hlt]) rfl ?_;refine KY OT.o [⟨⟨⟨#[111,110,101]⟩,1,[⟨#[111,110,108,121]⟩],0,0⟩,some ⟨w.heap.size+1,0,none⟩,1,1⟩,⟨zq,some ⟨g,0,none⟩,4,4⟩,⟨⟨⟨#[110]⟩,2,[],0,6⟩,none,0,0⟩,⟨⟨⟨#[116]⟩,3,[],0,0⟩,none,0,0⟩] (t:=101) (by omega) (by intro v hv b off he;simp only[bK,bQ,or_false] at hv;(repeat' (rcases hv with rfl|hv))<;>(try subst hv)<;>simp at he<;>omega) ?_ rfl rfl (by simp[jw]) ?_ ?_
  ·simpa[vK.cells,zq] using dG (w'.setCell ⟨w.heap.size,0,none⟩ (.slice (some ⟨w'.heap.size,0,none⟩) 4 4)) (.cells #[.string ⟨#[111,110,101]⟩,.int .i64 1,.slice (some ⟨w.heap.size+1,0,none⟩) 1 1,.int .i64 0,.int .i64 0,.string zq.name,.int .i64 1,.slice (some ⟨g,0,none⟩) 4 4,.int .i64 0,.int .i64 0,.string ⟨#[110]⟩,.int .i64 2,.slice none 0 0,.int .i64 0,.int .i64 6,.string ⟨#[116]⟩,.int .i64 3,.slice none 0 0,.int .i64 0,.int .i64 0] 101)
  ·intro v hv;simp only[bK,bQ,or_false] at hv;rcases hv with rfl|rfl|rfl|rfl
   ·refine XE (BX (t:=9) (l:=[⟨#[111,110,108,121]⟩]) ?_ rfl) (by simp) _ _;simpa using HO.o
   ·exact XE HP.o (by omega) _ _
   ·exact kX _
   exact kX _
  exact(HX.o.jl (by simp) _).alloc _
 go_wp2_with fail
 refine bodyPost_ret (v:=.agg #[.slice (some ⟨w.heap.size+1,0,none⟩) 1 1]) (by simp[results,Tryz.results26,go_sem]) rfl ?_;refine KY OT.o [⟨⟨⟨#[116]⟩,3,[],0,0⟩,none,0,0⟩] (t:=101) (by omega) (by intro v hv b off he;simp only[bK,bQ,or_false] at hv;(repeat' (rcases hv with rfl|hv))<;>(try subst hv)<;>simp at he<;>omega) ?_ rfl rfl (by simp[jw]) (by intro v hv;simp at hv;subst hv;exact kX _) (((Ext.refl w).alloc _).alloc _);simpa[vK.cells] using dG (w.alloc (.cells #[.slice (some ⟨w.heap.size+1,0,none⟩) 1 1] 24)) (.cells #[.string ⟨#[116]⟩,.int .i64 3,.slice none 0 0,.int .i64 0,.int .i64 0] 101)
mutual
def Ex.depth:Ex->Nat
 | .mk _ _ _ _ _ args=>depths args+1
def depths:List Ex->Nat
 | []=>0
 | e::r=>max e.depth (depths r)
end
theorem Ex.zK (e:Ex):e.depth=depths e.args+1:=by cases e;simp[Ex.depth,Ex.args]
theorem Ex.size_eq (e:Ex):e.size=1+sizes e.args:=by cases e;simp[Ex.size,Ex.args]
theorem alN {l:List Ex} {e:Ex} (h:e∈l):e.depth<=depths l:=by
 induction l with
 | nil=>simp at h
 | cons a r ih =>
  rcases bK.1 h with rfl|h
  ·simp only[depths];omega
  have:=ih h;simp only[depths];omega
def lT:fU:=⟨0,⟨#[]⟩,none,0,0,0,0,none,0,0⟩
theorem dO.sub {N:ZN} {w w':World} (h:dO N w w'):Sub (mask w N) (mask w' N):=dX fun k hk hn=>⟨hn,h.block k hk hn⟩
theorem eG {M N:ZN} (w:World) (h:∀y∈M,y∈N):Sub (mask w N) (mask w M):=dX fun k _ hn=>⟨fun h'=>hn (h k h'),rfl⟩
def yV (w:World) (l:List Ex) (xs:List fU):Prop:=l.length=xs.length/\∀i (h1:i<l.length) (h2:i<xs.length),fC w l[i] xs[i].val
theorem yV.mono {w w':World} {l:List Ex} {xs:List fU} (h:yV w l xs) (hs:Sub w w'):yV w' l xs:=⟨h.1,fun i h1 h2=>(h.2 i h1 h2).mono hs⟩
theorem yV.nil (w:World):yV w [] []:=⟨rfl,fun i h=>by simp at h⟩
theorem yV.snoc {w:World} {l:List Ex} {xs:List fU} {e:Ex} {x:fU} (h:yV w l xs) (hx:fC w e x.val):yV w (l++[e]) (xs++[x]):=by
 refine⟨by simp[h.1],fun i h1 h2=>?_⟩;by_cases hi:i<l.length
 ·have hi2:i<xs.length:=by rw[<-h.1];exact hi
  simp only[bT hi,bT hi2];exact h.2 i hi hi2
 have e1:i=l.length:=by simp at h1;omega
 subst e1;simp only[cZ (bg _),cZ (show xs.length<=l.length by rw[h.1];exact bg _),Nat.sub_self,bP];simpa[h.1] using hx
theorem tX (x:fU):x.cells.length=6:=rfl
theorem Rk {w:World} {M:ZN} {base:Nat} {v:Value} {l:List Ex} {xs:List fU} (h:w.ownsRow base 45 6 v l.length (xs.flatMap fU.cells)) (hM:∀k,v.ownBlock=some k->k∉M) (hR:yV (mask w M) l xs) :
  ∃a c,v=.slice a l.length c/\l.length<=c/\rP a c/\iK (mask w M) l a:=by
 rw[hR.1] at h;obtain⟨a,c,rfl,hr⟩:=iF.kZ tX h;refine⟨a,c,by rw[hR.1],by rw[hR.1];exact hr.2.1,hr.2.2.1,?_⟩
 match l,hR with
 | [],_=>unfold iK;trivial
 | e::r,hR =>
  obtain⟨b,off,rfl,h1⟩:=hr.2.2.2 0 (by rw[<-hR.1];simp);refine iK.of (e::r) off xs hR.1 fun i h3 h4=>⟨fun j hj=>?_,hR.2 i h3 h4⟩
  obtain⟨b',off',e1,h5⟩:=hr.2.2.2 i h4;simp only[Option.some.injEq,Addr.mk.injEq,and_true] at e1;obtain⟨rfl,rfl⟩:=e1;rw[iH,dh (hM _ rfl),h5 j (by rw[tX];exact hj),aZ (by rw[tX];exact hj)]
theorem aMs {w:World} {M:ZN} {g:Nat} {e:Ex} {x:fU} {t:TypeId} (h:w.heap[g]?=some (.cells x.cells.toArray t (0,0))) (hM:g∉M) (hx:fC (mask w M) e x.val):iK (mask w M) [e] (some ⟨g,0,none⟩):=by
 refine iK.of [e] 0 [x] rfl fun i h1 h2=>?_
 obtain rfl:i=0:=by simp at h1;exact h1
 refine⟨fun j hj=>?_,hx⟩;rw[iH,dh hM,dM h];simp
theorem ae6 {w:World} {M:ZN} {g:Nat} {e:Ex} {x:fU} {t:TypeId} (h:w.heap[g]?=some (.cells x.cells.toArray t (0,0))) (hM:g∉M) (hx:fC (mask w M) e x.val) :
  fC (mask w M) (.mk 6 ⟨#[]⟩ [] 0 0 [e]) (exV 6 ⟨#[]⟩ none 0 0 0 0 (some ⟨g,0,none⟩) 1 1) :=
 fC.mk ⟨rfl,by omega,Or.inl ⟨rfl,rfl⟩,fun i hi=>by simp at hi⟩ rfl (by simp) (Or.inr ⟨g,0,rfl⟩) (aMs h hM hx)
def FC (w:World) (B:Nat) (x:fU):World:=(((((w.setCell ⟨B,0,none⟩ (.int .i64 x.op)).setCell ⟨B,1,none⟩ (.string x.name)).setCell ⟨B,2,none⟩ (.slice x.aw x.nw x.cw)).setCell ⟨B,3,none⟩ (.int .i64 x.lo)).setCell ⟨B,4,none⟩ (.int .i64 x.hi)).setCell ⟨B,5,none⟩ (.slice x.aa x.na x.ca)
theorem rE (w:World) (B:Nat) (x:fU) {N:ZN} (h:B∈N):dO N w (FC w B x):=by
 unfold FC
 repeat (with_reducible (refine dO.setCell ?_ ?_ _))
 exact dO.refl _ _
 all_goals exact Or.inl h
theorem agq (w:World) (B:Nat) (x:fU):(FC w B x).heap.size=w.heap.size:=by simp[FC]
def gK (ops:Array Oper) (j:Nat):Option Tmp:=(ops[j]?).bind (·.dst)
def acts (ops:Array Oper) (a:Act) (vs:Nat->Value) (L:ZN):Act:=L.foldl (fun b j=>b.put (gK ops j) (vs j)) a
theorem ab5 (ops:Array Oper) (a:Act) (vs:Nat->Value) (L:ZN) (i:Nat):acts ops a vs (L++[i])=(acts ops a vs L).put (gK ops i) (vs i):=by simp[acts]
theorem ad7 {ops:Array Oper} {a:Act} {vs vs':Nat->Value} {L:ZN} (h:∀j∈L,vs j=vs' j):acts ops a vs L=acts ops a vs' L:=by
 unfold acts;induction L generalizing a with
 | nil=>rfl
 | cons x r ih=>simp only[bF,h x (by simp)];exact ih (fun j hj=>h j (bH _ hj))
theorem aki (a:Act) (d:Option Tmp) (v:Value):(a.put d v).tmps.size=a.tmps.size:=by cases d<;>simp[Act.put]
theorem ag9 (ops:Array Oper) (a:Act) (vs:Nat->Value) (L:ZN):(acts ops a vs L).tmps.size=a.tmps.size:=by
 unfold acts;induction L generalizing a with
 | nil=>rfl
 | cons x r ih=>rw[bF,ih,aki]
def NP (ops:Array Oper):Prop:=∀i j d,gK ops i=some d->gK ops j=some d->i=j
theorem acH (a:Act) (t:Tmp) (v:Value):(a.put (some t) v).eval (.tmp t)=if t<a.tmps.size then v else undef:=by
 by_cases h:t<a.tmps.size
 ·rw[dw h];simp[Act.put,Act.eval,h]
 rw[dh h];simp only[Act.put,Act.eval];rw[Array.setIfInBounds_eq_of_size_le (Nat.le_of_not_lt h)];simp;rw[Array.getElem?_eq_none (Nat.le_of_not_lt h)];rfl
theorem zM {ops:Array Oper} (hd:NP ops) {a:Act} {vs:Nat->Value} {L:ZN} {t:Tmp} {j:Nat} (hj:j∈L) (ht:gK ops j=some t):(acts ops a vs L).eval (.tmp t)=if t<a.tmps.size then vs j else undef:=by
 induction L generalizing a with
 | nil=>simp at hj
 | cons x r ih =>
  simp only[acts,bF];by_cases hjr:j∈r
  ·have:=ih (a:=a.put (gK ops x) (vs x)) hjr;rw[aki] at this;exact this
  obtain rfl:j=x:=by rcases bK.1 hj with h|h;exact h;exact absurd h hjr
  have:∀(b:Act),(acts ops b vs r).eval (.tmp t)=b.eval (.tmp t):=by
   clear ih hj;induction r with
   | nil=>intro b;rfl
   | cons y s ih =>
    intro b;simp only[acts,bF];have h1:=ih (fun h=>hjr (bH _ h)) (b.put (gK ops y) (vs y));simp only[acts] at h1;rw[h1];exact Act.eval_put (fun d hd' e=>by
     injection e with e
     subst e;exact hjr (by rw[hd _ _ _ ht hd'];simp))
  have h2:=this (a.put (gK ops j) (vs j));simp only[acts] at h2;rw[h2,ht,acH]
theorem DF {ops:Array Oper} {a:Act} {vs:Nat->Value} {L:ZN} {t:Tmp} (ht:∀j∈L,gK ops j≠some t):(acts ops a vs L).eval (.tmp t)=a.eval (.tmp t):=by
 induction L generalizing a with
 | nil=>rfl
 | cons x r ih =>
  simp only[acts,bF];have:=ih (a:=a.put (gK ops x) (vs x)) (fun j hj=>ht j (bH _ hj));simp only[acts] at this;rw[this];exact Act.eval_put (fun d hd' e=>by injection e with e;subst e;exact ht x (by simp) hd')
theorem ab6 {ops:Array Oper} (hd:NP ops) {a:Act} {vs:Nat->Value} {L L':ZN} (h:L.Perm L'):acts ops a vs L=acts ops a vs L':=by
 refine List.Perm.foldl_eq' h (fun x _ y _ z=>?_) a;by_cases hxy:x=y
 ·subst hxy;rfl
 exact Act.put_comm _ _ _ (fun d hx hy=>hxy (hd _ _ _ hx hy))
def agG (e:Edge):Bool:=match e.ground with|.data=>true|_=>false
def akK (ops:Array Oper) (m:Nat):Bool :=
 Region.noSelect ops&&decide (m<=ops.size)&&decide (ops.size<=m+1) &&
 ((List.range ops.size).all fun i=>(List.range ops.size).all fun j=>i==j||gK ops i==none||gK ops i != gK ops j) &&
 ((List.range ops.size).all fun i=>match ops[i]? with
  | none=>false
  | some o=>(o.guard==none||i==m)&&(o.after.all fun e=>(!Region.binds .any e||decide (e.on<i))&&(!agG e||Region.binds .any e)) &&
   ((List.range m).all fun j=>match gK ops j with
    | none=>true
    | some t=>!(o.looksAt ops).contains t||(i==m)||o.after.any (fun e=>Region.binds .any e&&e.on==j)) &&
   (i != m||(List.range m).all fun j=>o.after.any (fun e=>Region.binds .any e&&e.on==j)))
theorem au5 {ops:Array Oper} {m:Nat} (h:akK ops m=true):Region.noSelect ops=true/\m<=ops.size/\ops.size<=m+1/\NP ops /\
  (∀i o,ops[i]?=some o->(i<m->o.guard=none)/\(∀e∈o.after,(Region.binds .any e=true->e.on<i)/\(agG e=true->Region.binds .any e=true))/\(i<m->∀j t,j<m->gK ops j=some t->t∈o.looksAt ops->∃e∈o.after,Region.binds .any e=true/\e.on=j) /\
   (i=m->∀j,j<m->∃e∈o.after,Region.binds .any e=true/\e.on=j)):=by
 simp only[akK,aJ,aN] at h;obtain⟨⟨⟨⟨h1,h2⟩,h3⟩,h4⟩,h5⟩:=h;refine⟨h1,h2,h3,?_,?_⟩
 ·intro i j d hi hj;have li:i<ops.size:=by
   unfold gK at hi;rcases cO i ops.size with h|h
   ·exact h
   rw[Array.getElem?_eq_none h] at hi;simp at hi
  have lj:j<ops.size:=by
   unfold gK at hj;rcases cO j ops.size with h|h
   ·exact h
   rw[Array.getElem?_eq_none h] at hj;simp at hj
  have:=aV.1 (aV.1 h4 i (by simpa using li)) j (by simpa using lj);simpa[hi,hj] using this
 intro i o ho;have li:i<ops.size:=(aW.1 ho).1;have h6:=aV.1 h5 i (by simpa using li);simp only[ho,aJ] at h6;obtain⟨⟨⟨g1,g2⟩,g3⟩,g4⟩:=h6;refine⟨fun hm=>?_,fun e he=>?_,fun hm j t hjm hj ht=>?_,fun hm j hj=>?_⟩
 ·rcases Bool.or_eq_true_iff.1 g1 with g|g
  ·simpa using g
  have:i=m:=by simpa using g
  omega
 ·have:=Array.all_eq_true_iff_forall_mem.1 g2 e he;simp only[aJ,bV,Bool.not_eq_true',aN] at this;refine⟨fun hb=>?_,fun hb=>?_⟩
  ·rcases this.1 with h|h
   ·rw[hb] at h;cases h
   exact h
  rcases this.2 with h|h
  ·rw[hb] at h;cases h
  exact h
 ·have:=aV.1 g3 j (by simpa using hjm);rw[hj] at this;simp only[bV,Bool.not_eq_true'] at this;rcases this with (h|h)|h
  ·rw[List.contains_iff_mem.2 ht] at h;cases h
  ·have:i=m:=by simpa using h
   omega
  obtain⟨e,he,hb⟩:=Array.any_eq_true'.1 h;simp only[aJ,beq_iff_eq] at hb;exact⟨e,he,hb.1,hb.2⟩
 subst hm;rcases Bool.or_eq_true_iff.1 g4 with g|g
 ·simp at g
 have:=aV.1 g j (by simpa using hj);obtain⟨e,he,hb⟩:=Array.any_eq_true'.1 this;simp only[aJ,beq_iff_eq] at hb;exact⟨e,he,hb.1,hb.2⟩
def dF (P:Program) (o:Oper) (ρ:Operand->Value) (W:World) (T:Value->World->Prop):Prop:=match (execOp ρ o).run P W with
 | .ok (.value v) W'=>T v W'
 | .ok .skip W'=>T undef W'
 | .ok (.enter f args) W'=>Calls P f args W' (fun e W''=>∃v,e=.returned v/\T v W'')
 | _=>False
theorem dF.wp {P:Program} {o:Oper} {ρ:Operand->Value} {a':Act} {W:World} {T:Value->World->Prop} {Q:Exit->Act->World->Prop} (h:dF P o ρ W T) (he:execOp a'.eval o=execOp ρ o) :
  o.wp P a' W (fun a'' W'=>∃v,a''=a'.put o.dst v/\T v W') Q:=by
 unfold dF at h;unfold Oper.wp;rw[he];generalize (execOp ρ o).run P W=r at *;cases r with
 | ok n w' =>
  cases n<;>simp only at h<;>simp only[Oper.upon]
  case value v=>exact⟨v,rfl,h⟩
  case skip=>exact⟨undef,rfl,h⟩
  case enter f args =>
   refine Calls.mono h (fun e w'' he=>?_);obtain⟨v,rfl,ht⟩:=he;exact⟨v,rfl,ht⟩
 | halt x w'=>simp only at h
structure aAk (ops:Array Oper) (a:Act) (m:Nat) (vs:Nat->Value) (ρ:Operand->Value):Prop where
 ins:∀j t,j<m->gK ops j=some t->t<a.tmps.size->ρ (.tmp t)=vs j
 out:∀t,((List.range m).all fun j=>gK ops j != some t)=true->ρ (.tmp t)=a.eval (.tmp t)
 const:∀c,ρ (.const c)=c
 glob:∀g,ρ (.global g)=.pointer (some ⟨g,0,none⟩)
 func:∀f,ρ (.func f)=.func (.func f) #[] #[]
theorem aoy {ops:Array Oper} (hd:NP ops) (a:Act) (m:Nat) (vs:Nat->Value):aAk ops a m vs (acts ops a vs (List.range m)).eval where
 ins:=fun j t hj ht hs=>by rw[zM hd (by simpa using hj) ht,dw hs]
 out:=fun t ht=>DF (fun j hj=>by have:=aV.1 ht j hj;simpa using this)
 const:=fun _=>rfl
 glob:=fun _=>rfl
 func:=fun _=>rfl
def upd (vs:Nat->Value) (i:Nat) (v:Value):Nat->Value:=fun j=>if j=i then v else vs j
def jd (ops:Array Oper):Nat->Nat->Nat->Bool
 | 0,_,_=>false
 | f+1,i,k=>match ops[i]? with
  | none=>false
  | some o=>o.after.any fun e=>Region.binds .any e&&(e.on==k||jd ops f e.on k)
theorem AV {ops:Array Oper} {L:ZN} (hcl:∀i∈L,∀o,ops[i]?=some o->∀e∈o.after,Region.binds .any e=true->e.on∈L):∀(f i k:Nat),i∈L->jd ops f i k=true->k∈L:=by
 intro f;induction f with
 | zero=>intro i k _ h;simp[jd] at h
 | succ f ih =>
  intro i k hi h;rw[jd] at h;cases ho:ops[i]? with
  | none=>rw[ho] at h;cases h
  | some o =>
   rw[ho] at h;obtain⟨e,he,hb⟩:=Array.any_eq_true'.1 h;simp only[aJ,bV,beq_iff_eq] at hb;have hm:=hcl i hi o ho e he hb.1;rcases hb.2 with h1|h1
   ·rw[<-h1];exact hm
   exact ih e.on k hm h1
theorem LV {ops:Array Oper} {L:ZN} (hcl:∀i∈L,∀o,ops[i]?=some o->∀e∈o.after,Region.binds .any e=true->e.on∈L) {i:Nat} {o:Oper} (ho:ops[i]?=some o) (hd:∀e∈o.after,Region.binds .any e=true->e.on∈L):∀(f k:Nat),jd ops f i k=true->k∈L:=by
 intro f k h;cases f with
 | zero=>simp[jd] at h
 | succ f =>
  rw[jd,ho] at h;obtain⟨e,he,hb⟩:=Array.any_eq_true'.1 h;simp only[aJ,bV,beq_iff_eq] at hb;have hm:=hd e he hb.1;rcases hb.2 with h1|h1
  ·rw[<-h1];exact hm
  exact AV hcl f e.on k hm h1
def ae0 (ops:Array Oper) (c i:Nat):Bool:=match ops[c]? with|none=>false|some o=>o.after.any fun e=>agG e&&e.on==i
def qI (ops:Array Oper) (m:Nat) (Kp:ZN) (i k:Nat):Bool:=!jd ops m i k&&(Kp.contains i||(List.range m).any fun c=>c != k&&!jd ops m k c&&ae0 ops c i)
section
variable {P:Program} {ops:Array Oper} {Q:Exit->Act->World->Prop} {a:Act} {m:Nat} (Kp:ZN) (G:ZN->World->Prop) (E:Nat->World->World->Prop) (R:Nat->Value->World->Prop)
theorem axR (hok:akK ops m=true) (hRE:∀i k v W W',i<m->k<m->i≠k->qI ops m Kp i k=true->R i v W->E k W W'->R i v W')
  (hstep:∀i o,i<m->ops[i]?=some o->∀L vs W,i∉L->(∀j∈L,jd ops m j i=false)->G L W->(∀e∈o.after,agG e=true->R e.on (vs e.on) W)->∀ρ,aAk ops a m vs ρ->dF P o ρ W (fun v W'=>E i W W'/\G (L++[i]) W'/\R i v W'))
  (hend:∀L vs W,(∀j,j<m->j∈L)->G L W->(∀j∈Kp,j<m->R j (vs j) W)->if m=ops.size then Q .normal (acts ops a vs (List.range m)) W else wpOp P ops Q m (fun a w=>Q .normal a w) (acts ops a vs (List.range m)) W) :
  ∀(fuel:Nat) (L:ZN) (vs:Nat->Value) (W:World) (listed:Array Bool),listed.size=ops.size->(∀j,j<ops.size->(listed.getD j true=true ↔ j∈L))->L.Nodup->(∀j∈L,j<m)->((List.range ops.size).filter (fun j=>!L.contains j)).length<=fuel->G L W->(∀i∈L,∀o,ops[i]?=some o->∀e∈o.after,Region.binds .any e=true->e.on∈L)->(∀j∈L,(j∈Kp\/∃c,c<m/\c∉L/\ae0 ops c j=true)->R j (vs j) W) ->
   wpAny P .any ops Q fuel listed (acts ops a vs L) W:=by
 obtain⟨hns,hm1,hm2,hda,hspec⟩:=au5 hok;have hperm:∀L:ZN,L.Nodup->(∀j∈L,j<m)->(∀j,j<m->j∈L)->L.Perm (List.range m):=fun L h1 h2 h3 =>
  (List.perm_ext_iff_of_nodup h1 List.nodup_range).2 (fun j=>⟨fun h=>by simpa using h2 j h,fun h=>h3 j (by simpa using h)⟩)
 have hall:∀(L:ZN) (listed:Array Bool),listed.size=ops.size->(∀j,j<ops.size->(listed.getD j true=true ↔ j∈L))->(∀j∈Region.ready .any ops listed,¬j<m)->∀j,j<m->j∈L:=by
  intro L listed hsz hL hr j;induction j using Nat.strongRecOn with
  | _ j ih =>
   intro hj;by_cases Zt:j∈L
   ·exact Zt
   exfalso;refine hr j ?_ hj;have hjs:j<ops.size:=by omega
   rw[mem_ready];obtain⟨o,ho⟩:∃o,ops[j]?=some o:=⟨ops[j],bG hjs⟩
   refine⟨?_,o,ho,fun e he hb=>?_⟩
   ·cases hx:listed.getD j true
    ·rfl
    exact absurd ((hL j hjs).1 hx) Zt
   have hlt:=((hspec j o ho).2.1 e he).1 hb;have hm:=ih e.on hlt (by omega);have:=(hL e.on (by omega)).2 hm;have hin:e.on<listed.size:=by rw[hsz];omega
   simpa[Array.getD,hin] using this
 have hfin:∀(L:ZN) (vs:Nat->Value) (W:World),L.Nodup->(∀j∈L,j<m)->(∀j,j<m->j∈L)->G L W->(∀j∈L,(j∈Kp\/∃c,c<m/\c∉L/\ae0 ops c j=true)->R j (vs j) W) ->
   if m=ops.size then Q .normal (acts ops a vs L) W else wpOp P ops Q m (fun a w=>Q .normal a w) (acts ops a vs L) W:=by
  intro L vs W hnd pR hcov hE hR;rw[ab6 hda (hperm L hnd pR hcov)];exact hend L vs W hcov hE (fun j hk hj=>hR j (hcov j hj) (Or.inl hk))
 intro fuel;induction fuel with
 | zero =>
  intro L vs W listed hsz hL hnd pR hlen hE hcl hR;have hcov:∀j,j<ops.size->j∈L:=fun j hj=>by
   have h0:=aX (Nat.le_zero.1 hlen);have:j∉(List.range ops.size).filter (fun j=>!L.contains j):=by rw[h0];simp
   simpa[hj] using this
  have hmn:m=ops.size:=by
   rcases cO m ops.size with h|h
   ·have:=pR m (hcov m h);omega
   omega
  have hf:=hfin L vs W hnd pR (fun j hj=>hcov j (by omega)) hE hR;rw[dw hmn] at hf;refine⟨?_,hf⟩;rw[List.eq_nil_iff_forall_not_mem];intro j hj;obtain⟨h0,o,ho,_⟩:=mem_ready.1 hj;have:=(hL j (aW.1 ho).1).2 (hcov j (aW.1 ho).1);rw[this] at h0;cases h0
 | succ fuel ih =>
  intro L vs W listed hsz hL hnd pR hlen hE hcl hR;refine⟨fun hr=>?_,fun i hi=>?_⟩
  ·have hcov:=hall L listed hsz hL (by rw[hr];simp);have hf:=hfin L vs W hnd pR hcov hE hR;by_cases hmn:m=ops.size
   ·rw[dw hmn] at hf;exact hf
   exfalso;have hms:m<ops.size:=by omega
   have:m∈Region.ready .any ops listed:=by
    rw[mem_ready];obtain⟨o,ho⟩:∃o,ops[m]?=some o:=⟨ops[m],bG hms⟩
    refine⟨?_,o,ho,fun e he hb=>?_⟩
    ·cases hx:listed.getD m true
     ·rfl
     have:=pR m ((hL m hms).1 hx);omega
    have hlt:=((hspec m o ho).2.1 e he).1 hb;have:=(hL e.on (by omega)).2 (hcov e.on hlt);have hin:e.on<listed.size:=by rw[hsz];omega
    simpa[Array.getD,hin] using this
   rw[hr] at this;simp at this
  obtain⟨h0,o,ho,azE⟩:=mem_ready.1 hi;have his:i<ops.size:=(aW.1 ho).1;have hiL:i∉L:=fun h=>by rw[(hL i his).2 h] at h0;cases h0
  have Nv:∀e∈o.after,Region.binds .any e=true->e.on∈L:=fun e he hb=>by
   have h1:=azE e he hb;have hlt:=((hspec i o ho).2.1 e he).1 hb;have hin:e.on<listed.size:=by rw[hsz];omega
   exact(hL e.on (by omega)).1 (by simpa[Array.getD,hin] using h1)
  have hlist:∀j,j<ops.size->((listed.setIfInBounds i true).getD j true=true ↔ j∈L++[i]):=fun j hj=>by
   by_cases hij:i=j
   ·subst hij;simp[hsz,his]
   rw[getD_set_ne true hij,hL j hj];simp;intro e;exact absurd e.symm hij
  by_cases him:i<m
  ·
   have hnc:∀j∈L,jd ops m j i=false:=fun j hj=>by
    cases hx:jd ops m j i
    ·rfl
    exact absurd (AV hcl m j i hj hx) hiL
   have hg:=hstep i o him ho L vs W hiL hnc hE (fun e he hb=>hR _ (Nv e he (((hspec i o ho).2.1 e he).2 hb)) (Or.inr ⟨i,him,hiL,by unfold ae0;rw[ho];exact Array.any_eq_true'.2 ⟨e,he,by simp[hb]⟩⟩)) _ (aoy hda a m vs);have hex:execOp (acts ops a vs L).eval o=execOp (acts ops a vs (List.range m)).eval o:=by
    refine execOp_congr o (Region.noSelect_spec hns i o · · ho) (fun x hx=>?_);cases x with
    | tmp t =>
     have hlook:t∈o.looksAt ops:=aQ _ (List.mem_filterMap.2 ⟨.tmp t,by simpa using hx,rfl⟩);by_cases hex:∃j,j<m/\gK ops j=some t
     ·obtain⟨j,hjm,hj⟩:=hex;obtain⟨e,he,hb,rfl⟩:=(hspec i o ho).2.2.1 him j t hjm hj hlook;have Zt:=Nv e he hb;rw[zM hda Zt hj,zM hda (by simpa using pR _ Zt) hj]
     have h1:∀j,j<m->gK ops j≠some t:=fun j hjm hj=>hex ⟨j,hjm,hj⟩
     rw[DF (fun j Zt=>h1 j (pR j Zt)),DF (fun j hjr=>h1 j (by simpa using hjr))]
    | const v=>rfl
    | global g=>rfl
    | func f=>rfl
   unfold wpOp;simp only[ho];rw[dw (by unfold Region.wanted;rw[(hspec i o ho).1 him])]
   left
   refine Oper.wp_mono ?_ (hg.wp hex);rintro a' W' ⟨v,rfl,hEW,hE',hRv⟩;have e1:(acts ops a vs L).put o.dst v=acts ops a (upd vs i v) (L++[i]):=by
    rw[ab5,ad7 (vs:=upd vs i v) (vs':=vs) (fun j hj=>by unfold upd;rw[dh (fun e=>hiL (by rw[<-e];exact hj))])];simp[upd,gK,ho]
   rw[e1];refine ih (L++[i]) (upd vs i v) W' _ (by simpa using hsz) hlist ?_ ?_ ?_ hE' ?_ ?_
   ·rw[List.nodup_append];exact⟨hnd,by simp,fun x hx y hy e=>by simp at hy;subst hy;subst e;exact hiL hx⟩
   ·intro j hj;rcases aT.1 hj with h|h
    ·exact pR j h
    simp at h;omega
   ·have h1:(List.range ops.size).filter (fun j=>!(L++[i]).contains j)=((List.range ops.size).filter (fun j=>!L.contains j)).filter (fun j=>j != i):=by
     rw[List.filter_filter]
     congr 1
     funext j
     simp only[List.contains_append,Bool.not_or];rw[Bool.and_comm]
     congr 1
     rw[bW];simp[bne]
    have h2:(((List.range ops.size).filter (fun j=>!L.contains j)).filter (fun j=>j != i)).length<((List.range ops.size).filter (fun j=>!L.contains j)).length:=by
     rw[List.length_filter_lt_length_iff_exists];exact⟨i,by simp[his,hiL],by simp⟩
    rw[h1];omega
   ·intro j hj o' ho' e he hb;rcases aT.1 hj with h|h
    ·exact aQ _ (hcl j h o' ho' e he hb)
    simp at h;subst h;rw[ho] at ho';cases ho'
    exact aQ _ (Nv e he hb)
   intro j hj hlive;rcases aT.1 hj with h|h
   ·have:upd vs i v j=vs j:=by unfold upd;rw[dh (fun e=>hiL (by rw[<-e];exact h))]
    rw[this];have azB:j∈Kp\/∃c,c<m/\c∉L/\ae0 ops c j=true:=hlive.imp id (fun ⟨c,h1,h2,h3⟩=>⟨c,h1,fun hc=>h2 (aQ _ hc),h3⟩);refine hRE j i _ W W' (pR j h) him (fun e=>hiL (e ▸ h)) ?_ (hR j h azB) hEW;unfold qI;rw[aJ,Bool.not_eq_true',bV];refine⟨?_,?_⟩
    ·cases hx:jd ops m j i
     ·rfl
     exact absurd (AV hcl m j i h hx) hiL
    rcases hlive with hk|⟨c,h1,h2,h3⟩
    ·exact Or.inl (List.contains_iff_mem.2 hk)
    refine Or.inr (List.any_eq_true.2 ⟨c,by simpa using h1,?_⟩);rw[h3,Bool.and_true,aJ,bne_iff_ne,Bool.not_eq_true'];refine⟨fun e=>by subst e;exact h2 (by simp),?_⟩;cases hx:jd ops m i c
    ·rfl
    exact absurd (aQ _ (LV hcl ho Nv m c hx)) h2
   simp at h;subst h;simpa[upd] using hRv
  obtain rfl:i=m:=by omega
  have hcov:∀j,j<i->j∈L:=fun j hj=>by
   obtain⟨e,he,hb,rfl⟩:=(hspec i o ho).2.2.2 rfl j hj;exact Nv e he hb
  have hf:=hfin L vs W hnd pR hcov hE hR;rw[dh (by omega)] at hf;refine wpOp_mono (fun a' W' hq=>?_) hf;refine wpAny_done ?_ hq fuel;rw[List.eq_nil_iff_forall_not_mem];intro j hj;obtain⟨h0',o',ho',_⟩:=mem_ready.1 hj;have hjs:=(aW.1 ho').1;have:j∈L++[i]:=by
   by_cases hji:j<i
   ·exact aQ _ (hcov j hji)
   have:j=i:=by omega
   simp[this]
  rw[(hlist j hjs).2 this] at h0';cases h0'
theorem og {id:Nat} {w:World} (hm:P.follows .mixedOrders=true) (hok:akK ops m=true) (hG:G [] w.drew) (hRE:∀i k v W W',i<m->k<m->i≠k->qI ops m Kp i k=true->R i v W->E k W W'->R i v W')
  (hstep:∀i o,i<m->ops[i]?=some o->∀L vs W,i∉L->(∀j∈L,jd ops m j i=false)->G L W->(∀e∈o.after,agG e=true->R e.on (vs e.on) W)->∀ρ,aAk ops a m vs ρ->dF P o ρ W (fun v W'=>E i W W'/\G (L++[i]) W'/\R i v W'))
  (hend:∀L vs W,(∀j,j<m->j∈L)->G L W->(∀j∈Kp,j<m->R j (vs j) W)->if m=ops.size then Q .normal (acts ops a vs (List.range m)) W else wpOp P ops Q m (fun a w=>Q .normal a w) (acts ops a vs (List.range m)) W) :
  (Code.region id ops true).wp P Q a w:=by
 refine wp_region_any hm ?_;refine axR Kp G E R hok hRE hstep hend ops.size [] (fun _=>undef) _ _ (by simp) (fun j hj=>?_) List.nodup_nil (fun j hj=>by simp at hj) ?_ hG (fun j hj=>by simp at hj) (fun j hj=>by simp at hj)
 ·simp[hj]
 exact bC (List.length_filter_le _ _) (by simp)
end
section
variable {P:Program} {ops:Array Oper} {Q:Exit->Act->World->Prop} {a:Act} {m:Nat} (Kp:ZN) (G:World->Prop) (E:Nat->World->World->Prop) (R:Nat->Value->World->Prop)
theorem iP {id:Nat} {w:World} (hm:P.follows .mixedOrders=true) (hok:akK ops m=true) (hG:G w.drew) (hRE:∀i k v W W',i<m->k<m->i≠k->qI ops m Kp i k=true->R i v W->E k W W'->R i v W')
  (hstep:∀i o,i<m->ops[i]?=some o->∀vs W,G W->(∀e∈o.after,agG e=true->R e.on (vs e.on) W)->∀ρ,aAk ops a m vs ρ->dF P o ρ W (fun v W'=>E i W W'/\G W'/\R i v W'))
  (hend:∀vs W,G W->(∀j∈Kp,j<m->R j (vs j) W)->if m=ops.size then Q .normal (acts ops a vs (List.range m)) W else wpOp P ops Q m (fun a w=>Q .normal a w) (acts ops a vs (List.range m)) W) :
  (Code.region id ops true).wp P Q a w :=
 og Kp (fun _ W=>G W) E R hm hok hG hRE (fun i o hi ho _ vs W _ _=>hstep i o hi ho vs W) (fun _ vs W _=>hend vs W)
end
theorem aAk.i {ops : Array Oper} {a : Act} {m : Nat} {vs : Nat -> Value} {ρ : Operand -> Value} (h : aAk ops a m vs ρ) (j t : Nat) (h1 : j < m := by omega) (h2 : gK ops j = some t := by rfl) (h3 : Nat.ble (t + 1) a.tmps.size = true := by rfl) : ρ (.tmp t) = vs j := h.ins j t h1 h2 (Nat.le_of_ble_eq_true h3)
theorem mF {t e:TypeId} {z:Value} {size bytes:Nat} (E:zh t e z size bytes) {ρ:Operand->Value} {W:World} {T:Value->World->Prop} {dst:Option Tmp} {ty:TypeId} {pos:String} {after:Array Edge} {guard:Option (Nat×Bool)}
  (s x:Operand) (base:Nat) (v:Value) (n:Nat) (xs:List Value) (hs:ρ s=v) (B m c:Nat) (news:List Value) (hx:ρ x=.slice (some ⟨B,0,none⟩) m c) (hl:news.length=m*size) (h1:∀u∈news,u.oneCell'=true) (hm:0<m) (hn:n+m<=100000000) (hb:bytes<=1000)
  (hown:W.ownsRow base e size v n xs) (hnews:∀j (h:j<news.length),W.cell? ⟨B,j,none⟩=some news[j]) (hbase:base<=W.heap.size)
  (h:∀g cap w',w'.ownsRow base e size (.slice (some ⟨g,0,none⟩) (n+m) cap) (n+m) (xs++news)->W.grownBy w' v.ownBlock->(v.ownBlock=some g\/g=W.heap.size)->g<w'.heap.size->T (.slice (some ⟨g,0,none⟩) (n+m) cap) w') :
  dF Tryz.prog { dst:=dst,op:=.call { callee:=.builtin .append,args:=#[s,x],argTypes:=#[t,t] },type:=ty,pos:=pos,after:=after,guard:=guard } ρ W T:=by
 obtain⟨i,hi,hz,hsz,hby⟩:=info_parts E.info;obtain⟨g,cap,w',hrun,h2,h3,h4,h5⟩:=run_append_lies (P:=Tryz.prog) W t ty base e i z size bytes E.ht hi hz hsz hby E.hzs E.hsz v n xs hown ⟨B,0,none⟩ m c news hl (by
   intro j u hu;obtain⟨hj,rfl⟩:=List.getElem?_eq_some_iff.1 hu;have:(⟨B,0,none⟩:Addr).add j=⟨B,j,none⟩:=by unfold Addr.add;split<;>simp_all
   rw[this];exact hnews j hj) h1 hm (by simp only[maxLen];omega) (by
   calc (n+m)*bytes<=100000000*1000:=Nat.mul_le_mul hn hb
    _<=140737488355328:=by omega) hbase _ rfl
 unfold dF;have he:execOp ρ { dst:=dst,op:=.call { callee:=.builtin .append,args:=#[s,x],argTypes:=#[t,t] },type:=ty,pos:=pos,after:=after,guard:=guard }=(do pure (.value (<-Builtin.append_ #[t,t] ty #[v,.slice (some ⟨B,0,none⟩) m c]))):=by
  rw[<-hs,<-hx,BigFrame.execOp_builtin,BigFrame.builtin_append];simp
 rw[he];simp only[Sem.run_bind,hrun];exact h g cap w' h2 h3 h4 h5
theorem alloc_at {w:World} {o:Obj} {n:Nat} (h:n=w.heap.size):(w.alloc o).heap[n]?=some o:=by subst h;exact dG w o
end Go.Proofs.YtefjomofjejklaaGreatDoor
