/- Joined. -/
import Derived.Test.YtefjomofjejklaaGreatDoorDi01
import Derived.IntWalk
import Derived.Carry
import Derived.ChangeSlices
import Derived.SizedLaws
import Derived.Test.YtefjomofjejklaaGreatDoorRows
import Derived.Deep.AppendLies
import Derived.Deep.RegionLaw
import Derived.RegionTactic
namespace Go.Proofs.YtefjomofjejklaaGreatDoor
set_option maxRecDepth 100000
set_option maxHeartbeats 32000000
open Go.RowKit
theorem Gt {f:FuncId} {args:Array Value} {w:World} {n:Nat} {v:Value} (h:Calls Tryz.prog f args (w.drewN n) (pg v (w.drewN n))):Calls Tryz.prog f args (w.drewN n) fun e w''=>e=.returned v/\∃m,w''=w.drewN m :=
 h.mono fun _ _ ⟨he,hm⟩=>⟨he,n,hm.symm⟩
theorem ct.then {N:ZN} {a b c:World} (h:ct N a b) (k:ct N b c):ct N a c:=h.trans k fun _ hx=>aoX hx
theorem xM:uq 42 9 (.string ⟨#[]⟩) 1 16:=⟨by kernel_rfl,by kernel_rfl,rfl,by decide⟩
theorem cO {N:ZN} {w w':World} {base:Nat} {e:TypeId} {size:Nat} {v:Value} {n:Nat} {xs:List Value} (h:w.ownsRow base e size v n xs) (hc:ct N w w') (hN:∀k,v.ownBlock=some k->k∉N):w'.ownsRow base e size v n xs:=by
 refine⟨h.1,?_⟩;rcases h.2 with hn|⟨g,cap,cur,rfl,hb,hgg,rest⟩
 ·exact .inl hn
 refine .inr ⟨g,cap,cur,rfl,hb,?_,rest⟩;rw[hc.block g (aQ.1 hgg).1 (hN g rfl)];exact hgg
def rowOf (v:Value):ZN:=match v.ownBlock with|some k=>[k]|none=>[]
theorem bV {v:Value} {k:Nat}:k∈rowOf v ↔ v.ownBlock=some k:=by
 unfold rowOf;cases v.ownBlock with
 | none=>simp
 | some x=>simp[eq_comm]
theorem eX {w w':World} {v:Value} (h:w.grownBy w' v.ownBlock):ct (rowOf v) w w' :=
 ⟨h.os,h.tape,h.output,h.size,fun k hk hn=>h.block k hk (fun e=>hn (bV.2 e.symm))⟩
def iC (s:BA):List Value:=[.string s]
theorem jR {w:World} {base:Nat} {l:ZB} {v:Value} (h:w.ownsRow base 9 1 v l.length (l.flatMap iC)) (M:ZN) (hM:∀x∈M,x<base):∃a c,v=.slice a l.length c/\fS (mask w M) l a l.length c/\fS w l a l.length c:=by
 have hlt:=h.lt;obtain⟨a,c,rfl,hr⟩:=eE.iZ (f:=iC) (fun _=>rfl) h;have hs:fS w l a l.length c:=⟨hr.1,hr.2.1,hr.2.2.1,fun i hi=>by
  obtain⟨b,off,e1,e2⟩:=hr.2.2.2 i hi;have:=e2 0 (by simp[iC]);simp only[iC,bB,Nat.mul_one,Nat.add_zero] at this;exact⟨b,off,e1,this⟩⟩
 refine⟨a,c,rfl,⟨hs.1,hs.2.1,hs.2.2.1,fun i hi=>?_⟩,hs⟩;obtain⟨b,off,e1,e2⟩:=hs.2.2.2 i hi;refine⟨b,off,e1,?_⟩;rw[eA,bL,e2];intro hm;have h1:=hM _ hm;have h2:=(hlt b (by rw[e1];rfl)).1;simp only at h1;omega
theorem eT (w:World) (op lo hi:Int) (name:BA):dw w (.mk op name [] lo hi []) (fN op name none 0 0 lo hi none 0 0):=by
 refine dw.mk ⟨rfl,by omega,aoX ⟨rfl,rfl⟩,fun i hi=>by simp at hi⟩ rfl (by omega) (aoX ⟨rfl,rfl⟩) ?_;unfold eU
 trivial
theorem PU {w:World} {words:ZB} {a:OA} {n c:Nat} (h:fS w words a n c) (op lo hi:Int) (name:BA):dw w (.mk op name words lo hi []) (fN op name a n c lo hi none 0 0):=by
 refine dw.mk h rfl (by omega) (aoX ⟨rfl,rfl⟩) ?_;unfold eU
 trivial
theorem cX {w:World} {b:Nat} {v0 v1 v2 v3 v4 v5:Value} {t:TypeId} (h:w.heap[b]?=some (.cells #[v0,v1,v2,v3,v4,v5] t (0,0))) :
  w.cell? ⟨b,0,none⟩=some v0/\w.cell? ⟨b,1,none⟩=some v1/\w.cell? ⟨b,2,none⟩=some v2/\w.cell? ⟨b,3,none⟩=some v3/\w.cell? ⟨b,4,none⟩=some v4/\w.cell? ⟨b,5,none⟩=some v5/\(∀j,w.frozen? ⟨b,j,none⟩=false) :=
 ⟨bX h 0,bX h 1,bX h 2,bX h 3,bX h 4,bX h 5,fun j=>ie h j⟩
theorem ct.blk {N:ZN} {w w':World} (h:ct N w w') {b:Nat} {o:Obj} (hb:w.heap[b]?=some o) (hn:b∉N):w'.heap[b]?=some o:=(h.block b (bS hb) hn).trans hb
theorem uZ {w:World} {b:Nat} {v0 v1:Value} {t:TypeId} (h:w.heap[b]?=some (.cells #[v0,v1] t (0,0))) :
  w.cell? ⟨b,0,none⟩=some v0/\w.cell? ⟨b,1,none⟩=some v1/\(∀j,w.frozen? ⟨b,j,none⟩=false) :=
 ⟨bX h 0,bX h 1,fun j=>ie h j⟩
def dR (w:World) (a:OA) (n:Nat):Prop:=∀i,i<n->∃b off z,a=some ⟨b,off,none⟩/\w.cell? ⟨b,off+i,none⟩=some (.int .i64 z)
def cg (w0 w:World) (bd:Nat):Prop:=∃(la:OA) (ln lc k:Nat),w.heap[bd]?=some (.cells #[.slice la ln lc,.int .i64 k] 89 (0,0))/\k<=ln/\ln<=1000000000000000/\dR w0 la ln/\Ext w0 w/\w0.heap.size<=bd
theorem cg.cR {w0 w w':World} {bd:Nat} {N:ZN} (h:cg w0 w bd) (hc:ct N w w') (hn:bd∉N) (h0:∀x∈N,w0.heap.size<=x):cg w0 w' bd:=by
 obtain⟨la,ln,lc,k,hb,hk,vC,hL,hx,hbd⟩:=h;exact⟨la,ln,lc,k,hc.blk hb hn,hk,vC,hL,hc.ext hx h0,hbd⟩
theorem cg.ext {w0 w w':World} {bd:Nat} (h:cg w0 w bd) (hx:Ext w w'):cg w0 w' bd:=h.cR (hx.cR []) (by simp) (by simp)
def alG (lo hi:Int) (w0:World) (bd:Nat) (w:World) (e:Ending) (w':World):Prop:=∃r:Int,e=.returned (.int .i64 r)/\lo<=r/\r<hi/\cg w0 w' bd/\ct [bd] w w'
theorem dx {w0 w:World} {bd:Nat} (h:cg w0 w bd) (n:Int) (hn:0<n) (hn2:n<=1000000000000000000) :
  Calls Tryz.prog 37 #[.pointer (some ⟨bd,0,none⟩),.int .i64 n] w (alG 0 n w0 bd w):=by
 have HD:=ai h;obtain⟨la,ln,lc,k,hb,hk,vC,hL,hx,hbd⟩:=h;have HB:=ai hb;have qL:=bS hb;obtain⟨c0,c1,cf⟩:=uZ hb;clear hb;by_cases hlt:k<ln
 ·obtain⟨b,off,z,rfl,hz⟩:=hL k hlt;have hz':=hx.cell hz;have hzb:b≠bd:=by have:=eB hz;simp at this;omega
  have HL:=ai hL;have HX:=ai hx;have t1:decide (ln<=k)=false:=by simp;omega
  have t2:((k:Int)+1 - 1)=k:=by omega
  have t3:(0:Int)<=(k:Int):=by omega
  have t4:(k:Int)<(ln:Int):=by omega
  clear hL hx hz HD;go_enter Tryz.func37,Tryz.ntmps37
  go_wp2_with fail
  go_quiet (fail)
  go_wp2_with fail
  go_quiet (fail)
  go_wp2_with fail
  go_ret;have hr:wrap64 (z.tmod n+n)=z.tmod n+n:=by
   have a1:=Int.tmod_lt_of_pos z hn;have a2:=Int.lt_tmod_of_pos z hn;exact IntWalk.wrap64_in (z.tmod n+n) (by omega)
  rw[hr];have a1:=Int.tmod_lt_of_pos z hn;have a2:=Int.tmod_lt_of_pos (z.tmod n+n) hn;have a3:0<=z.tmod n+n:=by
   have:=Int.lt_tmod_of_pos z hn;omega
  have a4:=Int.tmod_nonneg n a3;refine⟨_,rfl,a4,a2,⟨_,ln,lc,k+1,?_,by omega,vC,HL.o,?_,hbd⟩,?_⟩
  ·have:=aI (w.drewN 0) bd 1 _ _ (.int .i64 ((k:Int)+1)) HB.o;exact this
  ·exact((HX.o.drewN _).fV (by simpa using hbd) _).drewN _
  exact(((ct.refl [bd] w).drewN _).setCell (aoX (by simp)) _).drewN _
 have t1:decide (ln<=k)=true:=by simp;omega
 go_enter Tryz.func37,Tryz.ntmps37
 go_wp2_with fail
 go_quiet (fail)
 go_wp2_with fail
 go_ret;exact⟨0,rfl,by omega,hn,HD.o.ext ((Tz w).drewN _),(ct.refl _ w).drewN _⟩
theorem jG {w0 w:World} {bd:Nat} (h:cg w0 w bd) (lo hi:Int) (h1:lo<=hi) (h2 : -100000000000000000<=lo) (h3:hi<=100000000000000000) :
  Calls Tryz.prog 53 #[.pointer (some ⟨bd,0,none⟩),.int .i64 lo,.int .i64 hi] w (alG lo (hi+1) w0 bd w):=by
 go_enter Tryz.func53,Tryz.ntmps53
 go_wp2_with fail
 refine(dx h _ (by omega) (by omega)).mono ?_;rintro e w1 ⟨r,rfl,hr0,hr1,hd,hc⟩;go_wp2_with fail
 go_ret;exact⟨lo+r,rfl,by omega,by omega,hd,hc⟩
open Go.ChangeShapes Go.WideShapes Go.ChangeAt Go.RowKit
theorem laidOut:laidOutB Tryz.prog=true:=by kernel_rfl
def amr (P:Program) (ts:List TypeId):Bool:=ts.all fun t=>P.readableRec t&&decide (t<P.types.size)
theorem ahJ {H:Type} {enc:TypeId×Value->H} {P:Program} (hl:laidOutB P=true) {W W':World} (hb:Ext W W'):∀{ts:List TypeId} {vs:List Value} {ds:List (DataW H)} {ps:List MemPlace},amr P ts=true->DataW.TrodAll enc P W 0 (fun _=>true) true ts vs ds ps->(∀x∈ps,x.block<W.heap.size)->DataW.TrodAll enc P W' 0 (fun b=>decide (b<W.heap.size)) true ts vs ds ps
 | [],[],[],_,_,h,_=>h
 | t::ts,v::vs,d::ds,ps,hr,h,hlt=>by
  obtain⟨p,q,h1,h2,e⟩:=h;simp only[amr,List.all_cons,aF,aH] at hr;subst e;exact⟨p,q,Below.trod hl hr.1.1 hr.1.2 h1 hb (fun x hx=>hlt x (by simp[hx])),ahJ hl hb (by simpa[amr] using hr.2) h2 (fun x hx=>hlt x (by simp[hx])),rfl⟩
 | [],_::_,_,_,_,h,_=>by simp[DataW.TrodAll] at h
 | [],[],_::_,_,_,h,_=>by simp[DataW.TrodAll] at h
 | _::_,[],_,_,_,h,_=>by simp[DataW.TrodAll] at h
 | _::_,_::_,[],_,_,h,_=>by simp[DataW.TrodAll] at h
theorem jd {H:Type} {enc:TypeId×Value->H} {f:Func} {s:ChangeSpec} {W W':World} {args:Array Value} {ds:List (DataW H)} {before:List MemPlace}
  (hW:DataW.Whole enc Tryz.prog f.params.toList s.vars false W args.toList ds [] before) (hv:s.vars=[]) (hrt:f.resultTypes=#[4]) (hfn:(s.fn H (ds++[])).results=[.lit (.bool true)]) (qx:(s.fn H (ds++[])).args=ds) (hfv:(s.fn H (ds++[])).vars=[]) (hrw:amr Tryz.prog f.params.toList=true)
  (hx:Ext W W'):s.post enc Tryz.prog f false true false false W args (.bool true) W':=by
 have hW2:=hW;obtain⟨p,q,hA,hV,rfl,hfz,hnd⟩:=hW2;rw[hv] at hV;obtain⟨_,rfl⟩:=trodVars_none hV;have hlt:∀x∈p++[],x.block<W.heap.size:=fun x hx=>by simpa using hW.lt x hx
 simp only[List.append_nil] at *;have hres:∀(b:Nat) (sp:Nat->Bool) (hd:Bool),DataW.TrodAll enc Tryz.prog W' b sp hd f.resultTypes.toList ((Value.bool true).resultList f.resultTypes.size) (s.fn H (ds++[])).results []:=by
  intro b sp hd;rw[hrt,List.append_nil,hfn];exact trodAll_cons_mk (shut_bool uB _) trodAll_mk0
 refine⟨ds,[],p,[],p,[],hW,hres _ _ _,by rw[List.append_nil,qx];exact ahJ laidOut hx hrw hA hlt,?_,World.keptBut_mono (fun p hp=>hp) (Below.frame hx _),fun h=>by cases h⟩;rw[hv,List.append_nil,hfv]
 rfl
theorem uIs:Tryz.prog.underlying 26=some (.slice 3):=by kernel_rfl
theorem aXz:Tryz.prog.bytesOf 3=8:=by kernel_rfl
theorem gj {H:Type} {enc:TypeId×Value->H} {W:World} {base:Nat} {v:Value} {d:DataW H} {p:List MemPlace} {ts:List TypeId} {ds:List (DataW H)} {j:Nat} (hval:Value.okWide Tryz.prog W .any base 26 v) (h:DataW.Trod enc Tryz.prog W 0 (fun _=>true) true 26 v d p)
  (hs:(DataW.weightsEach Tryz.prog ts ds).all (·<=reachBytes)=true) (ht:ts[j]?=some 26) (hd:ds[j]?=some d):∃a n c,v=.slice a n c/\dR W a n/\n<=1000000000000000:=by
 obtain⟨a,n,c,rfl⟩:=okWide_slice uIs hval;refine⟨a,n,c,rfl,?_⟩;obtain⟨fuel,hf⟩:=h;rcases open_ints uIs uI cI hf with ⟨hcs,hx⟩|⟨ad,len,cap,zs,hcs,_,hl,hm,hz,hx,hcell,hw⟩
 ·simp[Value.cells] at hcs;obtain⟨rfl,rfl,rfl⟩:=hcs;exact⟨fun i hi=>by omega,by omega⟩
 simp[Value.cells] at hcs;obtain⟨rfl,rfl,rfl⟩:=hcs;simp only[Prod.mk.injEq] at hx;obtain⟨rfl,rfl⟩:=hx;simp only[if_true] at hz;have hb:=sized_slice hs ht hd uIs;rw[aXz] at hb;simp only[lits,List.length_map,List.length_take,List.length_drop] at hb;have hr:=reachBytes_lt;refine⟨fun i hi=>?_,by omega⟩;obtain⟨b,off,spot⟩:=ad;have h0:=hcell 0 (by omega);have hsp:spot=none:=by
  cases spot with
  | none=>rfl
  | some x =>
   exfalso;simp only[Addr.add,if_true,World.cell?] at h0;split at h0<;>simp at h0
 subst hsp;have:=hcell i (by omega);refine⟨b,off,zs.getD i 0,rfl,?_⟩;rw[<-this]
 congr 1
 unfold Addr.add;split<;>simp_all
open Go.ChangeShapes Go.WideShapes Go.ChangeAt Go.WideMaps Go.WideElems Go.RowKit
theorem eY {W:World} (h:laidMetH Tryz.prog Rows.decideVerdictRow.laid W):dQ W:=by
 rw[MakeChecks.laidMetH_plain _ _ _ (by kernel_rfl)] at h;obtain⟨ps,⟨g1,t1,cs1,f1,p1,q1,zR,ht1,hv1,hd1,_,_⟩,_,_⟩:=h;obtain rfl:=Option.some.inj (azC.symm.trans zR);obtain rfl:=Option.some.inj (axV.symm.trans ht1);obtain⟨xs,m,rfl,hx,hlen,hn,hel⟩:=DataW.trod_array axQ hd1;simp only[Prod.mk.injEq] at hx;have hx1:=hx.1;intro k hk;have hD:(xs.map (·.1))[k]?=some (.agg [.lit (.string (lI k).data.toList),.lit (.bool (oy k)),.lit (.int .i64 (m8 k)),.lit (.int .i64 (qJ k)),.lit (.int .i64 (oz k))]):=by
  unfold Rows.laid_treaty_syntax_operators at hx1;injection hx1 with hx1
  rw[<-hx1];have hk':k=0\/k=1\/k=2\/k=3\/k=4\/k=5\/k=6\/k=7\/k=8:=by omega
  rcases hk' with rfl|rfl|rfl|rfl|rfl|rfl|rfl|rfl|rfl<;>rfl
 rw[List.getElem?_map] at hD;have hek:=hel k hk;cases hy:xs[k]? with
 | none=>rw[hy] at hD;cases hD
 | some y =>
  rw[hy] at hD hek;simp only[Option.map_some,a42] at hD;rw[cOp] at hek;have hc:=NQ hek hD;have key:∀j,j<5->W.cell? ⟨0,k*5+j,none⟩=([.string (lI k),.bool (oy k),.int .i64 (m8 k),.int .i64 (qJ k),.int .i64 (oz k)]:List Value)[j]?:=by
   intro j hj;have e1:(⟨(lI k).data.toList.toArray⟩:BA)=lI k:=by simp
   rw[World.var?_cell zR hv1 (k*5+j),<-e1,<-hc,List.getElem?_take,bM hj,List.getElem?_drop];simp
  have k0:=key 0 (by omega);rw[Nat.add_zero] at k0;exact⟨k0,key 1 (by omega),key 2 (by omega),key 3 (by omega),key 4 (by omega)⟩
mutual
def Ex.depth:Ex->Nat
 | .mk _ _ _ _ _ args=>jz args+1
def jz:List Ex->Nat
 | []=>0
 | e::r=>max e.depth (jz r)
end
theorem Ex.uT (e:Ex):e.depth=jz e.args+1:=by cases e;simp[Ex.depth,Ex.args]
theorem Ex.size_eq (e:Ex):e.size=1+sizes e.args:=by cases e;simp[Ex.size,Ex.args]
theorem ahe {l:List Ex} {e:Ex} (h:e∈l):e.depth<=jz l:=by
 induction l with
 | nil=>simp at h
 | cons a r ih =>
  rcases bz.1 h with rfl|h
  ·simp only[jz];omega
  have:=ih h;simp only[jz];omega
def jD:dK:=⟨0,⟨#[]⟩,none,0,0,0,0,none,0,0⟩
theorem ct.sub {N:ZN} {w w':World} (h:ct N w w'):Sub (mask w N) (mask w' N):=cQ fun k hk hn=>⟨hn,h.block k hk hn⟩
theorem cM {M N:ZN} (w:World) (h:∀y∈M,y∈N):Sub (mask w N) (mask w M):=cQ fun k _ hn=>⟨fun h'=>hn (h k h'),rfl⟩
def ug (w:World) (l:List Ex) (xs:List dK):Prop:=l.length=xs.length/\∀i (h1:i<l.length) (h2:i<xs.length),dw w l[i] xs[i].val
theorem ug.mono {w w':World} {l:List Ex} {xs:List dK} (h:ug w l xs) (hs:Sub w w'):ug w' l xs:=⟨h.1,fun i h1 h2=>(h.2 i h1 h2).mono hs⟩
theorem ug.nil (w:World):ug w [] []:=⟨rfl,fun i h=>by simp at h⟩
theorem ug.snoc {w:World} {l:List Ex} {xs:List dK} {e:Ex} {x:dK} (h:ug w l xs) (hx:dw w e x.val):ug w (l++[e]) (xs++[x]):=by
 refine⟨by simp[h.1],fun i h1 h2=>?_⟩;by_cases hi:i<l.length
 ·have hi2:i<xs.length:=by rw[<-h.1];exact hi
  simp only[bD hi,bD hi2];exact h.2 i hi hi2
 have e1:i=l.length:=by simp at h1;omega
 subst e1;simp only[bK (aU _),bK (show xs.length<=l.length by rw[h.1];exact aU _),Nat.sub_self,bB];simpa[h.1] using hx
theorem oT (x:dK):x.cells.length=6:=rfl
theorem KC {w:World} {M:ZN} {base:Nat} {v:Value} {l:List Ex} {xs:List dK} (h:w.ownsRow base 45 6 v l.length (xs.flatMap dK.cells)) (hM:∀k,v.ownBlock=some k->k∉M) (hR:ug (mask w M) l xs) :
  ∃a c,v=.slice a l.length c/\l.length<=c/\ny a c/\eU (mask w M) l a:=by
 rw[hR.1] at h;obtain⟨a,c,rfl,hr⟩:=eE.iZ oT h;refine⟨a,c,by rw[hR.1],by rw[hR.1];exact hr.2.1,hr.2.2.1,?_⟩
 match l,hR with
 | [],_=>unfold eU;trivial
 | e::r,hR =>
  obtain⟨b,off,rfl,h1⟩:=hr.2.2.2 0 (by rw[<-hR.1];simp);refine eU.of (e::r) off xs hR.1 fun i h3 h4=>⟨fun j hj=>?_,hR.2 i h3 h4⟩
  obtain⟨b',off',e1,h5⟩:=hr.2.2.2 i h4;simp only[a42,Addr.mk.injEq,and_true] at e1;obtain⟨rfl,rfl⟩:=e1;rw[eA,bL (hM _ rfl),h5 j (by rw[oT];exact hj),aT (by rw[oT];exact hj)]
theorem aIb {w:World} {M:ZN} {g:Nat} {e:Ex} {x:dK} {t:TypeId} (h:w.heap[g]?=some (.cells x.cells.toArray t (0,0))) (hM:g∉M) (hx:dw (mask w M) e x.val):eU (mask w M) [e] (some ⟨g,0,none⟩):=by
 refine eU.of [e] 0 [x] rfl fun i h1 h2=>?_
 obtain rfl:i=0:=by simp at h1;exact h1
 refine⟨fun j hj=>?_,hx⟩;rw[eA,bL hM,bX h];simp
theorem ZQ {w:World} {M:ZN} {g:Nat} {e:Ex} {x:dK} {t:TypeId} (h:w.heap[g]?=some (.cells x.cells.toArray t (0,0))) (hM:g∉M) (hx:dw (mask w M) e x.val) :
  dw (mask w M) (.mk 6 ⟨#[]⟩ [] 0 0 [e]) (fN 6 ⟨#[]⟩ none 0 0 0 0 (some ⟨g,0,none⟩) 1 1) :=
 dw.mk ⟨rfl,by omega,aoX ⟨rfl,rfl⟩,fun i hi=>by simp at hi⟩ rfl (by simp) (a4Z ⟨g,0,rfl⟩) (aIb h hM hx)
def Aj (w:World) (B:Nat) (x:dK):World:=(((((w.setCell ⟨B,0,none⟩ (.int .i64 x.op)).setCell ⟨B,1,none⟩ (.string x.name)).setCell ⟨B,2,none⟩ (.slice x.aw x.nw x.cw)).setCell ⟨B,3,none⟩ (.int .i64 x.lo)).setCell ⟨B,4,none⟩ (.int .i64 x.hi)).setCell ⟨B,5,none⟩ (.slice x.aa x.na x.ca)
theorem nC (w:World) (B:Nat) (x:dK) {N:ZN} (h:B∈N):ct N w (Aj w B x):=by
 unfold Aj
 repeat (with_reducible (refine ct.setCell ?_ ?_ _))
 exact ct.refl _ _
 all_goals exact aoX h
theorem abn (w:World) (B:Nat) (x:dK):(Aj w B x).heap.size=w.heap.size:=by simp[Aj]
structure fM where
 kind:Int
 name:BA
 x:dK
 au:OA
 nu:Nat
 cu:Nat
 ck:Int
def fM.cells (c:fM):List Value:=[.int .i64 c.kind,.string c.name,.int .i64 c.x.op,.string c.x.name,.slice c.x.aw c.x.nw c.x.cw,.int .i64 c.x.lo,.int .i64 c.x.hi,.slice c.x.aa c.x.na c.x.ca,.slice c.au c.nu c.cu,.int .i64 c.ck]
theorem fM.len (c:fM):c.cells.length=10:=rfl
structure Cl where
 kind:Int
 name:BA
 cond:Ex
def GR (w:World) (l:List Cl) (a:OA) (n c:Nat):Prop :=
 ∃vs:List fM,eE w 10 fM.cells vs a n c/\l.length=vs.length/\∀i (h1:i<l.length) (h2:i<vs.length),vs[i].kind=l[i].kind/\vs[i].name=l[i].name/\dw w l[i].cond vs[i].x.val
theorem GR.mono {w w':World} {l:List Cl} {a:OA} {n c:Nat} (h:GR w l a n c) (hs:Sub w w'):GR w' l a n c:=by
 obtain⟨vs,h1,h2,h3⟩:=h;exact⟨vs,h1.mono hs,h2,fun i hi hv=>⟨(h3 i hi hv).1,(h3 i hi hv).2.1,(h3 i hi hv).2.2.mono hs⟩⟩
theorem GR.ext {w w':World} {l:List Cl} {a:OA} {n c:Nat} (h:GR w l a n c) (he:Ext w w'):GR w' l a n c:=h.mono he.sub
theorem GR.len {w:World} {l:List Cl} {a:OA} {n c:Nat} (h:GR w l a n c):n=l.length:=by
 obtain⟨vs,h1,h2,_⟩:=h;rw[h2];exact h1.1
theorem GR.at {w:World} {l:List Cl} {a:OA} {n c:Nat} (h:GR w l a n c) {k:Nat} (hk:k<l.length):∃(b off:Nat) (v:fM),a=some ⟨b,off,none⟩/\v.kind=l[k].kind/\v.name=l[k].name/\dw w l[k].cond v.x.val/\∀j (hj:j<v.cells.length),w.cell? ⟨b,off+k*10+j,none⟩=some v.cells[j]:=by
 obtain⟨vs,h1,h2,h3⟩:=h;have hk':k<vs.length:=by omega
 obtain⟨b,off,e,hc⟩:=h1.2.2.2 k hk';obtain⟨q1,q2,q3⟩:=h3 k hk hk';exact⟨b,off,vs[k],e,q1,q2,q3,hc⟩
theorem GR.aM3 {w:World} {l:List Cl} {a:OA} {n c:Nat} (h:GR w l a n c) {k:Nat} (hk:k<l.length):∃(b off:Nat) (v:fM),a=some ⟨b,off,none⟩/\v.kind=l[k].kind/\v.name=l[k].name/\dw w l[k].cond v.x.val /\
  w.cell? ⟨b,off+k*10,none⟩=some (.int .i64 v.kind)/\w.cell? ⟨b,off+k*10+1,none⟩=some (.string v.name)/\w.cell? ⟨b,off+k*10+2,none⟩=some (.int .i64 v.x.op)/\w.cell? ⟨b,off+k*10+3,none⟩=some (.string v.x.name) /\
  w.cell? ⟨b,off+k*10+4,none⟩=some (.slice v.x.aw v.x.nw v.x.cw)/\w.cell? ⟨b,off+k*10+5,none⟩=some (.int .i64 v.x.lo)/\w.cell? ⟨b,off+k*10+6,none⟩=some (.int .i64 v.x.hi)/\w.cell? ⟨b,off+k*10+7,none⟩=some (.slice v.x.aa v.x.na v.x.ca) /\
  w.cell? ⟨b,off+k*10+8,none⟩=some (.slice v.au v.nu v.cu)/\w.cell? ⟨b,off+k*10+9,none⟩=some (.int .i64 v.ck):=by
 obtain⟨b,off,v,e,q1,q2,q3,hc⟩:=h.at hk;exact⟨b,off,v,e,q1,q2,q3,hc 0 (by simp[fM.len]),hc 1 (by simp[fM.len]),hc 2 (by simp[fM.len]),hc 3 (by simp[fM.len]),hc 4 (by simp[fM.len]),hc 5 (by simp[fM.len]),hc 6 (by simp[fM.len]),hc 7 (by simp[fM.len]),hc 8 (by simp[fM.len]),hc 9 (by simp[fM.len])⟩
inductive Wb where
 | mk (name:BA) (cond:Ex) (gH:List Wb)
def Wb.name:Wb->BA|.mk n _ _=>n
def Wb.cond:Wb->Ex|.mk _ c _=>c
def Wb.gH:Wb->List Wb|.mk _ _ u=>u
structure cK where
 kind:Int
 name:BA
 cond:Ex
 gH:List Wb
 ck:Int
def cK.cl (c:cK):Cl:=⟨c.kind,c.name,c.cond⟩
structure Cz where
 name:BA
 x:dK
 au:OA
 nu:Nat
 cu:Nat
def Cz.cells (v:Cz):List Value:=[.string v.name,.int .i64 v.x.op,.string v.x.name,.slice v.x.aw v.x.nw v.x.cw,.int .i64 v.x.lo,.int .i64 v.x.hi,.slice v.x.aa v.x.na v.x.ca,.slice v.au v.nu v.cu]
theorem Cz.len (c:Cz):c.cells.length=8:=rfl
def EM (w:World) (b off:Nat) (cs:List Value):Prop:=∀j (h:j<cs.length),w.cell? ⟨b,off+j,none⟩=some cs[j]
theorem EM.mono {w w':World} {b off:Nat} {cs:List Value} (h:EM w b off cs) (hs:Sub w w'):EM w' b off cs:=fun j hj=>hs _ _ (h j hj)
mutual
def WbD (w:World):Wb->OA->Nat->Nat->Prop
 | .mk _ _ gH,au,nu,cu=>nu=gH.length/\nu<=cu/\ny au cu/\gK w gH au
def gK (w:World):List Wb->OA->Prop
 | [],_=>True
 | .mk name cond gH::r,a=>∃b off,a=some ⟨b,off,none⟩/\(∃v:Cz,v.name=name/\EM w b off v.cells/\dw w cond v.x.val/\v.nu=gH.length/\v.nu<=v.cu/\ny v.au v.cu/\gK w gH v.au)/\gK w r (some ⟨b,off+8,none⟩)
end
mutual
theorem WbD.mono {w w':World} (he:Sub w w'):(e:Wb)->(au:OA)->(nu cu:Nat)->WbD w e au nu cu->WbD w' e au nu cu
 | .mk name cond gH,au,nu,cu,h=>by
  unfold WbD at h ⊢;exact⟨h.1,h.2.1,h.2.2.1,gK.mono he gH au h.2.2.2⟩
theorem gK.mono {w w':World} (he:Sub w w'):(l:List Wb)->(a:OA)->gK w l a->gK w' l a
 | [],_,_=>by unfold gK;trivial
 | .mk name cond gH::r,a,h=>by
  unfold gK at h ⊢;obtain⟨b,off,rfl,⟨v,h0,h1,h2,h3,h4,h5,h6⟩,hr⟩:=h;exact⟨b,off,rfl,⟨v,h0,h1.mono he,h2.mono he,h3,h4,h5,gK.mono he gH v.au h6⟩,gK.mono he r _ hr⟩
end
theorem gK.at {w:World}:(l:List Wb)->(a:OA)->gK w l a->(k:Nat)->(hk:k<l.length) ->
  ∃b off,a=some ⟨b,off,none⟩/\∃v:Cz,v.name=l[k].name/\EM w b (off+k*8) v.cells/\dw w l[k].cond v.x.val/\v.nu=l[k].gH.length/\v.nu<=v.cu/\ny v.au v.cu/\gK w l[k].gH v.au
 | [],_,_,k,hk=>by simp at hk
 | .mk name cond gH::r,a,h,0,_=>by
  unfold gK at h;obtain⟨b,off,rfl,⟨v,h0,h1,h2,h3,h4,h5,h6⟩,hr⟩:=h;refine⟨b,off,rfl,v,?_⟩;simp only[Nat.zero_mul,Nat.add_zero];exact⟨h0,h1,h2,h3,h4,h5,h6⟩
 | .mk name cond gH::r,a,h,k+1,hk=>by
  unfold gK at h;obtain⟨b,off,rfl,_,hr⟩:=h;obtain⟨b',off',e1,rest⟩:=gK.at r _ hr k (by simpa using hk);simp at e1;obtain⟨rfl,rfl⟩:=e1;have e1:off+8+k*8=off+(k+1)*8:=by omega
  rw[e1] at rest;exact⟨b,off,rfl,by simpa using rest⟩
theorem gK.of {w:World} {b:Nat}:(l:List Wb)->(off:Nat)->(vs:List Cz)->l.length=vs.length->(∀i (h1:i<l.length) (h2:i<vs.length),vs[i].name=l[i].name/\EM w b (off+i*8) vs[i].cells/\dw w l[i].cond vs[i].x.val/\vs[i].nu=l[i].gH.length/\vs[i].nu<=vs[i].cu/\ny vs[i].au vs[i].cu/\gK w l[i].gH vs[i].au)->gK w l (some ⟨b,off,none⟩)
 | [],_,_,_,_=>by unfold gK;trivial
 | .mk name cond gH::r,off,[],hl,_=>by simp at hl
 | .mk name cond gH::r,off,v::vs,hl,h=>by
  unfold gK;obtain⟨h0,h1,h2,h3,h4,h5,h6⟩:=h 0 (by simp) (by simp);simp only[bB,Nat.zero_mul,Nat.add_zero] at h0 h1 h2 h3 h4 h5 h6;refine⟨b,off,rfl,⟨v,h0,h1,h2,h3,h4,h5,h6⟩,gK.of r (off+8) vs (by simpa using hl) fun i g1 g2=>?_⟩;have:=h (i+1) (by simpa using g1) (by simpa using g2);have e1:off+(i+1)*8=off+8+i*8:=by omega
  rw[e1] at this;simpa using this
def ij (w:World) (c:cK) (v:fM):Prop:=v.kind=c.kind/\v.name=c.name/\dw w c.cond v.x.val/\v.nu=c.gH.length/\v.nu<=v.cu/\ny v.au v.cu/\gK w c.gH v.au/\v.ck=c.ck
theorem ij.mono {w w':World} {c:cK} {v:fM} (h:ij w c v) (hs:Sub w w'):ij w' c v :=
 ⟨h.1,h.2.1,h.2.2.1.mono hs,h.2.2.2.1,h.2.2.2.2.1,h.2.2.2.2.2.1,gK.mono hs _ _ h.2.2.2.2.2.2.1,h.2.2.2.2.2.2.2⟩
def cZ (w:World) (l:List cK) (a:OA) (n c:Nat):Prop :=
 ∃vs:List fM,eE w 10 fM.cells vs a n c/\l.length=vs.length/\∀i (h1:i<l.length) (h2:i<vs.length),ij w l[i] vs[i]
theorem cZ.mono {w w':World} {l:List cK} {a:OA} {n c:Nat} (h:cZ w l a n c) (hs:Sub w w'):cZ w' l a n c:=by
 obtain⟨vs,h1,h2,h3⟩:=h;exact⟨vs,h1.mono hs,h2,fun i hi hv=>(h3 i hi hv).mono hs⟩
theorem cZ.ext {w w':World} {l:List cK} {a:OA} {n c:Nat} (h:cZ w l a n c) (he:Ext w w'):cZ w' l a n c:=h.mono he.sub
theorem cZ.len {w:World} {l:List cK} {a:OA} {n c:Nat} (h:cZ w l a n c):n=l.length:=by
 obtain⟨vs,h1,h2,_⟩:=h;rw[h2];exact h1.1
theorem cZ.cls {w:World} {l:List cK} {a:OA} {n c:Nat} (h:cZ w l a n c):GR w (l.map cK.cl) a n c:=by
 obtain⟨vs,h1,h2,h3⟩:=h;refine⟨vs,h1,by simpa using h2,fun i hi hv=>?_⟩;have hi':i<l.length:=by simpa using hi
 have:=h3 i hi' hv;simp only[List.getElem_map,cK.cl];exact⟨this.1,this.2.1,this.2.2.1⟩
theorem cZ.take {w:World} {l:List cK} {a:OA} {n c:Nat} (h:cZ w l a n c) {k:Nat} (hk:k<=n):cZ w (l.take k) a k c:=by
 have hn:=h.len;obtain⟨vs,⟨g1,g2,g3,g4⟩,h2,h3⟩:=h;refine⟨vs.take k,⟨by simp;omega,by omega,g3,fun i hi=>?_⟩,by simp[h2],fun i hi hv=>?_⟩
 ·have hi':i<vs.length:=by simp at hi;omega
  obtain⟨b,off,e,hc⟩:=g4 i hi';refine⟨b,off,e,fun j hj=>?_⟩;simp only[List.getElem_take] at hj ⊢;exact hc j hj
 simp only[List.getElem_take];exact h3 i (by simp at hi;omega) (by simp at hv;omega)
theorem cZ.at {w:World} {l:List cK} {a:OA} {n c:Nat} (h:cZ w l a n c) {k:Nat} (hk:k<l.length):∃(b off:Nat) (v:fM),a=some ⟨b,off,none⟩/\ij w l[k] v/\EM w b (off+k*10) v.cells:=by
 obtain⟨vs,h1,h2,h3⟩:=h;have hk':k<vs.length:=by omega
 obtain⟨b,off,e,hc⟩:=h1.2.2.2 k hk';exact⟨b,off,vs[k],e,h3 k hk hk',hc⟩
theorem EM.BB {w:World} {b off:Nat} {v:fM} (h:EM w b off v.cells):w.cell? ⟨b,off,none⟩=some (.int .i64 v.kind)/\w.cell? ⟨b,off+1,none⟩=some (.string v.name)/\w.cell? ⟨b,off+2,none⟩=some (.int .i64 v.x.op)/\w.cell? ⟨b,off+3,none⟩=some (.string v.x.name) /\
  w.cell? ⟨b,off+4,none⟩=some (.slice v.x.aw v.x.nw v.x.cw)/\w.cell? ⟨b,off+5,none⟩=some (.int .i64 v.x.lo)/\w.cell? ⟨b,off+6,none⟩=some (.int .i64 v.x.hi)/\w.cell? ⟨b,off+7,none⟩=some (.slice v.x.aa v.x.na v.x.ca) /\
  w.cell? ⟨b,off+8,none⟩=some (.slice v.au v.nu v.cu)/\w.cell? ⟨b,off+9,none⟩=some (.int .i64 v.ck) :=
 ⟨h 0 (by simp[fM.len]),h 1 (by simp[fM.len]),h 2 (by simp[fM.len]),h 3 (by simp[fM.len]),h 4 (by simp[fM.len]),h 5 (by simp[fM.len]),h 6 (by simp[fM.len]),h 7 (by simp[fM.len]),h 8 (by simp[fM.len]),h 9 (by simp[fM.len])⟩
theorem EM.eight {w:World} {b off:Nat} {v:Cz} (h:EM w b off v.cells):w.cell? ⟨b,off,none⟩=some (.string v.name)/\w.cell? ⟨b,off+1,none⟩=some (.int .i64 v.x.op)/\w.cell? ⟨b,off+2,none⟩=some (.string v.x.name) /\
  w.cell? ⟨b,off+3,none⟩=some (.slice v.x.aw v.x.nw v.x.cw)/\w.cell? ⟨b,off+4,none⟩=some (.int .i64 v.x.lo)/\w.cell? ⟨b,off+5,none⟩=some (.int .i64 v.x.hi)/\w.cell? ⟨b,off+6,none⟩=some (.slice v.x.aa v.x.na v.x.ca)/\w.cell? ⟨b,off+7,none⟩=some (.slice v.au v.nu v.cu) :=
 ⟨h 0 (by simp[Cz.len]),h 1 (by simp[Cz.len]),h 2 (by simp[Cz.len]),h 3 (by simp[Cz.len]),h 4 (by simp[Cz.len]),h 5 (by simp[Cz.len]),h 6 (by simp[Cz.len]),h 7 (by simp[Cz.len])⟩
end Go.Proofs.YtefjomofjejklaaGreatDoor
