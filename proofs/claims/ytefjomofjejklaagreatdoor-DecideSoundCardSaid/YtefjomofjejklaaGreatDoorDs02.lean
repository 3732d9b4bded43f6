/- Joined. -/
import Derived.Test.YtefjomofjejklaaGreatDoorDs01
import Derived.Carry
import Derived.ChangeSlices
import Derived.SizedLaws
import Derived.Test.YtefjomofjejklaaGreatDoorRows
import Derived.Deep.AppendLies
import Derived.Deep.RegionLaw
import Derived.RegionTactic
import Derived.Maps.OwnSet
import Derived.Sort.KeysCollected
namespace Go.Proofs.YtefjomofjejklaaGreatDoor
set_option maxRecDepth 100000
set_option maxHeartbeats 32000000
open Go.ChangeShapes Go.WideShapes Go.ChangeAt Go.RowKit
theorem laidOut:laidOutB Tryz.prog=true:=by kernel_rfl
def amr (P:Program) (ts:List TypeId):Bool:=ts.all fun t=>P.readableRec t&&decide (t<P.types.size)
theorem ahJ {H:Type} {enc:TypeId×Value->H} {P:Program} (hl:laidOutB P=true) {W W':World} (hb:Ext W W'):∀{ts:List TypeId} {vs:List Value} {ds:List (DataW H)} {ps:List MemPlace},amr P ts=true->DataW.TrodAll enc P W 0 (fun _=>true) true ts vs ds ps->(∀x∈ps,x.block<W.heap.size)->DataW.TrodAll enc P W' 0 (fun b=>decide (b<W.heap.size)) true ts vs ds ps
 | [],[],[],_,_,h,_=>h
 | t::ts,v::vs,d::ds,ps,hr,h,hlt=>by
  obtain⟨p,q,h1,h2,e⟩:=h;simp only[amr,List.all_cons,aF,aH] at hr;subst e;exact⟨p,q,Below.trod hl hr.1.1 hr.1.2 h1 hb (fun x hx=>hlt x (by simp[hx])),ahJ hl hb (by simpa[amr] using hr.2) h2 (fun x hx=>hlt x (by simp[hx])),rfl⟩
 | [],_::_,_,_,_,h,_=>by simp[DataW.TrodAll] at h
 | [],[],_::_,_,_,h,_=>by simp[DataW.TrodAll] at h
 | _::_,[],_,_,_,h,_=>by simp[DataW.TrodAll] at h
 | _::_,_::_,[],_,_,h,_=>by simp[DataW.TrodAll] at h
theorem jd {H:Type} {enc:TypeId×Value->H} {f:Func} {s:ChangeSpec} {W W':World} {args:Array Value} {ds:List (DataW H)} {before:List MemPlace}
  (hW:DataW.Whole enc Tryz.prog f.params.toList s.vars false W args.toList ds [] before) (hv:s.vars=[]) (hrt:f.resultTypes=#[4]) (hfn:(s.fn H (ds++[])).results=[.lit (.bool true)]) (qx:(s.fn H (ds++[])).args=ds) (hfv:(s.fn H (ds++[])).vars=[]) (hrw:amr Tryz.prog f.params.toList=true)
  (hx:Ext W W'):s.post enc Tryz.prog f false true false false W args (.bool true) W':=by
 have hW2:=hW;obtain⟨p,q,hA,hV,rfl,hfz,hnd⟩:=hW2;rw[hv] at hV;obtain⟨_,rfl⟩:=trodVars_none hV;have hlt:∀x∈p++[],x.block<W.heap.size:=fun x hx=>by simpa using hW.lt x hx
 simp only[List.append_nil] at *;have hres:∀(b:Nat) (sp:Nat->Bool) (hd:Bool),DataW.TrodAll enc Tryz.prog W' b sp hd f.resultTypes.toList ((Value.bool true).resultList f.resultTypes.size) (s.fn H (ds++[])).results []:=by
  intro b sp hd;rw[hrt,List.append_nil,hfn];exact trodAll_cons_mk (shut_bool uB _) trodAll_mk0
 refine⟨ds,[],p,[],p,[],hW,hres _ _ _,by rw[List.append_nil,qx];exact ahJ laidOut hx hrw hA hlt,?_,World.keptBut_mono (fun p hp=>hp) (Below.frame hx _),fun h=>by cases h⟩;rw[hv,List.append_nil,hfv]
 rfl
theorem uIs:Tryz.prog.underlying 26=some (.slice 3):=by kernel_rfl
theorem aXz:Tryz.prog.bytesOf 3=8:=by kernel_rfl
theorem gj {H:Type} {enc:TypeId×Value->H} {W:World} {base:Nat} {v:Value} {d:DataW H} {p:List MemPlace} {ts:List TypeId} {ds:List (DataW H)} {j:Nat} (hval:Value.okWide Tryz.prog W .any base 26 v) (h:DataW.Trod enc Tryz.prog W 0 (fun _=>true) true 26 v d p)
  (hs:(DataW.weightsEach Tryz.prog ts ds).all (·<=reachBytes)=true) (ht:ts[j]?=some 26) (hd:ds[j]?=some d):∃a n c,v=.slice a n c/\dR W a n/\n<=1000000000000000:=by
 obtain⟨a,n,c,rfl⟩:=okWide_slice uIs hval;refine⟨a,n,c,rfl,?_⟩;obtain⟨fuel,hf⟩:=h;rcases open_ints uIs uI cI hf with ⟨hcs,hx⟩|⟨ad,len,cap,zs,hcs,_,hl,hm,hz,hx,hcell,hw⟩
 ·simp[Value.cells] at hcs;obtain⟨rfl,rfl,rfl⟩:=hcs;exact⟨fun i hi=>by omega,by omega⟩
 simp[Value.cells] at hcs;obtain⟨rfl,rfl,rfl⟩:=hcs;simp only[Prod.mk.injEq] at hx;obtain⟨rfl,rfl⟩:=hx;simp only[if_true] at hz;have hb:=sized_slice hs ht hd uIs;rw[aXz] at hb;simp only[lits,List.length_map,List.length_take,List.length_drop] at hb;have hr:=reachBytes_lt;refine⟨fun i hi=>?_,by omega⟩;obtain⟨b,off,spot⟩:=ad;have h0:=hcell 0 (by omega);have hsp:spot=none:=by
  cases spot with
  | none=>rfl
  | some x =>
   exfalso;simp only[Addr.add,if_true,World.cell?] at h0;split at h0<;>simp at h0
 subst hsp;have:=hcell i (by omega);refine⟨b,off,zs.getD i 0,rfl,?_⟩;rw[<-this]
 congr 1
 unfold Addr.add;split<;>simp_all
open Go.ChangeShapes Go.WideShapes Go.ChangeAt Go.WideMaps Go.WideElems Go.RowKit
theorem eY {W:World} (h:laidMetH Tryz.prog Rows.decideVerdictRow.laid W):dQ W:=by
 rw[MakeChecks.laidMetH_plain _ _ _ (by kernel_rfl)] at h;obtain⟨ps,⟨g1,t1,cs1,f1,p1,q1,zR,ht1,hv1,hd1,_,_⟩,_,_⟩:=h;obtain rfl:=Option.some.inj (azC.symm.trans zR);obtain rfl:=Option.some.inj (axV.symm.trans ht1);obtain⟨xs,m,rfl,hx,hlen,hn,hel⟩:=DataW.trod_array axQ hd1;simp only[Prod.mk.injEq] at hx;have hx1:=hx.1;intro k hk;have hD:(xs.map (·.1))[k]?=some (.agg [.lit (.string (lI k).data.toList),.lit (.bool (oy k)),.lit (.int .i64 (m8 k)),.lit (.int .i64 (qJ k)),.lit (.int .i64 (oz k))]):=by
  unfold Rows.laid_treaty_syntax_operators at hx1;injection hx1 with hx1
  rw[<-hx1];have hk':k=0\/k=1\/k=2\/k=3\/k=4\/k=5\/k=6\/k=7\/k=8:=by omega
  rcases hk' with rfl|rfl|rfl|rfl|rfl|rfl|rfl|rfl|rfl<;>rfl
 rw[List.getElem?_map] at hD;have hek:=hel k hk;cases hy:xs[k]? with
 | none=>rw[hy] at hD;cases hD
 | some y =>
  rw[hy] at hD hek;simp only[Option.map_some,a42] at hD;rw[cOp] at hek;have hc:=NQ hek hD;have key:∀j,j<5->W.cell? ⟨0,k*5+j,none⟩=([.string (lI k),.bool (oy k),.int .i64 (m8 k),.int .i64 (qJ k),.int .i64 (oz k)]:List Value)[j]?:=by
   intro j hj;have e1:(⟨(lI k).data.toList.toArray⟩:BA)=lI k:=by simp
   rw[World.var?_cell zR hv1 (k*5+j),<-e1,<-hc,List.getElem?_take,bM hj,List.getElem?_drop];simp
  have k0:=key 0 (by omega);rw[Nat.add_zero] at k0;exact⟨k0,key 1 (by omega),key 2 (by omega),key 3 (by omega),key 4 (by omega)⟩
open Go.RowKit
theorem ct.grown {N:ZN} {a w w':World} {row:Option Nat} (h:ct N a w) (hg:w.grownBy w' row) (hr:∀y,row=some y->y∈N\/a.heap.size<=y):ct N a w' :=
 ⟨hg.os.trans h.os,hg.tape.trans h.tape,hg.output.trans h.output,aV h.size hg.size,fun y hy hn =>
  (hg.block y (bF hy h.size) (fun e=>by rcases hr y e.symm with h'|h';exact hn h';omega)).trans (h.block y hy hn)⟩
mutual
def Ex.depth:Ex->Nat
 | .mk _ _ _ _ _ args=>jz args+1
def jz:List Ex->Nat
 | []=>0
 | e::r=>max e.depth (jz r)
end
theorem Ex.uT (e:Ex):e.depth=jz e.args+1:=by cases e;simp[Ex.depth,Ex.args]
theorem Ex.size_eq (e:Ex):e.size=1+sizes e.args:=by cases e;simp[Ex.size,Ex.args]
theorem ahe {l:List Ex} {e:Ex} (h:e∈l):e.depth<=jz l:=by
 induction l with
 | nil=>simp at h
 | cons a r ih =>
  rcases bz.1 h with rfl|h
  ·simp only[jz];omega
  have:=ih h;simp only[jz];omega
def jD:dK:=⟨0,⟨#[]⟩,none,0,0,0,0,none,0,0⟩
theorem ct.sub {N:ZN} {w w':World} (h:ct N w w'):Sub (mask w N) (mask w' N):=cQ fun k hk hn=>⟨hn,h.block k hk hn⟩
theorem cM {M N:ZN} (w:World) (h:∀y∈M,y∈N):Sub (mask w N) (mask w M):=cQ fun k _ hn=>⟨fun h'=>hn (h k h'),rfl⟩
def ug (w:World) (l:List Ex) (xs:List dK):Prop:=l.length=xs.length/\∀i (h1:i<l.length) (h2:i<xs.length),dw w l[i] xs[i].val
theorem ug.mono {w w':World} {l:List Ex} {xs:List dK} (h:ug w l xs) (hs:Sub w w'):ug w' l xs:=⟨h.1,fun i h1 h2=>(h.2 i h1 h2).mono hs⟩
theorem ug.nil (w:World):ug w [] []:=⟨rfl,fun i h=>by simp at h⟩
theorem ug.snoc {w:World} {l:List Ex} {xs:List dK} {e:Ex} {x:dK} (h:ug w l xs) (hx:dw w e x.val):ug w (l++[e]) (xs++[x]):=by
 refine⟨by simp[h.1],fun i h1 h2=>?_⟩;by_cases hi:i<l.length
 ·have hi2:i<xs.length:=by rw[<-h.1];exact hi
  simp only[bD hi,bD hi2];exact h.2 i hi hi2
 have e1:i=l.length:=by simp at h1;omega
 subst e1;simp only[bK (aU _),bK (show xs.length<=l.length by rw[h.1];exact aU _),Nat.sub_self,bB];simpa[h.1] using hx
theorem oT (x:dK):x.cells.length=6:=rfl
theorem KC {w:World} {M:ZN} {base:Nat} {v:Value} {l:List Ex} {xs:List dK} (h:w.ownsRow base 45 6 v l.length (xs.flatMap dK.cells)) (hM:∀k,v.ownBlock=some k->k∉M) (hR:ug (mask w M) l xs) :
  ∃a c,v=.slice a l.length c/\l.length<=c/\ny a c/\eU (mask w M) l a:=by
 rw[hR.1] at h;obtain⟨a,c,rfl,hr⟩:=eE.iZ oT h;refine⟨a,c,by rw[hR.1],by rw[hR.1];exact hr.2.1,hr.2.2.1,?_⟩
 match l,hR with
 | [],_=>unfold eU;trivial
 | e::r,hR =>
  obtain⟨b,off,rfl,h1⟩:=hr.2.2.2 0 (by rw[<-hR.1];simp);refine eU.of (e::r) off xs hR.1 fun i h3 h4=>⟨fun j hj=>?_,hR.2 i h3 h4⟩
  obtain⟨b',off',e1,h5⟩:=hr.2.2.2 i h4;simp only[a42,Addr.mk.injEq,and_true] at e1;obtain⟨rfl,rfl⟩:=e1;rw[eA,bL (hM _ rfl),h5 j (by rw[oT];exact hj),aT (by rw[oT];exact hj)]
theorem aIb {w:World} {M:ZN} {g:Nat} {e:Ex} {x:dK} {t:TypeId} (h:w.heap[g]?=some (.cells x.cells.toArray t (0,0))) (hM:g∉M) (hx:dw (mask w M) e x.val):eU (mask w M) [e] (some ⟨g,0,none⟩):=by
 refine eU.of [e] 0 [x] rfl fun i h1 h2=>?_
 obtain rfl:i=0:=by simp at h1;exact h1
 refine⟨fun j hj=>?_,hx⟩;rw[eA,bL hM,bX h];simp
theorem ZQ {w:World} {M:ZN} {g:Nat} {e:Ex} {x:dK} {t:TypeId} (h:w.heap[g]?=some (.cells x.cells.toArray t (0,0))) (hM:g∉M) (hx:dw (mask w M) e x.val) :
  dw (mask w M) (.mk 6 ⟨#[]⟩ [] 0 0 [e]) (fN 6 ⟨#[]⟩ none 0 0 0 0 (some ⟨g,0,none⟩) 1 1) :=
 dw.mk ⟨rfl,by omega,aoX ⟨rfl,rfl⟩,fun i hi=>by simp at hi⟩ rfl (by simp) (a4Z ⟨g,0,rfl⟩) (aIb h hM hx)
def Aj (w:World) (B:Nat) (x:dK):World:=(((((w.setCell ⟨B,0,none⟩ (.int .i64 x.op)).setCell ⟨B,1,none⟩ (.string x.name)).setCell ⟨B,2,none⟩ (.slice x.aw x.nw x.cw)).setCell ⟨B,3,none⟩ (.int .i64 x.lo)).setCell ⟨B,4,none⟩ (.int .i64 x.hi)).setCell ⟨B,5,none⟩ (.slice x.aa x.na x.ca)
theorem nC (w:World) (B:Nat) (x:dK) {N:ZN} (h:B∈N):ct N w (Aj w B x):=by
 unfold Aj
 repeat (with_reducible (refine ct.setCell ?_ ?_ _))
 exact ct.refl _ _
 all_goals exact aoX h
theorem abn (w:World) (B:Nat) (x:dK):(Aj w B x).heap.size=w.heap.size:=by simp[Aj]
structure fM where
 kind:Int
 name:BA
 x:dK
 au:OA
 nu:Nat
 cu:Nat
 ck:Int
def fM.cells (c:fM):List Value:=[.int .i64 c.kind,.string c.name,.int .i64 c.x.op,.string c.x.name,.slice c.x.aw c.x.nw c.x.cw,.int .i64 c.x.lo,.int .i64 c.x.hi,.slice c.x.aa c.x.na c.x.ca,.slice c.au c.nu c.cu,.int .i64 c.ck]
theorem fM.len (c:fM):c.cells.length=10:=rfl
structure Cl where
 kind:Int
 name:BA
 cond:Ex
def GR (w:World) (l:List Cl) (a:OA) (n c:Nat):Prop :=
 ∃vs:List fM,eE w 10 fM.cells vs a n c/\l.length=vs.length/\∀i (h1:i<l.length) (h2:i<vs.length),vs[i].kind=l[i].kind/\vs[i].name=l[i].name/\dw w l[i].cond vs[i].x.val
theorem GR.mono {w w':World} {l:List Cl} {a:OA} {n c:Nat} (h:GR w l a n c) (hs:Sub w w'):GR w' l a n c:=by
 obtain⟨vs,h1,h2,h3⟩:=h;exact⟨vs,h1.mono hs,h2,fun i hi hv=>⟨(h3 i hi hv).1,(h3 i hi hv).2.1,(h3 i hi hv).2.2.mono hs⟩⟩
theorem GR.ext {w w':World} {l:List Cl} {a:OA} {n c:Nat} (h:GR w l a n c) (he:Ext w w'):GR w' l a n c:=h.mono he.sub
theorem GR.len {w:World} {l:List Cl} {a:OA} {n c:Nat} (h:GR w l a n c):n=l.length:=by
 obtain⟨vs,h1,h2,_⟩:=h;rw[h2];exact h1.1
theorem GR.at {w:World} {l:List Cl} {a:OA} {n c:Nat} (h:GR w l a n c) {k:Nat} (hk:k<l.length):∃(b off:Nat) (v:fM),a=some ⟨b,off,none⟩/\v.kind=l[k].kind/\v.name=l[k].name/\dw w l[k].cond v.x.val/\∀j (hj:j<v.cells.length),w.cell? ⟨b,off+k*10+j,none⟩=some v.cells[j]:=by
 obtain⟨vs,h1,h2,h3⟩:=h;have hk':k<vs.length:=by omega
 obtain⟨b,off,e,hc⟩:=h1.2.2.2 k hk';obtain⟨q1,q2,q3⟩:=h3 k hk hk';exact⟨b,off,vs[k],e,q1,q2,q3,hc⟩
theorem GR.aM3 {w:World} {l:List Cl} {a:OA} {n c:Nat} (h:GR w l a n c) {k:Nat} (hk:k<l.length):∃(b off:Nat) (v:fM),a=some ⟨b,off,none⟩/\v.kind=l[k].kind/\v.name=l[k].name/\dw w l[k].cond v.x.val /\
  w.cell? ⟨b,off+k*10,none⟩=some (.int .i64 v.kind)/\w.cell? ⟨b,off+k*10+1,none⟩=some (.string v.name)/\w.cell? ⟨b,off+k*10+2,none⟩=some (.int .i64 v.x.op)/\w.cell? ⟨b,off+k*10+3,none⟩=some (.string v.x.name) /\
  w.cell? ⟨b,off+k*10+4,none⟩=some (.slice v.x.aw v.x.nw v.x.cw)/\w.cell? ⟨b,off+k*10+5,none⟩=some (.int .i64 v.x.lo)/\w.cell? ⟨b,off+k*10+6,none⟩=some (.int .i64 v.x.hi)/\w.cell? ⟨b,off+k*10+7,none⟩=some (.slice v.x.aa v.x.na v.x.ca) /\
  w.cell? ⟨b,off+k*10+8,none⟩=some (.slice v.au v.nu v.cu)/\w.cell? ⟨b,off+k*10+9,none⟩=some (.int .i64 v.ck):=by
 obtain⟨b,off,v,e,q1,q2,q3,hc⟩:=h.at hk;exact⟨b,off,v,e,q1,q2,q3,hc 0 (by simp[fM.len]),hc 1 (by simp[fM.len]),hc 2 (by simp[fM.len]),hc 3 (by simp[fM.len]),hc 4 (by simp[fM.len]),hc 5 (by simp[fM.len]),hc 6 (by simp[fM.len]),hc 7 (by simp[fM.len]),hc 8 (by simp[fM.len]),hc 9 (by simp[fM.len])⟩
inductive Wb where
 | mk (name:BA) (cond:Ex) (gH:List Wb)
def Wb.name:Wb->BA|.mk n _ _=>n
def Wb.cond:Wb->Ex|.mk _ c _=>c
def Wb.gH:Wb->List Wb|.mk _ _ u=>u
structure cK where
 kind:Int
 name:BA
 cond:Ex
 gH:List Wb
 ck:Int
def cK.cl (c:cK):Cl:=⟨c.kind,c.name,c.cond⟩
structure Cz where
 name:BA
 x:dK
 au:OA
 nu:Nat
 cu:Nat
def Cz.cells (v:Cz):List Value:=[.string v.name,.int .i64 v.x.op,.string v.x.name,.slice v.x.aw v.x.nw v.x.cw,.int .i64 v.x.lo,.int .i64 v.x.hi,.slice v.x.aa v.x.na v.x.ca,.slice v.au v.nu v.cu]
theorem Cz.len (c:Cz):c.cells.length=8:=rfl
def EM (w:World) (b off:Nat) (cs:List Value):Prop:=∀j (h:j<cs.length),w.cell? ⟨b,off+j,none⟩=some cs[j]
theorem EM.mono {w w':World} {b off:Nat} {cs:List Value} (h:EM w b off cs) (hs:Sub w w'):EM w' b off cs:=fun j hj=>hs _ _ (h j hj)
mutual
def WbD (w:World):Wb->OA->Nat->Nat->Prop
 | .mk _ _ gH,au,nu,cu=>nu=gH.length/\nu<=cu/\ny au cu/\gK w gH au
def gK (w:World):List Wb->OA->Prop
 | [],_=>True
 | .mk name cond gH::r,a=>∃b off,a=some ⟨b,off,none⟩/\(∃v:Cz,v.name=name/\EM w b off v.cells/\dw w cond v.x.val/\v.nu=gH.length/\v.nu<=v.cu/\ny v.au v.cu/\gK w gH v.au)/\gK w r (some ⟨b,off+8,none⟩)
end
mutual
theorem WbD.mono {w w':World} (he:Sub w w'):(e:Wb)->(au:OA)->(nu cu:Nat)->WbD w e au nu cu->WbD w' e au nu cu
 | .mk name cond gH,au,nu,cu,h=>by
  unfold WbD at h ⊢;exact⟨h.1,h.2.1,h.2.2.1,gK.mono he gH au h.2.2.2⟩
theorem gK.mono {w w':World} (he:Sub w w'):(l:List Wb)->(a:OA)->gK w l a->gK w' l a
 | [],_,_=>by unfold gK;trivial
 | .mk name cond gH::r,a,h=>by
  unfold gK at h ⊢;obtain⟨b,off,rfl,⟨v,h0,h1,h2,h3,h4,h5,h6⟩,hr⟩:=h;exact⟨b,off,rfl,⟨v,h0,h1.mono he,h2.mono he,h3,h4,h5,gK.mono he gH v.au h6⟩,gK.mono he r _ hr⟩
end
theorem gK.at {w:World}:(l:List Wb)->(a:OA)->gK w l a->(k:Nat)->(hk:k<l.length) ->
  ∃b off,a=some ⟨b,off,none⟩/\∃v:Cz,v.name=l[k].name/\EM w b (off+k*8) v.cells/\dw w l[k].cond v.x.val/\v.nu=l[k].gH.length/\v.nu<=v.cu/\ny v.au v.cu/\gK w l[k].gH v.au
 | [],_,_,k,hk=>by simp at hk
 | .mk name cond gH::r,a,h,0,_=>by
  unfold gK at h;obtain⟨b,off,rfl,⟨v,h0,h1,h2,h3,h4,h5,h6⟩,hr⟩:=h;refine⟨b,off,rfl,v,?_⟩;simp only[Nat.zero_mul,Nat.add_zero];exact⟨h0,h1,h2,h3,h4,h5,h6⟩
 | .mk name cond gH::r,a,h,k+1,hk=>by
  unfold gK at h;obtain⟨b,off,rfl,_,hr⟩:=h;obtain⟨b',off',e1,rest⟩:=gK.at r _ hr k (by simpa using hk);simp at e1;obtain⟨rfl,rfl⟩:=e1;have e1:off+8+k*8=off+(k+1)*8:=by omega
  rw[e1] at rest;exact⟨b,off,rfl,by simpa using rest⟩
theorem gK.of {w:World} {b:Nat}:(l:List Wb)->(off:Nat)->(vs:List Cz)->l.length=vs.length->(∀i (h1:i<l.length) (h2:i<vs.length),vs[i].name=l[i].name/\EM w b (off+i*8) vs[i].cells/\dw w l[i].cond vs[i].x.val/\vs[i].nu=l[i].gH.length/\vs[i].nu<=vs[i].cu/\ny vs[i].au vs[i].cu/\gK w l[i].gH vs[i].au)->gK w l (some ⟨b,off,none⟩)
 | [],_,_,_,_=>by unfold gK;trivial
 | .mk name cond gH::r,off,[],hl,_=>by simp at hl
 | .mk name cond gH::r,off,v::vs,hl,h=>by
  unfold gK;obtain⟨h0,h1,h2,h3,h4,h5,h6⟩:=h 0 (by simp) (by simp);simp only[bB,Nat.zero_mul,Nat.add_zero] at h0 h1 h2 h3 h4 h5 h6;refine⟨b,off,rfl,⟨v,h0,h1,h2,h3,h4,h5,h6⟩,gK.of r (off+8) vs (by simpa using hl) fun i g1 g2=>?_⟩;have:=h (i+1) (by simpa using g1) (by simpa using g2);have e1:off+(i+1)*8=off+8+i*8:=by omega
  rw[e1] at this;simpa using this
def ij (w:World) (c:cK) (v:fM):Prop:=v.kind=c.kind/\v.name=c.name/\dw w c.cond v.x.val/\v.nu=c.gH.length/\v.nu<=v.cu/\ny v.au v.cu/\gK w c.gH v.au/\v.ck=c.ck
theorem ij.mono {w w':World} {c:cK} {v:fM} (h:ij w c v) (hs:Sub w w'):ij w' c v :=
 ⟨h.1,h.2.1,h.2.2.1.mono hs,h.2.2.2.1,h.2.2.2.2.1,h.2.2.2.2.2.1,gK.mono hs _ _ h.2.2.2.2.2.2.1,h.2.2.2.2.2.2.2⟩
def cZ (w:World) (l:List cK) (a:OA) (n c:Nat):Prop :=
 ∃vs:List fM,eE w 10 fM.cells vs a n c/\l.length=vs.length/\∀i (h1:i<l.length) (h2:i<vs.length),ij w l[i] vs[i]
theorem cZ.mono {w w':World} {l:List cK} {a:OA} {n c:Nat} (h:cZ w l a n c) (hs:Sub w w'):cZ w' l a n c:=by
 obtain⟨vs,h1,h2,h3⟩:=h;exact⟨vs,h1.mono hs,h2,fun i hi hv=>(h3 i hi hv).mono hs⟩
theorem cZ.ext {w w':World} {l:List cK} {a:OA} {n c:Nat} (h:cZ w l a n c) (he:Ext w w'):cZ w' l a n c:=h.mono he.sub
theorem cZ.len {w:World} {l:List cK} {a:OA} {n c:Nat} (h:cZ w l a n c):n=l.length:=by
 obtain⟨vs,h1,h2,_⟩:=h;rw[h2];exact h1.1
theorem cZ.cls {w:World} {l:List cK} {a:OA} {n c:Nat} (h:cZ w l a n c):GR w (l.map cK.cl) a n c:=by
 obtain⟨vs,h1,h2,h3⟩:=h;refine⟨vs,h1,by simpa using h2,fun i hi hv=>?_⟩;have hi':i<l.length:=by simpa using hi
 have:=h3 i hi' hv;simp only[List.getElem_map,cK.cl];exact⟨this.1,this.2.1,this.2.2.1⟩
theorem cZ.take {w:World} {l:List cK} {a:OA} {n c:Nat} (h:cZ w l a n c) {k:Nat} (hk:k<=n):cZ w (l.take k) a k c:=by
 have hn:=h.len;obtain⟨vs,⟨g1,g2,g3,g4⟩,h2,h3⟩:=h;refine⟨vs.take k,⟨by simp;omega,by omega,g3,fun i hi=>?_⟩,by simp[h2],fun i hi hv=>?_⟩
 ·have hi':i<vs.length:=by simp at hi;omega
  obtain⟨b,off,e,hc⟩:=g4 i hi';refine⟨b,off,e,fun j hj=>?_⟩;simp only[List.getElem_take] at hj ⊢;exact hc j hj
 simp only[List.getElem_take];exact h3 i (by simp at hi;omega) (by simp at hv;omega)
theorem cZ.at {w:World} {l:List cK} {a:OA} {n c:Nat} (h:cZ w l a n c) {k:Nat} (hk:k<l.length):∃(b off:Nat) (v:fM),a=some ⟨b,off,none⟩/\ij w l[k] v/\EM w b (off+k*10) v.cells:=by
 obtain⟨vs,h1,h2,h3⟩:=h;have hk':k<vs.length:=by omega
 obtain⟨b,off,e,hc⟩:=h1.2.2.2 k hk';exact⟨b,off,vs[k],e,h3 k hk hk',hc⟩
theorem EM.BB {w:World} {b off:Nat} {v:fM} (h:EM w b off v.cells):w.cell? ⟨b,off,none⟩=some (.int .i64 v.kind)/\w.cell? ⟨b,off+1,none⟩=some (.string v.name)/\w.cell? ⟨b,off+2,none⟩=some (.int .i64 v.x.op)/\w.cell? ⟨b,off+3,none⟩=some (.string v.x.name) /\
  w.cell? ⟨b,off+4,none⟩=some (.slice v.x.aw v.x.nw v.x.cw)/\w.cell? ⟨b,off+5,none⟩=some (.int .i64 v.x.lo)/\w.cell? ⟨b,off+6,none⟩=some (.int .i64 v.x.hi)/\w.cell? ⟨b,off+7,none⟩=some (.slice v.x.aa v.x.na v.x.ca) /\
  w.cell? ⟨b,off+8,none⟩=some (.slice v.au v.nu v.cu)/\w.cell? ⟨b,off+9,none⟩=some (.int .i64 v.ck) :=
 ⟨h 0 (by simp[fM.len]),h 1 (by simp[fM.len]),h 2 (by simp[fM.len]),h 3 (by simp[fM.len]),h 4 (by simp[fM.len]),h 5 (by simp[fM.len]),h 6 (by simp[fM.len]),h 7 (by simp[fM.len]),h 8 (by simp[fM.len]),h 9 (by simp[fM.len])⟩
theorem EM.eight {w:World} {b off:Nat} {v:Cz} (h:EM w b off v.cells):w.cell? ⟨b,off,none⟩=some (.string v.name)/\w.cell? ⟨b,off+1,none⟩=some (.int .i64 v.x.op)/\w.cell? ⟨b,off+2,none⟩=some (.string v.x.name) /\
  w.cell? ⟨b,off+3,none⟩=some (.slice v.x.aw v.x.nw v.x.cw)/\w.cell? ⟨b,off+4,none⟩=some (.int .i64 v.x.lo)/\w.cell? ⟨b,off+5,none⟩=some (.int .i64 v.x.hi)/\w.cell? ⟨b,off+6,none⟩=some (.slice v.x.aa v.x.na v.x.ca)/\w.cell? ⟨b,off+7,none⟩=some (.slice v.au v.nu v.cu) :=
 ⟨h 0 (by simp[Cz.len]),h 1 (by simp[Cz.len]),h 2 (by simp[Cz.len]),h 3 (by simp[Cz.len]),h 4 (by simp[Cz.len]),h 5 (by simp[Cz.len]),h 6 (by simp[Cz.len]),h 7 (by simp[Cz.len])⟩
structure Attr where
 name:BA
 kind:Int
 words:ZB
 lo:Int
 hi:Int
def QT (w:World) (x:Attr) (b off:Nat):Prop:=∃aw nw cw,w.cell? ⟨b,off,none⟩=some (.string x.name)/\w.cell? ⟨b,off+1,none⟩=some (.int .i64 x.kind)/\w.cell? ⟨b,off+2,none⟩=some (.slice aw nw cw)/\w.cell? ⟨b,off+3,none⟩=some (.int .i64 x.lo) /\
 w.cell? ⟨b,off+4,none⟩=some (.int .i64 x.hi)/\fS w x.words aw nw cw
def dB (w:World) (l:List Attr) (v:Value):Prop:=∃a n c,v=.agg #[.slice a n c]/\n=l.length/\n<=c/\ny a c/\∀i (h:i<l.length),∃b off,a=some ⟨b,off,none⟩/\QT w l[i] b (off+i*5)
theorem QT.mono {w w':World} {x:Attr} {b off:Nat} (h:QT w x b off) (hs:Sub w w'):QT w' x b off:=by
 obtain⟨aw,nw,cw,h0,h1,h2,h3,h4,h5⟩:=h;exact⟨aw,nw,cw,hs _ _ h0,hs _ _ h1,hs _ _ h2,hs _ _ h3,hs _ _ h4,h5.mono hs⟩
theorem dB.mono {w w':World} {l:List Attr} {v:Value} (h:dB w l v) (hs:Sub w w'):dB w' l v:=by
 obtain⟨a,n,c,h1,h2,h3,h4,h5⟩:=h;exact⟨a,n,c,h1,h2,h3,h4,fun i hi=>by obtain⟨b,off,e1,e2⟩:=h5 i hi;exact⟨b,off,e1,e2.mono hs⟩⟩
def uy:Attr:=⟨⟨#[112,101,114,105,108]⟩,1,[⟨#[102,105,114,101]⟩,⟨#[102,108,111,111,100]⟩,⟨#[119,105,110,100]⟩,⟨#[116,104,101,102,116]⟩],0,0⟩
def gi:List (List Attr):=[[uy,⟨⟨#[115,116,111,114,101,121,115]⟩,2,[],1,9⟩,⟨⟨#[97,108,97,114,109]⟩,3,[],0,0⟩],
 [⟨⟨#[110]⟩,2,[],-5,20⟩],
 [⟨⟨#[97]⟩,3,[],0,0⟩,⟨⟨#[114,111,108,101]⟩,1,[⟨#[99,114,101,119]⟩,⟨#[103,117,101,115,116]⟩],0,0⟩,⟨⟨#[98]⟩,3,[],0,0⟩],
 [⟨⟨#[110]⟩,2,[],-1000000000,1000000000⟩,⟨⟨#[116]⟩,3,[],0,0⟩],
 [⟨⟨#[111,110,101]⟩,1,[⟨#[111,110,108,121]⟩],0,0⟩,uy,⟨⟨#[110]⟩,2,[],0,6⟩,⟨⟨#[116]⟩,3,[],0,0⟩],
 [⟨⟨#[116]⟩,3,[],0,0⟩]]
theorem Dd (x n:Int) (w:World) (hn:0<n) (hn2:n<=1000000000000000000):Calls Tryz.prog 16 #[.int .i64 x,.int .i64 n] w (fun e w'=>∃r:Int,e=.returned (.int .i64 r)/\0<=r/\r<n/\w=w'):=by
 go_enter Tryz.func16,Tryz.ntmps16
 go_wp2_with fail;go_ret;have a1:=Int.tmod_lt_of_pos x hn;have a5:=Int.lt_tmod_of_pos x hn;rw[IntWalk.wrap64_in (x.tmod n+n) (by omega)];exact⟨_,rfl,Int.tmod_nonneg n (by omega),Int.tmod_lt_of_pos (x.tmod n+n) hn,rfl⟩
theorem PT {w:World} {l:ZB} {g n c:Nat} (h:fS w l (some ⟨g,0,none⟩) n c) {b:Nat} (hb:g≠b) (u:Value) (o:Obj):fS ((w.setCell ⟨b,0,none⟩ u).alloc o) l (some ⟨g,0,none⟩) n c:=by
 refine⟨h.1,h.2.1,h.2.2.1,fun i hi=>?_⟩;obtain⟨b',off,e1,e2⟩:=h.2.2.2 i hi;simp only[a42,Addr.mk.injEq,and_true] at e1;obtain⟨rfl,rfl⟩:=e1;refine⟨g,0,rfl,Ext.cell ((Tz _).alloc o) ?_⟩;rw[World.cell?_setCell_other _ _ _ _ (fun e=>hb (by injection e with e1;exact e1.symm))];exact e2
def aNm (w:World) (e:Ending) (w':World):Prop:=∃g,e=.returned (.agg #[.string uy.name,.int .i64 1,.slice (some ⟨g,0,none⟩) 4 4,.int .i64 0,.int .i64 0])/\fS w' uy.words (some ⟨g,0,none⟩) 4 4/\Ext w w'/\w.heap.size<g
theorem xH {w:World} {g:Nat} {l:ZB} {t:TypeId} (h:w.heap[g]?=some (.cells (l.map Value.string).toArray t (0,0))) {n:Nat} (hn:n=l.length):fS w l (some ⟨g,0,none⟩) n n:=by
 subst hn;refine⟨rfl,aU _,a4Z ⟨g,0,rfl⟩,fun i hi=>⟨g,0,rfl,?_⟩⟩;rw[Nat.zero_add,bX h];simp[hi]
structure qU where
 x:Attr
 a:OA
 n:Nat
 c:Nat
def qU.cells (v:qU):List Value:=[.string v.x.name,.int .i64 v.x.kind,.slice v.a v.n v.c,.int .i64 v.x.lo,.int .i64 v.x.hi]
theorem ji (w:World):fS w [] none 0 0:=⟨rfl,by omega,aoX ⟨rfl,rfl⟩,fun i hi=>by simp at hi⟩
theorem Kq {w:World} {g:Nat} {Ub:List qU} {t:TypeId} (h:w.heap[g]?=some (.cells (Ub.flatMap qU.cells).toArray t (0,0))) {n:Nat} (hn:n=Ub.length) (hs:∀v∈Ub,fS w v.x.words v.a v.n v.c):dB w (Ub.map (·.x)) (.agg #[.slice (some ⟨g,0,none⟩) n n]):=by
 subst hn;refine⟨some ⟨g,0,none⟩,_,_,rfl,by simp,aU _,a4Z ⟨g,0,rfl⟩,fun i hi=>⟨g,0,rfl,?_⟩⟩;have hi':i<Ub.length:=by simpa using hi
 have key:∀j (hj:j<5),w.cell? ⟨g,i*5+j,none⟩=some ((Ub[i].cells)[j]'(by simp[qU.cells];omega)):=by
  intro j hj;rw[bX h];have:=iJ qU.cells 5 (fun _=>rfl) Ub i hi' j (by simp[qU.cells];omega);simpa using this
 have e:(Ub.map (·.x))[i]=Ub[i].x:=by simp
 rw[e,Nat.zero_add];exact⟨Ub[i].a,Ub[i].n,Ub[i].c,key 0 (by omega),key 1 (by omega),key 2 (by omega),key 3 (by omega),key 4 (by omega),hs _ (aD hi')⟩
theorem Te (w:World):Calls Tryz.prog 55 #[] w (aNm w):=by
 go_enter Tryz.func55,Tryz.ntmps55
 go_wp2_with fail;refine a5a (v:=.agg #[.string uy.name,.int .i64 1,.slice (some ⟨w.heap.size+1,0,none⟩) 4 4,.int .i64 0,.int .i64 0]) (by simp[results,Tryz.results55,go_sem,uy]) rfl ?_;refine⟨_,rfl,xH (l:=uy.words) (t:=9) ?_ rfl,((Tz w).alloc _).alloc _,by omega⟩;have:=bR (w.alloc (.cells #[.string uy.name,.int .i64 1,.slice (some ⟨w.heap.size+1,0,none⟩) 4 4,.int .i64 0,.int .i64 0] 101)) (.cells (uy.words.map Value.string).toArray 9);simpa[uy] using this
theorem Tx {w:World} {M:ZN} {l:ZB} {a:OA} {n c:Nat} (h:fS w l a n c) (ha:∀b off,a=some ⟨b,off,none⟩->b∉M):fS (mask w M) l a n c:=by
 refine⟨h.1,h.2.1,h.2.2.1,fun i hi=>?_⟩;obtain⟨b,off,e,hc⟩:=h.2.2.2 i hi;exact⟨b,off,e,by rw[eA,bL (ha b off e)];exact hc⟩
theorem aCT {w:World} {M:ZN} {g:Nat} {o:Obj} (h:w.heap[g]?=some o) (hg:g∉M):(mask w M).heap[g]?=some o:=by
 unfold mask;simp only[Array.getElem?_mapIdx,h,Option.map_some,hg,if_false]
def axx (M:ZN) (w:World) (e:Ending) (w':World):Prop:=∃l v,e=.returned v/\l∈gi/\dB (mask w' M) l v/\Ext w w'
theorem E6 {w W:World} {g n:Nat} {l:List Attr} {M:ZN} (hM:∀y∈M,y<w.heap.size) (Ub:List qU) {t:TypeId} (hg:w.heap.size<=g) (ha:∀v∈Ub,∀b off,v.a=some ⟨b,off,none⟩->w.heap.size<=b) (h:W.heap[g]?=some (.cells (Ub.flatMap qU.cells).toArray t (0,0))) (hn:n=Ub.length) (hl:Ub.map (·.x)=l) (hm:l∈gi) (hs:∀v∈Ub,fS W v.x.words v.a v.n v.c) (hx:Ext w W) :
  axx M w (.returned (.agg #[.slice (some ⟨g,0,none⟩) n n])) W :=
 ⟨l,_,rfl,hm,hl ▸ Kq (aCT h (fun hh=>by have:=hM _ hh;omega)) hn (fun v hv=>Tx (hs v hv) (fun b off e hh=>by have:=hM _ hh;have:=ha v hv b off e;omega)),hx⟩
theorem xq (k:Int) (M:ZN) (w:World) (hM:∀y∈M,y<w.heap.size):Calls Tryz.prog 26 #[.int .i64 k] w (axx M w):=by
 have II:=ai hM;clear hM;go_enter Tryz.func26,Tryz.ntmps26
 go_wp2_with fail;refine(Dd _ _ _ (by omega) (by omega)).mono ?_;rintro e w' ⟨r,rfl,h0,h1,rfl⟩;have h:r=0\/r=1\/r=2\/r=3\/r=4\/r=5:=by omega
 clear h0 h1;rcases h with rfl|rfl|rfl|rfl|rfl|rfl
 ·go_wp2_with fail;refine(Te _).mono ?_;rintro e w' ⟨g,rfl,hp,hx,hgn⟩;simp at hgn;have eV:=hx.size;simp at eV;have hb:=hx.blk (bR w _);have hlt:=bS hb;have c0:=bX hb 0;have cf:=ie hb;simp at c0;have HX:=ai (((Tz w).alloc _).trans hx);have HP:=ai hp;clear hx hb hp;go_wp2_with fail;refine a5a (v:=.agg #[.slice (some ⟨w'.heap.size,0,none⟩) 3 3]) (by simp[results,Tryz.results26,go_sem,c0,hlt]) rfl ?_;refine E6 II.o [⟨uy,some ⟨g,0,none⟩,4,4⟩,⟨⟨⟨#[115,116,111,114,101,121,115]⟩,2,[],1,9⟩,none,0,0⟩,⟨⟨⟨#[97,108,97,114,109]⟩,3,[],0,0⟩,none,0,0⟩] (t:=101) (by omega) (by intro v hv b off he;simp only[bz,bC,or_false] at hv;(repeat' (rcases hv with rfl|hv))<;>(try subst hv)<;>simp at he<;>omega) ?_ rfl rfl (by simp[gi]) ?_ ?_
  ·simpa[qU.cells,uy] using bR (w'.setCell ⟨w.heap.size,0,none⟩ (.slice (some ⟨w'.heap.size,0,none⟩) 3 3)) (.cells #[.string uy.name,.int .i64 1,.slice (some ⟨g,0,none⟩) 4 4,.int .i64 0,.int .i64 0,.string ⟨#[115,116,111,114,101,121,115]⟩,.int .i64 2,.slice none 0 0,.int .i64 1,.int .i64 9,.string ⟨#[97,108,97,114,109]⟩,.int .i64 3,.slice none 0 0,.int .i64 0,.int .i64 0] 101)
  ·intro v hv;simp only[bz,bC,or_false] at hv;rcases hv with rfl|rfl|rfl
   ·exact PT HP.o (by omega) _ _
   ·exact ji _
   exact ji _
  exact(HX.o.fV (by simp) _).alloc _
 ·go_wp2_with fail;refine a5a (v:=.agg #[.slice (some ⟨w.heap.size+1,0,none⟩) 1 1]) (by simp[results,Tryz.results26,go_sem]) rfl ?_;refine E6 II.o [⟨⟨⟨#[110]⟩,2,[],-5,20⟩,none,0,0⟩] (t:=101) (by omega) (by intro v hv b off he;simp only[bz,bC,or_false] at hv;(repeat' (rcases hv with rfl|hv))<;>(try subst hv)<;>simp at he<;>omega) ?_ rfl rfl (by simp[gi]) (by intro v hv;simp at hv;subst hv;exact ji _) (((Tz w).alloc _).alloc _);simpa[qU.cells] using bR (w.alloc (.cells #[.slice (some ⟨w.heap.size+1,0,none⟩) 1 1] 24)) (.cells #[.string ⟨#[110]⟩,.int .i64 2,.slice none 0 0,.int .i64 (-5),.int .i64 20] 101)
 ·go_wp2_with fail;refine a5a (v:=.agg #[.slice (some ⟨w.heap.size+2,0,none⟩) 3 3]) (by simp[results,Tryz.results26,go_sem]) rfl ?_;refine E6 II.o [⟨⟨⟨#[97]⟩,3,[],0,0⟩,none,0,0⟩,⟨⟨⟨#[114,111,108,101]⟩,1,[⟨#[99,114,101,119]⟩,⟨#[103,117,101,115,116]⟩],0,0⟩,some ⟨w.heap.size+1,0,none⟩,2,2⟩,⟨⟨⟨#[98]⟩,3,[],0,0⟩,none,0,0⟩] (t:=101) (by omega) (by intro v hv b off he;simp only[bz,bC,or_false] at hv;(repeat' (rcases hv with rfl|hv))<;>(try subst hv)<;>simp at he<;>omega) ?_ rfl rfl (by simp[gi]) ?_ ((((Tz w).alloc _).alloc _).alloc _)
  ·simpa[qU.cells] using bR ((w.alloc (.cells #[.slice (some ⟨w.heap.size+2,0,none⟩) 3 3] 24)).alloc (.cells #[.string ⟨#[99,114,101,119]⟩,.string ⟨#[103,117,101,115,116]⟩] 9)) (.cells #[.string ⟨#[97]⟩,.int .i64 3,.slice none 0 0,.int .i64 0,.int .i64 0,.string ⟨#[114,111,108,101]⟩,.int .i64 1,.slice (some ⟨w.heap.size+1,0,none⟩) 2 2,.int .i64 0,.int .i64 0,.string ⟨#[98]⟩,.int .i64 3,.slice none 0 0,.int .i64 0,.int .i64 0] 101)
  intro v hv;simp only[bz,bC,or_false] at hv;rcases hv with rfl|rfl|rfl
  ·exact ji _
  ·refine xH (t:=9) (bU ?_) rfl;simpa using bR (w.alloc (.cells #[.slice (some ⟨w.heap.size+2,0,none⟩) 3 3] 24)) (.cells #[.string ⟨#[99,114,101,119]⟩,.string ⟨#[103,117,101,115,116]⟩] 9)
  exact ji _
 ·go_wp2_with fail;refine a5a (v:=.agg #[.slice (some ⟨w.heap.size+1,0,none⟩) 2 2]) (by simp[results,Tryz.results26,go_sem]) rfl ?_;refine E6 II.o [⟨⟨⟨#[110]⟩,2,[],-1000000000,1000000000⟩,none,0,0⟩,⟨⟨⟨#[116]⟩,3,[],0,0⟩,none,0,0⟩] (t:=101) (by omega) (by intro v hv b off he;simp only[bz,bC,or_false] at hv;(repeat' (rcases hv with rfl|hv))<;>(try subst hv)<;>simp at he<;>omega) ?_ rfl rfl (by simp[gi]) ?_ (((Tz w).alloc _).alloc _)
  ·simpa[qU.cells] using bR (w.alloc (.cells #[.slice (some ⟨w.heap.size+1,0,none⟩) 2 2] 24)) (.cells #[.string ⟨#[110]⟩,.int .i64 2,.slice none 0 0,.int .i64 (-1000000000),.int .i64 1000000000,.string ⟨#[116]⟩,.int .i64 3,.slice none 0 0,.int .i64 0,.int .i64 0] 101)
  intro v hv;simp only[bz,bC,or_false] at hv;rcases hv with rfl|rfl<;>exact ji _
 ·go_wp2_with fail;refine(Te _).mono ?_;rintro e w' ⟨g,rfl,hp,hx,hgn⟩;simp at hgn;have eV:=hx.size;simp at eV;have HO:=ai (hx.blk (bR (w.alloc (.cells #[.slice none 0 0] 24)) (.cells #[.string ⟨#[111,110,108,121]⟩] 9)));have hb:=hx.blk (bU (o':=.cells #[.string ⟨#[111,110,108,121]⟩] 9) (bR w (.cells #[.slice none 0 0] 24)));have hlt:=bS hb;have c0:=bX hb 0;have cf:=ie hb;simp at c0;have HX:=ai ((((Tz w).alloc _).alloc _).trans hx);have HP:=ai hp;clear hx hb hp;go_wp2_with fail;refine a5a (v:=.agg #[.slice (some ⟨w'.heap.size,0,none⟩) 4 4]) (by simp[results,Tryz.results26,go_sem,c0,hlt]) rfl ?_;refine E6 II.o [⟨⟨⟨#[111,110,101]⟩,1,[⟨#[111,110,108,121]⟩],0,0⟩,some ⟨w.heap.size+1,0,none⟩,1,1⟩,⟨uy,some ⟨g,0,none⟩,4,4⟩,⟨⟨⟨#[110]⟩,2,[],0,6⟩,none,0,0⟩,⟨⟨⟨#[116]⟩,3,[],0,0⟩,none,0,0⟩] (t:=101) (by omega) (by intro v hv b off he;simp only[bz,bC,or_false] at hv;(repeat' (rcases hv with rfl|hv))<;>(try subst hv)<;>simp at he<;>omega) ?_ rfl rfl (by simp[gi]) ?_ ?_
  ·simpa[qU.cells,uy] using bR (w'.setCell ⟨w.heap.size,0,none⟩ (.slice (some ⟨w'.heap.size,0,none⟩) 4 4)) (.cells #[.string ⟨#[111,110,101]⟩,.int .i64 1,.slice (some ⟨w.heap.size+1,0,none⟩) 1 1,.int .i64 0,.int .i64 0,.string uy.name,.int .i64 1,.slice (some ⟨g,0,none⟩) 4 4,.int .i64 0,.int .i64 0,.string ⟨#[110]⟩,.int .i64 2,.slice none 0 0,.int .i64 0,.int .i64 6,.string ⟨#[116]⟩,.int .i64 3,.slice none 0 0,.int .i64 0,.int .i64 0] 101)
  ·intro v hv;simp only[bz,bC,or_false] at hv;rcases hv with rfl|rfl|rfl|rfl
   ·refine PT (xH (t:=9) (l:=[⟨#[111,110,108,121]⟩]) ?_ rfl) (by simp) _ _;simpa using HO.o
   ·exact PT HP.o (by omega) _ _
   ·exact ji _
   exact ji _
  exact(HX.o.fV (by simp) _).alloc _
 go_wp2_with fail;refine a5a (v:=.agg #[.slice (some ⟨w.heap.size+1,0,none⟩) 1 1]) (by simp[results,Tryz.results26,go_sem]) rfl ?_;refine E6 II.o [⟨⟨⟨#[116]⟩,3,[],0,0⟩,none,0,0⟩] (t:=101) (by omega) (by intro v hv b off he;simp only[bz,bC,or_false] at hv;(repeat' (rcases hv with rfl|hv))<;>(try subst hv)<;>simp at he<;>omega) ?_ rfl rfl (by simp[gi]) (by intro v hv;simp at hv;subst hv;exact ji _) (((Tz w).alloc _).alloc _);simpa[qU.cells] using bR (w.alloc (.cells #[.slice (some ⟨w.heap.size+1,0,none⟩) 1 1] 24)) (.cells #[.string ⟨#[116]⟩,.int .i64 3,.slice none 0 0,.int .i64 0,.int .i64 0] 101)
theorem jv (c:Int) (w:World):Calls Tryz.prog 175 #[.int .u8 c] w (pg (.bool (jX c)) w):=by
 go_enter Tryz.func175,Tryz.ntmps175
 go_wp2_with fail
 all_goals (go_ret;exact fU (by simp[jX];omega))
theorem ox (c:Int) (w:World):Calls Tryz.prog 176 #[.int .u8 c] w (pg (.bool (gP c)) w):=by
 go_enter Tryz.func176,Tryz.ntmps176
 go_wp2_with fail
 all_goals (go_ret;exact fU (by simp[gP];omega))
theorem U6 (n:Int) (w:World):Calls Tryz.prog 154 #[.int .i64 n] w (pg (.bool (!iM n)) w):=by
 go_enter Tryz.func154,Tryz.ntmps154
 go_wp2_with fail
 all_goals (go_ret;exact fU (by rw[bH];simp[iM];omega))
theorem adw (s:BA) (w:World):Calls Tryz.prog 151 #[.string s] w (pg (.bool (NF s)) w):=by
 go_enter Tryz.func151,Tryz.ntmps151
 go_wp2_with fail
 all_goals (go_ret;exact fU (by simp_all [NF,MG]))
theorem acw (p:Int->Bool) (s:BA):∀(m k:Nat),s.size - k=m->k<=s.size->(ki p s (s.size - k) k=s.size ↔ ∀j (h:j<s.size),k<=j->p (s[j].toNat:Int)=true):=by
 intro m;induction m with
 | zero =>
  intro k hm hk;rw[Nx (by omega)];exact⟨fun _ j h hj=>by omega,fun _=>by omega⟩
 | succ m ih =>
  intro k hm hk;have hlt:k<s.size:=by omega
  cases hp:p (s[k].toNat:Int)
  ·rw[JS hlt hp];exact⟨fun h=>by omega,fun h=>by rw[h k hlt (aU _)] at hp;cases hp⟩
  rw[zB hlt hp,ih (k+1) (by omega) (by omega)];refine⟨fun h j hj hkj=>?_,fun h j hj hkj=>h j hj (by omega)⟩;by_cases e:j=k
  ·subst e;exact hp
  exact h j hj (by omega)
theorem aBd {s:BA} (h0:s.size≠0) (h1:s.size<=16) (h2:jX (jo s 0)=true) (h3:jo s (s.size - 1)≠45) (h:∀j (hj:j<s.size),gm (s[j].toNat:Int)=true):kM s=true:=by
 have:=(acw gm s _ 0 rfl (by omega)).2 (fun j hj _=>h j hj);rw[Nat.sub_zero] at this;simp[kM,h0,h1,h2,h3,this]
theorem aBe {s:BA} {j:Nat} (hj:j<s.size) (h:gm (s[j].toNat:Int)=false):kM s=false:=by
 cases hb:kM s
 ·rfl
 simp only[kM,aF,a47] at hb;have:=(acw gm s _ 0 rfl (by omega)).1 (by rw[Nat.sub_zero];exact hb.2) j hj (by omega);rw[h] at this;cases this
theorem LO (s:BA) (w:World) (hs:s.size<=1000000000000000):Calls Tryz.prog 150 #[.string s] w (pg (.bool (kM s)) w):=by
 by_cases h0:s.size=0
 ·have H:=ai (show kM s=false by simp[kM,h0]);have hz:decide ((s.size:Int)<1)=true:=by simp[h0]
  clear h0;go_enter Tryz.func150,Tryz.ntmps150
  go_wp2_with fail;go_ret;exact fU (by rw[H.o])
 have hz:decide ((s.size:Int)<1)=false:=by simp;omega
 by_cases h1:s.size<=16
 ·have hb0:=lp (show 0<s.size by omega);have hb1:=lp (show s.size - 1<s.size by omega);have hz2:decide ((16:Int)<s.size)=false:=by simp;omega
  cases h2:jX (s[0]'(by omega)).toNat
  ·have H:=ai (show kM s=false by simp[kM,hb0,h2]);have H2:=ai h2;clear h2 hb0 hb1;go_enter Tryz.func150,Tryz.ntmps150
   go_wp2_with fail;refine(jv _ _).mono ?_;rintro e w' ⟨rfl,rfl⟩;rw[H2.o];go_wp2_with fail;go_ret;exact fU (by rw[H.o])
  have H2:=ai h2;have iO:=ai hb0;have gG:=ai hb1;clear h2 hb0 hb1;have e1:((s.size:Int) - 1).toNat=s.size - 1:=by omega
  cases h3:((s[s.size - 1]'(by omega)).toNat:Int)==45
  ·have HY:=ai (show (∀j (hj:j<s.size),gm (s[j].toNat:Int)=true)->kM s=true from fun h=>aBd h0 h1 (by rw[iO.o];exact H2.o) (by rw[gG.o];simpa using h3) h);go_enter Tryz.func150,Tryz.ntmps150
   go_wp2_with fail;refine(jv _ _).mono ?_;rintro e w' ⟨rfl,rfl⟩;rw[H2.o];go_wp2_with fail
   go_loop [3] (fun i=>∃k:Nat,i=.int .i64 k/\k<=s.size/\∀j (hj:j<s.size),j<k->gm (s[j].toNat:Int)=true) (fun i=>s.size - (intOf i).toNat)
   case atStart=>exact⟨0,rfl,by omega,fun j _ h=>by omega⟩
   case round =>
    obtain⟨k,rfl,hk,hall⟩:=hrel;have HA:=ai hall;clear hall;by_cases hlt:k<s.size
    ·have HN:=ai (fun h=>aBe (s:=s) hlt h);cases h4:jX (s[k].toNat:Int)
     ·cases h5:gP (s[k].toNat:Int)
      ·cases h6:((s[k].toNat:Int)==45)
       ·have H:=ai (HN.o (by simp[gm,h4,h5,h6]));have h6':((s[k].toNat:Int) != 45)=true:=by simpa using h6
        have H4:=ai h4;have H5:=ai h5;clear h4 h5;go_wp2_with fail;refine(jv _ _).mono ?_;rintro e w' ⟨rfl,rfl⟩;rw[H4.o];go_wp2_with fail;refine(ox _ _).mono ?_;rintro e w' ⟨rfl,rfl⟩;rw[H5.o];go_wp2_with fail;go_ret;exact fU (by rw[H.o])
       have H:=ai (show gm (s[k].toNat:Int)=true by simp[gm,h4,h5,h6]);have h6':((s[k].toNat:Int) != 45)=false:=by simpa using h6
       have H4:=ai h4;have H5:=ai h5;clear h4 h5;go_wp2_with fail;refine(jv _ _).mono ?_;rintro e w' ⟨rfl,rfl⟩;rw[H4.o];go_wp2_with fail;refine(ox _ _).mono ?_;rintro e w' ⟨rfl,rfl⟩;rw[H5.o];go_wp2_with fail
       go_round
       case rel=>exact⟨k+1,by go_num,by omega,fun j hj hjk=>by
        by_cases e:j=k
        ·subst e;exact H.o
        exact HA.o j hj (by omega)⟩
       case measure=>simp[intOf];omega
      have H:=ai (show gm (s[k].toNat:Int)=true by simp[gm,h4,h5]);have H4:=ai h4;have H5:=ai h5;clear h4 h5;go_wp2_with fail;refine(jv _ _).mono ?_;rintro e w' ⟨rfl,rfl⟩;rw[H4.o];go_wp2_with fail;refine(ox _ _).mono ?_;rintro e w' ⟨rfl,rfl⟩;rw[H5.o];go_wp2_with fail
      go_round
      case rel=>exact⟨k+1,by go_num,by omega,fun j hj hjk=>by
       by_cases e:j=k
       ·subst e;exact H.o
       exact HA.o j hj (by omega)⟩
      case measure=>simp[intOf];omega
     have H:=ai (show gm (s[k].toNat:Int)=true by simp[gm,h4]);have H4:=ai h4;clear h4;go_wp2_with fail;refine(jv _ _).mono ?_;rintro e w' ⟨rfl,rfl⟩;rw[H4.o];go_wp2_with fail
     go_round
     case rel=>exact⟨k+1,by go_num,by omega,fun j hj hjk=>by
      by_cases e:j=k
      ·subst e;exact H.o
      exact HA.o j hj (by omega)⟩
     case measure=>simp[intOf];omega
    go_wp2_with fail;go_ret;exact fU (by rw[HY.o (fun j hj=>HA.o j hj (by omega))])
  have H:=ai (show kM s=false by simp[kM,iO.o,gG.o,H2.o,h1,h0];intro h;simp at h3;omega);go_enter Tryz.func150,Tryz.ntmps150
  go_wp2_with fail;refine(jv _ _).mono ?_;rintro e w' ⟨rfl,rfl⟩;rw[H2.o];go_wp2_with fail;go_ret;exact fU (by rw[H.o])
 have H:=ai (show kM s=false by simp[kM];omega);have hz2:decide ((16:Int)<s.size)=true:=by simp;omega
 go_enter Tryz.func150,Tryz.ntmps150
 go_wp2_with fail;go_ret;exact fU (by rw[H.o])
theorem nO (s:BA) (w:World) (hs:s.size<=1000000000000000):Calls Tryz.prog 118 #[.string s] w (pg (.bool (gJ s)) w):=by
 go_enter Tryz.func118,Tryz.ntmps118
 go_wp2_with (first
  | (go_at_call 150;refine(LO _ _ hs).mono ?_;rintro e w' ⟨rfl,rfl⟩)
  | (go_at_call 151;refine(adw _ _).mono ?_;rintro e w' ⟨rfl,rfl⟩))
 all_goals (go_ret;exact fU (by simp_all [gJ]))
theorem Gx (l:ZB) (a:OA) (n c:Nat) (w:World) (hl:fS w l a n c) (hn:n<=1000000000000000) (hsz:∀x∈l,x.size<=1000000000000000) :
  Calls Tryz.prog 152 #[.slice a n c] w (pg (.bool (l.all gJ)) w):=by
 have HL:=ai hl;have HZ:=ai hsz;have hnl:=ai hl.1;clear hl hsz;go_enter Tryz.func152,Tryz.ntmps152
 go_wp2_with fail
 go_loop [3] (fun t=>∃k:Nat,t=.int .i64 k/\k<=n/\∀j (hj:j<l.length),j<k->gJ l[j]=true) (fun t=>n - (intOf t).toNat)
 case atStart=>exact⟨0,rfl,by omega,fun j _ h=>by omega⟩
 case round =>
  obtain⟨k,rfl,hk,hlo⟩:=hrel;have HO:=ai hlo;clear hlo;by_cases hlt:k<n
  ·have hlt':k<l.length:=by have:=hnl.out;omega
   have hsk:=HZ.o _ (aD hlt');obtain⟨b,off,rfl,hcell⟩:=HL.o.2.2.2 k hlt';cases h3:gJ l[k]
   ·have H:=ai (show l.all gJ=false by
     rw[List.all_eq_false];exact⟨l[k],aD hlt',by simp[h3]⟩)
    have H3:=ai h3;clear h3;go_wp2_with fail;refine(nO _ _ hsk).mono ?_;rintro e w' ⟨rfl,rfl⟩;rw[H3.o];go_wp2_with fail;go_ret;exact fU (by rw[H.o])
   have H3:=ai h3;clear h3;go_wp2_with fail;refine(nO _ _ hsk).mono ?_;rintro e w' ⟨rfl,rfl⟩;rw[H3.o];go_wp2_with fail
   go_round
   case rel=>exact⟨k+1,by go_num,by omega,fun j hj hjk=>by
    by_cases e:j=k
    ·subst e;exact H3.o
    exact HO.o j hj (by omega)⟩
   case measure=>simp[intOf];omega
  go_wp2_with fail;go_ret;exact fU (by
   symm
   rw[aP];intro x hx;obtain⟨j,hj,rfl⟩:=bA hx;exact HO.o j hj (by have:=hnl.out;omega))
theorem aCG {l:ZB} {n:Nat} (hn:n=l.length) (h:∀i j (hi:i<l.length) (hj:j<l.length),i<n->j<i->l[i]≠l[j]):l.Nodup:=by
 rw[List.Nodup,List.pairwise_iff_getElem];intro i j hi hj hij e;exact h j i hj hi (by omega) hij e.symm
def Ys (v:Value) (w:World) (e:Ending) (w':World):Prop:=e=.returned v/\∃n,w'=w.drewN n
theorem drewN_drewN (w:World) (a b:Nat):(w.drewN a).drewN b=w.drewN (a+b):=by simp[World.drewN,Nat.add_assoc]
theorem nR {a b:Bool} {w w':World} (h:a=b) (hx:∃n,w'=w.drewN n):Ys (.bool b) w (.returned (.bool a)) w':=by subst h;exact⟨rfl,hx⟩
theorem DN (l:ZB) (a:OA) (n c:Nat) (w:World) (hl:fS w l a n c) (hn:n<=1000000000000000) :
  Calls Tryz.prog 153 #[.slice a n c] w (Ys (.bool (decide l.Nodup)) w):=by
 have HL:=ai hl;have hnl:=ai hl.1;clear hl;go_enter Tryz.func153,Tryz.ntmps153
 go_wp2_with fail;go_loopw [3,4] (fun t _ wr=>∃k:Nat,t=.int .i64 k/\k<=n/\(∀i j (hi:i<l.length) (hj:j<l.length),i<k->j<i->l[i]≠l[j])/\∃q,wr=w.drewN q) (fun t _ _=>n - (intOf t).toNat)
 case atStart=>exact⟨0,rfl,by omega,fun i j _ _ h=>by omega,0,rfl⟩
 case round =>
  obtain⟨k,rfl,hk,hlo,q,rfl⟩:=hrel;have HO:=ai hlo;clear hlo;by_cases hlt:k<n
  ·have hlt':k<l.length:=by have:=hnl.out;omega
   go_wp2_with fail;go_loopw [4] (fun t wr2=>∃m:Nat,t=.int .i64 m/\m<=k/\(∀j (hj:j<l.length),j<m->l[k]≠l[j])/\∃q,wr2=w.drewN q) (fun t _=>k - (intOf t).toNat)
   case atStart=>exact⟨0,rfl,by omega,fun j _ h=>by omega,q,rfl⟩
   case round =>
    obtain⟨m,rfl,hm,hne,q2,rfl⟩:=hrel;have HE:=ai hne;clear hne;by_cases hmk:m<k
    ·have aQC:m<l.length:=by omega
     obtain⟨b,off,rfl,hc1⟩:=HL.o.2.2.2 k hlt';obtain⟨b',off',e,hc2⟩:=HL.o.2.2.2 m aQC;simp only[a42,Addr.mk.injEq,and_true] at e;obtain⟨rfl,rfl⟩:=e;have Sc:(0:Int)<=(k:Int):=by omega
     have ti1:(k:Int)<(n:Int):=by omega
     have tj0:(0:Int)<=(m:Int):=by omega
     have tj1:(m:Int)<(n:Int):=by omega
     cases he:(l[k].toList==l[m].toList)
     ·have HQ:=ai he;go_wp2_with fail;go_quiet (fail)
      go_wp2_with fail;go_roundw
      case rel =>
       refine⟨m+1,by go_num,by omega,fun j hj hjm=>?_,_,rfl⟩;by_cases e:j=m
       ·subst e;intro h;have:=HQ.o;rw[h] at this;simp at this
       exact HE.o j hj (by omega)
      case measure=>simp[intOf];omega
     have H:=ai (show decide l.Nodup=false by
      rw[bI];intro hnd;have h1:=toList_inj (a47.1 he);rw[List.Nodup,List.pairwise_iff_getElem] at hnd;exact hnd m k aQC hlt' hmk h1.symm)
     go_wp2_with fail;go_quiet (fail)
     go_wp2_with fail;go_ret;exact nR (by rw[H.o]) ⟨_,drewN_drewN _ _ _⟩
    go_wp2_with fail;go_roundw
    case rel =>
     refine⟨k+1,by go_num,by omega,fun i j hi hj hik hji=>?_,q2,rfl⟩;by_cases e:i=k
     ·subst e;exact HE.o j hj (by omega)
     exact HO.o i j hi hj (by omega) hji
    case measure=>simp[intOf];omega
  go_wp2_with fail;go_ret;exact nR (by
   symm
   rw[aH];exact aCG hnl.out (fun i j hi hj hin hji=>HO.o i j hi hj (by omega) hji)) ⟨q,rfl⟩
mutual
def Ex.vP:Ex->Prop
 | .mk _ _ _ _ _ args=>args.length<=1000000000000000/\BF args
def BF:List Ex->Prop
 | []=>True
 | e::r=>e.vP/\BF r
end
theorem SG:(l:List Ex)->(BF l ↔ ∀x∈l,x.vP)
 | []=>by simp[BF]
 | e::r=>by rw[BF,SG r];simp
theorem atF {e:Ex} (h:e.vP):e.args.length<=1000000000000000/\∀x∈e.args,x.vP:=by
 cases e;unfold Ex.vP at h;exact⟨h.1,(SG _).1 h.2⟩
mutual
theorem iY:(e:Ex)->e.size<=1000000000000000->e.vP
 | .mk op name words lo hi args,h=>by
  rw[Ex.size] at h;have:=eR args;unfold Ex.vP;exact⟨by omega,Q7 args (by omega)⟩
theorem Q7:(l:List Ex)->sizes l<=1000000000000000->BF l
 | [],_=>by unfold BF;trivial
 | e::r,h=>by
  rw[sizes] at h;unfold BF;exact⟨iY e (by omega),Q7 r (by omega)⟩
end
theorem size_pos (e:Ex):1<=e.size:=by rw[e.size_eq];omega
def ep (e:Ex):Nat:=min e.size 301
def oL:List Ex->Nat
 | []=>0
 | e::r=>ep e+oL r
theorem SV (l:List Ex):oL l<=sizes l/\l.length<=oL l/\min (1+oL l) 301=min (1+sizes l) 301:=by
 induction l with
 | nil=>simp[oL,sizes]
 | cons e r ih=>have:=size_pos e;simp only[oL,sizes,ep,List.length_cons];omega
theorem Xh (l:List Ex) (k:Nat) (hk:k<l.length):oL (l.take (k+1))=oL (l.take k)+ep l[k]:=by
 induction l generalizing k with
 | nil=>simp at hk
 | cons e r ih =>
  cases k with
  | zero=>simp[oL]
  | succ k=>have:=ih k (by simpa using hk);simp only[List.take_succ_cons,oL,this,List.getElem_cons_succ];omega
theorem afs {e:Ex} {k:Nat} (hs:k=e.args.length\/300<1+oL (e.args.take k)):min (1+oL (e.args.take k)) 301=ep e:=by
 have h1:=e.size_eq;have h2:=SV (e.args.take k);have h3:=dX e.args k;have h4:=SV e.args;unfold ep;rcases hs with hs|hs
 ·rw[hs,List.take_length];omega
 omega
theorem wR (m:Nat):∀(e:Ex) (v:Value) (w:World),e.size<=m->dw w e v->Calls Tryz.prog 156 #[v] w (cz (.int .i64 (ep e)) w):=by
 induction m with
 | zero=>intro e v w h;have:=size_pos e;omega
 | succ m ih =>
  intro e v w hm he;obtain⟨aw,nw,cw,aa,na,ca,rfl,hw,hna,hca,ha,hx⟩:=he.parts;have HX:=ai hx;have HN:=ai hna;have hS:e.size=1+sizes e.args:=e.size_eq;have hb2:sizes e.args<=m:=by omega
  have H:aj (∀(e:Ex) (v:Value) (w:World),e.size<=m->dw w e v->Calls Tryz.prog 156 #[v] w (cz (.int .i64 (ep e)) w)):=ih;clear ih hx hna hw hca ha he hS hm;unfold fN;go_enter Tryz.func156,Tryz.ntmps156
  go_wp2_with fail;go_loopw [3,4] (fun s i wr=>∃k:Nat,k<=na/\i=.int .i64 k/\s=.int .i64 (1+(oL (e.args.take k):Int))/\oL (e.args.take k)<=601/\wr.heap[w.heap.size]?=some (.cells #[.int .i64 e.op,.string e.name,.slice aw nw cw,.int .i64 e.lo,.int .i64 e.hi,.slice aa na ca] 45 (0,0))/\Ext w wr) (fun _ i _=>na - (intOf i).toNat)
  case atStart=>exact⟨0,by omega,rfl,by simp[oL],by simp[oL],bR w _,(Tz w).alloc _⟩
  case round =>
   obtain⟨k,hk,rfl,rfl,lN,j6,hb⟩:=hrel;have jm:=ai j6;have HB:=ai hb;have lU:=bS j6;obtain⟨b0,b1,b2,b3,b4,b5,bf⟩:=cX j6;have fq:k<=oL (e.args.take k):=by have:=(SV (e.args.take k)).2.1;have hl:=HN.o;rw[List.length_take] at this;omega
   clear j6 hb;by_cases hlt:k<na
   ·have hlt':k<e.args.length:=by have:=HN.o;omega
    by_cases hc:oL (e.args.take k)<=299
    ·have t1:decide ((k:Int)<(na:Int))=true:=by simp;omega
     have t2:decide (1+(oL (e.args.take k):Int)<=300)=true:=by simp;omega
     obtain⟨b,off,rfl,nJ,nD,nG,nK,nE,nI,h0,h1,h2,h3,h4,h5,h6⟩:=eU.at e.args _ (eU.ext HB.o e.args _ HX.o) k hlt';have H6:=ai h6;have hs1:=ai (Xh e.args k hlt');have hsz:=eD e.args k hlt';have hsl:=dX e.args (k+1);have uk:e.args[k].size<=m:=by omega
     have hr:ep e.args[k]<=301:=by unfold ep;omega
     clear h6 hsz hsl;go_wp2_with fail;refine(H.o e.args[k] _ _ uk H6.o).mono ?_;rintro r w1 ⟨rfl,hb1⟩;have ue:=ai hb1;clear b0 b1 b2 b3 b4 b5 bf hb1;go_wp2_with fail;go_roundw
     case rel=>exact⟨k+1,by omega,by go_num,by rw[hs1.out];go_num,by rw[hs1.out];omega,ue.o.blk jm.o,HB.o.trans ue.o⟩
     case measure=>simp[intOf];omega
    have t1:decide ((k:Int)<(na:Int))=true:=by simp;omega
    have t2:decide (1+(oL (e.args.take k):Int)<=300)=false:=by simp;omega
    have H1:=ai (afs (e:=e) (k:=k) (a4Z (by omega)));go_wp2_with fail
    all_goals (go_ret;exact Qj (by rw[<-H1.o];omega) HB.o)
   have t1:decide ((k:Int)<(na:Int))=false:=by simp;omega
   have H1:=ai (afs (e:=e) (k:=k) (aoX (by have:=HN.o;omega)));go_wp2_with fail
   all_goals (go_ret;exact Qj (by rw[<-H1.o];omega) HB.o)
theorem adf (m:Nat):∀(e:Ex) (v:Value) (w:World) (n:Nat),e.size<=m->e.vP->n<=1000->dw w e v->Calls Tryz.prog 155 #[v,.int .i64 n] w (cz (.bool (decide (n<e.depth))) w):=by
 induction m with
 | zero=>intro e v w n h;have:=size_pos e;omega
 | succ m ih =>
  intro e v w n hm hsl hn he;obtain⟨aWi,aQh⟩:=atF hsl;obtain⟨aw,nw,cw,aa,na,ca,rfl,hw,hna,hca,ha,hx⟩:=he.parts;have HX:=ai hx;have HN:=ai hna;have HD:=ai e.uT;have hS:e.size=1+sizes e.args:=e.size_eq;have hb2:sizes e.args<=m:=by omega
  have Ks:na<=1000000000000000:=by omega
  have Uf:=ai aQh;have H:aj (∀(e:Ex) (v:Value) (w:World) (n:Nat),e.size<=m->e.vP->n<=1000->dw w e v->Calls Tryz.prog 155 #[v,.int .i64 n] w (cz (.bool (decide (n<e.depth))) w)):=fun e v w n h1 h0 h2 h3=>ih e v w n h1 h0 h2 h3
  clear hsl aWi aQh ih hx hna hw hca ha he hS hm;unfold fN;by_cases hn0:n=0
  ·have t1:((n:Int)==0)=true:=by simp[hn0]
   have H1:=ai (show decide (n<e.depth)=true by rw[aH,HD.o];omega);generalize decide (n<e.depth)=B at *;go_enter Tryz.func155,Tryz.ntmps155
   go_wp2_with fail;go_ret;exact bW (by rw[H1.o]) ((Tz w).alloc _)
  have Cr:1<=n:=by omega
  have t1:((n:Int)==0)=false:=by simp;omega
  obtain⟨B,hB⟩:∃B,B=decide (n<e.depth):=⟨_,rfl⟩
  rw[<-hB];have HBQ:=ai hB;clear hB;go_enter Tryz.func155,Tryz.ntmps155
  go_wp2_with fail;go_loopw [5] (fun i wr=>∃k:Nat,k<=na/\i=.int .i64 k/\(∀j (hj:j<e.args.length),j<k->¬n - 1<e.args[j].depth)/\wr.heap[w.heap.size]?=some (.cells #[.int .i64 e.op,.string e.name,.slice aw nw cw,.int .i64 e.lo,.int .i64 e.hi,.slice aa na ca] 45 (0,0))/\Ext w wr) (fun i _=>na - (intOf i).toNat)
  case atStart=>exact⟨0,by omega,rfl,fun j _ h=>by omega,bR w _,(Tz w).alloc _⟩
  case round =>
   obtain⟨k,hk,rfl,hall,j6,hb⟩:=hrel;have HA:=ai hall;have jm:=ai j6;have HB:=ai hb;have lU:=bS j6;obtain⟨b0,b1,b2,b3,b4,b5,bf⟩:=cX j6;clear j6 hb hall;by_cases hlt:k<na
   ·have hlt':k<e.args.length:=by have:=HN.o;omega
    obtain⟨b,off,rfl,nJ,nD,nG,nK,nE,nI,h0,h1,h2,h3,h4,h5,h6⟩:=eU.at e.args _ (eU.ext HB.o e.args _ HX.o) k hlt';have H6:=ai h6;have hsz:=eD e.args k hlt';have hsl:=dX e.args (k+1);have uk:e.args[k].size<=m:=by omega
    have WO:=ai (ahe (aD hlt'));clear h6 hsz hsl;have He:=ai (show (n:Int) - 1=((n - 1:Nat):Int) by omega);go_wp2_with fail;rw[He.o];refine(H.o e.args[k] _ _ (n - 1) uk (Uf.o _ (aD hlt')) (by omega) H6.o).mono ?_;rintro r w1 ⟨rfl,hb1⟩;have ue:=ai hb1;clear b0 b1 b2 b3 b4 b5 bf hb1;by_cases hdp:n - 1<e.args[k].depth
    ·rw[bO hdp];have H1:=ai (show B=true by rw[HBQ.o,aH,HD.o];have:=WO.o;omega);clear hdp;go_wp2_with fail;go_ret;exact bW (by rw[H1.o]) (HB.o.trans ue.o)
    rw[bP hdp];have HND:=ai hdp;clear hdp;go_wp2_with fail;go_roundw
    case rel =>
     refine⟨k+1,by omega,by go_num,fun j hj hjk=>?_,ue.o.blk jm.o,HB.o.trans ue.o⟩;by_cases ej:j=k
     ·subst ej;exact HND.o
     exact HA.o j hj (by omega)
    case measure=>simp[intOf];omega
   have H1:=ai (show B=false by
    rw[HBQ.o,bI,HD.o];have:∀l:List Ex,(∀x∈l,¬n - 1<x.depth)->jz l<=n - 1:=by
     intro l;induction l with
     | nil=>intro _;simp[jz]
     | cons y r ih =>
      intro h;have h1:=h y (by simp);have h2:=ih (fun x hx=>h x (aZ _ hx));simp only[jz];omega
    have:=this e.args (fun x hx=>by
     obtain⟨j,hj,rfl⟩:=bA hx;exact HA.o j hj (by have:=HN.o;omega))
    omega)
   go_wp2_with fail;go_ret;exact bW (by rw[H1.o]) HB.o
def IQ (op:Int) (name:BA) (words:ZB) (lo hi:Int) (na nw:Nat):Bool :=
 decide (1<=op/\op<=8)&&(if op==3||op==4||op==5 then gJ name else name.toList.isEmpty)&&(if op==4 then decide (1<=nw)&&decide (nw<=12)&&words.all gJ&&decide words.Nodup else decide (nw=0)) &&
 (if op==5 then iM lo&&iM hi&&decide (lo<=hi) else (lo==0)&&(hi==0))&&(if op==6 then decide (na=1) else if op==7||op==8 then decide (2<=na) else decide (na=0))
def vQ (e:Ex):Bool:=IQ e.op e.name e.words e.lo e.hi e.args.length e.words.length
theorem aqS (n:Nat):((n:Int)==0)=decide (n=0):=by rw[bH];simp
theorem aC3 (n:Nat):((n:Int)==1)=decide (n=1):=by rw[bH];simp;omega
theorem apM (e:Ex) (v:Value) (w:World) (he:dw w e v) (hs:e.name.size<=1000000000000000) (hws:∀x∈e.words,x.size<=1000000000000000) (hnw:e.words.length<=1000000000000000) :
  Calls Tryz.prog 177 #[v] w (cz (.bool (vQ e)) w):=by
 obtain⟨aw,nw,cw,aa,na,ca,rfl,hw,hna,hca,ha,hx⟩:=he.parts;clear he hx ha hca;have HW:=ai hw;have HS:=ai hws;have aQx:nw<=1000000000000000:=by have:=hw.1;omega
 have HB:=ai (show vQ e=IQ e.op e.name e.words e.lo e.hi na nw by unfold vQ;rw[hna,hw.1]);generalize vQ e=B at *;clear hw hws hna hnw;obtain⟨op,name,words,lo,hi,args⟩:=e;simp only[Ex.op,Ex.name,Ex.words,Ex.lo,Ex.hi] at *;unfold fN;by_cases h1:1<=op
 ·by_cases h8:op<=8
  ·have hk:op=1\/op=2\/op=3\/op=4\/op=5\/op=6\/op=7\/op=8:=by omega
   clear h1 h8;rcases hk with rfl|rfl|rfl|rfl|rfl|rfl|rfl|rfl
   case inr.inr.inr.inl =>
    obtain⟨P,hP⟩:∃P,P=words.all gJ:=⟨_,rfl⟩
    obtain⟨Q,hQ⟩:∃Q,Q=decide words.Nodup:=⟨_,rfl⟩
    have HP:=ai hP;have HQ:=ai hQ;have fY:=ai (show B=(gJ name&&(decide (1<=nw)&&decide (nw<=12)&&P&&Q)&&((lo==0)&&(hi==0))&&decide (na=0)) by rw[HB.o];unfold IQ;rw[hP,hQ];simp);clear hP hQ HB;cases P
    all_goals cases Q
    all_goals
     by_cases Cr:1<=nw
     ·by_cases hn2:nw<=12
      ·have t1:decide ((nw:Int)<1)=false:=by simp;omega
       have t2:decide ((12:Int)<nw)=false:=by simp;omega
       have nU:=ai fY.o;simp only[Cr,hn2,decide_true,Bool.false_and,Bool.and_false,Bool.and_true] at nU;clear fY;go_enter Tryz.func177,Tryz.ntmps177
       go_wp2_with (first
        | (go_at_call 118;refine(nO _ _ hs).mono ?_;rintro e w' ⟨rfl,rfl⟩)
        | (go_at_call 152;refine(Gx words _ _ _ _ (HW.o.ext ((Tz w).alloc _)) aQx HS.o).mono ?_;rintro e w' ⟨rfl,rfl⟩;rw[<-HP.o])
        | (go_at_call 153;refine(DN words _ _ _ _ (HW.o.ext ((Tz w).alloc _)) aQx).mono ?_;rintro e w' ⟨rfl,q,rfl⟩;rw[<-HQ.o]))
       all_goals (go_ret;exact bW (by first|(rw[nU.o];done)|(rw[nU.o];simp_all [aqS])) (by first|exact(Tz w).alloc _|exact((Tz w).alloc _).drewN _))
      have t1:decide ((nw:Int)<1)=false:=by simp;omega
      have t2:decide ((12:Int)<nw)=true:=by simp;omega
      have HF:=ai (show B=false by rw[fY.o];simp[hn2]);clear fY;go_enter Tryz.func177,Tryz.ntmps177
      go_wp2_with (go_at_call 118;refine(nO _ _ hs).mono ?_;rintro e w' ⟨rfl,rfl⟩)
      all_goals (go_ret;exact bW (by rw[HF.o]) ((Tz w).alloc _))
     have t1:decide ((nw:Int)<1)=true:=by simp;omega
     have HF:=ai (show B=false by rw[fY.o];simp[Cr]);clear fY;go_enter Tryz.func177,Tryz.ntmps177
     go_wp2_with (go_at_call 118;refine(nO _ _ hs).mono ?_;rintro e w' ⟨rfl,rfl⟩)
     all_goals (go_ret;exact bW (by rw[HF.o]) ((Tz w).alloc _))
   all_goals
    go_enter Tryz.func177,Tryz.ntmps177
    go_wp2_with (first
     | (go_at_call 118;refine(nO _ _ hs).mono ?_;rintro e w' ⟨rfl,rfl⟩)
     | (go_at_call 154;refine(U6 _ _).mono ?_;rintro e w' ⟨rfl,rfl⟩))
    all_goals (go_ret;exact bW (by rw[HB.o];simp_all [IQ,aqS,aC3];try omega) ((Tz w).alloc _))
  have H:=ai (show B=false by rw[HB.o];simp[IQ,h8]);have t1:decide (op<1)=false:=by simp;omega
  have t2:decide (8<op)=true:=by simp;omega
  have e3:(op==3)=false:=by simp;omega
  have e4:(op==4)=false:=by simp;omega
  have e5:(op==5)=false:=by simp;omega
  go_enter Tryz.func177,Tryz.ntmps177
  go_wp2_with fail;go_ret;exact bW (by rw[H.o]) ((Tz w).alloc _)
 have H:=ai (show B=false by rw[HB.o];simp[IQ,h1]);have t1:decide (op<1)=true:=by simp;omega
 have e3:(op==3)=false:=by simp;omega
 have e4:(op==4)=false:=by simp;omega
 have e5:(op==5)=false:=by simp;omega
 go_enter Tryz.func177,Tryz.ntmps177
 go_wp2_with fail;go_ret;exact bW (by rw[H.o]) ((Tz w).alloc _)
mutual
def AW:Ex->Bool
 | .mk op name words lo hi args=>vQ (.mk op name words lo hi args)&&uL args
def uL:List Ex->Bool
 | []=>true
 | e::r=>AW e&&uL r
end
theorem akp (e:Ex):AW e=(vQ e&&uL e.args):=by cases e;rw[AW];rfl
theorem PE (l:List Ex):uL l=true ↔ ∀j (h:j<l.length),AW l[j]=true:=by
 induction l with
 | nil=>simp[uL]
 | cons e r ih =>
  rw[uL,aF,ih];constructor
  ·rintro⟨h1,h2⟩ j hj;cases j with
   | zero=>exact h1
   | succ j=>exact h2 j (by simpa using hj)
  intro h;exact⟨h 0 (by simp),fun j hj=>h (j+1) (by simpa using hj)⟩
mutual
def Ex.iT:Ex->Prop
 | .mk _ _ words _ _ args=>words.length<=1000000000000000/\mR args
def mR:List Ex->Prop
 | []=>True
 | e::r=>e.iT/\mR r
end
theorem Fo:(l:List Ex)->mR l->(k:Nat)->(hk:k<l.length)->l[k].iT
 | [],_,k,hk=>by simp at hk
 | e::r,h,0,_=>by unfold mR at h;exact h.1
 | e::r,h,k+1,hk=>by unfold mR at h;simpa using Fo r h.2 k (by simpa using hk)
theorem rI {e:Ex} (h:e.iT):e.words.length<=1000000000000000/\mR e.args:=by
 cases e;unfold Ex.iT at h;exact h
theorem aqs (m:Nat):∀(e:Ex) (v:Value) (w:World),e.size<=m->m<=1000000000000000->e.fits->e.iT->dw w e v->Calls Tryz.prog 157 #[v] w (cz (.bool (AW e)) w):=by
 induction m with
 | zero=>intro e v w h;have:=size_pos e;omega
 | succ m ih =>
  intro e v w hm Re hf hw2 he;have HE:=ai he;obtain⟨aw,nw,cw,aa,na,ca,rfl,hw,hna,hca,ha,hx⟩:=he.parts;have HX:=ai hx;have HN:=ai hna;have HF:=ai (qM hf);have HW:=ai (rI hw2);have hS:e.size=1+sizes e.args:=e.size_eq;have hb2:sizes e.args<=m:=by omega
  have hla:=eR e.args;have H:aj (∀(e:Ex) (v:Value) (w:World),e.size<=m->e.fits->e.iT->dw w e v->Calls Tryz.prog 157 #[v] w (cz (.bool (AW e)) w)):=fun e v w h1 h2 h3 h4=>ih e v w h1 (by omega) h2 h3 h4
  have HQ:=ai (akp e);generalize AW e=B at *;clear ih hx hna hw hca ha he hS hm hf hw2;have HNC:=ai (apM e _ (w.alloc (.cells #[ e.op,.string e.name,.slice aw nw cw,e.lo,e.hi,.slice aa na ca] 45)) (HE.o.ext ((Tz w).alloc _)) HF.o.1 HF.o.2.1 HW.o.1);unfold fN at *;cases ZX:vQ e
  ·have HND:=ai ZX;have H1:=ai (show B=false by rw[HQ.o,ZX];rfl);clear ZX;go_enter Tryz.func157,Tryz.ntmps157
   go_wp2_with fail;refine HNC.o.mono ?_;rintro r w1 ⟨rfl,hx1⟩;rw[HND.o];have dI:=ai (((Tz w).alloc _).trans hx1);clear hx1;go_wp2_with fail;go_ret;exact bW (by rw[H1.o]) dI.o
  have HND:=ai ZX;have Ro:=ai (show B=uL e.args by rw[HQ.o,ZX];rfl);clear ZX;go_enter Tryz.func157,Tryz.ntmps157
  go_wp2_with fail;refine HNC.o.mono ?_;rintro r w1 ⟨rfl,hx1⟩;rw[HND.o];have ajB:=ai (hx1.blk (bR w _));have dI:=ai (((Tz w).alloc _).trans hx1);clear hx1;go_wp2_with fail;go_loopw [3] (fun i wr=>∃k:Nat,k<=na/\i=.int .i64 k/\(∀j (hj:j<e.args.length),j<k->AW e.args[j]=true)/\wr.heap[w.heap.size]?=some (.cells #[ e.op,.string e.name,.slice aw nw cw,e.lo,e.hi,.slice aa na ca] 45 (0,0))/\Ext w wr) (fun i _=>na - (intOf i).toNat)
  case atStart=>exact⟨0,by omega,rfl,fun j _ h=>by omega,ajB.o,dI.o⟩
  case round =>
   obtain⟨k,hk,rfl,hall,j6,hb⟩:=hrel;have HA:=ai hall;have jm:=ai j6;have HB:=ai hb;have lU:=bS j6;obtain⟨b0,b1,b2,b3,b4,b5,bf⟩:=cX j6;clear j6 hb hall;by_cases hlt:k<na
   ·have hlt':k<e.args.length:=by have:=HN.o;omega
    obtain⟨b,off,rfl,nJ,nD,nG,nK,nE,nI,h0,h1,h2,h3,h4,h5,h6⟩:=eU.at e.args _ (eU.ext HB.o e.args _ HX.o) k hlt';have H6:=ai h6;have hsz:=eD e.args k hlt';have hsl:=dX e.args (k+1);have uk:e.args[k].size<=m:=by omega
    clear h6 hsz hsl;go_wp2_with fail;refine(H.o e.args[k] _ _ uk (Qk _ HF.o.2.2 k hlt') (Fo _ HW.o.2 k hlt') H6.o).mono ?_;rintro r w2 ⟨rfl,hb1⟩;have ue:=ai hb1;clear b0 b1 b2 b3 b4 b5 bf hb1;cases hdp:AW e.args[k]
    ·have H1:=ai (show B=false by
      rw[Ro.o];cases hz:uL e.args
      ·rfl
      have:=(PE _).1 hz k hlt';rw[hdp] at this;cases this)
     clear hdp;go_wp2_with fail;go_ret;exact bW (by rw[H1.o]) (HB.o.trans ue.o)
    have aZd:=ai hdp;clear hdp;go_wp2_with fail;go_roundw
    case rel =>
     refine⟨k+1,by omega,by go_num,fun j hj hjk=>?_,ue.o.blk jm.o,HB.o.trans ue.o⟩;by_cases ej:j=k
     ·subst ej;exact aZd.o
     exact HA.o j hj (by omega)
    case measure=>simp[intOf];omega
   have H1:=ai (show B=true by rw[Ro.o];exact(PE _).2 (fun j hj=>HA.o j hj (by have:=HN.o;omega)));go_wp2_with fail;go_ret;exact bW (by rw[H1.o]) HB.o
def eW (e:Ex):Bool:=!decide (16<e.depth)&&decide (ep e<=300)&&AW e
theorem J5 (e:Ex) (v:Value) (w:World) (he:dw w e v) (hsz:e.vP) (hf:e.fits) (hw:e.iT):Calls Tryz.prog 120 #[v] w (cz (.bool (eW e)) w):=by
 have HE:=ai he;have HF:=ai hf;have HW:=ai hw;have HQ:=ai (show eW e=(!decide (16<e.depth)&&decide (ep e<=300)&&AW e) from rfl);generalize eW e=B at *;obtain⟨aw,nw,cw,aa,na,ca,rfl,-⟩:=he.parts;have tR:=ai hsz;clear he hf hw hsz;have HA:=ai (fun W (h:Ext (w.alloc (.cells #[ e.op,.string e.name,.slice aw nw cw,e.lo,e.hi,.slice aa na ca] 45)) W)=>((Tz w).alloc _).trans h);have pX:=ai (bR w (.cells #[ e.op,.string e.name,.slice aw nw cw,e.lo,e.hi,.slice aa na ca] 45));unfold fN at *;go_enter Tryz.func120,Tryz.ntmps120
 go_wp2_with fail;refine(adf e.size e _ _ 16 (aU _) tR.o (by omega) (HE.o.ext ((Tz w).alloc _))).mono ?_;rintro r w1 ⟨rfl,hx1⟩;have dI:=ai (HA.o _ hx1);have hb1:=hx1.blk pX.o;have gG:=ai hb1;have hz1:=bS hb1;obtain⟨b0,b1,b2,b3,b4,b5,bf⟩:=cX hb1;clear hx1 hb1 HA;by_cases hd:16<e.depth
 ·rw[bO hd];have H1:=ai (show B=false by rw[HQ.o];simp[hd]);clear hd;go_wp2_with fail;go_ret;exact bW (by rw[H1.o]) dI.o
 rw[bP hd];have HD:=ai hd;clear hd;go_wp2_with fail;refine(wR e.size e _ _ (aU _) (HE.o.ext dI.o)).mono ?_;rintro r w2 ⟨rfl,hx2⟩;have dN:=ai (dI.o.trans hx2);have hb2:=hx2.blk gG.o;have hz2:=bS hb2;clear b0 b1 b2 b3 b4 b5 bf hx2;obtain⟨b0,b1,b2,b3,b4,b5,bf⟩:=cX hb2;clear hb2;by_cases hs:ep e<=300
 ·have t1:decide ((ep e:Int)<=300)=true:=by simp;omega
  have HS:=ai hs;have HZ:=ai (show e.size<=1000000000000000 by unfold ep at hs;omega);clear hs;go_wp2_with fail;refine(aqs e.size e _ _ (aU _) HZ.o HF.o HW.o (HE.o.ext dN.o)).mono ?_;rintro r w3 ⟨rfl,hx3⟩;have dS:=ai (dN.o.trans hx3);clear b0 b1 b2 b3 b4 b5 bf hx3;go_wp2_with fail;go_ret;exact bW (by rw[HQ.o];simp[HD.o,HS.o]) dS.o
 have t1:decide ((ep e:Int)<=300)=false:=by simp;omega
 have H1:=ai (show B=false by rw[HQ.o];simp[hs]);clear hs;go_wp2_with fail;go_ret;exact bW (by rw[H1.o]) dN.o
open Go.RowKit Go.Maps
mutual
def fX:Ex->ZB
 | .mk op name _ _ _ args=>(if op=3 then [name] else [])++iH args
def iH:List Ex->ZB
 | []=>[]
 | e::r=>fX e++iH r
end
theorem akr (e:Ex):fX e=(if e.op=3 then [e.name] else [])++iH e.args:=by cases e;rw[fX];rfl
theorem aqt (l:List Ex) (e:Ex):iH (l++[e])=iH l++fX e:=by
 induction l with
 | nil=>simp[iH]
 | cons a r ih=>simp[iH,ih]
theorem acS (l:List Ex) (k:Nat) (h:k<l.length):iH (l.take (k+1))=iH (l.take k)++fX l[k]:=by
 rw[aO h,aqt]
def alC (D:DataW Unit) (l:ZB):Prop:=∃es,D=.map es/\(∀p∈es,∃s,p.1=.string s)/\(strKeys D).Nodup/\∀s,s∈strKeys D ↔ ∃x∈l,x.data.toList=s
theorem ax5:alC (.map []) []:=⟨[],rfl,by simp,by simp[strKeys],by simp[strKeys]⟩
theorem insert_perm {H:Type} (x:Lit×DataW H):(l:List (Lit×DataW H))->(DataW.insert x l).Perm (x::l)
 | []=>List.Perm.refl _
 | y::r=>by
  rw[DataW.insert];split
  ·exact List.Perm.refl _
  exact((insert_perm x r).cons y).trans (List.Perm.swap x y r)
theorem alC.put {D:DataW Unit} {l:ZB} (h:alC D l) (x:BA) (d:DataW Unit):alC (D.put (.string x.data.toList) d) (l++[x]):=by
 obtain⟨es,rfl,hs,hn,hm⟩:=h;have hp:=insert_perm ((.string x.data.toList,d):Lit×DataW Unit) (es.filter fun p=>!p.1.sameKey (.string x.data.toList));have hk:(strKeys (DataW.put (.map es) (.string x.data.toList) d)).Perm (x.data.toList::strKeys (H:=Unit) (.map (es.filter fun p=>!p.1.sameKey (.string x.data.toList)))):=by
  simp only[DataW.put,strKeys];exact hp.map _
 have hf:∀s,s∈strKeys (H:=Unit) (.map (es.filter fun p=>!p.1.sameKey (.string x.data.toList))) ↔ s∈strKeys (H:=Unit) (.map es)/\s≠x.data.toList:=by
  intro s;simp only[strKeys,List.mem_map,List.mem_filter];constructor
  ·rintro⟨p,⟨h1,h2⟩,rfl⟩;obtain⟨t,ht⟩:=hs p h1;refine⟨⟨p,h1,rfl⟩,fun e=>?_⟩;rw[ht] at h2 e;simp only[strOf] at e;subst e;simp[Lit.sameKey] at h2
  rintro⟨⟨p,h1,rfl⟩,h2⟩;obtain⟨t,ht⟩:=hs p h1;refine⟨p,⟨h1,?_⟩,rfl⟩;rw[ht] at h2 ⊢;simp only[strOf] at h2;simpa[Lit.sameKey] using h2
 refine⟨_,rfl,fun p hp'=>?_,?_,fun s=>?_⟩
 ·have:=hp.mem_iff.1 hp';rcases bz.1 this with rfl|h1
  ·exact⟨_,rfl⟩
  exact hs p (List.mem_filter.1 h1).1
 ·rw[hk.nodup_iff,List.nodup_cons];refine⟨fun h=>((hf _).1 h).2 rfl,?_⟩;have:(strKeys (H:=Unit) (.map (es.filter fun p=>!p.1.sameKey (.string x.data.toList)))).Sublist (strKeys (H:=Unit) (.map es)):=by
   simp only[strKeys];exact(List.filter_sublist).map _
  exact hn.sublist this
 rw[hk.mem_iff,bz,hf,hm];constructor
 ·rintro(rfl|⟨⟨y,h1,h2⟩,_⟩)
  ·exact⟨x,by simp,rfl⟩
  exact⟨y,by simp[h1],h2⟩
 rintro⟨y,h1,rfl⟩;rcases aN.1 h1 with h1|h1
 ·by_cases e:y.data.toList=x.data.toList
  ·exact aoX e
  exact a4Z ⟨⟨y,h1,rfl⟩,e⟩
 rw[aG.1 h1];exact aoX rfl
def x9 (s:BA):ZB->ZB
 | []=>[s]
 | x::r=>if s.toList<x.toList then s::x::r else if s.toList=x.toList then x::r else x::x9 s r
def jB (l:ZB):ZB:=l.foldl (fun l s=>x9 s l) []
def Up (l:ZB):Prop:=l.Pairwise (fun a b=>a.toList<b.toList)
theorem aPQ {a b:List UInt8} (h1:¬a<b) (h2:a≠b):b<a:=by
 by_cases h:b<a
 ·exact h
 exact a40 (List.le_antisymm (List.not_lt.1 h) (List.not_lt.1 h1)) h2
theorem afF (s y:BA):(l:ZB)->(y∈x9 s l ↔ y=s\/y∈l)
 | []=>by simp[x9]
 | x::r=>by
  rw[x9];split
  ·simp
  split
  ·rename_i h1 h2
   have:=toList_inj h2;subst this;simp
  simp only[bz,afF s y r];constructor
  ·rintro(h|h|h)
   ·exact a4Z (aoX h)
   ·exact aoX h
   exact a4Z (a4Z h)
  rintro(h|h|h)
  ·exact a4Z (aoX h)
  ·exact aoX h
  exact a4Z (a4Z h)
theorem awC (s:BA):(l:ZB)->Up l->Up (x9 s l)
 | [],_=>by simp[x9,Up]
 | x::r,h=>by
  obtain⟨h1,h2⟩:=List.pairwise_cons.1 h;rw[x9];split
  ·rename_i hlt
   refine List.pairwise_cons.2 ⟨fun y hy=>?_,h⟩;rcases bz.1 hy with rfl|hy
   ·exact hlt
   exact List.lt_trans hlt (h1 y hy)
  split
  ·exact h
  rename_i n1 n2
  refine List.pairwise_cons.2 ⟨fun y hy=>?_,awC s r h2⟩;rcases(afF s y r).1 hy with rfl|hy
  ·exact aPQ n1 n2
  exact h1 y hy
theorem aH7 (m:ZB):∀l,Up l->Up (m.foldl (fun l s=>x9 s l) l):=by
 induction m with
 | nil=>intro l h;exact h
 | cons a r ih=>intro l h;exact ih _ (awC a l h)
theorem aDV (m:ZB):∀l y,y∈m.foldl (fun l s=>x9 s l) l ↔ y∈m\/y∈l:=by
 induction m with
 | nil=>intro l y;simp
 | cons a r ih =>
  intro l y;rw[aX,ih,afF,bz];constructor
  ·rintro(h|h|h)
   ·exact aoX (a4Z h)
   ·exact aoX (aoX h)
   exact a4Z h
  rintro((h|h)|h)
  ·exact a4Z (aoX h)
  ·exact aoX h
  exact a4Z (a4Z h)
theorem acD (l:ZB):Up (jB l):=aH7 l [] (by simp[Up])
theorem sx (l:ZB) (y:BA):y∈jB l ↔ y∈l:=by rw[jB,aDV];simp
theorem Zp (s:BA):(l:ZB)->(x9 s l).length<=l.length+1
 | []=>by simp[x9]
 | x::r=>by
  have:=Zp s r;rw[x9];split
  ·simp
  split<;>simp<;>omega
theorem aai (m:ZB):∀l:ZB,(m.foldl (fun l s=>x9 s l) l).length<=m.length+l.length:=by
 induction m with
 | nil=>intro l;simp
 | cons a r ih=>intro l;have:=ih (x9 a l);have:=Zp a l;simp only[aX,List.length_cons];omega
theorem auD {D:DataW Unit} {l:ZB} {ss:List (List UInt8)} (h:alC D l) (hp:ss.Perm (strKeys D)):(ss.mergeSort (fun x y=>decide (x<=y)))=(jB l).map (·.data.toList):=by
 obtain⟨es,rfl,hs,hn,hm⟩:=h;have tr:∀a b c:List UInt8,decide (a<=b)=true->decide (b<=c)=true->decide (a<=c)=true:=fun a b c h1 h2=>by simp only[aH] at *;exact List.le_trans h1 h2
 have tto:∀a b:List UInt8,(decide (a<=b)||decide (b<=a))=true:=fun a b=>by simp only[bG,aH];exact List.le_total a b
 have hu:=acD l;have eL:∀x:BA,x.toList=x.data.toList:=fun x=>ByteArray.toList_eq x
 have hup:((jB l).map (·.data.toList)).Pairwise (fun a b=>a<b):=by
  refine List.pairwise_map.2 (hu.imp fun {a b} h=>?_)
  rwa [eL,eL] at h
 have hnd:((jB l).map (·.data.toList)).Nodup:=hup.imp fun {a b} h e=>by subst e;exact List.lt_irrefl _ h
 have hperm:((jB l).map (·.data.toList)).Perm (strKeys (H:=Unit) (.map es)):=by
  refine(List.perm_ext_iff_of_nodup hnd hn).2 fun s=>?_
  rw[hm,List.mem_map];constructor
  ·rintro⟨x,hx,rfl⟩;exact⟨x,(sx l x).1 hx,rfl⟩
  rintro⟨x,hx,rfl⟩;exact⟨x,(sx l x).2 hx,rfl⟩
 refine List.Perm.eq_of_pairwise (le:=fun a b=>decide (a<=b)=true) (fun a b _ _ h1 h2=>?_) (List.pairwise_mergeSort tr tto ss) (hup.imp fun {a b} h=>?_) (((List.mergeSort_perm ss _).trans hp).trans hperm.symm)
 ·simp only[aH] at h1 h2;exact List.le_antisymm h1 h2
 simp only[aH];exact List.le_of_lt h
end Go.Proofs.YtefjomofjejklaaGreatDoor
