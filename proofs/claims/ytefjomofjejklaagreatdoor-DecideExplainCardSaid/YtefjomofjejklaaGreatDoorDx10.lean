/-
  Texts of the claim, joined: Heap4, Heap5, Heap6, Heap7, Ord2, Lay, Iter, Names5.
-/
import Derived.Test.YtefjomofjejklaaGreatDoorDx09
import Derived.Outline
import Derived.Shelf.SlGeneric
import Derived.Shelf.SlIter.Nil
import Derived.Shelf.SortM.Plain
import Derived.Shelf.SortM.SortNone
import Derived.Ground.GgzProg
import Derived.Ground.SlgmProg
namespace Go.Proofs.YtefjomofjejklaaGreatDoor
set_option maxRecDepth 100000
set_option maxHeartbeats 32000000
open Go.RowKit
structure yK (B b g cap:Nat) (xs:ZI) (w:World):Prop where
 hB:B<=b
 hg:B<=g
 hgb:g≠b
 hb:w.heap[b]?=some (.cells #[.slice (some ⟨g,0,none⟩) xs.length cap] 171 (0,0))
 row:∃cur:Array Value,w.heap[g]?=some (.cells cur 3 (0,0))/\xs.length<=cap/\cap<=maxLen/\cur.size=cap/\cur.toList.take xs.length=xs.map fun z=>Value.int .i64 z
theorem yK.cell {B b g cap:Nat} {xs:ZI} {w:World} (h:yK B b g cap xs w) {i:Nat} (hi:i<xs.length):w.cell? ⟨g,i,none⟩=some (.int .i64 xs[i]):=by
 obtain⟨cur,h1,_,_,_,h5⟩:=h.row;exact(aCX h1 h5 hi).1
theorem yK.free {B b g cap:Nat} {xs:ZI} {w:World} (h:yK B b g cap xs w) (i:Nat):w.frozen? ⟨g,i,none⟩=false:=by
 obtain⟨cur,h1,_⟩:=h.row;exact Lib.frozen_of_heap h1 i
theorem yK.head {B b g cap:Nat} {xs:ZI} {w:World} (h:yK B b g cap xs w):w.cell? ⟨b,0,none⟩=some (.slice (some ⟨g,0,none⟩) xs.length cap):=dM h.hb 0
theorem yK.fH {B b g cap:Nat} {xs:ZI} {w w':World} {N:ZN} (h:yK B b g cap xs w) (hc:dO N w w') (h1:b∉N) (h2:g∉N):yK B b g cap xs w':=by
 obtain⟨a1,a2,a3,a4,cur,a5,r⟩:=h;exact⟨a1,a2,a3,hc.blk a4 h1,cur,hc.blk a5 h2,r⟩
theorem yK.ext {B b g cap:Nat} {xs:ZI} {w w':World} (h:yK B b g cap xs w) (hx:Ext w w'):yK B b g cap xs w':=h.fH (hx.fH []) (by simp) (by simp)
theorem yK.set {B b g cap:Nat} {xs:ZI} {w:World} (h:yK B b g cap xs w) (i:Nat) (z:Int):yK B b g cap (xs.set i z) (w.setCell ⟨g,i,none⟩ (.int .i64 z)):=by
 obtain⟨a1,a2,a3,a4,cur,a5,a6,a7,a8,a9⟩:=h;refine⟨a1,a2,a3,?_,cur.setIfInBounds i (.int .i64 z),?_,by simpa using a6,a7,by simpa using a8,?_⟩
 ·rw[Below.heap_setCell _ _ _ _ (by simpa using fun h=>a3 h.symm)];simpa using a4
 ·simp[World.setCell,Array.getElem?_modify,a5]
 simp only[Array.toList_setIfInBounds,List.length_set];rw[List.take_set,a9,List.map_set]
theorem yK.swap {B b g cap:Nat} {xs:ZI} {w:World} (h:yK B b g cap xs w) {i j:Nat} (hi:i<xs.length) (hj:j<xs.length) (k:Nat) :
  yK B b g cap ((xs.set i xs[j]).set j xs[i]) (((w.setCell ⟨g,i,none⟩ (.int .i64 xs[j])).setCell ⟨g,j,none⟩ (.int .i64 xs[i])).drewN k)/\dO [g] w (((w.setCell ⟨g,i,none⟩ (.int .i64 xs[j])).setCell ⟨g,j,none⟩ (.int .i64 xs[i])).drewN k) :=
 ⟨((h.set i xs[j]).set j xs[i]).ext ((Ext.refl _).drewN k),(((dO.refl [g] w).setCell (Or.inl (by simp)) _).setCell (Or.inl (by simp)) _).drewN k⟩
def aWi (v:Value) (B b g cap:Nat) (xs:ZI) (w:World) (e:Ending) (w':World):Prop:=e=.returned v/\∃ys:ZI,ys.Perm xs/\yK B b g cap ys w'/\dO [g] w w'
theorem aFF (B b g cap:Nat) (xs:ZI) (w:World) (h:yK B b g cap xs w) (j:Nat) (hj:j<xs.length) :
  Calls Tryz.prog 143 #[.iface 168 (.pointer (some ⟨b,0,none⟩)),.int .i64 j] w (aWi (.tuple #[]) B b g cap xs w):=by
 obtain⟨cur,hr1,hr2,hr3,hr4,hr5⟩:=h.row;have hlen:xs.length<=9223372036854775807:=by unfold maxLen at hr3;omega
 have HP:=ak h;clear hr1 hr2 hr3 hr4 hr5 cur h;go_enter Tryz.func143,Tryz.ntmps143
 go_wp2_with fail
 go_loopw [1,4] (fun t _ wr=>∃(k:Nat) (ys:ZI),t=.int .i64 k/\k<ys.length/\ys.length=xs.length/\ys.Perm xs/\yK B b g cap ys wr/\dO [g] w wr) (fun t _ _=>(intOf t).toNat)
 case atStart=>exact⟨j,xs,rfl,hj,rfl,List.Perm.refl _,HP.o,dO.refl _ _⟩
 case round =>
  obtain⟨k,ys,rfl,hk,hyl,hyp,hpl,hch⟩:=hrel;have U5:=ak hpl;have HC:=ak hch;have HY:=ak hyp;have HYL:=ak hyl;have hhead:=hpl.head;have hkl:k<=9223372036854775807:=by omega
  clear hpl hch hyp hyl HP;have ha:=fun n=>ad5 n b
  have hm:=fun n=>agA n b _ wr hhead
  by_cases hk0:k=0
  ·subst hk0;go_wp2_with fail
   go_end0
   exact⟨rfl,ys,HY.o,U5.o,HC.o⟩
  obtain⟨p,hp⟩:∃p:Nat,p=(k - 1) / 2:=⟨_,rfl⟩
  have q1:((k:Int) - 1).tdiv 2=(p:Int):=by
   rw[Int.tdiv_eq_ediv_of_nonneg (by omega)];omega
  have hpk:p<k:=by omega
  have hpy:p<ys.length:=by omega
  have t0:((p:Int)==(k:Int))=false:=by simp;omega
  have HHP:=ak hp;clear hp hk0;have L:=aaI g ys.length cap k p ys[k] ys[p] wr hk hpy (U5.o.cell hk) (U5.o.cell hpy);have HL:=ak L;clear L;cases hd:decide (ys[k]<ys[p])
  all_goals
   have HD:=ak hd;clear hd;go_wp2_with fail
   refine HL.o.mono ?_;rintro r w1 ⟨rfl,hx1⟩;rw[HD.o];have fQ:=ak hx1;have hh1:=(U5.o.ext hx1).head;clear hx1 hm ha hhead;have ha:=fun n=>ad4 n b
   have hm:=fun n=>agz n b _ w1 hh1
   go_wp2_with fail
  ·go_end0
   exact⟨rfl,ys,HY.o,U5.o.ext fQ.o,HC.o.then (fQ.o.fH _)⟩
  refine(aaF g ys.length cap p k ys[p] ys[k] _ hpy hk ((U5.o.ext fQ.o).cell hpy) ((U5.o.ext fQ.o).cell hk) (U5.o.ext fQ.o).free).mono ?_;rintro r w2 ⟨rfl,q,rfl⟩;obtain⟨hp2,hc2⟩:=(U5.o.ext fQ.o).swap hpy hk q;have HP2:=ak hp2;have HC2:=ak hc2;clear hp2 hc2;generalize ((w1.setCell ⟨g,p,none⟩ (.int .i64 ys[k])).setCell ⟨g,k,none⟩ (.int .i64 ys[p])).drewN q=w2 at *;clear hm ha hh1;go_wp2_with fail
  go_roundw
  case rel=>exact⟨p,(ys.set p ys[k]).set k ys[p],rfl,by simp;omega,by simp;exact HYL.o,(List.set_set_perm hpy hk).trans HY.o,HP2.o,(HC.o.then (fQ.o.fH _)).then HC2.o⟩
  case measure=>simp[intOf];omega
def aRg (B b g cap:Nat) (xs:ZI) (w:World) (e:Ending) (w':World):Prop:=(∃u:Bool,e=.returned (.bool u))/\∃ys:ZI,ys.Perm xs/\(∀z,xs.getLast?=some z->ys.getLast?=some z)/\yK B b g cap ys w'/\dO [g] w w'
theorem avq {xs:ZI} {i:Nat} (h:i+1<xs.length) (z:Int):(xs.set i z).getLast?=xs.getLast?:=by
 rw[List.getLast?_eq_getElem?,List.getLast?_eq_getElem?];simp only[List.length_set];rw[List.getElem?_set_ne (by omega)]
theorem down_calls (B b g cap:Nat) (xs:ZI) (w:World) (h:yK B b g cap xs w) (n:Nat) (hn:n+1=xs.length) (hn2:n<=1000000000000000) :
  Calls Tryz.prog 144 #[.iface 168 (.pointer (some ⟨b,0,none⟩)),.int .i64 0,.int .i64 n] w (aRg B b g cap xs w):=by
 have HP:=ak h;have HN:=ak hn;clear h hn;go_enter Tryz.func144,Tryz.ntmps144
 go_wp2_with fail
 go_loopw [7,8,9,10] (fun t _ _ _ wr=>∃(k:Nat) (ys:ZI),t=.int .i64 k/\k<=n/\n+1=ys.length/\ys.Perm xs/\(∀z,xs.getLast?=some z->ys.getLast?=some z)/\yK B b g cap ys wr/\dO [g] w wr) (fun t _ _ _ _=>n - (intOf t).toNat)
 case atStart=>exact⟨0,xs,rfl,by omega,HN.o,List.Perm.refl _,fun _ h=>h,HP.o,dO.refl _ _⟩
 case round =>
  obtain⟨k,ys,rfl,hk,hyl,hyp,hla,hpl,hch⟩:=hrel;have U5:=ak hpl;have HC:=ak hch;have HY:=ak hyp;have HYL:=ak hyl;have HLA:=ak hla;have hhead:=hpl.head;clear hpl hch hyp hyl HP HN hla;obtain⟨j1,hj1⟩:∃j1:Nat,j1=2*k+1:=⟨_,rfl⟩
  have q1:(2*(k:Int)+1)=(j1:Int):=by omega
  have hkj:k<j1:=by omega
  have HJ1:=ak hj1;have t1:decide ((j1:Int)<0)=false:=by simp
  have a7k:j1<=2000000000000001:=by omega
  clear hj1;by_cases hlt:j1<n
  ·have t0:decide (n<=j1)=false:=by simp;omega
   have hy1:j1<ys.length:=by have:=HYL.o;omega
   have hyk:k<ys.length:=by have:=HYL.o;omega
   obtain⟨j2,hj2⟩:∃j2:Nat,j2=j1+1:=⟨_,rfl⟩
   have q2:((j1:Int)+1)=(j2:Int):=by omega
   have a7l:j1<j2:=by omega
   have a7j:j2<=n:=by omega
   clear hj2;by_cases h2:j2<n
   case' neg =>
    have t2:decide (j2<n)=false:=by simp;omega
    go_upto_region 8 with fail
    obtain⟨j,hj⟩:∃j:Nat,j=j1:=⟨_,rfl⟩
    obtain⟨w1,hw1⟩:∃w1:World,w1=wr:=⟨_,rfl⟩
    have fQ:=ak (show Ext wr w1 by rw[hw1];exact Ext.refl _);rw[<-hj,<-hw1];have hjk:k<j/\j<n:=by omega
    clear hj hw1
   case' pos =>
    have t2:decide (j2<n)=true:=by simp;omega
    have hy2:j2<ys.length:=by have:=HYL.o;omega
    have HL:=ak (aaI g ys.length cap j2 j1 ys[j2] ys[j1] wr hy2 hy1 (U5.o.cell hy2) (U5.o.cell hy1));have ha:=fun n=>ad5 n b
    have hm:=fun n=>agA n b _ wr hhead
    cases hd:decide (ys[j2]<ys[j1])
    case' false =>
     have HD:=ak hd;clear hd;go_wp2_with fail
     refine HL.o.mono ?_;rintro r w1 ⟨rfl,hx1⟩;rw[HD.o];have fQ:=ak hx1;clear hx1 hm ha hhead HD;go_upto_region 8 with fail
     obtain⟨j,hj⟩:∃j:Nat,j=j1:=⟨_,rfl⟩
     rw[<-hj];have hjk:k<j/\j<n:=by omega
     clear hj
    case' true =>
     have HD:=ak hd;clear hd;go_wp2_with fail
     refine HL.o.mono ?_;rintro r w1 ⟨rfl,hx1⟩;rw[HD.o];have fQ:=ak hx1;clear hx1 hm ha hhead HD;go_upto_region 8 with fail
     obtain⟨j,hj⟩:∃j:Nat,j=j2:=⟨_,rfl⟩
     rw[<-hj];have hjk:k<j/\j<n:=by omega
     clear hj
   all_goals
    obtain⟨hjk,hjn⟩:=hjk;have hyj:j<ys.length:=by have:=HYL.o;omega
    have hh1:=(U5.o.ext fQ.o).head;have ha:=fun n=>ad5 n b
    have hm:=fun n=>agA n b _ w1 hh1
    have HL2:=ak (aaI g ys.length cap j k ys[j] ys[k] w1 hyj hyk ((U5.o.ext fQ.o).cell hyj) ((U5.o.ext fQ.o).cell hyk));cases hd:decide (ys[j]<ys[k])
    ·have HD:=ak hd;clear hd;go_wp2_with fail
     refine HL2.o.mono ?_;rintro r w2 ⟨rfl,hx2⟩;rw[HD.o];have gI:=ak hx2;clear hx2 hm ha hh1 HD;go_wp2_with fail
     go_ret;exact⟨⟨_,rfl⟩,ys,HY.o,HLA.o,(U5.o.ext fQ.o).ext gI.o,(HC.o.then (fQ.o.fH _)).then (gI.o.fH _)⟩
    have HD:=ak hd;clear hd;go_wp2_with fail
    refine HL2.o.mono ?_;rintro r w2 ⟨rfl,hx2⟩;rw[HD.o];have HPX:=ak ((U5.o.ext fQ.o).ext hx2);have Us:=ak ((HC.o.then (fQ.o.fH _)).then (hx2.fH _));have hh2:=HPX.o.head;clear hx2 hm ha hh1 HD;have ha:=fun n=>ad4 n b
    have hm:=fun n=>agz n b _ w2 hh2
    go_wp2_with fail
    refine(aaF g ys.length cap k j ys[k] ys[j] _ hyk hyj (HPX.o.cell hyk) (HPX.o.cell hyj) HPX.o.free).mono ?_;rintro r w3 ⟨rfl,q,rfl⟩;obtain⟨hp2,hc2⟩:=HPX.o.swap hyk hyj q;have HP2:=ak hp2;have HC2:=ak hc2;clear hp2 hc2;generalize ((w2.setCell ⟨g,k,none⟩ (.int .i64 ys[j])).setCell ⟨g,j,none⟩ (.int .i64 ys[k])).drewN q=w3 at *;clear hm ha hh2;go_wp2_with fail
    go_roundw
    case rel =>
     refine⟨j,(ys.set k ys[j]).set j ys[k],rfl,by omega,by simp;exact HYL.o,(List.set_set_perm hyk hyj).trans HY.o,fun z hz=>?_,HP2.o,Us.o.then HC2.o⟩;rw[avq (by have:=HYL.o;simp;omega),avq (by have:=HYL.o;omega)];exact HLA.o z hz
    case measure=>simp[intOf];omega
  have t0:decide (n<=j1)=true:=by simp;omega
  go_wp2_with fail
  go_ret;exact⟨⟨_,rfl⟩,ys,HY.o,HLA.o,U5.o,HC.o⟩
theorem aBr:zh 169 3 (.int .i64 0) 1 8:=⟨by kernel_rfl,by kernel_rfl,rfl,by omega⟩
structure G7 (B b:Nat) (v:Value) (xs:ZI) (w:World):Prop where
 hB:B<=b
 hb:w.heap[b]?=some (.cells #[v] 171 (0,0))
 own:w.ownsRow B 3 1 v xs.length (xs.map fun z=>Value.int .i64 z)
 ne:v.ownBlock≠some b
theorem G7.fH {B b:Nat} {v:Value} {xs:ZI} {w w':World} {N:ZN} (h:G7 B b v xs w) (hc:dO N w w') (h1:b∉N) (h2:∀k,v.ownBlock=some k->k∉N):G7 B b v xs w':=by
 obtain⟨a1,a2,a3,a4⟩:=h;refine⟨a1,hc.blk a2 h1,?_,a4⟩;rcases a3 with ⟨l,h0|⟨g,cap,cur,e1,e2,e3,r⟩⟩
 ·exact⟨l,Or.inl h0⟩
 exact⟨l,Or.inr ⟨g,cap,cur,e1,e2,hc.blk e3 (h2 g (by rw[e1];rfl)),r⟩⟩
theorem G7.fresh (w:World):G7 w.heap.size w.heap.size (.slice none 0 0) [] (w.alloc (.cells #[.slice none 0 0] 171)) :=
 ⟨bg _,heap_alloc_new w _,World.ownsRow_nil _ _ _ _,by simp[Value.ownBlock]⟩
theorem G7.form {B b:Nat} {v:Value} {xs:ZI} {w:World} (h:G7 B b v xs w):∃a c,v=.slice a xs.length c:=by
 rcases h.own.2 with ⟨rfl,h0⟩|⟨g,cap,cur,rfl,_⟩
 ·exact⟨none,0,by rw[h0]⟩
 exact⟨_,_,rfl⟩
theorem G7.g {B b:Nat} {v:Value} {xs:ZI} {w:World} (h:G7 B b v xs w) (hx:0<xs.length):∃g cap,v=.slice (some ⟨g,0,none⟩) xs.length cap/\yK B b g cap xs w:=by
 obtain⟨a1,a2,a3,a4⟩:=h;rcases a3.2 with ⟨rfl,h0⟩|⟨g,cap,cur,rfl,h1,h2,h3,h4,h5,h6⟩
 ·omega
 exact⟨g,cap,rfl,a1,h1,fun e=>a4 (by rw[e];rfl),a2,cur,h2,h3,h4,by simpa using h5,by simpa using h6⟩
theorem yK.v {B b g cap:Nat} {xs:ZI} {w:World} (h:yK B b g cap xs w):G7 B b (.slice (some ⟨g,0,none⟩) xs.length cap) xs w:=by
 obtain⟨a1,a2,a3,a4,cur,h2,h3,h4,h5,h6⟩:=h;refine⟨a1,a4,⟨by simp,Or.inr ⟨g,cap,cur,rfl,a2,h2,h3,h4,by simpa using h5,by simpa using h6⟩⟩,fun e=>a3 (by simpa[Value.ownBlock] using e)⟩
theorem pJ {w:World} {base:Nat} {e:TypeId} {size:Nat} {v:Value} {n:Nat} {xs:List Value} (h:w.ownsRow base e size v n xs):∃a c,v=.slice a n c:=by
 rcases h.2 with ⟨rfl,h0⟩|⟨g,cap,cur,rfl,_⟩
 ·exact⟨none,0,by rw[h0]⟩
 exact⟨_,_,rfl⟩
def aOu (B b:Nat) (v:Value) (ok:ZI->Prop) (w:World) (e:Ending) (w':World):Prop:=e=.returned (.tuple #[])/\∃v' ys,ok ys/\G7 B b v' ys w'/\dO (b::rowOf v) w w'/\∀k,v'.ownBlock=some k->v.ownBlock=some k\/w.heap.size<=k
theorem avA (B b:Nat) (v:Value) (xs:ZI) (z:Int) (w:World) (h:G7 B b v xs w) (hB:B<=w.heap.size) (hl:xs.length<=1000000000) :
  Calls Tryz.prog 233 #[.pointer (some ⟨b,0,none⟩),.iface 3 (.int .i64 z)] w (aOu B b v (·=xs++[z]) w):=by
 have HP:=ak h;have hb0:=dM h.hb 0;have hbf:=jS h.hb 0;have hlt:=dH h.hb;obtain⟨a,c,hv⟩:=h.form;subst hv;simp at hb0;have t1:(Value.iface 3 (.int .i64 z))=(Value.iface 3 (.int .i64 z)):=rfl;clear h t1;obtain⟨i0,hi,hz0,hz1,hz2⟩:=info_parts aBr.info;have hta:∀W:World,(Instr.typeAssert (.iface 3 (.int .i64 z)) 20 3 true).run Tryz.prog W=.ok (.tuple #[.int .i64 z,.bool true]) W:=fun W=>by kernel_rfl
 go_enter Tryz.func233,Tryz.ntmps233
 go_wp2_with (at_builtin;refine wpList_append_own_at _ rfl _ _ 169 rfl B 3 i0 (.int .i64 0) 1 8 aBr.ht hi hz0 hz1 hz2 rfl (by decide) _ xs.length _ rfl (HP.o.own.alloc _) ⟨w.heap.size,0,none⟩ 1 1 [.int .i64 z] rfl rfl ?c1 ?c2 ?c3 ?c4 ?c5 ?_)
 case c1=>exact cell_one_new _ _ _
 case c2=>simp[Value.oneCell']
 case c3=>unfold maxLen;omega
 case c4=>omega
 case c5=>simp;omega
 intro v' w' hown' hgrow' _ azu;have hbn:some b≠(Value.slice a xs.length c).ownBlock:=fun e=>HP.o.ne e.symm
 have hb':w'.heap[b]?=some (.cells #[.slice a xs.length c] 171 (0,0)):=(hgrow'.block b (by simp;omega) hbn).trans (dJ HP.o.hb);have hb1:=dM hb' 0;have hf1:=jS hb' 0;have hl1:=dH hb';simp at hb1;have hvb:v'.ownBlock≠some b:=by
  rcases azu with e|e
  ·rw[e];exact fun h=>hbn h.symm
  rw[e];simp;omega
 obtain⟨a',c',hv'⟩:=pJ hown';subst hv';have HB1:=ak hb';have HO:=ak hown';have HG:=ak hgrow';have HW:=ak azu;clear hb' hown' hgrow' azu hb0 hbf hta;go_wp2_with fail
 go_end0
 have hc1:dO (rowOf (.slice a xs.length c)) w w':=(((Ext.refl w).alloc _).fH _).then (iM HG.o)
 have hc2:dO [b] w' (w'.setCell ⟨b,0,none⟩ (.slice a' (xs.length+1) c')):=(dO.refl _ _).setCell (Or.inl (by simp)) _;refine⟨rfl,.slice a' (xs.length+1) c',xs++[z],rfl,⟨HP.o.hB,?_,?_,hvb⟩,?_,?_⟩
 ·have:=aO w' b 0 _ _ (.slice a' (xs.length+1) c') HB1.o;simpa using this
 ·have:=eF HO.o hc2 (fun k hk hm=>hvb (by simp at hm;rw[hk,hm]));simpa using this
 ·refine dO.trans (dO.trans (dO.refl (b::rowOf (.slice a xs.length c)) w) hc1 (fun x hx=>Or.inl (by simp[hx]))) hc2 (fun x hx=>Or.inl (by simp at hx;simp[hx]))
 intro k hk;rcases HW.o with e|e
 ·exact Or.inl (by rw[<-e];exact hk)
 rw[e] at hk;simp at hk;exact Or.inr (by omega)
theorem arN {xs:ZI} (hx:0<xs.length):xs.getLast?=some (xs[xs.length - 1]'(by omega)):=by
 rw[List.getLast?_eq_getElem?,aZ (by omega)]
theorem yK.pop {B b g cap:Nat} {xs:ZI} {w:World} (h:yK B b g cap xs w):yK B b g cap xs.dropLast (w.setCell ⟨b,0,none⟩ (.slice (some ⟨g,0,none⟩) (xs.length - 1) cap)):=by
 obtain⟨a1,a2,a3,a4,cur,a5,a6,a7,a8,a9⟩:=h;refine⟨a1,a2,a3,?_,cur,?_,by simp;omega,a7,a8,?_⟩
 ·simp[World.setCell,Array.getElem?_modify,a4]
 ·rw[Below.heap_setCell _ _ _ _ (by simpa using a3)];exact a5
 have h5:cur.toList.take (xs.length - 1)=(cur.toList.take xs.length).take (xs.length - 1):=by rw[List.take_take];congr 1;omega
 simp only[List.length_dropLast];rw[h5,a9,<-List.map_take,List.dropLast_eq_take]
def aWh (B b:Nat) (v:Value) (ok:Int->ZI->Prop) (w:World) (e:Ending) (w':World):Prop :=
 ∃z v' ys,e=.returned (.iface 3 (.int .i64 z))/\ok z ys/\G7 B b v' ys w'/\dO (b::rowOf v) w w'/\∀k,v'.ownBlock=some k->v.ownBlock=some k\/w.heap.size<=k
theorem azq (B b g cap:Nat) (xs:ZI) (w:World) (h:yK B b g cap xs w) (hx:0<xs.length) :
  Calls Tryz.prog 232 #[.pointer (some ⟨b,0,none⟩)] w (aWh B b (.slice (some ⟨g,0,none⟩) xs.length cap) (fun z ys=>xs.getLast?=some z/\ys=xs.dropLast) w):=by
 have HP:=ak h;have hh:=h.head;have hf:=jS h.hb 0;have hlt:=dH h.hb;have hc:=h.cell (i:=xs.length - 1) (by omega);have hlast:=arN hx;obtain⟨n,hn⟩:∃n:Nat,n+1=xs.length:=⟨xs.length - 1,by omega⟩
 obtain⟨cur,hr1,hr2,hr3,hr4,hr5⟩:=h.row;have hn2:n+1<=9223372036854775807:=by unfold maxLen at hr3;omega
 have hcap:n+1<=cap:=by omega
 have e1:xs.length - 1=n:=by omega
 have U5:=ak h.pop;simp only[e1] at hc hlast;obtain⟨z,hz⟩:∃z,z=xs[n]'(by omega):=⟨_,rfl⟩
 rw[<-hz] at hc hlast;rw[<-hn] at hh;have HLA:=ak hlast;have HN:=ak hn;have HN2:=ak e1;have q1:(((n+1:Nat):Int) - 1)=(n:Int):=by omega
 have q2:((n:Int)+1 - 1)=(n:Int):=by omega
 rw[<-hn];clear h hlast hr1 hr2 hr3 hr4 hr5 hz e1 hn;go_enter Tryz.func232,Tryz.ntmps232
 go_wp2_with fail
 go_ret;have hp:=U5.o;rw[HN2.o] at hp;have hv:=hp.v;rw[List.length_dropLast,HN2.o] at hv;exact⟨z,_,_,rfl,⟨HLA.o,rfl⟩,hv,(dO.refl _ _).setCell (Or.inl (by simp)) _,fun k hk=>Or.inl hk⟩
theorem ahQ (B b:Nat) (v:Value) (xs:ZI) (z:Int) (w:World) (h:G7 B b v xs w) (hB:B<=w.heap.size) (hl:xs.length<=100000000) :
  Calls Tryz.prog 110 #[.iface 168 (.pointer (some ⟨b,0,none⟩)),.iface 3 (.int .i64 z)] w (aOu B b v (fun ys=>ys.Perm (xs++[z])) w):=by
 have ha:=fun n=>aAi n b
 have hm:=fun n W=>aDe n b W
 have HP:=ak h;clear h;go_enter Tryz.func110,Tryz.ntmps110
 go_wp2_with fail
 refine(avA B b v xs z w HP.o hB (by omega)).mono ?_;rintro r w1 ⟨rfl,v1,ys,rfl,hp1,hc1,hw1⟩;obtain⟨g,cap,rfl,hg1⟩:=hp1.g (by simp);have Yo:=ak hg1;have qw:=ak hc1;have HW1:=ak hw1;have hh:=hg1.head;obtain⟨n,hn⟩:∃n:Nat,n=xs.length:=⟨_,rfl⟩
 have e1:(xs++[z]).length=n+1:=by simp[hn]
 rw[e1] at hh;have HE:=ak e1;have hnb:n<=100000000:=by omega
 clear hp1 hg1 hc1 hw1 ha hm e1 hn hl;have ha:=fun n=>ap3 n b
 have hm:=fun k=>avd k b _ w1 hh
 go_wp2_with fail
 refine(XI _ _ _ _).mono ?_;rintro r w2 ⟨rfl,rfl⟩;have q1:(((n+1:Nat):Int) - 1)=(n:Int):=by omega
 have q2:((n:Int)+1 - 1)=(n:Int):=by omega
 clear ha hm;go_wp2_with fail
 refine(aFF B b g cap _ _ Yo.o n (by rw[HE.o];omega)).mono ?_;rintro r w3 ⟨rfl,ys,hy,hp3,hc3⟩;have KL:=ak hp3;have tH:=ak hc3;have HY:=ak hy;clear hp3 hc3 hy;go_wp2_with fail
 go_end0
 refine⟨rfl,_,ys,HY.o,KL.o.v,dO.trans qw.o tH.o (fun x hx=>?_),fun k hk=>?_⟩
 ·simp only[aK] at hx;subst hx;rcases HW1.o x rfl with e|e
  ·exact Or.inl (bH _ (dK.2 e))
  exact Or.inr e
 exact HW1.o k hk
theorem azy (B b:Nat) (v:Value) (xs:ZI) (w:World) (h:G7 B b v xs w) (hx:0<xs.length) (hl:xs.length<=100000000) :
  Calls Tryz.prog 112 #[.iface 168 (.pointer (some ⟨b,0,none⟩))] w (aWh B b v (fun z ys=>xs.Perm (z::ys)) w):=by
 obtain⟨g,cap,rfl,hg⟩:=h.g hx;have HG:=ak hg;have hh:=hg.head;obtain⟨n,hn⟩:∃n:Nat,n+1=xs.length:=⟨xs.length - 1,by omega⟩
 rw[<-hn] at hh ⊢;have HN:=ak hn;have hnb:n<=100000000:=by omega
 have hn0:0<xs.length:=hx;have hnn:n<xs.length:=by omega
 clear h hg hn hx hl;have ha:=fun n=>ap3 n b
 have hm:=fun k=>avd k b _ w hh
 have q1:(((n+1:Nat):Int) - 1)=(n:Int):=by omega
 have q2:((n:Int)+1 - 1)=(n:Int):=by omega
 go_enter Tryz.func112,Tryz.ntmps112
 go_wp2_with fail
 refine(XI _ _ _ _).mono ?_;rintro r w1 ⟨rfl,rfl⟩;clear ha hm;have ha:=fun n=>ad4 n b
 have hm:=fun k=>agz k b _ w hh
 go_wp2_with fail
 refine(aaF g (n+1) cap 0 n xs[0] xs[n] w (by omega) (by omega) (HG.o.cell hn0) (HG.o.cell hnn) HG.o.free).mono ?_;rintro r w2 ⟨rfl,q,rfl⟩;obtain⟨hp2,hc2⟩:=HG.o.swap hn0 hnn q;generalize ((w.setCell ⟨g,0,none⟩ (.int .i64 xs[n])).setCell ⟨g,n,none⟩ (.int .i64 xs[0])).drewN q=w2 at *;have HP2:=ak hp2;have HC2:=ak hc2;have HY2:=ak (show ((xs.set 0 xs[n]).set n xs[0]).Perm xs from List.set_set_perm hn0 hnn);have HL2:=ak (show n+1=((xs.set 0 xs[n]).set n xs[0]).length by simp;exact HN.o);generalize (xs.set 0 xs[n]).set n xs[0]=ys at *;clear hp2 hc2 ha hm hh;go_wp2_with fail
 refine(down_calls B b g cap ys w2 HP2.o n HL2.o (by omega)).mono ?_;rintro r w3 ⟨⟨u,rfl⟩,zs,hzy,_,hp3,hc3⟩;have KL:=ak hp3;have tH:=ak hc3;have HZY:=ak hzy;have HL3:=ak (show zs.length=n+1 by rw[hzy.length_eq];exact HL2.o.symm);have ha:=fun n=>aES n b
 have hm:=fun n W=>aG2 n b W
 clear hp3 hc3 hzy;go_wp2_with fail
 refine(azq B b g cap zs _ KL.o (by rw[HL3.o];omega)).mono ?_;rintro r w4 ⟨z,v',us,rfl,⟨hla,rfl⟩,hp4,hc4,hw4⟩;have HP4:=ak hp4;have ug:=ak hc4;have Yk:=ak hw4;have HLA:=ak hla;clear hp4 hc4 hw4 hla ha hm;go_wp2_with fail
 go_ret;refine⟨z,v',_,rfl,?_,HP4.o,?_,fun k hk=>?_⟩
 ·refine(HY2.o.symm.trans HZY.o.symm).trans ?_;have e:zs.dropLast++[z]=zs:=by
   have:=HLA.o;rw[List.getLast?_eq_some_iff] at this;obtain⟨us,rfl⟩:=this;simp
  exact(List.Perm.of_eq e.symm).trans (List.perm_append_singleton _ _)
 ·refine((dO.trans (dO.trans (dO.refl _ _) HC2.o ?_) tH.o ?_).trans ug.o ?_)
  ·intro x hx;exact Or.inl (by simp at hx;subst hx;simp[rowOf,Value.ownBlock])
  ·intro x hx;exact Or.inl (by simp at hx;subst hx;simp[rowOf,Value.ownBlock])
  intro x hx;exact Or.inl (by simpa[rowOf,Value.ownBlock] using hx)
 rcases Yk.o k hk with e|e
 ·exact Or.inl e
 have:=HC2.o.size;have:=tH.o.size;exact Or.inr (by omega)
open Go.RowKit Go.Maps
def oh (g:BA->Option Value):Lit->Option Value
 | .string bs=>g ⟨bs.toArray⟩
 | _=>none
def aiu (g:Nat->Option Value):Lit->Option Value
 | .int .i64 z=>if 0<=z then g z.toNat else none
 | _=>none
theorem tV (g:BA->Option Value) (s:BA):oh g (.string s.data.toList)=g s:=rfl
theorem aBe (g:Nat->Option Value) (i:Nat):aiu g (.int .i64 i)=g i:=by simp[aiu]
open Classical in
noncomputable def upS {α:Type} (g:BA->α) (s:BA) (v:α):BA->α:=fun t=>if t=s then v else g t
theorem CO {α:Type} (g:BA->α) (s:BA) (v:α):upS g s v s=v:=by simp[upS]
theorem yj {α:Type} (g:BA->α) {s t:BA} (v:α) (h:t≠s):upS g s v t=g t:=by simp[upS,h]
def upN {α:Type} (g:Nat->α) (s:Nat) (v:α):Nat->α:=fun t=>if t=s then v else g t
theorem Ep {α:Type} (g:Nat->α) (s:Nat) (v:α):upN g s v s=v:=by simp[upN]
theorem yt {α:Type} (g:Nat->α) {s t:Nat} (v:α) (h:t≠s):upN g s v t=g t:=by simp[upN,h]
theorem Jm (g:BA->Option Value) (s:BA) (v:Option Value) (x:Lit):Y9 (oh g) (.string s.data.toList) v x=oh (upS g s v) x:=by
 by_cases e:x=.string s.data.toList
 ·subst e;rw[Vr,tV,CO]
 rw[Qz _ _ e];cases x<;>try rfl
 rename_i bs
 simp only[oh];rw[yj];intro h
 apply e
 rw[<-h]
theorem aF3 (g:Nat->Option Value) (i:Nat) (v:Option Value) (x:Lit):Y9 (aiu g) (.int .i64 i) v x=aiu (upN g i v) x:=by
 by_cases e:x=.int .i64 i
 ·subst e;rw[Vr,aBe,Ep]
 rw[Qz _ _ e];cases x<;>try rfl
 rename_i k z
 cases k<;>try rfl
 simp only[aiu];by_cases h0:0<=z
 ·rw[dw h0,dw h0,yt];intro h
  apply e
  congr 1
  omega
 rw[dh h0,dh h0]
inductive WJ where
 | none|first|users|miss|pile|aCR|ax2 (s:BA)|azb (i:Nat)|out
structure St where
 ρ:Nat->WJ
 mb:Nat->Nat
 uv:BA->Option Value
 U:BA->ZN
 D:Nat->Prop
 S:Nat->Prop
 M:Nat->BA->Prop
 pv:Value
 R:ZI
 vo:Value
 O:ZN
open Classical in
noncomputable def Ld (M:BA->Prop):BA->Option Value:=fun s=>if M s then some (.agg #[]) else none
open Classical in
noncomputable def Nl (D:Nat->Prop) (mb:Nat->Nat):Nat->Option Value:=fun i=>if D i then some (.map (some (mb i))) else none
def ER (l:List zO):BA->Option Value:=fun s=>(firstAt l s).map fun (d:Nat)=>Value.int .i64 (d:Int)
def YG (l:ZN):List Value:=l.map fun (i:Nat)=>Value.int .i64 (i:Int)
structure OB (w0:World) (l:List zO) (bf bu bm bp t:Nat) (s:St) (w:World):Prop where
 ext:Ext w0 w
 fresh:∀k,w.heap.size<=k->s.ρ k=.none
 old:∀k,k<w0.heap.size->s.ρ k=.none
 rf:s.ρ bf=.first
 hf:MapAt w 9 bf t (oh (ER l))
 ru:s.ρ bu=.users
 hu:MapAt w 9 bu t (oh s.uv)
 rows:∀x v,s.uv x=some v->w.ownsRow w0.heap.size 3 1 v (s.U x).length (YG (s.U x))/\∀g,v.ownBlock=some g->s.ρ g=.ax2 x
 aLr:∀x,s.uv x=none->s.U x=[]
 rm:s.ρ bm=.miss
 hm:MapAt w 3 bm t (aiu (Nl s.D s.mb))
 dom:∀i,s.D i->s.S i
 sets:∀i,s.S i->s.ρ (s.mb i)=.azb i/\MapAt w 9 (s.mb i) t (oh (Ld (s.M i)))
 rp:s.ρ bp=.pile
 hp:G7 w0.heap.size bp s.pv s.R w
 rpv:∀g,s.pv.ownBlock=some g->s.ρ g=.aCR
 hv:w.ownsRow w0.heap.size 3 1 s.vo s.O.length (YG s.O)
 rv:∀g,s.vo.ownBlock=some g->s.ρ g=.out
section
variable {w0:World} {l:List zO} {bf bu bm bp t:Nat} {s:St} {w w':World}
theorem OB.fH (h:OB w0 l bf bu bm bp t s w) {N:ZN} (hc:dO N w w') (hN:∀k∈N,s.ρ k=.none) (hN0:∀k∈N,w0.heap.size<=k):OB w0 l bf bu bm bp t s w':=by
 have nn:∀k r,s.ρ k=r->r≠.none->k∉N:=fun k r h1 h2 h3=>h2 (by rw[<-h1];exact hN k h3)
 exact { h with
  ext:=hc.ext h.ext hN0
  fresh:=fun k hk=>h.fresh k (bC hc.size hk)
  hf:=h.hf.fH hc (nn _ _ h.rf (by simp))
  hu:=h.hu.fH hc (nn _ _ h.ru (by simp))
  rows:=fun x v hv=>⟨eF (h.rows x v hv).1 hc fun g hg=>nn _ _ ((h.rows x v hv).2 g hg) (by simp),(h.rows x v hv).2⟩
  hm:=h.hm.fH hc (nn _ _ h.rm (by simp))
  sets:=fun i hi=>⟨(h.sets i hi).1,(h.sets i hi).2.fH hc (nn _ _ (h.sets i hi).1 (by simp))⟩
  hp:=h.hp.fH hc (nn _ _ h.rp (by simp)) fun g hg=>nn _ _ (h.rpv g hg) (by simp)
  hv:=eF h.hv hc fun g hg=>nn _ _ (h.rv g hg) (by simp) }
theorem OB.Wi (h:OB w0 l bf bu bm bp t s w) (hx:Ext w w'):OB w0 l bf bu bm bp t s w':=h.fH (hx.fH []) (by simp) (by simp)
theorem OB.more (h:OB w0 l bf bu bm bp t s w) {t':Nat} (ht:t<=t'):OB w0 l bf bu bm bp t' s w :=
 {h with hf:=h.hf.more ht,hu:=h.hu.more ht,hm:=h.hm.more ht,sets:=fun i hi=>⟨(h.sets i hi).1,(h.sets i hi).2.more ht⟩ }
theorem OB.base (h:OB w0 l bf bu bm bp t s w) {k:Nat} {r:WJ} (hk:s.ρ k=r) (hr:r≠.none):w0.heap.size<=k:=by
 rcases cO k w0.heap.size with h'|h'
 ·exact absurd (hk.symm.trans (h.old k h')) hr
 exact h'
theorem apart {ρ:Nat->WJ} {a b:Nat} {r q:WJ} (ha:ρ a=r) (hb:ρ b=q) (h:r≠q):a∉[b]:=by
 intro hm;simp only[aK] at hm;subst hm;exact h (ha.symm.trans hb)
def St.adv (s:St) (i b:Nat):St:={ s with ρ:=upN s.ρ b (.azb i),mb:=upN s.mb i b,S:=fun j=>j=i\/s.S j,M:=upN s.M i fun _=>False }
theorem avc {D:Nat->Prop} {mb mb':Nat->Nat} (h2:∀i,D i->mb i=mb' i):Nl D mb=Nl D mb':=by
 funext i
 unfold Nl;by_cases hd:D i
 ·rw[dw hd,dw hd,h2 i hd]
 rw[dh hd,dh hd]
theorem azd (s:BA):Ld (fun _=>False) s=none:=by simp[Ld]
theorem OB.adv (h:OB w0 l bf bu bm bp t s w) {i:Nat} (hi:¬s.S i):OB w0 l bf bu bm bp t (s.adv i w.heap.size) (w.alloc (.map #[] 0)):=by
 have h':=h.Wi ((Ext.refl w).alloc (.map #[] 0));have ne:∀k r,s.ρ k=r->r≠.none->upN s.ρ w.heap.size (.azb i) k=r:=fun k r h1 h2=>by
  rw[yt _ _ (fun e=>h2 (by rw[<-h1,e];exact h.fresh _ (bg _)))];exact h1
 exact { h' with
  fresh:=fun k hk=>by
   simp at hk
   show upN s.ρ w.heap.size (.azb i) k=.none
   rw[yt _ _ (by omega)];exact h.fresh k (by omega)
  old:=fun k hk=>by
   show upN s.ρ w.heap.size (.azb i) k=.none
   rw[yt _ _ (by have:=h.ext.size;omega)];exact h.old k hk
  rf:=ne _ _ h.rf (by simp)
  ru:=ne _ _ h.ru (by simp)
  rows:=fun x v hv=>⟨(h'.rows x v hv).1,fun g hg=>ne _ _ ((h'.rows x v hv).2 g hg) (by simp)⟩
  rm:=ne _ _ h.rm (by simp)
  hm:=by
   have e:Nl s.D (upN s.mb i w.heap.size)=Nl s.D s.mb:=avc fun j hj=>yt _ _ fun e=>hi (by rw[<-e];exact h.dom j hj)
   show MapAt _ _ _ _ (aiu (Nl s.D (upN s.mb i w.heap.size)))
   rw[e];exact h'.hm
  dom:=fun j hj=>Or.inr (h.dom j hj)
  sets:=fun j hj=>by
   by_cases e:j=i
   ·subst e;refine⟨?_,?_⟩
    ·show upN s.ρ w.heap.size (.azb j) (upN s.mb j w.heap.size j)=_
     rw[Ep,Ep]
    show MapAt _ _ (upN s.mb j w.heap.size j) _ (oh (Ld (upN s.M j (fun _=>False) j)))
    rw[Ep,Ep];refine((MapAt.made w _).more (Nat.zero_le t)).congr fun x=>?_
    cases x<;>simp[oh,azd]
   have hj':s.S j:=hj.resolve_left e;refine⟨?_,?_⟩
   ·show upN s.ρ w.heap.size (.azb i) (upN s.mb i w.heap.size j)=_
    rw[yt s.mb _ e];exact ne _ _ (h.sets j hj').1 (by simp)
   show MapAt _ _ (upN s.mb i w.heap.size j) _ (oh (Ld (upN s.M i (fun _=>False) j)))
   rw[yt _ _ e,yt _ _ e];exact(h'.sets j hj').2
  rp:=ne _ _ h.rp (by simp)
  rpv:=fun g hg=>ne _ _ (h.rpv g hg) (by simp)
  rv:=fun g hg=>ne _ _ (h.rv g hg) (by simp) }
def St.amZ (s:St) (i:Nat) (m:BA->Prop):St:={ s with M:=upN s.M i m }
theorem OB.amZ (h:OB w0 l bf bu bm bp t s w) {i:Nat} (hi:s.S i) {m:BA->Prop} (hc:dO [s.mb i] w w') (hm:MapAt w' 9 (s.mb i) t (oh (Ld m))):OB w0 l bf bu bm bp t (s.amZ i m) w':=by
 have hr:=(h.sets i hi).1;exact { h with
  ext:=hc.ext h.ext (fun k hk=>by simp only[aK] at hk;subst hk;exact h.base hr (by simp))
  fresh:=fun k hk=>h.fresh k (bC hc.size hk)
  hf:=h.hf.fH hc (apart h.rf hr (by simp))
  hu:=h.hu.fH hc (apart h.ru hr (by simp))
  rows:=fun x v hv=>⟨eF (h.rows x v hv).1 hc fun g hg=>apart ((h.rows x v hv).2 g hg) hr (by simp),(h.rows x v hv).2⟩
  hm:=h.hm.fH hc (apart h.rm hr (by simp))
  sets:=fun j hj=>by
   by_cases e:j=i
   ·subst e;refine⟨hr,?_⟩
    show MapAt _ _ _ _ (oh (Ld (upN s.M j m j)))
    rw[Ep];exact hm
   refine⟨(h.sets j hj).1,?_⟩
   show MapAt _ _ _ _ (oh (Ld (upN s.M i m j)))
   rw[yt _ _ e];exact(h.sets j hj).2.fH hc (apart (h.sets j hj).1 hr (by simpa using e))
  hp:=h.hp.fH hc (apart h.rp hr (by simp)) fun g hg=>apart (h.rpv g hg) hr (by simp)
  hv:=eF h.hv hc fun g hg=>apart (h.rv g hg) hr (by simp) }
def St.aCr (s:St) (i:Nat):St:={ s with D:=fun j=>j=i\/s.D j }
theorem OB.aCr (h:OB w0 l bf bu bm bp t s w) {i:Nat} (hi:s.S i) (hc:dO [bm] w w') (hm:MapAt w' 3 bm (t+1) (aiu (upN (Nl s.D s.mb) i (some (.map (some (s.mb i))))))):OB w0 l bf bu bm bp (t+1) (s.aCr i) w':=by
 have hr:=h.rm;have h1:=h.more (Nat.le_succ t);exact { h1 with
  ext:=hc.ext h.ext (fun k hk=>by simp only[aK] at hk;subst hk;exact h.base hr (by simp))
  fresh:=fun k hk=>h.fresh k (bC hc.size hk)
  hf:=h1.hf.fH hc (apart h.rf hr (by simp))
  hu:=h1.hu.fH hc (apart h.ru hr (by simp))
  rows:=fun x v hv=>⟨eF (h.rows x v hv).1 hc fun g hg=>apart ((h.rows x v hv).2 g hg) hr (by simp),(h.rows x v hv).2⟩
  hm:=by
   refine hm.congr fun x=>?_
   have e:upN (Nl s.D s.mb) i (some (.map (some (s.mb i))))=Nl (fun j=>j=i\/s.D j) s.mb:=by
    funext j
    by_cases e:j=i
    ·subst e;rw[Ep];simp[Nl]
    rw[yt _ _ e];by_cases hd:s.D j<;>simp[Nl,e,hd]
   show _=aiu (Nl (fun j=>j=i\/s.D j) s.mb) x
   rw[e]
  dom:=fun j hj=>by
   rcases hj with rfl|hj
   ·exact hi
   exact h.dom j hj
  sets:=fun j hj=>⟨(h1.sets j hj).1,(h1.sets j hj).2.fH hc (apart (h.sets j hj).1 hr (by simp))⟩
  hp:=h.hp.fH hc (apart h.rp hr (by simp)) fun g hg=>apart (h.rpv g hg) hr (by simp)
  hv:=eF h.hv hc fun g hg=>apart (h.rv g hg) hr (by simp) }
theorem LZ {ρ:Nat->WJ} {a b:Nat} {v:Value} {r q q':WJ} (ha:ρ a=r) (hb:ρ b=q) (hv:∀g,v.ownBlock=some g->ρ g=q') (h:r≠q) (h':r≠q'):a∉b::rowOf v:=by
 intro hm;rcases bK.1 hm with rfl|hm
 ·exact h (ha.symm.trans hb)
 exact h' (ha.symm.trans (hv a (dK.1 hm)))
def DN (ρ:Nat->WJ) (v:Value) (r:WJ):Nat->WJ:=fun k=>match v.ownBlock with|some g=>if k=g then r else ρ k|none=>ρ k
theorem adk (ρ:Nat->WJ) {v:Value} {r:WJ} {g:Nat} (h:v.ownBlock=some g):DN ρ v r g=r:=by simp[DN,h]
theorem zC (ρ:Nat->WJ) {v:Value} {r:WJ} {k:Nat} (h:∀g,v.ownBlock=some g->k≠g):DN ρ v r k=ρ k:=by
 unfold DN;cases hv:v.ownBlock with
 | none=>rfl
 | some g=>simp[h g hv]
theorem ZX {ρ:Nat->WJ} {v v':Value} {r q:WJ} {n k:Nat} (hk:ρ k=q) (hq:q≠r) (hq0:q≠.none) (hv:∀g,v.ownBlock=some g->ρ g=r) (hfresh:∀k,n<=k->ρ k=.none) (hw:∀g,v'.ownBlock=some g->v.ownBlock=some g\/n<=g):DN ρ v' r k=q:=by
 rw[zC,hk];intro g hg e;subst e;rcases hw k hg with h|h
 ·exact hq (hk.symm.trans (hv k h))
 exact hq0 (hk.symm.trans (hfresh k h))
def St.agj (s:St) (pv:Value) (R:ZI):St:={ s with ρ:=DN s.ρ pv .aCR,pv:=pv,R:=R }
theorem OB.agj (h:OB w0 l bf bu bm bp t s w) {pv:Value} {R:ZI} (hp:G7 w0.heap.size bp pv R w') (hc:dO (bp::rowOf s.pv) w w') (hw:∀k,pv.ownBlock=some k->s.pv.ownBlock=some k\/w.heap.size<=k):OB w0 l bf bu bm bp t (s.agj pv R) w':=by
 have kp:∀{k q},s.ρ k=q->q≠.aCR->q≠.none->DN s.ρ pv .aCR k=q:=fun hk h1 h2=>ZX hk h1 h2 h.rpv h.fresh hw
 have hlt:∀g,pv.ownBlock=some g->w0.heap.size<=g/\g<w'.heap.size:=fun g hg=>hp.own.lt g hg
 exact { h with
  ext:=hc.ext h.ext (fun k hk=>by
   rcases bK.1 hk with rfl|hk
   ·exact h.base h.rp (by simp)
   exact h.base (h.rpv k (dK.1 hk)) (by simp))
  fresh:=fun k hk=>by
   show DN s.ρ pv .aCR k=.none
   rw[zC _ (fun g hg=>by have:=(hlt g hg).2;omega)];exact h.fresh k (bC hc.size hk)
  old:=fun k hk=>by
   show DN s.ρ pv .aCR k=.none
   rw[zC _ (fun g hg=>by have:=(hlt g hg).1;omega)];exact h.old k hk
  rf:=kp h.rf (by simp) (by simp)
  hf:=h.hf.fH hc (LZ h.rf h.rp h.rpv (by simp) (by simp))
  ru:=kp h.ru (by simp) (by simp)
  hu:=h.hu.fH hc (LZ h.ru h.rp h.rpv (by simp) (by simp))
  rows:=fun x v hv=>⟨eF (h.rows x v hv).1 hc fun g hg=>LZ ((h.rows x v hv).2 g hg) h.rp h.rpv (by simp) (by simp),fun g hg=>kp ((h.rows x v hv).2 g hg) (by simp) (by simp)⟩
  rm:=kp h.rm (by simp) (by simp)
  hm:=h.hm.fH hc (LZ h.rm h.rp h.rpv (by simp) (by simp))
  sets:=fun j hj=>⟨kp (h.sets j hj).1 (by simp) (by simp),(h.sets j hj).2.fH hc (LZ (h.sets j hj).1 h.rp h.rpv (by simp) (by simp))⟩
  rp:=kp h.rp (by simp) (by simp)
  hp:=hp
  rpv:=fun g hg=>adk _ hg
  hv:=eF h.hv hc fun g hg=>LZ (h.rv g hg) h.rp h.rpv (by simp) (by simp)
  rv:=fun g hg=>kp (h.rv g hg) (by simp) (by simp) }
theorem ad2 {ρ:Nat->WJ} {a:Nat} {v:Value} {r q:WJ} (ha:ρ a=r) (hv:∀g,v.ownBlock=some g->ρ g=q) (h:r≠q):a∉rowOf v:=fun hm=>h (ha.symm.trans (hv a (dK.1 hm)))
def St.ayp (s:St) (vo:Value) (O:ZN):St:={ s with ρ:=DN s.ρ vo .out,vo:=vo,O:=O }
theorem OB.ayp (h:OB w0 l bf bu bm bp t s w) {vo:Value} {O:ZN} (hv:w'.ownsRow w0.heap.size 3 1 vo O.length (YG O)) (hc:dO (rowOf s.vo) w w') (hw:∀k,vo.ownBlock=some k->s.vo.ownBlock=some k\/w.heap.size<=k):OB w0 l bf bu bm bp t (s.ayp vo O) w':=by
 have kp:∀{k q},s.ρ k=q->q≠.out->q≠.none->DN s.ρ vo .out k=q:=fun hk h1 h2=>ZX hk h1 h2 h.rv h.fresh hw
 have hlt:∀g,vo.ownBlock=some g->w0.heap.size<=g/\g<w'.heap.size:=fun g hg=>hv.lt g hg
 exact { h with
  ext:=hc.ext h.ext (fun k hk=>h.base (h.rv k (dK.1 hk)) (by simp))
  fresh:=fun k hk=>by
   show DN s.ρ vo .out k=.none
   rw[zC _ (fun g hg=>by have:=(hlt g hg).2;omega)];exact h.fresh k (bC hc.size hk)
  old:=fun k hk=>by
   show DN s.ρ vo .out k=.none
   rw[zC _ (fun g hg=>by have:=(hlt g hg).1;omega)];exact h.old k hk
  rf:=kp h.rf (by simp) (by simp)
  hf:=h.hf.fH hc (ad2 h.rf h.rv (by simp))
  ru:=kp h.ru (by simp) (by simp)
  hu:=h.hu.fH hc (ad2 h.ru h.rv (by simp))
  rows:=fun x v hv'=>⟨eF (h.rows x v hv').1 hc fun g hg=>ad2 ((h.rows x v hv').2 g hg) h.rv (by simp),fun g hg=>kp ((h.rows x v hv').2 g hg) (by simp) (by simp)⟩
  rm:=kp h.rm (by simp) (by simp)
  hm:=h.hm.fH hc (ad2 h.rm h.rv (by simp))
  sets:=fun j hj=>⟨kp (h.sets j hj).1 (by simp) (by simp),(h.sets j hj).2.fH hc (ad2 (h.sets j hj).1 h.rv (by simp))⟩
  rp:=kp h.rp (by simp) (by simp)
  hp:=h.hp.fH hc (ad2 h.rp h.rv (by simp)) fun g hg=>ad2 (h.rpv g hg) h.rv (by simp)
  rpv:=fun g hg=>kp (h.rpv g hg) (by simp) (by simp)
  hv:=hv
  rv:=fun g hg=>adk _ hg }
noncomputable def St.at7 (s:St) (x:BA) (v:Value) (u:ZN):St:={ s with ρ:=DN s.ρ v (.ax2 x),uv:=upS s.uv x (some v),U:=upS s.U x u }
def aik (s:St) (x:BA):Value:=(s.uv x).getD (.slice none 0 0)
theorem OB.abv (h:OB w0 l bf bu bm bp t s w) (x:BA):∀g,(aik s x).ownBlock=some g->s.ρ g=.ax2 x:=by
 intro g hg;unfold aik at hg;cases hu:s.uv x with
 | none=>rw[hu] at hg;simp[Value.ownBlock] at hg
 | some v=>rw[hu] at hg;exact(h.rows x v hu).2 g hg
theorem OB.aeB (h:OB w0 l bf bu bm bp t s w) (x:BA):w.ownsRow w0.heap.size 3 1 (aik s x) (s.U x).length (YG (s.U x)):=by
 unfold aik;cases hu:s.uv x with
 | none=>rw[h.aLr x hu];exact World.ownsRow_nil _ _ _ _
 | some v=>exact(h.rows x v hu).1
theorem OB.at7 (h:OB w0 l bf bu bm bp t s w) {x:BA} {v:Value} {u:ZN} {w1:World} (hv:w1.ownsRow w0.heap.size 3 1 v u.length (YG u)) (hc:dO (rowOf (aik s x)) w w1) (hw:∀k,v.ownBlock=some k->(aik s x).ownBlock=some k\/w.heap.size<=k)
  (hc2:dO [bu] w1 w') (hm:MapAt w' 9 bu (t+1) (oh (upS s.uv x (some v)))):OB w0 l bf bu bm bp (t+1) (s.at7 x v u) w':=by
 have hR:=h.abv x;have kp:∀{k q},s.ρ k=q->q≠.ax2 x->q≠.none->DN s.ρ v (.ax2 x) k=q:=fun hk h1 h2=>ZX hk h1 h2 hR h.fresh hw
 have hlt:∀g,v.ownBlock=some g->w0.heap.size<=g/\g<w1.heap.size:=fun g hg=>hv.lt g hg
 have hbu:∀g,v.ownBlock=some g->g∉[bu]:=fun g hg hm=>by
  simp only[aK] at hm;subst hm;rcases hw g hg with h1|h1
  ·exact absurd (h.ru.symm.trans (hR g h1)) (by simp)
  exact absurd (h.ru.symm.trans (h.fresh g h1)) (by simp)
 have hcc:dO (bu::rowOf (aik s x)) w w':=dO.trans (dO.trans (dO.refl _ _) hc (fun k hk=>Or.inl (bH _ hk))) hc2 (fun k hk=>Or.inl (by simp only[aK] at hk;simp[hk]));have h1:=h.more (Nat.le_succ t);exact { h1 with
  ext:=hcc.ext h.ext (fun k hk=>by
   rcases bK.1 hk with rfl|hk
   ·exact h.base h.ru (by simp)
   exact h.base (hR k (dK.1 hk)) (by simp))
  fresh:=fun k hk=>by
   show DN s.ρ v (.ax2 x) k=.none
   have:=hc2.size;rw[zC _ (fun g hg=>by have:=(hlt g hg).2;omega)];exact h.fresh k (bC hcc.size hk)
  old:=fun k hk=>by
   show DN s.ρ v (.ax2 x) k=.none
   rw[zC _ (fun g hg=>by have:=(hlt g hg).1;omega)];exact h.old k hk
  rf:=kp h.rf (by simp) (by simp)
  hf:=h1.hf.fH hcc (LZ h.rf h.ru hR (by simp) (by simp))
  ru:=kp h.ru (by simp) (by simp)
  hu:=hm
  rows:=fun y u' hy=>by
   by_cases e:y=x
   ·subst e;have e1:upS s.uv y (some v) y=some v:=CO _ _ _;have e2:some v=some u':=e1.symm.trans hy;cases e2
    refine⟨?_,fun g hg=>adk _ hg⟩
    show World.ownsRow _ _ _ _ _ (upS s.U y u y).length (YG (upS s.U y u y))
    rw[CO];exact eF hv hc2 hbu
   have e1:s.uv y=some u':=(yj s.uv (some v) e).symm.trans hy;obtain⟨r1,r2⟩:=h.rows y u' e1;refine⟨?_,fun g hg=>kp (r2 g hg) (by simpa using e) (by simp)⟩
   show World.ownsRow _ _ _ _ _ (upS s.U x u y).length (YG (upS s.U x u y))
   rw[yj _ _ e];exact eF r1 hcc fun g hg=>LZ (r2 g hg) h.ru hR (by simp) (by simpa using e)
  aLr:=fun y hy=>by
   by_cases e:y=x
   ·subst e;have e1:upS s.uv y (some v) y=some v:=CO _ _ _;have e2:some v=none:=e1.symm.trans hy;cases e2
   have e1:s.uv y=none:=(yj s.uv (some v) e).symm.trans hy
   show upS s.U x u y=[]
   rw[yj _ _ e];exact h.aLr y e1
  rm:=kp h.rm (by simp) (by simp)
  hm:=h1.hm.fH hcc (LZ h.rm h.ru hR (by simp) (by simp))
  sets:=fun j hj=>⟨kp (h.sets j hj).1 (by simp) (by simp),(h1.sets j hj).2.fH hcc (LZ (h.sets j hj).1 h.ru hR (by simp) (by simp))⟩
  rp:=kp h.rp (by simp) (by simp)
  hp:=h.hp.fH hcc (LZ h.rp h.ru hR (by simp) (by simp)) fun g hg=>LZ (h.rpv g hg) h.ru hR (by simp) (by simp)
  rpv:=fun g hg=>kp (h.rpv g hg) (by simp) (by simp)
  hv:=eF h.hv hcc fun g hg=>LZ (h.rv g hg) h.ru hR (by simp) (by simp)
  rv:=fun g hg=>kp (h.rv g hg) (by simp) (by simp) }
end
end Go.Proofs.YtefjomofjejklaaGreatDoor
namespace Go.Proofs
set_option maxRecDepth 100000
set_option maxHeartbeats 32000000
open Go.Shelf
def Tryz.keys42_ren:Go.Shelf.Ren:=⟨fun|7=>142|10=>172|n=>n,fun|23=>174|26=>9|3=>176|28=>207|0=>0|27=>206|33=>160|4=>4|n=>n,fun|n=>n⟩
theorem Tryz.keys42:Go.Proofs.SlLaysZ.n7 Tryz.prog Tryz.keys42_ren:={
 mixed:=by kernel_rfl
 f7:=⟨Tryz.f142.name,by decide,Tryz.func142.trans (congrArg some (by kernel_rfl))⟩
 f10:=⟨Tryz.f172.name,by decide,Tryz.func172.trans (congrArg some (by kernel_rfl))⟩
 t0:=Tryz.underlying0
 a0:=Tryz.isAgg0
 z0:=Tryz.sizeOf0
 v0:=Tryz.zeroValue0
 t4:=Tryz.underlying4
 a4:=Tryz.isAgg4
 z4:=Tryz.sizeOf4
 v4:=Tryz.zeroValue4
 t23:=Tryz.underlying174
 a23:=Tryz.isAgg174
 z23:=Tryz.sizeOf174
 v23:=Tryz.zeroValue174
 t26:=Tryz.underlying9
 a26:=Tryz.isAgg9
 z26:=Tryz.sizeOf9
 v26:=Tryz.zeroValue9
 t27:=Tryz.underlying206
 a27:=Tryz.isAgg206
 z27:=Tryz.sizeOf206
 v27:=Tryz.zeroValue206
 t28:=Tryz.underlying207
 a28:=Tryz.isAgg207
 z28:=Tryz.sizeOf207
 v28:=Tryz.zeroValue207
 t33:=Tryz.underlying160
 a33:=Tryz.isAgg160
 z33:=Tryz.sizeOf160
 v33:=Tryz.zeroValue160 }
def Tryz.sorted41_ren:Go.Shelf.Ren:=⟨fun|6=>141|8=>170|9=>171|11=>185|13=>187|12=>186|23=>199|24=>200|14=>190|15=>191|16=>192|17=>193|18=>194|19=>195|20=>196|21=>197|22=>198|25=>201|26=>202|27=>203|28=>204|29=>205|30=>206|31=>207|n=>n,fun|26=>9|28=>207|24=>42|0=>0|3=>3|37=>240|48=>254|50=>256|4=>4|40=>247|39=>246|45=>145|5=>5|9=>9|51=>257|55=>228|57=>262|58=>117|33=>160|n=>n,fun|n=>n⟩
theorem Tryz.sorted41:Go.Proofs.SlLaysZ.n6 Tryz.prog Tryz.sorted41_ren:={
 mixed:=by kernel_rfl
 f6:=⟨Tryz.f141.name,by decide,Tryz.func141.trans (congrArg some (by kernel_rfl))⟩
 f8:=⟨Tryz.f170.name,by decide,Tryz.func170.trans (congrArg some (by kernel_rfl))⟩
 f11:=⟨Tryz.f185.name,by decide,Tryz.func185.trans (congrArg some (by kernel_rfl))⟩
 t0:=Tryz.underlying0
 a0:=Tryz.isAgg0
 z0:=Tryz.sizeOf0
 v0:=Tryz.zeroValue0
 t24:=Tryz.underlying42
 a24:=Tryz.isAgg42
 z24:=Tryz.sizeOf42
 v24:=Tryz.zeroValue42
 t26:=Tryz.underlying9
 a26:=Tryz.isAgg9
 z26:=Tryz.sizeOf9
 v26:=Tryz.zeroValue9
 t28:=Tryz.underlying207
 a28:=Tryz.isAgg207
 z28:=Tryz.sizeOf207
 v28:=Tryz.zeroValue207
 i26:=by kernel_rfl }
def Tryz.sort61_ren:Go.Shelf.Ren:=⟨fun|6=>171|8=>187|9=>186|19=>199|20=>200|21=>190|22=>191|23=>192|24=>193|25=>194|26=>195|27=>196|28=>197|29=>198|36=>201|31=>202|32=>203|37=>204|38=>205|39=>206|41=>207|n=>n,fun|27=>42|29=>9|3=>3|32=>240|26=>42|0=>0|44=>254|46=>256|4=>4|36=>247|35=>246|41=>145|5=>5|9=>9|53=>257|57=>228|63=>262|64=>117|n=>n,fun|n=>n⟩
theorem Tryz.sort61:Go.Proofs.SlLaysM.n6 Tryz.prog Tryz.sort61_ren:={
 mixed:=by kernel_rfl
 f6:=⟨Tryz.f171.name,by decide,Tryz.func171.trans (congrArg some (by kernel_rfl))⟩
 f8:=Tryz.func187.trans (congrArg some (by kernel_rfl))
 f9:=⟨Tryz.f186.name,by decide,Tryz.func186.trans (congrArg some (by kernel_rfl))⟩
 f19:=Tryz.func199.trans (congrArg some (by kernel_rfl))
 f20:=Tryz.func200.trans (congrArg some (by kernel_rfl))
 f21:=⟨Tryz.f190.name,by decide,Tryz.func190.trans (congrArg some (by kernel_rfl))⟩
 f22:=⟨Tryz.f191.name,by decide,Tryz.func191.trans (congrArg some (by kernel_rfl))⟩
 f23:=⟨Tryz.f192.name,by decide,Tryz.func192.trans (congrArg some (by kernel_rfl))⟩
 f24:=⟨Tryz.f193.name,by decide,Tryz.func193.trans (congrArg some (by kernel_rfl))⟩
 f25:=⟨Tryz.f194.name,by decide,Tryz.func194.trans (congrArg some (by kernel_rfl))⟩
 f26:=⟨Tryz.f195.name,by decide,Tryz.func195.trans (congrArg some (by kernel_rfl))⟩
 f27:=⟨Tryz.f196.name,by decide,Tryz.func196.trans (congrArg some (by kernel_rfl))⟩
 f28:=⟨Tryz.f197.name,by decide,Tryz.func197.trans (congrArg some (by kernel_rfl))⟩
 f29:=⟨Tryz.f198.name,by decide,Tryz.func198.trans (congrArg some (by kernel_rfl))⟩
 f31:=Tryz.func202.trans (congrArg some (by kernel_rfl))
 f32:=Tryz.func203.trans (congrArg some (by kernel_rfl))
 f36:=⟨Tryz.f201.name,by decide,Tryz.func201.trans (congrArg some (by kernel_rfl))⟩
 f37:=⟨Tryz.f204.name,by decide,Tryz.func204.trans (congrArg some (by kernel_rfl))⟩
 f38:=⟨Tryz.f205.name,by decide,Tryz.func205.trans (congrArg some (by kernel_rfl))⟩
 f39:=⟨Tryz.f206.name,by decide,Tryz.func206.trans (congrArg some (by kernel_rfl))⟩
 f41:=⟨Tryz.f207.name,by decide,Tryz.func207.trans (congrArg some (by kernel_rfl))⟩
 t0:=Tryz.underlying0
 a0:=Tryz.isAgg0
 z0:=Tryz.sizeOf0
 v0:=Tryz.zeroValue0
 t3:=Tryz.underlying3
 a3:=Tryz.isAgg3
 z3:=Tryz.sizeOf3
 v3:=Tryz.zeroValue3
 t4:=Tryz.underlying4
 a4:=Tryz.isAgg4
 z4:=Tryz.sizeOf4
 v4:=Tryz.zeroValue4
 t5:=Tryz.underlying5
 a5:=Tryz.isAgg5
 z5:=Tryz.sizeOf5
 v5:=Tryz.zeroValue5
 t9:=Tryz.underlying9
 a9:=Tryz.isAgg9
 z9:=Tryz.sizeOf9
 v9:=Tryz.zeroValue9
 t26:=Tryz.underlying42
 a26:=Tryz.isAgg42
 z26:=Tryz.sizeOf42
 v26:=Tryz.zeroValue42
 t27:=Tryz.underlying42
 a27:=Tryz.isAgg42
 z27:=Tryz.sizeOf42
 v27:=Tryz.zeroValue42
 t29:=Tryz.underlying9
 a29:=Tryz.isAgg9
 z29:=Tryz.sizeOf9
 v29:=Tryz.zeroValue9
 t32:=Tryz.underlying240
 a32:=Tryz.isAgg240
 z32:=Tryz.sizeOf240
 v32:=Tryz.zeroValue240
 t35:=Tryz.underlying246
 a35:=Tryz.isAgg246
 z35:=Tryz.sizeOf246
 v35:=Tryz.zeroValue246
 t36:=Tryz.underlying247
 a36:=Tryz.isAgg247
 z36:=Tryz.sizeOf247
 v36:=Tryz.zeroValue247
 t41:=Tryz.underlying145
 a41:=Tryz.isAgg145
 z41:=Tryz.sizeOf145
 v41:=Tryz.zeroValue145
 t44:=Tryz.underlying254
 a44:=Tryz.isAgg254
 z44:=Tryz.sizeOf254
 v44:=Tryz.zeroValue254
 t46:=Tryz.underlying256
 a46:=Tryz.isAgg256
 z46:=Tryz.sizeOf256
 v46:=Tryz.zeroValue256
 t53:=Tryz.underlying257
 a53:=Tryz.isAgg257
 z53:=Tryz.sizeOf257
 v53:=Tryz.zeroValue257
 t57:=Tryz.underlying228
 a57:=Tryz.isAgg228
 z57:=Tryz.sizeOf228
 v57:=Tryz.zeroValue228
 t63:=Tryz.underlying262
 a63:=Tryz.isAgg262
 z63:=Tryz.sizeOf262
 v63:=Tryz.zeroValue262
 t64:=Tryz.underlying117
 a64:=Tryz.isAgg117
 z64:=Tryz.sizeOf117
 v64:=Tryz.zeroValue117 }
end Go.Proofs
namespace Go.Proofs
set_option maxRecDepth 100000
set_option maxHeartbeats 32000000
open Go.RowKit Go.Maps Go.Sort Go.Shelf
theorem Tryz.sorts41 (m:Nat):AnyZ.SortsIn Tryz.prog Tryz.sorted41_ren Fence.wide m :=
 ⟨fun blk off cap ss W hH hblk hsz=>callsIn_wide.2 (AnyM.slices_Sort_string Tryz.sort61 blk off cap ss W hH hblk hsz),
 fun p cap W=>callsIn_wide.2 (AnyM.slices_Sort_string_none Tryz.sort61 p cap W)⟩
theorem Tryz.maps_Keys_42 (mb:Option Nat) (W:World):CallsIn Fence.wide 5 Tryz.prog 142 #[.map mb] W fun e w'=>e=.returned (.func (.func 172) #[] #[.pointer (some ⟨W.heap.size,0,none⟩)])/\w'=W.alloc (.cells #[.map mb] 174) :=
 AnyZ.keys_in Tryz.keys42 Fence.wide 5 trivial rfl mb W
theorem Tryz.slices_Sorted_keys_41_42 {H:Type} (b nn:Nat) (D0:DataW H) (R:Value->Option (DataW H×List MemPlace)) (w:World) (hown:w.ownsMap Tryz.prog 9 R b nn D0) (hmax:Maps.size D0<=maxLen) (hbytes:Maps.size D0*16<=140737488355328) :
  CallsIn Fence.wide 5 Tryz.prog 141 #[.func (.func 172) #[] #[.pointer (some ⟨w.heap.size,0,none⟩)]] (w.alloc (.cells #[.map (some b)] 174)) fun e w'=>∃(v:Value) (ss:List (List UInt8)),e=.returned v/\ss.Perm (strKeys D0) /\
   w'.ownsRow (w.alloc (.cells #[.map (some b)] 174)).heap.size 9 1 v ss.length ((ss.mergeSort (fun x y=>decide (x<=y))).map encStr)/\(v=.slice none 0 0 ↔ ss=[])/\Below (w.alloc (.cells #[.map (some b)] 174)).heap.size (w.alloc (.cells #[.map (some b)] 174)) w':=by
 have hbl:=hown.lt;have hseq:SeqGives Fence.wide 2 Tryz.prog 172 #[.pointer (some ⟨w.heap.size,0,none⟩)] encStr (fun ss=>ss.Perm (strKeys D0)) (Maps.size D0) (w.alloc (.cells #[.map (some b)] 174)) :=
  AnyZ.keys_gives (ρ:=Tryz.keys42_ren) { Tryz.keys42 with } Fence.wide _ trivial rfl (by omega) w.heap.size b nn D0 _ (by simp) (by simp) (by
   obtain⟨es,clock,hb,Ft,hs,hD⟩:=hown;exact⟨es,clock,(Below.heap_alloc _ _ b hbl).trans hb,Ft,hs,hD⟩)
 exact AnyZ.sorted_in Tryz.sorted41 Fence.wide 5 trivial trivial trivial trivial rfl (by omega) (Tryz.sorts41 _) (enters_of Tryz.func171 (by kernel_rfl) rfl) 172 #[.pointer (some ⟨w.heap.size,0,none⟩)] trivial (enters_of Tryz.func172 (by kernel_rfl) rfl) _ _ hmax hbytes _ hseq
end Go.Proofs
namespace Go.Proofs.YtefjomofjejklaaGreatDoor
set_option maxRecDepth 100000
set_option maxHeartbeats 32000000
open Go.RowKit Go.Maps Go.Sort Go.Shelf
theorem atS {w:World} {base:Nat} {l:ZB} {v:Value} {n:Nat} (h:w.ownsRow base 9 1 v n ((l.map (·.data.toList)).map encStr)) (hn:n=l.length):∃a c,v=.slice a l.length c/\ji w l a l.length c:=by
 subst hn;have e:(l.map (·.data.toList)).map encStr=l.flatMap strCells:=by
  clear h;induction l with
  | nil=>rfl
  | cons x r ih=>simp only[List.map_cons,ih,List.flatMap_cons,strCells];rfl
 rw[e] at h;obtain⟨a,c,h1,_,h2⟩:=mD h [] (by simp);exact⟨a,c,h1,h2⟩
theorem ayn {w:World} {b n:Nat} {D:DataW Unit} {R:Value->Option (DataW Unit×List MemPlace)} (h:w.ownsMap Tryz.prog 9 R b n D):Maps.size D<=n:=by
 obtain⟨es,clock,_,_,hs,rfl⟩:=h;simp only[Maps.size];rw[length_sorted];simpa using hs
def aWg (l:ZB) (w:World) (e:Ending) (w':World):Prop:=∃(a:OA) (c:Nat),e=.returned (.slice a l.length c)/\ji w' l a l.length c/\Ext w w'/\∀b off,a=some ⟨b,off,none⟩->w.heap.size<=b
theorem Hg (e:Ex) (v:Value) (w:World) (hs:e.size<=900000) (hf:e.fits) (he:fC w e v):Calls Tryz.prog 109 #[v] w (aWg (lQ (jo e)) w):=by
 obtain⟨aw,nw,cw,aa,na,ca,rfl,-,-,-,-,-⟩:=he.parts;have HX:=ak (((Ext.refl w).alloc (.cells (aC e.op e.name aw nw cw e.lo e.hi aa na ca) 45)).alloc (.map #[] 0));have Oz:=ak (show RG ((w.alloc (.cells (aC e.op e.name aw nw cw e.lo e.hi aa na ca) 45)).alloc (.map #[] 0)) (w.heap.size+1) 0 [] from
  ⟨.map [],by have:=World.ownsMap_made (H:=Unit) (w.alloc (.cells (aC e.op e.name aw nw cw e.lo e.hi aa na ca) 45)) Tryz.prog 9 unitElem;simpa using this,aCq⟩)
 have HE:=ak (show fC (mask ((w.alloc (.cells (aC e.op e.name aw nw cw e.lo e.hi aa na ca) 45)).alloc (.map #[] 0)) [w.heap.size+1]) e (exV e.op e.name aw nw cw e.lo e.hi aa na ca) from
  he.mono (fun p q hp=>by
   have hb:=block_lt hp;rw[iH,dh (by simp;omega)];exact HX.o.cell hp))
 have HC:=ak (anM 900000 (by omega) e _ _ _ _ _ hs hf HE.o Oz.o (by omega));have hmm:=@run_makeMap Tryz.prog;rw[List.nil_append] at HC;clear he Oz HE;unfold exV at *;refine(callsIn_wide (n:=6)).1 ?_;have hfK:Fence.wide.fn 142:=trivial;have hfS:Fence.wide.fn 141:=trivial;have hfC:Fence.wide.fn 140:=trivial;refine callsIn_of_wp Tryz.func109 rfl trivial ?_ rfl;simp only[Tryz.ntmps109,List.size_toArray,List.length_cons,List.length_nil,Nat.reduceAdd,Nat.reduceSub,Array.replicate_succ,Array.replicate_zero,List.push_toArray,List.append_toArray,List.nil_append,List.cons_append]
 gi_wp2_with (first
  | (gi_at_call 140;refine(callsIn_wide.2 HC.o).mono ?_;rintro r w1 ⟨rfl,aUn,hc1⟩)
  | (gi_at_call 142;refine(Tryz.maps_Keys_42 _ _).mono ?_;rintro r w' ⟨rfl,rfl⟩))
 obtain⟨D,hown,hsi⟩:=aUn;have hsize:=ayn hown;have hwx:=hc1.ext HX.o (by simp);have fQ:=ak hwx;have HSI:=ak hsi;clear hc1 hsi hwx;refine(Tryz.slices_Sorted_keys_41_42 (w.heap.size+1) _ D _ w1 hown (by unfold maxLen;omega) (by omega)).mono ?_;rintro r w2 ⟨v,ss,rfl,hS,hrow,-,hb⟩;have hsame:=aza HSI.o hS;have hlen:ss.length=(lQ (jo e)).length:=by
  have:=congrArg List.length hsame;simpa using this
 rw[hsame] at hrow;have hfr:=hrow.lt;obtain⟨ra,rc,rfl,hst⟩:=atS hrow hlen;have HFR:=ak (show ∀b off,ra=some ⟨b,off,none⟩->w.heap.size<=b by
  intro b off e;subst e;have h1:=(hfr b rfl).1;have h2:=fQ.o.size;simp at h1;omega)
 have HST:=ak hst;have gI:=ak ((fQ.o.alloc (.cells #[.map (some (w.heap.size+1))] 174)).trans hb);clear hrow hst hb hS hsame hlen hown hsize hfr
 gi_wp2_with (fail)
 go_ret;exact⟨ra,rc,rfl,HST.o,gI.o,HFR.o⟩
end Go.Proofs.YtefjomofjejklaaGreatDoor
