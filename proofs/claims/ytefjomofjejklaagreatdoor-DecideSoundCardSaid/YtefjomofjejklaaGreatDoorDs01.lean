/- Joined. -/
import Derived.Test.YtefjomofjejklaaGreatDoorProg
import Derived.WalkKit
import Derived.Deep.QuietTactic
import Derived.BigQuiet
import Derived.Lib.Hide
import Derived.ProofKit
import Derived.LaidMore
import Derived.OpenShut
import Derived.Deep.Fields
import Derived.Stop.Joined
import Derived.WalkMore
import Derived.Deep.LoopGhost
import Derived.IntWalk
namespace Go.Proofs.YtefjomofjejklaaGreatDoor
set_option maxRecDepth 100000
set_option maxHeartbeats 32000000
open Go.RowKit
abbrev OA := Option Addr
abbrev BA := ByteArray
abbrev ZB := List BA
abbrev ZI := List Int
abbrev ZN := List Nat
theorem ltc4 {i : Nat} (h : i < 4) : i = 0 \/ i = 1 \/ i = 2 \/ i = 3 := by omega
theorem ltc5 {i : Nat} (h : i < 5) : i = 0 \/ i = 1 \/ i = 2 \/ i = 3 \/ i = 4 := by omega
theorem ltc6 {i : Nat} (h : i < 6) : i = 0 \/ i = 1 \/ i = 2 \/ i = 3 \/ i = 4 \/ i = 5 := by omega
theorem ltc7 {i : Nat} (h : i < 7) : i = 0 \/ i = 1 \/ i = 2 \/ i = 3 \/ i = 4 \/ i = 5 \/ i = 6 := by omega
theorem ltc8 {i : Nat} (h : i < 8) : i = 0 \/ i = 1 \/ i = 2 \/ i = 3 \/ i = 4 \/ i = 5 \/ i = 6 \/ i = 7 := by omega
theorem ltc9 {i : Nat} (h : i < 9) : i = 0 \/ i = 1 \/ i = 2 \/ i = 3 \/ i = 4 \/ i = 5 \/ i = 6 \/ i = 7 \/ i = 8 := by omega
theorem ltc10 {i : Nat} (h : i < 10) : i = 0 \/ i = 1 \/ i = 2 \/ i = 3 \/ i = 4 \/ i = 5 \/ i = 6 \/ i = 7 \/ i = 8 \/ i = 9 := by omega
theorem ltc11 {i : Nat} (h : i < 11) : i = 0 \/ i = 1 \/ i = 2 \/ i = 3 \/ i = 4 \/ i = 5 \/ i = 6 \/ i = 7 \/ i = 8 \/ i = 9 \/ i = 10 := by omega
theorem ltc12 {i : Nat} (h : i < 12) : i = 0 \/ i = 1 \/ i = 2 \/ i = 3 \/ i = 4 \/ i = 5 \/ i = 6 \/ i = 7 \/ i = 8 \/ i = 9 \/ i = 10 \/ i = 11 := by omega
theorem ltc13 {i : Nat} (h : i < 13) : i = 0 \/ i = 1 \/ i = 2 \/ i = 3 \/ i = 4 \/ i = 5 \/ i = 6 \/ i = 7 \/ i = 8 \/ i = 9 \/ i = 10 \/ i = 11 \/ i = 12 := by omega
theorem ltc14 {i : Nat} (h : i < 14) : i = 0 \/ i = 1 \/ i = 2 \/ i = 3 \/ i = 4 \/ i = 5 \/ i = 6 \/ i = 7 \/ i = 8 \/ i = 9 \/ i = 10 \/ i = 11 \/ i = 12 \/ i = 13 := by omega
theorem ltc15 {i : Nat} (h : i < 15) : i = 0 \/ i = 1 \/ i = 2 \/ i = 3 \/ i = 4 \/ i = 5 \/ i = 6 \/ i = 7 \/ i = 8 \/ i = 9 \/ i = 10 \/ i = 11 \/ i = 12 \/ i = 13 \/ i = 14 := by omega
theorem ltc18 {i : Nat} (h : i < 18) : i = 0 \/ i = 1 \/ i = 2 \/ i = 3 \/ i = 4 \/ i = 5 \/ i = 6 \/ i = 7 \/ i = 8 \/ i = 9 \/ i = 10 \/ i = 11 \/ i = 12 \/ i = 13 \/ i = 14 \/ i = 15 \/ i = 16 \/ i = 17 := by omega
theorem ltc19 {i : Nat} (h : i < 19) : i = 0 \/ i = 1 \/ i = 2 \/ i = 3 \/ i = 4 \/ i = 5 \/ i = 6 \/ i = 7 \/ i = 8 \/ i = 9 \/ i = 10 \/ i = 11 \/ i = 12 \/ i = 13 \/ i = 14 \/ i = 15 \/ i = 16 \/ i = 17 \/ i = 18 := by omega
theorem ltc23 {i : Nat} (h : i < 23) : i = 0 \/ i = 1 \/ i = 2 \/ i = 3 \/ i = 4 \/ i = 5 \/ i = 6 \/ i = 7 \/ i = 8 \/ i = 9 \/ i = 10 \/ i = 11 \/ i = 12 \/ i = 13 \/ i = 14 \/ i = 15 \/ i = 16 \/ i = 17 \/ i = 18 \/ i = 19 \/ i = 20 \/ i = 21 \/ i = 22 := by omega
theorem ltc25 {i : Nat} (h : i < 25) : i = 0 \/ i = 1 \/ i = 2 \/ i = 3 \/ i = 4 \/ i = 5 \/ i = 6 \/ i = 7 \/ i = 8 \/ i = 9 \/ i = 10 \/ i = 11 \/ i = 12 \/ i = 13 \/ i = 14 \/ i = 15 \/ i = 16 \/ i = 17 \/ i = 18 \/ i = 19 \/ i = 20 \/ i = 21 \/ i = 22 \/ i = 23 \/ i = 24 := by omega
theorem ltc28 {i : Nat} (h : i < 28) : i = 0 \/ i = 1 \/ i = 2 \/ i = 3 \/ i = 4 \/ i = 5 \/ i = 6 \/ i = 7 \/ i = 8 \/ i = 9 \/ i = 10 \/ i = 11 \/ i = 12 \/ i = 13 \/ i = 14 \/ i = 15 \/ i = 16 \/ i = 17 \/ i = 18 \/ i = 19 \/ i = 20 \/ i = 21 \/ i = 22 \/ i = 23 \/ i = 24 \/ i = 25 \/ i = 26 \/ i = 27 := by omega
instance : Coe Int Value := ⟨fun n => .int .i64 n⟩
def aj (p:Prop):Prop:=p
theorem aj.out {p:Prop} (h:aj p):p:=h
theorem aj.o {p:Prop} (h:aj p):p:=h
theorem ai {p:Prop} (h:p):aj p:=h
theorem ag (p:Prop) [Decidable p] (h:p:=by omega):decide p=true:=decide_eq_true h
theorem ah (p:Prop) [Decidable p] (h:¬p:=by omega):decide p=false:=decide_eq_false h
abbrev aD:=@List.getElem_mem
abbrev aF:=@Bool.and_eq_true
abbrev aG:=@List.mem_singleton
abbrev aH:=@decide_eq_true_eq
abbrev aI:=@heap_setCell_same
abbrev aJ:=@List.findIdx?_eq_some_iff_getElem
abbrev aK:=@List.mem_append_left
abbrev aL:=@List.mem_append_right
abbrev aN:=@List.mem_append
abbrev aO:=@List.take_succ_eq_append_getElem
abbrev aP:=@List.all_eq_true
abbrev aQ:=@Array.getElem?_eq_some_iff
abbrev aR:=@List.eq_nil_of_length_eq_zero
abbrev aS:=@List.take_of_length_le
abbrev aT:=@List.getElem?_eq_getElem
abbrev aU:=@Nat.le_refl
abbrev aV:=@Nat.le_trans
abbrev aW:=@List.mem_iff_getElem
abbrev aX:=@List.foldl_cons
abbrev aY:=@Array.getElem?_eq_getElem
abbrev aZ:=@List.mem_cons_of_mem
abbrev bg:=@List.length_append
abbrev bh:=@List.findIdx?_eq_none_iff
abbrev bz:=@List.mem_cons
abbrev bA:=@List.getElem_of_mem
abbrev bB:=@List.getElem_cons_zero
abbrev bC:=@List.not_mem_nil
abbrev bD:=@List.getElem_append_left
abbrev bF:=@Nat.lt_of_lt_of_le
abbrev bG:=@Bool.or_eq_true
abbrev bH:=@Bool.eq_iff_iff
abbrev bI:=@decide_eq_false_iff_not
abbrev bJ:=@Nat.lt_or_ge
abbrev bK:=@List.getElem_append_right
abbrev bL:=@if_neg
abbrev bM:=@if_pos
abbrev bN:=@List.foldl_nil
abbrev bO:=@decide_eq_true
abbrev bP:=@decide_eq_false
abbrev aoX:=@Or.inl
abbrev a4Z:=@Or.inr
abbrev a40:=@absurd
abbrev a42:=@Option.some.injEq
abbrev a43:=@List.mem_range
abbrev a45:=@Value.slice.injEq
abbrev a47:=@beq_iff_eq
abbrev a48:=@List.cons_append
abbrev a4':=@World.ownsRow_nil
abbrev a5a:=@bodyPost_ret
abbrev a5b:=@Value.agg.injEq
abbrev a5c:=@List.cons.injEq
abbrev a5d:=@Array.mk.injEq
def Ext (w w':World):Prop:=Below w.heap.size w w'
theorem Ext.refl (w:World):Ext w w:=Below.refl _ _
abbrev Tz:=@Ext.refl
theorem Ext.trans {a b c:World} (h:Ext a b) (k:Ext b c):Ext a c:=Below.trans h (Below.mono k h.size)
theorem Ext.alloc {a w:World} (h:Ext a w) (o:Obj):Ext a (w.alloc o):=Below.alloc h h.size o
theorem Ext.drew {a w:World} (h:Ext a w):Ext a w.drew:=Below.drew h
theorem Ext.size {a w:World} (h:Ext a w):a.heap.size<=w.heap.size:=Below.size h
theorem Ext.cell {w w':World} (h:Ext w w') {p:Addr} {v:Value} (hp:w.cell? p=some v):w'.cell? p=some v:=by
 have hb:p.block<w.heap.size:=by
  unfold World.cell? at hp;by_cases hlt:p.block<w.heap.size
  ·exact hlt
  rw[Array.getElem?_eq_none (by omega)] at hp;cases hp
 rw[Below.cell h hb];exact hp
theorem Ext.frozen {w w':World} (h:Ext w w') {p:Addr} {v:Value} (hp:w.cell? p=some v):w'.frozen? p=w.frozen? p:=by
 have hb:p.block<w.heap.size:=by
  unfold World.cell? at hp;by_cases hlt:p.block<w.heap.size
  ·exact hlt
  rw[Array.getElem?_eq_none (by omega)] at hp;cases hp
 rw[Below.frozen h hb]
def Sub (s w:World):Prop:=∀p v,s.cell? p=some v->w.cell? p=some v
theorem Sub.trans {a b c:World} (h:Sub a b) (k:Sub b c):Sub a c:=fun p v hp=>k p v (h p v hp)
theorem Ext.sub {w w':World} (h:Ext w w'):Sub w w':=fun _ _ hp=>h.cell hp
theorem toList_inj {a b:BA} (h:a.toList=b.toList):a=b:=by
 rw[ByteArray.toList_eq,ByteArray.toList_eq] at h;exact ByteArray.ext (Array.toList_inj.1 h)
theorem JN (a b:BA):(a.toList==b.toList)=decide (a=b):=by
 rw[bH];simp only[a47,aH];exact⟨toList_inj,fun h=>by rw[h]⟩
instance aVZ (x:BA) (l:ZB):Decidable (x∈l):=decidable_of_iff (l.any (fun y=>decide (y=x))=true) (by simp)
inductive Ex where
 | mk (op:Int) (name:BA) (words:ZB) (lo hi:Int) (args:List Ex)
def ny (a:OA) (c:Nat):Prop:=(c=0/\c=0)\/∃b off,a=some ⟨b,off,none⟩
def fS (w:World) (l:ZB) (a:OA) (n c:Nat):Prop :=
 n=l.length/\n<=c/\ny a c/\∀i (h:i<l.length),∃b off,a=some ⟨b,off,none⟩/\w.cell? ⟨b,off+i,none⟩=some (.string l[i])
theorem fS.mono {w w':World} {l:ZB} {a:OA} {n c:Nat} (h:fS w l a n c) (he:Sub w w'):fS w' l a n c :=
 ⟨h.1,h.2.1,h.2.2.1,fun i hi=>by obtain⟨b,off,h1,h2⟩:=h.2.2.2 i hi;exact⟨b,off,h1,he _ _ h2⟩⟩
theorem fS.ext {w w':World} {l:ZB} {a:OA} {n c:Nat} (h:fS w l a n c) (he:Ext w w'):fS w' l a n c:=h.mono he.sub
mutual
def ExD (w:World):Ex->OA->Nat->Nat->OA->Nat->Nat->Prop
 | .mk _ _ words _ _ args,aw,nw,cw,aa,na,ca=>fS w words aw nw cw/\na=args.length/\na<=ca/\ny aa ca/\eU w args aa
def eU (w:World):List Ex->OA->Prop
 | [],_=>True
 | .mk op name words lo hi args::r,a=>∃b off,a=some ⟨b,off,none⟩/\(∃aw nw cw aa na ca,w.cell? ⟨b,off,none⟩=some (.int .i64 op)/\w.cell? ⟨b,off+1,none⟩=some (.string name)/\w.cell? ⟨b,off+2,none⟩=some (.slice aw nw cw) /\
   w.cell? ⟨b,off+3,none⟩=some (.int .i64 lo)/\w.cell? ⟨b,off+4,none⟩=some (.int .i64 hi)/\w.cell? ⟨b,off+5,none⟩=some (.slice aa na ca) /\
   fS w words aw nw cw/\na=args.length/\na<=ca/\ny aa ca/\eU w args aa)/\eU w r (some ⟨b,off+6,none⟩)
end
mutual
theorem ExD.mono {w w':World} (he:Sub w w'):(e:Ex)->(aw:OA)->(nw cw:Nat)->(aa:OA)->(na ca:Nat)->ExD w e aw nw cw aa na ca->ExD w' e aw nw cw aa na ca
 | .mk op name words lo hi args,aw,nw,cw,aa,na,ca,h=>by
  unfold ExD at h ⊢;obtain⟨h1,h2,h3,h4,h5⟩:=h;exact⟨h1.mono he,h2,h3,h4,eU.mono he args aa h5⟩
theorem eU.mono {w w':World} (he:Sub w w'):(l:List Ex)->(a:OA)->eU w l a->eU w' l a
 | [],_,_=>by unfold eU;trivial
 | .mk op name words lo hi args::r,a,h=>by
  unfold eU at h ⊢;obtain⟨b,off,rfl,⟨aw,nw,cw,aa,na,ca,h0,h1,h2,h3,h4,h5,h6,h7,h8,h9,h10⟩,hr⟩:=h;exact⟨b,off,rfl,⟨aw,nw,cw,aa,na,ca,he _ _ h0,he _ _ h1,he _ _ h2,he _ _ h3,he _ _ h4,he _ _ h5,h6.mono he,h7,h8,h9,eU.mono he args aa h10⟩,eU.mono he r _ hr⟩
end
theorem eU.ext {w w':World} (he:Ext w w') (l:List Ex) (a:OA) (h:eU w l a):eU w' l a:=eU.mono he.sub l a h
def Ex.op:Ex->Int|.mk op _ _ _ _ _=>op
def Ex.name:Ex->BA|.mk _ name _ _ _ _=>name
def Ex.words:Ex->ZB|.mk _ _ words _ _ _=>words
def Ex.lo:Ex->Int|.mk _ _ _ lo _ _=>lo
def Ex.hi:Ex->Int|.mk _ _ _ _ hi _=>hi
def Ex.args:Ex->List Ex|.mk _ _ _ _ _ args=>args
def fN (op:Int) (name:BA) (aw:OA) (nw cw:Nat) (lo hi:Int) (aa:OA) (na ca:Nat):Value :=
 .agg #[.int .i64 op,.string name,.slice aw nw cw,.int .i64 lo,.int .i64 hi,.slice aa na ca]
def dw (w:World) (e:Ex) (v:Value):Prop:=∃aw nw cw aa na ca,v=fN e.op e.name aw nw cw e.lo e.hi aa na ca/\ExD w e aw nw cw aa na ca
theorem dw.mono {w w':World} {e:Ex} {v:Value} (h:dw w e v) (he:Sub w w'):dw w' e v:=by
 obtain⟨aw,nw,cw,aa,na,ca,h1,h2⟩:=h;exact⟨aw,nw,cw,aa,na,ca,h1,ExD.mono he _ _ _ _ _ _ _ h2⟩
theorem dw.ext {w w':World} {e:Ex} {v:Value} (h:dw w e v) (he:Ext w w'):dw w' e v:=h.mono he.sub
theorem dw.parts {w:World} {e:Ex} {v:Value} (h:dw w e v):∃aw nw cw aa na ca,v=fN e.op e.name aw nw cw e.lo e.hi aa na ca/\fS w e.words aw nw cw /\
  na=e.args.length/\na<=ca/\ny aa ca/\eU w e.args aa:=by
 obtain⟨op,name,words,lo,hi,args⟩:=e;obtain⟨aw,nw,cw,aa,na,ca,h1,h2⟩:=h;unfold ExD at h2;exact⟨aw,nw,cw,aa,na,ca,h1,h2⟩
theorem dw.mk {w:World} {op lo hi:Int} {name:BA} {words:ZB} {args:List Ex} {aw:OA} {nw cw:Nat} {aa:OA} {na ca:Nat}
  (h1:fS w words aw nw cw) (h2:na=args.length) (h3:na<=ca) (h4:ny aa ca) (h5:eU w args aa):dw w (.mk op name words lo hi args) (fN op name aw nw cw lo hi aa na ca) :=
 ⟨aw,nw,cw,aa,na,ca,rfl,by unfold ExD;exact⟨h1,h2,h3,h4,h5⟩⟩
theorem eU.at {w:World}:(l:List Ex)->(a:OA)->eU w l a->(k:Nat)->(hk:k<l.length) ->
  ∃b off,a=some ⟨b,off,none⟩/\∃aw nw cw aa na ca,w.cell? ⟨b,off+k*6,none⟩=some (.int .i64 l[k].op)/\w.cell? ⟨b,off+k*6+1,none⟩=some (.string l[k].name)/\w.cell? ⟨b,off+k*6+2,none⟩=some (.slice aw nw cw) /\
   w.cell? ⟨b,off+k*6+3,none⟩=some (.int .i64 l[k].lo)/\w.cell? ⟨b,off+k*6+4,none⟩=some (.int .i64 l[k].hi)/\w.cell? ⟨b,off+k*6+5,none⟩=some (.slice aa na ca) /\
   dw w l[k] (fN l[k].op l[k].name aw nw cw l[k].lo l[k].hi aa na ca)
 | [],_,_,k,hk=>by simp at hk
 | .mk op name words lo hi args::r,a,h,0,_=>by
  unfold eU at h;obtain⟨b,off,rfl,⟨aw,nw,cw,aa,na,ca,h0,h1,h2,h3,h4,h5,h6,h7,h8,h9,h10⟩,hr⟩:=h;refine⟨b,off,rfl,aw,nw,cw,aa,na,ca,?_⟩;simp only[Nat.zero_mul,Nat.add_zero];exact⟨h0,h1,h2,h3,h4,h5,dw.mk h6 h7 h8 h9 h10⟩
 | .mk op name words lo hi args::r,a,h,k+1,hk=>by
  unfold eU at h;obtain⟨b,off,rfl,_,hr⟩:=h;obtain⟨b',off',e1,rest⟩:=eU.at r _ hr k (by simpa using hk);simp at e1;obtain⟨rfl,rfl⟩:=e1;have e1:off+6+k*6=off+(k+1)*6:=by omega
  rw[e1] at rest;exact⟨b,off,rfl,by simpa using rest⟩
mutual
def Ex.size:Ex->Nat
 | .mk _ _ _ _ _ args=>1+sizes args
def sizes:List Ex->Nat
 | []=>0
 | e::r=>e.size+sizes r
end
theorem eD:(l:List Ex)->(k:Nat)->(hk:k<l.length)->sizes (l.take (k+1))=sizes (l.take k)+l[k].size
 | [],k,hk=>by simp at hk
 | e::r,0,_=>by simp[sizes]
 | e::r,k+1,hk=>by
  have:=eD r k (by simpa using hk);simp[sizes] at this ⊢;omega
theorem dX:(l:List Ex)->(k:Nat)->sizes (l.take k)<=sizes l
 | [],k=>by simp[sizes]
 | e::r,0=>by simp[sizes]
 | e::r,k+1=>by
  have:=dX r k;simp[sizes];omega
theorem eR:(l:List Ex)->l.length<=sizes l
 | []=>by simp
 | .mk _ _ _ _ _ _::r=>by
  have:=eR r;simp[sizes,Ex.size];omega
def jX (c:Int):Bool:=decide (97<=c/\c<=122)
def gP (c:Int):Bool:=decide (48<=c/\c<=57)
def gm (c:Int):Bool:=jX c||gP c||(c==45)
def pg (v:Value) (w:World) (e:Ending) (w':World):Prop:=e=.returned v/\w=w'
theorem fU {a b:Bool} {w:World} (h:a=b):pg (.bool b) w (.returned (.bool a)) w:=by subst h;exact⟨rfl,rfl⟩
theorem sZ {k:IntKind} {a b:Int} {w:World} (h:a=b):pg (.int k b) w (.returned (.int k a)) w:=by subst h;exact⟨rfl,rfl⟩
def cz (v:Value) (w:World) (e:Ending) (w':World):Prop:=e=.returned v/\Ext w w'
theorem bW {a b:Bool} {w w':World} (h:a=b) (hx:Ext w w'):cz (.bool b) w (.returned (.bool a)) w':=by subst h;exact⟨rfl,hx⟩
theorem Qj {k:IntKind} {a b:Int} {w w':World} (h:a=b) (hx:Ext w w'):cz (.int k b) w (.returned (.int k a)) w':=by subst h;exact⟨rfl,hx⟩
theorem m9 (c:Int) (w:World):Calls Tryz.prog 162 #[.int .u8 c] w (pg (.bool (jX c)) w):=by
 go_enter Tryz.func162,Tryz.ntmps162
 go_wp2_with fail
 all_goals (go_ret;exact fU (by simp[jX];omega))
theorem zW (c:Int) (w:World):Calls Tryz.prog 179 #[.int .u8 c] w (pg (.bool (gP c)) w):=by
 go_enter Tryz.func179,Tryz.ntmps179
 go_wp2_with fail
 all_goals (go_ret;exact fU (by simp[gP];omega))
theorem ZS (c:Int) (w:World):Calls Tryz.prog 164 #[.int .u8 c] w (pg (.bool (gm c)) w):=by
 go_enter Tryz.func164,Tryz.ntmps164
 go_wp2_with (first
  | (go_at_call 162;refine(m9 _ _).mono ?_;rintro e w' ⟨rfl,rfl⟩)
  | (go_at_call 179;refine(zW _ _).mono ?_;rintro e w' ⟨rfl,rfl⟩))
 all_goals (go_ret;exact fU (by simp_all [gm]))
def Kind (f:FuncId) (p:Int->Bool):Prop:=∀(c:Int) (w:World),Calls Tryz.prog f #[.int .u8 c] w (pg (.bool (p c)) w)
def ki (p:Int->Bool) (s:BA):Nat->Nat->Nat
 | 0,i=>i
 | n+1,i=>if h:i<s.size then (if p (s[i].toNat:Int) then ki p s n (i+1) else i) else i
theorem zB {p:Int->Bool} {s:BA} {k:Nat} (h:k<s.size) (hp:p (s[k].toNat:Int)=true):ki p s (s.size - k) k=ki p s (s.size - (k+1)) (k+1):=by
 obtain⟨n,hn⟩:∃n,s.size - k=n+1:=⟨s.size - k - 1,by omega⟩
 rw[hn,show s.size - (k+1)=n by omega,ki,dif_pos h,bM hp]
theorem JS {p:Int->Bool} {s:BA} {k:Nat} (h:k<s.size) (hp:p (s[k].toNat:Int)=false):ki p s (s.size - k) k=k:=by
 obtain⟨n,hn⟩:∃n,s.size - k=n+1:=⟨s.size - k - 1,by omega⟩
 rw[hn,ki,dif_pos h,bL (by simp[hp])]
theorem Nx {p:Int->Bool} {s:BA} {k:Nat} (h:¬k<s.size):ki p s (s.size - k) k=k:=by
 rw[show s.size - k=0 by omega,ki]
theorem O8 (f:FuncId) (p:Int->Bool) (hf:Kind f p) (s:BA) (i:Nat) (w:World) (hs:s.size<=1000000000000000)
  (hc:∀(c:Int) (w:World),Sem.run Tryz.prog (callFunc f #[.int .u8 c]) w=.ok (.enter f #[.int .u8 c]) w) :
  Calls Tryz.prog 163 #[.string s,.int .i64 i,.func (.func f) #[] #[]] w (pg (.int .i64 (ki p s (s.size - i) i)) w):=by
 have HF:=ai hf;clear hf;go_enter Tryz.func163,Tryz.ntmps163
 go_wp2_with fail
 go_loop [1] (fun t=>∃k:Nat,t=.int .i64 k/\ki p s (s.size - k) k=ki p s (s.size - i) i) (fun t=>s.size - (intOf t).toNat)
 case atStart=>exact⟨i,rfl,rfl⟩
 case round =>
  obtain⟨k,rfl,hk⟩:=hrel;have HK:=ai hk;clear hk;by_cases hlt:k<s.size
  ·cases hp:p (s[k].toNat:Int)
   ·have HP:=ai hp;clear hp;go_wp2_with fail;refine(HF.o _ _).mono ?_;rintro e w' ⟨rfl,rfl⟩;rw[HP.o];go_wp2_with fail;go_ret;exact sZ (by rw[<-HK.o,JS hlt HP.o])
   have HP:=ai hp;clear hp;go_wp2_with fail;refine(HF.o _ _).mono ?_;rintro e w' ⟨rfl,rfl⟩;rw[HP.o];go_wp2_with fail
   go_round
   case rel=>exact⟨k+1,by go_num,by rw[<-HK.o,zB hlt HP.o]⟩
   case measure=>simp[intOf];omega
  go_wp2_with fail;go_ret;exact sZ (by rw[<-HK.o,Nx hlt])
theorem aar (c:Int) (w:World):Sem.run Tryz.prog (callFunc 164 #[.int .u8 c]) w=.ok (.enter 164 #[.int .u8 c]) w:=by kernel_rfl
def MG:List (List UInt8):=[[97,110,100],[97,118,101,114,97,103,101],[99,111,105,110,115,117,114,97,110,99,101],[99,111,110,100,105,116,105,111,110],[99,111,118,101,114],[100,101,100,117,99,116,105,98,108,101],[100,101,102,105,110,101],[101,110,100],[101,110,100,111,114,115,101],[101,120,99,108,117,100,101],[102,97,108,115,101],[102,114,97,110,99,104,105,115,101],[102,114,111,109],[105,110],[108,105,109,105,116],[110,111,116],[111,114],[114,101,109,111,118,101],[115,117,98,108,105,109,105,116],[116,111],[116,114,117,101],[117,110,108,101,115,115],[119,104,101,110]]
def NF (s:BA):Bool:=MG.any fun x=>s.toList==x
theorem afp (s:BA) (w:World):Calls Tryz.prog 134 #[.string s] w (pg (.bool (NF s)) w):=by
 go_enter Tryz.func134,Tryz.ntmps134
 go_wp2_with fail
 all_goals (go_ret;exact fU (by simp_all [NF,MG]))
def jo (s:BA) (i:Nat):Int:=if h:i<s.size then (s[i].toNat:Int) else 0
theorem lp {s:BA} {i:Nat} (h:i<s.size):jo s i=(s[i].toNat:Int):=by simp[jo,h]
def kM (s:BA):Bool:=s.size != 0&&decide (s.size<=16)&&jX (jo s 0)&&(jo s (s.size - 1) != 45)&&ki gm s s.size 0==s.size
theorem OZ (s:BA) (w:World) (hs:s.size<=1000000000000000):Calls Tryz.prog 133 #[.string s] w (pg (.bool (kM s)) w):=by
 by_cases h0:s.size=0
 ·have H:=ai (show kM s=false by simp[kM,h0]);have hz:((s.size:Int)==0)=true:=by simp[h0]
  clear h0;go_enter Tryz.func133,Tryz.ntmps133
  go_wp2_with fail;go_ret;exact fU (by rw[H.o])
 have hz:((s.size:Int)==0)=false:=by simp[h0]
 by_cases h1:s.size<=16
 ·have hb0:=lp (show 0<s.size by omega);have hb1:=lp (show s.size - 1<s.size by omega);cases h2:jX (s[0]'(by omega)).toNat
  ·have H:=ai (show kM s=false by simp[kM,hb0,h2]);have H2:=ai h2;clear h2 hb0 hb1;go_enter Tryz.func133,Tryz.ntmps133
   go_wp2_with fail;refine(m9 _ _).mono ?_;rintro e w' ⟨rfl,rfl⟩;rw[H2.o];go_wp2_with fail;go_ret;exact fU (by rw[H.o])
  have H2:=ai h2;have iO:=ai hb0;have gG:=ai hb1;clear h2 hb0 hb1;cases h3:((s[s.size - 1]'(by omega)).toNat:Int)==45
  ·have H:=ai (show kM s=(ki gm s s.size 0==s.size) by simp[kM,iO.o,gG.o,H2.o,h1,h0];intro h;simp at h3;omega);have e1:((s.size:Int) - 1).toNat=s.size - 1:=by omega
   go_enter Tryz.func133,Tryz.ntmps133
   go_wp2_with fail;refine(m9 _ _).mono ?_;rintro e w' ⟨rfl,rfl⟩;rw[H2.o];go_wp2_with fail;refine(O8 _ gm ZS s 0 _ hs aar).mono ?_;rintro e w' ⟨rfl,rfl⟩;go_wp2_with fail;go_ret;refine fU ?_;rw[H.o];rw[bH,a47,a47]
   show ((ki gm s (s.size - 0) 0:Nat):Int)=(s.size:Int) ↔ _
   simp only[Nat.sub_zero];omega
  have H:=ai (show kM s=false by simp[kM,iO.o,gG.o,H2.o,h1,h0];intro h;simp at h3;omega);have e1:((s.size:Int) - 1).toNat=s.size - 1:=by omega
  go_enter Tryz.func133,Tryz.ntmps133
  go_wp2_with fail;refine(m9 _ _).mono ?_;rintro e w' ⟨rfl,rfl⟩;rw[H2.o];go_wp2_with fail;go_ret;exact fU (by rw[H.o])
 have H:=ai (show kM s=false by simp[kM];omega);go_enter Tryz.func133,Tryz.ntmps133
 go_wp2_with fail;go_ret;exact fU (by rw[H.o])
def gJ (s:BA):Bool:=kM s&&!NF s
theorem rN (s:BA) (w:World) (hs:s.size<=1000000000000000):Calls Tryz.prog 103 #[.string s] w (pg (.bool (gJ s)) w):=by
 go_enter Tryz.func103,Tryz.ntmps103
 go_wp2_with (first
  | (go_at_call 133;refine(OZ _ _ hs).mono ?_;rintro e w' ⟨rfl,rfl⟩)
  | (go_at_call 134;refine(afp _ _).mono ?_;rintro e w' ⟨rfl,rfl⟩))
 all_goals (go_ret;exact fU (by simp_all [gJ]))
def iM (n:Int):Bool:=decide (-1000000000<=n/\n<=1000000000)
theorem I7 (n:Int) (w:World):Calls Tryz.prog 189 #[.int .i64 n] w (pg (.bool (iM n)) w):=by
 go_enter Tryz.func189,Tryz.ntmps189
 go_wp2_with fail
 all_goals (go_ret;exact fU (by simp[iM];omega))
def Xy (l:ZB) (x:BA):Int:=match l.findIdx? (fun y=>decide (y=x)) with|some i=>i|none => -1
theorem ay8 {l:ZB} {x:BA} {k:Nat} (hk:k<l.length) (h1:∀j (hj:j<l.length),j<k->l[j]≠x) (h2:l[k]=x):Xy l x=k:=by
 unfold Xy;have:l.findIdx? (fun y=>decide (y=x))=some k:=by
  rw[aJ];exact⟨hk,by simp[h2],fun j hj=>by simpa using h1 j (by omega) hj⟩
 rw[this]
theorem aqV {l:ZB} {x:BA} (h1:∀j (hj:j<l.length),l[j]≠x):Xy l x = -1:=by
 unfold Xy;have:l.findIdx? (fun y=>decide (y=x))=none:=by
  rw[bh];intro y hy;obtain⟨j,hj,rfl⟩:=bA hy;simpa using h1 j hj
 rw[this]
theorem ai0 {l:ZB} {x:BA}:(0<=Xy l x) ↔ x∈l:=by
 unfold Xy;cases h:l.findIdx? (fun y=>decide (y=x)) with
 | none =>
  rw[bh] at h;constructor
  ·intro h';simp at h'
  intro h';have:=h x h';simp at this
 | some i =>
  rw[aJ] at h;obtain⟨hi,h2,_⟩:=h;constructor
  ·intro _;simp at h2;rw[<-h2];exact aD hi
  intro _;simp
theorem aqU (l:ZB) (x:BA) (a:OA) (n c:Nat) (w:World) (hn:n<=1000000000000000) (hl:fS w l a n c) :
  Calls Tryz.prog 180 #[.slice a n c,.string x] w (pg (.int .i64 (Xy l x)) w):=by
 have HL:=ai hl;clear hl;go_enter Tryz.func180,Tryz.ntmps180
 go_wp2_with fail
 go_loop [8] (fun t=>∃k:Nat,t=.int .i64 k/\k<=n/\∀j (hj:j<l.length),j<k->l[j]≠x) (fun t=>n - (intOf t).toNat)
 case atStart=>exact⟨0,rfl,by omega,fun _ _ h=>by omega⟩
 case round =>
  obtain⟨k,rfl,hk,hne⟩:=hrel;have HE:=ai hne;clear hne;by_cases hlt:k<n
  ·have hlt':k<l.length:=by have:=HL.o.1;omega
   obtain⟨b,off,rfl,hcell⟩:=HL.o.2.2.2 k hlt';cases hx:(x.toList==l[k].toList)
   ·go_wp2_with fail
    go_round
    case rel =>
     refine⟨k+1,by go_num,by omega,?_⟩;intro j hj hj2;by_cases hjk:j<k
     ·exact HE.o j hj hjk
     obtain rfl:j=k:=by omega
     intro h;subst h;simp at hx
    case measure=>simp[intOf];omega
   go_wp2_with fail;go_ret;exact sZ (by rw[ay8 hlt' HE.o (toList_inj (a47.1 hx)).symm])
  go_wp2_with fail;go_ret;exact sZ (by rw[aqV (fun j hj=>HE.o j hj (by have:=HL.o.1;omega))])
theorem pQ (l:ZB) (x:BA) (a:OA) (n c:Nat) (w:World) (hn:n<=1000000000000000) (hl:fS w l a n c) :
  Calls Tryz.prog 165 #[.slice a n c,.string x] w (pg (.bool (decide (x∈l))) w):=by
 have HL:=ai hl;clear hl;go_enter Tryz.func165,Tryz.ntmps165
 go_wp2_with (go_at_call 180;refine(aqU l _ _ _ _ _ hn HL.o).mono ?_;rintro e w' ⟨rfl,rfl⟩);go_ret;exact fU (by rw[bH];simp[ai0])
theorem fS.take {w:World} {l:ZB} {a:OA} {n c:Nat} (h:fS w l a n c) {k:Nat} (hk:k<=n):fS w (l.take k) a k c:=by
 obtain⟨h1,h2,h3,h4⟩:=h;refine⟨by simp;omega,by omega,h3,fun i hi=>?_⟩;have:i<l.length:=by simp at hi;omega
 obtain⟨b,off,e1,e2⟩:=h4 i this;exact⟨b,off,e1,by simpa using e2⟩
def qg (l:ZB):Bool:=l.length != 0&&decide (l.length<=12)&&(l.all gJ)&&decide l.Nodup
def Ue (l:ZB) (k:Nat):Prop:=(∀x∈l.take k,gJ x=true)/\(l.take k).Nodup
theorem Ue.next {l:ZB} {k:Nat} (h:Ue l k) (hk:k<l.length) (h1:gJ l[k]=true) (h2:l[k]∉l.take k):Ue l (k+1):=by
 unfold Ue at *;rw[aO hk];refine⟨fun x hx=>?_,?_⟩
 ·rcases aN.1 hx with hx|hx
  ·exact h.1 x hx
  simp at hx;subst hx;exact h1
 rw[List.nodup_append];exact⟨h.2,by simp,fun a ha b hb=>by simp at hb;subst hb;intro e;subst e;exact h2 ha⟩
theorem axK {l:ZB} (h:Ue l l.length) (h0:l.length≠0) (h1:l.length<=12):qg l=true:=by
 unfold Ue at h;simp at h;simp[qg,h0,h1,h.2];exact h.1
theorem ajL {l:ZB} {k:Nat} (hk:k<l.length) (h:gJ l[k]=false\/l[k]∈l.take k):qg l=false:=by
 cases hb:qg l
 ·rfl
 simp[qg] at hb;obtain⟨⟨_,h3⟩,h4⟩:=hb;rcases h with h|h
 ·rw[h3 _ (aD hk)] at h;cases h
 have:(l.take (k+1)).Nodup:=h4.sublist (List.take_sublist _ _);rw[aO hk,List.nodup_append] at this;exact a40 rfl (this.2.2 _ h _ (by simp))
theorem aoJ (l:ZB) (a:OA) (n c:Nat) (w:World) (hl:fS w l a n c) (hsz:∀x∈l,x.size<=1000000000000000) :
  Calls Tryz.prog 188 #[.slice a n c] w (pg (.bool (qg l)) w):=by
 have HL:=ai hl;have HZ:=ai hsz;have hnc:=hl.2.1;have hnl:=ai hl.1;clear hl hsz;by_cases h0:n=0
 ·have H:=ai (show qg l=false by
   have hl0:l.length=0:=by have:=hnl.out;omega
   simp[qg,hl0])
  have hz:((n:Int)==0)=true:=by simp[h0]
  clear h0;go_enter Tryz.func188,Tryz.ntmps188
  go_wp2_with fail;go_ret;exact fU (by rw[H.o])
 have hz:((n:Int)==0)=false:=by simp[h0]
 by_cases h1:n<=12
 ·have h12:decide ((12:Int)<n)=false:=by simp;omega
  go_enter Tryz.func188,Tryz.ntmps188
  go_wp2_with fail
  go_loop [15] (fun t=>∃k:Nat,t=.int .i64 k/\k<=n/\Ue l k) (fun t=>n - (intOf t).toNat)
  case atStart=>exact⟨0,rfl,by omega,by simp[Ue]⟩
  case round =>
   obtain⟨k,rfl,hk,hlo⟩:=hrel;have HO:=ai hlo;clear hlo;by_cases hlt:k<n
   ·have hlt':k<l.length:=by have:=hnl.out;omega
    have hsk:=HZ.o _ (aD hlt');have HT:=ai (HL.o.take hk);obtain⟨b,off,rfl,hcell⟩:=HL.o.2.2.2 k hlt';cases h3:gJ l[k]
    ·have H:=ai (ajL hlt' (aoX h3));have H3:=ai h3;clear h3;go_wp2_with fail;refine(rN _ _ hsk).mono ?_;rintro e w' ⟨rfl,rfl⟩;rw[H3.o];go_wp2_with fail;go_ret;exact fU (by rw[H.o])
    have H3:=ai h3;clear h3;by_cases h4:l[k]∈l.take k
    ·have H:=ai (ajL hlt' (a4Z h4));have H4:=ai h4;clear h4;go_wp2_with fail;refine(rN _ _ hsk).mono ?_;rintro e w' ⟨rfl,rfl⟩;rw[H3.o];go_wp2_with fail;refine(pQ _ _ _ _ _ _ (by omega) HT.o).mono ?_;rintro e w' ⟨rfl,rfl⟩;rw[bO H4.o];go_wp2_with fail;go_ret;exact fU (by rw[H.o])
    have H4:=ai h4;clear h4;go_wp2_with fail;refine(rN _ _ hsk).mono ?_;rintro e w' ⟨rfl,rfl⟩;rw[H3.o];go_wp2_with fail;refine(pQ _ _ _ _ _ _ (by omega) HT.o).mono ?_;rintro e w' ⟨rfl,rfl⟩;rw[bP H4.o];go_wp2_with fail
    go_round
    case rel=>exact⟨k+1,by go_num,by omega,HO.o.next hlt' H3.o H4.o⟩
    case measure=>simp[intOf];omega
   go_wp2_with fail;go_ret;exact fU (by
    have e1:=hnl.out;obtain rfl:k=l.length:=by omega
    rw[axK HO.o (by omega) (by omega)])
 have H:=ai (show qg l=false by
  have hl0:¬l.length<=12:=by have:=hnl.out;omega
  simp[qg,hl0])
 go_enter Tryz.func188,Tryz.ntmps188
 go_wp2_with fail;go_ret;exact fU (by rw[H.o])
def lI (k:Nat):BA:=⟨(([[],[116,114,117,101],[102,97,108,115,101],[],[105,110],[102,114,111,109],[110,111,116],[97,110,100],[111,114]]:List (List UInt8)).getD k []).toArray⟩
def oy (k:Nat):Bool:=[false,false,false,true,true,true,false,false,false].getD k false
def m8 (k:Nat):Int:=[0,0,0,0,0,0,1,2,2].getD k 0
def qJ (k:Nat):Int:=[0,0,0,0,0,0,1,300,300].getD k 0
def oz (k:Nat):Int:=[0,0,0,0,0,0,3,2,1].getD k 0
def dQ (w:World):Prop:=∀k,k<9->w.cell? ⟨0,k*5,none⟩=some (.string (lI k))/\w.cell? ⟨0,k*5+1,none⟩=some (.bool (oy k)) /\
 w.cell? ⟨0,k*5+2,none⟩=some (.int .i64 (m8 k))/\w.cell? ⟨0,k*5+3,none⟩=some (.int .i64 (qJ k))/\w.cell? ⟨0,k*5+4,none⟩=some (.int .i64 (oz k))
theorem eB {w:World} {p:Addr} {v:Value} (hp:w.cell? p=some v):p.block<w.heap.size:=by
 unfold World.cell? at hp;by_cases hlt:p.block<w.heap.size
 ·exact hlt
 rw[Array.getElem?_eq_none (by omega)] at hp;cases hp
theorem dQ.ext {w w':World} (h:dQ w) (he:Ext w w'):dQ w':=fun k hk =>
 ⟨he.cell (h k hk).1,he.cell (h k hk).2.1,he.cell (h k hk).2.2.1,he.cell (h k hk).2.2.2.1,he.cell (h k hk).2.2.2.2⟩
def EE (e:Ex):Bool :=
 decide (1<=e.op/\e.op<=8)&&(decide (m8 e.op.toNat<=e.args.length)&&decide ((e.args.length:Int)<=qJ e.op.toNat)) &&
 (if oy e.op.toNat then gJ e.name else e.name.toList.isEmpty)&&(if e.op==4 then qg e.words else e.words.isEmpty) &&
 (if e.op==5 then iM e.lo&&iM e.hi&&decide (e.lo<=e.hi) else (e.lo==0)&&(e.hi==0))
theorem agb (op lo hi:Int) (name:BA) (words:ZB) (args:List Ex) (nw na:Nat) (h1:nw=words.length) (h2:na=args.length):EE (.mk op name words lo hi args) =
 (decide (1<=op/\op<=8)&&(decide (m8 op.toNat<=na)&&decide ((na:Int)<=qJ op.toNat)) &&
 (if oy op.toNat then gJ name else name.toList.isEmpty)&&(if op==4 then qg words else decide (nw=0)) &&
 (if op==5 then iM lo&&iM hi&&decide (lo<=hi) else (lo==0)&&(hi==0))):=by
 subst h1 h2;have:words.isEmpty=decide (words.length=0):=by cases words<;>simp
 simp only[EE,Ex.op,Ex.name,Ex.words,Ex.lo,Ex.hi,Ex.args,this]
 rfl
theorem ayQ (k:Nat) (lo hi:Int) (name:BA) (words:ZB) (args:List Ex) (nw na:Nat) (h1:nw=words.length) (h2:na=args.length) (hk:1<=k/\k<9):EE (.mk k name words lo hi args) =
 ((decide (m8 k<=na)&&decide ((na:Int)<=qJ k)) &&
 (if oy k then gJ name else name.toList.isEmpty)&&(if (k:Int)==4 then qg words else decide (nw=0)) &&
 (if (k:Int)==5 then iM lo&&iM hi&&decide (lo<=hi) else (lo==0)&&(hi==0))):=by
 rw[agb _ _ _ _ _ _ nw na h1 h2,Int.toNat_natCast,bO (show 1<=(k:Int)/\(k:Int)<=8 by omega),Bool.true_and]
theorem auA (e:Ex) (v:Value) (w:World) (he:dw w e v) (ho:dQ w) (hs:e.name.size<=1000000000000000) (hws:∀x∈e.words,x.size<=1000000000000000) :
  Calls Tryz.prog 184 #[v] w (cz (.bool (EE e)) w):=by
 obtain⟨aw,nw,cw,aa,na,ca,rfl,hw,hna,hca,ha,hx⟩:=he.parts;clear he hx ha hca;have RV:=ai hw.1;have kJ:=ai hna;have HW:=ai hw;have HS:=ai hws;clear hw hws hna;obtain⟨op,name,words,lo,hi,args⟩:=e;simp only[Ex.op,Ex.name,Ex.words,Ex.lo,Ex.hi,Ex.args] at *;unfold fN;by_cases h1:1<=op
 ·by_cases h8:op<=8
  ·obtain⟨k,rfl⟩:=Int.eq_ofNat_of_zero_le (show 0<=op by omega);have hk:k<9:=by omega
   obtain⟨o0,o1,o2,o3,o4⟩:=ho k hk;have hbk:=eB o0;simp only at hbk;clear ho;have HB:=ai (ayQ k lo hi name words args nw na RV.o kJ.o (by omega));generalize EE (.mk k name words lo hi args)=B at *;have sA:(0:Int)<=m8 k:=by unfold m8;match k,hk with|0,_|1,_|2,_|3,_|4,_|5,_|6,_|7,_|8,_=>decide
   generalize m8 k=ol,qJ k=om,oy k=on,lI k=ow,oz k=ob at *;have t1:decide ((k:Int)<1)=false:=by simp;omega
   have t2:decide (8<(k:Int))=false:=by simp;omega
   by_cases h2:ol<=na
   ·by_cases h3:(na:Int)<=om
    ·have t3:decide ((na:Int)<ol)=false:=by simp;omega
     have t4:decide (om<(na:Int))=false:=by simp;omega
     go_enter Tryz.func184,Tryz.ntmps184
     go_wp2_with (first
      | (go_at_call 103;refine(rN _ _ hs).mono ?_;rintro e w' ⟨rfl,rfl⟩)
      | (go_at_call 188;refine(aoJ words _ _ _ _ (HW.o.ext (((Tz w).alloc _).alloc _)) HS.o).mono ?_;rintro e w' ⟨rfl,rfl⟩)
      | (go_at_call 189;refine(I7 _ _).mono ?_;rintro e w' ⟨rfl,rfl⟩))
     all_goals (go_ret;exact bW (by rw[HB.o];simp_all;try omega) (((Tz w).alloc _).alloc _))
    have H:=ai (show B=false by rw[HB.o];simp[h3]);have t3:decide ((na:Int)<ol)=false:=by simp;omega
    have t4:decide (om<(na:Int))=true:=by simp;omega
    go_enter Tryz.func184,Tryz.ntmps184
    go_wp2_with fail;go_ret;exact bW (by rw[H.o]) (((Tz w).alloc _).alloc _)
   have H:=ai (show B=false by rw[HB.o];simp[h2]);have t3:decide ((na:Int)<ol)=true:=by simp;omega
   go_enter Tryz.func184,Tryz.ntmps184
   go_wp2_with fail;go_ret;exact bW (by rw[H.o]) (((Tz w).alloc _).alloc _)
  have H:=ai (show EE (.mk op name words lo hi args)=false by rw[agb op lo hi name words args nw na RV.o kJ.o];simp[h8]);have t1:decide (op<1)=false:=by simp;omega
  have t2:decide (8<op)=true:=by simp;omega
  go_enter Tryz.func184,Tryz.ntmps184
  go_wp2_with fail;go_ret;exact bW (by rw[H.o]) ((Tz w).alloc _)
 have H:=ai (show EE (.mk op name words lo hi args)=false by rw[agb op lo hi name words args nw na RV.o kJ.o];simp[h1]);have t1:decide (op<1)=true:=by simp;omega
 go_enter Tryz.func184,Tryz.ntmps184
 go_wp2_with fail;go_ret;exact bW (by rw[H.o]) ((Tz w).alloc _)
open Go.ChangeShapes Go.WideShapes Go.ChangeAt Go.WideMaps Go.WideElems Go.RowKit
theorem own:ownKnob Tryz.prog.godebug=none:=by kernel_rfl
theorem azC:Tryz.prog.globalNamed "treaty/syntax.operators" = some 0:=by kernel_rfl
theorem axV:(Tryz.prog.globals[0]?).map (·.type)=some 244:=by kernel_rfl
theorem axQ:Tryz.prog.underlying 244=some (.array 9 243):=by kernel_rfl
theorem amM:(Tryz.prog.underlying 243).bind (fun u=>match u with|.struct fs=>some (fs.toList.map (fun f=>(f.type,f.offset)))|_=>none)=some [(9,0),(4,1),(3,2),(3,3),(3,4)]:=by kernel_rfl
theorem uOp:∃fs:Array Field,Tryz.prog.underlying 243=some (.struct fs)/\fs.toList.map (fun f=>(f.type,f.offset))=[(9,0),(4,1),(3,2),(3,3),(3,4)]:=by
 have h:=amM;generalize Tryz.prog.underlying 243=U at *
 match U,h with
 | some (.struct fs),h=>exact⟨fs,rfl,by simpa using h⟩
theorem cOp:Tryz.prog.cellsOf 243=5:=by kernel_rfl
theorem cS:Tryz.prog.cellsOf 9=1:=by kernel_rfl
theorem cB:Tryz.prog.cellsOf 4=1:=by kernel_rfl
theorem cI:Tryz.prog.cellsOf 3=1:=by kernel_rfl
theorem uS:Tryz.prog.underlying 9=some .string:=by kernel_rfl
theorem uB:Tryz.prog.underlying 4=some .bool:=by kernel_rfl
theorem uI:Tryz.prog.underlying 3=some (.int .i64):=by kernel_rfl
theorem fF {Ti:Array Field} (j:Nat) (t:TypeId) (o:Nat) (h:(Ti.toList.map (fun f=>(f.type,f.offset)))[j]?=some (t,o)):∃f,Ti[j]?=some f/\f.type=t/\f.offset=o:=by
 rw[List.getElem?_map] at h;cases hf:Ti.toList[j]? with
 | none=>rw[hf] at h;cases h
 | some f =>
  rw[hf] at h;simp only[Option.map_some,a42,Prod.mk.injEq] at h;exact⟨f,by simpa using hf,h.1,h.2⟩
theorem aqB {α:Type} (l:List α) (h:l.length=5):∃a b c d e,l=[a,b,c,d,e]:=by
 rcases l with _|⟨a,_|⟨b,_|⟨c,_|⟨d,_|⟨e,_|⟨f,r⟩⟩⟩⟩⟩⟩<;>simp at h
 exact⟨a,b,c,d,e,rfl⟩
theorem NQ {H:Type} {enc:TypeId×Value->H} {W:World} {base n:Nat} {sp:Nat->Bool} {held:Bool} {cs:List Value} {y:DataW H×List MemPlace} (h:DataW.trod enc Tryz.prog W base sp held n 243 cs=some y) {s:List UInt8} {b:Bool} {l m k:Int}
  (hy:y.1=.agg [.lit (.string s),.lit (.bool b),.lit (.int .i64 l),.lit (.int .i64 m),.lit (.int .i64 k)]):cs=[.string ⟨s.toArray⟩,.bool b,.int .i64 l,.int .i64 m,.int .i64 k]:=by
 obtain⟨Ti,uO,are⟩:=uOp;obtain⟨xs,r,rfl,rfl,hlen,hxl,hf⟩:=DataW.trod_struct uO h;have e5:Ti.size=5:=by have:=congrArg List.length are;simpa using this
 rw[e5] at hxl;rw[cOp] at hlen;obtain⟨c0,c1,c2,c3,c4,rfl⟩:=aqB cs hlen;obtain⟨x0,x1,x2,x3,x4,rfl⟩:=aqB xs hxl
 skip
 obtain⟨f0,g0,t0,o0⟩:=fF 0 _ _ (by rw[are];rfl);obtain⟨f1,g1,t1,o1⟩:=fF 1 _ _ (by rw[are];rfl);obtain⟨f2,g2,t2,o2⟩:=fF 2 _ _ (by rw[are];rfl);obtain⟨f3,g3,t3,o3⟩:=fF 3 _ _ (by rw[are];rfl);obtain⟨f4,g4,t4,o4⟩:=fF 4 _ _ (by rw[are];rfl);have r0:=hf 0 f0 g0;have r1:=hf 1 f1 g1;have r2:=hf 2 f2 g2;have r3:=hf 3 f3 g3;have r4:=hf 4 f4 g4;rw[t0,o0,cS] at r0;rw[t1,o1,cB] at r1;rw[t2,o2,cI] at r2;rw[t3,o3,cI] at r3;rw[t4,o4,cI] at r4;obtain⟨s',a0,b0,_⟩:=DataW.trod_string uS r0;obtain⟨b',a1,b1⟩:=DataW.trod_bool uB r1;obtain⟨l',a2,b2,_⟩:=DataW.trod_int uI r2;obtain⟨m',a3,b3,_⟩:=DataW.trod_int uI r3;obtain⟨k',a4,b4,_⟩:=DataW.trod_int uI r4;simp at a0 a1 a2 a3 a4;subst a0 a1 a2 a3 a4 b0 b1 b2 b3 b4;simp at hy;obtain⟨h0,h1,h2,h3,h4⟩:=hy;subst h0 h1 h2 h3 h4;simp
structure uq (t e:TypeId) (z:Value) (size bytes:Nat):Prop where
 ht:Tryz.prog.underlying t=some (.slice e)
 info:(Tryz.prog.info? e).map (fun i=>(i.zero,i.size,i.bytes))=some (some z,size,bytes)
 hzs:z.cells.size=size
 hsz:0<size
def eE {α:Type} (w:World) (size:Nat) (f:α->List Value) (l:List α) (a:OA) (n c:Nat):Prop :=
 n=l.length/\n<=c/\ny a c/\∀i (h:i<l.length),∃b off,a=some ⟨b,off,none⟩/\∀j (hj:j<(f l[i]).length),w.cell? ⟨b,off+i*size+j,none⟩=some (f l[i])[j]
theorem eE.mono {α:Type} {w w':World} {size:Nat} {f:α->List Value} {l:List α} {a:OA} {n c:Nat} (h:eE w size f l a n c) (he:Sub w w'):eE w' size f l a n c :=
 ⟨h.1,h.2.1,h.2.2.1,fun i hi=>by obtain⟨b,off,h1,h2⟩:=h.2.2.2 i hi;exact⟨b,off,h1,fun j hj=>he _ _ (h2 j hj)⟩⟩
theorem eE.ext {α:Type} {w w':World} {size:Nat} {f:α->List Value} {l:List α} {a:OA} {n c:Nat} (h:eE w size f l a n c) (he:Ext w w'):eE w' size f l a n c:=h.mono he.sub
theorem iJ {α:Type} (f:α->List Value) (size:Nat) (hf:∀x,(f x).length=size):(l:List α)->(i:Nat)->(hi:i<l.length)->(j:Nat)->(hj:j<(f l[i]).length)->(l.flatMap f)[i*size+j]?=some (f l[i])[j]
 | [],i,hi,_,_=>by simp at hi
 | x::r,0,_,j,hj=>by
  simp only[bB] at hj;simp only[List.flatMap_cons,Nat.zero_mul,Nat.zero_add,bB];rw[List.getElem?_append_left hj,aT hj]
 | x::r,i+1,hi,j,hj=>by
  have:=iJ f size hf r i (by simpa using hi) j (by simpa using hj);simp only[List.flatMap_cons,List.getElem_cons_succ] at *;rw[List.getElem?_append_right (by rw[hf,Nat.succ_mul];omega),hf,show (i+1)*size+j - size=i*size+j by rw[Nat.succ_mul];omega];exact this
theorem eN {α:Type} (f:α->List Value) (size:Nat) (hf:∀x,(f x).length=size):(l:List α)->(l.flatMap f).length=l.length*size
 | []=>by simp
 | x::r=>by simp only[List.flatMap_cons,bg,hf,eN f size hf r,List.length_cons,Nat.succ_mul];omega
theorem eE.iZ {α:Type} {w:World} {base:Nat} {e:TypeId} {size:Nat} {f:α->List Value} {l:List α} {v:Value} (hf:∀x,(f x).length=size) (h:w.ownsRow base e size v l.length (l.flatMap f)) :
  ∃a c,v=.slice a l.length c/\eE w size f l a l.length c:=by
 rcases h.2 with ⟨rfl,h0⟩|⟨g,cap,cur,rfl,_,hg,hle,_,_,_⟩
 ·have:l=[]:=aR h0;subst this;exact⟨none,0,rfl,rfl,by simp,aoX ⟨rfl,rfl⟩,fun i hi=>by simp at hi⟩
 refine⟨some ⟨g,0,none⟩,cap,rfl,rfl,hle,a4Z ⟨g,0,rfl⟩,fun i hi=>⟨g,0,rfl,fun j hj=>?_⟩⟩;rw[Nat.zero_add,h.cellAt _ ?_]
 ·exact iJ f size hf l i hi j hj
 rw[hf] at hj
 calc i*size+j<i*size+size:=by omega
  _=(i+1)*size:=by rw[Nat.succ_mul]
  _<=l.length*size:=Nat.mul_le_mul_right _ hi
theorem gF {w w':World} {base:Nat} {e:TypeId} {size:Nat} {v:Value} {n:Nat} {xs:List Value} (h:w.ownsRow base e size v n xs) (he:Ext w w'):w'.ownsRow base e size v n xs :=
 h.kept (row:=none) ⟨he.os,he.tape,he.output,he.size,fun k hk _=>he.block k hk⟩ (by cases hv:v.ownBlock<;>simp)
theorem Ext.grown {a w w':World} {row:Option Nat} (h:Ext a w) (hg:w.grownBy w' row) (hr:∀k,row=some k->a.heap.size<=k):Ext a w':=Below.grown h hg h.size hr
theorem lu {t e:TypeId} {z:Value} {size bytes:Nat} (E:uq t e z size bytes) {ops:Array Oper} {rest:List Oper} {o:Oper} {a:Act} {Q:Exit->Act->World->Prop} {X:World} {arr:Array Value} {tt:TypeId}
  (hgd:o.guard=none) (s x:Operand) (ho:o.op=.call { callee:=.builtin .append,args:=#[s,x],argTypes:=#[t,t] }) (base:Nat) (v:Value) (n:Nat) (xs:List Value) (hs:a.eval s=v) (hown:X.ownsRow base e size v n xs)
  (B m c:Nat) (hx:a.eval x=.slice (some ⟨B,0,none⟩) m c) (hB:B=X.heap.size) (hl:arr.size=m*size) (h1:∀u∈arr.toList,u.oneCell'=true) (hm:n+m<=maxLen) (hb:(n+m)*bytes<=140737488355328) (hbase:base<=X.heap.size)
  (h:∀v' w',w'.ownsRow base e size v' (n+m) (xs++arr.toList)->X.grownBy w' v.ownBlock->wpList Tryz.prog ops Q rest (a.put o.dst v') w'):wpList Tryz.prog ops Q (o::rest) a (X.alloc (.cells arr tt)):=by
 subst hB;obtain⟨i,hi,hz,hsz,hby⟩:=info_parts E.info;refine wpList_append_own (X.alloc (.cells arr tt)) hgd s x t ho base e i z size bytes E.ht hi hz hsz hby E.hzs E.hsz v n xs hs (hown.alloc _) ⟨X.heap.size,0,none⟩ m c arr.toList hx (by simpa using hl) ?_ h1 hm hb (by simp;omega) ?_
 ·intro j u hu;have:(⟨X.heap.size,0,none⟩:Addr).add j=⟨X.heap.size,j,none⟩:=by unfold Addr.add;split<;>simp_all
  rw[this,World.cell?_alloc_at _ _ _ _ rfl];simpa using hu
 intro v' w' h2 h3 _;refine h v' w' h2 ⟨h3.os,h3.tape,h3.output,?_,fun k hk hne=>?_⟩
 ·have:=h3.size;simp at this;omega
 rw[h3.block k (by simp;omega) hne];exact Below.heap_alloc _ _ _ hk
theorem Ck {w:World} {base:Nat} {e:TypeId} {size:Nat} {v:Value} {n:Nat} {xs:List Value} (h:w.ownsRow base e size v n xs):∀k,v.ownBlock=some k->base<=k:=fun k hk=>(h.lt k hk).1
theorem World.V2 (w:World) (p:Addr) (u v:Value):(w.setCell p u).setCell p v=w.setCell p v:=by
 simp only[World.setCell,World.mk.injEq,and_true]
 apply Array.ext_getElem?
 intro i;simp only[Array.getElem?_modify];split
 ·cases w.heap[i]? with
  | none=>rfl
  | some o =>
   simp only[Option.map_some,a42];cases o with
   | cells c el fr =>
    by_cases h:p.spot.isSome
    ·simp[h]
    simp only[h,Bool.false_eq_true,if_false,Obj.cells.injEq,and_true]
    apply Array.ext_getElem?
    intro j;simp only[Array.getElem?_setIfInBounds,Array.size_setIfInBounds];split
    ·split<;>simp_all
    rfl
   | _=>rfl
 rfl
theorem Ext.set {a b:World} (h:Ext a b) (p:Addr) (v:Value):Ext (a.setCell p v) (b.setCell p v):=by
 refine⟨h.os,h.tape,h.output,by simp;exact h.size,fun k hk=>?_⟩;have hk':k<a.heap.size:=by simpa using hk
 simp only[World.setCell,Array.getElem?_modify];rw[h.block k hk']
theorem Ext.fV {a b:World} (h:Ext a b) {p:Addr} (hp:a.heap.size<=p.block) (v:Value):Ext a (b.setCell p v):=Below.setCell h hp v
mutual
def Ex.fits:Ex->Prop
 | .mk _ name words _ _ args=>name.size<=1000000000000000/\(∀x∈words,x.size<=1000000000000000)/\kE args
def kE:List Ex->Prop
 | []=>True
 | e::r=>e.fits/\kE r
end
theorem Qk:(l:List Ex)->kE l->(k:Nat)->(hk:k<l.length)->l[k].fits
 | [],_,k,hk=>by simp at hk
 | e::r,h,0,_=>by unfold kE at h;exact h.1
 | e::r,h,k+1,hk=>by unfold kE at h;simpa using Qk r h.2 k (by simpa using hk)
theorem qM {e:Ex} (h:e.fits):e.name.size<=1000000000000000/\(∀x∈e.words,x.size<=1000000000000000)/\kE e.args:=by
 cases e;unfold Ex.fits at h;exact h
mutual
def nZ:Ex->Int->Int->Bool×Int
 | .mk op name words lo hi args,d,n =>
  if 300<n+1\/16<d\/EE (.mk op name words lo hi args)=false then (false,n+1) else qq args (d+1) (n+1)
def qq:List Ex->Int->Int->Bool×Int
 | [],_,n=>(true,n)
 | e::r,d,n=>if (nZ e d n).1 then qq r d (nZ e d n).2 else (false,(nZ e d n).2)
end
theorem Ux (e:Ex) (d n:Int):nZ e d n=if 300<n+1\/16<d\/EE e=false then (false,n+1) else qq e.args (d+1) (n+1):=by
 cases e;rw[nZ];rfl
theorem alZ (l:List Ex) (k:Nat) (hk:k<l.length) (d n:Int):qq (l.drop k) d n=if (nZ l[k] d n).1 then qq (l.drop (k+1)) d (nZ l[k] d n).2 else (false,(nZ l[k] d n).2):=by
 rw[List.drop_eq_getElem_cons hk,qq]
mutual
theorem ajO:(e:Ex)->(d n:Int)->n<=300->n<(nZ e d n).2/\(nZ e d n).2<=301
 | .mk op name words lo hi args,d,n,h=>by
  rw[nZ];split
  ·constructor<;>simp<;>omega
  have:=aes args (d+1) (n+1) (by omega);omega
theorem aes:(l:List Ex)->(d n:Int)->n<=300->n<=(qq l d n).2/\(qq l d n).2<=301
 | [],d,n,h=>by simp[qq];omega
 | e::r,d,n,h=>by
  have h1:=ajO e d n h;have h3:=aa6 e d n;rw[qq];split
  ·rename_i hok
   have:=aes r d (nZ e d n).2 (h3 hok);omega
  simp only;omega
theorem aa6:(e:Ex)->(d n:Int)->(nZ e d n).1=true->(nZ e d n).2<=300
 | .mk op name words lo hi args,d,n=>by
  rw[nZ];split
  ·simp
  exact aer args (d+1) (n+1) (by omega)
theorem aer:(l:List Ex)->(d n:Int)->n<=300->(qq l d n).1=true->(qq l d n).2<=300
 | [],d,n,h=>by simp[qq];omega
 | e::r,d,n,h=>by
  rw[qq];split
  ·rename_i hok
   exact aer r d _ (aa6 e d n hok)
  simp
end
def aEZ (r:Bool×Int) (p:Addr) (w:World) (x:Ending) (w':World):Prop:=x=.returned (.bool r.1)/\Ext (w.setCell p (.int .i64 r.2)) w'
theorem Ns {b:Bool} {R:Bool×Int} {b':Bool} {n:Int} {p:Addr} {w w':World} (h:R=(b',n)) (hb:b=b') (hx:Ext (w.setCell p (.int .i64 n)) w'):aEZ R p w (.returned (.bool b)) w':=by
 subst h hb;exact⟨rfl,hx⟩
theorem aoT (m:Nat):∀(e:Ex) (v:Value) (w0 w:World) (bs:Nat) (d n:Int),e.size<=m->dw w0 e v->dQ w0->e.fits->Ext w0 w->w0.heap.size<=bs->w.cell? ⟨bs,0,none⟩=some (.int .i64 n)->w.frozen? ⟨bs,0,none⟩=false ->
  0<=n->n<=300->0<=d->d<=17->Calls Tryz.prog 168 #[v,.int .i64 d,.pointer (some ⟨bs,0,none⟩)] w (aEZ (nZ e d n) ⟨bs,0,none⟩ w):=by
 induction m with
 | zero=>intro e v w0 w bs d n h;cases e;simp[Ex.size] at h
 | succ m ih =>
  intro e v w0 w bs d n hm he ho hf hx CR hc hz hn0 hn hd0 hd;have IH:=ai ih;clear ih;have HE:=ai he;have HO:=ai ho;have HF:=ai hf;have HX:=ai hx;have qL:=eB hc;simp only at qL;obtain⟨aw,nw,cw,aa,na,ca,rfl,hw,hna,hca,ha,hxs⟩:=he.parts;have zl:=ai hxs;have kJ:=ai hna;have hse:e.size=1+sizes e.args:=by cases e;simp[Ex.size,Ex.args]
  have HM:=ai (show 1+sizes e.args<=m+1 by omega);clear he ho hf hx hw hca ha hxs hna hse hm;by_cases h1:300<n+1
  ·have H:=ai (show nZ e d n=(false,n+1) by rw[Ux,bM (aoX h1)]);generalize nZ e d n=R at *;unfold fN;go_enter Tryz.func168,Tryz.ntmps168
   go_wp2_with fail;go_ret;exact Ns H.o rfl ((Tz _).alloc _)
  by_cases h2:16<d
  ·have H:=ai (show nZ e d n=(false,n+1) by rw[Ux,bM (a4Z (aoX h2))]);generalize nZ e d n=R at *;unfold fN;go_enter Tryz.func168,Tryz.ntmps168
   go_wp2_with fail;go_ret;exact Ns H.o rfl ((Tz _).alloc _)
  have HN:aj (∀w1,Ext w0 w1->Calls Tryz.prog 184 #[fN e.op e.name aw nw cw e.lo e.hi aa na ca] w1 (cz (.bool (EE e)) w1)):=fun w1 h =>
   auA e _ w1 (HE.o.ext h) (HO.o.ext h) (qM HF.o).1 (qM HF.o).2.1
  cases h3:EE e
  ·have H:=ai (show nZ e d n=(false,n+1) by rw[Ux,bM (a4Z (a4Z h3))]);have H3:=ai h3;clear h3;generalize nZ e d n=R at *;unfold fN at *;go_enter Tryz.func168,Tryz.ntmps168
   go_wp2_with fail;refine(HN.o _ (Ext.alloc (HX.o.fV CR _) _)).mono ?_;rintro r w1 ⟨rfl,hw1⟩;rw[H3.o];go_wp2_with fail;go_ret;exact Ns H.o rfl (((Tz _).alloc _).trans hw1)
  have H:=ai (show nZ e d n=qq e.args (d+1) (n+1) by rw[Ux,bL (by simp[h3];omega)]);have H3:=ai h3;have hna:na<=300:=by
   have:=h3;unfold EE at this;simp only[aF,aH] at this;have h4:=this.1.1.1.2.2;have h5:qJ e.op.toNat<=300:=by
    obtain⟨k,hk⟩:=Int.eq_ofNat_of_zero_le (show 0<=e.op by omega);rw[hk] at this ⊢;have:k<9:=by omega
    unfold qJ
    match k,this with|0,_|1,_|2,_|3,_|4,_|5,_|6,_|7,_|8,_=>decide
   have:=kJ.o;omega
  clear h3;generalize nZ e d n=R at *;unfold fN at *;go_enter Tryz.func168,Tryz.ntmps168
  go_wp2_with fail;refine(HN.o _ (Ext.alloc (HX.o.fV CR _) _)).mono ?_;rintro r w1 ⟨rfl,hw1⟩;rw[H3.o];have dh:w1.cell? ⟨w.heap.size,5,none⟩=some (.slice aa na ca):=hw1.cell (by go_simp);have hw2:=ai hw1;clear hw1;go_wp2_with fail;go_loopw [30] (fun i wr=>∃(k:Nat) (c:Int),k<=na/\i=.int .i64 k/\0<=c/\c<=300/\qq (e.args.drop k) (d+1) c=R/\Ext (w.setCell ⟨bs,0,none⟩ (.int .i64 c)) wr) (fun i _=>na - (intOf i).toNat)
  case atStart=>exact⟨0,n+1,by omega,rfl,by omega,by omega,by rw[List.drop_zero,H.o],((Tz _).alloc _).trans hw2.out⟩
  case round =>
   obtain⟨k,c,hk,rfl,hc0,hc1,hR,hwr⟩:=hrel;have HR:=ai hR;have HWR:=ai hwr;clear hR hwr dh hw2;by_cases hlt:k<na
   ·have hlt':k<e.args.length:=by have:=kJ.o;omega
    have hsz:e.args[k].size<=m:=by
     have h1:=eD e.args k hlt';have h2:=dX e.args (k+1);have:=HM.o;omega
    have hx0:=ai (show Ext w0 wr from(HX.o.fV CR _).trans HWR.o);have hcc:wr.cell? ⟨bs,0,none⟩=some (.int .i64 c):=HWR.o.cell (World.cell?_setCell_same _ _ _ hc);have U0:wr.frozen? ⟨bs,0,none⟩=false:=by rw[HWR.o.frozen (World.cell?_setCell_same _ _ _ hc)];simpa using hz
    have hbr:=eB hcc;simp only at hbr;obtain⟨b,off,rfl,nJ,nD,nG,nK,nE,nI,g0,g1,g2,g3,g4,g5,g6⟩:=eU.at e.args _ zl.o k hlt';have f0:=hx0.out.cell g0;have f1:=hx0.out.cell g1;have f2:=hx0.out.cell g2;have f3:=hx0.out.cell g3;have f4:=hx0.out.cell g4;have f5:=hx0.out.cell g5;have aDy:=ai (fun (w1:World) (hw:Ext wr w1)=>IH.o e.args[k] (fN e.args[k].op e.args[k].name nJ nD nG e.args[k].lo e.args[k].hi nK nE nI) w0 w1 bs (d+1) c hsz g6 HO.o
     (Qk _ (qM HF.o).2.2 k hlt') (hx0.out.trans hw) CR (hw.cell hcc) (by rw[hw.frozen hcc];exact U0) hc0 hc1 (by omega) (by omega))
    clear g0 g1 g2 g3 g4 g5 g6 hc hz;unfold fN at aDy;have HS:=ai (alZ e.args k hlt' (d+1) c);have HD:=ai (ajO e.args[k] (d+1) c hc1);have HK:=ai (aa6 e.args[k] (d+1) c);generalize nZ e.args[k] (d+1) c=S at *;obtain⟨sb,sn⟩:=S;cases sb
    ·go_wp2_with fail;refine(aDy.out _ ((Tz wr).alloc _)).mono ?_;rintro r w1 ⟨rfl,hw1⟩;go_wp2_with fail;go_ret;refine Ns (HR.o.symm.trans HS.o) rfl ?_;have h1:=(((Tz wr).alloc (.cells #[.int .i64 e.args[k].op,.string e.args[k].name,.slice nJ nD nG,.int .i64 e.args[k].lo,.int .i64 e.args[k].hi,.slice nK nE nI] 45)).set ⟨bs,0,none⟩ (.int .i64 sn)).trans hw1;have h2:=(HWR.o.set ⟨bs,0,none⟩ (.int .i64 sn)).trans h1;rw[World.V2] at h2;exact h2
    go_wp2_with fail;refine(aDy.out _ ((Tz wr).alloc _)).mono ?_;rintro r w1 ⟨rfl,hw1⟩;have HW1:=ai hw1;clear hw1;go_wp2_with fail;go_roundw
    case rel =>
     refine⟨k+1,sn,by omega,by go_num,?_,HK.o (by trivial),HS.o.symm.trans HR.o,?_⟩
     ·have:=HD.o;omega
     have h1:=(((Tz wr).alloc (.cells #[.int .i64 e.args[k].op,.string e.args[k].name,.slice nJ nD nG,.int .i64 e.args[k].lo,.int .i64 e.args[k].hi,.slice nK nE nI] 45)).set ⟨bs,0,none⟩ (.int .i64 sn)).trans HW1.o;have h2:=(HWR.o.set ⟨bs,0,none⟩ (.int .i64 sn)).trans h1;rw[World.V2] at h2;exact h2
    case measure=>simp[intOf];omega
   have hkn:=ai (show k=e.args.length by have:=kJ.o;omega);go_wp2_with fail;go_ret;exact Ns (R:=R) (by rw[<-HR.o,hkn.out,List.drop_length,qq]) rfl HWR.o
def uX (e:Ex):Bool:=(nZ e 1 0).1
theorem rC (e:Ex) (v:Value) (w:World) (he:dw w e v) (ho:dQ w) (hf:e.fits):Calls Tryz.prog 138 #[v] w (cz (.bool (uX e)) w):=by
 have HE:=ai he;have HO:=ai ho;have HF:=ai hf;obtain⟨aw,nw,cw,aa,na,ca,rfl,-⟩:=he.parts;clear he ho hf;unfold fN at *;go_enter Tryz.func138,Tryz.ntmps138
 go_wp2_with fail;refine(aoT e.size e _ w _ _ 1 0 (aU _) HE.o HO.o HF.o (((Tz w).alloc _).alloc _) (by simp) (by go_simp) (by go_simp) (by omega) (by omega) (by omega) (by omega)).mono ?_;rintro r w1 ⟨rfl,hw1⟩;go_wp2_with fail;go_ret;exact bW rfl ((Ext.fV (((Tz w).alloc _).alloc _) (by simp) _).trans hw1)
def mask (w:World) (M:ZN):World:={ w with heap:=w.heap.mapIdx fun i o=>if i∈M then .map #[] 0 else o }
theorem eA (w:World) (M:ZN) (p:Addr):(mask w M).cell? p=if p.block∈M then none else w.cell? p:=by
 unfold World.cell? mask;simp only[Array.getElem?_mapIdx];by_cases h:p.block∈M
 ·simp only[h,if_true];cases w.heap[p.block]?<;>simp
 simp only[h,if_false];cases w.heap[p.block]?<;>simp
theorem cC (w:World) (M:ZN):Sub (mask w M) w:=by
 intro p v h;rw[eA] at h;split at h
 ·cases h
 exact h
theorem ayX (w:World) (M:ZN):(mask w M).heap.size=w.heap.size:=by simp[mask]
theorem cQ {w w':World} {M M':ZN} (h:∀k,k<w.heap.size->k∉M->k∉M'/\w'.heap[k]?=w.heap[k]?):Sub (mask w M) (mask w' M'):=by
 intro p v hp;have hb:=eB hp;rw[ayX] at hb;rw[eA] at hp ⊢;split at hp
 ·cases hp
 rename_i hn
 obtain⟨h1,h2⟩:=h _ hb hn;rw[bL h1];rw[World.cell?_of_block (w:=w) (w':=w') h2];exact hp
theorem eG {w w':World} (M:ZN) (h:Ext w w'):Sub (mask w M) (mask w' M):=cQ fun k hk hn=>⟨hn,h.block k hk⟩
structure dK where
 op:Int
 name:BA
 aw:OA
 nw:Nat
 cw:Nat
 lo:Int
 hi:Int
 aa:OA
 na:Nat
 ca:Nat
def dK.cells (x:dK):List Value:=[.int .i64 x.op,.string x.name,.slice x.aw x.nw x.cw,.int .i64 x.lo,.int .i64 x.hi,.slice x.aa x.na x.ca]
def dK.val (x:dK):Value:=fN x.op x.name x.aw x.nw x.cw x.lo x.hi x.aa x.na x.ca
theorem bX {w:World} {b:Nat} {cs:Array Value} {t:TypeId} (h:w.heap[b]?=some (.cells cs t (0,0))) (j:Nat):w.cell? ⟨b,j,none⟩=cs[j]?:=cell_of_row w b j cs t (0,0) h
theorem ie {w:World} {b:Nat} {cs:Array Value} {t:TypeId} (h:w.heap[b]?=some (.cells cs t (0,0))) (j:Nat):w.frozen? ⟨b,j,none⟩=false:=frozen_of_row w b j cs t h
theorem bS {w:World} {b:Nat} {o:Obj} (h:w.heap[b]?=some o):b<w.heap.size:=(aQ.1 h).1
theorem Ext.blk {w w':World} (h:Ext w w') {b:Nat} {o:Obj} (hb:w.heap[b]?=some o):w'.heap[b]?=some o:=(h.block b (bS hb)).trans hb
theorem bR (w:World) (o:Obj):(w.alloc o).heap[w.heap.size]?=some o:=by show (w.heap.push o)[w.heap.size]?=_;simp
theorem bU {w:World} {b:Nat} {o o':Obj} (hb:w.heap[b]?=some o):(w.alloc o').heap[b]?=some o:=(Below.heap_alloc w o' b (bS hb)).trans hb
theorem oO {w:World} {b:Nat} {v0 v1 v2 v3 v4 v5 v6 v7:Value} {t:TypeId} (h:w.heap[b]?=some (.cells #[v0,v1,v2,v3,v4,v5,v6,v7] t (0,0))) :
  w.cell? ⟨b,0,none⟩=some v0/\w.cell? ⟨b,1,none⟩=some v1/\w.cell? ⟨b,2,none⟩=some v2/\w.cell? ⟨b,3,none⟩=some v3/\w.cell? ⟨b,4,none⟩=some v4/\w.cell? ⟨b,5,none⟩=some v5/\w.cell? ⟨b,6,none⟩=some v6/\w.cell? ⟨b,7,none⟩=some v7 /\
  (∀j,w.frozen? ⟨b,j,none⟩=false) :=
 ⟨bX h 0,bX h 1,bX h 2,bX h 3,bX h 4,bX h 5,bX h 6,bX h 7,fun j=>ie h j⟩
theorem dM {w:World} {b:Nat} {v0 v1 v2:Value} {t:TypeId} (h:w.heap[b]?=some (.cells #[v0,v1,v2] t (0,0))) :
  w.cell? ⟨b,0,none⟩=some v0/\w.cell? ⟨b,1,none⟩=some v1/\w.cell? ⟨b,2,none⟩=some v2/\(∀j,w.frozen? ⟨b,j,none⟩=false) :=
 ⟨bX h 0,bX h 1,bX h 2,fun j=>ie h j⟩
theorem eU.of {w:World} {b:Nat}:(l:List Ex)->(off:Nat)->(xs:List dK)->l.length=xs.length ->
  (∀i (h1:i<l.length) (h2:i<xs.length),(∀j,j<6->w.cell? ⟨b,off+i*6+j,none⟩=xs[i].cells[j]?)/\dw w l[i] xs[i].val)->eU w l (some ⟨b,off,none⟩)
 | [],_,_,_,_=>by unfold eU;trivial
 | .mk op name words lo hi args::r,off,[],hl,_=>by simp at hl
 | .mk op name words lo hi args::r,off,x::xs,hl,h=>by
  unfold eU;obtain⟨h1,h2⟩:=h 0 (by simp) (by simp);simp only[bB,Nat.zero_mul,Nat.add_zero] at h1 h2;obtain⟨aw,nw,cw,aa,na,ca,e1,g1,g2,g3,g4,g5⟩:=h2.parts;simp only[dK.val,fN,a5b,Ex.op,Ex.name,Ex.lo,Ex.hi,Ex.words,Ex.args] at e1 g1 g2 g5;simp at e1;obtain⟨e2,e3,⟨e4,e5,e6⟩,e7,e8,e9,e10,e11⟩:=e1;refine⟨b,off,rfl,⟨aw,nw,cw,aa,na,ca,?_,?_,?_,?_,?_,?_,g1,g2,g3,g4,g5⟩,?_⟩
  ·have:=h1 0 (by omega);simpa[dK.cells,e2] using this
  ·have:=h1 1 (by omega);simpa[dK.cells,e3] using this
  ·have:=h1 2 (by omega);simpa[dK.cells,e4,e5,e6] using this
  ·have:=h1 3 (by omega);simpa[dK.cells,e7] using this
  ·have:=h1 4 (by omega);simpa[dK.cells,e8] using this
  ·have:=h1 5 (by omega);simpa[dK.cells,e9,e10,e11] using this
  refine eU.of r (off+6) xs (by simpa using hl) fun i h3 h4=>?_
  have:=h (i+1) (by simpa using h3) (by simpa using h4);simp only[List.getElem_cons_succ] at this;rw[show off+(i+1)*6=off+6+i*6 by omega] at this;exact this
theorem DM:uq 43 45 (.agg #[.int .i64 0,.string ⟨#[]⟩,.slice none 0 0,.int .i64 0,.int .i64 0,.slice none 0 0]) 6 88:=⟨by kernel_rfl,by kernel_rfl,rfl,by decide⟩
structure ct (N:ZN) (w w':World):Prop where
 os:w'.os=w.os
 tape:w'.tape=w.tape
 output:w'.output=w.output
 size:w.heap.size<=w'.heap.size
 block:∀k,k<w.heap.size->k∉N->w'.heap[k]?=w.heap[k]?
theorem ct.refl (N:ZN) (w:World):ct N w w:=⟨rfl,rfl,rfl,aU _,fun _ _ _=>rfl⟩
theorem ct.trans {N N':ZN} {a b c:World} (h:ct N a b) (k:ct N' b c) (hN:∀x∈N',x∈N\/a.heap.size<=x):ct N a c :=
 ⟨k.os.trans h.os,k.tape.trans h.tape,k.output.trans h.output,aV h.size k.size,fun i hi hn =>
  (k.block i (bF hi h.size) (fun h'=>by rcases hN i h' with h'|h';exact hn h';omega)).trans (h.block i hi hn)⟩
theorem Ext.cR {w w':World} (h:Ext w w') (N:ZN):ct N w w':=⟨h.os,h.tape,h.output,h.size,fun k hk _=>h.block k hk⟩
theorem ct.ext {N:ZN} {w0 w w':World} (h:ct N w w') (h0:Ext w0 w) (hN:∀x∈N,w0.heap.size<=x):Ext w0 w' :=
 ⟨h.os.trans h0.os,h.tape.trans h0.tape,h.output.trans h0.output,aV h0.size h.size,fun k hk =>
  (h.block k (bF hk h0.size) (fun h'=>by have:=hN k h';omega)).trans (h0.block k hk)⟩
theorem ct.setCell {N:ZN} {a w:World} (h:ct N a w) {p:Addr} (hp:p.block∈N\/a.heap.size<=p.block) (v:Value):ct N a (w.setCell p v) :=
 ⟨h.os,h.tape,h.output,by simpa using h.size,fun k hk hn=>(heap_setCell_other w p k v (fun e=>by subst e;rcases hp with hp|hp;exact hn hp;omega)).trans (h.block k hk hn)⟩
theorem ct.alloc {N:ZN} {a w:World} (h:ct N a w) (o:Obj):ct N a (w.alloc o) :=
 ⟨h.os,h.tape,h.output,by have:=h.size;simp;omega,fun k hk hn=>(Below.heap_alloc w o k (by have:=h.size;omega)).trans (h.block k hk hn)⟩
theorem ct.drew {N:ZN} {a w:World} (h:ct N a w):ct N a w.drew:=⟨h.os,h.tape,h.output,h.size,h.block⟩
theorem Ext.drewN {a w:World} (h:Ext a w) (n:Nat):Ext a (w.drewN n):=⟨h.os,h.tape,h.output,h.size,h.block⟩
theorem ct.drewN {N:ZN} {a w:World} (h:ct N a w) (n:Nat):ct N a (w.drewN n):=⟨h.os,h.tape,h.output,h.size,h.block⟩
theorem Gt {f:FuncId} {args:Array Value} {w:World} {n:Nat} {v:Value} (h:Calls Tryz.prog f args (w.drewN n) (pg v (w.drewN n))):Calls Tryz.prog f args (w.drewN n) fun e w''=>e=.returned v/\∃m,w''=w.drewN m :=
 h.mono fun _ _ ⟨he,hm⟩=>⟨he,n,hm.symm⟩
theorem ct.then {N:ZN} {a b c:World} (h:ct N a b) (k:ct N b c):ct N a c:=h.trans k fun _ hx=>aoX hx
theorem xM:uq 42 9 (.string ⟨#[]⟩) 1 16:=⟨by kernel_rfl,by kernel_rfl,rfl,by decide⟩
theorem cO {N:ZN} {w w':World} {base:Nat} {e:TypeId} {size:Nat} {v:Value} {n:Nat} {xs:List Value} (h:w.ownsRow base e size v n xs) (hc:ct N w w') (hN:∀k,v.ownBlock=some k->k∉N):w'.ownsRow base e size v n xs:=by
 refine⟨h.1,?_⟩;rcases h.2 with hn|⟨g,cap,cur,rfl,hb,hgg,rest⟩
 ·exact .inl hn
 refine .inr ⟨g,cap,cur,rfl,hb,?_,rest⟩;rw[hc.block g (aQ.1 hgg).1 (hN g rfl)];exact hgg
def rowOf (v:Value):ZN:=match v.ownBlock with|some k=>[k]|none=>[]
theorem bV {v:Value} {k:Nat}:k∈rowOf v ↔ v.ownBlock=some k:=by
 unfold rowOf;cases v.ownBlock with
 | none=>simp
 | some x=>simp[eq_comm]
theorem eX {w w':World} {v:Value} (h:w.grownBy w' v.ownBlock):ct (rowOf v) w w' :=
 ⟨h.os,h.tape,h.output,h.size,fun k hk hn=>h.block k hk (fun e=>hn (bV.2 e.symm))⟩
def iC (s:BA):List Value:=[.string s]
theorem jR {w:World} {base:Nat} {l:ZB} {v:Value} (h:w.ownsRow base 9 1 v l.length (l.flatMap iC)) (M:ZN) (hM:∀x∈M,x<base):∃a c,v=.slice a l.length c/\fS (mask w M) l a l.length c/\fS w l a l.length c:=by
 have hlt:=h.lt;obtain⟨a,c,rfl,hr⟩:=eE.iZ (f:=iC) (fun _=>rfl) h;have hs:fS w l a l.length c:=⟨hr.1,hr.2.1,hr.2.2.1,fun i hi=>by
  obtain⟨b,off,e1,e2⟩:=hr.2.2.2 i hi;have:=e2 0 (by simp[iC]);simp only[iC,bB,Nat.mul_one,Nat.add_zero] at this;exact⟨b,off,e1,this⟩⟩
 refine⟨a,c,rfl,⟨hs.1,hs.2.1,hs.2.2.1,fun i hi=>?_⟩,hs⟩;obtain⟨b,off,e1,e2⟩:=hs.2.2.2 i hi;refine⟨b,off,e1,?_⟩;rw[eA,bL,e2];intro hm;have h1:=hM _ hm;have h2:=(hlt b (by rw[e1];rfl)).1;simp only at h1;omega
theorem eT (w:World) (op lo hi:Int) (name:BA):dw w (.mk op name [] lo hi []) (fN op name none 0 0 lo hi none 0 0):=by
 refine dw.mk ⟨rfl,by omega,aoX ⟨rfl,rfl⟩,fun i hi=>by simp at hi⟩ rfl (by omega) (aoX ⟨rfl,rfl⟩) ?_;unfold eU
 trivial
theorem PU {w:World} {words:ZB} {a:OA} {n c:Nat} (h:fS w words a n c) (op lo hi:Int) (name:BA):dw w (.mk op name words lo hi []) (fN op name a n c lo hi none 0 0):=by
 refine dw.mk h rfl (by omega) (aoX ⟨rfl,rfl⟩) ?_;unfold eU
 trivial
theorem cX {w:World} {b:Nat} {v0 v1 v2 v3 v4 v5:Value} {t:TypeId} (h:w.heap[b]?=some (.cells #[v0,v1,v2,v3,v4,v5] t (0,0))) :
  w.cell? ⟨b,0,none⟩=some v0/\w.cell? ⟨b,1,none⟩=some v1/\w.cell? ⟨b,2,none⟩=some v2/\w.cell? ⟨b,3,none⟩=some v3/\w.cell? ⟨b,4,none⟩=some v4/\w.cell? ⟨b,5,none⟩=some v5/\(∀j,w.frozen? ⟨b,j,none⟩=false) :=
 ⟨bX h 0,bX h 1,bX h 2,bX h 3,bX h 4,bX h 5,fun j=>ie h j⟩
theorem ct.blk {N:ZN} {w w':World} (h:ct N w w') {b:Nat} {o:Obj} (hb:w.heap[b]?=some o) (hn:b∉N):w'.heap[b]?=some o:=(h.block b (bS hb) hn).trans hb
theorem uZ {w:World} {b:Nat} {v0 v1:Value} {t:TypeId} (h:w.heap[b]?=some (.cells #[v0,v1] t (0,0))) :
  w.cell? ⟨b,0,none⟩=some v0/\w.cell? ⟨b,1,none⟩=some v1/\(∀j,w.frozen? ⟨b,j,none⟩=false) :=
 ⟨bX h 0,bX h 1,fun j=>ie h j⟩
def dR (w:World) (a:OA) (n:Nat):Prop:=∀i,i<n->∃b off z,a=some ⟨b,off,none⟩/\w.cell? ⟨b,off+i,none⟩=some (.int .i64 z)
def cg (w0 w:World) (bd:Nat):Prop:=∃(la:OA) (ln lc k:Nat),w.heap[bd]?=some (.cells #[.slice la ln lc,.int .i64 k] 89 (0,0))/\k<=ln/\ln<=1000000000000000/\dR w0 la ln/\Ext w0 w/\w0.heap.size<=bd
theorem cg.cR {w0 w w':World} {bd:Nat} {N:ZN} (h:cg w0 w bd) (hc:ct N w w') (hn:bd∉N) (h0:∀x∈N,w0.heap.size<=x):cg w0 w' bd:=by
 obtain⟨la,ln,lc,k,hb,hk,vC,hL,hx,hbd⟩:=h;exact⟨la,ln,lc,k,hc.blk hb hn,hk,vC,hL,hc.ext hx h0,hbd⟩
theorem cg.ext {w0 w w':World} {bd:Nat} (h:cg w0 w bd) (hx:Ext w w'):cg w0 w' bd:=h.cR (hx.cR []) (by simp) (by simp)
def alG (lo hi:Int) (w0:World) (bd:Nat) (w:World) (e:Ending) (w':World):Prop:=∃r:Int,e=.returned (.int .i64 r)/\lo<=r/\r<hi/\cg w0 w' bd/\ct [bd] w w'
theorem dx {w0 w:World} {bd:Nat} (h:cg w0 w bd) (n:Int) (hn:0<n) (hn2:n<=1000000000000000000) :
  Calls Tryz.prog 37 #[.pointer (some ⟨bd,0,none⟩),.int .i64 n] w (alG 0 n w0 bd w):=by
 have HD:=ai h;obtain⟨la,ln,lc,k,hb,hk,vC,hL,hx,hbd⟩:=h;have HB:=ai hb;have qL:=bS hb;obtain⟨c0,c1,cf⟩:=uZ hb;clear hb;by_cases hlt:k<ln
 ·obtain⟨b,off,z,rfl,hz⟩:=hL k hlt;have hz':=hx.cell hz;have hzb:b≠bd:=by have:=eB hz;simp at this;omega
  have HL:=ai hL;have HX:=ai hx;have t1:decide (ln<=k)=false:=by simp;omega
  have t2:((k:Int)+1 - 1)=k:=by omega
  have t3:(0:Int)<=(k:Int):=by omega
  have t4:(k:Int)<(ln:Int):=by omega
  clear hL hx hz HD;go_enter Tryz.func37,Tryz.ntmps37
  go_wp2_with fail;go_quiet (fail)
  go_wp2_with fail;go_quiet (fail)
  go_wp2_with fail;go_ret;have hr:wrap64 (z.tmod n+n)=z.tmod n+n:=by
   have a1:=Int.tmod_lt_of_pos z hn;have a2:=Int.lt_tmod_of_pos z hn;exact IntWalk.wrap64_in (z.tmod n+n) (by omega)
  rw[hr];have a1:=Int.tmod_lt_of_pos z hn;have a2:=Int.tmod_lt_of_pos (z.tmod n+n) hn;have a3:0<=z.tmod n+n:=by
   have:=Int.lt_tmod_of_pos z hn;omega
  have a4:=Int.tmod_nonneg n a3;refine⟨_,rfl,a4,a2,⟨_,ln,lc,k+1,?_,by omega,vC,HL.o,?_,hbd⟩,?_⟩
  ·have:=aI (w.drewN 0) bd 1 _ _ (.int .i64 ((k:Int)+1)) HB.o;exact this
  ·exact((HX.o.drewN _).fV (by simpa using hbd) _).drewN _
  exact(((ct.refl [bd] w).drewN _).setCell (aoX (by simp)) _).drewN _
 have t1:decide (ln<=k)=true:=by simp;omega
 go_enter Tryz.func37,Tryz.ntmps37
 go_wp2_with fail;go_quiet (fail)
 go_wp2_with fail;go_ret;exact⟨0,rfl,by omega,hn,HD.o.ext ((Tz w).drewN _),(ct.refl _ w).drewN _⟩
theorem jG {w0 w:World} {bd:Nat} (h:cg w0 w bd) (lo hi:Int) (h1:lo<=hi) (h2 : -100000000000000000<=lo) (h3:hi<=100000000000000000) :
  Calls Tryz.prog 53 #[.pointer (some ⟨bd,0,none⟩),.int .i64 lo,.int .i64 hi] w (alG lo (hi+1) w0 bd w):=by
 go_enter Tryz.func53,Tryz.ntmps53
 go_wp2_with fail;refine(dx h _ (by omega) (by omega)).mono ?_;rintro e w1 ⟨r,rfl,hr0,hr1,hd,hc⟩;go_wp2_with fail;go_ret;exact⟨lo+r,rfl,by omega,by omega,hd,hc⟩
end Go.Proofs.YtefjomofjejklaaGreatDoor
