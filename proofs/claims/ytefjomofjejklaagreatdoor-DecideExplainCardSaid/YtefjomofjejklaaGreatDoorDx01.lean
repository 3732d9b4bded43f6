/-
  Texts of the claim, joined: Base, Lex1, Lex2, Node1, Node2, LaidT, RowsOf, Valid.
-/
import Derived.Test.YtefjomofjejklaaGreatDoorProg
import Derived.WalkKit
import Derived.Deep.QuietTactic
import Derived.BigQuiet
import Derived.Lib.Hide
import Derived.ProofKit
import Derived.LaidMore
import Derived.OpenShut
import Derived.Deep.Fields
import Derived.Stop.Joined
namespace Go.Proofs.YtefjomofjejklaaGreatDoor
set_option maxRecDepth 100000
set_option maxHeartbeats 32000000
open Go.RowKit
abbrev OA := Option Addr
abbrev BA := ByteArray
abbrev ZB := List BA
abbrev ZI := List Int
abbrev ZN := List Nat
theorem ltc4 {i : Nat} (h : i < 4) : i = 0 \/ i = 1 \/ i = 2 \/ i = 3 := by omega
theorem ltc5 {i : Nat} (h : i < 5) : i = 0 \/ i = 1 \/ i = 2 \/ i = 3 \/ i = 4 := by omega
theorem ltc6 {i : Nat} (h : i < 6) : i = 0 \/ i = 1 \/ i = 2 \/ i = 3 \/ i = 4 \/ i = 5 := by omega
theorem ltc7 {i : Nat} (h : i < 7) : i = 0 \/ i = 1 \/ i = 2 \/ i = 3 \/ i = 4 \/ i = 5 \/ i = 6 := by omega
theorem ltc8 {i : Nat} (h : i < 8) : i = 0 \/ i = 1 \/ i = 2 \/ i = 3 \/ i = 4 \/ i = 5 \/ i = 6 \/ i = 7 := by omega
theorem ltc9 {i : Nat} (h : i < 9) : i = 0 \/ i = 1 \/ i = 2 \/ i = 3 \/ i = 4 \/ i = 5 \/ i = 6 \/ i = 7 \/ i = 8 := by omega
theorem ltc10 {i : Nat} (h : i < 10) : i = 0 \/ i = 1 \/ i = 2 \/ i = 3 \/ i = 4 \/ i = 5 \/ i = 6 \/ i = 7 \/ i = 8 \/ i = 9 := by omega
theorem ltc11 {i : Nat} (h : i < 11) : i = 0 \/ i = 1 \/ i = 2 \/ i = 3 \/ i = 4 \/ i = 5 \/ i = 6 \/ i = 7 \/ i = 8 \/ i = 9 \/ i = 10 := by omega
theorem ltc12 {i : Nat} (h : i < 12) : i = 0 \/ i = 1 \/ i = 2 \/ i = 3 \/ i = 4 \/ i = 5 \/ i = 6 \/ i = 7 \/ i = 8 \/ i = 9 \/ i = 10 \/ i = 11 := by omega
theorem ltc13 {i : Nat} (h : i < 13) : i = 0 \/ i = 1 \/ i = 2 \/ i = 3 \/ i = 4 \/ i = 5 \/ i = 6 \/ i = 7 \/ i = 8 \/ i = 9 \/ i = 10 \/ i = 11 \/ i = 12 := by omega
theorem ltc14 {i : Nat} (h : i < 14) : i = 0 \/ i = 1 \/ i = 2 \/ i = 3 \/ i = 4 \/ i = 5 \/ i = 6 \/ i = 7 \/ i = 8 \/ i = 9 \/ i = 10 \/ i = 11 \/ i = 12 \/ i = 13 := by omega
theorem ltc15 {i : Nat} (h : i < 15) : i = 0 \/ i = 1 \/ i = 2 \/ i = 3 \/ i = 4 \/ i = 5 \/ i = 6 \/ i = 7 \/ i = 8 \/ i = 9 \/ i = 10 \/ i = 11 \/ i = 12 \/ i = 13 \/ i = 14 := by omega
theorem ltc18 {i : Nat} (h : i < 18) : i = 0 \/ i = 1 \/ i = 2 \/ i = 3 \/ i = 4 \/ i = 5 \/ i = 6 \/ i = 7 \/ i = 8 \/ i = 9 \/ i = 10 \/ i = 11 \/ i = 12 \/ i = 13 \/ i = 14 \/ i = 15 \/ i = 16 \/ i = 17 := by omega
theorem ltc19 {i : Nat} (h : i < 19) : i = 0 \/ i = 1 \/ i = 2 \/ i = 3 \/ i = 4 \/ i = 5 \/ i = 6 \/ i = 7 \/ i = 8 \/ i = 9 \/ i = 10 \/ i = 11 \/ i = 12 \/ i = 13 \/ i = 14 \/ i = 15 \/ i = 16 \/ i = 17 \/ i = 18 := by omega
theorem ltc23 {i : Nat} (h : i < 23) : i = 0 \/ i = 1 \/ i = 2 \/ i = 3 \/ i = 4 \/ i = 5 \/ i = 6 \/ i = 7 \/ i = 8 \/ i = 9 \/ i = 10 \/ i = 11 \/ i = 12 \/ i = 13 \/ i = 14 \/ i = 15 \/ i = 16 \/ i = 17 \/ i = 18 \/ i = 19 \/ i = 20 \/ i = 21 \/ i = 22 := by omega
theorem ltc25 {i : Nat} (h : i < 25) : i = 0 \/ i = 1 \/ i = 2 \/ i = 3 \/ i = 4 \/ i = 5 \/ i = 6 \/ i = 7 \/ i = 8 \/ i = 9 \/ i = 10 \/ i = 11 \/ i = 12 \/ i = 13 \/ i = 14 \/ i = 15 \/ i = 16 \/ i = 17 \/ i = 18 \/ i = 19 \/ i = 20 \/ i = 21 \/ i = 22 \/ i = 23 \/ i = 24 := by omega
theorem ltc28 {i : Nat} (h : i < 28) : i = 0 \/ i = 1 \/ i = 2 \/ i = 3 \/ i = 4 \/ i = 5 \/ i = 6 \/ i = 7 \/ i = 8 \/ i = 9 \/ i = 10 \/ i = 11 \/ i = 12 \/ i = 13 \/ i = 14 \/ i = 15 \/ i = 16 \/ i = 17 \/ i = 18 \/ i = 19 \/ i = 20 \/ i = 21 \/ i = 22 \/ i = 23 \/ i = 24 \/ i = 25 \/ i = 26 \/ i = 27 := by omega
def aA (p:Prop):Prop:=p
theorem aA.out {p:Prop} (h:aA p):p:=h
theorem aA.o {p:Prop} (h:aA p):p:=h
theorem ak {p:Prop} (h:p):aA p:=h
theorem ah (p:Prop) [Decidable p] (h:p:=by omega):decide p=true:=decide_eq_true h
theorem aj (p:Prop) [Decidable p] (h:¬p:=by omega):decide p=false:=decide_eq_false h
abbrev aC (o:Int) (n:ByteArray) (a:Option Addr) (b c:Nat) (l h:Int) (d:Option Addr) (e f:Nat):Array Value:=#[.int .i64 o,.string n,.slice a b c,.int .i64 l,.int .i64 h,.slice d e f]
abbrev aH (k:Int) (m:ByteArray) (o:Int) (n:ByteArray) (a:Option Addr) (b c:Nat) (l h:Int) (d:Option Addr) (e f:Nat) (p:Option Addr) (q r:Nat) (z:Int):Array Value:=#[.int .i64 k,.string m,.int .i64 o,.string n,.slice a b c,.int .i64 l,.int .i64 h,.slice d e f,.slice p q r,.int .i64 z]
abbrev aI:=@List.getElem_mem
abbrev aJ:=@Bool.and_eq_true
abbrev aK:=@List.mem_singleton
abbrev aN:=@decide_eq_true_eq
abbrev aO:=@heap_setCell_same
abbrev aP:=@List.findIdx?_eq_some_iff_getElem
abbrev aQ:=@List.mem_append_left
abbrev aS:=@List.mem_append_right
abbrev aT:=@List.mem_append
abbrev aU:=@List.take_succ_eq_append_getElem
abbrev aV:=@List.all_eq_true
abbrev aW:=@Array.getElem?_eq_some_iff
abbrev aX:=@List.eq_nil_of_length_eq_zero
abbrev aY:=@List.take_of_length_le
abbrev aZ:=@List.getElem?_eq_getElem
abbrev bg:=@Nat.le_refl
abbrev bC:=@Nat.le_trans
abbrev bD:=@List.mem_iff_getElem
abbrev bF:=@List.foldl_cons
abbrev bG:=@Array.getElem?_eq_getElem
abbrev bH:=@List.mem_cons_of_mem
abbrev bI:=@List.length_append
abbrev bJ:=@List.findIdx?_eq_none_iff
abbrev bK:=@List.mem_cons
abbrev bM:=@List.getElem_of_mem
abbrev bP:=@List.getElem_cons_zero
abbrev bQ:=@List.not_mem_nil
abbrev bT:=@List.getElem_append_left
abbrev bU:=@Nat.lt_of_lt_of_le
abbrev bV:=@Bool.or_eq_true
abbrev bW:=@Bool.eq_iff_iff
abbrev bZ:=@decide_eq_false_iff_not
abbrev cO:=@Nat.lt_or_ge
abbrev cZ:=@List.getElem_append_right
abbrev dh:=@if_neg
abbrev dw:=@if_pos
abbrev dA:=@List.foldl_nil
abbrev dB:=@decide_eq_true
abbrev dD:=@decide_eq_false
def Ext (w w':World):Prop:=Below w.heap.size w w'
theorem Ext.refl (w:World):Ext w w:=Below.refl _ _
theorem Ext.trans {a b c:World} (h:Ext a b) (k:Ext b c):Ext a c:=Below.trans h (Below.mono k h.size)
theorem Ext.alloc {a w:World} (h:Ext a w) (o:Obj):Ext a (w.alloc o):=Below.alloc h h.size o
theorem Ext.drew {a w:World} (h:Ext a w):Ext a w.drew:=Below.drew h
theorem Ext.size {a w:World} (h:Ext a w):a.heap.size<=w.heap.size:=Below.size h
theorem Ext.cell {w w':World} (h:Ext w w') {p:Addr} {v:Value} (hp:w.cell? p=some v):w'.cell? p=some v:=by
 have hb:p.block<w.heap.size:=by
  unfold World.cell? at hp;by_cases hlt:p.block<w.heap.size
  ·exact hlt
  rw[Array.getElem?_eq_none (by omega)] at hp;cases hp
 rw[Below.cell h hb];exact hp
theorem Ext.frozen {w w':World} (h:Ext w w') {p:Addr} {v:Value} (hp:w.cell? p=some v):w'.frozen? p=w.frozen? p:=by
 have hb:p.block<w.heap.size:=by
  unfold World.cell? at hp;by_cases hlt:p.block<w.heap.size
  ·exact hlt
  rw[Array.getElem?_eq_none (by omega)] at hp;cases hp
 rw[Below.frozen h hb]
def Sub (s w:World):Prop:=∀p v,s.cell? p=some v->w.cell? p=some v
theorem Sub.trans {a b c:World} (h:Sub a b) (k:Sub b c):Sub a c:=fun p v hp=>k p v (h p v hp)
theorem Ext.sub {w w':World} (h:Ext w w'):Sub w w':=fun _ _ hp=>h.cell hp
theorem toList_inj {a b:BA} (h:a.toList=b.toList):a=b:=by
 rw[ByteArray.toList_eq,ByteArray.toList_eq] at h;exact ByteArray.ext (Array.toList_inj.1 h)
theorem Qr (a b:BA):(a.toList==b.toList)=decide (a=b):=by
 rw[bW];simp only[beq_iff_eq,aN];exact⟨toList_inj,fun h=>by rw[h]⟩
instance aZG (x:BA) (l:ZB):Decidable (x∈l):=decidable_of_iff (l.any (fun y=>decide (y=x))=true) (by simp)
inductive Ex where
 | mk (op:Int) (name:BA) (words:ZB) (lo hi:Int) (args:List Ex)
def rP (a:OA) (c:Nat):Prop:=(c=0/\c=0)\/∃b off,a=some ⟨b,off,none⟩
def ji (w:World) (l:ZB) (a:OA) (n c:Nat):Prop :=
 n=l.length/\n<=c/\rP a c/\∀i (h:i<l.length),∃b off,a=some ⟨b,off,none⟩/\w.cell? ⟨b,off+i,none⟩=some (.string l[i])
theorem ji.mono {w w':World} {l:ZB} {a:OA} {n c:Nat} (h:ji w l a n c) (he:Sub w w'):ji w' l a n c :=
 ⟨h.1,h.2.1,h.2.2.1,fun i hi=>by obtain⟨b,off,h1,h2⟩:=h.2.2.2 i hi;exact⟨b,off,h1,he _ _ h2⟩⟩
theorem ji.ext {w w':World} {l:ZB} {a:OA} {n c:Nat} (h:ji w l a n c) (he:Ext w w'):ji w' l a n c:=h.mono he.sub
mutual
def ExD (w:World):Ex->OA->Nat->Nat->OA->Nat->Nat->Prop
 | .mk _ _ words _ _ args,aw,nw,cw,aa,na,ca=>ji w words aw nw cw/\na=args.length/\na<=ca/\rP aa ca/\iK w args aa
def iK (w:World):List Ex->OA->Prop
 | [],_=>True
 | .mk op name words lo hi args::r,a=>∃b off,a=some ⟨b,off,none⟩/\(∃aw nw cw aa na ca,w.cell? ⟨b,off,none⟩=some (.int .i64 op)/\w.cell? ⟨b,off+1,none⟩=some (.string name)/\w.cell? ⟨b,off+2,none⟩=some (.slice aw nw cw) /\
   w.cell? ⟨b,off+3,none⟩=some (.int .i64 lo)/\w.cell? ⟨b,off+4,none⟩=some (.int .i64 hi)/\w.cell? ⟨b,off+5,none⟩=some (.slice aa na ca) /\
   ji w words aw nw cw/\na=args.length/\na<=ca/\rP aa ca/\iK w args aa)/\iK w r (some ⟨b,off+6,none⟩)
end
mutual
theorem ExD.mono {w w':World} (he:Sub w w'):(e:Ex)->(aw:OA)->(nw cw:Nat)->(aa:OA)->(na ca:Nat)->ExD w e aw nw cw aa na ca->ExD w' e aw nw cw aa na ca
 | .mk op name words lo hi args,aw,nw,cw,aa,na,ca,h=>by
  unfold ExD at h ⊢;obtain⟨h1,h2,h3,h4,h5⟩:=h;exact⟨h1.mono he,h2,h3,h4,iK.mono he args aa h5⟩
theorem iK.mono {w w':World} (he:Sub w w'):(l:List Ex)->(a:OA)->iK w l a->iK w' l a
 | [],_,_=>by unfold iK;trivial
 | .mk op name words lo hi args::r,a,h=>by
  unfold iK at h ⊢;obtain⟨b,off,rfl,⟨aw,nw,cw,aa,na,ca,h0,h1,h2,h3,h4,h5,h6,h7,h8,h9,h10⟩,hr⟩:=h;exact⟨b,off,rfl,⟨aw,nw,cw,aa,na,ca,he _ _ h0,he _ _ h1,he _ _ h2,he _ _ h3,he _ _ h4,he _ _ h5,h6.mono he,h7,h8,h9,iK.mono he args aa h10⟩,iK.mono he r _ hr⟩
end
theorem iK.ext {w w':World} (he:Ext w w') (l:List Ex) (a:OA) (h:iK w l a):iK w' l a:=iK.mono he.sub l a h
def Ex.op:Ex->Int|.mk op _ _ _ _ _=>op
def Ex.name:Ex->BA|.mk _ name _ _ _ _=>name
def Ex.words:Ex->ZB|.mk _ _ words _ _ _=>words
def Ex.lo:Ex->Int|.mk _ _ _ lo _ _=>lo
def Ex.hi:Ex->Int|.mk _ _ _ _ hi _=>hi
def Ex.args:Ex->List Ex|.mk _ _ _ _ _ args=>args
def exV (op:Int) (name:BA) (aw:OA) (nw cw:Nat) (lo hi:Int) (aa:OA) (na ca:Nat):Value :=
 .agg #[.int .i64 op,.string name,.slice aw nw cw,.int .i64 lo,.int .i64 hi,.slice aa na ca]
def fC (w:World) (e:Ex) (v:Value):Prop:=∃aw nw cw aa na ca,v=exV e.op e.name aw nw cw e.lo e.hi aa na ca/\ExD w e aw nw cw aa na ca
theorem fC.mono {w w':World} {e:Ex} {v:Value} (h:fC w e v) (he:Sub w w'):fC w' e v:=by
 obtain⟨aw,nw,cw,aa,na,ca,h1,h2⟩:=h;exact⟨aw,nw,cw,aa,na,ca,h1,ExD.mono he _ _ _ _ _ _ _ h2⟩
theorem fC.ext {w w':World} {e:Ex} {v:Value} (h:fC w e v) (he:Ext w w'):fC w' e v:=h.mono he.sub
theorem fC.parts {w:World} {e:Ex} {v:Value} (h:fC w e v):∃aw nw cw aa na ca,v=exV e.op e.name aw nw cw e.lo e.hi aa na ca/\ji w e.words aw nw cw /\
  na=e.args.length/\na<=ca/\rP aa ca/\iK w e.args aa:=by
 obtain⟨op,name,words,lo,hi,args⟩:=e;obtain⟨aw,nw,cw,aa,na,ca,h1,h2⟩:=h;unfold ExD at h2;exact⟨aw,nw,cw,aa,na,ca,h1,h2⟩
theorem fC.mk {w:World} {op lo hi:Int} {name:BA} {words:ZB} {args:List Ex} {aw:OA} {nw cw:Nat} {aa:OA} {na ca:Nat}
  (h1:ji w words aw nw cw) (h2:na=args.length) (h3:na<=ca) (h4:rP aa ca) (h5:iK w args aa):fC w (.mk op name words lo hi args) (exV op name aw nw cw lo hi aa na ca) :=
 ⟨aw,nw,cw,aa,na,ca,rfl,by unfold ExD;exact⟨h1,h2,h3,h4,h5⟩⟩
theorem iK.at {w:World}:(l:List Ex)->(a:OA)->iK w l a->(k:Nat)->(hk:k<l.length) ->
  ∃b off,a=some ⟨b,off,none⟩/\∃aw nw cw aa na ca,w.cell? ⟨b,off+k*6,none⟩=some (.int .i64 l[k].op)/\w.cell? ⟨b,off+k*6+1,none⟩=some (.string l[k].name)/\w.cell? ⟨b,off+k*6+2,none⟩=some (.slice aw nw cw) /\
   w.cell? ⟨b,off+k*6+3,none⟩=some (.int .i64 l[k].lo)/\w.cell? ⟨b,off+k*6+4,none⟩=some (.int .i64 l[k].hi)/\w.cell? ⟨b,off+k*6+5,none⟩=some (.slice aa na ca) /\
   fC w l[k] (exV l[k].op l[k].name aw nw cw l[k].lo l[k].hi aa na ca)
 | [],_,_,k,hk=>by simp at hk
 | .mk op name words lo hi args::r,a,h,0,_=>by
  unfold iK at h;obtain⟨b,off,rfl,⟨aw,nw,cw,aa,na,ca,h0,h1,h2,h3,h4,h5,h6,h7,h8,h9,h10⟩,hr⟩:=h;refine⟨b,off,rfl,aw,nw,cw,aa,na,ca,?_⟩;simp only[Nat.zero_mul,Nat.add_zero];exact⟨h0,h1,h2,h3,h4,h5,fC.mk h6 h7 h8 h9 h10⟩
 | .mk op name words lo hi args::r,a,h,k+1,hk=>by
  unfold iK at h;obtain⟨b,off,rfl,_,hr⟩:=h;obtain⟨b',off',e1,rest⟩:=iK.at r _ hr k (by simpa using hk);simp at e1;obtain⟨rfl,rfl⟩:=e1;have e1:off+6+k*6=off+(k+1)*6:=by omega
  rw[e1] at rest;exact⟨b,off,rfl,by simpa using rest⟩
mutual
def Ex.size:Ex->Nat
 | .mk _ _ _ _ _ args=>1+sizes args
def sizes:List Ex->Nat
 | []=>0
 | e::r=>e.size+sizes r
end
theorem iq:(l:List Ex)->(k:Nat)->(hk:k<l.length)->sizes (l.take (k+1))=sizes (l.take k)+l[k].size
 | [],k,hk=>by simp at hk
 | e::r,0,_=>by simp[sizes]
 | e::r,k+1,hk=>by
  have:=iq r k (by simpa using hk);simp[sizes] at this ⊢;omega
theorem gV:(l:List Ex)->(k:Nat)->sizes (l.take k)<=sizes l
 | [],k=>by simp[sizes]
 | e::r,0=>by simp[sizes]
 | e::r,k+1=>by
  have:=gV r k;simp[sizes];omega
theorem iI:(l:List Ex)->l.length<=sizes l
 | []=>by simp
 | .mk _ _ _ _ _ _::r=>by
  have:=iI r;simp[sizes,Ex.size];omega
def mP (c:Int):Bool:=decide (97<=c/\c<=122)
def jL (c:Int):Bool:=decide (48<=c/\c<=57)
def jy (c:Int):Bool:=mP c||jL c||(c==45)
def Gives (v:Value) (w:World) (e:Ending) (w':World):Prop:=e=.returned v/\w=w'
theorem jk {a b:Bool} {w:World} (h:a=b):Gives (.bool b) w (.returned (.bool a)) w:=by subst h;exact⟨rfl,rfl⟩
theorem yA {k:IntKind} {a b:Int} {w:World} (h:a=b):Gives (.int k b) w (.returned (.int k a)) w:=by subst h;exact⟨rfl,rfl⟩
def dN (v:Value) (w:World) (e:Ending) (w':World):Prop:=e=.returned v/\Ext w w'
theorem dL {a b:Bool} {w w':World} (h:a=b) (hx:Ext w w'):dN (.bool b) w (.returned (.bool a)) w':=by subst h;exact⟨rfl,hx⟩
theorem XR {k:IntKind} {a b:Int} {w w':World} (h:a=b) (hx:Ext w w'):dN (.int k b) w (.returned (.int k a)) w':=by subst h;exact⟨rfl,hx⟩
theorem qY (c:Int) (w:World):Calls Tryz.prog 162 #[.int .u8 c] w (Gives (.bool (mP c)) w):=by
 go_enter Tryz.func162,Tryz.ntmps162
 go_wp2_with fail
 all_goals (go_ret;exact jk (by simp[mP];omega))
theorem EU (c:Int) (w:World):Calls Tryz.prog 179 #[.int .u8 c] w (Gives (.bool (jL c)) w):=by
 go_enter Tryz.func179,Tryz.ntmps179
 go_wp2_with fail
 all_goals (go_ret;exact jk (by simp[jL];omega))
theorem ae8 (c:Int) (w:World):Calls Tryz.prog 164 #[.int .u8 c] w (Gives (.bool (jy c)) w):=by
 go_enter Tryz.func164,Tryz.ntmps164
 go_wp2_with (first
  | (go_at_call 162;refine(qY _ _).mono ?_;rintro e w' ⟨rfl,rfl⟩)
  | (go_at_call 179;refine(EU _ _).mono ?_;rintro e w' ⟨rfl,rfl⟩))
 all_goals (go_ret;exact jk (by simp_all [jy]))
def Kind (f:FuncId) (p:Int->Bool):Prop:=∀(c:Int) (w:World),Calls Tryz.prog f #[.int .u8 c] w (Gives (.bool (p c)) w)
def mY (p:Int->Bool) (s:BA):Nat->Nat->Nat
 | 0,i=>i
 | n+1,i=>if h:i<s.size then (if p (s[i].toNat:Int) then mY p s n (i+1) else i) else i
theorem Eu {p:Int->Bool} {s:BA} {k:Nat} (h:k<s.size) (hp:p (s[k].toNat:Int)=true):mY p s (s.size - k) k=mY p s (s.size - (k+1)) (k+1):=by
 obtain⟨n,hn⟩:∃n,s.size - k=n+1:=⟨s.size - k - 1,by omega⟩
 rw[hn,show s.size - (k+1)=n by omega,mY,dif_pos h,dw hp]
theorem Qx {p:Int->Bool} {s:BA} {k:Nat} (h:k<s.size) (hp:p (s[k].toNat:Int)=false):mY p s (s.size - k) k=k:=by
 obtain⟨n,hn⟩:∃n,s.size - k=n+1:=⟨s.size - k - 1,by omega⟩
 rw[hn,mY,dif_pos h,dh (by simp[hp])]
theorem Vq {p:Int->Bool} {s:BA} {k:Nat} (h:¬k<s.size):mY p s (s.size - k) k=k:=by
 rw[show s.size - k=0 by omega,mY]
theorem Xe (f:FuncId) (p:Int->Bool) (hf:Kind f p) (s:BA) (i:Nat) (w:World) (hs:s.size<=1000000000000000)
  (hc:∀(c:Int) (w:World),Sem.run Tryz.prog (callFunc f #[.int .u8 c]) w=.ok (.enter f #[.int .u8 c]) w) :
  Calls Tryz.prog 163 #[.string s,.int .i64 i,.func (.func f) #[] #[]] w (Gives (.int .i64 (mY p s (s.size - i) i)) w):=by
 have HF:=ak hf;clear hf;go_enter Tryz.func163,Tryz.ntmps163
 go_wp2_with fail
 go_loop [1] (fun t=>∃k:Nat,t=.int .i64 k/\mY p s (s.size - k) k=mY p s (s.size - i) i) (fun t=>s.size - (intOf t).toNat)
 case atStart=>exact⟨i,rfl,rfl⟩
 case round =>
  obtain⟨k,rfl,hk⟩:=hrel;have HK:=ak hk;clear hk;by_cases hlt:k<s.size
  ·cases hp:p (s[k].toNat:Int)
   ·have HP:=ak hp;clear hp;go_wp2_with fail
    refine(HF.o _ _).mono ?_;rintro e w' ⟨rfl,rfl⟩;rw[HP.o];go_wp2_with fail
    go_ret;exact yA (by rw[<-HK.o,Qx hlt HP.o])
   have HP:=ak hp;clear hp;go_wp2_with fail
   refine(HF.o _ _).mono ?_;rintro e w' ⟨rfl,rfl⟩;rw[HP.o];go_wp2_with fail
   go_round
   case rel=>exact⟨k+1,by go_num,by rw[<-HK.o,Eu hlt HP.o]⟩
   case measure=>simp[intOf];omega
  go_wp2_with fail
  go_ret;exact yA (by rw[<-HK.o,Vq hlt])
theorem aft (c:Int) (w:World):Sem.run Tryz.prog (callFunc 164 #[.int .u8 c]) w=.ok (.enter 164 #[.int .u8 c]) w:=by kernel_rfl
def UE:List (List UInt8):=[[97,110,100],[97,118,101,114,97,103,101],[99,111,105,110,115,117,114,97,110,99,101],[99,111,110,100,105,116,105,111,110],[99,111,118,101,114],[100,101,100,117,99,116,105,98,108,101],[100,101,102,105,110,101],[101,110,100],[101,110,100,111,114,115,101],[101,120,99,108,117,100,101],[102,97,108,115,101],[102,114,97,110,99,104,105,115,101],[102,114,111,109],[105,110],[108,105,109,105,116],[110,111,116],[111,114],[114,101,109,111,118,101],[115,117,98,108,105,109,105,116],[116,111],[116,114,117,101],[117,110,108,101,115,115],[119,104,101,110]]
def Vy (s:BA):Bool:=UE.any fun x=>s.toList==x
theorem aj3 (s:BA) (w:World):Calls Tryz.prog 134 #[.string s] w (Gives (.bool (Vy s)) w):=by
 go_enter Tryz.func134,Tryz.ntmps134
 go_wp2_with fail
 all_goals (go_ret;exact jk (by simp_all [Vy,UE]))
def byteAt (s:BA) (i:Nat):Int:=if h:i<s.size then (s[i].toNat:Int) else 0
theorem oD {s:BA} {i:Nat} (h:i<s.size):byteAt s i=(s[i].toNat:Int):=by simp[byteAt,h]
def nR (s:BA):Bool:=s.size != 0&&decide (s.size<=16)&&mP (byteAt s 0)&&(byteAt s (s.size - 1) != 45)&&mY jy s s.size 0==s.size
theorem WV (s:BA) (w:World) (hs:s.size<=1000000000000000):Calls Tryz.prog 133 #[.string s] w (Gives (.bool (nR s)) w):=by
 by_cases h0:s.size=0
 ·have H:=ak (show nR s=false by simp[nR,h0]);have hz:((s.size:Int)==0)=true:=by simp[h0]
  clear h0;go_enter Tryz.func133,Tryz.ntmps133
  go_wp2_with fail
  go_ret;exact jk (by rw[H.o])
 have hz:((s.size:Int)==0)=false:=by simp[h0]
 by_cases h1:s.size<=16
 ·have hb0:=oD (show 0<s.size by omega);have hb1:=oD (show s.size - 1<s.size by omega);cases h2:mP (s[0]'(by omega)).toNat
  ·have H:=ak (show nR s=false by simp[nR,hb0,h2]);have H2:=ak h2;clear h2 hb0 hb1;go_enter Tryz.func133,Tryz.ntmps133
   go_wp2_with fail
   refine(qY _ _).mono ?_;rintro e w' ⟨rfl,rfl⟩;rw[H2.o];go_wp2_with fail
   go_ret;exact jk (by rw[H.o])
  have H2:=ak h2;have HB0:=ak hb0;have HB1:=ak hb1;clear h2 hb0 hb1;cases h3:((s[s.size - 1]'(by omega)).toNat:Int)==45
  ·have H:=ak (show nR s=(mY jy s s.size 0==s.size) by simp[nR,HB0.o,HB1.o,H2.o,h1,h0];intro h;simp at h3;omega);have e1:((s.size:Int) - 1).toNat=s.size - 1:=by omega
   go_enter Tryz.func133,Tryz.ntmps133
   go_wp2_with fail
   refine(qY _ _).mono ?_;rintro e w' ⟨rfl,rfl⟩;rw[H2.o];go_wp2_with fail
   refine(Xe _ jy ae8 s 0 _ hs aft).mono ?_;rintro e w' ⟨rfl,rfl⟩;go_wp2_with fail
   go_ret;refine jk ?_;rw[H.o];rw[bW,beq_iff_eq,beq_iff_eq]
   show ((mY jy s (s.size - 0) 0:Nat):Int)=(s.size:Int) ↔ _
   simp only[Nat.sub_zero];omega
  have H:=ak (show nR s=false by simp[nR,HB0.o,HB1.o,H2.o,h1,h0];intro h;simp at h3;omega);have e1:((s.size:Int) - 1).toNat=s.size - 1:=by omega
  go_enter Tryz.func133,Tryz.ntmps133
  go_wp2_with fail
  refine(qY _ _).mono ?_;rintro e w' ⟨rfl,rfl⟩;rw[H2.o];go_wp2_with fail
  go_ret;exact jk (by rw[H.o])
 have H:=ak (show nR s=false by simp[nR];omega);go_enter Tryz.func133,Tryz.ntmps133
 go_wp2_with fail
 go_ret;exact jk (by rw[H.o])
def nameB (s:BA):Bool:=nR s&&!Vy s
theorem wQ (s:BA) (w:World) (hs:s.size<=1000000000000000):Calls Tryz.prog 103 #[.string s] w (Gives (.bool (nameB s)) w):=by
 go_enter Tryz.func103,Tryz.ntmps103
 go_wp2_with (first
  | (go_at_call 133;refine(WV _ _ hs).mono ?_;rintro e w' ⟨rfl,rfl⟩)
  | (go_at_call 134;refine(aj3 _ _).mono ?_;rintro e w' ⟨rfl,rfl⟩))
 all_goals (go_ret;exact jk (by simp_all [nameB]))
def kL (n:Int):Bool:=decide (-1000000000<=n/\n<=1000000000)
theorem O9 (n:Int) (w:World):Calls Tryz.prog 189 #[.int .i64 n] w (Gives (.bool (kL n)) w):=by
 go_enter Tryz.func189,Tryz.ntmps189
 go_wp2_with fail
 all_goals (go_ret;exact jk (by simp[kL];omega))
def adC (l:ZB) (x:BA):Int:=match l.findIdx? (fun y=>decide (y=x)) with|some i=>i|none => -1
theorem aDt {l:ZB} {x:BA} {k:Nat} (hk:k<l.length) (h1:∀j (hj:j<l.length),j<k->l[j]≠x) (h2:l[k]=x):adC l x=k:=by
 unfold adC;have:l.findIdx? (fun y=>decide (y=x))=some k:=by
  rw[aP];exact⟨hk,by simp[h2],fun j hj=>by simpa using h1 j (by omega) hj⟩
 rw[this]
theorem avH {l:ZB} {x:BA} (h1:∀j (hj:j<l.length),l[j]≠x):adC l x = -1:=by
 unfold adC;have:l.findIdx? (fun y=>decide (y=x))=none:=by
  rw[bJ];intro y hy;obtain⟨j,hj,rfl⟩:=bM hy;simpa using h1 j hj
 rw[this]
theorem anx {l:ZB} {x:BA}:(0<=adC l x) ↔ x∈l:=by
 unfold adC;cases h:l.findIdx? (fun y=>decide (y=x)) with
 | none =>
  rw[bJ] at h;constructor
  ·intro h';simp at h'
  intro h';have:=h x h';simp at this
 | some i =>
  rw[aP] at h;obtain⟨hi,h2,_⟩:=h;constructor
  ·intro _;simp at h2;rw[<-h2];exact aI hi
  intro _;simp
theorem avG (l:ZB) (x:BA) (a:OA) (n c:Nat) (w:World) (hn:n<=1000000000000000) (hl:ji w l a n c) :
  Calls Tryz.prog 180 #[.slice a n c,.string x] w (Gives (.int .i64 (adC l x)) w):=by
 have HL:=ak hl;clear hl;go_enter Tryz.func180,Tryz.ntmps180
 go_wp2_with fail
 go_loop [8] (fun t=>∃k:Nat,t=.int .i64 k/\k<=n/\∀j (hj:j<l.length),j<k->l[j]≠x) (fun t=>n - (intOf t).toNat)
 case atStart=>exact⟨0,rfl,by omega,fun _ _ h=>by omega⟩
 case round =>
  obtain⟨k,rfl,hk,hne⟩:=hrel;have HE:=ak hne;clear hne;by_cases hlt:k<n
  ·have hlt':k<l.length:=by have:=HL.o.1;omega
   obtain⟨b,off,rfl,hcell⟩:=HL.o.2.2.2 k hlt';cases hx:(x.toList==l[k].toList)
   ·go_wp2_with fail
    go_round
    case rel =>
     refine⟨k+1,by go_num,by omega,?_⟩;intro j hj hj2;by_cases hjk:j<k
     ·exact HE.o j hj hjk
     obtain rfl:j=k:=by omega
     intro h;subst h;simp at hx
    case measure=>simp[intOf];omega
   go_wp2_with fail
   go_ret;exact yA (by rw[aDt hlt' HE.o (toList_inj (beq_iff_eq.1 hx)).symm])
  go_wp2_with fail
  go_ret;exact yA (by rw[avH (fun j hj=>HE.o j hj (by have:=HL.o.1;omega))])
theorem uG (l:ZB) (x:BA) (a:OA) (n c:Nat) (w:World) (hn:n<=1000000000000000) (hl:ji w l a n c) :
  Calls Tryz.prog 165 #[.slice a n c,.string x] w (Gives (.bool (decide (x∈l))) w):=by
 have HL:=ak hl;clear hl;go_enter Tryz.func165,Tryz.ntmps165
 go_wp2_with (go_at_call 180;refine(avG l _ _ _ _ _ hn HL.o).mono ?_;rintro e w' ⟨rfl,rfl⟩)
 go_ret;exact jk (by rw[bW];simp[anx])
theorem ji.take {w:World} {l:ZB} {a:OA} {n c:Nat} (h:ji w l a n c) {k:Nat} (hk:k<=n):ji w (l.take k) a k c:=by
 obtain⟨h1,h2,h3,h4⟩:=h;refine⟨by simp;omega,by omega,h3,fun i hi=>?_⟩;have:i<l.length:=by simp at hi;omega
 obtain⟨b,off,e1,e2⟩:=h4 i this;exact⟨b,off,e1,by simpa using e2⟩
def uN (l:ZB):Bool:=l.length != 0&&decide (l.length<=12)&&(l.all nameB)&&decide l.Nodup
def abg (l:ZB) (k:Nat):Prop:=(∀x∈l.take k,nameB x=true)/\(l.take k).Nodup
theorem abg.next {l:ZB} {k:Nat} (h:abg l k) (hk:k<l.length) (h1:nameB l[k]=true) (h2:l[k]∉l.take k):abg l (k+1):=by
 unfold abg at *;rw[aU hk];refine⟨fun x hx=>?_,?_⟩
 ·rcases aT.1 hx with hx|hx
  ·exact h.1 x hx
  simp at hx;subst hx;exact h1
 rw[List.nodup_append];exact⟨h.2,by simp,fun a ha b hb=>by simp at hb;subst hb;intro e;subst e;exact h2 ha⟩
theorem aB4 {l:ZB} (h:abg l l.length) (h0:l.length≠0) (h1:l.length<=12):uN l=true:=by
 unfold abg at h;simp at h;simp[uN,h0,h1,h.2];exact h.1
theorem aoe {l:ZB} {k:Nat} (hk:k<l.length) (h:nameB l[k]=false\/l[k]∈l.take k):uN l=false:=by
 cases hb:uN l
 ·rfl
 simp[uN] at hb;obtain⟨⟨_,h3⟩,h4⟩:=hb;rcases h with h|h
 ·rw[h3 _ (aI hk)] at h;cases h
 have:(l.take (k+1)).Nodup:=h4.sublist (List.take_sublist _ _);rw[aU hk,List.nodup_append] at this;exact absurd rfl (this.2.2 _ h _ (by simp))
theorem atn (l:ZB) (a:OA) (n c:Nat) (w:World) (hl:ji w l a n c) (hsz:∀x∈l,x.size<=1000000000000000) :
  Calls Tryz.prog 188 #[.slice a n c] w (Gives (.bool (uN l)) w):=by
 have HL:=ak hl;have HZ:=ak hsz;have hnc:=hl.2.1;have hnl:=ak hl.1;clear hl hsz;by_cases h0:n=0
 ·have H:=ak (show uN l=false by
   have hl0:l.length=0:=by have:=hnl.out;omega
   simp[uN,hl0])
  have hz:((n:Int)==0)=true:=by simp[h0]
  clear h0;go_enter Tryz.func188,Tryz.ntmps188
  go_wp2_with fail
  go_ret;exact jk (by rw[H.o])
 have hz:((n:Int)==0)=false:=by simp[h0]
 by_cases h1:n<=12
 ·have h12:decide ((12:Int)<n)=false:=by simp;omega
  go_enter Tryz.func188,Tryz.ntmps188
  go_wp2_with fail
  go_loop [15] (fun t=>∃k:Nat,t=.int .i64 k/\k<=n/\abg l k) (fun t=>n - (intOf t).toNat)
  case atStart=>exact⟨0,rfl,by omega,by simp[abg]⟩
  case round =>
   obtain⟨k,rfl,hk,hlo⟩:=hrel;have HO:=ak hlo;clear hlo;by_cases hlt:k<n
   ·have hlt':k<l.length:=by have:=hnl.out;omega
    have hsk:=HZ.o _ (aI hlt');have HT:=ak (HL.o.take hk);obtain⟨b,off,rfl,hcell⟩:=HL.o.2.2.2 k hlt';cases h3:nameB l[k]
    ·have H:=ak (aoe hlt' (Or.inl h3));have H3:=ak h3;clear h3;go_wp2_with fail
     refine(wQ _ _ hsk).mono ?_;rintro e w' ⟨rfl,rfl⟩;rw[H3.o];go_wp2_with fail
     go_ret;exact jk (by rw[H.o])
    have H3:=ak h3;clear h3;by_cases h4:l[k]∈l.take k
    ·have H:=ak (aoe hlt' (Or.inr h4));have H4:=ak h4;clear h4;go_wp2_with fail
     refine(wQ _ _ hsk).mono ?_;rintro e w' ⟨rfl,rfl⟩;rw[H3.o];go_wp2_with fail
     refine(uG _ _ _ _ _ _ (by omega) HT.o).mono ?_;rintro e w' ⟨rfl,rfl⟩;rw[dB H4.o];go_wp2_with fail
     go_ret;exact jk (by rw[H.o])
    have H4:=ak h4;clear h4;go_wp2_with fail
    refine(wQ _ _ hsk).mono ?_;rintro e w' ⟨rfl,rfl⟩;rw[H3.o];go_wp2_with fail
    refine(uG _ _ _ _ _ _ (by omega) HT.o).mono ?_;rintro e w' ⟨rfl,rfl⟩;rw[dD H4.o];go_wp2_with fail
    go_round
    case rel=>exact⟨k+1,by go_num,by omega,HO.o.next hlt' H3.o H4.o⟩
    case measure=>simp[intOf];omega
   go_wp2_with fail
   go_ret;exact jk (by
    have e1:=hnl.out;obtain rfl:k=l.length:=by omega
    rw[aB4 HO.o (by omega) (by omega)])
 have H:=ak (show uN l=false by
  have hl0:¬l.length<=12:=by have:=hnl.out;omega
  simp[uN,hl0])
 go_enter Tryz.func188,Tryz.ntmps188
 go_wp2_with fail
 go_ret;exact jk (by rw[H.o])
def oP (k:Nat):BA:=⟨(([[],[116,114,117,101],[102,97,108,115,101],[],[105,110],[102,114,111,109],[110,111,116],[97,110,100],[111,114]]:List (List UInt8)).getD k []).toArray⟩
def sN (k:Nat):Bool:=[false,false,false,true,true,true,false,false,false].getD k false
def qX (k:Nat):Int:=[0,0,0,0,0,0,1,2,2].getD k 0
def vC (k:Nat):Int:=[0,0,0,0,0,0,1,300,300].getD k 0
def sO (k:Nat):Int:=[0,0,0,0,0,0,3,2,1].getD k 0
def gG (w:World):Prop:=∀k,k<9->w.cell? ⟨0,k*5,none⟩=some (.string (oP k))/\w.cell? ⟨0,k*5+1,none⟩=some (.bool (sN k)) /\
 w.cell? ⟨0,k*5+2,none⟩=some (.int .i64 (qX k))/\w.cell? ⟨0,k*5+3,none⟩=some (.int .i64 (vC k))/\w.cell? ⟨0,k*5+4,none⟩=some (.int .i64 (sO k))
theorem block_lt {w:World} {p:Addr} {v:Value} (hp:w.cell? p=some v):p.block<w.heap.size:=by
 unfold World.cell? at hp;by_cases hlt:p.block<w.heap.size
 ·exact hlt
 rw[Array.getElem?_eq_none (by omega)] at hp;cases hp
theorem gG.ext {w w':World} (h:gG w) (he:Ext w w'):gG w':=fun k hk =>
 ⟨he.cell (h k hk).1,he.cell (h k hk).2.1,he.cell (h k hk).2.2.1,he.cell (h k hk).2.2.2.1,he.cell (h k hk).2.2.2.2⟩
def KG (e:Ex):Bool :=
 decide (1<=e.op/\e.op<=8)&&(decide (qX e.op.toNat<=e.args.length)&&decide ((e.args.length:Int)<=vC e.op.toNat)) &&
 (if sN e.op.toNat then nameB e.name else e.name.toList.isEmpty)&&(if e.op==4 then uN e.words else e.words.isEmpty) &&
 (if e.op==5 then kL e.lo&&kL e.hi&&decide (e.lo<=e.hi) else (e.lo==0)&&(e.hi==0))
theorem akQ (op lo hi:Int) (name:BA) (words:ZB) (args:List Ex) (nw na:Nat) (h1:nw=words.length) (h2:na=args.length):KG (.mk op name words lo hi args) =
 (decide (1<=op/\op<=8)&&(decide (qX op.toNat<=na)&&decide ((na:Int)<=vC op.toNat)) &&
 (if sN op.toNat then nameB name else name.toList.isEmpty)&&(if op==4 then uN words else decide (nw=0)) &&
 (if op==5 then kL lo&&kL hi&&decide (lo<=hi) else (lo==0)&&(hi==0))):=by
 subst h1 h2;have:words.isEmpty=decide (words.length=0):=by cases words<;>simp
 simp only[KG,Ex.op,Ex.name,Ex.words,Ex.lo,Ex.hi,Ex.args,this]
 rfl
theorem aDb (k:Nat) (lo hi:Int) (name:BA) (words:ZB) (args:List Ex) (nw na:Nat) (h1:nw=words.length) (h2:na=args.length) (hk:1<=k/\k<9):KG (.mk k name words lo hi args) =
 ((decide (qX k<=na)&&decide ((na:Int)<=vC k)) &&
 (if sN k then nameB name else name.toList.isEmpty)&&(if (k:Int)==4 then uN words else decide (nw=0)) &&
 (if (k:Int)==5 then kL lo&&kL hi&&decide (lo<=hi) else (lo==0)&&(hi==0))):=by
 rw[akQ _ _ _ _ _ _ nw na h1 h2,Int.toNat_natCast,dB (show 1<=(k:Int)/\(k:Int)<=8 by omega),Bool.true_and]
theorem ay8 (e:Ex) (v:Value) (w:World) (he:fC w e v) (ho:gG w) (hs:e.name.size<=1000000000000000) (hws:∀x∈e.words,x.size<=1000000000000000) :
  Calls Tryz.prog 184 #[v] w (dN (.bool (KG e)) w):=by
 obtain⟨aw,nw,cw,aa,na,ca,rfl,hw,hna,hca,ha,hx⟩:=he.parts;clear he hx ha hca;have HNW:=ak hw.1;have nK:=ak hna;have HW:=ak hw;have HS:=ak hws;clear hw hws hna;obtain⟨op,name,words,lo,hi,args⟩:=e;simp only[Ex.op,Ex.name,Ex.words,Ex.lo,Ex.hi,Ex.args] at *;unfold exV;by_cases h1:1<=op
 ·by_cases h8:op<=8
  ·obtain⟨k,rfl⟩:=Int.eq_ofNat_of_zero_le (show 0<=op by omega);have hk:k<9:=by omega
   obtain⟨o0,o1,o2,o3,o4⟩:=ho k hk;have hbk:=block_lt o0;simp only at hbk;clear ho;have HB:=ak (aDb k lo hi name words args nw na HNW.o nK.o (by omega));generalize KG (.mk k name words lo hi args)=B at *;have hl1:(0:Int)<=qX k:=by unfold qX;match k,hk with|0,_|1,_|2,_|3,_|4,_|5,_|6,_|7,_|8,_=>decide
   generalize qX k=ol,vC k=om,sN k=on,oP k=ow,sO k=ob at *;have t1:decide ((k:Int)<1)=false:=by simp;omega
   have t2:decide (8<(k:Int))=false:=by simp;omega
   by_cases h2:ol<=na
   ·by_cases h3:(na:Int)<=om
    ·have t3:decide ((na:Int)<ol)=false:=by simp;omega
     have t4:decide (om<(na:Int))=false:=by simp;omega
     go_enter Tryz.func184,Tryz.ntmps184
     go_wp2_with (first
      | (go_at_call 103;refine(wQ _ _ hs).mono ?_;rintro e w' ⟨rfl,rfl⟩)
      | (go_at_call 188;refine(atn words _ _ _ _ (HW.o.ext (((Ext.refl w).alloc _).alloc _)) HS.o).mono ?_;rintro e w' ⟨rfl,rfl⟩)
      | (go_at_call 189;refine(O9 _ _).mono ?_;rintro e w' ⟨rfl,rfl⟩))
     all_goals (go_ret;exact dL (by rw[HB.o];simp_all;try omega) (((Ext.refl w).alloc _).alloc _))
    have H:=ak (show B=false by rw[HB.o];simp[h3]);have t3:decide ((na:Int)<ol)=false:=by simp;omega
    have t4:decide (om<(na:Int))=true:=by simp;omega
    go_enter Tryz.func184,Tryz.ntmps184
    go_wp2_with fail
    go_ret;exact dL (by rw[H.o]) (((Ext.refl w).alloc _).alloc _)
   have H:=ak (show B=false by rw[HB.o];simp[h2]);have t3:decide ((na:Int)<ol)=true:=by simp;omega
   go_enter Tryz.func184,Tryz.ntmps184
   go_wp2_with fail
   go_ret;exact dL (by rw[H.o]) (((Ext.refl w).alloc _).alloc _)
  have H:=ak (show KG (.mk op name words lo hi args)=false by rw[akQ op lo hi name words args nw na HNW.o nK.o];simp[h8]);have t1:decide (op<1)=false:=by simp;omega
  have t2:decide (8<op)=true:=by simp;omega
  go_enter Tryz.func184,Tryz.ntmps184
  go_wp2_with fail
  go_ret;exact dL (by rw[H.o]) ((Ext.refl w).alloc _)
 have H:=ak (show KG (.mk op name words lo hi args)=false by rw[akQ op lo hi name words args nw na HNW.o nK.o];simp[h1]);have t1:decide (op<1)=true:=by simp;omega
 go_enter Tryz.func184,Tryz.ntmps184
 go_wp2_with fail
 go_ret;exact dL (by rw[H.o]) ((Ext.refl w).alloc _)
open Go.ChangeShapes Go.WideShapes Go.ChangeAt Go.WideMaps Go.WideElems Go.RowKit
theorem own:ownKnob Tryz.prog.godebug=none:=by kernel_rfl
theorem aDT:Tryz.prog.globalNamed "treaty/syntax.operators" = some 0:=by kernel_rfl
theorem aCe:(Tryz.prog.globals[0]?).map (·.type)=some 244:=by kernel_rfl
theorem aB':Tryz.prog.underlying 244=some (.array 9 243):=by kernel_rfl
theorem arj:(Tryz.prog.underlying 243).bind (fun u=>match u with|.struct fs=>some (fs.toList.map (fun f=>(f.type,f.offset)))|_=>none)=some [(9,0),(4,1),(3,2),(3,3),(3,4)]:=by kernel_rfl
theorem uOp:∃fs:Array Field,Tryz.prog.underlying 243=some (.struct fs)/\fs.toList.map (fun f=>(f.type,f.offset))=[(9,0),(4,1),(3,2),(3,3),(3,4)]:=by
 have h:=arj;generalize Tryz.prog.underlying 243=U at *
 match U,h with
 | some (.struct fs),h=>exact⟨fs,rfl,by simpa using h⟩
theorem cOp:Tryz.prog.cellsOf 243=5:=by kernel_rfl
theorem cS:Tryz.prog.cellsOf 9=1:=by kernel_rfl
theorem cB:Tryz.prog.cellsOf 4=1:=by kernel_rfl
theorem cI:Tryz.prog.cellsOf 3=1:=by kernel_rfl
theorem uS:Tryz.prog.underlying 9=some .string:=by kernel_rfl
theorem uB:Tryz.prog.underlying 4=some .bool:=by kernel_rfl
theorem uI:Tryz.prog.underlying 3=some (.int .i64):=by kernel_rfl
theorem iV {aat:Array Field} (j:Nat) (t:TypeId) (o:Nat) (h:(aat.toList.map (fun f=>(f.type,f.offset)))[j]?=some (t,o)):∃f,aat[j]?=some f/\f.type=t/\f.offset=o:=by
 rw[List.getElem?_map] at h;cases hf:aat.toList[j]? with
 | none=>rw[hf] at h;cases h
 | some f =>
  rw[hf] at h;simp only[Option.map_some,Option.some.injEq,Prod.mk.injEq] at h;exact⟨f,by simpa using hf,h.1,h.2⟩
theorem avk {α:Type} (l:List α) (h:l.length=5):∃a b c d e,l=[a,b,c,d,e]:=by
 rcases l with _|⟨a,_|⟨b,_|⟨c,_|⟨d,_|⟨e,_|⟨f,r⟩⟩⟩⟩⟩⟩<;>simp at h
 exact⟨a,b,c,d,e,rfl⟩
theorem VH {H:Type} {enc:TypeId×Value->H} {W:World} {base n:Nat} {sp:Nat->Bool} {held:Bool} {cs:List Value} {y:DataW H×List MemPlace} (h:DataW.trod enc Tryz.prog W base sp held n 243 cs=some y) {s:List UInt8} {b:Bool} {l m k:Int}
  (hy:y.1=.agg [.lit (.string s),.lit (.bool b),.lit (.int .i64 l),.lit (.int .i64 m),.lit (.int .i64 k)]):cs=[.string ⟨s.toArray⟩,.bool b,.int .i64 l,.int .i64 m,.int .i64 k]:=by
 obtain⟨aat,uO,are⟩:=uOp;obtain⟨xs,r,rfl,rfl,hlen,hxl,hf⟩:=DataW.trod_struct uO h;have e5:aat.size=5:=by have:=congrArg List.length are;simpa using this
 rw[e5] at hxl;rw[cOp] at hlen;obtain⟨c0,c1,c2,c3,c4,rfl⟩:=avk cs hlen;obtain⟨x0,x1,x2,x3,x4,rfl⟩:=avk xs hxl
 skip
 obtain⟨f0,g0,t0,o0⟩:=iV 0 _ _ (by rw[are];rfl);obtain⟨f1,g1,t1,o1⟩:=iV 1 _ _ (by rw[are];rfl);obtain⟨f2,g2,t2,o2⟩:=iV 2 _ _ (by rw[are];rfl);obtain⟨f3,g3,t3,o3⟩:=iV 3 _ _ (by rw[are];rfl);obtain⟨f4,g4,t4,o4⟩:=iV 4 _ _ (by rw[are];rfl);have r0:=hf 0 f0 g0;have r1:=hf 1 f1 g1;have r2:=hf 2 f2 g2;have r3:=hf 3 f3 g3;have r4:=hf 4 f4 g4;rw[t0,o0,cS] at r0;rw[t1,o1,cB] at r1;rw[t2,o2,cI] at r2;rw[t3,o3,cI] at r3;rw[t4,o4,cI] at r4;obtain⟨s',a0,b0,_⟩:=DataW.trod_string uS r0;obtain⟨b',a1,b1⟩:=DataW.trod_bool uB r1;obtain⟨l',a2,b2,_⟩:=DataW.trod_int uI r2;obtain⟨m',a3,b3,_⟩:=DataW.trod_int uI r3;obtain⟨k',a4,b4,_⟩:=DataW.trod_int uI r4;simp at a0 a1 a2 a3 a4;subst a0 a1 a2 a3 a4 b0 b1 b2 b3 b4;simp at hy;obtain⟨h0,h1,h2,h3,h4⟩:=hy;subst h0 h1 h2 h3 h4;simp
structure zh (t e:TypeId) (z:Value) (size bytes:Nat):Prop where
 ht:Tryz.prog.underlying t=some (.slice e)
 info:(Tryz.prog.info? e).map (fun i=>(i.zero,i.size,i.bytes))=some (some z,size,bytes)
 hzs:z.cells.size=size
 hsz:0<size
def iF {α:Type} (w:World) (size:Nat) (f:α->List Value) (l:List α) (a:OA) (n c:Nat):Prop :=
 n=l.length/\n<=c/\rP a c/\∀i (h:i<l.length),∃b off,a=some ⟨b,off,none⟩/\∀j (hj:j<(f l[i]).length),w.cell? ⟨b,off+i*size+j,none⟩=some (f l[i])[j]
theorem iF.mono {α:Type} {w w':World} {size:Nat} {f:α->List Value} {l:List α} {a:OA} {n c:Nat} (h:iF w size f l a n c) (he:Sub w w'):iF w' size f l a n c :=
 ⟨h.1,h.2.1,h.2.2.1,fun i hi=>by obtain⟨b,off,h1,h2⟩:=h.2.2.2 i hi;exact⟨b,off,h1,fun j hj=>he _ _ (h2 j hj)⟩⟩
theorem kJ {α:Type} (f:α->List Value) (size:Nat) (hf:∀x,(f x).length=size):(l:List α)->(i:Nat)->(hi:i<l.length)->(j:Nat)->(hj:j<(f l[i]).length)->(l.flatMap f)[i*size+j]?=some (f l[i])[j]
 | [],i,hi,_,_=>by simp at hi
 | x::r,0,_,j,hj=>by
  simp only[bP] at hj;simp only[List.flatMap_cons,Nat.zero_mul,Nat.zero_add,bP];rw[List.getElem?_append_left hj,aZ hj]
 | x::r,i+1,hi,j,hj=>by
  have:=kJ f size hf r i (by simpa using hi) j (by simpa using hj);simp only[List.flatMap_cons,List.getElem_cons_succ] at *;rw[List.getElem?_append_right (by rw[hf,Nat.succ_mul];omega),hf,show (i+1)*size+j - size=i*size+j by rw[Nat.succ_mul];omega];exact this
theorem iD {α:Type} (f:α->List Value) (size:Nat) (hf:∀x,(f x).length=size):(l:List α)->(l.flatMap f).length=l.length*size
 | []=>by simp
 | x::r=>by simp only[List.flatMap_cons,bI,hf,iD f size hf r,List.length_cons,Nat.succ_mul];omega
theorem iF.kZ {α:Type} {w:World} {base:Nat} {e:TypeId} {size:Nat} {f:α->List Value} {l:List α} {v:Value} (hf:∀x,(f x).length=size) (h:w.ownsRow base e size v l.length (l.flatMap f)) :
  ∃a c,v=.slice a l.length c/\iF w size f l a l.length c:=by
 rcases h.2 with ⟨rfl,h0⟩|⟨g,cap,cur,rfl,_,hg,hle,_,_,_⟩
 ·have:l=[]:=aX h0;subst this;exact⟨none,0,rfl,rfl,by simp,Or.inl ⟨rfl,rfl⟩,fun i hi=>by simp at hi⟩
 refine⟨some ⟨g,0,none⟩,cap,rfl,rfl,hle,Or.inr ⟨g,0,rfl⟩,fun i hi=>⟨g,0,rfl,fun j hj=>?_⟩⟩;rw[Nat.zero_add,h.cellAt _ ?_]
 ·exact kJ f size hf l i hi j hj
 rw[hf] at hj
 calc i*size+j<i*size+size:=by omega
  _=(i+1)*size:=by rw[Nat.succ_mul]
  _<=l.length*size:=Nat.mul_le_mul_right _ hi
theorem jF {w w':World} {base:Nat} {e:TypeId} {size:Nat} {v:Value} {n:Nat} {xs:List Value} (h:w.ownsRow base e size v n xs) (he:Ext w w'):w'.ownsRow base e size v n xs :=
 h.kept (row:=none) ⟨he.os,he.tape,he.output,he.size,fun k hk _=>he.block k hk⟩ (by cases hv:v.ownBlock<;>simp)
theorem Ext.grown {a w w':World} {row:Option Nat} (h:Ext a w) (hg:w.grownBy w' row) (hr:∀k,row=some k->a.heap.size<=k):Ext a w':=Below.grown h hg h.size hr
theorem oH {t e:TypeId} {z:Value} {size bytes:Nat} (E:zh t e z size bytes) {ops:Array Oper} {rest:List Oper} {o:Oper} {a:Act} {Q:Exit->Act->World->Prop} {X:World} {arr:Array Value} {tt:TypeId}
  (hgd:o.guard=none) (s x:Operand) (ho:o.op=.call { callee:=.builtin .append,args:=#[s,x],argTypes:=#[t,t] }) (base:Nat) (v:Value) (n:Nat) (xs:List Value) (hs:a.eval s=v) (hown:X.ownsRow base e size v n xs)
  (B m c:Nat) (hx:a.eval x=.slice (some ⟨B,0,none⟩) m c) (hB:B=X.heap.size) (hl:arr.size=m*size) (h1:∀u∈arr.toList,u.oneCell'=true) (hm:n+m<=maxLen) (hb:(n+m)*bytes<=140737488355328) (hbase:base<=X.heap.size)
  (h:∀v' w',w'.ownsRow base e size v' (n+m) (xs++arr.toList)->X.grownBy w' v.ownBlock->wpList Tryz.prog ops Q rest (a.put o.dst v') w'):wpList Tryz.prog ops Q (o::rest) a (X.alloc (.cells arr tt)):=by
 subst hB;obtain⟨i,hi,hz,hsz,hby⟩:=info_parts E.info;refine wpList_append_own (X.alloc (.cells arr tt)) hgd s x t ho base e i z size bytes E.ht hi hz hsz hby E.hzs E.hsz v n xs hs (hown.alloc _) ⟨X.heap.size,0,none⟩ m c arr.toList hx (by simpa using hl) ?_ h1 hm hb (by simp;omega) ?_
 ·intro j u hu;have:(⟨X.heap.size,0,none⟩:Addr).add j=⟨X.heap.size,j,none⟩:=by unfold Addr.add;split<;>simp_all
  rw[this,World.cell?_alloc_at _ _ _ _ rfl];simpa using hu
 intro v' w' h2 h3 _;refine h v' w' h2 ⟨h3.os,h3.tape,h3.output,?_,fun k hk hne=>?_⟩
 ·have:=h3.size;simp at this;omega
 rw[h3.block k (by simp;omega) hne];exact Below.heap_alloc _ _ _ hk
theorem IG {w:World} {base:Nat} {e:TypeId} {size:Nat} {v:Value} {n:Nat} {xs:List Value} (h:w.ownsRow base e size v n xs):∀k,v.ownBlock=some k->base<=k:=fun k hk=>(h.lt k hk).1
theorem World.acz (w:World) (p:Addr) (u v:Value):(w.setCell p u).setCell p v=w.setCell p v:=by
 simp only[World.setCell,World.mk.injEq,and_true]
 apply Array.ext_getElem?
 intro i;simp only[Array.getElem?_modify];split
 ·cases w.heap[i]? with
  | none=>rfl
  | some o =>
   simp only[Option.map_some,Option.some.injEq];cases o with
   | cells c el fr =>
    by_cases h:p.spot.isSome
    ·simp[h]
    simp only[h,Bool.false_eq_true,if_false,Obj.cells.injEq,and_true]
    apply Array.ext_getElem?
    intro j;simp only[Array.getElem?_setIfInBounds,Array.size_setIfInBounds];split
    ·split<;>simp_all
    rfl
   | _=>rfl
 rfl
theorem Ext.set {a b:World} (h:Ext a b) (p:Addr) (v:Value):Ext (a.setCell p v) (b.setCell p v):=by
 refine⟨h.os,h.tape,h.output,by simp;exact h.size,fun k hk=>?_⟩;have hk':k<a.heap.size:=by simpa using hk
 simp only[World.setCell,Array.getElem?_modify];rw[h.block k hk']
theorem Ext.jl {a b:World} (h:Ext a b) {p:Addr} (hp:a.heap.size<=p.block) (v:Value):Ext a (b.setCell p v):=Below.setCell h hp v
mutual
def Ex.fits:Ex->Prop
 | .mk _ name words _ _ args=>name.size<=1000000000000000/\(∀x∈words,x.size<=1000000000000000)/\nJ args
def nJ:List Ex->Prop
 | []=>True
 | e::r=>e.fits/\nJ r
end
theorem XT:(l:List Ex)->nJ l->(k:Nat)->(hk:k<l.length)->l[k].fits
 | [],_,k,hk=>by simp at hk
 | e::r,h,0,_=>by unfold nJ at h;exact h.1
 | e::r,h,k+1,hk=>by unfold nJ at h;simpa using XT r h.2 k (by simpa using hk)
theorem vG {e:Ex} (h:e.fits):e.name.size<=1000000000000000/\(∀x∈e.words,x.size<=1000000000000000)/\nJ e.args:=by
 cases e;unfold Ex.fits at h;exact h
mutual
def sD:Ex->Int->Int->Bool×Int
 | .mk op name words lo hi args,d,n =>
  if 300<n+1\/16<d\/KG (.mk op name words lo hi args)=false then (false,n+1) else uT args (d+1) (n+1)
def uT:List Ex->Int->Int->Bool×Int
 | [],_,n=>(true,n)
 | e::r,d,n=>if (sD e d n).1 then uT r d (sD e d n).2 else (false,(sD e d n).2)
end
theorem abr (e:Ex) (d n:Int):sD e d n=if 300<n+1\/16<d\/KG e=false then (false,n+1) else uT e.args (d+1) (n+1):=by
 cases e;rw[sD];rfl
theorem aqu (l:List Ex) (k:Nat) (hk:k<l.length) (d n:Int):uT (l.drop k) d n=if (sD l[k] d n).1 then uT (l.drop (k+1)) d (sD l[k] d n).2 else (false,(sD l[k] d n).2):=by
 rw[List.drop_eq_getElem_cons hk,uT]
mutual
theorem aoh:(e:Ex)->(d n:Int)->n<=300->n<(sD e d n).2/\(sD e d n).2<=301
 | .mk op name words lo hi args,d,n,h=>by
  rw[sD];split
  ·constructor<;>simp<;>omega
  have:=ai6 args (d+1) (n+1) (by omega);omega
theorem ai6:(l:List Ex)->(d n:Int)->n<=300->n<=(uT l d n).2/\(uT l d n).2<=301
 | [],d,n,h=>by simp[uT];omega
 | e::r,d,n,h=>by
  have h1:=aoh e d n h;have h3:=af7 e d n;rw[uT];split
  ·rename_i hok
   have:=ai6 r d (sD e d n).2 (h3 hok);omega
  simp only;omega
theorem af7:(e:Ex)->(d n:Int)->(sD e d n).1=true->(sD e d n).2<=300
 | .mk op name words lo hi args,d,n=>by
  rw[sD];split
  ·simp
  exact ai5 args (d+1) (n+1) (by omega)
theorem ai5:(l:List Ex)->(d n:Int)->n<=300->(uT l d n).1=true->(uT l d n).2<=300
 | [],d,n,h=>by simp[uT];omega
 | e::r,d,n,h=>by
  rw[uT];split
  ·rename_i hok
   exact ai5 r d _ (af7 e d n hok)
  simp
end
def aI4 (r:Bool×Int) (p:Addr) (w:World) (x:Ending) (w':World):Prop:=x=.returned (.bool r.1)/\Ext (w.setCell p (.int .i64 r.2)) w'
theorem Vj {b:Bool} {R:Bool×Int} {b':Bool} {n:Int} {p:Addr} {w w':World} (h:R=(b',n)) (hb:b=b') (hx:Ext (w.setCell p (.int .i64 n)) w'):aI4 R p w (.returned (.bool b)) w':=by
 subst h hb;exact⟨rfl,hx⟩
theorem atw (m:Nat):∀(e:Ex) (v:Value) (w0 w:World) (bs:Nat) (d n:Int),e.size<=m->fC w0 e v->gG w0->e.fits->Ext w0 w->w0.heap.size<=bs->w.cell? ⟨bs,0,none⟩=some (.int .i64 n)->w.frozen? ⟨bs,0,none⟩=false ->
  0<=n->n<=300->0<=d->d<=17->Calls Tryz.prog 168 #[v,.int .i64 d,.pointer (some ⟨bs,0,none⟩)] w (aI4 (sD e d n) ⟨bs,0,none⟩ w):=by
 induction m with
 | zero=>intro e v w0 w bs d n h;cases e;simp[Ex.size] at h
 | succ m ih =>
  intro e v w0 w bs d n hm he ho hf hx hbs hc hz hn0 hn hd0 hd;have IH:=ak ih;clear ih;have HE:=ak he;have HO:=ak ho;have HF:=ak hf;have HX:=ak hx;have hbw:=block_lt hc;simp only at hbw;obtain⟨aw,nw,cw,aa,na,ca,rfl,hw,hna,hca,ha,hxs⟩:=he.parts;have Eh:=ak hxs;have nK:=ak hna;have hse:e.size=1+sizes e.args:=by cases e;simp[Ex.size,Ex.args]
  have HM:=ak (show 1+sizes e.args<=m+1 by omega);clear he ho hf hx hw hca ha hxs hna hse hm;by_cases h1:300<n+1
  ·have H:=ak (show sD e d n=(false,n+1) by rw[abr,dw (Or.inl h1)]);generalize sD e d n=R at *;unfold exV;go_enter Tryz.func168,Tryz.ntmps168
   go_wp2_with fail
   go_ret;exact Vj H.o rfl ((Ext.refl _).alloc _)
  by_cases h2:16<d
  ·have H:=ak (show sD e d n=(false,n+1) by rw[abr,dw (Or.inr (Or.inl h2))]);generalize sD e d n=R at *;unfold exV;go_enter Tryz.func168,Tryz.ntmps168
   go_wp2_with fail
   go_ret;exact Vj H.o rfl ((Ext.refl _).alloc _)
  have HN:aA (∀w1,Ext w0 w1->Calls Tryz.prog 184 #[exV e.op e.name aw nw cw e.lo e.hi aa na ca] w1 (dN (.bool (KG e)) w1)):=fun w1 h =>
   ay8 e _ w1 (HE.o.ext h) (HO.o.ext h) (vG HF.o).1 (vG HF.o).2.1
  cases h3:KG e
  ·have H:=ak (show sD e d n=(false,n+1) by rw[abr,dw (Or.inr (Or.inr h3))]);have H3:=ak h3;clear h3;generalize sD e d n=R at *;unfold exV at *;go_enter Tryz.func168,Tryz.ntmps168
   go_wp2_with fail
   refine(HN.o _ (Ext.alloc (HX.o.jl hbs _) _)).mono ?_;rintro r w1 ⟨rfl,hw1⟩;rw[H3.o];go_wp2_with fail
   go_ret;exact Vj H.o rfl (((Ext.refl _).alloc _).trans hw1)
  have H:=ak (show sD e d n=uT e.args (d+1) (n+1) by rw[abr,dh (by simp[h3];omega)]);have H3:=ak h3;have hna:na<=300:=by
   have:=h3;unfold KG at this;simp only[aJ,aN] at this;have h4:=this.1.1.1.2.2;have h5:vC e.op.toNat<=300:=by
    obtain⟨k,hk⟩:=Int.eq_ofNat_of_zero_le (show 0<=e.op by omega);rw[hk] at this ⊢;have:k<9:=by omega
    unfold vC
    match k,this with|0,_|1,_|2,_|3,_|4,_|5,_|6,_|7,_|8,_=>decide
   have:=nK.o;omega
  clear h3;generalize sD e d n=R at *;unfold exV at *;go_enter Tryz.func168,Tryz.ntmps168
  go_wp2_with fail
  refine(HN.o _ (Ext.alloc (HX.o.jl hbs _) _)).mono ?_;rintro r w1 ⟨rfl,hw1⟩;rw[H3.o];have hx5:w1.cell? ⟨w.heap.size,5,none⟩=some (.slice aa na ca):=hw1.cell (by go_simp);have hw2:=ak hw1;clear hw1;go_wp2_with fail
  go_loopw [30] (fun i wr=>∃(k:Nat) (c:Int),k<=na/\i=.int .i64 k/\0<=c/\c<=300/\uT (e.args.drop k) (d+1) c=R/\Ext (w.setCell ⟨bs,0,none⟩ (.int .i64 c)) wr) (fun i _=>na - (intOf i).toNat)
  case atStart=>exact⟨0,n+1,by omega,rfl,by omega,by omega,by rw[List.drop_zero,H.o],((Ext.refl _).alloc _).trans hw2.out⟩
  case round =>
   obtain⟨k,c,hk,rfl,hc0,hc1,hR,hwr⟩:=hrel;have HR:=ak hR;have HWR:=ak hwr;clear hR hwr hx5 hw2;by_cases hlt:k<na
   ·have hlt':k<e.args.length:=by have:=nK.o;omega
    have hsz:e.args[k].size<=m:=by
     have h1:=iq e.args k hlt';have h2:=gV e.args (k+1);have:=HM.o;omega
    have hx0:=ak (show Ext w0 wr from(HX.o.jl hbs _).trans HWR.o);have hcc:wr.cell? ⟨bs,0,none⟩=some (.int .i64 c):=HWR.o.cell (World.cell?_setCell_same _ _ _ hc);have hcz:wr.frozen? ⟨bs,0,none⟩=false:=by rw[HWR.o.frozen (World.cell?_setCell_same _ _ _ hc)];simpa using hz
    have hbr:=block_lt hcc;simp only at hbr;obtain⟨b,off,rfl,rJ,rF,rH,rM,rG,ca1,g0,g1,g2,g3,g4,g5,g6⟩:=iK.at e.args _ Eh.o k hlt';have f0:=hx0.out.cell g0;have f1:=hx0.out.cell g1;have f2:=hx0.out.cell g2;have f3:=hx0.out.cell g3;have f4:=hx0.out.cell g4;have f5:=hx0.out.cell g5;have hcall:=ak (fun (w1:World) (hw:Ext wr w1)=>IH.o e.args[k] (exV e.args[k].op e.args[k].name rJ rF rH e.args[k].lo e.args[k].hi rM rG ca1) w0 w1 bs (d+1) c hsz g6 HO.o
     (XT _ (vG HF.o).2.2 k hlt') (hx0.out.trans hw) hbs (hw.cell hcc) (by rw[hw.frozen hcc];exact hcz) hc0 hc1 (by omega) (by omega))
    clear g0 g1 g2 g3 g4 g5 g6 hc hz;unfold exV at hcall;have HS:=ak (aqu e.args k hlt' (d+1) c);have HD:=ak (aoh e.args[k] (d+1) c hc1);have HK:=ak (af7 e.args[k] (d+1) c);generalize sD e.args[k] (d+1) c=S at *;obtain⟨sb,sn⟩:=S;cases sb
    ·go_wp2_with fail
     refine(hcall.out _ ((Ext.refl wr).alloc _)).mono ?_;rintro r w1 ⟨rfl,hw1⟩;go_wp2_with fail
     go_ret;refine Vj (HR.o.symm.trans HS.o) rfl ?_;have h1:=(((Ext.refl wr).alloc (.cells #[.int .i64 e.args[k].op,.string e.args[k].name,.slice rJ rF rH,.int .i64 e.args[k].lo,.int .i64 e.args[k].hi,.slice rM rG ca1] 45)).set ⟨bs,0,none⟩ (.int .i64 sn)).trans hw1;have h2:=(HWR.o.set ⟨bs,0,none⟩ (.int .i64 sn)).trans h1;rw[World.acz] at h2;exact h2
    go_wp2_with fail
    refine(hcall.out _ ((Ext.refl wr).alloc _)).mono ?_;rintro r w1 ⟨rfl,hw1⟩;have HW1:=ak hw1;clear hw1;go_wp2_with fail
    go_roundw
    case rel =>
     refine⟨k+1,sn,by omega,by go_num,?_,HK.o (by trivial),HS.o.symm.trans HR.o,?_⟩
     ·have:=HD.o;omega
     have h1:=(((Ext.refl wr).alloc (.cells #[.int .i64 e.args[k].op,.string e.args[k].name,.slice rJ rF rH,.int .i64 e.args[k].lo,.int .i64 e.args[k].hi,.slice rM rG ca1] 45)).set ⟨bs,0,none⟩ (.int .i64 sn)).trans HW1.o;have h2:=(HWR.o.set ⟨bs,0,none⟩ (.int .i64 sn)).trans h1;rw[World.acz] at h2;exact h2
    case measure=>simp[intOf];omega
   have hkn:=ak (show k=e.args.length by have:=nK.o;omega);go_wp2_with fail
   go_ret;exact Vj (R:=R) (by rw[<-HR.o,hkn.out,List.drop_length,uT]) rfl HWR.o
def zQ (e:Ex):Bool:=(sD e 1 0).1
theorem wF (e:Ex) (v:Value) (w:World) (he:fC w e v) (ho:gG w) (hf:e.fits):Calls Tryz.prog 138 #[v] w (dN (.bool (zQ e)) w):=by
 have HE:=ak he;have HO:=ak ho;have HF:=ak hf;obtain⟨aw,nw,cw,aa,na,ca,rfl,-⟩:=he.parts;clear he ho hf;unfold exV at *;go_enter Tryz.func138,Tryz.ntmps138
 go_wp2_with fail
 refine(atw e.size e _ w _ _ 1 0 (bg _) HE.o HO.o HF.o (((Ext.refl w).alloc _).alloc _) (by simp) (by go_simp) (by go_simp) (by omega) (by omega) (by omega) (by omega)).mono ?_;rintro r w1 ⟨rfl,hw1⟩;go_wp2_with fail
 go_ret;exact dL rfl ((Ext.jl (((Ext.refl w).alloc _).alloc _) (by simp) _).trans hw1)
end Go.Proofs.YtefjomofjejklaaGreatDoor
