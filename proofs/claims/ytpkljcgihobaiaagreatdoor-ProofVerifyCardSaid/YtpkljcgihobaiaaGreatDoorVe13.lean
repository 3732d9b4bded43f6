/-
  Texts of the claim, joined: Heap7, Ord2, Names2, Names3, Names4, Lay, Iter, Names5.
-/
import Derived.Test.YtpkljcgihobaiaaGreatDoorVe12
import Derived.Laws.Cover1
import Derived.Sort.Walk0
import Derived.Shelf.SlGeneric
import Derived.Shelf.SlIter.Nil
import Derived.Shelf.SortM.Plain
import Derived.Shelf.SortM.SortNone
import Derived.Ground.GgzProg
import Derived.Ground.SlgmProg
namespace Go.Proofs.YtpkljcgihobaiaaGreatDoor
set_option maxRecDepth 100000
set_option maxHeartbeats 32000000
open Go.RowKit
theorem getLast_cell {xs:ZI} (hx:0 < xs.length):xs.getLast?=some (xs[xs.length - 1]'(by omega)):=by
 rw[List.getLast?_eq_getElem?,List.getElem?_eq_getElem (by omega)]
theorem PileG.pop {B b g cap:Nat} {xs:ZI} {w:World} (h:PileG B b g cap xs w):PileG B b g cap xs.dropLast (w.setCell ⟨b,0,none⟩ (.slice (some ⟨g,0,none⟩) (xs.length - 1) cap)):=by
 obtain⟨a1,a2,a3,a4,cur,a5,a6,a7,a8,a9⟩:=h
 refine⟨a1,a2,a3,?_,cur,?_,by simp;omega,a7,a8,?_⟩
 ·simp[World.setCell,Array.getElem?_modify,a4]
 ·rw[Below.heap_setCell _ _ _ _ (by simpa using a3)];exact a5
 have h5:cur.toList.take (xs.length - 1)=(cur.toList.take xs.length).take (xs.length - 1):=by rw[List.take_take];congr 1;omega
 simp only[List.length_dropLast]
 rw[h5,a9,<-List.map_take,List.dropLast_eq_take]
def PopQ (B b:Nat) (v:Value) (ok:Int->ZI->Prop) (w:World) (e:Ending) (w':World):Prop :=
 ∃ z v' ys,e=.returned (.iface 3 (.int .i64 z))/\ok z ys/\PileV B b v' ys w'/\Chg (b::rowOf v) w w'/\∀ k,v'.ownBlock=some k->v.ownBlock=some k\/w.heap.size<=k
theorem ipop_calls (B b g cap:Nat) (xs:ZI) (w:World) (h:PileG B b g cap xs w) (hx:0 < xs.length) :
  Calls Tryz.prog 178 #[.pointer (some ⟨b,0,none⟩)] w (PopQ B b (.slice (some ⟨g,0,none⟩) xs.length cap) (fun z ys=>xs.getLast?=some z/\ys=xs.dropLast) w):=by
 have HP:=hI h
 have hh:=h.head
 have hf:=blk_free h.hb 0
 have hlt:=blk_lt h.hb
 have hc:=h.cell (i:=xs.length - 1) (by omega)
 have hlast:=getLast_cell hx
 obtain⟨n,hn⟩:∃ n:Nat,n+1=xs.length:=⟨xs.length - 1,by omega⟩
 obtain⟨cur,hr1,hr2,hr3,hr4,hr5⟩:=h.row
 have hn2:n+1<=9223372036854775807:=by unfold maxLen at hr3;omega
 have hcap:n+1<=cap:=by omega
 have e1:xs.length - 1=n:=by omega
 have HPL:=hI h.pop
 simp only[e1] at hc hlast
 obtain⟨z,hz⟩:∃ z,z=xs[n]'(by omega):=⟨_,rfl⟩
 rw[<-hz] at hc hlast
 rw[<-hn] at hh
 have HLA:=hI hlast
 have HN:=hI hn
 have HN2:=hI e1
 have q1:(((n+1:Nat):Int) - 1)=(n:Int):=by omega
 have q2:((n:Int)+1 - 1)=(n:Int):=by omega
 rw[<-hn]
 clear h hlast hr1 hr2 hr3 hr4 hr5 hz e1 hn
 go_enter Tryz.func178,Tryz.ntmps178
 go_wp2_with fail
 go_ret
 have hp:=HPL.out
 rw[HN2.out] at hp
 have hv:=hp.v
 rw[List.length_dropLast,HN2.out] at hv
 exact⟨z,_,_,rfl,⟨HLA.out,rfl⟩,hv,(Chg.refl _ _).setCell (Or.inl (by simp)) _,fun k hk=>Or.inl hk⟩
theorem hpush_calls (B b:Nat) (v:Value) (xs:ZI) (z:Int) (w:World) (h:PileV B b v xs w) (hB:B<=w.heap.size) (hl:xs.length<=100000000) :
  Calls Tryz.prog 95 #[.iface 130 (.pointer (some ⟨b,0,none⟩)),.iface 3 (.int .i64 z)] w (PushQ B b v (fun ys=>ys.Perm (xs++[z])) w):=by
 have ha:=fun n=>ahead_push n b
 have hm:=fun n W=>meth_push n b W
 have HP:=hI h
 clear h
 go_enter Tryz.func95,Tryz.ntmps95
 go_wp2_with fail
 refine(ipush_calls B b v xs z w HP.out hB (by omega)).mono ?_
 rintro r w1 ⟨rfl,v1,ys,rfl,hp1,hc1,hw1⟩
 obtain⟨g,cap,rfl,hg1⟩:=hp1.g (by simp)
 have HG1:=hI hg1
 have HC1:=hI hc1
 have HW1:=hI hw1
 have hh:=hg1.head
 obtain⟨n,hn⟩:∃ n:Nat,n=xs.length:=⟨_,rfl⟩
 have e1:(xs++[z]).length=n+1:=by simp[hn]
 rw[e1] at hh
 have HE:=hI e1
 have hnb:n<=100000000:=by omega
 clear hp1 hg1 hc1 hw1 ha hm e1 hn hl
 have ha:=fun n=>ahead_len n b
 have hm:=fun k=>meth_len k b _ w1 hh
 go_wp2_with fail
 refine(ilen_calls _ _ _ _).mono ?_
 rintro r w2 ⟨rfl,rfl⟩
 have q1:(((n+1:Nat):Int) - 1)=(n:Int):=by omega
 have q2:((n:Int)+1 - 1)=(n:Int):=by omega
 clear ha hm
 go_wp2_with fail
 refine(up_calls B b g cap _ _ HG1.out n (by rw[HE.out];omega)).mono ?_
 rintro r w3 ⟨rfl,ys,hy,hp3,hc3⟩
 have HP3:=hI hp3
 have HC3:=hI hc3
 have HY:=hI hy
 clear hp3 hc3 hy
 go_wp2_with fail
 go_end0
 refine⟨rfl,_,ys,HY.out,HP3.out.v,Chg.trans HC1.out HC3.out (fun x hx=>?_),fun k hk=>?_⟩
 ·simp only[List.mem_singleton] at hx
  subst hx
  rcases HW1.out x rfl with e|e
  ·exact Or.inl (List.mem_cons_of_mem _ (mem_rowOf.2 e))
  exact Or.inr e
 exact HW1.out k hk
theorem hpop_calls (B b:Nat) (v:Value) (xs:ZI) (w:World) (h:PileV B b v xs w) (hx:0 < xs.length) (hl:xs.length<=100000000) :
  Calls Tryz.prog 97 #[.iface 130 (.pointer (some ⟨b,0,none⟩))] w (PopQ B b v (fun z ys=>xs.Perm (z::ys)) w):=by
 obtain⟨g,cap,rfl,hg⟩:=h.g hx
 have HG:=hI hg
 have hh:=hg.head
 obtain⟨n,hn⟩:∃ n:Nat,n+1=xs.length:=⟨xs.length - 1,by omega⟩
 rw[<-hn] at hh ⊢
 have HN:=hI hn
 have hnb:n<=100000000:=by omega
 have hn0:0 < xs.length:=hx
 have hnn:n < xs.length:=by omega
 clear h hg hn hx hl
 have ha:=fun n=>ahead_len n b
 have hm:=fun k=>meth_len k b _ w hh
 have q1:(((n+1:Nat):Int) - 1)=(n:Int):=by omega
 have q2:((n:Int)+1 - 1)=(n:Int):=by omega
 go_enter Tryz.func97,Tryz.ntmps97
 go_wp2_with fail
 refine(ilen_calls _ _ _ _).mono ?_
 rintro r w1 ⟨rfl,rfl⟩
 clear ha hm
 have ha:=fun n=>ahead_swap n b
 have hm:=fun k=>meth_swap k b _ w hh
 go_wp2_with fail
 refine(iswap_calls g (n+1) cap 0 n xs[0] xs[n] w (by omega) (by omega) (HG.out.cell hn0) (HG.out.cell hnn) HG.out.free).mono ?_
 rintro r w2 ⟨rfl,q,rfl⟩
 obtain⟨hp2,hc2⟩:=HG.out.swap hn0 hnn q
 generalize ((w.setCell ⟨g,0,none⟩ (.int .i64 xs[n])).setCell ⟨g,n,none⟩ (.int .i64 xs[0])).drewN q=w2 at *
 have HP2:=hI hp2
 have HC2:=hI hc2
 have HY2:=hI (show ((xs.set 0 xs[n]).set n xs[0]).Perm xs from List.set_set_perm hn0 hnn)
 have HL2:=hI (show n+1=((xs.set 0 xs[n]).set n xs[0]).length by simp;exact HN.out)
 generalize (xs.set 0 xs[n]).set n xs[0]=ys at *
 clear hp2 hc2 ha hm hh
 go_wp2_with fail
 refine(down_calls B b g cap ys w2 HP2.out n HL2.out (by omega)).mono ?_
 rintro r w3 ⟨⟨u,rfl⟩,zs,hzy,_,hp3,hc3⟩
 have HP3:=hI hp3
 have HC3:=hI hc3
 have HZY:=hI hzy
 have HL3:=hI (show zs.length=n+1 by rw[hzy.length_eq];exact HL2.out.symm)
 have ha:=fun n=>ahead_pop n b
 have hm:=fun n W=>meth_pop n b W
 clear hp3 hc3 hzy
 go_wp2_with fail
 refine(ipop_calls B b g cap zs _ HP3.out (by rw[HL3.out];omega)).mono ?_
 rintro r w4 ⟨z,v',us,rfl,⟨hla,rfl⟩,hp4,hc4,hw4⟩
 have HP4:=hI hp4
 have HC4:=hI hc4
 have HW4:=hI hw4
 have HLA:=hI hla
 clear hp4 hc4 hw4 hla ha hm
 go_wp2_with fail
 go_ret
 refine⟨z,v',_,rfl,?_,HP4.out,?_,fun k hk=>?_⟩
 ·refine(HY2.out.symm.trans HZY.out.symm).trans ?_
  have e:zs.dropLast++[z]=zs:=by
   have:=HLA.out
   rw[List.getLast?_eq_some_iff] at this
   obtain⟨us,rfl⟩:=this
   simp
  exact(List.Perm.of_eq e.symm).trans (List.perm_append_singleton _ _)
 ·refine((Chg.trans (Chg.trans (Chg.refl _ _) HC2.out ?_) HC3.out ?_).trans HC4.out ?_)
  ·intro x hx;exact Or.inl (by simp at hx;subst hx;simp[rowOf,Value.ownBlock])
  ·intro x hx;exact Or.inl (by simp at hx;subst hx;simp[rowOf,Value.ownBlock])
  intro x hx;exact Or.inl (by simpa [rowOf,Value.ownBlock] using hx)
 rcases HW4.out k hk with e|e
 ·exact Or.inl e
 have:=HC2.out.size
 have:=HC3.out.size
 exact Or.inr (by omega)
open Go.RowKit Go.Maps
def strF (g:BA->Option Value):Lit->Option Value
 | .string bs=>g ⟨bs.toArray⟩
 | _=>none
def intF (g:Nat->Option Value):Lit->Option Value
 | .int .i64 z=>if 0<=z then g z.toNat else none
 | _=>none
theorem strF_at (g:BA->Option Value) (s:BA):strF g (.string s.data.toList)=g s:=rfl
theorem intF_at (g:Nat->Option Value) (i:Nat):intF g (.int .i64 i)=g i:=by simp[intF]
open Classical in
noncomputable def upS {α:Type} (g:BA->α) (s:BA) (v:α):BA->α:=fun t=>if t=s then v else g t
theorem upS_same {α:Type} (g:BA->α) (s:BA) (v:α):upS g s v s=v:=by simp[upS]
theorem upS_other {α:Type} (g:BA->α) {s t:BA} (v:α) (h:t≠s):upS g s v t=g t:=by simp[upS,h]
def upN {α:Type} (g:Nat->α) (s:Nat) (v:α):Nat->α:=fun t=>if t=s then v else g t
theorem upN_same {α:Type} (g:Nat->α) (s:Nat) (v:α):upN g s v s=v:=by simp[upN]
theorem upN_other {α:Type} (g:Nat->α) {s t:Nat} (v:α) (h:t≠s):upN g s v t=g t:=by simp[upN,h]
theorem setF_str (g:BA->Option Value) (s:BA) (v:Option Value) (x:Lit):setF (strF g) (.string s.data.toList) v x=strF (upS g s v) x:=by
 by_cases e:x=.string s.data.toList
 ·subst e
  rw[setF_same,strF_at,upS_same]
 rw[setF_other _ _ e]
 cases x<;>try rfl
 rename_i bs
 simp only[strF]
 rw[upS_other]
 intro h
 apply e
 rw[<-h]
theorem setF_int (g:Nat->Option Value) (i:Nat) (v:Option Value) (x:Lit):setF (intF g) (.int .i64 i) v x=intF (upN g i v) x:=by
 by_cases e:x=.int .i64 i
 ·subst e
  rw[setF_same,intF_at,upN_same]
 rw[setF_other _ _ e]
 cases x<;>try rfl
 rename_i k z
 cases k<;>try rfl
 simp only[intF]
 by_cases h0:0<=z
 ·rw[if_pos h0,if_pos h0,upN_other]
  intro h
  apply e
  congr 1
  omega
 rw[if_neg h0,if_neg h0]
inductive Role where
 | none|first|users|miss|pile|prow|urow (s:BA)|mset (i:Nat)|out
structure St where
 ρ:Nat->Role
 mb:Nat->Nat
 uv:BA->Option Value
 U:BA->ZN
 D:Nat->Prop
 S:Nat->Prop
 M:Nat->BA->Prop
 pv:Value
 R:ZI
 vo:Value
 O:ZN
open Classical in
noncomputable def memF (M:BA->Prop):BA->Option Value:=fun s=>if M s then some (.agg #[]) else none
open Classical in
noncomputable def missF (D:Nat->Prop) (mb:Nat->Nat):Nat->Option Value:=fun i=>if D i then some (.map (some (mb i))) else none
def firstF (l:List Dfn):BA->Option Value:=fun s=>(firstAt l s).map fun (d:Nat)=>Value.int .i64 (d:Int)
def natVs (l:ZN):List Value:=l.map fun (i:Nat)=>Value.int .i64 (i:Int)
structure OB (w0:World) (l:List Dfn) (bf bu bm bp t:Nat) (s:St) (w:World):Prop where
 ext:Ext w0 w
 fresh:∀ k,w.heap.size<=k->s.ρ k=.none
 old:∀ k,k < w0.heap.size->s.ρ k=.none
 rf:s.ρ bf=.first
 hf:MapAt w 9 bf t (strF (firstF l))
 ru:s.ρ bu=.users
 hu:MapAt w 9 bu t (strF s.uv)
 rows:∀ x v,s.uv x=some v->w.ownsRow w0.heap.size 3 1 v (s.U x).length (natVs (s.U x))/\∀ g,v.ownBlock=some g->s.ρ g=.urow x
 rown:∀ x,s.uv x=none->s.U x=[]
 rm:s.ρ bm=.miss
 hm:MapAt w 3 bm t (intF (missF s.D s.mb))
 dom:∀ i,s.D i->s.S i
 sets:∀ i,s.S i->s.ρ (s.mb i)=.mset i/\MapAt w 9 (s.mb i) t (strF (memF (s.M i)))
 rp:s.ρ bp=.pile
 hp:PileV w0.heap.size bp s.pv s.R w
 rpv:∀ g,s.pv.ownBlock=some g->s.ρ g=.prow
 hv:w.ownsRow w0.heap.size 3 1 s.vo s.O.length (natVs s.O)
 rv:∀ g,s.vo.ownBlock=some g->s.ρ g=.out
section
variable {w0:World} {l:List Dfn} {bf bu bm bp t:Nat} {s:St} {w w':World}
theorem OB.chg (h:OB w0 l bf bu bm bp t s w) {N:ZN} (hc:Chg N w w') (hN:∀ k∈N,s.ρ k=.none) (hN0:∀ k∈N,w0.heap.size<=k):OB w0 l bf bu bm bp t s w':=by
 have nn:∀ k r,s.ρ k=r->r≠.none->k∉N:=fun k r h1 h2 h3=>h2 (by rw[<-h1];exact hN k h3)
 exact { h with
  ext:=hc.ext h.ext hN0
  fresh:=fun k hk=>h.fresh k (Nat.le_trans hc.size hk)
  hf:=h.hf.chg hc (nn _ _ h.rf (by simp))
  hu:=h.hu.chg hc (nn _ _ h.ru (by simp))
  rows:=fun x v hv=>⟨owns_chg (h.rows x v hv).1 hc fun g hg=>nn _ _ ((h.rows x v hv).2 g hg) (by simp),(h.rows x v hv).2⟩
  hm:=h.hm.chg hc (nn _ _ h.rm (by simp))
  sets:=fun i hi=>⟨(h.sets i hi).1,(h.sets i hi).2.chg hc (nn _ _ (h.sets i hi).1 (by simp))⟩
  hp:=h.hp.chg hc (nn _ _ h.rp (by simp)) fun g hg=>nn _ _ (h.rpv g hg) (by simp)
  hv:=owns_chg h.hv hc fun g hg=>nn _ _ (h.rv g hg) (by simp) }
theorem OB.extd (h:OB w0 l bf bu bm bp t s w) (hx:Ext w w'):OB w0 l bf bu bm bp t s w':=h.chg (hx.chg []) (by simp) (by simp)
theorem OB.more (h:OB w0 l bf bu bm bp t s w) {t':Nat} (ht:t<=t'):OB w0 l bf bu bm bp t' s w :=
 {h with hf:=h.hf.more ht,hu:=h.hu.more ht,hm:=h.hm.more ht,sets:=fun i hi=>⟨(h.sets i hi).1,(h.sets i hi).2.more ht⟩ }
theorem OB.base (h:OB w0 l bf bu bm bp t s w) {k:Nat} {r:Role} (hk:s.ρ k=r) (hr:r≠.none):w0.heap.size<=k:=by
 rcases Nat.lt_or_ge k w0.heap.size with h'|h'
 ·exact absurd (hk.symm.trans (h.old k h')) hr
 exact h'
theorem apart {ρ:Nat->Role} {a b:Nat} {r q:Role} (ha:ρ a=r) (hb:ρ b=q) (h:r≠q):a∉[b]:=by
 intro hm
 simp only[List.mem_singleton] at hm
 subst hm
 exact h (ha.symm.trans hb)
def St.newSet (s:St) (i b:Nat):St:={ s with ρ:=upN s.ρ b (.mset i),mb:=upN s.mb i b,S:=fun j=>j=i\/s.S j,M:=upN s.M i fun _=>False }
theorem missF_congr {D:Nat->Prop} {mb mb':Nat->Nat} (h2:∀ i,D i->mb i=mb' i):missF D mb=missF D mb':=by
 funext i
 unfold missF
 by_cases hd:D i
 ·rw[if_pos hd,if_pos hd,h2 i hd]
 rw[if_neg hd,if_neg hd]
theorem memF_false (s:BA):memF (fun _=>False) s=none:=by simp[memF]
theorem OB.newSet (h:OB w0 l bf bu bm bp t s w) {i:Nat} (hi:¬ s.S i):OB w0 l bf bu bm bp t (s.newSet i w.heap.size) (w.alloc (.map #[] 0)):=by
 have h':=h.extd ((Ext.refl w).alloc (.map #[] 0))
 have ne:∀ k r,s.ρ k=r->r≠.none->upN s.ρ w.heap.size (.mset i) k=r:=fun k r h1 h2=>by
  rw[upN_other _ _ (fun e=>h2 (by rw[<-h1,e];exact h.fresh _ (Nat.le_refl _)))];exact h1
 exact { h' with
  fresh:=fun k hk=>by
   simp at hk
   show upN s.ρ w.heap.size (.mset i) k=.none
   rw[upN_other _ _ (by omega)];exact h.fresh k (by omega)
  old:=fun k hk=>by
   show upN s.ρ w.heap.size (.mset i) k=.none
   rw[upN_other _ _ (by have:=h.ext.size;omega)];exact h.old k hk
  rf:=ne _ _ h.rf (by simp)
  ru:=ne _ _ h.ru (by simp)
  rows:=fun x v hv=>⟨(h'.rows x v hv).1,fun g hg=>ne _ _ ((h'.rows x v hv).2 g hg) (by simp)⟩
  rm:=ne _ _ h.rm (by simp)
  hm:=by
   have e:missF s.D (upN s.mb i w.heap.size)=missF s.D s.mb:=missF_congr fun j hj=>upN_other _ _ fun e=>hi (by rw[<-e];exact h.dom j hj)
   show MapAt _ _ _ _ (intF (missF s.D (upN s.mb i w.heap.size)))
   rw[e];exact h'.hm
  dom:=fun j hj=>Or.inr (h.dom j hj)
  sets:=fun j hj=>by
   by_cases e:j=i
   ·subst e
    refine⟨?_,?_⟩
    ·show upN s.ρ w.heap.size (.mset j) (upN s.mb j w.heap.size j)=_
     rw[upN_same,upN_same]
    show MapAt _ _ (upN s.mb j w.heap.size j) _ (strF (memF (upN s.M j (fun _=>False) j)))
    rw[upN_same,upN_same]
    refine((MapAt.made w _).more (Nat.zero_le t)).congr fun x=>?_
    cases x<;>simp[strF,memF_false]
   have hj':s.S j:=hj.resolve_left e
   refine⟨?_,?_⟩
   ·show upN s.ρ w.heap.size (.mset i) (upN s.mb i w.heap.size j)=_
    rw[upN_other s.mb _ e]
    exact ne _ _ (h.sets j hj').1 (by simp)
   show MapAt _ _ (upN s.mb i w.heap.size j) _ (strF (memF (upN s.M i (fun _=>False) j)))
   rw[upN_other _ _ e,upN_other _ _ e]
   exact(h'.sets j hj').2
  rp:=ne _ _ h.rp (by simp)
  rpv:=fun g hg=>ne _ _ (h.rpv g hg) (by simp)
  rv:=fun g hg=>ne _ _ (h.rv g hg) (by simp) }
def St.setM (s:St) (i:Nat) (m:BA->Prop):St:={ s with M:=upN s.M i m }
theorem OB.setM (h:OB w0 l bf bu bm bp t s w) {i:Nat} (hi:s.S i) {m:BA->Prop} (hc:Chg [s.mb i] w w') (hm:MapAt w' 9 (s.mb i) t (strF (memF m))):OB w0 l bf bu bm bp t (s.setM i m) w':=by
 have hr:=(h.sets i hi).1
 exact { h with
  ext:=hc.ext h.ext (fun k hk=>by simp only[List.mem_singleton] at hk;subst hk;exact h.base hr (by simp))
  fresh:=fun k hk=>h.fresh k (Nat.le_trans hc.size hk)
  hf:=h.hf.chg hc (apart h.rf hr (by simp))
  hu:=h.hu.chg hc (apart h.ru hr (by simp))
  rows:=fun x v hv=>⟨owns_chg (h.rows x v hv).1 hc fun g hg=>apart ((h.rows x v hv).2 g hg) hr (by simp),(h.rows x v hv).2⟩
  hm:=h.hm.chg hc (apart h.rm hr (by simp))
  sets:=fun j hj=>by
   by_cases e:j=i
   ·subst e
    refine⟨hr,?_⟩
    show MapAt _ _ _ _ (strF (memF (upN s.M j m j)))
    rw[upN_same];exact hm
   refine⟨(h.sets j hj).1,?_⟩
   show MapAt _ _ _ _ (strF (memF (upN s.M i m j)))
   rw[upN_other _ _ e]
   exact(h.sets j hj).2.chg hc (apart (h.sets j hj).1 hr (by simpa using e))
  hp:=h.hp.chg hc (apart h.rp hr (by simp)) fun g hg=>apart (h.rpv g hg) hr (by simp)
  hv:=owns_chg h.hv hc fun g hg=>apart (h.rv g hg) hr (by simp) }
def St.setD (s:St) (i:Nat):St:={ s with D:=fun j=>j=i\/s.D j }
theorem OB.setD (h:OB w0 l bf bu bm bp t s w) {i:Nat} (hi:s.S i) (hc:Chg [bm] w w') (hm:MapAt w' 3 bm (t+1) (intF (upN (missF s.D s.mb) i (some (.map (some (s.mb i))))))):OB w0 l bf bu bm bp (t+1) (s.setD i) w':=by
 have hr:=h.rm
 have h1:=h.more (Nat.le_succ t)
 exact { h1 with
  ext:=hc.ext h.ext (fun k hk=>by simp only[List.mem_singleton] at hk;subst hk;exact h.base hr (by simp))
  fresh:=fun k hk=>h.fresh k (Nat.le_trans hc.size hk)
  hf:=h1.hf.chg hc (apart h.rf hr (by simp))
  hu:=h1.hu.chg hc (apart h.ru hr (by simp))
  rows:=fun x v hv=>⟨owns_chg (h.rows x v hv).1 hc fun g hg=>apart ((h.rows x v hv).2 g hg) hr (by simp),(h.rows x v hv).2⟩
  hm:=by
   refine hm.congr fun x=>?_
   have e:upN (missF s.D s.mb) i (some (.map (some (s.mb i))))=missF (fun j=>j=i\/s.D j) s.mb:=by
    funext j
    by_cases e:j=i
    ·subst e;rw[upN_same];simp[missF]
    rw[upN_other _ _ e]
    by_cases hd:s.D j<;>simp[missF,e,hd]
   show _=intF (missF (fun j=>j=i\/s.D j) s.mb) x
   rw[e]
  dom:=fun j hj=>by
   rcases hj with rfl|hj
   ·exact hi
   exact h.dom j hj
  sets:=fun j hj=>⟨(h1.sets j hj).1,(h1.sets j hj).2.chg hc (apart (h.sets j hj).1 hr (by simp))⟩
  hp:=h.hp.chg hc (apart h.rp hr (by simp)) fun g hg=>apart (h.rpv g hg) hr (by simp)
  hv:=owns_chg h.hv hc fun g hg=>apart (h.rv g hg) hr (by simp) }
theorem apart2 {ρ:Nat->Role} {a b:Nat} {v:Value} {r q q':Role} (ha:ρ a=r) (hb:ρ b=q) (hv:∀ g,v.ownBlock=some g->ρ g=q') (h:r≠q) (h':r≠q'):a∉b::rowOf v:=by
 intro hm
 rcases List.mem_cons.1 hm with rfl|hm
 ·exact h (ha.symm.trans hb)
 exact h' (ha.symm.trans (hv a (mem_rowOf.1 hm)))
def rerole (ρ:Nat->Role) (v:Value) (r:Role):Nat->Role:=fun k=>match v.ownBlock with|some g=>if k=g then r else ρ k|none=>ρ k
theorem rerole_own (ρ:Nat->Role) {v:Value} {r:Role} {g:Nat} (h:v.ownBlock=some g):rerole ρ v r g=r:=by simp[rerole,h]
theorem rerole_other (ρ:Nat->Role) {v:Value} {r:Role} {k:Nat} (h:∀ g,v.ownBlock=some g->k≠g):rerole ρ v r k=ρ k:=by
 unfold rerole
 cases hv:v.ownBlock with
 | none=>rfl
 | some g=>simp[h g hv]
theorem rerole_keep {ρ:Nat->Role} {v v':Value} {r q:Role} {n k:Nat} (hk:ρ k=q) (hq:q≠r) (hq0:q≠.none) (hv:∀ g,v.ownBlock=some g->ρ g=r) (hfresh:∀ k,n<=k->ρ k=.none) (hw:∀ g,v'.ownBlock=some g->v.ownBlock=some g\/n<=g):rerole ρ v' r k=q:=by
 rw[rerole_other,hk]
 intro g hg e
 subst e
 rcases hw k hg with h|h
 ·exact hq (hk.symm.trans (hv k h))
 exact hq0 (hk.symm.trans (hfresh k h))
def St.setP (s:St) (pv:Value) (R:ZI):St:={ s with ρ:=rerole s.ρ pv .prow,pv:=pv,R:=R }
theorem OB.setP (h:OB w0 l bf bu bm bp t s w) {pv:Value} {R:ZI} (hp:PileV w0.heap.size bp pv R w') (hc:Chg (bp::rowOf s.pv) w w') (hw:∀ k,pv.ownBlock=some k->s.pv.ownBlock=some k\/w.heap.size<=k):OB w0 l bf bu bm bp t (s.setP pv R) w':=by
 have kp:∀ {k q},s.ρ k=q->q≠.prow->q≠.none->rerole s.ρ pv .prow k=q:=fun hk h1 h2=>rerole_keep hk h1 h2 h.rpv h.fresh hw
 have hlt:∀ g,pv.ownBlock=some g->w0.heap.size<=g/\g < w'.heap.size:=fun g hg=>hp.own.lt g hg
 exact { h with
  ext:=hc.ext h.ext (fun k hk=>by
   rcases List.mem_cons.1 hk with rfl|hk
   ·exact h.base h.rp (by simp)
   exact h.base (h.rpv k (mem_rowOf.1 hk)) (by simp))
  fresh:=fun k hk=>by
   show rerole s.ρ pv .prow k=.none
   rw[rerole_other _ (fun g hg=>by have:=(hlt g hg).2;omega)]
   exact h.fresh k (Nat.le_trans hc.size hk)
  old:=fun k hk=>by
   show rerole s.ρ pv .prow k=.none
   rw[rerole_other _ (fun g hg=>by have:=(hlt g hg).1;omega)]
   exact h.old k hk
  rf:=kp h.rf (by simp) (by simp)
  hf:=h.hf.chg hc (apart2 h.rf h.rp h.rpv (by simp) (by simp))
  ru:=kp h.ru (by simp) (by simp)
  hu:=h.hu.chg hc (apart2 h.ru h.rp h.rpv (by simp) (by simp))
  rows:=fun x v hv=>⟨owns_chg (h.rows x v hv).1 hc fun g hg=>apart2 ((h.rows x v hv).2 g hg) h.rp h.rpv (by simp) (by simp),fun g hg=>kp ((h.rows x v hv).2 g hg) (by simp) (by simp)⟩
  rm:=kp h.rm (by simp) (by simp)
  hm:=h.hm.chg hc (apart2 h.rm h.rp h.rpv (by simp) (by simp))
  sets:=fun j hj=>⟨kp (h.sets j hj).1 (by simp) (by simp),(h.sets j hj).2.chg hc (apart2 (h.sets j hj).1 h.rp h.rpv (by simp) (by simp))⟩
  rp:=kp h.rp (by simp) (by simp)
  hp:=hp
  rpv:=fun g hg=>rerole_own _ hg
  hv:=owns_chg h.hv hc fun g hg=>apart2 (h.rv g hg) h.rp h.rpv (by simp) (by simp)
  rv:=fun g hg=>kp (h.rv g hg) (by simp) (by simp) }
theorem apartV {ρ:Nat->Role} {a:Nat} {v:Value} {r q:Role} (ha:ρ a=r) (hv:∀ g,v.ownBlock=some g->ρ g=q) (h:r≠q):a∉rowOf v:=fun hm=>h (ha.symm.trans (hv a (mem_rowOf.1 hm)))
def St.setO (s:St) (vo:Value) (O:ZN):St:={ s with ρ:=rerole s.ρ vo .out,vo:=vo,O:=O }
theorem OB.setO (h:OB w0 l bf bu bm bp t s w) {vo:Value} {O:ZN} (hv:w'.ownsRow w0.heap.size 3 1 vo O.length (natVs O)) (hc:Chg (rowOf s.vo) w w') (hw:∀ k,vo.ownBlock=some k->s.vo.ownBlock=some k\/w.heap.size<=k):OB w0 l bf bu bm bp t (s.setO vo O) w':=by
 have kp:∀ {k q},s.ρ k=q->q≠.out->q≠.none->rerole s.ρ vo .out k=q:=fun hk h1 h2=>rerole_keep hk h1 h2 h.rv h.fresh hw
 have hlt:∀ g,vo.ownBlock=some g->w0.heap.size<=g/\g < w'.heap.size:=fun g hg=>hv.lt g hg
 exact { h with
  ext:=hc.ext h.ext (fun k hk=>h.base (h.rv k (mem_rowOf.1 hk)) (by simp))
  fresh:=fun k hk=>by
   show rerole s.ρ vo .out k=.none
   rw[rerole_other _ (fun g hg=>by have:=(hlt g hg).2;omega)]
   exact h.fresh k (Nat.le_trans hc.size hk)
  old:=fun k hk=>by
   show rerole s.ρ vo .out k=.none
   rw[rerole_other _ (fun g hg=>by have:=(hlt g hg).1;omega)]
   exact h.old k hk
  rf:=kp h.rf (by simp) (by simp)
  hf:=h.hf.chg hc (apartV h.rf h.rv (by simp))
  ru:=kp h.ru (by simp) (by simp)
  hu:=h.hu.chg hc (apartV h.ru h.rv (by simp))
  rows:=fun x v hv'=>⟨owns_chg (h.rows x v hv').1 hc fun g hg=>apartV ((h.rows x v hv').2 g hg) h.rv (by simp),fun g hg=>kp ((h.rows x v hv').2 g hg) (by simp) (by simp)⟩
  rm:=kp h.rm (by simp) (by simp)
  hm:=h.hm.chg hc (apartV h.rm h.rv (by simp))
  sets:=fun j hj=>⟨kp (h.sets j hj).1 (by simp) (by simp),(h.sets j hj).2.chg hc (apartV (h.sets j hj).1 h.rv (by simp))⟩
  rp:=kp h.rp (by simp) (by simp)
  hp:=h.hp.chg hc (apartV h.rp h.rv (by simp)) fun g hg=>apartV (h.rpv g hg) h.rv (by simp)
  rpv:=fun g hg=>kp (h.rpv g hg) (by simp) (by simp)
  hv:=hv
  rv:=fun g hg=>rerole_own _ hg }
noncomputable def St.setU (s:St) (x:BA) (v:Value) (u:ZN):St:={ s with ρ:=rerole s.ρ v (.urow x),uv:=upS s.uv x (some v),U:=upS s.U x u }
def rowV (s:St) (x:BA):Value:=(s.uv x).getD (.slice none 0 0)
theorem OB.rowV_role (h:OB w0 l bf bu bm bp t s w) (x:BA):∀ g,(rowV s x).ownBlock=some g->s.ρ g=.urow x:=by
 intro g hg
 unfold rowV at hg
 cases hu:s.uv x with
 | none=>rw[hu] at hg;simp[Value.ownBlock] at hg
 | some v=>rw[hu] at hg;exact(h.rows x v hu).2 g hg
theorem OB.rowV_own (h:OB w0 l bf bu bm bp t s w) (x:BA):w.ownsRow w0.heap.size 3 1 (rowV s x) (s.U x).length (natVs (s.U x)):=by
 unfold rowV
 cases hu:s.uv x with
 | none=>rw[h.rown x hu];exact World.ownsRow_nil _ _ _ _
 | some v=>exact(h.rows x v hu).1
theorem OB.setU (h:OB w0 l bf bu bm bp t s w) {x:BA} {v:Value} {u:ZN} {w1:World} (hv:w1.ownsRow w0.heap.size 3 1 v u.length (natVs u)) (hc:Chg (rowOf (rowV s x)) w w1) (hw:∀ k,v.ownBlock=some k->(rowV s x).ownBlock=some k\/w.heap.size<=k)
  (hc2:Chg [bu] w1 w') (hm:MapAt w' 9 bu (t+1) (strF (upS s.uv x (some v)))):OB w0 l bf bu bm bp (t+1) (s.setU x v u) w':=by
 have hR:=h.rowV_role x
 have kp:∀ {k q},s.ρ k=q->q≠.urow x->q≠.none->rerole s.ρ v (.urow x) k=q:=fun hk h1 h2=>rerole_keep hk h1 h2 hR h.fresh hw
 have hlt:∀ g,v.ownBlock=some g->w0.heap.size<=g/\g < w1.heap.size:=fun g hg=>hv.lt g hg
 have hbu:∀ g,v.ownBlock=some g->g∉[bu]:=fun g hg hm=>by
  simp only[List.mem_singleton] at hm
  subst hm
  rcases hw g hg with h1|h1
  ·exact absurd (h.ru.symm.trans (hR g h1)) (by simp)
  exact absurd (h.ru.symm.trans (h.fresh g h1)) (by simp)
 have hcc:Chg (bu::rowOf (rowV s x)) w w':=Chg.trans (Chg.trans (Chg.refl _ _) hc (fun k hk=>Or.inl (List.mem_cons_of_mem _ hk))) hc2 (fun k hk=>Or.inl (by simp only[List.mem_singleton] at hk;simp[hk]))
 have h1:=h.more (Nat.le_succ t)
 exact { h1 with
  ext:=hcc.ext h.ext (fun k hk=>by
   rcases List.mem_cons.1 hk with rfl|hk
   ·exact h.base h.ru (by simp)
   exact h.base (hR k (mem_rowOf.1 hk)) (by simp))
  fresh:=fun k hk=>by
   show rerole s.ρ v (.urow x) k=.none
   have:=hc2.size
   rw[rerole_other _ (fun g hg=>by have:=(hlt g hg).2;omega)]
   exact h.fresh k (Nat.le_trans hcc.size hk)
  old:=fun k hk=>by
   show rerole s.ρ v (.urow x) k=.none
   rw[rerole_other _ (fun g hg=>by have:=(hlt g hg).1;omega)]
   exact h.old k hk
  rf:=kp h.rf (by simp) (by simp)
  hf:=h1.hf.chg hcc (apart2 h.rf h.ru hR (by simp) (by simp))
  ru:=kp h.ru (by simp) (by simp)
  hu:=hm
  rows:=fun y u' hy=>by
   by_cases e:y=x
   ·subst e
    have e1:upS s.uv y (some v) y=some v:=upS_same _ _ _
    have e2:some v=some u':=e1.symm.trans hy
    cases e2
    refine⟨?_,fun g hg=>rerole_own _ hg⟩
    show World.ownsRow _ _ _ _ _ (upS s.U y u y).length (natVs (upS s.U y u y))
    rw[upS_same]
    exact owns_chg hv hc2 hbu
   have e1:s.uv y=some u':=(upS_other s.uv (some v) e).symm.trans hy
   obtain⟨r1,r2⟩:=h.rows y u' e1
   refine⟨?_,fun g hg=>kp (r2 g hg) (by simpa using e) (by simp)⟩
   show World.ownsRow _ _ _ _ _ (upS s.U x u y).length (natVs (upS s.U x u y))
   rw[upS_other _ _ e]
   exact owns_chg r1 hcc fun g hg=>apart2 (r2 g hg) h.ru hR (by simp) (by simpa using e)
  rown:=fun y hy=>by
   by_cases e:y=x
   ·subst e
    have e1:upS s.uv y (some v) y=some v:=upS_same _ _ _
    have e2:some v=none:=e1.symm.trans hy
    cases e2
   have e1:s.uv y=none:=(upS_other s.uv (some v) e).symm.trans hy
   show upS s.U x u y=[]
   rw[upS_other _ _ e]
   exact h.rown y e1
  rm:=kp h.rm (by simp) (by simp)
  hm:=h1.hm.chg hcc (apart2 h.rm h.ru hR (by simp) (by simp))
  sets:=fun j hj=>⟨kp (h.sets j hj).1 (by simp) (by simp),(h1.sets j hj).2.chg hcc (apart2 (h.sets j hj).1 h.ru hR (by simp) (by simp))⟩
  rp:=kp h.rp (by simp) (by simp)
  hp:=h.hp.chg hcc (apart2 h.rp h.ru hR (by simp) (by simp)) fun g hg=>apart2 (h.rpv g hg) h.ru hR (by simp) (by simp)
  rpv:=fun g hg=>kp (h.rpv g hg) (by simp) (by simp)
  hv:=owns_chg h.hv hcc fun g hg=>apart2 (h.rv g hg) h.ru hR (by simp) (by simp)
  rv:=fun g hg=>kp (h.rv g hg) (by simp) (by simp) }
end
theorem uStr2:Tryz.prog.underlying 9=some .string:=by kernel_rfl
theorem keyedStr:Keyed Tryz.prog 9:=string_keyed uStr2
theorem uSet:Tryz.prog.underlying 136=some (.map 9 137):=by kernel_rfl
def SetAt (w:World) (b n:Nat) (l:ZB):Prop:=∃ D:DataW Unit,w.ownsMap Tryz.prog 9 unitElem b n D/\SetIs D l
theorem SetAt.chg {w w':World} {b n:Nat} {l:ZB} {N:ZN} (h:SetAt w b n l) (hc:Chg N w w') (hn:b∉N):SetAt w' b n l:=by
 obtain⟨D,⟨es,clock,hb,r⟩,hs⟩:=h
 exact⟨D,⟨es,clock,hc.blk hb hn,r⟩,hs⟩
theorem SetAt.lt {w:World} {b n:Nat} {l:ZB} (h:SetAt w b n l):b < w.heap.size:=by
 obtain⟨D,h,_⟩:=h
 exact h.lt
theorem SetAt.mono {w:World} {b n n':Nat} {l:ZB} (h:SetAt w b n l) (hn:n<=n'):SetAt w b n' l:=by
 obtain⟨D,h,hs⟩:=h
 exact⟨D,h.mono hn,hs⟩
def CollectQ (b n:Nat) (l:ZB) (w:World) (e:Ending) (w':World):Prop:=e=.returned (.tuple #[])/\SetAt w' b n l/\Chg [b] w w'
theorem Chg.put_map {w w':World} {b:Nat} (h:w.grownBy w' (some b)):Chg [b] w w':=⟨h.os,h.tape,h.output,h.size,fun k hk hn=>h.block k hk (fun e=>hn (by simp at e;simp[e]))⟩
theorem mask_in2 {w:World} {M:ZN} {p:Addr} {v:Value} (h:(mask w M).cell? p=some v):w.cell? p=some v:=by
 rw[mask_cell] at h
 split at h
 ·cases h
 exact h
theorem fitsAll_mem:(l:List Ex)->fitsAll l->∀ x∈l,x.fits
 | [],_,x,hx=>by simp at hx
 | a::r,h,x,hx=>by
  unfold fitsAll at h
  rcases List.mem_cons.1 hx with rfl|hx
  ·exact h.1
  exact fitsAll_mem r h.2 x hx
theorem fits_parts2 {e:Ex} (h:e.fits):e.name.size<=1000000000000000/\∀ x∈e.args,x.fits:=by
 cases e
 unfold Ex.fits at h
 exact⟨h.1,fitsAll_mem _ h.2.2⟩
theorem collect_calls (m:Nat):m<=1000000->∀ (e:Ex) (v:Value) (w:World) (b n:Nat) (l:ZB),e.size<=m->e.fits->IsEx (mask w [b]) e v->SetAt w b n l->n+e.size<=1000000 ->
  Calls Tryz.prog 114 #[v,.map (some b)] w (CollectQ b (n+e.size) (l++namesE e) w):=by
 induction m with
 | zero=>intro _ e v w b n l h;have:=size_pos e;omega
 | succ m ih =>
  intro hMM e v w b n l hm hfit he hset hn
  obtain⟨aw,nw,cw,aa,na,ca,rfl,hw,hna,hca,ha,hx⟩:=he.parts
  have hS:e.size=1+sizes e.args:=e.size_eq
  have hla:=length_le_sizes e.args
  obtain⟨hnm,hfa⟩:=fits_parts2 hfit
  have HFA:=hI hfa
  have hbw:=hset.lt
  have HX:=hI ((Ext.refl w).alloc (.cells #[.int .i64 e.op,.string e.name,.slice aw nw cw,.int .i64 e.lo,.int .i64 e.hi,.slice aa na ca] 26))
  have HBX:=hI (alloc_new w (.cells #[.int .i64 e.op,.string e.name,.slice aw nw cw,.int .i64 e.lo,.int .i64 e.hi,.slice aa na ca] 26))
  have HXS:=hI (ExsD.mono (mask_ext [b] HX.out) e.args aa hx)
  have HSET:=hI (hset.chg (HX.out.chg []) (by simp))
  have HNA:=hI hna
  have HNM:=hI (namesE_eq e)
  have HSZ:=hI hS
  have IH:=hI (ih (by omega))
  have hna2:na<=1000000:=by omega
  have hsz:sizes e.args<=m:=by omega
  have hn2:n+1+sizes e.args<=1000000:=by omega
  clear hw hna hca ha hx he hset hS hla hfit hfa ih hm hn
  generalize namesE e=NE at *
  generalize e.size=SE at *
  unfold exV
  go_enter Tryz.func114,Tryz.ntmps114
  go_upto_region 1 with fail
  generalize w.alloc (.cells #[.int .i64 e.op,.string e.name,.slice aw nw cw,.int .i64 e.lo,.int .i64 e.hi,.slice aa na ca] 26)=wb at *
  have hz0:=HX.out.size
  obtain⟨b0,b1,b2,b3,b4,b5,bf⟩:=blk6 HBX.out
  have hlx:=blk_lt HBX.out
  by_cases h3:e.op=3
  case' pos =>
   have t3:(e.op==3)=true:=by simp[h3]
   obtain⟨D,hown,hsi⟩:=HSET.out
   have HOW:=hI hown
   have HNE:=hI (show NE=[e.name]++namesL e.args by rw[HNM.out,if_pos h3])
   have HSI:=hI (hsi.put e.name (.agg []))
   clear hown hsi h3
   go_wp2_with (at_mapUpdate;refine wpList_mapUpdate_own _ rfl _ _ _ 136 rfl 9 137 keyedStr uSet (unitElem (H:=Unit)) b n D rfl HOW.out ?c0 _ _ _ rfl rfl (Go.WideMaps.keyOf_string_mk uStr2 ?c1) _ [] unitElem_mk ?_)
   case c0=>unfold maxLen;omega
   case c1=>unfold maxLen;omega
   intro w1 hown1 hgrow1
   have hc1:=Chg.put_map hgrow1
   have HC1:=hI hc1
   obtain⟨L,hL⟩:∃ L,L=l++[e.name]:=⟨_,rfl⟩
   have HS1:=hI (show SetAt w1 b (n+1) L by rw[hL];exact⟨_,hown1,HSI.out⟩)
   have HB1:=hI (hc1.blk HBX.out (by simp;omega))
   have HNE1:=hI (show L++namesL e.args=l++NE by rw[hL,HNE.out,List.append_assoc])
   have hz1:=hc1.size
   clear hown1 hgrow1 hc1 HOW HSI HNE hL b0 b1 b2 b3 b4 b5 bf hlx
   go_upto_region 3 with fail
  case' neg =>
   have t3:(e.op==3)=false:=by simp[h3]
   have HNE:=hI (show NE=namesL e.args by rw[HNM.out,if_neg h3];simp)
   have HC1:=hI (Chg.refl [b] wb)
   obtain⟨L,hL⟩:∃ L,L=l:=⟨_,rfl⟩
   have HS1:=hI (show SetAt wb b (n+1) L by rw[hL];exact HSET.out.mono (Nat.le_succ n))
   have HB1:=HBX
   have HNE1:=hI (show L++namesL e.args=l++NE by rw[hL,HNE.out])
   have hz1:=Nat.le_refl wb.heap.size
   clear h3 HNE hL
   go_upto_region 3 with fail
   clear b0 b1 b2 b3 b4 b5 bf hlx
  all_goals
   obtain⟨b0,b1,b2,b3,b4,b5,bf⟩:=blk6 HB1.out
   have hlx:=blk_lt HB1.out
   go_wp2_with fail
   clear b0 b1 b2 b3 b4 b5 bf hlx
   go_loopg [16] na (fun g i wr=>∃ j:Nat,j<=na/\g=na - j/\i=.int .i64 j/\SetAt wr b (n+1+sizes (e.args.take j)) (L++namesL (e.args.take j))/\Chg [b] wb wr)
   case atStart=>exact⟨0,by omega,rfl,rfl,by simpa [sizes,namesL] using HS1.out,HC1.out⟩
   case round =>
    obtain⟨j,hj,hgj,rfl,hs,hc⟩:=hrel
    have HGN:=hI hgj
    have HSJ:=hI hs
    have HCJ:=hI hc
    have hzr:=hc.size
    clear hs hc hgj
    by_cases hlt:j < na
    ·have hlt':j < e.args.length:=by have:=HNA.out;omega
     have td:decide ((j:Int) < (na:Int))=true:=by simp;omega
     obtain⟨bb,off,rfl,aw1,nw1,cw1,aa1,na1,ca1,c0,c1,c2,c3,c4,c5,c6⟩:=ExsD.at e.args _ (ExsD.mono HCJ.out.sub _ _ HXS.out) j hlt'
     have HC6:=hI c6
     replace c0:=mask_in2 c0
     replace c1:=mask_in2 c1
     replace c2:=mask_in2 c2
     replace c3:=mask_in2 c3
     replace c4:=mask_in2 c4
     replace c5:=mask_in2 c5
     have HST:=hI (sizes_take_succ e.args j hlt')
     have HSL:=hI (sizes_take_le e.args (j+1))
     have HNT:=hI (namesL_take e.args j hlt')
     have HFJ:=hI (HFA.out _ (List.getElem_mem hlt'))
     clear c6
     generalize e.args[j]=a at *
     go_upto_region 6 with fail
     have HXA:=hI ((Ext.refl wr).alloc (.cells #[.int .i64 a.op,.string a.name,.slice aw1 nw1 cw1,.int .i64 a.lo,.int .i64 a.hi,.slice aa1 na1 ca1] 26))
     have HBA:=hI (alloc_new wr (.cells #[.int .i64 a.op,.string a.name,.slice aw1 nw1 cw1,.int .i64 a.lo,.int .i64 a.hi,.slice aa1 na1 ca1] 26))
     clear c0 c1 c2 c3 c4 c5
     generalize wr.alloc (.cells #[.int .i64 a.op,.string a.name,.slice aw1 nw1 cw1,.int .i64 a.lo,.int .i64 a.hi,.slice aa1 na1 ca1] 26)=wa at *
     obtain⟨a0,a1,a2,a3,a4,a5,af⟩:=blk6 HBA.out
     have hla:=blk_lt HBA.out
     go_wp2_with fail
     refine(IH.out a _ _ b _ _ (by have:=HST.out;have:=HSL.out;omega) HFJ.out (HC6.out.mono (mask_ext [b] HXA.out)) (HSJ.out.chg (HXA.out.chg []) (by simp)) (by have:=HST.out;have:=HSL.out;omega)).mono ?_
     rintro r w2 ⟨rfl,hs2,hc2⟩
     have HS2:=hI (show SetAt w2 b (n+1+sizes (e.args.take (j+1))) (L++namesL (e.args.take (j+1))) by
      rw[HST.out,HNT.out,<-List.append_assoc,<-Nat.add_assoc];exact hs2)
     have HC2:=hI ((HCJ.out.then (HXA.out.chg _)).then hc2)
     clear hs2 hc2 a0 a1 a2 a3 a4 a5 af hla
     go_wp2_with fail
     go_roundg (na - (j+1))
     case measure=>have:=HGN.out;omega
     case rel=>exact⟨j+1,by omega,rfl,by go_num,HS2.out,HC2.out⟩
    have HE2:=hI (show e.args.take j=e.args from List.take_of_length_le (by have:=HNA.out;omega))
    have td:decide ((j:Int) < (na:Int))=false:=by simp;omega
    rw[HE2.out] at HSJ
    go_wp2_with fail
    go_end0
    refine⟨rfl,?_,(HX.out.chg _).then HCJ.out⟩
    rw[HSZ.out,<-HNE1.out,<-Nat.add_assoc]
    exact HSJ.out
def OwnS (w:World) (base:Nat) (l:ZB) (v:Value):Prop:=w.ownsRow base 9 1 v l.length (l.flatMap strCells)
def PutQ (l:ZB) (w:World) (e:Ending) (w':World):Prop:=∃ (a:OA) (c:Nat),e=.returned (.slice a l.length c)/\IsStrs w' l a l.length c/\Ext w w'
theorem putL_lt {s x:BA} {r:ZB} (h:Op.bytesLess s.toList x.toList=true):putL s (x::r)=s::x::r:=by
 rw[Go.Proofs.bytesLess_eq,decide_eq_true_eq] at h
 rw[putL,if_pos h]
theorem putL_same {s x:BA} {r:ZB} (h1:Op.bytesLess s.toList x.toList=false) (h2:(s.toList==x.toList)=true):putL s (x::r)=x::r:=by
 rw[Go.Proofs.bytesLess_eq,decide_eq_false_iff_not] at h1
 rw[putL,if_neg h1,if_pos (by simpa using h2)]
theorem putL_gt {s x:BA} {r:ZB} (h1:Op.bytesLess s.toList x.toList=false) (h2:(s.toList==x.toList)=false):putL s (x::r)=x::putL s r:=by
 rw[Go.Proofs.bytesLess_eq,decide_eq_false_iff_not] at h1
 rw[putL,if_neg h1,if_neg (by simpa using h2)]
theorem drop_at {l:ZB} {k:Nat} (h:k < l.length):l.drop k=l[k]::l.drop (k+1):=by simp
theorem put_calls (s:BA) (l:ZB) (a:OA) (n c:Nat) (w:World) (hs:IsStrs w l a n c) (hn:n<=1000000) :
  Calls Tryz.prog 123 #[.slice a n c,.string s] w (PutQ (putL s l) w):=by
 have HS:=hI hs
 have HN:=hI hs.1
 have HLEN:=hI (putL_len s l)
 clear hs
 go_enter Tryz.func123,Tryz.ntmps123
 go_wp2_with fail
 go_loopg [5,6,7] n (fun m u d i wr=>∃ (k:Nat) (out:ZB) (done:Bool),k<=n/\m=n - k/\i=.int .i64 k/\d=.bool done/\out.length<=k+1/\(done=false->out.length<=k)/\OwnS wr w.heap.size out u/\out++(if done then l.drop k else putL s (l.drop k))=putL s l/\Ext w wr)
 case atStart=>exact⟨0,[],false,by omega,rfl,rfl,rfl,by simp,by simp,World.ownsRow_nil _ _ _ _,by simp,Ext.refl _⟩
 case round =>
  obtain⟨k,out,done,hk,hm,rfl,rfl,hol,hod,hown,heq,hx⟩:=hrel
  have HM:=hI hm
  have HO:=hI hown
  have HEQ:=hI heq
  have HX:=hI hx
  have HOD:=hI hod
  have hz:=hx.size
  obtain⟨ua,uc,rfl,-,-⟩:=strs_of_owns hown [] (by simp)
  clear hm hown heq hx hod
  by_cases hlt:k < n
  ·have hlt':k < l.length:=by have:=HN.out;omega
   have td:decide ((k:Int) < (n:Int))=true:=by simp;omega
   obtain⟨b,off,rfl,hcell⟩:=HS.out.2.2.2 k hlt'
   have HC:=hI hcell
   replace hcell:=HX.out.cell hcell
   have HD:=hI (drop_at hlt')
   have hbl:=block_lt hcell
   simp only at hbl
   generalize l[k]=x at *
   have fin:∀ (out2:ZB) (done2:Bool) (u2:Value) (w2:World),out2++(if done2 then x::l.drop (k+1) else putL s (x::l.drop (k+1)))=putL s l->(done2=false->Op.bytesLess s.toList x.toList=false/\(s.toList==x.toList)=false)->out2++[x]++(if done2 then l.drop (k+1) else putL s (l.drop (k+1)))=putL s l:=by
    intro out2 done2 u2 w2 h1 h2
    cases done2
    ·obtain⟨h3,h4⟩:=h2 rfl
     rw[if_neg (by simp),putL_gt h3 h4] at h1
     rw[if_neg (by simp),<-h1];simp
    rw[if_pos rfl] at h1 ⊢
    rw[<-h1];simp
   have HFIN:=hI fin
   clear fin
   have HEQ2:=hI (show out++(if done then x::l.drop (k+1) else putL s (x::l.drop (k+1)))=putL s l by rw[<-HD.out];exact HEQ.out)
   clear HEQ HD
   cases done
   ·have hol2:out.length<=k:=HOD.out rfl
    cases h1:Op.bytesLess s.toList x.toList
    ·cases h2:(s.toList==x.toList)
     case' false =>
      have HNX:=hI (HFIN.out out false (.bool false) wr HEQ2.out (fun _=>⟨h1,h2⟩))
      go_upto_region 10 with fail
     case' true =>
      have HNX:=hI (HFIN.out out true (.bool false) wr (by rw[if_pos rfl,<-putL_same h1 h2];have:=HEQ2.out;rwa [if_neg (by simp)] at this) (fun h=>by cases h))
      go_upto_region 10 with fail
     all_goals
      clear h1 h2
      have hz1:=HX.out.size
      go_wp2_with (at_builtin;refine wpList_append_new elemStr rfl _ _ rfl w.heap.size _ _ _ rfl HO.out _ 1 1 rfl ?c0 rfl ?c1 ?c2 ?c3 ?c4 ?_)
      case c0=>rfl
      case c1=>simp[Value.oneCell']
      case c2=>simp only[maxLen];omega
      case c3=>omega
      try (case c4=>omega)
      intro v2 w2 hown2 hgrow2
      have HO2:=hI (show OwnS w2 w.heap.size (out++[x]) v2 by unfold OwnS;rw[List.length_append,List.flatMap_append];exact hown2)
      have HX2:=hI (HX.out.grown hgrow2 (owns_base HO.out))
      clear hown2 hgrow2 hcell
      go_wp2_with fail
      go_roundg (n - (k+1))
      case measure=>have:=HM.out;omega
      case rel=>exact⟨k+1,out++[x],_,by omega,rfl,by go_num,rfl,by simp;omega,fun _=>by simp;omega,HO2.out,HNX.out,HX2.out⟩
    have HNX:=hI (HFIN.out (out++[s]) true (.bool false) wr (by rw[if_pos rfl,List.append_assoc];have:=HEQ2.out;rw[if_neg (by simp),putL_lt h1] at this;simpa using this) (fun h=>by cases h))
    have hz1:=HX.out.size
    go_wp2_with (at_builtin;refine wpList_append_new elemStr rfl _ _ rfl w.heap.size _ _ _ rfl HO.out _ 1 1 rfl ?c0 rfl ?c1 ?c2 ?c3 ?c4 ?_)
    case c0=>rfl
    case c1=>simp[Value.oneCell']
    case c2=>simp only[maxLen];omega
    case c3=>omega
    try (case c4=>omega)
    intro v2 w2 hown2 hgrow2
    have HO2:=hI (show OwnS w2 w.heap.size (out++[s]) v2 by unfold OwnS;rw[List.length_append,List.flatMap_append];exact hown2)
    have HX2:=hI (HX.out.grown hgrow2 (owns_base HO.out))
    have hcell2:=HX2.out.cell HC.out
    have hbl2:=block_lt hcell2
    simp only at hbl2
    have hz2:=HX2.out.size
    have hown3:=HO2.out
    unfold OwnS at hown3
    have hl2:(out++[s]).length<=k+1:=by simp;omega
    generalize out++[s]=out2 at *
    obtain⟨ua2,uc2,rfl,-,-⟩:=strs_of_owns hown3 [] (by simp)
    clear hown2 hgrow2 hcell hown3 h1
    go_wp2_with (at_builtin;refine wpList_append_new elemStr rfl _ _ rfl w.heap.size _ _ _ rfl HO2.out _ 1 1 rfl ?d0 rfl ?d1 ?d2 ?d3 ?d4 ?_)
    case d0=>rfl
    case d1=>simp[Value.oneCell']
    case d2=>simp only[maxLen];omega
    case d3=>omega
    try (case d4=>omega)
    intro v4 w4 hown4 hgrow4
    have HO4:=hI (show OwnS w4 w.heap.size (out2++[x]) v4 by unfold OwnS;rw[List.length_append,List.flatMap_append];exact hown4)
    have HX4:=hI (HX2.out.grown hgrow4 (owns_base HO2.out))
    clear hown4 hgrow4 hcell2
    go_wp2_with fail
    go_roundg (n - (k+1))
    case measure=>have:=HM.out;omega
    case rel=>exact⟨k+1,out2++[x],true,by omega,rfl,by go_num,rfl,by simp;omega,fun h=>(by cases h),HO4.out,HNX.out,HX4.out⟩
   have HNX:=hI (HFIN.out out true (.bool false) wr HEQ2.out (fun h=>by cases h))
   have hz1:=HX.out.size
   go_wp2_with (at_builtin;refine wpList_append_new elemStr rfl _ _ rfl w.heap.size _ _ _ rfl HO.out _ 1 1 rfl ?c0 rfl ?c1 ?c2 ?c3 ?c4 ?_)
   case c0=>rfl
   case c1=>simp[Value.oneCell']
   case c2=>simp only[maxLen];omega
   case c3=>omega
   try (case c4=>omega)
   intro v2 w2 hown2 hgrow2
   have HO2:=hI (show OwnS w2 w.heap.size (out++[x]) v2 by unfold OwnS;rw[List.length_append,List.flatMap_append];exact hown2)
   have HX2:=hI (HX.out.grown hgrow2 (owns_base HO.out))
   clear hown2 hgrow2 hcell
   go_wp2_with fail
   go_roundg (n - (k+1))
   case measure=>have:=HM.out;omega
   case rel=>exact⟨k+1,out++[x],true,by omega,rfl,by go_num,rfl,by simp;omega,fun h=>(by cases h),HO2.out,HNX.out,HX2.out⟩
  have td:decide ((k:Int) < (n:Int))=false:=by simp;omega
  have HDR:=hI (show l.drop k=[] from List.drop_eq_nil_of_le (by have:=HN.out;omega))
  cases done
  ·have HEND:=hI (show out++[s]=putL s l by have:=HEQ.out;rw[if_neg (by simp),HDR.out] at this;exact this)
   go_wp2_with (at_builtin;refine wpList_append_new elemStr rfl _ _ rfl w.heap.size _ _ _ rfl HO.out _ 1 1 rfl ?c0 rfl ?c1 ?c2 ?c3 ?c4 ?_)
   case c0=>rfl
   case c1=>simp[Value.oneCell']
   case c2=>simp only[maxLen];omega
   case c3=>omega
   try (case c4=>omega)
   intro v2 w2 hown2 hgrow2
   have hown3:w2.ownsRow w.heap.size 9 1 v2 (out++[s]).length ((out++[s]).flatMap strCells):=by rw[List.length_append,List.flatMap_append];exact hown2
   have HX2:=hI (HX.out.grown hgrow2 (owns_base HO.out))
   obtain⟨ua2,uc2,rfl,-,hst⟩:=strs_of_owns hown3 [] (by simp)
   have HST:=hI hst
   clear hown2 hgrow2 hown3 hst
   go_wp2_with fail
   go_ret
   refine⟨ua2,uc2,?_,?_,HX2.out⟩
   ·rw[<-HEND.out];rfl
   rw[<-HEND.out];exact HST.out
  have HEND:=hI (show out=putL s l by have:=HEQ.out;rw[if_pos rfl,HDR.out,List.append_nil] at this;exact this)
  obtain⟨ua2,uc2,e2,-,hst⟩:=strs_of_owns HO.out [] (by simp)
  simp only[Value.slice.injEq,true_and] at e2
  obtain⟨rfl,rfl⟩:=e2
  have HST:=hI hst
  clear hst
  go_wp2_with fail
  go_ret
  refine⟨ua,uc,?_,?_,HX.out⟩
  ·rw[<-HEND.out];rfl
  rw[<-HEND.out];exact HST.out
def gath (m l:ZB):ZB:=m.foldl (fun l s=>putL s l) l
theorem gath_append (m k l:ZB):gath (m++k) l=gath k (gath m l):=by simp[gath]
theorem gath_nil (l:ZB):gath [] l=l:=rfl
theorem gath_one (s:BA) (l:ZB):gath [s] l=putL s l:=rfl
theorem gath_len (m l:ZB):(gath m l).length<=m.length+l.length:=fold_len m l
mutual
theorem namesE_len:(e:Ex)->(namesE e).length<=e.size
 | .mk op name words lo hi args=>by
  have:=namesL_len args
  rw[namesE,Ex.size,List.length_append]
  split<;>simp<;>omega
theorem namesL_len:(l:List Ex)->(namesL l).length<=sizes l
 | []=>by simp[namesL,sizes]
 | e::r=>by
  have:=namesE_len e
  have:=namesL_len r
  rw[namesL,sizes,List.length_append];omega
end
theorem gather_calls (m:Nat):m<=1000000->∀ (e:Ex) (v:Value) (w:World) (l:ZB) (a:OA) (n c:Nat),e.size<=m->IsEx w e v->IsStrs w l a n c->n+e.size<=1000000 ->
  Calls Tryz.prog 107 #[.slice a n c,v] w (PutQ (gath (namesE e) l) w):=by
 induction m with
 | zero=>intro _ e v w l a n c h;have:=size_pos e;omega
 | succ m ih =>
  intro hMM e v w l a n c hm he hs hn
  obtain⟨aw,nw,cw,aa,na,ca,rfl,hw,hna,hca,ha,hx⟩:=he.parts
  have hS:e.size=1+sizes e.args:=e.size_eq
  have hla:=length_le_sizes e.args
  have HX:=hI ((Ext.refl w).alloc (.cells #[.int .i64 e.op,.string e.name,.slice aw nw cw,.int .i64 e.lo,.int .i64 e.hi,.slice aa na ca] 26))
  have HBX:=hI (alloc_new w (.cells #[.int .i64 e.op,.string e.name,.slice aw nw cw,.int .i64 e.lo,.int .i64 e.hi,.slice aa na ca] 26))
  have HXS:=hI (ExsD.ext HX.out e.args aa hx)
  have HS:=hI (hs.ext HX.out)
  have HSN:=hI hs.1
  have HNA:=hI hna
  have HNM:=hI (namesE_eq e)
  have IH:=hI (ih (by omega))
  have hna2:na<=1000000:=by omega
  have hsz:sizes e.args<=m:=by omega
  have hn2:n+1+sizes e.args<=1000000:=by omega
  clear hw hna hca ha hx he hs hS hla ih hm hn
  generalize namesE e=NE at *
  unfold exV
  go_enter Tryz.func107,Tryz.ntmps107
  go_upto_region 1 with fail
  generalize w.alloc (.cells #[.int .i64 e.op,.string e.name,.slice aw nw cw,.int .i64 e.lo,.int .i64 e.hi,.slice aa na ca] 26)=wb at *
  obtain⟨b0,b1,b2,b3,b4,b5,bf⟩:=blk6 HBX.out
  have hlx:=blk_lt HBX.out
  by_cases h3:e.op=3
  case' pos =>
   have t3:(e.op==3)=true:=by simp[h3]
   have HNE:=hI (show gath NE l=gath (namesL e.args) (putL e.name l) by rw[HNM.out,if_pos h3,gath_append,gath_one])
   have hpl:=putL_len e.name l
   clear h3
   go_wp2_with fail
   refine(put_calls e.name l a n c _ HS.out (by omega)).mono ?_
   rintro r w1 ⟨a1,c1,rfl,hs1,hx1⟩
   have HS1:=hI hs1
   have HX1:=hI hx1
   have HB1:=hI (hx1.blk HBX.out)
   have hl1:(putL e.name l).length<=n+1:=by have:=HSN.out;omega
   clear hs1 hx1 b0 b1 b2 b3 b4 b5 bf hlx HS HSN hpl
   generalize putL e.name l=l1 at *
   obtain⟨n1,hn1⟩:∃ n1,n1=l1.length:=⟨_,rfl⟩
   rw[<-hn1] at HS1 hl1 ⊢
   clear hn1
   go_upto_region 3 with fail
  case' neg =>
   have t3:(e.op==3)=false:=by simp[h3]
   have HNE:=hI (show gath NE l=gath (namesL e.args) l by rw[HNM.out,if_neg h3];simp)
   have HX1:=hI (Ext.refl wb)
   have HB1:=HBX
   have hl1:n<=n+1:=by omega
   have HS1:=HS
   clear h3 HS
   obtain⟨l1,hl1e⟩:∃ l1,l1=l:=⟨_,rfl⟩
   have HNE2:=hI (show gath NE l=gath (namesL e.args) l1 by rw[hl1e];exact HNE.out)
   rw[<-hl1e] at HS1 HSN
   clear hl1e HNE
   have HNE:=HNE2
   clear HNE2
   go_upto_region 3 with fail
   clear b0 b1 b2 b3 b4 b5 bf hlx
  all_goals
   go_wp2_with fail
   go_loopg [0,5] na (fun g u i wr=>∃ (j:Nat) (al:OA) (nl cl:Nat),j<=na/\g=na - j/\i=.int .i64 j/\u=.slice al nl cl/\nl<=n+1+(namesL (e.args.take j)).length/\IsStrs wr (gath (namesL (e.args.take j)) l1) al nl cl/\Ext wb wr)
   case atStart=>exact⟨0,_,_,_,by omega,rfl,rfl,rfl,by omega,by simpa [namesL,gath_nil] using HS1.out,HX1.out⟩
   case round =>
    obtain⟨j,al,nl,cl,hj,hgj,rfl,rfl,hnl,hsj,hxj⟩:=hrel
    have HGN:=hI hgj
    have HSJ:=hI hsj
    have HXJ:=hI hxj
    have HNL:=hI hnl
    have HBJ:=hI (hxj.blk HBX.out)
    clear hsj hxj hgj hnl
    obtain⟨b0,b1,b2,b3,b4,b5,bf⟩:=blk6 HBJ.out
    have hlx:=blk_lt HBJ.out
    by_cases hlt:j < na
    ·have hlt':j < e.args.length:=by have:=HNA.out;omega
     have td:decide ((j:Int) < (na:Int))=true:=by simp;omega
     obtain⟨bb,off,rfl,aw1,nw1,cw1,aa1,na1,ca1,c0,c1,c2,c3,c4,c5,c6⟩:=ExsD.at e.args _ (ExsD.ext HXJ.out _ _ HXS.out) j hlt'
     have HC6:=hI c6
     have HST:=hI (sizes_take_succ e.args j hlt')
     have HSL:=hI (sizes_take_le e.args (j+1))
     have HNT:=hI (namesL_take e.args j hlt')
     have HNE3:=hI (namesL_len (e.args.take j))
     clear c6
     generalize e.args[j]=a' at *
     go_wp2_with fail
     refine(IH.out a' _ _ _ al nl cl (by have:=HST.out;have:=HSL.out;omega) HC6.out HSJ.out (by have:=HST.out;have:=HSL.out;have:=HNL.out;have:=HNE3.out;omega)).mono ?_
     rintro r w2 ⟨a2,c2',rfl,hs2,hx2⟩
     have HL2:=hI (show (gath (namesE a') (gath (namesL (e.args.take j)) l1)).length<=n+1+(namesL (e.args.take (j+1))).length by
      have h1:=gath_len (namesE a') (gath (namesL (e.args.take j)) l1)
      have h2:=HSJ.out.1
      have h3:=HNL.out
      rw[HNT.out,List.length_append];omega)
     have HS2:=hI (show IsStrs w2 (gath (namesL (e.args.take (j+1))) l1) a2 (gath (namesE a') (gath (namesL (e.args.take j)) l1)).length c2' by rw[HNT.out,gath_append];exact hs2)
     have HX2:=hI (HXJ.out.trans hx2)
     clear hs2 hx2 c0 c1 c2 c3 c4 c5 b0 b1 b2 b3 b4 b5 bf hlx
     generalize (gath (namesE a') (gath (namesL (e.args.take j)) l1)).length=n2 at *
     go_wp2_with fail
     go_roundg (na - (j+1))
     case measure=>have:=HGN.out;omega
     case rel=>exact⟨j+1,a2,n2,c2',by omega,rfl,by go_num,rfl,HL2.out,HS2.out,HX2.out⟩
    have HE2:=hI (show e.args.take j=e.args from List.take_of_length_le (by have:=HNA.out;omega))
    have td:decide ((j:Int) < (na:Int))=false:=by simp;omega
    rw[HE2.out,<-HNE.out] at HSJ
    have HLN:=hI HSJ.out.1
    go_wp2_with fail
    go_ret
    refine⟨al,cl,?_,?_,HX.out.trans HXJ.out⟩
    ·rw[<-HLN.out];rfl
    rw[<-HLN.out];exact HSJ.out
theorem rnames_calls (e:Ex) (v:Value) (w:World) (hs:e.size<=900000) (he:IsEx w e v):Calls Tryz.prog 86 #[v] w (PutQ (refNames (namesE e)) w):=by
 obtain⟨aw,nw,cw,aa,na,ca,rfl,-,-,-,-,-⟩:=he.parts
 have HX:=hI ((Ext.refl w).alloc (.cells #[.int .i64 e.op,.string e.name,.slice aw nw cw,.int .i64 e.lo,.int .i64 e.hi,.slice aa na ca] 26))
 have HE:=hI (he.ext HX.out)
 clear he
 unfold exV at *
 go_enter Tryz.func86,Tryz.ntmps86
 go_wp2_with fail
 refine(gather_calls 900000 (by omega) e _ _ [] none 0 0 hs HE.out ⟨rfl,Nat.le_refl 0,Or.inl ⟨rfl,rfl⟩,fun i hi=>by simp at hi⟩ (by omega)).mono ?_
 rintro r w1 ⟨a1,c1,rfl,hs1,hx1⟩
 have HS1:=hI hs1
 have HX1:=hI (HX.out.trans hx1)
 clear hs1 hx1
 go_wp2_with fail
 go_ret
 exact⟨a1,c1,rfl,HS1.out,HX1.out⟩
end Go.Proofs.YtpkljcgihobaiaaGreatDoor

/-
 DERIVED: THE SHELF's CONTRACTS AT THIS DUMP,IN PLAIN WORDS (tools/lay-plain.mjs out of 'TrydLay.lean',which tools/lay-shelf.mjs wrote): THE SAME DECLARATIONS UNDER THE SAME NAMES: 'import','namespace','open','def','theorem' AND NOTHING ELSE: no command of the shelf's: FOR A HAND-IN. Each laying: the table of numbers ('.._ren') and one theorem,a field a fact of the dump's own or the kernel's comparison;each contract: ONE APPLICATION.
-/
namespace Go.Proofs
set_option maxRecDepth 100000
set_option maxHeartbeats 32000000
open Go.Shelf
def Tryz.keys42_ren:Go.Shelf.Ren:=⟨fun|7=>116|10=>131|n=>n,fun|23=>136|26=>9|3=>137|28=>157|0=>0|27=>156|33=>116|4=>4|n=>n,fun|n=>n⟩
theorem Tryz.keys42:Go.Proofs.SlLaysZ.n7 Tryz.prog Tryz.keys42_ren:={
 mixed:=by kernel_rfl
 f7:=⟨Tryz.f116.name,by decide,Tryz.func116.trans (congrArg some (by kernel_rfl))⟩
 f10:=⟨Tryz.f131.name,by decide,Tryz.func131.trans (congrArg some (by kernel_rfl))⟩
 t0:=Tryz.underlying0
 a0:=Tryz.isAgg0
 z0:=Tryz.sizeOf0
 v0:=Tryz.zeroValue0
 t4:=Tryz.underlying4
 a4:=Tryz.isAgg4
 z4:=Tryz.sizeOf4
 v4:=Tryz.zeroValue4
 t23:=Tryz.underlying136
 a23:=Tryz.isAgg136
 z23:=Tryz.sizeOf136
 v23:=Tryz.zeroValue136
 t26:=Tryz.underlying9
 a26:=Tryz.isAgg9
 z26:=Tryz.sizeOf9
 v26:=Tryz.zeroValue9
 t27:=Tryz.underlying156
 a27:=Tryz.isAgg156
 z27:=Tryz.sizeOf156
 v27:=Tryz.zeroValue156
 t28:=Tryz.underlying157
 a28:=Tryz.isAgg157
 z28:=Tryz.sizeOf157
 v28:=Tryz.zeroValue157
 t33:=Tryz.underlying116
 a33:=Tryz.isAgg116
 z33:=Tryz.sizeOf116
 v33:=Tryz.zeroValue116 }
def Tryz.sorted41_ren:Go.Shelf.Ren:=⟨fun|6=>115|8=>129|9=>130|11=>137|13=>139|12=>138|23=>151|24=>152|14=>142|15=>143|16=>144|17=>145|18=>146|19=>147|20=>148|21=>149|22=>150|25=>153|26=>154|27=>155|28=>156|29=>157|30=>158|31=>159|n=>n,fun|26=>9|28=>157|24=>23|0=>0|3=>3|37=>179|48=>192|50=>194|4=>4|40=>185|39=>184|45=>79|5=>5|9=>9|51=>195|55=>167|57=>200|58=>88|33=>116|n=>n,fun|n=>n⟩
theorem Tryz.sorted41:Go.Proofs.SlLaysZ.n6 Tryz.prog Tryz.sorted41_ren:={
 mixed:=by kernel_rfl
 f6:=⟨Tryz.f115.name,by decide,Tryz.func115.trans (congrArg some (by kernel_rfl))⟩
 f8:=⟨Tryz.f129.name,by decide,Tryz.func129.trans (congrArg some (by kernel_rfl))⟩
 f11:=⟨Tryz.f137.name,by decide,Tryz.func137.trans (congrArg some (by kernel_rfl))⟩
 t0:=Tryz.underlying0
 a0:=Tryz.isAgg0
 z0:=Tryz.sizeOf0
 v0:=Tryz.zeroValue0
 t24:=Tryz.underlying23
 a24:=Tryz.isAgg23
 z24:=Tryz.sizeOf23
 v24:=Tryz.zeroValue23
 t26:=Tryz.underlying9
 a26:=Tryz.isAgg9
 z26:=Tryz.sizeOf9
 v26:=Tryz.zeroValue9
 t28:=Tryz.underlying157
 a28:=Tryz.isAgg157
 z28:=Tryz.sizeOf157
 v28:=Tryz.zeroValue157
 i26:=by kernel_rfl }
def Tryz.sort61_ren:Go.Shelf.Ren:=⟨fun|6=>130|8=>139|9=>138|19=>151|20=>152|21=>142|22=>143|23=>144|24=>145|25=>146|26=>147|27=>148|28=>149|29=>150|36=>153|31=>154|32=>155|37=>156|38=>157|39=>158|41=>159|n=>n,fun|27=>23|29=>9|3=>3|32=>179|26=>23|0=>0|44=>192|46=>194|4=>4|36=>185|35=>184|41=>79|5=>5|9=>9|53=>195|57=>167|63=>200|64=>88|n=>n,fun|n=>n⟩
theorem Tryz.sort61:Go.Proofs.SlLaysM.n6 Tryz.prog Tryz.sort61_ren:={
 mixed:=by kernel_rfl
 f6:=⟨Tryz.f130.name,by decide,Tryz.func130.trans (congrArg some (by kernel_rfl))⟩
 f8:=Tryz.func139.trans (congrArg some (by kernel_rfl))
 f9:=⟨Tryz.f138.name,by decide,Tryz.func138.trans (congrArg some (by kernel_rfl))⟩
 f19:=Tryz.func151.trans (congrArg some (by kernel_rfl))
 f20:=Tryz.func152.trans (congrArg some (by kernel_rfl))
 f21:=⟨Tryz.f142.name,by decide,Tryz.func142.trans (congrArg some (by kernel_rfl))⟩
 f22:=⟨Tryz.f143.name,by decide,Tryz.func143.trans (congrArg some (by kernel_rfl))⟩
 f23:=⟨Tryz.f144.name,by decide,Tryz.func144.trans (congrArg some (by kernel_rfl))⟩
 f24:=⟨Tryz.f145.name,by decide,Tryz.func145.trans (congrArg some (by kernel_rfl))⟩
 f25:=⟨Tryz.f146.name,by decide,Tryz.func146.trans (congrArg some (by kernel_rfl))⟩
 f26:=⟨Tryz.f147.name,by decide,Tryz.func147.trans (congrArg some (by kernel_rfl))⟩
 f27:=⟨Tryz.f148.name,by decide,Tryz.func148.trans (congrArg some (by kernel_rfl))⟩
 f28:=⟨Tryz.f149.name,by decide,Tryz.func149.trans (congrArg some (by kernel_rfl))⟩
 f29:=⟨Tryz.f150.name,by decide,Tryz.func150.trans (congrArg some (by kernel_rfl))⟩
 f31:=Tryz.func154.trans (congrArg some (by kernel_rfl))
 f32:=Tryz.func155.trans (congrArg some (by kernel_rfl))
 f36:=⟨Tryz.f153.name,by decide,Tryz.func153.trans (congrArg some (by kernel_rfl))⟩
 f37:=⟨Tryz.f156.name,by decide,Tryz.func156.trans (congrArg some (by kernel_rfl))⟩
 f38:=⟨Tryz.f157.name,by decide,Tryz.func157.trans (congrArg some (by kernel_rfl))⟩
 f39:=⟨Tryz.f158.name,by decide,Tryz.func158.trans (congrArg some (by kernel_rfl))⟩
 f41:=⟨Tryz.f159.name,by decide,Tryz.func159.trans (congrArg some (by kernel_rfl))⟩
 t0:=Tryz.underlying0
 a0:=Tryz.isAgg0
 z0:=Tryz.sizeOf0
 v0:=Tryz.zeroValue0
 t3:=Tryz.underlying3
 a3:=Tryz.isAgg3
 z3:=Tryz.sizeOf3
 v3:=Tryz.zeroValue3
 t4:=Tryz.underlying4
 a4:=Tryz.isAgg4
 z4:=Tryz.sizeOf4
 v4:=Tryz.zeroValue4
 t5:=Tryz.underlying5
 a5:=Tryz.isAgg5
 z5:=Tryz.sizeOf5
 v5:=Tryz.zeroValue5
 t9:=Tryz.underlying9
 a9:=Tryz.isAgg9
 z9:=Tryz.sizeOf9
 v9:=Tryz.zeroValue9
 t26:=Tryz.underlying23
 a26:=Tryz.isAgg23
 z26:=Tryz.sizeOf23
 v26:=Tryz.zeroValue23
 t27:=Tryz.underlying23
 a27:=Tryz.isAgg23
 z27:=Tryz.sizeOf23
 v27:=Tryz.zeroValue23
 t29:=Tryz.underlying9
 a29:=Tryz.isAgg9
 z29:=Tryz.sizeOf9
 v29:=Tryz.zeroValue9
 t32:=Tryz.underlying179
 a32:=Tryz.isAgg179
 z32:=Tryz.sizeOf179
 v32:=Tryz.zeroValue179
 t35:=Tryz.underlying184
 a35:=Tryz.isAgg184
 z35:=Tryz.sizeOf184
 v35:=Tryz.zeroValue184
 t36:=Tryz.underlying185
 a36:=Tryz.isAgg185
 z36:=Tryz.sizeOf185
 v36:=Tryz.zeroValue185
 t41:=Tryz.underlying79
 a41:=Tryz.isAgg79
 z41:=Tryz.sizeOf79
 v41:=Tryz.zeroValue79
 t44:=Tryz.underlying192
 a44:=Tryz.isAgg192
 z44:=Tryz.sizeOf192
 v44:=Tryz.zeroValue192
 t46:=Tryz.underlying194
 a46:=Tryz.isAgg194
 z46:=Tryz.sizeOf194
 v46:=Tryz.zeroValue194
 t53:=Tryz.underlying195
 a53:=Tryz.isAgg195
 z53:=Tryz.sizeOf195
 v53:=Tryz.zeroValue195
 t57:=Tryz.underlying167
 a57:=Tryz.isAgg167
 z57:=Tryz.sizeOf167
 v57:=Tryz.zeroValue167
 t63:=Tryz.underlying200
 a63:=Tryz.isAgg200
 z63:=Tryz.sizeOf200
 v63:=Tryz.zeroValue200
 t64:=Tryz.underlying88
 a64:=Tryz.isAgg88
 z64:=Tryz.sizeOf88
 v64:=Tryz.zeroValue88 }
end Go.Proofs

/-
 slices.Sorted(maps.Keys(m)) at this program: the shelf's contracts,as lay-iter.mjs lays them.
-/
namespace Go.Proofs
set_option maxRecDepth 100000
set_option maxHeartbeats 32000000
open Go.RowKit Go.Maps Go.Sort Go.Shelf
theorem Tryz.sorts41 (m:Nat):AnyZ.SortsIn Tryz.prog Tryz.sorted41_ren Fence.wide m :=
 ⟨fun blk off cap ss W hH hblk hsz=>callsIn_wide.2 (AnyM.slices_Sort_string Tryz.sort61 blk off cap ss W hH hblk hsz),
 fun p cap W=>callsIn_wide.2 (AnyM.slices_Sort_string_none Tryz.sort61 p cap W)⟩
theorem Tryz.maps_Keys_42 (mb:Option Nat) (W:World):CallsIn Fence.wide 5 Tryz.prog 116 #[.map mb] W fun e w'=>e=.returned (.func (.func 131) #[] #[.pointer (some ⟨W.heap.size,0,none⟩)])/\w'=W.alloc (.cells #[.map mb] 136) :=
 AnyZ.keys_in Tryz.keys42 Fence.wide 5 trivial rfl mb W
theorem Tryz.slices_Sorted_keys_41_42 {H:Type} (b nn:Nat) (D0:DataW H) (R:Value->Option (DataW H×List MemPlace)) (w:World) (hown:w.ownsMap Tryz.prog 9 R b nn D0) (hmax:Maps.size D0<=maxLen) (hbytes:Maps.size D0 * 16<=140737488355328) :
  CallsIn Fence.wide 5 Tryz.prog 115 #[.func (.func 131) #[] #[.pointer (some ⟨w.heap.size,0,none⟩)]] (w.alloc (.cells #[.map (some b)] 136)) fun e w'=>∃ (v:Value) (ss:List (List UInt8)),e=.returned v/\ss.Perm (strKeys D0) /\
   w'.ownsRow (w.alloc (.cells #[.map (some b)] 136)).heap.size 9 1 v ss.length ((ss.mergeSort (fun x y=>decide (x<=y))).map encStr)/\(v=.slice none 0 0 ↔ ss=[])/\Below (w.alloc (.cells #[.map (some b)] 136)).heap.size (w.alloc (.cells #[.map (some b)] 136)) w':=by
 have hbl:=hown.lt
 have hseq:SeqGives Fence.wide 2 Tryz.prog 131 #[.pointer (some ⟨w.heap.size,0,none⟩)] encStr (fun ss=>ss.Perm (strKeys D0)) (Maps.size D0) (w.alloc (.cells #[.map (some b)] 136)) :=
  AnyZ.keys_gives (ρ:=Tryz.keys42_ren) { Tryz.keys42 with } Fence.wide _ trivial rfl (by omega) w.heap.size b nn D0 _ (by simp) (by simp) (by
   obtain⟨es,clock,hb,Ft,hs,hD⟩:=hown
   exact⟨es,clock,(Below.heap_alloc _ _ b hbl).trans hb,Ft,hs,hD⟩)
 exact AnyZ.sorted_in Tryz.sorted41 Fence.wide 5 trivial trivial trivial trivial rfl (by omega) (Tryz.sorts41 _) (enters_of Tryz.func130 (by kernel_rfl) rfl) 131 #[.pointer (some ⟨w.heap.size,0,none⟩)] trivial (enters_of Tryz.func131 (by kernel_rfl) rfl) _ _ hmax hbytes _ hseq
end Go.Proofs

namespace Go.Proofs.YtpkljcgihobaiaaGreatDoor
set_option maxRecDepth 100000
set_option maxHeartbeats 32000000
open Go.RowKit Go.Maps Go.Sort Go.Shelf
theorem strs_of_row {w:World} {base:Nat} {l:ZB} {v:Value} {n:Nat} (h:w.ownsRow base 9 1 v n ((l.map (·.data.toList)).map encStr)) (hn:n=l.length):∃ a c,v=.slice a l.length c/\IsStrs w l a l.length c:=by
 subst hn
 have e:(l.map (·.data.toList)).map encStr=l.flatMap strCells:=by
  clear h
  induction l with
  | nil=>rfl
  | cons x r ih=>simp only[List.map_cons,ih,List.flatMap_cons,strCells];rfl
 rw[e] at h
 obtain⟨a,c,h1,_,h2⟩:=strs_of_owns h [] (by simp)
 exact⟨a,c,h1,h2⟩
theorem size_owned {w:World} {b n:Nat} {D:DataW Unit} {R:Value->Option (DataW Unit×List MemPlace)} (h:w.ownsMap Tryz.prog 9 R b n D):Maps.size D<=n:=by
 obtain⟨es,clock,_,_,hs,rfl⟩:=h
 simp only[Maps.size]
 rw[length_sorted]
 simpa using hs
def PutQF (l:ZB) (w:World) (e:Ending) (w':World):Prop:=∃ (a:OA) (c:Nat),e=.returned (.slice a l.length c)/\IsStrs w' l a l.length c/\Ext w w'/\∀ b off,a=some ⟨b,off,none⟩->w.heap.size<=b
theorem synNamesF_calls (e:Ex) (v:Value) (w:World) (hs:e.size<=900000) (hf:e.fits) (he:IsEx w e v):Calls Tryz.prog 94 #[v] w (PutQF (refNames (namesE e)) w):=by
 obtain⟨aw,nw,cw,aa,na,ca,rfl,-,-,-,-,-⟩:=he.parts
 have HX:=hI (((Ext.refl w).alloc (.cells #[.int .i64 e.op,.string e.name,.slice aw nw cw,.int .i64 e.lo,.int .i64 e.hi,.slice aa na ca] 26)).alloc (.map #[] 0))
 have HSET:=hI (show SetAt ((w.alloc (.cells #[.int .i64 e.op,.string e.name,.slice aw nw cw,.int .i64 e.lo,.int .i64 e.hi,.slice aa na ca] 26)).alloc (.map #[] 0)) (w.heap.size+1) 0 [] from
  ⟨.map [],by have:=World.ownsMap_made (H:=Unit) (w.alloc (.cells #[.int .i64 e.op,.string e.name,.slice aw nw cw,.int .i64 e.lo,.int .i64 e.hi,.slice aa na ca] 26)) Tryz.prog 9 unitElem;simpa using this,setIs_nil⟩)
 have HE:=hI (show IsEx (mask ((w.alloc (.cells #[.int .i64 e.op,.string e.name,.slice aw nw cw,.int .i64 e.lo,.int .i64 e.hi,.slice aa na ca] 26)).alloc (.map #[] 0)) [w.heap.size+1]) e (exV e.op e.name aw nw cw e.lo e.hi aa na ca) from
  he.mono (fun p q hp=>by
   have hb:=block_lt hp
   rw[mask_cell,if_neg (by simp;omega)]
   exact HX.out.cell hp))
 have HC:=hI (collect_calls 900000 (by omega) e _ _ _ _ _ hs hf HE.out HSET.out (by omega))
 have hmm:=@run_makeMap Tryz.prog
 rw[List.nil_append] at HC
 clear he HSET HE
 unfold exV at *
 refine(callsIn_wide (n:=6)).1 ?_
 have hfK:Fence.wide.fn 116:=trivial
 have hfS:Fence.wide.fn 115:=trivial
 have hfC:Fence.wide.fn 114:=trivial
 refine callsIn_of_wp Tryz.func94 rfl trivial ?_ rfl
 simp only[Tryz.ntmps94,List.size_toArray,List.length_cons,List.length_nil,Nat.reduceAdd,Nat.reduceSub,Array.replicate_succ,Array.replicate_zero,List.push_toArray,List.append_toArray,List.nil_append,List.cons_append]
 gi_wp2_with (first
  | (gi_at_call 114;refine(callsIn_wide.2 HC.out).mono ?_;rintro r w1 ⟨rfl,hset1,hc1⟩)
  | (gi_at_call 116;refine(Tryz.maps_Keys_42 _ _).mono ?_;rintro r w' ⟨rfl,rfl⟩))
 obtain⟨D,hown,hsi⟩:=hset1
 have hsize:=size_owned hown
 have hwx:=hc1.ext HX.out (by simp)
 have HX1:=hI hwx
 have HSI:=hI hsi
 clear hc1 hsi hwx
 refine(Tryz.slices_Sorted_keys_41_42 (w.heap.size+1) _ D _ w1 hown (by unfold maxLen;omega) (by omega)).mono ?_
 rintro r w2 ⟨v,ss,rfl,hS,hrow,-,hb⟩
 have hsame:=names_same HSI.out hS
 have hlen:ss.length=(refNames (namesE e)).length:=by
  have:=congrArg List.length hsame
  simpa using this
 rw[hsame] at hrow
 have hfr:=hrow.lt
 obtain⟨ra,rc,rfl,hst⟩:=strs_of_row hrow hlen
 have HFR:=hI (show ∀ b off,ra=some ⟨b,off,none⟩->w.heap.size<=b by
  intro b off e
  subst e
  have h1:=(hfr b rfl).1
  have h2:=HX1.out.size
  simp at h1
  omega)
 have HST:=hI hst
 have HX2:=hI ((HX1.out.alloc (.cells #[.map (some (w.heap.size+1))] 136)).trans hb)
 clear hrow hst hb hS hsame hlen hown hsize hfr
 gi_wp2_with (fail)
 go_ret
 exact⟨ra,rc,rfl,HST.out,HX2.out,HFR.out⟩
end Go.Proofs.YtpkljcgihobaiaaGreatDoor
