/-
  Texts of the claim, joined: Prv2, DPr0, DPrF, DPrD, DPrN, DPrA.
-/
import Derived.Test.YtpkljcgihobaiaaGreatDoorVe23
namespace Go.Proofs.YtpkljcgihobaiaaGreatDoor
set_option maxRecDepth 100000
set_option maxHeartbeats 32000000
theorem prv_all {s:List Attr} {l:List Cla} {f:ZI} {g:Nat} {op:Int} {name:BA} {words:ZB} {lo hi:Int} {args:List Ex} {V:Bool} (hop:op=7\/op=8) (hV:valF s l f (g+1) (.mk op name words lo hi args)=V) (h7:V=decide (op=7)) {ps:List Pr} (hl:args.length=ps.length)
  (h:∀ i (h1:i < args.length) (h2:i < ps.length),prvF s l f (g+1) args[i] ps[i]=true):prvF s l f (g+1) (.mk op name words lo hi args) (.mk V (-1) ps)=true:=by
 have hz:prvZip s f (fun x=>(defAt l x).map fun d=>prvF s l f g (l.getD d cla0).cond) V args ps=true:=prvZip_of args ps hl fun i h1 h2=>by
  have hp:=h i h1 h2
  have hv:=prvF_sound s l f (g+1) _ _ hp
  refine⟨by rw[prvF] at hp;exact hp,?_⟩
  rw[hv]
  rw[valF,valE] at hV
  rw[valF]
  rcases hop with rfl|rfl
  ·have e:V=true:=by rw[h7];rfl
   rw[if_neg (by decide),if_pos rfl,valAll_iff,e] at hV
   rw[e]
   exact List.all_eq_true.1 hV _ (List.getElem_mem h1)
  have e:V=false:=by rw[h7];rfl
  rw[if_neg (by decide),if_neg (by decide),if_pos rfl,valAny_iff,e] at hV
  rw[e]
  have:=List.any_eq_false.1 hV _ (List.getElem_mem h1)
  simpa using this
 have h8:¬ V=decide (op=8):=by
  rcases hop with rfl|rfl<;>(rw[h7];decide)
 rw[prvF,prvE,if_neg (by omega),if_pos hop,if_neg h8,hz]
 rfl
theorem prv_pick {s:List Attr} {l:List Cla} {f:ZI} {g:Nat} {op:Int} {name:BA} {words:ZB} {lo hi:Int} {args:List Ex} {V:Bool} (hop:op=7\/op=8) (h8:V=decide (op=8)) {k:Nat} (hk:k < args.length) (hv:valF s l f (g+1) args[k]=V) {q:Pr}
  (hq:prvF s l f (g+1) args[k] q=true):prvF s l f (g+1) (.mk op name words lo hi args) (.mk V (k:Int) [q])=true:=by
 have hs:=prvF_sound s l f (g+1) _ _ hq
 rw[hv] at hs
 rw[prvF] at hq
 rw[prvF,prvE,if_neg (by omega),if_pos hop,if_pos h8]
 simp only[List.all_cons,List.all_nil,List.length_singleton]
 rw[prvAt_get,Int.toNat_natCast,List.getElem?_eq_getElem hk]
 simp only[Option.map_some,Option.getD_some,hq,hs]
 simp
theorem val_some {s:List Attr} {l:List Cla} {f:ZI} {g:Nat} {op:Int} {name:BA} {words:ZB} {lo hi:Int} {args:List Ex} {V:Bool} (hop:op=7\/op=8) (hV:valF s l f (g+1) (.mk op name words lo hi args)=V) (h8:V=decide (op=8)):∃ j,∃ h:j < args.length,valF s l f (g+1) args[j]=V:=by
 rw[valF,valE] at hV
 have key:∃ e∈args,valF s l f (g+1) e=V:=by
  rcases hop with rfl|rfl
  ·have e:V=false:=by rw[h8];rfl
   rw[if_neg (by decide),if_pos rfl,valAll_iff,e,List.all_eq_false] at hV
   obtain⟨x,hx,hy⟩:=hV
   exact⟨x,hx,by rw[valF,e];simpa using hy⟩
  have e:V=true:=by rw[h8];rfl
  rw[if_neg (by decide),if_neg (by decide),if_pos rfl,valAny_iff,e,List.any_eq_true] at hV
  obtain⟨x,hx,hy⟩:=hV
  exact⟨x,hx,by rw[valF,e];exact hy⟩
 obtain⟨e,he,hv⟩:=key
 obtain⟨j,hj,rfl⟩:=List.getElem_of_mem he
 exact⟨j,hj,hv⟩
theorem ring_near {n k j:Nat} (hk:k < n) (hj:j < n) (hne:k≠j):(k+1) % n < n/\(j+n - (k+1) % n) % n < (j+n - k) % n:=by
 refine⟨Nat.mod_lt _ (by omega),?_⟩
 have e1:(j+n - k) % n=if k<=j then j - k else j+n - k:=by
  split
  ·rw[show j+n - k=(j - k)+n by omega,Nat.add_mod_right,Nat.mod_eq_of_lt (by omega)]
  rw[Nat.mod_eq_of_lt (by omega)]
 rcases Nat.lt_or_ge (k+1) n with h|h
 ·rw[Nat.mod_eq_of_lt h,e1]
  have e2:(j+n - (k+1)) % n=if k+1<=j then j - (k+1) else j+n - (k+1):=by
   split
   ·rw[show j+n - (k+1)=(j - (k+1))+n by omega,Nat.add_mod_right,Nat.mod_eq_of_lt (by omega)]
   rw[Nat.mod_eq_of_lt (by omega)]
  rw[e2]
  split<;>split<;>omega
 have:k+1=n:=by omega
 rw[this,Nat.mod_self,e1,Nat.sub_zero,Nat.add_mod_right,Nat.mod_eq_of_lt hj]
 split<;>omega
open Go.RowKit
inductive Pr.few (N:Nat):Pr->Prop
 | mk {v:Bool} {k:Int} {ps:List Pr} (hn:ps.length<=N) (h:∀ q∈ps,q.few N):Pr.few N (.mk v k ps)
def DPrQ (P:Pr->Prop) (w0:World) (bd:Nat) (M:ZN) (w:World) (r:Ending) (w':World):Prop:=∃ (p:Pr) (pv:PrV),r=.returned pv.val/\P p/\IsPr (mask w' M) p pv/\DeckAt w0 w' bd/\Chg [bd] w w'
theorem dprove_fin {w0 w W:World} {bd B:Nat} {M:ZN} {p:Pr} {pv:PrV} (hb:W.heap[B]?=some prZero) (hB:w.heap.size<=B) (h0:w0.heap.size<=w.heap.size) (hne:bd≠B) (hd:DeckAt w0 W bd) (hc:Chg [bd] w W) (hp:IsPr (mask W (B::M)) p pv) :
  (put3 W B (.bool pv.value) (.int .i64 pv.pick) (.slice pv.a pv.n pv.c)).heap[B]?=some (.cells #[.bool pv.value,.int .i64 pv.pick,.slice pv.a pv.n pv.c] 40 (0,0)) /\
  IsPr (mask (put3 W B (.bool pv.value) (.int .i64 pv.pick) (.slice pv.a pv.n pv.c)) M) p pv/\DeckAt w0 (put3 W B (.bool pv.value) (.int .i64 pv.pick) (.slice pv.a pv.n pv.c)) bd/\Chg [bd] w (put3 W B (.bool pv.value) (.int .i64 pv.pick) (.slice pv.a pv.n pv.c)):=by
 have hcB:Chg [B] W (put3 W B (.bool pv.value) (.int .i64 pv.pick) (.slice pv.a pv.n pv.c)):=put3_chg W B (.bool pv.value) (.int .i64 pv.pick) (.slice pv.a pv.n pv.c) (by simp)
 refine⟨put3_blk hb _ _ _,hp.mono (mask_sub_mask fun k hk hn=>⟨fun hm=>hn (by simp[hm]),hcB.block k hk fun hm=>hn (by simp only[List.mem_singleton] at hm;simp[hm])⟩),hd.chg hcB (by simpa using hne) (fun y hy=>by simp only[List.mem_singleton] at hy;omega),hc.trans hcB fun y hy=>by simp only[List.mem_singleton] at hy;exact Or.inr (by omega)⟩
theorem prv_fact {s:List Attr} {l:List Cla} {f:ZI} {g:Nat} {op:Int} {name:BA} {words:ZB} {lo hi:Int} {args:List Ex} (h6:op≠6/\op≠7/\op≠8) (hdn:op=3->defAt l name=none):prvF s l f (g+1) (.mk op name words lo hi args) (.mk (valF s l f (g+1) (.mk op name words lo hi args)) (-1) [])=true:=by
 rw[prvF,valF,prvE,valE,if_neg h6.1,if_neg (by omega),if_neg h6.1,if_neg h6.2.1,if_neg h6.2.2]
 by_cases h3:op=3
 ·rw[if_pos h3,if_pos h3,hdn h3];simp
 rw[if_neg h3,if_neg h3];simp
theorem prv_def {s:List Attr} {l:List Cla} {f:ZI} {g:Nat} {name:BA} {words:ZB} {lo hi:Int} {args:List Ex} {d:Nat} (hd:defAt l name=some d) {q:Pr} (hq:prvF s l f g (l.getD d cla0).cond q=true):prvF s l f (g+1) (.mk 3 name words lo hi args) (.mk (valF s l f (g+1) (.mk 3 name words lo hi args)) (-1) [q])=true:=by
 have hv:=prvF_sound s l f g _ q hq
 rw[prvF,valF,prvE,valE]
 have e1:((defAt l name).map fun d=>prvF s l f g (l.getD d cla0).cond)=some (prvF s l f g (l.getD d cla0).cond):=by rw[hd];rfl
 have e2:((defAt l name).map fun d=>valF s l f g (l.getD d cla0).cond)=some (valF s l f g (l.getD d cla0).cond):=by rw[hd];rfl
 rw[if_neg (by decide),if_neg (by decide),if_pos rfl,e1,if_neg (by decide),if_neg (by decide),if_neg (by decide),if_pos rfl,e2,<-hv]
 simp only[Option.getD_some,List.all_cons,List.all_nil,hq]
 simp
theorem prv_not {s:List Attr} {l:List Cla} {f:ZI} {g:Nat} {name:BA} {words:ZB} {lo hi:Int} {a:Ex} {r:List Ex} {q:Pr} (hq:prvF s l f (g+1) a q=true):prvF s l f (g+1) (.mk 6 name words lo hi (a::r)) (.mk (valF s l f (g+1) (.mk 6 name words lo hi (a::r))) (-1) [q])=true:=by
 have hv:=prvF_sound s l f (g+1) _ q hq
 rw[prvF] at hq
 rw[valF] at hv
 rw[prvF,valF,prvE,valE,if_pos rfl,if_pos rfl,valHd,<-hv]
 simp only[prvAt,List.all_cons,List.all_nil,hq]
 simp
theorem chg_cell {N:ZN} {w W:World} (h:Chg N w W) {p:Addr} {v:Value} (hc:w.cell? p=some v) (hn:p.block∉N):W.cell? p=some v:=by
 have hb:=h.block p.block (block_lt hc) hn
 unfold World.cell? at hc ⊢
 rw[hb];exact hc
theorem find_def {s:List Attr} {l:List Cla} (hc:Chk s l) {x:BA} {d:Nat} (hd:defAt l x=some d):findAt l x=some d:=by
 obtain⟨h1,-,h3⟩:=defAt_atK hd
 have hle:=findAt_le h1 h3
 cases hf:findAt l x with
 | none =>
  unfold findAt at hf
  rw[List.findIdx?_eq_none_iff] at hf
  have:=hf _ (List.getElem_mem h1)
  rw[getD_clK h1] at h3
  simp[h3] at this
 | some k =>
  rw[hf] at hle
  simp only[Option.getD_some] at hle
  have hk:(l.getD k cla0).name=x:=by
   unfold findAt at hf
   rw[List.findIdx?_eq_some_iff_getElem] at hf
   obtain⟨hk,h2,_⟩:=hf
   rw[getD_clK hk];simpa using h2
  rcases Nat.lt_or_ge k d with h|h
  ·exact absurd (hk.trans h3.symm) (hc.uniq d k h1 h)
  congr 1;omega
def DIn (s:List Attr) (l:List Cla) (f:ZI) (bd:Nat) (sa:OA) (sn sc:Nat) (a:OA) (n c:Nat) (fa:OA) (fn:Nat) (W:World):Prop:=IsSchema (mask W [bd]) s (.agg #[.slice sa sn sc])/\IsClas (mask W [bd]) l a n c/\IsIntF (mask W [bd]) f fa fn
theorem DIn.chg {s:List Attr} {l:List Cla} {f:ZI} {bd:Nat} {sa:OA} {sn sc:Nat} {a:OA} {n c:Nat} {fa:OA} {fn:Nat} {W W':World} (h:DIn s l f bd sa sn sc a n c fa fn W) (hc:Chg [bd] W W'):DIn s l f bd sa sn sc a n c fa fn W':=⟨h.1.mono (mask_step hc (by simp)),h.2.1.mono (mask_step hc (by simp)),h.2.2.mono (mask_step hc (by simp))⟩
def GnLv (w0 wr:World) (bd q:Nat) (N:ZN) (L:ZN) (_:Nat->Value) (W:World):Prop:=GnL w0 wr bd q N L W
theorem gnlv_start {w0 wr:World} {bd q:Nat} {N:ZN} {vs:Nat->Value} (hd:DeckAt w0 wr bd):GnLv w0 wr bd q N [] vs wr.drew:=⟨hd.ext ((Ext.refl wr).drew),((Ext.refl wr).drew).chg _,fun _=>((Ext.refl wr).drew).chg _⟩
theorem gnlv_step {w0 wr W W':World} {bd q i:Nat} {N L:ZN} {vs vs':Nat->Value} (h:GnLv w0 wr bd q N L vs W) (hd:DeckAt w0 W' bd) (hc:Chg [bd] W W'):GnLv w0 wr bd q N (L++[i]) vs' W' :=
 ⟨hd,h.2.1.then (hc.weak (fun y hy=>by simp at hy;simp[hy])),fun hq=>(h.2.2 fun h'=>hq (List.mem_append_left _ h')).then hc⟩
theorem gnlv_brk {w0 wr W W':World} {bd q:Nat} {N L:ZN} {vs vs':Nat->Value} (h:GnLv w0 wr bd q N L vs W) (hd:DeckAt w0 W' bd) (hc:Chg (bd::N) W W'):GnLv w0 wr bd q N (L++[q]) vs' W' :=
 ⟨hd,h.2.1.then hc,fun hq=>absurd (by simp) hq⟩
structure DprIn (s:List Attr) (l:List Cla) (f:ZI) (g:Nat) (op:Int) (name:BA) (args:List Ex) (lo hi:Int) (V:Bool) (w0 w:World) (bd:Nat) (M:ZN) (a:OA) (n c:Nat) (fa:OA) (fn fc:Nat) (sa:OA) (sn sc:Nat) (aw:OA) (nw cw:Nat) (aa:OA) (na ca:Nat):Prop where
 tr:∀ W,Chg [bd] w W->Calls Tryz.prog 19 #[.agg #[.slice sa sn sc],.slice a n c,exV op name aw nw cw lo hi aa na ca,.slice fa fn fc] W (GivesE (.bool V) W)
 ta:∀ (j:Nat) (hj:j < args.length) (xv:Value) W,Chg [bd] w W->IsEx (mask W [bd]) args[j] xv->Calls Tryz.prog 19 #[.agg #[.slice sa sn sc],.slice a n c,xv,.slice fa fn fc] W (GivesE (.bool (valF s l f (g+1) args[j])) W)
 arg:∀ (j:Nat) (hj:j < args.length) (xv:Value) (N:ZN) (W:World),Chg [bd] w W->(∀ y∈N,y < W.heap.size)->DeckAt w0 W bd->IsEx (mask W [bd]) args[j] xv->Calls Tryz.prog 17 #[.pointer (some ⟨bd,0,none⟩),.agg #[.slice sa sn sc],.slice a n c,xv,.slice fa fn fc] W (DPrQ (fun p=>prvF s l f (g+1) args[j] p=true/\p.few 1000000) w0 bd N W)
 m:∀ y∈M,y < w.heap.size
 d:DeckAt w0 w bd
 x:ExsD (mask w [bd]) args aa
 na:na=args.length
 few:args.length<=1000000
theorem idx_snoc {α:Type} {P:Nat->α->Prop} {l:List α} {q:α} (h:∀ j (h:j < l.length),P j l[j]) (hq:P l.length q):∀ j (h:j < (l++[q]).length),P j (l++[q])[j]:=by
 intro j hj
 by_cases h1:j < l.length
 ·rw[List.getElem_append_left h1];exact h j h1
 have e:j=l.length:=by simp at hj;omega
 subst e
 simpa using hq
def DprL (P:Nat->Pr->Prop) (V:Bool) (na bd b6 b11:Nat) (M:ZN) (Z0 Z1:Obj) (w0 w:World) (i:Value) (wr:World):Prop:=∃ (k:Nat) (ps:List Pr) (pvs:List PrV) (u:Value),i=.int .i64 k/\k<=na/\ps.length=k/\(∀ j (h:j < ps.length),P j ps[j])/\wr.ownsRow (b11+1) 40 3 u k (pvs.flatMap PrV.cells) /\
 PrsR (mask wr (bd::rowOf u++(b6+1+1)::b11::M)) ps pvs/\wr.heap[b6]?=some Z0/\wr.heap[b6+1]?=some Z1/\wr.heap[b6+1+1]?=some prZero/\wr.heap[b11]?=some (.cells #[.bool V,.int .i64 (-1),u] 40 (0,0))/\DeckAt w0 wr bd/\Chg [bd] w wr
def DprK (na:Nat) (w4:World) (i:Value) (wr:World):Prop:=∃ k:Nat,i=.int .i64 k/\k < na/\Ext w4 wr
def GrGD (wr:World) (_:ZN) (_:Nat->Value) (W:World):Prop:=Ext wr W
theorem row_free {w:World} {base:Nat} {e:TypeId} {size:Nat} {v:Value} {n b:Nat} {xs:List Value} (h:w.ownsRow base e size v n xs) (hb:b < base):b∉rowOf v:=fun hm=>by have:=(h.lt b (mem_rowOf.1 hm)).1;omega
theorem row_keep {bd:Nat} {N M:ZN} {u:Value} {W w2:World} {g2 n cap:Nat} (hN:N=bd::rowOf u++M) (hc:Chg (rowOf u) W w2) (hg:u.ownBlock=some g2\/g2=W.heap.size):Sub (mask W N) (mask w2 (bd::rowOf (.slice (some ⟨g2,0,none⟩) n cap)++M)):=by
 rw[hN]
 refine mask_sub_mask fun k hk hn=>⟨fun hm=>?_,hc.block k hk fun hm=>hn (by simp[hm])⟩
 simp only[List.cons_append,List.mem_cons,List.mem_append] at hm hn
 rcases hm with h|h|h
 ·exact hn (Or.inl h)
 ·have h2:=mem_rowOf.1 h
  simp only[Value.ownBlock,Option.some.injEq] at h2
  rcases hg with e|e
  ·exact hn (Or.inr (Or.inl (mem_rowOf.2 (by rw[e,h2]))))
  omega
 exact hn (Or.inr (Or.inr h))
theorem dpr_fact {s:List Attr} {l:List Cla} {f:ZI} {g:Nat} {name:BA} {words:ZB} {lo hi:Int} {args:List Ex} {V:Bool} {w0 w:World} {bd:Nat} {M:ZN} {a:OA} {n c:Nat} {fa:OA} {fn fc:Nat} {sa:OA} {sn sc:Nat} {aw:OA} {nw cw:Nat} {aa:OA} {na ca:Nat} {op:Int} (hv:valF s l f (g+1) (.mk op name words lo hi args)=V) (h6:op≠6/\op≠7/\op≠8) (hdn:op=3->defAt l name=none) (hat:op=3->∃ i,attrAt s name=some i)
  (hix:∀ W,Chg [bd] w W->Calls Tryz.prog 36 #[.agg #[.slice sa sn sc],.string name] W (GivesE (optV (attrAt s name)) W)) (h:DprIn s l f g op name args lo hi V w0 w bd M a n c fa fn fc sa sn sc aw nw cw aa na ca) :
  Calls Tryz.prog 17 #[.pointer (some ⟨bd,0,none⟩),.agg #[.slice sa sn sc],.slice a n c,exV op name aw nw cw lo hi aa na ca,.slice fa fn fc] w (DPrQ (fun p=>prvF s l f (g+1) (.mk op name words lo hi args) p=true/\p.few 1000000) w0 bd M w):=by
 have HQ:=hI (show prvF s l f (g+1) (.mk op name words lo hi args) (.mk V (-1) [])=true by rw[<-hv];exact prv_fact h6 hdn)
 have HIX:=hI hix
 have HAT:=hI hat
 have H6:=hI h6
 clear hv hdn hat hix h6
 have HTR:=hI h.tr
 have HTA:=hI h.ta
 have HARG:=hI h.arg
 have HM:=hI h.m
 have HD:=hI h.d
 have HX:=hI h.x
 have HNA:=hI h.na
 have HFE:=hI h.few
 have hbw:=h.d.lt
 have HW0:=hI (show w0.heap.size<=w.heap.size by obtain⟨_,_,_,_,_,_,_,_,hxw,_⟩:=h.d;exact hxw.size)
 clear h
 unfold exV at *
 obtain⟨wa,hwa⟩:∃ wa,wa=((w.alloc (.cells #[.slice sa sn sc] 31)).alloc (.cells #[.int .i64 op,.string name,.slice aw nw cw,.int .i64 lo,.int .i64 hi,.slice aa na ca] 26)).alloc (.cells #[.bool false,.int .i64 0,.slice none 0 0] 40):=⟨_,rfl⟩
 have hxa:Ext w wa:=by rw[hwa];exact(((Ext.refl _).alloc _).alloc _).alloc _
 obtain⟨b6,hb6⟩:∃ b6:Nat,b6=w.heap.size:=⟨_,rfl⟩
 have hb0:wa.heap[b6]?=some (.cells #[.slice sa sn sc] 31 (0,0)):=by rw[hwa,hb6];exact blk_alloc (blk_alloc (alloc_new w _))
 have hb1:wa.heap[b6+1]?=some (.cells #[.int .i64 op,.string name,.slice aw nw cw,.int .i64 lo,.int .i64 hi,.slice aa na ca] 26 (0,0)):=by rw[hwa,hb6];exact blk_alloc (alloc_atR (by simp))
 have hb2:wa.heap[b6+1+1]?=some prZero:=by rw[hwa,hb6];exact alloc_atR (by simp)
 have HXA:=hI hxa
 have HB0:=hI hb0
 have HB1:=hI hb1
 have HB2:=hI hb2
 have HB6:=hI (show bd < b6/\b6=w.heap.size from⟨by omega,hb6⟩)
 go_enter Tryz.func17,Tryz.ntmps17
 go_upto_region 1 with fail
 rw[<-hwa,<-hb6]
 clear hwa hb6 hbw
 obtain⟨f0,f1,f2,f3,f4,f5,ff⟩:=blk6 hb1
 obtain⟨e0,ef⟩:=blk1 hb0
 clear hxa hb0 hb1 hb2
 go_wp2_with fail
 refine(HTR.out wa (HXA.out.chg _)).mono ?_
 rintro r w1 ⟨rfl,hx1⟩
 go_upto_region 2 with fail
 obtain⟨b11,hb11⟩:∃ b11:Nat,b11=w1.heap.size:=⟨_,rfl⟩
 obtain⟨w2,hw2⟩:∃ w2,w2=w1.alloc (.cells #[.bool V,.int .i64 (-1),.slice none 0 0] 40):=⟨_,rfl⟩
 have hx2:Ext wa w2:=by rw[hw2];exact hx1.alloc _
 have HP2:=hI (show w2.heap[b11]?=some (.cells #[.bool V,.int .i64 (-1),.slice none 0 0] 40 (0,0)) by rw[hw2,hb11];exact alloc_new w1 _)
 have hlt11:b6+1+1 < b11:=by have:=blk_lt (hx1.blk HB2.out);omega
 rw[<-hw2,<-hb11]
 clear hw2 hb11 hx1 f0 f1 f2 f3 f4 f5 ff e0 ef
 have HLT:=hI hlt11
 have HX2:=hI (HXA.out.trans hx2)
 have HS2:=hI (hx2.blk HB0.out)
 have HE2:=hI (hx2.blk HB1.out)
 have HZ2:=hI (hx2.blk HB2.out)
 have HD2:=hI (HD.out.ext (HXA.out.trans hx2))
 have HC2:=hI ((HXA.out.trans hx2).chg [bd])
 clear hx2 hlt11 HB0 HB1 HB2 HXA HTR
 obtain⟨f0,f1,f2,f3,f4,f5,ff⟩:=blk6 HE2.out
 obtain⟨e0,ef⟩:=blk1 HS2.out
 clear HTA HARG HX HNA HFE
 have t6:(op==6)=false:=by have:=H6.out;simp[this]
 have t7:(op==7)=false:=by have:=H6.out;simp[this]
 have t8:(op==8)=false:=by have:=H6.out;simp[this]
 by_cases h3:op=3
 case' pos =>
  subst h3
  obtain⟨i,hi'⟩:=HAT.out rfl
  have HI2:=hI (HIX.out w2 HC2.out)
  rw[hi',optV_some] at HI2
  clear hi' HIX t6 t7 t8
  go_wp2_with fail
  refine HI2.out.mono ?_
  rintro r w2 ⟨rfl,hx3⟩
  have HP2:=hI (hx3.blk HP2.out)
  have HZ2:=hI (hx3.blk HZ2.out)
  have HD2:=hI (HD2.out.ext hx3)
  have HC2:=hI (HC2.out.then (hx3.chg [bd]))
  clear hx3 f0 f1 f2 f3 f4 f5 ff e0 ef HI2
  go_upto_region 22 with fail
 case' neg =>
  have t3:(op==3)=false:=by simp[h3]
  clear h3 HIX
  go_upto_region 22 with fail
 all_goals
  obtain⟨p0,p1,p2,pf'⟩:=blk3 HP2.out
  have hz:w2.heap[b6+1+1]?=some (.cells #[.bool false,.int .i64 0,.slice none 0 0] 40 (0,0)):=HZ2.out
  obtain⟨r0,r1,r2,rf⟩:=blk3 hz
  have hltr:=blk_lt hz
  have HZ:=hI (dprove_fin (w:=w) (M:=M) (pv:=⟨V,-1,none,0,0⟩) HZ2.out (by have:=HB6.out;omega) HW0.out (by have:=HB6.out;omega) HD2.out HC2.out (isPr_none _ V (-1)))
  simp only at HZ
  go_wp2_with fail
  obtain⟨wz,hwz⟩:∃ wz,wz=put3 w2 (b6+1+1) (.bool V) (.int .i64 (-1)) (.slice none 0 0):=⟨_,rfl⟩
  rw[<-hwz] at HZ
  unfold put3 at hwz
  rw[<-hwz]
  clear hwz
  obtain⟨z0,z1,z2,zf⟩:=blk3 HZ.out.1
  refine bodyPost_ret (v:=PrV.val ⟨V,-1,none,0,0⟩) (by simp[results,Tryz.results17,go_sem,PrV.val,z0,z1,z2]) rfl ?_
  exact⟨_,_,rfl,⟨HQ.out,.mk (by simp) (by simp)⟩,HZ.out.2⟩
def dpr9R (d coff cb:Nat) (v:ClV) (bd _b6 b11:Nat) (sa:OA) (sn sc:Nat) (n c:Nat) (fa:OA) (fn fc:Nat) (N:ZN) (Q:Pr->Prop)  : Nat->Value->World->Prop
 | 0,u,_=>u=.pointer (some ⟨bd,0,none⟩)
 | 1,u,_=>u=.agg #[.slice sa sn sc]
 | 2,u,_=>u=.slice (some ⟨cb,coff,none⟩) n c
 | 3,u,_=>u=.slice (some ⟨cb,coff,none⟩) n c
 | 4,u,_=>u=.int .i64 ((d:Nat):Int)
 | 5,u,_=>u=.pointer (some ⟨cb,coff+d * 10,none⟩)
 | 6,u,_=>u=.pointer (some ⟨cb,coff+d * 10+2,none⟩)
 | 7,u,_=>u=.agg #[.int .i64 v.x.op,.string v.x.name,.slice v.x.aw v.x.nw v.x.cw,.int .i64 v.x.lo,.int .i64 v.x.hi,.slice v.x.aa v.x.na v.x.ca]
 | 8,u,_=>u=.slice fa fn fc
 | 9,u,W=>∃ (q:Pr) (qv:PrV),u=.agg #[.bool qv.value,.int .i64 qv.pick,.slice qv.a qv.n qv.c]/\(IsPr (mask W N) q qv/\Q q)
 | 10,u,W=>∃ (q:Pr) (qv:PrV) (y:Nat),u=.slice (some ⟨y,0,none⟩) 1 1/\(W.heap[y]?=some (.cells #[.bool qv.value,.int .i64 qv.pick,.slice qv.a qv.n qv.c] 40 (0,0))/\b11 < y/\IsPr (mask W N) q qv/\Q q)
 | _,u,_=>u=.pointer (some ⟨b11,2,none⟩)
theorem dpr_def {s:List Attr} {l:List Cla} {f:ZI} {g:Nat} {name:BA} {words:ZB} {lo hi:Int} {args:List Ex} {V:Bool} {w0 w:World} {bd:Nat} {M:ZN} {a:OA} {n c:Nat} {fa:OA} {fn fc:Nat} {sa:OA} {sn sc:Nat} {aw:OA} {nw cw:Nat} {aa:OA} {na ca:Nat} {d:Nat} (hv:valF s l f (g+1) (.mk 3 name words lo hi args)=V) (hdf:defAt l name=some d) (hfi:findAt l name=some d) (hat:attrAt s name=none) (hn100:n<=100)
  (hix:∀ W,Chg [bd] w W->Calls Tryz.prog 36 #[.agg #[.slice sa sn sc],.string name] W (GivesE (optV (attrAt s name)) W)) (hcl:IsClas (mask w [bd]) l a n c)
  (hdef:∀ (xv:Value) (N:ZN) (W:World),Chg [bd] w W->(∀ y∈N,y < W.heap.size)->DeckAt w0 W bd->IsEx (mask W [bd]) (l.getD d cla0).cond xv->Calls Tryz.prog 17 #[.pointer (some ⟨bd,0,none⟩),.agg #[.slice sa sn sc],.slice a n c,xv,.slice fa fn fc] W (DPrQ (fun p=>prvF s l f g (l.getD d cla0).cond p=true/\p.few 1000000) w0 bd N W))
  (h:DprIn s l f g 3 name args lo hi V w0 w bd M a n c fa fn fc sa sn sc aw nw cw aa na ca) :
  Calls Tryz.prog 17 #[.pointer (some ⟨bd,0,none⟩),.agg #[.slice sa sn sc],.slice a n c,exV 3 name aw nw cw lo hi aa na ca,.slice fa fn fc] w (DPrQ (fun p=>prvF s l f (g+1) (.mk 3 name words lo hi args) p=true/\p.few 1000000) w0 bd M w):=by
 have HQ:=hI (show ∀ q,prvF s l f g (l.getD d cla0).cond q=true->prvF s l f (g+1) (.mk 3 name words lo hi args) (.mk V (-1) [q])=true from fun q hq=>by rw[<-hv];exact prv_def hdf hq)
 have hdl:=(defAt_atK hdf).1
 have HFI:=hI hfi
 have HAT:=hI hat
 have HIX:=hI hix
 have HCL:=hI hcl
 have HDE:=hI hdef
 have hdn:d < n:=by have:=hcl.len;omega
 have HDL:=hI hdl
 clear hv hdf hfi hat hix hcl hdef hdl
 have HTR:=hI h.tr
 have HTA:=hI h.ta
 have HARG:=hI h.arg
 have HM:=hI h.m
 have HD:=hI h.d
 have HX:=hI h.x
 have HNA:=hI h.na
 have HFE:=hI h.few
 have hbw:=h.d.lt
 have HW0:=hI (show w0.heap.size<=w.heap.size by obtain⟨_,_,_,_,_,_,_,_,hxw,_⟩:=h.d;exact hxw.size)
 clear h
 unfold exV at *
 obtain⟨wa,hwa⟩:∃ wa,wa=((w.alloc (.cells #[.slice sa sn sc] 31)).alloc (.cells #[.int .i64 3,.string name,.slice aw nw cw,.int .i64 lo,.int .i64 hi,.slice aa na ca] 26)).alloc (.cells #[.bool false,.int .i64 0,.slice none 0 0] 40):=⟨_,rfl⟩
 have hxa:Ext w wa:=by rw[hwa];exact(((Ext.refl _).alloc _).alloc _).alloc _
 obtain⟨b6,hb6⟩:∃ b6:Nat,b6=w.heap.size:=⟨_,rfl⟩
 have hb0:wa.heap[b6]?=some (.cells #[.slice sa sn sc] 31 (0,0)):=by rw[hwa,hb6];exact blk_alloc (blk_alloc (alloc_new w _))
 have hb1:wa.heap[b6+1]?=some (.cells #[.int .i64 3,.string name,.slice aw nw cw,.int .i64 lo,.int .i64 hi,.slice aa na ca] 26 (0,0)):=by rw[hwa,hb6];exact blk_alloc (alloc_atR (by simp))
 have hb2:wa.heap[b6+1+1]?=some prZero:=by rw[hwa,hb6];exact alloc_atR (by simp)
 have HXA:=hI hxa
 have HB0:=hI hb0
 have HB1:=hI hb1
 have HB2:=hI hb2
 have HB6:=hI (show bd < b6/\b6=w.heap.size from⟨by omega,hb6⟩)
 go_enter Tryz.func17,Tryz.ntmps17
 go_upto_region 1 with fail
 rw[<-hwa,<-hb6]
 clear hwa hb6 hbw
 obtain⟨f0,f1,f2,f3,f4,f5,ff⟩:=blk6 hb1
 obtain⟨e0,ef⟩:=blk1 hb0
 clear hxa hb0 hb1 hb2
 go_wp2_with fail
 refine(HTR.out wa (HXA.out.chg _)).mono ?_
 rintro r w1 ⟨rfl,hx1⟩
 go_upto_region 2 with fail
 obtain⟨b11,hb11⟩:∃ b11:Nat,b11=w1.heap.size:=⟨_,rfl⟩
 obtain⟨w2,hw2⟩:∃ w2,w2=w1.alloc (.cells #[.bool V,.int .i64 (-1),.slice none 0 0] 40):=⟨_,rfl⟩
 have hx2:Ext wa w2:=by rw[hw2];exact hx1.alloc _
 have HP2:=hI (show w2.heap[b11]?=some (.cells #[.bool V,.int .i64 (-1),.slice none 0 0] 40 (0,0)) by rw[hw2,hb11];exact alloc_new w1 _)
 have hlt11:b6+1+1 < b11:=by have:=blk_lt (hx1.blk HB2.out);omega
 rw[<-hw2,<-hb11]
 clear hw2 hb11 hx1 f0 f1 f2 f3 f4 f5 ff e0 ef
 have HLT:=hI hlt11
 have HX2:=hI (HXA.out.trans hx2)
 have HS2:=hI (hx2.blk HB0.out)
 have HE2:=hI (hx2.blk HB1.out)
 have HZ2:=hI (hx2.blk HB2.out)
 have HD2:=hI (HD.out.ext (HXA.out.trans hx2))
 have HC2:=hI ((HXA.out.trans hx2).chg [bd])
 clear hx2 hlt11 HB0 HB1 HB2 HXA HTR
 obtain⟨f0,f1,f2,f3,f4,f5,ff⟩:=blk6 HE2.out
 obtain⟨e0,ef⟩:=blk1 HS2.out
 have HI2:=hI (HIX.out w2 HC2.out)
 rw[HAT.out,optV_none] at HI2
 clear HTA HARG HX HNA HFE
 go_wp2_with fail
 refine HI2.out.mono ?_
 rintro r w3 ⟨rfl,hx3⟩
 have HS3:=hI (hx3.blk HS2.out)
 have HE3:=hI (hx3.blk HE2.out)
 have HP3:=hI (hx3.blk HP2.out)
 have HZ3:=hI (hx3.blk HZ2.out)
 have HDK:=hI (HD2.out.ext hx3)
 have HC3:=hI (HC2.out.then (hx3.chg [bd]))
 clear hx3 f0 f1 f2 f3 f4 f5 ff e0 ef HI2 HS2 HE2 HP2 HZ2 HD2 HC2
 have HFC:=hI (rFind_calls l a n c name w3 ((HCL.out.mono (mask_step HC3.out (by simp))).mono (mask_sub _ _)) (by omega))
 rw[HFI.out] at HFC
 obtain⟨f0,f1,f2,f3,f4,f5,ff⟩:=blk6 HE3.out
 obtain⟨e0,ef⟩:=blk1 HS3.out
 obtain⟨cb,coff,v,rfl,hcv,hrow⟩:=HCL.out.at HDL.out
 have hncb:cb∉[bd]:=fun hm=>by have:=hrow.ten.1;rw[mask_cell,if_pos hm] at this;cases this
 obtain⟨-,-,m2,m3,m4,m5,m6,m7,-,-⟩:=hrow.ten
 have c2:=chg_cell HC3.out (mask_sub _ _ _ _ m2) hncb
 have c3:=chg_cell HC3.out (mask_sub _ _ _ _ m3) hncb
 have c4:=chg_cell HC3.out (mask_sub _ _ _ _ m4) hncb
 have c5:=chg_cell HC3.out (mask_sub _ _ _ _ m5) hncb
 have c6:=chg_cell HC3.out (mask_sub _ _ _ _ m6) hncb
 have c7:=chg_cell HC3.out (mask_sub _ _ _ _ m7) hncb
 have HNX:=hI hncb
 have M6:=hI (show IsEx (mask w [bd]) (l.getD d cla0).cond v.x.val by rw[getD_clK HDL.out];exact hcv.2.2.1)
 have HN6:=hI (show b6∉[bd] by have:=HB6.out;simp;omega)
 have HN7:=hI (show b6+1∉[bd] by have:=HB6.out;simp;omega)
 obtain⟨Q,hQ⟩:∃ Q:Pr->Prop,Q=fun q=>prvF s l f g (l.getD d cla0).cond q=true/\q.few 1000000:=⟨_,rfl⟩
 have HQD:=hI hQ
 obtain⟨N,hN⟩:∃ N:ZN,N=bd::(b6+1+1)::b11::M:=⟨_,rfl⟩
 have HNE:=hI hN
 have HNB:=hI (show bd∈N by rw[hN];simp)
 have hHPA:=fun W (hW:Chg [bd] w3 W) (hd:DeckAt w0 W bd)=>HDE.out _ N W (HC3.out.then hW) (fun z hz=>by
  have h1:=HLT.out;have h2:=HB6.out;have h3:=hW.size;have h4:=blk_lt HP3.out;have h5:=HM.out
  rw[hN] at hz
  simp only[List.mem_cons] at hz
  rcases hz with rfl|rfl|rfl|hz
  ·omega
  ·omega
  ·omega
  have:=h5 z hz;have:=HC3.out.size;omega) hd (M6.out.mono (mask_step (HC3.out.then hW) (by simp)))
 rw[<-hQ] at hHPA
 unfold ExV.val exV at hHPA
 have HPA:=hI hHPA
 have HLW:=hI (blk_lt HP3.out)
 clear hQ hN m2 m3 m4 m5 m6 m7 hcv hrow hHPA hncb HCL
 go_wp2_with fail
 refine HFC.out.mono ?_
 rintro r w4 ⟨rfl,rfl⟩
 rw[optV_some]
 go_upto_region 9 with fail
 refine wp_region_grow (m:=12) [10,11] (GnG w0 w3 bd) (GnE bd) (GrP (dpr9R d coff cb v bd b6 b11 sa sn sc n c fa fn fc N Q )) (by kernel_rfl) (by kernel_rfl) ⟨HDK.out.ext ((Ext.refl w3).drew),((Ext.refl w3).drew).chg _⟩ ?_ ?_ ?_
 ·intro i k v W W' hi hk hne hout h hE
  have hE:Chg [bd] W W':=hE
  have hi':=ltc12 hi
  clear hi hk hne hout
  rcases hi' with rfl|rfl|rfl|rfl|rfl|rfl|rfl|rfl|rfl|rfl|rfl|rfl
  ·exact h
  ·exact h
  ·exact h
  ·exact h
  ·exact h
  ·exact h
  ·exact h
  ·exact h
  ·exact h
  ·obtain⟨q,qv,e0,h⟩:=h
   exact⟨q,qv,e0,⟨h.1.mono (mask_step hE HNB.out),h.2⟩⟩
  ·obtain⟨q,qv,y,e0,h⟩:=h
   exact⟨q,qv,y,e0,⟨hE.blk h.1 (by have:=h.2.1;have:=HLT.out;have:=HB6.out;simp;omega),h.2.1,h.2.2.1.mono (mask_step hE HNB.out),h.2.2.2⟩⟩
  exact h
 ·intro q op hq ho vs W hW hd ρ hρ
  have hq':=ltc12 hq
  clear hq
  have o0:ρ (.tmp 0)=.pointer (some ⟨bd,0,none⟩):=hρ.out 0 rfl
  have o6:ρ (.tmp 6)=.pointer (some ⟨b6,0,none⟩):=hρ.out 6 rfl
  have o2:ρ (.tmp 2)=.slice (some ⟨cb,coff,none⟩) n c:=hρ.out 2 rfl
  have o14:ρ (.tmp 14)=.int .i64 ((d:Nat):Int):=hρ.out 14 rfl
  have i3:=hρ.i 3 60
  have i4:=hρ.i 4 61
  have i5:=hρ.i 5 62
  have i6:=hρ.i 6 63
  have o4:ρ (.tmp 4)=.slice fa fn fc:=hρ.out 4 rfl
  have i0:=hρ.i 0 57
  have i1:=hρ.i 1 58
  have i2:=hρ.i 2 59
  have i7:=hρ.i 7 64
  have i8:=hρ.i 8 65
  have i9:=hρ.i 9 66
  have o11:ρ (.tmp 11)=.pointer (some ⟨b11,0,none⟩):=hρ.out 11 rfl
  have hc:=hρ.const
  have hfn:=hρ.func
  clear hρ
  have HW:=hI (show DeckAt w0 W bd/\Chg [bd] w3 W from hW)
  rcases hq' with rfl|rfl|rfl|rfl|rfl|rfl|rfl|rfl|rfl|rfl|rfl|rfl
  ·cases ho
   clear hd
   unfold GivesOp
   go_simp
   exact⟨Chg.refl _ _,rfl⟩
  ·cases ho
   clear hd
   have g0:=chg_cell HW.out.2 e0 HN6.out
   unfold GivesOp
   go_simp
   exact⟨Chg.refl _ _,rfl⟩
  ·cases ho
   clear hd
   unfold GivesOp
   go_simp
   exact⟨Chg.refl _ _,rfl⟩
  ·cases ho
   clear hd
   unfold GivesOp
   go_simp
   exact⟨Chg.refl _ _,rfl⟩
  ·cases ho
   clear hd
   unfold GivesOp
   go_simp
   exact⟨Chg.refl _ _,rfl⟩
  ·cases ho
   have h3:vs 3=_:=hd ⟨3,.data⟩ (by simp) rfl
   rw[h3] at i3
   have h4:vs 4=_:=hd ⟨4,.data⟩ (by simp) rfl
   rw[h4] at i4
   clear hd
   unfold GivesOp
   go_simp
   exact⟨Chg.refl _ _,rfl⟩
  ·cases ho
   have h5:vs 5=_:=hd ⟨5,.data⟩ (by simp) rfl
   rw[h5] at i5
   clear hd
   unfold GivesOp
   go_simp
   exact⟨Chg.refl _ _,rfl⟩
  ·cases ho
   have h6:vs 6=_:=hd ⟨6,.data⟩ (by simp) rfl
   rw[h6] at i6
   clear hd
   have g0:=chg_cell HW.out.2 c2 HNX.out
   have g1:=chg_cell HW.out.2 c3 HNX.out
   have g2:=chg_cell HW.out.2 c4 HNX.out
   have g3:=chg_cell HW.out.2 c5 HNX.out
   have g4:=chg_cell HW.out.2 c6 HNX.out
   have g5:=chg_cell HW.out.2 c7 HNX.out
   unfold GivesOp
   go_simp
   exact⟨Chg.refl _ _,rfl⟩
  ·cases ho
   clear hd
   unfold GivesOp
   go_simp
   exact⟨Chg.refl _ _,rfl⟩
  ·cases ho
   have h0:vs 0=_:=hd ⟨0,.data⟩ (by simp) rfl
   rw[h0] at i0
   have h1:vs 1=_:=hd ⟨1,.data⟩ (by simp) rfl
   rw[h1] at i1
   have h2:vs 2=_:=hd ⟨2,.data⟩ (by simp) rfl
   rw[h2] at i2
   have h7:vs 7=_:=hd ⟨7,.data⟩ (by simp) rfl
   rw[h7] at i7
   have h8:vs 8=_:=hd ⟨8,.data⟩ (by simp) rfl
   rw[h8] at i8
   clear hd
   unfold GivesOp
   go_simp
   refine(HPA.out W HW.out.2 HW.out.1).mono ?_
   rintro e5 w5 ⟨q,qv,rfl,hq1,hq2,hd5,hc5⟩
   exact⟨_,rfl,hc5,⟨hd5,HW.out.2.then hc5⟩,q,qv,rfl,hq2,hq1⟩
  ·cases ho
   obtain⟨q,qv,h9,hs9⟩:∃ (q:Pr) (qv:PrV),vs 9=.agg #[.bool qv.value,.int .i64 qv.pick,.slice qv.a qv.n qv.c]/\(IsPr (mask W N) q qv/\Q q):=hd ⟨9,.data⟩ (by simp) rfl
   have HS9:=hI hs9
   clear hs9
   rw[h9] at i9
   clear hd
   unfold GivesOp
   go_simp
   exact⟨((Ext.refl W).alloc _).chg _,⟨HW.out.1.ext ((Ext.refl W).alloc _),HW.out.2.then (((Ext.refl W).alloc _).chg _)⟩,q,qv,W.heap.size,rfl,alloc_new W _,by have:=HLW.out;have:=HW.out.2.size;omega,HS9.out.1.mono (mask_ext _ ((Ext.refl W).alloc _)),HS9.out.2⟩
  cases ho
  clear hd
  unfold GivesOp
  go_simp
  exact⟨Chg.refl _ _,rfl⟩
 intro vs W hW hR
 rw[if_neg (by decide +kernel)]
 obtain⟨q,qv,y,h10,hs10⟩:∃ (q:Pr) (qv:PrV) (y:Nat),vs 10=.slice (some ⟨y,0,none⟩) 1 1/\(W.heap[y]?=some (.cells #[.bool qv.value,.int .i64 qv.pick,.slice qv.a qv.n qv.c] 40 (0,0))/\b11 < y/\IsPr (mask W N) q qv/\Q q):=hR 10 (by simp) (by omega)
 have HS10:=hI hs10
 clear hs10
 have h11:vs 11=.pointer (some ⟨b11,2,none⟩):=hR 11 (by simp) (by omega)
 refine wpOp_lastG rfl ?_
 change wpList _ _ _ [⟨none,.store _ (.tmp 68) (.tmp 67),_,_,_,none⟩] _ _
 simp only[acts,dstAt,List.range,List.range.loop,List.foldl_cons,List.foldl_nil,h10,h11]
 go_simp
 have hW2:DeckAt w0 W bd/\Chg [bd] w3 W:=hW
 clear hR hW h10 h11
 have HSX:=hI HS10.out
 clear HS10 f0 f1 f2 f3 f4 f5 ff e0 ef c2 c3 c4 c5 c6 c7
 have HS9:=hI HSX.out
 have HXW:=hI hW2
 obtain⟨W3,hW3⟩:∃ W3,W3=W.setCell ⟨b11,2,none⟩ (.slice (some ⟨y,0,none⟩) 1 1):=⟨_,rfl⟩
 have hpw:W.heap[b11]?=some (.cells #[.bool V,.int .i64 (-1),.slice none 0 0] 40 (0,0)):=HXW.out.2.blk HP3.out (by have:=HLT.out;have:=HB6.out;simp;omega)
 have hc3:Chg [b11] W W3:=by rw[hW3];exact put_chg _ _ _ _
 have HP4:=hI (show W3.heap[b11]?=some (.cells #[.bool V,.int .i64 (-1),.slice (some ⟨y,0,none⟩) 1 1] 40 (0,0)) by rw[hW3];have:=put_blk (i:=2) hpw (.slice (some ⟨y,0,none⟩) 1 1);simpa using this)
 obtain⟨p0,p1,p2,pf'⟩:=blk3 hpw
 go_upto_region 22 with fail
 rw[<-hW3]
 clear hW3 p0 p1 p2 pf' hW2 hpw
 have HZ4:=hI (hc3.blk (HXW.out.2.blk HZ3.out (by have:=HB6.out;simp;omega)) (by have:=HLT.out;simp;omega))
 have HD3:=hI (HXW.out.1.chg hc3 (by have:=HLT.out;have:=HB6.out;simp;omega) (fun z hz=>by simp only[List.mem_singleton] at hz;have:=HLT.out;have:=HB6.out;have:=HW0.out;omega))
 have HC4:=hI ((HC3.out.then HXW.out.2).trans hc3 (fun z hz=>by simp only[List.mem_singleton] at hz;have:=HLT.out;have:=HB6.out;exact Or.inr (by omega)))
 have HY3:=hI (hc3.blk HS9.out.1 (by have:=HS9.out.2.1;simp;omega))
 have HQ3:=hI (show IsPr (mask W3 ((b6+1+1)::M)) q qv from(HS9.out.2.2.1.mono (mask_chg hc3 (fun z hz=>by simp only[List.mem_singleton] at hz;rw[hz,HNE.out];simp))).mono (mask_less _ (fun z hz=>by rw[HNE.out];simp only[List.mem_cons] at hz ⊢;rcases hz with h|h<;>simp[h])))
 have HQQ:=hI HS9.out.2.2.2
 have hys:=HS9.out.2.1
 clear hc3
 obtain⟨p0,p1,p2,pf'⟩:=blk3 HP4.out
 have hz:W3.heap[b6+1+1]?=some (.cells #[.bool false,.int .i64 0,.slice none 0 0] 40 (0,0)):=HZ4.out
 obtain⟨r0,r1,r2,rf⟩:=blk3 hz
 have hltr:=blk_lt hz
 have HZ:=hI (dprove_fin (w:=w) (M:=M) (pv:=⟨V,-1,some ⟨y,0,none⟩,1,1⟩) HZ4.out (by have:=HB6.out;omega) HW0.out (by have:=HB6.out;omega) HD3.out HC4.out
  (isPr_one (v:=qv) (t:=40) HY3.out (fun hm=>by
   have h1:=HLT.out;have h2:=HB6.out
   simp only[List.mem_cons] at hm
   rcases hm with hm|hm
   ·omega
   have:=HM.out _ hm;omega) HQ3.out V (-1)))
 simp only at HZ
 go_wp2_with fail
 obtain⟨wz,hwz⟩:∃ wz,wz=put3 W3 (b6+1+1) (.bool V) (.int .i64 (-1)) (.slice (some ⟨y,0,none⟩) 1 1):=⟨_,rfl⟩
 rw[<-hwz] at HZ
 unfold put3 at hwz
 rw[<-hwz]
 clear hwz
 obtain⟨z0,z1,z2,zf⟩:=blk3 HZ.out.1
 refine bodyPost_ret (v:=PrV.val ⟨V,-1,some ⟨y,0,none⟩,1,1⟩) (by simp[results,Tryz.results17,go_sem,PrV.val,z0,z1,z2]) rfl ?_
 rw[HQD.out] at HQQ
 exact⟨_,_,rfl,⟨HQ.out q HQQ.out.1,.mk (by simp) (fun x hx=>by simp only[List.mem_singleton] at hx;rw[hx];exact HQQ.out.2)⟩,HZ.out.2⟩
def dpr4R (bd b6 b11:Nat) (sa:OA) (sn sc:Nat) (a:OA) (n c:Nat) (fa:OA) (fn fc:Nat) (N:ZN) (Q:Pr->Prop) (xb xo na ca:Nat) (x0:Int) (x1:BA) (aw1:OA) (nw1 cw1:Nat) (x5 x6:Int) (aa1:OA) (na1 ca1:Nat)  : Nat->Value->World->Prop
 | 0,u,_=>u=.pointer (some ⟨bd,0,none⟩)
 | 1,u,_=>u=.agg #[.slice sa sn sc]
 | 2,u,_=>u=.slice a n c
 | 3,u,_=>u=.pointer (some ⟨b6+1,5,none⟩)
 | 4,u,_=>u=.slice (some ⟨xb,xo,none⟩) na ca
 | 5,u,_=>u=.pointer (some ⟨xb,xo,none⟩)
 | 6,u,_=>u=.agg #[.int .i64 x0,.string x1,.slice aw1 nw1 cw1,.int .i64 x5,.int .i64 x6,.slice aa1 na1 ca1]
 | 7,u,_=>u=.slice fa fn fc
 | 8,u,W=>∃ (q:Pr) (qv:PrV),u=.agg #[.bool qv.value,.int .i64 qv.pick,.slice qv.a qv.n qv.c]/\(IsPr (mask W N) q qv/\Q q)
 | 9,u,W=>∃ (q:Pr) (qv:PrV) (y:Nat),u=.slice (some ⟨y,0,none⟩) 1 1/\(W.heap[y]?=some (.cells #[.bool qv.value,.int .i64 qv.pick,.slice qv.a qv.n qv.c] 40 (0,0))/\b11 < y/\IsPr (mask W N) q qv/\Q q)
 | _,u,_=>u=.pointer (some ⟨b11,2,none⟩)
theorem dpr_not {s:List Attr} {l:List Cla} {f:ZI} {g:Nat} {name:BA} {words:ZB} {lo hi:Int} {args:List Ex} {V:Bool} {w0 w:World} {bd:Nat} {M:ZN} {a:OA} {n c:Nat} {fa:OA} {fn fc:Nat} {sa:OA} {sn sc:Nat} {aw:OA} {nw cw:Nat} {aa:OA} {na ca:Nat} (hv:valF s l f (g+1) (.mk 6 name words lo hi args)=V) (hl1:args.length=1) (h:DprIn s l f g 6 name args lo hi V w0 w bd M a n c fa fn fc sa sn sc aw nw cw aa na ca) :
  Calls Tryz.prog 17 #[.pointer (some ⟨bd,0,none⟩),.agg #[.slice sa sn sc],.slice a n c,exV 6 name aw nw cw lo hi aa na ca,.slice fa fn fc] w (DPrQ (fun p=>prvF s l f (g+1) (.mk 6 name words lo hi args) p=true/\p.few 1000000) w0 bd M w):=by
 obtain⟨a0,rfl⟩:=len_one hl1
 have HQ:=hI (show ∀ q,prvF s l f (g+1) a0 q=true->prvF s l f (g+1) (.mk 6 name words lo hi [a0]) (.mk V (-1) [q])=true from fun q hq=>by rw[<-hv];exact prv_not hq)
 clear hv hl1
 have HTR:=hI h.tr
 have HTA:=hI h.ta
 have HARG:=hI h.arg
 have HM:=hI h.m
 have HD:=hI h.d
 have HX:=hI h.x
 have HNA:=hI h.na
 have HFE:=hI h.few
 have hbw:=h.d.lt
 have HW0:=hI (show w0.heap.size<=w.heap.size by obtain⟨_,_,_,_,_,_,_,_,hxw,_⟩:=h.d;exact hxw.size)
 clear h
 unfold exV at *
 obtain⟨wa,hwa⟩:∃ wa,wa=((w.alloc (.cells #[.slice sa sn sc] 31)).alloc (.cells #[.int .i64 6,.string name,.slice aw nw cw,.int .i64 lo,.int .i64 hi,.slice aa na ca] 26)).alloc (.cells #[.bool false,.int .i64 0,.slice none 0 0] 40):=⟨_,rfl⟩
 have hxa:Ext w wa:=by rw[hwa];exact(((Ext.refl _).alloc _).alloc _).alloc _
 obtain⟨b6,hb6⟩:∃ b6:Nat,b6=w.heap.size:=⟨_,rfl⟩
 have hb0:wa.heap[b6]?=some (.cells #[.slice sa sn sc] 31 (0,0)):=by rw[hwa,hb6];exact blk_alloc (blk_alloc (alloc_new w _))
 have hb1:wa.heap[b6+1]?=some (.cells #[.int .i64 6,.string name,.slice aw nw cw,.int .i64 lo,.int .i64 hi,.slice aa na ca] 26 (0,0)):=by rw[hwa,hb6];exact blk_alloc (alloc_atR (by simp))
 have hb2:wa.heap[b6+1+1]?=some prZero:=by rw[hwa,hb6];exact alloc_atR (by simp)
 have HXA:=hI hxa
 have HB0:=hI hb0
 have HB1:=hI hb1
 have HB2:=hI hb2
 have HB6:=hI (show bd < b6/\b6=w.heap.size from⟨by omega,hb6⟩)
 go_enter Tryz.func17,Tryz.ntmps17
 go_upto_region 1 with fail
 rw[<-hwa,<-hb6]
 clear hwa hb6 hbw
 obtain⟨f0,f1,f2,f3,f4,f5,ff⟩:=blk6 hb1
 obtain⟨e0,ef⟩:=blk1 hb0
 clear hxa hb0 hb1 hb2
 go_wp2_with fail
 refine(HTR.out wa (HXA.out.chg _)).mono ?_
 rintro r w1 ⟨rfl,hx1⟩
 go_upto_region 2 with fail
 obtain⟨b11,hb11⟩:∃ b11:Nat,b11=w1.heap.size:=⟨_,rfl⟩
 obtain⟨w2,hw2⟩:∃ w2,w2=w1.alloc (.cells #[.bool V,.int .i64 (-1),.slice none 0 0] 40):=⟨_,rfl⟩
 have hx2:Ext wa w2:=by rw[hw2];exact hx1.alloc _
 have HP2:=hI (show w2.heap[b11]?=some (.cells #[.bool V,.int .i64 (-1),.slice none 0 0] 40 (0,0)) by rw[hw2,hb11];exact alloc_new w1 _)
 have hlt11:b6+1+1 < b11:=by have:=blk_lt (hx1.blk HB2.out);omega
 rw[<-hw2,<-hb11]
 clear hw2 hb11 hx1 f0 f1 f2 f3 f4 f5 ff e0 ef
 have HLT:=hI hlt11
 have HX2:=hI (HXA.out.trans hx2)
 have HS2:=hI (hx2.blk HB0.out)
 have HE2:=hI (hx2.blk HB1.out)
 have HZ2:=hI (hx2.blk HB2.out)
 have HD2:=hI (HD.out.ext (HXA.out.trans hx2))
 have HC2:=hI ((HXA.out.trans hx2).chg [bd])
 clear hx2 hlt11 HB0 HB1 HB2 HXA HTR
 obtain⟨f0,f1,f2,f3,f4,f5,ff⟩:=blk6 HE2.out
 obtain⟨e0,ef⟩:=blk1 HS2.out
 have hnp:0 < na:=by have:=HNA.out;simp at this;omega
 obtain⟨xb,xo,rfl,aw1,nw1,cw1,aa1,na1,ca1,m0,m1,m2,m3,m4,m5,m6⟩:=ExsD.at [a0] _ (ExsD.mono (mask_step HC2.out (by simp)) [a0] _ HX.out) 0 (by simp)
 simp only[Nat.zero_mul,Nat.add_zero,List.getElem_cons_zero] at m0 m1 m2 m3 m4 m5 m6
 have hnx:xb∉[bd]:=fun hm=>by rw[mask_cell,if_pos hm] at m0;cases m0
 have g0:=mask_sub _ _ _ _ m0
 have g1:=mask_sub _ _ _ _ m1
 have g2:=mask_sub _ _ _ _ m2
 have g3:=mask_sub _ _ _ _ m3
 have g4:=mask_sub _ _ _ _ m4
 have g5:=mask_sub _ _ _ _ m5
 have M6:=hI m6
 have HN6:=hI (show b6∉[bd] by have:=HB6.out;simp;omega)
 have HN7:=hI (show b6+1∉[bd] by have:=HB6.out;simp;omega)
 have HNX:=hI hnx
 obtain⟨Q,hQ⟩:∃ Q:Pr->Prop,Q=fun q=>prvF s l f (g+1) a0 q=true/\q.few 1000000:=⟨_,rfl⟩
 have HQD:=hI hQ
 obtain⟨N,hN⟩:∃ N:ZN,N=bd::(b6+1+1)::b11::M:=⟨_,rfl⟩
 have HNE:=hI hN
 have HNB:=hI (show bd∈N by rw[hN];simp)
 have hHPA:=fun W (hW:Chg [bd] w2 W) (hd:DeckAt w0 W bd)=>HARG.out 0 (by simp) _ N W (HC2.out.then hW) (fun z hz=>by
  have h1:=HLT.out;have h2:=HB6.out;have h3:=hW.size;have h4:=blk_lt HP2.out;have h5:=HM.out
  rw[hN] at hz
  simp only[List.mem_cons] at hz
  rcases hz with rfl|rfl|rfl|hz
  ·omega
  ·omega
  ·omega
  have:=h5 z hz;have:=HC2.out.size;omega) hd (M6.out.mono (mask_step hW (by simp)))
 simp only[List.getElem_cons_zero] at hHPA
 rw[<-hQ] at hHPA
 unfold exV at hHPA
 have HPA:=hI hHPA
 obtain⟨x0,hx0⟩:∃ x0,x0=a0.op:=⟨_,rfl⟩
 obtain⟨x1,hx1⟩:∃ x1,x1=a0.name:=⟨_,rfl⟩
 obtain⟨x5,hx5⟩:∃ x5,x5=a0.lo:=⟨_,rfl⟩
 obtain⟨x6,hx6⟩:∃ x6,x6=a0.hi:=⟨_,rfl⟩
 rw[<-hx0] at g0 HPA
 rw[<-hx1] at g1 HPA
 rw[<-hx5] at g3 HPA
 rw[<-hx6] at g4 HPA
 have HDK:=hI HD2.out
 have HLW:=hI (blk_lt HP2.out)
 clear hQ hN m0 m1 m2 m3 m4 m5 m6 hHPA hx0 hx1 hx5 hx6 hnx HARG HTA
 go_upto_region 4 with fail
 refine wp_region_grow (m:=11) [9,10] (GnG w0 w2 bd) (GnE bd) (GrP (dpr4R bd b6 b11 sa sn sc a n c fa fn fc N Q xb xo na ca x0 x1 aw1 nw1 cw1 x5 x6 aa1 na1 ca1 )) (by kernel_rfl) (by kernel_rfl) ⟨HDK.out.ext ((Ext.refl w2).drew),((Ext.refl w2).drew).chg _⟩ ?_ ?_ ?_
 ·intro i k v W W' hi hk hne hout h hE
  have hE:Chg [bd] W W':=hE
  have hi':=ltc11 hi
  clear hi hk hne hout
  rcases hi' with rfl|rfl|rfl|rfl|rfl|rfl|rfl|rfl|rfl|rfl|rfl
  ·exact h
  ·exact h
  ·exact h
  ·exact h
  ·exact h
  ·exact h
  ·exact h
  ·exact h
  ·obtain⟨q,qv,e0,h⟩:=h
   exact⟨q,qv,e0,⟨h.1.mono (mask_step hE HNB.out),h.2⟩⟩
  ·obtain⟨q,qv,y,e0,h⟩:=h
   exact⟨q,qv,y,e0,⟨hE.blk h.1 (by have:=h.2.1;have:=HLT.out;have:=HB6.out;simp;omega),h.2.1,h.2.2.1.mono (mask_step hE HNB.out),h.2.2.2⟩⟩
  exact h
 ·intro q op hq ho vs W hW hd ρ hρ
  have hq':=ltc11 hq
  clear hq
  have o0:ρ (.tmp 0)=.pointer (some ⟨bd,0,none⟩):=hρ.out 0 rfl
  have o6:ρ (.tmp 6)=.pointer (some ⟨b6,0,none⟩):=hρ.out 6 rfl
  have o2:ρ (.tmp 2)=.slice a n c:=hρ.out 2 rfl
  have o8:ρ (.tmp 8)=.pointer (some ⟨b6+1,0,none⟩):=hρ.out 8 rfl
  have i3:=hρ.i 3 31
  have i4:=hρ.i 4 32
  have i5:=hρ.i 5 33
  have o4:ρ (.tmp 4)=.slice fa fn fc:=hρ.out 4 rfl
  have i0:=hρ.i 0 28
  have i1:=hρ.i 1 29
  have i2:=hρ.i 2 30
  have i6:=hρ.i 6 34
  have i7:=hρ.i 7 35
  have i8:=hρ.i 8 36
  have o11:ρ (.tmp 11)=.pointer (some ⟨b11,0,none⟩):=hρ.out 11 rfl
  have hc:=hρ.const
  have hfn:=hρ.func
  clear hρ
  have HW:=hI (show DeckAt w0 W bd/\Chg [bd] w2 W from hW)
  rcases hq' with rfl|rfl|rfl|rfl|rfl|rfl|rfl|rfl|rfl|rfl|rfl
  ·cases ho
   clear hd
   unfold GivesOp
   go_simp
   exact⟨Chg.refl _ _,rfl⟩
  ·cases ho
   clear hd
   have g0:=chg_cell HW.out.2 e0 HN6.out
   unfold GivesOp
   go_simp
   exact⟨Chg.refl _ _,rfl⟩
  ·cases ho
   clear hd
   unfold GivesOp
   go_simp
   exact⟨Chg.refl _ _,rfl⟩
  ·cases ho
   clear hd
   unfold GivesOp
   go_simp
   exact⟨Chg.refl _ _,rfl⟩
  ·cases ho
   have h3:vs 3=_:=hd ⟨3,.data⟩ (by simp) rfl
   rw[h3] at i3
   clear hd
   have g5:=chg_cell HW.out.2 f5 HN7.out
   unfold GivesOp
   go_simp
   exact⟨Chg.refl _ _,rfl⟩
  ·cases ho
   have h4:vs 4=_:=hd ⟨4,.data⟩ (by simp) rfl
   rw[h4] at i4
   clear hd
   unfold GivesOp
   go_simp
   exact⟨Chg.refl _ _,rfl⟩
  ·cases ho
   have h5:vs 5=_:=hd ⟨5,.data⟩ (by simp) rfl
   rw[h5] at i5
   clear hd
   have g0:=chg_cell HW.out.2 g0 HNX.out
   have g1:=chg_cell HW.out.2 g1 HNX.out
   have g2:=chg_cell HW.out.2 g2 HNX.out
   have g3:=chg_cell HW.out.2 g3 HNX.out
   have g4:=chg_cell HW.out.2 g4 HNX.out
   have g5:=chg_cell HW.out.2 g5 HNX.out
   unfold GivesOp
   go_simp
   exact⟨Chg.refl _ _,rfl⟩
  ·cases ho
   clear hd
   unfold GivesOp
   go_simp
   exact⟨Chg.refl _ _,rfl⟩
  ·cases ho
   have h0:vs 0=_:=hd ⟨0,.data⟩ (by simp) rfl
   rw[h0] at i0
   have h1:vs 1=_:=hd ⟨1,.data⟩ (by simp) rfl
   rw[h1] at i1
   have h2:vs 2=_:=hd ⟨2,.data⟩ (by simp) rfl
   rw[h2] at i2
   have h6:vs 6=_:=hd ⟨6,.data⟩ (by simp) rfl
   rw[h6] at i6
   have h7:vs 7=_:=hd ⟨7,.data⟩ (by simp) rfl
   rw[h7] at i7
   clear hd
   unfold GivesOp
   go_simp
   refine(HPA.out W HW.out.2 HW.out.1).mono ?_
   rintro e5 w5 ⟨q,qv,rfl,hq1,hq2,hd5,hc5⟩
   exact⟨_,rfl,hc5,⟨hd5,HW.out.2.then hc5⟩,q,qv,rfl,hq2,hq1⟩
  ·cases ho
   obtain⟨q,qv,h8,hs8⟩:∃ (q:Pr) (qv:PrV),vs 8=.agg #[.bool qv.value,.int .i64 qv.pick,.slice qv.a qv.n qv.c]/\(IsPr (mask W N) q qv/\Q q):=hd ⟨8,.data⟩ (by simp) rfl
   have HS8:=hI hs8
   clear hs8
   rw[h8] at i8
   clear hd
   unfold GivesOp
   go_simp
   exact⟨((Ext.refl W).alloc _).chg _,⟨HW.out.1.ext ((Ext.refl W).alloc _),HW.out.2.then (((Ext.refl W).alloc _).chg _)⟩,q,qv,W.heap.size,rfl,alloc_new W _,by have:=HLW.out;have:=HW.out.2.size;omega,HS8.out.1.mono (mask_ext _ ((Ext.refl W).alloc _)),HS8.out.2⟩
  cases ho
  clear hd
  unfold GivesOp
  go_simp
  exact⟨Chg.refl _ _,rfl⟩
 intro vs W hW hR
 rw[if_neg (by decide +kernel)]
 obtain⟨q,qv,y,h9,hs9⟩:∃ (q:Pr) (qv:PrV) (y:Nat),vs 9=.slice (some ⟨y,0,none⟩) 1 1/\(W.heap[y]?=some (.cells #[.bool qv.value,.int .i64 qv.pick,.slice qv.a qv.n qv.c] 40 (0,0))/\b11 < y/\IsPr (mask W N) q qv/\Q q):=hR 9 (by simp) (by omega)
 have HS9:=hI hs9
 clear hs9
 have h10:vs 10=.pointer (some ⟨b11,2,none⟩):=hR 10 (by simp) (by omega)
 refine wpOp_lastG rfl ?_
 change wpList _ _ _ [⟨none,.store _ (.tmp 38) (.tmp 37),_,_,_,none⟩] _ _
 simp only[acts,dstAt,List.range,List.range.loop,List.foldl_cons,List.foldl_nil,h9,h10]
 go_simp
 have hW2:DeckAt w0 W bd/\Chg [bd] w2 W:=hW
 clear hR hW h9 h10
 have HSX:=hI HS9.out
 clear HS9 f0 f1 f2 f3 f4 f5 ff e0 ef g0 g1 g2 g3 g4 g5
 have HS9:=hI HSX.out
 have HXW:=hI hW2
 obtain⟨W3,hW3⟩:∃ W3,W3=W.setCell ⟨b11,2,none⟩ (.slice (some ⟨y,0,none⟩) 1 1):=⟨_,rfl⟩
 have hpw:W.heap[b11]?=some (.cells #[.bool V,.int .i64 (-1),.slice none 0 0] 40 (0,0)):=HXW.out.2.blk HP2.out (by have:=HLT.out;have:=HB6.out;simp;omega)
 have hc3:Chg [b11] W W3:=by rw[hW3];exact put_chg _ _ _ _
 have HP3:=hI (show W3.heap[b11]?=some (.cells #[.bool V,.int .i64 (-1),.slice (some ⟨y,0,none⟩) 1 1] 40 (0,0)) by rw[hW3];have:=put_blk (i:=2) hpw (.slice (some ⟨y,0,none⟩) 1 1);simpa using this)
 obtain⟨p0,p1,p2,pf'⟩:=blk3 hpw
 go_upto_region 22 with fail
 rw[<-hW3]
 clear hW3 p0 p1 p2 pf' hW2 hpw
 have HZ3:=hI (hc3.blk (HXW.out.2.blk HZ2.out (by have:=HB6.out;simp;omega)) (by have:=HLT.out;simp;omega))
 have HD3:=hI (HXW.out.1.chg hc3 (by have:=HLT.out;have:=HB6.out;simp;omega) (fun z hz=>by simp only[List.mem_singleton] at hz;have:=HLT.out;have:=HB6.out;have:=HW0.out;omega))
 have HC3:=hI ((HC2.out.then HXW.out.2).trans hc3 (fun z hz=>by simp only[List.mem_singleton] at hz;have:=HLT.out;have:=HB6.out;exact Or.inr (by omega)))
 have HY3:=hI (hc3.blk HS9.out.1 (by have:=HS9.out.2.1;simp;omega))
 have HQ3:=hI (show IsPr (mask W3 ((b6+1+1)::M)) q qv from(HS9.out.2.2.1.mono (mask_chg hc3 (fun z hz=>by simp only[List.mem_singleton] at hz;rw[hz,HNE.out];simp))).mono (mask_less _ (fun z hz=>by rw[HNE.out];simp only[List.mem_cons] at hz ⊢;rcases hz with h|h<;>simp[h])))
 have HQQ:=hI HS9.out.2.2.2
 have hys:=HS9.out.2.1
 clear hc3
 obtain⟨p0,p1,p2,pf'⟩:=blk3 HP3.out
 have hz:W3.heap[b6+1+1]?=some (.cells #[.bool false,.int .i64 0,.slice none 0 0] 40 (0,0)):=HZ3.out
 obtain⟨r0,r1,r2,rf⟩:=blk3 hz
 have hltr:=blk_lt hz
 have HZ:=hI (dprove_fin (w:=w) (M:=M) (pv:=⟨V,-1,some ⟨y,0,none⟩,1,1⟩) HZ3.out (by have:=HB6.out;omega) HW0.out (by have:=HB6.out;omega) HD3.out HC3.out
  (isPr_one (v:=qv) (t:=40) HY3.out (fun hm=>by
   have h1:=HLT.out;have h2:=HB6.out
   simp only[List.mem_cons] at hm
   rcases hm with hm|hm
   ·omega
   have:=HM.out _ hm;omega) HQ3.out V (-1)))
 simp only at HZ
 go_wp2_with fail
 obtain⟨wz,hwz⟩:∃ wz,wz=put3 W3 (b6+1+1) (.bool V) (.int .i64 (-1)) (.slice (some ⟨y,0,none⟩) 1 1):=⟨_,rfl⟩
 rw[<-hwz] at HZ
 unfold put3 at hwz
 rw[<-hwz]
 clear hwz
 obtain⟨z0,z1,z2,zf⟩:=blk3 HZ.out.1
 refine bodyPost_ret (v:=PrV.val ⟨V,-1,some ⟨y,0,none⟩,1,1⟩) (by simp[results,Tryz.results17,go_sem,PrV.val,z0,z1,z2]) rfl ?_
 rw[HQD.out] at HQQ
 exact⟨_,_,rfl,⟨HQ.out q HQQ.out.1,.mk (by simp) (fun x hx=>by simp only[List.mem_singleton] at hx;rw[hx];exact HQQ.out.2)⟩,HZ.out.2⟩
def dpr16R (_op:Int) (_V:Bool) (bd b6 b11:Nat) (sa:OA) (sn sc:Nat) (a:OA) (n c:Nat) (fa:OA) (fn fc:Nat) (N M:ZN) (Q:Pr->Prop) (k:Nat) (ps:List Pr) (pvs:List PrV) (ua:OA) (uc:Nat) (xb xo na ca:Nat) (x0:Int) (x1:BA) (aw1:OA) (nw1 cw1:Nat) (x5 x6:Int) (aa1:OA) (na1 ca1:Nat)  : Nat->Value->World->Prop
 | 0,u,_=>u=.pointer (some ⟨b11,2,none⟩)
 | 1,u,_=>u=.slice ua k uc
 | 2,u,_=>u=.pointer (some ⟨bd,0,none⟩)
 | 3,u,_=>u=.agg #[.slice sa sn sc]
 | 4,u,_=>u=.slice a n c
 | 5,u,_=>u=.pointer (some ⟨b6+1,5,none⟩)
 | 6,u,_=>u=.slice (some ⟨xb,xo,none⟩) na ca
 | 7,u,_=>u=.int .i64 ((k:Nat):Int)
 | 8,u,_=>u=.pointer (some ⟨xb,xo+k * 6,none⟩)
 | 9,u,_=>u=.agg #[.int .i64 x0,.string x1,.slice aw1 nw1 cw1,.int .i64 x5,.int .i64 x6,.slice aa1 na1 ca1]
 | 10,u,_=>u=.slice fa fn fc
 | 11,u,W=>∃ (q:Pr) (qv:PrV),u=.agg #[.bool qv.value,.int .i64 qv.pick,.slice qv.a qv.n qv.c]/\(IsPr (mask W N) q qv/\Q q)
 | 12,u,W=>∃ (q:Pr) (qv:PrV) (y:Nat),u=.slice (some ⟨y,0,none⟩) 1 1/\(W.heap[y]?=some (.cells qv.cells.toArray 40 (0,0))/\b11 < y/\IsPr (mask W N) q qv/\Q q)
 | 13,u,W=>∃ (q:Pr) (qv:PrV) (v2:Value),u=v2/\(W.ownsRow (b11+1) 40 3 v2 (k+1) (pvs.flatMap PrV.cells++qv.cells)/\PrsR (mask W (bd::rowOf v2++(b6+1+1)::b11::M)) (ps++[q]) (pvs++[qv])/\Q q)
 | _,u,_=>u=.pointer (some ⟨b11,2,none⟩)
theorem dpr_all {s:List Attr} {l:List Cla} {f:ZI} {g:Nat} {name:BA} {words:ZB} {lo hi:Int} {args:List Ex} {V:Bool} {w0 w:World} {bd:Nat} {M:ZN} {a:OA} {n c:Nat} {fa:OA} {fn fc:Nat} {sa:OA} {sn sc:Nat} {aw:OA} {nw cw:Nat} {aa:OA} {na ca:Nat} {op:Int} (hop:op=7/\V=true\/op=8/\V=false) (hv:valF s l f (g+1) (.mk op name words lo hi args)=V) (h:DprIn s l f g op name args lo hi V w0 w bd M a n c fa fn fc sa sn sc aw nw cw aa na ca) :
  Calls Tryz.prog 17 #[.pointer (some ⟨bd,0,none⟩),.agg #[.slice sa sn sc],.slice a n c,exV op name aw nw cw lo hi aa na ca,.slice fa fn fc] w (DPrQ (fun p=>prvF s l f (g+1) (.mk op name words lo hi args) p=true/\p.few 1000000) w0 bd M w):=by
 have HQ:=hI (show ∀ ps:List Pr,args.length=ps.length->(∀ i (h1:i < args.length) (h2:i < ps.length),prvF s l f (g+1) args[i] ps[i]=true)->prvF s l f (g+1) (.mk op name words lo hi args) (.mk V (-1) ps)=true from fun ps hl hp=>prv_all (hop.imp And.left And.left) hv (by rcases hop with ⟨rfl,rfl⟩|⟨rfl,rfl⟩<;>rfl) hl hp)
 obtain⟨P,hP⟩:∃ P:Nat->Pr->Prop,P=fun j p=>(∀ h:j < args.length,prvF s l f (g+1) args[j] p=true)/\p.few 1000000:=⟨_,rfl⟩
 have HPE:=hI hP
 clear hv hP
 have HTR:=hI h.tr
 have HTA:=hI h.ta
 have HARG:=hI h.arg
 have HM:=hI h.m
 have HD:=hI h.d
 have HX:=hI h.x
 have HNA:=hI h.na
 have HFE:=hI h.few
 have hbw:=h.d.lt
 have HW0:=hI (show w0.heap.size<=w.heap.size by obtain⟨_,_,_,_,_,_,_,_,hxw,_⟩:=h.d;exact hxw.size)
 clear h
 unfold exV at *
 obtain⟨wa,hwa⟩:∃ wa,wa=((w.alloc (.cells #[.slice sa sn sc] 31)).alloc (.cells #[.int .i64 op,.string name,.slice aw nw cw,.int .i64 lo,.int .i64 hi,.slice aa na ca] 26)).alloc (.cells #[.bool false,.int .i64 0,.slice none 0 0] 40):=⟨_,rfl⟩
 have hxa:Ext w wa:=by rw[hwa];exact(((Ext.refl _).alloc _).alloc _).alloc _
 obtain⟨b6,hb6⟩:∃ b6:Nat,b6=w.heap.size:=⟨_,rfl⟩
 have hb0:wa.heap[b6]?=some (.cells #[.slice sa sn sc] 31 (0,0)):=by rw[hwa,hb6];exact blk_alloc (blk_alloc (alloc_new w _))
 have hb1:wa.heap[b6+1]?=some (.cells #[.int .i64 op,.string name,.slice aw nw cw,.int .i64 lo,.int .i64 hi,.slice aa na ca] 26 (0,0)):=by rw[hwa,hb6];exact blk_alloc (alloc_atR (by simp))
 have hb2:wa.heap[b6+1+1]?=some prZero:=by rw[hwa,hb6];exact alloc_atR (by simp)
 have HXA:=hI hxa
 have HB0:=hI hb0
 have HB1:=hI hb1
 have HB2:=hI hb2
 have HB6:=hI (show bd < b6/\b6=w.heap.size from⟨by omega,hb6⟩)
 go_enter Tryz.func17,Tryz.ntmps17
 go_upto_region 1 with fail
 rw[<-hwa,<-hb6]
 clear hwa hb6 hbw
 obtain⟨f0,f1,f2,f3,f4,f5,ff⟩:=blk6 hb1
 obtain⟨e0,ef⟩:=blk1 hb0
 clear hxa hb0 hb1 hb2
 go_wp2_with fail
 refine(HTR.out wa (HXA.out.chg _)).mono ?_
 rintro r w1 ⟨rfl,hx1⟩
 go_upto_region 2 with fail
 obtain⟨b11,hb11⟩:∃ b11:Nat,b11=w1.heap.size:=⟨_,rfl⟩
 obtain⟨w2,hw2⟩:∃ w2,w2=w1.alloc (.cells #[.bool V,.int .i64 (-1),.slice none 0 0] 40):=⟨_,rfl⟩
 have hx2:Ext wa w2:=by rw[hw2];exact hx1.alloc _
 have HP2:=hI (show w2.heap[b11]?=some (.cells #[.bool V,.int .i64 (-1),.slice none 0 0] 40 (0,0)) by rw[hw2,hb11];exact alloc_new w1 _)
 have hlt11:b6+1+1 < b11:=by have:=blk_lt (hx1.blk HB2.out);omega
 rw[<-hw2,<-hb11]
 clear hw2 hb11 hx1 f0 f1 f2 f3 f4 f5 ff e0 ef
 have HLT:=hI hlt11
 have HX2:=hI (HXA.out.trans hx2)
 have HS2:=hI (hx2.blk HB0.out)
 have HE2:=hI (hx2.blk HB1.out)
 have HZ2:=hI (hx2.blk HB2.out)
 have HD2:=hI (HD.out.ext (HXA.out.trans hx2))
 have HC2:=hI ((HXA.out.trans hx2).chg [bd])
 clear hx2 hlt11 HB0 HB1 HB2 HXA HTR
 obtain⟨f0,f1,f2,f3,f4,f5,ff⟩:=blk6 HE2.out
 obtain⟨e0,ef⟩:=blk1 HS2.out
 obtain⟨p0,p1,p2,pf'⟩:=blk3 HP2.out
 have t6:(op==6)=false:=by rcases hop with ⟨rfl,-⟩|⟨rfl,-⟩<;>rfl
 have t3:(op==3)=false:=by rcases hop with ⟨rfl,-⟩|⟨rfl,-⟩<;>rfl
 rcases hop with ⟨hop,hV⟩|⟨hop,hV⟩
 case' inl=>have t7:(op==7)=true:=by rw[hop];rfl
 case' inr =>
  have t7:(op==7)=false:=by rw[hop];rfl
  have t8:(op==8)=true:=by rw[hop];rfl
 all_goals
 clear hop
 go_upto_region 13 with fail
 clear hV f0 f1 f2 f3 f4 f5 ff e0 ef p0 p1 p2 pf'
 go_wp2_with fail
 go_loopw [16] (DprL P V na bd b6 b11 M (.cells #[.slice sa sn sc] 31 (0,0)) (.cells #[.int .i64 op,.string name,.slice aw nw cw,.int .i64 lo,.int .i64 hi,.slice aa na ca] 26 (0,0)) w0 w) (fun i _=>na - (intOf i).toNat)
 case atStart=>exact⟨0,[],[],.slice none 0 0,rfl,by omega,rfl,fun j h=>by simp at h,World.ownsRow_nil _ _ _ _,PrsR.nil _,HS2.out,HE2.out,HZ2.out,HP2.out,HD2.out,HC2.out⟩
 case round =>
  obtain⟨k,ps,pvs,u,rfl,hk,hpl,hpp,hown,hprs,hb0,hb1,hb2,hbp,hdk,hcg⟩:=hrel
  obtain⟨ua,uc,hu⟩:=owns_formG hown
  subst hu
  have HPL:=hI hpl
  have HPP:=hI hpp
  have HOW:=hI hown
  have HPRS:=hI hprs
  have HC0:=hI hb0
  have HC1:=hI hb1
  have HC2':=hI hb2
  have HBP:=hI hbp
  have HDK:=hI hdk
  have HCG:=hI hcg
  have HSZ:=hI (show b11+1<=wr.heap.size from blk_lt hbp)
  have hnk:na<=1000000:=by have:=HNA.out;have:=HFE.out;omega
  obtain⟨e0,ef⟩:=blk1 hb0
  obtain⟨f0,f1,f2,f3,f4,f5,ff⟩:=blk6 hb1
  obtain⟨p0,p1,p2,pf'⟩:=blk3 hbp
  clear hpl hpp hown hprs hb0 hb1 hb2 hbp hdk hcg HS2 HE2 HZ2 HP2 HD2 HC2 HX2
  by_cases hkn:k < na
  ·have hka:k < args.length:=by have:=HNA.out;omega
   have t1:decide ((k:Int) < (na:Int))=true:=decide_eq_true (by omega)
   obtain⟨xb,xo,rfl,aw1,nw1,cw1,aa1,na1,ca1,m0,m1,m2,m3,m4,m5,m6⟩:=ExsD.at args _ HX.out k hka
   have hxl:xb < w.heap.size:=by have:=block_lt (mask_sub _ _ _ _ m0);simpa using this
   have hnx1:xb∉[bd]:=fun hm=>by rw[mask_cell,if_pos hm] at m0;cases m0
   have g0:=chg_cell HCG.out (mask_sub _ _ _ _ m0) hnx1
   have g1:=chg_cell HCG.out (mask_sub _ _ _ _ m1) hnx1
   have g2:=chg_cell HCG.out (mask_sub _ _ _ _ m2) hnx1
   have g3:=chg_cell HCG.out (mask_sub _ _ _ _ m3) hnx1
   have g4:=chg_cell HCG.out (mask_sub _ _ _ _ m4) hnx1
   have g5:=chg_cell HCG.out (mask_sub _ _ _ _ m5) hnx1
   have M6:=hI m6
   obtain⟨N,hN⟩:∃ N,N=bd::rowOf (.slice ua k uc)++(b6+1+1)::b11::M:=⟨_,rfl⟩
   have HNE:=hI hN
   have HBU:=hI (show bd∉rowOf (.slice ua k uc) from row_free HOW.out (by have:=HB6.out;have:=HLT.out;omega))
   have HNB:=hI (show bd∈N by rw[hN];simp)
   have HN6:=hI (show b6∉bd::rowOf (.slice ua k uc) by rw[List.mem_cons,not_or];exact⟨by have:=HB6.out;omega,row_free HOW.out (by have:=HLT.out;omega)⟩)
   have HN7:=hI (show b6+1∉bd::rowOf (.slice ua k uc) by rw[List.mem_cons,not_or];exact⟨by have:=HB6.out;omega,row_free HOW.out (by have:=HLT.out;omega)⟩)
   have HN8:=hI (show b6+1+1∉bd::rowOf (.slice ua k uc) by rw[List.mem_cons,not_or];exact⟨by have:=HB6.out;omega,row_free HOW.out (by have:=HLT.out;omega)⟩)
   have HN11:=hI (show b11∉bd::rowOf (.slice ua k uc) by rw[List.mem_cons,not_or];exact⟨by have:=HB6.out;have:=HLT.out;omega,row_free HOW.out (by omega)⟩)
   have HNX:=hI (show xb∉bd::rowOf (.slice ua k uc) by rw[List.mem_cons,not_or];exact⟨by simpa using hnx1,row_free HOW.out (by have:=HB6.out;have:=HLT.out;omega)⟩)
   have HCW:=hI (show ∀ W,Chg (bd::rowOf (.slice ua k uc)) wr W->Chg [bd] w W from fun W hW=>HCG.out.trans hW (fun z hz=>by
    rcases List.mem_cons.1 hz with h|h
    ·exact Or.inl (by simp[h])
    have:=(HOW.out.lt z (mem_rowOf.1 h)).1;have:=HB6.out;have:=HLT.out;exact Or.inr (by omega)))
   obtain⟨Q,hQ⟩:∃ Q:Pr->Prop,Q=fun q=>prvF s l f (g+1) args[k] q=true/\q.few 1000000:=⟨_,rfl⟩
   have HQD:=hI (show ∀ q,Q q->P k q from fun q hq=>by rw[HPE.out];rw[hQ] at hq;exact⟨fun _=>hq.1,hq.2⟩)
   have hHPA:=fun W (hW:Chg (bd::rowOf (.slice ua k uc)) wr W) (hd:DeckAt w0 W bd)=>HARG.out k hka _ N W (HCW.out W hW) (fun z hz=>by
    have h1:=HLT.out;have h2:=HB6.out;have h3:=hW.size;have h4:=HSZ.out;have h5:=HM.out
    rw[hN] at hz
    simp only[List.cons_append,List.mem_cons,List.mem_append] at hz
    rcases hz with rfl|hz|rfl|rfl|hz
    ·omega
    ·have:=(HOW.out.lt z (mem_rowOf.1 hz)).2;omega
    ·omega
    ·omega
    have:=h5 z hz;have:=HCG.out.size;omega) hd (M6.out.mono (mask_step (HCW.out W hW) (by simp)))
   rw[<-hQ] at hHPA
   unfold exV at hHPA
   have HPA:=hI hHPA
   obtain⟨x0,hx0⟩:∃ x0,x0=args[k].op:=⟨_,rfl⟩
   obtain⟨x1,hx1⟩:∃ x1,x1=args[k].name:=⟨_,rfl⟩
   obtain⟨x5,hx5⟩:∃ x5,x5=args[k].lo:=⟨_,rfl⟩
   obtain⟨x6,hx6⟩:∃ x6,x6=args[k].hi:=⟨_,rfl⟩
   rw[<-hx0] at g0 HPA
   rw[<-hx1] at g1 HPA
   rw[<-hx5] at g3 HPA
   rw[<-hx6] at g4 HPA
   have HWR:=hI (show ∀ W,Chg [bd] wr W->PrsR (mask W N) ps pvs from fun W hW=>by rw[hN];exact HPRS.out.mono (mask_step hW (by simp)))
   have HKB:=hI (show k < 1000000 by have:=HFE.out;omega)
   have HLW:=hI (show b11 < wr.heap.size by have:=HSZ.out;omega)
   clear hQ hN m0 m1 m2 m3 m4 m5 m6 hHPA hx0 hx1 hx5 hx6 hnx1 hxl HARG HTA HPRS
   go_upto_region 16 with fail
   refine wp_region_growLG (n:=139) (m:=15) [13,14] (GnLv w0 wr bd 13 (rowOf (.slice ua k uc))) (GnB bd 13 (rowOf (.slice ua k uc))) (GrP (dpr16R op V bd b6 b11 sa sn sc a n c fa fn fc N M Q k ps pvs ua uc xb xo na ca x0 x1 aw1 nw1 cw1 x5 x6 aa1 na1 ca1 )) (by kernel_rfl) (by kernel_rfl) (Nat.le_of_ble_eq_true rfl) ?gd (gnlv_start HDK.out) ?_ ?_ ?_
   case gd =>
    intro i o j b hi ho hg
    rcases ltc15 hi with rfl|rfl|rfl|rfl|rfl|rfl|rfl|rfl|rfl|rfl|rfl|rfl|rfl|rfl|rfl<;>(cases ho;first|(cases hg;done)|(cases hg;intro v W h;exact h))
   ·intro i k v W W' hi hk hne hout h hE
    have hi':=ltc15 hi
    clear hi hk
    by_cases hk:k=13
    ·subst hk
     rcases hi' with rfl|rfl|rfl|rfl|rfl|rfl|rfl|rfl|rfl|rfl|rfl|rfl|rfl|rfl|rfl
     ·exact h
     ·exact h
     ·exact h
     ·exact h
     ·exact h
     ·exact h
     ·exact h
     ·exact h
     ·exact h
     ·exact h
     ·exact h
     ·exact absurd hout (by decide +kernel)
     ·exact absurd hout (by decide +kernel)
     ·exact absurd rfl hne
     exact h
    have hE:Chg [bd] W W':=(by have h9:=hE;unfold GnB at h9;rwa [if_neg hk] at h9)
    rcases hi' with rfl|rfl|rfl|rfl|rfl|rfl|rfl|rfl|rfl|rfl|rfl|rfl|rfl|rfl|rfl
    ·exact h
    ·exact h
    ·exact h
    ·exact h
    ·exact h
    ·exact h
    ·exact h
    ·exact h
    ·exact h
    ·exact h
    ·exact h
    ·obtain⟨q,qv,e0,h⟩:=h
     exact⟨q,qv,e0,⟨h.1.mono (mask_step hE HNB.out),h.2⟩⟩
    ·obtain⟨q,qv,y,e0,h⟩:=h
     exact⟨q,qv,y,e0,⟨hE.blk h.1 (by have:=h.2.1;have:=HLT.out;have:=HB6.out;simp;omega),h.2.1,h.2.2.1.mono (mask_step hE HNB.out),h.2.2.2⟩⟩
    ·obtain⟨q,qv,v2,e0,h⟩:=h
     exact⟨q,qv,v2,e0,⟨owns_chg h.1 hE (fun z hz hm=>by simp only[List.mem_singleton] at hm;have:=(h.1.lt z hz).1;have:=HB6.out;have:=HLT.out;omega),h.2.1.mono (mask_step hE (by simp)),h.2.2⟩⟩
    exact h
   ·intro q op hq ho L vs W hqL hcL hW hd ρ hρ
    have hq':=ltc15 hq
    clear hq
    have o11:ρ (.tmp 11)=.pointer (some ⟨b11,0,none⟩):=hρ.out 11 rfl
    have i0:=hρ.i 0 85
    have o0:ρ (.tmp 0)=.pointer (some ⟨bd,0,none⟩):=hρ.out 0 rfl
    have o6:ρ (.tmp 6)=.pointer (some ⟨b6,0,none⟩):=hρ.out 6 rfl
    have o2:ρ (.tmp 2)=.slice a n c:=hρ.out 2 rfl
    have o8:ρ (.tmp 8)=.pointer (some ⟨b6+1,0,none⟩):=hρ.out 8 rfl
    have i5:=hρ.i 5 90
    have o16:ρ (.tmp 16)=.int .i64 ((k:Nat):Int):=hρ.out 16 rfl
    have i6:=hρ.i 6 91
    have i7:=hρ.i 7 92
    have i8:=hρ.i 8 93
    have o4:ρ (.tmp 4)=.slice fa fn fc:=hρ.out 4 rfl
    have i2:=hρ.i 2 87
    have i3:=hρ.i 3 88
    have i4:=hρ.i 4 89
    have i9:=hρ.i 9 94
    have i10:=hρ.i 10 95
    have i11:=hρ.i 11 96
    have i1:=hρ.i 1 86
    have i12:=hρ.i 12 97
    have hc:=hρ.const
    have hfn:=hρ.func
    clear hρ
    have HG:=hI hW
    have HW:=hI (show DeckAt w0 W bd/\Chg (bd::rowOf (.slice ua k uc)) wr W from⟨hW.1,hW.2.1⟩)
    have HQL:=hI hqL
    clear hW hqL hcL
    have kf0:=chg_cell HW.out.2 e0 HN6.out
    have kf1:=chg_cell HW.out.2 f5 HN7.out
    have kf2:=chg_cell HW.out.2 p2 HN11.out
    have kf3:=chg_cell HW.out.2 g0 HNX.out
    have kf4:=chg_cell HW.out.2 g1 HNX.out
    have kf5:=chg_cell HW.out.2 g2 HNX.out
    have kf6:=chg_cell HW.out.2 g3 HNX.out
    have kf7:=chg_cell HW.out.2 g4 HNX.out
    have kf8:=chg_cell HW.out.2 g5 HNX.out
    by_cases hs11:q=11
    ·subst hs11
     clear hq'
     cases ho
     have h2:vs 2=_:=hd ⟨2,.data⟩ (by simp) rfl
     rw[h2] at i2
     have h3:vs 3=_:=hd ⟨3,.data⟩ (by simp) rfl
     rw[h3] at i3
     have h4:vs 4=_:=hd ⟨4,.data⟩ (by simp) rfl
     rw[h4] at i4
     have h9:vs 9=_:=hd ⟨9,.data⟩ (by simp) rfl
     rw[h9] at i9
     have h10:vs 10=_:=hd ⟨10,.data⟩ (by simp) rfl
     rw[h10] at i10
     clear hd
     unfold GivesOp
     go_simp
     refine(HPA.out W HW.out.2 HW.out.1).mono ?_
     rintro e5 w5 ⟨q,qv,rfl,hq1,hq2,hd5,hc5⟩
     exact⟨_,rfl,hc5,gnlv_step HG.out hd5 hc5,q,qv,rfl,hq2,hq1⟩
    by_cases hs12:q=12
    ·subst hs12
     clear hq'
     cases ho
     obtain⟨q,qv,h11,hs11⟩:∃ (q:Pr) (qv:PrV),vs 11=.agg #[.bool qv.value,.int .i64 qv.pick,.slice qv.a qv.n qv.c]/\(IsPr (mask W N) q qv/\Q q):=hd ⟨11,.data⟩ (by simp) rfl
     have HS11:=hI hs11
     clear hs11
     rw[h11] at i11
     clear hd
     unfold GivesOp
     go_simp
     exact⟨((Ext.refl W).alloc _).chg _,gnlv_step HG.out (HW.out.1.ext ((Ext.refl W).alloc _)) (((Ext.refl W).alloc _).chg _),q,qv,W.heap.size,rfl,alloc_new W _,by have:=HLW.out;have:=HW.out.2.size;omega,HS11.out.1.mono (mask_ext _ ((Ext.refl W).alloc _)),HS11.out.2⟩
    by_cases hs13:q=13
    ·subst hs13
     clear hq'
     cases ho
     have h1:vs 1=_:=hd ⟨1,.data⟩ (by simp) rfl
     rw[h1] at i1
     obtain⟨q,qv,y,h12,hs12⟩:∃ (q:Pr) (qv:PrV) (y:Nat),vs 12=.slice (some ⟨y,0,none⟩) 1 1/\(W.heap[y]?=some (.cells qv.cells.toArray 40 (0,0))/\b11 < y/\IsPr (mask W N) q qv/\Q q):=hd ⟨12,.data⟩ (by simp) rfl
     have HS12:=hI hs12
     clear hs12
     rw[h12] at i12
     clear hd
     have hW13:=HG.out.2.2 HQL.out
     have ho0:=owns_chg HOW.out hW13 (fun z hz hm=>by simp only[List.mem_singleton] at hm;have:=(HOW.out.lt z hz).1;have:=HB6.out;have:=HLT.out;omega)
     refine gives_append elemPr _ _ (b11+1) _ k _ i1 y 1 1 qv.cells i12 rfl (by simp[PrV.cells,Value.oneCell']) (by omega) (by have:=HKB.out;omega) (by omega) ho0 (fun j hj=>by rw[blk_cell HS12.out.1];simp) (by have:=hW13.size;have:=HSZ.out;omega) ?_
     intro g2 cap z2 ho2 hg2 hw2 hlt2
     have hcg:Chg (rowOf (.slice ua k uc)) W z2:=grown_chg hg2
     have hcb:Chg (bd::rowOf (.slice ua k uc)) W z2:=hcg.weak (fun y hy=>List.mem_cons_of_mem _ hy)
     have hkeep:Sub (mask W N) (mask z2 (bd::rowOf (.slice (some ⟨g2,0,none⟩) (k+1) cap)++(b6+1+1)::b11::M)):=row_keep HNE.out hcg hw2
     exact⟨hcb,gnlv_brk HG.out (HW.out.1.chg hcg HBU.out (fun z hz=>by have:=(HOW.out.lt z (mem_rowOf.1 hz)).1;have:=HB6.out;have:=HLT.out;have:=HW0.out;omega)) hcb,q,qv,_,rfl,ho2,((HWR.out W hW13).mono hkeep).snoc (HS12.out.2.2.1.mono hkeep),HS12.out.2.2.2⟩
    rcases hq' with rfl|rfl|rfl|rfl|rfl|rfl|rfl|rfl|rfl|rfl|rfl|rfl|rfl|rfl|rfl
    all_goals first|(exact absurd rfl hs11;done)|(exact absurd rfl hs12;done)|(exact absurd rfl hs13;done)|skip
    all_goals
     cases ho
     simp[isDataG,GrP,dpr16R] at hd
     clear hs11 hs12 hs13
     unfold GivesOp
     go_simp
     exact⟨Chg.refl _ _,gnlv_step HG.out HW.out.1 (Chg.refl _ _),rfl⟩
   intro L vs W hLm hW hR
   rw[if_neg (by decide +kernel)]
   obtain⟨q,qv,v2,h13,hs13⟩:∃ (q:Pr) (qv:PrV) (v2:Value),vs 13=v2/\(W.ownsRow (b11+1) 40 3 v2 (k+1) (pvs.flatMap PrV.cells++qv.cells)/\PrsR (mask W (bd::rowOf v2++(b6+1+1)::b11::M)) (ps++[q]) (pvs++[qv])/\Q q):=hR 13 (by simp) (by omega)
   have HS13:=hI hs13
   clear hs13
   have h14:vs 14=.pointer (some ⟨b11,2,none⟩):=hR 14 (by simp) (by omega)
   refine wpOp_lastG rfl ?_
   change wpList _ _ _ [⟨none,.store _ (.tmp 99) (.tmp 98),_,_,_,none⟩] _ _
   simp only[acts,dstAt,List.range,List.range.loop,List.foldl_cons,List.foldl_nil,h13,h14]
   go_simp
   have hW2:DeckAt w0 W bd/\Chg (bd::rowOf (.slice ua k uc)) wr W:=⟨hW.1,hW.2.1⟩
   clear hR hW hLm h13 h14
   have HW2:=hI hW2
   obtain⟨a2,c2,hv2⟩:=owns_formG HS13.out.1
   subst hv2
   have HSX:=hI HS13.out
   clear HS13 f0 f1 f2 f3 f4 f5 ff e0 ef p0 p1 p2 pf' g0 g1 g2 g3 g4 g5 hW2
   have hpw:W.heap[b11]?=some (.cells #[.bool V,.int .i64 (-1),.slice ua k uc] 40 (0,0)):=HW2.out.2.blk HBP.out HN11.out
   obtain⟨W3,hW3⟩:∃ W3,W3=W.setCell ⟨b11,2,none⟩ (.slice a2 (k+1) c2):=⟨_,rfl⟩
   have hc3:Chg [b11] W W3:=by rw[hW3];exact put_chg _ _ _ _
   have HP3:=hI (show W3.heap[b11]?=some (.cells #[.bool V,.int .i64 (-1),.slice a2 (k+1) c2] 40 (0,0)) by rw[hW3];have:=put_blk (i:=2) hpw (.slice a2 (k+1) c2);simpa using this)
   obtain⟨p0,p1,p2,pf'⟩:=blk3 hpw
   go_upto_region 15 with fail
   rw[<-hW3]
   clear hW3 p0 p1 p2 pf' hpw
   have HD0:=hI (hc3.blk (HW2.out.2.blk HC0.out HN6.out) (by have:=HLT.out;simp;omega))
   have HD1:=hI (hc3.blk (HW2.out.2.blk HC1.out HN7.out) (by have:=HLT.out;simp;omega))
   have HD2:=hI (hc3.blk (HW2.out.2.blk HC2'.out HN8.out) (by have:=HLT.out;simp;omega))
   have HO3:=hI (owns_chg HSX.out.1 hc3 (fun z hz hm=>by simp only[List.mem_singleton] at hm;have:=(HSX.out.1.lt z hz).1;omega))
   have HPR3:=hI (HSX.out.2.1.mono (mask_chg hc3 (fun z hz=>by simp only[List.mem_singleton] at hz;simp[hz])))
   have HDK3:=hI (HW2.out.1.chg hc3 (by have:=HLT.out;have:=HB6.out;simp;omega) (fun z hz=>by simp only[List.mem_singleton] at hz;have:=HLT.out;have:=HB6.out;have:=HW0.out;omega))
   have HC3:=hI ((HCW.out W HW2.out.2).trans hc3 (fun z hz=>by simp only[List.mem_singleton] at hz;have:=HLT.out;have:=HB6.out;exact Or.inr (by omega)))
   have HQQ:=hI (HQD.out q HSX.out.2.2)
   clear hc3
   go_wp2_with fail
   go_roundw
   case rel=>exact⟨k+1,ps++[q],pvs++[qv],.slice a2 (k+1) c2,by go_num,by omega,by have:=HPL.out;simp[this],idx_snoc HPP.out (by rw[HPL.out];exact HQQ.out),by have:=HO3.out;simpa using this,HPR3.out,HD0.out,HD1.out,HD2.out,HP3.out,HDK3.out,HC3.out⟩
   case measure=>simp[intOf];omega
  have t1:decide ((k:Int) < (na:Int))=false:=decide_eq_false (by omega)
  obtain rfl:k=na:=by omega
  have HIP:=hI (show IsPr (mask wr ((b6+1+1)::M)) (.mk V (-1) ps) ⟨V,-1,ua,k,uc⟩ by
   have hos:wr.ownsRow (b11+1) 40 3 (.slice ua k uc) ps.length (pvs.flatMap PrV.cells):=by rw[HPL.out];exact HOW.out
   obtain⟨a',c',he,hip⟩:=prs_owns (M:=(b6+1+1)::M) hos (fun z hz hm=>by
    have h1:=(HOW.out.lt z hz).1;have h2:=HB6.out;have h3:=HLT.out
    simp only[List.mem_cons] at hm
    rcases hm with hm|hm
    ·omega
    have:=HM.out z hm;omega) (HPRS.out.mono (mask_less _ (fun z hz=>by simp only[List.cons_append,List.mem_cons,List.mem_append] at hz ⊢;rcases hz with h|h<;>simp[h]))) V (-1)
   simp only[Value.slice.injEq] at he
   obtain⟨rfl,h2,rfl⟩:=he
   rw[<-h2] at hip
   exact hip)
  have HZ:=hI (dprove_fin (w:=w) (M:=M) (pv:=⟨V,-1,ua,k,uc⟩) HC2'.out (by have:=HB6.out;omega) HW0.out (by have:=HB6.out;omega) HDK.out HCG.out HIP.out)
  simp only at HZ
  have hz:wr.heap[b6+1+1]?=some (.cells #[.bool false,.int .i64 0,.slice none 0 0] 40 (0,0)):=HC2'.out
  obtain⟨r0,r1,r2,rf⟩:=blk3 hz
  have hltr:=blk_lt hz
  go_wp2_with fail
  obtain⟨wz,hwz⟩:∃ wz,wz=put3 wr (b6+1+1) (.bool V) (.int .i64 (-1)) (.slice ua k uc):=⟨_,rfl⟩
  rw[<-hwz] at HZ
  unfold put3 at hwz
  rw[<-hwz]
  clear hwz
  obtain⟨z0,z1,z2,zf⟩:=blk3 HZ.out.1
  refine bodyPost_ret (v:=PrV.val ⟨V,-1,ua,k,uc⟩) (by simp[results,Tryz.results17,go_sem,PrV.val,z0,z1,z2]) rfl ?_
  have hpp:=HPP.out
  rw[HPE.out] at hpp
  exact⟨_,_,rfl,⟨HQ.out ps (by rw[HPL.out];exact HNA.out.symm) (fun i h1 h2=>(hpp i h2).1 h1),.mk (by have:=HPL.out;have:=HFE.out;have:=HNA.out;omega) (fun x hx=>by obtain⟨i,hi,rfl⟩:=List.getElem_of_mem hx;exact(hpp i hi).2)⟩,HZ.out.2⟩
end Go.Proofs.YtpkljcgihobaiaaGreatDoor
