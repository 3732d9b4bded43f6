/-
  Texts of the claim, joined: Made2, Conv, Upto, Clause, Cla, Ref1, Slim, Ref2.
-/
import Derived.Test.YtefjomofjejklaaGreatDoorDx04
import Derived.Laws.BytesString
namespace Go.Proofs.YtefjomofjejklaaGreatDoor
set_option maxRecDepth 100000
set_option maxHeartbeats 32000000
open Go.RowKit
def tY (attrs:List Attr) (names:ZB):Nat->Ex->Prop
 | 0,_=>False
 | d+1,e=>ahj attrs names e\/((e.op=6/\e.args.length=1\/(e.op=7\/e.op=8)/\2<=e.args.length/\e.args.length<=3)/\e.name=⟨#[]⟩/\e.words=[]/\e.lo=0/\e.hi=0/\∀x∈e.args,tY attrs names d x)
theorem tY.atom {attrs:List Attr} {names:ZB} {d:Nat} {e:Ex} (h:ahj attrs names e) (hd:0<d):tY attrs names d e:=by
 obtain⟨d,rfl⟩:∃k,d=k+1:=⟨d - 1,by omega⟩
 exact Or.inl h
theorem Un.mono {P P':Ex->Prop} {w0:World} {bd:Nat} {M:ZN} {w:World} {e:Ending} {w':World} (h:Un P w0 bd M w e w') (hp:∀x,P x->P' x):Un P' w0 bd M w e w':=by
 obtain⟨x,v,h1,h2,h3⟩:=h;exact⟨x,v,h1,hp x h2,h3⟩
def aQ9 (attrs:List Attr) (names:ZB) (d be bd:Nat) (v:Value) (a:OA) (n c:Nat) (an:OA) (nn cn:Nat) (j:Nat) (xs:List fU) (K:ZN) (wr:World):Nat->Value->World->Prop
 | 0,u,_=>u=.pointer (some ⟨be,5,none⟩)
 | 1,u,_=>u=v
 | 2,u,_=>u=.pointer (some ⟨bd,0,none⟩)
 | 3,u,_=>u=.agg #[.slice a n c]
 | 4,u,_=>u=.slice an nn cn
 | 5,u,_=>u=.int .i64 ((d:Int)+1)
 | 6,u,_=>u=.int .i64 (d:Int)
 | 7,u,W=>∃(e:Ex) (x:fU),u=x.val/\tY attrs names d e/\fC (mask W K) e x.val
 | 8,u,W=>∃(x0:Nat) (e:Ex) (x:fU),u=.slice (some ⟨x0,0,none⟩) 1 1/\W.heap[x0]?=some (.cells x.cells.toArray 45 (0,0))/\tY attrs names d e/\fC (mask W K) e x.val/\W.ownsRow (be+1) 45 6 v j (xs.flatMap fU.cells)
 | 9,u,W=>∃(g cap:Nat) (e:Ex) (x:fU),u=.slice (some ⟨g,0,none⟩) (j+1) cap/\W.ownsRow (be+1) 45 6 (.slice (some ⟨g,0,none⟩) (j+1) cap) (j+1) ((xs++[x]).flatMap fU.cells)/\tY attrs names d e/\fC (mask W (K++[g])) e x.val/\(v.ownBlock=some g\/wr.heap.size<=g)
 | 10,u,_=>u=.pointer (some ⟨be,5,none⟩)
 | _,_,_=>True
def E15 (k:Nat) (W W':World):Prop:=k=7\/k=8\/k=9\/W=W'
def G15 (v:Value) (w0 wr:World) (bd:Nat) (L:ZN) (W:World):Prop:=dO (bd::rowOf v) wr W/\dS w0 W bd/\(9∉L->dO [bd] wr W)
theorem ayz {ops:Array Oper} {attrs:List Attr} {names:ZB} {d be bd:Nat} {v:Value} {a:OA} {n c:Nat} {an:OA} {nn cn j:Nat} {xs:List fU} {K:ZN} {wr:World}
  (hops:(!qI ops 11 [9,10] 7 8&&!qI ops 11 [9,10] 7 9&&!qI ops 11 [9,10] 8 7&&!qI ops 11 [9,10] 8 9&&!qI ops 11 [9,10] 9 7&&!qI ops 11 [9,10] 9 8)=true) :
  ∀i k u W W',i<11->k<11->i≠k->qI ops 11 [9,10] i k=true->aQ9 attrs names d be bd v a n c an nn cn j xs K wr i u W->E15 k W W'->aQ9 attrs names d be bd v a n c an nn cn j xs K wr i u W':=by
 intro i k u W W' hi hk hne ho hR hE;simp only[aJ,Bool.not_eq_true'] at hops;obtain⟨⟨⟨⟨⟨q1,q2⟩,q3⟩,q4⟩,q5⟩,q6⟩:=hops;have hi':=ltc11 hi;have key:∀(h:i=7\/i=8\/i=9),W=W':=by
  intro h;rcases hE with rfl|rfl|rfl|e
  ·rcases h with rfl|rfl|rfl
   ·exact absurd rfl hne
   ·rw[q3] at ho;cases ho
   rw[q5] at ho;cases ho
  ·rcases h with rfl|rfl|rfl
   ·rw[q1] at ho;cases ho
   ·exact absurd rfl hne
   rw[q6] at ho;cases ho
  ·rcases h with rfl|rfl|rfl
   ·rw[q2] at ho;cases ho
   ·rw[q4] at ho;cases ho
   exact absurd rfl hne
  exact e
 rcases hi' with rfl|rfl|rfl|rfl|rfl|rfl|rfl|rfl|rfl|rfl|rfl
 case inr.inr.inr.inr.inr.inr.inr.inl=>rw[<-key (by simp)];exact hR
 case inr.inr.inr.inr.inr.inr.inr.inr.inl=>rw[<-key (by simp)];exact hR
 case inr.inr.inr.inr.inr.inr.inr.inr.inr.inl=>rw[<-key (by simp)];exact hR
 all_goals exact hR
def aZb (attrs:List Attr) (names:ZB) (d:Nat) (op k0:Int) (be bd:Nat) (K0:ZN) (w0 wa:World) (k:Value) (wr:World):Prop:=∃(l:List Ex) (xs:List fU) (v:Value),(l.length:Int)<=k0/\k=.int .i64 (k0 - l.length)/\(∀e∈l,tY attrs names d e) /\
 wr.heap[be]?=some (.cells #[.int .i64 op,.string ⟨#[]⟩,.slice none 0 0,.int .i64 0,.int .i64 0,v] 45 (0,0))/\wr.ownsRow (be+1) 45 6 v l.length (xs.flatMap fU.cells)/\yV (mask wr (K0++rowOf v)) l xs/\dO [bd] wa wr/\dS w0 wr bd
def Oi (g:Nat):fU:=⟨6,⟨#[]⟩,none,0,0,0,0,some ⟨g,0,none⟩,1,1⟩
theorem aLO {attrs:List Attr} {names:ZB} {d:Nat} {w0 w W:World} {bd B:Nat} {M:ZN} {v:fU} {x:Ex} (hc:dO [bd] w W) (hd:dS w0 W bd) (hB:w.heap.size<=B) (hBW:B<W.heap.size) (hbd:bd<w.heap.size) (hm:tY attrs names d x) (hx:fC (mask W (B::M)) x v.val) (hM:∀y∈M,y<W.heap.size) :
  Un (tY attrs names (d+1)) w0 bd M w (.returned (Oi W.heap.size).val) ((FC W B (Oi W.heap.size)).alloc (.cells v.cells.toArray 45)):=by
 have h0:w0.heap.size<=bd:=by obtain⟨_,_,_,_,_,_,_,_,_,h⟩:=hd;exact h
 have hp:=rE W B (Oi W.heap.size) (N:=B::M) (by simp);have hp1:=rE W B (Oi W.heap.size) (N:=[B]) (by simp);have hs:=agq W B (Oi W.heap.size);generalize FC W B (Oi W.heap.size)=W6 at *;refine⟨.mk 6 ⟨#[]⟩ [] 0 0 [x],Oi W.heap.size,rfl,?_,?_,?_,?_⟩
 ·exact Or.inr ⟨Or.inl ⟨rfl,rfl⟩,rfl,rfl,rfl,rfl,fun y hy=>by simp only[Ex.args,aK] at hy;subst hy;exact hm⟩
 ·refine ae6 (t:=45) (x:=v) (alloc_at hs.symm) (fun h=>by have:=hM _ h;omega) ?_;exact hx.mono ((hp.alloc _).sub.trans (eG _ (fun y hy=>bH _ hy)))
 ·exact hd.fH (hp1.alloc _) (by simp;omega) (by simp;omega)
 exact hc.trans (hp1.alloc _) (by intro y hy;simp at hy;subst hy;exact Or.inr hB)
theorem BD (attrs:List Attr) (names:ZB) (hok:∀a∈attrs,Yj a) (hne:attrs≠[]) (hl:attrs.length<=1000) (hnl:names.length<=1000):∀(d:Nat),d<=100->∀{w0 w:World} {bd:Nat} (_:dS w0 w bd) (a:OA) (n c:Nat) (an:OA) (nn cn:Nat) (M:ZN) (_:fJ (mask w [bd]) attrs (.agg #[.slice a n c])) (_:ji (mask w [bd]) names an nn cn) (_:∀y∈M,y<w.heap.size),
  Calls Tryz.prog 40 #[.pointer (some ⟨bd,0,none⟩),.agg #[.slice a n c],.slice an nn cn,.int .i64 ((d:Int)+1)] w (Un (tY attrs names (d+1)) w0 bd M w):=by
 intro d;induction d using Nat.strongRecOn with
 | _ d ih =>
  intro a5n w0 w bd hd a n c an nn cn M hs hn hM;have IH:=ak ih;have HS:=ak hs;have HN:=ak hn;have HM:=ak hM;have Ej:=ak hok;have hbd:bd<w.heap.size:=by obtain⟨_,_,_,_,hb,_⟩:=hd;exact dH hb
  have hbd0:w0.heap.size<=bd:=by obtain⟨_,_,_,_,_,_,_,_,_,h⟩:=hd;exact h
  have HDW:=ak (hd.ext (((Ext.refl w).alloc (.cells #[.slice a n c] 24)).alloc (.cells lT.cells.toArray 45)));have HB1:=ak (dJ (o':=.cells lT.cells.toArray 45) (dG w (.cells #[.slice a n c] 24)));have HB2:=ak (alloc_at (w:=w.alloc (.cells #[.slice a n c] 24)) (o:=.cells lT.cells.toArray 45) (n:=w.heap.size+1) (by simp));have HE2:=ak (fun (W:World) (h:dO [bd] ((w.alloc (.cells #[.slice a n c] 24)).alloc (.cells lT.cells.toArray 45)) W)=>(((dO.refl [bd] w).alloc (.cells #[.slice a n c] 24)).alloc (.cells lT.cells.toArray 45)).then h);clear ih hs hn hM hd hok;go_enter Tryz.func40,Tryz.ntmps40
  go_wp2_with fail
  refine(fF HDW.o _ (by omega) (by omega)).mono ?_;rintro r w1 ⟨r1,rfl,hr0,hr1,hd1,hc1⟩;have HD1:=ak hd1;have qw:=ak (HE2.o _ hc1);have uh:=ak (hc1.blk HB1.o (by simp;omega));have SV:=ak (hc1.blk HB2.o (by simp;omega));clear hd1 hc1 HDW HB1 HB2 HE2;have hz1:=qw.o.size;have hzb:=dH SV.o;have cs0:=dM uh.o 0;simp at cs0;by_cases aOe:d=0\/r1<4
  ·rcases aOe with hd0|hr4
   case' inl =>
    have t1:decide ((d:Int)+1<2)=true:=by simp;omega
    go_wp2_with fail
   case' inr =>
    cases t1:decide ((d:Int)+1<2)
    all_goals
     have t2:decide (r1<4)=true:=by simpa using hr4
     go_wp2_with fail
   all_goals
    refine(fF HD1.o _ (by omega) (by omega)).mono ?_;rintro r w2 ⟨r2,rfl,hs0,hs1,hd2,hc2⟩;have HD2:=ak hd2;have HC2:=ak (qw.o.then hc2);have G9:=ak (hc2.blk uh.o (by simp;omega));have abk:=ak (hc2.blk SV.o (by simp;omega));clear hd2 hc2 cs0;have cs0:=dM G9.o 0;simp at cs0;have hz2:=dH abk.o;have hb2:=abk.o;unfold lT fU.cells at hb2;obtain⟨b0,b1,b2,b3,b4,b5,bf⟩:=eP hb2;clear hb2;by_cases h10:r2=10
    ·subst h10;go_wp2_with fail
     refine bodyPost_ret (v:=(fU.mk 1 ⟨#[]⟩ none 0 0 0 0 none 0 0).val) (by simp[results,Tryz.results40,go_sem,fU.val,exV,b0,b1,b2,b3,b4,b5]) rfl ?_;exact CZ (e:=.mk 1 ⟨#[]⟩ [] 0 0 []) (x:=⟨1,⟨#[]⟩,none,0,0,0,0,none,0,0⟩) HC2.o HD2.o (by omega) hbd (tY.atom ⟨rfl,Or.inl ⟨rfl,rfl,rfl,rfl,rfl⟩⟩ (by omega)) (iJ _ 1 0 0 ⟨#[]⟩)
    have e10:(r2==10)=false:=by simpa using h10
    by_cases h11:r2=11
    ·subst h11;go_wp2_with fail
     refine bodyPost_ret (v:=(fU.mk 2 ⟨#[]⟩ none 0 0 0 0 none 0 0).val) (by simp[results,Tryz.results40,go_sem,fU.val,exV,b0,b1,b2,b3,b4,b5]) rfl ?_;exact CZ (e:=.mk 2 ⟨#[]⟩ [] 0 0 []) (x:=⟨2,⟨#[]⟩,none,0,0,0,0,none,0,0⟩) HC2.o HD2.o (by omega) hbd (tY.atom ⟨rfl,Or.inr (Or.inl ⟨rfl,rfl,rfl,rfl,rfl⟩)⟩ (by omega)) (iJ _ 2 0 0 ⟨#[]⟩)
    have e11:(r2==11)=false:=by simpa using h11
    go_wp2_with fail
    refine(aAd HD2.o attrs names a n c an nn cn ((w.heap.size+1)::M) (HS.o.mono HC2.o.sub) (HN.o.mono HC2.o.sub) Ej.o hne hl hnl (fun q hq=>by
     rcases bK.1 hq with rfl|hq
     ·exact hz2
     have:=HM.o q hq;have:=HC2.o.size;omega)).mono ?_
    rintro r w3 ⟨x,v,rfl,hat,hix,hd3,hc3⟩;have HAT:=ak hat;have yD:=ak hix;have HD3:=ak hd3;have tH:=ak (HC2.o.then hc3);have hb3:=hc3.blk abk.o (by simp;omega);clear hat hix hd3 hc3 b0 b1 b2 b3 b4 b5 bf cs0;have hz3:=dH hb3;unfold lT fU.cells at hb3;obtain⟨b0,b1,b2,b3,b4,b5,bf⟩:=eP hb3;clear hb3;unfold fU.val exV;go_wp2_with fail
    refine bodyPost_ret (v:=v.val) (by simp[results,Tryz.results40,go_sem,fU.val,exV,b0,b1,b2,b3,b4,b5]) rfl ?_;exact CZ (e:=x) (x:=v) tH.o HD3.o (by omega) hbd (tY.atom HAT.o (by omega)) yD.o
  obtain⟨d',rfl⟩:∃d',d=d'+1:=⟨d - 1,by omega⟩
  have t1:decide (((d'+1:Nat):Int)+1<2)=false:=by simp;omega
  have t2:decide (r1<4)=false:=by simp;omega
  have hr4:4<=r1:=by omega
  clear aOe;by_cases h6:r1<6
  ·have t3:decide (r1<6)=true:=by simpa using h6
   go_wp2_with fail
   refine(IH.o d' (by omega) (by omega) HD1.o a n c an nn cn ((w.heap.size+1)::M) (HS.o.mono qw.o.sub) (HN.o.mono qw.o.sub) (fun q hq=>by
    rcases bK.1 hq with rfl|hq
    ·exact hzb
    have:=HM.o q hq;omega)).mono ?_
   rintro r w2 ⟨x,v,rfl,hmx,hix,hd2,hc2⟩;have HMX:=ak hmx;have yD:=ak hix;have HD2:=ak hd2;have HC2:=ak (qw.o.then hc2);have abk:=ak (hc2.blk SV.o (by simp;omega));have hz2:=dH abk.o;have hb2:=abk.o;unfold lT fU.cells at hb2;clear hmx hix hd2 hc2 cs0;obtain⟨b0,b1,b2,b3,b4,b5,bf⟩:=eP hb2;clear hb2;have aci:=ak (aLO HC2.o HD2.o (show w.heap.size<=w.heap.size+1 by omega) hz2 hbd HMX.o yD.o (fun q hq=>by have:=HM.o q hq;have:=HC2.o.size;omega));unfold fU.val exV;go_wp2_with fail
   refine bodyPost_ret (v:=(Oi w2.heap.size).val) (by simp[results,Tryz.results40,go_sem,Oi,fU.val,exV,b0,b1,b2,b3,b4,b5,hz2]) rfl ?_;exact aci.o
  have t3:decide (r1<6)=false:=by simpa using h6
  have GL:=ak (dG w1 (.cells #[.int .i64 (r1+1),.string ⟨#[]⟩,.slice none 0 0,.int .i64 0,.int .i64 0,.slice none 0 0] 45));have HEB:=ak (fun (W:World) (h:dO [bd] (w1.alloc (.cells #[.int .i64 (r1+1),.string ⟨#[]⟩,.slice none 0 0,.int .i64 0,.int .i64 0,.slice none 0 0] 45)) W)=>((dO.refl [bd] w1).alloc (.cells #[.int .i64 (r1+1),.string ⟨#[]⟩,.slice none 0 0,.int .i64 0,.int .i64 0,.slice none 0 0] 45)).then h);go_wp2_with fail
  refine(lX (HD1.o.ext ((Ext.refl w1).alloc _)) _ _ (by omega) (by omega) (by omega)).mono ?_;rintro r w2 ⟨k0,rfl,hk0,hk1,hd2,hc2⟩;have HD2:=ak hd2;have HC2:=ak (HEB.o _ hc2);have gI:=ak (hc2.blk GL.o (by simp;omega));clear hd2 hc2 GL HEB cs0;go_wp2_with fail
  go_loopw [11] (aZb attrs names (d'+1) (r1+1) k0 w1.heap.size bd ((w.heap.size+1)::w1.heap.size::bd::M) w0 w1) (fun k _=>(intOf k).toNat)
  case atStart=>exact⟨[],[],.slice none 0 0,by simp;omega,by simp,by simp,gI.o,World.ownsRow_nil _ _ _ _,yV.nil _,HC2.o,HD2.o⟩
  case round =>
   obtain⟨l,xs,v,hlk,rfl,hml,hbe,hown,hex,hcr,hdr⟩:=hrel;clear HD2 HC2 gI;have HML:=ak hml;have lV:=ak hbe;have HOW:=ak hown;have HEX:=ak hex;have Fe:=ak hcr;have HDR:=ak hdr;have hrow:∀q∈rowOf v,w1.heap.size+1<=q:=fun q hq=>(hown.lt q (dK.1 hq)).1
   have aHq:∀q∈rowOf v,q<wr.heap.size:=fun q hq=>(hown.lt q (dK.1 hq)).2
   have Ei:=ak hrow;have aWV:=ak aHq;have hbel:=dH hbe;have hzr:=hcr.size;obtain⟨e0,e1,e2,e3,e4,e5,ef⟩:=eP hbe;have cs0:=dM (hcr.blk uh.o (by simp;omega)) 0;simp at cs0;clear hml hbe hown hex hcr hdr hrow aHq;by_cases hlt:(l.length:Int)<k0
   ·have t4:decide (0<k0 - (l.length:Int))=true:=by simp;omega
    have hl3:l.length<=3:=by omega
    go_wp2_with fail
    refine og (m:=11) [9,10] (G15 v w0 wr bd) E15 (aQ9 attrs names (d'+1) w1.heap.size bd v a n c an nn cn l.length xs (((w.heap.size+1)::w1.heap.size::bd::M)++rowOf v) wr) (by kernel_rfl) (by kernel_rfl) ⟨(dO.refl _ _).drew,HDR.o.ext ((Ext.refl wr).drew),fun _=>(dO.refl _ _).drew⟩ (ayz (by kernel_rfl)) ?_ ?_
    ·intro i o hi ho L vs W hiL hnc hG hd ρ hρ;have hi':=ltc11 hi;clear hi;have o10:ρ (.tmp 10)=.pointer (some ⟨w1.heap.size,0,none⟩):=hρ.out 10 rfl;have i0:=hρ.i 0 53;have o0:ρ (.tmp 0)=.pointer (some ⟨bd,0,none⟩):=hρ.out 0 rfl;have o5:ρ (.tmp 5)=.pointer (some ⟨w.heap.size,0,none⟩):=hρ.out 5 rfl;have o2:ρ (.tmp 2)=.slice an nn cn:=hρ.out 2 rfl;have o3:ρ (.tmp 3)=.int .i64 ((d':Int)+1+1):=hρ.out 3 rfl;have i5:=hρ.i 5 58;have i2:=hρ.i 2 55;have i3:=hρ.i 3 56;have i4:=hρ.i 4 57;have i6:=hρ.i 6 59;have i7:=hρ.i 7 60;have i1:=hρ.i 1 54;have i8:=hρ.i 8 61;have AA:=hρ.i 10 63;have i9:=hρ.i 9 62;have hcs:=hρ.const;have hfn:=hρ.func;clear hρ;have PO:=ak (show ∀i,i≠9->G15 v w0 wr bd (L++[i]) W from fun i hi=>⟨hG.1,hG.2.1,fun h=>hG.2.2 (fun h'=>h (aQ _ h'))⟩);have HG:=ak hG;have cE:=hG.1.cell e5 (fun h=>by
      rcases bK.1 h with h|h
      ·have h2:w1.heap.size=bd:=h;omega
      have h2:w1.heap.size+1<=w1.heap.size:=Ei.o _ h;omega)
     have cS:=hG.1.cell cs0 (fun h=>by
      rcases bK.1 h with h|h
      ·have h2:w.heap.size=bd:=h;omega
      have h2:w1.heap.size+1<=w.heap.size:=Ei.o _ h;omega)
     have hws:=hG.1.size;clear hG e0 e1 e2 e3 e4 e5 ef cs0;rcases hi' with rfl|rfl|rfl|rfl|rfl|rfl|rfl|rfl|rfl|rfl|rfl
     ·cases ho
      unfold dF;go_simp;exact⟨Or.inr (Or.inr (Or.inr rfl)),PO.o _ (by simp),rfl⟩
     ·cases ho
      have h0:vs 0=_:=hd ⟨0,.data⟩ (by simp) rfl;rw[h0] at i0;unfold dF;go_simp;exact⟨Or.inr (Or.inr (Or.inr rfl)),PO.o _ (by simp),rfl⟩
     ·cases ho
      unfold dF;go_simp;exact⟨Or.inr (Or.inr (Or.inr rfl)),PO.o _ (by simp),rfl⟩
     ·cases ho
      unfold dF;go_simp;exact⟨Or.inr (Or.inr (Or.inr rfl)),PO.o _ (by simp),rfl⟩
     ·cases ho
      unfold dF;go_simp;exact⟨Or.inr (Or.inr (Or.inr rfl)),PO.o _ (by simp),rfl⟩
     ·cases ho
      unfold dF;go_simp;exact⟨Or.inr (Or.inr (Or.inr rfl)),PO.o _ (by simp),rfl⟩
     ·cases ho
      have h5:vs 5=_:=hd ⟨5,.data⟩ (by simp) rfl;rw[h5] at i5;have ew:IntKind.i64.wrap ((d':Int)+1)=(d':Int)+1:=IntWalk.i64_in _ (by omega);unfold dF;go_simp;exact⟨Or.inr (Or.inr (Or.inr rfl)),PO.o _ (by simp),rfl⟩
     ·cases ho
      have h2:vs 2=_:=hd ⟨2,.data⟩ (by simp) rfl;have h3:vs 3=_:=hd ⟨3,.data⟩ (by simp) rfl;have h4:vs 4=_:=hd ⟨4,.data⟩ (by simp) rfl;have h6':vs 6=_:=hd ⟨6,.data⟩ (by simp) rfl;rw[h2] at i2;rw[h3] at i3;rw[h4] at i4;rw[h6'] at i6;unfold dF;go_simp;have hno:9∉L:=fun h=>by have:=hnc 9 h;revert this;decide +kernel
      have hCW:=HG.o.2.2 hno;have hCw:=qw.o.then (Fe.o.then hCW)
      refine(IH.o d' (by omega) (by omega) HG.o.2.1 a n c an nn cn (((w.heap.size+1)::w1.heap.size::bd::M)++rowOf v) (HS.o.mono hCw.sub) (HN.o.mono hCw.sub) (fun q hq=>by
       have hz:=hCw.size;rcases aT.1 hq with hq|hq
       ·simp only[bK] at hq;rcases hq with rfl|rfl|rfl|hq
        ·omega
        ·omega
        ·omega
        have:=HM.o q hq;omega
       have:=aWV.o q hq;omega)).mono ?_
      rintro e W' ⟨x,xv,rfl,hmx,hix,hd',hc'⟩;refine⟨_,rfl,Or.inl rfl,⟨HG.o.1.trans hc' (fun q hq=>Or.inl (by simp at hq;subst hq;simp)),hd',fun _=>hCW.then hc'⟩,x,xv,rfl,hmx,?_⟩;simpa using hix
     ·cases ho
      obtain⟨x,xv,h7,hmx,hix⟩:=hd ⟨7,.data⟩ (by simp) rfl;rw[h7] at i7;unfold fU.val exV at i7;have hno:9∉L:=fun h=>by have:=hnc 9 h;revert this;decide +kernel
      have Ed:=ak (HG.o.2.2 hno);have HMX:=ak hmx;have yD:=ak hix;clear hmx hix;unfold dF;go_simp;refine⟨Or.inr (Or.inl rfl),⟨HG.o.1.alloc _,HG.o.2.1.ext ((Ext.refl W).alloc _),fun _=>Ed.o.alloc _⟩,W.heap.size,x,xv,rfl,dG W _,HMX.o,yD.o.mono (iy _ ((Ext.refl W).alloc _)),?_⟩;exact jF (eF HOW.o Ed.o (fun q hq h=>by have h2:q=bd:=aK.1 h;have:=(HOW.o.lt q hq).1;omega)) ((Ext.refl W).alloc _)
     ·cases ho
      have h1:vs 1=_:=hd ⟨1,.data⟩ (by simp) rfl;obtain⟨x0,x,xv,h8,hx0,hmx,hix,hxo⟩:=hd ⟨8,.data⟩ (by simp) rfl;rw[h1] at i1;rw[h8] at i8;have hnew:∀q (hq:q<xv.cells.length),W.cell? ⟨x0,q,none⟩=some xv.cells[q]:=by
       intro q hq;rw[dM hx0];simp[hq]
      refine mF JH _ _ (w1.heap.size+1) _ l.length _ i1 x0 1 1 xv.cells i8 rfl (by simp[fU.cells,Value.oneCell']) (by omega) (by omega) (by omega) hxo hnew (by omega) ?_;intro g cap w' ho' hg' hl' _;have hgc:dO (rowOf v) W w':=iM hg';refine⟨Or.inr (Or.inr (Or.inl rfl)),⟨HG.o.1.trans hgc (fun q hq=>Or.inl (bH _ hq)),HG.o.2.1.fH hgc (fun h=>by have:=Ei.o _ h;omega) (fun q hq=>by have:=Ei.o q hq;omega),fun h=>absurd (by simp) h⟩,g,cap,x,xv,rfl,by rw[List.flatMap_append];simpa using ho',hmx,hix.mono (dX fun q hq hn=>⟨fun h=>by
       rcases aT.1 h with h|h
       ·exact hn h
       have h2:q=g:=aK.1 h;rcases hl' with h3|h3
       ·exact hn (aS _ (dK.2 (h2 ▸ h3)))
       omega,hgc.block q hq (fun h=>hn (aS _ h))⟩),?_⟩
      rcases hl' with h|h
      ·exact Or.inl h
      exact Or.inr (by omega)
     cases ho
     unfold dF;go_simp;exact⟨Or.inr (Or.inr (Or.inr rfl)),PO.o _ (by simp),rfl⟩
    intro L vs W _ hG hR;rw[dh (by decide +kernel)];obtain⟨g,cap,x,xv,h9,hown2,hmx,hix,hgl⟩:=hR 9 (by simp) (by omega);have h10:vs 10=_:=hR 10 (by simp) (by omega);have hC:=hG.1;have hbx2:=hC.blk lV.o (fun h=>by
     rcases bK.1 h with h|h
     ·have h2:w1.heap.size=bd:=h;omega
     have h2:w1.heap.size+1<=w1.heap.size:=Ei.o _ h;omega)
    have aQt:=dH hbx2;have NJ:=ak hbx2;have an0:=ak hown2;have HC:=ak hC;have HDK:=ak hG.2.1;have HMX:=ak hmx;have yD:=ak hix;have HGL:=ak hgl;clear e0 e1 e2 e3 e4 e5 ef cs0;obtain⟨e0,e1,e2,e3,e4,e5,ef⟩:=eP hbx2;clear hG hR hC hbx2 hown2 hmx hix hgl;unfold wpOp;simp only[acts,gK,List.range,List.range.loop,bF,dA,h9,h10];clear h9 h10;go_simp;refine Or.inl ?_;go_wp2_with fail
    go_roundw
    case rel =>
     have hset:=(dO.refl [w1.heap.size] W).setCell (p:=⟨w1.heap.size,5,none⟩) (Or.inl (by simp)) (.slice (some ⟨g,0,none⟩) (l.length+1) cap);have hg1:=(an0.o.lt g rfl).1;have hg2:=(an0.o.lt g rfl).2;refine⟨l++[x],xs++[xv],.slice (some ⟨g,0,none⟩) (l.length+1) cap,by simp;omega,(by simp;omega),?_,?_,?_,?_,?_,?_⟩
     ·intro e he;rcases aT.1 he with he|he
      ·exact HML.o e he
      simp at he;subst he;exact HMX.o
     ·rw[aO _ _ _ _ _ _ NJ.o];rfl
     ·rw[bI,List.length_singleton];exact eF an0.o hset (fun q hq h=>by cases hq;have h2:g=w1.heap.size:=aK.1 h;omega)
     ·have hrg:rowOf (.slice (some ⟨g,0,none⟩) (l.length+1) cap)=[g]:=rfl;rw[hrg];refine yV.snoc (HEX.o.mono (dX fun q hq hn=>⟨fun h=>?_,?_⟩)) (yD.o.mono (dX fun q hq hn=>⟨fun h=>?_,?_⟩))
      ·rcases aT.1 h with h|h
       ·exact hn (aQ _ h)
       have h2:q=g:=aK.1 h;rcases HGL.o with h3|h3
       ·exact hn (aS _ (dK.2 (h2 ▸ h3)))
       omega
      ·rw[hset.block q (by have:=HC.o.size;omega) (fun h=>hn (by have h2:q=w1.heap.size:=aK.1 h;simp[h2]))];exact HC.o.block q hq (fun h=>hn (by
        rcases bK.1 h with h|h
        ·simp[h]
        exact aS _ h))
      ·rcases aT.1 h with h|h
       ·exact hn (aQ _ (aQ _ h))
       exact hn (aS _ h)
      exact hset.block q hq (fun h=>hn (by have h2:q=w1.heap.size:=aK.1 h;simp[h2]))
     ·refine(Fe.o.trans HC.o (fun q hq=>?_)).trans hset (fun q hq=>by have h2:q=w1.heap.size:=aK.1 hq;exact Or.inr (by omega));rcases bK.1 hq with rfl|hq
      ·exact Or.inl (by simp)
      exact Or.inr (by have:=Ei.o q hq;omega)
     exact HDK.o.fH hset (by rw[aK];omega) (fun q hq=>by have h2:q=w1.heap.size:=aK.1 hq;omega)
    case measure=>simp[intOf];omega
   have hll:(l.length:Int)=k0:=by omega
   have t4:decide (0<k0 - (l.length:Int))=false:=by simp;omega
   have hrb:=(Fe.o.blk SV.o (by simp;omega))
   have aUq:=dH hrb;unfold lT fU.cells at hrb;obtain⟨b0,b1,b2,b3,b4,b5,bf⟩:=eP hrb;obtain⟨sa,sc,hv,hq1,hq2,hq3⟩:=Rk (M:=(w.heap.size+1)::M) HOW.o (fun q hq h=>by
    have h1:=(HOW.o.lt q hq).1;rcases bK.1 h with h|h
    ·omega
    have:=HM.o q h;omega) (HEX.o.mono (eG _ (fun q hq=>aQ _ (by
    rcases bK.1 hq with h|h
    ·simp[h]
    simp[h]))))
   subst hv;have HFX:=ak (show fC (mask wr ((w.heap.size+1)::M)) (.mk (r1+1) ⟨#[]⟩ [] 0 0 l) (exV (r1+1) ⟨#[]⟩ none 0 0 0 0 sa l.length sc) from fC.mk ⟨rfl,by omega,Or.inl ⟨rfl,rfl⟩,fun i hi=>by simp at hi⟩ rfl hq1 hq2 hq3);have HFM:=ak (show tY attrs names (d'+1+1) (.mk (r1+1) ⟨#[]⟩ [] 0 0 l) from Or.inr ⟨Or.inr ⟨by simp only[Ex.op];omega,by simp only[Ex.args];omega,by simp only[Ex.args];omega⟩,rfl,rfl,rfl,rfl,HML.o⟩);clear hrb hq1 hq2 hq3 hll cs0;go_wp2_with fail
   refine bodyPost_ret (v:=(fU.mk (r1+1) ⟨#[]⟩ none 0 0 0 0 sa l.length sc).val) (by simp[results,Tryz.results40,go_sem,fU.val,exV,b0,b1,b2,b3,b4,b5]) rfl ?_;exact CZ (e:=.mk (r1+1) ⟨#[]⟩ [] 0 0 l) (x:=⟨r1+1,⟨#[]⟩,none,0,0,0,0,sa,l.length,sc⟩) (qw.o.then Fe.o) HDR.o (by omega) hbd HFM.o HFX.o
theorem uBy:Tryz.prog.underlying 5=some (.int .u8):=by kernel_rfl
theorem uBs:Tryz.prog.underlying 153=some (.slice 5):=by kernel_rfl
theorem uSt:Tryz.prog.underlying 9=some .string:=by kernel_rfl
theorem Qp {w0 w:World} {bd:Nat} (h:dS w0 w bd) (most:Int) (h0:0<=most) (h1:most<=10000000000000) :
  Calls Tryz.prog 43 #[.pointer (some ⟨bd,0,none⟩),.int .i64 most] w (ap' 0 (most+1) w0 bd w):=by
 go_enter Tryz.func43,Tryz.ntmps43
 go_wp2_with fail
 refine(fF h 6 (by omega) (by omega)).mono ?_;rintro e w1 ⟨r,rfl,hr0,hr1,hd,hc⟩;have HC:=ak hc;have h4:∀(k:Int),0<k->k<=10000000000001->Calls Tryz.prog 37 #[.pointer (some ⟨bd,0,none⟩),.int .i64 k] w1 (ap' 0 k w0 bd w1):=fun k hk hk2=>fF hd k hk (by omega)
 have H4:=ak h4;clear hc hd h4;have hr:r=0\/r=1\/r=2\/r=3\/r=4\/r=5:=by omega
 clear hr0 hr1;rcases hr with rfl|rfl|rfl|rfl|rfl|rfl
 all_goals
  go_wp2_with fail
  all_goals
   refine(H4.o _ (by omega) (by omega)).mono ?_;rintro e w2 ⟨q,rfl,hq0,hq1,hd2,hc2⟩;have HC2:=ak (HC.o.then hc2);have HD2:=ak hd2;clear hc2 hd2 H4 HC;go_wp2_with fail
   all_goals
    go_ret;exact⟨_,rfl,by omega,by omega,HD2.o,HC2.o⟩
def aWo (w:World) (e:Ending) (w':World):Prop:=∃b:Bool,e=.returned (.bool b)/\Ext w w'
theorem azj {w0 w:World} {bd:Nat} (h:dS w0 w bd):Calls Tryz.prog 67 #[.pointer (some ⟨bd,0,none⟩)] w (aWo w):=by
 obtain⟨la,ln,lc,k,hb,hk,hln,hL,hx,hbd⟩:=h;obtain⟨c0,c1,cf⟩:=zT hb;clear hL hx hb;go_enter Tryz.func67,Tryz.ntmps67
 go_wp2_with fail
 go_quiet (fail)
 go_wp2_with fail
 go_ret;exact⟨_,rfl,(Ext.refl w).drewN _⟩
theorem aIy (w:World) (x:Nat) (hx:x=w.heap.size) (c d:Int) (t:TypeId):Sem.run Tryz.prog (convert 153 9 (.slice (some ⟨x,0,none⟩) 2 2)) (w.alloc (.cells #[.int .u8 c,.int .u8 d] t))=.ok (.string ⟨#[UInt8.ofNat c.toNat,UInt8.ofNat d.toNat]⟩) (w.alloc (.cells #[.int .u8 c,.int .u8 d] t)):=by
 subst hx;rw[run_convert_bytes_string _ _ _ 5 _ _ _ uBs uBy uSt];have:=run_bytesToString (P:=Tryz.prog) (w.alloc (.cells #[.int .u8 c,.int .u8 d] t)) ⟨w.heap.size,0,none⟩ 2 2 [c,d] (by
  refine run_loadCells_list (P:=Tryz.prog) _ _ [.int .u8 c,.int .u8 d] (fun j v hj=>?_);have:(⟨w.heap.size,0,none⟩:Addr).add j=⟨w.heap.size,j,none⟩:=by unfold Addr.add;split<;>simp_all
  rw[this,World.cell?_alloc_at _ _ _ _ rfl];simpa using hj)
 rw[this]
 rfl
def Dc (p:BA) (k:Nat):BA:=p++⟨#[97+UInt8.ofNat (k / 26 % 26),97+UInt8.ofNat (k % 26)]⟩
theorem acQ (p:BA) (k:Nat):(Dc p k).size=p.size+2:=by unfold Dc;rw[ByteArray.size_append];rfl
def aJh (p:BA) (k:Nat) (w:World) (e:Ending) (w':World):Prop:=e=.returned (.string (Dc p k))/\Ext w w'
theorem acP (p:BA) (k:Nat) (hk:k<=1000) (hp:p.size<=1000) (w:World):Calls Tryz.prog 66 #[.string p,.int .i64 k] w (aJh p k w):=by
 have kc:=aIy;go_enter Tryz.func66,Tryz.ntmps66
 go_wp2_with fail
 go_ret;exact⟨rfl,(Ext.refl w).alloc _⟩
structure jm where
 kind:Int
 name:BA
 x:fU
 au:OA
 nu:Nat
 cu:Nat
 amount:Int
abbrev aF (v:jm):Array Value:=#[.int .i64 v.kind, .string v.name, .int .i64 v.x.op, .string v.x.name, .slice v.x.aw v.x.nw v.x.cw, .int .i64 v.x.lo, .int .i64 v.x.hi, .slice v.x.aa v.x.na v.x.ca, .slice v.au v.nu v.cu, .int .i64 v.amount]
abbrev aG (k:Int) (n:ByteArray) (x:fU) (a:Option Addr) (b c:Nat) (m:Int):Array Value:=#[.int .i64 k, .string n, .int .i64 x.op, .string x.name, .slice x.aw x.nw x.cw, .int .i64 x.lo, .int .i64 x.hi, .slice x.aa x.na x.ca, .slice a b c, .int .i64 m]
def jm.cells (c:jm):List Value:=[.int .i64 c.kind,.string c.name,.int .i64 c.x.op,.string c.x.name,.slice c.x.aw c.x.nw c.x.cw,.int .i64 c.x.lo,.int .i64 c.x.hi,.slice c.x.aa c.x.na c.x.ca,.slice c.au c.nu c.cu,.int .i64 c.amount]
theorem jm.len (c:jm):c.cells.length=10:=rfl
structure Cl where
 kind:Int
 name:BA
 cond:Ex
def NG (w:World) (l:List Cl) (a:OA) (n c:Nat):Prop :=
 ∃vs:List jm,iF w 10 jm.cells vs a n c/\l.length=vs.length/\∀i (h1:i<l.length) (h2:i<vs.length),vs[i].kind=l[i].kind/\vs[i].name=l[i].name/\fC w l[i].cond vs[i].x.val
theorem NG.mono {w w':World} {l:List Cl} {a:OA} {n c:Nat} (h:NG w l a n c) (hs:Sub w w'):NG w' l a n c:=by
 obtain⟨vs,h1,h2,h3⟩:=h;exact⟨vs,h1.mono hs,h2,fun i hi hv=>⟨(h3 i hi hv).1,(h3 i hi hv).2.1,(h3 i hi hv).2.2.mono hs⟩⟩
theorem NG.ext {w w':World} {l:List Cl} {a:OA} {n c:Nat} (h:NG w l a n c) (he:Ext w w'):NG w' l a n c:=h.mono he.sub
theorem NG.len {w:World} {l:List Cl} {a:OA} {n c:Nat} (h:NG w l a n c):n=l.length:=by
 obtain⟨vs,h1,h2,_⟩:=h;rw[h2];exact h1.1
theorem NG.at {w:World} {l:List Cl} {a:OA} {n c:Nat} (h:NG w l a n c) {k:Nat} (hk:k<l.length):∃(b off:Nat) (v:jm),a=some ⟨b,off,none⟩/\v.kind=l[k].kind/\v.name=l[k].name/\fC w l[k].cond v.x.val/\∀j (hj:j<v.cells.length),w.cell? ⟨b,off+k*10+j,none⟩=some v.cells[j]:=by
 obtain⟨vs,h1,h2,h3⟩:=h;have hk':k<vs.length:=by omega
 obtain⟨b,off,e,hc⟩:=h1.2.2.2 k hk';obtain⟨q1,q2,q3⟩:=h3 k hk hk';exact⟨b,off,vs[k],e,q1,q2,q3,hc⟩
theorem NG.aQX {w:World} {l:List Cl} {a:OA} {n c:Nat} (h:NG w l a n c) {k:Nat} (hk:k<l.length):∃(b off:Nat) (v:jm),a=some ⟨b,off,none⟩/\v.kind=l[k].kind/\v.name=l[k].name/\fC w l[k].cond v.x.val /\
  w.cell? ⟨b,off+k*10,none⟩=some (.int .i64 v.kind)/\w.cell? ⟨b,off+k*10+1,none⟩=some (.string v.name)/\w.cell? ⟨b,off+k*10+2,none⟩=some (.int .i64 v.x.op)/\w.cell? ⟨b,off+k*10+3,none⟩=some (.string v.x.name) /\
  w.cell? ⟨b,off+k*10+4,none⟩=some (.slice v.x.aw v.x.nw v.x.cw)/\w.cell? ⟨b,off+k*10+5,none⟩=some (.int .i64 v.x.lo)/\w.cell? ⟨b,off+k*10+6,none⟩=some (.int .i64 v.x.hi)/\w.cell? ⟨b,off+k*10+7,none⟩=some (.slice v.x.aa v.x.na v.x.ca) /\
  w.cell? ⟨b,off+k*10+8,none⟩=some (.slice v.au v.nu v.cu)/\w.cell? ⟨b,off+k*10+9,none⟩=some (.int .i64 v.amount):=by
 obtain⟨b,off,v,e,q1,q2,q3,hc⟩:=h.at hk;exact⟨b,off,v,e,q1,q2,q3,hc 0 (by simp[jm.len]),hc 1 (by simp[jm.len]),hc 2 (by simp[jm.len]),hc 3 (by simp[jm.len]),hc 4 (by simp[jm.len]),hc 5 (by simp[jm.len]),hc 6 (by simp[jm.len]),hc 7 (by simp[jm.len]),hc 8 (by simp[jm.len]),hc 9 (by simp[jm.len])⟩
inductive Wb where
 | mk (name:BA) (cond:Ex) (jZ:List Wb)
def Wb.name:Wb->BA|.mk n _ _=>n
def Wb.cond:Wb->Ex|.mk _ c _=>c
def Wb.jZ:Wb->List Wb|.mk _ _ u=>u
structure dY where
 kind:Int
 name:BA
 cond:Ex
 jZ:List Wb
 amount:Int
def dY.cl (c:dY):Cl:=⟨c.kind,c.name,c.cond⟩
structure J4 where
 name:BA
 x:fU
 au:OA
 nu:Nat
 cu:Nat
def J4.cells (v:J4):List Value:=[.string v.name,.int .i64 v.x.op,.string v.x.name,.slice v.x.aw v.x.nw v.x.cw,.int .i64 v.x.lo,.int .i64 v.x.hi,.slice v.x.aa v.x.na v.x.ca,.slice v.au v.nu v.cu]
theorem J4.len (c:J4):c.cells.length=8:=rfl
def OL (w:World) (b off:Nat) (cs:List Value):Prop:=∀j (h:j<cs.length),w.cell? ⟨b,off+j,none⟩=some cs[j]
theorem OL.mono {w w':World} {b off:Nat} {cs:List Value} (h:OL w b off cs) (hs:Sub w w'):OL w' b off cs:=fun j hj=>hs _ _ (h j hj)
mutual
def WbD (w:World):Wb->OA->Nat->Nat->Prop
 | .mk _ _ jZ,au,nu,cu=>nu=jZ.length/\nu<=cu/\rP au cu/\jJ w jZ au
def jJ (w:World):List Wb->OA->Prop
 | [],_=>True
 | .mk name cond jZ::r,a=>∃b off,a=some ⟨b,off,none⟩/\(∃v:J4,v.name=name/\OL w b off v.cells/\fC w cond v.x.val/\v.nu=jZ.length/\v.nu<=v.cu/\rP v.au v.cu/\jJ w jZ v.au)/\jJ w r (some ⟨b,off+8,none⟩)
end
mutual
theorem WbD.mono {w w':World} (he:Sub w w'):(e:Wb)->(au:OA)->(nu cu:Nat)->WbD w e au nu cu->WbD w' e au nu cu
 | .mk name cond jZ,au,nu,cu,h=>by
  unfold WbD at h ⊢;exact⟨h.1,h.2.1,h.2.2.1,jJ.mono he jZ au h.2.2.2⟩
theorem jJ.mono {w w':World} (he:Sub w w'):(l:List Wb)->(a:OA)->jJ w l a->jJ w' l a
 | [],_,_=>by unfold jJ;trivial
 | .mk name cond jZ::r,a,h=>by
  unfold jJ at h ⊢;obtain⟨b,off,rfl,⟨v,h0,h1,h2,h3,h4,h5,h6⟩,hr⟩:=h;exact⟨b,off,rfl,⟨v,h0,h1.mono he,h2.mono he,h3,h4,h5,jJ.mono he jZ v.au h6⟩,jJ.mono he r _ hr⟩
end
theorem jJ.at {w:World}:(l:List Wb)->(a:OA)->jJ w l a->(k:Nat)->(hk:k<l.length) ->
  ∃b off,a=some ⟨b,off,none⟩/\∃v:J4,v.name=l[k].name/\OL w b (off+k*8) v.cells/\fC w l[k].cond v.x.val/\v.nu=l[k].jZ.length/\v.nu<=v.cu/\rP v.au v.cu/\jJ w l[k].jZ v.au
 | [],_,_,k,hk=>by simp at hk
 | .mk name cond jZ::r,a,h,0,_=>by
  unfold jJ at h;obtain⟨b,off,rfl,⟨v,h0,h1,h2,h3,h4,h5,h6⟩,hr⟩:=h;refine⟨b,off,rfl,v,?_⟩;simp only[Nat.zero_mul,Nat.add_zero];exact⟨h0,h1,h2,h3,h4,h5,h6⟩
 | .mk name cond jZ::r,a,h,k+1,hk=>by
  unfold jJ at h;obtain⟨b,off,rfl,_,hr⟩:=h;obtain⟨b',off',e1,rest⟩:=jJ.at r _ hr k (by simpa using hk);simp at e1;obtain⟨rfl,rfl⟩:=e1;have e1:off+8+k*8=off+(k+1)*8:=by omega
  rw[e1] at rest;exact⟨b,off,rfl,by simpa using rest⟩
theorem jJ.of {w:World} {b:Nat}:(l:List Wb)->(off:Nat)->(vs:List J4)->l.length=vs.length->(∀i (h1:i<l.length) (h2:i<vs.length),vs[i].name=l[i].name/\OL w b (off+i*8) vs[i].cells/\fC w l[i].cond vs[i].x.val/\vs[i].nu=l[i].jZ.length/\vs[i].nu<=vs[i].cu/\rP vs[i].au vs[i].cu/\jJ w l[i].jZ vs[i].au)->jJ w l (some ⟨b,off,none⟩)
 | [],_,_,_,_=>by unfold jJ;trivial
 | .mk name cond jZ::r,off,[],hl,_=>by simp at hl
 | .mk name cond jZ::r,off,v::vs,hl,h=>by
  unfold jJ;obtain⟨h0,h1,h2,h3,h4,h5,h6⟩:=h 0 (by simp) (by simp);simp only[bP,Nat.zero_mul,Nat.add_zero] at h0 h1 h2 h3 h4 h5 h6;refine⟨b,off,rfl,⟨v,h0,h1,h2,h3,h4,h5,h6⟩,jJ.of r (off+8) vs (by simpa using hl) fun i g1 g2=>?_⟩;have:=h (i+1) (by simpa using g1) (by simpa using g2);have e1:off+(i+1)*8=off+8+i*8:=by omega
  rw[e1] at this;simpa using this
def kR (w:World) (c:dY) (v:jm):Prop:=v.kind=c.kind/\v.name=c.name/\fC w c.cond v.x.val/\v.nu=c.jZ.length/\v.nu<=v.cu/\rP v.au v.cu/\jJ w c.jZ v.au/\v.amount=c.amount
theorem kR.mono {w w':World} {c:dY} {v:jm} (h:kR w c v) (hs:Sub w w'):kR w' c v :=
 ⟨h.1,h.2.1,h.2.2.1.mono hs,h.2.2.2.1,h.2.2.2.2.1,h.2.2.2.2.2.1,jJ.mono hs _ _ h.2.2.2.2.2.2.1,h.2.2.2.2.2.2.2⟩
def eX (w:World) (l:List dY) (a:OA) (n c:Nat):Prop :=
 ∃vs:List jm,iF w 10 jm.cells vs a n c/\l.length=vs.length/\∀i (h1:i<l.length) (h2:i<vs.length),kR w l[i] vs[i]
theorem eX.mono {w w':World} {l:List dY} {a:OA} {n c:Nat} (h:eX w l a n c) (hs:Sub w w'):eX w' l a n c:=by
 obtain⟨vs,h1,h2,h3⟩:=h;exact⟨vs,h1.mono hs,h2,fun i hi hv=>(h3 i hi hv).mono hs⟩
theorem eX.ext {w w':World} {l:List dY} {a:OA} {n c:Nat} (h:eX w l a n c) (he:Ext w w'):eX w' l a n c:=h.mono he.sub
theorem eX.len {w:World} {l:List dY} {a:OA} {n c:Nat} (h:eX w l a n c):n=l.length:=by
 obtain⟨vs,h1,h2,_⟩:=h;rw[h2];exact h1.1
theorem eX.cls {w:World} {l:List dY} {a:OA} {n c:Nat} (h:eX w l a n c):NG w (l.map dY.cl) a n c:=by
 obtain⟨vs,h1,h2,h3⟩:=h;refine⟨vs,h1,by simpa using h2,fun i hi hv=>?_⟩;have hi':i<l.length:=by simpa using hi
 have:=h3 i hi' hv;simp only[List.getElem_map,dY.cl];exact⟨this.1,this.2.1,this.2.2.1⟩
theorem eX.take {w:World} {l:List dY} {a:OA} {n c:Nat} (h:eX w l a n c) {k:Nat} (hk:k<=n):eX w (l.take k) a k c:=by
 have hn:=h.len;obtain⟨vs,⟨g1,g2,g3,g4⟩,h2,h3⟩:=h;refine⟨vs.take k,⟨by simp;omega,by omega,g3,fun i hi=>?_⟩,by simp[h2],fun i hi hv=>?_⟩
 ·have hi':i<vs.length:=by simp at hi;omega
  obtain⟨b,off,e,hc⟩:=g4 i hi';refine⟨b,off,e,fun j hj=>?_⟩;simp only[List.getElem_take] at hj ⊢;exact hc j hj
 simp only[List.getElem_take];exact h3 i (by simp at hi;omega) (by simp at hv;omega)
theorem eX.at {w:World} {l:List dY} {a:OA} {n c:Nat} (h:eX w l a n c) {k:Nat} (hk:k<l.length):∃(b off:Nat) (v:jm),a=some ⟨b,off,none⟩/\kR w l[k] v/\OL w b (off+k*10) v.cells:=by
 obtain⟨vs,h1,h2,h3⟩:=h;have hk':k<vs.length:=by omega
 obtain⟨b,off,e,hc⟩:=h1.2.2.2 k hk';exact⟨b,off,vs[k],e,h3 k hk hk',hc⟩
theorem OL.ten {w:World} {b off:Nat} {v:jm} (h:OL w b off v.cells):w.cell? ⟨b,off,none⟩=some (.int .i64 v.kind)/\w.cell? ⟨b,off+1,none⟩=some (.string v.name)/\w.cell? ⟨b,off+2,none⟩=some (.int .i64 v.x.op)/\w.cell? ⟨b,off+3,none⟩=some (.string v.x.name) /\
  w.cell? ⟨b,off+4,none⟩=some (.slice v.x.aw v.x.nw v.x.cw)/\w.cell? ⟨b,off+5,none⟩=some (.int .i64 v.x.lo)/\w.cell? ⟨b,off+6,none⟩=some (.int .i64 v.x.hi)/\w.cell? ⟨b,off+7,none⟩=some (.slice v.x.aa v.x.na v.x.ca) /\
  w.cell? ⟨b,off+8,none⟩=some (.slice v.au v.nu v.cu)/\w.cell? ⟨b,off+9,none⟩=some (.int .i64 v.amount) :=
 ⟨h 0 (by simp[jm.len]),h 1 (by simp[jm.len]),h 2 (by simp[jm.len]),h 3 (by simp[jm.len]),h 4 (by simp[jm.len]),h 5 (by simp[jm.len]),h 6 (by simp[jm.len]),h 7 (by simp[jm.len]),h 8 (by simp[jm.len]),h 9 (by simp[jm.len])⟩
theorem OL.eight {w:World} {b off:Nat} {v:J4} (h:OL w b off v.cells):w.cell? ⟨b,off,none⟩=some (.string v.name)/\w.cell? ⟨b,off+1,none⟩=some (.int .i64 v.x.op)/\w.cell? ⟨b,off+2,none⟩=some (.string v.x.name) /\
  w.cell? ⟨b,off+3,none⟩=some (.slice v.x.aw v.x.nw v.x.cw)/\w.cell? ⟨b,off+4,none⟩=some (.int .i64 v.x.lo)/\w.cell? ⟨b,off+5,none⟩=some (.int .i64 v.x.hi)/\w.cell? ⟨b,off+6,none⟩=some (.slice v.x.aa v.x.na v.x.ca)/\w.cell? ⟨b,off+7,none⟩=some (.slice v.au v.nu v.cu) :=
 ⟨h 0 (by simp[J4.len]),h 1 (by simp[J4.len]),h 2 (by simp[J4.len]),h 3 (by simp[J4.len]),h 4 (by simp[J4.len]),h 5 (by simp[J4.len]),h 6 (by simp[J4.len]),h 7 (by simp[J4.len])⟩
theorem lI (c:Int) (w:World):Calls Tryz.prog 175 #[.int .u8 c] w (Gives (.bool (mP c)) w):=by
 go_enter Tryz.func175,Tryz.ntmps175
 go_wp2_with fail
 all_goals (go_ret;exact jk (by simp[mP];omega))
theorem sK (c:Int) (w:World):Calls Tryz.prog 176 #[.int .u8 c] w (Gives (.bool (jL c)) w):=by
 go_enter Tryz.func176,Tryz.ntmps176
 go_wp2_with fail
 all_goals (go_ret;exact jk (by simp[jL];omega))
theorem abQ (n:Int) (w:World):Calls Tryz.prog 154 #[.int .i64 n] w (Gives (.bool (!kL n)) w):=by
 go_enter Tryz.func154,Tryz.ntmps154
 go_wp2_with fail
 all_goals (go_ret;exact jk (by rw[bW];simp[kL];omega))
theorem aij (s:BA) (w:World):Calls Tryz.prog 151 #[.string s] w (Gives (.bool (Vy s)) w):=by
 go_enter Tryz.func151,Tryz.ntmps151
 go_wp2_with fail
 all_goals (go_ret;exact jk (by simp_all [Vy,UE]))
theorem ahn (p:Int->Bool) (s:BA):∀(m k:Nat),s.size - k=m->k<=s.size->(mY p s (s.size - k) k=s.size ↔ ∀j (h:j<s.size),k<=j->p (s[j].toNat:Int)=true):=by
 intro m;induction m with
 | zero =>
  intro k hm hk;rw[Vq (by omega)];exact⟨fun _ j h hj=>by omega,fun _=>by omega⟩
 | succ m ih =>
  intro k hm hk;have hlt:k<s.size:=by omega
  cases hp:p (s[k].toNat:Int)
  ·rw[Qx hlt hp];exact⟨fun h=>by omega,fun h=>by rw[h k hlt (bg _)] at hp;cases hp⟩
  rw[Eu hlt hp,ih (k+1) (by omega) (by omega)];refine⟨fun h j hj hkj=>?_,fun h j hj hkj=>h j hj (by omega)⟩;by_cases e:j=k
  ·subst e;exact hp
  exact h j hj (by omega)
theorem aFt {s:BA} (h0:s.size≠0) (h1:s.size<=16) (h2:mP (byteAt s 0)=true) (h3:byteAt s (s.size - 1)≠45) (h:∀j (hj:j<s.size),jy (s[j].toNat:Int)=true):nR s=true:=by
 have:=(ahn jy s _ 0 rfl (by omega)).2 (fun j hj _=>h j hj);rw[Nat.sub_zero] at this;simp[nR,h0,h1,h2,h3,this]
theorem aFu {s:BA} {j:Nat} (hj:j<s.size) (h:jy (s[j].toNat:Int)=false):nR s=false:=by
 cases hb:nR s
 ·rfl
 simp only[nR,aJ,beq_iff_eq] at hb;have:=(ahn jy s _ 0 rfl (by omega)).1 (by rw[Nat.sub_zero];exact hb.2) j hj (by omega);rw[h] at this;cases this
theorem Tz (s:BA) (w:World) (hs:s.size<=1000000000000000):Calls Tryz.prog 150 #[.string s] w (Gives (.bool (nR s)) w):=by
 by_cases h0:s.size=0
 ·have H:=ak (show nR s=false by simp[nR,h0]);have hz:decide ((s.size:Int)<1)=true:=by simp[h0]
  clear h0;go_enter Tryz.func150,Tryz.ntmps150
  go_wp2_with fail
  go_ret;exact jk (by rw[H.o])
 have hz:decide ((s.size:Int)<1)=false:=by simp;omega
 by_cases h1:s.size<=16
 ·have hb0:=oD (show 0<s.size by omega);have hb1:=oD (show s.size - 1<s.size by omega);have hz2:decide ((16:Int)<s.size)=false:=by simp;omega
  cases h2:mP (s[0]'(by omega)).toNat
  ·have H:=ak (show nR s=false by simp[nR,hb0,h2]);have H2:=ak h2;clear h2 hb0 hb1;go_enter Tryz.func150,Tryz.ntmps150
   go_wp2_with fail
   refine(lI _ _).mono ?_;rintro e w' ⟨rfl,rfl⟩;rw[H2.o];go_wp2_with fail
   go_ret;exact jk (by rw[H.o])
  have H2:=ak h2;have HB0:=ak hb0;have HB1:=ak hb1;clear h2 hb0 hb1;have e1:((s.size:Int) - 1).toNat=s.size - 1:=by omega
  cases h3:((s[s.size - 1]'(by omega)).toNat:Int)==45
  ·have HY:=ak (show (∀j (hj:j<s.size),jy (s[j].toNat:Int)=true)->nR s=true from fun h=>aFt h0 h1 (by rw[HB0.o];exact H2.o) (by rw[HB1.o];simpa using h3) h);go_enter Tryz.func150,Tryz.ntmps150
   go_wp2_with fail
   refine(lI _ _).mono ?_;rintro e w' ⟨rfl,rfl⟩;rw[H2.o];go_wp2_with fail
   go_loop [3] (fun i=>∃k:Nat,i=.int .i64 k/\k<=s.size/\∀j (hj:j<s.size),j<k->jy (s[j].toNat:Int)=true) (fun i=>s.size - (intOf i).toNat)
   case atStart=>exact⟨0,rfl,by omega,fun j _ h=>by omega⟩
   case round =>
    obtain⟨k,rfl,hk,hall⟩:=hrel;have HA:=ak hall;clear hall;by_cases hlt:k<s.size
    ·have HN:=ak (fun h=>aFu (s:=s) hlt h);cases h4:mP (s[k].toNat:Int)
     ·cases h5:jL (s[k].toNat:Int)
      ·cases h6:((s[k].toNat:Int)==45)
       ·have H:=ak (HN.o (by simp[jy,h4,h5,h6]));have h6':((s[k].toNat:Int) != 45)=true:=by simpa using h6
        have H4:=ak h4;have H5:=ak h5;clear h4 h5;go_wp2_with fail
        refine(lI _ _).mono ?_;rintro e w' ⟨rfl,rfl⟩;rw[H4.o];go_wp2_with fail
        refine(sK _ _).mono ?_;rintro e w' ⟨rfl,rfl⟩;rw[H5.o];go_wp2_with fail
        go_ret;exact jk (by rw[H.o])
       have H:=ak (show jy (s[k].toNat:Int)=true by simp[jy,h4,h5,h6]);have h6':((s[k].toNat:Int) != 45)=false:=by simpa using h6
       have H4:=ak h4;have H5:=ak h5;clear h4 h5;go_wp2_with fail
       refine(lI _ _).mono ?_;rintro e w' ⟨rfl,rfl⟩;rw[H4.o];go_wp2_with fail
       refine(sK _ _).mono ?_;rintro e w' ⟨rfl,rfl⟩;rw[H5.o];go_wp2_with fail
       go_round
       case rel=>exact⟨k+1,by go_num,by omega,fun j hj hjk=>by
        by_cases e:j=k
        ·subst e;exact H.o
        exact HA.o j hj (by omega)⟩
       case measure=>simp[intOf];omega
      have H:=ak (show jy (s[k].toNat:Int)=true by simp[jy,h4,h5]);have H4:=ak h4;have H5:=ak h5;clear h4 h5;go_wp2_with fail
      refine(lI _ _).mono ?_;rintro e w' ⟨rfl,rfl⟩;rw[H4.o];go_wp2_with fail
      refine(sK _ _).mono ?_;rintro e w' ⟨rfl,rfl⟩;rw[H5.o];go_wp2_with fail
      go_round
      case rel=>exact⟨k+1,by go_num,by omega,fun j hj hjk=>by
       by_cases e:j=k
       ·subst e;exact H.o
       exact HA.o j hj (by omega)⟩
      case measure=>simp[intOf];omega
     have H:=ak (show jy (s[k].toNat:Int)=true by simp[jy,h4]);have H4:=ak h4;clear h4;go_wp2_with fail
     refine(lI _ _).mono ?_;rintro e w' ⟨rfl,rfl⟩;rw[H4.o];go_wp2_with fail
     go_round
     case rel=>exact⟨k+1,by go_num,by omega,fun j hj hjk=>by
      by_cases e:j=k
      ·subst e;exact H.o
      exact HA.o j hj (by omega)⟩
     case measure=>simp[intOf];omega
    go_wp2_with fail
    go_ret;exact jk (by rw[HY.o (fun j hj=>HA.o j hj (by omega))])
  have H:=ak (show nR s=false by simp[nR,HB0.o,HB1.o,H2.o,h1,h0];intro h;simp at h3;omega);go_enter Tryz.func150,Tryz.ntmps150
  go_wp2_with fail
  refine(lI _ _).mono ?_;rintro e w' ⟨rfl,rfl⟩;rw[H2.o];go_wp2_with fail
  go_ret;exact jk (by rw[H.o])
 have H:=ak (show nR s=false by simp[nR];omega);have hz2:decide ((16:Int)<s.size)=true:=by simp;omega
 go_enter Tryz.func150,Tryz.ntmps150
 go_wp2_with fail
 go_ret;exact jk (by rw[H.o])
theorem rQ (s:BA) (w:World) (hs:s.size<=1000000000000000):Calls Tryz.prog 118 #[.string s] w (Gives (.bool (nameB s)) w):=by
 go_enter Tryz.func118,Tryz.ntmps118
 go_wp2_with (first
  | (go_at_call 150;refine(Tz _ _ hs).mono ?_;rintro e w' ⟨rfl,rfl⟩)
  | (go_at_call 151;refine(aij _ _).mono ?_;rintro e w' ⟨rfl,rfl⟩))
 all_goals (go_ret;exact jk (by simp_all [nameB]))
theorem Nj (l:ZB) (a:OA) (n c:Nat) (w:World) (hl:ji w l a n c) (hn:n<=1000000000000000) (hsz:∀x∈l,x.size<=1000000000000000) :
  Calls Tryz.prog 152 #[.slice a n c] w (Gives (.bool (l.all nameB)) w):=by
 have HL:=ak hl;have HZ:=ak hsz;have hnl:=ak hl.1;clear hl hsz;go_enter Tryz.func152,Tryz.ntmps152
 go_wp2_with fail
 go_loop [3] (fun t=>∃k:Nat,t=.int .i64 k/\k<=n/\∀j (hj:j<l.length),j<k->nameB l[j]=true) (fun t=>n - (intOf t).toNat)
 case atStart=>exact⟨0,rfl,by omega,fun j _ h=>by omega⟩
 case round =>
  obtain⟨k,rfl,hk,hlo⟩:=hrel;have HO:=ak hlo;clear hlo;by_cases hlt:k<n
  ·have hlt':k<l.length:=by have:=hnl.out;omega
   have hsk:=HZ.o _ (aI hlt');obtain⟨b,off,rfl,hcell⟩:=HL.o.2.2.2 k hlt';cases h3:nameB l[k]
   ·have H:=ak (show l.all nameB=false by
     rw[List.all_eq_false];exact⟨l[k],aI hlt',by simp[h3]⟩)
    have H3:=ak h3;clear h3;go_wp2_with fail
    refine(rQ _ _ hsk).mono ?_;rintro e w' ⟨rfl,rfl⟩;rw[H3.o];go_wp2_with fail
    go_ret;exact jk (by rw[H.o])
   have H3:=ak h3;clear h3;go_wp2_with fail
   refine(rQ _ _ hsk).mono ?_;rintro e w' ⟨rfl,rfl⟩;rw[H3.o];go_wp2_with fail
   go_round
   case rel=>exact⟨k+1,by go_num,by omega,fun j hj hjk=>by
    by_cases e:j=k
    ·subst e;exact H3.o
    exact HO.o j hj (by omega)⟩
   case measure=>simp[intOf];omega
  go_wp2_with fail
  go_ret;exact jk (by
   symm
   rw[aV];intro x hx;obtain⟨j,hj,rfl⟩:=bM hx;exact HO.o j hj (by have:=hnl.out;omega))
theorem aGU {l:ZB} {n:Nat} (hn:n=l.length) (h:∀i j (hi:i<l.length) (hj:j<l.length),i<n->j<i->l[i]≠l[j]):l.Nodup:=by
 rw[List.Nodup,List.pairwise_iff_getElem];intro i j hi hj hij e;exact h j i hj hi (by omega) hij e.symm
def aeb (v:Value) (w:World) (e:Ending) (w':World):Prop:=e=.returned v/\∃n,w'=w.drewN n
theorem drewN_drewN (w:World) (a b:Nat):(w.drewN a).drewN b=w.drewN (a+b):=by simp[World.drewN,Nat.add_assoc]
theorem rW {a b:Bool} {w w':World} (h:a=b) (hx:∃n,w'=w.drewN n):aeb (.bool b) w (.returned (.bool a)) w':=by subst h;exact⟨rfl,hx⟩
theorem JI (l:ZB) (a:OA) (n c:Nat) (w:World) (hl:ji w l a n c) (hn:n<=1000000000000000) :
  Calls Tryz.prog 153 #[.slice a n c] w (aeb (.bool (decide l.Nodup)) w):=by
 have HL:=ak hl;have hnl:=ak hl.1;clear hl;go_enter Tryz.func153,Tryz.ntmps153
 go_wp2_with fail
 go_loopw [3,4] (fun t _ wr=>∃k:Nat,t=.int .i64 k/\k<=n/\(∀i j (hi:i<l.length) (hj:j<l.length),i<k->j<i->l[i]≠l[j])/\∃q,wr=w.drewN q) (fun t _ _=>n - (intOf t).toNat)
 case atStart=>exact⟨0,rfl,by omega,fun i j _ _ h=>by omega,0,rfl⟩
 case round =>
  obtain⟨k,rfl,hk,hlo,q,rfl⟩:=hrel;have HO:=ak hlo;clear hlo;by_cases hlt:k<n
  ·have hlt':k<l.length:=by have:=hnl.out;omega
   go_wp2_with fail
   go_loopw [4] (fun t wr2=>∃m:Nat,t=.int .i64 m/\m<=k/\(∀j (hj:j<l.length),j<m->l[k]≠l[j])/\∃q,wr2=w.drewN q) (fun t _=>k - (intOf t).toNat)
   case atStart=>exact⟨0,rfl,by omega,fun j _ h=>by omega,q,rfl⟩
   case round =>
    obtain⟨m,rfl,hm,hne,q2,rfl⟩:=hrel;have HE:=ak hne;clear hne;by_cases hmk:m<k
    ·have hmk':m<l.length:=by omega
     obtain⟨b,off,rfl,hc1⟩:=HL.o.2.2.2 k hlt';obtain⟨b',off',e,hc2⟩:=HL.o.2.2.2 m hmk';simp only[Option.some.injEq,Addr.mk.injEq,and_true] at e;obtain⟨rfl,rfl⟩:=e;have Zr:(0:Int)<=(k:Int):=by omega
     have ti1:(k:Int)<(n:Int):=by omega
     have tj0:(0:Int)<=(m:Int):=by omega
     have tj1:(m:Int)<(n:Int):=by omega
     cases he:(l[k].toList==l[m].toList)
     ·have HQ:=ak he;go_wp2_with fail
      go_quiet (fail)
      go_wp2_with fail
      go_roundw
      case rel =>
       refine⟨m+1,by go_num,by omega,fun j hj hjm=>?_,_,rfl⟩;by_cases e:j=m
       ·subst e;intro h;have:=HQ.o;rw[h] at this;simp at this
       exact HE.o j hj (by omega)
      case measure=>simp[intOf];omega
     have H:=ak (show decide l.Nodup=false by
      rw[bZ];intro hnd;have h1:=toList_inj (beq_iff_eq.1 he);rw[List.Nodup,List.pairwise_iff_getElem] at hnd;exact hnd m k hmk' hlt' hmk h1.symm)
     go_wp2_with fail
     go_quiet (fail)
     go_wp2_with fail
     go_ret;exact rW (by rw[H.o]) ⟨_,drewN_drewN _ _ _⟩
    go_wp2_with fail
    go_roundw
    case rel =>
     refine⟨k+1,by go_num,by omega,fun i j hi hj hik hji=>?_,q2,rfl⟩;by_cases e:i=k
     ·subst e;exact HE.o j hj (by omega)
     exact HO.o i j hi hj (by omega) hji
    case measure=>simp[intOf];omega
  go_wp2_with fail
  go_ret;exact rW (by
   symm
   rw[aN];exact aGU hnl.out (fun i j hi hj hin hji=>HO.o i j hi hj (by omega) hji)) ⟨q,rfl⟩
mutual
def Ex.Ar:Ex->Prop
 | .mk _ _ _ _ _ args=>args.length<=1000000000000000/\Hl args
def Hl:List Ex->Prop
 | []=>True
 | e::r=>e.Ar/\Hl r
end
theorem a8m:(l:List Ex)->(Hl l ↔ ∀x∈l,x.Ar)
 | []=>by simp[Hl]
 | e::r=>by rw[Hl,a8m r];simp
theorem aym {e:Ex} (h:e.Ar):e.args.length<=1000000000000000/\∀x∈e.args,x.Ar:=by
 cases e;unfold Ex.Ar at h;exact⟨h.1,(a8m _).1 h.2⟩
mutual
theorem kT:(e:Ex)->e.size<=1000000000000000->e.Ar
 | .mk op name words lo hi args,h=>by
  rw[Ex.size] at h;have:=iI args;unfold Ex.Ar;exact⟨by omega,YE args (by omega)⟩
theorem YE:(l:List Ex)->sizes l<=1000000000000000->Hl l
 | [],_=>by unfold Hl;trivial
 | e::r,h=>by
  rw[sizes] at h;unfold Hl;exact⟨kT e (by omega),YE r (by omega)⟩
end
theorem size_pos (e:Ex):1<=e.size:=by rw[e.size_eq];omega
def gZ (e:Ex):Nat:=min e.size 301
def tK:List Ex->Nat
 | []=>0
 | e::r=>gZ e+tK r
theorem ZY (l:List Ex):tK l<=sizes l/\l.length<=tK l/\min (1+tK l) 301=min (1+sizes l) 301:=by
 induction l with
 | nil=>simp[tK,sizes]
 | cons e r ih=>have:=size_pos e;simp only[tK,sizes,gZ,List.length_cons];omega
theorem adl (l:List Ex) (k:Nat) (hk:k<l.length):tK (l.take (k+1))=tK (l.take k)+gZ l[k]:=by
 induction l generalizing k with
 | nil=>simp at hk
 | cons e r ih =>
  cases k with
  | zero=>simp[tK]
  | succ k=>have:=ih k (by simpa using hk);simp only[List.take_succ_cons,tK,this,List.getElem_cons_succ];omega
theorem aj8 {e:Ex} {k:Nat} (hs:k=e.args.length\/300<1+tK (e.args.take k)):min (1+tK (e.args.take k)) 301=gZ e:=by
 have h1:=e.size_eq;have h2:=ZY (e.args.take k);have h3:=gV e.args k;have h4:=ZY e.args;unfold gZ;rcases hs with hs|hs
 ·rw[hs,List.take_length];omega
 omega
theorem Bo (m:Nat):∀(e:Ex) (v:Value) (w:World),e.size<=m->fC w e v->Calls Tryz.prog 156 #[v] w (dN (.int .i64 (gZ e)) w):=by
 induction m with
 | zero=>intro e v w h;have:=size_pos e;omega
 | succ m ih =>
  intro e v w hm he;obtain⟨aw,nw,cw,aa,na,ca,rfl,hw,hna,hca,ha,hx⟩:=he.parts;have HX:=ak hx;have HN:=ak hna;have hS:e.size=1+sizes e.args:=e.size_eq;have hb2:sizes e.args<=m:=by omega
  have H:aA (∀(e:Ex) (v:Value) (w:World),e.size<=m->fC w e v->Calls Tryz.prog 156 #[v] w (dN (.int .i64 (gZ e)) w)):=ih;clear ih hx hna hw hca ha he hS hm;unfold exV;go_enter Tryz.func156,Tryz.ntmps156
  go_wp2_with fail
  go_loopw [3,4] (fun s i wr=>∃k:Nat,k<=na/\i=.int .i64 k/\s=.int .i64 (1+(tK (e.args.take k):Int))/\tK (e.args.take k)<=601/\wr.heap[w.heap.size]?=some (.cells (aC e.op e.name aw nw cw e.lo e.hi aa na ca) 45 (0,0))/\Ext w wr) (fun _ i _=>na - (intOf i).toNat)
  case atStart=>exact⟨0,by omega,rfl,by simp[tK],by simp[tK],dG w _,(Ext.refl w).alloc _⟩
  case round =>
   obtain⟨k,hk,rfl,rfl,hb6,hbx,hb⟩:=hrel;have lV:=ak hbx;have HB:=ak hb;have hlt0:=dH hbx;obtain⟨b0,b1,b2,b3,b4,b5,bf⟩:=eP hbx;have hkl:k<=tK (e.args.take k):=by have:=(ZY (e.args.take k)).2.1;have hl:=HN.o;rw[List.length_take] at this;omega
   clear hbx hb;by_cases hlt:k<na
   ·have hlt':k<e.args.length:=by have:=HN.o;omega
    by_cases hc:tK (e.args.take k)<=299
    ·have t1:decide ((k:Int)<(na:Int))=true:=by simp;omega
     have t2:decide (1+(tK (e.args.take k):Int)<=300)=true:=by simp;omega
     obtain⟨b,off,rfl,rJ,rF,rH,rM,rG,ca1,h0,h1,h2,h3,h4,h5,h6⟩:=iK.at e.args _ (iK.ext HB.o e.args _ HX.o) k hlt';have H6:=ak h6;have hs1:=ak (adl e.args k hlt');have hsz:=iq e.args k hlt';have hsl:=gV e.args (k+1);have hk1:e.args[k].size<=m:=by omega
     have hr:gZ e.args[k]<=301:=by unfold gZ;omega
     clear h6 hsz hsl;go_wp2_with fail
     refine(H.o e.args[k] _ _ hk1 H6.o).mono ?_;rintro r w1 ⟨rfl,hb1⟩;have yS:=ak hb1;clear b0 b1 b2 b3 b4 b5 bf hb1;go_wp2_with fail
     go_roundw
     case rel=>exact⟨k+1,by omega,by go_num,by rw[hs1.out];go_num,by rw[hs1.out];omega,yS.o.blk lV.o,HB.o.trans yS.o⟩
     case measure=>simp[intOf];omega
    have t1:decide ((k:Int)<(na:Int))=true:=by simp;omega
    have t2:decide (1+(tK (e.args.take k):Int)<=300)=false:=by simp;omega
    have H1:=ak (aj8 (e:=e) (k:=k) (Or.inr (by omega)));go_wp2_with fail
    all_goals (go_ret;exact XR (by rw[<-H1.o];omega) HB.o)
   have t1:decide ((k:Int)<(na:Int))=false:=by simp;omega
   have H1:=ak (aj8 (e:=e) (k:=k) (Or.inl (by have:=HN.o;omega)));go_wp2_with fail
   all_goals (go_ret;exact XR (by rw[<-H1.o];omega) HB.o)
theorem ah2 (m:Nat):∀(e:Ex) (v:Value) (w:World) (n:Nat),e.size<=m->e.Ar->n<=1000->fC w e v->Calls Tryz.prog 155 #[v,.int .i64 n] w (dN (.bool (decide (n<e.depth))) w):=by
 induction m with
 | zero=>intro e v w n h;have:=size_pos e;omega
 | succ m ih =>
  intro e v w n hm hsl hn he;obtain⟨hsl1,hsl2⟩:=aym hsl;obtain⟨aw,nw,cw,aa,na,ca,rfl,hw,hna,hca,ha,hx⟩:=he.parts;have HX:=ak hx;have HN:=ak hna;have HD:=ak e.zK;have hS:e.size=1+sizes e.args:=e.size_eq;have hb2:sizes e.args<=m:=by omega
  have Q9:na<=1000000000000000:=by omega
  have HSL:=ak hsl2;have H:aA (∀(e:Ex) (v:Value) (w:World) (n:Nat),e.size<=m->e.Ar->n<=1000->fC w e v->Calls Tryz.prog 155 #[v,.int .i64 n] w (dN (.bool (decide (n<e.depth))) w)):=fun e v w n h1 h0 h2 h3=>ih e v w n h1 h0 h2 h3
  clear hsl hsl1 hsl2 ih hx hna hw hca ha he hS hm;unfold exV;by_cases hn0:n=0
  ·have t1:((n:Int)==0)=true:=by simp[hn0]
   have H1:=ak (show decide (n<e.depth)=true by rw[aN,HD.o];omega);generalize decide (n<e.depth)=B at *;go_enter Tryz.func155,Tryz.ntmps155
   go_wp2_with fail
   go_ret;exact dL (by rw[H1.o]) ((Ext.refl w).alloc _)
  have hn1:1<=n:=by omega
  have t1:((n:Int)==0)=false:=by simp;omega
  obtain⟨B,hB⟩:∃B,B=decide (n<e.depth):=⟨_,rfl⟩
  rw[<-hB];have HBQ:=ak hB;clear hB;go_enter Tryz.func155,Tryz.ntmps155
  go_wp2_with fail
  go_loopw [5] (fun i wr=>∃k:Nat,k<=na/\i=.int .i64 k/\(∀j (hj:j<e.args.length),j<k->¬n - 1<e.args[j].depth)/\wr.heap[w.heap.size]?=some (.cells (aC e.op e.name aw nw cw e.lo e.hi aa na ca) 45 (0,0))/\Ext w wr) (fun i _=>na - (intOf i).toNat)
  case atStart=>exact⟨0,by omega,rfl,fun j _ h=>by omega,dG w _,(Ext.refl w).alloc _⟩
  case round =>
   obtain⟨k,hk,rfl,hall,hbx,hb⟩:=hrel;have HA:=ak hall;have lV:=ak hbx;have HB:=ak hb;have hlt0:=dH hbx;obtain⟨b0,b1,b2,b3,b4,b5,bf⟩:=eP hbx;clear hbx hb hall;by_cases hlt:k<na
   ·have hlt':k<e.args.length:=by have:=HN.o;omega
    obtain⟨b,off,rfl,rJ,rF,rH,rM,rG,ca1,h0,h1,h2,h3,h4,h5,h6⟩:=iK.at e.args _ (iK.ext HB.o e.args _ HX.o) k hlt';have H6:=ak h6;have hsz:=iq e.args k hlt';have hsl:=gV e.args (k+1);have hk1:e.args[k].size<=m:=by omega
    have HM1:=ak (alN (aI hlt'));clear h6 hsz hsl;have Sl:=ak (show (n:Int) - 1=((n - 1:Nat):Int) by omega);go_wp2_with fail
    rw[Sl.o];refine(H.o e.args[k] _ _ (n - 1) hk1 (HSL.o _ (aI hlt')) (by omega) H6.o).mono ?_;rintro r w1 ⟨rfl,hb1⟩;have yS:=ak hb1;clear b0 b1 b2 b3 b4 b5 bf hb1;by_cases hdp:n - 1<e.args[k].depth
    ·rw[dB hdp];have H1:=ak (show B=true by rw[HBQ.o,aN,HD.o];have:=HM1.o;omega);clear hdp;go_wp2_with fail
     go_ret;exact dL (by rw[H1.o]) (HB.o.trans yS.o)
    rw[dD hdp];have HND:=ak hdp;clear hdp;go_wp2_with fail
    go_roundw
    case rel =>
     refine⟨k+1,by omega,by go_num,fun j hj hjk=>?_,yS.o.blk lV.o,HB.o.trans yS.o⟩;by_cases ej:j=k
     ·subst ej;exact HND.o
     exact HA.o j hj (by omega)
    case measure=>simp[intOf];omega
   have H1:=ak (show B=false by
    rw[HBQ.o,bZ,HD.o];have:∀l:List Ex,(∀x∈l,¬n - 1<x.depth)->depths l<=n - 1:=by
     intro l;induction l with
     | nil=>intro _;simp[depths]
     | cons y r ih =>
      intro h;have h1:=h y (by simp);have h2:=ih (fun x hx=>h x (bH _ hx));simp only[depths];omega
    have:=this e.args (fun x hx=>by
     obtain⟨j,hj,rfl⟩:=bM hx;exact HA.o j hj (by have:=HN.o;omega))
    omega)
   go_wp2_with fail
   go_ret;exact dL (by rw[H1.o]) HB.o
end Go.Proofs.YtefjomofjejklaaGreatDoor
