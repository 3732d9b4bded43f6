/-
  Texts of the claim, joined: Awk12, IsPr, PrMem, GnBx, Prove, PV, Made11, PEval.
-/
import Derived.Test.YtefjomofjejklaaGreatDoorDx21
namespace Go.Proofs.YtefjomofjejklaaGreatDoor
set_option maxRecDepth 100000
set_option maxHeartbeats 32000000
open Go.RowKit Go.Maps
def adg:List Attr:=[zq,⟨⟨#[115,116,111,114,101,121,115]⟩,2,[],1,9⟩,⟨⟨#[97,108,97,114,109]⟩,3,[],0,0⟩]
def exF:Ex:=.mk 4 ⟨#[112,101,114,105,108]⟩ [⟨#[102,105,114,101]⟩] 0 0 []
def clF:dY:=⟨2,⟨#[102,105,114,101]⟩,exF,[],0⟩
def aWb (w:World) (e:Ending) (w':World):Prop:=∃v,e=.returned v/\fJ w' adg v/\Ext w w'
theorem axU (x n r:Int) (w:World) (hn:0<n) (hn2:n<=1000000000000000000) (hr:(x.tmod n+n).tmod n=r):Calls Tryz.prog 16 #[.int .i64 x,.int .i64 n] w (fun e w'=>e=.returned (.int .i64 r)/\w'=w):=by
 go_enter Tryz.func16,Tryz.ntmps16
 go_wp2_with fail
 go_ret;have a1:=Int.tmod_lt_of_pos x hn;have a5:=Int.lt_tmod_of_pos x hn;rw[IntWalk.wrap64_in (x.tmod n+n) (by omega),hr];exact⟨rfl,rfl⟩
theorem am4 (w:World):Calls Tryz.prog 26 #[.int .i64 0] w (aWb w):=by
 go_enter Tryz.func26,Tryz.ntmps26
 go_wp2_with fail
 refine(axU 0 6 0 _ (by omega) (by omega) (by decide)).mono ?_;rintro e w' ⟨rfl,rfl⟩;go_wp2_with fail
 refine(aao _).mono ?_;rintro e w' ⟨g,rfl,hp,hx,hgn⟩;simp at hgn;have hwz:=hx.size;simp at hwz;have hb:=hx.blk (dG w _);have hlt:=dH hb;have c0:=dM hb 0;have cf:=jS hb;simp at c0;have HX:=ak (((Ext.refl w).alloc _).trans hx);have HP:=ak hp;clear hx hb hp;go_wp2_with fail
 refine bodyPost_ret (v:=.agg #[.slice (some ⟨w'.heap.size,0,none⟩) 3 3]) (by simp[results,Tryz.results26,go_sem,c0,hlt]) rfl ?_;refine⟨_,rfl,?_,(HX.o.jl (by simp) _).alloc _⟩;refine Q5 (avs:=[⟨zq,some ⟨g,0,none⟩,4,4⟩,⟨⟨⟨#[115,116,111,114,101,121,115]⟩,2,[],1,9⟩,none,0,0⟩,⟨⟨⟨#[97,108,97,114,109]⟩,3,[],0,0⟩,none,0,0⟩]) (t:=101) ?_ rfl ?_
 ·simpa[vK.cells,zq] using dG (w'.setCell ⟨w.heap.size,0,none⟩ (.slice (some ⟨w'.heap.size,0,none⟩) 3 3)) (.cells #[.string zq.name,.int .i64 1,.slice (some ⟨g,0,none⟩) 4 4,.int .i64 0,.int .i64 0,.string ⟨#[115,116,111,114,101,121,115]⟩,.int .i64 2,.slice none 0 0,.int .i64 1,.int .i64 9,.string ⟨#[97,108,97,114,109]⟩,.int .i64 3,.slice none 0 0,.int .i64 0,.int .i64 0] 101)
 intro v hv;simp only[bK,bQ,or_false] at hv;rcases hv with rfl|rfl|rfl
 ·exact XE HP.o (by omega) _ _
 ·exact kX _
 exact kX _
theorem aEH:lU adg [clF] 0=0:=by
 unfold lU;rw[dh (by decide +kernel),dh (by decide +kernel),dh (by decide +kernel),dh (by decide +kernel)]
 show iW adg [clF] []=0
 rw[iW]
theorem aIM:mg [clF] 0=0:=by
 unfold mg;rw[dh];rintro(h|h)
 ·exact absurd h (by decide +kernel)
 have h2:iC [clF] []=true:=h;rw[iC] at h2;cases h2
theorem aEG:(eU adg [clF]).2=0:=by
 have h1:oC (lU adg [clF]) [clF].length=(0,0):=nC _ fun j hj=>by
  obtain rfl:j=0:=by simp at hj;omega
  exact aEH
 have h2:oC (mg [clF]) [clF].length=(0,0):=nC _ fun j hj=>by
  obtain rfl:j=0:=by simp at hj;omega
  exact aIM
 unfold eU;rw[dh (by decide +kernel),dh (by decide),h1,dh (by simp),dh (by
  rw[Classical.not_not];refine⟨[],List.nodup_nil,fun i=>⟨fun h=>by simp at h,fun h=>?_⟩,fun k i h=>by simp at h⟩;have h1:=pY h;obtain rfl:i=0:=by simp at h1;omega
  exact absurd h (by decide)),h2]
theorem awR (V:Ex->Bool):Y8 V [clF]=if V exF=true then ⟨4,-1,0,0,0,false⟩ else ⟨1,0,0,0,0,false⟩:=by
 have hw:wG V []=false:=by rw[wG]
 cases h:V exF<;>simp[Y8,nS,oK,clF,hw,h,Kw,VP,vX,uD]
theorem ab2 (f:ZI) (h:mJ adg f=true):nI adg [clF] f=0:=by
 unfold nI;rw[dh (by rw[aEG];decide),dh (by simp[h])]
theorem aIN:qN adg [clF] [0,1,0]=⟨4,-1,0,0,0,false⟩:=by
 unfold qN;rw[dw (ab2 _ (by decide +kernel)),awR,dw (by decide +kernel)]
theorem aEF:qN adg [clF] [1,1,0]=⟨1,0,0,0,0,false⟩:=by
 unfold qN;rw[dw (ab2 _ (by decide +kernel)),awR,dh (by decide +kernel)]
theorem aoz:∀x∈adg,x.fits:=by
 intro x hx;simp only[adg,bK,bQ,or_false] at hx;rcases hx with rfl|rfl|rfl<;>refine⟨by decide,by simp[zq],fun x hx=>?_⟩<;>simp[zq] at hx
 rcases hx with rfl|rfl|rfl|rfl<;>decide
theorem aBF:∀x∈[clF],x.fit:=by
 intro x hx;obtain rfl:=aK.1 hx;refine⟨by decide,?_,?_,?_,by simp[clF],by unfold clF su;trivial⟩
 ·simp[clF,exF,Ex.fits,nJ];decide
 ·simp[clF,exF,Ex.few,qM]
 simp[clF,exF,Ex.Ar,Hl]
theorem DC (w:World) (ho:gG w):Calls Tryz.prog 12 #[] w (dN (.bool true) w):=by
 have HO:=ak ho;clear ho;go_enter Tryz.func12,Tryz.ntmps12
 go_wp2_with fail
 refine(am4 w).mono ?_;rintro r w1 ⟨sv,rfl,hs,hx1⟩;obtain⟨sa,sn,sc,rfl,-⟩:=hs.slice;have HS:=ak hs;have fQ:=ak hx1;clear hs hx1;go_upto_region 2 with fail
 obtain⟨w2,hw2⟩:∃w2,w2=w1.alloc (.cells #[.slice sa sn sc] 24):=⟨_,rfl⟩
 obtain⟨b1,hb1⟩:∃b1:Nat,b1=w1.heap.size:=⟨_,rfl⟩
 have gI:=ak (show Ext w1 w2 by rw[hw2];exact(Ext.refl _).alloc _);have HB1:=ak (show w2.heap[b1]?=some (.cells #[.slice sa sn sc] 24 (0,0)) by rw[hw2,hb1];exact dG w1 _);rw[<-hw2,<-hb1];clear hw2 hb1;go_upto_region 3 with fail
 obtain⟨w3,hw3⟩:∃w3,w3=(w2.alloc (.cells #[.string ⟨#[102,105,114,101]⟩] 9)).alloc (.cells #[.int .i64 2,.string ⟨#[102,105,114,101]⟩,.int .i64 4,.string ⟨#[112,101,114,105,108]⟩,.slice (some ⟨w2.heap.size,0,none⟩) 1 1,.int .i64 0,.int .i64 0,.slice none 0 0,.slice none 0 0,.int .i64 0] 48):=⟨_,rfl⟩
 obtain⟨y,hy⟩:∃y:Nat,y=w2.heap.size:=⟨_,rfl⟩
 have hx3:Ext w2 w3:=by rw[hw3];exact((Ext.refl _).alloc _).alloc _
 have vS:=ak (show eX w3 [clF] (some ⟨y+1,0,none⟩) 1 1 from apc (v:=⟨2,⟨#[102,105,114,101]⟩,⟨4,⟨#[112,101,114,105,108]⟩,some ⟨y,0,none⟩,1,1,0,0,none,0,0⟩,none,0,0,0⟩) (t:=48) (by rw[hw3,hy];exact eH (by simp)) ⟨rfl,rfl,XG (BX (l:=[⟨#[102,105,114,101]⟩]) (t:=9) (by rw[hw3,hy];exact dJ (dG w2 _)) rfl) 4 0 0 _,rfl,bg _,Or.inl ⟨rfl,rfl⟩,by unfold clF jJ;trivial,rfl⟩);rw[<-hw3,<-hy];have gU:=ak (gI.o.trans hx3);have rX:=ak (hx3.blk HB1.o);clear hw3 hy hx3;obtain⟨e0,ef⟩:=gQ rX.o;obtain⟨w4,hw4⟩:∃w4,w4=w3.alloc (.cells #[.int .i64 0,.int .i64 1,.int .i64 0] 3):=⟨_,rfl⟩
 have hx4:Ext w3 w4:=by rw[hw4];exact(Ext.refl _).alloc _
 have YW:=ak (xR adg [clF] [0,1,0] (.agg #[.slice sa sn sc]) (some ⟨y+1,0,none⟩) 1 1 (some ⟨w3.heap.size,0,none⟩) 3 3 w4 (HS.o.ext (gU.o.trans hx4)) aoz (by simp[adg]) (vS.o.ext hx4) (by omega) aBF (by rw[hw4];exact Ll rfl) (by omega) (HO.o.ext (fQ.o.trans (gU.o.trans hx4))));unfold alQ at YW;rw[aIN,ab2 _ (by decide +kernel)] at YW;unfold Dec.cells at YW;have lN:=ak (fQ.o.trans (gU.o.trans hx4));have Mc:=ak (hx4.blk rX.o);have ug:=ak (vS.o.ext hx4);have xI:=ak (HS.o.ext (gU.o.trans hx4));clear hx4;go_wp2_with fail
 rw[<-hw4];clear hw4 e0 ef rX vS HS gU fQ;refine YW.o.mono ?_;rintro r w5 ⟨rfl,hx5⟩;go_upto_region 4 with fail
 obtain⟨w6,hw6⟩:∃w6,w6=w5.alloc (.cells #[.int .i64 4,.int .i64 (-1),.int .i64 0,.int .i64 0,.int .i64 0,.bool false] 29):=⟨_,rfl⟩
 have hx6:Ext w5 w6:=by rw[hw6];exact(Ext.refl _).alloc _
 obtain⟨b2,hb2⟩:∃b2:Nat,b2=w5.heap.size:=⟨_,rfl⟩
 have HD6:=ak (show w6.heap[b2]?=some (.cells #[.int .i64 4,.int .i64 (-1),.int .i64 0,.int .i64 0,.int .i64 0,.bool false] 29 (0,0)) by rw[hw6,hb2];exact dG w5 _);rw[<-hw6,<-hb2];have oL:=ak (lN.o.trans (hx5.trans hx6));have nM:=ak ((hx5.trans hx6).blk Mc.o);have Fj:=ak (ug.o.ext (hx5.trans hx6));have Fg:=ak (xI.o.ext (hx5.trans hx6));clear hw6 hb2 hx6 hx5 YW lN Mc ug xI;obtain⟨e0,ef⟩:=gQ nM.o;obtain⟨w7,hw7⟩:∃w7,w7=w6.alloc (.cells #[.int .i64 1,.int .i64 1,.int .i64 0] 3):=⟨_,rfl⟩
 have hx7:Ext w6 w7:=by rw[hw7];exact(Ext.refl _).alloc _
 have HPD:=ak (xR adg [clF] [1,1,0] (.agg #[.slice sa sn sc]) (some ⟨y+1,0,none⟩) 1 1 (some ⟨w6.heap.size,0,none⟩) 3 3 w7 (Fg.o.ext hx7) aoz (by simp[adg]) (Fj.o.ext hx7) (by omega) aBF (by rw[hw7];exact Ll rfl) (by omega) (HO.o.ext (oL.o.trans hx7)));unfold alQ at HPD;rw[aEF,ab2 _ (by decide +kernel)] at HPD;unfold Dec.cells at HPD;have xH:=ak (oL.o.trans hx7);have HD7:=ak (hx7.blk HD6.o);clear hx7;go_wp2_with fail
 rw[<-hw7];clear hw7 e0 ef;refine HPD.o.mono ?_;rintro r w8 ⟨rfl,vM⟩;go_upto_region 5 with fail
 obtain⟨w9,yY⟩:∃w9,w9=w8.alloc (.cells #[.int .i64 1,.int .i64 0,.int .i64 0,.int .i64 0,.int .i64 0,.bool false] 29):=⟨_,rfl⟩
 have Ae:Ext w8 w9:=by rw[yY];exact(Ext.refl _).alloc _
 obtain⟨b3,hb3⟩:∃b3:Nat,b3=w8.heap.size:=⟨_,rfl⟩
 have HD9:=ak (show w9.heap[b3]?=some (.cells #[.int .i64 1,.int .i64 0,.int .i64 0,.int .i64 0,.int .i64 0,.bool false] 29 (0,0)) by rw[yY,hb3];exact dG w8 _);rw[<-yY,<-hb3];have Ai:=ak (xH.o.trans (vM.trans Ae));have HE9:=ak ((vM.trans Ae).blk HD7.o);clear yY hb3 Ae vM;obtain⟨d0,d1,d2,d3,d4,d5,df⟩:=gJ HE9.o;obtain⟨g0,g1,g2,g3,g4,g5,gf⟩:=gJ HD9.o;go_wp2_with fail
 go_ret;exact dL rfl Ai.o
open Go.RowKit
structure jP where
 value:Bool
 pick:Int
 a:OA
 n:Nat
 c:Nat
def jP.cells (v:jP):List Value:=[.bool v.value,.int .i64 v.pick,.slice v.a v.n v.c]
def jP.val (v:jP):Value:=.agg #[.bool v.value,.int .i64 v.pick,.slice v.a v.n v.c]
theorem jP.len (v:jP):v.cells.length=3:=rfl
inductive jK (w:World):Pr->jP->Prop
 | mk {v:Bool} {k:Int} {ps:List Pr} {a:OA} {n c:Nat} (vs:List jP) (hr:iF w 3 jP.cells vs a n c) (hl:vs.length=ps.length)
   (h:∀i (h1:i<ps.length) (h2:i<vs.length),jK w ps[i] vs[i]):jK w (.mk v k ps) ⟨v,k,a,n,c⟩
theorem jK.mono {w w':World} {p:Pr} {v:jP} (h:jK w p v) (hs:Sub w w'):jK w' p v:=by
 induction h with
 | mk vs hr hl _ ih=>exact .mk vs (hr.mono hs) hl ih
theorem jK.ext {w w':World} {p:Pr} {v:jP} (h:jK w p v) (he:Ext w w'):jK w' p v:=h.mono he.sub
theorem jK.parts {w:World} {p:Pr} {v:jP} (h:jK w p v):v.value=p.value/\v.pick=p.pick/\v.n=p.args.length/\v.n<=v.c/\rP v.a v.c /\
  ∀i (hi:i<p.args.length),∃b off q,v.a=some ⟨b,off,none⟩/\jK w p.args[i] q/\w.cell? ⟨b,off+i*3,none⟩=some (.bool q.value)/\w.cell? ⟨b,off+i*3+1,none⟩=some (.int .i64 q.pick)/\w.cell? ⟨b,off+i*3+2,none⟩=some (.slice q.a q.n q.c):=by
 cases h with
 | mk vs hr hl h =>
  refine⟨rfl,rfl,hr.1.trans hl,hr.2.1,hr.2.2.1,fun i hi=>?_⟩;simp only[Pr.args] at hi ⊢;obtain⟨b,off,e,hc⟩:=hr.2.2.2 i (by omega);exact⟨b,off,_,e,h i hi (by omega),hc 0 (by simp[jP.len]),hc 1 (by simp[jP.len]),hc 2 (by simp[jP.len])⟩
def Oy (w:World) (l:List Pr) (vs:List jP):Prop:=l.length=vs.length/\∀i (h1:i<l.length) (h2:i<vs.length),jK w l[i] vs[i]
theorem Oy.mono {w w':World} {l:List Pr} {vs:List jP} (h:Oy w l vs) (hs:Sub w w'):Oy w' l vs:=⟨h.1,fun i h1 h2=>(h.2 i h1 h2).mono hs⟩
theorem Oy.nil (w:World):Oy w [] []:=⟨rfl,fun i h=>by simp at h⟩
theorem Oy.snoc {w:World} {l:List Pr} {vs:List jP} {c:Pr} {v:jP} (h:Oy w l vs) (hc:jK w c v):Oy w (l++[c]) (vs++[v]):=by
 refine⟨by simp[h.1],fun i h1 h2=>?_⟩;by_cases hi:i<l.length
 ·have hi2:i<vs.length:=by rw[<-h.1];exact hi
  simp only[bT hi,bT hi2];exact h.2 i hi hi2
 have e1:i=l.length:=by simp at h1;omega
 subst e1;simp only[cZ (bg _),cZ (show vs.length<=l.length by rw[h.1];exact bg _),Nat.sub_self,bP];simpa[h.1] using hc
theorem adQ:zh 65 67 (.agg #[.bool false,.int .i64 0,.slice none 0 0]) 3 40:=⟨by kernel_rfl,by kernel_rfl,rfl,by decide⟩
theorem aaj {w:World} {M:ZN} {base:Nat} {v:Value} {l:List Pr} {vs:List jP} (h:w.ownsRow base 67 3 v l.length (vs.flatMap jP.cells)) (hM:∀k,v.ownBlock=some k->k∉M) (hR:Oy (mask w M) l vs) (b:Bool) (k:Int) :
  ∃a c,v=.slice a l.length c/\jK (mask w M) (.mk b k l) ⟨b,k,a,l.length,c⟩:=by
 have hl:=hR.1;rw[hl] at h;obtain⟨a,c,rfl,hr⟩:=iF.kZ jP.len h;refine⟨a,c,by rw[hl],.mk vs ⟨hl,by rw[hl];exact hr.2.1,hr.2.2.1,fun i h4=>?_⟩ hl.symm fun i h1 h2=>hR.2 i h1 h2⟩;obtain⟨b',off',e1,h5⟩:=hr.2.2.2 i h4;subst e1;exact⟨b',off',rfl,fun j hj=>by rw[iH,dh (hM _ rfl)];exact h5 j hj⟩
theorem Du (w:World) (b:Bool) (k:Int):jK w (.mk b k []) ⟨b,k,none,0,0⟩:=.mk [] ⟨rfl,bg _,Or.inl ⟨rfl,rfl⟩,fun i h=>by simp at h⟩ rfl fun i h=>by simp at h
theorem xE {w:World} {M:ZN} {g:Nat} {q:Pr} {v:jP} {t:TypeId} (h:w.heap[g]?=some (.cells v.cells.toArray t (0,0))) (hg:g∉M) (hq:jK (mask w M) q v) (b:Bool) (k:Int):jK (mask w M) (.mk b k [q]) ⟨b,k,some ⟨g,0,none⟩,1,1⟩:=by
 refine .mk [v] ⟨rfl,bg _,Or.inr ⟨g,0,rfl⟩,fun i hi=>⟨g,0,rfl,fun j hj=>?_⟩⟩ rfl fun i h1 h2=>?_
 ·have h0:i=0:=by simp at hi;omega
  subst h0;simp only[bP] at hj ⊢;rw[iH,dh hg,dM h];simp
 have h0:i=0:=by simp at h1;omega
 subst h0;exact hq
def J6 (p:Pr) (M:ZN) (w:World) (e:Ending) (w':World):Prop:=∃v:jP,e=.returned v.val/\jK (mask w' M) p v/\Ext w w'
def afZ (w0:World) (Z:Obj) (Pd:World->Value->Prop) (M:ZN) (kc ka:Nat) (L:ZN) (vs:Nat->Value) (W:World):Prop :=
 Ext w0 W/\(ka∈L->∃y,vs ka=.pointer (some ⟨y,0,none⟩)/\W.heap[y]?=some Z/\w0.heap.size<=y) /\
  (kc∈L->∃Y:ZN,(∀y,ka∈L->vs ka=.pointer (some ⟨y,0,none⟩)->y∈Y)/\Pd (mask W (Y++M)) (vs kc))
section
variable {w0 W W':World} {Z:Obj} {Pd:World->Value->Prop} {M:ZN} {kc ka:Nat} {L:ZN} {vs:Nat->Value}
theorem XP:afZ w0 Z Pd M kc ka [] vs w0.drew:=⟨(Ext.refl w0).drew,fun h=>by simp at h,fun h=>by simp at h⟩
theorem mV {i:Nat} {v:Value} (hP:∀W W' v,Sub W W'->Pd W v->Pd W' v) (h1:i≠kc) (h2:i≠ka) (h:afZ w0 Z Pd M kc ka L vs W) (hx:Ext W W'):afZ w0 Z Pd M kc ka (L++[i]) (upd vs i v) W':=by
 have m1:kc∈L++[i]->kc∈L:=fun hm=>by simp at hm;rcases hm with hm|hm;exact hm;exact absurd hm.symm h1
 have m2:ka∈L++[i]->ka∈L:=fun hm=>by simp at hm;rcases hm with hm|hm;exact hm;exact absurd hm.symm h2
 have u1:upd vs i v kc=vs kc:=by unfold upd;rw[dh (fun e=>h1 e.symm)]
 have u2:upd vs i v ka=vs ka:=by unfold upd;rw[dh (fun e=>h2 e.symm)]
 refine⟨h.1.trans hx,fun hm=>?_,fun hm=>?_⟩
 ·rw[u2];obtain⟨y,q1,q2,q3⟩:=h.2.1 (m2 hm);exact⟨y,q1,hx.blk q2,q3⟩
 rw[u1,u2];obtain⟨Y,q1,q2⟩:=h.2.2 (m1 hm);exact⟨Y,fun y hy=>q1 y (m2 hy),hP _ _ _ (iy _ hx) q2⟩
theorem agK (hka:ka≠kc) (hM:∀y∈M,y<w0.heap.size) (h:afZ w0 Z Pd M kc ka L vs W):∃Y:ZN,(∀y∈Y++M,y<W.heap.size)/\∀(v:Value) (W':World),Ext W W'->Pd (mask W' (Y++M)) v->afZ w0 Z Pd M kc ka (L++[kc]) (upd vs kc v) W':=by
 have m2:ka∈L++[kc]->ka∈L:=fun hm=>by simp at hm;rcases hm with hm|hm;exact hm;exact absurd hm hka
 have u1:∀v,upd vs kc v kc=v:=fun v=>by unfold upd;rw[dw rfl]
 have u2:∀v,upd vs kc v ka=vs ka:=fun v=>by unfold upd;rw[dh hka]
 have hs:=h.1.size;by_cases hk:ka∈L
 ·obtain⟨y,q1,q2,q3⟩:=h.2.1 hk;refine⟨[y],fun z hz=>?_,fun v W' hx hp=>⟨h.1.trans hx,fun _=>?_,fun _=>?_⟩⟩
  ·rcases aT.1 hz with hz|hz
   ·simp only[aK] at hz;rw[hz];exact dH q2
   have:=hM z hz;omega
  ·rw[u2];exact⟨y,q1,hx.blk q2,q3⟩
  refine⟨[y],fun z _ hz=>?_,by rw[u1];exact hp⟩;rw[u2,q1] at hz;simp only[Value.pointer.injEq,Option.some.injEq,Addr.mk.injEq,and_true] at hz;simp[hz]
 refine⟨[],fun z hz=>?_,fun v W' hx hp=>⟨h.1.trans hx,fun hm=>absurd (m2 hm) hk,fun _=>⟨[],fun z hz _=>absurd (m2 hz) hk,by rw[u1];exact hp⟩⟩⟩;have:=hM z (by simpa using hz);omega
theorem XQ {arr:Array Value} {t:TypeId} (hP:∀W W' v,Sub W W'->Pd W v->Pd W' v) (hka:ka≠kc) (hZ:Z=.cells arr t (0,0)) (h:afZ w0 Z Pd M kc ka L vs W):afZ w0 Z Pd M kc ka (L++[ka]) (upd vs ka (.pointer (some ⟨W.heap.size,0,none⟩))) (W.alloc (.cells arr t)):=by
 have m1:kc∈L++[ka]->kc∈L:=fun hm=>by simp at hm;rcases hm with hm|hm;exact hm;exact absurd hm.symm hka
 have hx:=(Ext.refl W).alloc (.cells arr t);have u1:∀v,upd vs ka v ka=v:=fun v=>by unfold upd;rw[dw rfl]
 have u2:∀v,upd vs ka v kc=vs kc:=fun v=>by unfold upd;rw[dh (fun e=>hka e.symm)]
 refine⟨h.1.trans hx,fun _=>⟨_,u1 _,by rw[hZ];exact dG W _,h.1.size⟩,fun hm=>?_⟩;obtain⟨Y,q1,q2⟩:=h.2.2 (m1 hm);refine⟨W.heap.size::Y,fun z _ hz=>?_,?_⟩
 ·rw[u1] at hz;simp only[Value.pointer.injEq,Option.some.injEq,Addr.mk.injEq,and_true] at hz;simp[hz]
 rw[u2];refine hP _ _ _ (dX fun k hk hn=>⟨fun hm=>?_,hx.block k hk⟩) q2;simp only[List.cons_append,bK] at hm;rcases hm with hm|hm
 ·omega
 exact hn hm
theorem afh (hP:∀W W' v,Sub W W'->Pd W v->Pd W' v) (h:afZ w0 Z Pd M kc ka L vs W) (h1:kc∈L) (h2:ka∈L):∃y,vs ka=.pointer (some ⟨y,0,none⟩)/\W.heap[y]?=some Z/\w0.heap.size<=y/\Pd (mask W (y::M)) (vs kc):=by
 obtain⟨y,q1,q2,q3⟩:=h.2.1 h2;obtain⟨Y,q4,q5⟩:=h.2.2 h1;refine⟨y,q1,q2,q3,hP _ _ _ (eG W fun z hz=>?_) q5⟩;rcases bK.1 hz with rfl|hz
 ·exact aQ _ (q4 _ h2 q1)
 exact aS _ hz
end
def vw:Obj:=.cells #[.bool false,.int .i64 0,.slice none 0 0] 67 (0,0)
def PdP (q:Pr) (W:World) (v:Value):Prop:=∃pv:jP,v=pv.val/\jK W q pv
theorem ou (q:Pr):∀W W' v,Sub W W'->PdP q W v->PdP q W' v:=fun _ _ _ hs ⟨pv,e,h⟩=>⟨pv,e,h.mono hs⟩
theorem yu {w W:World} {B:Nat} {M:ZN} {p:Pr} {pv:jP} (hb:W.heap[B]?=some vw) (hB:w.heap.size<=B) (hx:Ext w W) (hp:jK (mask W (B::M)) p pv) :
  (oq W B (.bool pv.value) (.int .i64 pv.pick) (.slice pv.a pv.n pv.c)).heap[B]?=some (.cells #[.bool pv.value,.int .i64 pv.pick,.slice pv.a pv.n pv.c] 67 (0,0))/\J6 p M w (.returned pv.val) (oq W B (.bool pv.value) (.int .i64 pv.pick) (.slice pv.a pv.n pv.c)):=by
 have hc:dO [B] W (oq W B (.bool pv.value) (.int .i64 pv.pick) (.slice pv.a pv.n pv.c)):=xB W B (.bool pv.value) (.int .i64 pv.pick) (.slice pv.a pv.n pv.c) (by simp);refine⟨xC hb _ _ _,pv,rfl,hp.mono (dX fun k hk hn=>⟨fun hm=>hn (by simp[hm]),hc.block k hk fun hm=>hn (by simp only[aK] at hm;simp[hm])⟩),hc.ext hx fun y hy=>by simp only[aK] at hy;omega⟩
theorem ayM {w:World} {B:Nat} (h:B<w.heap.size) (o:Obj) (v0 v1 v2:Value):oq (w.alloc o) B v0 v1 v2=(oq w B v0 v1 v2).alloc o:=by
 unfold oq;simp[World.setCell_alloc_past,h]
theorem agu {s:List Attr} {f:ZI} {D:BA->Option Pr} {args:List Ex} {k:Nat} (hk:k<args.length):(pfL s f D args)[k]?=some (pfE s f D args[k]):=by rw[TG];simp[hk]
theorem ajT {d:Bool} {l:List Pr} {k:Nat} {q:Pr} (hk:l[k]?=some q) (h1:q.value=d) (h2:∀(j:Nat) (q':Pr),j<k->l[j]?=some q'->q'.value≠d):agi d l=.mk d k [q]:=by
 obtain⟨hkl,hq⟩:=List.getElem?_eq_some_iff.1 hk;have:l.findIdx? (fun q=>q.value==d)=some k:=Rj hkl (by rw[hq,h1];simp) fun j hj hjk=>by
  have:=h2 j l[j] hjk (aZ hj);simpa using this
 unfold agi;rw[this];simp only;rw[List.getD_eq_getElem?_getD,hk];rfl
theorem agh {d:Bool} {l:List Pr} (h2:∀(j:Nat) (q':Pr),l[j]?=some q'->q'.value≠d):agi d l=.mk (!d) (-1) l:=by
 have:l.findIdx? (fun q=>q.value==d)=none:=Ls fun j hj=>by
  have:=h2 j l[j] (aZ hj);simpa using this
 unfold agi;rw[this]
theorem aA1 {s:List Attr} {f:ZI} {D:BA->Option Pr} (l:List Ex):ads s f D l=(l[0]?.map (pfE s f D)).getD pr0:=by
 cases l<;>simp[ads]
def aOv (s:List Attr) (f:ZI) (V:BA->Option Pr) (args:List Ex) (d:Bool) (na b0:Nat) (M:ZN) (Z0 Z1:Obj) (w:World) (v i:Value) (wr:World):Prop:=∃(k:Nat) (vs:List jP),i=.int .i64 k/\k<=na/\(∀j (h:j<args.length),j<k->(pfE s f V args[j]).value≠d)/\wr.ownsRow (b0+3) 67 3 v k (vs.flatMap jP.cells)/\Oy (mask wr (rowOf v++(b0+1+1)::M)) ((args.take k).map (pfE s f V)) vs/\wr.heap[b0]?=some Z0/\wr.heap[b0+1]?=some Z1/\wr.heap[b0+1+1]?=some vw/\Ext w wr
theorem UA {α β:Type} {l:List α} {g:α->β} {k:Nat} (h:k<l.length):(l.take (k+1)).map g=(l.take k).map g++[g l[k]]:=by
 rw[List.take_add_one,aZ h,List.map_append];rfl
theorem ags {W W':World} {v v':Value} {N:ZN} (hc:dO (rowOf v) W W') (hw:∀k,v'.ownBlock=some k->v.ownBlock=some k\/W.heap.size<=k):Sub (mask W (rowOf v++N)) (mask W' (rowOf v'++N)):=dX fun k hk hn=>by
 refine⟨fun hm=>?_,hc.block k hk fun hm=>hn (aQ _ hm)⟩;rcases aT.1 hm with h|h
 ·rcases hw k (dK.1 h) with e|e
  ·exact hn (aQ _ (dK.2 e))
  omega
 exact hn (aS _ h)
def aLF (w:World) (sa:OA) (sn sc bm:Nat) (fa:OA) (fn fc:Nat) (_name:BA) (_aw:OA) (_nw _cw:Nat) (_lo _hi:Int) (na ca xb xo:Nat) (x0:Int) (x1:BA) (rJ:OA) (rF rH:Nat) (x5 x6:Int) (rM:OA) (rG ca1:Nat)  : Nat->Value->World->Prop
 | 0,u,_=>u=.agg #[.slice sa sn sc,.map (some bm),.slice fa fn fc]
 | 1,u,_=>u=.pointer (some ⟨w.heap.size+1,5,none⟩)
 | 2,u,_=>u=.slice (some ⟨xb,xo,none⟩) na ca
 | 3,u,_=>u=.pointer (some ⟨xb,xo,none⟩)
 | 4,u,_=>u=.agg #[.int .i64 x0,.string x1,.slice rJ rF rH,.int .i64 x5,.int .i64 x6,.slice rM rG ca1]
 | 5,u,_=>u=u/\True
 | _,u,_=>u=u/\True
theorem auU (s:List Attr) (l:List dY) (f:ZI) (hc:Chk s l) (hfa:jq s f=true) (lv:jH) (nm:Nat):∀(g m:Nat) (e:Ex) (ev:Value) (M:ZN) (w:World),e.size<=m->m<=1000000->jA e->fB s l e=0->mG l g e<=2000->(∀y∈M,y<w.heap.size)->Gy w s l f lv nm->fC w e ev ->
  Calls Tryz.prog 128 #[lv.val,ev] w (J6 (CG s l f g e) M w):=by
 intro g;induction g with
 | zero=>intro m e ev M w _ _ _ _ h;simp[mG] at h
 | succ g ihg =>
  intro m;induction m with
  | zero=>intro e ev M w h;have:=size_pos e;omega
  | succ m ihm =>
   intro e ev M w hm YJ hok hnd hex hM hl he;have Ns:=Lc hc hok hnd;have hfw:=Qe hok hnd;obtain⟨-,Zd⟩:=Bv hnd;obtain⟨ald,Zc⟩:=kP hok;have Ze:=Rn (D:=Zu l g) (e:=e) (by rw[<-mW];exact hex);have aaL:=XW (D:=Zu l g) (e:=e) (by rw[<-mW];exact hex);have Kt:=ak (fun h5 W (hW:Ext w W)=>adN s l f lv nm hc.DK hfa e ev W (hl.ext hW) (he.ext hW) hok h5);have HDC:=ak (fun W (hW:Ext w W)=>LM s l f lv nm e ev W (hl.ext hW) (he.ext hW) (by have:=(O7 hok).2;omega));obtain⟨aw,nw,cw,aa,na,ca,rfl,hw,hna,hca,ha,hx⟩:=he.parts;have hS:e.size=1+sizes e.args:=e.size_eq;have hla:=iI e.args;obtain⟨op,name,words,lo,hi,args⟩:=e;simp only[Ex.op,Ex.name,Ex.words,Ex.lo,Ex.hi,Ex.args] at *;have Q9:na<=1000000:=by omega
   have aHm:sizes args<=m:=by omega
   obtain⟨R,hR⟩:∃R,R=CG s l f (g+1) (.mk op name words lo hi args):=⟨_,rfl⟩
   rw[<-hR];obtain⟨V,hV⟩:∃V,V=(fun x=>(fG l x).map fun d=>CG s l f g (l.getD d iT).cond):=⟨_,rfl⟩
   have hvf:∀e,CG s l f (g+1) e=pfE s f V e:=fun e=>by rw[hV];rfl
   rw[hvf,pfE] at hR;have HR:=ak hR;have HX:=ak hx;have nK:=ak hna;have HM:=ak hM;have qx:=ak (fun (j:Nat) (hj:j<args.length) (xv:Value) (N:ZN) (W:World) (hW:Ext w W) (hN:∀y∈N,y<W.heap.size) (hxv:fC W args[j] xv)=>show Calls Tryz.prog 128 #[lv.val,xv] W (J6 (pfE s f V args[j]) N W) from by
    rw[<-hvf];exact ihm args[j] xv N W (by have h1:=iq args j hj;have h2:=gV args (j+1);omega) (by omega) (Zc _ (aI hj)) (Zd j hj) (by rw[mW];exact Ze j hj) hN (hl.ext hW) hxv)
   have Jb:=ak (fun (h3:op=3) (d:Nat) (hd:fG l name=some d) (xv:Value) (N:ZN) (W:World) (hW:Ext w W) (hN:∀y∈N,y<W.heap.size) (hxv:fC W (l.getD d iT).cond xv)=>ihg 300 (l.getD d iT).cond xv N W (hc.cond (lG hd).1).2.2 (by omega) (hc.cond (lG hd).1).1 (hc.cond (lG hd).1).2.1 (aaL h3 (by unfold Zu;rw[hd];rfl)) hN (hl.ext hW) hxv);have HVV:=ak (show ∀d,fG l name=some d->V name=some (CG s l f g (l.getD d iT).cond) from fun d hd=>by rw[hV];simp only[hd];rfl);have Ur:=ak (show fG l name=none->V name=none from fun hd=>by rw[hV];simp only[hd];rfl);have Kv:=ak hfw;clear hc hfa hl hx hw hna hca ha hS hla ihg ihm hm Zd Zc Ze aaL ald hok hnd hex he hR hvf hV hfw hM;obtain⟨sa,sn,sc,bm,fa,fn,fc⟩:=lv;unfold exV jH.val at *;simp only at *;obtain⟨wa,dW⟩:∃wa,wa=((w.alloc (.cells #[.slice sa sn sc,.map (some bm),.slice fa fn fc] 183)).alloc (.cells #[.int .i64 op,.string name,.slice aw nw cw,.int .i64 lo,.int .i64 hi,.slice aa na ca] 45)).alloc (.cells #[.bool false,.int .i64 0,.slice none 0 0] 67):=⟨_,rfl⟩
   have hxa:Ext w wa:=by rw[dW];exact(((Ext.refl _).alloc _).alloc _).alloc _
   have hb0:wa.heap[w.heap.size]?=some (.cells #[.slice sa sn sc,.map (some bm),.slice fa fn fc] 183 (0,0)):=by rw[dW];exact dJ (dJ (dG w _))
   have hb1:wa.heap[w.heap.size+1]?=some (.cells #[.int .i64 op,.string name,.slice aw nw cw,.int .i64 lo,.int .i64 hi,.slice aa na ca] 45 (0,0)):=by rw[dW];exact dJ (eH (by simp))
   have hb2:wa.heap[w.heap.size+1+1]?=some vw:=by rw[dW];exact eH (by simp)
   have fE:=ak hxa;have HB0:=ak hb0;have HB1:=ak hb1;have HB2:=ak hb2;obtain⟨f0,f1,f2,f3,f4,f5,ff⟩:=eP hb1;obtain⟨e0,e1,e2,ef⟩:=fZ hb0;have nP:=dH hb1;clear hxa hb0 hb1 hb2;rcases Ns with ⟨h6,hdn⟩|⟨rfl,hat,d,hdf⟩|⟨rfl,hl1⟩|rfl|rfl
   ·have t6:(op==6)=false:=by simp[h6.1]
    have t7:(op==7)=false:=by simp[h6.2.1]
    have t8:(op==8)=false:=by simp[h6.2.2]
    have HQ:=ak (show R=.mk (yZ s f op name words lo hi) (-1) [] by
     rw[HR.o,dh h6.1,dh (by omega)];by_cases h3:op=3
     ·rw[dw h3,Ur.o (hdn h3)];rfl
     rw[dh h3];rfl)
    have as3:=ak (Kt.o (Kv.o h6 hdn));obtain⟨B,hB⟩:∃B,B=yZ s f op name words lo hi:=⟨_,rfl⟩
    rw[<-hB] at HQ as3;have HDN:=ak hdn;clear h6 hdn hB qx Jb Kt Kv;go_enter Tryz.func128,Tryz.ntmps128
    go_upto_region 1 with fail
    rw[<-dW];clear dW;go_wp2_with fail
    refine(HDC.o wa fE.o).mono ?_;rintro r w3 ⟨hx3,hq⟩;rcases hq with ⟨h3,d,v,hd,-⟩|⟨-,rfl⟩
    ·rw[HDN.o h3] at hd;cases hd
    have gU:=ak (fE.o.trans hx3);have Bl:=ak (hx3.blk HB0.o);have rX:=ak (hx3.blk HB1.o);have SQ:=ak (hx3.blk HB2.o);clear f0 f1 f2 f3 f4 f5 ff e0 e1 e2 ef nP hx3;obtain⟨f0,f1,f2,f3,f4,f5,ff⟩:=eP rX.o;obtain⟨e0,e1,e2,ef⟩:=fZ Bl.o;have nP:=dH rX.o;have hlt0:=dH Bl.o;unfold aaV;go_wp2_with fail
    refine(as3.o _ (gU.o.alloc _)).mono ?_;rintro r w5 ⟨rfl,hx5⟩;have jY:=ak ((gU.o.alloc _).trans hx5);have acn:=ak (hx5.blk (dJ SQ.o));clear hx5 f0 f1 f2 f3 f4 f5 ff e0 e1 e2 ef nP hlt0;obtain⟨r0,r1,r2,rf⟩:=fZ acn.o;have HZ:=ak (yu (M:=M) (pv:=⟨B,-1,none,0,0⟩) acn.o (by omega) jY.o (Du _ B (-1)));simp only at HZ;go_wp2_with fail
    obtain⟨wz,hwz⟩:∃wz,wz=oq w5 (w.heap.size+1+1) (.bool B) (.int .i64 (-1)) (.slice none 0 0):=⟨_,rfl⟩
    rw[<-hwz] at HZ;unfold oq at hwz;rw[<-hwz];clear hwz;obtain⟨z0,z1,z2,zf⟩:=fZ HZ.o.1;refine bodyPost_ret (v:=jP.val ⟨B,-1,none,0,0⟩) (by simp[results,Tryz.results128,go_sem,jP.val,z0,z1,z2]) rfl ?_;rw[HQ.o];exact HZ.o.2
   ·have HQ:=ak (show R=.mk (CG s l f g (l.getD d iT).cond).value (-1) [CG s l f g (l.getD d iT).cond] by
     rw[HR.o,dh (by decide),dh (by decide),dw rfl,HVV.o d hdf];rfl)
    have HDF:=ak (Jb.o rfl d hdf);obtain⟨q,hq⟩:∃q,q=CG s l f g (l.getD d iT).cond:=⟨_,rfl⟩
    rw[<-hq] at HQ HDF;have Yq:=ak hdf;clear hat hdf hq qx Jb Kt Kv;go_enter Tryz.func128,Tryz.ntmps128
    go_upto_region 1 with fail
    rw[<-dW];clear dW;go_wp2_with fail
    refine(HDC.o wa fE.o).mono ?_;rintro r w3 ⟨hx3,hq⟩;rcases hq with ⟨-,d',v,hd,rfl,hv⟩|⟨hd,-⟩
    case inr =>
     rcases hd with hd|hd
     ·exact absurd rfl hd
     rw[Yq.o] at hd;cases hd
    rw[Yq.o] at hd;obtain rfl:d=d':=by simpa using hd
    have gU:=ak (fE.o.trans hx3);have HEX:=ak hv;have Bl:=ak (hx3.blk HB0.o);have SQ:=ak (hx3.blk HB2.o);clear f0 f1 f2 f3 f4 f5 ff e0 e1 e2 ef nP hx3 hv hd;obtain⟨e0,e1,e2,ef⟩:=fZ Bl.o;have hlt0:=dH Bl.o;have HDG:=ak (fun W (hW:Ext w3 W) hN=>HDF.o v.val ((w.heap.size+1+1)::M) W (gU.o.trans hW) hN (HEX.o.ext hW));unfold fU.val exV at *;go_wp2_with fail
    refine(HDG.o _ ((Ext.refl w3).alloc _) (fun y hy=>by
     have h1:=dH SQ.o;have h2:=gU.o.size;simp only[bK] at hy;rcases hy with rfl|hy
     ·simp;omega
     have:=HM.o y hy;simp;omega)).mono ?_
    rintro r w5 ⟨pv,rfl,hpv,hx5⟩;have jY:=ak ((gU.o.alloc _).trans hx5);have acn:=ak (hx5.blk (dJ SQ.o));have PE:=ak hpv;have HPP:=ak hpv.parts.1;clear hx5 hpv e0 e1 e2 ef hlt0;obtain⟨pb,pk,pa,pn,pc⟩:=pv;unfold jP.val;simp only at HPP;have XJ:=dH acn.o;obtain⟨r0,r1,r2,rf⟩:=fZ acn.o;have HZ:=ak (show _/\_ from yu (w:=w) (W:=(w5.alloc (.cells #[.bool pb,.int .i64 pk,.slice pa pn pc] 67)).alloc (.cells #[.bool pb,.int .i64 pk,.slice pa pn pc] 67)) (B:=w.heap.size+1+1) (M:=M) (pv:=⟨pb,-1,some ⟨w5.heap.size+1,0,none⟩,1,1⟩) (dJ (dJ acn.o)) (by omega) ((jY.o.alloc _).alloc _)
     (xE (v:=⟨pb,pk,pa,pn,pc⟩) (t:=67) (eH (by simp)) (fun hy=>by
      have h2:=jY.o.size;simp only[bK] at hy;rcases hy with hy|hy
      ·omega
      have:=HM.o _ hy;omega) (PE.o.mono (iy _ (((Ext.refl w5).alloc _).alloc _))) pb (-1)))
    simp only at HZ;obtain⟨s0,s1,s2,sf⟩:=fZ (show ((w5.alloc (.cells #[.bool pb,.int .i64 pk,.slice pa pn pc] 67)).alloc (.cells #[.bool pb,.int .i64 pk,.slice pa pn pc] 67)).heap[w.heap.size+1+1]?=some (.cells #[.bool false,.int .i64 0,.slice none 0 0] 67 (0,0)) from dJ (dJ acn.o));go_wp2_with fail
    obtain⟨wz,hwz⟩:∃wz,wz=oq ((w5.alloc (.cells #[.bool pb,.int .i64 pk,.slice pa pn pc] 67)).alloc (.cells #[.bool pb,.int .i64 pk,.slice pa pn pc] 67)) (w.heap.size+1+1) (.bool pb) (.int .i64 (-1)) (.slice (some ⟨w5.heap.size+1,0,none⟩) 1 1):=⟨_,rfl⟩
    rw[<-hwz] at HZ;unfold oq at hwz;rw[<-hwz];clear hwz;obtain⟨z0,z1,z2,zf⟩:=fZ HZ.o.1;refine bodyPost_ret (v:=jP.val ⟨pb,-1,some ⟨w5.heap.size+1,0,none⟩,1,1⟩) (by simp[results,Tryz.results128,go_sem,jP.val,z0,z1,z2]) rfl ?_;rw[HQ.o,<-HPP.o];exact HZ.o.2
   ·have hj:0<args.length:=by omega
    have HQ:=ak (show R=.mk (!(pfE s f V args[0]).value) (-1) [pfE s f V args[0]] by
     rw[HR.o,dw rfl,aA1,aZ hj];rfl)
    have hnp:0<na:=by have:=nK.o;omega
    obtain⟨xb,xo,rfl,rJ,rF,rH,rM,rG,ca1,g0,g1,g2,g3,g4,g5,g6⟩:=iK.at args _ (iK.ext fE.o args _ HX.o) 0 hj;simp only[Nat.zero_mul,Nat.add_zero] at g0 g1 g2 g3 g4 g5;have G6:=ak g6;have xK:=ak (fun (N:ZN) W (hW:Ext wa W) (hN:∀y∈N,y<W.heap.size)=>qx.o 0 hj _ N W (fE.o.trans hW) hN (G6.o.ext hW));unfold exV at xK;obtain⟨q,hq⟩:∃q,q=pfE s f V args[0]:=⟨_,rfl⟩
    rw[<-hq] at xK HQ;obtain⟨x0,hx0⟩:∃x0,x0=args[0].op:=⟨_,rfl⟩
    obtain⟨x1,hx1⟩:∃x1,x1=args[0].name:=⟨_,rfl⟩
    obtain⟨x5,hx5⟩:∃x5,x5=args[0].lo:=⟨_,rfl⟩
    obtain⟨x6,hx6⟩:∃x6,x6=args[0].hi:=⟨_,rfl⟩
    rw[<-hx0] at g0 xK;rw[<-hx1] at g1 xK;rw[<-hx5] at g3 xK;rw[<-hx6] at g4 xK;clear hl1 hq g6 Kt Kv HVV Ur HR HDC qx Jb hx0 hx1 hx5 hx6;go_enter Tryz.func128,Tryz.ntmps128
    go_upto_region 1 with fail
    rw[<-dW];clear dW;have OU:=ak (show ∀y∈(w.heap.size+1+1)::M,y<wa.heap.size from fun y hy=>by
     have h1:=dH HB2.o;have h2:=fE.o.size;simp only[bK] at hy;rcases hy with rfl|hy
     ·omega
     have:=HM.o y hy;omega)
    go_wp2_with fail
    refine fM (n:=84) (m:=7) [] (afZ wa vw (PdP q) ((w.heap.size+1+1)::M) 5 6) SX (zu (aLF w sa sn sc bm fa fn fc name aw nw cw lo hi na ca xb xo x0 x1 rJ rF rH x5 x6 rM rG ca1 )) (by kernel_rfl) (by kernel_rfl) (Nat.le_of_ble_eq_true rfl) ?gd XP ?_ ?_ ?_
    case gd =>
     intro i o j b hi ho hg;rcases ltc7 hi with rfl|rfl|rfl|rfl|rfl|rfl|rfl<;>(cases ho;first|(cases hg;done)|(cases hg;intro v W h;exact h))
    ·intro i k v W W' hi hk hne hout h hE;have hE:Ext W W':=hE;have hi':=ltc7 hi;clear hi hk hne hout;rcases hi' with rfl|rfl|rfl|rfl|rfl|rfl|rfl
     ·exact h
     ·exact h
     ·exact h
     ·exact h
     ·exact h
     ·obtain⟨e0,h⟩:=h;exact⟨e0,trivial⟩
     obtain⟨e0,h⟩:=h;exact⟨e0,trivial⟩
    ·intro q op hq ho L vs W dR hcL hW hd ρ hρ;have hq':=ltc7 hq;clear hq;have o2:ρ (.tmp 2)=.pointer (some ⟨w.heap.size,0,none⟩):=hρ.out 2 rfl;have o3:ρ (.tmp 3)=.pointer (some ⟨w.heap.size+1,0,none⟩):=hρ.out 3 rfl;have i1:=hρ.i 1 19;have i2:=hρ.i 2 20;have i3:=hρ.i 3 21;have i0:=hρ.i 0 18;have i4:=hρ.i 4 22;have hc:=hρ.const;have hfn:=hρ.func;clear hρ;have HG:=ak hW;have HW:=ak (show Ext wa W from hW.1);have fV:=ak dR;clear hW dR hcL;rcases hq' with rfl|rfl|rfl|rfl|rfl|rfl|rfl
     ·cases ho
      clear hd;have g0:=HW.o.cell e0;have g1:=HW.o.cell e1;have g2:=HW.o.cell e2;unfold dF;go_simp;exact⟨Ext.refl W,mV (ou _) (by decide) (by decide) HG.o (Ext.refl W),rfl⟩
     ·cases ho
      clear hd;unfold dF;go_simp;exact⟨Ext.refl W,mV (ou _) (by decide) (by decide) HG.o (Ext.refl W),rfl⟩
     ·cases ho
      have h1:vs 1=_:=hd ⟨1,.data⟩ (by simp) rfl;rw[h1] at i1;clear hd;have g5:=HW.o.cell f5;unfold dF;go_simp;exact⟨Ext.refl W,mV (ou _) (by decide) (by decide) HG.o (Ext.refl W),rfl⟩
     ·cases ho
      have h2:vs 2=_:=hd ⟨2,.data⟩ (by simp) rfl;rw[h2] at i2;clear hd;unfold dF;go_simp;exact⟨Ext.refl W,mV (ou _) (by decide) (by decide) HG.o (Ext.refl W),rfl⟩
     ·cases ho
      have h3:vs 3=_:=hd ⟨3,.data⟩ (by simp) rfl;rw[h3] at i3;clear hd;have g0:=HW.o.cell g0;have g1:=HW.o.cell g1;have g2:=HW.o.cell g2;have g3:=HW.o.cell g3;have g4:=HW.o.cell g4;have g5:=HW.o.cell g5;unfold dF;go_simp;exact⟨Ext.refl W,mV (ou _) (by decide) (by decide) HG.o (Ext.refl W),rfl⟩
     ·cases ho
      have h0:vs 0=_:=hd ⟨0,.data⟩ (by simp) rfl;rw[h0] at i0;have h4:vs 4=_:=hd ⟨4,.data⟩ (by simp) rfl;rw[h4] at i4;clear hd;unfold dF;go_simp;obtain⟨Y,hY1,hY2⟩:=agK (by decide) OU.o HG.o;refine(xK.o (Y++(w.heap.size+1+1)::M) W HW.o hY1).mono ?_;rintro e5 w5 ⟨pv,rfl,hpv,hx5⟩;exact⟨_,rfl,hx5,hY2 _ _ hx5 ⟨_,rfl,hpv⟩,rfl,trivial⟩
     cases ho
     clear hd;unfold dF;go_simp;exact⟨(Ext.refl W).alloc _,XQ (ou _) (by decide) rfl HG.o,rfl,trivial⟩
    intro L vs W pR hW hR;rw[dh (by decide +kernel)];obtain⟨y,h6,q1,q2,pv,h5,q3⟩:=afh (ou _) hW (pR 5 (by omega)) (pR 6 (by omega));have HYB:=ak (And.intro q1 q2);have PE:=ak q3;clear q1 q2 q3;unfold jP.val at h5;refine lK rfl ?_
    change wpList _ _ _ [⟨none,.store _ (.tmp 5) (.tmp 23),_,_,_,none⟩] _ _
    simp only[acts,gK,List.range,List.range.loop,bF,dA,h5,h6];go_simp;have hW2:Ext wa W:=hW.1;clear hR hW pR h5 h6;have jY:=ak (fE.o.trans hW2);have acn:=ak (hW2.blk HB2.o);clear hW2 f0 f1 f2 f3 f4 f5 ff e0 e1 e2 ef nP;obtain⟨pb,pk,pa,pn,pc⟩:=pv;have HPP:=ak (show pb=q.value from PE.o.parts.1);obtain⟨W1,hW1⟩:∃W1,W1=oq W y (.bool pb) (.int .i64 pk) (.slice pa pn pc):=⟨_,rfl⟩
    have hyb:W.heap[y]?=some vw:=HYB.o.1;have HY1:=ak (show W1.heap[y]?=some (.cells #[.bool pb,.int .i64 pk,.slice pa pn pc] 67 (0,0)) by rw[hW1];exact xC hyb _ _ _);have hcy:dO [y] W W1:=by rw[hW1];exact xB W y (.bool pb) (.int .i64 pk) (.slice pa pn pc) (by simp)
    have hys:wa.heap.size<=y:=HYB.o.2;have oL:=ak (hcy.ext jY.o (fun z hz=>by simp only[aK] at hz;have:=fE.o.size;omega));have amD:=ak (hcy.blk acn.o (by have:=dH HB2.o;simp;omega));have aJB:=ak (show jK (mask W1 ((w.heap.size+1+1)::M)) q ⟨pb,pk,pa,pn,pc⟩ from PE.o.mono (dX fun k hk hn=>⟨fun hm=>hn (bH _ hm),hcy.block k hk fun hm=>hn (by simp only[aK] at hm;simp[hm])⟩));obtain⟨u0,u1,u2,uf⟩:=fZ hyb;have hlty:=dH hyb;clear hyb hcy hys PE HYB;go_upto_region 4 with fail
    unfold oq at hW1;rw[<-hW1];clear hW1 u0 u1 u2 uf hlty;obtain⟨u0,u1,u2,uf⟩:=fZ HY1.o;obtain⟨r0,r1,r2,rf⟩:=fZ amD.o;have XJ:=dH amD.o;have HZ:=ak (show _/\_ from yu (w:=w) (W:=W1.alloc (.cells #[.bool pb,.int .i64 pk,.slice pa pn pc] 67)) (B:=w.heap.size+1+1) (M:=M) (pv:=⟨!pb,-1,some ⟨W1.heap.size,0,none⟩,1,1⟩) (dJ amD.o) (by omega) (oL.o.alloc _)
     (xE (v:=⟨pb,pk,pa,pn,pc⟩) (t:=67) (dG W1 _) (fun hy=>by
      have h2:=oL.o.size;simp only[bK] at hy;rcases hy with hy|hy
      ·omega
      have:=HM.o _ hy;omega) (aJB.o.mono (iy _ ((Ext.refl W1).alloc _))) (!pb) (-1)))
    simp only at HZ;obtain⟨s0,s1,s2,sf⟩:=fZ (show (W1.alloc (.cells #[.bool pb,.int .i64 pk,.slice pa pn pc] 67)).heap[w.heap.size+1+1]?=some (.cells #[.bool false,.int .i64 0,.slice none 0 0] 67 (0,0)) from dJ amD.o);go_wp2_with fail
    rw[ayM XJ] at HZ;obtain⟨wz,hwz⟩:∃wz,wz=(oq W1 (w.heap.size+1+1) (.bool !pb) (.int .i64 (-1)) (.slice (some ⟨W1.heap.size,0,none⟩) 1 1)).alloc (.cells #[.bool pb,.int .i64 pk,.slice pa pn pc] 67):=⟨_,rfl⟩
    rw[<-hwz] at HZ;unfold oq at hwz;rw[<-hwz];clear hwz;obtain⟨z0,z1,z2,zf⟩:=fZ HZ.o.1;refine bodyPost_ret (v:=jP.val ⟨!pb,-1,some ⟨W1.heap.size,0,none⟩,1,1⟩) (by simp[results,Tryz.results128,go_sem,jP.val,z0,z1,z2]) rfl ?_;rw[HQ.o,<-HPP.o];exact HZ.o.2
   ·have HQ:=ak (show R=agi false (pfL s f V args) by rw[HR.o,dh (by decide),dw (by decide)];rfl);clear Kt Kv HVV Ur HR HDC Jb;go_enter Tryz.func128,Tryz.ntmps128
    go_upto_region 1 with fail
    rw[<-dW];clear dW;go_wp2_with fail
    clear f0 f1 f2 f3 f4 f5 ff e0 e1 e2 ef nP;go_loopw [7,39] (aOv s f V args false na w.heap.size M (.cells #[.slice sa sn sc,.map (some bm),.slice fa fn fc] 183 (0,0)) (.cells #[.int .i64 7,.string name,.slice aw nw cw,.int .i64 lo,.int .i64 hi,.slice aa na ca] 45 (0,0)) w) (fun _ i _=>na - (intOf i).toNat)
    case atStart=>exact⟨0,[],rfl,by omega,fun j _ h=>by omega,⟨rfl,Or.inl ⟨rfl,rfl⟩⟩,Oy.nil _,HB0.o,HB1.o,HB2.o,fE.o⟩
    case round =>
     obtain⟨k,vs,rfl,hk,hno,hown,VY,hb0,hb1,hb2,hxr⟩:=hrel;have lZ:=ak hno;have HOWN:=ak hown;have aea:=ak VY;have kC:=ak hxr;have Zo:=ak hb0;have qw:=ak hb1;have HC2:=ak hb2;obtain⟨e0,e1,e2,ef⟩:=fZ hb0;have hlt2:=dH hb2;clear hno hown VY hxr hb0 hb1 hb2;by_cases hkn:k<na
     ·have hka:k<args.length:=by have:=nK.o;omega
      have t1:=ah ((k:Int)<(na:Int));obtain⟨xb,xo,rfl,rJ,rF,rH,rM,rG,ca1,g0,g1,g2,g3,g4,g5,g6⟩:=iK.at args _ (iK.ext kC.o args _ HX.o) k hka;have G6:=ak g6;obtain⟨q,hq⟩:∃q,q=pfE s f V args[k]:=⟨_,rfl⟩
      have xK:=ak (fun (N:ZN) W (hW:Ext wr W) (hN:∀y∈N,y<W.heap.size)=>qx.o k hka _ N W (kC.o.trans hW) hN (G6.o.ext hW));rw[<-hq] at xK;have HQK:=ak hq;unfold exV at xK;clear hq g6;go_upto_region 12 with fail
      obtain⟨y,hy⟩:∃y:Nat,y=wr.heap.size:=⟨_,rfl⟩
      obtain⟨w1,hw1⟩:∃w1,w1=wr.alloc (.cells #[.int .i64 args[k].op,.string args[k].name,.slice rJ rF rH,.int .i64 args[k].lo,.int .i64 args[k].hi,.slice rM rG ca1] 45):=⟨_,rfl⟩
      have hx1:Ext wr w1:=by rw[hw1];exact(Ext.refl wr).alloc _
      have lV:=ak (show w1.heap[y]?=some (.cells #[.int .i64 args[k].op,.string args[k].name,.slice rJ rF rH,.int .i64 args[k].lo,.int .i64 args[k].hi,.slice rM rG ca1] 45 (0,0)) by rw[hw1,hy];exact dG wr _);rw[<-hw1,<-hy];clear hw1 hy;have fQ:=ak (kC.o.trans hx1);have aJD:=ak (fun (N:ZN) (hN:∀y∈N,y<w1.heap.size)=>xK.o N w1 hx1 hN);have HD0:=ak (hx1.blk Zo.o);have HD1:=ak (hx1.blk qw.o);have HD2:=ak (hx1.blk HC2.o);have axp:=ak (jF HOWN.o hx1);have amw:=ak (aea.o.mono (iy _ hx1));have Zw:=ak (show ∀z∈rowOf u7,w.heap.size+3<=z/\z<w1.heap.size from fun z hz=>by have h1:=HOWN.o.lt z (dK.1 hz);have h2:=hx1.size;omega);clear e0 e1 e2 ef g0 g1 g2 g3 g4 g5 hlt2 hx1 Zo qw HC2 HOWN aea xK;obtain⟨e0,e1,e2,ef⟩:=fZ HD0.o;obtain⟨g0,g1,g2,g3,g4,g5,gf⟩:=eP lV.o;go_wp2_with fail
      refine(aJD.o (rowOf u7++(w.heap.size+1+1)::M) (fun z hz=>by
       rcases aT.1 hz with h|h
       ·exact(Zw.o z h).2
       have h1:=dH HD2.o;have h2:=fQ.o.size;rcases bK.1 h with rfl|h
       ·omega
       have:=HM.o z h;omega)).mono ?_
      rintro r w5 ⟨pv,rfl,hpv,hx5⟩;have jY:=ak (fQ.o.trans hx5);have HE0:=ak (hx5.blk HD0.o);have yS:=ak (hx5.blk HD1.o);have HE2:=ak (hx5.blk HD2.o);have PE:=ak hpv;have HPP:=ak hpv.parts.1;have amy:=ak (jF axp.o hx5);have axk:=ak (amw.o.mono (iy _ hx5));have aJu:=ak (show ∀z∈rowOf u7,w.heap.size+3<=z/\z<w5.heap.size from fun z hz=>by have h1:=Zw.o z hz;have h2:=hx5.size;omega);clear hx5 hpv e0 e1 e2 ef g0 g1 g2 g3 g4 g5 gf HD0 HD1 HD2 axp amw Zw aJD;obtain⟨pb,pk,pa,pn,pc⟩:=pv;unfold jP.val;simp only at HPP;cases pb
      case false =>
       have XJ:=dH HE2.o;obtain⟨r0,r1,r2,rf⟩:=fZ HE2.o;have HZ:=ak (show _/\_ from yu (w:=w) (W:=(w5.alloc (.cells #[.bool false,.int .i64 pk,.slice pa pn pc] 67)).alloc (.cells #[.bool false,.int .i64 pk,.slice pa pn pc] 67)) (B:=w.heap.size+1+1) (M:=M) (pv:=⟨false,k,some ⟨w5.heap.size+1,0,none⟩,1,1⟩) (dJ (dJ HE2.o)) (by omega) ((jY.o.alloc _).alloc _)
        (xE (v:=⟨false,pk,pa,pn,pc⟩) (t:=67) (eH (by simp)) (fun hy=>by
         have h2:=jY.o.size;simp only[bK] at hy;rcases hy with hy|hy
         ·omega
         have:=HM.o _ hy;omega) ((PE.o.mono (eG _ (fun y hy=>aS _ hy))).mono (iy _ (((Ext.refl w5).alloc _).alloc _))) false k))
       simp only at HZ;obtain⟨s0,s1,s2,sf⟩:=fZ (show ((w5.alloc (.cells #[.bool false,.int .i64 pk,.slice pa pn pc] 67)).alloc (.cells #[.bool false,.int .i64 pk,.slice pa pn pc] 67)).heap[w.heap.size+1+1]?=some (.cells #[.bool false,.int .i64 0,.slice none 0 0] 67 (0,0)) from dJ (dJ HE2.o));have HF:=ak (show R=.mk false k [q] by
        rw[HQ.o];refine ajT (by rw[agu hka,HQK.o]) HPP.o.symm fun j q' hj hq'=>?_
        rw[agu (by omega)] at hq';obtain rfl:=Option.some.inj hq';exact lZ.o j (by omega) hj)
       go_wp2_with fail
       obtain⟨wz,hwz⟩:∃wz,wz=oq ((w5.alloc (.cells #[.bool false,.int .i64 pk,.slice pa pn pc] 67)).alloc (.cells #[.bool false,.int .i64 pk,.slice pa pn pc] 67)) (w.heap.size+1+1) (.bool false) (.int .i64 (k:Int)) (.slice (some ⟨w5.heap.size+1,0,none⟩) 1 1):=⟨_,rfl⟩
       rw[<-hwz] at HZ;unfold oq at hwz;rw[<-hwz];clear hwz;obtain⟨z0,z1,z2,zf⟩:=fZ HZ.o.1;refine bodyPost_ret (v:=jP.val ⟨false,k,some ⟨w5.heap.size+1,0,none⟩,1,1⟩) (by simp[results,Tryz.results128,go_sem,jP.val,z0,z1,z2]) rfl ?_;rw[HF.o];exact HZ.o.2
      case true =>
       go_upto_region 15 with fail
       obtain⟨w6,hw6⟩:∃w6,w6=w5.alloc (.cells #[.bool true,.int .i64 pk,.slice pa pn pc] 67):=⟨_,rfl⟩
       obtain⟨y6,hy6⟩:∃y6:Nat,y6=w5.heap.size:=⟨_,rfl⟩
       have hx6:Ext w5 w6:=by rw[hw6];exact(Ext.refl w5).alloc _
       have nM:=ak (show w6.heap[y6]?=some (.cells #[.bool true,.int .i64 pk,.slice pa pn pc] 67 (0,0)) by rw[hw6,hy6];exact dG w5 _);rw[<-hw6,<-hy6];clear hw6 hy6;have oL:=ak (jY.o.trans hx6);have HF0:=ak (hx6.blk HE0.o);have HF1:=ak (hx6.blk yS.o);have HF2:=ak (hx6.blk HE2.o);have aJR:=ak (jF amy.o hx6);have aJC:=ak (axk.o.mono (iy _ hx6));have aRR:=ak (PE.o.mono (iy _ hx6));have asV:=ak (show ∀z∈rowOf u7,w.heap.size+3<=z/\z<w6.heap.size from fun z hz=>by have h1:=aJu.o z hz;have h2:=hx6.size;omega);have hs6:=oL.o.size;clear hx6 HE0 yS HE2 amy axk PE aJu;obtain⟨u0,u1,u2,uf⟩:=fZ nM.o;have FT:=dH HF2.o;go_wp2_with (at_builtin;refine fK adQ rfl _ _ rfl (w.heap.size+3) _ k _ rfl aJR.o _ 1 1 rfl ?f0 rfl ?f1 ?f2 ?f3 ?f4 ?_)
       case f0=>simp
       case f1=>simp[Value.oneCell']
       case f2=>unfold maxLen;omega
       case f3=>omega
       case f4=>omega
       intro v8 w8 ig hc8 hw8;have GK:=ak (show w8.ownsRow (w.heap.size+3) 67 3 v8 (k+1) ((vs++[(⟨true,pk,pa,pn,pc⟩:jP)]).flatMap jP.cells) by simpa[jP.cells] using ig);have s2:Sub (mask w6 (rowOf u7++(w.heap.size+1+1)::M)) (mask w8 (rowOf v8++(w.heap.size+1+1)::M)):=ags hc8 hw8;have HP8:=ak (show Oy (mask w8 (rowOf v8++(w.heap.size+1+1)::M)) ((args.take (k+1)).map (pfE s f V)) (vs++[(⟨true,pk,pa,pn,pc⟩:jP)]) by
        rw[UA hka,<-HQK.o];exact(aJC.o.mono s2).snoc (aRR.o.mono s2))
       have HG0:=ak (hc8.blk HF0.o (fun hm=>by have:=(asV.o _ hm).1;omega));have Yo:=ak (hc8.blk HF1.o (fun hm=>by have:=(asV.o _ hm).1;omega));have HG2:=ak (hc8.blk HF2.o (fun hm=>by have:=(asV.o _ hm).1;omega));have rD:=ak (hc8.ext oL.o (fun z hz=>by have:=(asV.o z hz).1;omega));obtain⟨a8,c8,OI⟩:=iG ig;subst OI;clear ig hc8 hw8 s2 u0 u1 u2 uf hs6 FT;go_wp2_with fail
       go_roundw
       case rel =>
        refine⟨k+1,_,by go_num,by omega,fun j hj hjk=>?_,GK.o,HP8.o,HG0.o,Yo.o,HG2.o,rD.o⟩;by_cases e:j=k
        ·subst e;rw[<-HQK.o,<-HPP.o];simp
        exact lZ.o j hj (by omega)
       case measure=>simp[intOf];omega
     have t1:=aj ((k:Int)<(na:Int));obtain rfl:k=na:=by omega
     have hl0:((args.take k).map (pfE s f V))=pfL s f V args:=by rw[TG,aY (by have:=nK.o;omega)]
     have hkl:(pfL s f V args).length=k:=by rw[TG];simpa using nK.o.symm
     have hps:=aea.o;have hos:=HOWN.o;rw[hl0] at hps;rw[<-hkl] at hos;obtain⟨a',c',rfl,hip⟩:=aaj (M:=(w.heap.size+1+1)::M) hos (fun z hz hm=>by
      have h1:=(HOWN.o.lt z hz).1;simp only[bK] at hm;rcases hm with hm|hm
      ·omega
      have:=HM.o z hm;omega) (hps.mono (eG _ (fun y hy=>aS _ hy))) true (-1)
     have HF:=ak (show R=.mk true (-1) (pfL s f V args) by
      rw[HQ.o];exact agh fun j q' hq'=>by
       have hj:j<args.length:=by
        have:=(List.getElem?_eq_some_iff.1 hq').1;rw[hkl] at this;have:=nK.o;omega
       rw[agu hj] at hq';obtain rfl:=Option.some.inj hq';exact lZ.o j hj (by have:=nK.o;omega))
     rw[hkl] at hip ⊢;have HIP:=ak hip;have HZ:=ak (show _/\_ from yu (w:=w) (W:=wr) (B:=w.heap.size+1+1) (M:=M) (pv:=⟨true,-1,a',k,c'⟩) HC2.o (by omega) kC.o HIP.o);simp only at HZ;obtain⟨r0,r1,r2,rf⟩:=fZ HC2.o;clear hps hos hl0 hip hkl;go_wp2_with fail
     obtain⟨wz,hwz⟩:∃wz,wz=oq wr (w.heap.size+1+1) (.bool true) (.int .i64 (-1)) (.slice a' k c'):=⟨_,rfl⟩
     rw[<-hwz] at HZ;unfold oq at hwz;rw[<-hwz];clear hwz;obtain⟨z0,z1,z2,zf⟩:=fZ HZ.o.1;refine bodyPost_ret (v:=jP.val ⟨true,-1,a',k,c'⟩) (by simp[results,Tryz.results128,go_sem,jP.val,z0,z1,z2]) rfl ?_;rw[HF.o];exact HZ.o.2
   have HQ:=ak (show R=agi true (pfL s f V args) by rw[HR.o,dh (by decide),dw (by decide)];rfl);clear Kt Kv HVV Ur HR HDC Jb;go_enter Tryz.func128,Tryz.ntmps128
   go_upto_region 1 with fail
   rw[<-dW];clear dW;go_wp2_with fail
   clear f0 f1 f2 f3 f4 f5 ff e0 e1 e2 ef nP;go_loopw [7,39] (aOv s f V args true na w.heap.size M (.cells #[.slice sa sn sc,.map (some bm),.slice fa fn fc] 183 (0,0)) (.cells #[.int .i64 8,.string name,.slice aw nw cw,.int .i64 lo,.int .i64 hi,.slice aa na ca] 45 (0,0)) w) (fun _ i _=>na - (intOf i).toNat)
   case atStart=>exact⟨0,[],rfl,by omega,fun j _ h=>by omega,⟨rfl,Or.inl ⟨rfl,rfl⟩⟩,Oy.nil _,HB0.o,HB1.o,HB2.o,fE.o⟩
   case round =>
    obtain⟨k,vs,rfl,hk,hno,hown,VY,hb0,hb1,hb2,hxr⟩:=hrel;have lZ:=ak hno;have HOWN:=ak hown;have aea:=ak VY;have kC:=ak hxr;have Zo:=ak hb0;have qw:=ak hb1;have HC2:=ak hb2;obtain⟨e0,e1,e2,ef⟩:=fZ hb0;have hlt2:=dH hb2;clear hno hown VY hxr hb0 hb1 hb2;by_cases hkn:k<na
    ·have hka:k<args.length:=by have:=nK.o;omega
     have t1:=ah ((k:Int)<(na:Int));obtain⟨xb,xo,rfl,rJ,rF,rH,rM,rG,ca1,g0,g1,g2,g3,g4,g5,g6⟩:=iK.at args _ (iK.ext kC.o args _ HX.o) k hka;have G6:=ak g6;obtain⟨q,hq⟩:∃q,q=pfE s f V args[k]:=⟨_,rfl⟩
     have xK:=ak (fun (N:ZN) W (hW:Ext wr W) (hN:∀y∈N,y<W.heap.size)=>qx.o k hka _ N W (kC.o.trans hW) hN (G6.o.ext hW));rw[<-hq] at xK;have HQK:=ak hq;unfold exV at xK;clear hq g6;go_upto_region 12 with fail
     obtain⟨y,hy⟩:∃y:Nat,y=wr.heap.size:=⟨_,rfl⟩
     obtain⟨w1,hw1⟩:∃w1,w1=wr.alloc (.cells #[.int .i64 args[k].op,.string args[k].name,.slice rJ rF rH,.int .i64 args[k].lo,.int .i64 args[k].hi,.slice rM rG ca1] 45):=⟨_,rfl⟩
     have hx1:Ext wr w1:=by rw[hw1];exact(Ext.refl wr).alloc _
     have lV:=ak (show w1.heap[y]?=some (.cells #[.int .i64 args[k].op,.string args[k].name,.slice rJ rF rH,.int .i64 args[k].lo,.int .i64 args[k].hi,.slice rM rG ca1] 45 (0,0)) by rw[hw1,hy];exact dG wr _);rw[<-hw1,<-hy];clear hw1 hy;have fQ:=ak (kC.o.trans hx1);have aJD:=ak (fun (N:ZN) (hN:∀y∈N,y<w1.heap.size)=>xK.o N w1 hx1 hN);have HD0:=ak (hx1.blk Zo.o);have HD1:=ak (hx1.blk qw.o);have HD2:=ak (hx1.blk HC2.o);have axp:=ak (jF HOWN.o hx1);have amw:=ak (aea.o.mono (iy _ hx1));have Zw:=ak (show ∀z∈rowOf u7,w.heap.size+3<=z/\z<w1.heap.size from fun z hz=>by have h1:=HOWN.o.lt z (dK.1 hz);have h2:=hx1.size;omega);clear e0 e1 e2 ef g0 g1 g2 g3 g4 g5 hlt2 hx1 Zo qw HC2 HOWN aea xK;obtain⟨e0,e1,e2,ef⟩:=fZ HD0.o;obtain⟨g0,g1,g2,g3,g4,g5,gf⟩:=eP lV.o;go_wp2_with fail
     refine(aJD.o (rowOf u7++(w.heap.size+1+1)::M) (fun z hz=>by
      rcases aT.1 hz with h|h
      ·exact(Zw.o z h).2
      have h1:=dH HD2.o;have h2:=fQ.o.size;rcases bK.1 h with rfl|h
      ·omega
      have:=HM.o z h;omega)).mono ?_
     rintro r w5 ⟨pv,rfl,hpv,hx5⟩;have jY:=ak (fQ.o.trans hx5);have HE0:=ak (hx5.blk HD0.o);have yS:=ak (hx5.blk HD1.o);have HE2:=ak (hx5.blk HD2.o);have PE:=ak hpv;have HPP:=ak hpv.parts.1;have amy:=ak (jF axp.o hx5);have axk:=ak (amw.o.mono (iy _ hx5));have aJu:=ak (show ∀z∈rowOf u7,w.heap.size+3<=z/\z<w5.heap.size from fun z hz=>by have h1:=Zw.o z hz;have h2:=hx5.size;omega);clear hx5 hpv e0 e1 e2 ef g0 g1 g2 g3 g4 g5 gf HD0 HD1 HD2 axp amw Zw aJD;obtain⟨pb,pk,pa,pn,pc⟩:=pv;unfold jP.val;simp only at HPP;cases pb
     case true =>
      have XJ:=dH HE2.o;obtain⟨r0,r1,r2,rf⟩:=fZ HE2.o;have HZ:=ak (show _/\_ from yu (w:=w) (W:=(w5.alloc (.cells #[.bool true,.int .i64 pk,.slice pa pn pc] 67)).alloc (.cells #[.bool true,.int .i64 pk,.slice pa pn pc] 67)) (B:=w.heap.size+1+1) (M:=M) (pv:=⟨true,k,some ⟨w5.heap.size+1,0,none⟩,1,1⟩) (dJ (dJ HE2.o)) (by omega) ((jY.o.alloc _).alloc _)
       (xE (v:=⟨true,pk,pa,pn,pc⟩) (t:=67) (eH (by simp)) (fun hy=>by
        have h2:=jY.o.size;simp only[bK] at hy;rcases hy with hy|hy
        ·omega
        have:=HM.o _ hy;omega) ((PE.o.mono (eG _ (fun y hy=>aS _ hy))).mono (iy _ (((Ext.refl w5).alloc _).alloc _))) true k))
      simp only at HZ;obtain⟨s0,s1,s2,sf⟩:=fZ (show ((w5.alloc (.cells #[.bool true,.int .i64 pk,.slice pa pn pc] 67)).alloc (.cells #[.bool true,.int .i64 pk,.slice pa pn pc] 67)).heap[w.heap.size+1+1]?=some (.cells #[.bool false,.int .i64 0,.slice none 0 0] 67 (0,0)) from dJ (dJ HE2.o));have HF:=ak (show R=.mk true k [q] by
       rw[HQ.o];refine ajT (by rw[agu hka,HQK.o]) HPP.o.symm fun j q' hj hq'=>?_
       rw[agu (by omega)] at hq';obtain rfl:=Option.some.inj hq';exact lZ.o j (by omega) hj)
      go_wp2_with fail
      obtain⟨wz,hwz⟩:∃wz,wz=oq ((w5.alloc (.cells #[.bool true,.int .i64 pk,.slice pa pn pc] 67)).alloc (.cells #[.bool true,.int .i64 pk,.slice pa pn pc] 67)) (w.heap.size+1+1) (.bool true) (.int .i64 (k:Int)) (.slice (some ⟨w5.heap.size+1,0,none⟩) 1 1):=⟨_,rfl⟩
      rw[<-hwz] at HZ;unfold oq at hwz;rw[<-hwz];clear hwz;obtain⟨z0,z1,z2,zf⟩:=fZ HZ.o.1;refine bodyPost_ret (v:=jP.val ⟨true,k,some ⟨w5.heap.size+1,0,none⟩,1,1⟩) (by simp[results,Tryz.results128,go_sem,jP.val,z0,z1,z2]) rfl ?_;rw[HF.o];exact HZ.o.2
     case false =>
      go_upto_region 15 with fail
      obtain⟨w6,hw6⟩:∃w6,w6=w5.alloc (.cells #[.bool false,.int .i64 pk,.slice pa pn pc] 67):=⟨_,rfl⟩
      obtain⟨y6,hy6⟩:∃y6:Nat,y6=w5.heap.size:=⟨_,rfl⟩
      have hx6:Ext w5 w6:=by rw[hw6];exact(Ext.refl w5).alloc _
      have nM:=ak (show w6.heap[y6]?=some (.cells #[.bool false,.int .i64 pk,.slice pa pn pc] 67 (0,0)) by rw[hw6,hy6];exact dG w5 _);rw[<-hw6,<-hy6];clear hw6 hy6;have oL:=ak (jY.o.trans hx6);have HF0:=ak (hx6.blk HE0.o);have HF1:=ak (hx6.blk yS.o);have HF2:=ak (hx6.blk HE2.o);have aJR:=ak (jF amy.o hx6);have aJC:=ak (axk.o.mono (iy _ hx6));have aRR:=ak (PE.o.mono (iy _ hx6));have asV:=ak (show ∀z∈rowOf u7,w.heap.size+3<=z/\z<w6.heap.size from fun z hz=>by have h1:=aJu.o z hz;have h2:=hx6.size;omega);have hs6:=oL.o.size;clear hx6 HE0 yS HE2 amy axk PE aJu;obtain⟨u0,u1,u2,uf⟩:=fZ nM.o;have FT:=dH HF2.o;go_wp2_with (at_builtin;refine fK adQ rfl _ _ rfl (w.heap.size+3) _ k _ rfl aJR.o _ 1 1 rfl ?f0 rfl ?f1 ?f2 ?f3 ?f4 ?_)
      case f0=>simp
      case f1=>simp[Value.oneCell']
      case f2=>unfold maxLen;omega
      case f3=>omega
      case f4=>omega
      intro v8 w8 ig hc8 hw8;have GK:=ak (show w8.ownsRow (w.heap.size+3) 67 3 v8 (k+1) ((vs++[(⟨false,pk,pa,pn,pc⟩:jP)]).flatMap jP.cells) by simpa[jP.cells] using ig);have s2:Sub (mask w6 (rowOf u7++(w.heap.size+1+1)::M)) (mask w8 (rowOf v8++(w.heap.size+1+1)::M)):=ags hc8 hw8;have HP8:=ak (show Oy (mask w8 (rowOf v8++(w.heap.size+1+1)::M)) ((args.take (k+1)).map (pfE s f V)) (vs++[(⟨false,pk,pa,pn,pc⟩:jP)]) by
       rw[UA hka,<-HQK.o];exact(aJC.o.mono s2).snoc (aRR.o.mono s2))
      have HG0:=ak (hc8.blk HF0.o (fun hm=>by have:=(asV.o _ hm).1;omega));have Yo:=ak (hc8.blk HF1.o (fun hm=>by have:=(asV.o _ hm).1;omega));have HG2:=ak (hc8.blk HF2.o (fun hm=>by have:=(asV.o _ hm).1;omega));have rD:=ak (hc8.ext oL.o (fun z hz=>by have:=(asV.o z hz).1;omega));obtain⟨a8,c8,OI⟩:=iG ig;subst OI;clear ig hc8 hw8 s2 u0 u1 u2 uf hs6 FT;go_wp2_with fail
      go_roundw
      case rel =>
       refine⟨k+1,_,by go_num,by omega,fun j hj hjk=>?_,GK.o,HP8.o,HG0.o,Yo.o,HG2.o,rD.o⟩;by_cases e:j=k
       ·subst e;rw[<-HQK.o,<-HPP.o];simp
       exact lZ.o j hj (by omega)
      case measure=>simp[intOf];omega
    have t1:=aj ((k:Int)<(na:Int));obtain rfl:k=na:=by omega
    have hl0:((args.take k).map (pfE s f V))=pfL s f V args:=by rw[TG,aY (by have:=nK.o;omega)]
    have hkl:(pfL s f V args).length=k:=by rw[TG];simpa using nK.o.symm
    have hps:=aea.o;have hos:=HOWN.o;rw[hl0] at hps;rw[<-hkl] at hos;obtain⟨a',c',rfl,hip⟩:=aaj (M:=(w.heap.size+1+1)::M) hos (fun z hz hm=>by
     have h1:=(HOWN.o.lt z hz).1;simp only[bK] at hm;rcases hm with hm|hm
     ·omega
     have:=HM.o z hm;omega) (hps.mono (eG _ (fun y hy=>aS _ hy))) false (-1)
    have HF:=ak (show R=.mk false (-1) (pfL s f V args) by
     rw[HQ.o];exact agh fun j q' hq'=>by
      have hj:j<args.length:=by
       have:=(List.getElem?_eq_some_iff.1 hq').1;rw[hkl] at this;have:=nK.o;omega
      rw[agu hj] at hq';obtain rfl:=Option.some.inj hq';exact lZ.o j hj (by have:=nK.o;omega))
    rw[hkl] at hip ⊢;have HIP:=ak hip;have HZ:=ak (show _/\_ from yu (w:=w) (W:=wr) (B:=w.heap.size+1+1) (M:=M) (pv:=⟨false,-1,a',k,c'⟩) HC2.o (by omega) kC.o HIP.o);simp only at HZ;obtain⟨r0,r1,r2,rf⟩:=fZ HC2.o;clear hps hos hl0 hip hkl;go_wp2_with fail
    obtain⟨wz,hwz⟩:∃wz,wz=oq wr (w.heap.size+1+1) (.bool false) (.int .i64 (-1)) (.slice a' k c'):=⟨_,rfl⟩
    rw[<-hwz] at HZ;unfold oq at hwz;rw[<-hwz];clear hwz;obtain⟨z0,z1,z2,zf⟩:=fZ HZ.o.1;refine bodyPost_ret (v:=jP.val ⟨false,-1,a',k,c'⟩) (by simp[results,Tryz.results128,go_sem,jP.val,z0,z1,z2]) rfl ?_;rw[HF.o];exact HZ.o.2
theorem RN.prove {w:World} {s:List Attr} {l:List dY} {e:Ex} {f:ZI} (ho:Zh s l e f) {lv:jH} {nm:Nat} {ev:Value} (M:ZN) (hM:∀y∈M,y<w.heap.size) (hl:Gy w s l f lv nm) (he:fC w e ev):Calls Tryz.prog 128 #[lv.val,ev] w (J6 (pf s l f e) M w) :=
 auU s l f ho.chk ho.facts lv nm (l.length+1) 300 e ev M w ho.size (by omega) ho.tree ho.node ho.exp hM hl he
def prN:Value:=.agg #[.bool false,.int .i64 0,.slice none 0 0]
def aiV (s:List Attr) (l:List dY) (e:Ex) (f:ZI) (M:ZN) (w:World) (r:Ending) (w':World):Prop:=Ext w w'/\((lY s l e f≠0/\r=.returned (.tuple #[prN,.int .i64 (lY s l e f)]))\/(lY s l e f=0/\∃pv:jP,r=.returned (.tuple #[pv.val,.int .i64 0])/\jK (mask w' M) (pf s l f e) pv))
theorem O1 (s:List Attr) (l:List dY) (e:Ex) (f:ZI) (sv ev:Value) (a:OA) (n c:Nat) (fa:OA) (fn fc:Nat) (M:ZN) (w:World) (hi:RN w s l e f sv ev a n c fa fn) (hM:∀y∈M,y<w.heap.size) :
  Calls Tryz.prog 98 #[sv,.slice a n c,ev,.slice fa fn fc] w (aiV s l e f M w):=by
 obtain⟨sa,sn,sc,rfl,-⟩:=hi.DK.slice;have vP:=ak (fun W (hW:Ext w W)=>(hi.ext hW).checked fc);obtain⟨aw,nw,cw,aa,na,ca,rfl,-⟩:=hi.ex.parts;have HVA:=ak (fun (h0:lY s l e f=0) (lv:jH) (N:ZN) W (hW:Ext w W) (hN:∀y∈N,y<W.heap.size) (hl:Gy W s l f lv n)=>RN.prove (Il h0) N hN hl (hi.ex.ext hW));unfold WR at vP;obtain⟨RQ,hRQ⟩:∃RQ,RQ=aiV s l e f M w:=⟨_,rfl⟩
 rw[<-hRQ];unfold aiV at hRQ;obtain⟨E,hE⟩:∃E,E=lY s l e f:=⟨_,rfl⟩
 rw[<-hE] at vP HVA hRQ;obtain⟨q,hq⟩:∃q,q=pf s l f e:=⟨_,rfl⟩
 rw[<-hq] at HVA hRQ;have HRQ:=ak hRQ;have HM:=ak hM;clear hi hE hq hRQ hM;unfold exV at *;obtain⟨wa,dW⟩:∃wa,wa=((w.alloc (.cells #[.slice sa sn sc] 24)).alloc (.cells #[.int .i64 e.op,.string e.name,.slice aw nw cw,.int .i64 e.lo,.int .i64 e.hi,.slice aa na ca] 45)).alloc (.cells #[.bool false,.int .i64 0,.slice none 0 0] 67):=⟨_,rfl⟩
 have hxa:Ext w wa:=by rw[dW];exact(((Ext.refl _).alloc _).alloc _).alloc _
 have hb0:wa.heap[w.heap.size]?=some (.cells #[.slice sa sn sc] 24 (0,0)):=by rw[dW];exact dJ (dJ (dG w _))
 have hb1:wa.heap[w.heap.size+1]?=some (.cells #[.int .i64 e.op,.string e.name,.slice aw nw cw,.int .i64 e.lo,.int .i64 e.hi,.slice aa na ca] 45 (0,0)):=by rw[dW];exact dJ (eH (by simp))
 have hb2:wa.heap[w.heap.size+1+1]?=some vw:=by rw[dW];exact eH (by simp)
 have fE:=ak hxa;have HB1:=ak hb1;have HB2:=ak hb2;obtain⟨e0,ef⟩:=gQ hb0;obtain⟨f0,f1,f2,f3,f4,f5,ff⟩:=eP hb1;clear hxa hb0 hb1 hb2;go_enter Tryz.func98,Tryz.ntmps98
 go_upto_region 1 with fail
 rw[<-dW];clear dW;go_wp2_with fail
 refine(vP.o wa fE.o).mono ?_;rintro r w1 ⟨hx1,⟨hz,rfl⟩|⟨hz,lv,rfl,hls⟩⟩
 ·have t1:(E != 0)=true:=by simp[hz]
  have HZ:=ak hz;have fQ:=ak (fE.o.trans hx1);have SV:=ak (hx1.blk HB2.o);clear hx1 hz e0 ef f0 f1 f2 f3 f4 f5 ff vP HVA;unfold uz;obtain⟨w2,hw2⟩:∃w2,w2=w1.alloc (.cells #[.slice none 0 0,.map none,.slice none 0 0] 183):=⟨_,rfl⟩
  have hx2:Ext w1 w2:=by rw[hw2];exact(Ext.refl _).alloc _
  go_upto_region 2 with fail
  rw[<-hw2];clear hw2;have gI:=ak (fQ.o.trans hx2);have abk:=ak (hx2.blk SV.o);clear hx2 SV fQ;obtain⟨r0,r1,r2,rf⟩:=fZ abk.o;have XJ:=dH abk.o;go_wp2_with fail
  obtain⟨wz,hwz⟩:∃wz,wz=oq w2 (w.heap.size+1+1) (.bool false) (.int .i64 0) (.slice none 0 0):=⟨_,rfl⟩
  have HZB:=ak (show wz.heap[w.heap.size+1+1]?=some (.cells #[.bool false,.int .i64 0,.slice none 0 0] 67 (0,0)) by rw[hwz];exact xC abk.o _ _ _);have yC:=ak (show Ext w wz by rw[hwz];exact(xB w2 (w.heap.size+1+1) (.bool false) (.int .i64 0) (.slice none 0 0) (N:=[w.heap.size+1+1]) (by simp)).ext gI.o (fun y hy=>by simp only[aK] at hy;omega));unfold oq at hwz;rw[<-hwz];clear hwz;obtain⟨z0,z1,z2,zf⟩:=fZ HZB.o;refine bodyPost_ret (v:=.tuple #[prN,.int .i64 E]) (by simp[results,Tryz.results98,go_sem,prN,z0,z1,z2]) rfl ?_;rw[HRQ.o];exact⟨yC.o,Or.inl ⟨HZ.o,rfl⟩⟩
 have fQ:=ak (fE.o.trans hx1);have uh:=ak (hx1.blk HB1.o);have SV:=ak (hx1.blk HB2.o);have HLS:=ak hls;subst hz;obtain⟨la,ln,lc,bm,fa',fn',fc'⟩:=lv;have HVV:=ak (fun (N:ZN) W (hW:Ext w1 W) hN=>HVA.o rfl ⟨la,ln,lc,bm,fa',fn',fc'⟩ N W (fQ.o.trans hW) hN (HLS.o.ext hW));clear hx1 hls e0 ef f0 f1 f2 f3 f4 f5 ff vP HVA;unfold jH.val at *;simp only at *;go_upto_region 2 with fail
 obtain⟨y,hy⟩:∃y:Nat,y=w1.heap.size:=⟨_,rfl⟩
 obtain⟨w2,hw2⟩:∃w2,w2=w1.alloc (.cells #[.slice la ln lc,.map (some bm),.slice fa' fn' fc'] 183):=⟨_,rfl⟩
 have hx2:Ext w1 w2:=by rw[hw2];exact(Ext.refl _).alloc _
 have HBL:=ak (show w2.heap[y]?=some (.cells #[.slice la ln lc,.map (some bm),.slice fa' fn' fc'] 183 (0,0)) by rw[hw2,hy];exact dG w1 _);rw[<-hw2,<-hy];clear hw2 hy;have gI:=ak (fQ.o.trans hx2);have abk:=ak (hx2.blk SV.o);obtain⟨f0,f1,f2,f3,f4,f5,ff⟩:=eP (hx2.blk uh.o);obtain⟨l0,l1,l2,lf⟩:=fZ HBL.o;have HVW:=ak (fun (N:ZN) hN=>HVV.o N w2 hx2 hN);clear hx2 uh SV HVV;go_wp2_with fail
 refine(HVW.o ((w.heap.size+1+1)::M) (fun z hz=>by
  have h1:=dH abk.o;have h2:=gI.o.size;simp only[bK] at hz;rcases hz with rfl|hz
  ·omega
  have:=HM.o z hz;omega)).mono ?_
 rintro r w5 ⟨pv,rfl,hpv,hx5⟩;have jY:=ak (gI.o.trans hx5);have acn:=ak (hx5.blk abk.o);have PE:=ak hpv;clear hx5 hpv f0 f1 f2 f3 f4 f5 ff l0 l1 l2 lf;obtain⟨pb,pk,pa,pn,pc⟩:=pv;unfold jP.val;obtain⟨r0,r1,r2,rf⟩:=fZ acn.o;have XJ:=dH acn.o;have HZ:=ak (yu (w:=w) (M:=M) (pv:=⟨pb,pk,pa,pn,pc⟩) acn.o (by omega) jY.o PE.o);simp only at HZ;go_wp2_with fail
 obtain⟨wz,hwz⟩:∃wz,wz=oq w5 (w.heap.size+1+1) (.bool pb) (.int .i64 pk) (.slice pa pn pc):=⟨_,rfl⟩
 rw[<-hwz] at HZ;unfold oq at hwz;rw[<-hwz];clear hwz;obtain⟨z0,z1,z2,zf⟩:=fZ HZ.o.1;refine bodyPost_ret (v:=.tuple #[jP.val ⟨pb,pk,pa,pn,pc⟩,.int .i64 0]) (by simp[results,Tryz.results98,go_sem,jP.val,z0,z1,z2]) rfl ?_;rw[HRQ.o];obtain⟨pv',hpe,hpi,hpx⟩:=HZ.o.2;exact⟨hpx,Or.inr ⟨by first|rfl|trivial,pv',by
  have:(jP.val ⟨pb,pk,pa,pn,pc⟩)=pv'.val:=by simpa using hpe
  rw[this],hpi⟩⟩
theorem oO {w:World} {b i:Nat} {cs:Array Value} {t:TypeId} (h:w.heap[b]?=some (.cells cs t (0,0))) (v:Value):(w.setCell ⟨b,i,none⟩ v).heap[b]?=some (.cells (cs.setIfInBounds i v) t (0,0)):=Go.heap_setCell_same w b i cs t v h
theorem pG (w:World) (b i:Nat) (v:Value):dO [b] w (w.setCell ⟨b,i,none⟩ v):=(dO.refl _ w).setCell (Or.inl (by simp)) _
theorem kW {W W':World} {K N:ZN} (h:dO K W W') (hk:∀y∈K,y∈N):Sub (mask W N) (mask W' N):=fA h fun y hy=>Or.inl (hk y hy)
theorem ak7 {w:World} {a:OA} {n:Nat} (h:gB w a n):∃f,fO w f a n/\f.length=n:=by
 have key:∀k,k<=n->∃f:ZI,f.length=k/\∀i (hi:i<f.length),∃b off,a=some ⟨b,off,none⟩/\w.cell? ⟨b,off+i,none⟩=some (.int .i64 f[i]):=by
  intro k;induction k with
  | zero=>intro _;exact⟨[],rfl,fun i hi=>by simp at hi⟩
  | succ k ih =>
   intro hk;obtain⟨f,hl,hf⟩:=ih (by omega);obtain⟨b,off,z,e,hc⟩:=h k (by omega);refine⟨f++[z],by simp[hl],fun i hi=>?_⟩;by_cases h2:i<f.length
   ·rw[bT h2];exact hf i h2
   have:i=k:=by simp at hi;omega
   subst this;rw[cZ (by omega)];simp only[List.getElem_singleton];exact⟨b,off,e,hc⟩
 obtain⟨f,hl,hf⟩:=key n (bg _);exact⟨f,⟨hl.symm,hf⟩,hl⟩
end Go.Proofs.YtefjomofjejklaaGreatDoor
