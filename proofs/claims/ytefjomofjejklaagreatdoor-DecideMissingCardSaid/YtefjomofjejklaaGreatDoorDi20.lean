/- Joined. -/
import Derived.Test.YtefjomofjejklaaGreatDoorDi19
namespace Go.Proofs.YtefjomofjejklaaGreatDoor
set_option maxRecDepth 100000
set_option maxHeartbeats 32000000
open Go.RowKit Go.Maps
def aqT (d:rT) (c:cK):rT :=
 if c.kind=5 then (if d.lim<0\/c.ck<d.lim then { d with lim:=c.ck } else d)
 else if c.kind=6 then { d with xV:=max d.xV c.ck }
 else if c.kind=7 then { d with xU:=max d.xU c.ck }
 else if c.kind=8 then { d with xN:=max d.xN c.ck }
 else if c.kind=9 then { d with Bt:=true } else d
def Hw (d:rT) (L:List cK):rT:=L.foldl aqT d
theorem ay7 (d:rT) {L:List cK} {k:Nat} (hk:k<L.length):Hw d (L.take (k+1))=aqT (Hw d (L.take k)) L[k]:=by
 unfold Hw;rw[aO hk,List.foldl_append]
 rfl
def lJ:ZI:=[5,6,7,8,9]
theorem aHI (V:Ex->Bool) (d:rT) (x:cK):(if (lJ.any (·==x.kind)&&ke V x)=true then aqT d x else d)=⟨d.oP,N8 V d.lim x,pO V 6 d.xV x,pO V 7 d.xU x,pO V 8 d.xN x,d.Bt||(x.kind==9&&(ke V x != false))⟩:=by
 unfold N8 pO aqT lJ;obtain⟨kd,nm,c,u,am⟩:=x;obtain⟨a,b,d6,d7,d8,d9⟩:=d;simp only[List.any_cons,List.any_nil,Bool.or_false];generalize ke V ⟨kd,nm,c,u,am⟩=Q;by_cases h5:kd=5
 ·subst h5;cases Q<;>simp<;>(split<;>rfl)
 by_cases h6:kd=6
 ·subst h6;cases Q<;>simp
 by_cases h7:kd=7
 ·subst h7;cases Q<;>simp
 by_cases h8:kd=8
 ·subst h8;cases Q<;>simp
 by_cases h9:kd=9
 ·subst h9;cases Q<;>simp
 have e5:((5:Int)==kd)=false:=by simp;omega
 have e6:((6:Int)==kd)=false:=by simp;omega
 have e7:((7:Int)==kd)=false:=by simp;omega
 have e8:((8:Int)==kd)=false:=by simp;omega
 have e9:((9:Int)==kd)=false:=by simp;omega
 have f5:(kd==5)=false:=by simp;omega
 have f6:(kd==6)=false:=by simp;omega
 have f7:(kd==7)=false:=by simp;omega
 have f8:(kd==8)=false:=by simp;omega
 have f9:(kd==9)=false:=by simp;omega
 simp[e5,e6,e7,e8,e9,f5,f6,f7,f8,f9]
theorem Fh (V:Ex->Bool):(l:List cK)->(d:rT)->Hw d ((kS lJ l).filter (ke V))=⟨d.oP,l.foldl (N8 V) d.lim,l.foldl (pO V 6) d.xV,l.foldl (pO V 7) d.xU,l.foldl (pO V 8) d.xN,d.Bt||jC V 9 false l⟩
 | [],d=>by cases d;simp[Hw,kS,jC]
 | x::r,d=>by
  have ih:=Fh V r (if (lJ.any (·==x.kind)&&ke V x)=true then aqT d x else d);have e:Hw d ((kS lJ (x::r)).filter (ke V))=Hw (if (lJ.any (·==x.kind)&&ke V x)=true then aqT d x else d) ((kS lJ r).filter (ke V)):=by
   unfold kS;rw[List.filter_cons];cases lJ.any (·==x.kind)
   ·simp
   cases hq:ke V x
   ·simp[hq]
   simp[hq,Hw]
  rw[e,ih,aHI];simp only[aX,jC,Bool.or_assoc]
theorem zD (V:Ex->Bool) (k:Int) (neg B:Bool) (hB:B=!neg):(l:List cK)->((kS [k] l).any fun x=>ke V x==B)=jC V k neg l
 | []=>rfl
 | x::r=>by
  have ih:=zD V k neg B hB r;rw[jC,<-ih];unfold kS;rw[List.filter_cons];have e:([k].any (·==x.kind))=(x.kind==k):=by
   simp only[List.any_cons,List.any_nil,Bool.or_false];by_cases h:x.kind=k
   ·rw[h]
   rw[beq_eq_false_iff_ne.2 h,beq_eq_false_iff_ne.2 (fun e=>h e.symm)]
  rw[e];cases x.kind==k
  ·simp
  subst hB;rw[bM rfl,List.any_cons]
  congr 1
  cases ke V x<;>cases neg<;>rfl
theorem Ox {w:World} {B:Nat} {d d':rT} (i:Nat) (v:Value) (h:w.heap[B]?=some (EA d)) (e:d.cells.setIfInBounds i v=d'.cells):(w.setCell ⟨B,i,none⟩ v).heap[B]?=some (EA d'):=by
 have:=aI w B i _ _ v h;rw[e] at this;exact this
theorem MN (L:List cK) (a:OA) (n c:Nat) (w:World) (hl:cZ w L a n c) (hn:n<=1000000) :
  Calls Tryz.prog 34 #[.slice a n c] w (cz (.agg (Hw ⟨4,-1,0,0,0,false⟩ L).cells) w):=by
 have HL:=ai hl;have HN:=ai hl.len;obtain⟨D0,hD0⟩:∃D0:rT,D0=⟨4,-1,0,0,0,false⟩:=⟨_,rfl⟩
 rw[<-hD0];obtain⟨R,hR⟩:∃R,R=Hw D0 L:=⟨_,rfl⟩
 rw[<-hR];have HR:=ai hR;have HD0:=ai hD0;clear hl hR hD0;obtain⟨wa,cN⟩:∃wa,wa=(w.alloc (.cells #[.int .i64 0,.int .i64 0,.int .i64 0,.int .i64 0,.int .i64 0,.bool false] 29)).alloc (.cells #[.int .i64 4,.int .i64 (-1),.int .i64 0,.int .i64 0,.int .i64 0,.bool false] 29):=⟨_,rfl⟩
 have dm:=ai (show Ext w wa by rw[cN];exact((Tz _).alloc _).alloc _);have HA:=ai (show wa.heap[w.heap.size]?=some (EA ⟨0,0,0,0,0,false⟩) by rw[cN];exact bU (bR w _));have HB:=ai (show wa.heap[w.heap.size+1]?=some (EA D0) by rw[cN,HD0.o];exact cT (by simp));go_enter Tryz.func34,Tryz.ntmps34
 go_upto_region 2 with fail
 rw[<-cN];clear cN;obtain⟨b0,hb0⟩:∃b0,b0=w.heap.size:=⟨_,rfl⟩
 rw[<-hb0] at HA HB ⊢;have hlo:w.heap.size<=b0:=by omega
 clear hb0;go_wp2_with fail
 go_loopw [9] (fun i wr=>∃(k:Nat) (d:rT),i=.int .i64 k/\k<=n/\d=Hw D0 (L.take k)/\wr.heap[b0]?=some (EA ⟨0,0,0,0,0,false⟩)/\wr.heap[b0+1]?=some (EA d)/\Ext w wr) (fun i _=>n - (intOf i).toNat)
 case atStart=>exact⟨0,D0,rfl,Nat.zero_le _,rfl,HA.o,HB.o,dm.o⟩
 case round =>
  obtain⟨k,d,rfl,hk,hd,h0,h1,hx⟩:=hrel;have HD:=ai hd;have H0:=ai h0;have H1:=ai h1;have HX:=ai hx;have kI:=bS h1;clear hd h0 h1 hx HA HB dm;by_cases hlt:k<n
  ·have fq:k<L.length:=by have:=HN.o;omega
   have t1:=ag ((k:Int)<(n:Int));obtain⟨cb,ld,v,rfl,fO,hrow⟩:=HL.o.at fq;obtain⟨c0,c1,c2,c3,c4,c5,c6,c7,c8,c9⟩:=(hrow.mono HX.o.sub).BB;have HST:=ai (show Hw D0 (L.take (k+1))=aqT d L[k] by rw[ay7 D0 fq,HD.o]);have hvk:v.kind=L[k].kind:=fO.1;have hva:v.ck=L[k].ck:=fO.2.2.2.2.2.2.2;unfold aqT at HST;rw[<-hvk,<-hva] at HST;clear fO hrow hvk hva;obtain⟨wb,iV⟩:∃wb,wb=wr.alloc (.cells #[ v.kind,.string v.name,v.x.op,.string v.x.name,.slice v.x.aw v.x.nw v.x.cw,v.x.lo,v.x.hi,.slice v.x.aa v.x.na v.x.ca,.slice v.au v.nu v.cu,v.ck] 48):=⟨_,rfl⟩
   have jK:=ai (show Ext wr wb by rw[iV];exact(Tz _).alloc _);have hb:=(show wb.heap[wr.heap.size]?=some (.cells #[ v.kind,.string v.name,v.x.op,.string v.x.name,.slice v.x.aw v.x.nw v.x.cw,v.x.lo,v.x.hi,.slice v.x.aa v.x.na v.x.ca,.slice v.au v.nu v.cu,v.ck] 48 (0,0)) by rw[iV];exact bR wr _)
   obtain⟨f0,f1,f2,f3,f4,f5,f6,f7,f8,f9,ff⟩:=rK hb;have G0:=ai (jK.o.blk H0.o);have G1:=ai (jK.o.blk H1.o);have yx:=ai (HX.o.trans jK.o);have g1:=G1.o;unfold EA rT.cells at g1;obtain⟨d0,d1,d2,d3,d4,d5,df⟩:=dH g1;go_upto_region 5 with fail
   rw[<-iV];clear iV hb c0 c1 c2 c3 c4 c5 c6 c7 c8 c9 g1 H0 H1 HX jK;by_cases k5:v.kind=5
   ·have q5:(v.kind==5)=true:=by simp[k5]
    rw[bM k5] at HST;clear k5;cases t2:decide (d.lim<0)
    ·cases t3:decide (v.ck<d.lim)
     ·have HQ:=ai (show Hw D0 (L.take (k+1))=d by rw[HST.o,bL];simp only[bI] at t2 t3;omega);go_wp2_with fail
      go_roundw
      case rel=>exact⟨k+1,d,by go_num,by omega,HQ.o.symm,G0.o,G1.o,yx.o⟩
      case measure=>simp[intOf];omega
     have HQ:=ai (show Hw D0 (L.take (k+1))={ d with lim:=v.ck } by rw[HST.o,bM (a4Z (of_decide_eq_true t3))]);go_wp2_with fail
     go_roundw
     case rel=>exact⟨k+1,{ d with lim:=v.ck },by go_num,by omega,HQ.o.symm,(show ct [b0+1] wb (wb.setCell ⟨b0+1,1,none⟩ (.int .i64 v.ck)) from(ct.refl _ _).setCell (aoX (by simp)) _).blk G0.o (by simp),Ox 1 (.int .i64 v.ck) G1.o rfl,(show ct [b0+1] wb (wb.setCell ⟨b0+1,1,none⟩ (.int .i64 v.ck)) from(ct.refl _ _).setCell (aoX (by simp)) _).ext yx.o (by simp;omega)⟩
     case measure=>simp[intOf];omega
    have HQ:=ai (show Hw D0 (L.take (k+1))={ d with lim:=v.ck } by rw[HST.o,bM (aoX (of_decide_eq_true t2))]);go_wp2_with fail
    go_roundw
    case rel=>exact⟨k+1,{ d with lim:=v.ck },by go_num,by omega,HQ.o.symm,(show ct [b0+1] wb (wb.setCell ⟨b0+1,1,none⟩ (.int .i64 v.ck)) from(ct.refl _ _).setCell (aoX (by simp)) _).blk G0.o (by simp),Ox 1 (.int .i64 v.ck) G1.o rfl,(show ct [b0+1] wb (wb.setCell ⟨b0+1,1,none⟩ (.int .i64 v.ck)) from(ct.refl _ _).setCell (aoX (by simp)) _).ext yx.o (by simp;omega)⟩
    case measure=>simp[intOf];omega
   have q5:(v.kind==5)=false:=by simp[k5]
   rw[bL k5] at HST;clear k5;by_cases k6:v.kind=6
   ·have q6:(v.kind==6)=true:=by simp[k6]
    rw[bM k6] at HST;have HQ:=ai (show Hw D0 (L.take (k+1))={ d with xV:=max d.xV v.ck } from HST.o);clear k6;go_wp2_with fail
    go_roundw
    case rel=>exact⟨k+1,{ d with xV:=max d.xV v.ck },by go_num,by omega,HQ.o.symm,(show ct [b0+1] wb (wb.setCell ⟨b0+1,2,none⟩ (.int .i64 (max d.xV v.ck))) from(ct.refl _ _).setCell (aoX (by simp)) _).blk G0.o (by simp),Ox 2 (.int .i64 (max d.xV v.ck)) G1.o rfl,(show ct [b0+1] wb (wb.setCell ⟨b0+1,2,none⟩ (.int .i64 (max d.xV v.ck))) from(ct.refl _ _).setCell (aoX (by simp)) _).ext yx.o (by simp;omega)⟩
    case measure=>simp[intOf];omega
   have q6:(v.kind==6)=false:=by simp[k6]
   rw[bL k6] at HST;clear k6;by_cases k7:v.kind=7
   ·have q7:(v.kind==7)=true:=by simp[k7]
    rw[bM k7] at HST;have HQ:=ai (show Hw D0 (L.take (k+1))={ d with xU:=max d.xU v.ck } from HST.o);clear k7;go_wp2_with fail
    go_roundw
    case rel=>exact⟨k+1,{ d with xU:=max d.xU v.ck },by go_num,by omega,HQ.o.symm,(show ct [b0+1] wb (wb.setCell ⟨b0+1,3,none⟩ (.int .i64 (max d.xU v.ck))) from(ct.refl _ _).setCell (aoX (by simp)) _).blk G0.o (by simp),Ox 3 (.int .i64 (max d.xU v.ck)) G1.o rfl,(show ct [b0+1] wb (wb.setCell ⟨b0+1,3,none⟩ (.int .i64 (max d.xU v.ck))) from(ct.refl _ _).setCell (aoX (by simp)) _).ext yx.o (by simp;omega)⟩
    case measure=>simp[intOf];omega
   have q7:(v.kind==7)=false:=by simp[k7]
   rw[bL k7] at HST;clear k7;by_cases k8:v.kind=8
   ·have q8:(v.kind==8)=true:=by simp[k8]
    rw[bM k8] at HST;have HQ:=ai (show Hw D0 (L.take (k+1))={ d with xN:=max d.xN v.ck } from HST.o);clear k8;go_wp2_with fail
    go_roundw
    case rel=>exact⟨k+1,{ d with xN:=max d.xN v.ck },by go_num,by omega,HQ.o.symm,(show ct [b0+1] wb (wb.setCell ⟨b0+1,4,none⟩ (.int .i64 (max d.xN v.ck))) from(ct.refl _ _).setCell (aoX (by simp)) _).blk G0.o (by simp),Ox 4 (.int .i64 (max d.xN v.ck)) G1.o rfl,(show ct [b0+1] wb (wb.setCell ⟨b0+1,4,none⟩ (.int .i64 (max d.xN v.ck))) from(ct.refl _ _).setCell (aoX (by simp)) _).ext yx.o (by simp;omega)⟩
    case measure=>simp[intOf];omega
   have q8:(v.kind==8)=false:=by simp[k8]
   rw[bL k8] at HST;clear k8;by_cases k9:v.kind=9
   ·have q9:(v.kind==9)=true:=by simp[k9]
    rw[bM k9] at HST;clear k9;go_wp2_with fail
    go_roundw
    case rel=>exact⟨k+1,{ d with Bt:=true },by go_num,by omega,HST.o.symm,(show ct [b0+1] wb (wb.setCell ⟨b0+1,5,none⟩ (.bool true)) from(ct.refl _ _).setCell (aoX (by simp)) _).blk G0.o (by simp),Ox 5 (.bool true) G1.o rfl,(show ct [b0+1] wb (wb.setCell ⟨b0+1,5,none⟩ (.bool true)) from(ct.refl _ _).setCell (aoX (by simp)) _).ext yx.o (by simp;omega)⟩
    case measure=>simp[intOf];omega
   have q9:(v.kind==9)=false:=by simp[k9]
   rw[bL k9] at HST;clear k9;go_wp2_with fail
   go_roundw
   case rel=>exact⟨k+1,d,by go_num,by omega,HST.o.symm,G0.o,G1.o,yx.o⟩
   case measure=>simp[intOf];omega
  have t1:=ah ((k:Int)<(n:Int));have HQ:=ai (show R=d by rw[HR.o,HD.o,aS (by have:=HN.o;omega)]);have h1:=H1.o;have h0:=H0.o;unfold EA rT.cells at h0 h1;obtain⟨d0,d1,d2,d3,d4,d5,df⟩:=dH h1;obtain⟨z0,z1,z2,z3,z4,z5,zf⟩:=dH h0;go_wp2_with fail
  obtain⟨w8,gX⟩:∃w8,w8=fA wr b0 (.int .i64 d.oP) (.int .i64 d.lim) (.int .i64 d.xV) (.int .i64 d.xU) (.int .i64 d.xN) (.bool d.Bt):=⟨_,rfl⟩
  have nB:=ai (show Ext w w8 by rw[gX];exact(fe _ _).ext HX.o (by simp;omega));have h8:w8.heap[b0]?=some (.cells #[ d.oP,d.lim,d.xV,d.xU,d.xN,.bool d.Bt] 29 (0,0)):=by rw[gX];exact fH h0
  unfold fA at gX;rw[<-gX];clear gX z0 z1 z2 z3 z4 z5 zf h0 h1;obtain⟨z0,z1,z2,z3,z4,z5,zf⟩:=dH h8;refine a5a (v:=.agg R.cells) (by rw[HQ.o];simp[results,Tryz.results34,go_sem,rT.cells,z0,z1,z2,z3,z4,z5]) rfl ?_;exact⟨rfl,nB.o⟩
open Go.RowKit
inductive Rs where
 | mk (name:BA) (dg:Bool) (proof:Pr) (gH:List Rs)
def Rs.name:Rs->BA
 | .mk n _ _ _=>n
def Rs.dg:Rs->Bool
 | .mk _ a _ _=>a
def Rs.proof:Rs->Pr
 | .mk _ _ p _=>p
def Rs.gH:Rs->List Rs
 | .mk _ _ _ u=>u
structure jf where
 name:BA
 dg:Bool
 p:gS
 a:OA
 n:Nat
 c:Nat
def jf.cells (v:jf):List Value:=[.string v.name,.bool v.dg,.bool v.p.value,.int .i64 v.p.pick,.slice v.p.a v.p.n v.p.c,.slice v.a v.n v.c]
def jf.val (v:jf):Value:=.agg #[.string v.name,.bool v.dg,.bool v.p.value,.int .i64 v.p.pick,.slice v.p.a v.p.n v.p.c,.slice v.a v.n v.c]
theorem jf.len (v:jf):v.cells.length=6:=rfl
inductive kC (w:World):Rs->jf->Prop
 | mk {nm:BA} {b:Bool} {p:Pr} {us:List Rs} {pv:gS} {a:OA} {n c:Nat} (vs:List jf) (hp:gL w p pv) (hr:eE w 6 jf.cells vs a n c) (hl:vs.length=us.length)
   (h:∀i (h1:i<us.length) (h2:i<vs.length),kC w us[i] vs[i]):kC w (.mk nm b p us) ⟨nm,b,pv,a,n,c⟩
theorem kC.mono {w w':World} {p:Rs} {v:jf} (h:kC w p v) (hs:Sub w w'):kC w' p v:=by
 induction h with
 | mk vs hp hr hl _ ih=>exact .mk vs (hp.mono hs) (hr.mono hs) hl ih
def mj (w:World) (l:List Rs) (vs:List jf):Prop:=l.length=vs.length/\∀i (h1:i<l.length) (h2:i<vs.length),kC w l[i] vs[i]
theorem mj.mono {w w':World} {l:List Rs} {vs:List jf} (h:mj w l vs) (hs:Sub w w'):mj w' l vs:=⟨h.1,fun i h1 h2=>(h.2 i h1 h2).mono hs⟩
theorem mj.nil (w:World):mj w [] []:=⟨rfl,fun i h=>by simp at h⟩
theorem mj.snoc {w:World} {l:List Rs} {vs:List jf} {c:Rs} {v:jf} (h:mj w l vs) (hc:kC w c v):mj w (l++[c]) (vs++[v]):=by
 refine⟨by simp[h.1],fun i h1 h2=>?_⟩;by_cases hi:i<l.length
 ·have hi2:i<vs.length:=by rw[<-h.1];exact hi
  simp only[bD hi,bD hi2];exact h.2 i hi hi2
 have e1:i=l.length:=by simp at h1;omega
 subst e1;simp only[bK (aU _),bK (show vs.length<=l.length by rw[h.1];exact aU _),Nat.sub_self,bB];simpa[h.1] using hc
theorem Qq:uq 55 69 (.agg #[.string ⟨#[]⟩,.bool false,.bool false,.int .i64 0,.slice none 0 0,.slice none 0 0]) 6 88:=⟨by kernel_rfl,by kernel_rfl,rfl,by decide⟩
def iE (w:World) (l:List Rs) (a:OA) (n c:Nat):Prop:=∃vs,mj w l vs/\eE w 6 jf.cells vs a n c
theorem iE.mono {w w':World} {l:List Rs} {a:OA} {n c:Nat} (h:iE w l a n c) (hs:Sub w w'):iE w' l a n c:=by
 obtain⟨vs,h1,h2⟩:=h;exact⟨vs,h1.mono hs,h2.mono hs⟩
theorem tH {w:World} {M:ZN} {base:Nat} {a:OA} {n c:Nat} {l:List Rs} {vs:List jf} (h:w.ownsRow base 69 6 (.slice a n c) n (vs.flatMap jf.cells)) (hn:n=l.length) (hM:∀k,(Value.slice a n c).ownBlock=some k->k∉M) (hR:mj (mask w M) l vs):iE (mask w M) l a n c:=by
 subst hn;have hl:=hR.1;rw[hl] at h;obtain⟨a',c',e,hr⟩:=eE.iZ jf.len h;simp only[a45] at e;obtain⟨rfl,-,rfl⟩:=e;refine⟨vs,hR,hl,by rw[hl];exact hr.2.1,hr.2.2.1,fun i h4=>?_⟩;obtain⟨b',off',e1,h5⟩:=hr.2.2.2 i h4;subst e1;exact⟨b',off',rfl,fun j hj=>by rw[eA,bL (hM _ rfl)];exact h5 j hj⟩
theorem Gc {w:World} {p:Pr} {pv:gS} {us:List Rs} {a:OA} {n c:Nat} (hp:gL w p pv) (h:iE w us a n c) (nm:BA) (b:Bool):kC w (.mk nm b p us) ⟨nm,b,pv,a,n,c⟩:=by
 obtain⟨vs,h1,h2⟩:=h;exact .mk vs hp h2 h1.1.symm h1.2
theorem Fg (w:World):iE w [] none 0 0:=⟨[],mj.nil w,rfl,aU _,aoX ⟨rfl,rfl⟩,fun i h=>by simp at h⟩
theorem Jw {w:World} {M:ZN} {g:Nat} {q:Rs} {v:jf} {t:TypeId} (h:w.heap[g]?=some (.cells v.cells.toArray t (0,0))) (hg:g∉M) (hq:kC (mask w M) q v):iE (mask w M) [q] (some ⟨g,0,none⟩) 1 1:=by
 refine⟨[v],⟨rfl,fun i h1 h2=>?_⟩,rfl,aU _,a4Z ⟨g,0,rfl⟩,fun i hi=>⟨g,0,rfl,fun j hj=>?_⟩⟩
 ·have h0:i=0:=by simp at h1;omega
  subst h0;exact hq
 have h0:i=0:=by simp at hi;omega
 subst h0;simp only[bB] at hj ⊢;rw[eA,bL hg,bX h];simp
def api (Y:Rs->Bool):List Rs->Bool
 | [x]=>x.dg&&Y x
 | _=>false
def abz (n:BA) (acc:Pr->Bool) (e:Bool) (N:List Rs->Bool) (Y:Rs->Bool):Rs->Bool
 | .mk rn ra rp ru=>decide (rn=n)&&acc rp&&(if (!rp.value||e)=true then ra==rp.value&&ru.isEmpty else if ra=true then N ru else api Y ru)
def qK (A:Ex->Pr->Bool):List Wb->(List Rs->Bool)×(Rs->Bool)
 | []=>(fun rs=>rs.isEmpty,fun _=>false)
 | .mk n c u::t=>(fun rs=>match rs with
   | []=>false
   | r::rs=>!r.dg&&abz n (A c) u.isEmpty (qK A u).1 (qK A u).2 r&&(qK A t).1 rs,fun r=>abz n (A c) u.isEmpty (qK A u).1 (qK A u).2 r||(qK A t).2 r)
def I8 (A:Ex->Pr->Bool) (n:BA) (c:Ex) (u:List Wb) (r:Rs):Bool:=abz n (A c) u.isEmpty (qK A u).1 (qK A u).2 r
def xE (A:Ex->Pr->Bool) (c:cK) (r:Rs):Bool:=I8 A c.name c.cond c.gH r
theorem ayV (A:Ex->Pr->Bool) {u:List Wb} {rs:List Rs} {k:Nat} (h1:k<u.length) (h2:k<rs.length):(qK A (u.drop k)).1 (rs.drop k)=(!rs[k].dg&&I8 A u[k].name u[k].cond u[k].gH rs[k]&&(qK A (u.drop (k+1))).1 (rs.drop (k+1))):=by
 rw[List.drop_eq_getElem_cons h1,List.drop_eq_getElem_cons h2];generalize hw:u[k]=x;cases x
 rw[qK]
 rfl
theorem aCS (A:Ex->Pr->Bool) {u:List Wb} {k:Nat} (h1:k<u.length) (r:Rs):(qK A (u.drop k)).2 r=(I8 A u[k].name u[k].cond u[k].gH r||(qK A (u.drop (k+1))).2 r):=by
 rw[List.drop_eq_getElem_cons h1];generalize hw:u[k]=x;cases x
 rw[qK]
 rfl
theorem aqx (A:Ex->Pr->Bool):(u:List Wb)->(rs:List Rs)->(qK A u).1 rs=true->rs.length=u.length
 | [],rs,h=>by
  rw[qK] at h;simpa using h
 | .mk n c u::t,[],h=>by rw[qK] at h;cases h
 | .mk n c u::t,r::rs,h=>by
  rw[qK] at h;simp only[aF] at h;simp[aqx A t rs h.2]
theorem PK {A:Ex->Pr->Bool} {V:Ex->Bool} (h:∀e p,A e p=true->p.value=V e) {n:BA} {c:Ex} {u:List Wb} (hN:∀rs,(qK A u).1 rs=true->nM V u=false) (hY:∀r,(qK A u).2 r=true->r.dg=true->nM V u=true) {r:Rs} (hm:I8 A n c u r=true):r.dg=(V c&&!nM V u)/\r.proof.value=V c:=by
 obtain⟨rn,ra,rp,ru⟩:=r;unfold I8 abz at hm;simp only[aF] at hm;obtain⟨⟨-,hp⟩,hm⟩:=hm;have hv:=h c rp hp;refine⟨?_,hv⟩
 show ra=_
 rw[<-hv];by_cases he:(!rp.value||u.isEmpty)=true
 ·rw[bM he] at hm;simp only[aF,a47] at hm;rw[hm.1];cases hb:rp.value
  ·rfl
  rw[hb] at he;have:u=[]:=by simpa using he
  rw[this,nM];rfl
 rw[bL he] at hm;have hb:rp.value=true:=by cases hb:rp.value<;>simp[hb] at he ⊢
 rw[hb];by_cases ha:ra=true
 ·rw[bM ha] at hm;rw[hN ru hm,ha];rfl
 rw[bL ha] at hm
 match ru,hm with
 | [x],hm =>
  simp only[api,aF] at hm;rw[hY x hm.2 hm.1];simpa using ha
theorem zN {A:Ex->Pr->Bool} {V:Ex->Bool} (h:∀e p,A e p=true->p.value=V e):(u:List Wb)->(∀rs,(qK A u).1 rs=true->nM V u=false)/\(∀r,(qK A u).2 r=true->r.dg=true->nM V u=true)
 | []=>by
  rw[qK,nM];exact⟨fun _ _=>rfl,fun r h=>by cases h⟩
 | .mk n c u::t=>by
  have hu:=zN h u;have ht:=zN h t;have hs:=fun r=>PK (n:=n) (c:=c) (r:=r) h hu.1 hu.2
  unfold I8 at hs;rw[qK,nM];refine⟨fun rs sq=>?_,fun r hr ha=>?_⟩
  ·cases rs with
   | nil=>cases sq
   | cons r rs =>
    simp only[aF,Bool.not_eq_true'] at sq;rw[ht.1 _ sq.2,<-(hs r sq.1.2).1,sq.1.1];rfl
  simp only[bG] at hr;rcases hr with hr|hr
  ·rw[<-(hs r hr).1,ha];rfl
  rw[ht.2 r hr ha];simp
theorem BX {A:Ex->Pr->Bool} {V:Ex->Bool} (h:∀e p,A e p=true->p.value=V e) {c:cK} {r:Rs} (hm:xE A c r=true):r.dg=ke V c/\r.proof.value=V c.cond :=
 PK h (zN h _).1 (zN h _).2 hm
def Ht (A:Ex->Pr->Bool) (cs:List cK) (b:Bool):Option (List Rs)->Option (List Rs)
 | some (r::t)=>if (cs.any fun c=>r.dg==b&&xE A c r)=true then some t else none
 | _=>none
def evS (A:Ex->Pr->Bool) (b:Bool) (st:Option (List Rs)) (c:cK):Option (List Rs):=match st with
 | some (r::t)=>if (r.dg==b&&xE A c r)=true then some t else none
 | _=>none
def oq (A:Ex->Pr->Bool) (cs:List cK) (b:Bool) (st:Option (List Rs)):Option (List Rs):=cs.foldl (evS A b) st
def apS (A:Ex->Pr->Bool) (st:Option (List Rs×List cK)) (c:cK):Option (List Rs×List cK):=match st with
 | some (r::t,f)=>if xE A c r=true then some (t,if r.dg=true then f++[c] else f) else none
 | _=>none
def RF (A:Ex->Pr->Bool) (cs:List cK) (st:Option (List Rs)):Option (List Rs×List cK):=cs.foldl (apS A) (st.map fun rs=>(rs,[]))
def Ri:Option (List Rs)->Bool
 | some []=>true
 | _=>false
def rT.eqB (a b:rT):Bool:=a.oP==b.oP&&a.lim==b.lim&&a.xV==b.xV&&a.xU==b.xU&&a.xN==b.xN&&a.Bt==b.Bt
def Lj (A:Ex->Pr->Bool) (l:List cK) (d:rT) (rs:List Rs):Bool :=
 if d.oP=1 then Ri (oq A (kS [2] l) false (some rs))&&d.eqB ⟨1,0,0,0,0,false⟩
 else if d.oP=2 then Ri (Ht A (kS [4] l) false (Ht A (kS [2] l) true (some rs)))&&d.eqB ⟨2,0,0,0,0,false⟩
 else if d.oP=3 then Ri (Ht A (kS [3] l) true (oq A (kS [4] l) true (Ht A (kS [2] l) true (some rs))))&&d.eqB ⟨3,0,0,0,0,false⟩
 else if d.oP=4 then match RF A (kS lJ l) (oq A (kS [3] l) false (oq A (kS [4] l) true (Ht A (kS [2] l) true (some rs)))) with
  | some ([],F)=>d.eqB (Hw ⟨4,-1,0,0,0,false⟩ F)
  | _=>false
 else false
def Ei (P:cK->Rs->Bool):List cK->List Rs->Prop
 | [],[]=>True
 | c::cs,r::rs=>P c r=true/\Ei P cs rs
 | _,_=>False
theorem Ei.len {P:cK->Rs->Bool}:(cs:List cK)->(rs:List Rs)->Ei P cs rs->rs.length=cs.length
 | [],[],_=>rfl
 | c::cs,r::rs,h=>by simp[Ei.len cs rs h.2]
 | [],r::rs,h=>h.elim
 | c::cs,[],h=>h.elim
theorem Ei.at {P:cK->Rs->Bool}:(cs:List cK)->(rs:List Rs)->Ei P cs rs->∀i (h1:i<cs.length) (h2:i<rs.length),P cs[i] rs[i]=true
 | c::cs,r::rs,h,0,_,_=>h.1
 | c::cs,r::rs,h,i+1,h1,h2=>Ei.at cs rs h.2 i (by simpa using h1) (by simpa using h2)
theorem aeb (A:Ex->Pr->Bool) (b:Bool) (cs:List cK):cs.foldl (evS A b) none=none:=by
 induction cs with
 | nil=>rfl
 | cons c cs ih=>exact ih
theorem aeg (A:Ex->Pr->Bool) (cs:List cK):cs.foldl (apS A) none=none:=by
 induction cs with
 | nil=>rfl
 | cons c cs ih=>exact ih
theorem aD8 (A:Ex->Pr->Bool) (b:Bool):(cs:List cK)->(rs t:List Rs)->(cs.foldl (evS A b) (some rs)=some t ↔ ∃r0,rs=r0++t/\Ei (fun c r=>r.dg==b&&xE A c r) cs r0)
 | [],rs,t=>by
  constructor
  ·intro h;have h:rs=t:=by simpa using h
   exact⟨[],by simp[h],trivial⟩
  rintro⟨r0,h,hm⟩;cases r0 with
  | nil=>simp[h]
  | cons=>exact hm.elim
 | c::cs,[],t=>by
  constructor
  ·intro h;rw[aX,show evS A b (some []) c=none from rfl,aeb] at h;cases h
  rintro⟨r0,h,hm⟩;cases r0 with
  | nil=>exact hm.elim
  | cons=>simp at h
 | c::cs,r::rs,t=>by
  rw[aX];by_cases hc:(r.dg==b&&xE A c r)=true
  ·rw[show evS A b (some (r::rs)) c=some rs by simp only[evS,bM hc]];rw[aD8 A b cs rs t];constructor
   ·rintro⟨r0,h,hm⟩;exact⟨r::r0,by rw[h];rfl,hc,hm⟩
   rintro⟨r0,h,hm⟩;cases r0 with
   | nil=>exact hm.elim
   | cons x r0 =>
    simp only[a48,a5c] at h;exact⟨r0,h.2,hm.2⟩
  rw[show evS A b (some (r::rs)) c=none by simp only[evS,bL hc]];rw[aeb];constructor
  ·intro h;cases h
  rintro⟨r0,h,hm⟩;cases r0 with
  | nil=>exact hm.elim
  | cons x r0 =>
   simp only[a48,a5c] at h;rw[<-h.1] at hm;exact a40 hm.1 hc
def adQ:List cK->List Rs->List cK
 | c::cs,r::rs=>if r.dg=true then c::adQ cs rs else adQ cs rs
 | _,_=>[]
theorem aER (A:Ex->Pr->Bool):(cs:List cK)->(rs:List Rs)->(f:List cK)->(t:List Rs)->(F:List cK)->(cs.foldl (apS A) (some (rs,f))=some (t,F) ↔ ∃r0,rs=r0++t/\Ei (xE A) cs r0/\F=f++adQ cs r0)
 | [],rs,f,t,F=>by
  constructor
  ·intro h;have h:rs=t/\f=F:=by simpa using h
   exact⟨[],by simp[h.1],trivial,by simp[adQ,h.2]⟩
  rintro⟨r0,h,hm,hf⟩;cases r0 with
  | nil=>simp[h,hf,adQ]
  | cons=>exact hm.elim
 | c::cs,[],f,t,F=>by
  constructor
  ·intro h;rw[aX,show apS A (some ([],f)) c=none from rfl,aeg] at h;cases h
  rintro⟨r0,h,hm,-⟩;cases r0 with
  | nil=>exact hm.elim
  | cons=>simp at h
 | c::cs,r::rs,f,t,F=>by
  rw[aX];by_cases hc:xE A c r=true
  ·rw[show apS A (some (r::rs,f)) c=some (rs,if r.dg=true then f++[c] else f) by simp only[apS,bM hc]];rw[aER A cs rs _ t F];constructor
   ·rintro⟨r0,h,hm,hf⟩;refine⟨r::r0,by rw[h];rfl,⟨hc,hm⟩,?_⟩;rw[hf,adQ];split<;>simp
   rintro⟨r0,h,hm,hf⟩;cases r0 with
   | nil=>exact hm.elim
   | cons x r0 =>
    simp only[a48,a5c] at h;refine⟨r0,h.2,hm.2,?_⟩;rw[hf,adQ,<-h.1];split<;>simp
  rw[show apS A (some (r::rs,f)) c=none by simp only[apS,bL hc]];rw[aeg];constructor
  ·intro h;cases h
  rintro⟨r0,h,hm,-⟩;cases r0 with
  | nil=>exact hm.elim
  | cons x r0 =>
   simp only[a48,a5c] at h;rw[<-h.1] at hm;exact a40 hm.1 hc
theorem ad3 (A:Ex->Pr->Bool) (cs:List cK) (b:Bool) (st:Option (List Rs)) (t:List Rs):Ht A cs b st=some t ↔ ∃r c,st=some (r::t)/\c∈cs/\r.dg=b/\xE A c r=true:=by
 unfold Ht;split
 ·rename_i r t'
  split
  ·rename_i h
   obtain⟨c,hc,h⟩:=List.any_eq_true.1 h;simp only[aF,a47] at h;constructor
   ·intro e;injection e with e
    subst e;exact⟨r,c,rfl,hc,h⟩
   rintro⟨r',c',e,-⟩;simp only[a42,a5c] at e;rw[e.2]
  rename_i h
  constructor
  ·intro e;cases e
  rintro⟨r',c',e,hc,h1,h2⟩;simp only[a42,a5c] at e;exact a40 (List.any_eq_true.2 ⟨c',hc,by rw[e.1,h1,h2];simp⟩) h
 rename_i h
 constructor
 ·intro e;cases e
 rintro⟨r,c,e,-⟩;exact a40 e (h _ _)
theorem U9 (A:Ex->Pr->Bool) (cs:List cK) (b:Bool) (st:Option (List Rs)) (t:List Rs):oq A cs b st=some t ↔ ∃r0,st=some (r0++t)/\Ei (fun c r=>r.dg==b&&xE A c r) cs r0:=by
 unfold oq;cases st with
 | none =>
  rw[aeb];exact⟨fun h=>(by cases h),fun ⟨_,h,_⟩=>(by cases h)⟩
 | some rs =>
  rw[aD8];exact⟨fun ⟨r0,h1,h2⟩=>⟨r0,by rw[h1],h2⟩,fun ⟨r0,h1,h2⟩=>⟨r0,by simpa using h1,h2⟩⟩
theorem an9 (A:Ex->Pr->Bool) (cs:List cK) (st:Option (List Rs)) (t:List Rs) (F:List cK):RF A cs st=some (t,F) ↔ ∃r0,st=some (r0++t)/\Ei (xE A) cs r0/\F=adQ cs r0:=by
 unfold RF;cases st with
 | none =>
  rw[show Option.map (fun rs=>(rs,([]:List cK))) none=none from rfl,aeg];exact⟨fun h=>(by cases h),fun ⟨_,h,_⟩=>(by cases h)⟩
 | some rs =>
  rw[show Option.map (fun rs=>(rs,([]:List cK))) (some rs)=some (rs,[]) from rfl,aER];exact⟨fun ⟨r0,h1,h2,h3⟩=>⟨r0,by rw[h1],h2,by simpa using h3⟩,fun ⟨r0,h1,h2,h3⟩=>⟨r0,by simpa using h1,h2,by simpa using h3⟩⟩
theorem Ou (st:Option (List Rs)):Ri st=true ↔ st=some []:=by
 unfold Ri;split<;>simp_all
section
variable {A:Ex->Pr->Bool} {V:Ex->Bool} (hA:∀e p,A e p=true->p.value=V e)
include hA
theorem agk:(cs:List cK)->(rs:List Rs)->Ei (xE A) cs rs->adQ cs rs=cs.filter (ke V)
 | [],[],_=>rfl
 | c::cs,r::rs,h=>by
  rw[adQ,List.filter_cons,agk cs rs h.2,(BX hA h.1).1]
 | [],r::rs,h=>h.elim
 | c::cs,[],h=>h.elim
end
mutual
theorem abt {s:List Attr} {f:ZI} {D D':BA->Option Pr}:(e:Ex)->(∀x∈fX e,D x=D' x)->UE s f D e=UE s f D' e
 | .mk op name words lo hi args,h=>by
  obtain⟨q1,q2⟩:=akj (s:=s) (f:=f) args fun x hx=>h x (by rw[fX];exact aL _ hx)
  rw[UE,UE,q1,q2];by_cases h3:op=3
  ·rw[h name (by rw[fX,h3];simp)]
  simp[h3]
theorem akj {s:List Attr} {f:ZI} {D D':BA->Option Pr}:(l:List Ex)->(∀x∈iH l,D x=D' x)->Xn s f D l=Xn s f D' l/\pfL s f D l=pfL s f D' l
 | [],_=>⟨by rw[Xn,Xn],by rw[pfL,pfL]⟩
 | e::r,h=>by
  have h1:=abt (s:=s) (f:=f) e fun x hx=>h x (by rw[iH];exact aK _ hx)
  have h2:=(akj (s:=s) (f:=f) r fun x hx=>h x (by rw[iH];exact aL _ hx)).2;exact⟨by rw[Xn,Xn,h1],by rw[pfL,pfL,h1,h2]⟩
end
mutual
theorem Xm {s:List Attr} {f:ZI} {D D':BA->Option (Pr->Bool)}:(e:Ex)->(∀x∈fX e,D x=D' x)->∀p,wI s f D e p=wI s f D' e p
 | .mk op name words lo hi args,h,p=>by
  obtain⟨q1,q2⟩:=afQ (s:=s) (f:=f) args fun x hx=>h x (by rw[fX];exact aL _ hx)
  have hD:(if op=3 then D name else none)=(if op=3 then D' name else none):=by
   by_cases h3:op=3
   ·rw[bM h3,bM h3,h name (by rw[fX,h3];simp)]
   rw[bL h3,bL h3]
  have a1:uH s f D args=uH s f D' args:=funext fun k=>funext fun q=>q1 k q
  have a2:∀v ps,mM s f D v args ps=mM s f D' v args ps:=q2;cases p with
  | mk v k ps=>rw[wI,wI,hD,a1,a2]
theorem afQ {s:List Attr} {f:ZI} {D D':BA->Option (Pr->Bool)}:(l:List Ex)->(∀x∈iH l,D x=D' x)->(∀k q,uH s f D l k q=uH s f D' l k q)/\(∀v ps,mM s f D v l ps=mM s f D' v l ps)
 | [],_=>⟨fun k q=>by rw[uH,uH],fun v ps=>by cases ps<;>rw[mM,mM]⟩
 | e::r,h=>by
  have h1:=Xm (s:=s) (f:=f) e fun x hx=>h x (by rw[iH];exact aK _ hx)
  obtain⟨h2,h3⟩:=afQ (s:=s) (f:=f) r fun x hx=>h x (by rw[iH];exact aL _ hx)
  refine⟨fun k q=>?_,fun v ps=>?_⟩
  ·cases k with
   | zero=>rw[uH,uH,h1]
   | succ k=>rw[uH,uH,h2]
  cases ps with
  | nil=>rw[mM,mM]
  | cons q t=>rw[mM,mM,h1,h3]
end
theorem afT (s:List Attr) (l:List cK) (f:ZI):(k m:Nat)->(e:Ex)->jT l k e<=2000->k<=m->Proofs.YtefjomofjejklaaGreatDoor.xT s l f k e=Proofs.YtefjomofjejklaaGreatDoor.xT s l f m e
 | 0,_,e,h,_=>by simp[jT] at h
 | k+1,0,e,_,hm=>by omega
 | k+1,m+1,e,h,hm=>by
  rw[Proofs.YtefjomofjejklaaGreatDoor.xT,Proofs.YtefjomofjejklaaGreatDoor.xT];refine abt e fun x hx=>?_
  cases hd:Proofs.YtefjomofjejklaaGreatDoor.dz l x with
  | none=>rfl
  | some d =>
   rw[jT] at h;have:=U8 e h x (jT l k (l.getD d fC).cond) hx (by rw[hd];rfl);simp only[Option.map_some,a42];exact afT s l f k m _ this (by omega)
theorem acJ (s:List Attr) (l:List cK) (f:ZI):(k m:Nat)->(e:Ex)->jT l k e<=2000->k<=m->Proofs.YtefjomofjejklaaGreatDoor.js s l f k e=Proofs.YtefjomofjejklaaGreatDoor.js s l f m e
 | 0,_,e,h,_=>by simp[jT] at h
 | k+1,0,e,_,hm=>by omega
 | k+1,m+1,e,h,hm=>by
  funext p
  rw[Proofs.YtefjomofjejklaaGreatDoor.js,Proofs.YtefjomofjejklaaGreatDoor.js];refine Xm e (fun x hx=>?_) p;cases hd:Proofs.YtefjomofjejklaaGreatDoor.dz l x with
  | none=>rfl
  | some d =>
   rw[jT] at h;have:=U8 e h x (jT l k (l.getD d fC).cond) hx (by rw[hd];rfl);simp only[Option.map_some,a42];exact acJ s l f k m _ this (by omega)
theorem Used.xT {l:List cK} {e:Ex} {u:List cK} (h:Used l e u) (s:List Attr) (f:ZI):∀k x,(∀t∈fX x,∀d,Proofs.YtefjomofjejklaaGreatDoor.dz l t=some d->t∈u.map (·.name))->Proofs.YtefjomofjejklaaGreatDoor.xT s u f k x=Proofs.YtefjomofjejklaaGreatDoor.xT s l f k x/\Proofs.YtefjomofjejklaaGreatDoor.js s u f k x=Proofs.YtefjomofjejklaaGreatDoor.js s l f k x:=by
 intro k;induction k with
 | zero=>intro x _;exact⟨rfl,rfl⟩
 | succ k ih =>
  intro x hx;have key:∀t∈fX x,(Proofs.YtefjomofjejklaaGreatDoor.dz u t=none/\Proofs.YtefjomofjejklaaGreatDoor.dz l t=none)\/∃i d,Proofs.YtefjomofjejklaaGreatDoor.dz u t=some i/\Proofs.YtefjomofjejklaaGreatDoor.dz l t=some d/\Proofs.YtefjomofjejklaaGreatDoor.xT s u f k (u.getD i fC).cond=Proofs.YtefjomofjejklaaGreatDoor.xT s l f k (l.getD d fC).cond/\Proofs.YtefjomofjejklaaGreatDoor.js s u f k (u.getD i fC).cond=Proofs.YtefjomofjejklaaGreatDoor.js s l f k (l.getD d fC).cond:=fun t ht=>by
   cases hd:Proofs.YtefjomofjejklaaGreatDoor.dz l t with
   | none=>exact aoX ⟨h.only hd,rfl⟩
   | some d =>
    obtain⟨i,d',hi,h1,h2,h3⟩:=h.at (hx t ht d hd);rw[hd] at h2;cases h2
    refine a4Z ⟨i,d,h1,rfl,?_⟩;rw[h3];refine ih _ fun t2 ht2 d2 qd=>?_
    rw[<-h3,fJ hi] at ht2;exact h.closed _ (aD hi) t2 ht2 d2 qd
  constructor
  ·rw[Proofs.YtefjomofjejklaaGreatDoor.xT,Proofs.YtefjomofjejklaaGreatDoor.xT];refine abt _ fun t ht=>?_
   rcases key t ht with ⟨h1,h2⟩|⟨i,d,h1,h2,h3,-⟩
   ·rw[h1,h2];rfl
   rw[h1,h2];exact congrArg some h3
  funext p
  rw[Proofs.YtefjomofjejklaaGreatDoor.js,Proofs.YtefjomofjejklaaGreatDoor.js];refine Xm _ (fun t ht=>?_) p;rcases key t ht with ⟨h1,h2⟩|⟨i,d,h1,h2,-,h3⟩
  ·rw[h1,h2];rfl
  rw[h1,h2];exact congrArg some h3
theorem Ee.pf {s:List Attr} {l:List cK} {e:Ex} {u:List cK} {f:ZI} (h:Ee l e u) (hx:dV l e<=2000):Proofs.YtefjomofjejklaaGreatDoor.pf s u f e=Proofs.YtefjomofjejklaaGreatDoor.pf s l f e/\Proofs.YtefjomofjejklaaGreatDoor.CY s u f e=Proofs.YtefjomofjejklaaGreatDoor.CY s l f e:=by
 obtain⟨hu,hm⟩:=h;have Yu:=hu.atp hx;have hsz:=hu.size Yu hu.top;have hle:=hu.len;obtain⟨h1,h2⟩:=hu.xT s f (l.length+1) e hu.top;unfold Proofs.YtefjomofjejklaaGreatDoor.pf;constructor
 ·rw[afT s u f (u.length+1) (l.length+1) e (by unfold dV at hsz hx;omega) (by omega),h1]
 funext p
 unfold Proofs.YtefjomofjejklaaGreatDoor.CY;rw[acJ s u f (u.length+1) (l.length+1) e (by unfold dV at hsz hx;omega) (by omega),h2]
structure aog (T:TypeId) (p:Value) (nm:BA) (x:dK) (au:OA) (nu cu:Nat) (fw fn fu:FuncId):Prop where
 mw:∀(n:Nat) (W:World),(method (n+1) T p "treaty/decide.when").run Tryz.prog W=.ok (fw,p) W
 mn:∀(n:Nat) (W:World),(method (n+1) T p "treaty/decide.name").run Tryz.prog W=.ok (fn,p) W
 mu:∀(n:Nat) (W:World),(method (n+1) T p "treaty/decide.unless").run Tryz.prog W=.ok (fu,p) W
 ew:∀W,Sem.run Tryz.prog (callFunc fw #[p]) W=.ok (.enter fw #[p]) W
 en:∀W,Sem.run Tryz.prog (callFunc fn #[p]) W=.ok (.enter fn #[p]) W
 eu:∀W,Sem.run Tryz.prog (callFunc fu #[p]) W=.ok (.enter fu #[p]) W
 cw:∀W,Calls Tryz.prog fw #[p] W (cz (.agg #[ x.op,.string x.name,.slice x.aw x.nw x.cw,x.lo,x.hi,.slice x.aa x.na x.ca]) W)
 cn:∀W,Calls Tryz.prog fn #[p] W (cz (.string nm) W)
 cu:∀W,Calls Tryz.prog fu #[p] W (cz (.slice au nu cu) W)
theorem Vv (nm:BA) (x:dK) (au:OA) (nu cu:Nat) (w:World):Calls Tryz.prog 228 #[.agg #[.string nm,x.op,.string x.name,.slice x.aw x.nw x.cw,x.lo,x.hi,.slice x.aa x.na x.ca,.slice au nu cu]] w (cz (.string nm) w):=by
 obtain⟨wa,cN⟩:∃wa,wa=w.alloc (.cells #[.string nm,x.op,.string x.name,.slice x.aw x.nw x.cw,x.lo,x.hi,.slice x.aa x.na x.ca,.slice au nu cu] 113):=⟨_,rfl⟩
 have dm:=ai (show Ext w wa by rw[cN];exact(Tz _).alloc _);obtain⟨f0,f1,f2,f3,f4,f5,f6,f7,ff⟩:=oO (show wa.heap[w.heap.size]?=some (.cells #[.string nm,x.op,.string x.name,.slice x.aw x.nw x.cw,x.lo,x.hi,.slice x.aa x.na x.ca,.slice au nu cu] 113 (0,0)) by rw[cN];exact bR w _);go_enter Tryz.func228,Tryz.ntmps228
 go_upto_region 1 with fail
 rw[<-cN];clear cN;go_wp2_with fail
 go_ret;exact⟨rfl,dm.o⟩
theorem adt (n:Nat) (nm:BA) (x:dK) (au:OA) (nu cu:Nat) (W:World):(method (n+1) 113 (.agg #[.string nm,x.op,.string x.name,.slice x.aw x.nw x.cw,x.lo,x.hi,.slice x.aa x.na x.ca,.slice au nu cu]) "treaty/decide.name").run Tryz.prog W=.ok (228,.agg #[.string nm,x.op,.string x.name,.slice x.aw x.nw x.cw,x.lo,x.hi,.slice x.aa x.na x.ca,.slice au nu cu]) W:=by kernel_rfl
theorem Sq (nm:BA) (x:dK) (au:OA) (nu cu:Nat):aog 113 (.agg #[.string nm,x.op,.string x.name,.slice x.aw x.nw x.cw,x.lo,x.hi,.slice x.aa x.na x.ca,.slice au nu cu]) nm x au nu cu 230 228 229 :=
 ⟨fun n W=>QU n nm x au nu cu W,fun n W=>adt n nm x au nu cu W,fun n W=>LA n nm x au nu cu W,fun W=>by kernel_rfl,fun W=>by kernel_rfl,fun W=>by kernel_rfl,fun W=>Ip nm x au nu cu W,fun W=>Vv nm x au nu cu W,fun W=>EB nm x au nu cu W⟩
theorem ab5 (kd:Int) (nm:BA) (x:dK) (au:OA) (nu cu:Nat) (am:Int) (w:World):Calls Tryz.prog 225 #[.agg #[ kd,.string nm,x.op,.string x.name,.slice x.aw x.nw x.cw,x.lo,x.hi,.slice x.aa x.na x.ca,.slice au nu cu,am]] w (cz (.string nm) w):=by
 obtain⟨wa,cN⟩:∃wa,wa=w.alloc (.cells #[ kd,.string nm,x.op,.string x.name,.slice x.aw x.nw x.cw,x.lo,x.hi,.slice x.aa x.na x.ca,.slice au nu cu,am] 81):=⟨_,rfl⟩
 have dm:=ai (show Ext w wa by rw[cN];exact(Tz _).alloc _);obtain⟨f0,f1,f2,f3,f4,f5,f6,f7,f8,f9,ff⟩:=rB (show wa.heap[w.heap.size]?=some (.cells #[ kd,.string nm,x.op,.string x.name,.slice x.aw x.nw x.cw,x.lo,x.hi,.slice x.aa x.na x.ca,.slice au nu cu,am] 81 (0,0)) by rw[cN];exact bR w _);go_enter Tryz.func225,Tryz.ntmps225
 go_upto_region 1 with fail
 rw[<-cN];clear cN;go_wp2_with fail
 go_ret;exact⟨rfl,dm.o⟩
theorem anX (n:Nat) (kd:Int) (nm:BA) (x:dK) (au:OA) (nu cu:Nat) (am:Int) (W:World):(method (n+1) 81 (.agg #[ kd,.string nm,x.op,.string x.name,.slice x.aw x.nw x.cw,x.lo,x.hi,.slice x.aa x.na x.ca,.slice au nu cu,am]) "treaty/decide.name").run Tryz.prog W=.ok (225,.agg #[ kd,.string nm,x.op,.string x.name,.slice x.aw x.nw x.cw,x.lo,x.hi,.slice x.aa x.na x.ca,.slice au nu cu,am]) W:=by kernel_rfl
theorem adi (kd:Int) (nm:BA) (x:dK) (au:OA) (nu cu:Nat) (am:Int):aog 81 (.agg #[ kd,.string nm,x.op,.string x.name,.slice x.aw x.nw x.cw,x.lo,x.hi,.slice x.aa x.na x.ca,.slice au nu cu,am]) nm x au nu cu 227 225 226 :=
 ⟨fun n W=>aaD n kd nm x au nu cu am W,fun n W=>anX n kd nm x au nu cu am W,fun n W=>T4 n kd nm x au nu cu am W,fun W=>by kernel_rfl,fun W=>by kernel_rfl,fun W=>by kernel_rfl,fun W=>OD kd nm x au nu cu am W,fun W=>ab5 kd nm x au nu cu am W,fun W=>KR kd nm x au nu cu am W⟩
theorem kC.app {w:World} {r:Rs} {v:jf} (h:kC w r v):v.dg=r.dg:=by cases h;rfl
theorem aeo {s:List Attr} {l:List cK}:(u:List Wb)->(d:Nat)->mh d u=true->fG s l u=0->eH l u=false->nY u->jY (Pd s l) u
 | [],_,_,_,_,_=>by unfold jY;trivial
 | .mk n c u::r,d,h1,h2,h3,h4=>by
  rw[mh] at h1;simp only[aF] at h1;obtain⟨⟨⟨⟨_,_⟩,g1⟩,g2⟩,g3⟩:=h1;rw[fG] at h2;by_cases k1:dr s l c≠0
  ·rw[bM k1] at h2;exact a40 h2 k1
  rw[bL k1] at h2;by_cases k2:fG s l u≠0
  ·rw[bM k2] at h2;exact a40 h2 k2
  rw[bL k2] at h2;rw[eH] at h3;simp only[Bool.or_eq_false_iff,bI] at h3;obtain⟨⟨q1,q2⟩,q3⟩:=h3;rw[nY] at h4;obtain⟨_,f1,f2,f3,f4,f5,f6⟩:=h4;unfold jY;exact⟨⟨g1,by simpa using k1,by omega,f2,f1,f3⟩,aeo u (d - 1) g2 (by simpa using k2) q2 f5,f4,aeo r d g3 h2 q3 f6⟩
theorem aum {s:List Attr} {l:List cK} (h:(cV s l).2=0) (hok:∀x∈l,x.fit):∀x∈l,PdC s l x:=by
 have hc:=lK h;have hcb:=Vg h;unfold cV at h;rw[bL (by simp[hc.x7]),bL (by have:=hc.len;omega)] at h;by_cases h3:(kZ (jE s l) l.length).2≠0
 ·rw[bM h3] at h;exact a40 h h3
 rw[bL h3] at h;by_cases h4:¬vZ (l.map cK.tV)
 ·rw[bM h4] at h;simp at h
 rw[bL h4] at h;have h1:=kO l.length (by simpa using h3);have h2:=kO l.length h;intro x hx;obtain⟨f1,f2,f3,f4,f5,f6⟩:=hok x hx;obtain⟨_,g2,g3,_,_⟩:=hc.good x hx;have hb:=hcb x hx;have hxp:=hc.exp x hx;obtain⟨i,hi,rfl⟩:=bA hx;have k1:=h1 i hi;have k2:=h2 i hi;unfold jE at k1;unfold jQ at k2;rw[ry hi] at k1 k2;rw[bL (by simp[hb])] at k1;by_cases q2:(findAt l l[i].name).getD 0<i
 ·rw[bM q2] at k1;cases k1
 rw[bL q2] at k1;by_cases q3:(eO s l[i].name).isSome
 ·rw[bM q3] at k1;cases k1
 rw[bL q3,bL (by simp[g2])] at k1;by_cases q5:2000<dV l l[i].cond\/eH l l[i].gH=true
 ·rw[bM q5] at k2;cases k2
 simp only[not_or] at q5;refine⟨⟨g3,g2,hxp,f3,f2,f4⟩,?_,f5⟩;simp only[gQ,aF,bG,aH,a47] at hb;obtain⟨⟨_,a5⟩,_⟩:=hb;rcases a5 with a5|⟨⟨_,_⟩,b3⟩
 ·rw[aR a5];unfold jY;trivial
 exact aeo _ _ b3 k1 (by simpa using q5.2) f6
theorem qN {s:List Attr} {l:List cK} {f:ZI} (h:jP s l f=0):(cV s l).2=0/\jU s f=true:=by
 unfold jP at h;by_cases h1:(cV s l).2≠0
 ·rw[bM h1] at h;exact a40 h h1
 rw[bL h1] at h;cases hf:jU s f
 ·rw[hf] at h;simp at h
 exact⟨by simpa using h1,rfl⟩
theorem BI {ks:ZI} {l:List cK} {x:cK} (h:x∈kS ks l):x∈l:=(List.mem_filter.1 h).1
noncomputable def mS (s:List Attr) (l:List cK) (f:ZI):rT:=open Classical in if jP s l f=0 then CN (val s l f) l else ⟨0,0,0,0,0,false⟩
noncomputable def ahh (s:List Attr) (l:List cK) (f:ZI):Value:=.tuple #[.agg (mS s l f).cells,.int .i64 (jP s l f)]
theorem ac9 {L:List cK} (p:cK->Bool) {k:Nat} (hk:k<L.length):(L.take (k+1)).filter p=if p L[k]=true then (L.take k).filter p++[L[k]] else (L.take k).filter p:=by
 rw[aO hk,List.filter_append,List.filter_cons];cases p L[k]<;>simp
theorem sF (s:List Attr) (l:List cK) (f:ZI) (sv:Value) (a:OA) (n c:Nat) (fa:OA) (fn fc:Nat) (w:World) (hs:dB w s sv) (hf:∀x∈s,x.fits) (hsl:s.length<=1000000000000000) (hl:cZ w l a n c) (hn:n<=1000000) (hok:∀x∈l,x.fit) (hi:dG w f fa fn) (hfn:fn<=1000000000000000) (ho:dQ w) :
  Calls Tryz.prog 13 #[sv,.slice a n c,.slice fa fn fc] w (cz (ahh s l f) w):=by
 obtain⟨sa,sn,sc,rfl,B6⟩:=hs.slice;have qw:=ai (fun W (hW:Ext w W)=>KM s l f _ a n c fa fn fc W (hs.ext hW) hf hsl (hl.ext hW) hn hok (hi.ext hW) hfn (ho.ext hW));have HDI:=ai (fun (h0:jP s l f=0) (lv:fT) W (hW:Ext w W) (h:AA W s l f lv n)=>show WU W s l f lv n from⟨h,(qN h0).1,(qN h0).2,hf,hok,by have h1:=h.ints.1;have h2:=hi.1;omega,ho.ext hW⟩);have Nj:=ai (fun (h0:jP s l f=0)=>aum (qN h0).1 hok);have iP:=ai (fun W (hW:Ext w W)=>WE l a n c W (hl.ext hW) hn);have mo:=ai (fun W (hW:Ext w W)=>Mn l a n c W (hl.ext hW) hn);have oD:=ai (fun W (hW:Ext w W)=>Mm l a n c W (hl.ext hW) hn);have pU:=ai (fun W (hW:Ext w W)=>anP l a n c W (hl.ext hW) hn);have tY:=ai (fun (ks:ZI)=>show (kS ks l).length<=1000000 from aV (amP ks l) (by rw[<-hl.len];exact hn));obtain⟨V,hV⟩:∃V,V=val s l f:=⟨_,rfl⟩
 obtain⟨E,hE⟩:∃E,E=jP s l f:=⟨_,rfl⟩
 obtain⟨R,hR⟩:∃R,R=mS s l f:=⟨_,rfl⟩
 unfold ahh;rw[<-hR,<-hE];unfold mS at hR;rw[<-hE,<-hV] at hR;unfold as2 at qw;rw[<-hE] at qw HDI Nj;have HAN:=ai (fun (h0:E=0) (lv:fT) (ks:ZI) (a':OA) (c':Nat) (B:Bool) W (hW:Ext w W) (h:AA W s l f lv n) (hc:cZ W (kS ks l) a' (kS ks l).length c')=>avA (kS ks l) a' _ c' B W (HDI.o h0 lv W hW h) hc (tY.o ks) (fun x hx=>Nj.o h0 x (BI hx)));have Gl:=ai (fun (h0:E=0) (lv:fT) (x:cK) (hx:x∈l) (v:fM) W (hW:Ext w W) (h:AA W s l f lv n) (hc:ij W x v)=>WD x.cond x.gH v.kind v.name v.x v.au v.nu v.cu v.ck W (HDI.o h0 lv W hW h) (Nj.o h0 x hx).1 (Nj.o h0 x hx).2.1 (by rw[hc.2.2.2.1];exact(Nj.o h0 x hx).2.2) hc.2.2.2.1 hc.2.2.1 hc.2.2.2.2.2.2.1);rw[<-hV] at HAN Gl;have HRZ:=ai (show E≠0->R=⟨0,0,0,0,0,false⟩ from fun h=>by rw[hR,bL h]);have HRV:=ai (show E=0->R=CN V l from fun h=>by rw[hR,bM h]);clear hs hf hsl hl hn hok hi hfn ho B6 hV hE hR HDI Nj;obtain⟨wa,cN⟩:∃wa,wa=(w.alloc (.cells #[.slice sa sn sc] 24)).alloc (.cells #[.int .i64 0,.int .i64 0,.int .i64 0,.int .i64 0,.int .i64 0,.bool false] 29):=⟨_,rfl⟩
 have dm:=ai (show Ext w wa by rw[cN];exact((Tz _).alloc _).alloc _);have HA:=ai (show wa.heap[w.heap.size+1]?=some (EA ⟨0,0,0,0,0,false⟩) by rw[cN];exact cT (by simp));obtain⟨s0,sf⟩:=dO (show wa.heap[w.heap.size]?=some (.cells #[.slice sa sn sc] 24 (0,0)) by rw[cN];exact bU (bR w _));go_enter Tryz.func13,Tryz.ntmps13
 go_upto_region 1 with fail
 rw[<-cN];clear cN;obtain⟨bd,hbd⟩:∃bd,bd=w.heap.size+1:=⟨_,rfl⟩
 rw[<-hbd] at HA ⊢;have hlo:w.heap.size<=bd:=by omega
 clear hbd;go_wp2_with fail
 refine(qw.o wa dm.o).mono ?_;rintro r w1 ⟨hx1,hr⟩;have dI:=ai (dm.o.trans hx1);have HB:=ai (hx1.blk HA.o);clear hx1 HA dm qw s0 sf;rcases hr with ⟨h1,rfl⟩|⟨h1,lo,rfl,aq5⟩
 ·have t1:(E != 0)=true:=by simp[h1]
  have HQ:=ai (HRZ.o h1);obtain⟨w2,hw2⟩:∃w2,w2=w1.alloc (.cells #[.slice none 0 0,.map none,.slice none 0 0] 74):=⟨_,rfl⟩
  have dN:=ai (show Ext w w2 by rw[hw2];exact dI.o.alloc _);have fY:=ai (show w2.heap[bd]?=some (EA ⟨0,0,0,0,0,false⟩) by rw[hw2];exact bU HB.o);unfold oM;clear h1;go_upto_region 2 with fail
  rw[<-hw2];clear hw2 dI HB;have hz:=fY.o;unfold EA rT.cells at hz;obtain⟨z0,z1,z2,z3,z4,z5,zf⟩:=dH hz;dsimp only at z0 z1 z2 z3 z4 z5;go_wp2_with fail
  obtain⟨w8,gX⟩:∃w8,w8=fA w2 bd (.int .i64 0) (.int .i64 0) (.int .i64 0) (.int .i64 0) (.int .i64 0) (.bool false):=⟨_,rfl⟩
  have nB:=ai (show Ext w w8 by rw[gX];exact(fe _ _).ext dN.o (by simp;omega));have h8:w8.heap[bd]?=some (.cells #[.int .i64 0,.int .i64 0,.int .i64 0,.int .i64 0,.int .i64 0,.bool false] 29 (0,0)):=by rw[gX];exact fH hz
  unfold fA at gX;rw[<-gX];clear gX z0 z1 z2 z3 z4 z5 zf hz;obtain⟨z0,z1,z2,z3,z4,z5,zf⟩:=dH h8;refine a5a (v:=.tuple #[.agg R.cells,E]) (by rw[HQ.o];simp[results,Tryz.results13,go_sem,rT.cells,z0,z1,z2,z3,z4,z5]) rfl ?_;exact⟨rfl,nB.o⟩
 have HE0:=ai h1;have Vp:=ai aq5;have aI4:=ai (HRV.o h1);subst h1;clear aq5 HRZ HRV;have HA2:=ai (fun (ks:ZI) (B:Bool) (a':OA) (c':Nat) W (hW:Ext w1 W) hc=>HAN.o rfl lo ks a' c' B W (dI.o.trans hW) (Vp.o.ext hW) hc);have oZ:=ai (fun (x:cK) (hx:x∈l) (v:fM) W (hW:Ext w1 W) hc=>Gl.o rfl lo x hx v W (dI.o.trans hW) (Vp.o.ext hW) hc);have S2:=ai (zD V 2 false true rfl l);have S4:=ai (zD V 4 true false rfl l);have S3:=ai (zD V 3 false true rfl l);obtain⟨L2,hL2⟩:∃L2,L2=kS [2] l:=⟨_,rfl⟩
 obtain⟨L3,hL3⟩:∃L3,L3=kS [3] l:=⟨_,rfl⟩
 obtain⟨L4,hL4⟩:∃L4,L4=kS [4] l:=⟨_,rfl⟩
 have HN2:=ai (HA2.o [2] true);have HN3:=ai (HA2.o [3] true);have HN4:=ai (HA2.o [4] false);rw[<-hL2] at S2 HN2;rw[<-hL3] at S3 HN3;rw[<-hL4] at S4 HN4;obtain⟨Q2,hQ2⟩:∃Q2,Q2=jC V 2 false l:=⟨_,rfl⟩
 obtain⟨Q3,hQ3⟩:∃Q3,Q3=jC V 3 false l:=⟨_,rfl⟩
 obtain⟨Q4,hQ4⟩:∃Q4,Q4=jC V 4 true l:=⟨_,rfl⟩
 rw[S2.o,<-hQ2] at HN2;rw[S3.o,<-hQ3] at HN3;rw[S4.o,<-hQ4] at HN4;have HT:=ai (Fh V l ⟨4,-1,0,0,0,false⟩);have HVD:=ai (show R=if Q2=false then ⟨1,0,0,0,0,false⟩ else if Q4=true then ⟨2,0,0,0,0,false⟩ else if Q3=true then ⟨3,0,0,0,0,false⟩ else Hw ⟨4,-1,0,0,0,false⟩ ((kS lJ l).filter (ke V)) by
  rw[aI4.o,HT.o,hQ2,hQ3,hQ4,Bool.false_or];rfl)
 unfold OfQ at iP oD mo;have RX:=ai (fun W (hW:Ext w W)=>(iP.o W hW).mono (fun r w' (hq:∃u a c,u=kS [2] l/\r=.returned (.slice a u.length c)/\cZ w' u a u.length c/\Ext W w')=>show ∃x:OA×Nat,r=.returned (.slice x.1 L2.length x.2)/\cZ w' L2 x.1 L2.length x.2/\Ext W w' by obtain⟨u,a,c,rfl,q2,q3,q4⟩:=hq;rw[<-hL2] at q2 q3;exact⟨(a,c),q2,q3,q4⟩));have HM3:=ai (fun W (hW:Ext w W)=>(oD.o W hW).mono (fun r w' (hq:∃u a c,u=kS [3] l/\r=.returned (.slice a u.length c)/\cZ w' u a u.length c/\Ext W w')=>show ∃x:OA×Nat,r=.returned (.slice x.1 L3.length x.2)/\cZ w' L3 x.1 L3.length x.2/\Ext W w' by obtain⟨u,a,c,rfl,q2,q3,q4⟩:=hq;rw[<-hL3] at q2 q3;exact⟨(a,c),q2,q3,q4⟩));have HM4:=ai (fun W (hW:Ext w W)=>(mo.o W hW).mono (fun r w' (hq:∃u a c,u=kS [4] l/\r=.returned (.slice a u.length c)/\cZ w' u a u.length c/\Ext W w')=>show ∃x:OA×Nat,r=.returned (.slice x.1 L4.length x.2)/\cZ w' L4 x.1 L4.length x.2/\Ext W w' by obtain⟨u,a,c,rfl,q2,q3,q4⟩:=hq;rw[<-hL4] at q2 q3;exact⟨(a,c),q2,q3,q4⟩));clear hL2 hL3 hL4 hQ2 hQ3 hQ4 S2 S3 S4 HT aI4 iP oD mo HAN Gl HA2 HE0;unfold fT.val at *;obtain⟨w2,hw2⟩:∃w2,w2=w1.alloc (.cells #[.slice lo.sa lo.sn lo.sc,.map (some lo.bm),.slice lo.fa lo.fn lo.fc] 74):=⟨_,rfl⟩
 have sH:=ai (show Ext w1 w2 by rw[hw2];exact(Tz _).alloc _);have fY:=ai (sH.o.blk HB.o);have A4:=ai (show w2.heap[w1.heap.size]?=some (.cells #[.slice lo.sa lo.sn lo.sc,.map (some lo.bm),.slice lo.fa lo.fn lo.fc] 74 (0,0)) by rw[hw2];exact bR w1 _);go_upto_region 4 with fail
 rw[<-hw2];clear hw2 HB;obtain⟨bl,hbl⟩:∃bl,bl=w1.heap.size:=⟨_,rfl⟩
 rw[<-hbl] at A4 ⊢;clear hbl;obtain⟨x0,x1,x2,xf⟩:=dM A4.o;have C0:=bT x0;have C1:=bT x1;have C2:=bT x2;refine kT 5 ?_
 repeat (refine bZ ?_;intro K hK;go_big_quiet_op;go_big_quiet_on)
 refine dP (γ:=OA×Nat) (fun x=>.slice x.1 L2.length x.2) (fun x W=>cZ W L2 x.1 L2.length x.2) (fun W hW _ _=>?_) (fun x W W' hx h=>h.ext hx) ?_ ⟨(none,0)⟩
 ·unfold bQ;go_simp;refine(RX.o W ((dI.o.trans sH.o).trans hW)).mono ?_;rintro r w9 ⟨x,rfl,h1,h2⟩;exact⟨_,rfl,h2,x,rfl,h1⟩
 rintro⟨xa,xc⟩ K hK;go_simp;go_big_quiet_on
 repeat (refine bZ ?_;intro K hK;go_big_quiet_op;go_big_quiet_on)
 refine fZ (.bool Q2) (fun _=>True) (fun W hW hu _=>?_) (fun _ _ _ h=>h) ?_
 ·unfold bQ;go_simp;refine(HN2.o xa xc W (sH.o.trans hW) hu).mono ?_;rintro r w9 ⟨rfl,ux⟩;exact⟨_,rfl,ux,rfl,trivial⟩
 intro K hK;go_simp;go_big_quiet_on
 repeat (refine bZ ?_;intro K hK;go_big_quiet_op;go_big_quiet_on)
 refine gC fun w3 hx _ _=>?_
 have K7:=ai (sH.o.trans hx);have nU:=ai (hx.blk fY.o);have HL3:=ai (hx.blk A4.o);have aYc:=ai (dI.o.trans K7.o);clear hx x0 x1 x2 xf C0 C1 C2 fY A4 sH RX HN2;cases Q2
 case false =>
  have HQ:=ai (show R=⟨1,0,0,0,0,false⟩ by rw[HVD.o];simp);have hz:=nU.o;unfold EA rT.cells at hz;obtain⟨z0,z1,z2,z3,z4,z5,zf⟩:=dH hz;dsimp only at z0 z1 z2 z3 z4 z5;go_wp2_with fail
  obtain⟨w8,gX⟩:∃w8,w8=fA w3 bd (.int .i64 1) (.int .i64 0) (.int .i64 0) (.int .i64 0) (.int .i64 0) (.bool false):=⟨_,rfl⟩
  have nB:=ai (show Ext w w8 by rw[gX];exact(fe _ _).ext aYc.o (by simp;omega));have h8:w8.heap[bd]?=some (.cells #[.int .i64 1,.int .i64 0,.int .i64 0,.int .i64 0,.int .i64 0,.bool false] 29 (0,0)):=by rw[gX];exact fH hz
  unfold fA at gX;rw[<-gX];clear gX z0 z1 z2 z3 z4 z5 zf hz;obtain⟨z0,z1,z2,z3,z4,z5,zf⟩:=dH h8;refine a5a (v:=.tuple #[.agg R.cells,.int .i64 0]) (by rw[HQ.o];simp[results,Tryz.results13,go_sem,rT.cells,z0,z1,z2,z3,z4,z5]) rfl ?_;exact⟨rfl,nB.o⟩
 go_wp2_with fail
 obtain⟨x0,x1,x2,xf⟩:=dM HL3.o;have C0:=bT x0;have C1:=bT x1;have C2:=bT x2;refine kT 4 ?_
 repeat (refine bZ ?_;intro K hK;go_big_quiet_op;go_big_quiet_on)
 refine dP (γ:=OA×Nat) (fun x=>.slice x.1 L4.length x.2) (fun x W=>cZ W L4 x.1 L4.length x.2) (fun W hW _ _=>?_) (fun x W W' hx h=>h.ext hx) ?_ ⟨(none,0)⟩
 ·unfold bQ;go_simp;refine(HM4.o W ((dI.o.trans K7.o).trans hW)).mono ?_;rintro r w9 ⟨x,rfl,h1,h2⟩;exact⟨_,rfl,h2,x,rfl,h1⟩
 rintro⟨xa,xc⟩ K hK;go_simp;go_big_quiet_on
 repeat (refine bZ ?_;intro K hK;go_big_quiet_op;go_big_quiet_on)
 refine fZ (.bool Q4) (fun _=>True) (fun W hW hu _=>?_) (fun _ _ _ h=>h) ?_
 ·unfold bQ;go_simp;refine(HN4.o xa xc W (K7.o.trans hW) hu).mono ?_;rintro r w9 ⟨rfl,ux⟩;exact⟨_,rfl,ux,rfl,trivial⟩
 intro K hK;go_simp;go_big_quiet_on
 repeat (refine bZ ?_;intro K hK;go_big_quiet_op;go_big_quiet_on)
 refine gC fun w4 hx _ _=>?_
 have qz:=ai (K7.o.trans hx);have qD:=ai (hx.blk nU.o);have HL4:=ai (hx.blk HL3.o);have aAG:=ai (dI.o.trans qz.o);clear hx x0 x1 x2 xf C0 C1 C2 nU HL3 K7 HM4 HN4;cases Q4
 case true =>
  have HQ:=ai (show R=⟨2,0,0,0,0,false⟩ by rw[HVD.o];simp);have hz:=qD.o;unfold EA rT.cells at hz;obtain⟨z0,z1,z2,z3,z4,z5,zf⟩:=dH hz;dsimp only at z0 z1 z2 z3 z4 z5;go_wp2_with fail
  obtain⟨w8,gX⟩:∃w8,w8=fA w4 bd (.int .i64 2) (.int .i64 0) (.int .i64 0) (.int .i64 0) (.int .i64 0) (.bool false):=⟨_,rfl⟩
  have nB:=ai (show Ext w w8 by rw[gX];exact(fe _ _).ext aAG.o (by simp;omega));have h8:w8.heap[bd]?=some (.cells #[.int .i64 2,.int .i64 0,.int .i64 0,.int .i64 0,.int .i64 0,.bool false] 29 (0,0)):=by rw[gX];exact fH hz
  unfold fA at gX;rw[<-gX];clear gX z0 z1 z2 z3 z4 z5 zf hz;obtain⟨z0,z1,z2,z3,z4,z5,zf⟩:=dH h8;refine a5a (v:=.tuple #[.agg R.cells,.int .i64 0]) (by rw[HQ.o];simp[results,Tryz.results13,go_sem,rT.cells,z0,z1,z2,z3,z4,z5]) rfl ?_;exact⟨rfl,nB.o⟩
 go_wp2_with fail
 obtain⟨x0,x1,x2,xf⟩:=dM HL4.o;have C0:=bT x0;have C1:=bT x1;have C2:=bT x2;refine kT 4 ?_
 repeat (refine bZ ?_;intro K hK;go_big_quiet_op;go_big_quiet_on)
 refine dP (γ:=OA×Nat) (fun x=>.slice x.1 L3.length x.2) (fun x W=>cZ W L3 x.1 L3.length x.2) (fun W hW _ _=>?_) (fun x W W' hx h=>h.ext hx) ?_ ⟨(none,0)⟩
 ·unfold bQ;go_simp;refine(HM3.o W ((dI.o.trans qz.o).trans hW)).mono ?_;rintro r w9 ⟨x,rfl,h1,h2⟩;exact⟨_,rfl,h2,x,rfl,h1⟩
 rintro⟨xa,xc⟩ K hK;go_simp;go_big_quiet_on
 repeat (refine bZ ?_;intro K hK;go_big_quiet_op;go_big_quiet_on)
 refine fZ (.bool Q3) (fun _=>True) (fun W hW hu _=>?_) (fun _ _ _ h=>h) ?_
 ·unfold bQ;go_simp;refine(HN3.o xa xc W (qz.o.trans hW) hu).mono ?_;rintro r w9 ⟨rfl,ux⟩;exact⟨_,rfl,ux,rfl,trivial⟩
 intro K hK;go_simp;go_big_quiet_on
 repeat (refine bZ ?_;intro K hK;go_big_quiet_op;go_big_quiet_on)
 refine gC fun w5 hx _ _=>?_
 have AB:=ai (qz.o.trans hx);have uo:=ai (hx.blk qD.o);have HL5:=ai (hx.blk HL4.o);have aIY:=ai (dI.o.trans AB.o);clear hx x0 x1 x2 xf C0 C1 C2 qD HL4 qz HM3 HN3;cases Q3
 case true =>
  have HQ:=ai (show R=⟨3,0,0,0,0,false⟩ by rw[HVD.o];simp);have hz:=uo.o;unfold EA rT.cells at hz;obtain⟨z0,z1,z2,z3,z4,z5,zf⟩:=dH hz;dsimp only at z0 z1 z2 z3 z4 z5;go_wp2_with fail
  obtain⟨w8,gX⟩:∃w8,w8=fA w5 bd (.int .i64 3) (.int .i64 0) (.int .i64 0) (.int .i64 0) (.int .i64 0) (.bool false):=⟨_,rfl⟩
  have nB:=ai (show Ext w w8 by rw[gX];exact(fe _ _).ext aIY.o (by simp;omega));have h8:w8.heap[bd]?=some (.cells #[.int .i64 3,.int .i64 0,.int .i64 0,.int .i64 0,.int .i64 0,.bool false] 29 (0,0)):=by rw[gX];exact fH hz
  unfold fA at gX;rw[<-gX];clear gX z0 z1 z2 z3 z4 z5 zf hz;obtain⟨z0,z1,z2,z3,z4,z5,zf⟩:=dH h8;refine a5a (v:=.tuple #[.agg R.cells,.int .i64 0]) (by rw[HQ.o];simp[results,Tryz.results13,go_sem,rT.cells,z0,z1,z2,z3,z4,z5]) rfl ?_;exact⟨rfl,nB.o⟩
 go_wp2_with fail
 have HQ:=ai (show R=Hw ⟨4,-1,0,0,0,false⟩ ((kS lJ l).filter (ke V)) by rw[HVD.o];simp);have HKT:=ai (tY.o lJ);have HMT:=ai (fun x (hx:x∈kS lJ l)=>oZ.o x (BI hx));refine(pU.o w5 aIY.o).mono ?_;rintro r w6 ⟨u,ta,tc,hu,rfl,hcl,gN⟩;have hu':u=kS lJ l:=hu;rw[<-hu'] at HQ HKT HMT;have aYb:=ai (aIY.o.trans gN);have Ey:=ai (AB.o.trans gN);have jO:=ai (gN.blk uo.o);have HL6:=ai (gN.blk HL5.o);have qC:=ai hcl;obtain⟨m,hm⟩:∃m,m=u.length:=⟨_,rfl⟩
 have HM:=ai hm;rw[<-hm] at HKT qC ⊢;have hm6:=HKT.o;clear hu hu' hcl gN hm pU oZ HVD tY uo HL5 aIY AB;go_wp2_with fail
 go_loopw [10,43] (fun lv i wr=>∃(k:Nat) (vs:List fM) (q:List cK),i=.int .i64 k/\k<=m/\q=(u.take k).filter (ke V)/\q.length<=k/\vG w6 q vs/\wr.ownsRow w6.heap.size 48 10 lv q.length (vs.flatMap fM.cells)/\Ext w6 wr) (fun _ i _=>m - (intOf i).toNat)
 case atStart=>exact⟨0,[],[],rfl,by omega,rfl,by simp,⟨rfl,fun i h=>by simp at h⟩,a4' _ _ _ _,Tz _⟩
 case round =>
  obtain⟨k,vs,q,rfl,aDm,hq,hql,hcr,hown,hx⟩:=hrel;obtain⟨la,lc,hlv⟩:=lF hown;subst hlv;have HU:=ai hq;have xW:=ai hcr;have kD:=ai hown;have HX:=ai hx;clear hq hcr hown hx;by_cases hlt:k<m
  ·have fq:k<u.length:=by have:=HM.o;omega
   have t1:=ag ((k:Int)<(m:Int));obtain⟨cb,ld,v,rfl,fO,hrow⟩:=qC.o.at fq;obtain⟨c0,c1,c2,c3,c4,c5,c6,c7,c8,c9⟩:=(hrow.mono HX.o.sub).BB;have Ba:=ai fO;have se:=ai (fun W (hW:Ext w6 W)=>HMT.o u[k] (aD fq) v W (Ey.o.trans hW) (fO.mono hW.sub));have HST:=ai (ac9 (ke V) fq);obtain⟨T,hT⟩:∃T,T=ke V u[k]:=⟨_,rfl⟩
   rw[show (V u[k].cond&&!nM V u[k].gH)=T from hT.symm] at se;rw[<-hT,<-HU.o] at HST;clear fO hrow hT;obtain⟨wb,iV⟩:∃wb,wb=wr.alloc (.cells #[ v.kind,.string v.name,v.x.op,.string v.x.name,.slice v.x.aw v.x.nw v.x.cw,v.x.lo,v.x.hi,.slice v.x.aa v.x.na v.x.ca,.slice v.au v.nu v.cu,v.ck] 48):=⟨_,rfl⟩
   have jK:=ai (show Ext wr wb by rw[iV];exact(Tz _).alloc _);have Af:=ai (show wb.heap[wr.heap.size]?=some (.cells #[ v.kind,.string v.name,v.x.op,.string v.x.name,.slice v.x.aw v.x.nw v.x.cw,v.x.lo,v.x.hi,.slice v.x.aa v.x.na v.x.ca,.slice v.au v.nu v.cu,v.ck] 48 (0,0)) by rw[iV];exact bR wr _);obtain⟨f0,f1,f2,f3,f4,f5,f6,f7,f8,f9,ff⟩:=rK Af.o;obtain⟨x0,x1,x2,xf⟩:=dM ((HX.o.trans jK.o).blk HL6.o);go_upto_region 14 with fail
   rw[<-iV];clear iV c0 c1 c2 c3 c4 c5 c6 c7 c8 c9;go_wp2_with fail
   refine(se.o wb (HX.o.trans jK.o)).mono ?_;rintro e w9 ⟨rfl,ux⟩;have vL:=ai (jK.o.trans ux);have a0g:=ai (ux.blk Af.o);have hsb:w6.heap.size<=w9.heap.size:=aV HX.o.size vL.o.size;clear ux f0 f1 f2 f3 f4 f5 f6 f7 f8 f9 ff x0 x1 x2 xf Af jK;cases T
   case false =>
    go_wp2_with fail
    go_roundw
    case rel=>exact⟨k+1,vs,q,by go_num,by omega,by rw[HST.o];rfl,by omega,xW.o,cO kD.o (vL.o.cR []) (by simp),HX.o.trans vL.o⟩
    case measure=>simp[intOf];omega
   case true =>
    have vF:=ai (cO kD.o (vL.o.cR []) (by simp));obtain⟨f0,f1,f2,f3,f4,f5,f6,f7,f8,f9,ff⟩:=rK a0g.o;go_wp2_with (at_builtin;refine dA nr rfl _ _ rfl w6.heap.size _ q.length _ rfl vF.o _ 1 1 rfl ?f0 rfl ?f1 ?f2 ?f3 ?f4 ?_)
    case f0=>simp
    case f1=>simp[Value.oneCell']
    case f2=>unfold maxLen;omega
    case f3=>omega
    case f4=>omega
    intro v8 w8 dY iI gX;have zo:=ai dY;have nB:=ai (iI.ext (HX.o.trans vL.o) fun q hq=>(vF.o.lt q (bV.1 hq)).1);clear dY iI gX f0 f1 f2 f3 f4 f5 f6 f7 f8 f9 ff;go_wp2_with fail
    go_roundw
    case rel=>exact⟨k+1,vs++[v],q++[u[k]],by go_num,by omega,by rw[HST.o];rfl,by simp;omega,xW.o.snoc Ba.o,by simpa[fM.cells] using zo.o,nB.o⟩
    case measure=>simp[intOf];omega
  have t1:=ah ((k:Int)<(m:Int));have Ro:=ai (show R=Hw ⟨4,-1,0,0,0,false⟩ q by rw[HQ.o,HU.o,aS (by have:=HM.o;omega)]);have hcl:=yJ (M:=[]) kD.o (by simp) (xW.o.mono (HX.o.sub.trans (Cf _)));obtain⟨a',c',hv,hcl⟩:=hcl;simp only[a45,true_and] at hv;obtain⟨rfl,rfl⟩:=hv;have aov:=ai (MN q la q.length lc wr (hcl.mono (cC _ _)) (by omega));rw[<-Ro.o] at aov;have wP:=ai (HX.o.blk jO.o);clear hcl;obtain⟨r1,r2,r3,r4,r5,r6⟩:=R;unfold rT.cells at aov;go_wp2_with fail
  refine aov.o.mono ?_;rintro e w7 ⟨rfl,ng⟩;have rZ:=ai ((aYb.o.trans HX.o).trans ng);have CX:=ai (ng.blk wP.o);clear ng;have hz:=CX.o;unfold EA rT.cells at hz;obtain⟨z0,z1,z2,z3,z4,z5,zf⟩:=dH hz;dsimp only at z0 z1 z2 z3 z4 z5;go_wp2_with fail
  obtain⟨w8,gX⟩:∃w8,w8=fA w7 bd (.int .i64 r1) (.int .i64 r2) (.int .i64 r3) (.int .i64 r4) (.int .i64 r5) (.bool r6):=⟨_,rfl⟩
  have nB:=ai (show Ext w w8 by rw[gX];exact(fe _ _).ext rZ.o (by simp;omega));have h8:w8.heap[bd]?=some (.cells #[ r1,r2,r3,r4,r5,.bool r6] 29 (0,0)):=by rw[gX];exact fH hz
  unfold fA at gX;rw[<-gX];clear gX z0 z1 z2 z3 z4 z5 zf hz;obtain⟨z0,z1,z2,z3,z4,z5,zf⟩:=dH h8;refine a5a (v:=.tuple #[.agg #[ r1,r2,r3,r4,r5,.bool r6],.int .i64 0]) (by simp[results,Tryz.results13,go_sem,z0,z1,z2,z3,z4,z5]) rfl ?_;exact⟨rfl,nB.o⟩
def PdR (s:List Attr) (l:List cK) (x:cK):Prop:=Pd s l x.cond/\jY (Pd s l) x.gH/\mH x.gH<=1000000
theorem aul {s:List Attr} {l:List cK} (hc:(cV s l).2=0) (hf:∀x∈l,x.fit):∀x∈l,PdR s l x:=fun x hx=>by
 obtain⟨h1,h2,-⟩:=aum hc hf x hx;have:=(wY (Vg hc x hx)).2;exact⟨h1,h2,by omega⟩
theorem aK' (vs:List jf):∀u∈vs.flatMap jf.cells,u.oneCell'=true:=by
 intro u hu;obtain⟨v,_,hv⟩:=List.mem_flatMap.1 hu;simp only[jf.cells,bz,bC,or_false] at hv;rcases hv with rfl|rfl|rfl|rfl|rfl|rfl<;>rfl
theorem oh {t e:TypeId} {z:Value} {size bytes:Nat} (E:uq t e z size bytes) {ρ:Operand->Value} {W:World} {T:Value->World->Prop} {dst:Option Tmp} {ty:TypeId} {pos:String} {after:Array Edge} {guard:Option (Nat×Bool)}
  (s x:Operand) (base:Nat) (v:Value) (n:Nat) (xs:List Value) (hs:ρ s=v) (B off m c:Nat) (news:List Value) (hx:ρ x=.slice (some ⟨B,off,none⟩) m c) (hl:news.length=m*size) (h1:∀u∈news,u.oneCell'=true) (hm:0<m) (hn:n+m<=100000000) (hb:bytes<=1000)
  (hown:W.ownsRow base e size v n xs) (hnews:∀j (h:j<news.length),W.cell? ⟨B,off+j,none⟩=some news[j]) (hbase:base<=W.heap.size)
  (h:∀g cap w',w'.ownsRow base e size (.slice (some ⟨g,0,none⟩) (n+m) cap) (n+m) (xs++news)->W.grownBy w' v.ownBlock->(v.ownBlock=some g\/g=W.heap.size)->g<w'.heap.size->T (.slice (some ⟨g,0,none⟩) (n+m) cap) w') :
  bQ Tryz.prog { dst:=dst,op:=.call { callee:=.builtin .append,args:=#[s,x],argTypes:=#[t,t] },type:=ty,pos:=pos,after:=after,guard:=guard } ρ W T:=by
 obtain⟨i,hi,hz,hsz,hby⟩:=info_parts E.info;obtain⟨g,cap,w',hrun,h2,h3,h4,h5⟩:=run_append_lies (P:=Tryz.prog) W t ty base e i z size bytes E.ht hi hz hsz hby E.hzs E.hsz v n xs hown ⟨B,off,none⟩ m c news hl (by
   intro j u hu;obtain⟨hj,rfl⟩:=List.getElem?_eq_some_iff.1 hu;have:(⟨B,off,none⟩:Addr).add j=⟨B,off+j,none⟩:=by unfold Addr.add;split<;>simp_all
   rw[this];exact hnews j hj) h1 hm (by simp only[maxLen];omega) (by
   calc (n+m)*bytes<=100000000*1000:=Nat.mul_le_mul hn hb
    _<=140737488355328:=by omega) hbase _ rfl
 unfold bQ;have he:execOp ρ { dst:=dst,op:=.call { callee:=.builtin .append,args:=#[s,x],argTypes:=#[t,t] },type:=ty,pos:=pos,after:=after,guard:=guard }=(do pure (.value (<-Builtin.append_ #[t,t] ty #[v,.slice (some ⟨B,off,none⟩) m c]))):=by
  rw[<-hs,<-hx,BigFrame.execOp_builtin,BigFrame.builtin_append];simp
 rw[he];simp only[Sem.run_bind,hrun];exact h g cap w' h2 h3 h4 h5
theorem ahI {c:Array Value} (h:c.size=6):∃v0 v1 v2 v3 v4 v5,c=#[v0,v1,v2,v3,v4,v5]:=by
 obtain⟨l⟩:=c
 match l,h with
 | [v0,v1,v2,v3,v4,v5],_=>exact⟨v0,v1,v2,v3,v4,v5,rfl⟩
theorem Ch {W:World} {K K':ZN} {g:Nat} (hK:∀y∈K',y∈K) (hg:g∈K\/W.heap.size<=g):Sub (mask W K) (mask W (g::K')):=fun p v hp=>by
 rw[eA] at hp ⊢;by_cases h:p.block∈K
 ·rw[bM h] at hp;cases hp
 rw[bL h] at hp;have hl:=eB hp;rw[bL fun hm=>?_]
 ·exact hp
 rcases bz.1 hm with e|e
 ·rcases hg with hg|hg
  ·exact h (by rw[e];exact hg)
  omega
 exact h (hK _ e)
theorem mj.append {w:World} {l l':List Rs} {vs vs':List jf} (h:mj w l vs) (h':mj w l' vs'):mj w (l++l') (vs++vs'):=by
 refine⟨by simp[h.1,h'.1],fun i h1 h2=>?_⟩;by_cases hi:i<l.length
 ·have hi2:i<vs.length:=by rw[<-h.1];exact hi
  simp only[bD hi,bD hi2];exact h.2 i hi hi2
 have hi2:¬i<vs.length:=by rw[<-h.1];exact hi
 rw[bK (by omega),bK (by omega)];simp only[h.1];exact h'.2 (i - vs.length) (by have:=h.1;simp at h1;omega) (by simp at h2;omega)
theorem atO {w:World} {b off n c:Nat} {vs:List jf} (h:eE w 6 jf.cells vs (some ⟨b,off,none⟩) n c):∀j (hj:j<(vs.flatMap jf.cells).length),w.cell? ⟨b,off+j,none⟩=some (vs.flatMap jf.cells)[j]:=by
 intro j hj;have hl:=eN jf.cells 6 (fun _=>rfl) vs;have hi:j / 6<vs.length:=by omega
 have hr:j % 6<(vs[j / 6]).cells.length:=by have:(vs[j / 6]).cells.length=6:=rfl;omega
 obtain⟨b',off',e,hc⟩:=h.2.2.2 (j / 6) hi;simp only[a42,Addr.mk.injEq,and_true] at e;obtain⟨rfl,rfl⟩:=e;have h1:=hc (j % 6) hr;have h2:=iJ jf.cells 6 (fun _=>rfl) vs (j / 6) hi (j % 6) hr;have e1:j / 6*6+j % 6=j:=by omega
 rw[e1,aT hj] at h2;rw[Nat.add_assoc,e1] at h1;rw[h1,<-h2]
theorem Au {ρ:Operand->Value} {W:World} {T:Value->World->Prop} {dst:Option Tmp} {ty:TypeId} {pos:String} {after:Array Edge} {guard:Option (Nat×Bool)}
  (s x:Operand) (base n:Nat) (a0:OA) (c0:Nat) (vs us:List jf) (hs:ρ s=.slice a0 n c0) (a:OA) (m c:Nat) (hx:ρ x=.slice a m c) (hn:n+m<=100000000)
  (hown:W.ownsRow base 69 6 (.slice a0 n c0) n (vs.flatMap jf.cells)) (hr:eE W 6 jf.cells us a m c) (hbase:base<=W.heap.size)
  (h:∀a' c' w',w'.ownsRow base 69 6 (.slice a' (n+m) c') (n+m) ((vs++us).flatMap jf.cells)->ct (rowOf (.slice a0 n c0)) W w'->(∀k,(Value.slice a' (n+m) c').ownBlock=some k->(Value.slice a0 n c0).ownBlock=some k\/W.heap.size<=k)->T (.slice a' (n+m) c') w') :
  bQ Tryz.prog { dst:=dst,op:=.call { callee:=.builtin .append,args:=#[s,x],argTypes:=#[55,55] },type:=ty,pos:=pos,after:=after,guard:=guard } ρ W T:=by
 have hmu:m=us.length:=hr.1;by_cases hm:m=0
 ·subst hm;obtain rfl:us=[]:=aR hmu.symm;obtain⟨i,hi,hz,hsz,hby⟩:=info_parts Qq.info;have hnc:n<=c0:=by
   rcases hown.2 with ⟨e,e2⟩|⟨g,cap,cur,e,_,_,hnc,_⟩
   ·cases e;exact aU _
   cases e;exact hnc
  have hrun:=Hl (P:=Tryz.prog) W 55 ty 69 i Qq.ht hi a0 n c0 hnc a c;unfold bQ;have he:execOp ρ { dst:=dst,op:=.call { callee:=.builtin .append,args:=#[s,x],argTypes:=#[55,55] },type:=ty,pos:=pos,after:=after,guard:=guard }=(do pure (.value (<-Builtin.append_ #[55,55] ty #[.slice a0 n c0,.slice a 0 c]))):=by
   rw[<-hs,<-hx,BigFrame.execOp_builtin,BigFrame.builtin_append];simp
  rw[he];simp only[Sem.run_bind,hrun];exact h a0 c0 W (by simpa using hown) (ct.refl _ _) fun k hk=>aoX hk
 have hlen:=eN jf.cells 6 (fun _=>rfl) us;obtain⟨b,off,rfl,-⟩:=hr.2.2.2 0 (by omega);refine oh Qq s x base _ n _ hs b off m c (us.flatMap jf.cells) hx (by rw[hlen,hmu]) (aK' us) (by omega) hn (by omega) hown (atO hr) hbase ?_;intro g cap w' ho hg hw _;refine h (some ⟨g,0,none⟩) cap w' (by simpa using ho) (eX hg) fun k hk=>?_
 simp only[Value.ownBlock,a42] at hk;subst hk;exact hw.imp id fun e=>by omega
def j5 (w:World) (B:Nat) (v0 v1 v2 v3 v4 v5 v6:Value):World:=((((((w.setCell ⟨B,0,none⟩ v0).setCell ⟨B,1,none⟩ v1).setCell ⟨B,2,none⟩ v2).setCell ⟨B,3,none⟩ v3).setCell ⟨B,4,none⟩ v4).setCell ⟨B,5,none⟩ v5).setCell ⟨B,6,none⟩ v6
theorem sU {w:World} {B:Nat} {u0 u1 u2 u3 u4 u5 u6 v0 v1 v2 v3 v4 v5 v6:Value} {t:TypeId} (h:w.heap[B]?=some (.cells #[u0,u1,u2,u3,u4,u5,u6] t (0,0))):(j5 w B v0 v1 v2 v3 v4 v5 v6).heap[B]?=some (.cells #[v0,v1,v2,v3,v4,v5,v6] t (0,0)):=by
 unfold j5;rw[aI _ _ _ _ _ _ (aI _ _ _ _ _ _ (aI _ _ _ _ _ _ (aI _ _ _ _ _ _ (aI _ _ _ _ _ _ (aI _ _ _ _ _ _ (aI _ _ _ _ _ _ h))))))];simp
theorem pW (w:World) (B:Nat) {v0 v1 v2 v3 v4 v5 v6:Value}:ct [B] w (j5 w B v0 v1 v2 v3 v4 v5 v6):=by
 unfold j5
 repeat (with_reducible (refine ct.setCell ?_ ?_ _))
 exact ct.refl _ _
 all_goals exact aoX (by simp)
theorem gR {w:World} {b:Nat} {v0 v1 v2 v3 v4 v5 v6:Value} {t:TypeId} (h:w.heap[b]?=some (.cells #[v0,v1,v2,v3,v4,v5,v6] t (0,0))) :
  w.cell? ⟨b,0,none⟩=some v0/\w.cell? ⟨b,1,none⟩=some v1/\w.cell? ⟨b,2,none⟩=some v2/\w.cell? ⟨b,3,none⟩=some v3/\w.cell? ⟨b,4,none⟩=some v4/\w.cell? ⟨b,5,none⟩=some v5/\w.cell? ⟨b,6,none⟩=some v6/\(∀o,w.frozen? ⟨b,o,none⟩=false) :=
 ⟨bX h 0,bX h 1,bX h 2,bX h 3,bX h 4,bX h 5,bX h 6,fun o=>ie h o⟩
theorem Ka {W:World} {g base:Nat} {v:jf} (h:W.heap[g]?=some (.cells v.cells.toArray 69 (0,0))) (hg:base<=g):W.ownsRow base 69 6 (.slice (some ⟨g,0,none⟩) 1 1) 1 ([v].flatMap jf.cells) :=
 ⟨rfl,a4Z ⟨g,1,v.cells.toArray,rfl,hg,h,aU _,by unfold maxLen;omega,rfl,by simp[jf.cells]⟩⟩
theorem Tq {W w2:World} {v v':Value} {K K':ZN} (hc:ct (rowOf v) W w2) (hg:∀k,v'.ownBlock=some k->v.ownBlock=some k\/W.heap.size<=k) (h1:∀y∈rowOf v,y∈K) (h2:∀y∈K',y∈K\/y∈rowOf v'):Sub (mask W K) (mask w2 K') :=
 cQ fun k hk hn=>⟨fun hm=>by
  rcases h2 k hm with h|h
  ·exact hn h
  rcases hg k (bV.1 h) with e|e
  ·exact hn (h1 k (bV.2 e))
  omega,hc.block k hk fun hm=>hn (h1 k hm)⟩
end Go.Proofs.YtefjomofjejklaaGreatDoor
