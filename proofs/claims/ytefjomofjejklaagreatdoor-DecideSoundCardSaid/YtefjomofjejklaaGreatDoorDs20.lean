/- Joined. -/
import Derived.Test.YtefjomofjejklaaGreatDoorDs15
namespace Go.Proofs.YtefjomofjejklaaGreatDoor
set_option maxRecDepth 100000
set_option maxHeartbeats 32000000
open Go.ChangeShapes Go.WideShapes Go.ChangeAt Go.RowKit
theorem a5m:(Tryz.prog.underlying 69).bind (fun u=>match u with|.struct fs=>some (fs.toList.map (fun f=>(f.type,f.offset)))|_=>none)=some [(9,0),(4,1),(67,2),(55,5)]:=by kernel_rfl
theorem uRs:∃fs:Array Field,Tryz.prog.underlying 69=some (.struct fs)/\fs.toList.map (fun f=>(f.type,f.offset))=[(9,0),(4,1),(67,2),(55,5)]:=by
 have h:=a5m;generalize Tryz.prog.underlying 69=U at *
 match U,h with
 | some (.struct fs),h=>exact⟨fs,rfl,by simpa using h⟩
theorem a5o:(Tryz.prog.underlying 29).bind (fun u=>match u with|.struct fs=>some (fs.toList.map (fun f=>(f.type,f.offset)))|_=>none)=some [(3,0),(3,1),(3,2),(3,3),(3,4),(4,5)]:=by kernel_rfl
theorem uDc:∃fs:Array Field,Tryz.prog.underlying 29=some (.struct fs)/\fs.toList.map (fun f=>(f.type,f.offset))=[(3,0),(3,1),(3,2),(3,3),(3,4),(4,5)]:=by
 have h:=a5o;generalize Tryz.prog.underlying 29=U at *
 match U,h with
 | some (.struct fs),h=>exact⟨fs,rfl,by simpa using h⟩
theorem a5n:(Tryz.prog.underlying 57).bind (fun u=>match u with|.struct fs=>some (fs.toList.map (fun f=>(f.type,f.offset)))|_=>none)=some [(29,0),(55,6)]:=by kernel_rfl
theorem uDv:∃fs:Array Field,Tryz.prog.underlying 57=some (.struct fs)/\fs.toList.map (fun f=>(f.type,f.offset))=[(29,0),(55,6)]:=by
 have h:=a5n;generalize Tryz.prog.underlying 57=U at *
 match U,h with
 | some (.struct fs),h=>exact⟨fs,rfl,by simpa using h⟩
theorem cRs:Tryz.prog.cellsOf 69=6:=by kernel_rfl
theorem a50:Tryz.prog.cellsOf 55=1:=by kernel_rfl
theorem cDc:Tryz.prog.cellsOf 29=6:=by kernel_rfl
theorem cDv:Tryz.prog.cellsOf 57=7:=by kernel_rfl
theorem a5Z:Tryz.prog.underlying 55=some (.slice 69):=by kernel_rfl
theorem bRs:Tryz.prog.bytesOf 69=88:=by kernel_rfl
theorem a5T {α:Type} (l:List α) (h:l.length=4):∃a b c d,l=[a,b,c,d]:=by
 rcases l with _|⟨a,_|⟨b,_|⟨c,_|⟨d,_|⟨e,r⟩⟩⟩⟩⟩<;>simp at h
 exact⟨a,b,c,d,rfl⟩
theorem a5F {α:Type} (l:List α) (h:l.length=6):∃a b c d e f,l=[a,b,c,d,e,f]:=by
 rcases l with _|⟨a,_|⟨b,_|⟨c,_|⟨d,_|⟨e,_|⟨f,_|⟨g,r⟩⟩⟩⟩⟩⟩⟩<;>simp at h
 exact⟨a,b,c,d,e,f,rfl⟩
theorem a5S {α:Type} (l:List α) (h:l.length=7):∃a b c d e f g,l=[a,b,c,d,e,f,g]:=by
 rcases l with _|⟨a,_|⟨b,_|⟨c,_|⟨d,_|⟨e,_|⟨f,_|⟨g,_|⟨i,r⟩⟩⟩⟩⟩⟩⟩⟩<;>simp at h
 exact⟨a,b,c,d,e,f,g,rfl⟩
inductive RsN (N:Nat):Rs->Prop
 | mk {nm:BA} {b:Bool} {p:Pr} {us:List Rs} (hp:p.fit) (hn:us.length<=N) (h:∀q∈us,RsN N q):RsN N (.mk nm b p us)
theorem a5q {W:World} {vs:List jf} {a:OA} {n c:Nat} (h:eE W 6 jf.cells vs a n c) (hn:n<=1000000000000000) (hq:∀v∈vs,∃r,kC W r v/\RsN 1000000000000000 r):∃L,iE W L a n c/\L.length<=1000000000000000/\∀r∈L,RsN 1000000000000000 r:=by
 obtain⟨l,sA,hl2⟩:=LZ vs.length (Q:=fun i p=>∀h:i<vs.length,kC W p (vs[i]'h)/\RsN 1000000000000000 p) (fun i hi=>by
  obtain⟨p,hp⟩:=hq _ (aD hi);exact⟨p,fun _=>hp⟩)
 refine⟨l,⟨vs,⟨sA,fun i h1 h2=>(hl2 i h1 h2).1⟩,h⟩,by have:=h.1;omega,fun q hq=>?_⟩;obtain⟨i,hi,rfl⟩:=bA hq;exact(hl2 i hi (by omega)).2
theorem a5R {H:Type} {enc:TypeId×Value->H} {W:World}:∀(fuel:Nat) (cs:List Value) (x:DataW H×List MemPlace),DataW.trod enc Tryz.prog W 0 (fun _=>true) true fuel 69 cs=some x->(x.1.weights Tryz.prog 69).all (·<=reachBytes)=true ->
  ∃v:jf,cs=v.cells/\∃r:Rs,kC W r v/\RsN 1000000000000000 r:=by
 intro fuel;induction fuel using Nat.strongRecOn with
 | _ fuel ih =>
  intro cs x h hw;obtain⟨fs,uE,are⟩:=uRs;obtain⟨xs,n,rfl,rfl,hlen,hxl,hf⟩:=DataW.trod_struct uE h;have e6:fs.size=4:=by have:=congrArg List.length are;simpa using this
  rw[e6] at hxl;rw[cRs] at hlen;obtain⟨c0,c1,c2,c3,c4,c5,rfl⟩:=a5F cs hlen;obtain⟨x0,x1,x2,x3,rfl⟩:=a5T xs hxl;obtain⟨f0,g0,t0,o0⟩:=fF 0 _ _ (by rw[are];rfl);obtain⟨f1,g1,t1,o1⟩:=fF 1 _ _ (by rw[are];rfl);obtain⟨f2,g2,t2,o2⟩:=fF 2 _ _ (by rw[are];rfl);obtain⟨f3,g3,t3,o3⟩:=fF 3 _ _ (by rw[are];rfl);have r0:=hf 0 f0 g0;have r1:=hf 1 f1 g1;have r2:=hf 2 f2 g2;have r3:=hf 3 f3 g3;rw[t0,o0,cS] at r0;rw[t1,o1,cBo] at r1;rw[t2,o2,cPr] at r2;rw[t3,o3,a50] at r3;simp only[List.drop_zero,List.drop_succ_cons,List.take_succ_cons,List.take_zero,List.getElem?_cons_zero,List.getElem?_cons_succ] at r0 r1 r2 r3;have hty:fs.toList.map (·.type)=[9,4,67,55]:=by
   have:=congrArg (List.map Prod.fst) are;rw[List.map_map] at this;exact this
  rw[DataW.weights,uE] at hw;simp only[hty,List.map_cons,List.map_nil,DataW.weightsEach,List.all_append,aF] at hw;obtain⟨_,_,w2,w3,_⟩:=hw;obtain⟨s,a0,_,_⟩:=DataW.trod_string uS r0;obtain⟨bv,a1,_⟩:=DataW.trod_bool uBo r1;simp only[a5c,and_true] at a0 a1;subst a0 a1;obtain⟨pv,he,p,hp1,hp2⟩:=aLk _ _ _ r2 w2;simp only[gS.cells,a5c,and_true] at he;obtain⟨rfl,rfl,rfl⟩:=he;obtain⟨vs,a,n',c,rfl,q1,q2,q3⟩:=Dn (Q:=fun v:jf=>∃r,kC W r v/\RsN 1000000000000000 r) jf.cells jf.len (by omega) a5Z cRs bRs (by omega) (fun k hk cs x g1 g2=>ih k (by omega) cs x g1 g2) r3 w3;obtain⟨L,hL,hn,hr⟩:=a5q q1 q3 q2;exact⟨⟨s,bv,pv,a,n',c⟩,rfl,.mk s bv p L,Gc hp1 hL s bv,.mk hp2 hn hr⟩
theorem a55 {H:Type} {enc:TypeId×Value->H} {W:World} {v:Value} {d:DataW H} {p:List MemPlace} {ts:List TypeId} {ds:List (DataW H)} {j:Nat} (h:DataW.Trod enc Tryz.prog W 0 (fun _=>true) true 57 v d p) {base:Nat} (hval:Value.okWide Tryz.prog W .any base 57 v)
  (hs:(DataW.weightsEach Tryz.prog ts ds).all (·<=reachBytes)=true) (ht:ts[j]?=some 57) (hd:ds[j]?=some d):∃(D:rT) (L:List Rs) (a:OA) (n c:Nat),v=.agg #[.int .i64 D.oP,.int .i64 D.lim,.int .i64 D.xV,.int .i64 D.xU,.int .i64 D.xN,.bool D.Bt,.slice a n c]/\iE W L a n c/\n<=1000000000000000:=by
 obtain⟨fuel,hf⟩:=h;have hw:(d.weights Tryz.prog 57).all (·<=reachBytes)=true:=by
  rw[aP];intro n hn;exact aP.1 hs n (DataW.weights_mem_each ht hd n hn)
 obtain⟨fs0,uE0,_⟩:=uDv;obtain⟨cs,rfl,_⟩:=okWide_struct uE0 hval;simp only[Value.cells] at hf;obtain⟨fs,uE,are⟩:=uDv;obtain⟨xs,m,rfl,hx,hlen,hxl,hff⟩:=DataW.trod_struct uE hf;have e2:fs.size=2:=by have:=congrArg List.length are;simpa using this
 rw[e2] at hxl;rw[cDv] at hlen;obtain⟨c0,c1,c2,c3,c4,c5,c6,hcs⟩:=a5S _ hlen;obtain⟨x0,x1,rfl⟩:∃a b,xs=[a,b]:=by
  rcases xs with _|⟨a,_|⟨b,_|⟨c,r⟩⟩⟩<;>simp at hxl
  exact⟨a,b,rfl⟩
 obtain⟨f0,g0,t0,o0⟩:=fF 0 _ _ (by rw[are];rfl);obtain⟨f1,g1,t1,o1⟩:=fF 1 _ _ (by rw[are];rfl);have r0:=hff 0 f0 g0;have r1:=hff 1 f1 g1;rw[t0,o0,cDc,hcs] at r0;rw[t1,o1,a50,hcs] at r1;simp only[List.drop_zero,List.drop_succ_cons,List.take_succ_cons,List.take_zero,List.getElem?_cons_zero,List.getElem?_cons_succ] at r0 r1;have hty:fs.toList.map (·.type)=[29,55]:=by
  have:=congrArg (List.map Prod.fst) are;rw[List.map_map] at this;exact this
 rw[show d=(DataW.agg [x0.1,x1.1]:DataW H) from by simpa using congrArg Prod.fst hx] at hw;rw[DataW.weights,uE] at hw;simp only[hty,DataW.weightsEach,List.all_append,aF] at hw;obtain⟨_,w1,_⟩:=hw;obtain⟨vs,a,n',c,e6,q1,q2,q3⟩:=Dn (Q:=fun v:jf=>∃r,kC W r v/\RsN 1000000000000000 r) jf.cells jf.len (by omega) a5Z cRs bRs (by omega) (fun k hk cs x g1 g2=>a5R k cs x g1 g2) r1 w1;obtain⟨L,hL,hn,_⟩:=a5q q1 q3 q2;obtain⟨fd,uD,a5u⟩:=uDc;obtain⟨ys,md,_,rfl,_,Et,hfd⟩:=DataW.trod_struct uD r0;have e6':fd.size=6:=by have:=congrArg List.length a5u;simpa using this
 rw[e6'] at Et;obtain⟨y0,y1,y2,y3,y4,y5,rfl⟩:=a5F ys Et;obtain⟨F0,G0,T0,O0⟩:=fF 0 _ _ (by rw[a5u];rfl);obtain⟨F1,G1,T1,O1⟩:=fF 1 _ _ (by rw[a5u];rfl);obtain⟨F2,G2,T2,O2⟩:=fF 2 _ _ (by rw[a5u];rfl);obtain⟨F3,G3,T3,O3⟩:=fF 3 _ _ (by rw[a5u];rfl);obtain⟨F4,G4,T4,O4⟩:=fF 4 _ _ (by rw[a5u];rfl);obtain⟨F5,G5,T5,O5⟩:=fF 5 _ _ (by rw[a5u];rfl);have s0:=hfd 0 F0 G0;have s1:=hfd 1 F1 G1;have s2:=hfd 2 F2 G2;have s3:=hfd 3 F3 G3;have s4:=hfd 4 F4 G4;have s5:=hfd 5 F5 G5;rw[T0,O0,cI] at s0;rw[T1,O1,cI] at s1;rw[T2,O2,cI] at s2;rw[T3,O3,cI] at s3;rw[T4,O4,cI] at s4;rw[T5,O5,cBo] at s5;simp only[List.drop_zero,List.drop_succ_cons,List.take_succ_cons,List.take_zero,List.getElem?_cons_zero,List.getElem?_cons_succ] at s0 s1 s2 s3 s4 s5;obtain⟨i0,a0,_,_⟩:=DataW.trod_int uI s0;obtain⟨i1,a1,_,_⟩:=DataW.trod_int uI s1;obtain⟨i2,a2,_,_⟩:=DataW.trod_int uI s2;obtain⟨i3,a3,_,_⟩:=DataW.trod_int uI s3;obtain⟨i4,a4,_,_⟩:=DataW.trod_int uI s4;obtain⟨i5,a5,_⟩:=DataW.trod_bool uBo s5;simp only[a5c,and_true] at a0 a1 a2 a3 a4 a5 e6;subst a0 a1 a2 a3 a4 a5 e6;refine⟨⟨i0,i1,i2,i3,i4,i5⟩,L,a,n',c,?_,hL,q3⟩;have:cs=#[.int .i64 i0,.int .i64 i1,.int .i64 i2,.int .i64 i3,.int .i64 i4,.bool i5,.slice a n' c]:=by
  rw[<-Array.toList_inj];exact hcs
 rw[this]
end Go.Proofs.YtefjomofjejklaaGreatDoor
