/-
  Texts of the claim, joined: RExl, SamePr, SameW, RSam, DExw.
-/
import Derived.Test.YtefjomofjejklaaGreatDoorDx27
namespace Go.Proofs.YtefjomofjejklaaGreatDoor
set_option maxRecDepth 100000
set_option maxHeartbeats 32000000
open Go.RowKit Go.Maps
theorem aLs {s:List Attr} {l:List dY} {f:ZI} (h:(eU s l).2=0) (hfa:jq s f=true) (hsf:∀x∈s,x.fits) {w0:World} {sa:OA} {sn sc:Nat} {a:OA} {n c:Nat} {fa:OA} {fn:Nat} (fc:Nat)
  (hs:fJ w0 s (.agg #[.slice sa sn sc])) (hl:eX w0 l a n c) (hi:fO w0 f fa fn):aRe w0 sa sn sc l a n c fa fn fc (val s l f) (pf s l f) (Pv s l) where
 rr:=⟨(Vh h hfa hsf fc hs hl hi).tr,fun W hW e ev hp he=>(aeA s l f (qO h) hfa hsf a n c fa fn fc sa sn sc (l.length+1) 300 e ev (List.range W.heap.size) W hp.2.2.2 (by omega) hp.1 hp.2.1 hp.2.2.1 (fun y hy=>List.mem_range.1 hy) (hs.ext hW) (hl.ext hW) (hi.ext hW) he).mono (fun r w' ⟨v,h1,h2,h3⟩=>⟨v,h1,h2,h3⟩),fun e=>akw s l f e⟩
 WT:=hl
 few:=(Vh h hfa hsf fc hs hl hi).few
 ok:=fun x hx=>by
  have hk:=afH h x hx;have h2:=(EW (afE h x hx)).2;exact⟨hk.cond,hk.wbs,by omega⟩
theorem WI (F:Ex->Pr) (l:List dY) (k:Int):ad3 F l k k=(wJ [k] l).map (qF F):=by
 unfold ad3 wJ
 congr 2
 funext x
 simp only[List.any_cons,List.any_nil,Bool.or_false];rw[bW];simp only[aJ,aN,beq_iff_eq];omega
theorem amh (F:Ex->Pr) (l:List dY):ad3 F l 5 9=(wJ vF l).map (qF F):=by
 unfold ad3 wJ vF
 congr 2
 funext x
 simp only[List.any_cons,List.any_nil,Bool.or_false];rw[bW];simp only[aJ,bV,aN,beq_iff_eq];omega
theorem aAm.to {L L':List Rs} {k k':Nat} {w:World} {e:Ending} {w':World} (h:aAm L k w e w') (e1:L=L') (e2:k=k'):aAm L' k' w e w':=by
 subst e1 e2;exact h
theorem dO.then' {w w1 w2 W:World} {b:Nat} (h:dO [] w1 w2) (h2:dO [b] w2 W) (h0:Ext w w1) (hb:w.heap.size<=b:=by omega):Ext w W:=h2.ext ((h.ext h0 (by simp))) (fun y hy=>by rw[aK.1 hy];exact hb)
theorem akg (s:List Attr) (l:List dY) (f:ZI) (sv:Value) (a:OA) (n c:Nat) (fa:OA) (fn fc:Nat) (w:World) (hs:fJ w s sv) (hf:∀x∈s,x.fits) (hsl:s.length<=1000000000000000) (hl:eX w l a n c) (hn:n<=1000000) (hok:∀x∈l,x.fit) (hi:fO w f fa fn) :
  Calls Tryz.prog 21 #[sv,.slice a n c,.slice fa fn fc] w (aBY s l f w):=by
 obtain⟨sa,sn,sc,rfl,hsn⟩:=hs.slice;have HER:=ak (fun W (hW:Ext w W)=>acG s l f _ a n c fa fn fc W (hs.ext hW) hf hsl (hl.ext hW) hn hok (hi.ext hW));have HVE:=ak (fun (h0:nI s l f=0) W (hW:Ext w W)=>show Calls Tryz.prog 36 #[.agg #[.slice sa sn sc],.slice a n c,.slice fa fn fc] W (dN (.agg (Y8 (val s l f) l).cells) W) from Jq (Vh (zB h0).1 (by have:=(zB h0).2;unfold mJ at this;simp only[aJ] at this;exact this.2) hf fc (hs.ext hW) (hl.ext hW) (hi.ext hW)) W (Ext.refl W));have HRL:=ak (fun (h0:nI s l f=0) W (hW:Ext w W)=>aLs (zB h0).1 (by have:=(zB h0).2;unfold mJ at this;simp only[aJ] at this;exact this.2) hf fc (hs.ext hW) (hl.ext hW) (hi.ext hW));have HNL:=ak (show l.length<=1000000 by have:=hl.len;omega);obtain⟨E,hE⟩:∃E,E=nI s l f:=⟨_,rfl⟩
 obtain⟨D,hD⟩:∃D,D=qN s l f:=⟨_,rfl⟩
 obtain⟨R,hR⟩:∃R,R=aaU s l f:=⟨_,rfl⟩
 unfold aBY;rw[<-hE] at HER HVE HRL;rw[<-hE,<-hD,<-hR];have HRZ:=ak (show E≠0->D=⟨0,0,0,0,0,false⟩/\R=[] from fun h=>by rw[hE] at h;rw[hD,hR];unfold qN aaU;rw[dh h,dh h];exact⟨rfl,rfl⟩);have HRV:=ak (fun (h:E=0) W (hW:Ext w W)=>show Calls Tryz.prog 36 #[.agg #[.slice sa sn sc],.slice a n c,.slice fa fn fc] W (dN (.agg D.cells) W) by rw[hD];unfold qN;rw[dw (by rw[<-hE];exact h)];exact HVE.o h W hW);have HRR:=ak (show E=0->D=Y8 (val s l f) l/\R=aly (pf s l f) l from fun h=>by rw[hE] at h;rw[hD,hR];unfold qN aaU;rw[dw h,dw h];exact⟨rfl,rfl⟩);clear hs hf hsl hl hn hok hi hsn hE hD hR HVE;obtain⟨b1,hb1⟩:∃b1,b1=w.heap.size:=⟨_,rfl⟩
 obtain⟨wa,dW⟩:∃wa,wa=(w.alloc (.cells #[.slice sa sn sc] 24)).alloc (.cells #[.int .i64 0,.int .i64 0,.int .i64 0,.int .i64 0,.int .i64 0,.bool false,.slice none 0 0] 57):=⟨_,rfl⟩
 have fE:=ak (show Ext w wa by rw[dW];exact((Ext.refl _).alloc _).alloc _);have HBD:=ak (show wa.heap[b1+1]?=some (.cells #[.int .i64 0,.int .i64 0,.int .i64 0,.int .i64 0,.int .i64 0,.bool false,.slice none 0 0] 57 (0,0)) by rw[dW,hb1];exact eH (by simp));have HB1:=ak (show wa.heap[b1]?=some (.cells #[.slice sa sn sc] 24 (0,0)) by rw[dW,hb1];exact dJ (dG w _));obtain⟨n0,hn0⟩:∃n0,n0=wa.heap.size:=⟨_,rfl⟩
 have HS:=ak (show b1=w.heap.size/\b1+2=n0/\n0=wa.heap.size from⟨hb1,by rw[hn0,dW,hb1];simp,hn0⟩);obtain⟨s0,sf⟩:=gQ HB1.o;go_enter Tryz.func21,Tryz.ntmps21
 go_upto_region 1 with fail
 rw[<-dW,<-hb1];clear dW hb1 hn0;go_wp2_with fail
 refine(HER.o wa fE.o).mono ?_;rintro r w1 ⟨rfl,hx1⟩;have anW:=ak hx1;have hbd:=hx1.blk HBD.o;clear hx1 s0 sf HER;by_cases h1:E=0
 case neg =>
  have t1:(E != 0)=true:=by simp[h1]
  obtain⟨rfl,rfl⟩:=HRZ.o h1;clear h1;obtain⟨q0,q1,q2,q3,q4,q5,q6,qf⟩:=qj hbd;have HF:=ak (show (qG w1 (b1+1) (.int .i64 0) (.int .i64 0) (.int .i64 0) (.int .i64 0) (.int .i64 0) (.bool false) (.slice none 0 0)).heap[b1+1]?=some (.cells #[.int .i64 0,.int .i64 0,.int .i64 0,.int .i64 0,.int .i64 0,.bool false,.slice none 0 0] 57 (0,0))/\dO [b1+1] w1 (qG w1 (b1+1) (.int .i64 0) (.int .i64 0) (.int .i64 0) (.int .i64 0) (.int .i64 0) (.bool false) (.slice none 0 0)) from⟨zA hbd,vg w1 (b1+1)⟩);clear hbd;go_wp2_with fail
  obtain⟨wz,hwz⟩:∃wz,wz=qG w1 (b1+1) (.int .i64 0) (.int .i64 0) (.int .i64 0) (.int .i64 0) (.int .i64 0) (.bool false) (.slice none 0 0):=⟨_,rfl⟩
  rw[<-hwz] at HF;unfold qG at hwz;rw[<-hwz];clear hwz q0 q1 q2 q3 q4 q5 q6 qf;obtain⟨q0,q1,q2,q3,q4,q5,q6,qf⟩:=qj HF.o.1;refine bodyPost_ret (v:=.tuple #[.agg #[.int .i64 0,.int .i64 0,.int .i64 0,.int .i64 0,.int .i64 0,.bool false,.slice none 0 0],.int .i64 E]) (by simp[results,Tryz.results21,go_sem,q0,q1,q2,q3,q4,q5,q6]) rfl ?_;exact⟨none,0,0,rfl,XF _,HF.o.2.ext (fE.o.trans anW.o) (fun y hy=>by rw[aK.1 hy];have:=HS.o;omega)⟩
 have HV:=ak (HRV.o h1);have HL:=ak (HRL.o h1);obtain⟨hDE,hRE⟩:=HRR.o h1;subst h1;clear HRV HRZ HRL HRR hbd;have hval:∀e,(pf s l f e).value=val s l f e:=akw s l f;have HPK:=ak (fun (kind:Int) (ap:Bool) W (hW:Ext wa W)=>am8 (HL.o wa fE.o) kind ap W hW);have HAL:=ak (fun (lo hi:Int) W (hW:Ext wa W)=>Xm (HL.o wa fE.o) lo hi W hW);have HPE:=ak (fun k b=>aGG hval l k b);obtain⟨F1,e1⟩:∃F1,F1=((wJ [2] l).map (qF (pf s l f))).find? fun r=>r.applies==true:=⟨_,rfl⟩
 obtain⟨F2,e2⟩:∃F2,F2=((wJ [4] l).map (qF (pf s l f))).find? fun r=>r.applies==false:=⟨_,rfl⟩
 obtain⟨F3,e3⟩:∃F3,F3=((wJ [3] l).map (qF (pf s l f))).find? fun r=>r.applies==true:=⟨_,rfl⟩
 have IX:=ak (show VF (pf s l f) (val s l f) l 2 true=F1.toList by rw[HPE.o,e1]);have HP2:=ak (show VF (pf s l f) (val s l f) l 4 false=F2.toList by rw[HPE.o,e2]);have KL:=ak (show VF (pf s l f) (val s l f) l 3 true=F3.toList by rw[HPE.o,e3]);obtain⟨R1,h1⟩:∃R1,R1=(wJ [2] l).map (qF (pf s l f)):=⟨_,rfl⟩
 obtain⟨R2,h2⟩:∃R2,R2=(wJ [4] l).map (qF (pf s l f)):=⟨_,rfl⟩
 obtain⟨R3,h3⟩:∃R3,R3=(wJ [3] l).map (qF (pf s l f)):=⟨_,rfl⟩
 obtain⟨R4,h4⟩:∃R4,R4=(wJ vF l).map (qF (pf s l f)):=⟨_,rfl⟩
 obtain⟨r1,hr1⟩:∃k,k=R1.length:=⟨_,rfl⟩
 obtain⟨r2,hr2⟩:∃k,k=R2.length:=⟨_,rfl⟩
 obtain⟨r3,hr3⟩:∃k,k=R3.length:=⟨_,rfl⟩
 obtain⟨r4,hr4⟩:∃k,k=R4.length:=⟨_,rfl⟩
 have HEC:=ak (apu (F1:=F1) (F2:=F2) (F3:=F3) hval l hDE hRE h1 h2 h3 h4 (by rw[e1,h1]) (by rw[e2,h2]) (by rw[e3,h3]));have HA2:=ak (fun W (hW:Ext wa W)=>(HAL.o 2 2 W hW).mono fun e w' h=>h.to (k':=r1) (L':=R1) (by rw[WI,h1]) (by rw[WI,hr1,h1]));have HA4:=ak (fun W (hW:Ext wa W)=>(HAL.o 4 4 W hW).mono fun e w' h=>h.to (k':=r2) (L':=R2) (by rw[WI,h2]) (by rw[WI,hr2,h2]));have HA3:=ak (fun W (hW:Ext wa W)=>(HAL.o 3 3 W hW).mono fun e w' h=>h.to (k':=r3) (L':=R3) (by rw[WI,h3]) (by rw[WI,hr3,h3]));have HA9:=ak (fun W (hW:Ext wa W)=>(HAL.o 5 9 W hW).mono fun e w' h=>h.to (k':=r4) (L':=R4) (by rw[amh,h4]) (by rw[amh,hr4,h4]));have HQ1:=ak (fun (x:Rs) (hx:F1=some x) W (hW:Ext wa W)=>(HPK.o 2 true W hW).mono fun e w' h=>h.to (k':=1) (L':=[x]) (by rw[IX.o,hx];rfl) (by rw[IX.o,hx];rfl));have HQ2:=ak (fun (x:Rs) (hx:F2=some x) W (hW:Ext wa W)=>(HPK.o 4 false W hW).mono fun e w' h=>h.to (k':=1) (L':=[x]) (by rw[HP2.o,hx];rfl) (by rw[HP2.o,hx];rfl));have Zk:=ak (fun (x:Rs) (hx:F3=some x) W (hW:Ext wa W)=>(HPK.o 3 true W hW).mono fun e w' h=>h.to (k':=1) (L':=[x]) (by rw[KL.o,hx];rfl) (by rw[KL.o,hx];rfl));have HQE:=ak (show (F1=none->VF (pf s l f) (val s l f) l 2 true=[]) from fun h=>by rw[IX.o,h];rfl);have OO:=ak (show r1=R1.length/\r2=R2.length/\r3=R3.length/\r4=R4.length/\r1<=1000000/\r2<=1000000/\r3<=1000000/\r4<=1000000 by
  have hle:∀ks,((wJ ks l).map (qF (pf s l f))).length<=l.length:=fun ks=>by rw[List.length_map];unfold wJ;exact List.length_filter_le _ _
  have hL:=HNL.o;refine⟨hr1,hr2,hr3,hr4,?_,?_,?_,?_⟩
  ·rw[hr1,h1];exact bC (hle _) hL
  ·rw[hr2,h2];exact bC (hle _) hL
  ·rw[hr3,h3];exact bC (hle _) hL
  rw[hr4,h4];exact bC (hle _) hL)
 clear hval HPK HAL HPE e1 e2 e3 IX HP2 KL h1 h2 h3 h4 hr1 hr2 hr3 hr4 hDE hRE HL HNL;obtain⟨d1,d2,d3,d4,d5,d6⟩:=D;unfold Dec.cells at HV;obtain⟨s0,sf⟩:=gQ (anW.o.blk HB1.o);go_wp2_with fail
 refine(HV.o w1 (fE.o.trans anW.o)).mono ?_;rintro r wv ⟨rfl,hxv⟩;obtain⟨b9,I7⟩:∃b9,b9=wv.heap.size:=⟨_,rfl⟩
 obtain⟨w2,hw2⟩:∃w2,w2=wv.alloc (.cells #[.int .i64 d1,.int .i64 d2,.int .i64 d3,.int .i64 d4,.int .i64 d5,.bool d6,.slice none 0 0] 57):=⟨_,rfl⟩
 have afQ:=ak (show Ext wa w2 by rw[hw2];exact(anW.o.trans hxv).alloc _);have axG:=ak (show w2.heap[b9]?=some (.cells #[.int .i64 d1,.int .i64 d2,.int .i64 d3,.int .i64 d4,.int .i64 d5,.bool d6,.slice none 0 0] 57 (0,0)) by rw[hw2,I7];exact dG wv _);have H9A:=ak (show wa.heap.size<=b9 by rw[I7];exact(anW.o.trans hxv).size);obtain⟨n1,hn1⟩:∃n1,n1=w2.heap.size:=⟨_,rfl⟩
 have Em:=ak hn1;have H9N:=ak (show b9<n1 by have:=dH axG.o;omega);have acg:=ak (show n0<=w2.heap.size by have:=HS.o;have:=afQ.o.size;omega);have H9Z:=ak (show ∀W:World,w2.heap.size<=W.heap.size->n1<=W.heap.size from fun W h=>by omega);go_upto_region 5 with fail
 rw[<-hw2,<-I7];clear hw2 I7 hxv s0 sf anW HV hn1;obtain⟨s0,sf⟩:=gQ (afQ.o.blk HB1.o);obtain⟨y0,y1,y2,y3,y4,y5,y6,yf⟩:=qj axG.o;rcases hf1:F1 with _|cc
 ·obtain⟨hd,hr⟩:=HEC.o.1 hf1;simp only[Dec.mk.injEq] at hd;obtain⟨rfl,rfl,rfl,rfl,rfl,rfl⟩:=hd;clear HEC HQ1 HQ2 Zk HA4 HA3 HA9 HQE hf1;have HRE:=ak hr;clear hr;go_wp2_with fail
  refine(HA2.o w2 afQ.o).mono ?_;rintro r w3 ⟨-,va,vc,vs,rfl,ho,hl,hx3⟩;have h93:=hx3.blk axG.o;obtain⟨z0,z1,z2,z3,z4,z5,z6,zf⟩:=qj h93;obtain⟨wf,hwf⟩:∃wf,wf=w3.setCell ⟨b9,6,none⟩ (.slice va r1 vc):=⟨_,rfl⟩
  have hcf:dO [b9] w3 wf:=by rw[hwf];exact(dO.refl _ _).setCell (Or.inl (by simp)) _
  have amr:=ak (show Ext wa wf from(hx3.fH []).then' hcf afQ.o (by have:=H9A.o;omega));have aJ6:=ak (show dO [b9] w2 wf from(hx3.fH [b9]).then hcf);have axF:=ak (show wf.heap[b9]?=some (.cells #[.int .i64 1,.int .i64 0,.int .i64 0,.int .i64 0,.int .i64 0,.bool false,.slice va r1 vc] 57 (0,0)) by rw[hwf,aO _ _ _ _ _ _ h93];simp);have axo:=ak (show wf.ownsRow n1 69 6 (.slice va r1 vc) r1 (vs.flatMap pO.cells) by
   rw[Em.o];exact eF ho hcf (fun q hq hm=>by rw[aK.1 hm] at hq;have:=(ho.lt b9 hq).1;have:=dH axG.o;omega))
  have aE4:=ak (show wY (mask wf (b9::rowOf (.slice va r1 vc)++List.range n0)) R1 vs from(hl.mono (eG _ (fun y hy=>by
   have h1:=dH axG.o;have h2:=acg.o;simp only[List.cons_append,bK,aT,List.mem_range] at hy ⊢;rcases hy with rfl|hy|hy
   ·exact Or.inr h1
   ·exact Or.inl hy
   exact Or.inr (by omega)))).mono (fA hcf (fun y hy=>Or.inl (by rw[aK.1 hy];simp))))
  have axg:=ak (show w2.heap.size<=wf.heap.size from aJ6.o.size);clear ho hl hx3 h93 hcf aJ6;go_upto_region 7 with fail
  rw[<-hwf];clear hwf z0 z1 z2 z3 z4 z5 z6 zf;obtain⟨z0,z1,z2,z3,z4,z5,z6,zf⟩:=qj axF.o;have hbd:=amr.o.blk HBD.o;obtain⟨q0,q1,q2,q3,q4,q5,q6,qf⟩:=qj hbd;have Si:=ak (show nG (mask wf (List.range n0)) R va (r1) vc by
   rw[HRE.o];exact QC (n0:=n0) (L:=R1) axo.o (by have:=Em.o;have:=acg.o;omega) (by have h:=OO.o;first|rfl|omega|(simp only[List.length_cons,bI,List.length_nil];omega)) aE4.o (fun y hy=>by simp only[List.cons_append,bK,aT];exact Or.inr (Or.inr hy)))
  have HF:=ak (show (qG wf (b1+1) (.int .i64 1) (.int .i64 0) (.int .i64 0) (.int .i64 0) (.int .i64 0) (.bool false) (.slice va (r1) vc)).heap[b1+1]?=some (.cells #[.int .i64 1,.int .i64 0,.int .i64 0,.int .i64 0,.int .i64 0,.bool false,.slice va (r1) vc] 57 (0,0))/\dO [b1+1] wf (qG wf (b1+1) (.int .i64 1) (.int .i64 0) (.int .i64 0) (.int .i64 0) (.int .i64 0) (.bool false) (.slice va (r1) vc)) from⟨zA hbd,vg wf (b1+1)⟩);clear hbd;go_wp2_with fail
  obtain⟨wz,hwz⟩:∃wz,wz=qG wf (b1+1) (.int .i64 1) (.int .i64 0) (.int .i64 0) (.int .i64 0) (.int .i64 0) (.bool false) (.slice va (r1) vc):=⟨_,rfl⟩
  rw[<-hwz] at HF;unfold qG at hwz;rw[<-hwz];clear hwz q0 q1 q2 q3 q4 q5 q6 qf;obtain⟨q0,q1,q2,q3,q4,q5,q6,qf⟩:=qj HF.o.1;refine bodyPost_ret (v:=.tuple #[.agg #[.int .i64 1,.int .i64 0,.int .i64 0,.int .i64 0,.int .i64 0,.bool false,.slice va (r1) vc],.int .i64 0]) (by simp[results,Tryz.results21,go_sem,q0,q1,q2,q3,q4,q5,q6]) rfl ?_;exact⟨va,_,vc,rfl,(Si.o.mono (fA HF.o.2 (fun y hy=>Or.inl (by rw[aK.1 hy];have:=HS.o;simp;omega)))).mono (eG _ (fun y hy=>by have:=HS.o;rw[List.mem_range] at hy ⊢;omega)),HF.o.2.ext (fE.o.trans amr.o) (fun y hy=>by rw[aK.1 hy];have:=HS.o;omega)⟩
 have qw:=ak (HQ1.o cc hf1);have aNw:=HEC.o.2 cc hf1;clear HEC HQ1 HQE hf1 HA2;have HD2:=ak (show ∀b,F2=some b->(d1=2/\d2=0/\d3=0/\d4=0/\d5=0/\d6=false)/\R=[cc]++[b] from fun b h=>by
  have h1:=aNw.1 b h;simp only[Dec.mk.injEq] at h1;exact h1)
 have HD3:=ak (show F2=none->∀x,F3=some x->(d1=3/\d2=0/\d3=0/\d4=0/\d5=0/\d6=false)/\R=[cc]++R2++[x] from fun h x h'=>by
  have h1:=(aNw.2 h).1 x h';simp only[Dec.mk.injEq] at h1;exact⟨h1.1,by rw[h1.2];simp⟩)
 have HD4:=ak (show F2=none->F3=none->d1=4/\R=[cc]++R2++R3++R4 from fun h h'=>by
  have h1:=(aNw.2 h).2 h';rw[Q7] at h1;simp only[Dec.mk.injEq] at h1;exact⟨h1.1.1,by rw[h1.2];simp⟩)
 clear aNw;have t5:(d1==1)=false:=by
  rcases hf2:F2 with _|bb
  ·rcases hf3:F3 with _|xx
   ·rw[(HD4.o hf2 hf3).1];rfl
   rw[(HD3.o hf2 xx hf3).1.1];rfl
  rw[(HD2.o bb hf2).1.1];rfl
 go_wp2_with fail
 refine(qw.o w2 afQ.o).mono ?_;rintro r w3 ⟨-,va,vc,vs,rfl,ho,hl,hx3⟩;have h93:=hx3.blk axG.o;obtain⟨z0,z1,z2,z3,z4,z5,z6,zf⟩:=qj h93;obtain⟨wf,hwf⟩:∃wf,wf=w3.setCell ⟨b9,6,none⟩ (.slice va 1 vc):=⟨_,rfl⟩
 have hcf:dO [b9] w3 wf:=by rw[hwf];exact(dO.refl _ _).setCell (Or.inl (by simp)) _
 have amr:=ak (show Ext wa wf from(hx3.fH []).then' hcf afQ.o (by have:=H9A.o;omega));have aJ6:=ak (show dO [b9] w2 wf from(hx3.fH [b9]).then hcf);have axF:=ak (show wf.heap[b9]?=some (.cells #[.int .i64 d1,.int .i64 d2,.int .i64 d3,.int .i64 d4,.int .i64 d5,.bool d6,.slice va 1 vc] 57 (0,0)) by rw[hwf,aO _ _ _ _ _ _ h93];simp);have axo:=ak (show wf.ownsRow n1 69 6 (.slice va 1 vc) 1 (vs.flatMap pO.cells) by
  rw[Em.o];exact eF ho hcf (fun q hq hm=>by rw[aK.1 hm] at hq;have:=(ho.lt b9 hq).1;have:=dH axG.o;omega))
 have aE4:=ak (show wY (mask wf (b9::rowOf (.slice va 1 vc)++List.range n0)) [cc] vs from(hl.mono (eG _ (fun y hy=>by
  have h1:=dH axG.o;have h2:=acg.o;simp only[List.cons_append,bK,aT,List.mem_range] at hy ⊢;rcases hy with rfl|hy|hy
  ·exact Or.inr h1
  ·exact Or.inl hy
  exact Or.inr (by omega)))).mono (fA hcf (fun y hy=>Or.inl (by rw[aK.1 hy];simp))))
 have axg:=ak (show w2.heap.size<=wf.heap.size from aJ6.o.size);clear ho hl hx3 h93 hcf aJ6;go_upto_region 9 with fail
 rw[<-hwf];clear hwf z0 z1 z2 z3 z4 z5 z6 zf;rcases hf2:F2 with _|bb
 ·have t9:(d1==2)=false:=by
   rcases hf3:F3 with _|xx
   ·rw[(HD4.o hf2 hf3).1];rfl
   rw[(HD3.o hf2 xx hf3).1.1];rfl
  clear HD2 HQ2;obtain⟨Nwg,hN⟩:∃N,N=rowOf (.slice va (1) vc):=⟨_,rfl⟩
  have Aj:=ak (show ∀y∈Nwg,n1<=y/\y<wf.heap.size from fun y hy=>by rw[hN] at hy;have:=axo.o.lt y (dK.1 hy);have:=Em.o;omega);have hn1:b1∉Nwg:=fun hm=>by have:=(Aj.o _ hm).1;have:=acg.o;have:=Em.o;have:=HS.o;omega
  have hn9:b9∉Nwg:=fun hm=>by have:=(Aj.o _ hm).1;have:=H9N.o;omega
  have HN9:=ak hn9;have wZ:=ak hN;obtain⟨x0,xf⟩:=gQ (amr.o.blk HB1.o);obtain⟨z0,z1,z2,z3,z4,z5,z6,zf⟩:=qj axF.o;have X0:=kG x0 hn1;have Z6:=kG z6 hn9;have HKK:=ak (ad1 (n0:=n0) (dH axF.o) Aj.o (by have:=amr.o.size;have:=HS.o;omega));clear hN hn1 hn9;go_upto_region 12 with fail
  refine JR 8 Nwg (fun W=>Ext wf W) (Ext.refl wf).drew (fun _ _ hx h=>h.trans hx) ?_
  repeat (refine dQ ?_;intro K hK;go_big_quiet_op;go_big_quiet_on)
  refine je (γ:=OA×Nat) (fun x=>.slice x.1 (r2) x.2) (fun x W=>Ext wf W/\nG (mask W (b9::Nwg++List.range n0)) R2 x.1 (r2) x.2) (fun W hW h _=>?_) (fun x W W' hx h=>⟨h.1.trans hx,h.2.mono (fA (hx.fH []) (by simp))⟩) ?_ ⟨(none,0)⟩
  ·unfold dF;go_simp;refine(HA4.o W (amr.o.trans h)).mono ?_;intro r wz hq;obtain⟨a,c,rfl,h1,h2⟩:=hq.rss;exact⟨_,rfl,h2.fH _,(a,c),rfl,h.trans h2,h1.mono (eG _ (HKK.o W h))⟩
  rintro⟨ra,rc⟩ K hK;go_simp;go_big_quiet_on
  repeat (refine dQ ?_;intro K hK;go_big_quiet_op;go_big_quiet_on)
  refine je (fun x=>.slice x.1 (1+r2) x.2.1) (amK n1 n0 b9 (1+r2) ([cc]++R2) (vs)) (fun W hW h _=>LY wZ.o axo.o aE4.o (H9Z.o wf axg.o) (by have:=OO.o;omega) h rfl rfl) (fun x W W' hx h=>h.ext hx) ?_ ⟨(none,0,[])⟩;rintro⟨ga,gc,us⟩ K hK;go_simp;go_big_quiet_on
  repeat (refine dQ ?_;intro K hK;go_big_quiet_op;go_big_quiet_on)
  refine zL fun w5 hx hy _=>?_
  obtain⟨h95,f1,f2,f3,f4,f5⟩:=afM hx amr.o (fun y hy=>by have:=(Aj.o y hy).1;have:=acg.o;have:=Em.o;have:=HS.o;omega) HN9.o axF.o H9A.o H9N.o hy.1 hy.2 (by simp);dsimp only at f1 f2 f3 f4 f5;obtain⟨wg,hwo⟩:∃wo,wo=w5.setCell ⟨b9,6,none⟩ (.slice ga (1+r2) gc):=⟨_,rfl⟩
  rw[<-hwo] at f1 f2 f3 f4 f5;have amq:=ak f1;have axE:=ak f2;have axf:=ak (bC axg.o f3);have axn:=ak f4;have aE3:=ak f5;clear z0 z1 z2 z3 z4 z5 z6 zf;obtain⟨z0,z1,z2,z3,z4,z5,z6,zf⟩:=qj h95;clear hx hy f1 f2 f3 f4 f5 X0 Z6 x0 xf HKK Aj HN9 axo aE4;go_upto_region 13 with fail
  rw[<-hwo];clear hwo h95 z0 z1 z2 z3 z4 z5 z6 zf wZ;rcases hf3:F3 with _|xx
  ·obtain⟨hd,hr⟩:=HD4.o hf2 hf3;have t13:(d1==3)=false:=by rw[hd];rfl
   have HRE:=ak hr;clear hr hd hf2 hf3 Zk HD3 HD4;obtain⟨Nwh,hN⟩:∃N,N=rowOf (.slice ga (1+r2) gc):=⟨_,rfl⟩
   have Aj:=ak (show ∀y∈Nwh,n1<=y/\y<wg.heap.size from fun y hy=>by rw[hN] at hy;have:=axn.o.lt y (dK.1 hy);have:=Em.o;omega);have hn1:b1∉Nwh:=fun hm=>by have:=(Aj.o _ hm).1;have:=acg.o;have:=Em.o;have:=HS.o;omega
   have hn9:b9∉Nwh:=fun hm=>by have:=(Aj.o _ hm).1;have:=H9N.o;omega
   have HN9:=ak hn9;have wZ:=ak hN;obtain⟨x0,xf⟩:=gQ (amq.o.blk HB1.o);obtain⟨z0,z1,z2,z3,z4,z5,z6,zf⟩:=qj axE.o;have X0:=kG x0 hn1;have Z6:=kG z6 hn9;have HKK:=ak (ad1 (n0:=n0) (dH axE.o) Aj.o (by have:=amq.o.size;have:=HS.o;omega));clear hN hn1 hn9;go_upto_region 16 with fail
   refine JR 8 Nwh (fun W=>Ext wg W) (Ext.refl wg).drew (fun _ _ hx h=>h.trans hx) ?_
   repeat (refine dQ ?_;intro K hK;go_big_quiet_op;go_big_quiet_on)
   refine je (γ:=OA×Nat) (fun x=>.slice x.1 (r3) x.2) (fun x W=>Ext wg W/\nG (mask W (b9::Nwh++List.range n0)) R3 x.1 (r3) x.2) (fun W hW h _=>?_) (fun x W W' hx h=>⟨h.1.trans hx,h.2.mono (fA (hx.fH []) (by simp))⟩) ?_ ⟨(none,0)⟩
   ·unfold dF;go_simp;refine(HA3.o W (amq.o.trans h)).mono ?_;intro r wz hq;obtain⟨a,c,rfl,h1,h2⟩:=hq.rss;exact⟨_,rfl,h2.fH _,(a,c),rfl,h.trans h2,h1.mono (eG _ (HKK.o W h))⟩
   rintro⟨ra,rc⟩ K hK;go_simp;go_big_quiet_on
   repeat (refine dQ ?_;intro K hK;go_big_quiet_op;go_big_quiet_on)
   refine je (fun x=>.slice x.1 (1+r2+r3) x.2.1) (amK n1 n0 b9 (1+r2+r3) (([cc]++R2)++R3) ((vs++us))) (fun W hW h _=>LY wZ.o axn.o aE3.o (H9Z.o wg axf.o) (by have:=OO.o;omega) h rfl rfl) (fun x W W' hx h=>h.ext hx) ?_ ⟨(none,0,[])⟩;rintro⟨ha,hc,ut⟩ K hK;go_simp;go_big_quiet_on
   repeat (refine dQ ?_;intro K hK;go_big_quiet_op;go_big_quiet_on)
   refine zL fun w5 hx hy _=>?_
   obtain⟨h95,f1,f2,f3,f4,f5⟩:=afM hx amq.o (fun y hy=>by have:=(Aj.o y hy).1;have:=acg.o;have:=Em.o;have:=HS.o;omega) HN9.o axE.o H9A.o H9N.o hy.1 hy.2 (by simp);dsimp only at f1 f2 f3 f4 f5;obtain⟨wh,hwo⟩:∃wo,wo=w5.setCell ⟨b9,6,none⟩ (.slice ha (1+r2+r3) hc):=⟨_,rfl⟩
   rw[<-hwo] at f1 f2 f3 f4 f5;have aAn:=ak f1;have aKu:=ak f2;have aJm:=ak (bC axf.o f3);have aJN:=ak f4;have aNr:=ak f5;clear z0 z1 z2 z3 z4 z5 z6 zf;obtain⟨z0,z1,z2,z3,z4,z5,z6,zf⟩:=qj h95;clear hx hy f1 f2 f3 f4 f5 X0 Z6 x0 xf HKK Aj HN9 axn aE3;go_upto_region 17 with fail
   rw[<-hwo];clear hwo h95 z0 z1 z2 z3 z4 z5 z6 zf wZ;obtain⟨Nwi,hN⟩:∃N,N=rowOf (.slice ha (1+r2+r3) hc):=⟨_,rfl⟩
   have Aj:=ak (show ∀y∈Nwi,n1<=y/\y<wh.heap.size from fun y hy=>by rw[hN] at hy;have:=aJN.o.lt y (dK.1 hy);have:=Em.o;omega);have hn1:b1∉Nwi:=fun hm=>by have:=(Aj.o _ hm).1;have:=acg.o;have:=Em.o;have:=HS.o;omega
   have hn9:b9∉Nwi:=fun hm=>by have:=(Aj.o _ hm).1;have:=H9N.o;omega
   have HN9:=ak hn9;have wZ:=ak hN;obtain⟨x0,xf⟩:=gQ (aAn.o.blk HB1.o);obtain⟨z0,z1,z2,z3,z4,z5,z6,zf⟩:=qj aKu.o;have X0:=kG x0 hn1;have Z6:=kG z6 hn9;have HKK:=ak (ad1 (n0:=n0) (dH aKu.o) Aj.o (by have:=aAn.o.size;have:=HS.o;omega));clear hN hn1 hn9;go_upto_region 17 with fail
   refine JR 8 Nwi (fun W=>Ext wh W) (Ext.refl wh).drew (fun _ _ hx h=>h.trans hx) ?_
   repeat (refine dQ ?_;intro K hK;go_big_quiet_op;go_big_quiet_on)
   refine je (γ:=OA×Nat) (fun x=>.slice x.1 (r4) x.2) (fun x W=>Ext wh W/\nG (mask W (b9::Nwi++List.range n0)) R4 x.1 (r4) x.2) (fun W hW h _=>?_) (fun x W W' hx h=>⟨h.1.trans hx,h.2.mono (fA (hx.fH []) (by simp))⟩) ?_ ⟨(none,0)⟩
   ·unfold dF;go_simp;refine(HA9.o W (aAn.o.trans h)).mono ?_;intro r wz hq;obtain⟨a,c,rfl,h1,h2⟩:=hq.rss;exact⟨_,rfl,h2.fH _,(a,c),rfl,h.trans h2,h1.mono (eG _ (HKK.o W h))⟩
   rintro⟨ra,rc⟩ K hK;go_simp;go_big_quiet_on
   repeat (refine dQ ?_;intro K hK;go_big_quiet_op;go_big_quiet_on)
   refine je (fun x=>.slice x.1 (1+r2+r3+r4) x.2.1) (amK n1 n0 b9 (1+r2+r3+r4) (([cc]++R2++R3)++R4) ((vs++us++ut))) (fun W hW h _=>LY wZ.o aJN.o aNr.o (H9Z.o wh aJm.o) (by have:=OO.o;omega) h rfl rfl) (fun x W W' hx h=>h.ext hx) ?_ ⟨(none,0,[])⟩;rintro⟨ia,ic,uu⟩ K hK;go_simp;go_big_quiet_on
   repeat (refine dQ ?_;intro K hK;go_big_quiet_op;go_big_quiet_on)
   refine zL fun w5 hx hy _=>?_
   obtain⟨h95,f1,f2,f3,f4,f5⟩:=afM hx aAn.o (fun y hy=>by have:=(Aj.o y hy).1;have:=acg.o;have:=Em.o;have:=HS.o;omega) HN9.o aKu.o H9A.o H9N.o hy.1 hy.2 (by simp);dsimp only at f1 f2 f3 f4 f5;obtain⟨wi,hwo⟩:∃wo,wo=w5.setCell ⟨b9,6,none⟩ (.slice ia (1+r2+r3+r4) ic):=⟨_,rfl⟩
   rw[<-hwo] at f1 f2 f3 f4 f5;have aWq:=ak f1;have a4k:=ak f2;have a5y:=ak (bC aJm.o f3);have a2t:=ak f4;have a2R:=ak f5;clear z0 z1 z2 z3 z4 z5 z6 zf;obtain⟨z0,z1,z2,z3,z4,z5,z6,zf⟩:=qj h95;clear hx hy f1 f2 f3 f4 f5 X0 Z6 x0 xf HKK Aj HN9 aJN aNr;go_upto_region 18 with fail
   rw[<-hwo];clear hwo h95 z0 z1 z2 z3 z4 z5 z6 zf wZ;obtain⟨z0,z1,z2,z3,z4,z5,z6,zf⟩:=qj a4k.o;have hbd:=aWq.o.blk HBD.o;obtain⟨q0,q1,q2,q3,q4,q5,q6,qf⟩:=qj hbd;have Si:=ak (show nG (mask wi (List.range n0)) R ia (1+r2+r3+r4) ic by
    rw[HRE.o];exact QC (n0:=n0) (L:=[cc]++R2++R3++R4) a2t.o (by have:=Em.o;have:=acg.o;omega) (by have h:=OO.o;first|rfl|omega|(simp only[List.length_cons,bI,List.length_nil];omega)) a2R.o (fun y hy=>by simp only[List.cons_append,bK,aT];exact Or.inr (Or.inr hy)))
   have HF:=ak (show (qG wi (b1+1) (.int .i64 d1) (.int .i64 d2) (.int .i64 d3) (.int .i64 d4) (.int .i64 d5) (.bool d6) (.slice ia (1+r2+r3+r4) ic)).heap[b1+1]?=some (.cells #[.int .i64 d1,.int .i64 d2,.int .i64 d3,.int .i64 d4,.int .i64 d5,.bool d6,.slice ia (1+r2+r3+r4) ic] 57 (0,0))/\dO [b1+1] wi (qG wi (b1+1) (.int .i64 d1) (.int .i64 d2) (.int .i64 d3) (.int .i64 d4) (.int .i64 d5) (.bool d6) (.slice ia (1+r2+r3+r4) ic)) from⟨zA hbd,vg wi (b1+1)⟩);clear hbd;go_wp2_with fail
   obtain⟨wz,hwz⟩:∃wz,wz=qG wi (b1+1) (.int .i64 d1) (.int .i64 d2) (.int .i64 d3) (.int .i64 d4) (.int .i64 d5) (.bool d6) (.slice ia (1+r2+r3+r4) ic):=⟨_,rfl⟩
   rw[<-hwz] at HF;unfold qG at hwz;rw[<-hwz];clear hwz q0 q1 q2 q3 q4 q5 q6 qf;obtain⟨q0,q1,q2,q3,q4,q5,q6,qf⟩:=qj HF.o.1;refine bodyPost_ret (v:=.tuple #[.agg #[.int .i64 d1,.int .i64 d2,.int .i64 d3,.int .i64 d4,.int .i64 d5,.bool d6,.slice ia (1+r2+r3+r4) ic],.int .i64 0]) (by simp[results,Tryz.results21,go_sem,q0,q1,q2,q3,q4,q5,q6]) rfl ?_;exact⟨ia,_,ic,rfl,(Si.o.mono (fA HF.o.2 (fun y hy=>Or.inl (by rw[aK.1 hy];have:=HS.o;simp;omega)))).mono (eG _ (fun y hy=>by have:=HS.o;rw[List.mem_range] at hy ⊢;omega)),HF.o.2.ext (fE.o.trans aWq.o) (fun y hy=>by rw[aK.1 hy];have:=HS.o;omega)⟩
  obtain⟨⟨rfl,rfl,rfl,rfl,rfl,rfl⟩,hr⟩:=HD3.o hf2 xx hf3;have HRE:=ak hr;have tH:=ak (Zk.o xx hf3);clear hr hf2 hf3 Zk HD3 HD4 HA3 HA9;obtain⟨Nwh,hN⟩:∃N,N=rowOf (.slice ga (1+r2) gc):=⟨_,rfl⟩
  have Aj:=ak (show ∀y∈Nwh,n1<=y/\y<wg.heap.size from fun y hy=>by rw[hN] at hy;have:=axn.o.lt y (dK.1 hy);have:=Em.o;omega);have hn1:b1∉Nwh:=fun hm=>by have:=(Aj.o _ hm).1;have:=acg.o;have:=Em.o;have:=HS.o;omega
  have hn9:b9∉Nwh:=fun hm=>by have:=(Aj.o _ hm).1;have:=H9N.o;omega
  have HN9:=ak hn9;have wZ:=ak hN;obtain⟨x0,xf⟩:=gQ (amq.o.blk HB1.o);obtain⟨z0,z1,z2,z3,z4,z5,z6,zf⟩:=qj axE.o;have X0:=kG x0 hn1;have Z6:=kG z6 hn9;have HKK:=ak (ad1 (n0:=n0) (dH axE.o) Aj.o (by have:=amq.o.size;have:=HS.o;omega));clear hN hn1 hn9;go_upto_region 14 with fail
  refine JR 8 Nwh (fun W=>Ext wg W) (Ext.refl wg).drew (fun _ _ hx h=>h.trans hx) ?_
  repeat (refine dQ ?_;intro K hK;go_big_quiet_op;go_big_quiet_on)
  refine je (γ:=OA×Nat) (fun x=>.slice x.1 (1) x.2) (fun x W=>Ext wg W/\nG (mask W (b9::Nwh++List.range n0)) [xx] x.1 (1) x.2) (fun W hW h _=>?_) (fun x W W' hx h=>⟨h.1.trans hx,h.2.mono (fA (hx.fH []) (by simp))⟩) ?_ ⟨(none,0)⟩
  ·unfold dF;go_simp;refine(tH.o W (amq.o.trans h)).mono ?_;intro r wz hq;obtain⟨a,c,rfl,h1,h2⟩:=hq.rss;exact⟨_,rfl,h2.fH _,(a,c),rfl,h.trans h2,h1.mono (eG _ (HKK.o W h))⟩
  rintro⟨ra,rc⟩ K hK;go_simp;go_big_quiet_on
  repeat (refine dQ ?_;intro K hK;go_big_quiet_op;go_big_quiet_on)
  refine je (fun x=>.slice x.1 (1+r2+1) x.2.1) (amK n1 n0 b9 (1+r2+1) (([cc]++R2)++[xx]) ((vs++us))) (fun W hW h _=>LY wZ.o axn.o aE3.o (H9Z.o wg axf.o) (by have:=OO.o;omega) h rfl rfl) (fun x W W' hx h=>h.ext hx) ?_ ⟨(none,0,[])⟩;rintro⟨ha,hc,ut⟩ K hK;go_simp;go_big_quiet_on
  repeat (refine dQ ?_;intro K hK;go_big_quiet_op;go_big_quiet_on)
  refine zL fun w5 hx hy _=>?_
  obtain⟨h95,f1,f2,f3,f4,f5⟩:=afM hx amq.o (fun y hy=>by have:=(Aj.o y hy).1;have:=acg.o;have:=Em.o;have:=HS.o;omega) HN9.o axE.o H9A.o H9N.o hy.1 hy.2 (by simp);dsimp only at f1 f2 f3 f4 f5;obtain⟨wh,hwo⟩:∃wo,wo=w5.setCell ⟨b9,6,none⟩ (.slice ha (1+r2+1) hc):=⟨_,rfl⟩
  rw[<-hwo] at f1 f2 f3 f4 f5;have aAn:=ak f1;have aKu:=ak f2;have aJm:=ak (bC axf.o f3);have aJN:=ak f4;have aNr:=ak f5;clear z0 z1 z2 z3 z4 z5 z6 zf;obtain⟨z0,z1,z2,z3,z4,z5,z6,zf⟩:=qj h95;clear hx hy f1 f2 f3 f4 f5 X0 Z6 x0 xf HKK Aj HN9 axn aE3;go_upto_region 15 with fail
  rw[<-hwo];clear hwo h95 z0 z1 z2 z3 z4 z5 z6 zf wZ;obtain⟨z0,z1,z2,z3,z4,z5,z6,zf⟩:=qj aKu.o;have hbd:=aAn.o.blk HBD.o;obtain⟨q0,q1,q2,q3,q4,q5,q6,qf⟩:=qj hbd;have Si:=ak (show nG (mask wh (List.range n0)) R ha (1+r2+1) hc by
   rw[HRE.o];exact QC (n0:=n0) (L:=[cc]++R2++[xx]) aJN.o (by have:=Em.o;have:=acg.o;omega) (by have h:=OO.o;first|rfl|omega|(simp only[List.length_cons,bI,List.length_nil];omega)) aNr.o (fun y hy=>by simp only[List.cons_append,bK,aT];exact Or.inr (Or.inr hy)))
  have HF:=ak (show (qG wh (b1+1) (.int .i64 3) (.int .i64 0) (.int .i64 0) (.int .i64 0) (.int .i64 0) (.bool false) (.slice ha (1+r2+1) hc)).heap[b1+1]?=some (.cells #[.int .i64 3,.int .i64 0,.int .i64 0,.int .i64 0,.int .i64 0,.bool false,.slice ha (1+r2+1) hc] 57 (0,0))/\dO [b1+1] wh (qG wh (b1+1) (.int .i64 3) (.int .i64 0) (.int .i64 0) (.int .i64 0) (.int .i64 0) (.bool false) (.slice ha (1+r2+1) hc)) from⟨zA hbd,vg wh (b1+1)⟩);clear hbd;go_wp2_with fail
  obtain⟨wz,hwz⟩:∃wz,wz=qG wh (b1+1) (.int .i64 3) (.int .i64 0) (.int .i64 0) (.int .i64 0) (.int .i64 0) (.bool false) (.slice ha (1+r2+1) hc):=⟨_,rfl⟩
  rw[<-hwz] at HF;unfold qG at hwz;rw[<-hwz];clear hwz q0 q1 q2 q3 q4 q5 q6 qf;obtain⟨q0,q1,q2,q3,q4,q5,q6,qf⟩:=qj HF.o.1;refine bodyPost_ret (v:=.tuple #[.agg #[.int .i64 3,.int .i64 0,.int .i64 0,.int .i64 0,.int .i64 0,.bool false,.slice ha (1+r2+1) hc],.int .i64 0]) (by simp[results,Tryz.results21,go_sem,q0,q1,q2,q3,q4,q5,q6]) rfl ?_;exact⟨ha,_,hc,rfl,(Si.o.mono (fA HF.o.2 (fun y hy=>Or.inl (by rw[aK.1 hy];have:=HS.o;simp;omega)))).mono (eG _ (fun y hy=>by have:=HS.o;rw[List.mem_range] at hy ⊢;omega)),HF.o.2.ext (fE.o.trans aAn.o) (fun y hy=>by rw[aK.1 hy];have:=HS.o;omega)⟩
 obtain⟨⟨rfl,rfl,rfl,rfl,rfl,rfl⟩,hr⟩:=HD2.o bb hf2;have HRE:=ak hr;have HC2:=ak (HQ2.o bb hf2);clear hr hf2 HQ2 Zk HD2 HD3 HD4 HA3 HA9 HA4;obtain⟨Nwg,hN⟩:∃N,N=rowOf (.slice va (1) vc):=⟨_,rfl⟩
 have Aj:=ak (show ∀y∈Nwg,n1<=y/\y<wf.heap.size from fun y hy=>by rw[hN] at hy;have:=axo.o.lt y (dK.1 hy);have:=Em.o;omega);have hn1:b1∉Nwg:=fun hm=>by have:=(Aj.o _ hm).1;have:=acg.o;have:=Em.o;have:=HS.o;omega
 have hn9:b9∉Nwg:=fun hm=>by have:=(Aj.o _ hm).1;have:=H9N.o;omega
 have HN9:=ak hn9;have wZ:=ak hN;obtain⟨x0,xf⟩:=gQ (amr.o.blk HB1.o);obtain⟨z0,z1,z2,z3,z4,z5,z6,zf⟩:=qj axF.o;have X0:=kG x0 hn1;have Z6:=kG z6 hn9;have HKK:=ak (ad1 (n0:=n0) (dH axF.o) Aj.o (by have:=amr.o.size;have:=HS.o;omega));clear hN hn1 hn9;go_upto_region 10 with fail
 refine JR 8 Nwg (fun W=>Ext wf W) (Ext.refl wf).drew (fun _ _ hx h=>h.trans hx) ?_
 repeat (refine dQ ?_;intro K hK;go_big_quiet_op;go_big_quiet_on)
 refine je (γ:=OA×Nat) (fun x=>.slice x.1 (1) x.2) (fun x W=>Ext wf W/\nG (mask W (b9::Nwg++List.range n0)) [bb] x.1 (1) x.2) (fun W hW h _=>?_) (fun x W W' hx h=>⟨h.1.trans hx,h.2.mono (fA (hx.fH []) (by simp))⟩) ?_ ⟨(none,0)⟩
 ·unfold dF;go_simp;refine(HC2.o W (amr.o.trans h)).mono ?_;intro r wz hq;obtain⟨a,c,rfl,h1,h2⟩:=hq.rss;exact⟨_,rfl,h2.fH _,(a,c),rfl,h.trans h2,h1.mono (eG _ (HKK.o W h))⟩
 rintro⟨ra,rc⟩ K hK;go_simp;go_big_quiet_on
 repeat (refine dQ ?_;intro K hK;go_big_quiet_op;go_big_quiet_on)
 refine je (fun x=>.slice x.1 (1+1) x.2.1) (amK n1 n0 b9 (1+1) ([cc]++[bb]) (vs)) (fun W hW h _=>LY wZ.o axo.o aE4.o (H9Z.o wf axg.o) (by have:=OO.o;omega) h rfl rfl) (fun x W W' hx h=>h.ext hx) ?_ ⟨(none,0,[])⟩;rintro⟨ga,gc,us⟩ K hK;go_simp;go_big_quiet_on
 repeat (refine dQ ?_;intro K hK;go_big_quiet_op;go_big_quiet_on)
 refine zL fun w5 hx hy _=>?_
 obtain⟨h95,f1,f2,f3,f4,f5⟩:=afM hx amr.o (fun y hy=>by have:=(Aj.o y hy).1;have:=acg.o;have:=Em.o;have:=HS.o;omega) HN9.o axF.o H9A.o H9N.o hy.1 hy.2 (by simp);dsimp only at f1 f2 f3 f4 f5;obtain⟨wg,hwo⟩:∃wo,wo=w5.setCell ⟨b9,6,none⟩ (.slice ga (1+1) gc):=⟨_,rfl⟩
 rw[<-hwo] at f1 f2 f3 f4 f5;have amq:=ak f1;have axE:=ak f2;have axf:=ak (bC axg.o f3);have axn:=ak f4;have aE3:=ak f5;clear z0 z1 z2 z3 z4 z5 z6 zf;obtain⟨z0,z1,z2,z3,z4,z5,z6,zf⟩:=qj h95;clear hx hy f1 f2 f3 f4 f5 X0 Z6 x0 xf HKK Aj HN9 axo aE4;go_upto_region 11 with fail
 rw[<-hwo];clear hwo h95 z0 z1 z2 z3 z4 z5 z6 zf wZ;obtain⟨z0,z1,z2,z3,z4,z5,z6,zf⟩:=qj axE.o;have hbd:=amq.o.blk HBD.o;obtain⟨q0,q1,q2,q3,q4,q5,q6,qf⟩:=qj hbd;have Si:=ak (show nG (mask wg (List.range n0)) R ga (1+1) gc by
  rw[HRE.o];exact QC (n0:=n0) (L:=[cc]++[bb]) axn.o (by have:=Em.o;have:=acg.o;omega) (by have h:=OO.o;first|rfl|omega|(simp only[List.length_cons,bI,List.length_nil];omega)) aE3.o (fun y hy=>by simp only[List.cons_append,bK,aT];exact Or.inr (Or.inr hy)))
 have HF:=ak (show (qG wg (b1+1) (.int .i64 2) (.int .i64 0) (.int .i64 0) (.int .i64 0) (.int .i64 0) (.bool false) (.slice ga (1+1) gc)).heap[b1+1]?=some (.cells #[.int .i64 2,.int .i64 0,.int .i64 0,.int .i64 0,.int .i64 0,.bool false,.slice ga (1+1) gc] 57 (0,0))/\dO [b1+1] wg (qG wg (b1+1) (.int .i64 2) (.int .i64 0) (.int .i64 0) (.int .i64 0) (.int .i64 0) (.bool false) (.slice ga (1+1) gc)) from⟨zA hbd,vg wg (b1+1)⟩);clear hbd;go_wp2_with fail
 obtain⟨wz,hwz⟩:∃wz,wz=qG wg (b1+1) (.int .i64 2) (.int .i64 0) (.int .i64 0) (.int .i64 0) (.int .i64 0) (.bool false) (.slice ga (1+1) gc):=⟨_,rfl⟩
 rw[<-hwz] at HF;unfold qG at hwz;rw[<-hwz];clear hwz q0 q1 q2 q3 q4 q5 q6 qf;obtain⟨q0,q1,q2,q3,q4,q5,q6,qf⟩:=qj HF.o.1;refine bodyPost_ret (v:=.tuple #[.agg #[.int .i64 2,.int .i64 0,.int .i64 0,.int .i64 0,.int .i64 0,.bool false,.slice ga (1+1) gc],.int .i64 0]) (by simp[results,Tryz.results21,go_sem,q0,q1,q2,q3,q4,q5,q6]) rfl ?_;exact⟨ga,_,gc,rfl,(Si.o.mono (fA HF.o.2 (fun y hy=>Or.inl (by rw[aK.1 hy];have:=HS.o;simp;omega)))).mono (eG _ (fun y hy=>by have:=HS.o;rw[List.mem_range] at hy ⊢;omega)),HF.o.2.ext (fE.o.trans amq.o) (fun y hy=>by rw[aK.1 hy];have:=HS.o;omega)⟩
mutual
def QB:Pr->Pr->Bool
 | .mk v k ps,.mk v' k' qs=>(v==v')&&(k==k')&&xO ps qs
def xO:List Pr->List Pr->Bool
 | [],[]=>true
 | p::r,q::t=>QB p q&&xO r t
 | [],_::_=>false
 | _::_,[]=>false
end
theorem aCt (p q:Pr):QB p q=((p.value==q.value)&&(p.pick==q.pick)&&xO p.args q.args):=by cases p;cases q;rw[QB];rfl
mutual
theorem Tv:(p:Pr)->QB p p=true
 | .mk v k ps=>by rw[QB,aey ps];simp
theorem aey:(l:List Pr)->xO l l=true
 | []=>by rw[xO]
 | p::r=>by rw[xO,Tv p,aey r];rfl
end
theorem ahs:(l m:List Pr)->xO l m=true->l.length=m.length
 | [],[],_=>rfl
 | p::r,q::t,h=>by
  rw[xO,aJ] at h;simp[ahs r t h.2]
 | [],q::t,h=>by rw[xO] at h;cases h
 | p::r,[],h=>by rw[xO] at h;cases h
theorem ajW:(l m:List Pr)->l.length=m.length->(∀i (h1:i<l.length) (h2:i<m.length),QB l[i] m[i]=true)->xO l m=true
 | [],[],_,_=>by rw[xO]
 | p::r,q::t,h,h2=>by
  have h0:=h2 0 (by simp) (by simp);simp only[bP] at h0;rw[xO,h0,ajW r t (by simpa using h) fun i g1 g2=>by have:=h2 (i+1) (by simpa using g1) (by simpa using g2);simpa using this]
  rfl
 | [],q::t,h,_=>by simp at h
 | p::r,[],h,_=>by simp at h
theorem ajX:(l m:List Pr)->xO l m=true->∀i (h1:i<l.length) (h2:i<m.length),QB l[i] m[i]=true
 | p::r,q::t,h,0,_,_=>by
  rw[xO,aJ] at h;simpa using h.1
 | p::r,q::t,h,i+1,g1,g2=>by
  rw[xO,aJ] at h;simpa using ajX r t h.2 i (by simpa using g1) (by simpa using g2)
mutual
def Pr.size:Pr->Nat
 | .mk _ _ ps=>1+Pr.sizes ps
def Pr.sizes:List Pr->Nat
 | []=>0
 | p::r=>p.size+Pr.sizes r
end
theorem Pr.size_eq (p:Pr):p.size=1+Pr.sizes p.args:=by cases p;rw[Pr.size];rfl
theorem Pr.atY:(l:List Pr)->(k:Nat)->(hk:k<l.length)->l[k].size<=Pr.sizes l
 | [],k,hk=>by simp at hk
 | p::r,0,_=>by simp[Pr.sizes]
 | p::r,k+1,hk=>by
  have:=Pr.atY r k (by simpa using hk);simp only[Pr.sizes,List.getElem_cons_succ];omega
open Go.RowKit
def a1f (P Q:Pr) (b0:Nat) (Z0 Z1:Obj) (w:World) (n:Nat) (i:Value) (wr:World):Prop:=∃k:Nat,i=.int .i64 k/\k<=n/\(∀j (h1:j<P.args.length) (h2:j<Q.args.length),j<k->QB P.args[j] Q.args[j]=true)/\wr.heap[b0]?=some Z0/\wr.heap[b0+1]?=some Z1/\Ext w wr
theorem uM (m:Nat):∀(p q:Pr) (pv qv:jP) (w:World),p.size<=m->p.fit->jK w p pv->jK w q qv->Calls Tryz.prog 47 #[pv.val,qv.val] w (dN (.bool (QB p q)) w):=by
 induction m with
 | zero=>intro p q pv qv w h;have:=p.size_eq;omega
 | succ m ih =>
  intro p q pv qv w hm hfit hp hq;obtain⟨p1,p2,p3,-,-,p6⟩:=hp.parts;obtain⟨q1,q2,q3,-,-,q6⟩:=hq.parts;have hlen:p.args.length<=1000000000000000:=by cases hfit;assumption
  have hfits:∀x∈p.args,x.fit:=by cases hfit;assumption
  obtain⟨R,hR⟩:∃R,R=QB p q:=⟨_,rfl⟩
  rw[<-hR];rw[aCt] at hR;have HC:=ak (fun (j:Nat) (h1:j<p.args.length) (h2:j<q.args.length) (a b:jP) (W:World) (ha:jK W p.args[j] a) (hb:jK W q.args[j] b)=>ih p.args[j] q.args[j] a b W (by have:=p.size_eq;have:=Pr.atY p.args j h1;omega) (hfits _ (aI h1)) ha hb);obtain⟨pb,pk,pa,pn,pc⟩:=pv;obtain⟨qb,qk,qa,qn,qc⟩:=qv;simp only at p1 p2 p3 p6 q1 q2 q3 q6;rw[<-p1,<-p2,<-q1,<-q2] at hR;have HR:=ak hR;have KL:=ak p3;have Zk:=ak q3;have YX:=ak p6;have HQ6:=ak q6;have hpn:pn<=1000000000000000:=by omega
  clear hR p1 p2 p3 p6 q1 q2 q3 q6 hp hq hfit hfits hlen hm ih;unfold jP.val;obtain⟨wa,dW⟩:∃wa,wa=(w.alloc (.cells #[.bool pb,.int .i64 pk,.slice pa pn pc] 67)).alloc (.cells #[.bool qb,.int .i64 qk,.slice qa qn qc] 67):=⟨_,rfl⟩
  have hxa:Ext w wa:=by rw[dW];exact((Ext.refl _).alloc _).alloc _
  have hb0:wa.heap[w.heap.size]?=some (.cells #[.bool pb,.int .i64 pk,.slice pa pn pc] 67 (0,0)):=by rw[dW];exact dJ (dG w _)
  have hb1:wa.heap[w.heap.size+1]?=some (.cells #[.bool qb,.int .i64 qk,.slice qa qn qc] 67 (0,0)):=by rw[dW];exact eH (by simp)
  have fE:=ak hxa;have HB0:=ak hb0;have HB1:=ak hb1;obtain⟨e0,e1,e2,ef⟩:=fZ hb0;obtain⟨f0,f1,f2,ff⟩:=fZ hb1;have nP:=dH hb1;clear hxa hb0 hb1;by_cases h1:pb=qb
  case neg =>
   have HQ:=ak (show R=false by rw[HR.o];simp[h1]);have hb:(pb=false/\qb=true)\/(pb=true/\qb=false):=by cases pb<;>cases qb<;>simp at h1 ⊢
   have nZ:=ak hb;clear h1 hb;go_enter Tryz.func47,Tryz.ntmps47
   go_upto_region 1 with fail
   rw[<-dW];clear dW;rcases nZ.o with ⟨rfl,rfl⟩|⟨rfl,rfl⟩
   all_goals
    go_wp2_with fail
    go_ret;exact dL (by rw[HQ.o]) fE.o
  subst h1;by_cases h2:pk=qk
  case neg =>
   have HQ:=ak (show R=false by rw[HR.o];simp[h2]);have t1:(pk != qk)=true:=by simp[h2]
   clear h2;go_enter Tryz.func47,Tryz.ntmps47
   go_upto_region 1 with fail
   rw[<-dW];clear dW;go_wp2_with fail
   go_ret;exact dL (by rw[HQ.o]) fE.o
  subst h2;by_cases h3:pn=qn
  case neg =>
   have HQ:=ak (show R=false by
    rw[HR.o];cases hz:xO p.args q.args
    ·simp
    have:=ahs _ _ hz;have:=KL.o;have:=Zk.o;omega)
   have t1:((pn:Int) != (qn:Int))=true:=by simp;omega
   clear h3;go_enter Tryz.func47,Tryz.ntmps47
   go_upto_region 1 with fail
   rw[<-dW];clear dW;go_wp2_with fail
   go_ret;exact dL (by rw[HQ.o]) fE.o
  subst h3;have HR2:=ak (show R=xO p.args q.args by rw[HR.o];simp);go_enter Tryz.func47,Tryz.ntmps47
  go_upto_region 1 with fail
  rw[<-dW];clear dW;go_wp2_with fail
  clear e0 e1 e2 ef f0 f1 f2 ff nP;go_loopw [5] (a1f p q w.heap.size (.cells #[.bool pb,.int .i64 pk,.slice pa pn pc] 67 (0,0)) (.cells #[.bool pb,.int .i64 pk,.slice qa pn qc] 67 (0,0)) w pn) (fun i _=>pn - (intOf i).toNat)
  case atStart=>exact⟨0,rfl,by omega,fun j _ _ h=>by omega,HB0.o,HB1.o,fE.o⟩
  case round =>
   obtain⟨k,rfl,hk,hall,hb0,hb1,hxr⟩:=hrel;have qE:=ak hall;have kC:=ak hxr;have Zo:=ak hb0;have qw:=ak hb1;obtain⟨e0,e1,e2,ef⟩:=fZ hb0;obtain⟨f0,f1,f2,ff⟩:=fZ hb1;have nP:=dH hb1;clear hall hxr hb0 hb1;by_cases hkn:k<pn
   ·have hkp:k<p.args.length:=by have:=KL.o;omega
    have hkq:k<q.args.length:=by have:=Zk.o;omega
    have t1:=ah ((k:Int)<(pn:Int));obtain⟨b,off,x,rfl,hx,c0,c1,c2⟩:=YX.o k hkp;obtain⟨b',off',y,rfl,hy,d0,d1,d2⟩:=HQ6.o k hkq
    replace c0:=kC.o.cell c0
    replace c1:=kC.o.cell c1
    replace c2:=kC.o.cell c2
    replace d0:=kC.o.cell d0
    replace d1:=kC.o.cell d1
    replace d2:=kC.o.cell d2
    have HCC:=ak (fun W (hW:Ext w W)=>HC.o k hkp hkq x y W (hx.ext hW) (hy.ext hW));obtain⟨B,hB⟩:∃B,B=QB p.args[k] q.args[k]:=⟨_,rfl⟩
    rw[<-hB] at HCC;have nZ:=ak hB;obtain⟨xb,xk,xa,xn,xc⟩:=x;obtain⟨yb,yk,ya,yn,yc⟩:=y;unfold jP.val at HCC;simp only at c0 c1 c2 d0 d1 d2 HCC;clear hB hx hy;go_wp2_with fail
    go_still_tail 10,(by kernel_rfl)
    change wpList _ _ _ _ _ wr.drew
    have hx2:Ext wr wr.drew:=(Ext.refl wr).drew;generalize wr.drew=w2 at hx2 ⊢;have gI:=ak (kC.o.trans hx2);have HD0:=ak (hx2.blk Zo.o);have HD1:=ak (hx2.blk qw.o);clear hx2 e0 e1 e2 ef f0 f1 f2 ff c0 c1 c2 d0 d1 d2 nP;go_wp2_with fail
    refine(HCC.o w2 gI.o).mono ?_;rintro r w3 ⟨rfl,hx3⟩;have gU:=ak (gI.o.trans hx3);have HE0:=ak (hx3.blk HD0.o);have yS:=ak (hx3.blk HD1.o);clear hx3;cases B
    ·have HQ:=ak (show R=false by
      rw[HR2.o];cases hz:xO p.args q.args
      ·rfl
      have:=ajX _ _ hz k hkp hkq;rw[<-nZ.o] at this;cases this)
     go_wp2_with fail
     go_ret;exact dL (by rw[HQ.o]) gU.o
    go_wp2_with fail
    go_roundw
    case rel =>
     refine⟨k+1,by go_num,by omega,fun j h1 h2 hjk=>?_,HE0.o,yS.o,gU.o⟩;by_cases e:j=k
     ·subst e;exact nZ.o.symm
     exact qE.o j h1 h2 (by omega)
    case measure=>simp[intOf];omega
   have t1:=aj ((k:Int)<(pn:Int));have HF:=ak (show R=true by
    rw[HR2.o];exact ajW _ _ (by have:=KL.o;have:=Zk.o;omega) fun i h1 h2=>qE.o i h1 h2 (by have:=KL.o;omega))
   go_wp2_with fail
   go_ret;exact dL (by rw[HF.o]) kC.o
inductive Rs.fit:Rs->Prop
 | mk {nm:BA} {b:Bool} {p:Pr} {us:List Rs} (hp:p.fit) (hl:us.length<=1000000000000000) (hu:∀x∈us,x.fit):Rs.fit (.mk nm b p us)
theorem aj' {nm:BA} {p:Pr} {us:List Rs} (hp:p.fit) (hl:us.length<=1000000000000000) (hu:∀x∈us,x.fit):(rO nm p us).fit:=by
 unfold rO;split
 ·exact .mk hp (by simp) (by simp)
 split
 ·rename_i x hx
  exact .mk hp (by simp) (fun y hy=>by rw[aK.1 hy];exact hu _ (List.mem_of_find?_eq_some hx))
 exact .mk hp hl hu
theorem aGm {F:Ex->Pr} {P:Ex->Prop} (hF:∀e,P e->(F e).fit):∀(m:Nat) (u:List Wb),qU u<=m->m<=1000000->nN P u->∀x∈uZ F u,x.fit:=by
 intro m;induction m using Nat.strongRecOn with
 | _ m ih =>
  intro u hm hm1 hok x hx;obtain⟨k,hk,rfl⟩:=bM hx;have hku:k<u.length:=by rw[<-QF F u];exact hk
  have h1:=aeE F u k hku;rw[aZ hk,Option.some.injEq] at h1;rw[h1];have hat:=Gn u k hku;obtain⟨h2,h3,-⟩:=pI u hok k hku;have hl:=wI u[k].jZ;exact aj' (hF _ h2) (by rw[QF];omega) (ih (qU u[k].jZ) (by omega) u[k].jZ (bg _) (by omega) h3)
theorem aGn {F:Ex->Pr} {P:Ex->Prop} (hF:∀e,P e->(F e).fit) (x:dY) (h1:P x.cond) (h2:nN P x.jZ) (h3:qU x.jZ<=1000000):(qF F x).fit:=by
 have hl:=wI x.jZ;exact aj' (hF _ h1) (by rw[QF];omega) (aGm hF _ _ (bg _) h3 h2)
theorem aH7 {F:Ex->Pr} {l:List dY} {r:Rs} (h:r∈aly F l):∃x∈l,r=qF F x:=by
 have hm:∀ks,∀r∈(wJ ks l).map (qF F),∃x∈l,r=qF F x:=fun ks r hr=>by
  obtain⟨x,hx,rfl⟩:=List.mem_map.1 hr;unfold wJ at hx;exact⟨x,(List.mem_filter.1 hx).1,rfl⟩
 unfold aly at h;split at h
 ·exact hm _ r h
 rename_i c hc
 have h1:=hm _ c (List.mem_of_find?_eq_some hc);split at h
 ·rename_i b hb
  have h2:=hm _ b (List.mem_of_find?_eq_some hb);simp only[bK,bQ,or_false] at h;rcases h with rfl|rfl
  ·exact h1
  exact h2
 split at h
 ·rename_i x hx
  have h3:=hm _ x (List.mem_of_find?_eq_some hx);simp only[bK,aT,bQ,or_false] at h;rcases h with rfl|h|rfl
  ·exact h1
  ·exact hm _ r h
  exact h3
 simp only[bK,aT] at h;rcases h with rfl|h|h|h
 ·exact h1
 ·exact hm _ r h
 ·exact hm _ r h
 exact hm _ r h
theorem aH8 (F:Ex->Pr) (l:List dY):(aly F l).length<=1+(l.length+(l.length+l.length))+1:=by
 have hm:∀ks,((wJ ks l).map (qF F)).length<=l.length:=fun ks=>by rw[List.length_map];unfold wJ;exact List.length_filter_le _ _
 have h2:=hm [2];have h4:=hm [4];have h3:=hm [3];have h9:=hm vF;unfold aly;split
 ·omega
 split
 ·simp
 split
 ·simp only[List.length_cons,bI,List.length_nil];omega
 simp only[List.length_cons,bI];omega
theorem nG.at {w:World} {L:List Rs} {a:OA} {n c:Nat} (h:nG w L a n c) {k:Nat} (hk:k<L.length) {nm:BA} {b:Bool} {p:Pr} {us:List Rs} (he:L[k]=.mk nm b p us):∃(bl off:Nat) (pv:jP) (ua:OA) (uc:Nat),a=some ⟨bl,off,none⟩/\jK w p pv/\nG w us ua us.length uc /\
  w.cell? ⟨bl,off+k*6,none⟩=some (.string nm)/\w.cell? ⟨bl,off+k*6+1,none⟩=some (.bool b)/\w.cell? ⟨bl,off+k*6+2,none⟩=some (.bool pv.value)/\w.cell? ⟨bl,off+k*6+3,none⟩=some (.int .i64 pv.pick)/\w.cell? ⟨bl,off+k*6+4,none⟩=some (.slice pv.a pv.n pv.c)/\w.cell? ⟨bl,off+k*6+5,none⟩=some (.slice ua us.length uc):=by
 obtain⟨vs,h1,h2⟩:=h;have hkv:k<vs.length:=by rw[<-h1.1];exact hk
 have hr:=h1.2 k hk hkv;rw[he] at hr;obtain⟨bl,off,ha,hc⟩:=h2.2.2.2 k hkv;generalize vs[k]=v at hr hc;cases hr with
 | mk us' hp hrw hl hall =>
  rename_i pv a' n' c'
  obtain rfl:n'=us.length:=by rw[hrw.1,hl]
  exact⟨bl,off,pv,a',c',ha,hp,⟨us',⟨hl.symm,hall⟩,hrw⟩,by simpa[pO.cells] using hc 0 (by simp[pO.cells]),by simpa[pO.cells] using hc 1 (by simp[pO.cells]),by simpa[pO.cells] using hc 2 (by simp[pO.cells]),by simpa[pO.cells] using hc 3 (by simp[pO.cells]),by simpa[pO.cells] using hc 4 (by simp[pO.cells]),by simpa[pO.cells] using hc 5 (by simp[pO.cells])⟩
theorem nG.len {w:World} {L:List Rs} {a:OA} {n c:Nat} (h:nG w L a n c):n=L.length:=by
 obtain⟨vs,h1,h2⟩:=h;rw[h2.1,h1.1]
theorem aqV:∀(m:Nat) (L:List Rs) (a a':OA) (n c c':Nat) (w:World),SizeOf.sizeOf L<=m->(∀x∈L,x.fit)->n<=1000000000000000->nG w L a n c->nG w L a' n c' ->
  Calls Tryz.prog 22 #[.slice a n c,.slice a' n c'] w (dN (.bool true) w):=by
 intro m;induction m using Nat.strongRecOn with
 | _ m ih =>
 intro L a a' n c c' w hm hfit hn hl hl';have HN:=ak hl.len;have HL:=ak hl;have HL':=ak hl';have HST:=ak (show ∀(k:Nat) (hk:k<L.length) (nm:BA) (b:Bool) (p:Pr) (us:List Rs),L[k]=.mk nm b p us->(∀pv qv W,jK W p pv->jK W p qv->Calls Tryz.prog 47 #[pv.val,qv.val] W (dN (.bool true) W))/\∀(ua ub:OA) (uc ud:Nat) W,nG W us ua us.length uc->nG W us ub us.length ud->Calls Tryz.prog 22 #[.slice ua us.length uc,.slice ub us.length ud] W (dN (.bool true) W) from fun k hk nm b p us he=>by
  have hmem:Rs.mk nm b p us∈L:=by rw[<-he];exact aI hk
  have hs:=List.sizeOf_lt_of_mem hmem;rw[Rs.mk.sizeOf_spec] at hs;have hf:=hfit _ hmem;cases hf with
  | mk h1 h2 h3 =>
   refine⟨fun pv qv W q1 q2=>?_,fun ua ub uc ud W q1 q2=>ih (SizeOf.sizeOf us) (by omega) us ua ub us.length uc ud W (bg _) h3 h2 q1 q2⟩;have:=uM p.size p p pv qv W (bg _) h1 q1 q2
   rwa [Tv] at this)
 clear ih hm hfit hl hl';go_enter Tryz.func22,Tryz.ntmps22
 go_wp2_with fail
 go_loopw [5] (fun i wr=>∃k:Nat,i=.int .i64 k/\k<=n/\Ext w wr) (fun i _=>n - (intOf i).toNat)
 case atStart=>exact⟨0,rfl,Nat.zero_le _,Ext.refl _⟩
 case round =>
  obtain⟨k,rfl,hk,hx⟩:=hrel;obtain⟨wo,rfl⟩:∃wo:World,wo=wr:=⟨_,rfl⟩
  have HX:=ak hx;clear hx;by_cases hkn:k<n
  ·have hkl:k<L.length:=by have:=HN.o;omega
   have t1:=ah ((k:Int)<(n:Int));have tk0:(0:Int)<=(k:Int):=by omega
   have tk1:(k:Int)<(n:Int):=by omega
   obtain⟨⟨nm,ap,p,us⟩,he⟩:∃r,L[k]=r:=⟨_,rfl⟩
   obtain⟨hsp,hsr⟩:=HST.o k hkl nm ap p us he;obtain⟨bl,off,pv,ua,uc,rfl,hp,hu,c0,c1,c2,c3,c4,c5⟩:=(HL.o.mono HX.o.sub).at hkl he;obtain⟨bm,ofg,qv,ub,ud,rfl,hq,hv,e0,e1,e2,e3,e4,e5⟩:=(HL'.o.mono HX.o.sub).at hkl he;have HSP:=ak (fun W (hW:Ext wo W)=>hsp pv qv W (hp.mono hW.sub) (hq.mono hW.sub));have HSR:=ak (fun W (hW:Ext wo W)=>hsr ua ub uc ud W (hu.mono hW.sub) (hv.mono hW.sub));obtain⟨un,hun⟩:∃un,un=us.length:=⟨_,rfl⟩
   rw[<-hun] at HSR c5 e5;unfold jP.val at HSP;clear hsp hsr hp hu hq hv he HST hun;go_upto_region 6 with fail
   have C0:=dI c0;have C1:=dI c1;have C2:=dI c2;have C3:=dI c3;have C4:=dI c4;have C5:=dI c5;have E0:=dI e0;have E1:=dI e1;have E2:=dI e2;have E3:=dI e3;have E4:=dI e4;have E5:=dI e5;refine rC 52 ?_
   repeat (refine dQ ?_;intro K hK;go_big_quiet_op;go_big_quiet_on)
   refine tu (fun W hW=>HSP.o W hW) ?_;intro K hK;go_simp;go_big_quiet_on
   repeat (refine dQ ?_;intro K hK;go_big_quiet_op;go_big_quiet_on)
   refine tu (fun W hW=>HSR.o W hW) ?_;intro K hK;go_simp;go_big_quiet_on
   repeat (refine dQ ?_;intro K hK;go_big_quiet_op;go_big_quiet_on)
   refine lH fun W hW2 _ _=>?_
   have HW2:=ak hW2;clear C0 C1 C2 C3 C4 C5 E0 E1 E2 E3 E4 E5 hW2;go_wp2_with fail
   go_roundw
   case rel=>exact⟨k+1,by go_num,by omega,HX.o.trans HW2.o⟩
   case measure=>simp[intOf];omega
  have t1:=aj ((k:Int)<(n:Int));go_wp2_with fail
  go_ret;exact dL rfl HX.o
def ExA (D:Dec) (E:Int) (R:List Rs) (w:World) (e:Ending) (w':World):Prop:=∃a n c,e=.returned (.tuple #[.agg #[.int .i64 D.ver,.int .i64 D.lim,.int .i64 D.Qg,.int .i64 D.Qd,.int .i64 D.Pq,.bool D.avg,.slice a n c],.int .i64 E])/\nG (mask w' (List.range w.heap.size)) R a n c/\Ext w w'
structure aV8 (w:World) (sv:Value) (la:OA) (ln lc:Nat) (fa:OA) (fn fc:Nat) (D:Dec) (E:Int) (R:List Rs):Prop where
 dec:∀W,Ext w W->Calls Tryz.prog 20 #[sv,.slice la ln lc,.slice fa fn fc] W (ExA D E R W)
 ref:∀W,Ext w W->Calls Tryz.prog 21 #[sv,.slice la ln lc,.slice fa fn fc] W (ExA D E R W)
 same:∀a n c a' n' c' W,nG W R a n c->nG W R a' n' c'->Calls Tryz.prog 22 #[.slice a n c,.slice a' n' c'] W (dN (.bool true) W)
theorem aD1 (s:List Attr) (l:List dY) (f:ZI) (hl:l.length<=1000000):(∀x∈aaU s l f,x.fit)/\(aaU s l f).length<=1000000000000000:=by
 unfold aaU;split
 ·rename_i h0
  have hc:=(zB h0).1;refine⟨fun r hr=>?_,by have:=aH8 (pf s l f) l;omega⟩;obtain⟨x,hx,rfl⟩:=aH7 hr;have hk:=afH hc x hx;have h2:=(EW (afE hc x hx)).2;exact aGn (P:=Pv s l) (fun e he=>arf (qO hc) _ e (by have:=he.2.2.2;omega)) x hk.cond hk.wbs (by omega)
 exact⟨fun r hr=>by simp at hr,by simp⟩
theorem aK5 (s:List Attr) (l:List dY) (f:ZI) (sv:Value) (a:OA) (n c:Nat) (fa:OA) (fn fc:Nat) (w:World) (hs:fJ w s sv) (hf:∀x∈s,x.fits) (hsl:s.length<=1000000000000000) (hl:eX w l a n c) (hn:n<=1000000) (hok:∀x∈l,x.fit) (hi:fO w f fa fn) (hfn:fn<=1000000000000000) (ho:gG w) :
  ∃(D:Dec) (E:Int) (R:List Rs),aV8 w sv a n c fa fn fc D E R :=
 ⟨qN s l f,nI s l f,aaU s l f,fun W hW=>alT s l f sv a n c fa fn fc W (hs.ext hW) hf hsl (hl.ext hW) hn hok (hi.ext hW) hfn (ho.ext hW),fun W hW=>akg s l f sv a n c fa fn fc W (hs.ext hW) hf hsl (hl.ext hW) hn hok (hi.ext hW),fun a1 n1 c1 a2 n2 c2 W h1 h2=>by
  obtain⟨g1,g2⟩:=aD1 s l f (by have:=hl.len;omega);have e1:=h1.len;have e2:=h2.len;subst e1;subst e2;exact aqV _ _ _ _ _ _ _ W (bg _) g1 g2 h1 h2⟩
theorem Ac.aTA {w:World} {s:List Attr} {l:List dY} {f:ZI} {v:W12} (h:Ac w s l f v) (ho:gG w) {g:ZI} {ga:OA} {gn:Nat} (gc:Nat) (hi:fO w g ga gn) (hgn:gn<=1000):∃(D:Dec) (E:Int) (R:List Rs),aV8 w (.agg #[.slice v.sa v.sn v.sc]) v.la v.ln v.lc ga gn gc D E R :=
 aK5 s l g _ v.la v.ln v.lc ga gn gc w h.DK (kM h.mem) (by have:=(kN (oM h.mem)).2.1;omega) h.FY (by have:=h.FY.len;have:=h.len;omega) h.Ja hi (by omega) ho
theorem Ac.a0L {w:World} {s:List Attr} {l:List dY} {f:ZI} {v:W12} (h:Ac w s l f v):v.fn<=1000:=by
 rw[h.ints.1,nD h.facts];exact(gY s h.mem).2.2
theorem anF (da:OA) (dn dc:Nat) (fa0:OA) (fn0 fc0:Nat) (w:World) (h2:gB w da dn) (hdn:dn<=1000000000000000) (h1:gB w fa0 fn0) (hfn:fn0<=1000000000000000) (ho:gG w) :
  Calls Tryz.prog 8 #[.slice da dn dc,.slice fa0 fn0 fc0] w (dN (.bool true) w):=by
 have HO:=ak ho;have Zy:=ak (fun W (hW:Ext w W)=>DC W (ho.ext hW));obtain⟨f0,hf0,hfl⟩:=ak7 h1;have HF0:=ak hf0;have OU:=ak (fun W (hW:Ext w W)=>FM da dn dc W (fun i hi=>by obtain⟨b,off,q,e,hc⟩:=h2 i hi;exact⟨b,off,q,e,hW.cell hc⟩) hdn);clear h1 h2 hf0 ho hfl hdn;go_enter Tryz.func8,Tryz.ntmps8
 by_cases g3:50<fn0
 ·have t3:=ah ((50:Int)<(fn0:Int));go_wp2_with fail
  refine(Zy.o w (Ext.refl w)).mono ?_;rintro r wz ⟨rfl,hxz⟩;have yC:=ak hxz;clear hxz;go_wp2_with fail
  go_ret;exact⟨rfl,yC.o⟩
 have t3:=aj ((50:Int)<(fn0:Int));have HG3:=ak (show fn0<=1000 by omega);clear g3;go_wp2_with fail
 refine(OU.o w (Ext.refl w)).mono ?_;rintro r w5 ⟨s,l,f,v,bd,rfl,hiw,-,hx5⟩;have SL:=ak (hiw.mono (dU _ _));clear hiw;unfold W12.val;go_upto_region 4 with fail
 obtain⟨bw,hbw⟩:∃bw:Nat,bw=w5.heap.size:=⟨_,rfl⟩
 obtain⟨w6,hw6⟩:∃w6,w6=w5.alloc (.cells #[.slice v.sa v.sn v.sc,.slice v.la v.ln v.lc,.slice v.fa v.fn v.fc] 34):=⟨_,rfl⟩
 have hx6:Ext w5 w6:=by rw[hw6];exact(Ext.refl _).alloc _
 have DJ:=ak (show w6.heap[bw]?=some (.cells #[.slice v.sa v.sn v.sc,.slice v.la v.ln v.lc,.slice v.fa v.fn v.fc] 34 (0,0)) by rw[hw6,hbw];exact dG w5 _);rw[<-hw6,<-hbw];clear hw6 hbw;have PN:=ak (SL.o.mono hx6.sub);have oL:=ak (hx5.trans hx6);have OQ:=ak (HO.o.ext oL.o);clear hx5 hx6 SL OU;obtain⟨⟨e1,e2,e3,e4,e5,e6⟩,E1,R1,hd1⟩:=PN.o.aTA OQ.o v.fc PN.o.ints PN.o.a0L;obtain⟨⟨h1,h2,h3,h4,h5,h6⟩,E2,R2,hd2⟩:=PN.o.aTA OQ.o fc0 (HF0.o.ext oL.o) HG3.o;have HT1:=ak hd1.dec;have HU1:=ak hd1.ref;have Fh:=ak hd1.same;have HT2:=ak hd2.dec;have HU2:=ak hd2.ref;have HS2:=ak hd2.same;unfold ExA at HT1 HU1 HT2 HU2;dsimp only at HT1 HU1 HT2 HU2;clear hd1 hd2 HF0 HO OQ PN;obtain⟨c0,c1,c2,cf⟩:=fZ DJ.o;go_wp2_with fail
 refine(HT1.o w6 (Ext.refl _)).mono ?_;rintro r w7 ⟨a1,n1,k1,rfl,hrs,hx1⟩;go_upto_region 5 with fail
 obtain⟨w8,hwn⟩:∃w8,w8=w7.alloc (.cells #[.int .i64 e1,.int .i64 e2,.int .i64 e3,.int .i64 e4,.int .i64 e5,.bool e6,.slice a1 n1 k1] 57):=⟨_,rfl⟩
 have hx2:Ext w7 w8:=by rw[hwn];exact(Ext.refl _).alloc _
 obtain⟨p1,hbn⟩:∃p1:Nat,p1=w7.heap.size:=⟨_,rfl⟩
 have aOI:=ak (show w8.heap[p1]?=some (.cells #[.int .i64 e1,.int .i64 e2,.int .i64 e3,.int .i64 e4,.int .i64 e5,.bool e6,.slice a1 n1 k1] 57 (0,0)) by rw[hwn,hbn];exact dG w7 _);have aOC:=ak (show nG w8 R1 a1 n1 k1 from(hrs.mono (dU _ _)).mono hx2.sub);rw[<-hwn,<-hbn];clear hwn hbn;have aEW:=ak (show Ext w6 w8 from(hx1.trans hx2));clear hx1 hx2 hrs c0 c1 c2 cf ;obtain⟨c0,c1,c2,cf⟩:=fZ (aEW.o.blk DJ.o);go_wp2_with fail
 refine(HU1.o w8 aEW.o).mono ?_;rintro r w9 ⟨a2,n2,k2,rfl,hrs,hx1⟩;go_upto_region 6 with fail
 obtain⟨w10,hwn⟩:∃w10,w10=w9.alloc (.cells #[.int .i64 e1,.int .i64 e2,.int .i64 e3,.int .i64 e4,.int .i64 e5,.bool e6,.slice a2 n2 k2] 57):=⟨_,rfl⟩
 have hx2:Ext w9 w10:=by rw[hwn];exact(Ext.refl _).alloc _
 obtain⟨p2,hbn⟩:∃p2:Nat,p2=w9.heap.size:=⟨_,rfl⟩
 have aJJ:=ak (show w10.heap[p2]?=some (.cells #[.int .i64 e1,.int .i64 e2,.int .i64 e3,.int .i64 e4,.int .i64 e5,.bool e6,.slice a2 n2 k2] 57 (0,0)) by rw[hwn,hbn];exact dG w9 _);have aJy:=ak (show nG w10 R1 a2 n2 k2 from(hrs.mono (dU _ _)).mono hx2.sub);rw[<-hwn,<-hbn];clear hwn hbn;have aJM:=ak ((hx1.trans hx2).blk aOI.o);have aJA:=ak (aOC.o.mono (hx1.trans hx2).sub);have aJk:=ak (show Ext w6 w10 from aEW.o.trans (hx1.trans hx2));clear hx1 hx2 hrs c0 c1 c2 cf aOI aOC;obtain⟨c0,c1,c2,cf⟩:=fZ (aJk.o.blk DJ.o);go_wp2_with fail
 refine(HT2.o w10 aJk.o).mono ?_;rintro r uK ⟨a3,n3,k3,rfl,hrs,hx1⟩;go_upto_region 7 with fail
 obtain⟨w12,hwn⟩:∃w12,w12=uK.alloc (.cells #[.int .i64 h1,.int .i64 h2,.int .i64 h3,.int .i64 h4,.int .i64 h5,.bool h6,.slice a3 n3 k3] 57):=⟨_,rfl⟩
 have hx2:Ext uK w12:=by rw[hwn];exact(Ext.refl _).alloc _
 obtain⟨p3,hbn⟩:∃p3:Nat,p3=uK.heap.size:=⟨_,rfl⟩
 have aJG:=ak (show w12.heap[p3]?=some (.cells #[.int .i64 h1,.int .i64 h2,.int .i64 h3,.int .i64 h4,.int .i64 h5,.bool h6,.slice a3 n3 k3] 57 (0,0)) by rw[hwn,hbn];exact dG uK _);have aJw:=ak (show nG w12 R2 a3 n3 k3 from(hrs.mono (dU _ _)).mono hx2.sub);rw[<-hwn,<-hbn];clear hwn hbn;have aJL:=ak ((hx1.trans hx2).blk aJM.o);have aJz:=ak (aJA.o.mono (hx1.trans hx2).sub);have aJI:=ak ((hx1.trans hx2).blk aJJ.o);have aJx:=ak (aJy.o.mono (hx1.trans hx2).sub);have afR:=ak (show Ext w6 w12 from aJk.o.trans (hx1.trans hx2));clear hx1 hx2 hrs c0 c1 c2 cf aJM aJA aJJ aJy;obtain⟨c0,c1,c2,cf⟩:=fZ (afR.o.blk DJ.o);go_wp2_with fail
 refine(HU2.o w12 afR.o).mono ?_;rintro r Td ⟨a4,n4,k4,rfl,hrs,hx1⟩;go_upto_region 8 with fail
 obtain⟨PW,hwn⟩:∃PW,PW=Td.alloc (.cells #[.int .i64 h1,.int .i64 h2,.int .i64 h3,.int .i64 h4,.int .i64 h5,.bool h6,.slice a4 n4 k4] 57):=⟨_,rfl⟩
 have hx2:Ext Td PW:=by rw[hwn];exact(Ext.refl _).alloc _
 obtain⟨p4,hbn⟩:∃p4:Nat,p4=Td.heap.size:=⟨_,rfl⟩
 have aJE:=ak (show PW.heap[p4]?=some (.cells #[.int .i64 h1,.int .i64 h2,.int .i64 h3,.int .i64 h4,.int .i64 h5,.bool h6,.slice a4 n4 k4] 57 (0,0)) by rw[hwn,hbn];exact dG Td _);have aRM:=ak (show nG PW R2 a4 n4 k4 from(hrs.mono (dU _ _)).mono hx2.sub);rw[<-hwn,<-hbn];clear hwn hbn;have aJK:=ak ((hx1.trans hx2).blk aJL.o);have aRP:=ak (aJz.o.mono (hx1.trans hx2).sub);have aJH:=ak ((hx1.trans hx2).blk aJI.o);have aRO:=ak (aJx.o.mono (hx1.trans hx2).sub);have aJF:=ak ((hx1.trans hx2).blk aJG.o);have aRN:=ak (aJw.o.mono (hx1.trans hx2).sub);have aWs:=ak (show Ext w6 PW from afR.o.trans (hx1.trans hx2));clear hx1 hx2 hrs c0 c1 c2 cf aJL aJz aJI aJx aJG aJw;obtain⟨x0,x1,x2,x3,x4,x5,x6,xf⟩:=qj aJK.o;obtain⟨y0,y1,y2,y3,y4,y5,y6,yf⟩:=qj aJH.o;obtain⟨z0,z1,z2,z3,z4,z5,z6,zf⟩:=qj aJF.o;obtain⟨u0,u1,u2,u3,u4,u5,u6,uf⟩:=qj aJE.o;go_wp2_with fail
 refine(Fh.o a1 n1 k1 a2 n2 k2 PW aRP.o aRO.o).mono ?_;rintro r w15 ⟨rfl,hx1⟩;have aWr:=ak (aWs.o.trans hx1);have aFa:=ak hx1;clear hx1 x0 x1 x2 x3 x4 x5 x6 xf y0 y1 y2 y3 y4 y5 y6 yf z0 z1 z2 z3 z4 z5 z6 zf u0 u1 u2 u3 u4 u5 u6 uf;obtain⟨x0,x1,x2,x3,x4,x5,x6,xf⟩:=qj (aFa.o.blk aJK.o);obtain⟨y0,y1,y2,y3,y4,y5,y6,yf⟩:=qj (aFa.o.blk aJH.o);obtain⟨z0,z1,z2,z3,z4,z5,z6,zf⟩:=qj (aFa.o.blk aJF.o);obtain⟨u0,u1,u2,u3,u4,u5,u6,uf⟩:=qj (aFa.o.blk aJE.o);go_wp2_with fail
 refine(HS2.o a3 n3 k3 a4 n4 k4 w15 (aRN.o.mono aFa.o.sub) (aRM.o.mono aFa.o.sub)).mono ?_;rintro r w16 ⟨rfl,hx1⟩;have yC:=ak (oL.o.trans (aWr.o.trans hx1));clear hx1 x0 x1 x2 x3 x4 x5 x6 xf y0 y1 y2 y3 y4 y5 y6 yf z0 z1 z2 z3 z4 z5 z6 zf u0 u1 u2 u3 u4 u5 u6 uf;go_wp2_with fail
 refine(Zy.o w16 yC.o).mono ?_;rintro r w17 ⟨rfl,aaJ⟩;have HXY:=ak (yC.o.trans aaJ);clear aaJ;go_wp2_with fail
 go_ret;exact dL (by simp) HXY.o
end Go.Proofs.YtefjomofjejklaaGreatDoor
