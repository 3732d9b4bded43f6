/- Joined. -/
import Derived.Test.YtefjomofjejklaaGreatDoorDs11
namespace Go.Proofs.YtefjomofjejklaaGreatDoor
set_option maxRecDepth 100000
set_option maxHeartbeats 32000000
open Go.RowKit Go.Maps
theorem abd (l:List cK):(o:ZN)->∀s n,qG l o s=some n->n<=2001:=by
 intro o;generalize hm:o.length=m;induction m generalizing o with
 | zero=>intro s n h;rw[aR hm] at h;simp[qG] at h
 | succ m ih =>
  intro s n h;have hne:o≠[]:=by intro e;rw[e] at hm;cases hm
  obtain⟨r,i,rfl⟩:∃r i,o=r++[i]:=⟨o.dropLast,o.getLast hne,(List.dropLast_concat_getLast hne).symm⟩
  have hr:=ih r (by simpa using hm);rw[LK] at h;by_cases e:s=(l.getD i fC).name
  ·rw[bM e] at h;cases h
   exact aBA hr _
  rw[bL e] at h;exact hr s n h
theorem ayS {l:List cK} {o:ZN} {i:Nat} (x:Lit):Rw (kV (Tl (qG l o))) (.string (l.getD i fC).name.data.toList) (some (.int .i64 (szE (qG l o) (l.getD i fC).cond))) x=kV (Tl (qG l (o++[i]))) x:=by
 rw[Dm];cases x<;>try rfl
 rename_i bs
 simp only[kV];by_cases e:(⟨bs.toArray⟩:BA)=(l.getD i fC).name
 ·rw[e,xY,Tl,LK,bM rfl]
  rfl
 rw[sR _ _ e,Tl,Tl,LK,bL e]
theorem axH {P:Program} {ops:Array Oper} {Q:Exit->Act->World->Prop} {a:Act} {w:World} {i:Nat} {o:Oper} (ho:ops[i]?=some o) (h:wpList P ops Q [o] a w):wpOp P ops Q i (fun a w=>Q .normal a w) a w:=by
 unfold wpOp;rw[ho];exact h
def amh (bf cb ld n c i:Nat) (v:fM) (z:Nat):Nat->Value
 | 0=>.map (some bf)|6=>.map (some bf)
 | 1=>.slice (some ⟨cb,ld,none⟩) n c|7=>.slice (some ⟨cb,ld,none⟩) n c
 | 2=>.int .i64 i|8=>.int .i64 i
 | 3=>.pointer (some ⟨cb,ld+i*10,none⟩)|9=>.pointer (some ⟨cb,ld+i*10,none⟩)
 | 4=>.pointer (some ⟨cb,ld+i*10+1,none⟩)|10=>.pointer (some ⟨cb,ld+i*10+2,none⟩)
 | 5=>.string v.name
 | 11=>.agg #[.int .i64 v.x.op,.string v.x.name,.slice v.x.aw v.x.nw v.x.cw,.int .i64 v.x.lo,.int .i64 v.x.hi,.slice v.x.aa v.x.na v.x.ca]
 | _=>.int .i64 z
def aXK (wr W:World):Prop:=Ext wr W
def aXL (_:Nat) (W W':World):Prop:=Ext W W'
def aXJ (f:Nat->Value) (j:Nat) (u:Value) (_:World):Prop:=u=f j
def aNb (l:List cK) (o:ZN) (w:World) (e:Ending) (w':World):Prop:=∃b,e=.returned (.map (some b))/\ig w' 9 b o.length (kV (Tl (qG l o)))/\Ext w w'
theorem acy (l:List cK) (a:OA) (n c:Nat) (o:ZN) (oa:OA) (oc:Nat) (w:World) (hl:cZ w l a n c) (_hn:n<=1000000) (ho:FK w (ints o) oa o.length oc) (hol:o.length<=1000000) (hlt:∀i∈o,i<l.length)
  (hsz:∀x∈l,x.name.size<=1000000000000000/\x.cond.size<=1000000000000000/\x.cond.fits) :
  Calls Tryz.prog 81 #[.slice a n c,.slice oa o.length oc] w (aNb l o w):=by
 have HL:=ai hl;have HN:=ai hl.len;have tR:=ai hsz;have HO:=ai ho;have kB:=ai hlt;clear hl hsz ho hlt;have hmm:=@run_makeMap Tryz.prog;have Uj:=ai (ig.made w 9);have BO:=ai ((Tz w).alloc (.map #[] 0));obtain⟨bf,Qd⟩:∃bf:Nat,bf=w.heap.size:=⟨_,rfl⟩
 rw[<-Qd] at Uj;have HBF:=ai Qd;go_enter Tryz.func81,Tryz.ntmps81
 go_wp2_with fail;rw[<-Qd];clear Qd hmm;go_loopw [11] (fun i wr=>∃k:Nat,k<=o.length/\i=.int .i64 k/\ig wr 9 bf k (kV (Tl (qG l (o.take k))))/\Ext w wr) (fun i _=>o.length - (intOf i).toNat)
 case atStart =>
  refine⟨0,by omega,rfl,Uj.o.congr fun x=>?_,BO.o⟩;cases x<;>simp[kV,Tl,qG]
 case round =>
  obtain⟨k,hk,rfl,hmap,hx⟩:=hrel;have En:=ai hmap;have HX:=ai hx;have qL:=hmap.lt;clear hmap hx Uj BO;by_cases hlt:k<o.length
  ·have t1:=ag ((k:Int)<(o.length:Int));obtain⟨ob,aVW,rfl,oc1⟩:=(HO.o.mono HX.o.sub).2.2.2 k (by simpa[ints] using hlt);obtain⟨i,hi⟩:∃i,i=o[k]:=⟨_,rfl⟩
   have e1:(ints o)[k]'(by simpa[ints] using hlt)=(i:Int):=by simp[ints,hi]
   rw[e1] at oc1;have hil:i<l.length:=kB.o i (by rw[hi];exact aD hlt);have hin:i<n:=by have:=HN.o;omega
   obtain⟨cb,ld,v,rfl,fO,hrow⟩:=(HL.o.ext HX.o).at hil;obtain⟨c0,c1,c2,c3,c4,c5,c6,c7,c8,c9⟩:=hrow.BB;have aLI:=tR.o _ (aD hil);have zP:v.name.size<=1000000000000000:=by rw[fO.2.1];exact aLI.1
   have zq:=ai (show dw wr l[i].cond (.agg #[.int .i64 v.x.op,.string v.x.name,.slice v.x.aw v.x.nw v.x.cw,.int .i64 v.x.lo,.int .i64 v.x.hi,.slice v.x.aa v.x.na v.x.ca]) from fO.2.2.1);have HST:=ai (@ayS l (o.take k) i);have e2:o.take k++[i]=o.take (k+1):=by rw[hi,aO hlt]
   rw[fJ hil,<-fO.2.1,e2] at HST;have HSI:=ai aLI;have Sc:(0:Int)<=(i:Int):=by omega
   have ti1:(i:Int)<(n:Int):=by omega
   clear fO hrow e1 e2 hi aLI;go_upto_region 5 with fail;have Un:=ai (fun (W:World) (hW:Ext wr W)=>X3 (qG l (o.take k)) (abd l _) bf k 1000000000000000 l[i].cond _ W HSI.o.2.1 (by omega) HSI.o.2.2 (En.o.ext hW) (zq.o.ext hW));obtain⟨Z,hZ⟩:∃Z,Z=szE (qG l (o.take k)) l[i].cond:=⟨_,rfl⟩
   rw[<-hZ] at Un HST;clear hZ;refine fk (m:=13) [0,5,12] (aXK wr) aXL (aXJ (amh bf cb ld n c i v Z)) (by kernel_rfl) (by kernel_rfl) ((Tz wr).drew) ?_ ?_ ?_
   ·exact fun _ _ _ _ _ _ _ _ _ h _=>h
   ·intro q op hq ho vs W hW hd ρ hρ;have jA:=ltc13 hq;clear hq;have o5:ρ (.tmp 5)=.map (some bf):=hρ.out 5 rfl;have o0:ρ (.tmp 0)=.slice (some ⟨cb,ld,none⟩) n c:=hρ.out 0 rfl;have o7:ρ (.tmp 7)=.int .i64 i:=hρ.out 7 rfl;have i1:=hρ.i 1 16;have i2:=hρ.i 2 17;have i3:=hρ.i 3 18;have i4:=hρ.i 4 19;have i7:=hρ.i 7 22;have i8:=hρ.i 8 23;have i9:=hρ.i 9 24;have i10:=hρ.i 10 25;have i6:=hρ.i 6 21;have i11:=hρ.i 11 26;have hc:=hρ.const;have hfn:=hρ.func;clear hρ;have hW:Ext wr W:=hW;have HW:=ai hW;clear hW;rcases jA with rfl|rfl|rfl|rfl|rfl|rfl|rfl|rfl|rfl|rfl|rfl|rfl|rfl
    ·cases ho;unfold bQ;go_simp;exact⟨Tz W,rfl⟩
    ·cases ho;unfold bQ;go_simp;exact⟨Tz W,rfl⟩
    ·cases ho;unfold bQ;go_simp;exact⟨Tz W,rfl⟩
    ·cases ho
     have h1:vs 1=_:=hd ⟨1,.data⟩ (by simp) rfl;have h2:vs 2=_:=hd ⟨2,.data⟩ (by simp) rfl;rw[h1] at i1;rw[h2] at i2;simp only[amh] at i1 i2;unfold bQ;go_simp;exact⟨Tz W,rfl⟩
    ·cases ho
     have h3:vs 3=_:=hd ⟨3,.data⟩ (by simp) rfl;rw[h3] at i3;simp only[amh] at i3;unfold bQ;go_simp;exact⟨Tz W,rfl⟩
    ·cases ho
     have h4:vs 4=_:=hd ⟨4,.data⟩ (by simp) rfl;rw[h4] at i4;simp only[amh] at i4;have g1:=HW.o.cell c1;unfold bQ;go_simp;exact⟨Tz W,rfl⟩
    ·cases ho;unfold bQ;go_simp;exact⟨Tz W,rfl⟩
    ·cases ho;unfold bQ;go_simp;exact⟨Tz W,rfl⟩
    ·cases ho;unfold bQ;go_simp;exact⟨Tz W,rfl⟩
    ·cases ho
     have h1:vs 7=_:=hd ⟨7,.data⟩ (by simp) rfl;have h2:vs 8=_:=hd ⟨8,.data⟩ (by simp) rfl;rw[h1] at i7;rw[h2] at i8;simp only[amh] at i7 i8;unfold bQ;go_simp;exact⟨Tz W,rfl⟩
    ·cases ho
     have h3:vs 9=_:=hd ⟨9,.data⟩ (by simp) rfl;rw[h3] at i9;simp only[amh] at i9;unfold bQ;go_simp;exact⟨Tz W,rfl⟩
    ·cases ho
     have h4:vs 10=_:=hd ⟨10,.data⟩ (by simp) rfl;rw[h4] at i10;simp only[amh] at i10;have g2:=HW.o.cell c2;have g3:=HW.o.cell c3;have g4:=HW.o.cell c4;have g5:=HW.o.cell c5;have g6:=HW.o.cell c6;have g7:=HW.o.cell c7;unfold bQ;go_simp;exact⟨Tz W,rfl⟩
    cases ho
    have h6:vs 6=_:=hd ⟨6,.data⟩ (by simp) rfl;have h11:vs 11=_:=hd ⟨11,.data⟩ (by simp) rfl;rw[h6] at i6;rw[h11] at i11;simp only[amh] at i6 i11;unfold bQ;go_simp;refine(Un.o W HW.o).mono ?_;rintro r w3 ⟨rfl,hx3⟩;exact⟨_,rfl,hx3,HW.o.trans hx3,rfl⟩
   intro vs W hW hR;rw[bL (by decide +kernel)];have h0:vs 0=_:=hR 0 (by simp) (by omega);have h5:vs 5=_:=hR 5 (by simp) (by omega);have h12:vs 12=_:=hR 12 (by simp) (by omega);simp only[amh] at h0 h5 h12;simp only[fL,dU,List.range,List.range.loop,aX,bN,h0,h5,h12];have hmx:=En.o.ext hW;refine axH rfl ?_
   change wpList _ _ _ [⟨none,.mapUpdate _ (.tmp 15) (.tmp 20) (.tmp 27),_,_,_,none⟩] _ _
   go_simp;refine lR _ rfl _ _ _ 136 rfl 9 3 gU JM bf k _ rfl hmx ?c3 _ _ _ rfl rfl (lB zP) trivial ?_
   case c3=>unfold maxLen;omega
   intro w1 hm1 hc1;have WO:=ai (hm1.congr HST.o);have dI:=ai (hc1.ext (HX.o.trans hW) (by rw[<-HBF.o];simp));clear hm1 hc1;go_wp2_with fail;go_roundw
   case rel=>exact⟨k+1,by omega,by go_num,WO.o,dI.o⟩
   case measure=>simp[intOf];omega
  have t1:=ah ((k:Int)<(o.length:Int));have HGE:=ai (show ig wr 9 bf o.length (kV (Tl (qG l o))) by have:=En.o;rw[aS (by omega)] at this;exact this.more hk);go_wp2_with fail;go_ret;exact⟨bf,rfl,HGE.o,HX.o⟩
def ye (u:List cK):ZB:=u.map (·.name)
def QS (l u:List cK) (x:Ex):Prop:=∀s∈fX x,∀d,dz l s=some d->s∈ye u
structure RP (l:List cK) (e:Ex) (u:List cK) (xs:List Ex):Prop where
 defs:∀c∈u,c.kind=1/\∃d,dz l c.name=some d/\c.cond=(l.getD d fC).cond/\Reach l e d
 names:(ye u).Nodup
 top:e∈xs\/QS l u e
 closed:∀c∈u,c.cond∈xs\/QS l u c.cond
 stack:∀x∈xs,x=e\/∃c∈u,c.cond=x
 SH:xs.length<=u.length+1
structure RPi (l:List cK) (e:Ex) (u:List cK) (xs:List Ex) (x:Ex) (ns:ZB) (j:Nat):Prop where
 defs:∀c∈u,c.kind=1/\∃d,dz l c.name=some d/\c.cond=(l.getD d fC).cond/\Reach l e d
 names:(ye u).Nodup
 top:e∈xs\/e=x\/QS l u e
 closed:∀c∈u,c.cond∈xs\/c.cond=x\/QS l u c.cond
 stack:∀y∈xs,y=e\/∃c∈u,c.cond=y
 cur:x=e\/∃c∈u,c.cond=x
 done:∀i (h:i<ns.length),i<j->∀d,dz l ns[i]=some d->ns[i]∈ye u
 SH:xs.length<=u.length
theorem RP.start (l:List cK) (e:Ex):RP l e [] [e]:=⟨by simp,by simp[ye],aoX (by simp),by simp,fun x hx=>aoX (by simpa using hx),by simp⟩
theorem RP.pop {l:List cK} {e:Ex} {u:List cK} {xs:List Ex} {x:Ex} (h:RP l e u (xs++[x])) (ns:ZB):RPi l e u xs x ns 0:=by
 refine⟨h.defs,h.names,?_,fun c hc=>?_,fun y hy=>h.stack y (by simp[hy]),h.stack x (by simp),fun i _ h=>by omega,by have:=h.SH;simpa using this⟩
 ·rcases h.top with h1|h1
  ·rcases aN.1 h1 with h2|h2
   ·exact aoX h2
   exact a4Z (aoX (by simpa using h2))
  exact a4Z (a4Z h1)
 rcases h.closed c hc with h1|h1
 ·rcases aN.1 h1 with h2|h2
  ·exact aoX h2
  exact a4Z (aoX (by simpa using h2))
 exact a4Z (a4Z h1)
theorem RPi.end {l:List cK} {e:Ex} {u:List cK} {xs:List Ex} {x:Ex} {ns:ZB} {j:Nat} (h:RPi l e u xs x ns j) (hj:ns.length<=j) (zP:∀s,s∈ns ↔ s∈fX x):RP l e u xs:=by
 have hx:QS l u x:=fun s hs d hd=>by
  obtain⟨i,hi,rfl⟩:=aW.1 ((zP s).2 hs);exact h.done i hi (by omega) d hd
 refine⟨h.defs,h.names,?_,fun c hc=>?_,h.stack,Nat.le_succ_of_le h.SH⟩
 ·rcases h.top with h1|rfl|h1
  ·exact aoX h1
  ·exact a4Z hx
  exact a4Z h1
 rcases h.closed c hc with h1|h1|h1
 ·exact aoX h1
 ·exact a4Z (h1 ▸ hx)
 exact a4Z h1
theorem RPi.skip {l:List cK} {e:Ex} {u:List cK} {xs:List Ex} {x:Ex} {ns:ZB} {j:Nat} (h:RPi l e u xs x ns j) (hj:j<ns.length) (hs:dz l ns[j]=none\/ns[j]∈ye u):RPi l e u xs x ns (j+1) :=
 ⟨h.defs,h.names,h.top,h.closed,h.stack,h.cur,fun i hi hij d hd=>by
  by_cases e':i=j
  ·subst e';rcases hs with h1|h1
   ·rw[h1] at hd;cases hd
   exact h1
  exact h.done i hi (by omega) d hd,h.SH⟩
theorem Kg (u:List cK) (c:cK):ye (u++[c])=ye u++[c.name]:=by simp[ye]
theorem RPi.step {l:List cK} {e:Ex} {u:List cK} {xs:List Ex} {x:Ex} {ns:ZB} {j:Nat} (h:RPi l e u xs x ns j) (hj:j<ns.length) (zP:∀s,s∈ns ↔ s∈fX x) {d:Nat} (hd:dz l ns[j]=some d) (hn:ns[j]∉ye u) {c:cK} (hk:c.kind=1) (hnm:c.name=ns[j]) (hc:c.cond=(l.getD d fC).cond) :
  RPi l e (u++[c]) (xs++[c.cond]) x ns (j+1):=by
 have up:∀y,QS l u y->QS l (u++[c]) y:=fun y hy s hs d hd=>by rw[Kg];exact aK _ (hy s hs d hd)
 refine⟨fun c' hc'=>?_,?_,?_,fun c' hc'=>?_,fun y hy=>?_,?_,fun i hi hij d' hd'=>?_,by have:=h.SH;simp;omega⟩
 ·rcases aN.1 hc' with h1|h1
  ·exact h.defs c' h1
  obtain rfl:c'=c:=by simpa using h1
  refine⟨hk,d,by rw[hnm];exact hd,hc,?_⟩;have hm:=(zP _).1 (aD hj);rcases h.cur with rfl|⟨c2,h2,rfl⟩
  ·exact Reach.base hm hd
  obtain⟨_,d2,g1,g2,g3⟩:=h.defs c2 h2;exact Reach.step g3 (g2 ▸ hm) hd
 ·rw[Kg,List.nodup_append];refine⟨h.names,by simp,fun a ha b hb e=>?_⟩;simp only[aG] at hb;subst e hb;exact hn (hnm ▸ ha)
 ·rcases h.top with h1|h1|h1
  ·exact aoX (aK _ h1)
  ·exact a4Z (aoX h1)
  exact a4Z (a4Z (up _ h1))
 ·rcases aN.1 hc' with h1|h1
  ·rcases h.closed c' h1 with h2|h2|h2
   ·exact aoX (aK _ h2)
   ·exact a4Z (aoX h2)
   exact a4Z (a4Z (up _ h2))
  obtain rfl:c'=c:=by simpa using h1
  exact aoX (by simp)
 ·rcases aN.1 hy with h1|h1
  ·rcases h.stack y h1 with h2|⟨c2,h2,h3⟩
   ·exact aoX h2
   exact a4Z ⟨c2,aK _ h2,h3⟩
  exact a4Z ⟨c,by simp,(aG.1 h1).symm⟩
 ·rcases h.cur with h1|⟨c2,h2,h3⟩
  ·exact aoX h1
  exact a4Z ⟨c2,aK _ h2,h3⟩
 rw[Kg];by_cases e':i=j
 ·subst e';simp[hnm]
 exact aK _ (h.done i hi (by omega) d' hd')
theorem RP.used {l:List cK} {e:Ex} {u:List cK} (h:RP l e u []):Used l e u :=
 ⟨h.defs,h.names,fun s hs d hd=>by
   rcases h.top with h1|h1;· simp at h1
   exact h1 s hs d hd,
 fun c hc s hs d hd=>by
   rcases h.closed c hc with h1|h1;· simp at h1
   exact h1 s hs d hd⟩
theorem Ow {l:List cK} {e:Ex} {u:List cK} (h1:∀c∈u,c.kind=1/\∃d,dz l c.name=some d/\c.cond=(l.getD d fC).cond/\Reach l e d) (h2:(ye u).Nodup):u.length<=l.length:=by
 have key:=vS (u.map fun c=>(dz l c.name).getD 0) (List.range l.length) ?_ ?_
 ·simpa using key
 ·rw[List.Nodup,List.pairwise_map];rw[List.Nodup,ye,List.pairwise_map] at h2;refine h2.imp_of_mem fun {a b} ha hb hne he=>?_
  obtain⟨_,d,g2,_⟩:=h1 a ha;obtain⟨_,d',g3,_⟩:=h1 b hb;rw[g2,g3] at he;simp only[Option.getD_some] at he;subst he;exact hne ((tP g2).1.symm.trans (tP g3).1)
 intro x hx;obtain⟨c,hc,rfl⟩:=List.mem_map.1 hx;obtain⟨_,d,g2,_⟩:=h1 c hc;rw[g2];exact a43.2 (ot g2)
structure RcS (w:World) (bs:Nat) (lv xv:Value) (u:List cK) (vs:List fM) (xs:List Ex) (evs:List dK) (wr:World):Prop where
 ext:Ext w wr
 OV:vG w u vs
 own:wr.ownsRow w.heap.size 48 10 lv u.length (vs.flatMap fM.cells)
 ex:ug w xs evs
 aek:wr.ownsRow w.heap.size 45 6 xv xs.length (evs.flatMap dK.cells)
 seen:ig wr 9 bs u.length (kV (Fb fun s=>s∈ye u))
 bsn:w.heap.size<=bs
 d1:∀g,lv.ownBlock=some g->g≠bs
 d2:∀g,xv.ownBlock=some g->g≠bs
 d3:∀g,lv.ownBlock=some g->xv.ownBlock≠some g
theorem RcS.Ot {w:World} {bs:Nat} {lv xv:Value} {u:List cK} {vs:List fM} {xs:List Ex} {evs:List dK} {wr wr':World} (h:RcS w bs lv xv u vs xs evs wr) (hx:Ext wr wr'):RcS w bs lv xv u vs xs evs wr' :=
 {h with ext:=h.ext.trans hx,own:=cO h.own (hx.cR []) (by simp),aek:=cO h.aek (hx.cR []) (by simp),seen:=h.seen.ext hx }
theorem azE {xs:List dK} {x:dK}:((xs++[x]).flatMap dK.cells).take (xs.length*6)=xs.flatMap dK.cells:=by
 rw[List.flatMap_append,List.take_left'];clear x;induction xs with
 | nil=>rfl
 | cons y r ih=>simp only[List.flatMap_cons,bg,oT,ih,List.length_cons];omega
theorem ayH {w:World} {base:Nat} {g n cap:Nat} {xs:List dK} {x:dK} (hn:n=xs.length) (h:w.ownsRow base 45 6 (.slice (some ⟨g,0,none⟩) (n+1) cap) (n+1) ((xs++[x]).flatMap dK.cells)) :
  w.ownsRow base 45 6 (.slice (some ⟨g,0,none⟩) n cap) n (xs.flatMap dK.cells):=by
 obtain⟨h1,h2⟩:=h;have hl:(xs.flatMap dK.cells).length=n*6:=by
  subst hn;clear h1 h2 x;induction xs with
  | nil=>rfl
  | cons y r ih=>simp only[List.flatMap_cons,bg,oT,ih,List.length_cons];omega
 refine⟨hl,a4Z ?_⟩;rcases h2 with ⟨h3,_⟩|⟨g',cap',cur,h3,h4,h5,h6,h7,h8,h9⟩
 ·simp at h3
 simp only[a45,a42,Addr.mk.injEq,and_true,true_and] at h3;obtain⟨rfl,rfl⟩:=h3;refine⟨g,cap,cur,rfl,h4,h5,by omega,h7,h8,?_⟩;have e1:cur.toList.take (n*6)=(cur.toList.take ((n+1)*6)).take (n*6):=by rw[List.take_take];congr 1;omega
 rw[e1,h9,hn,azE]
theorem ayG {w:World} {base:Nat} {n:Nat} {v:Value} {xs:List dK} {x:dK} (hn:n=xs.length) (h:w.ownsRow base 45 6 v (n+1) ((xs++[x]).flatMap dK.cells)) :
  ∃g cap,v=.slice (some ⟨g,0,none⟩) (n+1) cap/\w.cell? ⟨g,n*6,none⟩=some (.int .i64 x.op)/\w.cell? ⟨g,n*6+1,none⟩=some (.string x.name)/\w.cell? ⟨g,n*6+2,none⟩=some (.slice x.aw x.nw x.cw)/\w.cell? ⟨g,n*6+3,none⟩=some (.int .i64 x.lo)/\w.cell? ⟨g,n*6+4,none⟩=some (.int .i64 x.hi)/\w.cell? ⟨g,n*6+5,none⟩=some (.slice x.aa x.na x.ca):=by
 subst hn;have e0:xs.length+1=(xs++[x]).length:=by simp
 rw[e0] at h;obtain⟨a,c,rfl,hr⟩:=eE.iZ oT h;obtain⟨b,off,rfl,hc⟩:=hr.2.2.2 xs.length (by simp);have ha:off=0:=by
  obtain⟨_,h2⟩:=h;rcases h2 with ⟨h3,_⟩|⟨g',cap',cur,h3,_⟩
  ·simp at h3
  simp only[a45,a42,Addr.mk.injEq,and_true] at h3;exact h3.1.2
 subst ha;have key:∀j (hj:j<6),w.cell? ⟨b,xs.length*6+j,none⟩=some (x.cells[j]'(by rw[oT];exact hj)):=fun j hj=>by
  have:=hc j (by rw[oT];exact hj);simpa using this
 refine⟨b,c,by simp,?_,?_,?_,?_,?_,?_⟩
 ·exact key 0 (by omega)
 ·exact key 1 (by omega)
 ·exact key 2 (by omega)
 ·exact key 3 (by omega)
 ·exact key 4 (by omega)
 exact key 5 (by omega)
theorem aqj {w:World} {base:Nat} {e:TypeId} {size g n cap:Nat} {xs:List Value} (h:w.ownsRow base e size (.slice (some ⟨g,0,none⟩) n cap) n xs):base<=g/\n<=cap/\g<w.heap.size/\cap<=maxLen:=by
 obtain⟨_,h2⟩:=h;rcases h2 with ⟨h3,_⟩|⟨g',cap',cur,h3,h4,h5,h6,h7,_⟩
 ·simp at h3
 simp only[a45,a42,Addr.mk.injEq,and_true,true_and] at h3;obtain⟨rfl,rfl⟩:=h3;exact⟨h4,h6,bS h5,h7⟩
theorem RcS.step {w W w3 w8 w9:World} {bs:Nat} {lv xv lv' xv':Value} {u:List cK} {vs:List fM} {xs:List Ex} {evs:List dK} (h:RcS w bs lv xv u vs xs evs W) {c:cK} {cv:fM} (hcv:ij w c cv) {x:Ex} {ev:dK} (hev:dw w x ev.val) {F:Lit->Option Value}
  (hm:ig w3 9 bs (u.length+1) F) (hF:∀y,F y=kV (Fb fun s=>s∈ye (u++[c])) y) (hc3:ct [bs] W w3)
  (ho8:w8.ownsRow w.heap.size 48 10 lv' (u.length+1) (vs.flatMap fM.cells++cv.cells)) (iI:ct (rowOf lv) w3 w8) (gX:∀k,lv'.ownBlock=some k->lv.ownBlock=some k\/w3.heap.size<=k)
  (ho9:w9.ownsRow w.heap.size 45 6 xv' (xs.length+1) (evs.flatMap dK.cells++ev.cells)) (vH:ct (rowOf xv) w8 w9) (uj:∀k,xv'.ownBlock=some k->xv.ownBlock=some k\/w8.heap.size<=k) :
  RcS w bs lv' xv' (u++[c]) (vs++[cv]) (xs++[x]) (evs++[ev]) w9:=by
 have s3:=hc3.size;have s8:=iI.size;have hbl:=hm.lt;have xlt:∀q,xv.ownBlock=some q->q<W.heap.size:=fun q hq=>(h.aek.lt q hq).2
 have llt:∀q,lv.ownBlock=some q->q<W.heap.size:=fun q hq=>(h.own.lt q hq).2
 exact {
  ext:=vH.ext (iI.ext (hc3.ext h.ext (by simpa using h.bsn)) fun q hq=>(h.own.lt q (bV.1 hq)).1) fun q hq=>(h.aek.lt q (bV.1 hq)).1
  OV:=h.OV.snoc hcv
  own:=by
   have:=cO ho8 vH fun q hq hm=>by
    have h2:=bV.1 hm;rcases gX q hq with h1|h1
    ·exact h.d3 q h1 h2
    have:=xlt q h2;omega
   simpa using this
  ex:=h.ex.snoc hev
  aek:=by simpa using ho9
  seen:=by
   have:=((hm.cR iI fun hm=>h.d1 bs (bV.1 hm) rfl).cR vH fun hm=>h.d2 bs (bV.1 hm) rfl).congr hF;simpa using this
  bsn:=h.bsn
  d1:=fun q hq e=>by
   rcases gX q hq with h1|h1
   ·exact h.d1 q h1 e
   omega
  d2:=fun q hq e=>by
   rcases uj q hq with h1|h1
   ·exact h.d2 q h1 e
   omega
  d3:=fun q hq hq2=>by
   have h8:=(ho8.lt q hq).2;rcases uj q hq2 with h2|h2
   ·rcases gX q hq with h1|h1
    ·exact h.d3 q h1 h2
    have:=xlt q h2;omega
   omega }
theorem aCt (w:World) (arr:Array Value) (e:TypeId) {size n base:Nat} (hs:arr.size=n*size) (hn:n<=maxLen) (hb:base<=w.heap.size):(w.alloc (.cells arr e)).ownsRow base e size (.slice (some ⟨w.heap.size,0,none⟩) n n) n arr.toList :=
 ⟨by simpa using hs,a4Z ⟨w.heap.size,n,arr,rfl,hb,bR w _,aU _,hn,hs,by rw[aS (by simp;omega)]⟩⟩
theorem YM (w:World):(zeroValue 176).run Tryz.prog w=.ok (.agg #[]) w:=by kernel_rfl
def aE6 (l:List cK) (e:Ex) (w:World) (r:Ending) (w':World):Prop:=∃u a n c,r=.returned (.slice a n c)/\cZ w' u a n c/\Used l e u/\Ext w w'
def RL1 (w:World) (l:List cK) (e:Ex) (bs m:Nat) (lv xv:Value) (wr:World):Prop:=∃u vs xs evs,m=2*(l.length - u.length)+xs.length/\RcS w bs lv xv u vs xs evs wr/\RP l e u xs
def RL2 (w:World) (l:List cK) (e x:Ex) (ns:ZB) (na:OA) (nc bs m:Nat) (lv xv i:Value) (wr:World):Prop:=∃u vs xs evs j,i=.int .i64 (j:Nat)/\j<=ns.length/\2*(l.length - u.length)+xs.length<=m/\RcS w bs lv xv u vs xs evs wr/\RPi l e u xs x ns j/\fS wr ns na ns.length nc/\(∀b off,na=some ⟨b,off,none⟩->b≠bs/\some b≠lv.ownBlock/\some b≠xv.ownBlock)
theorem aD1 {w:World} {xs:List Ex} {evs:List dK} (h:ug w xs evs) (hne:xs≠[]):∃xs' x ans v,xs=xs'++[x]/\evs=ans++[v]/\ug w xs' ans/\dw w x v.val:=by
 obtain⟨xs',x,rfl⟩:∃r i,xs=r++[i]:=⟨xs.dropLast,xs.getLast hne,(List.dropLast_concat_getLast hne).symm⟩
 have aq2:evs≠[]:=by intro e0;have:=h.1;rw[e0] at this;simp at this
 obtain⟨ans,v,rfl⟩:∃r i,evs=r++[i]:=⟨evs.dropLast,evs.getLast aq2,(List.dropLast_concat_getLast aq2).symm⟩
 have hl:xs'.length=ans.length:=by have:=h.1;simpa using this
 refine⟨xs',x,ans,v,rfl,rfl,⟨hl,fun i h1 h2=>?_⟩,?_⟩
 ·have:=h.2 i (by simp;omega) (by simp;omega)
  rwa [bD h1,bD h2] at this
 have:=h.2 xs'.length (by simp) (by simp;omega);rw[bK (aU _)] at this;simpa[hl] using this
theorem Cf (w:World):Sub w (mask w []):=fun p v h=>by rw[eA,bL (by simp)];exact h
theorem aIy {l u:List cK} {e:Ex} (h1:∀c∈u,c.kind=1/\∃d,dz l c.name=some d/\c.cond=(l.getD d fC).cond/\Reach l e d) (hsz:∀x∈l,x.cond.size<=100000/\x.cond.fits) {c:cK} (hc:c∈u):c.cond.size<=100000/\c.cond.fits:=by
 obtain⟨_,d,hd,h2,_⟩:=h1 c hc;rw[h2,fJ (ot hd)];exact hsz _ (aD _)
theorem aiF (l:List cK) (e:Ex) (ev:Value) (b n:Nat) (w:World) (hd:xS w l b n) (he:dw w e ev) (hes:e.size<=100000/\e.fits) (hl:l.length<=100000) (hsz:∀x∈l,x.cond.size<=100000/\x.cond.fits) :
  Calls Tryz.prog 173 #[.map (some b),ev] w (aE6 l e w):=by
 obtain⟨g,hmp,hdg⟩:=hd;obtain⟨aw,nw,cw,aa,na,ca,rfl,-⟩:=he.parts;have En:=ai hmp;have HDG:=ai hdg;have HE:=ai he;have tR:=ai hsz;have HES:=ai hes;clear hmp hdg he hsz hes;unfold fN;have hmm:=@run_makeMap Tryz.prog;obtain⟨wa,cN⟩:∃wa,wa=w.alloc (.cells #[ e.op,.string e.name,.slice aw nw cw,e.lo,e.hi,.slice aa na ca] 45):=⟨_,rfl⟩
 have gB:Ext w wa:=by rw[cN];exact(Tz _).alloc _
 have hb1:wa.heap[w.heap.size]?=some (.cells #[ e.op,.string e.name,.slice aw nw cw,e.lo,e.hi,.slice aa na ca] 45 (0,0)):=by rw[cN];exact bR w _
 have hsa:wa.heap.size=w.heap.size+1:=by rw[cN];simp
 have dm:=ai gB;have HSA:=ai hsa;clear hsa;go_enter Tryz.func173,Tryz.ntmps173
 go_upto_region 1 with fail;rw[<-cN];clear cN;obtain⟨bs,CR⟩:∃bs,bs=wa.heap.size:=⟨_,rfl⟩
 have Uj:=ai (ig.made wa 9);rw[<-CR] at Uj;have wH:=ai CR;go_upto_region 3 with fail;rw[<-CR];clear CR;obtain⟨wb,iV⟩:∃wb,wb=wa.alloc (.map #[] 0):=⟨_,rfl⟩
 have jK:=ai (show Ext wa wb by rw[iV];exact(Tz _).alloc _);obtain⟨f0,f1,f2,f3,f4,f5,ff⟩:=cX (jK.o.blk hb1);rw[<-iV] at Uj ⊢;have hsb:wb.heap.size=w.heap.size+2:=by rw[iV];simp;have:=HSA.o;omega
 have Yn:=ai hsb;clear iV hb1 hsb;go_wp2_with fail;have CA:=ai (show RcS w bs (.slice none 0 0) (.slice (some ⟨wb.heap.size,0,none⟩) 1 1) [] [] [e] [⟨e.op,e.name,aw,nw,cw,e.lo,e.hi,aa,na,ca⟩] (wb.alloc (.cells #[ e.op,.string e.name,.slice aw nw cw,e.lo,e.hi,.slice aa na ca] 45)) from
  {ext:=(dm.o.trans jK.o).alloc _
   OV:=⟨rfl,fun i h=>by simp at h⟩
   own:=a4' _ _ _ _
   ex:=⟨rfl,fun i h1 h2=>by
     obtain rfl:i=0:=by simp at h1;exact h1
     exact HE.o⟩
   aek:=aCt wb _ _ (n:=1) (by simp) (by unfold maxLen;omega) (by have:=Yn.o;omega)
   seen:=(Uj.o.ext ((Tz _).alloc _)).congr fun x=>by cases x<;>simp[kV,Fb,ye]
   bsn:=by have:=wH.o;have:=HSA.o;omega
   d1:=by simp[Value.ownBlock]
   d2:=by simp[Value.ownBlock];have:=wH.o;have:=HSA.o;have:=Yn.o;omega
   d3:=by simp[Value.ownBlock] })
 clear f0 f1 f2 f3 f4 f5 ff Uj jK dm
 go_loopg [5,7] (2*l.length+1) (RL1 w l e bs)
 case atStart=>exact⟨[],[],[e],_,rfl,CA.o,RP.start l e⟩
 case round =>
  obtain⟨u,vs,xs,evs,hm,sq,hrp⟩:=hrel;obtain⟨wo,rfl⟩:∃wo:World,wo=wr:=⟨_,rfl⟩
  clear CA;have HM:=ai hm;have HR:=ai sq;have HP:=ai hrp;have hul:=Ow hrp.defs hrp.names;obtain⟨la,lc,hlv⟩:=lF sq.own;subst hlv;clear hm;by_cases hne:xs=[]
  ·subst hne;obtain⟨xa,xc,qV⟩:=lF sq.aek;subst qV;obtain⟨a',c',hv,hcl⟩:=yJ (M:=[]) sq.own (by simp) (sq.OV.mono (sq.ext.sub.trans (Cf _)));have qC:=ai hcl;have HV:=ai hv;clear sq hrp hv hcl;go_wp2_with fail;go_ret;rw[HV.o];exact⟨u,a',_,c',rfl,qC.o.mono (cC _ _),HP.o.used,HR.o.ext⟩
  obtain⟨xs',x,ans,v,rfl,rfl,hx1,hx2⟩:=aD1 sq.ex hne;obtain⟨n',hn'⟩:∃n',n'=xs'.length:=⟨_,rfl⟩
  have hl':n'=ans.length:=by rw[hn'];exact hx1.1
  have hxo:=sq.aek;have e0:(xs'++[x]).length=n'+1:=by simp[hn']
  rw[e0] at hxo;obtain⟨g2,cap,rfl,c0,c1,c2,c3,c4,c5⟩:=ayG hl' hxo;have hsx:x.size<=100000/\x.fits:=by
   rcases hrp.stack x (by simp) with rfl|⟨c,hc,rfl⟩
   ·exact HES.o
   exact aIy hrp.defs tR.o hc
  have dN:=ai (hx2.ext sq.ext);have Jm:=ai hsx;have tY:=ai hn';have HL':=ai hl';obtain⟨hg2,hcap,hgw,-⟩:=aqj hxo;have HRI:=ai (show RcS w bs (.slice la u.length lc) (.slice (some ⟨g2,0,none⟩) n' cap) u vs xs' ans wo from { sq with ex:=hx1,aek:=(by rw[<-hn'];exact ayH hl' hxo),d2:=(fun g hg=>sq.d2 g (by simpa[Value.ownBlock] using hg)),d3:=fun g hg hg2=>sq.d3 g hg (by simpa[Value.ownBlock] using hg2) });have Rp:=ai (hrp.pop (jB (fX x)));have hnn:n'<=u.length:=by have:=hrp.SH;simp at this;omega
  clear sq hrp hx1 hx2 hsx hn' hl' hxo e0 hne;have e1:(((n'+1:Nat):Int) - 1)=(n':Int):=by omega
  have t1:=ag ((0:Int)<((n'+1:Nat):Int));go_wp2_with fail;refine(BD x _ wo (by have:=Jm.o.1;omega) Jm.o.2 dN.o).mono ?_;obtain⟨ns,zP⟩:∃ns,ns=jB (fX x):=⟨_,rfl⟩
  have AQ:=ai (show ∀s,s∈ns ↔ s∈fX x by intro s;rw[zP,sx]);rw[<-zP] at Rp ⊢;have G7:=ai (show ∀s∈ns,s.size<=1000000000000000 from fun s hs=>UI x Jm.o.2 s ((AQ.o s).1 hs));have hnl:ns.length<=100000:=by rw[zP];exact aV (FY _) (aV (zM _) Jm.o.1)
  clear zP;rintro r w5 ⟨sa,sc,rfl,hst,dh,hfr⟩;have HST:=ai hst;have qL:=HRI.o.seen.lt;have HFR:=ai (show ∀b off,sa=some ⟨b,off,none⟩->b≠bs/\some b≠(Value.slice la u.length lc).ownBlock/\some b≠(Value.slice (some ⟨g2,0,none⟩) n' cap).ownBlock from fun b' off' e'=>by
   have h1:=hfr b' off' e';refine⟨by omega,fun e2=>?_,fun e2=>?_⟩
   ·have:=(HRI.o.own.lt b' e2.symm).2;omega
   simp[Value.ownBlock] at e2;omega)
  have CU:=ai (HRI.o.Ot dh);clear hst dh hfr HRI c0 c1 c2 c3 c4 c5 dN Jm;go_wp2_with fail;go_loopw [5,7,35] (RL2 w l e x ns sa sc bs (2*(l.length - u.length)+n')) (fun _ _ i _=>ns.length - (intOf i).toNat)
  case atStart=>exact⟨u,vs,xs',ans,0,rfl,by omega,by have:=tY.o;omega,CU.o,Rp.o,HST.o,HFR.o⟩
  case round =>
   obtain⟨u2,vs2,xs2,ev2,j,rfl,hj,hm2,hr2,hp2,aC',hfr2⟩:=hrel;obtain⟨la2,lc2,aL2⟩:=lF hr2.own;subst aL2;obtain⟨xa2,xc2,aV5⟩:=lF hr2.aek;subst aV5;have jI:=ai hr2;have oZ:=ai hp2;have oB:=ai aC';have Ez:=ai hfr2;have RX:=ai hm2;have hu2:=Ow hp2.defs hp2.names;have a2C:=hp2.SH;clear hr2 hp2 aC' hfr2 hm2 CU Rp HST HFR;by_cases hjl:j<ns.length
   ·have tj:=ag ((j:Int)<(ns.length:Int));obtain⟨bn,ayN,rfl,cn0⟩:=oB.o.2.2.2 j hjl;have uM:=G7.o _ (aD hjl);have mJ:=ai jI.o.ext;by_cases hmem:ns[j]∈ye u2
    ·have K8:=ai (show kV (Fb fun s=>s∈ye u2) (.string ns[j].data.toList)=some (.agg #[]) by rw[oQ];simp[Fb,hmem]);have Na:=ai (oZ.o.skip hjl (a4Z hmem));cases hda:dz l ns[j] with
     | none =>
      have HF:=ai (show kV g (.string ns[j].data.toList)=none by rw[oQ];exact(HDG.o _).1 hda);clear hda hmem;go_wp2_with (first
       | (at_lookup;refine gO _ rfl _ _ 131 rfl 9 45 gU EW (JH _) b n _ rfl (En.o.ext mJ.o) _ _ rfl (lB uM) trivial ?_;rw[HF.o])
       | (at_lookup;refine gO _ rfl _ _ 174 rfl 9 176 gU ail (YM _) bs u2.length _ rfl (jI.o.seen.ext ((Tz wr).alloc _)) _ _ rfl (lB uM) trivial ?_;rw[K8.o]))
      go_roundw
      case rel=>exact⟨u2,vs2,xs2,ev2,j+1,by go_num,by omega,RX.o,jI.o.Ot (((Tz wr).alloc _).alloc _),Na.o,oB.o.ext (((Tz wr).alloc _).alloc _),Ez.o⟩
      case measure=>simp[intOf];omega
     | some d =>
      obtain⟨uv,hu,hux⟩:=(HDG.o ns[j]).2 d hda;obtain⟨aw2,nw2,cw2,aa2,na2,ca2,rfl,-,-,-,-,-⟩:=hux.parts;have HF:=ai (show kV g (.string ns[j].data.toList)=some _ by rw[oQ];exact hu);unfold fN at HF;clear hda hmem hu hux;go_wp2_with (first
       | (at_lookup;refine gO _ rfl _ _ 131 rfl 9 45 gU EW (JH _) b n _ rfl (En.o.ext mJ.o) _ _ rfl (lB uM) trivial ?_;rw[HF.o])
       | (at_lookup;refine gO _ rfl _ _ 174 rfl 9 176 gU ail (YM _) bs u2.length _ rfl (jI.o.seen.ext ((Tz wr).alloc _)) _ _ rfl (lB uM) trivial ?_;rw[K8.o]))
      go_roundw
      case rel=>exact⟨u2,vs2,xs2,ev2,j+1,by go_num,by omega,RX.o,jI.o.Ot (((Tz wr).alloc _).alloc _),Na.o,oB.o.ext (((Tz wr).alloc _).alloc _),Ez.o⟩
      case measure=>simp[intOf];omega
    have K8:=ai (show kV (Fb fun s=>s∈ye u2) (.string ns[j].data.toList)=none by rw[oQ];simp[Fb,hmem]);cases hda:dz l ns[j] with
    | none =>
     have Na:=ai (oZ.o.skip hjl (aoX hda));have HF:=ai (show kV g (.string ns[j].data.toList)=none by rw[oQ];exact(HDG.o _).1 hda);clear hda hmem;go_wp2_with (first
      | (at_lookup;refine gO _ rfl _ _ 131 rfl 9 45 gU EW (JH _) b n _ rfl (En.o.ext mJ.o) _ _ rfl (lB uM) trivial ?_;rw[HF.o])
      | (at_lookup;refine gO _ rfl _ _ 174 rfl 9 176 gU ail (YM _) bs u2.length _ rfl (jI.o.seen.ext ((Tz wr).alloc _)) _ _ rfl (lB uM) trivial ?_;rw[K8.o]))
     go_roundw
     case rel=>exact⟨u2,vs2,xs2,ev2,j+1,by go_num,by omega,RX.o,jI.o.Ot (((Tz wr).alloc _).alloc _),Na.o,oB.o.ext (((Tz wr).alloc _).alloc _),Ez.o⟩
     case measure=>simp[intOf];omega
    | some d =>
     obtain⟨uv,hu,hux⟩:=(HDG.o ns[j]).2 d hda;have aLG:=hux;obtain⟨aw2,nw2,cw2,aa2,na2,ca2,rfl,-,-,-,-,-⟩:=hux.parts;have HF:=ai (show kV g (.string ns[j].data.toList)=some _ by rw[oQ];exact hu);obtain⟨xe,hxe⟩:∃xe,xe=(l.getD d fC).cond:=⟨_,rfl⟩
     rw[<-hxe] at HF aLG;have HST:=ai (oZ.o.step hjl AQ.o hda hmem (c:=⟨1,ns[j],xe,[],0⟩) rfl rfl hxe);have HUX:=ai aLG;unfold fN at HF;clear hda hmem hu hux aLG hxe;go_wp2_with (first
      | (at_lookup;refine gO _ rfl _ _ 131 rfl 9 45 gU EW (JH _) b n _ rfl (En.o.ext mJ.o) _ _ rfl (lB uM) trivial ?_;rw[HF.o])
      | (at_lookup;refine gO _ rfl _ _ 174 rfl 9 176 gU ail (YM _) bs u2.length _ rfl (jI.o.seen.ext ((Tz wr).alloc _)) _ _ rfl (lB uM) trivial ?_;rw[K8.o])
      | (at_mapUpdate;refine lR _ rfl _ _ _ 174 rfl 9 176 gU ail bs u2.length _ rfl (jI.o.seen.ext (((Tz wr).alloc _).alloc _)) ?c3 _ _ _ rfl rfl (lB uM) trivial ?_))
     case c3=>unfold maxLen;omega
     intro w3 hm3 hc3;have j6:=hc3.blk (((Tz _).alloc _).blk (bR wr (.cells #[ xe.op,.string xe.name,.slice aw2 nw2 cw2,xe.lo,xe.hi,.slice aa2 na2 ca2] 45))) (by have:=jI.o.seen.lt;simp;omega);have jm:=ai j6;obtain⟨f0,f1,f2,f3,f4,f5,ff⟩:=cX j6;have HW3:=ai hc3;have HM3:=ai hm3;have yM:=ai (jI.o.Ot (((Tz wr).alloc (.cells #[ xe.op,.string xe.name,.slice aw2 nw2 cw2,xe.lo,xe.hi,.slice aa2 na2 ca2] 45)).alloc (.cells #[] 176)));have vF:=ai (cO yM.o.own hc3 fun q hq hm=>by simp only[aG] at hm;exact yM.o.d1 q hq hm);have h3s:=hc3.size;have aXf:wr.heap.size<=w3.heap.size:=aV (((Tz wr).alloc _).alloc _).size hc3.size;have hww:=yM.o.ext.size;clear hm3 hc3 HF K8 j6;go_wp2_with (at_builtin;refine dA nr rfl _ _ rfl w.heap.size _ u2.length _ rfl vF.o _ 1 1 rfl ?f0 rfl ?f1 ?f2 ?f3 ?f4 ?_)
     case f0=>simp
     case f1=>simp[Value.oneCell']
     case f2=>unfold maxLen;omega
     case f3=>omega
     case f4=>omega
     intro v8 w8 dY iI gX;obtain⟨a8,c8,Iv⟩:=lF dY;subst Iv;obtain⟨f0,f1,f2,f3,f4,f5,ff⟩:=cX (iI.blk jm.o fun hm=>by have:=(jI.o.own.lt _ (bV.1 hm)).2;omega);have nB:=ai (cO (cO yM.o.aek HW3.o fun q hq hm=>by simp only[aG] at hm;exact yM.o.d2 q hq hm) iI fun q hq hm=>yM.o.d3 q (bV.1 hm) hq);have zo:=ai dY;have CM:=ai iI;have HW8:=ai gX;have h8s:=iI.size;clear dY iI gX;go_wp2_with (at_builtin;refine dA DM rfl _ _ rfl w.heap.size _ xs2.length _ rfl nB.o _ 1 1 rfl ?g0 rfl ?g1 ?g2 ?g3 ?g4 ?_)
     case g0=>simp
     case g1=>simp[Value.oneCell']
     case g2=>unfold maxLen;omega
     case g3=>omega
     case g4=>omega
     intro v9 w9 Bo vH uj;obtain⟨a9,c9,hv9⟩:=lF Bo;subst hv9;have HR9:=ai (yM.o.step (c:=⟨1,ns[j],xe,[],0⟩) (cv:=⟨1,ns[j],⟨xe.op,xe.name,aw2,nw2,cw2,xe.lo,xe.hi,aa2,na2,ca2⟩,none,0,0,0⟩) ⟨rfl,rfl,HUX.o,rfl,aU _,aoX ⟨rfl,rfl⟩,by simp only;unfold gK;trivial,rfl⟩ (x:=xe) (ev:=⟨xe.op,xe.name,aw2,nw2,cw2,xe.lo,xe.hi,aa2,na2,ca2⟩) HUX.o HM3.o (fun y=>by
      rw[akt]
      congr 2
      funext z
      rw[Kg];simp[or_comm]) HW3.o zo.o CM.o HW8.o Bo vH uj)
     have AM:=ai ((((oB.o.ext (((Tz wr).alloc _).alloc _)).cR HW3.o (fun b' off' e' hm=>(Ez.o b' off' e').1 (by simpa using hm))).cR CM.o (fun b' off' e' hm=>(Ez.o b' off' e').2.1 (bV.1 hm).symm)).cR vH (fun b' off' e' hm=>(Ez.o b' off' e').2.2 (bV.1 hm).symm));have HF9:=ai (show ∀b off,some (⟨bn,ayN,none⟩:Addr)=some ⟨b,off,none⟩->b≠bs/\some b≠(Value.slice a8 (u2.length+1) c8).ownBlock/\some b≠(Value.slice a9 (xs2.length+1) c9).ownBlock from fun b' off' e'=>by
      obtain⟨q1,q2,q3⟩:=Ez.o b' off' e';have hbl:b'<wr.heap.size:=by
       simp only[a42,Addr.mk.injEq,and_true] at e';have:=eB cn0;simp only at this;omega
      refine⟨q1,fun e2=>?_,fun e2=>?_⟩
      ·rcases HW8.o b' e2.symm with h|h
       ·exact q2 h.symm
       omega
      rcases uj b' e2.symm with h|h
      ·exact q3 h.symm
      omega)
     clear Bo vH uj f0 f1 f2 f3 f4 f5 ff cn0;go_wp2_with fail;go_roundw
     case rel =>
      have hmm:2*(l.length - (u2++[(⟨1,ns[j],xe,[],0⟩:cK)]).length)+(xs2++[xe]).length<=2*(l.length - u.length)+n':=by
       have h1:=RX.o;have h2:=Ow HST.o.defs HST.o.names;simp only[bg,List.length_singleton] at h2 ⊢;omega
      exact⟨u2++[⟨1,ns[j],xe,[],0⟩],_,xs2++[xe],_,j+1,by go_num,by omega,hmm,HR9.o,HST.o,AM.o,HF9.o⟩
     case measure=>simp[intOf];omega
   have tj:=ah ((j:Int)<(ns.length:Int));have HPE:=ai (oZ.o.end (by omega) AQ.o);go_wp2_with fail
   go_roundg (2*(l.length - u2.length)+xs2.length)
   case rel=>exact⟨u2,vs2,xs2,ev2,rfl,jI.o,HPE.o⟩
   case measure=>have h1:=HM.o;have h2:=RX.o;have h3:=tY.o;simp at h1;omega
theorem BM (l:List cK) (a:OA) (n c:Nat) (e:Ex) (ev:Value) (w:World) (hl:cZ w l a n c) (he:dw w e ev) (hes:e.size<=100000/\e.fits/\qT e=true) (hn:n<=1000) (hsz:∀x∈l,x.name.size<=1000000000000000/\x.cond.size<=100000/\x.cond.fits/\qT x.cond=true) :
  Calls Tryz.prog 146 #[.slice a n c,ev] w (cz (.int .i64 (dV l e:Nat)) w):=by
 have vC:=hl.len;obtain⟨aw,nw,cw,aa,na,ca,rfl,-⟩:=he.parts;have HL:=ai hl;have HE:=ai he;have HES:=ai hes;have tR:=ai hsz;have tY:=ai vC;have HR:=ai (show ∀b m W,xS W l b m->Ext w W->Calls Tryz.prog 173 #[.map (some b),fN e.op e.name aw nw cw e.lo e.hi aa na ca] W (aE6 l e W) from fun b m W hd hx=>aiF l e _ b m W hd (he.ext hx) ⟨hes.1,hes.2.1⟩ (by omega) fun x hx=>⟨(hsz x hx).2.1,(hsz x hx).2.2.1⟩);clear hl he hes hsz vC;unfold fN at HR;unfold fN;obtain⟨wa,cN⟩:∃wa,wa=w.alloc (.cells #[ e.op,.string e.name,.slice aw nw cw,e.lo,e.hi,.slice aa na ca] 45):=⟨_,rfl⟩
 have gB:Ext w wa:=by rw[cN];exact(Tz _).alloc _
 have hb1:wa.heap[w.heap.size]?=some (.cells #[ e.op,.string e.name,.slice aw nw cw,e.lo,e.hi,.slice aa na ca] 45 (0,0)):=by rw[cN];exact bR w _
 have dm:=ai gB;have gG:=ai hb1;clear gB;go_enter Tryz.func146,Tryz.ntmps146
 go_upto_region 1 with fail;rw[<-cN];clear cN;obtain⟨f0,f1,f2,f3,f4,f5,ff⟩:=cX hb1;clear hb1;have HD:=ai (fun (W:World) (hW:Ext wa W)=>DT l a n c W (HL.o.ext (dm.o.trans hW)) (by omega) fun x hx=>(tR.o x hx).1);obtain⟨Z0,Z1,Z2,Z3,Z4,Z5⟩:=wcn6 f0 f1 f2 f3 f4 f5;refine kT 5 ?_
 repeat (refine bZ ?_;intro Ka cH;go_big_quiet_op;go_big_quiet_on)
 refine dP (γ:=Nat) (fun x=>.map (some x)) (fun x W=>xS W l x n) (fun W hW h _=>?_) (fun x _ _ hx h=>h.ext hx) ?_ ⟨0⟩
 ·unfold bQ;go_simp;refine(HD.o W hW).mono ?_;rintro r w5 ⟨bd,rfl,oW,dh⟩;exact⟨_,rfl,dh,bd,rfl,oW⟩
 intro bm Ka cH;go_simp;go_big_quiet_on
 repeat (refine bZ ?_;intro Ka cH;go_big_quiet_op;go_big_quiet_on)
 refine dP (γ:=List cK×OA×Nat×Nat) (fun x=>.slice x.2.1 x.2.2.1 x.2.2.2) (fun x W=>cZ W x.1 x.2.1 x.2.2.1 x.2.2.2/\Used l e x.1) (fun W hW h _=>?_) (fun x _ _ hx h=>⟨h.1.ext hx,h.2⟩) ?_ ⟨([],none,0,0)⟩
 ·unfold bQ;go_simp;refine(HR.o _ n W h (dm.o.trans hW)).mono ?_;rintro r w5 ⟨us,ua,un,uc,rfl,hc5,hu5,dh⟩;exact⟨_,rfl,dh,(us,ua,un,uc),rfl,hc5,hu5⟩
 rintro⟨us,ua,un,uc⟩ Ka cH;go_simp;go_big_quiet_on
 repeat (refine bZ ?_;intro Ka cH;go_big_quiet_op;go_big_quiet_on)
 refine gC fun W hW2 hs4 _=>?_
 have oY:=ai (show cZ W us ua un uc/\Used l e us from hs4);clear hs4;clear Z0 Z1 Z2 Z3 Z4 Z5;obtain⟨w2,hw2⟩:∃w2,w2=W:=⟨_,rfl⟩
 rw[<-hw2] at hW2 oY ⊢;have hle:us.length<=1000:=by have:=oY.o.2.len;have:=tY.o;omega
 have dN:=ai (dm.o.trans hW2);have fY:=ai (hW2.blk gG.o);clear hw2 hW2 f0 f1 f2 f3 f4 f5 ff;have HUS:=ai (oY.o.2);have qC:=ai (oY.o.1);have Nh:=ai oY.o.1.len;have HUZ:=ai (show ∀x∈us,x.name.size<=1000000000000000/\x.cond.size<=100000/\x.cond.fits/\qT x.cond=true by
  intro x hx;obtain⟨_,d,h1,h2,_⟩:=HUS.o.defs x hx;have hd:=ot h1;have:=tR.o _ (aD hd);rw[h2,fJ hd];refine⟨?_,this.2⟩;rw[<-(tP h1).1,fJ hd];exact this.1)
 clear oY;go_wp2_with fail;refine(Gw (us.map cK.cl) ua un uc w2 qC.o.cls (by have:=tY.o;have:=Nh.o;omega) (by
  intro x hx;obtain⟨c',hc',rfl⟩:=List.mem_map.1 hx;have:=HUZ.o c' hc';exact⟨this.2.1,this.2.2.1,this.1⟩)).mono ?_
 rw[show (us.map cK.cl).map Cl.tV=us.map cK.tV by rw[List.map_map];rfl];rintro r w3 ⟨hx3,⟨o,oa,oc,ht,rfl,hoi⟩|⟨o,h1,h2,rfl⟩⟩
 ·have HT:=ai ht;have HOI:=ai hoi;have dS:=ai (dN.o.trans hx3);obtain⟨f0,f1,f2,f3,f4,f5,ff⟩:=cX (hx3.blk fY.o);have aZT:=ai (qC.o.ext hx3);have hol:o.length<=1000:=by have h1:=ht.len;simp at h1;omega
  clear ht hoi hx3;go_upto_region 5 with fail;have HSI:=ai (fun (W:World) (hW:Ext w3 W)=>acy us ua un uc o oa oc W (aZT.o.ext hW) (by have:=tY.o;have:=Nh.o;omega) (HOI.o.mono hW.sub) (by omega) (fun i hi=>by have:=HT.o.lt hi;simpa using this) (fun x hx=>⟨(HUZ.o x hx).1,aV (HUZ.o x hx).2.1 (by omega),(HUZ.o x hx).2.2.1⟩));have Un:=ai (fun (bd:Nat) (W:World) (hW:Ext w3 W) (hm:ig W 9 bd o.length (kV (Tl (qG us o))))=>X3 (qG us o) (abd us o) bd o.length 1000000000000000 e _ W (by have:=HES.o.1;omega) (by omega) HES.o.2.1 hm (HE.o.ext (dS.o.trans hW)));obtain⟨R,hR⟩:∃R,R=szE (qG us o) e:=⟨_,rfl⟩
  have HRR:=ai (hR.trans (HUS.o.good HT.o (fun c hc=>(HUZ.o c hc).2.2.2) HES.o.2.2));rw[<-hR] at Un;clear hR;unfold fN at Un;obtain⟨Z0,Z1,Z2,Z3,Z4,Z5⟩:=wcn6 f0 f1 f2 f3 f4 f5;refine kT 6 ?_
  repeat (refine bZ ?_;intro Ka cH;go_big_quiet_op;go_big_quiet_on)
  refine dP (γ:=Nat) (fun x=>.map (some x)) (fun x W=>ig W 9 x o.length (kV (Tl (qG us o)))) (fun W hW h _=>?_) (fun x _ _ hx h=>h.ext hx) ?_ ⟨0⟩
  ·unfold bQ;go_simp;refine(HSI.o W hW).mono ?_;rintro r w5 ⟨bd,rfl,oW,dh⟩;exact⟨_,rfl,dh,bd,rfl,oW⟩
  intro bm Ka cH;go_simp;go_big_quiet_on
  repeat (refine bZ ?_;intro Ka cH;go_big_quiet_op;go_big_quiet_on)
  refine fZ (.int .i64 R) (fun _=>True) (fun W hW h _=>?_) (fun _ _ _ h=>h) ?_
  ·unfold bQ;go_simp;refine(Un.o _ W hW h).mono ?_;rintro r w5 ⟨rfl,dh⟩;exact⟨_,rfl,dh,rfl,trivial⟩
  intro Ka cH;go_simp;go_big_quiet_on
  repeat (refine bZ ?_;intro Ka cH;go_big_quiet_op;go_big_quiet_on)
  refine gC fun W hW2 _ _=>?_
  go_wp2_with fail;go_ret;exact cD (by rw[HRR.o]) (dS.o.trans hW2)
 have dS:=ai (dN.o.trans hx3);have HRR:=ai (HUS.o.aMQ h1 h2);clear hx3 h1 h2;go_wp2_with fail;go_ret;exact cD (by rw[HRR.o];rfl) dS.o
mutual
theorem acL:(e:Ex)->gq e->qT e=true
 | .mk op name words lo hi args,h=>by
  rw[gq] at h;obtain⟨hn,ha⟩:=h;rw[qT,Zy args ha,Bool.and_true];unfold zK at hn;simp only[Ex.op,Ex.args,Ex.name,Ex.words,Ex.lo,Ex.hi] at hn;by_cases h3:op=3
  ·have:args=[]:=by
    rcases hn with ⟨h,-⟩|⟨h,-⟩|⟨-,-,-,-,-,h⟩|⟨h,-⟩|⟨h,-⟩|⟨h,-⟩|⟨h,-⟩
    ·omega
    ·omega
    ·exact h
    ·omega
    ·omega
    ·omega
    omega
   simp[this]
  simp[h3]
theorem Zy:(l:List Ex)->uK l->Eb l=true
 | [],_=>by rw[Eb]
 | e::r,h=>by
  rw[uK] at h;rw[Eb,acL e h.1,Zy r h.2];rfl
end
theorem Zi {e:Ex} (h:eW e=true):qT e=true:=acL e (afr h)
theorem ahw {l:List cK} {i:Nat} (hi:i<l.length):jQ l i=if (lC l[i]).any (fun x=>decide (2000<dV l x))=true then 4 else 0:=by
 unfold jQ;rw[fJ hi,FC];simp only[lC,List.any_cons,bG,aH]
theorem aEk {s:List Attr} {l:List cK} (h:∀j,j<l.length->jE s l j=0) {i:Nat} (hi:i<l.length) (hk:l[i].kind=1):dz l l[i].name=some i:=by
 have h0:=h i hi;rw[<-ar4 s l hi] at h0;unfold ar5 at h0;have hnone:findAt (l.take i) l[i].name=none:=by
  cases hf:findAt (l.take i) l[i].name with
  | none=>rfl
  | some q =>
   rw[hf] at h0;split at h0
   ·cases h0
   simp at h0
 unfold dz;rw[aJ];refine⟨hi,by simp[hk],fun j hj=>?_⟩;unfold findAt at hnone;rw[bh] at hnone;have:=hnone l[j] (aW.2 ⟨j,by simp;omega,by simp⟩);simp only[bI] at this;simp[this]
def a0V (l:List cK) (n:Nat) (w3:World) (t:Value) (wr:World):Prop:=∃k:Nat,t=.int .i64 ((k:Nat):Int)/\k<=n/\(∀j,j<k->jQ l j=0)/\Ext w3 wr
theorem vY (s:List Attr) (l:List cK) (sv:Value) (a:OA) (n c:Nat) (w:World) (hs:dB w s sv) (hf:∀x∈s,x.fits) (hsl:s.length<=1000000000000000) (hl:cZ w l a n c) (hn:n<=1000000000000000) (hok:∀x∈l,x.fit) (ho:dQ w) :
  Calls Tryz.prog 56 #[sv,.slice a n c] w (cz (T3 (cV s l)) w):=by
 obtain⟨sa,sn,sc,rfl,B6⟩:=hs.slice;have HL:=ai hl;have HN:=ai hl.len;have zm:=ai hok;have hnc:n<=c:=by obtain⟨vs,h1,_⟩:=hl;exact h1.2.1
 have Yl:=ai (fun (W:World) (hW:Ext w W)=>BG s (.agg #[.slice sa sn sc]) W (hs.ext hW) hf hsl);have HCC:=ai (fun (hz:dy s=0) (bm nm:Nat) (ba:OA) (bn bc i:Nat) (hi:i<l.length) (v:fM) (W:World) (hW:Ext w W) (hd:xS W l bm nm) (hb:cZ W (l.take i) ba bn bc) (rO:bn<=1000000000000000) (hc:ij W l[i] v)=>ajm s hz l (l.take i) hf hsl bm nm ba bn bc l[i] v (.agg #[.slice sa sn sc]) W (hok _ (aD hi)) (ho.ext hW) (hs.ext hW) hd hb rO hc);obtain⟨R,hR⟩:∃R,R=cV s l:=⟨_,rfl⟩
 rw[<-hR];have HR:=ai hR;obtain⟨wa,cN⟩:∃wa,wa=w.alloc (.cells #[.slice sa sn sc] 24):=⟨_,rfl⟩
 have gB:Ext w wa:=by rw[cN];exact(Tz _).alloc _
 have hb:wa.heap[w.heap.size]?=some (.cells #[.slice sa sn sc] 24 (0,0)):=by rw[cN];exact bR w _
 have dm:=ai gB;have oF:=ai hb;obtain⟨d0,df⟩:=dO hb;have au3:=bS hb;clear hs hl hf hok hR B6 gB hb ho;go_enter Tryz.func56,Tryz.ntmps56
 go_upto_region 1 with fail;rw[<-cN];clear cN;go_wp2_with fail;refine(Yl.o wa dm.o).mono ?_;rintro r w1 ⟨rfl,hx1⟩;have dI:=ai (dm.o.trans hx1);have gG:=ai (hx1.blk oF.o);clear hx1 d0 df Yl au3;by_cases hse:dy s=0
 case neg =>
  have tz:(dy s != 0)=true:=by simp[hse]
  have HQ:=ai (HR.o.trans (axj hse));go_wp2_with fail
  go_ret2
  exact mQ HQ.o dI.o
 have tz:(dy s != 0)=false:=by simp[hse]
 have Ni:=ai hse;clear hse;by_cases hm:100<n
 ·have tm:=ag ((100:Int)<(n:Int));have HQ:=ai (HR.o.trans (arV Ni.o (by have:=HN.o;omega)));go_wp2_with fail
  go_ret2
  exact mQ HQ.o dI.o
 have tm:=ah ((100:Int)<(n:Int));have HM:=ai (show ¬100<l.length by have:=HN.o;omega);go_wp2_with fail;refine(DT l a n c w1 (HL.o.ext dI.o) (by omega) fun x hx=>(zm.o x hx).1).mono ?_;rintro r w2 ⟨bm,rfl,qd,hx2⟩;have pY:=ai qd;have dN:=ai (dI.o.trans hx2);have fY:=ai (hx2.blk gG.o);clear qd hx2;go_wp2_with fail;go_loopw [30] (fun t wr=>∃k:Nat,t=.int .i64 ((k:Nat):Int)/\k<=n/\(∀j,j<k->jE s l j=0)/\Ext w2 wr) (fun t _=>n - (intOf t).toNat)
 case atStart=>exact⟨0,rfl,by omega,fun j h=>by omega,Tz _⟩
 case round =>
  obtain⟨k,rfl,hk,hno,lM⟩:=hrel;have jH:=ai hno;have gZ:=ai lM;clear hno lM;by_cases hkn:k<n
  ·have fq:k<l.length:=by have:=HN.o;omega
   have t1:=ag ((k:Int)<(n:Int));obtain⟨b,off,v,rfl,fO,hrow⟩:=(HL.o.ext (dN.o.trans gZ.o)).at fq;obtain⟨c0,c1,c2,c3,c4,c5,c6,c7,c8,c9⟩:=hrow.BB;have Sc:(0:Int)<=(k:Int):=by omega
   have ti1:(k:Int)<=(n:Int):=by omega
   have hkc:k<=c:=by omega
   have Un:=ai (ar4 s l fq);have A7:=ai (fun (e:Int) (h:jE s l k=e) (h0:e≠0)=>HR.o.trans (by rw[axi Ni.o HM.o fq jH.o (by rw[h];exact h0),h]));obtain⟨y,hy⟩:∃y,y=wr.heap.size:=⟨_,rfl⟩
   obtain⟨wx,hwx⟩:∃wx,wx=wr.alloc (.cells #[ v.kind,.string v.name,v.x.op,.string v.x.name,.slice v.x.aw v.x.nw v.x.cw,v.x.lo,v.x.hi,.slice v.x.aa v.x.na v.x.ca,.slice v.au v.nu v.cu,v.ck] 48):=⟨_,rfl⟩
   have Sd:Ext wr wx:=by rw[hwx];exact(Tz _).alloc _
   have hby:wx.heap[y]?=some (.cells #[ v.kind,.string v.name,v.x.op,.string v.x.name,.slice v.x.aw v.x.nw v.x.cw,v.x.lo,v.x.hi,.slice v.x.aa v.x.na v.x.ca,.slice v.au v.nu v.cu,v.ck] 48 (0,0)):=by rw[hwx,hy];exact bR wr _
   have yx:=ai (gZ.o.trans Sd);have Vs:=ai (fun (W:World) (hW:Ext wx W)=>HCC.o Ni.o bm n (some ⟨b,off,none⟩) k c k fq v W ((dN.o.trans yx.o).trans hW) (pY.o.ext (yx.o.trans hW)) ((HL.o.ext ((dN.o.trans yx.o).trans hW)).take (by omega)) (by omega) (fO.mono (Sd.trans hW).sub));rw[Un.o] at Vs;obtain⟨E,hE⟩:∃E,E=jE s l k:=⟨_,rfl⟩
   rw[<-hE] at Vs;have HE:=ai hE;clear fO hrow hE Un;go_upto_region 10 with fail;rw[<-hwx,<-hy];clear hwx hy c0 c1 c2 c3 c4 c5 c6 c7 c8 c9;obtain⟨d0,df⟩:=dO ((yx.o).blk fY.o);obtain⟨b0,b1,b2,b3,b4,b5,b6,b7,b8,b9,bf⟩:=rB hby;clear Sd hby;obtain⟨Z0,Z1,Z2,Z3,Z4,Z5⟩:=wcn6 d0 b0 b1 b2 b3 b4;obtain⟨Z6,Z7,Z8⟩:=wcn3 b5 b6 b7;have Z9:=bT b8;have Z10:=bT b9;refine kT 8 ?_
   repeat first|(refine bZ ?_;intro Ka cH;go_big_quiet_op;go_big_quiet_on)|(refine zX ?_;intro Ka cH;go_simp;go_big_quiet_on)
   refine mU (fun W hW=>Vs.o W hW) ?_;intro Ka cH;go_simp;go_big_quiet_on
   repeat first|(refine bZ ?_;intro Ka cH;go_big_quiet_op;go_big_quiet_on)|(refine zX ?_;intro Ka cH;go_simp;go_big_quiet_on)
   refine gC fun W hW2 _ _=>?_
   clear Z0 Z1 Z2 Z3 Z4 Z5 Z6 Z7 Z8 Z9 Z10;have kg:=ai (yx.o.trans hW2);clear hW2 d0 df b0 b1 b2 b3 b4 b5 b6 b7 b8 b9 bf Vs;by_cases hz:E=0
   ·have tz0:(E != 0)=false:=by simp[hz]
    have HZ:=ai (HE.o.symm.trans hz);clear hz;go_wp2_with fail;go_roundw
    case rel =>
     refine⟨k+1,by go_num,by omega,fun j hj=>?_,kg.o⟩;by_cases e0:j=k
     ·subst e0;exact HZ.o
     exact jH.o j (by omega)
    case measure=>simp[intOf];omega
   have tz0:(E != 0)=true:=by simp[hz]
   have HQ:=ai (A7.o E HE.o.symm hz);clear hz;go_wp2_with fail
   go_ret2
   exact mQ HQ.o (dN.o.trans kg.o)
  have t1:=ah ((k:Int)<(n:Int));have kJ:=ai (show ∀j,j<l.length->jE s l j=0 from fun j hj=>jH.o j (by have:=HN.o;omega));have tR:=ai (show ∀x∈l,x.name.size<=1000000000000000/\x.cond.size<=100000/\x.cond.fits/\(∀y∈lC x,eW y=true)/\mH x.gH<=40 by
   intro x hx;obtain⟨j,hj,rfl⟩:=aW.1 hx;have hv:=QA (kJ.o j hj) hj;have hf:=zm.o _ hx;exact⟨hf.1,Bg (Ji hv),hf.2.1,(wY hv).1,(wY hv).2⟩)
  have mJ:=ai (dN.o.trans gZ.o);clear jH;go_wp2_with fail;refine(Gw (l.map cK.cl) a n c wr (HL.o.ext mJ.o).cls (by omega) (by
   intro x hx;obtain⟨c',hc',rfl⟩:=List.mem_map.1 hx;have:=tR.o c' hc';exact⟨this.2.1,this.2.2.1,this.1⟩)).mono ?_
  rw[show (l.map cK.cl).map Cl.tV=l.map cK.tV by rw[List.map_map];rfl];rintro r w3 ⟨hx3,⟨o,oa,oc,ht,rfl,hoi⟩|⟨o,q1,q2,rfl⟩⟩
  ·have HT:=ai ht;have HOI:=ai hoi;have dS:=ai (mJ.o.trans hx3);have HSO:=ai (show vZ (l.map cK.tV) from⟨o,ht⟩);have hol:o.length<=1000:=by have h1:=ht.len;have:=HN.o;simp at h1;omega
   have aYy:=ai (fun (x:Ex) (hx:qT x=true)=>ajX ht (fun i hi=>by
    have hil:i<l.length:=by simpa using ht.lt hi
    rw[fJ hil];exact aEk kJ.o hil (by have:=(ht.all i).1 hi;rw[sY hil] at this;simpa using this)) (fun i hi=>by
    have hil:i<l.length:=by simpa using ht.lt hi
    rw[fJ hil];exact Zi ((tR.o _ (aD hil)).2.2.2.1 _ (by simp[lC]))) x hx)
   clear ht hoi hx3;go_wp2_with fail;refine(acy l a n c o oa oc w3 (HL.o.ext dS.o) (by omega) HOI.o (by omega) (fun i hi=>by simpa using HT.o.lt hi) (fun x hx=>by have:=tR.o x hx;exact⟨this.1,by omega,this.2.2.1⟩)).mono ?_;rintro r w4 ⟨bs,rfl,hm4,gV⟩;have HM4:=ai hm4;have jl:=ai (dS.o.trans gV);clear hm4 gV;go_wp2_with fail;go_loopw [60] (a0V l n w4) (fun t _=>n - (intOf t).toNat)
   case atStart=>exact⟨0,rfl,by omega,fun j h=>by omega,Tz _⟩
   case round =>
    obtain⟨k2,rfl,hk2,hno,lM⟩:=hrel;obtain⟨wo,rfl⟩:∃wo:World,wo=wr:=⟨_,rfl⟩
    have jH:=ai hno;have asw:=ai lM;clear hno lM;by_cases aDm:k2<n
    ·have fq:k2<l.length:=by have:=HN.o;omega
     have t2:=ag ((k2:Int)<(n:Int));obtain⟨b,off,v,rfl,fO,hrow⟩:=(HL.o.ext (jl.o.trans asw.o)).at fq;obtain⟨c0,c1,c2,c3,c4,c5,c6,c7,c8,c9⟩:=hrow.BB;have HFT:=ai (ahp (zm.o _ (aD fq)));have HRF:=ai (tR.o _ (aD fq)).2.2.2.1;have iV:=(tR.o _ (aD fq)).2.2.2.2;have HLG:=ai (ahw fq);have A7:=ai (fun (h:jQ l k2=4)=>HR.o.trans (ab4 Ni.o HM.o kJ.o HSO.o fq jH.o h));have G9:=ai (fun (W:World) (hW:Ext wo W)=>Oz l[k2] v W (fO.mono hW.sub) (by omega));have qC:=ai (XW l[k2]);clear fO hrow;go_wp2_with fail;refine(G9.o _ ((Tz wo).alloc _)).mono ?_;rintro r w6 ⟨ea,en,ek,rfl,hen,aWS,hed,gN⟩;have kR:=ai ((asw.o.alloc _).trans gN);have HED:=ai hed;have Li:=ai hen;have aDr:en<=41:=by have:=qC.o;omega
     clear gN hed hen c0 c1 c2 c3 c4 c5 c6 c7 c8 c9 G9;go_wp2_with fail;go_loopw [68] (fun t wr=>∃q:Nat,t=.int .i64 ((q:Nat):Int)/\q<=en/\(∀j (h:j<(lC l[k2]).length),j<q->¬2000<dV l (lC l[k2])[j])/\Ext w6 wr) (fun t _=>en - (intOf t).toNat)
     case atStart=>exact⟨0,rfl,by omega,fun j _ h=>by omega,Tz _⟩
     case round =>
      obtain⟨q,rfl,hq,hall,hxq⟩:=hrel;have mK:=ai hall;have HXQ:=ai hxq;clear hall hxq;by_cases hqn:q<en
      ·have hql:q<(lC l[k2]).length:=by have:=Li.o;omega
       have t3:=ag ((q:Int)<(en:Int));obtain⟨b',off',rfl,nJ,nD,nG,nK,nE,nI,h0,h1,h2,h3,h4,h5,h6⟩:=eU.at (lC l[k2]) _ (eU.ext HXQ.o (lC l[k2]) _ HED.o) q hql;have hmem:=aD hql;have hxs:=Bg (HRF.o _ hmem);have Lb:=ai (fun (W:World) (hW:Ext wr W)=>X3 (qG l o) (abd l o) bs o.length 1000000000000000 (lC l[k2])[q] _ W (by omega) (by omega) (HFT.o _ hmem).1 (HM4.o.ext ((kR.o.trans HXQ.o).trans hW)) (h6.ext hW));have DK:=eB h0;simp only at DK;rw[aYy.o _ (Zi (HRF.o _ hmem))] at Lb;unfold fN at Lb;obtain⟨E,hE⟩:∃E,E=dV l (lC l[k2])[q]:=⟨_,rfl⟩
       rw[<-hE] at Lb;have hel:E<=2001:=by rw[hE];exact aan l _ _
       have HE:=ai hE;clear h6 hE;go_wp2_with fail;refine(Lb.o _ ((Tz wr).alloc _)).mono ?_;rintro r w7 ⟨rfl,ng⟩;have rZ:=ai ((HXQ.o.alloc _).trans ng);clear ng h0 h1 h2 h3 h4 h5 Lb;by_cases hlg:2000<E
       ·have t4:=ag ((2000:Int)<(E:Int));have HQ:=ai (A7.o (by
         rw[HLG.o,bM];rw[List.any_eq_true];exact⟨_,hmem,by rw[<-HE.o];simpa using hlg⟩))
        clear hmem;go_wp2_with fail
        go_ret2
        exact mQ HQ.o (jl.o.trans (kR.o.trans rZ.o))
       have t4:=ah ((2000:Int)<(E:Int));have OX:=ai (show ¬2000<dV l (lC l[k2])[q] by rw[<-HE.o];exact hlg);clear hmem hlg;go_wp2_with fail;go_roundw
       case rel =>
        refine⟨q+1,by go_num,by omega,fun j hj hjk=>?_,rZ.o⟩;by_cases e0:j=q
        ·subst e0;exact OX.o
        exact mK.o j hj (by omega)
       case measure=>simp[intOf];omega
      have t3:=ah ((q:Int)<(en:Int));have HZ:=ai (show jQ l k2=0 by
       rw[HLG.o,bL];rw[Bool.not_eq_true,List.any_eq_false];intro x hx;obtain⟨j,hj,rfl⟩:=aW.1 hx;simpa using mK.o j hj (by have:=Li.o;omega))
      go_wp2_with fail;go_roundw
      case rel =>
       refine⟨k2+1,by go_num,by omega,fun j hj=>?_,kR.o.trans HXQ.o⟩;by_cases e0:j=k2
       ·subst e0;exact HZ.o
       exact jH.o j (by omega)
      case measure=>simp[intOf];omega
    have t2:=ah ((k2:Int)<(n:Int));have HQ:=ai (HR.o.trans (aaC Ni.o HM.o kJ.o HSO.o fun j hj=>jH.o j (by have:=HN.o;omega)));go_wp2_with fail
    go_ret2
    exact mQ HQ.o (jl.o.trans asw.o)
  have HQ:=ai (HR.o.trans (alh Ni.o HM.o kJ.o (q1.none q2)));have dS:=ai (mJ.o.trans hx3);clear hx3 q1 q2;go_wp2_with fail
  go_ret2
  exact mQ HQ.o dS.o
def kW (w:World) (B:Nat) (v0 v1 v2:Value):World:=((w.setCell ⟨B,0,none⟩ v0).setCell ⟨B,1,none⟩ v1).setCell ⟨B,2,none⟩ v2
theorem rW {w:World} {B:Nat} {u0 u1 u2:Value} {t:TypeId} (h:w.heap[B]?=some (.cells #[u0,u1,u2] t (0,0))) (v0 v1 v2:Value):(kW w B v0 v1 v2).heap[B]?=some (.cells #[v0,v1,v2] t (0,0)):=by
 unfold kW;have h0:=aI w B 0 _ _ v0 h;have h1:=aI _ B 1 _ _ v1 h0;have h2:=aI _ B 2 _ _ v2 h1;rw[h2];rfl
theorem rV (w:World) (B:Nat) (v0 v1 v2:Value) {N:ZN} (h:B∈N):ct N w (kW w B v0 v1 v2):=by
 unfold kW;exact(((ct.refl _ _).setCell (aoX h) _).setCell (aoX h) _).setCell (aoX h) _
def oM:Value:=.agg #[.slice none 0 0,.map none,.slice none 0 0]
def OS (s:List Attr) (l:List cK) (e:Ex) (f:ZI) (n:Nat) (w:World) (r:Ending) (w':World):Prop:=Ext w w'/\((jM s l e f≠0/\r=.returned (.tuple #[oM,.int .i64 (jM s l e f)]))\/(jM s l e f=0/\∃lv:fT,r=.returned (.tuple #[lv.val,.int .i64 0])/\A3 w' s l f lv n))
theorem Chk.fresh {s:List Attr} {l:List cK} (h:Chk s l) {k:Nat} (hk:k<l.length):dz (l.take k) l[k].name=none:=by
 cases hd:dz (l.take k) l[k].name with
 | none=>rfl
 | some d =>
  obtain⟨h1,_,h3⟩:=ju hd;have hdk:d<k:=by simp at h1;omega
  have:=h.uniq k d hk hdk;rw[getD_take hdk] at h3;rw[h3,ry hk] at this;exact a40 rfl this
theorem ajj (s:List Attr) (l:List cK) (e:Ex) (f:ZI) (ev sv:Value) (a:OA) (n c:Nat) (fa:OA) (fn fc:Nat) (w:World) (hs:dB w s sv) (hf:∀x∈s,x.fits) (hsl:s.length<=1000000000000000) (hl:cZ w l a n c) (hn:n<=1000000) (hok:∀x∈l,x.fit) (he:dw w e ev) (uP:e.iT) (hfit:e.fits) (hi:dG w f fa fn) (hfn:fn<=1000000000000000) (ho:dQ w) :
  Calls Tryz.prog 115 #[sv,.slice a n c,ev,.slice fa fn fc] w (OS s l e f n w):=by
 obtain⟨sa,sn,sc,rfl,B6⟩:=hs.slice;have qC:=ai (fun W (hW:Ext w W)=>vY s l _ a n c W (hs.ext hW) hf hsl (hl.ext hW) (by omega) hok (ho.ext hW));have zq:=ai (fun W (hW:Ext w W)=>yu s l a n c e ev _ W hf hsl (hl.ext hW) hn (fun x hx=>(hok x hx).1) uP hfit (ho.ext hW) (hs.ext hW) (he.ext hW));have HXP:=ai (fun (h1:(cV s l).2=0) (h2:qu s l e=0) W (hW:Ext w W)=>BM l a n c e ev W (hl.ext hW) (he.ext hW) ⟨by have:=afq (TS h2);omega,hfit,Zi (TS h2)⟩ (by rw[hl.len];have:=(lK h1).len;omega) (fun x hx=>⟨(hok x hx).1,by have:=(lK h1).size x hx;omega,(hok x hx).2.1,Zi ((lK h1).good x hx).2.2.1⟩));have Eo:=ai (fun W (hW:Ext w W)=>Ph s _ f fa fn fc W (hs.ext hW) hf hsl (hi.ext hW) hfn);have qw:=ai (fun (h1:(cV s l).2=0)=>lK h1);have HL:=ai hl;have HS:=ai hs;have HI:=ai hi;have tR:=ai (fun x hx=>(hok x hx).1);have HN:=ai hl.len;obtain⟨aw,nw,cw,aa,na,ca,rfl,-⟩:=he.parts;obtain⟨R,hR⟩:∃R,R=jM s l e f:=⟨_,rfl⟩
 unfold OS;rw[<-hR];unfold jM at hR;obtain⟨⟨i0,E1⟩,xK⟩:∃E:Nat×Int,E=cV s l:=⟨_,rfl⟩
 rw[<-xK] at qC hR;have ahW:=ai (fun (h1:E1=0)=>HXP.o (by rw[<-xK];exact h1));have aF':=ai (fun (h1:E1=0)=>qw.o (by rw[<-xK];exact h1));clear HXP qw;obtain⟨E2,Bp⟩:∃E,E=qu s l e:=⟨_,rfl⟩
 rw[<-Bp] at zq hR;have HXP:=ai (fun (h1:E1=0) (h2:E2=0)=>ahW.o h1 (by rw[<-Bp];exact h2));clear ahW;obtain⟨X,hX⟩:∃X,X=dV l e:=⟨_,rfl⟩
 rw[<-hX] at HXP hR;obtain⟨B,hB⟩:∃B,B=jU s f:=⟨_,rfl⟩
 rw[<-hB] at Eo hR;have HR:=ai hR;clear hs hf hsl hl hok he uP hfit hi B6 hR xK Bp hX hB ho;unfold fN at *;obtain⟨wa,cN⟩:∃wa,wa=((w.alloc (.cells #[.slice sa sn sc] 24)).alloc (.cells #[ e.op,.string e.name,.slice aw nw cw,e.lo,e.hi,.slice aa na ca] 45)).alloc (.cells #[.slice none 0 0,.map none,.slice none 0 0] 183):=⟨_,rfl⟩
 have gB:Ext w wa:=by rw[cN];exact(((Tz _).alloc _).alloc _).alloc _
 have hb0:wa.heap[w.heap.size]?=some (.cells #[.slice sa sn sc] 24 (0,0)):=by rw[cN];exact bU (bU (bR w _))
 have hb1:wa.heap[w.heap.size+1]?=some (.cells #[ e.op,.string e.name,.slice aw nw cw,e.lo,e.hi,.slice aa na ca] 45 (0,0)):=by rw[cN];exact bU (cT (by simp))
 have hb2:wa.heap[w.heap.size+1+1]?=some (.cells #[.slice none 0 0,.map none,.slice none 0 0] 183 (0,0)):=by rw[cN];exact cT (by simp)
 have dm:=ai gB;have iO:=ai hb0;have gG:=ai hb1;have fY:=ai hb2;obtain⟨e0,ef⟩:=dO hb0;clear gB hb0 hb1 hb2;unfold T3 at qC;go_enter Tryz.func115,Tryz.ntmps115
 go_upto_region 1 with fail;rw[<-cN];clear cN;go_wp2_with fail;refine(qC.o wa dm.o).mono ?_;rintro r w1 ⟨rfl,hx1⟩;have dI:=ai (dm.o.trans hx1);have Uq:=ai (hx1.blk iO.o);have pG:=ai (hx1.blk gG.o);have Lt:=ai (hx1.blk fY.o);clear hx1 e0 ef qC iO gG fY;by_cases h1:E1=0
 case neg =>
  have t1:(E1 != 0)=true:=by simp[h1]
  have HQ:=ai (show R=E1 by rw[HR.o,bM h1]);have HNZ:=ai h1;clear h1;obtain⟨r0,r1,r2,rf⟩:=dM Lt.o;go_wp2_with fail;obtain⟨wz,eV⟩:∃wz,wz=kW w1 (w.heap.size+1+1) (.slice none 0 0) (.map none) (.slice none 0 0):=⟨_,rfl⟩
  have HZ:=ai (show wz.heap[w.heap.size+1+1]?=some (.cells #[.slice none 0 0,.map none,.slice none 0 0] 183 (0,0)) by rw[eV];exact rW Lt.o _ _ _);have tA:=ai (show Ext w wz by rw[eV];exact(rV w1 (w.heap.size+1+1) (.slice none 0 0) (.map none) (.slice none 0 0) (N:=[w.heap.size+1+1]) (by simp)).ext dI.o (fun y hy=>by simp only[aG] at hy;omega));unfold kW at eV;rw[<-eV];clear eV;obtain⟨z0,z1,z2,zf⟩:=dM HZ.o;refine a5a (v:=.tuple #[oM,E1]) (by simp[results,Tryz.results115,go_sem,oM,z0,z1,z2]) rfl ?_;exact⟨tA.o,aoX ⟨by rw[HQ.o];exact HNZ.o,by rw[HQ.o]⟩⟩
 have t1:(E1 != 0)=false:=by simp[h1]
 have jI:=ai (show R=if E2≠0 then E2 else if 2000<X then 4 else if B=false then 16 else 0 by rw[HR.o,bL (by simpa using h1)]);have ahW:=ai (HXP.o h1);have qw:=ai (aF'.o h1);clear h1 HR HXP aF';obtain⟨e0,ef⟩:=dO Uq.o;obtain⟨f0,f1,f2,f3,f4,f5,ff⟩:=cX pG.o;go_wp2_with fail;refine(zq.o w1 dI.o).mono ?_;rintro r w2 ⟨rfl,hx2⟩;have dN:=ai (dI.o.trans hx2);have ah8:=ai (hx2.blk Uq.o);have HB12:=ai (hx2.blk pG.o);have Uo:=ai (hx2.blk Lt.o);clear hx2 e0 ef f0 f1 f2 f3 f4 f5 ff zq;by_cases h2:E2=0
 case neg =>
  have t2:(E2 != 0)=true:=by simp[h2]
  have HQ:=ai (show R=E2 by rw[jI.o,bM h2]);have HNZ:=ai h2;clear h2;obtain⟨r0,r1,r2,rf⟩:=dM Uo.o;go_wp2_with fail;obtain⟨wz,eV⟩:∃wz,wz=kW w2 (w.heap.size+1+1) (.slice none 0 0) (.map none) (.slice none 0 0):=⟨_,rfl⟩
  have HZ:=ai (show wz.heap[w.heap.size+1+1]?=some (.cells #[.slice none 0 0,.map none,.slice none 0 0] 183 (0,0)) by rw[eV];exact rW Uo.o _ _ _);have tA:=ai (show Ext w wz by rw[eV];exact(rV w2 (w.heap.size+1+1) (.slice none 0 0) (.map none) (.slice none 0 0) (N:=[w.heap.size+1+1]) (by simp)).ext dN.o (fun y hy=>by simp only[aG] at hy;omega));unfold kW at eV;rw[<-eV];clear eV;obtain⟨z0,z1,z2,zf⟩:=dM HZ.o;refine a5a (v:=.tuple #[oM,E2]) (by simp[results,Tryz.results115,go_sem,oM,z0,z1,z2]) rfl ?_;exact⟨tA.o,aoX ⟨by rw[HQ.o];exact HNZ.o,by rw[HQ.o]⟩⟩
 have t2:(E2 != 0)=false:=by simp[h2]
 have nL:=ai (show R=if 2000<X then 4 else if B=false then 16 else 0 by rw[jI.o,bL (by simpa using h2)]);have aFg:=ai (ahW.o h2);clear h2 jI ahW;obtain⟨f0,f1,f2,f3,f4,f5,ff⟩:=cX HB12.o;go_wp2_with fail;refine(aFg.o w2 dN.o).mono ?_;rintro r w3 ⟨rfl,hx3⟩;have dS:=ai (dN.o.trans hx3);have wQ:=ai (hx3.blk ah8.o);have Ls:=ai (hx3.blk Uo.o);clear hx3 f0 f1 f2 f3 f4 f5 ff aFg;by_cases h3:2000<X
 case pos =>
  have t3:=ag ((2000:Int)<(X:Int));have HQ:=ai (show R=4 by rw[nL.o,bM h3]);clear h3;obtain⟨r0,r1,r2,rf⟩:=dM Ls.o;go_wp2_with fail;obtain⟨wz,eV⟩:∃wz,wz=kW w3 (w.heap.size+1+1) (.slice none 0 0) (.map none) (.slice none 0 0):=⟨_,rfl⟩
  have HZ:=ai (show wz.heap[w.heap.size+1+1]?=some (.cells #[.slice none 0 0,.map none,.slice none 0 0] 183 (0,0)) by rw[eV];exact rW Ls.o _ _ _);have tA:=ai (show Ext w wz by rw[eV];exact(rV w3 (w.heap.size+1+1) (.slice none 0 0) (.map none) (.slice none 0 0) (N:=[w.heap.size+1+1]) (by simp)).ext dS.o (fun y hy=>by simp only[aG] at hy;omega));unfold kW at eV;rw[<-eV];clear eV;obtain⟨z0,z1,z2,zf⟩:=dM HZ.o;refine a5a (v:=.tuple #[oM,.int .i64 4]) (by simp[results,Tryz.results115,go_sem,oM,z0,z1,z2]) rfl ?_;exact⟨tA.o,aoX ⟨by rw[HQ.o];decide,by rw[HQ.o]⟩⟩
 have t3:=ah ((2000:Int)<(X:Int));have sI:=ai (show R=if B=false then 16 else 0 by rw[nL.o,bL h3]);clear h3 nL;obtain⟨e0,ef⟩:=dO wQ.o;go_wp2_with fail;refine(Eo.o w3 dS.o).mono ?_;rintro r w4 ⟨rfl,gV⟩;have jl:=ai (dS.o.trans gV);have aA0:=ai (gV.blk wQ.o);have aoz:=ai (gV.blk Ls.o);clear gV e0 ef Eo;cases B
 case false =>
  have HQ:=ai (show R=16 by rw[sI.o];rfl);obtain⟨r0,r1,r2,rf⟩:=dM aoz.o;go_wp2_with fail;obtain⟨wz,eV⟩:∃wz,wz=kW w4 (w.heap.size+1+1) (.slice none 0 0) (.map none) (.slice none 0 0):=⟨_,rfl⟩
  have HZ:=ai (show wz.heap[w.heap.size+1+1]?=some (.cells #[.slice none 0 0,.map none,.slice none 0 0] 183 (0,0)) by rw[eV];exact rW aoz.o _ _ _);have tA:=ai (show Ext w wz by rw[eV];exact(rV w4 (w.heap.size+1+1) (.slice none 0 0) (.map none) (.slice none 0 0) (N:=[w.heap.size+1+1]) (by simp)).ext jl.o (fun y hy=>by simp only[aG] at hy;omega));unfold kW at eV;rw[<-eV];clear eV;obtain⟨z0,z1,z2,zf⟩:=dM HZ.o;refine a5a (v:=.tuple #[oM,.int .i64 16]) (by simp[results,Tryz.results115,go_sem,oM,z0,z1,z2]) rfl ?_;exact⟨tA.o,aoX ⟨by rw[HQ.o];decide,by rw[HQ.o]⟩⟩
 have HQ:=ai (show R=0 by rw[sI.o];rfl);have hmm:=@run_makeMap Tryz.prog;have Uj:=ai (ig.made w4 9);have BO:=ai ((Tz w4).alloc (.map #[] 0));obtain⟨bf,Qd⟩:∃bf:Nat,bf=w4.heap.size:=⟨_,rfl⟩
 have HBF:=ai Qd;have wP:=ai (show w.heap.size+1+1<bf by rw[Qd];exact bS aoz.o);go_wp2_with fail;rw[<-Qd];rw[<-Qd] at Uj;clear Qd hmm;go_loopw [47] (fun i wr=>∃(k:Nat) (g:BA->Option Value),k<=n/\i=.int .i64 k/\ig wr 9 bf k (kV g)/\Rv w (l.take k) g/\wr.heap[w.heap.size]?=some (.cells #[.slice sa sn sc] 24 (0,0))/\wr.heap[w.heap.size+1+1]?=some (.cells #[.slice none 0 0,.map none,.slice none 0 0] 183 (0,0))/\Ext w wr) (fun i _=>n - (intOf i).toNat)
 case atStart =>
  refine⟨0,fun _=>none,by omega,rfl,Uj.o.congr fun x=>?_,fun s=>⟨fun _=>rfl,fun d hd=>?_⟩,BO.o.blk aA0.o,BO.o.blk aoz.o,jl.o.trans BO.o⟩
  ·cases x<;>simp[kV]
  simp[dz] at hd
 case round =>
  obtain⟨k,g,hk,rfl,hmap,hg,hb0,hb2,hx⟩:=hrel;have En:=ai hmap;have HX:=ai hx;have HG:=ai hg;have oF:=ai hb0;have Af:=ai hb2;have qL:=hmap.lt;clear hmap hx hg Uj BO hb0 hb2;by_cases hlt:k<n
  ·have hlt':k<l.length:=by have:=HN.o;omega
   have t1:=ag ((k:Int)<(n:Int));obtain⟨cb,ld,v,rfl,fO,hrow⟩:=HL.o.at hlt';obtain⟨c0,c1,c2,c3,c4,c5,c6,c7,c8,c9⟩:=(hrow.mono HX.o.sub).BB;have zP:v.name.size<=1000000000000000:=by rw[fO.2.1];exact tR.o _ (aD hlt')
   have DK:=eB c0;simp only at DK;have aOx:=ai (show dw w l[k].cond (.agg #[ v.x.op,.string v.x.name,.slice v.x.aw v.x.nw v.x.cw,v.x.lo,v.x.hi,.slice v.x.aa v.x.na v.x.ca]) from fO.2.2.1);have HEK:=ai (show l[k].kind=v.kind from fO.1.symm);have Li:=ai (show l[k].name=v.name from fO.2.1.symm);have HFR:=ai (qw.o.fresh hlt');rw[Li.o] at HFR;have HST:=ai (fun h1 h2=>HG.o.step hlt' h1 h2 aOx.o);have Na:=ai (HG.o.skip hlt');rw[HEK.o,Li.o] at HST Na;clear fO hrow;cases tC:(v.kind==1)
   ·have Nd:=ai (Na.o (aoX (by simpa using tC)));go_wp2_with fail;go_roundw
    case rel =>
     have gB:=(Tz wr).alloc (.cells #[ v.kind,.string v.name,v.x.op,.string v.x.name,.slice v.x.aw v.x.nw v.x.cw,v.x.lo,v.x.hi,.slice v.x.aa v.x.na v.x.ca,.slice v.au v.nu v.cu,v.ck] 48);exact⟨k+1,g,by omega,by go_num,(En.o.ext gB).more (by omega),Nd.o,gB.blk oF.o,gB.blk Af.o,HX.o.trans gB⟩
    case measure=>simp[intOf];omega
   have Nd:=ai (HST.o (by simpa using tC) HFR.o);go_wp2_with (at_mapUpdate;refine lR _ rfl _ _ _ 131 rfl 9 45 gU EW bf k _ rfl (En.o.ext ((Tz wr).alloc _)) ?c3 _ _ _ rfl rfl (lB zP) trivial ?_)
   case c3=>unfold maxLen;omega
   intro w6 hm1 hc1;have gB:=(Tz wr).alloc (.cells #[ v.kind,.string v.name,v.x.op,.string v.x.name,.slice v.x.aw v.x.nw v.x.cw,v.x.lo,v.x.hi,.slice v.x.aa v.x.na v.x.ca,.slice v.au v.nu v.cu,v.ck] 48);have hxm:Ext w w6:=hc1.ext (HX.o.trans gB) (fun y hy=>by simp only[aG] at hy;have:=wP.o;omega);have aGo:=ai (hc1.blk (gB.blk oF.o) (by have:=wP.o;simp;omega));have ah7:=ai (hc1.blk (gB.blk Af.o) (by have:=wP.o;simp;omega));have WO:=ai (hm1.congr (Dm g v.name _));have dI:=ai hxm;clear hm1 hc1 gB hxm;go_wp2_with fail;go_roundw
   case rel=>exact⟨k+1,_,by omega,by go_num,WO.o,Nd.o,aGo.o,ah7.o,dI.o⟩
   case measure=>simp[intOf];omega
  have t1:=ah ((k:Int)<(n:Int));have Nd:=ai (show k=n by omega);obtain⟨e0,ef⟩:=dO oF.o;obtain⟨r0,r1,r2,rf⟩:=dM Af.o;go_wp2_with fail;obtain⟨wz,eV⟩:∃wz,wz=kW wr (w.heap.size+1+1) (.slice sa sn sc) (.map (some bf)) (.slice fa fn fc):=⟨_,rfl⟩
  have HZ:=ai (show wz.heap[w.heap.size+1+1]?=some (.cells #[.slice sa sn sc,.map (some bf),.slice fa fn fc] 183 (0,0)) by rw[eV];exact rW Af.o _ _ _);have U0:ct [w.heap.size+1+1] wr wz:=by rw[eV];exact rV wr (w.heap.size+1+1) (.slice sa sn sc) (.map (some bf)) (.slice fa fn fc) (by simp)
  have tA:=ai (U0.ext HX.o (fun y hy=>by simp only[aG] at hy;omega));have HLZ:=ai (show A3 wz s l f ⟨sa,sn,sc,bf,fa,fn,fc⟩ n from⟨HS.o.ext tA.o,by
   exact⟨g,by rw[<-Nd.o];exact En.o.cR U0 (by have:=wP.o;simp;omega),by have:=HG.o.ext tA.o;rwa [aS (by have:=HN.o;omega)] at this⟩,HI.o.ext tA.o⟩)
  unfold kW at eV;rw[<-eV];clear eV U0;obtain⟨z0,z1,z2,zf⟩:=dM HZ.o;refine a5a (v:=.tuple #[fT.val ⟨sa,sn,sc,bf,fa,fn,fc⟩,.int .i64 0]) (by simp[results,Tryz.results115,go_sem,fT.val,z0,z1,z2]) rfl ?_;exact⟨tA.o,a4Z ⟨by rw[HQ.o],_,rfl,HLZ.o⟩⟩
def fvV (lv:Value):Value:=.func (.func 116) #[lv] #[]
def aHK (o:Option Nat):Int:=match o with|some k=>k|none => -1
theorem am4 (lv:Value) (args:List Ex) (aa:OA) (na ca:Nat) (P:Ex->Bool) (w:World) (hna:na=args.length) (hn2:na<=1000000) (hx:eU w args aa)
  (hc:∀(j:Nat) (hj:j<args.length) (xv:Value) (W:World),Ext w W->dw W args[j] xv->Calls Tryz.prog 116 #[lv,xv] W (cz (.bool (P args[j])) W)) :
  Calls Tryz.prog 174 #[.slice aa na ca,fvV lv] w (cz (.int .i64 (aHK (args.findIdx? P))) w):=by
 have HX:=ai hx;have kJ:=ai hna;have HC:=ai hc;obtain⟨R,hR⟩:∃R,R=aHK (args.findIdx? P):=⟨_,rfl⟩
 rw[<-hR];have HR:=ai hR;clear hx hna hc hR;unfold fvV;go_enter Tryz.func174,Tryz.ntmps174
 go_wp2_with fail;go_loopw [8] (fun i wr=>∃k:Nat,i=.int .i64 k/\k<=na/\(∀j (h:j<args.length),j<k->P args[j]=false)/\Ext w wr) (fun i _=>na - (intOf i).toNat)
 case atStart=>exact⟨0,rfl,by omega,fun j _ h=>by omega,Tz _⟩
 case round =>
  obtain⟨k,rfl,hk,hno,lM⟩:=hrel;have jH:=ai hno;have gZ:=ai lM;clear hno lM;by_cases hkn:k<na
  ·have hka:k<args.length:=by have:=kJ.o;omega
   have t1:=ag ((k:Int)<(na:Int));obtain⟨b,off,rfl,nJ,nD,nG,nK,nE,nI,h0,h1,h2,h3,h4,h5,h6⟩:=eU.at args _ (eU.ext gZ.o args _ HX.o) k hka;have HAK:=ai (HC.o k hka _ wr gZ.o h6);obtain⟨B,hB⟩:∃B,B=P args[k]:=⟨_,rfl⟩
   rw[<-hB] at HAK;have jL:=ai hB;unfold fN at HAK;clear h6 hB;go_wp2_with fail;refine HAK.o.mono ?_;rintro r w3 ⟨rfl,hx3⟩;have dS:=ai (gZ.o.trans hx3);clear hx3;cases B
   ·go_wp2_with fail;go_roundw
    case rel =>
     refine⟨k+1,by go_num,by omega,fun j hj hjk=>?_,dS.o⟩;by_cases e:j=k
     ·subst e;exact jL.o.symm
     exact jH.o j hj (by omega)
    case measure=>simp[intOf];omega
   have HF:=ai (show R=(k:Int) by rw[HR.o,KA hka jL.o.symm fun j hj hjk=>jH.o j hj hjk];rfl);go_wp2_with fail;go_ret;exact cD (by rw[HF.o]) dS.o
  have t1:=ah ((k:Int)<(na:Int));have HF:=ai (show R = -1 by rw[HR.o,Fl fun j hj=>jH.o j hj (by have:=kJ.o;omega)];rfl);go_wp2_with fail;go_ret;exact cD (by rw[HF.o]) gZ.o
theorem adL (lv:Value) (args:List Ex) (aa:OA) (na ca:Nat) (P:Ex->Bool) (w:World) (hna:na=args.length) (hn2:na<=1000000) (hx:eU w args aa)
  (hc:∀(j:Nat) (hj:j<args.length) (xv:Value) (W:World),Ext w W->dw W args[j] xv->Calls Tryz.prog 116 #[lv,xv] W (cz (.bool (P args[j])) W)) :
  Calls Tryz.prog 147 #[.slice aa na ca,fvV lv] w (cz (.bool (args.any P)) w):=by
 have HI:=ai (am4 lv args aa na ca P w hna hn2 hx hc);obtain⟨R,hR⟩:∃R,R=args.any P:=⟨_,rfl⟩
 rw[<-hR];have HR:=ai hR;clear hx hna hc hR;unfold fvV at *;cases hf:args.findIdx? P with
 | none =>
  rw[hf] at HI;have HF:=ai (show R=false by
   rw[HR.o,List.any_eq_false];intro x hx;rw[bh] at hf;simp[hf x hx])
  unfold aHK at HI;go_enter Tryz.func147,Tryz.ntmps147
  go_wp2_with fail;refine HI.o.mono ?_;rintro r w3 ⟨rfl,hx3⟩;have dS:=ai hx3;clear hx3;go_wp2_with fail;go_ret;exact bW (by rw[HF.o]) dS.o
 | some k =>
  rw[hf] at HI;have HF:=ai (show R=true by
   rw[HR.o,List.any_eq_true];rw[aJ] at hf;obtain⟨hk,h1,_⟩:=hf;exact⟨_,aD hk,h1⟩)
  have t1:=ag ((0:Int)<=(k:Int));unfold aHK at HI;go_enter Tryz.func147,Tryz.ntmps147
  go_wp2_with fail;refine HI.o.mono ?_;rintro r w3 ⟨rfl,hx3⟩;have dS:=ai hx3;clear hx3;go_wp2_with fail;go_ret;exact bW (by rw[HF.o]) dS.o
theorem Fa {s:List Attr} {l:List cK} (hc:Chk s l) {e:Ex} (ht:gq e) (h:dr s l e=0):((e.op≠6/\e.op≠7/\e.op≠8)/\(e.op=3->dz l e.name=none))\/(e.op=3/\eO s e.name=none/\∃d,dz l e.name=some d)\/(e.op=6/\e.args.length=1)\/e.op=7\/e.op=8:=by
 rcases abv ht h with h1|h1|⟨h1,i,h2,-⟩|⟨h1,h3,d,h2⟩|⟨h1,i,h2,h3⟩|⟨h1,i,h2,-⟩|⟨h1,h2⟩|h1|h1
 ·exact aoX ⟨by omega,fun h=>by omega⟩
 ·exact aoX ⟨by omega,fun h=>by omega⟩
 ·refine aoX ⟨by omega,fun _=>?_⟩;cases hd:dz l e.name with
  | none=>rfl
  | some d=>rw[hc.apart hd] at h2;cases h2
 ·exact a4Z (aoX ⟨h1,h3,d,h2⟩)
 ·exact aoX ⟨by omega,fun h=>by omega⟩
 ·exact aoX ⟨by omega,fun h=>by omega⟩
 ·exact a4Z (a4Z (aoX ⟨h1,h2⟩))
 ·exact a4Z (a4Z (a4Z (aoX h1)))
 exact a4Z (a4Z (a4Z (a4Z h1)))
def aXE (s:List Attr) (f:ZI) (V:BA->Option Bool) (args:List Ex) (na:Nat) (w:World) (i:Value) (wr:World):Prop:=∃k:Nat,i=.int .i64 k/\k<=na/\(∀j (h:j<args.length),j<k->pK s f V args[j]=true)/\Ext w wr
theorem aoS (s:List Attr) (l:List cK) (f:ZI) (hc:Chk s l) (qx:fW s f=true) (lv:fT) (nm:Nat):∀(g m:Nat) (e:Ex) (ev:Value) (w:World),e.size<=m->m<=1000000->gq e->dr s l e=0->jT l g e<=2000->A3 w s l f lv nm->dw w e ev ->
  Calls Tryz.prog 116 #[lv.val,ev] w (cz (.bool (jN s l f g e)) w):=by
 intro g;induction g with
 | zero=>intro m e ev w _ _ _ _ h;simp[jT] at h
 | succ g ihg =>
  intro m;induction m with
  | zero=>intro e ev w h;have:=size_pos e;omega
  | succ m ihm =>
   intro e ev w hm Re hok hnd hex hl he;have GG:=Fa hc hok hnd;have hfw:=JB hok hnd;obtain⟨-,RA⟩:=wT hnd;obtain⟨agE,Rz⟩:=iR hok;have RB:=KF (D:=Sj l g) (e:=e) (by rw[<-j9];exact hex);have TG:=Qn (D:=Sj l g) (e:=e) (by rw[<-j9];exact hex);have Eo:=ai (fun h5 W (hW:Ext w W)=>XP s l f lv nm hc.x7 qx e ev W (hl.ext hW) (he.ext hW) hok h5);have VN:=ai (fun W (hW:Ext w W)=>Fv s l f lv nm e ev W (hl.ext hW) (he.ext hW) (by have:=(IY hok).2;omega));obtain⟨aw,nw,cw,aa,na,ca,rfl,hw,hna,hca,ha,hx⟩:=he.parts;have hS:e.size=1+sizes e.args:=e.size_eq;have hla:=eR e.args;obtain⟨op,name,words,lo,hi,args⟩:=e;simp only[Ex.op,Ex.name,Ex.words,Ex.lo,Ex.hi,Ex.args] at *;have Ks:na<=1000000:=by omega
   have aC9:sizes args<=m:=by omega
   obtain⟨R,hR⟩:∃R,R=jN s l f (g+1) (.mk op name words lo hi args):=⟨_,rfl⟩
   rw[<-hR];obtain⟨V,hV⟩:∃V,V=(fun x=>(dz l x).map fun d=>jN s l f g (l.getD d fC).cond):=⟨_,rfl⟩
   have hvf:∀e,jN s l f (g+1) e=pK s f V e:=fun e=>by rw[hV];rfl
   rw[hvf,pK] at hR;have HR:=ai hR;have HX:=ai hx;have kJ:=ai hna;have mF:=ai (fun (j:Nat) (hj:j<args.length) (xv:Value) (W:World) (hW:Ext w W) (qV:dw W args[j] xv)=>show Calls Tryz.prog 116 #[lv.val,xv] W (cz (.bool (pK s f V args[j])) W) from by
    rw[<-hvf];exact ihm args[j] xv W (by have h1:=eD args j hj;have h2:=dX args (j+1);omega) (by omega) (Rz _ (aD hj)) (RA j hj) (by rw[j9];exact RB j hj) (hl.ext hW) qV)
   have CW:=ai (fun (h3:op=3) (d:Nat) (hd:dz l name=some d) (xv:Value) (W:World) (hW:Ext w W) (qV:dw W (l.getD d fC).cond xv)=>ihg 300 (l.getD d fC).cond xv W (hc.cond (ju hd).1).2.2 (by omega) (hc.cond (ju hd).1).1 (hc.cond (ju hd).1).2.1 (TG h3 (by unfold Sj;rw[hd];rfl)) (hl.ext hW) qV);have HVV:=ai (show ∀d,dz l name=some d->V name=some (jN s l f g (l.getD d fC).cond) from fun d hd=>by rw[hV];simp only[hd];rfl);have Lg:=ai (show dz l name=none->V name=none from fun hd=>by rw[hV];simp only[hd];rfl);have Es:=ai hfw;clear hc qx hl hx hw hna hca ha hS hla ihg ihm hm RA Rz RB TG agE hok hnd hex he hR hvf hV hfw;obtain⟨sa,sn,sc,bm,fa,fn,fc⟩:=lv;unfold fN fT.val at *;simp only at *;obtain⟨wa,cN⟩:∃wa,wa=(w.alloc (.cells #[.slice sa sn sc,.map (some bm),.slice fa fn fc] 183)).alloc (.cells #[.int .i64 op,.string name,.slice aw nw cw,.int .i64 lo,.int .i64 hi,.slice aa na ca] 45):=⟨_,rfl⟩
   have gB:Ext w wa:=by rw[cN];exact((Tz _).alloc _).alloc _
   have hb0:wa.heap[w.heap.size]?=some (.cells #[.slice sa sn sc,.map (some bm),.slice fa fn fc] 183 (0,0)):=by rw[cN];exact bU (bR w _)
   have hb1:wa.heap[w.heap.size+1]?=some (.cells #[.int .i64 op,.string name,.slice aw nw cw,.int .i64 lo,.int .i64 hi,.slice aa na ca] 45 (0,0)):=by rw[cN];exact cT (by simp)
   have dm:=ai gB;have iO:=ai hb0;have gG:=ai hb1;obtain⟨f0,f1,f2,f3,f4,f5,ff⟩:=cX hb1;obtain⟨e0,e1,e2,ef⟩:=dM hb0;have kL:=bS hb1;clear gB hb0 hb1;have hmf:∀(fn:Fn) (first cap:Array Value) (w:World),(Instr.makeFunc fn first cap).run Tryz.prog w=.ok (.func fn first cap) w:=fun _ _ _ _=>rfl
   rcases GG with ⟨h6,hdn⟩|⟨rfl,hat,d,hdf⟩|⟨rfl,sA⟩|rfl|rfl
   case inr.inr.inl =>
    have hj:0<args.length:=by omega
    have HQ:=ai (show R=!(pK s f V args[0]) by
     rw[HR.o,bM rfl,aew,aT hj];rfl)
    have hnp:0<na:=by have:=kJ.o;omega
    obtain⟨b,off,rfl,nJ,nD,nG,nK,nE,nI,h0,h1,h2,h3,h4,h5,h6⟩:=eU.at args _ (eU.ext dm.o args _ HX.o) 0 hj;have HA0:=ai (mF.o 0 hj _ wa dm.o h6);simp only[Nat.zero_mul,Nat.add_zero] at h0 h1 h2 h3 h4 h5;obtain⟨B,hB⟩:∃B,B=pK s f V args[0]:=⟨_,rfl⟩
    rw[<-hB] at HQ HA0;unfold fN at HA0;clear sA hB mF CW h6;go_enter Tryz.func116,Tryz.ntmps116
    go_upto_region 1 with fail;rw[<-cN];clear cN;go_wp2_with fail;refine HA0.o.mono ?_;rintro r w3 ⟨rfl,hx3⟩;have dS:=ai (dm.o.trans hx3);clear hx3;go_wp2_with fail;go_ret;exact bW (by rw[HQ.o]) dS.o
   ·have t6:(op==6)=false:=by simp[h6.1]
    have t7:(op==7)=false:=by simp[h6.2.1]
    have t8:(op==8)=false:=by simp[h6.2.2]
    have HQ:=ai (show R=um s f op name words lo hi by
     rw[HR.o,bL h6.1,bL h6.2.1,bL h6.2.2];by_cases h3:op=3
     ·rw[bM h3,Lg.o (hdn h3)];rfl
     rw[bL h3])
    have aos:=ai (Eo.o (Es.o h6 hdn));obtain⟨B,hB⟩:∃B,B=um s f op name words lo hi:=⟨_,rfl⟩
    rw[<-hB] at HQ aos;have HDN:=ai hdn;clear h6 hdn hB mF CW Eo Es;go_enter Tryz.func116,Tryz.ntmps116
    go_upto_region 1 with fail;rw[<-cN];clear cN;go_wp2_with fail;refine(VN.o wa dm.o).mono ?_;rintro r w3 ⟨hx3,hq⟩;rcases hq with ⟨h3,d,v,hd,-⟩|⟨-,rfl⟩
    ·rw[HDN.o h3] at hd;cases hd
    have dS:=ai (dm.o.trans hx3);have wQ:=ai (hx3.blk iO.o);have nW:=ai (hx3.blk gG.o);clear f0 f1 f2 f3 f4 f5 ff e0 e1 e2 ef kL hx3;obtain⟨f0,f1,f2,f3,f4,f5,ff⟩:=cX nW.o;obtain⟨e0,e1,e2,ef⟩:=dM wQ.o;have kL:=bS nW.o;have lU:=bS wQ.o;unfold TU;go_wp2_with fail;refine(aos.o _ (dS.o.alloc _)).mono ?_;rintro r w5 ⟨rfl,dh⟩;have gW:=ai ((dS.o.alloc _).trans dh);clear dh;go_wp2_with fail;go_ret;exact bW (by rw[HQ.o]) gW.o
   ·have HQ:=ai (show R=jN s l f g (l.getD d fC).cond by
     rw[HR.o,bL (by decide),bL (by decide),bL (by decide),bM rfl,HVV.o d hdf];rfl)
    have HDF:=ai (CW.o rfl d hdf);obtain⟨B,hB⟩:∃B,B=jN s l f g (l.getD d fC).cond:=⟨_,rfl⟩
    rw[<-hB] at HQ HDF;have QM:=ai hdf;clear hat hdf hB mF CW Eo Es;go_enter Tryz.func116,Tryz.ntmps116
    go_upto_region 1 with fail;rw[<-cN];clear cN;go_wp2_with fail;refine(VN.o wa dm.o).mono ?_;rintro r w3 ⟨hx3,hq⟩;rcases hq with ⟨-,d',v,hd,rfl,hv⟩|⟨hd,-⟩
    case inr =>
     rcases hd with hd|hd
     ·exact a40 rfl hd
     rw[QM.o] at hd;cases hd
    rw[QM.o] at hd;obtain rfl:d=d':=by simpa using hd
    have dS:=ai (dm.o.trans hx3);have zq:=ai hv;clear f0 f1 f2 f3 f4 f5 ff e0 e1 e2 ef kL hx3 hv hd;have HDG:=ai (fun W (hW:Ext w3 W)=>HDF.o v.val W (dS.o.trans hW) (zq.o.ext hW));unfold dK.val fN at *;go_wp2_with fail;refine(HDG.o _ ((Tz w3).alloc _)).mono ?_;rintro r w5 ⟨rfl,dh⟩;have gW:=ai ((dS.o.alloc _).trans dh);clear dh;go_wp2_with fail;go_ret;exact bW (by rw[HQ.o]) gW.o
   ·have HQ:=ai (show R=args.all (pK s f V) by rw[HR.o,bL (by decide),bM rfl,xl]);clear CW Eo Es;go_enter Tryz.func116,Tryz.ntmps116
    go_upto_region 1 with fail;rw[<-cN];clear cN;go_wp2_with fail;clear f0 f1 f2 f3 f4 f5 ff e0 e1 e2 ef kL;go_loopw [34] (aXE s f V args na w) (fun i _=>na - (intOf i).toNat)
    case atStart=>exact⟨0,rfl,by omega,fun j _ h=>by omega,dm.o⟩
    case round =>
     obtain⟨k,rfl,hk,hall,lM⟩:=hrel;have mK:=ai hall;have gZ:=ai lM;clear hall lM;by_cases hkn:k<na
     ·have hka:k<args.length:=by have:=kJ.o;omega
      have t1:=ag ((k:Int)<(na:Int));obtain⟨b,off,rfl,nJ,nD,nG,nK,nE,nI,h0,h1,h2,h3,h4,h5,h6⟩:=eU.at args _ (eU.ext gZ.o args _ HX.o) k hka;have H6:=ai h6;have HAK:=ai (fun W (hW:Ext wr W)=>mF.o k hka _ W (gZ.o.trans hW) (H6.o.ext hW));obtain⟨B,hB⟩:∃B,B=pK s f V args[k]:=⟨_,rfl⟩
      rw[<-hB] at HAK;have jL:=ai hB;unfold fN at HAK;clear h6 hB;go_wp2_with fail;refine(HAK.o _ ((Tz wr).alloc _)).mono ?_;rintro r w3 ⟨rfl,hx3⟩;have dS:=ai ((gZ.o.alloc _).trans hx3);clear hx3 h0 h1 h2 h3 h4 h5;cases B
      ·have HF:=ai (show R=false by rw[HQ.o,List.all_eq_false];exact⟨_,aD hka,by rw[<-jL.o];simp⟩);go_wp2_with fail;go_ret;exact bW (by rw[HF.o]) dS.o
      go_wp2_with fail;go_roundw
      case rel =>
       refine⟨k+1,by go_num,by omega,fun j hj hjk=>?_,dS.o⟩;by_cases e:j=k
       ·subst e;exact jL.o.symm
       exact mK.o j hj (by omega)
      case measure=>simp[intOf];omega
     have t1:=ah ((k:Int)<(na:Int));have HF:=ai (show R=true by
      rw[HQ.o,aP];intro x hx;obtain⟨j,hj,rfl⟩:=bA hx;exact mK.o j hj (by have:=kJ.o;omega))
     go_wp2_with fail;go_ret;exact bW (by rw[HF.o]) gZ.o
   have HQ:=ai (show R=args.any (pK s f V) by rw[HR.o,bL (by decide),bL (by decide),bM rfl,xj]);have Vs:=ai (adL (.agg #[.slice sa sn sc,.map (some bm),.slice fa fn fc]) args aa na ca (pK s f V) wa kJ.o Ks (eU.ext dm.o args _ HX.o) fun j hj xv W hW qV=>mF.o j hj xv W (dm.o.trans hW) qV);obtain⟨B,hB⟩:∃B,B=args.any (pK s f V):=⟨_,rfl⟩
   rw[<-hB] at HQ Vs;unfold fvV at Vs;clear CW Eo Es hB;go_enter Tryz.func116,Tryz.ntmps116
   go_upto_region 1 with fail;rw[<-cN];clear cN;go_wp2_with fail;refine Vs.o.mono ?_;rintro r w3 ⟨rfl,hx3⟩;have dS:=ai (dm.o.trans hx3);clear hx3;go_wp2_with fail;go_ret;exact bW (by rw[HQ.o]) dS.o
def qI:Obj:=.cells #[.bool false,.int .i64 0,.slice none 0 0] 67 (0,0)
end Go.Proofs.YtefjomofjejklaaGreatDoor
