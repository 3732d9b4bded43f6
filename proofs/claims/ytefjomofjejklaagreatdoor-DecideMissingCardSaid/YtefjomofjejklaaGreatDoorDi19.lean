/- Joined. -/
import Derived.Test.YtefjomofjejklaaGreatDoorDi18
namespace Go.Proofs.YtefjomofjejklaaGreatDoor
set_option maxRecDepth 100000
set_option maxHeartbeats 32000000
open Go.RowKit Go.Maps
theorem atm:Tryz.prog.underlying 72=some (.map 9 48):=by kernel_rfl
def aMT (v:fM):Value:=.agg #[ v.kind,.string v.name,v.x.op,.string v.x.name,.slice v.x.aw v.x.nw v.x.cw,v.x.lo,v.x.hi,.slice v.x.aa v.x.na v.x.ca,.slice v.au v.nu v.cu,v.ck]
theorem aBa (w:World):(zeroValue 48).run Tryz.prog w=.ok (.agg #[.int .i64 0,.string ⟨#[]⟩,.int .i64 0,.string ⟨#[]⟩,.slice none 0 0,.int .i64 0,.int .i64 0,.slice none 0 0,.slice none 0 0,.int .i64 0]) w:=by kernel_rfl
def Im (w:World) (l:List cK) (g:BA->Option Value):Prop:=∀s,(dz l s=none->g s=none)/\∀d,dz l s=some d->∃v:fM,g s=some (aMT v)/\ij w (l.getD d fC) v
theorem Im.ext {w w':World} {l:List cK} {g:BA->Option Value} (h:Im w l g) (hx:Ext w w'):Im w' l g:=fun s=>⟨(h s).1,fun d hd=>by obtain⟨v,h1,h2⟩:=(h s).2 d hd;exact⟨v,h1,h2.mono hx.sub⟩⟩
theorem Im.skip {w:World} {l:List cK} {k:Nat} {g:BA->Option Value} (hk:k<l.length) (h:Im w (l.take k) g) (hs:l[k].kind≠1):Im w (l.take (k+1)) g:=by
 intro s;have key:dz (l.take (k+1)) s=dz (l.take k) s:=by
  rw[Qs hk];cases hd:dz (l.take k) s with
  | some d=>rfl
  | none=>rw[bL];rintro⟨h1,h2⟩;exact hs h1
 rw[key];refine⟨(h s).1,fun d hd=>?_⟩;have:d<k:=by have:=ot hd;simp at this;omega
 rw[getD_take (by omega),<-getD_take (k:=k) this];exact(h s).2 d hd
theorem Im.step {w:World} {l:List cK} {k:Nat} {g:BA->Option Value} (hk:k<l.length) (h:Im w (l.take k) g) (uk:l[k].kind=1) (hn:dz (l.take k) l[k].name=none) {v:fM} (hv:ij w l[k] v):Im w (l.take (k+1)) (upS g l[k].name (some (aMT v))):=by
 intro s;rw[Qs hk];by_cases e:s=l[k].name
 ·subst e;rw[hn,xY];simp only[uk,and_self,if_true];refine⟨fun h=>by simp at h,fun d hd=>?_⟩;obtain rfl:k=d:=by simpa using hd
  rw[getD_take (by omega),fJ hk];exact⟨v,rfl,hv⟩
 rw[sR _ _ e];cases hd:dz (l.take k) s with
 | none =>
  have:¬(l[k].kind=1/\l[k].name=s):=fun h=>e h.2.symm
  simp only[bL this];exact⟨fun _=>(h s).1 hd,fun d hd'=>by cases hd'⟩
 | some d =>
  have hdk:d<k:=by have:=ot hd;simp at this;omega
  refine⟨fun h=>by simp at h,fun d' hd'=>?_⟩;obtain rfl:d=d':=by simpa using hd'
  rw[getD_take (by omega),<-getD_take (k:=k) hdk];exact(h s).2 d hd
structure AA (w:World) (s:List Attr) (l:List cK) (f:ZI) (v:fT) (n:Nat):Prop where
 x7:dB w s (.agg #[.slice v.sa v.sn v.sc])
 defs:∃g,ig w 9 v.bm n (kV g)/\Im w l g
 ints:dG w f v.fa v.fn
theorem AA.ext {w w':World} {s:List Attr} {l:List cK} {f:ZI} {v:fT} {n:Nat} (h:AA w s l f v n) (hx:Ext w w'):AA w' s l f v n:=⟨h.x7.ext hx,by obtain⟨g,h1,h2⟩:=h.defs;exact⟨g,h1.ext hx,h2.ext hx⟩,h.ints.ext hx⟩
noncomputable def jP (s:List Attr) (l:List cK) (f:ZI):Int:=if (cV s l).2≠0 then (cV s l).2 else if jU s f=false then 16 else 0
def as2 (s:List Attr) (l:List cK) (f:ZI) (n:Nat) (w:World) (r:Ending) (w':World):Prop:=Ext w w'/\((jP s l f≠0/\r=.returned (.tuple #[oM,.int .i64 (jP s l f)]))\/(jP s l f=0/\∃lv:fT,r=.returned (.tuple #[lv.val,.int .i64 0])/\AA w' s l f lv n))
theorem KM (s:List Attr) (l:List cK) (f:ZI) (sv:Value) (a:OA) (n c:Nat) (fa:OA) (fn fc:Nat) (w:World) (hs:dB w s sv) (hf:∀x∈s,x.fits) (hsl:s.length<=1000000000000000) (hl:cZ w l a n c) (hn:n<=1000000) (hok:∀x∈l,x.fit) (hi:dG w f fa fn) (hfn:fn<=1000000000000000) (ho:dQ w) :
  Calls Tryz.prog 27 #[sv,.slice a n c,.slice fa fn fc] w (as2 s l f n w):=by
 obtain⟨sa,sn,sc,rfl,B6⟩:=hs.slice;have qC:=ai (fun W (hW:Ext w W)=>vY s l _ a n c W (hs.ext hW) hf hsl (hl.ext hW) (by omega) hok (ho.ext hW));have Eo:=ai (fun W (hW:Ext w W)=>Ph s _ f fa fn fc W (hs.ext hW) hf hsl (hi.ext hW) hfn);have qw:=ai (fun (h1:(cV s l).2=0)=>lK h1);have HL:=ai hl;have HS:=ai hs;have HI:=ai hi;have tR:=ai (fun x hx=>(hok x hx).1);have HN:=ai hl.len;obtain⟨R,hR⟩:∃R,R=jP s l f:=⟨_,rfl⟩
 unfold as2;rw[<-hR];unfold jP at hR;obtain⟨⟨i0,E1⟩,xK⟩:∃E:Nat×Int,E=cV s l:=⟨_,rfl⟩
 rw[<-xK] at qC hR;have aF':=ai (fun (h1:E1=0)=>qw.o (by rw[<-xK];exact h1));clear qw;obtain⟨B,hB⟩:∃B,B=jU s f:=⟨_,rfl⟩
 rw[<-hB] at Eo hR;have HR:=ai hR;clear hs hf hsl hl hok hi B6 hR xK hB ho;obtain⟨wa,cN⟩:∃wa,wa=(w.alloc (.cells #[.slice sa sn sc] 24)).alloc (.cells #[.slice none 0 0,.map none,.slice none 0 0] 74):=⟨_,rfl⟩
 have gB:Ext w wa:=by rw[cN];exact((Tz _).alloc _).alloc _
 have iO:=ai (show wa.heap[w.heap.size]?=some (.cells #[.slice sa sn sc] 24 (0,0)) by rw[cN];exact bU (bR w _));have fY:=ai (show wa.heap[w.heap.size+1]?=some (.cells #[.slice none 0 0,.map none,.slice none 0 0] 74 (0,0)) by rw[cN];exact cT (by simp));have dm:=ai gB;obtain⟨e0,ef⟩:=dO iO.o;clear gB;unfold T3 at qC;go_enter Tryz.func27,Tryz.ntmps27
 go_upto_region 1 with fail
 rw[<-cN];clear cN;go_wp2_with fail
 refine(qC.o wa dm.o).mono ?_;rintro r w1 ⟨rfl,hx1⟩;have dI:=ai (dm.o.trans hx1);have wQ:=ai (hx1.blk iO.o);have Ls:=ai (hx1.blk fY.o);clear hx1 e0 ef qC iO fY;by_cases h1:E1=0
 case neg =>
  have t1:(E1 != 0)=true:=by simp[h1]
  have HQ:=ai (show R=E1 by rw[HR.o,bM h1]);have HNZ:=ai h1;clear h1;obtain⟨r0,r1,r2,rf⟩:=dM Ls.o;go_wp2_with fail
  obtain⟨wz,eV⟩:∃wz,wz=kW w1 (w.heap.size+1) (.slice none 0 0) (.map none) (.slice none 0 0):=⟨_,rfl⟩
  have HZ:=ai (show wz.heap[w.heap.size+1]?=some (.cells #[.slice none 0 0,.map none,.slice none 0 0] 74 (0,0)) by rw[eV];exact rW Ls.o _ _ _);have tA:=ai (show Ext w wz by rw[eV];exact(rV w1 (w.heap.size+1) (.slice none 0 0) (.map none) (.slice none 0 0) (N:=[w.heap.size+1]) (by simp)).ext dI.o (fun y hy=>by simp only[aG] at hy;omega));unfold kW at eV;rw[<-eV];clear eV;obtain⟨z0,z1,z2,zf⟩:=dM HZ.o;refine a5a (v:=.tuple #[oM,E1]) (by simp[results,Tryz.results27,go_sem,oM,z0,z1,z2]) rfl ?_;exact⟨tA.o,aoX ⟨by rw[HQ.o];exact HNZ.o,by rw[HQ.o]⟩⟩
 have t1:(E1 != 0)=false:=by simp[h1]
 have sI:=ai (show R=if B=false then 16 else 0 by rw[HR.o,bL (by simpa using h1)]);have qw:=ai (aF'.o h1);clear h1 HR aF';have dS:=dI;obtain⟨e0,ef⟩:=dO wQ.o;go_wp2_with fail
 refine(Eo.o w1 dS.o).mono ?_;rintro r w4 ⟨rfl,gV⟩;have jl:=ai (dS.o.trans gV);have aA0:=ai (gV.blk wQ.o);have aoz:=ai (gV.blk Ls.o);clear gV e0 ef Eo;cases B
 case false =>
  have HQ:=ai (show R=16 by rw[sI.o];rfl);obtain⟨r0,r1,r2,rf⟩:=dM aoz.o;go_wp2_with fail
  obtain⟨wz,eV⟩:∃wz,wz=kW w4 (w.heap.size+1) (.slice none 0 0) (.map none) (.slice none 0 0):=⟨_,rfl⟩
  have HZ:=ai (show wz.heap[w.heap.size+1]?=some (.cells #[.slice none 0 0,.map none,.slice none 0 0] 74 (0,0)) by rw[eV];exact rW aoz.o _ _ _);have tA:=ai (show Ext w wz by rw[eV];exact(rV w4 (w.heap.size+1) (.slice none 0 0) (.map none) (.slice none 0 0) (N:=[w.heap.size+1]) (by simp)).ext jl.o (fun y hy=>by simp only[aG] at hy;omega));unfold kW at eV;rw[<-eV];clear eV;obtain⟨z0,z1,z2,zf⟩:=dM HZ.o;refine a5a (v:=.tuple #[oM,.int .i64 16]) (by simp[results,Tryz.results27,go_sem,oM,z0,z1,z2]) rfl ?_;exact⟨tA.o,aoX ⟨by rw[HQ.o];decide,by rw[HQ.o]⟩⟩
 have HQ:=ai (show R=0 by rw[sI.o];rfl);have hmm:=@run_makeMap Tryz.prog;have Uj:=ai (ig.made w4 9);have BO:=ai ((Tz w4).alloc (.map #[] 0));obtain⟨bf,Qd⟩:∃bf:Nat,bf=w4.heap.size:=⟨_,rfl⟩
 have HBF:=ai Qd;have wP:=ai (show w.heap.size+1<bf by rw[Qd];exact bS aoz.o);go_wp2_with fail
 rw[<-Qd];rw[<-Qd] at Uj;clear Qd hmm;go_loopw [31] (fun i wr=>∃(k:Nat) (g:BA->Option Value),k<=n/\i=.int .i64 k/\ig wr 9 bf k (kV g)/\Im w (l.take k) g/\wr.heap[w.heap.size]?=some (.cells #[.slice sa sn sc] 24 (0,0))/\wr.heap[w.heap.size+1]?=some (.cells #[.slice none 0 0,.map none,.slice none 0 0] 74 (0,0))/\Ext w wr) (fun i _=>n - (intOf i).toNat)
 case atStart =>
  refine⟨0,fun _=>none,by omega,rfl,Uj.o.congr fun x=>?_,fun s=>⟨fun _=>rfl,fun d hd=>?_⟩,BO.o.blk aA0.o,BO.o.blk aoz.o,jl.o.trans BO.o⟩
  ·cases x<;>simp[kV]
  simp[dz] at hd
 case round =>
  obtain⟨k,g,hk,rfl,hmap,hg,hb0,hb2,hx⟩:=hrel;have En:=ai hmap;have HX:=ai hx;have HG:=ai hg;have oF:=ai hb0;have Af:=ai hb2;have qL:=hmap.lt;clear hmap hx hg Uj BO hb0 hb2;by_cases hlt:k<n
  ·have hlt':k<l.length:=by have:=HN.o;omega
   have t1:=ag ((k:Int)<(n:Int));obtain⟨cb,ld,v,rfl,fO,hrow⟩:=HL.o.at hlt';obtain⟨c0,c1,c2,c3,c4,c5,c6,c7,c8,c9⟩:=(hrow.mono HX.o.sub).BB;have zP:v.name.size<=1000000000000000:=by rw[fO.2.1];exact tR.o _ (aD hlt')
   have DK:=eB c0;simp only at DK;have aOx:=ai fO;have HEK:=ai (show l[k].kind=v.kind from fO.1.symm);have Li:=ai (show l[k].name=v.name from fO.2.1.symm);have HFR:=ai (qw.o.fresh hlt');rw[Li.o] at HFR;have HST:=ai (fun h1 h2=>HG.o.step hlt' h1 h2 aOx.o);have Na:=ai (HG.o.skip hlt');rw[HEK.o,Li.o] at HST;rw[HEK.o] at Na;clear fO hrow;cases tC:(v.kind==1)
   ·have Nd:=ai (Na.o (by simpa using tC));go_wp2_with fail
    go_roundw
    case rel =>
     have gB:=(Tz wr).alloc (.cells #[ v.kind,.string v.name,v.x.op,.string v.x.name,.slice v.x.aw v.x.nw v.x.cw,v.x.lo,v.x.hi,.slice v.x.aa v.x.na v.x.ca,.slice v.au v.nu v.cu,v.ck] 48);exact⟨k+1,g,by omega,by go_num,(En.o.ext gB).more (by omega),Nd.o,gB.blk oF.o,gB.blk Af.o,HX.o.trans gB⟩
    case measure=>simp[intOf];omega
   have Nd:=ai (HST.o (by simpa using tC) HFR.o);go_wp2_with (at_mapUpdate;refine lR _ rfl _ _ _ 72 rfl 9 48 gU atm bf k _ rfl (En.o.ext ((Tz wr).alloc _)) ?c3 _ _ _ rfl rfl (lB zP) trivial ?_)
   case c3=>unfold maxLen;omega
   intro w6 hm1 hc1;have gB:=(Tz wr).alloc (.cells #[ v.kind,.string v.name,v.x.op,.string v.x.name,.slice v.x.aw v.x.nw v.x.cw,v.x.lo,v.x.hi,.slice v.x.aa v.x.na v.x.ca,.slice v.au v.nu v.cu,v.ck] 48);have hxm:Ext w w6:=hc1.ext (HX.o.trans gB) (fun y hy=>by simp only[aG] at hy;have:=wP.o;omega);have aGo:=ai (hc1.blk (gB.blk oF.o) (by have:=wP.o;simp;omega));have ah7:=ai (hc1.blk (gB.blk Af.o) (by have:=wP.o;simp;omega));have WO:=ai (hm1.congr (Dm g v.name _));have dI:=ai hxm;clear hm1 hc1 gB hxm;go_wp2_with fail
   go_roundw
   case rel=>exact⟨k+1,_,by omega,by go_num,WO.o,Nd.o,aGo.o,ah7.o,dI.o⟩
   case measure=>simp[intOf];omega
  have t1:=ah ((k:Int)<(n:Int));have Nd:=ai (show k=n by omega);obtain⟨e0,ef⟩:=dO oF.o;obtain⟨r0,r1,r2,rf⟩:=dM Af.o;go_wp2_with fail
  obtain⟨wz,eV⟩:∃wz,wz=kW wr (w.heap.size+1) (.slice sa sn sc) (.map (some bf)) (.slice fa fn fc):=⟨_,rfl⟩
  have HZ:=ai (show wz.heap[w.heap.size+1]?=some (.cells #[.slice sa sn sc,.map (some bf),.slice fa fn fc] 74 (0,0)) by rw[eV];exact rW Af.o _ _ _);have U0:ct [w.heap.size+1] wr wz:=by rw[eV];exact rV wr (w.heap.size+1) (.slice sa sn sc) (.map (some bf)) (.slice fa fn fc) (by simp)
  have tA:=ai (U0.ext HX.o (fun y hy=>by simp only[aG] at hy;omega));have HLZ:=ai (show AA wz s l f ⟨sa,sn,sc,bf,fa,fn,fc⟩ n from⟨HS.o.ext tA.o,by
   exact⟨g,by rw[<-Nd.o];exact En.o.cR U0 (by have:=wP.o;simp;omega),by have:=HG.o.ext tA.o;rwa [aS (by have:=HN.o;omega)] at this⟩,HI.o.ext tA.o⟩)
  unfold kW at eV;rw[<-eV];clear eV U0;obtain⟨z0,z1,z2,zf⟩:=dM HZ.o;refine a5a (v:=.tuple #[fT.val ⟨sa,sn,sc,bf,fa,fn,fc⟩,.int .i64 0]) (by simp[results,Tryz.results27,go_sem,fT.val,z0,z1,z2]) rfl ?_;exact⟨tA.o,a4Z ⟨by rw[HQ.o],_,rfl,HLZ.o⟩⟩
theorem Used.atp {l:List cK} {e:Ex} {u:List cK} (h:Used l e u) (hx:dV l e<=2000):vZ (u.map cK.tV):=by
 have hmax:∀k,∀o,RH (u.map cK.tV) o->lY (u.map cK.tV) - o.length<=k->∃o,RH (u.map cK.tV) o/\∀i,iD (u.map cK.tV) i=true->i∉o->mY (u.map cK.tV) o i≠[]:=by
  intro k;induction k with
  | zero =>
   intro o ho hk;refine⟨o,ho,fun i hd hi=>?_⟩;have:=ho.lt hd hi;omega
  | succ k ih =>
   intro o ho hk;by_cases hs:∀i,iD (u.map cK.tV) i=true->i∉o->mY (u.map cK.tV) o i≠[]
   ·exact⟨o,ho,hs⟩
   obtain⟨i,hd,hi,hm⟩:∃i,iD (u.map cK.tV) i=true/\i∉o/\mY (u.map cK.tV) o i=[]:=by
    refine Classical.byContradiction fun hn=>hs fun i h1 h2 h3=>hn ⟨i,h1,h2,h3⟩
   refine ih (o++[i]) (ho.snoc hd hi hm) ?_;have:=ho.lt hd hi;simp only[bg,List.length_singleton];omega
 obtain⟨o,ho,hs⟩:=hmax _ [] (RH.start _) (aU _);refine⟨o,ho.done fun i hd=>Classical.byContradiction fun hi=>?_⟩;have adI:∀f i,(hi:i<u.length)->i∉o->jT u f u[i].cond=2001:=by
  intro f;induction f with
  | zero=>intro i _ _;rfl
  | succ f ih =>
   intro i hi hio;have GL:iD (u.map cK.tV) i=true:=by rw[sY hi,(h.defs _ (aD hi)).1];rfl
   obtain⟨s,hs⟩:=List.exists_mem_of_ne_nil _ (hs i GL hio);obtain⟨h1,d,h2,h3⟩:=yh.1 hs;rw[xm hi,sx] at h1;rw[rA] at h2;have hdl:=ot h2;refine ad9 h1 h2 ?_;rw[fJ hdl];exact ih d hdl h3
 have hil:i<u.length:=by simpa using mz hd
 obtain⟨_,d,h1,h2,h3⟩:=h.defs _ (aD hil);have:=h3.large (fun f=>by
  rw[<-h2,<-h.same f u[i].cond (h.closed _ (aD hil))];exact adI f i hil hi) (l.length+1)
 unfold dV at hx;omega
theorem Used.size {l:List cK} {e:Ex} {u:List cK} (h:Used l e u) (hs:vZ (u.map cK.tV)) {x:Ex} (hx:∀s∈fX x,∀d,Proofs.YtefjomofjejklaaGreatDoor.dz l s=some d->s∈u.map (·.name)):dV u x=dV l x:=by
 obtain⟨o,ht⟩:=hs;unfold dV;rw[<-h.same (l.length+1) x hx,jT,jT];refine tN _ fun s hs=>?_
 cases hd:Proofs.YtefjomofjejklaaGreatDoor.dz u s with
 | none=>rfl
 | some i =>
  have hi:=ot hd;have hio:i∈o:=(ht.all i).2 (by rw[sY hi,(h.defs _ (aD hi)).1];rfl);obtain⟨q,hq⟩:=List.mem_iff_getElem?.1 hio;have hql:q<o.length:=(List.getElem?_eq_some_iff.1 hq).1;have h1:=ht.len;have h2:=h.len;simp only[List.length_map] at h1;simp only[Option.map_some,a42];exact Mh ht q i hq _ _ (by omega) (by omega)
theorem Used.jN {l:List cK} {e:Ex} {u:List cK} (h:Used l e u) (s:List Attr) (f:ZI):∀k x,(∀t∈fX x,∀d,Proofs.YtefjomofjejklaaGreatDoor.dz l t=some d->t∈u.map (·.name))->Proofs.YtefjomofjejklaaGreatDoor.jN s u f k x=Proofs.YtefjomofjejklaaGreatDoor.jN s l f k x:=by
 intro k;induction k with
 | zero=>intro x _;rfl
 | succ k ih =>
  intro x hx;rw[Proofs.YtefjomofjejklaaGreatDoor.jN,Proofs.YtefjomofjejklaaGreatDoor.jN];refine JK _ fun t ht=>?_
  cases hd:Proofs.YtefjomofjejklaaGreatDoor.dz l t with
  | none=>rw[h.only hd];rfl
  | some d =>
   obtain⟨i,d',hi,h1,h2,h3⟩:=h.at (hx t ht d hd);rw[hd] at h2;cases h2
   rw[h1];simp only[Option.map_some,h3,a42];refine ih _ fun t2 ht2 d2 qd=>?_
   rw[<-h3,fJ hi] at ht2;exact h.closed _ (aD hi) t2 ht2 d2 qd
theorem Used.nodes {l:List cK} {e:Ex} {u:List cK} (h:Used l e u) (s:List Attr):(x:Ex)->(∀t∈fX x,∀d,Proofs.YtefjomofjejklaaGreatDoor.dz l t=some d->t∈u.map (·.name))->dr s u x=dr s l x
 | .mk op name words lo hi args,hx=>by
  have hn:fB s u op name words lo hi=fB s l op name words lo hi:=by
   unfold fB;by_cases h3:op=3
   ·rw[bM h3,bM h3];cases eO s name with
    | some i=>rfl
    | none =>
     cases hd:Proofs.YtefjomofjejklaaGreatDoor.dz l name with
     | none=>rw[h.only hd]
     | some d =>
      obtain⟨i,_,_,h1,_⟩:=h.at (hx name (by rw[fX,h3];simp) d hd);rw[h1]
      rfl
   rw[bL h3,bL h3]
  rw[dr,dr,hn,Kf args fun t ht=>hx t (by rw[fX];exact aL _ ht)]
where
 Kf:(r:List Ex)->(∀t∈iH r,∀d,Proofs.YtefjomofjejklaaGreatDoor.dz l t=some d->t∈u.map (·.name))->dZ s u r=dZ s l r
  | [],_=>by rw[dZ,dZ]
  | x::r,hx=>by
   rw[dZ,dZ,Used.nodes h s x fun t ht=>hx t (by rw[iH];exact aK _ ht),Kf r fun t ht=>hx t (by rw[iH];exact aL _ ht)]
theorem Vg {s:List Attr} {l:List cK} (h:(cV s l).2=0):∀c∈l,gQ c=true:=by
 have hc:=lK h;unfold cV at h;rw[bL (by simp[hc.x7]),bL (by have:=hc.len;omega)] at h;by_cases h3:(kZ (jE s l) l.length).2≠0
 ·rw[bM h3] at h;exact a40 h h3
 have h1:=kO l.length (by simpa using h3);intro c hc;obtain⟨i,hi,rfl⟩:=bA hc;have g:=h1 i hi;unfold jE at g;rw[ry hi] at g;by_cases q1:gQ l[i]=false
 ·rw[bM q1] at g;cases g
 simpa using q1
def Ee (l:List cK) (e:Ex) (u:List cK):Prop:=Used l e u/\∀c∈u,c∈l
theorem Ee.err {s:List Attr} {l:List cK} {e:Ex} {u:List cK} (h:Ee l e u) (hc:(cV s l).2=0) (hx:dV l e<=2000):(cV s u).2=0:=by
 obtain⟨hu,hm⟩:=h;have hck:=lK hc;have Yu:=hu.atp hx;have hlen:u.length<=l.length:=hu.len
 have hdf:∀c∈u,gQ c=true/\eO s c.name=none/\dr s l c.cond=0/\c.gH=[]/\dV l c.cond<=2000:=by
  intro c hcu;obtain⟨q1,q2,q3,q4,q5⟩:=hck.good c (hm c hcu);have hcb:=(Vg hc) c (hm c hcu);have hk:=(hu.defs c hcu).1;refine⟨hcb,q5,q2,?_,hck.exp c (hm c hcu)⟩;simp only[gQ,aF,bG,aH,a47] at hcb;obtain⟨⟨_,a5⟩,_⟩:=hcb;rcases a5 with a5|⟨⟨b1,_⟩,_⟩
  ·exact aR a5
  omega
 have hz:∀i,i<u.length->jE s u i=0:=by
  intro i hi;have hcu:=aD hi;obtain⟨q1,q2,q3,q4,q5⟩:=hdf _ hcu;unfold jE;rw[fJ hi];rw[bL (by simp[q1]),bL ?_,bL (by simp[q2]),bL ?_,q4]
  ·rw[fG]
  ·rw[hu.nodes s u[i].cond (hu.closed _ hcu),q3];simp
  have:findAt u u[i].name=some i:=by
   unfold findAt;rw[aJ];refine⟨hi,by simp,fun j hj=>?_⟩;have:=(List.pairwise_iff_getElem.1 hu.names) j i (by simp;omega) (by simpa using hi) hj;simpa using this
  rw[this];simp
 have hg:∀i,i<u.length->jQ u i=0:=by
  intro i hi;have hcu:=aD hi;obtain⟨_,_,_,q4,q5⟩:=hdf _ hcu;unfold jQ;rw[fJ hi,q4,hu.size Yu (hu.closed _ hcu),bL];rw[eH];simp;omega
 unfold cV;rw[bL (by simp[hck.x7]),bL (by have:=hck.len;omega),kz _ hz];rw[bL (by simp),bL (by simp[Yu]),kz _ hg]
theorem Ee.eval {s:List Attr} {l:List cK} {e:Ex} {u:List cK} {f:ZI} (h:Ee l e u) (hc:(cV s l).2=0) (hr:eW e=true) (hn:dr s l e=0) (hx:dV l e<=2000) (hf:jU s f=true):jM s u e f=0/\val s u f e=val s l f e:=by
 have h1:=h.err hc hx;obtain⟨hu,hm⟩:=h;have Yu:=hu.atp hx;have hsz:=hu.size Yu hu.top;have hck:=lK hc;refine⟨?_,?_⟩
 ·unfold jM;rw[bL (by simp[h1]),bL ?_,bL (by omega),bL (by simp[hf])];unfold qu;rw[bL (by simp[hck.x7]),zV,bL (by simp[hr]),hu.nodes s e hu.top,hn];simp
 unfold val;have hle:=hu.len;rw[Sv s u f (u.length+1) (l.length+1) e (by unfold dV at hsz hx;omega) (by omega),hu.jN s f (l.length+1) e hu.top]
theorem atn:Tryz.prog.underlying 186=some (.map 9 4):=by kernel_rfl
theorem aBb (w:World):(zeroValue 4).run Tryz.prog w=.ok (.bool false) w:=by kernel_rfl
theorem QV (w:World) {ops:Array Oper} {rest:List Oper} {o:Oper} {a:Act} {Q:Exit->Act->World->Prop} (hw:Region.wanted o (yielded ops a.tmps)=true) (m x:Operand) (t:TypeId) (hop:o.op=Op.lookup t m x false) (k e:TypeId) (K:Keyed Tryz.prog k) (ht:Tryz.prog.underlying t=some (.map k e)) {z:Value} (hz:(zeroValue e).run Tryz.prog w=.ok z w) (b n:Nat) (f:Lit->Option Value)
  (hm:a.eval m=.map (some b)) (hmap:ig w k b n f) (key:Value) (kl:Lit) (hx:a.eval x=key) (hkey:keyOf Tryz.prog k key=some kl) (fq:WideAt.IsKeyLit kl)
  (hK:wpList Tryz.prog ops Q rest (a.put o.dst ((f kl).getD z)) w):wpList Tryz.prog ops Q (o::rest) a w:=by
 obtain⟨D,hown,hf⟩:=hmap;refine wpList_step fun K' hK'=>?_
 rw[bM hw];obtain⟨v,ps,hrun,hv⟩:=hown.lookup K ht hz (zd:=.held z) (zp:=[]) rfl hkey;have e1:DataW.held v=D.atKey kl (.held z):=by
  simp only[Oh,a42,Prod.mk.injEq] at hv;exact hv.1
 rw[<-hf.at fq e1] at hK;unfold Oper.wp;simp[execOp,hop,hm,hx,hrun,Result.andThen];exact hK' _ _ hK
open Classical in
noncomputable def memT (M:BA->Prop):BA->Option Value:=fun s=>if M s then some (.bool true) else none
theorem ayU (m:BA->Prop) (x:BA) (y:Lit):Rw (kV (memT m)) (.string x.data.toList) (some (.bool true)) y=kV (memT fun z=>z=x\/m z) y:=by
 rw[Dm]
 congr 1
 funext z
 by_cases h:z=x
 ·subst h;rw[xY];simp[memT]
 rw[sR _ _ h];by_cases hm:m z<;>simp[memT,h,hm]
structure UsS (w:World) (lo:fT) (lv:Value) (u:List cK) (vs:List fM) (wr:World):Prop where
 ext:Ext w wr
 OV:vG w u vs
 own:wr.ownsRow (w.heap.size+5) 48 10 lv u.length (vs.flatMap fM.cells)
 seen:ig wr 9 (w.heap.size+3) u.length (kV (memT fun s=>s∈ye u))
 bx:wr.heap[w.heap.size]?=some (.cells #[.slice lo.sa lo.sn lo.sc,.map (some lo.bm),.slice lo.fa lo.fn lo.fc] 74 (0,0))
 bl:wr.heap[w.heap.size+2]?=some (.cells #[lv] 25 (0,0))
 bq:wr.heap[w.heap.size+4]?=some (.cells #[.map (some (w.heap.size+3))] 186 (0,0))
theorem UsS.Ot {w:World} {lo:fT} {lv:Value} {u:List cK} {vs:List fM} {wr wr':World} (h:UsS w lo lv u vs wr) (hx:Ext wr wr'):UsS w lo lv u vs wr' :=
 ⟨h.ext.trans hx,h.OV,cO h.own (hx.cR []) (by simp),h.seen.ext hx,hx.blk h.bx,hx.blk h.bl,hx.blk h.bq⟩
theorem UsS.step {w W w3 w8:World} {lo:fT} {lv lv':Value} {u:List cK} {vs:List fM} (h:UsS w lo lv u vs W) {c:cK} {cv:fM} (hcv:ij w c cv)
  (hm:ig w3 9 (w.heap.size+3) (u.length+1) (Rw (kV (memT fun s=>s∈ye u)) (.string c.name.data.toList) (some (.bool true)))) (hc3:ct [w.heap.size+3] W w3)
  (ho8:w8.ownsRow (w.heap.size+5) 48 10 lv' (u.length+1) (vs.flatMap fM.cells++cv.cells)) (iI:ct (rowOf lv) w3 w8) :
  UsS w lo lv' (u++[c]) (vs++[cv]) (w8.setCell ⟨w.heap.size+2,0,none⟩ lv')/\(∀q,q<w.heap.size->True):=by
 have vH:ct [w.heap.size+2] w8 (w8.setCell ⟨w.heap.size+2,0,none⟩ lv'):=(ct.refl _ _).setCell (aoX (by simp)) _;have hr:∀q∈rowOf lv,w.heap.size+5<=q:=fun q hq=>(h.own.lt q (bV.1 hq)).1
 have hr':∀q,lv'.ownBlock=some q->w.heap.size+5<=q:=fun q hq=>(ho8.lt q hq).1
 refine⟨{
  ext:=vH.ext (iI.ext (hc3.ext h.ext (by simp)) fun q hq=>by have:=hr q hq;omega) (by simp)
  OV:=h.OV.snoc hcv
  own:=by
   have:=cO ho8 vH fun q hq hm=>by
    have:=hr' q hq;simp only[aG] at hm;omega
   simpa using this
  seen:=by
   have:=((hm.cR iI fun hm=>by have:=hr _ hm;omega).cR vH (by simp)).congr (ayU _ c.name);refine(show (u++[c]).length=u.length+1 by simp) ▸ this.congr fun y=>?_
   congr 2
   funext z
   rw[Kg];simp[or_comm]
  bx:=vH.blk (iI.blk (hc3.blk h.bx (by simp)) fun hm=>by have:=hr _ hm;omega) (by simp)
  bl:=aI w8 _ 0 _ _ lv' (iI.blk (hc3.blk h.bl (by simp)) fun hm=>by have:=hr _ hm;omega)
  bq:=vH.blk (iI.blk (hc3.blk h.bq (by simp)) fun hm=>by have:=hr _ hm;omega) (by simp) },fun _ _=>trivial⟩
theorem RPi.first {l:List cK} (e:Ex) (ns:ZB):RPi l e [] [] e ns 0:=⟨by simp,by simp[ye],a4Z (aoX rfl),by simp,by simp,aoX rfl,fun i _ h=>by omega,by simp⟩
theorem RP.aVV {l:List cK} {e:Ex} {u:List cK} {xs:List Ex} {x:Ex} (h:RP l e u (x::xs)) (ns:ZB):RPi l e u xs x ns 0:=by
 refine⟨h.defs,h.names,?_,fun c hc=>?_,fun y hy=>h.stack y (by simp[hy]),h.stack x (by simp),fun i _ h=>by omega,by have:=h.SH;simpa using this⟩
 ·rcases h.top with h1|h1
  ·rcases bz.1 h1 with h2|h2
   ·exact a4Z (aoX h2)
   exact aoX h2
  exact a4Z (a4Z h1)
 rcases h.closed c hc with h1|h1
 ·rcases bz.1 h1 with h2|h2
  ·exact a4Z (aoX h2)
  exact aoX h2
 exact a4Z (a4Z h1)
def aVl (w:World) (lo:fT) (l:List cK) (e:Ex) (u:List cK) (xs:List Ex) (r:Ending) (w':World):Prop:=r=.returned (.tuple #[])/\∃t lv' vs',UsS w lo lv' (u++t) vs' w'/\RP l e (u++t) (xs++t.map (·.cond))/\∀c∈t,c∈l
theorem aoV (l:List cK) (e x:Ex) (ev:Value) (lo:fT) (n:Nat) (w W:World) (g:BA->Option Value) (lv:Value) (u:List cK) (vs:List fM) (xs:List Ex) (hmp:ig w 9 lo.bm n (kV g)) (hdg:Im w l g) (hl:l.length<=100000) (hx:dw W x ev) (hxs:x.size<=100000/\x.fits) (hus:UsS w lo lv u vs W) (hrp:RPi l e u xs x (jB (fX x)) 0) :
  Calls Tryz.prog 117 #[ev,.pointer (some ⟨w.heap.size,0,none⟩),.pointer (some ⟨w.heap.size+4,0,none⟩),.pointer (some ⟨w.heap.size+2,0,none⟩)] W (aVl w lo l e u xs):=by
 obtain⟨aw,nw,cw,aa,na,ca,rfl,-⟩:=hx.parts;have En:=ai hmp;have HDG:=ai hdg;have HE:=ai hx;have HUS:=ai hus;have HRP:=ai hrp;have Jm:=ai hxs;clear hmp hdg hx hus hrp hxs;unfold fN;obtain⟨wa,cN⟩:∃wa,wa=W.alloc (.cells #[ x.op,.string x.name,.slice aw nw cw,x.lo,x.hi,.slice aa na ca] 45):=⟨_,rfl⟩
 have gB:Ext W wa:=by rw[cN];exact(Tz _).alloc _
 obtain⟨f0,f1,f2,f3,f4,f5,ff⟩:=cX (show wa.heap[W.heap.size]?=some (.cells #[ x.op,.string x.name,.slice aw nw cw,x.lo,x.hi,.slice aa na ca] 45 (0,0)) by rw[cN];exact bR W _);have HUA:=ai (HUS.o.Ot gB);have HEA:=ai (HE.o.ext gB);clear gB HUS HE;go_enter Tryz.func117,Tryz.ntmps117
 go_upto_region 1 with fail
 rw[<-cN];clear cN;go_wp2_with fail
 refine(BD x _ wa (by have:=Jm.o.1;omega) Jm.o.2 HEA.o).mono ?_;obtain⟨ns,zP⟩:∃ns,ns=jB (fX x):=⟨_,rfl⟩
 have AQ:=ai (show ∀s,s∈ns ↔ s∈fX x by intro s;rw[zP,sx]);rw[<-zP] at HRP ⊢;have G7:=ai (show ∀s∈ns,s.size<=1000000000000000 from fun s hs=>UI x Jm.o.2 s ((AQ.o s).1 hs));have hnl:ns.length<=100000:=by rw[zP];exact aV (FY _) (aV (zM _) Jm.o.1)
 clear zP;rintro r w5 ⟨sa,sc,rfl,hst,dh,hfr⟩;have HST:=ai hst;have HU5:=ai (HUA.o.Ot dh);have HFR:=ai (show ∀b off,sa=some ⟨b,off,none⟩->b≠w.heap.size+3/\b≠w.heap.size+2/\some b≠lv.ownBlock from fun b' off' e'=>by
  have h1:=hfr b' off' e';have h2:=bS HUA.o.bq;refine⟨by omega,by omega,fun e2=>?_⟩;have:=(HUA.o.own.lt b' e2.symm).2;omega)
 clear hst dh hfr f0 f1 f2 f3 f4 f5 ff HUA;go_wp2_with fail
 go_loopw [12] (fun i wr=>∃t lv' vs' j,i=.int .i64 (j:Nat)/\j<=ns.length/\UsS w lo lv' (u++t) vs' wr/\RPi l e (u++t) (xs++t.map (·.cond)) x ns j/\(∀c∈t,c∈l)/\fS wr ns sa ns.length sc/\(∀b off,sa=some ⟨b,off,none⟩->b≠w.heap.size+3/\b≠w.heap.size+2/\some b≠lv'.ownBlock)) (fun i _=>ns.length - (intOf i).toNat)
 case atStart=>exact⟨[],lv,vs,0,rfl,by omega,by simpa using HU5.o,by simpa using HRP.o,by simp,HST.o,HFR.o⟩
 case round =>
  obtain⟨t,lv2,vs2,j,rfl,hj,hu2,hp2,htl,aC',hfr2⟩:=hrel;obtain⟨la2,lc2,aL2⟩:=lF hu2.own;subst aL2;have jI:=ai hu2;have oZ:=ai hp2;have HTL:=ai htl;have oB:=ai aC';have Ez:=ai hfr2;have hul:=Ow hp2.defs hp2.names;clear hu2 hp2 htl aC' hfr2 HU5 HRP HST HFR;obtain⟨u2,hu2⟩:∃u2,u2=u++t:=⟨_,rfl⟩
  rw[<-hu2] at jI oZ hul Ez;have HU2:=ai hu2;clear hu2;by_cases hjl:j<ns.length
  ·have tj:=ag ((j:Int)<(ns.length:Int));obtain⟨bn,ayN,rfl,cn0⟩:=oB.o.2.2.2 j hjl;have uM:=G7.o _ (aD hjl);obtain⟨x0,x1,x2,xf⟩:=dM jI.o.bx;obtain⟨q0,qf⟩:=dO jI.o.bq;obtain⟨l0,lf⟩:=dO jI.o.bl;cases hda:dz l ns[j] with
   | none =>
    have HF:=ai (show kV g (.string ns[j].data.toList)=none by rw[oQ];exact(HDG.o _).1 hda);have Na:=ai (oZ.o.skip hjl (aoX hda));clear hda;go_wp2_with (at_lookup;refine gO _ rfl _ _ 72 rfl 9 48 gU atm (aBa _) lo.bm n _ rfl (En.o.ext jI.o.ext) _ _ rfl (lB uM) trivial ?_;rw[HF.o])
    go_roundw
    case rel=>exact⟨t,_,vs2,j+1,by go_num,by omega,HU2.o ▸ jI.o.Ot ((Tz wr).alloc _),HU2.o ▸ Na.o,HTL.o,oB.o.ext ((Tz wr).alloc _),Ez.o⟩
    case measure=>simp[intOf];omega
   | some d =>
    obtain⟨v,hu,hux⟩:=(HDG.o ns[j]).2 d hda;have HF:=ai (show kV g (.string ns[j].data.toList)=some _ by rw[oQ];exact hu);unfold aMT at HF;have HUX:=ai hux;have hdl:=ot hda;obtain⟨wx,hwx⟩:∃wx,wx=wr.alloc (.cells #[ v.kind,.string v.name,v.x.op,.string v.x.name,.slice v.x.aw v.x.nw v.x.cw,v.x.lo,v.x.hi,.slice v.x.aa v.x.na v.x.ca,.slice v.au v.nu v.cu,v.ck] 48):=⟨_,rfl⟩
    have dm:=ai (show Ext wr wx by rw[hwx];exact(Tz _).alloc _);have pX:=ai (show wx.heap[wr.heap.size]?=some (.cells #[ v.kind,.string v.name,v.x.op,.string v.x.name,.slice v.x.aw v.x.nw v.x.cw,v.x.lo,v.x.hi,.slice v.x.aa v.x.na v.x.ca,.slice v.au v.nu v.cu,v.ck] 48 (0,0)) by rw[hwx];exact bR wr _);have hsx:wx.heap.size=wr.heap.size+1:=by rw[hwx];simp
    have a4S:=ai hsx;clear hsx;go_upto_region 5 with (at_lookup;refine gO _ rfl _ _ 72 rfl 9 48 gU atm (aBa _) lo.bm n _ rfl (En.o.ext jI.o.ext) _ _ rfl (lB uM) trivial ?_;rw[HF.o])
    rw[<-hwx];clear hwx x0 x1 x2 xf q0 qf l0 lf cn0;obtain⟨q0,qf⟩:=dO (dm.o.blk jI.o.bq);obtain⟨l0,lf⟩:=dO (dm.o.blk jI.o.bl);obtain⟨f0,f1,f2,f3,f4,f5,f6,f7,f8,f9,ff⟩:=rK pX.o;by_cases hmem:ns[j]∈ye u2
    ·have K8:=ai (show kV (memT fun s=>s∈ye u2) (.string ns[j].data.toList)=some (.bool true) by rw[oQ];simp[memT,hmem]);have Na:=ai (oZ.o.skip hjl (a4Z hmem));clear hda hmem hu hux;go_wp2_with (first
      | (at_lookup;refine QV _ (by rfl) _ _ 186 rfl 9 4 gU atn (aBb _) (w.heap.size+3) u2.length _ rfl (jI.o.seen.ext dm.o) _ _ rfl (lB uM) trivial ?_;rw[K8.o]))
     go_roundw
     case rel=>exact⟨t,_,vs2,j+1,by go_num,by omega,HU2.o ▸ jI.o.Ot dm.o,HU2.o ▸ Na.o,HTL.o,oB.o.ext dm.o,Ez.o⟩
     case measure=>simp[intOf];omega
    have K8:=ai (show kV (memT fun s=>s∈ye u2) (.string ns[j].data.toList)=none by rw[oQ];simp[memT,hmem]);have hdn:=tP hda;have HST:=ai (oZ.o.step hjl AQ.o hda hmem (c:=l.getD d fC) hdn.2 hdn.1 rfl);have HDN:=ai hdn.1;have HCM:=ai (show l.getD d fC∈l by rw[fJ hdl];exact aD _);clear hda hmem hu hux hdn;go_wp2_with (first
     | (at_lookup;refine QV _ (by rfl) _ _ 186 rfl 9 4 gU atn (aBb _) (w.heap.size+3) u2.length _ rfl (jI.o.seen.ext dm.o) _ _ rfl (lB uM) trivial ?_;rw[K8.o])
     | (at_mapUpdate;refine lR _ rfl _ _ _ 186 rfl 9 4 gU atn (w.heap.size+3) u2.length _ rfl (jI.o.seen.ext dm.o) ?c3 _ _ _ rfl rfl (lB uM) trivial ?_))
    case c3=>unfold maxLen;omega
    intro w3 hm3 hc3;have yM:=ai (jI.o.Ot dm.o);have hwr:w.heap.size+4<wr.heap.size:=bS jI.o.bq;have j6:=hc3.blk pX.o (by simp;omega);clear f0 f1 f2 f3 f4 f5 f6 f7 f8 f9 ff q0 qf l0 lf;obtain⟨f0,f1,f2,f3,f4,f5,f6,f7,f8,f9,ff⟩:=rK j6;obtain⟨k0,kf⟩:=dO (hc3.blk yM.o.bl (by simp));have HW3:=ai hc3;have HM3:=ai hm3;have vF:=ai (cO yM.o.own hc3 fun q hq hm=>by have:=(yM.o.own.lt q hq).1;simp only[aG] at hm;omega);have h3s:=hc3.size;have aXf:wr.heap.size<=w3.heap.size:=aV dm.o.size hc3.size;clear hm3 hc3 HF K8 j6;go_wp2_with (at_builtin;refine dA nr rfl _ _ rfl (w.heap.size+5) _ u2.length _ rfl vF.o _ 1 1 rfl ?f0 rfl ?f1 ?f2 ?f3 ?f4 ?_)
    case f0=>simp
    case f1=>simp[Value.oneCell']
    case f2=>unfold maxLen;omega
    case f3=>omega
    case f4=>omega
    intro v8 w8 dY iI gX;obtain⟨a8,c8,Iv⟩:=lF dY;subst Iv;obtain⟨m0,mf⟩:=dO (iI.blk (HW3.o.blk yM.o.bl (by simp)) fun hm=>by have:=(yM.o.own.lt _ (bV.1 hm)).1;omega);have HR9:=ai (yM.o.step (c:=l.getD d fC) (cv:=v) HUX.o (by rw[HDN.o];exact HM3.o) HW3.o dY iI).1;have AM:=ai (((oB.o.ext dm.o).cR HW3.o (fun b' off' e' hm=>(Ez.o b' off' e').1 (by simpa using hm))).cR iI (fun b' off' e' hm=>(Ez.o b' off' e').2.2 (bV.1 hm).symm));have HF9:=ai (show ∀b off,some (⟨bn,ayN,none⟩:Addr)=some ⟨b,off,none⟩->b≠w.heap.size+3/\b≠w.heap.size+2/\some b≠(Value.slice a8 (u2.length+1) c8).ownBlock from fun b' off' e'=>by
     obtain⟨p1,p2,p3⟩:=Ez.o b' off' e';have hbl:b'<wr.heap.size:=by
      obtain⟨bb,oo,ee,cc⟩:=oB.o.2.2.2 j hjl;rw[ee] at e';simp only[a42,Addr.mk.injEq,and_true] at e';have:=eB cc;simp only at this;omega
     refine⟨p1,p2,fun e2=>?_⟩;rcases gX b' e2.symm with h|h
     ·exact p3 h.symm
     omega)
    have adS:=ai (AM.o.cR (show ct [w.heap.size+2] w8 (w8.setCell ⟨w.heap.size+2,0,none⟩ (.slice a8 (u2.length+1) c8)) from(ct.refl _ _).setCell (aoX (by simp)) _) (fun b' off' e' hm=>(Ez.o b' off' e').2.1 (by simpa using hm)));clear dY iI gX AM f0 f1 f2 f3 f4 f5 f6 f7 f8 f9 ff k0 kf;go_wp2_with fail
    go_roundw
    case rel =>
     have e1:u++(t++[l.getD d fC])=u2++[l.getD d fC]:=by rw[HU2.o];simp
     refine⟨t++[l.getD d fC],_,_,j+1,by go_num,by omega,by rw[e1];exact HR9.o,by rw[e1];have:=HST.o;simpa using this,?_,adS.o,HF9.o⟩;intro c hc;rcases aN.1 hc with h|h
     ·exact HTL.o c h
     rw[aG.1 h];exact HCM.o
    case measure=>simp[intOf];omega
  have tj:=ah ((j:Int)<(ns.length:Int));have HPE:=ai (oZ.o.end (by omega) AQ.o);go_wp2_with fail
  go_end0
  exact⟨rfl,t,_,vs2,HU2.o ▸ jI.o,HU2.o ▸ HPE.o,HTL.o⟩
def axv (l:List cK) (e:Ex) (w:World) (r:Ending) (w':World):Prop:=∃u a c,r=.returned (.slice a u.length c)/\cZ w' u a u.length c/\Ee l e u/\Ext w w'
theorem Xa (s:List Attr) (l:List cK) (f:ZI) (e:Ex) (ev:Value) (lo:fT) (n:Nat) (w:World) (hlo:AA w s l f lo n) (hl:l.length<=100000) (he:dw w e ev) (hes:e.size<=100000/\e.fits) (hsz:∀x∈l,x.cond.size<=100000/\x.cond.fits) :
  Calls Tryz.prog 87 #[lo.val,ev] w (axv l e w):=by
 obtain⟨g,hmp,hdg⟩:=hlo.defs;obtain⟨aw,nw,cw,aa,na,ca,rfl,-⟩:=he.parts;have HAD:=ai (fun (W:World) (x:Ex) (xv lv:Value) (u:List cK) (vs:List fM) (xs:List Ex) (h1:dw W x xv) (h2:x.size<=100000/\x.fits) (h3:UsS w lo lv u vs W) (h4:RPi l e u xs x (jB (fX x)) 0)=>aoV l e x xv lo n w W g lv u vs xs hmp hdg hl h1 h2 h3 h4);have HE:=ai he;have tR:=ai hsz;have HES:=ai hes;clear hmp hdg he hsz hes hlo;obtain⟨EV,hEV⟩:∃EV,EV=fN e.op e.name aw nw cw e.lo e.hi aa na ca:=⟨_,rfl⟩
 have azs:=hEV;unfold fN at hEV;unfold fT.val;have hmm:=@run_makeMap Tryz.prog;have hmf:∀(fn:Fn) (first cap:Array Value) (w:World),(Instr.makeFunc fn first cap).run Tryz.prog w=.ok (.func fn first cap) w:=fun _ _ _ _=>rfl
 obtain⟨wa,cN⟩:∃wa,wa=(((((w.alloc (.cells #[.slice lo.sa lo.sn lo.sc,.map (some lo.bm),.slice lo.fa lo.fn lo.fc] 74)).alloc (.cells #[ e.op,.string e.name,.slice aw nw cw,e.lo,e.hi,.slice aa na ca] 45)).alloc (.cells #[.slice none 0 0] 25)).alloc (.map #[] 0)).alloc (.cells #[.map (some (w.heap.size+3))] 186)):=⟨_,rfl⟩
 have HE0:=ai (show wa.heap[w.heap.size+1]?=some (.cells #[ e.op,.string e.name,.slice aw nw cw,e.lo,e.hi,.slice aa na ca] 45 (0,0)) by rw[cN];exact bU (bU (bU (cT (by simp)))));have HUS:=ai (show UsS w lo (.slice none 0 0) [] [] wa from {
  ext:=by rw[cN];exact(((((Tz _).alloc _).alloc _).alloc _).alloc _).alloc _
  OV:=⟨rfl,fun i h=>by simp at h⟩
  own:=a4' _ _ _ _
  seen:=by
   have h0:=ig.made (((w.alloc (.cells #[.slice lo.sa lo.sn lo.sc,.map (some lo.bm),.slice lo.fa lo.fn lo.fc] 74)).alloc (.cells #[ e.op,.string e.name,.slice aw nw cw,e.lo,e.hi,.slice aa na ca] 45)).alloc (.cells #[.slice none 0 0] 25)) 9;rw[cN];refine((by simpa using h0:ig _ _ (w.heap.size+3) 0 _).ext ((Tz _).alloc _)).congr fun x=>?_
   cases x<;>simp[kV,memT,ye]
  bx:=by rw[cN];exact bU (bU (bU (bU (bR w _))))
  bl:=by rw[cN];exact bU (bU (cT (by simp)))
  bq:=by rw[cN];exact cT (by simp) })
 obtain⟨f0,f1,f2,f3,f4,f5,ff⟩:=cX HE0.o;rw[<-azs,hEV];go_enter Tryz.func87,Tryz.ntmps87
 go_upto_region 3 with fail
 rw[<-cN];clear cN;go_wp2_with fail
 rw[<-hEV];refine(HAD.o wa e _ _ [] [] [] (by rw[azs];exact HE.o.ext HUS.o.ext) HES.o HUS.o (RPi.first e _)).mono ?_;rintro r w1 ⟨rfl,t0,lv0,vs0,hu0,hp0,ht0⟩;have HU0:=ai hu0;have HP0:=ai hp0;have OW:=ai ht0;clear hu0 hp0 ht0 f0 f1 f2 f3 f4 f5 ff HE0 HUS;go_wp2_with fail
 go_loopw [8] (fun i wr=>∃u lv vs k,i=.int .i64 (k:Nat)/\k<=u.length/\UsS w lo lv u vs wr/\RP l e u ((u.drop k).map (·.cond))/\∀c∈u,c∈l) (fun i _=>l.length - (intOf i).toNat)
 case atStart=>exact⟨t0,lv0,vs0,0,rfl,by omega,by simpa using HU0.o,by simpa using HP0.o,OW.o⟩
 case round =>
  obtain⟨u,lv,vs,k,rfl,hk,hu,hp,hm⟩:=hrel;obtain⟨la,lc,hlv⟩:=lF hu.own;subst hlv;have HU:=ai hu;have HP:=ai hp;have HM:=ai hm;have hul:=Ow hp.defs hp.names;obtain⟨a',c',hv,hcl⟩:=yJ (M:=[]) hu.own (by simp) (hu.OV.mono (hu.ext.sub.trans (Cf _)));simp only[a45,true_and] at hv;obtain⟨rfl,rfl⟩:=hv;have qC:=ai (hcl.mono (cC _ _));obtain⟨l0,lf⟩:=dO hu.bl;clear hu hp hm hcl HU0 HP0 OW;by_cases hlt:k<u.length
  ·have t1:=ag ((k:Int)<(u.length:Int));obtain⟨cb,ld,v,rfl,fO,hrow⟩:=qC.o.at hlt;obtain⟨c0,c1,c2,c3,c4,c5,c6,c7,c8,c9⟩:=hrow.BB;have zq:=ai fO.2.2.1;have hsx:u[k].cond.size<=100000/\u[k].cond.fits:=tR.o _ (HM.o _ (aD hlt));have HPF:=ai (show RP l e u (u[k].cond::(u.drop (k+1)).map (·.cond)) by have:=HP.o;rw[List.drop_eq_getElem_cons hlt,List.map_cons] at this;exact this);have He:=ai (HAD.o wr u[k].cond _ _ u vs _ zq.o hsx HU.o (HPF.o.aVV _));unfold dK.val fN at He;clear fO hrow hsx;go_wp2_with fail
   refine He.o.mono ?_;rintro r w1 ⟨rfl,t1,lv1,vs1,hu1,hp1,ht1⟩;have HU1:=ai hu1;have CD:=ai hp1;have HT1:=ai ht1;have sA:=Ow hp1.defs hp1.names;clear hu1 hp1 ht1 c0 c1 c2 c3 c4 c5 c6 c7 c8 c9 l0 lf;go_wp2_with fail
   go_roundw
   case rel =>
    refine⟨u++t1,lv1,vs1,k+1,by go_num,by simp;omega,HU1.o,?_,?_⟩
    ·rw[List.drop_append_of_le_length (by omega),List.map_append];exact CD.o
    intro c hc;rcases aN.1 hc with h|h
    ·exact HM.o c h
    exact HT1.o c h
   case measure=>simp at sA;simp[intOf];omega
  have t1:=ah ((k:Int)<(u.length:Int));go_wp2_with fail
  go_ret;refine⟨u,_,_,rfl,qC.o,⟨?_,HM.o⟩,HU.o.ext⟩;have:=HP.o;rw[List.drop_eq_nil_of_le (by omega)] at this;exact this.used
def Pd (s:List Attr) (l:List cK) (e:Ex):Prop:=eW e=true/\dr s l e=0/\dV l e<=2000/\e.iT/\e.fits/\e.vP
structure WU (w:World) (s:List Attr) (l:List cK) (f:ZI) (lo:fT) (n:Nat):Prop where
 agl:AA w s l f lo n
 ok:(cV s l).2=0
 facts:jU s f=true
 ais:∀x∈s,x.fits
 Ca:∀x∈l,x.fit
 fnl:lo.fn<=1000000000000000
 ops:dQ w
theorem WU.ext {w w':World} {s:List Attr} {l:List cK} {f:ZI} {lo:fT} {n:Nat} (h:WU w s l f lo n) (hx:Ext w w'):WU w' s l f lo n:=⟨h.agl.ext hx,h.ok,h.facts,h.ais,h.Ca,h.fnl,h.ops.ext hx⟩
theorem WU.SH {w:World} {s:List Attr} {l:List cK} {f:ZI} {lo:fT} {n:Nat} (h:WU w s l f lo n):s.length<=1000000000000000:=by
 have hs:=h.agl.x7.parts;obtain⟨_,_,_,e,h1,_⟩:=hs;have:=(iQ (lK h.ok).x7).2.1;omega
theorem WU.eval {w:World} {s:List Attr} {l:List cK} {f:ZI} {lo:fT} {n:Nat} (h:WU w s l f lo n) {e:Ex} {ev:Value} (he:dw w e ev) (hp:Pd s l e) {u:List cK} {a:OA} {c:Nat} (hu:Ee l e u) (hc:cZ w u a u.length c) :
  Calls Tryz.prog 86 #[.agg #[.slice lo.sa lo.sn lo.sc],.slice a u.length c,ev,.slice lo.fa lo.fn lo.fc] w (cz (.tuple #[.bool (val s l f e),.int .i64 0]) w):=by
 obtain⟨p1,p2,p3,p4,p5,p6⟩:=hp;obtain⟨q1,q2⟩:=hu.eval h.ok p1 p2 p3 h.facts;have h1:=XR s u e f _ ev a u.length c lo.fa lo.fn lo.fc w ⟨h.agl.x7,h.ais,h.SH,hc,by have:=hu.1.len;have:=(lK h.ok).len;omega,fun x hx=>h.Ca x (hu.2 x hx),he,p4,p5,p6,h.agl.ints,h.fnl,h.ops⟩;unfold aao Rg at h1;rw[bM q1,q1,q2] at h1;exact h1
theorem ac2 {s:List Attr} {l:List cK} {f:ZI} {lo:fT} {n:Nat} {e:Ex} {ev:Value} (w:World) (h:WU w s l f lo n) (he:dw w e ev) (hp:Pd s l e) :
  Calls Tryz.prog 59 #[lo.val,ev] w (cz (.bool (val s l f e)) w):=by
 have hck:=lK h.ok;have hsz:=(Bf hp.1).2;have HU:=ai (fun W (hW:Ext w W)=>Xa s l f e ev lo n W (h.agl.ext hW) (by have:=hck.len;omega) (he.ext hW) ⟨by omega,hp.2.2.2.2.1⟩ (fun x hx=>⟨by have:=(Bf (hck.good x hx).2.2.1).2;omega,(h.Ca x hx).2.1⟩));have HE:=ai (fun W (hW:Ext w W) (u:List cK) (a:OA) (c:Nat) (hu:Ee l e u) (hc:cZ W u a u.length c)=>(h.ext hW).eval (he.ext hW) hp hu hc);obtain⟨aw,nw,cw,aa,na,ca,rfl,-⟩:=he.parts;obtain⟨V,hV⟩:∃V,V=val s l f e:=⟨_,rfl⟩
 rw[<-hV] at HE ⊢;obtain⟨U,hU⟩:∃U:List cK->Prop,U=Ee l e:=⟨_,rfl⟩
 unfold axv at HU;have HU2:=ai (fun W (hW:Ext w W)=>(HU.o W hW).mono (fun r w' (hq:∃u a c,r=.returned (.slice a u.length c)/\cZ w' u a u.length c/\Ee l e u/\Ext W w')=>by rw[<-hU] at hq;exact hq));rw[<-hU] at HE;clear h he hp hV hck hsz hU HU;unfold fN fT.val at *;obtain⟨wa,cN⟩:∃wa,wa=(w.alloc (.cells #[.slice lo.sa lo.sn lo.sc,.map (some lo.bm),.slice lo.fa lo.fn lo.fc] 74)).alloc (.cells #[.int .i64 e.op,.string e.name,.slice aw nw cw,.int .i64 e.lo,.int .i64 e.hi,.slice aa na ca] 45):=⟨_,rfl⟩
 have dm:=ai (show Ext w wa by rw[cN];exact((Tz _).alloc _).alloc _);obtain⟨x0,x1,x2,xf⟩:=dM (show wa.heap[w.heap.size]?=some (.cells #[.slice lo.sa lo.sn lo.sc,.map (some lo.bm),.slice lo.fa lo.fn lo.fc] 74 (0,0)) by rw[cN];exact bU (bR w _));obtain⟨f0,f1,f2,f3,f4,f5,ff⟩:=cX (show wa.heap[w.heap.size+1]?=some (.cells #[.int .i64 e.op,.string e.name,.slice aw nw cw,.int .i64 e.lo,.int .i64 e.hi,.slice aa na ca] 45 (0,0)) by rw[cN];exact cT (by simp));have C0:=bT x0;have C1:=bT x1;have C2:=bT x2;have D0:=bT f0;have D1:=bT f1;have D2:=bT f2;have D3:=bT f3;have D4:=bT f4;have D5:=bT f5;go_enter Tryz.func59,Tryz.ntmps59
 go_upto_region 1 with fail
 rw[<-cN];clear cN;refine kT 14 ?_
 repeat (refine bZ ?_;intro K hK;go_big_quiet_op;go_big_quiet_on)
 refine dP (γ:=List cK×OA×Nat) (fun x=>.slice x.2.1 x.1.length x.2.2) (fun x W=>U x.1/\cZ W x.1 x.2.1 x.1.length x.2.2) (fun W hW _ _=>?_) (fun x W W' hx h=>⟨h.1,h.2.ext hx⟩) ?_ ⟨([],none,0)⟩
 ·unfold bQ;go_simp;refine(HU2.o W (dm.o.trans hW)).mono ?_;rintro r w1 ⟨u,a,c,rfl,h1,h2,h3⟩;exact⟨_,rfl,h3,(u,a,c),rfl,h2,h1⟩
 rintro⟨u,a,c⟩ K hK;go_simp;go_big_quiet_on
 repeat (refine bZ ?_;intro K hK;go_big_quiet_op;go_big_quiet_on)
 refine fZ (.tuple #[.bool V,.int .i64 0]) (fun _=>True) (fun W hW hu _=>?_) (fun _ _ _ h=>h) ?_
 ·unfold bQ;go_simp;refine(HE.o W (dm.o.trans hW) u a c hu.1 hu.2).mono ?_;rintro r w1 ⟨rfl,hx1⟩;exact⟨_,rfl,hx1,rfl,trivial⟩
 intro K hK;go_simp;go_big_quiet_on
 repeat (refine bZ ?_;intro K hK;go_big_quiet_op;go_big_quiet_on)
 refine gC fun w2 hx2 _ _=>?_
 have dN:=ai (dm.o.trans hx2);clear hx2;go_wp2_with fail
 go_ret;exact bW (by simp) dN.o
theorem Ip (nm:BA) (x:dK) (au:OA) (nu cu:Nat) (w:World):Calls Tryz.prog 230 #[.agg #[.string nm,x.op,.string x.name,.slice x.aw x.nw x.cw,x.lo,x.hi,.slice x.aa x.na x.ca,.slice au nu cu]] w (cz (.agg #[ x.op,.string x.name,.slice x.aw x.nw x.cw,x.lo,x.hi,.slice x.aa x.na x.ca]) w):=by
 obtain⟨wa,cN⟩:∃wa,wa=(w.alloc (.cells #[.string nm,x.op,.string x.name,.slice x.aw x.nw x.cw,x.lo,x.hi,.slice x.aa x.na x.ca,.slice au nu cu] 113)).alloc (.cells #[.int .i64 0,.string ⟨#[]⟩,.slice none 0 0,.int .i64 0,.int .i64 0,.slice none 0 0] 45):=⟨_,rfl⟩
 have dm:=ai (show Ext w wa by rw[cN];exact((Tz _).alloc _).alloc _);obtain⟨f0,f1,f2,f3,f4,f5,f6,f7,ff⟩:=oO (show wa.heap[w.heap.size]?=some (.cells #[.string nm,x.op,.string x.name,.slice x.aw x.nw x.cw,x.lo,x.hi,.slice x.aa x.na x.ca,.slice au nu cu] 113 (0,0)) by rw[cN];exact bU (bR w _));have HR:=ai (show wa.heap[w.heap.size+1]?=some (.cells #[.int .i64 0,.string ⟨#[]⟩,.slice none 0 0,.int .i64 0,.int .i64 0,.slice none 0 0] 45 (0,0)) by rw[cN];exact cT (by simp));obtain⟨g0,g1,g2,g3,g4,g5,gf⟩:=cX HR.o;go_enter Tryz.func230,Tryz.ntmps230
 go_upto_region 1 with fail
 rw[<-cN];clear cN;go_wp2_with fail
 obtain⟨w8,gX⟩:∃w8,w8=fA wa (w.heap.size+1) (.int .i64 x.op) (.string x.name) (.slice x.aw x.nw x.cw) (.int .i64 x.lo) (.int .i64 x.hi) (.slice x.aa x.na x.ca):=⟨_,rfl⟩
 have nB:=ai (show Ext w w8 by rw[gX];exact(fe _ _).ext dm.o (by simp));have h8:w8.heap[w.heap.size+1]?=some (.cells #[ x.op,.string x.name,.slice x.aw x.nw x.cw,x.lo,x.hi,.slice x.aa x.na x.ca] 45 (0,0)):=by rw[gX];exact fH HR.o
 unfold fA at gX;rw[<-gX];clear gX g0 g1 g2 g3 g4 g5 gf;obtain⟨g0,g1,g2,g3,g4,g5,gf⟩:=cX h8;refine a5a (v:=.agg #[ x.op,.string x.name,.slice x.aw x.nw x.cw,x.lo,x.hi,.slice x.aa x.na x.ca]) (by simp[results,Tryz.results230,go_sem,g0,g1,g2,g3,g4,g5]) rfl ?_;exact⟨rfl,nB.o⟩
theorem EB (nm:BA) (x:dK) (au:OA) (nu cu:Nat) (w:World):Calls Tryz.prog 229 #[.agg #[.string nm,x.op,.string x.name,.slice x.aw x.nw x.cw,x.lo,x.hi,.slice x.aa x.na x.ca,.slice au nu cu]] w (cz (.slice au nu cu) w):=by
 obtain⟨wa,cN⟩:∃wa,wa=w.alloc (.cells #[.string nm,x.op,.string x.name,.slice x.aw x.nw x.cw,x.lo,x.hi,.slice x.aa x.na x.ca,.slice au nu cu] 113):=⟨_,rfl⟩
 have dm:=ai (show Ext w wa by rw[cN];exact(Tz _).alloc _);obtain⟨f0,f1,f2,f3,f4,f5,f6,f7,ff⟩:=oO (show wa.heap[w.heap.size]?=some (.cells #[.string nm,x.op,.string x.name,.slice x.aw x.nw x.cw,x.lo,x.hi,.slice x.aa x.na x.ca,.slice au nu cu] 113 (0,0)) by rw[cN];exact bR w _);go_enter Tryz.func229,Tryz.ntmps229
 go_upto_region 1 with fail
 rw[<-cN];clear cN;go_wp2_with fail
 go_ret;exact⟨rfl,dm.o⟩
theorem QU (n:Nat) (nm:BA) (x:dK) (au:OA) (nu cu:Nat) (W:World):(method (n+1) 113 (.agg #[.string nm,x.op,.string x.name,.slice x.aw x.nw x.cw,x.lo,x.hi,.slice x.aa x.na x.ca,.slice au nu cu]) "treaty/decide.when").run Tryz.prog W=.ok (230,.agg #[.string nm,x.op,.string x.name,.slice x.aw x.nw x.cw,x.lo,x.hi,.slice x.aa x.na x.ca,.slice au nu cu]) W:=by kernel_rfl
theorem LA (n:Nat) (nm:BA) (x:dK) (au:OA) (nu cu:Nat) (W:World):(method (n+1) 113 (.agg #[.string nm,x.op,.string x.name,.slice x.aw x.nw x.cw,x.lo,x.hi,.slice x.aa x.na x.ca,.slice au nu cu]) "treaty/decide.unless").run Tryz.prog W=.ok (229,.agg #[.string nm,x.op,.string x.name,.slice x.aw x.nw x.cw,x.lo,x.hi,.slice x.aa x.na x.ca,.slice au nu cu]) W:=by kernel_rfl
theorem OD (kd:Int) (nm:BA) (x:dK) (au:OA) (nu cu:Nat) (am:Int) (w:World):Calls Tryz.prog 227 #[.agg #[ kd,.string nm,x.op,.string x.name,.slice x.aw x.nw x.cw,x.lo,x.hi,.slice x.aa x.na x.ca,.slice au nu cu,am]] w (cz (.agg #[ x.op,.string x.name,.slice x.aw x.nw x.cw,x.lo,x.hi,.slice x.aa x.na x.ca]) w):=by
 obtain⟨wa,cN⟩:∃wa,wa=(w.alloc (.cells #[ kd,.string nm,x.op,.string x.name,.slice x.aw x.nw x.cw,x.lo,x.hi,.slice x.aa x.na x.ca,.slice au nu cu,am] 81)).alloc (.cells #[.int .i64 0,.string ⟨#[]⟩,.slice none 0 0,.int .i64 0,.int .i64 0,.slice none 0 0] 45):=⟨_,rfl⟩
 have dm:=ai (show Ext w wa by rw[cN];exact((Tz _).alloc _).alloc _);obtain⟨f0,f1,f2,f3,f4,f5,f6,f7,f8,f9,ff⟩:=rB (show wa.heap[w.heap.size]?=some (.cells #[ kd,.string nm,x.op,.string x.name,.slice x.aw x.nw x.cw,x.lo,x.hi,.slice x.aa x.na x.ca,.slice au nu cu,am] 81 (0,0)) by rw[cN];exact bU (bR w _));have HR:=ai (show wa.heap[w.heap.size+1]?=some (.cells #[.int .i64 0,.string ⟨#[]⟩,.slice none 0 0,.int .i64 0,.int .i64 0,.slice none 0 0] 45 (0,0)) by rw[cN];exact cT (by simp));obtain⟨g0,g1,g2,g3,g4,g5,gf⟩:=cX HR.o;go_enter Tryz.func227,Tryz.ntmps227
 go_upto_region 1 with fail
 rw[<-cN];clear cN;go_wp2_with fail
 obtain⟨w8,gX⟩:∃w8,w8=fA wa (w.heap.size+1) (.int .i64 x.op) (.string x.name) (.slice x.aw x.nw x.cw) (.int .i64 x.lo) (.int .i64 x.hi) (.slice x.aa x.na x.ca):=⟨_,rfl⟩
 have nB:=ai (show Ext w w8 by rw[gX];exact(fe _ _).ext dm.o (by simp));have h8:w8.heap[w.heap.size+1]?=some (.cells #[ x.op,.string x.name,.slice x.aw x.nw x.cw,x.lo,x.hi,.slice x.aa x.na x.ca] 45 (0,0)):=by rw[gX];exact fH HR.o
 unfold fA at gX;rw[<-gX];clear gX g0 g1 g2 g3 g4 g5 gf;obtain⟨g0,g1,g2,g3,g4,g5,gf⟩:=cX h8;refine a5a (v:=.agg #[ x.op,.string x.name,.slice x.aw x.nw x.cw,x.lo,x.hi,.slice x.aa x.na x.ca]) (by simp[results,Tryz.results227,go_sem,g0,g1,g2,g3,g4,g5]) rfl ?_;exact⟨rfl,nB.o⟩
theorem KR (kd:Int) (nm:BA) (x:dK) (au:OA) (nu cu:Nat) (am:Int) (w:World):Calls Tryz.prog 226 #[.agg #[ kd,.string nm,x.op,.string x.name,.slice x.aw x.nw x.cw,x.lo,x.hi,.slice x.aa x.na x.ca,.slice au nu cu,am]] w (cz (.slice au nu cu) w):=by
 obtain⟨wa,cN⟩:∃wa,wa=w.alloc (.cells #[ kd,.string nm,x.op,.string x.name,.slice x.aw x.nw x.cw,x.lo,x.hi,.slice x.aa x.na x.ca,.slice au nu cu,am] 81):=⟨_,rfl⟩
 have dm:=ai (show Ext w wa by rw[cN];exact(Tz _).alloc _);obtain⟨f0,f1,f2,f3,f4,f5,f6,f7,f8,f9,ff⟩:=rB (show wa.heap[w.heap.size]?=some (.cells #[ kd,.string nm,x.op,.string x.name,.slice x.aw x.nw x.cw,x.lo,x.hi,.slice x.aa x.na x.ca,.slice au nu cu,am] 81 (0,0)) by rw[cN];exact bR w _);go_enter Tryz.func226,Tryz.ntmps226
 go_upto_region 1 with fail
 rw[<-cN];clear cN;go_wp2_with fail
 go_ret;exact⟨rfl,dm.o⟩
theorem aaD (n:Nat) (kd:Int) (nm:BA) (x:dK) (au:OA) (nu cu:Nat) (am:Int) (W:World):(method (n+1) 81 (.agg #[ kd,.string nm,x.op,.string x.name,.slice x.aw x.nw x.cw,x.lo,x.hi,.slice x.aa x.na x.ca,.slice au nu cu,am]) "treaty/decide.when").run Tryz.prog W=.ok (227,.agg #[ kd,.string nm,x.op,.string x.name,.slice x.aw x.nw x.cw,x.lo,x.hi,.slice x.aa x.na x.ca,.slice au nu cu,am]) W:=by kernel_rfl
theorem T4 (n:Nat) (kd:Int) (nm:BA) (x:dK) (au:OA) (nu cu:Nat) (am:Int) (W:World):(method (n+1) 81 (.agg #[ kd,.string nm,x.op,.string x.name,.slice x.aw x.nw x.cw,x.lo,x.hi,.slice x.aa x.na x.ca,.slice au nu cu,am]) "treaty/decide.unless").run Tryz.prog W=.ok (226,.agg #[ kd,.string nm,x.op,.string x.name,.slice x.aw x.nw x.cw,x.lo,x.hi,.slice x.aa x.na x.ca,.slice au nu cu,am]) W:=by kernel_rfl
theorem arS {s:List Attr} {l:List cK} {f:ZI} {lo:fT} {n:Nat}:∀(m:Nat) (cond:Ex) (u:List Wb) (nm:BA) (x:dK) (au:OA) (nu cu:Nat) (w:World),mH u<=m->WU w s l f lo n->Pd s l cond->jY (Pd s l) u->nu<=1000000000000000->nu=u.length->dw w cond x.val->gK w u au ->
  Calls Tryz.prog 33 #[lo.val,.iface 113 (.agg #[.string nm,x.op,.string x.name,.slice x.aw x.nw x.cw,x.lo,x.hi,.slice x.aa x.na x.ca,.slice au nu cu])] w (cz (.bool (val s l f cond&&!nM (val s l f) u)) w):=by
 intro m;induction m using Nat.strongRecOn with
 | _ m ih =>
  intro cond u nm x au nu cu w hm h hp hok ZW hlen hex hd;have HH:=ai (fun (W:World) (hW:Ext w W)=>ac2 W (h.ext hW) (hex.ext hW) hp);have HIH:=ai (fun (k:Nat) (hk:k<u.length) (v:Cz) (W:World) (hW:Ext w W) (wU:dw W u[k].cond v.x.val) (Co:v.nu=u[k].gH.length) (PZ:gK W u[k].gH v.au)=>ih (mH u[k].gH) (by have:=zw u k hk;omega) u[k].cond u[k].gH v.name v.x v.au v.nu v.cu W (aU _) (h.ext hW) (j7 u hok k hk).1 (j7 u hok k hk).2.1 (by have:=(j7 u hok k hk).2.2;omega) Co wU PZ);have HD:=ai hd;have qB:=ai hlen;obtain⟨T,hT⟩:∃T,T=val s l f cond:=⟨_,rfl⟩
  rw[<-hT] at HH ⊢;clear ih hm h hp hok hlen hex hd hT;have HW:=ai (fun W=>Ip nm x au nu cu W);have Nh:=ai (fun W=>EB nm x au nu cu W);have hm1:=fun (n:Nat) (W:World)=>QU n nm x au nu cu W
  have hm2:=fun (n:Nat) (W:World)=>LA n nm x au nu cu W
  unfold dK.val fN fT.val at HH;unfold fT.val at HIH ⊢;obtain⟨wa,cN⟩:∃wa,wa=w.alloc (.cells #[.slice lo.sa lo.sn lo.sc,.map (some lo.bm),.slice lo.fa lo.fn lo.fc] 74):=⟨_,rfl⟩
  have dm:=ai (show Ext w wa by rw[cN];exact(Tz _).alloc _);have HA:=ai (show wa.heap[w.heap.size]?=some (.cells #[.slice lo.sa lo.sn lo.sc,.map (some lo.bm),.slice lo.fa lo.fn lo.fc] 74 (0,0)) by rw[cN];exact bR w _);obtain⟨x0,x1,x2,xf⟩:=dM HA.o;have C0:=bT x0;have C1:=bT x1;have C2:=bT x2;go_enter Tryz.func33,Tryz.ntmps33
  go_upto_region 1 with fail
  rw[<-cN];clear cN;refine kT 5 ?_
  repeat (refine bZ ?_;intro K hK;go_big_quiet_op;go_big_quiet_on)
  refine mU (fun W hW=>HW.o W) ?_;intro K hK;go_simp;go_big_quiet_on;refine mU (fun W hW=>HH.o W (dm.o.trans hW)) ?_;intro K hK;go_simp;go_big_quiet_on
  repeat (refine bZ ?_;intro K hK;go_big_quiet_op;go_big_quiet_on)
  refine gC fun w1 hx1 _ _=>?_
  have dI:=ai (dm.o.trans hx1);have HB:=ai (hx1.blk HA.o);clear hx1 x0 x1 x2 xf C0 C1 C2 HA dm HH HW;cases T
  ·go_wp2_with fail
   go_ret;exact bW (by simp) dI.o
  go_wp2_with fail
  refine(Nh.o w1).mono ?_;rintro r w2 ⟨rfl,hx2⟩;have dN:=ai (dI.o.trans hx2);have fY:=ai (hx2.blk HB.o);clear hx2 HB dI Nh hm1 hm2;go_wp2_with fail
  go_loopw [15] (BkI (val s l f) u nu w2) (fun i _=>nu - (intOf i).toNat)
  case atStart=>exact⟨0,rfl,Nat.zero_le _,rfl,Tz _⟩
  case round =>
   obtain⟨k,rfl,hk,hv,hx⟩:=hrel;have HV:=ai hv;have HX:=ai (dN.o.trans hx);have BO:=ai hx;have nU:=ai (hx.blk fY.o);clear hv hx;by_cases hkn:k<nu
   ·have fq:k<u.length:=by have:=qB.o;omega
    have t1:=ag ((k:Int)<(nu:Int));obtain⟨b,off,rfl,v,Co,hrow,wU,Sg,-,-,PZ⟩:=gK.at u _ (gK.mono HX.o.sub u _ HD.o) k fq;obtain⟨c0,c1,c2,c3,c4,c5,c6,c7⟩:=hrow.eight;have se:=ai (fun W (hW:Ext wr W)=>HIH.o k fq v W (HX.o.trans hW) (wU.ext hW) Sg (gK.mono hW.sub _ _ PZ));have HST:=ai (aa4 (val s l f) fq);obtain⟨Q,hQ⟩:∃Q,Q=(val s l f u[k].cond&&!nM (val s l f) u[k].gH):=⟨_,rfl⟩
    rw[<-hQ] at se HST;clear Co hrow wU Sg PZ hQ HIH;obtain⟨x0,x1,x2,xf⟩:=dM nU.o;obtain⟨wb,iV⟩:∃wb,wb=wr.alloc (.cells #[.string v.name,v.x.op,.string v.x.name,.slice v.x.aw v.x.nw v.x.cw,v.x.lo,v.x.hi,.slice v.x.aa v.x.na v.x.ca,.slice v.au v.nu v.cu] 53):=⟨_,rfl⟩
    have jK:=ai (show Ext wr wb by rw[iV];exact(Tz _).alloc _);have VB:wb.heap[wr.heap.size]?=some (.cells #[.string v.name,v.x.op,.string v.x.name,.slice v.x.aw v.x.nw v.x.cw,v.x.lo,v.x.hi,.slice v.x.aa v.x.na v.x.ca,.slice v.au v.nu v.cu] 53 (0,0)):=by rw[iV];exact bR wr _
    go_upto_region 6 with fail
    rw[<-iV];clear iV x0 x1 x2 xf;obtain⟨x0,x1,x2,xf⟩:=dM (jK.o.blk nU.o);obtain⟨f0,f1,f2,f3,f4,f5,f6,f7,ff⟩:=oO VB;clear VB;go_wp2_with fail
    refine(se.o wb jK.o).mono ?_;rintro r w5 ⟨rfl,dh⟩;have gW:=ai (jK.o.trans dh);clear dh f0 f1 f2 f3 f4 f5 f6 f7 ff x0 x1 x2 xf c0 c1 c2 c3 c4 c5 c6 c7;cases Q
    ·go_wp2_with fail
     go_roundw
     case rel=>exact⟨k+1,by go_num,by omega,by rw[HV.o,HST.o];rfl,BO.o.trans gW.o⟩
     case measure=>simp[intOf];omega
    have HQ:=ai (show nM (val s l f) u=true by rw[HV.o,HST.o];rfl);go_wp2_with fail
    go_ret;exact bW (by rw[HQ.o];rfl) (HX.o.trans gW.o)
   have t1:=ah ((k:Int)<(nu:Int));have HQ:=ai (show nM (val s l f) u=false by
    rw[HV.o,show k=u.length by have:=qB.o;omega,List.drop_length,nM])
   go_wp2_with fail
   go_ret;exact bW (by rw[HQ.o];rfl) HX.o
theorem WD {s:List Attr} {l:List cK} {f:ZI} {lo:fT} {n:Nat} (cond:Ex) (u:List Wb) (kd:Int) (nm:BA) (x:dK) (au:OA) (nu cu:Nat) (am:Int) (w:World) (h:WU w s l f lo n) (hp:Pd s l cond) (hok:jY (Pd s l) u) (ZW:nu<=1000000000000000) (hlen:nu=u.length) (hex:dw w cond x.val) (hd:gK w u au) :
  Calls Tryz.prog 33 #[lo.val,.iface 81 (.agg #[ kd,.string nm,x.op,.string x.name,.slice x.aw x.nw x.cw,x.lo,x.hi,.slice x.aa x.na x.ca,.slice au nu cu,am])] w (cz (.bool (val s l f cond&&!nM (val s l f) u)) w):=by
 have HH:=ai (fun (W:World) (hW:Ext w W)=>ac2 W (h.ext hW) (hex.ext hW) hp);have HIH:=ai (fun (k:Nat) (hk:k<u.length) (v:Cz) (W:World) (hW:Ext w W) (wU:dw W u[k].cond v.x.val) (Co:v.nu=u[k].gH.length) (PZ:gK W u[k].gH v.au)=>arS (mH u[k].gH) u[k].cond u[k].gH v.name v.x v.au v.nu v.cu W (aU _) (h.ext hW) (j7 u hok k hk).1 (j7 u hok k hk).2.1 (by have:=(j7 u hok k hk).2.2;omega) Co wU PZ);have HD:=ai hd;have qB:=ai hlen;obtain⟨T,hT⟩:∃T,T=val s l f cond:=⟨_,rfl⟩
 rw[<-hT] at HH ⊢;clear h hp hok hlen hex hd hT;have HW:=ai (fun W=>OD kd nm x au nu cu am W);have Nh:=ai (fun W=>KR kd nm x au nu cu am W);have hm1:=fun (n:Nat) (W:World)=>aaD n kd nm x au nu cu am W
 have hm2:=fun (n:Nat) (W:World)=>T4 n kd nm x au nu cu am W
 unfold dK.val fN fT.val at HH;unfold fT.val at HIH ⊢;obtain⟨wa,cN⟩:∃wa,wa=w.alloc (.cells #[.slice lo.sa lo.sn lo.sc,.map (some lo.bm),.slice lo.fa lo.fn lo.fc] 74):=⟨_,rfl⟩
 have dm:=ai (show Ext w wa by rw[cN];exact(Tz _).alloc _);have HA:=ai (show wa.heap[w.heap.size]?=some (.cells #[.slice lo.sa lo.sn lo.sc,.map (some lo.bm),.slice lo.fa lo.fn lo.fc] 74 (0,0)) by rw[cN];exact bR w _);obtain⟨x0,x1,x2,xf⟩:=dM HA.o;have C0:=bT x0;have C1:=bT x1;have C2:=bT x2;go_enter Tryz.func33,Tryz.ntmps33
 go_upto_region 1 with fail
 rw[<-cN];clear cN;refine kT 5 ?_
 repeat (refine bZ ?_;intro K hK;go_big_quiet_op;go_big_quiet_on)
 refine mU (fun W hW=>HW.o W) ?_;intro K hK;go_simp;go_big_quiet_on;refine mU (fun W hW=>HH.o W (dm.o.trans hW)) ?_;intro K hK;go_simp;go_big_quiet_on
 repeat (refine bZ ?_;intro K hK;go_big_quiet_op;go_big_quiet_on)
 refine gC fun w1 hx1 _ _=>?_
 have dI:=ai (dm.o.trans hx1);have HB:=ai (hx1.blk HA.o);clear hx1 x0 x1 x2 xf C0 C1 C2 HA dm HH HW;cases T
 ·go_wp2_with fail
  go_ret;exact bW (by simp) dI.o
 go_wp2_with fail
 refine(Nh.o w1).mono ?_;rintro r w2 ⟨rfl,hx2⟩;have dN:=ai (dI.o.trans hx2);have fY:=ai (hx2.blk HB.o);clear hx2 HB dI Nh hm1 hm2;go_wp2_with fail
 go_loopw [15] (BkI (val s l f) u nu w2) (fun i _=>nu - (intOf i).toNat)
 case atStart=>exact⟨0,rfl,Nat.zero_le _,rfl,Tz _⟩
 case round =>
  obtain⟨k,rfl,hk,hv,hx⟩:=hrel;have HV:=ai hv;have HX:=ai (dN.o.trans hx);have BO:=ai hx;have nU:=ai (hx.blk fY.o);clear hv hx;by_cases hkn:k<nu
  ·have fq:k<u.length:=by have:=qB.o;omega
   have t1:=ag ((k:Int)<(nu:Int));obtain⟨b,off,rfl,v,Co,hrow,wU,Sg,-,-,PZ⟩:=gK.at u _ (gK.mono HX.o.sub u _ HD.o) k fq;obtain⟨c0,c1,c2,c3,c4,c5,c6,c7⟩:=hrow.eight;have se:=ai (fun W (hW:Ext wr W)=>HIH.o k fq v W (HX.o.trans hW) (wU.ext hW) Sg (gK.mono hW.sub _ _ PZ));have HST:=ai (aa4 (val s l f) fq);obtain⟨Q,hQ⟩:∃Q,Q=(val s l f u[k].cond&&!nM (val s l f) u[k].gH):=⟨_,rfl⟩
   rw[<-hQ] at se HST;clear Co hrow wU Sg PZ hQ HIH;obtain⟨x0,x1,x2,xf⟩:=dM nU.o;obtain⟨wb,iV⟩:∃wb,wb=wr.alloc (.cells #[.string v.name,v.x.op,.string v.x.name,.slice v.x.aw v.x.nw v.x.cw,v.x.lo,v.x.hi,.slice v.x.aa v.x.na v.x.ca,.slice v.au v.nu v.cu] 53):=⟨_,rfl⟩
   have jK:=ai (show Ext wr wb by rw[iV];exact(Tz _).alloc _);have VB:wb.heap[wr.heap.size]?=some (.cells #[.string v.name,v.x.op,.string v.x.name,.slice v.x.aw v.x.nw v.x.cw,v.x.lo,v.x.hi,.slice v.x.aa v.x.na v.x.ca,.slice v.au v.nu v.cu] 53 (0,0)):=by rw[iV];exact bR wr _
   go_upto_region 6 with fail
   rw[<-iV];clear iV x0 x1 x2 xf;obtain⟨x0,x1,x2,xf⟩:=dM (jK.o.blk nU.o);obtain⟨f0,f1,f2,f3,f4,f5,f6,f7,ff⟩:=oO VB;clear VB;go_wp2_with fail
   refine(se.o wb jK.o).mono ?_;rintro r w5 ⟨rfl,dh⟩;have gW:=ai (jK.o.trans dh);clear dh f0 f1 f2 f3 f4 f5 f6 f7 ff x0 x1 x2 xf c0 c1 c2 c3 c4 c5 c6 c7;cases Q
   ·go_wp2_with fail
    go_roundw
    case rel=>exact⟨k+1,by go_num,by omega,by rw[HV.o,HST.o];rfl,BO.o.trans gW.o⟩
    case measure=>simp[intOf];omega
   have HQ:=ai (show nM (val s l f) u=true by rw[HV.o,HST.o];rfl);go_wp2_with fail
   go_ret;exact bW (by rw[HQ.o];rfl) (HX.o.trans gW.o)
  have t1:=ah ((k:Int)<(nu:Int));have HQ:=ai (show nM (val s l f) u=false by
   rw[HV.o,show k=u.length by have:=qB.o;omega,List.drop_length,nM])
  go_wp2_with fail
  go_ret;exact bW (by rw[HQ.o];rfl) HX.o
def amI (l:ZI) (x:Int):Int:=match l.findIdx? (fun y=>y==x) with|some i=>i|none => -1
theorem aCp {l:ZI} {x:Int} {k:Nat} (hk:k<l.length) (h1:∀j (hj:j<l.length),j<k->(l[j]==x)=false) (h2:(l[k]==x)=true):amI l x=k:=by
 unfold amI;rw[show l.findIdx? (fun y=>y==x)=some k from by
  rw[aJ];exact⟨hk,h2,fun j hj=>by simpa using h1 j (by omega) hj⟩]
theorem ayA {l:ZI} {x:Int} (h1:∀j (hj:j<l.length),(l[j]==x)=false):amI l x = -1:=by
 unfold amI;rw[show l.findIdx? (fun y=>y==x)=none from by
  rw[bh];intro y hy;obtain⟨j,hj,rfl⟩:=bA hy;exact h1 j hj]
theorem aCq (l:ZI) (x:Int):decide (0<=amI l x)=l.any (·==x):=by
 unfold amI;cases h:l.findIdx? (fun y=>y==x) with
 | none =>
  rw[bh] at h;have:l.any (·==x)=false:=by
   rw[List.any_eq_false];intro y hy;simpa using h y hy
  rw[this]
  rfl
 | some i =>
  rw[aJ] at h;obtain⟨hi,h2,_⟩:=h;have:l.any (·==x)=true:=List.any_eq_true.2 ⟨_,aD hi,h2⟩;rw[this];simp
theorem am3 (l:ZI) (x:Int) (a:OA) (n c:Nat) (w:World) (hn:n<=1000000000000000) (hl:dG w l a n) :
  Calls Tryz.prog 114 #[.slice a n c,x] w (pg (.int .i64 (amI l x)) w):=by
 have HL:=ai hl;have OX:=ai hl.1;obtain⟨R,hR⟩:∃R,R=amI l x:=⟨_,rfl⟩
 rw[<-hR];have HR:=ai hR;clear hl hR;go_enter Tryz.func114,Tryz.ntmps114
 go_wp2_with fail
 go_loop [8] (fun t=>∃k:Nat,t=.int .i64 k/\k<=n/\∀j (hj:j<l.length),j<k->(l[j]==x)=false) (fun t=>n - (intOf t).toNat)
 case atStart=>exact⟨0,rfl,by omega,fun _ _ h=>by omega⟩
 case round =>
  obtain⟨k,rfl,hk,hne⟩:=hrel;have HE:=ai hne;clear hne;by_cases hlt:k<n
  ·have hlt':k<l.length:=by have:=OX.o;omega
   have t1:=ag ((k:Int)<(n:Int));obtain⟨b,off,rfl,hcell⟩:=HL.o.2 k hlt';obtain⟨q,hq⟩:∃q,q=l[k]:=⟨_,rfl⟩
   rw[<-hq] at hcell;have HQ:=ai hq;clear hq;cases hx:(x==q)
   ·go_wp2_with fail
    go_round
    case rel =>
     refine⟨k+1,by go_num,by omega,?_⟩;intro j hj hj2;by_cases hjk:j<k
     ·exact HE.o j hj hjk
     obtain rfl:j=k:=by omega
     rw[<-HQ.o];rw[beq_eq_false_iff_ne] at hx ⊢;exact fun e=>hx e.symm
    case measure=>simp[intOf];omega
   have HH:=ai (show R=(k:Int) by rw[HR.o];exact aCp hlt' HE.o (by rw[<-HQ.o];rw[a47] at hx ⊢;exact hx.symm));go_wp2_with fail
   go_ret;exact sZ HH.o.symm
  have t1:=ah ((k:Int)<(n:Int));have HH:=ai (show R = -1 by rw[HR.o];exact ayA (fun j hj=>HE.o j hj (by have:=OX.o;omega)));go_wp2_with fail
  go_ret;exact sZ HH.o.symm
theorem adK (l:ZI) (x:Int) (a:OA) (n c:Nat) (w:World) (hn:n<=1000000000000000) (hl:dG w l a n) :
  Calls Tryz.prog 85 #[.slice a n c,x] w (pg (.bool (l.any (·==x))) w):=by
 have HC:=ai (am3 l x a n c w hn hl);rw[<-aCq];obtain⟨R,hR⟩:∃R,R=amI l x:=⟨_,rfl⟩
 rw[<-hR] at HC ⊢;clear hR hl;go_enter Tryz.func85,Tryz.ntmps85
 go_wp2_with fail
 refine HC.o.mono ?_;rintro e w' ⟨rfl,rfl⟩;go_wp2_with fail
 go_ret;exact fU rfl
def kS (ks:ZI) (l:List cK):List cK:=l.filter fun x=>ks.any (·==x.kind)
theorem aCD (ks:ZI) {l:List cK} {k:Nat} (hk:k<l.length):kS ks (l.take (k+1))=if ks.any (·==l[k].kind)=true then kS ks (l.take k)++[l[k]] else kS ks (l.take k):=by
 unfold kS;rw[aO hk,List.filter_append,List.filter_cons];cases ks.any (·==l[k].kind)<;>simp
theorem amP (ks:ZI) (l:List cK):(kS ks l).length<=l.length:=List.length_filter_le _ _
def OfQ (ks:ZI) (l:List cK) (w:World) (r:Ending) (w':World):Prop:=∃u a c,u=kS ks l/\r=.returned (.slice a u.length c)/\cZ w' u a u.length c/\Ext w w'
def acd (ks:ZI) (l:List cK) (w0 w:World) (r:Ending) (w':World):Prop:=∃u vs a c,u=kS ks l/\r=.returned (.slice a u.length c)/\vG w0 u vs/\eE (mask w' (List.range w.heap.size)) 10 fM.cells vs a u.length c/\Ext w w'
theorem acd.of {ks:ZI} {l:List cK} {w:World} {r:Ending} {w':World} (h:acd ks l w w r w'):OfQ ks l w r w':=by
 obtain⟨u,vs,a,c,h1,h2,h3,h4,h5⟩:=h;exact⟨u,a,c,h1,h2,⟨vs,h4.mono (cC _ _),h3.1,fun i q1 q2=>(h3.2 i q1 q2).mono h5.sub⟩,h5⟩
theorem NR (l:List cK) (ks:ZI) (a:OA) (n c:Nat) (ka:OA) (kn kc:Nat) {w0:World} (w:World) (hl:cZ w0 l a n c) (h0:Ext w0 w) (hn:n<=1000000) (hk:dG w ks ka kn) (hkn:kn<=100) :
  Calls Tryz.prog 58 #[.slice a n c,.slice ka kn kc] w (acd ks l w0 w):=by
 have HCT:=ai (fun (x:Int) W (hW:Ext w W)=>adK ks x ka kn kc W (by omega) (hk.ext hW));have HL:=ai hl;have H0:=ai h0;have HN:=ai hl.len;clear hl hk h0;go_enter Tryz.func58,Tryz.ntmps58
 go_wp2_with fail
 go_loopw [5,10] (fun lv i wr=>∃(k:Nat) (vs:List fM) (u:List cK),i=.int .i64 k/\k<=n/\u=kS ks (l.take k)/\u.length<=k/\vG w0 u vs/\wr.ownsRow w.heap.size 48 10 lv u.length (vs.flatMap fM.cells)/\Ext w wr) (fun _ i _=>n - (intOf i).toNat)
 case atStart=>exact⟨0,[],[],rfl,by omega,rfl,by simp,⟨rfl,fun i h=>by simp at h⟩,a4' _ _ _ _,Tz _⟩
 case round =>
  obtain⟨k,vs,u,rfl,aDm,hu,hul,hcr,hown,hx⟩:=hrel;obtain⟨la,lc,hlv⟩:=lF hown;subst hlv;have HU:=ai hu;have xW:=ai hcr;have kD:=ai hown;have HX:=ai hx;clear hu hcr hown hx;by_cases hlt:k<n
  ·have fq:k<l.length:=by have:=HN.o;omega
   have t1:=ag ((k:Int)<(n:Int));obtain⟨cb,ld,v,rfl,fO,hrow⟩:=HL.o.at fq;obtain⟨c0,c1,c2,c3,c4,c5,c6,c7,c8,c9⟩:=(hrow.mono (H0.o.trans HX.o).sub).BB;have qC:=ai fO;obtain⟨B,hB⟩:∃B,B=ks.any (·==v.kind):=⟨_,rfl⟩
   have HST:=ai (show kS ks (l.take (k+1))=if B=true then u++[l[k]] else u by rw[aCD ks fq,hB,fO.1,HU.o]);have Lb:=ai (fun W (hW:Ext w W)=>HCT.o v.kind W hW);rw[<-hB] at Lb;clear fO hrow hB;obtain⟨wb,iV⟩:∃wb,wb=wr.alloc (.cells #[ v.kind,.string v.name,v.x.op,.string v.x.name,.slice v.x.aw v.x.nw v.x.cw,v.x.lo,v.x.hi,.slice v.x.aa v.x.na v.x.ca,.slice v.au v.nu v.cu,v.ck] 48):=⟨_,rfl⟩
   have jK:=ai (show Ext wr wb by rw[iV];exact(Tz _).alloc _);have hb:=(show wb.heap[wr.heap.size]?=some (.cells #[ v.kind,.string v.name,v.x.op,.string v.x.name,.slice v.x.aw v.x.nw v.x.cw,v.x.lo,v.x.hi,.slice v.x.aa v.x.na v.x.ca,.slice v.au v.nu v.cu,v.ck] 48 (0,0)) by rw[iV];exact bR wr _)
   have hsb:w.heap.size<=wb.heap.size:=aV HX.o.size jK.o.size;obtain⟨f0,f1,f2,f3,f4,f5,f6,f7,f8,f9,ff⟩:=rK hb;go_upto_region 5 with fail
   rw[<-iV];clear iV hb c0 c1 c2 c3 c4 c5 c6 c7 c8 c9;go_wp2_with fail
   refine(Lb.o wb (HX.o.trans jK.o)).mono ?_;rintro e w' ⟨rfl,rfl⟩;cases B
   case false =>
    go_wp2_with fail
    go_roundw
    case rel=>exact⟨k+1,vs,u,by go_num,by omega,by rw[HST.o];rfl,by omega,xW.o,cO kD.o (jK.o.cR []) (by simp),HX.o.trans jK.o⟩
    case measure=>simp[intOf];omega
   case true =>
    have vF:=ai (cO kD.o (jK.o.cR []) (by simp));go_wp2_with (at_builtin;refine dA nr rfl _ _ rfl w.heap.size _ u.length _ rfl vF.o _ 1 1 rfl ?f0 rfl ?f1 ?f2 ?f3 ?f4 ?_)
    case f0=>simp
    case f1=>simp[Value.oneCell']
    case f2=>unfold maxLen;omega
    case f3=>omega
    case f4=>omega
    intro v8 w8 dY iI gX;have zo:=ai dY;have nB:=ai (iI.ext (HX.o.trans jK.o) fun q hq=>(vF.o.lt q (bV.1 hq)).1);clear dY iI gX f0 f1 f2 f3 f4 f5 f6 f7 f8 f9 ff;go_wp2_with fail
    go_roundw
    case rel=>exact⟨k+1,vs++[v],u++[l[k]],by go_num,by omega,by rw[HST.o];rfl,by simp;omega,xW.o.snoc qC.o,by simpa[fM.cells] using zo.o,nB.o⟩
    case measure=>simp[intOf];omega
  have t1:=ah ((k:Int)<(n:Int));have HQ:=ai (show u=kS ks l by rw[HU.o,aS (by have:=HN.o;omega)]);have vC:=xW.o.1;have hown:=kD.o;rw[vC] at hown;obtain⟨a',c',hv,hr⟩:=eE.iZ fM.len hown;simp only[a45] at hv;obtain⟨rfl,-,rfl⟩:=hv;have yM:=ai (show eE (mask wr (List.range w.heap.size)) 10 fM.cells vs la u.length lc from⟨vC,by rw[vC];exact hr.2.1,hr.2.2.1,fun i hi=>by
   obtain⟨b',off',e1,h5⟩:=hr.2.2.2 i hi;subst e1;refine⟨b',off',rfl,fun j hj=>?_⟩;rw[eA,bL (fun hm=>by have h1:=(kD.o.lt b' rfl).1;have h2:b'<w.heap.size:=a43.1 hm;omega)];exact h5 j hj⟩)
  clear hown hr vC;go_wp2_with fail
  go_ret;exact⟨u,vs,_,_,HQ.o,rfl,xW.o,yM.o,HX.o⟩
theorem af7 (l:List cK) (ks:ZI) (a:OA) (n c:Nat) (ka:OA) (kn kc:Nat) (w:World) (hl:cZ w l a n c) (hn:n<=1000000) (hk:dG w ks ka kn) (hkn:kn<=100) :
  Calls Tryz.prog 58 #[.slice a n c,.slice ka kn kc] w (OfQ ks l w) :=
 (NR l ks a n c ka kn kc w hl (Tz w) hn hk hkn).mono fun _ _ h=>h.of
theorem xI {W:World} {ks:ZI} {vs:Array Value} {t:TypeId} (hv:vs.toList=ks.map (fun x=>Value.int .i64 x)):dG (W.alloc (.cells vs t)) ks (some ⟨W.heap.size,0,none⟩) ks.length:=by
 refine⟨rfl,fun i hi=>⟨W.heap.size,0,rfl,?_⟩⟩;rw[Nat.zero_add,bX (bR W (.cells vs t)) i];have:vs[i]?=vs.toList[i]?:=by simp
 rw[this,hv];simp[hi]
theorem WE (l:List cK) (a:OA) (n c:Nat) (w:World) (hl:cZ w l a n c) (hn:n<=1000000) :
  Calls Tryz.prog 29 #[.slice a n c] w (OfQ [2] l w):=by
 have HX:=ai ((Tz w).alloc (.cells #[.int .i64 2] 3));have HOF:=ai (af7 l [2] a n c (some ⟨w.heap.size,0,none⟩) 1 1 (w.alloc (.cells #[.int .i64 2] 3)) (hl.ext HX.o) hn (xI rfl) (by omega));clear hl;go_enter Tryz.func29,Tryz.ntmps29
 go_wp2_with fail
 refine HOF.o.mono ?_;rintro r w1 ⟨u,a',c',hu,rfl,h1,h2⟩;have HQ:=ai (show OfQ [2] l w (.returned (.slice a' u.length c')) w1 from⟨u,a',c',hu,rfl,h1,HX.o.trans h2⟩);clear hu h1 h2;go_wp2_with fail
 go_ret;exact HQ.o
theorem Mn (l:List cK) (a:OA) (n c:Nat) (w:World) (hl:cZ w l a n c) (hn:n<=1000000) :
  Calls Tryz.prog 30 #[.slice a n c] w (OfQ [4] l w):=by
 have HX:=ai ((Tz w).alloc (.cells #[.int .i64 4] 3));have HOF:=ai (af7 l [4] a n c (some ⟨w.heap.size,0,none⟩) 1 1 (w.alloc (.cells #[.int .i64 4] 3)) (hl.ext HX.o) hn (xI rfl) (by omega));clear hl;go_enter Tryz.func30,Tryz.ntmps30
 go_wp2_with fail
 refine HOF.o.mono ?_;rintro r w1 ⟨u,a',c',hu,rfl,h1,h2⟩;have HQ:=ai (show OfQ [4] l w (.returned (.slice a' u.length c')) w1 from⟨u,a',c',hu,rfl,h1,HX.o.trans h2⟩);clear hu h1 h2;go_wp2_with fail
 go_ret;exact HQ.o
theorem Mm (l:List cK) (a:OA) (n c:Nat) (w:World) (hl:cZ w l a n c) (hn:n<=1000000) :
  Calls Tryz.prog 31 #[.slice a n c] w (OfQ [3] l w):=by
 have HX:=ai ((Tz w).alloc (.cells #[.int .i64 3] 3));have HOF:=ai (af7 l [3] a n c (some ⟨w.heap.size,0,none⟩) 1 1 (w.alloc (.cells #[.int .i64 3] 3)) (hl.ext HX.o) hn (xI rfl) (by omega));clear hl;go_enter Tryz.func31,Tryz.ntmps31
 go_wp2_with fail
 refine HOF.o.mono ?_;rintro r w1 ⟨u,a',c',hu,rfl,h1,h2⟩;have HQ:=ai (show OfQ [3] l w (.returned (.slice a' u.length c')) w1 from⟨u,a',c',hu,rfl,h1,HX.o.trans h2⟩);clear hu h1 h2;go_wp2_with fail
 go_ret;exact HQ.o
theorem MS (l:List cK) (a:OA) (n c:Nat) {w0:World} (w:World) (hl:cZ w0 l a n c) (h0:Ext w0 w) (hn:n<=1000000) :
  Calls Tryz.prog 32 #[.slice a n c] w (acd [5,6,7,8,9] l w0 w):=by
 have HX:=ai ((Tz w).alloc (.cells #[.int .i64 5,.int .i64 6,.int .i64 7,.int .i64 8,.int .i64 9] 3));have HOF:=ai (NR l [5,6,7,8,9] a n c (some ⟨w.heap.size,0,none⟩) 5 5 (w.alloc (.cells #[.int .i64 5,.int .i64 6,.int .i64 7,.int .i64 8,.int .i64 9] 3)) hl (h0.trans HX.o) hn (xI rfl) (by omega));clear hl h0;go_enter Tryz.func32,Tryz.ntmps32
 go_wp2_with fail
 refine HOF.o.mono ?_;rintro r w1 ⟨u,vs,a',c',hu,rfl,h0,h1,h2⟩;have HQ:=ai (show acd [5,6,7,8,9] l w0 w (.returned (.slice a' u.length c')) w1 from⟨u,vs,a',c',hu,rfl,h0,h1.mono (cM _ (fun y hy=>by have:=HX.o.size;rw[a43] at hy ⊢;omega)),HX.o.trans h2⟩);clear hu h0 h1 h2;go_wp2_with fail
 go_ret;exact HQ.o
theorem anP (l:List cK) (a:OA) (n c:Nat) (w:World) (hl:cZ w l a n c) (hn:n<=1000000) :
  Calls Tryz.prog 32 #[.slice a n c] w (OfQ [5,6,7,8,9] l w) :=
 (MS l a n c w hl (Tz w) hn).mono fun _ _ h=>h.of
def PdC (s:List Attr) (l:List cK) (x:cK):Prop:=Pd s l x.cond/\jY (Pd s l) x.gH/\x.gH.length<=1000000000000000
theorem avA {s:List Attr} {l:List cK} {f:ZI} {lo:fT} {m:Nat} (L:List cK) (a:OA) (n c:Nat) (B:Bool) (w:World) (h:WU w s l f lo m) (hl:cZ w L a n c) (hn:n<=1000000) (hp:∀x∈L,PdC s l x) :
  Calls Tryz.prog 28 #[lo.val,.slice a n c,.bool B] w (cz (.bool (L.any fun x=>ke (val s l f) x==B)) w):=by
 have Gl:=ai (fun (k:Nat) (hk:k<L.length) (v:fM) (W:World) (hW:Ext w W) (hc:ij W L[k] v)=>WD L[k].cond L[k].gH v.kind v.name v.x v.au v.nu v.cu v.ck W (h.ext hW) (hp _ (aD hk)).1 (hp _ (aD hk)).2.1 (by rw[hc.2.2.2.1];exact(hp _ (aD hk)).2.2) hc.2.2.2.1 hc.2.2.1 hc.2.2.2.2.2.2.1);have HL:=ai hl;have HN:=ai hl.len;clear h hl hp;obtain⟨R,hR⟩:∃R,R=L.any fun x=>ke (val s l f) x==B:=⟨_,rfl⟩
 rw[<-hR];have HR:=ai hR;clear hR;unfold fT.val at *;obtain⟨wa,cN⟩:∃wa,wa=w.alloc (.cells #[.slice lo.sa lo.sn lo.sc,.map (some lo.bm),.slice lo.fa lo.fn lo.fc] 74):=⟨_,rfl⟩
 have dm:=ai (show Ext w wa by rw[cN];exact(Tz _).alloc _);have HA:=ai (show wa.heap[w.heap.size]?=some (.cells #[.slice lo.sa lo.sn lo.sc,.map (some lo.bm),.slice lo.fa lo.fn lo.fc] 74 (0,0)) by rw[cN];exact bR w _);go_enter Tryz.func28,Tryz.ntmps28
 go_upto_region 1 with fail
 rw[<-cN];clear cN;go_wp2_with fail
 go_loopw [11] (fun i wr=>∃k:Nat,i=.int .i64 k/\k<=n/\(∀j (hj:j<L.length),j<k->(ke (val s l f) L[j]==B)=false)/\Ext wa wr) (fun i _=>n - (intOf i).toNat)
 case atStart=>exact⟨0,rfl,Nat.zero_le _,fun _ _ h=>by omega,Tz _⟩
 case round =>
  obtain⟨k,rfl,hk,hne,hx⟩:=hrel;have HE:=ai hne;have HX:=ai hx;clear hne hx;by_cases hlt:k<n
  ·have fq:k<L.length:=by have:=HN.o;omega
   have t1:=ag ((k:Int)<(n:Int));obtain⟨cb,ld,v,rfl,fO,hrow⟩:=HL.o.at fq;obtain⟨c0,c1,c2,c3,c4,c5,c6,c7,c8,c9⟩:=(hrow.mono (dm.o.trans HX.o).sub).BB;have se:=ai (fun W (hW:Ext w W)=>Gl.o k fq v W hW (fO.mono hW.sub));obtain⟨Q,hQ⟩:∃Q,Q=ke (val s l f) L[k]:=⟨_,rfl⟩
   rw[show (val s l f L[k].cond&&!nM (val s l f) L[k].gH)=Q from hQ.symm] at se;have HQ:=ai hQ;obtain⟨wb,iV⟩:∃wb,wb=wr.alloc (.cells #[ v.kind,.string v.name,v.x.op,.string v.x.name,.slice v.x.aw v.x.nw v.x.cw,v.x.lo,v.x.hi,.slice v.x.aa v.x.na v.x.ca,.slice v.au v.nu v.cu,v.ck] 48):=⟨_,rfl⟩
   have jK:=ai (show Ext wr wb by rw[iV];exact(Tz _).alloc _);have hb:=(show wb.heap[wr.heap.size]?=some (.cells #[ v.kind,.string v.name,v.x.op,.string v.x.name,.slice v.x.aw v.x.nw v.x.cw,v.x.lo,v.x.hi,.slice v.x.aa v.x.na v.x.ca,.slice v.au v.nu v.cu,v.ck] 48 (0,0)) by rw[iV];exact bR wr _)
   obtain⟨x0,x1,x2,xf⟩:=dM (jK.o.blk (HX.o.blk HA.o));obtain⟨f0,f1,f2,f3,f4,f5,f6,f7,f8,f9,ff⟩:=rK hb;go_upto_region 4 with fail
   rw[<-iV];clear iV hb c0 c1 c2 c3 c4 c5 c6 c7 c8 c9 fO hrow hQ;go_wp2_with fail
   refine(se.o wb ((dm.o.trans HX.o).trans jK.o)).mono ?_;rintro e w5 ⟨rfl,dh⟩;have gW:=ai ((HX.o.trans jK.o).trans dh);clear dh f0 f1 f2 f3 f4 f5 f6 f7 f8 f9 ff x0 x1 x2 xf;cases hqb:(Q==B)
   ·go_wp2_with fail
    go_roundw
    case rel =>
     refine⟨k+1,by go_num,by omega,?_,gW.o⟩;intro j hj hj2;by_cases hjk:j<k
     ·exact HE.o j hj hjk
     obtain rfl:j=k:=by omega
     rw[<-HQ.o];exact hqb
    case measure=>simp[intOf];omega
   have HH:=ai (show R=true by rw[HR.o];exact List.any_eq_true.2 ⟨_,aD fq,by rw[<-HQ.o];exact hqb⟩);go_wp2_with fail
   go_ret;exact bW HH.o.symm (dm.o.trans gW.o)
  have t1:=ah ((k:Int)<(n:Int));have HH:=ai (show R=false by
   rw[HR.o,List.any_eq_false];intro x hx;obtain⟨j,hj,rfl⟩:=bA hx;rw[HE.o j hj (by have:=HN.o;omega)];simp)
  go_wp2_with fail
  go_ret;exact bW HH.o.symm (dm.o.trans HX.o)
end Go.Proofs.YtefjomofjejklaaGreatDoor
