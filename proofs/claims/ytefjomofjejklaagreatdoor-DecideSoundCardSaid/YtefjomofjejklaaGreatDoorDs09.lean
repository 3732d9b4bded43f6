/- Joined. -/
import Derived.Test.YtefjomofjejklaaGreatDoorDs08
namespace Go.Proofs
set_option maxRecDepth 100000
set_option maxHeartbeats 32000000
open Go.RowKit Go.Maps Go.Sort Go.Shelf
theorem Tryz.sorts41 (m:Nat):AnyZ.SortsIn Tryz.prog Tryz.sorted41_ren Fence.wide m :=
 ⟨fun blk off cap ss W hH hblk hsz=>callsIn_wide.2 (AnyM.slices_Sort_string Tryz.sort61 blk off cap ss W hH hblk hsz),
 fun p cap W=>callsIn_wide.2 (AnyM.slices_Sort_string_none Tryz.sort61 p cap W)⟩
theorem Tryz.maps_Keys_42 (mb:Option Nat) (W:World):CallsIn Fence.wide 5 Tryz.prog 142 #[.map mb] W fun e w'=>e=.returned (.func (.func 172) #[] #[.pointer (some ⟨W.heap.size,0,none⟩)])/\w'=W.alloc (.cells #[.map mb] 174) :=
 AnyZ.keys_in Tryz.keys42 Fence.wide 5 trivial rfl mb W
theorem Tryz.slices_Sorted_keys_41_42 {H:Type} (b nn:Nat) (D0:DataW H) (R:Value->Option (DataW H×List MemPlace)) (w:World) (hown:w.ownsMap Tryz.prog 9 R b nn D0) (hmax:Maps.size D0<=maxLen) (hbytes:Maps.size D0*16<=140737488355328) :
  CallsIn Fence.wide 5 Tryz.prog 141 #[.func (.func 172) #[] #[.pointer (some ⟨w.heap.size,0,none⟩)]] (w.alloc (.cells #[.map (some b)] 174)) fun e w'=>∃(v:Value) (ss:List (List UInt8)),e=.returned v/\ss.Perm (strKeys D0) /\
   w'.ownsRow (w.alloc (.cells #[.map (some b)] 174)).heap.size 9 1 v ss.length ((ss.mergeSort (fun x y=>decide (x<=y))).map encStr)/\(v=.slice none 0 0 ↔ ss=[])/\Below (w.alloc (.cells #[.map (some b)] 174)).heap.size (w.alloc (.cells #[.map (some b)] 174)) w':=by
 have hbl:=hown.lt;have hseq:SeqGives Fence.wide 2 Tryz.prog 172 #[.pointer (some ⟨w.heap.size,0,none⟩)] encStr (fun ss=>ss.Perm (strKeys D0)) (Maps.size D0) (w.alloc (.cells #[.map (some b)] 174)) :=
  AnyZ.keys_gives (ρ:=Tryz.keys42_ren) { Tryz.keys42 with } Fence.wide _ trivial rfl (by omega) w.heap.size b nn D0 _ (by simp) (by simp) (by
   obtain⟨es,clock,hb,Ft,hs,hD⟩:=hown;exact⟨es,clock,(Below.heap_alloc _ _ b hbl).trans hb,Ft,hs,hD⟩)
 exact AnyZ.sorted_in Tryz.sorted41 Fence.wide 5 trivial trivial trivial trivial rfl (by omega) (Tryz.sorts41 _) (enters_of Tryz.func171 (by kernel_rfl) rfl) 172 #[.pointer (some ⟨w.heap.size,0,none⟩)] trivial (enters_of Tryz.func172 (by kernel_rfl) rfl) _ _ hmax hbytes _ hseq
end Go.Proofs
namespace Go.Proofs.YtefjomofjejklaaGreatDoor
set_option maxRecDepth 100000
set_option maxHeartbeats 32000000
open Go.RowKit Go.Maps Go.Sort Go.Shelf
theorem ape {w:World} {base:Nat} {l:ZB} {v:Value} {n:Nat} (h:w.ownsRow base 9 1 v n ((l.map (·.data.toList)).map encStr)) (hn:n=l.length):∃a c,v=.slice a l.length c/\fS w l a l.length c:=by
 subst hn;have e:(l.map (·.data.toList)).map encStr=l.flatMap iC:=by
  clear h;induction l with
  | nil=>rfl
  | cons x r ih=>simp only[List.map_cons,ih,List.flatMap_cons,iC];rfl
 rw[e] at h;obtain⟨a,c,h1,_,h2⟩:=jR h [] (by simp);exact⟨a,c,h1,h2⟩
theorem atG {w:World} {b n:Nat} {D:DataW Unit} {R:Value->Option (DataW Unit×List MemPlace)} (h:w.ownsMap Tryz.prog 9 R b n D):Maps.size D<=n:=by
 obtain⟨es,clock,_,_,hs,rfl⟩:=h;simp only[Maps.size];rw[length_sorted];simpa using hs
def aSo (l:ZB) (w:World) (e:Ending) (w':World):Prop:=∃(a:OA) (c:Nat),e=.returned (.slice a l.length c)/\fS w' l a l.length c/\Ext w w'/\∀b off,a=some ⟨b,off,none⟩->w.heap.size<=b
theorem BD (e:Ex) (v:Value) (w:World) (hs:e.size<=900000) (hf:e.fits) (he:dw w e v):Calls Tryz.prog 109 #[v] w (aSo (jB (fX e)) w):=by
 obtain⟨aw,nw,cw,aa,na,ca,rfl,-,-,-,-,-⟩:=he.parts;have HX:=ai (((Tz w).alloc (.cells #[ e.op,.string e.name,.slice aw nw cw,e.lo,e.hi,.slice aa na ca] 45)).alloc (.map #[] 0));have Ij:=ai (show KW ((w.alloc (.cells #[ e.op,.string e.name,.slice aw nw cw,e.lo,e.hi,.slice aa na ca] 45)).alloc (.map #[] 0)) (w.heap.size+1) 0 [] from
  ⟨.map [],by have:=World.ownsMap_made (H:=Unit) (w.alloc (.cells #[ e.op,.string e.name,.slice aw nw cw,e.lo,e.hi,.slice aa na ca] 45)) Tryz.prog 9 unitElem;simpa using this,ax5⟩)
 have HE:=ai (show dw (mask ((w.alloc (.cells #[ e.op,.string e.name,.slice aw nw cw,e.lo,e.hi,.slice aa na ca] 45)).alloc (.map #[] 0)) [w.heap.size+1]) e (fN e.op e.name aw nw cw e.lo e.hi aa na ca) from
  he.mono (fun p q hp=>by
   have hb:=eB hp;rw[eA,bL (by simp;omega)];exact HX.o.cell hp))
 have HC:=ai (aji 900000 (by omega) e _ _ _ _ _ hs hf HE.o Ij.o (by omega));have hmm:=@run_makeMap Tryz.prog;rw[List.nil_append] at HC;clear he Ij HE;unfold fN at *;refine(callsIn_wide (n:=6)).1 ?_;have hfK:Fence.wide.fn 142:=trivial;have hfS:Fence.wide.fn 141:=trivial;have hfC:Fence.wide.fn 140:=trivial;refine callsIn_of_wp Tryz.func109 rfl trivial ?_ rfl;simp only[Tryz.ntmps109,List.size_toArray,List.length_cons,List.length_nil,Nat.reduceAdd,Nat.reduceSub,Array.replicate_succ,Array.replicate_zero,List.push_toArray,List.append_toArray,List.nil_append,a48]
 gi_wp2_with (first
  | (gi_at_call 140;refine(callsIn_wide.2 HC.o).mono ?_;rintro r w1 ⟨rfl,aQi,hc1⟩)
  | (gi_at_call 142;refine(Tryz.maps_Keys_42 _ _).mono ?_;rintro r w' ⟨rfl,rfl⟩))
 obtain⟨D,hown,hsi⟩:=aQi;have hsize:=atG hown;have hwx:=hc1.ext HX.o (by simp);have dI:=ai hwx;have HSI:=ai hsi;clear hc1 hsi hwx;refine(Tryz.slices_Sorted_keys_41_42 (w.heap.size+1) _ D _ w1 hown (by unfold maxLen;omega) (by omega)).mono ?_;rintro r w2 ⟨v,ss,rfl,hS,hrow,-,hb⟩;have hsame:=auD HSI.o hS;have hlen:ss.length=(jB (fX e)).length:=by
  have:=congrArg List.length hsame;simpa using this
 rw[hsame] at hrow;have hfr:=hrow.lt;obtain⟨ra,rc,rfl,hst⟩:=ape hrow hlen;have HFR:=ai (show ∀b off,ra=some ⟨b,off,none⟩->w.heap.size<=b by
  intro b off e;subst e;have h1:=(hfr b rfl).1;have h2:=dI.o.size;simp at h1;omega)
 have HST:=ai hst;have dN:=ai ((dI.o.alloc (.cells #[.map (some (w.heap.size+1))] 174)).trans hb);clear hrow hst hb hS hsame hlen hown hsize hfr
 gi_wp2_with (fail)
 go_ret;exact⟨ra,rc,rfl,HST.o,dN.o,HFR.o⟩
open Go.RowKit Go.Maps
def Cl.tV (c:Cl):uW:=⟨c.kind==1,c.name,jB (fX c.cond)⟩
def FK (w:World) (l:ZI) (a:OA) (n c:Nat):Prop :=
 n=l.length/\n<=c/\ny a c/\∀i (h:i<l.length),∃b off,a=some ⟨b,off,none⟩/\w.cell? ⟨b,off+i,none⟩=some (.int .i64 l[i])
theorem FK.mono {w w':World} {l:ZI} {a:OA} {n c:Nat} (h:FK w l a n c) (he:Sub w w'):FK w' l a n c :=
 ⟨h.1,h.2.1,h.2.2.1,fun i hi=>by obtain⟨b,off,h1,h2⟩:=h.2.2.2 i hi;exact⟨b,off,h1,he _ _ h2⟩⟩
def ints (o:ZN):ZI:=o.map fun (i:Nat)=>(i:Int)
def aNp (l:List uW) (w:World) (e:Ending) (w':World):Prop:=Ext w w' /\
 ((∃o a c,Yi l o/\e=.returned (.tuple #[.slice a o.length c,.int .i64 0])/\FK w' (ints o) a o.length c)\/(∃o,Lo l o []/\o.length<lY l/\e=.returned (.tuple #[.slice none 0 0,.int .i64 10])))
theorem Qm {l:List uW} {k:Nat} (hk:k<l.length) (s:BA):gA (l.take (k+1)) s=match gA (l.take k) s with|some d=>some d|none=>if l[k].is=true/\l[k].name=s then some k else none:=by
 unfold gA;rw[aO hk,List.findIdx?_append];cases h:(l.take k).findIdx? fun d=>d.is&&decide (d.name=s) with
 | some d=>simp
 | none =>
  simp only[List.findIdx?_cons,List.findIdx?_nil,List.length_take];by_cases hc:l[k].is=true/\l[k].name=s
  ·simp[hc];omega
  rw[bL hc];have:(l[k].is&&decide (l[k].name=s))=false:=by
   simp only[Bool.and_eq_false_iff,bI];by_cases h1:l[k].is=true
   ·exact a4Z fun h2=>hc ⟨h1,h2⟩
   exact aoX (by simpa using h1)
  simp[this]
theorem JM:Tryz.prog.underlying 136=some (.map 9 3):=by kernel_rfl
theorem al4:Tryz.prog.underlying 173=some (.map 9 26):=by kernel_rfl
theorem ato:Tryz.prog.underlying 172=some (.map 3 174):=by kernel_rfl
theorem aJP:Tryz.prog.underlying 3=some (.int .i64):=by kernel_rfl
theorem agp:Keyed Tryz.prog 3:=int_keyed aJP
theorem IJ (w:World):(zeroValue 3).run Tryz.prog w=.ok (.int .i64 0) w:=by kernel_rfl
theorem aoF (w:World):(zeroValue 26).run Tryz.prog w=.ok (.slice none 0 0) w:=by kernel_rfl
theorem awq (w:World):(zeroValue 174).run Tryz.prog w=.ok (.map none) w:=by kernel_rfl
theorem lB {s:BA} (h:s.size<=1000000000000000):keyOf Tryz.prog 9 (.string s)=some (.string s.data.toList):=Go.WideMaps.keyOf_string_mk aBs (by unfold maxLen;omega)
theorem auO {i:Nat} (h:i<=1000000000000000):keyOf Tryz.prog 3 (.int .i64 i)=some (.int .i64 i):=keyOf_int_mk aJP (by simp[Lit.wf,IntKind.min,IntKind.max,IntKind.bits,IntKind.signed];omega)
theorem ac8 {l:List uW} {s:BA} (h:gA l s=none):kV (zT l) (.string s.data.toList)=none:=by rw[oQ,zT,h];rfl
theorem TL {l:List uW} {s:BA} {d:Nat} (h:gA l s=some d):kV (zT l) (.string s.data.toList)=some (.int .i64 d):=by rw[oQ,zT,h];rfl
theorem arv {l:List uW} {k:Nat} (hk:k<l.length) (hd:l[k].is=true) (hf:gA (l.take k) l[k].name=none) (x:Lit):Rw (kV (zT (l.take k))) (.string l[k].name.data.toList) (some (.int .i64 k)) x=kV (zT (l.take (k+1))) x:=by
 rw[Dm];cases x<;>try rfl
 rename_i bs
 simp only[kV];by_cases e:(⟨bs.toArray⟩:BA)=l[k].name
 ·rw[e,xY,zT,Qm hk,hf];simp[hd]
 rw[sR _ _ e,zT,zT,Qm hk];cases gA (l.take k) ⟨bs.toArray⟩ with
 | some d=>rfl
 | none =>
  have:¬(l[k].is=true/\l[k].name=⟨bs.toArray⟩):=fun h=>e h.2.symm
  rw[bL this]
theorem arw {l:List uW} {k:Nat} (hk:k<l.length) (hd:l[k].is=false\/gA (l.take k) l[k].name≠none) (x:Lit):kV (zT (l.take k)) x=kV (zT (l.take (k+1))) x:=by
 cases x<;>try rfl
 rename_i bs
 simp only[kV,zT];rw[Qm hk];cases h:gA (l.take k) ⟨bs.toArray⟩ with
 | some d=>rfl
 | none =>
  have:¬(l[k].is=true/\l[k].name=⟨bs.toArray⟩):=by
   rintro⟨h1,h2⟩;rcases hd with h3|h3
   ·rw[h3] at h1;cases h1
   rw[h2] at h3;exact h3 h
  rw[bL this]
def Tl (D:BA->Option Nat):BA->Option Value:=fun s=>(D s).map fun (n:Nat)=>Value.int .i64 (n:Int)
mutual
theorem aBA {D:BA->Option Nat} (hD:∀s n,D s=some n->n<=2001):(e:Ex)->szE D e<=2001
 | .mk op name _ _ _ args=>by
  rw[szE];have hl:=aBz hD args 1 (by omega);by_cases h3:op=3
  ·rw[bM h3];cases hd:D name with
   | none=>exact hl
   | some n=>exact hD name n hd
  rw[bL h3];exact hl
theorem aBz {D:BA->Option Nat} (hD:∀s n,D s=some n->n<=2001):(l:List Ex)->∀n,n<=2001->szL D n l<=2001
 | [],n,hn=>by simp[szL];omega
 | e::r,n,hn=>by
  rw[szL];exact aBz hD r _ (by omega)
end
def aVr (D:BA->Option Nat) (na:Nat) (args:List Ex) (w1:World) (t i:Value) (wr:World):Prop:=∃k:Nat,i=.int .i64 k/\k<=na/\t=.int .i64 ((szL D 1 (args.take k):Nat):Int)/\szL D 1 (args.take k)<=2001/\Ext w1 wr
theorem X3 (D:BA->Option Nat) (hD:∀s n,D s=some n->n<=2001) (bm nm:Nat):∀(m:Nat) (e:Ex) (ev:Value) (w:World),e.size<=m->m<=1000000000000000->e.fits->ig w 9 bm nm (kV (Tl D))->dw w e ev ->
  Calls Tryz.prog 83 #[.map (some bm),ev] w (cz (.int .i64 (szE D e)) w):=by
 intro m;induction m with
 | zero=>intro e ev w h;have:=size_pos e;omega
 | succ m ihm =>
  intro e ev w hm Re hfit hmap he;obtain⟨aw,nw,cw,aa,na,ca,rfl,hw,hna,hca,ha,hx⟩:=he.parts;obtain⟨hnm,qx⟩:=Mf hfit;have hS:e.size=1+sizes e.args:=e.size_eq;have hla:=eR e.args;have Ks:na<=1000000000000000:=by omega
  have aC9:sizes e.args<=m:=by omega
  have HM:=ai hmap;have HX:=ai hx;have kJ:=ai hna;have AD:=ai qx;have Uf:=ai (aBA hD);have Gk:=ai (aGQ D e);have IHM:=ai ihm;clear hw hna hca ha hx he hS hla ihm hm qx hfit hmap;unfold fN;obtain⟨wa,cN⟩:∃wa,wa=w.alloc (.cells #[.int .i64 e.op,.string e.name,.slice aw nw cw,.int .i64 e.lo,.int .i64 e.hi,.slice aa na ca] 45):=⟨_,rfl⟩
  have gB:Ext w wa:=by rw[cN];exact(Tz _).alloc _
  have hb1:wa.heap[w.heap.size]?=some (.cells #[.int .i64 e.op,.string e.name,.slice aw nw cw,.int .i64 e.lo,.int .i64 e.hi,.slice aa na ca] 45 (0,0)):=by rw[cN];exact bR w _
  have dm:=ai gB;have gG:=ai hb1;obtain⟨f0,f1,f2,f3,f4,f5,ff⟩:=cX hb1;have kL:=bS hb1;have GU:=ai (HM.o.ext gB);clear gB hb1;by_cases GL:e.op=3/\(D e.name).isSome=true
  ·obtain⟨h3,hds⟩:=GL;obtain⟨q,hq⟩:=Option.isSome_iff_exists.1 hds;have t3:(e.op==3)=true:=by simp[h3]
   have HQ:=ai (show szE D e=q by rw[Gk.o,bM h3,hq]);have HF:=ai (show kV (Tl D) (.string e.name.data.toList)=some (.int .i64 q) by rw[oQ,Tl,hq];rfl);clear hds hq h3 Gk;go_enter Tryz.func83,Tryz.ntmps83
   go_upto_region 2 with fail;rw[<-cN];clear cN;go_wp2_with (at_lookup;refine gO _ rfl _ _ 136 rfl 9 3 gU JM (IJ _) bm nm _ rfl GU.o _ _ rfl (lB hnm) trivial ?_;rw[HF.o]);go_ret;exact cD (by rw[HQ.o]) dm.o
  have HQ:=ai (show szE D e=szL D 1 e.args by
   rw[Gk.o];by_cases h3:e.op=3
   ·rw[bM h3];cases hd:D e.name with
    | none=>rfl
    | some q=>exact a40 ⟨h3,by rw[hd];rfl⟩ GL
   rw[bL h3])
  clear Gk;by_cases h3:e.op=3
  case' pos =>
   have t3:(e.op==3)=true:=by simp[h3]
   have HF:=ai (show kV (Tl D) (.string e.name.data.toList)=none by
    rw[oQ,Tl];cases hd:D e.name with
    | none=>rfl
    | some q=>exact a40 ⟨h3,by rw[hd];rfl⟩ GL)
   clear h3 GL;go_enter Tryz.func83,Tryz.ntmps83
   go_upto_region 2 with fail;rw[<-cN];clear cN;go_wp2_with (at_lookup;refine gO _ rfl _ _ 136 rfl 9 3 gU JM (IJ _) bm nm _ rfl GU.o _ _ rfl (lB hnm) trivial ?_;rw[HF.o]);clear HF
  case' neg =>
   have t3:(e.op==3)=false:=by simp[h3]
   clear h3 GL;go_enter Tryz.func83,Tryz.ntmps83
   go_wp2_with fail;rw[<-cN];clear cN
  all_goals
   clear f0 f1 f2 f3 f4 f5 ff;go_loopw [7,25] (aVr D na e.args wa) (fun _ i _=>na - (intOf i).toNat)
   case atStart=>exact⟨0,rfl,by omega,by simp[szL],by simp[szL],Tz _⟩
   case round =>
    obtain⟨k,rfl,hk,rfl,hle,lM⟩:=hrel;have gZ:=ai lM;clear lM;obtain⟨N,hN⟩:∃N,N=szL D 1 (e.args.take k):=⟨_,rfl⟩
    rw[<-hN] at hle ⊢;have qY:=ai hN;clear hN;by_cases hkn:k<na
    ·have hka:k<e.args.length:=by have:=kJ.o;omega
     have t1:=ag ((k:Int)<(na:Int));obtain⟨b,off,rfl,nJ,nD,nG,nK,nE,nI,h0,h1,h2,h3,h4,h5,h6⟩:=eU.at e.args _ (eU.ext (dm.o.trans gZ.o) e.args _ HX.o) k hka;have H6:=ai h6;have hs1:=eD e.args k hka;have hs2:=dX e.args (k+1);have uk:e.args[k].size<=m:=by omega
     have uF:=ai (aip D e.args 1 k hka);have hel:=Uf.o e.args[k];have DK:=eB h0;simp only at DK;clear h6 hs1 hs2;obtain⟨wx,hwx⟩:∃wx,wx=wr.alloc (.cells #[.int .i64 e.args[k].op,.string e.args[k].name,.slice nJ nD nG,.int .i64 e.args[k].lo,.int .i64 e.args[k].hi,.slice nK nE nI] 45):=⟨_,rfl⟩
     have yx:=ai (show Ext wr wx by rw[hwx];exact(Tz _).alloc _);go_wp2_with fail;rw[<-hwx];clear hwx;refine(IHM.o e.args[k] _ _ uk (by omega) (AD.o _ (aD hka)) (GU.o.ext (gZ.o.trans yx.o)) (H6.o.ext yx.o)).mono ?_;rintro r w3 ⟨rfl,hx3⟩;have dS:=ai (gZ.o.trans (yx.o.trans hx3));clear hx3 h0 h1 h2 h3 h4 h5;go_wp2_with fail
     all_goals
      go_roundw
      case rel=>exact⟨k+1,by go_num,by omega,by rw[uF.o,<-qY.o];congr 1;omega,by rw[uF.o];omega,dS.o⟩
      case measure=>simp[intOf];omega
    have t1:=ah ((k:Int)<(na:Int));have HR:=ai (show N=szE D e by rw[HQ.o,qY.o,aS (by have:=kJ.o;omega)]);have zi:=ai (dm.o.trans gZ.o);go_wp2_with fail;go_ret;exact cD (by rw[<-HR.o]) zi.o
theorem EW:Tryz.prog.underlying 131=some (.map 9 45):=by kernel_rfl
theorem JH (w:World):(zeroValue 45).run Tryz.prog w=.ok (.agg #[.int .i64 0,.string ⟨#[]⟩,.slice none 0 0,.int .i64 0,.int .i64 0,.slice none 0 0]) w:=by kernel_rfl
theorem Qs {l:List cK} {k:Nat} (hk:k<l.length) (s:BA):dz (l.take (k+1)) s=match dz (l.take k) s with|some d=>some d|none=>if l[k].kind=1/\l[k].name=s then some k else none:=by
 have h:=Qm (l:=l.map cK.tV) (k:=k) (by simpa using hk) s;rw[<-List.map_take,<-List.map_take,rA,rA] at h;rw[h];cases dz (l.take k) s<;>simp[cK.tV]
def Rv (w:World) (l:List cK) (g:BA->Option Value):Prop:=∀s,(dz l s=none->g s=none)/\∀d,dz l s=some d->∃v,g s=some v/\dw w (l.getD d fC).cond v
theorem Rv.ext {w w':World} {l:List cK} {g:BA->Option Value} (h:Rv w l g) (hx:Ext w w'):Rv w' l g:=fun s=>⟨(h s).1,fun d hd=>by obtain⟨v,h1,h2⟩:=(h s).2 d hd;exact⟨v,h1,h2.ext hx⟩⟩
def xS (w:World) (l:List cK) (b n:Nat):Prop:=∃g,ig w 9 b n (kV g)/\Rv w l g
theorem xS.ext {w w':World} {l:List cK} {b n:Nat} (h:xS w l b n) (hx:Ext w w'):xS w' l b n:=by
 obtain⟨g,h1,h2⟩:=h;exact⟨g,h1.ext hx,h2.ext hx⟩
theorem getD_take {l:List cK} {k d:Nat} (hd:d<k):(l.take k).getD d fC=l.getD d fC:=by simp[List.getD,hd]
theorem Rv.skip {w:World} {l:List cK} {k:Nat} {g:BA->Option Value} (hk:k<l.length) (h:Rv w (l.take k) g) (hs:l[k].kind≠1\/dz (l.take k) l[k].name≠none):Rv w (l.take (k+1)) g:=by
 intro s;have hdd:∀d,dz (l.take k) s=some d->d<k:=fun d hd=>by have:=ot hd;simp at this;omega
 have key:dz (l.take (k+1)) s=dz (l.take k) s:=by
  rw[Qs hk];cases hd:dz (l.take k) s with
  | some d=>rfl
  | none =>
   rw[bL];rintro⟨h1,h2⟩;rcases hs with h3|h3
   ·exact h3 h1
   rw[h2] at h3;exact h3 hd
 rw[key];refine⟨(h s).1,fun d hd=>?_⟩;have:=hdd d hd;rw[getD_take (by omega),<-getD_take (k:=k) this];exact(h s).2 d hd
theorem Rv.step {w:World} {l:List cK} {k:Nat} {g:BA->Option Value} (hk:k<l.length) (h:Rv w (l.take k) g) (uk:l[k].kind=1) (hn:dz (l.take k) l[k].name=none) {v:Value} (hv:dw w l[k].cond v):Rv w (l.take (k+1)) (upS g l[k].name (some v)):=by
 intro s;rw[Qs hk];by_cases e:s=l[k].name
 ·subst e;rw[hn,xY];simp only[uk,and_self,if_true];refine⟨fun h=>by simp at h,fun d hd=>?_⟩;obtain rfl:k=d:=by simpa using hd
  rw[getD_take (by omega),fJ hk];exact⟨v,rfl,hv⟩
 rw[sR _ _ e];cases hd:dz (l.take k) s with
 | none =>
  have:¬(l[k].kind=1/\l[k].name=s):=fun h=>e h.2.symm
  simp only[bL this];exact⟨fun _=>(h s).1 hd,fun d hd'=>by cases hd'⟩
 | some d =>
  have hdk:d<k:=by have:=ot hd;simp at this;omega
  refine⟨fun h=>by simp at h,fun d' hd'=>?_⟩;obtain rfl:d=d':=by simpa using hd'
  rw[getD_take (by omega),<-getD_take (k:=k) hdk];exact(h s).2 d hd
def aVj (l:List cK) (n:Nat) (w:World) (e:Ending) (w':World):Prop:=∃b,e=.returned (.map (some b))/\xS w' l b n/\Ext w w'
theorem DT (l:List cK) (a:OA) (n c:Nat) (w:World) (hl:cZ w l a n c) (hn:n<=1000000) (hsz:∀x∈l,x.name.size<=1000000000000000) :
  Calls Tryz.prog 78 #[.slice a n c] w (aVj l n w):=by
 have HL:=ai hl;have HN:=ai hl.len;have tR:=ai hsz;clear hl hsz;have hmm:=@run_makeMap Tryz.prog;have Uj:=ai (ig.made w 9);have BO:=ai ((Tz w).alloc (.map #[] 0));obtain⟨bf,Qd⟩:∃bf:Nat,bf=w.heap.size:=⟨_,rfl⟩
 rw[<-Qd] at Uj;have HBF:=ai Qd;go_enter Tryz.func78,Tryz.ntmps78
 go_wp2_with fail;rw[<-Qd];clear Qd hmm;go_loopw [11] (fun i wr=>∃(k:Nat) (g:BA->Option Value),k<=n/\i=.int .i64 k/\ig wr 9 bf k (kV g)/\Rv w (l.take k) g/\Ext w wr) (fun i _=>n - (intOf i).toNat)
 case atStart =>
  refine⟨0,fun _=>none,by omega,rfl,Uj.o.congr fun x=>?_,fun s=>⟨fun _=>rfl,fun d hd=>?_⟩,BO.o⟩
  ·cases x<;>simp[kV]
  simp[dz] at hd
 case round =>
  obtain⟨k,g,hk,rfl,hmap,hg,hx⟩:=hrel;have En:=ai hmap;have HX:=ai hx;have HG:=ai hg;have qL:=hmap.lt;clear hmap hx hg Uj BO;by_cases hlt:k<n
  ·have hlt':k<l.length:=by have:=HN.o;omega
   have t1:=ag ((k:Int)<(n:Int));obtain⟨cb,ld,v,rfl,fO,hrow⟩:=HL.o.at hlt';obtain⟨c0,c1,c2,c3,c4,c5,c6,c7,c8,c9⟩:=(hrow.mono HX.o.sub).BB;have zP:v.name.size<=1000000000000000:=by rw[fO.2.1];exact tR.o _ (aD hlt')
   have DK:=eB c0;simp only at DK;have zq:=ai (show dw w l[k].cond (.agg #[.int .i64 v.x.op,.string v.x.name,.slice v.x.aw v.x.nw v.x.cw,.int .i64 v.x.lo,.int .i64 v.x.hi,.slice v.x.aa v.x.na v.x.ca]) from fO.2.2.1);have HEK:=ai (show l[k].kind=v.kind from fO.1.symm);have Li:=ai (show l[k].name=v.name from fO.2.1.symm);have HST:=ai (fun h1 h2=>HG.o.step hlt' h1 h2 zq.o);have Na:=ai (HG.o.skip hlt');rw[HEK.o,Li.o] at HST Na;clear fO hrow;cases qx:dz (l.take k) v.name with
   | none =>
    have HF:=ai (show kV g (.string v.name.data.toList)=none by rw[oQ];exact(HG.o _).1 qx);cases tC:(v.kind==1)
    ·have Nd:=ai (Na.o (aoX (by simpa using tC)));go_wp2_with (at_lookup;refine gO _ rfl _ _ 131 rfl 9 45 gU EW (JH _) bf k _ rfl (En.o.ext ((Tz wr).alloc _)) _ _ rfl (lB zP) trivial ?_;rw[HF.o]);go_roundw
     case rel=>exact⟨k+1,g,by omega,by go_num,(En.o.ext (((Tz wr).alloc _).alloc _)).more (by omega),Nd.o,(HX.o.alloc _).alloc _⟩
     case measure=>simp[intOf];omega
    have Nd:=ai (HST.o (by simpa using tC) qx);clear qx;go_wp2_with (first
     | (at_lookup;refine gO _ rfl _ _ 131 rfl 9 45 gU EW (JH _) bf k _ rfl (En.o.ext ((Tz wr).alloc _)) _ _ rfl (lB zP) trivial ?_;rw[HF.o])
     | (at_mapUpdate;refine lR _ rfl _ _ _ 131 rfl 9 45 gU EW bf k _ rfl (En.o.ext (((Tz wr).alloc _).alloc _)) ?c3 _ _ _ rfl rfl (lB zP) trivial ?_))
    case c3=>unfold maxLen;omega
    intro w1 hm1 hc1;have WO:=ai (hm1.congr (Dm g v.name _));have dI:=ai (hc1.ext ((HX.o.alloc _).alloc _) (by rw[<-HBF.o];simp));clear hm1 hc1;go_wp2_with fail;go_roundw
    case rel=>exact⟨k+1,_,by omega,by go_num,WO.o,Nd.o,dI.o⟩
    case measure=>simp[intOf];omega
   | some d =>
    obtain⟨u,hu,hux⟩:=(HG.o v.name).2 d qx;obtain⟨aw,nw,cw,aa,na,ca,rfl,-,-,-,-,-⟩:=hux.parts;have HF:=ai (show kV g (.string v.name.data.toList)=some _ by rw[oQ];exact hu);have Nd:=ai (Na.o (a4Z (by rw[qx];simp)));unfold fN at HF;clear qx hu hux;cases tC:(v.kind==1)
    all_goals
     go_wp2_with (at_lookup;refine gO _ rfl _ _ 131 rfl 9 45 gU EW (JH _) bf k _ rfl (En.o.ext ((Tz wr).alloc _)) _ _ rfl (lB zP) trivial ?_;rw[HF.o]);go_roundw
     case rel=>exact⟨k+1,g,by omega,by go_num,(En.o.ext (((Tz wr).alloc _).alloc _)).more (by omega),Nd.o,(HX.o.alloc _).alloc _⟩
     case measure=>simp[intOf];omega
  have t1:=ah ((k:Int)<(n:Int));have hkn:k=n:=by omega
  have HGE:=ai (show xS wr l bf n from⟨g,by rw[<-hkn];exact En.o,by have:=HG.o.ext HX.o;rwa [aS (by have:=HN.o;omega)] at this⟩);clear hkn;go_wp2_with fail;go_ret;exact⟨bf,rfl,HGE.o,HX.o⟩
def Dx (op:Int):Int:=if op=3 then 3 else if op=4 then 1 else if op=5 then 2 else 0
def GP (s:List Attr) (l:List cK) (op:Int) (name:BA) (words:ZB) (lo hi:Int):Int :=
 if Dx op=0 then 0 else match eO s name with
 | none=>if op=3/\(dz l name).isSome=true then 0 else 7
 | some i=>if (s.getD i rL).kind≠Dx op then 9 else if (words.all fun x=>decide (x∈(s.getD i rL).words))=false then 7 else if lo<(s.getD i rL).lo\/(s.getD i rL).hi<hi then 1 else 0
theorem Qy {s:List Attr} {l:List cK} {op:Int} {name:BA} {words:ZB} {lo hi:Int} (hk:Dx op≠0) (h:eO s name=none):GP s l op name words lo hi=if op=3/\(dz l name).isSome=true then 0 else 7:=by
 unfold GP;rw[bL hk,h]
theorem Qx {s:List Attr} {l:List cK} {op:Int} {name:BA} {words:ZB} {lo hi:Int} (hk:Dx op≠0) {i:Nat} (h:eO s name=some i) (hi':i<s.length):GP s l op name words lo hi =
  if s[i].kind≠Dx op then 9 else if (words.all fun x=>decide (x∈s[i].words))=false then 7 else if lo<s[i].lo\/s[i].hi<hi then 1 else 0:=by
 unfold GP;rw[bL hk,h];simp only[yI hi']
theorem arU (s:List Attr) (sv:Value) (l:List cK) (bm nm:Nat) (e:Ex) (ev:Value) (w:World) (hs:dB w s sv) (hf:∀x∈s,x.fits) (hsl:s.length<=1000000000000000) (hd:xS w l bm nm) (he:dw w e ev) (hew:e.words.length<=1000000000000000) (hen:e.name.size<=1000000000000000) :
  Calls Tryz.prog 169 #[sv,.map (some bm),ev] w (cz (.int .i64 (GP s l e.op e.name e.words e.lo e.hi)) w):=by
 obtain⟨sa,sn,sc,rfl,B6⟩:=hs.slice;obtain⟨aw,nw,cw,aa,na,ca,rfl,hw,hna,hca,ha,hx⟩:=he.parts;have HS:=ai hs;have HF:=ai hf;have HD:=ai hd;have HW:=ai hw;have K8:=ai B6;have RV:=ai hw.1;have hnw:nw<=1000000000000000:=by rw[hw.1];exact hew
 have aQg:sn<=1000000000000000:=by omega
 clear hs hf hd hw B6 he hna hca ha hx hew;unfold fN;obtain⟨op,name,words,lo,hi,args⟩:=e;simp only[Ex.op,Ex.name,Ex.words,Ex.lo,Ex.hi] at *;obtain⟨wa,cN⟩:∃wa,wa=(w.alloc (.cells #[.slice sa sn sc] 24)).alloc (.cells #[.int .i64 op,.string name,.slice aw nw cw,.int .i64 lo,.int .i64 hi,.slice aa na ca] 45):=⟨_,rfl⟩
 have gB:Ext w wa:=by rw[cN];exact((Tz _).alloc _).alloc _
 have hb0:wa.heap[w.heap.size]?=some (.cells #[.slice sa sn sc] 24 (0,0)):=by rw[cN];exact bU (bR w _)
 have hb1:wa.heap[w.heap.size+1]?=some (.cells #[.int .i64 op,.string name,.slice aw nw cw,.int .i64 lo,.int .i64 hi,.slice aa na ca] 45 (0,0)):=by rw[cN];exact cT (by simp)
 have HI:=ai (IL s _ name wa (HS.o.ext gB) (by have:=K8.o;omega));have dm:=ai gB;have iO:=ai hb0;have gG:=ai hb1;obtain⟨E,hE⟩:∃E,E=GP s l op name words lo hi:=⟨_,rfl⟩
 rw[<-hE];have HE:=ai hE;clear hE;obtain⟨a0,af⟩:=dO hb0;obtain⟨b0,b1,b2,b3,b4,b5,bf⟩:=cX hb1;have kI:=bS hb1;clear gB hb0 hb1;by_cases hop:op=3\/op=4\/op=5
 case neg =>
  have HR:=ai (show E=0 by
   rw[HE.o,GP,bM];unfold Dx;rw[bL (by omega),bL (by omega),bL (by omega)])
  have e3:(op==3)=false:=by simp;omega
  have e4:(op==4)=false:=by simp;omega
  have e5:(op==5)=false:=by simp;omega
  clear hop;go_enter Tryz.func169,Tryz.ntmps169
  go_upto_region 1 with fail;rw[<-cN];clear cN;go_wp2_with fail;go_ret;exact cD (by rw[HR.o]) dm.o
 obtain⟨kd,tC⟩:∃kd:Int,(op=3/\kd=3)\/(op=4/\kd=1)\/(op=5/\kd=2):=by
  rcases hop with h|h|h
  ·exact⟨3,aoX ⟨h,rfl⟩⟩
  ·exact⟨1,a4Z (aoX ⟨h,rfl⟩)⟩
  exact⟨2,a4Z (a4Z ⟨h,rfl⟩)⟩
 have Yx:Dx op=kd/\kd≠0:=by
  rcases tC with ⟨rfl,rfl⟩|⟨rfl,rfl⟩|⟨rfl,rfl⟩<;>exact⟨rfl,by decide⟩
 clear hop;have HK0:=ai (show Dx op≠0 by rw[Yx.1];exact Yx.2);have Nl:=ai Yx.1;clear Yx;cases ho:eO s name with
 | none =>
  rw[ho,Al] at HI;have HQ:=ai (show E=if op=3/\(dz l name).isSome=true then 0 else 7 by rw[HE.o];exact Qy HK0.o ho);clear ho HE HK0 Nl;obtain⟨g,hmap,hg⟩:=HD.o;have En:=ai hmap;have HG:=ai hg;clear hmap hg;cases hda:dz l name with
  | none =>
   have HFN:=ai (show kV g (.string name.data.toList)=none by rw[oQ];exact(HG.o _).1 hda);have HR:=ai (show E=7 by rw[HQ.o,hda];simp);clear hda HQ;rcases tC with ⟨rfl,rfl⟩|⟨rfl,rfl⟩|⟨rfl,rfl⟩
   all_goals
    go_enter Tryz.func169,Tryz.ntmps169
    go_upto_region 1 with fail;rw[<-cN];clear cN;go_wp2_with fail;refine HI.o.mono ?_;rintro r w3 ⟨rfl,hx3⟩;have dS:=ai (dm.o.trans hx3);have HM3:=ai (En.o.ext dS.o);clear b0 b1 b2 b3 b4 b5 bf a0 af kI;obtain⟨b0,b1,b2,b3,b4,b5,bf⟩:=cX (hx3.blk gG.o);have hlt:=bS (hx3.blk gG.o);clear hx3;go_wp2_with (at_lookup;refine gO _ rfl _ _ 131 rfl 9 45 gU EW (JH _) bm nm _ rfl HM3.o _ _ rfl (lB hen) trivial ?_;rw[HFN.o]);go_ret;exact cD (by rw[HR.o]) (dS.o.alloc _)
  | some d =>
   obtain⟨u,hu,hux⟩:=(HG.o name).2 d hda;obtain⟨X7,Xp,XU,aa',na',ca',rfl,-,-,-,-,-⟩:=hux.parts;have HFN:=ai (show kV g (.string name.data.toList)=some _ by rw[oQ];exact hu);unfold fN at HFN;have HR:=ai (show E=if op=3 then 0 else 7 by rw[HQ.o,hda];simp);clear hda HQ hu hux;rcases tC with ⟨rfl,rfl⟩|⟨rfl,rfl⟩|⟨rfl,rfl⟩
   all_goals
    go_enter Tryz.func169,Tryz.ntmps169
    go_upto_region 1 with fail;rw[<-cN];clear cN;go_wp2_with fail;refine HI.o.mono ?_;rintro r w3 ⟨rfl,hx3⟩;have dS:=ai (dm.o.trans hx3);have HM3:=ai (En.o.ext dS.o);clear b0 b1 b2 b3 b4 b5 bf a0 af kI;obtain⟨b0,b1,b2,b3,b4,b5,bf⟩:=cX (hx3.blk gG.o);have hlt:=bS (hx3.blk gG.o);clear hx3;go_wp2_with (at_lookup;refine gO _ rfl _ _ 131 rfl 9 45 gU EW (JH _) bm nm _ rfl HM3.o _ _ rfl (lB hen) trivial ?_;rw[HFN.o]);go_ret;exact cD (by rw[HR.o];decide) (dS.o.alloc _)
 | some i =>
  rw[ho,nX] at HI;have GI:=JD ho;have hin:i<sn:=by have:=K8.o;omega
  have HQ:=ai (show E=if s[i].kind≠kd then 9 else if (words.all fun x=>decide (x∈s[i].words))=false then 7 else if lo<s[i].lo\/s[i].hi<hi then 1 else 0 by rw[HE.o,Qx HK0.o ho GI,Nl.o]);clear ho HE HK0 Nl;have Sc:(0:Int)<=(i:Int):=by omega
  have ti1:(i:Int)<(sn:Int):=by omega
  have ZZ:=HF.o _ (aD GI);have aV6:=ZZ.2.1;clear ZZ;by_cases hk:s[i].kind=kd
  case neg =>
   have tk:(s[i].kind != kd)=true:=by simp[hk]
   have HR:=ai (show E=9 by rw[HQ.o,bM hk]);clear hk HQ;rcases tC with ⟨rfl,rfl⟩|⟨rfl,rfl⟩|⟨rfl,rfl⟩
   all_goals
    go_enter Tryz.func169,Tryz.ntmps169
    go_upto_region 1 with fail;rw[<-cN];clear cN;go_wp2_with fail;refine HI.o.mono ?_;rintro r w3 ⟨rfl,hx3⟩;have dS:=ai (dm.o.trans hx3);clear b0 b1 b2 b3 b4 b5 bf a0 af kI;obtain⟨d0,df⟩:=dO (hx3.blk iO.o);have hlt:=bS (hx3.blk gG.o);obtain⟨sb,aPD,xw,xn,xc,rfl,g0,g1,g2,g3,g4,g5⟩:=(HS.o.ext dS.o).cells GI;clear hx3 g5;go_wp2_with fail;go_ret;exact cD (by rw[HR.o]) (dS.o.alloc _)
  have tk:(s[i].kind != kd)=false:=by simp[hk]
  have HR:=ai (show E=if (words.all fun x=>decide (x∈s[i].words))=false then 7 else if lo<s[i].lo\/s[i].hi<hi then 1 else 0 by rw[HQ.o,bL (by simpa using hk)]);clear hk HQ;rcases tC with ⟨rfl,rfl⟩|⟨rfl,rfl⟩|⟨rfl,rfl⟩
  all_goals
   go_enter Tryz.func169,Tryz.ntmps169
   go_upto_region 1 with fail;rw[<-cN];clear cN;go_wp2_with fail;refine HI.o.mono ?_;rintro r w3 ⟨rfl,hx3⟩;have dS:=ai (dm.o.trans hx3);clear b0 b1 b2 b3 b4 b5 bf a0 af kI;obtain⟨d0,df⟩:=dO (hx3.blk iO.o);have nW:=ai (hx3.blk gG.o);have hlt:=bS (hx3.blk gG.o);obtain⟨sb,aPD,xw,xn,xc,rfl,g0,g1,g2,g3,g4,g5⟩:=(HS.o.ext dS.o).cells GI;have N6:=ai g5;have Wm:xn<=1000000000000000:=by rw[g5.1];exact aV6
   clear hx3 g5;go_upto_region 17 with fail;obtain⟨wb,iV⟩:∃wb,wb=w3.alloc (.cells #[.string s[i].name,.int .i64 s[i].kind,.slice xw xn xc,.int .i64 s[i].lo,.int .i64 s[i].hi] 101):=⟨_,rfl⟩
   rw[<-iV];have hxb:Ext w3 wb:=by rw[iV];exact(Tz _).alloc _
   have hbb:wb.heap[w3.heap.size]?=some (.cells #[.string s[i].name,.int .i64 s[i].kind,.slice xw xn xc,.int .i64 s[i].lo,.int .i64 s[i].hi] 101 (0,0)):=by rw[iV];exact bR w3 _
   have jL:=ai hbb;have jO:=ai (hxb.blk nW.o);have jK:=ai (dS.o.trans hxb);have HGB:=ai (N6.o.ext hxb);have HWB:=ai (HW.o.ext jK.o);obtain⟨p0,p1,p2,p3,p4,pf⟩:=ar7 hbb;obtain⟨q0,q1,q2,q3,q4,q5,qf⟩:=cX jO.o;have ZY:=bS hbb;clear iV hxb hbb d0 df g0 g1 g2 g3 g4 N6 hlt;go_wp2_with fail
   go_loop [57] (fun t=>∃k:Nat,t=.int .i64 k/\k<=nw/\(∀j (h:j<words.length),j<k->decide (words[j]∈s[i].words)=true)) (fun t=>nw - (intOf t).toNat)
   case atStart=>exact⟨0,rfl,by omega,fun j _ h=>by omega⟩
   case round =>
    obtain⟨k,rfl,hk,hall⟩:=hrel;have mK:=ai hall;clear hall;by_cases hkn:k<nw
    ·have hkw:k<words.length:=by have:=RV.o;omega
     have t1:=ag ((k:Int)<(nw:Int));obtain⟨wb',aVx,rfl,cw0⟩:=HWB.o.2.2.2 k hkw;cases Qg:decide (words[k]∈s[i].words)
     ·have HA:=ai Qg;have jI:=ai (show E=7 by
       rw[HR.o,bM];rw[List.all_eq_false];exact⟨words[k],aD hkw,by rw[Qg];simp⟩)
      clear Qg;go_wp2_with fail;refine(pQ _ _ _ _ _ _ Wm HGB.o).mono ?_;rintro e w' ⟨rfl,rfl⟩;rw[HA.o];go_wp2_with fail;go_ret;exact cD (by rw[jI.o]) jK.o
     have HA:=ai Qg;clear Qg;go_wp2_with fail;refine(pQ _ _ _ _ _ _ Wm HGB.o).mono ?_;rintro e w' ⟨rfl,rfl⟩;rw[HA.o];go_wp2_with fail
     go_round
     case rel =>
      refine⟨k+1,by go_num,by omega,fun j hj hjk=>?_⟩;by_cases e:j=k
      ·subst e;exact HA.o
      exact mK.o j hj (by omega)
     case measure=>simp[intOf];omega
    have t1:=ah ((k:Int)<(nw:Int));have jI:=ai (show E=if lo<s[i].lo\/s[i].hi<hi then 1 else 0 by
     rw[HR.o,bL];rw[Bool.not_eq_false,aP];intro y hy;obtain⟨j,hj,rfl⟩:=aW.1 hy;exact mK.o j hj (by have:=RV.o;omega))
    clear mK;go_wp2_with fail
    all_goals (go_ret;exact cD (by rw[jI.o];simp_all<;>omega) jK.o)
structure fT where
 sa:OA
 sn:Nat
 sc:Nat
 bm:Nat
 fa:OA
 fn:Nat
 fc:Nat
def fT.val (v:fT):Value:=.agg #[.slice v.sa v.sn v.sc,.map (some v.bm),.slice v.fa v.fn v.fc]
structure A3 (w:World) (s:List Attr) (l:List cK) (f:ZI) (v:fT) (nm:Nat):Prop where
 x7:dB w s (.agg #[.slice v.sa v.sn v.sc])
 defs:xS w l v.bm nm
 facts:dG w f v.fa v.fn
theorem A3.ext {w w':World} {s:List Attr} {l:List cK} {f:ZI} {v:fT} {nm:Nat} (h:A3 w s l f v nm) (hx:Ext w w'):A3 w' s l f v nm:=⟨h.x7.ext hx,h.defs.ext hx,h.facts.ext hx⟩
def TU:Value:=.agg #[.int .i64 0,.string ⟨#[]⟩,.slice none 0 0,.int .i64 0,.int .i64 0,.slice none 0 0]
def aVk (l:List cK) (op:Int) (name:BA) (w:World) (e:Ending) (w':World):Prop:=Ext w w'/\((op=3/\∃d v,dz l name=some d/\e=.returned (.tuple #[dK.val v,.bool true])/\dw w' (l.getD d fC).cond v.val)\/((op≠3\/dz l name=none)/\e=.returned (.tuple #[TU,.bool false])))
theorem aC2 {w:World} {e:Ex} {v:Value} (h:dw w e v):∃x:dK,v=x.val/\dw w e x.val:=by
 obtain⟨aw,nw,cw,aa,na,ca,rfl,-⟩:=h.parts;exact⟨⟨e.op,e.name,aw,nw,cw,e.lo,e.hi,aa,na,ca⟩,rfl,h⟩
theorem Fv (s:List Attr) (l:List cK) (f:ZI) (lv:fT) (nm:Nat) (e:Ex) (ev:Value) (w:World) (hl:A3 w s l f lv nm) (he:dw w e ev) (hen:e.name.size<=1000000000000000) :
  Calls Tryz.prog 148 #[lv.val,ev] w (aVk l e.op e.name w):=by
 obtain⟨aw,nw,cw,aa,na,ca,rfl,hw,hna,hca,ha,hx⟩:=he.parts;obtain⟨sa,sn,sc,bm,fa,fn,fc⟩:=lv;have HD:=ai hl.defs;clear hw hna hca ha hx hl he;unfold fN fT.val;obtain⟨op,name,words,lo,hi,args⟩:=e;simp only[Ex.op,Ex.name,Ex.lo,Ex.hi] at *;by_cases h3:op=3
 case neg =>
  have t3:(op != 3)=true:=by simp[h3]
  have H3:=ai h3;clear h3;go_enter Tryz.func148,Tryz.ntmps148
  go_wp2_with fail;refine a5a (v:=.tuple #[TU,.bool false]) (by simp[results,Tryz.results148,go_sem,TU]) rfl ?_;exact⟨by first|exact(((Tz w).alloc _).alloc _).alloc _|exact Tz w,a4Z ⟨aoX H3.o,rfl⟩⟩
 subst h3;obtain⟨g,hmap,hg⟩:=HD.o;have En:=ai hmap;have HG:=ai hg;clear hmap hg;cases hda:dz l name with
 | none =>
  have HFN:=ai (show kV g (.string name.data.toList)=none by rw[oQ];exact(HG.o _).1 hda);have QM:=ai hda;clear hda HG;go_enter Tryz.func148,Tryz.ntmps148
  go_wp2_with (at_lookup;refine gO _ rfl _ _ 131 rfl 9 45 gU EW (JH _) bm nm _ rfl (En.o.ext ((((Tz w).alloc _).alloc _).alloc _)) _ _ rfl (lB hen) trivial ?_;rw[HFN.o]);refine a5a (v:=.tuple #[TU,.bool false]) (by simp[results,Tryz.results148,go_sem,TU]) rfl ?_;exact⟨((((Tz w).alloc _).alloc _).alloc _).alloc _,a4Z ⟨a4Z QM.o,rfl⟩⟩
 | some d =>
  obtain⟨u,hu,hux⟩:=(HG.o name).2 d hda;obtain⟨xv,rfl,qV⟩:=aC2 hux;have HFN:=ai (show kV g (.string name.data.toList)=some _ by rw[oQ];exact hu);have HXV:=ai qV;have QM:=ai hda;clear hda HG hu hux qV;obtain⟨xo,xn,xaw,xnw,xcw,xlo,xhi,xaa,xna,xca⟩:=xv;unfold dK.val fN at HFN HXV;go_enter Tryz.func148,Tryz.ntmps148
  go_wp2_with (at_lookup;refine gO _ rfl _ _ 131 rfl 9 45 gU EW (JH _) bm nm _ rfl (En.o.ext ((((Tz w).alloc _).alloc _).alloc _)) _ _ rfl (lB hen) trivial ?_;rw[HFN.o]);refine a5a (v:=.tuple #[dK.val ⟨xo,xn,xaw,xnw,xcw,xlo,xhi,xaa,xna,xca⟩,.bool true]) (by simp[results,Tryz.results148,go_sem,dK.val,fN]) rfl ?_;have hx:Ext w _:=(((((Tz w).alloc (.cells #[.slice sa sn sc,.map (some bm),.slice fa fn fc] 183)).alloc (.cells #[.int .i64 3,.string name,.slice aw nw cw,lo,hi,.slice aa na ca] 45)).alloc (.cells #[ xo,.string xn,.slice xaw xnw xcw,xlo,xhi,.slice xaa xna xca] 45)).alloc (.cells #[ xo,.string xn,.slice xaw xnw xcw,xlo,xhi,.slice xaa xna xca] 45))
  exact⟨hx,aoX ⟨rfl,d,_,QM.o,rfl,HXV.o.ext hx⟩⟩
theorem JB {s:List Attr} {l:List cK} {e:Ex} (ht:gq e) (h:dr s l e=0) (h6:e.op≠6/\e.op≠7/\e.op≠8) (hd:e.op=3->dz l e.name=none):e.op=1\/e.op=2\/(e.op=3/\∃i,eO s e.name=some i)\/(e.op=4/\∃i,eO s e.name=some i/\(s.getD i rL).kind=1)\/(e.op=5/\∃i,eO s e.name=some i):=by
 rcases abv ht h with h1|h1|⟨h1,i,h2,-⟩|⟨h1,-,d,h2⟩|⟨h1,i,h2,h3⟩|⟨h1,i,h2,-⟩|⟨h1,-⟩|h1|h1
 ·exact aoX h1
 ·exact a4Z (aoX h1)
 ·exact a4Z (a4Z (aoX ⟨h1,i,h2⟩))
 ·rw[hd h1] at h2;cases h2
 ·exact a4Z (a4Z (a4Z (aoX ⟨h1,i,h2,h3⟩)))
 ·exact a4Z (a4Z (a4Z (a4Z ⟨h1,i,h2⟩)))
 ·exact a40 h1 h6.1
 ·exact a40 h1 h6.2.1
 exact a40 h1 h6.2.2
theorem IY {e:Ex} (h:gq e):e.words.length<=12/\e.name.size<=1000:=by
 rcases(iR h).1 with ⟨-,h1,h2,-⟩|⟨-,h1,h2,-⟩|⟨-,h1,h2,-⟩|⟨-,h1,h2,-⟩|⟨-,h1,h2,-⟩|⟨-,h1,h2,-⟩|⟨-,h1,h2,-⟩
 ·rw[h1,h2];exact⟨by simp,by decide⟩
 ·rw[h1,h2];exact⟨by simp,by decide⟩
 ·rw[h2];exact⟨by simp,by have:=ZE h1;omega⟩
 ·simp only[qg,aF] at h2;exact⟨of_decide_eq_true h2.1.1.2,by have:=ZE h1;omega⟩
 ·rw[h2];exact⟨by simp,by have:=ZE h1;omega⟩
 ·rw[h1,h2];exact⟨by simp,by decide⟩
 rw[h1,h2];exact⟨by simp,by decide⟩
theorem XP (s:List Attr) (l:List cK) (f:ZI) (lv:fT) (nm:Nat) (hsc:dy s=0) (qx:fW s f=true) (e:Ex) (ev:Value) (w:World) (hl:A3 w s l f lv nm) (he:dw w e ev) (hok:gq e)
  (p9:e.op=1\/e.op=2\/(e.op=3/\∃i,eO s e.name=some i)\/(e.op=4/\∃i,eO s e.name=some i/\(s.getD i rL).kind=1)\/(e.op=5/\∃i,eO s e.name=some i)) :
  Calls Tryz.prog 149 #[lv.val,ev] w (cz (.bool (um s f e.op e.name e.words e.lo e.hi)) w):=by
 have hwl:=IY hok;obtain⟨aw,nw,cw,aa,na,ca,rfl,hw,hna,hca,ha,hx⟩:=he.parts;obtain⟨sa,sn,sc,bm,fa,fn,fc⟩:=lv;have HS:=ai hl.x7;have HI:=ai hl.facts;have HW:=ai hw;have AD:=ai qx;have azc:=(iQ hsc).2.1;have tF:=ai (fun W (hW:Ext w W)=>IL s _ e.name W (hl.x7.ext hW) (by omega));have K8:=ai (show sn=s.length by obtain⟨a',n',c',e',h',-⟩:=hl.x7.parts;simp at e';omega);clear hw hna hca ha hx hl he hok qx azc hsc;unfold fN fT.val;obtain⟨op,name,words,lo,hi,args⟩:=e;simp only[Ex.op,Ex.name,Ex.words,Ex.lo,Ex.hi] at *;have hwn:=hwl.1;have AQ:=ai hwl.2;clear hwl;obtain⟨R,hR⟩:∃R,R=um s f op name words lo hi:=⟨_,rfl⟩
 rw[<-hR];have HR:=ai hR;clear hR;obtain⟨wa,cN⟩:∃wa,wa=(w.alloc (.cells #[.slice sa sn sc,.map (some bm),.slice fa fn fc] 183)).alloc (.cells #[ op,.string name,.slice aw nw cw,lo,hi,.slice aa na ca] 45):=⟨_,rfl⟩
 have gB:Ext w wa:=by rw[cN];exact((Tz _).alloc _).alloc _
 have hb0:wa.heap[w.heap.size]?=some (.cells #[.slice sa sn sc,.map (some bm),.slice fa fn fc] 183 (0,0)):=by rw[cN];exact bU (bR w _)
 have hb1:wa.heap[w.heap.size+1]?=some (.cells #[ op,.string name,.slice aw nw cw,lo,hi,.slice aa na ca] 45 (0,0)):=by rw[cN];exact cT (by simp)
 have dm:=ai gB;have iO:=ai hb0;have gG:=ai hb1;obtain⟨f0,f1,f2,f3,f4,f5,ff⟩:=cX hb1;obtain⟨e0,e1,e2,ef⟩:=dM hb0;have kL:=bS hb1;clear gB hb0 hb1;rcases p9 with rfl|rfl|⟨rfl,i,hat⟩|⟨rfl,i,hat,tC⟩|⟨rfl,i,hat⟩
 ·have HQ:=ai (show R=true by rw[HR.o];simp[um]);go_enter Tryz.func149,Tryz.ntmps149
  go_upto_region 1 with fail;rw[<-cN];clear cN;go_wp2_with fail;go_ret;exact bW (by rw[HQ.o]) dm.o
 ·have HQ:=ai (show R=false by rw[HR.o];simp[um]);go_enter Tryz.func149,Tryz.ntmps149
  go_upto_region 1 with fail;rw[<-cN];clear cN;go_wp2_with fail;go_ret;exact bW (by rw[HQ.o]) dm.o
 ·obtain⟨GI,-⟩:=JE hat;obtain⟨hif,-,-⟩:=U7 AD.o GI;obtain⟨fb,fo,rfl,hcell⟩:=HI.o.2 i hif;obtain⟨z,hz⟩:∃z,z=f[i]:=⟨_,rfl⟩
  rw[<-hz] at hcell;have HQ:=ai (show R=(z==1) by
   rw[HR.o];simp only[um,hat];rw[bL (by decide),bL (by decide),bL (by decide),bL (by decide),bH];simp[hif,<-hz])
  have hin:i<fn:=by rw[HI.o.1];exact hif
  have Vs:=ai hcell;rw[hat,nX] at tF;clear hat GI hif hcell hz;go_enter Tryz.func149,Tryz.ntmps149
  go_upto_region 1 with fail;rw[<-cN];clear cN;go_wp2_with fail;refine(tF.o wa dm.o).mono ?_;rintro r w1 ⟨rfl,hx1⟩;have dI:=ai (dm.o.trans hx1);clear f0 f1 f2 f3 f4 f5 ff e0 e1 e2 ef kL;obtain⟨f0,f1,f2,f3,f4,f5,ff⟩:=cX (hx1.blk gG.o);obtain⟨e0,e1,e2,ef⟩:=dM (hx1.blk iO.o);have XI:=dI.o.cell Vs.o;clear hx1;go_wp2_with fail;go_ret;exact bW (by rw[HQ.o]) dI.o
 ·obtain⟨GI,-⟩:=JE hat;obtain⟨hif,agH,abH⟩:=U7 AD.o GI;have au5:s[i].kind=1:=by rw[<-tC];simp[GI]
  have hdm:yS s[i]=(0,(s[i].words.length:Int) - 1):=by unfold yS;rw[bM au5]
  rw[hdm] at agH abH;simp only at agH abH;obtain⟨ab,ao,rfl,hA⟩:∃ab ao,sa=some ⟨ab,ao,none⟩/\QT w s[i] ab (ao+i*5):=by
   obtain⟨xa,xn,xc,e',-,-,-,hq⟩:=HS.o.parts;simp only[a5b,a5d,a5c,a45,and_true] at e';obtain⟨rfl,rfl,rfl⟩:=e';exact hq i GI
  obtain⟨x1,hx1⟩:∃x1,x1=s[i]:=⟨_,rfl⟩
  rw[<-hx1] at hA au5 abH;obtain⟨bw,nwa,cwa,Hx,TF⟩:=hA.five;have H5:=ai TF;obtain⟨fb,fo,rfl,hcell⟩:=HI.o.2 i hif;obtain⟨z,hz⟩:∃z:Nat,f[i]=(z:Int):=⟨f[i].toNat,by omega⟩
  rw[hz] at hcell agH abH;have hzw:z<x1.words.length:=by omega
  obtain⟨wb,wo,rfl,hwc⟩:=Hx.2.2.2 z hzw;have HWC:=ai hwc;have hzn:z<nwa:=by rw[Hx.1];exact hzw
  have HQ:=ai (show R=decide (x1.words[z]∈words) by
   rw[HR.o];simp only[um,hat];rw[bL (by decide),bL (by decide),bM (by decide),bH];simp[GI,hif,hz,<-hx1,hzw])
  have hin:i<fn:=by rw[HI.o.1];exact hif
  have aWN:i<sn:=by rw[K8.o];exact GI
  have Vs:=ai hcell;have HWI:=ai (fun W (hW:Ext w W)=>pQ words x1.words[z] aw nw cw W (by rw[HW.o.1];omega) (HW.o.ext hW));rw[hat,nX] at tF;obtain⟨x,Sd⟩:∃x,x=x1.words[z]:=⟨_,rfl⟩
  rw[<-Sd] at HWC HQ HWI;clear hx1 hat tC GI hif agH abH hcell hz au5 hdm hA Hx TF hwc hzw Sd;go_enter Tryz.func149,Tryz.ntmps149
  go_upto_region 1 with fail;rw[<-cN];clear cN;go_wp2_with fail;refine(tF.o wa dm.o).mono ?_;rintro r w1 ⟨rfl,hx1⟩;have dI:=ai (dm.o.trans hx1);clear f0 f1 f2 f3 f4 f5 ff e0 e1 e2 ef kL;obtain⟨f0,f1,f2,f3,f4,f5,ff⟩:=cX (hx1.blk gG.o);obtain⟨e0,e1,e2,ef⟩:=dM (hx1.blk iO.o);have XI:=dI.o.cell Vs.o;have hwf:=dI.o.cell HWC.o;obtain⟨g0,g1,g2,g3,g4⟩:=H5.o w1 dI.o;clear hx1;go_wp2_with fail
  go_still_tail 12,(by kernel_rfl)
  change wpList _ _ _ _ _ w1.drew
  have hx2:Ext w1 w1.drew:=(Tz w1).drew;generalize w1.drew=w2 at hx2 ⊢;have dN:=ai (dI.o.trans hx2);clear hx2 f0 f1 f2 f3 f4 f5 ff e0 e1 e2 ef XI hwf g0 g1 g2 g3 g4;go_wp2_with fail;refine(HWI.o w2 dN.o).mono ?_;rintro r w3 ⟨rfl,rfl⟩;go_wp2_with fail;go_ret;exact bW (by rw[HQ.o]) dN.o
 obtain⟨GI,-⟩:=JE hat;obtain⟨hif,-,-⟩:=U7 AD.o GI;obtain⟨fb,fo,rfl,hcell⟩:=HI.o.2 i hif;obtain⟨z,hz⟩:∃z,z=f[i]:=⟨_,rfl⟩
 rw[<-hz] at hcell;have HQ:=ai (show R=(decide (lo<=z)&&decide (z<=hi)) by
  rw[HR.o];simp only[um,hat];rw[bL (by decide),bL (by decide),bL (by decide),bM (by decide)];simp[hif,<-hz])
 have hin:i<fn:=by rw[HI.o.1];exact hif
 have Vs:=ai hcell;rw[hat,nX] at tF;clear hat GI hif hcell hz;have hw4:(decide (lo<=z)=true/\decide (z<=hi)=true/\R=true)\/(decide (lo<=z)=true/\decide (z<=hi)=false/\R=false)\/(decide (lo<=z)=false/\R=false):=by
  rw[HQ.o];cases decide (lo<=z)<;>cases decide (z<=hi)<;>simp
 rcases hw4 with ⟨t1,t2,hf⟩|⟨t1,t2,hf⟩|⟨t1,hf⟩
 all_goals
  have HF:=ai hf;clear hf;go_enter Tryz.func149,Tryz.ntmps149
  go_upto_region 1 with fail;rw[<-cN];clear cN;go_wp2_with fail;refine(tF.o wa dm.o).mono ?_;rintro r w1 ⟨rfl,hx1⟩;have dI:=ai (dm.o.trans hx1);clear f0 f1 f2 f3 f4 f5 ff e0 e1 e2 ef kL;obtain⟨f0,f1,f2,f3,f4,f5,ff⟩:=cX (hx1.blk gG.o);obtain⟨e0,e1,e2,ef⟩:=dM (hx1.blk iO.o);have XI:=dI.o.cell Vs.o;clear hx1;go_wp2_with fail;go_ret;exact bW (by rw[HF.o]) dI.o
open Go.RowKit
theorem FR:(l:List Wb)->(k:Nat)->(hk:k<l.length)->mH (l.take (k+1))=mH (l.take k)+1+mH l[k].gH
 | [],k,hk=>by simp at hk
 | .mk n c u::r,0,_=>by simp[mH,Wb.gH]
 | .mk n c u::r,k+1,hk=>by
  have:=FR r k (by simpa using hk);simp[mH] at this ⊢;omega
theorem Gn:(l:List Wb)->(k:Nat)->mH (l.take k)<=mH l
 | [],k=>by simp[mH]
 | .mk n c u::r,0=>by simp[mH]
 | .mk n c u::r,k+1=>by have:=Gn r k;simp[mH];omega
def WbQ (R:Bool) (T:Nat) (bc:Nat) (w:World) (e:Ending) (w':World):Prop:=∃m:Nat,e=.returned (.bool R)/\w'.heap[bc]?=some (.cells #[.int .i64 ((m:Nat):Int)] 3 (0,0))/\m<=41/\(R=true->m=T)/\ct [bc] w w'
def aSb (w:World) (bc d n:Nat) (l:List Wb) (nl:Nat) (t:Value) (wr:World):Prop:=∃k m:Nat,t=.int .i64 ((k:Nat):Int)/\k<=nl/\(∀j (h:j<l.length),j<k->Tu (17 - d) l[j]=true)/\m=n+mH (l.take k)/\m<=40/\(k=0\/d≠17) /\
 wr.heap[bc]?=some (.cells #[.int .i64 ((m:Nat):Int)] 3 (0,0))/\ct [bc] w wr
theorem Np {w0:World} (ho:dQ w0) (fm:Nat):∀(l:List Wb) (a:OA) (nl c d n bc:Nat) (w:World),mH l<fm->nl<=1000000000000000->nY l->1<=d->d<=17->n<=40->nl=l.length->gK (mask w [bc]) l a->Ext w0 w->w0.heap.size<=bc ->
  w.heap[bc]?=some (.cells #[.int .i64 ((n:Nat):Int)] 3 (0,0)) ->
  Calls Tryz.prog 183 #[.slice a nl c,.int .i64 ((d:Nat):Int),.pointer (some ⟨bc,0,none⟩)] w (WbQ (mh (17 - d) l&&decide (n+mH l<=40)) (n+mH l) bc w):=by
 induction fm with
 | zero=>intro l a nl c d n bc w h;omega
 | succ fm ih =>
  intro l a nl c d n bc w hfm hnl hfit hd1 qd hn vC aDt hx0 hbc hcell;have HD:=ai aDt;have HN:=ai vC;have HFT:=ai hfit;have BO:=ai hx0;have HO:=ai ho;have IH:=ai ih;have Af:=ai hbc;have axC:=ai hcell;have HQ:=ai (ab7 (17 - d) l);obtain⟨R,hR⟩:∃R,R=(mh (17 - d) l&&decide (n+mH l<=40)):=⟨_,rfl⟩
  rw[<-hR];have HR:=ai hR;obtain⟨T,hT⟩:∃T,T=n+mH l:=⟨_,rfl⟩
  rw[<-hT];have HT:=ai hT;clear aDt vC hfit hx0 ih hcell hR hT ho;go_enter Tryz.func183,Tryz.ntmps183
  go_wp2_with fail;go_loopw [11] (aSb w bc d n l nl) (fun t _=>nl - (intOf t).toNat)
  case atStart=>exact⟨0,n,rfl,by omega,fun j _ h=>by omega,by simp[mH],hn,aoX rfl,axC.o,ct.refl _ _⟩
  case round =>
   obtain⟨k,m,rfl,hk,hall,hm,a3o,aQI,hcb,hch⟩:=hrel;have aZp:=ai aQI;have mK:=ai hall;have HM:=ai hm;have si:=ai hcb;have HCH:=ai hch;obtain⟨cc0,ccf⟩:=dO hcb;have aW7:=bS hcb;clear hall hm hcb hch aQI;by_cases hkn:k<nl
   case neg =>
    have t1:=ah ((k:Int)<(nl:Int));have HE:=ai (show m=T/\R=true by
     have h1:=HM.o;have h2:=HN.o;rw[aS (by omega)] at h1;refine⟨by rw[HT.o,h1],?_⟩;rw[HR.o,aF];refine⟨?_,by simp;omega⟩;rw[HQ.o,aF];refine⟨?_,?_⟩
     ·by_cases h0:l.length=0
      ·simp[h0]
      have aWU:17 - d≠0:=by
       have:=aZp.o;omega
      simp[aWU]
     rw[aP];intro x hx;obtain⟨j,hj,rfl⟩:=aW.1 hx;exact mK.o j hj (by omega))
    go_wp2_with fail;go_ret;exact⟨m,by rw[HE.o.2];rfl,si.o,by omega,fun _=>HE.o.1,HCH.o⟩
   have fq:k<l.length:=by have:=HN.o;omega
   have t1:=ag ((k:Int)<(nl:Int));obtain⟨b,off,rfl,v,hv0,hrow,hv2,hv3,hv4,hv5,hv6⟩:=gK.at l _ (gK.mono HCH.o.sub _ _ HD.o) k fq;obtain⟨c0,c1,c2,c3,c4,c5,c6,c7⟩:=(hrow.mono (cC _ _)).eight;obtain⟨ho1,ho2,ho3,ho4,hou,ho5⟩:=Uu l HFT.o k fq;have Co:v.nu<=1000000000000000:=by rw[hv3];exact hou
   have hwn:=zw l k fq;have HU:=ai hv6;have Nh:=ai hv3;have zq:=ai hv2;have tX:=ai ho2;have Da:=ai ho5;have Vq:=ai (show Tu (17 - d) l[k]=(gJ l[k].name&&eW l[k].cond&&mh (17 - d - 1) l[k].gH) from rfl);have uF:=ai (FR l k fq);have htl:=Gn l (k+1);have HTL:=ai htl;have DK:=eB c0;rw[hv0] at c0;simp only at DK;clear hrow hv0 hv2 hv3 hv4 hv5 hv6 ho2 ho3 ho4 hou ho5 htl;obtain⟨wx,hwx⟩:∃wx,wx=(wr.setCell ⟨bc,0,none⟩ (.int .i64 ((m:Int)+1))).alloc (.cells #[.string l[k].name,.int .i64 v.x.op,.string v.x.name,.slice v.x.aw v.x.nw v.x.cw,.int .i64 v.x.lo,.int .i64 v.x.hi,.slice v.x.aa v.x.na v.x.ca,.slice v.au v.nu v.cu] 53):=⟨_,rfl⟩
   have jm:=ai (show wx.heap[wr.heap.size]?=some (.cells #[.string l[k].name,.int .i64 v.x.op,.string v.x.name,.slice v.x.aw v.x.nw v.x.cw,.int .i64 v.x.lo,.int .i64 v.x.hi,.slice v.x.aa v.x.na v.x.ca,.slice v.au v.nu v.cu] 53 (0,0)) by
    rw[hwx];exact cT (by simp))
   have Lb:=ai (show wx.heap[bc]?=some (.cells #[.int .i64 (((m+1:Nat)):Int)] 3 (0,0)) by
    rw[hwx];have:=aI wr bc 0 _ _ (.int .i64 ((m:Int)+1)) si.o;exact bU this)
   have HHX:=ai (show ct [bc] wr wx by rw[hwx];exact((ct.refl [bc] wr).setCell (aoX (by simp)) _).alloc _);go_upto_region 5 with fail;rw[<-hwx];have yx:=ai ((HCH.o.then HHX.o).ext BO.o (by simpa using Af.o));clear hwx cc0 ccf c0 c1 c2 c3 c4 c5 c6 c7;obtain⟨cc0,ccf⟩:=dO Lb.o;have aOu:=ai (fun (h:Tu (17 - d) l[k]=false)=>show R=false by
    rw[HR.o,HQ.o];have:l.all (Tu (17 - d))=false:=by
     rw[List.all_eq_false];exact⟨l[k],aD fq,by rw[h];simp⟩
    rw[this];simp)
   have aUq:=ai (fun (h:40<n+mH l)=>show R=false by
    rw[HR.o];have:decide (n+mH l<=40)=false:=bP (by omega);rw[this];simp)
   by_cases RD:d=17
   ·have t2:=ag ((16:Int)<(d:Int));have HF:=ai (show R=false by
     rw[HR.o,HQ.o,RD];have:¬l.length=0:=by omega
     simp[this])
    go_wp2_with fail;go_ret;exact⟨m+1,by rw[HF.o];rfl,Lb.o,by omega,fun h=>(by rw[HF.o] at h;cases h),HCH.o.then HHX.o⟩
   have t2:=ah ((16:Int)<(d:Int));by_cases h40:40<m+1
   ·have t3:=ag ((40:Int)<((m+1:Nat):Int));have HF:=ai (aUq.o (by have h1:=HM.o;have h2:=uF.o;have h3:=HTL.o;omega));go_wp2_with fail;go_ret;exact⟨m+1,by rw[HF.o];rfl,Lb.o,by omega,fun h=>(by rw[HF.o] at h;cases h),HCH.o.then HHX.o⟩
   have t3:=ah ((40:Int)<((m+1:Nat):Int));obtain⟨c0,c1,c2,c3,c4,c5,c6,c7,cf⟩:=oO jm.o;have aL3:=bS jm.o;cases hnb:gJ l[k].name
   ·have pX:=ai hnb;have HF:=ai (aOu.o (by rw[Vq.o,hnb];rfl));clear hnb;go_wp2_with fail;refine(rN _ _ ho1).mono ?_;rintro r w1 ⟨rfl,rfl⟩;rw[pX.o];go_wp2_with fail;go_ret;exact⟨m+1,by rw[HF.o];rfl,Lb.o,by omega,fun h=>(by rw[HF.o] at h;cases h),HCH.o.then HHX.o⟩
   have pX:=ai hnb;rw[hnb,Bool.true_and] at Vq;clear hnb;go_wp2_with fail;refine(rN _ _ ho1).mono ?_;rintro r w1 ⟨rfl,rfl⟩;rw[pX.o];go_wp2_with fail;refine(rC l[k].cond _ wx (zq.o.mono (HHX.o.sub.trans (cC _ _))) (HO.o.ext yx.o) tX.o).mono ?_;rintro r w2 ⟨rfl,hx2⟩;rw[zx];have dN:=ai (yx.o.trans hx2);have iP:=ai (hx2.blk Lb.o);have fY:=ai (hx2.blk jm.o);have aGa:=ai ((HCH.o.then HHX.o).then (hx2.cR [bc]));have HU2:=ai (gK.mono ((HHX.o.then (hx2.cR [bc])).sub) _ _ HU.o);clear hx2 c0 c1 c2 c3 c4 c5 c6 c7 cf cc0 ccf aL3;obtain⟨c0,c1,c2,c3,c4,c5,c6,c7,cf⟩:=oO fY.o;have aL3:=bS fY.o;cases hxb:eW l[k].cond
   ·have HF:=ai (aOu.o (by rw[Vq.o,hxb];rfl));go_wp2_with fail;go_ret;exact⟨m+1,by rw[HF.o];rfl,iP.o,by omega,fun h=>(by rw[HF.o] at h;cases h),aGa.o⟩
   rw[hxb,Bool.true_and] at Vq;clear hxb;have Q1:=ai (show (d:Int)+1=((d+1:Nat):Int) by omega);have HWF:=ai (IH.o l[k].gH v.au v.nu v.cu (d+1) (m+1) bc w2 (by omega) Co Da.o (by omega) (by omega) (by omega) Nh.o HU2.o dN.o Af.o iP.o);have e1:17 - (d+1)=17 - d - 1:=by omega
   rw[e1,<-Vq.o] at HWF;clear e1;go_wp2_with fail;rw[Q1.o];refine HWF.o.mono ?_;rintro r w3 ⟨m3,rfl,hc3,hm3,hT3,aQ6⟩;have oD:=ai hc3;have HT3:=ai hT3;have aOM:=ai (aGa.o.then aQ6);clear hc3 hT3 aQ6 c0 c1 c2 c3 c4 c5 c6 c7 cf aL3;cases hib:Tu (17 - d) l[k]
   ·have HF:=ai (aOu.o hib);simp only[Bool.false_and];clear hib;go_wp2_with fail;go_ret;exact⟨m3,by rw[HF.o];rfl,oD.o,hm3,fun h=>(by rw[HF.o] at h;cases h),aOM.o⟩
   have EO:=ai hib;rw[hib] at HT3;clear hib;simp only[Bool.true_and];by_cases aLL:m+1+mH l[k].gH<=40
   case neg =>
    have t4:=ah (m+1+mH l[k].gH<=40) aLL;rw[t4];have HF:=ai (aUq.o (by have h1:=HM.o;have h2:=uF.o;have h3:=HTL.o;omega));clear t4;go_wp2_with fail;go_ret;exact⟨m3,by rw[HF.o];rfl,oD.o,hm3,fun h=>(by rw[HF.o] at h;cases h),aOM.o⟩
   have t4:=ag (m+1+mH l[k].gH<=40) aLL;rw[t4];have II:=ai (HT3.o (by rw[t4];rfl));clear t4;go_wp2_with fail;go_roundw
   case rel =>
    refine⟨k+1,m3,by go_num,by omega,fun j hj hjk=>?_,?_,?_,?_,oD.o,aOM.o⟩
    ·by_cases e:j=k
     ·subst e;exact EO.o
     exact mK.o j hj (by omega)
    ·rw[uF.o,II.o,HM.o];omega
    ·rw[II.o];exact aLL
    exact a4Z RD
   case measure=>simp[intOf];omega
theorem avj {f:Nat->Int} {n:Nat} (h:(kZ f n).2=0):∀j,j<n->f j=0:=by
 induction n with
 | zero=>intro j hj;omega
 | succ n ih =>
  intro j hj;rw[kZ] at h;by_cases h1:(kZ f n).2≠0
  ·rw[bM h1] at h;exact a40 h h1
  rw[bL h1] at h;by_cases h2:f n≠0
  ·rw[bM h2] at h;exact a40 h h2
  by_cases e:j=n
  ·subst e;simpa using h2
  exact ih (by simpa using h1) j (by omega)
theorem SM {s:List Attr} (h:dy s=0) {i:Nat} (hi:i<s.length):iq s[i]=0:=by
 unfold dy at h;by_cases h0:s.length=0
 ·rw[bM h0] at h;cases h
 rw[bL h0] at h;by_cases h6:6<s.length
 ·rw[bM h6] at h;cases h
 rw[bL h6] at h;have:=avj h i hi;unfold rY at this;rw[yI hi] at this;split at this
 ·cases this
 split at this
 ·cases this
 exact this
theorem alv {a:Attr} (h:iq a=0) (hk:a.kind=1\/a.kind=3):a.lo=0/\a.hi=0:=by
 unfold iq at h;rcases hk with hk|hk
 ·rw[bM hk] at h;split at h
  ·cases h
  rename_i h1
  omega
 rw[bL (by omega),bL (by omega),bM hk] at h;split at h
 ·cases h
 rename_i h1
 omega
theorem aEw {s:List Attr} {l:List cK} (hs:dy s=0) {e:Ex} (he:zK e):GP s l e.op e.name e.words e.lo e.hi=fB s l e.op e.name e.words e.lo e.hi:=by
 have key:∀(ws vs:ZB),(ws.all fun x=>decide (x∈vs))=ws.all fun x=>vs.any fun y=>decide (y=x):=by
  intro ws vs
  congr 1
  funext x
  rw[bH];simp
 rcases he with ⟨h1,h2,h3,h4,h5,h6⟩|⟨h1,h2,h3,h4,h5,h6⟩|⟨h1,h2,h3,h4,h5,h6⟩|⟨h1,h2,h3,h4,h5,h6⟩|⟨h1,h2,h3,h4,h5,h6⟩|⟨h1,h2,h3,h4,h5,h6⟩|⟨h1,h2,h3,h4,h5,h6⟩
 ·rw[h1];rfl
 ·rw[h1];rfl
 ·rw[h1,h3,h4,h5];cases ho:eO s e.name with
  | none =>
   rw[Qy (by decide) ho];simp[fB,ho]
  | some i =>
   have hi:=JD ho;have e5:fB s l 3 e.name [] 0 0=if s[i].kind≠3 then 9 else 0:=by
    unfold fB;rw[bM rfl,ho];simp only[yI hi]
   rw[Qx (by decide) ho hi,e5,show Dx 3=3 from rfl];by_cases hk:s[i].kind=3
   ·have:=alv (SM hs hi) (a4Z hk);rw[this.1,this.2];simp[hk]
   rw[bM hk,bM hk]
 ·rw[h1,h4,h5];cases ho:eO s e.name with
  | none =>
   rw[Qy (by decide) ho];simp[fB,ho]
  | some i =>
   have hi:=JD ho;have e5:fB s l 4 e.name e.words 0 0=if s[i].kind≠1 then 9 else if (e.words.all fun x=>s[i].words.any fun y=>decide (y=x))=false then 7 else 0:=by
    unfold fB;rw[bL (show ¬(4:Int)=3 by decide),bM rfl,ho];simp only[yI hi]
   rw[Qx (by decide) ho hi,e5,show Dx 4=1 from rfl];by_cases hk:s[i].kind=1
   ·have:=alv (SM hs hi) (aoX hk);rw[this.1,this.2,key];simp[hk]
   rw[bM hk,bM hk]
 ·rw[h1,h3];cases ho:eO s e.name with
  | none =>
   rw[Qy (by decide) ho];simp[fB,ho]
  | some i =>
   have hi:=JD ho;have e5:fB s l 5 e.name [] e.lo e.hi=if s[i].kind≠2 then 9 else if e.lo<s[i].lo\/s[i].hi<e.hi then 1 else 0:=by
    unfold fB;rw[bL (show ¬(5:Int)=3 by decide),bL (show ¬(5:Int)=4 by decide),bM rfl,ho];simp only[yI hi]
   rw[Qx (by decide) ho hi,e5,show Dx 5=2 from rfl];simp
 ·rw[h1];rfl
 rcases h1 with h1|h1<;>(rw[h1];rfl)
theorem anT (s:List Attr) (hse:dy s=0) (l:List cK) (hf:∀x∈s,x.fits) (hsl:s.length<=1000000000000000) (bm nm:Nat) (m:Nat):∀(e:Ex) (ev sv:Value) (w:World),e.size<=m->m<=1000000000000000->e.iT->e.fits->gq e->dB w s sv->xS w l bm nm->dw w e ev ->
  Calls Tryz.prog 139 #[sv,.map (some bm),ev] w (cz (.int .i64 (dr s l e)) w):=by
 induction m with
 | zero=>intro e ev sv w h;have:=size_pos e;omega
 | succ m ih =>
  intro e ev sv w hm Re uP hfit hok hs hd he;obtain⟨sa,sn,sc,rfl,B6⟩:=hs.slice;obtain⟨hfw,qx⟩:=rI uP;obtain⟨hen,hft⟩:=Mf hfit;have HN0:=ai (fun (W:World) (h1:dB W s (.agg #[.slice sa sn sc])) (h2:xS W l bm nm) (h3:dw W e ev)=>arU s (.agg #[.slice sa sn sc]) l bm nm e ev W h1 hf hsl h2 h3 hfw hen);rw[aEw hse (iR hok).1] at HN0;obtain⟨aw,nw,cw,aa,na,ca,rfl,hw,hna,hca,ha,hx⟩:=he.parts;have hS:e.size=1+sizes e.args:=e.size_eq;have hla:=eR e.args;have Ks:na<=1000000000000000:=by omega
  have hsz:sizes e.args<=m:=by omega
  have HE:=ai he;have HS:=ai hs;have HD:=ai hd;have HX:=ai hx;have kJ:=ai hna;have HFT:=ai hft;have AD:=ai qx;have zm:=ai (iR hok).2;have Gk:=ai (zL s l e);have IH:=ai ih;clear hs hd he hx hna hw hca ha hS hla B6 hfw qx uP ih hf hm hft hfit hok;unfold fN at *;obtain⟨wa,cN⟩:∃wa,wa=(w.alloc (.cells #[.slice sa sn sc] 24)).alloc (.cells #[ e.op,.string e.name,.slice aw nw cw,e.lo,e.hi,.slice aa na ca] 45):=⟨_,rfl⟩
  have gB:Ext w wa:=by rw[cN];exact((Tz _).alloc _).alloc _
  have hb0:wa.heap[w.heap.size]?=some (.cells #[.slice sa sn sc] 24 (0,0)):=by rw[cN];exact bU (bR w _)
  have hb1:wa.heap[w.heap.size+1]?=some (.cells #[ e.op,.string e.name,.slice aw nw cw,e.lo,e.hi,.slice aa na ca] 45 (0,0)):=by rw[cN];exact cT (by simp)
  have dm:=ai gB;have iO:=ai hb0;have gG:=ai hb1;obtain⟨a0,af⟩:=dO hb0;obtain⟨b0,b1,b2,b3,b4,b5,bf⟩:=cX hb1;have kI:=bS hb1;have zu:=ai (HN0.o wa (HS.o.ext gB) (HD.o.ext gB) (HE.o.ext gB));clear gB hb0 hb1 HN0;obtain⟨N,hN⟩:∃N,N=fB s l e.op e.name e.words e.lo e.hi:=⟨_,rfl⟩
  rw[<-hN] at zu Gk;obtain⟨E,hE⟩:∃E,E=dr s l e:=⟨_,rfl⟩
  rw[<-hE] at Gk ⊢;clear hN hE;go_enter Tryz.func139,Tryz.ntmps139
  go_upto_region 1 with fail;rw[<-cN];clear cN;go_wp2_with fail;refine zu.o.mono ?_;rintro r w3 ⟨rfl,hx3⟩;have dS:=ai (dm.o.trans hx3);have wQ:=ai (hx3.blk iO.o);have nW:=ai (hx3.blk gG.o);clear hx3 a0 af b0 b1 b2 b3 b4 b5 bf kI;by_cases hz:N=0
  case neg =>
   have tz:(N != 0)=true:=by simp[hz]
   have HQ:=ai (show E=N by rw[Gk.o,bM hz]);clear hz;go_wp2_with fail;go_ret;exact cD (by rw[HQ.o]) dS.o
  have tz:(N != 0)=false:=by simp[hz]
  have HQ:=ai (show E=dZ s l e.args by rw[Gk.o,bL (by simpa using hz)]);clear hz Gk;obtain⟨b0,b1,b2,b3,b4,b5,bf⟩:=cX nW.o;have kI:=bS nW.o;go_wp2_with fail;clear b0 b1 b2 b3 b4 b5 bf kI;go_loopw [21] (fun t wr=>∃k:Nat,t=.int .i64 k/\k<=na/\(∀j (h:j<e.args.length),j<k->dr s l e.args[j]=0)/\wr.heap[w.heap.size]?=some (.cells #[.slice sa sn sc] 24 (0,0))/\Ext w wr) (fun t _=>na - (intOf t).toNat)
  case atStart=>exact⟨0,rfl,by omega,fun j _ h=>by omega,wQ.o,dS.o⟩
  case round =>
   obtain⟨k,rfl,hk,hall,j6,lM⟩:=hrel;have mK:=ai hall;have jm:=ai j6;have gZ:=ai lM;obtain⟨a0,af⟩:=dO j6;have lU:=bS j6;clear hall j6 lM;by_cases hkn:k<na
   ·have hka:k<e.args.length:=by have:=kJ.o;omega
    have t1:=ag ((k:Int)<(na:Int));obtain⟨b,off,rfl,nJ,nD,nG,nK,nE,nI,h0,h1,h2,h3,h4,h5,h6⟩:=eU.at e.args _ (eU.ext gZ.o e.args _ HX.o) k hka;have hs1:=eD e.args k hka;have hs2:=dX e.args (k+1);have uk:e.args[k].size<=m:=by omega
    have DK:=eB h0;simp only at DK;have HC:=ai (fun (W:World) (hW:Ext wr W)=>IH.o e.args[k] _ (.agg #[.slice sa sn sc]) W uk (by omega) (Fo _ AD.o k hka) (HFT.o _ (aD hka)) (zm.o _ (aD hka)) (HS.o.ext (gZ.o.trans hW)) (HD.o.ext (gZ.o.trans hW)) (h6.ext hW));unfold fN at HC;clear h6 hs1 hs2;obtain⟨E1,xK⟩:∃E1,E1=dr s l e.args[k]:=⟨_,rfl⟩
    rw[<-xK] at HC;have ue:=ai xK;clear xK;go_wp2_with fail;refine(HC.o _ ((Tz wr).alloc _)).mono ?_;rintro r w5 ⟨rfl,dh⟩;have gW:=ai ((gZ.o.alloc _).trans dh);have uo:=ai (dh.blk (bU jm.o));clear dh h0 h1 h2 h3 h4 h5 a0 af lU HC;by_cases hz1:E1=0
    ·have tz1:(E1 != 0)=false:=by simp[hz1]
     have HZ1:=ai (ue.o.symm.trans hz1);clear hz1;go_wp2_with fail;go_roundw
     case rel =>
      refine⟨k+1,by go_num,by omega,fun j hj hjk=>?_,uo.o,gW.o⟩;by_cases e0:j=k
      ·subst e0;exact HZ1.o
      exact mK.o j hj (by omega)
     case measure=>simp[intOf];omega
    have tz1:(E1 != 0)=true:=by simp[hz1]
    have HR:=ai (show E=E1 by rw[HQ.o,FZ e.args k hka (by rw[<-ue.o];exact hz1) (fun j hj=>mK.o j (by omega) hj),ue.o]);clear hz1;go_wp2_with fail;go_ret;exact cD (by rw[HR.o]) gW.o
   have t1:=ah ((k:Int)<(na:Int));have HR:=ai (show E=0 by rw[HQ.o,tK e.args fun j hj=>mK.o j hj (by have:=kJ.o;omega)]);go_wp2_with fail;go_ret;exact cD (by rw[HR.o]) gZ.o
def zV (s:List Attr) (l:List cK) (e:Ex):Int:=if eW e=false then 5 else dr s l e
def qu (s:List Attr) (l:List cK) (e:Ex):Int:=if dy s≠0 then dy s else zV s l e
theorem afr {e:Ex} (h:eW e=true):gq e:=by
 rw[eW,aF,aF] at h;exact(Ke e).1 h.2
theorem Mq (s:List Attr) (hse:dy s=0) (l:List cK) (hf:∀x∈s,x.fits) (hsl:s.length<=1000000000000000) (bm nm:Nat) (e:Ex) (ev sv:Value) (w:World) (uP:e.iT) (hfit:e.fits) (ho:dQ w) (hs:dB w s sv) (hd:xS w l bm nm) (he:dw w e ev) :
  Calls Tryz.prog 108 #[sv,.map (some bm),ev] w (cz (.int .i64 (zV s l e)) w):=by
 obtain⟨sa,sn,sc,rfl,B6⟩:=hs.slice;have HV:=ai (fun (W:World) (hW:Ext w W)=>rC e ev W (he.ext hW) (ho.ext hW) hfit);have HNC:=ai (fun (W:World) (hW:Ext w W) (hz:eW e=true)=>anT s hse l hf hsl bm nm e.size e ev (.agg #[.slice sa sn sc]) W (aU _) (by
  rw[eW,aF,aF] at hz;have h2:=hz.1.2;simp only[aH] at h2;unfold ep at h2;omega) uP hfit (afr hz) (hs.ext hW) (hd.ext hW) (he.ext hW))
 rw[zx] at HV;obtain⟨aw,nw,cw,aa,na,ca,rfl,-⟩:=he.parts;obtain⟨R,hR⟩:∃R,R=zV s l e:=⟨_,rfl⟩
 rw[<-hR];have HR:=ai (show R=if eW e=false then 5 else dr s l e from hR);clear hf uP hfit ho hs hd he hR B6;unfold fN at *;obtain⟨wa,cN⟩:∃wa,wa=(w.alloc (.cells #[.slice sa sn sc] 24)).alloc (.cells #[ e.op,.string e.name,.slice aw nw cw,e.lo,e.hi,.slice aa na ca] 45):=⟨_,rfl⟩
 have gB:Ext w wa:=by rw[cN];exact((Tz _).alloc _).alloc _
 have hb0:wa.heap[w.heap.size]?=some (.cells #[.slice sa sn sc] 24 (0,0)):=by rw[cN];exact bU (bR w _)
 have hb1:wa.heap[w.heap.size+1]?=some (.cells #[ e.op,.string e.name,.slice aw nw cw,e.lo,e.hi,.slice aa na ca] 45 (0,0)):=by rw[cN];exact cT (by simp)
 have dm:=ai gB;have iO:=ai hb0;have gG:=ai hb1;obtain⟨b0,b1,b2,b3,b4,b5,bf⟩:=cX hb1;have kI:=bS hb1;have VG:=ai (HV.o wa gB);clear gB hb0 hb1 HV;obtain⟨B,hB⟩:∃B,B=eW e:=⟨_,rfl⟩
 rw[<-hB] at VG HR;have jL:=ai hB;clear hB;go_enter Tryz.func108,Tryz.ntmps108
 go_upto_region 1 with fail;rw[<-cN];clear cN;go_wp2_with fail;refine VG.o.mono ?_;rintro r w3 ⟨rfl,hx3⟩;have dS:=ai (dm.o.trans hx3);have wQ:=ai (hx3.blk iO.o);have nW:=ai (hx3.blk gG.o);clear hx3 b0 b1 b2 b3 b4 b5 bf kI;cases B
 ·have HF:=ai (show R=5 by rw[HR.o];rfl);go_wp2_with fail;go_ret;exact cD (by rw[HF.o]) dS.o
 have HF:=ai (show R=dr s l e by rw[HR.o];rfl);obtain⟨b0,b1,b2,b3,b4,b5,bf⟩:=cX nW.o;obtain⟨a0,af⟩:=dO wQ.o;have kI:=bS nW.o;go_wp2_with fail;refine(HNC.o w3 dS.o jL.o.symm).mono ?_;rintro r w5 ⟨rfl,dh⟩;have gW:=ai (dS.o.trans dh);clear dh;go_wp2_with fail;go_ret;exact cD (by rw[HF.o]) gW.o
def aCI:Obj:=.cells #[.string ⟨#[119]⟩,.string ⟨#[120]⟩,.string ⟨#[121]⟩] 9 (0,0)
def ab' (attrs:List Attr) (names:ZB) (d:Nat) (x:Wb):Prop:=gJ x.name=true/\oX attrs names 2 x.cond/\Rm attrs names x.gH/\mH x.gH<=ar6 d
theorem aLo {W:World} {g r:Nat} (h:W.heap[g]?=some aCI) (hr:r<3):∃s:BA,W.cell? ⟨g,r,none⟩=some (.string s)/\gJ s=true:=by
 rcases(by omega:r=0\/r=1\/r=2) with rfl|rfl|rfl
 ·exact⟨_,bX h 0,by decide +kernel⟩
 ·exact⟨_,bX h 1,by decide +kernel⟩
 exact⟨_,bX h 2,by decide +kernel⟩
theorem cg.lt {w0 w:World} {bd:Nat} (h:cg w0 w bd):bd<w.heap.size:=by obtain⟨_,_,_,_,hb,_⟩:=h;exact bS hb
def aXw (attrs:List Attr) (names:ZB) (d bd bw:Nat) (M N:ZN) (l:List Wb) (ws:List Cz) (sa:OA) (sn sc:Nat) (an:OA) (nn cn:Nat) (va:OA) (vc:Nat):Nat->Value->World->Prop
 | 0,u,_=>u=.slice va l.length vc
 | 1,u,W=>∃(g:Nat),u=.slice (some ⟨g,0,none⟩) 3 3/\(W.heap[g]?=some aCI/\g≠bd)
 | 2,u,_=>u=.pointer (some ⟨bd,0,none⟩)
 | 3,u,_=>∃(r:Nat),u=.int .i64 ((r:Nat):Int)/\r<3
 | 4,u,W=>∃(g:Nat) (r:Nat),u=.pointer (some ⟨g,r,none⟩)/\(W.heap[g]?=some aCI/\g≠bd/\r<3)
 | 5,u,_=>∃(s:BA),u=.string s/\gJ s=true
 | 6,u,_=>u=.pointer (some ⟨bd,0,none⟩)
 | 7,u,_=>u=.agg #[.slice sa sn sc]
 | 8,u,_=>u=.slice an nn cn
 | 9,u,W=>∃(x:Ex) (xv:dK),u=dK.val xv/\(oX attrs names 2 x/\dw (mask W N) x (dK.val xv))
 | 10,u,_=>u=.pointer (some ⟨bd,0,none⟩)
 | 11,u,_=>u=.agg #[.slice sa sn sc]
 | 12,u,_=>u=.slice an nn cn
 | 13,u,_=>u=.int .i64 ((d:Int)+1)
 | 14,u,_=>u=.int .i64 d
 | 15,u,W=>∃(bl:List Wb) (ba:OA) (bn:Nat) (bc:Nat),u=.slice ba bn bc/\(bn=bl.length/\bn<=bc/\ny ba bc/\gK (mask W N) bl ba/\Rm attrs names bl/\mH bl<=ar6 d)
 | 16,u,W=>∃(x:Wb) (wv:Cz),u=.agg #[.string wv.name,.int .i64 wv.x.op,.string wv.x.name,.slice wv.x.aw wv.x.nw wv.x.cw,.int .i64 wv.x.lo,.int .i64 wv.x.hi,.slice wv.x.aa wv.x.na wv.x.ca,.slice wv.au wv.nu wv.cu]/\(Yj (mask W N) x wv/\ab' attrs names d x)
 | 17,u,W=>∃(x:Wb) (wv:Cz) (g:Nat),u=.slice (some ⟨g,0,none⟩) 1 1/\(W.heap[g]?=some (.cells wv.cells.toArray 53 (0,0))/\g≠bd/\Yj (mask W N) x wv/\ab' attrs names d x)
 | _,u,W=>∃(x:Wb) (wv:Cz) (v2:Value),u=v2/\(W.ownsRow (bw+1) 53 8 v2 (l.length+1) (ws.flatMap Cz.cells++wv.cells)/\aaK (mask W (bd::rowOf v2++M)) (l++[x]) (ws++[wv])/\ab' attrs names d x)
theorem ar' {attrs:List Attr} (names:ZB) (hok:∀a∈attrs,QG a) (hne:attrs≠[]) (hl:attrs.length<=1000) (hnl:names.length<=1000):∀(d:Nat),d<=10->∀{w0 w:World} {bd:Nat} (_:cg w0 w bd) (sa:OA) (sn sc:Nat) (an:OA) (nn cn:Nat) (M:ZN) (_:dB (mask w [bd]) attrs (.agg #[.slice sa sn sc])) (_:fS (mask w [bd]) names an nn cn) (_:∀y∈M,y<w.heap.size),
  Calls Tryz.prog 41 #[.pointer (some ⟨bd,0,none⟩),.agg #[.slice sa sn sc],.slice an nn cn,.int .i64 (d:Nat)] w (awp attrs names d w0 bd M w):=by
 intro d;induction d with
 | zero =>
  intro _ w0 w bd hd sa sn sc an nn cn M hs hn hM;have HD:=ai (hd.ext ((Tz w).alloc (.cells #[.slice sa sn sc] 24)));clear hd hs hn;go_enter Tryz.func41,Tryz.ntmps41
  go_wp2_with fail;refine(dx HD.o 3 (by omega) (by omega)).mono ?_;rintro e w1 ⟨z,rfl,hz0,hz1,hd1,hc1⟩;have tU:=ai hd1;have mE:=ai ((((Tz w).alloc (.cells #[.slice sa sn sc] 24)).cR [bd]).then hc1);clear hd1 hc1;go_wp2_with fail;go_loopw [9,10] (fun v k wr=>v=.slice none 0 0/\k=.int .i64 z/\wr=w1) (fun _ k _=>(intOf k).toNat)
  case atStart=>exact⟨rfl,rfl,rfl⟩
  case round =>
   obtain⟨rfl,rfl,rfl⟩:=hrel;by_cases hq:0<z
   ·have t14:=ag (0<z) hq;go_wp2_with fail;go_ret;exact⟨[],none,0,0,rfl,rfl,aU _,aoX ⟨rfl,rfl⟩,by unfold gK;trivial,by unfold Rm;trivial,by simp[mH],tU.o,mE.o⟩
   have t14:=ah (0<z) hq;go_wp2_with fail;go_ret;exact⟨[],none,0,0,rfl,rfl,aU _,aoX ⟨rfl,rfl⟩,by unfold gK;trivial,by unfold Rm;trivial,by simp[mH],tU.o,mE.o⟩
 | succ d ih =>
  intro azl w0 w bd hd sa sn sc an nn cn M hs hn hM;have qL:=hd.lt;have hb0:w0.heap.size<=bd:=by obtain⟨_,_,_,_,_,_,_,_,_,h⟩:=hd;exact h
  have iO:=ai (show w0.heap.size<=w.heap.size+1 by omega);have wP:=ai qL;have HD:=ai (hd.ext ((Tz w).alloc (.cells #[.slice sa sn sc] 24)));have HS:=ai hs;have HN:=ai hn;have HM:=ai hM;have IH:=ai @ih;have RU:=ai hok;have gG:=ai (bR w (.cells #[.slice sa sn sc] 24));clear hd hs hn hM ih hok qL hb0;go_enter Tryz.func41,Tryz.ntmps41
  go_wp2_with fail;refine(dx HD.o 3 (by omega) (by omega)).mono ?_;rintro e w1 ⟨z,rfl,hz0,hz1,hd1,hc1⟩;have tU:=ai hd1;have mE:=ai ((((Tz w).alloc (.cells #[.slice sa sn sc] 24)).cR [bd]).then hc1);have fY:=ai (hc1.blk gG.o (by have:=wP.o;simp;omega));obtain⟨bw,qL⟩:∃bw,bw=w.heap.size:=⟨_,rfl⟩
  have lQ:=ai qL;rw[<-qL] at fY iO wP HM ⊢;clear hd1 hc1 gG HD qL;go_wp2_with fail;go_loopw [9,10] (BkL attrs names w0 w d bd bw M sa sn sc) (fun _ k _=>(intOf k).toNat)
  case atStart=>exact⟨[],[],z,rfl,by simp;omega,hz0,a4' _ _ _ _,aaK.nil _,by unfold Rm;trivial,by simp[mH],tU.o,mE.o,fY.o⟩
  case round =>
   obtain⟨l,ws,q,rfl,hq2,CQ,hown,hwr,hok,hwn,hdk,Kv,j6⟩:=hrel;obtain⟨va,vc,hv⟩:=eP hown;subst hv;have HOW:=ai hown;have HWL:=ai hwr;have HWO:=ai hok;have HWN:=ai hwn;have yz:=ai hdk;have HCG:=ai Kv;have jm:=ai j6;have tR:=ai (show bw+1<=wr.heap.size from bS j6);clear hown hwr hok hwn hdk Kv j6 tU mE fY;by_cases hq:0<q
   ·have t14:=ag (0<q) hq;have t17:=ag ((0:Int)<(d:Int)+1);have hl2:l.length<=2:=by omega
    obtain⟨N,hN⟩:∃N,N=bd::rowOf (.slice va l.length vc)++M:=⟨_,rfl⟩
    have qY:=ai (show bd∈N by rw[hN];simp);have OX:=ai (show ∀y∈N,y<wr.heap.size by
     intro y hy;rw[hN] at hy;simp only[a48,bz,aN] at hy;have:=tR.o;have:=wP.o;rcases hy with rfl|hy|hy
     ·omega
     ·exact(HOW.o.lt y (bV.1 hy)).2
     have:=HM.o y hy;omega)
    have HWR:=ai (show ∀W,ct [bd] wr W->aaK (mask W N) l ws from fun W hW=>by rw[hN];exact HWL.o.mono (cP hW (by simp)));have WQ:=ai (show ∀W w2 g2 cap,ct [bd] wr W->ct (rowOf (.slice va l.length vc)) W w2->((Value.slice va l.length vc).ownBlock=some g2\/g2=W.heap.size)->Sub (mask W N) (mask w2 (bd::rowOf (.slice (some ⟨g2,0,none⟩) (l.length+1) cap)++M)) from fun W w2 g2 cap hW hc hg=>by
     rw[hN];refine cQ fun k hk hn=>⟨fun hm=>?_,hc.block k hk fun hm=>hn (by simp[hm])⟩
     simp only[a48,bz,aN] at hm hn;rcases hm with h|h|h
     ·exact hn (aoX h)
     ·have h2:=bV.1 h;simp only[Value.ownBlock,a42] at h2;rcases hg with e|e
      ·exact hn (a4Z (aoX (bV.2 (by rw[e,h2]))))
      omega
     exact hn (a4Z (a4Z h)))
    have HDX:=ai (show ∀W,cg w0 W bd->ct [bd] wr W->Calls Tryz.prog 40 #[.pointer (some ⟨bd,0,none⟩),.agg #[.slice sa sn sc],.slice an nn cn,.int .i64 2] W (Mv (oX attrs names 2) w0 bd N W) from fun W hd hW =>
     (wW attrs names RU.o hne hl hnl 1 (by omega) hd sa sn sc an nn cn N (HS.o.mono (cP (HCG.o.then hW) (by simp))) (HN.o.mono (cP (HCG.o.then hW) (by simp))) (fun y hy=>bF (OX.o y hy) hW.size)).mono fun e w' h=>h)
    have HIH:=ai (show ∀W,cg w0 W bd->ct [bd] wr W->Calls Tryz.prog 41 #[.pointer (some ⟨bd,0,none⟩),.agg #[.slice sa sn sc],.slice an nn cn,.int .i64 (d:Nat)] W (awp attrs names d w0 bd N W) from fun W hd hW =>
     IH.o (by omega) hd sa sn sc an nn cn N (HS.o.mono (cP (HCG.o.then hW) (by simp))) (HN.o.mono (cP (HCG.o.then hW) (by simp))) (fun y hy=>bF (OX.o y hy) hW.size))
    clear hN;go_upto_region 5 with fail;refine kU (m:=19) [18] (GnL w0 wr bd 18 (rowOf (.slice va l.length vc))) (GnB bd 18 (rowOf (.slice va l.length vc))) (uz (aXw attrs names d bd bw M N l ws sa sn sc an nn cn va vc)) (by kernel_rfl) (by kernel_rfl) ⟨yz.o.ext ((Tz wr).drew),((Tz wr).drew).cR _,fun _=>((Tz wr).drew).cR _⟩ ?_ ?_ ?_
    ·intro i k v W W' hi hk hne hout h hE;have hi':=ltc19 hi;clear hi hk;by_cases hk:k=18
     ·subst hk;exfalso;rcases hi' with rfl|rfl|rfl|rfl|rfl|rfl|rfl|rfl|rfl|rfl|rfl|rfl|rfl|rfl|rfl|rfl|rfl|rfl|rfl
      ·exact a40 hout (by decide +kernel)
      ·exact a40 hout (by decide +kernel)
      ·exact a40 hout (by decide +kernel)
      ·exact a40 hout (by decide +kernel)
      ·exact a40 hout (by decide +kernel)
      ·exact a40 hout (by decide +kernel)
      ·exact a40 hout (by decide +kernel)
      ·exact a40 hout (by decide +kernel)
      ·exact a40 hout (by decide +kernel)
      ·exact a40 hout (by decide +kernel)
      ·exact a40 hout (by decide +kernel)
      ·exact a40 hout (by decide +kernel)
      ·exact a40 hout (by decide +kernel)
      ·exact a40 hout (by decide +kernel)
      ·exact a40 hout (by decide +kernel)
      ·exact a40 hout (by decide +kernel)
      ·exact a40 hout (by decide +kernel)
      ·exact a40 hout (by decide +kernel)
      exact hne rfl
     have hE:ct [bd] W W':=(by have h9:=hE;unfold GnB at h9;rwa [bL hk] at h9)
     rcases hi' with rfl|rfl|rfl|rfl|rfl|rfl|rfl|rfl|rfl|rfl|rfl|rfl|rfl|rfl|rfl|rfl|rfl|rfl|rfl
     ·exact h
     ·obtain⟨g,e0,h⟩:=h;exact⟨g,e0,⟨hE.blk h.1 (by simpa using h.2),h.2⟩⟩
     ·exact h
     ·obtain⟨r,e0,h⟩:=h;exact⟨r,e0,h⟩
     ·obtain⟨g,r,e0,h⟩:=h;exact⟨g,r,e0,⟨hE.blk h.1 (by simpa using h.2.1),h.2⟩⟩
     ·obtain⟨s,e0,h⟩:=h;exact⟨s,e0,h⟩
     ·exact h
     ·exact h
     ·exact h
     ·obtain⟨x,xv,e0,h⟩:=h;exact⟨x,xv,e0,⟨h.1,h.2.mono (cP hE qY.o)⟩⟩
     ·exact h
     ·exact h
     ·exact h
     ·exact h
     ·exact h
     ·obtain⟨bl,ba,bn,bc,e0,h⟩:=h;exact⟨bl,ba,bn,bc,e0,⟨h.1,h.2.1,h.2.2.1,gK.mono (cP hE qY.o) _ _ h.2.2.2.1,h.2.2.2.2⟩⟩
     ·obtain⟨x,wv,e0,h⟩:=h;exact⟨x,wv,e0,⟨h.1.mono (cP hE qY.o),h.2⟩⟩
     ·obtain⟨x,wv,g,e0,h⟩:=h;exact⟨x,wv,g,e0,⟨hE.blk h.1 (by simpa using h.2.1),h.2.1,h.2.2.1.mono (cP hE qY.o),h.2.2.2⟩⟩
     obtain⟨x,wv,v2,e0,h⟩:=h;exact⟨x,wv,v2,e0,⟨cO h.1 hE (fun q hq hm=>by simp only[aG] at hm;have:=(h.1.lt q hq).1;have:=wP.o;omega),h.2.1.mono (cP hE (by simp)),h.2.2⟩⟩
    ·intro q op hq ho L vs W cG dD hW hd ρ hρ;have jA:=ltc19 hq;clear hq;have o9:ρ (.tmp 9)=.slice va l.length vc:=hρ.out 9 rfl;have o0:ρ (.tmp 0)=.pointer (some ⟨bd,0,none⟩):=hρ.out 0 rfl;have i2:=hρ.i 2 23;have i1:=hρ.i 1 22;have i3:=hρ.i 3 24;have i4:=hρ.i 4 25;have o5:ρ (.tmp 5)=.pointer (some ⟨bw,0,none⟩):=hρ.out 5 rfl;have o2:ρ (.tmp 2)=.slice an nn cn:=hρ.out 2 rfl;have i6:=hρ.i 6 27;have i7:=hρ.i 7 28;have i8:=hρ.i 8 29;have o3:ρ (.tmp 3)=.int .i64 ((d:Int)+1):=hρ.out 3 rfl;have i13:=hρ.i 13 34;have i10:=hρ.i 10 31;have i11:=hρ.i 11 32;have i12:=hρ.i 12 33;have i14:=hρ.i 14 35;have i5:=hρ.i 5 26;have i9:=hρ.i 9 30;have i15:=hρ.i 15 36;have i16:=hρ.i 16 37;have i0:=hρ.i 0 21;have i17:=hρ.i 17 38;have hc:=hρ.const;have hfn:=hρ.func;clear hρ;rcases jA with rfl|rfl|rfl|rfl|rfl|rfl|rfl|rfl|rfl|rfl|rfl|rfl|rfl|rfl|rfl|rfl|rfl|rfl|rfl
     ·have xJ:18∉L:=fun h=>a40 (dD 18 h) (by decide +kernel)
      have HW:=ai (show cg w0 W bd/\ct [bd] wr W from⟨hW.1,hW.2.2 xJ⟩);clear hW cG dD;have HNQ:=ai xJ;clear xJ;cases ho
      clear hd;unfold bQ;go_simp;exact⟨ct.refl _ _,gnl HW.o HW.o.1 (ct.refl _ _),rfl⟩
     ·have xJ:18∉L:=fun h=>a40 (dD 18 h) (by decide +kernel)
      have HW:=ai (show cg w0 W bd/\ct [bd] wr W from⟨hW.1,hW.2.2 xJ⟩);clear hW cG dD;have HNQ:=ai xJ;clear xJ;cases ho
      clear hd;unfold bQ;go_simp;exact⟨((Tz W).alloc _).cR _,gnl HW.o (HW.o.1.ext ((Tz W).alloc _)) (((Tz W).alloc _).cR [bd]),W.heap.size,rfl,bR W _,by have:=HW.o.1.lt;omega⟩
     ·have xJ:18∉L:=fun h=>a40 (dD 18 h) (by decide +kernel)
      have HW:=ai (show cg w0 W bd/\ct [bd] wr W from⟨hW.1,hW.2.2 xJ⟩);clear hW cG dD;have HNQ:=ai xJ;clear xJ;cases ho
      clear hd;unfold bQ;go_simp;exact⟨ct.refl _ _,gnl HW.o HW.o.1 (ct.refl _ _),rfl⟩
     ·have xJ:18∉L:=fun h=>a40 (dD 18 h) (by decide +kernel)
      have HW:=ai (show cg w0 W bd/\ct [bd] wr W from⟨hW.1,hW.2.2 xJ⟩);clear hW cG dD;have HNQ:=ai xJ;clear xJ;cases ho
      have h2:vs 2=_:=hd ⟨2,.data⟩ (by simp) rfl;rw[h2] at i2;clear hd;unfold bQ;go_simp;refine(dx HW.o.1 3 (by omega) (by omega)).mono ?_;rintro e5 w5 ⟨z,rfl,hz0,hz1,oW,hc5⟩;obtain⟨r,rfl⟩:∃r:Nat,z=r:=⟨z.toNat,by omega⟩
      exact⟨_,rfl,hc5,gnl HW.o oW hc5,r,rfl,by omega⟩
     ·have xJ:18∉L:=fun h=>a40 (dD 18 h) (by decide +kernel)
      have HW:=ai (show cg w0 W bd/\ct [bd] wr W from⟨hW.1,hW.2.2 xJ⟩);clear hW cG dD;have HNQ:=ai xJ;clear xJ;cases ho
      obtain⟨g,h1,hs1⟩:∃(g:Nat),vs 1=.slice (some ⟨g,0,none⟩) 3 3/\(W.heap[g]?=some aCI/\g≠bd):=hd ⟨1,.data⟩ (by simp) rfl;have Ae:=ai hs1;clear hs1;rw[h1] at i1;obtain⟨r,h3,hs3⟩:∃(r:Nat),vs 3=.int .i64 ((r:Nat):Int)/\r<3:=hd ⟨3,.data⟩ (by simp) rfl;have El:=ai hs3;clear hs3;rw[h3] at i3;clear hd;have b0:(0:Int)<=((r:Nat):Int):=by omega
      have b1:((r:Nat):Int)<3:=by have:=El.o;omega
      unfold bQ;go_simp;exact⟨ct.refl _ _,gnl HW.o HW.o.1 (ct.refl _ _),g,r,rfl,Ae.o.1,Ae.o.2,El.o⟩
     ·have xJ:18∉L:=fun h=>a40 (dD 18 h) (by decide +kernel)
      have HW:=ai (show cg w0 W bd/\ct [bd] wr W from⟨hW.1,hW.2.2 xJ⟩);clear hW cG dD;have HNQ:=ai xJ;clear xJ;cases ho
      obtain⟨g,r,h4,hs4⟩:∃(g:Nat) (r:Nat),vs 4=.pointer (some ⟨g,r,none⟩)/\(W.heap[g]?=some aCI/\g≠bd/\r<3):=hd ⟨4,.data⟩ (by simp) rfl;have oY:=ai hs4;clear hs4;rw[h4] at i4;clear hd;obtain⟨s,hs,Yu⟩:=aLo oY.o.1 oY.o.2.2;unfold bQ;go_simp;exact⟨ct.refl _ _,gnl HW.o HW.o.1 (ct.refl _ _),s,rfl,Yu⟩
     ·have xJ:18∉L:=fun h=>a40 (dD 18 h) (by decide +kernel)
      have HW:=ai (show cg w0 W bd/\ct [bd] wr W from⟨hW.1,hW.2.2 xJ⟩);clear hW cG dD;have HNQ:=ai xJ;clear xJ;cases ho
      clear hd;unfold bQ;go_simp;exact⟨ct.refl _ _,gnl HW.o HW.o.1 (ct.refl _ _),rfl⟩
     ·have xJ:18∉L:=fun h=>a40 (dD 18 h) (by decide +kernel)
      have HW:=ai (show cg w0 W bd/\ct [bd] wr W from⟨hW.1,hW.2.2 xJ⟩);clear hW cG dD;have HNQ:=ai xJ;clear xJ;cases ho
      clear hd;obtain⟨g7,gf7⟩:=dO (HW.o.2.blk jm.o (by have:=wP.o;simp;omega));unfold bQ;go_simp;exact⟨ct.refl _ _,gnl HW.o HW.o.1 (ct.refl _ _),rfl⟩
     ·have xJ:18∉L:=fun h=>a40 (dD 18 h) (by decide +kernel)
      have HW:=ai (show cg w0 W bd/\ct [bd] wr W from⟨hW.1,hW.2.2 xJ⟩);clear hW cG dD;have HNQ:=ai xJ;clear xJ;cases ho
      clear hd;unfold bQ;go_simp;exact⟨ct.refl _ _,gnl HW.o HW.o.1 (ct.refl _ _),rfl⟩
     ·have xJ:18∉L:=fun h=>a40 (dD 18 h) (by decide +kernel)
      have HW:=ai (show cg w0 W bd/\ct [bd] wr W from⟨hW.1,hW.2.2 xJ⟩);clear hW cG dD;have HNQ:=ai xJ;clear xJ;cases ho
      have h6:vs 6=_:=hd ⟨6,.data⟩ (by simp) rfl;rw[h6] at i6;have h7:vs 7=_:=hd ⟨7,.data⟩ (by simp) rfl;rw[h7] at i7;have h8:vs 8=_:=hd ⟨8,.data⟩ (by simp) rfl;rw[h8] at i8;clear hd;unfold bQ;go_simp;refine(HDX.o W HW.o.1 HW.o.2).mono ?_;rintro e5 w5 ⟨x,xv,rfl,hm5,Iz,oW,hc5⟩;exact⟨_,rfl,hc5,gnl HW.o oW hc5,x,xv,rfl,hm5,Iz⟩
     ·have xJ:18∉L:=fun h=>a40 (dD 18 h) (by decide +kernel)
      have HW:=ai (show cg w0 W bd/\ct [bd] wr W from⟨hW.1,hW.2.2 xJ⟩);clear hW cG dD;have HNQ:=ai xJ;clear xJ;cases ho
      clear hd;unfold bQ;go_simp;exact⟨ct.refl _ _,gnl HW.o HW.o.1 (ct.refl _ _),rfl⟩
     ·have xJ:18∉L:=fun h=>a40 (dD 18 h) (by decide +kernel)
      have HW:=ai (show cg w0 W bd/\ct [bd] wr W from⟨hW.1,hW.2.2 xJ⟩);clear hW cG dD;have HNQ:=ai xJ;clear xJ;cases ho
      clear hd;obtain⟨g7,gf7⟩:=dO (HW.o.2.blk jm.o (by have:=wP.o;simp;omega));unfold bQ;go_simp;exact⟨ct.refl _ _,gnl HW.o HW.o.1 (ct.refl _ _),rfl⟩
     ·have xJ:18∉L:=fun h=>a40 (dD 18 h) (by decide +kernel)
      have HW:=ai (show cg w0 W bd/\ct [bd] wr W from⟨hW.1,hW.2.2 xJ⟩);clear hW cG dD;have HNQ:=ai xJ;clear xJ;cases ho
      clear hd;unfold bQ;go_simp;exact⟨ct.refl _ _,gnl HW.o HW.o.1 (ct.refl _ _),rfl⟩
     ·have xJ:18∉L:=fun h=>a40 (dD 18 h) (by decide +kernel)
      have HW:=ai (show cg w0 W bd/\ct [bd] wr W from⟨hW.1,hW.2.2 xJ⟩);clear hW cG dD;have HNQ:=ai xJ;clear xJ;cases ho
      clear hd;unfold bQ;go_simp;exact⟨ct.refl _ _,gnl HW.o HW.o.1 (ct.refl _ _),rfl⟩
     ·have xJ:18∉L:=fun h=>a40 (dD 18 h) (by decide +kernel)
      have HW:=ai (show cg w0 W bd/\ct [bd] wr W from⟨hW.1,hW.2.2 xJ⟩);clear hW cG dD;have HNQ:=ai xJ;clear xJ;cases ho
      have Kw:vs 13=_:=hd ⟨13,.data⟩ (by simp) rfl;rw[Kw] at i13;clear hd;have hwd:IntKind.i64.wrap ((d:Nat):Int)=((d:Nat):Int):=IntWalk.i64_in _ (by omega);unfold bQ;go_simp
      try rw[hwd]
      exact⟨ct.refl _ _,gnl HW.o HW.o.1 (ct.refl _ _),rfl⟩
     ·have xJ:18∉L:=fun h=>a40 (dD 18 h) (by decide +kernel)
      have HW:=ai (show cg w0 W bd/\ct [bd] wr W from⟨hW.1,hW.2.2 xJ⟩);clear hW cG dD;have HNQ:=ai xJ;clear xJ;cases ho
      have h10:vs 10=_:=hd ⟨10,.data⟩ (by simp) rfl;rw[h10] at i10;have h11:vs 11=_:=hd ⟨11,.data⟩ (by simp) rfl;rw[h11] at i11;have h12:vs 12=_:=hd ⟨12,.data⟩ (by simp) rfl;rw[h12] at i12;have Lf:vs 14=_:=hd ⟨14,.data⟩ (by simp) rfl;rw[Lf] at i14;clear hd;unfold bQ;go_simp;refine(HIH.o W HW.o.1 HW.o.2).mono ?_;rintro e5 w5 ⟨bl,ba,bn,bc,rfl,q1,q2,q3,q4,q5,q6,oW,hc5⟩;exact⟨_,rfl,hc5,gnl HW.o oW hc5,bl,ba,bn,bc,rfl,q1,q2,q3,q4,q5,q6⟩
     ·have xJ:18∉L:=fun h=>a40 (dD 18 h) (by decide +kernel)
      have HW:=ai (show cg w0 W bd/\ct [bd] wr W from⟨hW.1,hW.2.2 xJ⟩);clear hW cG dD;have HNQ:=ai xJ;clear xJ;cases ho
      obtain⟨s,h5,hs5⟩:∃(s:BA),vs 5=.string s/\gJ s=true:=hd ⟨5,.data⟩ (by simp) rfl;have nA:=ai hs5;clear hs5;rw[h5] at i5;obtain⟨x,xv,h9,VA⟩:∃(x:Ex) (xv:dK),vs 9=dK.val xv/\(oX attrs names 2 x/\dw (mask W N) x (dK.val xv)):=hd ⟨9,.data⟩ (by simp) rfl;have AM:=ai VA;clear VA;rw[h9] at i9;obtain⟨bl,ba,bn,bc,YB,ZU⟩:∃(bl:List Wb) (ba:OA) (bn:Nat) (bc:Nat),vs 15=.slice ba bn bc/\(bn=bl.length/\bn<=bc/\ny ba bc/\gK (mask W N) bl ba/\Rm attrs names bl/\mH bl<=ar6 d):=hd ⟨15,.data⟩ (by simp) rfl;have ajv:=ai ZU;clear ZU;rw[YB] at i15;clear hd;unfold dK.val fN at i9;unfold bQ;go_simp;exact⟨ct.refl _ _,gnl HW.o HW.o.1 (ct.refl _ _),.mk s x bl,⟨s,xv,ba,bn,bc⟩,rfl,⟨rfl,AM.o.2,ajv.o.1,ajv.o.2.1,ajv.o.2.2.1,ajv.o.2.2.2.1⟩,nA.o,AM.o.1,ajv.o.2.2.2.2.1,ajv.o.2.2.2.2.2⟩
     ·have xJ:18∉L:=fun h=>a40 (dD 18 h) (by decide +kernel)
      have HW:=ai (show cg w0 W bd/\ct [bd] wr W from⟨hW.1,hW.2.2 xJ⟩);clear hW cG dD;have HNQ:=ai xJ;clear xJ;cases ho
      obtain⟨x,wv,VC,aze⟩:∃(x:Wb) (wv:Cz),vs 16=.agg #[.string wv.name,.int .i64 wv.x.op,.string wv.x.name,.slice wv.x.aw wv.x.nw wv.x.cw,.int .i64 wv.x.lo,.int .i64 wv.x.hi,.slice wv.x.aa wv.x.na wv.x.ca,.slice wv.au wv.nu wv.cu]/\(Yj (mask W N) x wv/\ab' attrs names d x):=hd ⟨16,.data⟩ (by simp) rfl;have aS2:=ai aze;clear aze;rw[VC] at i16;clear hd;unfold bQ;go_simp;exact⟨((Tz W).alloc _).cR _,gnl HW.o (HW.o.1.ext ((Tz W).alloc _)) (((Tz W).alloc _).cR [bd]),x,wv,W.heap.size,rfl,bR W _,by have:=HW.o.1.lt;omega,aS2.o.1.mono (cP (((Tz W).alloc _).cR [bd]) qY.o),aS2.o.2⟩
     have xJ:18∉L:=cG;have HW:=ai (show cg w0 W bd/\ct [bd] wr W from⟨hW.1,hW.2.2 xJ⟩);clear hW cG dD;have HNQ:=ai xJ;clear xJ;cases ho
     have h0:vs 0=_:=hd ⟨0,.data⟩ (by simp) rfl;rw[h0] at i0;obtain⟨x,wv,g,RD,aDb⟩:∃(x:Wb) (wv:Cz) (g:Nat),vs 17=.slice (some ⟨g,0,none⟩) 1 1/\(W.heap[g]?=some (.cells wv.cells.toArray 53 (0,0))/\g≠bd/\Yj (mask W N) x wv/\ab' attrs names d x):=hd ⟨17,.data⟩ (by simp) rfl;have aju:=ai aDb;clear aDb;rw[RD] at i17;clear hd;have ho0:=cO HOW.o HW.o.2 (fun q hq hm=>by simp only[aG] at hm;have:=(HOW.o.lt q hq).1;have:=wP.o;omega);refine jS aMK _ _ (bw+1) _ l.length _ i0 g 1 1 wv.cells i17 rfl (by simp[Cz.cells,Value.oneCell']) (by omega) (by omega) (by omega) ho0 (fun j hj=>by rw[bX aju.o.1];simp) (by have:=HW.o.2.size;have:=tR.o;omega) ?_;intro g2 cap w2 ho2 hg2 hw2 hlt2;have Kv:ct (rowOf (.slice va l.length vc)) W w2:=eX hg2;have hcb:ct (bd::rowOf (.slice va l.length vc)) W w2:=Kv.weak (fun y hy=>aZ _ hy);have aW4:bd∉rowOf (.slice va l.length vc):=fun hm=>by have:=(HOW.o.lt bd (bV.1 hm)).1;have:=wP.o;omega
     have hkeep:Sub (mask W N) (mask w2 (bd::rowOf (.slice (some ⟨g2,0,none⟩) (l.length+1) cap)++M)):=WQ.o W w2 _ _ HW.o.2 Kv hw2;exact⟨hcb,⟨HW.o.1.cR Kv aW4 (fun q hq=>by have:=(HOW.o.lt q (bV.1 hq)).1;have:=iO.o;omega),(HW.o.2.weak (fun y hy=>by simp at hy;simp[hy])).then hcb,fun h=>a40 (by simp) h⟩,x,wv,_,rfl,ho2,((HWR.o W HW.o.2).mono hkeep).snoc (aju.o.2.2.1.mono hkeep),aju.o.2.2.2⟩
    intro L vs W l7 hW hR;rw[bL (by decide +kernel)];obtain⟨x,wv,v2,h18,aDa⟩:∃(x:Wb) (wv:Cz) (v2:Value),vs 18=v2/\(W.ownsRow (bw+1) 53 8 v2 (l.length+1) (ws.flatMap Cz.cells++wv.cells)/\aaK (mask W (bd::rowOf v2++M)) (l++[x]) (ws++[wv])/\ab' attrs names d x):=hR 18 (by simp) (by omega);have aAK:=ai aDa;clear aDa;refine jx rfl ?_
    change wpList _ _ _ [⟨some 9,.assign (.tmp 39),_,_,_,none⟩] _ _
    simp only[fL,dU,List.range,List.range.loop,aX,bN,h18];go_simp;have hW2:cg w0 W bd/\ct (bd::rowOf (.slice va l.length vc)) wr W:=⟨hW.1,hW.2.1⟩
    clear hR hW l7 h18;have qO:=ai hW2;obtain⟨a2,c2,hv2⟩:=eP aAK.o.1;subst hv2;obtain⟨xn,xc,xu⟩:=x;have HG:=ai aAK.o.2.2;have iP:=ai (show ct [bd] w W from HCG.o.trans hW2.2 (fun y hy=>by
     rcases bz.1 hy with h|h
     ·exact aoX (by simp[h])
     have:=(HOW.o.lt y (bV.1 h)).1;have:=lQ.o;exact a4Z (by omega)))
    have GX:=ai (hW2.2.blk jm.o (fun hy=>by
     rcases bz.1 hy with h|h
     ·have:=wP.o;omega
     have:=(HOW.o.lt bw (bV.1 h)).1;omega))
    clear hW2;go_wp2_with fail;go_roundw
    case rel=>exact⟨l++[.mk xn xc xu],ws++[wv],q - 1,by go_num,by simp;omega,by omega,by have:=aAK.o.1;simpa using this,aAK.o.2.1,Rm.snoc l xn xc xu HWO.o HG.o.1 HG.o.2.1 HG.o.2.2.1,by
     have h1:=HWN.o;have h2:mH xu<=ar6 d:=HG.o.2.2.2;rw[aoQ,bg,List.length_singleton,Nat.add_mul,Nat.one_mul];omega,qO.o.1,iP.o,GX.o⟩
    case measure=>simp[intOf];omega
   have t14:=ah (0<q) hq;obtain⟨a',c',hv,h1,h2,h3⟩:=aBg (M:=M) HOW.o (fun k hk hm=>by have:=(HOW.o.lt k hk).1;have:=HM.o k hm;omega) (HWL.o.mono (cM _ (fun y hy=>by simp[hy])));have HV:=ai hv;have H3:=ai h3;have H2:=ai h2;clear hv h3 h2;go_wp2_with fail;go_ret;rw[HV.o];exact⟨l,a',_,c',rfl,rfl,h1,H2.o,H3.o,HWO.o,aV HWN.o (by simp only[ar6];exact Nat.mul_le_mul_right _ (by omega)),yz.o,HCG.o⟩
def clV (v:fM):Value:=.agg #[ v.kind,.string v.name,v.x.op,.string v.x.name,.slice v.x.aw v.x.nw v.x.cw,v.x.lo,v.x.hi,.slice v.x.aa v.x.na v.x.ca,.slice v.au v.nu v.cu,v.ck]
def Us (c:cK):Prop:=c.cond.fits/\c.cond.iT/\c.cond.size<=1000/\qT c.cond=true/\Nr c.gH/\mH c.gH<=1000
def aGB (kind am:Int):Prop:=(ku kind=0/\am=0)\/(0<ku kind/\1<=am/\am<=ku kind)
def aJG (attrs:List Attr) (names:ZB) (kind:Int) (name:BA) (w0:World) (bd:Nat) (M:ZN) (w:World) (e:Ending) (w':World):Prop:=∃(c:cK) (v:fM),e=.returned (clV v)/\c.kind=kind/\c.name=name/\oX attrs names 3 c.cond/\((kind=3/\Rm attrs names c.gH/\mH c.gH<=6)\/c.gH=[])/\aGB kind c.ck/\Us c/\ij (mask w' M) c v/\cg w0 w' bd/\ct [bd] w w'
theorem cF {W W':World} {K N:ZN} (h:ct K W W') (hk:∀y∈K,y∈N\/W.heap.size<=y):Sub (mask W N) (mask W' N):=cQ fun k hlt hn=>⟨hn,h.block k hlt fun hm=>by
 rcases hk k hm with h1|h1
 ·exact hn h1
 omega⟩
def a0T (attrs:List Attr) (names:ZB) (w0 wb:World) (bd bc br:Nat) (M:ZN) (kind:Int) (name:BA) (x:Ex) (xv:dK) (zr:List Value) (wx:World):Prop:=∃(gH:List Wb) (au:OA) (nu cu:Nat),wx.heap[bc]?=some (.cells #[ kind,.string name,xv.op,.string xv.name,.slice xv.aw xv.nw xv.cw,xv.lo,xv.hi,.slice xv.aa xv.na xv.ca,.slice au nu cu,.int .i64 0] 48 (0,0)) /\
 wx.heap[br]?=some (.cells zr.toArray 48 (0,0))/\nu=gH.length/\nu<=cu/\ny au cu/\gK (mask wx (bd::bc::br::M)) gH au/\dw (mask wx (bd::bc::br::M)) x xv.val/\Rm attrs names gH/\mH gH<=6/\cg w0 wx bd/\ct [bd,bc] wb wx/\(kind=3\/gH=[])
theorem awX {attrs:List Attr} (hat:attrs∈gi) {names:ZB} (zP:∀x∈names,x.size<=1000) {kind:Int} {name:BA} {w0 w w1 wb wx w5 W:World} {bd bc br:Nat} {M:ZN} {x:Ex} {xv:dK} {ul:List Wb} {ua:OA} {un uc:Nat} {am:Int} (hmo:oX attrs names 3 x/\Ud 3 x) (hku:kind=3\/ul=[]) (ham:aGB kind am) (hcw:ct [bd] w w1) (hxb:Ext w1 wb) (hle:bd<w.heap.size/\w.heap.size<=br/\br<bc) (h0:w0.heap.size<=w.heap.size)
  (hq:un=ul.length/\un<=uc/\ny ua uc) (h4:gK (mask wx (bd::bc::br::M)) ul ua) (h6:dw (mask wx (bd::bc::br::M)) x xv.val) (h7:Rm attrs names ul/\mH ul<=6) (h9:ct [bd,bc] wb wx) (oW:cg w0 w5 bd) (hc5:ct [bd] wx w5) (hcs:ct [bc,br] w5 W) :
  aJG attrs names kind name w0 bd M w (.returned (clV ⟨kind,name,xv,ua,un,uc,am⟩)) W:=by
 have s1:Sub (mask wx (bd::bc::br::M)) (mask W M):=((cF hc5 (fun y hy=>by simp at hy;simp[hy])).trans (cF hcs (fun y hy=>by simp at hy;rcases hy with rfl|rfl<;>simp))).trans (cM _ (fun y hy=>by simp[hy]));refine⟨⟨kind,name,x,ul,am⟩,_,rfl,rfl,rfl,hmo.1,hku.imp (fun e=>⟨e,h7⟩) id,ham,⟨hmo.2.fits,hmo.2.iT,aV hmo.2.size (by simp[RE]),hmo.2.bare,Rm.ok hat zP _ h7.1,aV h7.2 (by omega)⟩,⟨rfl,rfl,h6.mono s1,hq.1,hq.2.1,hq.2.2,gK.mono s1 _ _ h4,rfl⟩,?_,?_⟩
 ·exact oW.cR hcs (by simp;omega) (fun y hy=>by simp at hy;omega)
 refine(((hcw.then (hxb.cR [bd])).trans h9 ?_).then hc5).trans hcs ?_
 ·intro y hy;simp at hy;rcases hy with rfl|rfl
  ·exact aoX (by simp)
  exact a4Z (by omega)
 intro y hy;simp at hy;exact a4Z (by omega)
theorem Ge {attrs:List Attr} (hat:attrs∈gi) (names:ZB) (hok:∀a∈attrs,QG a) (hne:attrs≠[]) (hl:attrs.length<=1000) (hnl:names.length<=1000) (zP:∀x∈names,x.size<=1000) {w0 w:World} {bd:Nat} (hd:cg w0 w bd) (sa:OA) (sn sc:Nat) (an:OA) (nn cn:Nat) (M:ZN) (hs:dB (mask w [bd]) attrs (.agg #[.slice sa sn sc])) (hn:fS (mask w [bd]) names an nn cn) (hM:∀y∈M,y<w.heap.size) (kind:Int) (name:BA) :
  Calls Tryz.prog 19 #[.pointer (some ⟨bd,0,none⟩),.agg #[.slice sa sn sc],kind,.string name,.slice an nn cn] w (aJG attrs names kind name w0 bd M w):=by
 have qL:=hd.lt;obtain⟨wa,cN⟩:∃wa,wa=(w.alloc (.cells #[.slice sa sn sc] 24)).alloc (.cells #[.int .i64 0,.string ⟨#[]⟩,.int .i64 0,.string ⟨#[]⟩,.slice none 0 0,.int .i64 0,.int .i64 0,.slice none 0 0,.slice none 0 0,.int .i64 0] 48):=⟨_,rfl⟩
 obtain⟨br,hbr⟩:∃br,br=w.heap.size+1:=⟨_,rfl⟩
 obtain⟨bs,CR⟩:∃bs,bs=w.heap.size:=⟨_,rfl⟩
 have gB:Ext w wa:=by rw[cN];exact((Tz w).alloc _).alloc _
 have dm:=ai gB;have qQ:=ai (show wa.heap[br]?=some (.cells #[.int .i64 0,.string ⟨#[]⟩,.int .i64 0,.string ⟨#[]⟩,.slice none 0 0,.int .i64 0,.int .i64 0,.slice none 0 0,.slice none 0 0,.int .i64 0] 48 (0,0)) by rw[cN,hbr];exact alloc_at (by simp));have wH:=ai (show wa.heap[bs]?=some (.cells #[.slice sa sn sc] 24 (0,0)) by rw[cN,CR];exact((Tz _).alloc _).blk (bR w _));have tR:=ai (show wa.heap.size=w.heap.size+2 by rw[cN];simp);have HD:=ai (hd.ext gB);have HS:=ai hs;have HN:=ai hn;have HM:=ai hM;have jL:=ai (show bd<bs/\bs=w.heap.size/\br=w.heap.size+1 from⟨by omega,CR,hbr⟩);have RU:=ai hok;have iO:=ai (show w0.heap.size<=w.heap.size by obtain⟨_,_,_,_,_,_,_,_,hxw,_⟩:=hd;exact hxw.size);go_enter Tryz.func19,Tryz.ntmps19
 go_upto_region 1 with fail;rw[<-cN,<-hbr,<-CR];clear cN hbr CR gB hd hs hn hM hok qL;obtain⟨b0,bf⟩:=dO wH.o;have HDX:=ai (show Calls Tryz.prog 40 #[.pointer (some ⟨bd,0,none⟩),.agg #[.slice sa sn sc],.slice an nn cn,.int .i64 3] wa (Mv (fun x=>oX attrs names 3 x/\Ud 3 x) w0 bd (bd::br::M) wa) from
  (wW attrs names RU.o hne hl hnl 2 (by omega) HD.o sa sn sc an nn cn (bd::br::M) (HS.o.mono (cP (dm.o.cR [bd]) (by simp))) (HN.o.mono (cP (dm.o.cR [bd]) (by simp))) (fun y hy=>by
   have h1:=tR.o;have h2:=jL.o;simp only[bz] at hy;rcases hy with rfl|rfl|hy
   ·omega
   ·omega
   have:=HM.o y hy;omega)).mono fun e w' h=>h.mono fun x hx=>⟨hx,yC hat zP 3 x hx⟩)
 go_wp2_with fail;refine HDX.o.mono ?_;rintro e w1 ⟨x,xv,rfl,hmo,hix,hd1,hc1⟩;have HMO:=ai hmo;have tF:=ai hix;have tU:=ai hd1;have mE:=ai hc1;clear hmo hix hd1 hc1 b0 bf HDX HD;unfold dK.val fN;go_upto_region 2 with fail;obtain⟨bc,hbc⟩:∃bc,bc=w1.heap.size:=⟨_,rfl⟩
 obtain⟨wb,iV⟩:∃wb,wb=w1.alloc (.cells #[ kind,.string name,xv.op,.string xv.name,.slice xv.aw xv.nw xv.cw,xv.lo,xv.hi,.slice xv.aa xv.na xv.ca,.slice none 0 0,.int .i64 0] 48):=⟨_,rfl⟩
 have hxb:Ext w1 wb:=by rw[iV];exact(Tz _).alloc _
 have jK:=ai hxb;have Af:=ai (show wb.heap[bc]?=some (.cells #[ kind,.string name,xv.op,.string xv.name,.slice xv.aw xv.nw xv.cw,xv.lo,xv.hi,.slice xv.aa xv.na xv.ca,.slice none 0 0,.int .i64 0] 48 (0,0)) by rw[iV,hbc];exact bR w1 _);have h1s:=mE.o.size;have HLE:=ai (show bd<bs/\bs<br/\br<bc/\bc<wb.heap.size by
  have:=jL.o;have:=tR.o;rw[iV,hbc];simp;omega)
 have adU:=ai (hxb.blk (mE.o.blk qQ.o (by have:=HLE.o;simp;omega)));have a0b:=ai (hxb.blk (mE.o.blk wH.o (by have:=HLE.o;simp;omega)));have aOj:=ai (show dw (mask wb (bd::bc::br::M)) x xv.val from tF.o.mono (by
  rw[iV];refine(cQ fun k hk hn=>⟨?_,Below.heap_alloc w1 _ k hk⟩);simp only[bz,not_or] at hn ⊢;exact⟨hn.1,by omega,hn.2.1,hn.2.2⟩))
 rw[<-iV,<-hbc];have nS:=ai ((dm.o.cR [bd]).then mE.o);have HDB:=ai (tU.o.ext hxb);clear iV hbc hxb h1s qQ wH tF tU
 go_upto_if 21 with fail
 go_cut [] (a0T attrs names w0 wb bd bc br M kind name x xv [.int .i64 0,.string ⟨#[]⟩,.int .i64 0,.string ⟨#[]⟩,.slice none 0 0,.int .i64 0,.int .i64 0,.slice none 0 0,.slice none 0 0,.int .i64 0])
 case first =>
  by_cases h3:kind=3
  ·have t3:(kind==3)=true:=by simp[h3]
   have HK3:=ai h3;clear h3;obtain⟨b0,bf⟩:=dO a0b.o;have HBK:=ai (show Calls Tryz.prog 41 #[.pointer (some ⟨bd,0,none⟩),.agg #[.slice sa sn sc],.slice an nn cn,.int .i64 2] wb (awp attrs names 2 w0 bd (bd::bc::br::M) wb) from
    ar' names RU.o hne hl hnl 2 (by omega) HDB.o sa sn sc an nn cn (bd::bc::br::M) (HS.o.mono (cP (nS.o.then (jK.o.cR [bd])) (by simp))) (HN.o.mono (cP (nS.o.then (jK.o.cR [bd])) (by simp))) (fun y hy=>by
     have h1:=tR.o;have h2:=jL.o;have h3:=HLE.o;simp only[bz] at hy;rcases hy with rfl|rfl|rfl|hy
     ·omega
     ·omega
     ·omega
     have:=HM.o y hy;omega))
   go_wp2_with fail;refine HBK.o.mono ?_;rintro e w2 ⟨ul,ua,un,uc,rfl,q1,q2,q3,q4,q5,q6,qd,hc2⟩;have hb2:=hc2.blk Af.o (by have:=HLE.o;simp;omega);obtain⟨c0,c1,c2,c3,c4,c5,c6,c7,c8,c9,cf⟩:=rB hb2;have fY:=ai hb2;have jI:=ai (hc2.blk adU.o (by have:=HLE.o;simp;omega));have HQ:=ai (show un=ul.length/\un<=uc/\ny ua uc/\gK (mask w2 (bd::bc::br::M)) ul ua/\Rm attrs names ul/\mH ul<=6 from⟨q1,q2,q3,q4,q5,q6⟩);have pY:=ai qd;have iP:=ai hc2;clear q1 q2 q3 q4 q5 q6 qd hc2 hb2 b0 bf HBK;go_wp2_with fail
   go_meet
   case rel =>
    have hcs:ct [bd,bc] w2 (w2.setCell ⟨bc,8,none⟩ (.slice ua un uc)):=(ct.refl _ _).setCell (aoX (by simp)) _;have aQ4:ct [bc] w2 (w2.setCell ⟨bc,8,none⟩ (.slice ua un uc)):=(ct.refl _ _).setCell (aoX (by simp)) _;obtain⟨q1,q2,q3,q4,q5,q6⟩:=HQ.o;refine⟨ul,ua,un,uc,?_,?_,q1,q2,q3,?_,?_,q5,q6,?_,?_,aoX HK3.o⟩
    ·rw[aI w2 bc 8 _ _ (.slice ua un uc) fY.o];simp
    ·exact aQ4.blk jI.o (by have:=HLE.o;simp;omega)
    ·exact gK.mono (cF hcs (fun y hy=>by simp at hy;rcases hy with rfl|rfl<;>simp)) _ _ q4
    ·exact(aOj.o.mono (cP iP.o (by simp))).mono (cF hcs (fun y hy=>by simp at hy;rcases hy with rfl|rfl<;>simp))
    ·exact pY.o.cR aQ4 (by have:=HLE.o;simp;omega) (fun y hy=>by simp only[aG] at hy;have:=iO.o;have:=jL.o;have:=HLE.o;omega)
    exact(iP.o.weak (fun y hy=>by simp at hy;simp[hy])).then hcs
  have t3:(kind==3)=false:=by simp[h3]
  clear h3;go_wp2_with fail
  go_meet
  case rel=>exact⟨[],none,0,0,Af.o,adU.o,rfl,aU _,aoX ⟨rfl,rfl⟩,by unfold gK;trivial,aOj.o,by unfold Rm;trivial,by simp[mH],HDB.o,ct.refl _ _,a4Z rfl⟩
 case rest =>
  obtain⟨ul,ua,un,uc,hb,hr,q1,q2,q3,q4,q5,q6,q7,q8,q9,qA⟩:=hcut;obtain⟨wx,rfl⟩:∃wx:World,wx=wc:=⟨_,rfl⟩
  obtain⟨c0,c1,c2,c3,c4,c5,c6,c7,c8,c9,cf⟩:=rB hb;obtain⟨r0,r1,r2,r3,r4,r5,r6,r7,r8,r9,rf⟩:=rB hr;have hbr:br≠bc:=by have:=HLE.o;omega
  have HB:=ai hb;have HR:=ai hr;have HQ:=ai (show un=ul.length/\un<=uc/\ny ua uc from⟨q1,q2,q3⟩);have H4:=ai q4;have H67:=ai (show dw (mask wx (bd::bc::br::M)) x xv.val/\Rm attrs names ul/\mH ul<=6 from⟨q5,q6,q7⟩);have H8:=ai q8;have H9:=ai q9;have HA:=ai qA;clear hb hr q1 q2 q3 q4 q5 q6 q7 q8 q9 qA Af adU aOj HDB;go_wp2_with fail;refine(acH kind wx).mono ?_;rintro e w4 ⟨rfl,rfl⟩;have hmo:0<=ku kind/\ku kind<=1073741824:=by
   unfold ku;split
   ·omega
   split<;>omega
  obtain⟨m,hm⟩:∃m,m=ku kind:=⟨_,rfl⟩
  rw[<-hm] at hmo ⊢;have II:=ai hm;obtain⟨hm0,hm1⟩:=hmo;clear hm;by_cases hmp:0<m
  ·have tm:=ag (0<m) hmp;go_wp2_with fail;refine(JL H8.o (m - 1) (by omega) (by omega)).mono ?_;rintro e w5 ⟨z,rfl,hz0,hz1,oW,hc5⟩;have hb5:=hc5.blk HB.o (by have:=HLE.o;simp;omega);have hr5:=hc5.blk HR.o (by have:=HLE.o;simp;omega);clear c0 c1 c2 c3 c4 c5 c6 c7 c8 c9 cf r0 r1 r2 r3 r4 r5 r6 r7 r8 r9 rf;obtain⟨c0,c1,c2,c3,c4,c5,c6,c7,c8,c9,cf⟩:=rB hb5;obtain⟨r0,r1,r2,r3,r4,r5,r6,r7,r8,r9,rf⟩:=rB hr5;have uo:=ai hb5;have CU:=ai hr5;have uV:=ai oW;have pU:=ai hc5;clear hb5 hr5 oW hc5;go_wp2_with fail;refine a5a (v:=clV ⟨kind,name,xv,ua,un,uc,1+z⟩) (by simp[results,Tryz.results19,go_sem,clV,r0,r1,r2,r3,r4,r5,r6,r7,r8,r9]) rfl ?_;refine awX hat zP HMO.o HA.o (a4Z (by rw[<-II.o];omega)) nS.o jK.o (by have:=HLE.o;have:=jL.o;omega) iO.o HQ.o H4.o H67.o.1 H67.o.2 H9.o uV.o pU.o ?_
   repeat (with_reducible (refine ct.setCell ?_ (aoX (by simp)) _))
   exact ct.refl _ _
  have tm:=ah (0<m) hmp;go_wp2_with fail;refine a5a (v:=clV ⟨kind,name,xv,ua,un,uc,0⟩) (by simp[results,Tryz.results19,go_sem,clV,r0,r1,r2,r3,r4,r5,r6,r7,r8,r9]) rfl ?_;refine awX hat zP HMO.o HA.o (aoX ⟨by rw[<-II.o];omega,rfl⟩) nS.o jK.o (by have:=HLE.o;have:=jL.o;omega) iO.o HQ.o H4.o H67.o.1 H67.o.2 H9.o H8.o (ct.refl _ _) ?_
  repeat (with_reducible (refine ct.setCell ?_ (aoX (by simp)) _))
  exact ct.refl _ _
end Go.Proofs.YtefjomofjejklaaGreatDoor
