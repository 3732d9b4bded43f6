/- Joined. -/
import Derived.Test.YtefjomofjejklaaGreatDoorDi11
namespace Go.Proofs.YtefjomofjejklaaGreatDoor
set_option maxRecDepth 100000
set_option maxHeartbeats 32000000
open Go.RowKit Go.Maps
theorem avj {f:Nat->Int} {n:Nat} (h:(kZ f n).2=0):∀j,j<n->f j=0:=by
 induction n with
 | zero=>intro j hj;omega
 | succ n ih =>
  intro j hj;rw[kZ] at h;by_cases h1:(kZ f n).2≠0
  ·rw[bM h1] at h;exact a40 h h1
  rw[bL h1] at h;by_cases h2:f n≠0
  ·rw[bM h2] at h;exact a40 h h2
  by_cases e:j=n
  ·subst e;simpa using h2
  exact ih (by simpa using h1) j (by omega)
theorem SM {s:List Attr} (h:dy s=0) {i:Nat} (hi:i<s.length):iq s[i]=0:=by
 unfold dy at h;by_cases h0:s.length=0
 ·rw[bM h0] at h;cases h
 rw[bL h0] at h;by_cases h6:6<s.length
 ·rw[bM h6] at h;cases h
 rw[bL h6] at h;have:=avj h i hi;unfold rY at this;rw[yI hi] at this;split at this
 ·cases this
 split at this
 ·cases this
 exact this
theorem alv {a:Attr} (h:iq a=0) (hk:a.kind=1\/a.kind=3):a.lo=0/\a.hi=0:=by
 unfold iq at h;rcases hk with hk|hk
 ·rw[bM hk] at h;split at h
  ·cases h
  rename_i h1
  omega
 rw[bL (by omega),bL (by omega),bM hk] at h;split at h
 ·cases h
 rename_i h1
 omega
theorem aEw {s:List Attr} {l:List cK} (hs:dy s=0) {e:Ex} (he:zK e):GP s l e.op e.name e.words e.lo e.hi=fB s l e.op e.name e.words e.lo e.hi:=by
 have key:∀(ws vs:ZB),(ws.all fun x=>decide (x∈vs))=ws.all fun x=>vs.any fun y=>decide (y=x):=by
  intro ws vs
  congr 1
  funext x
  rw[bH];simp
 rcases he with ⟨h1,h2,h3,h4,h5,h6⟩|⟨h1,h2,h3,h4,h5,h6⟩|⟨h1,h2,h3,h4,h5,h6⟩|⟨h1,h2,h3,h4,h5,h6⟩|⟨h1,h2,h3,h4,h5,h6⟩|⟨h1,h2,h3,h4,h5,h6⟩|⟨h1,h2,h3,h4,h5,h6⟩
 ·rw[h1];rfl
 ·rw[h1];rfl
 ·rw[h1,h3,h4,h5];cases ho:eO s e.name with
  | none =>
   rw[Qy (by decide) ho];simp[fB,ho]
  | some i =>
   have hi:=JD ho;have e5:fB s l 3 e.name [] 0 0=if s[i].kind≠3 then 9 else 0:=by
    unfold fB;rw[bM rfl,ho];simp only[yI hi]
   rw[Qx (by decide) ho hi,e5,show Dx 3=3 from rfl];by_cases hk:s[i].kind=3
   ·have:=alv (SM hs hi) (a4Z hk);rw[this.1,this.2];simp[hk]
   rw[bM hk,bM hk]
 ·rw[h1,h4,h5];cases ho:eO s e.name with
  | none =>
   rw[Qy (by decide) ho];simp[fB,ho]
  | some i =>
   have hi:=JD ho;have e5:fB s l 4 e.name e.words 0 0=if s[i].kind≠1 then 9 else if (e.words.all fun x=>s[i].words.any fun y=>decide (y=x))=false then 7 else 0:=by
    unfold fB;rw[bL (show ¬(4:Int)=3 by decide),bM rfl,ho];simp only[yI hi]
   rw[Qx (by decide) ho hi,e5,show Dx 4=1 from rfl];by_cases hk:s[i].kind=1
   ·have:=alv (SM hs hi) (aoX hk);rw[this.1,this.2,key];simp[hk]
   rw[bM hk,bM hk]
 ·rw[h1,h3];cases ho:eO s e.name with
  | none =>
   rw[Qy (by decide) ho];simp[fB,ho]
  | some i =>
   have hi:=JD ho;have e5:fB s l 5 e.name [] e.lo e.hi=if s[i].kind≠2 then 9 else if e.lo<s[i].lo\/s[i].hi<e.hi then 1 else 0:=by
    unfold fB;rw[bL (show ¬(5:Int)=3 by decide),bL (show ¬(5:Int)=4 by decide),bM rfl,ho];simp only[yI hi]
   rw[Qx (by decide) ho hi,e5,show Dx 5=2 from rfl];simp
 ·rw[h1];rfl
 rcases h1 with h1|h1<;>(rw[h1];rfl)
theorem anT (s:List Attr) (hse:dy s=0) (l:List cK) (hf:∀x∈s,x.fits) (hsl:s.length<=1000000000000000) (bm nm:Nat) (m:Nat):∀(e:Ex) (ev sv:Value) (w:World),e.size<=m->m<=1000000000000000->e.iT->e.fits->gq e->dB w s sv->xS w l bm nm->dw w e ev ->
  Calls Tryz.prog 139 #[sv,.map (some bm),ev] w (cz (.int .i64 (dr s l e)) w):=by
 induction m with
 | zero=>intro e ev sv w h;have:=size_pos e;omega
 | succ m ih =>
  intro e ev sv w hm Re uP hfit hok hs hd he;obtain⟨sa,sn,sc,rfl,B6⟩:=hs.slice;obtain⟨hfw,qx⟩:=rI uP;obtain⟨hen,hft⟩:=Mf hfit;have HN0:=ai (fun (W:World) (h1:dB W s (.agg #[.slice sa sn sc])) (h2:xS W l bm nm) (h3:dw W e ev)=>arU s (.agg #[.slice sa sn sc]) l bm nm e ev W h1 hf hsl h2 h3 hfw hen);rw[aEw hse (iR hok).1] at HN0;obtain⟨aw,nw,cw,aa,na,ca,rfl,hw,hna,hca,ha,hx⟩:=he.parts;have hS:e.size=1+sizes e.args:=e.size_eq;have hla:=eR e.args;have Ks:na<=1000000000000000:=by omega
  have hsz:sizes e.args<=m:=by omega
  have HE:=ai he;have HS:=ai hs;have HD:=ai hd;have HX:=ai hx;have kJ:=ai hna;have HFT:=ai hft;have AD:=ai qx;have zm:=ai (iR hok).2;have Gk:=ai (zL s l e);have IH:=ai ih;clear hs hd he hx hna hw hca ha hS hla B6 hfw qx uP ih hf hm hft hfit hok;unfold fN at *;obtain⟨wa,cN⟩:∃wa,wa=(w.alloc (.cells #[.slice sa sn sc] 24)).alloc (.cells #[.int .i64 e.op,.string e.name,.slice aw nw cw,.int .i64 e.lo,.int .i64 e.hi,.slice aa na ca] 45):=⟨_,rfl⟩
  have gB:Ext w wa:=by rw[cN];exact((Tz _).alloc _).alloc _
  have hb0:wa.heap[w.heap.size]?=some (.cells #[.slice sa sn sc] 24 (0,0)):=by rw[cN];exact bU (bR w _)
  have hb1:wa.heap[w.heap.size+1]?=some (.cells #[.int .i64 e.op,.string e.name,.slice aw nw cw,.int .i64 e.lo,.int .i64 e.hi,.slice aa na ca] 45 (0,0)):=by rw[cN];exact cT (by simp)
  have dm:=ai gB;have iO:=ai hb0;have gG:=ai hb1;obtain⟨a0,af⟩:=dO hb0;obtain⟨b0,b1,b2,b3,b4,b5,bf⟩:=cX hb1;have kI:=bS hb1;have zu:=ai (HN0.o wa (HS.o.ext gB) (HD.o.ext gB) (HE.o.ext gB));clear gB hb0 hb1 HN0;obtain⟨N,hN⟩:∃N,N=fB s l e.op e.name e.words e.lo e.hi:=⟨_,rfl⟩
  rw[<-hN] at zu Gk;obtain⟨E,hE⟩:∃E,E=dr s l e:=⟨_,rfl⟩
  rw[<-hE] at Gk ⊢;clear hN hE;go_enter Tryz.func139,Tryz.ntmps139
  go_upto_region 1 with fail
  rw[<-cN];clear cN;go_wp2_with fail
  refine zu.o.mono ?_;rintro r w3 ⟨rfl,hx3⟩;have dS:=ai (dm.o.trans hx3);have wQ:=ai (hx3.blk iO.o);have nW:=ai (hx3.blk gG.o);clear hx3 a0 af b0 b1 b2 b3 b4 b5 bf kI;by_cases hz:N=0
  case neg =>
   have tz:(N != 0)=true:=by simp[hz]
   have HQ:=ai (show E=N by rw[Gk.o,bM hz]);clear hz;go_wp2_with fail
   go_ret;exact cD (by rw[HQ.o]) dS.o
  have tz:(N != 0)=false:=by simp[hz]
  have HQ:=ai (show E=dZ s l e.args by rw[Gk.o,bL (by simpa using hz)]);clear hz Gk;obtain⟨b0,b1,b2,b3,b4,b5,bf⟩:=cX nW.o;have kI:=bS nW.o;go_wp2_with fail
  clear b0 b1 b2 b3 b4 b5 bf kI;go_loopw [21] (fun t wr=>∃k:Nat,t=.int .i64 k/\k<=na/\(∀j (h:j<e.args.length),j<k->dr s l e.args[j]=0)/\wr.heap[w.heap.size]?=some (.cells #[.slice sa sn sc] 24 (0,0))/\Ext w wr) (fun t _=>na - (intOf t).toNat)
  case atStart=>exact⟨0,rfl,by omega,fun j _ h=>by omega,wQ.o,dS.o⟩
  case round =>
   obtain⟨k,rfl,hk,hall,j6,lM⟩:=hrel;have mK:=ai hall;have jm:=ai j6;have gZ:=ai lM;obtain⟨a0,af⟩:=dO j6;have lU:=bS j6;clear hall j6 lM;by_cases hkn:k<na
   ·have hka:k<e.args.length:=by have:=kJ.o;omega
    have t1:=ag ((k:Int)<(na:Int));obtain⟨b,off,rfl,nJ,nD,nG,nK,nE,nI,h0,h1,h2,h3,h4,h5,h6⟩:=eU.at e.args _ (eU.ext gZ.o e.args _ HX.o) k hka;have hs1:=eD e.args k hka;have hs2:=dX e.args (k+1);have uk:e.args[k].size<=m:=by omega
    have DK:=eB h0;simp only at DK;have HC:=ai (fun (W:World) (hW:Ext wr W)=>IH.o e.args[k] _ (.agg #[.slice sa sn sc]) W uk (by omega) (Fo _ AD.o k hka) (HFT.o _ (aD hka)) (zm.o _ (aD hka)) (HS.o.ext (gZ.o.trans hW)) (HD.o.ext (gZ.o.trans hW)) (h6.ext hW));unfold fN at HC;clear h6 hs1 hs2;obtain⟨E1,xK⟩:∃E1,E1=dr s l e.args[k]:=⟨_,rfl⟩
    rw[<-xK] at HC;have ue:=ai xK;clear xK;go_wp2_with fail
    refine(HC.o _ ((Tz wr).alloc _)).mono ?_;rintro r w5 ⟨rfl,dh⟩;have gW:=ai ((gZ.o.alloc _).trans dh);have uo:=ai (dh.blk (bU jm.o));clear dh h0 h1 h2 h3 h4 h5 a0 af lU HC;by_cases hz1:E1=0
    ·have tz1:(E1 != 0)=false:=by simp[hz1]
     have HZ1:=ai (ue.o.symm.trans hz1);clear hz1;go_wp2_with fail
     go_roundw
     case rel =>
      refine⟨k+1,by go_num,by omega,fun j hj hjk=>?_,uo.o,gW.o⟩;by_cases e0:j=k
      ·subst e0;exact HZ1.o
      exact mK.o j hj (by omega)
     case measure=>simp[intOf];omega
    have tz1:(E1 != 0)=true:=by simp[hz1]
    have HR:=ai (show E=E1 by rw[HQ.o,FZ e.args k hka (by rw[<-ue.o];exact hz1) (fun j hj=>mK.o j (by omega) hj),ue.o]);clear hz1;go_wp2_with fail
    go_ret;exact cD (by rw[HR.o]) gW.o
   have t1:=ah ((k:Int)<(na:Int));have HR:=ai (show E=0 by rw[HQ.o,tK e.args fun j hj=>mK.o j hj (by have:=kJ.o;omega)]);go_wp2_with fail
   go_ret;exact cD (by rw[HR.o]) gZ.o
def zV (s:List Attr) (l:List cK) (e:Ex):Int:=if eW e=false then 5 else dr s l e
def qu (s:List Attr) (l:List cK) (e:Ex):Int:=if dy s≠0 then dy s else zV s l e
theorem afr {e:Ex} (h:eW e=true):gq e:=by
 rw[eW,aF,aF] at h;exact(Ke e).1 h.2
theorem Mq (s:List Attr) (hse:dy s=0) (l:List cK) (hf:∀x∈s,x.fits) (hsl:s.length<=1000000000000000) (bm nm:Nat) (e:Ex) (ev sv:Value) (w:World) (uP:e.iT) (hfit:e.fits) (ho:dQ w) (hs:dB w s sv) (hd:xS w l bm nm) (he:dw w e ev) :
  Calls Tryz.prog 108 #[sv,.map (some bm),ev] w (cz (.int .i64 (zV s l e)) w):=by
 obtain⟨sa,sn,sc,rfl,B6⟩:=hs.slice;have HV:=ai (fun (W:World) (hW:Ext w W)=>rC e ev W (he.ext hW) (ho.ext hW) hfit);have HNC:=ai (fun (W:World) (hW:Ext w W) (hz:eW e=true)=>anT s hse l hf hsl bm nm e.size e ev (.agg #[.slice sa sn sc]) W (aU _) (by
  rw[eW,aF,aF] at hz;have h2:=hz.1.2;simp only[aH] at h2;unfold ep at h2;omega) uP hfit (afr hz) (hs.ext hW) (hd.ext hW) (he.ext hW))
 rw[zx] at HV;obtain⟨aw,nw,cw,aa,na,ca,rfl,-⟩:=he.parts;obtain⟨R,hR⟩:∃R,R=zV s l e:=⟨_,rfl⟩
 rw[<-hR];have HR:=ai (show R=if eW e=false then 5 else dr s l e from hR);clear hf uP hfit ho hs hd he hR B6;unfold fN at *;obtain⟨wa,cN⟩:∃wa,wa=(w.alloc (.cells #[.slice sa sn sc] 24)).alloc (.cells #[.int .i64 e.op,.string e.name,.slice aw nw cw,.int .i64 e.lo,.int .i64 e.hi,.slice aa na ca] 45):=⟨_,rfl⟩
 have gB:Ext w wa:=by rw[cN];exact((Tz _).alloc _).alloc _
 have hb0:wa.heap[w.heap.size]?=some (.cells #[.slice sa sn sc] 24 (0,0)):=by rw[cN];exact bU (bR w _)
 have hb1:wa.heap[w.heap.size+1]?=some (.cells #[.int .i64 e.op,.string e.name,.slice aw nw cw,.int .i64 e.lo,.int .i64 e.hi,.slice aa na ca] 45 (0,0)):=by rw[cN];exact cT (by simp)
 have dm:=ai gB;have iO:=ai hb0;have gG:=ai hb1;obtain⟨b0,b1,b2,b3,b4,b5,bf⟩:=cX hb1;have kI:=bS hb1;have VG:=ai (HV.o wa gB);clear gB hb0 hb1 HV;obtain⟨B,hB⟩:∃B,B=eW e:=⟨_,rfl⟩
 rw[<-hB] at VG HR;have jL:=ai hB;clear hB;go_enter Tryz.func108,Tryz.ntmps108
 go_upto_region 1 with fail
 rw[<-cN];clear cN;go_wp2_with fail
 refine VG.o.mono ?_;rintro r w3 ⟨rfl,hx3⟩;have dS:=ai (dm.o.trans hx3);have wQ:=ai (hx3.blk iO.o);have nW:=ai (hx3.blk gG.o);clear hx3 b0 b1 b2 b3 b4 b5 bf kI;cases B
 ·have HF:=ai (show R=5 by rw[HR.o];rfl);go_wp2_with fail
  go_ret;exact cD (by rw[HF.o]) dS.o
 have HF:=ai (show R=dr s l e by rw[HR.o];rfl);obtain⟨b0,b1,b2,b3,b4,b5,bf⟩:=cX nW.o;obtain⟨a0,af⟩:=dO wQ.o;have kI:=bS nW.o;go_wp2_with fail
 refine(HNC.o w3 dS.o jL.o.symm).mono ?_;rintro r w5 ⟨rfl,dh⟩;have gW:=ai (dS.o.trans dh);clear dh;go_wp2_with fail
 go_ret;exact cD (by rw[HF.o]) gW.o
open Go.RowKit
def aCI:Obj:=.cells #[.string ⟨#[119]⟩,.string ⟨#[120]⟩,.string ⟨#[121]⟩] 9 (0,0)
def ab' (attrs:List Attr) (names:ZB) (d:Nat) (x:Wb):Prop:=gJ x.name=true/\oX attrs names 2 x.cond/\Rm attrs names x.gH/\mH x.gH<=ar6 d
theorem aLo {W:World} {g r:Nat} (h:W.heap[g]?=some aCI) (hr:r<3):∃s:BA,W.cell? ⟨g,r,none⟩=some (.string s)/\gJ s=true:=by
 rcases(by omega:r=0\/r=1\/r=2) with rfl|rfl|rfl
 ·exact⟨_,bX h 0,by decide +kernel⟩
 ·exact⟨_,bX h 1,by decide +kernel⟩
 exact⟨_,bX h 2,by decide +kernel⟩
theorem cg.lt {w0 w:World} {bd:Nat} (h:cg w0 w bd):bd<w.heap.size:=by obtain⟨_,_,_,_,hb,_⟩:=h;exact bS hb
def aXw (attrs:List Attr) (names:ZB) (d bd bw:Nat) (M N:ZN) (l:List Wb) (ws:List Cz) (sa:OA) (sn sc:Nat) (an:OA) (nn cn:Nat) (va:OA) (vc:Nat):Nat->Value->World->Prop
 | 0,u,_=>u=.slice va l.length vc
 | 1,u,W=>∃(g:Nat),u=.slice (some ⟨g,0,none⟩) 3 3/\(W.heap[g]?=some aCI/\g≠bd)
 | 2,u,_=>u=.pointer (some ⟨bd,0,none⟩)
 | 3,u,_=>∃(r:Nat),u=.int .i64 ((r:Nat):Int)/\r<3
 | 4,u,W=>∃(g:Nat) (r:Nat),u=.pointer (some ⟨g,r,none⟩)/\(W.heap[g]?=some aCI/\g≠bd/\r<3)
 | 5,u,_=>∃(s:BA),u=.string s/\gJ s=true
 | 6,u,_=>u=.pointer (some ⟨bd,0,none⟩)
 | 7,u,_=>u=.agg #[.slice sa sn sc]
 | 8,u,_=>u=.slice an nn cn
 | 9,u,W=>∃(x:Ex) (xv:dK),u=dK.val xv/\(oX attrs names 2 x/\dw (mask W N) x (dK.val xv))
 | 10,u,_=>u=.pointer (some ⟨bd,0,none⟩)
 | 11,u,_=>u=.agg #[.slice sa sn sc]
 | 12,u,_=>u=.slice an nn cn
 | 13,u,_=>u=.int .i64 ((d:Int)+1)
 | 14,u,_=>u=.int .i64 d
 | 15,u,W=>∃(bl:List Wb) (ba:OA) (bn:Nat) (bc:Nat),u=.slice ba bn bc/\(bn=bl.length/\bn<=bc/\ny ba bc/\gK (mask W N) bl ba/\Rm attrs names bl/\mH bl<=ar6 d)
 | 16,u,W=>∃(x:Wb) (wv:Cz),u=.agg #[.string wv.name,.int .i64 wv.x.op,.string wv.x.name,.slice wv.x.aw wv.x.nw wv.x.cw,.int .i64 wv.x.lo,.int .i64 wv.x.hi,.slice wv.x.aa wv.x.na wv.x.ca,.slice wv.au wv.nu wv.cu]/\(Yj (mask W N) x wv/\ab' attrs names d x)
 | 17,u,W=>∃(x:Wb) (wv:Cz) (g:Nat),u=.slice (some ⟨g,0,none⟩) 1 1/\(W.heap[g]?=some (.cells wv.cells.toArray 53 (0,0))/\g≠bd/\Yj (mask W N) x wv/\ab' attrs names d x)
 | _,u,W=>∃(x:Wb) (wv:Cz) (v2:Value),u=v2/\(W.ownsRow (bw+1) 53 8 v2 (l.length+1) (ws.flatMap Cz.cells++wv.cells)/\aaK (mask W (bd::rowOf v2++M)) (l++[x]) (ws++[wv])/\ab' attrs names d x)
theorem ar' {attrs:List Attr} (names:ZB) (hok:∀a∈attrs,QG a) (hne:attrs≠[]) (hl:attrs.length<=1000) (hnl:names.length<=1000):∀(d:Nat),d<=10->∀{w0 w:World} {bd:Nat} (_:cg w0 w bd) (sa:OA) (sn sc:Nat) (an:OA) (nn cn:Nat) (M:ZN) (_:dB (mask w [bd]) attrs (.agg #[.slice sa sn sc])) (_:fS (mask w [bd]) names an nn cn) (_:∀y∈M,y<w.heap.size),
  Calls Tryz.prog 41 #[.pointer (some ⟨bd,0,none⟩),.agg #[.slice sa sn sc],.slice an nn cn,.int .i64 (d:Nat)] w (awp attrs names d w0 bd M w):=by
 intro d;induction d with
 | zero =>
  intro _ w0 w bd hd sa sn sc an nn cn M hs hn hM;have HD:=ai (hd.ext ((Tz w).alloc (.cells #[.slice sa sn sc] 24)));clear hd hs hn;go_enter Tryz.func41,Tryz.ntmps41
  go_wp2_with fail
  refine(dx HD.o 3 (by omega) (by omega)).mono ?_;rintro e w1 ⟨z,rfl,hz0,hz1,hd1,hc1⟩;have tU:=ai hd1;have mE:=ai ((((Tz w).alloc (.cells #[.slice sa sn sc] 24)).cR [bd]).then hc1);clear hd1 hc1;go_wp2_with fail
  go_loopw [9,10] (fun v k wr=>v=.slice none 0 0/\k=.int .i64 z/\wr=w1) (fun _ k _=>(intOf k).toNat)
  case atStart=>exact⟨rfl,rfl,rfl⟩
  case round =>
   obtain⟨rfl,rfl,rfl⟩:=hrel;by_cases hq:0<z
   ·have t14:=ag (0<z) hq;go_wp2_with fail
    go_ret;exact⟨[],none,0,0,rfl,rfl,aU _,aoX ⟨rfl,rfl⟩,by unfold gK;trivial,by unfold Rm;trivial,by simp[mH],tU.o,mE.o⟩
   have t14:=ah (0<z) hq;go_wp2_with fail
   go_ret;exact⟨[],none,0,0,rfl,rfl,aU _,aoX ⟨rfl,rfl⟩,by unfold gK;trivial,by unfold Rm;trivial,by simp[mH],tU.o,mE.o⟩
 | succ d ih =>
  intro azl w0 w bd hd sa sn sc an nn cn M hs hn hM;have qL:=hd.lt;have hb0:w0.heap.size<=bd:=by obtain⟨_,_,_,_,_,_,_,_,_,h⟩:=hd;exact h
  have iO:=ai (show w0.heap.size<=w.heap.size+1 by omega);have wP:=ai qL;have HD:=ai (hd.ext ((Tz w).alloc (.cells #[.slice sa sn sc] 24)));have HS:=ai hs;have HN:=ai hn;have HM:=ai hM;have IH:=ai @ih;have RU:=ai hok;have gG:=ai (bR w (.cells #[.slice sa sn sc] 24));clear hd hs hn hM ih hok qL hb0;go_enter Tryz.func41,Tryz.ntmps41
  go_wp2_with fail
  refine(dx HD.o 3 (by omega) (by omega)).mono ?_;rintro e w1 ⟨z,rfl,hz0,hz1,hd1,hc1⟩;have tU:=ai hd1;have mE:=ai ((((Tz w).alloc (.cells #[.slice sa sn sc] 24)).cR [bd]).then hc1);have fY:=ai (hc1.blk gG.o (by have:=wP.o;simp;omega));obtain⟨bw,qL⟩:∃bw,bw=w.heap.size:=⟨_,rfl⟩
  have lQ:=ai qL;rw[<-qL] at fY iO wP HM ⊢;clear hd1 hc1 gG HD qL;go_wp2_with fail
  go_loopw [9,10] (BkL attrs names w0 w d bd bw M sa sn sc) (fun _ k _=>(intOf k).toNat)
  case atStart=>exact⟨[],[],z,rfl,by simp;omega,hz0,a4' _ _ _ _,aaK.nil _,by unfold Rm;trivial,by simp[mH],tU.o,mE.o,fY.o⟩
  case round =>
   obtain⟨l,ws,q,rfl,hq2,CQ,hown,hwr,hok,hwn,hdk,Kv,j6⟩:=hrel;obtain⟨va,vc,hv⟩:=eP hown;subst hv;have HOW:=ai hown;have HWL:=ai hwr;have HWO:=ai hok;have HWN:=ai hwn;have yz:=ai hdk;have HCG:=ai Kv;have jm:=ai j6;have tR:=ai (show bw+1<=wr.heap.size from bS j6);clear hown hwr hok hwn hdk Kv j6 tU mE fY;by_cases hq:0<q
   ·have t14:=ag (0<q) hq;have t17:=ag ((0:Int)<(d:Int)+1);have hl2:l.length<=2:=by omega
    obtain⟨N,hN⟩:∃N,N=bd::rowOf (.slice va l.length vc)++M:=⟨_,rfl⟩
    have qY:=ai (show bd∈N by rw[hN];simp);have OX:=ai (show ∀y∈N,y<wr.heap.size by
     intro y hy;rw[hN] at hy;simp only[a48,bz,aN] at hy;have:=tR.o;have:=wP.o;rcases hy with rfl|hy|hy
     ·omega
     ·exact(HOW.o.lt y (bV.1 hy)).2
     have:=HM.o y hy;omega)
    have HWR:=ai (show ∀W,ct [bd] wr W->aaK (mask W N) l ws from fun W hW=>by rw[hN];exact HWL.o.mono (cP hW (by simp)));have WQ:=ai (show ∀W w2 g2 cap,ct [bd] wr W->ct (rowOf (.slice va l.length vc)) W w2->((Value.slice va l.length vc).ownBlock=some g2\/g2=W.heap.size)->Sub (mask W N) (mask w2 (bd::rowOf (.slice (some ⟨g2,0,none⟩) (l.length+1) cap)++M)) from fun W w2 g2 cap hW hc hg=>by
     rw[hN];refine cQ fun k hk hn=>⟨fun hm=>?_,hc.block k hk fun hm=>hn (by simp[hm])⟩
     simp only[a48,bz,aN] at hm hn;rcases hm with h|h|h
     ·exact hn (aoX h)
     ·have h2:=bV.1 h;simp only[Value.ownBlock,a42] at h2;rcases hg with e|e
      ·exact hn (a4Z (aoX (bV.2 (by rw[e,h2]))))
      omega
     exact hn (a4Z (a4Z h)))
    have HDX:=ai (show ∀W,cg w0 W bd->ct [bd] wr W->Calls Tryz.prog 40 #[.pointer (some ⟨bd,0,none⟩),.agg #[.slice sa sn sc],.slice an nn cn,.int .i64 2] W (Mv (oX attrs names 2) w0 bd N W) from fun W hd hW =>
     (wW attrs names RU.o hne hl hnl 1 (by omega) hd sa sn sc an nn cn N (HS.o.mono (cP (HCG.o.then hW) (by simp))) (HN.o.mono (cP (HCG.o.then hW) (by simp))) (fun y hy=>bF (OX.o y hy) hW.size)).mono fun e w' h=>h)
    have HIH:=ai (show ∀W,cg w0 W bd->ct [bd] wr W->Calls Tryz.prog 41 #[.pointer (some ⟨bd,0,none⟩),.agg #[.slice sa sn sc],.slice an nn cn,.int .i64 (d:Nat)] W (awp attrs names d w0 bd N W) from fun W hd hW =>
     IH.o (by omega) hd sa sn sc an nn cn N (HS.o.mono (cP (HCG.o.then hW) (by simp))) (HN.o.mono (cP (HCG.o.then hW) (by simp))) (fun y hy=>bF (OX.o y hy) hW.size))
    clear hN;go_upto_region 5 with fail
    refine kU (m:=19) [18] (GnL w0 wr bd 18 (rowOf (.slice va l.length vc))) (GnB bd 18 (rowOf (.slice va l.length vc))) (uz (aXw attrs names d bd bw M N l ws sa sn sc an nn cn va vc)) (by kernel_rfl) (by kernel_rfl) ⟨yz.o.ext ((Tz wr).drew),((Tz wr).drew).cR _,fun _=>((Tz wr).drew).cR _⟩ ?_ ?_ ?_
    ·intro i k v W W' hi hk hne hout h hE;have hi':=ltc19 hi;clear hi hk;by_cases hk:k=18
     ·subst hk;exfalso;rcases hi' with rfl|rfl|rfl|rfl|rfl|rfl|rfl|rfl|rfl|rfl|rfl|rfl|rfl|rfl|rfl|rfl|rfl|rfl|rfl
      ·exact a40 hout (by decide +kernel)
      ·exact a40 hout (by decide +kernel)
      ·exact a40 hout (by decide +kernel)
      ·exact a40 hout (by decide +kernel)
      ·exact a40 hout (by decide +kernel)
      ·exact a40 hout (by decide +kernel)
      ·exact a40 hout (by decide +kernel)
      ·exact a40 hout (by decide +kernel)
      ·exact a40 hout (by decide +kernel)
      ·exact a40 hout (by decide +kernel)
      ·exact a40 hout (by decide +kernel)
      ·exact a40 hout (by decide +kernel)
      ·exact a40 hout (by decide +kernel)
      ·exact a40 hout (by decide +kernel)
      ·exact a40 hout (by decide +kernel)
      ·exact a40 hout (by decide +kernel)
      ·exact a40 hout (by decide +kernel)
      ·exact a40 hout (by decide +kernel)
      exact hne rfl
     have hE:ct [bd] W W':=(by have h9:=hE;unfold GnB at h9;rwa [bL hk] at h9)
     rcases hi' with rfl|rfl|rfl|rfl|rfl|rfl|rfl|rfl|rfl|rfl|rfl|rfl|rfl|rfl|rfl|rfl|rfl|rfl|rfl
     ·exact h
     ·obtain⟨g,e0,h⟩:=h;exact⟨g,e0,⟨hE.blk h.1 (by simpa using h.2),h.2⟩⟩
     ·exact h
     ·obtain⟨r,e0,h⟩:=h;exact⟨r,e0,h⟩
     ·obtain⟨g,r,e0,h⟩:=h;exact⟨g,r,e0,⟨hE.blk h.1 (by simpa using h.2.1),h.2⟩⟩
     ·obtain⟨s,e0,h⟩:=h;exact⟨s,e0,h⟩
     ·exact h
     ·exact h
     ·exact h
     ·obtain⟨x,xv,e0,h⟩:=h;exact⟨x,xv,e0,⟨h.1,h.2.mono (cP hE qY.o)⟩⟩
     ·exact h
     ·exact h
     ·exact h
     ·exact h
     ·exact h
     ·obtain⟨bl,ba,bn,bc,e0,h⟩:=h;exact⟨bl,ba,bn,bc,e0,⟨h.1,h.2.1,h.2.2.1,gK.mono (cP hE qY.o) _ _ h.2.2.2.1,h.2.2.2.2⟩⟩
     ·obtain⟨x,wv,e0,h⟩:=h;exact⟨x,wv,e0,⟨h.1.mono (cP hE qY.o),h.2⟩⟩
     ·obtain⟨x,wv,g,e0,h⟩:=h;exact⟨x,wv,g,e0,⟨hE.blk h.1 (by simpa using h.2.1),h.2.1,h.2.2.1.mono (cP hE qY.o),h.2.2.2⟩⟩
     obtain⟨x,wv,v2,e0,h⟩:=h;exact⟨x,wv,v2,e0,⟨cO h.1 hE (fun q hq hm=>by simp only[aG] at hm;have:=(h.1.lt q hq).1;have:=wP.o;omega),h.2.1.mono (cP hE (by simp)),h.2.2⟩⟩
    ·intro q op hq ho L vs W cG dD hW hd ρ hρ;have jA:=ltc19 hq;clear hq;have o9:ρ (.tmp 9)=.slice va l.length vc:=hρ.out 9 rfl;have o0:ρ (.tmp 0)=.pointer (some ⟨bd,0,none⟩):=hρ.out 0 rfl;have i2:=hρ.i 2 23;have i1:=hρ.i 1 22;have i3:=hρ.i 3 24;have i4:=hρ.i 4 25;have o5:ρ (.tmp 5)=.pointer (some ⟨bw,0,none⟩):=hρ.out 5 rfl;have o2:ρ (.tmp 2)=.slice an nn cn:=hρ.out 2 rfl;have i6:=hρ.i 6 27;have i7:=hρ.i 7 28;have i8:=hρ.i 8 29;have o3:ρ (.tmp 3)=.int .i64 ((d:Int)+1):=hρ.out 3 rfl;have i13:=hρ.i 13 34;have i10:=hρ.i 10 31;have i11:=hρ.i 11 32;have i12:=hρ.i 12 33;have i14:=hρ.i 14 35;have i5:=hρ.i 5 26;have i9:=hρ.i 9 30;have i15:=hρ.i 15 36;have i16:=hρ.i 16 37;have i0:=hρ.i 0 21;have i17:=hρ.i 17 38;have hc:=hρ.const;have hfn:=hρ.func;clear hρ;rcases jA with rfl|rfl|rfl|rfl|rfl|rfl|rfl|rfl|rfl|rfl|rfl|rfl|rfl|rfl|rfl|rfl|rfl|rfl|rfl
     ·have xJ:18∉L:=fun h=>a40 (dD 18 h) (by decide +kernel)
      have HW:=ai (show cg w0 W bd/\ct [bd] wr W from⟨hW.1,hW.2.2 xJ⟩);clear hW cG dD;have HNQ:=ai xJ;clear xJ;cases ho
      clear hd;unfold bQ;go_simp;exact⟨ct.refl _ _,gnl HW.o HW.o.1 (ct.refl _ _),rfl⟩
     ·have xJ:18∉L:=fun h=>a40 (dD 18 h) (by decide +kernel)
      have HW:=ai (show cg w0 W bd/\ct [bd] wr W from⟨hW.1,hW.2.2 xJ⟩);clear hW cG dD;have HNQ:=ai xJ;clear xJ;cases ho
      clear hd;unfold bQ;go_simp;exact⟨((Tz W).alloc _).cR _,gnl HW.o (HW.o.1.ext ((Tz W).alloc _)) (((Tz W).alloc _).cR [bd]),W.heap.size,rfl,bR W _,by have:=HW.o.1.lt;omega⟩
     ·have xJ:18∉L:=fun h=>a40 (dD 18 h) (by decide +kernel)
      have HW:=ai (show cg w0 W bd/\ct [bd] wr W from⟨hW.1,hW.2.2 xJ⟩);clear hW cG dD;have HNQ:=ai xJ;clear xJ;cases ho
      clear hd;unfold bQ;go_simp;exact⟨ct.refl _ _,gnl HW.o HW.o.1 (ct.refl _ _),rfl⟩
     ·have xJ:18∉L:=fun h=>a40 (dD 18 h) (by decide +kernel)
      have HW:=ai (show cg w0 W bd/\ct [bd] wr W from⟨hW.1,hW.2.2 xJ⟩);clear hW cG dD;have HNQ:=ai xJ;clear xJ;cases ho
      have h2:vs 2=_:=hd ⟨2,.data⟩ (by simp) rfl;rw[h2] at i2;clear hd;unfold bQ;go_simp;refine(dx HW.o.1 3 (by omega) (by omega)).mono ?_;rintro e5 w5 ⟨z,rfl,hz0,hz1,oW,hc5⟩;obtain⟨r,rfl⟩:∃r:Nat,z=r:=⟨z.toNat,by omega⟩
      exact⟨_,rfl,hc5,gnl HW.o oW hc5,r,rfl,by omega⟩
     ·have xJ:18∉L:=fun h=>a40 (dD 18 h) (by decide +kernel)
      have HW:=ai (show cg w0 W bd/\ct [bd] wr W from⟨hW.1,hW.2.2 xJ⟩);clear hW cG dD;have HNQ:=ai xJ;clear xJ;cases ho
      obtain⟨g,h1,hs1⟩:∃(g:Nat),vs 1=.slice (some ⟨g,0,none⟩) 3 3/\(W.heap[g]?=some aCI/\g≠bd):=hd ⟨1,.data⟩ (by simp) rfl;have Ae:=ai hs1;clear hs1;rw[h1] at i1;obtain⟨r,h3,hs3⟩:∃(r:Nat),vs 3=.int .i64 ((r:Nat):Int)/\r<3:=hd ⟨3,.data⟩ (by simp) rfl;have El:=ai hs3;clear hs3;rw[h3] at i3;clear hd;have b0:(0:Int)<=((r:Nat):Int):=by omega
      have b1:((r:Nat):Int)<3:=by have:=El.o;omega
      unfold bQ;go_simp;exact⟨ct.refl _ _,gnl HW.o HW.o.1 (ct.refl _ _),g,r,rfl,Ae.o.1,Ae.o.2,El.o⟩
     ·have xJ:18∉L:=fun h=>a40 (dD 18 h) (by decide +kernel)
      have HW:=ai (show cg w0 W bd/\ct [bd] wr W from⟨hW.1,hW.2.2 xJ⟩);clear hW cG dD;have HNQ:=ai xJ;clear xJ;cases ho
      obtain⟨g,r,h4,hs4⟩:∃(g:Nat) (r:Nat),vs 4=.pointer (some ⟨g,r,none⟩)/\(W.heap[g]?=some aCI/\g≠bd/\r<3):=hd ⟨4,.data⟩ (by simp) rfl;have oY:=ai hs4;clear hs4;rw[h4] at i4;clear hd;obtain⟨s,hs,Yu⟩:=aLo oY.o.1 oY.o.2.2;unfold bQ;go_simp;exact⟨ct.refl _ _,gnl HW.o HW.o.1 (ct.refl _ _),s,rfl,Yu⟩
     ·have xJ:18∉L:=fun h=>a40 (dD 18 h) (by decide +kernel)
      have HW:=ai (show cg w0 W bd/\ct [bd] wr W from⟨hW.1,hW.2.2 xJ⟩);clear hW cG dD;have HNQ:=ai xJ;clear xJ;cases ho
      clear hd;unfold bQ;go_simp;exact⟨ct.refl _ _,gnl HW.o HW.o.1 (ct.refl _ _),rfl⟩
     ·have xJ:18∉L:=fun h=>a40 (dD 18 h) (by decide +kernel)
      have HW:=ai (show cg w0 W bd/\ct [bd] wr W from⟨hW.1,hW.2.2 xJ⟩);clear hW cG dD;have HNQ:=ai xJ;clear xJ;cases ho
      clear hd;obtain⟨g7,gf7⟩:=dO (HW.o.2.blk jm.o (by have:=wP.o;simp;omega));unfold bQ;go_simp;exact⟨ct.refl _ _,gnl HW.o HW.o.1 (ct.refl _ _),rfl⟩
     ·have xJ:18∉L:=fun h=>a40 (dD 18 h) (by decide +kernel)
      have HW:=ai (show cg w0 W bd/\ct [bd] wr W from⟨hW.1,hW.2.2 xJ⟩);clear hW cG dD;have HNQ:=ai xJ;clear xJ;cases ho
      clear hd;unfold bQ;go_simp;exact⟨ct.refl _ _,gnl HW.o HW.o.1 (ct.refl _ _),rfl⟩
     ·have xJ:18∉L:=fun h=>a40 (dD 18 h) (by decide +kernel)
      have HW:=ai (show cg w0 W bd/\ct [bd] wr W from⟨hW.1,hW.2.2 xJ⟩);clear hW cG dD;have HNQ:=ai xJ;clear xJ;cases ho
      have h6:vs 6=_:=hd ⟨6,.data⟩ (by simp) rfl;rw[h6] at i6;have h7:vs 7=_:=hd ⟨7,.data⟩ (by simp) rfl;rw[h7] at i7;have h8:vs 8=_:=hd ⟨8,.data⟩ (by simp) rfl;rw[h8] at i8;clear hd;unfold bQ;go_simp;refine(HDX.o W HW.o.1 HW.o.2).mono ?_;rintro e5 w5 ⟨x,xv,rfl,hm5,Iz,oW,hc5⟩;exact⟨_,rfl,hc5,gnl HW.o oW hc5,x,xv,rfl,hm5,Iz⟩
     ·have xJ:18∉L:=fun h=>a40 (dD 18 h) (by decide +kernel)
      have HW:=ai (show cg w0 W bd/\ct [bd] wr W from⟨hW.1,hW.2.2 xJ⟩);clear hW cG dD;have HNQ:=ai xJ;clear xJ;cases ho
      clear hd;unfold bQ;go_simp;exact⟨ct.refl _ _,gnl HW.o HW.o.1 (ct.refl _ _),rfl⟩
     ·have xJ:18∉L:=fun h=>a40 (dD 18 h) (by decide +kernel)
      have HW:=ai (show cg w0 W bd/\ct [bd] wr W from⟨hW.1,hW.2.2 xJ⟩);clear hW cG dD;have HNQ:=ai xJ;clear xJ;cases ho
      clear hd;obtain⟨g7,gf7⟩:=dO (HW.o.2.blk jm.o (by have:=wP.o;simp;omega));unfold bQ;go_simp;exact⟨ct.refl _ _,gnl HW.o HW.o.1 (ct.refl _ _),rfl⟩
     ·have xJ:18∉L:=fun h=>a40 (dD 18 h) (by decide +kernel)
      have HW:=ai (show cg w0 W bd/\ct [bd] wr W from⟨hW.1,hW.2.2 xJ⟩);clear hW cG dD;have HNQ:=ai xJ;clear xJ;cases ho
      clear hd;unfold bQ;go_simp;exact⟨ct.refl _ _,gnl HW.o HW.o.1 (ct.refl _ _),rfl⟩
     ·have xJ:18∉L:=fun h=>a40 (dD 18 h) (by decide +kernel)
      have HW:=ai (show cg w0 W bd/\ct [bd] wr W from⟨hW.1,hW.2.2 xJ⟩);clear hW cG dD;have HNQ:=ai xJ;clear xJ;cases ho
      clear hd;unfold bQ;go_simp;exact⟨ct.refl _ _,gnl HW.o HW.o.1 (ct.refl _ _),rfl⟩
     ·have xJ:18∉L:=fun h=>a40 (dD 18 h) (by decide +kernel)
      have HW:=ai (show cg w0 W bd/\ct [bd] wr W from⟨hW.1,hW.2.2 xJ⟩);clear hW cG dD;have HNQ:=ai xJ;clear xJ;cases ho
      have Kw:vs 13=_:=hd ⟨13,.data⟩ (by simp) rfl;rw[Kw] at i13;clear hd;have hwd:IntKind.i64.wrap ((d:Nat):Int)=((d:Nat):Int):=IntWalk.i64_in _ (by omega);unfold bQ;go_simp
      try rw[hwd]
      exact⟨ct.refl _ _,gnl HW.o HW.o.1 (ct.refl _ _),rfl⟩
     ·have xJ:18∉L:=fun h=>a40 (dD 18 h) (by decide +kernel)
      have HW:=ai (show cg w0 W bd/\ct [bd] wr W from⟨hW.1,hW.2.2 xJ⟩);clear hW cG dD;have HNQ:=ai xJ;clear xJ;cases ho
      have h10:vs 10=_:=hd ⟨10,.data⟩ (by simp) rfl;rw[h10] at i10;have h11:vs 11=_:=hd ⟨11,.data⟩ (by simp) rfl;rw[h11] at i11;have h12:vs 12=_:=hd ⟨12,.data⟩ (by simp) rfl;rw[h12] at i12;have Lf:vs 14=_:=hd ⟨14,.data⟩ (by simp) rfl;rw[Lf] at i14;clear hd;unfold bQ;go_simp;refine(HIH.o W HW.o.1 HW.o.2).mono ?_;rintro e5 w5 ⟨bl,ba,bn,bc,rfl,q1,q2,q3,q4,q5,q6,oW,hc5⟩;exact⟨_,rfl,hc5,gnl HW.o oW hc5,bl,ba,bn,bc,rfl,q1,q2,q3,q4,q5,q6⟩
     ·have xJ:18∉L:=fun h=>a40 (dD 18 h) (by decide +kernel)
      have HW:=ai (show cg w0 W bd/\ct [bd] wr W from⟨hW.1,hW.2.2 xJ⟩);clear hW cG dD;have HNQ:=ai xJ;clear xJ;cases ho
      obtain⟨s,h5,hs5⟩:∃(s:BA),vs 5=.string s/\gJ s=true:=hd ⟨5,.data⟩ (by simp) rfl;have nA:=ai hs5;clear hs5;rw[h5] at i5;obtain⟨x,xv,h9,VA⟩:∃(x:Ex) (xv:dK),vs 9=dK.val xv/\(oX attrs names 2 x/\dw (mask W N) x (dK.val xv)):=hd ⟨9,.data⟩ (by simp) rfl;have AM:=ai VA;clear VA;rw[h9] at i9;obtain⟨bl,ba,bn,bc,YB,ZU⟩:∃(bl:List Wb) (ba:OA) (bn:Nat) (bc:Nat),vs 15=.slice ba bn bc/\(bn=bl.length/\bn<=bc/\ny ba bc/\gK (mask W N) bl ba/\Rm attrs names bl/\mH bl<=ar6 d):=hd ⟨15,.data⟩ (by simp) rfl;have ajv:=ai ZU;clear ZU;rw[YB] at i15;clear hd;unfold dK.val fN at i9;unfold bQ;go_simp;exact⟨ct.refl _ _,gnl HW.o HW.o.1 (ct.refl _ _),.mk s x bl,⟨s,xv,ba,bn,bc⟩,rfl,⟨rfl,AM.o.2,ajv.o.1,ajv.o.2.1,ajv.o.2.2.1,ajv.o.2.2.2.1⟩,nA.o,AM.o.1,ajv.o.2.2.2.2.1,ajv.o.2.2.2.2.2⟩
     ·have xJ:18∉L:=fun h=>a40 (dD 18 h) (by decide +kernel)
      have HW:=ai (show cg w0 W bd/\ct [bd] wr W from⟨hW.1,hW.2.2 xJ⟩);clear hW cG dD;have HNQ:=ai xJ;clear xJ;cases ho
      obtain⟨x,wv,VC,aze⟩:∃(x:Wb) (wv:Cz),vs 16=.agg #[.string wv.name,.int .i64 wv.x.op,.string wv.x.name,.slice wv.x.aw wv.x.nw wv.x.cw,.int .i64 wv.x.lo,.int .i64 wv.x.hi,.slice wv.x.aa wv.x.na wv.x.ca,.slice wv.au wv.nu wv.cu]/\(Yj (mask W N) x wv/\ab' attrs names d x):=hd ⟨16,.data⟩ (by simp) rfl;have aS2:=ai aze;clear aze;rw[VC] at i16;clear hd;unfold bQ;go_simp;exact⟨((Tz W).alloc _).cR _,gnl HW.o (HW.o.1.ext ((Tz W).alloc _)) (((Tz W).alloc _).cR [bd]),x,wv,W.heap.size,rfl,bR W _,by have:=HW.o.1.lt;omega,aS2.o.1.mono (cP (((Tz W).alloc _).cR [bd]) qY.o),aS2.o.2⟩
     have xJ:18∉L:=cG;have HW:=ai (show cg w0 W bd/\ct [bd] wr W from⟨hW.1,hW.2.2 xJ⟩);clear hW cG dD;have HNQ:=ai xJ;clear xJ;cases ho
     have h0:vs 0=_:=hd ⟨0,.data⟩ (by simp) rfl;rw[h0] at i0;obtain⟨x,wv,g,RD,aDb⟩:∃(x:Wb) (wv:Cz) (g:Nat),vs 17=.slice (some ⟨g,0,none⟩) 1 1/\(W.heap[g]?=some (.cells wv.cells.toArray 53 (0,0))/\g≠bd/\Yj (mask W N) x wv/\ab' attrs names d x):=hd ⟨17,.data⟩ (by simp) rfl;have aju:=ai aDb;clear aDb;rw[RD] at i17;clear hd;have ho0:=cO HOW.o HW.o.2 (fun q hq hm=>by simp only[aG] at hm;have:=(HOW.o.lt q hq).1;have:=wP.o;omega);refine jS aMK _ _ (bw+1) _ l.length _ i0 g 1 1 wv.cells i17 rfl (by simp[Cz.cells,Value.oneCell']) (by omega) (by omega) (by omega) ho0 (fun j hj=>by rw[bX aju.o.1];simp) (by have:=HW.o.2.size;have:=tR.o;omega) ?_;intro g2 cap w2 ho2 hg2 hw2 hlt2;have Kv:ct (rowOf (.slice va l.length vc)) W w2:=eX hg2;have hcb:ct (bd::rowOf (.slice va l.length vc)) W w2:=Kv.weak (fun y hy=>aZ _ hy);have aW4:bd∉rowOf (.slice va l.length vc):=fun hm=>by have:=(HOW.o.lt bd (bV.1 hm)).1;have:=wP.o;omega
     have hkeep:Sub (mask W N) (mask w2 (bd::rowOf (.slice (some ⟨g2,0,none⟩) (l.length+1) cap)++M)):=WQ.o W w2 _ _ HW.o.2 Kv hw2;exact⟨hcb,⟨HW.o.1.cR Kv aW4 (fun q hq=>by have:=(HOW.o.lt q (bV.1 hq)).1;have:=iO.o;omega),(HW.o.2.weak (fun y hy=>by simp at hy;simp[hy])).then hcb,fun h=>a40 (by simp) h⟩,x,wv,_,rfl,ho2,((HWR.o W HW.o.2).mono hkeep).snoc (aju.o.2.2.1.mono hkeep),aju.o.2.2.2⟩
    intro L vs W l7 hW hR;rw[bL (by decide +kernel)];obtain⟨x,wv,v2,h18,aDa⟩:∃(x:Wb) (wv:Cz) (v2:Value),vs 18=v2/\(W.ownsRow (bw+1) 53 8 v2 (l.length+1) (ws.flatMap Cz.cells++wv.cells)/\aaK (mask W (bd::rowOf v2++M)) (l++[x]) (ws++[wv])/\ab' attrs names d x):=hR 18 (by simp) (by omega);have aAK:=ai aDa;clear aDa;refine jx rfl ?_
    change wpList _ _ _ [⟨some 9,.assign (.tmp 39),_,_,_,none⟩] _ _
    simp only[fL,dU,List.range,List.range.loop,aX,bN,h18];go_simp;have hW2:cg w0 W bd/\ct (bd::rowOf (.slice va l.length vc)) wr W:=⟨hW.1,hW.2.1⟩
    clear hR hW l7 h18;have qO:=ai hW2;obtain⟨a2,c2,hv2⟩:=eP aAK.o.1;subst hv2;obtain⟨xn,xc,xu⟩:=x;have HG:=ai aAK.o.2.2;have iP:=ai (show ct [bd] w W from HCG.o.trans hW2.2 (fun y hy=>by
     rcases bz.1 hy with h|h
     ·exact aoX (by simp[h])
     have:=(HOW.o.lt y (bV.1 h)).1;have:=lQ.o;exact a4Z (by omega)))
    have GX:=ai (hW2.2.blk jm.o (fun hy=>by
     rcases bz.1 hy with h|h
     ·have:=wP.o;omega
     have:=(HOW.o.lt bw (bV.1 h)).1;omega))
    clear hW2;go_wp2_with fail
    go_roundw
    case rel=>exact⟨l++[.mk xn xc xu],ws++[wv],q - 1,by go_num,by simp;omega,by omega,by have:=aAK.o.1;simpa using this,aAK.o.2.1,Rm.snoc l xn xc xu HWO.o HG.o.1 HG.o.2.1 HG.o.2.2.1,by
     have h1:=HWN.o;have h2:mH xu<=ar6 d:=HG.o.2.2.2;rw[aoQ,bg,List.length_singleton,Nat.add_mul,Nat.one_mul];omega,qO.o.1,iP.o,GX.o⟩
    case measure=>simp[intOf];omega
   have t14:=ah (0<q) hq;obtain⟨a',c',hv,h1,h2,h3⟩:=aBg (M:=M) HOW.o (fun k hk hm=>by have:=(HOW.o.lt k hk).1;have:=HM.o k hm;omega) (HWL.o.mono (cM _ (fun y hy=>by simp[hy])));have HV:=ai hv;have H3:=ai h3;have H2:=ai h2;clear hv h3 h2;go_wp2_with fail
   go_ret;rw[HV.o];exact⟨l,a',_,c',rfl,rfl,h1,H2.o,H3.o,HWO.o,aV HWN.o (by simp only[ar6];exact Nat.mul_le_mul_right _ (by omega)),yz.o,HCG.o⟩
def clV (v:fM):Value:=.agg #[ v.kind,.string v.name,v.x.op,.string v.x.name,.slice v.x.aw v.x.nw v.x.cw,v.x.lo,v.x.hi,.slice v.x.aa v.x.na v.x.ca,.slice v.au v.nu v.cu,v.ck]
def Us (c:cK):Prop:=c.cond.fits/\c.cond.iT/\c.cond.size<=1000/\qT c.cond=true/\Nr c.gH/\mH c.gH<=1000
def aGB (kind am:Int):Prop:=(ku kind=0/\am=0)\/(0<ku kind/\1<=am/\am<=ku kind)
def aJG (attrs:List Attr) (names:ZB) (kind:Int) (name:BA) (w0:World) (bd:Nat) (M:ZN) (w:World) (e:Ending) (w':World):Prop:=∃(c:cK) (v:fM),e=.returned (clV v)/\c.kind=kind/\c.name=name/\oX attrs names 3 c.cond/\((kind=3/\Rm attrs names c.gH/\mH c.gH<=6)\/c.gH=[])/\aGB kind c.ck/\Us c/\ij (mask w' M) c v/\cg w0 w' bd/\ct [bd] w w'
theorem cF {W W':World} {K N:ZN} (h:ct K W W') (hk:∀y∈K,y∈N\/W.heap.size<=y):Sub (mask W N) (mask W' N):=cQ fun k hlt hn=>⟨hn,h.block k hlt fun hm=>by
 rcases hk k hm with h1|h1
 ·exact hn h1
 omega⟩
def a0T (attrs:List Attr) (names:ZB) (w0 wb:World) (bd bc br:Nat) (M:ZN) (kind:Int) (name:BA) (x:Ex) (xv:dK) (zr:List Value) (wx:World):Prop:=∃(gH:List Wb) (au:OA) (nu cu:Nat),wx.heap[bc]?=some (.cells #[ kind,.string name,xv.op,.string xv.name,.slice xv.aw xv.nw xv.cw,xv.lo,xv.hi,.slice xv.aa xv.na xv.ca,.slice au nu cu,.int .i64 0] 48 (0,0)) /\
 wx.heap[br]?=some (.cells zr.toArray 48 (0,0))/\nu=gH.length/\nu<=cu/\ny au cu/\gK (mask wx (bd::bc::br::M)) gH au/\dw (mask wx (bd::bc::br::M)) x xv.val/\Rm attrs names gH/\mH gH<=6/\cg w0 wx bd/\ct [bd,bc] wb wx/\(kind=3\/gH=[])
theorem awX {attrs:List Attr} (hat:attrs∈gi) {names:ZB} (zP:∀x∈names,x.size<=1000) {kind:Int} {name:BA} {w0 w w1 wb wx w5 W:World} {bd bc br:Nat} {M:ZN} {x:Ex} {xv:dK} {ul:List Wb} {ua:OA} {un uc:Nat} {am:Int} (hmo:oX attrs names 3 x/\Ud 3 x) (hku:kind=3\/ul=[]) (ham:aGB kind am) (hcw:ct [bd] w w1) (hxb:Ext w1 wb) (hle:bd<w.heap.size/\w.heap.size<=br/\br<bc) (h0:w0.heap.size<=w.heap.size)
  (hq:un=ul.length/\un<=uc/\ny ua uc) (h4:gK (mask wx (bd::bc::br::M)) ul ua) (h6:dw (mask wx (bd::bc::br::M)) x xv.val) (h7:Rm attrs names ul/\mH ul<=6) (h9:ct [bd,bc] wb wx) (oW:cg w0 w5 bd) (hc5:ct [bd] wx w5) (hcs:ct [bc,br] w5 W) :
  aJG attrs names kind name w0 bd M w (.returned (clV ⟨kind,name,xv,ua,un,uc,am⟩)) W:=by
 have s1:Sub (mask wx (bd::bc::br::M)) (mask W M):=((cF hc5 (fun y hy=>by simp at hy;simp[hy])).trans (cF hcs (fun y hy=>by simp at hy;rcases hy with rfl|rfl<;>simp))).trans (cM _ (fun y hy=>by simp[hy]));refine⟨⟨kind,name,x,ul,am⟩,_,rfl,rfl,rfl,hmo.1,hku.imp (fun e=>⟨e,h7⟩) id,ham,⟨hmo.2.fits,hmo.2.iT,aV hmo.2.size (by simp[RE]),hmo.2.bare,Rm.ok hat zP _ h7.1,aV h7.2 (by omega)⟩,⟨rfl,rfl,h6.mono s1,hq.1,hq.2.1,hq.2.2,gK.mono s1 _ _ h4,rfl⟩,?_,?_⟩
 ·exact oW.cR hcs (by simp;omega) (fun y hy=>by simp at hy;omega)
 refine(((hcw.then (hxb.cR [bd])).trans h9 ?_).then hc5).trans hcs ?_
 ·intro y hy;simp at hy;rcases hy with rfl|rfl
  ·exact aoX (by simp)
  exact a4Z (by omega)
 intro y hy;simp at hy;exact a4Z (by omega)
theorem Ge {attrs:List Attr} (hat:attrs∈gi) (names:ZB) (hok:∀a∈attrs,QG a) (hne:attrs≠[]) (hl:attrs.length<=1000) (hnl:names.length<=1000) (zP:∀x∈names,x.size<=1000) {w0 w:World} {bd:Nat} (hd:cg w0 w bd) (sa:OA) (sn sc:Nat) (an:OA) (nn cn:Nat) (M:ZN) (hs:dB (mask w [bd]) attrs (.agg #[.slice sa sn sc])) (hn:fS (mask w [bd]) names an nn cn) (hM:∀y∈M,y<w.heap.size) (kind:Int) (name:BA) :
  Calls Tryz.prog 19 #[.pointer (some ⟨bd,0,none⟩),.agg #[.slice sa sn sc],kind,.string name,.slice an nn cn] w (aJG attrs names kind name w0 bd M w):=by
 have qL:=hd.lt;obtain⟨wa,cN⟩:∃wa,wa=(w.alloc (.cells #[.slice sa sn sc] 24)).alloc (.cells #[.int .i64 0,.string ⟨#[]⟩,.int .i64 0,.string ⟨#[]⟩,.slice none 0 0,.int .i64 0,.int .i64 0,.slice none 0 0,.slice none 0 0,.int .i64 0] 48):=⟨_,rfl⟩
 obtain⟨br,hbr⟩:∃br,br=w.heap.size+1:=⟨_,rfl⟩
 obtain⟨bs,CR⟩:∃bs,bs=w.heap.size:=⟨_,rfl⟩
 have gB:Ext w wa:=by rw[cN];exact((Tz w).alloc _).alloc _
 have dm:=ai gB;have qQ:=ai (show wa.heap[br]?=some (.cells #[.int .i64 0,.string ⟨#[]⟩,.int .i64 0,.string ⟨#[]⟩,.slice none 0 0,.int .i64 0,.int .i64 0,.slice none 0 0,.slice none 0 0,.int .i64 0] 48 (0,0)) by rw[cN,hbr];exact alloc_at (by simp));have wH:=ai (show wa.heap[bs]?=some (.cells #[.slice sa sn sc] 24 (0,0)) by rw[cN,CR];exact((Tz _).alloc _).blk (bR w _));have tR:=ai (show wa.heap.size=w.heap.size+2 by rw[cN];simp);have HD:=ai (hd.ext gB);have HS:=ai hs;have HN:=ai hn;have HM:=ai hM;have jL:=ai (show bd<bs/\bs=w.heap.size/\br=w.heap.size+1 from⟨by omega,CR,hbr⟩);have RU:=ai hok;have iO:=ai (show w0.heap.size<=w.heap.size by obtain⟨_,_,_,_,_,_,_,_,hxw,_⟩:=hd;exact hxw.size);go_enter Tryz.func19,Tryz.ntmps19
 go_upto_region 1 with fail
 rw[<-cN,<-hbr,<-CR];clear cN hbr CR gB hd hs hn hM hok qL;obtain⟨b0,bf⟩:=dO wH.o;have HDX:=ai (show Calls Tryz.prog 40 #[.pointer (some ⟨bd,0,none⟩),.agg #[.slice sa sn sc],.slice an nn cn,.int .i64 3] wa (Mv (fun x=>oX attrs names 3 x/\Ud 3 x) w0 bd (bd::br::M) wa) from
  (wW attrs names RU.o hne hl hnl 2 (by omega) HD.o sa sn sc an nn cn (bd::br::M) (HS.o.mono (cP (dm.o.cR [bd]) (by simp))) (HN.o.mono (cP (dm.o.cR [bd]) (by simp))) (fun y hy=>by
   have h1:=tR.o;have h2:=jL.o;simp only[bz] at hy;rcases hy with rfl|rfl|hy
   ·omega
   ·omega
   have:=HM.o y hy;omega)).mono fun e w' h=>h.mono fun x hx=>⟨hx,yC hat zP 3 x hx⟩)
 go_wp2_with fail
 refine HDX.o.mono ?_;rintro e w1 ⟨x,xv,rfl,hmo,hix,hd1,hc1⟩;have HMO:=ai hmo;have tF:=ai hix;have tU:=ai hd1;have mE:=ai hc1;clear hmo hix hd1 hc1 b0 bf HDX HD;unfold dK.val fN;go_upto_region 2 with fail
 obtain⟨bc,hbc⟩:∃bc,bc=w1.heap.size:=⟨_,rfl⟩
 obtain⟨wb,iV⟩:∃wb,wb=w1.alloc (.cells #[ kind,.string name,xv.op,.string xv.name,.slice xv.aw xv.nw xv.cw,xv.lo,xv.hi,.slice xv.aa xv.na xv.ca,.slice none 0 0,.int .i64 0] 48):=⟨_,rfl⟩
 have hxb:Ext w1 wb:=by rw[iV];exact(Tz _).alloc _
 have jK:=ai hxb;have Af:=ai (show wb.heap[bc]?=some (.cells #[ kind,.string name,xv.op,.string xv.name,.slice xv.aw xv.nw xv.cw,xv.lo,xv.hi,.slice xv.aa xv.na xv.ca,.slice none 0 0,.int .i64 0] 48 (0,0)) by rw[iV,hbc];exact bR w1 _);have h1s:=mE.o.size;have HLE:=ai (show bd<bs/\bs<br/\br<bc/\bc<wb.heap.size by
  have:=jL.o;have:=tR.o;rw[iV,hbc];simp;omega)
 have adU:=ai (hxb.blk (mE.o.blk qQ.o (by have:=HLE.o;simp;omega)));have a0b:=ai (hxb.blk (mE.o.blk wH.o (by have:=HLE.o;simp;omega)));have aOj:=ai (show dw (mask wb (bd::bc::br::M)) x xv.val from tF.o.mono (by
  rw[iV];refine(cQ fun k hk hn=>⟨?_,Below.heap_alloc w1 _ k hk⟩);simp only[bz,not_or] at hn ⊢;exact⟨hn.1,by omega,hn.2.1,hn.2.2⟩))
 rw[<-iV,<-hbc];have nS:=ai ((dm.o.cR [bd]).then mE.o);have HDB:=ai (tU.o.ext hxb);clear iV hbc hxb h1s qQ wH tF tU
 go_upto_if 21 with fail
 go_cut [] (a0T attrs names w0 wb bd bc br M kind name x xv [.int .i64 0,.string ⟨#[]⟩,.int .i64 0,.string ⟨#[]⟩,.slice none 0 0,.int .i64 0,.int .i64 0,.slice none 0 0,.slice none 0 0,.int .i64 0])
 case first =>
  by_cases h3:kind=3
  ·have t3:(kind==3)=true:=by simp[h3]
   have HK3:=ai h3;clear h3;obtain⟨b0,bf⟩:=dO a0b.o;have HBK:=ai (show Calls Tryz.prog 41 #[.pointer (some ⟨bd,0,none⟩),.agg #[.slice sa sn sc],.slice an nn cn,.int .i64 2] wb (awp attrs names 2 w0 bd (bd::bc::br::M) wb) from
    ar' names RU.o hne hl hnl 2 (by omega) HDB.o sa sn sc an nn cn (bd::bc::br::M) (HS.o.mono (cP (nS.o.then (jK.o.cR [bd])) (by simp))) (HN.o.mono (cP (nS.o.then (jK.o.cR [bd])) (by simp))) (fun y hy=>by
     have h1:=tR.o;have h2:=jL.o;have h3:=HLE.o;simp only[bz] at hy;rcases hy with rfl|rfl|rfl|hy
     ·omega
     ·omega
     ·omega
     have:=HM.o y hy;omega))
   go_wp2_with fail
   refine HBK.o.mono ?_;rintro e w2 ⟨ul,ua,un,uc,rfl,q1,q2,q3,q4,q5,q6,qd,hc2⟩;have hb2:=hc2.blk Af.o (by have:=HLE.o;simp;omega);obtain⟨c0,c1,c2,c3,c4,c5,c6,c7,c8,c9,cf⟩:=rB hb2;have fY:=ai hb2;have jI:=ai (hc2.blk adU.o (by have:=HLE.o;simp;omega));have HQ:=ai (show un=ul.length/\un<=uc/\ny ua uc/\gK (mask w2 (bd::bc::br::M)) ul ua/\Rm attrs names ul/\mH ul<=6 from⟨q1,q2,q3,q4,q5,q6⟩);have pY:=ai qd;have iP:=ai hc2;clear q1 q2 q3 q4 q5 q6 qd hc2 hb2 b0 bf HBK;go_wp2_with fail
   go_meet
   case rel =>
    have hcs:ct [bd,bc] w2 (w2.setCell ⟨bc,8,none⟩ (.slice ua un uc)):=(ct.refl _ _).setCell (aoX (by simp)) _;have aQ4:ct [bc] w2 (w2.setCell ⟨bc,8,none⟩ (.slice ua un uc)):=(ct.refl _ _).setCell (aoX (by simp)) _;obtain⟨q1,q2,q3,q4,q5,q6⟩:=HQ.o;refine⟨ul,ua,un,uc,?_,?_,q1,q2,q3,?_,?_,q5,q6,?_,?_,aoX HK3.o⟩
    ·rw[aI w2 bc 8 _ _ (.slice ua un uc) fY.o];simp
    ·exact aQ4.blk jI.o (by have:=HLE.o;simp;omega)
    ·exact gK.mono (cF hcs (fun y hy=>by simp at hy;rcases hy with rfl|rfl<;>simp)) _ _ q4
    ·exact(aOj.o.mono (cP iP.o (by simp))).mono (cF hcs (fun y hy=>by simp at hy;rcases hy with rfl|rfl<;>simp))
    ·exact pY.o.cR aQ4 (by have:=HLE.o;simp;omega) (fun y hy=>by simp only[aG] at hy;have:=iO.o;have:=jL.o;have:=HLE.o;omega)
    exact(iP.o.weak (fun y hy=>by simp at hy;simp[hy])).then hcs
  have t3:(kind==3)=false:=by simp[h3]
  clear h3;go_wp2_with fail
  go_meet
  case rel=>exact⟨[],none,0,0,Af.o,adU.o,rfl,aU _,aoX ⟨rfl,rfl⟩,by unfold gK;trivial,aOj.o,by unfold Rm;trivial,by simp[mH],HDB.o,ct.refl _ _,a4Z rfl⟩
 case rest =>
  obtain⟨ul,ua,un,uc,hb,hr,q1,q2,q3,q4,q5,q6,q7,q8,q9,qA⟩:=hcut;obtain⟨wx,rfl⟩:∃wx:World,wx=wc:=⟨_,rfl⟩
  obtain⟨c0,c1,c2,c3,c4,c5,c6,c7,c8,c9,cf⟩:=rB hb;obtain⟨r0,r1,r2,r3,r4,r5,r6,r7,r8,r9,rf⟩:=rB hr;have hbr:br≠bc:=by have:=HLE.o;omega
  have HB:=ai hb;have HR:=ai hr;have HQ:=ai (show un=ul.length/\un<=uc/\ny ua uc from⟨q1,q2,q3⟩);have H4:=ai q4;have H67:=ai (show dw (mask wx (bd::bc::br::M)) x xv.val/\Rm attrs names ul/\mH ul<=6 from⟨q5,q6,q7⟩);have H8:=ai q8;have H9:=ai q9;have HA:=ai qA;clear hb hr q1 q2 q3 q4 q5 q6 q7 q8 q9 qA Af adU aOj HDB;go_wp2_with fail
  refine(acH kind wx).mono ?_;rintro e w4 ⟨rfl,rfl⟩;have hmo:0<=ku kind/\ku kind<=1073741824:=by
   unfold ku;split
   ·omega
   split<;>omega
  obtain⟨m,hm⟩:∃m,m=ku kind:=⟨_,rfl⟩
  rw[<-hm] at hmo ⊢;have II:=ai hm;obtain⟨hm0,hm1⟩:=hmo;clear hm;by_cases hmp:0<m
  ·have tm:=ag (0<m) hmp;go_wp2_with fail
   refine(JL H8.o (m - 1) (by omega) (by omega)).mono ?_;rintro e w5 ⟨z,rfl,hz0,hz1,oW,hc5⟩;have hb5:=hc5.blk HB.o (by have:=HLE.o;simp;omega);have hr5:=hc5.blk HR.o (by have:=HLE.o;simp;omega);clear c0 c1 c2 c3 c4 c5 c6 c7 c8 c9 cf r0 r1 r2 r3 r4 r5 r6 r7 r8 r9 rf;obtain⟨c0,c1,c2,c3,c4,c5,c6,c7,c8,c9,cf⟩:=rB hb5;obtain⟨r0,r1,r2,r3,r4,r5,r6,r7,r8,r9,rf⟩:=rB hr5;have uo:=ai hb5;have CU:=ai hr5;have uV:=ai oW;have pU:=ai hc5;clear hb5 hr5 oW hc5;go_wp2_with fail
   refine a5a (v:=clV ⟨kind,name,xv,ua,un,uc,1+z⟩) (by simp[results,Tryz.results19,go_sem,clV,r0,r1,r2,r3,r4,r5,r6,r7,r8,r9]) rfl ?_;refine awX hat zP HMO.o HA.o (a4Z (by rw[<-II.o];omega)) nS.o jK.o (by have:=HLE.o;have:=jL.o;omega) iO.o HQ.o H4.o H67.o.1 H67.o.2 H9.o uV.o pU.o ?_
   repeat (with_reducible (refine ct.setCell ?_ (aoX (by simp)) _))
   exact ct.refl _ _
  have tm:=ah (0<m) hmp;go_wp2_with fail
  refine a5a (v:=clV ⟨kind,name,xv,ua,un,uc,0⟩) (by simp[results,Tryz.results19,go_sem,clV,r0,r1,r2,r3,r4,r5,r6,r7,r8,r9]) rfl ?_;refine awX hat zP HMO.o HA.o (aoX ⟨by rw[<-II.o];omega,rfl⟩) nS.o jK.o (by have:=HLE.o;have:=jL.o;omega) iO.o HQ.o H4.o H67.o.1 H67.o.2 H9.o H8.o (ct.refl _ _) ?_
  repeat (with_reducible (refine ct.setCell ?_ (aoX (by simp)) _))
  exact ct.refl _ _
def vI (s:List Attr) (l:List cK) (x:Wb):Int:=if dr s l x.cond≠0 then dr s l x.cond else fG s l x.gH
theorem auR (s:List Attr) (l:List cK) (n:BA) (c:Ex) (u:List Wb):vI s l (.mk n c u)=if dr s l c≠0 then dr s l c else fG s l u:=rfl
theorem MY (s:List Attr) (l:List cK) (x:Wb) (r:List Wb):fG s l (x::r)=if vI s l x≠0 then vI s l x else fG s l r:=by
 obtain⟨n,c,u⟩:=x;rw[fG,auR];by_cases hn:dr s l c=0
 ·simp[hn]
 simp[hn]
theorem WI {s:List Attr} {l:List cK}:(r:List Wb)->(∀j (h:j<r.length),vI s l r[j]=0)->fG s l r=0
 | [],_=>by rw[fG]
 | x::r,h=>by
  have h0:vI s l x=0:=h 0 (by simp);have hr:=WI r fun j hj=>by have:=h (j+1) (by simpa using hj);simpa using this
  rw[MY,h0,hr];simp
theorem QD {s:List Attr} {l:List cK}:(r:List Wb)->(k:Nat)->(hk:k<r.length)->vI s l r[k]≠0->(∀j (h:j<k),vI s l (r[j]'(by omega))=0)->fG s l r=vI s l r[k]
 | [],k,hk,_,_=>by simp at hk
 | x::r,0,_,h,_=>by
  have h':vI s l x≠0:=h
  show fG s l (x::r)=vI s l x
  rw[MY,bM h']
 | x::r,k+1,hk,h,h0=>by
  have h1:vI s l x=0:=h0 0 (by omega);have hr:=QD r k (by simpa using hk) (by simpa using h) fun j hj=>by have:=h0 (j+1) (by omega);simpa using this
  simp only[List.getElem_cons_succ];rw[MY,h1,hr];simp
def UW (l:List cK) (x:Wb):Bool:=decide (2000<dV l x.cond)||eH l x.gH
theorem Ua (l:List cK):(r:List Wb)->eH l r=r.any (UW l)
 | []=>by simp[eH]
 | .mk n c u::r=>by rw[eH,Ua l r];rfl
theorem afw (s:List Attr) (l:List cK) (hf:∀x∈s,x.fits) (hsl:s.length<=1000000000000000) (a:OA) (n c:Nat) (hn:n<=1000000000000000) (m:Nat):∀(r:List Wb) (ra:OA) (rn rc:Nat) (sv:Value) (w:World),mH r<m->m<=1000000000000000->Nr r->dB w s sv->cZ w l a n c->gK w r ra->rn=r.length ->
  Calls Tryz.prog 93 #[sv,.slice a n c,.slice ra rn rc] w (cz (.int .i64 (fG s l r)) w):=by
 induction m with
 | zero=>intro r ra rn rc sv w h;omega
 | succ m ih =>
  intro r ra rn rc sv w hm hM hok hs hl hd pq;obtain⟨sa,sn,sc,rfl,B6⟩:=hs.slice;have hrl:=ql r;have aQk:rn<=1000000000000000:=by omega
  have HS:=ai hs;have HL:=ai hl;have HD:=ai hd;have IG:=ai pq;have zm:=ai hok;have IH:=ai ih;have HF:=ai hf;clear hs hl hd pq hok ih B6 hf;go_enter Tryz.func93,Tryz.ntmps93
  go_wp2_with fail
  go_loopw [7] (fun t wr=>∃k:Nat,t=.int .i64 k/\k<=rn/\(∀j (h:j<r.length),j<k->vI s l r[j]=0)/\wr.heap[w.heap.size]?=some (.cells #[.slice sa sn sc] 24 (0,0))/\Ext w wr) (fun t _=>rn - (intOf t).toNat)
  case atStart=>exact⟨0,rfl,by omega,fun j _ h=>by omega,bR w _,(Tz w).alloc _⟩
  case round =>
   obtain⟨k,rfl,hk,hno,j6,lM⟩:=hrel;have jH:=ai hno;have jm:=ai j6;have gZ:=ai lM;obtain⟨d0,df⟩:=dO j6;clear hno j6 lM;by_cases hkn:k<rn
   ·have fq:k<r.length:=by have:=IG.o;omega
    have t1:=ag ((k:Int)<(rn:Int));obtain⟨b,off,rfl,v,hv0,hrow,hv2,hv3,hv4,hv5,hv6⟩:=gK.at r _ (gK.mono gZ.o.sub _ _ HD.o) k fq;obtain⟨c0,c1,c2,c3,c4,c5,c6,c7⟩:=hrow.eight;obtain⟨ho1,ho2,ho3,ho4,ho5⟩:=alU r zm.o k fq;have hwn:=zw r k fq;have HUU:=ai hv6;have Nh:=ai hv3;have zq:=ai hv2;have vF:=ai ho3;have Da:=ai ho5;have Sc:(0:Int)<=(k:Int):=by omega
    have ti1:(k:Int)<(rn:Int):=by omega
    clear hrow hv0 hv2 hv3 hv4 hv5 hv6 ho2 ho3 ho5 ho1;go_wp2_with fail
    go_still_tail 7,(by kernel_rfl)
    change wpList _ _ _ _ _ wr.drew
    have hx2:Ext wr wr.drew:=(Tz wr).drew;generalize wr.drew=w2 at hx2 ⊢;have dN:=ai (gZ.o.trans hx2);have fY:=ai (hx2.blk jm.o);have asN:=ai (zq.o.ext hx2);have c7':=hx2.cell c7;have HU2:=ai (gK.mono hx2.sub _ _ HUU.o);clear hx2 d0 df c0 c1 c2 c3 c4 c5 c6 c7;go_wp2_with fail
    refine(Ho s l HF.o hsl a n c hn 1000000000000000 r[k].cond _ _ w2 ho4 (by omega) vF.o (HS.o.ext dN.o) (HL.o.ext dN.o) asN.o).mono ?_;rintro e w3 ⟨rfl,hx3⟩;have dS:=ai (dN.o.trans hx3);have nU:=ai (hx3.blk fY.o);obtain⟨d0,df⟩:=dO (hx3.blk fY.o);have c73:=hx3.cell c7';have HU3:=ai (gK.mono hx3.sub _ _ HU2.o);clear hx3 c7';by_cases hz:dr s l r[k].cond=0
    ·have tz:(dr s l r[k].cond != 0)=false:=by simp[hz]
     have HIE:=ai (show vI s l r[k]=fG s l r[k].gH by unfold vI;rw[bL (by simp[hz])]);clear hz;go_wp2_with fail
     go_still_tail 7,(by kernel_rfl)
     change wpList _ _ _ _ _ w3.drew
     have gV:Ext w3 w3.drew:=(Tz w3).drew;generalize w3.drew=w4 at gV ⊢;have jl:=ai (dS.o.trans gV);have qD:=ai (gV.blk nU.o);have HU4:=ai (gK.mono gV.sub _ _ HU3.o);clear gV d0 df c73;go_wp2_with fail
     refine(IH.o r[k].gH _ _ _ _ w4 (by omega) (by omega) Da.o (HS.o.ext jl.o) (HL.o.ext jl.o) HU4.o Nh.o).mono ?_;rintro e w5 ⟨rfl,dh⟩;have gW:=ai (jl.o.trans dh);have uo:=ai (dh.blk qD.o);clear dh;by_cases hy:fG s l r[k].gH=0
     ·have ty:(fG s l r[k].gH != 0)=false:=by simp[hy]
      have HY:=ai hy;clear hy;go_wp2_with fail
      go_roundw
      case rel =>
       refine⟨k+1,by go_num,by omega,fun j hj hjk=>?_,uo.o,gW.o⟩;by_cases e':j=k
       ·subst e';rw[HIE.o];exact HY.o
       exact jH.o j hj (by omega)
      case measure=>simp[intOf];omega
     have ty:(fG s l r[k].gH != 0)=true:=by simp[hy]
     have HR:=ai (show fG s l r=fG s l r[k].gH by rw[<-HIE.o];exact QD r k fq (by rw[HIE.o];exact hy) fun j hj=>jH.o j (by omega) hj);clear hy;go_wp2_with fail
     go_ret;exact cD (by rw[HR.o]) gW.o
    have tz:(dr s l r[k].cond != 0)=true:=by simp[hz]
    have HIE:vI s l r[k]=dr s l r[k].cond:=by unfold vI;rw[bM hz]
    have HR:=ai (show fG s l r=dr s l r[k].cond by rw[<-HIE];exact QD r k fq (by rw[HIE];exact hz) fun j hj=>jH.o j (by omega) hj);clear hz HIE;go_wp2_with fail
    go_ret;exact cD (by rw[HR.o]) dS.o
   have t1:=ah ((k:Int)<(rn:Int));have HR:=ai (show fG s l r=0 from WI r fun j hj=>jH.o j hj (by have:=IG.o;omega));go_wp2_with fail
   go_ret;exact cD (by rw[HR.o]) gZ.o
theorem abk (l:List cK) (a:OA) (n c:Nat) (hn:n<=1000000) (hsz:∀x∈l,x.cond.size<=1000000000000000) (m:Nat):∀(r:List Wb) (ra:OA) (rn rc:Nat) (w:World),mH r<m->m<=1000000000000000->Nr r->cZ w l a n c->gK w r ra->rn=r.length ->
  Calls Tryz.prog 96 #[.slice a n c,.slice ra rn rc] w (cz (.bool (eH l r)) w):=by
 induction m with
 | zero=>intro r ra rn rc w h;omega
 | succ m ih =>
  intro r ra rn rc w hm hM hok hl hd pq;have hrl:=ql r;have aQk:rn<=1000000000000000:=by omega
  have HL:=ai hl;have HD:=ai hd;have IG:=ai pq;have zm:=ai hok;have IH:=ai ih;have tR:=ai hsz;obtain⟨R,hR⟩:∃R,R=eH l r:=⟨_,rfl⟩
  rw[<-hR];have HR:=ai (show R=r.any (UW l) by rw[hR];exact Ua l r);clear hl hd pq hok ih hR hsz;go_enter Tryz.func96,Tryz.ntmps96
  go_wp2_with fail
  go_loopw [5] (fun t wr=>∃k:Nat,t=.int .i64 k/\k<=rn/\(∀j (h:j<r.length),j<k->UW l r[j]=false)/\Ext w wr) (fun t _=>rn - (intOf t).toNat)
  case atStart=>exact⟨0,rfl,by omega,fun j _ h=>by omega,Tz _⟩
  case round =>
   obtain⟨k,rfl,hk,hno,lM⟩:=hrel;have jH:=ai hno;have gZ:=ai lM;clear hno lM;by_cases hkn:k<rn
   ·have fq:k<r.length:=by have:=IG.o;omega
    have t1:=ag ((k:Int)<(rn:Int));obtain⟨b,off,rfl,v,hv0,hrow,hv2,hv3,hv4,hv5,hv6⟩:=gK.at r _ (gK.mono gZ.o.sub _ _ HD.o) k fq;obtain⟨c0,c1,c2,c3,c4,c5,c6,c7⟩:=hrow.eight;obtain⟨ho1,ho2,ho3,ho4,ho5⟩:=alU r zm.o k fq;have hwn:=zw r k fq;have HUU:=ai hv6;have Nh:=ai hv3;have zq:=ai hv2;have Da:=ai ho5;clear hrow hv0 hv2 hv3 hv4 hv5 hv6 ho2 ho3 ho5 ho1;go_wp2_with fail
    refine(uC l a n c hn tR.o r[k].cond _ wr ho4 (HL.o.ext gZ.o) zq.o).mono ?_;rintro e w3 ⟨rfl,hx3⟩;have dS:=ai (gZ.o.trans hx3);have c73:=hx3.cell c7;have HU3:=ai (gK.mono hx3.sub _ _ HUU.o);clear hx3 c0 c1 c2 c3 c4 c5 c6 c7;have HIL:=ai (show UW l r[k]=(decide (2000<dV l r[k].cond)||eH l r[k].gH) from rfl);obtain⟨E,hE⟩:∃E,E=dV l r[k].cond:=⟨_,rfl⟩
    rw[<-hE];rw[<-hE] at HIL;clear hE;by_cases hz:2000<E
    ·have tz:=ag ((2000:Int)<(E:Int));have HF:=ai (show R=true by
      rw[HR.o,List.any_eq_true];exact⟨r[k],aD fq,by rw[HIL.o,bO hz];rfl⟩)
     go_wp2_with fail
     go_ret;exact fQ (by rw[HF.o]) dS.o
    have tz:=ah ((2000:Int)<(E:Int));rw[bP hz,Bool.false_or] at HIL;go_wp2_with fail
    refine(IH.o r[k].gH _ _ _ w3 (by omega) (by omega) Da.o (HL.o.ext dS.o) HU3.o Nh.o).mono ?_;rintro e w5 ⟨rfl,dh⟩;have gW:=ai (dS.o.trans dh);clear dh c73;cases hb:eH l r[k].gH
    ·have FO:=ai (HIL.o.trans hb);clear hb;go_wp2_with fail
     go_roundw
     case rel =>
      refine⟨k+1,by go_num,by omega,fun j hj hjk=>?_,gW.o⟩;by_cases e':j=k
      ·subst e';exact FO.o
      exact jH.o j hj (by omega)
     case measure=>simp[intOf];omega
    have HF:=ai (show R=true by
     rw[HR.o,List.any_eq_true];exact⟨r[k],aD fq,by rw[HIL.o,hb]⟩)
    go_wp2_with fail
    go_ret;exact fQ (by rw[HF.o]) gW.o
   have t1:=ah ((k:Int)<(rn:Int));have HF:=ai (show R=false by
    rw[HR.o,List.any_eq_false];intro x hx;obtain⟨j,hj,rfl⟩:=aW.1 hx;have:=jH.o j hj (by have:=IG.o;omega);simp[this])
   go_wp2_with fail
   go_ret;exact fQ (by rw[HF.o]) gZ.o
structure RH (l:List uW) (o:ZN):Prop where
 nodup:o.Nodup
 sub:∀i∈o,iD l i=true
 after:After l o
theorem RH.start (l:List uW):RH l []:=⟨List.nodup_nil,by simp,fun p i h=>by simp at h⟩
theorem RH.snoc {l:List uW} {o:ZN} {p:Nat} (h:RH l o) (hd:iD l p=true) (hp:p∉o) (hm:mY l o p=[]):RH l (o++[p]) where
 nodup:=List.nodup_append.2 ⟨h.nodup,by simp,fun a ha b hb e=>hp (by simp at hb;rw[<-hb,<-e];exact ha)⟩
 sub i hi:=by
  rcases aN.1 hi with h1|h1
  ·exact h.sub i h1
  simp at h1;rw[h1];exact hd
 after:=h.after.snoc hm
theorem RH.le {l:List uW} {o:ZN} (h:RH l o):o.length<=lY l:=vS _ _ h.nodup fun i hi=>Dv.2 (h.sub i hi)
theorem RH.lt {l:List uW} {o:ZN} {p:Nat} (h:RH l o) (hd:iD l p=true) (hp:p∉o):o.length<lY l:=by
 have:=vS (p::o) ((List.range l.length).filter (iD l)) (List.nodup_cons.2 ⟨hp,h.nodup⟩) (fun i hi=>by
  rcases bz.1 hi with rfl|hi
  ·exact Dv.2 hd
  exact Dv.2 (h.sub i hi))
 simp only[List.length_cons] at this;unfold lY;omega
theorem RH.done {l:List uW} {o:ZN} (h:RH l o) (ha:∀i,iD l i=true->i∈o):Yi l o:=⟨h.nodup,fun i=>⟨h.sub i,ha i⟩,h.after⟩
theorem RH.stuck {l:List uW} {o:ZN} (hs:∀i,iD l i=true->i∉o->mY l o i≠[]) {p:Nat} (hd:iD l p=true) (hp:p∉o):¬vZ l:=by
 rintro⟨q,hq⟩;have key:∀(p i:Nat),q[p]?=some i->i∈o:=by
  intro p;induction p using Nat.strongRecOn with
  | ind p ih =>
   intro i hi;refine Classical.byContradiction fun hio=>?_
   refine hs i ((hq.all i).1 (List.mem_of_getElem? hi)) hio (yg.2 fun s hs d hd=>?_);obtain⟨k,hk⟩:=List.mem_iff_getElem?.1 (hq.after p i hi s hs d hd);have hkp:k<p:=by
    rcases bJ k p with h'|h'
    ·exact h'
    rw[List.getElem?_eq_none (by simp;omega)] at hk;cases hk
   rw[List.getElem?_take,bM hkp] at hk;exact ih k hkp d hk
 obtain⟨k,hk⟩:=List.mem_iff_getElem?.1 ((hq.all p).2 hd);exact hp (key k p hk)
theorem Va:uq 191 4 (.bool false) 1 1:=⟨by kernel_rfl,by kernel_rfl,rfl,by omega⟩
structure xQ (bs:Nat) (L:List Bool) (w:World):Prop where
 row:∃cur:Array Value,w.heap[bs]?=some (.cells cur 4 (0,0))/\cur.toList=L.map Value.bool
theorem xQ.cell {bs:Nat} {L:List Bool} {w:World} (h:xQ bs L w) {i:Nat} (hi:i<L.length):w.cell? ⟨bs,i,none⟩=some (.bool L[i]):=by
 obtain⟨cur,h1,h2⟩:=h.row;rw[bX h1];have:cur.toList[i]?=some (.bool L[i]):=by rw[h2];simp[hi]
 simpa using this
theorem xQ.free {bs:Nat} {L:List Bool} {w:World} (h:xQ bs L w) (i:Nat):w.frozen? ⟨bs,i,none⟩=false:=by
 obtain⟨cur,h1,h2⟩:=h.row;exact ie h1 i
theorem xQ.lt {bs:Nat} {L:List Bool} {w:World} (h:xQ bs L w):bs<w.heap.size:=by
 obtain⟨cur,h1,h2⟩:=h.row;exact bS h1
theorem xQ.ext {bs:Nat} {L:List Bool} {w w':World} (h:xQ bs L w) (hx:Ext w w'):xQ bs L w':=by
 obtain⟨cur,h1,h2⟩:=h.row;exact⟨cur,hx.blk h1,h2⟩
theorem xQ.set {bs:Nat} {L:List Bool} {w:World} (h:xQ bs L w) (i:Nat) (b:Bool):xQ bs (L.set i b) (w.setCell ⟨bs,i,none⟩ (.bool b)):=by
 obtain⟨cur,h1,h2⟩:=h.row;refine⟨_,aI w bs i _ _ (.bool b) h1,?_⟩;simp[h2,List.map_set]
theorem xQ.iZ {w:World} {base bs n:Nat} (h:w.ownsRow base 4 1 (.slice (some ⟨bs,0,none⟩) n n) n (madeCells #[Value.bool false] n).toList):xQ bs (List.replicate n false) w:=by
 rcases h.2 with ⟨h0,_⟩|⟨g,cap,cur,hv,_,hg,_,_,hs,ht⟩
 ·simp at h0
 simp only[a45,a42,Addr.mk.injEq,and_true,true_and] at hv;obtain⟨rfl,rfl⟩:=hv;refine⟨cur,hg,?_⟩;have e1:cur.toList.take (n*1)=cur.toList:=aS (by simp;omega);rw[e1] at ht;rw[ht];simp only[madeCells,List.map_replicate]
 apply List.ext_getElem
 ·simp
 intro i h1 h2;simp[Nat.mod_one]
def marks (o:ZN) (n:Nat):List Bool:=(List.range n).map fun j=>decide (j∈o)
theorem ayZ (n:Nat):marks [] n=List.replicate n false:=by simp[marks,List.map_const']
theorem NX (o:ZN) (n:Nat):(marks o n).length=n:=by simp[marks]
theorem ZF {o:ZN} {n j:Nat} (hj:j<n):(marks o n)[j]'(by rw[NX];exact hj)=decide (j∈o):=by simp[marks]
theorem ayY (o:ZN) (n p:Nat):(marks o n).set p true=marks (o++[p]) n:=by
 apply List.ext_getElem
 ·simp[marks]
 intro j h1 h2;have hj:j<n:=by simpa[marks] using h2
 have e1:(marks (o++[p]) n)[j]=decide (j∈o++[p]):=ZF hj;have e2:(marks o n)[j]'(by rw[NX];exact hj)=decide (j∈o):=ZF hj;rw[e1,List.getElem_set];by_cases e:p=j
 ·subst e;simp
 rw[bL e,e2]
 congr 1
 simp only[aN,aG];exact propext ⟨aoX,fun h=>h.resolve_right fun h=>e h.symm⟩
theorem azS:uq 26 3 (.int .i64 0) 1 8:=⟨by kernel_rfl,by kernel_rfl,rfl,by omega⟩
def aCL (l:ZN):List Value:=l.map fun (i:Nat)=>Value.int .i64 (i:Int)
theorem af1 {w:World} {base:Nat} {e:TypeId} {size:Nat} {v:Value} {n:Nat} {xs:List Value} (h:w.ownsRow base e size v n xs):∃a c,v=.slice a n c:=by
 rcases h.2 with ⟨rfl,h0⟩|⟨g,cap,cur,rfl,_⟩
 ·exact⟨none,0,by rw[h0]⟩
 exact⟨_,_,rfl⟩
def aSl (l:List uW) (w:World) (e:Ending) (w':World):Prop:=Ext w w'/\((vZ l/\∃a n c,e=.returned (.tuple #[.slice a n c,.int .i64 0]))\/(¬vZ l/\e=.returned (.tuple #[.slice none 0 0,.int .i64 10])))
def RO1 (w wb:World) (l:List uW) (bs n m:Nat) (v:Value) (wr:World):Prop:=∃o,m=lY l - o.length/\RH l o/\wr.ownsRow wb.heap.size 3 1 v o.length (aCL o)/\xQ bs (marks o n) wr/\Ext w wr/\wb.heap.size<=wr.heap.size
def RO2 (w3:World) (l:List uW) (o:ZN) (n:Nat) (nx lf i:Value) (wr:World):Prop:=∃k:Nat,i=.int .i64 k/\k<=n/\Ext w3 wr /\
 ((nx=.int .i64 (-1)/\(∃b:Bool,lf=.bool b/\(b=true ↔ ∃j,j<k/\iD l j=true/\j∉o))/\∀j,j<k->iD l j=true->j∉o->mY l o j≠[])\/(∃(p:Nat) (b:Bool),nx=.int .i64 p/\lf=.bool b/\p<n/\iD l p=true/\p∉o/\mY l o p=[]))
def RO3 (w5:World) (l:List uW) (o:ZN) (nm:ZB) (rd i:Value) (wr:World):Prop:=∃(k:Nat) (b:Bool),i=.int .i64 k/\k<=nm.length/\rd=.bool b/\(b=true ↔ ∀s∈nm.take k,∀d,gA l s=some d->d∈o)/\Ext w5 wr
theorem apL {l:List uW} {o:ZN} {nm:ZB} {k:Nat} (hk:k<nm.length) {b:Bool} (h:b=true ↔ ∀s∈nm.take k,∀d,gA l s=some d->d∈o) {b':Bool} (hb:b'=true ↔ ∀d,gA l nm[k]=some d->d∈o):(b&&b')=true ↔ ∀s∈nm.take (k+1),∀d,gA l s=some d->d∈o:=by
 rw[aF,h,hb,aO hk];constructor
 ·rintro⟨h1,h2⟩ s hs d hd;rcases aN.1 hs with h3|h3
  ·exact h1 s h3 d hd
  simp only[aG] at h3;subst h3;exact h2 d hd
 intro h1;exact⟨fun s hs=>h1 s (aK _ hs),h1 nm[k] (aL _ (by simp))⟩
theorem amz (l:List cK) (a:OA) (n c:Nat) (w:World) (hl:cZ w l a n c) (hn:n<=1000) (hsz:∀x∈l,x.cond.size<=100000) :
  Calls Tryz.prog 94 #[.slice a n c] w (aSl (l.map cK.tV) w):=by
 have HL:=ai hl;have HN:=ai hl.len;have tR:=ai hsz;obtain⟨dl,hdl⟩:∃dl,dl=l.map cK.tV:=⟨_,rfl⟩
 have QL:=ai hdl;have HDN:=ai (show n=dl.length by rw[hdl];simpa using hl.len);rw[<-hdl];clear hl hsz hdl;obtain⟨i0,Yy,hz0,hz1,hz2⟩:=info_parts Va.info;have hcn:lY dl<=1000:=by
  have h1:=HDN.o;have h2:lY dl<=dl.length:=by
   unfold lY;have:=List.length_filter_le (iD dl) (List.range dl.length);simpa using this
  omega
 go_enter Tryz.func94,Tryz.ntmps94
 go_wp2_with (at_make;refine wpList_make_full _ rfl _ _ 191 rfl w.heap.size 4 i0 (.bool false) 1 Va.ht Yy hz0 hz1 _ _ _ _ n rfl rfl rfl rfl ?c1 ?c2 ?c3 ?_)
 case c1=>rw[hz2];omega
 case c2=>unfold maxLen;omega
 case c3=>omega
 intro wb oC gY;obtain⟨bs,CR⟩:∃bs,bs=w.heap.size:=⟨_,rfl⟩
 rw[<-CR] at oC ⊢;have El:=ai (xQ.iZ oC);have dS:=ai (show Ext w wb from⟨gY.os,gY.tape,gY.output,gY.size,fun k hk=>gY.block k hk (by simp)⟩);have wH:=ai CR;have hbl:=El.o.lt;clear oC gY CR;go_wp2_with fail
 go_loopg [4] (lY dl) (RO1 w wb dl bs n)
 case atStart=>exact⟨[],rfl,RH.start dl,a4' _ _ _ _,by rw[ayZ];exact El.o,dS.o,aU _⟩
 case round =>
  obtain⟨o,hm,hinv,hown,akN,hx,a2D⟩:=hrel;obtain⟨wo,rfl⟩:∃wo:World,wo=wr:=⟨_,rfl⟩
  have HM:=ai hm;have HI:=ai hinv;have HO:=ai hown;have Ni:=ai akN;have HX:=ai hx;obtain⟨oa,oc,hov⟩:=af1 hown;subst hov;have hol:=hinv.le;clear hm hinv hown akN hx El dS;go_wp2_with fail
  go_loopw [6,7,8] (RO2 wo dl o n) (fun _ _ i _=>n - (intOf i).toNat)
  case atStart=>exact⟨0,rfl,by omega,Tz _,aoX ⟨rfl,⟨false,rfl,by simp⟩,fun j h=>by omega⟩⟩
  case round =>
   obtain⟨k,rfl,hk,hxk,arc⟩:=hrel;obtain⟨wk,rfl⟩:∃wk:World,wk=wr:=⟨_,rfl⟩
   have HXK:=ai hxk;clear hxk;rcases arc with ⟨rfl,⟨b,rfl,hb⟩,hno⟩|⟨p,b,rfl,rfl,hpn,hpd,hpo,hpm⟩
   ·have HB:=ai hb;have jH:=ai hno;clear hb hno;by_cases hkn:k<n
    ·have fq:k<l.length:=by have:=HN.o;omega
     have t1:=ag ((k:Int)<(n:Int));obtain⟨cb,ld,v,rfl,fO,hrow⟩:=(HL.o.ext (HX.o.trans HXK.o)).at fq;obtain⟨c0,c1,c2,c3,c4,c5,c6,c7,c8,c9⟩:=hrow.BB;have zq:=ai fO.2.2.1;have hkk:=fO.1;have HID:=ai (show iD dl k=(l[k].kind==1) by rw[QL.o];exact sY fq);have HUS:=ai (show jy dl k=jB (fX l[k].cond) by rw[QL.o];exact xm fq);rw[hkk] at c0;have hLk:k<(marks o n).length:=by rw[NX];exact hkn
     have hcs:=(Ni.o.ext HXK.o).cell hLk;rw[ZF hkn] at hcs;have Sc:(0:Int)<=(k:Int):=by omega
     have ti1:(k:Int)<(n:Int):=by omega
     clear fO hrow hkk c1 c8 c9;by_cases hgo:iD dl k=true/\k∉o
     ·obtain⟨hgd,hgo⟩:=hgo;have tk:(l[k].kind != 1)=false:=by rw[HID.o] at hgd;simp[bne,hgd]
      have aJQ:=ah (k∈o) hgo;rw[aJQ] at hcs;clear aJQ;have HGO:=ai hgo;have R9:=ai hgd;clear hgo hgd;go_wp2_with fail
      obtain⟨nm,hnm⟩:∃nm,nm=jB (fX l[k].cond):=⟨_,rfl⟩
      have aWd:=tR.o _ (aD fq);refine(IM l[k].cond _ _ (by omega) zq.o).mono ?_;rw[<-hnm];rw[<-hnm] at HUS;rintro r w5 ⟨na,nc,rfl,hst,dh⟩;have HST:=ai hst;have gW:=ai (HXK.o.trans dh);have aWr:nm.length<=100000:=by
       rw[hnm];have h1:(jB (fX l[k].cond)).length<=(fX l[k].cond).length:=by have:=aai (fX l[k].cond) [];simpa[jB] using this
       exact aV h1 (aV (zM _) aWd)
      clear hst dh hnm c0 c2 c3 c4 c5 c6 c7 hcs zq;go_wp2_with fail
      go_loopw [9,11] (RO3 w5 dl o nm) (fun _ i _=>nm.length - (intOf i).toNat)
      case atStart=>exact⟨0,true,rfl,by omega,rfl,by simp,Tz _⟩
      case round =>
       obtain⟨q,rd,rfl,hq,rfl,hrd,hxq⟩:=hrel;have HRD:=ai hrd;have HXQ:=ai hxq;clear hrd hxq;by_cases hqn:q<nm.length
       ·have t2:=ag ((q:Int)<(nm.length:Int));obtain⟨nb,aVY,rfl,cn⟩:=(HST.o.ext HXQ.o).2.2.2 q hqn;have ac4:=HX.o.trans (gW.o.trans HXQ.o);have VN:=ai (xB l _ n c nm[q] wr (HL.o.ext ac4) (by omega));have AD:=ai (show gA dl nm[q]=dz l nm[q] by rw[QL.o];exact rA l _);cases hda:dz l nm[q] with
        | none =>
         rw[hda,Al] at VN;have HN3:=ai (apL hqn HRD.o (b':=true) (by rw[AD.o,hda];simp));clear hda ac4;cases rd
         all_goals
          go_wp2_with fail
          refine VN.o.mono ?_;rintro r w6 ⟨rfl,rfl⟩;go_wp2_with fail
          go_roundw
          case rel=>exact⟨q+1,_,by go_num,by omega,rfl,HN3.o,HXQ.o⟩
          case measure=>simp[intOf];omega
        | some d =>
         rw[hda,nX] at VN;have azk:d<l.length:=by
          have:=hda;unfold dz at this;rw[aJ] at this;exact this.1
         have hdn:d<n:=by have:=HN.o;omega
         have HN3:=ai (apL hqn HRD.o (b':=decide (d∈o)) (by rw[AD.o,hda];simp));have hLd:d<(marks o n).length:=by rw[NX];exact hdn
         have hcd:=(Ni.o.ext (gW.o.trans HXQ.o)).cell hLd;rw[ZF hdn] at hcd;have td0:(0:Int)<=(d:Int):=by omega
         have td1:(d:Int)<(n:Int):=by omega
         clear hda ac4;cases rd
         all_goals
          go_wp2_with fail
          refine VN.o.mono ?_;rintro r w6 ⟨rfl,rfl⟩;go_wp2_with fail
          go_roundw
          case rel=>exact⟨q+1,_,by go_num,by omega,rfl,HN3.o,HXQ.o⟩
          case measure=>simp[intOf];omega
       have t2:=ah ((q:Int)<(nm.length:Int));have HMI:=ai (show rd=true ↔ mY dl o k=[] by
        rw[HRD.o,aS (by omega),yg,HUS.o])
       cases rd
       ·go_wp2_with fail
        go_roundw
        case rel =>
         refine⟨k+1,by go_num,by omega,gW.o.trans HXQ.o,aoX ⟨rfl,⟨true,rfl,?_⟩,fun j hj hd ho=>?_⟩⟩
         ·exact⟨fun _=>⟨k,by omega,R9.o,HGO.o⟩,fun _=>rfl⟩
         by_cases e:j=k
         ·subst e;intro h;have:=HMI.o.2 h;cases this
         exact jH.o j (by omega) hd ho
        case measure=>simp[intOf];omega
       go_wp2_with fail
       go_roundw
       case rel=>exact⟨k+1,by go_num,by omega,gW.o.trans HXQ.o,a4Z ⟨k,true,rfl,rfl,hkn,R9.o,HGO.o,HMI.o.1 rfl⟩⟩
       case measure=>simp[intOf];omega
     have Na:=ai (show ∃b':Bool,Value.bool b=.bool b'/\(b'=true ↔ ∃j,j<k+1/\iD dl j=true/\j∉o) from⟨b,rfl,by
      rw[HB.o];constructor
      ·rintro⟨j,h1,h2⟩;exact⟨j,by omega,h2⟩
      rintro⟨j,h1,h2,h3⟩;refine⟨j,?_,h2,h3⟩;rcases bJ j k with h|h
      ·exact h
      obtain rfl:j=k:=by omega
      exact a40 ⟨h2,h3⟩ hgo⟩)
     have HN2:=ai (show ∀j,j<k+1->iD dl j=true->j∉o->mY dl o j≠[] from fun j hj hd ho=>by
      rcases bJ j k with h|h
      ·exact jH.o j h hd ho
      obtain rfl:j=k:=by omega
      exact a40 ⟨hd,ho⟩ hgo)
     by_cases tC:iD dl k=true
     ·have tk:(l[k].kind != 1)=false:=by rw[HID.o] at tC;simp[bne,tC]
      have hin:=ag (k∈o) (Classical.byContradiction fun h=>hgo ⟨tC,h⟩);rw[hin] at hcs;clear hin hgo tC;go_wp2_with fail
      go_roundw
      case rel=>exact⟨k+1,by go_num,by omega,HXK.o,aoX ⟨rfl,Na.o,HN2.o⟩⟩
      case measure=>simp[intOf];omega
     have tk:(l[k].kind != 1)=true:=by rw[HID.o] at tC;simp[bne,tC]
     clear hgo tC;go_wp2_with fail
     go_roundw
     case rel=>exact⟨k+1,by go_num,by omega,HXK.o,aoX ⟨rfl,Na.o,HN2.o⟩⟩
     case measure=>simp[intOf];omega
    have t1:=ah ((k:Int)<(n:Int));have tC:k=dl.length:=by have:=HDN.o;omega
    have zi:=ai (HX.o.trans HXK.o);cases hbc:b
    ·have uF:=ai (show vZ dl from⟨o,HI.o.done fun i hi=>Classical.byContradiction fun h=>by
      have:=HB.o.2 ⟨i,by rw[tC];exact mz hi,hi,h⟩;rw[hbc] at this;cases this⟩)
     clear tC;go_wp2_with fail
     go_ret2
     exact⟨zi.o,aoX ⟨uF.o,oa,_,oc,rfl⟩⟩
    obtain⟨j,hj1,hj2,hj3⟩:=HB.o.1 hbc;have uF:=ai (show ¬vZ dl from RH.stuck (fun i hi ho=>jH.o i (by rw[tC];exact mz hi) hi ho) hj2 hj3);clear tC;go_wp2_with fail
    go_ret2
    exact⟨zi.o,a4Z ⟨uF.o,rfl⟩⟩
   have t2:=ah ((p:Int)<0);have K8:=ai (HI.o.snoc hpd hpo hpm);have hlt:=HI.o.lt hpd hpo;have zm:=ai (cO HO.o (HXK.o.cR []) (by simp));have Na:=ai (Ni.o.ext HXK.o);have hbk:=Na.o.lt;have hLp:p<(marks o n).length:=by rw[NX];exact hpn
   have hzk:=HXK.o.size;have hfs:=Na.o.free p;have hcp:=Na.o.cell hLp;have HSS:=ai Na.o;have tp0:(0:Int)<=(p:Int):=by omega
   have tp1:(p:Int)<(n:Int):=by omega
   clear hpd hpo hpm;by_cases hkn:k<n
   case' pos=>have t1:=ag ((k:Int)<(n:Int))
   case' neg=>have t1:=ah ((k:Int)<(n:Int))
   all_goals
    go_wp2_with (at_builtin;refine dA azS rfl _ _ rfl wb.heap.size _ o.length _ rfl zm.o _ 1 1 rfl rfl rfl (by simp[Value.oneCell']) (by unfold maxLen;omega) (by omega) (by omega) ?_)
    intro v8 w8 dY iI gX;obtain⟨a8,c8,Iv⟩:=af1 dY;subst Iv;have hbr:bs∉rowOf (.slice oa o.length oc):=fun hm=>by have:=(HO.o.lt bs (bV.1 hm)).1;omega
    have hS8:xQ bs (marks o n) w8:=by
     obtain⟨cur,g1,g2⟩:=HSS.o.row;exact⟨cur,iI.blk g1 hbr,g2⟩
    have hf8:=hS8.free p;have a3W:=hS8.cell hLp;have AM:=ai (hS8.set p true);rw[ayY] at AM;have a4f:=hS8.lt;have zo:=ai (show w8.ownsRow wb.heap.size 3 1 (.slice a8 (o.length+1) c8) (o++[p]).length (aCL (o++[p])) by simpa[aCL] using dY);have nB:=ai (iI.ext (HX.o.trans HXK.o) (fun q hq=>by have h1:=(HO.o.lt q (bV.1 hq)).1;have h2:=wH.o;omega));have hz8:=iI.size;have aQz:∀q,(Value.slice a8 (o.length+1) c8).ownBlock=some q->q∉[bs]:=fun q hq hm=>by
     simp only[aG] at hm;subst hm;rcases gX q hq with e|e
     ·exact hbr (bV.2 e)
     omega
    have HO9:=ai (cO zo.o ((ct.refl [bs] w8).setCell (p:=⟨bs,p,none⟩) (aoX (by simp)) (.bool true)) aQz);clear dY iI gX hS8 hfs hcp hbr aQz;go_wp2_with fail
    go_roundg (lY dl - (o.length+1))
    case rel=>exact⟨o++[p],by simp,K8.o,HO9.o,AM.o,nB.o.fV (by simp;rw[wH.o];exact aU _) _,by simp;omega⟩
    case measure=>have:=HM.o;omega
end Go.Proofs.YtefjomofjejklaaGreatDoor
