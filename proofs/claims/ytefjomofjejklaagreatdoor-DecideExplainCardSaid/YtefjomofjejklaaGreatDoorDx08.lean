/-
  Texts of the claim, joined: AppAt, GenB, GenB2, GenC, RBerr, ROrd1, Seen, Names2.
-/
import Derived.Maps.AppendAt
import Derived.Test.YtefjomofjejklaaGreatDoorDx07
import Derived.StringKeys
namespace Go.Proofs.YtefjomofjejklaaGreatDoor
set_option maxRecDepth 100000
set_option maxHeartbeats 32000000
open Go.RowKit
theorem fK {t e:TypeId} {z:Value} {size bytes:Nat} (E:zh t e z size bytes) {ops:Array Oper} {rest:List Oper} {o:Oper} {a:Act} {Q:Exit->Act->World->Prop} {X:World} {arr:Array Value} {tt:TypeId}
  (hgd:o.guard=none) (s x:Operand) (ho:o.op=.call { callee:=.builtin .append,args:=#[s,x],argTypes:=#[t,t] }) (base:Nat) (v:Value) (n:Nat) (xs:List Value) (hs:a.eval s=v) (hown:X.ownsRow base e size v n xs)
  (B m c:Nat) (hx:a.eval x=.slice (some ⟨B,0,none⟩) m c) (hB:B=X.heap.size) (hl:arr.size=m*size) (h1:∀u∈arr.toList,u.oneCell'=true) (hm:n+m<=maxLen) (hb:(n+m)*bytes<=140737488355328) (hbase:base<=X.heap.size)
  (h:∀v' w',w'.ownsRow base e size v' (n+m) (xs++arr.toList)->dO (rowOf v) X w'->(∀k,v'.ownBlock=some k->v.ownBlock=some k\/X.heap.size<=k)->wpList Tryz.prog ops Q rest (a.put o.dst v') w'):wpList Tryz.prog ops Q (o::rest) a (X.alloc (.cells arr tt)):=by
 subst hB;obtain⟨i,hi,hz,hsz,hby⟩:=info_parts E.info;refine wpList_append_own_at (w:=X.alloc (.cells arr tt)) hgd s x t ho base e i z size bytes E.ht hi hz hsz hby E.hzs E.hsz v n xs hs (hown.alloc _) ⟨X.heap.size,0,none⟩ m c arr.toList hx (by simpa using hl) ?_ h1 hm hb (by simp;omega) ?_
 ·intro j u hu;have:(⟨X.heap.size,0,none⟩:Addr).add j=⟨X.heap.size,j,none⟩:=by unfold Addr.add;split<;>simp_all
  rw[this,World.cell?_alloc_at _ _ _ _ rfl];simpa using hu
 intro v' w' h2 h3 _ h5;refine h v' w' h2 ((((Ext.refl X).alloc _).fH _).trans (iM h3) fun x hx=>Or.inl hx) fun k hk=>?_
 rcases h5 with e|e
 ·exact Or.inl (e ▸ hk)
 rw[e] at hk;simp at hk;exact Or.inr (by omega)
theorem dO.weak {N M:ZN} {w w':World} (h:dO N w w') (hs:∀x∈N,x∈M):dO M w w':=⟨h.os,h.tape,h.output,h.size,fun k hk hn=>h.block k hk fun hm=>hn (hs k hm)⟩
theorem iG {w:World} {base:Nat} {e:TypeId} {size:Nat} {v:Value} {n:Nat} {xs:List Value} (h:w.ownsRow base e size v n xs):∃a c,v=.slice a n c:=by
 rcases h.2 with ⟨rfl,rfl⟩|⟨g,cap,cur,rfl,_⟩
 ·exact⟨none,0,rfl⟩
 exact⟨_,cap,rfl⟩
def ad9 (w:World) (x:Wb) (v:J4):Prop:=v.name=x.name/\fC w x.cond v.x.val/\v.nu=x.jZ.length/\v.nu<=v.cu/\rP v.au v.cu/\jJ w x.jZ v.au
theorem ad9.mono {w w':World} {x:Wb} {v:J4} (h:ad9 w x v) (hs:Sub w w'):ad9 w' x v:=⟨h.1,h.2.1.mono hs,h.2.2.1,h.2.2.2.1,h.2.2.2.2.1,jJ.mono hs _ _ h.2.2.2.2.2⟩
def afN (w:World) (l:List Wb) (vs:List J4):Prop:=l.length=vs.length/\∀i (h1:i<l.length) (h2:i<vs.length),ad9 w l[i] vs[i]
theorem afN.mono {w w':World} {l:List Wb} {vs:List J4} (h:afN w l vs) (hs:Sub w w'):afN w' l vs:=⟨h.1,fun i h1 h2=>(h.2 i h1 h2).mono hs⟩
theorem afN.nil (w:World):afN w [] []:=⟨rfl,fun i h=>by simp at h⟩
theorem afN.snoc {w:World} {l:List Wb} {vs:List J4} {c:Wb} {v:J4} (h:afN w l vs) (hc:ad9 w c v):afN w (l++[c]) (vs++[v]):=by
 refine⟨by simp[h.1],fun i h1 h2=>?_⟩;by_cases hi:i<l.length
 ·have hi2:i<vs.length:=by rw[<-h.1];exact hi
  simp only[bT hi,bT hi2];exact h.2 i hi hi2
 have e1:i=l.length:=by simp at h1;omega
 subst e1;simp only[cZ (bg _),cZ (show vs.length<=l.length by rw[h.1];exact bg _),Nat.sub_self,bP];simpa[h.1] using hc
theorem aQH:zh 46 53 (.agg #[.string ⟨#[]⟩,.int .i64 0,.string ⟨#[]⟩,.slice none 0 0,.int .i64 0,.int .i64 0,.slice none 0 0,.slice none 0 0]) 8 128:=⟨by kernel_rfl,by kernel_rfl,rfl,by decide⟩
theorem aFw {w:World} {M:ZN} {base:Nat} {v:Value} {l:List Wb} {vs:List J4} (h:w.ownsRow base 53 8 v l.length (vs.flatMap J4.cells)) (hM:∀k,v.ownBlock=some k->k∉M) (hR:afN (mask w M) l vs) :
  ∃a c,v=.slice a l.length c/\l.length<=c/\rP a c/\jJ (mask w M) l a:=by
 rw[hR.1] at h;obtain⟨a,c,rfl,hr⟩:=iF.kZ J4.len h;refine⟨a,c,by rw[hR.1],by rw[hR.1];exact hr.2.1,hr.2.2.1,?_⟩
 match l,hR with
 | [],_=>unfold jJ;trivial
 | e::r,hR =>
  obtain⟨b,off,rfl,h1⟩:=hr.2.2.2 0 (by rw[<-hR.1];simp);refine jJ.of (e::r) off vs hR.1 fun i h3 h4=>?_
  obtain⟨q1,q2,q3,q4,q5,q6⟩:=hR.2 i h3 h4;refine⟨q1,fun j hj=>?_,q2,q3,q4,q5,q6⟩;obtain⟨b',off',e1,h5⟩:=hr.2.2.2 i h4;simp only[Option.some.injEq,Addr.mk.injEq,and_true] at e1;obtain⟨rfl,rfl⟩:=e1;rw[iH,dh (hM _ rfl),h5 j hj]
theorem att:(l:List Wb)->(n:BA)->(c:Ex)->(u:List Wb)->qU (l++[.mk n c u])=qU l+1+qU u
 | [],n,c,u=>by simp[qU]
 | .mk n' c' u'::r,n,c,u=>by rw[List.cons_append,qU,qU,att r n c u];omega
theorem QV {x:BA} (h:nameB x=true):x.size<=16:=by
 simp only[nameB,nR,aJ,aN] at h;exact h.1.1.1.1.2
def YS (attrs:List Attr) (names:ZB):List Wb->Prop
 | []=>True
 | .mk n c u::r=>nameB n=true/\tY attrs names 2 c/\YS attrs names u/\YS attrs names r
theorem YS.snoc {attrs:List Attr} {names:ZB}:(l:List Wb)->(n:BA)->(c:Ex)->(u:List Wb)->YS attrs names l->nameB n=true->tY attrs names 2 c->YS attrs names u->YS attrs names (l++[.mk n c u])
 | [],n,c,u,_,h1,h2,h3=>by simp only[List.nil_append,YS];exact⟨h1,h2,h3,trivial⟩
 | .mk n' c' u'::r,n,c,u,h,h1,h2,h3=>by
  rw[YS] at h;rw[List.cons_append,YS];exact⟨h.1,h.2.1,h.2.2.1,YS.snoc r n c u h.2.2.2 h1 h2 h3⟩
theorem YS.ok {attrs:List Attr} (hs:attrs∈jw) {names:ZB} (hn:∀x∈names,x.size<=1000):(l:List Wb)->YS attrs names l->Vg l
 | [],_=>by unfold Vg;trivial
 | .mk n c u::r,h=>by
  rw[YS] at h;have h1:=Dt hs hn 2 c h.2.1;have h2:=h1.size;have h3:=QV h.1;simp only[Zf] at h2;rw[Vg];exact⟨by omega,h1.fits,h1.few,by omega,YS.ok hs hn u h.2.2.1,YS.ok hs hn r h.2.2.2⟩
def awM:Nat->Nat|0=>0|d+1=>2*(1+awM d)
def aAM (attrs:List Attr) (names:ZB) (d:Nat) (w0:World) (bd:Nat) (M:ZN) (w:World) (e:Ending) (w':World):Prop:=∃l a n c,e=.returned (.slice a n c)/\n=l.length/\n<=c/\rP a c/\jJ (mask w' M) l a/\YS attrs names l/\qU l<=awM d/\dS w0 w' bd/\dO [bd] w w'
def GnG (w0 wr:World) (bd:Nat) (W:World):Prop:=dS w0 W bd/\dO [bd] wr W
def GnE (bd:Nat) (_:Nat) (W W':World):Prop:=dO [bd] W W'
def GnB (bd q:Nat) (N:ZN) (k:Nat) (W W':World):Prop:=dO (if k=q then bd::N else [bd]) W W'
def GnL (w0 wr:World) (bd q:Nat) (N:ZN) (L:ZN) (W:World):Prop:=dS w0 W bd/\dO (bd::N) wr W/\(q∉L->dO [bd] wr W)
theorem gnl {w0 wr W W':World} {bd q:Nat} {N L:ZN} (h:dS w0 W bd/\dO [bd] wr W) (hd:dS w0 W' bd) (hc:dO [bd] W W'):GnL w0 wr bd q N L W' :=
 ⟨hd,(h.2.then hc).weak (fun y hy=>by simp at hy;simp[hy]),fun _=>h.2.then hc⟩
theorem dZ {W W':World} {bd:Nat} {N:ZN} (h:dO [bd] W W') (hb:bd∈N):Sub (mask W N) (mask W' N):=dX fun k hk hn=>⟨hn,h.block k hk fun hm=>hn (by simp only[aK] at hm;rw[hm];exact hb)⟩
def BkL (attrs:List Attr) (names:ZB) (w0 w:World) (d bd bw:Nat) (M:ZN) (sa:OA) (sn sc:Nat) (v k:Value) (wr:World):Prop:=∃(l:List Wb) (vs:List J4) (q:Int),k=.int .i64 q/\q+l.length<=2/\0<=q/\wr.ownsRow (bw+1) 53 8 v l.length (vs.flatMap J4.cells)/\afN (mask wr (bd::rowOf v++M)) l vs /\
 YS attrs names l/\qU l<=l.length*(1+awM d)/\dS w0 wr bd/\dO [bd] w wr/\wr.heap[bw]?=some (.cells #[.slice sa sn sc] 24 (0,0))
def aGW:Obj:=.cells #[.string ⟨#[119]⟩,.string ⟨#[120]⟩,.string ⟨#[121]⟩] 9 (0,0)
def ag' (attrs:List Attr) (names:ZB) (d:Nat) (x:Wb):Prop:=nameB x.name=true/\tY attrs names 2 x.cond/\YS attrs names x.jZ/\qU x.jZ<=awM d
theorem aPt {W:World} {g r:Nat} (h:W.heap[g]?=some aGW) (hr:r<3):∃s:BA,W.cell? ⟨g,r,none⟩=some (.string s)/\nameB s=true:=by
 rcases(by omega:r=0\/r=1\/r=2) with rfl|rfl|rfl
 ·exact⟨_,dM h 0,by decide +kernel⟩
 ·exact⟨_,dM h 1,by decide +kernel⟩
 exact⟨_,dM h 2,by decide +kernel⟩
theorem dS.lt {w0 w:World} {bd:Nat} (h:dS w0 w bd):bd<w.heap.size:=by obtain⟨_,_,_,_,hb,_⟩:=h;exact dH hb
def a0X (attrs:List Attr) (names:ZB) (d bd bw:Nat) (M N:ZN) (l:List Wb) (ws:List J4) (sa:OA) (sn sc:Nat) (an:OA) (nn cn:Nat) (va:OA) (vc:Nat):Nat->Value->World->Prop
 | 0,u,_=>u=.slice va l.length vc
 | 1,u,W=>∃(g:Nat),u=.slice (some ⟨g,0,none⟩) 3 3/\(W.heap[g]?=some aGW/\g≠bd)
 | 2,u,_=>u=.pointer (some ⟨bd,0,none⟩)
 | 3,u,_=>∃(r:Nat),u=.int .i64 ((r:Nat):Int)/\r<3
 | 4,u,W=>∃(g:Nat) (r:Nat),u=.pointer (some ⟨g,r,none⟩)/\(W.heap[g]?=some aGW/\g≠bd/\r<3)
 | 5,u,_=>∃(s:BA),u=.string s/\nameB s=true
 | 6,u,_=>u=.pointer (some ⟨bd,0,none⟩)
 | 7,u,_=>u=.agg #[.slice sa sn sc]
 | 8,u,_=>u=.slice an nn cn
 | 9,u,W=>∃(x:Ex) (xv:fU),u=fU.val xv/\(tY attrs names 2 x/\fC (mask W N) x (fU.val xv))
 | 10,u,_=>u=.pointer (some ⟨bd,0,none⟩)
 | 11,u,_=>u=.agg #[.slice sa sn sc]
 | 12,u,_=>u=.slice an nn cn
 | 13,u,_=>u=.int .i64 ((d:Int)+1)
 | 14,u,_=>u=.int .i64 d
 | 15,u,W=>∃(bl:List Wb) (ba:OA) (bn:Nat) (bc:Nat),u=.slice ba bn bc/\(bn=bl.length/\bn<=bc/\rP ba bc/\jJ (mask W N) bl ba/\YS attrs names bl/\qU bl<=awM d)
 | 16,u,W=>∃(x:Wb) (wv:J4),u=.agg #[.string wv.name,.int .i64 wv.x.op,.string wv.x.name,.slice wv.x.aw wv.x.nw wv.x.cw,.int .i64 wv.x.lo,.int .i64 wv.x.hi,.slice wv.x.aa wv.x.na wv.x.ca,.slice wv.au wv.nu wv.cu]/\(ad9 (mask W N) x wv/\ag' attrs names d x)
 | 17,u,W=>∃(x:Wb) (wv:J4) (g:Nat),u=.slice (some ⟨g,0,none⟩) 1 1/\(W.heap[g]?=some (.cells wv.cells.toArray 53 (0,0))/\g≠bd/\ad9 (mask W N) x wv/\ag' attrs names d x)
 | _,u,W=>∃(x:Wb) (wv:J4) (v2:Value),u=v2/\(W.ownsRow (bw+1) 53 8 v2 (l.length+1) (ws.flatMap J4.cells++wv.cells)/\afN (mask W (bd::rowOf v2++M)) (l++[x]) (ws++[wv])/\ag' attrs names d x)
theorem awQ {attrs:List Attr} (names:ZB) (hok:∀a∈attrs,Yj a) (hne:attrs≠[]) (hl:attrs.length<=1000) (hnl:names.length<=1000):∀(d:Nat),d<=10->∀{w0 w:World} {bd:Nat} (_:dS w0 w bd) (sa:OA) (sn sc:Nat) (an:OA) (nn cn:Nat) (M:ZN) (_:fJ (mask w [bd]) attrs (.agg #[.slice sa sn sc])) (_:ji (mask w [bd]) names an nn cn) (_:∀y∈M,y<w.heap.size),
  Calls Tryz.prog 41 #[.pointer (some ⟨bd,0,none⟩),.agg #[.slice sa sn sc],.slice an nn cn,.int .i64 (d:Nat)] w (aAM attrs names d w0 bd M w):=by
 intro d;induction d with
 | zero =>
  intro _ w0 w bd hd sa sn sc an nn cn M hs hn hM;have HD:=ak (hd.ext ((Ext.refl w).alloc (.cells #[.slice sa sn sc] 24)));clear hd hs hn;go_enter Tryz.func41,Tryz.ntmps41
  go_wp2_with fail
  refine(fF HD.o 3 (by omega) (by omega)).mono ?_;rintro e w1 ⟨z,rfl,hz0,hz1,hd1,hc1⟩;have HD1:=ak hd1;have qw:=ak ((((Ext.refl w).alloc (.cells #[.slice sa sn sc] 24)).fH [bd]).then hc1);clear hd1 hc1;go_wp2_with fail
  go_loopw [9,10] (fun v k wr=>v=.slice none 0 0/\k=.int .i64 z/\wr=w1) (fun _ k _=>(intOf k).toNat)
  case atStart=>exact⟨rfl,rfl,rfl⟩
  case round =>
   obtain⟨rfl,rfl,rfl⟩:=hrel;by_cases hq:0<z
   ·have t14:=ah (0<z) hq;go_wp2_with fail
    go_ret;exact⟨[],none,0,0,rfl,rfl,bg _,Or.inl ⟨rfl,rfl⟩,by unfold jJ;trivial,by unfold YS;trivial,by simp[qU],HD1.o,qw.o⟩
   have t14:=aj (0<z) hq;go_wp2_with fail
   go_ret;exact⟨[],none,0,0,rfl,rfl,bg _,Or.inl ⟨rfl,rfl⟩,by unfold jJ;trivial,by unfold YS;trivial,by simp[qU],HD1.o,qw.o⟩
 | succ d ih =>
  intro hd10 w0 w bd hd sa sn sc an nn cn M hs hn hM;have hbw:=hd.lt;have hb0:w0.heap.size<=bd:=by obtain⟨_,_,_,_,_,_,_,_,_,h⟩:=hd;exact h
  have HB0:=ak (show w0.heap.size<=w.heap.size+1 by omega);have DJ:=ak hbw;have HD:=ak (hd.ext ((Ext.refl w).alloc (.cells #[.slice sa sn sc] 24)));have HS:=ak hs;have HN:=ak hn;have HM:=ak hM;have IH:=ak @ih;have Zm:=ak hok;have HB1:=ak (dG w (.cells #[.slice sa sn sc] 24));clear hd hs hn hM ih hok hbw hb0;go_enter Tryz.func41,Tryz.ntmps41
  go_wp2_with fail
  refine(fF HD.o 3 (by omega) (by omega)).mono ?_;rintro e w1 ⟨z,rfl,hz0,hz1,hd1,hc1⟩;have HD1:=ak hd1;have qw:=ak ((((Ext.refl w).alloc (.cells #[.slice sa sn sc] 24)).fH [bd]).then hc1);have HB2:=ak (hc1.blk HB1.o (by have:=DJ.o;simp;omega));obtain⟨bw,hbw⟩:∃bw,bw=w.heap.size:=⟨_,rfl⟩
  have oQ:=ak hbw;rw[<-hbw] at HB2 HB0 DJ HM ⊢;clear hd1 hc1 HB1 HD hbw;go_wp2_with fail
  go_loopw [9,10] (BkL attrs names w0 w d bd bw M sa sn sc) (fun _ k _=>(intOf k).toNat)
  case atStart=>exact⟨[],[],z,rfl,by simp;omega,hz0,World.ownsRow_nil _ _ _ _,afN.nil _,by unfold YS;trivial,by simp[qU],HD1.o,qw.o,HB2.o⟩
  case round =>
   obtain⟨l,ws,q,rfl,hq2,hq0,hown,hwr,hok,hwn,hdk,hcg,hbx⟩:=hrel;obtain⟨va,vc,hv⟩:=iG hown;subst hv;have HOW:=ak hown;have HWL:=ak hwr;have HWO:=ak hok;have HWN:=ak hwn;have HDK:=ak hdk;have HCG:=ak hcg;have lV:=ak hbx;have zN:=ak (show bw+1<=wr.heap.size from dH hbx);clear hown hwr hok hwn hdk hcg hbx HD1 qw HB2;by_cases hq:0<q
   ·have t14:=ah (0<q) hq;have t17:=ah ((0:Int)<(d:Int)+1);have hl2:l.length<=2:=by omega
    obtain⟨N,hN⟩:∃N,N=bd::rowOf (.slice va l.length vc)++M:=⟨_,rfl⟩
    have Aj:=ak (show bd∈N by rw[hN];simp);have HNL:=ak (show ∀y∈N,y<wr.heap.size by
     intro y hy;rw[hN] at hy;simp only[List.cons_append,bK,aT] at hy;have:=zN.o;have:=DJ.o;rcases hy with rfl|hy|hy
     ·omega
     ·exact(HOW.o.lt y (dK.1 hy)).2
     have:=HM.o y hy;omega)
    have HWR:=ak (show ∀W,dO [bd] wr W->afN (mask W N) l ws from fun W hW=>by rw[hN];exact HWL.o.mono (dZ hW (by simp)));have HKP:=ak (show ∀W w2 g2 cap,dO [bd] wr W->dO (rowOf (.slice va l.length vc)) W w2->((Value.slice va l.length vc).ownBlock=some g2\/g2=W.heap.size)->Sub (mask W N) (mask w2 (bd::rowOf (.slice (some ⟨g2,0,none⟩) (l.length+1) cap)++M)) from fun W w2 g2 cap hW hc hg=>by
     rw[hN];refine dX fun k hk hn=>⟨fun hm=>?_,hc.block k hk fun hm=>hn (by simp[hm])⟩
     simp only[List.cons_append,bK,aT] at hm hn;rcases hm with h|h|h
     ·exact hn (Or.inl h)
     ·have h2:=dK.1 h;simp only[Value.ownBlock,Option.some.injEq] at h2;rcases hg with e|e
      ·exact hn (Or.inr (Or.inl (dK.2 (by rw[e,h2]))))
      omega
     exact hn (Or.inr (Or.inr h)))
    have HDX:=ak (show ∀W,dS w0 W bd->dO [bd] wr W->Calls Tryz.prog 40 #[.pointer (some ⟨bd,0,none⟩),.agg #[.slice sa sn sc],.slice an nn cn,.int .i64 2] W (Un (tY attrs names 2) w0 bd N W) from fun W hd hW =>
     (BD attrs names Zm.o hne hl hnl 1 (by omega) hd sa sn sc an nn cn N (HS.o.mono (dZ (HCG.o.then hW) (by simp))) (HN.o.mono (dZ (HCG.o.then hW) (by simp))) (fun y hy=>bU (HNL.o y hy) hW.size)).mono fun e w' h=>h)
    have HIH:=ak (show ∀W,dS w0 W bd->dO [bd] wr W->Calls Tryz.prog 41 #[.pointer (some ⟨bd,0,none⟩),.agg #[.slice sa sn sc],.slice an nn cn,.int .i64 (d:Nat)] W (aAM attrs names d w0 bd N W) from fun W hd hW =>
     IH.o (by omega) hd sa sn sc an nn cn N (HS.o.mono (dZ (HCG.o.then hW) (by simp))) (HN.o.mono (dZ (HCG.o.then hW) (by simp))) (fun y hy=>bU (HNL.o y hy) hW.size))
    clear hN;go_upto_region 5 with fail
    refine og (m:=19) [18] (GnL w0 wr bd 18 (rowOf (.slice va l.length vc))) (GnB bd 18 (rowOf (.slice va l.length vc))) (zu (a0X attrs names d bd bw M N l ws sa sn sc an nn cn va vc)) (by kernel_rfl) (by kernel_rfl) ⟨HDK.o.ext ((Ext.refl wr).drew),((Ext.refl wr).drew).fH _,fun _=>((Ext.refl wr).drew).fH _⟩ ?_ ?_ ?_
    ·intro i k v W W' hi hk hne hout h hE;have hi':=ltc19 hi;clear hi hk;by_cases hk:k=18
     ·subst hk;exfalso;rcases hi' with rfl|rfl|rfl|rfl|rfl|rfl|rfl|rfl|rfl|rfl|rfl|rfl|rfl|rfl|rfl|rfl|rfl|rfl|rfl
      ·exact absurd hout (by decide +kernel)
      ·exact absurd hout (by decide +kernel)
      ·exact absurd hout (by decide +kernel)
      ·exact absurd hout (by decide +kernel)
      ·exact absurd hout (by decide +kernel)
      ·exact absurd hout (by decide +kernel)
      ·exact absurd hout (by decide +kernel)
      ·exact absurd hout (by decide +kernel)
      ·exact absurd hout (by decide +kernel)
      ·exact absurd hout (by decide +kernel)
      ·exact absurd hout (by decide +kernel)
      ·exact absurd hout (by decide +kernel)
      ·exact absurd hout (by decide +kernel)
      ·exact absurd hout (by decide +kernel)
      ·exact absurd hout (by decide +kernel)
      ·exact absurd hout (by decide +kernel)
      ·exact absurd hout (by decide +kernel)
      ·exact absurd hout (by decide +kernel)
      exact hne rfl
     have hE:dO [bd] W W':=(by have h9:=hE;unfold GnB at h9;rwa [dh hk] at h9)
     rcases hi' with rfl|rfl|rfl|rfl|rfl|rfl|rfl|rfl|rfl|rfl|rfl|rfl|rfl|rfl|rfl|rfl|rfl|rfl|rfl
     ·exact h
     ·obtain⟨g,e0,h⟩:=h;exact⟨g,e0,⟨hE.blk h.1 (by simpa using h.2),h.2⟩⟩
     ·exact h
     ·obtain⟨r,e0,h⟩:=h;exact⟨r,e0,h⟩
     ·obtain⟨g,r,e0,h⟩:=h;exact⟨g,r,e0,⟨hE.blk h.1 (by simpa using h.2.1),h.2⟩⟩
     ·obtain⟨s,e0,h⟩:=h;exact⟨s,e0,h⟩
     ·exact h
     ·exact h
     ·exact h
     ·obtain⟨x,xv,e0,h⟩:=h;exact⟨x,xv,e0,⟨h.1,h.2.mono (dZ hE Aj.o)⟩⟩
     ·exact h
     ·exact h
     ·exact h
     ·exact h
     ·exact h
     ·obtain⟨bl,ba,bn,bc,e0,h⟩:=h;exact⟨bl,ba,bn,bc,e0,⟨h.1,h.2.1,h.2.2.1,jJ.mono (dZ hE Aj.o) _ _ h.2.2.2.1,h.2.2.2.2⟩⟩
     ·obtain⟨x,wv,e0,h⟩:=h;exact⟨x,wv,e0,⟨h.1.mono (dZ hE Aj.o),h.2⟩⟩
     ·obtain⟨x,wv,g,e0,h⟩:=h;exact⟨x,wv,g,e0,⟨hE.blk h.1 (by simpa using h.2.1),h.2.1,h.2.2.1.mono (dZ hE Aj.o),h.2.2.2⟩⟩
     obtain⟨x,wv,v2,e0,h⟩:=h;exact⟨x,wv,v2,e0,⟨eF h.1 hE (fun q hq hm=>by simp only[aK] at hm;have:=(h.1.lt q hq).1;have:=DJ.o;omega),h.2.1.mono (dZ hE (by simp)),h.2.2⟩⟩
    ·intro q op hq ho L vs W dR hcL hW hd ρ hρ;have hq':=ltc19 hq;clear hq;have o9:ρ (.tmp 9)=.slice va l.length vc:=hρ.out 9 rfl;have o0:ρ (.tmp 0)=.pointer (some ⟨bd,0,none⟩):=hρ.out 0 rfl;have i2:=hρ.i 2 23;have i1:=hρ.i 1 22;have i3:=hρ.i 3 24;have i4:=hρ.i 4 25;have o5:ρ (.tmp 5)=.pointer (some ⟨bw,0,none⟩):=hρ.out 5 rfl;have o2:ρ (.tmp 2)=.slice an nn cn:=hρ.out 2 rfl;have i6:=hρ.i 6 27;have i7:=hρ.i 7 28;have i8:=hρ.i 8 29;have o3:ρ (.tmp 3)=.int .i64 ((d:Int)+1):=hρ.out 3 rfl;have Nr:=hρ.i 13 34;have AA:=hρ.i 10 31;have i11:=hρ.i 11 32;have i12:=hρ.i 12 33;have SB:=hρ.i 14 35;have i5:=hρ.i 5 26;have i9:=hρ.i 9 30;have VW:=hρ.i 15 36;have i16:=hρ.i 16 37;have i0:=hρ.i 0 21;have i17:=hρ.i 17 38;have hc:=hρ.const;have hfn:=hρ.func;clear hρ;rcases hq' with rfl|rfl|rfl|rfl|rfl|rfl|rfl|rfl|rfl|rfl|rfl|rfl|rfl|rfl|rfl|rfl|rfl|rfl|rfl
     ·have hnq:18∉L:=fun h=>absurd (hcL 18 h) (by decide +kernel)
      have HW:=ak (show dS w0 W bd/\dO [bd] wr W from⟨hW.1,hW.2.2 hnq⟩);clear hW dR hcL;have HNQ:=ak hnq;clear hnq;cases ho
      clear hd;unfold dF;go_simp;exact⟨dO.refl _ _,gnl HW.o HW.o.1 (dO.refl _ _),rfl⟩
     ·have hnq:18∉L:=fun h=>absurd (hcL 18 h) (by decide +kernel)
      have HW:=ak (show dS w0 W bd/\dO [bd] wr W from⟨hW.1,hW.2.2 hnq⟩);clear hW dR hcL;have HNQ:=ak hnq;clear hnq;cases ho
      clear hd;unfold dF;go_simp;exact⟨((Ext.refl W).alloc _).fH _,gnl HW.o (HW.o.1.ext ((Ext.refl W).alloc _)) (((Ext.refl W).alloc _).fH [bd]),W.heap.size,rfl,dG W _,by have:=HW.o.1.lt;omega⟩
     ·have hnq:18∉L:=fun h=>absurd (hcL 18 h) (by decide +kernel)
      have HW:=ak (show dS w0 W bd/\dO [bd] wr W from⟨hW.1,hW.2.2 hnq⟩);clear hW dR hcL;have HNQ:=ak hnq;clear hnq;cases ho
      clear hd;unfold dF;go_simp;exact⟨dO.refl _ _,gnl HW.o HW.o.1 (dO.refl _ _),rfl⟩
     ·have hnq:18∉L:=fun h=>absurd (hcL 18 h) (by decide +kernel)
      have HW:=ak (show dS w0 W bd/\dO [bd] wr W from⟨hW.1,hW.2.2 hnq⟩);clear hW dR hcL;have HNQ:=ak hnq;clear hnq;cases ho
      have h2:vs 2=_:=hd ⟨2,.data⟩ (by simp) rfl;rw[h2] at i2;clear hd;unfold dF;go_simp;refine(fF HW.o.1 3 (by omega) (by omega)).mono ?_;rintro e5 w5 ⟨z,rfl,hz0,hz1,hd5,hc5⟩;obtain⟨r,rfl⟩:∃r:Nat,z=r:=⟨z.toNat,by omega⟩
      exact⟨_,rfl,hc5,gnl HW.o hd5 hc5,r,rfl,by omega⟩
     ·have hnq:18∉L:=fun h=>absurd (hcL 18 h) (by decide +kernel)
      have HW:=ak (show dS w0 W bd/\dO [bd] wr W from⟨hW.1,hW.2.2 hnq⟩);clear hW dR hcL;have HNQ:=ak hnq;clear hnq;cases ho
      obtain⟨g,h1,hs1⟩:∃(g:Nat),vs 1=.slice (some ⟨g,0,none⟩) 3 3/\(W.heap[g]?=some aGW/\g≠bd):=hd ⟨1,.data⟩ (by simp) rfl;have Fh:=ak hs1;clear hs1;rw[h1] at i1;obtain⟨r,h3,hs3⟩:∃(r:Nat),vs 3=.int .i64 ((r:Nat):Int)/\r<3:=hd ⟨3,.data⟩ (by simp) rfl;have Ko:=ak hs3;clear hs3;rw[h3] at i3;clear hd;have b0:(0:Int)<=((r:Nat):Int):=by omega
      have b1:((r:Nat):Int)<3:=by have:=Ko.o;omega
      unfold dF;go_simp;exact⟨dO.refl _ _,gnl HW.o HW.o.1 (dO.refl _ _),g,r,rfl,Fh.o.1,Fh.o.2,Ko.o⟩
     ·have hnq:18∉L:=fun h=>absurd (hcL 18 h) (by decide +kernel)
      have HW:=ak (show dS w0 W bd/\dO [bd] wr W from⟨hW.1,hW.2.2 hnq⟩);clear hW dR hcL;have HNQ:=ak hnq;clear hnq;cases ho
      obtain⟨g,r,h4,hs4⟩:∃(g:Nat) (r:Nat),vs 4=.pointer (some ⟨g,r,none⟩)/\(W.heap[g]?=some aGW/\g≠bd/\r<3):=hd ⟨4,.data⟩ (by simp) rfl;have xI:=ak hs4;clear hs4;rw[h4] at i4;clear hd;obtain⟨s,hs,hss⟩:=aPt xI.o.1 xI.o.2.2;unfold dF;go_simp;exact⟨dO.refl _ _,gnl HW.o HW.o.1 (dO.refl _ _),s,rfl,hss⟩
     ·have hnq:18∉L:=fun h=>absurd (hcL 18 h) (by decide +kernel)
      have HW:=ak (show dS w0 W bd/\dO [bd] wr W from⟨hW.1,hW.2.2 hnq⟩);clear hW dR hcL;have HNQ:=ak hnq;clear hnq;cases ho
      clear hd;unfold dF;go_simp;exact⟨dO.refl _ _,gnl HW.o HW.o.1 (dO.refl _ _),rfl⟩
     ·have hnq:18∉L:=fun h=>absurd (hcL 18 h) (by decide +kernel)
      have HW:=ak (show dS w0 W bd/\dO [bd] wr W from⟨hW.1,hW.2.2 hnq⟩);clear hW dR hcL;have HNQ:=ak hnq;clear hnq;cases ho
      clear hd;obtain⟨g7,gf7⟩:=gQ (HW.o.2.blk lV.o (by have:=DJ.o;simp;omega));unfold dF;go_simp;exact⟨dO.refl _ _,gnl HW.o HW.o.1 (dO.refl _ _),rfl⟩
     ·have hnq:18∉L:=fun h=>absurd (hcL 18 h) (by decide +kernel)
      have HW:=ak (show dS w0 W bd/\dO [bd] wr W from⟨hW.1,hW.2.2 hnq⟩);clear hW dR hcL;have HNQ:=ak hnq;clear hnq;cases ho
      clear hd;unfold dF;go_simp;exact⟨dO.refl _ _,gnl HW.o HW.o.1 (dO.refl _ _),rfl⟩
     ·have hnq:18∉L:=fun h=>absurd (hcL 18 h) (by decide +kernel)
      have HW:=ak (show dS w0 W bd/\dO [bd] wr W from⟨hW.1,hW.2.2 hnq⟩);clear hW dR hcL;have HNQ:=ak hnq;clear hnq;cases ho
      have h6:vs 6=_:=hd ⟨6,.data⟩ (by simp) rfl;rw[h6] at i6;have h7:vs 7=_:=hd ⟨7,.data⟩ (by simp) rfl;rw[h7] at i7;have h8:vs 8=_:=hd ⟨8,.data⟩ (by simp) rfl;rw[h8] at i8;clear hd;unfold dF;go_simp;refine(HDX.o W HW.o.1 HW.o.2).mono ?_;rintro e5 w5 ⟨x,xv,rfl,hm5,hi5,hd5,hc5⟩;exact⟨_,rfl,hc5,gnl HW.o hd5 hc5,x,xv,rfl,hm5,hi5⟩
     ·have hnq:18∉L:=fun h=>absurd (hcL 18 h) (by decide +kernel)
      have HW:=ak (show dS w0 W bd/\dO [bd] wr W from⟨hW.1,hW.2.2 hnq⟩);clear hW dR hcL;have HNQ:=ak hnq;clear hnq;cases ho
      clear hd;unfold dF;go_simp;exact⟨dO.refl _ _,gnl HW.o HW.o.1 (dO.refl _ _),rfl⟩
     ·have hnq:18∉L:=fun h=>absurd (hcL 18 h) (by decide +kernel)
      have HW:=ak (show dS w0 W bd/\dO [bd] wr W from⟨hW.1,hW.2.2 hnq⟩);clear hW dR hcL;have HNQ:=ak hnq;clear hnq;cases ho
      clear hd;obtain⟨g7,gf7⟩:=gQ (HW.o.2.blk lV.o (by have:=DJ.o;simp;omega));unfold dF;go_simp;exact⟨dO.refl _ _,gnl HW.o HW.o.1 (dO.refl _ _),rfl⟩
     ·have hnq:18∉L:=fun h=>absurd (hcL 18 h) (by decide +kernel)
      have HW:=ak (show dS w0 W bd/\dO [bd] wr W from⟨hW.1,hW.2.2 hnq⟩);clear hW dR hcL;have HNQ:=ak hnq;clear hnq;cases ho
      clear hd;unfold dF;go_simp;exact⟨dO.refl _ _,gnl HW.o HW.o.1 (dO.refl _ _),rfl⟩
     ·have hnq:18∉L:=fun h=>absurd (hcL 18 h) (by decide +kernel)
      have HW:=ak (show dS w0 W bd/\dO [bd] wr W from⟨hW.1,hW.2.2 hnq⟩);clear hW dR hcL;have HNQ:=ak hnq;clear hnq;cases ho
      clear hd;unfold dF;go_simp;exact⟨dO.refl _ _,gnl HW.o HW.o.1 (dO.refl _ _),rfl⟩
     ·have hnq:18∉L:=fun h=>absurd (hcL 18 h) (by decide +kernel)
      have HW:=ak (show dS w0 W bd/\dO [bd] wr W from⟨hW.1,hW.2.2 hnq⟩);clear hW dR hcL;have HNQ:=ak hnq;clear hnq;cases ho
      have h13:vs 13=_:=hd ⟨13,.data⟩ (by simp) rfl;rw[h13] at Nr;clear hd;have hwd:IntKind.i64.wrap ((d:Nat):Int)=((d:Nat):Int):=IntWalk.i64_in _ (by omega);unfold dF;go_simp
      try rw[hwd]
      exact⟨dO.refl _ _,gnl HW.o HW.o.1 (dO.refl _ _),rfl⟩
     ·have hnq:18∉L:=fun h=>absurd (hcL 18 h) (by decide +kernel)
      have HW:=ak (show dS w0 W bd/\dO [bd] wr W from⟨hW.1,hW.2.2 hnq⟩);clear hW dR hcL;have HNQ:=ak hnq;clear hnq;cases ho
      have h10:vs 10=_:=hd ⟨10,.data⟩ (by simp) rfl;rw[h10] at AA;have h11:vs 11=_:=hd ⟨11,.data⟩ (by simp) rfl;rw[h11] at i11;have h12:vs 12=_:=hd ⟨12,.data⟩ (by simp) rfl;rw[h12] at i12;have Sr:vs 14=_:=hd ⟨14,.data⟩ (by simp) rfl;rw[Sr] at SB;clear hd;unfold dF;go_simp;refine(HIH.o W HW.o.1 HW.o.2).mono ?_;rintro e5 w5 ⟨bl,ba,bn,bc,rfl,q1,q2,q3,q4,q5,q6,hd5,hc5⟩;exact⟨_,rfl,hc5,gnl HW.o hd5 hc5,bl,ba,bn,bc,rfl,q1,q2,q3,q4,q5,q6⟩
     ·have hnq:18∉L:=fun h=>absurd (hcL 18 h) (by decide +kernel)
      have HW:=ak (show dS w0 W bd/\dO [bd] wr W from⟨hW.1,hW.2.2 hnq⟩);clear hW dR hcL;have HNQ:=ak hnq;clear hnq;cases ho
      obtain⟨s,h5,hs5⟩:∃(s:BA),vs 5=.string s/\nameB s=true:=hd ⟨5,.data⟩ (by simp) rfl;have uj:=ak hs5;clear hs5;rw[h5] at i5;obtain⟨x,xv,h9,hs9⟩:∃(x:Ex) (xv:fU),vs 9=fU.val xv/\(tY attrs names 2 x/\fC (mask W N) x (fU.val xv)):=hd ⟨9,.data⟩ (by simp) rfl;have G8:=ak hs9;clear hs9;rw[h9] at i9;obtain⟨bl,ba,bn,bc,h15,ae'⟩:∃(bl:List Wb) (ba:OA) (bn:Nat) (bc:Nat),vs 15=.slice ba bn bc/\(bn=bl.length/\bn<=bc/\rP ba bc/\jJ (mask W N) bl ba/\YS attrs names bl/\qU bl<=awM d):=hd ⟨15,.data⟩ (by simp) rfl;have anZ:=ak ae';clear ae';rw[h15] at VW;clear hd;unfold fU.val exV at i9;unfold dF;go_simp;exact⟨dO.refl _ _,gnl HW.o HW.o.1 (dO.refl _ _),.mk s x bl,⟨s,xv,ba,bn,bc⟩,rfl,⟨rfl,G8.o.2,anZ.o.1,anZ.o.2.1,anZ.o.2.2.1,anZ.o.2.2.2.1⟩,uj.o,G8.o.1,anZ.o.2.2.2.2.1,anZ.o.2.2.2.2.2⟩
     ·have hnq:18∉L:=fun h=>absurd (hcL 18 h) (by decide +kernel)
      have HW:=ak (show dS w0 W bd/\dO [bd] wr W from⟨hW.1,hW.2.2 hnq⟩);clear hW dR hcL;have HNQ:=ak hnq;clear hnq;cases ho
      obtain⟨x,wv,h16,aDz⟩:∃(x:Wb) (wv:J4),vs 16=.agg #[.string wv.name,.int .i64 wv.x.op,.string wv.x.name,.slice wv.x.aw wv.x.nw wv.x.cw,.int .i64 wv.x.lo,.int .i64 wv.x.hi,.slice wv.x.aa wv.x.na wv.x.ca,.slice wv.au wv.nu wv.cu]/\(ad9 (mask W N) x wv/\ag' attrs names d x):=hd ⟨16,.data⟩ (by simp) rfl;have aWU:=ak aDz;clear aDz;rw[h16] at i16;clear hd;unfold dF;go_simp;exact⟨((Ext.refl W).alloc _).fH _,gnl HW.o (HW.o.1.ext ((Ext.refl W).alloc _)) (((Ext.refl W).alloc _).fH [bd]),x,wv,W.heap.size,rfl,dG W _,by have:=HW.o.1.lt;omega,aWU.o.1.mono (dZ (((Ext.refl W).alloc _).fH [bd]) Aj.o),aWU.o.2⟩
     have hnq:18∉L:=dR;have HW:=ak (show dS w0 W bd/\dO [bd] wr W from⟨hW.1,hW.2.2 hnq⟩);clear hW dR hcL;have HNQ:=ak hnq;clear hnq;cases ho
     have h0:vs 0=_:=hd ⟨0,.data⟩ (by simp) rfl;rw[h0] at i0;obtain⟨x,wv,g,h17,aHo⟩:∃(x:Wb) (wv:J4) (g:Nat),vs 17=.slice (some ⟨g,0,none⟩) 1 1/\(W.heap[g]?=some (.cells wv.cells.toArray 53 (0,0))/\g≠bd/\ad9 (mask W N) x wv/\ag' attrs names d x):=hd ⟨17,.data⟩ (by simp) rfl;have anY:=ak aHo;clear aHo;rw[h17] at i17;clear hd;have ho0:=eF HOW.o HW.o.2 (fun q hq hm=>by simp only[aK] at hm;have:=(HOW.o.lt q hq).1;have:=DJ.o;omega);refine mF aQH _ _ (bw+1) _ l.length _ i0 g 1 1 wv.cells i17 rfl (by simp[J4.cells,Value.oneCell']) (by omega) (by omega) (by omega) ho0 (fun j hj=>by rw[dM anY.o.1];simp) (by have:=HW.o.2.size;have:=zN.o;omega) ?_;intro g2 cap w2 ho2 hg2 hw2 hlt2;have hcg:dO (rowOf (.slice va l.length vc)) W w2:=iM hg2;have hcb:dO (bd::rowOf (.slice va l.length vc)) W w2:=hcg.weak (fun y hy=>bH _ hy);have hbd2:bd∉rowOf (.slice va l.length vc):=fun hm=>by have:=(HOW.o.lt bd (dK.1 hm)).1;have:=DJ.o;omega
     have hkeep:Sub (mask W N) (mask w2 (bd::rowOf (.slice (some ⟨g2,0,none⟩) (l.length+1) cap)++M)):=HKP.o W w2 _ _ HW.o.2 hcg hw2;exact⟨hcb,⟨HW.o.1.fH hcg hbd2 (fun q hq=>by have:=(HOW.o.lt q (dK.1 hq)).1;have:=HB0.o;omega),(HW.o.2.weak (fun y hy=>by simp at hy;simp[hy])).then hcb,fun h=>absurd (by simp) h⟩,x,wv,_,rfl,ho2,((HWR.o W HW.o.2).mono hkeep).snoc (anY.o.2.2.1.mono hkeep),anY.o.2.2.2⟩
    intro L vs W pR hW hR;rw[dh (by decide +kernel)];obtain⟨x,wv,v2,h18,aHn⟩:∃(x:Wb) (wv:J4) (v2:Value),vs 18=v2/\(W.ownsRow (bw+1) 53 8 v2 (l.length+1) (ws.flatMap J4.cells++wv.cells)/\afN (mask W (bd::rowOf v2++M)) (l++[x]) (ws++[wv])/\ag' attrs names d x):=hR 18 (by simp) (by omega);have aE1:=ak aHn;clear aHn;refine lK rfl ?_
    change wpList _ _ _ [⟨some 9,.assign (.tmp 39),_,_,_,none⟩] _ _
    simp only[acts,gK,List.range,List.range.loop,bF,dA,h18];go_simp;have hW2:dS w0 W bd/\dO (bd::rowOf (.slice va l.length vc)) wr W:=⟨hW.1,hW.2.1⟩
    clear hR hW pR h18;have HW2:=ak hW2;obtain⟨a2,c2,hv2⟩:=iG aE1.o.1;subst hv2;obtain⟨xn,xc,xu⟩:=x;have HG:=ak aE1.o.2.2;have HC2:=ak (show dO [bd] w W from HCG.o.trans hW2.2 (fun y hy=>by
     rcases bK.1 hy with h|h
     ·exact Or.inl (by simp[h])
     have:=(HOW.o.lt y (dK.1 h)).1;have:=oQ.o;exact Or.inr (by omega)))
    have NJ:=ak (hW2.2.blk lV.o (fun hy=>by
     rcases bK.1 hy with h|h
     ·have:=DJ.o;omega
     have:=(HOW.o.lt bw (dK.1 h)).1;omega))
    clear hW2;go_wp2_with fail
    go_roundw
    case rel=>exact⟨l++[.mk xn xc xu],ws++[wv],q - 1,by go_num,by simp;omega,by omega,by have:=aE1.o.1;simpa using this,aE1.o.2.1,YS.snoc l xn xc xu HWO.o HG.o.1 HG.o.2.1 HG.o.2.2.1,by
     have h1:=HWN.o;have h2:qU xu<=awM d:=HG.o.2.2.2;rw[att,bI,List.length_singleton,Nat.add_mul,Nat.one_mul];omega,HW2.o.1,HC2.o,NJ.o⟩
    case measure=>simp[intOf];omega
   have t14:=aj (0<q) hq;obtain⟨a',c',hv,h1,h2,h3⟩:=aFw (M:=M) HOW.o (fun k hk hm=>by have:=(HOW.o.lt k hk).1;have:=HM.o k hm;omega) (HWL.o.mono (eG _ (fun y hy=>by simp[hy])));have HV:=ak hv;have H3:=ak h3;have H2:=ak h2;clear hv h3 h2;go_wp2_with fail
   go_ret;rw[HV.o];exact⟨l,a',_,c',rfl,rfl,h1,H2.o,H3.o,HWO.o,bC HWN.o (by simp only[awM];exact Nat.mul_le_mul_right _ (by omega)),HDK.o,HCG.o⟩
def clV (v:jm):Value:=.agg #[.int .i64 v.kind,.string v.name,.int .i64 v.x.op,.string v.x.name,.slice v.x.aw v.x.nw v.x.cw,.int .i64 v.x.lo,.int .i64 v.x.hi,.slice v.x.aa v.x.na v.x.ca,.slice v.au v.nu v.cu,.int .i64 v.amount]
def abn (c:dY):Prop:=c.cond.fits/\c.cond.few/\c.cond.size<=1000/\vJ c.cond=true/\Vg c.jZ/\qU c.jZ<=1000
def aKD (kind am:Int):Prop:=(ny kind=0/\am=0)\/(0<ny kind/\1<=am/\am<=ny kind)
def aNR (attrs:List Attr) (names:ZB) (kind:Int) (name:BA) (w0:World) (bd:Nat) (M:ZN) (w:World) (e:Ending) (w':World):Prop:=∃(c:dY) (v:jm),e=.returned (clV v)/\c.kind=kind/\c.name=name/\tY attrs names 3 c.cond/\((kind=3/\YS attrs names c.jZ/\qU c.jZ<=6)\/c.jZ=[])/\aKD kind c.amount/\abn c/\kR (mask w' M) c v/\dS w0 w' bd/\dO [bd] w w'
theorem fA {W W':World} {K N:ZN} (h:dO K W W') (hk:∀y∈K,y∈N\/W.heap.size<=y):Sub (mask W N) (mask W' N):=dX fun k hlt hn=>⟨hn,h.block k hlt fun hm=>by
 rcases hk k hm with h1|h1
 ·exact hn h1
 omega⟩
def a4H (attrs:List Attr) (names:ZB) (w0 wb:World) (bd bc br:Nat) (M:ZN) (kind:Int) (name:BA) (x:Ex) (xv:fU) (zr:List Value) (wx:World):Prop:=∃(jZ:List Wb) (au:OA) (nu cu:Nat),wx.heap[bc]?=some (.cells #[.int .i64 kind,.string name,.int .i64 xv.op,.string xv.name,.slice xv.aw xv.nw xv.cw,.int .i64 xv.lo,.int .i64 xv.hi,.slice xv.aa xv.na xv.ca,.slice au nu cu,.int .i64 0] 48 (0,0)) /\
 wx.heap[br]?=some (.cells zr.toArray 48 (0,0))/\nu=jZ.length/\nu<=cu/\rP au cu/\jJ (mask wx (bd::bc::br::M)) jZ au/\fC (mask wx (bd::bc::br::M)) x xv.val/\YS attrs names jZ/\qU jZ<=6/\dS w0 wx bd/\dO [bd,bc] wb wx/\(kind=3\/jZ=[])
theorem aBk {attrs:List Attr} (hat:attrs∈jw) {names:ZB} (hns:∀x∈names,x.size<=1000) {kind:Int} {name:BA} {w0 w w1 wb wx w5 W:World} {bd bc br:Nat} {M:ZN} {x:Ex} {xv:fU} {ul:List Wb} {ua:OA} {un uc:Nat} {am:Int} (hmo:tY attrs names 3 x/\abf 3 x) (hku:kind=3\/ul=[]) (ham:aKD kind am) (hcw:dO [bd] w w1) (hxb:Ext w1 wb) (hle:bd<w.heap.size/\w.heap.size<=br/\br<bc) (h0:w0.heap.size<=w.heap.size)
  (hq:un=ul.length/\un<=uc/\rP ua uc) (h4:jJ (mask wx (bd::bc::br::M)) ul ua) (h6:fC (mask wx (bd::bc::br::M)) x xv.val) (h7:YS attrs names ul/\qU ul<=6) (h9:dO [bd,bc] wb wx) (hd5:dS w0 w5 bd) (hc5:dO [bd] wx w5) (hcs:dO [bc,br] w5 W) :
  aNR attrs names kind name w0 bd M w (.returned (clV ⟨kind,name,xv,ua,un,uc,am⟩)) W:=by
 have s1:Sub (mask wx (bd::bc::br::M)) (mask W M):=((fA hc5 (fun y hy=>by simp at hy;simp[hy])).trans (fA hcs (fun y hy=>by simp at hy;rcases hy with rfl|rfl<;>simp))).trans (eG _ (fun y hy=>by simp[hy]));refine⟨⟨kind,name,x,ul,am⟩,_,rfl,rfl,rfl,hmo.1,hku.imp (fun e=>⟨e,h7⟩) id,ham,⟨hmo.2.fits,hmo.2.few,bC hmo.2.size (by simp[Zf]),hmo.2.bare,YS.ok hat hns _ h7.1,bC h7.2 (by omega)⟩,⟨rfl,rfl,h6.mono s1,hq.1,hq.2.1,hq.2.2,jJ.mono s1 _ _ h4,rfl⟩,?_,?_⟩
 ·exact hd5.fH hcs (by simp;omega) (fun y hy=>by simp at hy;omega)
 refine(((hcw.then (hxb.fH [bd])).trans h9 ?_).then hc5).trans hcs ?_
 ·intro y hy;simp at hy;rcases hy with rfl|rfl
  ·exact Or.inl (by simp)
  exact Or.inr (by omega)
 intro y hy;simp at hy;exact Or.inr (by omega)
theorem MN {attrs:List Attr} (hat:attrs∈jw) (names:ZB) (hok:∀a∈attrs,Yj a) (hne:attrs≠[]) (hl:attrs.length<=1000) (hnl:names.length<=1000) (hns:∀x∈names,x.size<=1000) {w0 w:World} {bd:Nat} (hd:dS w0 w bd) (sa:OA) (sn sc:Nat) (an:OA) (nn cn:Nat) (M:ZN) (hs:fJ (mask w [bd]) attrs (.agg #[.slice sa sn sc])) (hn:ji (mask w [bd]) names an nn cn) (hM:∀y∈M,y<w.heap.size) (kind:Int) (name:BA) :
  Calls Tryz.prog 19 #[.pointer (some ⟨bd,0,none⟩),.agg #[.slice sa sn sc],.int .i64 kind,.string name,.slice an nn cn] w (aNR attrs names kind name w0 bd M w):=by
 have hbw:=hd.lt;obtain⟨wa,dW⟩:∃wa,wa=(w.alloc (.cells #[.slice sa sn sc] 24)).alloc (.cells #[.int .i64 0,.string ⟨#[]⟩,.int .i64 0,.string ⟨#[]⟩,.slice none 0 0,.int .i64 0,.int .i64 0,.slice none 0 0,.slice none 0 0,.int .i64 0] 48):=⟨_,rfl⟩
 obtain⟨br,hbr⟩:∃br,br=w.heap.size+1:=⟨_,rfl⟩
 obtain⟨bs,hbs⟩:∃bs,bs=w.heap.size:=⟨_,rfl⟩
 have hxa:Ext w wa:=by rw[dW];exact((Ext.refl w).alloc _).alloc _
 have fE:=ak hxa;have vH:=ak (show wa.heap[br]?=some (.cells #[.int .i64 0,.string ⟨#[]⟩,.int .i64 0,.string ⟨#[]⟩,.slice none 0 0,.int .i64 0,.int .i64 0,.slice none 0 0,.slice none 0 0,.int .i64 0] 48 (0,0)) by rw[dW,hbr];exact alloc_at (by simp));have PU:=ak (show wa.heap[bs]?=some (.cells #[.slice sa sn sc] 24 (0,0)) by rw[dW,hbs];exact((Ext.refl _).alloc _).blk (dG w _));have zN:=ak (show wa.heap.size=w.heap.size+2 by rw[dW];simp);have HD:=ak (hd.ext hxa);have HS:=ak hs;have HN:=ak hn;have HM:=ak hM;have nZ:=ak (show bd<bs/\bs=w.heap.size/\br=w.heap.size+1 from⟨by omega,hbs,hbr⟩);have Zm:=ak hok;have HB0:=ak (show w0.heap.size<=w.heap.size by obtain⟨_,_,_,_,_,_,_,_,hxw,_⟩:=hd;exact hxw.size);go_enter Tryz.func19,Tryz.ntmps19
 go_upto_region 1 with fail
 rw[<-dW,<-hbr,<-hbs];clear dW hbr hbs hxa hd hs hn hM hok hbw;obtain⟨b0,bf⟩:=gQ PU.o;have HDX:=ak (show Calls Tryz.prog 40 #[.pointer (some ⟨bd,0,none⟩),.agg #[.slice sa sn sc],.slice an nn cn,.int .i64 3] wa (Un (fun x=>tY attrs names 3 x/\abf 3 x) w0 bd (bd::br::M) wa) from
  (BD attrs names Zm.o hne hl hnl 2 (by omega) HD.o sa sn sc an nn cn (bd::br::M) (HS.o.mono (dZ (fE.o.fH [bd]) (by simp))) (HN.o.mono (dZ (fE.o.fH [bd]) (by simp))) (fun y hy=>by
   have h1:=zN.o;have h2:=nZ.o;simp only[bK] at hy;rcases hy with rfl|rfl|hy
   ·omega
   ·omega
   have:=HM.o y hy;omega)).mono fun e w' h=>h.mono fun x hx=>⟨hx,Dt hat hns 3 x hx⟩)
 go_wp2_with fail
 refine HDX.o.mono ?_;rintro e w1 ⟨x,xv,rfl,hmo,hix,hd1,hc1⟩;have HMO:=ak hmo;have yD:=ak hix;have HD1:=ak hd1;have qw:=ak hc1;clear hmo hix hd1 hc1 b0 bf HDX HD;unfold fU.val exV;go_upto_region 2 with fail
 obtain⟨bc,hbc⟩:∃bc,bc=w1.heap.size:=⟨_,rfl⟩
 obtain⟨wb,hwb⟩:∃wb,wb=w1.alloc (.cells (aG kind name xv none 0 0 0) 48):=⟨_,rfl⟩
 have hxb:Ext w1 wb:=by rw[hwb];exact(Ext.refl _).alloc _
 have HXB:=ak hxb;have Fp:=ak (show wb.heap[bc]?=some (.cells (aG kind name xv none 0 0 0) 48 (0,0)) by rw[hwb,hbc];exact dG w1 _);have h1s:=qw.o.size;have HLE:=ak (show bd<bs/\bs<br/\br<bc/\bc<wb.heap.size by
  have:=nZ.o;have:=zN.o;rw[hwb,hbc];simp;omega)
 have aiF:=ak (hxb.blk (qw.o.blk vH.o (by have:=HLE.o;simp;omega)));have a3U:=ak (hxb.blk (qw.o.blk PU.o (by have:=HLE.o;simp;omega)));have aSb:=ak (show fC (mask wb (bd::bc::br::M)) x xv.val from yD.o.mono (by
  rw[hwb];refine(dX fun k hk hn=>⟨?_,Below.heap_alloc w1 _ k hk⟩);simp only[bK,not_or] at hn ⊢;exact⟨hn.1,by omega,hn.2.1,hn.2.2⟩))
 rw[<-hwb,<-hbc];have Ed:=ak ((fE.o.fH [bd]).then qw.o);have HDB:=ak (HD1.o.ext hxb);clear hwb hbc hxb h1s vH PU yD HD1
 go_upto_if 21 with fail
 go_cut [] (a4H attrs names w0 wb bd bc br M kind name x xv [.int .i64 0,.string ⟨#[]⟩,.int .i64 0,.string ⟨#[]⟩,.slice none 0 0,.int .i64 0,.int .i64 0,.slice none 0 0,.slice none 0 0,.int .i64 0])
 case first =>
  by_cases h3:kind=3
  ·have t3:(kind==3)=true:=by simp[h3]
   have HK3:=ak h3;clear h3;obtain⟨b0,bf⟩:=gQ a3U.o;have HBK:=ak (show Calls Tryz.prog 41 #[.pointer (some ⟨bd,0,none⟩),.agg #[.slice sa sn sc],.slice an nn cn,.int .i64 2] wb (aAM attrs names 2 w0 bd (bd::bc::br::M) wb) from
    awQ names Zm.o hne hl hnl 2 (by omega) HDB.o sa sn sc an nn cn (bd::bc::br::M) (HS.o.mono (dZ (Ed.o.then (HXB.o.fH [bd])) (by simp))) (HN.o.mono (dZ (Ed.o.then (HXB.o.fH [bd])) (by simp))) (fun y hy=>by
     have h1:=zN.o;have h2:=nZ.o;have h3:=HLE.o;simp only[bK] at hy;rcases hy with rfl|rfl|rfl|hy
     ·omega
     ·omega
     ·omega
     have:=HM.o y hy;omega))
   go_wp2_with fail
   refine HBK.o.mono ?_;rintro e w2 ⟨ul,ua,un,uc,rfl,q1,q2,q3,q4,q5,q6,hd2,hc2⟩;have hb2:=hc2.blk Fp.o (by have:=HLE.o;simp;omega);obtain⟨c0,c1,c2,c3,c4,c5,c6,c7,c8,c9,cf⟩:=wu hb2;have HB2:=ak hb2;have HR2:=ak (hc2.blk aiF.o (by have:=HLE.o;simp;omega));have HQ:=ak (show un=ul.length/\un<=uc/\rP ua uc/\jJ (mask w2 (bd::bc::br::M)) ul ua/\YS attrs names ul/\qU ul<=6 from⟨q1,q2,q3,q4,q5,q6⟩);have HD2:=ak hd2;have HC2:=ak hc2;clear q1 q2 q3 q4 q5 q6 hd2 hc2 hb2 b0 bf HBK;go_wp2_with fail
   go_meet
   case rel =>
    have hcs:dO [bd,bc] w2 (w2.setCell ⟨bc,8,none⟩ (.slice ua un uc)):=(dO.refl _ _).setCell (Or.inl (by simp)) _;have hcs2:dO [bc] w2 (w2.setCell ⟨bc,8,none⟩ (.slice ua un uc)):=(dO.refl _ _).setCell (Or.inl (by simp)) _;obtain⟨q1,q2,q3,q4,q5,q6⟩:=HQ.o;refine⟨ul,ua,un,uc,?_,?_,q1,q2,q3,?_,?_,q5,q6,?_,?_,Or.inl HK3.o⟩
    ·rw[aO w2 bc 8 _ _ (.slice ua un uc) HB2.o];simp
    ·exact hcs2.blk HR2.o (by have:=HLE.o;simp;omega)
    ·exact jJ.mono (fA hcs (fun y hy=>by simp at hy;rcases hy with rfl|rfl<;>simp)) _ _ q4
    ·exact(aSb.o.mono (dZ HC2.o (by simp))).mono (fA hcs (fun y hy=>by simp at hy;rcases hy with rfl|rfl<;>simp))
    ·exact HD2.o.fH hcs2 (by have:=HLE.o;simp;omega) (fun y hy=>by simp only[aK] at hy;have:=HB0.o;have:=nZ.o;have:=HLE.o;omega)
    exact(HC2.o.weak (fun y hy=>by simp at hy;simp[hy])).then hcs
  have t3:(kind==3)=false:=by simp[h3]
  clear h3;go_wp2_with fail
  go_meet
  case rel=>exact⟨[],none,0,0,Fp.o,aiF.o,rfl,bg _,Or.inl ⟨rfl,rfl⟩,by unfold jJ;trivial,aSb.o,by unfold YS;trivial,by simp[qU],HDB.o,dO.refl _ _,Or.inr rfl⟩
 case rest =>
  obtain⟨ul,ua,un,uc,hb,hr,q1,q2,q3,q4,q5,q6,q7,q8,q9,qA⟩:=hcut;obtain⟨wx,rfl⟩:∃wx:World,wx=wc:=⟨_,rfl⟩
  obtain⟨c0,c1,c2,c3,c4,c5,c6,c7,c8,c9,cf⟩:=wu hb;obtain⟨r0,r1,r2,r3,r4,r5,r6,r7,r8,r9,rf⟩:=wu hr;have hbr:br≠bc:=by have:=HLE.o;omega
  have HB:=ak hb;have HR:=ak hr;have HQ:=ak (show un=ul.length/\un<=uc/\rP ua uc from⟨q1,q2,q3⟩);have H4:=ak q4;have H67:=ak (show fC (mask wx (bd::bc::br::M)) x xv.val/\YS attrs names ul/\qU ul<=6 from⟨q5,q6,q7⟩);have H8:=ak q8;have H9:=ak q9;have HA:=ak qA;clear hb hr q1 q2 q3 q4 q5 q6 q7 q8 q9 qA Fp aiF aSb HDB;go_wp2_with fail
  refine(ahx kind wx).mono ?_;rintro e w4 ⟨rfl,rfl⟩;have hmo:0<=ny kind/\ny kind<=1073741824:=by
   unfold ny;split
   ·omega
   split<;>omega
  obtain⟨m,hm⟩:∃m,m=ny kind:=⟨_,rfl⟩
  rw[<-hm] at hmo ⊢;have OT:=ak hm;obtain⟨hm0,hm1⟩:=hmo;clear hm;by_cases hmp:0<m
  ·have tm:=ah (0<m) hmp;go_wp2_with fail
   refine(Qp H8.o (m - 1) (by omega) (by omega)).mono ?_;rintro e w5 ⟨z,rfl,hz0,hz1,hd5,hc5⟩;have hb5:=hc5.blk HB.o (by have:=HLE.o;simp;omega);have hr5:=hc5.blk HR.o (by have:=HLE.o;simp;omega);clear c0 c1 c2 c3 c4 c5 c6 c7 c8 c9 cf r0 r1 r2 r3 r4 r5 r6 r7 r8 r9 rf;obtain⟨c0,c1,c2,c3,c4,c5,c6,c7,c8,c9,cf⟩:=wu hb5;obtain⟨r0,r1,r2,r3,r4,r5,r6,r7,r8,r9,rf⟩:=wu hr5;have Cj:=ak hb5;have Kq:=ak hr5;have HD5:=ak hd5;have xq:=ak hc5;clear hb5 hr5 hd5 hc5;go_wp2_with fail
   refine bodyPost_ret (v:=clV ⟨kind,name,xv,ua,un,uc,1+z⟩) (by simp[results,Tryz.results19,go_sem,clV,r0,r1,r2,r3,r4,r5,r6,r7,r8,r9]) rfl ?_;refine aBk hat hns HMO.o HA.o (Or.inr (by rw[<-OT.o];omega)) Ed.o HXB.o (by have:=HLE.o;have:=nZ.o;omega) HB0.o HQ.o H4.o H67.o.1 H67.o.2 H9.o HD5.o xq.o ?_
   repeat (with_reducible (refine dO.setCell ?_ (Or.inl (by simp)) _))
   exact dO.refl _ _
  have tm:=aj (0<m) hmp;go_wp2_with fail
  refine bodyPost_ret (v:=clV ⟨kind,name,xv,ua,un,uc,0⟩) (by simp[results,Tryz.results19,go_sem,clV,r0,r1,r2,r3,r4,r5,r6,r7,r8,r9]) rfl ?_;refine aBk hat hns HMO.o HA.o (Or.inl ⟨by rw[<-OT.o];omega,rfl⟩) Ed.o HXB.o (by have:=HLE.o;have:=nZ.o;omega) HB0.o HQ.o H4.o H67.o.1 H67.o.2 H9.o H8.o (dO.refl _ _) ?_
  repeat (with_reducible (refine dO.setCell ?_ (Or.inl (by simp)) _))
  exact dO.refl _ _
def Ag (s:List Attr) (l:List dY) (x:Wb):Int:=if fB s l x.cond≠0 then fB s l x.cond else iW s l x.jZ
theorem azo (s:List Attr) (l:List dY) (n:BA) (c:Ex) (u:List Wb):Ag s l (.mk n c u)=if fB s l c≠0 then fB s l c else iW s l u:=rfl
theorem U2 (s:List Attr) (l:List dY) (x:Wb) (r:List Wb):iW s l (x::r)=if Ag s l x≠0 then Ag s l x else iW s l r:=by
 obtain⟨n,c,u⟩:=x;rw[iW,azo];by_cases hn:fB s l c=0
 ·simp[hn]
 simp[hn]
theorem ac4 {s:List Attr} {l:List dY}:(r:List Wb)->(∀j (h:j<r.length),Ag s l r[j]=0)->iW s l r=0
 | [],_=>by rw[iW]
 | x::r,h=>by
  have h0:Ag s l x=0:=h 0 (by simp);have hr:=ac4 r fun j hj=>by have:=h (j+1) (by simpa using hj);simpa using this
  rw[U2,h0,hr];simp
theorem Yg {s:List Attr} {l:List dY}:(r:List Wb)->(k:Nat)->(hk:k<r.length)->Ag s l r[k]≠0->(∀j (h:j<k),Ag s l (r[j]'(by omega))=0)->iW s l r=Ag s l r[k]
 | [],k,hk,_,_=>by simp at hk
 | x::r,0,_,h,_=>by
  have h':Ag s l x≠0:=h
  show iW s l (x::r)=Ag s l x
  rw[U2,dw h']
 | x::r,k+1,hk,h,h0=>by
  have h1:Ag s l x=0:=h0 0 (by omega);have hr:=Yg r k (by simpa using hk) (by simpa using h) fun j hj=>by have:=h0 (j+1) (by omega);simpa using this
  simp only[List.getElem_cons_succ];rw[U2,h1,hr];simp
def abJ (l:List dY) (x:Wb):Bool:=decide (2000<expanded l x.cond)||iC l x.jZ
theorem abb (l:List dY):(r:List Wb)->iC l r=r.any (abJ l)
 | []=>by simp[iC]
 | .mk n c u::r=>by rw[iC,abb l r];rfl
theorem akb (s:List Attr) (l:List dY) (hf:∀x∈s,x.fits) (hsl:s.length<=1000000000000000) (a:OA) (n c:Nat) (hn:n<=1000000000000000) (m:Nat):∀(r:List Wb) (ra:OA) (rn rc:Nat) (sv:Value) (w:World),qU r<m->m<=1000000000000000->Vg r->fJ w s sv->eX w l a n c->jJ w r ra->rn=r.length ->
  Calls Tryz.prog 93 #[sv,.slice a n c,.slice ra rn rc] w (dN (.int .i64 (iW s l r)) w):=by
 induction m with
 | zero=>intro r ra rn rc sv w h;omega
 | succ m ih =>
  intro r ra rn rc sv w hm hM hok hs hl hd hrn;obtain⟨sa,sn,sc,rfl,hsn⟩:=hs.slice;have hrl:=wI r;have aUp:rn<=1000000000000000:=by omega
  have HS:=ak hs;have HL:=ak hl;have HD:=ak hd;have OO:=ak hrn;have Ej:=ak hok;have IH:=ak ih;have HF:=ak hf;clear hs hl hd hrn hok ih hsn hf;go_enter Tryz.func93,Tryz.ntmps93
  go_wp2_with fail
  go_loopw [7] (fun t wr=>∃k:Nat,t=.int .i64 k/\k<=rn/\(∀j (h:j<r.length),j<k->Ag s l r[j]=0)/\wr.heap[w.heap.size]?=some (.cells #[.slice sa sn sc] 24 (0,0))/\Ext w wr) (fun t _=>rn - (intOf t).toNat)
  case atStart=>exact⟨0,rfl,by omega,fun j _ h=>by omega,dG w _,(Ext.refl w).alloc _⟩
  case round =>
   obtain⟨k,rfl,hk,hno,hbx,hxr⟩:=hrel;have lZ:=ak hno;have lV:=ak hbx;have kC:=ak hxr;obtain⟨d0,df⟩:=gQ hbx;clear hno hbx hxr;by_cases hkn:k<rn
   ·have hkl:k<r.length:=by have:=OO.o;omega
    have t1:=ah ((k:Int)<(rn:Int));obtain⟨b,off,rfl,v,hv0,hrow,hv2,hv3,hv4,hv5,hv6⟩:=jJ.at r _ (jJ.mono kC.o.sub _ _ HD.o) k hkl;obtain⟨c0,c1,c2,c3,c4,c5,c6,c7⟩:=hrow.eight;obtain⟨ho1,ho2,ho3,ho4,ho5⟩:=aqo r Ej.o k hkl;have hwn:=Gn r k hkl;have HUU:=ak hv6;have HUN:=ak hv3;have HEX:=ak hv2;have Ad:=ak ho3;have Qk:=ak ho5;have Zr:(0:Int)<=(k:Int):=by omega
    have ti1:(k:Int)<(rn:Int):=by omega
    clear hrow hv0 hv2 hv3 hv4 hv5 hv6 ho2 ho3 ho5 ho1;go_wp2_with fail
    go_still_tail 7,(by kernel_rfl)
    change wpList _ _ _ _ _ wr.drew
    have hx2:Ext wr wr.drew:=(Ext.refl wr).drew;generalize wr.drew=w2 at hx2 ⊢;have gI:=ak (kC.o.trans hx2);have HB2:=ak (hx2.blk lV.o);have axv:=ak (HEX.o.ext hx2);have c7':=hx2.cell c7;have HU2:=ak (jJ.mono hx2.sub _ _ HUU.o);clear hx2 d0 df c0 c1 c2 c3 c4 c5 c6 c7;go_wp2_with fail
    refine(Oc s l HF.o hsl a n c hn 1000000000000000 r[k].cond _ _ w2 ho4 (by omega) Ad.o (HS.o.ext gI.o) (HL.o.ext gI.o) axv.o).mono ?_;rintro e w3 ⟨rfl,hx3⟩;have gU:=ak (gI.o.trans hx3);have HB3:=ak (hx3.blk HB2.o);obtain⟨d0,df⟩:=gQ (hx3.blk HB2.o);have c73:=hx3.cell c7';have HU3:=ak (jJ.mono hx3.sub _ _ HU2.o);clear hx3 c7';by_cases hz:fB s l r[k].cond=0
    ·have tz:(fB s l r[k].cond != 0)=false:=by simp[hz]
     have HIE:=ak (show Ag s l r[k]=iW s l r[k].jZ by unfold Ag;rw[dh (by simp[hz])]);clear hz;go_wp2_with fail
     go_still_tail 7,(by kernel_rfl)
     change wpList _ _ _ _ _ w3.drew
     have hx4:Ext w3 w3.drew:=(Ext.refl w3).drew;generalize w3.drew=w4 at hx4 ⊢;have lN:=ak (gU.o.trans hx4);have HB4:=ak (hx4.blk HB3.o);have HU4:=ak (jJ.mono hx4.sub _ _ HU3.o);clear hx4 d0 df c73;go_wp2_with fail
     refine(IH.o r[k].jZ _ _ _ _ w4 (by omega) (by omega) Qk.o (HS.o.ext lN.o) (HL.o.ext lN.o) HU4.o HUN.o).mono ?_;rintro e w5 ⟨rfl,hx5⟩;have jY:=ak (lN.o.trans hx5);have Cj:=ak (hx5.blk HB4.o);clear hx5;by_cases hy:iW s l r[k].jZ=0
     ·have ty:(iW s l r[k].jZ != 0)=false:=by simp[hy]
      have HY:=ak hy;clear hy;go_wp2_with fail
      go_roundw
      case rel =>
       refine⟨k+1,by go_num,by omega,fun j hj hjk=>?_,Cj.o,jY.o⟩;by_cases e':j=k
       ·subst e';rw[HIE.o];exact HY.o
       exact lZ.o j hj (by omega)
      case measure=>simp[intOf];omega
     have ty:(iW s l r[k].jZ != 0)=true:=by simp[hy]
     have HR:=ak (show iW s l r=iW s l r[k].jZ by rw[<-HIE.o];exact Yg r k hkl (by rw[HIE.o];exact hy) fun j hj=>lZ.o j (by omega) hj);clear hy;go_wp2_with fail
     go_ret;exact dP (by rw[HR.o]) jY.o
    have tz:(fB s l r[k].cond != 0)=true:=by simp[hz]
    have HIE:Ag s l r[k]=fB s l r[k].cond:=by unfold Ag;rw[dw hz]
    have HR:=ak (show iW s l r=fB s l r[k].cond by rw[<-HIE];exact Yg r k hkl (by rw[HIE];exact hz) fun j hj=>lZ.o j (by omega) hj);clear hz HIE;go_wp2_with fail
    go_ret;exact dP (by rw[HR.o]) gU.o
   have t1:=aj ((k:Int)<(rn:Int));have HR:=ak (show iW s l r=0 from ac4 r fun j hj=>lZ.o j hj (by have:=OO.o;omega));go_wp2_with fail
   go_ret;exact dP (by rw[HR.o]) kC.o
theorem agm (l:List dY) (a:OA) (n c:Nat) (hn:n<=1000000) (hsz:∀x∈l,x.cond.size<=1000000000000000) (m:Nat):∀(r:List Wb) (ra:OA) (rn rc:Nat) (w:World),qU r<m->m<=1000000000000000->Vg r->eX w l a n c->jJ w r ra->rn=r.length ->
  Calls Tryz.prog 96 #[.slice a n c,.slice ra rn rc] w (dN (.bool (iC l r)) w):=by
 induction m with
 | zero=>intro r ra rn rc w h;omega
 | succ m ih =>
  intro r ra rn rc w hm hM hok hl hd hrn;have hrl:=wI r;have aUp:rn<=1000000000000000:=by omega
  have HL:=ak hl;have HD:=ak hd;have OO:=ak hrn;have Ej:=ak hok;have IH:=ak ih;have zN:=ak hsz;obtain⟨R,hR⟩:∃R,R=iC l r:=⟨_,rfl⟩
  rw[<-hR];have HR:=ak (show R=r.any (abJ l) by rw[hR];exact abb l r);clear hl hd hrn hok ih hR hsz;go_enter Tryz.func96,Tryz.ntmps96
  go_wp2_with fail
  go_loopw [5] (fun t wr=>∃k:Nat,t=.int .i64 k/\k<=rn/\(∀j (h:j<r.length),j<k->abJ l r[j]=false)/\Ext w wr) (fun t _=>rn - (intOf t).toNat)
  case atStart=>exact⟨0,rfl,by omega,fun j _ h=>by omega,Ext.refl _⟩
  case round =>
   obtain⟨k,rfl,hk,hno,hxr⟩:=hrel;have lZ:=ak hno;have kC:=ak hxr;clear hno hxr;by_cases hkn:k<rn
   ·have hkl:k<r.length:=by have:=OO.o;omega
    have t1:=ah ((k:Int)<(rn:Int));obtain⟨b,off,rfl,v,hv0,hrow,hv2,hv3,hv4,hv5,hv6⟩:=jJ.at r _ (jJ.mono kC.o.sub _ _ HD.o) k hkl;obtain⟨c0,c1,c2,c3,c4,c5,c6,c7⟩:=hrow.eight;obtain⟨ho1,ho2,ho3,ho4,ho5⟩:=aqo r Ej.o k hkl;have hwn:=Gn r k hkl;have HUU:=ak hv6;have HUN:=ak hv3;have HEX:=ak hv2;have Qk:=ak ho5;clear hrow hv0 hv2 hv3 hv4 hv5 hv6 ho2 ho3 ho5 ho1;go_wp2_with fail
    refine(zy l a n c hn zN.o r[k].cond _ wr ho4 (HL.o.ext kC.o) HEX.o).mono ?_;rintro e w3 ⟨rfl,hx3⟩;have gU:=ak (kC.o.trans hx3);have c73:=hx3.cell c7;have HU3:=ak (jJ.mono hx3.sub _ _ HUU.o);clear hx3 c0 c1 c2 c3 c4 c5 c6 c7;have HIL:=ak (show abJ l r[k]=(decide (2000<expanded l r[k].cond)||iC l r[k].jZ) from rfl);obtain⟨E,hE⟩:∃E,E=expanded l r[k].cond:=⟨_,rfl⟩
    rw[<-hE];rw[<-hE] at HIL;clear hE;by_cases hz:2000<E
    ·have tz:=ah ((2000:Int)<(E:Int));have HF:=ak (show R=true by
      rw[HR.o,List.any_eq_true];exact⟨r[k],aI hkl,by rw[HIL.o,dB hz];rfl⟩)
     go_wp2_with fail
     go_ret;exact jg (by rw[HF.o]) gU.o
    have tz:=aj ((2000:Int)<(E:Int));rw[dD hz,Bool.false_or] at HIL;go_wp2_with fail
    refine(IH.o r[k].jZ _ _ _ w3 (by omega) (by omega) Qk.o (HL.o.ext gU.o) HU3.o HUN.o).mono ?_;rintro e w5 ⟨rfl,hx5⟩;have jY:=ak (gU.o.trans hx5);clear hx5 c73;cases hb:iC l r[k].jZ
    ·have HI2:=ak (HIL.o.trans hb);clear hb;go_wp2_with fail
     go_roundw
     case rel =>
      refine⟨k+1,by go_num,by omega,fun j hj hjk=>?_,jY.o⟩;by_cases e':j=k
      ·subst e';exact HI2.o
      exact lZ.o j hj (by omega)
     case measure=>simp[intOf];omega
    have HF:=ak (show R=true by
     rw[HR.o,List.any_eq_true];exact⟨r[k],aI hkl,by rw[HIL.o,hb]⟩)
    go_wp2_with fail
    go_ret;exact jg (by rw[HF.o]) jY.o
   have t1:=aj ((k:Int)<(rn:Int));have HF:=ak (show R=false by
    rw[HR.o,List.any_eq_false];intro x hx;obtain⟨j,hj,rfl⟩:=bD.1 hx;have:=lZ.o j hj (by have:=OO.o;omega);simp[this])
   go_wp2_with fail
   go_ret;exact jg (by rw[HF.o]) kC.o
structure RInv (l:List zO) (o:ZN):Prop where
 nodup:o.Nodup
 sub:∀i∈o,ku l i=true
 after:After l o
theorem RInv.start (l:List zO):RInv l []:=⟨List.nodup_nil,by simp,fun p i h=>by simp at h⟩
theorem RInv.snoc {l:List zO} {o:ZN} {p:Nat} (h:RInv l o) (hd:ku l p=true) (hp:p∉o) (hm:qV l o p=[]):RInv l (o++[p]) where
 nodup:=List.nodup_append.2 ⟨h.nodup,by simp,fun a ha b hb e=>hp (by simp at hb;rw[<-hb,<-e];exact ha)⟩
 sub i hi:=by
  rcases aT.1 hi with h1|h1
  ·exact h.sub i h1
  simp at h1;rw[h1];exact hd
 after:=h.after.snoc hm
theorem RInv.le {l:List zO} {o:ZN} (h:RInv l o):o.length<=countOf l:=Az _ _ h.nodup fun i hi=>Jw.2 (h.sub i hi)
theorem RInv.lt {l:List zO} {o:ZN} {p:Nat} (h:RInv l o) (hd:ku l p=true) (hp:p∉o):o.length<countOf l:=by
 have:=Az (p::o) ((List.range l.length).filter (ku l)) (List.nodup_cons.2 ⟨hp,h.nodup⟩) (fun i hi=>by
  rcases bK.1 hi with rfl|hi
  ·exact Jw.2 hd
  exact Jw.2 (h.sub i hi))
 simp only[List.length_cons] at this;unfold countOf;omega
theorem RInv.done {l:List zO} {o:ZN} (h:RInv l o) (ha:∀i,ku l i=true->i∈o):ad8 l o:=⟨h.nodup,fun i=>⟨h.sub i,ha i⟩,h.after⟩
theorem RInv.stuck {l:List zO} {o:ZN} (hs:∀i,ku l i=true->i∉o->qV l o i≠[]) {p:Nat} (hd:ku l p=true) (hp:p∉o):¬Sorts l:=by
 rintro⟨q,hq⟩;have key:∀(p i:Nat),q[p]?=some i->i∈o:=by
  intro p;induction p using Nat.strongRecOn with
  | ind p ih =>
   intro i hi;refine Classical.byContradiction fun hio=>?_
   refine hs i ((hq.all i).1 (List.mem_of_getElem? hi)) hio (CW.2 fun s hs d hd=>?_);obtain⟨k,hk⟩:=List.mem_iff_getElem?.1 (hq.after p i hi s hs d hd);have hkp:k<p:=by
    rcases cO k p with h'|h'
    ·exact h'
    rw[List.getElem?_eq_none (by simp;omega)] at hk;cases hk
   rw[List.getElem?_take,dw hkp] at hk;exact ih k hkp d hk
 obtain⟨k,hk⟩:=List.mem_iff_getElem?.1 ((hq.all p).2 hd);exact hp (key k p hk)
theorem abU:zh 191 4 (.bool false) 1 1:=⟨by kernel_rfl,by kernel_rfl,rfl,by omega⟩
structure Ce (bs:Nat) (L:List Bool) (w:World):Prop where
 row:∃cur:Array Value,w.heap[bs]?=some (.cells cur 4 (0,0))/\cur.toList=L.map Value.bool
theorem Ce.cell {bs:Nat} {L:List Bool} {w:World} (h:Ce bs L w) {i:Nat} (hi:i<L.length):w.cell? ⟨bs,i,none⟩=some (.bool L[i]):=by
 obtain⟨cur,h1,h2⟩:=h.row;rw[dM h1];have:cur.toList[i]?=some (.bool L[i]):=by rw[h2];simp[hi]
 simpa using this
theorem Ce.free {bs:Nat} {L:List Bool} {w:World} (h:Ce bs L w) (i:Nat):w.frozen? ⟨bs,i,none⟩=false:=by
 obtain⟨cur,h1,h2⟩:=h.row;exact jS h1 i
theorem Ce.lt {bs:Nat} {L:List Bool} {w:World} (h:Ce bs L w):bs<w.heap.size:=by
 obtain⟨cur,h1,h2⟩:=h.row;exact dH h1
theorem Ce.ext {bs:Nat} {L:List Bool} {w w':World} (h:Ce bs L w) (hx:Ext w w'):Ce bs L w':=by
 obtain⟨cur,h1,h2⟩:=h.row;exact⟨cur,hx.blk h1,h2⟩
theorem Ce.set {bs:Nat} {L:List Bool} {w:World} (h:Ce bs L w) (i:Nat) (b:Bool):Ce bs (L.set i b) (w.setCell ⟨bs,i,none⟩ (.bool b)):=by
 obtain⟨cur,h1,h2⟩:=h.row;refine⟨_,aO w bs i _ _ (.bool b) h1,?_⟩;simp[h2,List.map_set]
theorem Ce.kZ {w:World} {base bs n:Nat} (h:w.ownsRow base 4 1 (.slice (some ⟨bs,0,none⟩) n n) n (madeCells #[Value.bool false] n).toList):Ce bs (List.replicate n false) w:=by
 rcases h.2 with ⟨h0,_⟩|⟨g,cap,cur,hv,_,hg,_,_,hs,ht⟩
 ·simp at h0
 simp only[Value.slice.injEq,Option.some.injEq,Addr.mk.injEq,and_true,true_and] at hv;obtain⟨rfl,rfl⟩:=hv;refine⟨cur,hg,?_⟩;have e1:cur.toList.take (n*1)=cur.toList:=aY (by simp;omega);rw[e1] at ht;rw[ht];simp only[madeCells,List.map_replicate]
 apply List.ext_getElem
 ·simp
 intro i h1 h2;simp[Nat.mod_one]
def marks (o:ZN) (n:Nat):List Bool:=(List.range n).map fun j=>decide (j∈o)
theorem aDk (n:Nat):marks [] n=List.replicate n false:=by simp[marks,List.map_const']
theorem VL (o:ZN) (n:Nat):(marks o n).length=n:=by simp[marks]
theorem aeX {o:ZN} {n j:Nat} (hj:j<n):(marks o n)[j]'(by rw[VL];exact hj)=decide (j∈o):=by simp[marks]
theorem aDj (o:ZN) (n p:Nat):(marks o n).set p true=marks (o++[p]) n:=by
 apply List.ext_getElem
 ·simp[marks]
 intro j h1 h2;have hj:j<n:=by simpa[marks] using h2
 have e1:(marks (o++[p]) n)[j]=decide (j∈o++[p]):=aeX hj;have e2:(marks o n)[j]'(by rw[VL];exact hj)=decide (j∈o):=aeX hj;rw[e1,List.getElem_set];by_cases e:p=j
 ·subst e;simp
 rw[dh e,e2]
 congr 1
 simp only[aT,aK];exact propext ⟨Or.inl,fun h=>h.resolve_right fun h=>e h.symm⟩
open Go.RowKit Go.Maps
theorem aFH:Tryz.prog.underlying 9=some .string:=by kernel_rfl
theorem jR:Keyed Tryz.prog 9:=string_keyed aFH
theorem amQ:Tryz.prog.underlying 174=some (.map 9 176):=by kernel_rfl
def RG (w:World) (b n:Nat) (l:ZB):Prop:=∃D:DataW Unit,w.ownsMap Tryz.prog 9 unitElem b n D/\ap6 D l
theorem RG.fH {w w':World} {b n:Nat} {l:ZB} {N:ZN} (h:RG w b n l) (hc:dO N w w') (hn:b∉N):RG w' b n l:=by
 obtain⟨D,⟨es,clock,hb,r⟩,hs⟩:=h;exact⟨D,⟨es,clock,hc.blk hb hn,r⟩,hs⟩
theorem RG.lt {w:World} {b n:Nat} {l:ZB} (h:RG w b n l):b<w.heap.size:=by
 obtain⟨D,h,_⟩:=h;exact h.lt
theorem RG.mono {w:World} {b n n':Nat} {l:ZB} (h:RG w b n l) (hn:n<=n'):RG w b n' l:=by
 obtain⟨D,h,hs⟩:=h;exact⟨D,h.mono hn,hs⟩
def aKA (b n:Nat) (l:ZB) (w:World) (e:Ending) (w':World):Prop:=e=.returned (.tuple #[])/\RG w' b n l/\dO [b] w w'
theorem dO.aLx {w w':World} {b:Nat} (h:w.grownBy w' (some b)):dO [b] w w':=⟨h.os,h.tape,h.output,h.size,fun k hk hn=>h.block k hk (fun e=>hn (by simp at e;simp[e]))⟩
theorem VK {w:World} {M:ZN} {p:Addr} {v:Value} (h:(mask w M).cell? p=some v):w.cell? p=some v:=by
 rw[iH] at h;split at h
 ·cases h
 exact h
theorem ahW:(l:List Ex)->nJ l->∀x∈l,x.fits
 | [],_,x,hx=>by simp at hx
 | a::r,h,x,hx=>by
  unfold nJ at h;rcases bK.1 hx with rfl|hx
  ·exact h.1
  exact ahW r h.2 x hx
theorem TW {e:Ex} (h:e.fits):e.name.size<=1000000000000000/\∀x∈e.args,x.fits:=by
 cases e
 unfold Ex.fits at h;exact⟨h.1,ahW _ h.2.2⟩
theorem anM (m:Nat):m<=1000000->∀(e:Ex) (v:Value) (w:World) (b n:Nat) (l:ZB),e.size<=m->e.fits->fC (mask w [b]) e v->RG w b n l->n+e.size<=1000000 ->
  Calls Tryz.prog 140 #[v,.map (some b)] w (aKA b (n+e.size) (l++jo e) w):=by
 induction m with
 | zero=>intro _ e v w b n l h;have:=size_pos e;omega
 | succ m ih =>
  intro YJ e v w b n l hm hfit he hset hn;obtain⟨aw,nw,cw,aa,na,ca,rfl,hw,hna,hca,ha,hx⟩:=he.parts;have hS:e.size=1+sizes e.args:=e.size_eq;have hla:=iI e.args;obtain⟨hnm,hfa⟩:=TW hfit;have Gh:=ak hfa;have hbw:=hset.lt;have HX:=ak ((Ext.refl w).alloc (.cells (aC e.op e.name aw nw cw e.lo e.hi aa na ca) 45));have lV:=ak (dG w (.cells (aC e.op e.name aw nw cw e.lo e.hi aa na ca) 45));have Eh:=ak (iK.mono (iy [b] HX.o) e.args aa hx);have Oz:=ak (hset.fH (HX.o.fH []) (by simp));have nK:=ak hna;have Gm:=ak (aoV e);have zN:=ak hS;have IH:=ak (ih (by omega));have Q9:na<=1000000:=by omega
  have hsz:sizes e.args<=m:=by omega
  have hn2:n+1+sizes e.args<=1000000:=by omega
  clear hw hna hca ha hx he hset hS hla hfit hfa ih hm hn;generalize jo e=NE at *;generalize e.size=SE at *;unfold exV;go_enter Tryz.func140,Tryz.ntmps140
  go_upto_region 1 with fail
  generalize w.alloc (.cells (aC e.op e.name aw nw cw e.lo e.hi aa na ca) 45)=wb at *;have hz0:=HX.o.size;obtain⟨b0,b1,b2,b3,b4,b5,bf⟩:=eP lV.o;have hlx:=dH lV.o;by_cases h3:e.op=3
  case' pos =>
   have t3:(e.op==3)=true:=by simp[h3]
   obtain⟨D,hown,hsi⟩:=Oz.o;have HOW:=ak hown;have wZ:=ak (show NE=[e.name]++kH e.args by rw[Gm.o,dw h3]);have HSI:=ak (hsi.put e.name (.agg []));clear hown hsi h3;go_wp2_with (at_mapUpdate;refine wpList_mapUpdate_own _ rfl _ _ _ 174 rfl 9 176 jR amQ (unitElem (H:=Unit)) b n D rfl HOW.o ?c0 _ _ _ rfl rfl (Go.WideMaps.keyOf_string_mk aFH ?c1) _ [] unitElem_mk ?_)
   case c0=>unfold maxLen;omega
   case c1=>unfold maxLen;omega
   intro w1 hown1 hgrow1;have hc1:=dO.aLx hgrow1;have qw:=ak hc1;obtain⟨L,hL⟩:∃L,L=l++[e.name]:=⟨_,rfl⟩
   have Fh:=ak (show RG w1 b (n+1) L by rw[hL];exact⟨_,hown1,HSI.o⟩);have HB1:=ak (hc1.blk lV.o (by simp;omega));have aXm:=ak (show L++kH e.args=l++NE by rw[hL,wZ.o,List.append_assoc]);have hz1:=hc1.size;clear hown1 hgrow1 hc1 HOW HSI wZ hL b0 b1 b2 b3 b4 b5 bf hlx;go_upto_region 3 with fail
  case' neg =>
   have t3:(e.op==3)=false:=by simp[h3]
   have wZ:=ak (show NE=kH e.args by rw[Gm.o,dh h3];simp);have qw:=ak (dO.refl [b] wb);obtain⟨L,hL⟩:∃L,L=l:=⟨_,rfl⟩
   have Fh:=ak (show RG wb b (n+1) L by rw[hL];exact Oz.o.mono (Nat.le_succ n));have HB1:=lV;have aXm:=ak (show L++kH e.args=l++NE by rw[hL,wZ.o]);have hz1:=bg wb.heap.size;clear h3 wZ hL;go_upto_region 3 with fail
   clear b0 b1 b2 b3 b4 b5 bf hlx
  all_goals
   obtain⟨b0,b1,b2,b3,b4,b5,bf⟩:=eP HB1.o;have hlx:=dH HB1.o;go_wp2_with fail
   clear b0 b1 b2 b3 b4 b5 bf hlx
   go_loopg [16] na (fun g i wr=>∃j:Nat,j<=na/\g=na - j/\i=.int .i64 j/\RG wr b (n+1+sizes (e.args.take j)) (L++kH (e.args.take j))/\dO [b] wb wr)
   case atStart=>exact⟨0,by omega,rfl,rfl,by simpa[sizes,kH] using Fh.o,qw.o⟩
   case round =>
    obtain⟨j,hj,hgj,rfl,hs,hc⟩:=hrel;have PO:=ak hgj;have HSJ:=ak hs;have HCJ:=ak hc;have hzr:=hc.size;clear hs hc hgj;by_cases hlt:j<na
    ·have hlt':j<e.args.length:=by have:=nK.o;omega
     have td:decide ((j:Int)<(na:Int))=true:=by simp;omega
     obtain⟨bb,off,rfl,rJ,rF,rH,rM,rG,ca1,c0,c1,c2,c3,c4,c5,c6⟩:=iK.at e.args _ (iK.mono HCJ.o.sub _ _ Eh.o) j hlt';have Fj:=ak c6
     replace c0:=VK c0
     replace c1:=VK c1
     replace c2:=VK c2
     replace c3:=VK c3
     replace c4:=VK c4
     replace c5:=VK c5
     have HST:=ak (iq e.args j hlt');have HSL:=ak (gV e.args (j+1));have HNT:=ak (ahI e.args j hlt');have HFJ:=ak (Gh.o _ (aI hlt'));clear c6;generalize e.args[j]=a at *;go_upto_region 6 with fail
     have fE:=ak ((Ext.refl wr).alloc (.cells (aC a.op a.name rJ rF rH a.lo a.hi rM rG ca1) 45));have sS:=ak (dG wr (.cells (aC a.op a.name rJ rF rH a.lo a.hi rM rG ca1) 45));clear c0 c1 c2 c3 c4 c5;generalize wr.alloc (.cells (aC a.op a.name rJ rF rH a.lo a.hi rM rG ca1) 45)=wa at *;obtain⟨a0,a1,a2,a3,a4,a5,af⟩:=eP sS.o;have hla:=dH sS.o;go_wp2_with fail
     refine(IH.o a _ _ b _ _ (by have:=HST.o;have:=HSL.o;omega) HFJ.o (Fj.o.mono (iy [b] fE.o)) (HSJ.o.fH (fE.o.fH []) (by simp)) (by have:=HST.o;have:=HSL.o;omega)).mono ?_;rintro r w2 ⟨rfl,hs2,hc2⟩;have HS2:=ak (show RG w2 b (n+1+sizes (e.args.take (j+1))) (L++kH (e.args.take (j+1))) by
      rw[HST.o,HNT.o,<-List.append_assoc,<-Nat.add_assoc];exact hs2)
     have HC2:=ak ((HCJ.o.then (fE.o.fH _)).then hc2);clear hs2 hc2 a0 a1 a2 a3 a4 a5 af hla;go_wp2_with fail
     go_roundg (na - (j+1))
     case measure=>have:=PO.o;omega
     case rel=>exact⟨j+1,by omega,rfl,by go_num,HS2.o,HC2.o⟩
    have HE2:=ak (show e.args.take j=e.args from aY (by have:=nK.o;omega));have td:decide ((j:Int)<(na:Int))=false:=by simp;omega
    rw[HE2.o] at HSJ;go_wp2_with fail
    go_end0
    refine⟨rfl,?_,(HX.o.fH _).then HCJ.o⟩;rw[zN.o,<-aXm.o,<-Nat.add_assoc];exact HSJ.o
end Go.Proofs.YtefjomofjejklaaGreatDoor
