/-
  Texts of the claim, joined: RPv, PVer, PrArg2.
-/
import Derived.Test.YtpkljcgihobaiaaGreatDoorVe27
namespace Go.Proofs.YtpkljcgihobaiaaGreatDoor
set_option maxRecDepth 100000
set_option maxHeartbeats 32000000
open Go.RowKit
theorem rproves_calls (s:List Attr) (l:List Cla) (f:ZI) (hc:Chk s l) (hfa:factsAll s f=true) (hsf:∀ x∈s,x.fits) (a:OA) (n c:Nat) (fa:OA) (fn fc:Nat) (sa:OA) (sn sc:Nat):∀ (g m:Nat) (e:Ex) (ev:Value) (p:Pr) (pv:PrV) (w:World),e.size<=m->m<=1000000->okTree e->nodesErr s l e=0->expF l g e<=2000->IsSchema w s (.agg #[.slice sa sn sc])->IsClas w l a n c->IsIntF w f fa fn->IsEx w e ev->IsPr w p pv ->
  Calls Tryz.prog 23 #[.agg #[.slice sa sn sc],.slice a n c,ev,.slice fa fn fc,pv.val] w (GivesE (.bool (prvF s l f g e p)) w):=by
 intro g
 induction g with
 | zero=>intro m e ev p pv w _ _ _ _ h;simp[expF] at h
 | succ g ihg =>
  intro m
  induction m with
  | zero=>intro e ev p pv w h;have:=size_pos e;omega
  | succ m ihm =>
   intro e ev p pv w hm hMM hok hnd hex hs hl hi he hp
   have hways:=node_kinds hc hok hnd
   have hfw:=fact_ways hok hnd
   have HTR:=fun W (hW:Ext w W)=>rTruth_calls s l f hc hfa hsf a n c fa fn fc (g+1) (m+1) e ev (.agg #[.slice sa sn sc]) W hm hMM hok hnd hex (hs.mono hW.sub) (hl.ext hW) (he.ext hW) (hi.mono hW.sub)
   obtain⟨-,hnda⟩:=nodes_parts hnd
   obtain⟨hokn,hoka⟩:=okTree_parts hok
   have hexa:=expE_arg (D:=dOf l g) (e:=e) (by rw[<-expF_succ];exact hex)
   have hexh:=expE_hd (D:=dOf l g) (e:=e) (by rw[<-expF_succ];exact hex)
   have HARG:=fun (j:Nat) (hj:j < e.args.length) (xv:Value) (q:Pr) (qv:PrV) (W:World) (hW:Ext w W) (hxv:IsEx W e.args[j] xv) (hq:IsPr W q qv)=>ihm e.args[j] xv q qv W (by have h1:=sizes_take_succ e.args j hj;have h2:=sizes_take_le e.args (j+1);have h3:=e.size_eq;omega) (by omega) (hoka _ (List.getElem_mem hj)) (hnda j hj) (by rw[expF_succ];exact hexa j hj) (hs.mono hW.sub) (hl.ext hW) (hi.mono hW.sub) hxv hq
   have HDEF:=fun (h3:e.op=3) (d:Nat) (hdd:defAt l e.name=some d) (xv:Value) (q:Pr) (qv:PrV) (W:World) (hW:Ext w W) (hxv:IsEx W (l.getD d cla0).cond xv) (hq:IsPr W q qv)=>ihg 300 (l.getD d cla0).cond xv q qv W (hc.cond (defAt_atK hdd).1).2.2 (by omega) (hc.cond (defAt_atK hdd).1).1 (hc.cond (defAt_atK hdd).1).2.1 (hexh h3 (by unfold dOf;rw[hdd];rfl)) (hs.mono hW.sub) (hl.ext hW) (hi.mono hW.sub) hxv hq
   have hsl6:=(schema_attrs hc.sch).2.1
   have HIX:=fun W (hW:Ext w W)=>rIndex_calls s (.agg #[.slice sa sn sc]) e.name W (hs.mono hW.sub) (by omega)
   have HDN:=fun W (hW:Ext w W)=>(rDef_calls l a n c e.name W (hl.ext hW) (by have:=hl.len;have:=hc.len;omega)).mono (R':=GivesE (optV (defAt l e.name)) W) fun r w' h=>⟨h.1,h.2 ▸ Ext.refl _⟩
   obtain⟨aw,nw,cw,aa,na,ca,rfl,hw,hna,hca,ha,hx⟩:=he.parts
   have hna2:e.args.length<=1000000:=by have h1:=length_le_sizes e.args;have h3:=e.size_eq;omega
   obtain⟨op,name,words,lo,hi',args⟩:=e
   simp only[Ex.op,Ex.name,Ex.words,Ex.lo,Ex.hi,Ex.args] at *
   have hI:RpvIn s l f g op name args lo hi' w a n c fa fn fc sa sn sc aw nw cw aa na ca p pv.value pv.pick pv.a pv.n pv.c:=⟨HIX,HARG,hx,hna,hna2,hp⟩
   obtain⟨pb,pk,pa,pn,pc⟩:=pv
   unfold PrV.val
   simp only at hI ⊢
   rcases hways with ⟨h6,hdn⟩|⟨rfl,hat,d,hdf⟩|⟨rfl,hl1⟩|h78
   ·refine rpv_factC rfl h6 hdn (fun h3=>?_) HTR hI
    subst h3
    obtain⟨i,hat⟩:∃ i,attrAt s name=some i:=by
     rcases hfw h6 hdn with h|h|⟨-,h⟩|⟨h,-⟩|⟨h,-⟩
     ·omega
     ·omega
     ·exact h
     ·omega
     omega
    have his:i < s.length:=attrAt_lt hat
    have hfl:i < f.length:=by rw[factsAll_len hfa];exact his
    obtain⟨fb,fo,hfb,hfc⟩:=hi.2 i hfl
    refine⟨i,fb,fo,f[i],hat,hfb,by rw[hi.1];exact hfl,hfc,?_⟩
    have e1:((defAt l name).map fun d=>valF s l f g (l.getD d cla0).cond)=none:=by rw[hdn rfl];rfl
    rw[valF,valE,if_neg (by decide),if_neg (by decide),if_neg (by decide),if_pos rfl,e1]
    simp only[Option.getD_none,factV,hat]
    simp[hfl]
   ·exact rpv_defC hdf hat hl HDN (HDEF rfl d hdf) hI
   ·exact rpv_notC hl1 hI
   rcases h78 with rfl|rfl
   ·cases pb
    ·exact rpv_oneC (Or.inl ⟨rfl,rfl⟩) hI
    exact rpv_allC (Or.inl ⟨rfl,rfl⟩) hI
   cases pb
   ·exact rpv_allC (Or.inr ⟨rfl,rfl⟩) hI
   exact rpv_oneC (Or.inr ⟨rfl,rfl⟩) hI
theorem IsWorld.proves {W:World} {s:List Attr} {l:List Cla} {x:Ex} {f:ZI} {v:WorldV} (hw:IsWorld W s l x f v) {p:Pr} {pv:PrV} (hp:IsPr W p pv) :
  Calls Tryz.prog 23 #[.agg #[.slice v.sa v.sn v.sc],.slice v.la v.ln v.lc,v.x.val,.slice v.fa v.fn v.fc,pv.val] W (GivesE (.bool (prv s l f x p)) W) :=
 rproves_calls s l f hw.ok.chk hw.facts (attrs_fits hw.mem) v.la v.ln v.lc v.fa v.fn v.fc v.sa v.sn v.sc (l.length+1) 300 x v.x.val p pv W hw.ok.size (by omega) hw.ok.tree hw.ok.node hw.ok.exp hw.sch hw.clas hw.ints hw.ex hp
theorem IsWorld.okG {W:World} {s:List Attr} {l:List Cla} {x:Ex} {f g:ZI} {v:WorldV} (hw:IsWorld W s l x f v) (hg:factsAll s g=true):Ok11 s l x g:=hw.term.ok (by omega) (by omega) (by omega) hw.cls hg
theorem IsWorld.provesG {W:World} {s:List Attr} {l:List Cla} {x:Ex} {f g:ZI} {v:WorldV} (hw:IsWorld W s l x f v) (hg:factsAll s g=true) {ga:OA} (hi:IsIntF W g ga g.length) (gc:Nat) {p:Pr} {pv:PrV} (hp:IsPr W p pv) :
  Calls Tryz.prog 23 #[.agg #[.slice v.sa v.sn v.sc],.slice v.la v.ln v.lc,v.x.val,.slice ga g.length gc,pv.val] W (GivesE (.bool (prv s l g x p)) W) :=
 rproves_calls s l g (hw.okG hg).chk hg (attrs_fits hw.mem) v.la v.ln v.lc ga g.length gc v.sa v.sn v.sc (l.length+1) 300 x v.x.val p pv W (hw.okG hg).size (by omega) (hw.okG hg).tree (hw.okG hg).node (hw.okG hg).exp hw.sch hw.clas hi hw.ex hp
theorem IsWorld.verifyG {W:World} {s:List Attr} {l:List Cla} {x:Ex} {f g:ZI} {v:WorldV} (hw:IsWorld W s l x f v) (ho:HasOps W) (hg:factsAll s g=true) (hn:g.length<=1000) {ga:OA} (hi:IsIntF W g ga g.length) (gc:Nat) {p:Pr} {pv:PrV} (hp:IsPr W p pv) :
  Calls Tryz.prog 18 #[.agg #[.slice v.sa v.sn v.sc],.slice v.la v.ln v.lc,v.x.val,.slice ga g.length gc,pv.val] W (GivesE (.bool (prv s l g x p)) W):=by
 have hsz:=(hw.okG hg).size
 have:=verified_calls s l x g p pv _ _ _ _ v.lc _ _ gc W (hw.in11 ho hw.ex (tree_few (hw.okG hg).tree) (tree_fits (hw.okG hg).tree) (slim_of_size _ (by omega)) hi (by omega)) hp
 unfold verB at this
 rw[(hw.okG hg).err,if_pos rfl] at this
 exact this
def pver6R (w9:World) (s:List Attr) (v:WorldV) (ga:OA) (gn gc b9:Nat):Nat->Value->World->Prop
 | 0,u,_=>u=.slice ga gn gc
 | 1,u,W=>∃ (bq2:Nat),u=.pointer (some ⟨bq2,0,none⟩)/\DeckAt w9 W bq2
 | 2,u,_=>u=.pointer (some ⟨b9,0,none⟩)
 | 3,u,_=>u=.agg #[.slice v.sa v.sn v.sc]
 | 4,u,W=>∃ (g:ZI) (ga2:OA) (gc2:Nat),u=.slice ga2 g.length gc2/\(factsAll s g=true/\g.length<=1000/\IsIntF W g ga2 g.length)
 | _,u,W=>∃ (g:ZI) (ga2:OA) (gc2:Nat),u=.slice ga2 g.length gc2/\(factsAll s g=true/\g.length<=1000/\IsIntF W g ga2 g.length)
def pver7R (v:WorldV) (_b6 b9 _b11 _b13 _b14:Nat) (pb0:Bool) (pk0:Int) (pa0:OA) (pn0 pc0:Nat) (pb:Bool) (pk:Int) (pa:OA) (pn pc:Nat) (xb:Bool) (xk:Int) (xa:OA) (xn xc:Nat) (yb:Bool) (yk:Int) (ya:OA) (yn yc:Nat) (ga2:OA) (gl gc2:Nat) (B1 B2 B3 B4:Bool):Nat->Value->World->Prop
 | 0,u,_=>u=.pointer (some ⟨b9,0,none⟩)
 | 1,u,_=>u=.agg #[.slice v.sa v.sn v.sc]
 | 2,u,_=>u=.pointer (some ⟨b9,1,none⟩)
 | 3,u,_=>u=.slice v.la v.ln v.lc
 | 4,u,_=>u=.pointer (some ⟨b9,2,none⟩)
 | 5,u,_=>u=.agg #[.int .i64 v.x.op,.string v.x.name,.slice v.x.aw v.x.nw v.x.cw,.int .i64 v.x.lo,.int .i64 v.x.hi,.slice v.x.aa v.x.na v.x.ca]
 | 6,u,_=>u=.pointer (some ⟨b9,8,none⟩)
 | 7,u,_=>u=.slice v.fa v.fn v.fc
 | 8,u,_=>u=.agg #[.bool pb0,.int .i64 pk0,.slice pa0 pn0 pc0]
 | 9,u,_=>u=.bool B1
 | 10,u,_=>u=.pointer (some ⟨b9,0,none⟩)
 | 11,u,_=>u=.agg #[.slice v.sa v.sn v.sc]
 | 12,u,_=>u=.pointer (some ⟨b9,1,none⟩)
 | 13,u,_=>u=.slice v.la v.ln v.lc
 | 14,u,_=>u=.pointer (some ⟨b9,2,none⟩)
 | 15,u,_=>u=.agg #[.int .i64 v.x.op,.string v.x.name,.slice v.x.aw v.x.nw v.x.cw,.int .i64 v.x.lo,.int .i64 v.x.hi,.slice v.x.aa v.x.na v.x.ca]
 | 16,u,_=>u=.pointer (some ⟨b9,8,none⟩)
 | 17,u,_=>u=.slice v.fa v.fn v.fc
 | 18,u,_=>u=.agg #[.bool pb0,.int .i64 pk0,.slice pa0 pn0 pc0]
 | 19,u,_=>u=.bool B1
 | 20,u,_=>u=.bool true
 | 21,u,_=>u=.bool true
 | 22,u,_=>u=.pointer (some ⟨b9,0,none⟩)
 | 23,u,_=>u=.agg #[.slice v.sa v.sn v.sc]
 | 24,u,_=>u=.pointer (some ⟨b9,1,none⟩)
 | 25,u,_=>u=.slice v.la v.ln v.lc
 | 26,u,_=>u=.pointer (some ⟨b9,2,none⟩)
 | 27,u,_=>u=.agg #[.int .i64 v.x.op,.string v.x.name,.slice v.x.aw v.x.nw v.x.cw,.int .i64 v.x.lo,.int .i64 v.x.hi,.slice v.x.aa v.x.na v.x.ca]
 | 28,u,_=>u=.pointer (some ⟨b9,8,none⟩)
 | 29,u,_=>u=.slice v.fa v.fn v.fc
 | 30,u,_=>u=.agg #[.bool xb,.int .i64 xk,.slice xa xn xc]
 | 31,u,_=>u=.bool B2
 | 32,u,_=>u=.pointer (some ⟨b9,0,none⟩)
 | 33,u,_=>u=.agg #[.slice v.sa v.sn v.sc]
 | 34,u,_=>u=.pointer (some ⟨b9,1,none⟩)
 | 35,u,_=>u=.slice v.la v.ln v.lc
 | 36,u,_=>u=.pointer (some ⟨b9,2,none⟩)
 | 37,u,_=>u=.agg #[.int .i64 v.x.op,.string v.x.name,.slice v.x.aw v.x.nw v.x.cw,.int .i64 v.x.lo,.int .i64 v.x.hi,.slice v.x.aa v.x.na v.x.ca]
 | 38,u,_=>u=.pointer (some ⟨b9,8,none⟩)
 | 39,u,_=>u=.slice v.fa v.fn v.fc
 | 40,u,_=>u=.agg #[.bool xb,.int .i64 xk,.slice xa xn xc]
 | 41,u,_=>u=.bool B2
 | 42,u,_=>u=.bool true
 | 43,u,_=>u=.bool true
 | 44,u,_=>u=.bool true
 | 45,u,_=>u=.pointer (some ⟨b9,0,none⟩)
 | 46,u,_=>u=.agg #[.slice v.sa v.sn v.sc]
 | 47,u,_=>u=.pointer (some ⟨b9,1,none⟩)
 | 48,u,_=>u=.slice v.la v.ln v.lc
 | 49,u,_=>u=.pointer (some ⟨b9,2,none⟩)
 | 50,u,_=>u=.agg #[.int .i64 v.x.op,.string v.x.name,.slice v.x.aw v.x.nw v.x.cw,.int .i64 v.x.lo,.int .i64 v.x.hi,.slice v.x.aa v.x.na v.x.ca]
 | 51,u,_=>u=.pointer (some ⟨b9,8,none⟩)
 | 52,u,_=>u=.slice v.fa v.fn v.fc
 | 53,u,_=>u=.agg #[.bool yb,.int .i64 yk,.slice ya yn yc]
 | 54,u,_=>u=.bool B3
 | 55,u,_=>u=.pointer (some ⟨b9,0,none⟩)
 | 56,u,_=>u=.agg #[.slice v.sa v.sn v.sc]
 | 57,u,_=>u=.pointer (some ⟨b9,1,none⟩)
 | 58,u,_=>u=.slice v.la v.ln v.lc
 | 59,u,_=>u=.pointer (some ⟨b9,2,none⟩)
 | 60,u,_=>u=.agg #[.int .i64 v.x.op,.string v.x.name,.slice v.x.aw v.x.nw v.x.cw,.int .i64 v.x.lo,.int .i64 v.x.hi,.slice v.x.aa v.x.na v.x.ca]
 | 61,u,_=>u=.pointer (some ⟨b9,8,none⟩)
 | 62,u,_=>u=.slice v.fa v.fn v.fc
 | 63,u,_=>u=.agg #[.bool yb,.int .i64 yk,.slice ya yn yc]
 | 64,u,_=>u=.bool B3
 | 65,u,_=>u=.bool true
 | 66,u,_=>u=.bool true
 | 67,u,_=>u=.bool true
 | 68,u,_=>u=.pointer (some ⟨b9,0,none⟩)
 | 69,u,_=>u=.agg #[.slice v.sa v.sn v.sc]
 | 70,u,_=>u=.pointer (some ⟨b9,1,none⟩)
 | 71,u,_=>u=.slice v.la v.ln v.lc
 | 72,u,_=>u=.pointer (some ⟨b9,2,none⟩)
 | 73,u,_=>u=.agg #[.int .i64 v.x.op,.string v.x.name,.slice v.x.aw v.x.nw v.x.cw,.int .i64 v.x.lo,.int .i64 v.x.hi,.slice v.x.aa v.x.na v.x.ca]
 | 74,u,_=>u=.slice ga2 gl gc2
 | 75,u,_=>u=.agg #[.bool pb,.int .i64 pk,.slice pa pn pc]
 | 76,u,_=>u=.bool B4
 | 77,u,_=>u=.pointer (some ⟨b9,0,none⟩)
 | 78,u,_=>u=.agg #[.slice v.sa v.sn v.sc]
 | 79,u,_=>u=.pointer (some ⟨b9,1,none⟩)
 | 80,u,_=>u=.slice v.la v.ln v.lc
 | 81,u,_=>u=.pointer (some ⟨b9,2,none⟩)
 | 82,u,_=>u=.agg #[.int .i64 v.x.op,.string v.x.name,.slice v.x.aw v.x.nw v.x.cw,.int .i64 v.x.lo,.int .i64 v.x.hi,.slice v.x.aa v.x.na v.x.ca]
 | 83,u,_=>u=.slice ga2 gl gc2
 | 84,u,_=>u=.agg #[.bool pb,.int .i64 pk,.slice pa pn pc]
 | 85,u,_=>u=.bool B4
 | 86,u,_=>u=.bool true
 | 87,u,_=>u=.bool true
 | 88,u,_=>u=.bool true
 | 89,u,_=>u=.bool true
 | 90,u,_=>u=.bool true
 | _,u,_=>u=.bool true
set_option synthInstance.maxSize 100000 in
set_option synthInstance.maxHeartbeats 4000000 in
theorem pverify_calls (da:OA) (dn dc:Nat) (oa:OA) (on oc:Nat) (a0:Pr) (v0:PrV) (ga:OA) (gn gc:Nat) (w:World) (h1:IntsAt w da dn) (hd1:dn<=1000000000000000) (h2:IntsAt w oa on) (hd2:on<=1000000000000000) (hp:IsPr w a0 v0) (_:a0.fit) (h3:IntsAt w ga gn) (hd3:gn<=1000000000000000) (ho:HasOps w) :
  Calls Tryz.prog 5 #[.slice da dn dc,.slice oa on oc,v0.val,.slice ga gn gc] w (GivesE (.bool true) w):=by
 obtain⟨pb0,pk0,pa0,pn0,pc0⟩:=v0
 have HO:=hI ho
 have HP0:=hI hp
 have HI2:=hI h2
 have HI3:=hI h3
 obtain⟨wa,hwa⟩:∃ wa,wa=w.alloc (.cells #[.bool pb0,.int .i64 pk0,.slice pa0 pn0 pc0] 40):=⟨_,rfl⟩
 obtain⟨b6,hb6⟩:∃ b6:Nat,b6=w.heap.size:=⟨_,rfl⟩
 have hxa:Ext w wa:=by rw[hwa];exact(Ext.refl _).alloc _
 have HB6:=hI (show wa.heap[b6]?=some (.cells #[.bool pb0,.int .i64 pk0,.slice pa0 pn0 pc0] 40 (0,0)) by rw[hwa,hb6];exact alloc_new w _)
 have HXA:=hI hxa
 have HMA:=hI (made11_calls da dn dc wa (ints_extS h1 hxa) hd1)
 clear ho hp h1 h2 h3 hxa
 unfold PrV.val
 go_enter Tryz.func5,Tryz.ntmps5
 go_upto_region 1 with fail
 rw[<-hwa,<-hb6]
 clear hwa hb6
 go_wp2_with fail
 refine HMA.out.mono ?_
 rintro e w1 ⟨s,l,x,f,v,bd,rfl,hiw,hdk,hx1⟩
 have HIW:=hI hiw
 have HDK:=hI hdk
 have HX1:=hI hx1
 have hbl:=hdk.lt
 have hlow:=deck_lowW hdk
 clear hiw hdk hx1 HMA
 unfold WorldV.val
 go_upto_region 2 with fail
 obtain⟨b9,hb9⟩:∃ b9,b9=w1.heap.size:=⟨_,rfl⟩
 obtain⟨w2,hw2⟩:∃ w2,w2=w1.alloc (.cells #[.slice v.sa v.sn v.sc,.slice v.la v.ln v.lc,.int .i64 v.x.op,.string v.x.name,.slice v.x.aw v.x.nw v.x.cw,.int .i64 v.x.lo,.int .i64 v.x.hi,.slice v.x.aa v.x.na v.x.ca,.slice v.fa v.fn v.fc] 34):=⟨_,rfl⟩
 have hx2:Ext w1 w2:=by rw[hw2];exact(Ext.refl _).alloc _
 have HB2:=hI (show w2.heap[b9]?=some (.cells #[.slice v.sa v.sn v.sc,.slice v.la v.ln v.lc,.int .i64 v.x.op,.string v.x.name,.slice v.x.aw v.x.nw v.x.cw,.int .i64 v.x.lo,.int .i64 v.x.hi,.slice v.x.aa v.x.na v.x.ca,.slice v.fa v.fn v.fc] 34 (0,0)) by rw[hw2,hb9];exact alloc_new w1 _)
 have HLT:=hI (show b6 < wa.heap.size/\wa.heap.size<=bd/\bd < b9 from⟨blk_lt HB6.out,hlow,by omega⟩)
 rw[<-hw2,<-hb9]
 clear hw2 hb9 hbl hlow
 have HIW2:=hI (HIW.out.mono (mask_ext _ hx2))
 have HDK2:=hI (HDK.out.ext hx2)
 have HX2:=hI (HX1.out.trans hx2)
 clear hx2 HIW HDK HX1
 obtain⟨c0,c1,c2,c3,c4,c5,c6,c7,c8,cf⟩:=blk9 HB2.out
 have HDP:=hI (HIW2.out.dproof HDK2.out [bd] (by have:=HDK2.out.lt;simpa using this))
 unfold ExV.val exV at HDP
 go_wp2_with fail
 refine HDP.out.mono ?_
 rintro e w3 ⟨p,pv,rfl,hpp,hip,hd3,hc3⟩
 have HFW:=hI hpp.2
 have HIP3:=hI hip
 have HIW3:=hI (HIW2.out.mono (mask_step hc3 (by simp)))
 have HDK3:=hI hd3
 have HB3:=hI (hc3.blk HB2.out (by have:=HLT.out;simp;omega))
 have HX3:=hI (hc3.ext HX2.out (by have:=HLT.out;simp;omega))
 have hz3:=blk_lt HB3.out
 clear hpp hip hd3 hc3 c0 c1 c2 c3 c4 c5 c6 c7 c8 cf HDP HIW2 HDK2 HB2 HX2
 obtain⟨pb,pk,pa,pn,pc⟩:=pv
 unfold PrV.val
 go_upto_region 3 with fail
 obtain⟨b11,hb11⟩:∃ b11:Nat,b11=w3.heap.size:=⟨_,rfl⟩
 obtain⟨w4,hw4⟩:∃ w4,w4=w3.alloc (.cells #[.bool pb,.int .i64 pk,.slice pa pn pc] 40):=⟨_,rfl⟩
 have hx4:Ext w3 w4:=by rw[hw4];exact(Ext.refl _).alloc _
 have HBP:=hI (show w4.heap[b11]?=some (.cells #[.bool pb,.int .i64 pk,.slice pa pn pc] 40 (0,0)) by rw[hw4,hb11];exact alloc_new w3 _)
 have HL1:=hI (show b9 < b11/\w3.heap.size<=b11 from⟨by omega,by omega⟩)
 rw[<-hw4,<-hb11]
 clear hw4 hb11 hz3
 have HNB:=hI (new_callsB oa on oc wa w4 (ints_extS HI2.out HXA.out) (HX3.out.trans hx4) hd2)
 go_wp2_with fail
 refine HNB.out.mono ?_
 rintro e w5 ⟨bq,rfl,hdq,hx5,hbq⟩
 have hx45:=hx4.trans hx5
 have HL2:=hI (show b11 < bq by have:=blk_lt HBP.out;omega)
 have HDQ:=hI hdq
 have HB5:=hI (hx45.blk HB3.out)
 have HBP5:=hI (hx5.blk HBP.out)
 have HDK5:=hI (HDK3.out.ext hx45)
 have HIW5:=hI (show IsWorld (mask w5 [b11,bq,bd]) s l x f v from HIW3.out.mono (sub_newM (N:=[b11,bq]) (hx45.chg [bd]) (by simp) (by have:=HL1.out;have:=HL2.out;simp;omega)))
 have HB65:=hI ((HX3.out.trans hx45).blk HB6.out)
 have HX5:=hI (HX3.out.trans hx45)
 have HIP5:=hI (show IsPr (mask w5 [b11,bq,bd]) p ⟨pb,pk,pa,pn,pc⟩ from HIP3.out.mono (sub_newM (N:=[b11,bq]) (hx45.chg [bd]) (by simp) (by have:=HL1.out;have:=HL2.out;simp;omega)))
 clear hdq hx5 hbq hx4 hx45 HNB HBP HB3 HIW3 HDK3 HX3 HIP3
 obtain⟨p0,p1,p2,pf'⟩:=blk3 HBP5.out
 have HSP:=hI (spoil_calls (N:=1000000) (by omega) HFW.out ⟨pb,pk,pa,pn,pc⟩ wa w5 bq [b11,bq,bd] HDQ.out HIP5.out (by simp) (by have:=blk_lt HBP5.out;have:=HDQ.out.lt;have:=HL1.out;have:=HLT.out;simp;omega))
 unfold PrV.val at HSP
 go_wp2_with fail
 refine HSP.out.mono ?_
 rintro e w6 ⟨x1,xv,rfl,hfw',hiq',hdq',hcq'⟩
 have HFX:=hI hfw'
 have HDX:=hI hdq'
 have HIX:=hI hiq'
 have HB6':=hI (hcq'.blk HB65.out (by have:=HL1.out;have:=HL2.out;have:=HLT.out;simp;omega))
 have HB9':=hI (hcq'.blk HB5.out (by have:=HL1.out;have:=HL2.out;have:=HLT.out;simp;omega))
 have HBP6:=hI (hcq'.blk HBP5.out (by have:=HL2.out;simp;omega))
 have HIW6:=hI (HIW5.out.mono (mask_step hcq' (by simp)))
 have HIP6:=hI (HIP5.out.mono (mask_step hcq' (by simp)))
 clear hfw' hiq' hdq' hcq' p0 p1 p2 pf' HSP HDQ HB65 HB5 HBP5 HIW5 HIP5 HFW HDK5 HX5
 obtain⟨xb,xk,xa,xn,xc⟩:=xv
 unfold PrV.val
 go_upto_region 5 with fail
 obtain⟨b13,hb13⟩:∃ b13:Nat,b13=w6.heap.size:=⟨_,rfl⟩
 obtain⟨w7,hw7⟩:∃ w7,w7=w6.alloc (.cells #[.bool xb,.int .i64 xk,.slice xa xn xc] 40):=⟨_,rfl⟩
 have hx7:Ext w6 w7:=by rw[hw7];exact(Ext.refl _).alloc _
 have HBX:=hI (show w7.heap[b13]?=some (.cells #[.bool xb,.int .i64 xk,.slice xa xn xc] 40 (0,0)) by rw[hw7,hb13];exact alloc_new w6 _)
 have HL3:=hI (show bq < b13 by have:=HDX.out.lt;omega)
 rw[<-hw7,<-hb13]
 clear hw7 hb13
 have HDX7:=hI (HDX.out.ext hx7)
 have HIX7:=hI (HIX.out.mono (mask_ext _ hx7))
 have HSP:=hI (spoil_calls (N:=1000000+1) (by omega) HFX.out ⟨xb,xk,xa,xn,xc⟩ wa w7 bq [b11,bq,bd] HDX7.out HIX7.out (by simp) (by have:=blk_lt HBX.out;have:=HL1.out;have:=HL2.out;have:=HL3.out;have:=HLT.out;simp;omega))
 unfold PrV.val at HSP
 obtain⟨p0,p1,p2,pf'⟩:=blk3 HBX.out
 go_wp2_with fail
 refine HSP.out.mono ?_
 rintro e w8 ⟨y1,yv,rfl,-,hiq',hdq',hcq'⟩
 have hc68:Chg [bq] w6 w8:=(hx7.chg [bq]).then hcq'
 have HIY:=hI hiq'
 have HIX8:=hI (HIX7.out.mono (mask_step hcq' (by simp)))
 have HBX8:=hI (hcq'.blk HBX.out (by have:=HL3.out;simp;omega))
 have HB68:=hI (hc68.blk HB6'.out (by have:=HL1.out;have:=HL2.out;have:=HLT.out;simp;omega))
 have HB98:=hI (hc68.blk HB9'.out (by have:=HL1.out;have:=HL2.out;have:=HLT.out;simp;omega))
 have HBP8:=hI (hc68.blk HBP6.out (by have:=HL2.out;simp;omega))
 have HIW8:=hI (HIW6.out.mono (mask_step hc68 (by simp)))
 have HIP8:=hI (HIP6.out.mono (mask_step hc68 (by simp)))
 have HX8:=hI (show Ext w w8 by obtain⟨_,_,_,_,_,_,_,_,hxw,_⟩:=hdq';exact HXA.out.trans hxw)
 clear hiq' hdq' hcq' hc68 hx7 p0 p1 p2 pf' HSP HDX HIX HB6' HB9' HBP6 HIW6 HIP6 HFX HBX HDX7 HIX7
 obtain⟨yb,yk,ya,yn,yc⟩:=yv
 unfold PrV.val
 go_upto_region 6 with fail
 obtain⟨b14,hb14⟩:∃ b14:Nat,b14=w8.heap.size:=⟨_,rfl⟩
 obtain⟨w9,hw9⟩:∃ w9,w9=w8.alloc (.cells #[.bool yb,.int .i64 yk,.slice ya yn yc] 40):=⟨_,rfl⟩
 have hx9:Ext w8 w9:=by rw[hw9];exact(Ext.refl _).alloc _
 have HBY9:=hI (show w9.heap[b14]?=some (.cells #[.bool yb,.int .i64 yk,.slice ya yn yc] 40 (0,0)) by rw[hw9,hb14];exact alloc_new w8 _)
 rw[<-hw9,<-hb14]
 clear hw9 hb14
 have HX9:=hI (HX8.out.trans hx9)
 have HBX9:=hI (hx9.blk HBX8.out)
 have HB69:=hI (hx9.blk HB68.out)
 have HB99:=hI (hx9.blk HB98.out)
 have HBP9:=hI (hx9.blk HBP8.out)
 have HIW9:=hI (show IsWorld w9 s l x f v from(HIW8.out.mono (mask_sub _ _)).mono hx9.sub)
 have HIP9:=hI (show IsPr w9 p ⟨pb,pk,pa,pn,pc⟩ from(HIP8.out.mono (mask_sub _ _)).mono hx9.sub)
 have HIX9:=hI (show IsPr w9 x1 ⟨xb,xk,xa,xn,xc⟩ from(HIX8.out.mono (mask_sub _ _)).mono hx9.sub)
 have HIY9:=hI (show IsPr w9 y1 ⟨yb,yk,ya,yn,yc⟩ from(HIY.out.mono (mask_sub _ _)).mono hx9.sub)
 have HI9:=hI (ints_extS HI3.out HX9.out)
 clear hx9 HBX8 HB68 HB98 HBP8 HIW8 HIP8 HIX8 HIY HX8
 have HSZ:=hI (schema_zero HIW9.out.mem)
 have HSF:=hI (attrs_fits HIW9.out.mem)
 obtain⟨c0,c1,c2,c3,c4,c5,c6,c7,c8,cf⟩:=blk9 HB99.out
 refine wp_region_growLG (n:=135) (m:=6) [5] (GrGW w9) (GrEX 4) (GrP (pver6R w9 s v ga gn gc b9)) (by kernel_rfl) (by kernel_rfl) (Nat.le_of_ble_eq_true rfl) ?gd ((Ext.refl w9).drew) ?_ ?_ ?_
 case gd =>
  intro i o j b hi ho hg
  rcases ltc6 hi with rfl|rfl|rfl|rfl|rfl|rfl<;>(cases ho;first|(cases hg;done)|(cases hg;intro v W h;exact h))
 ·intro i k v W W' hi hk hne hout h hE
  have hi':=ltc6 hi
  clear hi hk
  by_cases hk:k=4
  ·subst hk
   rcases hi' with rfl|rfl|rfl|rfl|rfl|rfl
   ·exact h
   ·exact absurd hout (by decide +kernel)
   ·exact h
   ·exact h
   ·exact absurd rfl hne
   exact absurd hout (by decide +kernel)
  have hE:Ext W W':=(hE ‹_›)
  rcases hi' with rfl|rfl|rfl|rfl|rfl|rfl
  ·exact h
  ·obtain⟨bq2,e0,h⟩:=h
   exact⟨bq2,e0,h.ext hE⟩
  ·exact h
  ·exact h
  ·obtain⟨g,ga2,gc2,e0,h⟩:=h
   exact⟨g,ga2,gc2,e0,⟨h.1,h.2.1,h.2.2.ext hE⟩⟩
  obtain⟨g,ga2,gc2,e0,h⟩:=h
  exact⟨g,ga2,gc2,e0,⟨h.1,h.2.1,h.2.2.ext hE⟩⟩
 ·intro q op hq ho L vs W hqL hcL hW hd ρ hρ
  have hq':=ltc6 hq
  clear hq
  have o3:ρ (.tmp 3)=.slice ga gn gc:=hρ.out 3 rfl
  have i0:=hρ.i 0 39
  have o9:ρ (.tmp 9)=.pointer (some ⟨b9,0,none⟩):=hρ.out 9 rfl
  have i2:=hρ.i 2 41
  have i1:=hρ.i 1 40
  have i3:=hρ.i 3 42
  have i4:=hρ.i 4 43
  have hc:=hρ.const
  have hfn:=hρ.func
  clear hρ
  have HG:=hI hW
  have HW:=hI (show Ext w9 W from hW)
  have HQL:=hI hqL
  clear hW hqL hcL
  rcases hq' with rfl|rfl|rfl|rfl|rfl|rfl
  ·cases ho
   clear hd
   unfold GivesOp
   go_simp
   exact⟨fun _=>Ext.refl _,HW.out,rfl⟩
  ·cases ho
   have h0:vs 0=_:=hd ⟨0,.data⟩ (by simp) rfl
   rw[h0] at i0
   clear hd
   unfold GivesOp
   go_simp
   refine(new_callsB ga gn gc w9 W HI9.out HW.out hd3).mono ?_
   rintro r5 w5 ⟨b6,rfl,hd5,hx5,hb6⟩
   exact⟨_,rfl,fun _=>hx5,HW.out.trans hx5,b6,rfl,hd5⟩
  ·cases ho
   clear hd
   unfold GivesOp
   go_simp
   exact⟨fun _=>Ext.refl _,HW.out,rfl⟩
  ·cases ho
   have h2:vs 2=_:=hd ⟨2,.data⟩ (by simp) rfl
   rw[h2] at i2
   clear hd
   have g0:=HW.out.cell c0
   unfold GivesOp
   go_simp
   exact⟨fun _=>Ext.refl _,HW.out,rfl⟩
  ·cases ho
   obtain⟨bq2,h1,hs1⟩:∃ (bq2:Nat),vs 1=.pointer (some ⟨bq2,0,none⟩)/\DeckAt w9 W bq2:=hd ⟨1,.data⟩ (by simp) rfl
   have HS1:=hI hs1
   clear hs1
   rw[h1] at i1
   have h3:vs 3=_:=hd ⟨3,.data⟩ (by simp) rfl
   rw[h3] at i3
   clear hd
   unfold GivesOp
   go_simp
   refine(dfacts_calls HSZ.out HSF.out HS1.out _ _ _ [] (HIW9.out.sch.mono (sub_freshW HW.out (deck_lowW HS1.out))) (by simp)).mono ?_
   rintro r5 w5 ⟨g,ga2,gc2,rfl,hg1,hg3,hg2,hd5,hc5⟩
   exact⟨_,rfl,fun h=>absurd rfl h,hc5.ext HW.out (fun y hy=>by simp only[List.mem_singleton] at hy;rw[hy];exact deck_lowW HS1.out),g,ga2,gc2,rfl,hg1,hg3,hg2.mono (mask_sub _ _)⟩
  cases ho
  obtain⟨g,ga2,gc2,h4,hs4⟩:∃ (g:ZI) (ga2:OA) (gc2:Nat),vs 4=.slice ga2 g.length gc2/\(factsAll s g=true/\g.length<=1000/\IsIntF W g ga2 g.length):=hd ⟨4,.data⟩ (by simp) rfl
  have HS4:=hI hs4
  clear hs4
  rw[h4] at i4
  clear hd
  unfold GivesOp
  go_simp
  exact⟨fun _=>Ext.refl _,HW.out,_,_,_,rfl,HS4.out⟩
 intro L vs W hLm hW hR
 rw[if_pos (by decide +kernel)]
 obtain⟨g,ga2,gc2,h5,hs5⟩:∃ (g:ZI) (ga2:OA) (gc2:Nat),vs 5=.slice ga2 g.length gc2/\(factsAll s g=true/\g.length<=1000/\IsIntF W g ga2 g.length):=hR 5 (by simp) (by omega)
 have HS5:=hI hs5
 clear hs5
 simp only[acts,dstAt,List.range,List.range.loop,List.foldl_cons,List.foldl_nil,h5]
 go_simp
 have hW2:Ext w9 W:=hW
 clear hR hW hLm h5
 have HX10:=hI (HX9.out.trans hW2)
 have HBX10:=hI (hW2.blk HBX9.out)
 have HBY10:=hI (hW2.blk HBY9.out)
 have HB610:=hI (hW2.blk HB69.out)
 have HB910:=hI (hW2.blk HB99.out)
 have HBP10:=hI (hW2.blk HBP9.out)
 have HIW10:=hI (HIW9.out.mono hW2.sub)
 have HIG:=hI HS5.out
 have H910:=hI hW2
 obtain⟨w10,hw10⟩:∃ w10,w10=W:=⟨_,rfl⟩
 rw[<-hw10] at HX10 HBX10 HBY10 HB610 HB910 HBP10 HIW10 HIG H910 ⊢
 obtain⟨B1,hB1⟩:∃ B1,B1=prv s l f x a0:=⟨_,rfl⟩
 obtain⟨B2,hB2⟩:∃ B2,B2=prv s l f x x1:=⟨_,rfl⟩
 obtain⟨B3,hB3⟩:∃ B3,B3=prv s l f x y1:=⟨_,rfl⟩
 obtain⟨B4,hB4⟩:∃ B4,B4=prv s l g x p:=⟨_,rfl⟩
 have HV1:=hI (fun W (hW:Ext w10 W)=>(HIW10.out.mono hW.sub).verify ((HO.out.ext HX10.out).ext hW) ((HP0.out.ext HX10.out).ext hW))
 have HR1:=hI (fun W (hW:Ext w10 W)=>(HIW10.out.mono hW.sub).proves ((HP0.out.ext HX10.out).ext hW))
 have HV2:=hI (fun W (hW:Ext w10 W)=>(HIW10.out.mono hW.sub).verify ((HO.out.ext HX10.out).ext hW) ((HIX9.out.ext H910.out).ext hW))
 have HR2:=hI (fun W (hW:Ext w10 W)=>(HIW10.out.mono hW.sub).proves ((HIX9.out.ext H910.out).ext hW))
 have HV3:=hI (fun W (hW:Ext w10 W)=>(HIW10.out.mono hW.sub).verify ((HO.out.ext HX10.out).ext hW) ((HIY9.out.ext H910.out).ext hW))
 have HR3:=hI (fun W (hW:Ext w10 W)=>(HIW10.out.mono hW.sub).proves ((HIY9.out.ext H910.out).ext hW))
 have HV4:=hI (fun W (hW:Ext w10 W)=>(HIW10.out.mono hW.sub).verifyG ((HO.out.ext HX10.out).ext hW) HIG.out.1 HIG.out.2.1 (HIG.out.2.2.ext hW) gc2 ((HIP9.out.ext H910.out).ext hW))
 have HR4:=hI (fun W (hW:Ext w10 W)=>(HIW10.out.mono hW.sub).provesG HIG.out.1 (HIG.out.2.2.ext hW) gc2 ((HIP9.out.ext H910.out).ext hW))
 have HAW:=hI (fun W (hW:Ext w10 W)=>awake11_calls W ((HO.out.ext HX10.out).ext hW))
 rw[<-hB1] at HV1 HR1
 rw[<-hB2] at HV2 HR2
 rw[<-hB3] at HV3 HR3
 rw[<-hB4] at HV4 HR4
 unfold PrV.val ExV.val exV at *
 clear hw10 hW2 hB1 hB2 hB3 hB4 c0 c1 c2 c3 c4 c5 c6 c7 c8 cf HIW9 HIP9 HIX9 HIY9 HB69 HB99 HBP9 HBX9 HBY9 HX9 HI9
 obtain⟨c0,c1,c2,c3,c4,c5,c6,c7,c8,cf⟩:=blk9 HB910.out
 obtain⟨q0,q1,q2,qf⟩:=blk3 HB610.out
 obtain⟨p0,p1,p2,pf'⟩:=blk3 HBP10.out
 obtain⟨x0,xx1,x2,xf⟩:=blk3 HBX10.out
 obtain⟨y0,yy1,y2,yf⟩:=blk3 HBY10.out
 go_wp2_with fail
 refine wp_region_growLG (n:=135) (m:=92) [91] (GrGW w10) GrE (GrP (pver7R v b6 b9 b11 b13 b14 pb0 pk0 pa0 pn0 pc0 pb pk pa pn pc xb xk xa xn xc yb yk ya yn yc ga2 g.length gc2 B1 B2 B3 B4)) (by kernel_rfl) (by kernel_rfl) (Nat.le_of_ble_eq_true rfl) ?gd ((Ext.refl w10).drew) ?_ ?_ ?_
 case gd =>
  intro i o j b hi ho hg
  have hi':=(by decide +kernel:∀ i,i < 92->(i=0\/i=1\/i=2\/i=3\/i=4\/i=5\/i=6\/i=7\/i=8\/i=9\/i=10\/i=11\/i=12\/i=13\/i=14\/i=15\/i=16\/i=17\/i=18\/i=19\/i=20\/i=21\/i=22\/i=23\/i=24\/i=25\/i=26\/i=27\/i=28\/i=29\/i=30\/i=31\/i=32\/i=33\/i=34\/i=35\/i=36\/i=37\/i=38\/i=39\/i=40\/i=41\/i=42\/i=43\/i=44\/i=45\/i=46\/i=47\/i=48\/i=49\/i=50\/i=51\/i=52\/i=53\/i=54\/i=55\/i=56\/i=57\/i=58\/i=59\/i=60\/i=61\/i=62\/i=63\/i=64\/i=65\/i=66\/i=67\/i=68\/i=69\/i=70\/i=71\/i=72\/i=73\/i=74\/i=75\/i=76\/i=77\/i=78\/i=79\/i=80\/i=81\/i=82\/i=83\/i=84\/i=85\/i=86\/i=87\/i=88\/i=89\/i=90\/i=91)) i hi
  rcases hi' with rfl|rfl|rfl|rfl|rfl|rfl|rfl|rfl|rfl|rfl|rfl|rfl|rfl|rfl|rfl|rfl|rfl|rfl|rfl|rfl|rfl|rfl|rfl|rfl|rfl|rfl|rfl|rfl|rfl|rfl|rfl|rfl|rfl|rfl|rfl|rfl|rfl|rfl|rfl|rfl|rfl|rfl|rfl|rfl|rfl|rfl|rfl|rfl|rfl|rfl|rfl|rfl|rfl|rfl|rfl|rfl|rfl|rfl|rfl|rfl|rfl|rfl|rfl|rfl|rfl|rfl|rfl|rfl|rfl|rfl|rfl|rfl|rfl|rfl|rfl|rfl|rfl|rfl|rfl|rfl|rfl|rfl|rfl|rfl|rfl|rfl|rfl|rfl|rfl|rfl|rfl|rfl<;>(cases ho;first|(cases hg;done)|(cases hg;intro v W h;exact h))
 ·intro i k v W W' hi hk hne hout h hE
  have hE:Ext W W':=hE
  have hi':=(by decide +kernel:∀ i,i < 92->(i=0\/i=1\/i=2\/i=3\/i=4\/i=5\/i=6\/i=7\/i=8\/i=9\/i=10\/i=11\/i=12\/i=13\/i=14\/i=15\/i=16\/i=17\/i=18\/i=19\/i=20\/i=21\/i=22\/i=23\/i=24\/i=25\/i=26\/i=27\/i=28\/i=29\/i=30\/i=31\/i=32\/i=33\/i=34\/i=35\/i=36\/i=37\/i=38\/i=39\/i=40\/i=41\/i=42\/i=43\/i=44\/i=45\/i=46\/i=47\/i=48\/i=49\/i=50\/i=51\/i=52\/i=53\/i=54\/i=55\/i=56\/i=57\/i=58\/i=59\/i=60\/i=61\/i=62\/i=63\/i=64\/i=65\/i=66\/i=67\/i=68\/i=69\/i=70\/i=71\/i=72\/i=73\/i=74\/i=75\/i=76\/i=77\/i=78\/i=79\/i=80\/i=81\/i=82\/i=83\/i=84\/i=85\/i=86\/i=87\/i=88\/i=89\/i=90\/i=91)) i hi
  clear hi hk hne hout
  rcases hi' with rfl|rfl|rfl|rfl|rfl|rfl|rfl|rfl|rfl|rfl|rfl|rfl|rfl|rfl|rfl|rfl|rfl|rfl|rfl|rfl|rfl|rfl|rfl|rfl|rfl|rfl|rfl|rfl|rfl|rfl|rfl|rfl|rfl|rfl|rfl|rfl|rfl|rfl|rfl|rfl|rfl|rfl|rfl|rfl|rfl|rfl|rfl|rfl|rfl|rfl|rfl|rfl|rfl|rfl|rfl|rfl|rfl|rfl|rfl|rfl|rfl|rfl|rfl|rfl|rfl|rfl|rfl|rfl|rfl|rfl|rfl|rfl|rfl|rfl|rfl|rfl|rfl|rfl|rfl|rfl|rfl|rfl|rfl|rfl|rfl|rfl|rfl|rfl|rfl|rfl|rfl|rfl
  ·exact h
  ·exact h
  ·exact h
  ·exact h
  ·exact h
  ·exact h
  ·exact h
  ·exact h
  ·exact h
  ·exact h
  ·exact h
  ·exact h
  ·exact h
  ·exact h
  ·exact h
  ·exact h
  ·exact h
  ·exact h
  ·exact h
  ·exact h
  ·exact h
  ·exact h
  ·exact h
  ·exact h
  ·exact h
  ·exact h
  ·exact h
  ·exact h
  ·exact h
  ·exact h
  ·exact h
  ·exact h
  ·exact h
  ·exact h
  ·exact h
  ·exact h
  ·exact h
  ·exact h
  ·exact h
  ·exact h
  ·exact h
  ·exact h
  ·exact h
  ·exact h
  ·exact h
  ·exact h
  ·exact h
  ·exact h
  ·exact h
  ·exact h
  ·exact h
  ·exact h
  ·exact h
  ·exact h
  ·exact h
  ·exact h
  ·exact h
  ·exact h
  ·exact h
  ·exact h
  ·exact h
  ·exact h
  ·exact h
  ·exact h
  ·exact h
  ·exact h
  ·exact h
  ·exact h
  ·exact h
  ·exact h
  ·exact h
  ·exact h
  ·exact h
  ·exact h
  ·exact h
  ·exact h
  ·exact h
  ·exact h
  ·exact h
  ·exact h
  ·exact h
  ·exact h
  ·exact h
  ·exact h
  ·exact h
  ·exact h
  ·exact h
  ·exact h
  ·exact h
  ·exact h
  ·exact h
  exact h
 ·intro q op hq ho L vs W hqL hcL hW hd ρ hρ
  have hq':=(by decide +kernel:∀ q,q < 92->(q=0\/q=1\/q=2\/q=3\/q=4\/q=5\/q=6\/q=7\/q=8\/q=9\/q=10\/q=11\/q=12\/q=13\/q=14\/q=15\/q=16\/q=17\/q=18\/q=19\/q=20\/q=21\/q=22\/q=23\/q=24\/q=25\/q=26\/q=27\/q=28\/q=29\/q=30\/q=31\/q=32\/q=33\/q=34\/q=35\/q=36\/q=37\/q=38\/q=39\/q=40\/q=41\/q=42\/q=43\/q=44\/q=45\/q=46\/q=47\/q=48\/q=49\/q=50\/q=51\/q=52\/q=53\/q=54\/q=55\/q=56\/q=57\/q=58\/q=59\/q=60\/q=61\/q=62\/q=63\/q=64\/q=65\/q=66\/q=67\/q=68\/q=69\/q=70\/q=71\/q=72\/q=73\/q=74\/q=75\/q=76\/q=77\/q=78\/q=79\/q=80\/q=81\/q=82\/q=83\/q=84\/q=85\/q=86\/q=87\/q=88\/q=89\/q=90\/q=91)) q hq
  clear hq
  have o9:ρ (.tmp 9)=.pointer (some ⟨b9,0,none⟩):=hρ.out 9 rfl
  have i0:=hρ.i 0 44
  have i2:=hρ.i 2 46
  have i4:=hρ.i 4 48
  have i6:=hρ.i 6 50
  have o6:ρ (.tmp 6)=.pointer (some ⟨b6,0,none⟩):=hρ.out 6 rfl
  have i1:=hρ.i 1 45
  have i3:=hρ.i 3 47
  have i5:=hρ.i 5 49
  have i7:=hρ.i 7 51
  have i8:=hρ.i 8 52
  have i10:=hρ.i 10 54
  have i12:=hρ.i 12 56
  have i14:=hρ.i 14 58
  have i16:=hρ.i 16 60
  have i11:=hρ.i 11 55
  have i13:=hρ.i 13 57
  have i15:=hρ.i 15 59
  have i17:=hρ.i 17 61
  have i18:=hρ.i 18 62
  have i9:=hρ.i 9 53
  have i19:=hρ.i 19 63
  have i20:=hρ.i 20 64
  have i22:=hρ.i 22 66
  have i24:=hρ.i 24 68
  have i26:=hρ.i 26 70
  have i28:=hρ.i 28 72
  have o13:ρ (.tmp 13)=.pointer (some ⟨b13,0,none⟩):=hρ.out 13 rfl
  have i23:=hρ.i 23 67
  have i25:=hρ.i 25 69
  have i27:=hρ.i 27 71
  have i29:=hρ.i 29 73
  have i30:=hρ.i 30 74
  have i32:=hρ.i 32 76
  have i34:=hρ.i 34 78
  have i36:=hρ.i 36 80
  have i38:=hρ.i 38 82
  have i33:=hρ.i 33 77
  have i35:=hρ.i 35 79
  have i37:=hρ.i 37 81
  have i39:=hρ.i 39 83
  have i40:=hρ.i 40 84
  have i31:=hρ.i 31 75
  have i41:=hρ.i 41 85
  have i21:=hρ.i 21 65
  have i42:=hρ.i 42 86
  have i43:=hρ.i 43 87
  have i45:=hρ.i 45 89
  have i47:=hρ.i 47 91
  have i49:=hρ.i 49 93
  have i51:=hρ.i 51 95
  have o14:ρ (.tmp 14)=.pointer (some ⟨b14,0,none⟩):=hρ.out 14 rfl
  have i46:=hρ.i 46 90
  have i48:=hρ.i 48 92
  have i50:=hρ.i 50 94
  have i52:=hρ.i 52 96
  have i53:=hρ.i 53 97
  have i55:=hρ.i 55 99
  have i57:=hρ.i 57 101
  have i59:=hρ.i 59 103
  have i61:=hρ.i 61 105
  have i56:=hρ.i 56 100
  have i58:=hρ.i 58 102
  have i60:=hρ.i 60 104
  have i62:=hρ.i 62 106
  have i63:=hρ.i 63 107
  have i54:=hρ.i 54 98
  have i64:=hρ.i 64 108
  have i44:=hρ.i 44 88
  have i65:=hρ.i 65 109
  have i66:=hρ.i 66 110
  have i68:=hρ.i 68 112
  have i70:=hρ.i 70 114
  have i72:=hρ.i 72 116
  have o15:ρ (.tmp 15)=.slice ga2 g.length gc2:=hρ.out 15 rfl
  have o11:ρ (.tmp 11)=.pointer (some ⟨b11,0,none⟩):=hρ.out 11 rfl
  have i69:=hρ.i 69 113
  have i71:=hρ.i 71 115
  have i73:=hρ.i 73 117
  have i74:=hρ.i 74 118
  have i75:=hρ.i 75 119
  have i77:=hρ.i 77 121
  have i79:=hρ.i 79 123
  have i81:=hρ.i 81 125
  have i78:=hρ.i 78 122
  have i80:=hρ.i 80 124
  have i82:=hρ.i 82 126
  have i83:=hρ.i 83 127
  have i84:=hρ.i 84 128
  have i76:=hρ.i 76 120
  have i85:=hρ.i 85 129
  have i67:=hρ.i 67 111
  have i86:=hρ.i 86 130
  have i87:=hρ.i 87 131
  have i88:=hρ.i 88 132
  have i89:=hρ.i 89 133
  have i90:=hρ.i 90 134
  have hc:=hρ.const
  have hfn:=hρ.func
  clear hρ
  have HG:=hI hW
  have HW:=hI (show Ext w10 W from hW)
  have HQL:=hI hqL
  clear hW hqL hcL
  rcases hq' with rfl|rfl|rfl|rfl|rfl|rfl|rfl|rfl|rfl|rfl|rfl|rfl|rfl|rfl|rfl|rfl|rfl|rfl|rfl|rfl|rfl|rfl|rfl|rfl|rfl|rfl|rfl|rfl|rfl|rfl|rfl|rfl|rfl|rfl|rfl|rfl|rfl|rfl|rfl|rfl|rfl|rfl|rfl|rfl|rfl|rfl|rfl|rfl|rfl|rfl|rfl|rfl|rfl|rfl|rfl|rfl|rfl|rfl|rfl|rfl|rfl|rfl|rfl|rfl|rfl|rfl|rfl|rfl|rfl|rfl|rfl|rfl|rfl|rfl|rfl|rfl|rfl|rfl|rfl|rfl|rfl|rfl|rfl|rfl|rfl|rfl|rfl|rfl|rfl|rfl|rfl|rfl
  ·cases ho
   clear hd
   unfold GivesOp
   go_simp
   exact⟨Ext.refl _,HW.out,rfl⟩
  ·cases ho
   have h0:vs 0=_:=hd ⟨0,.data⟩ (by simp) rfl
   rw[h0] at i0
   clear hd
   have g0:=HW.out.cell c0
   unfold GivesOp
   go_simp
   exact⟨Ext.refl _,HW.out,rfl⟩
  ·cases ho
   clear hd
   unfold GivesOp
   go_simp
   exact⟨Ext.refl _,HW.out,rfl⟩
  ·cases ho
   have h2:vs 2=_:=hd ⟨2,.data⟩ (by simp) rfl
   rw[h2] at i2
   clear hd
   have g1:=HW.out.cell c1
   unfold GivesOp
   go_simp
   exact⟨Ext.refl _,HW.out,rfl⟩
  ·cases ho
   clear hd
   unfold GivesOp
   go_simp
   exact⟨Ext.refl _,HW.out,rfl⟩
  ·cases ho
   have h4:vs 4=_:=hd ⟨4,.data⟩ (by simp) rfl
   rw[h4] at i4
   clear hd
   have g2:=HW.out.cell c2
   have g3:=HW.out.cell c3
   have g4:=HW.out.cell c4
   have g5:=HW.out.cell c5
   have g6:=HW.out.cell c6
   have g7:=HW.out.cell c7
   unfold GivesOp
   go_simp
   exact⟨Ext.refl _,HW.out,rfl⟩
  ·cases ho
   clear hd
   unfold GivesOp
   go_simp
   exact⟨Ext.refl _,HW.out,rfl⟩
  ·cases ho
   have h6:vs 6=_:=hd ⟨6,.data⟩ (by simp) rfl
   rw[h6] at i6
   clear hd
   have g8:=HW.out.cell c8
   unfold GivesOp
   go_simp
   exact⟨Ext.refl _,HW.out,rfl⟩
  ·cases ho
   clear hd
   have g0:=HW.out.cell q0
   have g1:=HW.out.cell q1
   have g2:=HW.out.cell q2
   unfold GivesOp
   go_simp
   exact⟨Ext.refl _,HW.out,rfl⟩
  ·cases ho
   have h1:vs 1=_:=hd ⟨1,.data⟩ (by simp) rfl
   rw[h1] at i1
   have h3:vs 3=_:=hd ⟨3,.data⟩ (by simp) rfl
   rw[h3] at i3
   have h5:vs 5=_:=hd ⟨5,.data⟩ (by simp) rfl
   rw[h5] at i5
   have h7:vs 7=_:=hd ⟨7,.data⟩ (by simp) rfl
   rw[h7] at i7
   have h8:vs 8=_:=hd ⟨8,.data⟩ (by simp) rfl
   rw[h8] at i8
   clear hd
   unfold GivesOp
   go_simp
   refine(HV1.out W HW.out).mono ?_
   rintro e5 w5 ⟨rfl,hx5⟩
   exact⟨_,rfl,hx5,HW.out.trans hx5,rfl⟩
  ·cases ho
   clear hd
   unfold GivesOp
   go_simp
   exact⟨Ext.refl _,HW.out,rfl⟩
  ·cases ho
   have h10:vs 10=_:=hd ⟨10,.data⟩ (by simp) rfl
   rw[h10] at i10
   clear hd
   have g0:=HW.out.cell c0
   unfold GivesOp
   go_simp
   exact⟨Ext.refl _,HW.out,rfl⟩
  ·cases ho
   clear hd
   unfold GivesOp
   go_simp
   exact⟨Ext.refl _,HW.out,rfl⟩
  ·cases ho
   have h12:vs 12=_:=hd ⟨12,.data⟩ (by simp) rfl
   rw[h12] at i12
   clear hd
   have g1:=HW.out.cell c1
   unfold GivesOp
   go_simp
   exact⟨Ext.refl _,HW.out,rfl⟩
  ·cases ho
   clear hd
   unfold GivesOp
   go_simp
   exact⟨Ext.refl _,HW.out,rfl⟩
  ·cases ho
   have h14:vs 14=_:=hd ⟨14,.data⟩ (by simp) rfl
   rw[h14] at i14
   clear hd
   have g2:=HW.out.cell c2
   have g3:=HW.out.cell c3
   have g4:=HW.out.cell c4
   have g5:=HW.out.cell c5
   have g6:=HW.out.cell c6
   have g7:=HW.out.cell c7
   unfold GivesOp
   go_simp
   exact⟨Ext.refl _,HW.out,rfl⟩
  ·cases ho
   clear hd
   unfold GivesOp
   go_simp
   exact⟨Ext.refl _,HW.out,rfl⟩
  ·cases ho
   have h16:vs 16=_:=hd ⟨16,.data⟩ (by simp) rfl
   rw[h16] at i16
   clear hd
   have g8:=HW.out.cell c8
   unfold GivesOp
   go_simp
   exact⟨Ext.refl _,HW.out,rfl⟩
  ·cases ho
   clear hd
   have g0:=HW.out.cell q0
   have g1:=HW.out.cell q1
   have g2:=HW.out.cell q2
   unfold GivesOp
   go_simp
   exact⟨Ext.refl _,HW.out,rfl⟩
  ·cases ho
   have h11:vs 11=_:=hd ⟨11,.data⟩ (by simp) rfl
   rw[h11] at i11
   have h13:vs 13=_:=hd ⟨13,.data⟩ (by simp) rfl
   rw[h13] at i13
   have h15:vs 15=_:=hd ⟨15,.data⟩ (by simp) rfl
   rw[h15] at i15
   have h17:vs 17=_:=hd ⟨17,.data⟩ (by simp) rfl
   rw[h17] at i17
   have h18:vs 18=_:=hd ⟨18,.data⟩ (by simp) rfl
   rw[h18] at i18
   clear hd
   unfold GivesOp
   go_simp
   refine(HR1.out W HW.out).mono ?_
   rintro e5 w5 ⟨rfl,hx5⟩
   exact⟨_,rfl,hx5,HW.out.trans hx5,rfl⟩
  ·cases ho
   have h9:vs 9=_:=hd ⟨9,.data⟩ (by simp) rfl
   rw[h9] at i9
   have h19:vs 19=_:=hd ⟨19,.data⟩ (by simp) rfl
   rw[h19] at i19
   clear hd
   unfold GivesOp
   go_simp
   exact⟨Ext.refl _,HW.out,rfl⟩
  ·cases ho
   have h20:vs 20=_:=hd ⟨20,.data⟩ (by simp) rfl
   rw[h20] at i20
   clear hd
   unfold GivesOp
   go_simp
   exact⟨Ext.refl _,HW.out,rfl⟩
  ·cases ho
   clear hd
   unfold GivesOp
   go_simp
   exact⟨Ext.refl _,HW.out,rfl⟩
  ·cases ho
   have h22:vs 22=_:=hd ⟨22,.data⟩ (by simp) rfl
   rw[h22] at i22
   clear hd
   have g0:=HW.out.cell c0
   unfold GivesOp
   go_simp
   exact⟨Ext.refl _,HW.out,rfl⟩
  ·cases ho
   clear hd
   unfold GivesOp
   go_simp
   exact⟨Ext.refl _,HW.out,rfl⟩
  ·cases ho
   have h24:vs 24=_:=hd ⟨24,.data⟩ (by simp) rfl
   rw[h24] at i24
   clear hd
   have g1:=HW.out.cell c1
   unfold GivesOp
   go_simp
   exact⟨Ext.refl _,HW.out,rfl⟩
  ·cases ho
   clear hd
   unfold GivesOp
   go_simp
   exact⟨Ext.refl _,HW.out,rfl⟩
  ·cases ho
   have h26:vs 26=_:=hd ⟨26,.data⟩ (by simp) rfl
   rw[h26] at i26
   clear hd
   have g2:=HW.out.cell c2
   have g3:=HW.out.cell c3
   have g4:=HW.out.cell c4
   have g5:=HW.out.cell c5
   have g6:=HW.out.cell c6
   have g7:=HW.out.cell c7
   unfold GivesOp
   go_simp
   exact⟨Ext.refl _,HW.out,rfl⟩
  ·cases ho
   clear hd
   unfold GivesOp
   go_simp
   exact⟨Ext.refl _,HW.out,rfl⟩
  ·cases ho
   have h28:vs 28=_:=hd ⟨28,.data⟩ (by simp) rfl
   rw[h28] at i28
   clear hd
   have g8:=HW.out.cell c8
   unfold GivesOp
   go_simp
   exact⟨Ext.refl _,HW.out,rfl⟩
  ·cases ho
   clear hd
   have g0:=HW.out.cell x0
   have g1:=HW.out.cell xx1
   have g2:=HW.out.cell x2
   unfold GivesOp
   go_simp
   exact⟨Ext.refl _,HW.out,rfl⟩
  ·cases ho
   have h23:vs 23=_:=hd ⟨23,.data⟩ (by simp) rfl
   rw[h23] at i23
   have h25:vs 25=_:=hd ⟨25,.data⟩ (by simp) rfl
   rw[h25] at i25
   have h27:vs 27=_:=hd ⟨27,.data⟩ (by simp) rfl
   rw[h27] at i27
   have h29:vs 29=_:=hd ⟨29,.data⟩ (by simp) rfl
   rw[h29] at i29
   have h30:vs 30=_:=hd ⟨30,.data⟩ (by simp) rfl
   rw[h30] at i30
   clear hd
   unfold GivesOp
   go_simp
   refine(HV2.out W HW.out).mono ?_
   rintro e5 w5 ⟨rfl,hx5⟩
   exact⟨_,rfl,hx5,HW.out.trans hx5,rfl⟩
  ·cases ho
   clear hd
   unfold GivesOp
   go_simp
   exact⟨Ext.refl _,HW.out,rfl⟩
  ·cases ho
   have h32:vs 32=_:=hd ⟨32,.data⟩ (by simp) rfl
   rw[h32] at i32
   clear hd
   have g0:=HW.out.cell c0
   unfold GivesOp
   go_simp
   exact⟨Ext.refl _,HW.out,rfl⟩
  ·cases ho
   clear hd
   unfold GivesOp
   go_simp
   exact⟨Ext.refl _,HW.out,rfl⟩
  ·cases ho
   have h34:vs 34=_:=hd ⟨34,.data⟩ (by simp) rfl
   rw[h34] at i34
   clear hd
   have g1:=HW.out.cell c1
   unfold GivesOp
   go_simp
   exact⟨Ext.refl _,HW.out,rfl⟩
  ·cases ho
   clear hd
   unfold GivesOp
   go_simp
   exact⟨Ext.refl _,HW.out,rfl⟩
  ·cases ho
   have h36:vs 36=_:=hd ⟨36,.data⟩ (by simp) rfl
   rw[h36] at i36
   clear hd
   have g2:=HW.out.cell c2
   have g3:=HW.out.cell c3
   have g4:=HW.out.cell c4
   have g5:=HW.out.cell c5
   have g6:=HW.out.cell c6
   have g7:=HW.out.cell c7
   unfold GivesOp
   go_simp
   exact⟨Ext.refl _,HW.out,rfl⟩
  ·cases ho
   clear hd
   unfold GivesOp
   go_simp
   exact⟨Ext.refl _,HW.out,rfl⟩
  ·cases ho
   have h38:vs 38=_:=hd ⟨38,.data⟩ (by simp) rfl
   rw[h38] at i38
   clear hd
   have g8:=HW.out.cell c8
   unfold GivesOp
   go_simp
   exact⟨Ext.refl _,HW.out,rfl⟩
  ·cases ho
   clear hd
   have g0:=HW.out.cell x0
   have g1:=HW.out.cell xx1
   have g2:=HW.out.cell x2
   unfold GivesOp
   go_simp
   exact⟨Ext.refl _,HW.out,rfl⟩
  ·cases ho
   have h33:vs 33=_:=hd ⟨33,.data⟩ (by simp) rfl
   rw[h33] at i33
   have h35:vs 35=_:=hd ⟨35,.data⟩ (by simp) rfl
   rw[h35] at i35
   have h37:vs 37=_:=hd ⟨37,.data⟩ (by simp) rfl
   rw[h37] at i37
   have h39:vs 39=_:=hd ⟨39,.data⟩ (by simp) rfl
   rw[h39] at i39
   have h40:vs 40=_:=hd ⟨40,.data⟩ (by simp) rfl
   rw[h40] at i40
   clear hd
   unfold GivesOp
   go_simp
   refine(HR2.out W HW.out).mono ?_
   rintro e5 w5 ⟨rfl,hx5⟩
   exact⟨_,rfl,hx5,HW.out.trans hx5,rfl⟩
  ·cases ho
   have h31:vs 31=_:=hd ⟨31,.data⟩ (by simp) rfl
   rw[h31] at i31
   have h41:vs 41=_:=hd ⟨41,.data⟩ (by simp) rfl
   rw[h41] at i41
   clear hd
   unfold GivesOp
   go_simp
   exact⟨Ext.refl _,HW.out,rfl⟩
  ·cases ho
   have h21:vs 21=_:=hd ⟨21,.data⟩ (by simp) rfl
   rw[h21] at i21
   have h42:vs 42=_:=hd ⟨42,.data⟩ (by simp) rfl
   rw[h42] at i42
   clear hd
   unfold GivesOp
   go_simp
   exact⟨Ext.refl _,HW.out,rfl⟩
  ·cases ho
   have h43:vs 43=_:=hd ⟨43,.data⟩ (by simp) rfl
   rw[h43] at i43
   clear hd
   unfold GivesOp
   go_simp
   exact⟨Ext.refl _,HW.out,rfl⟩
  ·cases ho
   clear hd
   unfold GivesOp
   go_simp
   exact⟨Ext.refl _,HW.out,rfl⟩
  ·cases ho
   have h45:vs 45=_:=hd ⟨45,.data⟩ (by simp) rfl
   rw[h45] at i45
   clear hd
   have g0:=HW.out.cell c0
   unfold GivesOp
   go_simp
   exact⟨Ext.refl _,HW.out,rfl⟩
  ·cases ho
   clear hd
   unfold GivesOp
   go_simp
   exact⟨Ext.refl _,HW.out,rfl⟩
  ·cases ho
   have h47:vs 47=_:=hd ⟨47,.data⟩ (by simp) rfl
   rw[h47] at i47
   clear hd
   have g1:=HW.out.cell c1
   unfold GivesOp
   go_simp
   exact⟨Ext.refl _,HW.out,rfl⟩
  ·cases ho
   clear hd
   unfold GivesOp
   go_simp
   exact⟨Ext.refl _,HW.out,rfl⟩
  ·cases ho
   have h49:vs 49=_:=hd ⟨49,.data⟩ (by simp) rfl
   rw[h49] at i49
   clear hd
   have g2:=HW.out.cell c2
   have g3:=HW.out.cell c3
   have g4:=HW.out.cell c4
   have g5:=HW.out.cell c5
   have g6:=HW.out.cell c6
   have g7:=HW.out.cell c7
   unfold GivesOp
   go_simp
   exact⟨Ext.refl _,HW.out,rfl⟩
  ·cases ho
   clear hd
   unfold GivesOp
   go_simp
   exact⟨Ext.refl _,HW.out,rfl⟩
  ·cases ho
   have h51:vs 51=_:=hd ⟨51,.data⟩ (by simp) rfl
   rw[h51] at i51
   clear hd
   have g8:=HW.out.cell c8
   unfold GivesOp
   go_simp
   exact⟨Ext.refl _,HW.out,rfl⟩
  ·cases ho
   clear hd
   have g0:=HW.out.cell y0
   have g1:=HW.out.cell yy1
   have g2:=HW.out.cell y2
   unfold GivesOp
   go_simp
   exact⟨Ext.refl _,HW.out,rfl⟩
  ·cases ho
   have h46:vs 46=_:=hd ⟨46,.data⟩ (by simp) rfl
   rw[h46] at i46
   have h48:vs 48=_:=hd ⟨48,.data⟩ (by simp) rfl
   rw[h48] at i48
   have h50:vs 50=_:=hd ⟨50,.data⟩ (by simp) rfl
   rw[h50] at i50
   have h52:vs 52=_:=hd ⟨52,.data⟩ (by simp) rfl
   rw[h52] at i52
   have h53:vs 53=_:=hd ⟨53,.data⟩ (by simp) rfl
   rw[h53] at i53
   clear hd
   unfold GivesOp
   go_simp
   refine(HV3.out W HW.out).mono ?_
   rintro e5 w5 ⟨rfl,hx5⟩
   exact⟨_,rfl,hx5,HW.out.trans hx5,rfl⟩
  ·cases ho
   clear hd
   unfold GivesOp
   go_simp
   exact⟨Ext.refl _,HW.out,rfl⟩
  ·cases ho
   have h55:vs 55=_:=hd ⟨55,.data⟩ (by simp) rfl
   rw[h55] at i55
   clear hd
   have g0:=HW.out.cell c0
   unfold GivesOp
   go_simp
   exact⟨Ext.refl _,HW.out,rfl⟩
  ·cases ho
   clear hd
   unfold GivesOp
   go_simp
   exact⟨Ext.refl _,HW.out,rfl⟩
  ·cases ho
   have h57:vs 57=_:=hd ⟨57,.data⟩ (by simp) rfl
   rw[h57] at i57
   clear hd
   have g1:=HW.out.cell c1
   unfold GivesOp
   go_simp
   exact⟨Ext.refl _,HW.out,rfl⟩
  ·cases ho
   clear hd
   unfold GivesOp
   go_simp
   exact⟨Ext.refl _,HW.out,rfl⟩
  ·cases ho
   have h59:vs 59=_:=hd ⟨59,.data⟩ (by simp) rfl
   rw[h59] at i59
   clear hd
   have g2:=HW.out.cell c2
   have g3:=HW.out.cell c3
   have g4:=HW.out.cell c4
   have g5:=HW.out.cell c5
   have g6:=HW.out.cell c6
   have g7:=HW.out.cell c7
   unfold GivesOp
   go_simp
   exact⟨Ext.refl _,HW.out,rfl⟩
  ·cases ho
   clear hd
   unfold GivesOp
   go_simp
   exact⟨Ext.refl _,HW.out,rfl⟩
  ·cases ho
   have h61:vs 61=_:=hd ⟨61,.data⟩ (by simp) rfl
   rw[h61] at i61
   clear hd
   have g8:=HW.out.cell c8
   unfold GivesOp
   go_simp
   exact⟨Ext.refl _,HW.out,rfl⟩
  ·cases ho
   clear hd
   have g0:=HW.out.cell y0
   have g1:=HW.out.cell yy1
   have g2:=HW.out.cell y2
   unfold GivesOp
   go_simp
   exact⟨Ext.refl _,HW.out,rfl⟩
  ·cases ho
   have h56:vs 56=_:=hd ⟨56,.data⟩ (by simp) rfl
   rw[h56] at i56
   have h58:vs 58=_:=hd ⟨58,.data⟩ (by simp) rfl
   rw[h58] at i58
   have h60:vs 60=_:=hd ⟨60,.data⟩ (by simp) rfl
   rw[h60] at i60
   have h62:vs 62=_:=hd ⟨62,.data⟩ (by simp) rfl
   rw[h62] at i62
   have h63:vs 63=_:=hd ⟨63,.data⟩ (by simp) rfl
   rw[h63] at i63
   clear hd
   unfold GivesOp
   go_simp
   refine(HR3.out W HW.out).mono ?_
   rintro e5 w5 ⟨rfl,hx5⟩
   exact⟨_,rfl,hx5,HW.out.trans hx5,rfl⟩
  ·cases ho
   have h54:vs 54=_:=hd ⟨54,.data⟩ (by simp) rfl
   rw[h54] at i54
   have h64:vs 64=_:=hd ⟨64,.data⟩ (by simp) rfl
   rw[h64] at i64
   clear hd
   unfold GivesOp
   go_simp
   exact⟨Ext.refl _,HW.out,rfl⟩
  ·cases ho
   have h44:vs 44=_:=hd ⟨44,.data⟩ (by simp) rfl
   rw[h44] at i44
   have h65:vs 65=_:=hd ⟨65,.data⟩ (by simp) rfl
   rw[h65] at i65
   clear hd
   unfold GivesOp
   go_simp
   exact⟨Ext.refl _,HW.out,rfl⟩
  ·cases ho
   have h66:vs 66=_:=hd ⟨66,.data⟩ (by simp) rfl
   rw[h66] at i66
   clear hd
   unfold GivesOp
   go_simp
   exact⟨Ext.refl _,HW.out,rfl⟩
  ·cases ho
   clear hd
   unfold GivesOp
   go_simp
   exact⟨Ext.refl _,HW.out,rfl⟩
  ·cases ho
   have h68:vs 68=_:=hd ⟨68,.data⟩ (by simp) rfl
   rw[h68] at i68
   clear hd
   have g0:=HW.out.cell c0
   unfold GivesOp
   go_simp
   exact⟨Ext.refl _,HW.out,rfl⟩
  ·cases ho
   clear hd
   unfold GivesOp
   go_simp
   exact⟨Ext.refl _,HW.out,rfl⟩
  ·cases ho
   have h70:vs 70=_:=hd ⟨70,.data⟩ (by simp) rfl
   rw[h70] at i70
   clear hd
   have g1:=HW.out.cell c1
   unfold GivesOp
   go_simp
   exact⟨Ext.refl _,HW.out,rfl⟩
  ·cases ho
   clear hd
   unfold GivesOp
   go_simp
   exact⟨Ext.refl _,HW.out,rfl⟩
  ·cases ho
   have h72:vs 72=_:=hd ⟨72,.data⟩ (by simp) rfl
   rw[h72] at i72
   clear hd
   have g2:=HW.out.cell c2
   have g3:=HW.out.cell c3
   have g4:=HW.out.cell c4
   have g5:=HW.out.cell c5
   have g6:=HW.out.cell c6
   have g7:=HW.out.cell c7
   unfold GivesOp
   go_simp
   exact⟨Ext.refl _,HW.out,rfl⟩
  ·cases ho
   clear hd
   unfold GivesOp
   go_simp
   exact⟨Ext.refl _,HW.out,rfl⟩
  ·cases ho
   clear hd
   have g0:=HW.out.cell p0
   have g1:=HW.out.cell p1
   have g2:=HW.out.cell p2
   unfold GivesOp
   go_simp
   exact⟨Ext.refl _,HW.out,rfl⟩
  ·cases ho
   have h69:vs 69=_:=hd ⟨69,.data⟩ (by simp) rfl
   rw[h69] at i69
   have h71:vs 71=_:=hd ⟨71,.data⟩ (by simp) rfl
   rw[h71] at i71
   have h73:vs 73=_:=hd ⟨73,.data⟩ (by simp) rfl
   rw[h73] at i73
   have h74:vs 74=_:=hd ⟨74,.data⟩ (by simp) rfl
   rw[h74] at i74
   have h75:vs 75=_:=hd ⟨75,.data⟩ (by simp) rfl
   rw[h75] at i75
   clear hd
   unfold GivesOp
   go_simp
   refine(HV4.out W HW.out).mono ?_
   rintro e5 w5 ⟨rfl,hx5⟩
   exact⟨_,rfl,hx5,HW.out.trans hx5,rfl⟩
  ·cases ho
   clear hd
   unfold GivesOp
   go_simp
   exact⟨Ext.refl _,HW.out,rfl⟩
  ·cases ho
   have h77:vs 77=_:=hd ⟨77,.data⟩ (by simp) rfl
   rw[h77] at i77
   clear hd
   have g0:=HW.out.cell c0
   unfold GivesOp
   go_simp
   exact⟨Ext.refl _,HW.out,rfl⟩
  ·cases ho
   clear hd
   unfold GivesOp
   go_simp
   exact⟨Ext.refl _,HW.out,rfl⟩
  ·cases ho
   have h79:vs 79=_:=hd ⟨79,.data⟩ (by simp) rfl
   rw[h79] at i79
   clear hd
   have g1:=HW.out.cell c1
   unfold GivesOp
   go_simp
   exact⟨Ext.refl _,HW.out,rfl⟩
  ·cases ho
   clear hd
   unfold GivesOp
   go_simp
   exact⟨Ext.refl _,HW.out,rfl⟩
  ·cases ho
   have h81:vs 81=_:=hd ⟨81,.data⟩ (by simp) rfl
   rw[h81] at i81
   clear hd
   have g2:=HW.out.cell c2
   have g3:=HW.out.cell c3
   have g4:=HW.out.cell c4
   have g5:=HW.out.cell c5
   have g6:=HW.out.cell c6
   have g7:=HW.out.cell c7
   unfold GivesOp
   go_simp
   exact⟨Ext.refl _,HW.out,rfl⟩
  ·cases ho
   clear hd
   unfold GivesOp
   go_simp
   exact⟨Ext.refl _,HW.out,rfl⟩
  ·cases ho
   clear hd
   have g0:=HW.out.cell p0
   have g1:=HW.out.cell p1
   have g2:=HW.out.cell p2
   unfold GivesOp
   go_simp
   exact⟨Ext.refl _,HW.out,rfl⟩
  ·cases ho
   have h78:vs 78=_:=hd ⟨78,.data⟩ (by simp) rfl
   rw[h78] at i78
   have h80:vs 80=_:=hd ⟨80,.data⟩ (by simp) rfl
   rw[h80] at i80
   have h82:vs 82=_:=hd ⟨82,.data⟩ (by simp) rfl
   rw[h82] at i82
   have h83:vs 83=_:=hd ⟨83,.data⟩ (by simp) rfl
   rw[h83] at i83
   have h84:vs 84=_:=hd ⟨84,.data⟩ (by simp) rfl
   rw[h84] at i84
   clear hd
   unfold GivesOp
   go_simp
   refine(HR4.out W HW.out).mono ?_
   rintro e5 w5 ⟨rfl,hx5⟩
   exact⟨_,rfl,hx5,HW.out.trans hx5,rfl⟩
  ·cases ho
   have h76:vs 76=_:=hd ⟨76,.data⟩ (by simp) rfl
   rw[h76] at i76
   have h85:vs 85=_:=hd ⟨85,.data⟩ (by simp) rfl
   rw[h85] at i85
   clear hd
   unfold GivesOp
   go_simp
   exact⟨Ext.refl _,HW.out,rfl⟩
  ·cases ho
   have h67:vs 67=_:=hd ⟨67,.data⟩ (by simp) rfl
   rw[h67] at i67
   have h86:vs 86=_:=hd ⟨86,.data⟩ (by simp) rfl
   rw[h86] at i86
   clear hd
   unfold GivesOp
   go_simp
   exact⟨Ext.refl _,HW.out,rfl⟩
  ·cases ho
   have h87:vs 87=_:=hd ⟨87,.data⟩ (by simp) rfl
   rw[h87] at i87
   clear hd
   unfold GivesOp
   go_simp
   exact⟨Ext.refl _,HW.out,rfl⟩
  ·cases ho
   clear hd
   unfold GivesOp
   go_simp
   refine(HAW.out W HW.out).mono ?_
   rintro e5 w5 ⟨rfl,hx5⟩
   exact⟨_,rfl,hx5,HW.out.trans hx5,rfl⟩
  ·cases ho
   have h88:vs 88=_:=hd ⟨88,.data⟩ (by simp) rfl
   rw[h88] at i88
   have h89:vs 89=_:=hd ⟨89,.data⟩ (by simp) rfl
   rw[h89] at i89
   clear hd
   unfold GivesOp
   go_simp
   exact⟨Ext.refl _,HW.out,rfl⟩
  cases ho
  have h90:vs 90=_:=hd ⟨90,.data⟩ (by simp) rfl
  rw[h90] at i90
  clear hd
  unfold GivesOp
  go_simp
  exact⟨Ext.refl _,HW.out,rfl⟩
 intro L vs W hLm hW hR
 rw[if_pos (by decide +kernel)]
 have h91:vs 91=.bool true:=hR 91 (by simp) (by omega)
 simp only[acts,dstAt,List.range,List.range.loop,List.foldl_cons,List.foldl_nil,h91]
 go_simp
 have hW2:Ext w10 W:=hW
 clear hR hW hLm h91
 have HXZ:=hI (HX10.out.trans hW2)
 clear hW2 c0 c1 c2 c3 c4 c5 c6 c7 c8 cf p0 p1 p2 pf' q0 q1 q2 qf x0 xx1 x2 xf y0 yy1 y2 yf
 go_wp2_with fail
 go_ret
 exact givesE_bool rfl HXZ.out
open Go.ChangeShapes Go.WideShapes Go.ChangeAt Go.RowKit
theorem proof_arg {H:Type} {enc:TypeId×Value->H} {W:World} {v:Value} {d:DataW H} {p:List MemPlace} {ts:List TypeId} {ds:List (DataW H)} {j:Nat} (h:DataW.Trod enc Tryz.prog W 0 (fun _=>true) true 40 v d p) {base:Nat} (hval:Value.okWide Tryz.prog W .any base 40 v)
  (hs:(DataW.weightsEach Tryz.prog ts ds).all (·<=reachBytes)=true) (ht:ts[j]?=some 40) (hd:ds[j]?=some d):∃ (q:Pr) (x:PrV),v=x.val/\IsPr W q x/\q.fit:=by
 obtain⟨fuel,hf⟩:=h
 have hw:(d.weights Tryz.prog 40).all (·<=reachBytes)=true:=by
  rw[List.all_eq_true]
  intro n hn
  exact List.all_eq_true.1 hs n (DataW.weights_mem_each ht hd n hn)
 obtain⟨x,h1,q,h2,h3⟩:=pr_arg fuel _ _ hf hw
 refine⟨q,x,?_,h2,h3⟩
 obtain⟨fs,uE,_⟩:=uPr
 obtain⟨cs,rfl,_⟩:=okWide_struct uE hval
 simp only[Value.cells] at h1
 have e:cs=x.cells.toArray:=by rw[<-h1]
 rw[e];rfl
end Go.Proofs.YtpkljcgihobaiaaGreatDoor
