/-
  Texts of the claim, joined: Grow2.
-/
import Derived.Test.YtpkljcgihobaiaaGreatDoorVe05
import Derived.BigFrame
namespace Go.Proofs.YtpkljcgihobaiaaGreatDoor
set_option maxRecDepth 100000
set_option maxHeartbeats 32000000
open Go.RowKit
theorem gives_append {t e:TypeId} {z:Value} {size bytes:Nat} (E:ElemT t e z size bytes) {ρ:Operand->Value} {W:World} {T:Value->World->Prop} {dst:Option Tmp} {ty:TypeId} {pos:String} {after:Array Edge} {guard:Option (Nat×Bool)}
  (s x:Operand) (base:Nat) (v:Value) (n:Nat) (xs:List Value) (hs:ρ s=v) (B m c:Nat) (news:List Value) (hx:ρ x=.slice (some ⟨B,0,none⟩) m c) (hl:news.length=m * size) (h1:∀ u∈news,u.oneCell'=true) (hm:0 < m) (hn:n+m<=100000000) (hb:bytes<=1000)
  (hown:W.ownsRow base e size v n xs) (hnews:∀ j (h:j < news.length),W.cell? ⟨B,j,none⟩=some news[j]) (hbase:base<=W.heap.size)
  (h:∀ g cap w',w'.ownsRow base e size (.slice (some ⟨g,0,none⟩) (n+m) cap) (n+m) (xs++news)->W.grownBy w' v.ownBlock->(v.ownBlock=some g\/g=W.heap.size)->g < w'.heap.size->T (.slice (some ⟨g,0,none⟩) (n+m) cap) w') :
  GivesOp Tryz.prog { dst:=dst,op:=.call { callee:=.builtin .append,args:=#[s,x],argTypes:=#[t,t] },type:=ty,pos:=pos,after:=after,guard:=guard } ρ W T:=by
 obtain⟨i,hi,hz,hsz,hby⟩:=info_parts E.info
 obtain⟨g,cap,w',hrun,h2,h3,h4,h5⟩:=run_append_lies (P:=Tryz.prog) W t ty base e i z size bytes E.ht hi hz hsz hby E.hzs E.hsz v n xs hown ⟨B,0,none⟩ m c news hl (by
   intro j u hu
   obtain⟨hj,rfl⟩:=List.getElem?_eq_some_iff.1 hu
   have:(⟨B,0,none⟩:Addr).add j=⟨B,j,none⟩:=by unfold Addr.add;split<;>simp_all
   rw[this]
   exact hnews j hj) h1 hm (by simp only[maxLen];omega) (by
   calc (n+m) * bytes<=100000000 * 1000:=Nat.mul_le_mul hn hb
    _<=140737488355328:=by omega) hbase _ rfl
 unfold GivesOp
 have he:execOp ρ { dst:=dst,op:=.call { callee:=.builtin .append,args:=#[s,x],argTypes:=#[t,t] },type:=ty,pos:=pos,after:=after,guard:=guard }=(do pure (.value (<-Builtin.append_ #[t,t] ty #[v,.slice (some ⟨B,0,none⟩) m c]))):=by
  rw[<-hs,<-hx,BigFrame.execOp_builtin,BigFrame.builtin_append];simp
 rw[he]
 simp only[Sem.run_bind,hrun]
 exact h g cap w' h2 h3 h4 h5
theorem alloc_at {w:World} {o:Obj} {n:Nat} (h:n=w.heap.size):(w.alloc o).heap[n]?=some o:=by subst h;exact alloc_new w o
end Go.Proofs.YtpkljcgihobaiaaGreatDoor
