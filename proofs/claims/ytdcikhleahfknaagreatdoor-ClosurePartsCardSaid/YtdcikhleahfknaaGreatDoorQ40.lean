/- Texts of ours laid together for a claim: VcT. -/
import Derived.Test.YtdcikhleahfknaaGreatDoorQ39
namespace Go.Proofs.YtdcikhleahfknaaGreatDoor
open Go
set_option linter.unusedSimpArgs false
set_option linter.unusedVariables false
theorem CU.pure {P:Program} {f:FuncId} {args:List AV} {e size:Nat} {els:List AV} (h:CU P f args e size els):ag P f args (.sl els):=by
 refine⟨h.1,fun w F aR hF hg hv=>(h.2 w F aR hF hg hv).mono ?_⟩
 rintro en w' ⟨v,rfl,hs,h1,mw,hz,xs,bU,cy⟩
 refine⟨v,_,rfl,rfl,hs,?_⟩
 obtain⟨hx,bU⟩:=bU
 have mono:∀b o,Ic F w w' v b o→Onto F w w' b o:=fun b o hb=>hb.imp id fun h=>⟨h.1,h.2.1⟩
 rcases bU with⟨h0,pa⟩|⟨g,cap,cur,rfl,FI,⟨hi,hk,hh⟩,hn,hm,bE,xv⟩
 ·have:els=[]:=List.length_eq_zero_iff.1 h0
  subst this
  rcases pa with rfl|⟨ad,rfl⟩
  ·exact .jN none
  ·exact .jN (some ad)
 ·have Mp:w.heap.size≤g∧g<w'.heap.size:=⟨mw g (ba FI),aX hh⟩
  have cell:∀k u,xs[k]?=some u→w'.cell? ⟨g,k,none⟩=some u:=fun k u hk=>by
   have vZ:=(List.getElem?_eq_some_iff.1 hk).1
   rw[←xv,List.getElem?_take] at hk
   split at hk
   ·simp only[World.cell?,hh]
    rw[Array.getElem?_toList] at hk
    exact hk
   ·cases hk
  refine aV.sl size els g 0 cap (fun i j=>(xs[i*size+j]?).getD (.int .i64 0)) hn hm (fun i el he=>(cy i el he).1) (fun i el j x he hx=>?_) fun i el j x he hx=>?_
  ·obtain⟨u,g1,g2,g3⟩:=(cy i el he).2 j x hx
   rw[g1]
   exact⟨by rw[show 0+i*size+j=i*size+j by omega];exact cell _ _ g1,.inr Mp,g3⟩
  ·obtain⟨u,g1,g2,g3⟩:=(cy i el he).2 j x hx
   rw[g1]
   exact g2.aY mono
end Go.Proofs.YtdcikhleahfknaaGreatDoor
