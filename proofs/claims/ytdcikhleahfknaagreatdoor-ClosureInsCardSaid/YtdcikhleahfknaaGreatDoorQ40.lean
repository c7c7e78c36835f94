/- Texts of ours laid together for a claim: VcT. -/
import Derived.Test.YtdcikhleahfknaaGreatDoorQ39
namespace Go.Proofs.YtdcikhleahfknaaGreatDoor
open Go
set_option linter.unusedSimpArgs false
set_option linter.unusedVariables false
theorem IQ.pure {P:Program} {f:FuncId} {args:List AV} {e size:Nat} {els:List AV} (h:IQ P f args e size els):ag P f args (.sl els):=by
 refine⟨h.1,fun w F aU hF hg hv=>(h.2 w F aU hF hg hv).mono ?_⟩
 rintro en w' ⟨v,rfl,hs,h1,nb,hz,xs,bW,cy⟩
 refine⟨v,_,rfl,rfl,hs,?_⟩
 obtain⟨hx,bW⟩:=bW
 have mono:∀b o,JJ F w w' v b o→Onto F w w' b o:=fun b o hb=>hb.imp id fun h=>⟨h.1,h.2.1⟩
 rcases bW with⟨h0,pL⟩|⟨g,cap,cur,rfl,G1,⟨hi,hk,hh⟩,hn,hm,bC,ye⟩
 ·have:els=[]:=List.length_eq_zero_iff.1 h0
  subst this
  rcases pL with rfl|⟨ad,rfl⟩
  ·exact .ki none
  ·exact .ki (some ad)
 ·have N0:w.heap.size≤g∧g<w'.heap.size:=⟨nb g (bd G1),ba hh⟩
  have cell:∀k u,xs[k]?=some u→w'.cell? ⟨g,k,none⟩=some u:=fun k u hk=>by
   have yf:=(List.getElem?_eq_some_iff.1 hk).1
   rw[←ye,List.getElem?_take] at hk
   split at hk
   ·simp only[World.cell?,hh]
    rw[Array.getElem?_toList] at hk
    exact hk
   ·cases hk
  refine aY.sl size els g 0 cap (fun i j=>(xs[i*size+j]?).getD (.int .i64 0)) hn hm (fun i el he=>(cy i el he).1) (fun i el j x he hx=>?_) fun i el j x he hx=>?_
  ·obtain⟨u,g1,g2,g3⟩:=(cy i el he).2 j x hx
   rw[g1]
   exact⟨by rw[show 0+i*size+j=i*size+j by omega];exact cell _ _ g1,.inr N0,g3⟩
  ·obtain⟨u,g1,g2,g3⟩:=(cy i el he).2 j x hx
   rw[g1]
   exact g2.bb mono
end Go.Proofs.YtdcikhleahfknaaGreatDoor
