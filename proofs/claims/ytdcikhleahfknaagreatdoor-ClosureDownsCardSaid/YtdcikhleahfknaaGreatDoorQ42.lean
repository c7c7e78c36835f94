/- Texts of ours laid together for a claim: VcT. -/
import Derived.Test.YtdcikhleahfknaaGreatDoorQ41
namespace Go.Proofs.YtdcikhleahfknaaGreatDoor
open Go
set_option linter.unusedSimpArgs false
set_option linter.unusedVariables false
theorem MY.pure {P:Program} {f:FuncId} {args:List AV} {e size:Nat} {els:List AV} (h:MY P f args e size els):ag P f args (.sl els):=by
 refine⟨h.1,fun w F bb hF hg hv=>(h.2 w F bb hF hg hv).mono ?_⟩
 rintro en w' ⟨v,rfl,hs,h1,oN,hz,xs,cy,cS⟩
 refine⟨v,_,rfl,rfl,hs,?_⟩;obtain⟨hx,cy⟩:=cy;have mono:∀b o,NU F w w' v b o->Onto F w w' b o:=fun b o hb=>hb.imp id fun h=>⟨h.1,h.2.1⟩;rcases cy with⟨h0,rH⟩|⟨g,cap,cur,rfl,G4,⟨hi,hk,hh⟩,hn,hm,bN,zP⟩
 ·have:els=[]:=am6.1 h0;subst this;rcases rH with rfl|⟨ad,rfl⟩
  ·exact .lL none
  ·exact .lL (some ad)
 ·have Tv:w.heap.size<=g/\g<w'.heap.size:=⟨oN g (bp G4),bo hh⟩;have cell:∀k u,xs[k]?=some u->w'.cell? ⟨g,k,none⟩=some u:=fun k u hk=>by
   have tO:=(alu.1 hk).1;rw[<-zP,alO] at hk;split at hk
   ·simp only[World.cell?,hh];rw[amO] at hk;exact hk
   ·cases hk
  refine bm.sl size els g 0 cap (fun i j=>(xs[i*size+j]?).getD (.int .i64 0)) hn hm (fun i el he=>(cS i el he).1) (fun i el j x he hx=>?_) fun i el j x he hx=>?_
  ·obtain⟨u,g1,g2,g3⟩:=(cS i el he).2 j x hx;rw[g1];exact⟨by rw[show 0+i*size+j=i*size+j by omega];exact cell _ _ g1,.inr Tv,g3⟩
  ·obtain⟨u,g1,g2,g3⟩:=(cS i el he).2 j x hx;rw[g1];exact g2.bg mono
end Go.Proofs.YtdcikhleahfknaaGreatDoor
