/- Lemmas. -/
import Derived.Lib.LaidTab
import Derived.Test.YthnnplohnceogaaGreatDoorQ16
namespace Go.Proofs.YthnnplohnceogaaGreatDoor
open Go Go.ChangeShapes Go.WideShapes Go.ChangeAt Go.RowKit
set_option linter.unusedSimpArgs false
set_option linter.unusedVariables false
section
variable {H:Type} {enc:TypeId×Value->H} {P:Program} {W:World}
variable {base:Nat} {v:Value} {d:DataW H} {p:List MemPlace}
end
theorem xT{P:Program}{w:World}:∀{l:List (String×DataW Unit)}{ps:List MemPlace},DataW.LaidVars P w l ps->∀n d,(n,d)∈l-> ∃g t cs fuel p,P.globalNamed n=some g/\(P.globals[g]?).map (·.type)=some t/\w.var? P n=some cs/\DataW.trod (λ_=>()) P w 0 (λ_=>true) false fuel t cs.toList=some (d,p)/\∀i,i<cs.size->MemPlace.cell g i∈ps
 | [],_,_,_,_,hm=>by cases hm|(n',d')::r,ps,h,n,d,hm=>by obtain⟨g,t,cs,fuel,p,q,h1,h2,h3,h4,h5,rfl⟩:=h;rcases auJ.1 hm with e|e;cases e;exact⟨g,t,cs,fuel,p,h1,h2,h3,h4,λi hi=>avw _ (avw _ (MemPlace.mem_row.2 ⟨i,hi,by simp⟩))⟩;obtain⟨g',t',eJ,akb,p',k1,k2,k3,k4,k5⟩:=xT h5 n d e;exact⟨g',t',eJ,akb,p',k1,k2,k3,k4,λi hi=>av6 _ (k5 i hi)⟩
theorem acb{l:List (String×DataW Unit)}{W:World}(h:laidMet Tryz.prog l W)(hm:("internal/strconv.uint64pow10",Lib.tabData .u64 Lib.pow10Tab)∈l):oW W:=by (obtain⟨ps,hv,_,hc⟩:=h;obtain⟨g,t,cs,fuel,p,h1,h2,h3,h4,h5⟩:=xT hv _ _ hm;obtain rfl:g=(G9.head (by decide)).1:=auo (h1.symm.trans (by kernel_rfl));obtain rfl:t=324:=auo (h2.symm.trans (by kernel_rfl));have e:=Lib.cells_of_tab (k:=.u64) (zs:=Lib.pow10Tab) (n:=20) (e:=306) (by kernel_rfl) (by kernel_rfl) (by kernel_rfl) (by kernel_rfl) h4;have cY:cs.size=20:=by rw[<-au2,e];rfl);(obtain⟨⟨c,T,h6⟩,_⟩:=hc _ 0 (h5 0 (by omega));have h7:W.var? Tryz.prog "internal/strconv.uint64pow10"=some c:=by unfold World.var?;rw[h1];simp only[Option.bind_some,h6]);rw[h3]at h7;obtain rfl:=auo h7;intro p hp;obtain rfl:=auD.1 hp;refine⟨T,h6.trans ?_⟩;rw[show cs=(Lib.pow10Tab.map λz=>Value.int .u64 z).toArray by rw[<-e,avx]];rfl
def Rq:DataW Unit->Array Value
 | .agg l=>(l.map λx=>match x with| .lit (.int k z)=>Value.int k z|_=>undef).toArray|_=>#[]
noncomputable def DW(l:List (String×DataW Unit))(os:Os):World:=
 let w0:=World.holding Tryz.prog os ⟨#[],#[],[]⟩
 { w0 with heap:=l.foldl (λh x=>match Tryz.prog.globalNamed x.1 with|some g=>h.modify g λo=>(match o with| .cells _ t z=>.cells (Rq x.2) t z|o=>o)|none=>h) w0.heap }
end Go.Proofs.YthnnplohnceogaaGreatDoor
