/- Lemmas. -/
import Derived.Test.YthnnplohnceogaaGreatDoorRows
import Derived.WalkKit
import Derived.ProofKit
import Derived.OpenShut
import Derived.JoinedCond
import Derived.Test.YthnnplohnceogaaGreatDoorQ13
namespace Go.Proofs.YthnnplohnceogaaGreatDoor
open Go Go.ChangeShapes Go.WideShapes Go.ChangeAt Go.RowKit
set_option linter.unusedSimpArgs false
set_option linter.unusedVariables false
variable {H:Type} {enc:TypeId×Value->H} {P:Program} {W W':World}
theorem own:ownKnob Tryz.prog.godebug=none:=by kernel_rfl
theorem laidOut:laidOutB Tryz.prog=true:=by kernel_rfl
theorem cj.below(h:cj W W'):Below W.heap.size W W':=⟨h.os,h.tape,h.output,h.size,h.block⟩
theorem sO(hl:laidOutB P=true)(hb:Below W.heap.size W W'):∀{ts:List TypeId}{vs:List Value}{ds:List (DataW H)}{ps:List MemPlace}, (∀t∈ts,P.readableRec t=true/\t<P.types.size)->DataW.TrodAll enc P W 0 (λ_=>true) true ts vs ds ps->(∀x∈ps,x.block<W.heap.size)-> DataW.TrodAll enc P W' 0 (λb=>decide (b<W.heap.size)) true ts vs ds ps
 | [],[],[],_,_,h,_=>h|t::ts,v::vs,d::ds,ps,hr,h,aF=>by obtain⟨p,q,h1,h2,rfl⟩:=h;have ht:=hr t (by simp);exact⟨p,q,Below.trod hl ht.1 ht.2 h1 hb λx hx=>aF x (by simp[hx]),sO hl hb (λu hu=>hr u (by simp[hu])) h2 λx hx=>aF x (by simp[hx]),rfl⟩| [],[],_::_,_,_,h,_=>h.elim| [],_::_,_,_,_,h,_=>h.elim|_::_,[],_,_,_,h,_=>h.elim|_::_,_::_,[],_,_,h,_=>h.elim
theorem Rg{s:ChangeSpec}{f:Func}{args:Array Value}{ds gs:List (DataW H)}{before:List MemPlace}{tb:TypeId}(hl:laidOutB P=true)(hv:s.vars=[])(hub:P.underlying tb=some .bool)(ht:f.resultTypes=#[tb])(hr:∀t∈f.params.toList,P.readableRec t=true/\t<P.types.size)(hW:DataW.Whole enc P f.params.toList s.vars false W args.toList ds gs before)(h1:(s.fn H (ds++gs)).results=[.lit (.bool true)])(h2:(s.fn H (ds++gs)).args=ds)(h3:(s.fn H (ds++gs)).vars=[])(hs:cj W W'):s.post enc P f false true false false W args (.bool true) W':=by have YF:=hW;obtain⟨p,q,hA,hV,rfl,_,_⟩:=hW;rw[hv]at hV;obtain⟨rfl,rfl⟩:=trodVars_none hV;refine⟨_,_,_,[],p,[],YF,?_,?_,?_,hs.below.frame _,λh=>by cases h⟩;rw[h1,ht];exact trodAll_cons_mk (shut_bool hub true) trodAll_mk0;rw[h2];exact sO hl hs.below hr hA λx hx=>YF.lt x (by simp[hx]);rw[h3,hv];rfl
theorem Mu{f:FuncId}{fn:Func}{s:ChangeSpec}{args:Array Value}{ds gs:List (DataW H)}{before:List MemPlace}{tb:TypeId}{xs:List AV}(hl:laidOutB P=true)(hv:s.vars=[])(hub:P.underlying tb=some .bool)(ht:fn.resultTypes=#[tb])(hr:∀t∈fn.params.toList,P.readableRec t=true/\t<P.types.size)(hW:DataW.Whole enc P fn.params.toList s.vars false W args.toList ds gs before)(h1:(s.fn H (ds++gs)).results=[.lit (.bool true)])(h2:(s.fn H (ds++gs)).args=ds)(h3:(s.fn H (ds++gs)).vars=[])(hc:az P f xs (nB true))(hg:oW W)(hx:cC W (λb _=>b<W.heap.size) [] [] xs args.toList): Calls P f args W λe W'=>∃v,e=.returned v/\s.post enc P fn false true false false W args v W':=by have:=callsIn_wide.1 (hc.2 W (λb _=>b<W.heap.size) args.toList (λ_ _ h=>h) hg hx);rw[avx]at this;refine this.mono λe W' ⟨v,r,he,gJ,hs,eD⟩=>⟨v,he,?_⟩;subst gJ;obtain rfl:=eD.aB;exact Rg hl hv hub ht hr hW h1 h2 h3 hs
end Go.Proofs.YthnnplohnceogaaGreatDoor
