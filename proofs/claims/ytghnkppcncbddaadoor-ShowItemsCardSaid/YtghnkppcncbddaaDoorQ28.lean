/- Texts of ours laid together for a claim: VcI. -/
import Derived.Test.YtghnkppcncbddaaDoorQ27
namespace Go.Proofs.YtghnkppcncbddaaDoor
open Go
set_option linter.unusedSimpArgs false
set_option linter.unusedVariables false
variable {P : Program} {f : FuncId} {args : List AV} {hp hp1 : List AObj} {R R' : AV → List AObj → Prop}
theorem HFn.res (hf : HFn P f args hp R) (h : ∀ r h', R r h' → ∃ r2, RepW r r2 ∧ R' r2 h') : HFn P f args hp R' :=
 ⟨hf.1, fun w F η vals hpre hv => (hf.2 w F η vals hpre hv).mono fun _ _ ⟨v, r, hp', η', h1, h2, h3⟩ => by
  obtain ⟨r2, g1, g2⟩ := h r hp' h2
  exact ⟨v, r2, hp', η', h1, g2, h3.keeps, h3.ext, h3.heap, h3.mine, g1 _ _ _ _ _ h3.rep⟩⟩
end Go.Proofs.YtghnkppcncbddaaDoor
