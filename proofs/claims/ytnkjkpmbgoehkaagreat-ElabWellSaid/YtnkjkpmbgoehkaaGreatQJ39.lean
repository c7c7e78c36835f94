/- Proved: the law 'filigreelaw16.ElabWell' returns true, and leaves its argument as it reads, for all texts. Conditions: none beyond the given statement's own (ElabWellSaid). -/
import Derived.Test.YtnkjkpmbgoehkaaGreatQ45
namespace Go.Proofs.YtnkjkpmbgoehkaaGreat
open Go Go.ChangeShapes Go.WideShapes Go.ChangeAt Go.RowKit
open Go.Proofs.Tryz renaming prog->aj
set_option linter.unusedSimpArgs false
set_option linter.unusedVariables false
theorem qn:Tryz.f5.params=#[9]:=by kernel_rfl
theorem Ch:∀t∈Tryz.f5.params.toList,aj.readableRec t=true/\t<aj.types.size:=by
 rw[qn];intro t ht;have h:t=9:=by simpa using ht
 rcases h with rfl
 ·exact⟨by kernel_rfl,of_decide_eq_true (by kernel_rfl)⟩
theorem wG:Tryz.f5.resultTypes=#[4]:=by kernel_rfl
theorem Ci:aj.underlying 4=some .bool:=by kernel_rfl
set_option maxRecDepth 100000 in
theorem vB {H:Type} {enc:TypeId×Value->H} (W:World) (base:Nat) (args:Array Value) (ds gs:List (DataW H)) (before:List MemPlace)
  (OS:∀(j:Nat) t v,Tryz.f5.params[j]?=some t->args[j]?=some v->Value.okWide aj W .any base t v)
  (hW:DataW.Whole enc aj Tryz.f5.params.toList Rows.elabWellSpec.vars false W args.toList ds gs before):
  Calls aj 5 args W fun e W'=>∃v,e=.returned v/\Rows.elabWellSpec.post enc aj Tryz.f5 false true false false W args v W':=by
 have W9:=hW;obtain⟨p,q,hA,hV,rfl,_,_⟩:=hW;obtain⟨rfl,rfl⟩:=trodVars_none hV;rw[qn] at hA OS;obtain⟨v0,vs0,d0,ds0,p0,q0,e0,rfl,rfl,h0,r0⟩:=trodAll_cons hA;obtain⟨rfl,rfl,rfl⟩:=trodAll_nil r0;obtain rfl:args=#[v0]:=by cases args;simp_all
 obtain⟨x0,k0,w0⟩:=adw adv (OS 0 9 v0 rfl rfl) h0;exact LQ (tb:=4) laidOut rfl Ci wG Ch W9 rfl rfl rfl (By) (fun p hp=>by cases hp) ⟨w0,True.intro⟩
set_option maxRecDepth 100000 in
theorem yg (os:Os) (started:os.Started) (H:Type) (enc:TypeId×Value->H):
  ReturnsInHanded {} Tryz.checked os 5 .any (Rows.elabWellSpec.pre6 enc aj Tryz.f5 Rows.elabWellRow.domain false) (Rows.elabWellSpec.post enc aj Tryz.f5 false true false false):=by
 refine returnsInHanded_of_change (C:=Tryz.checked) own started (by kernel_rfl) Tryz.func5
  (ChangeSpec.witness6 (enc:=enc) (C:=Tryz.checked) false ⟨#[],#[.string ⟨#[]⟩],[]⟩ 8 (by kernel_rfl) (by kernel_rfl) (by kernel_rfl) (by kernel_rfl)) ?_
 intro W base args ds gs before OS hW _ _;exact vB W base args ds gs before OS hW
theorem Cj:Rows.elabWellRow.holds Tryz.pinned (OpenSpec.ofChange Rows.elabWellSpec):=
 OpenClaim.holds_of_wide 5 Tryz.f5 rfl rfl rfl rfl rfl rfl rfl ⟨rfl,rfl,rfl,rfl,rfl⟩ rfl rfl rfl rfl rfl (by kernel_rfl) Tryz.func5 (by kernel_rfl)
  (of_decide_eq_true (by kernel_rfl)) (by unfold Func.isWrapper;first|(rw[if_pos (by decide +kernel)];kernel_rfl)|(rw[if_neg (by decide +kernel)];exact⟨rfl,rfl⟩))
  (fun os started H enc _=>yg os started H enc)
theorem ElabWell_proved:Rows.ElabWellSaid:=Cj
end Go.Proofs.YtnkjkpmbgoehkaaGreat
