/- Proved: the law 'filigreelaw16.ElabAbove' returns true, and leaves its arguments as they read, for all pairs and any two numbers. Conditions: none beyond the given statement's own (ElabAboveSaid). -/
import Derived.Test.YtnkjkpmbgoehkaaGreatQ44
namespace Go.Proofs.YtnkjkpmbgoehkaaGreat
open Go Go.ChangeShapes Go.WideShapes Go.ChangeAt Go.RowKit
set_option linter.unusedSimpArgs false
set_option linter.unusedVariables false
theorem nb:Tryz.f4.params=#[28,3,3]:=by kernel_rfl
theorem y8:∀t∈Tryz.f4.params.toList,Tryz.prog.readableRec t=true/\t<Tryz.prog.types.size:=by
 rw[nb];intro t ht;have h:t=28\/t=3\/t=3:=by simpa using ht
 rcases h with rfl|rfl|rfl
 ·exact⟨by kernel_rfl,of_decide_eq_true (by kernel_rfl)⟩
 ·exact⟨by kernel_rfl,of_decide_eq_true (by kernel_rfl)⟩
 ·exact⟨by kernel_rfl,of_decide_eq_true (by kernel_rfl)⟩
theorem tz:Tryz.f4.resultTypes=#[4]:=by kernel_rfl
theorem y9:Tryz.prog.underlying 4=some .bool:=by kernel_rfl
set_option maxRecDepth 100000 in
theorem rP {H:Type} {enc:TypeId×Value->H} (W:World) (base:Nat) (args:Array Value) (ds gs:List (DataW H)) (before:List MemPlace)
  (Db:∀(j:Nat) t v,Tryz.f4.params[j]?=some t->args[j]?=some v->Value.okWide Tryz.prog W .any base t v)
  (hW:DataW.Whole enc Tryz.prog Tryz.f4.params.toList Rows.elabAboveSpec.vars false W args.toList ds gs before):
  Calls Tryz.prog 4 args W fun e W'=>∃v,e=.returned v/\Rows.elabAboveSpec.post enc Tryz.prog Tryz.f4 false true false false W args v W':=by
 have SY:=hW;obtain⟨p,q,hA,hV,rfl,_,_⟩:=hW;obtain⟨rfl,rfl⟩:=trodVars_none hV;rw[nb] at hA Db;obtain⟨v0,vs0,d0,ds0,p0,q0,e0,rfl,rfl,h0,r0⟩:=trodAll_cons hA;obtain⟨v1,vs1,d1,ds1,p1,q1,e1,rfl,rfl,h1,r1⟩:=trodAll_cons r0;obtain⟨v2,vs2,d2,ds2,p2,q2,e2,rfl,rfl,h2,r2⟩:=trodAll_cons r1;obtain⟨rfl,rfl,rfl⟩:=trodAll_nil r2;obtain rfl:args=#[v0,v1,v2]:=by cases args;simp_all
 obtain⟨x0,k0,w0⟩:=VY IP (Db 0 28 v0 rfl rfl) h0;obtain⟨x1,k1,w1⟩:=SN IP (Db 1 3 v1 rfl rfl) h1;obtain⟨x2,k2,w2⟩:=SN IP (Db 2 3 v2 rfl rfl) h2;exact IL (tb:=4) laidOut rfl y9 tz y8 SY rfl rfl rfl (vV) (fun p hp=>by cases hp) ⟨w0,w1,w2,True.intro⟩
set_option maxRecDepth 100000 in
theorem uy (os:Os) (started:os.Started) (H:Type) (enc:TypeId×Value->H):
  ReturnsInHanded {} Tryz.checked os 4 .any (Rows.elabAboveSpec.pre6 enc Tryz.prog Tryz.f4 Rows.elabAboveRow.domain false) (Rows.elabAboveSpec.post enc Tryz.prog Tryz.f4 false true false false):=by
 refine returnsInHanded_of_change (C:=Tryz.checked) own started (by kernel_rfl) Tryz.func4
  (ChangeSpec.witness6 (enc:=enc) (C:=Tryz.checked) false ⟨#[],#[.slice none 0 0,.int .i64 0,.int .i64 0],[]⟩ 8 (by kernel_rfl) (by kernel_rfl) (by kernel_rfl) (by kernel_rfl)) ?_
 intro W base args ds gs before Db hW _ _;exact rP W base args ds gs before Db hW
theorem za:Rows.elabAboveRow.holds Tryz.pinned (OpenSpec.ofChange Rows.elabAboveSpec):=
 OpenClaim.holds_of_wide 4 Tryz.f4 rfl rfl rfl rfl rfl rfl rfl ⟨rfl,rfl,rfl,rfl,rfl⟩ rfl rfl rfl rfl rfl (by kernel_rfl) Tryz.func4 (by kernel_rfl)
  (of_decide_eq_true (by kernel_rfl)) (by unfold Func.isWrapper;first|(rw[if_pos (by decide +kernel)];kernel_rfl)|(rw[if_neg (by decide +kernel)];exact⟨rfl,rfl⟩))
  (fun os started H enc _=>uy os started H enc)
theorem ElabAbove_proved:Rows.ElabAboveSaid:=za
end Go.Proofs.YtnkjkpmbgoehkaaGreat
