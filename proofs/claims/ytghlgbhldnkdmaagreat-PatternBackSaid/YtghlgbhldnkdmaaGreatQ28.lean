/- Texts of ours laid together for a claim: VcI. -/
import Derived.Test.YtghlgbhldnkdmaaGreatQ27
namespace Go.Proofs.YtghlgbhldnkdmaaGreat
open Go
set_option linter.unusedSimpArgs false
set_option linter.unusedVariables false
variable {P : Program} {f : FuncId} {args : List AV} {hp hp1 : List AObj} {R R' : AV → List AObj → Prop}
theorem repL_w {w : World} {F : Nat → Nat → Prop} {η : List Value} {hp : List AObj} : ∀ {xs ys : List AV} {vs : List Value}, RepWL xs ys → RepL w F η hp xs vs → RepL w F η hp ys vs
 | [], [], [], _, _ => True.intro
 | _ :: _, _ :: _, _ :: _, h, hr => ⟨h.1 _ _ _ _ _ hr.1, repL_w h.2 hr.2⟩
theorem Pure.argsW {xs ys : List AV} {R : AV → Prop} (h : RepWL xs ys) (hp : Pure P f ys R) : Pure P f xs R :=
 ⟨hp.1, fun w F vals hF hv => hp.2 w F vals hF (repL_w h hv)⟩
theorem repW_nil : RepW (.prim (.slice none 0 0)) (.sl []) := by
 intro w F η hp v hv
 cases hv; exact .sl0 _
theorem repW_clip (l : List AV) : RepW (.clip l) (.sl l) := fun _ _ _ _ _ h => h.of_clip
theorem HFn.argsW {xs ys : List AV} (h : RepWL xs ys) (hf : HFn P f ys hp R) : HFn P f xs hp R :=
 ⟨hf.1, fun w F η vals hpre hv => hf.2 w F η vals hpre (repL_w h hv)⟩
theorem HFn.res (hf : HFn P f args hp R) (h : ∀ r h', R r h' → ∃ r2, RepW r r2 ∧ R' r2 h') : HFn P f args hp R' :=
 ⟨hf.1, fun w F η vals hpre hv => (hf.2 w F η vals hpre hv).mono fun _ _ ⟨v, r, hp', η', h1, h2, h3⟩ => by
  obtain ⟨r2, g1, g2⟩ := h r hp' h2
  exact ⟨v, r2, hp', η', h1, g2, h3.keeps, h3.ext, h3.heap, h3.mine, g1 _ _ _ _ _ h3.rep⟩⟩
theorem HFn.objs (hf : HFn P f args hp R) (hw : ObjWL hp1 hp) : HFn P f args hp1 R := by
 refine ⟨hf.1, fun w F η vals hpre hv => ?_⟩
 have back : ∀ {r : Nat} {o' : AObj}, hp[r]? = some o' → ∃ o, hp1[r]? = some o ∧ ObjW o o' ∧ (o'.live → o.live) := by
  intro r o' ho
  rcases hw.get r with ⟨h1, h2⟩ | ⟨o1, o2, h1, h2, h3⟩
  ·rw [h2] at ho; cases ho
  ·rw [h2] at ho
   obtain rfl := Option.some.inj ho
   refine ⟨o1, h1, h3, fun hl => ?_⟩
   rcases h3.own with ⟨cs, cs', rfl, rfl, _⟩ | rfl
   ·exact True.intro
   ·exact hl
 have he : Ext w F η hp1 w F η hp := ⟨fun _ _ _ _ h => h, fun _ _ _ _ h => h, fun _ _ h => h, fun _ _ h => h, fun _ _ h => h, fun _ _ _ ho => hw.ownOk ho⟩
 have live : ∀ b, LiveBlk η hp b → LiveBlk η hp1 b := fun b ⟨r, o, v, h1, h2, h3, h4⟩ => by
  obtain ⟨o1, g1, _, g3⟩ := back h1
  exact ⟨r, o1, v, g1, g3 h2, h3, h4⟩
 have hpre2 : HPre w F η hp := by
  refine ⟨fun b o hb => ⟨(hpre.foot b o hb).1, hw.objF (hpre.foot b o hb).2⟩, ⟨by rw [hpre.heap.len]; exact hw.length, fun r o' v h1 h2 => ?_, fun r r' o o' v v' b hne h1 h2 l1 l2 e1 e2 hb => ?_⟩, fun b hb => hpre.live b (live b hb)⟩
  ·obtain ⟨o, g1, g2, _⟩ := back h1
   have hob := hpre.heap.obj r o v g1 h2
   rcases g2.own with ⟨cs, cs', rfl, rfl, hcw⟩ | rfl
   ·obtain ⟨b, vs, T, e1, e2, e3, e4⟩ := hob
    refine ⟨b, vs, T, e1, e2, by rw [e3, hcw.length], fun j x u hx hu => ?_⟩
    obtain ⟨y, hy, hyx⟩ := hcw.get j x hx
    have := e4 j y u hy hu
    exact ⟨hyx _ _ _ _ _ (this.1.ext he), this.2⟩
   ·exact hob.ext he (Nat.le_refl _) fun _ _ _ => rfl
  ·obtain ⟨o1, g1, _, g3⟩ := back h1
   obtain ⟨o2, g4, _, g6⟩ := back h2
   exact hpre.heap.sep r r' o1 o2 v v' b hne g1 g4 (g3 l1) (g6 l2) e1 e2 hb
 refine (hf.2 w F η vals hpre2 (hv.ext he)).mono fun e w' ⟨v, r, hp', η', h1, h2, h3⟩ => ⟨v, r, hp', η', h1, h2, ?_⟩
 have hf2 : ∀ b o, OntoH F w η hp w' η' hp' b o → OntoH F w η hp1 w' η' hp' b o := fun b o h => ⟨h.1.imp id (Or.imp id (live b)), h.2⟩
 have hex : ∀ {η1 : List Value} {hp2 : List AObj}, Ext w' (OntoH F w η hp w' η' hp') η1 hp2 w' (OntoH F w η hp1 w' η' hp') η1 hp2 := ⟨fun _ _ _ _ h => h, fun _ _ _ _ h => h, hf2, fun _ _ h => h, fun _ _ h => h, fun _ _ _ h => h⟩
 exact ⟨⟨h3.keeps.os, h3.keeps.tape, h3.keeps.output, h3.keeps.size, fun k hk hx => h3.keeps.block k hk fun hl => hx (live k hl)⟩, (he.trans h3.ext).trans hex,
  ⟨h3.heap.len, fun r o v g1 g2 => (h3.heap.obj r o v g1 g2).ext hex (Nat.le_refl _) fun _ _ _ => rfl, h3.heap.sep⟩, fun b hb => (h3.mine b hb).imp id (live b), h3.rep.ext hex⟩
end Go.Proofs.YtghlgbhldnkdmaaGreat
