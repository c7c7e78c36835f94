/- Contracts: lists of ints, kinds. -/
import Derived.Test.YtfbncddnakaaiaaP01
import Derived.Test.YtfbncddnakaaiaaVc1
namespace Go.Proofs.Ytfbncddnakaaiaa
open Go
set_option linter.unusedSimpArgs false
set_option linter.unusedVariables false

theorem equalInts_calls {l m : List Int} (hsz : l.length ≤ 1000000000) : PureIs Try.prog 79 [.sl (encInts l), .sl (encInts m)] (nB (likes l m)) := by
  refine vc79_ok (ITE.intro (fun h => ?_) fun h => ?_)
  · have : ¬ l.length = m.length := by simp [encInts_len] at h; omega
    rw [likes_eq, decide_eq_false (fun e => this (by rw [e]))]
  · have hlm : l.length = m.length := by simp [encInts_len] at h; omega
    refine LoopP.intro (fun k : Nat => ((encInts l, encInts m, (l.length : Int), (k : Int), ()), ())) (fun k => k ≤ l.length ∧ l.take k = m.take k) (fun k => l.length - k) 0 (by rw [encInts_len]; rfl) ⟨Nat.zero_le _, rfl⟩ ?_
    intro k ⟨hk, hs⟩ again hag
    dsimp only
    refine ITE.intro (fun h => ?_) fun h => ?_
    · have hlt : k < l.length := by simpa using h
      refine ⟨by omega, by rw [encInts_len]; omega, _, encInts_getD hlt, by omega, by rw [encInts_len]; omega, _, encInts_getD (by omega), ITE.intro (fun h => ?_) fun h => ?_⟩
      · have hne : ¬ l[k] = m[k] := by simpa using h
        rw [likes_eq, decide_eq_false]
        rintro rfl
        exact hne rfl
      · rw [wrap_n (by omega)]
        refine hag (k + 1) ⟨by omega, ?_⟩ (by omega)
        have he : l[k] = m[k] := by simpa using h
        rw [List.take_succ_eq_append_getElem hlt, List.take_succ_eq_append_getElem (by omega), hs, he]
    · have : l.length ≤ k := by simpa using h
      rw [List.take_of_length_le this, List.take_of_length_le (by omega)] at hs
      rw [likes_eq, decide_eq_true hs]

theorem like_calls {l m : List Int} (hsz : l.length ≤ 1000000000) : PureIs Try.prog 23 [.sl (encInts l), .sl (encInts m)] (nB (likes l m)) := by
  refine vc23_ok (ITE.intro (fun h => ?_) fun h => ?_)
  · have : ¬ l.length = m.length := by simp [encInts_len] at h; omega
    rw [likes_eq, decide_eq_false (fun e => this (by rw [e]))]
  · have hlm : l.length = m.length := by simp [encInts_len] at h; omega
    refine LoopP.intro (fun k : Nat => ((encInts l, encInts m, (k : Int), ()), ())) (fun k => k ≤ l.length ∧ l.take k = m.take k) (fun k => l.length - k) 0 rfl ⟨Nat.zero_le _, rfl⟩ ?_
    intro k ⟨hk, hs⟩ again hag
    dsimp only
    rw [encInts_len]
    refine ITE.intro (fun h => ?_) fun h => ?_
    · have hlt : k < l.length := by simpa using h
      refine ⟨by omega, by omega, _, encInts_getD hlt, by omega, by rw [encInts_len]; omega, _, encInts_getD (by omega), ITE.intro (fun h => ?_) fun h => ?_⟩
      · have hne : ¬ l[k] = m[k] := by simpa using h
        rw [likes_eq, decide_eq_false]
        rintro rfl
        exact hne rfl
      · rw [wrap_n (by omega)]
        refine hag (k + 1) ⟨by omega, ?_⟩ (by omega)
        have he : l[k] = m[k] := by simpa using h
        rw [List.take_succ_eq_append_getElem hlt, List.take_succ_eq_append_getElem (by omega), hs, he]
    · have : l.length ≤ k := by simpa using h
      rw [List.take_of_length_le this, List.take_of_length_le (by omega)] at hs
      rw [likes_eq, decide_eq_true hs]

theorem same_calls {l m : List Int} (hsz : l.length ≤ 1000000000) : PureIs Try.prog 22 [.sl (encInts l), .sl (encInts m)] (nB (likes l m)) :=
  vc22_ok ⟨_, equalInts_calls hsz, rfl⟩

theorem clone_calls {l : List Int} (hsz : l.length ≤ 1000000000) : PureIs Try.prog 117 [.sl (encInts l)] (.sl (encInts l)) := by
  refine vc117_ok fun b hb => ITE.intro (fun h => ?_) fun h => ?_
  · have : encInts l = [] := Classical.byContradiction fun hn => by rw [hb hn] at h; cases h
    rw [this]
  · exact ⟨fun _ => rfl, appOk_nil encInts_cells (by simp [encInts_len]; omega) (by decide), rfl, by simp⟩

theorem clip_calls {l : List Int} : PureIs Try.prog 118 [.sl (encInts l)] (.clip (encInts l)) := by
  refine Pure.of_heap (vc118_ok ⟨⟨by omega, by omega, rfl, by omega, encInts_cells⟩, rfl, ?_⟩)
  simp

theorem flex_calls (t : Tm) : PureIs Try.prog 31 [t.enc] (nB (t.kind == 2)) := by
  rw [Tm.enc_eq]; exact vc31_ok rfl

theorem equals_calls {l m : List Ty} (hsz : l.length ≤ 1000000000) (ih : ∀ (k : Nat) (h1 : k < l.length) (h2 : k < m.length), PureIs Try.prog 50 [l[k].enc, m[k].enc] (nB (Ty.same l[k] m[k]))) :
    PureIs Try.prog 97 [.sl (l.map Ty.enc), .sl (m.map Ty.enc), .clo 50 []] (nB (Ty.sames l m)) := by
  refine vc97_ok (ITE.intro (fun h => ?_) fun h => ?_)
  · have : ¬ l.length = m.length := by simp at h; omega
    rw [Ty.sames_len this]
  · have hlm : l.length = m.length := by simp at h; omega
    refine LoopP.intro (fun k : Nat => ((m.map Ty.enc, (), l.map Ty.enc, (l.length : Int), (k : Int), ()), ())) (fun k => k ≤ l.length ∧ Ty.sames l m = Ty.sames (l.drop k) (m.drop k)) (fun k => l.length - k) 0 (by rw [List.length_map]; rfl) ⟨Nat.zero_le _, rfl⟩ ?_
    intro k ⟨hk, hs⟩ again hag
    dsimp only
    rw [List.length_map, List.length_map]
    refine ITE.intro (fun h => ?_) fun h => ?_
    · have hlt : k < l.length := by simpa using h
      rw [Ty.sames_drop hlt (by omega)] at hs
      have hi := ih k hlt (by omega)
      rw [Ty.enc_eq, Ty.enc_eq] at hi
      refine ⟨by omega, by omega, _, _, Ty.enc_getD hlt, by omega, by omega, _, _, Ty.enc_getD (by omega), _, hi, ITE.intro (fun h => ?_) fun h => ?_⟩
      · have : Ty.same l[k] m[k] = false := by simpa using h
        rw [hs, this, Bool.false_and]
      · have he : Ty.same l[k] m[k] = true := by simpa using h
        rw [he, Bool.true_and] at hs
        rw [wrap_n (by omega)]
        exact hag (k + 1) ⟨by omega, hs⟩ (by omega)
    · have : l.length ≤ k := by simpa using h
      rw [List.drop_eq_nil_of_le this, List.drop_eq_nil_of_le (by omega)] at hs
      rw [hs]; rfl

theorem equal_calls : ∀ (n : Nat) (t u : Ty), t.size ≤ n → n ≤ 1000000000 → PureIs Try.prog 50 [t.enc, u.enc] (nB (Ty.same t u)) := by
  intro n
  induction n with
  | zero => intro t u h; have := t.size_pos; omega
  | succ n ih =>
    intro t u h hn
    have hq := Ty.sizes_len t.args
    have hts := t.size_eq
    have he := equals_calls (l := t.args) (m := u.args) (by omega) (fun k h1 h2 => ih _ _ (by have := Ty.arg_size h1; omega) (by omega))
    rw [Ty.enc_eq, Ty.enc_eq, Ty.same_eq]
    refine vc50_ok (ITE.intro (fun h => ?_) fun h => ?_)
    · exact ⟨_, he, by rw [h, Bool.true_and]⟩
    · rw [h, Bool.false_and]

theorem copied_calls : ∀ (n : Nat) (t : Ty), t.size ≤ n → n ≤ 1000000000 → PureIs Try.prog 120 [t.enc] t.enc := by
  intro n
  induction n with
  | zero => intro t h; have := t.size_pos; omega
  | succ n ih =>
    intro t h hn
    have hq := Ty.sizes_len t.args
    have hts := t.size_eq
    rw [Ty.enc_eq]
    refine vc120_ok ⟨rfl, ?_⟩
    refine LoopP.intro (fun k : Nat => (((), (), t.args.map Ty.enc, (t.args.length : Int), (k : Int), ()), ((t.args.map Ty.enc, t.base, ()), ((), 0, ()), ((), t.base, ()), (t.args.take k).map Ty.enc, ())))
      (fun k => k ≤ t.args.length) (fun k => t.args.length - k) 0 (by rw [List.length_map]; rfl) (Nat.zero_le _) ?_
    intro k hk again hag
    dsimp only
    rw [List.length_map]
    refine ITE.intro (fun h => ?_) fun h => ?_
    · have hlt : k < t.args.length := by simpa using h
      have hi := ih t.args[k] (by have := Ty.arg_size hlt; omega) (by omega)
      rw [Ty.enc_eq] at hi
      refine ⟨by omega, by omega, _, _, Ty.enc_getD hlt, _, _, hi, rfl, appOk_one rfl (by simp; omega) (by decide), rfl, ?_⟩
      rw [wrap_n (by omega), Ty.enc_snoc, take_snoc' hlt]
      exact hag (k + 1) (by omega) (by omega)
    · have : t.args.length ≤ k := by simpa using h
      refine ⟨rfl, ?_⟩
      rw [List.take_of_length_le this]

end Go.Proofs.Ytfbncddnakaaiaa
