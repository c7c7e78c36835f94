/- The document's Uses and Linear; PatternUses. -/
import Derived.Test.YtfbncddnakaaiaaP13
namespace Go.Proofs.Ytfbncddnakaaiaa
open Go
set_option linter.unusedSimpArgs false
set_option linter.unusedVariables false

def rusesAV : Option (List Us) → AV
  | some u => .tup [.sl (u.map Us.enc), nB true]
  | none => .tup [.sl [], nB false]

theorem encP_getD {l : List (List Int)} {k : Nat} (h : k < l.length) : List.getD (l.map encP) (Int.toNat (k : Int)) .top = .sl (encInts l[k]) := by rw [getD_map h]; rfl

theorem foldU_len : ∀ {l : List Spot} {acc v : List Us}, foldU l acc = some v → acc.length ≤ v.length
  | [], acc, v, h => by rw [foldU] at h; cases h; exact Nat.le_refl _
  | (x, ar, p) :: r, acc, v, h => by
    rw [foldU] at h
    split at h
    · dsimp only at h
      split at h
      · have := foldU_len h
        rw [List.length_append, List.length_singleton] at this; omega
      · cases h
    · exact foldU_len h

theorem path_len : ∀ (p : List Int) (t x : Tm) (l : List Ty), Tm.at t p = some (x, l) → p.length ≤ t.size
  | [], t, x, l, h => Nat.zero_le _
  | i :: p, t, x, l, h => by
    rw [Tm.at_cons] at h
    split at h
    · split at h
      · rename_i y hy
        have hm := Tm.sizes_mem (List.mem_of_getElem? hy)
        split at h
        · rename_i z l' hz
          have := path_len p y _ _ hz
          have := t.size_eq
          rw [List.length_cons]; omega
        · cases h
      · cases h
    · cases h

theorem rUses_calls {t : Tm} (ht : t.size ≤ 10000) (hk : t.Ok) : PureIs Try.prog 27 [t.enc] (rusesAV (t.uses [] [])) := by
  have hall := All_calls _ t [] (Nat.le_refl _) (by omega) (by simp; omega)
  have hsp : (Tm.spots [] [] t).map (fun s => s.2.2) = Tm.all [] t := Tm.spots_all t [] []
  have hal := Tm.all_len t []
  have hlen : (Tm.spots [] [] t).length = (Tm.all [] t).length := by rw [← hsp, List.length_map]
  have hat : ∀ (k : Nat) (h1 : k < (Tm.spots [] [] t).length) (h2 : k < (Tm.all [] t).length), Tm.at t (Tm.all [] t)[k] = some ((Tm.spots [] [] t)[k].1, (Tm.spots [] [] t)[k].2.1) ∧ (Tm.spots [] [] t)[k].2.2 = (Tm.all [] t)[k] := by
    intro k h1 h2
    have hp : (Tm.spots [] [] t)[k].2.2 = (Tm.all [] t)[k] := by
      have h3 : ((Tm.spots [] [] t).map (fun s => s.2.2))[k]? = (Tm.all [] t)[k]? := by rw [hsp]
      rw [List.getElem?_map, List.getElem?_eq_getElem h1, List.getElem?_eq_getElem h2] at h3
      simpa using h3
    obtain ⟨q, l, h3, h4, h5⟩ := Tm.spots_at t [] [] _ (List.getElem_mem h1)
    rw [List.nil_append] at h3 h5
    rw [← hp, h3, h5]
    exact ⟨h4, rfl⟩
  have hf := uses_fold t
  rw [Tm.enc_eq] at hall ⊢
  refine vc27_ok ⟨_, hall, rfl, ?_⟩
  generalize Tm.spots [] [] t = sp at hsp hlen hat hf
  generalize Tm.all [] t = ps at hall hsp hal hlen hat
  refine LoopP.intro (fun p : Nat × List Us => (((), (), ps.map encP, (p.1 : Int), ()), ((t.binds.map Ty.enc, t.kind, t.index, t.args.map Tm.enc, ()), p.2.map Us.enc, ())))
    (fun p => p.1 ≤ ps.length ∧ p.2.length ≤ p.1 ∧ foldU (sp.drop p.1) p.2 = Tm.uses [] [] t) (fun p => ps.length - p.1) (0, []) rfl ⟨Nat.zero_le _, Nat.le_refl _, hf⟩ ?_
  intro ⟨k, acc⟩ ⟨hkl, hacc, hs⟩ again hag
  dsimp only at hkl hacc hs ⊢
  rw [List.length_map]
  refine ITE.intro (fun h => ?_) fun h => ?_
  · have hlt : k < ps.length := by simpa using h
    have hlt2 : k < sp.length := by omega
    obtain ⟨h1, h2⟩ := hat k hlt2 hlt
    have hatl := Tm.at_len _ _ _ _ h1
    have hpl := path_len _ _ _ _ h1
    have hac := At_calls ps[k] t (by omega) (by omega)
    rw [h1, atAV, Tm.enc_eq, Tm.enc_eq sp[k].1] at hac
    rw [List.drop_eq_getElem_cons hlt2] at hs
    have hs' : foldU ((sp[k].1, sp[k].2.1, sp[k].2.2) :: sp.drop (k + 1)) acc = Tm.uses [] [] t := hs
    rw [foldU, h2] at hs'
    refine ⟨by omega, by omega, _, encP_getD hlt, _, _, _, _, _, _, hac, ITE.intro (fun h => ?_) fun h => ?_⟩
    · have hk2 : ¬ sp[k].1.kind = 2 := by simpa using h
      rw [if_neg hk2] at hs'
      rw [wrap_n (by omega)]
      exact ⟨rfl, hag (k + 1, acc) ⟨by dsimp only; omega, by dsimp only; omega, hs'⟩ (by dsimp only; omega)⟩
    · have hk2 : sp[k].1.kind = 2 := by simpa using h
      rw [if_pos hk2] at hs'
      have hv := rVars_calls (t := sp[k].1) (n := ((sp[k].2.1.length : Nat) : Int)) (by omega) (hatl.2.2 hk)
      rw [Tm.enc_eq, errAV] at hv
      rw [List.length_map]
      refine ⟨_, _, hv, ITE.intro (fun h => ?_) fun h => ?_⟩
      · have he : ¬ (Tm.vars sp[k].1 ((sp[k].2.1.length : Nat) : Int)).2 = 0 := by simpa using h
        dsimp only at hs'
        rw [if_neg he] at hs'
        rw [← hs']; rfl
      · have he : (Tm.vars sp[k].1 ((sp[k].2.1.length : Nat) : Int)).2 = 0 := by simpa using h
        dsimp only at hs'
        rw [if_pos he] at hs'
        refine ⟨by omega, by omega, _, encP_getD hlt, rfl, appOk_one rfl (by rw [List.length_append, List.length_map, List.length_singleton]; omega) (by decide), rfl, ?_⟩
        have hsn : acc.map Us.enc ++ [.agg [nI sp[k].1.index, .sl (encInts (Tm.vars sp[k].1 ((sp[k].2.1.length : Nat) : Int)).1), .sl (sp[k].2.1.map Ty.enc), .sl (encInts ps[k])]] = (acc ++ [(⟨sp[k].1.index, (Tm.vars sp[k].1 ((sp[k].2.1.length : Nat) : Int)).1, sp[k].2.1, ps[k]⟩ : Us)]).map Us.enc := by
          rw [List.map_append]; rfl
        rw [wrap_n (by omega), hsn]
        exact hag (k + 1, acc ++ [⟨sp[k].1.index, (Tm.vars sp[k].1 ((sp[k].2.1.length : Nat) : Int)).1, sp[k].2.1, ps[k]⟩]) ⟨by dsimp only; omega, by dsimp only; rw [List.length_append, List.length_singleton]; omega, hs'⟩ (by dsimp only; omega)
  · have hle : ps.length ≤ k := by simpa using h
    rw [List.drop_eq_nil_of_le (by omega), foldU] at hs
    refine ⟨rfl, ?_⟩
    rw [← hs]; rfl

/-! ### Linear -/

def metasNd (us : List Us) (i : Nat) : Bool := decide (((us.take i).map Us.meta_).Nodup)
theorem metasNd_succ {us : List Us} {i : Nat} (h : i < us.length) : metasNd us (i + 1) = (metasNd us i && !((us.take i).map Us.meta_).contains us[i].meta_) := by
  have hsn : (us.take (i + 1)).map Us.meta_ = (us.take i).map Us.meta_ ++ [us[i].meta_] := by rw [← take_snoc' h, List.map_append]; rfl
  rw [Bool.eq_iff_iff, metasNd, metasNd, hsn]
  simp only [Bool.and_eq_true, decide_eq_true_eq, Bool.not_eq_true', nodup_snoc]
  refine and_congr Iff.rfl ?_
  rw [← Bool.not_eq_true, List.contains_iff_mem]

theorem rLinear_calls {t : Tm} (ht : t.size ≤ 10000) (hk : t.Ok) : PureIs Try.prog 30 [t.enc] (nB (linearU (t.uses [] []))) := by
  have hu := rUses_calls ht hk
  rw [Tm.enc_eq] at hu ⊢
  refine vc30_ok ?_
  unfold vc30
  cases hq : t.uses [] [] with
  | none =>
    rw [hq] at hu
    refine ⟨_, _, hu, ?_⟩
    refine LoopP.intro (fun _ : Unit => (([], false, 0, ()), ((t.binds.map Ty.enc, t.kind, t.index, t.args.map Tm.enc, ()), ()))) (fun _ => True) (fun _ => 0) () rfl True.intro ?_
    intro _ _ again hag
    exact ITE.neg rfl rfl
  | some us =>
    rw [hq] at hu
    have hul := Tm.uses_len hq
    refine ⟨_, _, hu, ?_⟩
    refine LoopP.intro (fun i : Nat => ((us.map Us.enc, metasNd us i, (i : Int), ()), ((t.binds.map Ty.enc, t.kind, t.index, t.args.map Tm.enc, ()), ()))) (fun i => i ≤ us.length) (fun i => us.length - i) 0 rfl (Nat.zero_le _) ?_
    intro i hi again hag
    dsimp only
    rw [List.length_map]
    refine ITE.intro (fun h => ?_) fun h => ?_
    · have hlt : i < us.length := by simpa using h
      refine LoopP.intro (fun k : Nat => ((us.map Us.enc, (metasNd us i && !((us.take k).map Us.meta_).contains us[i].meta_), (i : Int), (k : Int), ()), ((t.binds.map Ty.enc, t.kind, t.index, t.args.map Tm.enc, ()), ()))) (fun k => k ≤ i) (fun k => i - k) 0
        (by simp) (Nat.zero_le _) ?_
      intro k hki again2 hag2
      dsimp only
      refine ITE.intro (fun h => ?_) fun h => ?_
      · have hlk : k < i := by simpa using h
        have hlk2 : k < us.length := by omega
        have hsn : ((us.take (k + 1)).map Us.meta_).contains us[i].meta_ = (((us.take k).map Us.meta_).contains us[i].meta_ || (us[i].meta_ == us[k].meta_)) := by
          rw [← take_snoc' hlk2, List.map_append, Bool.eq_iff_iff]
          simp only [List.contains_iff_mem, Bool.or_eq_true, List.mem_append, List.map_cons, List.map_nil, List.mem_singleton, beq_iff_eq]
        refine ITE.intro (fun hb => ?_) fun hb => ?_
        · refine ⟨by omega, by rw [List.length_map]; omega, _, _, _, _, Us.enc_getD hlt, by omega, by rw [List.length_map]; omega, _, _, _, _, Us.enc_getD hlk2, ?_⟩
          have hg := hag2 (k + 1) (by omega) (by omega)
          rw [Bool.and_eq_true] at hb
          rw [hsn, hb.1, Bool.true_and, show ((us.take k).map Us.meta_).contains us[i].meta_ = false by simpa using hb.2, Bool.false_or] at hg
          rw [wrap_n (by omega)]
          exact hg
        · have hg := hag2 (k + 1) (by omega) (by omega)
          have hfalse : (metasNd us i && !((us.take (k + 1)).map Us.meta_).contains us[i].meta_) = false := by
            rw [hsn]
            cases h1 : metasNd us i <;> cases h2 : ((us.take k).map Us.meta_).contains us[i].meta_ <;> simp_all
          rw [hfalse] at hg
          rw [wrap_n (by omega)]
          exact hg
      · have hle : k = i := by have : ¬ k < i := by simpa using h
                               omega
        subst hle
        have hg := hag (k + 1) (by omega) (by omega)
        rw [metasNd_succ hlt] at hg
        rw [wrap_n (by omega)]
        exact hg
    · have hle : us.length ≤ i := by simpa using h
      rw [metasNd, List.take_of_length_le hle]; rfl

/-! ### same -/

theorem lawsame_calls {l m : List Ty} (hl : Ty.sizes l ≤ 1000000000) : PureIs Try.prog 32 [.sl (l.map Ty.enc), .sl (m.map Ty.enc)] (nB (Ty.sames l m)) := by
  have hq := Ty.sizes_len l
  refine vc32_ok ⟨_, tysOf_calls hl, ITE.intro (fun h => ?_) fun h => ?_⟩
  · rw [Ty.sames_len (by simp at h; omega)]
  · have hlm : l.length = m.length := by simp at h; omega
    refine LoopP.intro (fun k : Nat => ((m.map Ty.enc, l.map Ty.enc, (k : Int), ()), ())) (fun k => k ≤ l.length ∧ Ty.sames l m = Ty.sames (l.drop k) (m.drop k)) (fun k => l.length - k) 0 rfl ⟨Nat.zero_le _, rfl⟩ ?_
    intro k ⟨hk, hs⟩ again hag
    dsimp only
    rw [List.length_map, List.length_map]
    refine ITE.intro (fun h => ?_) fun h => ?_
    · have hlt : k < l.length := by simpa using h
      rw [Ty.sames_drop hlt (by omega)] at hs
      have hi := rsame_calls _ l[k] (m[k]'(by omega)) (Nat.le_refl _) (by have := Ty.sizes_mem (List.getElem_mem hlt); omega)
      rw [Ty.enc_eq, Ty.enc_eq] at hi
      refine ⟨by omega, by omega, _, _, Ty.enc_getD hlt, by omega, by omega, _, _, Ty.enc_getD (by omega), _, hi, ITE.intro (fun h => ?_) fun h => ?_⟩
      · have : Ty.same l[k] m[k] = false := by simpa using h
        rw [hs, this, Bool.false_and]
      · have he : Ty.same l[k] m[k] = true := by simpa using h
        rw [he, Bool.true_and] at hs
        rw [wrap_n (by omega)]
        exact hag (k + 1) ⟨by omega, hs⟩ (by omega)
    · have : l.length ≤ k := by simpa using h
      rw [List.drop_eq_nil_of_le this, List.drop_eq_nil_of_le (by omega)] at hs
      rw [hs]; rfl

/-! ### What a use holds is small -/

theorem at_binds : ∀ (q : List Int) (t x : Tm) (l : List Ty), Tm.at t q = some (x, l) → Ty.sizes l ≤ t.size
  | [], t, x, l, h => by
    rw [Tm.at_nil] at h
    cases h
    have := t.size_eq; omega
  | i :: q, t, x, l, h => by
    rw [Tm.at_cons] at h
    split at h
    · split at h
      · rename_i y hy
        have hm := Tm.sizes_mem (List.mem_of_getElem? hy)
        split at h
        · rename_i z l' hz
          cases h
          have := at_binds q y _ _ hz
          have := t.size_eq
          rw [Ty.sizes_append]; omega
        · cases h
      · cases h
    · cases h

theorem uses_small {t : Tm} {us : List Us} (h : Tm.uses [] [] t = some us) : ∀ u ∈ us, Ty.sizes u.binds ≤ t.size ∧ u.vars.length ≤ t.size ∧ u.path.length ≤ t.size := by
  have key : ∀ (sp : List Spot) (acc v : List Us), foldU sp acc = some v → (∀ s ∈ sp, Ty.sizes s.2.1 ≤ t.size ∧ s.1.size ≤ t.size ∧ s.2.2.length ≤ t.size) →
      (∀ u ∈ acc, Ty.sizes u.binds ≤ t.size ∧ u.vars.length ≤ t.size ∧ u.path.length ≤ t.size) → ∀ u ∈ v, Ty.sizes u.binds ≤ t.size ∧ u.vars.length ≤ t.size ∧ u.path.length ≤ t.size := by
    intro sp
    induction sp with
    | nil => intro acc v h _ ha; rw [foldU] at h; cases h; exact ha
    | cons s sp ih =>
      obtain ⟨x, ar, p⟩ := s
      intro acc v h hs ha
      rw [foldU] at h
      have hs0 := hs _ List.mem_cons_self
      split at h
      · rename_i hk2
        dsimp only at h
        split at h
        · rename_i he
          refine ih _ _ h (fun s hs' => hs s (List.mem_cons_of_mem _ hs')) fun u hu => ?_
          rcases List.mem_append.1 hu with h1 | h1
          · exact ha u h1
          · obtain rfl := List.mem_singleton.1 h1
            refine ⟨hs0.1, ?_, hs0.2.2⟩
            dsimp only
            rw [Tm.vars, if_pos ⟨hk2, by omega⟩]
            have := x.size_eq
            have := Tm.sizes_len x.args
            have := hs0.2.1
            split
            · rename_i v hv
              have := varsFrom_len hv
              dsimp only at *
              simp at this; omega
            · simp
        · cases h
      · exact ih _ _ h (fun s hs' => hs s (List.mem_cons_of_mem _ hs')) ha
  have hf := uses_fold t
  rw [h] at hf
  refine key _ _ _ hf (fun s hs => ?_) (fun u hu => by cases hu)
  obtain ⟨q, l, h1, h2, h3⟩ := Tm.spots_at t [] [] s hs
  rw [List.nil_append] at h1 h3
  have hpl := path_len _ _ _ _ h2
  have hal := Tm.at_len _ _ _ _ h2
  exact ⟨by rw [h3]; exact at_binds _ _ _ _ h2, hal.2.1, by rw [h1]; exact hpl⟩

/-! ### PatternUses -/

theorem PatternUses_calls {t : Tm} {n : Int} (hk : t.Ok) : PureIs Try.prog 5 [t.enc, nI n] (nB true) := by
  have he := Tm.enc_eq t
  have hfew := few_calls (l := [t]) (by simp)
  rw [List.map_cons, List.map_nil, he] at hfew
  rw [he]
  refine vc5_ok ⟨_, hfew, ITE.intro (fun h => ⟨_, known_calls, rfl⟩) fun h => ?_⟩
  have hsz : t.size ≤ 150 := Tm.fewB_size (d := 70) (by simpa using h)
  have hto := tmTo_calls _ t (Nat.le_refl _) (by omega)
  have hvr := vars_calls (t := t) (n := n) (by omega)
  have hrv := rVars_calls (t := t) (n := n) (by omega) hk
  have hus := Uses_calls (t := t) (by omega)
  have hru := rUses_calls (t := t) (by omega) hk
  have his := Is_calls (t := t) (by omega)
  have hli := Linear_calls (t := t) (by omega)
  have hrl := rLinear_calls (t := t) (by omega) hk
  have hfl := flex_calls t
  have hof := tmOf_calls _ t (Nat.le_refl _) (by omega)
  have hsame := tsame_calls _ t t (Nat.le_refl _) (by omega)
  rw [Tm.same_self] at hsame
  have hvl : (t.vars n).1.length ≤ 150 := by
    have := t.size_eq
    have := Tm.sizes_len t.args
    rw [Tm.vars]
    split
    · split
      · rename_i v hv
        have := varsFrom_len hv
        dsimp only
        simp at this; omega
      · simp
    · simp
  have hps := same_calls (l := (t.vars n).1) (m := (t.vars n).1) (by omega)
  have hpt : likes (t.vars n).1 (t.vars n).1 = true := by rw [likes_eq]; simp
  rw [hpt] at hps
  rw [he] at hto hvr hrv hus hru his hli hrl hfl hof hsame
  rw [errAV] at hvr hrv
  cases hq : t.uses [] [] with
  | none =>
    rw [hq] at hus hru his hli hrl
    simp only [usesAV, rusesAV, Option.isSome_none] at hus hru his hli hrl
    refine ⟨_, _, _, _, hto, _, _, hvr, _, _, hrv, _, _, hus, _, _, hru, _, known_calls, ITE.neg rfl (ITE.neg (by simp) ⟨_, hps, ITE.neg rfl (ITE.neg rfl (ITE.pos rfl (ITE.neg rfl ⟨_, his, ITE.neg rfl ⟨_, hli, _, hrl, ITE.neg rfl ⟨_, hfl, ITE.neg (by simp) (ITE.neg rfl ?_)⟩⟩⟩)))⟩)⟩
    refine LoopP.intro (fun _ : Unit => (((), (), [], [], 0, ()), ((t.binds.map Ty.enc, t.kind, t.index, t.args.map Tm.enc, ()), (t.binds.map Ty.enc, t.kind, t.index, t.args.map Tm.enc, ()), ()))) (fun _ => True) (fun _ => 0) () rfl True.intro ?_
    intro _ _ again hag
    exact ITE.neg rfl ⟨_, _, _, _, hof, _, hsame, rfl⟩
  | some us =>
    have hsm := uses_small hq
    have hul := Tm.uses_len hq
    rw [hq] at hus hru his hli hrl
    simp only [usesAV, rusesAV, Option.isSome_some] at hus hru his hli hrl
    refine ⟨_, _, _, _, hto, _, _, hvr, _, _, hrv, _, _, hus, _, _, hru, _, known_calls, ITE.neg rfl (ITE.neg (by simp) ⟨_, hps, ITE.neg rfl (ITE.neg rfl (ITE.neg rfl ⟨_, his, ITE.neg rfl ⟨_, hli, _, hrl, ITE.neg (by simp) ⟨_, hfl, ITE.neg (by simp) (ITE.neg (by simp) ?_)⟩⟩⟩))⟩)⟩
    refine LoopP.intro (fun k : Nat => (((), (), us.map Us.enc, us.map Us.enc, (k : Int), ()), ((t.binds.map Ty.enc, t.kind, t.index, t.args.map Tm.enc, ()), (t.binds.map Ty.enc, t.kind, t.index, t.args.map Tm.enc, ()), ()))) (fun k => k ≤ us.length) (fun k => us.length - k) 0 rfl (Nat.zero_le _) ?_
    intro k hkl again hag
    dsimp only
    rw [List.length_map]
    refine ITE.intro (fun h => ?_) fun h => ⟨_, _, _, _, hof, _, hsame, rfl⟩
    have hlt : k < us.length := by simpa using h
    have hs := hsm us[k] (List.getElem_mem hlt)
    have hl1 := like_calls (l := us[k].vars) (m := us[k].vars) (by omega)
    have hl2 := like_calls (l := us[k].path) (m := us[k].path) (by omega)
    have hl3 := lawsame_calls (l := us[k].binds) (m := us[k].binds) (by omega)
    rw [likes_eq, decide_eq_true rfl] at hl1 hl2
    rw [(Ty.sames_iff _ _).2 rfl] at hl3
    have hget := Us.enc_getD hlt
    have h0 : (0 : Int) ≤ (k : Int) := by omega
    have hin : (k : Int) < (us.length : Int) := by omega
    refine ⟨h0, hin, _, _, _, _, hget, h0, hin, _, _, _, _, hget, ITE.neg (by simp) ⟨h0, hin, _, _, _, _, hget, h0, hin, _, _, _, _, hget, _, hl1, ITE.neg rfl ⟨h0, hin, _, _, _, _, hget, h0, hin, _, _, _, _, hget, _, hl2, ITE.neg rfl ⟨h0, hin, _, _, _, _, hget, h0, hin, _, _, _, _, hget, _, hl3, ITE.neg rfl ?_⟩⟩⟩⟩
    rw [wrap_n (by omega)]
    exact hag (k + 1) (by omega) (by omega)

end Go.Proofs.Ytfbncddnakaaiaa
