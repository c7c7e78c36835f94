/- Contracts: pattern.Vars, uses, Uses, Is; Take. -/
import Derived.Test.YtfbncddnakaaiaaP05
namespace Go.Proofs.Ytfbncddnakaaiaa
open Go
set_option linter.unusedSimpArgs false
set_option linter.unusedVariables false

/-! ### Vars -/

def varsFrom (n : Int) : List Int → List Tm → Option (List Int)
  | acc, [] => some acc
  | acc, a :: l => match a.var with
    | some (k, i) => if k = 0 ∧ i < n ∧ ¬ i ∈ acc then varsFrom n (acc ++ [i]) l else none
    | none => none
def Tm.vars (t : Tm) (n : Int) : List Int × Int :=
  if t.kind = 2 ∧ 0 ≤ n then (match varsFrom n [] t.args with
    | some l => (l, 0)
    | none => ([], 6)) else ([], 1)
def errAV (p : List Int × Int) : AV := .tup [.sl (encInts p.1), nI p.2]

def IsSeen (es : List (Int × Value)) (l : List Int) : Prop := ∀ i, mapGet es i = if i ∈ l then some (.bool true) else none
theorem IsSeen.put {es : List (Int × Value)} {l : List Int} {i : Int} (h : IsSeen es l) (hi : ¬ i ∈ l) : IsSeen (mapPut es i (.bool true)) (l ++ [i]) := by
  intro j
  have hn : mapGet es i = none := by rw [h i, if_neg hi]
  rw [mapGet_snoc hn, h j]
  by_cases h1 : j = i
  · subst h1; simp
  · simp [h1]

theorem varsFrom_len {n : Int} : ∀ {l : List Tm} {acc v : List Int}, varsFrom n acc l = some v → v.length = acc.length + l.length
  | [], acc, v, h => by simp [varsFrom] at h; rw [h]; simp
  | a :: l, acc, v, h => by
    simp only [varsFrom] at h
    split at h
    · split at h
      · have := varsFrom_len h; simp at this ⊢; omega
      · cases h
    · cases h

theorem vars_calls {t : Tm} {n : Int} (h : t.size ≤ 1000000000) : PureIs Try.prog 24 [t.enc, nI n] (errAV (t.vars n)) := by
  have hla := Tm.sizes_len t.args
  have hs := t.size_eq
  have hfc := flex_calls t
  rw [Tm.enc_eq] at hfc ⊢
  refine vc24_ok ⟨_, hfc, ITE.intro (fun h => ?_) fun h => ?_⟩
  · have : ¬ t.kind = 2 := by simpa using h
    rw [Tm.vars, if_neg (fun h => this h.1)]; rfl
  have hk : t.kind = 2 := by simpa using h
  refine ITE.intro (fun h => ?_) fun h => ⟨rfl, ?_⟩
  · have : n < 0 := by simpa using h
    rw [Tm.vars, if_neg (fun h => by omega)]; rfl
  have hn : 0 ≤ n := by simpa using h
  rw [Tm.vars, if_pos ⟨hk, hn⟩]
  unfold vc24_L6
  refine LoopP.intro (fun p : Nat × List Int × List (Int × Value) => ((n, (), (), t.args.map Tm.enc, (t.args.length : Int), (p.1 : Int), ()), ((t.binds.map Ty.enc, t.kind, t.index, t.args.map Tm.enc, ()), p.2.2, encInts p.2.1, ())))
    (fun p => p.1 ≤ t.args.length ∧ p.2.1.length = p.1 ∧ IsSeen p.2.2 p.2.1 ∧ varsFrom n [] t.args = varsFrom n p.2.1 (t.args.drop p.1)) (fun p => t.args.length - p.1) (0, [], []) (by rw [List.length_map]; rfl) ⟨Nat.zero_le _, rfl, fun i => rfl, rfl⟩ ?_
  intro ⟨k, acc, es⟩ ⟨hk1, hl, hse, hv⟩ again hag
  dsimp only at hk1 hl hse hv ⊢
  refine ITE.intro (fun h => ?_) fun h => ?_
  · have hlt : k < t.args.length := by simpa using h
    rw [List.drop_eq_getElem_cons hlt, varsFrom] at hv
    have hz := Tm.arg_size hlt
    have hc := var_calls _ t.args[k] (Nat.le_refl _) (by omega)
    rw [Tm.enc_eq] at hc
    refine ⟨by omega, by rw [List.length_map]; omega, _, _, _, _, Tm.enc_getD hlt, ?_⟩
    cases hvar : t.args[k].var with
    | none =>
      rw [hvar] at hc hv
      dsimp only at hv
      refine ⟨_, _, _, hc, ITE.pos rfl ?_⟩
      rw [hv]; rfl
    | some p =>
      obtain ⟨q, i⟩ := p
      rw [hvar] at hc hv
      dsimp only at hv
      refine ⟨_, _, _, hc, ITE.neg rfl ?_⟩
      refine ITE.intro (fun h => ?_) fun h => ?_
      · have : ¬ q = 0 := by simpa using h
        rw [hv, if_neg (fun h => this h.1)]; rfl
      have hq : q = 0 := by simpa using h
      refine ITE.intro (fun h => ?_) fun h => ?_
      · have : n ≤ i := by simpa using h
        rw [hv, if_neg (fun h => by omega)]; rfl
      have hi : i < n := by simpa using h
      have hg := hse i
      by_cases hm : i ∈ acc
      · rw [if_pos hm] at hg
        rw [hg]
        refine ⟨rfl, ITE.pos rfl ?_⟩
        rw [hv, if_neg (fun h => h.2.2 hm)]; rfl
      · rw [if_neg hm] at hg
        rw [hg]
        refine ⟨rfl, ITE.neg rfl ⟨rfl, appOk_one rfl (by simp [encInts_len]; omega) (by decide), rfl, ?_⟩⟩
        rw [if_pos ⟨hq, hi, hm⟩] at hv
        rw [wrap_n (by omega), encInts_snoc]
        exact hag (k + 1, acc ++ [i], mapPut es i (.bool true)) ⟨by simp only; omega, by simp [hl], hse.put hm, hv⟩ (by simp only; omega)
  · have : t.args.length ≤ k := by simpa using h
    rw [List.drop_eq_nil_of_le this, varsFrom] at hv
    refine ⟨rfl, ?_⟩
    rw [hv]; rfl

/-! ### uses -/

structure Us where
  meta_ : Int
  vars : List Int
  binds : List Ty
  path : List Int
def Us.enc (u : Us) : AV := .agg [nI u.meta_, .sl (encInts u.vars), .sl (u.binds.map Ty.enc), .sl (encInts u.path)]
theorem Us.enc_cells {l : List Us} : ∀ x : AV, x ∈ l.map Us.enc → x.cells.length = 4 := by
  intro x h
  obtain ⟨t, _, rfl⟩ := List.mem_map.1 h
  rfl

mutual
def Tm.uses (around : List Ty) (path : List Int) : Tm → Option (List Us)
  | .mk b k i a => if k = 2 then (match Tm.vars (.mk b k i a) (around ++ b).length with
    | (v, e) => if e = 0 then some [⟨i, v, around ++ b, path⟩] else none) else Tm.usess (around ++ b) path 0 a
def Tm.usess (around : List Ty) (path : List Int) (n : Nat) : List Tm → Option (List Us)
  | [] => some []
  | t :: l => (match Tm.uses around (path ++ [(n : Int)]) t with
    | some u => (match Tm.usess around path (n + 1) l with
      | some us => some (u ++ us)
      | none => none)
    | none => none)
end
theorem Tm.uses_eq (around : List Ty) (path : List Int) (t : Tm) : Tm.uses around path t = if t.kind = 2 then (match t.vars (around ++ t.binds).length with
    | (v, e) => if e = 0 then some [⟨t.index, v, around ++ t.binds, path⟩] else none) else Tm.usess (around ++ t.binds) path 0 t.args := by
  cases t; rw [Tm.uses]; rfl
theorem Tm.usess_drop {around : List Ty} {path : List Int} {l : List Tm} {k : Nat} (h : k < l.length) : Tm.usess around path k (l.drop k) = (match Tm.uses around (path ++ [(k : Int)]) l[k] with
    | some u => (match Tm.usess around path (k + 1) (l.drop (k + 1)) with
      | some us => some (u ++ us)
      | none => none)
    | none => none) := by
  rw [List.drop_eq_getElem_cons h, Tm.usess]

mutual
theorem Tm.uses_len : ∀ {t : Tm} {around : List Ty} {path : List Int} {u : List Us}, Tm.uses around path t = some u → u.length ≤ t.size
  | .mk b k i a, around, path, u, h => by
    rw [Tm.uses] at h
    split at h
    · dsimp only at h
      split at h
      · cases h; simp [Tm.size]; omega
      · cases h
    · have := Tm.usess_len h; simp [Tm.size]; omega
theorem Tm.usess_len : ∀ {l : List Tm} {around : List Ty} {path : List Int} {n : Nat} {u : List Us}, Tm.usess around path n l = some u → u.length ≤ Tm.sizes l
  | [], _, _, _, u, h => by rw [Tm.usess] at h; cases h; simp
  | t :: l, around, path, n, u, h => by
    rw [Tm.usess] at h
    split at h
    · rename_i u1 h1
      split at h
      · rename_i u2 h2
        cases h
        have := Tm.uses_len h1
        have := Tm.usess_len h2
        simp [Tm.sizes]; omega
      · cases h
    · cases h
end

theorem Tm.vars_err {t : Tm} {n : Int} (hk : t.kind = 2) (hn : 0 ≤ n) : (t.vars n).2 = 0 ∨ t.vars n = ([], 6) := by
  rw [Tm.vars, if_pos ⟨hk, hn⟩]
  split
  · exact .inl rfl
  · exact .inr rfl

theorem uses_calls : ∀ (d : Nat) (t : Tm) (us : List Us) (around : List Ty) (path : List Int), t.size ≤ d → d ≤ 100000000 → us.length + t.size ≤ 200000000 → Ty.sizes around + t.size ≤ 200000000 → path.length + t.size ≤ 200000000 →
    HFn Try.prog 83 [.own 0 (us.map Us.enc).length, t.enc, .sl (around.map Ty.enc), .sl (encInts path)] [.row 63 4 (us.map Us.enc)]
      (fun r h => (∃ u, Tm.uses around path t = some u ∧ r = .tup [.own 0 ((us ++ u).map Us.enc).length, nI 0] ∧ h = [.row 63 4 ((us ++ u).map Us.enc)]) ∨ (Tm.uses around path t = none ∧ ∃ l, r = .tup [.prim (.slice none 0 0), nI 6] ∧ h = [.row 63 4 l])) := by
  intro d
  induction d with
  | zero => intro t us around path h; have := t.size_pos; omega
  | succ d ih =>
    intro t us around path hd hd2 h1 h2 h3
    have hla := Tm.sizes_len t.args
    have hlb := Ty.sizes_len t.binds
    have hlc := Ty.sizes_len around
    have hs := t.size_eq
    have hcc := concat_calls (ll := [around, t.binds]) (by simp) (by simp; omega)
    simp only [encRows, List.map_cons, List.map_nil, List.flatten_cons, List.flatten_nil, List.append_nil] at hcc
    have hfc := flex_calls t
    have hvc := vars_calls (t := t) (n := ((around ++ t.binds).length : Nat)) (by omega)
    have harr := arrow_calls (t := .mk [] 0) (l := around ++ t.binds) (by simp [Ty.size, Ty.sizes, Ty.sizes_append]; omega)
    rw [Ty.arrow, Ty.args_mk, Ty.base_mk, List.append_nil, Ty.enc_mk, Ty.enc_mk, List.map_nil] at harr
    rw [Tm.enc_eq] at hfc hvc ⊢
    refine vc83_ok ⟨_, hcc, _, hfc, ITE.intro (fun h => ?_) fun h => ⟨rfl, ?_⟩⟩
    · have hk : t.kind = 2 := by simpa using h
      rw [Tm.uses_eq, if_pos hk, List.length_map]
      refine ⟨_, _, hvc, ?_⟩
      rcases Tm.vars_err hk (show (0 : Int) ≤ (((around ++ t.binds).length : Nat) : Int) by omega) with h0 | h0
      · dsimp only
        rw [h0]
        refine ITE.neg rfl ⟨_, _, harr, _, clone_calls (by omega), rfl, appOk_one rfl (by simp; omega) (by decide), .inl ⟨_, if_pos rfl, ?_⟩⟩
        simp [Us.enc]
      · rw [h0]
        exact ITE.pos rfl (.inr ⟨by simp, _, rfl, rfl⟩)
    · have hk : ¬ t.kind = 2 := by simpa using h
      rw [Tm.uses_eq, if_neg hk]
      unfold vc83_L8
      refine LoopP.intro (fun p : Nat × List Us => (((), (around ++ t.binds).map Ty.enc, encInts path, t.args.map Tm.enc, (t.args.length : Int), (p.1 : Int), ()), ((us ++ p.2).map Us.enc, (t.binds.map Ty.enc, t.kind, t.index, t.args.map Tm.enc, ()), ())))
        (fun p => p.1 ≤ t.args.length ∧ p.2.length ≤ Tm.sizes (t.args.take p.1) ∧ Tm.usess (around ++ t.binds) path 0 t.args = (match Tm.usess (around ++ t.binds) path p.1 (t.args.drop p.1) with | some u => some (p.2 ++ u) | none => none)) (fun p => t.args.length - p.1) (0, []) (by rw [List.length_map]; simp) ⟨Nat.zero_le _, by simp, by simp only [List.drop_zero, List.nil_append]; split <;> simp_all⟩ ?_
      intro ⟨k, u0⟩ ⟨hk1, hl, hv⟩ again hag
      dsimp only at hk1 hl hv ⊢
      refine ITE.intro (fun h => ?_) fun h => ?_
      · have hlt : k < t.args.length := by simpa using h
        have hz := Tm.arg_size hlt
        have hsz : Tm.sizes (t.args.take k) + t.args[k].size ≤ Tm.sizes t.args := by
          have e : t.args = t.args.take k ++ t.args[k] :: t.args.drop (k + 1) := by rw [← List.drop_eq_getElem_cons hlt, List.take_append_drop]
          have e2 : Tm.sizes t.args = Tm.sizes (t.args.take k ++ t.args[k] :: t.args.drop (k + 1)) := by rw [← e]
          rw [e2, Tm.sizes_append, Tm.sizes]; omega
        have htk : Tm.sizes (t.args.take (k + 1)) = Tm.sizes (t.args.take k) + t.args[k].size := by
          rw [List.take_succ_eq_append_getElem hlt, Tm.sizes_append]; simp [Tm.sizes]
        rw [Tm.usess_drop hlt] at hv
        have hi := ih t.args[k] (us ++ u0) (around ++ t.binds) (path ++ [(k : Int)]) (by omega) (by omega) (by simp; omega) (by rw [Ty.sizes_append]; omega) (by simp; omega)
        rw [Tm.enc_eq] at hi
        refine ⟨by omega, by rw [List.length_map]; omega, _, _, _, _, Tm.enc_getD hlt, _, clip_calls, fun h => by simp at h, ?_⟩
        rw [encInts_snoc]
        refine ⟨appOk_mk encInts_cells (fun x hx => by rw [List.mem_singleton.1 hx]; rfl) (by rw [encInts_len]; simp; omega) (by decide), rfl, _, hi, ?_⟩
        rintro r q (⟨u, hu, rfl, rfl⟩ | ⟨hu, l, rfl, rfl⟩)
        · left
          refine ⟨_, ⟨rfl, rfl⟩, rfl, ?_⟩
          have hul := Tm.uses_len hu
          rw [hu] at hv
          rw [wrap_n (by omega), List.append_assoc]
          refine hag (k + 1, u0 ++ u) ⟨by simp only; omega, by simp; omega, ?_⟩ (by simp only; omega)
          rw [hv]
          dsimp only
          cases Tm.usess (around ++ t.binds) path (k + 1) (t.args.drop (k + 1)) with
          | none => rfl
          | some v => simp
        · right
          rw [hu] at hv
          exact ⟨_, ⟨rfl, rfl⟩, .inr ⟨hv, _, rfl, rfl⟩⟩
      · have : t.args.length ≤ k := by simpa using h
        rw [List.drop_eq_nil_of_le this, Tm.usess] at hv
        left
        refine ⟨u0, by rw [hv]; simp, rfl, rfl⟩

def usesAV : Option (List Us) → AV
  | some u => .tup [.sl (u.map Us.enc), nI 0]
  | none => .tup [.sl [], nI 6]

theorem Uses_calls {t : Tm} (h : t.size ≤ 100000000) : PureIs Try.prog 26 [t.enc] (usesAV (t.uses [] [])) := by
  have hu := uses_calls _ t [] [] [] (Nat.le_refl _) h (by simp; omega) (by simp [Ty.sizes]; omega) (by simp; omega)
  have hn := Pure.of_nil (by decide) hu (by rw [Tm.enc_eq]; rfl)
  have hn2 : Pure Try.prog 83 [.prim (.slice none 0 0), t.enc, .prim (.slice none 0 0), .prim (.slice none 0 0)] (fun x => x = usesAV (t.uses [] [])) := by
    refine Pure.argsW (ys := [.prim (.slice none 0 0), t.enc, .sl [], .sl []]) ⟨RepW.refl _, RepW.refl _, repW_nil, repW_nil, True.intro⟩ (hn.mono ?_)
    rintro x ⟨r, hp', (⟨u, e1, rfl, rfl⟩ | ⟨e1, l, rfl, rfl⟩), rfl⟩
    · rw [e1]; simp [usesAV, AV.toData, AV.dataV, AV.dataC, AV.asSl]
    · rw [e1]; simp [usesAV, AV.toData, AV.dataV, AV.dataC]
  rw [Tm.enc_eq] at hn2 ⊢
  refine vc26_ok ⟨_, hn2, ?_⟩
  rintro r rfl
  cases t.uses [] [] with
  | none => exact ⟨_, _, rfl, rfl⟩
  | some u => exact ⟨_, _, rfl, rfl⟩

theorem Is_calls {t : Tm} (h : t.size ≤ 100000000) : PureIs Try.prog 28 [t.enc] (nB (t.uses [] []).isSome) := by
  have hu := Uses_calls h
  rw [Tm.enc_eq] at hu ⊢
  refine vc28_ok ?_
  cases hq : t.uses [] [] with
  | none => rw [hq] at hu; exact ⟨_, _, hu, rfl⟩
  | some u => rw [hq] at hu; exact ⟨_, _, hu, rfl⟩

end Go.Proofs.Ytfbncddnakaaiaa
