/- Long forms of heads, of the program and of the document; the document's Var is the program's. -/
import Derived.Test.YtfbncddnakaaiaaP10
namespace Go.Proofs.Ytfbncddnakaaiaa
open Go
set_option linter.unusedSimpArgs false
set_option linter.unusedVariables false

mutual
def etaT : Int → Int → Ty → Tm
  | k, i, .mk l _ => .mk l k (if k = 0 then IntKind.wrap .i64 (i + (l.length : Nat)) else i) (etaTs l.length 0 l)
def etaTs (n : Nat) : Nat → List Ty → List Tm
  | _, [] => []
  | j, t :: r => etaT 0 ((n : Int) - 1 - j) t :: etaTs n (j + 1) r
end
theorem etaT_eq (k i : Int) (t : Ty) : etaT k i t = .mk t.args k (if k = 0 then IntKind.wrap .i64 (i + (t.args.length : Nat)) else i) (etaTs t.args.length 0 t.args) := by cases t; rw [etaT]; rfl
theorem etaTs_len (n : Nat) : ∀ (l : List Ty) (j : Nat), (etaTs n j l).length = l.length
  | [], _ => rfl
  | t :: l, j => by rw [etaTs, List.length_cons, List.length_cons, etaTs_len n l]
theorem etaTs_get (n : Nat) : ∀ (l : List Ty) (j k : Nat) (h : k < l.length), (etaTs n j l)[k]? = some (etaT 0 ((n : Int) - 1 - (j + k : Nat)) l[k])
  | t :: l, j, 0, _ => by rw [etaTs]; rfl
  | t :: l, j, k + 1, h => by
    rw [etaTs, List.getElem?_cons_succ, etaTs_get n l (j + 1) k (by simpa using h), List.getElem_cons_succ, show j + 1 + k = j + (k + 1) by omega]
theorem etaTs_take {n : Nat} {l : List Ty} {k : Nat} (h : k < l.length) : (etaTs n 0 l).take (k + 1) = (etaTs n 0 l).take k ++ [etaT 0 ((n : Int) - 1 - (k : Nat)) l[k]] := by
  have hk : k < (etaTs n 0 l).length := by rw [etaTs_len]; exact h
  have hg := etaTs_get n l 0 k h
  rw [List.getElem?_eq_getElem hk, Nat.zero_add] at hg
  rw [← take_snoc' hk, Option.some.inj hg]

mutual
theorem etaT_size : ∀ (t : Ty) (k i : Int), (etaT k i t).size ≤ t.size * t.size
  | .mk l b, k, i => by
    rw [etaT, Tm.size, Ty.size]
    have h := etaTs_size l l.length 0
    have e : (1 + Ty.sizes l) * (1 + Ty.sizes l) = 1 + Ty.sizes l + Ty.sizes l + Ty.sizes l * Ty.sizes l := by rw [Nat.add_mul, Nat.one_mul, Nat.mul_add, Nat.mul_one]; omega
    omega
theorem etaTs_size : ∀ (l : List Ty) (n j : Nat), Tm.sizes (etaTs n j l) ≤ Ty.sizes l * Ty.sizes l
  | [], n, j => by simp [etaTs, Tm.sizes]
  | t :: l, n, j => by
    rw [etaTs, Tm.sizes, Ty.sizes]
    have h1 := etaT_size t 0 ((n : Int) - 1 - j)
    have h2 := etaTs_size l n (j + 1)
    have e : (t.size + Ty.sizes l) * (t.size + Ty.sizes l) = t.size * t.size + t.size * Ty.sizes l + (Ty.sizes l * t.size + Ty.sizes l * Ty.sizes l) := by rw [Nat.add_mul, Nat.mul_add, Nat.mul_add]
    omega
end

theorem eta_calls : ∀ (d : Nat) (t : Ty) (k i : Int), t.size ≤ d → d ≤ 1000000000 → PureIs Try.prog 116 [.agg [nI k, nI i], t.enc] (etaT k i t).enc := by
  intro d
  induction d with
  | zero => intro t k i h; have := t.size_pos; omega
  | succ d ih =>
    intro t k i h hd
    have hq := Ty.sizes_len t.args
    have hts := t.size_eq
    have loop : ∀ ix : Int, ix = (if k = 0 then IntKind.wrap .i64 (i + (t.args.length : Nat)) else i) → vc116_L6 (((), (), ((List.length (t.args.map Ty.enc) : Nat) : Int), (), 0, ()), ((k, i, ()), (t.args.map Ty.enc, t.base, ()), ((), 0, 0, (), ()), (t.args.map Ty.enc, k, ix, (), ()), [], ())) (fun x => x = (etaT k i t).enc) := by
      intro ix hix
      refine LoopP.intro (fun j : Nat => (((), (), (t.args.length : Int), (), (j : Int), ()), ((k, i, ()), (t.args.map Ty.enc, t.base, ()), ((), 0, 0, (), ()), (t.args.map Ty.enc, k, ix, (), ()), ((etaTs t.args.length 0 t.args).take j).map Tm.enc, ())))
        (fun j => j ≤ t.args.length) (fun j => t.args.length - j) 0 (by rw [List.length_map]; rfl) (Nat.zero_le _) ?_
      intro j hj again hag
      dsimp only
      rw [List.length_map]
      refine ITE.intro (fun h => ?_) fun h => ?_
      · have hlt : j < t.args.length := by simpa using h
        have hi := ih t.args[j] 0 ((t.args.length : Int) - 1 - (j : Nat)) (by have := Ty.arg_size hlt; omega) (by omega)
        rw [Ty.enc_eq, Tm.enc_eq] at hi
        have hw : IntKind.wrap .i64 (IntKind.wrap .i64 ((t.args.length : Int) - 1) - (j : Int)) = (t.args.length : Int) - 1 - (j : Nat) := by
          rw [wrap_i (n := (t.args.length : Int) - 1) (by omega) (by omega), wrap_i (by omega) (by omega)]
        rw [hw]
        refine ⟨by omega, by omega, _, _, Ty.enc_getD hlt, _, _, _, _, hi, rfl, appOk_one rfl (by simp; omega) (by decide), rfl, ?_⟩
        rw [wrap_n (by omega), Tm.enc_snoc, ← etaTs_take hlt]
        exact hag (j + 1) (by omega) (by omega)
      · have hle : t.args.length ≤ j := by simpa using h
        refine ⟨rfl, ?_⟩
        rw [List.take_of_length_le (by rw [etaTs_len]; exact hle), etaT_eq, Tm.enc_mk, hix]
    rw [Ty.enc_eq]
    refine vc116_ok (ITE.intro (fun h => ⟨rfl, ?_⟩) fun h => ⟨rfl, ?_⟩)
    · have hk : k = 0 := by simpa using h
      refine loop _ ?_
      rw [if_pos hk, List.length_map]
    · have hk : ¬ k = 0 := by simpa using h
      exact loop _ (by rw [if_neg hk])

theorem rEta_calls {t : Ty} {k i : Int} (ht : t.size ≤ 1000000000) (h0 : k = 0 → 0 ≤ i ∧ i ≤ 1000) : PureIs Try.prog 87 [.agg [nI k, nI i], t.enc] (etaT k i t).enc := by
  have he := eta_calls _ t k i (Nat.le_refl _) ht
  rw [Ty.enc_eq, Tm.enc_eq] at he ⊢
  refine vc87_ok (ITE.intro (fun h => ?_) fun h => ⟨_, _, _, _, he, rfl⟩)
  have hk : k = 0 := by simpa using h
  have := h0 hk
  exact ITE.neg (decide_eq_false (by omega)) (ITE.neg (decide_eq_false (by omega)) ⟨_, _, _, _, he, rfl⟩)

theorem pEta_calls : ∀ (d : Nat) (t : Ty) (k i : Int), t.size ≤ d → d ≤ 1000 → (k = 0 → 0 ≤ i ∧ i ≤ 1000) → PureIs Try.prog 86 [.agg [nI k, nI i], t.enc] (etaT k i t).enc := by
  intro d
  induction d with
  | zero => intro t k i h; have := t.size_pos; omega
  | succ d ih =>
    intro t k i h hd h0
    have hq := Ty.sizes_len t.args
    have hts := t.size_eq
    have harr := arrow_calls (t := t) (l := []) (by simp [Ty.sizes]; omega)
    rw [Ty.arrow, List.nil_append, Ty.enc_mk, Ty.enc_eq, List.map_nil] at harr
    have loop : ∀ ix : Int, ix = (if k = 0 then IntKind.wrap .i64 (i + (t.args.length : Nat)) else i) → vc86_L8 (((), ((List.length (t.args.map Ty.enc) : Nat) : Int), (), t.args.map Ty.enc, ((List.length (t.args.map Ty.enc) : Nat) : Int), 0, ()), ((k, i, ()), (t.args.map Ty.enc, t.base, ()), ((), 0, 0, (), ()), (t.args.map Ty.enc, k, ix, (), ()), [], ())) (fun x => x = (etaT k i t).enc) := by
      intro ix hix
      refine LoopP.intro (fun j : Nat => (((), (t.args.length : Int), (), t.args.map Ty.enc, (t.args.length : Int), (j : Int), ()), ((k, i, ()), (t.args.map Ty.enc, t.base, ()), ((), 0, 0, (), ()), (t.args.map Ty.enc, k, ix, (), ()), ((etaTs t.args.length 0 t.args).take j).map Tm.enc, ())))
        (fun j => j ≤ t.args.length) (fun j => t.args.length - j) 0 (by rw [List.length_map]; rfl) (Nat.zero_le _) ?_
      intro j hj again hag
      dsimp only
      rw [List.length_map]
      refine ITE.intro (fun h => ?_) fun h => ?_
      · have hlt : j < t.args.length := by simpa using h
        have hi := ih t.args[j] 0 ((t.args.length : Int) - 1 - (j : Nat)) (by have := Ty.arg_size hlt; omega) (by omega) (fun _ => ⟨by omega, by omega⟩)
        rw [Ty.enc_eq, Tm.enc_eq] at hi
        have hw : IntKind.wrap .i64 (IntKind.wrap .i64 ((t.args.length : Int) - 1) - (j : Int)) = (t.args.length : Int) - 1 - (j : Nat) := by
          rw [wrap_i (n := (t.args.length : Int) - 1) (by omega) (by omega), wrap_i (by omega) (by omega)]
        rw [hw]
        refine ⟨by omega, by omega, _, _, Ty.enc_getD hlt, _, _, _, _, hi, rfl, appOk_one rfl (by simp; omega) (by decide), rfl, ?_⟩
        rw [wrap_n (by omega), Tm.enc_snoc, ← etaTs_take hlt]
        exact hag (j + 1) (by omega) (by omega)
      · have hle : t.args.length ≤ j := by simpa using h
        refine ⟨rfl, ?_⟩
        rw [List.take_of_length_le (by rw [etaTs_len]; exact hle), etaT_eq, Tm.enc_mk, hix]
    rw [Ty.enc_eq]
    refine vc86_ok (ITE.intro (fun h => ?_) fun h => ?_)
    · have hk : k = 0 := by simpa using h
      have := h0 hk
      refine ITE.neg (decide_eq_false (by omega)) (ITE.neg (decide_eq_false (by omega)) ⟨_, _, harr, ITE.pos h ⟨rfl, loop _ ?_⟩⟩)
      rw [if_pos hk, List.length_map]
    · have hk : ¬ k = 0 := by simpa using h
      exact ⟨_, _, harr, ITE.neg h ⟨rfl, loop _ (by rw [if_neg hk])⟩⟩

/-! ### Var -/

theorem varArgs_eta {n : Nat} (hn : n ≤ 1000000000) : ∀ (b : List Ty) (l : List Tm) (k : Nat), l.length = b.length → n = k + b.length →
    (∀ a ∈ l, ∀ (ty : Ty) (j : Int), 0 ≤ j → j ≤ 1000000000 → ((Tm.var a = some (0, j) ∧ a.binds = ty.args) ↔ a = etaT 0 j ty)) → (Tm.varArgs n k b l = true ↔ l = etaTs n k b)
  | [], [], k, _, _, _ => by simp [Tm.varArgs, etaTs]
  | [], _ :: _, _, h, _, _ => by simp at h
  | _ :: _, [], _, h, _, _ => by simp at h
  | t :: b, a :: l, k, h, hk, ih => by
    have h1 := varArgs_eta hn b l (k + 1) (by simpa using h) (by simp at hk; omega) fun a ha => ih a (List.mem_cons_of_mem _ ha)
    have h2 := ih a List.mem_cons_self t ((n : Int) - 1 - k) (by simp at hk; omega) (by omega)
    rw [Tm.varArgs, etaTs, List.cons.injEq, Bool.and_eq_true, h1, ← h2]
    refine and_congr ?_ Iff.rfl
    cases hv : Tm.var a with
    | none => simp
    | some p =>
      obtain ⟨q, j⟩ := p
      simp only [Bool.and_eq_true, beq_iff_eq, Ty.sames_iff, Option.some.injEq, Prod.mk.injEq]

theorem var_eta : ∀ (d : Nat) (a : Tm), a.size ≤ d → d ≤ 1000000000 → a.Ok → ∀ (ty : Ty) (j : Int), 0 ≤ j → j ≤ 1000000000 → ((Tm.var a = some (0, j) ∧ a.binds = ty.args) ↔ a = etaT 0 j ty) := by
  intro d
  induction d with
  | zero => intro t h; have := t.size_pos; omega
  | succ d ih =>
    intro a h hd hk ty j hj hj2
    obtain ⟨hk1, hk2, hk3⟩ := Tm.ok_eq hk
    unfold I64 at hk2
    have hts := a.size_eq
    have hq := Ty.sizes_len a.binds
    have mem : ∀ x ∈ a.args, ∀ (ty : Ty) (j : Int), 0 ≤ j → j ≤ 1000000000 → ((Tm.var x = some (0, j) ∧ x.binds = ty.args) ↔ x = etaT 0 j ty) :=
      fun x hx => ih x (by have := Tm.sizes_mem hx; omega) (by omega) (Tm.Oks_mem hk3 hx)
    rw [Tm.var_eq, etaT_eq, if_pos rfl]
    constructor
    · rintro ⟨h1, h2⟩
      split at h1
      · rename_i hc
        split at h1
        · rename_i hv
          simp only [Option.some.injEq, Prod.mk.injEq] at h1
          obtain ⟨h3, h4⟩ := h1
          rw [if_pos h3] at h4
          have hge : ¬ a.index < a.binds.length := fun hx => hc.2 ⟨h3, hx⟩
          rw [wrap_i (by omega) (by omega)] at h4
          have hv' := (varArgs_eta (n := a.binds.length) (by omega) a.binds a.args 0 hc.1 (by omega) mem).1 hv
          rw [← h2, wrap_i (by omega) (by omega), ← hv']
          have e : j + (a.binds.length : Nat) = a.index := by omega
          rw [e, ← h3, Tm.eta]
        · cases h1
      · cases h1
    · intro h1
      have e1 : a.binds = ty.args := by rw [h1]; rfl
      have e2 : a.kind = 0 := by rw [h1]; rfl
      have e3 : a.index = IntKind.wrap .i64 (j + (ty.args.length : Nat)) := by
        have := congrArg Tm.index h1
        exact this
      have e4 : a.args = etaTs ty.args.length 0 ty.args := by
        have := congrArg Tm.args h1
        exact this
      rw [← e1] at e3 e4
      rw [wrap_i (by omega) (by omega)] at e3
      have hlen : a.args.length = a.binds.length := by rw [e4, etaTs_len]
      refine ⟨?_, e1⟩
      rw [if_pos ⟨hlen, fun hx => by have := hx.2; omega⟩, if_pos ((varArgs_eta (n := a.binds.length) (by omega) a.binds a.args 0 hlen (by omega) mem).2 e4), if_pos e2, e2, wrap_i (by omega) (by omega)]
      congr 2
      omega

/-- What Var asks, as the document says it. -/
theorem var_same {t : Tm} (hs : t.size ≤ 1000000000) (hk : t.Ok) (hc : ¬ (t.kind = 0 ∧ t.index < t.binds.length)) :
    t.var = if Tm.same (.mk t.binds t.kind t.index (etaTs t.binds.length 0 t.binds)) t = true then some (t.kind, if t.kind = 0 then t.index - t.binds.length else t.index) else none := by
  obtain ⟨hk1, hk2, hk3⟩ := Tm.ok_eq hk
  unfold I64 at hk2
  have hts := t.size_eq
  have hq := Ty.sizes_len t.binds
  have hw : (if t.kind = 0 then IntKind.wrap .i64 (t.index - t.binds.length) else t.index) = (if t.kind = 0 then t.index - t.binds.length else t.index) := by
    split
    · rename_i h0
      have : ¬ t.index < t.binds.length := fun hx => hc ⟨h0, hx⟩
      rw [wrap_i (by omega) (by omega)]
    · rfl
  have hsame : Tm.same (.mk t.binds t.kind t.index (etaTs t.binds.length 0 t.binds)) t = true ↔ t.args = etaTs t.binds.length 0 t.binds := by
    rw [Tm.same_iff]
    constructor
    · intro h; have := congrArg Tm.args h; exact this.symm
    · intro h; rw [← h, Tm.eta]
  rw [Tm.var_eq, hw]
  by_cases hl : t.args.length = t.binds.length
  · have hv := varArgs_eta (n := t.binds.length) (by omega) t.binds t.args 0 hl (by omega) fun x hx => var_eta _ x (Nat.le_refl _) (by have := Tm.sizes_mem hx; omega) (Tm.Oks_mem hk3 hx)
    rw [if_pos ⟨hl, hc⟩]
    by_cases he : t.args = etaTs t.binds.length 0 t.binds
    · rw [if_pos (hv.2 he), if_pos (hsame.2 he)]
    · rw [if_neg (fun h => he (hv.1 h)), if_neg (fun h => he (hsame.1 h))]
  · rw [if_neg (fun h => hl h.1), if_neg]
    intro h
    rw [hsame.1 h, etaTs_len] at hl
    exact hl rfl

theorem rvar_calls {t : Tm} (ht : t.size ≤ 10000) (hk : t.Ok) : PureIs Try.prog 81 [t.enc] (varRes t.var) := by
  obtain ⟨hk1, hk2, hk3⟩ := Tm.ok_eq hk
  unfold I64 at hk2
  have hts := t.size_eq
  have hq := Ty.sizes_len t.binds
  have hez := etaT_size (.mk t.binds 0) t.kind 0
  have hsq : (Ty.mk t.binds 0).size * (Ty.mk t.binds 0).size ≤ 10000 * 10000 := by
    have : (Ty.mk t.binds 0).size ≤ 10000 := by rw [Ty.size]; omega
    exact Nat.mul_le_mul this this
  have husz : (Tm.mk t.binds t.kind t.index (etaTs t.binds.length 0 t.binds)).size ≤ 100000000 := by
    rw [etaT_eq, Tm.size] at hez
    rw [Tm.size]
    have : (Ty.mk t.binds 0).args = t.binds := rfl
    rw [this] at hez
    omega
  have hsame := tsame_calls _ (Tm.mk t.binds t.kind t.index (etaTs t.binds.length 0 t.binds)) t (Nat.le_refl _) (by omega)
  rw [Tm.enc_mk, Tm.enc_eq t] at hsame
  rw [Tm.enc_eq t]
  refine vc81_ok ?_
  unfold vc81
  rw [List.length_map]
  -- what is handed back
  have fin : ¬ (t.kind = 0 ∧ t.index < t.binds.length) → ∀ hx : Int, hx = (if t.kind = 0 then t.index - t.binds.length else t.index) →
      ITE (!(Tm.same (.mk t.binds t.kind t.index (etaTs t.binds.length 0 t.binds)) t)) (AV.tup [.agg [nI 0, nI 0], nB false] = varRes t.var) (AV.tup [.agg [nI t.kind, nI hx], nB true] = varRes t.var) := by
    intro hc hx ehx
    have hv := var_same (by omega) hk hc
    refine ITE.intro (fun h => ?_) fun h => ?_
    · rw [hv, if_neg (by simpa using h)]; rfl
    · rw [hv, if_pos (by simpa using h), ehx]; rfl
  refine ITE.intro (fun h0 => ?_) fun h0 => ?_
  · have hk0 : t.kind = 0 := by simpa using h0
    refine ITE.intro (fun h1 => ?_) fun h1 => ?_
    · have hlt : t.index < t.binds.length := by simpa using h1
      rw [Tm.var_eq, if_neg (fun h => h.2 ⟨hk0, hlt⟩)]; rfl
    · have hge : ¬ t.index < t.binds.length := by simpa using h1
      have hw : IntKind.wrap .i64 (t.index - ((t.binds.length : Nat) : Int)) = t.index - ((t.binds.length : Nat) : Int) := wrap_i (by omega) (by omega)
      have he := eta_calls _ (.mk t.binds 0) t.kind (t.index - ((t.binds.length : Nat) : Int)) (Nat.le_refl _) (by rw [Ty.size]; omega)
      rw [etaT_eq, Ty.args_mk, if_pos hk0, Int.sub_add_cancel, wrap_i (n := t.index) (by omega) (by omega), Tm.enc_mk, Ty.enc_mk] at he
      rw [hw]
      have hf := fin (fun h => hge h.2) (t.index - ((t.binds.length : Nat) : Int)) (by rw [if_pos hk0])
      refine ⟨_, _, _, _, he, ITE.pos h0 (ITE.intro (fun h => ⟨_, hsame, hf⟩) fun h => ⟨_, hsame, hf⟩)⟩
  · have hk0 : ¬ t.kind = 0 := by simpa using h0
    have he := eta_calls _ (.mk t.binds 0) t.kind t.index (Nat.le_refl _) (by rw [Ty.size]; omega)
    rw [etaT_eq, Ty.args_mk, if_neg hk0, Tm.enc_mk, Ty.enc_mk] at he
    exact ⟨_, _, _, _, he, ITE.neg h0 ⟨_, hsame, fin (fun h => hk0 h.1) t.index (by rw [if_neg hk0])⟩⟩

end Go.Proofs.Ytfbncddnakaaiaa
