/- Contracts: kind.Arrow, term.Var, pattern.Vars, term.Copy. -/
import Derived.Test.YtfbncddnakaaiaaP02
import Derived.Test.YtfbncddnakaaiaaP03
namespace Go.Proofs.Ytfbncddnakaaiaa
open Go
set_option linter.unusedSimpArgs false
set_option linter.unusedVariables false

def Ty.arrow (t : Ty) (l : List Ty) : Ty := .mk (l ++ t.args) t.base

theorem arrow_calls {t : Ty} {l : List Ty} (h : Ty.sizes l + t.size ≤ 1000000000) : PureIs Try.prog 92 [t.enc, .sl (l.map Ty.enc)] (t.arrow l).enc := by
  have hl := Ty.sizes_len l
  have hl2 := Ty.sizes_len t.args
  have hs := t.size_eq
  have hc1 := concat_calls (ll := [l, t.args]) (by simp) (by simp; omega)
  have hc2 := copied_calls _ (.mk (l ++ t.args) t.base) (Nat.le_refl _) (by simp only [Ty.size, Ty.sizes_append]; omega)
  simp only [encRows, List.map_cons, List.map_nil, List.flatten_cons, List.flatten_nil, List.append_nil] at hc1
  rw [Ty.enc_mk] at hc2
  rw [Ty.arrow, Ty.enc_mk, Ty.enc_eq t]
  exact vc92_ok ⟨_, hc1, _, _, hc2, rfl⟩

/-! ### term.Var -/

mutual
def Tm.var : Tm → Option (Int × Int)
  | .mk b k i a => if a.length = b.length ∧ ¬ (k = 0 ∧ i < b.length) then (if Tm.varArgs b.length 0 b a = true then some (k, if k = 0 then IntKind.wrap .i64 (i - b.length) else i) else none) else none
def Tm.varArgs (n : Nat) : Nat → List Ty → List Tm → Bool
  | k, t :: b, a :: l => (match Tm.var a with
    | some (q, j) => q == 0 && j == (n : Int) - 1 - k && Ty.sames a.binds t.args
    | none => false) && Tm.varArgs n (k + 1) b l
  | _, _, _ => true
end

def varRes : Option (Int × Int) → AV
  | some (k, i) => .tup [.agg [nI k, nI i], nB true]
  | none => .tup [.agg [nI 0, nI 0], nB false]

theorem Tm.var_eq (t : Tm) : Tm.var t = if t.args.length = t.binds.length ∧ ¬ (t.kind = 0 ∧ t.index < t.binds.length) then (if Tm.varArgs t.binds.length 0 t.binds t.args = true then some (t.kind, if t.kind = 0 then IntKind.wrap .i64 (t.index - t.binds.length) else t.index) else none) else none := by
  cases t; rw [Tm.var]; rfl

theorem Tm.varArgs_drop {n : Nat} {b : List Ty} {a : List Tm} {k : Nat} (h1 : k < b.length) (h2 : k < a.length) : Tm.varArgs n k (b.drop k) (a.drop k) = ((match Tm.var a[k] with
    | some (q, j) => q == 0 && j == (n : Int) - 1 - k && Ty.sames a[k].binds b[k].args
    | none => false) && Tm.varArgs n (k + 1) (b.drop (k + 1)) (a.drop (k + 1))) := by
  rw [List.drop_eq_getElem_cons h1, List.drop_eq_getElem_cons h2, Tm.varArgs]

theorem var_calls : ∀ (n : Nat) (t : Tm), t.size ≤ n → n ≤ 1000000000 → PureIs Try.prog 80 [t.enc] (varRes t.var) := by
  intro n
  induction n with
  | zero => intro t h; have := t.size_pos; omega
  | succ n ih =>
    intro t h hn
    have hq := Tm.sizes_len t.args
    have hq2 := Ty.sizes_len t.binds
    have hts := t.size_eq
    rw [Tm.var_eq, Tm.enc_eq]
    have loop : t.args.length = t.binds.length → ¬ (t.kind = 0 ∧ t.index < t.binds.length) → vc80_L6 (((), (), ((List.length (t.binds.map Ty.enc) : Nat) : Int), (), t.args.map Tm.enc, ((List.length (t.args.map Tm.enc) : Nat) : Int), 0, ()), ((t.binds.map Ty.enc, t.kind, t.index, t.args.map Tm.enc, ()), (0, 0, ()), (t.kind, t.index, ()), ())) (fun x => x = varRes (if t.args.length = t.binds.length ∧ ¬ (t.kind = 0 ∧ t.index < t.binds.length) then (if Tm.varArgs t.binds.length 0 t.binds t.args = true then some (t.kind, if t.kind = 0 then IntKind.wrap .i64 (t.index - t.binds.length) else t.index) else none) else none)) := by
      intro hlen hk
      rw [if_pos ⟨hlen, hk⟩]
      refine LoopP.intro (fun k : Nat => (((), (), (t.binds.length : Int), (), t.args.map Tm.enc, (t.args.length : Int), (k : Int), ()), ((t.binds.map Ty.enc, t.kind, t.index, t.args.map Tm.enc, ()), (0, 0, ()), (t.kind, t.index, ()), ())))
        (fun k => k ≤ t.args.length ∧ Tm.varArgs t.binds.length 0 t.binds t.args = Tm.varArgs t.binds.length k (t.binds.drop k) (t.args.drop k)) (fun k => t.args.length - k) 0 (by rw [List.length_map, List.length_map]; rfl) ⟨Nat.zero_le _, rfl⟩ ?_
      intro k ⟨hk1, hs⟩ again hag
      dsimp only
      refine ITE.intro (fun h => ?_) fun h => ?_
      · have hlt : k < t.args.length := by simpa using h
        rw [Tm.varArgs_drop (by omega) hlt] at hs
        have hi := ih t.args[k] (by have := Tm.arg_size hlt; omega) (by omega)
        have hbs := Ty.sizes_len t.args[k].binds
        have hbz := t.args[k].size_eq
        have hbw := Tm.arg_size hlt
        have he := equals_calls (l := t.args[k].binds) (m := (t.binds[k]'(by omega)).args) (by omega) (fun j h1 h2 => equal_calls _ _ _ (Nat.le_refl _) (by have := Ty.sizes_mem (List.getElem_mem h1); omega))
        rw [Tm.enc_eq] at hi
        refine ⟨by omega, by rw [List.length_map]; omega, _, _, _, _, Tm.enc_getD hlt, ?_⟩
        cases hv : t.args[k].var with
        | none =>
          rw [hv] at hi hs
          refine ⟨_, _, _, hi, ITE.pos rfl ?_⟩
          rw [hs]; simp [varRes]
        | some p =>
          obtain ⟨q, j⟩ := p
          rw [hv] at hi hs
          refine ⟨_, _, _, hi, ITE.neg rfl ?_⟩
          rw [wrap_i (n := (t.binds.length : Int) - 1) (by omega) (by omega), wrap_i (by omega) (by omega)]
          dsimp only at hs
          refine ITE.intro (fun h => ?_) fun h => ?_
          · have : (q == 0 && j == (t.binds.length : Int) - 1 - k) = false := by rw [Bool.not_eq_true'] at h; exact h
            rw [hs, this]; simp [varRes]
          · have : (q == 0 && j == (t.binds.length : Int) - 1 - k) = true := by rw [Bool.not_eq_false'] at h; exact h
            rw [this, Bool.true_and] at hs
            refine ⟨by omega, by rw [List.length_map]; omega, _, _, Ty.enc_getD (by omega), _, he, ITE.intro (fun h => ?_) fun h => ?_⟩
            · have : Ty.sames t.args[k].binds (t.binds[k]'(by omega)).args = false := by simpa using h
              rw [hs, this]; simp [varRes]
            · have : Ty.sames t.args[k].binds (t.binds[k]'(by omega)).args = true := by simpa using h
              rw [this, Bool.true_and] at hs
              rw [wrap_n (by omega)]
              exact hag (k + 1) ⟨by omega, hs⟩ (by omega)
      · have : t.args.length ≤ k := by simpa using h
        have hnil : Tm.varArgs t.binds.length k [] [] = true := by simp [Tm.varArgs]
        rw [List.drop_eq_nil_of_le this, List.drop_eq_nil_of_le (by omega), hnil] at hs
        rw [if_pos hs]
        refine ITE.intro (fun h => ?_) fun h => ?_
        · have h0 : t.kind = 0 := by simpa using h
          rw [if_pos h0]; rfl
        · have h0 : ¬ t.kind = 0 := by simpa using h
          rw [if_neg h0]; rfl
    refine vc80_ok (ITE.intro (fun h => ?_) fun h => ?_)
    · have : ¬ t.args.length = t.binds.length := by simp at h; omega
      rw [if_neg (fun h => this h.1)]; rfl
    · have hlen : t.args.length = t.binds.length := by simp at h; omega
      refine ITE.intro (fun h => ?_) fun h => ?_
      · have h0 : t.kind = 0 := by simpa using h
        refine ITE.intro (fun h => ?_) fun h => ?_
        · have : t.index < t.binds.length := by simpa using h
          rw [if_neg (fun h => h.2 ⟨h0, this⟩)]; rfl
        · exact loop hlen fun h1 => by simp at h; omega
      · exact loop hlen fun h1 => by simp at h; exact h h1.1

/-! ### term.Copy -/

theorem copy1_calls (i : Int) : PureIs Try.prog 115 [nI i] (nI i) := vc115_ok rfl

def I64 (i : Int) : Prop := -9223372036854775808 ≤ i ∧ i < 9223372036854775808
theorem I64.wrap {i : Int} (h : I64 i) : IntKind.wrap .i64 i = i := wrap_i h.1 h.2
mutual
def Tm.Ok : Tm → Prop
  | .mk _ k i a => I64 k ∧ I64 i ∧ Tm.Oks a
def Tm.Oks : List Tm → Prop
  | [] => True
  | t :: l => Tm.Ok t ∧ Tm.Oks l
end
theorem Tm.Oks_mem {l : List Tm} (h : Tm.Oks l) {t : Tm} (ht : t ∈ l) : t.Ok := by
  induction l with
  | nil => cases ht
  | cons u l ih =>
    obtain ⟨h1, h2⟩ := h
    rcases List.mem_cons.1 ht with rfl | h3
    · exact h1
    · exact ih h2 h3
theorem Tm.Oks_of {l : List Tm} (h : ∀ t ∈ l, t.Ok) : Tm.Oks l := by
  induction l with
  | nil => exact True.intro
  | cons u l ih => exact ⟨h u List.mem_cons_self, ih fun t ht => h t (List.mem_cons_of_mem _ ht)⟩
theorem Tm.ok_eq {t : Tm} (h : t.Ok) : I64 t.kind ∧ I64 t.index ∧ Tm.Oks t.args := by cases t; exact h

theorem tturned_calls : ∀ (n : Nat) (t : Tm) (a : Nat), t.size ≤ n → n ≤ 1000000000 → t.Ok → a + t.size ≤ 2000000000 → PureIs Try.prog 114 [t.enc, nI a, .clo 115 []] t.enc := by
  intro n
  induction n with
  | zero => intro t a h; have := t.size_pos; omega
  | succ n ih =>
    intro t a h hn hk ha
    have hq := Tm.sizes_len t.args
    have hq2 := Ty.sizes_len t.binds
    have hts := t.size_eq
    obtain ⟨hk1, hk2, hk3⟩ := Tm.ok_eq hk
    have harr := arrow_calls (t := .mk [] 0) (l := t.binds) (by simp [Ty.size, Ty.sizes]; omega)
    rw [Ty.arrow, Ty.args_mk, Ty.base_mk, List.append_nil, Ty.enc_mk, Ty.enc_mk, List.map_nil] at harr
    have hw : IntKind.wrap .i64 ((a : Int) + ((List.length (t.binds.map Ty.enc) : Nat) : Int)) = ((a + t.binds.length : Nat) : Int) := by rw [List.length_map, wrap_i (by omega) (by omega)]; omega
    have loop : vc114_L6 ((((a + t.binds.length : Nat) : Int), (), (), (), t.args.map Tm.enc, ((List.length (t.args.map Tm.enc) : Nat) : Int), 0, ()), ((t.binds.map Ty.enc, t.kind, t.index, t.args.map Tm.enc, ()), ((), 0, 0, (), ()), (t.binds.map Ty.enc, t.kind, t.index, (), ()), [], ())) (fun x => x = t.enc) := by
      refine LoopP.intro (fun k : Nat => ((((a + t.binds.length : Nat) : Int), (), (), (), t.args.map Tm.enc, (t.args.length : Int), (k : Int), ()), ((t.binds.map Ty.enc, t.kind, t.index, t.args.map Tm.enc, ()), ((), 0, 0, (), ()), (t.binds.map Ty.enc, t.kind, t.index, (), ()), (t.args.take k).map Tm.enc, ())))
        (fun k => k ≤ t.args.length) (fun k => t.args.length - k) 0 (by rw [List.length_map]; rfl) (Nat.zero_le _) ?_
      intro k hk again hag
      dsimp only
      refine ITE.intro (fun h => ?_) fun h => ?_
      · have hlt : k < t.args.length := by simpa using h
        have hz := Tm.arg_size hlt
        have hi := ih t.args[k] (a + t.binds.length) (by omega) (by omega) (Tm.Oks_mem hk3 (List.getElem_mem hlt)) (by have := Tm.sizes_mem (List.getElem_mem hlt); omega)
        rw [Tm.enc_eq] at hi
        refine ⟨by omega, by rw [List.length_map]; omega, _, _, _, _, Tm.enc_getD hlt, _, _, _, _, hi, rfl, appOk_one rfl (by simp; omega) (by decide), rfl, ?_⟩
        rw [wrap_n (by omega), Tm.enc_snoc, take_snoc' hlt]
        exact hag (k + 1) (by omega) (by omega)
      · have : t.args.length ≤ k := by simpa using h
        refine ⟨rfl, ?_⟩
        rw [List.take_of_length_le this, ← Tm.enc_eq]
    rw [Tm.enc_eq]
    rw [Tm.enc_eq] at loop
    refine vc114_ok ⟨_, _, harr, ?_⟩
    rw [hw]
    refine ITE.intro (fun h => ?_) fun h => ⟨rfl, loop⟩
    refine ITE.intro (fun h => ?_) fun h => ⟨rfl, loop⟩
    have hge : ((a + t.binds.length : Nat) : Int) ≤ t.index := by simpa using h
    refine ⟨_, copy1_calls _, rfl, ?_⟩
    unfold I64 at hk2
    rw [wrap_i (n := t.index - ((a + t.binds.length : Nat) : Int)) (by omega) (by omega), show ((a + t.binds.length : Nat) : Int) + (t.index - ((a + t.binds.length : Nat) : Int)) = t.index from by omega, wrap_i hk2.1 hk2.2]
    exact loop

theorem copy_calls {t : Tm} (h : t.size ≤ 1000000000) (hk : t.Ok) : PureIs Try.prog 72 [t.enc] t.enc := by
  have := tturned_calls _ t 0 (Nat.le_refl _) h hk (by omega)
  rw [Tm.enc_eq] at this ⊢
  exact vc72_ok ⟨_, _, _, _, this, rfl⟩

end Go.Proofs.Ytfbncddnakaaiaa
