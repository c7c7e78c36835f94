/- Texts of ours laid together for a claim: P01 P02 P03 P04 P05 P06 P07. -/
import Derived.Test.YtfbncddnakaaiaaMVcI
import Derived.Test.YtfbncddnakaaiaaMVc1
import Derived.Test.YtfbncddnakaaiaaMTab
import Derived.Test.YtfbncddnakaaiaaMFilU
import Derived.KernelRfl
/- Typed data: lists of ints, kinds, terms; what it reads as. -/
namespace Go.Proofs.Ytfbncddnakaaiaa
open Go
set_option linter.unusedSimpArgs false
set_option linter.unusedVariables false

theorem wrap_i {n : Int} (h1 : -9223372036854775808 ≤ n) (h2 : n < 9223372036854775808) : IntKind.wrap .i64 n = n := IntWalk.i64_in _ (by omega)
theorem wrap_n {k : Nat} (h : k ≤ 4000000000) : IntKind.wrap .i64 ((k : Int) + 1) = ((k + 1 : Nat) : Int) := wrap_succ (by omega)
theorem appOk_mk {d : TD} {n : Nat} {els els2 : List AV} (h1 : ∀ x : AV, x ∈ els → x.cells.length = d.size) (h2 : ∀ x : AV, x ∈ els2 → x.cells.length = d.size) (hn : n ≤ 4000000000) (hb : d.bytes ≤ 1000) : appOk d n els els2 := by
  refine ⟨h1, h2, ?_, ?_⟩
  · simp only [maxLen]; omega
  · have := Nat.mul_le_mul hn hb; omega
theorem appOk_nil {d : TD} {n : Nat} {els2 : List AV} (h2 : ∀ x : AV, x ∈ els2 → x.cells.length = d.size) (hn : n ≤ 4000000000) (hb : d.bytes ≤ 1000) : appOk d n [] els2 :=
  appOk_mk (fun x hx => by cases hx) h2 hn hb
theorem appOk_one {d : TD} {n : Nat} {x : AV} (h2 : x.cells.length = d.size) (hn : n ≤ 4000000000) (hb : d.bytes ≤ 1000) : appOk d n [] [x] :=
  appOk_nil (fun y hy => by rw [List.mem_singleton.1 hy]; exact h2) hn hb
theorem getD_map {α : Type} {f : α → AV} {l : List α} {k : Nat} (h : k < l.length) : List.getD (l.map f) (Int.toNat (k : Int)) .top = f l[k] := by simp [List.getD, h]

/-! ### Lists of ints -/

def encInts (l : List Int) : List AV := l.map nI
theorem encInts_len (l : List Int) : (encInts l).length = l.length := by simp [encInts]
theorem encInts_getD {l : List Int} {k : Nat} (h : k < l.length) : List.getD (encInts l) (Int.toNat (k : Int)) .top = nI l[k] := getD_map h
theorem encInts_snoc (l : List Int) (i : Int) : encInts l ++ [nI i] = encInts (l ++ [i]) := by simp [encInts]
theorem encInts_app (l m : List Int) : encInts l ++ encInts m = encInts (l ++ m) := by simp [encInts]
theorem encInts_one (i : Int) : [nI i] = encInts [i] := rfl
theorem encInts_cells {l : List Int} : ∀ x : AV, x ∈ encInts l → x.cells.length = 1 := by
  intro x hx
  obtain ⟨t, _, rfl⟩ := List.mem_map.1 hx
  rfl

def likes : List Int → List Int → Bool
  | [], [] => true
  | a :: l, b :: m => (a == b) && likes l m
  | _, _ => false
theorem likes_eq (l m : List Int) : likes l m = decide (l = m) := by
  induction l generalizing m with
  | nil => cases m <;> simp [likes]
  | cons a l ih => cases m with
    | nil => simp [likes]
    | cons b m =>
      rw [likes, ih]
      by_cases h1 : a = b <;> by_cases h2 : l = m <;> simp [h1, h2]

/-! ### Kinds -/

inductive Ty where
  | mk (args : List Ty) (base : Int)

mutual
def Ty.enc : Ty → AV
  | .mk l b => .agg [.sl (Ty.encs l), nI b]
def Ty.encs : List Ty → List AV
  | [] => []
  | t :: l => Ty.enc t :: Ty.encs l
end
mutual
def Ty.size : Ty → Nat
  | .mk l _ => 1 + Ty.sizes l
def Ty.sizes : List Ty → Nat
  | [] => 0
  | t :: l => Ty.size t + Ty.sizes l
end
def Ty.args : Ty → List Ty | .mk l _ => l
def Ty.base : Ty → Int | .mk _ b => b
theorem Ty.args_mk (a : List Ty) (b : Int) : (Ty.mk a b).args = a := rfl
theorem Ty.base_mk (a : List Ty) (b : Int) : (Ty.mk a b).base = b := rfl
theorem Ty.eta (t : Ty) : Ty.mk t.args t.base = t := by cases t; rfl
theorem Ty.encs_eq (l : List Ty) : Ty.encs l = l.map Ty.enc := by
  induction l with
  | nil => rfl
  | cons t l ih => simp [Ty.encs, ih]
theorem Ty.enc_eq (t : Ty) : t.enc = .agg [.sl (t.args.map Ty.enc), nI t.base] := by cases t; simp [Ty.enc, Ty.encs_eq, Ty.args, Ty.base]
theorem Ty.enc_mk (l : List Ty) (b : Int) : (Ty.mk l b).enc = .agg [.sl (l.map Ty.enc), nI b] := Ty.enc_eq _
theorem Ty.enc_getD {l : List Ty} {k : Nat} (h : k < l.length) : List.getD (l.map Ty.enc) (Int.toNat (k : Int)) .top = .agg [.sl (l[k].args.map Ty.enc), nI l[k].base] := by rw [getD_map h, Ty.enc_eq]
theorem Ty.size_eq (t : Ty) : t.size = 1 + Ty.sizes t.args := by cases t; rfl
theorem Ty.size_pos (t : Ty) : 1 ≤ t.size := by rw [t.size_eq]; omega
theorem Ty.sizes_len (l : List Ty) : l.length ≤ Ty.sizes l := by
  induction l with
  | nil => simp [Ty.sizes]
  | cons t l ih => have := t.size_pos; simp [Ty.sizes]; omega
theorem Ty.sizes_append (l m : List Ty) : Ty.sizes (l ++ m) = Ty.sizes l + Ty.sizes m := by
  induction l with
  | nil => simp [Ty.sizes]
  | cons t l ih => simp [Ty.sizes, ih]; omega
theorem Ty.sizes_mem {l : List Ty} {t : Ty} (h : t ∈ l) : t.size ≤ Ty.sizes l := by
  induction l with
  | nil => cases h
  | cons u l ih =>
    simp only [Ty.sizes]
    rcases List.mem_cons.1 h with rfl | h1
    · omega
    · have := ih h1; omega
theorem Ty.arg_size {t : Ty} {k : Nat} (h : k < t.args.length) : t.args[k].size < t.size := by
  have := Ty.sizes_mem (List.getElem_mem h)
  rw [t.size_eq]; omega
theorem Ty.enc_len (t : Ty) : t.enc.cells.length = 2 := by cases t; rfl
theorem Ty.enc_cells {l : List Ty} : ∀ x : AV, x ∈ l.map Ty.enc → x.cells.length = 2 := by
  intro x h
  obtain ⟨t, _, rfl⟩ := List.mem_map.1 h
  exact t.enc_len
theorem Ty.enc_snoc (l : List Ty) (t : Ty) : l.map Ty.enc ++ [.agg [.sl (t.args.map Ty.enc), nI t.base]] = (l ++ [t]).map Ty.enc := by rw [← Ty.enc_eq]; simp

mutual
def Ty.same : Ty → Ty → Bool
  | .mk l a, .mk m b => (a == b) && Ty.sames l m
def Ty.sames : List Ty → List Ty → Bool
  | [], [] => true
  | t :: l, u :: m => Ty.same t u && Ty.sames l m
  | _, _ => false
end
theorem Ty.same_eq (t u : Ty) : Ty.same t u = ((t.base == u.base) && Ty.sames t.args u.args) := by cases t; cases u; simp [Ty.same, Ty.base, Ty.args]
theorem Ty.sames_drop {l m : List Ty} {k : Nat} (h1 : k < l.length) (h2 : k < m.length) : Ty.sames (l.drop k) (m.drop k) = (Ty.same l[k] m[k] && Ty.sames (l.drop (k + 1)) (m.drop (k + 1))) := by
  rw [List.drop_eq_getElem_cons h1, List.drop_eq_getElem_cons h2, Ty.sames]
theorem Ty.sames_len {l m : List Ty} (h : ¬ l.length = m.length) : Ty.sames l m = false := by
  induction l generalizing m with
  | nil => cases m with
    | nil => exact (h rfl).elim
    | cons => simp [Ty.sames]
  | cons t l ih => cases m with
    | nil => simp [Ty.sames]
    | cons u m => simp [Ty.sames, ih (m := m) (by simpa using h)]
mutual
theorem Ty.same_iff : ∀ (t u : Ty), Ty.same t u = true ↔ t = u
  | .mk l a, .mk m b => by rw [Ty.same, Bool.and_eq_true, beq_iff_eq, Ty.sames_iff l m]; simp only [Ty.mk.injEq]; exact ⟨fun h => ⟨h.2, h.1⟩, fun h => ⟨h.2, h.1⟩⟩
theorem Ty.sames_iff : ∀ (l m : List Ty), Ty.sames l m = true ↔ l = m
  | [], [] => by simp [Ty.sames]
  | [], _ :: _ => by simp [Ty.sames]
  | _ :: _, [] => by simp [Ty.sames]
  | t :: l, u :: m => by rw [Ty.sames, Bool.and_eq_true, Ty.same_iff t u, Ty.sames_iff l m]; simp
end

/-! ### Terms -/

inductive Tm where
  | mk (binds : List Ty) (kind index : Int) (args : List Tm)

mutual
def Tm.enc : Tm → AV
  | .mk b k i a => .agg [.sl (b.map Ty.enc), nI k, nI i, .sl (Tm.encs a)]
def Tm.encs : List Tm → List AV
  | [] => []
  | t :: l => Tm.enc t :: Tm.encs l
end
mutual
def Tm.size : Tm → Nat
  | .mk b _ _ a => 1 + Ty.sizes b + Tm.sizes a
def Tm.sizes : List Tm → Nat
  | [] => 0
  | t :: l => Tm.size t + Tm.sizes l
end
def Tm.binds : Tm → List Ty | .mk b _ _ _ => b
def Tm.kind : Tm → Int | .mk _ k _ _ => k
def Tm.index : Tm → Int | .mk _ _ i _ => i
def Tm.args : Tm → List Tm | .mk _ _ _ a => a
theorem Tm.binds_mk (b : List Ty) (k i : Int) (a : List Tm) : (Tm.mk b k i a).binds = b := rfl
theorem Tm.kind_mk (b : List Ty) (k i : Int) (a : List Tm) : (Tm.mk b k i a).kind = k := rfl
theorem Tm.index_mk (b : List Ty) (k i : Int) (a : List Tm) : (Tm.mk b k i a).index = i := rfl
theorem Tm.args_mk (b : List Ty) (k i : Int) (a : List Tm) : (Tm.mk b k i a).args = a := rfl
theorem Tm.eta (t : Tm) : Tm.mk t.binds t.kind t.index t.args = t := by cases t; rfl
theorem Tm.encs_eq (l : List Tm) : Tm.encs l = l.map Tm.enc := by
  induction l with
  | nil => rfl
  | cons t l ih => simp [Tm.encs, ih]
theorem Tm.enc_eq (t : Tm) : t.enc = .agg [.sl (t.binds.map Ty.enc), nI t.kind, nI t.index, .sl (t.args.map Tm.enc)] := by cases t; simp [Tm.enc, Tm.encs_eq, Tm.binds, Tm.kind, Tm.index, Tm.args]
theorem Tm.enc_mk (b : List Ty) (k i : Int) (a : List Tm) : (Tm.mk b k i a).enc = .agg [.sl (b.map Ty.enc), nI k, nI i, .sl (a.map Tm.enc)] := Tm.enc_eq _
theorem Tm.enc_getD {l : List Tm} {k : Nat} (h : k < l.length) : List.getD (l.map Tm.enc) (Int.toNat (k : Int)) .top = .agg [.sl (l[k].binds.map Ty.enc), nI l[k].kind, nI l[k].index, .sl (l[k].args.map Tm.enc)] := by rw [getD_map h, Tm.enc_eq]
theorem Tm.size_eq (t : Tm) : t.size = 1 + Ty.sizes t.binds + Tm.sizes t.args := by cases t; rfl
theorem Tm.size_pos (t : Tm) : 1 ≤ t.size := by rw [t.size_eq]; omega
theorem Tm.sizes_len (l : List Tm) : l.length ≤ Tm.sizes l := by
  induction l with
  | nil => simp [Tm.sizes]
  | cons t l ih => have := t.size_pos; simp [Tm.sizes]; omega
theorem Tm.sizes_append (l m : List Tm) : Tm.sizes (l ++ m) = Tm.sizes l + Tm.sizes m := by
  induction l with
  | nil => simp [Tm.sizes]
  | cons t l ih => simp [Tm.sizes, ih]; omega
theorem Tm.sizes_mem {l : List Tm} {t : Tm} (h : t ∈ l) : t.size ≤ Tm.sizes l := by
  induction l with
  | nil => cases h
  | cons u l ih =>
    simp only [Tm.sizes]
    rcases List.mem_cons.1 h with rfl | h1
    · omega
    · have := ih h1; omega
theorem Tm.arg_size {t : Tm} {k : Nat} (h : k < t.args.length) : t.args[k].size < t.size := by
  have := Tm.sizes_mem (List.getElem_mem h)
  rw [t.size_eq]; omega
theorem Tm.enc_len (t : Tm) : t.enc.cells.length = 4 := by cases t; rfl
theorem Tm.enc_cells {l : List Tm} : ∀ x : AV, x ∈ l.map Tm.enc → x.cells.length = 4 := by
  intro x h
  obtain ⟨t, _, rfl⟩ := List.mem_map.1 h
  exact t.enc_len
theorem Tm.enc_snoc (l : List Tm) (t : Tm) : l.map Tm.enc ++ [.agg [.sl (t.binds.map Ty.enc), nI t.kind, nI t.index, .sl (t.args.map Tm.enc)]] = (l ++ [t]).map Tm.enc := by rw [← Tm.enc_eq]; simp

theorem take_snoc' {α : Type} {l : List α} {k : Nat} (h : k < l.length) : l.take k ++ [l[k]] = l.take (k + 1) := by rw [List.take_succ_eq_append_getElem h]

end Go.Proofs.Ytfbncddnakaaiaa
/- Contracts: lists of ints, kinds. -/
namespace Go.Proofs.Ytfbncddnakaaiaa
open Go
set_option linter.unusedSimpArgs false
set_option linter.unusedVariables false

theorem equalInts_calls {l m : List Int} (hsz : l.length ≤ 1000000000) : PureIs Try.prog 79 [.sl (encInts l), .sl (encInts m)] (nB (likes l m)) := by
  refine vc79_ok (ITE.intro (fun h => ?_) fun h => ?_)
  · have : ¬ l.length = m.length := by simp [encInts_len] at h; omega
    rw [likes_eq, decide_eq_false (fun e => this (by rw [e]))]
  · have hlm : l.length = m.length := by simp [encInts_len] at h; omega
    refine LoopP.intro (fun k : Nat => ((encInts l, encInts m, (l.length : Int), (k : Int), ()), ())) (fun k => k ≤ l.length ∧ l.take k = m.take k) (fun k => l.length - k) 0 (by rw [encInts_len]; rfl) ⟨Nat.zero_le _, rfl⟩ ?_
    intro k ⟨hk, hs⟩ again hag
    dsimp only
    refine ITE.intro (fun h => ?_) fun h => ?_
    · have hlt : k < l.length := by simpa using h
      refine ⟨by omega, by rw [encInts_len]; omega, _, encInts_getD hlt, by omega, by rw [encInts_len]; omega, _, encInts_getD (by omega), ITE.intro (fun h => ?_) fun h => ?_⟩
      · have hne : ¬ l[k] = m[k] := by simpa using h
        rw [likes_eq, decide_eq_false]
        rintro rfl
        exact hne rfl
      · rw [wrap_n (by omega)]
        refine hag (k + 1) ⟨by omega, ?_⟩ (by omega)
        have he : l[k] = m[k] := by simpa using h
        rw [List.take_succ_eq_append_getElem hlt, List.take_succ_eq_append_getElem (by omega), hs, he]
    · have : l.length ≤ k := by simpa using h
      rw [List.take_of_length_le this, List.take_of_length_le (by omega)] at hs
      rw [likes_eq, decide_eq_true hs]

theorem like_calls {l m : List Int} (hsz : l.length ≤ 1000000000) : PureIs Try.prog 23 [.sl (encInts l), .sl (encInts m)] (nB (likes l m)) := by
  refine vc23_ok (ITE.intro (fun h => ?_) fun h => ?_)
  · have : ¬ l.length = m.length := by simp [encInts_len] at h; omega
    rw [likes_eq, decide_eq_false (fun e => this (by rw [e]))]
  · have hlm : l.length = m.length := by simp [encInts_len] at h; omega
    refine LoopP.intro (fun k : Nat => ((encInts l, encInts m, (k : Int), ()), ())) (fun k => k ≤ l.length ∧ l.take k = m.take k) (fun k => l.length - k) 0 rfl ⟨Nat.zero_le _, rfl⟩ ?_
    intro k ⟨hk, hs⟩ again hag
    dsimp only
    rw [encInts_len]
    refine ITE.intro (fun h => ?_) fun h => ?_
    · have hlt : k < l.length := by simpa using h
      refine ⟨by omega, by omega, _, encInts_getD hlt, by omega, by rw [encInts_len]; omega, _, encInts_getD (by omega), ITE.intro (fun h => ?_) fun h => ?_⟩
      · have hne : ¬ l[k] = m[k] := by simpa using h
        rw [likes_eq, decide_eq_false]
        rintro rfl
        exact hne rfl
      · rw [wrap_n (by omega)]
        refine hag (k + 1) ⟨by omega, ?_⟩ (by omega)
        have he : l[k] = m[k] := by simpa using h
        rw [List.take_succ_eq_append_getElem hlt, List.take_succ_eq_append_getElem (by omega), hs, he]
    · have : l.length ≤ k := by simpa using h
      rw [List.take_of_length_le this, List.take_of_length_le (by omega)] at hs
      rw [likes_eq, decide_eq_true hs]

theorem same_calls {l m : List Int} (hsz : l.length ≤ 1000000000) : PureIs Try.prog 22 [.sl (encInts l), .sl (encInts m)] (nB (likes l m)) :=
  vc22_ok ⟨_, equalInts_calls hsz, rfl⟩

theorem clone_calls {l : List Int} (hsz : l.length ≤ 1000000000) : PureIs Try.prog 117 [.sl (encInts l)] (.sl (encInts l)) := by
  refine vc117_ok fun b hb => ITE.intro (fun h => ?_) fun h => ?_
  · have : encInts l = [] := Classical.byContradiction fun hn => by rw [hb hn] at h; cases h
    rw [this]
  · exact ⟨fun _ => rfl, appOk_nil encInts_cells (by simp [encInts_len]; omega) (by decide), rfl, by simp⟩

theorem clip_calls {l : List Int} : PureIs Try.prog 118 [.sl (encInts l)] (.clip (encInts l)) := by
  refine Pure.of_heap (vc118_ok ⟨⟨by omega, by omega, rfl, by omega, encInts_cells⟩, rfl, ?_⟩)
  simp

theorem flex_calls (t : Tm) : PureIs Try.prog 31 [t.enc] (nB (t.kind == 2)) := by
  rw [Tm.enc_eq]; exact vc31_ok rfl

theorem equals_calls {l m : List Ty} (hsz : l.length ≤ 1000000000) (ih : ∀ (k : Nat) (h1 : k < l.length) (h2 : k < m.length), PureIs Try.prog 50 [l[k].enc, m[k].enc] (nB (Ty.same l[k] m[k]))) :
    PureIs Try.prog 97 [.sl (l.map Ty.enc), .sl (m.map Ty.enc), .clo 50 []] (nB (Ty.sames l m)) := by
  refine vc97_ok (ITE.intro (fun h => ?_) fun h => ?_)
  · have : ¬ l.length = m.length := by simp at h; omega
    rw [Ty.sames_len this]
  · have hlm : l.length = m.length := by simp at h; omega
    refine LoopP.intro (fun k : Nat => ((m.map Ty.enc, (), l.map Ty.enc, (l.length : Int), (k : Int), ()), ())) (fun k => k ≤ l.length ∧ Ty.sames l m = Ty.sames (l.drop k) (m.drop k)) (fun k => l.length - k) 0 (by rw [List.length_map]; rfl) ⟨Nat.zero_le _, rfl⟩ ?_
    intro k ⟨hk, hs⟩ again hag
    dsimp only
    rw [List.length_map, List.length_map]
    refine ITE.intro (fun h => ?_) fun h => ?_
    · have hlt : k < l.length := by simpa using h
      rw [Ty.sames_drop hlt (by omega)] at hs
      have hi := ih k hlt (by omega)
      rw [Ty.enc_eq, Ty.enc_eq] at hi
      refine ⟨by omega, by omega, _, _, Ty.enc_getD hlt, by omega, by omega, _, _, Ty.enc_getD (by omega), _, hi, ITE.intro (fun h => ?_) fun h => ?_⟩
      · have : Ty.same l[k] m[k] = false := by simpa using h
        rw [hs, this, Bool.false_and]
      · have he : Ty.same l[k] m[k] = true := by simpa using h
        rw [he, Bool.true_and] at hs
        rw [wrap_n (by omega)]
        exact hag (k + 1) ⟨by omega, hs⟩ (by omega)
    · have : l.length ≤ k := by simpa using h
      rw [List.drop_eq_nil_of_le this, List.drop_eq_nil_of_le (by omega)] at hs
      rw [hs]; rfl

theorem equal_calls : ∀ (n : Nat) (t u : Ty), t.size ≤ n → n ≤ 1000000000 → PureIs Try.prog 50 [t.enc, u.enc] (nB (Ty.same t u)) := by
  intro n
  induction n with
  | zero => intro t u h; have := t.size_pos; omega
  | succ n ih =>
    intro t u h hn
    have hq := Ty.sizes_len t.args
    have hts := t.size_eq
    have he := equals_calls (l := t.args) (m := u.args) (by omega) (fun k h1 h2 => ih _ _ (by have := Ty.arg_size h1; omega) (by omega))
    rw [Ty.enc_eq, Ty.enc_eq, Ty.same_eq]
    refine vc50_ok (ITE.intro (fun h => ?_) fun h => ?_)
    · exact ⟨_, he, by rw [h, Bool.true_and]⟩
    · rw [h, Bool.false_and]

theorem copied_calls : ∀ (n : Nat) (t : Ty), t.size ≤ n → n ≤ 1000000000 → PureIs Try.prog 120 [t.enc] t.enc := by
  intro n
  induction n with
  | zero => intro t h; have := t.size_pos; omega
  | succ n ih =>
    intro t h hn
    have hq := Ty.sizes_len t.args
    have hts := t.size_eq
    rw [Ty.enc_eq]
    refine vc120_ok ⟨rfl, ?_⟩
    refine LoopP.intro (fun k : Nat => (((), (), t.args.map Ty.enc, (t.args.length : Int), (k : Int), ()), ((t.args.map Ty.enc, t.base, ()), ((), 0, ()), ((), t.base, ()), (t.args.take k).map Ty.enc, ())))
      (fun k => k ≤ t.args.length) (fun k => t.args.length - k) 0 (by rw [List.length_map]; rfl) (Nat.zero_le _) ?_
    intro k hk again hag
    dsimp only
    rw [List.length_map]
    refine ITE.intro (fun h => ?_) fun h => ?_
    · have hlt : k < t.args.length := by simpa using h
      have hi := ih t.args[k] (by have := Ty.arg_size hlt; omega) (by omega)
      rw [Ty.enc_eq] at hi
      refine ⟨by omega, by omega, _, _, Ty.enc_getD hlt, _, _, hi, rfl, appOk_one rfl (by simp; omega) (by decide), rfl, ?_⟩
      rw [wrap_n (by omega), Ty.enc_snoc, take_snoc' hlt]
      exact hag (k + 1) (by omega) (by omega)
    · have : t.args.length ≤ k := by simpa using h
      refine ⟨rfl, ?_⟩
      rw [List.take_of_length_le this]

end Go.Proofs.Ytfbncddnakaaiaa
/- slices.Grow and slices.Concat, walked. -/
namespace Go.Proofs.Ytfbncddnakaaiaa
open Go
set_option linter.unusedSimpArgs false
set_option linter.unusedVariables false

theorem grow_calls {hp : List AObj} {n : Nat} (hn : n ≤ 1000000000) (hcl : ∀ o ∈ hp, AObj.closed (hp.length + 1) o = true) :
    HFn Try.prog 113 [.prim (.slice none 0 0), .prim (.int .i64 (n : Nat))] hp (fun r hp' => r = .own hp.length 0 ∧ hp' = hp ++ [.row 79 2 []]) := by
  refine heap_of_body_at tab_ok (hp.length + 1) (by simp) (fn := Try.f113) Try.func113 rfl (by kernel_rfl) (by simp [Try.ntmps113]) ?_
  intro Γ hok hP hnt hh0 hfree0
  rw [Try.ntmps113] at hnt
  have htab : TabOk Γ.P tab := by rw [hP]; exact tab_ok
  refine AWp.seqK fun K1 hK1 => ?_
  refine AWp.regionC hok htab hnt ?_
  simp only [ARunC, CStep, isRoom, nilCmp, xval, callArgs, bne_self_eq_false,  pval, heff, bopVal, bopInt, lenVal, fieldsOf, ldCells, ldElem, fillCells, setCells, lookVal, mapGet, mapPut, boundOf, idxOk, lensOk, appOk, Value.cells, TK.agg, thenQ, inBlockQ, AS.put, AS.ev, startT, upd_eq, dstOk, gslot, condP, tabs, reduceIte, Nat.reduceLT, Nat.reduceEqDiff, Nat.reduceAdd, Nat.reduceLeDiff, Nat.reduceMul, Nat.reduceSub, List.getElem?_nil, List.length_nil, List.nil_append, List.append_nil, List.take_zero, List.map_nil, Option.map_none, Option.bind_none, reduceCtorEq, Int.toNat_natCast, Int.natCast_nonneg, List.not_mem_nil, retQ, resAll, resOne, resTup, AV.toDataR, wrap_succ, Int.ofNat_lt, Int.not_lt, obo1, obo2, obo3, core1, core2, core3]
  refine hK1 _ ?_
  try clear hK1 K1
  refine AWp.seqK fun K2 hK2 => ?_
  refine AWp.seqK fun K3 hK3 => ?_
  refine AWp.regionC hok htab hnt ?_
  simp only [ARunC, CStep, isRoom, nilCmp, xval, callArgs, bne_self_eq_false,  pval, heff, bopVal, bopInt, lenVal, fieldsOf, ldCells, ldElem, fillCells, setCells, lookVal, mapGet, mapPut, boundOf, idxOk, lensOk, appOk, Value.cells, TK.agg, thenQ, inBlockQ, AS.put, AS.ev, startT, upd_eq, dstOk, gslot, condP, tabs, reduceIte, Nat.reduceLT, Nat.reduceEqDiff, Nat.reduceAdd, Nat.reduceLeDiff, Nat.reduceMul, Nat.reduceSub, List.getElem?_nil, List.length_nil, List.nil_append, List.append_nil, List.take_zero, List.map_nil, Option.map_none, Option.bind_none, reduceCtorEq, Int.toNat_natCast, Int.natCast_nonneg, List.not_mem_nil, retQ, resAll, resOne, resTup, AV.toDataR, wrap_succ, Int.ofNat_lt, Int.not_lt, obo1, obo2, obo3, core1, core2, core3]
  refine hK3 _ ?_
  try clear hK3 K3
  refine AWp.condB (by simp only [AS.ev, upd_eq, Nat.reduceEqDiff, if_true, if_false, reduceIte, reduceCtorEq]; rfl) (fun hc => ?_) (fun hc => ?_)
  all_goals (try simp only [decide_eq_true_eq, decide_eq_false_iff_not, Int.ofNat_lt, Int.not_lt, Nat.not_lt, bne_iff_ne, bne_eq_false_iff_eq, ne_eq, Bool.not_eq_true', Bool.not_eq_false', Bool.and_eq_true, Bool.or_eq_true, Bool.and_eq_false_iff, Bool.or_eq_false_iff, beq_iff_eq, beq_eq_false_iff_ne, Bool.not_eq_eq_eq_not, Bool.not_true, Bool.not_false] at hc)
  · exfalso; omega
  · refine AWp.skip ?_
    refine hK2 _ ?_
    try clear hK2 K2
    refine AWp.seqK fun K9 hK9 => ?_
    refine AWp.seqK fun K10 hK10 => ?_
    have hw : IntKind.i64.wrap ((n : Int) - IntKind.i64.wrap (0 - ((0 : Nat) : Int))) = (n : Int) := by
      rw [show IntKind.i64.wrap (0 - ((0 : Nat) : Int)) = 0 from by decide, Int.sub_zero, IntWalk.i64_in _ (by omega)]
    refine AWp.regionC hok htab hnt ?_
    simp only [ARunC, CStep, isRoom, nilCmp, xval, callArgs, bne_self_eq_false,  pval, heff, bopVal, bopInt, lenVal, fieldsOf, ldCells, ldElem, fillCells, setCells, lookVal, mapGet, mapPut, boundOf, idxOk, lensOk, appOk, Value.cells, TK.agg, thenQ, inBlockQ, AS.put, AS.ev, startT, upd_eq, dstOk, gslot, condP, tabs, reduceIte, Nat.reduceLT, Nat.reduceEqDiff, Nat.reduceAdd, Nat.reduceLeDiff, Nat.reduceMul, Nat.reduceSub, List.getElem?_nil, List.length_nil, List.nil_append, List.append_nil, List.take_zero, List.map_nil, Option.map_none, Option.bind_none, reduceCtorEq, Int.toNat_natCast, Int.natCast_nonneg, List.not_mem_nil, retQ, resAll, resOne, resTup, AV.toDataR, wrap_succ, Int.ofNat_lt, Int.not_lt, obo1, obo2, obo3, core1, core2, core3, hw]
    refine hK10 _ ?_
    try clear hK10 K10
    refine AWp.seqK fun K11 hK11 => ?_
    refine AWp.regionC hok htab hnt ?_
    simp only [ARunC, CStep, isRoom, nilCmp, xval, callArgs, bne_self_eq_false,  pval, heff, bopVal, bopInt, lenVal, fieldsOf, ldCells, ldElem, fillCells, setCells, lookVal, mapGet, mapPut, boundOf, idxOk, lensOk, appOk, Value.cells, TK.agg, thenQ, inBlockQ, AS.put, AS.ev, startT, upd_eq, dstOk, gslot, condP, tabs, reduceIte, Nat.reduceLT, Nat.reduceEqDiff, Nat.reduceAdd, Nat.reduceLeDiff, Nat.reduceMul, Nat.reduceSub, List.getElem?_nil, List.length_nil, List.nil_append, List.append_nil, List.take_zero, List.map_nil, Option.map_none, Option.bind_none, reduceCtorEq, Int.toNat_natCast, Int.natCast_nonneg, List.not_mem_nil, retQ, resAll, resOne, resTup, AV.toDataR, wrap_succ, Int.ofNat_lt, Int.not_lt, obo1, obo2, obo3, core1, core2, core3]
    refine hK11 _ ?_
    try clear hK11 K11
    refine AWp.condB (by simp only [AS.ev, upd_eq, Nat.reduceEqDiff, if_true, if_false, reduceIte, reduceCtorEq]; rfl) (fun hc => ?_) (fun hc => ?_)
    all_goals (try simp only [decide_eq_true_eq, decide_eq_false_iff_not, Int.ofNat_lt, Int.not_lt, Nat.not_lt, bne_iff_ne, bne_eq_false_iff_eq, ne_eq, Bool.not_eq_true', Bool.not_eq_false', Bool.and_eq_true, Bool.or_eq_true, Bool.and_eq_false_iff, Bool.or_eq_false_iff, beq_iff_eq, beq_eq_false_iff_ne, Bool.not_eq_eq_eq_not, Bool.not_true, Bool.not_false] at hc)  -- if t16
    · refine AWp.regionC hok htab hnt ?_
      simp only [ARunC, CStep, isRoom, nilCmp, xval, callArgs, bne_self_eq_false,  pval, heff, bopVal, bopInt, lenVal, fieldsOf, ldCells, ldElem, fillCells, setCells, lookVal, mapGet, mapPut, boundOf, idxOk, lensOk, appOk, Value.cells, TK.agg, thenQ, inBlockQ, AS.put, AS.ev, startT, upd_eq, dstOk, gslot, condP, tabs, reduceIte, Nat.reduceLT, Nat.reduceEqDiff, Nat.reduceAdd, Nat.reduceLeDiff, Nat.reduceMul, Nat.reduceSub, List.getElem?_nil, List.length_nil, List.nil_append, List.append_nil, List.take_zero, List.map_nil, Option.map_none, Option.bind_none, reduceCtorEq, Int.toNat_natCast, Int.natCast_nonneg, List.not_mem_nil, retQ, resAll, resOne, resTup, AV.toDataR, wrap_succ, Int.ofNat_lt, Int.not_lt, obo1, obo2, obo3, core1, core2, core3]
      refine AList.room hok htab (c1 := { callee := .builtin .append, args := #[.tmp 20, .tmp 21], argTypes := #[34, 3] }) (c3 := { callee := .builtin .len, args := #[.tmp 23], argTypes := #[34] }) (n := n) rfl rfl rfl rfl rfl rfl rfl rfl tab_34 rfl tab_79 tab_3 rfl (by decide) rfl rfl (by omega) (by simp only [maxLen]; omega) (by simp only [td79]; omega)
        rfl rfl (by simp) rfl rfl rfl rfl rfl rfl rfl rfl rfl (by omega) (by omega) (by omega) (by omega) (by decide) (by decide) ?_
      refine ARunC.sound hok htab hnt _ _ ?_
      simp only [ARunC, CStep, isRoom, nilCmp, xval, callArgs, bne_self_eq_false,  pval, heff, bopVal, bopInt, lenVal, fieldsOf, ldCells, ldElem, fillCells, setCells, lookVal, mapGet, mapPut, boundOf, idxOk, lensOk, appOk, Value.cells, TK.agg, thenQ, inBlockQ, AS.put, AS.ev, startT, upd_eq, dstOk, gslot, condP, tabs, reduceIte, Nat.reduceLT, Nat.reduceEqDiff, Nat.reduceAdd, Nat.reduceLeDiff, Nat.reduceMul, Nat.reduceSub, List.getElem?_nil, List.length_nil, List.nil_append, List.append_nil, List.take_zero, List.map_nil, Option.map_none, Option.bind_none, reduceCtorEq, Int.toNat_natCast, Int.natCast_nonneg, List.not_mem_nil, retQ, resAll, resOne, resTup, AV.toDataR, wrap_succ, Int.ofNat_lt, Int.not_lt, obo1, obo2, obo3, core1, core2, core3]
      refine hK9 _ ?_
      try clear hK9 K9
      refine AWp.seqK fun K12 hK12 => ?_
      refine AWp.regionC hok htab hnt ?_
      simp only [ARunC, CStep, isRoom, nilCmp, xval, callArgs, bne_self_eq_false,  pval, heff, bopVal, bopInt, lenVal, fieldsOf, ldCells, ldElem, fillCells, setCells, lookVal, mapGet, mapPut, boundOf, idxOk, lensOk, appOk, Value.cells, TK.agg, thenQ, inBlockQ, AS.put, AS.ev, startT, upd_eq, dstOk, gslot, condP, tabs, reduceIte, Nat.reduceLT, Nat.reduceEqDiff, Nat.reduceAdd, Nat.reduceLeDiff, Nat.reduceMul, Nat.reduceSub, List.getElem?_nil, List.length_nil, List.nil_append, List.append_nil, List.take_zero, List.map_nil, Option.map_none, Option.bind_none, reduceCtorEq, Int.toNat_natCast, Int.natCast_nonneg, List.not_mem_nil, retQ, resAll, resOne, resTup, AV.toDataR, wrap_succ, Int.ofNat_lt, Int.not_lt, obo1, obo2, obo3, core1, core2, core3]
      refine hK12 _ ?_
      try clear hK12 K12
      refine AWp.ret ?_
      simp only [ARunC, CStep, isRoom, nilCmp, xval, callArgs, bne_self_eq_false,  pval, heff, bopVal, bopInt, lenVal, fieldsOf, ldCells, ldElem, fillCells, setCells, lookVal, mapGet, mapPut, boundOf, idxOk, lensOk, appOk, Value.cells, TK.agg, thenQ, inBlockQ, AS.put, AS.ev, startT, upd_eq, dstOk, gslot, condP, tabs, reduceIte, Nat.reduceLT, Nat.reduceEqDiff, Nat.reduceAdd, Nat.reduceLeDiff, Nat.reduceMul, Nat.reduceSub, List.getElem?_nil, List.length_nil, List.nil_append, List.append_nil, List.take_zero, List.map_nil, Option.map_none, Option.bind_none, reduceCtorEq, Int.toNat_natCast, Int.natCast_nonneg, List.not_mem_nil, retQ, resAll, resOne, resTup, AV.toDataR, wrap_succ, Int.ofNat_lt, Int.not_lt, obo1, obo2, obo3, core1, core2, core3, Try.results113, retH]
      have e : List.take (hp.length + 1) (hp ++ [AObj.row 79 2 []]) = hp ++ [AObj.row 79 2 []] := List.take_of_length_le (by simp)
      rw [e]
      refine ⟨fun o ho => ?_, ?_, rfl⟩
      · rcases List.mem_append.1 ho with h1 | h1
        · exact hcl o h1
        · rw [List.mem_singleton.1 h1]; rfl
      · simp [AV.out, AV.outV, AV.outC, AV.closedC]
    · refine AWp.skip ?_
      refine hK9 _ ?_
      try clear hK9 K9
      refine AWp.weak (Weak.row hok 0 79 2 (by decide) rfl) ?_
      refine AWp.seqK fun K13 hK13 => ?_
      refine AWp.regionC hok htab hnt ?_
      simp only [ARunC, CStep, isRoom, nilCmp, xval, callArgs, bne_self_eq_false,  pval, heff, bopVal, bopInt, lenVal, fieldsOf, ldCells, ldElem, fillCells, setCells, lookVal, mapGet, mapPut, boundOf, idxOk, lensOk, appOk, Value.cells, TK.agg, thenQ, inBlockQ, AS.put, AS.ev, startT, upd_eq, dstOk, gslot, condP, tabs, reduceIte, Nat.reduceLT, Nat.reduceEqDiff, Nat.reduceAdd, Nat.reduceLeDiff, Nat.reduceMul, Nat.reduceSub, List.getElem?_nil, List.length_nil, List.nil_append, List.append_nil, List.take_zero, List.map_nil, Option.map_none, Option.bind_none, reduceCtorEq, Int.toNat_natCast, Int.natCast_nonneg, List.not_mem_nil, retQ, resAll, resOne, resTup, AV.toDataR, wrap_succ, Int.ofNat_lt, Int.not_lt, obo1, obo2, obo3, core1, core2, core3]
      refine hK13 _ ?_
      try clear hK13 K13
      refine AWp.ret ?_
      simp only [ARunC, CStep, isRoom, nilCmp, xval, callArgs, bne_self_eq_false,  pval, heff, bopVal, bopInt, lenVal, fieldsOf, ldCells, ldElem, fillCells, setCells, lookVal, mapGet, mapPut, boundOf, idxOk, lensOk, appOk, Value.cells, TK.agg, thenQ, inBlockQ, AS.put, AS.ev, startT, upd_eq, dstOk, gslot, condP, tabs, reduceIte, Nat.reduceLT, Nat.reduceEqDiff, Nat.reduceAdd, Nat.reduceLeDiff, Nat.reduceMul, Nat.reduceSub, List.getElem?_nil, List.length_nil, List.nil_append, List.append_nil, List.take_zero, List.map_nil, Option.map_none, Option.bind_none, reduceCtorEq, Int.toNat_natCast, Int.natCast_nonneg, List.not_mem_nil, retQ, resAll, resOne, resTup, AV.toDataR, wrap_succ, Int.ofNat_lt, Int.not_lt, obo1, obo2, obo3, core1, core2, core3, Try.results113, retH]
      have e : List.take (hp.length + 1) (hp ++ [AObj.row 79 2 []]) = hp ++ [AObj.row 79 2 []] := List.take_of_length_le (by simp)
      rw [e]
      refine ⟨fun o ho => ?_, ?_, rfl⟩
      · rcases List.mem_append.1 ho with h1 | h1
        · exact hcl o h1
        · rw [List.mem_singleton.1 h1]; rfl
      · simp [AV.out, AV.outV, AV.outC, AV.closedC]

/-- The types of some rows, one after the other. -/
def encRows (ll : List (List Ty)) : List AV := ll.map fun l => .sl (l.map Ty.enc)

theorem encRows_getD {ll : List (List Ty)} {k : Nat} (h : k < ll.length) : (encRows ll).getD k .top = .sl (ll[k].map Ty.enc) := by
  simp [encRows, List.getD, h]

theorem encRows_len (ll : List (List Ty)) : (encRows ll).length = ll.length := by simp [encRows]

theorem flat_take {ll : List (List Ty)} {k : Nat} (h : k < ll.length) : (ll.take (k + 1)).flatten = (ll.take k).flatten ++ ll[k] := by
  rw [List.take_succ_eq_append_getElem h, List.flatten_append, List.flatten_singleton]

theorem flat_take_le (ll : List (List Ty)) (k : Nat) : (ll.take k).flatten.length ≤ ll.flatten.length := by
  have h : ll.flatten = (ll.take k).flatten ++ (ll.drop k).flatten := by rw [← List.flatten_append, List.take_append_drop]
  rw [h, List.length_append]; omega

theorem enc_cells_mem {l : List Ty} {x : AV} (h : x ∈ l.map Ty.enc) : x.cells.length = 2 := by
  obtain ⟨t, _, rfl⟩ := List.mem_map.1 h
  exact t.enc_len

theorem concat_calls {ll : List (List Ty)} (h0 : ll.length ≤ 1000000000) (hn : ll.flatten.length ≤ 1000000000) :
    PureIs Try.prog 70 [.sl (encRows ll)] (.sl (ll.flatten.map Ty.enc)) := by
  refine pure_of_body tab_ok (fn := Try.f70) Try.func70 rfl (by kernel_rfl) (by simp [Try.ntmps70]) ?_
  intro Γ hok hP hnt hh0 hfree0
  rw [Try.ntmps70] at hnt
  have htab : TabOk Γ.P tab := by rw [hP]; exact tab_ok
  refine AWp.seqK fun K1 hK1 => ?_
  refine AWp.regionC hok htab hnt ?_
  simp only [ARunC, CStep, isRoom, nilCmp, xval, callArgs, bne_self_eq_false,  pval, heff, bopVal, bopInt, lenVal, fieldsOf, ldCells, ldElem, fillCells, setCells, lookVal, mapGet, mapPut, boundOf, idxOk, lensOk, appOk, Value.cells, TK.agg, thenQ, inBlockQ, AS.put, AS.ev, startT, upd_eq, dstOk, gslot, condP, tabs, reduceIte, Nat.reduceLT, Nat.reduceEqDiff, Nat.reduceAdd, Nat.reduceLeDiff, Nat.reduceMul, Nat.reduceSub, List.getElem?_nil, List.length_nil, List.nil_append, List.append_nil, List.take_zero, List.map_nil, Option.map_none, Option.bind_none, reduceCtorEq, Int.toNat_natCast, Int.natCast_nonneg, List.not_mem_nil, retQ, resAll, resOne, resTup, AV.toDataR, wrap_succ, Int.ofNat_lt, Int.not_lt, obo1, obo2, obo3, core1, core2, core3]
  refine hK1 _ ?_
  try clear hK1 K1
  refine AWp.seqK fun K2 hK2 => ?_
  refine AWp.regionC hok htab hnt ?_
  simp only [ARunC, CStep, isRoom, nilCmp, xval, callArgs, bne_self_eq_false,  pval, heff, bopVal, bopInt, lenVal, fieldsOf, ldCells, ldElem, fillCells, setCells, lookVal, mapGet, mapPut, boundOf, idxOk, lensOk, appOk, Value.cells, TK.agg, thenQ, inBlockQ, AS.put, AS.ev, startT, upd_eq, dstOk, gslot, condP, tabs, reduceIte, Nat.reduceLT, Nat.reduceEqDiff, Nat.reduceAdd, Nat.reduceLeDiff, Nat.reduceMul, Nat.reduceSub, List.getElem?_nil, List.length_nil, List.nil_append, List.append_nil, List.take_zero, List.map_nil, Option.map_none, Option.bind_none, reduceCtorEq, Int.toNat_natCast, Int.natCast_nonneg, List.not_mem_nil, retQ, resAll, resOne, resTup, AV.toDataR, wrap_succ, Int.ofNat_lt, Int.not_lt, obo1, obo2, obo3, core1, core2, core3]
  refine hK2 _ ?_
  try clear hK2 K2
  refine AWp.seqK fun K3 hK3 => ?_
  refine AWp.seqK fun K4 hK4 => ?_
  refine AWp.regionC hok htab hnt ?_
  simp only [ARunC, CStep, isRoom, nilCmp, xval, callArgs, bne_self_eq_false,  pval, heff, bopVal, bopInt, lenVal, fieldsOf, ldCells, ldElem, fillCells, setCells, lookVal, mapGet, mapPut, boundOf, idxOk, lensOk, appOk, Value.cells, TK.agg, thenQ, inBlockQ, AS.put, AS.ev, startT, upd_eq, dstOk, gslot, condP, tabs, reduceIte, Nat.reduceLT, Nat.reduceEqDiff, Nat.reduceAdd, Nat.reduceLeDiff, Nat.reduceMul, Nat.reduceSub, List.getElem?_nil, List.length_nil, List.nil_append, List.append_nil, List.take_zero, List.map_nil, Option.map_none, Option.bind_none, reduceCtorEq, Int.toNat_natCast, Int.natCast_nonneg, List.not_mem_nil, retQ, resAll, resOne, resTup, AV.toDataR, wrap_succ, Int.ofNat_lt, Int.not_lt, obo1, obo2, obo3, core1, core2, core3, encRows_len]
  refine hK4 _ ?_
  try clear hK4 K4
  refine AWp.block ?_
  refine AWp.loop (fun k : Nat => k ≤ ll.length)
    (fun k => ⟨(upd (upd (upd (upd (upd (fun _ => .top) 0 (.sl (encRows ll))) 3 (.prim (.int .i64 ((ll.take k).flatten.length : Nat)))) 9 (.sl (encRows ll))) 10 (.prim (.int .i64 (ll.length : Nat)))) 11 (.prim (.int .i64 (k : Nat)))), [], ()⟩)
    (fun k => ll.length - k) 0 (Nat.zero_le _) ?_ ?_
  · refine Weak.cut hok 0 (by omega) ?_ ?_ ?_ ?_
    · repeat' (first | exact Sub.nil | refine Sub.upd ?_ ?_)
      all_goals rfl
    · repeat' (first | exact ShutF.nil | refine ShutF.upd ?_ ?_)
      all_goals first | rfl | assumption | exact CapsOk.cl (by assumption) _
    · rfl
    · simp [AObj.closed, AV.closedC]
  · intro k hk
    refine AWp.seqK fun K5 hK5 => ?_
    refine AWp.regionC hok htab hnt ?_
    simp only [ARunC, CStep, isRoom, nilCmp, xval, callArgs, bne_self_eq_false,  pval, heff, bopVal, bopInt, lenVal, fieldsOf, ldCells, ldElem, fillCells, setCells, lookVal, mapGet, mapPut, boundOf, idxOk, lensOk, appOk, Value.cells, TK.agg, thenQ, inBlockQ, AS.put, AS.ev, startT, upd_eq, dstOk, gslot, condP, tabs, reduceIte, Nat.reduceLT, Nat.reduceEqDiff, Nat.reduceAdd, Nat.reduceLeDiff, Nat.reduceMul, Nat.reduceSub, List.getElem?_nil, List.length_nil, List.nil_append, List.append_nil, List.take_zero, List.map_nil, Option.map_none, Option.bind_none, reduceCtorEq, Int.toNat_natCast, Int.natCast_nonneg, List.not_mem_nil, retQ, resAll, resOne, resTup, AV.toDataR, wrap_succ, Int.ofNat_lt, Int.not_lt, obo1, obo2, obo3, core1, core2, core3]
    refine hK5 _ ?_
    try clear hK5 K5
    refine AWp.seqK fun K6 hK6 => ?_
    refine AWp.condB (by simp only [AS.ev, upd_eq, Nat.reduceEqDiff, if_true, if_false, reduceIte, reduceCtorEq]; rfl) (fun hc => ?_) (fun hc => ?_)
    all_goals (try simp only [decide_eq_true_eq, decide_eq_false_iff_not, Int.ofNat_lt, Int.not_lt, Nat.not_lt, bne_iff_ne, bne_eq_false_iff_eq, ne_eq, Bool.not_eq_true', Bool.not_eq_false', Bool.and_eq_true, Bool.or_eq_true, Bool.and_eq_false_iff, Bool.or_eq_false_iff, beq_iff_eq, beq_eq_false_iff_ne, Bool.not_eq_eq_eq_not, Bool.not_true, Bool.not_false] at hc)  -- if t12
    · refine AWp.skip ?_
      refine hK6 _ ?_
      try clear hK6 K6
      have hg := encRows_getD hc
      have hle := flat_take_le ll (k + 1)
      have hft := flat_take hc
      have hln : (ll.take (k + 1)).flatten.length = (ll.take k).flatten.length + ll[k].length := by rw [hft, List.length_append]
      refine AWp.seqK fun K7 hK7 => ?_
      refine AWp.block ?_
      refine AWp.seqK fun K8 hK8 => ?_
      refine AWp.regionC hok htab hnt ?_
      simp only [ARunC, CStep, isRoom, nilCmp, xval, callArgs, bne_self_eq_false,  pval, heff, bopVal, bopInt, lenVal, fieldsOf, ldCells, ldElem, fillCells, setCells, lookVal, mapGet, mapPut, boundOf, idxOk, lensOk, appOk, Value.cells, TK.agg, thenQ, inBlockQ, AS.put, AS.ev, startT, upd_eq, dstOk, gslot, condP, tabs, reduceIte, Nat.reduceLT, Nat.reduceEqDiff, Nat.reduceAdd, Nat.reduceLeDiff, Nat.reduceMul, Nat.reduceSub, List.getElem?_nil, List.length_nil, List.nil_append, List.append_nil, List.take_zero, List.map_nil, Option.map_none, Option.bind_none, reduceCtorEq, Int.toNat_natCast, Int.natCast_nonneg, List.not_mem_nil, retQ, resAll, resOne, resTup, AV.toDataR, wrap_succ, Int.ofNat_lt, Int.not_lt, obo1, obo2, obo3, core1, core2, core3, hg, encRows_len]
      refine ⟨by omega, ?_⟩ -- index t13 := (indexAddr 170 t9 t11)
      refine hK8 _ ?_
      try clear hK8 K8
      refine AWp.seqK fun K9 hK9 => ?_
      have hw : IntKind.i64.wrap (((ll.take k).flatten.length : Int) + (ll[k].length : Int)) = (((ll.take (k + 1)).flatten.length : Nat) : Int) := by
        rw [IntWalk.i64_in _ (by omega)]; omega
      refine AWp.regionC hok htab hnt ?_
      simp only [ARunC, CStep, isRoom, nilCmp, xval, callArgs, bne_self_eq_false,  pval, heff, bopVal, bopInt, lenVal, fieldsOf, ldCells, ldElem, fillCells, setCells, lookVal, mapGet, mapPut, boundOf, idxOk, lensOk, appOk, Value.cells, TK.agg, thenQ, inBlockQ, AS.put, AS.ev, startT, upd_eq, dstOk, gslot, condP, tabs, reduceIte, Nat.reduceLT, Nat.reduceEqDiff, Nat.reduceAdd, Nat.reduceLeDiff, Nat.reduceMul, Nat.reduceSub, List.getElem?_nil, List.length_nil, List.nil_append, List.append_nil, List.take_zero, List.map_nil, Option.map_none, Option.bind_none, reduceCtorEq, Int.toNat_natCast, Int.natCast_nonneg, List.not_mem_nil, retQ, resAll, resOne, resTup, AV.toDataR, wrap_succ, Int.ofNat_lt, Int.not_lt, obo1, obo2, obo3, core1, core2, core3, hw]
      refine hK9 _ ?_
      try clear hK9 K9
      refine AWp.seqK fun K10 hK10 => ?_
      refine AWp.regionC hok htab hnt ?_
      simp only [ARunC, CStep, isRoom, nilCmp, xval, callArgs, bne_self_eq_false,  pval, heff, bopVal, bopInt, lenVal, fieldsOf, ldCells, ldElem, fillCells, setCells, lookVal, mapGet, mapPut, boundOf, idxOk, lensOk, appOk, Value.cells, TK.agg, thenQ, inBlockQ, AS.put, AS.ev, startT, upd_eq, dstOk, gslot, condP, tabs, reduceIte, Nat.reduceLT, Nat.reduceEqDiff, Nat.reduceAdd, Nat.reduceLeDiff, Nat.reduceMul, Nat.reduceSub, List.getElem?_nil, List.length_nil, List.nil_append, List.append_nil, List.take_zero, List.map_nil, Option.map_none, Option.bind_none, reduceCtorEq, Int.toNat_natCast, Int.natCast_nonneg, List.not_mem_nil, retQ, resAll, resOne, resTup, AV.toDataR, wrap_succ, Int.ofNat_lt, Int.not_lt, obo1, obo2, obo3, core1, core2, core3]
      refine hK10 _ ?_
      try clear hK10 K10
      refine AWp.condB (by simp only [AS.ev, upd_eq, Nat.reduceEqDiff, if_true, if_false, reduceIte, reduceCtorEq]; rfl) (fun hc => ?_) (fun hc => ?_)
      all_goals (try simp only [decide_eq_true_eq, decide_eq_false_iff_not, Int.ofNat_lt, Int.not_lt, Nat.not_lt, bne_iff_ne, bne_eq_false_iff_eq, ne_eq, Bool.not_eq_true', Bool.not_eq_false', Bool.and_eq_true, Bool.or_eq_true, Bool.and_eq_false_iff, Bool.or_eq_false_iff, beq_iff_eq, beq_eq_false_iff_ne, Bool.not_eq_eq_eq_not, Bool.not_true, Bool.not_false] at hc)  -- if t20
      · exfalso; omega
      · refine AWp.skip ?_
        refine hK7 _ ?_
        try clear hK7 K7
        have hw1 : IntKind.i64.wrap ((k : Int) + 1) = ((k + 1 : Nat) : Int) := wrap_succ (by omega)
        refine AWp.regionC hok htab hnt ?_
        simp only [ARunC, CStep, isRoom, nilCmp, xval, callArgs, bne_self_eq_false,  pval, heff, bopVal, bopInt, lenVal, fieldsOf, ldCells, ldElem, fillCells, setCells, lookVal, mapGet, mapPut, boundOf, idxOk, lensOk, appOk, Value.cells, TK.agg, thenQ, inBlockQ, AS.put, AS.ev, startT, upd_eq, dstOk, gslot, condP, tabs, reduceIte, Nat.reduceLT, Nat.reduceEqDiff, Nat.reduceAdd, Nat.reduceLeDiff, Nat.reduceMul, Nat.reduceSub, List.getElem?_nil, List.length_nil, List.nil_append, List.append_nil, List.take_zero, List.map_nil, Option.map_none, Option.bind_none, reduceCtorEq, Int.toNat_natCast, Int.natCast_nonneg, List.not_mem_nil, retQ, resAll, resOne, resTup, AV.toDataR, wrap_succ, Int.ofNat_lt, Int.not_lt, obo1, obo2, obo3, core1, core2, core3, hw1]
        refine ⟨k + 1, by omega, ?_, by omega⟩
        refine Weak.cut hok 0 (by omega) ?_ ?_ ?_ ?_
        · repeat' (first | exact Sub.nil | refine Sub.upd ?_ ?_)
          all_goals rfl
        · repeat' (first | exact ShutF.nil | refine ShutF.upd ?_ ?_)
          all_goals first | rfl | assumption | exact CapsOk.cl (by assumption) _
        · rfl
        · simp [AObj.closed, AV.closedC]
    · obtain rfl : k = ll.length := by omega
      refine AWp.exit ?_
      simp only [ARunC, CStep, isRoom, nilCmp, xval, callArgs, bne_self_eq_false,  pval, heff, bopVal, bopInt, lenVal, fieldsOf, ldCells, ldElem, fillCells, setCells, lookVal, mapGet, mapPut, boundOf, idxOk, lensOk, appOk, Value.cells, TK.agg, thenQ, inBlockQ, AS.put, AS.ev, startT, upd_eq, dstOk, gslot, condP, tabs, reduceIte, Nat.reduceLT, Nat.reduceEqDiff, Nat.reduceAdd, Nat.reduceLeDiff, Nat.reduceMul, Nat.reduceSub, List.getElem?_nil, List.length_nil, List.nil_append, List.append_nil, List.take_zero, List.map_nil, Option.map_none, Option.bind_none, reduceCtorEq, Int.toNat_natCast, Int.natCast_nonneg, List.not_mem_nil, retQ, resAll, resOne, resTup, AV.toDataR, wrap_succ, Int.ofNat_lt, Int.not_lt, obo1, obo2, obo3, core1, core2, core3]
      refine hK3 _ ?_
      try clear hK3 K3
      refine AWp.seqK fun K11 hK11 => ?_
      refine AWp.regionC hok htab hnt ?_
      simp only [ARunC, CStep, isRoom, nilCmp, xval, callArgs, bne_self_eq_false,  pval, heff, bopVal, bopInt, lenVal, fieldsOf, ldCells, ldElem, fillCells, setCells, lookVal, mapGet, mapPut, boundOf, idxOk, lensOk, appOk, Value.cells, TK.agg, thenQ, inBlockQ, AS.put, AS.ev, startT, upd_eq, dstOk, gslot, condP, tabs, reduceIte, Nat.reduceLT, Nat.reduceEqDiff, Nat.reduceAdd, Nat.reduceLeDiff, Nat.reduceMul, Nat.reduceSub, List.getElem?_nil, List.length_nil, List.nil_append, List.append_nil, List.take_zero, List.map_nil, Option.map_none, Option.bind_none, reduceCtorEq, Int.toNat_natCast, Int.natCast_nonneg, List.not_mem_nil, retQ, resAll, resOne, resTup, AV.toDataR, wrap_succ, Int.ofNat_lt, Int.not_lt, obo1, obo2, obo3, core1, core2, core3, List.take_length]
      have hcall := grow_calls (hp := []) hn (by simp)
      rw [← hP] at hcall
      refine .inr ⟨_, hcall, ?_⟩ -- t24 := CALL (value F113) [c(slice none 0 0) t23] :[34 3] ty34   after 0d
      rintro r hp' ⟨rfl, rfl⟩
      refine ARunC.sound hok htab hnt _ _ ?_
      simp only [ARunC, CStep, isRoom, nilCmp, xval, callArgs, bne_self_eq_false,  pval, heff, bopVal, bopInt, lenVal, fieldsOf, ldCells, ldElem, fillCells, setCells, lookVal, mapGet, mapPut, boundOf, idxOk, lensOk, appOk, Value.cells, TK.agg, thenQ, inBlockQ, AS.put, AS.ev, startT, upd_eq, dstOk, gslot, condP, tabs, reduceIte, Nat.reduceLT, Nat.reduceEqDiff, Nat.reduceAdd, Nat.reduceLeDiff, Nat.reduceMul, Nat.reduceSub, List.getElem?_nil, List.length_nil, List.nil_append, List.append_nil, List.take_zero, List.map_nil, Option.map_none, Option.bind_none, reduceCtorEq, Int.toNat_natCast, Int.natCast_nonneg, List.not_mem_nil, retQ, resAll, resOne, resTup, AV.toDataR, wrap_succ, Int.ofNat_lt, Int.not_lt, obo1, obo2, obo3, core1, core2, core3]
      refine hK11 _ ?_
      try clear hK11 K11
      refine AWp.seqK fun K12 hK12 => ?_
      refine AWp.seqK fun K13 hK13 => ?_
      refine AWp.regionC hok htab hnt ?_
      simp only [ARunC, CStep, isRoom, nilCmp, xval, callArgs, bne_self_eq_false,  pval, heff, bopVal, bopInt, lenVal, fieldsOf, ldCells, ldElem, fillCells, setCells, lookVal, mapGet, mapPut, boundOf, idxOk, lensOk, appOk, Value.cells, TK.agg, thenQ, inBlockQ, AS.put, AS.ev, startT, upd_eq, dstOk, gslot, condP, tabs, reduceIte, Nat.reduceLT, Nat.reduceEqDiff, Nat.reduceAdd, Nat.reduceLeDiff, Nat.reduceMul, Nat.reduceSub, List.getElem?_nil, List.length_nil, List.nil_append, List.append_nil, List.take_zero, List.map_nil, Option.map_none, Option.bind_none, reduceCtorEq, Int.toNat_natCast, Int.natCast_nonneg, List.not_mem_nil, retQ, resAll, resOne, resTup, AV.toDataR, wrap_succ, Int.ofNat_lt, Int.not_lt, obo1, obo2, obo3, core1, core2, core3, encRows_len]
      refine hK13 _ ?_
      try clear hK13 K13
      refine AWp.block ?_
      refine AWp.loop (fun k : Nat => k ≤ ll.length)
        (fun k => ⟨(upd (upd (upd (upd (fun _ => .top) 6 (.own 0 (ll.take k).flatten.length)) 25 (.sl (encRows ll))) 26 (.prim (.int .i64 (ll.length : Nat)))) 27 (.prim (.int .i64 (k : Nat)))), [.row 79 2 ((ll.take k).flatten.map Ty.enc)], ()⟩)
        (fun k => ll.length - k) 0 (Nat.zero_le _) ?_ ?_
      · refine Weak.cut hok 1 (by omega) ?_ ?_ ?_ ?_
        · repeat' (first | exact Sub.nil | refine Sub.upd ?_ ?_)
          all_goals rfl
        · repeat' (first | exact ShutF.nil | refine ShutF.upd ?_ ?_)
          all_goals first | rfl | assumption | exact CapsOk.cl (by assumption) _
        · rfl
        · simp [AObj.closed, AV.closedC]
      · intro k hk
        refine AWp.seqK fun K14 hK14 => ?_
        refine AWp.regionC hok htab hnt ?_
        simp only [ARunC, CStep, isRoom, nilCmp, xval, callArgs, bne_self_eq_false,  pval, heff, bopVal, bopInt, lenVal, fieldsOf, ldCells, ldElem, fillCells, setCells, lookVal, mapGet, mapPut, boundOf, idxOk, lensOk, appOk, Value.cells, TK.agg, thenQ, inBlockQ, AS.put, AS.ev, startT, upd_eq, dstOk, gslot, condP, tabs, reduceIte, Nat.reduceLT, Nat.reduceEqDiff, Nat.reduceAdd, Nat.reduceLeDiff, Nat.reduceMul, Nat.reduceSub, List.getElem?_nil, List.length_nil, List.nil_append, List.append_nil, List.take_zero, List.map_nil, Option.map_none, Option.bind_none, reduceCtorEq, Int.toNat_natCast, Int.natCast_nonneg, List.not_mem_nil, retQ, resAll, resOne, resTup, AV.toDataR, wrap_succ, Int.ofNat_lt, Int.not_lt, obo1, obo2, obo3, core1, core2, core3]
        refine hK14 _ ?_
        try clear hK14 K14
        refine AWp.seqK fun K15 hK15 => ?_
        refine AWp.condB (by simp only [AS.ev, upd_eq, Nat.reduceEqDiff, if_true, if_false, reduceIte, reduceCtorEq]; rfl) (fun hc => ?_) (fun hc => ?_)
        all_goals (try simp only [decide_eq_true_eq, decide_eq_false_iff_not, Int.ofNat_lt, Int.not_lt, Nat.not_lt, bne_iff_ne, bne_eq_false_iff_eq, ne_eq, Bool.not_eq_true', Bool.not_eq_false', Bool.and_eq_true, Bool.or_eq_true, Bool.and_eq_false_iff, Bool.or_eq_false_iff, beq_iff_eq, beq_eq_false_iff_ne, Bool.not_eq_eq_eq_not, Bool.not_true, Bool.not_false] at hc)  -- if t28
        · refine AWp.skip ?_
          refine hK15 _ ?_
          try clear hK15 K15
          have hg := encRows_getD hc
          have hle := flat_take_le ll (k + 1)
          have hft := flat_take hc
          have hln : (ll.take (k + 1)).flatten.length = (ll.take k).flatten.length + ll[k].length := by rw [hft, List.length_append]
          refine AWp.seqK fun K16 hK16 => ?_
          refine AWp.block ?_
          refine AWp.seqK fun K17 hK17 => ?_
          refine AWp.regionC hok htab hnt ?_
          simp only [ARunC, CStep, isRoom, nilCmp, xval, callArgs, bne_self_eq_false,  pval, heff, bopVal, bopInt, lenVal, fieldsOf, ldCells, ldElem, fillCells, setCells, lookVal, mapGet, mapPut, boundOf, idxOk, lensOk, appOk, Value.cells, TK.agg, thenQ, inBlockQ, AS.put, AS.ev, startT, upd_eq, dstOk, gslot, condP, tabs, reduceIte, Nat.reduceLT, Nat.reduceEqDiff, Nat.reduceAdd, Nat.reduceLeDiff, Nat.reduceMul, Nat.reduceSub, List.getElem?_nil, List.length_nil, List.nil_append, List.append_nil, List.take_zero, List.map_nil, Option.map_none, Option.bind_none, reduceCtorEq, Int.toNat_natCast, Int.natCast_nonneg, List.not_mem_nil, retQ, resAll, resOne, resTup, AV.toDataR, wrap_succ, Int.ofNat_lt, Int.not_lt, obo1, obo2, obo3, core1, core2, core3, hg, encRows_len]
          refine ⟨by omega, ?_⟩ -- index t29 := (indexAddr 170 t25 t27)
          refine hK17 _ ?_
          try clear hK17 K17
          refine AWp.regionC hok htab hnt ?_
          simp only [ARunC, CStep, isRoom, nilCmp, xval, callArgs, bne_self_eq_false,  pval, heff, bopVal, bopInt, lenVal, fieldsOf, ldCells, ldElem, fillCells, setCells, lookVal, mapGet, mapPut, boundOf, idxOk, lensOk, appOk, Value.cells, TK.agg, thenQ, inBlockQ, AS.put, AS.ev, startT, upd_eq, dstOk, gslot, condP, tabs, reduceIte, Nat.reduceLT, Nat.reduceEqDiff, Nat.reduceAdd, Nat.reduceLeDiff, Nat.reduceMul, Nat.reduceSub, List.getElem?_nil, List.length_nil, List.nil_append, List.append_nil, List.take_zero, List.map_nil, Option.map_none, Option.bind_none, reduceCtorEq, Int.toNat_natCast, Int.natCast_nonneg, List.not_mem_nil, retQ, resAll, resOne, resTup, AV.toDataR, wrap_succ, Int.ofNat_lt, Int.not_lt, obo1, obo2, obo3, core1, core2, core3]
          refine ⟨⟨fun x hx => enc_cells_mem hx, by simp only [maxLen]; omega, by omega⟩, ?_⟩
          refine hK16 _ ?_
          try clear hK16 K16
          have hw1 : IntKind.i64.wrap ((k : Int) + 1) = ((k + 1 : Nat) : Int) := wrap_succ (by omega)
          refine AWp.regionC hok htab hnt ?_
          simp only [ARunC, CStep, isRoom, nilCmp, xval, callArgs, bne_self_eq_false,  pval, heff, bopVal, bopInt, lenVal, fieldsOf, ldCells, ldElem, fillCells, setCells, lookVal, mapGet, mapPut, boundOf, idxOk, lensOk, appOk, Value.cells, TK.agg, thenQ, inBlockQ, AS.put, AS.ev, startT, upd_eq, dstOk, gslot, condP, tabs, reduceIte, Nat.reduceLT, Nat.reduceEqDiff, Nat.reduceAdd, Nat.reduceLeDiff, Nat.reduceMul, Nat.reduceSub, List.getElem?_nil, List.length_nil, List.nil_append, List.append_nil, List.take_zero, List.map_nil, Option.map_none, Option.bind_none, reduceCtorEq, Int.toNat_natCast, Int.natCast_nonneg, List.not_mem_nil, retQ, resAll, resOne, resTup, AV.toDataR, wrap_succ, Int.ofNat_lt, Int.not_lt, obo1, obo2, obo3, core1, core2, core3, hw1]
          refine ⟨k + 1, by omega, ?_, by omega⟩
          rw [← hln]
          refine Weak.cut hok 1 (by omega) ?_ ?_ ?_ ?_
          · repeat' (first | exact Sub.nil | refine Sub.upd ?_ ?_)
            all_goals rfl
          · repeat' (first | exact ShutF.nil | refine ShutF.upd ?_ ?_)
            all_goals first | rfl | assumption | exact CapsOk.cl (by assumption) _
          · rw [hft, List.map_append]; rfl
          · simp [AObj.closed, AV.closedC]
        · obtain rfl : k = ll.length := by omega
          refine AWp.exit ?_
          simp only [ARunC, CStep, isRoom, nilCmp, xval, callArgs, bne_self_eq_false,  pval, heff, bopVal, bopInt, lenVal, fieldsOf, ldCells, ldElem, fillCells, setCells, lookVal, mapGet, mapPut, boundOf, idxOk, lensOk, appOk, Value.cells, TK.agg, thenQ, inBlockQ, AS.put, AS.ev, startT, upd_eq, dstOk, gslot, condP, tabs, reduceIte, Nat.reduceLT, Nat.reduceEqDiff, Nat.reduceAdd, Nat.reduceLeDiff, Nat.reduceMul, Nat.reduceSub, List.getElem?_nil, List.length_nil, List.nil_append, List.append_nil, List.take_zero, List.map_nil, Option.map_none, Option.bind_none, reduceCtorEq, Int.toNat_natCast, Int.natCast_nonneg, List.not_mem_nil, retQ, resAll, resOne, resTup, AV.toDataR, wrap_succ, Int.ofNat_lt, Int.not_lt, obo1, obo2, obo3, core1, core2, core3]
          refine hK12 _ ?_
          try clear hK12 K12
          refine AWp.seqK fun K18 hK18 => ?_
          refine AWp.regionC hok htab hnt ?_
          simp only [ARunC, CStep, isRoom, nilCmp, xval, callArgs, bne_self_eq_false,  pval, heff, bopVal, bopInt, lenVal, fieldsOf, ldCells, ldElem, fillCells, setCells, lookVal, mapGet, mapPut, boundOf, idxOk, lensOk, appOk, Value.cells, TK.agg, thenQ, inBlockQ, AS.put, AS.ev, startT, upd_eq, dstOk, gslot, condP, tabs, reduceIte, Nat.reduceLT, Nat.reduceEqDiff, Nat.reduceAdd, Nat.reduceLeDiff, Nat.reduceMul, Nat.reduceSub, List.getElem?_nil, List.length_nil, List.nil_append, List.append_nil, List.take_zero, List.map_nil, Option.map_none, Option.bind_none, reduceCtorEq, Int.toNat_natCast, Int.natCast_nonneg, List.not_mem_nil, retQ, resAll, resOne, resTup, AV.toDataR, wrap_succ, Int.ofNat_lt, Int.not_lt, obo1, obo2, obo3, core1, core2, core3]
          refine hK18 _ ?_
          try clear hK18 K18
          refine AWp.ret ?_
          simp only [ARunC, CStep, isRoom, nilCmp, xval, callArgs, bne_self_eq_false,  pval, heff, bopVal, bopInt, lenVal, fieldsOf, ldCells, ldElem, fillCells, setCells, lookVal, mapGet, mapPut, boundOf, idxOk, lensOk, appOk, Value.cells, TK.agg, thenQ, inBlockQ, AS.put, AS.ev, startT, upd_eq, dstOk, gslot, condP, tabs, reduceIte, Nat.reduceLT, Nat.reduceEqDiff, Nat.reduceAdd, Nat.reduceLeDiff, Nat.reduceMul, Nat.reduceSub, List.getElem?_nil, List.length_nil, List.nil_append, List.append_nil, List.take_zero, List.map_nil, Option.map_none, Option.bind_none, reduceCtorEq, Int.toNat_natCast, Int.natCast_nonneg, List.not_mem_nil, retQ, resAll, resOne, resTup, AV.toDataR, wrap_succ, Int.ofNat_lt, Int.not_lt, obo1, obo2, obo3, core1, core2, core3, Try.results70, List.take_length]

end Go.Proofs.Ytfbncddnakaaiaa
/- Contracts: kind.Arrow, term.Var, pattern.Vars, term.Copy. -/
namespace Go.Proofs.Ytfbncddnakaaiaa
open Go
set_option linter.unusedSimpArgs false
set_option linter.unusedVariables false

def Ty.arrow (t : Ty) (l : List Ty) : Ty := .mk (l ++ t.args) t.base

theorem arrow_calls {t : Ty} {l : List Ty} (h : Ty.sizes l + t.size ≤ 1000000000) : PureIs Try.prog 92 [t.enc, .sl (l.map Ty.enc)] (t.arrow l).enc := by
  have hl := Ty.sizes_len l
  have hl2 := Ty.sizes_len t.args
  have hs := t.size_eq
  have hc1 := concat_calls (ll := [l, t.args]) (by simp) (by simp; omega)
  have hc2 := copied_calls _ (.mk (l ++ t.args) t.base) (Nat.le_refl _) (by simp only [Ty.size, Ty.sizes_append]; omega)
  simp only [encRows, List.map_cons, List.map_nil, List.flatten_cons, List.flatten_nil, List.append_nil] at hc1
  rw [Ty.enc_mk] at hc2
  rw [Ty.arrow, Ty.enc_mk, Ty.enc_eq t]
  exact vc92_ok ⟨_, hc1, _, _, hc2, rfl⟩

/-! ### term.Var -/

mutual
def Tm.var : Tm → Option (Int × Int)
  | .mk b k i a => if a.length = b.length ∧ ¬ (k = 0 ∧ i < b.length) then (if Tm.varArgs b.length 0 b a = true then some (k, if k = 0 then IntKind.wrap .i64 (i - b.length) else i) else none) else none
def Tm.varArgs (n : Nat) : Nat → List Ty → List Tm → Bool
  | k, t :: b, a :: l => (match Tm.var a with
    | some (q, j) => q == 0 && j == (n : Int) - 1 - k && Ty.sames a.binds t.args
    | none => false) && Tm.varArgs n (k + 1) b l
  | _, _, _ => true
end

def varRes : Option (Int × Int) → AV
  | some (k, i) => .tup [.agg [nI k, nI i], nB true]
  | none => .tup [.agg [nI 0, nI 0], nB false]

theorem Tm.var_eq (t : Tm) : Tm.var t = if t.args.length = t.binds.length ∧ ¬ (t.kind = 0 ∧ t.index < t.binds.length) then (if Tm.varArgs t.binds.length 0 t.binds t.args = true then some (t.kind, if t.kind = 0 then IntKind.wrap .i64 (t.index - t.binds.length) else t.index) else none) else none := by
  cases t; rw [Tm.var]; rfl

theorem Tm.varArgs_drop {n : Nat} {b : List Ty} {a : List Tm} {k : Nat} (h1 : k < b.length) (h2 : k < a.length) : Tm.varArgs n k (b.drop k) (a.drop k) = ((match Tm.var a[k] with
    | some (q, j) => q == 0 && j == (n : Int) - 1 - k && Ty.sames a[k].binds b[k].args
    | none => false) && Tm.varArgs n (k + 1) (b.drop (k + 1)) (a.drop (k + 1))) := by
  rw [List.drop_eq_getElem_cons h1, List.drop_eq_getElem_cons h2, Tm.varArgs]

theorem var_calls : ∀ (n : Nat) (t : Tm), t.size ≤ n → n ≤ 1000000000 → PureIs Try.prog 80 [t.enc] (varRes t.var) := by
  intro n
  induction n with
  | zero => intro t h; have := t.size_pos; omega
  | succ n ih =>
    intro t h hn
    have hq := Tm.sizes_len t.args
    have hq2 := Ty.sizes_len t.binds
    have hts := t.size_eq
    rw [Tm.var_eq, Tm.enc_eq]
    have loop : t.args.length = t.binds.length → ¬ (t.kind = 0 ∧ t.index < t.binds.length) → vc80_L6 (((), (), ((List.length (t.binds.map Ty.enc) : Nat) : Int), (), t.args.map Tm.enc, ((List.length (t.args.map Tm.enc) : Nat) : Int), 0, ()), ((t.binds.map Ty.enc, t.kind, t.index, t.args.map Tm.enc, ()), (0, 0, ()), (t.kind, t.index, ()), ())) (fun x => x = varRes (if t.args.length = t.binds.length ∧ ¬ (t.kind = 0 ∧ t.index < t.binds.length) then (if Tm.varArgs t.binds.length 0 t.binds t.args = true then some (t.kind, if t.kind = 0 then IntKind.wrap .i64 (t.index - t.binds.length) else t.index) else none) else none)) := by
      intro hlen hk
      rw [if_pos ⟨hlen, hk⟩]
      refine LoopP.intro (fun k : Nat => (((), (), (t.binds.length : Int), (), t.args.map Tm.enc, (t.args.length : Int), (k : Int), ()), ((t.binds.map Ty.enc, t.kind, t.index, t.args.map Tm.enc, ()), (0, 0, ()), (t.kind, t.index, ()), ())))
        (fun k => k ≤ t.args.length ∧ Tm.varArgs t.binds.length 0 t.binds t.args = Tm.varArgs t.binds.length k (t.binds.drop k) (t.args.drop k)) (fun k => t.args.length - k) 0 (by rw [List.length_map, List.length_map]; rfl) ⟨Nat.zero_le _, rfl⟩ ?_
      intro k ⟨hk1, hs⟩ again hag
      dsimp only
      refine ITE.intro (fun h => ?_) fun h => ?_
      · have hlt : k < t.args.length := by simpa using h
        rw [Tm.varArgs_drop (by omega) hlt] at hs
        have hi := ih t.args[k] (by have := Tm.arg_size hlt; omega) (by omega)
        have hbs := Ty.sizes_len t.args[k].binds
        have hbz := t.args[k].size_eq
        have hbw := Tm.arg_size hlt
        have he := equals_calls (l := t.args[k].binds) (m := (t.binds[k]'(by omega)).args) (by omega) (fun j h1 h2 => equal_calls _ _ _ (Nat.le_refl _) (by have := Ty.sizes_mem (List.getElem_mem h1); omega))
        rw [Tm.enc_eq] at hi
        refine ⟨by omega, by rw [List.length_map]; omega, _, _, _, _, Tm.enc_getD hlt, ?_⟩
        cases hv : t.args[k].var with
        | none =>
          rw [hv] at hi hs
          refine ⟨_, _, _, hi, ITE.pos rfl ?_⟩
          rw [hs]; simp [varRes]
        | some p =>
          obtain ⟨q, j⟩ := p
          rw [hv] at hi hs
          refine ⟨_, _, _, hi, ITE.neg rfl ?_⟩
          rw [wrap_i (n := (t.binds.length : Int) - 1) (by omega) (by omega), wrap_i (by omega) (by omega)]
          dsimp only at hs
          refine ITE.intro (fun h => ?_) fun h => ?_
          · have : (q == 0 && j == (t.binds.length : Int) - 1 - k) = false := by rw [Bool.not_eq_true'] at h; exact h
            rw [hs, this]; simp [varRes]
          · have : (q == 0 && j == (t.binds.length : Int) - 1 - k) = true := by rw [Bool.not_eq_false'] at h; exact h
            rw [this, Bool.true_and] at hs
            refine ⟨by omega, by rw [List.length_map]; omega, _, _, Ty.enc_getD (by omega), _, he, ITE.intro (fun h => ?_) fun h => ?_⟩
            · have : Ty.sames t.args[k].binds (t.binds[k]'(by omega)).args = false := by simpa using h
              rw [hs, this]; simp [varRes]
            · have : Ty.sames t.args[k].binds (t.binds[k]'(by omega)).args = true := by simpa using h
              rw [this, Bool.true_and] at hs
              rw [wrap_n (by omega)]
              exact hag (k + 1) ⟨by omega, hs⟩ (by omega)
      · have : t.args.length ≤ k := by simpa using h
        have hnil : Tm.varArgs t.binds.length k [] [] = true := by simp [Tm.varArgs]
        rw [List.drop_eq_nil_of_le this, List.drop_eq_nil_of_le (by omega), hnil] at hs
        rw [if_pos hs]
        refine ITE.intro (fun h => ?_) fun h => ?_
        · have h0 : t.kind = 0 := by simpa using h
          rw [if_pos h0]; rfl
        · have h0 : ¬ t.kind = 0 := by simpa using h
          rw [if_neg h0]; rfl
    refine vc80_ok (ITE.intro (fun h => ?_) fun h => ?_)
    · have : ¬ t.args.length = t.binds.length := by simp at h; omega
      rw [if_neg (fun h => this h.1)]; rfl
    · have hlen : t.args.length = t.binds.length := by simp at h; omega
      refine ITE.intro (fun h => ?_) fun h => ?_
      · have h0 : t.kind = 0 := by simpa using h
        refine ITE.intro (fun h => ?_) fun h => ?_
        · have : t.index < t.binds.length := by simpa using h
          rw [if_neg (fun h => h.2 ⟨h0, this⟩)]; rfl
        · exact loop hlen fun h1 => by simp at h; omega
      · exact loop hlen fun h1 => by simp at h; exact h h1.1

/-! ### term.Copy -/

theorem copy1_calls (i : Int) : PureIs Try.prog 115 [nI i] (nI i) := vc115_ok rfl

def I64 (i : Int) : Prop := -9223372036854775808 ≤ i ∧ i < 9223372036854775808
theorem I64.wrap {i : Int} (h : I64 i) : IntKind.wrap .i64 i = i := wrap_i h.1 h.2
mutual
def Tm.Ok : Tm → Prop
  | .mk _ k i a => I64 k ∧ I64 i ∧ Tm.Oks a
def Tm.Oks : List Tm → Prop
  | [] => True
  | t :: l => Tm.Ok t ∧ Tm.Oks l
end
theorem Tm.Oks_mem {l : List Tm} (h : Tm.Oks l) {t : Tm} (ht : t ∈ l) : t.Ok := by
  induction l with
  | nil => cases ht
  | cons u l ih =>
    obtain ⟨h1, h2⟩ := h
    rcases List.mem_cons.1 ht with rfl | h3
    · exact h1
    · exact ih h2 h3
theorem Tm.Oks_of {l : List Tm} (h : ∀ t ∈ l, t.Ok) : Tm.Oks l := by
  induction l with
  | nil => exact True.intro
  | cons u l ih => exact ⟨h u List.mem_cons_self, ih fun t ht => h t (List.mem_cons_of_mem _ ht)⟩
theorem Tm.ok_eq {t : Tm} (h : t.Ok) : I64 t.kind ∧ I64 t.index ∧ Tm.Oks t.args := by cases t; exact h

theorem tturned_calls : ∀ (n : Nat) (t : Tm) (a : Nat), t.size ≤ n → n ≤ 1000000000 → t.Ok → a + t.size ≤ 2000000000 → PureIs Try.prog 114 [t.enc, nI a, .clo 115 []] t.enc := by
  intro n
  induction n with
  | zero => intro t a h; have := t.size_pos; omega
  | succ n ih =>
    intro t a h hn hk ha
    have hq := Tm.sizes_len t.args
    have hq2 := Ty.sizes_len t.binds
    have hts := t.size_eq
    obtain ⟨hk1, hk2, hk3⟩ := Tm.ok_eq hk
    have harr := arrow_calls (t := .mk [] 0) (l := t.binds) (by simp [Ty.size, Ty.sizes]; omega)
    rw [Ty.arrow, Ty.args_mk, Ty.base_mk, List.append_nil, Ty.enc_mk, Ty.enc_mk, List.map_nil] at harr
    have hw : IntKind.wrap .i64 ((a : Int) + ((List.length (t.binds.map Ty.enc) : Nat) : Int)) = ((a + t.binds.length : Nat) : Int) := by rw [List.length_map, wrap_i (by omega) (by omega)]; omega
    have loop : vc114_L6 ((((a + t.binds.length : Nat) : Int), (), (), (), t.args.map Tm.enc, ((List.length (t.args.map Tm.enc) : Nat) : Int), 0, ()), ((t.binds.map Ty.enc, t.kind, t.index, t.args.map Tm.enc, ()), ((), 0, 0, (), ()), (t.binds.map Ty.enc, t.kind, t.index, (), ()), [], ())) (fun x => x = t.enc) := by
      refine LoopP.intro (fun k : Nat => ((((a + t.binds.length : Nat) : Int), (), (), (), t.args.map Tm.enc, (t.args.length : Int), (k : Int), ()), ((t.binds.map Ty.enc, t.kind, t.index, t.args.map Tm.enc, ()), ((), 0, 0, (), ()), (t.binds.map Ty.enc, t.kind, t.index, (), ()), (t.args.take k).map Tm.enc, ())))
        (fun k => k ≤ t.args.length) (fun k => t.args.length - k) 0 (by rw [List.length_map]; rfl) (Nat.zero_le _) ?_
      intro k hk again hag
      dsimp only
      refine ITE.intro (fun h => ?_) fun h => ?_
      · have hlt : k < t.args.length := by simpa using h
        have hz := Tm.arg_size hlt
        have hi := ih t.args[k] (a + t.binds.length) (by omega) (by omega) (Tm.Oks_mem hk3 (List.getElem_mem hlt)) (by have := Tm.sizes_mem (List.getElem_mem hlt); omega)
        rw [Tm.enc_eq] at hi
        refine ⟨by omega, by rw [List.length_map]; omega, _, _, _, _, Tm.enc_getD hlt, _, _, _, _, hi, rfl, appOk_one rfl (by simp; omega) (by decide), rfl, ?_⟩
        rw [wrap_n (by omega), Tm.enc_snoc, take_snoc' hlt]
        exact hag (k + 1) (by omega) (by omega)
      · have : t.args.length ≤ k := by simpa using h
        refine ⟨rfl, ?_⟩
        rw [List.take_of_length_le this, ← Tm.enc_eq]
    rw [Tm.enc_eq]
    rw [Tm.enc_eq] at loop
    refine vc114_ok ⟨_, _, harr, ?_⟩
    rw [hw]
    refine ITE.intro (fun h => ?_) fun h => ⟨rfl, loop⟩
    refine ITE.intro (fun h => ?_) fun h => ⟨rfl, loop⟩
    have hge : ((a + t.binds.length : Nat) : Int) ≤ t.index := by simpa using h
    refine ⟨_, copy1_calls _, rfl, ?_⟩
    unfold I64 at hk2
    rw [wrap_i (n := t.index - ((a + t.binds.length : Nat) : Int)) (by omega) (by omega), show ((a + t.binds.length : Nat) : Int) + (t.index - ((a + t.binds.length : Nat) : Int)) = t.index from by omega, wrap_i hk2.1 hk2.2]
    exact loop

theorem copy_calls {t : Tm} (h : t.size ≤ 1000000000) (hk : t.Ok) : PureIs Try.prog 72 [t.enc] t.enc := by
  have := tturned_calls _ t 0 (Nat.le_refl _) h hk (by omega)
  rw [Tm.enc_eq] at this ⊢
  exact vc72_ok ⟨_, _, _, _, this, rfl⟩

end Go.Proofs.Ytfbncddnakaaiaa
/- Contracts: pattern.places, types, Take. -/
namespace Go.Proofs.Ytfbncddnakaaiaa
open Go
set_option linter.unusedSimpArgs false
set_option linter.unusedVariables false

theorem mapGet_snoc {l : List (Int × Value)} {i v : Int} {x : Value} (h : mapGet l v = none) : mapGet (mapPut l v x) i = if i = v then some x else mapGet l i := by
  induction l with
  | nil => rfl
  | cons p l ih =>
    obtain ⟨k, u⟩ := p
    simp only [mapGet] at h
    split at h
    · cases h
    · rename_i hk
      simp only [mapPut, if_neg hk, mapGet, ih h]
      by_cases h1 : i = k
      · subst h1; rw [if_pos rfl, if_neg (fun e => hk e.symm), if_pos rfl]
      · rw [if_neg h1, if_neg h1]

/-- where a number stands among some. -/
def posN : List Int → Int → Option Nat
  | [], _ => none
  | v :: l, i => if i = v then some 0 else (posN l i).map (· + 1)
theorem posN_none {l : List Int} {i : Int} : posN l i = none ↔ ¬ i ∈ l := by
  induction l with
  | nil => simp [posN]
  | cons v l ih =>
    simp only [posN]
    split
    · rename_i h; simp [h]
    · rename_i h; simp [ih, h]
theorem posN_snoc {l : List Int} {v i : Int} (h : ¬ v ∈ l) : posN (l ++ [v]) i = if i = v then some l.length else posN l i := by
  induction l with
  | nil => simp [posN]
  | cons u l ih =>
    have h1 : ¬ v = u := fun e => h (by rw [e]; simp)
    have h2 : ¬ v ∈ l := fun e => h (List.mem_cons_of_mem _ e)
    simp only [List.cons_append, posN, ih h2]
    by_cases hi : i = u
    · subst hi
      rw [if_pos rfl, if_pos rfl, if_neg (fun e => h1 e.symm)]
    · rw [if_neg hi, if_neg hi]
      split <;> simp
theorem posN_lt {l : List Int} {i : Int} {k : Nat} (h : posN l i = some k) : k < l.length := by
  induction l generalizing k with
  | nil => cases h
  | cons u l ih =>
    simp only [posN] at h
    split at h
    · cases h; simp
    · cases hp : posN l i with
      | none => rw [hp] at h; cases h
      | some j => rw [hp] at h; cases h; have := ih hp; simp; omega

/-- the map that places makes: it stands for the numbers' places. -/
def IsPos (es : List (Int × Value)) (l : List Int) : Prop := ∀ i, mapGet es i = (posN l i).map fun k => Value.int .i64 (k : Nat)

def mayB (n : Int) (l : List Int) : Bool := decide (l.Nodup ∧ ∀ v ∈ l, 0 ≤ v ∧ v < n)

theorem places_calls {n : Int} {l : List Int} (hsz : l.length ≤ 1000000000) : Pure Try.prog 67 [nI n, .sl (encInts l)]
    (fun r => (mayB n l = true ∧ ∃ es, IsPos es l ∧ r = .tup [.mapv es, nB true]) ∨ (mayB n l = false ∧ r = .tup [.prim (.map none), nB false])) := by
  refine vc67_ok ?_
  unfold vc67 vc67_L3
  refine LoopP.intro (fun p : Nat × List (Int × Value) => ((n, (), encInts l, (l.length : Int), (p.1 : Int), ()), (p.2, ()))) (fun p => p.1 ≤ l.length ∧ mayB n (l.take p.1) = true ∧ IsPos p.2 (l.take p.1)) (fun p => l.length - p.1) (0, [])
    (by rw [encInts_len]; rfl) ⟨Nat.zero_le _, by simp [mayB], fun i => rfl⟩ ?_
  intro ⟨k, es⟩ ⟨hk, hm, hp⟩ again hag
  dsimp only at hk hm hp ⊢
  refine ITE.intro (fun h => ?_) fun h => ?_
  · have hlt : k < l.length := by simpa using h
    have hsplit : l = l.take k ++ l[k] :: l.drop (k + 1) := by rw [← List.drop_eq_getElem_cons hlt, List.take_append_drop]
    have bad : ¬ (l[k] ∉ l.take k ∧ 0 ≤ l[k] ∧ l[k] < n) → mayB n l = false := by
      intro hb
      unfold mayB
      rw [decide_eq_false_iff_not]
      rintro ⟨h1, h2⟩
      refine hb ⟨fun hmem => ?_, h2 _ (List.getElem_mem hlt)⟩
      rw [hsplit, List.nodup_append] at h1
      exact h1.2.2 _ hmem _ List.mem_cons_self rfl
    refine ⟨by omega, by rw [encInts_len]; omega, _, encInts_getD hlt, ?_⟩
    have hg := hp l[k]
    refine ⟨?_, ?_⟩
    · rw [hg]; cases posN (l.take k) l[k] <;> rfl
    refine ITE.intro (fun h => ?_) fun h => ?_
    · refine .inr ⟨bad fun hh => ?_, rfl⟩
      rw [hg, posN_none.2 hh.1] at h
      cases h
    · have hnone : mapGet es l[k] = none := by simpa using h
      have hnp : posN (l.take k) l[k] = none := by rw [hnone] at hg; cases hq : posN (l.take k) l[k] with
        | none => rfl
        | some j => rw [hq] at hg; cases hg
      have hnm := posN_none.1 hnp
      refine ITE.intro (fun h => ?_) fun h => ?_
      · exact .inr ⟨bad fun hh => by simp at h; omega, rfl⟩
      refine ITE.intro (fun h2 => ?_) fun h2 => ?_
      · exact .inr ⟨bad fun hh => by simp at h2; omega, rfl⟩
      rw [wrap_n (by omega)]
      refine hag (k + 1, mapPut es l[k] (.int .i64 (k : Int))) ⟨by simp only; omega, ?_, ?_⟩ (by simp only; omega)
      · unfold mayB at hm ⊢
        rw [decide_eq_true_eq] at hm ⊢
        rw [List.take_succ_eq_append_getElem hlt]
        refine ⟨?_, fun v hv => ?_⟩
        · rw [List.nodup_append]
          exact ⟨hm.1, by simp, fun a ha b hb e => by rw [List.mem_singleton.1 hb] at e; rw [e] at ha; exact hnm ha⟩
        · rcases List.mem_append.1 hv with h3 | h3
          · exact hm.2 v h3
          · rw [List.mem_singleton.1 h3]; simp at h h2; omega
      · intro i
        have : (l.take k).length = k := by simp; omega
        rw [mapGet_snoc hnone, List.take_succ_eq_append_getElem hlt, posN_snoc hnm, this, hp i]
        split <;> rfl
  · have : l.length ≤ k := by simpa using h
    rw [List.take_of_length_le this] at hm hp
    exact .inl ⟨hm, es, hp, rfl⟩

theorem mayB_iff {n : Int} {l : List Int} : mayB n l = true ↔ l.Nodup ∧ ∀ v ∈ l, 0 ≤ v ∧ v < n := by simp [mayB]

def typesOf (b : List Ty) (l : List Int) : List Ty := l.map fun v => b.getD (b.length - 1 - v.toNat) (.mk [] 0)

theorem types_calls {b : List Ty} {l : List Int} (hb : b.length ≤ 1000000000) (hsz : l.length ≤ 1000000000) (hm : ∀ v ∈ l, 0 ≤ v ∧ v < b.length) : PureIs Try.prog 71 [.sl (b.map Ty.enc), .sl (encInts l)] (.sl ((typesOf b l).map Ty.enc)) := by
  refine vc71_ok ⟨rfl, ?_⟩
  refine LoopP.intro (fun k : Nat => ((b.map Ty.enc, (), encInts l, (l.length : Int), (k : Int), ()), ((typesOf b (l.take k)).map Ty.enc, ()))) (fun k => k ≤ l.length) (fun k => l.length - k) 0 (by rw [encInts_len]; rfl) (Nat.zero_le _) ?_
  intro k hk again hag
  dsimp only
  refine ITE.intro (fun h => ?_) fun h => ?_
  · have hlt : k < l.length := by simpa using h
    have hv := hm l[k] (List.getElem_mem hlt)
    obtain ⟨v, hvn⟩ : ∃ v : Nat, l[k] = (v : Int) := ⟨l[k].toNat, by omega⟩
    have hw : IntKind.wrap .i64 (IntKind.wrap .i64 (((List.length (b.map Ty.enc) : Nat) : Int) - 1) - l[k]) = ((b.length - 1 - v : Nat) : Int) := by
      rw [List.length_map, wrap_i (n := (b.length : Int) - 1) (by omega) (by omega), wrap_i (by omega) (by omega)]; omega
    refine ⟨by omega, by rw [encInts_len]; omega, _, encInts_getD hlt, ?_⟩
    rw [hw]
    have hlt2 : b.length - 1 - v < b.length := by omega
    refine ⟨by omega, by rw [List.length_map]; omega, _, _, Ty.enc_getD hlt2, rfl, appOk_one rfl (by simp [typesOf]; omega) (by decide), rfl, ?_⟩
    rw [wrap_n (by omega), Ty.enc_snoc]
    have : typesOf b (l.take k) ++ [b[b.length - 1 - v]] = typesOf b (l.take (k + 1)) := by
      rw [List.take_succ_eq_append_getElem hlt]
      simp [typesOf, hvn, List.getD, hlt2]
    rw [this]
    exact hag (k + 1) (by omega) (by omega)
  · have : l.length ≤ k := by simpa using h
    refine ⟨rfl, ?_⟩
    rw [List.take_of_length_le this]

/-! ### Take -/

def takeHp (t : Tm) (n m : Int) (es : List (Int × Value)) (e : Int) : List AObj :=
  [.box [.sl (t.binds.map Ty.enc), nI t.kind, nI t.index, .sl (t.args.map Tm.enc)], .box [.prim (.slice none 0 0), nI 0, nI 0, .prim (.slice none 0 0)], .box [nI n], .box [nI m], .box [.mapv es], .box [nI e]]

/-- what an index that is loose becomes. -/
def takeIx (n : Int) (l : List Int) (i : Int) : Int := if n ≤ i then i - n + l.length else l.length - 1 - ((posN l i).getD 0 : Nat)
def takeBad (n : Int) (l : List Int) (i : Int) : Bool := decide (i < n ∧ ¬ i ∈ l)

theorem take1_calls {t : Tm} {n : Nat} {l : List Int} {es : List (Int × Value)} {e i : Int} (hp : IsPos es l) (hn : n ≤ 1000000000) (hl : l.length ≤ n) (hi : 0 ≤ i) (hi2 : i < 9223372036854775808) :
    HFn Try.prog 69 [nI i, .ptr 2 0, .ptr 3 0, .ptr 4 0, .ptr 5 0] (takeHp t n l.length es e)
      (fun r h => r = nI (takeIx n l i) ∧ h = takeHp t n l.length es (if takeBad n l i then 9 else e)) := by
  refine vc69_ok (ITE.intro (fun h => ?_) fun h => ?_)
  · have : (n : Int) ≤ i := by simpa using h
    rw [wrap_i (n := i - n) (by omega) (by omega), wrap_i (by omega) (by omega)]
    have h2 : takeBad n l i = false := by simp [takeBad]; omega
    rw [h2, takeIx, if_pos this]; exact ⟨rfl, rfl⟩
  · have hlt : ¬ (n : Int) ≤ i := by simpa using h
    have hg := hp i
    have hv : vInt (Option.getD (mapGet es i) (.int .i64 0)) = ((posN l i).getD 0 : Nat) := by rw [hg]; cases posN l i <;> rfl
    have hlp : ((posN l i).getD 0) ≤ l.length := by
      cases hq : posN l i with
      | none => simp
      | some k => have := posN_lt hq; simp; omega
    refine ⟨by rw [hg]; cases posN l i <;> rfl, ?_⟩
    rw [hv, wrap_i (n := (l.length : Int) - 1) (by omega) (by omega), wrap_i (by omega) (by omega), takeIx, if_neg hlt]
    refine ITE.intro (fun h => ?_) fun h => ?_
    · have : posN l i = none := by
        rw [hg] at h
        cases hq : posN l i with
        | none => rfl
        | some k => rw [hq] at h; cases h
      have h2 : takeBad n l i = true := by simp [takeBad, posN_none.1 this]; omega
      rw [h2]; exact ⟨rfl, rfl⟩
    · have : ¬ posN l i = none := by
        rw [hg] at h
        intro hq; rw [hq] at h; cases h
      have h2 : takeBad n l i = false := by
        unfold takeBad
        rw [decide_eq_false_iff_not]
        rintro ⟨_, h3⟩
        exact this (posN_none.2 h3)
      rw [h2]; exact ⟨rfl, rfl⟩

mutual
def Tm.taken (n : Int) (l : List Int) : Nat → Tm → Tm
  | a, .mk b k i xs => .mk b k (if k = 0 ∧ (a + b.length : Nat) ≤ i then (a + b.length : Nat) + takeIx n l (i - (a + b.length : Nat)) else i) (Tm.takens n l (a + b.length) xs)
def Tm.takens (n : Int) (l : List Int) : Nat → List Tm → List Tm
  | _, [] => []
  | a, t :: ts => Tm.taken n l a t :: Tm.takens n l a ts
end
mutual
def Tm.clash (n : Int) (l : List Int) : Nat → Tm → Bool
  | a, .mk b k i xs => decide (k = 0 ∧ (a + b.length : Nat) ≤ i ∧ takeBad n l (i - (a + b.length : Nat)) = true) || Tm.clashs n l (a + b.length) xs
def Tm.clashs (n : Int) (l : List Int) : Nat → List Tm → Bool
  | _, [] => false
  | a, t :: ts => Tm.clash n l a t || Tm.clashs n l a ts
end
theorem Tm.takens_eq (n : Int) (l : List Int) (a : Nat) (ts : List Tm) : Tm.takens n l a ts = ts.map (Tm.taken n l a) := by
  induction ts with
  | nil => rfl
  | cons t ts ih => simp [Tm.takens, ih]
theorem Tm.clashs_eq (n : Int) (l : List Int) (a : Nat) (ts : List Tm) : Tm.clashs n l a ts = ts.any (Tm.clash n l a) := by
  induction ts with
  | nil => rfl
  | cons t ts ih => simp [Tm.clashs, ih]
theorem Tm.taken_eq (n : Int) (l : List Int) (a : Nat) (t : Tm) : Tm.taken n l a t = .mk t.binds t.kind (if t.kind = 0 ∧ (a + t.binds.length : Nat) ≤ t.index then (a + t.binds.length : Nat) + takeIx n l (t.index - (a + t.binds.length : Nat)) else t.index) (t.args.map (Tm.taken n l (a + t.binds.length))) := by
  cases t; rw [Tm.taken, Tm.takens_eq]; rfl
theorem Tm.clash_eq (n : Int) (l : List Int) (a : Nat) (t : Tm) : Tm.clash n l a t = (decide (t.kind = 0 ∧ (a + t.binds.length : Nat) ≤ t.index ∧ takeBad n l (t.index - (a + t.binds.length : Nat)) = true) || t.args.any (Tm.clash n l (a + t.binds.length))) := by
  cases t; rw [Tm.clash, Tm.clashs_eq]; rfl

theorem turned_calls {n : Nat} {l : List Int} {es : List (Int × Value)} {u : Tm} (hp : IsPos es l) (hn : n ≤ 1000000000) (hl : l.length ≤ n) : ∀ (d : Nat) (t : Tm) (a : Nat) (e : Int), t.size ≤ d → d ≤ 1000000000 → t.Ok → a + t.size ≤ 2000000000 →
    HFn Try.prog 68 [t.enc, nI a, .clo 69 [.ptr 2 0, .ptr 3 0, .ptr 4 0, .ptr 5 0]] (takeHp u n l.length es e)
      (fun r h => r = (Tm.taken n l a t).enc ∧ h = takeHp u n l.length es (if Tm.clash n l a t then 9 else e)) := by
  intro d
  induction d with
  | zero => intro t a e h; have := t.size_pos; omega
  | succ d ih =>
    intro t a e h hd hk ha
    have hq := Tm.sizes_len t.args
    have hq2 := Ty.sizes_len t.binds
    have hts := t.size_eq
    obtain ⟨hk1, hk2, hk3⟩ := Tm.ok_eq hk
    have hw : IntKind.wrap .i64 ((a : Int) + ((List.length (t.binds.map Ty.enc) : Nat) : Int)) = ((a + t.binds.length : Nat) : Int) := by rw [List.length_map, wrap_i (by omega) (by omega)]; omega
    -- the loop, from an index and an error that are told
    have loop : ∀ (ix e0 : Int), vc68_L6 ((((a + t.binds.length : Nat) : Int), ((), (), (), (), ()), (), (), (), t.args.map Tm.enc, ((List.length (t.args.map Tm.enc) : Nat) : Int), 0, ()), ((u.binds.map Ty.enc, u.kind, u.index, u.args.map Tm.enc, ()), ((), 0, 0, (), ()), ((n : Int), ()), ((l.length : Int), ()), (es, ()), (e0, ()), (t.binds.map Ty.enc, t.kind, ix, t.args.map Tm.enc, ()), ((), 0, 0, (), ()), [], ()))
        (fun r h => r = (Tm.mk t.binds t.kind ix (t.args.map (Tm.taken n l (a + t.binds.length)))).enc ∧ h = takeHp u n l.length es (if t.args.any (Tm.clash n l (a + t.binds.length)) then 9 else e0)) := by
      intro ix e0
      refine LoopP.intro (fun k : Nat => ((((a + t.binds.length : Nat) : Int), ((), (), (), (), ()), (), (), (), t.args.map Tm.enc, (t.args.length : Int), (k : Int), ()), ((u.binds.map Ty.enc, u.kind, u.index, u.args.map Tm.enc, ()), ((), 0, 0, (), ()), ((n : Int), ()), ((l.length : Int), ()), (es, ()), ((if (t.args.take k).any (Tm.clash n l (a + t.binds.length)) then 9 else e0), ()), (t.binds.map Ty.enc, t.kind, ix, t.args.map Tm.enc, ()), ((), 0, 0, (), ()), ((t.args.take k).map (Tm.taken n l (a + t.binds.length))).map Tm.enc, ())))
        (fun k => k ≤ t.args.length) (fun k => t.args.length - k) 0 (by rw [List.length_map]; rfl) (Nat.zero_le _) ?_
      intro k hk again hag
      dsimp only
      refine ITE.intro (fun h => ?_) fun h => ?_
      · have hlt : k < t.args.length := by simpa using h
        have hz := Tm.arg_size hlt
        have hi := ih t.args[k] (a + t.binds.length) (if (t.args.take k).any (Tm.clash n l (a + t.binds.length)) then 9 else e0) (by omega) (by omega) (Tm.Oks_mem hk3 (List.getElem_mem hlt)) (by have := Tm.sizes_mem (List.getElem_mem hlt); omega)
        rw [Tm.enc_eq t.args[k]] at hi
        refine ⟨by omega, by rw [List.length_map]; omega, _, _, _, _, Tm.enc_getD hlt, _, hi, ?_⟩
        rintro r h' ⟨rfl, rfl⟩
        rw [Tm.enc_eq (Tm.taken _ _ _ _)]
        refine ⟨_, _, _, _, _, _, _, _, _, _, _, _, ⟨rfl, rfl⟩, rfl, appOk_one rfl (by simp; omega) (by decide), rfl, ?_⟩
        have e1 : List.map (Tm.taken n l (a + t.binds.length)) (t.args.take k) ++ [Tm.taken n l (a + t.binds.length) t.args[k]] = List.map (Tm.taken n l (a + t.binds.length)) (t.args.take (k + 1)) := by rw [List.take_succ_eq_append_getElem hlt, List.map_append]; rfl
        have e2 : (if Tm.clash n l (a + t.binds.length) t.args[k] = true then 9 else if (t.args.take k).any (Tm.clash n l (a + t.binds.length)) = true then 9 else e0) = (if (t.args.take (k + 1)).any (Tm.clash n l (a + t.binds.length)) = true then (9 : Int) else e0) := by
          rw [List.take_succ_eq_append_getElem hlt, List.any_append]
          simp only [List.any_cons, List.any_nil, Bool.or_false, Bool.or_eq_true]
          generalize Tm.clash n l (a + t.binds.length) t.args[k] = b1
          generalize (t.args.take k).any (Tm.clash n l (a + t.binds.length)) = b2
          cases b1 <;> cases b2 <;> simp
        rw [wrap_n (by omega), Tm.enc_snoc, e1, e2]
        exact hag (k + 1) (by omega) (by omega)
      · have : t.args.length ≤ k := by simpa using h
        refine ⟨rfl, ?_⟩
        rw [List.take_of_length_le this, Tm.enc_mk]
        exact ⟨rfl, rfl⟩
    have hmk : (0 ≤ ((List.length (t.args.map Tm.enc) : Nat) : Int) ∧ ((List.length (t.args.map Tm.enc) : Nat) : Int) ≤ 9223372036854775807 ∧ (TD.bytes td38 : Int) * ((List.length (t.args.map Tm.enc) : Nat) : Int) ≤ 281474976710656) := by
      rw [List.length_map]
      refine ⟨by omega, by omega, ?_⟩
      show (64 : Int) * _ ≤ _
      omega
    rw [Tm.enc_eq t, Tm.taken_eq, Tm.clash_eq]
    refine vc68_ok ?_
    unfold vc68
    rw [hw]
    refine ITE.intro (fun h => ?_) fun h => ?_
    · have h0 : t.kind = 0 := by simpa using h
      refine ITE.intro (fun h => ?_) fun h => ?_
      · have hge : ((a + t.binds.length : Nat) : Int) ≤ t.index := by simpa using h
        unfold I64 at hk2
        rw [wrap_i (n := t.index - ((a + t.binds.length : Nat) : Int)) (by omega) (by omega)]
        refine ⟨_, take1_calls (t := u) (e := e) hp hn hl (by omega) (by omega), ?_⟩
        rintro r h' ⟨rfl, rfl⟩
        refine ⟨_, _, _, _, _, _, _, _, _, ⟨rfl, rfl⟩, hmk, rfl, ?_⟩
        have hb : takeIx n l (t.index - ((a + t.binds.length : Nat) : Int)) ≤ t.index - ((a + t.binds.length : Nat) : Int) + 1000000000 ∧ -1000000000 ≤ takeIx n l (t.index - ((a + t.binds.length : Nat) : Int)) ∧ (n ≤ t.index - ((a + t.binds.length : Nat) : Int) → takeIx n l (t.index - ((a + t.binds.length : Nat) : Int)) ≤ t.index - ((a + t.binds.length : Nat) : Int)) ∧ (t.index - ((a + t.binds.length : Nat) : Int) < n → takeIx n l (t.index - ((a + t.binds.length : Nat) : Int)) ≤ 1000000000) := by
          unfold takeIx
          have hlp : ((posN l (t.index - ((a + t.binds.length : Nat) : Int))).getD 0) ≤ l.length := by
            cases hq : posN l (t.index - ((a + t.binds.length : Nat) : Int)) with
            | none => simp
            | some k => have := posN_lt hq; simp; omega
          split <;> refine ⟨by omega, by omega, fun _ => by omega, fun _ => by omega⟩
        rw [wrap_i (n := ((a + t.binds.length : Nat) : Int) + takeIx n l (t.index - ((a + t.binds.length : Nat) : Int))) (by omega) (by omega), if_pos (show t.kind = 0 ∧ ((a + t.binds.length : Nat) : Int) ≤ t.index from ⟨h0, hge⟩)]
        have e3 : decide (t.kind = 0 ∧ ((a + t.binds.length : Nat) : Int) ≤ t.index ∧ takeBad n l (t.index - ((a + t.binds.length : Nat) : Int)) = true) = takeBad n l (t.index - ((a + t.binds.length : Nat) : Int)) := by
          simp only [h0, hge, true_and, Bool.decide_eq_true]
        rw [e3]
        have := loop (((a + t.binds.length : Nat) : Int) + takeIx n l (t.index - ((a + t.binds.length : Nat) : Int))) (if takeBad n l (t.index - ((a + t.binds.length : Nat) : Int)) = true then 9 else e)
        have e4 : (if t.args.any (Tm.clash n l (a + t.binds.length)) = true then (9 : Int) else if takeBad n l (t.index - ((a + t.binds.length : Nat) : Int)) = true then 9 else e) = (if (takeBad n l (t.index - ((a + t.binds.length : Nat) : Int)) || t.args.any (Tm.clash n l (a + t.binds.length))) = true then 9 else e) := by
          generalize takeBad n l (t.index - ((a + t.binds.length : Nat) : Int)) = b1
          generalize t.args.any (Tm.clash n l (a + t.binds.length)) = b2
          cases b1 <;> cases b2 <;> simp
        rw [e4] at this
        exact this
      · have hlt : ¬ ((a + t.binds.length : Nat) : Int) ≤ t.index := by simpa using h
        rw [if_neg (show ¬ (t.kind = 0 ∧ ((a + t.binds.length : Nat) : Int) ≤ t.index) from fun h => hlt h.2), show decide (t.kind = 0 ∧ ((a + t.binds.length : Nat) : Int) ≤ t.index ∧ takeBad n l (t.index - ((a + t.binds.length : Nat) : Int)) = true) = false from by rw [decide_eq_false_iff_not]; exact fun h => hlt h.2.1, Bool.false_or]
        exact ⟨hmk, rfl, loop _ _⟩
    · have h0 : ¬ t.kind = 0 := by simpa using h
      rw [if_neg (show ¬ (t.kind = 0 ∧ ((a + t.binds.length : Nat) : Int) ≤ t.index) from fun h => h0 h.1), show decide (t.kind = 0 ∧ ((a + t.binds.length : Nat) : Int) ≤ t.index ∧ takeBad n l (t.index - ((a + t.binds.length : Nat) : Int)) = true) = false from by rw [decide_eq_false_iff_not]; exact fun h => h0 h.1, Bool.false_or]
      exact ⟨hmk, rfl, loop _ _⟩

end Go.Proofs.Ytfbncddnakaaiaa
/- Contracts: pattern.Vars, uses, Uses, Is; Take. -/
namespace Go.Proofs.Ytfbncddnakaaiaa
open Go
set_option linter.unusedSimpArgs false
set_option linter.unusedVariables false

/-! ### Vars -/

def varsFrom (n : Int) : List Int → List Tm → Option (List Int)
  | acc, [] => some acc
  | acc, a :: l => match a.var with
    | some (k, i) => if k = 0 ∧ i < n ∧ ¬ i ∈ acc then varsFrom n (acc ++ [i]) l else none
    | none => none
def Tm.vars (t : Tm) (n : Int) : List Int × Int :=
  if t.kind = 2 ∧ 0 ≤ n then (match varsFrom n [] t.args with
    | some l => (l, 0)
    | none => ([], 6)) else ([], 1)
def errAV (p : List Int × Int) : AV := .tup [.sl (encInts p.1), nI p.2]

def IsSeen (es : List (Int × Value)) (l : List Int) : Prop := ∀ i, mapGet es i = if i ∈ l then some (.bool true) else none
theorem IsSeen.put {es : List (Int × Value)} {l : List Int} {i : Int} (h : IsSeen es l) (hi : ¬ i ∈ l) : IsSeen (mapPut es i (.bool true)) (l ++ [i]) := by
  intro j
  have hn : mapGet es i = none := by rw [h i, if_neg hi]
  rw [mapGet_snoc hn, h j]
  by_cases h1 : j = i
  · subst h1; simp
  · simp [h1]

theorem varsFrom_len {n : Int} : ∀ {l : List Tm} {acc v : List Int}, varsFrom n acc l = some v → v.length = acc.length + l.length
  | [], acc, v, h => by simp [varsFrom] at h; rw [h]; simp
  | a :: l, acc, v, h => by
    simp only [varsFrom] at h
    split at h
    · split at h
      · have := varsFrom_len h; simp at this ⊢; omega
      · cases h
    · cases h

theorem vars_calls {t : Tm} {n : Int} (h : t.size ≤ 1000000000) : PureIs Try.prog 24 [t.enc, nI n] (errAV (t.vars n)) := by
  have hla := Tm.sizes_len t.args
  have hs := t.size_eq
  have hfc := flex_calls t
  rw [Tm.enc_eq] at hfc ⊢
  refine vc24_ok ⟨_, hfc, ITE.intro (fun h => ?_) fun h => ?_⟩
  · have : ¬ t.kind = 2 := by simpa using h
    rw [Tm.vars, if_neg (fun h => this h.1)]; rfl
  have hk : t.kind = 2 := by simpa using h
  refine ITE.intro (fun h => ?_) fun h => ⟨rfl, ?_⟩
  · have : n < 0 := by simpa using h
    rw [Tm.vars, if_neg (fun h => by omega)]; rfl
  have hn : 0 ≤ n := by simpa using h
  rw [Tm.vars, if_pos ⟨hk, hn⟩]
  unfold vc24_L6
  refine LoopP.intro (fun p : Nat × List Int × List (Int × Value) => ((n, (), (), t.args.map Tm.enc, (t.args.length : Int), (p.1 : Int), ()), ((t.binds.map Ty.enc, t.kind, t.index, t.args.map Tm.enc, ()), p.2.2, encInts p.2.1, ())))
    (fun p => p.1 ≤ t.args.length ∧ p.2.1.length = p.1 ∧ IsSeen p.2.2 p.2.1 ∧ varsFrom n [] t.args = varsFrom n p.2.1 (t.args.drop p.1)) (fun p => t.args.length - p.1) (0, [], []) (by rw [List.length_map]; rfl) ⟨Nat.zero_le _, rfl, fun i => rfl, rfl⟩ ?_
  intro ⟨k, acc, es⟩ ⟨hk1, hl, hse, hv⟩ again hag
  dsimp only at hk1 hl hse hv ⊢
  refine ITE.intro (fun h => ?_) fun h => ?_
  · have hlt : k < t.args.length := by simpa using h
    rw [List.drop_eq_getElem_cons hlt, varsFrom] at hv
    have hz := Tm.arg_size hlt
    have hc := var_calls _ t.args[k] (Nat.le_refl _) (by omega)
    rw [Tm.enc_eq] at hc
    refine ⟨by omega, by rw [List.length_map]; omega, _, _, _, _, Tm.enc_getD hlt, ?_⟩
    cases hvar : t.args[k].var with
    | none =>
      rw [hvar] at hc hv
      dsimp only at hv
      refine ⟨_, _, _, hc, ITE.pos rfl ?_⟩
      rw [hv]; rfl
    | some p =>
      obtain ⟨q, i⟩ := p
      rw [hvar] at hc hv
      dsimp only at hv
      refine ⟨_, _, _, hc, ITE.neg rfl ?_⟩
      refine ITE.intro (fun h => ?_) fun h => ?_
      · have : ¬ q = 0 := by simpa using h
        rw [hv, if_neg (fun h => this h.1)]; rfl
      have hq : q = 0 := by simpa using h
      refine ITE.intro (fun h => ?_) fun h => ?_
      · have : n ≤ i := by simpa using h
        rw [hv, if_neg (fun h => by omega)]; rfl
      have hi : i < n := by simpa using h
      have hg := hse i
      by_cases hm : i ∈ acc
      · rw [if_pos hm] at hg
        rw [hg]
        refine ⟨rfl, ITE.pos rfl ?_⟩
        rw [hv, if_neg (fun h => h.2.2 hm)]; rfl
      · rw [if_neg hm] at hg
        rw [hg]
        refine ⟨rfl, ITE.neg rfl ⟨rfl, appOk_one rfl (by simp [encInts_len]; omega) (by decide), rfl, ?_⟩⟩
        rw [if_pos ⟨hq, hi, hm⟩] at hv
        rw [wrap_n (by omega), encInts_snoc]
        exact hag (k + 1, acc ++ [i], mapPut es i (.bool true)) ⟨by simp only; omega, by simp [hl], hse.put hm, hv⟩ (by simp only; omega)
  · have : t.args.length ≤ k := by simpa using h
    rw [List.drop_eq_nil_of_le this, varsFrom] at hv
    refine ⟨rfl, ?_⟩
    rw [hv]; rfl

/-! ### uses -/

structure Us where
  meta_ : Int
  vars : List Int
  binds : List Ty
  path : List Int
def Us.enc (u : Us) : AV := .agg [nI u.meta_, .sl (encInts u.vars), .sl (u.binds.map Ty.enc), .sl (encInts u.path)]
theorem Us.enc_cells {l : List Us} : ∀ x : AV, x ∈ l.map Us.enc → x.cells.length = 4 := by
  intro x h
  obtain ⟨t, _, rfl⟩ := List.mem_map.1 h
  rfl

mutual
def Tm.uses (around : List Ty) (path : List Int) : Tm → Option (List Us)
  | .mk b k i a => if k = 2 then (match Tm.vars (.mk b k i a) (around ++ b).length with
    | (v, e) => if e = 0 then some [⟨i, v, around ++ b, path⟩] else none) else Tm.usess (around ++ b) path 0 a
def Tm.usess (around : List Ty) (path : List Int) (n : Nat) : List Tm → Option (List Us)
  | [] => some []
  | t :: l => (match Tm.uses around (path ++ [(n : Int)]) t with
    | some u => (match Tm.usess around path (n + 1) l with
      | some us => some (u ++ us)
      | none => none)
    | none => none)
end
theorem Tm.uses_eq (around : List Ty) (path : List Int) (t : Tm) : Tm.uses around path t = if t.kind = 2 then (match t.vars (around ++ t.binds).length with
    | (v, e) => if e = 0 then some [⟨t.index, v, around ++ t.binds, path⟩] else none) else Tm.usess (around ++ t.binds) path 0 t.args := by
  cases t; rw [Tm.uses]; rfl
theorem Tm.usess_drop {around : List Ty} {path : List Int} {l : List Tm} {k : Nat} (h : k < l.length) : Tm.usess around path k (l.drop k) = (match Tm.uses around (path ++ [(k : Int)]) l[k] with
    | some u => (match Tm.usess around path (k + 1) (l.drop (k + 1)) with
      | some us => some (u ++ us)
      | none => none)
    | none => none) := by
  rw [List.drop_eq_getElem_cons h, Tm.usess]

mutual
theorem Tm.uses_len : ∀ {t : Tm} {around : List Ty} {path : List Int} {u : List Us}, Tm.uses around path t = some u → u.length ≤ t.size
  | .mk b k i a, around, path, u, h => by
    rw [Tm.uses] at h
    split at h
    · dsimp only at h
      split at h
      · cases h; simp [Tm.size]; omega
      · cases h
    · have := Tm.usess_len h; simp [Tm.size]; omega
theorem Tm.usess_len : ∀ {l : List Tm} {around : List Ty} {path : List Int} {n : Nat} {u : List Us}, Tm.usess around path n l = some u → u.length ≤ Tm.sizes l
  | [], _, _, _, u, h => by rw [Tm.usess] at h; cases h; simp
  | t :: l, around, path, n, u, h => by
    rw [Tm.usess] at h
    split at h
    · rename_i u1 h1
      split at h
      · rename_i u2 h2
        cases h
        have := Tm.uses_len h1
        have := Tm.usess_len h2
        simp [Tm.sizes]; omega
      · cases h
    · cases h
end

theorem Tm.vars_err {t : Tm} {n : Int} (hk : t.kind = 2) (hn : 0 ≤ n) : (t.vars n).2 = 0 ∨ t.vars n = ([], 6) := by
  rw [Tm.vars, if_pos ⟨hk, hn⟩]
  split
  · exact .inl rfl
  · exact .inr rfl

theorem uses_calls : ∀ (d : Nat) (t : Tm) (us : List Us) (around : List Ty) (path : List Int), t.size ≤ d → d ≤ 100000000 → us.length + t.size ≤ 200000000 → Ty.sizes around + t.size ≤ 200000000 → path.length + t.size ≤ 200000000 →
    HFn Try.prog 83 [.own 0 (us.map Us.enc).length, t.enc, .sl (around.map Ty.enc), .sl (encInts path)] [.row 63 4 (us.map Us.enc)]
      (fun r h => (∃ u, Tm.uses around path t = some u ∧ r = .tup [.own 0 ((us ++ u).map Us.enc).length, nI 0] ∧ h = [.row 63 4 ((us ++ u).map Us.enc)]) ∨ (Tm.uses around path t = none ∧ ∃ l, r = .tup [.prim (.slice none 0 0), nI 6] ∧ h = [.row 63 4 l])) := by
  intro d
  induction d with
  | zero => intro t us around path h; have := t.size_pos; omega
  | succ d ih =>
    intro t us around path hd hd2 h1 h2 h3
    have hla := Tm.sizes_len t.args
    have hlb := Ty.sizes_len t.binds
    have hlc := Ty.sizes_len around
    have hs := t.size_eq
    have hcc := concat_calls (ll := [around, t.binds]) (by simp) (by simp; omega)
    simp only [encRows, List.map_cons, List.map_nil, List.flatten_cons, List.flatten_nil, List.append_nil] at hcc
    have hfc := flex_calls t
    have hvc := vars_calls (t := t) (n := ((around ++ t.binds).length : Nat)) (by omega)
    have harr := arrow_calls (t := .mk [] 0) (l := around ++ t.binds) (by simp [Ty.size, Ty.sizes, Ty.sizes_append]; omega)
    rw [Ty.arrow, Ty.args_mk, Ty.base_mk, List.append_nil, Ty.enc_mk, Ty.enc_mk, List.map_nil] at harr
    rw [Tm.enc_eq] at hfc hvc ⊢
    refine vc83_ok ⟨_, hcc, _, hfc, ITE.intro (fun h => ?_) fun h => ⟨rfl, ?_⟩⟩
    · have hk : t.kind = 2 := by simpa using h
      rw [Tm.uses_eq, if_pos hk, List.length_map]
      refine ⟨_, _, hvc, ?_⟩
      rcases Tm.vars_err hk (show (0 : Int) ≤ (((around ++ t.binds).length : Nat) : Int) by omega) with h0 | h0
      · dsimp only
        rw [h0]
        refine ITE.neg rfl ⟨_, _, harr, _, clone_calls (by omega), rfl, appOk_one rfl (by simp; omega) (by decide), .inl ⟨_, if_pos rfl, ?_⟩⟩
        simp [Us.enc]
      · rw [h0]
        exact ITE.pos rfl (.inr ⟨by simp, _, rfl, rfl⟩)
    · have hk : ¬ t.kind = 2 := by simpa using h
      rw [Tm.uses_eq, if_neg hk]
      unfold vc83_L8
      refine LoopP.intro (fun p : Nat × List Us => (((), (around ++ t.binds).map Ty.enc, encInts path, t.args.map Tm.enc, (t.args.length : Int), (p.1 : Int), ()), ((us ++ p.2).map Us.enc, (t.binds.map Ty.enc, t.kind, t.index, t.args.map Tm.enc, ()), ())))
        (fun p => p.1 ≤ t.args.length ∧ p.2.length ≤ Tm.sizes (t.args.take p.1) ∧ Tm.usess (around ++ t.binds) path 0 t.args = (match Tm.usess (around ++ t.binds) path p.1 (t.args.drop p.1) with | some u => some (p.2 ++ u) | none => none)) (fun p => t.args.length - p.1) (0, []) (by rw [List.length_map]; simp) ⟨Nat.zero_le _, by simp, by simp only [List.drop_zero, List.nil_append]; split <;> simp_all⟩ ?_
      intro ⟨k, u0⟩ ⟨hk1, hl, hv⟩ again hag
      dsimp only at hk1 hl hv ⊢
      refine ITE.intro (fun h => ?_) fun h => ?_
      · have hlt : k < t.args.length := by simpa using h
        have hz := Tm.arg_size hlt
        have hsz : Tm.sizes (t.args.take k) + t.args[k].size ≤ Tm.sizes t.args := by
          have e : t.args = t.args.take k ++ t.args[k] :: t.args.drop (k + 1) := by rw [← List.drop_eq_getElem_cons hlt, List.take_append_drop]
          have e2 : Tm.sizes t.args = Tm.sizes (t.args.take k ++ t.args[k] :: t.args.drop (k + 1)) := by rw [← e]
          rw [e2, Tm.sizes_append, Tm.sizes]; omega
        have htk : Tm.sizes (t.args.take (k + 1)) = Tm.sizes (t.args.take k) + t.args[k].size := by
          rw [List.take_succ_eq_append_getElem hlt, Tm.sizes_append]; simp [Tm.sizes]
        rw [Tm.usess_drop hlt] at hv
        have hi := ih t.args[k] (us ++ u0) (around ++ t.binds) (path ++ [(k : Int)]) (by omega) (by omega) (by simp; omega) (by rw [Ty.sizes_append]; omega) (by simp; omega)
        rw [Tm.enc_eq] at hi
        refine ⟨by omega, by rw [List.length_map]; omega, _, _, _, _, Tm.enc_getD hlt, _, clip_calls, fun h => by simp at h, ?_⟩
        rw [encInts_snoc]
        refine ⟨appOk_mk encInts_cells (fun x hx => by rw [List.mem_singleton.1 hx]; rfl) (by rw [encInts_len]; simp; omega) (by decide), rfl, _, hi, ?_⟩
        rintro r q (⟨u, hu, rfl, rfl⟩ | ⟨hu, l, rfl, rfl⟩)
        · left
          refine ⟨_, ⟨rfl, rfl⟩, rfl, ?_⟩
          have hul := Tm.uses_len hu
          rw [hu] at hv
          rw [wrap_n (by omega), List.append_assoc]
          refine hag (k + 1, u0 ++ u) ⟨by simp only; omega, by simp; omega, ?_⟩ (by simp only; omega)
          rw [hv]
          dsimp only
          cases Tm.usess (around ++ t.binds) path (k + 1) (t.args.drop (k + 1)) with
          | none => rfl
          | some v => simp
        · right
          rw [hu] at hv
          exact ⟨_, ⟨rfl, rfl⟩, .inr ⟨hv, _, rfl, rfl⟩⟩
      · have : t.args.length ≤ k := by simpa using h
        rw [List.drop_eq_nil_of_le this, Tm.usess] at hv
        left
        refine ⟨u0, by rw [hv]; simp, rfl, rfl⟩

def usesAV : Option (List Us) → AV
  | some u => .tup [.sl (u.map Us.enc), nI 0]
  | none => .tup [.sl [], nI 6]

theorem Uses_calls {t : Tm} (h : t.size ≤ 100000000) : PureIs Try.prog 26 [t.enc] (usesAV (t.uses [] [])) := by
  have hu := uses_calls _ t [] [] [] (Nat.le_refl _) h (by simp; omega) (by simp [Ty.sizes]; omega) (by simp; omega)
  have hn := Pure.of_nil (by decide) hu (by rw [Tm.enc_eq]; rfl)
  have hn2 : Pure Try.prog 83 [.prim (.slice none 0 0), t.enc, .prim (.slice none 0 0), .prim (.slice none 0 0)] (fun x => x = usesAV (t.uses [] [])) := by
    refine Pure.argsW (ys := [.prim (.slice none 0 0), t.enc, .sl [], .sl []]) ⟨RepW.refl _, RepW.refl _, repW_nil, repW_nil, True.intro⟩ (hn.mono ?_)
    rintro x ⟨r, hp', (⟨u, e1, rfl, rfl⟩ | ⟨e1, l, rfl, rfl⟩), rfl⟩
    · rw [e1]; simp [usesAV, AV.toData, AV.dataV, AV.dataC, AV.asSl]
    · rw [e1]; simp [usesAV, AV.toData, AV.dataV, AV.dataC]
  rw [Tm.enc_eq] at hn2 ⊢
  refine vc26_ok ⟨_, hn2, ?_⟩
  rintro r rfl
  cases t.uses [] [] with
  | none => exact ⟨_, _, rfl, rfl⟩
  | some u => exact ⟨_, _, rfl, rfl⟩

theorem Is_calls {t : Tm} (h : t.size ≤ 100000000) : PureIs Try.prog 28 [t.enc] (nB (t.uses [] []).isSome) := by
  have hu := Uses_calls h
  rw [Tm.enc_eq] at hu ⊢
  refine vc28_ok ?_
  cases hq : t.uses [] [] with
  | none => rw [hq] at hu; exact ⟨_, _, hu, rfl⟩
  | some u => rw [hq] at hu; exact ⟨_, _, hu, rfl⟩

end Go.Proofs.Ytfbncddnakaaiaa
/- Contracts: Take; the chapter's examples; PatternSame. -/
namespace Go.Proofs.Ytfbncddnakaaiaa
open Go
set_option linter.unusedSimpArgs false
set_option linter.unusedVariables false

def Tm.take (t : Tm) (b : List Ty) (l : List Int) : Tm × Int :=
  if mayB b.length l = true then (if Tm.clash b.length l 0 t = true then (.mk [] 0 0 [], 9) else (.mk (typesOf b l ++ t.binds) t.kind (Tm.taken b.length l 0 t).index (Tm.taken b.length l 0 t).args, 0)) else (.mk [] 0 0 [], 1)
def takeAV (p : Tm × Int) : AV := .tup [p.1.enc, nI p.2]

theorem Tm.taken_binds (n : Int) (l : List Int) (a : Nat) (t : Tm) : (Tm.taken n l a t).binds = t.binds := by rw [Tm.taken_eq]; rfl
theorem Tm.taken_kind (n : Int) (l : List Int) (a : Nat) (t : Tm) : (Tm.taken n l a t).kind = t.kind := by rw [Tm.taken_eq]; rfl

theorem takeIx_bd {n : Nat} {l : List Int} (hn : n ≤ 1000000000) (hl : l.length ≤ n) (i : Int) (hi : 0 ≤ i) : -1000000000 ≤ takeIx n l i ∧ takeIx n l i ≤ i + 1000000000 ∧ (n ≤ i → takeIx n l i ≤ i) ∧ (i < n → takeIx n l i ≤ 1000000000) := by
  unfold takeIx
  have hlp : ((posN l i).getD 0) ≤ l.length := by
    cases hq : posN l i with
    | none => simp
    | some k => have := posN_lt hq; simp; omega
  split <;> refine ⟨by omega, by omega, fun _ => by omega, fun _ => by omega⟩

theorem Tm.taken_ok {n : Nat} {l : List Int} (hn : n ≤ 1000000000) (hl : l.length ≤ n) : ∀ (d : Nat) (t : Tm) (a : Nat), t.size ≤ d → t.Ok → a + t.size ≤ 2000000000 → (Tm.taken n l a t).Ok ∧ (Tm.taken n l a t).size = t.size := by
  intro d
  induction d with
  | zero => intro t a h; have := t.size_pos; omega
  | succ d ih =>
    intro t a hd hk ha
    obtain ⟨h1, h2, h3⟩ := Tm.ok_eq hk
    have hts := t.size_eq
    have hlb := Ty.sizes_len t.binds
    have key : ∀ x ∈ t.args, (Tm.taken n l (a + t.binds.length) x).Ok ∧ (Tm.taken n l (a + t.binds.length) x).size = x.size := fun x hx => by
      have := Tm.sizes_mem hx
      exact ih x _ (by omega) (Tm.Oks_mem h3 hx) (by omega)
    have hsz : ∀ ts : List Tm, (∀ x ∈ ts, (Tm.taken n l (a + t.binds.length) x).size = x.size) → Tm.sizes (ts.map (Tm.taken n l (a + t.binds.length))) = Tm.sizes ts := by
      intro ts
      induction ts with
      | nil => intro _; rfl
      | cons x ts ih2 => intro h; simp only [List.map_cons, Tm.sizes]; rw [h x List.mem_cons_self, ih2 fun y hy => h y (List.mem_cons_of_mem _ hy)]
    rw [Tm.taken_eq]
    refine ⟨⟨h1, ?_, Tm.Oks_of fun x hx => ?_⟩, ?_⟩
    · split
      · rename_i hif
        have := takeIx_bd hn hl (t.index - ((a + t.binds.length : Nat) : Int)) (by omega)
        unfold I64 at h2 ⊢
        omega
      · exact h2
    · obtain ⟨y, hy, rfl⟩ := List.mem_map.1 hx
      exact (key y hy).1
    · rw [Tm.size, hsz _ fun x hx => (key x hx).2, hts]

theorem typesOf_sizes {b : List Ty} {l : List Int} (hm : ∀ v ∈ l, 0 ≤ v ∧ v < b.length) : Ty.sizes (typesOf b l) ≤ l.length * Ty.sizes b := by
  induction l with
  | nil => simp [typesOf, Ty.sizes]
  | cons v l ih =>
    have h1 := ih fun u hu => hm u (List.mem_cons_of_mem _ hu)
    have h2 := hm v List.mem_cons_self
    have h3 : (b.getD (b.length - 1 - v.toNat) (.mk [] 0)).size ≤ Ty.sizes b := by
      have hlt : b.length - 1 - v.toNat < b.length := by omega
      simp only [List.getD, List.getElem?_eq_getElem hlt, Option.getD_some]
      exact Ty.sizes_mem (List.getElem_mem hlt)
    simp only [typesOf, List.map_cons, Ty.sizes, List.length_cons, Nat.succ_mul] at h1 ⊢
    omega

theorem nodup_len : ∀ (n : Nat) (l : List Int), l.Nodup → (∀ v ∈ l, 0 ≤ v ∧ v < n) → l.length ≤ n := by
  intro n
  induction n with
  | zero =>
    intro l _ h
    cases l with
    | nil => simp
    | cons v l => have := h v List.mem_cons_self; omega
  | succ n ih =>
    intro l hn h
    by_cases hm : (n : Int) ∈ l
    · have h1 := ih (l.erase (n : Int)) (hn.erase _) (fun v hv => by
        have h2 := h v (List.mem_of_mem_erase hv)
        have h3 : v ≠ (n : Int) := fun e => by rw [e] at hv; exact hn.not_mem_erase hv
        omega)
      rw [List.length_erase_of_mem hm] at h1
      omega
    · have h1 := ih l hn (fun v hv => by
        have h2 := h v hv
        have h3 : v ≠ (n : Int) := fun e => by rw [e] at hv; exact hm hv
        omega)
      omega

theorem Take_calls {t : Tm} {b : List Ty} {l : List Int} (ht : t.size ≤ 100000000) (hk : t.Ok) (hb : b.length ≤ 100000000) (hl : l.length ≤ 100000000) (hlb : l.length * Ty.sizes b ≤ 100000000) :
    PureIs Try.prog 16 [t.enc, .sl (b.map Ty.enc), .sl (encInts l)] (takeAV (t.take b l)) := by
  have hpl := places_calls (n := (b.length : Int)) (l := l) (by omega)
  have he := Tm.enc_eq t
  rw [he]
  refine vc16_ok ?_
  unfold vc16
  rw [List.length_map, encInts_len]
  refine ⟨_, hpl, ?_⟩
  rintro r (⟨hm, es, hes, rfl⟩ | ⟨hm, rfl⟩)
  · left
    have hm' := mayB_iff.1 hm
    have hll : l.length ≤ b.length := nodup_len _ _ hm'.1 hm'.2
    refine ⟨_, rfl, ?_⟩
    have htc := turned_calls (u := t) (n := b.length) hes (by omega) hll _ t 0 0 (Nat.le_refl _) (by omega) hk (by omega)
    rw [he] at htc
    refine ⟨_, htc, ?_⟩
    rintro r q ⟨rfl, rfl⟩
    rw [Tm.enc_eq (Tm.taken _ _ _ _)]
    refine ⟨_, _, _, _, _, _, _, _, _, _, _, _, ⟨rfl, rfl⟩, ?_⟩
    rw [Tm.take, if_pos hm]
    by_cases hc : Tm.clash b.length l 0 t = true
    · rw [if_pos hc, if_pos hc]
      refine ITE.pos rfl ?_
      rw [takeAV, Tm.enc_mk]; rfl
    · rw [if_neg hc, if_neg hc]
      refine ITE.neg rfl ⟨_, types_calls (by omega) (by omega) hm'.2, ?_⟩
      have hts := t.size_eq
      have htl := typesOf_sizes hm'.2
      have hlt := Ty.sizes_len (typesOf b l)
      have hlb2 := Ty.sizes_len t.binds
      have hcc := concat_calls (ll := [typesOf b l, t.binds]) (by simp) (by simp; omega)
      simp only [encRows, List.map_cons, List.map_nil, List.flatten_cons, List.flatten_nil, List.append_nil] at hcc
      have hok := Tm.taken_ok (n := b.length) (by omega) hll _ t 0 (Nat.le_refl _) hk (by omega)
      obtain ⟨k1, k2, k3⟩ := Tm.ok_eq hok.1
      have hsz := (Tm.taken b.length l 0 t).size_eq
      rw [hok.2, Tm.taken_binds] at hsz
      have hcp := copy_calls (t := .mk (typesOf b l ++ t.binds) t.kind (Tm.taken b.length l 0 t).index (Tm.taken b.length l 0 t).args) (by simp only [Tm.size, Ty.sizes_append]; omega) ⟨by rw [Tm.taken_kind] at k1; exact k1, k2, k3⟩
      rw [Tm.enc_mk, ← Tm.taken_kind (b.length : Int) l 0 t] at hcp
      exact ⟨_, hcc, _, _, _, _, hcp, by rw [takeAV, Tm.enc_mk, Tm.taken_kind]⟩
  · right
    refine ⟨rfl, ?_⟩
    rw [Tm.take, if_neg (by rw [hm]; simp), takeAV, Tm.enc_mk]; rfl

/-! ### The chapter's examples -/

theorem known1_calls (i : Int) : PureIs Try.prog 65 [nI i] (Tm.mk [] 0 i []).enc := by
  rw [Tm.enc_mk]; exact vc65_ok rfl

theorem known2_calls (l : List Tm) : HFn Try.prog 66 [.sl (l.map Tm.enc), .ptr 0 0] [.box [.sl [], nI 0]]
    (fun r h => r = (Tm.mk [.mk [] 0, .mk [] 0] 2 0 l).enc ∧ h = [.box [.sl [], nI 0]]) := by
  refine HFn.res (R := fun r h => r = .agg [.clip [.agg [.sl [], nI 0], .agg [.sl [], nI 0]], nI 2, nI 0, .sl (l.map Tm.enc)] ∧ h = [.box [.sl [], nI 0]]) (vc66_ok ⟨rfl, rfl⟩) ?_
  rintro r h ⟨rfl, rfl⟩
  refine ⟨_, ?_, rfl, rfl⟩
  rw [Tm.enc_mk]
  exact RepW.agg ⟨repW_clip _, RepW.refl _, RepW.refl _, RepW.refl _, True.intro⟩

theorem nilbox : ObjWL [.box [.prim (.slice none 0 0), nI 0]] [.box [.sl [], nI 0]] := ⟨⟨repW_nil, RepW.refl _, True.intro⟩, True.intro⟩

theorem known_calls : PureIs Try.prog 15 [] (nB true) := by
  have k0 := known1_calls 0
  have k1 := known1_calls 1
  have h1 := known2_calls [.mk [] 0 0 [], .mk [] 0 1 []]
  have h2 := known2_calls [.mk [] 0 0 [], .mk [] 0 0 []]
  have h3 := known2_calls []
  have h4 := known2_calls [.mk [.mk [] 0, .mk [] 0] 2 0 []]
  simp only [List.map_cons, List.map_nil, Tm.enc_mk, Ty.enc_mk] at k0 k1 h1 h2 h3 h4
  have clipw : ∀ l : List AV, RepWL [.clip l, .ptr 0 0] [.sl l, .ptr 0 0] := fun l => ⟨repW_clip l, RepW.refl _, True.intro⟩
  have nilw : RepWL [.prim (.slice none 0 0), .ptr 0 0] [.sl [], .ptr 0 0] := ⟨repW_nil, RepW.refl _, True.intro⟩
  have u1 := Uses_calls (t := .mk [.mk [] 0, .mk [] 0] 2 0 [.mk [] 0 0 [], .mk [] 0 1 []]) (by decide)
  have u2 := Is_calls (t := .mk [.mk [] 0, .mk [] 0] 2 0 [.mk [] 0 0 [], .mk [] 0 0 []]) (by decide)
  have u3 := Is_calls (t := .mk [.mk [] 0, .mk [] 0] 2 0 [.mk [.mk [] 0, .mk [] 0] 2 0 []]) (by decide)
  have tk := Take_calls (t := .mk [] 0 1 []) (b := [.mk [] 0, .mk [] 0]) (l := [1]) (by decide) ⟨by unfold I64; omega, by unfold I64; omega, True.intro⟩ (by decide) (by decide) (by decide)
  have e1 : Tm.uses [] [] (.mk [.mk [] 0, .mk [] 0] 2 0 [.mk [] 0 0 [], .mk [] 0 1 []]) = some [⟨0, [0, 1], [.mk [] 0, .mk [] 0], []⟩] := by kernel_rfl
  have e2 : (Tm.uses [] [] (.mk [.mk [] 0, .mk [] 0] 2 0 [.mk [] 0 0 [], .mk [] 0 0 []])).isSome = false := by kernel_rfl
  have e3 : (Tm.uses [] [] (.mk [.mk [] 0, .mk [] 0] 2 0 [.mk [.mk [] 0, .mk [] 0] 2 0 []])).isSome = false := by kernel_rfl
  have e4 : Tm.take (.mk [] 0 1 []) [.mk [] 0, .mk [] 0] [1] = (.mk [.mk [] 0] 0 0 [], 0) := by kernel_rfl
  rw [e1] at u1
  rw [e2] at u2
  rw [e3] at u3
  rw [e4] at tk
  simp only [usesAV, takeAV, Us.enc, encInts, List.map_cons, List.map_nil, Tm.enc_mk, Ty.enc_mk] at u1 u2 u3 tk
  have sm := same_calls (l := [0, 1]) (m := [0, 1]) (by decide)
  simp only [encInts, List.map_cons, List.map_nil] at sm
  refine vc15_ok ?_
  unfold vc15
  refine ⟨_, _, _, _, k0, _, _, _, _, k1, _, ((h1.argsW (clipw _)).objs nilbox), ?_⟩
  rintro r q ⟨rfl, rfl⟩
  refine ⟨_, _, _, _, _, _, ⟨rfl, rfl⟩, _, _, u1, _, _, _, _, k1, _, _, _, _, _, tk, ITE.pos rfl (ITE.pos rfl ⟨by omega, by decide, _, _, _, _, rfl, _, sm, ITE.pos rfl ?_⟩)⟩
  refine ⟨_, _, _, _, k0, _, _, _, _, k0, _, h2.argsW (clipw _), ?_⟩
  rintro r q ⟨rfl, rfl⟩
  refine ⟨_, _, _, _, _, _, ⟨rfl, rfl⟩, _, u2, ITE.pos rfl ⟨_, h3.argsW nilw, ?_⟩⟩
  rintro r q ⟨rfl, rfl⟩
  refine ⟨_, _, _, _, _, _, ⟨rfl, rfl⟩, _, h4.argsW (clipw _), ?_⟩
  rintro r q ⟨rfl, rfl⟩
  exact ⟨_, _, _, _, _, _, ⟨rfl, rfl⟩, _, u3, ITE.pos rfl (ITE.pos rfl (ITE.pos rfl rfl))⟩

/-! ### PatternSame -/

theorem PatternSame_calls (l m : List Int) : PureIs Try.prog 4 [.sl (encInts l), .sl (encInts m)] (nB true) := by
  have cut : ∀ l : List Int, (if 100 < ((List.length (encInts l) : Nat) : Int) then 100 else ((List.length (encInts l) : Nat) : Int)) = ((min l.length 100 : Nat) : Int) := by
    intro l
    rw [encInts_len]
    split <;> omega
  have tk : ∀ l : List Int, List.drop (Int.toNat 0) (List.take (Int.toNat ((min l.length 100 : Nat) : Int)) (encInts l)) = encInts (l.take 100) := by
    intro l
    rw [show Int.toNat 0 = 0 from rfl, List.drop_zero, Int.toNat_natCast, encInts, encInts, ← List.map_take]
    rcases Nat.le_total l.length 100 with h | h
    · rw [Nat.min_eq_left h, List.take_of_length_le (Nat.le_refl _), List.take_of_length_le h]
    · rw [Nat.min_eq_right h]
  refine vc4_ok ?_
  unfold vc4
  rw [cut, cut, tk, tk]
  have s1 := same_calls (l := l.take 100) (m := m.take 100) (by simp; omega)
  have s2 := like_calls (l := l.take 100) (m := m.take 100) (by simp; omega)
  have s3 := same_calls (l := l.take 100) (m := l.take 100) (by simp; omega)
  refine ⟨⟨by omega, by omega, by rw [encInts_len]; omega, encInts_cells⟩, ⟨by omega, by omega, by rw [encInts_len]; omega, encInts_cells⟩, _, known_calls, ITE.pos rfl ⟨_, s1, _, s2, ITE.pos (by simp) ⟨_, s3, ?_⟩⟩⟩
  rw [likes_eq]; simp

end Go.Proofs.Ytfbncddnakaaiaa
