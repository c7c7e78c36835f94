/- Texts of ours laid together for a claim: P15 P16 P17 P18 P19 P20. -/
import Derived.Test.YtfbncddnakaaiaaMPB
import Derived.Test.YtfbncddnakaaiaaMVc3
import Derived.Test.YtfbncddnakaaiaaMVc4
import Derived.Test.YtfbncddnakaaiaaMVcM
/- Raw terms, typed; there and back; as new memory; whether they are few. -/
namespace Go.Proofs.Ytfbncddnakaaiaa
open Go
set_option linter.unusedSimpArgs false
set_option linter.unusedVariables false

inductive Rw where
  | mk (kind : Int) (type : Ty) (index : Int) (kids : List Rw)

mutual
def Rw.enc : Rw → AV
  | .mk k t i l => .agg [nI k, .sl (t.args.map Ty.enc), nI t.base, nI i, .sl (Rw.encs l)]
def Rw.encs : List Rw → List AV
  | [] => []
  | t :: l => Rw.enc t :: Rw.encs l
end
mutual
/-- How many raw terms and types. -/
def Rw.total : Rw → Nat
  | .mk _ t _ l => 1 + t.size + Rw.totals l
def Rw.totals : List Rw → Nat
  | [] => 0
  | t :: l => Rw.total t + Rw.totals l
end
mutual
def Rw.size : Rw → Nat
  | .mk _ _ _ l => 1 + Rw.sizes l
def Rw.sizes : List Rw → Nat
  | [] => 0
  | t :: l => Rw.size t + Rw.sizes l
end
def Rw.kind : Rw → Int | .mk k _ _ _ => k
def Rw.type : Rw → Ty | .mk _ t _ _ => t
def Rw.index : Rw → Int | .mk _ _ i _ => i
def Rw.kids : Rw → List Rw | .mk _ _ _ l => l
theorem Rw.kind_mk (k : Int) (t : Ty) (i : Int) (l : List Rw) : (Rw.mk k t i l).kind = k := rfl
theorem Rw.type_mk (k : Int) (t : Ty) (i : Int) (l : List Rw) : (Rw.mk k t i l).type = t := rfl
theorem Rw.index_mk (k : Int) (t : Ty) (i : Int) (l : List Rw) : (Rw.mk k t i l).index = i := rfl
theorem Rw.kids_mk (k : Int) (t : Ty) (i : Int) (l : List Rw) : (Rw.mk k t i l).kids = l := rfl
theorem Rw.eta (r : Rw) : Rw.mk r.kind r.type r.index r.kids = r := by cases r; rfl
theorem Rw.encs_eq (l : List Rw) : Rw.encs l = l.map Rw.enc := by
  induction l with
  | nil => rfl
  | cons t l ih => simp [Rw.encs, ih]
theorem Rw.enc_eq (r : Rw) : r.enc = .agg [nI r.kind, .sl (r.type.args.map Ty.enc), nI r.type.base, nI r.index, .sl (r.kids.map Rw.enc)] := by cases r; simp [Rw.enc, Rw.encs_eq, Rw.kind, Rw.type, Rw.index, Rw.kids]
theorem Rw.enc_mk (k : Int) (t : Ty) (i : Int) (l : List Rw) : (Rw.mk k t i l).enc = .agg [nI k, .sl (t.args.map Ty.enc), nI t.base, nI i, .sl (l.map Rw.enc)] := Rw.enc_eq _
theorem Rw.enc_getD {l : List Rw} {k : Nat} (h : k < l.length) : List.getD (l.map Rw.enc) (Int.toNat (k : Int)) .top = .agg [nI l[k].kind, .sl (l[k].type.args.map Ty.enc), nI l[k].type.base, nI l[k].index, .sl (l[k].kids.map Rw.enc)] := by rw [getD_map h, Rw.enc_eq]
theorem Rw.total_eq (r : Rw) : r.total = 1 + r.type.size + Rw.totals r.kids := by cases r; rfl
theorem Rw.total_pos (r : Rw) : 2 ≤ r.total := by have := r.type.size_pos; rw [r.total_eq]; omega
theorem Rw.totals_len (l : List Rw) : l.length ≤ Rw.totals l := by
  induction l with
  | nil => simp [Rw.totals]
  | cons t l ih => have := t.total_pos; simp [Rw.totals]; omega
theorem Rw.totals_append (l m : List Rw) : Rw.totals (l ++ m) = Rw.totals l + Rw.totals m := by
  induction l with
  | nil => simp [Rw.totals]
  | cons t l ih => simp [Rw.totals, ih]; omega
theorem Rw.totals_mem {l : List Rw} {t : Rw} (h : t ∈ l) : t.total ≤ Rw.totals l := by
  induction l with
  | nil => cases h
  | cons u l ih =>
    simp only [Rw.totals]
    rcases List.mem_cons.1 h with rfl | h1
    · omega
    · have := ih h1; omega
theorem Rw.kid_total {t : Rw} {k : Nat} (h : k < t.kids.length) : t.kids[k].total < t.total := by
  have := Rw.totals_mem (List.getElem_mem h)
  rw [t.total_eq]; omega
theorem Rw.size_eq (r : Rw) : r.size = 1 + Rw.sizes r.kids := by cases r; rfl
theorem Rw.sizes_append (l m : List Rw) : Rw.sizes (l ++ m) = Rw.sizes l + Rw.sizes m := by
  induction l with
  | nil => simp [Rw.sizes]
  | cons t l ih => simp [Rw.sizes, ih]; omega
mutual
theorem Rw.size_le : ∀ (r : Rw), r.size ≤ r.total
  | .mk k t i l => by have := Rw.sizes_le l; simp only [Rw.size, Rw.total]; omega
theorem Rw.sizes_le : ∀ (l : List Rw), Rw.sizes l ≤ Rw.totals l
  | [] => Nat.le_refl _
  | t :: l => by have := Rw.size_le t; have := Rw.sizes_le l; simp only [Rw.sizes, Rw.totals]; omega
end
theorem Rw.enc_len (t : Rw) : t.enc.cells.length = 5 := by cases t; rfl
theorem Rw.enc_cells {l : List Rw} : ∀ x : AV, x ∈ l.map Rw.enc → x.cells.length = 5 := by
  intro x h
  obtain ⟨t, _, rfl⟩ := List.mem_map.1 h
  exact t.enc_len
theorem Rw.enc_snoc (l : List Rw) (t : Rw) : l.map Rw.enc ++ [.agg [nI t.kind, .sl (t.type.args.map Ty.enc), nI t.type.base, nI t.index, .sl (t.kids.map Rw.enc)]] = (l ++ [t]).map Rw.enc := by rw [← Rw.enc_eq]; simp

theorem arrow_nil {t : Ty} (h : t.size ≤ 900000000) : PureIs Try.prog 92 [.agg [.sl (t.args.map Ty.enc), nI t.base], .sl []] (.agg [.sl (t.args.map Ty.enc), nI t.base]) := by
  have := arrow_calls (t := t) (l := []) (by simp only [Ty.sizes]; omega)
  rw [Ty.arrow, List.nil_append, Ty.eta, Ty.enc_eq] at this
  exact this

theorem rwCopied_calls : ∀ (n : Nat) (t : Rw), t.total ≤ n → n ≤ 500000000 → PureIs Try.prog 90 [t.enc] t.enc := by
  intro n
  induction n with
  | zero => intro t h; have := t.total_pos; omega
  | succ n ih =>
    intro t h hn
    have hq := Rw.totals_len t.kids
    have hts := t.total_eq
    rw [Rw.enc_eq]
    refine vc90_ok ⟨_, _, arrow_nil (by omega), rfl, ?_⟩
    refine LoopP.intro (fun k : Nat => (((), (), t.kids.map Rw.enc, (t.kids.length : Int), (k : Int), ()), ((t.kind, t.type.args.map Ty.enc, t.type.base, t.index, t.kids.map Rw.enc, ()), (0, (), 0, 0, (), ()), (t.kind, t.type.args.map Ty.enc, t.type.base, t.index, (), ()), (t.kids.take k).map Rw.enc, ())))
      (fun k => k ≤ t.kids.length) (fun k => t.kids.length - k) 0 (by rw [List.length_map]; rfl) (Nat.zero_le _) ?_
    intro k hk again hag
    dsimp only
    rw [List.length_map]
    refine ITE.intro (fun h => ?_) fun h => ?_
    · have hlt : k < t.kids.length := by simpa using h
      have hi := ih t.kids[k] (by have := Rw.kid_total hlt; omega) (by omega)
      rw [Rw.enc_eq] at hi
      refine ⟨by omega, by omega, _, _, _, _, _, Rw.enc_getD hlt, _, _, _, _, _, hi, rfl, appOk_one rfl (by simp; omega) (by decide), rfl, ?_⟩
      rw [wrap_n (by omega), Rw.enc_snoc, take_snoc' hlt]
      exact hag (k + 1) (by omega) (by omega)
    · have : t.kids.length ≤ k := by simpa using h
      refine ⟨rfl, ?_⟩
      rw [List.take_of_length_le this]

theorem rwTo_calls : ∀ (n : Nat) (t : Rw), t.total ≤ n → n ≤ 500000000 → PureIs Try.prog 37 [t.enc] t.enc := by
  intro n
  induction n with
  | zero => intro t h; have := t.total_pos; omega
  | succ n ih =>
    intro t h hn
    have hq := Rw.totals_len t.kids
    have hts := t.total_eq
    have hty := tyTo_calls _ t.type (Nat.le_refl _) (by omega)
    rw [Ty.enc_eq] at hty
    rw [Rw.enc_eq]
    refine vc37_ok ⟨_, _, hty, rfl, ?_⟩
    refine LoopP.intro (fun k : Nat => (((), (), (), (k : Int), ()), ((t.kind, t.type.args.map Ty.enc, t.type.base, t.index, t.kids.map Rw.enc, ()), (0, (), 0, 0, (), ()), (t.kind, t.type.args.map Ty.enc, t.type.base, t.index, (), ()), (t.kids.take k).map Rw.enc, ())))
      (fun k => k ≤ t.kids.length) (fun k => t.kids.length - k) 0 rfl (Nat.zero_le _) ?_
    intro k hk again hag
    dsimp only
    rw [List.length_map]
    refine ITE.intro (fun h => ?_) fun h => ?_
    · have hlt : k < t.kids.length := by simpa using h
      have hi := ih t.kids[k] (by have := Rw.kid_total hlt; omega) (by omega)
      rw [Rw.enc_eq] at hi
      refine ⟨by omega, by omega, _, _, _, _, _, Rw.enc_getD hlt, _, _, _, _, _, hi, rfl, appOk_one rfl (by simp; omega) (by decide), rfl, ?_⟩
      rw [wrap_n (by omega), Rw.enc_snoc, take_snoc' hlt]
      exact hag (k + 1) (by omega) (by omega)
    · have : t.kids.length ≤ k := by simpa using h
      refine ⟨rfl, ?_⟩
      rw [List.take_of_length_le this]

theorem rwOf_calls : ∀ (n : Nat) (t : Rw), t.total ≤ n → n ≤ 500000000 → PureIs Try.prog 39 [t.enc] t.enc := by
  intro n
  induction n with
  | zero => intro t h; have := t.total_pos; omega
  | succ n ih =>
    intro t h hn
    have hq := Rw.totals_len t.kids
    have hts := t.total_eq
    have hty := tyOf_calls _ t.type (Nat.le_refl _) (by omega)
    rw [Ty.enc_eq] at hty
    rw [Rw.enc_eq]
    refine vc39_ok ⟨_, _, hty, rfl, ?_⟩
    refine LoopP.intro (fun k : Nat => (((), (), (), (k : Int), ()), ((t.kind, t.type.args.map Ty.enc, t.type.base, t.index, t.kids.map Rw.enc, ()), (0, (), 0, 0, (), ()), (t.kind, t.type.args.map Ty.enc, t.type.base, t.index, (), ()), (t.kids.take k).map Rw.enc, ())))
      (fun k => k ≤ t.kids.length) (fun k => t.kids.length - k) 0 rfl (Nat.zero_le _) ?_
    intro k hk again hag
    dsimp only
    rw [List.length_map]
    refine ITE.intro (fun h => ?_) fun h => ?_
    · have hlt : k < t.kids.length := by simpa using h
      have hi := ih t.kids[k] (by have := Rw.kid_total hlt; omega) (by omega)
      rw [Rw.enc_eq] at hi
      refine ⟨by omega, by omega, _, _, _, _, _, Rw.enc_getD hlt, _, _, _, _, _, hi, rfl, appOk_one rfl (by simp; omega) (by decide), rfl, ?_⟩
      rw [wrap_n (by omega), Rw.enc_snoc, take_snoc' hlt]
      exact hag (k + 1) (by omega) (by omega)
    · have : t.kids.length ≤ k := by simpa using h
      refine ⟨rfl, ?_⟩
      rw [List.take_of_length_le this]

/-! ### Few -/

mutual
def Rw.few (most : Nat) : Nat → Rw → Nat
  | d, .mk _ t _ l => (match d with
    | 0 => most + 1
    | d + 1 => if Ty.few most (d + 1) t ≤ most then Rw.fews most d (1 + t.size) l else most + 1)
def Rw.fews (most : Nat) : Nat → Nat → List Rw → Nat
  | _, n, [] => n
  | d, n, t :: l => if n ≤ most then Rw.fews most d (n + Rw.few most d t) l else n
end
theorem Rw.few_zero (most : Nat) (t : Rw) : Rw.few most 0 t = most + 1 := by cases t; rfl
theorem Rw.few_succ (most d : Nat) (t : Rw) : Rw.few most (d + 1) t = if Ty.few most (d + 1) t.type ≤ most then Rw.fews most d (1 + t.type.size) t.kids else most + 1 := by cases t; rfl
theorem Rw.fews_drop {most d n : Nat} {l : List Rw} {k : Nat} (h : k < l.length) : Rw.fews most d n (l.drop k) = if n ≤ most then Rw.fews most d (n + Rw.few most d l[k]) (l.drop (k + 1)) else n := by
  rw [List.drop_eq_getElem_cons h, Rw.fews]
theorem Rw.fews_bd {most d : Nat} (h : ∀ t : Rw, Rw.few most d t ≤ (d + 2) * (most + 1)) : ∀ (l : List Rw) (n : Nat), n ≤ (d + 3) * (most + 1) → Rw.fews most d n l ≤ (d + 3) * (most + 1)
  | [], n, hn => hn
  | t :: l, n, hn => by
    rw [Rw.fews]
    split
    · refine Rw.fews_bd h l _ ?_
      have := h t
      have e : (d + 3) * (most + 1) = (d + 2) * (most + 1) + (most + 1) := by rw [Nat.add_mul, Nat.add_mul]; omega
      omega
    · exact hn
theorem Rw.few_bd (most : Nat) : ∀ (d : Nat) (t : Rw), Rw.few most d t ≤ (d + 2) * (most + 1)
  | 0, t => by rw [Rw.few_zero]; omega
  | d + 1, t => by
    rw [Rw.few_succ]
    split
    · rename_i hc
      refine Rw.fews_bd (Rw.few_bd most d) _ _ ?_
      have := Ty.few_size most (d + 1) t.type hc
      have : 2 * (most + 1) ≤ (d + 3) * (most + 1) := Nat.mul_le_mul (by omega) (Nat.le_refl _)
      omega
    · show most + 1 ≤ (d + 1 + 2) * (most + 1)
      have : 1 * (most + 1) ≤ (d + 1 + 2) * (most + 1) := Nat.mul_le_mul (by omega) (Nat.le_refl _)
      rw [Nat.one_mul] at this; exact this
theorem Rw.fews_ge (most d : Nat) : ∀ (l : List Rw) (n : Nat), n ≤ Rw.fews most d n l
  | [], n => Nat.le_refl _
  | t :: l, n => by
    rw [Rw.fews]
    split
    · exact Nat.le_trans (by omega) (Rw.fews_ge most d l _)
    · exact Nat.le_refl _
theorem Rw.few_pos (most : Nat) : ∀ (d : Nat) (t : Rw), 1 ≤ Rw.few most d t
  | 0, t => by rw [Rw.few_zero]; omega
  | d + 1, t => by
    rw [Rw.few_succ]
    split
    · exact Nat.le_trans (by omega) (Rw.fews_ge _ _ _ _)
    · show 1 ≤ most + 1
      omega
theorem Rw.fews_size {most d : Nat} (h : ∀ t : Rw, Rw.few most d t ≤ most → t.total = Rw.few most d t) : ∀ (l : List Rw) (n : Nat), Rw.fews most d n l ≤ most → Rw.fews most d n l = n + Rw.totals l
  | [], n, _ => rfl
  | t :: l, n, hn => by
    rw [Rw.fews] at hn ⊢
    split
    · rename_i hc
      rw [if_pos hc] at hn
      rw [Rw.fews_size h l _ hn]
      have := Rw.fews_ge most d l (n + Rw.few most d t)
      rw [Rw.totals, h t (by omega)]; omega
    · rename_i hc
      rw [if_neg hc] at hn; omega
theorem Rw.few_size (most : Nat) : ∀ (d : Nat) (t : Rw), Rw.few most d t ≤ most → t.total = Rw.few most d t
  | 0, t, h => by rw [Rw.few_zero] at h; omega
  | d + 1, t, h => by
    rw [Rw.few_succ] at h ⊢
    split
    · rename_i hc
      rw [if_pos hc] at h
      rw [Rw.fews_size (Rw.few_size most d) _ _ h, t.total_eq]
    · rename_i hc
      rw [if_neg hc] at h; omega

theorem rwfew_calls {most : Nat} (hmost : most ≤ 1000) : ∀ (d : Nat) (t : Rw), d ≤ 900 → PureIs Try.prog 119 [t.enc, nI most, nI d] (nI (Rw.few most d t : Nat)) := by
  intro d
  induction d with
  | zero =>
    intro t _
    rw [Rw.enc_eq, Rw.few_zero]
    refine vc119_ok (ITE.pos (by decide) ?_)
    rw [wrap_n (by omega)]
  | succ d ih =>
    intro t hd
    rw [Rw.enc_eq, Rw.few_succ]
    have hbd : (d + 3) * (most + 1) ≤ 1002001 := bd_le (d := d + 2) (m := most) (by omega) hmost
    have h2 : 2 * (most + 1) ≤ (d + 3) * (most + 1) := Nat.mul_le_mul (by omega) (Nat.le_refl _)
    have hty := tyFew_calls (d := d + 1) (t := t.type) hmost (by omega)
    rw [Ty.enc_eq] at hty
    refine vc119_ok (ITE.neg (decide_eq_false (by omega)) ⟨_, hty, ITE.intro (fun h => ?_) fun h => ?_⟩)
    · have : ¬ Ty.few most (d + 1) t.type ≤ most := by simpa [Ty.fewB] using h
      rw [if_neg this, wrap_n (by omega)]
    have hc : Ty.few most (d + 1) t.type ≤ most := by simpa [Ty.fewB] using h
    have hsz := Ty.few_size most (d + 1) t.type hc
    have hts := tysize_calls _ t.type (Nat.le_refl _) (by omega)
    rw [Ty.enc_eq] at hts
    rw [if_pos hc]
    refine ⟨_, hts, ?_⟩
    rw [wrap_i (n := 1 + ((t.type.size : Nat) : Int)) (by omega) (by omega), show 1 + ((t.type.size : Nat) : Int) = ((1 + t.type.size : Nat) : Int) from by omega]
    refine LoopP.intro (fun p : Nat × Nat => (((most : Int), ((d + 1 : Nat) : Int), (), (p.2 : Int), (p.1 : Int), ()), ((t.kind, t.type.args.map Ty.enc, t.type.base, t.index, t.kids.map Rw.enc, ()), ())))
      (fun p => p.1 ≤ t.kids.length ∧ p.1 + 1 ≤ p.2 ∧ p.2 ≤ (d + 3) * (most + 1) ∧ Rw.fews most d (1 + t.type.size) t.kids = Rw.fews most d p.2 (t.kids.drop p.1)) (fun p => t.kids.length - p.1) (0, 1 + t.type.size) rfl
      ⟨Nat.zero_le _, by dsimp only; omega, by dsimp only; omega, rfl⟩ ?_
    intro ⟨k, m⟩ ⟨hk, hkn, hm2, hs⟩ again hag
    dsimp only at hk hkn hm2 hs ⊢
    rw [List.length_map]
    refine ITE.intro (fun h => ?_) fun h => ?_
    · have hlt : k < t.kids.length := by simpa using h
      rw [Rw.fews_drop hlt] at hs
      refine ITE.intro (fun h => ?_) fun h => ?_
      · have hm : m ≤ most := by simpa using h
        rw [if_pos hm] at hs
        have hi := ih t.kids[k] (by omega)
        have hb := Rw.few_bd most d t.kids[k]
        have hp := Rw.few_pos most d t.kids[k]
        rw [Rw.enc_eq] at hi
        refine ⟨by omega, by omega, _, _, _, _, _, Rw.enc_getD hlt, (Rw.few most d t.kids[k] : Nat), ?_, ?_⟩
        · rw [wrap_i (n := ((d + 1 : Nat) : Int) - 1) (by omega) (by omega), show ((d + 1 : Nat) : Int) - 1 = (d : Int) from by omega]
          exact hi
        · have e : (d + 3) * (most + 1) = (d + 2) * (most + 1) + (most + 1) := by rw [Nat.add_mul, Nat.add_mul]; omega
          rw [wrap_n (by omega), wrap_i (n := (m : Int) + (Rw.few most d t.kids[k] : Nat)) (by omega) (by omega), show (m : Int) + (Rw.few most d t.kids[k] : Nat) = ((m + Rw.few most d t.kids[k] : Nat) : Int) from by omega]
          exact hag (k + 1, m + Rw.few most d t.kids[k]) ⟨by dsimp only; omega, by dsimp only; omega, by dsimp only; omega, hs⟩ (by dsimp only; omega)
      · have hm : ¬ m ≤ most := by simpa using h
        rw [if_neg hm] at hs
        rw [hs]
    · have : t.kids.length ≤ k := by simpa using h
      rw [List.drop_eq_nil_of_le this] at hs
      rw [hs]; rfl

def Rw.fewB (most d : Nat) (t : Rw) : Bool := decide (Rw.few most d t ≤ most)
theorem Rw.fewB_total {most d : Nat} {t : Rw} (h : Rw.fewB most d t = true) : t.total ≤ most := by
  have h' : Rw.few most d t ≤ most := by simpa [Rw.fewB] using h
  rw [Rw.few_size most d t h']; exact h'

theorem rwFew_calls {most d : Nat} {t : Rw} (hmost : most ≤ 1000) (hd : d ≤ 900) : PureIs Try.prog 88 [t.enc, nI most, nI d] (nB (Rw.fewB most d t)) := by
  have h := rwfew_calls hmost d t hd
  rw [Rw.enc_eq] at h ⊢
  refine vc88_ok ⟨_, h, ?_⟩
  simp only [Rw.fewB, Int.ofNat_le]

theorem rwFews_calls {l : List Rw} (hsz : l.length ≤ 1000000000) : PureIs Try.prog 35 [.sl (l.map Rw.enc)] (nB (l.all (Rw.fewB 300 70))) := by
  refine vc35_ok ?_
  unfold vc35
  refine LoopP.intro (fun k : Nat => ((l.map Rw.enc, (k : Int), ()), ())) (fun k => k ≤ l.length ∧ l.all (Rw.fewB 300 70) = (l.drop k).all (Rw.fewB 300 70)) (fun k => l.length - k) 0 rfl ⟨Nat.zero_le _, rfl⟩ ?_
  intro k ⟨hk, hs⟩ again hag
  dsimp only
  rw [List.length_map]
  refine ITE.intro (fun h => ?_) fun h => ?_
  · have hlt : k < l.length := by simpa using h
    rw [List.drop_eq_getElem_cons hlt, List.all_cons] at hs
    have hi := rwFew_calls (most := 300) (d := 70) (t := l[k]) (by decide) (by decide)
    rw [Rw.enc_eq] at hi
    refine ⟨by omega, by omega, _, _, _, _, _, Rw.enc_getD hlt, _, hi, ITE.intro (fun h => ?_) fun h => ?_⟩
    · have : Rw.fewB 300 70 l[k] = false := by simpa using h
      rw [hs, this, Bool.false_and]
    · have : Rw.fewB 300 70 l[k] = true := by simpa using h
      rw [this, Bool.true_and] at hs
      rw [wrap_n (by omega)]
      exact hag (k + 1) ⟨by omega, hs⟩ (by omega)
  · have : l.length ≤ k := by simpa using h
    rw [List.drop_eq_nil_of_le this] at hs
    rw [hs]; rfl

end Go.Proofs.Ytfbncddnakaaiaa
/- Raw terms: sizes, shapes, depth, whether they are right; whether two are the same. -/
namespace Go.Proofs.Ytfbncddnakaaiaa
open Go
set_option linter.unusedSimpArgs false
set_option linter.unusedVariables false

theorem Rw.sizes_take {l : List Rw} {k : Nat} (h : k < l.length) : Rw.sizes (l.take (k + 1)) = Rw.sizes (l.take k) + l[k].size := by
  rw [← take_snoc' h, Rw.sizes_append]; simp [Rw.sizes]
theorem Rw.sizes_take_le (l : List Rw) (k : Nat) : Rw.sizes (l.take k) ≤ Rw.sizes l := by
  have e := Rw.sizes_append (l.take k) (l.drop k)
  rw [List.take_append_drop] at e; omega

theorem rwsize_calls : ∀ (n : Nat) (t : Rw), t.total ≤ n → n ≤ 500000000 → PureIs Try.prog 52 [t.enc] (nI (t.size : Nat)) := by
  intro n
  induction n with
  | zero => intro t h; have := t.total_pos; omega
  | succ n ih =>
    intro t h hn
    have hq := Rw.totals_len t.kids
    have hts := t.total_eq
    have hsl := Rw.sizes_le t.kids
    rw [Rw.enc_eq]
    refine vc52_ok ?_
    unfold vc52
    refine LoopP.intro (fun k : Nat => ((((1 + Rw.sizes (t.kids.take k) : Nat) : Int), t.kids.map Rw.enc, (t.kids.length : Int), (k : Int), ()), ((t.kind, t.type.args.map Ty.enc, t.type.base, t.index, t.kids.map Rw.enc, ()), ())))
      (fun k => k ≤ t.kids.length) (fun k => t.kids.length - k) 0 (by rw [List.length_map]; simp [Rw.sizes]) (Nat.zero_le _) ?_
    intro k hk again hag
    dsimp only
    rw [List.length_map]
    refine ITE.intro (fun h => ?_) fun h => ?_
    · have hlt : k < t.kids.length := by simpa using h
      have hi := ih t.kids[k] (by have := Rw.kid_total hlt; omega) (by omega)
      have hsn := Rw.sizes_take hlt
      have hle := Rw.sizes_take_le t.kids (k + 1)
      rw [Rw.enc_eq] at hi
      refine ⟨by omega, by omega, _, _, _, _, _, Rw.enc_getD hlt, _, hi, ?_⟩
      rw [wrap_n (by omega), wrap_i (n := ((1 + Rw.sizes (t.kids.take k) : Nat) : Int) + (t.kids[k].size : Nat)) (by omega) (by omega),
        show ((1 + Rw.sizes (t.kids.take k) : Nat) : Int) + (t.kids[k].size : Nat) = ((1 + Rw.sizes (t.kids.take (k + 1)) : Nat) : Int) from by omega]
      exact hag (k + 1) (by omega) (by omega)
    · have : t.kids.length ≤ k := by simpa using h
      rw [List.take_of_length_le this, ← t.size_eq]

theorem rrsize_calls : ∀ (n : Nat) (t : Rw), t.total ≤ n → n ≤ 500000000 → PureIs Try.prog 53 [t.enc] (nI (t.size : Nat)) := by
  intro n
  induction n with
  | zero => intro t h; have := t.total_pos; omega
  | succ n ih =>
    intro t h hn
    have hq := Rw.totals_len t.kids
    have hts := t.total_eq
    have hsl := Rw.sizes_le t.kids
    rw [Rw.enc_eq]
    refine vc53_ok ?_
    unfold vc53
    refine LoopP.intro (fun k : Nat => (((), ((1 + Rw.sizes (t.kids.take k) : Nat) : Int), (k : Int), ()), ((t.kind, t.type.args.map Ty.enc, t.type.base, t.index, t.kids.map Rw.enc, ()), ())))
      (fun k => k ≤ t.kids.length) (fun k => t.kids.length - k) 0 (by simp [Rw.sizes]) (Nat.zero_le _) ?_
    intro k hk again hag
    dsimp only
    rw [List.length_map]
    refine ITE.intro (fun h => ?_) fun h => ?_
    · have hlt : k < t.kids.length := by simpa using h
      have hi := ih t.kids[k] (by have := Rw.kid_total hlt; omega) (by omega)
      have hsn := Rw.sizes_take hlt
      have hle := Rw.sizes_take_le t.kids (k + 1)
      rw [Rw.enc_eq] at hi
      refine ⟨by omega, by omega, _, _, _, _, _, Rw.enc_getD hlt, _, hi, ?_⟩
      rw [wrap_n (by omega), wrap_i (n := ((1 + Rw.sizes (t.kids.take k) : Nat) : Int) + (t.kids[k].size : Nat)) (by omega) (by omega),
        show ((1 + Rw.sizes (t.kids.take k) : Nat) : Int) + (t.kids[k].size : Nat) = ((1 + Rw.sizes (t.kids.take (k + 1)) : Nat) : Int) from by omega]
      exact hag (k + 1) (by omega) (by omega)
    · have : t.kids.length ≤ k := by simpa using h
      rw [List.take_of_length_le this, ← t.size_eq]

/-! ### Shapes -/

def arity (k : Int) : Int := if k = 0 ∨ k = 1 ∨ k = 2 then 0 else if k = 3 then 1 else if k = 4 then 2 else -1

theorem kids_calls (k : Int) : PureIs Try.prog 102 [nI k] (nI (arity k)) := by
  refine vc102_ok ?_
  unfold vc102 arity
  by_cases h0 : k = 0
  · subst h0; exact ITE.pos rfl (ITE.pos rfl rfl)
  refine ITE.neg (by simpa using h0) ?_
  by_cases h1 : k = 1
  · subst h1; exact ITE.pos rfl (ITE.pos rfl rfl)
  refine ITE.neg (by simpa using h1) ?_
  by_cases h2 : k = 2
  · subst h2; exact ITE.pos rfl rfl
  refine ITE.neg (by simpa using h2) ?_
  rw [if_neg (by omega)]
  by_cases h3 : k = 3
  · subst h3; exact ITE.pos rfl rfl
  refine ITE.neg (by simpa using h3) ?_
  rw [if_neg h3]
  by_cases h4 : k = 4
  · subst h4; exact ITE.pos rfl rfl
  refine ITE.neg (by simpa using h4) ?_
  rw [if_neg h4]

mutual
def Rw.shaped : Rw → Bool
  | .mk k _ _ l => decide (arity k = l.length) && Rw.shapeds l
def Rw.shapeds : List Rw → Bool
  | [] => true
  | t :: l => Rw.shaped t && Rw.shapeds l
end
theorem Rw.shaped_eq (t : Rw) : Rw.shaped t = (decide (arity t.kind = t.kids.length) && Rw.shapeds t.kids) := by cases t; rfl
theorem Rw.shapeds_drop {l : List Rw} {k : Nat} (h : k < l.length) : Rw.shapeds (l.drop k) = (Rw.shaped l[k] && Rw.shapeds (l.drop (k + 1))) := by
  rw [List.drop_eq_getElem_cons h, Rw.shapeds]

theorem shaped_calls : ∀ (n : Nat) (t : Rw), t.total ≤ n → n ≤ 500000000 → PureIs Try.prog 98 [t.enc] (nB t.shaped) := by
  intro n
  induction n with
  | zero => intro t h; have := t.total_pos; omega
  | succ n ih =>
    intro t h hn
    have hq := Rw.totals_len t.kids
    have hts := t.total_eq
    rw [Rw.enc_eq, Rw.shaped_eq]
    have loop : ∀ m : Nat, t.kids.length = m → vc98_L14 (((), (m : Int), 0, ()), ((t.kind, t.type.args.map Ty.enc, t.type.base, t.index, t.kids.map Rw.enc, ()), ())) (fun x => x = nB (Rw.shapeds t.kids)) := by
      intro m hm
      refine LoopP.intro (fun k : Nat => (((), (m : Int), (k : Int), ()), ((t.kind, t.type.args.map Ty.enc, t.type.base, t.index, t.kids.map Rw.enc, ()), ()))) (fun k => k ≤ t.kids.length ∧ Rw.shapeds t.kids = Rw.shapeds (t.kids.drop k)) (fun k => t.kids.length - k) 0 rfl ⟨Nat.zero_le _, rfl⟩ ?_
      intro k ⟨hk, hs⟩ again hag
      dsimp only
      refine ITE.intro (fun h => ?_) fun h => ?_
      · have hlt : k < t.kids.length := by simp at h; omega
        rw [Rw.shapeds_drop hlt] at hs
        have hi := ih t.kids[k] (by have := Rw.kid_total hlt; omega) (by omega)
        rw [Rw.enc_eq] at hi
        refine ⟨by omega, by rw [List.length_map]; omega, _, _, _, _, _, Rw.enc_getD hlt, _, hi, ITE.intro (fun h => ?_) fun h => ?_⟩
        · have : Rw.shaped t.kids[k] = false := by simpa using h
          rw [hs, this, Bool.false_and]
        · have : Rw.shaped t.kids[k] = true := by simpa using h
          rw [this, Bool.true_and] at hs
          rw [wrap_n (by omega)]
          exact hag (k + 1) ⟨by omega, hs⟩ (by omega)
      · have : t.kids.length ≤ k := by simp at h; omega
        rw [List.drop_eq_nil_of_le this] at hs
        rw [hs]; rfl
    have fin : ∀ m : Nat, arity t.kind = m → ITE (((List.length (t.kids.map Rw.enc) : Nat) : Int) != (m : Int)) (nB false = nB (decide (arity t.kind = t.kids.length) && Rw.shapeds t.kids)) (vc98_L14 (((), (m : Int), 0, ()), ((t.kind, t.type.args.map Ty.enc, t.type.base, t.index, t.kids.map Rw.enc, ()), ())) (fun x => x = nB (decide (arity t.kind = t.kids.length) && Rw.shapeds t.kids))) := by
      intro m hm
      rw [List.length_map]
      refine ITE.intro (fun h => ?_) fun h => ?_
      · have : ¬ arity t.kind = t.kids.length := by simp at h; omega
        rw [decide_eq_false this, Bool.false_and]
      · have hl : t.kids.length = m := by simp at h; omega
        rw [decide_eq_true (by omega), Bool.true_and]
        exact loop m hl
    refine vc98_ok ?_
    unfold vc98
    by_cases h0 : t.kind = 0
    · rw [h0]
      exact ITE.pos rfl (ITE.pos rfl (by rw [h0] at fin; exact fin 0 rfl))
    refine ITE.neg (by simpa using h0) ?_
    by_cases h1 : t.kind = 1
    · rw [h1]
      exact ITE.pos rfl (ITE.pos rfl (by rw [h1] at fin; exact fin 0 rfl))
    refine ITE.neg (by simpa using h1) ?_
    by_cases h2 : t.kind = 2
    · rw [h2]
      exact ITE.pos rfl (by rw [h2] at fin; exact fin 0 rfl)
    refine ITE.neg (by simpa using h2) ?_
    by_cases h3 : t.kind = 3
    · rw [h3]
      exact ITE.pos rfl (by rw [h3] at fin; exact fin 1 rfl)
    refine ITE.neg (by simpa using h3) ?_
    by_cases h4 : t.kind = 4
    · rw [h4]
      exact ITE.pos rfl (by rw [h4] at fin; exact fin 2 rfl)
    refine ITE.neg (by simpa using h4) ?_
    have : ¬ arity t.kind = t.kids.length := by
      unfold arity
      rw [if_neg (by omega), if_neg h3, if_neg h4]; omega
    rw [decide_eq_false this, Bool.false_and]

mutual
def Rw.depth : Rw → Nat
  | .mk _ _ _ l => Rw.depths 0 l + 1
def Rw.depths : Nat → List Rw → Nat
  | n, [] => n
  | n, t :: l => Rw.depths (if Rw.depth t > n then Rw.depth t else n) l
end
theorem Rw.depth_eq (t : Rw) : t.depth = Rw.depths 0 t.kids + 1 := by cases t; rfl
theorem Rw.depths_drop {n : Nat} {l : List Rw} {k : Nat} (h : k < l.length) : Rw.depths n (l.drop k) = Rw.depths (if Rw.depth l[k] > n then Rw.depth l[k] else n) (l.drop (k + 1)) := by
  rw [List.drop_eq_getElem_cons h, Rw.depths]
mutual
theorem Rw.depth_le : ∀ (t : Rw), t.depth ≤ t.total
  | .mk k t i l => by have := Rw.depths_le 0 l; simp only [Rw.depth, Rw.total]; omega
theorem Rw.depths_le : ∀ (n : Nat) (l : List Rw), Rw.depths n l ≤ n + Rw.totals l
  | n, [] => by simp [Rw.depths, Rw.totals]
  | n, t :: l => by
    have h1 := Rw.depth_le t
    have h2 := Rw.depths_le (if Rw.depth t > n then Rw.depth t else n) l
    simp only [Rw.depths, Rw.totals]
    by_cases hc : Rw.depth t > n
    · rw [if_pos hc] at h2 ⊢; omega
    · rw [if_neg hc] at h2 ⊢; omega
end
theorem Rw.depths_iff {n m : Nat} : ∀ {l : List Rw}, Rw.depths n l ≤ m ↔ n ≤ m ∧ ∀ t ∈ l, t.depth ≤ m
  | [] => by simp [Rw.depths]
  | t :: l => by
    rw [Rw.depths, Rw.depths_iff (l := l)]
    simp only [List.mem_cons, forall_eq_or_imp]
    split <;> constructor
    · rintro ⟨h1, h2⟩; exact ⟨by omega, h1, h2⟩
    · rintro ⟨h1, h2, h3⟩; exact ⟨h2, h3⟩
    · rintro ⟨h1, h2⟩; exact ⟨h1, by omega, h2⟩
    · rintro ⟨h1, h2, h3⟩; exact ⟨h1, h3⟩

theorem depth_calls : ∀ (n : Nat) (t : Rw), t.total ≤ n → n ≤ 500000000 → PureIs Try.prog 99 [t.enc] (nI (t.depth : Nat)) := by
  intro n
  induction n with
  | zero => intro t h; have := t.total_pos; omega
  | succ n ih =>
    intro t h hn
    have hq := Rw.totals_len t.kids
    have hts := t.total_eq
    rw [Rw.enc_eq, Rw.depth_eq]
    refine vc99_ok ?_
    unfold vc99
    refine LoopP.intro (fun p : Nat × Nat => (((), (p.2 : Int), (p.1 : Int), ()), ((t.kind, t.type.args.map Ty.enc, t.type.base, t.index, t.kids.map Rw.enc, ()), ())))
      (fun p => p.1 ≤ t.kids.length ∧ p.2 ≤ 500000000 ∧ Rw.depths 0 t.kids = Rw.depths p.2 (t.kids.drop p.1)) (fun p => t.kids.length - p.1) (0, 0) rfl ⟨Nat.zero_le _, by dsimp only; omega, rfl⟩ ?_
    intro ⟨k, m⟩ ⟨hk, hm, hs⟩ again hag
    dsimp only at hk hm hs ⊢
    rw [List.length_map]
    refine ITE.intro (fun h => ?_) fun h => ?_
    · have hlt : k < t.kids.length := by simpa using h
      have hz := Rw.kid_total hlt
      have hd := Rw.depth_le t.kids[k]
      have hi := ih t.kids[k] (by omega) (by omega)
      rw [Rw.enc_eq] at hi
      rw [Rw.depths_drop hlt] at hs
      refine ⟨by omega, by omega, _, _, _, _, _, Rw.enc_getD hlt, _, hi, ITE.intro (fun h => ?_) fun h => ?_⟩
      · have h' : t.kids[k].depth > m := by simpa using h
        rw [if_pos h'] at hs
        rw [wrap_n (by omega)]
        exact hag (k + 1, t.kids[k].depth) ⟨by dsimp only; omega, by dsimp only; omega, hs⟩ (by dsimp only; omega)
      · have h' : ¬ t.kids[k].depth > m := by simpa using h
        rw [if_neg h'] at hs
        rw [wrap_n (by omega)]
        exact hag (k + 1, m) ⟨by dsimp only; omega, hm, hs⟩ (by dsimp only; omega)
    · have : t.kids.length ≤ k := by simpa using h
      rw [List.drop_eq_nil_of_le this] at hs
      rw [wrap_n (by omega), hs]; rfl

def Rw.rightB (t : Rw) : Bool := t.shaped && (decide (t.size ≤ 5000) && decide (t.depth ≤ 60))

theorem rright_calls {t : Rw} (h : t.total ≤ 500000000) : PureIs Try.prog 51 [t.enc] (nB t.rightB) := by
  have h1 := shaped_calls _ t (Nat.le_refl _) h
  have h2 := rrsize_calls _ t (Nat.le_refl _) h
  have h3 := depth_calls _ t (Nat.le_refl _) h
  rw [Rw.enc_eq] at h1 h2 h3 ⊢
  refine vc51_ok ⟨_, h1, ITE.intro (fun h => ⟨_, h2, ITE.intro (fun h' => ⟨_, h3, ?_⟩) fun h' => ?_⟩) fun h => ?_⟩
  · have : t.size ≤ 5000 := by simp at h'; omega
    rw [Rw.rightB, h, decide_eq_true this, Bool.true_and, Bool.true_and]
    exact congrArg (fun b => nB b) (decide_eq_decide.2 (by omega))
  · have : ¬ t.size ≤ 5000 := by simp at h'; omega
    rw [Rw.rightB, decide_eq_false this, Bool.false_and, Bool.and_false]
  · rw [Rw.rightB, h, Bool.false_and]

/-! ### raw.Right: with a number that is left -/

mutual
def Rw.sound (d left : Int) : Rw → Bool × Int
  | .mk k _ _ l => if left - 1 < 0 ∨ d > 60 ∨ ¬ arity k = l.length then (false, left - 1) else Rw.sounds (d + 1) (left - 1) l
def Rw.sounds (d left : Int) : List Rw → Bool × Int
  | [] => (true, left)
  | t :: l => if (Rw.sound d left t).1 = true then Rw.sounds d (Rw.sound d left t).2 l else (false, (Rw.sound d left t).2)
end
theorem Rw.sound_eq (d left : Int) (t : Rw) : Rw.sound d left t = if left - 1 < 0 ∨ d > 60 ∨ ¬ arity t.kind = t.kids.length then (false, left - 1) else Rw.sounds (d + 1) (left - 1) t.kids := by cases t; rfl
theorem Rw.sounds_drop {d left : Int} {l : List Rw} {k : Nat} (h : k < l.length) : Rw.sounds d left (l.drop k) = if (Rw.sound d left l[k]).1 = true then Rw.sounds d (Rw.sound d left l[k]).2 (l.drop (k + 1)) else (false, (Rw.sound d left l[k]).2) := by
  rw [List.drop_eq_getElem_cons h, Rw.sounds]

mutual
theorem Rw.sound_is : ∀ (t : Rw) (d left : Nat), 1 ≤ d → d ≤ 61 → ((Rw.sound d left t).1 = true ↔ (t.shaped = true ∧ t.size ≤ left ∧ t.depth + d ≤ 61)) ∧ ((Rw.sound d left t).1 = true → (Rw.sound d left t).2 = (left : Int) - t.size) ∧ -1 ≤ (Rw.sound d left t).2 ∧ (Rw.sound d left t).2 ≤ left
  | .mk k ty i l, d, left, hd, hd2 => by
    rw [Rw.sound, Rw.shaped, Rw.size, Rw.depth]
    by_cases hc : (left : Int) - 1 < 0 ∨ (d : Int) > 60 ∨ ¬ arity k = l.length
    · rw [if_pos hc]
      refine ⟨⟨fun h => (by cases h), fun ⟨h1, h2, h3⟩ => ?_⟩, fun h => (by cases h), by dsimp only; omega, by dsimp only; omega⟩
      rw [Bool.and_eq_true, decide_eq_true_eq] at h1
      rcases hc with hc | hc | hc
      · omega
      · omega
      · exact (hc h1.1).elim
    · rw [if_neg hc]
      simp only [not_or, Int.not_lt, Decidable.not_not] at hc
      obtain ⟨c1, c2, c3⟩ := hc
      have e1 : (left : Int) - 1 = ((left - 1 : Nat) : Int) := by omega
      have e2 : (d : Int) + 1 = ((d + 1 : Nat) : Int) := by omega
      rw [e1, e2]
      obtain ⟨g1, g2, g3, g4⟩ := Rw.sounds_is l (d + 1) (left - 1) (by omega) (by omega)
      refine ⟨?_, ?_, g3, by omega⟩
      · rw [g1, c3]
        simp only [decide_true, Bool.true_and]
        have := Rw.depths_iff (n := 0) (m := 60 - d) (l := l)
        constructor
        · rintro ⟨h1, h2, h3⟩
          refine ⟨h1, by omega, ?_⟩
          have := this.2 ⟨Nat.zero_le _, fun t ht => by have := h3 t ht; omega⟩
          omega
        · rintro ⟨h1, h2, h3⟩
          exact ⟨h1, by omega, fun t ht => by have := (this.1 (by omega)).2 t ht; omega⟩
      · intro h
        rw [g2 h]; omega
theorem Rw.sounds_is : ∀ (l : List Rw) (d left : Nat), 1 ≤ d → d ≤ 61 → ((Rw.sounds d left l).1 = true ↔ (Rw.shapeds l = true ∧ Rw.sizes l ≤ left ∧ ∀ t ∈ l, t.depth + d ≤ 61)) ∧ ((Rw.sounds d left l).1 = true → (Rw.sounds d left l).2 = (left : Int) - Rw.sizes l) ∧ -1 ≤ (Rw.sounds d left l).2 ∧ (Rw.sounds d left l).2 ≤ left
  | [], d, left, _, _ => by
    refine ⟨⟨fun _ => ⟨rfl, Nat.zero_le _, fun t ht => (by cases ht)⟩, fun _ => rfl⟩, fun _ => ?_, ?_, ?_⟩
    · simp [Rw.sounds, Rw.sizes]
    · simp only [Rw.sounds]; omega
    · simp only [Rw.sounds]; omega
  | t :: l, d, left, hd, hd2 => by
    obtain ⟨g1, g2, g3, g4⟩ := Rw.sound_is t d left hd hd2
    rw [Rw.sounds, Rw.shapeds, Rw.sizes]
    by_cases hc : (Rw.sound d left t).1 = true
    · rw [if_pos hc]
      obtain ⟨c1, c2, c3⟩ := g1.1 hc
      have e : (Rw.sound d left t).2 = ((left - t.size : Nat) : Int) := by rw [g2 hc]; omega
      rw [e]
      obtain ⟨k1, k2, k3, k4⟩ := Rw.sounds_is l d (left - t.size) hd hd2
      refine ⟨?_, ?_, k3, by omega⟩
      · rw [k1, Bool.and_eq_true]
        simp only [List.mem_cons, forall_eq_or_imp]
        constructor
        · rintro ⟨h1, h2, h3⟩; exact ⟨⟨c1, h1⟩, by omega, c3, h3⟩
        · rintro ⟨⟨_, h1⟩, h2, _, h3⟩; exact ⟨h1, by omega, h3⟩
      · intro h; rw [k2 h]; omega
    · rw [if_neg hc]
      refine ⟨⟨fun h => (by cases h), fun ⟨h1, h2, h3⟩ => (hc (g1.2 ?_)).elim⟩, fun h => (by cases h), g3, g4⟩
      rw [Bool.and_eq_true] at h1
      exact ⟨h1.1, by omega, h3 t List.mem_cons_self⟩
end

theorem sound_calls : ∀ (n : Nat) (t : Rw) (d left : Nat) (h0 : Int) (h1 : List AV) (h2 h3 : Int) (h4 : List AV), t.total ≤ n → n ≤ 500000000 → 1 ≤ d → d ≤ 61 → left ≤ 5000 →
    HFn Try.prog 96 [t.enc, nI d, .ptr 1 0] [.box [nI h0, .sl h1, nI h2, nI h3, .sl h4], .box [nI left]] (fun r q => r = nB (Rw.sound d left t).1 ∧ q = [.box [nI h0, .sl h1, nI h2, nI h3, .sl h4], .box [nI (Rw.sound d left t).2]]) := by
  intro n
  induction n with
  | zero => intro t d left h0 h1 h2 h3 h4 h; have := t.total_pos; omega
  | succ n ih =>
    intro t d left h0 h1 h2 h3 h4 h hn hd hd2 hl
    have hq := Rw.totals_len t.kids
    have hts := t.total_eq
    have hsd := Rw.sound_eq d left t
    rw [Rw.enc_eq]
    refine vc96_ok ?_
    unfold vc96
    rw [wrap_i (n := (left : Int) - 1) (by omega) (by omega)]
    refine ITE.intro (fun h => ?_) fun h => ?_
    · have : (left : Int) - 1 < 0 := by simpa using h
      rw [if_pos (.inl this)] at hsd
      rw [hsd]; exact ⟨rfl, rfl⟩
    have c1 : ¬ (left : Int) - 1 < 0 := by simpa using h
    refine ITE.intro (fun h => ?_) fun h => ?_
    · have : (d : Int) > 60 := by simpa using h
      rw [if_pos (.inr (.inl this))] at hsd
      rw [hsd]; exact ⟨rfl, rfl⟩
    have c2 : ¬ (d : Int) > 60 := by simpa using h
    refine ⟨_, kids_calls _, ITE.intro (fun h => ?_) fun h => ?_⟩
    · have : ¬ arity t.kind = t.kids.length := by simpa using h
      rw [if_pos (.inr (.inr this))] at hsd
      rw [hsd]; exact ⟨rfl, rfl⟩
    have c3 : arity t.kind = t.kids.length := by simpa using h
    rw [if_neg (by simp only [not_or, Decidable.not_not]; exact ⟨c1, c2, c3⟩)] at hsd
    rw [hsd, show (d : Int) + 1 = ((d + 1 : Nat) : Int) from by omega, show (left : Int) - 1 = ((left - 1 : Nat) : Int) from by omega]
    refine LoopP.intro (fun p : Nat × Nat => (((d : Int), (), t.kids.map Rw.enc, (t.kids.length : Int), (p.1 : Int), ()), ((h0, h1, h2, h3, h4, ()), ((p.2 : Int), ()), (t.kind, t.type.args.map Ty.enc, t.type.base, t.index, t.kids.map Rw.enc, ()), ())))
      (fun p => p.1 ≤ t.kids.length ∧ p.2 ≤ 5000 ∧ Rw.sounds ((d + 1 : Nat) : Int) ((left - 1 : Nat) : Int) t.kids = Rw.sounds ((d + 1 : Nat) : Int) (p.2 : Int) (t.kids.drop p.1)) (fun p => t.kids.length - p.1) (0, left - 1) (by rw [List.length_map]; rfl) ⟨Nat.zero_le _, by dsimp only; omega, rfl⟩ ?_
    intro ⟨k, m⟩ ⟨hk, hm, hs⟩ again hag
    dsimp only at hk hm hs ⊢
    rw [List.length_map]
    refine ITE.intro (fun h => ?_) fun h => ?_
    · have hlt : k < t.kids.length := by simpa using h
      have hi := ih t.kids[k] (d + 1) m h0 h1 h2 h3 h4 (by have := Rw.kid_total hlt; omega) (by omega) (by omega) (by omega) hm
      obtain ⟨g1, g2, g3, g4⟩ := Rw.sound_is t.kids[k] (d + 1) m (by omega) (by omega)
      rw [Rw.enc_eq] at hi
      rw [Rw.sounds_drop hlt] at hs
      rw [wrap_n (by omega)]
      refine ⟨by omega, by omega, _, _, _, _, _, Rw.enc_getD hlt, _, hi, fun r q ⟨hr, hq⟩ => ⟨_, _, _, _, _, _, _, ⟨hr, hq⟩, ITE.intro (fun h => ?_) fun h => ?_⟩⟩
      · have hf : (Rw.sound ((d + 1 : Nat) : Int) m t.kids[k]).1 = false := by simpa using h
        rw [hf] at hs
        simp only [Bool.false_eq_true, if_false] at hs
        rw [hs]; exact ⟨rfl, rfl⟩
      · have hf : (Rw.sound ((d + 1 : Nat) : Int) m t.kids[k]).1 = true := by simpa using h
        rw [if_pos hf] at hs
        obtain ⟨_, k2, _⟩ := g1.1 hf
        have e : (Rw.sound ((d + 1 : Nat) : Int) m t.kids[k]).2 = ((m - t.kids[k].size : Nat) : Int) := by rw [g2 hf]; omega
        rw [e] at hs ⊢
        rw [wrap_n (by omega)]
        exact hag (k + 1, m - t.kids[k].size) ⟨by dsimp only; omega, by dsimp only; omega, hs⟩ (by dsimp only; omega)
    · have : t.kids.length ≤ k := by simpa using h
      rw [List.drop_eq_nil_of_le this] at hs
      rw [hs]; exact ⟨rfl, rfl⟩

theorem right_calls {t : Rw} (h : t.total ≤ 500000000) : PureIs Try.prog 49 [t.enc] (nB t.rightB) := by
  have h1 := sound_calls _ t 1 5000 t.kind (t.type.args.map Ty.enc) t.type.base t.index (t.kids.map Rw.enc) (Nat.le_refl _) h (by omega) (by omega) (by omega)
  have e : (Rw.sound ((1 : Nat) : Int) ((5000 : Nat) : Int) t).1 = t.rightB := by
    have := (Rw.sound_is t 1 5000 (by omega) (by omega)).1
    rw [Bool.eq_iff_iff, this, Rw.rightB]
    simp only [Bool.and_eq_true, decide_eq_true_eq]
    constructor
    · rintro ⟨h1, h2, h3⟩; exact ⟨h1, h2, by omega⟩
    · rintro ⟨h1, h2, h3⟩; exact ⟨h1, h2, by omega⟩
  rw [Rw.enc_eq] at h1 ⊢
  refine vc49_ok ⟨_, h1, fun r q ⟨hr, hq⟩ => ⟨_, _, _, _, _, _, _, ⟨hr, hq⟩, ?_⟩⟩
  rw [e]

/-! ### The same -/

mutual
def Rw.same : Rw → Rw → Bool
  | .mk k t i l, .mk k' t' i' l' => (k == k') && ((!(k == 3) || Ty.same t t') && ((!(decide (0 ≤ k ∧ k < 3)) || i == i') && Rw.sames l l'))
def Rw.sames : List Rw → List Rw → Bool
  | [], [] => true
  | t :: l, u :: m => Rw.same t u && Rw.sames l m
  | _, _ => false
end
theorem Rw.same_eq (a b : Rw) : Rw.same a b = ((a.kind == b.kind) && ((!(a.kind == 3) || Ty.same a.type b.type) && ((!(decide (0 ≤ a.kind ∧ a.kind < 3)) || a.index == b.index) && Rw.sames a.kids b.kids))) := by cases a; cases b; rw [Rw.same]; rfl
theorem Rw.sames_drop {l m : List Rw} {k : Nat} (h1 : k < l.length) (h2 : k < m.length) : Rw.sames (l.drop k) (m.drop k) = (Rw.same l[k] m[k] && Rw.sames (l.drop (k + 1)) (m.drop (k + 1))) := by
  rw [List.drop_eq_getElem_cons h1, List.drop_eq_getElem_cons h2, Rw.sames]
theorem Rw.sames_len {l m : List Rw} (h : ¬ l.length = m.length) : Rw.sames l m = false := by
  induction l generalizing m with
  | nil => cases m with
    | nil => exact (h rfl).elim
    | cons => simp [Rw.sames]
  | cons t l ih => cases m with
    | nil => simp [Rw.sames]
    | cons u m => simp [Rw.sames, ih (m := m) (by simpa using h)]
mutual
theorem Rw.same_refl : ∀ (t : Rw), Rw.same t t = true
  | .mk k t i l => by rw [Rw.same, Rw.sames_refl l, (Ty.same_iff t t).2 rfl]; simp
theorem Rw.sames_refl : ∀ (l : List Rw), Rw.sames l l = true
  | [] => by rw [Rw.sames]
  | t :: l => by rw [Rw.sames, Rw.same_refl t, Rw.sames_refl l]; rfl
end

theorem rwsame_calls : ∀ (n : Nat) (a b : Rw), a.total ≤ n → b.total ≤ 500000000 → n ≤ 500000000 → PureIs Try.prog 38 [a.enc, b.enc] (nB (Rw.same a b)) := by
  intro n
  induction n with
  | zero => intro t b h; have := t.total_pos; omega
  | succ n ih =>
    intro a b h hb hn
    have hq := Rw.totals_len a.kids
    have hqb := Rw.totals_len b.kids
    have hts := a.total_eq
    have htb := b.total_eq
    have hty := rsame_calls _ a.type b.type (Nat.le_refl _) (by omega)
    rw [Ty.enc_eq, Ty.enc_eq] at hty
    have hse := Rw.same_eq a b
    rw [Rw.enc_eq, Rw.enc_eq]
    have loop : a.kids.length = b.kids.length → Rw.same a b = Rw.sames a.kids b.kids → vc38_L6 (((), (), 0, ()), ((a.kind, a.type.args.map Ty.enc, a.type.base, a.index, a.kids.map Rw.enc, ()), (b.kind, b.type.args.map Ty.enc, b.type.base, b.index, b.kids.map Rw.enc, ()), ())) (fun x => x = nB (Rw.same a b)) := by
      intro hlen he
      refine LoopP.intro (fun k : Nat => (((), (), (k : Int), ()), ((a.kind, a.type.args.map Ty.enc, a.type.base, a.index, a.kids.map Rw.enc, ()), (b.kind, b.type.args.map Ty.enc, b.type.base, b.index, b.kids.map Rw.enc, ()), ()))) (fun k => k ≤ a.kids.length ∧ Rw.same a b = Rw.sames (a.kids.drop k) (b.kids.drop k)) (fun k => a.kids.length - k) 0 rfl ⟨Nat.zero_le _, he⟩ ?_
      intro k ⟨hk, hs⟩ again hag
      dsimp only
      rw [List.length_map, List.length_map]
      refine ITE.intro (fun h => ?_) fun h => ?_
      · have hlt : k < a.kids.length := by simpa using h
        have hltb : k < b.kids.length := by omega
        rw [Rw.sames_drop hlt hltb] at hs
        have hi := ih a.kids[k] b.kids[k] (by have := Rw.kid_total hlt; omega) (by have := Rw.kid_total hltb; omega) (by omega)
        rw [Rw.enc_eq, Rw.enc_eq] at hi
        refine ⟨by omega, by omega, _, _, _, _, _, Rw.enc_getD hlt, by omega, by omega, _, _, _, _, _, Rw.enc_getD hltb, _, hi, ITE.intro (fun h => ?_) fun h => ?_⟩
        · have : Rw.same a.kids[k] b.kids[k] = false := by simpa using h
          rw [hs, this, Bool.false_and]
        · have : Rw.same a.kids[k] b.kids[k] = true := by simpa using h
          rw [this, Bool.true_and] at hs
          rw [wrap_n (by omega)]
          exact hag (k + 1) ⟨by omega, hs⟩ (by omega)
      · have : a.kids.length ≤ k := by simpa using h
        rw [List.drop_eq_nil_of_le this, List.drop_eq_nil_of_le (by omega)] at hs
        rw [hs]; rfl
    refine vc38_ok ?_
    unfold vc38
    refine ITE.intro (fun h => ?_) fun h => ?_
    · have : (a.kind == b.kind) = false := by simpa using h
      rw [hse, this, Bool.false_and]
    have hk : (a.kind == b.kind) = true := by simpa using h
    rw [hk, Bool.true_and] at hse
    rw [List.length_map, List.length_map]
    refine ITE.intro (fun h => ?_) fun h => ?_
    · have : ¬ a.kids.length = b.kids.length := by simp at h; omega
      rw [hse, Rw.sames_len this, Bool.and_false, Bool.and_false]
    have hlen : a.kids.length = b.kids.length := by simp at h; omega
    have idx : ((!(decide (0 ≤ a.kind ∧ a.kind < 3)) || a.index == b.index) && Rw.sames a.kids b.kids) = Rw.same a b → ITE (decide (a.kind ≥ 0)) (ITE (decide (a.kind < 3)) (ITE (a.index != b.index) (nB false = nB (Rw.same a b))
        (vc38_L6 (((), (), 0, ()), ((a.kind, a.type.args.map Ty.enc, a.type.base, a.index, a.kids.map Rw.enc, ()), (b.kind, b.type.args.map Ty.enc, b.type.base, b.index, b.kids.map Rw.enc, ()), ())) (fun x => x = nB (Rw.same a b))))
        (vc38_L6 (((), (), 0, ()), ((a.kind, a.type.args.map Ty.enc, a.type.base, a.index, a.kids.map Rw.enc, ()), (b.kind, b.type.args.map Ty.enc, b.type.base, b.index, b.kids.map Rw.enc, ()), ())) (fun x => x = nB (Rw.same a b))))
        (vc38_L6 (((), (), 0, ()), ((a.kind, a.type.args.map Ty.enc, a.type.base, a.index, a.kids.map Rw.enc, ()), (b.kind, b.type.args.map Ty.enc, b.type.base, b.index, b.kids.map Rw.enc, ()), ())) (fun x => x = nB (Rw.same a b))) := by
      intro he
      refine ITE.intro (fun h1 => ITE.intro (fun h2 => ITE.intro (fun h3 => ?_) fun h3 => ?_) fun h2 => ?_) fun h1 => ?_
      · have e1 : 0 ≤ a.kind := by simpa using h1
        have e2 : a.kind < 3 := by simpa using h2
        have e3 : (a.index == b.index) = false := by simpa using h3
        rw [← he, decide_eq_true ⟨e1, e2⟩, e3]; rfl
      · have e3 : (a.index == b.index) = true := by simpa using h3
        refine loop hlen ?_
        rw [← he, e3, Bool.or_true, Bool.true_and]
      · have e2 : ¬ a.kind < 3 := by simpa using h2
        refine loop hlen ?_
        rw [← he, decide_eq_false (fun h => e2 h.2)]; rfl
      · have e1 : ¬ 0 ≤ a.kind := by simpa using h1
        refine loop hlen ?_
        rw [← he, decide_eq_false (fun h => e1 h.1)]; rfl
    refine ITE.intro (fun h => ⟨_, hty, ITE.intro (fun h' => ?_) fun h' => ?_⟩) fun h => ?_
    · have : Ty.same a.type b.type = false := by simpa using h'
      rw [hse, h, this]; rfl
    · have : Ty.same a.type b.type = true := by simpa using h'
      rw [this, Bool.or_true, Bool.true_and] at hse
      exact idx hse.symm
    · rw [h] at hse
      exact idx (by rw [hse]; rfl)

theorem arity_zero (k : Int) : (arity k == 0) = decide (0 ≤ k ∧ k < 3) := by
  unfold arity
  by_cases h : k = 0 ∨ k = 1 ∨ k = 2
  · rw [if_pos h, decide_eq_true (by omega)]; rfl
  · rw [if_neg h, decide_eq_false (by omega)]
    split
    · rfl
    · split <;> rfl

theorem rwequals_calls {l m : List Rw} (hsz : l.length ≤ 500000000) (ih : ∀ (k : Nat) (h1 : k < l.length) (h2 : k < m.length), PureIs Try.prog 56 [l[k].enc, m[k].enc] (nB (Rw.same l[k] m[k]))) :
    PureIs Try.prog 103 [.sl (l.map Rw.enc), .sl (m.map Rw.enc), .clo 56 []] (nB (Rw.sames l m)) := by
  refine vc103_ok (ITE.intro (fun h => ?_) fun h => ?_)
  · have : ¬ l.length = m.length := by simp at h; omega
    rw [Rw.sames_len this]
  · have hlm : l.length = m.length := by simp at h; omega
    refine LoopP.intro (fun k : Nat => ((m.map Rw.enc, (), l.map Rw.enc, (l.length : Int), (k : Int), ()), ())) (fun k => k ≤ l.length ∧ Rw.sames l m = Rw.sames (l.drop k) (m.drop k)) (fun k => l.length - k) 0 (by rw [List.length_map]; rfl) ⟨Nat.zero_le _, rfl⟩ ?_
    intro k ⟨hk, hs⟩ again hag
    dsimp only
    rw [List.length_map, List.length_map]
    refine ITE.intro (fun h => ?_) fun h => ?_
    · have hlt : k < l.length := by simpa using h
      rw [Rw.sames_drop hlt (by omega)] at hs
      have hi := ih k hlt (by omega)
      rw [Rw.enc_eq, Rw.enc_eq] at hi
      refine ⟨by omega, by omega, _, _, _, _, _, Rw.enc_getD hlt, by omega, by omega, _, _, _, _, _, Rw.enc_getD (by omega), _, hi, ITE.intro (fun h => ?_) fun h => ?_⟩
      · have : Rw.same l[k] m[k] = false := by simpa using h
        rw [hs, this, Bool.false_and]
      · have he : Rw.same l[k] m[k] = true := by simpa using h
        rw [he, Bool.true_and] at hs
        rw [wrap_n (by omega)]
        exact hag (k + 1) ⟨by omega, hs⟩ (by omega)
    · have : l.length ≤ k := by simpa using h
      rw [List.drop_eq_nil_of_le this, List.drop_eq_nil_of_le (by omega)] at hs
      rw [hs]; rfl

theorem rwequal_calls : ∀ (n : Nat) (a b : Rw), a.total ≤ n → n ≤ 500000000 → PureIs Try.prog 56 [a.enc, b.enc] (nB (Rw.same a b)) := by
  intro n
  induction n with
  | zero => intro t b h; have := t.total_pos; omega
  | succ n ih =>
    intro a b h hn
    have hq := Rw.totals_len a.kids
    have hts := a.total_eq
    have hty := equal_calls _ a.type b.type (Nat.le_refl _) (by omega)
    have hkd := rwequals_calls (l := a.kids) (m := b.kids) (by omega) (fun k h1 h2 => ih _ _ (by have := Rw.kid_total h1; omega) (by omega))
    have hse := Rw.same_eq a b
    rw [Ty.enc_eq, Ty.enc_eq] at hty
    rw [Rw.enc_eq, Rw.enc_eq]
    refine vc56_ok ?_
    unfold vc56
    refine ITE.intro (fun h => ?_) fun h => ?_
    · have : (a.kind == b.kind) = false := by simpa using h
      rw [hse, this, Bool.false_and]
    have hk : (a.kind == b.kind) = true := by simpa using h
    rw [hk, Bool.true_and] at hse
    have idx : ((!(decide (0 ≤ a.kind ∧ a.kind < 3)) || a.index == b.index) && Rw.sames a.kids b.kids) = Rw.same a b → ∃ (i : Int), PureIs Try.prog 102 [nI a.kind] (nI i) ∧ ITE (i == 0) (ITE (a.index != b.index) (nB false = nB (Rw.same a b))
        (∃ (b3 : Bool), PureIs Try.prog 103 [.sl (a.kids.map Rw.enc), .sl (b.kids.map Rw.enc), .clo 56 []] (nB b3) ∧ nB b3 = nB (Rw.same a b)))
        (∃ (b4 : Bool), PureIs Try.prog 103 [.sl (a.kids.map Rw.enc), .sl (b.kids.map Rw.enc), .clo 56 []] (nB b4) ∧ nB b4 = nB (Rw.same a b)) := by
      intro he
      refine ⟨_, kids_calls _, ?_⟩
      rw [arity_zero]
      refine ITE.intro (fun h2 => ITE.intro (fun h3 => ?_) fun h3 => ⟨_, hkd, ?_⟩) fun h2 => ⟨_, hkd, ?_⟩
      · have e3 : (a.index == b.index) = false := by simpa using h3
        rw [← he, h2, e3]; rfl
      · have e3 : (a.index == b.index) = true := by simpa using h3
        rw [← he, e3, Bool.or_true, Bool.true_and]
      · rw [← he, h2]; rfl
    refine ITE.intro (fun h => ⟨_, hty, ITE.intro (fun h' => ?_) fun h' => ?_⟩) fun h => ?_
    · have : Ty.same a.type b.type = false := by simpa using h'
      rw [hse, h, this]; rfl
    · have : Ty.same a.type b.type = true := by simpa using h'
      rw [this, Bool.or_true, Bool.true_and] at hse
      exact idx hse.symm
    · rw [h] at hse
      exact idx (by rw [hse]; rfl)

end Go.Proofs.Ytfbncddnakaaiaa
/- Kinds, gone through by a range: their size, whether they are right; a head's type. -/
namespace Go.Proofs.Ytfbncddnakaaiaa
open Go
set_option linter.unusedSimpArgs false
set_option linter.unusedVariables false

/-! ### kind.Each -/

mutual
def Ty.pre (d : Nat) : Ty → List (Nat × Ty)
  | .mk l b => (d, .mk l b) :: Ty.pres (d + 1) l
def Ty.pres (d : Nat) : List Ty → List (Nat × Ty)
  | [] => []
  | t :: l => Ty.pre d t ++ Ty.pres d l
end
theorem Ty.pre_eq (d : Nat) (t : Ty) : t.pre d = (d, t) :: Ty.pres (d + 1) t.args := by cases t; rfl
theorem Ty.pres_drop {d : Nat} {l : List Ty} {k : Nat} (h : k < l.length) : Ty.pres d (l.drop k) = l[k].pre d ++ Ty.pres d (l.drop (k + 1)) := by
  rw [List.drop_eq_getElem_cons h, Ty.pres]
mutual
theorem Ty.pre_len : ∀ (d : Nat) (t : Ty), (t.pre d).length = t.size
  | d, .mk l b => by rw [Ty.pre, List.length_cons, Ty.pres_len (d + 1) l, Ty.size]; omega
theorem Ty.pres_len : ∀ (d : Nat) (l : List Ty), (Ty.pres d l).length = Ty.sizes l
  | d, [] => rfl
  | d, t :: l => by rw [Ty.pres, List.length_append, Ty.pre_len d t, Ty.pres_len d l, Ty.sizes]
end
def encP (p : Nat × Ty) : List AV := [nI p.1, .agg [.sl (p.2.args.map Ty.enc), nI p.2.base]]
def encE (p : Nat × Ty) : Int × (List AV × Int × Unit) × Unit := (p.1, (p.2.args.map Ty.enc, p.2.base, ()), ())

theorem kdown_calls : ∀ (n : Nat) (t : Ty) (d : Nat), t.size ≤ n → d + n ≤ 1000000000 → YFn Try.prog 143 (fun v => [.agg [.sl (t.args.map Ty.enc), nI t.base], nI d, v]) ((t.pre d).map encP) true := by
  intro n
  induction n with
  | zero => intro t d h; have := t.size_pos; omega
  | succ n ih =>
    intro t d h hn
    have hq := Ty.sizes_len t.args
    have hts := t.size_eq
    refine vc143_ok fun yv more => ⟨rfl, (Ty.pres (d + 1) t.args).map encP ++ more, by rw [Ty.pre_eq]; rfl, fun b => ITE.intro (fun h => ?_) fun h => ?_⟩
    · have : b = false := by simpa using h
      subst this; rfl
    · have : b = true := by simpa using h
      subst this
      refine LoopP.intro (fun k : Nat => ((((d : Int), yv, t.args.map Ty.enc, (t.args.length : Int), (k : Int), ()), ((t.args.map Ty.enc, t.base, ()), ())), some ((Ty.pres (d + 1) (t.args.drop k)).map encP ++ more))) (fun k => k ≤ t.args.length) (fun k => t.args.length - k) 0 (by rw [List.length_map]; rfl) (Nat.zero_le _) ?_
      intro k hk again hag
      dsimp only
      rw [List.length_map]
      refine ITE.intro (fun h => ?_) fun h => ?_
      · have hlt : k < t.args.length := by simpa using h
        have hi := ih t.args[k] (d + 1) (by have := Ty.arg_size hlt; omega) (by omega)
        refine ⟨by omega, by omega, _, _, Ty.enc_getD hlt, _, _, (Ty.pres (d + 1) (t.args.drop (k + 1))).map encP ++ more, ?_, hi, ?_, fun b => ITE.intro (fun h => ?_) fun h => ?_⟩
        · rw [wrap_n (by omega)]
        · rw [Ty.pres_drop hlt, List.map_append, List.append_assoc]
        · have : b = false := by simpa using h
          subst this; rfl
        · have : b = true := by simpa using h
          subst this
          rw [wrap_n (by omega)]
          exact hag (k + 1) (by omega) (by omega)
      · have : t.args.length ≤ k := by simpa using h
        rw [List.drop_eq_nil_of_le this]; rfl

theorem keach1_calls {t : Ty} (h : t.size ≤ 500000000) : YFn Try.prog 142 (fun v => [v, .eptr (.agg [.sl (t.args.map Ty.enc), nI t.base]) 0]) ((t.pre 1).map encP) false :=
  vc142_ok fun yv more => ⟨_, _, more, rfl, kdown_calls _ t 1 (Nat.le_refl _) (by omega), rfl, fun b => ⟨b, rfl⟩⟩

theorem keach_calls (t : Ty) : PureIs Try.prog 136 [.agg [.sl (t.args.map Ty.enc), nI t.base]] (.clo 142 [.eptr (.agg [.sl (t.args.map Ty.enc), nI t.base]) 0]) := vc136_ok rfl

theorem keach_seq {t : Ty} (h : t.size ≤ 500000000) : SeqIs Try.prog 142 [.eptr (.agg [.sl (t.args.map Ty.enc), nI t.base]) 0] [.v (.c (.i .i64)), .v (.a [.l, .i .i64])] ((t.pre 1).map encE) :=
  seqIs_of (prm := [.v (.c (.i .i64)), .v (.a [.l, .i .i64])]) encE (keach1_calls h)

theorem ksize_calls {t : Ty} (h : t.size ≤ 500000000) : PureIs Try.prog 123 [.agg [.sl (t.args.map Ty.enc), nI t.base]] (nI (t.size : Nat)) := by
  refine vc123_ok ⟨keach_calls t, ?_⟩
  refine RangeP.intro2 (fun n : Nat => ((t.args.map Ty.enc, t.base, ()), ((n : Int), ()), ())) encE (t.pre 1) (keach_seq h) (fun rest n => n + rest.length = t.size) 0 rfl (by rw [Ty.pre_len]; omega) (fun e rest n hI again hag => ?_) fun n hI => ?_
  · rw [List.length_cons] at hI
    dsimp only
    rw [wrap_n (by omega)]
    exact hag (n + 1) (by omega)
  · have : n = t.size := by simpa using hI
    rw [this]

/-! ### Right -/

def kgood (bases : Int) (p : Nat × Ty) : Bool := decide (p.1 ≤ 60) && (decide (0 ≤ p.2.base) && decide (p.2.base < bases))
def krest (bases : Int) : Nat → List (Nat × Ty) → Bool
  | _, [] => true
  | n, p :: l => if p.1 > 60 ∨ n + 1 > 1000 ∨ p.2.base < 0 ∨ p.2.base ≥ bases then false else krest bases (n + 1) l
theorem krest_is (bases : Int) : ∀ (l : List (Nat × Ty)) (n : Nat), n ≤ 1000 → krest bases n l = (decide (n + l.length ≤ 1000) && l.all (kgood bases))
  | [], n, hn => by simp [krest, hn]
  | p :: l, n, hn => by
    rw [krest]
    split
    · rename_i hc
      symm
      rw [Bool.and_eq_false_iff]
      by_cases h1 : n + 1 > 1000
      · left; rw [decide_eq_false]; rw [List.length_cons]; omega
      · right
        rw [List.all_cons]
        have : kgood bases p = false := by
          unfold kgood
          rw [Bool.and_eq_false_iff, Bool.and_eq_false_iff]
          rcases hc with hc | hc | hc | hc
          · left; exact decide_eq_false (by omega)
          · omega
          · right; left; exact decide_eq_false (by omega)
          · right; right; exact decide_eq_false (by omega)
        rw [this, Bool.false_and]
    · rename_i hc
      simp only [not_or] at hc
      obtain ⟨h1, h2, h3, h4⟩ := hc
      have hg : kgood bases p = true := by
        unfold kgood
        rw [decide_eq_true (by omega), decide_eq_true (by omega), decide_eq_true (by omega)]; rfl
      rw [krest_is bases l (n + 1) (by omega), List.all_cons, hg, Bool.true_and, List.length_cons, show n + 1 + l.length = n + (l.length + 1) from by omega]

def Ty.rightB (bases : Int) (t : Ty) : Bool := decide (t.size ≤ 1000) && (t.pre 1).all (kgood bases)

theorem kright_calls {t : Ty} {bases : Int} (h : t.size ≤ 500000000) : PureIs Try.prog 110 [.agg [.sl (t.args.map Ty.enc), nI t.base], nI bases] (nB (t.rightB bases)) := by
  refine vc110_ok ⟨keach_calls t, ?_⟩
  have hr : t.rightB bases = krest bases 0 (t.pre 1) := by rw [krest_is bases _ 0 (by omega), Ty.pre_len, Ty.rightB, Nat.zero_add]
  refine RangeP.intro2 (fun n : Nat => ((t.args.map Ty.enc, t.base, ()), (bases, ()), (false, ()), ((n : Int), ()), ())) encE (t.pre 1) (keach_seq h) (fun r n => n + r.length = t.size ∧ t.rightB bases = krest bases n r) 0 rfl ⟨by rw [Ty.pre_len]; omega, hr⟩ (fun p r n ⟨hI, hk⟩ again hag => ?_) fun n ⟨hI, hk⟩ => ?_
  · rw [List.length_cons] at hI
    rw [krest] at hk
    dsimp only [encE]
    rw [wrap_n (by omega)]
    refine ITE.intro (fun h1 => ?_) fun h1 => ITE.intro (fun h2 => ?_) fun h2 => ITE.intro (fun h3 => ?_) fun h3 => ITE.intro (fun h4 => ?_) fun h4 => ?_
    · have : p.1 > 60 := by simp at h1; omega
      rw [if_pos (.inl this)] at hk; rw [hk]
    · have : n + 1 > 1000 := by simp at h2; omega
      rw [if_pos (.inr (.inl this))] at hk; rw [hk]
    · have : p.2.base < 0 := of_decide_eq_true h3
      rw [if_pos (.inr (.inr (.inl this)))] at hk; rw [hk]
    · have : p.2.base ≥ bases := by simpa using h4
      rw [if_pos (.inr (.inr (.inr this)))] at hk; rw [hk]
    · have g1 : ¬ p.1 > 60 := by simp at h1; omega
      have g2 : ¬ n + 1 > 1000 := by simp at h2; omega
      have g3 : ¬ p.2.base < 0 := of_decide_eq_false h3
      have g4 : ¬ p.2.base ≥ bases := by simpa using h4
      rw [if_neg (by simp only [not_or]; exact ⟨g1, g2, g3, g4⟩)] at hk
      exact hag (n + 1) ⟨by omega, hk⟩
  · rw [hk]; rfl

mutual
def Ty.lowB (bases : Int) : Ty → Bool
  | .mk l b => (decide (0 ≤ b) && decide (b < bases)) && Ty.lowBs bases l
def Ty.lowBs (bases : Int) : List Ty → Bool
  | [] => true
  | t :: l => Ty.lowB bases t && Ty.lowBs bases l
end
theorem Ty.lowB_eq (bases : Int) (t : Ty) : t.lowB bases = ((decide (0 ≤ t.base) && decide (t.base < bases)) && Ty.lowBs bases t.args) := by cases t; rfl
theorem Ty.lowBs_drop {bases : Int} {l : List Ty} {k : Nat} (h : k < l.length) : Ty.lowBs bases (l.drop k) = (l[k].lowB bases && Ty.lowBs bases (l.drop (k + 1))) := by
  rw [List.drop_eq_getElem_cons h, Ty.lowBs]

theorem rlow_calls : ∀ (n : Nat) (t : Ty) (bases : Int), t.size ≤ n → n ≤ 1000000000 → PureIs Try.prog 137 [.agg [.sl (t.args.map Ty.enc), nI t.base], nI bases] (nB (t.lowB bases)) := by
  intro n
  induction n with
  | zero => intro t b h; have := t.size_pos; omega
  | succ n ih =>
    intro t bases h hn
    have hq := Ty.sizes_len t.args
    have hts := t.size_eq
    rw [Ty.lowB_eq]
    refine vc137_ok (ITE.intro (fun h => ?_) fun h1 => ITE.intro (fun h => ?_) fun h2 => ?_)
    · have : ¬ 0 ≤ t.base := by simpa using h
      rw [decide_eq_false this]; rfl
    · have : ¬ t.base < bases := by simpa using h
      rw [decide_eq_false this, Bool.and_false]; rfl
    · have g1 : 0 ≤ t.base := by simpa using h1
      have g2 : t.base < bases := by simpa using h2
      rw [decide_eq_true g1, decide_eq_true g2, Bool.true_and, Bool.true_and]
      refine LoopP.intro (fun k : Nat => ((bases, (), (k : Int), ()), ((t.args.map Ty.enc, t.base, ()), ()))) (fun k => k ≤ t.args.length ∧ Ty.lowBs bases t.args = Ty.lowBs bases (t.args.drop k)) (fun k => t.args.length - k) 0 rfl ⟨Nat.zero_le _, rfl⟩ ?_
      intro k ⟨hk, hs⟩ again hag
      dsimp only
      rw [List.length_map]
      refine ITE.intro (fun h => ?_) fun h => ?_
      · have hlt : k < t.args.length := by simpa using h
        rw [Ty.lowBs_drop hlt] at hs
        have hi := ih t.args[k] bases (by have := Ty.arg_size hlt; omega) (by omega)
        refine ⟨by omega, by omega, _, _, Ty.enc_getD hlt, _, hi, ITE.intro (fun h => ?_) fun h => ?_⟩
        · have : t.args[k].lowB bases = false := by simpa using h
          rw [hs, this, Bool.false_and]
        · have : t.args[k].lowB bases = true := by simpa using h
          rw [this, Bool.true_and] at hs
          rw [wrap_n (by omega)]
          exact hag (k + 1) ⟨by omega, hs⟩ (by omega)
      · have : t.args.length ≤ k := by simpa using h
        rw [List.drop_eq_nil_of_le this] at hs
        rw [hs]; rfl

/-! No deeper than so. -/

mutual
def Ty.flat : Nat → Ty → Bool
  | d, .mk l _ => (match d with
    | 0 => false
    | d + 1 => Ty.flats d l)
def Ty.flats : Nat → List Ty → Bool
  | _, [] => true
  | d, t :: l => Ty.flat d t && Ty.flats d l
end
theorem Ty.flat_zero (t : Ty) : Ty.flat 0 t = false := by cases t; rfl
theorem Ty.flat_succ (d : Nat) (t : Ty) : Ty.flat (d + 1) t = Ty.flats d t.args := by cases t; rfl
theorem Ty.fews_is {most d : Nat} (h : ∀ t : Ty, Ty.few most d t ≤ most ↔ (Ty.flat d t = true ∧ t.size ≤ most)) : ∀ (l : List Ty) (n : Nat), n ≤ most → (Ty.fews most d n l ≤ most ↔ (Ty.flats d l = true ∧ n + Ty.sizes l ≤ most))
  | [], n, hn => by simp [Ty.fews, Ty.flats, Ty.sizes]
  | t :: l, n, hn => by
    rw [Ty.fews, if_pos hn, Ty.flats, Ty.sizes, Bool.and_eq_true]
    by_cases hf : Ty.few most d t ≤ most
    · have hz := Ty.few_size most d t hf
      have hd := (h t).1 hf
      by_cases hs : n + Ty.few most d t ≤ most
      · rw [Ty.fews_is h l _ hs, ← hz]
        constructor
        · rintro ⟨h1, h2⟩; exact ⟨⟨hd.1, h1⟩, by omega⟩
        · rintro ⟨⟨_, h1⟩, h2⟩; exact ⟨h1, by omega⟩
      · have := Ty.fews_ge most d l (n + Ty.few most d t)
        constructor
        · intro h; omega
        · rintro ⟨_, h2⟩; omega
    · have := Ty.fews_ge most d l (n + Ty.few most d t)
      constructor
      · intro h; omega
      · rintro ⟨⟨h1, _⟩, h2⟩; exact (hf ((h t).2 ⟨h1, by omega⟩)).elim
theorem Ty.few_is (most : Nat) (h0 : 1 ≤ most) : ∀ (d : Nat) (t : Ty), Ty.few most d t ≤ most ↔ (Ty.flat d t = true ∧ t.size ≤ most)
  | 0, t => by rw [Ty.few_zero, Ty.flat_zero]; simp
  | d + 1, t => by rw [Ty.few_succ, Ty.flat_succ, Ty.fews_is (Ty.few_is most h0 d) _ _ h0, t.size_eq]
mutual
theorem Ty.pre_good (bases : Int) : ∀ (t : Ty) (d : Nat), d ≤ 61 → (t.pre d).all (kgood bases) = (Ty.flat (61 - d) t && t.lowB bases)
  | .mk l b, d, hd => by
    rw [Ty.pre, List.all_cons, Ty.lowB, kgood]
    simp only [Ty.base]
    by_cases h : d = 61
    · subst h
      rw [show 61 - 61 = 0 from rfl, Ty.flat_zero, decide_eq_false (by omega)]; rfl
    · rw [decide_eq_true (by omega : d ≤ 60), show 61 - d = (61 - (d + 1)) + 1 from by omega, Ty.flat_succ, Bool.true_and, Ty.pres_good bases l (d + 1) (by omega)]
      simp only [Ty.args]
      rw [Bool.eq_iff_iff]
      simp only [Bool.and_eq_true, decide_eq_true_eq]
      exact ⟨fun ⟨⟨h1, h2⟩, h3, h4⟩ => ⟨h3, ⟨of_decide_eq_true h1, of_decide_eq_true h2⟩, h4⟩, fun ⟨h3, ⟨h1, h2⟩, h4⟩ => ⟨⟨decide_eq_true h1, decide_eq_true h2⟩, h3, h4⟩⟩
theorem Ty.pres_good (bases : Int) : ∀ (l : List Ty) (d : Nat), d ≤ 61 → (Ty.pres d l).all (kgood bases) = (Ty.flats (61 - d) l && Ty.lowBs bases l)
  | [], d, hd => rfl
  | t :: l, d, hd => by
    rw [Ty.pres, List.all_append, Ty.pre_good bases t d hd, Ty.pres_good bases l d hd, Ty.flats, Ty.lowBs]
    cases Ty.flat (61 - d) t <;> cases Ty.lowB bases t <;> simp
end

theorem rrightT_calls {t : Ty} {bases : Int} (h : t.size ≤ 500000000) : PureIs Try.prog 128 [.agg [.sl (t.args.map Ty.enc), nI t.base], nI bases] (nB (t.rightB bases)) := by
  have h1 := tyFew_calls (most := 1000) (d := 60) (t := t) (by omega) (by omega)
  have h2 := rlow_calls _ t bases (Nat.le_refl _) (by omega)
  rw [Ty.enc_eq] at h1
  have e : t.rightB bases = (Ty.fewB 1000 60 t && t.lowB bases) := by
    rw [Ty.rightB, Ty.pre_good bases t 1 (by omega), Ty.fewB, ← Bool.and_assoc]
    congr 1
    rw [Bool.eq_iff_iff, Bool.and_eq_true, decide_eq_true_eq, decide_eq_true_eq, Ty.few_is 1000 (by omega)]
    exact And.comm
  refine vc128_ok ⟨_, h1, ITE.intro (fun h => ⟨_, h2, ?_⟩) fun h => ?_⟩
  · rw [e, h, Bool.true_and]
  · rw [e, h, Bool.false_and]

/-! ### A head's type -/

def headTy (c m x : List Ty) (k i : Int) : Option Ty :=
  if i < 0 then none else if k = 0 then (if i < x.length then x[x.length - 1 - i.toNat]? else none) else if k = 1 then c[i.toNat]? else if k = 2 then m[i.toNat]? else none
def optTy : Option Ty → AV
  | some t => .tup [.agg [.sl (t.args.map Ty.enc), nI t.base], nB true]
  | none => .tup [.agg [.sl [], nI 0], nB false]

theorem encTys_get {l : List Ty} {n : Nat} (h : n < l.length) : List.getD (l.map Ty.enc) n .top = .agg [.sl (l[n].args.map Ty.enc), nI l[n].base] := by
  have := Ty.enc_getD h
  simpa using this
def encW (b : Int) (c m : List Ty) : AV := .agg [nI b, .sl (c.map Ty.enc), .sl (m.map Ty.enc)]

theorem headType_calls {b : Int} {c m x : List Ty} {k i : Int} (hi : I64 i) (hx : x.length ≤ 1000000000) : PureIs Try.prog 104 [.agg [nI b, .sl (c.map Ty.enc), .sl (m.map Ty.enc)], .sl (x.map Ty.enc), .agg [nI k, nI i]] (optTy (headTy c m x k i)) := by
  unfold I64 at hi
  refine vc104_ok ?_
  unfold vc104 headTy
  simp only [List.length_map]
  refine ITE.intro (fun h1 => ?_) fun h1 => ?_
  · have e1 : k = 1 := by simpa using h1
    refine ITE.intro (fun h => ?_) fun h2 => ITE.intro (fun h => ?_) fun h3 => ?_
    · have : i < 0 := by simpa using h
      rw [if_pos this]; rfl
    · have h2' : ¬ i < 0 := by simpa using h2
      have h3' : (c.length : Int) ≤ i := by simpa using h
      rw [if_neg h2', if_neg (by omega), if_pos e1, List.getElem?_eq_none (by omega)]; rfl
    · have h2' : ¬ i < 0 := by simpa using h2
      have h3' : i < (c.length : Int) := by simpa using h3
      have hlt : i.toNat < c.length := by omega
      refine ⟨by omega, by omega, _, _, encTys_get hlt, ?_⟩
      rw [if_neg h2', if_neg (by omega), if_pos e1, List.getElem?_eq_getElem hlt]; rfl
  have n1 : ¬ k = 1 := by simpa using h1
  refine ITE.intro (fun h4 => ?_) fun h4 => ?_
  · have e2 : k = 2 := by simpa using h4
    refine ITE.intro (fun h => ?_) fun h2 => ITE.intro (fun h => ?_) fun h3 => ?_
    · have : i < 0 := by simpa using h
      rw [if_pos this]; rfl
    · have h2' : ¬ i < 0 := by simpa using h2
      have h3' : (m.length : Int) ≤ i := by simpa using h
      rw [if_neg h2', if_neg (by omega), if_neg n1, if_pos e2, List.getElem?_eq_none (by omega)]; rfl
    · have h2' : ¬ i < 0 := by simpa using h2
      have h3' : i < (m.length : Int) := by simpa using h3
      have hlt : i.toNat < m.length := by omega
      refine ⟨by omega, by omega, _, _, encTys_get hlt, ?_⟩
      rw [if_neg h2', if_neg (by omega), if_neg n1, if_pos e2, List.getElem?_eq_getElem hlt]; rfl
  have n2 : ¬ k = 2 := by simpa using h4
  refine ITE.intro (fun h5 => ?_) fun h5 => ?_
  · have e0 : k = 0 := by simpa using h5
    refine ITE.intro (fun h => ?_) fun h2 => ?_
    · have : i < 0 := by simpa using h
      rw [if_pos this]; rfl
    have h2' : ¬ i < 0 := by simpa using h2
    rw [wrap_i (n := (x.length : Int) - 1) (by omega) (by omega), wrap_i (by omega) (by omega)]
    refine ITE.intro (fun h => ?_) fun h3 => ITE.intro (fun h => ?_) fun h6 => ?_
    · have h3' : (x.length : Int) - 1 - i < 0 := by simpa using h
      rw [if_neg h2', if_pos e0, if_neg (by omega)]; rfl
    · have h3' : (x.length : Int) - 1 - i ≥ x.length := by simpa using h
      omega
    · have h3' : ¬ (x.length : Int) - 1 - i < 0 := by simpa using h3
      have hlt : x.length - 1 - i.toNat < x.length := by omega
      refine ⟨by omega, by omega, _, _, by rw [show Int.toNat ((x.length : Int) - 1 - i) = x.length - 1 - i.toNat from by omega]; exact encTys_get hlt, ?_⟩
      rw [if_neg h2', if_pos e0, if_pos (by omega), List.getElem?_eq_getElem hlt]; rfl
  · have n0 : ¬ k = 0 := by simpa using h5
    rw [if_neg n0, if_neg n1, if_neg n2]
    split <;> rfl

theorem rheadType_calls {b : Int} {c m x : List Ty} {k i : Int} (hi : I64 i) (hx : x.length ≤ 1000000000) : PureIs Try.prog 126 [.agg [nI b, .sl (c.map Ty.enc), .sl (m.map Ty.enc)], .sl (x.map Ty.enc), .agg [nI k, nI i]] (optTy (headTy c m x k i)) := by
  unfold I64 at hi
  refine vc126_ok ?_
  unfold vc126
  simp only [List.length_map]
  refine ITE.intro (fun h => ?_) fun h0 => ?_
  · have : i < 0 := by simpa using h
    rw [headTy, if_pos this]; rfl
  have h0' : ¬ i < 0 := by simpa using h0
  have cst : k = 1 → i < c.length → 0 ≤ i ∧ i < c.length ∧ ∃ (l : List AV) (j : Int), List.getD (c.map Ty.enc) (Int.toNat i) .top = .agg [.sl l, nI j] ∧ (AV.tup [.agg [.sl l, nI j], nB true]) = optTy (headTy c m x k i) := by
    intro hk hl
    have hlt : i.toNat < c.length := by omega
    refine ⟨by omega, hl, _, _, encTys_get hlt, ?_⟩
    rw [headTy, if_neg h0', if_neg (by omega), if_pos hk, List.getElem?_eq_getElem hlt]; rfl
  have met : k = 2 → i < m.length → 0 ≤ i ∧ i < m.length ∧ ∃ (l : List AV) (j : Int), List.getD (m.map Ty.enc) (Int.toNat i) .top = .agg [.sl l, nI j] ∧ (AV.tup [.agg [.sl l, nI j], nB true]) = optTy (headTy c m x k i) := by
    intro hk hl
    have hlt : i.toNat < m.length := by omega
    refine ⟨by omega, hl, _, _, encTys_get hlt, ?_⟩
    rw [headTy, if_neg h0', if_neg (by omega), if_neg (by omega), if_pos hk, List.getElem?_eq_getElem hlt]; rfl
  have non : (k = 0 → ¬ i < x.length) → (k = 1 → ¬ i < c.length) → (k = 2 → ¬ i < m.length) → (AV.tup [.agg [.sl [], nI 0], nB false]) = optTy (headTy c m x k i) := by
    intro a1 a2 a3
    rw [headTy, if_neg h0']
    by_cases e0 : k = 0
    · rw [if_pos e0, if_neg (a1 e0)]; rfl
    rw [if_neg e0]
    by_cases e1 : k = 1
    · rw [if_pos e1, List.getElem?_eq_none (by have := a2 e1; omega)]; rfl
    rw [if_neg e1]
    by_cases e2 : k = 2
    · rw [if_pos e2, List.getElem?_eq_none (by have := a3 e2; omega)]; rfl
    rw [if_neg e2]; rfl
  refine ITE.intro (fun h1 => ?_) fun h1 => ?_
  · have e0 : k = 0 := by simpa using h1
    refine ITE.intro (fun h2 => ?_) fun h2 => ?_
    · have h2' : i < x.length := by simpa using h2
      have hlt : x.length - 1 - i.toNat < x.length := by omega
      rw [wrap_i (n := (x.length : Int) - 1) (by omega) (by omega), wrap_i (by omega) (by omega)]
      refine ⟨by omega, by omega, _, _, by rw [show Int.toNat ((x.length : Int) - 1 - i) = x.length - 1 - i.toNat from by omega]; exact encTys_get hlt, ?_⟩
      rw [headTy, if_neg h0', if_pos e0, if_pos h2', List.getElem?_eq_getElem hlt]; rfl
    · have h2' : ¬ i < x.length := by simpa using h2
      refine ITE.neg (by simp; omega) (ITE.neg (by simp; omega) (non (fun _ => h2') (by omega) (by omega)))
  · have n0 : ¬ k = 0 := by simpa using h1
    refine ITE.intro (fun h2 => ?_) fun h2 => ?_
    · have e1 : k = 1 := by simpa using h2
      refine ITE.intro (fun h3 => cst e1 (by simpa using h3)) fun h3 => ?_
      have h3' : ¬ i < c.length := by simpa using h3
      exact ITE.neg (by simp; omega) (non (by omega) (fun _ => h3') (by omega))
    · have n1 : ¬ k = 1 := by simpa using h2
      refine ITE.intro (fun h3 => ?_) fun h3 => ?_
      · have e2 : k = 2 := by simpa using h3
        refine ITE.intro (fun h4 => met e2 (by simpa using h4)) fun h4 => ?_
        have h4' : ¬ i < m.length := by simpa using h4
        exact non (by omega) (by omega) (fun _ => h4')
      · have n2 : ¬ k = 2 := by simpa using h3
        exact non (by omega) (by omega) (by omega)

theorem headTy_mem {c m x : List Ty} {k i : Int} {t : Ty} (h : headTy c m x k i = some t) : t ∈ x ∨ t ∈ c ∨ t ∈ m := by
  unfold headTy at h
  split at h
  · cases h
  split at h
  · split at h
    · exact .inl (List.mem_of_getElem? h)
    · cases h
  split at h
  · exact .inr (.inl (List.mem_of_getElem? h))
  split at h
  · exact .inr (.inr (List.mem_of_getElem? h))
  · cases h

def hTy : Option Ty → AV
  | some t => .tup [.agg [.sl (t.args.map Ty.enc), nI t.base], nI 0]
  | none => .tup [.agg [.sl [], nI 0], nI 10]
theorem HeadType_calls {b : Int} {c m x : List Ty} {k i : Int} (hi : I64 i) (hx : x.length ≤ 1000000000) (hs : ∀ t, headTy c m x k i = some t → t.size ≤ 500000000) :
    PureIs Try.prog 125 [.agg [nI b, .sl (c.map Ty.enc), .sl (m.map Ty.enc)], .sl (x.map Ty.enc), .agg [nI k, nI i]] (hTy (headTy c m x k i)) := by
  have h1 := headType_calls (b := b) (c := c) (m := m) (x := x) (k := k) (i := i) hi hx
  cases ht : headTy c m x k i with
  | none =>
    rw [ht] at h1
    exact vc125_ok ⟨_, _, _, h1, ITE.pos rfl rfl⟩
  | some t =>
    rw [ht] at h1
    exact vc125_ok ⟨_, _, _, h1, ITE.neg rfl ⟨_, _, arrow_nil (by have := hs t ht; omega), rfl⟩⟩

end Go.Proofs.Ytfbncddnakaaiaa
/- A raw term's type: the program's and the document's. -/
namespace Go.Proofs.Ytfbncddnakaaiaa
open Go
set_option linter.unusedSimpArgs false
set_option linter.unusedVariables false

mutual
def Rw.Ok : Rw → Prop
  | .mk k _ i l => I64 k ∧ I64 i ∧ Rw.Oks l
def Rw.Oks : List Rw → Prop
  | [] => True
  | t :: l => Rw.Ok t ∧ Rw.Oks l
end
theorem Rw.Oks_mem {l : List Rw} (h : Rw.Oks l) {t : Rw} (ht : t ∈ l) : t.Ok := by
  induction l with
  | nil => cases ht
  | cons u l ih =>
    obtain ⟨h1, h2⟩ := h
    rcases List.mem_cons.1 ht with rfl | h3
    · exact h1
    · exact ih h2 h3
theorem Rw.Oks_of {l : List Rw} (h : ∀ t ∈ l, t.Ok) : Rw.Oks l := by
  induction l with
  | nil => exact True.intro
  | cons u l ih => exact ⟨h u List.mem_cons_self, ih fun t ht => h t (List.mem_cons_of_mem _ ht)⟩
theorem Rw.ok_eq {t : Rw} (h : t.Ok) : I64 t.kind ∧ I64 t.index ∧ Rw.Oks t.kids := by cases t; exact h

/-! ### What is handed in and back -/

theorem world_calls {b : Int} {c m : List Ty} (hc : Ty.sizes c ≤ 500000000) (hm : Ty.sizes m ≤ 500000000) : PureIs Try.prog 44 [encW b c m] (encW b c m) :=
  vc44_ok ⟨_, tysTo_calls (by omega), _, tysTo_calls (by omega), rfl⟩

theorem clipT_calls {l : List Ty} : PureIs Try.prog 122 [.sl (l.map Ty.enc)] (.clip (l.map Ty.enc)) := by
  refine Pure.of_heap (vc122_ok ⟨⟨by omega, by omega, rfl, by omega, Ty.enc_cells⟩, rfl, ?_⟩)
  simp [List.take_of_length_le]

theorem rest_calls {t : Ty} (h : t.size ≤ 500000000) (h1 : 1 ≤ t.args.length) : PureIs Try.prog 124 [.agg [.sl (t.args.map Ty.enc), nI t.base], nI 1] (.tup [.agg [.sl ((t.args.drop 1).map Ty.enc), nI t.base], nI 0]) := by
  have hts := t.size_eq
  have hsz : Ty.sizes (t.args.drop 1) ≤ Ty.sizes t.args := by
    have e := Ty.sizes_append (t.args.take 1) (t.args.drop 1)
    rw [List.take_append_drop] at e; omega
  have hc := copied_calls _ (.mk (t.args.drop 1) t.base) (Nat.le_refl _) (by simp only [Ty.size]; omega)
  rw [Ty.enc_mk] at hc
  have hd : List.drop (Int.toNat 1) (List.take (Int.toNat ((List.length (t.args.map Ty.enc) : Nat) : Int)) (t.args.map Ty.enc)) = (t.args.drop 1).map Ty.enc := by simp [List.take_of_length_le]
  refine vc124_ok (ITE.neg rfl (ITE.neg (by simp; omega) ⟨⟨by omega, by rw [List.length_map]; omega, by omega, Ty.enc_cells⟩, _, _, by rw [hd]; exact hc, rfl⟩))

theorem rarrow_calls {t : Ty} {l : List Ty} (h : l.length + t.args.length ≤ 1000000000) : PureIs Try.prog 129 [.agg [.sl (t.args.map Ty.enc), nI t.base], .sl (l.map Ty.enc)] (.agg [.sl ((l ++ t.args).map Ty.enc), nI t.base]) := by
  refine vc129_ok ⟨rfl, ?_⟩
  refine LoopP.intro (fun k : Nat => ((l.map Ty.enc, (), (), (), (k : Int), ()), ((t.args.map Ty.enc, t.base, ()), ((), 0, ()), ((), t.base, ()), (l.take k).map Ty.enc, ()))) (fun k => k ≤ l.length) (fun k => l.length - k) 0 rfl (Nat.zero_le _) ?_
  intro k hk again hag
  dsimp only
  rw [List.length_map]
  refine ITE.intro (fun h => ?_) fun h => ?_
  · have hlt : k < l.length := by simpa using h
    refine ⟨by omega, by omega, _, _, Ty.enc_getD hlt, rfl, appOk_one rfl (by simp; omega) (by decide), rfl, ?_⟩
    rw [wrap_n (by omega), Ty.enc_snoc, take_snoc' hlt]
    exact hag (k + 1) (by omega) (by omega)
  · have : l.length ≤ k := by simpa using h
    rw [List.take_of_length_le this]
    refine ⟨rfl, ?_⟩
    refine LoopP.intro (fun k : Nat => (((), (), (), (k : Int), ()), ((t.args.map Ty.enc, t.base, ()), ((), 0, ()), ((), t.base, ()), (l ++ t.args.take k).map Ty.enc, ()))) (fun k => k ≤ t.args.length) (fun k => t.args.length - k) 0 (by simp) (Nat.zero_le _) ?_
    intro k hk again hag
    dsimp only
    rw [List.length_map]
    refine ITE.intro (fun h => ?_) fun h => ?_
    · have hlt : k < t.args.length := by simpa using h
      refine ⟨by omega, by omega, _, _, Ty.enc_getD hlt, rfl, appOk_one rfl (by simp; omega) (by decide), rfl, ?_⟩
      rw [wrap_n (by omega), Ty.enc_snoc, List.append_assoc, take_snoc' hlt]
      exact hag (k + 1) (by omega) (by omega)
    · have : t.args.length ≤ k := by simpa using h
      rw [List.take_of_length_le this]
      exact ⟨rfl, rfl⟩

theorem rrest_calls {t : Ty} (h : t.args.length ≤ 500000000) (h1 : 1 ≤ t.args.length) : PureIs Try.prog 130 [.agg [.sl (t.args.map Ty.enc), nI t.base], nI 1] (.agg [.sl ((t.args.drop 1).map Ty.enc), nI t.base]) := by
  have hd : List.drop (Int.toNat 1) (List.take (Int.toNat ((List.length (t.args.map Ty.enc) : Nat) : Int)) (t.args.map Ty.enc)) = (t.args.drop 1).map Ty.enc := by simp [List.take_of_length_le]
  have ha := rarrow_calls (t := .mk [] t.base) (l := t.args.drop 1) (by simp only [Ty.args_mk, List.length_drop, List.length_nil]; omega)
  simp only [Ty.args_mk, Ty.base_mk, List.append_nil, List.map_nil] at ha
  exact vc130_ok ⟨⟨by omega, by rw [List.length_map]; omega, by omega, Ty.enc_cells⟩, _, _, by rw [hd]; exact ha, rfl⟩

/-! ### The type -/

abbrev noT : Ty := .mk [] 0
def lamRes (t : Ty) : List (Ty × Int) → Ty × Int
  | p :: _ => if p.2 ≠ 0 then (noT, p.2) else if (p.1.arrow [t]).size > 1000 then (noT, 2) else (p.1.arrow [t], 0)
  | [] => (noT, 0)
def appRes : List (Ty × Int) → Ty × Int
  | p :: q :: _ => if p.2 ≠ 0 then (noT, p.2) else if q.2 ≠ 0 then (noT, q.2) else (match p.1.args with
    | [] => (noT, 5)
    | u :: us => if Ty.same u q.1 = true then (.mk us p.1.base, 0) else (noT, 5))
  | _ => (noT, 0)
def headRes : Option Ty → Ty × Int
  | some t => if t.size > 1000 then (noT, 2) else (t, 0)
  | none => (noT, 10)
mutual
def Rw.infer (b : Int) (c m : List Ty) : List Ty → Rw → Ty × Int
  | x, .mk k t i l => if k = 3 then (if t.rightB b = true then lamRes t (Rw.infers b c m (x ++ [t]) l) else (noT, 2)) else if k = 4 then appRes (Rw.infers b c m x l) else headRes (headTy c m x k i)
def Rw.infers (b : Int) (c m : List Ty) : List Ty → List Rw → List (Ty × Int)
  | _, [] => []
  | x, r :: l => Rw.infer b c m x r :: Rw.infers b c m x l
end
theorem Rw.infer_eq (b : Int) (c m x : List Ty) (r : Rw) : r.infer b c m x = if r.kind = 3 then (if r.type.rightB b = true then lamRes r.type (Rw.infers b c m (x ++ [r.type]) r.kids) else (noT, 2)) else if r.kind = 4 then appRes (Rw.infers b c m x r.kids) else headRes (headTy c m x r.kind r.index) := by
  cases r; rw [Rw.infer]; rfl
mutual
theorem Rw.infer_size (b : Int) (c m : List Ty) : ∀ (r : Rw) (x : List Ty), (r.infer b c m x).1.size ≤ 1000
  | .mk k t i l, x => by
    rw [Rw.infer]
    split
    · split
      · have := Rw.infers_size b c m l (x ++ [t])
        generalize Rw.infers b c m (x ++ [t]) l = q at this
        cases q with
        | nil => simp [lamRes, Ty.size, Ty.sizes]
        | cons p q =>
          simp only [lamRes]
          split
          · simp [Ty.size, Ty.sizes]
          · split
            · simp [Ty.size, Ty.sizes]
            · rename_i h; exact Nat.not_lt.1 h
      · simp [Ty.size, Ty.sizes]
    split
    · have := Rw.infers_size b c m l x
      generalize Rw.infers b c m x l = q at this
      match q, this with
      | [], _ => simp [appRes, Ty.size, Ty.sizes]
      | [p], _ => simp [appRes, Ty.size, Ty.sizes]
      | p :: p2 :: q, h =>
        have hp := h p List.mem_cons_self
        simp only [appRes]
        split
        · simp [Ty.size, Ty.sizes]
        split
        · simp [Ty.size, Ty.sizes]
        split
        · simp [Ty.size, Ty.sizes]
        · rename_i u us hu
          split
          · have := p.1.size_eq
            rw [hu, Ty.sizes] at this
            simp only [Ty.size]; omega
          · simp [Ty.size, Ty.sizes]
    · cases headTy c m x k i with
      | none => simp [headRes, Ty.size, Ty.sizes]
      | some u =>
        simp only [headRes]
        split
        · simp [Ty.size, Ty.sizes]
        · rename_i h; exact Nat.not_lt.1 h
theorem Rw.infers_size (b : Int) (c m : List Ty) : ∀ (l : List Rw) (x : List Ty), ∀ p ∈ Rw.infers b c m x l, p.1.size ≤ 1000
  | [], x, p, hp => by cases hp
  | r :: l, x, p, hp => by
    rw [Rw.infers] at hp
    rcases List.mem_cons.1 hp with rfl | hp
    · exact Rw.infer_size b c m r x
    · exact Rw.infers_size b c m l x p hp
end

def encTE (p : Ty × Int) : AV := .tup [.agg [.sl (p.1.args.map Ty.enc), nI p.1.base], nI p.2]

theorem arity3 {l : List Rw} {k : Int} (hk : k = 3) (h : arity k = l.length) : ∃ a, l = [a] := by
  subst hk
  have : l.length = 1 := by have : arity 3 = 1 := rfl; omega
  match l, this with
  | [a], _ => exact ⟨a, rfl⟩
theorem arity4 {l : List Rw} {k : Int} (hk : k = 4) (h : arity k = l.length) : ∃ a b, l = [a, b] := by
  subst hk
  have : l.length = 2 := by have : arity 4 = 2 := rfl; omega
  match l, this with
  | [a, b], _ => exact ⟨a, b, rfl⟩

theorem Ty.sizes_one (t : Ty) : Ty.sizes [t] = t.size := by simp [Ty.sizes]
theorem one_enc (t : Ty) : [AV.agg [.sl (t.args.map Ty.enc), nI t.base]] = [t].map Ty.enc := by rw [← Ty.enc_eq]; rfl

theorem infer_calls {b : Int} {c m : List Ty} (hc : ∀ t ∈ c, t.size ≤ 500000000) (hm : ∀ t ∈ m, t.size ≤ 500000000) : ∀ (n : Nat) (r : Rw) (x : List Ty), r.total ≤ n → r.shaped = true → r.Ok → Ty.sizes x + r.total ≤ 400000000 →
    PureIs Try.prog 93 [.agg [nI b, .sl (c.map Ty.enc), .sl (m.map Ty.enc)], .sl (x.map Ty.enc), r.enc] (encTE (r.infer b c m x)) := by
  intro n
  induction n with
  | zero => intro t x h; have := t.total_pos; omega
  | succ n ih =>
    intro r x h hsh hok hx
    have hts := r.total_eq
    have hxl := Ty.sizes_len x
    rw [Rw.shaped_eq, Bool.and_eq_true, decide_eq_true_eq] at hsh
    obtain ⟨ha, hsk⟩ := hsh
    obtain ⟨_, hi, hok⟩ := Rw.ok_eq hok
    have hin := Rw.infer_eq b c m x r
    rw [Rw.enc_eq]
    refine vc93_ok (ITE.intro (fun h3 => ?_) fun h3 => ITE.intro (fun h4 => ?_) fun h4 => ?_)
    · have e3 : r.kind = 3 := by simpa using h3
      rw [if_pos e3] at hin
      refine ⟨_, kright_calls (by omega), ITE.intro (fun h => ?_) fun h => ?_⟩
      · have : ¬ r.type.rightB b = true := by simpa using h
        rw [if_neg this] at hin
        rw [hin]; rfl
      have hr : r.type.rightB b = true := by simpa using h
      rw [if_pos hr] at hin
      obtain ⟨a, hl⟩ := arity3 e3 ha
      rw [hl] at hin hsk hok hts
      rw [Rw.shapeds, Rw.shapeds, Bool.and_true] at hsk
      simp only [Rw.totals] at hts
      have hx2 : Ty.sizes (x ++ [r.type]) = Ty.sizes x + r.type.size := by rw [Ty.sizes_append, Ty.sizes_one]
      have hcall := ih a (x ++ [r.type]) (by omega) hsk hok.1 (by omega)
      rw [Rw.enc_eq, List.map_append, ← one_enc] at hcall
      rw [Rw.infers, Rw.infers] at hin
      generalize ha2 : a.infer b c m (x ++ [r.type]) = p at hcall hin
      have hps : p.1.size ≤ 1000 := by rw [← ha2]; exact Rw.infer_size ..
      have both : vc93_L5 (r.type.args.map Ty.enc) r.type.base (x.map Ty.enc) b (c.map Ty.enc) (m.map Ty.enc) a.kind (a.type.args.map Ty.enc) a.type.base a.index (a.kids.map Rw.enc) (fun y => y = encTE (r.infer b c m x)) := by
        refine ⟨fun h => (by cases h), appOk_mk Ty.enc_cells (by rw [one_enc]; exact Ty.enc_cells) (by simp; omega) (by decide), rfl, _, _, _, hcall, ITE.intro (fun h => ?_) fun h => ?_⟩
        · have he : p.2 ≠ 0 := by simpa using h
          rw [hin, lamRes, if_pos he]; rfl
        have he : ¬ p.2 ≠ 0 := by simpa using h
        simp only [lamRes, if_neg he] at hin
        have harr := arrow_calls (t := p.1) (l := [r.type]) (by rw [Ty.sizes_one]; omega)
        rw [Ty.enc_eq, ← one_enc, Ty.arrow, Ty.enc_mk] at harr
        have hsz : (p.1.arrow [r.type]).size ≤ 500000000 := by
          have := p.1.size_eq
          simp only [Ty.arrow, Ty.size, Ty.sizes_append, Ty.sizes_one]; omega
        refine ⟨_, _, harr, _, ksize_calls hsz, ITE.intro (fun h => ?_) fun h => ?_⟩
        · have hg : (p.1.arrow [r.type]).size > 1000 := by
            have := of_decide_eq_true h
            omega
          rw [hin, if_pos hg]; rfl
        · have hg : ¬ (p.1.arrow [r.type]).size > 1000 := by
            have := of_decide_eq_false h
            omega
          rw [hin, if_neg hg]; rfl
      refine ⟨_, clipT_calls, by omega, by rw [hl]; simp, _, _, _, _, _, by rw [hl]; exact Rw.enc_getD (l := [a]) (k := 0) (by simp), both, both⟩
    · have e3 : ¬ r.kind = 3 := by simpa using h3
      have e4 : r.kind = 4 := by simpa using h4
      rw [if_neg e3, if_pos e4] at hin
      obtain ⟨f, a, hl⟩ := arity4 e4 ha
      rw [hl] at hin hsk hok hts
      rw [Rw.shapeds, Rw.shapeds, Rw.shapeds, Bool.and_true, Bool.and_eq_true] at hsk
      simp only [Rw.totals] at hts
      have hf := ih f x (by omega) hsk.1 hok.1 (by omega)
      have hac := ih a x (by omega) hsk.2 hok.2.1 (by omega)
      rw [Rw.enc_eq] at hf hac
      rw [Rw.infers, Rw.infers, Rw.infers] at hin
      generalize hf2 : f.infer b c m x = p at hf hin
      generalize ha2 : a.infer b c m x = q at hac hin
      have hps : p.1.size ≤ 1000 := by rw [← hf2]; exact Rw.infer_size ..
      have hqs : q.1.size ≤ 1000 := by rw [← ha2]; exact Rw.infer_size ..
      refine ⟨by omega, by rw [hl]; simp, _, _, _, _, _, by rw [hl]; exact Rw.enc_getD (l := [f, a]) (k := 0) (by simp), _, _, _, hf, ITE.intro (fun h => ?_) fun h => ?_⟩
      · have he : p.2 ≠ 0 := by simpa using h
        rw [hin, appRes, if_pos he]; rfl
      have he : ¬ p.2 ≠ 0 := by simpa using h
      simp only [appRes, if_neg he] at hin
      refine ⟨by omega, by rw [hl]; simp, _, _, _, _, _, by rw [hl]; exact Rw.enc_getD (l := [f, a]) (k := 1) (by simp), _, _, _, hac, ITE.intro (fun h => ?_) fun h => ?_⟩
      · have he2 : q.2 ≠ 0 := by simpa using h
        rw [hin, if_pos he2]; rfl
      have he2 : ¬ q.2 ≠ 0 := by simpa using h
      rw [if_neg he2] at hin
      rw [List.length_map]
      have hpe := p.1.size_eq
      cases hpa : p.1.args with
      | nil =>
        rw [hpa] at hin
        refine ITE.pos rfl ?_
        rw [hin]; rfl
      | cons u us =>
        rw [hpa] at hin hpe
        rw [Ty.sizes] at hpe
        have hus := u.size_pos
        have heq := equal_calls _ u q.1 (Nat.le_refl _) (by omega)
        rw [Ty.enc_eq, Ty.enc_eq] at heq
        refine ITE.neg (by simp; omega) ⟨by omega, by simp, _, _, Ty.enc_getD (l := u :: us) (k := 0) (by simp), _, heq, ITE.intro (fun h => ?_) fun h => ?_⟩
        · have hs : ¬ Ty.same u q.1 = true := by simpa using h
          rw [hin]; simp only [if_neg hs]; rfl
        · have hs : Ty.same u q.1 = true := by simpa using h
          have hre := rest_calls (t := p.1) (by omega) (by rw [hpa]; simp)
          rw [hpa] at hre
          refine ⟨_, _, _, hre, ?_⟩
          rw [hin]; simp only [if_pos hs]; rfl
    · have e3 : ¬ r.kind = 3 := by simpa using h3
      have e4 : ¬ r.kind = 4 := by simpa using h4
      rw [if_neg e3, if_neg e4] at hin
      have hbd : ∀ t, headTy c m x r.kind r.index = some t → t.size ≤ 500000000 := by
        intro t ht
        rcases headTy_mem ht with h1 | h1 | h1
        · have := Ty.sizes_mem h1; omega
        · exact hc t h1
        · exact hm t h1
      have hh := HeadType_calls (b := b) (c := c) (m := m) (x := x) (k := r.kind) (i := r.index) hi (by omega) hbd
      cases ht : headTy c m x r.kind r.index with
      | none =>
        rw [ht] at hh hin
        refine ⟨_, _, _, hh, ITE.neg rfl ?_⟩
        rw [hin]; rfl
      | some t =>
        rw [ht] at hh hin
        refine ⟨_, _, _, hh, ITE.pos rfl ⟨_, ksize_calls (hbd t ht), ITE.intro (fun h => ?_) fun h => ?_⟩⟩
        · have hg : t.size > 1000 := by have := of_decide_eq_true h; omega
          rw [hin, headRes, if_pos hg]; rfl
        · have hg : ¬ t.size > 1000 := by have := of_decide_eq_false h; omega
          rw [hin, headRes, if_neg hg]; rfl

theorem Infer_calls {b : Int} {c m x : List Ty} {r : Rw} (hc : ∀ t ∈ c, t.size ≤ 500000000) (hm : ∀ t ∈ m, t.size ≤ 500000000) (hok : r.Ok) (hx : Ty.sizes x + r.total ≤ 400000000) :
    PureIs Try.prog 43 [.agg [nI b, .sl (c.map Ty.enc), .sl (m.map Ty.enc)], .sl (x.map Ty.enc), r.enc] (encTE (if r.rightB = true then r.infer b c m x else (noT, 1))) := by
  have h1 := right_calls (t := r) (by omega)
  rw [Rw.enc_eq] at h1
  cases hr : r.rightB with
  | false =>
    rw [hr] at h1
    rw [Rw.enc_eq]
    exact vc43_ok ⟨_, h1, ITE.pos rfl rfl⟩
  | true =>
    have hs : r.shaped = true := by
      rw [Rw.rightB, Bool.and_eq_true] at hr; exact hr.1
    have h2 := infer_calls (b := b) hc hm _ r x (Nat.le_refl _) hs hok hx
    rw [hr] at h1
    rw [Rw.enc_eq] at h2 ⊢
    exact vc43_ok ⟨_, h1, ITE.neg rfl ⟨_, _, _, h2, rfl⟩⟩

/-! ### The document's -/

theorem rinfer_calls {b : Int} {c m : List Ty} (hc : ∀ t ∈ c, t.size ≤ 500000000) (hm : ∀ t ∈ m, t.size ≤ 500000000) : ∀ (n : Nat) (r : Rw) (x : List Ty), r.total ≤ n → r.shaped = true → r.Ok → Ty.sizes x + r.total ≤ 400000000 →
    PureIs Try.prog 94 [.agg [nI b, .sl (c.map Ty.enc), .sl (m.map Ty.enc)], .sl (x.map Ty.enc), r.enc] (encTE (r.infer b c m x)) := by
  intro n
  induction n with
  | zero => intro t x h; have := t.total_pos; omega
  | succ n ih =>
    intro r x h hsh hok hx
    have hts := r.total_eq
    have hxl := Ty.sizes_len x
    rw [Rw.shaped_eq, Bool.and_eq_true, decide_eq_true_eq] at hsh
    obtain ⟨ha, hsk⟩ := hsh
    obtain ⟨_, hi, hok⟩ := Rw.ok_eq hok
    have hin := Rw.infer_eq b c m x r
    rw [Rw.enc_eq]
    refine vc94_ok (ITE.intro (fun h0 => ?_) fun h0 => ITE.intro (fun h3 => ?_) fun h3 => ?_)
    · have e0 : r.kind < 3 := of_decide_eq_true h0
      rw [if_neg (by omega), if_neg (by omega)] at hin
      have hbd : ∀ t, headTy c m x r.kind r.index = some t → t.size ≤ 500000000 := by
        intro t ht
        rcases headTy_mem ht with h1 | h1 | h1
        · have := Ty.sizes_mem h1; omega
        · exact hc t h1
        · exact hm t h1
      have hh := rheadType_calls (b := b) (c := c) (m := m) (x := x) (k := r.kind) (i := r.index) hi (by omega)
      cases ht : headTy c m x r.kind r.index with
      | none =>
        rw [ht] at hh hin
        refine ⟨_, _, _, hh, ITE.pos rfl ?_⟩
        rw [hin]; rfl
      | some t =>
        rw [ht] at hh hin
        have hz := tysize_calls _ t (Nat.le_refl _) (by have := hbd t ht; omega)
        rw [Ty.enc_eq] at hz
        refine ⟨_, _, _, hh, ITE.neg rfl ⟨_, hz, ITE.intro (fun h => ?_) fun h => ?_⟩⟩
        · have hg : t.size > 1000 := by have := of_decide_eq_true h; omega
          rw [hin, headRes, if_pos hg]; rfl
        · have hg : ¬ t.size > 1000 := by have := of_decide_eq_false h; omega
          rw [hin, headRes, if_neg hg]; rfl
    · have e3 : r.kind = 3 := by simpa using h3
      rw [if_pos e3] at hin
      refine ⟨_, rrightT_calls (by omega), ITE.intro (fun h => ?_) fun h => ?_⟩
      · have : ¬ r.type.rightB b = true := by simpa using h
        rw [if_neg this] at hin
        rw [hin]; rfl
      have hr : r.type.rightB b = true := by simpa using h
      rw [if_pos hr] at hin
      obtain ⟨a, hl⟩ := arity3 e3 ha
      rw [hl] at hin hsk hok hts
      rw [Rw.shapeds, Rw.shapeds, Bool.and_true] at hsk
      simp only [Rw.totals] at hts
      have hx2 : Ty.sizes (x ++ [r.type]) = Ty.sizes x + r.type.size := by rw [Ty.sizes_append, Ty.sizes_one]
      have hcall := ih a (x ++ [r.type]) (by omega) hsk hok.1 (by omega)
      rw [Rw.enc_eq] at hcall
      have hbe := behind_calls (a := x) (b := [r.type]) (by omega) (by simp)
      rw [← one_enc] at hbe
      rw [Rw.infers, Rw.infers] at hin
      generalize ha2 : a.infer b c m (x ++ [r.type]) = p at hcall hin
      have hps : p.1.size ≤ 1000 := by rw [← ha2]; exact Rw.infer_size ..
      refine ⟨_, hbe, by omega, by rw [hl]; simp, _, _, _, _, _, by rw [hl]; exact Rw.enc_getD (l := [a]) (k := 0) (by simp), _, _, _, hcall, ITE.intro (fun h => ?_) fun h => ?_⟩
      · have he : p.2 ≠ 0 := by simpa using h
        rw [hin, lamRes, if_pos he]; rfl
      have he : ¬ p.2 ≠ 0 := by simpa using h
      simp only [lamRes, if_neg he] at hin
      have hpl := Ty.sizes_len p.1.args
      have hpe := p.1.size_eq
      have harr := rarrow_calls (t := p.1) (l := [r.type]) (by simp; omega)
      have hsz : (p.1.arrow [r.type]).size ≤ 500000000 := by
        simp only [Ty.arrow, Ty.size, Ty.sizes_append, Ty.sizes_one]; omega
      have hz := tysize_calls _ (p.1.arrow [r.type]) (Nat.le_refl _) (by omega)
      rw [Ty.arrow, Ty.enc_mk] at hz
      rw [← one_enc] at harr
      refine ⟨_, _, harr, _, hz, ITE.intro (fun h => ?_) fun h => ?_⟩
      · have hg : (p.1.arrow [r.type]).size > 1000 := by
          have := of_decide_eq_true h
          simp only [Ty.arrow]; omega
        rw [hin, if_pos hg]; rfl
      · have hg : ¬ (p.1.arrow [r.type]).size > 1000 := by
          have := of_decide_eq_false h
          simp only [Ty.arrow]; omega
        rw [hin, if_neg hg]; rfl
    · have e0 : ¬ r.kind < 3 := of_decide_eq_false h0
      have e3 : ¬ r.kind = 3 := by simpa using h3
      have e4 : r.kind = 4 := Decidable.byContradiction fun hn => by
        have : arity r.kind = -1 := by
          unfold arity
          rw [if_neg (by omega), if_neg e3, if_neg hn]
        omega
      rw [if_neg e3, if_pos e4] at hin
      obtain ⟨f, a, hl⟩ := arity4 e4 ha
      rw [hl] at hin hsk hok hts
      rw [Rw.shapeds, Rw.shapeds, Rw.shapeds, Bool.and_true, Bool.and_eq_true] at hsk
      simp only [Rw.totals] at hts
      have hf := ih f x (by omega) hsk.1 hok.1 (by omega)
      have hac := ih a x (by omega) hsk.2 hok.2.1 (by omega)
      rw [Rw.enc_eq] at hf hac
      rw [Rw.infers, Rw.infers, Rw.infers] at hin
      generalize hf2 : f.infer b c m x = p at hf hin
      generalize ha2 : a.infer b c m x = q at hac hin
      have hps : p.1.size ≤ 1000 := by rw [← hf2]; exact Rw.infer_size ..
      have hqs : q.1.size ≤ 1000 := by rw [← ha2]; exact Rw.infer_size ..
      refine ⟨by omega, by rw [hl]; simp, _, _, _, _, _, by rw [hl]; exact Rw.enc_getD (l := [f, a]) (k := 0) (by simp), _, _, _, hf, ITE.intro (fun h => ?_) fun h => ?_⟩
      · have he : p.2 ≠ 0 := by simpa using h
        rw [hin, appRes, if_pos he]; rfl
      have he : ¬ p.2 ≠ 0 := by simpa using h
      simp only [appRes, if_neg he] at hin
      refine ⟨by omega, by rw [hl]; simp, _, _, _, _, _, by rw [hl]; exact Rw.enc_getD (l := [f, a]) (k := 1) (by simp), _, _, _, hac, ITE.intro (fun h => ?_) fun h => ?_⟩
      · have he2 : q.2 ≠ 0 := by simpa using h
        rw [hin, if_pos he2]; rfl
      have he2 : ¬ q.2 ≠ 0 := by simpa using h
      rw [if_neg he2] at hin
      rw [List.length_map]
      have hpe := p.1.size_eq
      have hpl := Ty.sizes_len p.1.args
      cases hpa : p.1.args with
      | nil =>
        rw [hpa] at hin
        refine ITE.pos rfl ?_
        rw [hin]; rfl
      | cons u us =>
        have hre := rrest_calls (t := p.1) (by omega) (by rw [hpa]; simp)
        rw [hpa] at hin hpe hre
        rw [Ty.sizes] at hpe
        have hus := u.size_pos
        have heq := rsame_calls _ u q.1 (Nat.le_refl _) (by omega)
        rw [Ty.enc_eq, Ty.enc_eq] at heq
        refine ITE.neg (by simp; omega) ⟨by omega, by simp, _, _, Ty.enc_getD (l := u :: us) (k := 0) (by simp), _, heq, ITE.intro (fun h => ?_) fun h => ?_⟩
        · have hs : ¬ Ty.same u q.1 = true := by simpa using h
          rw [hin]; simp only [if_neg hs]; rfl
        · have hs : Ty.same u q.1 = true := by simpa using h
          refine ⟨_, _, hre, ?_⟩
          rw [hin]; simp only [if_pos hs]; rfl

theorem rInfer_calls {b : Int} {c m x : List Ty} {r : Rw} (hc : ∀ t ∈ c, t.size ≤ 500000000) (hm : ∀ t ∈ m, t.size ≤ 500000000) (hok : r.Ok) (hx : Ty.sizes x + r.total ≤ 400000000) :
    PureIs Try.prog 45 [.agg [nI b, .sl (c.map Ty.enc), .sl (m.map Ty.enc)], .sl (x.map Ty.enc), r.enc] (encTE (if r.rightB = true then r.infer b c m x else (noT, 1))) := by
  have h1 := rright_calls (t := r) (by omega)
  rw [Rw.enc_eq] at h1
  cases hr : r.rightB with
  | false =>
    rw [hr] at h1
    rw [Rw.enc_eq]
    exact vc45_ok ⟨_, h1, ITE.pos rfl rfl⟩
  | true =>
    have hs : r.shaped = true := by
      rw [Rw.rightB, Bool.and_eq_true] at hr; exact hr.1
    have h2 := rinfer_calls (b := b) hc hm _ r x (Nat.le_refl _) hs hok hx
    rw [hr] at h1
    rw [Rw.enc_eq] at h2 ⊢
    exact vc45_ok ⟨_, h1, ITE.neg rfl ⟨_, _, _, h2, rfl⟩⟩

end Go.Proofs.Ytfbncddnakaaiaa
/- Raw terms that are bound, applied, grown, substituted; a step; the chapter's example. -/
namespace Go.Proofs.Ytfbncddnakaaiaa
open Go
set_option linter.unusedSimpArgs false
set_option linter.unusedVariables false

/-! ### What fits -/

mutual
def Rw.Fit : Rw → Prop
  | .mk _ t _ l => t.size ≤ 500000000 ∧ l.length ≤ 500000000 ∧ Rw.Fits l
def Rw.Fits : List Rw → Prop
  | [] => True
  | t :: l => Rw.Fit t ∧ Rw.Fits l
end
theorem Rw.fit_eq {t : Rw} : t.Fit ↔ t.type.size ≤ 500000000 ∧ t.kids.length ≤ 500000000 ∧ Rw.Fits t.kids := by cases t; exact Iff.rfl
theorem Rw.fits_iff {l : List Rw} : Rw.Fits l ↔ ∀ t ∈ l, t.Fit := by
  induction l with
  | nil => simp [Rw.Fits]
  | cons u l ih => simp [Rw.Fits, ih]
mutual
theorem Rw.fit_of : ∀ (t : Rw), t.total ≤ 500000000 → t.Fit
  | .mk k t i l, h => by
    simp only [Rw.total] at h
    have := Rw.totals_len l
    exact ⟨by omega, by omega, Rw.fits_of l (by omega)⟩
theorem Rw.fits_of : ∀ (l : List Rw), Rw.totals l ≤ 500000000 → Rw.Fits l
  | [], _ => True.intro
  | t :: l, h => by
    simp only [Rw.totals] at h
    exact ⟨Rw.fit_of t (by omega), Rw.fits_of l (by omega)⟩
end
theorem Rw.kid_depth {t : Rw} {k : Nat} (h : k < t.kids.length) : t.kids[k].depth < t.depth := by
  have h1 := t.depth_eq
  have := (Rw.depths_iff (n := 0) (m := t.depth - 1) (l := t.kids)).1 (by omega)
  have := this.2 _ (List.getElem_mem h)
  omega

theorem copiedF_calls : ∀ (n : Nat) (t : Rw), t.total ≤ n → t.Fit → PureIs Try.prog 90 [t.enc] t.enc := by
  intro n
  induction n with
  | zero => intro t h; have := t.total_pos; omega
  | succ n ih =>
    intro t h hf
    obtain ⟨f1, f2, f3⟩ := Rw.fit_eq.1 hf
    rw [Rw.enc_eq]
    refine vc90_ok ⟨_, _, arrow_nil (by omega), rfl, ?_⟩
    refine LoopP.intro (fun k : Nat => (((), (), t.kids.map Rw.enc, (t.kids.length : Int), (k : Int), ()), ((t.kind, t.type.args.map Ty.enc, t.type.base, t.index, t.kids.map Rw.enc, ()), (0, (), 0, 0, (), ()), (t.kind, t.type.args.map Ty.enc, t.type.base, t.index, (), ()), (t.kids.take k).map Rw.enc, ())))
      (fun k => k ≤ t.kids.length) (fun k => t.kids.length - k) 0 (by rw [List.length_map]; rfl) (Nat.zero_le _) ?_
    intro k hk again hag
    dsimp only
    rw [List.length_map]
    refine ITE.intro (fun h => ?_) fun h => ?_
    · have hlt : k < t.kids.length := by simpa using h
      have hi := ih t.kids[k] (by have := Rw.kid_total hlt; omega) (Rw.fits_iff.1 f3 _ (List.getElem_mem hlt))
      rw [Rw.enc_eq] at hi
      refine ⟨by omega, by omega, _, _, _, _, _, Rw.enc_getD hlt, _, _, _, _, _, hi, rfl, appOk_one rfl (by simp; omega) (by decide), rfl, ?_⟩
      rw [wrap_n (by omega), Rw.enc_snoc, take_snoc' hlt]
      exact hag (k + 1) (by omega) (by omega)
    · have : t.kids.length ≤ k := by simpa using h
      refine ⟨rfl, ?_⟩
      rw [List.take_of_length_le this]

/-! ### Heads, binders, applications -/

abbrev headRw (k i : Int) : Rw := .mk k noT i []
theorem Head_calls (k i : Int) : PureIs Try.prog 42 [nI k, nI i] (.agg [nI k, .sl [], nI 0, nI i, .sl []]) := vc42_ok rfl
theorem headRw_enc (k i : Int) : (headRw k i).enc = .agg [nI k, .sl [], nI 0, nI i, .sl []] := by rw [Rw.enc_mk]; rfl

theorem one_rw (r : Rw) : [AV.agg [nI r.kind, .sl (r.type.args.map Ty.enc), nI r.type.base, nI r.index, .sl (r.kids.map Rw.enc)]] = [r].map Rw.enc := by rw [← Rw.enc_eq]; rfl
theorem two_rw (r s : Rw) : [AV.agg [nI r.kind, .sl (r.type.args.map Ty.enc), nI r.type.base, nI r.index, .sl (r.kids.map Rw.enc)], AV.agg [nI s.kind, .sl (s.type.args.map Ty.enc), nI s.type.base, nI s.index, .sl (s.kids.map Rw.enc)]] = [r, s].map Rw.enc := by rw [← Rw.enc_eq, ← Rw.enc_eq]; rfl

def bwL (l : List Ty) : Nat → List (Nat × Ty)
  | 0 => []
  | k + 1 => (k, l.getD k noT) :: bwL l k

theorem getD_ty {l : List Ty} {k : Nat} (h : k < l.length) : l.getD k noT = l[k] := by simp [List.getD, h]

theorem backward_calls (l : List Ty) : PureIs Try.prog 91 [.sl (l.map Ty.enc)] (.clo 121 [.eptr (.sl (l.map Ty.enc)) 0]) := vc91_ok rfl

theorem backward1_calls {l : List Ty} (h : l.length ≤ 1000000000) : YFn Try.prog 121 (fun v => [v, .eptr (.sl (l.map Ty.enc)) 0]) ((bwL l l.length).map encP) false := by
  refine vc121_ok fun yv more => ⟨rfl, ?_⟩
  refine LoopP.intro (fun k : Nat => (((yv, (), (k : Int) - 1, ()), ()), some ((bwL l k).map encP ++ more))) (fun k => k ≤ l.length) (fun k => k) l.length (by rw [List.length_map, wrap_i (by omega) (by omega)]) (Nat.le_refl _) ?_
  intro k hk again hag
  dsimp only
  rw [List.length_map]
  refine ITE.intro (fun h => ?_) fun h => ?_
  · have h' : (k : Int) - 1 ≥ 0 := of_decide_eq_true h
    obtain ⟨j, rfl⟩ : ∃ j, k = j + 1 := ⟨k - 1, by omega⟩
    have hlt : j < l.length := by omega
    have e : ((j + 1 : Nat) : Int) - 1 = (j : Int) := by omega
    rw [e]
    refine ⟨by omega, by omega, _, _, Ty.enc_getD hlt, rfl, (bwL l j).map encP ++ more, by rw [bwL, getD_ty hlt]; rfl, fun b => ITE.intro (fun h => ?_) fun h => ?_⟩
    · have : b = false := by simpa using h
      subst this
      exact ⟨false, rfl⟩
    · have : b = true := by simpa using h
      subst this
      refine ⟨rfl, ?_⟩
      rw [wrap_i (n := (j : Int) - 1) (by omega) (by omega)]
      exact hag j (by omega) (by omega)
  · have h' : ¬ (k : Int) - 1 ≥ 0 := of_decide_eq_false h
    have : k = 0 := by omega
    subst this
    exact ⟨true, rfl⟩

theorem backward_seq {l : List Ty} (h : l.length ≤ 1000000000) : SeqIs Try.prog 121 [.eptr (.sl (l.map Ty.enc)) 0] [.v (.c (.i .i64)), .v (.a [.l, .i .i64])] ((bwL l l.length).map encE) :=
  seqIs_of (prm := [.v (.c (.i .i64)), .v (.a [.l, .i .i64])]) encE (backward1_calls h)

def Rw.bind (r : Rw) (l : List Ty) : Rw := l.foldr (fun t r => .mk 3 t 0 [r]) r
theorem bind_drop {r : Rw} {l : List Ty} {k : Nat} (h : k < l.length) : r.bind (l.drop k) = .mk 3 l[k] 0 [r.bind (l.drop (k + 1))] := by
  rw [List.drop_eq_getElem_cons h]; rfl

theorem bind_calls {r : Rw} {l : List Ty} (hr : r.Fit) (hl : ∀ t ∈ l, t.size ≤ 500000000) (hn : l.length ≤ 1000000000) : PureIs Try.prog 40 [r.enc, .sl (l.map Ty.enc)] (r.bind l).enc := by
  have hc := copiedF_calls _ r (Nat.le_refl _) hr
  rw [Rw.enc_eq] at hc ⊢
  refine vc40_ok ⟨_, _, _, _, _, hc, backward_calls l, ?_⟩
  refine RangeP.intro2 (fun s : Rw => ((r.kind, r.type.args.map Ty.enc, r.type.base, r.index, r.kids.map Rw.enc, ()), (0, (), 0, 0, (), ()), (s.kind, s.type.args.map Ty.enc, s.type.base, s.index, s.kids.map Rw.enc, ()), ())) encE (bwL l l.length) (backward_seq hn)
    (fun rest s => ∃ k, k ≤ l.length ∧ rest = bwL l k ∧ s = r.bind (l.drop k)) r rfl ⟨l.length, Nat.le_refl _, rfl, by rw [List.drop_length]; rfl⟩ (fun g rest s ⟨k, hk, he, hs⟩ again hag => ?_) fun s ⟨k, hk, he, hs⟩ => ?_
  · cases k with
    | zero => cases he
    | succ k =>
      simp only [bwL, List.cons.injEq] at he
      obtain ⟨rfl, rfl⟩ := he
      have hlt : k < l.length := by omega
      rw [getD_ty hlt]
      dsimp only [encE]
      refine ⟨_, _, arrow_nil (by have := hl _ (List.getElem_mem hlt); omega), ?_⟩
      rw [one_rw]
      exact hag (.mk 3 l[k] 0 [s]) ⟨k, by omega, rfl, by rw [bind_drop hlt, hs]⟩
  · cases k with
    | zero => rw [hs, List.drop_zero, Rw.enc_eq]
    | succ k => cases he

def Rw.call (r : Rw) (l : List Rw) : Rw := l.foldl (fun r a => .mk 4 noT 0 [r, a]) r
theorem call_snoc {r : Rw} {l : List Rw} {k : Nat} (h : k < l.length) : r.call (l.take (k + 1)) = .mk 4 noT 0 [r.call (l.take k), l[k]] := by
  rw [← take_snoc' h, Rw.call, List.foldl_append]; rfl

theorem call_calls {r : Rw} {l : List Rw} (hr : r.Fit) (hl : Rw.Fits l) (hn : l.length ≤ 1000000000) : PureIs Try.prog 41 [r.enc, .sl (l.map Rw.enc)] (r.call l).enc := by
  have hc := copiedF_calls _ r (Nat.le_refl _) hr
  rw [Rw.enc_eq] at hc ⊢
  refine vc41_ok ⟨_, _, _, _, _, hc, ?_⟩
  refine LoopP.intro (fun k : Nat => (((), (), l.map Rw.enc, (l.length : Int), (k : Int), ()), ((r.kind, r.type.args.map Ty.enc, r.type.base, r.index, r.kids.map Rw.enc, ()), (0, (), 0, 0, (), ()),
    ((r.call (l.take k)).kind, (r.call (l.take k)).type.args.map Ty.enc, (r.call (l.take k)).type.base, (r.call (l.take k)).index, (r.call (l.take k)).kids.map Rw.enc, ()), ()))) (fun k => k ≤ l.length) (fun k => l.length - k) 0 (by rw [List.length_map]; rfl) (Nat.zero_le _) ?_
  intro k hk again hag
  dsimp only
  rw [List.length_map]
  refine ITE.intro (fun h => ?_) fun h => ?_
  · have hlt : k < l.length := by simpa using h
    have hi := copiedF_calls _ l[k] (Nat.le_refl _) (Rw.fits_iff.1 hl _ (List.getElem_mem hlt))
    rw [Rw.enc_eq] at hi
    refine ⟨by omega, by omega, _, _, _, _, _, Rw.enc_getD hlt, _, _, _, _, _, hi, ?_⟩
    rw [wrap_n (by omega), two_rw]
    have := hag (k + 1) (by omega) (by omega)
    rw [call_snoc hlt] at this
    exact this
  · have : l.length ≤ k := by simpa using h
    rw [List.take_of_length_le this, Rw.enc_eq]

/-! ### Indexes grown; another term for the index 0 -/

mutual
def Rw.grow (b : Int) (d : Nat) : Rw → Rw
  | .mk k t i l => if k = 0 then (if i ≥ d then headRw 0 (IntKind.wrap .i64 (i + b)) else headRw 0 i) else .mk k t i (Rw.grows b (if k = 3 then d + 1 else d) l)
def Rw.grows (b : Int) (d : Nat) : List Rw → List Rw
  | [] => []
  | t :: l => Rw.grow b d t :: Rw.grows b d l
end
theorem Rw.grow_eq (b : Int) (d : Nat) (r : Rw) : r.grow b d = if r.kind = 0 then (if r.index ≥ d then headRw 0 (IntKind.wrap .i64 (r.index + b)) else headRw 0 r.index) else .mk r.kind r.type r.index (Rw.grows b (if r.kind = 3 then d + 1 else d) r.kids) := by cases r; rw [Rw.grow]; rfl
theorem Rw.grows_eq (b : Int) (d : Nat) (l : List Rw) : Rw.grows b d l = l.map (Rw.grow b d) := by
  induction l with
  | nil => rfl
  | cons t l ih => rw [Rw.grows, ih]; rfl

theorem grown1_calls (b : Int) (x : Rw) (d : Int) : PureIs Try.prog 144 [.agg [nI x.kind, .sl (x.type.args.map Ty.enc), nI x.type.base, nI x.index, .sl (x.kids.map Rw.enc)], nI d, .eptr (nI b) 0] (.agg [nI 0, .sl [], nI 0, nI (IntKind.wrap .i64 (x.index + b)), .sl []]) :=
  vc144_ok ⟨_, _, _, _, _, Head_calls _ _, rfl⟩

theorem turnedG_calls (b : Int) : ∀ (n : Nat) (t : Rw) (d : Nat), t.total ≤ n → t.Fit → d + t.depth ≤ 1000000000 → PureIs Try.prog 100 [t.enc, nI d, .clo 144 [.eptr (nI b) 0]] (t.grow b d).enc := by
  intro n
  induction n with
  | zero => intro t d h; have := t.total_pos; omega
  | succ n ih =>
    intro t d h hf hd
    obtain ⟨f1, f2, f3⟩ := Rw.fit_eq.1 hf
    have hge := Rw.grow_eq b d t
    rw [Rw.enc_eq t]
    refine vc_turnedG_ok (ITE.intro (fun h0 => ?_) fun h0 => ?_)
    · have e0 : t.kind = 0 := by simpa using h0
      rw [if_pos e0] at hge
      refine ITE.intro (fun h1 => ?_) fun h1 => ?_
      · have e1 : t.index ≥ d := of_decide_eq_true h1
        rw [if_pos e1] at hge
        refine ⟨_, _, _, _, _, grown1_calls b t d, ?_⟩
        rw [hge, headRw_enc]
      · have e1 : ¬ t.index ≥ d := of_decide_eq_false h1
        rw [if_neg e1] at hge
        refine ⟨_, _, _, _, _, Head_calls _ _, ?_⟩
        rw [hge, headRw_enc]
    · have e0 : ¬ t.kind = 0 := by simpa using h0
      rw [if_neg e0] at hge
      have loop : ∀ d2 : Nat, d2 = (if t.kind = 3 then d + 1 else d) → vc_turnedG_L9 (((d2 : Int), ((), ()), (), (), t.kids.map Rw.enc, ((List.length (t.kids.map Rw.enc) : Nat) : Int), 0, ()), ((t.kind, t.type.args.map Ty.enc, t.type.base, t.index, t.kids.map Rw.enc, ()), (0, (), 0, 0, (), ()), (t.kind, t.type.args.map Ty.enc, t.type.base, t.index, (), ()), [], ())) b (fun x => x = (t.grow b d).enc) := by
        intro d2 hd2
        have hd3 : d2 ≤ d + 1 := by rw [hd2]; split <;> omega
        rw [← hd2] at hge
        refine LoopP.intro (fun k : Nat => (((d2 : Int), ((), ()), (), (), t.kids.map Rw.enc, (t.kids.length : Int), (k : Int), ()), ((t.kind, t.type.args.map Ty.enc, t.type.base, t.index, t.kids.map Rw.enc, ()), (0, (), 0, 0, (), ()), (t.kind, t.type.args.map Ty.enc, t.type.base, t.index, (), ()), ((t.kids.take k).map (Rw.grow b d2)).map Rw.enc, ())))
          (fun k => k ≤ t.kids.length) (fun k => t.kids.length - k) 0 (by rw [List.length_map]; rfl) (Nat.zero_le _) ?_
        intro k hk again hag
        dsimp only
        rw [List.length_map]
        refine ITE.intro (fun h => ?_) fun h => ?_
        · have hlt : k < t.kids.length := by simpa using h
          have hi := ih t.kids[k] d2 (by have := Rw.kid_total hlt; omega) (Rw.fits_iff.1 f3 _ (List.getElem_mem hlt)) (by have := Rw.kid_depth hlt; omega)
          rw [Rw.enc_eq, Rw.enc_eq (Rw.grow b d2 _)] at hi
          refine ⟨by omega, by omega, _, _, _, _, _, Rw.enc_getD hlt, _, _, _, _, _, hi, rfl, appOk_one rfl (by simp; omega) (by decide), rfl, rfl, ?_⟩
          rw [wrap_n (by omega), Rw.enc_snoc]
          have := hag (k + 1) (by omega) (by omega)
          rw [← take_snoc' hlt, List.map_append, List.map_singleton] at this
          exact this
        · have : t.kids.length ≤ k := by simpa using h
          refine ⟨rfl, ?_⟩
          rw [List.take_of_length_le this, hge, Rw.enc_mk, Rw.grows_eq]
      refine ⟨_, _, arrow_nil (by omega), ITE.intro (fun h3 => ?_) fun h3 => ?_⟩
      · have e3 : t.kind = 3 := by simpa using h3
        rw [wrap_n (by omega)]
        exact ⟨rfl, rfl, loop (d + 1) (by rw [if_pos e3])⟩
      · have e3 : ¬ t.kind = 3 := by simpa using h3
        exact ⟨rfl, rfl, loop d (by rw [if_neg e3])⟩

theorem grown_calls {t : Rw} {d : Int} (hf : t.Fit) (hd : t.depth ≤ 1000000000) : PureIs Try.prog 139 [t.enc, nI d] (t.grow d 0).enc := by
  have h1 := turnedG_calls d _ t 0 (Nat.le_refl _) hf (by omega)
  rw [Rw.enc_eq t, Rw.enc_eq (t.grow d 0)] at h1
  rw [Rw.enc_eq t, Rw.enc_eq (t.grow d 0)]
  exact vc139_ok ⟨_, _, _, _, _, h1, rfl⟩

mutual
def Rw.subst (a : Rw) (d : Nat) : Rw → Rw
  | .mk k t i l => if k = 0 then (if i ≥ d then (if i = d then a.grow d 0 else headRw 0 (IntKind.wrap .i64 (i - 1))) else headRw 0 i) else .mk k t i (Rw.substs a (if k = 3 then d + 1 else d) l)
def Rw.substs (a : Rw) (d : Nat) : List Rw → List Rw
  | [] => []
  | t :: l => Rw.subst a d t :: Rw.substs a d l
end
theorem Rw.subst_eq (a : Rw) (d : Nat) (r : Rw) : Rw.subst a d r = if r.kind = 0 then (if r.index ≥ d then (if r.index = d then a.grow d 0 else headRw 0 (IntKind.wrap .i64 (r.index - 1))) else headRw 0 r.index) else .mk r.kind r.type r.index (Rw.substs a (if r.kind = 3 then d + 1 else d) r.kids) := by cases r; rw [Rw.subst]; rfl
theorem Rw.substs_eq (a : Rw) (d : Nat) (l : List Rw) : Rw.substs a d l = l.map (Rw.subst a d) := by
  induction l with
  | nil => rfl
  | cons t l ih => rw [Rw.substs, ih]; rfl

theorem subst1_calls {a x : Rw} {d : Nat} (hf : a.Fit) (hd : a.depth ≤ 1000000000) : PureIs Try.prog 138 [.agg [nI x.kind, .sl (x.type.args.map Ty.enc), nI x.type.base, nI x.index, .sl (x.kids.map Rw.enc)], nI d, .eptr (.agg [nI a.kind, .sl (a.type.args.map Ty.enc), nI a.type.base, nI a.index, .sl (a.kids.map Rw.enc)]) 0]
    (if x.index = d then a.grow d 0 else headRw 0 (IntKind.wrap .i64 (x.index - 1))).enc := by
  refine vc138_ok (ITE.intro (fun h => ?_) fun h => ?_)
  · have e : x.index = d := by simpa using h
    have h1 := grown_calls (d := d) hf hd
    rw [Rw.enc_eq, Rw.enc_eq (a.grow d 0)] at h1
    refine ⟨_, _, _, _, _, h1, ?_⟩
    rw [if_pos e, Rw.enc_eq (a.grow d 0)]
  · have e : ¬ x.index = d := by simpa using h
    refine ⟨_, _, _, _, _, Head_calls _ _, ?_⟩
    rw [if_neg e, headRw_enc]

theorem turnedS_calls {a : Rw} (ha : a.Fit) (had : a.depth ≤ 1000000000) : ∀ (n : Nat) (t : Rw) (d : Nat), t.total ≤ n → t.Fit → d + t.depth ≤ 1000000000 →
    PureIs Try.prog 100 [t.enc, nI d, .clo 138 [.eptr (.agg [nI a.kind, .sl (a.type.args.map Ty.enc), nI a.type.base, nI a.index, .sl (a.kids.map Rw.enc)]) 0]] (Rw.subst a d t).enc := by
  intro n
  induction n with
  | zero => intro t d h; have := t.total_pos; omega
  | succ n ih =>
    intro t d h hf hd
    obtain ⟨f1, f2, f3⟩ := Rw.fit_eq.1 hf
    have hge := Rw.subst_eq a d t
    rw [Rw.enc_eq t]
    refine vc_turnedS_ok (ITE.intro (fun h0 => ?_) fun h0 => ?_)
    · have e0 : t.kind = 0 := by simpa using h0
      rw [if_pos e0] at hge
      refine ITE.intro (fun h1 => ?_) fun h1 => ?_
      · have e1 : t.index ≥ d := of_decide_eq_true h1
        rw [if_pos e1] at hge
        have hs := subst1_calls (x := t) (d := d) ha had
        rw [← hge, Rw.enc_eq (Rw.subst a d t)] at hs
        refine ⟨_, _, _, _, _, hs, ?_⟩
        rw [Rw.enc_eq (Rw.subst a d t)]
      · have e1 : ¬ t.index ≥ d := of_decide_eq_false h1
        rw [if_neg e1] at hge
        refine ⟨_, _, _, _, _, Head_calls _ _, ?_⟩
        rw [hge, headRw_enc]
    · have e0 : ¬ t.kind = 0 := by simpa using h0
      rw [if_neg e0] at hge
      have loop : ∀ d2 : Nat, d2 = (if t.kind = 3 then d + 1 else d) → vc_turnedS_L9 (((d2 : Int), ((), ()), (), (), t.kids.map Rw.enc, ((List.length (t.kids.map Rw.enc) : Nat) : Int), 0, ()), ((t.kind, t.type.args.map Ty.enc, t.type.base, t.index, t.kids.map Rw.enc, ()), (0, (), 0, 0, (), ()), (t.kind, t.type.args.map Ty.enc, t.type.base, t.index, (), ()), [], ()))
          a.kind (a.type.args.map Ty.enc) a.type.base a.index (a.kids.map Rw.enc) (fun x => x = (Rw.subst a d t).enc) := by
        intro d2 hd2
        have hd3 : d2 ≤ d + 1 := by rw [hd2]; split <;> omega
        rw [← hd2] at hge
        refine LoopP.intro (fun k : Nat => (((d2 : Int), ((), ()), (), (), t.kids.map Rw.enc, (t.kids.length : Int), (k : Int), ()), ((t.kind, t.type.args.map Ty.enc, t.type.base, t.index, t.kids.map Rw.enc, ()), (0, (), 0, 0, (), ()), (t.kind, t.type.args.map Ty.enc, t.type.base, t.index, (), ()), ((t.kids.take k).map (Rw.subst a d2)).map Rw.enc, ())))
          (fun k => k ≤ t.kids.length) (fun k => t.kids.length - k) 0 (by rw [List.length_map]; rfl) (Nat.zero_le _) ?_
        intro k hk again hag
        dsimp only
        rw [List.length_map]
        refine ITE.intro (fun h => ?_) fun h => ?_
        · have hlt : k < t.kids.length := by simpa using h
          have hi := ih t.kids[k] d2 (by have := Rw.kid_total hlt; omega) (Rw.fits_iff.1 f3 _ (List.getElem_mem hlt)) (by have := Rw.kid_depth hlt; omega)
          rw [Rw.enc_eq, Rw.enc_eq (Rw.subst a d2 _)] at hi
          refine ⟨by omega, by omega, _, _, _, _, _, Rw.enc_getD hlt, _, _, _, _, _, hi, rfl, appOk_one rfl (by simp; omega) (by decide), rfl, rfl, ?_⟩
          rw [wrap_n (by omega), Rw.enc_snoc]
          have := hag (k + 1) (by omega) (by omega)
          rw [← take_snoc' hlt, List.map_append, List.map_singleton] at this
          exact this
        · have : t.kids.length ≤ k := by simpa using h
          refine ⟨rfl, ?_⟩
          rw [List.take_of_length_le this, hge, Rw.enc_mk, Rw.substs_eq]
      refine ⟨_, _, arrow_nil (by omega), ITE.intro (fun h3 => ?_) fun h3 => ?_⟩
      · have e3 : t.kind = 3 := by simpa using h3
        rw [wrap_n (by omega)]
        exact ⟨rfl, rfl, loop (d + 1) (by rw [if_pos e3])⟩
      · have e3 : ¬ t.kind = 3 := by simpa using h3
        exact ⟨rfl, rfl, loop d (by rw [if_neg e3])⟩

theorem Subst_calls {t a : Rw} (hf : t.Fit) (hd : t.depth ≤ 1000000000) (ha : a.Fit) (had : a.depth ≤ 1000000000) : PureIs Try.prog 132 [t.enc, a.enc] (Rw.subst a 0 t).enc := by
  have h1 := turnedS_calls ha had _ t 0 (Nat.le_refl _) hf (by omega)
  rw [Rw.enc_eq t, Rw.enc_eq (Rw.subst a 0 t)] at h1
  rw [Rw.enc_eq t, Rw.enc_eq a, Rw.enc_eq (Rw.subst a 0 t)]
  exact vc132_ok ⟨_, _, _, _, _, h1, rfl⟩

/-! ### A step of a redex -/

def Rw.redex : Rw → Bool
  | .mk k _ _ [f, _] => k == 4 && (f.kind == 3 && f.kids.length == 1)
  | _ => false
theorem redex_calls (r : Rw) : PureIs Try.prog 131 [r.enc] (nB r.redex) := by
  have hre : r.redex = (r.kind == 4 && (r.kids.length == 2 && (match r.kids with | f :: _ => f.kind == 3 && f.kids.length == 1 | [] => false))) := by
    obtain ⟨k, t, i, l⟩ := r
    match l with
    | [] => simp [Rw.redex, Rw.kids]
    | [a] => simp [Rw.redex, Rw.kids]
    | [a, b] => simp [Rw.redex, Rw.kids, Rw.kind]
    | a :: b :: c :: l => simp [Rw.redex, Rw.kids]
  rw [Rw.enc_eq]
  refine vc131_ok (ITE.intro (fun h => ?_) fun h => ?_)
  · rw [h, Bool.true_and] at hre
    rw [List.length_map]
    refine ITE.intro (fun h => ?_) fun h => ?_
    · have h2 : r.kids.length = 2 := by simp at h; omega
      rw [h2] at hre
      obtain ⟨f, g, hk⟩ : ∃ f g, r.kids = [f, g] := by
        match hk : r.kids, h2 with
        | [f, g], _ => exact ⟨f, g, rfl⟩
      rw [hk] at hre ⊢
      dsimp only at hre
      have g1 := Rw.enc_getD (l := [f, g]) (k := 0) (by simp)
      simp only [List.getElem_cons_zero] at g1
      refine ⟨by omega, by simp, _, _, _, _, _, g1, ?_⟩
      refine ITE.intro (fun h => ⟨by omega, by simp, _, _, _, _, _, g1, ?_⟩) fun h => ?_
      · rw [hre, h, List.length_map]
        simp only [beq_self_eq_true, Bool.true_and]
        refine congrArg (fun b => nB b) ?_
        rw [Bool.eq_iff_iff]
        simp only [beq_iff_eq]
        omega
      · rw [hre, h]; rfl
    · have h2 : ¬ r.kids.length = 2 := by simp at h; omega
      rw [hre]
      have : (r.kids.length == 2) = false := by simpa using h2
      rw [this, Bool.false_and]
  · rw [hre, h, Bool.false_and]

theorem redex_parts {r : Rw} (h : r.redex = true) : ∃ f a b, r.kids = [f, a] ∧ f.kids = [b] ∧ r.kind = 4 ∧ f.kind = 3 := by
  obtain ⟨k, t, i, l⟩ := r
  match l with
  | [] => simp [Rw.redex] at h
  | [a] => simp [Rw.redex] at h
  | [f, a] =>
    simp only [Rw.redex, Bool.and_eq_true, beq_iff_eq] at h
    obtain ⟨h1, h2, h3⟩ := h
    match hf : f.kids, h3 with
    | [b], _ => exact ⟨f, a, b, rfl, hf, h1, h2⟩
  | a :: b :: c :: l => simp [Rw.redex] at h

def encRB (r : Rw) (b : Bool) : AV := .tup [.agg [nI r.kind, .sl (r.type.args.map Ty.enc), nI r.type.base, nI r.index, .sl (r.kids.map Rw.enc)], nB b]

theorem stepR_calls {r f a b : Rw} (hr : r.redex = true) (h1 : r.kids = [f, a]) (h2 : f.kids = [b]) (hb : b.Fit) (hbd : b.depth ≤ 1000000000) (ha : a.Fit) (had : a.depth ≤ 1000000000) : PureIs Try.prog 95 [r.enc] (encRB (Rw.subst a 0 b) true) := by
  have hre := redex_calls r
  have hs := Subst_calls hb hbd ha had
  rw [hr, Rw.enc_eq] at hre
  rw [Rw.enc_eq b, Rw.enc_eq a, Rw.enc_eq (Rw.subst a 0 b)] at hs
  rw [Rw.enc_eq]
  rw [h1] at hre ⊢
  have g1 := Rw.enc_getD (l := [f, a]) (k := 0) (by simp)
  have g2 := Rw.enc_getD (l := [f, a]) (k := 1) (by simp)
  simp only [List.getElem_cons_zero, List.getElem_cons_succ] at g1 g2
  rw [h2] at g1
  exact vc_stepR_ok ⟨hre, by omega, by simp, _, _, _, _, _, g1, by omega, by simp, _, _, _, _, _, Rw.enc_getD (l := [b]) (k := 0) (by simp), by omega, by simp, _, _, _, _, _, g2, _, _, _, _, _, hs, rfl⟩

theorem Step_calls {r s : Rw} {b : Bool} (h : PureIs Try.prog 95 [r.enc] (encRB s b)) (hs : s.Fit) : PureIs Try.prog 48 [r.enc] (encRB s b) := by
  have hc := copiedF_calls _ s (Nat.le_refl _) hs
  rw [Rw.enc_eq s] at hc
  rw [Rw.enc_eq r] at h ⊢
  exact vc48_ok ⟨_, _, _, _, _, _, h, _, _, _, _, _, hc, rfl⟩

/-! ### The chapter's example -/

theorem kindOf_calls (b : Int) : PureIs Try.prog 89 [nI b, .sl []] (.agg [.sl [], nI b]) := by
  have hc := copied_calls _ (.mk [] b) (Nat.le_refl _) (by simp [Ty.size, Ty.sizes])
  rw [Ty.enc_mk] at hc
  exact vc89_ok ⟨_, _, hc, rfl⟩

theorem known07_calls : PureIs Try.prog 36 [] (nB true) := by
  let a : Ty := .mk [] 0
  let r : Rw := .mk 4 noT 0 [.mk 3 a 0 [headRw 0 0], headRw 1 0]
  have hb := bind_calls (r := headRw 0 0) (l := [a]) (Rw.fit_of _ (by simp [Rw.total, Rw.totals, Ty.size, Ty.sizes])) (by simp [a, Ty.size, Ty.sizes]) (by simp)
  have hc := call_calls (r := .mk 3 a 0 [headRw 0 0]) (l := [headRw 1 0]) (Rw.fit_of _ (by simp [a, Rw.total, Rw.totals, Ty.size, Ty.sizes])) (Rw.fits_of _ (by simp [Rw.total, Rw.totals, Ty.size, Ty.sizes])) (by simp)
  have hok : r.Ok := by simp [r, Rw.Ok, Rw.Oks, I64]
  have hi := Infer_calls (b := 1) (c := [a]) (m := []) (x := []) (r := r) (by simp [a, Ty.size, Ty.sizes]) (by simp) hok (by simp [r, a, Rw.total, Rw.totals, Ty.size, Ty.sizes])
  have hst := Step_calls (r := r) (s := headRw 1 0) (b := true) (stepR_calls (r := r) (f := .mk 3 a 0 [headRw 0 0]) (a := headRw 1 0) (b := headRw 0 0) rfl rfl rfl (Rw.fit_of _ (by simp [Rw.total, Rw.totals, Ty.size, Ty.sizes])) (by simp [Rw.depth, Rw.depths]) (Rw.fit_of _ (by simp [Rw.total, Rw.totals, Ty.size, Ty.sizes])) (by simp [Rw.depth, Rw.depths])) (Rw.fit_of _ (by simp [Rw.total, Rw.totals, Ty.size, Ty.sizes]))
  have he := equal_calls _ a a (Nat.le_refl _) (by simp [a, Ty.size, Ty.sizes])
  have hrq := rwequal_calls _ (headRw 1 0) (headRw 1 0) (Nat.le_refl _) (by simp [Rw.total, Rw.totals, Ty.size, Ty.sizes])
  have hinf : (if r.rightB = true then r.infer 1 [a] [] [] else (noT, 1)) = (a, 0) := by rfl
  rw [hinf] at hi
  have hsame : Rw.same (headRw 1 0) (headRw 1 0) = true := Rw.same_refl _
  have hts : Ty.same a a = true := (Ty.same_iff a a).2 rfl
  rw [hsame] at hrq
  rw [hts] at he
  exact vc36_ok ⟨_, _, kindOf_calls 0, _, _, _, _, _, Head_calls 0 0, _, _, _, _, _, hb, _, _, _, _, _, Head_calls 1 0, _, _, _, _, _, hc, _, _, _, hi, _, _, _, _, _, _, hst,
    ITE.pos rfl ⟨_, he, ITE.pos rfl (ITE.pos rfl ⟨_, _, _, _, _, Head_calls 1 0, _, hrq, rfl⟩)⟩⟩

end Go.Proofs.Ytfbncddnakaaiaa
/- What is bound and applied, and types, are the document's: RawMakes and RawInfers. -/
namespace Go.Proofs.Ytfbncddnakaaiaa
open Go
set_option linter.unusedSimpArgs false
set_option linter.unusedVariables false

theorem tyfews_sizes {l : List Ty} (h : l.all (Ty.fewB 60 60) = true) : Ty.sizes l ≤ l.length * 60 ∧ ∀ t ∈ l, t.size ≤ 60 := by
  induction l with
  | nil => simp [Ty.sizes]
  | cons t l ih =>
    rw [List.all_cons, Bool.and_eq_true] at h
    have h1 := ih h.2
    have h2 := Ty.fewB_size h.1
    refine ⟨by simp only [Ty.sizes, List.length_cons]; omega, fun u hu => ?_⟩
    rcases List.mem_cons.1 hu with rfl | hu
    · exact h2
    · exact h1.2 u hu
theorem small_all {c m x : List Ty} (h : smallB c m x = true) : (c.length ≤ 20 ∧ m.length ≤ 20 ∧ x.length ≤ 20) ∧ (Ty.sizes c ≤ 1200 ∧ Ty.sizes m ≤ 1200 ∧ Ty.sizes x ≤ 1200) ∧ (∀ t ∈ c, t.size ≤ 60) ∧ (∀ t ∈ m, t.size ≤ 60) ∧ (∀ t ∈ x, t.size ≤ 60) := by
  rw [smallB, Bool.and_eq_true, decide_eq_true_eq, List.all_append, List.all_append, Bool.and_eq_true, Bool.and_eq_true] at h
  obtain ⟨h0, ⟨h1, h2⟩, h3⟩ := h
  have k1 := tyfews_sizes h1
  have k2 := tyfews_sizes h2
  have k3 := tyfews_sizes h3
  exact ⟨h0, ⟨by omega, by omega, by omega⟩, k1.2, k2.2, k3.2⟩

theorem rwfew1 {r : Rw} (h : ([r].all (Rw.fewB 300 70)) = true) : r.total ≤ 300 := by
  rw [List.all_cons, Bool.and_eq_true] at h
  exact Rw.fewB_total h.1

/-! ### Types -/

theorem RawInfers_calls {b : Int} {c m x : List Ty} {r : Rw} (hok : r.Ok) : PureIs Try.prog 8 [.agg [nI b, .sl (c.map Ty.enc), .sl (m.map Ty.enc)], .sl (x.map Ty.enc), r.enc] (nB true) := by
  have he := Rw.enc_eq r
  have hfew := rwFews_calls (l := [r]) (by simp)
  rw [List.map_cons, List.map_nil, he] at hfew
  rw [he]
  refine vc8_ok ⟨_, hfew, ITE.intro (fun h => ⟨_, known07_calls, rfl⟩) fun h => ?_⟩
  have hr : r.total ≤ 300 := rwfew1 (by simpa using h)
  refine ⟨_, small_calls b c m x, ITE.intro (fun h => ⟨_, known07_calls, rfl⟩) fun h => ?_⟩
  obtain ⟨_, ⟨h1, h2, h3⟩, h4, h5, _⟩ := small_all (c := c) (m := m) (x := x) (by simpa using h)
  have hc : ∀ t ∈ c, t.size ≤ 500000000 := fun t ht => by have := h4 t ht; omega
  have hm : ∀ t ∈ m, t.size ≤ 500000000 := fun t ht => by have := h5 t ht; omega
  have hto := rwTo_calls _ r (Nat.le_refl _) (by omega)
  rw [he] at hto
  have hi := Infer_calls (b := b) (x := x) hc hm hok (by omega)
  have hri := rInfer_calls (b := b) (x := x) hc hm hok (by omega)
  rw [he] at hi hri
  have hz : (if r.rightB = true then r.infer b c m x else (noT, 1)).1.size ≤ 1000 := by
    split
    · exact Rw.infer_size b c m r x
    · simp [Ty.size, Ty.sizes]
  generalize (if r.rightB = true then r.infer b c m x else (noT, 1)) = p at hi hri hz
  have hof := tyOf_calls _ p.1 (Nat.le_refl _) (by omega)
  have hsm := rsame_calls _ p.1 p.1 (Nat.le_refl _) (by omega)
  rw [Ty.enc_eq p.1] at hof hsm
  have hts : Ty.same p.1 p.1 = true := (Ty.same_iff _ _).2 rfl
  exact ⟨_, _, _, world_calls (by omega) (by omega), _, tysTo_calls (by omega), _, _, _, _, _, hto, _, _, _, hi, _, _, _, hri, _, known07_calls,
    ITE.pos rfl (ITE.pos (by simp) ⟨_, _, hof, _, hsm, by rw [hts]⟩)⟩

/-! ### What is bound and applied -/

theorem cut10 (l : List AV) : List.drop (Int.toNat 0) (List.take (Int.toNat (if 10 < ((List.length l : Nat) : Int) then 10 else ((List.length l : Nat) : Int))) l) = l.take 10 := by
  rw [show Int.toNat 0 = 0 from rfl, List.drop_zero]
  split
  · rfl
  · rename_i h
    rw [Int.toNat_natCast, List.take_of_length_le (Nat.le_refl _), List.take_of_length_le (by omega)]
theorem cut10_ok {l : List AV} {n : Nat} (h : ∀ y : AV, y ∈ l → List.length (AV.cells y) = n) : (0 ≤ (0 : Int) ∧ (0 : Int) ≤ (if 10 < ((List.length l : Nat) : Int) then 10 else ((List.length l : Nat) : Int)) ∧ (if 10 < ((List.length l : Nat) : Int) then 10 else ((List.length l : Nat) : Int)) ≤ List.length l ∧ (∀ y : AV, y ∈ l → List.length (AV.cells y) = n)) := by
  refine ⟨by omega, by split <;> omega, by split <;> omega, h⟩

theorem bind_total (r : Rw) (l : List Ty) : (r.bind l).total = r.total + l.length + Ty.sizes l := by
  induction l with
  | nil => simp [Rw.bind, Ty.sizes]
  | cons t l ih =>
    show (Rw.mk 3 t 0 [r.bind l]).total = _
    simp only [Rw.total, Rw.totals, ih, List.length_cons, Ty.sizes]; omega
theorem call_total : ∀ (l : List Rw) (r : Rw), (r.call l).total = r.total + 2 * l.length + Rw.totals l
  | [], r => by simp [Rw.call, Rw.totals]
  | a :: l, r => by
    show (Rw.call (.mk 4 noT 0 [r, a]) l).total = _
    rw [call_total l]
    simp only [Rw.total, Rw.totals, List.length_cons, Ty.size, Ty.sizes]; omega
theorem rwfews_totals {l : List Rw} (h : l.all (Rw.fewB 300 70) = true) : Rw.totals l ≤ l.length * 300 := by
  induction l with
  | nil => simp [Rw.totals]
  | cons t l ih =>
    rw [List.all_cons, Bool.and_eq_true] at h
    have h1 := ih h.2
    have h2 := Rw.fewB_total h.1
    simp only [Rw.totals, List.length_cons]; omega

theorem RawMakes_calls {r : Rw} {types : List Ty} {args : List Rw} {k i : Int} : PureIs Try.prog 7 [r.enc, .sl (types.map Ty.enc), .sl (args.map Rw.enc), nI k, nI i] (nB true) := by
  have he := Rw.enc_eq r
  have hfew := rwFews_calls (l := [r]) (by simp)
  rw [List.map_cons, List.map_nil, he] at hfew
  rw [he]
  refine vc7_ok ?_
  unfold vc7
  rw [cut10, cut10, ← List.map_take, ← List.map_take]
  refine ⟨cut10_ok Ty.enc_cells, cut10_ok Rw.enc_cells, _, hfew, ITE.intro (fun h => ⟨_, known07_calls, rfl⟩) fun h => ?_⟩
  have hr : r.total ≤ 300 := rwfew1 (by simpa using h)
  have hnl : (types.take 10).length ≤ 10 := by rw [List.length_take]; omega
  have hna : (args.take 10).length ≤ 10 := by rw [List.length_take]; omega
  generalize types.take 10 = l at hnl
  generalize args.take 10 = a at hna
  refine ⟨_, rwFews_calls (by omega), ITE.intro (fun h => ⟨_, known07_calls, rfl⟩) fun h => ?_⟩
  have hat := rwfews_totals (l := a) (by simpa using h)
  refine ⟨_, small_calls 0 [] [] l, ITE.intro (fun h => ⟨_, known07_calls, rfl⟩) fun h => ⟨rfl, ?_⟩⟩
  obtain ⟨_, ⟨_, _, hls⟩, _, _, hlt⟩ := small_all (c := []) (m := []) (x := l) (by simpa using h)
  refine LoopP.intro (fun j : Nat => ((l.map Ty.enc, a.map Rw.enc, k, i, (), (), (), (j : Int), ()), ((r.kind, r.type.args.map Ty.enc, r.type.base, r.index, r.kids.map Rw.enc, ()),
    ((r.call (a.take j)).kind, (r.call (a.take j)).type.args.map Ty.enc, (r.call (a.take j)).type.base, (r.call (a.take j)).index, (r.call (a.take j)).kids.map Rw.enc, ()), (a.take j).map Rw.enc, ())))
    (fun j => j ≤ a.length) (fun j => a.length - j) 0 rfl (Nat.zero_le _) ?_
  intro j hj again hag
  dsimp only
  rw [List.length_map]
  refine ITE.intro (fun h => ?_) fun h => ?_
  · have hlt : j < a.length := by simpa using h
    have hto := rwTo_calls _ a[j] (Nat.le_refl _) (by have := Rw.totals_mem (List.getElem_mem hlt); omega)
    rw [Rw.enc_eq] at hto
    refine ⟨by omega, by omega, _, _, _, _, _, Rw.enc_getD hlt, _, _, _, _, _, hto, rfl, appOk_one rfl (by simp; omega) (by decide), by omega, by omega, _, _, _, _, _, Rw.enc_getD hlt, rfl, ?_⟩
    have := hag (j + 1) (by omega) (by omega)
    rw [call_snoc hlt, ← take_snoc' hlt, ← Rw.enc_snoc] at this
    rw [wrap_n (by omega), two_rw]
    exact this
  have hle : a.length ≤ j := by simpa using h
  rw [List.take_of_length_le hle]
  refine ⟨rfl, ?_⟩
  refine LoopP.intro (fun j : Nat => ((l.map Ty.enc, k, i, (), (), (), (), (j : Int) - 1, ()), ((r.kind, r.type.args.map Ty.enc, r.type.base, r.index, r.kids.map Rw.enc, ()),
    ((r.call a).kind, (r.call a).type.args.map Ty.enc, (r.call a).type.base, (r.call a).index, (r.call a).kids.map Rw.enc, ()), a.map Rw.enc,
    ((r.bind (l.drop j)).kind, (r.bind (l.drop j)).type.args.map Ty.enc, (r.bind (l.drop j)).type.base, (r.bind (l.drop j)).index, (r.bind (l.drop j)).kids.map Rw.enc, ()), ())))
    (fun j => j ≤ l.length) (fun j => j) l.length (by rw [List.length_map, wrap_i (by omega) (by omega), List.drop_length]; rfl) (Nat.le_refl _) ?_
  intro j hj again hag
  dsimp only
  refine ITE.intro (fun h => ?_) fun h => ?_
  · have h' : (j : Int) - 1 ≥ 0 := of_decide_eq_true h
    obtain ⟨g, rfl⟩ : ∃ g, j = g + 1 := ⟨j - 1, by omega⟩
    have hlt : g < l.length := by omega
    have e : ((g + 1 : Nat) : Int) - 1 = (g : Int) := by omega
    rw [e]
    refine ⟨by omega, by rw [List.length_map]; omega, _, _, Ty.enc_getD hlt, rfl, ?_⟩
    rw [wrap_i (n := (g : Int) - 1) (by omega) (by omega), one_rw]
    have := hag g (by omega) (by omega)
    rw [bind_drop hlt] at this
    exact this
  have h' : ¬ (j : Int) - 1 ≥ 0 := of_decide_eq_false h
  have : j = 0 := by omega
  subst this
  rw [List.drop_zero]
  have hto := rwTo_calls _ r (Nat.le_refl _) (by omega)
  have hbt := bind_total r l
  have hct := call_total a r
  have hb := bind_calls (r := r) (l := l) (Rw.fit_of _ (by omega)) (fun t ht => by have := hlt t ht; omega) (by omega)
  have hc := call_calls (r := r) (l := a) (Rw.fit_of _ (by omega)) (Rw.fits_of _ (by omega)) (by omega)
  have hbo := rwOf_calls _ (r.bind l) (Nat.le_refl _) (by omega)
  have hco := rwOf_calls _ (r.call a) (Nat.le_refl _) (by omega)
  have hbs := rwsame_calls _ (r.bind l) (r.bind l) (Nat.le_refl _) (by omega) (by omega)
  have hcs := rwsame_calls _ (r.call a) (r.call a) (Nat.le_refl _) (by omega) (by omega)
  rw [Rw.same_refl] at hbs hcs
  rw [he] at hto hb hc
  rw [Rw.enc_eq (r.bind l)] at hb hbo hbs
  rw [Rw.enc_eq (r.call a)] at hc hco hcs
  refine ⟨_, known07_calls, ITE.pos rfl ⟨_, _, _, _, _, hto, _, tysTo_calls (by omega), _, _, _, _, _, hb, _, _, _, _, _, hbo, _, hbs, ITE.pos rfl ⟨_, _, _, _, _, hto, rfl, _, _, _, _, _, hc, _, _, _, _, _, hco, _, hcs, ITE.pos rfl
    ⟨_, _, _, _, _, Head_calls k i, ITE.pos (by simp) ⟨_, _, _, _, _, Head_calls k i, ITE.pos (by simp) ⟨_, _, _, _, _, Head_calls k i, rfl⟩⟩⟩⟩⟩⟩

end Go.Proofs.Ytfbncddnakaaiaa
