/- Texts of ours laid together for a claim: P46 P80 P81. -/
import Derived.Lib.ItoaMem
import Derived.Test.YtghnkppcncbddaaGreatDoorQ47
namespace Go.Proofs.YtghnkppcncbddaaGreatDoor
open Go
set_option linter.unusedSimpArgs false
set_option linter.unusedVariables false
mutual
def Tm.nodes : Tm → Nat
 | .mk _ _ _ l => 1 + Tm.nodess l
def Tm.nodess : List Tm → Nat
 | [] => 0
 | t :: l => Tm.nodes t + Tm.nodess l
end
theorem Tm.nodes_eq (t : Tm) : t.nodes = 1 + Tm.nodess t.args := by cases t; rfl
theorem Tm.nodes_pos (t : Tm) : 1 ≤ t.nodes := by rw [t.nodes_eq]; omega
theorem Tm.nodess_mem {l : List Tm} {t : Tm} (h : t ∈ l) : t.nodes ≤ Tm.nodess l := by
 induction l with
 | nil => cases h
 | cons u l ih =>
  simp only [Tm.nodess]
  rcases List.mem_cons.1 h with rfl | h
  ·omega
  ·have := ih h; omega
theorem Tm.nodess_len (l : List Tm) : l.length ≤ Tm.nodess l := by
 induction l with
 | nil => exact Nat.zero_le _
 | cons t l ih => have := t.nodes_pos; simp only [Tm.nodess, List.length_cons]; omega
mutual
theorem Tm.nodes_le : ∀ (t : Tm), t.nodes ≤ t.size
 | .mk bs k i l => by have := Tm.nodess_le l; rw [Tm.nodes, Tm.size]; omega
theorem Tm.nodess_le : ∀ (l : List Tm), Tm.nodess l ≤ Tm.sizes l
 | [] => Nat.le_refl _
 | t :: l => by have h1 := Tm.nodes_le t; have h2 := Tm.nodess_le l; rw [Tm.nodess, Tm.sizes]; omega
end
mutual
def Tm.deep : Tm → Nat
 | .mk _ _ _ l => Tm.deeps 0 l + 1
def Tm.deeps : Nat → List Tm → Nat
 | n, [] => n
 | n, t :: l => Tm.deeps (if Tm.deep t > n then Tm.deep t else n) l
end
theorem Tm.deep_eq (t : Tm) : t.deep = Tm.deeps 0 t.args + 1 := by cases t; rfl
theorem Tm.deeps_drop {n : Nat} {l : List Tm} {k : Nat} (h : k < l.length) : Tm.deeps n (l.drop k) = Tm.deeps (if Tm.deep l[k] > n then Tm.deep l[k] else n) (l.drop (k + 1)) := by
 rw [List.drop_eq_getElem_cons h, Tm.deeps]
mutual
theorem Tm.deep_le : ∀ (t : Tm), t.deep ≤ t.nodes
 | .mk _ _ _ l => by rw [Tm.deep, Tm.nodes]; have := Tm.deeps_le 0 l; omega
theorem Tm.deeps_le : ∀ (n : Nat) (l : List Tm), Tm.deeps n l ≤ n + Tm.nodess l
 | n, [] => by simp [Tm.deeps, Tm.nodess]
 | n, t :: l => by
  rw [Tm.deeps, Tm.nodess]
  have h1 := Tm.deep_le t
  have h2 := Tm.deeps_le (if Tm.deep t > n then Tm.deep t else n) l
  split at h2 <;> (rename_i hq; first | rw [if_pos hq] | rw [if_neg hq]) <;> omega
end
theorem nodess_append (l r : List Tm) : Tm.nodess (l ++ r) = Tm.nodess l + Tm.nodess r := by
 induction l with
 | nil => simp [Tm.nodess]
 | cons t l ih => rw [List.cons_append, Tm.nodess, Tm.nodess, ih]; omega
theorem rSize_calls : ∀ (n : Nat) (t : Tm), t.nodes ≤ n → n ≤ 1000000000 → PureIs Tryz.prog 82 [.agg [.sl (t.binds.map Ty.enc), nI t.kind, nI t.index, .sl (t.args.map Tm.enc)]] (nI (t.nodes : Nat)) := by
 intro n
 induction n with
 | zero => intro t h; have := t.nodes_pos; omega
 | succ n ih =>
  intro t h hn
  have hq := Tm.nodess_len t.args
  have ht := t.nodes_eq
  refine vc82_ok ?_
  unfold vc82 vc82_L3
  refine LoopP.intro (fun k : Nat => (((), ((1 + Tm.nodess (t.args.take k) : Nat) : Int), (k : Int), ()), ((t.binds.map Ty.enc, t.kind, t.index, t.args.map Tm.enc, ()), ())))
   (fun k => k ≤ t.args.length) (fun k => t.args.length - k) 0 rfl (Nat.zero_le _) ?_
  intro k hk again hag
  dsimp only
  rw [List.length_map]
  have hle : ∀ j, Tm.nodess (t.args.take j) ≤ Tm.nodess t.args := fun j => by
   have := nodess_append (t.args.take j) (t.args.drop j)
   rw [List.take_append_drop] at this; omega
  refine ITE.intro (fun h => ?_) fun h => ?_
  ·have hlt : k < t.args.length := by simpa using h
   have hz := Tm.nodess_mem (List.getElem_mem hlt)
   have hs : Tm.nodess (t.args.take (k + 1)) = Tm.nodess (t.args.take k) + t.args[k].nodes := by
    rw [← take_snoc' hlt, nodess_append]; simp [Tm.nodess]
   refine ⟨by omega, by omega, _, _, _, _, Tm.enc_getD hlt, _, ih t.args[k] (by omega) (by omega), ?_⟩
   have h1 := hle (k + 1)
   rw [wrap_n (by omega), wrap_i (by omega) (by omega), show (((1 + Tm.nodess (t.args.take k) : Nat) : Int) + ((t.args[k].nodes : Nat) : Int)) = ((1 + Tm.nodess (t.args.take (k + 1)) : Nat) : Int) from by omega]
   exact hag (k + 1) (by omega) (by omega)
  ·have : t.args.length ≤ k := by simpa using h
   rw [List.take_of_length_le this, ht]
theorem rDepth_calls : ∀ (n : Nat) (t : Tm), t.nodes ≤ n → n ≤ 1000000000 → PureIs Tryz.prog 83 [.agg [.sl (t.binds.map Ty.enc), nI t.kind, nI t.index, .sl (t.args.map Tm.enc)]] (nI (t.deep : Nat)) := by
 intro n
 induction n with
 | zero => intro t h; have := t.nodes_pos; omega
 | succ n ih =>
  intro t h hn
  have hq := Tm.nodess_len t.args
  have ht := t.nodes_eq
  have hdd := t.deep_eq
  have hd0 := Tm.deep_le t
  refine vc83_ok ?_
  unfold vc83 vc83_L3
  refine LoopP.intro (fun b : Nat × Nat => (((), (b.2 : Int), (b.1 : Int), ()), ((t.binds.map Ty.enc, t.kind, t.index, t.args.map Tm.enc, ()), ())))
   (fun b => b.1 ≤ t.args.length ∧ Tm.deeps 0 t.args = Tm.deeps b.2 (t.args.drop b.1)) (fun b => t.args.length - b.1) (0, 0) rfl ⟨Nat.zero_le _, rfl⟩ ?_
  rintro ⟨k, v⟩ ⟨hk, hv⟩ again hag
  dsimp only at hk hv ⊢
  rw [List.length_map]
  refine ITE.intro (fun h => ?_) fun h => ?_
  ·have hlt : k < t.args.length := by simpa using h
   have hz := Tm.nodess_mem (List.getElem_mem hlt)
   rw [Tm.deeps_drop hlt] at hv
   refine ⟨by omega, by omega, _, _, _, _, Tm.enc_getD hlt, _, ih t.args[k] (by omega) (by omega), ?_⟩
   rw [wrap_n (by omega)]
   refine ITE.intro (fun h => ?_) fun h => ?_
   ·have h1 : t.args[k].deep > v := by have := of_decide_eq_true h; omega
    rw [if_pos h1] at hv
    exact hag (k + 1, t.args[k].deep) ⟨by omega, hv⟩ (by simp only; omega)
   ·have h1 : ¬ t.args[k].deep > v := by have := of_decide_eq_false h; omega
    rw [if_neg h1] at hv
    exact hag (k + 1, v) ⟨by omega, hv⟩ (by simp only; omega)
  ·have : t.args.length ≤ k := by simpa using h
   rw [List.drop_eq_nil_of_le this, Tm.deeps] at hv
   rw [wrap_n (by omega), ← hv, ← hdd]
def Tm.rightB (t : Tm) : Bool := decide (t.nodes ≤ 5000) && decide (t.deep ≤ 60)
theorem rRight_calls {t : Tm} (h : t.nodes ≤ 1000000000) : PureIs Tryz.prog 46 [.agg [.sl (t.binds.map Ty.enc), nI t.kind, nI t.index, .sl (t.args.map Tm.enc)]] (nB t.rightB) := by
 refine vc46_ok ⟨_, rSize_calls _ t (Nat.le_refl _) h, ITE.intro (fun h1 => ⟨_, rDepth_calls _ t (Nat.le_refl _) h, ?_⟩) fun h1 => ?_⟩
 ·have h1 : t.nodes ≤ 5000 := by have := of_decide_eq_true h1; omega
  rw [Tm.rightB, decide_eq_true h1, Bool.true_and]
  have : decide (((t.deep : Nat) : Int) ≤ 60) = decide (t.deep ≤ 60) := by
   by_cases h2 : t.deep ≤ 60
   ·rw [decide_eq_true h2, decide_eq_true (by omega)]
   ·rw [decide_eq_false h2, decide_eq_false (by omega)]
  rw [this]
 ·have h1 : ¬ t.nodes ≤ 5000 := by have := of_decide_eq_false h1; omega
  rw [Tm.rightB, decide_eq_false h1, Bool.false_and]
theorem trest_app : ∀ (l r : List ((Nat × Nat) × Tm)) (n : Nat), trest n (l ++ r) = if n + l.length > 5000 ∧ 0 < l.length ∨ (∃ p ∈ l, p.1.2 > 60) then false else trest (n + l.length) r
 | [], r, n => by simp
 | p :: l, r, n => by
  rw [List.cons_append, trest, trest_app l r (n + 1)]
  by_cases h1 : n + 1 > 5000
  ·rw [if_pos h1, if_pos (.inl ⟨by simp; omega, by simp⟩)]
  ·rw [if_neg h1]
   by_cases h2 : p.1.2 > 60
   ·rw [if_pos h2, if_pos (.inr ⟨p, List.mem_cons_self, h2⟩)]
   ·rw [if_neg h2]
    by_cases h3 : n + 1 + l.length > 5000 ∧ 0 < l.length ∨ ∃ q ∈ l, q.1.2 > 60
    ·rw [if_pos h3, if_pos]
     rcases h3 with h3 | ⟨q, hq, h3⟩
     ·exact .inl ⟨by simp; omega, by simp⟩
     ·exact .inr ⟨q, List.mem_cons_of_mem _ hq, h3⟩
    ·rw [if_neg h3, if_neg]
     ·congr 1; simp; omega
     ·rintro (h4 | ⟨q, hq, h4⟩)
      ·have := h4.1
       simp only [List.length_cons] at this
       by_cases hl : 0 < l.length
       ·exact h3 (.inl ⟨by omega, hl⟩)
       ·omega
      ·rcases List.mem_cons.1 hq with rfl | hq
       ·exact h2 h4
       ·exact h3 (.inr ⟨q, hq, h4⟩)
mutual
theorem Tm.pre_len : ∀ (t : Tm) (a d : Nat), (t.pre a d).length = t.nodes
 | .mk _ _ _ l, a, d => by rw [Tm.pre, List.length_cons, Tm.nodes, Tm.pres_len l]; omega
theorem Tm.pres_len : ∀ (l : List Tm) (a d : Nat), (Tm.pres a d l).length = Tm.nodess l
 | [], a, d => by simp [Tm.pres, Tm.nodess]
 | t :: l, a, d => by rw [Tm.pres, List.length_append, Tm.nodess, Tm.pre_len t, Tm.pres_len l]
end
theorem Tm.deeps_gt {m : Nat} : ∀ (l : List Tm) (n : Nat), Tm.deeps n l > m ↔ n > m ∨ ∃ t ∈ l, t.deep > m
 | [], n => by simp [Tm.deeps]
 | t :: l, n => by
  rw [Tm.deeps, Tm.deeps_gt l]
  constructor
  ·rintro (h | ⟨u, hu, h⟩)
   ·split at h
    ·exact .inr ⟨t, List.mem_cons_self, h⟩
    ·exact .inl h
   ·exact .inr ⟨u, List.mem_cons_of_mem _ hu, h⟩
  ·rintro (h | ⟨u, hu, h⟩)
   ·left; split <;> omega
   ·rcases List.mem_cons.1 hu with rfl | hu
    ·left; split <;> omega
    ·exact .inr ⟨u, hu, h⟩
mutual
theorem Tm.pre_deep {m : Nat} : ∀ (t : Tm) (a d : Nat), d ≤ m + 1 → ((∃ p ∈ t.pre a d, p.1.2 > m) ↔ t.deep + d > m + 1)
 | .mk bs k i l, a, d, hd => by
  rw [Tm.pre, Tm.deep]
  have hl := Tm.pres_deep (m := m) l (a + bs.length) (d + 1)
  constructor
  ·rintro ⟨p, hp, h⟩
   rcases List.mem_cons.1 hp with rfl | hp
   ·simp only at h; omega
   ·by_cases hdm : d ≤ m
    ·have := (hl (by omega)).1 ⟨p, hp, h⟩
     obtain ⟨t, ht, h2⟩ := this
     have := (Tm.deeps_gt (m := m - d) l 0).2 (.inr ⟨t, ht, by omega⟩)
     omega
    ·omega
  ·intro h
   by_cases hdm : d ≤ m
   ·have h1 : Tm.deeps 0 l > m - d := by omega
    rcases (Tm.deeps_gt l 0).1 h1 with h2 | ⟨t, ht, h2⟩
    ·omega
    ·obtain ⟨p, hp, h3⟩ := (hl (by omega)).2 ⟨t, ht, by omega⟩
     exact ⟨p, List.mem_cons_of_mem _ hp, h3⟩
   ·exact ⟨_, List.mem_cons_self, by simp only; omega⟩
theorem Tm.pres_deep {m : Nat} : ∀ (l : List Tm) (a d : Nat), d ≤ m + 1 → ((∃ p ∈ Tm.pres a d l, p.1.2 > m) ↔ ∃ t ∈ l, t.deep + d > m + 1)
 | [], a, d, hd => by simp [Tm.pres]
 | t :: l, a, d, hd => by
  have i1 := Tm.pre_deep t a d hd
  have i2 := Tm.pres_deep l a d hd
  rw [Tm.pres]
  constructor
  ·rintro ⟨p, hp, h⟩
   rcases List.mem_append.1 hp with hp | hp
   ·exact ⟨t, List.mem_cons_self, i1.1 ⟨p, hp, h⟩⟩
   ·obtain ⟨u, hu, h2⟩ := i2.1 ⟨p, hp, h⟩
    exact ⟨u, List.mem_cons_of_mem _ hu, h2⟩
  ·rintro ⟨u, hu, h⟩
   rcases List.mem_cons.1 hu with hu | hu
   ·rw [hu] at h
    obtain ⟨p, hp, h2⟩ := i1.2 h
    exact ⟨p, List.mem_append_left _ hp, h2⟩
   ·obtain ⟨p, hp, h2⟩ := i2.2 ⟨u, hu, h⟩
    exact ⟨p, List.mem_append_right _ hp, h2⟩
end
theorem trest_right (t : Tm) : trest 0 (t.pre 0 1) = t.rightB := by
 have h := trest_app (t.pre 0 1) [] 0
 rw [List.append_nil, Nat.zero_add, trest, Tm.pre_len] at h
 rw [h, Tm.rightB]
 have hd := Tm.pre_deep (m := 60) t 0 1 (by omega)
 have hp := t.nodes_pos
 by_cases h1 : t.nodes ≤ 5000
 ·by_cases h2 : t.deep ≤ 60
  ·rw [if_neg, decide_eq_true h1, decide_eq_true h2]; rfl
   rintro (h3 | h3)
   ·omega
   ·have := hd.1 h3; omega
  ·rw [if_pos (.inr (hd.2 (by omega))), decide_eq_false h2, Bool.and_false]
 ·rw [if_pos (.inl ⟨by omega, by omega⟩), decide_eq_false h1, Bool.false_and]
end Go.Proofs.YtghnkppcncbddaaGreatDoor

namespace Go.Proofs.YtghnkppcncbddaaGreatDoor
open Go
set_option linter.unusedSimpArgs false
set_option linter.unusedVariables false
def maybeAV (o : Option Nd) : AV := .tup [ndAV (o.getD noN), nB o.isSome]
theorem typN_cons {b : List ByteArray} {t a : Ty} {l : List Ty} (h : t.args = a :: l) : typN b t = match typN b (.mk l t.base) with | none => none | some m => (match typN b a with | none => none | some x => some (.mk 2 ⟨#[]⟩ 0 [x, m])) := by
 rw [typN_eq, h, typN_eq b (.mk l t.base)]
 simp only [Ty.args_mk, Ty.base_mk]
 cases atW b t.base with
 | none => rfl
 | some n => simp only [typNs]; cases typNs b n l <;> rfl
theorem refOfType_calls {b c m : List ByteArray} : ∀ (n : Nat) (t : Ty), t.size ≤ n → n ≤ 400000000 → PureIs Tryz.prog 13 [nmAV b c m, .agg [.sl (t.args.map Ty.enc), nI t.base]] (maybeAV (typN b t)) := by
 intro n
 induction n with
 | zero => intro t h; have := t.size_pos; omega
 | succ n ih =>
  intro t hn hm
  have hs := t.size_eq
  have hal := Ty.sizes_len t.args
  have hat : t.base < 0 ∨ (t.base ≥ ((b.length : Nat) : Int)) → typN b t = none := fun h => by
   rw [typN_eq, atW]
   rcases h with h | h
   ·rw [if_pos h]
   ·rw [if_neg (by omega), List.getElem?_eq_none (by omega)]; rfl
  refine vc13_ok (ITE.intro (fun h => ?_) fun h => ITE.intro (fun h2 => ?_) fun h2 => ?_)
  ·have h := of_decide_eq_true h
   rw [hat (.inl h)]; rfl
  ·have h2 := of_decide_eq_true h2
   rw [List.length_map] at h2
   rw [hat (.inr h2)]; rfl
  ·have h := of_decide_eq_false h
   have h2 := of_decide_eq_false h2
   rw [List.length_map] at h2
   have hlt : t.base.toNat < b.length := by omega
   have ha : atW b t.base = some (.mk 1 b[t.base.toNat] 0 []) := by rw [atW, if_neg h, List.getElem?_eq_getElem hlt]; rfl
   cases hargs : t.args with
   | nil =>
    refine ITE.pos rfl ⟨by omega, by rw [List.length_map]; omega, _, by rw [List.getD_eq_getElem?_getD, List.getElem?_map, List.getElem?_eq_getElem hlt]; rfl, ?_⟩
    rw [typN_eq, ha, hargs]
    show _ = maybeAV (typNs b (.mk 1 b[t.base.toNat] 0 []) [])
    rw [typNs]; rfl
   | cons a l =>
    rw [hargs] at hs hal
    simp only [Ty.sizes, List.length_cons] at hs hal
    have hp := a.size_pos
    have hr := rrest_calls (t := t) (by rw [hargs, List.length_cons]; omega) (by rw [hargs]; simp)
    rw [hargs, List.drop_one, List.tail_cons] at hr
    have hz : (Ty.mk l t.base).size = 1 + Ty.sizes l := rfl
    refine ITE.neg (by simp; omega) ⟨by decide, by simp, _, _, by show a.enc = _; exact Ty.enc_eq a, _, _, _, _, _, ih a (by omega) (by omega), _, _, hr, _, _, _, _, _, ih (.mk l t.base) (by omega) (by omega), ?_⟩
    rw [typN_cons hargs]
    cases h3 : typN b a with
    | none => exact ITE.pos rfl (by cases typN b (.mk l t.base) <;> rfl)
    | some x =>
     cases h4 : typN b (.mk l t.base) with
     | none => exact ITE.neg rfl (ITE.pos rfl rfl)
     | some y => exact ITE.neg rfl (ITE.neg rfl (by show AV.tup [.agg [nI 2, nS ⟨#[]⟩, nI 0, .sl [ndAV x, ndAV y]], nB true] = _; rw [two_nd]; rfl))
theorem dec_small {u : Nat} (h : u < 10) : Lib.decDigits u = [UInt8.ofNat (48 + u)] := by rw [Lib.decDigits, dif_pos h]
theorem dec_step {u : Nat} (h : ¬ u < 10) : Lib.decDigits u = Lib.decDigits (u / 10) ++ [UInt8.ofNat (48 + u % 10)] := by rw [Lib.decDigits, dif_neg h]
def decW (u : Nat) : ByteArray := ⟨(Lib.decDigits u).toArray⟩
theorem numW_nat (u : Nat) : numW (u : Int) = decW u := by rw [numW, Lib.itoa_nonneg]; rfl
theorem baApp (l : List UInt8) (b : ByteArray) : (⟨l.toArray⟩ : ByteArray) ++ b = ⟨(l ++ b.data.toList).toArray⟩ := by
 apply ByteArray.ext
 rw [ByteArray.data_append]
 apply Array.toList_inj.1
 simp
theorem digitW {u : Nat} (h : u < 9223372036854775808) : strOfNums [IntKind.wrap .u8 (IntKind.wrap .i64 (48 + (Int.tmod (u : Int) 10)))] = ⟨#[UInt8.ofNat (48 + u % 10)]⟩ := by
 have h1 : Int.tmod (u : Int) 10 = ((u % 10 : Nat) : Int) := (Int.ofNat_tmod u 10).symm
 have h2 : u % 10 < 10 := Nat.mod_lt _ (by decide)
 rw [h1, wrap_i (by omega) (by omega)]
 have h3 : IntKind.wrap .u8 (48 + ((u % 10 : Nat) : Int)) = ((48 + u % 10 : Nat) : Int) := by
  have : ∀ r : Fin 10, IntKind.wrap .u8 (48 + ((r.val : Nat) : Int)) = ((48 + r.val : Nat) : Int) := by decide
  exact this ⟨u % 10, h2⟩
 rw [h3]; rfl
theorem Number_calls : ∀ {k : Int}, I64 k → PureIs Tryz.prog 119 [nI k] (nS (numW k)) := by
 have nat : ∀ u : Nat, u < 9223372036854775808 → PureIs Tryz.prog 119 [nI (u : Int)] (nS (numW (u : Int))) := by
  intro u hu
  refine vc119_ok (ITE.neg (by first | (simp; done) | (simp; omega)) (ITE.neg (decide_eq_false (by omega)) ⟨by decide, by decide, ?_⟩))
  rw [digitW hu, show Int.tdiv (u : Int) 10 = ((u / 10 : Nat) : Int) from (Int.ofNat_tdiv u 10).symm, wrap_i (by omega) (by omega)]
  refine LoopP.intro (fun p : Nat × ByteArray => (((p.1 : Int), p.2, ()), ())) (fun p => p.1 < 9223372036854775808 ∧ p.2.size + (if p.1 = 0 then 0 else (Lib.decDigits p.1).length) ≤ 1000 ∧ numW (u : Int) = if p.1 = 0 then p.2 else decW p.1 ++ p.2) (fun p => p.1) (u / 10, ⟨#[UInt8.ofNat (48 + u % 10)]⟩) rfl ?_ ?_
  ·have hz := numW_size (k := (u : Int)) ⟨by omega, by omega⟩
   rw [numW_nat] at hz ⊢
   have hz' : (Lib.decDigits u).length ≤ 30 := by have e : (decW u).size = (Lib.decDigits u).length := List.size_toArray; omega
   by_cases h : u < 10
   ·have h0 : u / 10 = 0 := Nat.div_eq_of_lt h
    rw [h0]
    refine ⟨by show (0 : Nat) < _; decide, by show 1 + 0 ≤ 1000; decide, ?_⟩
    rw [if_pos rfl, decW, dec_small h, Nat.mod_eq_of_lt h]
   ·have h0 : ¬ u / 10 = 0 := by omega
    have hd := dec_step h
    refine ⟨by show u / 10 < _; omega, ?_, ?_⟩
    ·rw [hd, List.length_append] at hz'
     show 1 + (if u / 10 = 0 then 0 else (Lib.decDigits (u / 10)).length) ≤ 1000
     rw [if_neg h0]; omega
    ·show decW u = if u / 10 = 0 then _ else decW (u / 10) ++ _
     rw [if_neg h0, decW, decW, baApp, hd]
  ·intro ⟨n, w⟩ ⟨h1, h2, h3⟩ again hag
   dsimp only at h1 h2 h3 ⊢
   refine ITE.intro (fun h => ?_) fun h => ?_
   ·have hn : 0 < n := by have := of_decide_eq_true h; omega
    rw [if_neg (by omega)] at h3
    have hl : 1 ≤ (Lib.decDigits n).length := by
     by_cases h5 : n < 10
     ·rw [dec_small h5]; simp
     ·rw [dec_step h5]; simp
    refine ⟨by decide, by rw [digitW h1]; show 1 + w.size ≤ _; omega, by decide, ?_⟩
    rw [digitW h1, show Int.tdiv (n : Int) 10 = ((n / 10 : Nat) : Int) from (Int.ofNat_tdiv n 10).symm, wrap_i (by omega) (by omega)]
    refine hag (n / 10, _) ⟨by show n / 10 < _; omega, ?_, ?_⟩ (by show n / 10 < n; omega)
    ·show (_ ++ w : ByteArray).size + (if n / 10 = 0 then 0 else (Lib.decDigits (n / 10)).length) ≤ 1000
     rw [if_neg (by omega)] at h2
     rw [bsz]
     show 1 + w.size + _ ≤ 1000
     by_cases h5 : n < 10
     ·rw [if_pos (Nat.div_eq_of_lt h5)]; omega
     ·rw [dec_step h5, List.length_append, List.length_singleton] at h2
      rw [if_neg (by omega)]; omega
    ·rw [h3]
     by_cases h5 : n < 10
     ·show _ = if n / 10 = 0 then _ else _
      rw [if_pos (Nat.div_eq_of_lt h5), decW, dec_small h5, Nat.mod_eq_of_lt h5]
     ·have h6 : ¬ n / 10 = 0 := by omega
      show _ = if n / 10 = 0 then _ else _
      rw [if_neg h6, decW, decW, baApp, baApp, baApp, dec_step h5]
      simp
   ·have hn : n = 0 := by have := of_decide_eq_false h; omega
    subst hn
    rw [if_pos rfl] at h3
    show nS w = nS (numW _)
    rw [h3]
 intro k hk
 have h1 := hk.1
 have h2 := hk.2
 by_cases h0 : 0 ≤ k
 ·have := nat k.toNat (by omega)
  rw [show ((k.toNat : Nat) : Int) = k from by omega] at this
  exact this
 ·refine vc119_ok (ITE.intro (fun h => ?_) fun h => ITE.pos (decide_eq_true (by omega)) ?_)
  ·have : k = -9223372036854775808 := by simpa using h
   subst this
   show nS _ = nS (numW (-9223372036854775808))
   kernel_rfl
  ·have hne : ¬ k = -9223372036854775808 := by simpa using h
   obtain ⟨u, rfl⟩ : ∃ u : Nat, k = -(u : Int) := ⟨k.natAbs, by omega⟩
   have hw : IntKind.wrap .i64 (0 - -(u : Int)) = (u : Int) := by rw [wrap_i (by omega) (by omega)]; omega
   have hz := numW_size (k := (u : Int)) ⟨by omega, by omega⟩
   refine ⟨_, by rw [hw]; exact nat u (by omega), by rw [sz1]; omega, ?_⟩
   rw [numW_nat, numW, Lib.itoa_neg u (by omega)]
   show nS (⟨[(45 : UInt8)].toArray⟩ ++ decW u) = _
   rw [baApp]; rfl
theorem takenW_calls {l : List ByteArray} {w : ByteArray} (hl : l.length ≤ 1000000) : PureIs Tryz.prog 120 [wsAV l, nS w] (nB (inW l w)) := by
 refine vc120_ok ?_
 unfold vc120
 refine LoopP.intro (fun k : Nat => ((l.map nS, w, (k : Int), ()), ())) (fun k => k ≤ l.length ∧ inW l w = inW (l.drop k) w) (fun k => l.length - k) 0 rfl ⟨Nat.zero_le _, by rw [List.drop_zero]⟩ ?_
 intro k ⟨hk, hd⟩ again hag
 dsimp only
 rw [List.length_map]
 refine ITE.intro (fun h => ?_) fun h => ?_
 ·have hlt : k < l.length := by simpa using h
  have hs : inW (l.drop k) w = (decide (l[k] = w) || inW (l.drop (k + 1)) w) := by rw [List.drop_eq_getElem_cons hlt, inW, List.any_cons]; rfl
  refine ⟨by omega, by omega, _, getD_map hlt, ITE.intro (fun h1 => ?_) fun h1 => ?_⟩
  ·rw [strEq_iff] at h1
   rw [hd, hs, h1]; rfl
  ·rw [strEq_iff] at h1
   have : ¬ l[k] = w := of_decide_eq_false h1
   rw [wrap_n (by omega)]
   exact hag (k + 1) ⟨by omega, by rw [hd, hs, decide_eq_false this]; rfl⟩ (by omega)
 ·have : l.length ≤ k := by simpa using h
  rw [hd, List.drop_eq_nil_of_le this]; rfl
theorem refBound_calls {b c m : List ByteArray} {k : Int} (hk : I64 k) (hc : c.length ≤ 100000) (hm : m.length ≤ 100000) :
  PureIs Tryz.prog 85 [nmAV b c m, nI k] (nS (boundW (c ++ m) k)) := by
 have hz := numW_size hk
 have hlen : (c ++ m).length = c.length + m.length := List.length_append
 have hin : ∀ w, inW (c ++ m) w = (inW c w || inW m w) := fun w => by simp [inW, List.any_append]
 refine vc85_ok ⟨_, Number_calls hk, by rw [sz1]; omega, ?_⟩
 refine LoopP.intro (fun w : ByteArray => (((), w, ()), ((b.map nS, c.map nS, m.map nS, ()), ()))) (fun w => ∃ n, (c ++ m).countP (fun x => decide (w.size ≤ x.size)) ≤ n ∧ w.size + n ≤ 2000000 ∧ boundW (c ++ m) k = tickW (c ++ m) (n + 1) w)
  (fun w => (c ++ m).countP (fun x => decide (w.size ≤ x.size))) ((⟨#[118]⟩ : ByteArray) ++ numW k) rfl ⟨(c ++ m).length, List.countP_le_length, by rw [bsz, sz1]; omega, rfl⟩ ?_
 intro w ⟨n, h1, h2, h3⟩ again hag
 dsimp only
 have go : inW (c ++ m) w = true → ByteArray.size w + ByteArray.size (⟨#[39]⟩ : ByteArray) ≤ 9223372036854775807 ∧ again (((), w ++ (⟨#[39]⟩ : ByteArray), ()), ((b.map nS, c.map nS, m.map nS, ()), ())) := fun hw => by
  have ht := tick_left (inW_iff.1 hw)
  refine ⟨by rw [sz1]; omega, hag _ ⟨n - 1, ?_, ?_, ?_⟩ ?_⟩
  ·rw [bsz, sz1]; omega
  ·rw [bsz, sz1]; omega
  ·obtain ⟨j, rfl⟩ : ∃ j, n = j + 1 := ⟨n - 1, by omega⟩
   rw [h3, tickW, if_pos hw]; rfl
  ·rw [bsz, sz1]; exact ht
 refine ⟨_, takenW_calls (by omega), ITE.intro (fun h => go (by rw [hin, h]; rfl)) fun h => ⟨_, takenW_calls (by omega), ITE.intro (fun h' => go (by rw [hin, h']; simp)) fun h' => ?_⟩⟩
 have hw : inW (c ++ m) w = false := by rw [hin, h, h']; rfl
 rw [h3, tickW, hw]; rfl
def refN (B : Int → ByteArray) (b c m : List ByteArray) (a : Nat) (t : Tm) : Option Nd := if t.named = true then termN B b c m a t else none
def refApp (B : Int → ByteArray) (b c m : List ByteArray) (a : Nat) (l : List Tm) (n : Nd) : Option Nd := if Tm.nameds l = true then appN B b c m a l n else none
theorem refApp_step {B : Int → ByteArray} {b c m : List ByteArray} {a : Nat} {l : List Tm} {k : Nat} {s : Nd} (h : k < l.length) : refApp B b c m a (l.drop k) s = match refN B b c m a l[k] with | none => none | some x => refApp B b c m a (l.drop (k + 1)) (.mk 4 ⟨#[]⟩ 0 [s, x]) := by
 rw [refApp, appN_step h, List.drop_eq_getElem_cons h, Tm.nameds, refN]
 cases l[k].named
 ·rfl
 ·rw [Bool.true_and, if_pos rfl]
  cases termN B b c m a l[k] with
  | none => show (if _ then none else none) = none; split <;> rfl
  | some x => rfl
theorem refN_lam {B : Int → ByteArray} {b c m : List ByteArray} {a : Nat} {t : Tm} {ty : Ty} {l : List Ty} (h : t.binds = ty :: l) : refN B b c m a t = match refN B b c m (a + 1) (.mk l t.kind t.index t.args) with | none => none | some y => (match typN b ty with | none => none | some x => some (.mk 3 (B a) 0 [x, y])) := by
 rw [refN, refN, Tm.named_eq, Tm.named_eq (.mk l t.kind t.index t.args), termN_eq, termN_eq B b c m (a + 1) (.mk l t.kind t.index t.args), h]
 show (if (!((t.kind == 0) && decide (t.index < 0)) && Tm.nameds t.args) = true then _ else none) = match (if (!((t.kind == 0) && decide (t.index < 0)) && Tm.nameds t.args) = true then (match headN B c m (a + 1 + l.length) t.kind t.index with
  | none => none
  | some n => (match appN B b c m (a + 1 + l.length) t.args n with | none => none | some s => lamN B b s (a + 1) l)) else none) with | none => none | some y => _
 have e : a + (ty :: l).length = a + 1 + l.length := by rw [List.length_cons]; omega
 rw [e]
 cases !((t.kind == 0) && decide (t.index < 0)) && Tm.nameds t.args
 ·rfl
 ·rw [if_pos rfl, if_pos rfl]
  cases headN B c m (a + 1 + l.length) t.kind t.index with
  | none => rfl
  | some n =>
   show (match appN B b c m (a + 1 + l.length) t.args n with | none => none | some s => lamN B b s a (ty :: l)) = match (match appN B b c m (a + 1 + l.length) t.args n with | none => none | some s => lamN B b s (a + 1) l) with | none => none | some y => _
   cases appN B b c m (a + 1 + l.length) t.args n with
   | none => rfl
   | some s =>
    show lamN B b s a (ty :: l) = match lamN B b s (a + 1) l with | none => none | some y => (match typN b ty with | none => none | some x => some (.mk 3 (B a) 0 [x, y]))
    rw [lamN]
    cases lamN B b s (a + 1) l <;> rfl
theorem refN_flat {B : Int → ByteArray} {b c m : List ByteArray} {a : Nat} {t : Tm} (h : t.binds = []) : refN B b c m a t = if (t.kind == 0) && decide (t.index < 0) then none else match headN B c m a t.kind t.index with | none => none | some n => refApp B b c m a t.args n := by
 rw [refN, Tm.named_eq, termN_eq, h]
 cases (t.kind == 0) && decide (t.index < 0)
 ·show (if (true && Tm.nameds t.args) = true then _ else none) = match headN B c m a t.kind t.index with | none => none | some n => refApp B b c m a t.args n
  rw [Bool.true_and]
  show (if Tm.nameds t.args = true then (match headN B c m a t.kind t.index with | none => none | some n => (match appN B b c m a t.args n with | none => none | some s => lamN B b s a [])) else none) = _
  cases headN B c m a t.kind t.index with
  | none => show (if _ then none else none) = none; split <;> rfl
  | some n =>
   show (if _ then (match appN B b c m a t.args n with | none => none | some s => lamN B b s a []) else none) = refApp B b c m a t.args n
   rw [refApp]
   cases Tm.nameds t.args
   ·rfl
   ·rw [if_pos rfl, if_pos rfl]
    cases appN B b c m a t.args n with
    | none => rfl
    | some s => show lamN B b s a [] = _; rw [lamN]
 ·rfl
theorem refTerm_calls {b c m : List ByteArray} (hc : c.length ≤ 100000) (hm : m.length ≤ 100000) : ∀ (n : Nat) (t : Tm) (a : Nat), t.size ≤ n → a + t.size ≤ 400000000 → t.Ok →
  PureIs Tryz.prog 48 [nmAV b c m, .agg [.sl (t.binds.map Ty.enc), nI t.kind, nI t.index, .sl (t.args.map Tm.enc)], nI (a : Nat)] (maybeAV (refN (boundW (c ++ m)) b c m a t)) := by
 intro n
 induction n with
 | zero => intro t a h; have := t.size_pos; omega
 | succ n ih =>
  intro t a hn hs hk
  have hz := t.size_eq
  have hk' := Tm.ok_eq hk
  have hal := Tm.sizes_len t.args
  have hi1 := hk'.2.1.1
  have hi2 := hk'.2.1.2
  cases hb : t.binds with
  | cons ty l =>
   rw [hb] at hz
   simp only [Ty.sizes] at hz
   have hp := ty.size_pos
   have hll := Ty.sizes_len l
   have hz2 : (Tm.mk l t.kind t.index t.args).size = 1 + Ty.sizes l + Tm.sizes t.args := rfl
   have hrec := ih (.mk l t.kind t.index t.args) (a + 1) (by omega) (by omega) ⟨hk'.1, hk'.2.1, hk'.2.2⟩
   have hw : IntKind.wrap .i64 ((a : Int) + 1) = ((a + 1 : Nat) : Int) := by rw [wrap_i (by omega) (by omega)]; omega
   have hdrop : List.drop (Int.toNat 1) (List.take (Int.toNat (((((ty :: l).map Ty.enc).length : Nat) : Int))) ((ty :: l).map Ty.enc)) = l.map Ty.enc := by
    rw [Int.toNat_natCast, List.take_of_length_le (Nat.le_refl _)]; rfl
   refine vc48_ok (ITE.pos (decide_eq_true (by rw [List.length_map, List.length_cons]; omega)) ⟨by decide, by rw [List.length_map, List.length_cons]; omega, _, _, by show ty.enc = _; exact Ty.enc_eq ty, _, _, _, _, _, refOfType_calls _ ty (Nat.le_refl _) (by omega), ⟨by decide, by rw [List.length_map, List.length_cons]; omega, Int.le_refl _, fun y hy => Ty.enc_cells y hy⟩, _, _, _, _, _, by rw [hdrop, hw]; exact hrec, ?_⟩)
   rw [refN_lam hb]
   cases h3 : typN b ty with
   | none => exact ITE.pos rfl (by cases refN (boundW (c ++ m)) b c m (a + 1) (.mk l t.kind t.index t.args) <;> rfl)
   | some x =>
    cases h4 : refN (boundW (c ++ m)) b c m (a + 1) (.mk l t.kind t.index t.args) with
    | none => exact ITE.neg rfl (ITE.pos rfl rfl)
    | some y => exact ITE.neg rfl (ITE.neg rfl ⟨_, refBound_calls ⟨by omega, by omega⟩ hc hm, by show AV.tup [.agg [nI 3, nS _, nI 0, .sl [ndAV x, ndAV y]], nB true] = _; rw [two_nd]; rfl⟩)
  | nil =>
   rw [hb] at hz
   have loop : ∀ n0 : Nd, vc48_L20 (((a : Nat), (), (), (), (), 0, ()), ((b.map nS, c.map nS, m.map nS, ()), ([], t.kind, t.index, t.args.map Tm.enc, ()), (0, ⟨#[]⟩, 0, (), ()), (n0.kind, n0.word, n0.at_, n0.kids.map Nd.enc, ()), ()))
     (fun r => r = maybeAV (refApp (boundW (c ++ m)) b c m a t.args n0)) := by
    intro n0
    refine LoopP.intro (fun p : Nat × Nd => (((a : Nat), (), (), (), (), (p.1 : Int), ()), ((b.map nS, c.map nS, m.map nS, ()), ([], t.kind, t.index, t.args.map Tm.enc, ()), (0, ⟨#[]⟩, 0, (), ()), (p.2.kind, p.2.word, p.2.at_, p.2.kids.map Nd.enc, ()), ())))
     (fun p => p.1 ≤ t.args.length ∧ refApp (boundW (c ++ m)) b c m a t.args n0 = refApp (boundW (c ++ m)) b c m a (t.args.drop p.1) p.2) (fun p => t.args.length - p.1) (0, n0) rfl ⟨Nat.zero_le _, by rw [List.drop_zero]⟩ ?_
    intro ⟨k, s⟩ ⟨hk1, hd⟩ again hag
    dsimp only at hk1 hd ⊢
    rw [List.length_map]
    refine ITE.intro (fun h => ?_) fun h => ?_
    ·have hlt : k < t.args.length := by simpa using h
     have hz3 := Tm.sizes_mem (List.getElem_mem hlt)
     refine ⟨by omega, by omega, _, _, _, _, Tm.enc_getD hlt, _, _, _, _, _, ih t.args[k] a (by omega) (by omega) (Tm.Oks_mem hk'.2.2 (List.getElem_mem hlt)), ?_⟩
     rw [hd, refApp_step hlt]
     cases hx : refN (boundW (c ++ m)) b c m a t.args[k] with
     | none => exact ITE.pos rfl rfl
     | some x =>
      refine ITE.neg rfl ?_
      rw [wrap_n (by omega)]
      have := hag (k + 1, .mk 4 ⟨#[]⟩ 0 [s, x]) ⟨by show k + 1 ≤ _; omega, by rw [hd, refApp_step hlt, hx]⟩ (by show t.args.length - (k + 1) < t.args.length - k; omega)
      dsimp only at this
      rw [show (Nd.mk 4 ⟨#[]⟩ 0 [s, x]).kids.map Nd.enc = [ndAV s, ndAV x] from (two_nd s x).symm] at this
      exact this
    ·have hge : t.args.length ≤ k := by simpa using h
     rw [hd, List.drop_eq_nil_of_le hge]
     show AV.tup [ndAV s, nB true] = _
     rw [refApp, Tm.nameds, if_pos rfl, appN]; rfl
   have hat : ∀ l : List ByteArray, ¬ t.index < 0 → t.index < ((l.length : Nat) : Int) → ∃ w, List.getD (l.map nS) (Int.toNat t.index) .top = nS w ∧ atW l t.index = some (.mk 1 w 0 []) := fun l h1 h2 => by
    have hlt : t.index.toNat < l.length := by omega
    exact ⟨l[t.index.toNat], by rw [List.getD_eq_getElem?_getD, List.getElem?_map, List.getElem?_eq_getElem hlt]; rfl, by rw [atW, if_neg h1, List.getElem?_eq_getElem hlt]; rfl⟩
   have hno : ∀ l : List ByteArray, ¬ t.index < 0 → ¬ t.index < ((l.length : Nat) : Int) → atW l t.index = none := fun l h1 h2 => by
    rw [atW, if_neg h1, List.getElem?_eq_none (by omega)]; rfl
   rw [refN_flat hb]
   refine vc48_ok (ITE.neg rfl (ITE.intro (fun h => ?_) fun h => ?_))
   ·have h := of_decide_eq_true h
    have e : (if ((t.kind == 0) && decide (t.index < 0)) = true then (none : Option Nd) else match headN (boundW (c ++ m)) c m a t.kind t.index with | none => none | some n => refApp (boundW (c ++ m)) b c m a t.args n) = none := by
     by_cases h0 : t.kind = 0
     ·rw [if_pos (by simp [h0, h])]
     ·rw [if_neg (by simp [h0])]
      have : headN (boundW (c ++ m)) c m a t.kind t.index = none := by
       rw [headN, if_neg h0, atW, atW, if_pos h]; split <;> (try rfl); try (split <;> rfl)
      rw [this]
    rw [e]; rfl
   ·have h := of_decide_eq_false h
    rw [if_neg (by simp [h])]
    refine ITE.intro (fun h0 => ?_) fun h0 => ITE.intro (fun h1 => ?_) fun h1 => ITE.intro (fun h2 => ?_) fun h2 => ?_
    ·have h0 : t.kind = 0 := by simpa using h0
     have hw : IntKind.wrap .i64 (IntKind.wrap .i64 ((a : Int) - 1) - t.index) = (a : Int) - 1 - t.index := by rw [wrap_i (n := (a : Int) - 1) (by omega) (by omega), wrap_i (by omega) (by omega)]
     refine ⟨_, by rw [hw]; exact refBound_calls ⟨by omega, by omega⟩ hc hm, ?_⟩
     rw [headN, if_pos h0]
     exact loop (.mk 1 _ 0 [])
    ·have h0 : ¬ t.kind = 0 := by simpa using h0
     have h1 : t.kind = 1 := by simpa using h1
     rw [headN, if_neg h0, if_pos h1]
     refine ITE.intro (fun h3 => ?_) fun h3 => ITE.neg (by rw [h1]; rfl) ?_
     ·have h3 := of_decide_eq_true h3
      rw [List.length_map] at h3
      obtain ⟨w, e1, e2⟩ := hat c h h3
      refine ⟨by omega, by rw [List.length_map]; omega, w, e1, ?_⟩
      rw [e2]
      exact loop (.mk 1 w 0 [])
     ·have h3 := of_decide_eq_false h3
      rw [List.length_map] at h3
      rw [hno c h h3]; rfl
    ·have h0 : ¬ t.kind = 0 := by simpa using h0
     have h1 : ¬ t.kind = 1 := by simpa using h1
     have h2 : t.kind = 2 := by simpa using h2
     rw [headN, if_neg h0, if_neg h1, if_pos h2]
     refine ITE.intro (fun h3 => ?_) fun h3 => ?_
     ·have h3 := of_decide_eq_true h3
      rw [List.length_map] at h3
      obtain ⟨w, e1, e2⟩ := hat m h h3
      refine ⟨by omega, by rw [List.length_map]; omega, w, e1, ?_⟩
      rw [e2]
      exact loop (.mk 1 w 0 [])
     ·have h3 := of_decide_eq_false h3
      rw [List.length_map] at h3
      rw [hno m h h3]; rfl
    ·have h0 : ¬ t.kind = 0 := by simpa using h0
     have h1 : ¬ t.kind = 1 := by simpa using h1
     have h2 : ¬ t.kind = 2 := by simpa using h2
     rw [headN, if_neg h0, if_neg h1, if_neg h2]; rfl
end Go.Proofs.YtghnkppcncbddaaGreatDoor

namespace Go.Proofs.YtghnkppcncbddaaGreatDoor
open Go
set_option linter.unusedSimpArgs false
set_option linter.unusedVariables false
mutual
def Tm.looses (a : Nat) : Tm → List Int
 | .mk b k i l => (if k = 0 ∧ i ≥ ((a + b.length : Nat) : Int) then [i - ((a + b.length : Nat) : Int)] else []) ++ Tm.loosess (a + b.length) l
def Tm.loosess (a : Nat) : List Tm → List Int
 | [] => []
 | t :: l => Tm.looses a t ++ Tm.loosess a l
end
theorem Tm.looses_eq (a : Nat) (t : Tm) : t.looses a = (if t.kind = 0 ∧ t.index ≥ ((a + t.binds.length : Nat) : Int) then [t.index - ((a + t.binds.length : Nat) : Int)] else []) ++ Tm.loosess (a + t.binds.length) t.args := by cases t; rw [Tm.looses]; rfl
theorem Tm.loosess_app (a : Nat) (l r : List Tm) : Tm.loosess a (l ++ r) = Tm.loosess a l ++ Tm.loosess a r := by
 induction l with
 | nil => rfl
 | cons t l ih => rw [List.cons_append, Tm.loosess, Tm.loosess, ih, List.append_assoc]
theorem Tm.loosess_take {a : Nat} {l : List Tm} {k : Nat} (h : k < l.length) : Tm.loosess a (l.take (k + 1)) = Tm.loosess a (l.take k) ++ l[k].looses a := by
 rw [List.take_succ_eq_append_getElem h, Tm.loosess_app]; simp [Tm.loosess]
mutual
theorem Tm.looses_len : ∀ (t : Tm) (a : Nat), (t.looses a).length ≤ t.size
 | .mk b k i l, a => by
  have h := Tm.loosess_len l (a + b.length)
  rw [Tm.looses, List.length_append, Tm.size]
  split
  ·rw [List.length_singleton]; omega
  ·rw [List.length_nil]; omega
theorem Tm.loosess_len : ∀ (l : List Tm) (a : Nat), (Tm.loosess a l).length ≤ Tm.sizes l
 | [], a => Nat.le_refl _
 | t :: l, a => by
  have h1 := Tm.looses_len t a
  have h2 := Tm.loosess_len l a
  rw [Tm.loosess, List.length_append, Tm.sizes]; omega
end
theorem Tm.loosess_take_len (a : Nat) (l : List Tm) (k : Nat) : (Tm.loosess a (l.take k)).length ≤ Tm.sizes l := by
 have h := Tm.loosess_len l a
 have e : Tm.loosess a l = Tm.loosess a (l.take k) ++ Tm.loosess a (l.drop k) := by rw [← Tm.loosess_app, List.take_append_drop]
 rw [e, List.length_append] at h; omega
mutual
theorem Tm.looses_pre : ∀ (t : Tm) (a d : Nat), (t.pre a d).any looseP = !(t.looses a).isEmpty
 | .mk b k i l, a, d => by
  have h := Tm.loosess_pre l (a + b.length) (d + 1)
  rw [Tm.pre, Tm.looses, List.any_cons, h]
  by_cases hp : k = 0 ∧ i ≥ ((a + b.length : Nat) : Int)
  ·have e : looseP ((a + b.length, d), Tm.mk b k i l) = true := by
    show ((k == 0) && decide (i ≥ ((a + b.length : Nat) : Int))) = true
    rw [decide_eq_true hp.2, hp.1]; rfl
   rw [if_pos hp, e]; rfl
  ·have e : looseP ((a + b.length, d), Tm.mk b k i l) = false := by
    show ((k == 0) && decide (i ≥ ((a + b.length : Nat) : Int))) = false
    by_cases h0 : k = 0
    ·rw [decide_eq_false fun h2 => hp ⟨h0, h2⟩, Bool.and_false]
    ·simp [h0]
   rw [if_neg hp, e]; rfl
theorem Tm.loosess_pre : ∀ (l : List Tm) (a d : Nat), (Tm.pres a d l).any looseP = !(Tm.loosess a l).isEmpty
 | [], a, d => by rw [Tm.pres, Tm.loosess]; rfl
 | t :: l, a, d => by
  rw [Tm.pres, Tm.loosess, List.any_append, Tm.looses_pre t a d, Tm.loosess_pre l a d]
  cases t.looses a <;> rfl
end
theorem looses_calls : ∀ (n : Nat) (t : Tm) (a : Nat), t.size ≤ n → a + t.size ≤ 400000000 → t.Ok →
  PureIs Tryz.prog 84 [.agg [.sl (t.binds.map Ty.enc), nI t.kind, nI t.index, .sl (t.args.map Tm.enc)], nI (a : Nat)] (.sl (encInts (t.looses a))) := by
 intro n
 induction n with
 | zero => intro t a h; have := t.size_pos; omega
 | succ n ih =>
  intro t a hn hs hk
  have hz := t.size_eq
  have hk' := Tm.ok_eq hk
  have hal := Tm.sizes_len t.args
  have hbl := Ty.sizes_len t.binds
  have hi1 := hk'.2.1.1
  have hi2 := hk'.2.1.2
  have hw : IntKind.wrap .i64 ((a : Int) + ((t.binds.length : Nat) : Int)) = ((a + t.binds.length : Nat) : Int) := by rw [wrap_i (by omega) (by omega)]; omega
  have loop : ∀ acc : List Int, acc.length ≤ 1 → vc84_L6 (((), (), ((a + t.binds.length : Nat) : Int), 0, ()), ((t.binds.map Ty.enc, t.kind, t.index, t.args.map Tm.enc, ()), encInts acc, ()))
    (fun r => r = .sl (encInts (acc ++ Tm.loosess (a + t.binds.length) t.args))) := by
   intro acc hac
   refine LoopP.intro (fun k : Nat => (((), (), ((a + t.binds.length : Nat) : Int), (k : Int), ()), ((t.binds.map Ty.enc, t.kind, t.index, t.args.map Tm.enc, ()), encInts (acc ++ Tm.loosess (a + t.binds.length) (t.args.take k)), ())))
    (fun k => k ≤ t.args.length) (fun k => t.args.length - k) 0 (by rw [List.take_zero, Tm.loosess, List.append_nil]; rfl) (Nat.zero_le _) ?_
   intro k hk1 again hag
   dsimp only
   rw [List.length_map]
   refine ITE.intro (fun h => ?_) fun h => ?_
   ·have hlt : k < t.args.length := by simpa using h
    have hz3 := Tm.sizes_mem (List.getElem_mem hlt)
    have hl1 := Tm.loosess_take_len (a + t.binds.length) t.args k
    have hl2 := Tm.looses_len t.args[k] (a + t.binds.length)
    refine ⟨by omega, by omega, _, _, _, _, Tm.enc_getD hlt, _, ih t.args[k] (a + t.binds.length) (by omega) (by omega) (Tm.Oks_mem hk'.2.2 (List.getElem_mem hlt)), rfl, appOk_nil encInts_cells (by rw [encInts_app, encInts_len, List.length_append, List.length_append]; omega) (by decide), rfl, ?_⟩
    rw [encInts_app, List.append_assoc, ← Tm.loosess_take hlt, wrap_n (by omega)]
    exact hag (k + 1) (by omega) (by omega)
   ·have hge : t.args.length ≤ k := by simpa using h
    rw [List.take_of_length_le hge]
    exact ⟨rfl, rfl⟩
  rw [Tm.looses_eq]
  refine vc84_ok ?_
  unfold vc84
  rw [List.length_map, hw]
  have hl0 := loop [] (by decide)
  refine ITE.intro (fun h0 => ITE.intro (fun h1 => ?_) fun h1 => ⟨rfl, ?_⟩) fun h0 => ⟨rfl, ?_⟩
  ·have h0 : t.kind = 0 := by simpa using h0
   have h1 := of_decide_eq_true h1
   rw [wrap_i (n := t.index - ((a + t.binds.length : Nat) : Int)) (by omega) (by omega), if_pos ⟨h0, h1⟩]
   refine ⟨appOk_one rfl (by simp) (by decide), rfl, ?_⟩
   exact loop [t.index - ((a + t.binds.length : Nat) : Int)] (by simp)
  ·have h1 := of_decide_eq_false h1
   rw [if_neg fun e => h1 e.2]
   exact hl0
  ·have h0 : ¬ t.kind = 0 := by simpa using h0
   rw [if_neg fun e => h0 e.1]
   exact hl0
theorem Looses_calls {t : Tm} (h : t.size ≤ 300000000) (hk : t.Ok) : PureIs Tryz.prog 47 [.agg [.sl (t.binds.map Ty.enc), nI t.kind, nI t.index, .sl (t.args.map Tm.enc)]] (.sl (encInts (t.looses 0))) :=
 vc47_ok ⟨_, looses_calls _ t 0 (Nat.le_refl _) (by omega) hk, rfl⟩
theorem refOfTerm_calls {b c m : List ByteArray} {t : Tm} (h : t.size ≤ 100000000) (hk : t.Ok) (hc : c.length ≤ 100000) (hm : m.length ≤ 100000) :
  PureIs Tryz.prog 16 [nmAV b c m, .agg [.sl (t.binds.map Ty.enc), nI t.kind, nI t.index, .sl (t.args.map Tm.enc)]] (foundAV (ofTermR b c m t)) := by
 have hn := Tm.nodes_le t
 have hp := Tm.looses_pre t 0 1
 refine vc16_ok ⟨_, rRight_calls (by omega), ITE.intro (fun h1 => ?_) fun h1 => ⟨_, Looses_calls (by omega) hk, ITE.intro (fun h2 => ?_) fun h2 => ⟨_, _, _, _, _, refTerm_calls hc hm _ t 0 (Nat.le_refl _) (by omega) hk, ?_⟩⟩⟩
 ·have e : t.rightB = false := by simpa using h1
  rw [ofTermR, trest_right, e]; rfl
 ·have e : looseB t = true := by
   rw [encInts_len] at h2
   have h2 := of_decide_eq_true h2
   rw [looseB, hp]
   cases hl : t.looses 0 with
   | nil => rw [hl] at h2; simp at h2
   | cons => rfl
  rw [ofTermR, e]; simp; rfl
 ·have e1 : t.rightB = true := by simpa using h1
  have e2 : looseB t = false := by
   rw [encInts_len] at h2
   have h2 := of_decide_eq_false h2
   rw [looseB, hp]
   cases hl : t.looses 0 with
   | nil => rfl
   | cons => rw [hl] at h2; simp at h2
  have er : ofTermR b c m t = match refN (boundW (c ++ m)) b c m 0 t with | some n => (n, 0) | none => (noN, 10) := by rw [ofTermR, trest_right, e1, e2]; rfl
  rw [er]
  cases refN (boundW (c ++ m)) b c m 0 t with
  | none => exact ITE.pos rfl rfl
  | some n => exact ITE.neg rfl rfl
theorem ndOf_calls : ∀ (n : Nat) (t : Nd), t.size ≤ n → n ≤ 1000000000 → PureIs Tryz.prog 19 [ndAV t] (ndAV t) := by
 intro n
 induction n with
 | zero => intro t h; have := t.size_pos; omega
 | succ n ih =>
  intro t h hn
  have hq := Nd.sizes_len t.kids
  have hts := t.size_eq
  refine vc19_ok ⟨rfl, ?_⟩
  refine LoopP.intro (fun k : Nat => (((), (), (), (k : Int), ()), ((t.kind, t.word, t.at_, t.kids.map Nd.enc, ()), (0, ⟨#[]⟩, 0, (), ()), (t.kind, t.word, t.at_, (), ()), (t.kids.take k).map Nd.enc, ())))
   (fun k => k ≤ t.kids.length) (fun k => t.kids.length - k) 0 (by simp) (Nat.zero_le _) ?_
  intro k hk again hag
  dsimp only at hk ⊢
  rw [List.length_map]
  refine ITE.intro (fun h1 => ?_) fun h1 => ?_
  ·have hlt : k < t.kids.length := by simpa using h1
   have hi := ih t.kids[k] (by have := Nd.kid_size hlt; omega) (by omega)
   refine ⟨by omega, by omega, _, _, _, _, Nd.enc_getD hlt, _, _, _, _, hi, rfl, ?_, rfl, ?_⟩
   ·exact appOk_one rfl (by simp; omega) (by decide)
   ·rw [wrap_n (by omega), show (t.kids.take k).map Nd.enc ++ [.agg [nI t.kids[k].kind, nS t.kids[k].word, nI t.kids[k].at_, .sl (t.kids[k].kids.map Nd.enc)]] = (t.kids.take (k + 1)).map Nd.enc from by
     rw [← Nd.enc_eq, List.take_succ_eq_append_getElem hlt, List.map_append]; rfl]
    exact hag (k + 1) (by omega) (by omega)
  ·have hge : t.kids.length ≤ k := by simpa using h1
   rw [List.take_of_length_le hge]
   exact ⟨rfl, rfl⟩
theorem likeN_calls : ∀ (n : Nat) (t : Nd), t.size ≤ n → n ≤ 1000000000 → PureIs Tryz.prog 18 [ndAV t, ndAV t, nB true] (nB true) := by
 intro n
 induction n with
 | zero => intro t h; have := t.size_pos; omega
 | succ n ih =>
  intro t h hn
  have hq := Nd.sizes_len t.kids
  have hts := t.size_eq
  refine vc18_ok (ITE.neg (by simp) (ITE.neg (by rw [strEq_self]; rfl) (ITE.pos rfl (ITE.neg (by simp) (ITE.neg (by simp) ?_)))))
  refine LoopP.intro (fun k : Nat => ((true, (), (), (k : Int), ()), ((t.kind, t.word, t.at_, t.kids.map Nd.enc, ()), (t.kind, t.word, t.at_, t.kids.map Nd.enc, ()), ())))
   (fun k => k ≤ t.kids.length) (fun k => t.kids.length - k) 0 rfl (Nat.zero_le _) ?_
  intro k hk again hag
  dsimp only at hk ⊢
  rw [List.length_map]
  refine ITE.intro (fun h1 => ?_) fun h1 => rfl
  have hlt : k < t.kids.length := by simpa using h1
  have hi := ih t.kids[k] (by have := Nd.kid_size hlt; omega) (by omega)
  refine ⟨by omega, by omega, _, _, _, _, Nd.enc_getD hlt, by omega, by omega, _, _, _, _, Nd.enc_getD hlt, _, hi, ITE.neg rfl ?_⟩
  rw [wrap_n (by omega)]
  exact hag (k + 1) (by omega) (by omega)
theorem atW_size {l : List ByteArray} {i : Int} {n : Nd} (h : atW l i = some n) : n.size = 1 := by
 unfold atW at h
 split at h
 ·cases h
 ·obtain ⟨w, _, rfl⟩ := Option.map_eq_some_iff.1 h; rfl
mutual
theorem typN_size {b : List ByteArray} : ∀ (t : Ty) (n : Nd), typN b t = some n → n.size + 1 ≤ 2 * t.size
 | .mk l k, n, h => by
  rw [typN] at h
  split at h
  ·cases h
  ·rename_i n0 h0
   have h1 := typNs_size l n0 n h
   rw [atW_size h0] at h1
   rw [Ty.size]; omega
theorem typNs_size {b : List ByteArray} : ∀ (l : List Ty) (n0 n : Nd), typNs b n0 l = some n → n.size ≤ n0.size + 2 * Ty.sizes l
 | [], n0, n, h => by rw [typNs] at h; cases h; omega
 | a :: l, n0, n, h => by
  rw [typNs] at h
  split at h
  ·cases h
  ·rename_i m h0
   split at h
   ·cases h
   ·rename_i x h1
    obtain rfl := Option.some.inj h
    have i1 := typNs_size l n0 m h0
    have i2 := typN_size a x h1
    have hp := a.size_pos
    rw [size_two, Ty.sizes]; omega
end
theorem headN_size {B : Int → ByteArray} {c m : List ByteArray} {a : Nat} {k i : Int} {n : Nd} (h : headN B c m a k i = some n) : n.size = 1 := by
 unfold headN at h
 split at h
 ·obtain rfl := Option.some.inj h; rfl
 ·split at h
  ·exact atW_size h
  ·split at h
   ·exact atW_size h
   ·cases h
theorem lamN_size {B : Int → ByteArray} {b : List ByteArray} : ∀ (l : List Ty) (a : Nat) (n0 n : Nd), lamN B b n0 a l = some n → n.size ≤ n0.size + 2 * Ty.sizes l
 | [], a, n0, n, h => by rw [lamN] at h; cases h; omega
 | t :: l, a, n0, n, h => by
  rw [lamN] at h
  split at h
  ·cases h
  ·rename_i m h0
   split at h
   ·cases h
   ·rename_i x h1
    obtain rfl := Option.some.inj h
    have i1 := lamN_size l (a + 1) n0 m h0
    have i2 := typN_size t x h1
    rw [size_two, Ty.sizes]; omega
mutual
theorem termN_size {B : Int → ByteArray} {b c m : List ByteArray} : ∀ (t : Tm) (a : Nat) (n : Nd), termN B b c m a t = some n → n.size + 1 ≤ 2 * t.size
 | .mk bs k i l, a, n, h => by
  rw [termN] at h
  split at h
  ·cases h
  ·rename_i n0 h0
   split at h
   ·cases h
   ·rename_i s h1
    have i1 := appN_size l (a + bs.length) n0 s h1
    have i2 := lamN_size bs a s n h
    rw [headN_size h0] at i1
    rw [Tm.size]; omega
theorem appN_size {B : Int → ByteArray} {b c m : List ByteArray} : ∀ (l : List Tm) (a : Nat) (n0 n : Nd), appN B b c m a l n0 = some n → n.size ≤ n0.size + 2 * Tm.sizes l
 | [], a, n0, n, h => by rw [appN] at h; cases h; omega
 | t :: l, a, n0, n, h => by
  rw [appN] at h
  split at h
  ·cases h
  ·rename_i x h0
   have i1 := termN_size t a x h0
   have i2 := appN_size l a _ n h
   rw [size_two] at i2
   rw [Tm.sizes]; omega
end
theorem ofTermR_size {b c m : List ByteArray} {t : Tm} : (ofTermR b c m t).1.size ≤ 2 * t.size + 1 := by
 have hp := t.size_pos
 have h0 : noN.size = 1 := rfl
 unfold ofTermR
 split
 ·split
  ·rename_i n h
   split at h
   ·have := termN_size t 0 n h; show n.size ≤ _; omega
   ·cases h
  ·show noN.size ≤ _; omega
 ·show noN.size ≤ _; omega
theorem cut50 (l : List ByteArray) : List.drop (Int.toNat 0) (List.take (Int.toNat (if 50 < (((l.map nS).length : Nat) : Int) then 50 else (((l.map nS).length : Nat) : Int))) (l.map nS)) = (l.take 50).map nS := by
 rw [show Int.toNat 0 = 0 from rfl, List.drop_zero, List.map_take]
 split
 ·rfl
 ·rename_i h
  rw [Int.toNat_natCast, List.take_of_length_le (Nat.le_refl _), List.take_of_length_le (by omega)]
theorem cut50_ok (l : List ByteArray) : (0 ≤ (0 : Int) ∧ (0 : Int) ≤ (if 50 < (((l.map nS).length : Nat) : Int) then 50 else (((l.map nS).length : Nat) : Int)) ∧ (if 50 < (((l.map nS).length : Nat) : Int) then 50 else (((l.map nS).length : Nat) : Int)) ≤ ((l.map nS).length : Nat) ∧ (∀ y : AV, y ∈ l.map nS → List.length (AV.cells y) = 1)) := by
 refine ⟨by omega, by split <;> omega, by split <;> omega, fun y hy => ?_⟩
 obtain ⟨w, _, rfl⟩ := List.mem_map.1 hy
 rfl
theorem Names_calls {b c m : List ByteArray} : PureIs Tryz.prog 9 [nmAV b c m] (nmAV (b.take 50) (c.take 50) (m.take 50)) :=
 vc9_ok ⟨cut50_ok b, cut50_ok c, cut50_ok m, by rw [cut50, cut50, cut50]⟩
theorem was_calls {b c m : List ByteArray} : PureIs Tryz.prog 10 [nmAV b c m] (nmAV b c m) := vc10_ok rfl
theorem ShowTerms_calls {b c m : List ByteArray} {t : Tm} {ty : Ty} (hk : t.Ok) : PureIs Tryz.prog 3 [nmAV b c m, t.enc, ty.enc] (nB true) := by
 have hf := few_calls (l := [t]) (by simp)
 have hfT := tyFew_calls (most := 60) (d := 60) (t := ty) (by decide) (by decide)
 have hkn := knownS_calls
 have hty := fun h => tyTo_calls _ ty (Nat.le_refl _) h
 have htm := fun h => tmTo_calls _ t (Nat.le_refl _) h
 rw [show [t].map Tm.enc = [t.enc] from rfl] at hf
 rw [Tm.enc_eq] at hf htm ⊢
 rw [Ty.enc_eq] at hfT hty ⊢
 refine vc3_ok ⟨_, hf, ITE.intro (fun h => ⟨_, hkn, rfl⟩) fun h1 => ⟨_, hfT, ITE.intro (fun h => ⟨_, hkn, rfl⟩) fun h2 => ?_⟩⟩
 have hz : t.size ≤ 150 := Tm.fewB_size (by simpa using h1)
 have hzT : ty.size ≤ 60 := Ty.fewB_size (by simpa using h2)
 have hb : (b.take 50).length ≤ 50 := List.length_take_le _ _
 have hc : (c.take 50).length ≤ 50 := List.length_take_le _ _
 have hm : (m.take 50).length ≤ 50 := List.length_take_le _ _
 have hps := ofTermR_size (b := b.take 50) (c := c.take 50) (m := m.take 50) (t := t)
 have hof := OfTerm_calls (b := b.take 50) (c := c.take 50) (m := m.take 50) (t := t) (by omega) hk (by omega)
 have hrf := refOfTerm_calls (b := b.take 50) (c := c.take 50) (m := m.take 50) (t := t) (by omega) hk (by omega) (by omega)
 have hln := Line_calls (b := b.take 50) (c := c.take 50) (m := m.take 50) (t := t) (by omega) hk (by omega) (by omega)
 have hos := fun n h => typN_size (b := b.take 50) ty n h
 have hot := OfType_calls (b := b.take 50) (c := c.take 50) (m := m.take 50) _ ty (Nat.le_refl _) (by omega)
 have hor := refOfType_calls (b := b.take 50) (c := c.take 50) (m := m.take 50) _ ty (Nat.le_refl _) (by omega)
 rw [lineR] at hln
 generalize ofTermR (b.take 50) (c.take 50) (m.take 50) t = p at hps hof hrf hln
 generalize typN (b.take 50) ty = o at hos hot hor
 have hoz : (o.getD noN).size ≤ 1000 := by
  cases o with
  | none => decide
  | some n => have := hos n rfl; show n.size ≤ _; omega
 have of1 := ndOf_calls _ (o.getD noN) (Nat.le_refl _) (by omega)
 have li1 := likeN_calls _ (o.getD noN) (Nat.le_refl _) (by omega)
 have of2 := ndOf_calls _ p.1 (Nat.le_refl _) (by omega)
 have li2 := likeN_calls _ p.1 (Nat.le_refl _) (by omega)
 have r2 := refRightM_calls _ p.1 (Nat.le_refl _)
 have s2 := fun h => refTermS_calls _ p.1 (Nat.le_refl _) (by omega) h
 rw [Nd.enc_eq] at r2 s2
 by_cases hp : p.2 = 0
 ·rw [if_pos hp] at hln
  refine ⟨_, _, _, Names_calls, _, _, _, was_calls, _, _, hty (by omega), _, _, _, _, _, hot, _, _, _, _, _, hor, _, _, _, _, htm (by omega), _, _, _, _, _, hof, _, _, _, _, _, hrf, _, _, _, _, htm (by omega), _, _, hln, _, hkn, ITE.neg rfl ?_⟩
  cases o with
  | none =>
   refine ITE.neg rfl (ITE.pos rfl (ITE.neg rfl ⟨_, _, _, _, of1, _, li1, ITE.neg rfl (ITE.neg (by simp) ⟨_, _, _, _, of2, _, li2, ITE.neg rfl (ITE.neg (by simp [hp]) ⟨_, r2, ?_⟩)⟩)⟩))
   cases hr : rightM p.1
   ·exact ITE.pos rfl (ITE.pos rfl (by show nB (strEq (⟨#[]⟩ : ByteArray) ⟨#[]⟩) = nB true; rw [strEq_self]))
   ·exact ITE.neg rfl (ITE.pos rfl ⟨_, s2 hr, by show nB (strEq (txtM p.1) (txtM p.1)) = nB true; rw [strEq_self]⟩)
  | some n =>
   refine ITE.neg rfl (ITE.neg rfl ⟨_, _, _, _, of1, _, li1, ITE.neg rfl (ITE.neg (by simp) ⟨_, _, _, _, of2, _, li2, ITE.neg rfl (ITE.neg (by simp [hp]) ⟨_, r2, ?_⟩)⟩)⟩)
   cases hr : rightM p.1
   ·exact ITE.pos rfl (ITE.pos rfl (by show nB (strEq (⟨#[]⟩ : ByteArray) ⟨#[]⟩) = nB true; rw [strEq_self]))
   ·exact ITE.neg rfl (ITE.pos rfl ⟨_, s2 hr, by show nB (strEq (txtM p.1) (txtM p.1)) = nB true; rw [strEq_self]⟩)
 ·rw [if_neg hp] at hln
  refine ⟨_, _, _, Names_calls, _, _, _, was_calls, _, _, hty (by omega), _, _, _, _, _, hot, _, _, _, _, _, hor, _, _, _, _, htm (by omega), _, _, _, _, _, hof, _, _, _, _, _, hrf, _, _, _, _, htm (by omega), _, _, hln, _, hkn, ITE.neg rfl ?_⟩
  cases o with
  | none => exact ITE.neg rfl (ITE.pos rfl (ITE.neg rfl ⟨_, _, _, _, of1, _, li1, ITE.neg rfl (ITE.neg (by simp) ⟨_, _, _, _, of2, _, li2, ITE.neg rfl (ITE.pos (by simp [hp]) (ITE.pos (by simp) (by show nB (strEq _ _) = nB true; rw [strEq_self])))⟩)⟩))
  | some n => exact ITE.neg rfl (ITE.neg rfl ⟨_, _, _, _, of1, _, li1, ITE.neg rfl (ITE.neg (by simp) ⟨_, _, _, _, of2, _, li2, ITE.neg rfl (ITE.pos (by simp [hp]) (ITE.pos (by simp) (by show nB (strEq _ _) = nB true; rw [strEq_self])))⟩)⟩)
end Go.Proofs.YtghnkppcncbddaaGreatDoor
