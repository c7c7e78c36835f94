/- Texts of ours laid together for a claim: P08 P09. -/
import Derived.Test.YtfbncddnakaaiaaMPA
import Derived.Test.YtfbncddnakaaiaaMVc2
/- Terms and types there and back, and how they are compared; what is in a list; the document's side. -/
namespace Go.Proofs.Ytfbncddnakaaiaa
open Go
set_option linter.unusedSimpArgs false
set_option linter.unusedVariables false

/-! ### Lists of ints -/

theorem contains_snoc {l : List Int} {i : Int} {k : Nat} (h : k < l.length) : (l.take (k + 1)).contains i = ((l.take k).contains i || (l[k] == i)) := by
  rw [← take_snoc' h, Bool.eq_iff_iff]
  simp only [List.contains_iff_mem, Bool.or_eq_true, List.mem_append, List.mem_singleton, beq_iff_eq]
  exact or_congr Iff.rfl eq_comm

theorem has_calls {l : List Int} {i : Int} (hsz : l.length ≤ 1000000000) : PureIs Try.prog 82 [.sl (encInts l), nI i] (nB (l.contains i)) := by
  refine vc82_ok ?_
  unfold vc82
  refine LoopP.intro (fun k : Nat => ((encInts l, i, (k : Int), ()), ())) (fun k => k ≤ l.length ∧ (l.take k).contains i = false) (fun k => l.length - k) 0 rfl ⟨Nat.zero_le _, by simp⟩ ?_
  intro k ⟨hk, hs⟩ again hag
  dsimp only
  rw [encInts_len]
  refine ITE.intro (fun h => ?_) fun h => ?_
  · have hlt : k < l.length := by simpa using h
    refine ⟨by omega, by omega, _, encInts_getD hlt, ITE.intro (fun h => ?_) fun h => ?_⟩
    · have e : l[k] = i := by simpa using h
      have : l.contains i = true := by rw [List.contains_iff_mem, ← e]; exact List.getElem_mem hlt
      rw [this]
    · rw [wrap_n (by omega)]
      exact hag (k + 1) ⟨by omega, by rw [contains_snoc hlt, hs, h]; rfl⟩ (by omega)
  · have : l.length ≤ k := by simpa using h
    rw [List.take_of_length_le this] at hs
    rw [hs]

theorem mayB_snoc {n : Int} {l : List Int} {k : Nat} (h : k < l.length) : mayB n (l.take (k + 1)) = (mayB n (l.take k) && (decide (0 ≤ l[k]) && decide (l[k] < n) && !(l.take k).contains l[k])) := by
  rw [← take_snoc' h, Bool.eq_iff_iff]
  simp only [mayB, Bool.and_eq_true, decide_eq_true_eq, Bool.not_eq_true', List.nodup_append, List.mem_append, List.mem_singleton]
  constructor
  · rintro ⟨⟨h1, _, h3⟩, h4⟩
    exact ⟨⟨h1, fun v hv => h4 v (.inl hv)⟩, ⟨(h4 _ (.inr rfl)).1, (h4 _ (.inr rfl)).2⟩, by
      rw [← Bool.not_eq_true, List.contains_iff_mem]; exact fun hm => h3 _ hm _ rfl rfl⟩
  · rintro ⟨⟨h1, h2⟩, ⟨h3, h4⟩, h5⟩
    rw [← Bool.not_eq_true, List.contains_iff_mem] at h5
    refine ⟨⟨h1, by simp, fun a ha b hb e => h5 (by rw [← hb, ← e]; exact ha)⟩, fun v hv => ?_⟩
    rcases hv with hv | rfl
    · exact h2 v hv
    · exact ⟨h3, h4⟩
theorem mayB_take {n : Int} {l : List Int} (k : Nat) (h : mayB n (l.take k) = false) : mayB n l = false := by
  cases hm : mayB n l with
  | false => rfl
  | true =>
    rw [mayB_iff] at hm
    have : mayB n (l.take k) = true := mayB_iff.2 ⟨hm.1.sublist (List.take_sublist k l), fun v hv => hm.2 v (List.mem_of_mem_take hv)⟩
    rw [this] at h; cases h

theorem may_calls {n : Int} {l : List Int} (hsz : l.length ≤ 1000000000) : PureIs Try.prog 74 [nI n, .sl (encInts l)] (nB (mayB n l)) := by
  refine vc74_ok ?_
  unfold vc74
  refine LoopP.intro (fun k : Nat => ((n, encInts l, (k : Int), ()), ())) (fun k => k ≤ l.length ∧ mayB n (l.take k) = true) (fun k => l.length - k) 0 rfl ⟨Nat.zero_le _, by simp [mayB]⟩ ?_
  intro k ⟨hk, hs⟩ again hag
  dsimp only
  rw [encInts_len]
  refine ITE.intro (fun h => ?_) fun h => ?_
  · have hlt : k < l.length := by simpa using h
    have hsn := mayB_snoc (n := n) hlt
    rw [hs, Bool.true_and] at hsn
    refine ⟨by omega, by omega, _, encInts_getD hlt, ITE.intro (fun h => ?_) fun h => ?_⟩
    · have h' : l[k] < 0 := by simpa using h
      rw [mayB_take (k + 1) (by rw [hsn]; simp; omega)]
    · have h1 : 0 ≤ l[k] := by simpa using h
      refine ⟨by omega, by omega, _, encInts_getD hlt, ITE.intro (fun h => ?_) fun h => ?_⟩
      · have h' : n ≤ l[k] := by simpa using h
        rw [mayB_take (k + 1) (by rw [hsn]; simp; omega)]
      · have h2 : l[k] < n := by simpa using h
        have hh := has_calls (l := l.take k) (i := l[k]) (by rw [List.length_take]; omega)
        have htk : List.drop (Int.toNat 0) (List.take (Int.toNat (k : Int)) (encInts l)) = encInts (l.take k) := by simp [encInts]
        refine ⟨⟨by omega, by omega, by omega, encInts_cells⟩, by omega, by omega, _, encInts_getD hlt, _, by rw [htk]; exact hh, ITE.intro (fun h => ?_) fun h => ?_⟩
        · rw [mayB_take (k + 1) (by rw [hsn, h]; simp)]
        · rw [wrap_n (by omega)]
          exact hag (k + 1) ⟨by omega, by rw [hsn, h]; simp [h1, h2]⟩ (by omega)
  · have : l.length ≤ k := by simpa using h
    rw [List.take_of_length_le this] at hs
    rw [hs]

theorem rtypes_calls {b : List Ty} {l : List Int} (hb : b.length ≤ 1000000000) (hsz : l.length ≤ 1000000000) (hm : ∀ v ∈ l, 0 ≤ v ∧ v < b.length) : PureIs Try.prog 76 [.sl (b.map Ty.enc), .sl (encInts l)] (.sl ((typesOf b l).map Ty.enc)) := by
  refine vc76_ok ⟨rfl, ?_⟩
  refine LoopP.intro (fun k : Nat => ((b.map Ty.enc, encInts l, (), (k : Int), ()), ((typesOf b (l.take k)).map Ty.enc, ()))) (fun k => k ≤ l.length) (fun k => l.length - k) 0 rfl (Nat.zero_le _) ?_
  intro k hk again hag
  dsimp only
  rw [encInts_len]
  refine ITE.intro (fun h => ?_) fun h => ?_
  · have hlt : k < l.length := by simpa using h
    have hv := hm l[k] (List.getElem_mem hlt)
    obtain ⟨v, hvn⟩ : ∃ v : Nat, l[k] = (v : Int) := ⟨l[k].toNat, by omega⟩
    have hw : IntKind.wrap .i64 (IntKind.wrap .i64 (((List.length (b.map Ty.enc) : Nat) : Int) - 1) - l[k]) = ((b.length - 1 - v : Nat) : Int) := by
      rw [List.length_map, wrap_i (n := (b.length : Int) - 1) (by omega) (by omega), wrap_i (by omega) (by omega)]; omega
    refine ⟨by omega, by omega, _, encInts_getD hlt, ?_⟩
    rw [hw]
    have hlb : b.length - 1 - v < b.length := by omega
    have hsn : typesOf b (l.take (k + 1)) = typesOf b (l.take k) ++ [b[b.length - 1 - v]] := by
      have hx : l[k].toNat = v := by omega
      rw [← take_snoc' hlt, typesOf, typesOf, List.map_append, List.map_cons, List.map_nil, hx, List.getD_eq_getElem?_getD, List.getElem?_eq_getElem hlb]; rfl
    have htl : (typesOf b (l.take k)).length ≤ l.length := by rw [typesOf, List.length_map, List.length_take]; omega
    refine ⟨by omega, by rw [List.length_map]; omega, _, _, Ty.enc_getD hlb, rfl, appOk_one rfl (by simp; omega) (by decide), rfl, ?_⟩
    rw [wrap_n (by omega), Ty.enc_snoc, ← hsn]
    exact hag (k + 1) (by omega) (by omega)
  · have : l.length ≤ k := by simpa using h
    refine ⟨rfl, ?_⟩
    rw [List.take_of_length_le this]

theorem behind_calls {a b : List Ty} (ha : a.length ≤ 1000000000) (hb : b.length ≤ 1000000000) : PureIs Try.prog 63 [.sl (a.map Ty.enc), .sl (b.map Ty.enc)] (.sl ((a ++ b).map Ty.enc)) :=
  vc63_ok ⟨appOk_nil Ty.enc_cells (by simp; omega) (by decide), rfl, appOk_nil Ty.enc_cells (by simp; omega) (by decide), rfl, by rw [List.map_append]⟩

/-! ### There and back -/

theorem tyTo_calls : ∀ (n : Nat) (t : Ty), t.size ≤ n → n ≤ 1000000000 → PureIs Try.prog 73 [t.enc] t.enc := by
  intro n
  induction n with
  | zero => intro t h; have := t.size_pos; omega
  | succ n ih =>
    intro t h hn
    have hq := Ty.sizes_len t.args
    have hts := t.size_eq
    rw [Ty.enc_eq]
    refine vc73_ok ⟨rfl, ?_⟩
    refine LoopP.intro (fun k : Nat => (((), (), (), (k : Int), ()), ((t.args.map Ty.enc, t.base, ()), ((), 0, ()), ((), t.base, ()), (t.args.take k).map Ty.enc, ())))
      (fun k => k ≤ t.args.length) (fun k => t.args.length - k) 0 rfl (Nat.zero_le _) ?_
    intro k hk again hag
    dsimp only
    rw [List.length_map]
    refine ITE.intro (fun h => ?_) fun h => ?_
    · have hlt : k < t.args.length := by simpa using h
      have hi := ih t.args[k] (by have := Ty.arg_size hlt; omega) (by omega)
      rw [Ty.enc_eq] at hi
      refine ⟨by omega, by omega, _, _, Ty.enc_getD hlt, _, _, hi, rfl, appOk_one rfl (by simp; omega) (by decide), rfl, ?_⟩
      rw [wrap_n (by omega), Ty.enc_snoc, take_snoc' hlt]
      exact hag (k + 1) (by omega) (by omega)
    · have : t.args.length ≤ k := by simpa using h
      refine ⟨rfl, ?_⟩
      rw [List.take_of_length_le this]

theorem tyOf_calls : ∀ (n : Nat) (t : Ty), t.size ≤ n → n ≤ 1000000000 → PureIs Try.prog 47 [t.enc] t.enc := by
  intro n
  induction n with
  | zero => intro t h; have := t.size_pos; omega
  | succ n ih =>
    intro t h hn
    have hq := Ty.sizes_len t.args
    have hts := t.size_eq
    rw [Ty.enc_eq]
    refine vc47_ok ⟨rfl, ?_⟩
    refine LoopP.intro (fun k : Nat => (((), (), (), (k : Int), ()), ((t.args.map Ty.enc, t.base, ()), ((), 0, ()), ((), t.base, ()), (t.args.take k).map Ty.enc, ())))
      (fun k => k ≤ t.args.length) (fun k => t.args.length - k) 0 rfl (Nat.zero_le _) ?_
    intro k hk again hag
    dsimp only
    rw [List.length_map]
    refine ITE.intro (fun h => ?_) fun h => ?_
    · have hlt : k < t.args.length := by simpa using h
      have hi := ih t.args[k] (by have := Ty.arg_size hlt; omega) (by omega)
      rw [Ty.enc_eq] at hi
      refine ⟨by omega, by omega, _, _, Ty.enc_getD hlt, _, _, hi, rfl, appOk_one rfl (by simp; omega) (by decide), rfl, ?_⟩
      rw [wrap_n (by omega), Ty.enc_snoc, take_snoc' hlt]
      exact hag (k + 1) (by omega) (by omega)
    · have : t.args.length ≤ k := by simpa using h
      refine ⟨rfl, ?_⟩
      rw [List.take_of_length_le this]

theorem tysTo_calls {l : List Ty} (h : Ty.sizes l ≤ 1000000000) : PureIs Try.prog 18 [.sl (l.map Ty.enc)] (.sl (l.map Ty.enc)) := by
  have hq := Ty.sizes_len l
  refine vc18_ok ⟨rfl, ?_⟩
  refine LoopP.intro (fun k : Nat => ((l.map Ty.enc, (), (k : Int), ()), ((l.take k).map Ty.enc, ()))) (fun k => k ≤ l.length) (fun k => l.length - k) 0 rfl (Nat.zero_le _) ?_
  intro k hk again hag
  dsimp only
  rw [List.length_map]
  refine ITE.intro (fun h => ?_) fun h => ?_
  · have hlt : k < l.length := by simpa using h
    have hi := tyTo_calls _ l[k] (Nat.le_refl _) (by have := Ty.sizes_mem (List.getElem_mem hlt); omega)
    rw [Ty.enc_eq] at hi
    refine ⟨by omega, by omega, _, _, Ty.enc_getD hlt, _, _, hi, rfl, appOk_one rfl (by simp; omega) (by decide), rfl, ?_⟩
    rw [wrap_n (by omega), Ty.enc_snoc, take_snoc' hlt]
    exact hag (k + 1) (by omega) (by omega)
  · have : l.length ≤ k := by simpa using h
    refine ⟨rfl, ?_⟩
    rw [List.take_of_length_le this]

theorem tysOf_calls {l : List Ty} (h : Ty.sizes l ≤ 1000000000) : PureIs Try.prog 78 [.sl (l.map Ty.enc)] (.sl (l.map Ty.enc)) := by
  have hq := Ty.sizes_len l
  refine vc78_ok ⟨rfl, ?_⟩
  refine LoopP.intro (fun k : Nat => ((l.map Ty.enc, (), (k : Int), ()), ((l.take k).map Ty.enc, ()))) (fun k => k ≤ l.length) (fun k => l.length - k) 0 rfl (Nat.zero_le _) ?_
  intro k hk again hag
  dsimp only
  rw [List.length_map]
  refine ITE.intro (fun h => ?_) fun h => ?_
  · have hlt : k < l.length := by simpa using h
    have hi := tyOf_calls _ l[k] (Nat.le_refl _) (by have := Ty.sizes_mem (List.getElem_mem hlt); omega)
    rw [Ty.enc_eq] at hi
    refine ⟨by omega, by omega, _, _, Ty.enc_getD hlt, _, _, hi, rfl, appOk_one rfl (by simp; omega) (by decide), rfl, ?_⟩
    rw [wrap_n (by omega), Ty.enc_snoc, take_snoc' hlt]
    exact hag (k + 1) (by omega) (by omega)
  · have : l.length ≤ k := by simpa using h
    refine ⟨rfl, ?_⟩
    rw [List.take_of_length_le this]

theorem tmTo_calls : ∀ (n : Nat) (t : Tm), t.size ≤ n → n ≤ 1000000000 → PureIs Try.prog 17 [t.enc] t.enc := by
  intro n
  induction n with
  | zero => intro t h; have := t.size_pos; omega
  | succ n ih =>
    intro t h hn
    have hq := Tm.sizes_len t.args
    have hts := t.size_eq
    rw [Tm.enc_eq]
    refine vc17_ok ⟨_, tysTo_calls (by omega), rfl, ?_⟩
    refine LoopP.intro (fun k : Nat => (((), (), (), (k : Int), ()), ((t.binds.map Ty.enc, t.kind, t.index, t.args.map Tm.enc, ()), ((), 0, 0, (), ()), (t.binds.map Ty.enc, t.kind, t.index, (), ()), (t.args.take k).map Tm.enc, ())))
      (fun k => k ≤ t.args.length) (fun k => t.args.length - k) 0 rfl (Nat.zero_le _) ?_
    intro k hk again hag
    dsimp only
    rw [List.length_map]
    refine ITE.intro (fun h => ?_) fun h => ?_
    · have hlt : k < t.args.length := by simpa using h
      have hi := ih t.args[k] (by have := Tm.arg_size hlt; omega) (by omega)
      rw [Tm.enc_eq] at hi
      refine ⟨by omega, by omega, _, _, _, _, Tm.enc_getD hlt, _, _, _, _, hi, rfl, appOk_one rfl (by simp; omega) (by decide), rfl, ?_⟩
      rw [wrap_n (by omega), Tm.enc_snoc, take_snoc' hlt]
      exact hag (k + 1) (by omega) (by omega)
    · have : t.args.length ≤ k := by simpa using h
      refine ⟨rfl, ?_⟩
      rw [List.take_of_length_le this]

theorem tmOf_calls : ∀ (n : Nat) (t : Tm), t.size ≤ n → n ≤ 1000000000 → PureIs Try.prog 21 [t.enc] t.enc := by
  intro n
  induction n with
  | zero => intro t h; have := t.size_pos; omega
  | succ n ih =>
    intro t h hn
    have hq := Tm.sizes_len t.args
    have hts := t.size_eq
    rw [Tm.enc_eq]
    refine vc21_ok ⟨_, tysOf_calls (by omega), rfl, ?_⟩
    refine LoopP.intro (fun k : Nat => (((), (), (), (k : Int), ()), ((t.binds.map Ty.enc, t.kind, t.index, t.args.map Tm.enc, ()), ((), 0, 0, (), ()), (t.binds.map Ty.enc, t.kind, t.index, (), ()), (t.args.take k).map Tm.enc, ())))
      (fun k => k ≤ t.args.length) (fun k => t.args.length - k) 0 rfl (Nat.zero_le _) ?_
    intro k hk again hag
    dsimp only
    rw [List.length_map]
    refine ITE.intro (fun h => ?_) fun h => ?_
    · have hlt : k < t.args.length := by simpa using h
      have hi := ih t.args[k] (by have := Tm.arg_size hlt; omega) (by omega)
      rw [Tm.enc_eq] at hi
      refine ⟨by omega, by omega, _, _, _, _, Tm.enc_getD hlt, _, _, _, _, hi, rfl, appOk_one rfl (by simp; omega) (by decide), rfl, ?_⟩
      rw [wrap_n (by omega), Tm.enc_snoc, take_snoc' hlt]
      exact hag (k + 1) (by omega) (by omega)
    · have : t.args.length ≤ k := by simpa using h
      refine ⟨rfl, ?_⟩
      rw [List.take_of_length_le this]

/-! ### The same? -/

theorem rsames_step {l m : List Ty} (hsz : l.length ≤ 1000000000) (hlm : l.length = m.length) (hi : ∀ (k : Nat) (h1 : k < l.length) (h2 : k < m.length), PureIs Try.prog 46 [l[k].enc, m[k].enc] (nB (Ty.same l[k] m[k]))) :
    vc77_L4 ((l.map Ty.enc, m.map Ty.enc, 0, ()), ()) (fun x => x = nB (Ty.sames l m)) := by
  refine LoopP.intro (fun k : Nat => ((l.map Ty.enc, m.map Ty.enc, (k : Int), ()), ())) (fun k => k ≤ l.length ∧ Ty.sames l m = Ty.sames (l.drop k) (m.drop k)) (fun k => l.length - k) 0 rfl ⟨Nat.zero_le _, rfl⟩ ?_
  intro k ⟨hk, hs⟩ again hag
  dsimp only
  rw [List.length_map, List.length_map]
  refine ITE.intro (fun h => ?_) fun h => ?_
  · have hlt : k < l.length := by simpa using h
    rw [Ty.sames_drop hlt (by omega)] at hs
    have hi := hi k hlt (by omega)
    rw [Ty.enc_eq, Ty.enc_eq] at hi
    refine ⟨by omega, by omega, _, _, Ty.enc_getD hlt, by omega, by omega, _, _, Ty.enc_getD (by omega), _, hi, ITE.intro (fun h => ?_) fun h => ?_⟩
    · have : Ty.same l[k] m[k] = false := by simpa using h
      rw [hs, this, Bool.false_and]
    · have he : Ty.same l[k] m[k] = true := by simpa using h
      rw [he, Bool.true_and] at hs
      rw [wrap_n (by omega)]
      exact hag (k + 1) ⟨by omega, hs⟩ (by omega)
  · have : l.length ≤ k := by simpa using h
    rw [List.drop_eq_nil_of_le this, List.drop_eq_nil_of_le (by omega)] at hs
    rw [hs]; rfl

theorem rsame_calls : ∀ (n : Nat) (t u : Ty), t.size ≤ n → n ≤ 1000000000 → PureIs Try.prog 46 [t.enc, u.enc] (nB (Ty.same t u)) := by
  intro n
  induction n with
  | zero => intro t u h; have := t.size_pos; omega
  | succ n ih =>
    intro t u h hn
    have hq := Ty.sizes_len t.args
    have hts := t.size_eq
    rw [Ty.enc_eq, Ty.enc_eq, Ty.same_eq]
    refine vc46_ok (ITE.intro (fun h => ?_) fun h => ?_)
    · have : (t.base == u.base) = false := by simpa using h
      rw [this, Bool.false_and]
    · have hb : (t.base == u.base) = true := by simpa using h
      rw [hb, Bool.true_and]
      refine ITE.intro (fun h => ?_) fun h => ?_
      · rw [Ty.sames_len (by simp at h; omega)]
      · have hlm : t.args.length = u.args.length := by simp at h; omega
        refine LoopP.intro (fun k : Nat => (((), (), (k : Int), ()), ((t.args.map Ty.enc, t.base, ()), (u.args.map Ty.enc, u.base, ()), ()))) (fun k => k ≤ t.args.length ∧ Ty.sames t.args u.args = Ty.sames (t.args.drop k) (u.args.drop k)) (fun k => t.args.length - k) 0 rfl ⟨Nat.zero_le _, rfl⟩ ?_
        intro k ⟨hk, hs⟩ again hag
        dsimp only
        rw [List.length_map, List.length_map]
        refine ITE.intro (fun h => ?_) fun h => ?_
        · have hlt : k < t.args.length := by simpa using h
          rw [Ty.sames_drop hlt (by omega)] at hs
          have hi := ih t.args[k] (u.args[k]'(by omega)) (by have := Ty.arg_size hlt; omega) (by omega)
          rw [Ty.enc_eq, Ty.enc_eq] at hi
          refine ⟨by omega, by omega, _, _, Ty.enc_getD hlt, by omega, by omega, _, _, Ty.enc_getD (by omega), _, hi, ITE.intro (fun h => ?_) fun h => ?_⟩
          · have : Ty.same t.args[k] u.args[k] = false := by simpa using h
            rw [hs, this, Bool.false_and]
          · have he : Ty.same t.args[k] u.args[k] = true := by simpa using h
            rw [he, Bool.true_and] at hs
            rw [wrap_n (by omega)]
            exact hag (k + 1) ⟨by omega, hs⟩ (by omega)
        · have : t.args.length ≤ k := by simpa using h
          rw [List.drop_eq_nil_of_le this, List.drop_eq_nil_of_le (by omega)] at hs
          rw [hs]; rfl

theorem rtypesame_calls {l m : List Ty} (hsz : Ty.sizes l ≤ 1000000000) : PureIs Try.prog 77 [.sl (l.map Ty.enc), .sl (m.map Ty.enc)] (nB (Ty.sames l m)) := by
  have hq := Ty.sizes_len l
  refine vc77_ok (ITE.intro (fun h => ?_) fun h => ?_)
  · rw [Ty.sames_len (by simp at h; omega)]
  · exact rsames_step (by omega) (by simp at h; omega) fun k h1 h2 => rsame_calls _ _ _ (Nat.le_refl _) (by have := Ty.sizes_mem (List.getElem_mem h1); omega)

mutual
def Tm.same : Tm → Tm → Bool
  | .mk b k i a, .mk b' k' i' a' => (k == k' && i == i') && (Ty.sames b b' && Tm.sames a a')
def Tm.sames : List Tm → List Tm → Bool
  | [], [] => true
  | t :: l, u :: m => Tm.same t u && Tm.sames l m
  | _, _ => false
end
theorem Tm.same_eq (t u : Tm) : Tm.same t u = ((t.kind == u.kind && t.index == u.index) && (Ty.sames t.binds u.binds && Tm.sames t.args u.args)) := by cases t; cases u; simp [Tm.same, Tm.kind, Tm.index, Tm.binds, Tm.args]
theorem Tm.sames_drop {l m : List Tm} {k : Nat} (h1 : k < l.length) (h2 : k < m.length) : Tm.sames (l.drop k) (m.drop k) = (Tm.same l[k] m[k] && Tm.sames (l.drop (k + 1)) (m.drop (k + 1))) := by
  rw [List.drop_eq_getElem_cons h1, List.drop_eq_getElem_cons h2, Tm.sames]
theorem Tm.sames_len {l m : List Tm} (h : ¬ l.length = m.length) : Tm.sames l m = false := by
  induction l generalizing m with
  | nil => cases m with
    | nil => simp at h
    | cons u m => rfl
  | cons t l ih => cases m with
    | nil => rfl
    | cons u m => rw [Tm.sames, ih (by simpa using h), Bool.and_false]
mutual
theorem Tm.same_iff : ∀ (t u : Tm), Tm.same t u = true ↔ t = u
  | .mk b k i a, .mk b' k' i' a' => by
    simp only [Tm.same, Bool.and_eq_true, beq_iff_eq, Tm.mk.injEq, Ty.sames_iff, Tm.sames_iff a a']
    constructor
    · rintro ⟨⟨h1, h2⟩, h3, h4⟩; exact ⟨h3, h1, h2, h4⟩
    · rintro ⟨h3, h1, h2, h4⟩; exact ⟨⟨h1, h2⟩, h3, h4⟩
theorem Tm.sames_iff : ∀ (l m : List Tm), Tm.sames l m = true ↔ l = m
  | [], [] => by simp [Tm.sames]
  | [], _ :: _ => by simp [Tm.sames]
  | _ :: _, [] => by simp [Tm.sames]
  | t :: l, u :: m => by simp only [Tm.sames, Bool.and_eq_true, List.cons.injEq, Tm.same_iff t u, Tm.sames_iff l m]
end
theorem Tm.same_self (t : Tm) : Tm.same t t = true := (Tm.same_iff t t).2 rfl

theorem tsame_calls : ∀ (n : Nat) (t u : Tm), t.size ≤ n → n ≤ 1000000000 → PureIs Try.prog 20 [t.enc, u.enc] (nB (Tm.same t u)) := by
  intro n
  induction n with
  | zero => intro t u h; have := t.size_pos; omega
  | succ n ih =>
    intro t u h hn
    have hq := Tm.sizes_len t.args
    have hts := t.size_eq
    have hb := rtypesame_calls (l := t.binds) (m := u.binds) (by omega)
    rw [Tm.enc_eq, Tm.enc_eq, Tm.same_eq]
    refine vc20_ok (ITE.intro (fun h => ?_) fun h => ?_)
    · have : (t.kind == u.kind && t.index == u.index) = false := by rw [Bool.not_eq_true'] at h; exact h
      rw [this, Bool.false_and]
    · have hh : (t.kind == u.kind && t.index == u.index) = true := by rw [Bool.not_eq_false'] at h; exact h
      rw [hh, Bool.true_and]
      refine ITE.intro (fun h => ?_) fun h => ?_
      · rw [Tm.sames_len (by simp at h; omega), Bool.and_false]
      · have hlm : t.args.length = u.args.length := by simp at h; omega
        refine ⟨_, hb, ITE.intro (fun h => ?_) fun h => ?_⟩
        · have : Ty.sames t.binds u.binds = false := by simpa using h
          rw [this, Bool.false_and]
        · have hbs : Ty.sames t.binds u.binds = true := by simpa using h
          rw [hbs, Bool.true_and]
          refine LoopP.intro (fun k : Nat => (((), (), (k : Int), ()), ((t.binds.map Ty.enc, t.kind, t.index, t.args.map Tm.enc, ()), (u.binds.map Ty.enc, u.kind, u.index, u.args.map Tm.enc, ()), ()))) (fun k => k ≤ t.args.length ∧ Tm.sames t.args u.args = Tm.sames (t.args.drop k) (u.args.drop k)) (fun k => t.args.length - k) 0 rfl ⟨Nat.zero_le _, rfl⟩ ?_
          intro k ⟨hk, hs⟩ again hag
          dsimp only
          rw [List.length_map, List.length_map]
          refine ITE.intro (fun h => ?_) fun h => ?_
          · have hlt : k < t.args.length := by simpa using h
            rw [Tm.sames_drop hlt (by omega)] at hs
            have hi := ih t.args[k] (u.args[k]'(by omega)) (by have := Tm.arg_size hlt; omega) (by omega)
            rw [Tm.enc_eq, Tm.enc_eq] at hi
            refine ⟨by omega, by omega, _, _, _, _, Tm.enc_getD hlt, by omega, by omega, _, _, _, _, Tm.enc_getD (by omega), _, hi, ITE.intro (fun h => ?_) fun h => ?_⟩
            · have : Tm.same t.args[k] u.args[k] = false := by simpa using h
              rw [hs, this, Bool.false_and]
            · have he : Tm.same t.args[k] u.args[k] = true := by simpa using h
              rw [he, Bool.true_and] at hs
              rw [wrap_n (by omega)]
              exact hag (k + 1) ⟨by omega, hs⟩ (by omega)
          · have : t.args.length ≤ k := by simpa using h
            rw [List.drop_eq_nil_of_le this, List.drop_eq_nil_of_le (by omega)] at hs
            rw [hs]; rfl

end Go.Proofs.Ytfbncddnakaaiaa
/- Whether types, terms and worlds are few, low and small: the laws' own bars. -/
namespace Go.Proofs.Ytfbncddnakaaiaa
open Go
set_option linter.unusedSimpArgs false
set_option linter.unusedVariables false

/-! ### Types -/

mutual
def Ty.few (most : Nat) : Nat → Ty → Nat
  | d, .mk l _ => (match d with
    | 0 => most + 1
    | d + 1 => Ty.fews most d 1 l)
def Ty.fews (most : Nat) : Nat → Nat → List Ty → Nat
  | _, n, [] => n
  | d, n, t :: l => if n ≤ most then Ty.fews most d (n + Ty.few most d t) l else n
end
theorem Ty.few_zero (most : Nat) (t : Ty) : Ty.few most 0 t = most + 1 := by cases t; rfl
theorem Ty.few_succ (most d : Nat) (t : Ty) : Ty.few most (d + 1) t = Ty.fews most d 1 t.args := by cases t; rfl
theorem Ty.fews_drop {most d n : Nat} {l : List Ty} {k : Nat} (h : k < l.length) : Ty.fews most d n (l.drop k) = if n ≤ most then Ty.fews most d (n + Ty.few most d l[k]) (l.drop (k + 1)) else n := by
  rw [List.drop_eq_getElem_cons h, Ty.fews]

theorem Ty.fews_bd {most d : Nat} (h : ∀ t : Ty, Ty.few most d t ≤ (d + 1) * (most + 1)) : ∀ (l : List Ty) (n : Nat), n ≤ (d + 2) * (most + 1) → Ty.fews most d n l ≤ (d + 2) * (most + 1)
  | [], n, hn => hn
  | t :: l, n, hn => by
    rw [Ty.fews]
    split
    · refine Ty.fews_bd h l _ ?_
      have := h t
      have e : (d + 2) * (most + 1) = (d + 1) * (most + 1) + (most + 1) := by rw [Nat.add_mul, Nat.add_mul]; omega
      omega
    · exact hn
theorem Ty.few_bd (most : Nat) : ∀ (d : Nat) (t : Ty), Ty.few most d t ≤ (d + 1) * (most + 1)
  | 0, t => by rw [Ty.few_zero]; omega
  | d + 1, t => by
    rw [Ty.few_succ]
    refine Ty.fews_bd (Ty.few_bd most d) _ _ ?_
    have : 1 * 1 ≤ (d + 2) * (most + 1) := Nat.mul_le_mul (by omega) (by omega)
    omega
theorem Ty.fews_ge (most d : Nat) : ∀ (l : List Ty) (n : Nat), n ≤ Ty.fews most d n l
  | [], n => Nat.le_refl _
  | t :: l, n => by
    rw [Ty.fews]
    split
    · exact Nat.le_trans (by omega) (Ty.fews_ge most d l _)
    · exact Nat.le_refl _
theorem Ty.few_pos (most : Nat) : ∀ (d : Nat) (t : Ty), 1 ≤ Ty.few most d t
  | 0, t => by rw [Ty.few_zero]; omega
  | d + 1, t => by rw [Ty.few_succ]; exact Ty.fews_ge _ _ _ _

/-- What is few is of that size. -/
theorem Ty.fews_size {most d : Nat} (h : ∀ t : Ty, Ty.few most d t ≤ most → t.size = Ty.few most d t) : ∀ (l : List Ty) (n : Nat), Ty.fews most d n l ≤ most → Ty.fews most d n l = n + Ty.sizes l
  | [], n, _ => rfl
  | t :: l, n, hn => by
    rw [Ty.fews] at hn ⊢
    split
    · rename_i hc
      rw [if_pos hc] at hn
      rw [Ty.fews_size h l _ hn]
      have := Ty.fews_ge most d l (n + Ty.few most d t)
      rw [Ty.sizes, h t (by omega)]; omega
    · rename_i hc
      rw [if_neg hc] at hn; omega
theorem Ty.few_size (most : Nat) : ∀ (d : Nat) (t : Ty), Ty.few most d t ≤ most → t.size = Ty.few most d t
  | 0, t, h => by rw [Ty.few_zero] at h; omega
  | d + 1, t, h => by
    rw [Ty.few_succ] at h ⊢
    rw [Ty.fews_size (Ty.few_size most d) _ _ h, t.size_eq]

theorem bd_le {d m : Nat} (hd : d ≤ 1000) (hm : m ≤ 1000) : (d + 1) * (m + 1) ≤ 1002001 := Nat.mul_le_mul (show d + 1 ≤ 1001 by omega) (show m + 1 ≤ 1001 by omega)

theorem tyfew_calls {most : Nat} (hmost : most ≤ 1000) : ∀ (d : Nat) (t : Ty), d ≤ 999 → PureIs Try.prog 112 [t.enc, nI most, nI d] (nI (Ty.few most d t : Nat)) := by
  intro d
  induction d with
  | zero =>
    intro t _
    rw [Ty.enc_eq, Ty.few_zero]
    refine vc112_ok (ITE.pos (by decide) ?_)
    rw [wrap_n (by omega)]
  | succ d ih =>
    intro t hd
    rw [Ty.enc_eq, Ty.few_succ]
    refine vc112_ok (ITE.neg (decide_eq_false (by omega)) ?_)
    refine LoopP.intro (fun p : Nat × Nat => (((most : Int), ((d + 1 : Nat) : Int), (), (p.2 : Int), (p.1 : Int), ()), ((t.args.map Ty.enc, t.base, ()), ())))
      (fun p => p.1 ≤ t.args.length ∧ p.1 + 1 ≤ p.2 ∧ p.2 ≤ (d + 2) * (most + 1) ∧ Ty.fews most d 1 t.args = Ty.fews most d p.2 (t.args.drop p.1)) (fun p => t.args.length - p.1) (0, 1) rfl
      ⟨Nat.zero_le _, Nat.le_refl _, by have : 1 * 1 ≤ (d + 2) * (most + 1) := Nat.mul_le_mul (by omega) (by omega); dsimp only; omega, rfl⟩ ?_
    intro ⟨k, n⟩ ⟨hk, hkn, hn, hs⟩ again hag
    dsimp only at hk hkn hn hs ⊢
    have hbd : (d + 2) * (most + 1) ≤ 1002001 := bd_le (d := d + 1) (m := most) (by omega) hmost
    rw [List.length_map]
    refine ITE.intro (fun h => ?_) fun h => ?_
    · have hlt : k < t.args.length := by simpa using h
      rw [Ty.fews_drop hlt] at hs
      refine ITE.intro (fun h => ?_) fun h => ?_
      · have hm : n ≤ most := by simpa using h
        rw [if_pos hm] at hs
        have hi := ih t.args[k] (by omega)
        have hb := Ty.few_bd most d t.args[k]
        have hp := Ty.few_pos most d t.args[k]
        rw [Ty.enc_eq] at hi
        refine ⟨by omega, by omega, _, _, Ty.enc_getD hlt, (Ty.few most d t.args[k] : Nat), ?_, ?_⟩
        · rw [wrap_i (n := ((d + 1 : Nat) : Int) - 1) (by omega) (by omega), show ((d + 1 : Nat) : Int) - 1 = (d : Int) from by omega]
          exact hi
        · have e : (d + 2) * (most + 1) = (d + 1) * (most + 1) + (most + 1) := by rw [Nat.add_mul, Nat.add_mul]; omega
          rw [wrap_n (by omega), wrap_i (n := (n : Int) + (Ty.few most d t.args[k] : Nat)) (by omega) (by omega), show (n : Int) + (Ty.few most d t.args[k] : Nat) = ((n + Ty.few most d t.args[k] : Nat) : Int) from by omega]
          exact hag (k + 1, n + Ty.few most d t.args[k]) ⟨by dsimp only; omega, by dsimp only; omega, by dsimp only; omega, hs⟩ (by dsimp only; omega)
      · have hm : ¬ n ≤ most := by simpa using h
        rw [if_neg hm] at hs
        rw [hs]
    · have : t.args.length ≤ k := by simpa using h
      rw [List.drop_eq_nil_of_le this] at hs
      rw [hs]; rfl

def Ty.fewB (most d : Nat) (t : Ty) : Bool := decide (Ty.few most d t ≤ most)
theorem Ty.fewB_size {most d : Nat} {t : Ty} (h : Ty.fewB most d t = true) : t.size ≤ most := by
  have h' : Ty.few most d t ≤ most := by simpa [Ty.fewB] using h
  rw [Ty.few_size most d t h']; exact h'

theorem tyFew_calls {most d : Nat} {t : Ty} (hmost : most ≤ 1000) (hd : d ≤ 999) : PureIs Try.prog 64 [t.enc, nI most, nI d] (nB (Ty.fewB most d t)) := by
  have h := tyfew_calls hmost d t hd
  rw [Ty.enc_eq] at h ⊢
  refine vc64_ok ⟨_, h, ?_⟩
  simp only [Ty.fewB, Int.ofNat_le]

theorem tysize_calls : ∀ (n : Nat) (t : Ty), t.size ≤ n → n ≤ 1000000000 → PureIs Try.prog 127 [t.enc] (nI (t.size : Nat)) := by
  intro n
  induction n with
  | zero => intro t h; have := t.size_pos; omega
  | succ n ih =>
    intro t h hn
    have hq := Ty.sizes_len t.args
    have hts := t.size_eq
    rw [Ty.enc_eq]
    refine vc127_ok ?_
    unfold vc127 vc127_L3
    refine LoopP.intro (fun k : Nat => (((), ((1 + Ty.sizes (t.args.take k) : Nat) : Int), (k : Int), ()), ((t.args.map Ty.enc, t.base, ()), ())))
      (fun k => k ≤ t.args.length) (fun k => t.args.length - k) 0 (by simp [Ty.sizes]) (Nat.zero_le _) ?_
    intro k hk again hag
    dsimp only
    rw [List.length_map]
    refine ITE.intro (fun h => ?_) fun h => ?_
    · have hlt : k < t.args.length := by simpa using h
      have hi := ih t.args[k] (by have := Ty.arg_size hlt; omega) (by omega)
      have hsn : Ty.sizes (t.args.take (k + 1)) = Ty.sizes (t.args.take k) + t.args[k].size := by
        rw [← take_snoc' hlt, Ty.sizes_append]; simp [Ty.sizes]
      have hle : Ty.sizes (t.args.take (k + 1)) ≤ Ty.sizes t.args := by
        have e := Ty.sizes_append (t.args.take (k + 1)) (t.args.drop (k + 1))
        rw [List.take_append_drop] at e; omega
      rw [Ty.enc_eq] at hi
      refine ⟨by omega, by omega, _, _, Ty.enc_getD hlt, _, hi, ?_⟩
      rw [wrap_n (by omega), wrap_i (n := ((1 + Ty.sizes (t.args.take k) : Nat) : Int) + (t.args[k].size : Nat)) (by omega) (by omega),
        show ((1 + Ty.sizes (t.args.take k) : Nat) : Int) + (t.args[k].size : Nat) = ((1 + Ty.sizes (t.args.take (k + 1)) : Nat) : Int) from by omega]
      exact hag (k + 1) (by omega) (by omega)
    · have : t.args.length ≤ k := by simpa using h
      rw [List.take_of_length_le this, ← t.size_eq]

/-! ### Terms -/

def fewBs (most d : Nat) : Nat → List Ty → Option Nat
  | n, [] => some n
  | n, t :: l => if n ≤ most then (if Ty.few most d t ≤ most then fewBs most d (n + t.size) l else none) else some n
mutual
def Tm.few (most : Nat) : Nat → Tm → Nat
  | d, .mk b _ _ a => (match d with
    | 0 => most + 1
    | d + 1 => (match fewBs most (d + 1) 1 b with
      | none => most + 1
      | some n => Tm.fews most d n a))
def Tm.fews (most : Nat) : Nat → Nat → List Tm → Nat
  | _, n, [] => n
  | d, n, t :: l => if n ≤ most then Tm.fews most d (n + Tm.few most d t) l else n
end
theorem Tm.few_zero (most : Nat) (t : Tm) : Tm.few most 0 t = most + 1 := by cases t; rfl
theorem Tm.few_succ (most d : Nat) (t : Tm) : Tm.few most (d + 1) t = (match fewBs most (d + 1) 1 t.binds with
      | none => most + 1
      | some n => Tm.fews most d n t.args) := by cases t; rfl
theorem Tm.fews_drop {most d n : Nat} {l : List Tm} {k : Nat} (h : k < l.length) : Tm.fews most d n (l.drop k) = if n ≤ most then Tm.fews most d (n + Tm.few most d l[k]) (l.drop (k + 1)) else n := by
  rw [List.drop_eq_getElem_cons h, Tm.fews]
theorem fewBs_drop {most d n : Nat} {l : List Ty} {k : Nat} (h : k < l.length) : fewBs most d n (l.drop k) = if n ≤ most then (if Ty.few most d l[k] ≤ most then fewBs most d (n + l[k].size) (l.drop (k + 1)) else none) else some n := by
  rw [List.drop_eq_getElem_cons h, fewBs]
theorem fewBs_bd {most d : Nat} : ∀ {l : List Ty} {n m : Nat}, fewBs most d n l = some m → n ≤ 2 * most + 1 → n ≤ m ∧ m ≤ 2 * most + 1 ∧ (m ≤ most → m = n + Ty.sizes l)
  | [], n, m, h, hn => by
    simp only [fewBs, Option.some.injEq] at h
    subst h
    exact ⟨Nat.le_refl _, hn, fun _ => rfl⟩
  | t :: l, n, m, h, hn => by
    rw [fewBs] at h
    split at h
    · split at h
      · rename_i h1 h2
        have hsz := Ty.few_size most d t h2
        obtain ⟨g1, g2, g3⟩ := fewBs_bd h (by omega)
        refine ⟨by omega, g2, fun hm => ?_⟩
        rw [g3 hm, Ty.sizes]; omega
      · cases h
    · rename_i h1
      obtain rfl := Option.some.inj h
      exact ⟨Nat.le_refl _, hn, fun hm => (h1 hm).elim⟩

theorem Tm.fews_bd {most d : Nat} (h : ∀ t : Tm, Tm.few most d t ≤ (d + 2) * (most + 1)) : ∀ (l : List Tm) (n : Nat), n ≤ (d + 3) * (most + 1) → Tm.fews most d n l ≤ (d + 3) * (most + 1)
  | [], n, hn => hn
  | t :: l, n, hn => by
    rw [Tm.fews]
    split
    · refine Tm.fews_bd h l _ ?_
      have := h t
      have e : (d + 3) * (most + 1) = (d + 2) * (most + 1) + (most + 1) := by rw [Nat.add_mul, Nat.add_mul]; omega
      omega
    · exact hn
theorem Tm.few_bd (most : Nat) : ∀ (d : Nat) (t : Tm), Tm.few most d t ≤ (d + 2) * (most + 1)
  | 0, t => by rw [Tm.few_zero]; omega
  | d + 1, t => by
    rw [Tm.few_succ]
    split
    · show most + 1 ≤ (d + 1 + 2) * (most + 1)
      have : 1 * (most + 1) ≤ (d + 1 + 2) * (most + 1) := Nat.mul_le_mul (by omega) (Nat.le_refl _)
      rw [Nat.one_mul] at this; exact this
    · rename_i n hn
      refine Tm.fews_bd (Tm.few_bd most d) _ _ ?_
      have := (fewBs_bd hn (by omega)).2.1
      have : 2 * (most + 1) ≤ (d + 3) * (most + 1) := Nat.mul_le_mul (by omega) (Nat.le_refl _)
      omega
theorem Tm.fews_ge (most d : Nat) : ∀ (l : List Tm) (n : Nat), n ≤ Tm.fews most d n l
  | [], n => Nat.le_refl _
  | t :: l, n => by
    rw [Tm.fews]
    split
    · exact Nat.le_trans (by omega) (Tm.fews_ge most d l _)
    · exact Nat.le_refl _
theorem Tm.few_pos (most : Nat) : ∀ (d : Nat) (t : Tm), 1 ≤ Tm.few most d t
  | 0, t => by rw [Tm.few_zero]; omega
  | d + 1, t => by
    rw [Tm.few_succ]
    split
    · show 1 ≤ most + 1
      omega
    · rename_i n hn
      exact Nat.le_trans (fewBs_bd hn (by omega)).1 (Tm.fews_ge _ _ _ _)
theorem Tm.fews_size {most d : Nat} (h : ∀ t : Tm, Tm.few most d t ≤ most → t.size = Tm.few most d t) : ∀ (l : List Tm) (n : Nat), Tm.fews most d n l ≤ most → Tm.fews most d n l = n + Tm.sizes l
  | [], n, _ => rfl
  | t :: l, n, hn => by
    rw [Tm.fews] at hn ⊢
    split
    · rename_i hc
      rw [if_pos hc] at hn
      rw [Tm.fews_size h l _ hn]
      have := Tm.fews_ge most d l (n + Tm.few most d t)
      rw [Tm.sizes, h t (by omega)]; omega
    · rename_i hc
      rw [if_neg hc] at hn; omega
theorem Tm.few_size (most : Nat) : ∀ (d : Nat) (t : Tm), Tm.few most d t ≤ most → t.size = Tm.few most d t
  | 0, t, h => by rw [Tm.few_zero] at h; omega
  | d + 1, t, h => by
    rw [Tm.few_succ] at h ⊢
    split
    · rename_i hn
      rw [hn] at h; simp only at h; omega
    · rename_i n hn
      rw [hn] at h
      simp only at h
      have h1 := Tm.fews_ge most d t.args n
      rw [Tm.fews_size (Tm.few_size most d) _ _ h, t.size_eq, (fewBs_bd hn (by omega)).2.2 (by omega)]

theorem tmfew_calls {most : Nat} (hmost : most ≤ 1000) : ∀ (d : Nat) (t : Tm), d ≤ 900 → PureIs Try.prog 111 [t.enc, nI most, nI d] (nI (Tm.few most d t : Nat)) := by
  intro d
  induction d with
  | zero =>
    intro t _
    rw [Tm.enc_eq, Tm.few_zero]
    refine vc111_ok (ITE.pos (by decide) ?_)
    rw [wrap_n (by omega)]
  | succ d ih =>
    intro t hd
    rw [Tm.enc_eq, Tm.few_succ]
    have hbd : (d + 3) * (most + 1) ≤ 1002001 := bd_le (d := d + 2) (m := most) (by omega) hmost
    have h2 : 2 * (most + 1) ≤ (d + 3) * (most + 1) := Nat.mul_le_mul (by omega) (Nat.le_refl _)
    -- the arguments
    have args : ∀ n : Nat, 1 ≤ n → n ≤ 2 * most + 1 → vc111_L11 (((most : Int), ((d + 1 : Nat) : Int), (), (n : Int), 0, ()), ((t.binds.map Ty.enc, t.kind, t.index, t.args.map Tm.enc, ()), ())) (fun x => x = nI (Tm.fews most d n t.args : Nat)) := by
      intro n hn1 hn2
      refine LoopP.intro (fun p : Nat × Nat => (((most : Int), ((d + 1 : Nat) : Int), (), (p.2 : Int), (p.1 : Int), ()), ((t.binds.map Ty.enc, t.kind, t.index, t.args.map Tm.enc, ()), ())))
        (fun p => p.1 ≤ t.args.length ∧ p.1 + 1 ≤ p.2 ∧ p.2 ≤ (d + 3) * (most + 1) ∧ Tm.fews most d n t.args = Tm.fews most d p.2 (t.args.drop p.1)) (fun p => t.args.length - p.1) (0, n) rfl
        ⟨Nat.zero_le _, by dsimp only; omega, by dsimp only; omega, rfl⟩ ?_
      intro ⟨k, m⟩ ⟨hk, hkn, hm2, hs⟩ again hag
      dsimp only at hk hkn hm2 hs ⊢
      rw [List.length_map]
      refine ITE.intro (fun h => ?_) fun h => ?_
      · have hlt : k < t.args.length := by simpa using h
        rw [Tm.fews_drop hlt] at hs
        refine ITE.intro (fun h => ?_) fun h => ?_
        · have hm : m ≤ most := by simpa using h
          rw [if_pos hm] at hs
          have hi := ih t.args[k] (by omega)
          have hb := Tm.few_bd most d t.args[k]
          have hp := Tm.few_pos most d t.args[k]
          rw [Tm.enc_eq] at hi
          refine ⟨by omega, by omega, _, _, _, _, Tm.enc_getD hlt, (Tm.few most d t.args[k] : Nat), ?_, ?_⟩
          · rw [wrap_i (n := ((d + 1 : Nat) : Int) - 1) (by omega) (by omega), show ((d + 1 : Nat) : Int) - 1 = (d : Int) from by omega]
            exact hi
          · have e : (d + 3) * (most + 1) = (d + 2) * (most + 1) + (most + 1) := by rw [Nat.add_mul, Nat.add_mul]; omega
            rw [wrap_n (by omega), wrap_i (n := (m : Int) + (Tm.few most d t.args[k] : Nat)) (by omega) (by omega), show (m : Int) + (Tm.few most d t.args[k] : Nat) = ((m + Tm.few most d t.args[k] : Nat) : Int) from by omega]
            exact hag (k + 1, m + Tm.few most d t.args[k]) ⟨by dsimp only; omega, by dsimp only; omega, by dsimp only; omega, hs⟩ (by dsimp only; omega)
        · have hm : ¬ m ≤ most := by simpa using h
          rw [if_neg hm] at hs
          rw [hs]
      · have : t.args.length ≤ k := by simpa using h
        rw [List.drop_eq_nil_of_le this] at hs
        rw [hs]; rfl
    refine vc111_ok (ITE.neg (decide_eq_false (by omega)) ?_)
    refine LoopP.intro (fun p : Nat × Nat => (((most : Int), ((d + 1 : Nat) : Int), (), (p.2 : Int), (p.1 : Int), ()), ((t.binds.map Ty.enc, t.kind, t.index, t.args.map Tm.enc, ()), ())))
      (fun p => p.1 ≤ t.binds.length ∧ p.1 + 1 ≤ p.2 ∧ p.2 ≤ 2 * most + 1 ∧ fewBs most (d + 1) 1 t.binds = fewBs most (d + 1) p.2 (t.binds.drop p.1)) (fun p => t.binds.length - p.1) (0, 1) rfl
      ⟨Nat.zero_le _, Nat.le_refl _, by dsimp only; omega, rfl⟩ ?_
    intro ⟨k, n⟩ ⟨hk, hkn, hn, hs⟩ again hag
    dsimp only at hk hkn hn hs ⊢
    rw [List.length_map]
    refine ITE.intro (fun h => ?_) fun h => ?_
    · have hlt : k < t.binds.length := by simpa using h
      rw [fewBs_drop hlt] at hs
      refine ITE.intro (fun h => ?_) fun h => ?_
      · have hm : n ≤ most := by simpa using h
        rw [if_pos hm] at hs
        have hi := tyFew_calls (most := most) (d := d + 1) (t := t.binds[k]) hmost (by omega)
        rw [Ty.enc_eq] at hi
        refine ⟨by omega, by omega, _, _, Ty.enc_getD hlt, _, hi, ITE.intro (fun h => ?_) fun h => ?_⟩
        · have hf : ¬ Ty.few most (d + 1) t.binds[k] ≤ most := by simpa [Ty.fewB] using h
          rw [if_neg hf] at hs
          rw [hs, wrap_n (by omega)]
        · have hf : Ty.few most (d + 1) t.binds[k] ≤ most := by simpa [Ty.fewB] using h
          rw [if_pos hf] at hs
          have hsz := Ty.few_size most (d + 1) _ hf
          have hz := tysize_calls _ t.binds[k] (Nat.le_refl _) (by omega)
          have hp := t.binds[k].size_pos
          rw [Ty.enc_eq] at hz
          refine ⟨by omega, by omega, _, _, Ty.enc_getD hlt, _, hz, ?_⟩
          rw [wrap_n (by omega), wrap_i (n := (n : Int) + (t.binds[k].size : Nat)) (by omega) (by omega), show (n : Int) + (t.binds[k].size : Nat) = ((n + t.binds[k].size : Nat) : Int) from by omega]
          exact hag (k + 1, n + t.binds[k].size) ⟨by dsimp only; omega, by dsimp only; omega, by dsimp only; omega, hs⟩ (by dsimp only; omega)
      · have hm : ¬ n ≤ most := by simpa using h
        rw [if_neg hm] at hs
        rw [hs]
        exact args n (by omega) (by omega)
    · have : t.binds.length ≤ k := by simpa using h
      rw [List.drop_eq_nil_of_le this] at hs
      rw [hs]
      exact args n (by omega) (by omega)

def Tm.fewB (most d : Nat) (t : Tm) : Bool := decide (Tm.few most d t ≤ most)
theorem Tm.fewB_size {most d : Nat} {t : Tm} (h : Tm.fewB most d t = true) : t.size ≤ most := by
  have h' : Tm.few most d t ≤ most := by simpa [Tm.fewB] using h
  rw [Tm.few_size most d t h']; exact h'
theorem tmFew_calls {most d : Nat} {t : Tm} (hmost : most ≤ 1000) (hd : d ≤ 900) : PureIs Try.prog 62 [t.enc, nI most, nI d] (nB (Tm.fewB most d t)) := by
  have h := tmfew_calls hmost d t hd
  rw [Tm.enc_eq] at h ⊢
  refine vc62_ok ⟨_, h, ?_⟩
  simp only [Tm.fewB, Int.ofNat_le]

theorem few_calls {l : List Tm} (hl : l.length ≤ 1000000000) : PureIs Try.prog 12 [.sl (l.map Tm.enc)] (nB (l.all (Tm.fewB 150 70))) := by
  refine vc12_ok ?_
  unfold vc12
  refine LoopP.intro (fun k : Nat => ((l.map Tm.enc, (k : Int), ()), ())) (fun k => k ≤ l.length ∧ l.all (Tm.fewB 150 70) = (l.drop k).all (Tm.fewB 150 70)) (fun k => l.length - k) 0 rfl ⟨Nat.zero_le _, rfl⟩ ?_
  intro k ⟨hk, hs⟩ again hag
  dsimp only
  rw [List.length_map]
  refine ITE.intro (fun h => ?_) fun h => ?_
  · have hlt : k < l.length := by simpa using h
    rw [List.drop_eq_getElem_cons hlt, List.all_cons] at hs
    have hi := tmFew_calls (most := 150) (d := 70) (t := l[k]) (by decide) (by decide)
    rw [Tm.enc_eq] at hi
    refine ⟨by omega, by omega, _, _, _, _, Tm.enc_getD hlt, _, hi, ITE.intro (fun h => ?_) fun h => ?_⟩
    · have : Tm.fewB 150 70 l[k] = false := by simpa using h
      rw [hs, this, Bool.false_and]
    · have : Tm.fewB 150 70 l[k] = true := by simpa using h
      rw [this, Bool.true_and] at hs
      rw [wrap_n (by omega)]
      exact hag (k + 1) ⟨by omega, hs⟩ (by omega)
  · have : l.length ≤ k := by simpa using h
    rw [List.drop_eq_nil_of_le this] at hs
    rw [hs]; rfl

/-! ### Low indexes -/

mutual
def Tm.low : Tm → Bool
  | .mk _ k i a => !(k == 0 && decide (i > 900000)) && Tm.lows a
def Tm.lows : List Tm → Bool
  | [] => true
  | t :: l => Tm.low t && Tm.lows l
end
theorem Tm.low_eq (t : Tm) : Tm.low t = (!(t.kind == 0 && decide (t.index > 900000)) && Tm.lows t.args) := by cases t; rfl
theorem Tm.lows_drop {l : List Tm} {k : Nat} (h : k < l.length) : Tm.lows (l.drop k) = (Tm.low l[k] && Tm.lows (l.drop (k + 1))) := by
  rw [List.drop_eq_getElem_cons h, Tm.lows]

theorem low_calls : ∀ (n : Nat) (l : List Tm), Tm.sizes l ≤ n → n ≤ 1000000000 → PureIs Try.prog 13 [.sl (l.map Tm.enc)] (nB (Tm.lows l)) := by
  intro n
  induction n with
  | zero =>
    intro l h hn
    cases l with
    | nil =>
      refine vc13_ok ?_
      unfold vc13
      refine LoopP.intro (fun _ : Unit => (([], 0, ()), ())) (fun _ => True) (fun _ => 0) () rfl True.intro ?_
      intro _ _ again hag
      exact ITE.neg rfl rfl
    | cons t l => have := t.size_pos; simp [Tm.sizes] at h; omega
  | succ n ih =>
    intro l h hn
    have hq := Tm.sizes_len l
    refine vc13_ok ?_
    unfold vc13
    refine LoopP.intro (fun k : Nat => ((l.map Tm.enc, (k : Int), ()), ())) (fun k => k ≤ l.length ∧ Tm.lows l = Tm.lows (l.drop k)) (fun k => l.length - k) 0 rfl ⟨Nat.zero_le _, rfl⟩ ?_
    intro k ⟨hk, hs⟩ again hag
    dsimp only
    rw [List.length_map]
    refine ITE.intro (fun h' => ?_) fun h' => ?_
    · have hlt : k < l.length := by simpa using h'
      rw [Tm.lows_drop hlt, Tm.low_eq] at hs
      have hsz := Tm.sizes_mem (List.getElem_mem hlt)
      have hi := ih l[k].args (by have := l[k].size_eq; omega) (by omega)
      have rest : (l[k].kind == 0 && decide (l[k].index > 900000)) = false → ITE (!(Tm.lows l[k].args)) (nB false = nB (Tm.lows l)) (again ((l.map Tm.enc, IntKind.wrap .i64 ((k : Int) + 1), ()), ())) := by
        intro hc
        rw [hc, Bool.not_false, Bool.true_and] at hs
        refine ITE.intro (fun h => ?_) fun h => ?_
        · have : Tm.lows l[k].args = false := by simpa using h
          rw [hs, this, Bool.false_and]
        · have : Tm.lows l[k].args = true := by simpa using h
          rw [this, Bool.true_and] at hs
          rw [wrap_n (by omega)]
          exact hag (k + 1) ⟨by omega, hs⟩ (by omega)
      refine ⟨by omega, by omega, _, _, _, _, Tm.enc_getD hlt, ITE.intro (fun h => ?_) fun h => ?_⟩
      · refine ⟨by omega, by omega, _, _, _, _, Tm.enc_getD hlt, ITE.intro (fun h2 => ?_) fun h2 => ?_⟩
        · rw [h, h2] at hs
          rw [hs]; rfl
        · exact ⟨by omega, by omega, _, _, _, _, Tm.enc_getD hlt, _, hi, rest (by rw [h, h2]; rfl)⟩
      · exact ⟨by omega, by omega, _, _, _, _, Tm.enc_getD hlt, _, hi, rest (by rw [h]; rfl)⟩
    · have : l.length ≤ k := by simpa using h'
      rw [List.drop_eq_nil_of_le this] at hs
      rw [hs]; rfl

/-! ### Small worlds -/

def smallB (c m b : List Ty) : Bool := decide (c.length ≤ 20 ∧ m.length ≤ 20 ∧ b.length ≤ 20) && (c ++ m ++ b).all (Ty.fewB 60 60)
theorem small_calls (n : Int) (c m b : List Ty) : PureIs Try.prog 14 [.agg [nI n, .sl (c.map Ty.enc), .sl (m.map Ty.enc)], .sl (b.map Ty.enc)] (nB (smallB c m b)) := by
  refine vc14_ok ?_
  unfold vc14
  rw [List.length_map, List.length_map, List.length_map]
  refine ITE.intro (fun h => ?_) fun h => ?_
  · have h' : ¬ c.length ≤ 20 := by simp at h; omega
    rw [smallB, decide_eq_false (fun x => h' x.1), Bool.false_and]
  have hc : c.length ≤ 20 := by simp at h; omega
  refine ITE.intro (fun h => ?_) fun h => ?_
  · have h' : ¬ m.length ≤ 20 := by simp at h; omega
    rw [smallB, decide_eq_false (fun x => h' x.2.1), Bool.false_and]
  have hm : m.length ≤ 20 := by simp at h; omega
  refine ITE.intro (fun h => ?_) fun h => ?_
  · have h' : ¬ b.length ≤ 20 := by simp at h; omega
    rw [smallB, decide_eq_false (fun x => h' x.2.2), Bool.false_and]
  have hb : b.length ≤ 20 := by simp at h; omega
  have hsb : smallB c m b = (c ++ m ++ b).all (Ty.fewB 60 60) := by rw [smallB, decide_eq_true ⟨hc, hm, hb⟩, Bool.true_and]
  refine ⟨_, behind_calls (by omega) (by omega), _, behind_calls (by simp; omega) (by omega), ?_⟩
  have hlen : (c ++ m ++ b).length ≤ 60 := by simp; omega
  rw [hsb]
  generalize c ++ m ++ b = l at hlen
  refine LoopP.intro (fun k : Nat => ((l.map Ty.enc, (k : Int), ()), ((n, c.map Ty.enc, m.map Ty.enc, ()), ()))) (fun k => k ≤ l.length ∧ l.all (Ty.fewB 60 60) = (l.drop k).all (Ty.fewB 60 60)) (fun k => l.length - k) 0 rfl ⟨Nat.zero_le _, rfl⟩ ?_
  intro k ⟨hk, hs⟩ again hag
  dsimp only
  rw [List.length_map]
  refine ITE.intro (fun h => ?_) fun h => ?_
  · have hlt : k < l.length := by simpa using h
    rw [List.drop_eq_getElem_cons hlt, List.all_cons] at hs
    have hi := tyFew_calls (most := 60) (d := 60) (t := l[k]) (by decide) (by decide)
    rw [Ty.enc_eq] at hi
    refine ⟨by omega, by omega, _, _, Ty.enc_getD hlt, _, hi, ITE.intro (fun h => ?_) fun h => ?_⟩
    · have : Ty.fewB 60 60 l[k] = false := by simpa using h
      rw [hs, this, Bool.false_and]
    · have : Ty.fewB 60 60 l[k] = true := by simpa using h
      rw [this, Bool.true_and] at hs
      rw [wrap_n (by omega)]
      exact hag (k + 1) ⟨by omega, hs⟩ (by omega)
  · have : l.length ≤ k := by simpa using h
    rw [List.drop_eq_nil_of_le this] at hs
    rw [hs]; rfl

end Go.Proofs.Ytfbncddnakaaiaa
