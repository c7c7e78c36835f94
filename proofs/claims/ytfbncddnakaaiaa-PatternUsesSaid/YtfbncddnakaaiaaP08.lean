/- Terms and types there and back, and how they are compared; what is in a list; the document's side. -/
import Derived.Test.YtfbncddnakaaiaaP07
import Derived.Test.YtfbncddnakaaiaaVc2
namespace Go.Proofs.Ytfbncddnakaaiaa
open Go
set_option linter.unusedSimpArgs false
set_option linter.unusedVariables false

/-! ### Lists of ints -/

theorem contains_snoc {l : List Int} {i : Int} {k : Nat} (h : k < l.length) : (l.take (k + 1)).contains i = ((l.take k).contains i || (l[k] == i)) := by
  rw [← take_snoc' h, Bool.eq_iff_iff]
  simp only [List.contains_iff_mem, Bool.or_eq_true, List.mem_append, List.mem_singleton, beq_iff_eq]
  exact or_congr Iff.rfl eq_comm

theorem has_calls {l : List Int} {i : Int} (hsz : l.length ≤ 1000000000) : PureIs Try.prog 82 [.sl (encInts l), nI i] (nB (l.contains i)) := by
  refine vc82_ok ?_
  unfold vc82
  refine LoopP.intro (fun k : Nat => ((encInts l, i, (k : Int), ()), ())) (fun k => k ≤ l.length ∧ (l.take k).contains i = false) (fun k => l.length - k) 0 rfl ⟨Nat.zero_le _, by simp⟩ ?_
  intro k ⟨hk, hs⟩ again hag
  dsimp only
  rw [encInts_len]
  refine ITE.intro (fun h => ?_) fun h => ?_
  · have hlt : k < l.length := by simpa using h
    refine ⟨by omega, by omega, _, encInts_getD hlt, ITE.intro (fun h => ?_) fun h => ?_⟩
    · have e : l[k] = i := by simpa using h
      have : l.contains i = true := by rw [List.contains_iff_mem, ← e]; exact List.getElem_mem hlt
      rw [this]
    · rw [wrap_n (by omega)]
      exact hag (k + 1) ⟨by omega, by rw [contains_snoc hlt, hs, h]; rfl⟩ (by omega)
  · have : l.length ≤ k := by simpa using h
    rw [List.take_of_length_le this] at hs
    rw [hs]

theorem mayB_snoc {n : Int} {l : List Int} {k : Nat} (h : k < l.length) : mayB n (l.take (k + 1)) = (mayB n (l.take k) && (decide (0 ≤ l[k]) && decide (l[k] < n) && !(l.take k).contains l[k])) := by
  rw [← take_snoc' h, Bool.eq_iff_iff]
  simp only [mayB, Bool.and_eq_true, decide_eq_true_eq, Bool.not_eq_true', List.nodup_append, List.mem_append, List.mem_singleton]
  constructor
  · rintro ⟨⟨h1, _, h3⟩, h4⟩
    exact ⟨⟨h1, fun v hv => h4 v (.inl hv)⟩, ⟨(h4 _ (.inr rfl)).1, (h4 _ (.inr rfl)).2⟩, by
      rw [← Bool.not_eq_true, List.contains_iff_mem]; exact fun hm => h3 _ hm _ rfl rfl⟩
  · rintro ⟨⟨h1, h2⟩, ⟨h3, h4⟩, h5⟩
    rw [← Bool.not_eq_true, List.contains_iff_mem] at h5
    refine ⟨⟨h1, by simp, fun a ha b hb e => h5 (by rw [← hb, ← e]; exact ha)⟩, fun v hv => ?_⟩
    rcases hv with hv | rfl
    · exact h2 v hv
    · exact ⟨h3, h4⟩
theorem mayB_take {n : Int} {l : List Int} (k : Nat) (h : mayB n (l.take k) = false) : mayB n l = false := by
  cases hm : mayB n l with
  | false => rfl
  | true =>
    rw [mayB_iff] at hm
    have : mayB n (l.take k) = true := mayB_iff.2 ⟨hm.1.sublist (List.take_sublist k l), fun v hv => hm.2 v (List.mem_of_mem_take hv)⟩
    rw [this] at h; cases h

theorem may_calls {n : Int} {l : List Int} (hsz : l.length ≤ 1000000000) : PureIs Try.prog 74 [nI n, .sl (encInts l)] (nB (mayB n l)) := by
  refine vc74_ok ?_
  unfold vc74
  refine LoopP.intro (fun k : Nat => ((n, encInts l, (k : Int), ()), ())) (fun k => k ≤ l.length ∧ mayB n (l.take k) = true) (fun k => l.length - k) 0 rfl ⟨Nat.zero_le _, by simp [mayB]⟩ ?_
  intro k ⟨hk, hs⟩ again hag
  dsimp only
  rw [encInts_len]
  refine ITE.intro (fun h => ?_) fun h => ?_
  · have hlt : k < l.length := by simpa using h
    have hsn := mayB_snoc (n := n) hlt
    rw [hs, Bool.true_and] at hsn
    refine ⟨by omega, by omega, _, encInts_getD hlt, ITE.intro (fun h => ?_) fun h => ?_⟩
    · have h' : l[k] < 0 := by simpa using h
      rw [mayB_take (k + 1) (by rw [hsn]; simp; omega)]
    · have h1 : 0 ≤ l[k] := by simpa using h
      refine ⟨by omega, by omega, _, encInts_getD hlt, ITE.intro (fun h => ?_) fun h => ?_⟩
      · have h' : n ≤ l[k] := by simpa using h
        rw [mayB_take (k + 1) (by rw [hsn]; simp; omega)]
      · have h2 : l[k] < n := by simpa using h
        have hh := has_calls (l := l.take k) (i := l[k]) (by rw [List.length_take]; omega)
        have htk : List.drop (Int.toNat 0) (List.take (Int.toNat (k : Int)) (encInts l)) = encInts (l.take k) := by simp [encInts]
        refine ⟨⟨by omega, by omega, by omega, encInts_cells⟩, by omega, by omega, _, encInts_getD hlt, _, by rw [htk]; exact hh, ITE.intro (fun h => ?_) fun h => ?_⟩
        · rw [mayB_take (k + 1) (by rw [hsn, h]; simp)]
        · rw [wrap_n (by omega)]
          exact hag (k + 1) ⟨by omega, by rw [hsn, h]; simp [h1, h2]⟩ (by omega)
  · have : l.length ≤ k := by simpa using h
    rw [List.take_of_length_le this] at hs
    rw [hs]

theorem rtypes_calls {b : List Ty} {l : List Int} (hb : b.length ≤ 1000000000) (hsz : l.length ≤ 1000000000) (hm : ∀ v ∈ l, 0 ≤ v ∧ v < b.length) : PureIs Try.prog 76 [.sl (b.map Ty.enc), .sl (encInts l)] (.sl ((typesOf b l).map Ty.enc)) := by
  refine vc76_ok ⟨rfl, ?_⟩
  refine LoopP.intro (fun k : Nat => ((b.map Ty.enc, encInts l, (), (k : Int), ()), ((typesOf b (l.take k)).map Ty.enc, ()))) (fun k => k ≤ l.length) (fun k => l.length - k) 0 rfl (Nat.zero_le _) ?_
  intro k hk again hag
  dsimp only
  rw [encInts_len]
  refine ITE.intro (fun h => ?_) fun h => ?_
  · have hlt : k < l.length := by simpa using h
    have hv := hm l[k] (List.getElem_mem hlt)
    obtain ⟨v, hvn⟩ : ∃ v : Nat, l[k] = (v : Int) := ⟨l[k].toNat, by omega⟩
    have hw : IntKind.wrap .i64 (IntKind.wrap .i64 (((List.length (b.map Ty.enc) : Nat) : Int) - 1) - l[k]) = ((b.length - 1 - v : Nat) : Int) := by
      rw [List.length_map, wrap_i (n := (b.length : Int) - 1) (by omega) (by omega), wrap_i (by omega) (by omega)]; omega
    refine ⟨by omega, by omega, _, encInts_getD hlt, ?_⟩
    rw [hw]
    have hlb : b.length - 1 - v < b.length := by omega
    have hsn : typesOf b (l.take (k + 1)) = typesOf b (l.take k) ++ [b[b.length - 1 - v]] := by
      have hx : l[k].toNat = v := by omega
      rw [← take_snoc' hlt, typesOf, typesOf, List.map_append, List.map_cons, List.map_nil, hx, List.getD_eq_getElem?_getD, List.getElem?_eq_getElem hlb]; rfl
    have htl : (typesOf b (l.take k)).length ≤ l.length := by rw [typesOf, List.length_map, List.length_take]; omega
    refine ⟨by omega, by rw [List.length_map]; omega, _, _, Ty.enc_getD hlb, rfl, appOk_one rfl (by simp; omega) (by decide), rfl, ?_⟩
    rw [wrap_n (by omega), Ty.enc_snoc, ← hsn]
    exact hag (k + 1) (by omega) (by omega)
  · have : l.length ≤ k := by simpa using h
    refine ⟨rfl, ?_⟩
    rw [List.take_of_length_le this]

theorem behind_calls {a b : List Ty} (ha : a.length ≤ 1000000000) (hb : b.length ≤ 1000000000) : PureIs Try.prog 63 [.sl (a.map Ty.enc), .sl (b.map Ty.enc)] (.sl ((a ++ b).map Ty.enc)) :=
  vc63_ok ⟨appOk_nil Ty.enc_cells (by simp; omega) (by decide), rfl, appOk_nil Ty.enc_cells (by simp; omega) (by decide), rfl, by rw [List.map_append]⟩

/-! ### There and back -/

theorem tyTo_calls : ∀ (n : Nat) (t : Ty), t.size ≤ n → n ≤ 1000000000 → PureIs Try.prog 73 [t.enc] t.enc := by
  intro n
  induction n with
  | zero => intro t h; have := t.size_pos; omega
  | succ n ih =>
    intro t h hn
    have hq := Ty.sizes_len t.args
    have hts := t.size_eq
    rw [Ty.enc_eq]
    refine vc73_ok ⟨rfl, ?_⟩
    refine LoopP.intro (fun k : Nat => (((), (), (), (k : Int), ()), ((t.args.map Ty.enc, t.base, ()), ((), 0, ()), ((), t.base, ()), (t.args.take k).map Ty.enc, ())))
      (fun k => k ≤ t.args.length) (fun k => t.args.length - k) 0 rfl (Nat.zero_le _) ?_
    intro k hk again hag
    dsimp only
    rw [List.length_map]
    refine ITE.intro (fun h => ?_) fun h => ?_
    · have hlt : k < t.args.length := by simpa using h
      have hi := ih t.args[k] (by have := Ty.arg_size hlt; omega) (by omega)
      rw [Ty.enc_eq] at hi
      refine ⟨by omega, by omega, _, _, Ty.enc_getD hlt, _, _, hi, rfl, appOk_one rfl (by simp; omega) (by decide), rfl, ?_⟩
      rw [wrap_n (by omega), Ty.enc_snoc, take_snoc' hlt]
      exact hag (k + 1) (by omega) (by omega)
    · have : t.args.length ≤ k := by simpa using h
      refine ⟨rfl, ?_⟩
      rw [List.take_of_length_le this]

theorem tyOf_calls : ∀ (n : Nat) (t : Ty), t.size ≤ n → n ≤ 1000000000 → PureIs Try.prog 47 [t.enc] t.enc := by
  intro n
  induction n with
  | zero => intro t h; have := t.size_pos; omega
  | succ n ih =>
    intro t h hn
    have hq := Ty.sizes_len t.args
    have hts := t.size_eq
    rw [Ty.enc_eq]
    refine vc47_ok ⟨rfl, ?_⟩
    refine LoopP.intro (fun k : Nat => (((), (), (), (k : Int), ()), ((t.args.map Ty.enc, t.base, ()), ((), 0, ()), ((), t.base, ()), (t.args.take k).map Ty.enc, ())))
      (fun k => k ≤ t.args.length) (fun k => t.args.length - k) 0 rfl (Nat.zero_le _) ?_
    intro k hk again hag
    dsimp only
    rw [List.length_map]
    refine ITE.intro (fun h => ?_) fun h => ?_
    · have hlt : k < t.args.length := by simpa using h
      have hi := ih t.args[k] (by have := Ty.arg_size hlt; omega) (by omega)
      rw [Ty.enc_eq] at hi
      refine ⟨by omega, by omega, _, _, Ty.enc_getD hlt, _, _, hi, rfl, appOk_one rfl (by simp; omega) (by decide), rfl, ?_⟩
      rw [wrap_n (by omega), Ty.enc_snoc, take_snoc' hlt]
      exact hag (k + 1) (by omega) (by omega)
    · have : t.args.length ≤ k := by simpa using h
      refine ⟨rfl, ?_⟩
      rw [List.take_of_length_le this]

theorem tysTo_calls {l : List Ty} (h : Ty.sizes l ≤ 1000000000) : PureIs Try.prog 18 [.sl (l.map Ty.enc)] (.sl (l.map Ty.enc)) := by
  have hq := Ty.sizes_len l
  refine vc18_ok ⟨rfl, ?_⟩
  refine LoopP.intro (fun k : Nat => ((l.map Ty.enc, (), (k : Int), ()), ((l.take k).map Ty.enc, ()))) (fun k => k ≤ l.length) (fun k => l.length - k) 0 rfl (Nat.zero_le _) ?_
  intro k hk again hag
  dsimp only
  rw [List.length_map]
  refine ITE.intro (fun h => ?_) fun h => ?_
  · have hlt : k < l.length := by simpa using h
    have hi := tyTo_calls _ l[k] (Nat.le_refl _) (by have := Ty.sizes_mem (List.getElem_mem hlt); omega)
    rw [Ty.enc_eq] at hi
    refine ⟨by omega, by omega, _, _, Ty.enc_getD hlt, _, _, hi, rfl, appOk_one rfl (by simp; omega) (by decide), rfl, ?_⟩
    rw [wrap_n (by omega), Ty.enc_snoc, take_snoc' hlt]
    exact hag (k + 1) (by omega) (by omega)
  · have : l.length ≤ k := by simpa using h
    refine ⟨rfl, ?_⟩
    rw [List.take_of_length_le this]

theorem tysOf_calls {l : List Ty} (h : Ty.sizes l ≤ 1000000000) : PureIs Try.prog 78 [.sl (l.map Ty.enc)] (.sl (l.map Ty.enc)) := by
  have hq := Ty.sizes_len l
  refine vc78_ok ⟨rfl, ?_⟩
  refine LoopP.intro (fun k : Nat => ((l.map Ty.enc, (), (k : Int), ()), ((l.take k).map Ty.enc, ()))) (fun k => k ≤ l.length) (fun k => l.length - k) 0 rfl (Nat.zero_le _) ?_
  intro k hk again hag
  dsimp only
  rw [List.length_map]
  refine ITE.intro (fun h => ?_) fun h => ?_
  · have hlt : k < l.length := by simpa using h
    have hi := tyOf_calls _ l[k] (Nat.le_refl _) (by have := Ty.sizes_mem (List.getElem_mem hlt); omega)
    rw [Ty.enc_eq] at hi
    refine ⟨by omega, by omega, _, _, Ty.enc_getD hlt, _, _, hi, rfl, appOk_one rfl (by simp; omega) (by decide), rfl, ?_⟩
    rw [wrap_n (by omega), Ty.enc_snoc, take_snoc' hlt]
    exact hag (k + 1) (by omega) (by omega)
  · have : l.length ≤ k := by simpa using h
    refine ⟨rfl, ?_⟩
    rw [List.take_of_length_le this]

theorem tmTo_calls : ∀ (n : Nat) (t : Tm), t.size ≤ n → n ≤ 1000000000 → PureIs Try.prog 17 [t.enc] t.enc := by
  intro n
  induction n with
  | zero => intro t h; have := t.size_pos; omega
  | succ n ih =>
    intro t h hn
    have hq := Tm.sizes_len t.args
    have hts := t.size_eq
    rw [Tm.enc_eq]
    refine vc17_ok ⟨_, tysTo_calls (by omega), rfl, ?_⟩
    refine LoopP.intro (fun k : Nat => (((), (), (), (k : Int), ()), ((t.binds.map Ty.enc, t.kind, t.index, t.args.map Tm.enc, ()), ((), 0, 0, (), ()), (t.binds.map Ty.enc, t.kind, t.index, (), ()), (t.args.take k).map Tm.enc, ())))
      (fun k => k ≤ t.args.length) (fun k => t.args.length - k) 0 rfl (Nat.zero_le _) ?_
    intro k hk again hag
    dsimp only
    rw [List.length_map]
    refine ITE.intro (fun h => ?_) fun h => ?_
    · have hlt : k < t.args.length := by simpa using h
      have hi := ih t.args[k] (by have := Tm.arg_size hlt; omega) (by omega)
      rw [Tm.enc_eq] at hi
      refine ⟨by omega, by omega, _, _, _, _, Tm.enc_getD hlt, _, _, _, _, hi, rfl, appOk_one rfl (by simp; omega) (by decide), rfl, ?_⟩
      rw [wrap_n (by omega), Tm.enc_snoc, take_snoc' hlt]
      exact hag (k + 1) (by omega) (by omega)
    · have : t.args.length ≤ k := by simpa using h
      refine ⟨rfl, ?_⟩
      rw [List.take_of_length_le this]

theorem tmOf_calls : ∀ (n : Nat) (t : Tm), t.size ≤ n → n ≤ 1000000000 → PureIs Try.prog 21 [t.enc] t.enc := by
  intro n
  induction n with
  | zero => intro t h; have := t.size_pos; omega
  | succ n ih =>
    intro t h hn
    have hq := Tm.sizes_len t.args
    have hts := t.size_eq
    rw [Tm.enc_eq]
    refine vc21_ok ⟨_, tysOf_calls (by omega), rfl, ?_⟩
    refine LoopP.intro (fun k : Nat => (((), (), (), (k : Int), ()), ((t.binds.map Ty.enc, t.kind, t.index, t.args.map Tm.enc, ()), ((), 0, 0, (), ()), (t.binds.map Ty.enc, t.kind, t.index, (), ()), (t.args.take k).map Tm.enc, ())))
      (fun k => k ≤ t.args.length) (fun k => t.args.length - k) 0 rfl (Nat.zero_le _) ?_
    intro k hk again hag
    dsimp only
    rw [List.length_map]
    refine ITE.intro (fun h => ?_) fun h => ?_
    · have hlt : k < t.args.length := by simpa using h
      have hi := ih t.args[k] (by have := Tm.arg_size hlt; omega) (by omega)
      rw [Tm.enc_eq] at hi
      refine ⟨by omega, by omega, _, _, _, _, Tm.enc_getD hlt, _, _, _, _, hi, rfl, appOk_one rfl (by simp; omega) (by decide), rfl, ?_⟩
      rw [wrap_n (by omega), Tm.enc_snoc, take_snoc' hlt]
      exact hag (k + 1) (by omega) (by omega)
    · have : t.args.length ≤ k := by simpa using h
      refine ⟨rfl, ?_⟩
      rw [List.take_of_length_le this]

/-! ### The same? -/

theorem rsames_step {l m : List Ty} (hsz : l.length ≤ 1000000000) (hlm : l.length = m.length) (hi : ∀ (k : Nat) (h1 : k < l.length) (h2 : k < m.length), PureIs Try.prog 46 [l[k].enc, m[k].enc] (nB (Ty.same l[k] m[k]))) :
    vc77_L4 ((l.map Ty.enc, m.map Ty.enc, 0, ()), ()) (fun x => x = nB (Ty.sames l m)) := by
  refine LoopP.intro (fun k : Nat => ((l.map Ty.enc, m.map Ty.enc, (k : Int), ()), ())) (fun k => k ≤ l.length ∧ Ty.sames l m = Ty.sames (l.drop k) (m.drop k)) (fun k => l.length - k) 0 rfl ⟨Nat.zero_le _, rfl⟩ ?_
  intro k ⟨hk, hs⟩ again hag
  dsimp only
  rw [List.length_map, List.length_map]
  refine ITE.intro (fun h => ?_) fun h => ?_
  · have hlt : k < l.length := by simpa using h
    rw [Ty.sames_drop hlt (by omega)] at hs
    have hi := hi k hlt (by omega)
    rw [Ty.enc_eq, Ty.enc_eq] at hi
    refine ⟨by omega, by omega, _, _, Ty.enc_getD hlt, by omega, by omega, _, _, Ty.enc_getD (by omega), _, hi, ITE.intro (fun h => ?_) fun h => ?_⟩
    · have : Ty.same l[k] m[k] = false := by simpa using h
      rw [hs, this, Bool.false_and]
    · have he : Ty.same l[k] m[k] = true := by simpa using h
      rw [he, Bool.true_and] at hs
      rw [wrap_n (by omega)]
      exact hag (k + 1) ⟨by omega, hs⟩ (by omega)
  · have : l.length ≤ k := by simpa using h
    rw [List.drop_eq_nil_of_le this, List.drop_eq_nil_of_le (by omega)] at hs
    rw [hs]; rfl

theorem rsame_calls : ∀ (n : Nat) (t u : Ty), t.size ≤ n → n ≤ 1000000000 → PureIs Try.prog 46 [t.enc, u.enc] (nB (Ty.same t u)) := by
  intro n
  induction n with
  | zero => intro t u h; have := t.size_pos; omega
  | succ n ih =>
    intro t u h hn
    have hq := Ty.sizes_len t.args
    have hts := t.size_eq
    rw [Ty.enc_eq, Ty.enc_eq, Ty.same_eq]
    refine vc46_ok (ITE.intro (fun h => ?_) fun h => ?_)
    · have : (t.base == u.base) = false := by simpa using h
      rw [this, Bool.false_and]
    · have hb : (t.base == u.base) = true := by simpa using h
      rw [hb, Bool.true_and]
      refine ITE.intro (fun h => ?_) fun h => ?_
      · rw [Ty.sames_len (by simp at h; omega)]
      · have hlm : t.args.length = u.args.length := by simp at h; omega
        refine LoopP.intro (fun k : Nat => (((), (), (k : Int), ()), ((t.args.map Ty.enc, t.base, ()), (u.args.map Ty.enc, u.base, ()), ()))) (fun k => k ≤ t.args.length ∧ Ty.sames t.args u.args = Ty.sames (t.args.drop k) (u.args.drop k)) (fun k => t.args.length - k) 0 rfl ⟨Nat.zero_le _, rfl⟩ ?_
        intro k ⟨hk, hs⟩ again hag
        dsimp only
        rw [List.length_map, List.length_map]
        refine ITE.intro (fun h => ?_) fun h => ?_
        · have hlt : k < t.args.length := by simpa using h
          rw [Ty.sames_drop hlt (by omega)] at hs
          have hi := ih t.args[k] (u.args[k]'(by omega)) (by have := Ty.arg_size hlt; omega) (by omega)
          rw [Ty.enc_eq, Ty.enc_eq] at hi
          refine ⟨by omega, by omega, _, _, Ty.enc_getD hlt, by omega, by omega, _, _, Ty.enc_getD (by omega), _, hi, ITE.intro (fun h => ?_) fun h => ?_⟩
          · have : Ty.same t.args[k] u.args[k] = false := by simpa using h
            rw [hs, this, Bool.false_and]
          · have he : Ty.same t.args[k] u.args[k] = true := by simpa using h
            rw [he, Bool.true_and] at hs
            rw [wrap_n (by omega)]
            exact hag (k + 1) ⟨by omega, hs⟩ (by omega)
        · have : t.args.length ≤ k := by simpa using h
          rw [List.drop_eq_nil_of_le this, List.drop_eq_nil_of_le (by omega)] at hs
          rw [hs]; rfl

theorem rtypesame_calls {l m : List Ty} (hsz : Ty.sizes l ≤ 1000000000) : PureIs Try.prog 77 [.sl (l.map Ty.enc), .sl (m.map Ty.enc)] (nB (Ty.sames l m)) := by
  have hq := Ty.sizes_len l
  refine vc77_ok (ITE.intro (fun h => ?_) fun h => ?_)
  · rw [Ty.sames_len (by simp at h; omega)]
  · exact rsames_step (by omega) (by simp at h; omega) fun k h1 h2 => rsame_calls _ _ _ (Nat.le_refl _) (by have := Ty.sizes_mem (List.getElem_mem h1); omega)

mutual
def Tm.same : Tm → Tm → Bool
  | .mk b k i a, .mk b' k' i' a' => (k == k' && i == i') && (Ty.sames b b' && Tm.sames a a')
def Tm.sames : List Tm → List Tm → Bool
  | [], [] => true
  | t :: l, u :: m => Tm.same t u && Tm.sames l m
  | _, _ => false
end
theorem Tm.same_eq (t u : Tm) : Tm.same t u = ((t.kind == u.kind && t.index == u.index) && (Ty.sames t.binds u.binds && Tm.sames t.args u.args)) := by cases t; cases u; simp [Tm.same, Tm.kind, Tm.index, Tm.binds, Tm.args]
theorem Tm.sames_drop {l m : List Tm} {k : Nat} (h1 : k < l.length) (h2 : k < m.length) : Tm.sames (l.drop k) (m.drop k) = (Tm.same l[k] m[k] && Tm.sames (l.drop (k + 1)) (m.drop (k + 1))) := by
  rw [List.drop_eq_getElem_cons h1, List.drop_eq_getElem_cons h2, Tm.sames]
theorem Tm.sames_len {l m : List Tm} (h : ¬ l.length = m.length) : Tm.sames l m = false := by
  induction l generalizing m with
  | nil => cases m with
    | nil => simp at h
    | cons u m => rfl
  | cons t l ih => cases m with
    | nil => rfl
    | cons u m => rw [Tm.sames, ih (by simpa using h), Bool.and_false]
mutual
theorem Tm.same_iff : ∀ (t u : Tm), Tm.same t u = true ↔ t = u
  | .mk b k i a, .mk b' k' i' a' => by
    simp only [Tm.same, Bool.and_eq_true, beq_iff_eq, Tm.mk.injEq, Ty.sames_iff, Tm.sames_iff a a']
    constructor
    · rintro ⟨⟨h1, h2⟩, h3, h4⟩; exact ⟨h3, h1, h2, h4⟩
    · rintro ⟨h3, h1, h2, h4⟩; exact ⟨⟨h1, h2⟩, h3, h4⟩
theorem Tm.sames_iff : ∀ (l m : List Tm), Tm.sames l m = true ↔ l = m
  | [], [] => by simp [Tm.sames]
  | [], _ :: _ => by simp [Tm.sames]
  | _ :: _, [] => by simp [Tm.sames]
  | t :: l, u :: m => by simp only [Tm.sames, Bool.and_eq_true, List.cons.injEq, Tm.same_iff t u, Tm.sames_iff l m]
end
theorem Tm.same_self (t : Tm) : Tm.same t t = true := (Tm.same_iff t t).2 rfl

theorem tsame_calls : ∀ (n : Nat) (t u : Tm), t.size ≤ n → n ≤ 1000000000 → PureIs Try.prog 20 [t.enc, u.enc] (nB (Tm.same t u)) := by
  intro n
  induction n with
  | zero => intro t u h; have := t.size_pos; omega
  | succ n ih =>
    intro t u h hn
    have hq := Tm.sizes_len t.args
    have hts := t.size_eq
    have hb := rtypesame_calls (l := t.binds) (m := u.binds) (by omega)
    rw [Tm.enc_eq, Tm.enc_eq, Tm.same_eq]
    refine vc20_ok (ITE.intro (fun h => ?_) fun h => ?_)
    · have : (t.kind == u.kind && t.index == u.index) = false := by rw [Bool.not_eq_true'] at h; exact h
      rw [this, Bool.false_and]
    · have hh : (t.kind == u.kind && t.index == u.index) = true := by rw [Bool.not_eq_false'] at h; exact h
      rw [hh, Bool.true_and]
      refine ITE.intro (fun h => ?_) fun h => ?_
      · rw [Tm.sames_len (by simp at h; omega), Bool.and_false]
      · have hlm : t.args.length = u.args.length := by simp at h; omega
        refine ⟨_, hb, ITE.intro (fun h => ?_) fun h => ?_⟩
        · have : Ty.sames t.binds u.binds = false := by simpa using h
          rw [this, Bool.false_and]
        · have hbs : Ty.sames t.binds u.binds = true := by simpa using h
          rw [hbs, Bool.true_and]
          refine LoopP.intro (fun k : Nat => (((), (), (k : Int), ()), ((t.binds.map Ty.enc, t.kind, t.index, t.args.map Tm.enc, ()), (u.binds.map Ty.enc, u.kind, u.index, u.args.map Tm.enc, ()), ()))) (fun k => k ≤ t.args.length ∧ Tm.sames t.args u.args = Tm.sames (t.args.drop k) (u.args.drop k)) (fun k => t.args.length - k) 0 rfl ⟨Nat.zero_le _, rfl⟩ ?_
          intro k ⟨hk, hs⟩ again hag
          dsimp only
          rw [List.length_map, List.length_map]
          refine ITE.intro (fun h => ?_) fun h => ?_
          · have hlt : k < t.args.length := by simpa using h
            rw [Tm.sames_drop hlt (by omega)] at hs
            have hi := ih t.args[k] (u.args[k]'(by omega)) (by have := Tm.arg_size hlt; omega) (by omega)
            rw [Tm.enc_eq, Tm.enc_eq] at hi
            refine ⟨by omega, by omega, _, _, _, _, Tm.enc_getD hlt, by omega, by omega, _, _, _, _, Tm.enc_getD (by omega), _, hi, ITE.intro (fun h => ?_) fun h => ?_⟩
            · have : Tm.same t.args[k] u.args[k] = false := by simpa using h
              rw [hs, this, Bool.false_and]
            · have he : Tm.same t.args[k] u.args[k] = true := by simpa using h
              rw [he, Bool.true_and] at hs
              rw [wrap_n (by omega)]
              exact hag (k + 1) ⟨by omega, hs⟩ (by omega)
          · have : t.args.length ≤ k := by simpa using h
            rw [List.drop_eq_nil_of_le this, List.drop_eq_nil_of_le (by omega)] at hs
            rw [hs]; rfl

end Go.Proofs.Ytfbncddnakaaiaa
