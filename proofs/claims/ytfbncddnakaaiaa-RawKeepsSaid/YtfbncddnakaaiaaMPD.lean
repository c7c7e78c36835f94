/- Texts of ours laid together for a claim: P21 P22 P23 P24 P25 P26 P27. -/
import Derived.Test.YtfbncddnakaaiaaMPC
import Derived.Test.YtfbncddnakaaiaaMVc5
/- How far beyond it a raw term points; RawParts. -/
namespace Go.Proofs.Ytfbncddnakaaiaa
open Go
set_option linter.unusedSimpArgs false
set_option linter.unusedVariables false

def looseI (d : Nat) (i : Int) : Nat := if i < d then 0 else if i - d > 1000 then 1001 else (i - d + 1).toNat
mutual
def Rw.loose (d : Nat) : Rw → Nat
  | .mk k _ i l => if k = 0 then looseI d i else Rw.looses (if k = 3 then d + 1 else d) 0 l
def Rw.looses (d : Nat) : Nat → List Rw → Nat
  | n, [] => n
  | n, t :: l => Rw.looses d (if Rw.loose d t > n then Rw.loose d t else n) l
end
theorem Rw.loose_eq (d : Nat) (t : Rw) : t.loose d = if t.kind = 0 then looseI d t.index else Rw.looses (if t.kind = 3 then d + 1 else d) 0 t.kids := by cases t; rw [Rw.loose]; rfl
theorem Rw.looses_drop {d n : Nat} {l : List Rw} {k : Nat} (h : k < l.length) : Rw.looses d n (l.drop k) = Rw.looses d (if Rw.loose d l[k] > n then Rw.loose d l[k] else n) (l.drop (k + 1)) := by
  rw [List.drop_eq_getElem_cons h, Rw.looses]
theorem Rw.looses_from (d : Nat) : ∀ (l : List Rw) (n : Nat), Rw.looses d n l = if Rw.looses d 0 l > n then Rw.looses d 0 l else n
  | [], n => by simp [Rw.looses]
  | t :: l, n => by
    rw [Rw.looses, Rw.looses, Rw.looses_from d l (if Rw.loose d t > n then _ else _), Rw.looses_from d l (if Rw.loose d t > 0 then _ else _)]
    generalize Rw.loose d t = a
    generalize Rw.looses d 0 l = b
    repeat' split
    all_goals first | rfl | omega
theorem looseI_le (d : Nat) (i : Int) : looseI d i ≤ 1001 := by unfold looseI; split <;> (try split) <;> omega
mutual
theorem Rw.loose_le : ∀ (t : Rw) (d : Nat), t.loose d ≤ 1001
  | .mk k t i l, d => by
    rw [Rw.loose]
    split
    · exact looseI_le _ _
    · exact Rw.looses_le l _ 0 (by omega)
theorem Rw.looses_le : ∀ (l : List Rw) (d n : Nat), n ≤ 1001 → Rw.looses d n l ≤ 1001
  | [], d, n, h => h
  | t :: l, d, n, h => by
    rw [Rw.looses]
    have := Rw.loose_le t d
    refine Rw.looses_le l d _ ?_
    split <;> omega
end

/-! ### The document's -/

theorem rloose_calls : ∀ (n : Nat) (t : Rw) (d : Nat), t.total ≤ n → n ≤ 500000000 → t.Ok → d + n ≤ 1000000000 → PureIs Try.prog 55 [t.enc, nI d] (nI (t.loose d : Nat)) := by
  intro n
  induction n with
  | zero => intro t d h; have := t.total_pos; omega
  | succ n ih =>
    intro t d h hn hok hd
    obtain ⟨_, hi, hks⟩ := Rw.ok_eq hok
    have hq := Rw.totals_len t.kids
    have hts := t.total_eq
    have hlo := Rw.loose_eq d t
    unfold I64 at hi
    have loop : ∀ d2 : Nat, d2 = (if t.kind = 3 then d + 1 else d) → t.loose d = Rw.looses d2 0 t.kids → vc55_L12 (((d2 : Int), (), 0, 0, ()), ((t.kind, t.type.args.map Ty.enc, t.type.base, t.index, t.kids.map Rw.enc, ()), ())) (fun x => x = nI (t.loose d : Nat)) := by
      intro d2 hd2 hl
      have hd3 : d2 ≤ d + 1 := by rw [hd2]; split <;> omega
      refine LoopP.intro (fun p : Nat × Nat => (((d2 : Int), (), (p.2 : Int), (p.1 : Int), ()), ((t.kind, t.type.args.map Ty.enc, t.type.base, t.index, t.kids.map Rw.enc, ()), ())))
        (fun p => p.1 ≤ t.kids.length ∧ t.loose d = Rw.looses d2 p.2 (t.kids.drop p.1)) (fun p => t.kids.length - p.1) (0, 0) rfl ⟨Nat.zero_le _, hl⟩ ?_
      intro ⟨k, m⟩ ⟨hk, hs⟩ again hag
      dsimp only at hk hs ⊢
      rw [List.length_map]
      refine ITE.intro (fun h => ?_) fun h => ?_
      · have hlt : k < t.kids.length := by simpa using h
        have hi := ih t.kids[k] d2 (by have := Rw.kid_total hlt; omega) (by omega) (Rw.Oks_mem hks (List.getElem_mem hlt)) (by omega)
        rw [Rw.enc_eq] at hi
        rw [Rw.looses_drop hlt] at hs
        refine ⟨by omega, by omega, _, _, _, _, _, Rw.enc_getD hlt, _, hi, ITE.intro (fun h => ?_) fun h => ?_⟩
        · have hg : Rw.loose d2 t.kids[k] > m := by have := of_decide_eq_true h; omega
          rw [if_pos hg] at hs
          rw [wrap_n (by omega)]
          exact hag (k + 1, _) ⟨by dsimp only; omega, hs⟩ (by dsimp only; omega)
        · have hg : ¬ Rw.loose d2 t.kids[k] > m := by have := of_decide_eq_false h; omega
          rw [if_neg hg] at hs
          rw [wrap_n (by omega)]
          exact hag (k + 1, m) ⟨by dsimp only; omega, hs⟩ (by dsimp only; omega)
      · have : t.kids.length ≤ k := by simpa using h
        rw [List.drop_eq_nil_of_le this] at hs
        rw [hs]; rfl
    rw [Rw.enc_eq]
    refine vc55_ok (ITE.intro (fun h0 => ?_) fun h0 => ?_)
    · have e0 : t.kind = 0 := by simpa using h0
      rw [hlo, if_pos e0]
      refine ITE.intro (fun h => ?_) fun h => ?_
      · have hg : t.index < d := of_decide_eq_true h
        rw [looseI, if_pos hg]; rfl
      · have hg : ¬ t.index < d := of_decide_eq_false h
        rw [wrap_i (n := t.index - d) (by omega) (by omega)]
        refine ITE.intro (fun h => ?_) fun h => ?_
        · have hg2 : t.index - d > 1000 := of_decide_eq_true h
          rw [looseI, if_neg hg, if_pos hg2]; rfl
        · have hg2 : ¬ t.index - d > 1000 := of_decide_eq_false h
          rw [looseI, if_neg hg, if_neg hg2, wrap_i (by omega) (by omega), show (((t.index - d + 1).toNat : Nat) : Int) = t.index - d + 1 from by omega]
    · have e0 : ¬ t.kind = 0 := by simpa using h0
      rw [if_neg e0] at hlo
      refine ITE.intro (fun h3 => ?_) fun h3 => ?_
      · have e3 : t.kind = 3 := by simpa using h3
        rw [wrap_n (by omega)]
        exact loop (d + 1) (by rw [if_pos e3]) (by rw [hlo, if_pos e3])
      · have e3 : ¬ t.kind = 3 := by simpa using h3
        exact loop d (by rw [if_neg e3]) (by rw [hlo, if_neg e3])

/-! ### The program's -/

def upL (m n : Nat) : Nat := if n > m then n else m
abbrev looseB (r : Rw) (m : Nat) : List AObj := [.box [nI r.kind, .sl (r.type.args.map Ty.enc), nI r.type.base, nI r.index, .sl (r.kids.map Rw.enc)], .box [nI m]]

theorem loose1_calls {r x : Rw} {m d : Nat} (hi : I64 x.index) (h : (d : Int) ≤ x.index) : HFn Try.prog 101 [.agg [nI x.kind, .sl (x.type.args.map Ty.enc), nI x.type.base, nI x.index, .sl (x.kids.map Rw.enc)], nI d, .ptr 1 0] (looseB r m)
    (fun y hp => y = x.enc ∧ hp = looseB r (upL m (looseI d x.index))) := by
  unfold I64 at hi
  refine vc101_ok ?_
  refine ⟨(Rw.enc_eq x).symm, ?_⟩
  have e : IntKind.wrap .i64 ((if 1000 < IntKind.wrap .i64 (x.index - d) then 1000 else IntKind.wrap .i64 (x.index - d)) + 1) = (looseI d x.index : Nat) := by
    have hl : looseI d x.index = if x.index - d > 1000 then 1001 else (x.index - d + 1).toNat := by rw [looseI, if_neg (by omega)]
    rw [wrap_i (n := x.index - d) (by omega) (by omega), hl]
    by_cases hg : x.index - d > 1000
    · rw [if_pos (by omega), if_pos hg]; rfl
    · rw [if_neg (by omega), if_neg hg, wrap_i (by omega) (by omega)]; omega
  rw [e, upL]
  by_cases hg : looseI d x.index > m
  · rw [if_pos hg, if_pos (by omega)]
  · rw [if_neg hg, if_neg (by omega)]

theorem turnedL_calls {r : Rw} : ∀ (n : Nat) (t : Rw) (d m : Nat), t.total ≤ n → n ≤ 400000000 → t.Ok → d + n ≤ 1000000000 → m ≤ 1001 →
    HFn Try.prog 100 [.agg [nI t.kind, .sl (t.type.args.map Ty.enc), nI t.type.base, nI t.index, .sl (t.kids.map Rw.enc)], nI d, .clo 101 [.ptr 1 0]] (looseB r m) (fun y hp => (∃ u : Rw, y = u.enc) ∧ hp = looseB r (upL m (t.loose d))) := by
  intro n
  induction n with
  | zero => intro t d m h; have := t.total_pos; omega
  | succ n ih =>
    intro t d m h hn hok hd hm
    obtain ⟨_, hi, hks⟩ := Rw.ok_eq hok
    have hq := Rw.totals_len t.kids
    have hts := t.total_eq
    have hlo := Rw.loose_eq d t
    have loop : ∀ d2 : Nat, d2 = (if t.kind = 3 then d + 1 else d) → t.loose d = Rw.looses d2 0 t.kids → vc_turnedL_L9 (((d2 : Int), ((), ()), (), (), t.kids.map Rw.enc, ((List.length (t.kids.map Rw.enc) : Nat) : Int), 0, ()), ((r.kind, r.type.args.map Ty.enc, r.type.base, r.index, r.kids.map Rw.enc, ()), ((m : Int), ()), (t.kind, t.type.args.map Ty.enc, t.type.base, t.index, t.kids.map Rw.enc, ()), (0, (), 0, 0, (), ()), (t.kind, t.type.args.map Ty.enc, t.type.base, t.index, (), ()), [], ()))
        (fun y hp => (∃ u : Rw, y = u.enc) ∧ hp = looseB r (upL m (t.loose d))) := by
      intro d2 hd2 hl
      have hd3 : d2 ≤ d + 1 := by rw [hd2]; split <;> omega
      have hl2 : upL m (t.loose d) = Rw.looses d2 m t.kids := by rw [Rw.looses_from, upL, hl]
      rw [hl2]
      refine LoopP.intro (fun p : Nat × Nat × List Rw => (((d2 : Int), ((), ()), (), (), t.kids.map Rw.enc, (t.kids.length : Int), (p.1 : Int), ()), ((r.kind, r.type.args.map Ty.enc, r.type.base, r.index, r.kids.map Rw.enc, ()), ((p.2.1 : Int), ()), (t.kind, t.type.args.map Ty.enc, t.type.base, t.index, t.kids.map Rw.enc, ()), (0, (), 0, 0, (), ()), (t.kind, t.type.args.map Ty.enc, t.type.base, t.index, (), ()), p.2.2.map Rw.enc, ())))
        (fun p => p.1 ≤ t.kids.length ∧ p.2.2.length = p.1 ∧ p.2.1 ≤ 1001 ∧ Rw.looses d2 m t.kids = Rw.looses d2 p.2.1 (t.kids.drop p.1)) (fun p => t.kids.length - p.1) (0, m, []) (by rw [List.length_map]; rfl) ⟨Nat.zero_le _, rfl, hm, rfl⟩ ?_
      intro ⟨k, j, us⟩ ⟨hk, hu, hj, hs⟩ again hag
      dsimp only at hk hu hj hs ⊢
      refine ITE.intro (fun h => ?_) fun h => ?_
      · have hlt : k < t.kids.length := by simpa using h
        have hi := ih t.kids[k] d2 j (by have := Rw.kid_total hlt; omega) (by omega) (Rw.Oks_mem hks (List.getElem_mem hlt)) (by omega) hj
        rw [Rw.looses_drop hlt] at hs
        have key : vc_turnedL_L11 t.kids[k].kind (t.kids[k].type.args.map Ty.enc) t.kids[k].type.base t.kids[k].index (t.kids[k].kids.map Rw.enc) (((d2 : Int), ((), ()), (), (), t.kids.map Rw.enc, (t.kids.length : Int), (k : Int), ()), ((r.kind, r.type.args.map Ty.enc, r.type.base, r.index, r.kids.map Rw.enc, ()), ((j : Int), ()), (t.kind, t.type.args.map Ty.enc, t.type.base, t.index, t.kids.map Rw.enc, ()), (0, (), 0, 0, (), ()), (t.kind, t.type.args.map Ty.enc, t.type.base, t.index, (), ()), us.map Rw.enc, ())) again := by
          refine ⟨_, hi, fun y hp hy => ?_⟩
          obtain ⟨⟨u, rfl⟩, rfl⟩ := hy
          refine ⟨_, _, _, _, _, _, _, _, _, _, _, ⟨Rw.enc_eq u, rfl⟩, rfl, appOk_one rfl (by simp; omega) (by decide), rfl, ?_⟩
          dsimp only
          rw [wrap_n (by omega), Rw.enc_snoc]
          refine hag (k + 1, upL j (Rw.loose d2 t.kids[k]), us ++ [u]) ⟨by dsimp only; omega, by simp [hu], ?_, hs⟩ (by dsimp only; omega)
          have := Rw.loose_le t.kids[k] d2
          dsimp only [upL]; split <;> omega
        exact ⟨by omega, by rw [List.length_map]; omega, _, _, _, _, _, Rw.enc_getD hlt, ⟨key, key⟩, key⟩
      · have : t.kids.length ≤ k := by simpa using h
        rw [List.drop_eq_nil_of_le this] at hs
        refine ⟨rfl, ⟨.mk t.kind t.type t.index us, (Rw.enc_mk _ _ _ _).symm⟩, ?_⟩
        rw [hs]; rfl
    refine vc_turnedL_ok (ITE.intro (fun h0 => ?_) fun h0 => ?_)
    · have e0 : t.kind = 0 := by simpa using h0
      rw [if_pos e0] at hlo
      refine ITE.intro (fun h => ?_) fun h => ?_
      · have hg : t.index ≥ d := of_decide_eq_true h
        refine ⟨_, loose1_calls (r := r) (m := m) hi (by omega), fun y hp hy => ?_⟩
        obtain ⟨rfl, rfl⟩ := hy
        refine ⟨_, _, _, _, _, _, _, _, _, _, _, ⟨Rw.enc_eq t, rfl⟩, ⟨t, (Rw.enc_eq t).symm⟩, ?_⟩
        rw [hlo]
      · have hg : ¬ t.index ≥ d := of_decide_eq_false h
        refine ⟨_, _, _, _, _, Head_calls _ _, ⟨headRw 0 t.index, (headRw_enc _ _).symm⟩, ?_⟩
        rw [hlo, looseI, if_pos (by omega), upL, if_neg (by omega)]
    · have e0 : ¬ t.kind = 0 := by simpa using h0
      rw [if_neg e0] at hlo
      refine ⟨_, _, arrow_nil (by omega), ITE.intro (fun h3 => ?_) fun h3 => ?_⟩
      · have e3 : t.kind = 3 := by simpa using h3
        rw [wrap_n (by omega)]
        exact ⟨rfl, loop (d + 1) (by rw [if_pos e3]) (by rw [hlo, if_pos e3])⟩
      · have e3 : ¬ t.kind = 3 := by simpa using h3
        exact ⟨rfl, loop d (by rw [if_neg e3]) (by rw [hlo, if_neg e3])⟩

theorem Loose_calls {t : Rw} (h : t.total ≤ 400000000) (hok : t.Ok) : PureIs Try.prog 54 [t.enc] (nI (t.loose 0 : Nat)) := by
  rw [Rw.enc_eq]
  refine vc54_ok ⟨_, turnedL_calls (r := t) _ t 0 0 (Nat.le_refl _) (by omega) hok (by omega) (by omega), fun y hp hy => ?_⟩
  obtain ⟨⟨u, rfl⟩, rfl⟩ := hy
  refine ⟨_, _, _, _, _, _, _, _, _, _, _, ⟨Rw.enc_eq u, rfl⟩, ?_⟩
  rw [upL]
  split
  · rfl
  · rw [show Rw.loose 0 t = 0 from by omega]

/-! ### A raw term's parts -/

theorem rwfew2 {a b : Rw} (h : ([a, b].all (Rw.fewB 300 70)) = true) : a.total ≤ 300 ∧ b.total ≤ 300 := by
  rw [List.all_cons, List.all_cons, Bool.and_eq_true, Bool.and_eq_true] at h
  exact ⟨Rw.fewB_total h.1, Rw.fewB_total h.2.1⟩

theorem RawParts_calls {a b : Rw} (ha : a.Ok) : PureIs Try.prog 10 [a.enc, b.enc] (nB true) := by
  have hea := Rw.enc_eq a
  have heb := Rw.enc_eq b
  have hfew := rwFews_calls (l := [a, b]) (by simp)
  rw [List.map_cons, List.map_cons, List.map_nil, hea, heb] at hfew
  rw [hea, heb]
  refine vc10_ok ⟨_, hfew, ITE.intro (fun h => ⟨_, known07_calls, rfl⟩) fun h => ?_⟩
  obtain ⟨h1, h2⟩ := rwfew2 (by simpa using h)
  have hta := rwTo_calls _ a (Nat.le_refl _) (by omega)
  have htb := rwTo_calls _ b (Nat.le_refl _) (by omega)
  have r1 := right_calls (t := a) (by omega)
  have r2 := rright_calls (t := a) (by omega)
  have s1 := rwsize_calls _ a (Nat.le_refl _) (by omega)
  have s2 := rrsize_calls _ a (Nat.le_refl _) (by omega)
  have l1 := Loose_calls (t := a) (by omega) ha
  have l2 := rloose_calls _ a 0 (Nat.le_refl _) (by omega) ha (by omega)
  have e1 := rwequal_calls _ a b (Nat.le_refl _) (by omega)
  have e2 := rwsame_calls _ a b (Nat.le_refl _) (by omega) (by omega)
  have e3 := rwequal_calls _ a a (Nat.le_refl _) (by omega)
  have o := rwOf_calls _ a (Nat.le_refl _) (by omega)
  have e4 := rwsame_calls _ a a (Nat.le_refl _) (by omega) (by omega)
  rw [Rw.same_refl] at e3 e4
  rw [hea] at hta r1 r2 s1 s2 l1 l2 e1 e2 e3 o e4
  rw [heb] at htb e1 e2
  have key : vc10_L3 a.kind (a.type.args.map Ty.enc) a.type.base a.index (a.kids.map Rw.enc) a.kind (a.type.args.map Ty.enc) a.type.base a.index (a.kids.map Rw.enc) b.kind (b.type.args.map Ty.enc) b.type.base b.index (b.kids.map Rw.enc) b.kind (b.type.args.map Ty.enc) b.type.base b.index (b.kids.map Rw.enc) (fun x => x = nB true) :=
    ⟨_, known07_calls, ITE.pos rfl ⟨_, r1, _, r2, ITE.pos (by simp) ⟨_, s1, _, s2, ITE.pos (by simp) ⟨_, l1, _, l2, ITE.pos (by simp) ⟨_, e1, _, e2, ITE.pos (by simp) ⟨_, e3, ITE.pos rfl ⟨_, _, _, _, _, o, _, e4, rfl⟩⟩⟩⟩⟩⟩⟩
  exact ⟨_, _, _, _, _, hta, _, _, _, _, _, htb, key, key⟩

end Go.Proofs.Ytfbncddnakaaiaa
/- Long terms as raw ones, the program's and the document's; they have no step. -/
namespace Go.Proofs.Ytfbncddnakaaiaa
open Go
set_option linter.unusedSimpArgs false
set_option linter.unusedVariables false

mutual
def Tm.raw : Tm → Rw
  | .mk b k i l => ((headRw k i).call (Tm.raws l)).bind b
def Tm.raws : List Tm → List Rw
  | [] => []
  | t :: l => Tm.raw t :: Tm.raws l
end
theorem Tm.raws_eq (l : List Tm) : Tm.raws l = l.map Tm.raw := by
  induction l with
  | nil => rfl
  | cons t l ih => rw [Tm.raws, ih]; rfl
theorem Tm.raw_eq (t : Tm) : t.raw = ((headRw t.kind t.index).call (t.args.map Tm.raw)).bind t.binds := by cases t; rw [Tm.raw, Tm.raws_eq]; rfl
mutual
theorem Tm.raw_total : ∀ (t : Tm), t.raw.total + 2 ≤ 4 * t.size
  | .mk b k i l => by
    have h := Tm.raws_total l
    have hb := Ty.sizes_len b
    rw [Tm.raw, bind_total, call_total, Tm.size]
    have hl : (Tm.raws l).length = l.length := by rw [Tm.raws_eq, List.length_map]
    simp only [Rw.total, Rw.totals, Ty.size, Ty.sizes]; omega
theorem Tm.raws_total : ∀ (l : List Tm), Rw.totals (Tm.raws l) + 2 * l.length ≤ 4 * Tm.sizes l
  | [] => Nat.le_refl _
  | t :: l => by
    have := Tm.raw_total t
    have := Tm.raws_total l
    simp only [Tm.raws, Rw.totals, Tm.sizes, List.length_cons]; omega
end
theorem Rw.call_ok : ∀ (l : List Rw) (r : Rw), r.Ok → Rw.Oks l → (r.call l).Ok
  | [], r, h, _ => h
  | a :: l, r, h, hl => Rw.call_ok l _ ⟨⟨by decide, by decide⟩, ⟨by decide, by decide⟩, h, hl.1, True.intro⟩ hl.2
theorem Rw.bind_ok : ∀ (l : List Ty) (r : Rw), r.Ok → (r.bind l).Ok
  | [], r, h => h
  | t :: l, r, h => ⟨⟨by decide, by decide⟩, ⟨by decide, by decide⟩, Rw.bind_ok l r h, True.intro⟩
mutual
theorem Tm.raw_ok : ∀ (t : Tm), t.Ok → t.raw.Ok
  | .mk b k i l, h => by
    rw [Tm.raw]
    exact Rw.bind_ok _ _ (Rw.call_ok _ _ ⟨h.1, h.2.1, True.intro⟩ (Tm.raws_ok l h.2.2))
theorem Tm.raws_ok : ∀ (l : List Tm), Tm.Oks l → Rw.Oks (Tm.raws l)
  | [], _ => True.intro
  | t :: l, h => ⟨Tm.raw_ok t h.1, Tm.raws_ok l h.2⟩
end

theorem from_calls : ∀ (n : Nat) (t : Tm), t.size ≤ n → n ≤ 100000000 → PureIs Try.prog 57 [t.enc] t.raw.enc := by
  intro n
  induction n with
  | zero => intro t h; have := t.size_pos; omega
  | succ n ih =>
    intro t h hn
    have hq := Tm.sizes_len t.args
    have hts := t.size_eq
    rw [Tm.enc_eq]
    refine vc57_ok ⟨_, _, _, _, _, Head_calls _ _, rfl, ?_⟩
    refine LoopP.intro (fun j : Nat => (((), (), (), (), t.args.map Tm.enc, (t.args.length : Int), (j : Int), ()), ((t.binds.map Ty.enc, t.kind, t.index, t.args.map Tm.enc, ()), (0, (), 0, 0, (), ()), (t.kind, [], 0, t.index, [], ()), ((t.args.take j).map Tm.raw).map Rw.enc, ())))
      (fun j => j ≤ t.args.length) (fun j => t.args.length - j) 0 (by rw [List.length_map]; rfl) (Nat.zero_le _) ?_
    intro j hj again hag
    dsimp only
    rw [List.length_map]
    refine ITE.intro (fun h => ?_) fun h => ?_
    · have hlt : j < t.args.length := by simpa using h
      have hi := ih t.args[j] (by have := Tm.arg_size hlt; omega) (by omega)
      rw [Tm.enc_eq, Rw.enc_eq] at hi
      refine ⟨by omega, by omega, _, _, _, _, Tm.enc_getD hlt, _, _, _, _, _, hi, rfl, appOk_one rfl (by simp; omega) (by decide), rfl, ?_⟩
      have := hag (j + 1) (by omega) (by omega)
      rw [← take_snoc' hlt, List.map_append, List.map_singleton, ← Rw.enc_snoc] at this
      rw [wrap_n (by omega)]
      exact this
    · have hle : t.args.length ≤ j := by simpa using h
      rw [List.take_of_length_le hle]
      have ht := Tm.raw_total t
      have hrt := Tm.raw_eq t
      have ha := Tm.raws_total t.args
      rw [Tm.raws_eq] at ha
      have hbt := bind_total ((headRw t.kind t.index).call (t.args.map Tm.raw)) t.binds
      rw [← hrt] at hbt
      have hq2 := Ty.sizes_len t.binds
      have hc := call_calls (r := headRw t.kind t.index) (l := t.args.map Tm.raw) (Rw.fit_of _ (by simp [Rw.total, Rw.totals, Ty.size, Ty.sizes])) (Rw.fits_of _ (by omega)) (by rw [List.length_map]; omega)
      have hb := bind_calls (r := (headRw t.kind t.index).call (t.args.map Tm.raw)) (l := t.binds) (Rw.fit_of _ (by omega)) (fun u hu => by have := Ty.sizes_mem hu; omega) (by omega)
      rw [headRw_enc, Rw.enc_eq] at hc
      rw [← hrt, Rw.enc_eq, Rw.enc_eq t.raw] at hb
      refine ⟨rfl, _, _, _, _, _, hc, _, _, _, _, _, hb, ?_⟩
      rw [Rw.enc_eq t.raw]

theorem call_type : ∀ (l : List Rw) (r : Rw), r.type = noT → (r.call l).type = noT
  | [], r, h => h
  | a :: l, r, h => call_type l (.mk 4 noT 0 [r, a]) rfl

theorem two_rw' (c a : Rw) (h : c.type = noT) : [AV.agg [nI c.kind, .sl [], nI c.type.base, nI c.index, .sl (c.kids.map Rw.enc)], AV.agg [nI a.kind, .sl (a.type.args.map Ty.enc), nI a.type.base, nI a.index, .sl (a.kids.map Rw.enc)]] = [c, a].map Rw.enc := by
  have e : c.type.args.map Ty.enc = [] := by rw [h]; rfl
  have := two_rw c a
  rw [e] at this
  exact this

theorem rfrom_calls : ∀ (n : Nat) (t : Tm), t.size ≤ n → n ≤ 100000000 → PureIs Try.prog 58 [t.enc] t.raw.enc := by
  intro n
  induction n with
  | zero => intro t h; have := t.size_pos; omega
  | succ n ih =>
    intro t h hn
    have hq := Tm.sizes_len t.args
    have hq2 := Ty.sizes_len t.binds
    have hts := t.size_eq
    have hty : ∀ l, ((headRw t.kind t.index).call l).type = noT := fun l => call_type l _ rfl
    rw [Tm.enc_eq]
    refine vc58_ok ?_
    unfold vc58
    refine LoopP.intro (fun j : Nat => (((), (), (), (j : Int), ()), ((t.binds.map Ty.enc, t.kind, t.index, t.args.map Tm.enc, ()), (0, (), 0, 0, (), ()),
      (((headRw t.kind t.index).call ((t.args.take j).map Tm.raw)).kind, (), ((headRw t.kind t.index).call ((t.args.take j).map Tm.raw)).type.base, ((headRw t.kind t.index).call ((t.args.take j).map Tm.raw)).index, ((headRw t.kind t.index).call ((t.args.take j).map Tm.raw)).kids.map Rw.enc, ()), ())))
      (fun j => j ≤ t.args.length) (fun j => t.args.length - j) 0 rfl (Nat.zero_le _) ?_
    intro j hj again hag
    dsimp only
    rw [List.length_map]
    refine ITE.intro (fun h => ?_) fun h => ?_
    · have hlt : j < t.args.length := by simpa using h
      have hi := ih t.args[j] (by have := Tm.arg_size hlt; omega) (by omega)
      rw [Tm.enc_eq, Rw.enc_eq] at hi
      refine ⟨by omega, by omega, _, _, _, _, Tm.enc_getD hlt, _, _, _, _, _, hi, ?_⟩
      have := hag (j + 1) (by omega) (by omega)
      have hlt2 : j < (t.args.map Tm.raw).length := by rw [List.length_map]; exact hlt
      rw [List.map_take, call_snoc hlt2, List.getElem_map, ← List.map_take] at this
      rw [wrap_n (by omega), two_rw' _ _ (hty _)]
      exact this
    have hle : t.args.length ≤ j := by simpa using h
    rw [List.take_of_length_le hle]
    have hc := hty (t.args.map Tm.raw)
    have hrt := Tm.raw_eq t
    generalize (headRw t.kind t.index).call (t.args.map Tm.raw) = c at hc hrt
    refine LoopP.intro (fun j : Nat => (((), (), (), (j : Int) - 1, ()), ((t.binds.map Ty.enc, t.kind, t.index, t.args.map Tm.enc, ()), (0, (), 0, 0, (), ()), ((c.bind (t.binds.drop j)).kind, (c.bind (t.binds.drop j)).type.args.map Ty.enc, (c.bind (t.binds.drop j)).type.base, (c.bind (t.binds.drop j)).index, (c.bind (t.binds.drop j)).kids.map Rw.enc, ()), ())))
      (fun j => j ≤ t.binds.length) (fun j => j) t.binds.length ?_ (Nat.le_refl _) ?_
    · rw [List.length_map, wrap_i (by omega) (by omega), List.drop_length]
      have e : c.type.args.map Ty.enc = [] := by rw [hc]; rfl
      show _ = (((), (), (), _, ()), _, _, (c.kind, c.type.args.map Ty.enc, c.type.base, c.index, c.kids.map Rw.enc, ()), ())
      rw [e]
    intro j hj again hag
    dsimp only
    refine ITE.intro (fun h => ?_) fun h => ?_
    · have h' : (j : Int) - 1 ≥ 0 := of_decide_eq_true h
      obtain ⟨g, rfl⟩ : ∃ g, j = g + 1 := ⟨j - 1, by omega⟩
      have hlt : g < t.binds.length := by omega
      have e : ((g + 1 : Nat) : Int) - 1 = (g : Int) := by omega
      rw [e]
      refine ⟨by omega, by rw [List.length_map]; omega, _, _, Ty.enc_getD hlt, ?_⟩
      rw [wrap_i (n := (g : Int) - 1) (by omega) (by omega), one_rw]
      have := hag g (by omega) (by omega)
      rw [bind_drop hlt] at this
      exact this
    · have h' : ¬ (j : Int) - 1 ≥ 0 := of_decide_eq_false h
      have : j = 0 := by omega
      subst this
      rw [List.drop_zero, ← hrt, Rw.enc_eq t.raw]

/-! ### No step -/

mutual
def Rw.still : Rw → Bool
  | .mk k t i l => !(Rw.redex (.mk k t i l)) && Rw.stills l
def Rw.stills : List Rw → Bool
  | [] => true
  | t :: l => Rw.still t && Rw.stills l
end
theorem Rw.still_eq (r : Rw) : r.still = (!r.redex && Rw.stills r.kids) := by cases r; rfl
theorem Rw.stills_mem {l : List Rw} (h : Rw.stills l = true) {t : Rw} (ht : t ∈ l) : t.still = true := by
  induction l with
  | nil => cases ht
  | cons u l ih =>
    rw [Rw.stills, Bool.and_eq_true] at h
    rcases List.mem_cons.1 ht with rfl | h3
    · exact h.1
    · exact ih h.2 h3

theorem stepN_calls : ∀ (n : Nat) (r : Rw), r.total ≤ n → n ≤ 500000000 → r.still = true → PureIs Try.prog 95 [r.enc] (encRB r false) := by
  intro n
  induction n with
  | zero => intro t h; have := t.total_pos; omega
  | succ n ih =>
    intro r h hn hs
    have hq := Rw.totals_len r.kids
    have hts := r.total_eq
    rw [Rw.still_eq, Bool.and_eq_true] at hs
    have hre := redex_calls r
    have h0 : r.redex = false := by simpa using hs.1
    rw [h0, Rw.enc_eq] at hre
    rw [Rw.enc_eq]
    refine vc_stepN_ok ⟨hre, ?_⟩
    refine LoopP.intro (fun k : Nat => (((), (), r.kids.map Rw.enc, (r.kids.length : Int), (k : Int), ()), ((r.kind, r.type.args.map Ty.enc, r.type.base, r.index, r.kids.map Rw.enc, ()), (0, (), 0, 0, (), ()), ())))
      (fun k => k ≤ r.kids.length) (fun k => r.kids.length - k) 0 (by rw [List.length_map]; rfl) (Nat.zero_le _) ?_
    intro k hk again hag
    dsimp only
    rw [List.length_map]
    refine ITE.intro (fun h => ?_) fun h => ?_
    · have hlt : k < r.kids.length := by simpa using h
      have hi := ih r.kids[k] (by have := Rw.kid_total hlt; omega) (by omega) (Rw.stills_mem hs.2 (List.getElem_mem hlt))
      rw [Rw.enc_eq] at hi
      refine ⟨by omega, by omega, _, _, _, _, _, Rw.enc_getD hlt, _, _, _, _, _, hi, ?_⟩
      rw [wrap_n (by omega)]
      exact hag (k + 1) (by omega) (by omega)
    · rfl

theorem bind_still : ∀ (l : List Ty) (r : Rw), r.still = true → (r.bind l).still = true
  | [], r, h => h
  | t :: l, r, h => by
    have := bind_still l r h
    show Rw.still (.mk 3 t 0 [r.bind l]) = true
    rw [Rw.still, Rw.stills, Rw.stills, this]; rfl
theorem call_still : ∀ (l : List Rw) (r : Rw), r.still = true → (r.kind == 3 && r.kids.length == 1) = false → Rw.stills l = true → (r.call l).still = true
  | [], r, h, _, _ => h
  | a :: l, r, h, h2, hl => by
    rw [Rw.stills, Bool.and_eq_true] at hl
    refine call_still l (.mk 4 noT 0 [r, a]) ?_ (by rfl) hl.2
    rw [Rw.still, Rw.stills, Rw.stills, Rw.stills, h, hl.1]
    simp only [Rw.redex, h2]; rfl
mutual
theorem Tm.raw_still : ∀ (t : Tm), t.raw.still = true
  | .mk b k i l => by
    rw [Tm.raw]
    refine bind_still _ _ (call_still _ _ ?_ ?_ (Tm.raws_still l))
    · rfl
    · simp [Rw.kids]
theorem Tm.raws_still : ∀ (l : List Tm), Rw.stills (Tm.raws l) = true
  | [] => rfl
  | t :: l => by rw [Tm.raws, Rw.stills, Tm.raw_still t, Tm.raws_still l]; rfl
end

end Go.Proofs.Ytfbncddnakaaiaa
/- A term's type; whether it is of one; whether a term and a world are right. -/
namespace Go.Proofs.Ytfbncddnakaaiaa
open Go
set_option linter.unusedSimpArgs false
set_option linter.unusedVariables false

theorem within_calls {x l : List Ty} (h : x.length + l.length ≤ 1000000000) : PureIs Try.prog 105 [.sl (x.map Ty.enc), .sl (l.map Ty.enc)] (.sl ((x ++ l).map Ty.enc)) := by
  have hc := concat_calls (ll := [x, l]) (by simp) (by simp; omega)
  simp only [encRows, List.map_cons, List.map_nil, List.flatten_cons, List.flatten_nil, List.append_nil] at hc
  exact vc105_ok ⟨_, hc, rfl⟩

theorem ofKind_calls {b : Int} {l : List Ty} (h : Ty.sizes l ≤ 500000000) : PureIs Try.prog 89 [nI b, .sl (l.map Ty.enc)] (.agg [.sl (l.map Ty.enc), nI b]) := by
  have hc := copied_calls _ (.mk l b) (Nat.le_refl _) (by simp only [Ty.size]; omega)
  rw [Ty.enc_mk] at hc
  exact vc89_ok ⟨_, _, hc, rfl⟩

/-! ### A term's type -/

def Tm.typ (c m x : List Ty) (t : Tm) : Ty × Int := match headTy c m (x ++ t.binds) t.kind t.index with
  | some h => (.mk t.binds h.base, 0)
  | none => (noT, 10)

theorem typeOf_calls {b : Int} {c m x : List Ty} {t : Tm} (hok : t.Ok) (hx : x.length + t.size ≤ 500000000) : PureIs Try.prog 59 [.agg [nI b, .sl (c.map Ty.enc), .sl (m.map Ty.enc)], .sl (x.map Ty.enc), .agg [.sl (t.binds.map Ty.enc), nI t.kind, nI t.index, .sl (t.args.map Tm.enc)]] (encTE (t.typ c m x)) := by
  have hts := t.size_eq
  have hq := Ty.sizes_len t.binds
  have hi : I64 t.index := by cases t; exact hok.2.1
  have hh := headType_calls (b := b) (c := c) (m := m) (x := x ++ t.binds) (k := t.kind) hi (by rw [List.length_append]; omega)
  refine vc59_ok ⟨_, within_calls (by omega), ?_⟩
  rw [Tm.typ]
  cases ht : headTy c m (x ++ t.binds) t.kind t.index with
  | none =>
    rw [ht] at hh
    exact ⟨_, _, _, hh, ITE.pos rfl rfl⟩
  | some u =>
    rw [ht] at hh
    exact ⟨_, _, _, hh, ITE.neg rfl ⟨_, _, ofKind_calls (by omega), rfl⟩⟩

/-! ### Is a term of a type? -/

mutual
def Tm.isB (c m x : List Ty) : Tm → Ty → Bool
  | .mk b k i l, of => Ty.sames b of.args && (match headTy c m (x ++ b) k i with
    | some h => (h.base == of.base) && ((h.args.length == l.length) && Tm.isBs c m (x ++ b) l h.args)
    | none => false)
def Tm.isBs (c m x : List Ty) : List Tm → List Ty → Bool
  | t :: l, u :: us => Tm.isB c m x t u && Tm.isBs c m x l us
  | _, _ => true
end
theorem Tm.isB_eq (c m x : List Ty) (t : Tm) (of : Ty) : t.isB c m x of = (Ty.sames t.binds of.args && (match headTy c m (x ++ t.binds) t.kind t.index with
    | some h => (h.base == of.base) && ((h.args.length == t.args.length) && Tm.isBs c m (x ++ t.binds) t.args h.args)
    | none => false)) := by cases t; rw [Tm.isB]; rfl
theorem Tm.isBs_drop {c m x : List Ty} {l : List Tm} {us : List Ty} {k : Nat} (h1 : k < l.length) (h2 : k < us.length) : Tm.isBs c m x (l.drop k) (us.drop k) = (Tm.isB c m x l[k] us[k] && Tm.isBs c m x (l.drop (k + 1)) (us.drop (k + 1))) := by
  rw [List.drop_eq_getElem_cons h1, List.drop_eq_getElem_cons h2, Tm.isBs]

theorem is_calls {b : Int} {c m : List Ty} (hc : ∀ t ∈ c, t.size ≤ 100000) (hm : ∀ t ∈ m, t.size ≤ 100000) : ∀ (n : Nat) (t : Tm) (of : Ty) (x : List Ty), t.size ≤ n → t.Ok → (∀ u ∈ x, u.size ≤ 100000) → x.length + t.size ≤ 100000 → of.size ≤ 100000 →
    PureIs Try.prog 107 [.agg [nI b, .sl (c.map Ty.enc), .sl (m.map Ty.enc)], .sl (x.map Ty.enc), .agg [.sl (t.binds.map Ty.enc), nI t.kind, nI t.index, .sl (t.args.map Tm.enc)], .agg [.sl (of.args.map Ty.enc), nI of.base]] (nB (t.isB c m x of)) := by
  intro n
  induction n with
  | zero => intro t of x h; have := t.size_pos; omega
  | succ n ih =>
    intro t of x h hok hx hn hof
    have hts := t.size_eq
    have hq := Ty.sizes_len t.binds
    have hq2 := Tm.sizes_len t.args
    have hi : I64 t.index := by cases t; exact hok.2.1
    have hks : Tm.Oks t.args := by cases t; exact hok.2.2
    have heq := equals_calls (l := t.binds) (m := of.args) (by omega) (fun k h1 h2 => equal_calls _ _ _ (Nat.le_refl _) (by have := Ty.sizes_mem (List.getElem_mem h1); omega))
    have hx2 : ∀ u ∈ x ++ t.binds, u.size ≤ 100000 := fun u hu => by
      rcases List.mem_append.1 hu with hu | hu
      · exact hx u hu
      · have := Ty.sizes_mem hu; omega
    have hh := headType_calls (b := b) (c := c) (m := m) (x := x ++ t.binds) (k := t.kind) hi (by rw [List.length_append]; omega)
    have hsz : ∀ u, headTy c m (x ++ t.binds) t.kind t.index = some u → u.size ≤ 100000 := fun u hu => by
      rcases headTy_mem hu with hu | hu | hu
      · exact hx2 u hu
      · exact hc u hu
      · exact hm u hu
    have hib := Tm.isB_eq c m x t of
    refine vc107_ok ⟨_, heq, ITE.intro (fun h => ?_) fun h => ?_⟩
    · have h0 : Ty.sames t.binds of.args = false := by simpa using h
      rw [hib, h0, Bool.false_and]
    have h0 : Ty.sames t.binds of.args = true := by simpa using h
    rw [h0, Bool.true_and] at hib
    refine ⟨_, within_calls (by omega), ?_⟩
    cases ht : headTy c m (x ++ t.binds) t.kind t.index with
    | none =>
      rw [ht] at hh hib
      exact ⟨_, _, _, hh, ITE.pos rfl (by rw [hib])⟩
    | some u =>
      rw [ht] at hh hib
      dsimp only at hib
      have hu := hsz u ht
      have hus := u.size_eq
      have hul := Ty.sizes_len u.args
      refine ⟨_, _, _, hh, ITE.neg rfl (ITE.intro (fun h => ?_) fun h => ?_)⟩
      · have : (u.base == of.base) = false := by simpa using h
        rw [hib, this, Bool.false_and]
      have h1 : (u.base == of.base) = true := by simpa using h
      rw [h1, Bool.true_and] at hib
      rw [List.length_map, List.length_map]
      refine ITE.intro (fun h => ?_) fun h => ?_
      · have : ¬ u.args.length = t.args.length := by simp at h; omega
        rw [hib, show (u.args.length == t.args.length) = false from by simpa using this, Bool.false_and]
      have h2 : u.args.length = t.args.length := by simp at h; omega
      rw [show (u.args.length == t.args.length) = true from by simpa using h2, Bool.true_and] at hib
      refine LoopP.intro (fun k : Nat => (((), (x ++ t.binds).map Ty.enc, (), t.args.map Tm.enc, (t.args.length : Int), (k : Int), ()), ((b, c.map Ty.enc, m.map Ty.enc, ()), (t.binds.map Ty.enc, t.kind, t.index, t.args.map Tm.enc, ()), (of.args.map Ty.enc, of.base, ()), (u.args.map Ty.enc, u.base, ()), ())))
        (fun k => k ≤ t.args.length ∧ t.isB c m x of = Tm.isBs c m (x ++ t.binds) (t.args.drop k) (u.args.drop k)) (fun k => t.args.length - k) 0 rfl ⟨Nat.zero_le _, hib⟩ ?_
      intro k ⟨hk, hs⟩ again hag
      dsimp only
      refine ITE.intro (fun h => ?_) fun h => ?_
      · have hlt : k < t.args.length := by simpa using h
        have hlu : k < u.args.length := by omega
        rw [Tm.isBs_drop hlt hlu] at hs
        have hsm := Tm.sizes_mem (List.getElem_mem hlt)
        have hi := ih t.args[k] u.args[k] (x ++ t.binds) (by omega) (Tm.Oks_mem hks (List.getElem_mem hlt)) hx2 (by rw [List.length_append]; omega) (by have := Ty.arg_size hlu; omega)
        refine ⟨by omega, by rw [List.length_map]; omega, _, _, _, _, Tm.enc_getD hlt, by omega, by rw [List.length_map]; omega, _, _, Ty.enc_getD hlu, _, hi, ITE.intro (fun h => ?_) fun h => ?_⟩
        · have : Tm.isB c m (x ++ t.binds) t.args[k] u.args[k] = false := by simpa using h
          rw [hs, this, Bool.false_and]
        · have : Tm.isB c m (x ++ t.binds) t.args[k] u.args[k] = true := by simpa using h
          rw [this, Bool.true_and] at hs
          rw [wrap_n (by omega)]
          exact hag (k + 1) ⟨by omega, hs⟩ (by omega)
      · have : t.args.length ≤ k := by simpa using h
        rw [List.drop_eq_nil_of_le this, Tm.isBs] at hs
        · rw [hs]
        · intro _ _ _ _ h; cases h

/-! ### All terms within -/

mutual
def Tm.pre (a d : Nat) : Tm → List ((Nat × Nat) × Tm)
  | .mk b k i l => ((a + b.length, d), .mk b k i l) :: Tm.pres (a + b.length) (d + 1) l
def Tm.pres (a d : Nat) : List Tm → List ((Nat × Nat) × Tm)
  | [] => []
  | t :: l => Tm.pre a d t ++ Tm.pres a d l
end
theorem Tm.pre_eq (a d : Nat) (t : Tm) : t.pre a d = ((a + t.binds.length, d), t) :: Tm.pres (a + t.binds.length) (d + 1) t.args := by cases t; rfl
theorem Tm.pres_drop {a d : Nat} {l : List Tm} {k : Nat} (h : k < l.length) : Tm.pres a d (l.drop k) = l[k].pre a d ++ Tm.pres a d (l.drop (k + 1)) := by
  rw [List.drop_eq_getElem_cons h, Tm.pres]
def encQ (p : (Nat × Nat) × Tm) : List AV := [.agg [nI p.1.1, nI p.1.2], .agg [.sl (p.2.binds.map Ty.enc), nI p.2.kind, nI p.2.index, .sl (p.2.args.map Tm.enc)]]
def encQE (p : (Nat × Nat) × Tm) : (Int × Int × Unit) × (List AV × Int × Int × List AV × Unit) × Unit := ((p.1.1, p.1.2, ()), (p.2.binds.map Ty.enc, p.2.kind, p.2.index, p.2.args.map Tm.enc, ()), ())

theorem tdown_calls : ∀ (n : Nat) (t : Tm) (a d : Nat), t.size ≤ n → a + t.size ≤ 1000000000 → d + t.size ≤ 1000000000 → YFn Try.prog 141 (fun v => [.agg [.sl (t.binds.map Ty.enc), nI t.kind, nI t.index, .sl (t.args.map Tm.enc)], .agg [nI a, nI d], v]) ((t.pre a d).map encQ) true := by
  intro n
  induction n with
  | zero => intro t a d h; have := t.size_pos; omega
  | succ n ih =>
    intro t a d h ha hd
    have hq := Tm.sizes_len t.args
    have hq2 := Ty.sizes_len t.binds
    have hts := t.size_eq
    have hw : IntKind.wrap .i64 ((a : Int) + ((List.length (t.binds.map Ty.enc) : Nat) : Int)) = ((a + t.binds.length : Nat) : Int) := by
      rw [List.length_map, wrap_i (by omega) (by omega)]; omega
    refine vc141_ok fun yv more => ?_
    unfold vc141
    rw [hw, wrap_n (by omega)]
    refine ⟨rfl, (Tm.pres (a + t.binds.length) (d + 1) t.args).map encQ ++ more, by rw [Tm.pre_eq]; rfl, fun b => ITE.intro (fun h => ?_) fun h => ?_⟩
    · have : b = false := by simpa using h
      subst this; rfl
    · have : b = true := by simpa using h
      subst this
      refine LoopP.intro (fun k : Nat => (((yv, (), t.args.map Tm.enc, (t.args.length : Int), (k : Int), ()), ((t.binds.map Ty.enc, t.kind, t.index, t.args.map Tm.enc, ()), (((a + t.binds.length : Nat) : Int), ((d + 1 : Nat) : Int), ()), ())), some ((Tm.pres (a + t.binds.length) (d + 1) (t.args.drop k)).map encQ ++ more))) (fun k => k ≤ t.args.length) (fun k => t.args.length - k) 0 (by rw [List.length_map]; rfl) (Nat.zero_le _) ?_
      intro k hk again hag
      dsimp only
      rw [List.length_map]
      refine ITE.intro (fun h => ?_) fun h => ?_
      · have hlt : k < t.args.length := by simpa using h
        have hsm := Tm.sizes_mem (List.getElem_mem hlt)
        have hi := ih t.args[k] (a + t.binds.length) (d + 1) (by omega) (by omega) (by omega)
        refine ⟨by omega, by omega, _, _, _, _, Tm.enc_getD hlt, _, _, (Tm.pres (a + t.binds.length) (d + 1) (t.args.drop (k + 1))).map encQ ++ more, rfl, hi, ?_, fun b => ITE.intro (fun h => ?_) fun h => ?_⟩
        · rw [Tm.pres_drop hlt, List.map_append, List.append_assoc]
        · have : b = false := by simpa using h
          subst this; rfl
        · have : b = true := by simpa using h
          subst this
          rw [wrap_n (by omega)]
          exact hag (k + 1) (by omega) (by omega)
      · have : t.args.length ≤ k := by simpa using h
        rw [List.drop_eq_nil_of_le this]; rfl

theorem teach1_calls {t : Tm} (h : t.size ≤ 500000000) : YFn Try.prog 140 (fun v => [v, .eptr (.agg [.sl (t.binds.map Ty.enc), nI t.kind, nI t.index, .sl (t.args.map Tm.enc)]) 0]) ((t.pre 0 1).map encQ) false :=
  vc140_ok fun yv more => ⟨_, _, more, rfl, tdown_calls _ t 0 1 (Nat.le_refl _) (by omega) (by omega), rfl, fun b => ⟨b, rfl⟩⟩
theorem teach_calls (t : Tm) : PureIs Try.prog 134 [.agg [.sl (t.binds.map Ty.enc), nI t.kind, nI t.index, .sl (t.args.map Tm.enc)]] (.clo 140 [.eptr (.agg [.sl (t.binds.map Ty.enc), nI t.kind, nI t.index, .sl (t.args.map Tm.enc)]) 0]) := vc134_ok rfl
theorem teach_seq {t : Tm} (h : t.size ≤ 500000000) : SeqIs Try.prog 140 [.eptr (.agg [.sl (t.binds.map Ty.enc), nI t.kind, nI t.index, .sl (t.args.map Tm.enc)]) 0] [.v (.a [.i .i64, .i .i64]), .v (.a [.l, .i .i64, .i .i64, .l])] ((t.pre 0 1).map encQE) :=
  seqIs_of (prm := [.v (.a [.i .i64, .i .i64]), .v (.a [.l, .i .i64, .i .i64, .l])]) encQE (teach1_calls h)

def trest : Nat → List ((Nat × Nat) × Tm) → Bool
  | _, [] => true
  | n, p :: l => if n + 1 > 5000 then false else if p.1.2 > 60 then false else trest (n + 1) l

theorem tright_calls {t : Tm} (h : t.size ≤ 500000000) : PureIs Try.prog 106 [.agg [.sl (t.binds.map Ty.enc), nI t.kind, nI t.index, .sl (t.args.map Tm.enc)]] (nB (trest 0 (t.pre 0 1))) := by
  refine vc106_ok ⟨teach_calls t, ?_⟩
  refine RangeP.intro2 (fun n : Nat => ((t.binds.map Ty.enc, t.kind, t.index, t.args.map Tm.enc, ()), (false, ()), ((n : Int), ()), ())) encQE (t.pre 0 1) (teach_seq h) (fun r n => n ≤ 5000 ∧ trest 0 (t.pre 0 1) = trest n r) 0 rfl ⟨by omega, rfl⟩ (fun p r n ⟨hI, hk⟩ again hag => ?_) fun n ⟨hI, hk⟩ => ?_
  · rw [trest] at hk
    dsimp only [encQE]
    rw [wrap_n (by omega)]
    refine ITE.intro (fun h1 => ?_) fun h1 => ITE.intro (fun h2 => ?_) fun h2 => ?_
    · have : n + 1 > 5000 := by have := of_decide_eq_true h1; omega
      rw [hk, if_pos this]
    · have g : ¬ n + 1 > 5000 := by have := of_decide_eq_false h1; omega
      have : p.1.2 > 60 := by have := of_decide_eq_true h2; omega
      rw [hk, if_neg g, if_pos this]
    · have g : ¬ n + 1 > 5000 := by have := of_decide_eq_false h1; omega
      have g2 : ¬ p.1.2 > 60 := by have := of_decide_eq_false h2; omega
      rw [if_neg g, if_neg g2] at hk
      exact hag (n + 1) ⟨by omega, hk⟩
  · rw [hk]; rfl

theorem check_calls {b : Int} {c m x : List Ty} {t : Tm} {of : Ty} (hc : ∀ t ∈ c, t.size ≤ 100000) (hm : ∀ t ∈ m, t.size ≤ 100000) (hok : t.Ok) (hx : ∀ u ∈ x, u.size ≤ 100000) (hn : x.length + t.size ≤ 100000) (hof : of.size ≤ 100000) :
    PureIs Try.prog 60 [.agg [nI b, .sl (c.map Ty.enc), .sl (m.map Ty.enc)], .sl (x.map Ty.enc), .agg [.sl (t.binds.map Ty.enc), nI t.kind, nI t.index, .sl (t.args.map Tm.enc)], .agg [.sl (of.args.map Ty.enc), nI of.base]] (nI (if trest 0 (t.pre 0 1) = true then (if t.isB c m x of = true then 0 else 5) else 2)) := by
  have h1 := tright_calls (t := t) (by omega)
  have h2 := is_calls (b := b) hc hm _ t of x (Nat.le_refl _) hok hx hn hof
  refine vc60_ok ⟨_, h1, ITE.intro (fun h => ?_) fun h => ⟨_, h2, ITE.intro (fun h3 => ?_) fun h3 => ?_⟩⟩
  · rw [if_neg (by simpa using h)]
  · rw [if_pos (by simpa using h), if_neg (by simpa using h3)]
  · rw [if_pos (by simpa using h), if_pos (by simpa using h3)]

/-! ### Is a world right? -/

theorem rw1_calls {b : Int} {c m : List Ty} {t : Ty} (h : t.size ≤ 500000000) : PureIs Try.prog 109 [.agg [.sl (t.args.map Ty.enc), nI t.base], .eptr (.agg [nI b, .sl (c.map Ty.enc), .sl (m.map Ty.enc)]) 0] (nB (!(t.rightB b))) :=
  vc109_ok ⟨_, kright_calls h, rfl⟩

def firstBad (b : Int) : Nat → List Ty → Int
  | _, [] => -1
  | k, t :: l => if t.rightB b = true then firstBad b (k + 1) l else k

theorem indexBad_calls {b : Int} {c m l : List Ty} (h : Ty.sizes l ≤ 500000000) : PureIs Try.prog 135 [.sl (l.map Ty.enc), .clo 109 [.eptr (.agg [nI b, .sl (c.map Ty.enc), .sl (m.map Ty.enc)]) 0]] (nI (firstBad b 0 l)) := by
  have hl := Ty.sizes_len l
  refine vc135_ok ⟨rfl, ?_⟩
  refine LoopP.intro (fun k : Nat => ((l.map Ty.enc, ((), ()), (l.length : Int), (k : Int), ()), ())) (fun k => k ≤ l.length ∧ firstBad b 0 l = firstBad b k (l.drop k)) (fun k => l.length - k) 0 (by rw [List.length_map]; rfl) ⟨Nat.zero_le _, rfl⟩ ?_
  intro k ⟨hk, hs⟩ again hag
  dsimp only
  rw [List.length_map]
  refine ITE.intro (fun h => ?_) fun h => ?_
  · have hlt : k < l.length := by simpa using h
    rw [List.drop_eq_getElem_cons hlt, firstBad] at hs
    refine ⟨by omega, by omega, _, _, Ty.enc_getD hlt, _, rw1_calls (by have := Ty.sizes_mem (List.getElem_mem hlt); omega), ITE.intro (fun h => ?_) fun h => ⟨rfl, ?_⟩⟩
    · rw [hs, if_neg (by simpa using h)]
    · rw [if_pos (by simpa using h)] at hs
      rw [wrap_n (by omega)]
      exact hag (k + 1) ⟨by omega, hs⟩ (by omega)
  · have : l.length ≤ k := by simpa using h
    rw [List.drop_eq_nil_of_le this] at hs
    rw [hs]; rfl

theorem rightWorld_calls {b : Int} {c m : List Ty} (hc : c.length ≤ 500) (hm : m.length ≤ 500) (h : Ty.sizes (c ++ m) ≤ 500000000) : PureIs Try.prog 61 [.agg [nI b, .sl (c.map Ty.enc), .sl (m.map Ty.enc)]] (nB (!(decide (firstBad b 0 (c ++ m) ≥ 0)))) := by
  have hcc := concat_calls (ll := [c, m]) (by simp) (by simp; omega)
  simp only [encRows, List.map_cons, List.map_nil, List.flatten_cons, List.flatten_nil, List.append_nil] at hcc
  have hi := indexBad_calls (b := b) (c := c) (m := m) (l := c ++ m) h
  refine vc61_ok ?_
  unfold vc61
  rw [List.length_map, List.length_map, wrap_i (by omega) (by omega)]
  refine ITE.neg (decide_eq_false (by omega)) (ITE.neg (decide_eq_false (by omega)) ⟨_, hcc, _, vc108_ok ⟨_, hi, rfl⟩, rfl⟩)

end Go.Proofs.Ytfbncddnakaaiaa
/- A long term of a type is, as a raw one, of that type, or too long; RawFroms. -/
namespace Go.Proofs.Ytfbncddnakaaiaa
open Go
set_option linter.unusedSimpArgs false
set_option linter.unusedVariables false

def Good (q : Ty × Int) (t : Ty) : Prop := q = (t, 0) ∨ q.2 = 2

theorem bind_infer (b : Int) (c m : List Ty) : ∀ (l x : List Ty) (r : Rw) (t : Ty), Good (r.infer b c m (x ++ l)) t → Good ((r.bind l).infer b c m x) (t.arrow l)
  | [], x, r, t, h => by
    rw [List.append_nil] at h
    have : t.arrow [] = t := by cases t; rfl
    rw [this]; exact h
  | u :: l, x, r, t, h => by
    have ih := bind_infer b c m l (x ++ [u]) r t (by rw [List.append_assoc]; exact h)
    show Good (Rw.infer b c m x (.mk 3 u 0 [r.bind l])) _
    rw [Rw.infer, if_pos rfl]
    split
    · rw [Rw.infers, Rw.infers, lamRes]
      rcases ih with ih | ih
      · rw [ih, if_neg (by simp)]
        split
        · exact .inr rfl
        · exact .inl rfl
      · rw [if_pos (by rw [ih]; decide)]
        exact .inr ih
    · exact .inr rfl

theorem headTy_kind {c m x : List Ty} {k i : Int} {t : Ty} (h : headTy c m x k i = some t) : k = 0 ∨ k = 1 ∨ k = 2 := by
  by_cases h0 : k = 0
  · exact .inl h0
  by_cases h1 : k = 1
  · exact .inr (.inl h1)
  by_cases h2 : k = 2
  · exact .inr (.inr h2)
  rw [headTy, if_neg h0, if_neg h1, if_neg h2] at h
  split at h <;> cases h

mutual
theorem raw_infer (b : Int) (c m : List Ty) : ∀ (t : Tm) (x : List Ty) (of : Ty), t.isB c m x of = true → Good (t.raw.infer b c m x) of
  | .mk bs k i l, x, of, h => by
    rw [Tm.isB, Bool.and_eq_true] at h
    obtain ⟨h1, h2⟩ := h
    have hb := (Ty.sames_iff _ _).1 h1
    cases ht : headTy c m (x ++ bs) k i with
    | none => rw [ht] at h2; cases h2
    | some u =>
      rw [ht] at h2
      dsimp only at h2
      rw [Bool.and_eq_true, Bool.and_eq_true, beq_iff_eq, beq_iff_eq] at h2
      obtain ⟨h3, h4, h5⟩ := h2
      have hk := headTy_kind ht
      have hh : Good ((headRw k i).infer b c m (x ++ bs)) (.mk u.args u.base) := by
        rw [Ty.eta, Rw.infer, if_neg (by omega), if_neg (by omega), ht, headRes]
        split
        · exact .inr rfl
        · exact .inl rfl
      have hc := raws_infer b c m l (x ++ bs) u.args (headRw k i) u.base h4 h5 hh
      have := bind_infer b c m bs x _ _ hc
      rw [Ty.arrow, Ty.args_mk, Ty.base_mk, List.append_nil, hb, h3, Ty.eta] at this
      rw [Tm.raw, hb]
      exact this
theorem raws_infer (b : Int) (c m : List Ty) : ∀ (l : List Tm) (x us : List Ty) (r : Rw) (bs : Int), us.length = l.length → Tm.isBs c m x l us = true → Good (r.infer b c m x) (.mk us bs) → Good ((r.call (Tm.raws l)).infer b c m x) (.mk [] bs)
  | [], x, us, r, bs, hl, h, hr => by
    obtain rfl : us = [] := List.length_eq_zero_iff.1 hl
    exact hr
  | t :: l, x, [], r, bs, hl, h, hr => by simp at hl
  | t :: l, x, u :: us, r, bs, hl, h, hr => by
    rw [Tm.isBs, Bool.and_eq_true] at h
    have ht := raw_infer b c m t x u h.1
    refine raws_infer b c m l x us (.mk 4 noT 0 [r, t.raw]) bs (by simpa using hl) h.2 ?_
    rw [Rw.infer, if_neg (by decide), if_pos rfl, Rw.infers, Rw.infers, Rw.infers, appRes]
    rcases hr with hr | hr
    · rw [hr, if_neg (by simp)]
      rcases ht with ht | ht
      · rw [ht, if_neg (by simp)]
        dsimp only [Ty.args]
        rw [if_pos ((Ty.same_iff _ _).2 rfl)]
        exact .inl rfl
      · rw [if_pos (by rw [ht]; decide)]
        exact .inr ht
    · rw [if_pos (by rw [hr]; decide)]
      exact .inr hr
end

theorem tmfew1 {t : Tm} (h : ([t].all (Tm.fewB 150 70)) = true) : t.size ≤ 150 := by
  rw [List.all_cons, Bool.and_eq_true] at h
  exact Tm.fewB_size h.1

theorem RawFroms_calls {b : Int} {c m x : List Ty} {t : Tm} (hok : t.Ok) : PureIs Try.prog 11 [.agg [nI b, .sl (c.map Ty.enc), .sl (m.map Ty.enc)], .sl (x.map Ty.enc), t.enc] (nB true) := by
  have he := Tm.enc_eq t
  have hfew := few_calls (l := [t]) (by simp)
  rw [List.map_cons, List.map_nil, he] at hfew
  rw [he]
  refine vc11_ok ⟨_, hfew, ITE.intro (fun h => ⟨_, known07_calls, rfl⟩) fun h => ?_⟩
  have hr : t.size ≤ 150 := tmfew1 (by simpa using h)
  refine ⟨_, small_calls b c m x, ITE.intro (fun h => ⟨_, known07_calls, rfl⟩) fun h => ?_⟩
  obtain ⟨⟨g1, g2, g3⟩, ⟨h1, h2, h3⟩, h4, h5, h6⟩ := small_all (c := c) (m := m) (x := x) (by simpa using h)
  have hto := tmTo_calls _ t (Nat.le_refl _) (by omega)
  rw [he] at hto
  have htot := Tm.raw_total t
  have hfr := from_calls _ t (Nat.le_refl _) (by omega)
  have hrf := rfrom_calls _ t (Nat.le_refl _) (by omega)
  have hst := Step_calls (stepN_calls _ t.raw (Nat.le_refl _) (by omega) (Tm.raw_still t)) (Rw.fit_of _ (by omega))
  have hof := rwOf_calls _ t.raw (Nat.le_refl _) (by omega)
  have hsm := rwsame_calls _ t.raw t.raw (Nat.le_refl _) (by omega) (by omega)
  rw [Rw.same_refl] at hsm
  have hri := right_calls (t := t.raw) (by omega)
  have hty := typeOf_calls (b := b) (c := c) (m := m) (x := x) hok (by omega)
  have hps : (t.typ c m x).1.size ≤ 150 := by
    have := t.size_eq
    rw [Tm.typ]
    split
    · simp only [Ty.size]; omega
    · simp [Ty.size, Ty.sizes]
  have hch := check_calls (b := b) (c := c) (m := m) (x := x) (t := t) (of := (t.typ c m x).1) (fun u hu => by have := h4 u hu; omega) (fun u hu => by have := h5 u hu; omega) hok (fun u hu => by have := h6 u hu; omega) (by omega) (by omega)
  have hrw := rightWorld_calls (b := b) (c := c) (m := m) (by omega) (by omega) (by rw [Ty.sizes_append]; omega)
  have hin := Infer_calls (b := b) (c := c) (m := m) (x := x) (r := t.raw) (fun u hu => by have := h4 u hu; omega) (fun u hu => by have := h5 u hu; omega) (Tm.raw_ok t hok) (by omega)
  have hgood := raw_infer b c m t x (t.typ c m x).1
  have heq := equal_calls _ (t.typ c m x).1 (t.typ c m x).1 (Nat.le_refl _) (by omega)
  rw [(Ty.same_iff _ _).2 rfl, Ty.enc_eq] at heq
  generalize t.typ c m x = p at hty hps hch hgood heq
  rw [he] at hfr hrf
  rw [Rw.enc_eq t.raw] at hfr hrf hst hof hsm hri hin
  have key : vc11_L3 (t.binds.map Ty.enc) t.kind t.index (t.args.map Tm.enc) (fun x => x = nB true) (t.binds.map Ty.enc) t.kind t.index (t.args.map Tm.enc) b (c.map Ty.enc) (m.map Ty.enc) (x.map Ty.enc) := by
    refine ⟨_, _, _, _, _, hfr, _, _, _, _, _, _, hst, ITE.neg rfl ⟨_, _, _, _, _, hof, _, _, _, _, _, hrf, _, hsm, ITE.neg rfl ⟨_, _, _, hty, ITE.intro (fun h => ⟨_, known07_calls, rfl⟩) fun h => ⟨_, hch, ITE.intro (fun h => ⟨_, known07_calls, rfl⟩) fun hc =>
      ⟨_, hri, ITE.intro (fun h => ⟨_, known07_calls, rfl⟩) fun hr => ⟨_, hrw, ITE.intro (fun h => ⟨_, known07_calls, rfl⟩) fun h => ⟨_, _, _, hin, _, known07_calls, ITE.pos rfl ?_⟩⟩⟩⟩⟩⟩⟩
    rw [if_pos (by simpa using hr)]
    have hb : t.isB c m x p.1 = true := by
      by_cases h1 : trest 0 (t.pre 0 1) = true
      · rw [if_pos h1] at hc
        by_cases h2 : t.isB c m x p.1 = true
        · exact h2
        · rw [if_neg h2] at hc; cases hc
      · rw [if_neg h1] at hc; cases hc
    have hg := hgood hb
    generalize t.raw.infer b c m x = q at hg
    rcases hg with rfl | hg
    · exact ITE.pos rfl ⟨_, heq, ITE.pos rfl rfl⟩
    · rw [hg]
      exact ITE.neg rfl rfl
  exact ⟨_, _, _, world_calls (by omega) (by omega), _, tysTo_calls (by omega), _, _, _, _, hto, key, key⟩

end Go.Proofs.Ytfbncddnakaaiaa
/- A step of a raw term, with the store that it makes; what it keeps. -/
namespace Go.Proofs.Ytfbncddnakaaiaa
open Go
set_option linter.unusedSimpArgs false
set_option linter.unusedVariables false

/-! ### A step -/

def redexOf : List Rw → Option (Rw × Rw)
  | [.mk _ _ _ [b], a] => some (b, a)
  | _ => none
mutual
def Rw.step : Rw → Rw × Bool
  | .mk k t i l => if Rw.redex (.mk k t i l) = true then (match redexOf l with
    | some p => (Rw.subst p.2 0 p.1, true)
    | none => (.mk k t i l, true)) else (match Rw.steps l with
    | some l' => (.mk k t i l', true)
    | none => (.mk k t i l, false))
def Rw.steps : List Rw → Option (List Rw)
  | [] => none
  | r :: l => if (Rw.step r).2 = true then some ((Rw.step r).1 :: l) else (Rw.steps l).map (r :: ·)
end
theorem Rw.step_eq (r : Rw) : r.step = if r.redex = true then (match redexOf r.kids with
    | some p => (Rw.subst p.2 0 p.1, true)
    | none => (r, true)) else (match Rw.steps r.kids with
    | some l' => (.mk r.kind r.type r.index l', true)
    | none => (r, false)) := by cases r; rw [Rw.step]; rfl
theorem Rw.steps_drop {l : List Rw} {k : Nat} (h : k < l.length) : Rw.steps (l.drop k) = if (Rw.step l[k]).2 = true then some ((Rw.step l[k]).1 :: l.drop (k + 1)) else (Rw.steps (l.drop (k + 1))).map (l[k] :: ·) := by
  rw [List.drop_eq_getElem_cons h, Rw.steps]

theorem clone_mfn {l : List Rw} (h : l.length ≤ 1000000000) : MFn Try.prog 133 [.sl (l.map Rw.enc)] 81 5 (l.map Rw.enc) := by
  refine vc_cloneRaw_ok fun b hb => ITE.intro (fun h1 => ?_) fun h1 => ?_
  · subst h1
    refine ⟨Classical.byContradiction fun hne => ?_, by decide⟩
    have := hb hne
    cases this
  · exact ⟨appOk_nil Rw.enc_cells (by simp; omega) (by decide), rfl, rfl, by simp, by simp⟩

theorem Rw.fit_kid {r : Rw} (h : r.Fit) {t : Rw} (ht : t ∈ r.kids) : t.Fit := Rw.fits_iff.1 (Rw.fit_eq.1 h).2.2 t ht
theorem Rw.depth_kid {r t : Rw} (ht : t ∈ r.kids) : t.depth < r.depth := by
  obtain ⟨k, hk, rfl⟩ := List.getElem_of_mem ht
  exact Rw.kid_depth hk

theorem step_calls : ∀ (n : Nat) (r : Rw), r.total ≤ n → r.Fit → r.depth ≤ 1000000000 → PureIs Try.prog 95 [r.enc] (encRB r.step.1 r.step.2) := by
  intro n
  induction n with
  | zero => intro t h; have := t.total_pos; omega
  | succ n ih =>
    intro r h hf hd
    cases hre : r.redex with
    | true =>
      obtain ⟨f, a, b, h1, h2, h3, h4⟩ := redex_parts hre
      have hfk : f ∈ r.kids := by rw [h1]; simp
      have hak : a ∈ r.kids := by rw [h1]; simp
      have hbk : b ∈ f.kids := by rw [h2]; simp
      have d1 := Rw.depth_kid hfk
      have d2 := Rw.depth_kid hak
      have d3 := Rw.depth_kid hbk
      have hs := stepR_calls hre h1 h2 (Rw.fit_kid (Rw.fit_kid hf hfk) hbk) (by omega) (Rw.fit_kid hf hak) (by omega)
      have e : r.step = (Rw.subst a 0 b, true) := by
        rw [Rw.step_eq, if_pos hre, h1]
        obtain ⟨k', t', i', l'⟩ := f
        simp only [Rw.kids] at h2
        subst h2
        rfl
      rw [e]; exact hs
    | false =>
      obtain ⟨f1, f2, f3⟩ := Rw.fit_eq.1 hf
      have hc := redex_calls r
      rw [hre, Rw.enc_eq] at hc
      have e : r.step = (match Rw.steps r.kids with
        | some l' => (.mk r.kind r.type r.index l', true)
        | none => (r, false)) := by rw [Rw.step_eq, if_neg (by rw [hre]; simp)]
      rw [Rw.enc_eq]
      refine vc95_ok ⟨_, hc, ITE.neg rfl ?_⟩
      refine LoopP.intro (fun k : Nat => (((), (), r.kids.map Rw.enc, (r.kids.length : Int), (k : Int), ()), ((r.kind, r.type.args.map Ty.enc, r.type.base, r.index, r.kids.map Rw.enc, ()), (0, (), 0, 0, (), ()), ())))
        (fun k => k ≤ r.kids.length ∧ Rw.steps r.kids = (Rw.steps (r.kids.drop k)).map (r.kids.take k ++ ·)) (fun k => r.kids.length - k) 0 (by rw [List.length_map]; rfl) ⟨Nat.zero_le _, by simp⟩ ?_
      intro k ⟨hk, hs⟩ again hag
      dsimp only
      rw [List.length_map]
      refine ITE.intro (fun h => ?_) fun h => ?_
      · have hlt : k < r.kids.length := by simpa using h
        have hi := ih r.kids[k] (by have := Rw.kid_total hlt; omega) (Rw.fits_iff.1 f3 _ (List.getElem_mem hlt)) (by have := Rw.kid_depth hlt; omega)
        rw [Rw.enc_eq] at hi
        rw [Rw.steps_drop hlt] at hs
        refine ⟨by omega, by omega, _, _, _, _, _, Rw.enc_getD hlt, _, _, _, _, _, _, hi, ITE.intro (fun h => ?_) fun h => ?_⟩
        · rw [if_pos h] at hs
          have hset : List.set (r.kids.map Rw.enc) (Int.toNat (k : Int)) (.agg [nI (Rw.step r.kids[k]).1.kind, .sl ((Rw.step r.kids[k]).1.type.args.map Ty.enc), nI (Rw.step r.kids[k]).1.type.base, nI (Rw.step r.kids[k]).1.index, .sl ((Rw.step r.kids[k]).1.kids.map Rw.enc)]) = (r.kids.set k (Rw.step r.kids[k]).1).map Rw.enc := by
            rw [← Rw.enc_eq, Int.toNat_natCast, List.map_set]
          refine ⟨_, clone_mfn (by omega), ⟨by omega, by rw [List.length_map]; omega⟩, by rw [List.length_map]; omega, by rw [List.length_set], ?_⟩
          rw [hset, e, hs]
          simp only [Option.map_some]
          rw [show r.kids.take k ++ (Rw.step r.kids[k]).1 :: r.kids.drop (k + 1) = r.kids.set k (Rw.step r.kids[k]).1 from (List.set_eq_take_append_cons_drop ..).trans (if_pos hlt) |>.symm]
          rfl
        · rw [if_neg (by simpa using h)] at hs
          rw [wrap_n (by omega)]
          refine hag (k + 1) ⟨by omega, ?_⟩ (by omega)
          rw [hs, Option.map_map, ← take_snoc' hlt]
          congr 1
          funext l
          exact (List.append_assoc (List.take k r.kids) [r.kids[k]] l).symm
      · have : r.kids.length ≤ k := by simpa using h
        rw [List.drop_eq_nil_of_le this] at hs
        rw [e, hs]; rfl

/-! ### What a step keeps -/

mutual
def Rw.Nice : Rw → Prop
  | .mk k t i l => (I64 k ∧ I64 i) ∧ (t.size ≤ 300 ∧ l.length ≤ 2) ∧ Rw.Nices l
def Rw.Nices : List Rw → Prop
  | [] => True
  | t :: l => Rw.Nice t ∧ Rw.Nices l
end
theorem Rw.nice_eq {t : Rw} : t.Nice ↔ (I64 t.kind ∧ I64 t.index) ∧ (t.type.size ≤ 300 ∧ t.kids.length ≤ 2) ∧ Rw.Nices t.kids := by cases t; exact Iff.rfl
theorem Rw.nices_iff {l : List Rw} : Rw.Nices l ↔ ∀ t ∈ l, t.Nice := by
  induction l with
  | nil => simp [Rw.Nices]
  | cons u l ih => simp [Rw.Nices, ih]
mutual
theorem Rw.Nice.ok : ∀ {t : Rw}, t.Nice → t.Ok
  | .mk _ _ _ _, h => ⟨h.1.1, h.1.2, Rw.Nices.oks h.2.2⟩
theorem Rw.Nices.oks : ∀ {l : List Rw}, Rw.Nices l → Rw.Oks l
  | [], _ => True.intro
  | _ :: _, h => ⟨Rw.Nice.ok h.1, Rw.Nices.oks h.2⟩
end
mutual
theorem Rw.Nice.fit : ∀ {t : Rw}, t.Nice → t.Fit
  | .mk _ _ _ _, h => ⟨Nat.le_trans h.2.1.1 (by omega), Nat.le_trans h.2.1.2 (by omega), Rw.Nices.fits h.2.2⟩
theorem Rw.Nices.fits : ∀ {l : List Rw}, Rw.Nices l → Rw.Fits l
  | [], _ => True.intro
  | _ :: _, h => ⟨Rw.Nice.fit h.1, Rw.Nices.fits h.2⟩
end
mutual
theorem Rw.Nice.total : ∀ {t : Rw}, t.Nice → t.total ≤ t.size * 301
  | .mk k t i l, h => by
    have := Rw.Nices.totals h.2.2
    have := h.2.1.1
    simp only [Rw.total, Rw.size]; omega
theorem Rw.Nices.totals : ∀ {l : List Rw}, Rw.Nices l → Rw.totals l ≤ Rw.sizes l * 301
  | [], _ => Nat.zero_le _
  | _ :: _, h => by
    have := Rw.Nice.total h.1
    have := Rw.Nices.totals h.2
    simp only [Rw.totals, Rw.sizes]; omega
end
theorem arity_le (k : Int) : arity k ≤ 2 := by unfold arity; split <;> (try split) <;> (try split) <;> omega
mutual
theorem Rw.nice_of : ∀ (t : Rw), t.Ok → t.shaped = true → t.total ≤ 300 → t.Nice
  | .mk k t i l, h, hs, ht => by
    rw [Rw.shaped, Bool.and_eq_true, decide_eq_true_eq] at hs
    simp only [Rw.total] at ht
    have := arity_le k
    exact ⟨⟨h.1, h.2.1⟩, ⟨by omega, by omega⟩, Rw.nices_of l h.2.2 hs.2 (by omega)⟩
theorem Rw.nices_of : ∀ (l : List Rw), Rw.Oks l → Rw.shapeds l = true → Rw.totals l ≤ 300 → Rw.Nices l
  | [], _, _, _ => True.intro
  | t :: l, h, hs, ht => by
    rw [Rw.shapeds, Bool.and_eq_true] at hs
    simp only [Rw.totals] at ht
    exact ⟨Rw.nice_of t h.1 hs.1 (by omega), Rw.nices_of l h.2 hs.2 (by omega)⟩
end
theorem i64_wrap (n : Int) : I64 (IntKind.wrap .i64 n) := by unfold I64; rw [IntKind.wrap_i64]; omega
theorem nice_head {i : Int} (h : I64 i) : (headRw 0 i).Nice := ⟨⟨⟨by decide, by decide⟩, h⟩, ⟨by simp [Ty.size, Ty.sizes], by simp⟩, True.intro⟩
mutual
theorem Rw.Nice.grow (b : Int) : ∀ {t : Rw} (d : Nat), t.Nice → (t.grow b d).Nice
  | .mk k t i l, d, h => by
    rw [Rw.grow]
    split
    · split
      · exact nice_head (i64_wrap _)
      · exact nice_head h.1.2
    · exact ⟨h.1, ⟨h.2.1.1, by rw [Rw.grows_eq, List.length_map]; exact h.2.1.2⟩, Rw.Nices.grow b _ h.2.2⟩
theorem Rw.Nices.grow (b : Int) : ∀ {l : List Rw} (d : Nat), Rw.Nices l → Rw.Nices (Rw.grows b d l)
  | [], _, _ => True.intro
  | _ :: _, d, h => ⟨Rw.Nice.grow b d h.1, Rw.Nices.grow b d h.2⟩
end
mutual
theorem Rw.Nice.subst {a : Rw} (ha : a.Nice) : ∀ {t : Rw} (d : Nat), t.Nice → (Rw.subst a d t).Nice
  | .mk k t i l, d, h => by
    rw [Rw.subst]
    split
    · split
      · split
        · exact ha.grow _ _
        · exact nice_head (i64_wrap _)
      · exact nice_head h.1.2
    · exact ⟨h.1, ⟨h.2.1.1, by rw [Rw.substs_eq, List.length_map]; exact h.2.1.2⟩, Rw.Nices.subst ha _ h.2.2⟩
theorem Rw.Nices.subst {a : Rw} (ha : a.Nice) : ∀ {l : List Rw} (d : Nat), Rw.Nices l → Rw.Nices (Rw.substs a d l)
  | [], _, _ => True.intro
  | _ :: _, d, h => ⟨Rw.Nice.subst ha d h.1, Rw.Nices.subst ha d h.2⟩
end
theorem redexOf_some {l : List Rw} {p : Rw × Rw} (h : redexOf l = some p) : ∃ k t i, l = [.mk k t i [p.1], p.2] := by
  unfold redexOf at h
  split at h
  · obtain rfl := Option.some.inj h; exact ⟨_, _, _, rfl⟩
  · cases h
mutual
theorem Rw.Nice.step : ∀ {t : Rw}, t.Nice → t.step.1.Nice
  | .mk k t i l, h => by
    rw [Rw.step]
    split
    · split
      · rename_i p hp
        obtain ⟨k', t', i', rfl⟩ := redexOf_some hp
        exact Rw.Nice.subst h.2.2.2.1 0 h.2.2.1.2.2.1
      · exact h
    · split
      · rename_i l' hl
        have := Rw.Nices.steps h.2.2 hl
        exact ⟨h.1, ⟨h.2.1.1, by rw [this.2]; exact h.2.1.2⟩, this.1⟩
      · exact h
theorem Rw.Nices.steps : ∀ {l l' : List Rw}, Rw.Nices l → Rw.steps l = some l' → Rw.Nices l' ∧ l'.length = l.length
  | [], _, _, h => by cases h
  | r :: l, l', h, hs => by
    rw [Rw.steps] at hs
    split at hs
    · obtain rfl := Option.some.inj hs
      exact ⟨⟨Rw.Nice.step h.1, h.2⟩, rfl⟩
    · cases hl : Rw.steps l with
      | none => rw [hl] at hs; cases hs
      | some l2 =>
        rw [hl] at hs
        obtain rfl := Option.some.inj hs
        have := Rw.Nices.steps h.2 hl
        exact ⟨⟨h.1, this.1⟩, by simp [this.2]⟩
end

/-! ### Whether a raw term is right, however large it is -/

theorem soundF_calls : ∀ (n : Nat) (t : Rw) (d left : Nat) (h0 : Int) (h1 : List AV) (h2 h3 : Int) (h4 : List AV), t.total ≤ n → t.Fit → 1 ≤ d → d ≤ 61 → left ≤ 5000 →
    HFn Try.prog 96 [t.enc, nI d, .ptr 1 0] [.box [nI h0, .sl h1, nI h2, nI h3, .sl h4], .box [nI left]] (fun r q => r = nB (Rw.sound d left t).1 ∧ q = [.box [nI h0, .sl h1, nI h2, nI h3, .sl h4], .box [nI (Rw.sound d left t).2]]) := by
  intro n
  induction n with
  | zero => intro t d left h0 h1 h2 h3 h4 h; have := t.total_pos; omega
  | succ n ih =>
    intro t d left h0 h1 h2 h3 h4 h hf hd hd2 hl
    obtain ⟨f1, f2, f3⟩ := Rw.fit_eq.1 hf
    have hsd := Rw.sound_eq d left t
    rw [Rw.enc_eq]
    refine vc96_ok ?_
    unfold vc96
    rw [wrap_i (n := (left : Int) - 1) (by omega) (by omega)]
    refine ITE.intro (fun h => ?_) fun h => ?_
    · have : (left : Int) - 1 < 0 := by simpa using h
      rw [if_pos (.inl this)] at hsd
      rw [hsd]; exact ⟨rfl, rfl⟩
    have c1 : ¬ (left : Int) - 1 < 0 := by simpa using h
    refine ITE.intro (fun h => ?_) fun h => ?_
    · have : (d : Int) > 60 := by simpa using h
      rw [if_pos (.inr (.inl this))] at hsd
      rw [hsd]; exact ⟨rfl, rfl⟩
    have c2 : ¬ (d : Int) > 60 := by simpa using h
    refine ⟨_, kids_calls _, ITE.intro (fun h => ?_) fun h => ?_⟩
    · have : ¬ arity t.kind = t.kids.length := by simpa using h
      rw [if_pos (.inr (.inr this))] at hsd
      rw [hsd]; exact ⟨rfl, rfl⟩
    have c3 : arity t.kind = t.kids.length := by simpa using h
    rw [if_neg (by simp only [not_or, Decidable.not_not]; exact ⟨c1, c2, c3⟩)] at hsd
    rw [hsd, show (d : Int) + 1 = ((d + 1 : Nat) : Int) from by omega, show (left : Int) - 1 = ((left - 1 : Nat) : Int) from by omega]
    refine LoopP.intro (fun p : Nat × Nat => (((d : Int), (), t.kids.map Rw.enc, (t.kids.length : Int), (p.1 : Int), ()), ((h0, h1, h2, h3, h4, ()), ((p.2 : Int), ()), (t.kind, t.type.args.map Ty.enc, t.type.base, t.index, t.kids.map Rw.enc, ()), ())))
      (fun p => p.1 ≤ t.kids.length ∧ p.2 ≤ 5000 ∧ Rw.sounds ((d + 1 : Nat) : Int) ((left - 1 : Nat) : Int) t.kids = Rw.sounds ((d + 1 : Nat) : Int) (p.2 : Int) (t.kids.drop p.1)) (fun p => t.kids.length - p.1) (0, left - 1) (by rw [List.length_map]; rfl) ⟨Nat.zero_le _, by dsimp only; omega, rfl⟩ ?_
    intro ⟨k, m⟩ ⟨hk, hm, hs⟩ again hag
    dsimp only at hk hm hs ⊢
    rw [List.length_map]
    refine ITE.intro (fun h => ?_) fun h => ?_
    · have hlt : k < t.kids.length := by simpa using h
      have hi := ih t.kids[k] (d + 1) m h0 h1 h2 h3 h4 (by have := Rw.kid_total hlt; omega) (Rw.fits_iff.1 f3 _ (List.getElem_mem hlt)) (by omega) (by omega) hm
      obtain ⟨g1, g2, g3, g4⟩ := Rw.sound_is t.kids[k] (d + 1) m (by omega) (by omega)
      rw [Rw.enc_eq] at hi
      rw [Rw.sounds_drop hlt] at hs
      rw [wrap_n (by omega)]
      refine ⟨by omega, by omega, _, _, _, _, _, Rw.enc_getD hlt, _, hi, fun r q ⟨hr, hq⟩ => ⟨_, _, _, _, _, _, _, ⟨hr, hq⟩, ITE.intro (fun h => ?_) fun h => ?_⟩⟩
      · have hf : (Rw.sound ((d + 1 : Nat) : Int) m t.kids[k]).1 = false := by simpa using h
        rw [hf] at hs
        simp only [Bool.false_eq_true, if_false] at hs
        rw [hs]; exact ⟨rfl, rfl⟩
      · have hf : (Rw.sound ((d + 1 : Nat) : Int) m t.kids[k]).1 = true := by simpa using h
        rw [if_pos hf] at hs
        obtain ⟨_, k2, _⟩ := g1.1 hf
        have e : (Rw.sound ((d + 1 : Nat) : Int) m t.kids[k]).2 = ((m - t.kids[k].size : Nat) : Int) := by rw [g2 hf]; omega
        rw [e] at hs ⊢
        rw [wrap_n (by omega)]
        exact hag (k + 1, m - t.kids[k].size) ⟨by dsimp only; omega, by dsimp only; omega, hs⟩ (by dsimp only; omega)
    · have : t.kids.length ≤ k := by simpa using h
      rw [List.drop_eq_nil_of_le this] at hs
      rw [hs]; exact ⟨rfl, rfl⟩

theorem rightF_calls {t : Rw} (h : t.Fit) : PureIs Try.prog 49 [t.enc] (nB t.rightB) := by
  have h1 := soundF_calls _ t 1 5000 t.kind (t.type.args.map Ty.enc) t.type.base t.index (t.kids.map Rw.enc) (Nat.le_refl _) h (by omega) (by omega) (by omega)
  have e : (Rw.sound ((1 : Nat) : Int) ((5000 : Nat) : Int) t).1 = t.rightB := by
    have := (Rw.sound_is t 1 5000 (by omega) (by omega)).1
    rw [Bool.eq_iff_iff, this, Rw.rightB]
    simp only [Bool.and_eq_true, decide_eq_true_eq]
    constructor
    · rintro ⟨h1, h2, h3⟩; exact ⟨h1, h2, by omega⟩
    · rintro ⟨h1, h2, h3⟩; exact ⟨h1, h2, by omega⟩
  rw [Rw.enc_eq] at h1 ⊢
  refine vc49_ok ⟨_, h1, fun r q ⟨hr, hq⟩ => ⟨_, _, _, _, _, _, _, ⟨hr, hq⟩, ?_⟩⟩
  rw [e]

end Go.Proofs.Ytfbncddnakaaiaa
/- Types of raw terms, without bars on their sizes; a step keeps them. -/
namespace Go.Proofs.Ytfbncddnakaaiaa
open Go
set_option linter.unusedSimpArgs false
set_option linter.unusedVariables false

mutual
def Rw.Typ (c m : List Ty) : List Ty → Rw → Ty → Prop
  | x, .mk k t i l, u => if k = 3 then ∃ v : Ty, u = v.arrow [t] ∧ Rw.TypL c m (x ++ [t]) l [v] else if k = 4 then ∃ v : Ty, Rw.TypL c m x l [.mk (v :: u.args) u.base, v] else headTy c m x k i = some u ∧ l = []
def Rw.TypL (c m : List Ty) : List Ty → List Rw → List Ty → Prop
  | _, [], [] => True
  | x, r :: l, u :: us => Rw.Typ c m x r u ∧ Rw.TypL c m x l us
  | _, _, _ => False
end

theorem typL_one {c m x : List Ty} {l : List Rw} {u : Ty} (h : Rw.TypL c m x l [u]) : ∃ r, l = [r] ∧ Rw.Typ c m x r u := by
  match l, h with
  | [r], h => exact ⟨r, rfl, h.1⟩
  | r :: s :: l, h => exact h.2.elim
theorem typL_two {c m x : List Ty} {l : List Rw} {u v : Ty} (h : Rw.TypL c m x l [u, v]) : ∃ r s, l = [r, s] ∧ Rw.Typ c m x r u ∧ Rw.Typ c m x s v := by
  match l, h with
  | [r, s], h => exact ⟨r, s, rfl, h.1, h.2.1⟩
  | [r], h => exact h.2.elim
  | r :: s :: t :: l, h => exact h.2.2.elim

/-! ### What is inferred, and types -/

mutual
theorem infer_typ (b : Int) (c m : List Ty) : ∀ (r : Rw) (x : List Ty) (u : Ty), r.shaped = true → r.infer b c m x = (u, 0) → Rw.Typ c m x r u
  | .mk k t i l, x, u, hs, h => by
    rw [Rw.shaped, Bool.and_eq_true, decide_eq_true_eq] at hs
    rw [Rw.infer] at h
    rw [Rw.Typ]
    by_cases h3 : k = 3
    · rw [if_pos h3] at h ⊢
      obtain ⟨a, ha⟩ := arity3 h3 hs.1
      split at h
      · have hi : Rw.infers b c m (x ++ [t]) l = [a.infer b c m (x ++ [t])] := by rw [ha]; rfl
        rw [hi, lamRes] at h
        generalize a.infer b c m (x ++ [t]) = p at h hi
        split at h
        · rename_i hp
          simp only [Prod.mk.injEq] at h
          exact (hp h.2).elim
        · rename_i hp
          split at h
          · cases h
          · simp only [Prod.mk.injEq, and_true] at h
            refine ⟨p.1, h.symm, infers_typ b c m l (x ++ [t]) [p.1] hs.2 ?_⟩
            rw [hi, List.map_cons, List.map_nil, ← Decidable.not_not.1 hp]
      · cases h
    · rw [if_neg h3] at h ⊢
      by_cases h4 : k = 4
      · rw [if_pos h4] at h ⊢
        obtain ⟨f, a, ha⟩ := arity4 h4 hs.1
        have hi : Rw.infers b c m x l = [f.infer b c m x, a.infer b c m x] := by rw [ha]; rfl
        rw [hi, appRes] at h
        generalize f.infer b c m x = p at h hi
        generalize a.infer b c m x = q at h hi
        split at h
        · rename_i hp
          simp only [Prod.mk.injEq] at h
          exact (hp h.2).elim
        rename_i hp
        split at h
        · rename_i hq
          simp only [Prod.mk.injEq] at h
          exact (hq h.2).elim
        rename_i hq
        split at h
        · cases h
        · rename_i v vs hv
          split at h
          · rename_i hsm
            simp only [Prod.mk.injEq, and_true] at h
            refine ⟨q.1, infers_typ b c m l x _ hs.2 ?_⟩
            have e1 := (Ty.same_iff _ _).1 hsm
            rw [hi, ← h, Ty.args_mk, Ty.base_mk, ← e1, ← hv, Ty.eta, List.map_cons, List.map_cons, List.map_nil, e1, ← Decidable.not_not.1 hp]
            congr 1
            rw [Decidable.not_not.1 hp, ← Decidable.not_not.1 hq]
          · cases h
      · rw [if_neg h4] at h ⊢
        cases ht : headTy c m x k i with
        | none => rw [ht] at h; cases h
        | some v =>
          rw [ht, headRes] at h
          split at h
          · cases h
          · simp only [Prod.mk.injEq, and_true] at h
            refine ⟨by rw [h], ?_⟩
            have hk := headTy_kind ht
            have ha : arity k = 0 := by unfold arity; rw [if_pos hk]
            rw [ha] at hs
            exact List.length_eq_zero_iff.1 (by have := hs.1; omega)
theorem infers_typ (b : Int) (c m : List Ty) : ∀ (l : List Rw) (x us : List Ty), Rw.shapeds l = true → Rw.infers b c m x l = us.map (fun u => (u, 0)) → Rw.TypL c m x l us
  | [], x, [], _, _ => by rw [Rw.TypL]; exact True.intro
  | [], x, u :: us, _, h => by cases h
  | r :: l, x, [], _, h => by cases h
  | r :: l, x, u :: us, hs, h => by
    rw [Rw.shapeds, Bool.and_eq_true] at hs
    rw [Rw.infers, List.map_cons, List.cons.injEq] at h
    exact ⟨infer_typ b c m r x u hs.1 h.1, infers_typ b c m l x us hs.2 h.2⟩
end

def GoodL : List (Ty × Int) → List Ty → Prop
  | [], [] => True
  | q :: l, u :: us => Good q u ∧ GoodL l us
  | _, _ => False
mutual
theorem typ_good (b : Int) (c m : List Ty) : ∀ (r : Rw) (x : List Ty) (u : Ty), Rw.Typ c m x r u → Good (r.infer b c m x) u
  | .mk k t i l, x, u, h => by
    rw [Rw.Typ] at h
    rw [Rw.infer]
    by_cases h3 : k = 3
    · rw [if_pos h3] at h ⊢
      obtain ⟨v, rfl, hl⟩ := h
      have hg := typs_good b c m l (x ++ [t]) [v] hl
      split
      · match hq : Rw.infers b c m (x ++ [t]) l, hg with
        | [q], hg =>
          rw [lamRes]
          rcases hg.1 with h1 | h1
          · rw [h1, if_neg (by simp)]
            split
            · exact .inr rfl
            · exact .inl rfl
          · rw [if_pos (by rw [h1]; decide)]
            exact .inr h1
        | q :: q' :: _, hg => exact hg.2.elim
      · exact .inr rfl
    · rw [if_neg h3] at h ⊢
      by_cases h4 : k = 4
      · rw [if_pos h4] at h ⊢
        obtain ⟨v, hl⟩ := h
        have hg := typs_good b c m l x _ hl
        match hq : Rw.infers b c m x l, hg with
        | [p, q], hg =>
          rw [appRes]
          rcases hg.1 with h1 | h1
          · rw [h1, if_neg (by simp)]
            rcases hg.2.1 with h2 | h2
            · rw [h2, if_neg (by simp)]
              dsimp only [Ty.args]
              rw [if_pos ((Ty.same_iff _ _).2 rfl)]
              left
              show (Ty.mk u.args u.base, (0 : Int)) = (u, 0)
              rw [Ty.eta]
            · rw [if_pos (by rw [h2]; decide)]
              exact .inr h2
          · rw [if_pos (by rw [h1]; decide)]
            exact .inr h1
        | [p], hg => exact hg.2.elim
        | p :: q :: q' :: _, hg => exact hg.2.2.elim
      · rw [if_neg h4] at h ⊢
        rw [h.1, headRes]
        split
        · exact .inr rfl
        · exact .inl rfl
theorem typs_good (b : Int) (c m : List Ty) : ∀ (l : List Rw) (x us : List Ty), Rw.TypL c m x l us → GoodL (Rw.infers b c m x l) us
  | [], x, [], _ => True.intro
  | [], x, u :: us, h => h.elim
  | r :: l, x, [], h => h.elim
  | r :: l, x, u :: us, h => ⟨typ_good b c m r x u h.1, typs_good b c m l x us h.2⟩
end

/-! ### Indexes -/

theorem headTy_zero (c m x : List Ty) (i : Int) : headTy c m x 0 i = if 0 ≤ i then x.reverse[i.toNat]? else none := by
  unfold headTy
  by_cases h : i < 0
  · rw [if_pos h, if_neg (by omega)]
  · have h' : 0 ≤ i := by omega
    rw [if_neg h, if_pos rfl, if_pos h']
    by_cases hl : i < x.length
    · rw [if_pos hl, List.getElem?_reverse (by omega)]
    · rw [if_neg hl, List.getElem?_eq_none (by rw [List.length_reverse]; omega)]
theorem headTy_other (c m x y : List Ty) {k i : Int} (h : k ≠ 0) : headTy c m x k i = headTy c m y k i := by
  unfold headTy; rw [if_neg h, if_neg h]

theorem Rw.kids_depth {k i : Int} {t : Ty} {l : List Rw} {r : Rw} (h : r ∈ l) : r.depth < (Rw.mk k t i l).depth := Rw.depth_kid (r := .mk k t i l) h

mutual
theorem grow_typ (c m : List Ty) : ∀ (r : Rw) (g e d : List Ty) (u : Ty), g.length + e.length + d.length + r.depth ≤ 1000000000 → Rw.Typ c m (g ++ d) r u → Rw.Typ c m (g ++ e ++ d) (r.grow e.length d.length) u
  | .mk k t i l, g, e, d, u, hb, h => by
    rw [Rw.Typ] at h
    rw [Rw.grow]
    by_cases h0 : k = 0
    · subst h0
      rw [if_neg (by decide), if_neg (by decide), headTy_zero] at h
      obtain ⟨h, rfl⟩ := h
      rw [if_pos rfl]
      split at h
      · rename_i hi
        rw [List.reverse_append] at h
        split
        · rename_i hd
          rw [List.getElem?_append_right (by rw [List.length_reverse]; omega)] at h
          have hlt := (List.getElem?_eq_some_iff.1 h).1
          rw [List.length_reverse, List.length_reverse] at hlt
          rw [Rw.Typ, if_neg (by decide), if_neg (by decide), headTy_zero, wrap_i (by omega) (by omega), if_pos (by omega), List.reverse_append, List.reverse_append, List.getElem?_append_right (by rw [List.length_reverse]; omega),
            List.getElem?_append_right (by rw [List.length_reverse, List.length_reverse]; omega)]
          refine ⟨?_, rfl⟩
          rw [← h]
          congr 1
          simp only [List.length_reverse]; omega
        · rename_i hd
          rw [List.getElem?_append_left (by rw [List.length_reverse]; omega)] at h
          rw [Rw.Typ, if_neg (by decide), if_neg (by decide), headTy_zero, if_pos (by omega), List.reverse_append, List.getElem?_append_left (by rw [List.length_reverse]; omega)]
          exact ⟨h, rfl⟩
      · cases h
    · rw [if_neg h0, Rw.Typ]
      have hk : ∀ r ∈ l, r.depth < (Rw.mk k t i l).depth := fun r hr => Rw.kids_depth hr
      by_cases h3 : k = 3
      · rw [if_pos h3] at h ⊢
        rw [if_pos h3]
        obtain ⟨v, hv, hl⟩ := h
        rw [List.append_assoc] at hl
        have := grows_typ c m l g e (d ++ [t]) [v] (fun r hr => by have := hk r hr; rw [List.length_append, List.length_singleton]; omega) hl
        rw [List.length_append, List.length_singleton, ← List.append_assoc] at this
        exact ⟨v, hv, this⟩
      · rw [if_neg h3] at h ⊢
        rw [if_neg h3]
        by_cases h4 : k = 4
        · rw [if_pos h4] at h ⊢
          obtain ⟨v, hl⟩ := h
          exact ⟨v, grows_typ c m l g e d _ (fun r hr => by have := hk r hr; omega) hl⟩
        · rw [if_neg h4] at h ⊢
          obtain ⟨h, rfl⟩ := h
          exact ⟨by rw [headTy_other c m _ (g ++ d) h0]; exact h, rfl⟩
theorem grows_typ (c m : List Ty) : ∀ (l : List Rw) (g e d : List Ty) (us : List Ty), (∀ r ∈ l, g.length + e.length + d.length + r.depth ≤ 1000000000) → Rw.TypL c m (g ++ d) l us → Rw.TypL c m (g ++ e ++ d) (Rw.grows e.length d.length l) us
  | [], g, e, d, [], _, _ => by rw [Rw.grows, Rw.TypL]; exact True.intro
  | [], g, e, d, u :: us, _, h => h.elim
  | r :: l, g, e, d, [], _, h => h.elim
  | r :: l, g, e, d, u :: us, hb, h => ⟨grow_typ c m r g e d u (hb r List.mem_cons_self) h.1, grows_typ c m l g e d us (fun r hr => hb r (List.mem_cons_of_mem _ hr)) h.2⟩
end

mutual
theorem subst_typ (c m : List Ty) {g : List Ty} {s : Ty} {a : Rw} (ha : Rw.Typ c m g a s) : ∀ (r : Rw) (d : List Ty) (u : Ty), g.length + d.length + r.depth + a.depth ≤ 100000000 → Rw.Typ c m (g ++ [s] ++ d) r u → Rw.Typ c m (g ++ d) (Rw.subst a d.length r) u
  | .mk k t i l, d, u, hb, h => by
    rw [Rw.Typ] at h
    rw [Rw.subst]
    by_cases h0 : k = 0
    · subst h0
      rw [if_neg (by decide), if_neg (by decide), headTy_zero] at h
      obtain ⟨h, rfl⟩ := h
      rw [if_pos rfl]
      split at h
      · rename_i hi
        rw [List.reverse_append, List.reverse_append] at h
        split
        · rename_i hd
          rw [List.getElem?_append_right (by rw [List.length_reverse]; omega), List.length_reverse] at h
          split
          · rename_i he
            have e0 : i.toNat - d.length = 0 := by omega
            rw [e0] at h
            have hus : s = u := by simpa using h
            subst hus
            have := grow_typ c m a g d [] s (by simp; omega) (by rw [List.append_nil]; exact ha)
            rw [List.append_nil] at this
            exact this
          · rename_i he
            have e1 : i.toNat - d.length = (i.toNat - 1 - d.length) + 1 := by omega
            rw [e1] at h
            have h' : g.reverse[i.toNat - 1 - d.length]? = some u := by simpa using h
            have hlt := (List.getElem?_eq_some_iff.1 h').1
            rw [List.length_reverse] at hlt
            rw [Rw.Typ, if_neg (by decide), if_neg (by decide), headTy_zero, wrap_i (by omega) (by omega), if_pos (by omega), List.reverse_append, List.getElem?_append_right (by rw [List.length_reverse]; omega)]
            refine ⟨?_, rfl⟩
            rw [← h']
            congr 1
            simp only [List.length_reverse]; omega
        · rename_i hd
          rw [List.getElem?_append_left (by rw [List.length_reverse]; omega)] at h
          rw [Rw.Typ, if_neg (by decide), if_neg (by decide), headTy_zero, if_pos (by omega), List.reverse_append, List.getElem?_append_left (by rw [List.length_reverse]; omega)]
          exact ⟨h, rfl⟩
      · cases h
    · rw [if_neg h0, Rw.Typ]
      have hk : ∀ r ∈ l, r.depth < (Rw.mk k t i l).depth := fun r hr => Rw.kids_depth hr
      by_cases h3 : k = 3
      · rw [if_pos h3] at h ⊢
        rw [if_pos h3]
        obtain ⟨v, hv, hl⟩ := h
        rw [List.append_assoc] at hl
        have := substs_typ c m ha l (d ++ [t]) [v] (fun r hr => by have := hk r hr; rw [List.length_append, List.length_singleton]; omega) hl
        rw [List.length_append, List.length_singleton, ← List.append_assoc] at this
        exact ⟨v, hv, this⟩
      · rw [if_neg h3] at h ⊢
        rw [if_neg h3]
        by_cases h4 : k = 4
        · rw [if_pos h4] at h ⊢
          obtain ⟨v, hl⟩ := h
          exact ⟨v, substs_typ c m ha l d _ (fun r hr => by have := hk r hr; omega) hl⟩
        · rw [if_neg h4] at h ⊢
          obtain ⟨h, rfl⟩ := h
          exact ⟨by rw [headTy_other c m _ (g ++ [s] ++ d) h0]; exact h, rfl⟩
theorem substs_typ (c m : List Ty) {g : List Ty} {s : Ty} {a : Rw} (ha : Rw.Typ c m g a s) : ∀ (l : List Rw) (d : List Ty) (us : List Ty), (∀ r ∈ l, g.length + d.length + r.depth + a.depth ≤ 100000000) → Rw.TypL c m (g ++ [s] ++ d) l us → Rw.TypL c m (g ++ d) (Rw.substs a d.length l) us
  | [], d, [], _, _ => by rw [Rw.substs, Rw.TypL]; exact True.intro
  | [], d, u :: us, _, h => h.elim
  | r :: l, d, [], _, h => h.elim
  | r :: l, d, u :: us, hb, h => ⟨subst_typ c m ha r d u (hb r List.mem_cons_self) h.1, substs_typ c m ha l d us (fun r hr => hb r (List.mem_cons_of_mem _ hr)) h.2⟩
end

/-! ### A step keeps a type -/

theorem redex_typ (c m : List Ty) {k t i k' t' i' b a} {x : List Ty} {u : Ty} (hre : Rw.redex (.mk k t i [.mk k' t' i' [b], a]) = true) (h : Rw.Typ c m x (.mk k t i [.mk k' t' i' [b], a]) u) (hb : x.length + (Rw.mk k t i [.mk k' t' i' [b], a]).depth ≤ 10000000) : Rw.Typ c m x (Rw.subst a 0 b) u := by
  simp only [Rw.redex, Bool.and_eq_true, beq_iff_eq, Rw.kind_mk] at hre
  obtain ⟨rfl, rfl, _⟩ := hre
  rw [Rw.Typ, if_neg (by decide), if_pos rfl] at h
  obtain ⟨v, hl⟩ := h
  obtain ⟨f, a', e, h1, h2⟩ := typL_two hl
  simp only [List.cons.injEq, and_true] at e
  obtain ⟨rfl, rfl⟩ := e
  rw [Rw.Typ, if_pos rfl] at h1
  obtain ⟨w, hw, hl2⟩ := h1
  obtain ⟨b', e, h3⟩ := typL_one hl2
  simp only [List.cons.injEq, and_true] at e
  subst e
  rw [Ty.arrow] at hw
  simp only [Ty.mk.injEq, List.cons_append, List.nil_append, List.cons.injEq] at hw
  obtain ⟨⟨rfl, ha⟩, hbs⟩ := hw
  have huw : u = w := by rw [← Ty.eta u, ← Ty.eta w, ha, hbs]
  subst huw
  have d1 : (Rw.mk 3 v i' [b]).depth < _ := Rw.kids_depth (k := 4) (t := t) (i := i) (l := [.mk 3 v i' [b], a]) (by simp)
  have d2 : a.depth < _ := Rw.kids_depth (k := 4) (t := t) (i := i) (l := [.mk 3 v i' [b], a]) (by simp)
  have d3 : b.depth < _ := Rw.kids_depth (k := 3) (t := v) (i := i') (l := [b]) (by simp)
  have := subst_typ c m h2 b [] u (by simp only [List.length_nil]; omega) (by rw [List.append_nil]; exact h3)
  rw [List.append_nil] at this
  exact this

mutual
theorem step_typ (c m : List Ty) : ∀ (r : Rw) (x : List Ty) (u : Ty), x.length + r.depth ≤ 10000000 → Rw.Typ c m x r u → Rw.Typ c m x r.step.1 u
  | .mk k t i l, x, u, hb, h => by
    rw [Rw.step]
    split
    · rename_i hre
      split
      · rename_i p hp
        obtain ⟨k', t', i', rfl⟩ := redexOf_some hp
        exact redex_typ c m hre h hb
      · exact h
    · split
      · rename_i l' hl
        have hk : ∀ r ∈ l, r.depth < (Rw.mk k t i l).depth := fun r hr => Rw.kids_depth hr
        rw [Rw.Typ] at h ⊢
        by_cases h3 : k = 3
        · rw [if_pos h3] at h ⊢
          obtain ⟨v, hv, hl2⟩ := h
          exact ⟨v, hv, steps_typ c m l l' (x ++ [t]) [v] (fun r hr => by have := hk r hr; rw [List.length_append, List.length_singleton]; omega) hl2 hl⟩
        · rw [if_neg h3] at h ⊢
          by_cases h4 : k = 4
          · rw [if_pos h4] at h ⊢
            obtain ⟨v, hl2⟩ := h
            exact ⟨v, steps_typ c m l l' x _ (fun r hr => by have := hk r hr; omega) hl2 hl⟩
          · rw [if_neg h4] at h ⊢
            obtain ⟨h, rfl⟩ := h
            cases hl
      · exact h
theorem steps_typ (c m : List Ty) : ∀ (l l' : List Rw) (x us : List Ty), (∀ r ∈ l, x.length + r.depth ≤ 10000000) → Rw.TypL c m x l us → Rw.steps l = some l' → Rw.TypL c m x l' us
  | [], _, _, _, _, _, h => by cases h
  | r :: l, l', x, [], hb, h, hs => h.elim
  | r :: l, l', x, u :: us, hb, h, hs => by
    rw [Rw.steps] at hs
    split at hs
    · obtain rfl := Option.some.inj hs
      exact ⟨step_typ c m r x u (hb r List.mem_cons_self) h.1, h.2⟩
    · cases hl : Rw.steps l with
      | none => rw [hl] at hs; cases hs
      | some l2 =>
        rw [hl] at hs
        obtain rfl := Option.some.inj hs
        exact ⟨h.1, steps_typ c m l l2 x us (fun r hr => hb r (List.mem_cons_of_mem _ hr)) h.2 hl⟩
end

end Go.Proofs.Ytfbncddnakaaiaa
/- A step keeps a raw term's type: RawKeeps. -/
namespace Go.Proofs.Ytfbncddnakaaiaa
open Go
set_option linter.unusedSimpArgs false
set_option linter.unusedVariables false

theorem RawKeeps_calls {b : Int} {c m x : List Ty} {r : Rw} (hok : r.Ok) : PureIs Try.prog 9 [.agg [nI b, .sl (c.map Ty.enc), .sl (m.map Ty.enc)], .sl (x.map Ty.enc), r.enc] (nB true) := by
  have he := Rw.enc_eq r
  have hfew := rwFews_calls (l := [r]) (by simp)
  rw [List.map_cons, List.map_nil, he] at hfew
  rw [he]
  refine vc9_ok ⟨_, hfew, ITE.intro (fun h => ⟨_, known07_calls, rfl⟩) fun h => ?_⟩
  have hr : r.total ≤ 300 := rwfew1 (by simpa using h)
  refine ⟨_, small_calls b c m x, ITE.intro (fun h => ⟨_, known07_calls, rfl⟩) fun h => ?_⟩
  obtain ⟨⟨_, _, g3⟩, ⟨h1, h2, h3⟩, h4, h5, _⟩ := small_all (c := c) (m := m) (x := x) (by simpa using h)
  have hc : ∀ t ∈ c, t.size ≤ 500000000 := fun t ht => by have := h4 t ht; omega
  have hm : ∀ t ∈ m, t.size ≤ 500000000 := fun t ht => by have := h5 t ht; omega
  have hto := rwTo_calls _ r (Nat.le_refl _) (by omega)
  rw [he] at hto
  have hi := Infer_calls (b := b) (x := x) hc hm hok (by omega)
  rw [he] at hi
  have hz : (if r.rightB = true then r.infer b c m x else (noT, 1)).1.size ≤ 1000 := by
    split
    · exact Rw.infer_size b c m r x
    · simp [Ty.size, Ty.sizes]
  have hinit : (if r.rightB = true then r.infer b c m x else (noT, 1)).2 = 0 → r.Nice ∧ r.rightB = true ∧ Rw.Typ c m x r (if r.rightB = true then r.infer b c m x else (noT, 1)).1 := by
    intro h0
    by_cases hri : r.rightB = true
    · rw [if_pos hri] at h0 ⊢
      have hsh : r.shaped = true := by rw [Rw.rightB, Bool.and_eq_true] at hri; exact hri.1
      exact ⟨Rw.nice_of r hok hsh hr, hri, infer_typ b c m r x _ hsh (by rw [← h0])⟩
    · rw [if_neg hri] at h0; cases h0
  generalize (if r.rightB = true then r.infer b c m x else (noT, 1)) = q at hi hz hinit
  have heq := equal_calls _ q.1 q.1 (Nat.le_refl _) (by omega)
  rw [(Ty.same_iff _ _).2 rfl, Ty.enc_eq] at heq
  have round : ∀ s : Rw, s.Nice → s.rightB = true → Rw.Typ c m x s q.1 → ∃ (y : Rw) (b1 : Bool) (p : Ty × Int),
      PureIs Try.prog 48 [.agg [nI s.kind, .sl (s.type.args.map Ty.enc), nI s.type.base, nI s.index, .sl (s.kids.map Rw.enc)]] (encRB y b1) ∧
      PureIs Try.prog 49 [.agg [nI y.kind, .sl (y.type.args.map Ty.enc), nI y.type.base, nI y.index, .sl (y.kids.map Rw.enc)]] (nB y.rightB) ∧
      (y.rightB = true → PureIs Try.prog 43 [.agg [nI b, .sl (c.map Ty.enc), .sl (m.map Ty.enc)], .sl (x.map Ty.enc), .agg [nI y.kind, .sl (y.type.args.map Ty.enc), nI y.type.base, nI y.index, .sl (y.kids.map Rw.enc)]] (encTE p)) ∧
      (y.rightB = true → Good p q.1) ∧ (y.rightB = true → y.Nice ∧ y.rightB = true ∧ Rw.Typ c m x y q.1) := by
    intro s hn hr ht
    rw [Rw.rightB, Bool.and_eq_true, Bool.and_eq_true, decide_eq_true_eq, decide_eq_true_eq] at hr
    have hst := Step_calls (step_calls _ s (Nat.le_refl _) hn.fit (by omega)) hn.step.fit
    have hri := rightF_calls hn.step.fit
    have hty := step_typ c m s x q.1 (by omega) ht
    rw [Rw.enc_eq] at hst hri
    refine ⟨_, _, s.step.1.infer b c m x, hst, hri, fun hy => ?_, fun _ => typ_good b c m _ x q.1 hty, fun hy => ⟨hn.step, hy, hty⟩⟩
    have hy' := hy
    rw [Rw.rightB, Bool.and_eq_true, Bool.and_eq_true, decide_eq_true_eq, decide_eq_true_eq] at hy'
    have htot := hn.step.total
    have hin := Infer_calls (b := b) (x := x) (r := s.step.1) hc hm hn.step.ok (by have := hy'.2.1; omega)
    rw [if_pos hy, Rw.enc_eq] at hin
    exact hin
  have key1 : vc9_L6 (((), x.map Ty.enc, (), (), q.2, 0, ()), ((b, c.map Ty.enc, m.map Ty.enc, ()), (r.kind, r.type.args.map Ty.enc, r.type.base, r.index, r.kids.map Rw.enc, ()), (b, c.map Ty.enc, m.map Ty.enc, ()), (r.kind, r.type.args.map Ty.enc, r.type.base, r.index, r.kids.map Rw.enc, ()), (q.1.args.map Ty.enc, q.1.base, ()), ())) (fun x => x = nB true) := by
    refine LoopP.intro (fun p : Nat × Rw => (((), x.map Ty.enc, (), (), q.2, (p.1 : Int), ()), ((b, c.map Ty.enc, m.map Ty.enc, ()), (r.kind, r.type.args.map Ty.enc, r.type.base, r.index, r.kids.map Rw.enc, ()), (b, c.map Ty.enc, m.map Ty.enc, ()), (p.2.kind, p.2.type.args.map Ty.enc, p.2.type.base, p.2.index, p.2.kids.map Rw.enc, ()), (q.1.args.map Ty.enc, q.1.base, ()), ())))
      (fun p => p.1 ≤ 20 ∧ (q.2 = 0 → p.2.Nice ∧ p.2.rightB = true ∧ Rw.Typ c m x p.2 q.1)) (fun p => 20 - p.1) (0, r) rfl ⟨Nat.zero_le _, hinit⟩ ?_
    intro ⟨k, s⟩ ⟨hk, hinv⟩ again hag
    dsimp only at hk hinv ⊢
    refine ITE.intro (fun h => ITE.intro (fun h2 => ?_) fun _ => ⟨_, known07_calls, rfl⟩) fun _ => ⟨_, known07_calls, rfl⟩
    have hk2 : k < 20 := by have := of_decide_eq_true h2; omega
    obtain ⟨hn, hr, ht⟩ := hinv (by simpa using h)
    obtain ⟨y, b1, p, hst, hri, hin, hgo, hnext⟩ := round s hn hr ht
    refine ⟨_, _, _, _, _, _, hst, ITE.intro (fun _ => ⟨_, known07_calls, rfl⟩) fun _ => ⟨_, hri, ITE.intro (fun _ => ⟨_, known07_calls, rfl⟩) fun hy => ⟨_, _, _, hin (by simpa using hy), ?_⟩⟩⟩
    have go := hag (k + 1, y) ⟨by dsimp only; omega, fun _ => hnext (by simpa using hy)⟩ (by dsimp only; omega)
    rw [wrap_n (by omega)]
    rcases hgo (by simpa using hy) with rfl | h2
    · exact ITE.neg rfl (ITE.pos rfl ⟨_, heq, ITE.neg rfl go⟩)
    · rw [h2]
      exact ITE.pos rfl (ITE.neg rfl (ITE.neg rfl go))
  have key2 : vc9_L6' (((), x.map Ty.enc, (), (), q.2, 0, ()), ((b, c.map Ty.enc, m.map Ty.enc, ()), (r.kind, r.type.args.map Ty.enc, r.type.base, r.index, r.kids.map Rw.enc, ()), (r.kind, r.type.args.map Ty.enc, r.type.base, r.index, r.kids.map Rw.enc, ()), (b, c.map Ty.enc, m.map Ty.enc, ()), (q.1.args.map Ty.enc, q.1.base, ()), ())) (fun x => x = nB true) := by
    refine LoopP.intro (fun p : Nat × Rw => (((), x.map Ty.enc, (), (), q.2, (p.1 : Int), ()), ((b, c.map Ty.enc, m.map Ty.enc, ()), (r.kind, r.type.args.map Ty.enc, r.type.base, r.index, r.kids.map Rw.enc, ()), (p.2.kind, p.2.type.args.map Ty.enc, p.2.type.base, p.2.index, p.2.kids.map Rw.enc, ()), (b, c.map Ty.enc, m.map Ty.enc, ()), (q.1.args.map Ty.enc, q.1.base, ()), ())))
      (fun p => p.1 ≤ 20 ∧ (q.2 = 0 → p.2.Nice ∧ p.2.rightB = true ∧ Rw.Typ c m x p.2 q.1)) (fun p => 20 - p.1) (0, r) rfl ⟨Nat.zero_le _, hinit⟩ ?_
    intro ⟨k, s⟩ ⟨hk, hinv⟩ again hag
    dsimp only at hk hinv ⊢
    refine ITE.intro (fun h => ITE.intro (fun h2 => ?_) fun _ => ⟨_, known07_calls, rfl⟩) fun _ => ⟨_, known07_calls, rfl⟩
    have hk2 : k < 20 := by have := of_decide_eq_true h2; omega
    obtain ⟨hn, hr, ht⟩ := hinv (by simpa using h)
    obtain ⟨y, b1, p, hst, hri, hin, hgo, hnext⟩ := round s hn hr ht
    refine ⟨_, _, _, _, _, _, hst, ITE.intro (fun _ => ⟨_, known07_calls, rfl⟩) fun _ => ⟨_, hri, ITE.intro (fun _ => ⟨_, known07_calls, rfl⟩) fun hy => ⟨_, _, _, hin (by simpa using hy), ?_⟩⟩⟩
    have go := hag (k + 1, y) ⟨by dsimp only; omega, fun _ => hnext (by simpa using hy)⟩ (by dsimp only; omega)
    rw [wrap_n (by omega)]
    rcases hgo (by simpa using hy) with rfl | h2
    · exact ITE.neg rfl (ITE.pos rfl ⟨_, heq, ITE.neg rfl go⟩)
    · rw [h2]
      exact ITE.pos rfl (ITE.neg rfl (ITE.neg rfl go))
  exact ⟨_, _, _, world_calls (by omega) (by omega), _, tysTo_calls (by omega), _, _, _, _, _, hto, ⟨_, _, _, hi, key1⟩, ⟨_, _, _, hi, key2⟩⟩

end Go.Proofs.Ytfbncddnakaaiaa
