/- Contracts: pattern.places, types, Take. -/
import Derived.Test.YtfbncddnakaaiaaP04
namespace Go.Proofs.Ytfbncddnakaaiaa
open Go
set_option linter.unusedSimpArgs false
set_option linter.unusedVariables false

theorem mapGet_snoc {l : List (Int × Value)} {i v : Int} {x : Value} (h : mapGet l v = none) : mapGet (mapPut l v x) i = if i = v then some x else mapGet l i := by
  induction l with
  | nil => rfl
  | cons p l ih =>
    obtain ⟨k, u⟩ := p
    simp only [mapGet] at h
    split at h
    · cases h
    · rename_i hk
      simp only [mapPut, if_neg hk, mapGet, ih h]
      by_cases h1 : i = k
      · subst h1; rw [if_pos rfl, if_neg (fun e => hk e.symm), if_pos rfl]
      · rw [if_neg h1, if_neg h1]

/-- where a number stands among some. -/
def posN : List Int → Int → Option Nat
  | [], _ => none
  | v :: l, i => if i = v then some 0 else (posN l i).map (· + 1)
theorem posN_none {l : List Int} {i : Int} : posN l i = none ↔ ¬ i ∈ l := by
  induction l with
  | nil => simp [posN]
  | cons v l ih =>
    simp only [posN]
    split
    · rename_i h; simp [h]
    · rename_i h; simp [ih, h]
theorem posN_snoc {l : List Int} {v i : Int} (h : ¬ v ∈ l) : posN (l ++ [v]) i = if i = v then some l.length else posN l i := by
  induction l with
  | nil => simp [posN]
  | cons u l ih =>
    have h1 : ¬ v = u := fun e => h (by rw [e]; simp)
    have h2 : ¬ v ∈ l := fun e => h (List.mem_cons_of_mem _ e)
    simp only [List.cons_append, posN, ih h2]
    by_cases hi : i = u
    · subst hi
      rw [if_pos rfl, if_pos rfl, if_neg (fun e => h1 e.symm)]
    · rw [if_neg hi, if_neg hi]
      split <;> simp
theorem posN_lt {l : List Int} {i : Int} {k : Nat} (h : posN l i = some k) : k < l.length := by
  induction l generalizing k with
  | nil => cases h
  | cons u l ih =>
    simp only [posN] at h
    split at h
    · cases h; simp
    · cases hp : posN l i with
      | none => rw [hp] at h; cases h
      | some j => rw [hp] at h; cases h; have := ih hp; simp; omega

/-- the map that places makes: it stands for the numbers' places. -/
def IsPos (es : List (Int × Value)) (l : List Int) : Prop := ∀ i, mapGet es i = (posN l i).map fun k => Value.int .i64 (k : Nat)

def mayB (n : Int) (l : List Int) : Bool := decide (l.Nodup ∧ ∀ v ∈ l, 0 ≤ v ∧ v < n)

theorem places_calls {n : Int} {l : List Int} (hsz : l.length ≤ 1000000000) : Pure Try.prog 67 [nI n, .sl (encInts l)]
    (fun r => (mayB n l = true ∧ ∃ es, IsPos es l ∧ r = .tup [.mapv es, nB true]) ∨ (mayB n l = false ∧ r = .tup [.prim (.map none), nB false])) := by
  refine vc67_ok ?_
  unfold vc67 vc67_L3
  refine LoopP.intro (fun p : Nat × List (Int × Value) => ((n, (), encInts l, (l.length : Int), (p.1 : Int), ()), (p.2, ()))) (fun p => p.1 ≤ l.length ∧ mayB n (l.take p.1) = true ∧ IsPos p.2 (l.take p.1)) (fun p => l.length - p.1) (0, [])
    (by rw [encInts_len]; rfl) ⟨Nat.zero_le _, by simp [mayB], fun i => rfl⟩ ?_
  intro ⟨k, es⟩ ⟨hk, hm, hp⟩ again hag
  dsimp only at hk hm hp ⊢
  refine ITE.intro (fun h => ?_) fun h => ?_
  · have hlt : k < l.length := by simpa using h
    have hsplit : l = l.take k ++ l[k] :: l.drop (k + 1) := by rw [← List.drop_eq_getElem_cons hlt, List.take_append_drop]
    have bad : ¬ (l[k] ∉ l.take k ∧ 0 ≤ l[k] ∧ l[k] < n) → mayB n l = false := by
      intro hb
      unfold mayB
      rw [decide_eq_false_iff_not]
      rintro ⟨h1, h2⟩
      refine hb ⟨fun hmem => ?_, h2 _ (List.getElem_mem hlt)⟩
      rw [hsplit, List.nodup_append] at h1
      exact h1.2.2 _ hmem _ List.mem_cons_self rfl
    refine ⟨by omega, by rw [encInts_len]; omega, _, encInts_getD hlt, ?_⟩
    have hg := hp l[k]
    refine ⟨?_, ?_⟩
    · rw [hg]; cases posN (l.take k) l[k] <;> rfl
    refine ITE.intro (fun h => ?_) fun h => ?_
    · refine .inr ⟨bad fun hh => ?_, rfl⟩
      rw [hg, posN_none.2 hh.1] at h
      cases h
    · have hnone : mapGet es l[k] = none := by simpa using h
      have hnp : posN (l.take k) l[k] = none := by rw [hnone] at hg; cases hq : posN (l.take k) l[k] with
        | none => rfl
        | some j => rw [hq] at hg; cases hg
      have hnm := posN_none.1 hnp
      refine ITE.intro (fun h => ?_) fun h => ?_
      · exact .inr ⟨bad fun hh => by simp at h; omega, rfl⟩
      refine ITE.intro (fun h2 => ?_) fun h2 => ?_
      · exact .inr ⟨bad fun hh => by simp at h2; omega, rfl⟩
      rw [wrap_n (by omega)]
      refine hag (k + 1, mapPut es l[k] (.int .i64 (k : Int))) ⟨by simp only; omega, ?_, ?_⟩ (by simp only; omega)
      · unfold mayB at hm ⊢
        rw [decide_eq_true_eq] at hm ⊢
        rw [List.take_succ_eq_append_getElem hlt]
        refine ⟨?_, fun v hv => ?_⟩
        · rw [List.nodup_append]
          exact ⟨hm.1, by simp, fun a ha b hb e => by rw [List.mem_singleton.1 hb] at e; rw [e] at ha; exact hnm ha⟩
        · rcases List.mem_append.1 hv with h3 | h3
          · exact hm.2 v h3
          · rw [List.mem_singleton.1 h3]; simp at h h2; omega
      · intro i
        have : (l.take k).length = k := by simp; omega
        rw [mapGet_snoc hnone, List.take_succ_eq_append_getElem hlt, posN_snoc hnm, this, hp i]
        split <;> rfl
  · have : l.length ≤ k := by simpa using h
    rw [List.take_of_length_le this] at hm hp
    exact .inl ⟨hm, es, hp, rfl⟩

theorem mayB_iff {n : Int} {l : List Int} : mayB n l = true ↔ l.Nodup ∧ ∀ v ∈ l, 0 ≤ v ∧ v < n := by simp [mayB]

def typesOf (b : List Ty) (l : List Int) : List Ty := l.map fun v => b.getD (b.length - 1 - v.toNat) (.mk [] 0)

theorem types_calls {b : List Ty} {l : List Int} (hb : b.length ≤ 1000000000) (hsz : l.length ≤ 1000000000) (hm : ∀ v ∈ l, 0 ≤ v ∧ v < b.length) : PureIs Try.prog 71 [.sl (b.map Ty.enc), .sl (encInts l)] (.sl ((typesOf b l).map Ty.enc)) := by
  refine vc71_ok ⟨rfl, ?_⟩
  refine LoopP.intro (fun k : Nat => ((b.map Ty.enc, (), encInts l, (l.length : Int), (k : Int), ()), ((typesOf b (l.take k)).map Ty.enc, ()))) (fun k => k ≤ l.length) (fun k => l.length - k) 0 (by rw [encInts_len]; rfl) (Nat.zero_le _) ?_
  intro k hk again hag
  dsimp only
  refine ITE.intro (fun h => ?_) fun h => ?_
  · have hlt : k < l.length := by simpa using h
    have hv := hm l[k] (List.getElem_mem hlt)
    obtain ⟨v, hvn⟩ : ∃ v : Nat, l[k] = (v : Int) := ⟨l[k].toNat, by omega⟩
    have hw : IntKind.wrap .i64 (IntKind.wrap .i64 (((List.length (b.map Ty.enc) : Nat) : Int) - 1) - l[k]) = ((b.length - 1 - v : Nat) : Int) := by
      rw [List.length_map, wrap_i (n := (b.length : Int) - 1) (by omega) (by omega), wrap_i (by omega) (by omega)]; omega
    refine ⟨by omega, by rw [encInts_len]; omega, _, encInts_getD hlt, ?_⟩
    rw [hw]
    have hlt2 : b.length - 1 - v < b.length := by omega
    refine ⟨by omega, by rw [List.length_map]; omega, _, _, Ty.enc_getD hlt2, rfl, appOk_one rfl (by simp [typesOf]; omega) (by decide), rfl, ?_⟩
    rw [wrap_n (by omega), Ty.enc_snoc]
    have : typesOf b (l.take k) ++ [b[b.length - 1 - v]] = typesOf b (l.take (k + 1)) := by
      rw [List.take_succ_eq_append_getElem hlt]
      simp [typesOf, hvn, List.getD, hlt2]
    rw [this]
    exact hag (k + 1) (by omega) (by omega)
  · have : l.length ≤ k := by simpa using h
    refine ⟨rfl, ?_⟩
    rw [List.take_of_length_le this]

/-! ### Take -/

def takeHp (t : Tm) (n m : Int) (es : List (Int × Value)) (e : Int) : List AObj :=
  [.box [.sl (t.binds.map Ty.enc), nI t.kind, nI t.index, .sl (t.args.map Tm.enc)], .box [.prim (.slice none 0 0), nI 0, nI 0, .prim (.slice none 0 0)], .box [nI n], .box [nI m], .box [.mapv es], .box [nI e]]

/-- what an index that is loose becomes. -/
def takeIx (n : Int) (l : List Int) (i : Int) : Int := if n ≤ i then i - n + l.length else l.length - 1 - ((posN l i).getD 0 : Nat)
def takeBad (n : Int) (l : List Int) (i : Int) : Bool := decide (i < n ∧ ¬ i ∈ l)

theorem take1_calls {t : Tm} {n : Nat} {l : List Int} {es : List (Int × Value)} {e i : Int} (hp : IsPos es l) (hn : n ≤ 1000000000) (hl : l.length ≤ n) (hi : 0 ≤ i) (hi2 : i < 9223372036854775808) :
    HFn Try.prog 69 [nI i, .ptr 2 0, .ptr 3 0, .ptr 4 0, .ptr 5 0] (takeHp t n l.length es e)
      (fun r h => r = nI (takeIx n l i) ∧ h = takeHp t n l.length es (if takeBad n l i then 9 else e)) := by
  refine vc69_ok (ITE.intro (fun h => ?_) fun h => ?_)
  · have : (n : Int) ≤ i := by simpa using h
    rw [wrap_i (n := i - n) (by omega) (by omega), wrap_i (by omega) (by omega)]
    have h2 : takeBad n l i = false := by simp [takeBad]; omega
    rw [h2, takeIx, if_pos this]; exact ⟨rfl, rfl⟩
  · have hlt : ¬ (n : Int) ≤ i := by simpa using h
    have hg := hp i
    have hv : vInt (Option.getD (mapGet es i) (.int .i64 0)) = ((posN l i).getD 0 : Nat) := by rw [hg]; cases posN l i <;> rfl
    have hlp : ((posN l i).getD 0) ≤ l.length := by
      cases hq : posN l i with
      | none => simp
      | some k => have := posN_lt hq; simp; omega
    refine ⟨by rw [hg]; cases posN l i <;> rfl, ?_⟩
    rw [hv, wrap_i (n := (l.length : Int) - 1) (by omega) (by omega), wrap_i (by omega) (by omega), takeIx, if_neg hlt]
    refine ITE.intro (fun h => ?_) fun h => ?_
    · have : posN l i = none := by
        rw [hg] at h
        cases hq : posN l i with
        | none => rfl
        | some k => rw [hq] at h; cases h
      have h2 : takeBad n l i = true := by simp [takeBad, posN_none.1 this]; omega
      rw [h2]; exact ⟨rfl, rfl⟩
    · have : ¬ posN l i = none := by
        rw [hg] at h
        intro hq; rw [hq] at h; cases h
      have h2 : takeBad n l i = false := by
        unfold takeBad
        rw [decide_eq_false_iff_not]
        rintro ⟨_, h3⟩
        exact this (posN_none.2 h3)
      rw [h2]; exact ⟨rfl, rfl⟩

mutual
def Tm.taken (n : Int) (l : List Int) : Nat → Tm → Tm
  | a, .mk b k i xs => .mk b k (if k = 0 ∧ (a + b.length : Nat) ≤ i then (a + b.length : Nat) + takeIx n l (i - (a + b.length : Nat)) else i) (Tm.takens n l (a + b.length) xs)
def Tm.takens (n : Int) (l : List Int) : Nat → List Tm → List Tm
  | _, [] => []
  | a, t :: ts => Tm.taken n l a t :: Tm.takens n l a ts
end
mutual
def Tm.clash (n : Int) (l : List Int) : Nat → Tm → Bool
  | a, .mk b k i xs => decide (k = 0 ∧ (a + b.length : Nat) ≤ i ∧ takeBad n l (i - (a + b.length : Nat)) = true) || Tm.clashs n l (a + b.length) xs
def Tm.clashs (n : Int) (l : List Int) : Nat → List Tm → Bool
  | _, [] => false
  | a, t :: ts => Tm.clash n l a t || Tm.clashs n l a ts
end
theorem Tm.takens_eq (n : Int) (l : List Int) (a : Nat) (ts : List Tm) : Tm.takens n l a ts = ts.map (Tm.taken n l a) := by
  induction ts with
  | nil => rfl
  | cons t ts ih => simp [Tm.takens, ih]
theorem Tm.clashs_eq (n : Int) (l : List Int) (a : Nat) (ts : List Tm) : Tm.clashs n l a ts = ts.any (Tm.clash n l a) := by
  induction ts with
  | nil => rfl
  | cons t ts ih => simp [Tm.clashs, ih]
theorem Tm.taken_eq (n : Int) (l : List Int) (a : Nat) (t : Tm) : Tm.taken n l a t = .mk t.binds t.kind (if t.kind = 0 ∧ (a + t.binds.length : Nat) ≤ t.index then (a + t.binds.length : Nat) + takeIx n l (t.index - (a + t.binds.length : Nat)) else t.index) (t.args.map (Tm.taken n l (a + t.binds.length))) := by
  cases t; rw [Tm.taken, Tm.takens_eq]; rfl
theorem Tm.clash_eq (n : Int) (l : List Int) (a : Nat) (t : Tm) : Tm.clash n l a t = (decide (t.kind = 0 ∧ (a + t.binds.length : Nat) ≤ t.index ∧ takeBad n l (t.index - (a + t.binds.length : Nat)) = true) || t.args.any (Tm.clash n l (a + t.binds.length))) := by
  cases t; rw [Tm.clash, Tm.clashs_eq]; rfl

theorem turned_calls {n : Nat} {l : List Int} {es : List (Int × Value)} {u : Tm} (hp : IsPos es l) (hn : n ≤ 1000000000) (hl : l.length ≤ n) : ∀ (d : Nat) (t : Tm) (a : Nat) (e : Int), t.size ≤ d → d ≤ 1000000000 → t.Ok → a + t.size ≤ 2000000000 →
    HFn Try.prog 68 [t.enc, nI a, .clo 69 [.ptr 2 0, .ptr 3 0, .ptr 4 0, .ptr 5 0]] (takeHp u n l.length es e)
      (fun r h => r = (Tm.taken n l a t).enc ∧ h = takeHp u n l.length es (if Tm.clash n l a t then 9 else e)) := by
  intro d
  induction d with
  | zero => intro t a e h; have := t.size_pos; omega
  | succ d ih =>
    intro t a e h hd hk ha
    have hq := Tm.sizes_len t.args
    have hq2 := Ty.sizes_len t.binds
    have hts := t.size_eq
    obtain ⟨hk1, hk2, hk3⟩ := Tm.ok_eq hk
    have hw : IntKind.wrap .i64 ((a : Int) + ((List.length (t.binds.map Ty.enc) : Nat) : Int)) = ((a + t.binds.length : Nat) : Int) := by rw [List.length_map, wrap_i (by omega) (by omega)]; omega
    -- the loop, from an index and an error that are told
    have loop : ∀ (ix e0 : Int), vc68_L6 ((((a + t.binds.length : Nat) : Int), ((), (), (), (), ()), (), (), (), t.args.map Tm.enc, ((List.length (t.args.map Tm.enc) : Nat) : Int), 0, ()), ((u.binds.map Ty.enc, u.kind, u.index, u.args.map Tm.enc, ()), ((), 0, 0, (), ()), ((n : Int), ()), ((l.length : Int), ()), (es, ()), (e0, ()), (t.binds.map Ty.enc, t.kind, ix, t.args.map Tm.enc, ()), ((), 0, 0, (), ()), [], ()))
        (fun r h => r = (Tm.mk t.binds t.kind ix (t.args.map (Tm.taken n l (a + t.binds.length)))).enc ∧ h = takeHp u n l.length es (if t.args.any (Tm.clash n l (a + t.binds.length)) then 9 else e0)) := by
      intro ix e0
      refine LoopP.intro (fun k : Nat => ((((a + t.binds.length : Nat) : Int), ((), (), (), (), ()), (), (), (), t.args.map Tm.enc, (t.args.length : Int), (k : Int), ()), ((u.binds.map Ty.enc, u.kind, u.index, u.args.map Tm.enc, ()), ((), 0, 0, (), ()), ((n : Int), ()), ((l.length : Int), ()), (es, ()), ((if (t.args.take k).any (Tm.clash n l (a + t.binds.length)) then 9 else e0), ()), (t.binds.map Ty.enc, t.kind, ix, t.args.map Tm.enc, ()), ((), 0, 0, (), ()), ((t.args.take k).map (Tm.taken n l (a + t.binds.length))).map Tm.enc, ())))
        (fun k => k ≤ t.args.length) (fun k => t.args.length - k) 0 (by rw [List.length_map]; rfl) (Nat.zero_le _) ?_
      intro k hk again hag
      dsimp only
      refine ITE.intro (fun h => ?_) fun h => ?_
      · have hlt : k < t.args.length := by simpa using h
        have hz := Tm.arg_size hlt
        have hi := ih t.args[k] (a + t.binds.length) (if (t.args.take k).any (Tm.clash n l (a + t.binds.length)) then 9 else e0) (by omega) (by omega) (Tm.Oks_mem hk3 (List.getElem_mem hlt)) (by have := Tm.sizes_mem (List.getElem_mem hlt); omega)
        rw [Tm.enc_eq t.args[k]] at hi
        refine ⟨by omega, by rw [List.length_map]; omega, _, _, _, _, Tm.enc_getD hlt, _, hi, ?_⟩
        rintro r h' ⟨rfl, rfl⟩
        rw [Tm.enc_eq (Tm.taken _ _ _ _)]
        refine ⟨_, _, _, _, _, _, _, _, _, _, _, _, ⟨rfl, rfl⟩, rfl, appOk_one rfl (by simp; omega) (by decide), rfl, ?_⟩
        have e1 : List.map (Tm.taken n l (a + t.binds.length)) (t.args.take k) ++ [Tm.taken n l (a + t.binds.length) t.args[k]] = List.map (Tm.taken n l (a + t.binds.length)) (t.args.take (k + 1)) := by rw [List.take_succ_eq_append_getElem hlt, List.map_append]; rfl
        have e2 : (if Tm.clash n l (a + t.binds.length) t.args[k] = true then 9 else if (t.args.take k).any (Tm.clash n l (a + t.binds.length)) = true then 9 else e0) = (if (t.args.take (k + 1)).any (Tm.clash n l (a + t.binds.length)) = true then (9 : Int) else e0) := by
          rw [List.take_succ_eq_append_getElem hlt, List.any_append]
          simp only [List.any_cons, List.any_nil, Bool.or_false, Bool.or_eq_true]
          generalize Tm.clash n l (a + t.binds.length) t.args[k] = b1
          generalize (t.args.take k).any (Tm.clash n l (a + t.binds.length)) = b2
          cases b1 <;> cases b2 <;> simp
        rw [wrap_n (by omega), Tm.enc_snoc, e1, e2]
        exact hag (k + 1) (by omega) (by omega)
      · have : t.args.length ≤ k := by simpa using h
        refine ⟨rfl, ?_⟩
        rw [List.take_of_length_le this, Tm.enc_mk]
        exact ⟨rfl, rfl⟩
    have hmk : (0 ≤ ((List.length (t.args.map Tm.enc) : Nat) : Int) ∧ ((List.length (t.args.map Tm.enc) : Nat) : Int) ≤ 9223372036854775807 ∧ (TD.bytes td38 : Int) * ((List.length (t.args.map Tm.enc) : Nat) : Int) ≤ 281474976710656) := by
      rw [List.length_map]
      refine ⟨by omega, by omega, ?_⟩
      show (64 : Int) * _ ≤ _
      omega
    rw [Tm.enc_eq t, Tm.taken_eq, Tm.clash_eq]
    refine vc68_ok ?_
    unfold vc68
    rw [hw]
    refine ITE.intro (fun h => ?_) fun h => ?_
    · have h0 : t.kind = 0 := by simpa using h
      refine ITE.intro (fun h => ?_) fun h => ?_
      · have hge : ((a + t.binds.length : Nat) : Int) ≤ t.index := by simpa using h
        unfold I64 at hk2
        rw [wrap_i (n := t.index - ((a + t.binds.length : Nat) : Int)) (by omega) (by omega)]
        refine ⟨_, take1_calls (t := u) (e := e) hp hn hl (by omega) (by omega), ?_⟩
        rintro r h' ⟨rfl, rfl⟩
        refine ⟨_, _, _, _, _, _, _, _, _, ⟨rfl, rfl⟩, hmk, rfl, ?_⟩
        have hb : takeIx n l (t.index - ((a + t.binds.length : Nat) : Int)) ≤ t.index - ((a + t.binds.length : Nat) : Int) + 1000000000 ∧ -1000000000 ≤ takeIx n l (t.index - ((a + t.binds.length : Nat) : Int)) ∧ (n ≤ t.index - ((a + t.binds.length : Nat) : Int) → takeIx n l (t.index - ((a + t.binds.length : Nat) : Int)) ≤ t.index - ((a + t.binds.length : Nat) : Int)) ∧ (t.index - ((a + t.binds.length : Nat) : Int) < n → takeIx n l (t.index - ((a + t.binds.length : Nat) : Int)) ≤ 1000000000) := by
          unfold takeIx
          have hlp : ((posN l (t.index - ((a + t.binds.length : Nat) : Int))).getD 0) ≤ l.length := by
            cases hq : posN l (t.index - ((a + t.binds.length : Nat) : Int)) with
            | none => simp
            | some k => have := posN_lt hq; simp; omega
          split <;> refine ⟨by omega, by omega, fun _ => by omega, fun _ => by omega⟩
        rw [wrap_i (n := ((a + t.binds.length : Nat) : Int) + takeIx n l (t.index - ((a + t.binds.length : Nat) : Int))) (by omega) (by omega), if_pos (show t.kind = 0 ∧ ((a + t.binds.length : Nat) : Int) ≤ t.index from ⟨h0, hge⟩)]
        have e3 : decide (t.kind = 0 ∧ ((a + t.binds.length : Nat) : Int) ≤ t.index ∧ takeBad n l (t.index - ((a + t.binds.length : Nat) : Int)) = true) = takeBad n l (t.index - ((a + t.binds.length : Nat) : Int)) := by
          simp only [h0, hge, true_and, Bool.decide_eq_true]
        rw [e3]
        have := loop (((a + t.binds.length : Nat) : Int) + takeIx n l (t.index - ((a + t.binds.length : Nat) : Int))) (if takeBad n l (t.index - ((a + t.binds.length : Nat) : Int)) = true then 9 else e)
        have e4 : (if t.args.any (Tm.clash n l (a + t.binds.length)) = true then (9 : Int) else if takeBad n l (t.index - ((a + t.binds.length : Nat) : Int)) = true then 9 else e) = (if (takeBad n l (t.index - ((a + t.binds.length : Nat) : Int)) || t.args.any (Tm.clash n l (a + t.binds.length))) = true then 9 else e) := by
          generalize takeBad n l (t.index - ((a + t.binds.length : Nat) : Int)) = b1
          generalize t.args.any (Tm.clash n l (a + t.binds.length)) = b2
          cases b1 <;> cases b2 <;> simp
        rw [e4] at this
        exact this
      · have hlt : ¬ ((a + t.binds.length : Nat) : Int) ≤ t.index := by simpa using h
        rw [if_neg (show ¬ (t.kind = 0 ∧ ((a + t.binds.length : Nat) : Int) ≤ t.index) from fun h => hlt h.2), show decide (t.kind = 0 ∧ ((a + t.binds.length : Nat) : Int) ≤ t.index ∧ takeBad n l (t.index - ((a + t.binds.length : Nat) : Int)) = true) = false from by rw [decide_eq_false_iff_not]; exact fun h => hlt h.2.1, Bool.false_or]
        exact ⟨hmk, rfl, loop _ _⟩
    · have h0 : ¬ t.kind = 0 := by simpa using h
      rw [if_neg (show ¬ (t.kind = 0 ∧ ((a + t.binds.length : Nat) : Int) ≤ t.index) from fun h => h0 h.1), show decide (t.kind = 0 ∧ ((a + t.binds.length : Nat) : Int) ≤ t.index ∧ takeBad n l (t.index - ((a + t.binds.length : Nat) : Int)) = true) = false from by rw [decide_eq_false_iff_not]; exact fun h => h0 h.1, Bool.false_or]
      exact ⟨hmk, rfl, loop _ _⟩

end Go.Proofs.Ytfbncddnakaaiaa
