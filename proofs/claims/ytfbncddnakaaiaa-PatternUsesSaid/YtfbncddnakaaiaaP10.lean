/- The document's Take, and PatternTakes. -/
import Derived.Test.YtfbncddnakaaiaaP09
namespace Go.Proofs.Ytfbncddnakaaiaa
open Go
set_option linter.unusedSimpArgs false
set_option linter.unusedVariables false

def rtakenAV (n : Int) (l : List Int) (a : Nat) (t : Tm) : AV := if Tm.clash n l a t = true then .tup [(Tm.mk [] 0 0 []).enc, nB false] else .tup [(Tm.taken n l a t).enc, nB true]

theorem zero_enc : (Tm.mk [] 0 0 []).enc = .agg [.sl [], nI 0, nI 0, .sl []] := by rw [Tm.enc_mk]; rfl

theorem any_take {α : Type} {l : List α} {f : α → Bool} {k : Nat} (h : k < l.length) : (l.take (k + 1)).any f = ((l.take k).any f || f l[k]) := by
  rw [← take_snoc' h, List.any_append]; simp
theorem any_of {α : Type} {l : List α} {f : α → Bool} {k : Nat} (h : k < l.length) (hf : f l[k] = true) : l.any f = true := List.any_eq_true.2 ⟨_, List.getElem_mem h, hf⟩

theorem rtaken_calls {n : Nat} {l : List Int} (hm : mayB n l = true) (hn : n ≤ 1000000000) : ∀ (d : Nat) (t : Tm) (a : Nat), t.size ≤ d → d ≤ 1000000000 → t.Ok → a + t.size ≤ 2000000000 →
    PureIs Try.prog 75 [t.enc, nI a, nI n, .sl (encInts l)] (rtakenAV n l a t) := by
  have hm' := mayB_iff.1 hm
  have hl : l.length ≤ n := nodup_len _ _ hm'.1 hm'.2
  intro d
  induction d with
  | zero => intro t a h; have := t.size_pos; omega
  | succ d ih =>
    intro t a h hd hk ha
    have hq := Tm.sizes_len t.args
    have hq2 := Ty.sizes_len t.binds
    have hts := t.size_eq
    obtain ⟨hk1, hk2, hk3⟩ := Tm.ok_eq hk
    unfold I64 at hk2
    have hw : IntKind.wrap .i64 ((a : Int) + ((List.length (t.binds.map Ty.enc) : Nat) : Int)) = ((a + t.binds.length : Nat) : Int) := by rw [List.length_map, wrap_i (by omega) (by omega)]; omega
    have loop : ∀ ix : Int, ix = (Tm.taken n l a t).index → decide (t.kind = 0 ∧ (a + t.binds.length : Nat) ≤ t.index ∧ takeBad n l (t.index - (a + t.binds.length : Nat)) = true) = false →
        vc75_L15 (((n : Int), encInts l, (), (), ((a + t.binds.length : Nat) : Int), (), 0, ()), ((t.binds.map Ty.enc, t.kind, t.index, t.args.map Tm.enc, ()), ((), 0, 0, (), ()), (t.binds.map Ty.enc, t.kind, ix, (), ()), [], ())) (fun x => x = rtakenAV n l a t) := by
      intro ix hix hself
      have hcl : Tm.clash n l a t = t.args.any (Tm.clash n l (a + t.binds.length)) := by rw [Tm.clash_eq, hself, Bool.false_or]
      refine LoopP.intro (fun k : Nat => (((n : Int), encInts l, (), (), ((a + t.binds.length : Nat) : Int), (), (k : Int), ()), ((t.binds.map Ty.enc, t.kind, t.index, t.args.map Tm.enc, ()), ((), 0, 0, (), ()), (t.binds.map Ty.enc, t.kind, ix, (), ()), ((t.args.take k).map (Tm.taken n l (a + t.binds.length))).map Tm.enc, ())))
        (fun k => k ≤ t.args.length ∧ (t.args.take k).any (Tm.clash n l (a + t.binds.length)) = false) (fun k => t.args.length - k) 0 rfl ⟨Nat.zero_le _, by simp⟩ ?_
      intro k ⟨hk, hs⟩ again hag
      dsimp only
      rw [List.length_map]
      refine ITE.intro (fun h => ?_) fun h => ?_
      · have hlt : k < t.args.length := by simpa using h
        have hz := Tm.arg_size hlt
        have hi := ih t.args[k] (a + t.binds.length) (by omega) (by omega) (Tm.Oks_mem hk3 (List.getElem_mem hlt)) (by have := Tm.sizes_mem (List.getElem_mem hlt); omega)
        rw [Tm.enc_eq] at hi
        refine ⟨by omega, by omega, _, _, _, _, Tm.enc_getD hlt, ?_⟩
        by_cases hc : Tm.clash n l (a + t.binds.length) t.args[k] = true
        · rw [rtakenAV, if_pos hc, zero_enc] at hi
          refine ⟨_, _, _, _, _, hi, ITE.pos rfl ?_⟩
          rw [rtakenAV, if_pos (by rw [hcl]; exact any_of hlt hc), zero_enc]
        · rw [rtakenAV, if_neg hc, Tm.enc_eq (Tm.taken _ _ _ _)] at hi
          refine ⟨_, _, _, _, _, hi, ITE.neg rfl ⟨rfl, appOk_one rfl (by simp; omega) (by decide), rfl, ?_⟩⟩
          have hsn : (t.args.take (k + 1)).map (Tm.taken n l (a + t.binds.length)) = (t.args.take k).map (Tm.taken n l (a + t.binds.length)) ++ [Tm.taken n l (a + t.binds.length) t.args[k]] := by
            rw [← take_snoc' hlt, List.map_append]; rfl
          rw [wrap_n (by omega), Tm.enc_snoc, ← hsn]
          exact hag (k + 1) ⟨by omega, by rw [any_take hlt, hs]; simpa using hc⟩ (by omega)
      · have hle : t.args.length ≤ k := by simpa using h
        rw [List.take_of_length_le hle] at hs
        refine ⟨rfl, ?_⟩
        rw [rtakenAV, if_neg (by rw [hcl, hs]; simp), List.take_of_length_le hle, hix, Tm.taken_eq, Tm.enc_mk]; rfl
    rw [Tm.enc_eq]
    refine vc75_ok ?_
    unfold vc75
    rw [hw]
    refine ITE.intro (fun h0 => ?_) fun h0 => ?_
    · have hk0 : t.kind = 0 := by simpa using h0
      refine ITE.intro (fun h1 => ?_) fun h1 => ?_
      · have hge : ((a + t.binds.length : Nat) : Int) ≤ t.index := by simpa using h1
        have hwi : IntKind.wrap .i64 (t.index - ((a + t.binds.length : Nat) : Int)) = t.index - ((a + t.binds.length : Nat) : Int) := wrap_i (by omega) (by omega)
        rw [hwi]
        refine ITE.intro (fun h2 => ?_) fun h2 => ?_
        · have hni : (n : Int) ≤ t.index - ((a + t.binds.length : Nat) : Int) := by simpa using h2
          refine ⟨rfl, ?_⟩
          rw [encInts_len, wrap_i (n := t.index - (n : Int)) (by omega) (by omega), wrap_i (n := t.index - (n : Int) + (l.length : Int)) (by omega) (by omega)]
          refine loop _ ?_ ?_
          · rw [Tm.taken_eq, Tm.index_mk, if_pos ⟨hk0, hge⟩, takeIx, if_pos hni]; omega
          · rw [decide_eq_false]
            rintro ⟨_, _, h3⟩
            have := (of_decide_eq_true h3).1
            omega
        · have hni : ¬ (n : Int) ≤ t.index - ((a + t.binds.length : Nat) : Int) := by simpa using h2
          generalize hi : t.index - ((a + t.binds.length : Nat) : Int) = i at hni
          refine ⟨_, has_calls (by omega), ITE.intro (fun h3 => ?_) fun h3 => ?_⟩
          · have hno : l.contains i = false := by simpa using h3
            have hno' : ¬ i ∈ l := fun hm => by rw [List.contains_iff_mem.2 hm] at hno; cases hno
            rw [rtakenAV, if_pos, zero_enc]
            rw [Tm.clash_eq, Bool.or_eq_true]
            left
            rw [decide_eq_true_eq]
            exact ⟨hk0, hge, by rw [hi]; exact decide_eq_true ⟨by omega, hno'⟩⟩
          · have hyes : l.contains i = true := by simpa using h3
            have hyes' : i ∈ l := List.contains_iff_mem.1 hyes
            refine LoopP.intro (fun k : Nat => (((n : Int), encInts l, (), (), ((a + t.binds.length : Nat) : Int), (), i, (k : Int), ()), ((t.binds.map Ty.enc, t.kind, t.index, t.args.map Tm.enc, ()), ((), 0, 0, (), ()), (t.binds.map Ty.enc, t.kind, (match posN (l.take k) i with | some p => ((a + t.binds.length : Nat) : Int) + (l.length : Int) - 1 - (p : Int) | none => t.index), (), ()), ())))
              (fun k => k ≤ l.length) (fun k => l.length - k) 0 rfl (Nat.zero_le _) ?_
            intro k hkl again hag
            dsimp only
            rw [encInts_len]
            refine ITE.intro (fun h => ?_) fun h => ?_
            · have hlt : k < l.length := by simpa using h
              have hnd : ¬ l[k] ∈ l.take k := by
                have hnd := hm'.1
                rw [← List.take_append_drop k l, List.nodup_append] at hnd
                intro hx
                exact hnd.2.2 _ hx _ (by rw [List.drop_eq_getElem_cons hlt]; exact List.mem_cons_self) rfl
              have hps := posN_snoc (i := i) hnd
              rw [take_snoc' hlt, List.length_take, Nat.min_eq_left hkl] at hps
              refine ⟨by omega, by omega, _, encInts_getD hlt, ITE.intro (fun h => ?_) fun h => ?_⟩
              · have he : l[k] = i := by simpa using h
                rw [if_pos he.symm] at hps
                rw [wrap_n (by omega), wrap_i (n := ((a + t.binds.length : Nat) : Int) + (l.length : Int)) (by omega) (by omega), wrap_i (n := ((a + t.binds.length : Nat) : Int) + (l.length : Int) - 1) (by omega) (by omega), wrap_i (n := ((a + t.binds.length : Nat) : Int) + (l.length : Int) - 1 - (k : Int)) (by omega) (by omega)]
                have hg := hag (k + 1) (by omega) (by omega)
                rw [hps] at hg
                exact hg
              · have he : ¬ l[k] = i := by simpa using h
                rw [if_neg (fun e => he e.symm)] at hps
                rw [wrap_n (by omega)]
                have hg := hag (k + 1) (by omega) (by omega)
                rw [hps] at hg
                exact hg
            · have hle : l.length ≤ k := by simpa using h
              rw [List.take_of_length_le hle]
              refine ⟨rfl, loop _ ?_ ?_⟩
              · rw [Tm.taken_eq, Tm.index_mk, if_pos ⟨hk0, hge⟩, hi, takeIx, if_neg hni]
                cases hp : posN l i with
                | none => exact (posN_none.1 hp hyes').elim
                | some p =>
                  show _ = _ + ((l.length : Int) - 1 - (p : Int))
                  dsimp only
                  omega
              · rw [decide_eq_false]
                rintro ⟨_, _, h3⟩
                rw [hi] at h3
                exact (of_decide_eq_true h3).2 hyes'
      · have hlt : ¬ ((a + t.binds.length : Nat) : Int) ≤ t.index := by simpa using h1
        refine ⟨rfl, loop _ ?_ ?_⟩
        · rw [Tm.taken_eq, Tm.index_mk, if_neg (fun h => hlt h.2)]
        · rw [decide_eq_false]
          exact fun h => hlt h.2.1
    · have hk0 : ¬ t.kind = 0 := by simpa using h0
      refine ⟨rfl, loop _ ?_ ?_⟩
      · rw [Tm.taken_eq, Tm.index_mk, if_neg (fun h => hk0 h.1)]
      · rw [decide_eq_false]
        exact fun h => hk0 h.1

theorem rTake_calls {t : Tm} {b : List Ty} {l : List Int} (ht : t.size ≤ 100000000) (hk : t.Ok) (hb : b.length ≤ 100000000) (hl : l.length ≤ 100000000) :
    PureIs Try.prog 19 [t.enc, .sl (b.map Ty.enc), .sl (encInts l)] (takeAV (t.take b l)) := by
  have hmc := may_calls (n := (b.length : Int)) (l := l) (by omega)
  have he := Tm.enc_eq t
  rw [he]
  refine vc19_ok ?_
  unfold vc19
  rw [List.length_map]
  refine ⟨_, hmc, ITE.intro (fun h => ?_) fun h => ?_⟩
  · have hm : mayB b.length l = false := by simpa using h
    rw [Tm.take, if_neg (by rw [hm]; simp), takeAV, zero_enc]
  · have hm : mayB b.length l = true := by simpa using h
    have hm' := mayB_iff.1 hm
    have htk := rtaken_calls (n := b.length) hm (by omega) _ t 0 (Nat.le_refl _) (by omega) hk (by omega)
    rw [he] at htk
    rw [Tm.take, if_pos hm]
    by_cases hc : Tm.clash b.length l 0 t = true
    · rw [rtakenAV, if_pos hc, zero_enc] at htk
      rw [if_pos hc]
      refine ⟨_, _, _, _, _, htk, ITE.pos rfl ?_⟩
      rw [takeAV, zero_enc]
    · rw [rtakenAV, if_neg hc, Tm.enc_eq (Tm.taken _ _ _ _)] at htk
      rw [if_neg hc]
      have hts := t.size_eq
      have htl : (typesOf b l).length = l.length := by rw [typesOf, List.length_map]
      have hlb2 := Ty.sizes_len t.binds
      refine ⟨_, _, _, _, _, htk, ITE.neg rfl ⟨_, rtypes_calls (by omega) (by omega) hm'.2, _, behind_calls (by omega) (by omega), ?_⟩⟩
      rw [takeAV, Tm.enc_mk, Tm.taken_kind]

/-! ### PatternTakes -/

theorem cut20 (l : List Int) : List.drop (Int.toNat 0) (List.take (Int.toNat (if 20 < ((List.length (encInts l) : Nat) : Int) then 20 else ((List.length (encInts l) : Nat) : Int))) (encInts l)) = encInts (l.take 20) := by
  rw [show Int.toNat 0 = 0 from rfl, List.drop_zero, encInts, encInts, List.length_map, List.map_take]
  split
  · rfl
  · rw [Int.toNat_natCast, List.take_of_length_le (by simp), List.take_of_length_le (by simp; omega)]
theorem cut20_ok (l : List Int) : 0 ≤ (0 : Int) ∧ (0 : Int) ≤ (if 20 < ((List.length (encInts l) : Nat) : Int) then 20 else ((List.length (encInts l) : Nat) : Int)) ∧ (if 20 < ((List.length (encInts l) : Nat) : Int) then 20 else ((List.length (encInts l) : Nat) : Int)) ≤ List.length (encInts l) ∧ (∀ y : AV, y ∈ encInts l → List.length (AV.cells y) = 1) :=
  ⟨by omega, by split <;> omega, by split <;> omega, encInts_cells⟩

theorem typesOf_len (b : List Ty) (l : List Int) : (typesOf b l).length = l.length := by rw [typesOf, List.length_map]
theorem Tm.take_size {t : Tm} {b : List Ty} {l : List Int} (hk : t.Ok) (ht : t.size ≤ 100000000) (hb : b.length ≤ 100000000) : (t.take b l).1.size ≤ l.length * Ty.sizes b + t.size + 1 := by
  unfold Tm.take
  split
  · rename_i hm
    have hm' := mayB_iff.1 hm
    have hll : l.length ≤ b.length := nodup_len _ _ hm'.1 hm'.2
    split
    · simp [Tm.size, Ty.sizes, Tm.sizes]
    · have hok := Tm.taken_ok (n := b.length) (by omega) hll _ t 0 (Nat.le_refl _) hk (by omega)
      have hsz := (Tm.taken b.length l 0 t).size_eq
      rw [hok.2, Tm.taken_binds] at hsz
      have htl := typesOf_sizes hm'.2
      simp only [Tm.size, Ty.sizes_append]
      omega
  · simp [Tm.size, Ty.sizes, Tm.sizes]

theorem fewB_sizes {l : List Ty} (h : l.all (Ty.fewB 60 60) = true) : Ty.sizes l ≤ l.length * 60 := by
  induction l with
  | nil => simp [Ty.sizes]
  | cons t l ih =>
    rw [List.all_cons, Bool.and_eq_true] at h
    have := ih h.2
    have := Ty.fewB_size h.1
    simp only [Ty.sizes, List.length_cons]; omega
theorem small_sizes {b : List Ty} (h : smallB [] [] b = true) : b.length ≤ 20 ∧ Ty.sizes b ≤ 1200 := by
  rw [smallB, Bool.and_eq_true, decide_eq_true_eq] at h
  have := fewB_sizes h.2
  simp at this
  have := h.1.2.2
  exact ⟨by omega, by omega⟩

theorem PatternTakes_calls {t : Tm} {b : List Ty} {l : List Int} (hk : t.Ok) : PureIs Try.prog 3 [t.enc, .sl (b.map Ty.enc), .sl (encInts l)] (nB true) := by
  have he := Tm.enc_eq t
  have hfew := few_calls (l := [t]) (by simp)
  rw [List.map_cons, List.map_nil, he] at hfew
  rw [he]
  refine vc3_ok ?_
  unfold vc3
  rw [cut20]
  refine ⟨cut20_ok l, _, hfew, ITE.intro (fun h => ⟨_, known_calls, rfl⟩) fun h => ?_⟩
  have hsz : t.size ≤ 150 := Tm.fewB_size (d := 70) (by simpa using h)
  have hlow := low_calls _ [t] (Nat.le_refl _) (by simp [Tm.sizes]; omega)
  rw [List.map_cons, List.map_nil, he] at hlow
  refine ⟨_, hlow, ITE.intro (fun h => ⟨_, known_calls, rfl⟩) fun h => ?_⟩
  have hsm := small_calls 0 [] [] b
  refine ⟨_, hsm, ITE.intro (fun h => ⟨_, known_calls, rfl⟩) fun h => ?_⟩
  have hb := small_sizes (b := b) (by simpa using h)
  have hto := tmTo_calls _ t (Nat.le_refl _) (by omega)
  rw [he] at hto
  have hll : (l.take 20).length ≤ 20 := by rw [List.length_take]; omega
  have hlb : (l.take 20).length * Ty.sizes b ≤ 20 * 1200 := Nat.mul_le_mul hll hb.2
  have htk := Take_calls (t := t) (b := b) (l := l.take 20) (by omega) hk (by omega) (by omega) (by omega)
  have hrt := rTake_calls (t := t) (b := b) (l := l.take 20) (by omega) hk (by omega) (by omega)
  have hts := Tm.take_size (b := b) (l := l.take 20) hk (by omega) (by omega)
  rw [he] at htk hrt
  generalize t.take b (l.take 20) = p at htk hrt hts
  rw [takeAV, Tm.enc_eq p.1] at htk hrt
  have hof := tmOf_calls _ p.1 (Nat.le_refl _) (by omega)
  have hsame := tsame_calls _ p.1 p.1 (Nat.le_refl _) (by omega)
  rw [Tm.enc_eq p.1] at hof hsame
  exact ⟨_, _, _, _, hto, _, tysTo_calls (by omega), _, _, _, _, _, htk, _, _, _, _, _, hrt, _, known_calls, ITE.pos rfl (ITE.pos (by simp) ⟨_, _, _, _, hof, _, hsame, by rw [Tm.same_self]⟩)⟩

end Go.Proofs.Ytfbncddnakaaiaa
