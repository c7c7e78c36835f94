/- Linear, Make, the document's Make; PatternMakes. -/
import Derived.Test.YtfbncddnakaaiaaP11
namespace Go.Proofs.Ytfbncddnakaaiaa
open Go
set_option linter.unusedSimpArgs false
set_option linter.unusedVariables false

/-! ### pattern.Linear -/

def linearU : Option (List Us) → Bool
  | none => false
  | some us => decide ((us.map Us.meta_).Nodup)
def IsIn (es : List (Int × Value)) (l : List Int) : Prop := IsSeen es l

theorem nodup_snoc {l : List Int} {i : Int} : (l ++ [i]).Nodup ↔ l.Nodup ∧ ¬ i ∈ l := by
  rw [List.nodup_append]
  constructor
  · rintro ⟨h1, _, h3⟩; exact ⟨h1, fun hm => h3 _ hm _ (by simp) rfl⟩
  · rintro ⟨h1, h2⟩; exact ⟨h1, by simp, fun a ha b hb e => h2 (by rw [← List.mem_singleton.1 hb, ← e]; exact ha)⟩

theorem Us.enc_getD {l : List Us} {k : Nat} (h : k < l.length) : List.getD (l.map Us.enc) (Int.toNat (k : Int)) .top = .agg [nI l[k].meta_, .sl (encInts l[k].vars), .sl (l[k].binds.map Ty.enc), .sl (encInts l[k].path)] := by rw [getD_map h]; rfl

theorem Linear_calls {t : Tm} (h : t.size ≤ 100000000) : PureIs Try.prog 29 [t.enc] (nB (linearU (t.uses [] []))) := by
  have hu := Uses_calls h
  rw [Tm.enc_eq] at hu ⊢
  refine vc29_ok ?_
  unfold vc29
  cases hq : t.uses [] [] with
  | none =>
    rw [hq] at hu
    refine ⟨_, _, hu, ?_⟩
    refine LoopP.intro (fun _ : Unit => ((6, (), [], 0, 0, ()), ((t.binds.map Ty.enc, t.kind, t.index, t.args.map Tm.enc, ()), [], ()))) (fun _ => True) (fun _ => 0) () rfl True.intro ?_
    intro _ _ again hag
    exact ITE.neg rfl rfl
  | some us =>
    rw [hq] at hu
    have hul := Tm.uses_len hq
    refine ⟨_, _, hu, ?_⟩
    refine LoopP.intro (fun p : Nat × List (Int × Value) => ((0, (), us.map Us.enc, (us.length : Int), (p.1 : Int), ()), ((t.binds.map Ty.enc, t.kind, t.index, t.args.map Tm.enc, ()), p.2, ())))
      (fun p => p.1 ≤ us.length ∧ ((us.take p.1).map Us.meta_).Nodup ∧ IsSeen p.2 ((us.take p.1).map Us.meta_)) (fun p => us.length - p.1) (0, []) (by rw [List.length_map]; rfl) ⟨Nat.zero_le _, by simp, fun i => rfl⟩ ?_
    intro ⟨k, es⟩ ⟨hk, hn, hs⟩ again hag
    dsimp only at hk hn hs ⊢
    refine ITE.intro (fun h => ?_) fun h => ?_
    · have hlt : k < us.length := by simpa using h
      have hsn : (us.take (k + 1)).map Us.meta_ = (us.take k).map Us.meta_ ++ [us[k].meta_] := by rw [← take_snoc' hlt, List.map_append]; rfl
      refine ⟨by omega, by rw [List.length_map]; omega, _, _, _, _, Us.enc_getD hlt, ?_⟩
      have hg := hs us[k].meta_
      by_cases hm : us[k].meta_ ∈ (us.take k).map Us.meta_
      · rw [if_pos hm] at hg
        rw [hg]
        refine ⟨rfl, ITE.pos rfl ?_⟩
        rw [linearU, decide_eq_false]
        intro hnd
        have : ((us.take (k + 1)).map Us.meta_).Nodup := hnd.sublist (List.Sublist.map _ (List.take_sublist _ _))
        rw [hsn, nodup_snoc] at this
        exact this.2 hm
      · rw [if_neg hm] at hg
        rw [hg]
        refine ⟨rfl, ITE.neg rfl ?_⟩
        rw [wrap_n (by omega)]
        refine hag (k + 1, mapPut es us[k].meta_ (.bool true)) ⟨by dsimp only; omega, by dsimp only; rw [hsn, nodup_snoc]; exact ⟨hn, hm⟩, by dsimp only; rw [hsn]; exact hs.put hm⟩ (by dsimp only; omega)
    · have hle : us.length ≤ k := by simpa using h
      rw [List.take_of_length_le hle] at hn
      rw [linearU, decide_eq_true hn]; rfl

/-! ### Make -/

def makeArg (b : List Ty) (v : Int) : Tm := etaT 0 v (b.getD (b.length - 1 - v.toNat) (.mk [] 0))
def makeT (m : Int) (b : List Ty) (l : List Int) : Tm × Int := if mayB b.length l = true ∧ 0 ≤ m then (.mk [] 2 m (l.map (makeArg b)), 0) else (.mk [] 0 0 [], 1)

theorem typesOf_get {b : List Ty} {l : List Int} {k : Nat} (h : k < l.length) : ∃ h' : k < (typesOf b l).length, (typesOf b l)[k] = b.getD (b.length - 1 - l[k].toNat) (.mk [] 0) :=
  ⟨by rw [typesOf_len]; exact h, by simp [typesOf]⟩

theorem Make_calls {m : Int} {b : List Ty} {l : List Int} (hb : b.length ≤ 1000) (hl : l.length ≤ 1000) (hz : ∀ t ∈ b, t.size ≤ 1000) : PureIs Try.prog 33 [nI m, .sl (b.map Ty.enc), .sl (encInts l)] (takeAV (makeT m b l)) := by
  have hpl := places_calls (n := (b.length : Int)) (l := l) (by omega)
  refine vc33_ok ?_
  unfold vc33
  rw [List.length_map]
  refine ⟨_, hpl, ?_⟩
  rintro r (⟨hm, es, hes, rfl⟩ | ⟨hm, rfl⟩)
  · left
    have hm' := mayB_iff.1 hm
    refine ⟨_, rfl, ITE.intro (fun h => ?_) fun h => ?_⟩
    · have : ¬ 0 ≤ m := by simpa using h
      rw [makeT, if_neg (fun h => this h.2), takeAV, zero_enc]
    · have h0 : 0 ≤ m := by simpa using h
      refine ⟨_, types_calls (by omega) (by omega) hm'.2, rfl, ?_⟩
      have htl := typesOf_len b l
      refine LoopP.intro (fun k : Nat => ((encInts l, (), (), (typesOf b l).map Ty.enc, (l.length : Int), (k : Int), ()), (((), 0, 0, (), ()), ((), 2, m, (), ()), ((l.take k).map (makeArg b)).map Tm.enc, ()))) (fun k => k ≤ l.length) (fun k => l.length - k) 0
        (by rw [List.length_map, htl]; rfl) (Nat.zero_le _) ?_
      intro k hk again hag
      dsimp only
      rw [List.length_map, htl, encInts_len]
      refine ITE.intro (fun h => ?_) fun h => ?_
      · have hlt : k < l.length := by simpa using h
        obtain ⟨hlt2, hget⟩ := typesOf_get (b := b) hlt
        have hv := hm'.2 l[k] (List.getElem_mem hlt)
        have hlb : b.length - 1 - l[k].toNat < b.length := by omega
        have hmem : (typesOf b l)[k] ∈ b := by rw [hget, List.getD_eq_getElem?_getD, List.getElem?_eq_getElem hlb]; exact List.getElem_mem hlb
        have hi := pEta_calls _ (typesOf b l)[k] 0 l[k] (Nat.le_refl _) (hz _ hmem) (fun _ => ⟨by omega, by omega⟩)
        rw [Ty.enc_eq, Tm.enc_eq] at hi
        refine ⟨by omega, by omega, _, _, Ty.enc_getD hlt2, by omega, by omega, _, encInts_getD hlt, _, _, _, _, hi, rfl, appOk_one rfl (by simp; omega) (by decide), rfl, ?_⟩
        have hsn : (l.take (k + 1)).map (makeArg b) = (l.take k).map (makeArg b) ++ [etaT 0 l[k] (typesOf b l)[k]] := by rw [← take_snoc' hlt, List.map_append, hget]; rfl
        rw [wrap_n (by omega), Tm.enc_snoc, ← hsn]
        exact hag (k + 1) (by omega) (by omega)
      · have hle : l.length ≤ k := by simpa using h
        refine ⟨rfl, ?_⟩
        rw [makeT, if_pos ⟨hm, h0⟩, List.take_of_length_le hle, takeAV, Tm.enc_mk]; rfl
  · right
    refine ⟨rfl, ?_⟩
    rw [makeT, if_neg (fun h => by rw [hm] at h; cases h.1), takeAV, zero_enc]

theorem rMake_calls {m : Int} {b : List Ty} {l : List Int} (hb : b.length ≤ 1000) (hl : l.length ≤ 1000) (hz : ∀ t ∈ b, t.size ≤ 1000) : PureIs Try.prog 34 [nI m, .sl (b.map Ty.enc), .sl (encInts l)] (takeAV (makeT m b l)) := by
  have hmc := may_calls (n := (b.length : Int)) (l := l) (by omega)
  refine vc34_ok ?_
  unfold vc34
  rw [List.length_map]
  refine ⟨_, hmc, ITE.intro (fun h => ?_) fun h => ?_⟩
  · have hm : mayB b.length l = false := by simpa using h
    rw [makeT, if_neg (fun h => by rw [hm] at h; cases h.1), takeAV, zero_enc]
  · have hm : mayB b.length l = true := by simpa using h
    have hm' := mayB_iff.1 hm
    refine ITE.intro (fun h => ?_) fun h => ?_
    · have : ¬ 0 ≤ m := by simpa using h
      rw [makeT, if_neg (fun h => this h.2), takeAV, zero_enc]
    · have h0 : 0 ≤ m := by simpa using h
      refine ⟨_, rtypes_calls (by omega) (by omega) hm'.2, rfl, ?_⟩
      have htl := typesOf_len b l
      refine LoopP.intro (fun k : Nat => ((encInts l, (), (), (typesOf b l).map Ty.enc, (k : Int), ()), (((), 0, 0, (), ()), ((), 2, m, (), ()), ((l.take k).map (makeArg b)).map Tm.enc, ()))) (fun k => k ≤ l.length) (fun k => l.length - k) 0
        rfl (Nat.zero_le _) ?_
      intro k hk again hag
      dsimp only
      rw [List.length_map, htl, encInts_len]
      refine ITE.intro (fun h => ?_) fun h => ?_
      · have hlt : k < l.length := by simpa using h
        obtain ⟨hlt2, hget⟩ := typesOf_get (b := b) hlt
        have hv := hm'.2 l[k] (List.getElem_mem hlt)
        have hlb : b.length - 1 - l[k].toNat < b.length := by omega
        have hmem : (typesOf b l)[k] ∈ b := by rw [hget, List.getD_eq_getElem?_getD, List.getElem?_eq_getElem hlb]; exact List.getElem_mem hlb
        have hi := rEta_calls (t := (typesOf b l)[k]) (k := 0) (i := l[k]) (by have := hz _ hmem; omega) (fun _ => ⟨by omega, by omega⟩)
        rw [Ty.enc_eq, Tm.enc_eq] at hi
        refine ⟨by omega, by omega, _, encInts_getD hlt, by omega, by omega, _, _, Ty.enc_getD hlt2, _, _, _, _, hi, rfl, appOk_one rfl (by simp; omega) (by decide), rfl, ?_⟩
        have hsn : (l.take (k + 1)).map (makeArg b) = (l.take k).map (makeArg b) ++ [etaT 0 l[k] (typesOf b l)[k]] := by rw [← take_snoc' hlt, List.map_append, hget]; rfl
        rw [wrap_n (by omega), Tm.enc_snoc, ← hsn]
        exact hag (k + 1) (by omega) (by omega)
      · have hle : l.length ≤ k := by simpa using h
        refine ⟨rfl, ?_⟩
        rw [makeT, if_pos ⟨hm, h0⟩, List.take_of_length_le hle, takeAV, Tm.enc_mk]; rfl

/-! ### What Make makes -/

mutual
theorem etaT_ok : ∀ (t : Ty) (k i : Int), I64 k → I64 i → t.size ≤ 1000000000 → (etaT k i t).Ok
  | .mk l b, k, i, hk, hi, hs => by
    rw [etaT]
    have hq := Ty.sizes_len l
    rw [Ty.size] at hs
    refine ⟨hk, ?_, etaTs_ok l l.length 0 (by omega) (by omega) (by omega)⟩
    split
    · exact ⟨by unfold IntKind.wrap; simp [IntKind.signed, IntKind.bits]; omega, by unfold IntKind.wrap; simp [IntKind.signed, IntKind.bits]; omega⟩
    · exact hi
theorem etaTs_ok : ∀ (l : List Ty) (n j : Nat), Ty.sizes l ≤ 1000000000 → n ≤ 1000000000 → j + l.length ≤ 1000000000 → Tm.Oks (etaTs n j l)
  | [], n, j, _, _, _ => by rw [etaTs]; exact True.intro
  | t :: l, n, j, hs, hn, hj => by
    rw [etaTs]
    rw [Ty.sizes] at hs
    rw [List.length_cons] at hj
    exact ⟨etaT_ok t 0 _ ⟨by omega, by omega⟩ ⟨by omega, by omega⟩ (by omega), etaTs_ok l n (j + 1) (by omega) hn (by omega)⟩
end

theorem makeArg_var {b : List Ty} {v : Int} (h0 : 0 ≤ v) (hv : v ≤ 1000000000) (hz : (b.getD (b.length - 1 - v.toNat) (.mk [] 0)).size ≤ 30000) : (makeArg b v).var = some (0, v) := by
  have hs := etaT_size (b.getD (b.length - 1 - v.toNat) (.mk [] 0)) 0 v
  have hq := Nat.mul_le_mul hz hz
  exact ((var_eta _ (makeArg b v) (Nat.le_refl _) (by unfold makeArg; omega) (etaT_ok _ _ _ ⟨by omega, by omega⟩ ⟨by omega, by omega⟩ (by omega)) _ v h0 hv).2 rfl).1

theorem varsFrom_make {b : List Ty} {n : Nat} (hz : ∀ t ∈ b, t.size ≤ 30000) : ∀ (l acc : List Int), (acc ++ l).Nodup → (∀ v ∈ l, 0 ≤ v ∧ v < n ∧ v ≤ 1000000000) → varsFrom n acc (l.map (makeArg b)) = some (acc ++ l)
  | [], acc, _, _ => by simp [varsFrom]
  | v :: l, acc, hnd, hv => by
    have h := hv v List.mem_cons_self
    have hzz : (b.getD (b.length - 1 - v.toNat) (.mk [] 0)).size ≤ 30000 := by
      rw [List.getD_eq_getElem?_getD]
      cases hg : b[b.length - 1 - v.toNat]? with
      | none => simp [Ty.size, Ty.sizes]
      | some t => exact hz t (List.mem_of_getElem? hg)
    have hnot : ¬ v ∈ acc := by
      rw [List.nodup_append] at hnd
      exact fun hm => hnd.2.2 v hm v List.mem_cons_self rfl
    rw [List.map_cons, varsFrom, makeArg_var h.1 h.2.2 hzz]
    dsimp only
    rw [if_pos ⟨rfl, h.2.1, hnot⟩, varsFrom_make hz l (acc ++ [v]) (by simpa using hnd) fun u hu => hv u (List.mem_cons_of_mem _ hu)]
    simp

theorem makeArgs_size {b : List Ty} {l : List Int} (hz : ∀ t ∈ b, t.size ≤ 60) : Tm.sizes (l.map (makeArg b)) ≤ l.length * 3600 := by
  induction l with
  | nil => simp [Tm.sizes]
  | cons v l ih =>
    have hzz : (b.getD (b.length - 1 - v.toNat) (.mk [] 0)).size ≤ 60 := by
      rw [List.getD_eq_getElem?_getD]
      cases hg : b[b.length - 1 - v.toNat]? with
      | none => simp [Ty.size, Ty.sizes]
      | some t => exact hz t (List.mem_of_getElem? hg)
    have hs := etaT_size (b.getD (b.length - 1 - v.toNat) (.mk [] 0)) 0 v
    have hq := Nat.mul_le_mul hzz hzz
    simp only [List.map_cons, Tm.sizes, List.length_cons]
    unfold makeArg at ih ⊢
    omega

/-! ### PatternMakes -/

theorem small_each {b : List Ty} (h : smallB [] [] b = true) : ∀ t ∈ b, t.size ≤ 60 := by
  rw [smallB, Bool.and_eq_true] at h
  intro t ht
  exact Ty.fewB_size (List.all_eq_true.1 h.2 t (by simpa using ht))

theorem PatternMakes_calls {m : Int} {b : List Ty} {l : List Int} : PureIs Try.prog 6 [nI m, .sl (b.map Ty.enc), .sl (encInts l)] (nB true) := by
  refine vc6_ok ?_
  unfold vc6
  rw [cut20, List.length_map]
  refine ⟨cut20_ok l, _, small_calls 0 [] [] b, ITE.intro (fun h => ⟨_, known_calls, rfl⟩) fun h => ?_⟩
  have hb := small_sizes (b := b) (by simpa using h)
  have hz := small_each (b := b) (by simpa using h)
  have hll : (l.take 20).length ≤ 20 := by rw [List.length_take]; omega
  generalize l.take 20 = l at hll
  have hmk := Make_calls (m := m) (b := b) (l := l) (by omega) (by omega) (fun t ht => by have := hz t ht; omega)
  have hrm := rMake_calls (m := m) (b := b) (l := l) (by omega) (by omega) (fun t ht => by have := hz t ht; omega)
  have has := makeArgs_size (l := l) hz
  have hty := tysTo_calls (l := b) (by omega)
  have hsz : (makeT m b l).1.size ≤ 100000 := by
    unfold makeT
    split
    · simp only [Tm.size, Ty.sizes]; omega
    · simp [Tm.size, Ty.sizes, Tm.sizes]
  have hof := tmOf_calls _ (makeT m b l).1 (Nat.le_refl _) (by omega)
  have hsame := tsame_calls _ (makeT m b l).1 (makeT m b l).1 (Nat.le_refl _) (by omega)
  rw [Tm.same_self] at hsame
  by_cases hc : mayB b.length l = true ∧ 0 ≤ m
  · have hmt : makeT m b l = (.mk [] 2 m (l.map (makeArg b)), 0) := by rw [makeT, if_pos hc]
    have hm' := mayB_iff.1 hc.1
    rw [hmt] at hmk hrm hof hsame hsz
    have hvs : varsFrom (b.length : Nat) [] (l.map (makeArg b)) = some l := by
      have := varsFrom_make (b := b) (n := b.length) (fun t ht => by have := hz t ht; omega) l [] (by simpa using hm'.1) (fun v hv => ⟨(hm'.2 v hv).1, (hm'.2 v hv).2, by have := (hm'.2 v hv).2; omega⟩)
      simpa using this
    have hv := vars_calls (t := .mk [] 2 m (l.map (makeArg b))) (n := (b.length : Int)) (by simp only at hsz; omega)
    rw [Tm.vars, if_pos ⟨rfl, by omega⟩, Tm.args_mk, hvs] at hv
    have hx : (Tm.mk b 2 m (l.map (makeArg b))).size ≤ 200000 := by simp only [Tm.size, Ty.sizes] at hsz ⊢; omega
    have hu : Tm.uses [] [] (Tm.mk b 2 m (l.map (makeArg b))) = some [⟨m, l, b, []⟩] := by
      rw [Tm.uses_eq, Tm.kind_mk, if_pos rfl, List.nil_append, Tm.binds_mk, Tm.vars, if_pos ⟨rfl, by omega⟩, Tm.args_mk, hvs]
      rfl
    have his := Is_calls (t := .mk b 2 m (l.map (makeArg b))) (by omega)
    have hli := Linear_calls (t := .mk b 2 m (l.map (makeArg b))) (by omega)
    have hfl := flex_calls (.mk b 2 m (l.map (makeArg b)))
    rw [hu] at his hli
    have hli' : linearU (some [⟨m, l, b, []⟩]) = true := by simp [linearU]
    rw [hli'] at hli
    simp only [takeAV, errAV, Tm.enc_mk] at hmk hrm hof hsame hv his hli hfl
    have hps := same_calls (l := l) (m := l) (by omega)
    have hpt : likes l l = true := by rw [likes_eq]; simp
    rw [hpt] at hps
    exact ⟨_, hty, _, _, _, _, _, hmk, _, _, _, _, _, hrm, _, known_calls, ITE.neg rfl (ITE.neg rfl ⟨_, _, _, _, hof, _, hsame, ITE.neg rfl (ITE.neg rfl ⟨_, _, hv, _, hty, ITE.pos rfl ⟨_, hps, ITE.pos rfl ⟨_, his, ITE.pos rfl ⟨_, hli, ITE.pos rfl ⟨_, hfl, rfl⟩⟩⟩⟩⟩)⟩)⟩
  · have hmt : makeT m b l = (.mk [] 0 0 [], 1) := by rw [makeT, if_neg hc]
    rw [hmt] at hmk hrm hof hsame
    simp only [takeAV, zero_enc] at hmk hrm hof hsame
    exact ⟨_, hty, _, _, _, _, _, hmk, _, _, _, _, _, hrm, _, known_calls, ITE.neg rfl (ITE.neg rfl ⟨_, _, _, _, hof, _, hsame, ITE.neg rfl (ITE.pos rfl rfl)⟩)⟩

end Go.Proofs.Ytfbncddnakaaiaa
