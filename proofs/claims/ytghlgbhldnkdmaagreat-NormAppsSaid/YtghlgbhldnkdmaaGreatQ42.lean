/- Texts of ours laid together for a claim: P53 P30 P31 P32 P33 P34 P36 P37 P38 P45 P39 P40 P54 P55 P42 P44 P57. -/
import Derived.Tactics
import Derived.Tactics2
import Derived.Defers
import Derived.Laws.Pointers
import Derived.Laws.LoneSync
import Derived.RegionTactic
import Derived.RegionCalls
import Derived.ChangeAlike
import Derived.TacticsInMore
import Derived.RegionIn
import Derived.LoopNIn
import Derived.RecoverIn
import Derived.KernelRfl
import Derived.Test.YtghlgbhldnkdmaaGreatQ41
namespace Go.Proofs.YtghlgbhldnkdmaaGreat
open Go
set_option linter.unusedSimpArgs false
set_option linter.unusedVariables false
mutual
theorem is_sc {c m : List Ty} : ∀ (t : Tm) (x : List Ty) (of : Ty), t.Is c m x of → t.Sc x.length
 | .mk bs k i l, x, of, h => by
  obtain ⟨h1, u, h2, h3, h4⟩ := h
  have := isL_scs l (x ++ bs) u.args h4
  rw [List.length_append] at this
  refine ⟨fun hk => ?_, this⟩
  subst hk
  have := headTy_var h2
  rw [List.length_append] at this
  omega
theorem isL_scs {c m : List Ty} : ∀ (l : List Tm) (x us : List Ty), Tm.IsL c m x l us → Tm.Scs x.length l
 | [], x, us, _ => True.intro
 | t :: l, x, u :: us, h => ⟨is_sc t x u h.1, isL_scs l x us h.2⟩
 | _ :: _, _, [], h => h.elim
end
theorem headTy_lift {c m g e d : List Ty} {k i : Int} {u : Ty} (h : headTy c m (g ++ d) k i = some u) : headTy c m (g ++ e ++ d) k (if k = 0 ∧ ((d.length : Nat) : Int) ≤ i then i + (e.length : Nat) else i) = some u := by
 by_cases hk : k = 0
 ·subst hk
  obtain ⟨h1, h2, _⟩ := headTy_var h
  obtain ⟨j, rfl⟩ : ∃ j : Nat, i = j := ⟨i.toNat, by omega⟩
  rw [headTy_app] at h
  by_cases hj : j < d.length
  ·rw [if_pos hj] at h
   rw [if_neg (show ¬ ((0 : Int) = 0 ∧ ((d.length : Nat) : Int) ≤ (j : Int)) by omega), headTy_app, if_pos hj]; exact h
  ·rw [if_neg hj] at h
   rw [if_pos (show (0 : Int) = 0 ∧ ((d.length : Nat) : Int) ≤ (j : Int) by omega), show ((j : Int) + (e.length : Nat)) = ((j + e.length : Nat) : Int) by omega, headTy_app, if_neg (by omega), headTy_app, if_neg (by omega), show j + e.length - d.length - e.length = j - d.length by omega]
   exact h
 ·rw [if_neg (fun h => hk h.1), headTy_far (y := g ++ d) hk]; exact h
mutual
theorem lift_is {c m : List Ty} {B : Nat} : ∀ (t : Tm) (g e d : List Ty) (of : Ty), t.Lo B → t.Is c m (g ++ d) of → g.length + e.length + d.length + B * t.nodes ≤ 9000000000000000000 → (t.lift e.length d.length).Is c m (g ++ e ++ d) of
 | .mk bs k i l, g, e, d, of, hlo, h, hb => by
  obtain ⟨⟨q1, q2⟩, ⟨q3, q4⟩, q5⟩ := hlo
  obtain ⟨h1, u, h2, h3, h4⟩ := h
  have hbl := Ty.sizes_len bs
  rw [Tm.nodes, Nat.mul_add, Nat.mul_one] at hb
  have hl := lift_isL l g e (d ++ bs) u.args q5 (by rw [← List.append_assoc]; exact h4) (by rw [List.length_append]; omega)
  have hh := headTy_lift (e := e) (show headTy c m (g ++ (d ++ bs)) k i = some u by rw [← List.append_assoc]; exact h2)
  rw [List.length_append] at hl hh
  rw [Tm.lift]
  refine ⟨h1, u, ?_, h3, by rw [← List.append_assoc] at hl; exact hl⟩
  rw [← List.append_assoc] at hh
  rw [← hh]
  congr 1
  by_cases hk : k = 0 ∧ ((d.length + bs.length : Nat) : Int) ≤ i
  ·rw [if_pos hk, if_pos hk]
   obtain ⟨hk, hk2⟩ := hk
   subst hk
   have := headTy_var h2
   rw [List.length_append, List.length_append] at this
   exact wrap_i (by omega) (by omega)
  ·rw [if_neg hk, if_neg hk]
theorem lift_isL {c m : List Ty} {B : Nat} : ∀ (l : List Tm) (g e d us : List Ty), Tm.Los B l → Tm.IsL c m (g ++ d) l us → g.length + e.length + d.length + B * Tm.nodess l ≤ 9000000000000000000 → Tm.IsL c m (g ++ e ++ d) (Tm.lifts e.length d.length l) us
 | [], g, e, d, [], _, _, _ => True.intro
 | t :: l, g, e, d, u :: us, hlo, h, hb => by
  rw [Tm.nodess, Nat.mul_add] at hb
  exact ⟨lift_is t g e d u hlo.1 h.1 (by omega), lift_isL l g e d us hlo.2 h.2 (by omega)⟩
 | [], _, _, _, _ :: _, _, h, _ => h.elim
 | _ :: _, _, _, _, [], _, h, _ => h.elim
end
theorem one_err {m : Mt} (h : m.one.1.err = 1) : m.err = 1 := by
 unfold Mt.one at h
 split at h
 ·exact h
 ·split at h
  ·simp at h
  ·split at h
   ·simp at h
   ·exact h
theorem units_err : ∀ (n : Nat) {m : Mt}, (m.units n).1.err = 1 → m.err = 1
 | 0, m, h => h
 | n + 1, m, h => by
  rw [Mt.units] at h
  split at h
  ·exact one_err (units_err n h)
  ·exact one_err h
theorem goArgs_is {c m : List Ty} {g : Mt → Tm → Mt × Tm} (hg : Keeps1 g) {x y : List Ty} : ∀ (l : List Tm) (us : List Ty) (mt : Mt), mt.count ≤ 100000 → Tm.IsL c m x l us → (∀ t ∈ l, ∀ u, t.Is c m x u → ∀ mt : Mt, mt.count ≤ 100000 → ((g mt t).1.err = 0 → (g mt t).2.Is c m y u) ∧ ((g mt t).1.err = 1 → mt.err = 1)) →
  ((goArgs g mt l).1.err = 0 → Tm.IsL c m y (goArgs g mt l).2 us) ∧ ((goArgs g mt l).1.err = 1 → mt.err = 1)
 | [], [], mt, _, _, _ => ⟨fun _ => True.intro, fun h => h⟩
 | t :: l, u :: us, mt, hm, h, hp => by
  rw [goArgs]
  have h1 := hp t List.mem_cons_self u h.1 mt hm
  have h2 := goArgs_is hg l us (g mt t).1 ((hg mt t).most hm) h.2 fun v hv => hp v (List.mem_cons_of_mem _ hv)
  exact ⟨fun he => ⟨h1.1 ((goArgs_to hg l _).ok he), h2.1 he⟩, fun he => h1.2 (h2.2 he)⟩
 | [], _ :: _, _, _, h, _ => h.elim
 | _ :: _, [], _, _, h, _ => h.elim
theorem isL_get {c m : List Ty} : ∀ {l : List Tm} {x us : List Ty} {k : Nat} (h : Tm.IsL c m x l us) (h1 : k < l.length) (h2 : k < us.length), Tm.Is c m x l[k] us[k]
 | t :: l, x, u :: us, 0, h, _, _ => h.1
 | t :: l, x, u :: us, k + 1, h, h1, h2 => isL_get (k := k) h.2 (by simpa using h1) (by simpa using h2)
theorem body_is {B : Nat} (hB : B ≤ 1000000) {c m : List Ty} : ∀ (f : Nat) (mt : Mt) (k i : Int) (args us : List Tm) (z bs ds : List Ty) (h : Ty), mt.count ≤ 100000 → I64 k → I64 i → args.length ≤ B → Tm.Los B args → Tm.Los B us → us.length ≤ bs.length → bs.length ≤ B → (∀ t ∈ us, t.nodes ≤ 1000000000) →
  headTy c m (z ++ bs ++ ds) k i = some h → Tm.IsL c m (z ++ bs ++ ds) args h.args → Tm.IsL c m z us (bs.take us.length) → z.length + ds.length + bs.length + B * f ≤ 4000000000000000000 →
  ((bodyT f mt k i args us bs.length ds.length).1.err = 0 → (bodyT f mt k i args us bs.length ds.length).2.Is c m (z ++ bs.drop us.length ++ ds) (.mk [] h.base)) ∧ ((bodyT f mt k i args us bs.length ds.length).1.err = 1 → mt.err = 1)
 | 0, mt, k, i, args, us, z, bs, ds, h, _, _, _, _, _, _, _, _, _, _, _, _, _ => by
  rw [bodyT]
  simp only
  by_cases h : mt.err = 0
  ·rw [if_pos h]; exact ⟨fun h => (by simp at h), fun h => (by simp at h)⟩
  ·rw [if_neg h]; exact ⟨fun h' => (h h').elim, fun h => h⟩
 | f + 1, mt, k, i, args, us, z, bs, ds, h, hm, hk, hi, hla, hlo, hus, hun, hnB, hnd, hh, ha, hu, hK => by
  have hmul : B * (f + 1) = B * f + B := Nat.mul_succ _ _
  rw [bodyT]
  split
  ·rename_i h1; exact ⟨fun he => ((one_false h1).1 he).elim, fun he => one_err he⟩
  rename_i h1
  obtain ⟨g0, g1, g2, g3⟩ := one_true (by simpa using h1)
  have hkeep := withinT_to f us bs.length ds.length
  have hto := goArgs_to hkeep args mt.one.1
  have hm1 : mt.one.1.count ≤ 100000 := (Mt.one_to mt).most hm
  have hform := goArgs_form (B := B) hkeep args mt.one.1 (fun t ht m' hto' he' => by
   have hlo' := Tm.lo_eq.1 (Tm.los_iff.1 hlo t ht)
   have := bodyT_form (B := B) f m' t.kind t.index t.args us bs.length (ds.length + t.binds.length) hlo'.2.1.1 hlo'.2.1.2 hlo'.1.2 hlo'.2.2 hus hun he'
   have hq := Tm.lo_eq.1 this.1.lo
   have hqn := this.1.nodes
   rw [Tm.nodes_eq] at hqn
   exact ⟨by unfold withinT; rw [Tm.nodes_eq, Tm.args_mk]; exact hqn, Tm.lo_eq.2 ⟨⟨hlo'.1.1, hq.1.2⟩, hq.2⟩⟩)
  have his := goArgs_is (c := c) (m := m) hkeep (x := z ++ bs ++ ds) (y := z ++ bs.drop us.length ++ ds) args h.args mt.one.1 hm1 ha (fun t ht u htu m' hm' => by
   have hlo' := Tm.lo_eq.1 (Tm.los_iff.1 hlo t ht)
   have hbl := Ty.sizes_len t.binds
   obtain ⟨t1, v, t2, t3, t4⟩ := Tm.is_eq.1 htu
   have hb := body_is hB f m' t.kind t.index t.args us z bs (ds ++ t.binds) v hm' hlo'.2.1.1 hlo'.2.1.2 hlo'.1.2 hlo'.2.2 hus hun hnB hnd (by rw [← List.append_assoc]; exact t2) (by rw [← List.append_assoc]; exact t4) hu (by rw [List.length_append]; omega)
   rw [List.length_append] at hb
   unfold withinT
   refine ⟨fun he => ?_, hb.2⟩
   obtain ⟨b1, w, b2, b3, b4⟩ := Tm.is_eq.1 (hb.1 he)
   have b1 : (bodyT f m' t.kind t.index t.args us bs.length (ds.length + t.binds.length)).2.binds = [] := b1
   rw [b1, List.append_nil, ← List.append_assoc] at b2 b4
   exact ⟨t1, w, b2, b3.trans t3, b4⟩)
  have hlen := goArgs_len (g := withinT (bodyT f) us bs.length ds.length) args mt.one.1
  generalize goArgs (withinT (bodyT f) us bs.length ds.length) mt.one.1 args = r at hto hform hlen his
  have hul := Tm.isL_len hu
  rw [List.length_take] at hul
  unfold headT
  split
  ·rename_i h2; exact ⟨fun he => (h2 he).elim, fun he => one_err (his.2 he)⟩
  rename_i h2
  have h2 : r.1.err = 0 := by simpa using h2
  obtain ⟨q1, q2⟩ := hform h2
  have hr := his.1 h2
  have hm2 : r.1.count ≤ 100000 := hto.most hm1
  have fin : ∀ i', headTy c m (z ++ bs.drop us.length ++ ds) k i' = some h → ((r.1, Tm.mk [] k i' r.2).1.err = 0 → (r.1, Tm.mk [] k i' r.2).2.Is c m (z ++ bs.drop us.length ++ ds) (.mk [] h.base)) ∧ ((r.1, Tm.mk [] k i' r.2).1.err = 1 → mt.err = 1) :=
   fun i' hi' => ⟨fun _ => ⟨rfl, h, by rw [List.append_nil]; exact hi', rfl, by rw [List.append_nil]; exact hr⟩, fun he => by rw [h2] at he; cases he⟩
  by_cases hk0 : k = 0
  case neg =>
   rw [if_pos (.inl hk0)]
   exact fin i (by rw [headTy_far (y := z ++ bs ++ ds) hk0]; exact hh)
  subst hk0
  obtain ⟨v1, v2, _⟩ := headTy_var hh
  rw [List.length_append, List.length_append] at v2
  obtain ⟨j, rfl⟩ : ∃ j : Nat, i = j := ⟨i.toNat, by omega⟩
  rw [Int.toNat_natCast] at v2
  have hh' := hh
  rw [headTy_app] at hh'
  split
  ·rename_i h3
   have h3 : j < ds.length := by omega
   rw [if_pos h3] at hh'
   exact fin j (by rw [headTy_app, if_pos h3]; exact hh')
  rename_i h3
  have h3 : ¬ j < ds.length := by omega
  rw [if_neg h3, headTy_app] at hh'
  split
  ·rename_i h4
   rw [if_neg (by omega)] at hh'
   refine fin _ ?_
   rw [show ((j : Int) - (us.length : Nat)) = ((j - us.length : Nat) : Int) by omega, headTy_app, if_neg (by omega), headTy_app, List.length_drop, if_neg (by omega), show j - us.length - ds.length - (bs.length - us.length) = j - ds.length - bs.length by omega]
   exact hh'
  rename_i h4
  have hjn : j - ds.length < bs.length := by omega
  rw [if_pos hjn, headTy_nat, if_pos hjn, List.getElem?_eq_getElem (by omega)] at hh'
  have hh' := Option.some.inj hh'
  split
  ·rename_i h5
   refine fin j ?_
   rw [headTy_app, if_neg h3, headTy_app, List.length_drop, if_pos (by omega), headTy_nat, List.length_drop, if_pos (by omega), List.getElem?_drop, List.getElem?_eq_getElem (by omega), ← hh']
   congr 2; omega
  rename_i h5
  have hlt : bs.length - 1 - ((j : Int) - (ds.length : Nat)).toNat < us.length := by omega
  have hst : standT us j bs.length ds.length = us[bs.length - 1 - ((j : Int) - (ds.length : Nat)).toNat].lift (ds.length + bs.length - us.length) 0 := by
   unfold standT
   rw [List.getD_eq_getElem?_getD, List.getElem?_eq_getElem hlt]; rfl
  have hmem := List.getElem_mem hlt
  have hBn : B * us[bs.length - 1 - ((j : Int) - (ds.length : Nat)).toNat].nodes ≤ 1000000 * 1000000000 := Nat.mul_le_mul hB (hnd _ hmem)
  have hui := isL_get hu hlt (by rw [List.length_take]; omega)
  rw [List.getElem_take, show bs[bs.length - 1 - ((j : Int) - (ds.length : Nat)).toNat] = h from by rw [← hh']; congr 1; omega] at hui
  have hsi := lift_is (B := B) us[bs.length - 1 - ((j : Int) - (ds.length : Nat)).toNat] z (bs.drop us.length ++ ds) [] h (Tm.los_iff.1 hus _ hmem) (by rw [List.append_nil]; exact hui) (by rw [List.length_append, List.length_drop, List.length_nil]; omega)
  rw [List.append_nil, List.length_append, List.length_drop, show bs.length - us.length + ds.length = ds.length + bs.length - us.length by omega, List.length_nil, ← hst, ← List.append_assoc] at hsi
  have hslo := Tm.lo_eq.1 (standT_lo hus j bs.length ds.length)
  generalize standT us j bs.length ds.length = st at hsi hslo ⊢
  obtain ⟨s1, w, s2, s3, s4⟩ := Tm.is_eq.1 hsi
  have hrl := Tm.isL_len hr
  have hsb := Ty.sizes_len st.binds
  rw [if_neg (by rw [s1, hrl]; simp)]
  have hnest := body_is hB f r.1 st.kind st.index st.args r.2 (z ++ bs.drop us.length ++ ds) st.binds [] w hm2 hslo.2.1.1 hslo.2.1.2 hslo.1.2 hslo.2.2 q2 (by rw [s1, hrl]; omega) (by omega) (fun t ht => by
   have h1 := Tm.nodess_mem ht
   omega) (by rw [List.append_nil]; exact s2) (by rw [List.append_nil]; exact s4) (by rw [s1, hrl, List.take_length]; exact hr) (by rw [List.length_append, List.length_append, List.length_drop, List.length_nil]; omega)
  rw [List.append_nil, s1, hrl, List.drop_length, List.append_nil, ← s1, s3] at hnest
  exact ⟨hnest.1, fun he => by
   have := hnest.2 he
   rw [h2] at this; cases this⟩
theorem put_is {B : Nat} (hB : B ≤ 1000000) {c m : List Ty} {f : Nat} {mt : Mt} {t : Tm} {us : List Tm} {z : List Ty} {of : Ty} (hm : mt.count ≤ 100000) (ht : t.Lo B) (hus : Tm.Los B us) (hnd : ∀ t ∈ us, t.nodes ≤ 1000000000) (hti : t.Is c m z of) (hn : us.length ≤ of.args.length) (hui : Tm.IsL c m z us (of.args.take us.length)) (hK : z.length + B + B * f ≤ 4000000000000000000) :
  ((putT f mt t us).1.err = 0 → (putT f mt t us).2.Is c m z (.mk (of.args.drop us.length) of.base)) ∧ ((putT f mt t us).1.err = 1 → mt.err = 1) := by
 have hlo := Tm.lo_eq.1 ht
 have hbl := Ty.sizes_len t.binds
 obtain ⟨t1, v, t2, t3, t4⟩ := Tm.is_eq.1 hti
 have hb := body_is hB f mt t.kind t.index t.args us z t.binds [] v hm hlo.2.1.1 hlo.2.1.2 hlo.1.2 hlo.2.2 hus (by rw [t1]; omega) (by omega) hnd (by rw [List.append_nil]; exact t2) (by rw [List.append_nil]; exact t4) (by rw [t1]; exact hui) (by rw [List.length_nil]; omega)
 rw [List.length_nil, List.append_nil] at hb
 unfold putT
 split
 ·rename_i h; exact ⟨fun he => (h he).elim, fun he => he⟩
 rename_i h
 rw [if_neg (by rw [t1]; omega)]
 refine ⟨fun he => ?_, hb.2⟩
 obtain ⟨b1, w, b2, b3, b4⟩ := Tm.is_eq.1 (hb.1 he)
 have b1 : (bodyT f mt t.kind t.index t.args us t.binds.length 0).2.binds = [] := b1
 rw [b1, List.append_nil] at b2 b4
 exact ⟨by rw [t1]; rfl, w, b2, b3.trans t3, b4⟩
theorem eta_head {c m x : List Ty} {T : Ty} {k i : Int} (h : headTy c m x k i = some T) (l : List Ty) : headTy c m (x ++ l) k (if k = 0 then i + (l.length : Nat) else i) = some T := by
 by_cases hk : k = 0
 ·subst hk
  obtain ⟨h1, h2, _⟩ := headTy_var h
  obtain ⟨j, rfl⟩ : ∃ j : Nat, i = j := ⟨i.toNat, by omega⟩
  rw [if_pos rfl, show ((j : Int) + (l.length : Nat)) = ((j + l.length : Nat) : Int) by omega, headTy_app, if_neg (by omega), show j + l.length - l.length = j by omega]
  exact h
 ·rw [if_neg hk, headTy_far (y := x) hk]; exact h
theorem sizes_mem_len : ∀ {l : List Ty} {t : Ty}, t ∈ l → t.size + l.length ≤ Ty.sizes l + 1
 | u :: l, t, h => by
  rw [Ty.sizes, List.length_cons]
  rcases List.mem_cons.1 h with rfl | h
  ·have := Ty.sizes_len l; omega
  ·have := sizes_mem_len h; have := u.size_pos; omega
mutual
theorem etaT_is {c m : List Ty} : ∀ (T : Ty) (x : List Ty) (k i : Int), headTy c m x k i = some T → x.length + T.size ≤ 4000000000000000000 → (etaT k i T).Is c m x T
 | .mk l b, x, k, i, h, hb => by
  have hl := Ty.sizes_len l
  rw [Ty.size] at hb
  rw [etaT]
  refine ⟨rfl, .mk l b, ?_, rfl, etaTs_is l (x ++ l) l.length 0 (fun k hk => ?_) (fun t ht => by have := sizes_mem_len ht; rw [List.length_append]; omega)⟩
  ·have := eta_head h l
   by_cases hk : k = 0
   ·subst hk
    have hv := headTy_var h
    rw [if_pos rfl] at this ⊢
    rw [wrap_i (by omega) (by omega)]; exact this
   ·rw [if_neg hk] at this ⊢; exact this
  ·rw [show ((l.length : Nat) : Int) - 1 - ((0 + k : Nat) : Int) = ((l.length - 1 - k : Nat) : Int) by omega, headTy_app, if_pos (by omega), headTy_nat, if_pos (by omega), List.getElem?_eq_getElem (by omega)]
   congr 2; omega
theorem etaTs_is {c m : List Ty} : ∀ (l y : List Ty) (n j : Nat), (∀ (k : Nat) (hk : k < l.length), headTy c m y 0 ((n : Int) - 1 - ((j + k : Nat) : Int)) = some l[k]) → (∀ t ∈ l, y.length + t.size ≤ 4000000000000000000) → Tm.IsL c m y (etaTs n j l) l
 | [], y, n, j, _, _ => True.intro
 | t :: l, y, n, j, h, hb => by
  rw [etaTs]
  exact ⟨etaT_is t y 0 _ (h 0 (by simp)) (hb t List.mem_cons_self), etaTs_is l y n (j + 1) (fun k hk => by
   have := h (k + 1) (by simpa using hk)
   rw [show j + (k + 1) = j + 1 + k by omega] at this
   exact this) fun t ht => hb t (List.mem_cons_of_mem _ ht)⟩
end
theorem eta_apps {c m x : List Ty} {T : Ty} {l : List Tm} (h : La) (hl : Tm.IsL c m x l T.args) : Conv (apps (etaL T h) (Tm.las l)) (apps h (Tm.las l)) := by
 have hlen := Tm.isL_len hl
 have hn : (Tm.las l).length = T.args.length := by rw [las_len, hlen]
 have hz := zip_conv (key_lemma c m T.size) id x l T.args hl (fun v hv => by
  have := Ty.sizes_mem hv
  have := T.size_eq
  omega)
 rw [show (Tm.las l).map (·.ren id) = Tm.las l from (List.map_congr_left fun a _ => La.ren_id (ρ := id) a fun _ => rfl).trans (List.map_id _)] at hz
 generalize Tm.las l = us at hz hn ⊢
 rw [eta_eq]
 refine (beta_many us T.args _ (by omega)).trans ?_
 rw [hn, List.drop_length, apps_sub, ← hn, etas_put us T.args 0 (by omega), List.drop_zero]
 refine Conv.apps hz (.of_eq ?_)
 rw [La.sub_ren]
 refine (La.sub_ext h fun i => ?_).trans (La.sub_var h)
 unfold putS
 rw [if_neg (by omega), if_neg (by omega)]
 congr 1; omega
end Go.Proofs.YtghlgbhldnkdmaaGreat

namespace Go.Proofs.YtghlgbhldnkdmaaGreat
open Go
set_option linter.unusedSimpArgs false
set_option linter.unusedVariables false
@[simp] theorem wide_fn (f : FuncId) : Fence.wide.fn f = True := rfl
@[simp] theorem wide_depth : Fence.wide.depth = none := rfl
set_option maxRecDepth 100000
set_option maxHeartbeats 1600000
theorem race_disable (w : World) : (callFunc 178 #[]).run Tryz.prog w = .ok (.value (.tuple #[])) w := run_call_mark0 Tryz.func178 (by kernel_rfl) (by kernel_rfl) (by kernel_rfl) .disable (by kernel_rfl) w
theorem race_enable (w : World) : (callFunc 180 #[]).run Tryz.prog w = .ok (.value (.tuple #[])) w := run_call_mark0 Tryz.func180 (by kernel_rfl) (by kernel_rfl) (by kernel_rfl) .enable (by kernel_rfl) w
theorem race_acquire (a : Addr) (w : World) : (callFunc 181 #[.pointer (some a)]).run Tryz.prog w = .ok (.value (.tuple #[])) w := run_call_marked Tryz.func181 (by kernel_rfl) (by kernel_rfl) (by kernel_rfl) .acquire (by kernel_rfl) a w
theorem race_release (a : Addr) (w : World) : (callFunc 183 #[.pointer (some a)]).run Tryz.prog w = .ok (.value (.tuple #[])) w := run_call_marked Tryz.func183 (by kernel_rfl) (by kernel_rfl) (by kernel_rfl) .releaseMerge (by kernel_rfl) a w
theorem store_deferred (a : Addr) (x : Value) (u : FrameMode) (w : World) (hc : w.cell? a = some x) (hz : w.frozen? a = false) :
  CallsDIn Fence.wide 0 Tryz.prog 169 #[.pointer (some a), .bool true] u w fun e u' w' => u' = u ∧ (e = .returned (.tuple #[]) ∧ w' = w.drew.setCell a (.int .u32 1)) := by
 have hc' : w.drew.cell? a = some x := by go_simp
 have hz' : w.drew.frozen? a = false := by go_simp
 have hst := run_call_store (P := Tryz.prog) Tryz.func172 (by kernel_rfl) (by kernel_rfl) (by kernel_rfl) (by kernel_rfl) (k := .u32) (y := 1) hc' hz'
 gi_enter_d Tryz.func169, Tryz.ntmps169
 gi_wp2
 gi_region
 all_goals (go_end0; exact ⟨rfl, rfl⟩)
theorem lock_inner (a : Addr) (w : World) (hc : w.cell? a = some (.int .i32 0)) (hz : w.frozen? a = false) :
  CallsIn Fence.wide 0 Tryz.prog 176 #[.pointer (some a)] w fun e w' => e = .returned (.tuple #[]) ∧ w' = w.setCell a (.int .i32 1) := by
 have hd := race_disable
 have he := race_enable
 have ha := race_acquire
 have hcas := run_call_cas_hit (P := Tryz.prog) Tryz.func179 (by kernel_rfl) (by kernel_rfl) (by kernel_rfl) .i32 (by kernel_rfl) (y := 1) hc hz
 have hc' : (w.setCell a (.int .i32 1)).cell? a = some (.int .i32 1) := World.cell?_setCell_same w a _ hc
 have hcv := run_convert_to_unsafe (P := Tryz.prog) (src := 248) (dst := 252) Tryz.underlying248 Tryz.underlying252 (by kernel_rfl) hc'
 gi_enter Tryz.func176, Tryz.ntmps176
 gi_wp2
 first | go_end0 | (simp only [Exit.inBlock, Exit.then]; refine bodyPost_ret (results_none rfl _ _ _) rfl ?_) | refine bodyPost_ret (results_none rfl _ _ _) rfl ?_
 all_goals (first | exact ⟨rfl, rfl⟩ | (gi_wp2; go_end0; exact ⟨rfl, rfl⟩))
theorem lock_free (a : Addr) (w : World) (hc : w.cell? a = some (.int .i32 0)) (hz : w.frozen? a = false) :
  CallsIn Fence.wide 0 Tryz.prog 174 #[.pointer (some a)] w fun e w' => e = .returned (.tuple #[]) ∧ w' = w.setCell a (.int .i32 1) := by
 gi_enter Tryz.func174, Tryz.ntmps174
 gi_wp2_with (gi_at_call 176; refine (lock_inner a _ hc hz).mono ?_; rintro e w' ⟨rfl, rfl⟩)
 go_end0
 exact ⟨rfl, rfl⟩
theorem unlock_inner (a : Addr) (w : World) (hc : w.cell? a = some (.int .i32 1)) (hz : w.frozen? a = false) :
  CallsIn Fence.wide 0 Tryz.prog 177 #[.pointer (some a)] w fun e w' => e = .returned (.tuple #[]) ∧ w' = w.setCell a (.int .i32 0) := by
 have hd := race_disable
 have he := race_enable
 have hr := race_release
 have hadd := run_call_add (P := Tryz.prog) Tryz.func184 (by kernel_rfl) (by kernel_rfl) (by kernel_rfl) .i32 (by kernel_rfl) (y := -1) (s := 0) hc hz (by simp [go_sem]; rfl)
 have hcv := run_convert_to_unsafe (P := Tryz.prog) (src := 248) (dst := 252) Tryz.underlying248 Tryz.underlying252 (by kernel_rfl) hc
 gi_enter Tryz.func177, Tryz.ntmps177
 gi_wp2
 all_goals (first | exact ⟨rfl, rfl⟩ | (go_end0; exact ⟨rfl, rfl⟩))
theorem unlock_deferred (a : Addr) (u : FrameMode) (w : World) (hc : w.cell? a = some (.int .i32 1)) (hz : w.frozen? a = false) :
  CallsDIn Fence.wide 0 Tryz.prog 175 #[.pointer (some a)] u w fun e u' w' => u' = u ∧ (e = .returned (.tuple #[]) ∧ w' = w.setCell a (.int .i32 0)) := by
 gi_enter_d Tryz.func175, Tryz.ntmps175
 gi_wp2_with (gi_at_call 177; refine (unlock_inner a _ hc hz).mono ?_; rintro e w' ⟨rfl, rfl⟩)
 go_end0
 exact ⟨rfl, rfl⟩
theorem store_now (a : Addr) (x : Value) (w : World) (hc : w.cell? a = some x) (hz : w.frozen? a = false) :
  CallsIn Fence.wide 0 Tryz.prog 169 #[.pointer (some a), .bool true] w fun e w' => e = .returned (.tuple #[]) ∧ w' = w.drew.setCell a (.int .u32 1) := by
 have hc' : w.drew.cell? a = some x := by go_simp
 have hz' : w.drew.frozen? a = false := by go_simp
 have hst := run_call_store (P := Tryz.prog) Tryz.func172 (by kernel_rfl) (by kernel_rfl) (by kernel_rfl) (by kernel_rfl) (k := .u32) (y := 1) hc' hz'
 gi_enter Tryz.func169, Tryz.ntmps169
 gi_wp2
 gi_region
 all_goals (go_end0; exact ⟨rfl, rfl⟩)
theorem dry_told (b off : Nat) (pl : Addr) (x5 : Value) (w : World) (hp : w.cell? pl = some (.pointer (some ⟨b, off, none⟩)))
  (h5 : w.cell? ⟨b, off + 5, none⟩ = some x5) (f5 : w.frozen? ⟨b, off + 5, none⟩ = false) :
  CallsIn Fence.wide 0 Tryz.prog 168 #[.pointer (some pl)] w fun e w' => e = .returned (.tuple #[]) ∧ w' = w.drew.setCell ⟨b, off + 5, none⟩ (.int .u32 1) := by
 gi_enter Tryz.func168, Tryz.ntmps168
 gi_wp2_with (gi_at_call 169; refine (store_now ⟨b, off + 5, none⟩ x5 _ h5 f5).mono ?_; rintro e w' ⟨rfl, rfl⟩)
 go_end0
 exact ⟨rfl, rfl⟩
theorem load_bool (a : Addr) (d : Int) (w : World) (hc : w.cell? a = some (.int .u32 d)) :
  CallsIn Fence.wide 0 Tryz.prog 59 #[.pointer (some a)] w fun e w' => e = .returned (.bool (d != 0)) ∧ w' = w := by
 have hl := run_call_load (P := Tryz.prog) Tryz.func113 (by kernel_rfl) (by kernel_rfl) (by kernel_rfl) .u32 (by kernel_rfl) hc
 gi_enter Tryz.func59, Tryz.ntmps59
 gi_wp2
 go_ret
 exact ⟨rfl, rfl⟩
theorem slow_any (b off : Nat) (pl : Addr) (hpb : ¬ b = pl.block) (x5 : Value) (w : World) (hp : w.cell? pl = some (.pointer (some ⟨b, off, none⟩)))
  (h2 : w.cell? ⟨b, off + 2, none⟩ = some (.int .u32 0)) (h3 : w.cell? ⟨b, off + 3, none⟩ = some (.int .i32 0)) (h5 : w.cell? ⟨b, off + 5, none⟩ = some x5)
  (f2 : w.frozen? ⟨b, off + 2, none⟩ = false) (f3 : w.frozen? ⟨b, off + 3, none⟩ = false) (f5 : w.frozen? ⟨b, off + 5, none⟩ = false) :
  CallsIn Fence.wide 0 Tryz.prog 171 #[.pointer (some ⟨b, off + 2, none⟩), .func (.func 168) #[] #[.pointer (some pl)]] w fun e w' => e = .returned (.tuple #[]) ∧
   w' = (((w.setCell ⟨b, off + 3, none⟩ (.int .i32 1)).drew.setCell ⟨b, off + 5, none⟩ (.int .u32 1)).drew.setCell ⟨b, off + 2, none⟩ (.int .u32 1)).setCell ⟨b, off + 3, none⟩ (.int .i32 0) := by
 have h21 : (w.setCell ⟨b, off + 3, none⟩ (.int .i32 1)).cell? ⟨b, off + 2, none⟩ = some (.int .u32 0) := ((World.cell?_setCell_other _ ⟨b, off + 3, none⟩ ⟨b, off + 2, none⟩ _ (by simp)).trans h2)
 have hp1 : (w.setCell ⟨b, off + 3, none⟩ (.int .i32 1)).cell? pl = some (.pointer (some ⟨b, off, none⟩)) := (World.cell?_setCell_other _ ⟨b, off + 3, none⟩ pl _ (fun h => hpb (by rw [← h]))).trans hp
 have h51 : (w.setCell ⟨b, off + 3, none⟩ (.int .i32 1)).cell? ⟨b, off + 5, none⟩ = some x5 := (World.cell?_setCell_other _ ⟨b, off + 3, none⟩ ⟨b, off + 5, none⟩ _ (by simp)).trans h5
 have f51 : (w.setCell ⟨b, off + 3, none⟩ (.int .i32 1)).frozen? ⟨b, off + 5, none⟩ = false := by simp [f5]
 have hnot : ∀ (x : Bool) (w : World), (Op.unary .not (.bool x)).run Tryz.prog w = .ok (.bool (!x)) w := fun _ _ => rfl
 gi_enter_defers Tryz.func171, Tryz.ntmps171
 gi_wp2_with (first | (gi_at_call 59; refine (load_bool ⟨b, off + 2, none⟩ 0 _ h21).mono ?_; rintro e w' ⟨rfl, rfl⟩) | (gi_at_call 174; refine (lock_free ⟨b, off + 3, none⟩ _ (by go_simp) (by go_simp)).mono ?_; rintro e w' ⟨rfl, rfl⟩) | (gi_at_call 168; refine (dry_told b off pl x5 _ hp1 h51 f51).mono ?_; rintro e w' ⟨rfl, rfl⟩))
 refine leavesIn_cons (f := 169) (args := #[.pointer (some ⟨b, off + 2, none⟩), .bool true]) (by simp) (by simp) (by simp [go_sem]) (by simp [Target.leads]) ?_
 refine (store_deferred ⟨b, off + 2, none⟩ (.int .u32 0) .returning _ ?_ (by simp [f2])).mono ?_
 ·rw [World.cell?_drew]
  exact (World.cell?_setCell_other _ ⟨b, off + 5, none⟩ ⟨b, off + 2, none⟩ _ (by simp)).trans ((World.cell?_setCell_other _ ⟨b, off + 3, none⟩ ⟨b, off + 2, none⟩ _ (by simp)).trans h2)
 rintro e u' w'' ⟨rfl, rfl, rfl⟩
 refine leavesIn_cons (f := 175) (args := #[.pointer (some ⟨b, off + 3, none⟩)]) (by simp [settle]) (by simp) (by simp [go_sem]) (by simp [Target.leads]) ?_
 refine (unlock_deferred ⟨b, off + 3, none⟩ _ _ ?_ (by simp [f3])).mono ?_
 ·refine (World.cell?_setCell_other _ ⟨b, off + 2, none⟩ ⟨b, off + 3, none⟩ _ (by simp)).trans ?_
  rw [World.cell?_drew, World.cell?_drew]
  refine (World.cell?_setCell_other _ ⟨b, off + 5, none⟩ ⟨b, off + 3, none⟩ _ (by simp)).trans ?_
  exact World.cell?_setCell_same w _ _ h3
 rintro e u' w'' ⟨rfl, rfl, rfl⟩
 simp [LeavesIn, settle, results, Tryz.results171]
 go_simp
set_option maxRecDepth 100000 in
set_option maxHeartbeats 1600000 in
theorem once_first (b off : Nat) (pl : Addr) (hpb : ¬ b = pl.block) (x5 : Value) (w : World) (hp : w.cell? pl = some (.pointer (some ⟨b, off, none⟩)))
  (h2 : w.cell? ⟨b, off + 2, none⟩ = some (.int .u32 0)) (h3 : w.cell? ⟨b, off + 3, none⟩ = some (.int .i32 0)) (h5 : w.cell? ⟨b, off + 5, none⟩ = some x5)
  (f2 : w.frozen? ⟨b, off + 2, none⟩ = false) (f3 : w.frozen? ⟨b, off + 3, none⟩ = false) (f5 : w.frozen? ⟨b, off + 5, none⟩ = false) :
  CallsIn Fence.wide 0 Tryz.prog 167 #[.pointer (some ⟨b, off + 2, none⟩), .func (.func 168) #[] #[.pointer (some pl)]] w fun e w' => e = .returned (.tuple #[]) ∧
   w' = (((w.setCell ⟨b, off + 3, none⟩ (.int .i32 1)).drew.setCell ⟨b, off + 5, none⟩ (.int .u32 1)).drew.setCell ⟨b, off + 2, none⟩ (.int .u32 1)).setCell ⟨b, off + 3, none⟩ (.int .i32 0) := by
 have hnot : ∀ (x : Bool) (w : World), (Op.unary .not (.bool x)).run Tryz.prog w = .ok (.bool (!x)) w := fun _ _ => rfl
 gi_enter Tryz.func167, Tryz.ntmps167
 gi_wp2_with (first | (gi_at_call 59; refine (load_bool ⟨b, off + 2, none⟩ 0 _ h2).mono ?_; rintro e w' ⟨rfl, rfl⟩) | (gi_at_call 171; refine (slow_any b off pl hpb x5 _ hp h2 h3 h5 f2 f3 f5).mono ?_; rintro e w' ⟨rfl, rfl⟩))
 go_end0
 exact ⟨rfl, rfl⟩
theorem once_again (a : Addr) (d : Int) (hd : ¬ d = 0) (fv : Value) (w : World) (h0 : w.cell? a = some (.int .u32 d)) :
  CallsIn Fence.wide 0 Tryz.prog 167 #[.pointer (some a), fv] w fun e w' => e = .returned (.tuple #[]) ∧ w' = w := by
 have hnot : ∀ (x : Bool) (w : World), (Op.unary .not (.bool x)).run Tryz.prog w = .ok (.bool (!x)) w := fun _ _ => rfl
 have hd' : (d != 0) = true := by simp [hd]
 gi_enter Tryz.func167, Tryz.ntmps167
 gi_wp2_with (gi_at_call 59; refine (load_bool a d _ h0).mono ?_; rintro e w' ⟨rfl, rfl⟩)
 go_end0
 exact ⟨rfl, rfl⟩
end Go.Proofs.YtghlgbhldnkdmaaGreat

namespace Go.Proofs.YtghlgbhldnkdmaaGreat
open Go
set_option linter.unusedSimpArgs false
set_option linter.unusedVariables false
set_option maxRecDepth 100000
def budV (l u d m s y : Int) : Array Value := #[.int .i64 l, .int .i64 u, .int .u32 d, .int .i32 m, .int .u32 s, .int .u32 y]
theorem prim_inv {w : World} {F : Nat → Nat → Prop} {η : List Value} {hp : List AObj} {u v : Value} (h : Rep w F η hp (.prim u) v) : v = u := by cases h; rfl
theorem ptr_inv {w : World} {F : Nat → Nat → Prop} {η : List Value} {hp : List AObj} {r o : Nat} {v : Value} (h : Rep w F η hp (.ptr r o) v) : ∃ b, v = .pointer (some ⟨b, o, none⟩) ∧ η[r]? = some (.pointer (some ⟨b, 0, none⟩)) := by
 cases h with | ptr _ _ b h1 => exact ⟨b, rfl, h1⟩
theorem bud_read {w : World} {F : Nat → Nat → Prop} {η : List Value} {hp : List AObj} {l u d m s y : Int} {b : Nat} (h : ObjOk w F η hp (.box (budC l u d m s y)) (.pointer (some ⟨b, 0, none⟩))) :
  ∃ T, w.heap[b]? = some (.cells (budV l u d m s y) T (0, 0)) := by
 obtain ⟨b', vs, T, e1, e2, e3, e4⟩ := h
 cases e1
 refine ⟨T, ?_⟩
 rw [e2]
 congr 2
 refine Array.ext (by rw [e3]; rfl) fun i h1 h2 => ?_
 have hs : i < 6 := h2
 have hu : vs[i]? = some vs[i] := Array.getElem?_eq_getElem h1
 match i, hs with
 | 0, _ => exact prim_inv (e4 0 _ _ rfl hu).1
 | 1, _ => exact prim_inv (e4 1 _ _ rfl hu).1
 | 2, _ => exact prim_inv (e4 2 _ _ rfl hu).1
 | 3, _ => exact prim_inv (e4 3 _ _ rfl hu).1
 | 4, _ => exact prim_inv (e4 4 _ _ rfl hu).1
 | 5, _ => exact prim_inv (e4 5 _ _ rfl hu).1
theorem bud_lay {w : World} {F : Nat → Nat → Prop} {η : List Value} {hp : List AObj} {l u d m s y : Int} (j : Nat) (x : AV) (v : Value) (h1 : (budC l u d m s y)[j]? = some x) (h2 : (budV l u d m s y)[j]? = some v) :
  Rep w F η hp x v ∧ v.oneCell' = true := by
 have hs : j < 6 := (List.getElem?_eq_some_iff.1 h1).1
 match j, hs with
 | 0, _ => cases h1; cases h2; exact ⟨.prim _, rfl⟩
 | 1, _ => cases h1; cases h2; exact ⟨.prim _, rfl⟩
 | 2, _ => cases h1; cases h2; exact ⟨.prim _, rfl⟩
 | 3, _ => cases h1; cases h2; exact ⟨.prim _, rfl⟩
 | 4, _ => cases h1; cases h2; exact ⟨.prim _, rfl⟩
 | 5, _ => cases h1; cases h2; exact ⟨.prim _, rfl⟩
theorem once_do (l u d s y : Int) : HFn Tryz.prog 167 [.ptr 0 2, .clo 168 [.ptr 1 0]] [.box (budC l u d 0 s y), .box [.ptr 0 0]]
  (fun r hp' => r = .tup [] ∧ hp' = [.box (budC l u (if d = 0 then 1 else d) 0 s (if d = 0 then 1 else y)), .box [.ptr 0 0]]) := by
 refine ⟨⟨_, Tryz.func167, by kernel_rfl, by kernel_rfl⟩, fun w F η vals hpre hv => ?_⟩
 match vals, hv with
 | [v0, v1], ⟨r0, r1, _⟩ =>
  obtain ⟨b, rfl, h0⟩ := ptr_inv r0
  cases r1 with
  | clo _ _ caps hl hc =>
   obtain ⟨c0, rfl⟩ : ∃ c0, caps = #[c0] := by
    match caps, hl with
    | ⟨[c0]⟩, _ => exact ⟨c0, rfl⟩
   obtain ⟨b1, rfl, h1⟩ := ptr_inv (hc 0 _ _ rfl rfl)
   obtain ⟨T, hb⟩ := bud_read (hpre.heap.obj 0 _ _ rfl h0)
   obtain ⟨b1', vs1, T1, e1, e2, e3, e4⟩ := hpre.heap.obj 1 _ _ rfl h1
   cases e1
   have hne : ¬ b = b1 := fun h => hpre.heap.sep 0 1 _ _ _ _ b (by omega) rfl rfl True.intro True.intro h0 h1 rfl (by rw [h]; rfl)
   obtain ⟨p0, rfl⟩ : ∃ p0, vs1 = #[p0] := by
    match vs1, e3 with
    | ⟨[c0]⟩, _ => exact ⟨c0, rfl⟩
   obtain ⟨b', rfl, h0'⟩ := ptr_inv (e4 0 _ _ rfl rfl).1
   rw [h0] at h0'
   cases h0'
   have cell : ∀ (k : Nat) (x : Value), (budV l u d 0 s y)[k]? = some x → w.cell? ⟨b, k, none⟩ = some x := fun k x hx => by simp only [World.cell?, hb]; exact hx
   have froz : ∀ k, w.frozen? ⟨b, k, none⟩ = false := fun k => by simp [World.frozen?, hb]
   by_cases hd : d = 0
   ·subst hd
    refine (once_first b 0 ⟨b1, 0, none⟩ hne (.int .u32 y) w (by simp only [World.cell?, e2]; rfl) (cell 2 _ rfl) (cell 3 _ rfl) (cell 5 _ rfl) (froz 2) (froz 3) (froz 5)).mono ?_
    rintro e w' ⟨rfl, rfl⟩
    refine ⟨_, .tup [], _, η, rfl, ⟨rfl, rfl⟩, ?_⟩
    have g1 := heap_setCell_same w b 3 _ T (.int .i32 1) hb
    have g2 := heap_setCell_same (w.setCell ⟨b, 3, none⟩ (.int .i32 1)).drew b 5 _ T (.int .u32 1) g1
    have g3 := heap_setCell_same ((w.setCell ⟨b, 3, none⟩ (.int .i32 1)).drew.setCell ⟨b, 5, none⟩ (.int .u32 1)).drew b 2 _ T (.int .u32 1) g2
    have g4 := heap_setCell_same _ b 3 _ T (.int .i32 0) g3
    refine hpost_box (q := 0) (b := b) (vs' := budV l u 1 0 s 1) (T := T) hpre rfl h0 ⟨rfl, rfl, rfl, by simp [World.drew], fun k _ hk => ?_⟩ (by simp [World.drew]) g4 rfl bud_lay (.tup [] #[] rfl fun j y u hy _ => by cases hy)
    rw [heap_setCell_other _ _ _ _ hk, heap_setCell_other _ _ _ _ hk]
    show ((w.setCell _ _).drew.setCell _ _).heap[k]? = _
    rw [heap_setCell_other _ _ _ _ hk]
    show (w.setCell _ _).heap[k]? = _
    rw [heap_setCell_other _ _ _ _ hk]
   ·refine (once_again ⟨b, 2, none⟩ d hd _ w (cell 2 _ rfl)).mono ?_
    rintro e w' ⟨rfl, rfl⟩
    refine ⟨_, .tup [], _, η, rfl, ⟨rfl, rfl⟩, ?_⟩
    simp only [hd, if_false]
    exact hpost_box (q := 0) (b := b) (vs' := budV l u d 0 s y) (T := T) hpre rfl h0 ⟨rfl, rfl, rfl, Nat.le_refl _, fun _ _ _ => rfl⟩ rfl hb rfl bud_lay (.tup [] #[] rfl fun j y u hy _ => by cases hy)
end Go.Proofs.YtghlgbhldnkdmaaGreat

namespace Go.Proofs.YtghlgbhldnkdmaaGreat
open Go
set_option linter.unusedSimpArgs false
set_option linter.unusedVariables false
variable {l u d m s y : Int}
theorem bud_left : HFn Tryz.prog 19 [.ptr 0 0] [.box (budC l u d m s y)] (fun r hp' => r = nI l ∧ hp' = [.box (budC l u d m s y)]) :=
 vc19_ok ⟨_, vc_loadLeft_ok (R := fun r hp' => r = nI l ∧ hp' = [.box (budC l u d m s y)]) ⟨rfl, rfl⟩, fun r q ⟨e1, e2⟩ => ⟨l, u, d, m, s, y, l, ⟨e1, e2⟩, rfl, rfl⟩⟩
theorem bud_dry : HFn Tryz.prog 20 [.ptr 0 0] [.box (budC l u d m s y)] (fun r hp' => r = nB (y != 0) ∧ hp' = [.box (budC l u d m s y)]) :=
 vc20_ok ⟨_, vc_loadDry_ok (R := fun r hp' => r = nB (y != 0) ∧ hp' = [.box (budC l u d m s y)]) ⟨rfl, rfl⟩, fun r q ⟨e1, e2⟩ => ⟨l, u, d, m, s, y, y != 0, ⟨e1, e2⟩, rfl, rfl⟩⟩
def lessW (l n : Int) : Int := IntKind.wrap .i64 (l + IntKind.wrap .i64 (0 - n))
def moreW (u n : Int) : Int := IntKind.wrap .i64 (u + n)
theorem bud_take (n : Int) : HFn Tryz.prog 163 [.ptr 0 0, nI n] [.box (budC l u d m s y)] (fun r hp' => r = .tup [] ∧ hp' = [.box (budC (lessW l n) (moreW u n) d m s y)]) :=
 vc163_ok ⟨_, vc_addLeft_ok (R := fun r hp' => r = nI (lessW l n) ∧ hp' = [.box (budC (lessW l n) u d m s y)]) ⟨rfl, rfl⟩, fun r q ⟨e1, e2⟩ => ⟨lessW l n, u, d, m, s, y, lessW l n, ⟨e1, e2⟩,
  _, vc_addUsed_ok (R := fun r hp' => r = nI (moreW u n) ∧ hp' = [.box (budC (lessW l n) (moreW u n) d m s y)]) ⟨rfl, rfl⟩, fun r q ⟨e1, e2⟩ => ⟨lessW l n, moreW u n, d, m, s, y, moreW u n, ⟨e1, e2⟩, rfl, rfl⟩⟩⟩
theorem bud_dried : HFn Tryz.prog 164 [.ptr 0 0] [.box (budC l u d 0 s y)] (fun r hp' => r = .tup [] ∧ hp' = [.box (budC l u (if d = 0 then 1 else d) 0 s (if d = 0 then 1 else y))]) :=
 vc164_ok ⟨_, once_do l u d s y, fun r q ⟨e1, e2⟩ => ⟨l, u, _, 0, s, _, ⟨e1, e2⟩, rfl, rfl⟩⟩
def spendC (l u d s y n : Int) : List AV := if y ≠ 0 ∨ n > l then budC (lessW l l) (moreW u l) (if d = 0 then 1 else d) 0 s (if d = 0 then 1 else y) else budC (lessW l n) (moreW u n) d 0 s y
theorem bud_spend (n : Int) (hn : 0 ≤ n) : HFn Tryz.prog 157 [.ptr 0 0, nI n] [.box (budC l u d 0 s y)]
  (fun r hp' => r = nB (decide (¬ (y ≠ 0 ∨ n > l))) ∧ hp' = [.box (spendC l u d s y n)]) := by
 refine vc157_ok ?_
 unfold vc157
 rw [show decide (n < 0) = false from decide_eq_false (by omega)]
 refine ⟨_, bud_dry, fun r q ⟨e1, e2⟩ => ⟨l, u, d, 0, s, y, y != 0, ⟨e1, e2⟩, ?_⟩⟩
 by_cases hy : y = 0
 ·subst hy
  refine ⟨_, bud_left, fun r q ⟨e1, e2⟩ => ⟨l, u, d, 0, s, 0, l, ⟨e1, e2⟩, ?_⟩⟩
  by_cases h : n > l
  ·rw [show decide (n > l) = true from decide_eq_true h]
   refine ⟨_, bud_left, fun r q ⟨e1, e2⟩ => ⟨l, u, d, 0, s, 0, l, ⟨e1, e2⟩, _, bud_take l, fun r q ⟨e1, e2⟩ => ⟨_, _, d, 0, s, 0, ⟨e1, e2⟩, _, bud_dried, fun r q ⟨e1, e2⟩ => ⟨_, _, _, 0, s, _, ⟨e1, e2⟩, ?_⟩⟩⟩⟩
   exact ⟨by simp [h], by simp only [spendC, h, or_true, if_true]⟩
  ·rw [show decide (n > l) = false from decide_eq_false h]
   refine ⟨_, bud_take n, fun r q ⟨e1, e2⟩ => ⟨_, _, d, 0, s, 0, ⟨e1, e2⟩, ?_⟩⟩
   exact ⟨by simp [h], by simp only [spendC, h, ne_eq, not_true_eq_false, or_self, if_false]⟩
 ·rw [show (y != 0) = true from by simp [hy]]
  refine ⟨_, bud_left, fun r q ⟨e1, e2⟩ => ⟨l, u, d, 0, s, y, l, ⟨e1, e2⟩, _, bud_take l, fun r q ⟨e1, e2⟩ => ⟨_, _, d, 0, s, y, ⟨e1, e2⟩, _, bud_dried, fun r q ⟨e1, e2⟩ => ⟨_, _, _, 0, s, _, ⟨e1, e2⟩, ?_⟩⟩⟩⟩
  exact ⟨by simp [hy], by simp only [spendC, ne_eq, hy, not_false_eq_true, true_or, if_true]⟩
end Go.Proofs.YtghlgbhldnkdmaaGreat

namespace Go.Proofs.YtghlgbhldnkdmaaGreat
open Go
set_option linter.unusedSimpArgs false
set_option linter.unusedVariables false
set_option maxRecDepth 100000
set_option maxHeartbeats 1600000
theorem store_int (a : Addr) (x : Value) (n : Int) (w : World) (hc : w.cell? a = some x) (hz : w.frozen? a = false) :
  CallsIn Fence.wide 0 Tryz.prog 88 #[.pointer (some a), .int .i64 n] w fun e w' => e = .returned (.tuple #[]) ∧ w' = w.setCell a (.int .i64 n) := by
 have hst := run_call_store (P := Tryz.prog) Tryz.func122 (by kernel_rfl) (by kernel_rfl) (by kernel_rfl) (by kernel_rfl) (k := .i64) (y := n) hc hz
 gi_enter Tryz.func88, Tryz.ntmps88
 gi_wp2
 go_end0
 exact ⟨rfl, rfl⟩
theorem new_walk (n : Int) (w : World) :
  CallsIn Fence.wide 0 Tryz.prog 36 #[.int .i64 n] w fun e w' => e = .returned (.pointer (some ⟨w.heap.size, 0, none⟩)) ∧
   w' = (w.alloc (.cells (budV 0 0 0 0 0 0) 129)).setCell ⟨w.heap.size, 0, none⟩ (.int .i64 (if n < 0 then 0 else n)) := by
 have hc : (w.alloc (.cells (budV 0 0 0 0 0 0) 129)).cell? ⟨w.heap.size, 0, none⟩ = some (.int .i64 0) := by simp [budV]
 have hz : (w.alloc (.cells (budV 0 0 0 0 0 0) 129)).frozen? ⟨w.heap.size, 0, none⟩ = false := by simp
 gi_enter Tryz.func36, Tryz.ntmps36
 gi_wp2_with (gi_at_call 88; refine (store_int ⟨w.heap.size, 0, none⟩ (.int .i64 0) _ _ hc hz).mono ?_; rintro e w' ⟨rfl, rfl⟩)
 all_goals (go_ret; exact ⟨rfl, rfl⟩)
theorem bud_new (n : Int) (hp : List AObj) : HFn Tryz.prog 36 [nI n] hp (fun r hp' => r = .ptr hp.length 0 ∧ hp' = hp ++ [.box (budC (if n < 0 then 0 else n) 0 0 0 0 0)]) := by
 refine ⟨⟨_, Tryz.func36, by kernel_rfl, by kernel_rfl⟩, fun w F η vals hpre hv => ?_⟩
 match vals, hv with
 | [v0], ⟨r0, _⟩ =>
  obtain rfl := prim_inv r0
  refine (new_walk n w).mono ?_
  rintro e w' ⟨rfl, rfl⟩
  have g0 : (w.alloc (.cells (budV 0 0 0 0 0 0) 129)).heap[w.heap.size]? = some (.cells (budV 0 0 0 0 0 0) 129 (0, 0)) := heap_alloc_new w _
  have g1 := heap_setCell_same _ w.heap.size 0 _ _ (.int .i64 (if n < 0 then 0 else n)) g0
  refine ⟨_, .ptr hp.length 0, _, _, rfl, ⟨rfl, rfl⟩, hpost_new (vs := budV (if n < 0 then 0 else n) 0 0 0 0 0) hpre ⟨rfl, rfl, rfl, by simp, fun k hk _ => ?_⟩ (by simp) g1 rfl bud_lay⟩
  rw [heap_setCell_other _ _ _ _ (Nat.ne_of_lt hk)]
  exact (Same.alloc w _).block k hk
end Go.Proofs.YtghlgbhldnkdmaaGreat

namespace Go.Proofs.YtghlgbhldnkdmaaGreat
open Go
set_option linter.unusedSimpArgs false
set_option linter.unusedVariables false
variable {l u d s y n : Int}
theorem lessW_eq (h0 : 0 ≤ n) (h1 : n ≤ l) (h2 : l ≤ 9223372036854775807) : lessW l n = l - n := by
 unfold lessW
 rw [IntWalk.i64_in (0 - n) (by omega), IntWalk.i64_in _ (by omega)]
 omega
theorem moreW_eq (h0 : 0 ≤ n) (h1 : 0 ≤ u) (h2 : u + n ≤ 9223372036854775807) : moreW u n = u + n := by
 unfold moreW
 rw [IntWalk.i64_in _ (by omega)]
theorem spend_one (h1 : 1 ≤ l) (h2 : 0 ≤ u) (h3 : l + u ≤ 9223372036854775807) : spendC l u 0 s 0 1 = budC (l - 1) (u + 1) 0 0 s 0 := by
 unfold spendC
 rw [if_neg (by omega), lessW_eq (by omega) (by omega) (by omega), moreW_eq (by omega) (by omega) (by omega)]
end Go.Proofs.YtghlgbhldnkdmaaGreat

namespace Go.Proofs.YtghlgbhldnkdmaaGreat
open Go
set_option linter.unusedSimpArgs false
set_option linter.unusedVariables false
theorem HFn.repw {P : Program} {f : FuncId} {args : List AV} {hp : List AObj} {R : AV → List AObj → Prop} (h : HFn P f args hp (fun r hp' => ∃ r2, RepW r r2 ∧ R r2 hp')) : HFn P f args hp R :=
 ⟨h.1, fun w F η vals hpre hv => (h.2 w F η vals hpre hv).mono fun e w' ⟨v, r, hp', η', he, ⟨r2, hw, hR⟩, hpost⟩ => ⟨v, r2, hp', η', he, hR, ⟨hpost.keeps, hpost.ext, hpost.heap, hpost.mine, hw _ _ _ _ _ hpost.rep⟩⟩⟩
theorem RepWL.repL {w : World} {F : Nat → Nat → Prop} {η : List Value} {hp : List AObj} : ∀ {xs ys : List AV} {vs : List Value}, RepWL xs ys → RepL w F η hp xs vs → RepL w F η hp ys vs
 | [], [], _, _, h => h
 | x :: xs, y :: ys, [], _, h => h.elim
 | x :: xs, y :: ys, v :: vs, hw, h => ⟨hw.1 _ _ _ _ _ h.1, RepWL.repL hw.2 h.2⟩
theorem HFn.args {P : Program} {f : FuncId} {args args' : List AV} {hp : List AObj} {R : AV → List AObj → Prop} (hw : RepWL args args') (h : HFn P f args' hp R) : HFn P f args hp R :=
 ⟨h.1, fun w F η vals hpre hv => h.2 w F η vals hpre (hw.repL hv)⟩
theorem repw_nil : RepW (.prim (.slice none 0 0)) (.sl []) := fun _ _ _ _ _ h => by cases h; exact .sl0 none
theorem repw_clip (l : List AV) : RepW (.clip l) (.sl l) := fun _ _ _ _ _ h => h.of_clip
theorem repw_noTm' : RepW (.agg [.prim (.slice none 0 0), nI 0, nI 0, .prim (.slice none 0 0)]) (.agg [.sl [], nI 0, nI 0, .sl []]) := RepW.agg ⟨repw_nil, RepW.refl _, RepW.refl _, repw_nil, True.intro⟩
theorem mkOk {d : TD} {n : Nat} (h : d.bytes ≤ 1000) (hn : n ≤ 4000000000) : 0 ≤ (n : Int) ∧ (n : Int) ≤ 9223372036854775807 ∧ (TD.bytes d : Int) * (n : Int) ≤ 281474976710656 := by
 refine ⟨by omega, by omega, ?_⟩
 have h1 : (TD.bytes d : Int) * (n : Int) = ((d.bytes * n : Nat) : Int) := by simp
 have h2 : d.bytes * n ≤ 1000 * 4000000000 := Nat.mul_le_mul h hn
 rw [h1]; omega
def wrkO (l u d s y c e : Int) : List AObj := [.box (budC l u d 0 s y), .box [.ptr 0 0, nI c, nI e]]
structure BudOk (n : Nat) (l u d y : Int) : Prop where
 left : l = n
 used : 0 ≤ u
 sum : l + u ≤ 4000000000000000000
 dry : y = 0 ↔ d = 0
 none : y ≠ 0 → n = 0
structure MtOk (m : Mt) (l u d y c e : Int) : Prop where
 bud : BudOk m.left l u d y
 err : e = m.err
 most : m.count ≤ 100000
 count : m.err = 0 → c = m.count
 fuel : m.err = 11 → y ≠ 0
def MtHp (m : Mt) (hp : List AObj) : Prop := ∃ l u d s y c e, hp = wrkO l u d s y c e ∧ MtOk m l u d y c e
variable {m : Mt} {l u d s y c e : Int}
theorem spend_ok {left : Nat} (h : BudOk left l u d y) : HFn Tryz.prog 157 [.ptr 0 0, nI 1] [.box (budC l u d 0 s y)]
  (fun r hp' => ∃ l' u' d' y', r = nB (decide (left ≠ 0)) ∧ hp' = [.box (budC l' u' d' 0 s y')] ∧ BudOk (left - 1) l' u' d' y' ∧ (left = 0 → y' ≠ 0)) := by
 refine (bud_spend (l := l) (u := u) (d := d) (s := s) (y := y) 1 (by decide)).mono fun r hp' ⟨e1, e2⟩ => ?_
 have hl := h.left
 by_cases h0 : left = 0
 ·subst h0
  have hl0 : l = 0 := by simpa using hl
  subst hl0
  have hq : y ≠ 0 ∨ 1 > (0 : Int) := .inr (by decide)
  refine ⟨0, u, if d = 0 then 1 else d, if d = 0 then 1 else y, by rw [e1]; simp, ?_, ⟨rfl, h.used, by have := h.sum; omega, ?_, fun _ => rfl⟩, fun _ => ?_⟩
  ·rw [e2, spendC, if_pos hq, lessW_eq (by omega) (by omega) (by omega), moreW_eq (by omega) h.used (by have := h.sum; omega)]
   simp
  ·by_cases hd : d = 0
   ·simp [hd]
   ·simp only [hd, if_false]
    exact ⟨fun hy => (hd (h.dry.1 hy)).elim, fun hd' => hd'.elim⟩
  ·by_cases hd : d = 0
   ·simp [hd]
   ·simp only [hd, if_false]
    exact fun hy => hd (h.dry.1 hy)
 ·have hy : y = 0 := Decidable.byContradiction fun hc => h0 (h.none hc)
  have hd : d = 0 := h.dry.1 hy
  subst hy; subst hd
  have hq : ¬ ((0 : Int) ≠ 0 ∨ 1 > l) := by omega
  refine ⟨l - 1, u + 1, 0, 0, ?_, ?_, ⟨by omega, by have := h.used; omega, by have := h.sum; omega, Iff.rfl, fun h => (h rfl).elim⟩, fun h => (h0 h).elim⟩
  ·rw [e1, decide_eq_true hq, decide_eq_true h0]
  ·rw [e2, spend_one (by omega) h.used (by have := h.sum; omega)]
theorem fail_calls (e1 : Int) : HFn Tryz.prog 120 [.ptr 1 0, nI e1] (wrkO l u d s y c e) (fun r hp' => r = .tup [] ∧ hp' = wrkO l u d s y c (if e = 0 then e1 else e)) :=
 vc120_ok (ITE.intro (fun h => ⟨rfl, by rw [if_pos (by simpa using h)]; rfl⟩) fun h => ⟨rfl, by rw [if_neg (by simpa using h)]; rfl⟩)
theorem units_stop {m : Mt} (h : m.err ≠ 0) : ∀ n, m.units n = (m, false)
 | 0 => by rw [Mt.units, decide_eq_false h]
 | n + 1 => by
  have h1 : m.one = (m, false) := by unfold Mt.one; rw [if_pos h]
  rw [Mt.units, h1]; rfl
theorem units_succ (m : Mt) (n : Nat) : m.units (n + 1) = m.one.1.units n := by
 rw [Mt.units]
 cases h : m.one.2 with
 | true => rfl
 | false => rw [units_stop (one_false h).1]; rfl
theorem MtOk.failed (h : MtOk m l u d y c e) (c' : Int) {e' : Int} (he : e' ≠ 0) (hf : e' = 11 → y ≠ 0) : MtOk ⟨m.left, m.count, e'⟩ l u d y c' e' := ⟨h.bud, rfl, h.most, fun h => (he h).elim, hf⟩
theorem unit_calls (n : Nat) (hn : n ≤ 1000000000) (h : MtOk m l u d y c e) : HFn Tryz.prog 135 [.ptr 1 0, nI n] (wrkO l u d s y c e) (fun r hp' => r = nB (m.units n).2 ∧ MtHp (m.units n).1 hp') := by
 refine vc135_ok ?_
 unfold vc135 vc135_L1
 refine LoopP.intro (β := Nat × Mt × Int × Int × Int × Int × Int × Int × Int) (fun b => (((), (b.1 : Int), ()), ((b.2.2.1, b.2.2.2.1, b.2.2.2.2.1, (0 : Int), b.2.2.2.2.2.1, b.2.2.2.2.2.2.1, ()), ((), b.2.2.2.2.2.2.2.1, b.2.2.2.2.2.2.2.2, ()), ())))
  (fun b => m.units n = b.2.1.units b.1 ∧ b.1 ≤ n ∧ MtOk b.2.1 b.2.2.1 b.2.2.2.1 b.2.2.2.2.1 b.2.2.2.2.2.2.1 b.2.2.2.2.2.2.2.1 b.2.2.2.2.2.2.2.2) (fun b => b.1) (n, m, l, u, d, s, y, c, e) rfl ⟨rfl, Nat.le_refl _, h⟩ ?_
 rintro ⟨k, m', l, u, d, s, y, c, e⟩ ⟨hk, hkn, h⟩ again hag
 dsimp only at hk hkn h ⊢
 have he := h.err
 refine ITE.intro (fun hp => ?_) fun hp => ?_
 ·have hp : (k : Int) > 0 := of_decide_eq_true hp
  obtain ⟨j, rfl⟩ : ∃ j, k = j + 1 := ⟨k - 1, by omega⟩
  have hw : IntKind.wrap .i64 (((j + 1 : Nat) : Int) - 1) = ((j : Nat) : Int) := by rw [wrap_i (by omega) (by omega)]; omega
  refine ITE.intro (fun h1 => ?_) fun h1 => ?_
  ·have he0 : e = 0 := by simpa using h1
   have hm0 : m'.err = 0 := by rw [← he]; exact he0
   have hc := h.count hm0
   subst he0
   rw [units_succ] at hk
   refine ITE.intro (fun h2 => ?_) fun h2 => ?_
   ·have hcc : m'.count = 100000 := by have : c = 100000 := (by simpa using h2); omega
    refine ⟨_, fail_calls 2, fun r q ⟨e1, e2⟩ => ⟨l, u, d, 0, s, y, c, 2, ⟨e1, e2⟩, ?_⟩⟩
    rw [hw]
    have h1 : m'.one.1 = ⟨m'.left, m'.count, 2⟩ := by unfold Mt.one; rw [if_neg (by simp [hm0]), if_pos hcc]
    rw [h1] at hk
    exact hag (j, ⟨m'.left, m'.count, 2⟩, l, u, d, s, y, _, 2) ⟨hk, by omega, h.failed _ (by decide) (fun h => by simp at h)⟩ (Nat.lt_succ_self j)
   ·have hcc : ¬ m'.count = 100000 := by have : ¬ c = 100000 := (by simpa using h2); omega
    refine ⟨_, spend_ok h.bud, fun r q ⟨l', u', d', y', e1, e2, hb, hz⟩ => ⟨l', u', d', 0, s, y', _, ⟨e1, e2⟩, ?_⟩⟩
    refine ITE.intro (fun h3 => ?_) fun h3 => ?_
    ·have h0 : m'.left = 0 := by simpa using h3
     refine ⟨_, fail_calls 11, fun r q ⟨e1, e2⟩ => ⟨l', u', d', 0, s, y', c, 11, ⟨e1, e2⟩, ?_⟩⟩
     rw [hw]
     have h1 : m'.one.1 = ⟨m'.left, m'.count, 11⟩ := by unfold Mt.one; rw [if_neg (by simp [hm0]), if_neg hcc, if_pos h0]
     rw [h1] at hk
     rw [h0] at hb
     exact hag (j, ⟨m'.left, m'.count, 11⟩, l', u', d', s, y', _, 11) ⟨hk, by omega, by rw [h0]; exact hb, rfl, h.most, fun h => by simp at h, fun _ => hz h0⟩ (Nat.lt_succ_self j)
    ·have h0 : ¬ m'.left = 0 := by simpa using h3
     rw [hw]
     have h1 : m'.one.1 = ⟨m'.left - 1, m'.count + 1, 0⟩ := by unfold Mt.one; rw [if_neg (by simp [hm0]), if_neg hcc, if_neg h0, hm0]
     have hcm := h.most
     have hcn : m'.count ≤ 4000000000 := by omega
     rw [h1] at hk
     rw [hc, wrap_n hcn]
     exact hag (j, ⟨m'.left - 1, m'.count + 1, 0⟩, l', u', d', s, y', _, 0) ⟨hk, by omega, hb, rfl, by simp only; omega, fun _ => rfl, fun h => by simp at h⟩ (Nat.lt_succ_self j)
  ·have he0 : ¬ e = 0 := by simpa using h1
   have hm0 : m'.err ≠ 0 := by rw [← he]; exact he0
   rw [units_stop hm0] at hk
   rw [hk]
   exact ⟨by rw [show (e == 0) = false from by simp [he0]], l, u, d, s, y, c, e, rfl, h⟩
 ·have hp : ¬ (k : Int) > 0 := of_decide_eq_false hp
  obtain rfl : k = 0 := by omega
  rw [Mt.units] at hk
  rw [hk]
  refine ⟨?_, l, u, d, s, y, c, e, rfl, h⟩
  rw [he]
  by_cases h0 : m'.err = 0
  ·simp [h0]
  ·simp [h0]
end Go.Proofs.YtghlgbhldnkdmaaGreat

namespace Go.Proofs.YtghlgbhldnkdmaaGreat
open Go
set_option linter.unusedSimpArgs false
set_option linter.unusedVariables false
theorem lifted_calls {B b : Nat} (hB : B ≤ 1000000) : ∀ (n : Nat) (t : Tm) (d : Nat), t.nodes ≤ n → t.Lo B → d + B * n ≤ 4000000000000000000 →
  PureIs Tryz.prog 161 [.agg [.sl (t.binds.map Ty.enc), nI t.kind, nI t.index, .sl (t.args.map Tm.enc)], nI b, nI d] (.agg [.sl ((t.lift b d).binds.map Ty.enc), nI (t.lift b d).kind, nI (t.lift b d).index, .sl ((t.lift b d).args.map Tm.enc)]) := by
 intro n
 induction n with
 | zero => intro t d h; have := t.nodes_pos; omega
 | succ n ih =>
  intro t d h hlo hd
  have hl := Tm.lo_eq.1 hlo
  have hb := Ty.sizes_len t.binds
  have hmul : B * (n + 1) = B * n + B := by rw [Nat.mul_succ]
  have hw : IntKind.wrap .i64 ((d : Int) + ((List.length (t.binds.map Ty.enc) : Nat) : Int)) = ((d + t.binds.length : Nat) : Int) := by
   rw [List.length_map, wrap_i (by omega) (by omega)]; omega
  have ha : (t.lift b d).args = t.args.map (Tm.lift b (d + t.binds.length)) := Tm.lift_args b d t
  have loop : ∀ ix : Int, ix = (t.lift b d).index → vc161_L6 ((b, ((d + t.binds.length : Nat) : Int), (), (), (), t.args.map Tm.enc, ((List.length (t.args.map Tm.enc) : Nat) : Int), 0, ()), ((t.binds.map Ty.enc, t.kind, ix, t.args.map Tm.enc, ()), ((), 0, 0, (), ()), [], ())) (fun x => x = .agg [.sl ((t.lift b d).binds.map Ty.enc), nI (t.lift b d).kind, nI (t.lift b d).index, .sl ((t.lift b d).args.map Tm.enc)]) := by
   intro ix hix
   refine LoopP.intro (fun k : Nat => (((b : Int), ((d + t.binds.length : Nat) : Int), (), (), (), t.args.map Tm.enc, (t.args.length : Int), (k : Int), ()), ((t.binds.map Ty.enc, t.kind, ix, t.args.map Tm.enc, ()), ((), (0 : Int), (0 : Int), (), ()), ((t.lift b d).args.take k).map Tm.enc, ())))
    (fun k => k ≤ t.args.length) (fun k => t.args.length - k) 0 (by rw [List.length_map]; rfl) (Nat.zero_le _) ?_
   intro k hk again hag
   dsimp only
   refine ITE.intro (fun h => ?_) fun h => ?_
   ·have hlt : k < t.args.length := by simpa using h
    have hz : t.args[k].nodes ≤ n := by have := Tm.nodess_mem (List.getElem_mem hlt); have := t.nodes_eq; omega
    have hi := ih t.args[k] (d + t.binds.length) hz (Tm.los_iff.1 hl.2.2 _ (List.getElem_mem hlt)) (by omega)
    have hlt2 : k < (t.lift b d).args.length := by rw [ha, List.length_map]; exact hlt
    have hg : (t.lift b d).args[k] = Tm.lift b (d + t.binds.length) t.args[k] := by simp [ha]
    rw [← hg] at hi
    refine ⟨by omega, by rw [List.length_map]; omega, _, _, _, _, Tm.enc_getD hlt, _, _, _, _, hi, rfl, appOk_nil (fun x hx => by simp at hx; subst hx; rfl) (by simp; omega) (by decide), rfl, ?_⟩
    rw [wrap_n (by omega), Tm.enc_snoc, take_snoc' hlt2]
    exact hag (k + 1) (by omega) (by omega)
   ·have : t.args.length ≤ k := by simpa using h
    refine ⟨rfl, ?_⟩
    rw [List.take_of_length_le (by rw [ha, List.length_map]; exact this), hix, Tm.lift_binds, Tm.lift_kind]
  have hm : ∀ {dd : TD}, dd.bytes ≤ 1000 → (0 ≤ ((List.length (t.args.map Tm.enc) : Nat) : Int) ∧ ((List.length (t.args.map Tm.enc) : Nat) : Int) ≤ 9223372036854775807 ∧ (TD.bytes dd : Int) * ((List.length (t.args.map Tm.enc) : Nat) : Int) ≤ 281474976710656) :=
   fun hd => mkOk hd (by rw [List.length_map]; omega)
  refine vc161_ok ?_
  unfold vc161
  rw [hw]
  have hidx : (t.lift b d).index = if t.kind = 0 ∧ ((d + t.binds.length : Nat) : Int) ≤ t.index then IntKind.wrap .i64 (t.index + b) else t.index := by rw [Tm.lift_eq]; rfl
  refine ITE.intro (fun h => ?_) fun h => ?_
  ·have h0 : t.kind = 0 := by simpa using h
   refine ITE.intro (fun h1 => ?_) fun h1 => ?_
   ·have h1 : ((d + t.binds.length : Nat) : Int) ≤ t.index := of_decide_eq_true h1
    exact ⟨hm (by decide), rfl, loop _ (by rw [hidx, if_pos ⟨h0, h1⟩])⟩
   ·have h1 : ¬ ((d + t.binds.length : Nat) : Int) ≤ t.index := of_decide_eq_false h1
    exact ⟨hm (by decide), rfl, loop _ (by rw [hidx, if_neg (fun h => h1 h.2)])⟩
  ·have h0 : ¬ t.kind = 0 := by simpa using h
   exact ⟨hm (by decide), rfl, loop _ (by rw [hidx, if_neg (fun h => h0 h.1)])⟩
mutual
theorem Tm.lift_zero : ∀ (t : Tm) (d : Nat), t.Ok → t.lift 0 d = t
 | .mk bs k i l, d, h => by
  obtain ⟨h1, h2, h3⟩ := h
  rw [Tm.lift, Tm.lifts_zero l _ h3]
  congr 1
  split
  ·rw [show i + ((0 : Nat) : Int) = i from by omega, h2.wrap]
  ·rfl
theorem Tm.lifts_zero : ∀ (l : List Tm) (d : Nat), Tm.Oks l → Tm.lifts 0 d l = l
 | [], _, _ => rfl
 | t :: l, d, h => by rw [Tm.lifts, Tm.lift_zero t d h.1, Tm.lifts_zero l d h.2]
end
theorem ngrown_calls {B b : Nat} {t : Tm} (hB : B ≤ 1000000) (hn : t.nodes ≤ 1000000000) (hlo : t.Lo B) :
  PureIs Tryz.prog 152 [.agg [.sl (t.binds.map Ty.enc), nI t.kind, nI t.index, .sl (t.args.map Tm.enc)], nI b] (.agg [.sl ((t.lift b 0).binds.map Ty.enc), nI (t.lift b 0).kind, nI (t.lift b 0).index, .sl ((t.lift b 0).args.map Tm.enc)]) := by
 have := Nat.mul_le_mul hB hn
 refine vc152_ok (ITE.intro (fun h => ?_) fun h => ⟨_, _, _, _, lifted_calls (b := b) hB _ t 0 (Nat.le_refl _) hlo (by omega), rfl⟩)
 have h0 : b = 0 := by simpa using h
 subst h0
 rw [Tm.lift_zero t 0 (Tm.lo_ok hlo)]
end Go.Proofs.YtghlgbhldnkdmaaGreat

namespace Go.Proofs.YtghlgbhldnkdmaaGreat
open Go
set_option linter.unusedSimpArgs false
set_option linter.unusedVariables false
theorem units_one (m : Mt) : m.units 1 = m.one := by
 rw [Mt.units]
 cases h : m.one.2 with
 | true =>
  rw [if_pos rfl, Mt.units]
  obtain ⟨_, _, _, h3⟩ := one_true h
  rw [show m.one = (m.one.1, m.one.2) from rfl, h, h3]
  rfl
 | false =>
  rw [if_neg (by simp), ← h]
def MtRes (N : Nat) (m : Mt) (t : Tm) (r : AV) (hp' : List AObj) : Prop := MtHp m hp' ∧ ∃ t' : Tm, r = .agg [.sl (t'.binds.map Ty.enc), nI t'.kind, nI t'.index, .sl (t'.args.map Tm.enc)] ∧ (m.err = 0 → t' = t) ∧ t'.binds.length ≤ N
def ThrP (B f : Nat) : Prop := ∀ (m : Mt) (us : List Tm) (bs : List Ty) (k i : Int) (args : List Tm) (n d : Nat) (l u x s y c e : Int), MtOk m l u x y c e → (m.err = 0 → 100000 < f + m.count) →
 Ty.sizes bs ≤ B → I64 k → I64 i → args.length ≤ B → Tm.Los B args → Tm.Los B us → (∀ t ∈ us, t.nodes ≤ 1000000000) → us.length ≤ n → n ≤ B → d + B * (f + 1) ≤ 4000000000000000000 →
 HFn Tryz.prog 121 [.agg [.ptr 1 0, .sl (us.map Tm.enc), nI n], .agg [.sl (bs.map Ty.enc), nI k, nI i, .sl (args.map Tm.enc)], nI d] (wrkO l u x s y c e)
  (MtRes bs.length (bodyT f m k i args us n (d + bs.length)).1 (.mk bs (bodyT f m k i args us n (d + bs.length)).2.kind (bodyT f m k i args us n (d + bs.length)).2.index (bodyT f m k i args us n (d + bs.length)).2.args))
def PutP (B f : Nat) : Prop := ∀ (m : Mt) (t : Tm) (us : List Tm) (l u x s y c e : Int), MtOk m l u x y c e → (m.err = 0 → 100000 < f + m.count) → t.Lo B → (m.err = 0 → Tm.Los B us ∧ ∀ t ∈ us, t.nodes ≤ 1000000000) →
 B * (f + 1) ≤ 4000000000000000000 →
 HFn Tryz.prog 87 [.ptr 1 0, .agg [.sl (t.binds.map Ty.enc), nI t.kind, nI t.index, .sl (t.args.map Tm.enc)], .sl (us.map Tm.enc)] (wrkO l u x s y c e) (MtRes t.binds.length (putT f m t us).1 (putT f m t us).2)
theorem noTm_res {N : Nat} {m : Mt} {t : Tm} {hp' : List AObj} (h : MtHp m hp') (he : m.err ≠ 0) : ∃ r2, RepW (.agg [.prim (.slice none 0 0), nI 0, nI 0, .prim (.slice none 0 0)]) r2 ∧ MtRes N m t r2 hp' :=
 ⟨_, repw_noTm', h, noTm, rfl, fun h0 => (he h0).elim, Nat.zero_le _⟩
theorem putP_of {B f : Nat} (hB : B ≤ 1000000) (ht : ThrP B f) : PutP B f := by
 intro m t us l u x s y c e hm hf hlo hus hk
 have he := hm.err
 have hl := Tm.lo_eq.1 hlo
 have hbl := Ty.sizes_len t.binds
 refine HFn.repw (vc87_ok (ITE.intro (fun h => ?_) fun h => ?_))
 ·have h0 : ¬ e = 0 := by simpa using h
  have hm0 : m.err ≠ 0 := by rw [← he]; exact h0
  refine ⟨_, fail_calls 1, fun r q ⟨e1, e2⟩ => ⟨l, u, x, 0, s, y, c, _, ⟨e1, e2⟩, ?_⟩⟩
  have : putT f m t us = (m, noTm) := by unfold putT; rw [if_pos hm0]
  rw [this]
  rw [if_neg h0]
  exact noTm_res ⟨l, u, x, s, y, c, e, rfl, hm⟩ hm0
 ·have h0 : e = 0 := by simpa using h
  have hm0 : m.err = 0 := by rw [← he]; exact h0
  obtain ⟨hu, hn⟩ := hus hm0
  refine ITE.intro (fun h => ?_) fun h => ?_
  ·have h1 : t.binds.length < us.length := by have := of_decide_eq_true h; rw [List.length_map, List.length_map] at this; omega
   refine ⟨_, fail_calls 1, fun r q ⟨e1, e2⟩ => ⟨l, u, x, 0, s, y, c, _, ⟨e1, e2⟩, ?_⟩⟩
   have : putT f m t us = (⟨m.left, m.count, 1⟩, noTm) := by unfold putT; rw [if_neg (by simp [hm0]), if_pos h1]
   rw [this, if_pos h0]
   exact noTm_res ⟨l, u, x, s, y, c, 1, rfl, hm.failed c (by decide) (fun h => by simp at h)⟩ (by simp)
  ·have h1 : ¬ t.binds.length < us.length := by have := of_decide_eq_false h; rw [List.length_map, List.length_map] at this; omega
   have hp : putT f m t us = ((bodyT f m t.kind t.index t.args us t.binds.length 0).1, .mk (t.binds.drop us.length) (bodyT f m t.kind t.index t.args us t.binds.length 0).2.kind (bodyT f m t.kind t.index t.args us t.binds.length 0).2.index (bodyT f m t.kind t.index t.args us t.binds.length 0).2.args) := by
    unfold putT; rw [if_neg (by simp [hm0]), if_neg h1]
   have hthr := ht m us [] t.kind t.index t.args t.binds.length 0 l u x s y c e hm hf (by simp [Ty.sizes]) hl.2.1.1 hl.2.1.2 hl.1.2 hl.2.2 hu hn (by omega) (by omega) (by omega)
   rw [List.length_nil, Nat.add_zero] at hthr
   rw [hp]
   generalize bodyT f m t.kind t.index t.args us t.binds.length 0 = q at hthr
   rw [List.length_map, List.length_map]
   refine ⟨_, HFn.args (by exact ⟨RepW.refl _, RepW.agg ⟨repw_nil, RepW.refl _, RepW.refl _, RepW.refl _, True.intro⟩, RepW.refl _, True.intro⟩) hthr, fun r hq ⟨⟨l', u', x', s', y', c', e', e2, hm'⟩, t', e1, ht', _⟩ => ⟨l', u', x', 0, s', y', c', e', _, _, _, _, ⟨e1, e2⟩, ?_⟩⟩
   refine ⟨⟨by omega, by omega, by omega, fun z hz => Ty.enc_cells z hz⟩, ?_⟩
   rw [Int.toNat_natCast, Int.toNat_natCast, List.take_of_length_le (by rw [List.length_map]; omega), ← List.map_drop]
   refine ⟨_, RepW.refl _, ⟨l', u', x', s', y', c', e', rfl, hm'⟩, .mk (t.binds.drop us.length) t'.kind t'.index t'.args, rfl, fun h => ?_, by rw [Tm.binds_mk, List.length_drop]; omega⟩
   rw [ht' h]; rfl
theorem thrP_zero {B : Nat} (hB : B ≤ 1000000) : ThrP B 0 := by
 intro m us bs k i args n d l u x s y c e hm hf hbs hk hi hla hlo hus hun hn hnB hd
 have hm0 : m.err ≠ 0 := fun h => by have := hf h; have := hm.most; omega
 refine HFn.repw (vc121_ok ⟨_, unit_calls 1 (by omega) hm, fun r q ⟨e1, l', u', x', s', y', c', e', e2, hm'⟩ => ⟨l', u', x', 0, s', y', c', e', _, ⟨e1, e2⟩, ?_⟩⟩)
 rw [units_stop hm0] at hm' ⊢
 refine ITE.pos rfl ?_
 rw [(bodyT_to 0 m k i args us n (d + bs.length)).stop hm0]
 exact noTm_res ⟨l', u', x', s', y', c', e', rfl, hm'⟩ hm0
theorem thrP_succ {B f : Nat} (hB : B ≤ 1000000) (ih : ThrP B f) : ThrP B (f + 1) := by
 have hput := putP_of hB ih
 intro m us bs k i args n d l u x s y c e hm hf hbs hk hi hla hlo hus hun hn hnB hd
 have hbl := Ty.sizes_len bs
 have hmul : B * (f + 1 + 1) = B * (f + 1) + B := Nat.mul_succ _ _
 have hBf : B ≤ B * (f + 1) := Nat.le_mul_of_pos_right _ (Nat.succ_pos f)
 refine HFn.repw (vc121_ok ⟨_, unit_calls 1 (by omega) hm, fun r q ⟨e1, l', u', x', s', y', c', e', e2, hm'⟩ => ⟨l', u', x', 0, s', y', c', e', _, ⟨e1, e2⟩, ?_⟩⟩)
 rw [units_one] at hm' ⊢
 have hw : IntKind.wrap .i64 ((d : Int) + ((List.length (bs.map Ty.enc) : Nat) : Int)) = ((d + bs.length : Nat) : Int) := by
  rw [List.length_map, wrap_i (by omega) (by omega)]; omega
 rw [hw]
 generalize hD : d + bs.length = D
 have hD2 : D + B * (f + 1) ≤ 4000000000000000000 := by omega
 refine ITE.intro (fun h => ?_) fun h => ⟨rfl, ?_⟩
 ·have h : m.one.2 = false := by simpa using h
  have : bodyT (f + 1) m k i args us n D = (m.one.1, noTm) := by rw [bodyT, if_pos h]
  rw [this]
  exact noTm_res ⟨l', u', x', s', y', c', e', rfl, hm'⟩ (one_false h).1
 have h : m.one.2 = true := by simpa using h
 obtain ⟨g0, g1, g2, g3⟩ := one_true h
 have hbody : bodyT (f + 1) m k i args us n D = headT (bodyT f) (goArgs (withinT (bodyT f) us n D) m.one.1 args) k i us n D := by rw [bodyT, if_neg (by simp [h])]
 rw [hbody]
 have hcnt : m.one.1.count = m.count + 1 := by rw [g3]
 have hfuel : ∀ m' : Mt, m.one.1.To m' → m'.err = 0 → 100000 < f + m'.count := fun m' h h0 => by have := h.more; have := hf g0; omega
 have hkeep := withinT_to f us n D
 have hform : ∀ (l : List Tm) (m' : Mt), (∀ t ∈ l, t ∈ args) → (goArgs (withinT (bodyT f) us n D) m' l).1.err = 0 → Tm.nodess (goArgs (withinT (bodyT f) us n D) m' l).2 + m'.count ≤ (goArgs (withinT (bodyT f) us n D) m' l).1.count ∧ Tm.Los B (goArgs (withinT (bodyT f) us n D) m' l).2 := by
  intro l m' hsub he0
  refine goArgs_form hkeep l m' (fun t ht m'' hto' he' => ?_) he0
  have hlo' := Tm.lo_eq.1 (Tm.los_iff.1 hlo t (hsub t ht))
  have := bodyT_form (B := B) f m'' t.kind t.index t.args us n (D + t.binds.length) hlo'.2.1.1 hlo'.2.1.2 hlo'.1.2 hlo'.2.2 hus hn he'
  have hq := Tm.lo_eq.1 this.1.lo
  have hqn := this.1.nodes
  rw [Tm.nodes_eq] at hqn
  exact ⟨by unfold withinT; rw [Tm.nodes_eq, Tm.args_mk]; exact hqn, Tm.lo_eq.2 ⟨⟨hlo'.1.1, hq.1.2⟩, hq.2⟩⟩
 have hlen := goArgs_len (g := withinT (bodyT f) us n D) args m.one.1
 have hlos := hform args m.one.1 fun t h => h
 unfold vc121_L6
 refine LoopP.intro (β := Nat × Mt × Int × Int × Int × Int × Int × Int × Int × List Tm) (fun b => (((D : Int), (), (), (), (), args.map Tm.enc, (args.length : Int), (b.1 : Int), ()), ((b.2.2.1, b.2.2.2.1, b.2.2.2.2.1, (0 : Int), b.2.2.2.2.2.1, b.2.2.2.2.2.2.1, ()), ((), b.2.2.2.2.2.2.2.1, b.2.2.2.2.2.2.2.2.1, ()), ((), us.map Tm.enc, (n : Int), ()), (bs.map Ty.enc, k, i, args.map Tm.enc, ()), ((), (0 : Int), (0 : Int), (), ()), (bs.map Ty.enc, k, i, (), ()), b.2.2.2.2.2.2.2.2.2.map Tm.enc, ())))
  (fun b => b.1 ≤ args.length ∧ MtOk b.2.1 b.2.2.1 b.2.2.2.1 b.2.2.2.2.1 b.2.2.2.2.2.2.1 b.2.2.2.2.2.2.2.1 b.2.2.2.2.2.2.2.2.1 ∧ m.one.1.To b.2.1 ∧ b.2.2.2.2.2.2.2.2.2.length = b.1 ∧
   ∃ pre : List Tm, goArgs (withinT (bodyT f) us n D) m.one.1 args = ((goArgs (withinT (bodyT f) us n D) b.2.1 (args.drop b.1)).1, pre ++ (goArgs (withinT (bodyT f) us n D) b.2.1 (args.drop b.1)).2) ∧ (b.2.1.err = 0 → b.2.2.2.2.2.2.2.2.2 = pre))
  (fun b => args.length - b.1) (0, m.one.1, l', u', x', s', y', c', e', []) (by rw [List.length_map]; rfl) ⟨Nat.zero_le _, hm', .refl _, rfl, [], by rw [List.drop_zero, List.nil_append], fun _ => rfl⟩ ?_
 rintro ⟨j, m', l, u, x, s, y, c, e, acc⟩ ⟨hj, hm', hto, hacc, pre, hgo, hpre⟩ again hag
 dsimp only at hj hm' hto hacc hgo hpre ⊢
 have he := hm'.err
 refine ITE.intro (fun h => ?_) fun h => ?_
 ·have hlt : j < args.length := by simpa using h
  have hlo' := Tm.lo_eq.1 (Tm.los_iff.1 hlo args[j] (List.getElem_mem hlt))
  have hstep : vc121_L8 (((D : Int), (), (), (), (), args.map Tm.enc, (args.length : Int), (j : Int), ()), ((l, u, x, (0 : Int), s, y, ()), ((), c, e, ()), ((), us.map Tm.enc, (n : Int), ()), (bs.map Ty.enc, k, i, args.map Tm.enc, ()), ((), (0 : Int), (0 : Int), (), ()), (bs.map Ty.enc, k, i, (), ()), acc.map Tm.enc, ())) (args[j].binds.map Ty.enc) args[j].kind args[j].index (args[j].args.map Tm.enc) again := by
   refine ⟨_, ih m' us args[j].binds args[j].kind args[j].index args[j].args n D l u x s y c e hm' (hfuel m' hto) hlo'.1.1 hlo'.2.1.1 hlo'.2.1.2 hlo'.1.2 hlo'.2.2 hus hun hn hnB hD2, fun r q ⟨⟨l', u', x', s', y', c', e', e2, hm''⟩, t', e1, ht', _⟩ => ⟨l', u', x', 0, s', y', c', e', _, _, _, _, ⟨e1, e2⟩, rfl, appOk_nil (fun z hz => by simp at hz; subst hz; rfl) (by simp [hacc]; omega) (by decide), rfl, ?_⟩⟩
   have hto2 := hkeep m' args[j]
   rw [wrap_n (by omega), Tm.enc_snoc]
   refine hag (j + 1, (withinT (bodyT f) us n D m' args[j]).1, l', u', x', s', y', c', e', acc ++ [t']) ⟨hlt, hm'', hto.trans hto2, by simp [hacc], pre ++ [(withinT (bodyT f) us n D m' args[j]).2], ?_, fun h0 => ?_⟩ (by simp only; omega)
   ·rw [hgo, goArgs_drop hlt, List.append_assoc, List.singleton_append]
   ·rw [hpre (hto2.ok h0), ht' h0]; rfl
  exact ⟨by omega, by rw [List.length_map]; omega, _, _, _, _, Tm.enc_getD hlt, hstep, hstep⟩
 ·have hge : args.length ≤ j := by simpa using h
  have hj' : j = args.length := by omega
  subst hj'
  rw [List.drop_length, goArgs, List.append_nil] at hgo
  rw [hgo] at hlen hlos ⊢
  simp only at hlen hlos
  have good : m'.err = 0 → acc = pre := hpre
  have fin : ∀ (i' : Int) (T : Mt × Tm), T.1 = m' → (m'.err = 0 → T.2 = .mk [] k i' pre) → ∃ r2, RepW (.agg [.sl (bs.map Ty.enc), nI k, nI i', .sl (acc.map Tm.enc)]) r2 ∧ MtRes bs.length T.1 (.mk bs T.2.kind T.2.index T.2.args) r2 (wrkO l u x s y c e) := by
   intro i' T h1 h2
   refine ⟨_, RepW.refl _, ⟨l, u, x, s, y, c, e, rfl, by rw [h1]; exact hm'⟩, .mk bs k i' acc, rfl, fun h0 => ?_, Nat.le_refl _⟩
   rw [h1] at h0
   rw [h2 h0, good h0]; rfl
  unfold headT
  by_cases h0 : m'.err = 0
  ·rw [if_neg (by simp [h0])]
   have hacc2 := good h0
   obtain ⟨q1, q2⟩ := hlos h0
   refine ITE.intro (fun h => ?_) fun h => ?_
   ·have h1 : ¬ k = 0 := by simpa using h
    rw [if_pos (.inl h1)]
    exact ⟨rfl, fin i _ rfl fun _ => rfl⟩
   ·have h1 : k = 0 := by simpa using h
    refine ITE.intro (fun h => ?_) fun h => ?_
    ·have h2 : i < D := of_decide_eq_true h
     rw [if_pos (.inr h2)]
     exact ⟨rfl, fin i _ rfl fun _ => rfl⟩
    ·have h2 : ¬ i < D := of_decide_eq_false h
     rw [if_neg (fun h => h.elim (fun h => h h1) h2)]
     have hi2 := hi.2
     have hw1 : IntKind.wrap .i64 (i - (D : Int)) = i - D := wrap_i (by omega) (by omega)
     have hw2 : IntKind.wrap .i64 ((n : Int) - ((List.length (us.map Tm.enc) : Nat) : Int)) = (n : Int) - us.length := by rw [List.length_map]; exact wrap_i (by omega) (by omega)
     have hw3 : IntKind.wrap .i64 ((n : Int) - 1) = (n : Int) - 1 := wrap_i (by omega) (by omega)
     rw [hw1, hw2]
     refine ITE.intro (fun h => ?_) fun h => ?_
     ·have h3 : i - (D : Int) < (n : Int) - us.length := of_decide_eq_true h
      rw [if_neg (by omega), if_pos (by omega)]
      exact ⟨rfl, fin i _ rfl fun _ => rfl⟩
     ·have h3 : ¬ i - (D : Int) < (n : Int) - us.length := of_decide_eq_false h
      refine ITE.intro (fun h => ?_) fun h => ?_
      ·have h4 : i - (D : Int) ≥ n := of_decide_eq_true h
       rw [if_pos (by omega)]
       have hw4 : IntKind.wrap .i64 (i - ((List.length (us.map Tm.enc) : Nat) : Int)) = i - us.length := by rw [List.length_map]; exact wrap_i (by omega) (by omega)
       rw [hw4]
       exact ⟨rfl, fin _ _ rfl fun _ => rfl⟩
      ·have h4 : ¬ i - (D : Int) ≥ n := of_decide_eq_false h
       rw [if_neg (by omega), if_neg (by omega)]
       rw [hw3]
       have hw5 : IntKind.wrap .i64 ((n : Int) - 1 - (i - (D : Int))) = ((n - 1 - (i - D).toNat : Nat) : Int) := by rw [wrap_i (by omega) (by omega)]; omega
       have hw6 : IntKind.wrap .i64 (IntKind.wrap .i64 ((D : Int) + n) - ((List.length (us.map Tm.enc) : Nat) : Int)) = ((D + n - us.length : Nat) : Int) := by
        rw [List.length_map, wrap_i (n := (D : Int) + n) (by omega) (by omega), wrap_i (by omega) (by omega)]; omega
       rw [hw5, hw6]
       have hlt : n - 1 - (i - D).toNat < us.length := by omega
       generalize hv : n - 1 - (i - D).toNat = v at hlt
       have hst : standT us i n D = us[v].lift (D + n - us.length) 0 := by
        unfold standT
        rw [hv, List.getD_eq_getElem?_getD, List.getElem?_eq_getElem hlt]; rfl
       have hgr := ngrown_calls (b := D + n - us.length) hB (hun _ (List.getElem_mem hlt)) (Tm.los_iff.1 hus _ (List.getElem_mem hlt))
       rw [← hst] at hgr
       refine ⟨by omega, by rw [List.length_map]; omega, _, _, _, _, Tm.enc_getD hlt, _, _, _, _, hgr, rfl, ?_⟩
       refine ITE.intro (fun h => ?_) fun h => ⟨rfl, ?_⟩
       ·have h5 : (standT us i n D).binds.length ≠ pre.length := by rw [← hacc2]; intro e; apply (show ¬ _ from by simpa using h); omega
        rw [if_pos h5]
        refine ⟨_, fail_calls 1, fun r q ⟨e1, e2⟩ => ⟨l, u, x, 0, s, y, c, _, ⟨e1, e2⟩, ?_⟩⟩
        rw [if_pos (by rw [he]; exact h0)]
        exact noTm_res ⟨l, u, x, s, y, c, 1, rfl, hm'.failed c (by decide) (fun h => by simp at h)⟩ (by simp)
       ·have h5 : ¬ (standT us i n D).binds.length ≠ pre.length := by
         have h6 : ((standT us i n D).binds.length : Int) = acc.length := by simpa using h
         rw [← hacc2]; omega
        rw [if_neg h5]
        have hpt := hput m' (standT us i n D) acc l u x s y c e hm' (hfuel m' hto) (standT_lo hus i n D) (fun _ => by
         rw [hacc2]
         refine ⟨q2, fun t ht => ?_⟩
         have h1 := Tm.nodess_mem ht
         have h2 := hm'.most
         omega) (by omega)
        rw [hacc2] at hpt ⊢
        have hp : putT f m' (standT us i n D) pre = ((bodyT f m' (standT us i n D).kind (standT us i n D).index (standT us i n D).args pre (standT us i n D).binds.length 0).1, .mk ((standT us i n D).binds.drop pre.length) (bodyT f m' (standT us i n D).kind (standT us i n D).index (standT us i n D).args pre (standT us i n D).binds.length 0).2.kind (bodyT f m' (standT us i n D).kind (standT us i n D).index (standT us i n D).args pre (standT us i n D).binds.length 0).2.index (bodyT f m' (standT us i n D).kind (standT us i n D).index (standT us i n D).args pre (standT us i n D).binds.length 0).2.args) := by
         unfold putT; rw [if_neg (by simp [h0]), if_neg (by simp at h5; omega)]
        rw [hp] at hpt
        generalize bodyT f m' (standT us i n D).kind (standT us i n D).index (standT us i n D).args pre (standT us i n D).binds.length 0 = T at hpt
        refine ⟨_, hpt, fun r q ⟨⟨l', u', x', s', y', c', e', e2, hm''⟩, t', e1, ht', _⟩ => ⟨l', u', x', 0, s', y', c', e', _, _, _, _, ⟨e1, e2⟩, ?_⟩⟩
        refine ⟨_, RepW.refl _, ⟨l', u', x', s', y', c', e', rfl, hm''⟩, .mk bs t'.kind t'.index t'.args, rfl, fun h0 => ?_, Nat.le_refl _⟩
        rw [ht' h0]; rfl
  ·rw [if_pos h0]
   have stop : ∀ (i' : Int) (a : List Tm), ∃ r2, RepW (.agg [.sl (bs.map Ty.enc), nI k, nI i', .sl (a.map Tm.enc)]) r2 ∧ MtRes bs.length m' (.mk bs noTm.kind noTm.index noTm.args) r2 (wrkO l u x s y c e) := fun i' a =>
    ⟨_, RepW.refl _, ⟨l, u, x, s, y, c, e, rfl, hm'⟩, .mk bs k i' a, rfl, fun h => (h0 h).elim, Nat.le_refl _⟩
   have he0 : ¬ e = 0 := by rw [he]; exact h0
   refine ITE.intro (fun h => ⟨rfl, stop i acc⟩) fun h => ?_
   refine ITE.intro (fun h => ⟨rfl, stop i acc⟩) fun h2 => ?_
   have h2 : ¬ i < D := of_decide_eq_false h2
   have hi2 := hi.2
   have hw1 : IntKind.wrap .i64 (i - (D : Int)) = i - D := wrap_i (by omega) (by omega)
   have hw2 : IntKind.wrap .i64 ((n : Int) - ((List.length (us.map Tm.enc) : Nat) : Int)) = (n : Int) - us.length := by rw [List.length_map]; exact wrap_i (by omega) (by omega)
   have hw3 : IntKind.wrap .i64 ((n : Int) - 1) = (n : Int) - 1 := wrap_i (by omega) (by omega)
   rw [hw1, hw2]
   refine ITE.intro (fun h => ⟨rfl, stop i acc⟩) fun h3 => ?_
   have h3 : ¬ i - (D : Int) < (n : Int) - us.length := of_decide_eq_false h3
   refine ITE.intro (fun h => ⟨rfl, stop _ acc⟩) fun h4 => ?_
   have h4 : ¬ i - (D : Int) ≥ n := of_decide_eq_false h4
   rw [hw3]
   have hw5 : IntKind.wrap .i64 ((n : Int) - 1 - (i - (D : Int))) = ((n - 1 - (i - D).toNat : Nat) : Int) := by rw [wrap_i (by omega) (by omega)]; omega
   have hw6 : IntKind.wrap .i64 (IntKind.wrap .i64 ((D : Int) + n) - ((List.length (us.map Tm.enc) : Nat) : Int)) = ((D + n - us.length : Nat) : Int) := by
    rw [List.length_map, wrap_i (n := (D : Int) + n) (by omega) (by omega), wrap_i (by omega) (by omega)]; omega
   rw [hw5, hw6]
   have hlt : n - 1 - (i - D).toNat < us.length := by omega
   generalize hv : n - 1 - (i - D).toNat = v at hlt
   have hgr := ngrown_calls (b := D + n - us.length) hB (hun _ (List.getElem_mem hlt)) (Tm.los_iff.1 hus _ (List.getElem_mem hlt))
   have hglo := Tm.lo_lift (b := D + n - us.length) 0 (Tm.los_iff.1 hus _ (List.getElem_mem hlt))
   refine ⟨by omega, by rw [List.length_map]; omega, _, _, _, _, Tm.enc_getD hlt, _, _, _, _, hgr, rfl, ?_⟩
   generalize us[v].lift (D + n - us.length) 0 = g at hglo
   refine ITE.intro (fun h => ?_) fun h => ⟨rfl, ?_⟩
   ·refine ⟨_, fail_calls 1, fun r q ⟨e1, e2⟩ => ⟨l, u, x, 0, s, y, c, _, ⟨e1, e2⟩, ?_⟩⟩
    rw [if_neg he0]
    exact noTm_res ⟨l, u, x, s, y, c, e, rfl, hm'⟩ h0
   ·have hpt := hput m' g acc l u x s y c e hm' (fun h => (h0 h).elim) hglo (fun h => (h0 h).elim) (by omega)
    rw [show putT f m' g acc = (m', noTm) from by unfold putT; rw [if_pos h0]] at hpt
    refine ⟨_, hpt, fun r q ⟨⟨l', u', x', s', y', c', e', e2, hm''⟩, t', e1, ht', _⟩ => ⟨l', u', x', 0, s', y', c', e', _, _, _, _, ⟨e1, e2⟩, ?_⟩⟩
    exact ⟨_, RepW.refl _, ⟨l', u', x', s', y', c', e', rfl, hm''⟩, .mk bs t'.kind t'.index t'.args, rfl, fun h => (h0 h).elim, Nat.le_refl _⟩
theorem thrP {B : Nat} (hB : B ≤ 1000000) : ∀ f, ThrP B f
 | 0 => thrP_zero hB
 | f + 1 => thrP_succ hB (thrP hB f)
theorem putP {B : Nat} (hB : B ≤ 1000000) (f : Nat) : PutP B f := putP_of hB (thrP hB f)
end Go.Proofs.YtghlgbhldnkdmaaGreat

namespace Go.Proofs.YtghlgbhldnkdmaaGreat
open Go
set_option linter.unusedSimpArgs false
set_option linter.unusedVariables false
def BindsOf : List Tm → List Ty → Prop
 | [], [] => True
 | t :: l, u :: us => t.binds = u.args ∧ BindsOf l us
 | _, _ => False
mutual
theorem long_formS {S : Nat} {c m : List Ty} (hS : S ≤ 1000) : ∀ (r : Rw) (st : Mt) (x : List Ty) (u : Ty), Rw.TypS S c m x r u → r.Ok → (Rw.long c m st x r).1.err = 0 →
  Form S st (Rw.long c m st x r).1 (Rw.long c m st x r).2 ∧ (Rw.long c m st x r).2.binds = u.args
 | .mk k t i l, st, x, u, hty, hk, he => by
  obtain ⟨hk1, hk2, hk3⟩ := hk
  rw [Rw.TypS] at hty
  obtain ⟨hu, hty⟩ := hty
  rw [Rw.long] at he ⊢
  split at he
  ·rename_i h; exact (h he).elim
  rename_i h
  rw [if_neg h]
  by_cases h3 : k = 3
  ·rw [if_pos h3] at he hty ⊢
   obtain ⟨ht, v, rfl, hl⟩ := hty
   obtain ⟨a, rfl, ha⟩ := typLS_one hl
   have hh := (lamL_to t _).ok he
   have ih := long_formsS hS [a] st (x ++ [t]) [v] hl hk3 hh
   have e : (Rw.longs c m st (x ++ [t]) [a]).2 = [(Rw.long c m st (x ++ [t]) a).2] := by rw [Rw.longs, Rw.longs]
   unfold lamL at he ⊢
   generalize (Rw.long c m st (x ++ [t]) a).2 = b at e
   generalize Rw.longs c m st (x ++ [t]) [a] = q at ih he hh e
   obtain ⟨qm, ql⟩ := q
   simp only at e
   subst e
   rw [if_neg (by simpa using hh)]
   obtain ⟨i1, i2, i3⟩ := ih
   obtain ⟨i4, _⟩ := i3
   have hlo := Tm.lo_eq.1 i2.1
   simp only [Tm.nodess] at i1
   rw [b.nodes_eq] at i1
   refine ⟨⟨?_, Tm.lo_eq.2 ⟨⟨?_, ?_⟩, hlo.2.1, ?_⟩⟩, ?_⟩
   ·show (Tm.mk _ _ _ b.args).nodes + st.count ≤ _
    rw [Tm.nodes]; omega
   ·show Ty.sizes (t :: b.binds) ≤ _
    rw [i4, Ty.sizes]
    rw [Ty.arrow, Ty.size, List.singleton_append, Ty.sizes] at hu
    omega
   ·exact hlo.1.2
   ·exact hlo.2.2
   ·show t :: b.binds = _
    rw [i4]; rfl
  ·rw [if_neg h3] at he hty ⊢
   by_cases h4 : k = 4
   ·rw [if_pos h4] at he hty ⊢
    obtain ⟨v, hl⟩ := hty
    obtain ⟨f, a, rfl, hf, ha⟩ := typLS_two hl
    have hh := (appL_to _).ok he
    obtain ⟨i1, i2, i3⟩ := long_formsS hS [f, a] st x _ hl hk3 hh
    have e : ∃ p q, (Rw.longs c m st x [f, a]).2 = [p, q] := ⟨_, _, by rw [Rw.longs, Rw.longs, Rw.longs]⟩
    obtain ⟨p, b, e⟩ := e
    unfold appL at he ⊢
    generalize Rw.longs c m st x [f, a] = q at i1 i2 i3 he hh e
    obtain ⟨qm, ql⟩ := q
    simp only at e
    subst e
    rw [if_neg (by simpa using hh)] at he ⊢
    have := putT_form (B := S) i2.1 (us := [b]) ⟨i2.2.1, True.intro⟩ he
    refine ⟨⟨?_, this.lo⟩, ?_⟩
    ·have hn : (putT 100001 qm p [b]).2.nodes + qm.count ≤ (putT 100001 qm p [b]).1.count := this.nodes
     show (putT 100001 qm p [b]).2.nodes + _ ≤ (putT 100001 qm p [b]).1.count
     simp only at i1
     omega
    ·show (putT 100001 qm p [b]).2.binds = u.args
     have he : (putT 100001 qm p [b]).1.err = 0 := he
     unfold putT at he ⊢
     split at he
     ·rename_i h; exact (h he).elim
     rename_i h
     rw [if_neg h]
     split at he
     ·cases he
     rename_i h2
     rw [if_neg h2]
     show p.binds.drop 1 = u.args
     rw [i3.1]; rfl
   ·rw [if_neg h4] at he hty ⊢
    obtain ⟨hh, rfl⟩ := hty
    unfold headL at he ⊢
    rw [hh] at he ⊢
    simp only [Option.getD_some] at he ⊢
    have hu' := Mt.units_ok u.size st
    split at he
    ·rename_i h5
     have := hu'.1.2 he
     rw [h5] at this; cases this
    ·rename_i h5
     rw [if_neg h5]
     have h5 : (st.units u.size).2 = true := by simpa using h5
     have := hu'.2 h5
     exact ⟨⟨by show (etaT k i u).nodes + st.count ≤ (Mt.units u.size st).1.count; rw [etaT_nodes]; omega, etaT_lo u k i hk1 hk2 hu (by omega)⟩, by rw [etaT_eq]; rfl⟩
theorem long_formsS {S : Nat} {c m : List Ty} (hS : S ≤ 1000) : ∀ (l : List Rw) (st : Mt) (x us : List Ty), Rw.TypLS S c m x l us → Rw.Oks l → (Rw.longs c m st x l).1.err = 0 →
  Tm.nodess (Rw.longs c m st x l).2 + st.count ≤ (Rw.longs c m st x l).1.count ∧ Tm.Los S (Rw.longs c m st x l).2 ∧ BindsOf (Rw.longs c m st x l).2 us
 | [], st, x, [], _, _, _ => ⟨by simp [Rw.longs, Tm.nodess], True.intro, True.intro⟩
 | r :: l, st, x, u :: us, hty, hk, he => by
  rw [Rw.longs] at he ⊢
  simp only at he ⊢
  have h1 := long_formS hS r st x u hty.1 hk.1 ((Rw.longs_to c m l _ x).ok he)
  have h2 := long_formsS hS l _ x us hty.2 hk.2 he
  have := h1.1.nodes
  exact ⟨by rw [Tm.nodess]; omega, ⟨h1.1.lo, h2.2.1⟩, h1.2, h2.2.2⟩
 | [], _, _, _ :: _, h, _, _ => h.elim
 | _ :: _, _, _, [], h, _, _ => h.elim
end
end Go.Proofs.YtghlgbhldnkdmaaGreat

namespace Go.Proofs.YtghlgbhldnkdmaaGreat
open Go
set_option linter.unusedSimpArgs false
set_option linter.unusedVariables false
theorem repw_tup2 {x y : AV} {n : Int} (h : RepW x y) : RepW (.tup [x, nI n]) (.tup [y, nI n]) := RepW.tup ⟨h, RepW.refl _, True.intro⟩
theorem ndone_calls {m : Mt} {t t' : Tm} {l u x s y c e : Int} (hm : MtOk m l u x y c e) (ht : m.err = 0 → t' = t) (h : m.err = 0 → t.size ≤ 500000000 ∧ t.Ok) :
  HFn Tryz.prog 86 [.ptr 1 0, .agg [.sl (t'.binds.map Ty.enc), nI t'.kind, nI t'.index, .sl (t'.args.map Tm.enc)]] (wrkO l u x s y c e)
   (fun r hp' => MtHp (doneT (m, t)).1 hp' ∧ r = .tup [.agg [.sl ((doneT (m, t)).2.binds.map Ty.enc), nI (doneT (m, t)).2.kind, nI (doneT (m, t)).2.index, .sl ((doneT (m, t)).2.args.map Tm.enc)], nI (doneT (m, t)).1.err]) := by
 have he := hm.err
 have zero : ∀ {m' : Mt} {n : Int} {hp' : List AObj}, MtHp m' hp' → m'.err = n → doneT (m, t) = (m', noTm) → ∃ r2, RepW (.tup [.agg [.prim (.slice none 0 0), nI 0, nI 0, .prim (.slice none 0 0)], nI n]) r2 ∧ (MtHp (doneT (m, t)).1 hp' ∧ r2 = .tup [.agg [.sl ((doneT (m, t)).2.binds.map Ty.enc), nI (doneT (m, t)).2.kind, nI (doneT (m, t)).2.index, .sl ((doneT (m, t)).2.args.map Tm.enc)], nI (doneT (m, t)).1.err]) := by
  intro m' n hp' h1 h2 h3
  rw [h3]
  exact ⟨_, repw_tup2 repw_noTm', h1, by rw [← h2]; rfl⟩
 refine HFn.repw (vc86_ok (ITE.intro (fun h0 => ?_) fun h0 => ?_))
 ·have he0 : e = 0 := by simpa using h0
  have hm0 : m.err = 0 := by rw [← he]; exact he0
  obtain ⟨hs, hk⟩ := h hm0
  rw [ht hm0]
  have hcp := copy_calls (t := t) (by omega) hk
  rw [Tm.enc_eq] at hcp
  refine ⟨_, tright_calls hs, ITE.intro (fun h1 => ?_) fun h1 => ?_⟩
  ·have h1 : trest 0 (t.pre 0 1) = false := by simpa using h1
   refine ⟨_, fail_calls 2, fun r q ⟨e1, e2⟩ => ⟨l, u, x, 0, s, y, c, _, ⟨e1, e2⟩, ?_⟩⟩
   rw [if_pos he0]
   refine ITE.pos rfl ?_
   exact zero (m' := ⟨m.left, m.count, 2⟩) ⟨l, u, x, s, y, c, 2, rfl, hm.failed c (by decide) (fun h => by simp at h)⟩ rfl (by unfold doneT; rw [if_neg (by simp [hm0]), if_neg (by rw [h1]; simp)])
  ·have h1 : trest 0 (t.pre 0 1) = true := by simpa using h1
   refine ITE.neg (by rw [he0]; rfl) ⟨_, _, _, _, hcp, ?_⟩
   have hd : doneT (m, t) = (m, t) := by unfold doneT; rw [if_neg (by simp [hm0]), if_pos h1]
   rw [hd]
   refine ⟨_, RepW.refl _, ⟨l, u, x, s, y, c, e, rfl, hm⟩, ?_⟩
   rw [hm0]
 ·have he0 : ¬ e = 0 := by simpa using h0
  have hm0 : m.err ≠ 0 := by rw [← he]; exact he0
  refine ITE.pos (by simp [he0]) ?_
  exact zero (m' := m) ⟨l, u, x, s, y, c, e, rfl, hm⟩ he.symm (by unfold doneT; rw [if_pos hm0])
theorem typ_head {c m x : List Ty} {k i : Int} {t u : Ty} {l : List Rw} (h3 : ¬ k = 3) (h4 : ¬ k = 4) (h : Rw.Typ c m x (.mk k t i l) u) : headTy c m x k i = some u := by
 rw [Rw.Typ, if_neg h3, if_neg h4] at h
 exact h.1
theorem typ_bound {c m x : List Ty} {i : Int} {u : Ty} (h : headTy c m x 0 i = some u) : 0 ≤ i ∧ i < x.length := by
 unfold headTy at h
 split at h
 ·cases h
 ·rw [if_pos rfl] at h
  split at h
  ·omega
  ·cases h
theorem nlong_calls {S : Nat} {b : Int} {c m : List Ty} (hc : ∀ t ∈ c, t.size ≤ S) (hm : ∀ t ∈ m, t.size ≤ S) (hS : S ≤ 1000) :
  ∀ (n : Nat) (r : Rw) (st : Mt) (x : List Ty) (ty : Ty) (l u d s y cn e : Int), r.total ≤ n → r.total ≤ 100000000 → Rw.TypS S c m x r ty → r.Ok → r.shaped = true → (∀ t ∈ x, t.size ≤ S) → x.length + r.depth ≤ 1000 → MtOk st l u d y cn e →
  HFn Tryz.prog 101 [.ptr 1 0, .agg [nI b, .sl (c.map Ty.enc), .sl (m.map Ty.enc)], .sl (x.map Ty.enc), .agg [nI r.kind, .sl (r.type.args.map Ty.enc), nI r.type.base, nI r.index, .sl (r.kids.map Rw.enc)]] (wrkO l u d s y cn e)
   (MtRes (S + r.total) (Rw.long c m st x r).1 (Rw.long c m st x r).2) := by
 intro n
 induction n with
 | zero => intro r st x ty l u d s y cn e h; have := r.total_pos; omega
 | succ n ih =>
  intro r st x ty l u d s y cn e hn hrS hty hok hsh hx hxl hmt
  have he := hmt.err
  have hrt := r.total_eq
  obtain ⟨k, t, i, kids⟩ := r
  simp only [Rw.kind_mk, Rw.type_mk, Rw.index_mk, Rw.kids_mk] at hrt ⊢
  have hdk : ∀ r ∈ kids, r.depth < (Rw.mk k t i kids).depth := fun r hr => Rw.kids_depth hr
  obtain ⟨hk1, hk2, hk3⟩ := hok
  refine HFn.repw (vc101_ok (ITE.intro (fun h => ?_) fun h => ?_))
  ·have h0 : ¬ e = 0 := by simpa using h
   have hm0 : st.err ≠ 0 := by rw [← he]; exact h0
   rw [Rw.long, if_pos hm0]
   exact noTm_res ⟨l, u, d, s, y, cn, e, rfl, hmt⟩ hm0
  have h0 : e = 0 := by simpa using h
  have hm0 : st.err = 0 := by rw [← he]; exact h0
  rw [Rw.long, if_neg (by simp [hm0])]
  refine ITE.intro (fun h => ?_) fun h => ?_
  ·have h3 : k = 3 := by simpa using h
   rw [if_pos h3]
   rw [Rw.TypS, if_pos h3] at hty
   obtain ⟨_, htS, v, hv, hty⟩ := hty
   obtain ⟨a, rfl, hta⟩ := typLS_one hty
   have hda := hdk a (by simp)
   have hsa : a.shaped = true := by
    rw [Rw.shaped_eq, Rw.kids_mk, show Rw.shapeds [a] = (a.shaped && Rw.shapeds []) from Rw.shapeds_drop (l := [a]) (k := 0) (by simp)] at hsh
    simp only [Bool.and_eq_true] at hsh
    exact hsh.2.1
   have hat : Rw.totals [a] = a.total := by simp [Rw.totals]
   have htz := t.size_pos
   rw [hat] at hrt
   have hi := ih a st (x ++ [t]) v l u d s y cn e (by omega) (by omega) hta hk3.1 hsa (fun w hw => (List.mem_append.1 hw).elim (hx w) fun h => by rw [List.mem_singleton.1 h]; exact htS) (by rw [List.length_append, List.length_singleton]; omega) hmt
   have hone : [AV.agg [.sl (t.args.map Ty.enc), nI t.base]] = [t].map Ty.enc := one_enc t
   rw [List.map_append, ← hone] at hi
   have hL : vc101_L5 (x.map Ty.enc) (t.args.map Ty.enc) t.base b (c.map Ty.enc) (m.map Ty.enc) a.kind (a.type.args.map Ty.enc) a.type.base a.index (a.kids.map Rw.enc) l u d 0 s y cn e (fun r hp' => ∃ r2, RepW r r2 ∧ MtRes (S + (Rw.mk k t i [a]).total) (lamL t (Rw.longs c m st (x ++ [t]) [a])).1 (lamL t (Rw.longs c m st (x ++ [t]) [a])).2 r2 hp') := by
    refine ⟨rfl, _, hi, fun r q ⟨⟨l', u', d', s', y', c', e', e2, hm'⟩, t', e1, ht', htl⟩ => ⟨l', u', d', 0, s', y', c', e', _, _, _, _, ⟨e1, e2⟩, ?_⟩⟩
    have hcc := concat_calls (ll := [[t], t'.binds]) (by simp) (by simp; omega)
    simp only [encRows, List.map_cons, List.map_nil, List.flatten_cons, List.flatten_nil, List.append_nil] at hcc
    rw [Ty.enc_eq] at hcc
    refine ⟨_, hcc, _, RepW.refl _, ?_⟩
    rw [Rw.longs, Rw.longs]
    have hb1 : (lamL t ((Rw.long c m st (x ++ [t]) a).1, [(Rw.long c m st (x ++ [t]) a).2])).1 = (Rw.long c m st (x ++ [t]) a).1 := by unfold lamL; split <;> rfl
    refine ⟨(by rw [hb1]; exact ⟨l', u', d', s', y', c', e', rfl, hm'⟩), .mk (t :: t'.binds) t'.kind t'.index t'.args, ?_, fun h0 => ?_, ?_⟩
    ·simp only [Tm.binds_mk, Tm.kind_mk, Tm.index_mk, Tm.args_mk, List.map_cons, Ty.enc_eq, List.singleton_append, List.cons_append, List.nil_append]
    ·simp only at h0 ⊢
     rw [hb1] at h0
     rw [ht' h0]
     unfold lamL
     rw [if_neg (by simp [h0])]
     rfl
    ·rw [Tm.binds_mk, List.length_cons, Rw.total, hat]; omega
   have hap : ∀ {dd : TD}, dd.size = 2 → dd.bytes ≤ 1000 → appOk dd (List.length (x.map Ty.enc ++ [.agg [.sl (t.args.map Ty.enc), nI t.base]])) (x.map Ty.enc) [.agg [.sl (t.args.map Ty.enc), nI t.base]] := fun hz hd =>
    appOk_mk (fun z hz' => by rw [hz]; exact Ty.enc_cells z hz') (fun z hz' => by simp at hz'; subst hz'; rw [hz]; rfl) (by simp; omega) hd
   refine ⟨_, clipT_calls, by omega, by simp, _, _, _, _, _, Rw.enc_getD (l := [a]) (k := 0) (by simp), ⟨fun h => by simp at h, hap rfl (by decide), hL, hL⟩, ⟨fun h => by simp at h, hap rfl (by decide), hL⟩⟩
  have h3 : ¬ k = 3 := by simpa using h
  rw [if_neg h3]
  refine ITE.intro (fun h => ?_) fun h => ?_
  ·have h4 : k = 4 := by simpa using h
   rw [if_pos h4]
   rw [Rw.TypS, if_neg h3, if_pos h4] at hty
   obtain ⟨_, v, hty⟩ := hty
   obtain ⟨f, a, rfl, htf, hta⟩ := typLS_two hty
   have hdf := hdk f (by simp)
   have hda := hdk a (by simp)
   have hsfa : f.shaped = true ∧ a.shaped = true := by
    rw [Rw.shaped_eq, Rw.kids_mk, show Rw.shapeds [f, a] = (f.shaped && Rw.shapeds [a]) from Rw.shapeds_drop (l := [f, a]) (k := 0) (by simp), show Rw.shapeds [a] = (a.shaped && Rw.shapeds []) from Rw.shapeds_drop (l := [a]) (k := 0) (by simp)] at hsh
    simp only [Bool.and_eq_true] at hsh
    exact ⟨hsh.2.1, hsh.2.2.1⟩
   have hat : Rw.totals [f, a] = f.total + a.total := by simp [Rw.totals]
   have htz := t.size_pos
   have hfp := f.total_pos
   have hap := a.total_pos
   rw [hat] at hrt
   have hf1 := ih f st x _ l u d s y cn e (by omega) (by omega) htf hk3.1 hsfa.1 hx (by omega) hmt
   have hto1 := Rw.long_to c m f st x
   have hff := fun h => (long_formS hS f st x _ htf hk3.1 h).1
   have hL : vc101_L9 b (c.map Ty.enc) (m.map Ty.enc) (x.map Ty.enc) f.kind (f.type.args.map Ty.enc) f.type.base f.index (f.kids.map Rw.enc) l u d 0 s y cn e ([f, a].map Rw.enc) (fun r hp' => ∃ r2, RepW r r2 ∧ MtRes (S + (Rw.mk k t i [f, a]).total) (appL (Rw.longs c m st x [f, a])).1 (appL (Rw.longs c m st x [f, a])).2 r2 hp') := by
    refine ⟨_, hf1, fun r q ⟨⟨l', u', d', s', y', c', e', e2, hm'⟩, tf, e1, htf', htfl⟩ => ⟨l', u', d', 0, s', y', c', e', _, _, _, _, ⟨e1, e2⟩, by omega, by simp, _, _, _, _, _, Rw.enc_getD (l := [f, a]) (k := 1) (by simp), ?_⟩⟩
    have ha1 := ih a (Rw.long c m st x f).1 x _ l' u' d' s' y' c' e' (by omega) (by omega) hta hk3.2.1 hsfa.2 hx (by omega) hm'
    have hto2 := Rw.long_to c m a (Rw.long c m st x f).1 x
    have haf := fun h => (long_formS hS a (Rw.long c m st x f).1 x _ hta hk3.2.1 h).1
    simp only [Rw.longs]
    have hL2 : vc101_L10 b (c.map Ty.enc) (m.map Ty.enc) (x.map Ty.enc) a.kind (a.type.args.map Ty.enc) a.type.base a.index (a.kids.map Rw.enc) l' u' d' 0 s' y' c' e'
      (fun r hp' => ∃ r2, RepW r r2 ∧ MtRes (S + (Rw.mk k t i [f, a]).total) (appL ((Rw.long c m (Rw.long c m st x f).1 x a).1, [(Rw.long c m st x f).2, (Rw.long c m (Rw.long c m st x f).1 x a).2])).1 (appL ((Rw.long c m (Rw.long c m st x f).1 x a).1, [(Rw.long c m st x f).2, (Rw.long c m (Rw.long c m st x f).1 x a).2])).2 r2 hp') (tf.binds.map Ty.enc) tf.kind tf.index (tf.args.map Tm.enc) := by
     refine ⟨_, ha1, fun r q ⟨⟨l2, u2, d2, s2, y2, c2, e2', e2, hm2⟩, ta, e1, hta', _⟩ => ⟨l2, u2, d2, 0, s2, y2, c2, e2', _, _, _, _, ⟨e1, e2⟩, ?_⟩⟩
     have he2 := hm2.err
     generalize hm3 : (Rw.long c m (Rw.long c m st x f).1 x a).1 = M at *
     refine ITE.intro (fun h => ?_) fun h => ?_
     ·have h5 : ¬ e2' = 0 := by simpa using h
      have hM : M.err ≠ 0 := by rw [← he2]; exact h5
      have : appL (M, [(Rw.long c m st x f).2, (Rw.long c m (Rw.long c m st x f).1 x a).2]) = (M, noTm) := by unfold appL; rw [if_pos hM]
      rw [this]
      exact noTm_res ⟨l2, u2, d2, s2, y2, c2, e2', rfl, hm2⟩ hM
     ·have h5 : e2' = 0 := by simpa using h
      have hM : M.err = 0 := by rw [← he2]; exact h5
      have hF := hto2.ok hM
      have hff := hff hF
      have haf := haf hM
      have htf' := htf' hF
      have hta' := hta' hM
      generalize (Rw.long c m (Rw.long c m st x f).1 x a).2 = TA at haf hta' ⊢
      generalize (Rw.long c m st x f).2 = TF at hff htf' ⊢
      subst htf'; subst hta'
      have : appL (M, [tf, ta]) = putT 100001 M tf [ta] := by unfold appL; rw [if_neg (by simp [hM])]; rfl
      rw [this]
      have hq := hff.nodes
      have hq2 := haf.nodes
      have hp := putP (B := 2 * S) (by omega) 100001 M tf [ta] l2 u2 d2 s2 y2 c2 e2' hm2 (fun _ => by omega) (Tm.lo_mono (by omega) hff.lo) (fun _ => ⟨⟨Tm.lo_mono (by omega) haf.lo, True.intro⟩, fun t ht => by
       rw [List.mem_singleton.1 ht]
       have := hm2.most
       omega⟩) (by omega)
      have hone : AV.clip [.agg [.sl (ta.binds.map Ty.enc), nI ta.kind, nI ta.index, .sl (ta.args.map Tm.enc)]] = .clip ([ta].map Tm.enc) := by rw [List.map_cons, List.map_nil, Tm.enc_eq]
      refine ⟨_, HFn.args (by rw [hone]; exact ⟨RepW.refl _, RepW.refl _, repw_clip _, True.intro⟩) hp, fun r q ⟨⟨l3, u3, d3, s3, y3, c3, e3', e2, hm3⟩, tp, e1, htp, htpl⟩ => ⟨l3, u3, d3, 0, s3, y3, c3, e3', _, _, _, _, ⟨e1, e2⟩, _, RepW.refl _, ⟨l3, u3, d3, s3, y3, c3, e3', rfl, hm3⟩, tp, rfl, htp, ?_⟩⟩
      rw [Rw.total, hat]; omega
    exact ⟨hL2, hL2⟩
   exact ⟨by omega, by simp, _, _, _, _, _, Rw.enc_getD (l := [f, a]) (k := 0) (by simp), hL, hL⟩
  ·have h4 : ¬ k = 4 := by simpa using h
   rw [if_neg h4]
   have hh := typ_head h3 h4 hty.typ
   have hsz : ty.size ≤ S := (headTy_mem hh).elim (hx _) fun h => h.elim (hc _) (hm _)
   have hht := HeadType_calls (b := b) (c := c) (m := m) (x := x) (k := k) hk2 (by omega) (fun t ht => by rw [hh] at ht; obtain rfl := Option.some.inj ht; omega)
   rw [hh] at hht
   have heta := pEta_calls ty.size ty k i (Nat.le_refl _) (by omega) (fun h => by subst h; have := typ_bound hh; omega)
   rw [Ty.enc_eq, Tm.enc_eq] at heta
   refine ⟨_, _, _, hht, _, ksize_calls (t := ty) (by omega), _, unit_calls ty.size (by omega) hmt, fun r q ⟨e1, l', u', d', s', y', c', e', e2, hm'⟩ => ⟨l', u', d', 0, s', y', c', e', _, ⟨e1, e2⟩, ?_⟩⟩
   unfold headL
   rw [hh, Option.getD_some]
   have hu := Mt.units_ok ty.size st
   refine ITE.intro (fun h => ?_) fun h => ?_
   ·have h5 : (st.units ty.size).2 = false := by simpa using h
    rw [if_pos h5]
    exact noTm_res ⟨l', u', d', s', y', c', e', rfl, hm'⟩ (fun h => by have := hu.1.2 h; rw [h5] at this; cases this)
   ·have h5 : (st.units ty.size).2 = true := by simpa using h
    rw [if_neg (by rw [h5]; simp)]
    refine ⟨_, _, _, _, heta, _, RepW.refl _, ⟨l', u', d', s', y', c', e', rfl, hm'⟩, etaT k i ty, rfl, fun _ => rfl, ?_⟩
    rw [etaT_eq, Tm.binds_mk]
    have := Ty.sizes_len ty.args
    have := ty.size_eq
    omega
end Go.Proofs.YtghlgbhldnkdmaaGreat

namespace Go.Proofs.YtghlgbhldnkdmaaGreat
open Go
set_option linter.unusedSimpArgs false
set_option linter.unusedVariables false
theorem nright1_calls {b : Int} {c m : List Ty} {t : Ty} (h : t.size ≤ 500000000) : PureIs Tryz.prog 125 [.agg [.sl (t.args.map Ty.enc), nI t.base], .eptr (.agg [nI b, .sl (c.map Ty.enc), .sl (m.map Ty.enc)]) 0] (nB (!(t.rightB b))) :=
 vc125_ok ⟨_, kright_calls h, rfl⟩
theorem indexN_calls {b : Int} {c m l : List Ty} (h : Ty.sizes l ≤ 500000000) : PureIs Tryz.prog 118 [.sl (l.map Ty.enc), .clo 125 [.eptr (.agg [nI b, .sl (c.map Ty.enc), .sl (m.map Ty.enc)]) 0]] (nI (firstBad b 0 l)) := by
 have hl := Ty.sizes_len l
 refine vc_indexN_ok ⟨rfl, ?_⟩
 refine LoopP.intro (fun k : Nat => ((l.map Ty.enc, ((), ()), (l.length : Int), (k : Int), ()), ())) (fun k => k ≤ l.length ∧ firstBad b 0 l = firstBad b k (l.drop k)) (fun k => l.length - k) 0 (by rw [List.length_map]; rfl) ⟨Nat.zero_le _, rfl⟩ ?_
 intro k ⟨hk, hs⟩ again hag
 dsimp only
 rw [List.length_map]
 refine ITE.intro (fun h => ?_) fun h => ?_
 ·have hlt : k < l.length := by simpa using h
  rw [List.drop_eq_getElem_cons hlt, firstBad] at hs
  refine ⟨by omega, by omega, _, _, Ty.enc_getD hlt, _, nright1_calls (by have := Ty.sizes_mem (List.getElem_mem hlt); omega), ITE.intro (fun h => ?_) fun h => ⟨rfl, ?_⟩⟩
  ·rw [hs, if_neg (by simpa using h)]
  ·rw [if_pos (by simpa using h)] at hs
   rw [wrap_n (by omega)]
   exact hag (k + 1) ⟨by omega, hs⟩ (by omega)
 ·have : l.length ≤ k := by simpa using h
  rw [List.drop_eq_nil_of_le this] at hs
  rw [hs]; rfl
def rightCtx (b : Int) (c m x : List Ty) : Bool := (!(decide (firstBad b 0 (c ++ m) ≥ 0))) && (decide (x.length ≤ 900) && !(decide (firstBad b 0 x ≥ 0)))
theorem nright_calls {b : Int} {c m x : List Ty} (hc : c.length ≤ 500) (hm : m.length ≤ 500) (h : Ty.sizes (c ++ m) ≤ 500000000) (hx : Ty.sizes x ≤ 500000000) :
  PureIs Tryz.prog 93 [.agg [nI b, .sl (c.map Ty.enc), .sl (m.map Ty.enc)], .sl (x.map Ty.enc)] (nB (rightCtx b c m x)) := by
 refine vc93_ok ⟨_, rightWorld_calls hc hm h, ITE.intro (fun h1 => ?_) fun h1 => ?_⟩
 ·refine ITE.intro (fun h2 => ⟨_, vc_containsN_ok ⟨_, indexN_calls hx, rfl⟩, ?_⟩) fun h2 => ?_
  ·rw [rightCtx, h1, Bool.true_and, decide_eq_true (by have := of_decide_eq_true h2; rw [List.length_map] at this; omega), Bool.true_and]
  ·rw [rightCtx, h1, Bool.true_and, decide_eq_false (by have := of_decide_eq_false h2; rw [List.length_map] at this; omega), Bool.false_and]
 ·rw [rightCtx, h1, Bool.false_and]
def Rw.inf (b : Int) (c m x : List Ty) (r : Rw) : Ty × Int := if r.rightB = true then r.infer b c m x else (noT, 1)
def longR (b : Int) (c m x : List Ty) (r : Rw) (left : Nat) : Mt × Tm :=
 if rightCtx b c m x = false then (⟨left, 0, 1⟩, noTm) else if (r.inf b c m x).2 ≠ 0 then (⟨left, 0, (r.inf b c m x).2⟩, noTm) else doneT (Rw.long c m ⟨left, 0, 0⟩ x r)
mutual
theorem Rw.infer_ne (b : Int) (c m : List Ty) : ∀ (r : Rw) (x : List Ty), (r.infer b c m x).2 ≠ 11
 | .mk k t i l, x => by
  rw [Rw.infer]
  split
  ·split
   ·have := Rw.infers_ne b c m l (x ++ [t])
    generalize Rw.infers b c m (x ++ [t]) l = q at this
    unfold lamRes
    split
    ·rename_i p l'
     have hp := this p List.mem_cons_self
     (repeat' split) <;> first | assumption | (simp; done)
    ·decide
   ·decide
  ·split
   ·have := Rw.infers_ne b c m l x
    generalize Rw.infers b c m x l = q at this
    unfold appRes
    split
    ·rename_i p q l'
     have hp := this p List.mem_cons_self
     have hq := this q (List.mem_cons_of_mem _ List.mem_cons_self)
     (repeat' split) <;> first | assumption | (simp; done)
    ·decide
   ·unfold headRes
    (repeat' split) <;> simp
theorem Rw.infers_ne (b : Int) (c m : List Ty) : ∀ (l : List Rw) (x : List Ty), ∀ p ∈ Rw.infers b c m x l, p.2 ≠ 11
 | [], x, p, hp => by simp [Rw.infers] at hp
 | r :: l, x, p, hp => by
  rw [Rw.infers] at hp
  rcases List.mem_cons.1 hp with rfl | hp
  ·exact Rw.infer_ne b c m r x
  ·exact Rw.infers_ne b c m l x p hp
end
theorem sizes_le_mul {S : Nat} : ∀ {l : List Ty}, (∀ t ∈ l, t.size ≤ S) → Ty.sizes l ≤ l.length * S
 | [], _ => by simp [Ty.sizes]
 | t :: l, h => by
  have h1 := h t List.mem_cons_self
  have h2 := sizes_le_mul fun u hu => h u (List.mem_cons_of_mem t hu)
  rw [Ty.sizes, List.length_cons, Nat.add_mul]; omega
structure NormOk (c m x : List Ty) (r : Rw) : Prop where
 hc : ∀ t ∈ c, t.size ≤ 1000
 hm : ∀ t ∈ m, t.size ≤ 1000
 hx : ∀ t ∈ x, t.size ≤ 1000
 cl : c.length ≤ 100
 ml : m.length ≤ 100
 xl : x.length ≤ 1000
 hr : r.total ≤ 90000000
 ok : r.Ok
theorem NormOk.sizes {c m x : List Ty} {r : Rw} (h : NormOk c m x r) : Ty.sizes (c ++ m) ≤ 500000000 ∧ Ty.sizes x ≤ 300000000 := by
 have h1 := sizes_le_mul h.hc
 have h2 := sizes_le_mul h.hm
 have h3 := sizes_le_mul h.hx
 have h4 := Nat.mul_le_mul_right 1000 h.cl
 have h5 := Nat.mul_le_mul_right 1000 h.ml
 have h6 := Nat.mul_le_mul_right 1000 h.xl
 rw [Ty.sizes_append]
 exact ⟨by omega, by omega⟩
theorem repw_tup3 {x y : AV} {n k : Int} (h : RepW x y) : RepW (.tup [x, nI n, nI k]) (.tup [y, nI n, nI k]) := RepW.tup ⟨h, RepW.refl _, RepW.refl _, True.intro⟩
def Found (L : Mt × Tm) (r : AV) (hp' : List AObj) : Prop := ∃ (cnt l u d s y : Int), hp' = [.box (budC l u d 0 s y)] ∧ BudOk L.1.left l u d y ∧ (L.1.err = 11 → y ≠ 0) ∧ (L.1.err = 0 → cnt = L.1.count) ∧
 r = .tup [.agg [.sl (L.2.binds.map Ty.enc), nI L.2.kind, nI L.2.index, .sl (L.2.args.map Tm.enc)], nI cnt, nI L.1.err]
theorem inf_infer {b : Int} {c m x : List Ty} {r : Rw} (hin : NormOk c m x r) : PureIs Tryz.prog 43 [.agg [nI b, .sl (c.map Ty.enc), .sl (m.map Ty.enc)], .sl (x.map Ty.enc), r.enc] (encTE (r.inf b c m x)) :=
 Infer_calls (b := b) (fun t ht => by have := hin.hc t ht; omega) (fun t ht => by have := hin.hm t ht; omega) hin.ok (by have := hin.sizes; have := hin.hr; omega)
theorem found_calls {b : Int} {c m x : List Ty} {r : Rw} {left : Nat} {l u d s y : Int} (hin : NormOk c m x r) (hb : BudOk left l u d y) :
  HFn Tryz.prog 51 [.agg [nI b, .sl (c.map Ty.enc), .sl (m.map Ty.enc)], .sl (x.map Ty.enc), .agg [nI r.kind, .sl (r.type.args.map Ty.enc), nI r.type.base, nI r.index, .sl (r.kids.map Rw.enc)], .ptr 0 0] [.box (budC l u d 0 s y)] (Found (longR b c m x r left)) := by
 have hsz := hin.sizes
 have hi := inf_infer (b := b) hin
 rw [Rw.enc_eq] at hi
 have zero : ∀ (e : Int), e ≠ 0 → e ≠ 11 → longR b c m x r left = (⟨left, 0, e⟩, noTm) → ∃ r2, RepW (.tup [.agg [.prim (.slice none 0 0), nI 0, nI 0, .prim (.slice none 0 0)], nI 0, nI e]) r2 ∧ Found (longR b c m x r left) r2 [.box (budC l u d 0 s y)] := by
  intro e he he2 h
  rw [h]
  exact ⟨_, repw_tup3 repw_noTm', 0, l, u, d, s, y, rfl, hb, fun h => (he2 h).elim, fun h => (he h).elim, rfl⟩
 refine HFn.repw (vc51_ok ⟨_, nright_calls (by have := hin.cl; omega) (by have := hin.ml; omega) hsz.1 (by omega), ITE.intro (fun h => ?_) fun h => ?_⟩)
 ·have h : rightCtx b c m x = false := by simpa using h
  exact zero 1 (by decide) (by decide) (by unfold longR; rw [if_pos h])
 have h1 : rightCtx b c m x = true := by simpa using h
 have hL : longR b c m x r left = if (r.inf b c m x).2 ≠ 0 then (⟨left, 0, (r.inf b c m x).2⟩, noTm) else doneT (Rw.long c m ⟨left, 0, 0⟩ x r) := by unfold longR; rw [if_neg (by rw [h1]; simp)]
 refine ⟨_, _, _, hi, ITE.intro (fun h => ?_) fun h => ?_⟩
 ·have h2 : (r.inf b c m x).2 ≠ 0 := by simpa using h
  refine zero _ h2 ?_ (by rw [hL, if_pos h2])
  unfold Rw.inf
  split
  ·exact Rw.infer_ne b c m r x
  ·decide
 have h2 : (r.inf b c m x).2 = 0 := by simpa using h
 rw [hL, if_neg (by simp [h2])]
 have hrb : r.rightB = true := by
  cases hrb : r.rightB with
  | true => rfl
  | false => rw [Rw.inf, hrb] at h2; simp at h2
 have hsh : r.shaped = true := by rw [Rw.rightB, Bool.and_eq_true] at hrb; exact hrb.1
 have hty : Rw.TypS 1000 c m x r (r.infer b c m x).1 := infer_typS b c m r x _ hsh (by
  rw [Rw.inf, if_pos hrb] at h2
  rw [← h2])
 have hmt : MtOk ⟨left, 0, 0⟩ l u d y 0 0 := ⟨hb, rfl, Nat.zero_le _, fun _ => rfl, fun h => by simp at h⟩
 have hdep : r.depth ≤ 60 := by rw [Rw.rightB, Bool.and_eq_true, Bool.and_eq_true, decide_eq_true_eq, decide_eq_true_eq] at hrb; exact hrb.2.2
 have hx9 : x.length ≤ 900 := by unfold rightCtx at h1; simp only [Bool.and_eq_true, decide_eq_true_eq] at h1; exact h1.2.1
 have hlong := nlong_calls (b := b) hin.hc hin.hm (Nat.le_refl _) _ r ⟨left, 0, 0⟩ x _ l u d s y 0 0 (Nat.le_refl _) (by have := hin.hr; omega) hty hin.ok hsh hin.hx (by omega) hmt
 have hform := fun h => (long_formS (Nat.le_refl _) r ⟨left, 0, 0⟩ x _ hty hin.ok h).1
 generalize Rw.long c m ⟨left, 0, 0⟩ x r = Q at hlong hform
 refine ⟨_, hlong, fun r1 q ⟨⟨l1, u1, d1, s1, y1, c1, e1', e2, hm1⟩, t1, e1, ht1, _⟩ => ⟨l1, u1, d1, 0, s1, y1, c1, e1', _, _, _, _, ⟨e1, e2⟩, ?_⟩⟩
 have hdone := ndone_calls (s := s1) hm1 ht1 (fun h0 => by
  have hf := hform h0
  have hn := hf.nodes
  have hmost := hm1.most
  have hs := Tm.lo_size hf.lo
  have : Q.2.nodes * (1 + 1000) ≤ 100000 * 1001 := Nat.mul_le_mul (by omega) (by omega)
  exact ⟨by omega, Tm.lo_ok hf.lo⟩)
 rw [show (Q.1, Q.2) = Q from rfl] at hdone
 refine ⟨_, hdone, fun r2 q ⟨⟨l2, u2, d2, s2, y2, c2, e2', e2, hm2⟩, e1⟩ => ⟨l2, u2, d2, 0, s2, y2, c2, e2', _, _, _, _, _, ⟨e1, e2⟩, ?_⟩⟩
 exact ⟨_, RepW.refl _, c2, l2, u2, d2, s2, y2, rfl, hm2.bud, hm2.fuel, hm2.count, rfl⟩
def FoundL (L : Mt × Tm) (r : AV) (hp' : List AObj) : Prop := ∃ l u d s y, hp' = [.box (budC l u d 0 s y)] ∧ BudOk L.1.left l u d y ∧ (L.1.err = 11 → y ≠ 0) ∧
 r = .tup [.agg [.sl (L.2.binds.map Ty.enc), nI L.2.kind, nI L.2.index, .sl (L.2.args.map Tm.enc)], nI L.1.err]
theorem nLong_calls {b : Int} {c m x : List Ty} {r : Rw} {left : Nat} {l u d s y : Int} (hin : NormOk c m x r) (hb : BudOk left l u d y) :
  HFn Tryz.prog 15 [.agg [nI b, .sl (c.map Ty.enc), .sl (m.map Ty.enc)], .sl (x.map Ty.enc), .agg [nI r.kind, .sl (r.type.args.map Ty.enc), nI r.type.base, nI r.index, .sl (r.kids.map Rw.enc)], .ptr 0 0] [.box (budC l u d 0 s y)] (FoundL (longR b c m x r left)) :=
 vc15_ok ⟨_, found_calls hin hb, fun r1 q ⟨cnt, l1, u1, d1, s1, y1, e2, hb1, hf, hc, e1⟩ => ⟨l1, u1, d1, 0, s1, y1, _, _, _, _, _, _, ⟨e1, e2⟩, l1, u1, d1, s1, y1, rfl, hb1, hf, rfl⟩⟩
theorem bud_fresh {n : Nat} (hn : n ≤ 1000000) : HFn Tryz.prog 36 [nI n] [] (fun r hp' => r = .ptr 0 0 ∧ hp' = [.box (budC n 0 0 0 0 0)]) :=
 (bud_new n []).mono fun r hp' ⟨e1, e2⟩ => ⟨e1, by rw [e2, if_neg (by omega)]; rfl⟩
theorem budOk_fresh {n : Nat} (hn : n ≤ 1000000) : BudOk n n 0 0 0 := ⟨rfl, by decide, by omega, Iff.rfl, fun h => (h rfl).elim⟩
def encTmE (t : Tm) (e : Int) : AV := .tup [.agg [.sl (t.binds.map Ty.enc), nI t.kind, nI t.index, .sl (t.args.map Tm.enc)], nI e]
theorem nOf_calls {b : Int} {c m x : List Ty} {r : Rw} (hin : NormOk c m x r) :
  PureIs Tryz.prog 24 [.agg [nI b, .sl (c.map Ty.enc), .sl (m.map Ty.enc)], .sl (x.map Ty.enc), .agg [nI r.kind, .sl (r.type.args.map Ty.enc), nI r.type.base, nI r.index, .sl (r.kids.map Rw.enc)]] (encTmE (longR b c m x r 100000).2 (longR b c m x r 100000).1.err) :=
 vc24_ok ⟨_, bud_fresh (n := 100000) (by omega), fun r1 q ⟨e1, e2⟩ => ⟨_, _, _, _, _, _, ⟨e1, e2⟩, _, nLong_calls hin (budOk_fresh (by omega)), fun r2 q2 ⟨l1, u1, d1, s1, y1, e2, hb1, hf, e1⟩ => ⟨l1, u1, d1, 0, s1, y1, _, _, _, _, _, ⟨e1, e2⟩, rfl⟩⟩⟩
def costR (L : Mt × Tm) : Nat := if L.1.err ≠ 0 then 0 else L.1.count
theorem nCost_calls {b : Int} {c m x : List Ty} {r : Rw} (hin : NormOk c m x r) :
  PureIs Tryz.prog 25 [.agg [nI b, .sl (c.map Ty.enc), .sl (m.map Ty.enc)], .sl (x.map Ty.enc), .agg [nI r.kind, .sl (r.type.args.map Ty.enc), nI r.type.base, nI r.index, .sl (r.kids.map Rw.enc)]] (.tup [nI (costR (longR b c m x r 100000)), nI (longR b c m x r 100000).1.err]) := by
 have key : ∀ (r2 : AV) (q2 : List AObj), Found (longR b c m x r 100000) r2 q2 → ∃ (i68 i69 i70 i71 i72 i73 : Int) (l74 : List AV) (i75 i76 : Int) (l77 : List AV) (i78 i79 : Int),
   (r2 = .tup [.agg [.sl l74, nI i75, nI i76, .sl l77], nI i78, nI i79] ∧ q2 = [.box [nI i68, nI i69, .prim (.int .u32 i70), .prim (.int .i32 i71), .prim (.int .u32 i72), .prim (.int .u32 i73)]]) ∧
   ITE (i79 != 0) ((fun x' => x' = AV.tup [nI (costR (longR b c m x r 100000)), nI (longR b c m x r 100000).1.err]) (.tup [nI 0, nI i79])) ((fun x' => x' = AV.tup [nI (costR (longR b c m x r 100000)), nI (longR b c m x r 100000).1.err]) (.tup [nI i78, nI 0])) := by
  intro r2 q2 ⟨cnt, l1, u1, d1, s1, y1, e2, hb1, hf, hc, e1⟩
  refine ⟨l1, u1, d1, 0, s1, y1, _, _, _, _, _, _, ⟨e1, e2⟩, ITE.intro (fun h => ?_) fun h => ?_⟩
  ·have h0 : (longR b c m x r 100000).1.err ≠ 0 := by simpa using h
   simp only [costR, if_pos h0]; rfl
  ·have h0 : (longR b c m x r 100000).1.err = 0 := by simpa using h
   rw [hc h0]
   simp only [costR, h0, ne_eq, not_true_eq_false, if_false]
 have hfd := found_calls (s := 0) (b := b) (left := 100000) hin (budOk_fresh (n := 100000) (by omega))
 refine vc25_ok ⟨⟨_, bud_fresh (n := 100000) (by omega), fun r1 q ⟨e1, e2⟩ => ⟨_, _, _, _, _, _, ⟨e1, e2⟩, ⟨_, hfd, key⟩, ⟨_, hfd, key⟩⟩⟩, ⟨_, bud_fresh (n := 100000) (by omega), fun r1 q ⟨e1, e2⟩ => ⟨_, _, _, _, _, _, ⟨e1, e2⟩, ⟨_, hfd, key⟩⟩⟩⟩
end Go.Proofs.YtghlgbhldnkdmaaGreat

namespace Go.Proofs.YtghlgbhldnkdmaaGreat
open Go
set_option linter.unusedSimpArgs false
set_option linter.unusedVariables false
mutual
def Rw.lae (c m : List Ty) : List Ty → Rw → La
 | x, .mk k t i l => if k = 3 then .lam t ((Rw.laes c m (x ++ [t]) l).getD 0 (.var 0)) else if k = 4 then .app ((Rw.laes c m x l).getD 0 (.var 0)) ((Rw.laes c m x l).getD 1 (.var 0)) else etaL ((headTy c m x k i).getD noT) (hdL k i)
def Rw.laes (c m : List Ty) : List Ty → List Rw → List La
 | _, [] => []
 | x, r :: l => Rw.lae c m x r :: Rw.laes c m x l
end
mutual
theorem long_is {S : Nat} {c m : List Ty} (hS : S ≤ 1000) : ∀ (r : Rw) (st : Mt) (x : List Ty) (u : Ty), r.Ok → st.count ≤ 100000 → x.length + r.depth ≤ 1000000 → Rw.TypS S c m x r u →
  ((Rw.long c m st x r).1.err = 0 → (Rw.long c m st x r).2.Is c m x u ∧ Conv (Rw.lae c m x r) (Rw.long c m st x r).2.la) ∧ ((Rw.long c m st x r).1.err = 1 → st.err = 1)
 | .mk k t i l, st, x, u, hk, hst, hxr, hty => by
  have hdk : ∀ r ∈ l, r.depth < (Rw.mk k t i l).depth := fun r hr => Rw.kids_depth hr
  obtain ⟨hk1, hk2, hk3⟩ := hk
  rw [Rw.TypS] at hty
  obtain ⟨hus, hty⟩ := hty
  rw [Rw.long, Rw.lae]
  split
  ·rename_i h; exact ⟨fun he => (h he).elim, fun he => he⟩
  by_cases h3 : k = 3
  ·rw [if_pos h3] at hty ⊢
   rw [if_pos h3]
   obtain ⟨htS, v, rfl, hl⟩ := hty
   obtain ⟨a, rfl, ha⟩ := typLS_one hl
   have ih := longs_is hS [a] st (x ++ [t]) [v] hk3 hst (fun r hr => by have := hdk r hr; rw [List.length_append, List.length_singleton]; omega) hl
   unfold lamL
   have e : (Rw.longs c m st (x ++ [t]) [a]).2 = [(Rw.long c m st (x ++ [t]) a).2] := by rw [Rw.longs, Rw.longs]
   generalize (Rw.long c m st (x ++ [t]) a).2 = b at e
   generalize Rw.longs c m st (x ++ [t]) [a] = q at ih e ⊢
   obtain ⟨qm, ql⟩ := q
   simp only at e
   subst e
   split
   ·rename_i h; exact ⟨fun he => (h he).elim, ih.2⟩
   refine ⟨fun he => ?_, ih.2⟩
   obtain ⟨⟨i1, _⟩, i2⟩ := ih.1 he
   cases i2 with
   | cons i2 _ =>
    obtain ⟨b1, w, b2, b3, b4⟩ := Tm.is_eq.1 i1
    rw [List.append_assoc] at b2 b4
    refine ⟨⟨by rw [show ([b].getD 0 noTm) = b from rfl, b1]; rfl, w, b2, b3, b4⟩, ?_⟩
    rw [Rw.laes, Rw.laes]
    show Conv (.lam t (Rw.lae c m (x ++ [t]) a)) (Tm.mk (t :: b.binds) b.kind b.index b.args).la
    rw [Tm.la, lams_cons]
    refine .lam (i2.trans (.of_eq ?_))
    rw [Tm.la_eq, Tm.las_eq]
  rw [if_neg h3] at hty ⊢
  rw [if_neg h3]
  by_cases h4 : k = 4
  ·rw [if_pos h4] at hty ⊢
   rw [if_pos h4]
   obtain ⟨v, hl⟩ := hty
   obtain ⟨f, a, rfl, hf, ha⟩ := typLS_two hl
   have ih := longs_is hS [f, a] st x [.mk (v :: u.args) u.base, v] hk3 hst (fun r hr => by have := hdk r hr; omega) hl
   have hform := long_formsS hS [f, a] st x [.mk (v :: u.args) u.base, v] hl hk3
   have hto := Rw.longs_to c m [f, a] st x
   unfold appL
   have e : ∃ p q, (Rw.longs c m st x [f, a]).2 = [p, q] := ⟨_, _, by rw [Rw.longs, Rw.longs, Rw.longs]⟩
   obtain ⟨p, b, e⟩ := e
   generalize Rw.longs c m st x [f, a] = q at ih e hform hto ⊢
   obtain ⟨qm, ql⟩ := q
   simp only at e
   subst e
   split
   ·rename_i h; exact ⟨fun he => (h he).elim, ih.2⟩
   rename_i h
   have h : qm.err = 0 := by simpa using h
   obtain ⟨⟨i1, i2, _⟩, i3⟩ := ih.1 h
   obtain ⟨j1, ⟨j2, j3, _⟩, _⟩ := hform h
   have hmost := hto.most hst
   simp only [Tm.nodess] at j1 hmost j2 j3
   have hmul : S * 100001 ≤ 1000000 * 100001 := Nat.mul_le_mul_right _ (by omega)
   have hput := put_is (B := S) (by omega) (c := c) (m := m) (f := 100001) (mt := qm) (t := p) (us := [b]) (z := x) (of := .mk (v :: u.args) u.base) hmost j2 ⟨j3, True.intro⟩ (fun t ht => by rw [List.mem_singleton.1 ht]; omega) i1 (by show 1 ≤ (v :: u.args).length; simp) ⟨i2, True.intro⟩ (by omega)
   refine ⟨fun he => ?_, fun he => ?_⟩
   ·have hconv := put_conv (B := S) (by omega) (f := 100001) (m := qm) (t := p) (us := [b]) (G := x.length) hmost j2 ⟨j3, True.intro⟩ (fun t ht => by rw [List.mem_singleton.1 ht]; omega) (is_sc _ _ _ i1) ⟨is_sc _ _ _ i2, True.intro⟩ (by omega) he
    refine ⟨?_, ?_⟩
    ·have := hput.1 he
     rw [show (Ty.mk (v :: u.args) u.base).args.drop [b].length = u.args from rfl, show (Ty.mk (v :: u.args) u.base).base = u.base from rfl, Ty.eta] at this
     exact this
    ·rw [Rw.laes, Rw.laes, Rw.laes]
     cases i3 with
     | cons c1 i3 =>
      cases i3 with
      | cons c2 _ => exact (Conv.app c1 c2).trans hconv.1
   ·have := hput.2 he
    rw [h] at this; cases this
  rw [if_neg h4] at hty ⊢
  rw [if_neg h4]
  obtain ⟨hh, rfl⟩ := hty
  have hxl : x.length ≤ 1000000 := by omega
  unfold headL
  rw [hh]
  simp only [Option.getD_some]
  have hu := Mt.units_ok u.size st
  split
  ·rename_i h5
   exact ⟨fun he => (by rw [hu.1.2 he] at h5; cases h5), fun he => units_err _ he⟩
  ·refine ⟨fun _ => ⟨etaT_is u x k i hh (by omega), ?_⟩, fun he => units_err _ he⟩
   refine .of_eq (etaT_la u k i (fun hk => ?_) (by omega)).symm
   subst hk
   have := headTy_var hh
   omega
theorem longs_is {S : Nat} {c m : List Ty} (hS : S ≤ 1000) : ∀ (l : List Rw) (st : Mt) (x us : List Ty), Rw.Oks l → st.count ≤ 100000 → (∀ r ∈ l, x.length + r.depth ≤ 1000000) → Rw.TypLS S c m x l us →
  ((Rw.longs c m st x l).1.err = 0 → Tm.IsL c m x (Rw.longs c m st x l).2 us ∧ ConvL (Rw.laes c m x l) (Tm.las (Rw.longs c m st x l).2)) ∧ ((Rw.longs c m st x l).1.err = 1 → st.err = 1)
 | [], st, x, [], _, _, _, _ => ⟨fun _ => ⟨True.intro, .nil⟩, fun he => he⟩
 | r :: l, st, x, u :: us, hk, hst, hxr, hty => by
  rw [Rw.longs, Rw.laes]
  simp only
  have h1 := long_is hS r st x u hk.1 hst (hxr r List.mem_cons_self) hty.1
  have h2 := longs_is hS l _ x us hk.2 ((Rw.long_to c m r st x).most hst) (fun r hr => hxr r (List.mem_cons_of_mem _ hr)) hty.2
  refine ⟨fun he => ?_, fun he => h1.2 (h2.2 he)⟩
  obtain ⟨a1, a2⟩ := h1.1 ((Rw.longs_to c m l _ x).ok he)
  obtain ⟨b1, b2⟩ := h2.1 he
  exact ⟨⟨a1, b1⟩, .cons a2 b2⟩
 | [], _, _, _ :: _, _, _, _, h => h.elim
 | _ :: _, _, _, [], _, _, _, h => h.elim
end
theorem lae_bind (c m : List Ty) : ∀ (bs x : List Ty) (r : Rw), Rw.lae c m x (r.bind bs) = lams bs (Rw.lae c m (x ++ bs) r)
 | [], x, r => by rw [List.append_nil]; rfl
 | t :: bs, x, r => by
  show Rw.lae c m x (.mk 3 t 0 [r.bind bs]) = _
  rw [Rw.lae, if_pos rfl, Rw.laes, Rw.laes, lams_cons]
  show La.lam t (Rw.lae c m (x ++ [t]) (r.bind bs)) = _
  rw [lae_bind c m bs (x ++ [t]) r, List.append_assoc]; rfl
theorem lae_call (c m x : List Ty) : ∀ (l : List Rw) (r : Rw), Rw.lae c m x (r.call l) = apps (Rw.lae c m x r) (Rw.laes c m x l)
 | [], r => by rw [Rw.laes]; rfl
 | a :: l, r => by
  show Rw.lae c m x ((Rw.mk 4 noT 0 [r, a]).call l) = _
  rw [lae_call c m x l, Rw.lae, if_neg (by decide), if_pos rfl, Rw.laes, Rw.laes, Rw.laes, Rw.laes, apps_cons]; rfl
mutual
theorem raw_lae {c m : List Ty} : ∀ (t : Tm) (x : List Ty) (of : Ty), t.Is c m x of → Conv (Rw.lae c m x t.raw) t.la
 | .mk bs k i l, x, of, h => by
  obtain ⟨h1, u, h2, h3, h4⟩ := h
  rw [Tm.raw, lae_bind, lae_call, Tm.la]
  refine Conv.lams ?_ bs
  have hk := headTy_kind h2
  have hh : Rw.lae c m (x ++ bs) (headRw k i) = etaL u (hdL k i) := by
   rw [Rw.lae, if_neg (by omega), if_neg (by omega), h2]; rfl
  rw [hh]
  exact (Conv.apps (raws_lae l (x ++ bs) u.args h4) (.refl _)).trans (eta_apps _ h4)
theorem raws_lae {c m : List Ty} : ∀ (l : List Tm) (x us : List Ty), Tm.IsL c m x l us → ConvL (Rw.laes c m x (Tm.raws l)) (Tm.las l)
 | [], x, us, _ => by rw [Tm.raws, Rw.laes]; exact .nil
 | t :: l, x, u :: us, h => by
  rw [Tm.raws, Rw.laes, Tm.las]
  exact .cons (raw_lae t x u h.1) (raws_lae l x us h.2)
 | _ :: _, _, [], h => h.elim
end
end Go.Proofs.YtghlgbhldnkdmaaGreat

namespace Go.Proofs.YtghlgbhldnkdmaaGreat
open Go
set_option linter.unusedSimpArgs false
set_option linter.unusedVariables false
structure LongOk (b : Int) (c m x : List Ty) (r : Rw) (t : Tm) (u : Ty) : Prop where
 ctx : rightCtx b c m x = true
 inf : r.inf b c m x = (u, 0)
 rgt : r.rightB = true
 typ : Rw.TypS 1000 c m x r u
 is : t.Is c m x u
 conv : Conv (Rw.lae c m x r) t.la
 right : trest 0 (t.pre 0 1) = true
theorem longR_ok {b : Int} {c m x : List Ty} {r : Rw} {left : Nat} (hin : NormOk c m x r) (he : (longR b c m x r left).1.err = 0) : (∃ u, LongOk b c m x r (longR b c m x r left).2 u) ∧ (Rw.long c m ⟨left, 0, 0⟩ x r).1.err = 0 := by
 unfold longR at he ⊢
 split at he
 ·simp at he
 rename_i h1
 rw [if_neg h1]
 have h1 : rightCtx b c m x = true := by simpa using h1
 split at he
 ·rename_i h2; exact (h2 he).elim
 rename_i h2
 rw [if_neg h2]
 have h2 : (r.inf b c m x).2 = 0 := by simpa using h2
 have hrb : r.rightB = true := by
  cases hrb : r.rightB with
  | true => rfl
  | false => rw [Rw.inf, hrb] at h2; simp at h2
 have hsh : r.shaped = true := by rw [Rw.rightB, Bool.and_eq_true] at hrb; exact hrb.1
 have hif : r.inf b c m x = r.infer b c m x := by rw [Rw.inf, if_pos hrb]
 have hdep : r.depth ≤ 60 := by
  have h := hrb
  rw [Rw.rightB, Bool.and_eq_true, Bool.and_eq_true, decide_eq_true_eq, decide_eq_true_eq] at h; exact h.2.2
 have hty : Rw.TypS 1000 c m x r (r.infer b c m x).1 := infer_typS b c m r x _ hsh (by rw [hif] at h2; rw [← h2])
 unfold doneT at he ⊢
 split at he
 ·rename_i h3; exact (h3 he).elim
 rename_i h3
 have h3 : (Rw.long c m ⟨left, 0, 0⟩ x r).1.err = 0 := by simpa using h3
 rw [if_neg (by simp [h3])]
 split at he
 ·rename_i h4
  rw [if_pos h4]
  obtain ⟨a1, a2⟩ := (long_is (Nat.le_refl _) r ⟨left, 0, 0⟩ x _ hin.ok (by simp) (by have := hin.xl; omega) hty).1 h3
  exact ⟨⟨_, h1, by rw [hif]; rw [hif] at h2; rw [← h2], hrb, hty, a1, a2, h4⟩, h3⟩
 ·simp at he
end Go.Proofs.YtghlgbhldnkdmaaGreat

namespace Go.Proofs.YtghlgbhldnkdmaaGreat
open Go
set_option linter.unusedSimpArgs false
set_option linter.unusedVariables false
mutual
theorem Tm.pre_len : ∀ (t : Tm) (a d : Nat), (t.pre a d).length = t.nodes
 | .mk _ _ _ l, a, d => by rw [Tm.pre, List.length_cons, Tm.nodes, Tm.pres_len l]; omega
theorem Tm.pres_len : ∀ (l : List Tm) (a d : Nat), (Tm.pres a d l).length = Tm.nodess l
 | [], a, d => by simp [Tm.pres, Tm.nodess]
 | t :: l, a, d => by rw [Tm.pres, List.length_append, Tm.nodess, Tm.pre_len t, Tm.pres_len l]
end
end Go.Proofs.YtghlgbhldnkdmaaGreat

namespace Go.Proofs.YtghlgbhldnkdmaaGreat
open Go
set_option linter.unusedSimpArgs false
set_option linter.unusedVariables false
theorem tsz_calls {t : Tm} (h : t.size ≤ 500000000) : PureIs Tryz.prog 42 [.agg [.sl (t.binds.map Ty.enc), nI t.kind, nI t.index, .sl (t.args.map Tm.enc)]] (nI (t.nodes : Nat)) := by
 have hn := Tm.nodes_le t
 refine vc42_ok ⟨teach_calls t, ?_⟩
 refine RangeP.intro2 (fun n : Nat => ((t.binds.map Ty.enc, t.kind, t.index, t.args.map Tm.enc, ()), ((n : Int), ()), ())) encQE (t.pre 0 1) (teach_seq h) (fun r n => n + r.length = t.nodes) 0 rfl (by rw [Tm.pre_len, Nat.zero_add]) (fun p r n hI again hag => ?_) fun n hI => ?_
 ·simp only [List.length_cons] at hI
  dsimp only [encQE]
  rw [wrap_n (by omega)]
  exact hag (n + 1) (by omega)
 ·simp only [List.length_nil, Nat.add_zero] at hI
  rw [hI]
theorem tequal_calls : ∀ (n : Nat) (t u : Tm), t.size ≤ n → n ≤ 500000000 → PureIs Tryz.prog 37 [.agg [.sl (t.binds.map Ty.enc), nI t.kind, nI t.index, .sl (t.args.map Tm.enc)], .agg [.sl (u.binds.map Ty.enc), nI u.kind, nI u.index, .sl (u.args.map Tm.enc)]] (nB (Tm.same t u)) := by
 intro n
 induction n with
 | zero => intro t u h; have := t.size_pos; omega
 | succ n ih =>
  intro t u h hn
  have hq := Tm.sizes_len t.args
  have hts := t.size_eq
  have hb := equals_calls (l := t.binds) (m := u.binds) (by have := Ty.sizes_len t.binds; omega) fun k h1 h2 => equal_calls _ t.binds[k] u.binds[k] (Nat.le_refl _) (by have := Ty.sizes_mem (List.getElem_mem h1); omega)
  rw [Tm.same_eq]
  have hargs : PureIs Tryz.prog 91 [.sl (t.args.map Tm.enc), .sl (u.args.map Tm.enc), .clo 37 []] (nB (Tm.sames t.args u.args)) := by
   refine vc91_ok (ITE.intro (fun h => ?_) fun h => ?_)
   ·rw [Tm.sames_len (by simp at h; omega)]
   ·have hlm : t.args.length = u.args.length := by simp at h; omega
    refine LoopP.intro (fun k : Nat => ((u.args.map Tm.enc, (), t.args.map Tm.enc, (t.args.length : Int), (k : Int), ()), ())) (fun k => k ≤ t.args.length ∧ Tm.sames t.args u.args = Tm.sames (t.args.drop k) (u.args.drop k)) (fun k => t.args.length - k) 0 (by rw [List.length_map]; rfl) ⟨Nat.zero_le _, rfl⟩ ?_
    intro k ⟨hk, hs⟩ again hag
    dsimp only
    refine ITE.intro (fun h => ?_) fun h => ?_
    ·have hlt : k < t.args.length := by simpa using h
     rw [Tm.sames_drop hlt (by omega)] at hs
     have hi := ih t.args[k] (u.args[k]'(by omega)) (by have := Tm.arg_size hlt; omega) (by omega)
     refine ⟨by omega, by rw [List.length_map]; omega, _, _, _, _, Tm.enc_getD hlt, by omega, by rw [List.length_map]; omega, _, _, _, _, Tm.enc_getD (by omega), _, hi, ITE.intro (fun h => ?_) fun h => ?_⟩
     ·have : Tm.same t.args[k] u.args[k] = false := by simpa using h
      rw [hs, this, Bool.false_and]
     ·have he : Tm.same t.args[k] u.args[k] = true := by simpa using h
      rw [he, Bool.true_and] at hs
      rw [wrap_n (by omega)]
      exact hag (k + 1) ⟨by omega, hs⟩ (by omega)
    ·have : t.args.length ≤ k := by simpa using h
     rw [List.drop_eq_nil_of_le this, List.drop_eq_nil_of_le (by omega)] at hs
     rw [hs]; rfl
  refine vc37_ok (ITE.intro (fun h => ⟨_, hb, ITE.intro (fun h2 => ⟨_, hargs, ?_⟩) fun h2 => ?_⟩) fun h => ?_)
  ·rw [h, h2, Bool.true_and, Bool.true_and]
  ·rw [h, h2, Bool.true_and, Bool.false_and]
  ·rw [h, Bool.false_and]
def k8a : Ty := .mk [] 0
def k8f : Ty := .mk [k8a] 0
def k8x : Rw := headRw 0 0
def k8s : Rw := headRw 1 0
def k8two : Rw := ((headRw 0 1).call [(headRw 0 1).call [k8x]]).bind [k8f, k8a]
def k8u : Rw := (k8s.call [k8s.call [k8x]]).bind [k8a]
def k8t : Tm := .mk [k8a] 1 0 [.mk [] 1 0 [.mk [] 0 0 []]]
theorem k8_1 : longR 1 [k8f] [] [] (k8two.call [k8s]) 100000 = ((longR 1 [k8f] [] [] (k8two.call [k8s]) 100000).1, k8t) := by kernel_rfl
theorem k8_1e : (longR 1 [k8f] [] [] (k8two.call [k8s]) 100000).1.err = 0 := by kernel_rfl
theorem k8_2 : (longR 1 [k8f] [] [] k8u 100000).2 = k8t := by kernel_rfl
theorem k8_2e : (longR 1 [k8f] [] [] k8u 100000).1.err = 0 := by kernel_rfl
theorem k8_3 : costR (longR 1 [k8f] [] [] k8s 100000) = 2 := by kernel_rfl
theorem k8_3e : (longR 1 [k8f] [] [] k8s 100000).1.err = 0 := by kernel_rfl
theorem k8_in {r : Rw} (h : r.total ≤ 500) (hk : r.Ok) : NormOk [k8f] [] [] r :=
 ⟨by simp [k8f, k8a, Ty.size, Ty.sizes], by simp, by simp, by simp, by simp, by simp, by omega, hk⟩
theorem known08_calls : PureIs Tryz.prog 10 [] (nB true) := by
 have ha := kindOf_calls 0
 have hf := ofKind_calls (b := 0) (l := [k8a]) (by simp [k8a, Ty.size, Ty.sizes])
 have hc1 := call_calls (r := headRw 0 1) (l := [k8x]) (Rw.fit_of _ (by simp [Rw.total, Rw.totals, Ty.size, Ty.sizes])) (Rw.fits_of _ (by simp [k8x, Rw.total, Rw.totals, Ty.size, Ty.sizes])) (by simp)
 have hc2 := call_calls (r := headRw 0 1) (l := [(headRw 0 1).call [k8x]]) (Rw.fit_of _ (by simp [Rw.total, Rw.totals, Ty.size, Ty.sizes])) (Rw.fits_of _ (by simp [k8x, Rw.call, Rw.total, Rw.totals, Ty.size, Ty.sizes])) (by simp)
 have hb1 := bind_calls (r := (headRw 0 1).call [(headRw 0 1).call [k8x]]) (l := [k8f, k8a]) (Rw.fit_of _ (by simp [k8x, Rw.call, Rw.total, Rw.totals, Ty.size, Ty.sizes])) (by simp [k8f, k8a, Ty.size, Ty.sizes]) (by simp)
 have hc3 := call_calls (r := k8two) (l := [k8s]) (Rw.fit_of _ (by simp [k8two, k8x, k8f, k8a, Rw.bind, Rw.call, Rw.total, Rw.totals, Ty.size, Ty.sizes])) (Rw.fits_of _ (by simp [k8s, Rw.total, Rw.totals, Ty.size, Ty.sizes])) (by simp)
 have hc4 := call_calls (r := k8s) (l := [k8x]) (Rw.fit_of _ (by simp [k8s, Rw.total, Rw.totals, Ty.size, Ty.sizes])) (Rw.fits_of _ (by simp [k8x, Rw.total, Rw.totals, Ty.size, Ty.sizes])) (by simp)
 have hc5 := call_calls (r := k8s) (l := [k8s.call [k8x]]) (Rw.fit_of _ (by simp [k8s, Rw.total, Rw.totals, Ty.size, Ty.sizes])) (Rw.fits_of _ (by simp [k8s, k8x, Rw.call, Rw.total, Rw.totals, Ty.size, Ty.sizes])) (by simp)
 have hb2 := bind_calls (r := k8s.call [k8s.call [k8x]]) (l := [k8a]) (Rw.fit_of _ (by simp [k8s, k8x, Rw.call, Rw.total, Rw.totals, Ty.size, Ty.sizes])) (by simp [k8a, Ty.size, Ty.sizes]) (by simp)
 have o1 := nOf_calls (b := 1) (k8_in (r := k8two.call [k8s]) (by simp [k8two, k8s, k8x, k8f, k8a, Rw.bind, Rw.call, Rw.total, Rw.totals, Ty.size, Ty.sizes]) (by simp [k8two, k8s, k8x, k8f, k8a, Rw.bind, Rw.call, Rw.Ok, Rw.Oks, I64]))
 have o2 := nOf_calls (b := 1) (k8_in (r := k8u) (by simp [k8u, k8s, k8x, k8a, Rw.bind, Rw.call, Rw.total, Rw.totals, Ty.size, Ty.sizes]) (by simp [k8u, k8s, k8x, k8a, Rw.bind, Rw.call, Rw.Ok, Rw.Oks, I64]))
 have o3 := nCost_calls (b := 1) (k8_in (r := k8s) (by simp [k8s, Rw.total, Rw.totals, Ty.size, Ty.sizes]) (by simp [k8s, Rw.Ok, Rw.Oks, I64]))
 rw [k8_1e, k8_1] at o1
 rw [k8_2e, k8_2] at o2
 rw [k8_3e, k8_3] at o3
 have he := tequal_calls _ k8t k8t (Nat.le_refl _) (by simp [k8t, k8a, Tm.size, Tm.sizes, Ty.size, Ty.sizes])
 rw [Tm.same_self] at he
 have hs := tsz_calls (t := k8t) (by simp [k8t, k8a, Tm.size, Tm.sizes, Ty.size, Ty.sizes])
 exact vc10_ok ⟨_, _, ha, _, _, hf, _, _, _, _, _, Head_calls 0 0, _, _, _, _, _, Head_calls 0 1, _, _, _, _, _, Head_calls 0 1, _, _, _, _, _, hc1, _, _, _, _, _, hc2, _, _, _, _, _, hb1, _, _, _, _, _, Head_calls 1 0,
  _, _, _, _, _, hc3, _, _, _, _, _, o1, _, _, o3, _, _, _, _, _, hc4, _, _, _, _, _, hc5, _, _, _, _, _, hb2, _, _, _, _, _, o2, ITE.pos rfl (ITE.pos rfl ⟨_, he, ITE.pos rfl ⟨_, hs, ITE.pos rfl (ITE.pos rfl rfl)⟩⟩)⟩
end Go.Proofs.YtghlgbhldnkdmaaGreat

namespace Go.Proofs.YtghlgbhldnkdmaaGreat
open Go
set_option linter.unusedSimpArgs false
set_option linter.unusedVariables false
def putR (t : Tm) (us : List Tm) (left : Nat) : Mt × Tm := doneT (putT 100001 ⟨left, 0, 0⟩ t us)
theorem nPut_calls {B : Nat} (hB : B ≤ 1000) {t : Tm} {us : List Tm} {left : Nat} {l u d s y : Int} (ht : t.Lo B) (hu : Tm.Los B us) (hn : ∀ t ∈ us, t.nodes ≤ 1000000000) (hb : BudOk left l u d y) :
  HFn Tryz.prog 35 [.agg [.sl (t.binds.map Ty.enc), nI t.kind, nI t.index, .sl (t.args.map Tm.enc)], .ptr 0 0, .sl (us.map Tm.enc)] [.box (budC l u d 0 s y)] (FoundL (putR t us left)) := by
 have hmt : MtOk ⟨left, 0, 0⟩ l u d y 0 0 := ⟨hb, rfl, Nat.zero_le _, fun _ => rfl, fun h => by simp at h⟩
 have hp := putP (B := B) (by omega) 100001 ⟨left, 0, 0⟩ t us l u d s y 0 0 hmt (fun _ => by simp) ht (fun _ => ⟨hu, hn⟩) (by have : B * (100001 + 1) ≤ 1000 * 100002 := Nat.mul_le_mul_right _ hB; omega)
 have hform := putT_form (f := 100001) (m := ⟨left, 0, 0⟩) ht hu
 unfold putR
 generalize putT 100001 ⟨left, 0, 0⟩ t us = Q at hp hform
 refine vc35_ok ⟨_, hp, fun r1 q ⟨⟨l1, u1, d1, s1, y1, c1, e1', e2, hm1⟩, t1, e1, ht1, _⟩ => ⟨l1, u1, d1, 0, s1, y1, c1, e1', _, _, _, _, ⟨e1, e2⟩, ?_⟩⟩
 have hdone := ndone_calls (s := s1) hm1 ht1 (fun h0 => by
  have hf := hform h0
  have hn := hf.nodes
  have hmost := hm1.most
  have hs := Tm.lo_size hf.lo
  have : Q.2.nodes * (1 + B) ≤ 100000 * 1001 := Nat.mul_le_mul (by omega) (by omega)
  exact ⟨by omega, Tm.lo_ok hf.lo⟩)
 rw [show (Q.1, Q.2) = Q from rfl] at hdone
 exact ⟨_, hdone, fun r2 q ⟨⟨l2, u2, d2, s2, y2, c2, e2', e2, hm2⟩, e1⟩ => ⟨l2, u2, d2, 0, s2, y2, c2, e2', _, _, _, _, _, ⟨e1, e2⟩, l2, u2, d2, s2, y2, rfl, hm2.bud, hm2.fuel, rfl⟩⟩
theorem putR_ok {t : Tm} {us : List Tm} {left : Nat} (he : (putR t us left).1.err = 0) : (putT 100001 ⟨left, 0, 0⟩ t us).1.err = 0 ∧ (putR t us left).2 = (putT 100001 ⟨left, 0, 0⟩ t us).2 := by
 unfold putR doneT at he ⊢
 split at he
 ·rename_i h; exact (h he).elim
 rename_i h
 rw [if_neg h]
 split at he
 ·rename_i h2; rw [if_pos h2]; exact ⟨he, rfl⟩
 ·simp at he
theorem noTm_lo (B : Nat) : noTm.Lo B := ⟨⟨by simp [Ty.sizes], by simp⟩, ⟨⟨by decide, by decide⟩, by decide, by decide⟩, True.intro⟩
theorem putR_lo {B : Nat} {t : Tm} {us : List Tm} {left : Nat} (ht : t.Lo B) (hu : Tm.Los B us) : (putR t us left).2.Lo B ∧ (putR t us left).2.nodes ≤ 100000 := by
 by_cases he : (putR t us left).1.err = 0
 ·obtain ⟨h1, h2⟩ := putR_ok he
  have hf := putT_form ht hu h1
  have := (putT_to 100001 ⟨left, 0, 0⟩ t us).most (by simp)
  have hn := hf.nodes
  simp only at hn
  rw [h2]
  exact ⟨hf.lo, by omega⟩
 ·have : (putR t us left).2 = noTm := by
   unfold putR doneT at he ⊢
   split
   ·rfl
   rename_i h
   rw [if_neg h] at he
   split
   ·rename_i h2; rw [if_pos h2] at he; exact (h he).elim
   ·rfl
  rw [this]
  exact ⟨noTm_lo B, by simp [noTm, Tm.nodes, Tm.nodess]⟩
theorem putR_conv {B G : Nat} (hB : B ≤ 1000) {t : Tm} {us : List Tm} {left : Nat} (ht : t.Lo B) (hu : Tm.Los B us) (hn : ∀ t ∈ us, t.nodes ≤ 1000000000) (hst : t.Sc G) (hsu : Tm.Scs G us) (hG : G ≤ 1000000) (he : (putR t us left).1.err = 0) : Conv (apps t.la (Tm.las us)) (putR t us left).2.la ∧ (putR t us left).2.Sc G := by
 obtain ⟨h1, h2⟩ := putR_ok he
 rw [h2]
 exact put_conv (B := B) (by omega) (by simp) ht hu hn hst hsu (by have : B * 100001 ≤ 1000 * 100001 := Nat.mul_le_mul_right _ hB; omega) h1
def ckB (c m x : List Ty) (t : Tm) (of : Ty) : Bool := trest 0 (t.pre 0 1) && t.isB c m x of
def ckBs (c m x : List Ty) : List Tm → List Ty → Bool
 | t :: l, u :: us => ckB c m x t u && ckBs c m x l us
 | _, _ => true
def typedB (b : Int) (c m x : List Ty) (t : Tm) (us : List Tm) : Bool := decide ((t.typ c m x).2 = 0) && (rightCtx b c m x && (ckB c m x t (t.typ c m x).1 && (decide (us.length ≤ (t.typ c m x).1.args.length) && ckBs c m x us (t.typ c m x).1.args)))
theorem ck_val (c m x : List Ty) (t : Tm) (of : Ty) : (((if trest 0 (t.pre 0 1) = true then (if t.isB c m x of = true then 0 else 5) else 2) : Int) != 0) = !(ckB c m x t of) := by
 unfold ckB
 cases trest 0 (t.pre 0 1) <;> cases t.isB c m x of <;> rfl
theorem headTy_le {c m x : List Ty} {S : Nat} (hc : ∀ t ∈ c, t.size ≤ S) (hm : ∀ t ∈ m, t.size ≤ S) (hx : ∀ t ∈ x, t.size ≤ S) {t : Tm} (ht : t.size ≤ S) (hS : 1 ≤ S) : (t.typ c m x).1.size ≤ S := by
 have hts := t.size_eq
 unfold Tm.typ
 split
 ·rw [Ty.size]; omega
 ·simpa [Ty.size, Ty.sizes] using hS
theorem typed_calls {b : Int} {c m x : List Ty} {t : Tm} {us : List Tm} (hc : ∀ t ∈ c, t.size ≤ 1000) (hm : ∀ t ∈ m, t.size ≤ 1000) (hx : ∀ t ∈ x, t.size ≤ 1000) (hcl : c.length ≤ 100) (hml : m.length ≤ 100) (hxl : x.length ≤ 1000) (ht : t.Ok ∧ t.size ≤ 1000) (hu : ∀ u ∈ us, u.Ok ∧ u.size ≤ 1000) (hul : us.length ≤ 1000) :
  PureIs Tryz.prog 40 [.agg [nI b, .sl (c.map Ty.enc), .sl (m.map Ty.enc)], .sl (x.map Ty.enc), .agg [.sl (t.binds.map Ty.enc), nI t.kind, nI t.index, .sl (t.args.map Tm.enc)], .sl (us.map Tm.enc)] (nB (typedB b c m x t us)) := by
 have h1 := sizes_le_mul hc
 have h2 := sizes_le_mul hm
 have h3 := sizes_le_mul hx
 have h4 := Nat.mul_le_mul_right 1000 hcl
 have h5 := Nat.mul_le_mul_right 1000 hml
 have h6 := Nat.mul_le_mul_right 1000 hxl
 have hty := typeOf_calls (b := b) (c := c) (m := m) (x := x) ht.1 (by omega)
 have hsz := headTy_le (t := t) hc hm hx ht.2 (by omega)
 have hri := nright_calls (b := b) (c := c) (m := m) (x := x) (by omega) (by omega) (by rw [Ty.sizes_append]; omega) (by omega)
 unfold typedB
 generalize t.typ c m x = q at hty hsz
 have hq := q.1.size_eq
 have hck : ∀ (u : Tm) (of : Ty), u.Ok → u.size ≤ 1000 → of.size ≤ 1000 → PureIs Tryz.prog 32 _ _ := fun u of h1 h2 h3 => check_calls (b := b) (c := c) (m := m) (x := x) (t := u) (of := of) (fun t ht => by have := hc t ht; omega) (fun t ht => by have := hm t ht; omega) h1 (fun t ht => by have := hx t ht; omega) (by omega) (by omega)
 refine vc40_ok ⟨_, _, _, hty, ITE.intro (fun h => ?_) fun h => ?_⟩
 ·have : ¬ q.2 = 0 := by simpa using h
  rw [decide_eq_false this]; rfl
 have h0 : q.2 = 0 := by simpa using h
 rw [decide_eq_true h0, Bool.true_and]
 refine ⟨_, hri, ITE.intro (fun h => ?_) fun h => ?_⟩
 ·have : rightCtx b c m x = false := by simpa using h
  rw [this]; rfl
 have : rightCtx b c m x = true := by simpa using h
 rw [this, Bool.true_and]
 refine ⟨_, hck t q.1 ht.1 ht.2 hsz, ?_⟩
 rw [ck_val]
 refine ITE.intro (fun h => ?_) fun h => ?_
 ·have : ckB c m x t q.1 = false := by simpa using h
  rw [this]; rfl
 have : ckB c m x t q.1 = true := by simpa using h
 rw [this, Bool.true_and]
 rw [List.length_map, List.length_map]
 refine ITE.intro (fun h => ?_) fun h => ?_
 ·have : ¬ us.length ≤ q.1.args.length := by have := of_decide_eq_true h; omega
  rw [decide_eq_false this]; rfl
 have hle : us.length ≤ q.1.args.length := by have := of_decide_eq_false h; omega
 rw [decide_eq_true hle, Bool.true_and]
 refine LoopP.intro (fun k : Nat => ((x.map Ty.enc, (), (), us.map Tm.enc, (us.length : Int), (k : Int), ()), ((b, c.map Ty.enc, m.map Ty.enc, ()), (t.binds.map Ty.enc, t.kind, t.index, t.args.map Tm.enc, ()), (q.1.args.map Ty.enc, q.1.base, ()), ())))
  (fun k => k ≤ us.length ∧ ckBs c m x us q.1.args = ckBs c m x (us.drop k) (q.1.args.drop k)) (fun k => us.length - k) 0 rfl ⟨Nat.zero_le _, rfl⟩ ?_
 intro k ⟨hk, hs⟩ again hag
 dsimp only
 refine ITE.intro (fun h => ?_) fun h => ?_
 ·have hlt : k < us.length := by simpa using h
  have hlu : k < q.1.args.length := by omega
  rw [List.drop_eq_getElem_cons hlt, List.drop_eq_getElem_cons hlu, ckBs] at hs
  have hmem := hu _ (List.getElem_mem hlt)
  refine ⟨by omega, by rw [List.length_map]; omega, _, _, _, _, Tm.enc_getD hlt, by omega, by rw [List.length_map]; omega, _, _, Ty.enc_getD hlu, _, hck us[k] q.1.args[k] hmem.1 hmem.2 (by have := Ty.arg_size hlu; omega), ?_⟩
  rw [ck_val]
  refine ITE.intro (fun h => ?_) fun h => ?_
  ·have : ckB c m x us[k] q.1.args[k] = false := by simpa using h
   rw [hs, this]; rfl
  ·have : ckB c m x us[k] q.1.args[k] = true := by simpa using h
   rw [this, Bool.true_and] at hs
   rw [wrap_n (by omega)]
   exact hag (k + 1) ⟨by omega, hs⟩ (by omega)
 ·have : us.length ≤ k := by simpa using h
  rw [List.drop_eq_nil_of_le this] at hs
  rw [hs]
  cases q.1.args.drop k <;> rfl
theorem ckBs_is {c m x : List Ty} : ∀ {us : List Tm} {l : List Ty}, us.length ≤ l.length → ckBs c m x us l = true → Tm.IsL c m x us (l.take us.length)
 | [], l, _, _ => by rw [List.length_nil, List.take_zero]; exact True.intro
 | t :: us, [], h, _ => by simp at h
 | t :: us, u :: l, h, hk => by
  rw [ckBs, Bool.and_eq_true, ckB, Bool.and_eq_true] at hk
  rw [List.length_cons, List.take_succ_cons]
  exact ⟨(Tm.is_iff c m t x u).1 hk.1.2, ckBs_is (by simpa using h) hk.2⟩
theorem typedB_is {b : Int} {c m x : List Ty} {t : Tm} {us : List Tm} (h : typedB b c m x t us = true) : ∃ of : Ty, t.Is c m x of ∧ us.length ≤ of.args.length ∧ Tm.IsL c m x us (of.args.take us.length) := by
 unfold typedB ckB at h
 simp only [Bool.and_eq_true, decide_eq_true_eq] at h
 obtain ⟨_, _, ⟨_, h2⟩, h3, h4⟩ := h
 exact ⟨_, (Tm.is_iff c m t x _).1 h2, h3, ckBs_is h3 h4⟩
theorem raws_small : ∀ {us : List Tm}, (∀ u ∈ us, u.size ≤ 60) → Rw.totals (Tm.raws us) ≤ 240 * us.length
 | [], _ => by simp [Tm.raws, Rw.totals]
 | u :: us, h => by
  have h1 := u.raw_total
  have h2 := h u List.mem_cons_self
  have h3 := raws_small fun v hv => h v (List.mem_cons_of_mem u hv)
  rw [Tm.raws, Rw.totals, List.length_cons]; omega
structure Apps (b : Int) (c m x : List Ty) (t : Tm) (us : List Tm) : Prop where
 lo : t.Lo 60
 los : Tm.Los 60 us
 nd : ∀ t ∈ us, t.nodes ≤ 1000000000
 sc : t.Sc x.length
 scs : Tm.Scs x.length us
 xl : x.length ≤ 1000
 nok : NormOk c m x (t.raw.call (Tm.raws us))
 conv : Conv (Rw.lae c m x (t.raw.call (Tm.raws us))) (apps t.la (Tm.las us))
def AppsAt (x : List Ty) (t : Tm) (us : List Tm) (p : Nat × Tm × Bool) : Prop := p.1 ≤ us.length ∧ p.2.1.Lo 60 ∧ (p.2.2 = true → Conv (apps t.la (Tm.las (us.take p.1))) p.2.1.la ∧ p.2.1.Sc x.length)
def appsNext (us : List Tm) (k : Nat) (o : Tm) (h : k < us.length) : Mt × Tm := putR o [us[k]] 5000
theorem las_take_succ {us : List Tm} {k : Nat} (h : k < us.length) : Tm.las (us.take (k + 1)) = Tm.las (us.take k) ++ [us[k].la] := by
 rw [Tm.las_eq, Tm.las_eq, ← List.take_append_getElem h, List.map_append]; rfl
theorem apps_next {b : Int} {c m x : List Ty} {t : Tm} {us : List Tm} (ha : Apps b c m x t us) {k : Nat} {o : Tm} {ok : Bool} (hi : AppsAt x t us (k, o, ok)) (h : k < us.length) (g : Bool) (hg : g = true → ok = true ∧ (appsNext us k o h).1.err = 0) : AppsAt x t us (k + 1, (appsNext us k o h).2, g) := by
 obtain ⟨h1, h2, h3⟩ := hi
 have hmem := List.getElem_mem h
 have hl : Tm.Los 60 [us[k]] := ⟨Tm.los_iff.1 ha.los _ hmem, True.intro⟩
 have hlo := putR_lo (left := 5000) h2 hl
 refine ⟨h, hlo.1, fun h4 => ?_⟩
 obtain ⟨h5, h6⟩ := hg h4
 obtain ⟨h7, h8⟩ := h3 h5
 have hc := putR_conv (G := x.length) (by omega) h2 hl (fun v hv => by rw [List.mem_singleton.1 hv]; exact ha.nd _ hmem) h8 ⟨Tm.scs_iff.1 ha.scs _ hmem, True.intro⟩ (by have := ha.xl; omega) h6
 refine ⟨?_, hc.2⟩
 show Conv (apps t.la (Tm.las (us.take (k + 1)))) _
 rw [las_take_succ h, apps_snoc]
 exact (Conv.app h7 (.refl _)).trans hc.1
theorem apps_loop0 {b : Int} {c m x : List Ty} {t : Tm} {us : List Tm} (ha : Apps b c m x t us) {Y Z : Mt × Tm} (hul : us.length ≤ 4) (hY : Y.2.size ≤ 500000000) (hyz : Y.1.err = 0 → Z.1.err = 0 → Z.2 = Y.2) (hyo : Y.1.err = 0 → ∀ o : Tm, Conv (apps t.la (Tm.las us)) o.la → o.Sc x.length → o = Y.2) {bl bu bd bs by_ : Int} :
  vc6_L21 (((), (), Y.1.err, (), Z.1.err, (), true, 0, ()), ((b, c.map Ty.enc, m.map Ty.enc, ()), (t.binds.map Ty.enc, t.kind, t.index, t.args.map Tm.enc, ()), (b, c.map Ty.enc, m.map Ty.enc, ()), (t.binds.map Ty.enc, t.kind, t.index, t.args.map Tm.enc, ()), us.map Tm.enc, (Tm.raws us).map Rw.enc, (bl, bu, bd, 0, bs, by_, ()), (Y.2.binds.map Ty.enc, Y.2.kind, Y.2.index, Y.2.args.map Tm.enc, ()), (Z.2.binds.map Ty.enc, Z.2.kind, Z.2.index, Z.2.args.map Tm.enc, ()), (t.binds.map Ty.enc, t.kind, t.index, t.args.map Tm.enc, ()), ())) (fun a => a = nB true) := by
 have heq := tequal_calls _ Y.2 Y.2 (Nat.le_refl _) hY
 rw [Tm.same_self] at heq
 refine LoopP.intro (fun p : Nat × Tm × Bool => (((), (), Y.1.err, (), Z.1.err, (), p.2.2, (p.1 : Int), ()), ((b, c.map Ty.enc, m.map Ty.enc, ()), (t.binds.map Ty.enc, t.kind, t.index, t.args.map Tm.enc, ()), (b, c.map Ty.enc, m.map Ty.enc, ()), (t.binds.map Ty.enc, t.kind, t.index, t.args.map Tm.enc, ()), us.map Tm.enc, (Tm.raws us).map Rw.enc, (bl, bu, bd, 0, bs, by_, ()), (Y.2.binds.map Ty.enc, Y.2.kind, Y.2.index, Y.2.args.map Tm.enc, ()), (Z.2.binds.map Ty.enc, Z.2.kind, Z.2.index, Z.2.args.map Tm.enc, ()), (p.2.1.binds.map Ty.enc, p.2.1.kind, p.2.1.index, p.2.1.args.map Tm.enc, ()), ())))
  (AppsAt x t us) (fun p => us.length - p.1) (0, t, true) rfl ⟨Nat.zero_le _, ha.lo, fun _ => ⟨by rw [List.take_zero]; exact .refl _, ha.sc⟩⟩ ?_
 intro ⟨k, o, ok⟩ hI again hag
 dsimp only at hag ⊢
 have hk := hI.1
 simp only at hk
 rw [List.length_map]
 refine ⟨rfl, ITE.intro (fun h => ?_) fun h => ?_⟩
 ·have hlt : k < us.length := by simpa using h
  have hmem := List.getElem_mem hlt
  have hone : AV.clip [.agg [.sl (us[k].binds.map Ty.enc), nI us[k].kind, nI us[k].index, .sl (us[k].args.map Tm.enc)]] = .clip ([us[k]].map Tm.enc) := by rw [List.map_cons, List.map_nil, Tm.enc_eq]
  have hput : ∀ {l u d s y : Int}, BudOk 5000 l u d y → HFn Tryz.prog 35 [.agg [.sl (o.binds.map Ty.enc), nI o.kind, nI o.index, .sl (o.args.map Tm.enc)], .ptr 0 0, .clip [.agg [.sl (us[k].binds.map Ty.enc), nI us[k].kind, nI us[k].index, .sl (us[k].args.map Tm.enc)]]] [.box (budC l u d 0 s y)] (FoundL (appsNext us k o hlt)) :=
   fun hb => HFn.args (by rw [hone]; exact ⟨RepW.refl _, RepW.refl _, repw_clip _, True.intro⟩) (nPut_calls (B := 60) (by omega) hI.2.1 ⟨Tm.los_iff.1 ha.los _ hmem, True.intro⟩ (fun v hv => by rw [List.mem_singleton.1 hv]; exact ha.nd _ hmem) hb)
  have hnx := fun g hg => hag (k + 1, (appsNext us k o hlt).2, g) (apps_next ha hI hlt g hg) (by simp only; omega)
  generalize hP : appsNext us k o hlt = P at hput hnx
  have e1 : IntKind.wrap .i64 ((k : Int) + 1) = ((k + 1 : Nat) : Int) := wrap_n (by omega)
  refine ⟨rfl, by omega, by omega, _, _, _, _, Tm.enc_getD hlt, ?_⟩
  constructor
  ·refine ⟨_, bud_fresh (n := 5000) (by omega), fun r q ⟨g1, g2⟩ => ⟨_, _, _, _, _, _, ⟨g1, g2⟩, ?_⟩⟩
   constructor <;> exact ⟨_, hput (budOk_fresh (by omega)), fun r q ⟨l1, u1, d1, s1, y1, g2, _, _, g1⟩ => ⟨l1, u1, d1, 0, s1, y1, _, _, _, _, _, ⟨g1, g2⟩, ITE.intro (fun h => ⟨rfl, by rw [e1]; exact hnx (P.1.err == 0) fun h2 => ⟨h, by simpa using h2⟩⟩) fun h => ⟨rfl, by rw [e1]; exact hnx false fun h2 => by cases h2⟩⟩⟩
  ·exact ⟨_, bud_fresh (n := 5000) (by omega), fun r q ⟨g1, g2⟩ => ⟨_, _, _, _, _, _, ⟨g1, g2⟩, _, hput (budOk_fresh (by omega)), fun r q ⟨l1, u1, d1, s1, y1, g2, _, _, g1⟩ => ⟨l1, u1, d1, 0, s1, y1, _, _, _, _, _, ⟨g1, g2⟩, ITE.intro (fun h => ⟨rfl, by rw [e1]; exact hnx (P.1.err == 0) fun h2 => ⟨h, by simpa using h2⟩⟩) fun h => ⟨rfl, by rw [e1]; exact hnx false fun h2 => by cases h2⟩⟩⟩⟩
 ·have hge : us.length ≤ k := by simpa using h
  have hk2 : k = us.length := by omega
  subst hk2
  have ho : Y.1.err = 0 → ok = true → o = Y.2 := fun h1 h2 => by
   obtain ⟨h3, h4⟩ := hI.2.2 h2
   rw [List.take_length] at h3
   exact hyo h1 o h3 h4
  have kn : ∃ b, PureIs Tryz.prog 10 [] (nB b) ∧ nB b = nB true := ⟨_, known08_calls, rfl⟩
  have last : ITE (Y.1.err == 0) (ITE ok (∃ b, PureIs Tryz.prog 37 [.agg [.sl (Y.2.binds.map Ty.enc), nI Y.2.kind, nI Y.2.index, .sl (Y.2.args.map Tm.enc)], .agg [.sl (o.binds.map Ty.enc), nI o.kind, nI o.index, .sl (o.args.map Tm.enc)]] (nB b) ∧ ITE (!b) (nB false = nB true) (∃ b, PureIs Tryz.prog 10 [] (nB b) ∧ nB b = nB true)) (∃ b, PureIs Tryz.prog 10 [] (nB b) ∧ nB b = nB true)) (∃ b, PureIs Tryz.prog 10 [] (nB b) ∧ nB b = nB true) :=
   ITE.intro (fun h1 => ITE.intro (fun h2 => by
    rw [ho (by simpa using h1) h2]
    exact ⟨_, heq, ITE.neg rfl kn⟩) fun _ => kn) fun _ => kn
  refine ITE.intro (fun h1 => ITE.intro (fun h2 => ?_) fun h2 => last) fun h1 => last
  rw [hyz (by simpa using h1) (by simpa using h2)]
  exact ⟨_, heq, ITE.neg rfl last⟩
theorem apps_loop1 {b : Int} {c m x : List Ty} {t : Tm} {us : List Tm} (ha : Apps b c m x t us) {Y Z : Mt × Tm} (hul : us.length ≤ 4) (hY : Y.2.size ≤ 500000000) (hyz : Y.1.err = 0 → Z.1.err = 0 → Z.2 = Y.2) (hyo : Y.1.err = 0 → ∀ o : Tm, Conv (apps t.la (Tm.las us)) o.la → o.Sc x.length → o = Y.2) {bl bu bd bs by_ : Int} :
  vc6_L21' (((), (), Y.1.err, (), Z.1.err, (), true, 0, ()), ((b, c.map Ty.enc, m.map Ty.enc, ()), (t.binds.map Ty.enc, t.kind, t.index, t.args.map Tm.enc, ()), (b, c.map Ty.enc, m.map Ty.enc, ()), (t.binds.map Ty.enc, t.kind, t.index, t.args.map Tm.enc, ()), us.map Tm.enc, (Tm.raws us).map Rw.enc, (Y.2.binds.map Ty.enc, Y.2.kind, Y.2.index, Y.2.args.map Tm.enc, ()), (bl, bu, bd, 0, bs, by_, ()), (Z.2.binds.map Ty.enc, Z.2.kind, Z.2.index, Z.2.args.map Tm.enc, ()), (t.binds.map Ty.enc, t.kind, t.index, t.args.map Tm.enc, ()), ())) (fun a => a = nB true) := by
 have heq := tequal_calls _ Y.2 Y.2 (Nat.le_refl _) hY
 rw [Tm.same_self] at heq
 refine LoopP.intro (fun p : Nat × Tm × Bool => (((), (), Y.1.err, (), Z.1.err, (), p.2.2, (p.1 : Int), ()), ((b, c.map Ty.enc, m.map Ty.enc, ()), (t.binds.map Ty.enc, t.kind, t.index, t.args.map Tm.enc, ()), (b, c.map Ty.enc, m.map Ty.enc, ()), (t.binds.map Ty.enc, t.kind, t.index, t.args.map Tm.enc, ()), us.map Tm.enc, (Tm.raws us).map Rw.enc, (Y.2.binds.map Ty.enc, Y.2.kind, Y.2.index, Y.2.args.map Tm.enc, ()), (bl, bu, bd, 0, bs, by_, ()), (Z.2.binds.map Ty.enc, Z.2.kind, Z.2.index, Z.2.args.map Tm.enc, ()), (p.2.1.binds.map Ty.enc, p.2.1.kind, p.2.1.index, p.2.1.args.map Tm.enc, ()), ())))
  (AppsAt x t us) (fun p => us.length - p.1) (0, t, true) rfl ⟨Nat.zero_le _, ha.lo, fun _ => ⟨by rw [List.take_zero]; exact .refl _, ha.sc⟩⟩ ?_
 intro ⟨k, o, ok⟩ hI again hag
 dsimp only at hag ⊢
 have hk := hI.1
 simp only at hk
 rw [List.length_map]
 refine ⟨rfl, ITE.intro (fun h => ?_) fun h => ?_⟩
 ·have hlt : k < us.length := by simpa using h
  have hmem := List.getElem_mem hlt
  have hone : AV.clip [.agg [.sl (us[k].binds.map Ty.enc), nI us[k].kind, nI us[k].index, .sl (us[k].args.map Tm.enc)]] = .clip ([us[k]].map Tm.enc) := by rw [List.map_cons, List.map_nil, Tm.enc_eq]
  have hput : ∀ {l u d s y : Int}, BudOk 5000 l u d y → HFn Tryz.prog 35 [.agg [.sl (o.binds.map Ty.enc), nI o.kind, nI o.index, .sl (o.args.map Tm.enc)], .ptr 0 0, .clip [.agg [.sl (us[k].binds.map Ty.enc), nI us[k].kind, nI us[k].index, .sl (us[k].args.map Tm.enc)]]] [.box (budC l u d 0 s y)] (FoundL (appsNext us k o hlt)) :=
   fun hb => HFn.args (by rw [hone]; exact ⟨RepW.refl _, RepW.refl _, repw_clip _, True.intro⟩) (nPut_calls (B := 60) (by omega) hI.2.1 ⟨Tm.los_iff.1 ha.los _ hmem, True.intro⟩ (fun v hv => by rw [List.mem_singleton.1 hv]; exact ha.nd _ hmem) hb)
  have hnx := fun g hg => hag (k + 1, (appsNext us k o hlt).2, g) (apps_next ha hI hlt g hg) (by simp only; omega)
  generalize hP : appsNext us k o hlt = P at hput hnx
  have e1 : IntKind.wrap .i64 ((k : Int) + 1) = ((k + 1 : Nat) : Int) := wrap_n (by omega)
  refine ⟨rfl, by omega, by omega, _, _, _, _, Tm.enc_getD hlt, ?_⟩
  constructor
  ·refine ⟨_, bud_fresh (n := 5000) (by omega), fun r q ⟨g1, g2⟩ => ⟨_, _, _, _, _, _, ⟨g1, g2⟩, ?_⟩⟩
   constructor <;> exact ⟨_, hput (budOk_fresh (by omega)), fun r q ⟨l1, u1, d1, s1, y1, g2, _, _, g1⟩ => ⟨l1, u1, d1, 0, s1, y1, _, _, _, _, _, ⟨g1, g2⟩, ITE.intro (fun h => ⟨rfl, by rw [e1]; exact hnx (P.1.err == 0) fun h2 => ⟨h, by simpa using h2⟩⟩) fun h => ⟨rfl, by rw [e1]; exact hnx false fun h2 => by cases h2⟩⟩⟩
  ·exact ⟨_, bud_fresh (n := 5000) (by omega), fun r q ⟨g1, g2⟩ => ⟨_, _, _, _, _, _, ⟨g1, g2⟩, _, hput (budOk_fresh (by omega)), fun r q ⟨l1, u1, d1, s1, y1, g2, _, _, g1⟩ => ⟨l1, u1, d1, 0, s1, y1, _, _, _, _, _, ⟨g1, g2⟩, ITE.intro (fun h => ⟨rfl, by rw [e1]; exact hnx (P.1.err == 0) fun h2 => ⟨h, by simpa using h2⟩⟩) fun h => ⟨rfl, by rw [e1]; exact hnx false fun h2 => by cases h2⟩⟩⟩⟩
 ·have hge : us.length ≤ k := by simpa using h
  have hk2 : k = us.length := by omega
  subst hk2
  have ho : Y.1.err = 0 → ok = true → o = Y.2 := fun h1 h2 => by
   obtain ⟨h3, h4⟩ := hI.2.2 h2
   rw [List.take_length] at h3
   exact hyo h1 o h3 h4
  have kn : ∃ b, PureIs Tryz.prog 10 [] (nB b) ∧ nB b = nB true := ⟨_, known08_calls, rfl⟩
  have last : ITE (Y.1.err == 0) (ITE ok (∃ b, PureIs Tryz.prog 37 [.agg [.sl (Y.2.binds.map Ty.enc), nI Y.2.kind, nI Y.2.index, .sl (Y.2.args.map Tm.enc)], .agg [.sl (o.binds.map Ty.enc), nI o.kind, nI o.index, .sl (o.args.map Tm.enc)]] (nB b) ∧ ITE (!b) (nB false = nB true) (∃ b, PureIs Tryz.prog 10 [] (nB b) ∧ nB b = nB true)) (∃ b, PureIs Tryz.prog 10 [] (nB b) ∧ nB b = nB true)) (∃ b, PureIs Tryz.prog 10 [] (nB b) ∧ nB b = nB true) :=
   ITE.intro (fun h1 => ITE.intro (fun h2 => by
    rw [ho (by simpa using h1) h2]
    exact ⟨_, heq, ITE.neg rfl kn⟩) fun _ => kn) fun _ => kn
  refine ITE.intro (fun h1 => ITE.intro (fun h2 => ?_) fun h2 => last) fun h1 => last
  rw [hyz (by simpa using h1) (by simpa using h2)]
  exact ⟨_, heq, ITE.neg rfl last⟩
theorem apps_loop2 {b : Int} {c m x : List Ty} {t : Tm} {us : List Tm} (ha : Apps b c m x t us) {Y Z : Mt × Tm} (hul : us.length ≤ 4) (hY : Y.2.size ≤ 500000000) (hyz : Y.1.err = 0 → Z.1.err = 0 → Z.2 = Y.2) (hyo : Y.1.err = 0 → ∀ o : Tm, Conv (apps t.la (Tm.las us)) o.la → o.Sc x.length → o = Y.2) {bl bu bd bs by_ : Int} :
  vc6_L21'' (((), (), Y.1.err, (), Z.1.err, (), true, 0, ()), ((b, c.map Ty.enc, m.map Ty.enc, ()), (t.binds.map Ty.enc, t.kind, t.index, t.args.map Tm.enc, ()), (t.binds.map Ty.enc, t.kind, t.index, t.args.map Tm.enc, ()), (b, c.map Ty.enc, m.map Ty.enc, ()), us.map Tm.enc, (Tm.raws us).map Rw.enc, (bl, bu, bd, 0, bs, by_, ()), (Y.2.binds.map Ty.enc, Y.2.kind, Y.2.index, Y.2.args.map Tm.enc, ()), (Z.2.binds.map Ty.enc, Z.2.kind, Z.2.index, Z.2.args.map Tm.enc, ()), (t.binds.map Ty.enc, t.kind, t.index, t.args.map Tm.enc, ()), ())) (fun a => a = nB true) := by
 have heq := tequal_calls _ Y.2 Y.2 (Nat.le_refl _) hY
 rw [Tm.same_self] at heq
 refine LoopP.intro (fun p : Nat × Tm × Bool => (((), (), Y.1.err, (), Z.1.err, (), p.2.2, (p.1 : Int), ()), ((b, c.map Ty.enc, m.map Ty.enc, ()), (t.binds.map Ty.enc, t.kind, t.index, t.args.map Tm.enc, ()), (t.binds.map Ty.enc, t.kind, t.index, t.args.map Tm.enc, ()), (b, c.map Ty.enc, m.map Ty.enc, ()), us.map Tm.enc, (Tm.raws us).map Rw.enc, (bl, bu, bd, 0, bs, by_, ()), (Y.2.binds.map Ty.enc, Y.2.kind, Y.2.index, Y.2.args.map Tm.enc, ()), (Z.2.binds.map Ty.enc, Z.2.kind, Z.2.index, Z.2.args.map Tm.enc, ()), (p.2.1.binds.map Ty.enc, p.2.1.kind, p.2.1.index, p.2.1.args.map Tm.enc, ()), ())))
  (AppsAt x t us) (fun p => us.length - p.1) (0, t, true) rfl ⟨Nat.zero_le _, ha.lo, fun _ => ⟨by rw [List.take_zero]; exact .refl _, ha.sc⟩⟩ ?_
 intro ⟨k, o, ok⟩ hI again hag
 dsimp only at hag ⊢
 have hk := hI.1
 simp only at hk
 rw [List.length_map]
 refine ⟨rfl, ITE.intro (fun h => ?_) fun h => ?_⟩
 ·have hlt : k < us.length := by simpa using h
  have hmem := List.getElem_mem hlt
  have hone : AV.clip [.agg [.sl (us[k].binds.map Ty.enc), nI us[k].kind, nI us[k].index, .sl (us[k].args.map Tm.enc)]] = .clip ([us[k]].map Tm.enc) := by rw [List.map_cons, List.map_nil, Tm.enc_eq]
  have hput : ∀ {l u d s y : Int}, BudOk 5000 l u d y → HFn Tryz.prog 35 [.agg [.sl (o.binds.map Ty.enc), nI o.kind, nI o.index, .sl (o.args.map Tm.enc)], .ptr 0 0, .clip [.agg [.sl (us[k].binds.map Ty.enc), nI us[k].kind, nI us[k].index, .sl (us[k].args.map Tm.enc)]]] [.box (budC l u d 0 s y)] (FoundL (appsNext us k o hlt)) :=
   fun hb => HFn.args (by rw [hone]; exact ⟨RepW.refl _, RepW.refl _, repw_clip _, True.intro⟩) (nPut_calls (B := 60) (by omega) hI.2.1 ⟨Tm.los_iff.1 ha.los _ hmem, True.intro⟩ (fun v hv => by rw [List.mem_singleton.1 hv]; exact ha.nd _ hmem) hb)
  have hnx := fun g hg => hag (k + 1, (appsNext us k o hlt).2, g) (apps_next ha hI hlt g hg) (by simp only; omega)
  generalize hP : appsNext us k o hlt = P at hput hnx
  have e1 : IntKind.wrap .i64 ((k : Int) + 1) = ((k + 1 : Nat) : Int) := wrap_n (by omega)
  refine ⟨rfl, by omega, by omega, _, _, _, _, Tm.enc_getD hlt, ?_⟩
  constructor
  ·refine ⟨_, bud_fresh (n := 5000) (by omega), fun r q ⟨g1, g2⟩ => ⟨_, _, _, _, _, _, ⟨g1, g2⟩, ?_⟩⟩
   constructor <;> exact ⟨_, hput (budOk_fresh (by omega)), fun r q ⟨l1, u1, d1, s1, y1, g2, _, _, g1⟩ => ⟨l1, u1, d1, 0, s1, y1, _, _, _, _, _, ⟨g1, g2⟩, ITE.intro (fun h => ⟨rfl, by rw [e1]; exact hnx (P.1.err == 0) fun h2 => ⟨h, by simpa using h2⟩⟩) fun h => ⟨rfl, by rw [e1]; exact hnx false fun h2 => by cases h2⟩⟩⟩
  ·exact ⟨_, bud_fresh (n := 5000) (by omega), fun r q ⟨g1, g2⟩ => ⟨_, _, _, _, _, _, ⟨g1, g2⟩, _, hput (budOk_fresh (by omega)), fun r q ⟨l1, u1, d1, s1, y1, g2, _, _, g1⟩ => ⟨l1, u1, d1, 0, s1, y1, _, _, _, _, _, ⟨g1, g2⟩, ITE.intro (fun h => ⟨rfl, by rw [e1]; exact hnx (P.1.err == 0) fun h2 => ⟨h, by simpa using h2⟩⟩) fun h => ⟨rfl, by rw [e1]; exact hnx false fun h2 => by cases h2⟩⟩⟩⟩
 ·have hge : us.length ≤ k := by simpa using h
  have hk2 : k = us.length := by omega
  subst hk2
  have ho : Y.1.err = 0 → ok = true → o = Y.2 := fun h1 h2 => by
   obtain ⟨h3, h4⟩ := hI.2.2 h2
   rw [List.take_length] at h3
   exact hyo h1 o h3 h4
  have kn : ∃ b, PureIs Tryz.prog 10 [] (nB b) ∧ nB b = nB true := ⟨_, known08_calls, rfl⟩
  have last : ITE (Y.1.err == 0) (ITE ok (∃ b, PureIs Tryz.prog 37 [.agg [.sl (Y.2.binds.map Ty.enc), nI Y.2.kind, nI Y.2.index, .sl (Y.2.args.map Tm.enc)], .agg [.sl (o.binds.map Ty.enc), nI o.kind, nI o.index, .sl (o.args.map Tm.enc)]] (nB b) ∧ ITE (!b) (nB false = nB true) (∃ b, PureIs Tryz.prog 10 [] (nB b) ∧ nB b = nB true)) (∃ b, PureIs Tryz.prog 10 [] (nB b) ∧ nB b = nB true)) (∃ b, PureIs Tryz.prog 10 [] (nB b) ∧ nB b = nB true) :=
   ITE.intro (fun h1 => ITE.intro (fun h2 => by
    rw [ho (by simpa using h1) h2]
    exact ⟨_, heq, ITE.neg rfl kn⟩) fun _ => kn) fun _ => kn
  refine ITE.intro (fun h1 => ITE.intro (fun h2 => ?_) fun h2 => last) fun h1 => last
  rw [hyz (by simpa using h1) (by simpa using h2)]
  exact ⟨_, heq, ITE.neg rfl last⟩
theorem apps_loop3 {b : Int} {c m x : List Ty} {t : Tm} {us : List Tm} (ha : Apps b c m x t us) {Y Z : Mt × Tm} (hul : us.length ≤ 4) (hY : Y.2.size ≤ 500000000) (hyz : Y.1.err = 0 → Z.1.err = 0 → Z.2 = Y.2) (hyo : Y.1.err = 0 → ∀ o : Tm, Conv (apps t.la (Tm.las us)) o.la → o.Sc x.length → o = Y.2) {bl bu bd bs by_ : Int} :
  vc6_L21''' (((), (), Y.1.err, (), Z.1.err, (), true, 0, ()), ((b, c.map Ty.enc, m.map Ty.enc, ()), (t.binds.map Ty.enc, t.kind, t.index, t.args.map Tm.enc, ()), (t.binds.map Ty.enc, t.kind, t.index, t.args.map Tm.enc, ()), (b, c.map Ty.enc, m.map Ty.enc, ()), us.map Tm.enc, (Tm.raws us).map Rw.enc, (Y.2.binds.map Ty.enc, Y.2.kind, Y.2.index, Y.2.args.map Tm.enc, ()), (bl, bu, bd, 0, bs, by_, ()), (Z.2.binds.map Ty.enc, Z.2.kind, Z.2.index, Z.2.args.map Tm.enc, ()), (t.binds.map Ty.enc, t.kind, t.index, t.args.map Tm.enc, ()), ())) (fun a => a = nB true) := by
 have heq := tequal_calls _ Y.2 Y.2 (Nat.le_refl _) hY
 rw [Tm.same_self] at heq
 refine LoopP.intro (fun p : Nat × Tm × Bool => (((), (), Y.1.err, (), Z.1.err, (), p.2.2, (p.1 : Int), ()), ((b, c.map Ty.enc, m.map Ty.enc, ()), (t.binds.map Ty.enc, t.kind, t.index, t.args.map Tm.enc, ()), (t.binds.map Ty.enc, t.kind, t.index, t.args.map Tm.enc, ()), (b, c.map Ty.enc, m.map Ty.enc, ()), us.map Tm.enc, (Tm.raws us).map Rw.enc, (Y.2.binds.map Ty.enc, Y.2.kind, Y.2.index, Y.2.args.map Tm.enc, ()), (bl, bu, bd, 0, bs, by_, ()), (Z.2.binds.map Ty.enc, Z.2.kind, Z.2.index, Z.2.args.map Tm.enc, ()), (p.2.1.binds.map Ty.enc, p.2.1.kind, p.2.1.index, p.2.1.args.map Tm.enc, ()), ())))
  (AppsAt x t us) (fun p => us.length - p.1) (0, t, true) rfl ⟨Nat.zero_le _, ha.lo, fun _ => ⟨by rw [List.take_zero]; exact .refl _, ha.sc⟩⟩ ?_
 intro ⟨k, o, ok⟩ hI again hag
 dsimp only at hag ⊢
 have hk := hI.1
 simp only at hk
 rw [List.length_map]
 refine ⟨rfl, ITE.intro (fun h => ?_) fun h => ?_⟩
 ·have hlt : k < us.length := by simpa using h
  have hmem := List.getElem_mem hlt
  have hone : AV.clip [.agg [.sl (us[k].binds.map Ty.enc), nI us[k].kind, nI us[k].index, .sl (us[k].args.map Tm.enc)]] = .clip ([us[k]].map Tm.enc) := by rw [List.map_cons, List.map_nil, Tm.enc_eq]
  have hput : ∀ {l u d s y : Int}, BudOk 5000 l u d y → HFn Tryz.prog 35 [.agg [.sl (o.binds.map Ty.enc), nI o.kind, nI o.index, .sl (o.args.map Tm.enc)], .ptr 0 0, .clip [.agg [.sl (us[k].binds.map Ty.enc), nI us[k].kind, nI us[k].index, .sl (us[k].args.map Tm.enc)]]] [.box (budC l u d 0 s y)] (FoundL (appsNext us k o hlt)) :=
   fun hb => HFn.args (by rw [hone]; exact ⟨RepW.refl _, RepW.refl _, repw_clip _, True.intro⟩) (nPut_calls (B := 60) (by omega) hI.2.1 ⟨Tm.los_iff.1 ha.los _ hmem, True.intro⟩ (fun v hv => by rw [List.mem_singleton.1 hv]; exact ha.nd _ hmem) hb)
  have hnx := fun g hg => hag (k + 1, (appsNext us k o hlt).2, g) (apps_next ha hI hlt g hg) (by simp only; omega)
  generalize hP : appsNext us k o hlt = P at hput hnx
  have e1 : IntKind.wrap .i64 ((k : Int) + 1) = ((k + 1 : Nat) : Int) := wrap_n (by omega)
  refine ⟨rfl, by omega, by omega, _, _, _, _, Tm.enc_getD hlt, ?_⟩
  constructor
  ·refine ⟨_, bud_fresh (n := 5000) (by omega), fun r q ⟨g1, g2⟩ => ⟨_, _, _, _, _, _, ⟨g1, g2⟩, ?_⟩⟩
   constructor <;> exact ⟨_, hput (budOk_fresh (by omega)), fun r q ⟨l1, u1, d1, s1, y1, g2, _, _, g1⟩ => ⟨l1, u1, d1, 0, s1, y1, _, _, _, _, _, ⟨g1, g2⟩, ITE.intro (fun h => ⟨rfl, by rw [e1]; exact hnx (P.1.err == 0) fun h2 => ⟨h, by simpa using h2⟩⟩) fun h => ⟨rfl, by rw [e1]; exact hnx false fun h2 => by cases h2⟩⟩⟩
  ·exact ⟨_, bud_fresh (n := 5000) (by omega), fun r q ⟨g1, g2⟩ => ⟨_, _, _, _, _, _, ⟨g1, g2⟩, _, hput (budOk_fresh (by omega)), fun r q ⟨l1, u1, d1, s1, y1, g2, _, _, g1⟩ => ⟨l1, u1, d1, 0, s1, y1, _, _, _, _, _, ⟨g1, g2⟩, ITE.intro (fun h => ⟨rfl, by rw [e1]; exact hnx (P.1.err == 0) fun h2 => ⟨h, by simpa using h2⟩⟩) fun h => ⟨rfl, by rw [e1]; exact hnx false fun h2 => by cases h2⟩⟩⟩⟩
 ·have hge : us.length ≤ k := by simpa using h
  have hk2 : k = us.length := by omega
  subst hk2
  have ho : Y.1.err = 0 → ok = true → o = Y.2 := fun h1 h2 => by
   obtain ⟨h3, h4⟩ := hI.2.2 h2
   rw [List.take_length] at h3
   exact hyo h1 o h3 h4
  have kn : ∃ b, PureIs Tryz.prog 10 [] (nB b) ∧ nB b = nB true := ⟨_, known08_calls, rfl⟩
  have last : ITE (Y.1.err == 0) (ITE ok (∃ b, PureIs Tryz.prog 37 [.agg [.sl (Y.2.binds.map Ty.enc), nI Y.2.kind, nI Y.2.index, .sl (Y.2.args.map Tm.enc)], .agg [.sl (o.binds.map Ty.enc), nI o.kind, nI o.index, .sl (o.args.map Tm.enc)]] (nB b) ∧ ITE (!b) (nB false = nB true) (∃ b, PureIs Tryz.prog 10 [] (nB b) ∧ nB b = nB true)) (∃ b, PureIs Tryz.prog 10 [] (nB b) ∧ nB b = nB true)) (∃ b, PureIs Tryz.prog 10 [] (nB b) ∧ nB b = nB true) :=
   ITE.intro (fun h1 => ITE.intro (fun h2 => by
    rw [ho (by simpa using h1) h2]
    exact ⟨_, heq, ITE.neg rfl kn⟩) fun _ => kn) fun _ => kn
  refine ITE.intro (fun h1 => ITE.intro (fun h2 => ?_) fun h2 => last) fun h1 => last
  rw [hyz (by simpa using h1) (by simpa using h2)]
  exact ⟨_, heq, ITE.neg rfl last⟩
theorem cut4 (us : List Tm) : List.drop (Int.toNat 0) (List.take (Int.toNat (if 4 < ((List.length (us.map Tm.enc) : Nat) : Int) then 4 else ((List.length (us.map Tm.enc) : Nat) : Int))) (us.map Tm.enc)) = (us.take 4).map Tm.enc := by
 rw [List.map_take, show Int.toNat 0 = 0 from rfl, List.drop_zero]
 split
 ·rfl
 ·rename_i h
  rw [Int.toNat_natCast, List.take_length, List.take_of_length_le (by omega)]
theorem cut4_ok (us : List Tm) : 0 ≤ (0 : Int) ∧ (0 : Int) ≤ (if 4 < ((List.length (us.map Tm.enc) : Nat) : Int) then 4 else ((List.length (us.map Tm.enc) : Nat) : Int)) ∧ (if 4 < ((List.length (us.map Tm.enc) : Nat) : Int) then 4 else ((List.length (us.map Tm.enc) : Nat) : Int)) ≤ List.length (us.map Tm.enc) ∧ (∀ y : AV, y ∈ us.map Tm.enc → List.length (AV.cells y) = 4) := by
 refine ⟨by omega, ?_, ?_, fun y hy => Tm.enc_cells y hy⟩ <;> split <;> omega
theorem apps_of {b : Int} {c m x : List Ty} {t : Tm} {us : List Tm} (hsm : smallB c m x = true) (ht : t.Ok ∧ t.size ≤ 60) (hu : ∀ u ∈ us, u.Ok ∧ u.size ≤ 60) (hul : us.length ≤ 4) (h : typedB b c m x t us = true) : Apps b c m x t us := by
 obtain ⟨⟨g1, g2, g3⟩, ⟨h1, h2, h3⟩, h4, h5, h6⟩ := small_all hsm
 obtain ⟨of, i1, i2, i3⟩ := typedB_is h
 have hr := t.raw_total
 have hrs := raws_small fun u hx => (hu u hx).2
 have hoks : Tm.Oks us := by
  clear h i3 i2 hrs hul
  induction us with
  | nil => exact True.intro
  | cons u us ih => exact ⟨(hu u List.mem_cons_self).1, ih fun v hv => hu v (List.mem_cons_of_mem _ hv)⟩
 have hlos : Tm.Los 60 us := Tm.los_iff.2 fun u hx => Tm.lo_of (hu u hx).1 (hu u hx).2
 refine ⟨Tm.lo_of ht.1 ht.2, hlos, fun u hx => by have := Tm.nodes_le u; have := (hu u hx).2; omega, is_sc t x of i1, isL_scs us x _ i3, by omega, ⟨fun t ht => by have := h4 t ht; omega, fun t ht => by have := h5 t ht; omega, fun t ht => by have := h6 t ht; omega, by omega, by omega, by omega, ?_, Rw.call_ok _ _ (Tm.raw_ok t ht.1) (Tm.raws_ok us hoks)⟩, ?_⟩
 ·rw [call_total]
  have : (Tm.raws us).length = us.length := by rw [Tm.raws_eq, List.length_map]
  omega
 ·rw [lae_call]
  exact Conv.apps (raws_lae us x _ i3) (raw_lae t x of i1)
theorem putR_nf {b : Int} {c m x : List Ty} {t : Tm} {us : List Tm} (ha : Apps b c m x t us) : ((putR t us 5000).1.err = 0 → (longR b c m x (t.raw.call (Tm.raws us)) 100000).1.err = 0 → (longR b c m x (t.raw.call (Tm.raws us)) 100000).2 = (putR t us 5000).2) ∧ ((putR t us 5000).1.err = 0 → ∀ o : Tm, Conv (apps t.la (Tm.las us)) o.la → o.Sc x.length → o = (putR t us 5000).2) ∧ (putR t us 5000).2.size ≤ 500000000 := by
 have hc := putR_conv (left := 5000) (by omega) ha.lo ha.los ha.nd ha.sc ha.scs (by have := ha.xl; omega)
 have hlo := putR_lo (left := 5000) ha.lo ha.los
 refine ⟨fun h1 h2 => ?_, fun h1 o h2 h3 => form_eq h3 (hc h1).2 (h2.symm.trans (hc h1).1), ?_⟩
 ·obtain ⟨⟨u, hl⟩, _⟩ := longR_ok ha.nok h2
  exact form_eq (is_sc _ _ _ hl.is) (hc h1).2 (hl.conv.symm.trans (ha.conv.trans (hc h1).1))
 ·have := Tm.lo_size hlo.1
  have : (putR t us 5000).2.nodes * (1 + 60) ≤ 100000 * 61 := Nat.mul_le_mul hlo.2 (by omega)
  omega
theorem raws_take {us : List Tm} {k : Nat} (h : k < us.length) : (Tm.raws (us.take (k + 1))).map Rw.enc = (Tm.raws (us.take k)).map Rw.enc ++ [us[k].raw.enc] := by
 rw [Tm.raws_eq, Tm.raws_eq, ← List.take_append_getElem h, List.map_append, List.map_append]; rfl
theorem apps_all0 {b : Int} {c m x : List Ty} {t : Tm} {us : List Tm} (hsm : smallB c m x = true) (ht : t.Ok ∧ t.size ≤ 60) (hok : ∀ u ∈ us, u.Ok) (hul : us.length ≤ 4) : vc6_L8 ((us.map Tm.enc, (), x.map Ty.enc, (), (), (), (0 : Int), ()), ((b, c.map Ty.enc, m.map Ty.enc, ()), (t.binds.map Ty.enc, t.kind, t.index, t.args.map Tm.enc, ()), (b, c.map Ty.enc, m.map Ty.enc, ()), (t.binds.map Ty.enc, t.kind, t.index, t.args.map Tm.enc, ()), (us.take 0).map Tm.enc, (Tm.raws (us.take 0)).map Rw.enc, ())) (fun a => a = nB true) := by
 have kn : ∃ b, PureIs Tryz.prog 10 [] (nB b) ∧ nB b = nB true := ⟨_, known08_calls, rfl⟩
 obtain ⟨⟨g1, g2, g3⟩, ⟨h1, h2, h3⟩, h4, h5, h6⟩ := small_all hsm
 refine LoopP.intro (fun k : Nat => ((us.map Tm.enc, (), x.map Ty.enc, (), (), (), (k : Int), ()), ((b, c.map Ty.enc, m.map Ty.enc, ()), (t.binds.map Ty.enc, t.kind, t.index, t.args.map Tm.enc, ()), (b, c.map Ty.enc, m.map Ty.enc, ()), (t.binds.map Ty.enc, t.kind, t.index, t.args.map Tm.enc, ()), (us.take k).map Tm.enc, (Tm.raws (us.take k)).map Rw.enc, ()))) (fun k => k ≤ us.length ∧ ∀ u ∈ us.take k, u.size ≤ 60) (fun k => us.length - k) 0 rfl ⟨Nat.zero_le _, by simp⟩ ?_
 intro k ⟨hk, hsz⟩ again hag
 dsimp only
 rw [List.length_map]
 refine ITE.intro (fun h => ?_) fun h => ?_
 ·have hlt : k < us.length := by simpa using h
  have hmem := List.getElem_mem hlt
  have hfew := tmFew_calls (most := 60) (d := 60) (t := us[k]) (by omega) (by omega)
  rw [Tm.enc_eq] at hfew
  refine ⟨by omega, by omega, _, _, _, _, Tm.enc_getD hlt, _, hfew, ITE.intro (fun _ => kn) fun h => ?_⟩
  have hks : us[k].size ≤ 60 := Tm.fewB_size (d := 60) (by simpa using h)
  have hto := tmTo_calls _ us[k] (Nat.le_refl _) (by omega)
  have hfr := from_calls _ us[k] (Nat.le_refl _) (by omega)
  rw [Tm.enc_eq] at hto hfr
  rw [Rw.enc_eq] at hfr
  have e1 : (us.take k).map Tm.enc ++ [.agg [.sl (us[k].binds.map Ty.enc), nI us[k].kind, nI us[k].index, .sl (us[k].args.map Tm.enc)]] = (us.take (k + 1)).map Tm.enc := by rw [← Tm.enc_eq, ← List.take_append_getElem hlt, List.map_append]; rfl
  have e2 : (Tm.raws (us.take k)).map Rw.enc ++ [.agg [nI us[k].raw.kind, .sl (us[k].raw.type.args.map Ty.enc), nI us[k].raw.type.base, nI us[k].raw.index, .sl (us[k].raw.kids.map Rw.enc)]] = (Tm.raws (us.take (k + 1))).map Rw.enc := by rw [raws_take hlt, Rw.enc_eq]
  have hlen : ((Tm.raws (us.take (k + 1))).map Rw.enc).length = k + 1 := by rw [List.length_map, Tm.raws_eq, List.length_map, List.length_take]; omega
  have hlen2 : ((us.take (k + 1)).map Tm.enc).length = k + 1 := by rw [List.length_map, List.length_take]; omega
  refine ⟨by omega, by omega, _, _, _, _, Tm.enc_getD hlt, _, _, _, _, hto, ?_⟩
  rw [e1]
  refine ⟨rfl, appOk_one rfl (by omega) (by decide), rfl, by omega, by omega, _, _, _, _, Tm.enc_getD (l := us.take (k + 1)) (k := k) (by rw [List.length_take]; omega), ?_⟩
  rw [List.getElem_take]
  refine ⟨_, _, _, _, _, hfr, ?_⟩
  rw [e2, wrap_n (by omega)]
  refine ⟨rfl, appOk_one rfl (by omega) (by decide), rfl, rfl, hag (k + 1) ⟨hlt, fun u hu => ?_⟩ (by omega)⟩
  rw [← List.take_append_getElem hlt] at hu
  rcases List.mem_append.1 hu with hu | hu
  ·exact hsz u hu
  ·rw [List.mem_singleton.1 hu]; exact hks
 ·have hge : us.length ≤ k := by simpa using h
  rw [List.take_of_length_le hge] at hsz ⊢
  have hu : ∀ u ∈ us, u.Ok ∧ u.size ≤ 60 := fun u hx => ⟨hok u hx, hsz u hx⟩
  have htd := typed_calls (b := b) (c := c) (m := m) (x := x) (t := t) (us := us) (fun t ht => by have := h4 t ht; omega) (fun t ht => by have := h5 t ht; omega) (fun t ht => by have := h6 t ht; omega) (by omega) (by omega) (by omega) ⟨ht.1, by omega⟩ (fun u hx => ⟨(hu u hx).1, by have := (hu u hx).2; omega⟩) (by omega)
  refine ⟨rfl, _, htd, ITE.intro (fun _ => kn) fun h => ?_⟩
  have ha := apps_of hsm ht hu hul (by simpa using h)
  obtain ⟨n1, n2, n3⟩ := putR_nf ha
  have hput : ∀ {l u d s y : Int}, BudOk 5000 l u d y → HFn Tryz.prog 35 [.agg [.sl (t.binds.map Ty.enc), nI t.kind, nI t.index, .sl (t.args.map Tm.enc)], .ptr 0 0, .sl (us.map Tm.enc)] [.box (budC l u d 0 s y)] (FoundL (putR t us 5000)) := fun hb => nPut_calls (B := 60) (by omega) ha.lo ha.los ha.nd hb
  have hfr := from_calls _ t (Nat.le_refl _) (by omega)
  have htr := t.raw_total
  have hrs := raws_small fun u hx => (hu u hx).2
  have hcl := call_calls (r := t.raw) (l := Tm.raws us) (Rw.fit_of _ (by omega)) (Rw.fits_of _ (by omega)) (by rw [Tm.raws_eq, List.length_map]; omega)
  have hno := nOf_calls (b := b) ha.nok
  rw [Tm.enc_eq, Rw.enc_eq] at hfr
  rw [Rw.enc_eq, Rw.enc_eq (t.raw.call _)] at hcl
  generalize longR b c m x (t.raw.call (Tm.raws us)) 100000 = Z at hno n1
  generalize putR t us 5000 = Y at hput n1 n2 n3
  constructor
  ·refine ⟨_, bud_fresh (n := 5000) (by omega), fun r q ⟨g1, g2⟩ => ⟨_, _, _, _, _, _, ⟨g1, g2⟩, ?_⟩⟩
   constructor <;> exact ⟨rfl, _, hput (budOk_fresh (by omega)), fun r q ⟨l1, u1, d1, s1, y1, g2, _, _, g1⟩ => ⟨l1, u1, d1, 0, s1, y1, _, _, _, _, _, ⟨g1, g2⟩, _, _, _, _, _, hfr, rfl, _, _, _, _, _, hcl, _, _, _, _, _, hno, rfl, apps_loop0 ha hul n3 n1 n2⟩⟩
  ·exact ⟨_, bud_fresh (n := 5000) (by omega), fun r q ⟨g1, g2⟩ => ⟨_, _, _, _, _, _, ⟨g1, g2⟩, rfl, _, hput (budOk_fresh (by omega)), fun r q ⟨l1, u1, d1, s1, y1, g2, _, _, g1⟩ => ⟨l1, u1, d1, 0, s1, y1, _, _, _, _, _, ⟨g1, g2⟩, _, _, _, _, _, hfr, rfl, _, _, _, _, _, hcl, _, _, _, _, _, hno, rfl, apps_loop1 ha hul n3 n1 n2⟩⟩⟩
theorem apps_all1 {b : Int} {c m x : List Ty} {t : Tm} {us : List Tm} (hsm : smallB c m x = true) (ht : t.Ok ∧ t.size ≤ 60) (hok : ∀ u ∈ us, u.Ok) (hul : us.length ≤ 4) : vc6_L8' ((us.map Tm.enc, (), x.map Ty.enc, (), (), (), (0 : Int), ()), ((b, c.map Ty.enc, m.map Ty.enc, ()), (t.binds.map Ty.enc, t.kind, t.index, t.args.map Tm.enc, ()), (t.binds.map Ty.enc, t.kind, t.index, t.args.map Tm.enc, ()), (b, c.map Ty.enc, m.map Ty.enc, ()), (us.take 0).map Tm.enc, (Tm.raws (us.take 0)).map Rw.enc, ())) (fun a => a = nB true) := by
 have kn : ∃ b, PureIs Tryz.prog 10 [] (nB b) ∧ nB b = nB true := ⟨_, known08_calls, rfl⟩
 obtain ⟨⟨g1, g2, g3⟩, ⟨h1, h2, h3⟩, h4, h5, h6⟩ := small_all hsm
 refine LoopP.intro (fun k : Nat => ((us.map Tm.enc, (), x.map Ty.enc, (), (), (), (k : Int), ()), ((b, c.map Ty.enc, m.map Ty.enc, ()), (t.binds.map Ty.enc, t.kind, t.index, t.args.map Tm.enc, ()), (t.binds.map Ty.enc, t.kind, t.index, t.args.map Tm.enc, ()), (b, c.map Ty.enc, m.map Ty.enc, ()), (us.take k).map Tm.enc, (Tm.raws (us.take k)).map Rw.enc, ()))) (fun k => k ≤ us.length ∧ ∀ u ∈ us.take k, u.size ≤ 60) (fun k => us.length - k) 0 rfl ⟨Nat.zero_le _, by simp⟩ ?_
 intro k ⟨hk, hsz⟩ again hag
 dsimp only
 rw [List.length_map]
 refine ITE.intro (fun h => ?_) fun h => ?_
 ·have hlt : k < us.length := by simpa using h
  have hmem := List.getElem_mem hlt
  have hfew := tmFew_calls (most := 60) (d := 60) (t := us[k]) (by omega) (by omega)
  rw [Tm.enc_eq] at hfew
  refine ⟨by omega, by omega, _, _, _, _, Tm.enc_getD hlt, _, hfew, ITE.intro (fun _ => kn) fun h => ?_⟩
  have hks : us[k].size ≤ 60 := Tm.fewB_size (d := 60) (by simpa using h)
  have hto := tmTo_calls _ us[k] (Nat.le_refl _) (by omega)
  have hfr := from_calls _ us[k] (Nat.le_refl _) (by omega)
  rw [Tm.enc_eq] at hto hfr
  rw [Rw.enc_eq] at hfr
  have e1 : (us.take k).map Tm.enc ++ [.agg [.sl (us[k].binds.map Ty.enc), nI us[k].kind, nI us[k].index, .sl (us[k].args.map Tm.enc)]] = (us.take (k + 1)).map Tm.enc := by rw [← Tm.enc_eq, ← List.take_append_getElem hlt, List.map_append]; rfl
  have e2 : (Tm.raws (us.take k)).map Rw.enc ++ [.agg [nI us[k].raw.kind, .sl (us[k].raw.type.args.map Ty.enc), nI us[k].raw.type.base, nI us[k].raw.index, .sl (us[k].raw.kids.map Rw.enc)]] = (Tm.raws (us.take (k + 1))).map Rw.enc := by rw [raws_take hlt, Rw.enc_eq]
  have hlen : ((Tm.raws (us.take (k + 1))).map Rw.enc).length = k + 1 := by rw [List.length_map, Tm.raws_eq, List.length_map, List.length_take]; omega
  have hlen2 : ((us.take (k + 1)).map Tm.enc).length = k + 1 := by rw [List.length_map, List.length_take]; omega
  refine ⟨by omega, by omega, _, _, _, _, Tm.enc_getD hlt, _, _, _, _, hto, ?_⟩
  rw [e1]
  refine ⟨rfl, appOk_one rfl (by omega) (by decide), rfl, by omega, by omega, _, _, _, _, Tm.enc_getD (l := us.take (k + 1)) (k := k) (by rw [List.length_take]; omega), ?_⟩
  rw [List.getElem_take]
  refine ⟨_, _, _, _, _, hfr, ?_⟩
  rw [e2, wrap_n (by omega)]
  refine ⟨rfl, appOk_one rfl (by omega) (by decide), rfl, rfl, hag (k + 1) ⟨hlt, fun u hu => ?_⟩ (by omega)⟩
  rw [← List.take_append_getElem hlt] at hu
  rcases List.mem_append.1 hu with hu | hu
  ·exact hsz u hu
  ·rw [List.mem_singleton.1 hu]; exact hks
 ·have hge : us.length ≤ k := by simpa using h
  rw [List.take_of_length_le hge] at hsz ⊢
  have hu : ∀ u ∈ us, u.Ok ∧ u.size ≤ 60 := fun u hx => ⟨hok u hx, hsz u hx⟩
  have htd := typed_calls (b := b) (c := c) (m := m) (x := x) (t := t) (us := us) (fun t ht => by have := h4 t ht; omega) (fun t ht => by have := h5 t ht; omega) (fun t ht => by have := h6 t ht; omega) (by omega) (by omega) (by omega) ⟨ht.1, by omega⟩ (fun u hx => ⟨(hu u hx).1, by have := (hu u hx).2; omega⟩) (by omega)
  refine ⟨rfl, _, htd, ITE.intro (fun _ => kn) fun h => ?_⟩
  have ha := apps_of hsm ht hu hul (by simpa using h)
  obtain ⟨n1, n2, n3⟩ := putR_nf ha
  have hput : ∀ {l u d s y : Int}, BudOk 5000 l u d y → HFn Tryz.prog 35 [.agg [.sl (t.binds.map Ty.enc), nI t.kind, nI t.index, .sl (t.args.map Tm.enc)], .ptr 0 0, .sl (us.map Tm.enc)] [.box (budC l u d 0 s y)] (FoundL (putR t us 5000)) := fun hb => nPut_calls (B := 60) (by omega) ha.lo ha.los ha.nd hb
  have hfr := from_calls _ t (Nat.le_refl _) (by omega)
  have htr := t.raw_total
  have hrs := raws_small fun u hx => (hu u hx).2
  have hcl := call_calls (r := t.raw) (l := Tm.raws us) (Rw.fit_of _ (by omega)) (Rw.fits_of _ (by omega)) (by rw [Tm.raws_eq, List.length_map]; omega)
  have hno := nOf_calls (b := b) ha.nok
  rw [Tm.enc_eq, Rw.enc_eq] at hfr
  rw [Rw.enc_eq, Rw.enc_eq (t.raw.call _)] at hcl
  generalize longR b c m x (t.raw.call (Tm.raws us)) 100000 = Z at hno n1
  generalize putR t us 5000 = Y at hput n1 n2 n3
  constructor
  ·refine ⟨_, bud_fresh (n := 5000) (by omega), fun r q ⟨g1, g2⟩ => ⟨_, _, _, _, _, _, ⟨g1, g2⟩, ?_⟩⟩
   constructor <;> exact ⟨rfl, _, hput (budOk_fresh (by omega)), fun r q ⟨l1, u1, d1, s1, y1, g2, _, _, g1⟩ => ⟨l1, u1, d1, 0, s1, y1, _, _, _, _, _, ⟨g1, g2⟩, _, _, _, _, _, hfr, rfl, _, _, _, _, _, hcl, _, _, _, _, _, hno, rfl, apps_loop2 ha hul n3 n1 n2⟩⟩
  ·exact ⟨_, bud_fresh (n := 5000) (by omega), fun r q ⟨g1, g2⟩ => ⟨_, _, _, _, _, _, ⟨g1, g2⟩, rfl, _, hput (budOk_fresh (by omega)), fun r q ⟨l1, u1, d1, s1, y1, g2, _, _, g1⟩ => ⟨l1, u1, d1, 0, s1, y1, _, _, _, _, _, ⟨g1, g2⟩, _, _, _, _, _, hfr, rfl, _, _, _, _, _, hcl, _, _, _, _, _, hno, rfl, apps_loop3 ha hul n3 n1 n2⟩⟩⟩
theorem NormApps_calls {b : Int} {c m x : List Ty} {t : Tm} {us : List Tm} (ht : t.Ok) (hus : Tm.Oks us) : PureIs Tryz.prog 6 [.agg [nI b, .sl (c.map Ty.enc), .sl (m.map Ty.enc)], .sl (x.map Ty.enc), t.enc, .sl (us.map Tm.enc)] (nB true) := by
 have kn : ∃ b, PureIs Tryz.prog 10 [] (nB b) ∧ nB b = nB true := ⟨_, known08_calls, rfl⟩
 have he := Tm.enc_eq t
 have hfew := tmFew_calls (most := 60) (d := 60) (t := t) (by omega) (by omega)
 rw [he] at hfew
 rw [he]
 refine vc6_ok ⟨cut4_ok us, _, hfew, ITE.intro (fun _ => kn) fun h => ?_⟩
 have hsz : t.size ≤ 60 := Tm.fewB_size (d := 60) (by simpa using h)
 refine ⟨_, small_calls b c m x, ITE.intro (fun _ => kn) fun h => ?_⟩
 have hsm : smallB c m x = true := by simpa using h
 obtain ⟨⟨g1, g2, g3⟩, ⟨h1, h2, h3⟩, h4, h5, h6⟩ := small_all hsm
 have hto := tmTo_calls _ t (Nat.le_refl _) (by omega)
 rw [he] at hto
 have hok : ∀ u ∈ us.take 4, u.Ok := fun u hu => Tm.Oks_mem hus (List.mem_of_mem_take hu)
 have hul : (us.take 4).length ≤ 4 := by rw [List.length_take]; omega
 have a0 := apps_all0 (b := b) hsm ⟨ht, hsz⟩ hok hul
 have a1 := apps_all1 (b := b) hsm ⟨ht, hsz⟩ hok hul
 rw [List.take_zero, ← cut4 us] at a0 a1
 exact ⟨_, _, _, world_calls (by omega) (by omega), _, tysTo_calls (by omega), _, _, _, _, hto, ⟨rfl, rfl, a0⟩, ⟨rfl, rfl, a1⟩⟩
end Go.Proofs.YtghlgbhldnkdmaaGreat
