/- Texts of ours laid together for a claim: P53 P30 P31 P32 P33 P34 P36 P37 P38 P39 P40 P55 P44 P57 P58 P59 P60. -/
import Derived.Tactics
import Derived.Tactics2
import Derived.Defers
import Derived.Laws.Pointers
import Derived.Laws.LoneSync
import Derived.RegionTactic
import Derived.RegionCalls
import Derived.ChangeAlike
import Derived.TacticsInMore
import Derived.RegionIn
import Derived.LoopNIn
import Derived.RecoverIn
import Derived.KernelRfl
import Derived.Test.YtghlgbhldnkdmaaGreatQ43
namespace Go.Proofs.YtghlgbhldnkdmaaGreat
open Go
set_option linter.unusedSimpArgs false
set_option linter.unusedVariables false
mutual
theorem is_sc {c m : List Ty} : ∀ (t : Tm) (x : List Ty) (of : Ty), t.Is c m x of → t.Sc x.length
 | .mk bs k i l, x, of, h => by
  obtain ⟨h1, u, h2, h3, h4⟩ := h
  have := isL_scs l (x ++ bs) u.args h4
  rw [List.length_append] at this
  refine ⟨fun hk => ?_, this⟩
  subst hk
  have := headTy_var h2
  rw [List.length_append] at this
  omega
theorem isL_scs {c m : List Ty} : ∀ (l : List Tm) (x us : List Ty), Tm.IsL c m x l us → Tm.Scs x.length l
 | [], x, us, _ => True.intro
 | t :: l, x, u :: us, h => ⟨is_sc t x u h.1, isL_scs l x us h.2⟩
 | _ :: _, _, [], h => h.elim
end
theorem headTy_lift {c m g e d : List Ty} {k i : Int} {u : Ty} (h : headTy c m (g ++ d) k i = some u) : headTy c m (g ++ e ++ d) k (if k = 0 ∧ ((d.length : Nat) : Int) ≤ i then i + (e.length : Nat) else i) = some u := by
 by_cases hk : k = 0
 ·subst hk
  obtain ⟨h1, h2, _⟩ := headTy_var h
  obtain ⟨j, rfl⟩ : ∃ j : Nat, i = j := ⟨i.toNat, by omega⟩
  rw [headTy_app] at h
  by_cases hj : j < d.length
  ·rw [if_pos hj] at h
   rw [if_neg (show ¬ ((0 : Int) = 0 ∧ ((d.length : Nat) : Int) ≤ (j : Int)) by omega), headTy_app, if_pos hj]; exact h
  ·rw [if_neg hj] at h
   rw [if_pos (show (0 : Int) = 0 ∧ ((d.length : Nat) : Int) ≤ (j : Int) by omega), show ((j : Int) + (e.length : Nat)) = ((j + e.length : Nat) : Int) by omega, headTy_app, if_neg (by omega), headTy_app, if_neg (by omega), show j + e.length - d.length - e.length = j - d.length by omega]
   exact h
 ·rw [if_neg (fun h => hk h.1), headTy_far (y := g ++ d) hk]; exact h
mutual
theorem lift_is {c m : List Ty} {B : Nat} : ∀ (t : Tm) (g e d : List Ty) (of : Ty), t.Lo B → t.Is c m (g ++ d) of → g.length + e.length + d.length + B * t.nodes ≤ 9000000000000000000 → (t.lift e.length d.length).Is c m (g ++ e ++ d) of
 | .mk bs k i l, g, e, d, of, hlo, h, hb => by
  obtain ⟨⟨q1, q2⟩, ⟨q3, q4⟩, q5⟩ := hlo
  obtain ⟨h1, u, h2, h3, h4⟩ := h
  have hbl := Ty.sizes_len bs
  rw [Tm.nodes, Nat.mul_add, Nat.mul_one] at hb
  have hl := lift_isL l g e (d ++ bs) u.args q5 (by rw [← List.append_assoc]; exact h4) (by rw [List.length_append]; omega)
  have hh := headTy_lift (e := e) (show headTy c m (g ++ (d ++ bs)) k i = some u by rw [← List.append_assoc]; exact h2)
  rw [List.length_append] at hl hh
  rw [Tm.lift]
  refine ⟨h1, u, ?_, h3, by rw [← List.append_assoc] at hl; exact hl⟩
  rw [← List.append_assoc] at hh
  rw [← hh]
  congr 1
  by_cases hk : k = 0 ∧ ((d.length + bs.length : Nat) : Int) ≤ i
  ·rw [if_pos hk, if_pos hk]
   obtain ⟨hk, hk2⟩ := hk
   subst hk
   have := headTy_var h2
   rw [List.length_append, List.length_append] at this
   exact wrap_i (by omega) (by omega)
  ·rw [if_neg hk, if_neg hk]
theorem lift_isL {c m : List Ty} {B : Nat} : ∀ (l : List Tm) (g e d us : List Ty), Tm.Los B l → Tm.IsL c m (g ++ d) l us → g.length + e.length + d.length + B * Tm.nodess l ≤ 9000000000000000000 → Tm.IsL c m (g ++ e ++ d) (Tm.lifts e.length d.length l) us
 | [], g, e, d, [], _, _, _ => True.intro
 | t :: l, g, e, d, u :: us, hlo, h, hb => by
  rw [Tm.nodess, Nat.mul_add] at hb
  exact ⟨lift_is t g e d u hlo.1 h.1 (by omega), lift_isL l g e d us hlo.2 h.2 (by omega)⟩
 | [], _, _, _, _ :: _, _, h, _ => h.elim
 | _ :: _, _, _, _, [], _, h, _ => h.elim
end
theorem one_err {m : Mt} (h : m.one.1.err = 1) : m.err = 1 := by
 unfold Mt.one at h
 split at h
 ·exact h
 ·split at h
  ·simp at h
  ·split at h
   ·simp at h
   ·exact h
theorem goArgs_is {c m : List Ty} {g : Mt → Tm → Mt × Tm} (hg : Keeps1 g) {x y : List Ty} : ∀ (l : List Tm) (us : List Ty) (mt : Mt), mt.count ≤ 100000 → Tm.IsL c m x l us → (∀ t ∈ l, ∀ u, t.Is c m x u → ∀ mt : Mt, mt.count ≤ 100000 → ((g mt t).1.err = 0 → (g mt t).2.Is c m y u) ∧ ((g mt t).1.err = 1 → mt.err = 1)) →
  ((goArgs g mt l).1.err = 0 → Tm.IsL c m y (goArgs g mt l).2 us) ∧ ((goArgs g mt l).1.err = 1 → mt.err = 1)
 | [], [], mt, _, _, _ => ⟨fun _ => True.intro, fun h => h⟩
 | t :: l, u :: us, mt, hm, h, hp => by
  rw [goArgs]
  have h1 := hp t List.mem_cons_self u h.1 mt hm
  have h2 := goArgs_is hg l us (g mt t).1 ((hg mt t).most hm) h.2 fun v hv => hp v (List.mem_cons_of_mem _ hv)
  exact ⟨fun he => ⟨h1.1 ((goArgs_to hg l _).ok he), h2.1 he⟩, fun he => h1.2 (h2.2 he)⟩
 | [], _ :: _, _, _, h, _ => h.elim
 | _ :: _, [], _, _, h, _ => h.elim
theorem isL_get {c m : List Ty} : ∀ {l : List Tm} {x us : List Ty} {k : Nat} (h : Tm.IsL c m x l us) (h1 : k < l.length) (h2 : k < us.length), Tm.Is c m x l[k] us[k]
 | t :: l, x, u :: us, 0, h, _, _ => h.1
 | t :: l, x, u :: us, k + 1, h, h1, h2 => isL_get (k := k) h.2 (by simpa using h1) (by simpa using h2)
theorem body_is {B : Nat} (hB : B ≤ 1000000) {c m : List Ty} : ∀ (f : Nat) (mt : Mt) (k i : Int) (args us : List Tm) (z bs ds : List Ty) (h : Ty), mt.count ≤ 100000 → I64 k → I64 i → args.length ≤ B → Tm.Los B args → Tm.Los B us → us.length ≤ bs.length → bs.length ≤ B → (∀ t ∈ us, t.nodes ≤ 1000000000) →
  headTy c m (z ++ bs ++ ds) k i = some h → Tm.IsL c m (z ++ bs ++ ds) args h.args → Tm.IsL c m z us (bs.take us.length) → z.length + ds.length + bs.length + B * f ≤ 4000000000000000000 →
  ((bodyT f mt k i args us bs.length ds.length).1.err = 0 → (bodyT f mt k i args us bs.length ds.length).2.Is c m (z ++ bs.drop us.length ++ ds) (.mk [] h.base)) ∧ ((bodyT f mt k i args us bs.length ds.length).1.err = 1 → mt.err = 1)
 | 0, mt, k, i, args, us, z, bs, ds, h, _, _, _, _, _, _, _, _, _, _, _, _, _ => by
  rw [bodyT]
  simp only
  by_cases h : mt.err = 0
  ·rw [if_pos h]; exact ⟨fun h => (by simp at h), fun h => (by simp at h)⟩
  ·rw [if_neg h]; exact ⟨fun h' => (h h').elim, fun h => h⟩
 | f + 1, mt, k, i, args, us, z, bs, ds, h, hm, hk, hi, hla, hlo, hus, hun, hnB, hnd, hh, ha, hu, hK => by
  have hmul : B * (f + 1) = B * f + B := Nat.mul_succ _ _
  rw [bodyT]
  split
  ·rename_i h1; exact ⟨fun he => ((one_false h1).1 he).elim, fun he => one_err he⟩
  rename_i h1
  obtain ⟨g0, g1, g2, g3⟩ := one_true (by simpa using h1)
  have hkeep := withinT_to f us bs.length ds.length
  have hto := goArgs_to hkeep args mt.one.1
  have hm1 : mt.one.1.count ≤ 100000 := (Mt.one_to mt).most hm
  have hform := goArgs_form (B := B) hkeep args mt.one.1 (fun t ht m' hto' he' => by
   have hlo' := Tm.lo_eq.1 (Tm.los_iff.1 hlo t ht)
   have := bodyT_form (B := B) f m' t.kind t.index t.args us bs.length (ds.length + t.binds.length) hlo'.2.1.1 hlo'.2.1.2 hlo'.1.2 hlo'.2.2 hus hun he'
   have hq := Tm.lo_eq.1 this.1.lo
   have hqn := this.1.nodes
   rw [Tm.nodes_eq] at hqn
   exact ⟨by unfold withinT; rw [Tm.nodes_eq, Tm.args_mk]; exact hqn, Tm.lo_eq.2 ⟨⟨hlo'.1.1, hq.1.2⟩, hq.2⟩⟩)
  have his := goArgs_is (c := c) (m := m) hkeep (x := z ++ bs ++ ds) (y := z ++ bs.drop us.length ++ ds) args h.args mt.one.1 hm1 ha (fun t ht u htu m' hm' => by
   have hlo' := Tm.lo_eq.1 (Tm.los_iff.1 hlo t ht)
   have hbl := Ty.sizes_len t.binds
   obtain ⟨t1, v, t2, t3, t4⟩ := Tm.is_eq.1 htu
   have hb := body_is hB f m' t.kind t.index t.args us z bs (ds ++ t.binds) v hm' hlo'.2.1.1 hlo'.2.1.2 hlo'.1.2 hlo'.2.2 hus hun hnB hnd (by rw [← List.append_assoc]; exact t2) (by rw [← List.append_assoc]; exact t4) hu (by rw [List.length_append]; omega)
   rw [List.length_append] at hb
   unfold withinT
   refine ⟨fun he => ?_, hb.2⟩
   obtain ⟨b1, w, b2, b3, b4⟩ := Tm.is_eq.1 (hb.1 he)
   have b1 : (bodyT f m' t.kind t.index t.args us bs.length (ds.length + t.binds.length)).2.binds = [] := b1
   rw [b1, List.append_nil, ← List.append_assoc] at b2 b4
   exact ⟨t1, w, b2, b3.trans t3, b4⟩)
  have hlen := goArgs_len (g := withinT (bodyT f) us bs.length ds.length) args mt.one.1
  generalize goArgs (withinT (bodyT f) us bs.length ds.length) mt.one.1 args = r at hto hform hlen his
  have hul := Tm.isL_len hu
  rw [List.length_take] at hul
  unfold headT
  split
  ·rename_i h2; exact ⟨fun he => (h2 he).elim, fun he => one_err (his.2 he)⟩
  rename_i h2
  have h2 : r.1.err = 0 := by simpa using h2
  obtain ⟨q1, q2⟩ := hform h2
  have hr := his.1 h2
  have hm2 : r.1.count ≤ 100000 := hto.most hm1
  have fin : ∀ i', headTy c m (z ++ bs.drop us.length ++ ds) k i' = some h → ((r.1, Tm.mk [] k i' r.2).1.err = 0 → (r.1, Tm.mk [] k i' r.2).2.Is c m (z ++ bs.drop us.length ++ ds) (.mk [] h.base)) ∧ ((r.1, Tm.mk [] k i' r.2).1.err = 1 → mt.err = 1) :=
   fun i' hi' => ⟨fun _ => ⟨rfl, h, by rw [List.append_nil]; exact hi', rfl, by rw [List.append_nil]; exact hr⟩, fun he => by rw [h2] at he; cases he⟩
  by_cases hk0 : k = 0
  case neg =>
   rw [if_pos (.inl hk0)]
   exact fin i (by rw [headTy_far (y := z ++ bs ++ ds) hk0]; exact hh)
  subst hk0
  obtain ⟨v1, v2, _⟩ := headTy_var hh
  rw [List.length_append, List.length_append] at v2
  obtain ⟨j, rfl⟩ : ∃ j : Nat, i = j := ⟨i.toNat, by omega⟩
  rw [Int.toNat_natCast] at v2
  have hh' := hh
  rw [headTy_app] at hh'
  split
  ·rename_i h3
   have h3 : j < ds.length := by omega
   rw [if_pos h3] at hh'
   exact fin j (by rw [headTy_app, if_pos h3]; exact hh')
  rename_i h3
  have h3 : ¬ j < ds.length := by omega
  rw [if_neg h3, headTy_app] at hh'
  split
  ·rename_i h4
   rw [if_neg (by omega)] at hh'
   refine fin _ ?_
   rw [show ((j : Int) - (us.length : Nat)) = ((j - us.length : Nat) : Int) by omega, headTy_app, if_neg (by omega), headTy_app, List.length_drop, if_neg (by omega), show j - us.length - ds.length - (bs.length - us.length) = j - ds.length - bs.length by omega]
   exact hh'
  rename_i h4
  have hjn : j - ds.length < bs.length := by omega
  rw [if_pos hjn, headTy_nat, if_pos hjn, List.getElem?_eq_getElem (by omega)] at hh'
  have hh' := Option.some.inj hh'
  split
  ·rename_i h5
   refine fin j ?_
   rw [headTy_app, if_neg h3, headTy_app, List.length_drop, if_pos (by omega), headTy_nat, List.length_drop, if_pos (by omega), List.getElem?_drop, List.getElem?_eq_getElem (by omega), ← hh']
   congr 2; omega
  rename_i h5
  have hlt : bs.length - 1 - ((j : Int) - (ds.length : Nat)).toNat < us.length := by omega
  have hst : standT us j bs.length ds.length = us[bs.length - 1 - ((j : Int) - (ds.length : Nat)).toNat].lift (ds.length + bs.length - us.length) 0 := by
   unfold standT
   rw [List.getD_eq_getElem?_getD, List.getElem?_eq_getElem hlt]; rfl
  have hmem := List.getElem_mem hlt
  have hBn : B * us[bs.length - 1 - ((j : Int) - (ds.length : Nat)).toNat].nodes ≤ 1000000 * 1000000000 := Nat.mul_le_mul hB (hnd _ hmem)
  have hui := isL_get hu hlt (by rw [List.length_take]; omega)
  rw [List.getElem_take, show bs[bs.length - 1 - ((j : Int) - (ds.length : Nat)).toNat] = h from by rw [← hh']; congr 1; omega] at hui
  have hsi := lift_is (B := B) us[bs.length - 1 - ((j : Int) - (ds.length : Nat)).toNat] z (bs.drop us.length ++ ds) [] h (Tm.los_iff.1 hus _ hmem) (by rw [List.append_nil]; exact hui) (by rw [List.length_append, List.length_drop, List.length_nil]; omega)
  rw [List.append_nil, List.length_append, List.length_drop, show bs.length - us.length + ds.length = ds.length + bs.length - us.length by omega, List.length_nil, ← hst, ← List.append_assoc] at hsi
  have hslo := Tm.lo_eq.1 (standT_lo hus j bs.length ds.length)
  generalize standT us j bs.length ds.length = st at hsi hslo ⊢
  obtain ⟨s1, w, s2, s3, s4⟩ := Tm.is_eq.1 hsi
  have hrl := Tm.isL_len hr
  have hsb := Ty.sizes_len st.binds
  rw [if_neg (by rw [s1, hrl]; simp)]
  have hnest := body_is hB f r.1 st.kind st.index st.args r.2 (z ++ bs.drop us.length ++ ds) st.binds [] w hm2 hslo.2.1.1 hslo.2.1.2 hslo.1.2 hslo.2.2 q2 (by rw [s1, hrl]; omega) (by omega) (fun t ht => by
   have h1 := Tm.nodess_mem ht
   omega) (by rw [List.append_nil]; exact s2) (by rw [List.append_nil]; exact s4) (by rw [s1, hrl, List.take_length]; exact hr) (by rw [List.length_append, List.length_append, List.length_drop, List.length_nil]; omega)
  rw [List.append_nil, s1, hrl, List.drop_length, List.append_nil, ← s1, s3] at hnest
  exact ⟨hnest.1, fun he => by
   have := hnest.2 he
   rw [h2] at this; cases this⟩
theorem put_is {B : Nat} (hB : B ≤ 1000000) {c m : List Ty} {f : Nat} {mt : Mt} {t : Tm} {us : List Tm} {z : List Ty} {of : Ty} (hm : mt.count ≤ 100000) (ht : t.Lo B) (hus : Tm.Los B us) (hnd : ∀ t ∈ us, t.nodes ≤ 1000000000) (hti : t.Is c m z of) (hn : us.length ≤ of.args.length) (hui : Tm.IsL c m z us (of.args.take us.length)) (hK : z.length + B + B * f ≤ 4000000000000000000) :
  ((putT f mt t us).1.err = 0 → (putT f mt t us).2.Is c m z (.mk (of.args.drop us.length) of.base)) ∧ ((putT f mt t us).1.err = 1 → mt.err = 1) := by
 have hlo := Tm.lo_eq.1 ht
 have hbl := Ty.sizes_len t.binds
 obtain ⟨t1, v, t2, t3, t4⟩ := Tm.is_eq.1 hti
 have hb := body_is hB f mt t.kind t.index t.args us z t.binds [] v hm hlo.2.1.1 hlo.2.1.2 hlo.1.2 hlo.2.2 hus (by rw [t1]; omega) (by omega) hnd (by rw [List.append_nil]; exact t2) (by rw [List.append_nil]; exact t4) (by rw [t1]; exact hui) (by rw [List.length_nil]; omega)
 rw [List.length_nil, List.append_nil] at hb
 unfold putT
 split
 ·rename_i h; exact ⟨fun he => (h he).elim, fun he => he⟩
 rename_i h
 rw [if_neg (by rw [t1]; omega)]
 refine ⟨fun he => ?_, hb.2⟩
 obtain ⟨b1, w, b2, b3, b4⟩ := Tm.is_eq.1 (hb.1 he)
 have b1 : (bodyT f mt t.kind t.index t.args us t.binds.length 0).2.binds = [] := b1
 rw [b1, List.append_nil] at b2 b4
 exact ⟨by rw [t1]; rfl, w, b2, b3.trans t3, b4⟩
theorem eta_head {c m x : List Ty} {T : Ty} {k i : Int} (h : headTy c m x k i = some T) (l : List Ty) : headTy c m (x ++ l) k (if k = 0 then i + (l.length : Nat) else i) = some T := by
 by_cases hk : k = 0
 ·subst hk
  obtain ⟨h1, h2, _⟩ := headTy_var h
  obtain ⟨j, rfl⟩ : ∃ j : Nat, i = j := ⟨i.toNat, by omega⟩
  rw [if_pos rfl, show ((j : Int) + (l.length : Nat)) = ((j + l.length : Nat) : Int) by omega, headTy_app, if_neg (by omega), show j + l.length - l.length = j by omega]
  exact h
 ·rw [if_neg hk, headTy_far (y := x) hk]; exact h
theorem sizes_mem_len : ∀ {l : List Ty} {t : Ty}, t ∈ l → t.size + l.length ≤ Ty.sizes l + 1
 | u :: l, t, h => by
  rw [Ty.sizes, List.length_cons]
  rcases List.mem_cons.1 h with rfl | h
  ·have := Ty.sizes_len l; omega
  ·have := sizes_mem_len h; have := u.size_pos; omega
mutual
theorem etaT_is {c m : List Ty} : ∀ (T : Ty) (x : List Ty) (k i : Int), headTy c m x k i = some T → x.length + T.size ≤ 4000000000000000000 → (etaT k i T).Is c m x T
 | .mk l b, x, k, i, h, hb => by
  have hl := Ty.sizes_len l
  rw [Ty.size] at hb
  rw [etaT]
  refine ⟨rfl, .mk l b, ?_, rfl, etaTs_is l (x ++ l) l.length 0 (fun k hk => ?_) (fun t ht => by have := sizes_mem_len ht; rw [List.length_append]; omega)⟩
  ·have := eta_head h l
   by_cases hk : k = 0
   ·subst hk
    have hv := headTy_var h
    rw [if_pos rfl] at this ⊢
    rw [wrap_i (by omega) (by omega)]; exact this
   ·rw [if_neg hk] at this ⊢; exact this
  ·rw [show ((l.length : Nat) : Int) - 1 - ((0 + k : Nat) : Int) = ((l.length - 1 - k : Nat) : Int) by omega, headTy_app, if_pos (by omega), headTy_nat, if_pos (by omega), List.getElem?_eq_getElem (by omega)]
   congr 2; omega
theorem etaTs_is {c m : List Ty} : ∀ (l y : List Ty) (n j : Nat), (∀ (k : Nat) (hk : k < l.length), headTy c m y 0 ((n : Int) - 1 - ((j + k : Nat) : Int)) = some l[k]) → (∀ t ∈ l, y.length + t.size ≤ 4000000000000000000) → Tm.IsL c m y (etaTs n j l) l
 | [], y, n, j, _, _ => True.intro
 | t :: l, y, n, j, h, hb => by
  rw [etaTs]
  exact ⟨etaT_is t y 0 _ (h 0 (by simp)) (hb t List.mem_cons_self), etaTs_is l y n (j + 1) (fun k hk => by
   have := h (k + 1) (by simpa using hk)
   rw [show j + (k + 1) = j + 1 + k by omega] at this
   exact this) fun t ht => hb t (List.mem_cons_of_mem _ ht)⟩
end
end Go.Proofs.YtghlgbhldnkdmaaGreat

namespace Go.Proofs.YtghlgbhldnkdmaaGreat
open Go
set_option linter.unusedSimpArgs false
set_option linter.unusedVariables false
@[simp] theorem wide_fn (f : FuncId) : Fence.wide.fn f = True := rfl
@[simp] theorem wide_depth : Fence.wide.depth = none := rfl
set_option maxRecDepth 100000
set_option maxHeartbeats 1600000
theorem race_disable (w : World) : (callFunc 178 #[]).run Tryz.prog w = .ok (.value (.tuple #[])) w := run_call_mark0 Tryz.func178 (by kernel_rfl) (by kernel_rfl) (by kernel_rfl) .disable (by kernel_rfl) w
theorem race_enable (w : World) : (callFunc 180 #[]).run Tryz.prog w = .ok (.value (.tuple #[])) w := run_call_mark0 Tryz.func180 (by kernel_rfl) (by kernel_rfl) (by kernel_rfl) .enable (by kernel_rfl) w
theorem race_acquire (a : Addr) (w : World) : (callFunc 181 #[.pointer (some a)]).run Tryz.prog w = .ok (.value (.tuple #[])) w := run_call_marked Tryz.func181 (by kernel_rfl) (by kernel_rfl) (by kernel_rfl) .acquire (by kernel_rfl) a w
theorem race_release (a : Addr) (w : World) : (callFunc 183 #[.pointer (some a)]).run Tryz.prog w = .ok (.value (.tuple #[])) w := run_call_marked Tryz.func183 (by kernel_rfl) (by kernel_rfl) (by kernel_rfl) .releaseMerge (by kernel_rfl) a w
theorem store_deferred (a : Addr) (x : Value) (u : FrameMode) (w : World) (hc : w.cell? a = some x) (hz : w.frozen? a = false) :
  CallsDIn Fence.wide 0 Tryz.prog 169 #[.pointer (some a), .bool true] u w fun e u' w' => u' = u ∧ (e = .returned (.tuple #[]) ∧ w' = w.drew.setCell a (.int .u32 1)) := by
 have hc' : w.drew.cell? a = some x := by go_simp
 have hz' : w.drew.frozen? a = false := by go_simp
 have hst := run_call_store (P := Tryz.prog) Tryz.func172 (by kernel_rfl) (by kernel_rfl) (by kernel_rfl) (by kernel_rfl) (k := .u32) (y := 1) hc' hz'
 gi_enter_d Tryz.func169, Tryz.ntmps169
 gi_wp2
 gi_region
 all_goals (go_end0; exact ⟨rfl, rfl⟩)
theorem lock_inner (a : Addr) (w : World) (hc : w.cell? a = some (.int .i32 0)) (hz : w.frozen? a = false) :
  CallsIn Fence.wide 0 Tryz.prog 176 #[.pointer (some a)] w fun e w' => e = .returned (.tuple #[]) ∧ w' = w.setCell a (.int .i32 1) := by
 have hd := race_disable
 have he := race_enable
 have ha := race_acquire
 have hcas := run_call_cas_hit (P := Tryz.prog) Tryz.func179 (by kernel_rfl) (by kernel_rfl) (by kernel_rfl) .i32 (by kernel_rfl) (y := 1) hc hz
 have hc' : (w.setCell a (.int .i32 1)).cell? a = some (.int .i32 1) := World.cell?_setCell_same w a _ hc
 have hcv := run_convert_to_unsafe (P := Tryz.prog) (src := 248) (dst := 252) Tryz.underlying248 Tryz.underlying252 (by kernel_rfl) hc'
 gi_enter Tryz.func176, Tryz.ntmps176
 gi_wp2
 first | go_end0 | (simp only [Exit.inBlock, Exit.then]; refine bodyPost_ret (results_none rfl _ _ _) rfl ?_) | refine bodyPost_ret (results_none rfl _ _ _) rfl ?_
 all_goals (first | exact ⟨rfl, rfl⟩ | (gi_wp2; go_end0; exact ⟨rfl, rfl⟩))
theorem lock_free (a : Addr) (w : World) (hc : w.cell? a = some (.int .i32 0)) (hz : w.frozen? a = false) :
  CallsIn Fence.wide 0 Tryz.prog 174 #[.pointer (some a)] w fun e w' => e = .returned (.tuple #[]) ∧ w' = w.setCell a (.int .i32 1) := by
 gi_enter Tryz.func174, Tryz.ntmps174
 gi_wp2_with (gi_at_call 176; refine (lock_inner a _ hc hz).mono ?_; rintro e w' ⟨rfl, rfl⟩)
 go_end0
 exact ⟨rfl, rfl⟩
theorem unlock_inner (a : Addr) (w : World) (hc : w.cell? a = some (.int .i32 1)) (hz : w.frozen? a = false) :
  CallsIn Fence.wide 0 Tryz.prog 177 #[.pointer (some a)] w fun e w' => e = .returned (.tuple #[]) ∧ w' = w.setCell a (.int .i32 0) := by
 have hd := race_disable
 have he := race_enable
 have hr := race_release
 have hadd := run_call_add (P := Tryz.prog) Tryz.func184 (by kernel_rfl) (by kernel_rfl) (by kernel_rfl) .i32 (by kernel_rfl) (y := -1) (s := 0) hc hz (by simp [go_sem]; rfl)
 have hcv := run_convert_to_unsafe (P := Tryz.prog) (src := 248) (dst := 252) Tryz.underlying248 Tryz.underlying252 (by kernel_rfl) hc
 gi_enter Tryz.func177, Tryz.ntmps177
 gi_wp2
 all_goals (first | exact ⟨rfl, rfl⟩ | (go_end0; exact ⟨rfl, rfl⟩))
theorem unlock_deferred (a : Addr) (u : FrameMode) (w : World) (hc : w.cell? a = some (.int .i32 1)) (hz : w.frozen? a = false) :
  CallsDIn Fence.wide 0 Tryz.prog 175 #[.pointer (some a)] u w fun e u' w' => u' = u ∧ (e = .returned (.tuple #[]) ∧ w' = w.setCell a (.int .i32 0)) := by
 gi_enter_d Tryz.func175, Tryz.ntmps175
 gi_wp2_with (gi_at_call 177; refine (unlock_inner a _ hc hz).mono ?_; rintro e w' ⟨rfl, rfl⟩)
 go_end0
 exact ⟨rfl, rfl⟩
theorem store_now (a : Addr) (x : Value) (w : World) (hc : w.cell? a = some x) (hz : w.frozen? a = false) :
  CallsIn Fence.wide 0 Tryz.prog 169 #[.pointer (some a), .bool true] w fun e w' => e = .returned (.tuple #[]) ∧ w' = w.drew.setCell a (.int .u32 1) := by
 have hc' : w.drew.cell? a = some x := by go_simp
 have hz' : w.drew.frozen? a = false := by go_simp
 have hst := run_call_store (P := Tryz.prog) Tryz.func172 (by kernel_rfl) (by kernel_rfl) (by kernel_rfl) (by kernel_rfl) (k := .u32) (y := 1) hc' hz'
 gi_enter Tryz.func169, Tryz.ntmps169
 gi_wp2
 gi_region
 all_goals (go_end0; exact ⟨rfl, rfl⟩)
theorem dry_told (b off : Nat) (pl : Addr) (x5 : Value) (w : World) (hp : w.cell? pl = some (.pointer (some ⟨b, off, none⟩)))
  (h5 : w.cell? ⟨b, off + 5, none⟩ = some x5) (f5 : w.frozen? ⟨b, off + 5, none⟩ = false) :
  CallsIn Fence.wide 0 Tryz.prog 168 #[.pointer (some pl)] w fun e w' => e = .returned (.tuple #[]) ∧ w' = w.drew.setCell ⟨b, off + 5, none⟩ (.int .u32 1) := by
 gi_enter Tryz.func168, Tryz.ntmps168
 gi_wp2_with (gi_at_call 169; refine (store_now ⟨b, off + 5, none⟩ x5 _ h5 f5).mono ?_; rintro e w' ⟨rfl, rfl⟩)
 go_end0
 exact ⟨rfl, rfl⟩
theorem load_bool (a : Addr) (d : Int) (w : World) (hc : w.cell? a = some (.int .u32 d)) :
  CallsIn Fence.wide 0 Tryz.prog 59 #[.pointer (some a)] w fun e w' => e = .returned (.bool (d != 0)) ∧ w' = w := by
 have hl := run_call_load (P := Tryz.prog) Tryz.func113 (by kernel_rfl) (by kernel_rfl) (by kernel_rfl) .u32 (by kernel_rfl) hc
 gi_enter Tryz.func59, Tryz.ntmps59
 gi_wp2
 go_ret
 exact ⟨rfl, rfl⟩
theorem slow_any (b off : Nat) (pl : Addr) (hpb : ¬ b = pl.block) (x5 : Value) (w : World) (hp : w.cell? pl = some (.pointer (some ⟨b, off, none⟩)))
  (h2 : w.cell? ⟨b, off + 2, none⟩ = some (.int .u32 0)) (h3 : w.cell? ⟨b, off + 3, none⟩ = some (.int .i32 0)) (h5 : w.cell? ⟨b, off + 5, none⟩ = some x5)
  (f2 : w.frozen? ⟨b, off + 2, none⟩ = false) (f3 : w.frozen? ⟨b, off + 3, none⟩ = false) (f5 : w.frozen? ⟨b, off + 5, none⟩ = false) :
  CallsIn Fence.wide 0 Tryz.prog 171 #[.pointer (some ⟨b, off + 2, none⟩), .func (.func 168) #[] #[.pointer (some pl)]] w fun e w' => e = .returned (.tuple #[]) ∧
   w' = (((w.setCell ⟨b, off + 3, none⟩ (.int .i32 1)).drew.setCell ⟨b, off + 5, none⟩ (.int .u32 1)).drew.setCell ⟨b, off + 2, none⟩ (.int .u32 1)).setCell ⟨b, off + 3, none⟩ (.int .i32 0) := by
 have h21 : (w.setCell ⟨b, off + 3, none⟩ (.int .i32 1)).cell? ⟨b, off + 2, none⟩ = some (.int .u32 0) := ((World.cell?_setCell_other _ ⟨b, off + 3, none⟩ ⟨b, off + 2, none⟩ _ (by simp)).trans h2)
 have hp1 : (w.setCell ⟨b, off + 3, none⟩ (.int .i32 1)).cell? pl = some (.pointer (some ⟨b, off, none⟩)) := (World.cell?_setCell_other _ ⟨b, off + 3, none⟩ pl _ (fun h => hpb (by rw [← h]))).trans hp
 have h51 : (w.setCell ⟨b, off + 3, none⟩ (.int .i32 1)).cell? ⟨b, off + 5, none⟩ = some x5 := (World.cell?_setCell_other _ ⟨b, off + 3, none⟩ ⟨b, off + 5, none⟩ _ (by simp)).trans h5
 have f51 : (w.setCell ⟨b, off + 3, none⟩ (.int .i32 1)).frozen? ⟨b, off + 5, none⟩ = false := by simp [f5]
 have hnot : ∀ (x : Bool) (w : World), (Op.unary .not (.bool x)).run Tryz.prog w = .ok (.bool (!x)) w := fun _ _ => rfl
 gi_enter_defers Tryz.func171, Tryz.ntmps171
 gi_wp2_with (first | (gi_at_call 59; refine (load_bool ⟨b, off + 2, none⟩ 0 _ h21).mono ?_; rintro e w' ⟨rfl, rfl⟩) | (gi_at_call 174; refine (lock_free ⟨b, off + 3, none⟩ _ (by go_simp) (by go_simp)).mono ?_; rintro e w' ⟨rfl, rfl⟩) | (gi_at_call 168; refine (dry_told b off pl x5 _ hp1 h51 f51).mono ?_; rintro e w' ⟨rfl, rfl⟩))
 refine leavesIn_cons (f := 169) (args := #[.pointer (some ⟨b, off + 2, none⟩), .bool true]) (by simp) (by simp) (by simp [go_sem]) (by simp [Target.leads]) ?_
 refine (store_deferred ⟨b, off + 2, none⟩ (.int .u32 0) .returning _ ?_ (by simp [f2])).mono ?_
 ·rw [World.cell?_drew]
  exact (World.cell?_setCell_other _ ⟨b, off + 5, none⟩ ⟨b, off + 2, none⟩ _ (by simp)).trans ((World.cell?_setCell_other _ ⟨b, off + 3, none⟩ ⟨b, off + 2, none⟩ _ (by simp)).trans h2)
 rintro e u' w'' ⟨rfl, rfl, rfl⟩
 refine leavesIn_cons (f := 175) (args := #[.pointer (some ⟨b, off + 3, none⟩)]) (by simp [settle]) (by simp) (by simp [go_sem]) (by simp [Target.leads]) ?_
 refine (unlock_deferred ⟨b, off + 3, none⟩ _ _ ?_ (by simp [f3])).mono ?_
 ·refine (World.cell?_setCell_other _ ⟨b, off + 2, none⟩ ⟨b, off + 3, none⟩ _ (by simp)).trans ?_
  rw [World.cell?_drew, World.cell?_drew]
  refine (World.cell?_setCell_other _ ⟨b, off + 5, none⟩ ⟨b, off + 3, none⟩ _ (by simp)).trans ?_
  exact World.cell?_setCell_same w _ _ h3
 rintro e u' w'' ⟨rfl, rfl, rfl⟩
 simp [LeavesIn, settle, results, Tryz.results171]
 go_simp
set_option maxRecDepth 100000 in
set_option maxHeartbeats 1600000 in
theorem once_first (b off : Nat) (pl : Addr) (hpb : ¬ b = pl.block) (x5 : Value) (w : World) (hp : w.cell? pl = some (.pointer (some ⟨b, off, none⟩)))
  (h2 : w.cell? ⟨b, off + 2, none⟩ = some (.int .u32 0)) (h3 : w.cell? ⟨b, off + 3, none⟩ = some (.int .i32 0)) (h5 : w.cell? ⟨b, off + 5, none⟩ = some x5)
  (f2 : w.frozen? ⟨b, off + 2, none⟩ = false) (f3 : w.frozen? ⟨b, off + 3, none⟩ = false) (f5 : w.frozen? ⟨b, off + 5, none⟩ = false) :
  CallsIn Fence.wide 0 Tryz.prog 167 #[.pointer (some ⟨b, off + 2, none⟩), .func (.func 168) #[] #[.pointer (some pl)]] w fun e w' => e = .returned (.tuple #[]) ∧
   w' = (((w.setCell ⟨b, off + 3, none⟩ (.int .i32 1)).drew.setCell ⟨b, off + 5, none⟩ (.int .u32 1)).drew.setCell ⟨b, off + 2, none⟩ (.int .u32 1)).setCell ⟨b, off + 3, none⟩ (.int .i32 0) := by
 have hnot : ∀ (x : Bool) (w : World), (Op.unary .not (.bool x)).run Tryz.prog w = .ok (.bool (!x)) w := fun _ _ => rfl
 gi_enter Tryz.func167, Tryz.ntmps167
 gi_wp2_with (first | (gi_at_call 59; refine (load_bool ⟨b, off + 2, none⟩ 0 _ h2).mono ?_; rintro e w' ⟨rfl, rfl⟩) | (gi_at_call 171; refine (slow_any b off pl hpb x5 _ hp h2 h3 h5 f2 f3 f5).mono ?_; rintro e w' ⟨rfl, rfl⟩))
 go_end0
 exact ⟨rfl, rfl⟩
theorem once_again (a : Addr) (d : Int) (hd : ¬ d = 0) (fv : Value) (w : World) (h0 : w.cell? a = some (.int .u32 d)) :
  CallsIn Fence.wide 0 Tryz.prog 167 #[.pointer (some a), fv] w fun e w' => e = .returned (.tuple #[]) ∧ w' = w := by
 have hnot : ∀ (x : Bool) (w : World), (Op.unary .not (.bool x)).run Tryz.prog w = .ok (.bool (!x)) w := fun _ _ => rfl
 have hd' : (d != 0) = true := by simp [hd]
 gi_enter Tryz.func167, Tryz.ntmps167
 gi_wp2_with (gi_at_call 59; refine (load_bool a d _ h0).mono ?_; rintro e w' ⟨rfl, rfl⟩)
 go_end0
 exact ⟨rfl, rfl⟩
end Go.Proofs.YtghlgbhldnkdmaaGreat

namespace Go.Proofs.YtghlgbhldnkdmaaGreat
open Go
set_option linter.unusedSimpArgs false
set_option linter.unusedVariables false
set_option maxRecDepth 100000
def budV (l u d m s y : Int) : Array Value := #[.int .i64 l, .int .i64 u, .int .u32 d, .int .i32 m, .int .u32 s, .int .u32 y]
theorem prim_inv {w : World} {F : Nat → Nat → Prop} {η : List Value} {hp : List AObj} {u v : Value} (h : Rep w F η hp (.prim u) v) : v = u := by cases h; rfl
theorem ptr_inv {w : World} {F : Nat → Nat → Prop} {η : List Value} {hp : List AObj} {r o : Nat} {v : Value} (h : Rep w F η hp (.ptr r o) v) : ∃ b, v = .pointer (some ⟨b, o, none⟩) ∧ η[r]? = some (.pointer (some ⟨b, 0, none⟩)) := by
 cases h with | ptr _ _ b h1 => exact ⟨b, rfl, h1⟩
theorem bud_read {w : World} {F : Nat → Nat → Prop} {η : List Value} {hp : List AObj} {l u d m s y : Int} {b : Nat} (h : ObjOk w F η hp (.box (budC l u d m s y)) (.pointer (some ⟨b, 0, none⟩))) :
  ∃ T, w.heap[b]? = some (.cells (budV l u d m s y) T (0, 0)) := by
 obtain ⟨b', vs, T, e1, e2, e3, e4⟩ := h
 cases e1
 refine ⟨T, ?_⟩
 rw [e2]
 congr 2
 refine Array.ext (by rw [e3]; rfl) fun i h1 h2 => ?_
 have hs : i < 6 := h2
 have hu : vs[i]? = some vs[i] := Array.getElem?_eq_getElem h1
 match i, hs with
 | 0, _ => exact prim_inv (e4 0 _ _ rfl hu).1
 | 1, _ => exact prim_inv (e4 1 _ _ rfl hu).1
 | 2, _ => exact prim_inv (e4 2 _ _ rfl hu).1
 | 3, _ => exact prim_inv (e4 3 _ _ rfl hu).1
 | 4, _ => exact prim_inv (e4 4 _ _ rfl hu).1
 | 5, _ => exact prim_inv (e4 5 _ _ rfl hu).1
theorem bud_lay {w : World} {F : Nat → Nat → Prop} {η : List Value} {hp : List AObj} {l u d m s y : Int} (j : Nat) (x : AV) (v : Value) (h1 : (budC l u d m s y)[j]? = some x) (h2 : (budV l u d m s y)[j]? = some v) :
  Rep w F η hp x v ∧ v.oneCell' = true := by
 have hs : j < 6 := (List.getElem?_eq_some_iff.1 h1).1
 match j, hs with
 | 0, _ => cases h1; cases h2; exact ⟨.prim _, rfl⟩
 | 1, _ => cases h1; cases h2; exact ⟨.prim _, rfl⟩
 | 2, _ => cases h1; cases h2; exact ⟨.prim _, rfl⟩
 | 3, _ => cases h1; cases h2; exact ⟨.prim _, rfl⟩
 | 4, _ => cases h1; cases h2; exact ⟨.prim _, rfl⟩
 | 5, _ => cases h1; cases h2; exact ⟨.prim _, rfl⟩
theorem once_do (l u d s y : Int) : HFn Tryz.prog 167 [.ptr 0 2, .clo 168 [.ptr 1 0]] [.box (budC l u d 0 s y), .box [.ptr 0 0]]
  (fun r hp' => r = .tup [] ∧ hp' = [.box (budC l u (if d = 0 then 1 else d) 0 s (if d = 0 then 1 else y)), .box [.ptr 0 0]]) := by
 refine ⟨⟨_, Tryz.func167, by kernel_rfl, by kernel_rfl⟩, fun w F η vals hpre hv => ?_⟩
 match vals, hv with
 | [v0, v1], ⟨r0, r1, _⟩ =>
  obtain ⟨b, rfl, h0⟩ := ptr_inv r0
  cases r1 with
  | clo _ _ caps hl hc =>
   obtain ⟨c0, rfl⟩ : ∃ c0, caps = #[c0] := by
    match caps, hl with
    | ⟨[c0]⟩, _ => exact ⟨c0, rfl⟩
   obtain ⟨b1, rfl, h1⟩ := ptr_inv (hc 0 _ _ rfl rfl)
   obtain ⟨T, hb⟩ := bud_read (hpre.heap.obj 0 _ _ rfl h0)
   obtain ⟨b1', vs1, T1, e1, e2, e3, e4⟩ := hpre.heap.obj 1 _ _ rfl h1
   cases e1
   have hne : ¬ b = b1 := fun h => hpre.heap.sep 0 1 _ _ _ _ b (by omega) rfl rfl True.intro True.intro h0 h1 rfl (by rw [h]; rfl)
   obtain ⟨p0, rfl⟩ : ∃ p0, vs1 = #[p0] := by
    match vs1, e3 with
    | ⟨[c0]⟩, _ => exact ⟨c0, rfl⟩
   obtain ⟨b', rfl, h0'⟩ := ptr_inv (e4 0 _ _ rfl rfl).1
   rw [h0] at h0'
   cases h0'
   have cell : ∀ (k : Nat) (x : Value), (budV l u d 0 s y)[k]? = some x → w.cell? ⟨b, k, none⟩ = some x := fun k x hx => by simp only [World.cell?, hb]; exact hx
   have froz : ∀ k, w.frozen? ⟨b, k, none⟩ = false := fun k => by simp [World.frozen?, hb]
   by_cases hd : d = 0
   ·subst hd
    refine (once_first b 0 ⟨b1, 0, none⟩ hne (.int .u32 y) w (by simp only [World.cell?, e2]; rfl) (cell 2 _ rfl) (cell 3 _ rfl) (cell 5 _ rfl) (froz 2) (froz 3) (froz 5)).mono ?_
    rintro e w' ⟨rfl, rfl⟩
    refine ⟨_, .tup [], _, η, rfl, ⟨rfl, rfl⟩, ?_⟩
    have g1 := heap_setCell_same w b 3 _ T (.int .i32 1) hb
    have g2 := heap_setCell_same (w.setCell ⟨b, 3, none⟩ (.int .i32 1)).drew b 5 _ T (.int .u32 1) g1
    have g3 := heap_setCell_same ((w.setCell ⟨b, 3, none⟩ (.int .i32 1)).drew.setCell ⟨b, 5, none⟩ (.int .u32 1)).drew b 2 _ T (.int .u32 1) g2
    have g4 := heap_setCell_same _ b 3 _ T (.int .i32 0) g3
    refine hpost_box (q := 0) (b := b) (vs' := budV l u 1 0 s 1) (T := T) hpre rfl h0 ⟨rfl, rfl, rfl, by simp [World.drew], fun k _ hk => ?_⟩ (by simp [World.drew]) g4 rfl bud_lay (.tup [] #[] rfl fun j y u hy _ => by cases hy)
    rw [heap_setCell_other _ _ _ _ hk, heap_setCell_other _ _ _ _ hk]
    show ((w.setCell _ _).drew.setCell _ _).heap[k]? = _
    rw [heap_setCell_other _ _ _ _ hk]
    show (w.setCell _ _).heap[k]? = _
    rw [heap_setCell_other _ _ _ _ hk]
   ·refine (once_again ⟨b, 2, none⟩ d hd _ w (cell 2 _ rfl)).mono ?_
    rintro e w' ⟨rfl, rfl⟩
    refine ⟨_, .tup [], _, η, rfl, ⟨rfl, rfl⟩, ?_⟩
    simp only [hd, if_false]
    exact hpost_box (q := 0) (b := b) (vs' := budV l u d 0 s y) (T := T) hpre rfl h0 ⟨rfl, rfl, rfl, Nat.le_refl _, fun _ _ _ => rfl⟩ rfl hb rfl bud_lay (.tup [] #[] rfl fun j y u hy _ => by cases hy)
end Go.Proofs.YtghlgbhldnkdmaaGreat

namespace Go.Proofs.YtghlgbhldnkdmaaGreat
open Go
set_option linter.unusedSimpArgs false
set_option linter.unusedVariables false
variable {l u d m s y : Int}
theorem bud_left : HFn Tryz.prog 19 [.ptr 0 0] [.box (budC l u d m s y)] (fun r hp' => r = nI l ∧ hp' = [.box (budC l u d m s y)]) :=
 vc19_ok ⟨_, vc_loadLeft_ok (R := fun r hp' => r = nI l ∧ hp' = [.box (budC l u d m s y)]) ⟨rfl, rfl⟩, fun r q ⟨e1, e2⟩ => ⟨l, u, d, m, s, y, l, ⟨e1, e2⟩, rfl, rfl⟩⟩
theorem bud_dry : HFn Tryz.prog 20 [.ptr 0 0] [.box (budC l u d m s y)] (fun r hp' => r = nB (y != 0) ∧ hp' = [.box (budC l u d m s y)]) :=
 vc20_ok ⟨_, vc_loadDry_ok (R := fun r hp' => r = nB (y != 0) ∧ hp' = [.box (budC l u d m s y)]) ⟨rfl, rfl⟩, fun r q ⟨e1, e2⟩ => ⟨l, u, d, m, s, y, y != 0, ⟨e1, e2⟩, rfl, rfl⟩⟩
def lessW (l n : Int) : Int := IntKind.wrap .i64 (l + IntKind.wrap .i64 (0 - n))
def moreW (u n : Int) : Int := IntKind.wrap .i64 (u + n)
theorem bud_take (n : Int) : HFn Tryz.prog 163 [.ptr 0 0, nI n] [.box (budC l u d m s y)] (fun r hp' => r = .tup [] ∧ hp' = [.box (budC (lessW l n) (moreW u n) d m s y)]) :=
 vc163_ok ⟨_, vc_addLeft_ok (R := fun r hp' => r = nI (lessW l n) ∧ hp' = [.box (budC (lessW l n) u d m s y)]) ⟨rfl, rfl⟩, fun r q ⟨e1, e2⟩ => ⟨lessW l n, u, d, m, s, y, lessW l n, ⟨e1, e2⟩,
  _, vc_addUsed_ok (R := fun r hp' => r = nI (moreW u n) ∧ hp' = [.box (budC (lessW l n) (moreW u n) d m s y)]) ⟨rfl, rfl⟩, fun r q ⟨e1, e2⟩ => ⟨lessW l n, moreW u n, d, m, s, y, moreW u n, ⟨e1, e2⟩, rfl, rfl⟩⟩⟩
theorem bud_dried : HFn Tryz.prog 164 [.ptr 0 0] [.box (budC l u d 0 s y)] (fun r hp' => r = .tup [] ∧ hp' = [.box (budC l u (if d = 0 then 1 else d) 0 s (if d = 0 then 1 else y))]) :=
 vc164_ok ⟨_, once_do l u d s y, fun r q ⟨e1, e2⟩ => ⟨l, u, _, 0, s, _, ⟨e1, e2⟩, rfl, rfl⟩⟩
def spendC (l u d s y n : Int) : List AV := if y ≠ 0 ∨ n > l then budC (lessW l l) (moreW u l) (if d = 0 then 1 else d) 0 s (if d = 0 then 1 else y) else budC (lessW l n) (moreW u n) d 0 s y
theorem bud_spend (n : Int) (hn : 0 ≤ n) : HFn Tryz.prog 157 [.ptr 0 0, nI n] [.box (budC l u d 0 s y)]
  (fun r hp' => r = nB (decide (¬ (y ≠ 0 ∨ n > l))) ∧ hp' = [.box (spendC l u d s y n)]) := by
 refine vc157_ok ?_
 unfold vc157
 rw [show decide (n < 0) = false from decide_eq_false (by omega)]
 refine ⟨_, bud_dry, fun r q ⟨e1, e2⟩ => ⟨l, u, d, 0, s, y, y != 0, ⟨e1, e2⟩, ?_⟩⟩
 by_cases hy : y = 0
 ·subst hy
  refine ⟨_, bud_left, fun r q ⟨e1, e2⟩ => ⟨l, u, d, 0, s, 0, l, ⟨e1, e2⟩, ?_⟩⟩
  by_cases h : n > l
  ·rw [show decide (n > l) = true from decide_eq_true h]
   refine ⟨_, bud_left, fun r q ⟨e1, e2⟩ => ⟨l, u, d, 0, s, 0, l, ⟨e1, e2⟩, _, bud_take l, fun r q ⟨e1, e2⟩ => ⟨_, _, d, 0, s, 0, ⟨e1, e2⟩, _, bud_dried, fun r q ⟨e1, e2⟩ => ⟨_, _, _, 0, s, _, ⟨e1, e2⟩, ?_⟩⟩⟩⟩
   exact ⟨by simp [h], by simp only [spendC, h, or_true, if_true]⟩
  ·rw [show decide (n > l) = false from decide_eq_false h]
   refine ⟨_, bud_take n, fun r q ⟨e1, e2⟩ => ⟨_, _, d, 0, s, 0, ⟨e1, e2⟩, ?_⟩⟩
   exact ⟨by simp [h], by simp only [spendC, h, ne_eq, not_true_eq_false, or_self, if_false]⟩
 ·rw [show (y != 0) = true from by simp [hy]]
  refine ⟨_, bud_left, fun r q ⟨e1, e2⟩ => ⟨l, u, d, 0, s, y, l, ⟨e1, e2⟩, _, bud_take l, fun r q ⟨e1, e2⟩ => ⟨_, _, d, 0, s, y, ⟨e1, e2⟩, _, bud_dried, fun r q ⟨e1, e2⟩ => ⟨_, _, _, 0, s, _, ⟨e1, e2⟩, ?_⟩⟩⟩⟩
  exact ⟨by simp [hy], by simp only [spendC, ne_eq, hy, not_false_eq_true, true_or, if_true]⟩
end Go.Proofs.YtghlgbhldnkdmaaGreat

namespace Go.Proofs.YtghlgbhldnkdmaaGreat
open Go
set_option linter.unusedSimpArgs false
set_option linter.unusedVariables false
set_option maxRecDepth 100000
set_option maxHeartbeats 1600000
theorem store_int (a : Addr) (x : Value) (n : Int) (w : World) (hc : w.cell? a = some x) (hz : w.frozen? a = false) :
  CallsIn Fence.wide 0 Tryz.prog 88 #[.pointer (some a), .int .i64 n] w fun e w' => e = .returned (.tuple #[]) ∧ w' = w.setCell a (.int .i64 n) := by
 have hst := run_call_store (P := Tryz.prog) Tryz.func122 (by kernel_rfl) (by kernel_rfl) (by kernel_rfl) (by kernel_rfl) (k := .i64) (y := n) hc hz
 gi_enter Tryz.func88, Tryz.ntmps88
 gi_wp2
 go_end0
 exact ⟨rfl, rfl⟩
theorem new_walk (n : Int) (w : World) :
  CallsIn Fence.wide 0 Tryz.prog 36 #[.int .i64 n] w fun e w' => e = .returned (.pointer (some ⟨w.heap.size, 0, none⟩)) ∧
   w' = (w.alloc (.cells (budV 0 0 0 0 0 0) 129)).setCell ⟨w.heap.size, 0, none⟩ (.int .i64 (if n < 0 then 0 else n)) := by
 have hc : (w.alloc (.cells (budV 0 0 0 0 0 0) 129)).cell? ⟨w.heap.size, 0, none⟩ = some (.int .i64 0) := by simp [budV]
 have hz : (w.alloc (.cells (budV 0 0 0 0 0 0) 129)).frozen? ⟨w.heap.size, 0, none⟩ = false := by simp
 gi_enter Tryz.func36, Tryz.ntmps36
 gi_wp2_with (gi_at_call 88; refine (store_int ⟨w.heap.size, 0, none⟩ (.int .i64 0) _ _ hc hz).mono ?_; rintro e w' ⟨rfl, rfl⟩)
 all_goals (go_ret; exact ⟨rfl, rfl⟩)
theorem bud_new (n : Int) (hp : List AObj) : HFn Tryz.prog 36 [nI n] hp (fun r hp' => r = .ptr hp.length 0 ∧ hp' = hp ++ [.box (budC (if n < 0 then 0 else n) 0 0 0 0 0)]) := by
 refine ⟨⟨_, Tryz.func36, by kernel_rfl, by kernel_rfl⟩, fun w F η vals hpre hv => ?_⟩
 match vals, hv with
 | [v0], ⟨r0, _⟩ =>
  obtain rfl := prim_inv r0
  refine (new_walk n w).mono ?_
  rintro e w' ⟨rfl, rfl⟩
  have g0 : (w.alloc (.cells (budV 0 0 0 0 0 0) 129)).heap[w.heap.size]? = some (.cells (budV 0 0 0 0 0 0) 129 (0, 0)) := heap_alloc_new w _
  have g1 := heap_setCell_same _ w.heap.size 0 _ _ (.int .i64 (if n < 0 then 0 else n)) g0
  refine ⟨_, .ptr hp.length 0, _, _, rfl, ⟨rfl, rfl⟩, hpost_new (vs := budV (if n < 0 then 0 else n) 0 0 0 0 0) hpre ⟨rfl, rfl, rfl, by simp, fun k hk _ => ?_⟩ (by simp) g1 rfl bud_lay⟩
  rw [heap_setCell_other _ _ _ _ (Nat.ne_of_lt hk)]
  exact (Same.alloc w _).block k hk
end Go.Proofs.YtghlgbhldnkdmaaGreat

namespace Go.Proofs.YtghlgbhldnkdmaaGreat
open Go
set_option linter.unusedSimpArgs false
set_option linter.unusedVariables false
variable {l u d s y n : Int}
theorem lessW_eq (h0 : 0 ≤ n) (h1 : n ≤ l) (h2 : l ≤ 9223372036854775807) : lessW l n = l - n := by
 unfold lessW
 rw [IntWalk.i64_in (0 - n) (by omega), IntWalk.i64_in _ (by omega)]
 omega
theorem moreW_eq (h0 : 0 ≤ n) (h1 : 0 ≤ u) (h2 : u + n ≤ 9223372036854775807) : moreW u n = u + n := by
 unfold moreW
 rw [IntWalk.i64_in _ (by omega)]
theorem spend_one (h1 : 1 ≤ l) (h2 : 0 ≤ u) (h3 : l + u ≤ 9223372036854775807) : spendC l u 0 s 0 1 = budC (l - 1) (u + 1) 0 0 s 0 := by
 unfold spendC
 rw [if_neg (by omega), lessW_eq (by omega) (by omega) (by omega), moreW_eq (by omega) (by omega) (by omega)]
end Go.Proofs.YtghlgbhldnkdmaaGreat

namespace Go.Proofs.YtghlgbhldnkdmaaGreat
open Go
set_option linter.unusedSimpArgs false
set_option linter.unusedVariables false
theorem HFn.repw {P : Program} {f : FuncId} {args : List AV} {hp : List AObj} {R : AV → List AObj → Prop} (h : HFn P f args hp (fun r hp' => ∃ r2, RepW r r2 ∧ R r2 hp')) : HFn P f args hp R :=
 ⟨h.1, fun w F η vals hpre hv => (h.2 w F η vals hpre hv).mono fun e w' ⟨v, r, hp', η', he, ⟨r2, hw, hR⟩, hpost⟩ => ⟨v, r2, hp', η', he, hR, ⟨hpost.keeps, hpost.ext, hpost.heap, hpost.mine, hw _ _ _ _ _ hpost.rep⟩⟩⟩
theorem RepWL.repL {w : World} {F : Nat → Nat → Prop} {η : List Value} {hp : List AObj} : ∀ {xs ys : List AV} {vs : List Value}, RepWL xs ys → RepL w F η hp xs vs → RepL w F η hp ys vs
 | [], [], _, _, h => h
 | x :: xs, y :: ys, [], _, h => h.elim
 | x :: xs, y :: ys, v :: vs, hw, h => ⟨hw.1 _ _ _ _ _ h.1, RepWL.repL hw.2 h.2⟩
theorem HFn.args {P : Program} {f : FuncId} {args args' : List AV} {hp : List AObj} {R : AV → List AObj → Prop} (hw : RepWL args args') (h : HFn P f args' hp R) : HFn P f args hp R :=
 ⟨h.1, fun w F η vals hpre hv => h.2 w F η vals hpre (hw.repL hv)⟩
theorem repw_nil : RepW (.prim (.slice none 0 0)) (.sl []) := fun _ _ _ _ _ h => by cases h; exact .sl0 none
theorem repw_noTm' : RepW (.agg [.prim (.slice none 0 0), nI 0, nI 0, .prim (.slice none 0 0)]) (.agg [.sl [], nI 0, nI 0, .sl []]) := RepW.agg ⟨repw_nil, RepW.refl _, RepW.refl _, repw_nil, True.intro⟩
theorem mkOk {d : TD} {n : Nat} (h : d.bytes ≤ 1000) (hn : n ≤ 4000000000) : 0 ≤ (n : Int) ∧ (n : Int) ≤ 9223372036854775807 ∧ (TD.bytes d : Int) * (n : Int) ≤ 281474976710656 := by
 refine ⟨by omega, by omega, ?_⟩
 have h1 : (TD.bytes d : Int) * (n : Int) = ((d.bytes * n : Nat) : Int) := by simp
 have h2 : d.bytes * n ≤ 1000 * 4000000000 := Nat.mul_le_mul h hn
 rw [h1]; omega
def wrkO (l u d s y c e : Int) : List AObj := [.box (budC l u d 0 s y), .box [.ptr 0 0, nI c, nI e]]
structure BudOk (n : Nat) (l u d y : Int) : Prop where
 left : l = n
 used : 0 ≤ u
 sum : l + u ≤ 4000000000000000000
 dry : y = 0 ↔ d = 0
 none : y ≠ 0 → n = 0
structure MtOk (m : Mt) (l u d y c e : Int) : Prop where
 bud : BudOk m.left l u d y
 err : e = m.err
 most : m.count ≤ 100000
 count : m.err = 0 → c = m.count
 fuel : m.err = 11 → y ≠ 0
def MtHp (m : Mt) (hp : List AObj) : Prop := ∃ l u d s y c e, hp = wrkO l u d s y c e ∧ MtOk m l u d y c e
variable {m : Mt} {l u d s y c e : Int}
theorem spend_ok {left : Nat} (h : BudOk left l u d y) : HFn Tryz.prog 157 [.ptr 0 0, nI 1] [.box (budC l u d 0 s y)]
  (fun r hp' => ∃ l' u' d' y', r = nB (decide (left ≠ 0)) ∧ hp' = [.box (budC l' u' d' 0 s y')] ∧ BudOk (left - 1) l' u' d' y' ∧ (left = 0 → y' ≠ 0)) := by
 refine (bud_spend (l := l) (u := u) (d := d) (s := s) (y := y) 1 (by decide)).mono fun r hp' ⟨e1, e2⟩ => ?_
 have hl := h.left
 by_cases h0 : left = 0
 ·subst h0
  have hl0 : l = 0 := by simpa using hl
  subst hl0
  have hq : y ≠ 0 ∨ 1 > (0 : Int) := .inr (by decide)
  refine ⟨0, u, if d = 0 then 1 else d, if d = 0 then 1 else y, by rw [e1]; simp, ?_, ⟨rfl, h.used, by have := h.sum; omega, ?_, fun _ => rfl⟩, fun _ => ?_⟩
  ·rw [e2, spendC, if_pos hq, lessW_eq (by omega) (by omega) (by omega), moreW_eq (by omega) h.used (by have := h.sum; omega)]
   simp
  ·by_cases hd : d = 0
   ·simp [hd]
   ·simp only [hd, if_false]
    exact ⟨fun hy => (hd (h.dry.1 hy)).elim, fun hd' => hd'.elim⟩
  ·by_cases hd : d = 0
   ·simp [hd]
   ·simp only [hd, if_false]
    exact fun hy => hd (h.dry.1 hy)
 ·have hy : y = 0 := Decidable.byContradiction fun hc => h0 (h.none hc)
  have hd : d = 0 := h.dry.1 hy
  subst hy; subst hd
  have hq : ¬ ((0 : Int) ≠ 0 ∨ 1 > l) := by omega
  refine ⟨l - 1, u + 1, 0, 0, ?_, ?_, ⟨by omega, by have := h.used; omega, by have := h.sum; omega, Iff.rfl, fun h => (h rfl).elim⟩, fun h => (h0 h).elim⟩
  ·rw [e1, decide_eq_true hq, decide_eq_true h0]
  ·rw [e2, spend_one (by omega) h.used (by have := h.sum; omega)]
theorem fail_calls (e1 : Int) : HFn Tryz.prog 120 [.ptr 1 0, nI e1] (wrkO l u d s y c e) (fun r hp' => r = .tup [] ∧ hp' = wrkO l u d s y c (if e = 0 then e1 else e)) :=
 vc120_ok (ITE.intro (fun h => ⟨rfl, by rw [if_pos (by simpa using h)]; rfl⟩) fun h => ⟨rfl, by rw [if_neg (by simpa using h)]; rfl⟩)
theorem units_stop {m : Mt} (h : m.err ≠ 0) : ∀ n, m.units n = (m, false)
 | 0 => by rw [Mt.units, decide_eq_false h]
 | n + 1 => by
  have h1 : m.one = (m, false) := by unfold Mt.one; rw [if_pos h]
  rw [Mt.units, h1]; rfl
theorem units_succ (m : Mt) (n : Nat) : m.units (n + 1) = m.one.1.units n := by
 rw [Mt.units]
 cases h : m.one.2 with
 | true => rfl
 | false => rw [units_stop (one_false h).1]; rfl
theorem MtOk.failed (h : MtOk m l u d y c e) (c' : Int) {e' : Int} (he : e' ≠ 0) (hf : e' = 11 → y ≠ 0) : MtOk ⟨m.left, m.count, e'⟩ l u d y c' e' := ⟨h.bud, rfl, h.most, fun h => (he h).elim, hf⟩
theorem unit_calls (n : Nat) (hn : n ≤ 1000000000) (h : MtOk m l u d y c e) : HFn Tryz.prog 135 [.ptr 1 0, nI n] (wrkO l u d s y c e) (fun r hp' => r = nB (m.units n).2 ∧ MtHp (m.units n).1 hp') := by
 refine vc135_ok ?_
 unfold vc135 vc135_L1
 refine LoopP.intro (β := Nat × Mt × Int × Int × Int × Int × Int × Int × Int) (fun b => (((), (b.1 : Int), ()), ((b.2.2.1, b.2.2.2.1, b.2.2.2.2.1, (0 : Int), b.2.2.2.2.2.1, b.2.2.2.2.2.2.1, ()), ((), b.2.2.2.2.2.2.2.1, b.2.2.2.2.2.2.2.2, ()), ())))
  (fun b => m.units n = b.2.1.units b.1 ∧ b.1 ≤ n ∧ MtOk b.2.1 b.2.2.1 b.2.2.2.1 b.2.2.2.2.1 b.2.2.2.2.2.2.1 b.2.2.2.2.2.2.2.1 b.2.2.2.2.2.2.2.2) (fun b => b.1) (n, m, l, u, d, s, y, c, e) rfl ⟨rfl, Nat.le_refl _, h⟩ ?_
 rintro ⟨k, m', l, u, d, s, y, c, e⟩ ⟨hk, hkn, h⟩ again hag
 dsimp only at hk hkn h ⊢
 have he := h.err
 refine ITE.intro (fun hp => ?_) fun hp => ?_
 ·have hp : (k : Int) > 0 := of_decide_eq_true hp
  obtain ⟨j, rfl⟩ : ∃ j, k = j + 1 := ⟨k - 1, by omega⟩
  have hw : IntKind.wrap .i64 (((j + 1 : Nat) : Int) - 1) = ((j : Nat) : Int) := by rw [wrap_i (by omega) (by omega)]; omega
  refine ITE.intro (fun h1 => ?_) fun h1 => ?_
  ·have he0 : e = 0 := by simpa using h1
   have hm0 : m'.err = 0 := by rw [← he]; exact he0
   have hc := h.count hm0
   subst he0
   rw [units_succ] at hk
   refine ITE.intro (fun h2 => ?_) fun h2 => ?_
   ·have hcc : m'.count = 100000 := by have : c = 100000 := (by simpa using h2); omega
    refine ⟨_, fail_calls 2, fun r q ⟨e1, e2⟩ => ⟨l, u, d, 0, s, y, c, 2, ⟨e1, e2⟩, ?_⟩⟩
    rw [hw]
    have h1 : m'.one.1 = ⟨m'.left, m'.count, 2⟩ := by unfold Mt.one; rw [if_neg (by simp [hm0]), if_pos hcc]
    rw [h1] at hk
    exact hag (j, ⟨m'.left, m'.count, 2⟩, l, u, d, s, y, _, 2) ⟨hk, by omega, h.failed _ (by decide) (fun h => by simp at h)⟩ (Nat.lt_succ_self j)
   ·have hcc : ¬ m'.count = 100000 := by have : ¬ c = 100000 := (by simpa using h2); omega
    refine ⟨_, spend_ok h.bud, fun r q ⟨l', u', d', y', e1, e2, hb, hz⟩ => ⟨l', u', d', 0, s, y', _, ⟨e1, e2⟩, ?_⟩⟩
    refine ITE.intro (fun h3 => ?_) fun h3 => ?_
    ·have h0 : m'.left = 0 := by simpa using h3
     refine ⟨_, fail_calls 11, fun r q ⟨e1, e2⟩ => ⟨l', u', d', 0, s, y', c, 11, ⟨e1, e2⟩, ?_⟩⟩
     rw [hw]
     have h1 : m'.one.1 = ⟨m'.left, m'.count, 11⟩ := by unfold Mt.one; rw [if_neg (by simp [hm0]), if_neg hcc, if_pos h0]
     rw [h1] at hk
     rw [h0] at hb
     exact hag (j, ⟨m'.left, m'.count, 11⟩, l', u', d', s, y', _, 11) ⟨hk, by omega, by rw [h0]; exact hb, rfl, h.most, fun h => by simp at h, fun _ => hz h0⟩ (Nat.lt_succ_self j)
    ·have h0 : ¬ m'.left = 0 := by simpa using h3
     rw [hw]
     have h1 : m'.one.1 = ⟨m'.left - 1, m'.count + 1, 0⟩ := by unfold Mt.one; rw [if_neg (by simp [hm0]), if_neg hcc, if_neg h0, hm0]
     have hcm := h.most
     have hcn : m'.count ≤ 4000000000 := by omega
     rw [h1] at hk
     rw [hc, wrap_n hcn]
     exact hag (j, ⟨m'.left - 1, m'.count + 1, 0⟩, l', u', d', s, y', _, 0) ⟨hk, by omega, hb, rfl, by simp only; omega, fun _ => rfl, fun h => by simp at h⟩ (Nat.lt_succ_self j)
  ·have he0 : ¬ e = 0 := by simpa using h1
   have hm0 : m'.err ≠ 0 := by rw [← he]; exact he0
   rw [units_stop hm0] at hk
   rw [hk]
   exact ⟨by rw [show (e == 0) = false from by simp [he0]], l, u, d, s, y, c, e, rfl, h⟩
 ·have hp : ¬ (k : Int) > 0 := of_decide_eq_false hp
  obtain rfl : k = 0 := by omega
  rw [Mt.units] at hk
  rw [hk]
  refine ⟨?_, l, u, d, s, y, c, e, rfl, h⟩
  rw [he]
  by_cases h0 : m'.err = 0
  ·simp [h0]
  ·simp [h0]
end Go.Proofs.YtghlgbhldnkdmaaGreat

namespace Go.Proofs.YtghlgbhldnkdmaaGreat
open Go
set_option linter.unusedSimpArgs false
set_option linter.unusedVariables false
theorem lifted_calls {B b : Nat} (hB : B ≤ 1000000) : ∀ (n : Nat) (t : Tm) (d : Nat), t.nodes ≤ n → t.Lo B → d + B * n ≤ 4000000000000000000 →
  PureIs Tryz.prog 161 [.agg [.sl (t.binds.map Ty.enc), nI t.kind, nI t.index, .sl (t.args.map Tm.enc)], nI b, nI d] (.agg [.sl ((t.lift b d).binds.map Ty.enc), nI (t.lift b d).kind, nI (t.lift b d).index, .sl ((t.lift b d).args.map Tm.enc)]) := by
 intro n
 induction n with
 | zero => intro t d h; have := t.nodes_pos; omega
 | succ n ih =>
  intro t d h hlo hd
  have hl := Tm.lo_eq.1 hlo
  have hb := Ty.sizes_len t.binds
  have hmul : B * (n + 1) = B * n + B := by rw [Nat.mul_succ]
  have hw : IntKind.wrap .i64 ((d : Int) + ((List.length (t.binds.map Ty.enc) : Nat) : Int)) = ((d + t.binds.length : Nat) : Int) := by
   rw [List.length_map, wrap_i (by omega) (by omega)]; omega
  have ha : (t.lift b d).args = t.args.map (Tm.lift b (d + t.binds.length)) := Tm.lift_args b d t
  have loop : ∀ ix : Int, ix = (t.lift b d).index → vc161_L6 ((b, ((d + t.binds.length : Nat) : Int), (), (), (), t.args.map Tm.enc, ((List.length (t.args.map Tm.enc) : Nat) : Int), 0, ()), ((t.binds.map Ty.enc, t.kind, ix, t.args.map Tm.enc, ()), ((), 0, 0, (), ()), [], ())) (fun x => x = .agg [.sl ((t.lift b d).binds.map Ty.enc), nI (t.lift b d).kind, nI (t.lift b d).index, .sl ((t.lift b d).args.map Tm.enc)]) := by
   intro ix hix
   refine LoopP.intro (fun k : Nat => (((b : Int), ((d + t.binds.length : Nat) : Int), (), (), (), t.args.map Tm.enc, (t.args.length : Int), (k : Int), ()), ((t.binds.map Ty.enc, t.kind, ix, t.args.map Tm.enc, ()), ((), (0 : Int), (0 : Int), (), ()), ((t.lift b d).args.take k).map Tm.enc, ())))
    (fun k => k ≤ t.args.length) (fun k => t.args.length - k) 0 (by rw [List.length_map]; rfl) (Nat.zero_le _) ?_
   intro k hk again hag
   dsimp only
   refine ITE.intro (fun h => ?_) fun h => ?_
   ·have hlt : k < t.args.length := by simpa using h
    have hz : t.args[k].nodes ≤ n := by have := Tm.nodess_mem (List.getElem_mem hlt); have := t.nodes_eq; omega
    have hi := ih t.args[k] (d + t.binds.length) hz (Tm.los_iff.1 hl.2.2 _ (List.getElem_mem hlt)) (by omega)
    have hlt2 : k < (t.lift b d).args.length := by rw [ha, List.length_map]; exact hlt
    have hg : (t.lift b d).args[k] = Tm.lift b (d + t.binds.length) t.args[k] := by simp [ha]
    rw [← hg] at hi
    refine ⟨by omega, by rw [List.length_map]; omega, _, _, _, _, Tm.enc_getD hlt, _, _, _, _, hi, rfl, appOk_nil (fun x hx => by simp at hx; subst hx; rfl) (by simp; omega) (by decide), rfl, ?_⟩
    rw [wrap_n (by omega), Tm.enc_snoc, take_snoc' hlt2]
    exact hag (k + 1) (by omega) (by omega)
   ·have : t.args.length ≤ k := by simpa using h
    refine ⟨rfl, ?_⟩
    rw [List.take_of_length_le (by rw [ha, List.length_map]; exact this), hix, Tm.lift_binds, Tm.lift_kind]
  have hm : ∀ {dd : TD}, dd.bytes ≤ 1000 → (0 ≤ ((List.length (t.args.map Tm.enc) : Nat) : Int) ∧ ((List.length (t.args.map Tm.enc) : Nat) : Int) ≤ 9223372036854775807 ∧ (TD.bytes dd : Int) * ((List.length (t.args.map Tm.enc) : Nat) : Int) ≤ 281474976710656) :=
   fun hd => mkOk hd (by rw [List.length_map]; omega)
  refine vc161_ok ?_
  unfold vc161
  rw [hw]
  have hidx : (t.lift b d).index = if t.kind = 0 ∧ ((d + t.binds.length : Nat) : Int) ≤ t.index then IntKind.wrap .i64 (t.index + b) else t.index := by rw [Tm.lift_eq]; rfl
  refine ITE.intro (fun h => ?_) fun h => ?_
  ·have h0 : t.kind = 0 := by simpa using h
   refine ITE.intro (fun h1 => ?_) fun h1 => ?_
   ·have h1 : ((d + t.binds.length : Nat) : Int) ≤ t.index := of_decide_eq_true h1
    exact ⟨hm (by decide), rfl, loop _ (by rw [hidx, if_pos ⟨h0, h1⟩])⟩
   ·have h1 : ¬ ((d + t.binds.length : Nat) : Int) ≤ t.index := of_decide_eq_false h1
    exact ⟨hm (by decide), rfl, loop _ (by rw [hidx, if_neg (fun h => h1 h.2)])⟩
  ·have h0 : ¬ t.kind = 0 := by simpa using h
   exact ⟨hm (by decide), rfl, loop _ (by rw [hidx, if_neg (fun h => h0 h.1)])⟩
mutual
theorem Tm.lift_zero : ∀ (t : Tm) (d : Nat), t.Ok → t.lift 0 d = t
 | .mk bs k i l, d, h => by
  obtain ⟨h1, h2, h3⟩ := h
  rw [Tm.lift, Tm.lifts_zero l _ h3]
  congr 1
  split
  ·rw [show i + ((0 : Nat) : Int) = i from by omega, h2.wrap]
  ·rfl
theorem Tm.lifts_zero : ∀ (l : List Tm) (d : Nat), Tm.Oks l → Tm.lifts 0 d l = l
 | [], _, _ => rfl
 | t :: l, d, h => by rw [Tm.lifts, Tm.lift_zero t d h.1, Tm.lifts_zero l d h.2]
end
theorem ngrown_calls {B b : Nat} {t : Tm} (hB : B ≤ 1000000) (hn : t.nodes ≤ 1000000000) (hlo : t.Lo B) :
  PureIs Tryz.prog 152 [.agg [.sl (t.binds.map Ty.enc), nI t.kind, nI t.index, .sl (t.args.map Tm.enc)], nI b] (.agg [.sl ((t.lift b 0).binds.map Ty.enc), nI (t.lift b 0).kind, nI (t.lift b 0).index, .sl ((t.lift b 0).args.map Tm.enc)]) := by
 have := Nat.mul_le_mul hB hn
 refine vc152_ok (ITE.intro (fun h => ?_) fun h => ⟨_, _, _, _, lifted_calls (b := b) hB _ t 0 (Nat.le_refl _) hlo (by omega), rfl⟩)
 have h0 : b = 0 := by simpa using h
 subst h0
 rw [Tm.lift_zero t 0 (Tm.lo_ok hlo)]
end Go.Proofs.YtghlgbhldnkdmaaGreat

namespace Go.Proofs.YtghlgbhldnkdmaaGreat
open Go
set_option linter.unusedSimpArgs false
set_option linter.unusedVariables false
theorem units_one (m : Mt) : m.units 1 = m.one := by
 rw [Mt.units]
 cases h : m.one.2 with
 | true =>
  rw [if_pos rfl, Mt.units]
  obtain ⟨_, _, _, h3⟩ := one_true h
  rw [show m.one = (m.one.1, m.one.2) from rfl, h, h3]
  rfl
 | false =>
  rw [if_neg (by simp), ← h]
def MtRes (N : Nat) (m : Mt) (t : Tm) (r : AV) (hp' : List AObj) : Prop := MtHp m hp' ∧ ∃ t' : Tm, r = .agg [.sl (t'.binds.map Ty.enc), nI t'.kind, nI t'.index, .sl (t'.args.map Tm.enc)] ∧ (m.err = 0 → t' = t) ∧ t'.binds.length ≤ N
def ThrP (B f : Nat) : Prop := ∀ (m : Mt) (us : List Tm) (bs : List Ty) (k i : Int) (args : List Tm) (n d : Nat) (l u x s y c e : Int), MtOk m l u x y c e → (m.err = 0 → 100000 < f + m.count) →
 Ty.sizes bs ≤ B → I64 k → I64 i → args.length ≤ B → Tm.Los B args → Tm.Los B us → (∀ t ∈ us, t.nodes ≤ 1000000000) → us.length ≤ n → n ≤ B → d + B * (f + 1) ≤ 4000000000000000000 →
 HFn Tryz.prog 121 [.agg [.ptr 1 0, .sl (us.map Tm.enc), nI n], .agg [.sl (bs.map Ty.enc), nI k, nI i, .sl (args.map Tm.enc)], nI d] (wrkO l u x s y c e)
  (MtRes bs.length (bodyT f m k i args us n (d + bs.length)).1 (.mk bs (bodyT f m k i args us n (d + bs.length)).2.kind (bodyT f m k i args us n (d + bs.length)).2.index (bodyT f m k i args us n (d + bs.length)).2.args))
def PutP (B f : Nat) : Prop := ∀ (m : Mt) (t : Tm) (us : List Tm) (l u x s y c e : Int), MtOk m l u x y c e → (m.err = 0 → 100000 < f + m.count) → t.Lo B → (m.err = 0 → Tm.Los B us ∧ ∀ t ∈ us, t.nodes ≤ 1000000000) →
 B * (f + 1) ≤ 4000000000000000000 →
 HFn Tryz.prog 87 [.ptr 1 0, .agg [.sl (t.binds.map Ty.enc), nI t.kind, nI t.index, .sl (t.args.map Tm.enc)], .sl (us.map Tm.enc)] (wrkO l u x s y c e) (MtRes t.binds.length (putT f m t us).1 (putT f m t us).2)
theorem noTm_res {N : Nat} {m : Mt} {t : Tm} {hp' : List AObj} (h : MtHp m hp') (he : m.err ≠ 0) : ∃ r2, RepW (.agg [.prim (.slice none 0 0), nI 0, nI 0, .prim (.slice none 0 0)]) r2 ∧ MtRes N m t r2 hp' :=
 ⟨_, repw_noTm', h, noTm, rfl, fun h0 => (he h0).elim, Nat.zero_le _⟩
theorem putP_of {B f : Nat} (hB : B ≤ 1000000) (ht : ThrP B f) : PutP B f := by
 intro m t us l u x s y c e hm hf hlo hus hk
 have he := hm.err
 have hl := Tm.lo_eq.1 hlo
 have hbl := Ty.sizes_len t.binds
 refine HFn.repw (vc87_ok (ITE.intro (fun h => ?_) fun h => ?_))
 ·have h0 : ¬ e = 0 := by simpa using h
  have hm0 : m.err ≠ 0 := by rw [← he]; exact h0
  refine ⟨_, fail_calls 1, fun r q ⟨e1, e2⟩ => ⟨l, u, x, 0, s, y, c, _, ⟨e1, e2⟩, ?_⟩⟩
  have : putT f m t us = (m, noTm) := by unfold putT; rw [if_pos hm0]
  rw [this]
  rw [if_neg h0]
  exact noTm_res ⟨l, u, x, s, y, c, e, rfl, hm⟩ hm0
 ·have h0 : e = 0 := by simpa using h
  have hm0 : m.err = 0 := by rw [← he]; exact h0
  obtain ⟨hu, hn⟩ := hus hm0
  refine ITE.intro (fun h => ?_) fun h => ?_
  ·have h1 : t.binds.length < us.length := by have := of_decide_eq_true h; rw [List.length_map, List.length_map] at this; omega
   refine ⟨_, fail_calls 1, fun r q ⟨e1, e2⟩ => ⟨l, u, x, 0, s, y, c, _, ⟨e1, e2⟩, ?_⟩⟩
   have : putT f m t us = (⟨m.left, m.count, 1⟩, noTm) := by unfold putT; rw [if_neg (by simp [hm0]), if_pos h1]
   rw [this, if_pos h0]
   exact noTm_res ⟨l, u, x, s, y, c, 1, rfl, hm.failed c (by decide) (fun h => by simp at h)⟩ (by simp)
  ·have h1 : ¬ t.binds.length < us.length := by have := of_decide_eq_false h; rw [List.length_map, List.length_map] at this; omega
   have hp : putT f m t us = ((bodyT f m t.kind t.index t.args us t.binds.length 0).1, .mk (t.binds.drop us.length) (bodyT f m t.kind t.index t.args us t.binds.length 0).2.kind (bodyT f m t.kind t.index t.args us t.binds.length 0).2.index (bodyT f m t.kind t.index t.args us t.binds.length 0).2.args) := by
    unfold putT; rw [if_neg (by simp [hm0]), if_neg h1]
   have hthr := ht m us [] t.kind t.index t.args t.binds.length 0 l u x s y c e hm hf (by simp [Ty.sizes]) hl.2.1.1 hl.2.1.2 hl.1.2 hl.2.2 hu hn (by omega) (by omega) (by omega)
   rw [List.length_nil, Nat.add_zero] at hthr
   rw [hp]
   generalize bodyT f m t.kind t.index t.args us t.binds.length 0 = q at hthr
   rw [List.length_map, List.length_map]
   refine ⟨_, HFn.args (by exact ⟨RepW.refl _, RepW.agg ⟨repw_nil, RepW.refl _, RepW.refl _, RepW.refl _, True.intro⟩, RepW.refl _, True.intro⟩) hthr, fun r hq ⟨⟨l', u', x', s', y', c', e', e2, hm'⟩, t', e1, ht', _⟩ => ⟨l', u', x', 0, s', y', c', e', _, _, _, _, ⟨e1, e2⟩, ?_⟩⟩
   refine ⟨⟨by omega, by omega, by omega, fun z hz => Ty.enc_cells z hz⟩, ?_⟩
   rw [Int.toNat_natCast, Int.toNat_natCast, List.take_of_length_le (by rw [List.length_map]; omega), ← List.map_drop]
   refine ⟨_, RepW.refl _, ⟨l', u', x', s', y', c', e', rfl, hm'⟩, .mk (t.binds.drop us.length) t'.kind t'.index t'.args, rfl, fun h => ?_, by rw [Tm.binds_mk, List.length_drop]; omega⟩
   rw [ht' h]; rfl
theorem thrP_zero {B : Nat} (hB : B ≤ 1000000) : ThrP B 0 := by
 intro m us bs k i args n d l u x s y c e hm hf hbs hk hi hla hlo hus hun hn hnB hd
 have hm0 : m.err ≠ 0 := fun h => by have := hf h; have := hm.most; omega
 refine HFn.repw (vc121_ok ⟨_, unit_calls 1 (by omega) hm, fun r q ⟨e1, l', u', x', s', y', c', e', e2, hm'⟩ => ⟨l', u', x', 0, s', y', c', e', _, ⟨e1, e2⟩, ?_⟩⟩)
 rw [units_stop hm0] at hm' ⊢
 refine ITE.pos rfl ?_
 rw [(bodyT_to 0 m k i args us n (d + bs.length)).stop hm0]
 exact noTm_res ⟨l', u', x', s', y', c', e', rfl, hm'⟩ hm0
theorem thrP_succ {B f : Nat} (hB : B ≤ 1000000) (ih : ThrP B f) : ThrP B (f + 1) := by
 have hput := putP_of hB ih
 intro m us bs k i args n d l u x s y c e hm hf hbs hk hi hla hlo hus hun hn hnB hd
 have hbl := Ty.sizes_len bs
 have hmul : B * (f + 1 + 1) = B * (f + 1) + B := Nat.mul_succ _ _
 have hBf : B ≤ B * (f + 1) := Nat.le_mul_of_pos_right _ (Nat.succ_pos f)
 refine HFn.repw (vc121_ok ⟨_, unit_calls 1 (by omega) hm, fun r q ⟨e1, l', u', x', s', y', c', e', e2, hm'⟩ => ⟨l', u', x', 0, s', y', c', e', _, ⟨e1, e2⟩, ?_⟩⟩)
 rw [units_one] at hm' ⊢
 have hw : IntKind.wrap .i64 ((d : Int) + ((List.length (bs.map Ty.enc) : Nat) : Int)) = ((d + bs.length : Nat) : Int) := by
  rw [List.length_map, wrap_i (by omega) (by omega)]; omega
 rw [hw]
 generalize hD : d + bs.length = D
 have hD2 : D + B * (f + 1) ≤ 4000000000000000000 := by omega
 refine ITE.intro (fun h => ?_) fun h => ⟨rfl, ?_⟩
 ·have h : m.one.2 = false := by simpa using h
  have : bodyT (f + 1) m k i args us n D = (m.one.1, noTm) := by rw [bodyT, if_pos h]
  rw [this]
  exact noTm_res ⟨l', u', x', s', y', c', e', rfl, hm'⟩ (one_false h).1
 have h : m.one.2 = true := by simpa using h
 obtain ⟨g0, g1, g2, g3⟩ := one_true h
 have hbody : bodyT (f + 1) m k i args us n D = headT (bodyT f) (goArgs (withinT (bodyT f) us n D) m.one.1 args) k i us n D := by rw [bodyT, if_neg (by simp [h])]
 rw [hbody]
 have hcnt : m.one.1.count = m.count + 1 := by rw [g3]
 have hfuel : ∀ m' : Mt, m.one.1.To m' → m'.err = 0 → 100000 < f + m'.count := fun m' h h0 => by have := h.more; have := hf g0; omega
 have hkeep := withinT_to f us n D
 have hform : ∀ (l : List Tm) (m' : Mt), (∀ t ∈ l, t ∈ args) → (goArgs (withinT (bodyT f) us n D) m' l).1.err = 0 → Tm.nodess (goArgs (withinT (bodyT f) us n D) m' l).2 + m'.count ≤ (goArgs (withinT (bodyT f) us n D) m' l).1.count ∧ Tm.Los B (goArgs (withinT (bodyT f) us n D) m' l).2 := by
  intro l m' hsub he0
  refine goArgs_form hkeep l m' (fun t ht m'' hto' he' => ?_) he0
  have hlo' := Tm.lo_eq.1 (Tm.los_iff.1 hlo t (hsub t ht))
  have := bodyT_form (B := B) f m'' t.kind t.index t.args us n (D + t.binds.length) hlo'.2.1.1 hlo'.2.1.2 hlo'.1.2 hlo'.2.2 hus hn he'
  have hq := Tm.lo_eq.1 this.1.lo
  have hqn := this.1.nodes
  rw [Tm.nodes_eq] at hqn
  exact ⟨by unfold withinT; rw [Tm.nodes_eq, Tm.args_mk]; exact hqn, Tm.lo_eq.2 ⟨⟨hlo'.1.1, hq.1.2⟩, hq.2⟩⟩
 have hlen := goArgs_len (g := withinT (bodyT f) us n D) args m.one.1
 have hlos := hform args m.one.1 fun t h => h
 unfold vc121_L6
 refine LoopP.intro (β := Nat × Mt × Int × Int × Int × Int × Int × Int × Int × List Tm) (fun b => (((D : Int), (), (), (), (), args.map Tm.enc, (args.length : Int), (b.1 : Int), ()), ((b.2.2.1, b.2.2.2.1, b.2.2.2.2.1, (0 : Int), b.2.2.2.2.2.1, b.2.2.2.2.2.2.1, ()), ((), b.2.2.2.2.2.2.2.1, b.2.2.2.2.2.2.2.2.1, ()), ((), us.map Tm.enc, (n : Int), ()), (bs.map Ty.enc, k, i, args.map Tm.enc, ()), ((), (0 : Int), (0 : Int), (), ()), (bs.map Ty.enc, k, i, (), ()), b.2.2.2.2.2.2.2.2.2.map Tm.enc, ())))
  (fun b => b.1 ≤ args.length ∧ MtOk b.2.1 b.2.2.1 b.2.2.2.1 b.2.2.2.2.1 b.2.2.2.2.2.2.1 b.2.2.2.2.2.2.2.1 b.2.2.2.2.2.2.2.2.1 ∧ m.one.1.To b.2.1 ∧ b.2.2.2.2.2.2.2.2.2.length = b.1 ∧
   ∃ pre : List Tm, goArgs (withinT (bodyT f) us n D) m.one.1 args = ((goArgs (withinT (bodyT f) us n D) b.2.1 (args.drop b.1)).1, pre ++ (goArgs (withinT (bodyT f) us n D) b.2.1 (args.drop b.1)).2) ∧ (b.2.1.err = 0 → b.2.2.2.2.2.2.2.2.2 = pre))
  (fun b => args.length - b.1) (0, m.one.1, l', u', x', s', y', c', e', []) (by rw [List.length_map]; rfl) ⟨Nat.zero_le _, hm', .refl _, rfl, [], by rw [List.drop_zero, List.nil_append], fun _ => rfl⟩ ?_
 rintro ⟨j, m', l, u, x, s, y, c, e, acc⟩ ⟨hj, hm', hto, hacc, pre, hgo, hpre⟩ again hag
 dsimp only at hj hm' hto hacc hgo hpre ⊢
 have he := hm'.err
 refine ITE.intro (fun h => ?_) fun h => ?_
 ·have hlt : j < args.length := by simpa using h
  have hlo' := Tm.lo_eq.1 (Tm.los_iff.1 hlo args[j] (List.getElem_mem hlt))
  have hstep : vc121_L8 (((D : Int), (), (), (), (), args.map Tm.enc, (args.length : Int), (j : Int), ()), ((l, u, x, (0 : Int), s, y, ()), ((), c, e, ()), ((), us.map Tm.enc, (n : Int), ()), (bs.map Ty.enc, k, i, args.map Tm.enc, ()), ((), (0 : Int), (0 : Int), (), ()), (bs.map Ty.enc, k, i, (), ()), acc.map Tm.enc, ())) (args[j].binds.map Ty.enc) args[j].kind args[j].index (args[j].args.map Tm.enc) again := by
   refine ⟨_, ih m' us args[j].binds args[j].kind args[j].index args[j].args n D l u x s y c e hm' (hfuel m' hto) hlo'.1.1 hlo'.2.1.1 hlo'.2.1.2 hlo'.1.2 hlo'.2.2 hus hun hn hnB hD2, fun r q ⟨⟨l', u', x', s', y', c', e', e2, hm''⟩, t', e1, ht', _⟩ => ⟨l', u', x', 0, s', y', c', e', _, _, _, _, ⟨e1, e2⟩, rfl, appOk_nil (fun z hz => by simp at hz; subst hz; rfl) (by simp [hacc]; omega) (by decide), rfl, ?_⟩⟩
   have hto2 := hkeep m' args[j]
   rw [wrap_n (by omega), Tm.enc_snoc]
   refine hag (j + 1, (withinT (bodyT f) us n D m' args[j]).1, l', u', x', s', y', c', e', acc ++ [t']) ⟨hlt, hm'', hto.trans hto2, by simp [hacc], pre ++ [(withinT (bodyT f) us n D m' args[j]).2], ?_, fun h0 => ?_⟩ (by simp only; omega)
   ·rw [hgo, goArgs_drop hlt, List.append_assoc, List.singleton_append]
   ·rw [hpre (hto2.ok h0), ht' h0]; rfl
  exact ⟨by omega, by rw [List.length_map]; omega, _, _, _, _, Tm.enc_getD hlt, hstep, hstep⟩
 ·have hge : args.length ≤ j := by simpa using h
  have hj' : j = args.length := by omega
  subst hj'
  rw [List.drop_length, goArgs, List.append_nil] at hgo
  rw [hgo] at hlen hlos ⊢
  simp only at hlen hlos
  have good : m'.err = 0 → acc = pre := hpre
  have fin : ∀ (i' : Int) (T : Mt × Tm), T.1 = m' → (m'.err = 0 → T.2 = .mk [] k i' pre) → ∃ r2, RepW (.agg [.sl (bs.map Ty.enc), nI k, nI i', .sl (acc.map Tm.enc)]) r2 ∧ MtRes bs.length T.1 (.mk bs T.2.kind T.2.index T.2.args) r2 (wrkO l u x s y c e) := by
   intro i' T h1 h2
   refine ⟨_, RepW.refl _, ⟨l, u, x, s, y, c, e, rfl, by rw [h1]; exact hm'⟩, .mk bs k i' acc, rfl, fun h0 => ?_, Nat.le_refl _⟩
   rw [h1] at h0
   rw [h2 h0, good h0]; rfl
  unfold headT
  by_cases h0 : m'.err = 0
  ·rw [if_neg (by simp [h0])]
   have hacc2 := good h0
   obtain ⟨q1, q2⟩ := hlos h0
   refine ITE.intro (fun h => ?_) fun h => ?_
   ·have h1 : ¬ k = 0 := by simpa using h
    rw [if_pos (.inl h1)]
    exact ⟨rfl, fin i _ rfl fun _ => rfl⟩
   ·have h1 : k = 0 := by simpa using h
    refine ITE.intro (fun h => ?_) fun h => ?_
    ·have h2 : i < D := of_decide_eq_true h
     rw [if_pos (.inr h2)]
     exact ⟨rfl, fin i _ rfl fun _ => rfl⟩
    ·have h2 : ¬ i < D := of_decide_eq_false h
     rw [if_neg (fun h => h.elim (fun h => h h1) h2)]
     have hi2 := hi.2
     have hw1 : IntKind.wrap .i64 (i - (D : Int)) = i - D := wrap_i (by omega) (by omega)
     have hw2 : IntKind.wrap .i64 ((n : Int) - ((List.length (us.map Tm.enc) : Nat) : Int)) = (n : Int) - us.length := by rw [List.length_map]; exact wrap_i (by omega) (by omega)
     have hw3 : IntKind.wrap .i64 ((n : Int) - 1) = (n : Int) - 1 := wrap_i (by omega) (by omega)
     rw [hw1, hw2]
     refine ITE.intro (fun h => ?_) fun h => ?_
     ·have h3 : i - (D : Int) < (n : Int) - us.length := of_decide_eq_true h
      rw [if_neg (by omega), if_pos (by omega)]
      exact ⟨rfl, fin i _ rfl fun _ => rfl⟩
     ·have h3 : ¬ i - (D : Int) < (n : Int) - us.length := of_decide_eq_false h
      refine ITE.intro (fun h => ?_) fun h => ?_
      ·have h4 : i - (D : Int) ≥ n := of_decide_eq_true h
       rw [if_pos (by omega)]
       have hw4 : IntKind.wrap .i64 (i - ((List.length (us.map Tm.enc) : Nat) : Int)) = i - us.length := by rw [List.length_map]; exact wrap_i (by omega) (by omega)
       rw [hw4]
       exact ⟨rfl, fin _ _ rfl fun _ => rfl⟩
      ·have h4 : ¬ i - (D : Int) ≥ n := of_decide_eq_false h
       rw [if_neg (by omega), if_neg (by omega)]
       rw [hw3]
       have hw5 : IntKind.wrap .i64 ((n : Int) - 1 - (i - (D : Int))) = ((n - 1 - (i - D).toNat : Nat) : Int) := by rw [wrap_i (by omega) (by omega)]; omega
       have hw6 : IntKind.wrap .i64 (IntKind.wrap .i64 ((D : Int) + n) - ((List.length (us.map Tm.enc) : Nat) : Int)) = ((D + n - us.length : Nat) : Int) := by
        rw [List.length_map, wrap_i (n := (D : Int) + n) (by omega) (by omega), wrap_i (by omega) (by omega)]; omega
       rw [hw5, hw6]
       have hlt : n - 1 - (i - D).toNat < us.length := by omega
       generalize hv : n - 1 - (i - D).toNat = v at hlt
       have hst : standT us i n D = us[v].lift (D + n - us.length) 0 := by
        unfold standT
        rw [hv, List.getD_eq_getElem?_getD, List.getElem?_eq_getElem hlt]; rfl
       have hgr := ngrown_calls (b := D + n - us.length) hB (hun _ (List.getElem_mem hlt)) (Tm.los_iff.1 hus _ (List.getElem_mem hlt))
       rw [← hst] at hgr
       refine ⟨by omega, by rw [List.length_map]; omega, _, _, _, _, Tm.enc_getD hlt, _, _, _, _, hgr, rfl, ?_⟩
       refine ITE.intro (fun h => ?_) fun h => ⟨rfl, ?_⟩
       ·have h5 : (standT us i n D).binds.length ≠ pre.length := by rw [← hacc2]; intro e; apply (show ¬ _ from by simpa using h); omega
        rw [if_pos h5]
        refine ⟨_, fail_calls 1, fun r q ⟨e1, e2⟩ => ⟨l, u, x, 0, s, y, c, _, ⟨e1, e2⟩, ?_⟩⟩
        rw [if_pos (by rw [he]; exact h0)]
        exact noTm_res ⟨l, u, x, s, y, c, 1, rfl, hm'.failed c (by decide) (fun h => by simp at h)⟩ (by simp)
       ·have h5 : ¬ (standT us i n D).binds.length ≠ pre.length := by
         have h6 : ((standT us i n D).binds.length : Int) = acc.length := by simpa using h
         rw [← hacc2]; omega
        rw [if_neg h5]
        have hpt := hput m' (standT us i n D) acc l u x s y c e hm' (hfuel m' hto) (standT_lo hus i n D) (fun _ => by
         rw [hacc2]
         refine ⟨q2, fun t ht => ?_⟩
         have h1 := Tm.nodess_mem ht
         have h2 := hm'.most
         omega) (by omega)
        rw [hacc2] at hpt ⊢
        have hp : putT f m' (standT us i n D) pre = ((bodyT f m' (standT us i n D).kind (standT us i n D).index (standT us i n D).args pre (standT us i n D).binds.length 0).1, .mk ((standT us i n D).binds.drop pre.length) (bodyT f m' (standT us i n D).kind (standT us i n D).index (standT us i n D).args pre (standT us i n D).binds.length 0).2.kind (bodyT f m' (standT us i n D).kind (standT us i n D).index (standT us i n D).args pre (standT us i n D).binds.length 0).2.index (bodyT f m' (standT us i n D).kind (standT us i n D).index (standT us i n D).args pre (standT us i n D).binds.length 0).2.args) := by
         unfold putT; rw [if_neg (by simp [h0]), if_neg (by simp at h5; omega)]
        rw [hp] at hpt
        generalize bodyT f m' (standT us i n D).kind (standT us i n D).index (standT us i n D).args pre (standT us i n D).binds.length 0 = T at hpt
        refine ⟨_, hpt, fun r q ⟨⟨l', u', x', s', y', c', e', e2, hm''⟩, t', e1, ht', _⟩ => ⟨l', u', x', 0, s', y', c', e', _, _, _, _, ⟨e1, e2⟩, ?_⟩⟩
        refine ⟨_, RepW.refl _, ⟨l', u', x', s', y', c', e', rfl, hm''⟩, .mk bs t'.kind t'.index t'.args, rfl, fun h0 => ?_, Nat.le_refl _⟩
        rw [ht' h0]; rfl
  ·rw [if_pos h0]
   have stop : ∀ (i' : Int) (a : List Tm), ∃ r2, RepW (.agg [.sl (bs.map Ty.enc), nI k, nI i', .sl (a.map Tm.enc)]) r2 ∧ MtRes bs.length m' (.mk bs noTm.kind noTm.index noTm.args) r2 (wrkO l u x s y c e) := fun i' a =>
    ⟨_, RepW.refl _, ⟨l, u, x, s, y, c, e, rfl, hm'⟩, .mk bs k i' a, rfl, fun h => (h0 h).elim, Nat.le_refl _⟩
   have he0 : ¬ e = 0 := by rw [he]; exact h0
   refine ITE.intro (fun h => ⟨rfl, stop i acc⟩) fun h => ?_
   refine ITE.intro (fun h => ⟨rfl, stop i acc⟩) fun h2 => ?_
   have h2 : ¬ i < D := of_decide_eq_false h2
   have hi2 := hi.2
   have hw1 : IntKind.wrap .i64 (i - (D : Int)) = i - D := wrap_i (by omega) (by omega)
   have hw2 : IntKind.wrap .i64 ((n : Int) - ((List.length (us.map Tm.enc) : Nat) : Int)) = (n : Int) - us.length := by rw [List.length_map]; exact wrap_i (by omega) (by omega)
   have hw3 : IntKind.wrap .i64 ((n : Int) - 1) = (n : Int) - 1 := wrap_i (by omega) (by omega)
   rw [hw1, hw2]
   refine ITE.intro (fun h => ⟨rfl, stop i acc⟩) fun h3 => ?_
   have h3 : ¬ i - (D : Int) < (n : Int) - us.length := of_decide_eq_false h3
   refine ITE.intro (fun h => ⟨rfl, stop _ acc⟩) fun h4 => ?_
   have h4 : ¬ i - (D : Int) ≥ n := of_decide_eq_false h4
   rw [hw3]
   have hw5 : IntKind.wrap .i64 ((n : Int) - 1 - (i - (D : Int))) = ((n - 1 - (i - D).toNat : Nat) : Int) := by rw [wrap_i (by omega) (by omega)]; omega
   have hw6 : IntKind.wrap .i64 (IntKind.wrap .i64 ((D : Int) + n) - ((List.length (us.map Tm.enc) : Nat) : Int)) = ((D + n - us.length : Nat) : Int) := by
    rw [List.length_map, wrap_i (n := (D : Int) + n) (by omega) (by omega), wrap_i (by omega) (by omega)]; omega
   rw [hw5, hw6]
   have hlt : n - 1 - (i - D).toNat < us.length := by omega
   generalize hv : n - 1 - (i - D).toNat = v at hlt
   have hgr := ngrown_calls (b := D + n - us.length) hB (hun _ (List.getElem_mem hlt)) (Tm.los_iff.1 hus _ (List.getElem_mem hlt))
   have hglo := Tm.lo_lift (b := D + n - us.length) 0 (Tm.los_iff.1 hus _ (List.getElem_mem hlt))
   refine ⟨by omega, by rw [List.length_map]; omega, _, _, _, _, Tm.enc_getD hlt, _, _, _, _, hgr, rfl, ?_⟩
   generalize us[v].lift (D + n - us.length) 0 = g at hglo
   refine ITE.intro (fun h => ?_) fun h => ⟨rfl, ?_⟩
   ·refine ⟨_, fail_calls 1, fun r q ⟨e1, e2⟩ => ⟨l, u, x, 0, s, y, c, _, ⟨e1, e2⟩, ?_⟩⟩
    rw [if_neg he0]
    exact noTm_res ⟨l, u, x, s, y, c, e, rfl, hm'⟩ h0
   ·have hpt := hput m' g acc l u x s y c e hm' (fun h => (h0 h).elim) hglo (fun h => (h0 h).elim) (by omega)
    rw [show putT f m' g acc = (m', noTm) from by unfold putT; rw [if_pos h0]] at hpt
    refine ⟨_, hpt, fun r q ⟨⟨l', u', x', s', y', c', e', e2, hm''⟩, t', e1, ht', _⟩ => ⟨l', u', x', 0, s', y', c', e', _, _, _, _, ⟨e1, e2⟩, ?_⟩⟩
    exact ⟨_, RepW.refl _, ⟨l', u', x', s', y', c', e', rfl, hm''⟩, .mk bs t'.kind t'.index t'.args, rfl, fun h => (h0 h).elim, Nat.le_refl _⟩
theorem thrP {B : Nat} (hB : B ≤ 1000000) : ∀ f, ThrP B f
 | 0 => thrP_zero hB
 | f + 1 => thrP_succ hB (thrP hB f)
theorem putP {B : Nat} (hB : B ≤ 1000000) (f : Nat) : PutP B f := putP_of hB (thrP hB f)
end Go.Proofs.YtghlgbhldnkdmaaGreat

namespace Go.Proofs.YtghlgbhldnkdmaaGreat
open Go
set_option linter.unusedSimpArgs false
set_option linter.unusedVariables false
theorem repw_tup2 {x y : AV} {n : Int} (h : RepW x y) : RepW (.tup [x, nI n]) (.tup [y, nI n]) := RepW.tup ⟨h, RepW.refl _, True.intro⟩
theorem ndone_calls {m : Mt} {t t' : Tm} {l u x s y c e : Int} (hm : MtOk m l u x y c e) (ht : m.err = 0 → t' = t) (h : m.err = 0 → t.size ≤ 500000000 ∧ t.Ok) :
  HFn Tryz.prog 86 [.ptr 1 0, .agg [.sl (t'.binds.map Ty.enc), nI t'.kind, nI t'.index, .sl (t'.args.map Tm.enc)]] (wrkO l u x s y c e)
   (fun r hp' => MtHp (doneT (m, t)).1 hp' ∧ r = .tup [.agg [.sl ((doneT (m, t)).2.binds.map Ty.enc), nI (doneT (m, t)).2.kind, nI (doneT (m, t)).2.index, .sl ((doneT (m, t)).2.args.map Tm.enc)], nI (doneT (m, t)).1.err]) := by
 have he := hm.err
 have zero : ∀ {m' : Mt} {n : Int} {hp' : List AObj}, MtHp m' hp' → m'.err = n → doneT (m, t) = (m', noTm) → ∃ r2, RepW (.tup [.agg [.prim (.slice none 0 0), nI 0, nI 0, .prim (.slice none 0 0)], nI n]) r2 ∧ (MtHp (doneT (m, t)).1 hp' ∧ r2 = .tup [.agg [.sl ((doneT (m, t)).2.binds.map Ty.enc), nI (doneT (m, t)).2.kind, nI (doneT (m, t)).2.index, .sl ((doneT (m, t)).2.args.map Tm.enc)], nI (doneT (m, t)).1.err]) := by
  intro m' n hp' h1 h2 h3
  rw [h3]
  exact ⟨_, repw_tup2 repw_noTm', h1, by rw [← h2]; rfl⟩
 refine HFn.repw (vc86_ok (ITE.intro (fun h0 => ?_) fun h0 => ?_))
 ·have he0 : e = 0 := by simpa using h0
  have hm0 : m.err = 0 := by rw [← he]; exact he0
  obtain ⟨hs, hk⟩ := h hm0
  rw [ht hm0]
  have hcp := copy_calls (t := t) (by omega) hk
  rw [Tm.enc_eq] at hcp
  refine ⟨_, tright_calls hs, ITE.intro (fun h1 => ?_) fun h1 => ?_⟩
  ·have h1 : trest 0 (t.pre 0 1) = false := by simpa using h1
   refine ⟨_, fail_calls 2, fun r q ⟨e1, e2⟩ => ⟨l, u, x, 0, s, y, c, _, ⟨e1, e2⟩, ?_⟩⟩
   rw [if_pos he0]
   refine ITE.pos rfl ?_
   exact zero (m' := ⟨m.left, m.count, 2⟩) ⟨l, u, x, s, y, c, 2, rfl, hm.failed c (by decide) (fun h => by simp at h)⟩ rfl (by unfold doneT; rw [if_neg (by simp [hm0]), if_neg (by rw [h1]; simp)])
  ·have h1 : trest 0 (t.pre 0 1) = true := by simpa using h1
   refine ITE.neg (by rw [he0]; rfl) ⟨_, _, _, _, hcp, ?_⟩
   have hd : doneT (m, t) = (m, t) := by unfold doneT; rw [if_neg (by simp [hm0]), if_pos h1]
   rw [hd]
   refine ⟨_, RepW.refl _, ⟨l, u, x, s, y, c, e, rfl, hm⟩, ?_⟩
   rw [hm0]
 ·have he0 : ¬ e = 0 := by simpa using h0
  have hm0 : m.err ≠ 0 := by rw [← he]; exact he0
  refine ITE.pos (by simp [he0]) ?_
  exact zero (m' := m) ⟨l, u, x, s, y, c, e, rfl, hm⟩ he.symm (by unfold doneT; rw [if_pos hm0])
end Go.Proofs.YtghlgbhldnkdmaaGreat

namespace Go.Proofs.YtghlgbhldnkdmaaGreat
open Go
set_option linter.unusedSimpArgs false
set_option linter.unusedVariables false
theorem sizes_le_mul {S : Nat} : ∀ {l : List Ty}, (∀ t ∈ l, t.size ≤ S) → Ty.sizes l ≤ l.length * S
 | [], _ => by simp [Ty.sizes]
 | t :: l, h => by
  have h1 := h t List.mem_cons_self
  have h2 := sizes_le_mul fun u hu => h u (List.mem_cons_of_mem t hu)
  rw [Ty.sizes, List.length_cons, Nat.add_mul]; omega
def FoundL (L : Mt × Tm) (r : AV) (hp' : List AObj) : Prop := ∃ l u d s y, hp' = [.box (budC l u d 0 s y)] ∧ BudOk L.1.left l u d y ∧ (L.1.err = 11 → y ≠ 0) ∧
 r = .tup [.agg [.sl (L.2.binds.map Ty.enc), nI L.2.kind, nI L.2.index, .sl (L.2.args.map Tm.enc)], nI L.1.err]
theorem bud_fresh {n : Nat} (hn : n ≤ 1000000) : HFn Tryz.prog 36 [nI n] [] (fun r hp' => r = .ptr 0 0 ∧ hp' = [.box (budC n 0 0 0 0 0)]) :=
 (bud_new n []).mono fun r hp' ⟨e1, e2⟩ => ⟨e1, by rw [e2, if_neg (by omega)]; rfl⟩
theorem budOk_fresh {n : Nat} (hn : n ≤ 1000000) : BudOk n n 0 0 0 := ⟨rfl, by decide, by omega, Iff.rfl, fun h => (h rfl).elim⟩
end Go.Proofs.YtghlgbhldnkdmaaGreat

namespace Go.Proofs.YtghlgbhldnkdmaaGreat
open Go
set_option linter.unusedSimpArgs false
set_option linter.unusedVariables false
def ErrOk (e : Int) : Prop := e = 0 ∨ e = 1 ∨ e = 2 ∨ e = 11
theorem one_errOk {m : Mt} (h : ErrOk m.err) : ErrOk m.one.1.err := by
 unfold Mt.one
 split
 ·exact h
 ·split
  ·exact .inr (.inr (.inl rfl))
  ·split
   ·exact .inr (.inr (.inr rfl))
   ·exact h
theorem goArgs_errOk {g : Mt → Tm → Mt × Tm} (hg : Keeps1 g) : ∀ (l : List Tm) (m : Mt), m.count ≤ 100000 → (∀ t ∈ l, ∀ m' : Mt, m.count ≤ m'.count → m'.count ≤ 100000 → ErrOk m'.err → ErrOk (g m' t).1.err) → ErrOk m.err → ErrOk (goArgs g m l).1.err
 | [], m, _, _, h => h
 | t :: l, m, hm, hp, h => by
  rw [goArgs]
  have hto := hg m t
  exact goArgs_errOk hg l (g m t).1 (hto.most hm) (fun u hu m' h1 h2 h3 => hp u (List.mem_cons_of_mem _ hu) m' (Nat.le_trans hto.more h1) h2 h3) (hp t List.mem_cons_self m (Nat.le_refl _) hm h)
theorem bodyT_errOk : ∀ (f : Nat) (m : Mt) (k i : Int) (args us : List Tm) (n d : Nat), m.count ≤ 100000 → 100000 < f + m.count → ErrOk m.err → ErrOk (bodyT f m k i args us n d).1.err
 | 0, m, k, i, args, us, n, d, h1, h2, _ => by omega
 | f + 1, m, k, i, args, us, n, d, h1, h2, h => by
  rw [bodyT]
  split
  ·exact one_errOk h
  rename_i h3
  obtain ⟨g0, g1, g2, g3⟩ := one_true (by simpa using h3)
  have hm1 : m.one.1.count ≤ 100000 := (Mt.one_to m).most h1
  have hc1 : m.one.1.count = m.count + 1 := by rw [g3]
  have hto := goArgs_to (withinT_to f us n d) args m.one.1
  have he := goArgs_errOk (withinT_to f us n d) args m.one.1 hm1 (fun t ht m' q1 q2 q3 => bodyT_errOk f m' _ _ _ us n _ q2 (by omega) q3) (one_errOk h)
  generalize goArgs (withinT (bodyT f) us n d) m.one.1 args = r at hto he
  unfold headT
  split
  ·exact he
  ·split
   ·exact he
   ·split
    ·exact he
    ·split
     ·exact he
     ·split
      ·exact .inr (.inl rfl)
      ·exact bodyT_errOk f r.1 _ _ _ _ _ _ (hto.most hm1) (by have := hto.more; omega) he
theorem putT_errOk {m : Mt} {t : Tm} {us : List Tm} (hm : m.count ≤ 100000) (h : ErrOk m.err) : ErrOk (putT 100001 m t us).1.err := by
 unfold putT
 split
 ·exact h
 ·split
  ·exact .inr (.inl rfl)
  ·exact bodyT_errOk _ m _ _ _ _ _ _ hm (by omega) h
end Go.Proofs.YtghlgbhldnkdmaaGreat

namespace Go.Proofs.YtghlgbhldnkdmaaGreat
open Go
set_option linter.unusedSimpArgs false
set_option linter.unusedVariables false
theorem tequal_calls : ∀ (n : Nat) (t u : Tm), t.size ≤ n → n ≤ 500000000 → PureIs Tryz.prog 37 [.agg [.sl (t.binds.map Ty.enc), nI t.kind, nI t.index, .sl (t.args.map Tm.enc)], .agg [.sl (u.binds.map Ty.enc), nI u.kind, nI u.index, .sl (u.args.map Tm.enc)]] (nB (Tm.same t u)) := by
 intro n
 induction n with
 | zero => intro t u h; have := t.size_pos; omega
 | succ n ih =>
  intro t u h hn
  have hq := Tm.sizes_len t.args
  have hts := t.size_eq
  have hb := equals_calls (l := t.binds) (m := u.binds) (by have := Ty.sizes_len t.binds; omega) fun k h1 h2 => equal_calls _ t.binds[k] u.binds[k] (Nat.le_refl _) (by have := Ty.sizes_mem (List.getElem_mem h1); omega)
  rw [Tm.same_eq]
  have hargs : PureIs Tryz.prog 91 [.sl (t.args.map Tm.enc), .sl (u.args.map Tm.enc), .clo 37 []] (nB (Tm.sames t.args u.args)) := by
   refine vc91_ok (ITE.intro (fun h => ?_) fun h => ?_)
   ·rw [Tm.sames_len (by simp at h; omega)]
   ·have hlm : t.args.length = u.args.length := by simp at h; omega
    refine LoopP.intro (fun k : Nat => ((u.args.map Tm.enc, (), t.args.map Tm.enc, (t.args.length : Int), (k : Int), ()), ())) (fun k => k ≤ t.args.length ∧ Tm.sames t.args u.args = Tm.sames (t.args.drop k) (u.args.drop k)) (fun k => t.args.length - k) 0 (by rw [List.length_map]; rfl) ⟨Nat.zero_le _, rfl⟩ ?_
    intro k ⟨hk, hs⟩ again hag
    dsimp only
    refine ITE.intro (fun h => ?_) fun h => ?_
    ·have hlt : k < t.args.length := by simpa using h
     rw [Tm.sames_drop hlt (by omega)] at hs
     have hi := ih t.args[k] (u.args[k]'(by omega)) (by have := Tm.arg_size hlt; omega) (by omega)
     refine ⟨by omega, by rw [List.length_map]; omega, _, _, _, _, Tm.enc_getD hlt, by omega, by rw [List.length_map]; omega, _, _, _, _, Tm.enc_getD (by omega), _, hi, ITE.intro (fun h => ?_) fun h => ?_⟩
     ·have : Tm.same t.args[k] u.args[k] = false := by simpa using h
      rw [hs, this, Bool.false_and]
     ·have he : Tm.same t.args[k] u.args[k] = true := by simpa using h
      rw [he, Bool.true_and] at hs
      rw [wrap_n (by omega)]
      exact hag (k + 1) ⟨by omega, hs⟩ (by omega)
    ·have : t.args.length ≤ k := by simpa using h
     rw [List.drop_eq_nil_of_le this, List.drop_eq_nil_of_le (by omega)] at hs
     rw [hs]; rfl
  refine vc37_ok (ITE.intro (fun h => ⟨_, hb, ITE.intro (fun h2 => ⟨_, hargs, ?_⟩) fun h2 => ?_⟩) fun h => ?_)
  ·rw [h, h2, Bool.true_and, Bool.true_and]
  ·rw [h, h2, Bool.true_and, Bool.false_and]
  ·rw [h, Bool.false_and]
end Go.Proofs.YtghlgbhldnkdmaaGreat

namespace Go.Proofs.YtghlgbhldnkdmaaGreat
open Go
set_option linter.unusedSimpArgs false
set_option linter.unusedVariables false
def putR (t : Tm) (us : List Tm) (left : Nat) : Mt × Tm := doneT (putT 100001 ⟨left, 0, 0⟩ t us)
theorem nPut_calls {B : Nat} (hB : B ≤ 2000) {t : Tm} {us : List Tm} {left : Nat} {l u d s y : Int} (ht : t.Lo B) (hu : Tm.Los B us) (hn : ∀ t ∈ us, t.nodes ≤ 1000000000) (hb : BudOk left l u d y) :
  HFn Tryz.prog 35 [.agg [.sl (t.binds.map Ty.enc), nI t.kind, nI t.index, .sl (t.args.map Tm.enc)], .ptr 0 0, .sl (us.map Tm.enc)] [.box (budC l u d 0 s y)] (FoundL (putR t us left)) := by
 have hmt : MtOk ⟨left, 0, 0⟩ l u d y 0 0 := ⟨hb, rfl, Nat.zero_le _, fun _ => rfl, fun h => by simp at h⟩
 have hp := putP (B := B) (by omega) 100001 ⟨left, 0, 0⟩ t us l u d s y 0 0 hmt (fun _ => by simp) ht (fun _ => ⟨hu, hn⟩) (by have : B * (100001 + 1) ≤ 2000 * 100002 := Nat.mul_le_mul_right _ hB; omega)
 have hform := putT_form (f := 100001) (m := ⟨left, 0, 0⟩) ht hu
 unfold putR
 generalize putT 100001 ⟨left, 0, 0⟩ t us = Q at hp hform
 refine vc35_ok ⟨_, hp, fun r1 q ⟨⟨l1, u1, d1, s1, y1, c1, e1', e2, hm1⟩, t1, e1, ht1, _⟩ => ⟨l1, u1, d1, 0, s1, y1, c1, e1', _, _, _, _, ⟨e1, e2⟩, ?_⟩⟩
 have hdone := ndone_calls (s := s1) hm1 ht1 (fun h0 => by
  have hf := hform h0
  have hn := hf.nodes
  have hmost := hm1.most
  have hs := Tm.lo_size hf.lo
  have : Q.2.nodes * (1 + B) ≤ 100000 * 2001 := Nat.mul_le_mul (by omega) (by omega)
  exact ⟨by omega, Tm.lo_ok hf.lo⟩)
 rw [show (Q.1, Q.2) = Q from rfl] at hdone
 exact ⟨_, hdone, fun r2 q ⟨⟨l2, u2, d2, s2, y2, c2, e2', e2, hm2⟩, e1⟩ => ⟨l2, u2, d2, 0, s2, y2, c2, e2', _, _, _, _, _, ⟨e1, e2⟩, l2, u2, d2, s2, y2, rfl, hm2.bud, hm2.fuel, rfl⟩⟩
theorem putR_ok {t : Tm} {us : List Tm} {left : Nat} (he : (putR t us left).1.err = 0) : (putT 100001 ⟨left, 0, 0⟩ t us).1.err = 0 ∧ (putR t us left).2 = (putT 100001 ⟨left, 0, 0⟩ t us).2 := by
 unfold putR doneT at he ⊢
 split at he
 ·rename_i h; exact (h he).elim
 rename_i h
 rw [if_neg h]
 split at he
 ·rename_i h2; rw [if_pos h2]; exact ⟨he, rfl⟩
 ·simp at he
theorem putR_conv {B G : Nat} (hB : B ≤ 2000) {t : Tm} {us : List Tm} {left : Nat} (ht : t.Lo B) (hu : Tm.Los B us) (hn : ∀ t ∈ us, t.nodes ≤ 1000000000) (hst : t.Sc G) (hsu : Tm.Scs G us) (hG : G ≤ 1000000) (he : (putR t us left).1.err = 0) : Conv (apps t.la (Tm.las us)) (putR t us left).2.la ∧ (putR t us left).2.Sc G := by
 obtain ⟨h1, h2⟩ := putR_ok he
 rw [h2]
 exact put_conv (B := B) (by omega) (by simp) ht hu hn hst hsu (by have : B * 100001 ≤ 2000 * 100001 := Nat.mul_le_mul_right _ hB; omega) h1
theorem headTy_le {c m x : List Ty} {S : Nat} (hc : ∀ t ∈ c, t.size ≤ S) (hm : ∀ t ∈ m, t.size ≤ S) (hx : ∀ t ∈ x, t.size ≤ S) {t : Tm} (ht : t.size ≤ S) (hS : 1 ≤ S) : (t.typ c m x).1.size ≤ S := by
 have hts := t.size_eq
 unfold Tm.typ
 split
 ·rw [Ty.size]; omega
 ·simpa [Ty.size, Ty.sizes] using hS
end Go.Proofs.YtghlgbhldnkdmaaGreat

namespace Go.Proofs.YtghlgbhldnkdmaaGreat
open Go
set_option linter.unusedSimpArgs false
set_option linter.unusedVariables false
theorem upRs_upRs (n d : Nat) (ρ : Nat → Nat) (i : Nat) : upRs n (upRs d ρ) i = upRs (d + n) ρ i := by
 unfold upRs
 by_cases h : i < n
 ·rw [if_pos h, if_pos (by omega)]
 ·rw [if_neg h]
  by_cases h2 : i - n < d
  ·rw [if_pos h2, if_pos (by omega)]; omega
  ·rw [if_neg h2, if_neg (by omega), show i - n - d = i - (d + n) by omega]; omega
theorem posN_get : ∀ {l : List Int} {i : Int} {k : Nat}, posN l i = some k → l[k]? = some i
 | v :: l, i, k, h => by
  rw [posN] at h
  split at h
  ·rename_i h2; cases h; rw [h2]; rfl
  ·cases hp : posN l i with
   | none => rw [hp] at h; cases h
   | some j =>
    rw [hp] at h; cases h
    show (v :: l)[j + 1]? = _
    rw [List.getElem?_cons_succ]; exact posN_get hp
def backR (l : List Int) (i : Nat) : Nat := match posN l (i : Int) with
 | some k => l.length - 1 - k
 | none => i + l.length
theorem typesOf_get {x : List Ty} {l : List Int} {k : Nat} {i : Nat} {u : Ty} (h : l[k]? = some (i : Int)) (hu : x[x.length - 1 - i]? = some u) : (typesOf x l)[k]? = some u := by
 rw [typesOf, List.getElem?_map, h, Option.map_some, Int.toNat_natCast, List.getD_eq_getElem?_getD, hu]; rfl
theorem typesOf_len' (x : List Ty) (l : List Int) : (typesOf x l).length = l.length := by rw [typesOf, List.length_map]
mutual
theorem taken_is {c m x : List Ty} {l : List Int} (g : List Ty) : ∀ (t : Tm) (d : List Ty) (of : Ty), t.Is c m (x ++ d) of → Tm.clash x.length l d.length t = false →
  (Tm.taken x.length l d.length t).la = t.la.ren (upRs d.length (backR l)) ∧ (Tm.taken x.length l d.length t).Is c m (g ++ typesOf x l ++ d) of
 | .mk bs k i xs, d, of, h, hc => by
  obtain ⟨h1, u, h2, h3, h4⟩ := h
  rw [Tm.clash, Bool.or_eq_false_iff, decide_eq_false_iff_not] at hc
  obtain ⟨hc1, hc2⟩ := hc
  have hl := takens_is g xs (d ++ bs) u.args (by rw [← List.append_assoc]; exact h4) (by rw [List.length_append]; exact hc2)
  rw [List.length_append] at hl
  rw [← List.append_assoc] at hl
  rw [Tm.taken, Tm.la, Tm.la, lams_ren, apps_ren, hl.1]
  have hup : (Tm.las xs).map (·.ren (upRs bs.length (upRs d.length (backR l)))) = (Tm.las xs).map (·.ren (upRs (d.length + bs.length) (backR l))) := List.map_congr_left fun a _ => La.ren_ext a fun j => upRs_upRs _ _ _ _
  rw [hup]
  have key : ∀ i', hdL k i' = (hdL k i).ren (upRs bs.length (upRs d.length (backR l))) → headTy c m (g ++ typesOf x l ++ d ++ bs) k i' = some u →
    lams bs (apps (hdL k i') ((Tm.las xs).map (·.ren (upRs (d.length + bs.length) (backR l))))) = lams bs (apps ((hdL k i).ren (upRs bs.length (upRs d.length (backR l)))) ((Tm.las xs).map (·.ren (upRs (d.length + bs.length) (backR l))))) ∧ Tm.Is c m (g ++ typesOf x l ++ d) (.mk bs k i' (Tm.takens x.length l (d.length + bs.length) xs)) of :=
   fun i' e1 e2 => ⟨by rw [e1], h1, u, e2, h3, hl.2⟩
  by_cases hk : k = 0
  case neg =>
   rw [if_neg (fun h => hk h.1)]
   refine key i ?_ (by rw [headTy_far (y := x ++ d ++ bs) hk]; exact h2)
   rw [hdL_ren, if_neg hk]; unfold hdL; rw [if_neg hk]
  subst hk
  obtain ⟨v1, v2, _⟩ := headTy_var h2
  obtain ⟨j, rfl⟩ : ∃ j : Nat, i = j := ⟨i.toNat, by omega⟩
  rw [Int.toNat_natCast, List.length_append, List.length_append] at v2
  have h2' : headTy c m (x ++ (d ++ bs)) 0 j = some u := by rw [← List.append_assoc]; exact h2
  rw [headTy_app, List.length_append] at h2'
  by_cases hj : j < d.length + bs.length
  ·rw [if_neg (fun h => by omega)]
   rw [if_pos hj] at h2'
   refine key j ?_ (by rw [List.append_assoc, headTy_app, List.length_append, if_pos hj]; exact h2')
   rw [hdL_ren, if_pos rfl, Int.toNat_natCast]
   unfold hdL
   rw [if_pos rfl, Int.toNat_natCast, upRs_upRs]
   unfold upRs
   rw [if_pos hj]
  ·rw [if_neg hj] at h2'
   rw [if_pos ⟨rfl, by omega⟩]
   have hbad : takeBad x.length l ((j : Int) - ((d.length + bs.length : Nat) : Int)) = false := by
    cases hb : takeBad x.length l ((j : Int) - ((d.length + bs.length : Nat) : Int)) with
    | false => rfl
    | true => exact (hc1 ⟨rfl, by omega, hb⟩).elim
   rw [show (j : Int) - ((d.length + bs.length : Nat) : Int) = ((j - (d.length + bs.length) : Nat) : Int) by omega] at hbad ⊢
   obtain ⟨w1, w2, w3⟩ := headTy_var h2'
   rw [Int.toNat_natCast] at w2 w3
   rw [takeBad, decide_eq_false_iff_not] at hbad
   have hmem : ((j - (d.length + bs.length) : Nat) : Int) ∈ l := Decidable.byContradiction fun hn => hbad ⟨by omega, hn⟩
   obtain ⟨p, hp⟩ : ∃ p, posN l ((j - (d.length + bs.length) : Nat) : Int) = some p := by
    cases hp : posN l ((j - (d.length + bs.length) : Nat) : Int) with
    | none => exact (posN_none.1 hp hmem).elim
    | some p => exact ⟨p, rfl⟩
   have hlt := posN_lt hp
   have hix : ((d.length + bs.length : Nat) : Int) + takeIx x.length l ((j - (d.length + bs.length) : Nat) : Int) = ((d.length + bs.length + (l.length - 1 - p) : Nat) : Int) := by
    unfold takeIx
    rw [if_neg (by omega), hp]
    simp only [Option.getD_some]
    omega
   rw [hix]
   refine key _ ?_ ?_
   ·rw [hdL_ren, if_pos rfl, Int.toNat_natCast]
    unfold hdL
    rw [if_pos rfl, Int.toNat_natCast, upRs_upRs]
    unfold upRs backR
    rw [if_neg hj, hp]
    congr 1
    simp only
    omega
   ·rw [List.append_assoc (g ++ typesOf x l), headTy_app, List.length_append, if_neg (by omega), show d.length + bs.length + (l.length - 1 - p) - (d.length + bs.length) = l.length - 1 - p by omega, headTy_app, typesOf_len', if_pos (by omega), headTy_nat, typesOf_len', if_pos (by omega), show l.length - 1 - (l.length - 1 - p) = p by omega]
    exact typesOf_get (posN_get hp) w3
theorem takens_is {c m x : List Ty} {l : List Int} (g : List Ty) : ∀ (ts : List Tm) (d us : List Ty), Tm.IsL c m (x ++ d) ts us → Tm.clashs x.length l d.length ts = false →
  Tm.las (Tm.takens x.length l d.length ts) = (Tm.las ts).map (·.ren (upRs d.length (backR l))) ∧ Tm.IsL c m (g ++ typesOf x l ++ d) (Tm.takens x.length l d.length ts) us
 | [], d, [], _, _ => ⟨rfl, True.intro⟩
 | t :: ts, d, u :: us, h, hc => by
  rw [Tm.clashs, Bool.or_eq_false_iff] at hc
  obtain ⟨a1, a2⟩ := taken_is g t d u h.1 hc.1
  obtain ⟨b1, b2⟩ := takens_is g ts d us h.2 hc.2
  rw [Tm.takens, Tm.las, Tm.las, a1, b1]
  exact ⟨rfl, a2, b2⟩
 | [], _, _ :: _, h, _ => h.elim
 | _ :: _, _, [], h, _ => h.elim
end
def backU (x : List Ty) (l : List Int) : List Tm := l.map fun v => etaT 0 v (x.getD (x.length - 1 - v.toNat) (.mk [] 0))
theorem backU_is {c m x : List Ty} {S : Nat} (hS : ∀ t ∈ x, t.size ≤ S) (hb : x.length + S ≤ 1000000) : ∀ (l : List Int), (∀ v ∈ l, 0 ≤ v ∧ v < x.length) → Tm.IsL c m x (backU x l) (typesOf x l)
 | [], _ => True.intro
 | v :: l, h => by
  have hv := h v List.mem_cons_self
  have hlt : x.length - 1 - v.toNat < x.length := by omega
  refine ⟨?_, backU_is hS hb l fun w hw => h w (List.mem_cons_of_mem _ hw)⟩
  have := hS _ (List.getElem_mem hlt)
  show Tm.Is c m x (etaT 0 v (x.getD (x.length - 1 - v.toNat) (.mk [] 0))) (x.getD (x.length - 1 - v.toNat) (.mk [] 0))
  rw [List.getD_eq_getElem?_getD, List.getElem?_eq_getElem hlt]
  refine etaT_is _ x 0 v ?_ (by simp only [Option.getD_some]; omega)
  have e := headTy_nat c m x v.toNat
  rw [if_pos (by omega), List.getElem?_eq_getElem hlt, show ((v.toNat : Nat) : Int) = v by omega] at e
  exact e
theorem lams_append (a b : List Ty) (u : La) : lams (a ++ b) u = lams a (lams b u) := by unfold lams; rw [List.foldr_append]
theorem back_conv {c m x : List Ty} {t : Tm} {of : Ty} {l : List Int} {S : Nat} (hS : ∀ t ∈ x, t.size ≤ S) (hb : x.length + S ≤ 1000000) (ht : t.Is c m x of) (hc : Tm.clash x.length l 0 t = false) (hl : ∀ v ∈ l, 0 ≤ v ∧ v < x.length) :
  Conv (apps (lams (typesOf x l) (Tm.taken x.length l 0 t).la) (Tm.las (backU x l))) t.la := by
 have hti := (taken_is (c := c) (m := m) (x := x) (l := l) [] t [] of (by rw [List.append_nil]; exact ht) hc).1
 have hul : (Tm.las (backU x l)).length = l.length := by rw [las_len, backU, List.length_map]
 refine (beta_many _ _ _ (by rw [hul, typesOf_len']; omega)).trans ?_
 rw [hul, ← typesOf_len' x l, List.drop_length]
 show Conv (La.sub _ _) _
 rw [List.length_nil] at hti
 rw [hti, La.sub_ren, typesOf_len']
 have hput := eta_put (σ := fun i => putS (Tm.las (backU x l)) l.length (upRs 0 (backR l) i)) (ρ := id) ht (fun i A hA => by
  obtain ⟨_, h2, h3⟩ := headTy_var hA
  rw [Int.toNat_natCast] at h2 h3
  have e0 : upRs 0 (backR l) i = backR l i := by unfold upRs; simp
  show putS _ _ (upRs 0 (backR l) i) = _ ∨ putS _ _ (upRs 0 (backR l) i) = _
  rw [e0]
  unfold putS backR
  rw [hul]
  cases hp : posN l (i : Int) with
  | none =>
   simp only
   refine .inl ?_
   rw [if_neg (by omega), if_neg (by omega)]
   congr 1
   show _ = i
   omega
  | some p =>
   simp only
   have hlt := posN_lt hp
   refine .inr ?_
   rw [if_neg (by omega), if_pos (by omega), show l.length - 1 - (l.length - 1 - p) = p by omega]
   have hg : (Tm.las (backU x l))[p]? = some (etaT 0 i A).la := by
    rw [Tm.las_eq, List.getElem?_map, backU, List.getElem?_map, posN_get hp, Option.map_some, Option.map_some, Int.toNat_natCast, List.getD_eq_getElem?_getD, h3]; rfl
   have hA := hS A (List.mem_of_getElem? h3)
   rw [List.getD_eq_getElem?_getD, hg, Option.getD_some, La.ren_id _ (fun j => by omega), etaT_la A 0 i (fun _ => ⟨by omega, by omega⟩) (by omega)]
   rfl) ⟨S, hS⟩
 rw [La.ren_id (ρ := id) _ (fun _ => rfl)] at hput
 exact hput
theorem back_put {c m x : List Ty} {t : Tm} {of : Ty} {l : List Int} {S B : Nat} (hS : ∀ t ∈ x, t.size ≤ S) (hb : x.length + S ≤ 1000000) (hB : B ≤ 2000) (ht : t.Is c m x of) (hc : Tm.clash x.length l 0 t = false) (hl : ∀ v ∈ l, 0 ≤ v ∧ v < x.length)
  (hy : (Tm.mk (typesOf x l ++ t.binds) t.kind (Tm.taken x.length l 0 t).index (Tm.taken x.length l 0 t).args).Lo B) (hu : Tm.Los B (backU x l)) (hn : ∀ t ∈ backU x l, t.nodes ≤ 1000000000) :
  (putR (.mk (typesOf x l ++ t.binds) t.kind (Tm.taken x.length l 0 t).index (Tm.taken x.length l 0 t).args) (backU x l) 5000).1.err = 2 ∨ (putR (.mk (typesOf x l ++ t.binds) t.kind (Tm.taken x.length l 0 t).index (Tm.taken x.length l 0 t).args) (backU x l) 5000).1.err = 11 ∨
  (putR (.mk (typesOf x l ++ t.binds) t.kind (Tm.taken x.length l 0 t).index (Tm.taken x.length l 0 t).args) (backU x l) 5000).1.err = 0 ∧ (putR (.mk (typesOf x l ++ t.binds) t.kind (Tm.taken x.length l 0 t).index (Tm.taken x.length l 0 t).args) (backU x l) 5000).2 = t := by
 have htk : (Tm.taken x.length l 0 t).binds = t.binds ∧ (Tm.taken x.length l 0 t).kind = t.kind := by rw [Tm.taken_eq]; exact ⟨rfl, rfl⟩
 obtain ⟨q1, q2⟩ := taken_is (c := c) (m := m) (x := x) (l := l) x t [] of (by rw [List.append_nil]; exact ht) hc
 rw [List.length_nil, List.append_nil] at q2
 obtain ⟨r1, w, r2, r3, r4⟩ := Tm.is_eq.1 q2
 rw [htk.1, htk.2] at r2
 rw [htk.1] at r1 r4
 have hla : (Tm.mk (typesOf x l ++ t.binds) t.kind (Tm.taken x.length l 0 t).index (Tm.taken x.length l 0 t).args).la = lams (typesOf x l) (Tm.taken x.length l 0 t).la := by
  rw [Tm.la_eq (Tm.taken x.length l 0 t), htk.1, htk.2, Tm.la, lams_append, Tm.las_eq]
 have hyi : (Tm.mk (typesOf x l ++ t.binds) t.kind (Tm.taken x.length l 0 t).index (Tm.taken x.length l 0 t).args).Is c m x (.mk (typesOf x l ++ of.args) of.base) := ⟨by rw [r1]; rfl, w, by rw [← List.append_assoc]; exact r2, r3, by rw [← List.append_assoc]; exact r4⟩
 have hui := backU_is (c := c) (m := m) hS hb l hl
 have hlen : (backU x l).length = (typesOf x l).length := Tm.isL_len hui
 generalize hY : Tm.mk (typesOf x l ++ t.binds) t.kind (Tm.taken x.length l 0 t).index (Tm.taken x.length l 0 t).args = y at hy hla hyi ⊢
 have hK : B * 100001 ≤ 2000 * 100001 := Nat.mul_le_mul_right _ hB
 have hpi := put_is (B := B) (by omega) (f := 100001) (mt := ⟨5000, 0, 0⟩) (t := y) (us := backU x l) (z := x) (of := .mk (typesOf x l ++ of.args) of.base) (by simp) hy hu hn hyi (by rw [hlen, Ty.args_mk, List.length_append]; omega) (by rw [hlen, Ty.args_mk, List.take_left]; exact hui) (by omega)
 have herr := putT_errOk (m := ⟨5000, 0, 0⟩) (t := y) (us := backU x l) (by simp) (.inl rfl)
 by_cases he : (putR y (backU x l) 5000).1.err = 0
 ·refine .inr (.inr ⟨he, ?_⟩)
  obtain ⟨c1, c2⟩ := putR_conv (left := 5000) (G := x.length) hB hy hu hn (is_sc _ _ _ hyi) (isL_scs _ _ _ hui) (by omega) he
  rw [hla] at c1
  exact form_eq c2 (is_sc _ _ _ ht) (c1.symm.trans (back_conv hS hb ht hc hl))
 ·unfold putR doneT at he ⊢
  split
  ·rename_i h
   have h1 := hpi.2
   unfold ErrOk at herr
   have : (putT 100001 ⟨5000, 0, 0⟩ y (backU x l)).1.err ≠ 1 := fun h2 => by have := h1 h2; simp at this
   simp only
   omega
  ·rename_i h
   rw [if_neg h] at he
   split
   ·rename_i h2; rw [if_pos h2] at he; exact (h he).elim
   ·exact .inl rfl
end Go.Proofs.YtghlgbhldnkdmaaGreat

namespace Go.Proofs.YtghlgbhldnkdmaaGreat
open Go
set_option linter.unusedSimpArgs false
set_option linter.unusedVariables false
mutual
theorem pre_sc : ∀ (t : Tm) (a d : Nat), t.Sc a → ∀ p ∈ t.pre a d, p.2.kind = 0 → p.2.index < ((p.1.1 : Nat) : Int)
 | .mk b k i l, a, d, h, p, hp => by
  rw [Tm.pre] at hp
  rcases List.mem_cons.1 hp with rfl | hp
  ·exact fun hk => (h.1 hk).2
  ·exact pres_sc l _ _ h.2 p hp
theorem pres_sc : ∀ (l : List Tm) (a d : Nat), Tm.Scs a l → ∀ p ∈ Tm.pres a d l, p.2.kind = 0 → p.2.index < ((p.1.1 : Nat) : Int)
 | [], a, d, _, p, hp => by rw [Tm.pres] at hp; cases hp
 | t :: l, a, d, h, p, hp => by
  rw [Tm.pres] at hp
  rcases List.mem_append.1 hp with hp | hp
  ·exact pre_sc t a d h.1 p hp
  ·exact pres_sc l a d h.2 p hp
end
theorem loose_calls {t : Tm} (h : t.size ≤ 500000000) (hc : t.Sc 0) : PureIs Tryz.prog 38 [.agg [.sl (t.binds.map Ty.enc), nI t.kind, nI t.index, .sl (t.args.map Tm.enc)]] (nI 0) := by
 refine vc38_ok ⟨teach_calls t, ?_⟩
 refine RangeP.intro2 (fun n : Nat => ((t.binds.map Ty.enc, t.kind, t.index, t.args.map Tm.enc, ()), ((n : Int), ()), ())) encQE (t.pre 0 1) (teach_seq h) (fun r n => n = 0 ∧ ∀ p ∈ r, p.2.kind = 0 → p.2.index < ((p.1.1 : Nat) : Int)) 0 rfl ⟨rfl, pre_sc t 0 1 hc⟩ (fun p r n hI again hag => ?_) fun n hI => ?_
 ·obtain ⟨rfl, hI⟩ := hI
  have h0 := hI p List.mem_cons_self
  have go := hag 0 ⟨rfl, fun q hq => hI q (List.mem_cons_of_mem _ hq)⟩
  dsimp only [encQE]
  refine ITE.intro (fun h1 => ITE.neg ?_ go) fun h1 => go
  have := h0 (by simpa using h1)
  exact decide_eq_false (by omega)
 ·rw [hI.1]; rfl
theorem backU_take {x : List Ty} {l : List Int} {k : Nat} (h : k < l.length) : (backU x (l.take (k + 1))).map Tm.enc = (backU x (l.take k)).map Tm.enc ++ [(etaT 0 l[k] (x.getD (x.length - 1 - l[k].toNat) (.mk [] 0))).enc] := by
 unfold backU
 rw [← List.take_append_getElem h, List.map_append, List.map_append]; rfl
theorem back_loop0 {b : Int} {c m x : List Ty} {t y : Tm} {of : Ty} {l : List Int} (ht : t.size ≤ 60) (hl : ∀ v ∈ l, 0 ≤ v ∧ v < x.length) (hx : ∀ t ∈ x, t.size ≤ 60) (hxl : x.length ≤ 20) (hll : l.length ≤ 20)
  (hsh : PureIs Tryz.prog 34 [.agg [.sl (y.binds.map Ty.enc), nI y.kind, nI y.index, .sl (y.args.map Tm.enc)], nI (x.length : Nat), nI 0] (.tup [.agg [.sl (y.binds.map Ty.enc), nI y.kind, nI y.index, .sl (y.args.map Tm.enc)], nI 0]))
  (hlo : PureIs Tryz.prog 38 [.agg [.sl (y.binds.map Ty.enc), nI y.kind, nI y.index, .sl (y.args.map Tm.enc)]] (nI 0))
  (hput : ∀ {l0 u d s z : Int}, BudOk 5000 l0 u d z → HFn Tryz.prog 35 [.agg [.sl (y.binds.map Ty.enc), nI y.kind, nI y.index, .sl (y.args.map Tm.enc)], .ptr 0 0, .sl ((backU x l).map Tm.enc)] [.box (budC l0 u d 0 s z)] (FoundL (putR y (backU x l) 5000)))
  (hres : (putR y (backU x l) 5000).1.err = 2 ∨ (putR y (backU x l) 5000).1.err = 11 ∨ (putR y (backU x l) 5000).1.err = 0 ∧ (putR y (backU x l) 5000).2 = t) :
  vc5_L11 ((encInts l, x.map Ty.enc, (), (), (), 0, ()), ((b, c.map Ty.enc, m.map Ty.enc, ()), (t.binds.map Ty.enc, t.kind, t.index, t.args.map Tm.enc, ()), (b, c.map Ty.enc, m.map Ty.enc, ()), (t.binds.map Ty.enc, t.kind, t.index, t.args.map Tm.enc, ()), (of.args.map Ty.enc, of.base, ()), (y.binds.map Ty.enc, y.kind, y.index, y.args.map Tm.enc, ()), (backU x (l.take 0)).map Tm.enc, ())) (fun a => a = nB true) := by
 have heq := tequal_calls _ t t (Nat.le_refl _) (by omega)
 rw [Tm.same_self] at heq
 have lo : ∃ i, PureIs Tryz.prog 38 [.agg [.sl (y.binds.map Ty.enc), nI y.kind, nI y.index, .sl (y.args.map Tm.enc)]] (nI i) ∧ nB (i == 0) = nB true := ⟨_, hlo, rfl⟩
 refine LoopP.intro (fun k : Nat => ((encInts l, x.map Ty.enc, (), (), (), (k : Int), ()), ((b, c.map Ty.enc, m.map Ty.enc, ()), (t.binds.map Ty.enc, t.kind, t.index, t.args.map Tm.enc, ()), (b, c.map Ty.enc, m.map Ty.enc, ()), (t.binds.map Ty.enc, t.kind, t.index, t.args.map Tm.enc, ()), (of.args.map Ty.enc, of.base, ()), (y.binds.map Ty.enc, y.kind, y.index, y.args.map Tm.enc, ()), (backU x (l.take k)).map Tm.enc, ()))) (fun k => k ≤ l.length) (fun k => l.length - k) 0 rfl (Nat.zero_le _) ?_
 intro k hk again hag
 dsimp only
 rw [encInts_len, List.length_map]
 refine ITE.intro (fun h => ?_) fun h => ?_
 ·have hlt : k < l.length := by simpa using h
  have hv := hl _ (List.getElem_mem hlt)
  have hlt2 : x.length - 1 - l[k].toNat < x.length := by omega
  have hg : List.getD (encInts l) (Int.toNat (k : Int)) .top = nI l[k] := by
   rw [Int.toNat_natCast, List.getD_eq_getElem?_getD, encInts, List.getElem?_map, List.getElem?_eq_getElem hlt]; rfl
  have hw : IntKind.wrap .i64 (IntKind.wrap .i64 (((x.length : Nat) : Int) - 1) - l[k]) = ((x.length - 1 - l[k].toNat : Nat) : Int) := by
   rw [wrap_i (n := ((x.length : Nat) : Int) - 1) (by omega) (by omega), wrap_i (by omega) (by omega)]; omega
  have hsz := hx _ (List.getElem_mem hlt2)
  have heta := pEta_calls _ x[x.length - 1 - l[k].toNat] 0 l[k] (Nat.le_refl _) (by omega) (fun _ => by omega)
  rw [Ty.enc_eq, Tm.enc_eq] at heta
  refine ⟨by omega, by omega, _, hg, by omega, by omega, _, hg, ?_⟩
  rw [hw]
  refine ⟨by omega, by omega, _, _, Ty.enc_getD hlt2, _, _, _, _, heta, rfl, ?_⟩
  have e : (backU x (l.take k)).map Tm.enc ++ [.agg [.sl ((etaT 0 l[k] x[x.length - 1 - l[k].toNat]).binds.map Ty.enc), nI (etaT 0 l[k] x[x.length - 1 - l[k].toNat]).kind, nI (etaT 0 l[k] x[x.length - 1 - l[k].toNat]).index, .sl ((etaT 0 l[k] x[x.length - 1 - l[k].toNat]).args.map Tm.enc)]] = (backU x (l.take (k + 1))).map Tm.enc := by
   rw [backU_take hlt, List.getD_eq_getElem?_getD, List.getElem?_eq_getElem hlt2, Tm.enc_eq]; rfl
  have hlen : ((backU x (l.take (k + 1))).map Tm.enc).length = k + 1 := by rw [List.length_map, backU, List.length_map, List.length_take]; omega
  rw [e, wrap_n (by omega)]
  exact ⟨appOk_one rfl (by omega) (by decide), rfl, hag (k + 1) (by omega) (by omega)⟩
 ·have hge : l.length ≤ k := by simpa using h
  rw [List.take_of_length_le hge]
  refine ⟨_, _, _, _, _, hsh, ?_⟩
  generalize putR y (backU x l) 5000 = Q at hput hres
  constructor
  ·refine ⟨_, bud_fresh (n := 5000) (by omega), fun r q ⟨g1, g2⟩ => ⟨_, _, _, _, _, _, ⟨g1, g2⟩, ?_⟩⟩
   constructor <;> exact ⟨rfl, _, hput (budOk_fresh (by omega)), fun r q ⟨l1, u1, d1, s1, y1, g2, _, _, g1⟩ => ⟨l1, u1, d1, 0, s1, y1, _, _, _, _, _, ⟨g1, g2⟩, _, known_calls, ITE.pos rfl (ITE.pos rfl (by
    rcases hres with h | h | ⟨h, h2⟩
    ·exact ITE.pos (by rw [h]; rfl) lo
    ·exact ITE.neg (by rw [h]; rfl) (ITE.pos (by rw [h]; rfl) lo)
    ·rw [h2]; exact ITE.neg (by rw [h]; rfl) (ITE.neg (by rw [h]; rfl) (ITE.pos (by rw [h]; rfl) ⟨_, heq, ITE.pos rfl lo⟩))))⟩⟩
  ·exact ⟨_, bud_fresh (n := 5000) (by omega), fun r q ⟨g1, g2⟩ => ⟨_, _, _, _, _, _, ⟨g1, g2⟩, rfl, _, hput (budOk_fresh (by omega)), fun r q ⟨l1, u1, d1, s1, y1, g2, _, _, g1⟩ => ⟨l1, u1, d1, 0, s1, y1, _, _, _, _, _, ⟨g1, g2⟩, _, known_calls, ITE.pos rfl (ITE.pos rfl (by
    rcases hres with h | h | ⟨h, h2⟩
    ·exact ITE.pos (by rw [h]; rfl) lo
    ·exact ITE.neg (by rw [h]; rfl) (ITE.pos (by rw [h]; rfl) lo)
    ·rw [h2]; exact ITE.neg (by rw [h]; rfl) (ITE.neg (by rw [h]; rfl) (ITE.pos (by rw [h]; rfl) ⟨_, heq, ITE.pos rfl lo⟩))))⟩⟩⟩
theorem back_loop1 {b : Int} {c m x : List Ty} {t y : Tm} {of : Ty} {l : List Int} (ht : t.size ≤ 60) (hl : ∀ v ∈ l, 0 ≤ v ∧ v < x.length) (hx : ∀ t ∈ x, t.size ≤ 60) (hxl : x.length ≤ 20) (hll : l.length ≤ 20)
  (hsh : PureIs Tryz.prog 34 [.agg [.sl (y.binds.map Ty.enc), nI y.kind, nI y.index, .sl (y.args.map Tm.enc)], nI (x.length : Nat), nI 0] (.tup [.agg [.sl (y.binds.map Ty.enc), nI y.kind, nI y.index, .sl (y.args.map Tm.enc)], nI 0]))
  (hlo : PureIs Tryz.prog 38 [.agg [.sl (y.binds.map Ty.enc), nI y.kind, nI y.index, .sl (y.args.map Tm.enc)]] (nI 0))
  (hput : ∀ {l0 u d s z : Int}, BudOk 5000 l0 u d z → HFn Tryz.prog 35 [.agg [.sl (y.binds.map Ty.enc), nI y.kind, nI y.index, .sl (y.args.map Tm.enc)], .ptr 0 0, .sl ((backU x l).map Tm.enc)] [.box (budC l0 u d 0 s z)] (FoundL (putR y (backU x l) 5000)))
  (hres : (putR y (backU x l) 5000).1.err = 2 ∨ (putR y (backU x l) 5000).1.err = 11 ∨ (putR y (backU x l) 5000).1.err = 0 ∧ (putR y (backU x l) 5000).2 = t) :
  vc5_L11' ((encInts l, x.map Ty.enc, (), (), (), 0, ()), ((b, c.map Ty.enc, m.map Ty.enc, ()), (t.binds.map Ty.enc, t.kind, t.index, t.args.map Tm.enc, ()), (t.binds.map Ty.enc, t.kind, t.index, t.args.map Tm.enc, ()), (b, c.map Ty.enc, m.map Ty.enc, ()), (of.args.map Ty.enc, of.base, ()), (y.binds.map Ty.enc, y.kind, y.index, y.args.map Tm.enc, ()), (backU x (l.take 0)).map Tm.enc, ())) (fun a => a = nB true) := by
 have heq := tequal_calls _ t t (Nat.le_refl _) (by omega)
 rw [Tm.same_self] at heq
 have lo : ∃ i, PureIs Tryz.prog 38 [.agg [.sl (y.binds.map Ty.enc), nI y.kind, nI y.index, .sl (y.args.map Tm.enc)]] (nI i) ∧ nB (i == 0) = nB true := ⟨_, hlo, rfl⟩
 refine LoopP.intro (fun k : Nat => ((encInts l, x.map Ty.enc, (), (), (), (k : Int), ()), ((b, c.map Ty.enc, m.map Ty.enc, ()), (t.binds.map Ty.enc, t.kind, t.index, t.args.map Tm.enc, ()), (t.binds.map Ty.enc, t.kind, t.index, t.args.map Tm.enc, ()), (b, c.map Ty.enc, m.map Ty.enc, ()), (of.args.map Ty.enc, of.base, ()), (y.binds.map Ty.enc, y.kind, y.index, y.args.map Tm.enc, ()), (backU x (l.take k)).map Tm.enc, ()))) (fun k => k ≤ l.length) (fun k => l.length - k) 0 rfl (Nat.zero_le _) ?_
 intro k hk again hag
 dsimp only
 rw [encInts_len, List.length_map]
 refine ITE.intro (fun h => ?_) fun h => ?_
 ·have hlt : k < l.length := by simpa using h
  have hv := hl _ (List.getElem_mem hlt)
  have hlt2 : x.length - 1 - l[k].toNat < x.length := by omega
  have hg : List.getD (encInts l) (Int.toNat (k : Int)) .top = nI l[k] := by
   rw [Int.toNat_natCast, List.getD_eq_getElem?_getD, encInts, List.getElem?_map, List.getElem?_eq_getElem hlt]; rfl
  have hw : IntKind.wrap .i64 (IntKind.wrap .i64 (((x.length : Nat) : Int) - 1) - l[k]) = ((x.length - 1 - l[k].toNat : Nat) : Int) := by
   rw [wrap_i (n := ((x.length : Nat) : Int) - 1) (by omega) (by omega), wrap_i (by omega) (by omega)]; omega
  have hsz := hx _ (List.getElem_mem hlt2)
  have heta := pEta_calls _ x[x.length - 1 - l[k].toNat] 0 l[k] (Nat.le_refl _) (by omega) (fun _ => by omega)
  rw [Ty.enc_eq, Tm.enc_eq] at heta
  refine ⟨by omega, by omega, _, hg, by omega, by omega, _, hg, ?_⟩
  rw [hw]
  refine ⟨by omega, by omega, _, _, Ty.enc_getD hlt2, _, _, _, _, heta, rfl, ?_⟩
  have e : (backU x (l.take k)).map Tm.enc ++ [.agg [.sl ((etaT 0 l[k] x[x.length - 1 - l[k].toNat]).binds.map Ty.enc), nI (etaT 0 l[k] x[x.length - 1 - l[k].toNat]).kind, nI (etaT 0 l[k] x[x.length - 1 - l[k].toNat]).index, .sl ((etaT 0 l[k] x[x.length - 1 - l[k].toNat]).args.map Tm.enc)]] = (backU x (l.take (k + 1))).map Tm.enc := by
   rw [backU_take hlt, List.getD_eq_getElem?_getD, List.getElem?_eq_getElem hlt2, Tm.enc_eq]; rfl
  have hlen : ((backU x (l.take (k + 1))).map Tm.enc).length = k + 1 := by rw [List.length_map, backU, List.length_map, List.length_take]; omega
  rw [e, wrap_n (by omega)]
  exact ⟨appOk_one rfl (by omega) (by decide), rfl, hag (k + 1) (by omega) (by omega)⟩
 ·have hge : l.length ≤ k := by simpa using h
  rw [List.take_of_length_le hge]
  refine ⟨_, _, _, _, _, hsh, ?_⟩
  generalize putR y (backU x l) 5000 = Q at hput hres
  constructor
  ·refine ⟨_, bud_fresh (n := 5000) (by omega), fun r q ⟨g1, g2⟩ => ⟨_, _, _, _, _, _, ⟨g1, g2⟩, ?_⟩⟩
   constructor <;> exact ⟨rfl, _, hput (budOk_fresh (by omega)), fun r q ⟨l1, u1, d1, s1, y1, g2, _, _, g1⟩ => ⟨l1, u1, d1, 0, s1, y1, _, _, _, _, _, ⟨g1, g2⟩, _, known_calls, ITE.pos rfl (ITE.pos rfl (by
    rcases hres with h | h | ⟨h, h2⟩
    ·exact ITE.pos (by rw [h]; rfl) lo
    ·exact ITE.neg (by rw [h]; rfl) (ITE.pos (by rw [h]; rfl) lo)
    ·rw [h2]; exact ITE.neg (by rw [h]; rfl) (ITE.neg (by rw [h]; rfl) (ITE.pos (by rw [h]; rfl) ⟨_, heq, ITE.pos rfl lo⟩))))⟩⟩
  ·exact ⟨_, bud_fresh (n := 5000) (by omega), fun r q ⟨g1, g2⟩ => ⟨_, _, _, _, _, _, ⟨g1, g2⟩, rfl, _, hput (budOk_fresh (by omega)), fun r q ⟨l1, u1, d1, s1, y1, g2, _, _, g1⟩ => ⟨l1, u1, d1, 0, s1, y1, _, _, _, _, _, ⟨g1, g2⟩, _, known_calls, ITE.pos rfl (ITE.pos rfl (by
    rcases hres with h | h | ⟨h, h2⟩
    ·exact ITE.pos (by rw [h]; rfl) lo
    ·exact ITE.neg (by rw [h]; rfl) (ITE.pos (by rw [h]; rfl) lo)
    ·rw [h2]; exact ITE.neg (by rw [h]; rfl) (ITE.neg (by rw [h]; rfl) (ITE.pos (by rw [h]; rfl) ⟨_, heq, ITE.pos rfl lo⟩))))⟩⟩⟩
theorem back_lo {x : List Ty} (hx : ∀ t ∈ x, t.size ≤ 60) : ∀ (l : List Int), (∀ v ∈ l, 0 ≤ v ∧ v < x.length) → x.length ≤ 20 → Tm.Los 60 (backU x l) ∧ ∀ t ∈ backU x l, t.nodes ≤ 1000000000
 | [], _, _ => ⟨True.intro, fun t h => by cases h⟩
 | v :: l, h, hl => by
  have hv := h v List.mem_cons_self
  have hlt : x.length - 1 - v.toNat < x.length := by omega
  have hs := hx _ (List.getElem_mem hlt)
  obtain ⟨i1, i2⟩ := back_lo hx l (fun w hw => h w (List.mem_cons_of_mem _ hw)) hl
  have e : x.getD (x.length - 1 - v.toNat) (.mk [] 0) = x[x.length - 1 - v.toNat] := by rw [List.getD_eq_getElem?_getD, List.getElem?_eq_getElem hlt]; rfl
  refine ⟨⟨?_, i1⟩, fun t ht => ?_⟩
  ·show (etaT 0 v (x.getD (x.length - 1 - v.toNat) (.mk [] 0))).Lo 60
   rw [e]; exact etaT_lo _ 0 v ⟨by decide, by decide⟩ ⟨by omega, by omega⟩ hs (by omega)
  ·rcases List.mem_cons.1 ht with rfl | ht
   ·show (etaT 0 v (x.getD (x.length - 1 - v.toNat) (.mk [] 0))).nodes ≤ _
    rw [e, etaT_nodes]; omega
   ·exact i2 t ht
theorem PatternBack_of (hshift : ∀ (y : Tm) (n : Nat), y.size ≤ 100000 → y.Ok → y.Sc 0 → n ≤ 1000 → PureIs Tryz.prog 34 [.agg [.sl (y.binds.map Ty.enc), nI y.kind, nI y.index, .sl (y.args.map Tm.enc)], nI (n : Nat), nI 0] (.tup [.agg [.sl (y.binds.map Ty.enc), nI y.kind, nI y.index, .sl (y.args.map Tm.enc)], nI 0]))
  {b : Int} {c m x : List Ty} {t : Tm} {l : List Int} (hok : t.Ok) : PureIs Tryz.prog 5 [.agg [nI b, .sl (c.map Ty.enc), .sl (m.map Ty.enc)], .sl (x.map Ty.enc), t.enc, .sl (encInts l)] (nB true) := by
 have kn : ∃ b, PureIs Tryz.prog 27 [] (nB b) ∧ nB b = nB true := ⟨_, known_calls, rfl⟩
 have he := Tm.enc_eq t
 have hfew := tmFew_calls (most := 60) (d := 60) (t := t) (by omega) (by omega)
 rw [he] at hfew
 rw [he]
 refine vc5_ok ⟨cut20_ok l, _, hfew, ITE.intro (fun _ => kn) fun h => ?_⟩
 have hsz : t.size ≤ 60 := Tm.fewB_size (d := 60) (by simpa using h)
 refine ⟨_, small_calls b c m x, ITE.intro (fun _ => kn) fun h => ?_⟩
 have hsm : smallB c m x = true := by simpa using h
 obtain ⟨⟨g1, g2, g3⟩, ⟨h1, h2, h3⟩, h4, h5, h6⟩ := small_all hsm
 have hto := tmTo_calls _ t (Nat.le_refl _) (by omega)
 rw [he] at hto
 have hll : (l.take 20).length ≤ 20 := by rw [List.length_take]; omega
 refine ⟨_, _, _, world_calls (by omega) (by omega), _, tysTo_calls (by omega), _, _, _, _, hto, ?_⟩
 have hty := typeOf_calls (b := b) (c := c) (m := m) (x := x) hok (by omega)
 have hle := headTy_le (t := t) (S := 60) h4 h5 h6 hsz (by omega)
 have hrw := rightWorld_calls (b := b) (c := c) (m := m) (by omega) (by omega) (by rw [Ty.sizes_append]; omega)
 have hck := check_calls (b := b) (c := c) (m := m) (x := x) (t := t) (of := (t.typ c m x).1) (fun t ht => by have := h4 t ht; omega) (fun t ht => by have := h5 t ht; omega) hok (fun t ht => by have := h6 t ht; omega) (by omega) (by omega)
 have hmul : (l.take 20).length * Ty.sizes x ≤ 20 * 1200 := Nat.mul_le_mul hll h3
 have htk := Take_calls (t := t) (b := x) (l := l.take 20) (by omega) hok (by omega) (by omega) (by omega)
 have htz := Tm.take_size (t := t) (b := x) (l := l.take 20) hok (by omega) (by omega)
 unfold vc5_L4 vc5_L4'
 rw [cut20]
 generalize l.take 20 = l at hll htk htz hmul
 rw [takeAV, he, Tm.enc_eq] at htk
 have all : (t.take x l).2 = 0 → (if trest 0 (t.pre 0 1) = true then (if t.isB c m x (t.typ c m x).1 = true then (0 : Int) else 5) else 2) = 0 →
   vc5_L11 ((encInts l, x.map Ty.enc, (), (), (), 0, ()), ((b, c.map Ty.enc, m.map Ty.enc, ()), (t.binds.map Ty.enc, t.kind, t.index, t.args.map Tm.enc, ()), (b, c.map Ty.enc, m.map Ty.enc, ()), (t.binds.map Ty.enc, t.kind, t.index, t.args.map Tm.enc, ()), ((t.typ c m x).1.args.map Ty.enc, (t.typ c m x).1.base, ()), ((t.take x l).1.binds.map Ty.enc, (t.take x l).1.kind, (t.take x l).1.index, (t.take x l).1.args.map Tm.enc, ()), [], ())) (fun a => a = nB true) ∧ vc5_L11' ((encInts l, x.map Ty.enc, (), (), (), 0, ()), ((b, c.map Ty.enc, m.map Ty.enc, ()), (t.binds.map Ty.enc, t.kind, t.index, t.args.map Tm.enc, ()), (t.binds.map Ty.enc, t.kind, t.index, t.args.map Tm.enc, ()), (b, c.map Ty.enc, m.map Ty.enc, ()), ((t.typ c m x).1.args.map Ty.enc, (t.typ c m x).1.base, ()), ((t.take x l).1.binds.map Ty.enc, (t.take x l).1.kind, (t.take x l).1.index, (t.take x l).1.args.map Tm.enc, ()), [], ())) (fun a => a = nB true) := by
  intro e1 e2
  have hib : t.isB c m x (t.typ c m x).1 = true := by
   cases hb : t.isB c m x (t.typ c m x).1 with
   | true => rfl
   | false =>
    rw [hb] at e2
    cases hr : trest 0 (t.pre 0 1) <;> rw [hr] at e2 <;> simp at e2
  have hti := (Tm.is_iff c m t x _).1 hib
  generalize (t.typ c m x).1 = of at hti
  unfold Tm.take at e1 htz
  have hm : mayB x.length l = true := by
   cases hm : mayB x.length l with
   | true => rfl
   | false => rw [hm] at e1; simp at e1
  rw [if_pos hm] at e1 htz
  have hcl : Tm.clash x.length l 0 t = false := by
   cases hcl : Tm.clash x.length l 0 t with
   | false => rfl
   | true => rw [hcl] at e1; simp at e1
  rw [if_neg (by rw [hcl]; simp)] at htz
  have hl := (mayB_iff.1 hm).2
  have hln : l.length ≤ x.length := nodup_len _ _ (mayB_iff.1 hm).1 hl
  have hy : (t.take x l).1 = .mk (typesOf x l ++ t.binds) t.kind (Tm.taken x.length l 0 t).index (Tm.taken x.length l 0 t).args := by unfold Tm.take; rw [if_pos hm, if_neg (by rw [hcl]; simp)]
  rw [hy]
  have hyok : (Tm.mk (typesOf x l ++ t.binds) t.kind (Tm.taken x.length l 0 t).index (Tm.taken x.length l 0 t).args).Ok := by
   have h := (Tm.taken_ok (n := x.length) (l := l) (by omega) hln _ t 0 (Nat.le_refl _) hok (by omega)).1
   have e : (Tm.taken x.length l 0 t).kind = t.kind := by rw [Tm.taken_eq]; rfl
   revert h e
   cases Tm.taken x.length l 0 t with
   | mk bs k i a => exact fun h e => ⟨by rw [← e]; exact h.1, h.2⟩
  obtain ⟨q1, q2⟩ := taken_is (c := c) (m := m) (x := x) (l := l) [] t [] of (by rw [List.append_nil]; exact hti) hcl
  have htkb : (Tm.taken x.length l 0 t).binds = t.binds ∧ (Tm.taken x.length l 0 t).kind = t.kind := by rw [Tm.taken_eq]; exact ⟨rfl, rfl⟩
  rw [List.length_nil, List.append_nil] at q2
  obtain ⟨r1, w, r2, r3, r4⟩ := Tm.is_eq.1 q2
  rw [htkb.1, htkb.2] at r2
  rw [htkb.1] at r1 r4
  have hyi : (Tm.mk (typesOf x l ++ t.binds) t.kind (Tm.taken x.length l 0 t).index (Tm.taken x.length l 0 t).args).Is c m [] (.mk (typesOf x l ++ of.args) of.base) := ⟨by rw [r1]; rfl, w, by rw [← List.append_assoc]; exact r2, r3, by rw [← List.append_assoc]; exact r4⟩
  have hsc := is_sc _ _ _ hyi
  have hbl := back_lo h6 l hl (by omega)
  have hts := typesOf_sizes hl
  have hys : (Tm.mk (typesOf x l ++ t.binds) t.kind (Tm.taken x.length l 0 t).index (Tm.taken x.length l 0 t).args).size ≤ 100000 := Nat.le_trans htz (by omega)
  have hylo : (Tm.mk (typesOf x l ++ t.binds) t.kind (Tm.taken x.length l 0 t).index (Tm.taken x.length l 0 t).args).Lo 2000 := by
   obtain ⟨o1, o2⟩ := Tm.taken_ok (n := x.length) (l := l) (by omega) hln _ t 0 (Nat.le_refl _) hok (by omega)
   have hlo := Tm.lo_eq.1 (Tm.lo_of (B := 60) o1 (by omega))
   have h60 : ∀ u ∈ typesOf x l, u.size ≤ 60 := fun u hu => by
    obtain ⟨v, hv, rfl⟩ := List.mem_map.1 hu
    have := hl v hv
    have hlt : x.length - 1 - v.toNat < x.length := by omega
    rw [List.getD_eq_getElem?_getD, List.getElem?_eq_getElem hlt]
    exact h6 _ (List.getElem_mem hlt)
   have hs1 := sizes_le_mul h60
   have hs2 : (typesOf x l).length = l.length := typesOf_len' x l
   have hts2 := t.size_eq
   have hs3 : (typesOf x l).length * 60 ≤ 20 * 60 := Nat.mul_le_mul_right _ (by omega)
   exact ⟨⟨by rw [Ty.sizes_append]; omega, by have := hlo.1.2; omega⟩, ⟨hyok.1, hyok.2.1⟩, Tm.los_mono (by omega) hlo.2.2⟩
  have hres := back_put (S := 60) (B := 2000) h6 (by omega) (by omega) hti hcl hl hylo (Tm.los_mono (by omega) hbl.1) hbl.2
  obtain ⟨y, hyeq⟩ : ∃ y, y = Tm.mk (typesOf x l ++ t.binds) t.kind (Tm.taken x.length l 0 t).index (Tm.taken x.length l 0 t).args := ⟨_, rfl⟩
  rw [← hyeq] at hyok hsc hylo hres hys ⊢
  have hsh := hshift y x.length (by omega) hyok hsc (by omega)
  have hlo := loose_calls (t := y) (by omega) hsc
  have hput : ∀ {l0 u d s z : Int}, BudOk 5000 l0 u d z → HFn Tryz.prog 35 [.agg [.sl (y.binds.map Ty.enc), nI y.kind, nI y.index, .sl (y.args.map Tm.enc)], .ptr 0 0, .sl ((backU x l).map Tm.enc)] [.box (budC l0 u d 0 s z)] (FoundL (putR y (backU x l) 5000)) := fun hb => nPut_calls (B := 2000) (by omega) hylo (Tm.los_mono (by omega) hbl.1) hbl.2 hb
  exact ⟨back_loop0 hsz hl h6 (by omega) hll hsh hlo hput hres, back_loop1 hsz hl h6 (by omega) hll hsh hlo hput hres⟩
 constructor
 ·refine ⟨_, _, _, hty, _, _, _, _, _, htk, ITE.intro (fun _ => kn) fun e1 => ITE.intro (fun _ => kn) fun _ => ⟨_, hrw, ITE.intro (fun _ => kn) fun _ => ⟨_, hck, ITE.intro (fun _ => kn) fun e2 => ⟨rfl, (all (by simpa using e1) (by simpa using e2)).1⟩⟩⟩⟩
 ·refine ⟨_, _, _, hty, _, _, _, _, _, htk, ITE.intro (fun _ => kn) fun e1 => ITE.intro (fun _ => kn) fun _ => ⟨_, hrw, ITE.intro (fun _ => kn) fun _ => ⟨_, hck, ITE.intro (fun _ => kn) fun e2 => ⟨rfl, (all (by simpa using e1) (by simpa using e2)).2⟩⟩⟩⟩
end Go.Proofs.YtghlgbhldnkdmaaGreat

namespace Go.Proofs.YtghlgbhldnkdmaaGreat
open Go
set_option linter.unusedSimpArgs false
set_option linter.unusedVariables false
theorem tturnedP_calls {hf hb : Int} : ∀ (n : Nat) (t : Tm) (a : Nat), t.size ≤ n → n ≤ 1000000000 → t.Ok → t.Sc a → a + t.size ≤ 2000000000 → PureIs Tryz.prog 84 [t.enc, nI a, .clo 85 [.eptr (nI hf) 0, .eptr (nI hb) 0, .eptr .top 0]] t.enc := by
 intro n
 induction n with
 | zero => intro t a h; have := t.size_pos; omega
 | succ n ih =>
  intro t a h hn hk hsc ha
  have hq := Tm.sizes_len t.args
  have hq2 := Ty.sizes_len t.binds
  have hts := t.size_eq
  obtain ⟨hk1, hk2, hk3⟩ := Tm.ok_eq hk
  obtain ⟨hs1, hs2⟩ := Tm.sc_eq.1 hsc
  have harr := arrow_calls (t := .mk [] 0) (l := t.binds) (by simp [Ty.size, Ty.sizes]; omega)
  rw [Ty.arrow, Ty.args_mk, Ty.base_mk, List.append_nil, Ty.enc_mk, Ty.enc_mk, List.map_nil] at harr
  have hw : IntKind.wrap .i64 ((a : Int) + ((List.length (t.binds.map Ty.enc) : Nat) : Int)) = ((a + t.binds.length : Nat) : Int) := by rw [List.length_map, wrap_i (by omega) (by omega)]; omega
  have loop : vc_turnedP_L6 ((((a + t.binds.length : Nat) : Int), ((), (), (), ()), (), (), t.args.map Tm.enc, ((List.length (t.args.map Tm.enc) : Nat) : Int), 0, ()), ((t.binds.map Ty.enc, t.kind, t.index, t.args.map Tm.enc, ()), ((), 0, 0, (), ()), (t.binds.map Ty.enc, t.kind, t.index, (), ()), [], ())) hf hb (fun x => x = t.enc) := by
   refine LoopP.intro (fun k : Nat => ((((a + t.binds.length : Nat) : Int), ((), (), (), ()), (), (), t.args.map Tm.enc, (t.args.length : Int), (k : Int), ()), ((t.binds.map Ty.enc, t.kind, t.index, t.args.map Tm.enc, ()), ((), 0, 0, (), ()), (t.binds.map Ty.enc, t.kind, t.index, (), ()), (t.args.take k).map Tm.enc, ())))
    (fun k => k ≤ t.args.length) (fun k => t.args.length - k) 0 (by rw [List.length_map]; rfl) (Nat.zero_le _) ?_
   intro k hk again hag
   dsimp only
   refine ITE.intro (fun h => ?_) fun h => ?_
   ·have hlt : k < t.args.length := by simpa using h
    have hz := Tm.arg_size hlt
    have hi := ih t.args[k] (a + t.binds.length) (by omega) (by omega) (Tm.Oks_mem hk3 (List.getElem_mem hlt)) (Tm.scs_iff.1 hs2 _ (List.getElem_mem hlt)) (by have := Tm.sizes_mem (List.getElem_mem hlt); omega)
    rw [Tm.enc_eq] at hi
    refine ⟨by omega, by rw [List.length_map]; omega, _, _, _, _, Tm.enc_getD hlt, _, _, _, _, hi, rfl, appOk_one rfl (by simp; omega) (by decide), rfl, ?_⟩
    rw [wrap_n (by omega), Tm.enc_snoc, take_snoc' hlt]
    exact ⟨rfl, rfl, rfl, hag (k + 1) (by omega) (by omega)⟩
   ·have : t.args.length ≤ k := by simpa using h
    refine ⟨rfl, ?_⟩
    rw [List.take_of_length_le this, ← Tm.enc_eq]
  rw [Tm.enc_eq]
  rw [Tm.enc_eq] at loop
  refine vc_turnedP_ok ⟨_, _, harr, ?_⟩
  rw [hw]
  refine ITE.intro (fun h => ITE.neg ?_ ⟨rfl, rfl, rfl, rfl, loop⟩) fun h => ⟨rfl, rfl, rfl, rfl, loop⟩
  have := hs1 (by simpa using h)
  exact decide_eq_false (by omega)
theorem shift_calls (y : Tm) (n : Nat) (h : y.size ≤ 100000) (hk : y.Ok) (hc : y.Sc 0) (hn : n ≤ 1000) : PureIs Tryz.prog 34 [.agg [.sl (y.binds.map Ty.enc), nI y.kind, nI y.index, .sl (y.args.map Tm.enc)], nI (n : Nat), nI 0] (.tup [.agg [.sl (y.binds.map Ty.enc), nI y.kind, nI y.index, .sl (y.args.map Tm.enc)], nI 0]) := by
 have ht := tturnedP_calls (hf := 0) (hb := (n : Int)) _ y 0 (Nat.le_refl _) (by omega) hk hc (by omega)
 rw [Tm.enc_eq] at ht
 exact vc34_ok (ITE.neg rfl ⟨_, _, _, _, ht, rfl⟩)
theorem PatternBack_calls {b : Int} {c m x : List Ty} {t : Tm} {l : List Int} (hok : t.Ok) : PureIs Tryz.prog 5 [.agg [nI b, .sl (c.map Ty.enc), .sl (m.map Ty.enc)], .sl (x.map Ty.enc), t.enc, .sl (encInts l)] (nB true) := PatternBack_of shift_calls hok
end Go.Proofs.YtghlgbhldnkdmaaGreat
