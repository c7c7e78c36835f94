/- Texts of ours laid together for a claim: P51 P52 P53 P30 P31 P32 P33 P34 P36 P37 P38 P45 P39 P40 P54 P55 P42 P44 P56. -/
import Derived.Tactics
import Derived.Tactics2
import Derived.Defers
import Derived.Laws.Pointers
import Derived.Laws.LoneSync
import Derived.RegionTactic
import Derived.RegionCalls
import Derived.ChangeAlike
import Derived.TacticsInMore
import Derived.RegionIn
import Derived.LoopNIn
import Derived.RecoverIn
import Derived.KernelRfl
import Derived.Test.YtghlgbhldnkdmaaGreatQ42
namespace Go.Proofs.YtghlgbhldnkdmaaGreat
open Go
set_option linter.unusedSimpArgs false
set_option linter.unusedVariables false
def hdL (k i : Int) : La := if k = 0 then .var i.toNat else .con k i
mutual
def Tm.la : Tm → La
 | .mk bs k i l => lams bs (apps (hdL k i) (Tm.las l))
def Tm.las : List Tm → List La
 | [] => []
 | t :: l => Tm.la t :: Tm.las l
end
theorem Tm.las_eq : ∀ (l : List Tm), Tm.las l = l.map Tm.la
 | [] => rfl
 | t :: l => by rw [Tm.las, Tm.las_eq l]; rfl
theorem Tm.la_eq (t : Tm) : t.la = lams t.binds (apps (hdL t.kind t.index) (t.args.map Tm.la)) := by cases t; rw [Tm.la, Tm.las_eq]; rfl
mutual
def Tm.Sc : Nat → Tm → Prop
 | N, .mk bs k i l => (k = 0 → 0 ≤ i ∧ i < ((N + bs.length : Nat) : Int)) ∧ Tm.Scs (N + bs.length) l
def Tm.Scs : Nat → List Tm → Prop
 | _, [] => True
 | N, t :: l => Tm.Sc N t ∧ Tm.Scs N l
end
theorem Tm.sc_eq {N : Nat} {t : Tm} : t.Sc N ↔ (t.kind = 0 → 0 ≤ t.index ∧ t.index < ((N + t.binds.length : Nat) : Int)) ∧ Tm.Scs (N + t.binds.length) t.args := by cases t; exact Iff.rfl
theorem Tm.scs_iff {N : Nat} {l : List Tm} : Tm.Scs N l ↔ ∀ t ∈ l, t.Sc N := by
 induction l with
 | nil => exact ⟨fun _ t h => (by cases h), fun _ => True.intro⟩
 | cons u l ih =>
  rw [Tm.Scs, ih]
  exact ⟨fun ⟨h1, h2⟩ t ht => (List.mem_cons.1 ht).elim (fun h => h ▸ h1) (h2 t), fun h => ⟨h u List.mem_cons_self, fun t ht => h t (List.mem_cons_of_mem _ ht)⟩⟩
def rise (d b : Nat) : Nat → Nat := fun j => if j < d then j else j + b
theorem rise_up (n d b j : Nat) : upRs n (rise d b) j = rise (d + n) b j := by
 unfold upRs rise
 by_cases h : j < n
 ·rw [if_pos h, if_pos (by omega)]
 ·rw [if_neg h]
  by_cases h2 : j - n < d
  ·rw [if_pos h2, if_pos (by omega)]; omega
  ·rw [if_neg h2, if_neg (by omega)]; omega
theorem hdL_ren (k i : Int) (ρ : Nat → Nat) : (hdL k i).ren ρ = if k = 0 then .var (ρ i.toNat) else .con k i := by
 unfold hdL; split <;> rfl
mutual
theorem lift_la {B b : Nat} : ∀ (t : Tm) (d N : Nat), t.Lo B → t.Sc N → N + B * t.nodes + b ≤ 9000000000000000000 → (t.lift b d).la = t.la.ren (rise d b) ∧ (t.lift b d).Sc (N + b)
 | .mk bs k i l, d, N, hlo, hsc, hb => by
  obtain ⟨⟨h1, h2⟩, ⟨h3, h4⟩, h5⟩ := hlo
  obtain ⟨h6, h7⟩ := hsc
  have hbl := Ty.sizes_len bs
  rw [Tm.nodes, Nat.mul_add, Nat.mul_one] at hb
  obtain ⟨g1, g2⟩ := lifts_la (b := b) l (d + bs.length) (N + bs.length) h5 h7 (by omega)
  rw [Tm.lift, Tm.la, Tm.la, lams_ren, apps_ren, hdL_ren]
  constructor
  ·rw [g1]
   congr 2
   ·unfold hdL
    by_cases hk : k = 0
    ·obtain ⟨h8, h9⟩ := h6 hk
     rw [if_pos hk, if_pos hk, rise_up]
     unfold rise
     by_cases hi : ((d + bs.length : Nat) : Int) ≤ i
     ·rw [if_pos ⟨hk, hi⟩, wrap_i (by omega) (by omega), if_neg (by omega)]; congr 1; omega
     ·rw [if_neg (fun h => hi h.2), if_pos (by omega)]
    ·rw [if_neg hk, if_neg hk, if_neg (fun h => hk h.1)]
   ·exact List.map_congr_left fun a _ => La.ren_ext a fun j => (rise_up _ _ _ _).symm
  ·refine ⟨fun hk => ?_, ?_⟩
   ·obtain ⟨h8, h9⟩ := h6 hk
    by_cases hi : ((d + bs.length : Nat) : Int) ≤ i
    ·rw [if_pos ⟨hk, hi⟩, wrap_i (by omega) (by omega)]; omega
    ·rw [if_neg (fun h => hi h.2)]; omega
   ·rw [show N + b + bs.length = N + bs.length + b from by omega]; exact g2
theorem lifts_la {B b : Nat} : ∀ (l : List Tm) (d N : Nat), Tm.Los B l → Tm.Scs N l → N + B * Tm.nodess l + b ≤ 9000000000000000000 → Tm.las (Tm.lifts b d l) = (Tm.las l).map (·.ren (rise d b)) ∧ Tm.Scs (N + b) (Tm.lifts b d l)
 | [], d, N, _, _, _ => ⟨rfl, True.intro⟩
 | t :: l, d, N, hlo, hsc, hb => by
  rw [Tm.nodess, Nat.mul_add] at hb
  obtain ⟨g1, g2⟩ := lift_la (b := b) t d N hlo.1 hsc.1 (by omega)
  obtain ⟨g3, g4⟩ := lifts_la (b := b) l d N hlo.2 hsc.2 (by omega)
  rw [Tm.lifts, Tm.las, Tm.las, g1, g3]
  exact ⟨rfl, g2, g4⟩
end
theorem ups_zero (σ : Nat → La) (i : Nat) : ups 0 σ i = σ i := by
 unfold ups
 simp only [Nat.not_lt_zero, if_false, Nat.sub_zero]
 exact La.ren_id _ fun i => rfl
theorem ups_ups (n d : Nat) (σ : Nat → La) (i : Nat) : ups n (ups d σ) i = ups (d + n) σ i := by
 unfold ups
 by_cases h : i < n
 ·rw [if_pos h, if_pos (by omega)]
 ·rw [if_neg h]
  by_cases h2 : i - n < d
  ·rw [if_pos h2, if_pos (by omega)]; show La.var (i - n + n) = _; congr 1; omega
  ·rw [if_neg h2, if_neg (by omega), La.ren_ren, show i - n - d = i - (d + n) from by omega]
   exact La.ren_ext _ fun j => by omega
theorem goArgs_conv {g : Mt → Tm → Mt × Tm} (hg : Keeps1 g) {σ : Nat → La} {N : Nat} : ∀ (l : List Tm) (m : Mt), m.count ≤ 100000 → (∀ t ∈ l, ∀ m : Mt, m.count ≤ 100000 → (g m t).1.err = 0 → Conv (t.la.sub σ) (g m t).2.la ∧ (g m t).2.Sc N) → (goArgs g m l).1.err = 0 →
  ConvL ((Tm.las l).map (·.sub σ)) (Tm.las (goArgs g m l).2) ∧ Tm.Scs N (goArgs g m l).2
 | [], m, _, _, _ => ⟨.nil, True.intro⟩
 | t :: l, m, hm, h, he => by
  rw [goArgs] at he ⊢
  simp only at he ⊢
  have h1 := h t List.mem_cons_self m hm ((goArgs_to hg l _).ok he)
  have h2 := goArgs_conv hg l (g m t).1 ((hg m t).most hm) (fun u hu => h u (List.mem_cons_of_mem _ hu)) he
  exact ⟨.cons h1.1 h2.1, h1.2, h2.2⟩
theorem las_getD {l : List Tm} {k : Nat} (h : k < l.length) : (Tm.las l).getD k (.var 0) = l[k].la := by
 rw [Tm.las_eq, List.getD_eq_getElem?_getD, List.getElem?_map, List.getElem?_eq_getElem h]; rfl
theorem las_len (l : List Tm) : (Tm.las l).length = l.length := by rw [Tm.las_eq, List.length_map]
theorem body_conv {B : Nat} (hB : B ≤ 1000000) : ∀ (f : Nat) (m : Mt) (k i : Int) (args us : List Tm) (n D G : Nat), m.count ≤ 100000 → I64 k → I64 i → args.length ≤ B → Tm.Los B args → Tm.Los B us → us.length ≤ n → n ≤ B → (∀ t ∈ us, t.nodes ≤ 1000000000) →
  (k = 0 → 0 ≤ i ∧ i < ((D + n + G : Nat) : Int)) → Tm.Scs (D + n + G) args → Tm.Scs G us → G + D + n + B * f ≤ 4000000000000000000 → (bodyT f m k i args us n D).1.err = 0 →
  Conv ((apps (hdL k i) (Tm.las args)).sub (ups D (putS (Tm.las us) n))) (bodyT f m k i args us n D).2.la ∧ (bodyT f m k i args us n D).2.Sc (D + (n - us.length) + G)
 | 0, m, k, i, args, us, n, D, G, _, _, _, _, _, _, _, _, _, _, _, _, _, he => by
  rw [bodyT] at he
  simp only at he
  split at he
  ·cases he
  ·rename_i h; exact (h he).elim
 | f + 1, m, k, i, args, us, n, D, G, hm, hk, hi, hla, hlo, hus, hun, hnB, hnd, hsk, hsa, hsu, hK, he => by
  have hmul : B * (f + 1) = B * f + B := Nat.mul_succ _ _
  rw [bodyT] at he ⊢
  split at he
  ·rename_i h1; exact ((one_false h1).1 he).elim
  rename_i h1
  rw [if_neg h1]
  obtain ⟨g0, g1, g2, g3⟩ := one_true (by simpa using h1)
  have hkeep := withinT_to f us n D
  have hto := goArgs_to hkeep args m.one.1
  have hm1 : m.one.1.count ≤ 100000 := (Mt.one_to m).most hm
  have hform := goArgs_form (B := B) hkeep args m.one.1 (fun t ht m' hto' he' => by
   have hlo' := Tm.lo_eq.1 (Tm.los_iff.1 hlo t ht)
   have := bodyT_form (B := B) f m' t.kind t.index t.args us n (D + t.binds.length) hlo'.2.1.1 hlo'.2.1.2 hlo'.1.2 hlo'.2.2 hus hun he'
   have hq := Tm.lo_eq.1 this.1.lo
   have hqn := this.1.nodes
   rw [Tm.nodes_eq] at hqn
   exact ⟨by unfold withinT; rw [Tm.nodes_eq, Tm.args_mk]; exact hqn, Tm.lo_eq.2 ⟨⟨hlo'.1.1, hq.1.2⟩, hq.2⟩⟩)
  have hconv := goArgs_conv hkeep (σ := ups D (putS (Tm.las us) n)) (N := D + (n - us.length) + G) args m.one.1 hm1 (fun t ht m' hm' he' => by
   have hlo' := Tm.lo_eq.1 (Tm.los_iff.1 hlo t ht)
   have hsc' := Tm.sc_eq.1 (Tm.scs_iff.1 hsa t ht)
   have hbl := Ty.sizes_len t.binds
   have hf := bodyT_form (B := B) f m' t.kind t.index t.args us n (D + t.binds.length) hlo'.2.1.1 hlo'.2.1.2 hlo'.1.2 hlo'.2.2 hus hun he'
   have hb := body_conv hB f m' t.kind t.index t.args us n (D + t.binds.length) G hm' hlo'.2.1.1 hlo'.2.1.2 hlo'.1.2 hlo'.2.2 hus hun hnB hnd
    (fun h => by have := hsc'.1 h; omega) (by rw [show D + t.binds.length + n + G = D + n + G + t.binds.length from by omega]; exact hsc'.2) hsu (by omega) he'
   unfold withinT
   generalize (bodyT f m' t.kind t.index t.args us n (D + t.binds.length)).2 = R at hf hb
   obtain ⟨rb, rk, ri, ra⟩ := R
   obtain ⟨hb1, hb2⟩ := hb
   have hrb : rb = [] := hf.2
   subst hrb
   refine ⟨?_, ?_⟩
   ·rw [Tm.la_eq t, lams_sub, ← Tm.las_eq]
    show Conv _ (lams t.binds (apps (hdL rk ri) (Tm.las ra)))
    refine Conv.lams ?_ _
    refine Conv.trans (.of_eq (La.sub_ext _ fun j => ?_)) hb1
    exact ups_ups _ _ _ _
   ·have hb2 := Tm.sc_eq.1 hb2
    refine Tm.sc_eq.2 ?_
    simp only [Tm.binds_mk, Tm.kind_mk, Tm.index_mk, Tm.args_mk, List.length_nil, Nat.add_zero] at hb2 ⊢
    rw [show D + (n - us.length) + G + t.binds.length = D + t.binds.length + (n - us.length) + G from by omega]
    exact hb2)
  have hlen := goArgs_len (g := withinT (bodyT f) us n D) args m.one.1
  generalize goArgs (withinT (bodyT f) us n D) m.one.1 args = r at he hto hform hlen hconv
  rw [apps_sub]
  have hlas := las_len us
  have hσ : ∀ j, ups D (putS (Tm.las us) n) j = if j < D then .var j else (putS (Tm.las us) n (j - D)).ren (· + D) := fun j => rfl
  unfold headT at he ⊢
  split at he
  ·rename_i h2; exact (h2 he).elim
  rename_i h2
  have h2 : r.1.err = 0 := by simpa using h2
  obtain ⟨q1, q2⟩ := hform h2
  obtain ⟨c1, c2⟩ := hconv h2
  rw [if_neg (by simp [h2])]
  have fin : ∀ i' : Int, Conv ((hdL k i).sub (ups D (putS (Tm.las us) n))) (hdL k i') → (k = 0 → 0 ≤ i' ∧ i' < ((D + (n - us.length) + G : Nat) : Int)) → Conv (apps ((hdL k i).sub (ups D (putS (Tm.las us) n))) ((Tm.las args).map (·.sub (ups D (putS (Tm.las us) n))))) (Tm.mk [] k i' r.2).la ∧ (Tm.mk [] k i' r.2).Sc (D + (n - us.length) + G) := by
   intro i' g1 g2
   rw [Tm.la]
   exact ⟨Conv.apps c1 g1, ⟨by simpa using g2, by simpa using c2⟩⟩
  split at he
  ·rename_i h3
   rw [if_pos h3]
   by_cases hk0 : k = 0
   ·have hid : i < D := h3.resolve_left (fun h => h hk0)
    have hs := hsk hk0
    refine fin i (.of_eq ?_) (fun _ => by omega)
    unfold hdL
    rw [if_pos hk0, La.sub, hσ, if_pos (by omega)]
   ·refine fin i (.of_eq ?_) (fun h => (hk0 h).elim)
    unfold hdL
    rw [if_neg hk0, La.sub]
  rename_i h3
  rw [if_neg h3]
  have hk0 : k = 0 := Decidable.byContradiction fun hc => h3 (.inl hc)
  have hDi : ¬ i < D := fun h => h3 (.inr h)
  have hs := hsk hk0
  have hj : hdL k i = .var i.toNat := by unfold hdL; rw [if_pos hk0]
  split at he
  ·rename_i h4
   rw [if_pos h4]
   refine fin _ (.of_eq ?_) (fun _ => by omega)
   rw [hj, La.sub, hσ, if_neg (by omega)]
   unfold putS hdL
   rw [if_pos hk0, hlas, if_neg (by omega), if_neg (by omega)]
   show La.var (i.toNat - D - us.length + D) = _
   congr 1; omega
  rename_i h4
  rw [if_neg h4]
  split at he
  ·rename_i h5
   rw [if_pos h5]
   refine fin i (.of_eq ?_) (fun _ => by omega)
   rw [hj, La.sub, hσ, if_neg (by omega)]
   unfold putS
   rw [hlas, if_pos (by omega)]
   show La.var (i.toNat - D + D) = _
   congr 1; omega
  rename_i h5
  rw [if_neg h5]
  split at he
  ·cases he
  rename_i h6
  rw [if_neg h6]
  have h6 : (standT us i n D).binds.length = r.2.length := by simpa using h6
  have hlt : n - 1 - (i - D).toNat < us.length := by omega
  have hst : standT us i n D = us[n - 1 - (i - D).toNat].lift (D + n - us.length) 0 := by
   unfold standT
   rw [List.getD_eq_getElem?_getD, List.getElem?_eq_getElem hlt]; rfl
  have hmem := List.getElem_mem hlt
  have hBn : B * us[n - 1 - (i - D).toNat].nodes ≤ 1000000 * 1000000000 := Nat.mul_le_mul hB (hnd _ hmem)
  obtain ⟨l1, l2⟩ := lift_la (b := D + n - us.length) us[n - 1 - (i - D).toNat] 0 G (Tm.los_iff.1 hus _ hmem) (Tm.scs_iff.1 hsu _ hmem) (by omega)
  rw [← hst] at l1 l2
  have hslo := Tm.lo_eq.1 (standT_lo hus i n D)
  have hsb := Ty.sizes_len (standT us i n D).binds
  have hhead : (hdL k i).sub (ups D (putS (Tm.las us) n)) = (standT us i n D).la := by
   rw [hj, La.sub, hσ, if_neg (by omega)]
   unfold putS
   rw [hlas, if_neg (by omega), if_pos (by omega), show n - 1 - (i.toNat - D) = n - 1 - (i - D).toNat from by omega, las_getD hlt, La.ren_ren, l1]
   exact La.ren_ext _ fun j => by unfold rise; rw [if_neg (by omega)]; omega
  rw [hhead]
  generalize standT us i n D = st at *
  have l2 := Tm.sc_eq.1 l2
  have hto2 : r.1.count ≤ 100000 := hto.most hm1
  have hnest := body_conv hB f r.1 st.kind st.index st.args r.2 st.binds.length 0 (D + (n - us.length) + G) hto2 hslo.2.1.1 hslo.2.1.2 hslo.1.2 hslo.2.2 q2 (by omega) (by omega) (fun t ht => by
   have h1 := Tm.nodess_mem ht
   omega) (fun h => by have := l2.1 h; omega) (by rw [show 0 + st.binds.length + (D + (n - us.length) + G) = G + (D + n - us.length) + st.binds.length from by omega]; exact l2.2) c2 (by omega) he
  rw [show 0 + (st.binds.length - r.2.length) + (D + (n - us.length) + G) = D + (n - us.length) + G from by omega] at hnest
  refine ⟨?_, hnest.2⟩
  refine Conv.trans (Conv.apps c1 (.refl _)) ?_
  rw [Tm.la_eq st]
  refine Conv.trans (beta_many _ _ _ (by rw [las_len]; omega)) ?_
  rw [las_len, ← h6, List.drop_length, ← Tm.las_eq]
  show Conv (La.sub _ _) _
  refine Conv.trans (.of_eq (La.sub_ext _ fun j => ?_)) hnest.1
  exact (ups_zero _ _).symm
theorem put_conv {B : Nat} (hB : B ≤ 1000000) {f : Nat} {m : Mt} {t : Tm} {us : List Tm} {G : Nat} (hm : m.count ≤ 100000) (ht : t.Lo B) (hus : Tm.Los B us) (hnd : ∀ t ∈ us, t.nodes ≤ 1000000000) (hst : t.Sc G) (hsu : Tm.Scs G us) (hK : G + B + B * f ≤ 4000000000000000000)
  (he : (putT f m t us).1.err = 0) : Conv (apps t.la (Tm.las us)) (putT f m t us).2.la ∧ (putT f m t us).2.Sc G := by
 have hlo := Tm.lo_eq.1 ht
 have hsc := Tm.sc_eq.1 hst
 have hbl := Ty.sizes_len t.binds
 unfold putT at he ⊢
 split at he
 ·rename_i h; exact (h he).elim
 rename_i h
 rw [if_neg h]
 split at he
 ·cases he
 rename_i h2
 rw [if_neg h2]
 have hf := bodyT_form (B := B) f m t.kind t.index t.args us t.binds.length 0 hlo.2.1.1 hlo.2.1.2 hlo.1.2 hlo.2.2 hus (by omega) he
 have hb := body_conv hB f m t.kind t.index t.args us t.binds.length 0 G hm hlo.2.1.1 hlo.2.1.2 hlo.1.2 hlo.2.2 hus (by omega) (by omega) hnd (fun h => by have := hsc.1 h; omega) (by rw [show 0 + t.binds.length + G = G + t.binds.length from by omega]; exact hsc.2) hsu (by omega) he
 generalize bodyT f m t.kind t.index t.args us t.binds.length 0 = Q at hf hb
 obtain ⟨qm, rb, rk, ri, ra⟩ := Q
 obtain ⟨hb1, hb2⟩ := hb
 have hrb : rb = [] := hf.2
 subst hrb
 constructor
 ·rw [Tm.la_eq t]
  refine Conv.trans (beta_many _ _ _ (by rw [las_len]; omega)) ?_
  rw [las_len, ← Tm.las_eq]
  show Conv _ (lams (t.binds.drop us.length) (apps (hdL rk ri) (Tm.las ra)))
  refine Conv.lams ?_ _
  refine Conv.trans (.of_eq (La.sub_ext _ fun j => ?_)) hb1
  exact (ups_zero _ _).symm
 ·have hb2 := Tm.sc_eq.1 hb2
  refine Tm.sc_eq.2 ?_
  simp only [Tm.binds_mk, Tm.kind_mk, Tm.index_mk, Tm.args_mk, List.length_nil, Nat.add_zero, List.length_drop, Nat.zero_add] at hb2 ⊢
  rw [show G + (t.binds.length - us.length) = t.binds.length - us.length + G from by omega]
  exact hb2
mutual
theorem Tm.la_nf : ∀ (t : Tm), t.la.nf
 | .mk bs k i l => by
  rw [Tm.la]
  refine lams_nf (apps_nf _ _ ?_ ?_ (Tm.las_nf l)) _
  ·unfold hdL; split <;> rfl
  ·unfold hdL; split <;> exact True.intro
theorem Tm.las_nf : ∀ (l : List Tm), ∀ a ∈ Tm.las l, La.nf a
 | [], a, h => by cases h
 | t :: l, a, h => by
  rw [Tm.las] at h
  rcases List.mem_cons.1 h with rfl | h
  ·exact Tm.la_nf t
  ·exact Tm.las_nf l a h
end
theorem apps_snoc (h : La) (l : List La) (a : La) : apps h (l ++ [a]) = .app (apps h l) a := by rw [apps, List.foldl_append]; rfl
theorem hdL_app {k i : Int} {f a : La} (h : hdL k i = .app f a) : False := by
 unfold hdL at h
 split at h <;> cases h
theorem hdL_lam {k i : Int} {t : Ty} {b : La} (h : hdL k i = .lam t b) : False := by
 unfold hdL at h
 split at h <;> cases h
theorem apps_inj {k i k' i' : Int} (h0 : k = 0 → 0 ≤ i) (h0' : k' = 0 → 0 ≤ i') : ∀ (l m : List La), apps (hdL k i) l.reverse = apps (hdL k' i') m.reverse → (k = k' ∧ i = i') ∧ l = m
 | [], [], h => by
  refine ⟨?_, rfl⟩
  have h : hdL k i = hdL k' i' := h
  unfold hdL at h
  split at h
  ·rename_i hk
   split at h
   ·rename_i hk'
    have := h0 hk
    have := h0' hk'
    have h := La.var.inj h
    exact ⟨by omega, by omega⟩
   ·cases h
  ·split at h
   ·cases h
   ·exact ⟨(La.con.inj h).1, (La.con.inj h).2⟩
 | a :: l, [], h => by
  rw [List.reverse_cons, apps_snoc] at h
  exact (hdL_app h.symm).elim
 | [], b :: m, h => by
  rw [List.reverse_cons, apps_snoc] at h
  exact (hdL_app h).elim
 | a :: l, b :: m, h => by
  rw [List.reverse_cons, List.reverse_cons, apps_snoc, apps_snoc] at h
  obtain ⟨h1, h2⟩ := La.app.inj h
  obtain ⟨g1, g2⟩ := apps_inj h0 h0' l m h1
  exact ⟨g1, by rw [g2, h2]⟩
theorem apps_inj' {k i k' i' : Int} (h0 : k = 0 → 0 ≤ i) (h0' : k' = 0 → 0 ≤ i') {l m : List La} (h : apps (hdL k i) l = apps (hdL k' i') m) : (k = k' ∧ i = i') ∧ l = m := by
 have := apps_inj h0 h0' l.reverse m.reverse (by rw [List.reverse_reverse, List.reverse_reverse]; exact h)
 exact ⟨this.1, by rw [← List.reverse_reverse l, this.2, List.reverse_reverse]⟩
theorem apps_lamR {k i : Int} {t : Ty} {b : La} : ∀ (l : List La), apps (hdL k i) l.reverse = .lam t b → False
 | [], h => hdL_lam h
 | a :: l, h => by
  rw [List.reverse_cons, apps_snoc] at h
  cases h
theorem apps_lam {k i : Int} (l : List La) {t : Ty} {b : La} (h : apps (hdL k i) l = .lam t b) : False := apps_lamR l.reverse (by rw [List.reverse_reverse]; exact h)
theorem lams_inj {k i k' i' : Int} {l m : List La} : ∀ (bs cs : List Ty), lams bs (apps (hdL k i) l) = lams cs (apps (hdL k' i') m) → bs = cs ∧ apps (hdL k i) l = apps (hdL k' i') m
 | [], [], h => ⟨rfl, h⟩
 | t :: bs, [], h => (apps_lam m h.symm).elim
 | [], t :: cs, h => (apps_lam l h).elim
 | t :: bs, u :: cs, h => by
  obtain ⟨h1, h2⟩ := La.lam.inj h
  obtain ⟨g1, g2⟩ := lams_inj bs cs h2
  exact ⟨by rw [h1, g1], g2⟩
mutual
theorem Tm.la_inj : ∀ (t u : Tm) (N M : Nat), t.Sc N → u.Sc M → t.la = u.la → t = u
 | .mk bs k i l, .mk cs k' i' m, N, M, hs, hs', h => by
  rw [Tm.la, Tm.la] at h
  obtain ⟨h1, h2⟩ := lams_inj _ _ h
  obtain ⟨⟨h3, h4⟩, h5⟩ := apps_inj' (fun hk => (hs.1 hk).1) (fun hk => (hs'.1 hk).1) h2
  rw [h1, h3, h4, Tm.las_inj l m _ _ hs.2 hs'.2 h5]
theorem Tm.las_inj : ∀ (l m : List Tm) (N M : Nat), Tm.Scs N l → Tm.Scs M m → Tm.las l = Tm.las m → l = m
 | [], [], _, _, _, _, _ => rfl
 | [], _ :: _, _, _, _, _, h => by simp [Tm.las] at h
 | _ :: _, [], _, _, _, _, h => by simp [Tm.las] at h
 | t :: l, u :: m, N, M, hs, hs', h => by
  rw [Tm.las, Tm.las] at h
  obtain ⟨h1, h2⟩ := List.cons.inj h
  rw [Tm.la_inj t u N M hs.1 hs'.1 h1, Tm.las_inj l m N M hs.2 hs'.2 h2]
end
theorem form_eq {t u : Tm} {N M : Nat} (ht : t.Sc N) (hu : u.Sc M) (h : Conv t.la u.la) : t = u := Tm.la_inj t u N M ht hu (h.nf t.la_nf u.la_nf)
end Go.Proofs.YtghlgbhldnkdmaaGreat

namespace Go.Proofs.YtghlgbhldnkdmaaGreat
open Go
set_option linter.unusedSimpArgs false
set_option linter.unusedVariables false
mutual
def Tm.Is (c m : List Ty) : List Ty → Tm → Ty → Prop
 | x, .mk bs k i l, of => bs = of.args ∧ ∃ h, headTy c m (x ++ bs) k i = some h ∧ h.base = of.base ∧ Tm.IsL c m (x ++ bs) l h.args
def Tm.IsL (c m : List Ty) : List Ty → List Tm → List Ty → Prop
 | _, [], [] => True
 | x, t :: l, u :: us => Tm.Is c m x t u ∧ Tm.IsL c m x l us
 | _, _, _ => False
end
theorem Tm.is_eq {c m x : List Ty} {t : Tm} {of : Ty} : t.Is c m x of ↔ t.binds = of.args ∧ ∃ h, headTy c m (x ++ t.binds) t.kind t.index = some h ∧ h.base = of.base ∧ Tm.IsL c m (x ++ t.binds) t.args h.args := by cases t; exact Iff.rfl
mutual
theorem Tm.is_iff (c m : List Ty) : ∀ (t : Tm) (x : List Ty) (of : Ty), t.isB c m x of = true ↔ t.Is c m x of
 | .mk bs k i l, x, of => by
  rw [Tm.isB, Tm.Is, Bool.and_eq_true, Ty.sames_iff]
  refine and_congr_right fun _ => ?_
  cases headTy c m (x ++ bs) k i with
  | none => exact ⟨fun h => (by cases h), fun ⟨_, h, _⟩ => (by cases h)⟩
  | some u =>
   dsimp only
   rw [Bool.and_eq_true, Bool.and_eq_true, beq_iff_eq, beq_iff_eq]
   refine ⟨fun ⟨h1, h2, h3⟩ => ⟨u, rfl, h1, (Tm.isL_iff c m l _ _).1 ⟨h2.symm, h3⟩⟩, fun ⟨u', h1, h2, h3⟩ => ?_⟩
   cases Option.some.inj h1
   obtain ⟨g1, g2⟩ := (Tm.isL_iff c m l _ _).2 h3
   exact ⟨h2, g1.symm, g2⟩
theorem Tm.isL_iff (c m : List Ty) : ∀ (l : List Tm) (x us : List Ty), (l.length = us.length ∧ Tm.isBs c m x l us = true) ↔ Tm.IsL c m x l us
 | [], x, [] => by simp [Tm.isBs, Tm.IsL]
 | [], x, u :: us => by simp [Tm.IsL]
 | t :: l, x, [] => by simp [Tm.IsL]
 | t :: l, x, u :: us => by
  rw [Tm.isBs, Tm.IsL, Bool.and_eq_true, Tm.is_iff c m t, ← Tm.isL_iff c m l, List.length_cons, List.length_cons]
  exact ⟨fun ⟨h1, h2, h3⟩ => ⟨h2, by omega, h3⟩, fun ⟨h1, h2, h3⟩ => ⟨by omega, h1, h3⟩⟩
end
theorem Tm.isL_len {c m : List Ty} : ∀ {l : List Tm} {x us : List Ty}, Tm.IsL c m x l us → l.length = us.length := fun {l x us} h => ((Tm.isL_iff c m l x us).2 h).1
theorem headTy_nat (c m x : List Ty) (i : Nat) : headTy c m x 0 (i : Int) = if i < x.length then x[x.length - 1 - i]? else none := by
 unfold headTy
 rw [if_neg (by omega), if_pos rfl, Int.toNat_natCast]
 by_cases h : i < x.length
 ·rw [if_pos h, if_pos (by omega)]
 ·rw [if_neg h, if_neg (by omega)]
theorem headTy_app (c m x bs : List Ty) (i : Nat) : headTy c m (x ++ bs) 0 (i : Int) = if i < bs.length then headTy c m bs 0 i else headTy c m x 0 ((i - bs.length : Nat) : Int) := by
 rw [headTy_nat, headTy_nat, headTy_nat, List.length_append]
 by_cases h : i < bs.length
 ·rw [if_pos h, if_pos h, if_pos (by omega), List.getElem?_append_right (by omega)]
  congr 1; omega
 ·rw [if_neg h]
  by_cases h2 : i - bs.length < x.length
  ·rw [if_pos h2, if_pos (by omega), List.getElem?_append_left (by omega)]
   congr 1; omega
  ·rw [if_neg h2, if_neg (by omega)]
theorem headTy_var {c m x : List Ty} {i : Int} {u : Ty} (h : headTy c m x 0 i = some u) : 0 ≤ i ∧ i.toNat < x.length ∧ x[x.length - 1 - i.toNat]? = some u := by
 unfold headTy at h
 split at h
 ·cases h
 ·rw [if_pos rfl] at h
  split at h
  ·exact ⟨by omega, by omega, h⟩
  ·cases h
theorem headTy_far {c m x y : List Ty} {k i : Int} (hk : k ≠ 0) : headTy c m x k i = headTy c m y k i := by
 unfold headTy
 rw [if_neg hk, if_neg hk]
mutual
def etaL : Ty → La → La
 | .mk l _, u => lams l (apps (u.ren (· + l.length)) (etasL l.length 0 l))
def etasL (n : Nat) : Nat → List Ty → List La
 | _, [] => []
 | j, t :: r => etaL t (.var (n - 1 - j)) :: etasL n (j + 1) r
end
theorem eta_eq (t : Ty) (u : La) : etaL t u = lams t.args (apps (u.ren (· + t.args.length)) (etasL t.args.length 0 t.args)) := by cases t; rw [etaL]; rfl
theorem etas_len (n : Nat) : ∀ (l : List Ty) (j : Nat), (etasL n j l).length = l.length
 | [], _ => rfl
 | t :: l, j => by rw [etasL, List.length_cons, List.length_cons, etas_len n l]
theorem etas_get (n : Nat) : ∀ (l : List Ty) (j k : Nat) (h : k < l.length) (d : La), (etasL n j l).getD k d = etaL l[k] (.var (n - 1 - (j + k)))
 | t :: l, j, 0, _, d => by rw [etasL]; rfl
 | t :: l, j, k + 1, h, d => by
  rw [etasL, List.getD_cons_succ, etas_get n l (j + 1) k (by simpa using h), List.getElem_cons_succ, show j + 1 + k = j + (k + 1) by omega]
mutual
theorem eta_sub : ∀ (t : Ty) (u : La) (σ : Nat → La), (etaL t u).sub σ = etaL t (u.sub σ)
 | .mk l b, u, σ => by
  rw [etaL, etaL, lams_sub, apps_sub, etas_sub l l.length 0 _ (fun i hi => by unfold ups; rw [if_pos hi]) (by omega), La.sub_ren, La.ren_sub]
  congr 2
  refine La.sub_ext u fun i => ?_
  unfold ups
  rw [if_neg (by omega), show i + l.length - l.length = i from by omega]
theorem etas_sub : ∀ (l : List Ty) (n j : Nat) (σ : Nat → La), (∀ i, i < n → σ i = .var i) → j + l.length ≤ n → (etasL n j l).map (·.sub σ) = etasL n j l
 | [], n, j, σ, _, _ => rfl
 | t :: l, n, j, σ, h, hj => by
  rw [List.length_cons] at hj
  rw [etasL, List.map_cons, eta_sub t, etas_sub l n (j + 1) σ h (by omega), La.sub, h _ (by omega)]
end
theorem eta_ren (t : Ty) (u : La) (ρ : Nat → Nat) : (etaL t u).ren ρ = etaL t (u.ren ρ) := by rw [La.ren_eq, eta_sub, La.ren_eq]
mutual
theorem etaT_la : ∀ (t : Ty) (k i : Int), (k = 0 → 0 ≤ i ∧ i < 4000000000000000000) → t.size ≤ 4000000000000000000 → (etaT k i t).la = etaL t (hdL k i)
 | .mk l b, k, i, h0, hs => by
  have hl := Ty.sizes_len l
  rw [Ty.size] at hs
  rw [etaT, Tm.la, etaL, etaTs_la l l.length 0 (by omega) (by omega) (by omega)]
  congr 2
  rw [hdL_ren]
  unfold hdL
  by_cases hk : k = 0
  ·have := h0 hk
   rw [if_pos hk, if_pos hk, if_pos hk, wrap_i (by omega) (by omega)]
   congr 1; omega
  ·rw [if_neg hk, if_neg hk, if_neg hk]
theorem etaTs_la : ∀ (l : List Ty) (n j : Nat), j + l.length ≤ n → n ≤ 4000000000000000000 → Ty.sizes l ≤ 4000000000000000000 → Tm.las (etaTs n j l) = etasL n j l
 | [], n, j, _, _, _ => rfl
 | t :: l, n, j, hj, hn, hs => by
  rw [List.length_cons] at hj
  rw [Ty.sizes] at hs
  rw [etaTs, Tm.las, etasL, etaT_la t 0 _ (fun _ => ⟨by omega, by omega⟩) (by omega), etaTs_la l n (j + 1) (by omega) (by omega) (by omega)]
  congr 2
  unfold hdL
  rw [if_pos rfl]
  congr 1; omega
end
def zipE : List Ty → List La → List La
 | t :: l, u :: us => etaL t u :: zipE l us
 | _, _ => []
theorem etas_put (us : List La) : ∀ (l : List Ty) (j : Nat), j + l.length = us.length → (etasL us.length j l).map (·.sub (putS us us.length)) = zipE l (us.drop j)
 | [], j, h => by rw [etasL, zipE]; rfl; intro _ _ _ _ h; cases h
 | t :: l, j, h => by
  rw [List.length_cons] at h
  rw [etasL, List.map_cons, etas_put us l (j + 1) (by omega), List.drop_eq_getElem_cons (show j < us.length by omega), zipE, eta_sub, La.sub]
  congr 2
  unfold putS
  rw [if_neg (by omega), if_pos (by omega), show us.length - 1 - (us.length - 1 - j) = j from by omega, List.getD_eq_getElem?_getD, List.getElem?_eq_getElem (show j < us.length by omega)]
  exact La.ren_id _ fun i => by omega
def KeyP (c m : List Ty) (s : Nat) : Prop := ∀ (B : Ty), B.size < s → ∀ (x : List Ty) (t : Tm), t.Is c m x B → Conv (etaL B t.la) t.la
theorem zip_conv {c m : List Ty} {s : Nat} (hK : KeyP c m s) (ρ : Nat → Nat) (x : List Ty) : ∀ (l : List Tm) (us : List Ty), Tm.IsL c m x l us → (∀ u ∈ us, u.size < s) → ConvL (zipE us ((Tm.las l).map (·.ren ρ))) ((Tm.las l).map (·.ren ρ))
 | [], [], _, _ => .nil
 | t :: l, u :: us, h, hu => by
  rw [Tm.las, List.map_cons, zipE]
  refine .cons ?_ (zip_conv hK ρ x l us h.2 fun v hv => hu v (List.mem_cons_of_mem _ hv))
  rw [← eta_ren]
  exact (hK u (hu u List.mem_cons_self) x t h.1).ren ρ
 | [], _ :: _, h, _ => h.elim
 | _ :: _, [], h, _ => h.elim
def EtaV (c m : List Ty) (s : Nat) (x : List Ty) (σ : Nat → La) (ρ : Nat → Nat) : Prop := ∀ (i : Nat) (A : Ty), headTy c m x 0 (i : Int) = some A → σ i = .var (ρ i) ∨ A.size ≤ s ∧ σ i = etaL A (.var (ρ i))
theorem EtaV.up {c m : List Ty} {s : Nat} {x : List Ty} {σ : Nat → La} {ρ : Nat → Nat} (h : EtaV c m s x σ ρ) (bs : List Ty) : EtaV c m s (x ++ bs) (ups bs.length σ) (upRs bs.length ρ) := by
 intro i A hA
 rw [headTy_app] at hA
 unfold ups upRs
 split at hA
 ·rename_i hi
  rw [if_pos hi, if_pos hi]; exact .inl rfl
 ·rename_i hi
  rw [if_neg hi, if_neg hi]
  rcases h _ _ hA with h | ⟨h1, h2⟩
  ·rw [h]; exact .inl rfl
  ·rw [h2, eta_ren]; exact .inr ⟨h1, rfl⟩
mutual
theorem eta_vars {c m : List Ty} {s : Nat} (hK : KeyP c m s) : ∀ (t : Tm) (x : List Ty) (of : Ty) (σ : Nat → La) (ρ : Nat → Nat), t.Is c m x of → EtaV c m s x σ ρ → Conv (t.la.sub σ) (t.la.ren ρ)
 | .mk bs k i l, x, of, σ, ρ, ht, hσ => by
  obtain ⟨h1, u, h2, h3, h4⟩ := ht
  rw [Tm.la, lams_sub, lams_ren, apps_sub, apps_ren]
  refine Conv.lams ?_ bs
  have hup := hσ.up bs
  have hl := eta_varsL hK l (x ++ bs) u.args _ _ h4 hup
  have hlen := Tm.isL_len h4
  generalize ups bs.length σ = σ' at hup hl
  generalize upRs bs.length ρ = ρ' at hup hl
  by_cases hk : k = 0
  ·subst hk
   have hi := headTy_var h2
   rw [show i = ((i.toNat : Nat) : Int) from by omega] at h2
   have hh : hdL 0 i = .var i.toNat := by unfold hdL; rw [if_pos rfl]
   rw [hh]
   rcases hup _ _ h2 with h | ⟨h5, h⟩
   ·exact Conv.apps hl (.of_eq h)
   ·show Conv (apps (σ' i.toNat) _) (apps (.var (ρ' i.toNat)) _)
    rw [h]
    refine (Conv.apps hl (.refl _)).trans ?_
    have hz := zip_conv hK ρ' (x ++ bs) l u.args h4 (fun v hv => by
     have := Ty.sizes_mem hv
     have := u.size_eq
     omega)
    have hn : ((Tm.las l).map (·.ren ρ')).length = u.args.length := by rw [List.length_map, las_len, hlen]
    generalize (Tm.las l).map (·.ren ρ') = us at hz hn
    rw [eta_eq]
    refine (beta_many us u.args _ (by omega)).trans ?_
    rw [← hn, hn, List.drop_length, apps_sub, ← hn, etas_put us u.args 0 (by omega), List.drop_zero]
    refine Conv.apps hz (.of_eq ?_)
    show putS us us.length (ρ' i.toNat + us.length) = _
    unfold putS
    rw [if_neg (by omega), if_neg (by omega)]
    congr 1; omega
  ·have hh : hdL k i = .con k i := by unfold hdL; rw [if_neg hk]
   rw [hh]
   exact Conv.apps hl (.refl _)
theorem eta_varsL {c m : List Ty} {s : Nat} (hK : KeyP c m s) : ∀ (l : List Tm) (x us : List Ty) (σ : Nat → La) (ρ : Nat → Nat), Tm.IsL c m x l us → EtaV c m s x σ ρ → ConvL ((Tm.las l).map (·.sub σ)) ((Tm.las l).map (·.ren ρ))
 | [], x, [], σ, ρ, _, _ => .nil
 | t :: l, x, u :: us, σ, ρ, h, hσ => by
  rw [Tm.las, List.map_cons, List.map_cons]
  exact .cons (eta_vars hK t x u σ ρ h.1 hσ) (eta_varsL hK l x us σ ρ h.2 hσ)
 | [], _, _ :: _, _, _, h, _ => h.elim
 | _ :: _, _, [], _, _, h, _ => h.elim
end
theorem key_lemma (c m : List Ty) : ∀ (s : Nat), KeyP c m s
 | 0 => fun B h => (by omega)
 | s + 1 => by
  intro B hB x t ht
  have hK := key_lemma c m s
  obtain ⟨bs, k, i, l⟩ := t
  obtain ⟨h1, u, h2, h3, h4⟩ := ht
  subst h1
  have hBs := B.size_eq
  rw [Tm.la, eta_eq, lams_ren]
  generalize hbs : B.args = bs at *
  refine Conv.lams ?_ bs
  refine (beta_many _ bs _ (by rw [etas_len]; omega)).trans ?_
  rw [etas_len, List.drop_length, La.sub_ren]
  have hb : Tm.Is c m (x ++ bs) (.mk [] k i l) (.mk [] u.base) := ⟨rfl, u, by rw [List.append_nil]; exact h2, rfl, by rw [List.append_nil]; exact h4⟩
  have := eta_vars hK (.mk [] k i l) (x ++ bs) _ (fun j => putS (etasL bs.length 0 bs) bs.length (upRs bs.length (· + bs.length) j)) id hb (fun j A hA => by
   rw [headTy_app] at hA
   show putS (etasL bs.length 0 bs) bs.length (upRs bs.length (· + bs.length) j) = La.var j ∨ _ ∧ putS (etasL bs.length 0 bs) bs.length (upRs bs.length (· + bs.length) j) = etaL A (.var j)
   split at hA
   ·rename_i hj
    have e : upRs bs.length (· + bs.length) j = j := by unfold upRs; rw [if_pos hj]
    rw [e]
    unfold putS
    rw [etas_len]
    obtain ⟨_, g2, g3⟩ := headTy_var hA
    rw [Int.toNat_natCast] at g2 g3
    rw [List.getElem?_eq_getElem (by omega)] at g3
    have g3 := Option.some.inj g3
    have := Ty.sizes_mem (List.getElem_mem (show bs.length - 1 - j < bs.length by omega))
    refine .inr ⟨by rw [← g3]; omega, ?_⟩
    rw [if_neg (by omega), if_pos hj, etas_get _ _ _ _ (by omega), g3, eta_ren]
    congr 1
    show La.var (bs.length - 1 - (0 + (bs.length - 1 - j)) + (bs.length - bs.length)) = La.var j
    congr 1; omega
   ·rename_i hj
    refine .inl ?_
    have e : upRs bs.length (· + bs.length) j = j + bs.length := by unfold upRs; rw [if_neg hj]; show j - bs.length + bs.length + bs.length = _; omega
    rw [e]
    have hl := etas_len bs.length bs 0
    unfold putS
    rw [if_neg (by omega), if_neg (by omega)]
    congr 1; omega)
  rw [Tm.la, La.ren_id (ρ := id) _ (fun _ => rfl)] at this
  exact this
theorem eta_long {c m x : List Ty} {t : Tm} {B : Ty} (h : t.Is c m x B) : Conv (etaL B t.la) t.la := key_lemma c m (B.size + 1) B (by omega) x t h
end Go.Proofs.YtghlgbhldnkdmaaGreat

namespace Go.Proofs.YtghlgbhldnkdmaaGreat
open Go
set_option linter.unusedSimpArgs false
set_option linter.unusedVariables false
mutual
theorem is_sc {c m : List Ty} : ∀ (t : Tm) (x : List Ty) (of : Ty), t.Is c m x of → t.Sc x.length
 | .mk bs k i l, x, of, h => by
  obtain ⟨h1, u, h2, h3, h4⟩ := h
  have := isL_scs l (x ++ bs) u.args h4
  rw [List.length_append] at this
  refine ⟨fun hk => ?_, this⟩
  subst hk
  have := headTy_var h2
  rw [List.length_append] at this
  omega
theorem isL_scs {c m : List Ty} : ∀ (l : List Tm) (x us : List Ty), Tm.IsL c m x l us → Tm.Scs x.length l
 | [], x, us, _ => True.intro
 | t :: l, x, u :: us, h => ⟨is_sc t x u h.1, isL_scs l x us h.2⟩
 | _ :: _, _, [], h => h.elim
end
theorem headTy_lift {c m g e d : List Ty} {k i : Int} {u : Ty} (h : headTy c m (g ++ d) k i = some u) : headTy c m (g ++ e ++ d) k (if k = 0 ∧ ((d.length : Nat) : Int) ≤ i then i + (e.length : Nat) else i) = some u := by
 by_cases hk : k = 0
 ·subst hk
  obtain ⟨h1, h2, _⟩ := headTy_var h
  obtain ⟨j, rfl⟩ : ∃ j : Nat, i = j := ⟨i.toNat, by omega⟩
  rw [headTy_app] at h
  by_cases hj : j < d.length
  ·rw [if_pos hj] at h
   rw [if_neg (show ¬ ((0 : Int) = 0 ∧ ((d.length : Nat) : Int) ≤ (j : Int)) by omega), headTy_app, if_pos hj]; exact h
  ·rw [if_neg hj] at h
   rw [if_pos (show (0 : Int) = 0 ∧ ((d.length : Nat) : Int) ≤ (j : Int) by omega), show ((j : Int) + (e.length : Nat)) = ((j + e.length : Nat) : Int) by omega, headTy_app, if_neg (by omega), headTy_app, if_neg (by omega), show j + e.length - d.length - e.length = j - d.length by omega]
   exact h
 ·rw [if_neg (fun h => hk h.1), headTy_far (y := g ++ d) hk]; exact h
mutual
theorem lift_is {c m : List Ty} {B : Nat} : ∀ (t : Tm) (g e d : List Ty) (of : Ty), t.Lo B → t.Is c m (g ++ d) of → g.length + e.length + d.length + B * t.nodes ≤ 9000000000000000000 → (t.lift e.length d.length).Is c m (g ++ e ++ d) of
 | .mk bs k i l, g, e, d, of, hlo, h, hb => by
  obtain ⟨⟨q1, q2⟩, ⟨q3, q4⟩, q5⟩ := hlo
  obtain ⟨h1, u, h2, h3, h4⟩ := h
  have hbl := Ty.sizes_len bs
  rw [Tm.nodes, Nat.mul_add, Nat.mul_one] at hb
  have hl := lift_isL l g e (d ++ bs) u.args q5 (by rw [← List.append_assoc]; exact h4) (by rw [List.length_append]; omega)
  have hh := headTy_lift (e := e) (show headTy c m (g ++ (d ++ bs)) k i = some u by rw [← List.append_assoc]; exact h2)
  rw [List.length_append] at hl hh
  rw [Tm.lift]
  refine ⟨h1, u, ?_, h3, by rw [← List.append_assoc] at hl; exact hl⟩
  rw [← List.append_assoc] at hh
  rw [← hh]
  congr 1
  by_cases hk : k = 0 ∧ ((d.length + bs.length : Nat) : Int) ≤ i
  ·rw [if_pos hk, if_pos hk]
   obtain ⟨hk, hk2⟩ := hk
   subst hk
   have := headTy_var h2
   rw [List.length_append, List.length_append] at this
   exact wrap_i (by omega) (by omega)
  ·rw [if_neg hk, if_neg hk]
theorem lift_isL {c m : List Ty} {B : Nat} : ∀ (l : List Tm) (g e d us : List Ty), Tm.Los B l → Tm.IsL c m (g ++ d) l us → g.length + e.length + d.length + B * Tm.nodess l ≤ 9000000000000000000 → Tm.IsL c m (g ++ e ++ d) (Tm.lifts e.length d.length l) us
 | [], g, e, d, [], _, _, _ => True.intro
 | t :: l, g, e, d, u :: us, hlo, h, hb => by
  rw [Tm.nodess, Nat.mul_add] at hb
  exact ⟨lift_is t g e d u hlo.1 h.1 (by omega), lift_isL l g e d us hlo.2 h.2 (by omega)⟩
 | [], _, _, _, _ :: _, _, h, _ => h.elim
 | _ :: _, _, _, _, [], _, h, _ => h.elim
end
theorem one_err {m : Mt} (h : m.one.1.err = 1) : m.err = 1 := by
 unfold Mt.one at h
 split at h
 ·exact h
 ·split at h
  ·simp at h
  ·split at h
   ·simp at h
   ·exact h
theorem units_err : ∀ (n : Nat) {m : Mt}, (m.units n).1.err = 1 → m.err = 1
 | 0, m, h => h
 | n + 1, m, h => by
  rw [Mt.units] at h
  split at h
  ·exact one_err (units_err n h)
  ·exact one_err h
theorem goArgs_is {c m : List Ty} {g : Mt → Tm → Mt × Tm} (hg : Keeps1 g) {x y : List Ty} : ∀ (l : List Tm) (us : List Ty) (mt : Mt), mt.count ≤ 100000 → Tm.IsL c m x l us → (∀ t ∈ l, ∀ u, t.Is c m x u → ∀ mt : Mt, mt.count ≤ 100000 → ((g mt t).1.err = 0 → (g mt t).2.Is c m y u) ∧ ((g mt t).1.err = 1 → mt.err = 1)) →
  ((goArgs g mt l).1.err = 0 → Tm.IsL c m y (goArgs g mt l).2 us) ∧ ((goArgs g mt l).1.err = 1 → mt.err = 1)
 | [], [], mt, _, _, _ => ⟨fun _ => True.intro, fun h => h⟩
 | t :: l, u :: us, mt, hm, h, hp => by
  rw [goArgs]
  have h1 := hp t List.mem_cons_self u h.1 mt hm
  have h2 := goArgs_is hg l us (g mt t).1 ((hg mt t).most hm) h.2 fun v hv => hp v (List.mem_cons_of_mem _ hv)
  exact ⟨fun he => ⟨h1.1 ((goArgs_to hg l _).ok he), h2.1 he⟩, fun he => h1.2 (h2.2 he)⟩
 | [], _ :: _, _, _, h, _ => h.elim
 | _ :: _, [], _, _, h, _ => h.elim
theorem isL_get {c m : List Ty} : ∀ {l : List Tm} {x us : List Ty} {k : Nat} (h : Tm.IsL c m x l us) (h1 : k < l.length) (h2 : k < us.length), Tm.Is c m x l[k] us[k]
 | t :: l, x, u :: us, 0, h, _, _ => h.1
 | t :: l, x, u :: us, k + 1, h, h1, h2 => isL_get (k := k) h.2 (by simpa using h1) (by simpa using h2)
theorem body_is {B : Nat} (hB : B ≤ 1000000) {c m : List Ty} : ∀ (f : Nat) (mt : Mt) (k i : Int) (args us : List Tm) (z bs ds : List Ty) (h : Ty), mt.count ≤ 100000 → I64 k → I64 i → args.length ≤ B → Tm.Los B args → Tm.Los B us → us.length ≤ bs.length → bs.length ≤ B → (∀ t ∈ us, t.nodes ≤ 1000000000) →
  headTy c m (z ++ bs ++ ds) k i = some h → Tm.IsL c m (z ++ bs ++ ds) args h.args → Tm.IsL c m z us (bs.take us.length) → z.length + ds.length + bs.length + B * f ≤ 4000000000000000000 →
  ((bodyT f mt k i args us bs.length ds.length).1.err = 0 → (bodyT f mt k i args us bs.length ds.length).2.Is c m (z ++ bs.drop us.length ++ ds) (.mk [] h.base)) ∧ ((bodyT f mt k i args us bs.length ds.length).1.err = 1 → mt.err = 1)
 | 0, mt, k, i, args, us, z, bs, ds, h, _, _, _, _, _, _, _, _, _, _, _, _, _ => by
  rw [bodyT]
  simp only
  by_cases h : mt.err = 0
  ·rw [if_pos h]; exact ⟨fun h => (by simp at h), fun h => (by simp at h)⟩
  ·rw [if_neg h]; exact ⟨fun h' => (h h').elim, fun h => h⟩
 | f + 1, mt, k, i, args, us, z, bs, ds, h, hm, hk, hi, hla, hlo, hus, hun, hnB, hnd, hh, ha, hu, hK => by
  have hmul : B * (f + 1) = B * f + B := Nat.mul_succ _ _
  rw [bodyT]
  split
  ·rename_i h1; exact ⟨fun he => ((one_false h1).1 he).elim, fun he => one_err he⟩
  rename_i h1
  obtain ⟨g0, g1, g2, g3⟩ := one_true (by simpa using h1)
  have hkeep := withinT_to f us bs.length ds.length
  have hto := goArgs_to hkeep args mt.one.1
  have hm1 : mt.one.1.count ≤ 100000 := (Mt.one_to mt).most hm
  have hform := goArgs_form (B := B) hkeep args mt.one.1 (fun t ht m' hto' he' => by
   have hlo' := Tm.lo_eq.1 (Tm.los_iff.1 hlo t ht)
   have := bodyT_form (B := B) f m' t.kind t.index t.args us bs.length (ds.length + t.binds.length) hlo'.2.1.1 hlo'.2.1.2 hlo'.1.2 hlo'.2.2 hus hun he'
   have hq := Tm.lo_eq.1 this.1.lo
   have hqn := this.1.nodes
   rw [Tm.nodes_eq] at hqn
   exact ⟨by unfold withinT; rw [Tm.nodes_eq, Tm.args_mk]; exact hqn, Tm.lo_eq.2 ⟨⟨hlo'.1.1, hq.1.2⟩, hq.2⟩⟩)
  have his := goArgs_is (c := c) (m := m) hkeep (x := z ++ bs ++ ds) (y := z ++ bs.drop us.length ++ ds) args h.args mt.one.1 hm1 ha (fun t ht u htu m' hm' => by
   have hlo' := Tm.lo_eq.1 (Tm.los_iff.1 hlo t ht)
   have hbl := Ty.sizes_len t.binds
   obtain ⟨t1, v, t2, t3, t4⟩ := Tm.is_eq.1 htu
   have hb := body_is hB f m' t.kind t.index t.args us z bs (ds ++ t.binds) v hm' hlo'.2.1.1 hlo'.2.1.2 hlo'.1.2 hlo'.2.2 hus hun hnB hnd (by rw [← List.append_assoc]; exact t2) (by rw [← List.append_assoc]; exact t4) hu (by rw [List.length_append]; omega)
   rw [List.length_append] at hb
   unfold withinT
   refine ⟨fun he => ?_, hb.2⟩
   obtain ⟨b1, w, b2, b3, b4⟩ := Tm.is_eq.1 (hb.1 he)
   have b1 : (bodyT f m' t.kind t.index t.args us bs.length (ds.length + t.binds.length)).2.binds = [] := b1
   rw [b1, List.append_nil, ← List.append_assoc] at b2 b4
   exact ⟨t1, w, b2, b3.trans t3, b4⟩)
  have hlen := goArgs_len (g := withinT (bodyT f) us bs.length ds.length) args mt.one.1
  generalize goArgs (withinT (bodyT f) us bs.length ds.length) mt.one.1 args = r at hto hform hlen his
  have hul := Tm.isL_len hu
  rw [List.length_take] at hul
  unfold headT
  split
  ·rename_i h2; exact ⟨fun he => (h2 he).elim, fun he => one_err (his.2 he)⟩
  rename_i h2
  have h2 : r.1.err = 0 := by simpa using h2
  obtain ⟨q1, q2⟩ := hform h2
  have hr := his.1 h2
  have hm2 : r.1.count ≤ 100000 := hto.most hm1
  have fin : ∀ i', headTy c m (z ++ bs.drop us.length ++ ds) k i' = some h → ((r.1, Tm.mk [] k i' r.2).1.err = 0 → (r.1, Tm.mk [] k i' r.2).2.Is c m (z ++ bs.drop us.length ++ ds) (.mk [] h.base)) ∧ ((r.1, Tm.mk [] k i' r.2).1.err = 1 → mt.err = 1) :=
   fun i' hi' => ⟨fun _ => ⟨rfl, h, by rw [List.append_nil]; exact hi', rfl, by rw [List.append_nil]; exact hr⟩, fun he => by rw [h2] at he; cases he⟩
  by_cases hk0 : k = 0
  case neg =>
   rw [if_pos (.inl hk0)]
   exact fin i (by rw [headTy_far (y := z ++ bs ++ ds) hk0]; exact hh)
  subst hk0
  obtain ⟨v1, v2, _⟩ := headTy_var hh
  rw [List.length_append, List.length_append] at v2
  obtain ⟨j, rfl⟩ : ∃ j : Nat, i = j := ⟨i.toNat, by omega⟩
  rw [Int.toNat_natCast] at v2
  have hh' := hh
  rw [headTy_app] at hh'
  split
  ·rename_i h3
   have h3 : j < ds.length := by omega
   rw [if_pos h3] at hh'
   exact fin j (by rw [headTy_app, if_pos h3]; exact hh')
  rename_i h3
  have h3 : ¬ j < ds.length := by omega
  rw [if_neg h3, headTy_app] at hh'
  split
  ·rename_i h4
   rw [if_neg (by omega)] at hh'
   refine fin _ ?_
   rw [show ((j : Int) - (us.length : Nat)) = ((j - us.length : Nat) : Int) by omega, headTy_app, if_neg (by omega), headTy_app, List.length_drop, if_neg (by omega), show j - us.length - ds.length - (bs.length - us.length) = j - ds.length - bs.length by omega]
   exact hh'
  rename_i h4
  have hjn : j - ds.length < bs.length := by omega
  rw [if_pos hjn, headTy_nat, if_pos hjn, List.getElem?_eq_getElem (by omega)] at hh'
  have hh' := Option.some.inj hh'
  split
  ·rename_i h5
   refine fin j ?_
   rw [headTy_app, if_neg h3, headTy_app, List.length_drop, if_pos (by omega), headTy_nat, List.length_drop, if_pos (by omega), List.getElem?_drop, List.getElem?_eq_getElem (by omega), ← hh']
   congr 2; omega
  rename_i h5
  have hlt : bs.length - 1 - ((j : Int) - (ds.length : Nat)).toNat < us.length := by omega
  have hst : standT us j bs.length ds.length = us[bs.length - 1 - ((j : Int) - (ds.length : Nat)).toNat].lift (ds.length + bs.length - us.length) 0 := by
   unfold standT
   rw [List.getD_eq_getElem?_getD, List.getElem?_eq_getElem hlt]; rfl
  have hmem := List.getElem_mem hlt
  have hBn : B * us[bs.length - 1 - ((j : Int) - (ds.length : Nat)).toNat].nodes ≤ 1000000 * 1000000000 := Nat.mul_le_mul hB (hnd _ hmem)
  have hui := isL_get hu hlt (by rw [List.length_take]; omega)
  rw [List.getElem_take, show bs[bs.length - 1 - ((j : Int) - (ds.length : Nat)).toNat] = h from by rw [← hh']; congr 1; omega] at hui
  have hsi := lift_is (B := B) us[bs.length - 1 - ((j : Int) - (ds.length : Nat)).toNat] z (bs.drop us.length ++ ds) [] h (Tm.los_iff.1 hus _ hmem) (by rw [List.append_nil]; exact hui) (by rw [List.length_append, List.length_drop, List.length_nil]; omega)
  rw [List.append_nil, List.length_append, List.length_drop, show bs.length - us.length + ds.length = ds.length + bs.length - us.length by omega, List.length_nil, ← hst, ← List.append_assoc] at hsi
  have hslo := Tm.lo_eq.1 (standT_lo hus j bs.length ds.length)
  generalize standT us j bs.length ds.length = st at hsi hslo ⊢
  obtain ⟨s1, w, s2, s3, s4⟩ := Tm.is_eq.1 hsi
  have hrl := Tm.isL_len hr
  have hsb := Ty.sizes_len st.binds
  rw [if_neg (by rw [s1, hrl]; simp)]
  have hnest := body_is hB f r.1 st.kind st.index st.args r.2 (z ++ bs.drop us.length ++ ds) st.binds [] w hm2 hslo.2.1.1 hslo.2.1.2 hslo.1.2 hslo.2.2 q2 (by rw [s1, hrl]; omega) (by omega) (fun t ht => by
   have h1 := Tm.nodess_mem ht
   omega) (by rw [List.append_nil]; exact s2) (by rw [List.append_nil]; exact s4) (by rw [s1, hrl, List.take_length]; exact hr) (by rw [List.length_append, List.length_append, List.length_drop, List.length_nil]; omega)
  rw [List.append_nil, s1, hrl, List.drop_length, List.append_nil, ← s1, s3] at hnest
  exact ⟨hnest.1, fun he => by
   have := hnest.2 he
   rw [h2] at this; cases this⟩
theorem put_is {B : Nat} (hB : B ≤ 1000000) {c m : List Ty} {f : Nat} {mt : Mt} {t : Tm} {us : List Tm} {z : List Ty} {of : Ty} (hm : mt.count ≤ 100000) (ht : t.Lo B) (hus : Tm.Los B us) (hnd : ∀ t ∈ us, t.nodes ≤ 1000000000) (hti : t.Is c m z of) (hn : us.length ≤ of.args.length) (hui : Tm.IsL c m z us (of.args.take us.length)) (hK : z.length + B + B * f ≤ 4000000000000000000) :
  ((putT f mt t us).1.err = 0 → (putT f mt t us).2.Is c m z (.mk (of.args.drop us.length) of.base)) ∧ ((putT f mt t us).1.err = 1 → mt.err = 1) := by
 have hlo := Tm.lo_eq.1 ht
 have hbl := Ty.sizes_len t.binds
 obtain ⟨t1, v, t2, t3, t4⟩ := Tm.is_eq.1 hti
 have hb := body_is hB f mt t.kind t.index t.args us z t.binds [] v hm hlo.2.1.1 hlo.2.1.2 hlo.1.2 hlo.2.2 hus (by rw [t1]; omega) (by omega) hnd (by rw [List.append_nil]; exact t2) (by rw [List.append_nil]; exact t4) (by rw [t1]; exact hui) (by rw [List.length_nil]; omega)
 rw [List.length_nil, List.append_nil] at hb
 unfold putT
 split
 ·rename_i h; exact ⟨fun he => (h he).elim, fun he => he⟩
 rename_i h
 rw [if_neg (by rw [t1]; omega)]
 refine ⟨fun he => ?_, hb.2⟩
 obtain ⟨b1, w, b2, b3, b4⟩ := Tm.is_eq.1 (hb.1 he)
 have b1 : (bodyT f mt t.kind t.index t.args us t.binds.length 0).2.binds = [] := b1
 rw [b1, List.append_nil] at b2 b4
 exact ⟨by rw [t1]; rfl, w, b2, b3.trans t3, b4⟩
theorem eta_head {c m x : List Ty} {T : Ty} {k i : Int} (h : headTy c m x k i = some T) (l : List Ty) : headTy c m (x ++ l) k (if k = 0 then i + (l.length : Nat) else i) = some T := by
 by_cases hk : k = 0
 ·subst hk
  obtain ⟨h1, h2, _⟩ := headTy_var h
  obtain ⟨j, rfl⟩ : ∃ j : Nat, i = j := ⟨i.toNat, by omega⟩
  rw [if_pos rfl, show ((j : Int) + (l.length : Nat)) = ((j + l.length : Nat) : Int) by omega, headTy_app, if_neg (by omega), show j + l.length - l.length = j by omega]
  exact h
 ·rw [if_neg hk, headTy_far (y := x) hk]; exact h
theorem sizes_mem_len : ∀ {l : List Ty} {t : Ty}, t ∈ l → t.size + l.length ≤ Ty.sizes l + 1
 | u :: l, t, h => by
  rw [Ty.sizes, List.length_cons]
  rcases List.mem_cons.1 h with rfl | h
  ·have := Ty.sizes_len l; omega
  ·have := sizes_mem_len h; have := u.size_pos; omega
mutual
theorem etaT_is {c m : List Ty} : ∀ (T : Ty) (x : List Ty) (k i : Int), headTy c m x k i = some T → x.length + T.size ≤ 4000000000000000000 → (etaT k i T).Is c m x T
 | .mk l b, x, k, i, h, hb => by
  have hl := Ty.sizes_len l
  rw [Ty.size] at hb
  rw [etaT]
  refine ⟨rfl, .mk l b, ?_, rfl, etaTs_is l (x ++ l) l.length 0 (fun k hk => ?_) (fun t ht => by have := sizes_mem_len ht; rw [List.length_append]; omega)⟩
  ·have := eta_head h l
   by_cases hk : k = 0
   ·subst hk
    have hv := headTy_var h
    rw [if_pos rfl] at this ⊢
    rw [wrap_i (by omega) (by omega)]; exact this
   ·rw [if_neg hk] at this ⊢; exact this
  ·rw [show ((l.length : Nat) : Int) - 1 - ((0 + k : Nat) : Int) = ((l.length - 1 - k : Nat) : Int) by omega, headTy_app, if_pos (by omega), headTy_nat, if_pos (by omega), List.getElem?_eq_getElem (by omega)]
   congr 2; omega
theorem etaTs_is {c m : List Ty} : ∀ (l y : List Ty) (n j : Nat), (∀ (k : Nat) (hk : k < l.length), headTy c m y 0 ((n : Int) - 1 - ((j + k : Nat) : Int)) = some l[k]) → (∀ t ∈ l, y.length + t.size ≤ 4000000000000000000) → Tm.IsL c m y (etaTs n j l) l
 | [], y, n, j, _, _ => True.intro
 | t :: l, y, n, j, h, hb => by
  rw [etaTs]
  exact ⟨etaT_is t y 0 _ (h 0 (by simp)) (hb t List.mem_cons_self), etaTs_is l y n (j + 1) (fun k hk => by
   have := h (k + 1) (by simpa using hk)
   rw [show j + (k + 1) = j + 1 + k by omega] at this
   exact this) fun t ht => hb t (List.mem_cons_of_mem _ ht)⟩
end
theorem eta_apps {c m x : List Ty} {T : Ty} {l : List Tm} (h : La) (hl : Tm.IsL c m x l T.args) : Conv (apps (etaL T h) (Tm.las l)) (apps h (Tm.las l)) := by
 have hlen := Tm.isL_len hl
 have hn : (Tm.las l).length = T.args.length := by rw [las_len, hlen]
 have hz := zip_conv (key_lemma c m T.size) id x l T.args hl (fun v hv => by
  have := Ty.sizes_mem hv
  have := T.size_eq
  omega)
 rw [show (Tm.las l).map (·.ren id) = Tm.las l from (List.map_congr_left fun a _ => La.ren_id (ρ := id) a fun _ => rfl).trans (List.map_id _)] at hz
 generalize Tm.las l = us at hz hn ⊢
 rw [eta_eq]
 refine (beta_many us T.args _ (by omega)).trans ?_
 rw [hn, List.drop_length, apps_sub, ← hn, etas_put us T.args 0 (by omega), List.drop_zero]
 refine Conv.apps hz (.of_eq ?_)
 rw [La.sub_ren]
 refine (La.sub_ext h fun i => ?_).trans (La.sub_var h)
 unfold putS
 rw [if_neg (by omega), if_neg (by omega)]
 congr 1; omega
end Go.Proofs.YtghlgbhldnkdmaaGreat

namespace Go.Proofs.YtghlgbhldnkdmaaGreat
open Go
set_option linter.unusedSimpArgs false
set_option linter.unusedVariables false
@[simp] theorem wide_fn (f : FuncId) : Fence.wide.fn f = True := rfl
@[simp] theorem wide_depth : Fence.wide.depth = none := rfl
set_option maxRecDepth 100000
set_option maxHeartbeats 1600000
theorem race_disable (w : World) : (callFunc 178 #[]).run Tryz.prog w = .ok (.value (.tuple #[])) w := run_call_mark0 Tryz.func178 (by kernel_rfl) (by kernel_rfl) (by kernel_rfl) .disable (by kernel_rfl) w
theorem race_enable (w : World) : (callFunc 180 #[]).run Tryz.prog w = .ok (.value (.tuple #[])) w := run_call_mark0 Tryz.func180 (by kernel_rfl) (by kernel_rfl) (by kernel_rfl) .enable (by kernel_rfl) w
theorem race_acquire (a : Addr) (w : World) : (callFunc 181 #[.pointer (some a)]).run Tryz.prog w = .ok (.value (.tuple #[])) w := run_call_marked Tryz.func181 (by kernel_rfl) (by kernel_rfl) (by kernel_rfl) .acquire (by kernel_rfl) a w
theorem race_release (a : Addr) (w : World) : (callFunc 183 #[.pointer (some a)]).run Tryz.prog w = .ok (.value (.tuple #[])) w := run_call_marked Tryz.func183 (by kernel_rfl) (by kernel_rfl) (by kernel_rfl) .releaseMerge (by kernel_rfl) a w
theorem store_deferred (a : Addr) (x : Value) (u : FrameMode) (w : World) (hc : w.cell? a = some x) (hz : w.frozen? a = false) :
  CallsDIn Fence.wide 0 Tryz.prog 169 #[.pointer (some a), .bool true] u w fun e u' w' => u' = u ∧ (e = .returned (.tuple #[]) ∧ w' = w.drew.setCell a (.int .u32 1)) := by
 have hc' : w.drew.cell? a = some x := by go_simp
 have hz' : w.drew.frozen? a = false := by go_simp
 have hst := run_call_store (P := Tryz.prog) Tryz.func172 (by kernel_rfl) (by kernel_rfl) (by kernel_rfl) (by kernel_rfl) (k := .u32) (y := 1) hc' hz'
 gi_enter_d Tryz.func169, Tryz.ntmps169
 gi_wp2
 gi_region
 all_goals (go_end0; exact ⟨rfl, rfl⟩)
theorem lock_inner (a : Addr) (w : World) (hc : w.cell? a = some (.int .i32 0)) (hz : w.frozen? a = false) :
  CallsIn Fence.wide 0 Tryz.prog 176 #[.pointer (some a)] w fun e w' => e = .returned (.tuple #[]) ∧ w' = w.setCell a (.int .i32 1) := by
 have hd := race_disable
 have he := race_enable
 have ha := race_acquire
 have hcas := run_call_cas_hit (P := Tryz.prog) Tryz.func179 (by kernel_rfl) (by kernel_rfl) (by kernel_rfl) .i32 (by kernel_rfl) (y := 1) hc hz
 have hc' : (w.setCell a (.int .i32 1)).cell? a = some (.int .i32 1) := World.cell?_setCell_same w a _ hc
 have hcv := run_convert_to_unsafe (P := Tryz.prog) (src := 248) (dst := 252) Tryz.underlying248 Tryz.underlying252 (by kernel_rfl) hc'
 gi_enter Tryz.func176, Tryz.ntmps176
 gi_wp2
 first | go_end0 | (simp only [Exit.inBlock, Exit.then]; refine bodyPost_ret (results_none rfl _ _ _) rfl ?_) | refine bodyPost_ret (results_none rfl _ _ _) rfl ?_
 all_goals (first | exact ⟨rfl, rfl⟩ | (gi_wp2; go_end0; exact ⟨rfl, rfl⟩))
theorem lock_free (a : Addr) (w : World) (hc : w.cell? a = some (.int .i32 0)) (hz : w.frozen? a = false) :
  CallsIn Fence.wide 0 Tryz.prog 174 #[.pointer (some a)] w fun e w' => e = .returned (.tuple #[]) ∧ w' = w.setCell a (.int .i32 1) := by
 gi_enter Tryz.func174, Tryz.ntmps174
 gi_wp2_with (gi_at_call 176; refine (lock_inner a _ hc hz).mono ?_; rintro e w' ⟨rfl, rfl⟩)
 go_end0
 exact ⟨rfl, rfl⟩
theorem unlock_inner (a : Addr) (w : World) (hc : w.cell? a = some (.int .i32 1)) (hz : w.frozen? a = false) :
  CallsIn Fence.wide 0 Tryz.prog 177 #[.pointer (some a)] w fun e w' => e = .returned (.tuple #[]) ∧ w' = w.setCell a (.int .i32 0) := by
 have hd := race_disable
 have he := race_enable
 have hr := race_release
 have hadd := run_call_add (P := Tryz.prog) Tryz.func184 (by kernel_rfl) (by kernel_rfl) (by kernel_rfl) .i32 (by kernel_rfl) (y := -1) (s := 0) hc hz (by simp [go_sem]; rfl)
 have hcv := run_convert_to_unsafe (P := Tryz.prog) (src := 248) (dst := 252) Tryz.underlying248 Tryz.underlying252 (by kernel_rfl) hc
 gi_enter Tryz.func177, Tryz.ntmps177
 gi_wp2
 all_goals (first | exact ⟨rfl, rfl⟩ | (go_end0; exact ⟨rfl, rfl⟩))
theorem unlock_deferred (a : Addr) (u : FrameMode) (w : World) (hc : w.cell? a = some (.int .i32 1)) (hz : w.frozen? a = false) :
  CallsDIn Fence.wide 0 Tryz.prog 175 #[.pointer (some a)] u w fun e u' w' => u' = u ∧ (e = .returned (.tuple #[]) ∧ w' = w.setCell a (.int .i32 0)) := by
 gi_enter_d Tryz.func175, Tryz.ntmps175
 gi_wp2_with (gi_at_call 177; refine (unlock_inner a _ hc hz).mono ?_; rintro e w' ⟨rfl, rfl⟩)
 go_end0
 exact ⟨rfl, rfl⟩
theorem store_now (a : Addr) (x : Value) (w : World) (hc : w.cell? a = some x) (hz : w.frozen? a = false) :
  CallsIn Fence.wide 0 Tryz.prog 169 #[.pointer (some a), .bool true] w fun e w' => e = .returned (.tuple #[]) ∧ w' = w.drew.setCell a (.int .u32 1) := by
 have hc' : w.drew.cell? a = some x := by go_simp
 have hz' : w.drew.frozen? a = false := by go_simp
 have hst := run_call_store (P := Tryz.prog) Tryz.func172 (by kernel_rfl) (by kernel_rfl) (by kernel_rfl) (by kernel_rfl) (k := .u32) (y := 1) hc' hz'
 gi_enter Tryz.func169, Tryz.ntmps169
 gi_wp2
 gi_region
 all_goals (go_end0; exact ⟨rfl, rfl⟩)
theorem dry_told (b off : Nat) (pl : Addr) (x5 : Value) (w : World) (hp : w.cell? pl = some (.pointer (some ⟨b, off, none⟩)))
  (h5 : w.cell? ⟨b, off + 5, none⟩ = some x5) (f5 : w.frozen? ⟨b, off + 5, none⟩ = false) :
  CallsIn Fence.wide 0 Tryz.prog 168 #[.pointer (some pl)] w fun e w' => e = .returned (.tuple #[]) ∧ w' = w.drew.setCell ⟨b, off + 5, none⟩ (.int .u32 1) := by
 gi_enter Tryz.func168, Tryz.ntmps168
 gi_wp2_with (gi_at_call 169; refine (store_now ⟨b, off + 5, none⟩ x5 _ h5 f5).mono ?_; rintro e w' ⟨rfl, rfl⟩)
 go_end0
 exact ⟨rfl, rfl⟩
theorem load_bool (a : Addr) (d : Int) (w : World) (hc : w.cell? a = some (.int .u32 d)) :
  CallsIn Fence.wide 0 Tryz.prog 59 #[.pointer (some a)] w fun e w' => e = .returned (.bool (d != 0)) ∧ w' = w := by
 have hl := run_call_load (P := Tryz.prog) Tryz.func113 (by kernel_rfl) (by kernel_rfl) (by kernel_rfl) .u32 (by kernel_rfl) hc
 gi_enter Tryz.func59, Tryz.ntmps59
 gi_wp2
 go_ret
 exact ⟨rfl, rfl⟩
theorem slow_any (b off : Nat) (pl : Addr) (hpb : ¬ b = pl.block) (x5 : Value) (w : World) (hp : w.cell? pl = some (.pointer (some ⟨b, off, none⟩)))
  (h2 : w.cell? ⟨b, off + 2, none⟩ = some (.int .u32 0)) (h3 : w.cell? ⟨b, off + 3, none⟩ = some (.int .i32 0)) (h5 : w.cell? ⟨b, off + 5, none⟩ = some x5)
  (f2 : w.frozen? ⟨b, off + 2, none⟩ = false) (f3 : w.frozen? ⟨b, off + 3, none⟩ = false) (f5 : w.frozen? ⟨b, off + 5, none⟩ = false) :
  CallsIn Fence.wide 0 Tryz.prog 171 #[.pointer (some ⟨b, off + 2, none⟩), .func (.func 168) #[] #[.pointer (some pl)]] w fun e w' => e = .returned (.tuple #[]) ∧
   w' = (((w.setCell ⟨b, off + 3, none⟩ (.int .i32 1)).drew.setCell ⟨b, off + 5, none⟩ (.int .u32 1)).drew.setCell ⟨b, off + 2, none⟩ (.int .u32 1)).setCell ⟨b, off + 3, none⟩ (.int .i32 0) := by
 have h21 : (w.setCell ⟨b, off + 3, none⟩ (.int .i32 1)).cell? ⟨b, off + 2, none⟩ = some (.int .u32 0) := ((World.cell?_setCell_other _ ⟨b, off + 3, none⟩ ⟨b, off + 2, none⟩ _ (by simp)).trans h2)
 have hp1 : (w.setCell ⟨b, off + 3, none⟩ (.int .i32 1)).cell? pl = some (.pointer (some ⟨b, off, none⟩)) := (World.cell?_setCell_other _ ⟨b, off + 3, none⟩ pl _ (fun h => hpb (by rw [← h]))).trans hp
 have h51 : (w.setCell ⟨b, off + 3, none⟩ (.int .i32 1)).cell? ⟨b, off + 5, none⟩ = some x5 := (World.cell?_setCell_other _ ⟨b, off + 3, none⟩ ⟨b, off + 5, none⟩ _ (by simp)).trans h5
 have f51 : (w.setCell ⟨b, off + 3, none⟩ (.int .i32 1)).frozen? ⟨b, off + 5, none⟩ = false := by simp [f5]
 have hnot : ∀ (x : Bool) (w : World), (Op.unary .not (.bool x)).run Tryz.prog w = .ok (.bool (!x)) w := fun _ _ => rfl
 gi_enter_defers Tryz.func171, Tryz.ntmps171
 gi_wp2_with (first | (gi_at_call 59; refine (load_bool ⟨b, off + 2, none⟩ 0 _ h21).mono ?_; rintro e w' ⟨rfl, rfl⟩) | (gi_at_call 174; refine (lock_free ⟨b, off + 3, none⟩ _ (by go_simp) (by go_simp)).mono ?_; rintro e w' ⟨rfl, rfl⟩) | (gi_at_call 168; refine (dry_told b off pl x5 _ hp1 h51 f51).mono ?_; rintro e w' ⟨rfl, rfl⟩))
 refine leavesIn_cons (f := 169) (args := #[.pointer (some ⟨b, off + 2, none⟩), .bool true]) (by simp) (by simp) (by simp [go_sem]) (by simp [Target.leads]) ?_
 refine (store_deferred ⟨b, off + 2, none⟩ (.int .u32 0) .returning _ ?_ (by simp [f2])).mono ?_
 ·rw [World.cell?_drew]
  exact (World.cell?_setCell_other _ ⟨b, off + 5, none⟩ ⟨b, off + 2, none⟩ _ (by simp)).trans ((World.cell?_setCell_other _ ⟨b, off + 3, none⟩ ⟨b, off + 2, none⟩ _ (by simp)).trans h2)
 rintro e u' w'' ⟨rfl, rfl, rfl⟩
 refine leavesIn_cons (f := 175) (args := #[.pointer (some ⟨b, off + 3, none⟩)]) (by simp [settle]) (by simp) (by simp [go_sem]) (by simp [Target.leads]) ?_
 refine (unlock_deferred ⟨b, off + 3, none⟩ _ _ ?_ (by simp [f3])).mono ?_
 ·refine (World.cell?_setCell_other _ ⟨b, off + 2, none⟩ ⟨b, off + 3, none⟩ _ (by simp)).trans ?_
  rw [World.cell?_drew, World.cell?_drew]
  refine (World.cell?_setCell_other _ ⟨b, off + 5, none⟩ ⟨b, off + 3, none⟩ _ (by simp)).trans ?_
  exact World.cell?_setCell_same w _ _ h3
 rintro e u' w'' ⟨rfl, rfl, rfl⟩
 simp [LeavesIn, settle, results, Tryz.results171]
 go_simp
set_option maxRecDepth 100000 in
set_option maxHeartbeats 1600000 in
theorem once_first (b off : Nat) (pl : Addr) (hpb : ¬ b = pl.block) (x5 : Value) (w : World) (hp : w.cell? pl = some (.pointer (some ⟨b, off, none⟩)))
  (h2 : w.cell? ⟨b, off + 2, none⟩ = some (.int .u32 0)) (h3 : w.cell? ⟨b, off + 3, none⟩ = some (.int .i32 0)) (h5 : w.cell? ⟨b, off + 5, none⟩ = some x5)
  (f2 : w.frozen? ⟨b, off + 2, none⟩ = false) (f3 : w.frozen? ⟨b, off + 3, none⟩ = false) (f5 : w.frozen? ⟨b, off + 5, none⟩ = false) :
  CallsIn Fence.wide 0 Tryz.prog 167 #[.pointer (some ⟨b, off + 2, none⟩), .func (.func 168) #[] #[.pointer (some pl)]] w fun e w' => e = .returned (.tuple #[]) ∧
   w' = (((w.setCell ⟨b, off + 3, none⟩ (.int .i32 1)).drew.setCell ⟨b, off + 5, none⟩ (.int .u32 1)).drew.setCell ⟨b, off + 2, none⟩ (.int .u32 1)).setCell ⟨b, off + 3, none⟩ (.int .i32 0) := by
 have hnot : ∀ (x : Bool) (w : World), (Op.unary .not (.bool x)).run Tryz.prog w = .ok (.bool (!x)) w := fun _ _ => rfl
 gi_enter Tryz.func167, Tryz.ntmps167
 gi_wp2_with (first | (gi_at_call 59; refine (load_bool ⟨b, off + 2, none⟩ 0 _ h2).mono ?_; rintro e w' ⟨rfl, rfl⟩) | (gi_at_call 171; refine (slow_any b off pl hpb x5 _ hp h2 h3 h5 f2 f3 f5).mono ?_; rintro e w' ⟨rfl, rfl⟩))
 go_end0
 exact ⟨rfl, rfl⟩
theorem once_again (a : Addr) (d : Int) (hd : ¬ d = 0) (fv : Value) (w : World) (h0 : w.cell? a = some (.int .u32 d)) :
  CallsIn Fence.wide 0 Tryz.prog 167 #[.pointer (some a), fv] w fun e w' => e = .returned (.tuple #[]) ∧ w' = w := by
 have hnot : ∀ (x : Bool) (w : World), (Op.unary .not (.bool x)).run Tryz.prog w = .ok (.bool (!x)) w := fun _ _ => rfl
 have hd' : (d != 0) = true := by simp [hd]
 gi_enter Tryz.func167, Tryz.ntmps167
 gi_wp2_with (gi_at_call 59; refine (load_bool a d _ h0).mono ?_; rintro e w' ⟨rfl, rfl⟩)
 go_end0
 exact ⟨rfl, rfl⟩
end Go.Proofs.YtghlgbhldnkdmaaGreat

namespace Go.Proofs.YtghlgbhldnkdmaaGreat
open Go
set_option linter.unusedSimpArgs false
set_option linter.unusedVariables false
set_option maxRecDepth 100000
def budV (l u d m s y : Int) : Array Value := #[.int .i64 l, .int .i64 u, .int .u32 d, .int .i32 m, .int .u32 s, .int .u32 y]
theorem prim_inv {w : World} {F : Nat → Nat → Prop} {η : List Value} {hp : List AObj} {u v : Value} (h : Rep w F η hp (.prim u) v) : v = u := by cases h; rfl
theorem ptr_inv {w : World} {F : Nat → Nat → Prop} {η : List Value} {hp : List AObj} {r o : Nat} {v : Value} (h : Rep w F η hp (.ptr r o) v) : ∃ b, v = .pointer (some ⟨b, o, none⟩) ∧ η[r]? = some (.pointer (some ⟨b, 0, none⟩)) := by
 cases h with | ptr _ _ b h1 => exact ⟨b, rfl, h1⟩
theorem bud_read {w : World} {F : Nat → Nat → Prop} {η : List Value} {hp : List AObj} {l u d m s y : Int} {b : Nat} (h : ObjOk w F η hp (.box (budC l u d m s y)) (.pointer (some ⟨b, 0, none⟩))) :
  ∃ T, w.heap[b]? = some (.cells (budV l u d m s y) T (0, 0)) := by
 obtain ⟨b', vs, T, e1, e2, e3, e4⟩ := h
 cases e1
 refine ⟨T, ?_⟩
 rw [e2]
 congr 2
 refine Array.ext (by rw [e3]; rfl) fun i h1 h2 => ?_
 have hs : i < 6 := h2
 have hu : vs[i]? = some vs[i] := Array.getElem?_eq_getElem h1
 match i, hs with
 | 0, _ => exact prim_inv (e4 0 _ _ rfl hu).1
 | 1, _ => exact prim_inv (e4 1 _ _ rfl hu).1
 | 2, _ => exact prim_inv (e4 2 _ _ rfl hu).1
 | 3, _ => exact prim_inv (e4 3 _ _ rfl hu).1
 | 4, _ => exact prim_inv (e4 4 _ _ rfl hu).1
 | 5, _ => exact prim_inv (e4 5 _ _ rfl hu).1
theorem bud_lay {w : World} {F : Nat → Nat → Prop} {η : List Value} {hp : List AObj} {l u d m s y : Int} (j : Nat) (x : AV) (v : Value) (h1 : (budC l u d m s y)[j]? = some x) (h2 : (budV l u d m s y)[j]? = some v) :
  Rep w F η hp x v ∧ v.oneCell' = true := by
 have hs : j < 6 := (List.getElem?_eq_some_iff.1 h1).1
 match j, hs with
 | 0, _ => cases h1; cases h2; exact ⟨.prim _, rfl⟩
 | 1, _ => cases h1; cases h2; exact ⟨.prim _, rfl⟩
 | 2, _ => cases h1; cases h2; exact ⟨.prim _, rfl⟩
 | 3, _ => cases h1; cases h2; exact ⟨.prim _, rfl⟩
 | 4, _ => cases h1; cases h2; exact ⟨.prim _, rfl⟩
 | 5, _ => cases h1; cases h2; exact ⟨.prim _, rfl⟩
theorem once_do (l u d s y : Int) : HFn Tryz.prog 167 [.ptr 0 2, .clo 168 [.ptr 1 0]] [.box (budC l u d 0 s y), .box [.ptr 0 0]]
  (fun r hp' => r = .tup [] ∧ hp' = [.box (budC l u (if d = 0 then 1 else d) 0 s (if d = 0 then 1 else y)), .box [.ptr 0 0]]) := by
 refine ⟨⟨_, Tryz.func167, by kernel_rfl, by kernel_rfl⟩, fun w F η vals hpre hv => ?_⟩
 match vals, hv with
 | [v0, v1], ⟨r0, r1, _⟩ =>
  obtain ⟨b, rfl, h0⟩ := ptr_inv r0
  cases r1 with
  | clo _ _ caps hl hc =>
   obtain ⟨c0, rfl⟩ : ∃ c0, caps = #[c0] := by
    match caps, hl with
    | ⟨[c0]⟩, _ => exact ⟨c0, rfl⟩
   obtain ⟨b1, rfl, h1⟩ := ptr_inv (hc 0 _ _ rfl rfl)
   obtain ⟨T, hb⟩ := bud_read (hpre.heap.obj 0 _ _ rfl h0)
   obtain ⟨b1', vs1, T1, e1, e2, e3, e4⟩ := hpre.heap.obj 1 _ _ rfl h1
   cases e1
   have hne : ¬ b = b1 := fun h => hpre.heap.sep 0 1 _ _ _ _ b (by omega) rfl rfl True.intro True.intro h0 h1 rfl (by rw [h]; rfl)
   obtain ⟨p0, rfl⟩ : ∃ p0, vs1 = #[p0] := by
    match vs1, e3 with
    | ⟨[c0]⟩, _ => exact ⟨c0, rfl⟩
   obtain ⟨b', rfl, h0'⟩ := ptr_inv (e4 0 _ _ rfl rfl).1
   rw [h0] at h0'
   cases h0'
   have cell : ∀ (k : Nat) (x : Value), (budV l u d 0 s y)[k]? = some x → w.cell? ⟨b, k, none⟩ = some x := fun k x hx => by simp only [World.cell?, hb]; exact hx
   have froz : ∀ k, w.frozen? ⟨b, k, none⟩ = false := fun k => by simp [World.frozen?, hb]
   by_cases hd : d = 0
   ·subst hd
    refine (once_first b 0 ⟨b1, 0, none⟩ hne (.int .u32 y) w (by simp only [World.cell?, e2]; rfl) (cell 2 _ rfl) (cell 3 _ rfl) (cell 5 _ rfl) (froz 2) (froz 3) (froz 5)).mono ?_
    rintro e w' ⟨rfl, rfl⟩
    refine ⟨_, .tup [], _, η, rfl, ⟨rfl, rfl⟩, ?_⟩
    have g1 := heap_setCell_same w b 3 _ T (.int .i32 1) hb
    have g2 := heap_setCell_same (w.setCell ⟨b, 3, none⟩ (.int .i32 1)).drew b 5 _ T (.int .u32 1) g1
    have g3 := heap_setCell_same ((w.setCell ⟨b, 3, none⟩ (.int .i32 1)).drew.setCell ⟨b, 5, none⟩ (.int .u32 1)).drew b 2 _ T (.int .u32 1) g2
    have g4 := heap_setCell_same _ b 3 _ T (.int .i32 0) g3
    refine hpost_box (q := 0) (b := b) (vs' := budV l u 1 0 s 1) (T := T) hpre rfl h0 ⟨rfl, rfl, rfl, by simp [World.drew], fun k _ hk => ?_⟩ (by simp [World.drew]) g4 rfl bud_lay (.tup [] #[] rfl fun j y u hy _ => by cases hy)
    rw [heap_setCell_other _ _ _ _ hk, heap_setCell_other _ _ _ _ hk]
    show ((w.setCell _ _).drew.setCell _ _).heap[k]? = _
    rw [heap_setCell_other _ _ _ _ hk]
    show (w.setCell _ _).heap[k]? = _
    rw [heap_setCell_other _ _ _ _ hk]
   ·refine (once_again ⟨b, 2, none⟩ d hd _ w (cell 2 _ rfl)).mono ?_
    rintro e w' ⟨rfl, rfl⟩
    refine ⟨_, .tup [], _, η, rfl, ⟨rfl, rfl⟩, ?_⟩
    simp only [hd, if_false]
    exact hpost_box (q := 0) (b := b) (vs' := budV l u d 0 s y) (T := T) hpre rfl h0 ⟨rfl, rfl, rfl, Nat.le_refl _, fun _ _ _ => rfl⟩ rfl hb rfl bud_lay (.tup [] #[] rfl fun j y u hy _ => by cases hy)
end Go.Proofs.YtghlgbhldnkdmaaGreat

namespace Go.Proofs.YtghlgbhldnkdmaaGreat
open Go
set_option linter.unusedSimpArgs false
set_option linter.unusedVariables false
variable {l u d m s y : Int}
theorem bud_left : HFn Tryz.prog 19 [.ptr 0 0] [.box (budC l u d m s y)] (fun r hp' => r = nI l ∧ hp' = [.box (budC l u d m s y)]) :=
 vc19_ok ⟨_, vc_loadLeft_ok (R := fun r hp' => r = nI l ∧ hp' = [.box (budC l u d m s y)]) ⟨rfl, rfl⟩, fun r q ⟨e1, e2⟩ => ⟨l, u, d, m, s, y, l, ⟨e1, e2⟩, rfl, rfl⟩⟩
theorem bud_dry : HFn Tryz.prog 20 [.ptr 0 0] [.box (budC l u d m s y)] (fun r hp' => r = nB (y != 0) ∧ hp' = [.box (budC l u d m s y)]) :=
 vc20_ok ⟨_, vc_loadDry_ok (R := fun r hp' => r = nB (y != 0) ∧ hp' = [.box (budC l u d m s y)]) ⟨rfl, rfl⟩, fun r q ⟨e1, e2⟩ => ⟨l, u, d, m, s, y, y != 0, ⟨e1, e2⟩, rfl, rfl⟩⟩
def lessW (l n : Int) : Int := IntKind.wrap .i64 (l + IntKind.wrap .i64 (0 - n))
def moreW (u n : Int) : Int := IntKind.wrap .i64 (u + n)
theorem bud_take (n : Int) : HFn Tryz.prog 163 [.ptr 0 0, nI n] [.box (budC l u d m s y)] (fun r hp' => r = .tup [] ∧ hp' = [.box (budC (lessW l n) (moreW u n) d m s y)]) :=
 vc163_ok ⟨_, vc_addLeft_ok (R := fun r hp' => r = nI (lessW l n) ∧ hp' = [.box (budC (lessW l n) u d m s y)]) ⟨rfl, rfl⟩, fun r q ⟨e1, e2⟩ => ⟨lessW l n, u, d, m, s, y, lessW l n, ⟨e1, e2⟩,
  _, vc_addUsed_ok (R := fun r hp' => r = nI (moreW u n) ∧ hp' = [.box (budC (lessW l n) (moreW u n) d m s y)]) ⟨rfl, rfl⟩, fun r q ⟨e1, e2⟩ => ⟨lessW l n, moreW u n, d, m, s, y, moreW u n, ⟨e1, e2⟩, rfl, rfl⟩⟩⟩
theorem bud_dried : HFn Tryz.prog 164 [.ptr 0 0] [.box (budC l u d 0 s y)] (fun r hp' => r = .tup [] ∧ hp' = [.box (budC l u (if d = 0 then 1 else d) 0 s (if d = 0 then 1 else y))]) :=
 vc164_ok ⟨_, once_do l u d s y, fun r q ⟨e1, e2⟩ => ⟨l, u, _, 0, s, _, ⟨e1, e2⟩, rfl, rfl⟩⟩
def spendC (l u d s y n : Int) : List AV := if y ≠ 0 ∨ n > l then budC (lessW l l) (moreW u l) (if d = 0 then 1 else d) 0 s (if d = 0 then 1 else y) else budC (lessW l n) (moreW u n) d 0 s y
theorem bud_spend (n : Int) (hn : 0 ≤ n) : HFn Tryz.prog 157 [.ptr 0 0, nI n] [.box (budC l u d 0 s y)]
  (fun r hp' => r = nB (decide (¬ (y ≠ 0 ∨ n > l))) ∧ hp' = [.box (spendC l u d s y n)]) := by
 refine vc157_ok ?_
 unfold vc157
 rw [show decide (n < 0) = false from decide_eq_false (by omega)]
 refine ⟨_, bud_dry, fun r q ⟨e1, e2⟩ => ⟨l, u, d, 0, s, y, y != 0, ⟨e1, e2⟩, ?_⟩⟩
 by_cases hy : y = 0
 ·subst hy
  refine ⟨_, bud_left, fun r q ⟨e1, e2⟩ => ⟨l, u, d, 0, s, 0, l, ⟨e1, e2⟩, ?_⟩⟩
  by_cases h : n > l
  ·rw [show decide (n > l) = true from decide_eq_true h]
   refine ⟨_, bud_left, fun r q ⟨e1, e2⟩ => ⟨l, u, d, 0, s, 0, l, ⟨e1, e2⟩, _, bud_take l, fun r q ⟨e1, e2⟩ => ⟨_, _, d, 0, s, 0, ⟨e1, e2⟩, _, bud_dried, fun r q ⟨e1, e2⟩ => ⟨_, _, _, 0, s, _, ⟨e1, e2⟩, ?_⟩⟩⟩⟩
   exact ⟨by simp [h], by simp only [spendC, h, or_true, if_true]⟩
  ·rw [show decide (n > l) = false from decide_eq_false h]
   refine ⟨_, bud_take n, fun r q ⟨e1, e2⟩ => ⟨_, _, d, 0, s, 0, ⟨e1, e2⟩, ?_⟩⟩
   exact ⟨by simp [h], by simp only [spendC, h, ne_eq, not_true_eq_false, or_self, if_false]⟩
 ·rw [show (y != 0) = true from by simp [hy]]
  refine ⟨_, bud_left, fun r q ⟨e1, e2⟩ => ⟨l, u, d, 0, s, y, l, ⟨e1, e2⟩, _, bud_take l, fun r q ⟨e1, e2⟩ => ⟨_, _, d, 0, s, y, ⟨e1, e2⟩, _, bud_dried, fun r q ⟨e1, e2⟩ => ⟨_, _, _, 0, s, _, ⟨e1, e2⟩, ?_⟩⟩⟩⟩
  exact ⟨by simp [hy], by simp only [spendC, ne_eq, hy, not_false_eq_true, true_or, if_true]⟩
end Go.Proofs.YtghlgbhldnkdmaaGreat

namespace Go.Proofs.YtghlgbhldnkdmaaGreat
open Go
set_option linter.unusedSimpArgs false
set_option linter.unusedVariables false
set_option maxRecDepth 100000
set_option maxHeartbeats 1600000
theorem store_int (a : Addr) (x : Value) (n : Int) (w : World) (hc : w.cell? a = some x) (hz : w.frozen? a = false) :
  CallsIn Fence.wide 0 Tryz.prog 88 #[.pointer (some a), .int .i64 n] w fun e w' => e = .returned (.tuple #[]) ∧ w' = w.setCell a (.int .i64 n) := by
 have hst := run_call_store (P := Tryz.prog) Tryz.func122 (by kernel_rfl) (by kernel_rfl) (by kernel_rfl) (by kernel_rfl) (k := .i64) (y := n) hc hz
 gi_enter Tryz.func88, Tryz.ntmps88
 gi_wp2
 go_end0
 exact ⟨rfl, rfl⟩
theorem new_walk (n : Int) (w : World) :
  CallsIn Fence.wide 0 Tryz.prog 36 #[.int .i64 n] w fun e w' => e = .returned (.pointer (some ⟨w.heap.size, 0, none⟩)) ∧
   w' = (w.alloc (.cells (budV 0 0 0 0 0 0) 129)).setCell ⟨w.heap.size, 0, none⟩ (.int .i64 (if n < 0 then 0 else n)) := by
 have hc : (w.alloc (.cells (budV 0 0 0 0 0 0) 129)).cell? ⟨w.heap.size, 0, none⟩ = some (.int .i64 0) := by simp [budV]
 have hz : (w.alloc (.cells (budV 0 0 0 0 0 0) 129)).frozen? ⟨w.heap.size, 0, none⟩ = false := by simp
 gi_enter Tryz.func36, Tryz.ntmps36
 gi_wp2_with (gi_at_call 88; refine (store_int ⟨w.heap.size, 0, none⟩ (.int .i64 0) _ _ hc hz).mono ?_; rintro e w' ⟨rfl, rfl⟩)
 all_goals (go_ret; exact ⟨rfl, rfl⟩)
theorem bud_new (n : Int) (hp : List AObj) : HFn Tryz.prog 36 [nI n] hp (fun r hp' => r = .ptr hp.length 0 ∧ hp' = hp ++ [.box (budC (if n < 0 then 0 else n) 0 0 0 0 0)]) := by
 refine ⟨⟨_, Tryz.func36, by kernel_rfl, by kernel_rfl⟩, fun w F η vals hpre hv => ?_⟩
 match vals, hv with
 | [v0], ⟨r0, _⟩ =>
  obtain rfl := prim_inv r0
  refine (new_walk n w).mono ?_
  rintro e w' ⟨rfl, rfl⟩
  have g0 : (w.alloc (.cells (budV 0 0 0 0 0 0) 129)).heap[w.heap.size]? = some (.cells (budV 0 0 0 0 0 0) 129 (0, 0)) := heap_alloc_new w _
  have g1 := heap_setCell_same _ w.heap.size 0 _ _ (.int .i64 (if n < 0 then 0 else n)) g0
  refine ⟨_, .ptr hp.length 0, _, _, rfl, ⟨rfl, rfl⟩, hpost_new (vs := budV (if n < 0 then 0 else n) 0 0 0 0 0) hpre ⟨rfl, rfl, rfl, by simp, fun k hk _ => ?_⟩ (by simp) g1 rfl bud_lay⟩
  rw [heap_setCell_other _ _ _ _ (Nat.ne_of_lt hk)]
  exact (Same.alloc w _).block k hk
end Go.Proofs.YtghlgbhldnkdmaaGreat

namespace Go.Proofs.YtghlgbhldnkdmaaGreat
open Go
set_option linter.unusedSimpArgs false
set_option linter.unusedVariables false
variable {l u d s y n : Int}
theorem lessW_eq (h0 : 0 ≤ n) (h1 : n ≤ l) (h2 : l ≤ 9223372036854775807) : lessW l n = l - n := by
 unfold lessW
 rw [IntWalk.i64_in (0 - n) (by omega), IntWalk.i64_in _ (by omega)]
 omega
theorem moreW_eq (h0 : 0 ≤ n) (h1 : 0 ≤ u) (h2 : u + n ≤ 9223372036854775807) : moreW u n = u + n := by
 unfold moreW
 rw [IntWalk.i64_in _ (by omega)]
theorem spend_one (h1 : 1 ≤ l) (h2 : 0 ≤ u) (h3 : l + u ≤ 9223372036854775807) : spendC l u 0 s 0 1 = budC (l - 1) (u + 1) 0 0 s 0 := by
 unfold spendC
 rw [if_neg (by omega), lessW_eq (by omega) (by omega) (by omega), moreW_eq (by omega) (by omega) (by omega)]
end Go.Proofs.YtghlgbhldnkdmaaGreat

namespace Go.Proofs.YtghlgbhldnkdmaaGreat
open Go
set_option linter.unusedSimpArgs false
set_option linter.unusedVariables false
theorem HFn.repw {P : Program} {f : FuncId} {args : List AV} {hp : List AObj} {R : AV → List AObj → Prop} (h : HFn P f args hp (fun r hp' => ∃ r2, RepW r r2 ∧ R r2 hp')) : HFn P f args hp R :=
 ⟨h.1, fun w F η vals hpre hv => (h.2 w F η vals hpre hv).mono fun e w' ⟨v, r, hp', η', he, ⟨r2, hw, hR⟩, hpost⟩ => ⟨v, r2, hp', η', he, hR, ⟨hpost.keeps, hpost.ext, hpost.heap, hpost.mine, hw _ _ _ _ _ hpost.rep⟩⟩⟩
theorem RepWL.repL {w : World} {F : Nat → Nat → Prop} {η : List Value} {hp : List AObj} : ∀ {xs ys : List AV} {vs : List Value}, RepWL xs ys → RepL w F η hp xs vs → RepL w F η hp ys vs
 | [], [], _, _, h => h
 | x :: xs, y :: ys, [], _, h => h.elim
 | x :: xs, y :: ys, v :: vs, hw, h => ⟨hw.1 _ _ _ _ _ h.1, RepWL.repL hw.2 h.2⟩
theorem HFn.args {P : Program} {f : FuncId} {args args' : List AV} {hp : List AObj} {R : AV → List AObj → Prop} (hw : RepWL args args') (h : HFn P f args' hp R) : HFn P f args hp R :=
 ⟨h.1, fun w F η vals hpre hv => h.2 w F η vals hpre (hw.repL hv)⟩
theorem repw_nil : RepW (.prim (.slice none 0 0)) (.sl []) := fun _ _ _ _ _ h => by cases h; exact .sl0 none
theorem repw_clip (l : List AV) : RepW (.clip l) (.sl l) := fun _ _ _ _ _ h => h.of_clip
theorem repw_noTm' : RepW (.agg [.prim (.slice none 0 0), nI 0, nI 0, .prim (.slice none 0 0)]) (.agg [.sl [], nI 0, nI 0, .sl []]) := RepW.agg ⟨repw_nil, RepW.refl _, RepW.refl _, repw_nil, True.intro⟩
theorem mkOk {d : TD} {n : Nat} (h : d.bytes ≤ 1000) (hn : n ≤ 4000000000) : 0 ≤ (n : Int) ∧ (n : Int) ≤ 9223372036854775807 ∧ (TD.bytes d : Int) * (n : Int) ≤ 281474976710656 := by
 refine ⟨by omega, by omega, ?_⟩
 have h1 : (TD.bytes d : Int) * (n : Int) = ((d.bytes * n : Nat) : Int) := by simp
 have h2 : d.bytes * n ≤ 1000 * 4000000000 := Nat.mul_le_mul h hn
 rw [h1]; omega
def wrkO (l u d s y c e : Int) : List AObj := [.box (budC l u d 0 s y), .box [.ptr 0 0, nI c, nI e]]
structure BudOk (n : Nat) (l u d y : Int) : Prop where
 left : l = n
 used : 0 ≤ u
 sum : l + u ≤ 4000000000000000000
 dry : y = 0 ↔ d = 0
 none : y ≠ 0 → n = 0
structure MtOk (m : Mt) (l u d y c e : Int) : Prop where
 bud : BudOk m.left l u d y
 err : e = m.err
 most : m.count ≤ 100000
 count : m.err = 0 → c = m.count
 fuel : m.err = 11 → y ≠ 0
def MtHp (m : Mt) (hp : List AObj) : Prop := ∃ l u d s y c e, hp = wrkO l u d s y c e ∧ MtOk m l u d y c e
variable {m : Mt} {l u d s y c e : Int}
theorem spend_ok {left : Nat} (h : BudOk left l u d y) : HFn Tryz.prog 157 [.ptr 0 0, nI 1] [.box (budC l u d 0 s y)]
  (fun r hp' => ∃ l' u' d' y', r = nB (decide (left ≠ 0)) ∧ hp' = [.box (budC l' u' d' 0 s y')] ∧ BudOk (left - 1) l' u' d' y' ∧ (left = 0 → y' ≠ 0)) := by
 refine (bud_spend (l := l) (u := u) (d := d) (s := s) (y := y) 1 (by decide)).mono fun r hp' ⟨e1, e2⟩ => ?_
 have hl := h.left
 by_cases h0 : left = 0
 ·subst h0
  have hl0 : l = 0 := by simpa using hl
  subst hl0
  have hq : y ≠ 0 ∨ 1 > (0 : Int) := .inr (by decide)
  refine ⟨0, u, if d = 0 then 1 else d, if d = 0 then 1 else y, by rw [e1]; simp, ?_, ⟨rfl, h.used, by have := h.sum; omega, ?_, fun _ => rfl⟩, fun _ => ?_⟩
  ·rw [e2, spendC, if_pos hq, lessW_eq (by omega) (by omega) (by omega), moreW_eq (by omega) h.used (by have := h.sum; omega)]
   simp
  ·by_cases hd : d = 0
   ·simp [hd]
   ·simp only [hd, if_false]
    exact ⟨fun hy => (hd (h.dry.1 hy)).elim, fun hd' => hd'.elim⟩
  ·by_cases hd : d = 0
   ·simp [hd]
   ·simp only [hd, if_false]
    exact fun hy => hd (h.dry.1 hy)
 ·have hy : y = 0 := Decidable.byContradiction fun hc => h0 (h.none hc)
  have hd : d = 0 := h.dry.1 hy
  subst hy; subst hd
  have hq : ¬ ((0 : Int) ≠ 0 ∨ 1 > l) := by omega
  refine ⟨l - 1, u + 1, 0, 0, ?_, ?_, ⟨by omega, by have := h.used; omega, by have := h.sum; omega, Iff.rfl, fun h => (h rfl).elim⟩, fun h => (h0 h).elim⟩
  ·rw [e1, decide_eq_true hq, decide_eq_true h0]
  ·rw [e2, spend_one (by omega) h.used (by have := h.sum; omega)]
theorem fail_calls (e1 : Int) : HFn Tryz.prog 120 [.ptr 1 0, nI e1] (wrkO l u d s y c e) (fun r hp' => r = .tup [] ∧ hp' = wrkO l u d s y c (if e = 0 then e1 else e)) :=
 vc120_ok (ITE.intro (fun h => ⟨rfl, by rw [if_pos (by simpa using h)]; rfl⟩) fun h => ⟨rfl, by rw [if_neg (by simpa using h)]; rfl⟩)
theorem units_stop {m : Mt} (h : m.err ≠ 0) : ∀ n, m.units n = (m, false)
 | 0 => by rw [Mt.units, decide_eq_false h]
 | n + 1 => by
  have h1 : m.one = (m, false) := by unfold Mt.one; rw [if_pos h]
  rw [Mt.units, h1]; rfl
theorem units_succ (m : Mt) (n : Nat) : m.units (n + 1) = m.one.1.units n := by
 rw [Mt.units]
 cases h : m.one.2 with
 | true => rfl
 | false => rw [units_stop (one_false h).1]; rfl
theorem MtOk.failed (h : MtOk m l u d y c e) (c' : Int) {e' : Int} (he : e' ≠ 0) (hf : e' = 11 → y ≠ 0) : MtOk ⟨m.left, m.count, e'⟩ l u d y c' e' := ⟨h.bud, rfl, h.most, fun h => (he h).elim, hf⟩
theorem unit_calls (n : Nat) (hn : n ≤ 1000000000) (h : MtOk m l u d y c e) : HFn Tryz.prog 135 [.ptr 1 0, nI n] (wrkO l u d s y c e) (fun r hp' => r = nB (m.units n).2 ∧ MtHp (m.units n).1 hp') := by
 refine vc135_ok ?_
 unfold vc135 vc135_L1
 refine LoopP.intro (β := Nat × Mt × Int × Int × Int × Int × Int × Int × Int) (fun b => (((), (b.1 : Int), ()), ((b.2.2.1, b.2.2.2.1, b.2.2.2.2.1, (0 : Int), b.2.2.2.2.2.1, b.2.2.2.2.2.2.1, ()), ((), b.2.2.2.2.2.2.2.1, b.2.2.2.2.2.2.2.2, ()), ())))
  (fun b => m.units n = b.2.1.units b.1 ∧ b.1 ≤ n ∧ MtOk b.2.1 b.2.2.1 b.2.2.2.1 b.2.2.2.2.1 b.2.2.2.2.2.2.1 b.2.2.2.2.2.2.2.1 b.2.2.2.2.2.2.2.2) (fun b => b.1) (n, m, l, u, d, s, y, c, e) rfl ⟨rfl, Nat.le_refl _, h⟩ ?_
 rintro ⟨k, m', l, u, d, s, y, c, e⟩ ⟨hk, hkn, h⟩ again hag
 dsimp only at hk hkn h ⊢
 have he := h.err
 refine ITE.intro (fun hp => ?_) fun hp => ?_
 ·have hp : (k : Int) > 0 := of_decide_eq_true hp
  obtain ⟨j, rfl⟩ : ∃ j, k = j + 1 := ⟨k - 1, by omega⟩
  have hw : IntKind.wrap .i64 (((j + 1 : Nat) : Int) - 1) = ((j : Nat) : Int) := by rw [wrap_i (by omega) (by omega)]; omega
  refine ITE.intro (fun h1 => ?_) fun h1 => ?_
  ·have he0 : e = 0 := by simpa using h1
   have hm0 : m'.err = 0 := by rw [← he]; exact he0
   have hc := h.count hm0
   subst he0
   rw [units_succ] at hk
   refine ITE.intro (fun h2 => ?_) fun h2 => ?_
   ·have hcc : m'.count = 100000 := by have : c = 100000 := (by simpa using h2); omega
    refine ⟨_, fail_calls 2, fun r q ⟨e1, e2⟩ => ⟨l, u, d, 0, s, y, c, 2, ⟨e1, e2⟩, ?_⟩⟩
    rw [hw]
    have h1 : m'.one.1 = ⟨m'.left, m'.count, 2⟩ := by unfold Mt.one; rw [if_neg (by simp [hm0]), if_pos hcc]
    rw [h1] at hk
    exact hag (j, ⟨m'.left, m'.count, 2⟩, l, u, d, s, y, _, 2) ⟨hk, by omega, h.failed _ (by decide) (fun h => by simp at h)⟩ (Nat.lt_succ_self j)
   ·have hcc : ¬ m'.count = 100000 := by have : ¬ c = 100000 := (by simpa using h2); omega
    refine ⟨_, spend_ok h.bud, fun r q ⟨l', u', d', y', e1, e2, hb, hz⟩ => ⟨l', u', d', 0, s, y', _, ⟨e1, e2⟩, ?_⟩⟩
    refine ITE.intro (fun h3 => ?_) fun h3 => ?_
    ·have h0 : m'.left = 0 := by simpa using h3
     refine ⟨_, fail_calls 11, fun r q ⟨e1, e2⟩ => ⟨l', u', d', 0, s, y', c, 11, ⟨e1, e2⟩, ?_⟩⟩
     rw [hw]
     have h1 : m'.one.1 = ⟨m'.left, m'.count, 11⟩ := by unfold Mt.one; rw [if_neg (by simp [hm0]), if_neg hcc, if_pos h0]
     rw [h1] at hk
     rw [h0] at hb
     exact hag (j, ⟨m'.left, m'.count, 11⟩, l', u', d', s, y', _, 11) ⟨hk, by omega, by rw [h0]; exact hb, rfl, h.most, fun h => by simp at h, fun _ => hz h0⟩ (Nat.lt_succ_self j)
    ·have h0 : ¬ m'.left = 0 := by simpa using h3
     rw [hw]
     have h1 : m'.one.1 = ⟨m'.left - 1, m'.count + 1, 0⟩ := by unfold Mt.one; rw [if_neg (by simp [hm0]), if_neg hcc, if_neg h0, hm0]
     have hcm := h.most
     have hcn : m'.count ≤ 4000000000 := by omega
     rw [h1] at hk
     rw [hc, wrap_n hcn]
     exact hag (j, ⟨m'.left - 1, m'.count + 1, 0⟩, l', u', d', s, y', _, 0) ⟨hk, by omega, hb, rfl, by simp only; omega, fun _ => rfl, fun h => by simp at h⟩ (Nat.lt_succ_self j)
  ·have he0 : ¬ e = 0 := by simpa using h1
   have hm0 : m'.err ≠ 0 := by rw [← he]; exact he0
   rw [units_stop hm0] at hk
   rw [hk]
   exact ⟨by rw [show (e == 0) = false from by simp [he0]], l, u, d, s, y, c, e, rfl, h⟩
 ·have hp : ¬ (k : Int) > 0 := of_decide_eq_false hp
  obtain rfl : k = 0 := by omega
  rw [Mt.units] at hk
  rw [hk]
  refine ⟨?_, l, u, d, s, y, c, e, rfl, h⟩
  rw [he]
  by_cases h0 : m'.err = 0
  ·simp [h0]
  ·simp [h0]
end Go.Proofs.YtghlgbhldnkdmaaGreat

namespace Go.Proofs.YtghlgbhldnkdmaaGreat
open Go
set_option linter.unusedSimpArgs false
set_option linter.unusedVariables false
theorem lifted_calls {B b : Nat} (hB : B ≤ 1000000) : ∀ (n : Nat) (t : Tm) (d : Nat), t.nodes ≤ n → t.Lo B → d + B * n ≤ 4000000000000000000 →
  PureIs Tryz.prog 161 [.agg [.sl (t.binds.map Ty.enc), nI t.kind, nI t.index, .sl (t.args.map Tm.enc)], nI b, nI d] (.agg [.sl ((t.lift b d).binds.map Ty.enc), nI (t.lift b d).kind, nI (t.lift b d).index, .sl ((t.lift b d).args.map Tm.enc)]) := by
 intro n
 induction n with
 | zero => intro t d h; have := t.nodes_pos; omega
 | succ n ih =>
  intro t d h hlo hd
  have hl := Tm.lo_eq.1 hlo
  have hb := Ty.sizes_len t.binds
  have hmul : B * (n + 1) = B * n + B := by rw [Nat.mul_succ]
  have hw : IntKind.wrap .i64 ((d : Int) + ((List.length (t.binds.map Ty.enc) : Nat) : Int)) = ((d + t.binds.length : Nat) : Int) := by
   rw [List.length_map, wrap_i (by omega) (by omega)]; omega
  have ha : (t.lift b d).args = t.args.map (Tm.lift b (d + t.binds.length)) := Tm.lift_args b d t
  have loop : ∀ ix : Int, ix = (t.lift b d).index → vc161_L6 ((b, ((d + t.binds.length : Nat) : Int), (), (), (), t.args.map Tm.enc, ((List.length (t.args.map Tm.enc) : Nat) : Int), 0, ()), ((t.binds.map Ty.enc, t.kind, ix, t.args.map Tm.enc, ()), ((), 0, 0, (), ()), [], ())) (fun x => x = .agg [.sl ((t.lift b d).binds.map Ty.enc), nI (t.lift b d).kind, nI (t.lift b d).index, .sl ((t.lift b d).args.map Tm.enc)]) := by
   intro ix hix
   refine LoopP.intro (fun k : Nat => (((b : Int), ((d + t.binds.length : Nat) : Int), (), (), (), t.args.map Tm.enc, (t.args.length : Int), (k : Int), ()), ((t.binds.map Ty.enc, t.kind, ix, t.args.map Tm.enc, ()), ((), (0 : Int), (0 : Int), (), ()), ((t.lift b d).args.take k).map Tm.enc, ())))
    (fun k => k ≤ t.args.length) (fun k => t.args.length - k) 0 (by rw [List.length_map]; rfl) (Nat.zero_le _) ?_
   intro k hk again hag
   dsimp only
   refine ITE.intro (fun h => ?_) fun h => ?_
   ·have hlt : k < t.args.length := by simpa using h
    have hz : t.args[k].nodes ≤ n := by have := Tm.nodess_mem (List.getElem_mem hlt); have := t.nodes_eq; omega
    have hi := ih t.args[k] (d + t.binds.length) hz (Tm.los_iff.1 hl.2.2 _ (List.getElem_mem hlt)) (by omega)
    have hlt2 : k < (t.lift b d).args.length := by rw [ha, List.length_map]; exact hlt
    have hg : (t.lift b d).args[k] = Tm.lift b (d + t.binds.length) t.args[k] := by simp [ha]
    rw [← hg] at hi
    refine ⟨by omega, by rw [List.length_map]; omega, _, _, _, _, Tm.enc_getD hlt, _, _, _, _, hi, rfl, appOk_nil (fun x hx => by simp at hx; subst hx; rfl) (by simp; omega) (by decide), rfl, ?_⟩
    rw [wrap_n (by omega), Tm.enc_snoc, take_snoc' hlt2]
    exact hag (k + 1) (by omega) (by omega)
   ·have : t.args.length ≤ k := by simpa using h
    refine ⟨rfl, ?_⟩
    rw [List.take_of_length_le (by rw [ha, List.length_map]; exact this), hix, Tm.lift_binds, Tm.lift_kind]
  have hm : ∀ {dd : TD}, dd.bytes ≤ 1000 → (0 ≤ ((List.length (t.args.map Tm.enc) : Nat) : Int) ∧ ((List.length (t.args.map Tm.enc) : Nat) : Int) ≤ 9223372036854775807 ∧ (TD.bytes dd : Int) * ((List.length (t.args.map Tm.enc) : Nat) : Int) ≤ 281474976710656) :=
   fun hd => mkOk hd (by rw [List.length_map]; omega)
  refine vc161_ok ?_
  unfold vc161
  rw [hw]
  have hidx : (t.lift b d).index = if t.kind = 0 ∧ ((d + t.binds.length : Nat) : Int) ≤ t.index then IntKind.wrap .i64 (t.index + b) else t.index := by rw [Tm.lift_eq]; rfl
  refine ITE.intro (fun h => ?_) fun h => ?_
  ·have h0 : t.kind = 0 := by simpa using h
   refine ITE.intro (fun h1 => ?_) fun h1 => ?_
   ·have h1 : ((d + t.binds.length : Nat) : Int) ≤ t.index := of_decide_eq_true h1
    exact ⟨hm (by decide), rfl, loop _ (by rw [hidx, if_pos ⟨h0, h1⟩])⟩
   ·have h1 : ¬ ((d + t.binds.length : Nat) : Int) ≤ t.index := of_decide_eq_false h1
    exact ⟨hm (by decide), rfl, loop _ (by rw [hidx, if_neg (fun h => h1 h.2)])⟩
  ·have h0 : ¬ t.kind = 0 := by simpa using h
   exact ⟨hm (by decide), rfl, loop _ (by rw [hidx, if_neg (fun h => h0 h.1)])⟩
mutual
theorem Tm.lift_zero : ∀ (t : Tm) (d : Nat), t.Ok → t.lift 0 d = t
 | .mk bs k i l, d, h => by
  obtain ⟨h1, h2, h3⟩ := h
  rw [Tm.lift, Tm.lifts_zero l _ h3]
  congr 1
  split
  ·rw [show i + ((0 : Nat) : Int) = i from by omega, h2.wrap]
  ·rfl
theorem Tm.lifts_zero : ∀ (l : List Tm) (d : Nat), Tm.Oks l → Tm.lifts 0 d l = l
 | [], _, _ => rfl
 | t :: l, d, h => by rw [Tm.lifts, Tm.lift_zero t d h.1, Tm.lifts_zero l d h.2]
end
theorem ngrown_calls {B b : Nat} {t : Tm} (hB : B ≤ 1000000) (hn : t.nodes ≤ 1000000000) (hlo : t.Lo B) :
  PureIs Tryz.prog 152 [.agg [.sl (t.binds.map Ty.enc), nI t.kind, nI t.index, .sl (t.args.map Tm.enc)], nI b] (.agg [.sl ((t.lift b 0).binds.map Ty.enc), nI (t.lift b 0).kind, nI (t.lift b 0).index, .sl ((t.lift b 0).args.map Tm.enc)]) := by
 have := Nat.mul_le_mul hB hn
 refine vc152_ok (ITE.intro (fun h => ?_) fun h => ⟨_, _, _, _, lifted_calls (b := b) hB _ t 0 (Nat.le_refl _) hlo (by omega), rfl⟩)
 have h0 : b = 0 := by simpa using h
 subst h0
 rw [Tm.lift_zero t 0 (Tm.lo_ok hlo)]
end Go.Proofs.YtghlgbhldnkdmaaGreat

namespace Go.Proofs.YtghlgbhldnkdmaaGreat
open Go
set_option linter.unusedSimpArgs false
set_option linter.unusedVariables false
theorem units_one (m : Mt) : m.units 1 = m.one := by
 rw [Mt.units]
 cases h : m.one.2 with
 | true =>
  rw [if_pos rfl, Mt.units]
  obtain ⟨_, _, _, h3⟩ := one_true h
  rw [show m.one = (m.one.1, m.one.2) from rfl, h, h3]
  rfl
 | false =>
  rw [if_neg (by simp), ← h]
def MtRes (N : Nat) (m : Mt) (t : Tm) (r : AV) (hp' : List AObj) : Prop := MtHp m hp' ∧ ∃ t' : Tm, r = .agg [.sl (t'.binds.map Ty.enc), nI t'.kind, nI t'.index, .sl (t'.args.map Tm.enc)] ∧ (m.err = 0 → t' = t) ∧ t'.binds.length ≤ N
def ThrP (B f : Nat) : Prop := ∀ (m : Mt) (us : List Tm) (bs : List Ty) (k i : Int) (args : List Tm) (n d : Nat) (l u x s y c e : Int), MtOk m l u x y c e → (m.err = 0 → 100000 < f + m.count) →
 Ty.sizes bs ≤ B → I64 k → I64 i → args.length ≤ B → Tm.Los B args → Tm.Los B us → (∀ t ∈ us, t.nodes ≤ 1000000000) → us.length ≤ n → n ≤ B → d + B * (f + 1) ≤ 4000000000000000000 →
 HFn Tryz.prog 121 [.agg [.ptr 1 0, .sl (us.map Tm.enc), nI n], .agg [.sl (bs.map Ty.enc), nI k, nI i, .sl (args.map Tm.enc)], nI d] (wrkO l u x s y c e)
  (MtRes bs.length (bodyT f m k i args us n (d + bs.length)).1 (.mk bs (bodyT f m k i args us n (d + bs.length)).2.kind (bodyT f m k i args us n (d + bs.length)).2.index (bodyT f m k i args us n (d + bs.length)).2.args))
def PutP (B f : Nat) : Prop := ∀ (m : Mt) (t : Tm) (us : List Tm) (l u x s y c e : Int), MtOk m l u x y c e → (m.err = 0 → 100000 < f + m.count) → t.Lo B → (m.err = 0 → Tm.Los B us ∧ ∀ t ∈ us, t.nodes ≤ 1000000000) →
 B * (f + 1) ≤ 4000000000000000000 →
 HFn Tryz.prog 87 [.ptr 1 0, .agg [.sl (t.binds.map Ty.enc), nI t.kind, nI t.index, .sl (t.args.map Tm.enc)], .sl (us.map Tm.enc)] (wrkO l u x s y c e) (MtRes t.binds.length (putT f m t us).1 (putT f m t us).2)
theorem noTm_res {N : Nat} {m : Mt} {t : Tm} {hp' : List AObj} (h : MtHp m hp') (he : m.err ≠ 0) : ∃ r2, RepW (.agg [.prim (.slice none 0 0), nI 0, nI 0, .prim (.slice none 0 0)]) r2 ∧ MtRes N m t r2 hp' :=
 ⟨_, repw_noTm', h, noTm, rfl, fun h0 => (he h0).elim, Nat.zero_le _⟩
theorem putP_of {B f : Nat} (hB : B ≤ 1000000) (ht : ThrP B f) : PutP B f := by
 intro m t us l u x s y c e hm hf hlo hus hk
 have he := hm.err
 have hl := Tm.lo_eq.1 hlo
 have hbl := Ty.sizes_len t.binds
 refine HFn.repw (vc87_ok (ITE.intro (fun h => ?_) fun h => ?_))
 ·have h0 : ¬ e = 0 := by simpa using h
  have hm0 : m.err ≠ 0 := by rw [← he]; exact h0
  refine ⟨_, fail_calls 1, fun r q ⟨e1, e2⟩ => ⟨l, u, x, 0, s, y, c, _, ⟨e1, e2⟩, ?_⟩⟩
  have : putT f m t us = (m, noTm) := by unfold putT; rw [if_pos hm0]
  rw [this]
  rw [if_neg h0]
  exact noTm_res ⟨l, u, x, s, y, c, e, rfl, hm⟩ hm0
 ·have h0 : e = 0 := by simpa using h
  have hm0 : m.err = 0 := by rw [← he]; exact h0
  obtain ⟨hu, hn⟩ := hus hm0
  refine ITE.intro (fun h => ?_) fun h => ?_
  ·have h1 : t.binds.length < us.length := by have := of_decide_eq_true h; rw [List.length_map, List.length_map] at this; omega
   refine ⟨_, fail_calls 1, fun r q ⟨e1, e2⟩ => ⟨l, u, x, 0, s, y, c, _, ⟨e1, e2⟩, ?_⟩⟩
   have : putT f m t us = (⟨m.left, m.count, 1⟩, noTm) := by unfold putT; rw [if_neg (by simp [hm0]), if_pos h1]
   rw [this, if_pos h0]
   exact noTm_res ⟨l, u, x, s, y, c, 1, rfl, hm.failed c (by decide) (fun h => by simp at h)⟩ (by simp)
  ·have h1 : ¬ t.binds.length < us.length := by have := of_decide_eq_false h; rw [List.length_map, List.length_map] at this; omega
   have hp : putT f m t us = ((bodyT f m t.kind t.index t.args us t.binds.length 0).1, .mk (t.binds.drop us.length) (bodyT f m t.kind t.index t.args us t.binds.length 0).2.kind (bodyT f m t.kind t.index t.args us t.binds.length 0).2.index (bodyT f m t.kind t.index t.args us t.binds.length 0).2.args) := by
    unfold putT; rw [if_neg (by simp [hm0]), if_neg h1]
   have hthr := ht m us [] t.kind t.index t.args t.binds.length 0 l u x s y c e hm hf (by simp [Ty.sizes]) hl.2.1.1 hl.2.1.2 hl.1.2 hl.2.2 hu hn (by omega) (by omega) (by omega)
   rw [List.length_nil, Nat.add_zero] at hthr
   rw [hp]
   generalize bodyT f m t.kind t.index t.args us t.binds.length 0 = q at hthr
   rw [List.length_map, List.length_map]
   refine ⟨_, HFn.args (by exact ⟨RepW.refl _, RepW.agg ⟨repw_nil, RepW.refl _, RepW.refl _, RepW.refl _, True.intro⟩, RepW.refl _, True.intro⟩) hthr, fun r hq ⟨⟨l', u', x', s', y', c', e', e2, hm'⟩, t', e1, ht', _⟩ => ⟨l', u', x', 0, s', y', c', e', _, _, _, _, ⟨e1, e2⟩, ?_⟩⟩
   refine ⟨⟨by omega, by omega, by omega, fun z hz => Ty.enc_cells z hz⟩, ?_⟩
   rw [Int.toNat_natCast, Int.toNat_natCast, List.take_of_length_le (by rw [List.length_map]; omega), ← List.map_drop]
   refine ⟨_, RepW.refl _, ⟨l', u', x', s', y', c', e', rfl, hm'⟩, .mk (t.binds.drop us.length) t'.kind t'.index t'.args, rfl, fun h => ?_, by rw [Tm.binds_mk, List.length_drop]; omega⟩
   rw [ht' h]; rfl
theorem thrP_zero {B : Nat} (hB : B ≤ 1000000) : ThrP B 0 := by
 intro m us bs k i args n d l u x s y c e hm hf hbs hk hi hla hlo hus hun hn hnB hd
 have hm0 : m.err ≠ 0 := fun h => by have := hf h; have := hm.most; omega
 refine HFn.repw (vc121_ok ⟨_, unit_calls 1 (by omega) hm, fun r q ⟨e1, l', u', x', s', y', c', e', e2, hm'⟩ => ⟨l', u', x', 0, s', y', c', e', _, ⟨e1, e2⟩, ?_⟩⟩)
 rw [units_stop hm0] at hm' ⊢
 refine ITE.pos rfl ?_
 rw [(bodyT_to 0 m k i args us n (d + bs.length)).stop hm0]
 exact noTm_res ⟨l', u', x', s', y', c', e', rfl, hm'⟩ hm0
theorem thrP_succ {B f : Nat} (hB : B ≤ 1000000) (ih : ThrP B f) : ThrP B (f + 1) := by
 have hput := putP_of hB ih
 intro m us bs k i args n d l u x s y c e hm hf hbs hk hi hla hlo hus hun hn hnB hd
 have hbl := Ty.sizes_len bs
 have hmul : B * (f + 1 + 1) = B * (f + 1) + B := Nat.mul_succ _ _
 have hBf : B ≤ B * (f + 1) := Nat.le_mul_of_pos_right _ (Nat.succ_pos f)
 refine HFn.repw (vc121_ok ⟨_, unit_calls 1 (by omega) hm, fun r q ⟨e1, l', u', x', s', y', c', e', e2, hm'⟩ => ⟨l', u', x', 0, s', y', c', e', _, ⟨e1, e2⟩, ?_⟩⟩)
 rw [units_one] at hm' ⊢
 have hw : IntKind.wrap .i64 ((d : Int) + ((List.length (bs.map Ty.enc) : Nat) : Int)) = ((d + bs.length : Nat) : Int) := by
  rw [List.length_map, wrap_i (by omega) (by omega)]; omega
 rw [hw]
 generalize hD : d + bs.length = D
 have hD2 : D + B * (f + 1) ≤ 4000000000000000000 := by omega
 refine ITE.intro (fun h => ?_) fun h => ⟨rfl, ?_⟩
 ·have h : m.one.2 = false := by simpa using h
  have : bodyT (f + 1) m k i args us n D = (m.one.1, noTm) := by rw [bodyT, if_pos h]
  rw [this]
  exact noTm_res ⟨l', u', x', s', y', c', e', rfl, hm'⟩ (one_false h).1
 have h : m.one.2 = true := by simpa using h
 obtain ⟨g0, g1, g2, g3⟩ := one_true h
 have hbody : bodyT (f + 1) m k i args us n D = headT (bodyT f) (goArgs (withinT (bodyT f) us n D) m.one.1 args) k i us n D := by rw [bodyT, if_neg (by simp [h])]
 rw [hbody]
 have hcnt : m.one.1.count = m.count + 1 := by rw [g3]
 have hfuel : ∀ m' : Mt, m.one.1.To m' → m'.err = 0 → 100000 < f + m'.count := fun m' h h0 => by have := h.more; have := hf g0; omega
 have hkeep := withinT_to f us n D
 have hform : ∀ (l : List Tm) (m' : Mt), (∀ t ∈ l, t ∈ args) → (goArgs (withinT (bodyT f) us n D) m' l).1.err = 0 → Tm.nodess (goArgs (withinT (bodyT f) us n D) m' l).2 + m'.count ≤ (goArgs (withinT (bodyT f) us n D) m' l).1.count ∧ Tm.Los B (goArgs (withinT (bodyT f) us n D) m' l).2 := by
  intro l m' hsub he0
  refine goArgs_form hkeep l m' (fun t ht m'' hto' he' => ?_) he0
  have hlo' := Tm.lo_eq.1 (Tm.los_iff.1 hlo t (hsub t ht))
  have := bodyT_form (B := B) f m'' t.kind t.index t.args us n (D + t.binds.length) hlo'.2.1.1 hlo'.2.1.2 hlo'.1.2 hlo'.2.2 hus hn he'
  have hq := Tm.lo_eq.1 this.1.lo
  have hqn := this.1.nodes
  rw [Tm.nodes_eq] at hqn
  exact ⟨by unfold withinT; rw [Tm.nodes_eq, Tm.args_mk]; exact hqn, Tm.lo_eq.2 ⟨⟨hlo'.1.1, hq.1.2⟩, hq.2⟩⟩
 have hlen := goArgs_len (g := withinT (bodyT f) us n D) args m.one.1
 have hlos := hform args m.one.1 fun t h => h
 unfold vc121_L6
 refine LoopP.intro (β := Nat × Mt × Int × Int × Int × Int × Int × Int × Int × List Tm) (fun b => (((D : Int), (), (), (), (), args.map Tm.enc, (args.length : Int), (b.1 : Int), ()), ((b.2.2.1, b.2.2.2.1, b.2.2.2.2.1, (0 : Int), b.2.2.2.2.2.1, b.2.2.2.2.2.2.1, ()), ((), b.2.2.2.2.2.2.2.1, b.2.2.2.2.2.2.2.2.1, ()), ((), us.map Tm.enc, (n : Int), ()), (bs.map Ty.enc, k, i, args.map Tm.enc, ()), ((), (0 : Int), (0 : Int), (), ()), (bs.map Ty.enc, k, i, (), ()), b.2.2.2.2.2.2.2.2.2.map Tm.enc, ())))
  (fun b => b.1 ≤ args.length ∧ MtOk b.2.1 b.2.2.1 b.2.2.2.1 b.2.2.2.2.1 b.2.2.2.2.2.2.1 b.2.2.2.2.2.2.2.1 b.2.2.2.2.2.2.2.2.1 ∧ m.one.1.To b.2.1 ∧ b.2.2.2.2.2.2.2.2.2.length = b.1 ∧
   ∃ pre : List Tm, goArgs (withinT (bodyT f) us n D) m.one.1 args = ((goArgs (withinT (bodyT f) us n D) b.2.1 (args.drop b.1)).1, pre ++ (goArgs (withinT (bodyT f) us n D) b.2.1 (args.drop b.1)).2) ∧ (b.2.1.err = 0 → b.2.2.2.2.2.2.2.2.2 = pre))
  (fun b => args.length - b.1) (0, m.one.1, l', u', x', s', y', c', e', []) (by rw [List.length_map]; rfl) ⟨Nat.zero_le _, hm', .refl _, rfl, [], by rw [List.drop_zero, List.nil_append], fun _ => rfl⟩ ?_
 rintro ⟨j, m', l, u, x, s, y, c, e, acc⟩ ⟨hj, hm', hto, hacc, pre, hgo, hpre⟩ again hag
 dsimp only at hj hm' hto hacc hgo hpre ⊢
 have he := hm'.err
 refine ITE.intro (fun h => ?_) fun h => ?_
 ·have hlt : j < args.length := by simpa using h
  have hlo' := Tm.lo_eq.1 (Tm.los_iff.1 hlo args[j] (List.getElem_mem hlt))
  have hstep : vc121_L8 (((D : Int), (), (), (), (), args.map Tm.enc, (args.length : Int), (j : Int), ()), ((l, u, x, (0 : Int), s, y, ()), ((), c, e, ()), ((), us.map Tm.enc, (n : Int), ()), (bs.map Ty.enc, k, i, args.map Tm.enc, ()), ((), (0 : Int), (0 : Int), (), ()), (bs.map Ty.enc, k, i, (), ()), acc.map Tm.enc, ())) (args[j].binds.map Ty.enc) args[j].kind args[j].index (args[j].args.map Tm.enc) again := by
   refine ⟨_, ih m' us args[j].binds args[j].kind args[j].index args[j].args n D l u x s y c e hm' (hfuel m' hto) hlo'.1.1 hlo'.2.1.1 hlo'.2.1.2 hlo'.1.2 hlo'.2.2 hus hun hn hnB hD2, fun r q ⟨⟨l', u', x', s', y', c', e', e2, hm''⟩, t', e1, ht', _⟩ => ⟨l', u', x', 0, s', y', c', e', _, _, _, _, ⟨e1, e2⟩, rfl, appOk_nil (fun z hz => by simp at hz; subst hz; rfl) (by simp [hacc]; omega) (by decide), rfl, ?_⟩⟩
   have hto2 := hkeep m' args[j]
   rw [wrap_n (by omega), Tm.enc_snoc]
   refine hag (j + 1, (withinT (bodyT f) us n D m' args[j]).1, l', u', x', s', y', c', e', acc ++ [t']) ⟨hlt, hm'', hto.trans hto2, by simp [hacc], pre ++ [(withinT (bodyT f) us n D m' args[j]).2], ?_, fun h0 => ?_⟩ (by simp only; omega)
   ·rw [hgo, goArgs_drop hlt, List.append_assoc, List.singleton_append]
   ·rw [hpre (hto2.ok h0), ht' h0]; rfl
  exact ⟨by omega, by rw [List.length_map]; omega, _, _, _, _, Tm.enc_getD hlt, hstep, hstep⟩
 ·have hge : args.length ≤ j := by simpa using h
  have hj' : j = args.length := by omega
  subst hj'
  rw [List.drop_length, goArgs, List.append_nil] at hgo
  rw [hgo] at hlen hlos ⊢
  simp only at hlen hlos
  have good : m'.err = 0 → acc = pre := hpre
  have fin : ∀ (i' : Int) (T : Mt × Tm), T.1 = m' → (m'.err = 0 → T.2 = .mk [] k i' pre) → ∃ r2, RepW (.agg [.sl (bs.map Ty.enc), nI k, nI i', .sl (acc.map Tm.enc)]) r2 ∧ MtRes bs.length T.1 (.mk bs T.2.kind T.2.index T.2.args) r2 (wrkO l u x s y c e) := by
   intro i' T h1 h2
   refine ⟨_, RepW.refl _, ⟨l, u, x, s, y, c, e, rfl, by rw [h1]; exact hm'⟩, .mk bs k i' acc, rfl, fun h0 => ?_, Nat.le_refl _⟩
   rw [h1] at h0
   rw [h2 h0, good h0]; rfl
  unfold headT
  by_cases h0 : m'.err = 0
  ·rw [if_neg (by simp [h0])]
   have hacc2 := good h0
   obtain ⟨q1, q2⟩ := hlos h0
   refine ITE.intro (fun h => ?_) fun h => ?_
   ·have h1 : ¬ k = 0 := by simpa using h
    rw [if_pos (.inl h1)]
    exact ⟨rfl, fin i _ rfl fun _ => rfl⟩
   ·have h1 : k = 0 := by simpa using h
    refine ITE.intro (fun h => ?_) fun h => ?_
    ·have h2 : i < D := of_decide_eq_true h
     rw [if_pos (.inr h2)]
     exact ⟨rfl, fin i _ rfl fun _ => rfl⟩
    ·have h2 : ¬ i < D := of_decide_eq_false h
     rw [if_neg (fun h => h.elim (fun h => h h1) h2)]
     have hi2 := hi.2
     have hw1 : IntKind.wrap .i64 (i - (D : Int)) = i - D := wrap_i (by omega) (by omega)
     have hw2 : IntKind.wrap .i64 ((n : Int) - ((List.length (us.map Tm.enc) : Nat) : Int)) = (n : Int) - us.length := by rw [List.length_map]; exact wrap_i (by omega) (by omega)
     have hw3 : IntKind.wrap .i64 ((n : Int) - 1) = (n : Int) - 1 := wrap_i (by omega) (by omega)
     rw [hw1, hw2]
     refine ITE.intro (fun h => ?_) fun h => ?_
     ·have h3 : i - (D : Int) < (n : Int) - us.length := of_decide_eq_true h
      rw [if_neg (by omega), if_pos (by omega)]
      exact ⟨rfl, fin i _ rfl fun _ => rfl⟩
     ·have h3 : ¬ i - (D : Int) < (n : Int) - us.length := of_decide_eq_false h
      refine ITE.intro (fun h => ?_) fun h => ?_
      ·have h4 : i - (D : Int) ≥ n := of_decide_eq_true h
       rw [if_pos (by omega)]
       have hw4 : IntKind.wrap .i64 (i - ((List.length (us.map Tm.enc) : Nat) : Int)) = i - us.length := by rw [List.length_map]; exact wrap_i (by omega) (by omega)
       rw [hw4]
       exact ⟨rfl, fin _ _ rfl fun _ => rfl⟩
      ·have h4 : ¬ i - (D : Int) ≥ n := of_decide_eq_false h
       rw [if_neg (by omega), if_neg (by omega)]
       rw [hw3]
       have hw5 : IntKind.wrap .i64 ((n : Int) - 1 - (i - (D : Int))) = ((n - 1 - (i - D).toNat : Nat) : Int) := by rw [wrap_i (by omega) (by omega)]; omega
       have hw6 : IntKind.wrap .i64 (IntKind.wrap .i64 ((D : Int) + n) - ((List.length (us.map Tm.enc) : Nat) : Int)) = ((D + n - us.length : Nat) : Int) := by
        rw [List.length_map, wrap_i (n := (D : Int) + n) (by omega) (by omega), wrap_i (by omega) (by omega)]; omega
       rw [hw5, hw6]
       have hlt : n - 1 - (i - D).toNat < us.length := by omega
       generalize hv : n - 1 - (i - D).toNat = v at hlt
       have hst : standT us i n D = us[v].lift (D + n - us.length) 0 := by
        unfold standT
        rw [hv, List.getD_eq_getElem?_getD, List.getElem?_eq_getElem hlt]; rfl
       have hgr := ngrown_calls (b := D + n - us.length) hB (hun _ (List.getElem_mem hlt)) (Tm.los_iff.1 hus _ (List.getElem_mem hlt))
       rw [← hst] at hgr
       refine ⟨by omega, by rw [List.length_map]; omega, _, _, _, _, Tm.enc_getD hlt, _, _, _, _, hgr, rfl, ?_⟩
       refine ITE.intro (fun h => ?_) fun h => ⟨rfl, ?_⟩
       ·have h5 : (standT us i n D).binds.length ≠ pre.length := by rw [← hacc2]; intro e; apply (show ¬ _ from by simpa using h); omega
        rw [if_pos h5]
        refine ⟨_, fail_calls 1, fun r q ⟨e1, e2⟩ => ⟨l, u, x, 0, s, y, c, _, ⟨e1, e2⟩, ?_⟩⟩
        rw [if_pos (by rw [he]; exact h0)]
        exact noTm_res ⟨l, u, x, s, y, c, 1, rfl, hm'.failed c (by decide) (fun h => by simp at h)⟩ (by simp)
       ·have h5 : ¬ (standT us i n D).binds.length ≠ pre.length := by
         have h6 : ((standT us i n D).binds.length : Int) = acc.length := by simpa using h
         rw [← hacc2]; omega
        rw [if_neg h5]
        have hpt := hput m' (standT us i n D) acc l u x s y c e hm' (hfuel m' hto) (standT_lo hus i n D) (fun _ => by
         rw [hacc2]
         refine ⟨q2, fun t ht => ?_⟩
         have h1 := Tm.nodess_mem ht
         have h2 := hm'.most
         omega) (by omega)
        rw [hacc2] at hpt ⊢
        have hp : putT f m' (standT us i n D) pre = ((bodyT f m' (standT us i n D).kind (standT us i n D).index (standT us i n D).args pre (standT us i n D).binds.length 0).1, .mk ((standT us i n D).binds.drop pre.length) (bodyT f m' (standT us i n D).kind (standT us i n D).index (standT us i n D).args pre (standT us i n D).binds.length 0).2.kind (bodyT f m' (standT us i n D).kind (standT us i n D).index (standT us i n D).args pre (standT us i n D).binds.length 0).2.index (bodyT f m' (standT us i n D).kind (standT us i n D).index (standT us i n D).args pre (standT us i n D).binds.length 0).2.args) := by
         unfold putT; rw [if_neg (by simp [h0]), if_neg (by simp at h5; omega)]
        rw [hp] at hpt
        generalize bodyT f m' (standT us i n D).kind (standT us i n D).index (standT us i n D).args pre (standT us i n D).binds.length 0 = T at hpt
        refine ⟨_, hpt, fun r q ⟨⟨l', u', x', s', y', c', e', e2, hm''⟩, t', e1, ht', _⟩ => ⟨l', u', x', 0, s', y', c', e', _, _, _, _, ⟨e1, e2⟩, ?_⟩⟩
        refine ⟨_, RepW.refl _, ⟨l', u', x', s', y', c', e', rfl, hm''⟩, .mk bs t'.kind t'.index t'.args, rfl, fun h0 => ?_, Nat.le_refl _⟩
        rw [ht' h0]; rfl
  ·rw [if_pos h0]
   have stop : ∀ (i' : Int) (a : List Tm), ∃ r2, RepW (.agg [.sl (bs.map Ty.enc), nI k, nI i', .sl (a.map Tm.enc)]) r2 ∧ MtRes bs.length m' (.mk bs noTm.kind noTm.index noTm.args) r2 (wrkO l u x s y c e) := fun i' a =>
    ⟨_, RepW.refl _, ⟨l, u, x, s, y, c, e, rfl, hm'⟩, .mk bs k i' a, rfl, fun h => (h0 h).elim, Nat.le_refl _⟩
   have he0 : ¬ e = 0 := by rw [he]; exact h0
   refine ITE.intro (fun h => ⟨rfl, stop i acc⟩) fun h => ?_
   refine ITE.intro (fun h => ⟨rfl, stop i acc⟩) fun h2 => ?_
   have h2 : ¬ i < D := of_decide_eq_false h2
   have hi2 := hi.2
   have hw1 : IntKind.wrap .i64 (i - (D : Int)) = i - D := wrap_i (by omega) (by omega)
   have hw2 : IntKind.wrap .i64 ((n : Int) - ((List.length (us.map Tm.enc) : Nat) : Int)) = (n : Int) - us.length := by rw [List.length_map]; exact wrap_i (by omega) (by omega)
   have hw3 : IntKind.wrap .i64 ((n : Int) - 1) = (n : Int) - 1 := wrap_i (by omega) (by omega)
   rw [hw1, hw2]
   refine ITE.intro (fun h => ⟨rfl, stop i acc⟩) fun h3 => ?_
   have h3 : ¬ i - (D : Int) < (n : Int) - us.length := of_decide_eq_false h3
   refine ITE.intro (fun h => ⟨rfl, stop _ acc⟩) fun h4 => ?_
   have h4 : ¬ i - (D : Int) ≥ n := of_decide_eq_false h4
   rw [hw3]
   have hw5 : IntKind.wrap .i64 ((n : Int) - 1 - (i - (D : Int))) = ((n - 1 - (i - D).toNat : Nat) : Int) := by rw [wrap_i (by omega) (by omega)]; omega
   have hw6 : IntKind.wrap .i64 (IntKind.wrap .i64 ((D : Int) + n) - ((List.length (us.map Tm.enc) : Nat) : Int)) = ((D + n - us.length : Nat) : Int) := by
    rw [List.length_map, wrap_i (n := (D : Int) + n) (by omega) (by omega), wrap_i (by omega) (by omega)]; omega
   rw [hw5, hw6]
   have hlt : n - 1 - (i - D).toNat < us.length := by omega
   generalize hv : n - 1 - (i - D).toNat = v at hlt
   have hgr := ngrown_calls (b := D + n - us.length) hB (hun _ (List.getElem_mem hlt)) (Tm.los_iff.1 hus _ (List.getElem_mem hlt))
   have hglo := Tm.lo_lift (b := D + n - us.length) 0 (Tm.los_iff.1 hus _ (List.getElem_mem hlt))
   refine ⟨by omega, by rw [List.length_map]; omega, _, _, _, _, Tm.enc_getD hlt, _, _, _, _, hgr, rfl, ?_⟩
   generalize us[v].lift (D + n - us.length) 0 = g at hglo
   refine ITE.intro (fun h => ?_) fun h => ⟨rfl, ?_⟩
   ·refine ⟨_, fail_calls 1, fun r q ⟨e1, e2⟩ => ⟨l, u, x, 0, s, y, c, _, ⟨e1, e2⟩, ?_⟩⟩
    rw [if_neg he0]
    exact noTm_res ⟨l, u, x, s, y, c, e, rfl, hm'⟩ h0
   ·have hpt := hput m' g acc l u x s y c e hm' (fun h => (h0 h).elim) hglo (fun h => (h0 h).elim) (by omega)
    rw [show putT f m' g acc = (m', noTm) from by unfold putT; rw [if_pos h0]] at hpt
    refine ⟨_, hpt, fun r q ⟨⟨l', u', x', s', y', c', e', e2, hm''⟩, t', e1, ht', _⟩ => ⟨l', u', x', 0, s', y', c', e', _, _, _, _, ⟨e1, e2⟩, ?_⟩⟩
    exact ⟨_, RepW.refl _, ⟨l', u', x', s', y', c', e', rfl, hm''⟩, .mk bs t'.kind t'.index t'.args, rfl, fun h => (h0 h).elim, Nat.le_refl _⟩
theorem thrP {B : Nat} (hB : B ≤ 1000000) : ∀ f, ThrP B f
 | 0 => thrP_zero hB
 | f + 1 => thrP_succ hB (thrP hB f)
theorem putP {B : Nat} (hB : B ≤ 1000000) (f : Nat) : PutP B f := putP_of hB (thrP hB f)
end Go.Proofs.YtghlgbhldnkdmaaGreat

namespace Go.Proofs.YtghlgbhldnkdmaaGreat
open Go
set_option linter.unusedSimpArgs false
set_option linter.unusedVariables false
def BindsOf : List Tm → List Ty → Prop
 | [], [] => True
 | t :: l, u :: us => t.binds = u.args ∧ BindsOf l us
 | _, _ => False
mutual
theorem long_formS {S : Nat} {c m : List Ty} (hS : S ≤ 1000) : ∀ (r : Rw) (st : Mt) (x : List Ty) (u : Ty), Rw.TypS S c m x r u → r.Ok → (Rw.long c m st x r).1.err = 0 →
  Form S st (Rw.long c m st x r).1 (Rw.long c m st x r).2 ∧ (Rw.long c m st x r).2.binds = u.args
 | .mk k t i l, st, x, u, hty, hk, he => by
  obtain ⟨hk1, hk2, hk3⟩ := hk
  rw [Rw.TypS] at hty
  obtain ⟨hu, hty⟩ := hty
  rw [Rw.long] at he ⊢
  split at he
  ·rename_i h; exact (h he).elim
  rename_i h
  rw [if_neg h]
  by_cases h3 : k = 3
  ·rw [if_pos h3] at he hty ⊢
   obtain ⟨ht, v, rfl, hl⟩ := hty
   obtain ⟨a, rfl, ha⟩ := typLS_one hl
   have hh := (lamL_to t _).ok he
   have ih := long_formsS hS [a] st (x ++ [t]) [v] hl hk3 hh
   have e : (Rw.longs c m st (x ++ [t]) [a]).2 = [(Rw.long c m st (x ++ [t]) a).2] := by rw [Rw.longs, Rw.longs]
   unfold lamL at he ⊢
   generalize (Rw.long c m st (x ++ [t]) a).2 = b at e
   generalize Rw.longs c m st (x ++ [t]) [a] = q at ih he hh e
   obtain ⟨qm, ql⟩ := q
   simp only at e
   subst e
   rw [if_neg (by simpa using hh)]
   obtain ⟨i1, i2, i3⟩ := ih
   obtain ⟨i4, _⟩ := i3
   have hlo := Tm.lo_eq.1 i2.1
   simp only [Tm.nodess] at i1
   rw [b.nodes_eq] at i1
   refine ⟨⟨?_, Tm.lo_eq.2 ⟨⟨?_, ?_⟩, hlo.2.1, ?_⟩⟩, ?_⟩
   ·show (Tm.mk _ _ _ b.args).nodes + st.count ≤ _
    rw [Tm.nodes]; omega
   ·show Ty.sizes (t :: b.binds) ≤ _
    rw [i4, Ty.sizes]
    rw [Ty.arrow, Ty.size, List.singleton_append, Ty.sizes] at hu
    omega
   ·exact hlo.1.2
   ·exact hlo.2.2
   ·show t :: b.binds = _
    rw [i4]; rfl
  ·rw [if_neg h3] at he hty ⊢
   by_cases h4 : k = 4
   ·rw [if_pos h4] at he hty ⊢
    obtain ⟨v, hl⟩ := hty
    obtain ⟨f, a, rfl, hf, ha⟩ := typLS_two hl
    have hh := (appL_to _).ok he
    obtain ⟨i1, i2, i3⟩ := long_formsS hS [f, a] st x _ hl hk3 hh
    have e : ∃ p q, (Rw.longs c m st x [f, a]).2 = [p, q] := ⟨_, _, by rw [Rw.longs, Rw.longs, Rw.longs]⟩
    obtain ⟨p, b, e⟩ := e
    unfold appL at he ⊢
    generalize Rw.longs c m st x [f, a] = q at i1 i2 i3 he hh e
    obtain ⟨qm, ql⟩ := q
    simp only at e
    subst e
    rw [if_neg (by simpa using hh)] at he ⊢
    have := putT_form (B := S) i2.1 (us := [b]) ⟨i2.2.1, True.intro⟩ he
    refine ⟨⟨?_, this.lo⟩, ?_⟩
    ·have hn : (putT 100001 qm p [b]).2.nodes + qm.count ≤ (putT 100001 qm p [b]).1.count := this.nodes
     show (putT 100001 qm p [b]).2.nodes + _ ≤ (putT 100001 qm p [b]).1.count
     simp only at i1
     omega
    ·show (putT 100001 qm p [b]).2.binds = u.args
     have he : (putT 100001 qm p [b]).1.err = 0 := he
     unfold putT at he ⊢
     split at he
     ·rename_i h; exact (h he).elim
     rename_i h
     rw [if_neg h]
     split at he
     ·cases he
     rename_i h2
     rw [if_neg h2]
     show p.binds.drop 1 = u.args
     rw [i3.1]; rfl
   ·rw [if_neg h4] at he hty ⊢
    obtain ⟨hh, rfl⟩ := hty
    unfold headL at he ⊢
    rw [hh] at he ⊢
    simp only [Option.getD_some] at he ⊢
    have hu' := Mt.units_ok u.size st
    split at he
    ·rename_i h5
     have := hu'.1.2 he
     rw [h5] at this; cases this
    ·rename_i h5
     rw [if_neg h5]
     have h5 : (st.units u.size).2 = true := by simpa using h5
     have := hu'.2 h5
     exact ⟨⟨by show (etaT k i u).nodes + st.count ≤ (Mt.units u.size st).1.count; rw [etaT_nodes]; omega, etaT_lo u k i hk1 hk2 hu (by omega)⟩, by rw [etaT_eq]; rfl⟩
theorem long_formsS {S : Nat} {c m : List Ty} (hS : S ≤ 1000) : ∀ (l : List Rw) (st : Mt) (x us : List Ty), Rw.TypLS S c m x l us → Rw.Oks l → (Rw.longs c m st x l).1.err = 0 →
  Tm.nodess (Rw.longs c m st x l).2 + st.count ≤ (Rw.longs c m st x l).1.count ∧ Tm.Los S (Rw.longs c m st x l).2 ∧ BindsOf (Rw.longs c m st x l).2 us
 | [], st, x, [], _, _, _ => ⟨by simp [Rw.longs, Tm.nodess], True.intro, True.intro⟩
 | r :: l, st, x, u :: us, hty, hk, he => by
  rw [Rw.longs] at he ⊢
  simp only at he ⊢
  have h1 := long_formS hS r st x u hty.1 hk.1 ((Rw.longs_to c m l _ x).ok he)
  have h2 := long_formsS hS l _ x us hty.2 hk.2 he
  have := h1.1.nodes
  exact ⟨by rw [Tm.nodess]; omega, ⟨h1.1.lo, h2.2.1⟩, h1.2, h2.2.2⟩
 | [], _, _, _ :: _, h, _, _ => h.elim
 | _ :: _, _, _, [], h, _, _ => h.elim
end
end Go.Proofs.YtghlgbhldnkdmaaGreat

namespace Go.Proofs.YtghlgbhldnkdmaaGreat
open Go
set_option linter.unusedSimpArgs false
set_option linter.unusedVariables false
theorem repw_tup2 {x y : AV} {n : Int} (h : RepW x y) : RepW (.tup [x, nI n]) (.tup [y, nI n]) := RepW.tup ⟨h, RepW.refl _, True.intro⟩
theorem ndone_calls {m : Mt} {t t' : Tm} {l u x s y c e : Int} (hm : MtOk m l u x y c e) (ht : m.err = 0 → t' = t) (h : m.err = 0 → t.size ≤ 500000000 ∧ t.Ok) :
  HFn Tryz.prog 86 [.ptr 1 0, .agg [.sl (t'.binds.map Ty.enc), nI t'.kind, nI t'.index, .sl (t'.args.map Tm.enc)]] (wrkO l u x s y c e)
   (fun r hp' => MtHp (doneT (m, t)).1 hp' ∧ r = .tup [.agg [.sl ((doneT (m, t)).2.binds.map Ty.enc), nI (doneT (m, t)).2.kind, nI (doneT (m, t)).2.index, .sl ((doneT (m, t)).2.args.map Tm.enc)], nI (doneT (m, t)).1.err]) := by
 have he := hm.err
 have zero : ∀ {m' : Mt} {n : Int} {hp' : List AObj}, MtHp m' hp' → m'.err = n → doneT (m, t) = (m', noTm) → ∃ r2, RepW (.tup [.agg [.prim (.slice none 0 0), nI 0, nI 0, .prim (.slice none 0 0)], nI n]) r2 ∧ (MtHp (doneT (m, t)).1 hp' ∧ r2 = .tup [.agg [.sl ((doneT (m, t)).2.binds.map Ty.enc), nI (doneT (m, t)).2.kind, nI (doneT (m, t)).2.index, .sl ((doneT (m, t)).2.args.map Tm.enc)], nI (doneT (m, t)).1.err]) := by
  intro m' n hp' h1 h2 h3
  rw [h3]
  exact ⟨_, repw_tup2 repw_noTm', h1, by rw [← h2]; rfl⟩
 refine HFn.repw (vc86_ok (ITE.intro (fun h0 => ?_) fun h0 => ?_))
 ·have he0 : e = 0 := by simpa using h0
  have hm0 : m.err = 0 := by rw [← he]; exact he0
  obtain ⟨hs, hk⟩ := h hm0
  rw [ht hm0]
  have hcp := copy_calls (t := t) (by omega) hk
  rw [Tm.enc_eq] at hcp
  refine ⟨_, tright_calls hs, ITE.intro (fun h1 => ?_) fun h1 => ?_⟩
  ·have h1 : trest 0 (t.pre 0 1) = false := by simpa using h1
   refine ⟨_, fail_calls 2, fun r q ⟨e1, e2⟩ => ⟨l, u, x, 0, s, y, c, _, ⟨e1, e2⟩, ?_⟩⟩
   rw [if_pos he0]
   refine ITE.pos rfl ?_
   exact zero (m' := ⟨m.left, m.count, 2⟩) ⟨l, u, x, s, y, c, 2, rfl, hm.failed c (by decide) (fun h => by simp at h)⟩ rfl (by unfold doneT; rw [if_neg (by simp [hm0]), if_neg (by rw [h1]; simp)])
  ·have h1 : trest 0 (t.pre 0 1) = true := by simpa using h1
   refine ITE.neg (by rw [he0]; rfl) ⟨_, _, _, _, hcp, ?_⟩
   have hd : doneT (m, t) = (m, t) := by unfold doneT; rw [if_neg (by simp [hm0]), if_pos h1]
   rw [hd]
   refine ⟨_, RepW.refl _, ⟨l, u, x, s, y, c, e, rfl, hm⟩, ?_⟩
   rw [hm0]
 ·have he0 : ¬ e = 0 := by simpa using h0
  have hm0 : m.err ≠ 0 := by rw [← he]; exact he0
  refine ITE.pos (by simp [he0]) ?_
  exact zero (m' := m) ⟨l, u, x, s, y, c, e, rfl, hm⟩ he.symm (by unfold doneT; rw [if_pos hm0])
theorem typ_head {c m x : List Ty} {k i : Int} {t u : Ty} {l : List Rw} (h3 : ¬ k = 3) (h4 : ¬ k = 4) (h : Rw.Typ c m x (.mk k t i l) u) : headTy c m x k i = some u := by
 rw [Rw.Typ, if_neg h3, if_neg h4] at h
 exact h.1
theorem typ_bound {c m x : List Ty} {i : Int} {u : Ty} (h : headTy c m x 0 i = some u) : 0 ≤ i ∧ i < x.length := by
 unfold headTy at h
 split at h
 ·cases h
 ·rw [if_pos rfl] at h
  split at h
  ·omega
  ·cases h
theorem nlong_calls {S : Nat} {b : Int} {c m : List Ty} (hc : ∀ t ∈ c, t.size ≤ S) (hm : ∀ t ∈ m, t.size ≤ S) (hS : S ≤ 1000) :
  ∀ (n : Nat) (r : Rw) (st : Mt) (x : List Ty) (ty : Ty) (l u d s y cn e : Int), r.total ≤ n → r.total ≤ 100000000 → Rw.TypS S c m x r ty → r.Ok → r.shaped = true → (∀ t ∈ x, t.size ≤ S) → x.length + r.depth ≤ 1000 → MtOk st l u d y cn e →
  HFn Tryz.prog 101 [.ptr 1 0, .agg [nI b, .sl (c.map Ty.enc), .sl (m.map Ty.enc)], .sl (x.map Ty.enc), .agg [nI r.kind, .sl (r.type.args.map Ty.enc), nI r.type.base, nI r.index, .sl (r.kids.map Rw.enc)]] (wrkO l u d s y cn e)
   (MtRes (S + r.total) (Rw.long c m st x r).1 (Rw.long c m st x r).2) := by
 intro n
 induction n with
 | zero => intro r st x ty l u d s y cn e h; have := r.total_pos; omega
 | succ n ih =>
  intro r st x ty l u d s y cn e hn hrS hty hok hsh hx hxl hmt
  have he := hmt.err
  have hrt := r.total_eq
  obtain ⟨k, t, i, kids⟩ := r
  simp only [Rw.kind_mk, Rw.type_mk, Rw.index_mk, Rw.kids_mk] at hrt ⊢
  have hdk : ∀ r ∈ kids, r.depth < (Rw.mk k t i kids).depth := fun r hr => Rw.kids_depth hr
  obtain ⟨hk1, hk2, hk3⟩ := hok
  refine HFn.repw (vc101_ok (ITE.intro (fun h => ?_) fun h => ?_))
  ·have h0 : ¬ e = 0 := by simpa using h
   have hm0 : st.err ≠ 0 := by rw [← he]; exact h0
   rw [Rw.long, if_pos hm0]
   exact noTm_res ⟨l, u, d, s, y, cn, e, rfl, hmt⟩ hm0
  have h0 : e = 0 := by simpa using h
  have hm0 : st.err = 0 := by rw [← he]; exact h0
  rw [Rw.long, if_neg (by simp [hm0])]
  refine ITE.intro (fun h => ?_) fun h => ?_
  ·have h3 : k = 3 := by simpa using h
   rw [if_pos h3]
   rw [Rw.TypS, if_pos h3] at hty
   obtain ⟨_, htS, v, hv, hty⟩ := hty
   obtain ⟨a, rfl, hta⟩ := typLS_one hty
   have hda := hdk a (by simp)
   have hsa : a.shaped = true := by
    rw [Rw.shaped_eq, Rw.kids_mk, show Rw.shapeds [a] = (a.shaped && Rw.shapeds []) from Rw.shapeds_drop (l := [a]) (k := 0) (by simp)] at hsh
    simp only [Bool.and_eq_true] at hsh
    exact hsh.2.1
   have hat : Rw.totals [a] = a.total := by simp [Rw.totals]
   have htz := t.size_pos
   rw [hat] at hrt
   have hi := ih a st (x ++ [t]) v l u d s y cn e (by omega) (by omega) hta hk3.1 hsa (fun w hw => (List.mem_append.1 hw).elim (hx w) fun h => by rw [List.mem_singleton.1 h]; exact htS) (by rw [List.length_append, List.length_singleton]; omega) hmt
   have hone : [AV.agg [.sl (t.args.map Ty.enc), nI t.base]] = [t].map Ty.enc := one_enc t
   rw [List.map_append, ← hone] at hi
   have hL : vc101_L5 (x.map Ty.enc) (t.args.map Ty.enc) t.base b (c.map Ty.enc) (m.map Ty.enc) a.kind (a.type.args.map Ty.enc) a.type.base a.index (a.kids.map Rw.enc) l u d 0 s y cn e (fun r hp' => ∃ r2, RepW r r2 ∧ MtRes (S + (Rw.mk k t i [a]).total) (lamL t (Rw.longs c m st (x ++ [t]) [a])).1 (lamL t (Rw.longs c m st (x ++ [t]) [a])).2 r2 hp') := by
    refine ⟨rfl, _, hi, fun r q ⟨⟨l', u', d', s', y', c', e', e2, hm'⟩, t', e1, ht', htl⟩ => ⟨l', u', d', 0, s', y', c', e', _, _, _, _, ⟨e1, e2⟩, ?_⟩⟩
    have hcc := concat_calls (ll := [[t], t'.binds]) (by simp) (by simp; omega)
    simp only [encRows, List.map_cons, List.map_nil, List.flatten_cons, List.flatten_nil, List.append_nil] at hcc
    rw [Ty.enc_eq] at hcc
    refine ⟨_, hcc, _, RepW.refl _, ?_⟩
    rw [Rw.longs, Rw.longs]
    have hb1 : (lamL t ((Rw.long c m st (x ++ [t]) a).1, [(Rw.long c m st (x ++ [t]) a).2])).1 = (Rw.long c m st (x ++ [t]) a).1 := by unfold lamL; split <;> rfl
    refine ⟨(by rw [hb1]; exact ⟨l', u', d', s', y', c', e', rfl, hm'⟩), .mk (t :: t'.binds) t'.kind t'.index t'.args, ?_, fun h0 => ?_, ?_⟩
    ·simp only [Tm.binds_mk, Tm.kind_mk, Tm.index_mk, Tm.args_mk, List.map_cons, Ty.enc_eq, List.singleton_append, List.cons_append, List.nil_append]
    ·simp only at h0 ⊢
     rw [hb1] at h0
     rw [ht' h0]
     unfold lamL
     rw [if_neg (by simp [h0])]
     rfl
    ·rw [Tm.binds_mk, List.length_cons, Rw.total, hat]; omega
   have hap : ∀ {dd : TD}, dd.size = 2 → dd.bytes ≤ 1000 → appOk dd (List.length (x.map Ty.enc ++ [.agg [.sl (t.args.map Ty.enc), nI t.base]])) (x.map Ty.enc) [.agg [.sl (t.args.map Ty.enc), nI t.base]] := fun hz hd =>
    appOk_mk (fun z hz' => by rw [hz]; exact Ty.enc_cells z hz') (fun z hz' => by simp at hz'; subst hz'; rw [hz]; rfl) (by simp; omega) hd
   refine ⟨_, clipT_calls, by omega, by simp, _, _, _, _, _, Rw.enc_getD (l := [a]) (k := 0) (by simp), ⟨fun h => by simp at h, hap rfl (by decide), hL, hL⟩, ⟨fun h => by simp at h, hap rfl (by decide), hL⟩⟩
  have h3 : ¬ k = 3 := by simpa using h
  rw [if_neg h3]
  refine ITE.intro (fun h => ?_) fun h => ?_
  ·have h4 : k = 4 := by simpa using h
   rw [if_pos h4]
   rw [Rw.TypS, if_neg h3, if_pos h4] at hty
   obtain ⟨_, v, hty⟩ := hty
   obtain ⟨f, a, rfl, htf, hta⟩ := typLS_two hty
   have hdf := hdk f (by simp)
   have hda := hdk a (by simp)
   have hsfa : f.shaped = true ∧ a.shaped = true := by
    rw [Rw.shaped_eq, Rw.kids_mk, show Rw.shapeds [f, a] = (f.shaped && Rw.shapeds [a]) from Rw.shapeds_drop (l := [f, a]) (k := 0) (by simp), show Rw.shapeds [a] = (a.shaped && Rw.shapeds []) from Rw.shapeds_drop (l := [a]) (k := 0) (by simp)] at hsh
    simp only [Bool.and_eq_true] at hsh
    exact ⟨hsh.2.1, hsh.2.2.1⟩
   have hat : Rw.totals [f, a] = f.total + a.total := by simp [Rw.totals]
   have htz := t.size_pos
   have hfp := f.total_pos
   have hap := a.total_pos
   rw [hat] at hrt
   have hf1 := ih f st x _ l u d s y cn e (by omega) (by omega) htf hk3.1 hsfa.1 hx (by omega) hmt
   have hto1 := Rw.long_to c m f st x
   have hff := fun h => (long_formS hS f st x _ htf hk3.1 h).1
   have hL : vc101_L9 b (c.map Ty.enc) (m.map Ty.enc) (x.map Ty.enc) f.kind (f.type.args.map Ty.enc) f.type.base f.index (f.kids.map Rw.enc) l u d 0 s y cn e ([f, a].map Rw.enc) (fun r hp' => ∃ r2, RepW r r2 ∧ MtRes (S + (Rw.mk k t i [f, a]).total) (appL (Rw.longs c m st x [f, a])).1 (appL (Rw.longs c m st x [f, a])).2 r2 hp') := by
    refine ⟨_, hf1, fun r q ⟨⟨l', u', d', s', y', c', e', e2, hm'⟩, tf, e1, htf', htfl⟩ => ⟨l', u', d', 0, s', y', c', e', _, _, _, _, ⟨e1, e2⟩, by omega, by simp, _, _, _, _, _, Rw.enc_getD (l := [f, a]) (k := 1) (by simp), ?_⟩⟩
    have ha1 := ih a (Rw.long c m st x f).1 x _ l' u' d' s' y' c' e' (by omega) (by omega) hta hk3.2.1 hsfa.2 hx (by omega) hm'
    have hto2 := Rw.long_to c m a (Rw.long c m st x f).1 x
    have haf := fun h => (long_formS hS a (Rw.long c m st x f).1 x _ hta hk3.2.1 h).1
    simp only [Rw.longs]
    have hL2 : vc101_L10 b (c.map Ty.enc) (m.map Ty.enc) (x.map Ty.enc) a.kind (a.type.args.map Ty.enc) a.type.base a.index (a.kids.map Rw.enc) l' u' d' 0 s' y' c' e'
      (fun r hp' => ∃ r2, RepW r r2 ∧ MtRes (S + (Rw.mk k t i [f, a]).total) (appL ((Rw.long c m (Rw.long c m st x f).1 x a).1, [(Rw.long c m st x f).2, (Rw.long c m (Rw.long c m st x f).1 x a).2])).1 (appL ((Rw.long c m (Rw.long c m st x f).1 x a).1, [(Rw.long c m st x f).2, (Rw.long c m (Rw.long c m st x f).1 x a).2])).2 r2 hp') (tf.binds.map Ty.enc) tf.kind tf.index (tf.args.map Tm.enc) := by
     refine ⟨_, ha1, fun r q ⟨⟨l2, u2, d2, s2, y2, c2, e2', e2, hm2⟩, ta, e1, hta', _⟩ => ⟨l2, u2, d2, 0, s2, y2, c2, e2', _, _, _, _, ⟨e1, e2⟩, ?_⟩⟩
     have he2 := hm2.err
     generalize hm3 : (Rw.long c m (Rw.long c m st x f).1 x a).1 = M at *
     refine ITE.intro (fun h => ?_) fun h => ?_
     ·have h5 : ¬ e2' = 0 := by simpa using h
      have hM : M.err ≠ 0 := by rw [← he2]; exact h5
      have : appL (M, [(Rw.long c m st x f).2, (Rw.long c m (Rw.long c m st x f).1 x a).2]) = (M, noTm) := by unfold appL; rw [if_pos hM]
      rw [this]
      exact noTm_res ⟨l2, u2, d2, s2, y2, c2, e2', rfl, hm2⟩ hM
     ·have h5 : e2' = 0 := by simpa using h
      have hM : M.err = 0 := by rw [← he2]; exact h5
      have hF := hto2.ok hM
      have hff := hff hF
      have haf := haf hM
      have htf' := htf' hF
      have hta' := hta' hM
      generalize (Rw.long c m (Rw.long c m st x f).1 x a).2 = TA at haf hta' ⊢
      generalize (Rw.long c m st x f).2 = TF at hff htf' ⊢
      subst htf'; subst hta'
      have : appL (M, [tf, ta]) = putT 100001 M tf [ta] := by unfold appL; rw [if_neg (by simp [hM])]; rfl
      rw [this]
      have hq := hff.nodes
      have hq2 := haf.nodes
      have hp := putP (B := 2 * S) (by omega) 100001 M tf [ta] l2 u2 d2 s2 y2 c2 e2' hm2 (fun _ => by omega) (Tm.lo_mono (by omega) hff.lo) (fun _ => ⟨⟨Tm.lo_mono (by omega) haf.lo, True.intro⟩, fun t ht => by
       rw [List.mem_singleton.1 ht]
       have := hm2.most
       omega⟩) (by omega)
      have hone : AV.clip [.agg [.sl (ta.binds.map Ty.enc), nI ta.kind, nI ta.index, .sl (ta.args.map Tm.enc)]] = .clip ([ta].map Tm.enc) := by rw [List.map_cons, List.map_nil, Tm.enc_eq]
      refine ⟨_, HFn.args (by rw [hone]; exact ⟨RepW.refl _, RepW.refl _, repw_clip _, True.intro⟩) hp, fun r q ⟨⟨l3, u3, d3, s3, y3, c3, e3', e2, hm3⟩, tp, e1, htp, htpl⟩ => ⟨l3, u3, d3, 0, s3, y3, c3, e3', _, _, _, _, ⟨e1, e2⟩, _, RepW.refl _, ⟨l3, u3, d3, s3, y3, c3, e3', rfl, hm3⟩, tp, rfl, htp, ?_⟩⟩
      rw [Rw.total, hat]; omega
    exact ⟨hL2, hL2⟩
   exact ⟨by omega, by simp, _, _, _, _, _, Rw.enc_getD (l := [f, a]) (k := 0) (by simp), hL, hL⟩
  ·have h4 : ¬ k = 4 := by simpa using h
   rw [if_neg h4]
   have hh := typ_head h3 h4 hty.typ
   have hsz : ty.size ≤ S := (headTy_mem hh).elim (hx _) fun h => h.elim (hc _) (hm _)
   have hht := HeadType_calls (b := b) (c := c) (m := m) (x := x) (k := k) hk2 (by omega) (fun t ht => by rw [hh] at ht; obtain rfl := Option.some.inj ht; omega)
   rw [hh] at hht
   have heta := pEta_calls ty.size ty k i (Nat.le_refl _) (by omega) (fun h => by subst h; have := typ_bound hh; omega)
   rw [Ty.enc_eq, Tm.enc_eq] at heta
   refine ⟨_, _, _, hht, _, ksize_calls (t := ty) (by omega), _, unit_calls ty.size (by omega) hmt, fun r q ⟨e1, l', u', d', s', y', c', e', e2, hm'⟩ => ⟨l', u', d', 0, s', y', c', e', _, ⟨e1, e2⟩, ?_⟩⟩
   unfold headL
   rw [hh, Option.getD_some]
   have hu := Mt.units_ok ty.size st
   refine ITE.intro (fun h => ?_) fun h => ?_
   ·have h5 : (st.units ty.size).2 = false := by simpa using h
    rw [if_pos h5]
    exact noTm_res ⟨l', u', d', s', y', c', e', rfl, hm'⟩ (fun h => by have := hu.1.2 h; rw [h5] at this; cases this)
   ·have h5 : (st.units ty.size).2 = true := by simpa using h
    rw [if_neg (by rw [h5]; simp)]
    refine ⟨_, _, _, _, heta, _, RepW.refl _, ⟨l', u', d', s', y', c', e', rfl, hm'⟩, etaT k i ty, rfl, fun _ => rfl, ?_⟩
    rw [etaT_eq, Tm.binds_mk]
    have := Ty.sizes_len ty.args
    have := ty.size_eq
    omega
end Go.Proofs.YtghlgbhldnkdmaaGreat

namespace Go.Proofs.YtghlgbhldnkdmaaGreat
open Go
set_option linter.unusedSimpArgs false
set_option linter.unusedVariables false
theorem nright1_calls {b : Int} {c m : List Ty} {t : Ty} (h : t.size ≤ 500000000) : PureIs Tryz.prog 125 [.agg [.sl (t.args.map Ty.enc), nI t.base], .eptr (.agg [nI b, .sl (c.map Ty.enc), .sl (m.map Ty.enc)]) 0] (nB (!(t.rightB b))) :=
 vc125_ok ⟨_, kright_calls h, rfl⟩
theorem indexN_calls {b : Int} {c m l : List Ty} (h : Ty.sizes l ≤ 500000000) : PureIs Tryz.prog 118 [.sl (l.map Ty.enc), .clo 125 [.eptr (.agg [nI b, .sl (c.map Ty.enc), .sl (m.map Ty.enc)]) 0]] (nI (firstBad b 0 l)) := by
 have hl := Ty.sizes_len l
 refine vc_indexN_ok ⟨rfl, ?_⟩
 refine LoopP.intro (fun k : Nat => ((l.map Ty.enc, ((), ()), (l.length : Int), (k : Int), ()), ())) (fun k => k ≤ l.length ∧ firstBad b 0 l = firstBad b k (l.drop k)) (fun k => l.length - k) 0 (by rw [List.length_map]; rfl) ⟨Nat.zero_le _, rfl⟩ ?_
 intro k ⟨hk, hs⟩ again hag
 dsimp only
 rw [List.length_map]
 refine ITE.intro (fun h => ?_) fun h => ?_
 ·have hlt : k < l.length := by simpa using h
  rw [List.drop_eq_getElem_cons hlt, firstBad] at hs
  refine ⟨by omega, by omega, _, _, Ty.enc_getD hlt, _, nright1_calls (by have := Ty.sizes_mem (List.getElem_mem hlt); omega), ITE.intro (fun h => ?_) fun h => ⟨rfl, ?_⟩⟩
  ·rw [hs, if_neg (by simpa using h)]
  ·rw [if_pos (by simpa using h)] at hs
   rw [wrap_n (by omega)]
   exact hag (k + 1) ⟨by omega, hs⟩ (by omega)
 ·have : l.length ≤ k := by simpa using h
  rw [List.drop_eq_nil_of_le this] at hs
  rw [hs]; rfl
def rightCtx (b : Int) (c m x : List Ty) : Bool := (!(decide (firstBad b 0 (c ++ m) ≥ 0))) && (decide (x.length ≤ 900) && !(decide (firstBad b 0 x ≥ 0)))
theorem nright_calls {b : Int} {c m x : List Ty} (hc : c.length ≤ 500) (hm : m.length ≤ 500) (h : Ty.sizes (c ++ m) ≤ 500000000) (hx : Ty.sizes x ≤ 500000000) :
  PureIs Tryz.prog 93 [.agg [nI b, .sl (c.map Ty.enc), .sl (m.map Ty.enc)], .sl (x.map Ty.enc)] (nB (rightCtx b c m x)) := by
 refine vc93_ok ⟨_, rightWorld_calls hc hm h, ITE.intro (fun h1 => ?_) fun h1 => ?_⟩
 ·refine ITE.intro (fun h2 => ⟨_, vc_containsN_ok ⟨_, indexN_calls hx, rfl⟩, ?_⟩) fun h2 => ?_
  ·rw [rightCtx, h1, Bool.true_and, decide_eq_true (by have := of_decide_eq_true h2; rw [List.length_map] at this; omega), Bool.true_and]
  ·rw [rightCtx, h1, Bool.true_and, decide_eq_false (by have := of_decide_eq_false h2; rw [List.length_map] at this; omega), Bool.false_and]
 ·rw [rightCtx, h1, Bool.false_and]
def Rw.inf (b : Int) (c m x : List Ty) (r : Rw) : Ty × Int := if r.rightB = true then r.infer b c m x else (noT, 1)
def longR (b : Int) (c m x : List Ty) (r : Rw) (left : Nat) : Mt × Tm :=
 if rightCtx b c m x = false then (⟨left, 0, 1⟩, noTm) else if (r.inf b c m x).2 ≠ 0 then (⟨left, 0, (r.inf b c m x).2⟩, noTm) else doneT (Rw.long c m ⟨left, 0, 0⟩ x r)
mutual
theorem Rw.infer_ne (b : Int) (c m : List Ty) : ∀ (r : Rw) (x : List Ty), (r.infer b c m x).2 ≠ 11
 | .mk k t i l, x => by
  rw [Rw.infer]
  split
  ·split
   ·have := Rw.infers_ne b c m l (x ++ [t])
    generalize Rw.infers b c m (x ++ [t]) l = q at this
    unfold lamRes
    split
    ·rename_i p l'
     have hp := this p List.mem_cons_self
     (repeat' split) <;> first | assumption | (simp; done)
    ·decide
   ·decide
  ·split
   ·have := Rw.infers_ne b c m l x
    generalize Rw.infers b c m x l = q at this
    unfold appRes
    split
    ·rename_i p q l'
     have hp := this p List.mem_cons_self
     have hq := this q (List.mem_cons_of_mem _ List.mem_cons_self)
     (repeat' split) <;> first | assumption | (simp; done)
    ·decide
   ·unfold headRes
    (repeat' split) <;> simp
theorem Rw.infers_ne (b : Int) (c m : List Ty) : ∀ (l : List Rw) (x : List Ty), ∀ p ∈ Rw.infers b c m x l, p.2 ≠ 11
 | [], x, p, hp => by simp [Rw.infers] at hp
 | r :: l, x, p, hp => by
  rw [Rw.infers] at hp
  rcases List.mem_cons.1 hp with rfl | hp
  ·exact Rw.infer_ne b c m r x
  ·exact Rw.infers_ne b c m l x p hp
end
structure NormIn (S : Nat) (c m x : List Ty) (r : Rw) : Prop where
 s : S ≤ 1000
 hc : ∀ t ∈ c, t.size ≤ S
 hm : ∀ t ∈ m, t.size ≤ S
 hx : ∀ t ∈ x, t.size ≤ S
 cl : c.length ≤ 100
 ml : m.length ≤ 100
 xl : x.length + r.total ≤ 1000
 hr : r.total ≤ S
 ok : r.Ok
theorem sizes_le_mul {S : Nat} : ∀ {l : List Ty}, (∀ t ∈ l, t.size ≤ S) → Ty.sizes l ≤ l.length * S
 | [], _ => by simp [Ty.sizes]
 | t :: l, h => by
  have h1 := h t List.mem_cons_self
  have h2 := sizes_le_mul fun u hu => h u (List.mem_cons_of_mem t hu)
  rw [Ty.sizes, List.length_cons, Nat.add_mul]; omega
structure NormOk (c m x : List Ty) (r : Rw) : Prop where
 hc : ∀ t ∈ c, t.size ≤ 1000
 hm : ∀ t ∈ m, t.size ≤ 1000
 hx : ∀ t ∈ x, t.size ≤ 1000
 cl : c.length ≤ 100
 ml : m.length ≤ 100
 xl : x.length ≤ 1000
 hr : r.total ≤ 90000000
 ok : r.Ok
theorem NormIn.nok {S : Nat} {c m x : List Ty} {r : Rw} (h : NormIn S c m x r) : NormOk c m x r :=
 ⟨fun t ht => by have := h.hc t ht; have := h.s; omega, fun t ht => by have := h.hm t ht; have := h.s; omega, fun t ht => by have := h.hx t ht; have := h.s; omega, h.cl, h.ml, by have := h.xl; omega, by have := h.xl; omega, h.ok⟩
theorem NormOk.sizes {c m x : List Ty} {r : Rw} (h : NormOk c m x r) : Ty.sizes (c ++ m) ≤ 500000000 ∧ Ty.sizes x ≤ 300000000 := by
 have h1 := sizes_le_mul h.hc
 have h2 := sizes_le_mul h.hm
 have h3 := sizes_le_mul h.hx
 have h4 := Nat.mul_le_mul_right 1000 h.cl
 have h5 := Nat.mul_le_mul_right 1000 h.ml
 have h6 := Nat.mul_le_mul_right 1000 h.xl
 rw [Ty.sizes_append]
 exact ⟨by omega, by omega⟩
theorem repw_tup3 {x y : AV} {n k : Int} (h : RepW x y) : RepW (.tup [x, nI n, nI k]) (.tup [y, nI n, nI k]) := RepW.tup ⟨h, RepW.refl _, RepW.refl _, True.intro⟩
def Found (L : Mt × Tm) (r : AV) (hp' : List AObj) : Prop := ∃ (cnt l u d s y : Int), hp' = [.box (budC l u d 0 s y)] ∧ BudOk L.1.left l u d y ∧ (L.1.err = 11 → y ≠ 0) ∧ (L.1.err = 0 → cnt = L.1.count) ∧
 r = .tup [.agg [.sl (L.2.binds.map Ty.enc), nI L.2.kind, nI L.2.index, .sl (L.2.args.map Tm.enc)], nI cnt, nI L.1.err]
theorem inf_infer {b : Int} {c m x : List Ty} {r : Rw} (hin : NormOk c m x r) : PureIs Tryz.prog 43 [.agg [nI b, .sl (c.map Ty.enc), .sl (m.map Ty.enc)], .sl (x.map Ty.enc), r.enc] (encTE (r.inf b c m x)) :=
 Infer_calls (b := b) (fun t ht => by have := hin.hc t ht; omega) (fun t ht => by have := hin.hm t ht; omega) hin.ok (by have := hin.sizes; have := hin.hr; omega)
theorem found_calls {b : Int} {c m x : List Ty} {r : Rw} {left : Nat} {l u d s y : Int} (hin : NormOk c m x r) (hb : BudOk left l u d y) :
  HFn Tryz.prog 51 [.agg [nI b, .sl (c.map Ty.enc), .sl (m.map Ty.enc)], .sl (x.map Ty.enc), .agg [nI r.kind, .sl (r.type.args.map Ty.enc), nI r.type.base, nI r.index, .sl (r.kids.map Rw.enc)], .ptr 0 0] [.box (budC l u d 0 s y)] (Found (longR b c m x r left)) := by
 have hsz := hin.sizes
 have hi := inf_infer (b := b) hin
 rw [Rw.enc_eq] at hi
 have zero : ∀ (e : Int), e ≠ 0 → e ≠ 11 → longR b c m x r left = (⟨left, 0, e⟩, noTm) → ∃ r2, RepW (.tup [.agg [.prim (.slice none 0 0), nI 0, nI 0, .prim (.slice none 0 0)], nI 0, nI e]) r2 ∧ Found (longR b c m x r left) r2 [.box (budC l u d 0 s y)] := by
  intro e he he2 h
  rw [h]
  exact ⟨_, repw_tup3 repw_noTm', 0, l, u, d, s, y, rfl, hb, fun h => (he2 h).elim, fun h => (he h).elim, rfl⟩
 refine HFn.repw (vc51_ok ⟨_, nright_calls (by have := hin.cl; omega) (by have := hin.ml; omega) hsz.1 (by omega), ITE.intro (fun h => ?_) fun h => ?_⟩)
 ·have h : rightCtx b c m x = false := by simpa using h
  exact zero 1 (by decide) (by decide) (by unfold longR; rw [if_pos h])
 have h1 : rightCtx b c m x = true := by simpa using h
 have hL : longR b c m x r left = if (r.inf b c m x).2 ≠ 0 then (⟨left, 0, (r.inf b c m x).2⟩, noTm) else doneT (Rw.long c m ⟨left, 0, 0⟩ x r) := by unfold longR; rw [if_neg (by rw [h1]; simp)]
 refine ⟨_, _, _, hi, ITE.intro (fun h => ?_) fun h => ?_⟩
 ·have h2 : (r.inf b c m x).2 ≠ 0 := by simpa using h
  refine zero _ h2 ?_ (by rw [hL, if_pos h2])
  unfold Rw.inf
  split
  ·exact Rw.infer_ne b c m r x
  ·decide
 have h2 : (r.inf b c m x).2 = 0 := by simpa using h
 rw [hL, if_neg (by simp [h2])]
 have hrb : r.rightB = true := by
  cases hrb : r.rightB with
  | true => rfl
  | false => rw [Rw.inf, hrb] at h2; simp at h2
 have hsh : r.shaped = true := by rw [Rw.rightB, Bool.and_eq_true] at hrb; exact hrb.1
 have hty : Rw.TypS 1000 c m x r (r.infer b c m x).1 := infer_typS b c m r x _ hsh (by
  rw [Rw.inf, if_pos hrb] at h2
  rw [← h2])
 have hmt : MtOk ⟨left, 0, 0⟩ l u d y 0 0 := ⟨hb, rfl, Nat.zero_le _, fun _ => rfl, fun h => by simp at h⟩
 have hdep : r.depth ≤ 60 := by rw [Rw.rightB, Bool.and_eq_true, Bool.and_eq_true, decide_eq_true_eq, decide_eq_true_eq] at hrb; exact hrb.2.2
 have hx9 : x.length ≤ 900 := by unfold rightCtx at h1; simp only [Bool.and_eq_true, decide_eq_true_eq] at h1; exact h1.2.1
 have hlong := nlong_calls (b := b) hin.hc hin.hm (Nat.le_refl _) _ r ⟨left, 0, 0⟩ x _ l u d s y 0 0 (Nat.le_refl _) (by have := hin.hr; omega) hty hin.ok hsh hin.hx (by omega) hmt
 have hform := fun h => (long_formS (Nat.le_refl _) r ⟨left, 0, 0⟩ x _ hty hin.ok h).1
 generalize Rw.long c m ⟨left, 0, 0⟩ x r = Q at hlong hform
 refine ⟨_, hlong, fun r1 q ⟨⟨l1, u1, d1, s1, y1, c1, e1', e2, hm1⟩, t1, e1, ht1, _⟩ => ⟨l1, u1, d1, 0, s1, y1, c1, e1', _, _, _, _, ⟨e1, e2⟩, ?_⟩⟩
 have hdone := ndone_calls (s := s1) hm1 ht1 (fun h0 => by
  have hf := hform h0
  have hn := hf.nodes
  have hmost := hm1.most
  have hs := Tm.lo_size hf.lo
  have : Q.2.nodes * (1 + 1000) ≤ 100000 * 1001 := Nat.mul_le_mul (by omega) (by omega)
  exact ⟨by omega, Tm.lo_ok hf.lo⟩)
 rw [show (Q.1, Q.2) = Q from rfl] at hdone
 refine ⟨_, hdone, fun r2 q ⟨⟨l2, u2, d2, s2, y2, c2, e2', e2, hm2⟩, e1⟩ => ⟨l2, u2, d2, 0, s2, y2, c2, e2', _, _, _, _, _, ⟨e1, e2⟩, ?_⟩⟩
 exact ⟨_, RepW.refl _, c2, l2, u2, d2, s2, y2, rfl, hm2.bud, hm2.fuel, hm2.count, rfl⟩
def FoundL (L : Mt × Tm) (r : AV) (hp' : List AObj) : Prop := ∃ l u d s y, hp' = [.box (budC l u d 0 s y)] ∧ BudOk L.1.left l u d y ∧ (L.1.err = 11 → y ≠ 0) ∧
 r = .tup [.agg [.sl (L.2.binds.map Ty.enc), nI L.2.kind, nI L.2.index, .sl (L.2.args.map Tm.enc)], nI L.1.err]
theorem nLong_calls {b : Int} {c m x : List Ty} {r : Rw} {left : Nat} {l u d s y : Int} (hin : NormOk c m x r) (hb : BudOk left l u d y) :
  HFn Tryz.prog 15 [.agg [nI b, .sl (c.map Ty.enc), .sl (m.map Ty.enc)], .sl (x.map Ty.enc), .agg [nI r.kind, .sl (r.type.args.map Ty.enc), nI r.type.base, nI r.index, .sl (r.kids.map Rw.enc)], .ptr 0 0] [.box (budC l u d 0 s y)] (FoundL (longR b c m x r left)) :=
 vc15_ok ⟨_, found_calls hin hb, fun r1 q ⟨cnt, l1, u1, d1, s1, y1, e2, hb1, hf, hc, e1⟩ => ⟨l1, u1, d1, 0, s1, y1, _, _, _, _, _, _, ⟨e1, e2⟩, l1, u1, d1, s1, y1, rfl, hb1, hf, rfl⟩⟩
theorem bud_fresh {n : Nat} (hn : n ≤ 1000000) : HFn Tryz.prog 36 [nI n] [] (fun r hp' => r = .ptr 0 0 ∧ hp' = [.box (budC n 0 0 0 0 0)]) :=
 (bud_new n []).mono fun r hp' ⟨e1, e2⟩ => ⟨e1, by rw [e2, if_neg (by omega)]; rfl⟩
theorem budOk_fresh {n : Nat} (hn : n ≤ 1000000) : BudOk n n 0 0 0 := ⟨rfl, by decide, by omega, Iff.rfl, fun h => (h rfl).elim⟩
def encTmE (t : Tm) (e : Int) : AV := .tup [.agg [.sl (t.binds.map Ty.enc), nI t.kind, nI t.index, .sl (t.args.map Tm.enc)], nI e]
theorem nOf_calls {b : Int} {c m x : List Ty} {r : Rw} (hin : NormOk c m x r) :
  PureIs Tryz.prog 24 [.agg [nI b, .sl (c.map Ty.enc), .sl (m.map Ty.enc)], .sl (x.map Ty.enc), .agg [nI r.kind, .sl (r.type.args.map Ty.enc), nI r.type.base, nI r.index, .sl (r.kids.map Rw.enc)]] (encTmE (longR b c m x r 100000).2 (longR b c m x r 100000).1.err) :=
 vc24_ok ⟨_, bud_fresh (n := 100000) (by omega), fun r1 q ⟨e1, e2⟩ => ⟨_, _, _, _, _, _, ⟨e1, e2⟩, _, nLong_calls hin (budOk_fresh (by omega)), fun r2 q2 ⟨l1, u1, d1, s1, y1, e2, hb1, hf, e1⟩ => ⟨l1, u1, d1, 0, s1, y1, _, _, _, _, _, ⟨e1, e2⟩, rfl⟩⟩⟩
def costR (L : Mt × Tm) : Nat := if L.1.err ≠ 0 then 0 else L.1.count
theorem nCost_calls {b : Int} {c m x : List Ty} {r : Rw} (hin : NormOk c m x r) :
  PureIs Tryz.prog 25 [.agg [nI b, .sl (c.map Ty.enc), .sl (m.map Ty.enc)], .sl (x.map Ty.enc), .agg [nI r.kind, .sl (r.type.args.map Ty.enc), nI r.type.base, nI r.index, .sl (r.kids.map Rw.enc)]] (.tup [nI (costR (longR b c m x r 100000)), nI (longR b c m x r 100000).1.err]) := by
 have key : ∀ (r2 : AV) (q2 : List AObj), Found (longR b c m x r 100000) r2 q2 → ∃ (i68 i69 i70 i71 i72 i73 : Int) (l74 : List AV) (i75 i76 : Int) (l77 : List AV) (i78 i79 : Int),
   (r2 = .tup [.agg [.sl l74, nI i75, nI i76, .sl l77], nI i78, nI i79] ∧ q2 = [.box [nI i68, nI i69, .prim (.int .u32 i70), .prim (.int .i32 i71), .prim (.int .u32 i72), .prim (.int .u32 i73)]]) ∧
   ITE (i79 != 0) ((fun x' => x' = AV.tup [nI (costR (longR b c m x r 100000)), nI (longR b c m x r 100000).1.err]) (.tup [nI 0, nI i79])) ((fun x' => x' = AV.tup [nI (costR (longR b c m x r 100000)), nI (longR b c m x r 100000).1.err]) (.tup [nI i78, nI 0])) := by
  intro r2 q2 ⟨cnt, l1, u1, d1, s1, y1, e2, hb1, hf, hc, e1⟩
  refine ⟨l1, u1, d1, 0, s1, y1, _, _, _, _, _, _, ⟨e1, e2⟩, ITE.intro (fun h => ?_) fun h => ?_⟩
  ·have h0 : (longR b c m x r 100000).1.err ≠ 0 := by simpa using h
   simp only [costR, if_pos h0]; rfl
  ·have h0 : (longR b c m x r 100000).1.err = 0 := by simpa using h
   rw [hc h0]
   simp only [costR, h0, ne_eq, not_true_eq_false, if_false]
 have hfd := found_calls (s := 0) (b := b) (left := 100000) hin (budOk_fresh (n := 100000) (by omega))
 refine vc25_ok ⟨⟨_, bud_fresh (n := 100000) (by omega), fun r1 q ⟨e1, e2⟩ => ⟨_, _, _, _, _, _, ⟨e1, e2⟩, ⟨_, hfd, key⟩, ⟨_, hfd, key⟩⟩⟩, ⟨_, bud_fresh (n := 100000) (by omega), fun r1 q ⟨e1, e2⟩ => ⟨_, _, _, _, _, _, ⟨e1, e2⟩, ⟨_, hfd, key⟩⟩⟩⟩
end Go.Proofs.YtghlgbhldnkdmaaGreat

namespace Go.Proofs.YtghlgbhldnkdmaaGreat
open Go
set_option linter.unusedSimpArgs false
set_option linter.unusedVariables false
mutual
def Rw.lae (c m : List Ty) : List Ty → Rw → La
 | x, .mk k t i l => if k = 3 then .lam t ((Rw.laes c m (x ++ [t]) l).getD 0 (.var 0)) else if k = 4 then .app ((Rw.laes c m x l).getD 0 (.var 0)) ((Rw.laes c m x l).getD 1 (.var 0)) else etaL ((headTy c m x k i).getD noT) (hdL k i)
def Rw.laes (c m : List Ty) : List Ty → List Rw → List La
 | _, [] => []
 | x, r :: l => Rw.lae c m x r :: Rw.laes c m x l
end
mutual
theorem long_is {S : Nat} {c m : List Ty} (hS : S ≤ 1000) : ∀ (r : Rw) (st : Mt) (x : List Ty) (u : Ty), r.Ok → st.count ≤ 100000 → x.length + r.depth ≤ 1000000 → Rw.TypS S c m x r u →
  ((Rw.long c m st x r).1.err = 0 → (Rw.long c m st x r).2.Is c m x u ∧ Conv (Rw.lae c m x r) (Rw.long c m st x r).2.la) ∧ ((Rw.long c m st x r).1.err = 1 → st.err = 1)
 | .mk k t i l, st, x, u, hk, hst, hxr, hty => by
  have hdk : ∀ r ∈ l, r.depth < (Rw.mk k t i l).depth := fun r hr => Rw.kids_depth hr
  obtain ⟨hk1, hk2, hk3⟩ := hk
  rw [Rw.TypS] at hty
  obtain ⟨hus, hty⟩ := hty
  rw [Rw.long, Rw.lae]
  split
  ·rename_i h; exact ⟨fun he => (h he).elim, fun he => he⟩
  by_cases h3 : k = 3
  ·rw [if_pos h3] at hty ⊢
   rw [if_pos h3]
   obtain ⟨htS, v, rfl, hl⟩ := hty
   obtain ⟨a, rfl, ha⟩ := typLS_one hl
   have ih := longs_is hS [a] st (x ++ [t]) [v] hk3 hst (fun r hr => by have := hdk r hr; rw [List.length_append, List.length_singleton]; omega) hl
   unfold lamL
   have e : (Rw.longs c m st (x ++ [t]) [a]).2 = [(Rw.long c m st (x ++ [t]) a).2] := by rw [Rw.longs, Rw.longs]
   generalize (Rw.long c m st (x ++ [t]) a).2 = b at e
   generalize Rw.longs c m st (x ++ [t]) [a] = q at ih e ⊢
   obtain ⟨qm, ql⟩ := q
   simp only at e
   subst e
   split
   ·rename_i h; exact ⟨fun he => (h he).elim, ih.2⟩
   refine ⟨fun he => ?_, ih.2⟩
   obtain ⟨⟨i1, _⟩, i2⟩ := ih.1 he
   cases i2 with
   | cons i2 _ =>
    obtain ⟨b1, w, b2, b3, b4⟩ := Tm.is_eq.1 i1
    rw [List.append_assoc] at b2 b4
    refine ⟨⟨by rw [show ([b].getD 0 noTm) = b from rfl, b1]; rfl, w, b2, b3, b4⟩, ?_⟩
    rw [Rw.laes, Rw.laes]
    show Conv (.lam t (Rw.lae c m (x ++ [t]) a)) (Tm.mk (t :: b.binds) b.kind b.index b.args).la
    rw [Tm.la, lams_cons]
    refine .lam (i2.trans (.of_eq ?_))
    rw [Tm.la_eq, Tm.las_eq]
  rw [if_neg h3] at hty ⊢
  rw [if_neg h3]
  by_cases h4 : k = 4
  ·rw [if_pos h4] at hty ⊢
   rw [if_pos h4]
   obtain ⟨v, hl⟩ := hty
   obtain ⟨f, a, rfl, hf, ha⟩ := typLS_two hl
   have ih := longs_is hS [f, a] st x [.mk (v :: u.args) u.base, v] hk3 hst (fun r hr => by have := hdk r hr; omega) hl
   have hform := long_formsS hS [f, a] st x [.mk (v :: u.args) u.base, v] hl hk3
   have hto := Rw.longs_to c m [f, a] st x
   unfold appL
   have e : ∃ p q, (Rw.longs c m st x [f, a]).2 = [p, q] := ⟨_, _, by rw [Rw.longs, Rw.longs, Rw.longs]⟩
   obtain ⟨p, b, e⟩ := e
   generalize Rw.longs c m st x [f, a] = q at ih e hform hto ⊢
   obtain ⟨qm, ql⟩ := q
   simp only at e
   subst e
   split
   ·rename_i h; exact ⟨fun he => (h he).elim, ih.2⟩
   rename_i h
   have h : qm.err = 0 := by simpa using h
   obtain ⟨⟨i1, i2, _⟩, i3⟩ := ih.1 h
   obtain ⟨j1, ⟨j2, j3, _⟩, _⟩ := hform h
   have hmost := hto.most hst
   simp only [Tm.nodess] at j1 hmost j2 j3
   have hmul : S * 100001 ≤ 1000000 * 100001 := Nat.mul_le_mul_right _ (by omega)
   have hput := put_is (B := S) (by omega) (c := c) (m := m) (f := 100001) (mt := qm) (t := p) (us := [b]) (z := x) (of := .mk (v :: u.args) u.base) hmost j2 ⟨j3, True.intro⟩ (fun t ht => by rw [List.mem_singleton.1 ht]; omega) i1 (by show 1 ≤ (v :: u.args).length; simp) ⟨i2, True.intro⟩ (by omega)
   refine ⟨fun he => ?_, fun he => ?_⟩
   ·have hconv := put_conv (B := S) (by omega) (f := 100001) (m := qm) (t := p) (us := [b]) (G := x.length) hmost j2 ⟨j3, True.intro⟩ (fun t ht => by rw [List.mem_singleton.1 ht]; omega) (is_sc _ _ _ i1) ⟨is_sc _ _ _ i2, True.intro⟩ (by omega) he
    refine ⟨?_, ?_⟩
    ·have := hput.1 he
     rw [show (Ty.mk (v :: u.args) u.base).args.drop [b].length = u.args from rfl, show (Ty.mk (v :: u.args) u.base).base = u.base from rfl, Ty.eta] at this
     exact this
    ·rw [Rw.laes, Rw.laes, Rw.laes]
     cases i3 with
     | cons c1 i3 =>
      cases i3 with
      | cons c2 _ => exact (Conv.app c1 c2).trans hconv.1
   ·have := hput.2 he
    rw [h] at this; cases this
  rw [if_neg h4] at hty ⊢
  rw [if_neg h4]
  obtain ⟨hh, rfl⟩ := hty
  have hxl : x.length ≤ 1000000 := by omega
  unfold headL
  rw [hh]
  simp only [Option.getD_some]
  have hu := Mt.units_ok u.size st
  split
  ·rename_i h5
   exact ⟨fun he => (by rw [hu.1.2 he] at h5; cases h5), fun he => units_err _ he⟩
  ·refine ⟨fun _ => ⟨etaT_is u x k i hh (by omega), ?_⟩, fun he => units_err _ he⟩
   refine .of_eq (etaT_la u k i (fun hk => ?_) (by omega)).symm
   subst hk
   have := headTy_var hh
   omega
theorem longs_is {S : Nat} {c m : List Ty} (hS : S ≤ 1000) : ∀ (l : List Rw) (st : Mt) (x us : List Ty), Rw.Oks l → st.count ≤ 100000 → (∀ r ∈ l, x.length + r.depth ≤ 1000000) → Rw.TypLS S c m x l us →
  ((Rw.longs c m st x l).1.err = 0 → Tm.IsL c m x (Rw.longs c m st x l).2 us ∧ ConvL (Rw.laes c m x l) (Tm.las (Rw.longs c m st x l).2)) ∧ ((Rw.longs c m st x l).1.err = 1 → st.err = 1)
 | [], st, x, [], _, _, _, _ => ⟨fun _ => ⟨True.intro, .nil⟩, fun he => he⟩
 | r :: l, st, x, u :: us, hk, hst, hxr, hty => by
  rw [Rw.longs, Rw.laes]
  simp only
  have h1 := long_is hS r st x u hk.1 hst (hxr r List.mem_cons_self) hty.1
  have h2 := longs_is hS l _ x us hk.2 ((Rw.long_to c m r st x).most hst) (fun r hr => hxr r (List.mem_cons_of_mem _ hr)) hty.2
  refine ⟨fun he => ?_, fun he => h1.2 (h2.2 he)⟩
  obtain ⟨a1, a2⟩ := h1.1 ((Rw.longs_to c m l _ x).ok he)
  obtain ⟨b1, b2⟩ := h2.1 he
  exact ⟨⟨a1, b1⟩, .cons a2 b2⟩
 | [], _, _, _ :: _, _, _, _, h => h.elim
 | _ :: _, _, _, [], _, _, _, h => h.elim
end
theorem lae_bind (c m : List Ty) : ∀ (bs x : List Ty) (r : Rw), Rw.lae c m x (r.bind bs) = lams bs (Rw.lae c m (x ++ bs) r)
 | [], x, r => by rw [List.append_nil]; rfl
 | t :: bs, x, r => by
  show Rw.lae c m x (.mk 3 t 0 [r.bind bs]) = _
  rw [Rw.lae, if_pos rfl, Rw.laes, Rw.laes, lams_cons]
  show La.lam t (Rw.lae c m (x ++ [t]) (r.bind bs)) = _
  rw [lae_bind c m bs (x ++ [t]) r, List.append_assoc]; rfl
theorem lae_call (c m x : List Ty) : ∀ (l : List Rw) (r : Rw), Rw.lae c m x (r.call l) = apps (Rw.lae c m x r) (Rw.laes c m x l)
 | [], r => by rw [Rw.laes]; rfl
 | a :: l, r => by
  show Rw.lae c m x ((Rw.mk 4 noT 0 [r, a]).call l) = _
  rw [lae_call c m x l, Rw.lae, if_neg (by decide), if_pos rfl, Rw.laes, Rw.laes, Rw.laes, Rw.laes, apps_cons]; rfl
mutual
theorem raw_lae {c m : List Ty} : ∀ (t : Tm) (x : List Ty) (of : Ty), t.Is c m x of → Conv (Rw.lae c m x t.raw) t.la
 | .mk bs k i l, x, of, h => by
  obtain ⟨h1, u, h2, h3, h4⟩ := h
  rw [Tm.raw, lae_bind, lae_call, Tm.la]
  refine Conv.lams ?_ bs
  have hk := headTy_kind h2
  have hh : Rw.lae c m (x ++ bs) (headRw k i) = etaL u (hdL k i) := by
   rw [Rw.lae, if_neg (by omega), if_neg (by omega), h2]; rfl
  rw [hh]
  exact (Conv.apps (raws_lae l (x ++ bs) u.args h4) (.refl _)).trans (eta_apps _ h4)
theorem raws_lae {c m : List Ty} : ∀ (l : List Tm) (x us : List Ty), Tm.IsL c m x l us → ConvL (Rw.laes c m x (Tm.raws l)) (Tm.las l)
 | [], x, us, _ => by rw [Tm.raws, Rw.laes]; exact .nil
 | t :: l, x, u :: us, h => by
  rw [Tm.raws, Rw.laes, Tm.las]
  exact .cons (raw_lae t x u h.1) (raws_lae l x us h.2)
 | _ :: _, _, [], h => h.elim
end
mutual
theorem grow_lae (c m : List Ty) : ∀ (r : Rw) (g e d : List Ty) (u : Ty), g.length + e.length + d.length + r.depth ≤ 1000000000 → Rw.Typ c m (g ++ d) r u → Rw.lae c m (g ++ e ++ d) (r.grow e.length d.length) = (Rw.lae c m (g ++ d) r).ren (rise d.length e.length)
 | .mk k t i l, g, e, d, u, hb, h => by
  have hty := grow_typ c m (.mk k t i l) g e d u hb h
  rw [Rw.Typ] at h
  rw [Rw.grow] at hty ⊢
  by_cases h0 : k = 0
  ·subst h0
   rw [if_neg (by decide), if_neg (by decide)] at h
   obtain ⟨h, rfl⟩ := h
   obtain ⟨v1, v2, _⟩ := headTy_var h
   rw [List.length_append] at v2
   rw [if_pos rfl] at hty ⊢
   have key : ∀ i' : Int, 0 ≤ i' → rise d.length e.length i.toNat = i'.toNat → Rw.Typ c m (g ++ e ++ d) (headRw 0 i') u → Rw.lae c m (g ++ e ++ d) (headRw 0 i') = (Rw.lae c m (g ++ d) (.mk 0 t i [])).ren (rise d.length e.length) := by
    intro i' hi' hr ht
    rw [Rw.Typ, if_neg (by decide), if_neg (by decide)] at ht
    rw [Rw.lae, Rw.lae, if_neg (by decide), if_neg (by decide), if_neg (by decide), if_neg (by decide), ht.1, h, eta_ren, hdL_ren, if_pos rfl, hr]
    rfl
   split at hty
   ·rename_i hd
    rw [if_pos hd]
    rw [wrap_i (by omega) (by omega)] at hty ⊢
    exact key _ (by omega) (by unfold rise; rw [if_neg (by omega)]; omega) hty
   ·rename_i hd
    rw [if_neg hd]
    exact key _ (by omega) (by unfold rise; rw [if_pos (by omega)]) hty
  ·rw [if_neg h0, Rw.lae, Rw.lae]
   have hk : ∀ r ∈ l, r.depth < (Rw.mk k t i l).depth := fun r hr => Rw.kids_depth hr
   by_cases h3 : k = 3
   ·rw [if_pos h3] at h
    rw [if_pos h3, if_pos h3, if_pos h3]
    obtain ⟨v, hv, hl⟩ := h
    rw [List.append_assoc] at hl
    have := grows_lae c m l g e (d ++ [t]) [v] (fun r hr => by have := hk r hr; rw [List.length_append, List.length_singleton]; omega) hl
    rw [List.length_append, List.length_singleton] at this
    obtain ⟨a, rfl, _⟩ := typL_one hl
    rw [List.append_assoc, this, La.ren, ← List.append_assoc, Rw.laes, Rw.laes]
    show La.lam t (La.ren (Rw.lae c m (g ++ d ++ [t]) a) _) = La.lam t (La.ren (Rw.lae c m (g ++ d ++ [t]) a) _)
    congr 1
    refine La.ren_ext _ fun j => ?_
    unfold rise upR
    cases j with
    | zero => rw [if_pos (by omega)]
    | succ j =>
     dsimp only
     by_cases hj : j < d.length
     ·rw [if_pos (by omega), if_pos hj]
     ·rw [if_neg (by omega), if_neg hj]; omega
   ·rw [if_neg h3] at h
    rw [if_neg h3, if_neg h3, if_neg h3]
    by_cases h4 : k = 4
    ·rw [if_pos h4] at h
     rw [if_pos h4, if_pos h4]
     obtain ⟨v, hl⟩ := h
     have := grows_lae c m l g e d _ (fun r hr => by have := hk r hr; omega) hl
     obtain ⟨f, a, rfl, _⟩ := typL_two hl
     rw [this, La.ren, Rw.laes, Rw.laes, Rw.laes]
     rfl
    ·rw [if_neg h4] at h
     rw [if_neg h4, if_neg h4, headTy_other c m _ (g ++ d) h0, h.1, eta_ren, hdL_ren, if_neg h0]
     unfold hdL; rw [if_neg h0]
theorem grows_lae (c m : List Ty) : ∀ (l : List Rw) (g e d : List Ty) (us : List Ty), (∀ r ∈ l, g.length + e.length + d.length + r.depth ≤ 1000000000) → Rw.TypL c m (g ++ d) l us → Rw.laes c m (g ++ e ++ d) (Rw.grows e.length d.length l) = (Rw.laes c m (g ++ d) l).map (·.ren (rise d.length e.length))
 | [], g, e, d, us, _, _ => by rw [Rw.grows, Rw.laes, Rw.laes]; rfl
 | r :: l, g, e, d, [], _, h => h.elim
 | r :: l, g, e, d, u :: us, hb, h => by
  rw [Rw.grows, Rw.laes, Rw.laes, grow_lae c m r g e d u (hb r List.mem_cons_self) h.1, grows_lae c m l g e d us (fun r hr => hb r (List.mem_cons_of_mem _ hr)) h.2]; rfl
end
mutual
theorem subst_lae (c m : List Ty) {g : List Ty} {s : Ty} {a : Rw} (ha : Rw.Typ c m g a s) (hE : Conv (etaL s (Rw.lae c m g a)) (Rw.lae c m g a)) : ∀ (r : Rw) (d : List Ty) (u : Ty), g.length + d.length + r.depth + a.depth ≤ 100000000 → Rw.Typ c m (g ++ [s] ++ d) r u → Conv ((Rw.lae c m (g ++ [s] ++ d) r).sub (ups d.length (one (Rw.lae c m g a)))) (Rw.lae c m (g ++ d) (Rw.subst a d.length r))
 | .mk k t i l, d, u, hb, h => by
  have hty := subst_typ c m ha (.mk k t i l) d u hb h
  rw [Rw.Typ] at h
  rw [Rw.subst] at hty ⊢
  by_cases h0 : k = 0
  ·subst h0
   rw [if_neg (by decide), if_neg (by decide)] at h
   obtain ⟨h, rfl⟩ := h
   obtain ⟨v1, v2, _⟩ := headTy_var h
   rw [List.length_append, List.length_append, List.length_singleton] at v2
   rw [if_pos rfl] at hty ⊢
   rw [Rw.lae, if_neg (by decide), if_neg (by decide), h, eta_sub]
   have hhd : (hdL 0 i).sub (ups d.length (one (Rw.lae c m g a))) = ups d.length (one (Rw.lae c m g a)) i.toNat := by unfold hdL; rw [if_pos rfl]; rfl
   rw [hhd]
   show Conv (etaL u (ups d.length (one (Rw.lae c m g a)) i.toNat)) _
   have key : ∀ i' : Int, 0 ≤ i' → ups d.length (one (Rw.lae c m g a)) i.toNat = .var i'.toNat → Rw.Typ c m (g ++ d) (headRw 0 i') u → Conv (etaL u (ups d.length (one (Rw.lae c m g a)) i.toNat)) (Rw.lae c m (g ++ d) (headRw 0 i')) := by
    intro i' hi' hr ht
    rw [Rw.Typ, if_neg (by decide), if_neg (by decide)] at ht
    rw [Rw.lae, if_neg (by decide), if_neg (by decide), ht.1, hr]
    exact .of_eq (by unfold hdL; rw [if_pos rfl]; rfl)
   split at hty
   ·rename_i hd
    rw [if_pos hd]
    split at hty
    ·rename_i he
     rw [if_pos he]
     have hus : s = u := by
      have h' := h
      rw [show i = ((d.length : Nat) : Int) from he, headTy_app, if_neg (by omega), headTy_app, if_pos (by simp), headTy_nat, if_pos (by simp)] at h'
      simpa using h'
     subst hus
     have hg := grow_lae c m a g d [] s (by simp only [List.length_nil]; omega) (by rw [List.append_nil]; exact ha)
     rw [List.append_nil, List.append_nil, List.length_nil] at hg
     rw [hg]
     have e : ups d.length (one (Rw.lae c m g a)) i.toNat = (Rw.lae c m g a).ren (rise 0 d.length) := by
      unfold ups
      rw [if_neg (by omega), show i.toNat - d.length = 0 by omega]
      exact La.ren_ext _ fun j => by unfold rise; rw [if_neg (by omega)]
     rw [e, ← eta_ren]
     exact hE.ren _
    ·rename_i he
     rw [if_neg he]
     rw [wrap_i (by omega) (by omega)] at hty ⊢
     refine key _ (by omega) ?_ hty
     unfold ups
     rw [if_neg (by omega), show i.toNat - d.length = (i.toNat - d.length - 1) + 1 by omega]
     show La.var (i.toNat - d.length - 1 + d.length) = _
     congr 1; omega
   ·rename_i hd
    rw [if_neg hd]
    refine key _ (by omega) ?_ hty
    unfold ups
    rw [if_pos (by omega)]
  ·rw [if_neg h0, Rw.lae, Rw.lae]
   have hk : ∀ r ∈ l, r.depth < (Rw.mk k t i l).depth := fun r hr => Rw.kids_depth hr
   by_cases h3 : k = 3
   ·rw [if_pos h3] at h
    rw [if_pos h3, if_pos h3, if_pos h3]
    obtain ⟨v, hv, hl⟩ := h
    rw [List.append_assoc] at hl
    have := substs_lae c m ha hE l (d ++ [t]) [v] (fun r hr => by have := hk r hr; rw [List.length_append, List.length_singleton]; omega) hl
    rw [List.length_append, List.length_singleton] at this
    obtain ⟨b, rfl, _⟩ := typL_one hl
    rw [La.sub]
    rw [Rw.substs, Rw.substs, Rw.laes, Rw.laes, Rw.laes, Rw.laes, ← List.append_assoc, ← List.append_assoc] at this
    rw [Rw.substs, Rw.substs, Rw.laes, Rw.laes, Rw.laes, Rw.laes]
    cases this with
    | cons hc _ =>
     refine .lam ((Conv.of_eq ?_).trans hc)
     exact La.sub_ext _ fun j => by
      have := ups_ups 1 d.length (one (Rw.lae c m g a)) j
      rw [← this]
      cases j with
      | zero => rfl
      | succ j => rfl
   ·rw [if_neg h3] at h
    rw [if_neg h3, if_neg h3, if_neg h3]
    by_cases h4 : k = 4
    ·rw [if_pos h4] at h
     rw [if_pos h4, if_pos h4]
     obtain ⟨v, hl⟩ := h
     have := substs_lae c m ha hE l d _ (fun r hr => by have := hk r hr; omega) hl
     obtain ⟨f, b, rfl, _⟩ := typL_two hl
     rw [Rw.laes, Rw.laes, Rw.laes, Rw.substs, Rw.substs, Rw.substs, Rw.laes, Rw.laes, Rw.laes] at this
     rw [La.sub, Rw.laes, Rw.laes, Rw.laes, Rw.substs, Rw.substs, Rw.substs, Rw.laes, Rw.laes, Rw.laes]
     cases this with
     | cons hc this =>
      cases this with
      | cons hc2 _ => exact .app hc hc2
    ·rw [if_neg h4] at h
     have h' : headTy c m (g ++ d) k i = some u := by rw [headTy_far (y := g ++ [s] ++ d) h0]; exact h.1
     rw [if_neg h4, if_neg h4, h', h.1, eta_sub]
     refine .of_eq ?_
     unfold hdL; rw [if_neg h0]; rfl
theorem substs_lae (c m : List Ty) {g : List Ty} {s : Ty} {a : Rw} (ha : Rw.Typ c m g a s) (hE : Conv (etaL s (Rw.lae c m g a)) (Rw.lae c m g a)) : ∀ (l : List Rw) (d : List Ty) (us : List Ty), (∀ r ∈ l, g.length + d.length + r.depth + a.depth ≤ 100000000) → Rw.TypL c m (g ++ [s] ++ d) l us → ConvL ((Rw.laes c m (g ++ [s] ++ d) l).map (·.sub (ups d.length (one (Rw.lae c m g a))))) (Rw.laes c m (g ++ d) (Rw.substs a d.length l))
 | [], d, us, _, _ => by rw [Rw.substs, Rw.laes, Rw.laes]; exact .nil
 | r :: l, d, [], _, h => h.elim
 | r :: l, d, u :: us, hb, h => by
  rw [Rw.substs, Rw.laes, Rw.laes, List.map_cons]
  exact .cons (subst_lae c m ha hE r d u (hb r List.mem_cons_self) h.1) (substs_lae c m ha hE l d us (fun r hr => hb r (List.mem_cons_of_mem _ hr)) h.2)
end
end Go.Proofs.YtghlgbhldnkdmaaGreat

namespace Go.Proofs.YtghlgbhldnkdmaaGreat
open Go
set_option linter.unusedSimpArgs false
set_option linter.unusedVariables false
theorem redex_form {k t i l} (h : Rw.redex (.mk k t i l) = true) : k = 4 ∧ ∃ t' i' b a, l = [.mk 3 t' i' [b], a] := by
 match l, h with
 | [.mk k' t' i' [b], a], h =>
  simp only [Rw.redex, Bool.and_eq_true, beq_iff_eq, Rw.kind_mk] at h
  obtain ⟨h1, h2, _⟩ := h
  subst h2
  exact ⟨h1, t', i', b, a, rfl⟩
 | [.mk k' t' i' [], a], h => simp [Rw.redex, Rw.kids] at h
 | [.mk k' t' i' (_ :: _ :: _), a], h => simp [Rw.redex, Rw.kids] at h
 | [], h => simp [Rw.redex] at h
 | [_], h => simp [Rw.redex] at h
 | _ :: _ :: _ :: _, h => simp [Rw.redex] at h
theorem Conv.eta {a b : La} (h : Conv a b) (t : Ty) : Conv (etaL t a) (etaL t b) := by
 rw [eta_eq, eta_eq]
 exact Conv.lams (Conv.apps (ConvL.refl _) (h.ren _)) _
mutual
theorem step_lae {S : Nat} {c m : List Ty} (hS : S ≤ 1000) : ∀ (r : Rw) (st : Mt) (x : List Ty) (u : Ty), r.Ok → st.count ≤ 100000 → x.length + r.depth ≤ 1000000 → Rw.TypS S c m x r u →
  (Rw.long c m st x r).1.err = 0 → r.step.2 = true → Conv (Rw.lae c m x r) (Rw.lae c m x r.step.1)
 | .mk k t i l, st, x, u, hk, hst, hxr, hty, he, hstep => by
  obtain ⟨hk1, hk2, hk3⟩ := hk
  have hdk : ∀ r ∈ l, r.depth < (Rw.mk k t i l).depth := fun r hr => Rw.kids_depth hr
  have hst0 : st.err = 0 := (Rw.long_to c m (.mk k t i l) st x).ok he
  rw [Rw.long, if_neg (by simp [hst0])] at he
  rw [Rw.TypS] at hty
  obtain ⟨_, hty⟩ := hty
  rw [Rw.step] at hstep ⊢
  by_cases hre : Rw.redex (.mk k t i l) = true
  ·rw [if_pos hre]
   obtain ⟨rfl, v, i', b, a, rfl⟩ := redex_form hre
   rw [if_neg (by decide), if_pos rfl] at hty he
   obtain ⟨w, hl⟩ := hty
   obtain ⟨f', a', e, hf, ha⟩ := typLS_two hl
   simp only [List.cons.injEq, and_true] at e
   obtain ⟨rfl, rfl⟩ := e
   rw [Rw.TypS, if_pos rfl] at hf
   obtain ⟨_, _, y, hy, hl2⟩ := hf
   obtain ⟨b', e, hb⟩ := typLS_one hl2
   simp only [List.cons.injEq, and_true] at e
   subst e
   rw [Ty.arrow] at hy
   simp only [Ty.mk.injEq, List.cons_append, List.nil_append, List.cons.injEq] at hy
   obtain ⟨⟨rfl, hya⟩, hyb⟩ := hy
   have huy : u = y := by rw [← Ty.eta u, ← Ty.eta y, hya, hyb]
   subst huy
   have he2 := (appL_to _).ok he
   have hto := Rw.long_to c m (.mk 3 w i' [b]) st x
   rw [Rw.longs, Rw.longs, Rw.longs] at he2
   have d1 := hdk (.mk 3 w i' [b]) (by simp)
   have d2 := hdk a (by simp)
   obtain ⟨a1, a2⟩ := (long_is hS a _ x w hk3.2.1 (hto.most hst) (by omega) ha).1 he2
   have hE : Conv (etaL w (Rw.lae c m x a)) (Rw.lae c m x a) := (a2.eta w).trans ((eta_long a1).trans a2.symm)
   have d3 : b.depth < _ := Rw.kids_depth (k := 3) (t := w) (i := i') (l := [b]) (by simp)
   have hsl := subst_lae c m ha.typ hE b [] u (by simp only [List.length_nil]; omega) (by rw [List.append_nil]; exact hb.typ)
   rw [List.append_nil, List.append_nil, List.length_nil] at hsl
   show Conv (Rw.lae c m x (.mk 4 t i [.mk 3 w i' [b], a])) (Rw.lae c m x (Rw.subst a 0 b))
   rw [Rw.lae, if_neg (by decide), if_pos rfl, Rw.laes, Rw.laes, Rw.laes]
   show Conv (.app (Rw.lae c m x (.mk 3 w i' [b])) (Rw.lae c m x a)) _
   rw [Rw.lae, if_pos rfl, Rw.laes, Rw.laes]
   show Conv (.app (.lam w (Rw.lae c m (x ++ [w]) b)) (Rw.lae c m x a)) _
   refine (Conv.beta w _ _).trans ((Conv.of_eq ?_).trans hsl)
   exact La.sub_ext _ fun j => (ups_zero _ _).symm
  ·rw [if_neg hre] at hstep ⊢
   cases hsl : Rw.steps l with
   | none => rw [hsl] at hstep; cases hstep
   | some l' =>
    rw [hsl] at hstep
    show Conv (Rw.lae c m x (.mk k t i l)) (Rw.lae c m x (.mk k t i l'))
    rw [Rw.lae, Rw.lae]
    by_cases h3 : k = 3
    ·rw [if_pos h3] at hty he
     rw [if_pos h3, if_pos h3]
     obtain ⟨_, v, hv, hl⟩ := hty
     have := steps_lae hS l l' st (x ++ [t]) [v] hk3 hst (fun r hr => by have := hdk r hr; rw [List.length_append, List.length_singleton]; omega) hl ((lamL_to t _).ok he) hsl
     obtain ⟨a, rfl, _⟩ := typLS_one hl
     rw [Rw.laes, Rw.laes] at this ⊢
     generalize Rw.laes c m (x ++ [t]) l' = q at this
     cases this with
     | cons hc' _ => exact .lam hc'
    ·rw [if_neg h3] at hty he
     rw [if_neg h3, if_neg h3]
     by_cases h4 : k = 4
     ·rw [if_pos h4] at hty he
      rw [if_pos h4, if_pos h4]
      obtain ⟨v, hl⟩ := hty
      have := steps_lae hS l l' st x _ hk3 hst (fun r hr => by have := hdk r hr; omega) hl ((appL_to _).ok he) hsl
      obtain ⟨f, a, rfl, _⟩ := typLS_two hl
      rw [Rw.laes, Rw.laes, Rw.laes] at this ⊢
      generalize Rw.laes c m x l' = q at this
      cases this with
      | cons hc' this =>
       cases this with
       | cons hc2 _ => exact .app hc' hc2
     ·rw [if_neg h4] at hty
      obtain ⟨_, rfl⟩ := hty
      rw [Rw.steps] at hsl
      cases hsl
theorem steps_lae {S : Nat} {c m : List Ty} (hS : S ≤ 1000) : ∀ (l l' : List Rw) (st : Mt) (x us : List Ty), Rw.Oks l → st.count ≤ 100000 → (∀ r ∈ l, x.length + r.depth ≤ 1000000) → Rw.TypLS S c m x l us →
  (Rw.longs c m st x l).1.err = 0 → Rw.steps l = some l' → ConvL (Rw.laes c m x l) (Rw.laes c m x l')
 | [], l', st, x, us, _, _, _, _, _, h => by rw [Rw.steps] at h; cases h
 | r :: l, l', st, x, [], _, _, _, h, _, _ => h.elim
 | r :: l, l', st, x, u :: us, hk, hst, hxr, hty, he, hsl => by
  rw [Rw.longs] at he
  simp only at he
  rw [Rw.steps] at hsl
  split at hsl
  ·rename_i h1
   cases Option.some.inj hsl
   rw [Rw.laes, Rw.laes]
   exact .cons (step_lae hS r st x u hk.1 hst (hxr r List.mem_cons_self) hty.1 ((Rw.longs_to c m l _ x).ok he) h1) (ConvL.refl _)
  ·cases h2 : Rw.steps l with
   | none => rw [h2] at hsl; cases hsl
   | some l2 =>
    rw [h2] at hsl
    cases Option.some.inj hsl
    rw [Rw.laes, Rw.laes]
    exact .cons (.refl _) (steps_lae hS l l2 _ x us hk.2 ((Rw.long_to c m r st x).most hst) (fun r hr => hxr r (List.mem_cons_of_mem _ hr)) hty.2 he h2)
end
def ErrOk (e : Int) : Prop := e = 0 ∨ e = 1 ∨ e = 2 ∨ e = 11
theorem one_errOk {m : Mt} (h : ErrOk m.err) : ErrOk m.one.1.err := by
 unfold Mt.one
 split
 ·exact h
 ·split
  ·exact .inr (.inr (.inl rfl))
  ·split
   ·exact .inr (.inr (.inr rfl))
   ·exact h
theorem units_errOk : ∀ (n : Nat) {m : Mt}, ErrOk m.err → ErrOk (m.units n).1.err
 | 0, m, h => h
 | n + 1, m, h => by
  rw [Mt.units]
  split
  ·exact units_errOk n (one_errOk h)
  ·exact one_errOk h
theorem goArgs_errOk {g : Mt → Tm → Mt × Tm} (hg : Keeps1 g) : ∀ (l : List Tm) (m : Mt), m.count ≤ 100000 → (∀ t ∈ l, ∀ m' : Mt, m.count ≤ m'.count → m'.count ≤ 100000 → ErrOk m'.err → ErrOk (g m' t).1.err) → ErrOk m.err → ErrOk (goArgs g m l).1.err
 | [], m, _, _, h => h
 | t :: l, m, hm, hp, h => by
  rw [goArgs]
  have hto := hg m t
  exact goArgs_errOk hg l (g m t).1 (hto.most hm) (fun u hu m' h1 h2 h3 => hp u (List.mem_cons_of_mem _ hu) m' (Nat.le_trans hto.more h1) h2 h3) (hp t List.mem_cons_self m (Nat.le_refl _) hm h)
theorem bodyT_errOk : ∀ (f : Nat) (m : Mt) (k i : Int) (args us : List Tm) (n d : Nat), m.count ≤ 100000 → 100000 < f + m.count → ErrOk m.err → ErrOk (bodyT f m k i args us n d).1.err
 | 0, m, k, i, args, us, n, d, h1, h2, _ => by omega
 | f + 1, m, k, i, args, us, n, d, h1, h2, h => by
  rw [bodyT]
  split
  ·exact one_errOk h
  rename_i h3
  obtain ⟨g0, g1, g2, g3⟩ := one_true (by simpa using h3)
  have hm1 : m.one.1.count ≤ 100000 := (Mt.one_to m).most h1
  have hc1 : m.one.1.count = m.count + 1 := by rw [g3]
  have hto := goArgs_to (withinT_to f us n d) args m.one.1
  have he := goArgs_errOk (withinT_to f us n d) args m.one.1 hm1 (fun t ht m' q1 q2 q3 => bodyT_errOk f m' _ _ _ us n _ q2 (by omega) q3) (one_errOk h)
  generalize goArgs (withinT (bodyT f) us n d) m.one.1 args = r at hto he
  unfold headT
  split
  ·exact he
  ·split
   ·exact he
   ·split
    ·exact he
    ·split
     ·exact he
     ·split
      ·exact .inr (.inl rfl)
      ·exact bodyT_errOk f r.1 _ _ _ _ _ _ (hto.most hm1) (by have := hto.more; omega) he
theorem putT_errOk {m : Mt} {t : Tm} {us : List Tm} (hm : m.count ≤ 100000) (h : ErrOk m.err) : ErrOk (putT 100001 m t us).1.err := by
 unfold putT
 split
 ·exact h
 ·split
  ·exact .inr (.inl rfl)
  ·exact bodyT_errOk _ m _ _ _ _ _ _ hm (by omega) h
mutual
theorem long_errOk (c m : List Ty) : ∀ (r : Rw) (st : Mt) (x : List Ty), st.count ≤ 100000 → ErrOk st.err → ErrOk (Rw.long c m st x r).1.err
 | .mk k t i l, st, x, hm, h => by
  rw [Rw.long]
  split
  ·exact h
  ·split
   ·have := longs_errOk c m l st (x ++ [t]) hm h
    unfold lamL
    split <;> exact this
   ·split
    ·have := longs_errOk c m l st x hm h
     unfold appL
     split
     ·exact this
     ·exact putT_errOk ((Rw.longs_to c m l st x).most hm) this
    ·unfold headL
     split <;> exact units_errOk _ h
theorem longs_errOk (c m : List Ty) : ∀ (l : List Rw) (st : Mt) (x : List Ty), st.count ≤ 100000 → ErrOk st.err → ErrOk (Rw.longs c m st x l).1.err
 | [], st, x, _, h => h
 | r :: l, st, x, hm, h => by
  rw [Rw.longs]
  exact longs_errOk c m l _ x ((Rw.long_to c m r st x).most hm) (long_errOk c m r st x hm h)
end
structure LongOk (b : Int) (c m x : List Ty) (r : Rw) (t : Tm) (u : Ty) : Prop where
 ctx : rightCtx b c m x = true
 inf : r.inf b c m x = (u, 0)
 rgt : r.rightB = true
 typ : Rw.TypS 1000 c m x r u
 is : t.Is c m x u
 conv : Conv (Rw.lae c m x r) t.la
 right : trest 0 (t.pre 0 1) = true
theorem longR_ok {b : Int} {c m x : List Ty} {r : Rw} {left : Nat} (hin : NormOk c m x r) (he : (longR b c m x r left).1.err = 0) : (∃ u, LongOk b c m x r (longR b c m x r left).2 u) ∧ (Rw.long c m ⟨left, 0, 0⟩ x r).1.err = 0 := by
 unfold longR at he ⊢
 split at he
 ·simp at he
 rename_i h1
 rw [if_neg h1]
 have h1 : rightCtx b c m x = true := by simpa using h1
 split at he
 ·rename_i h2; exact (h2 he).elim
 rename_i h2
 rw [if_neg h2]
 have h2 : (r.inf b c m x).2 = 0 := by simpa using h2
 have hrb : r.rightB = true := by
  cases hrb : r.rightB with
  | true => rfl
  | false => rw [Rw.inf, hrb] at h2; simp at h2
 have hsh : r.shaped = true := by rw [Rw.rightB, Bool.and_eq_true] at hrb; exact hrb.1
 have hif : r.inf b c m x = r.infer b c m x := by rw [Rw.inf, if_pos hrb]
 have hdep : r.depth ≤ 60 := by
  have h := hrb
  rw [Rw.rightB, Bool.and_eq_true, Bool.and_eq_true, decide_eq_true_eq, decide_eq_true_eq] at h; exact h.2.2
 have hty : Rw.TypS 1000 c m x r (r.infer b c m x).1 := infer_typS b c m r x _ hsh (by rw [hif] at h2; rw [← h2])
 unfold doneT at he ⊢
 split at he
 ·rename_i h3; exact (h3 he).elim
 rename_i h3
 have h3 : (Rw.long c m ⟨left, 0, 0⟩ x r).1.err = 0 := by simpa using h3
 rw [if_neg (by simp [h3])]
 split at he
 ·rename_i h4
  rw [if_pos h4]
  obtain ⟨a1, a2⟩ := (long_is (Nat.le_refl _) r ⟨left, 0, 0⟩ x _ hin.ok (by simp) (by have := hin.xl; omega) hty).1 h3
  exact ⟨⟨_, h1, by rw [hif]; rw [hif] at h2; rw [← h2], hrb, hty, a1, a2, h4⟩, h3⟩
 ·simp at he
theorem longR_err {b : Int} {c m x : List Ty} {r : Rw} (hg : ∃ u, Good (r.infer b c m x) u) : (longR b c m x r 100000).1.err = 0 ∨ (longR b c m x r 100000).1.err = 1 ∨ (longR b c m x r 100000).1.err = 2 := by
 unfold longR
 split
 ·exact .inr (.inl rfl)
 split
 ·unfold Rw.inf
  split
  ·obtain ⟨u, h | h⟩ := hg
   ·rw [h]; exact .inl rfl
   ·exact .inr (.inr h)
  ·exact .inr (.inl rfl)
 ·have he := long_errOk c m r ⟨100000, 0, 0⟩ x (by simp) (.inl rfl)
  have hto := Rw.long_to c m r ⟨100000, 0, 0⟩ x
  have h11 : (Rw.long c m ⟨100000, 0, 0⟩ x r).1.err ≠ 11 := by
   intro h
   obtain ⟨h1, h2⟩ := hto.fuel h (by simp)
   have := hto.sum
   simp only at this
   omega
  unfold doneT
  split
  ·unfold ErrOk at he
   simp only
   omega
  ·split
   ·unfold ErrOk at he; omega
   ·exact .inr (.inr rfl)
end Go.Proofs.YtghlgbhldnkdmaaGreat

namespace Go.Proofs.YtghlgbhldnkdmaaGreat
open Go
set_option linter.unusedSimpArgs false
set_option linter.unusedVariables false
mutual
def Tm.deep : Tm → Nat
 | .mk _ _ _ l => Tm.deeps 0 l + 1
def Tm.deeps : Nat → List Tm → Nat
 | n, [] => n
 | n, t :: l => Tm.deeps (if Tm.deep t > n then Tm.deep t else n) l
end
def Tm.rightB (t : Tm) : Bool := decide (t.nodes ≤ 5000) && decide (t.deep ≤ 60)
theorem trest_app : ∀ (l r : List ((Nat × Nat) × Tm)) (n : Nat), trest n (l ++ r) = if n + l.length > 5000 ∧ 0 < l.length ∨ (∃ p ∈ l, p.1.2 > 60) then false else trest (n + l.length) r
 | [], r, n => by simp
 | p :: l, r, n => by
  rw [List.cons_append, trest, trest_app l r (n + 1)]
  by_cases h1 : n + 1 > 5000
  ·rw [if_pos h1, if_pos (.inl ⟨by simp; omega, by simp⟩)]
  ·rw [if_neg h1]
   by_cases h2 : p.1.2 > 60
   ·rw [if_pos h2, if_pos (.inr ⟨p, List.mem_cons_self, h2⟩)]
   ·rw [if_neg h2]
    by_cases h3 : n + 1 + l.length > 5000 ∧ 0 < l.length ∨ ∃ q ∈ l, q.1.2 > 60
    ·rw [if_pos h3, if_pos]
     rcases h3 with h3 | ⟨q, hq, h3⟩
     ·exact .inl ⟨by simp; omega, by simp⟩
     ·exact .inr ⟨q, List.mem_cons_of_mem _ hq, h3⟩
    ·rw [if_neg h3, if_neg]
     ·congr 1; simp; omega
     ·rintro (h4 | ⟨q, hq, h4⟩)
      ·have := h4.1
       simp only [List.length_cons] at this
       by_cases hl : 0 < l.length
       ·exact h3 (.inl ⟨by omega, hl⟩)
       ·omega
      ·rcases List.mem_cons.1 hq with rfl | hq
       ·exact h2 h4
       ·exact h3 (.inr ⟨q, hq, h4⟩)
mutual
theorem Tm.pre_len : ∀ (t : Tm) (a d : Nat), (t.pre a d).length = t.nodes
 | .mk _ _ _ l, a, d => by rw [Tm.pre, List.length_cons, Tm.nodes, Tm.pres_len l]; omega
theorem Tm.pres_len : ∀ (l : List Tm) (a d : Nat), (Tm.pres a d l).length = Tm.nodess l
 | [], a, d => by simp [Tm.pres, Tm.nodess]
 | t :: l, a, d => by rw [Tm.pres, List.length_append, Tm.nodess, Tm.pre_len t, Tm.pres_len l]
end
theorem Tm.deeps_gt {m : Nat} : ∀ (l : List Tm) (n : Nat), Tm.deeps n l > m ↔ n > m ∨ ∃ t ∈ l, t.deep > m
 | [], n => by simp [Tm.deeps]
 | t :: l, n => by
  rw [Tm.deeps, Tm.deeps_gt l]
  constructor
  ·rintro (h | ⟨u, hu, h⟩)
   ·split at h
    ·exact .inr ⟨t, List.mem_cons_self, h⟩
    ·exact .inl h
   ·exact .inr ⟨u, List.mem_cons_of_mem _ hu, h⟩
  ·rintro (h | ⟨u, hu, h⟩)
   ·left; split <;> omega
   ·rcases List.mem_cons.1 hu with rfl | hu
    ·left; split <;> omega
    ·exact .inr ⟨u, hu, h⟩
mutual
theorem Tm.pre_deep {m : Nat} : ∀ (t : Tm) (a d : Nat), d ≤ m + 1 → ((∃ p ∈ t.pre a d, p.1.2 > m) ↔ t.deep + d > m + 1)
 | .mk bs k i l, a, d, hd => by
  rw [Tm.pre, Tm.deep]
  have hl := Tm.pres_deep (m := m) l (a + bs.length) (d + 1)
  constructor
  ·rintro ⟨p, hp, h⟩
   rcases List.mem_cons.1 hp with rfl | hp
   ·simp only at h; omega
   ·by_cases hdm : d ≤ m
    ·have := (hl (by omega)).1 ⟨p, hp, h⟩
     obtain ⟨t, ht, h2⟩ := this
     have := (Tm.deeps_gt (m := m - d) l 0).2 (.inr ⟨t, ht, by omega⟩)
     omega
    ·omega
  ·intro h
   by_cases hdm : d ≤ m
   ·have h1 : Tm.deeps 0 l > m - d := by omega
    rcases (Tm.deeps_gt l 0).1 h1 with h2 | ⟨t, ht, h2⟩
    ·omega
    ·obtain ⟨p, hp, h3⟩ := (hl (by omega)).2 ⟨t, ht, by omega⟩
     exact ⟨p, List.mem_cons_of_mem _ hp, h3⟩
   ·exact ⟨_, List.mem_cons_self, by simp only; omega⟩
theorem Tm.pres_deep {m : Nat} : ∀ (l : List Tm) (a d : Nat), d ≤ m + 1 → ((∃ p ∈ Tm.pres a d l, p.1.2 > m) ↔ ∃ t ∈ l, t.deep + d > m + 1)
 | [], a, d, hd => by simp [Tm.pres]
 | t :: l, a, d, hd => by
  have i1 := Tm.pre_deep t a d hd
  have i2 := Tm.pres_deep l a d hd
  rw [Tm.pres]
  constructor
  ·rintro ⟨p, hp, h⟩
   rcases List.mem_append.1 hp with hp | hp
   ·exact ⟨t, List.mem_cons_self, i1.1 ⟨p, hp, h⟩⟩
   ·obtain ⟨u, hu, h2⟩ := i2.1 ⟨p, hp, h⟩
    exact ⟨u, List.mem_cons_of_mem _ hu, h2⟩
  ·rintro ⟨u, hu, h⟩
   rcases List.mem_cons.1 hu with hu | hu
   ·rw [hu] at h
    obtain ⟨p, hp, h2⟩ := i1.2 h
    exact ⟨p, List.mem_append_left _ hp, h2⟩
   ·obtain ⟨p, hp, h2⟩ := i2.2 ⟨u, hu, h⟩
    exact ⟨p, List.mem_append_right _ hp, h2⟩
end
theorem trest_right (t : Tm) : trest 0 (t.pre 0 1) = t.rightB := by
 have h := trest_app (t.pre 0 1) [] 0
 rw [List.append_nil, Nat.zero_add, trest, Tm.pre_len] at h
 rw [h, Tm.rightB]
 have hd := Tm.pre_deep (m := 60) t 0 1 (by omega)
 have hp := t.nodes_pos
 by_cases h1 : t.nodes ≤ 5000
 ·by_cases h2 : t.deep ≤ 60
  ·rw [if_neg, decide_eq_true h1, decide_eq_true h2]; rfl
   rintro (h3 | h3)
   ·omega
   ·have := hd.1 h3; omega
  ·rw [if_pos (.inr (hd.2 (by omega))), decide_eq_false h2, Bool.and_false]
 ·rw [if_pos (.inl ⟨by omega, by omega⟩), decide_eq_false h1, Bool.false_and]
end Go.Proofs.YtghlgbhldnkdmaaGreat

namespace Go.Proofs.YtghlgbhldnkdmaaGreat
open Go
set_option linter.unusedSimpArgs false
set_option linter.unusedVariables false
theorem tsz_calls {t : Tm} (h : t.size ≤ 500000000) : PureIs Tryz.prog 42 [.agg [.sl (t.binds.map Ty.enc), nI t.kind, nI t.index, .sl (t.args.map Tm.enc)]] (nI (t.nodes : Nat)) := by
 have hn := Tm.nodes_le t
 refine vc42_ok ⟨teach_calls t, ?_⟩
 refine RangeP.intro2 (fun n : Nat => ((t.binds.map Ty.enc, t.kind, t.index, t.args.map Tm.enc, ()), ((n : Int), ()), ())) encQE (t.pre 0 1) (teach_seq h) (fun r n => n + r.length = t.nodes) 0 rfl (by rw [Tm.pre_len, Nat.zero_add]) (fun p r n hI again hag => ?_) fun n hI => ?_
 ·simp only [List.length_cons] at hI
  dsimp only [encQE]
  rw [wrap_n (by omega)]
  exact hag (n + 1) (by omega)
 ·simp only [List.length_nil, Nat.add_zero] at hI
  rw [hI]
theorem tequal_calls : ∀ (n : Nat) (t u : Tm), t.size ≤ n → n ≤ 500000000 → PureIs Tryz.prog 37 [.agg [.sl (t.binds.map Ty.enc), nI t.kind, nI t.index, .sl (t.args.map Tm.enc)], .agg [.sl (u.binds.map Ty.enc), nI u.kind, nI u.index, .sl (u.args.map Tm.enc)]] (nB (Tm.same t u)) := by
 intro n
 induction n with
 | zero => intro t u h; have := t.size_pos; omega
 | succ n ih =>
  intro t u h hn
  have hq := Tm.sizes_len t.args
  have hts := t.size_eq
  have hb := equals_calls (l := t.binds) (m := u.binds) (by have := Ty.sizes_len t.binds; omega) fun k h1 h2 => equal_calls _ t.binds[k] u.binds[k] (Nat.le_refl _) (by have := Ty.sizes_mem (List.getElem_mem h1); omega)
  rw [Tm.same_eq]
  have hargs : PureIs Tryz.prog 91 [.sl (t.args.map Tm.enc), .sl (u.args.map Tm.enc), .clo 37 []] (nB (Tm.sames t.args u.args)) := by
   refine vc91_ok (ITE.intro (fun h => ?_) fun h => ?_)
   ·rw [Tm.sames_len (by simp at h; omega)]
   ·have hlm : t.args.length = u.args.length := by simp at h; omega
    refine LoopP.intro (fun k : Nat => ((u.args.map Tm.enc, (), t.args.map Tm.enc, (t.args.length : Int), (k : Int), ()), ())) (fun k => k ≤ t.args.length ∧ Tm.sames t.args u.args = Tm.sames (t.args.drop k) (u.args.drop k)) (fun k => t.args.length - k) 0 (by rw [List.length_map]; rfl) ⟨Nat.zero_le _, rfl⟩ ?_
    intro k ⟨hk, hs⟩ again hag
    dsimp only
    refine ITE.intro (fun h => ?_) fun h => ?_
    ·have hlt : k < t.args.length := by simpa using h
     rw [Tm.sames_drop hlt (by omega)] at hs
     have hi := ih t.args[k] (u.args[k]'(by omega)) (by have := Tm.arg_size hlt; omega) (by omega)
     refine ⟨by omega, by rw [List.length_map]; omega, _, _, _, _, Tm.enc_getD hlt, by omega, by rw [List.length_map]; omega, _, _, _, _, Tm.enc_getD (by omega), _, hi, ITE.intro (fun h => ?_) fun h => ?_⟩
     ·have : Tm.same t.args[k] u.args[k] = false := by simpa using h
      rw [hs, this, Bool.false_and]
     ·have he : Tm.same t.args[k] u.args[k] = true := by simpa using h
      rw [he, Bool.true_and] at hs
      rw [wrap_n (by omega)]
      exact hag (k + 1) ⟨by omega, hs⟩ (by omega)
    ·have : t.args.length ≤ k := by simpa using h
     rw [List.drop_eq_nil_of_le this, List.drop_eq_nil_of_le (by omega)] at hs
     rw [hs]; rfl
  refine vc37_ok (ITE.intro (fun h => ⟨_, hb, ITE.intro (fun h2 => ⟨_, hargs, ?_⟩) fun h2 => ?_⟩) fun h => ?_)
  ·rw [h, h2, Bool.true_and, Bool.true_and]
  ·rw [h, h2, Bool.true_and, Bool.false_and]
  ·rw [h, Bool.false_and]
def k8a : Ty := .mk [] 0
def k8f : Ty := .mk [k8a] 0
def k8x : Rw := headRw 0 0
def k8s : Rw := headRw 1 0
def k8two : Rw := ((headRw 0 1).call [(headRw 0 1).call [k8x]]).bind [k8f, k8a]
def k8u : Rw := (k8s.call [k8s.call [k8x]]).bind [k8a]
def k8t : Tm := .mk [k8a] 1 0 [.mk [] 1 0 [.mk [] 0 0 []]]
theorem k8_1 : longR 1 [k8f] [] [] (k8two.call [k8s]) 100000 = ((longR 1 [k8f] [] [] (k8two.call [k8s]) 100000).1, k8t) := by kernel_rfl
theorem k8_1e : (longR 1 [k8f] [] [] (k8two.call [k8s]) 100000).1.err = 0 := by kernel_rfl
theorem k8_2 : (longR 1 [k8f] [] [] k8u 100000).2 = k8t := by kernel_rfl
theorem k8_2e : (longR 1 [k8f] [] [] k8u 100000).1.err = 0 := by kernel_rfl
theorem k8_3 : costR (longR 1 [k8f] [] [] k8s 100000) = 2 := by kernel_rfl
theorem k8_3e : (longR 1 [k8f] [] [] k8s 100000).1.err = 0 := by kernel_rfl
theorem k8_in {r : Rw} (h : r.total ≤ 500) (hk : r.Ok) : NormOk [k8f] [] [] r :=
 ⟨by simp [k8f, k8a, Ty.size, Ty.sizes], by simp, by simp, by simp, by simp, by simp, by omega, hk⟩
theorem known08_calls : PureIs Tryz.prog 10 [] (nB true) := by
 have ha := kindOf_calls 0
 have hf := ofKind_calls (b := 0) (l := [k8a]) (by simp [k8a, Ty.size, Ty.sizes])
 have hc1 := call_calls (r := headRw 0 1) (l := [k8x]) (Rw.fit_of _ (by simp [Rw.total, Rw.totals, Ty.size, Ty.sizes])) (Rw.fits_of _ (by simp [k8x, Rw.total, Rw.totals, Ty.size, Ty.sizes])) (by simp)
 have hc2 := call_calls (r := headRw 0 1) (l := [(headRw 0 1).call [k8x]]) (Rw.fit_of _ (by simp [Rw.total, Rw.totals, Ty.size, Ty.sizes])) (Rw.fits_of _ (by simp [k8x, Rw.call, Rw.total, Rw.totals, Ty.size, Ty.sizes])) (by simp)
 have hb1 := bind_calls (r := (headRw 0 1).call [(headRw 0 1).call [k8x]]) (l := [k8f, k8a]) (Rw.fit_of _ (by simp [k8x, Rw.call, Rw.total, Rw.totals, Ty.size, Ty.sizes])) (by simp [k8f, k8a, Ty.size, Ty.sizes]) (by simp)
 have hc3 := call_calls (r := k8two) (l := [k8s]) (Rw.fit_of _ (by simp [k8two, k8x, k8f, k8a, Rw.bind, Rw.call, Rw.total, Rw.totals, Ty.size, Ty.sizes])) (Rw.fits_of _ (by simp [k8s, Rw.total, Rw.totals, Ty.size, Ty.sizes])) (by simp)
 have hc4 := call_calls (r := k8s) (l := [k8x]) (Rw.fit_of _ (by simp [k8s, Rw.total, Rw.totals, Ty.size, Ty.sizes])) (Rw.fits_of _ (by simp [k8x, Rw.total, Rw.totals, Ty.size, Ty.sizes])) (by simp)
 have hc5 := call_calls (r := k8s) (l := [k8s.call [k8x]]) (Rw.fit_of _ (by simp [k8s, Rw.total, Rw.totals, Ty.size, Ty.sizes])) (Rw.fits_of _ (by simp [k8s, k8x, Rw.call, Rw.total, Rw.totals, Ty.size, Ty.sizes])) (by simp)
 have hb2 := bind_calls (r := k8s.call [k8s.call [k8x]]) (l := [k8a]) (Rw.fit_of _ (by simp [k8s, k8x, Rw.call, Rw.total, Rw.totals, Ty.size, Ty.sizes])) (by simp [k8a, Ty.size, Ty.sizes]) (by simp)
 have o1 := nOf_calls (b := 1) (k8_in (r := k8two.call [k8s]) (by simp [k8two, k8s, k8x, k8f, k8a, Rw.bind, Rw.call, Rw.total, Rw.totals, Ty.size, Ty.sizes]) (by simp [k8two, k8s, k8x, k8f, k8a, Rw.bind, Rw.call, Rw.Ok, Rw.Oks, I64]))
 have o2 := nOf_calls (b := 1) (k8_in (r := k8u) (by simp [k8u, k8s, k8x, k8a, Rw.bind, Rw.call, Rw.total, Rw.totals, Ty.size, Ty.sizes]) (by simp [k8u, k8s, k8x, k8a, Rw.bind, Rw.call, Rw.Ok, Rw.Oks, I64]))
 have o3 := nCost_calls (b := 1) (k8_in (r := k8s) (by simp [k8s, Rw.total, Rw.totals, Ty.size, Ty.sizes]) (by simp [k8s, Rw.Ok, Rw.Oks, I64]))
 rw [k8_1e, k8_1] at o1
 rw [k8_2e, k8_2] at o2
 rw [k8_3e, k8_3] at o3
 have he := tequal_calls _ k8t k8t (Nat.le_refl _) (by simp [k8t, k8a, Tm.size, Tm.sizes, Ty.size, Ty.sizes])
 rw [Tm.same_self] at he
 have hs := tsz_calls (t := k8t) (by simp [k8t, k8a, Tm.size, Tm.sizes, Ty.size, Ty.sizes])
 exact vc10_ok ⟨_, _, ha, _, _, hf, _, _, _, _, _, Head_calls 0 0, _, _, _, _, _, Head_calls 0 1, _, _, _, _, _, Head_calls 0 1, _, _, _, _, _, hc1, _, _, _, _, _, hc2, _, _, _, _, _, hb1, _, _, _, _, _, Head_calls 1 0,
  _, _, _, _, _, hc3, _, _, _, _, _, o1, _, _, o3, _, _, _, _, _, hc4, _, _, _, _, _, hc5, _, _, _, _, _, hb2, _, _, _, _, _, o2, ITE.pos rfl (ITE.pos rfl ⟨_, he, ITE.pos rfl ⟨_, hs, ITE.pos rfl (ITE.pos rfl rfl)⟩⟩)⟩
theorem law_in {c m x : List Ty} {r : Rw} (hr : r.total ≤ 300) (hok : r.Ok) (h : smallB c m x = true) : NormIn 400 c m x r := by
 obtain ⟨⟨g1, g2, g3⟩, ⟨h1, h2, h3⟩, h4, h5, h6⟩ := small_all h
 exact ⟨by decide, fun t ht => by have := h4 t ht; omega, fun t ht => by have := h5 t ht; omega, fun t ht => by have := h6 t ht; omega, by omega, by omega, by omega, by omega, hok⟩
end Go.Proofs.YtghlgbhldnkdmaaGreat

namespace Go.Proofs.YtghlgbhldnkdmaaGreat
open Go
set_option linter.unusedSimpArgs false
set_option linter.unusedVariables false
mutual
theorem grow_total (b : Int) : ∀ (r : Rw) (d : Nat), (r.grow b d).total ≤ r.total
 | .mk k t i l, d => by
  have := t.size_pos
  rw [Rw.grow, Rw.total]
  have h2 : ∀ i', (headRw 0 i').total = 2 := fun i' => by simp [Rw.total, Rw.totals, Ty.size, Ty.sizes]
  split
  ·split <;> rw [h2] <;> omega
  ·rw [Rw.total]
   have := grows_total b l (if k = 3 then d + 1 else d)
   omega
theorem grows_total (b : Int) : ∀ (l : List Rw) (d : Nat), Rw.totals (Rw.grows b d l) ≤ Rw.totals l
 | [], d => by rw [Rw.grows]; exact Nat.le_refl _
 | r :: l, d => by
  have h1 := grow_total b r d
  have h2 := grows_total b l d
  rw [Rw.grows, Rw.totals, Rw.totals]; omega
end
mutual
theorem subst_total (a : Rw) : ∀ (r : Rw) (d : Nat), (Rw.subst a d r).total ≤ r.total * a.total
 | .mk k t i l, d => by
  have hp := t.size_pos
  have hap := a.total_pos
  have hm : ∀ n : Nat, n ≤ n * a.total := fun n => Nat.le_mul_of_pos_right n (by omega)
  have h2 : ∀ i', (headRw 0 i').total = 2 := fun i' => by simp [Rw.total, Rw.totals, Ty.size, Ty.sizes]
  have ht : (Rw.mk k t i l).total = 1 + t.size + Rw.totals l := Rw.total_eq _
  have hmt := hm (Rw.mk k t i l).total
  rw [Rw.subst]
  split
  ·split
   ·split
    ·have h1 := grow_total (d : Int) a 0
     have : 1 * a.total ≤ (Rw.mk k t i l).total * a.total := Nat.mul_le_mul_right _ (by omega)
     omega
    ·rw [h2]; omega
   ·rw [h2]; omega
  ·have := substs_total a l (if k = 3 then d + 1 else d)
   have h3 := hm (1 + t.size)
   rw [Rw.total_eq, ht, Nat.add_mul]
   simp only [Rw.type_mk, Rw.kids_mk]
   omega
theorem substs_total (a : Rw) : ∀ (l : List Rw) (d : Nat), Rw.totals (Rw.substs a d l) ≤ Rw.totals l * a.total
 | [], d => by rw [Rw.substs]; simp [Rw.totals]
 | r :: l, d => by
  have h1 := subst_total a r d
  have h2 := substs_total a l d
  rw [Rw.substs, Rw.totals, Rw.totals, Nat.add_mul]; omega
end
theorem sq_add (a b : Nat) : (a + b) * (a + b) = a * a + a * b + (b * a + b * b) := by rw [Nat.add_mul, Nat.mul_add, Nat.mul_add]
mutual
theorem step_total : ∀ (r : Rw), r.step.1.total ≤ r.total * r.total
 | .mk k t i l => by
  have hp := (Rw.mk k t i l).total_pos
  have hself : (Rw.mk k t i l).total ≤ (Rw.mk k t i l).total * (Rw.mk k t i l).total := Nat.le_mul_of_pos_right _ (by omega)
  rw [Rw.step]
  split
  ·rename_i hre
   obtain ⟨rfl, t', i', b, a, rfl⟩ := redex_form hre
   have e : (Rw.mk 4 t i [.mk 3 t' i' [b], a]).total = 1 + t.size + ((1 + t'.size + (b.total + 0)) + (a.total + 0)) := by simp only [Rw.total, Rw.totals]
   exact Nat.le_trans (subst_total a b 0) (Nat.mul_le_mul (by omega) (by omega))
  ·cases h : Rw.steps l with
   | none => exact hself
   | some l' =>
    have := steps_total l l' h
    show (Rw.mk k t i l').total ≤ _
    rw [Rw.total, Rw.total, sq_add]
    have h1 : 1 + t.size ≤ (1 + t.size) * (1 + t.size) := Nat.le_mul_of_pos_right _ (by omega)
    omega
theorem steps_total : ∀ (l l' : List Rw), Rw.steps l = some l' → Rw.totals l' ≤ Rw.totals l * Rw.totals l
 | [], l', h => by rw [Rw.steps] at h; cases h
 | r :: l, l', h => by
  have hp := r.total_pos
  rw [Rw.steps] at h
  rw [Rw.totals, sq_add]
  split at h
  ·cases Option.some.inj h
   have := step_total r
   have h1 : Rw.totals l ≤ Rw.totals l * r.total := Nat.le_mul_of_pos_right _ (by omega)
   have h2 : Rw.totals l * r.total = r.total * Rw.totals l := Nat.mul_comm _ _
   rw [Rw.totals]; omega
  ·cases h2 : Rw.steps l with
   | none => rw [h2] at h; cases h
   | some l2 =>
    rw [h2] at h
    cases Option.some.inj h
    have := steps_total l l2 h2
    have h1 : r.total ≤ r.total * r.total := Nat.le_mul_of_pos_right _ (by omega)
    show Rw.totals (r :: l2) ≤ _
    rw [Rw.totals]; omega
end
theorem longR_bad {b : Int} {c m x : List Ty} {r : Rw} {left : Nat} (h : (longR b c m x r left).1.err ≠ 0) : (longR b c m x r left).2 = noTm := by
 unfold longR at h ⊢
 split
 ·rfl
 rename_i h1
 rw [if_neg h1] at h
 split
 ·rfl
 rename_i h2
 rw [if_neg h2] at h
 unfold doneT at h ⊢
 split
 ·rfl
 rename_i h3
 rw [if_neg h3] at h
 split
 ·rename_i h4
  rw [if_pos h4] at h
  exact (h3 h).elim
 ·rfl
theorem trest_nodes {t : Tm} (h : trest 0 (t.pre 0 1) = true) : t.nodes ≤ 5000 := by
 rw [trest_right, Tm.rightB, Bool.and_eq_true, decide_eq_true_eq] at h
 exact h.1
theorem longR_same {b : Int} {c m x : List Ty} {r r2 : Rw} {left left2 : Nat} (hin : NormOk c m x r) (hin2 : NormOk c m x r2) (he : (longR b c m x r left).1.err = 0) (he2 : (longR b c m x r2 left2).1.err = 0) (hc : Conv (Rw.lae c m x r) (Rw.lae c m x r2)) : (longR b c m x r2 left2).2 = (longR b c m x r left).2 := by
 obtain ⟨⟨u, h1⟩, _⟩ := longR_ok hin he
 obtain ⟨⟨v, h2⟩, _⟩ := longR_ok hin2 he2
 exact form_eq (is_sc _ _ _ h2.is) (is_sc _ _ _ h1.is) (h2.conv.symm.trans (hc.symm.trans h1.conv))
theorem longR_small {b : Int} {c m x : List Ty} {r : Rw} {left : Nat} (hin : NormOk c m x r) (he : (longR b c m x r left).1.err = 0) : (longR b c m x r left).2.size ≤ 5005000 ∧ (longR b c m x r left).2.Lo 1000 := by
 obtain ⟨⟨u, h1⟩, h2⟩ := longR_ok hin he
 have hf := (long_formS (Nat.le_refl _) r ⟨left, 0, 0⟩ x u h1.typ hin.ok h2).1
 have hn := trest_nodes h1.right
 have e : (longR b c m x r left).2 = (Rw.long c m ⟨left, 0, 0⟩ x r).2 := by
  unfold longR at he ⊢
  split
  ·rename_i h; rw [if_pos h] at he; simp at he
  rename_i h
  rw [if_neg h] at he
  split
  ·rename_i h3; rw [if_pos h3] at he; exact (h3 he).elim
  rename_i h3
  rw [if_neg h3] at he
  unfold doneT at he ⊢
  rw [if_neg (by simp [h2])] at he ⊢
  split
  ·rfl
  ·rename_i h4; rw [if_neg h4] at he; simp at he
 have hs := Tm.lo_size hf.lo
 rw [e] at hn ⊢
 have : (Rw.long c m ⟨left, 0, 0⟩ x r).2.nodes * (1 + 1000) ≤ 5000 * 1001 := Nat.mul_le_mul hn (by omega)
 exact ⟨by omega, hf.lo⟩
theorem NormKeeps_calls {b : Int} {c m x : List Ty} {r : Rw} (hok : r.Ok) : PureIs Tryz.prog 7 [.agg [nI b, .sl (c.map Ty.enc), .sl (m.map Ty.enc)], .sl (x.map Ty.enc), r.enc] (nB true) := by
 have he := Rw.enc_eq r
 have hfew := rwFew_calls (most := 100) (d := 70) (t := r) (by omega) (by omega)
 rw [he] at hfew
 rw [he]
 refine vc7_ok ⟨_, hfew, ITE.intro (fun h => ⟨_, known08_calls, rfl⟩) fun h => ?_⟩
 have hr : r.total ≤ 100 := Rw.fewB_total (by simpa using h)
 refine ⟨_, small_calls b c m x, ITE.intro (fun h => ⟨_, known08_calls, rfl⟩) fun h => ?_⟩
 have hsm : smallB c m x = true := by simpa using h
 have hin := (law_in (by omega) hok hsm).nok
 obtain ⟨⟨_, _, h0⟩, ⟨h1, h2, h3⟩, h4, h5, h6⟩ := small_all hsm
 have hto := rwTo_calls _ r (Nat.le_refl _) (by omega)
 rw [he] at hto
 have hno := nOf_calls (b := b) hin
 have main : vc7_L3 b (c.map Ty.enc) (m.map Ty.enc) (x.map Ty.enc) r.kind (r.type.args.map Ty.enc) r.type.base r.index (r.kids.map Rw.enc) (fun a => a = nB true) := by
  refine ⟨_, _, _, _, _, hno, ITE.intro (fun h => ?_) fun h => ?_⟩
  ·have hbad := longR_bad (b := b) (c := c) (m := m) (x := x) (r := r) (left := 100000) (by simpa using h)
   rw [hbad]
   exact ⟨_, known08_calls, ITE.pos rfl ⟨_, tsz_calls (t := noTm) (by simp [noTm, Tm.size, Tm.sizes, Ty.sizes]), rfl⟩⟩
  have he0 : (longR b c m x r 100000).1.err = 0 := by simpa using h
  obtain ⟨⟨u, hl⟩, hlong⟩ := longR_ok hin he0
  obtain ⟨hsz, hlo⟩ := longR_small hin he0
  have hinf := inf_infer (b := b) hin
  rw [hl.inf, he] at hinf
  have hus : u.size ≤ 1000 := by have := hl.typ; cases r; exact this.1
  have hck := check_calls (b := b) (c := c) (m := m) (x := x) (t := (longR b c m x r 100000).2) (of := u) (fun t ht => by have := h4 t ht; omega) (fun t ht => by have := h5 t ht; omega) (Tm.lo_ok hlo) (fun t ht => by have := h6 t ht; omega) (by omega) (by omega)
  rw [if_pos hl.right, if_pos ((Tm.is_iff c m _ x u).2 hl.is)] at hck
  have hfr := from_calls _ (longR b c m x r 100000).2 (Nat.le_refl _) (by omega)
  rw [Tm.enc_eq, Rw.enc_eq] at hfr
  have hraw := Tm.raw_total (longR b c m x r 100000).2
  have hin2 : NormOk c m x (longR b c m x r 100000).2.raw := ⟨hin.hc, hin.hm, hin.hx, hin.cl, hin.ml, hin.xl, by omega, Tm.raw_ok _ (Tm.lo_ok hlo)⟩
  have hno2 := nOf_calls (b := b) hin2
  have herr := longR_err (b := b) (c := c) (m := m) (x := x) (r := (longR b c m x r 100000).2.raw) ⟨u, raw_infer b c m _ x u ((Tm.is_iff c m _ x u).2 hl.is)⟩
  have hag : (longR b c m x (longR b c m x r 100000).2.raw 100000).1.err = 0 → (longR b c m x (longR b c m x r 100000).2.raw 100000).2 = (longR b c m x r 100000).2 := fun h => longR_same hin hin2 he0 h (hl.conv.trans (raw_lae _ x u hl.is).symm)
  have hnice := Rw.nice_of r hok (by have h := hl.rgt; rw [Rw.rightB, Bool.and_eq_true] at h; exact h.1) (by omega)
  have hdep := r.depth_le
  have hst := Step_calls (step_calls _ r (Nat.le_refl _) hnice.fit (by omega)) hnice.step.fit
  rw [Rw.enc_eq] at hst
  have htot := step_total r
  have hsq : r.total * r.total ≤ 100 * 100 := Nat.mul_le_mul hr hr
  have hin3 : NormOk c m x r.step.1 := ⟨hin.hc, hin.hm, hin.hx, hin.cl, hin.ml, hin.xl, by omega, hnice.step.ok⟩
  have hno3 := nOf_calls (b := b) hin3
  have hstep : r.step.2 = true → (longR b c m x r.step.1 100000).1.err = 0 → (longR b c m x r.step.1 100000).2 = (longR b c m x r 100000).2 := fun h1 h2 =>
   longR_same hin hin3 he0 h2 (step_lae (Nat.le_refl _) r ⟨100000, 0, 0⟩ x u hok (by simp) (by omega) hl.typ hlong h1)
  have heq := tequal_calls _ (longR b c m x r 100000).2 (longR b c m x r 100000).2 (Nat.le_refl _) (by omega)
  rw [Tm.same_self] at heq
  generalize longR b c m x (longR b c m x r 100000).2.raw 100000 = L2 at hno2 herr hag
  generalize longR b c m x r.step.1 100000 = L3 at hno3 hstep
  have last : ∃ (i81 : Int) (l82 : List AV) (i83 i84 : Int) (l85 : List AV) (b86 : Bool),
    PureIs Tryz.prog 44 [.agg [nI r.kind, .sl (r.type.args.map Ty.enc), nI r.type.base, nI r.index, .sl (r.kids.map Rw.enc)]] (.tup [.agg [nI i81, .sl l82, nI i83, nI i84, .sl l85], nB b86]) ∧
    ∃ (l87 : List AV) (i88 i89 : Int) (l90 : List AV) (i91 : Int),
    PureIs Tryz.prog 24 [.agg [nI b, .sl (c.map Ty.enc), .sl (m.map Ty.enc)], .sl (x.map Ty.enc), .agg [nI i81, .sl l82, nI i83, nI i84, .sl l85]] (.tup [.agg [.sl l87, nI i88, nI i89, .sl l90], nI i91]) ∧
    ∃ (b92 : Bool), PureIs Tryz.prog 10 [] (nB b92) ∧
    ITE b92 (ITE (!b86) (nB true = nB true) (ITE (i91 != 0) (nB true = nB true) (∃ (b93 : Bool),
     PureIs Tryz.prog 37 [.agg [.sl l87, nI i88, nI i89, .sl l90], .agg [.sl ((longR b c m x r 100000).2.binds.map Ty.enc), nI (longR b c m x r 100000).2.kind, nI (longR b c m x r 100000).2.index, .sl ((longR b c m x r 100000).2.args.map Tm.enc)]] (nB b93) ∧ nB b93 = nB true))) (nB false = nB true) := by
   refine ⟨_, _, _, _, _, _, hst, _, _, _, _, _, hno3, _, known08_calls, ITE.pos rfl (ITE.intro (fun _ => rfl) fun h7 => ITE.intro (fun _ => rfl) fun h8 => ?_)⟩
   have h7 : r.step.2 = true := by simpa using h7
   have h8 : L3.1.err = 0 := by simpa using h8
   rw [hstep h7 h8]
   exact ⟨_, heq, rfl⟩
  refine ⟨_, _, _, hinf, ITE.neg rfl ⟨_, hck, ITE.neg rfl ⟨_, _, _, _, _, hfr, _, _, _, _, _, hno2, ITE.intro (fun h7 => ?_) fun h7 => ?_⟩⟩⟩
  ·have h7 : L2.1.err = 0 := by simpa using h7
   rw [hag h7]
   exact ⟨_, heq, ITE.neg rfl (ITE.neg (by rw [h7]; rfl) last)⟩
  ·have h7 : ¬ L2.1.err = 0 := by simpa using h7
   refine ITE.pos (by simp [h7]) (ITE.intro (fun h8 => ITE.intro (fun h9 => ?_) fun h9 => last) fun h8 => last)
   have h8 : ¬ L2.1.err = 1 := by simpa using h8
   have h9 : ¬ L2.1.err = 2 := by simpa using h9
   omega
 exact ⟨_, _, _, world_calls (by omega) (by omega), _, tysTo_calls (by omega), _, _, _, _, _, hto, main, main⟩
end Go.Proofs.YtghlgbhldnkdmaaGreat
