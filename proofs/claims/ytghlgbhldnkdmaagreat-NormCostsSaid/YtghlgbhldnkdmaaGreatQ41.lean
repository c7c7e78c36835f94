/- Texts of ours laid together for a claim: P36 P37 P38 P39 P40 P41 P42 P43 P44. -/
import Derived.KernelRfl
import Derived.Test.YtghlgbhldnkdmaaGreatQ40
namespace Go.Proofs.YtghlgbhldnkdmaaGreat
open Go
set_option linter.unusedSimpArgs false
set_option linter.unusedVariables false
theorem HFn.repw {P : Program} {f : FuncId} {args : List AV} {hp : List AObj} {R : AV → List AObj → Prop} (h : HFn P f args hp (fun r hp' => ∃ r2, RepW r r2 ∧ R r2 hp')) : HFn P f args hp R :=
 ⟨h.1, fun w F η vals hpre hv => (h.2 w F η vals hpre hv).mono fun e w' ⟨v, r, hp', η', he, ⟨r2, hw, hR⟩, hpost⟩ => ⟨v, r2, hp', η', he, hR, ⟨hpost.keeps, hpost.ext, hpost.heap, hpost.mine, hw _ _ _ _ _ hpost.rep⟩⟩⟩
theorem RepWL.repL {w : World} {F : Nat → Nat → Prop} {η : List Value} {hp : List AObj} : ∀ {xs ys : List AV} {vs : List Value}, RepWL xs ys → RepL w F η hp xs vs → RepL w F η hp ys vs
 | [], [], _, _, h => h
 | x :: xs, y :: ys, [], _, h => h.elim
 | x :: xs, y :: ys, v :: vs, hw, h => ⟨hw.1 _ _ _ _ _ h.1, RepWL.repL hw.2 h.2⟩
theorem HFn.args {P : Program} {f : FuncId} {args args' : List AV} {hp : List AObj} {R : AV → List AObj → Prop} (hw : RepWL args args') (h : HFn P f args' hp R) : HFn P f args hp R :=
 ⟨h.1, fun w F η vals hpre hv => h.2 w F η vals hpre (hw.repL hv)⟩
theorem repw_nil : RepW (.prim (.slice none 0 0)) (.sl []) := fun _ _ _ _ _ h => by cases h; exact .sl0 none
theorem repw_clip (l : List AV) : RepW (.clip l) (.sl l) := fun _ _ _ _ _ h => h.of_clip
theorem repw_noTm' : RepW (.agg [.prim (.slice none 0 0), nI 0, nI 0, .prim (.slice none 0 0)]) (.agg [.sl [], nI 0, nI 0, .sl []]) := RepW.agg ⟨repw_nil, RepW.refl _, RepW.refl _, repw_nil, True.intro⟩
theorem mkOk {d : TD} {n : Nat} (h : d.bytes ≤ 1000) (hn : n ≤ 4000000000) : 0 ≤ (n : Int) ∧ (n : Int) ≤ 9223372036854775807 ∧ (TD.bytes d : Int) * (n : Int) ≤ 281474976710656 := by
 refine ⟨by omega, by omega, ?_⟩
 have h1 : (TD.bytes d : Int) * (n : Int) = ((d.bytes * n : Nat) : Int) := by simp
 have h2 : d.bytes * n ≤ 1000 * 4000000000 := Nat.mul_le_mul h hn
 rw [h1]; omega
def wrkO (l u d s y c e : Int) : List AObj := [.box (budC l u d 0 s y), .box [.ptr 0 0, nI c, nI e]]
structure BudOk (n : Nat) (l u d y : Int) : Prop where
 left : l = n
 used : 0 ≤ u
 sum : l + u ≤ 4000000000000000000
 dry : y = 0 ↔ d = 0
 none : y ≠ 0 → n = 0
structure MtOk (m : Mt) (l u d y c e : Int) : Prop where
 bud : BudOk m.left l u d y
 err : e = m.err
 most : m.count ≤ 100000
 count : m.err = 0 → c = m.count
 fuel : m.err = 11 → y ≠ 0
def MtHp (m : Mt) (hp : List AObj) : Prop := ∃ l u d s y c e, hp = wrkO l u d s y c e ∧ MtOk m l u d y c e
variable {m : Mt} {l u d s y c e : Int}
theorem spend_ok {left : Nat} (h : BudOk left l u d y) : HFn Tryz.prog 157 [.ptr 0 0, nI 1] [.box (budC l u d 0 s y)]
  (fun r hp' => ∃ l' u' d' y', r = nB (decide (left ≠ 0)) ∧ hp' = [.box (budC l' u' d' 0 s y')] ∧ BudOk (left - 1) l' u' d' y' ∧ (left = 0 → y' ≠ 0)) := by
 refine (bud_spend (l := l) (u := u) (d := d) (s := s) (y := y) 1 (by decide)).mono fun r hp' ⟨e1, e2⟩ => ?_
 have hl := h.left
 by_cases h0 : left = 0
 ·subst h0
  have hl0 : l = 0 := by simpa using hl
  subst hl0
  have hq : y ≠ 0 ∨ 1 > (0 : Int) := .inr (by decide)
  refine ⟨0, u, if d = 0 then 1 else d, if d = 0 then 1 else y, by rw [e1]; simp, ?_, ⟨rfl, h.used, by have := h.sum; omega, ?_, fun _ => rfl⟩, fun _ => ?_⟩
  ·rw [e2, spendC, if_pos hq, lessW_eq (by omega) (by omega) (by omega), moreW_eq (by omega) h.used (by have := h.sum; omega)]
   simp
  ·by_cases hd : d = 0
   ·simp [hd]
   ·simp only [hd, if_false]
    exact ⟨fun hy => (hd (h.dry.1 hy)).elim, fun hd' => hd'.elim⟩
  ·by_cases hd : d = 0
   ·simp [hd]
   ·simp only [hd, if_false]
    exact fun hy => hd (h.dry.1 hy)
 ·have hy : y = 0 := Decidable.byContradiction fun hc => h0 (h.none hc)
  have hd : d = 0 := h.dry.1 hy
  subst hy; subst hd
  have hq : ¬ ((0 : Int) ≠ 0 ∨ 1 > l) := by omega
  refine ⟨l - 1, u + 1, 0, 0, ?_, ?_, ⟨by omega, by have := h.used; omega, by have := h.sum; omega, Iff.rfl, fun h => (h rfl).elim⟩, fun h => (h0 h).elim⟩
  ·rw [e1, decide_eq_true hq, decide_eq_true h0]
  ·rw [e2, spend_one (by omega) h.used (by have := h.sum; omega)]
theorem fail_calls (e1 : Int) : HFn Tryz.prog 120 [.ptr 1 0, nI e1] (wrkO l u d s y c e) (fun r hp' => r = .tup [] ∧ hp' = wrkO l u d s y c (if e = 0 then e1 else e)) :=
 vc120_ok (ITE.intro (fun h => ⟨rfl, by rw [if_pos (by simpa using h)]; rfl⟩) fun h => ⟨rfl, by rw [if_neg (by simpa using h)]; rfl⟩)
theorem units_stop {m : Mt} (h : m.err ≠ 0) : ∀ n, m.units n = (m, false)
 | 0 => by rw [Mt.units, decide_eq_false h]
 | n + 1 => by
  have h1 : m.one = (m, false) := by unfold Mt.one; rw [if_pos h]
  rw [Mt.units, h1]; rfl
theorem units_succ (m : Mt) (n : Nat) : m.units (n + 1) = m.one.1.units n := by
 rw [Mt.units]
 cases h : m.one.2 with
 | true => rfl
 | false => rw [units_stop (one_false h).1]; rfl
theorem MtOk.failed (h : MtOk m l u d y c e) (c' : Int) {e' : Int} (he : e' ≠ 0) (hf : e' = 11 → y ≠ 0) : MtOk ⟨m.left, m.count, e'⟩ l u d y c' e' := ⟨h.bud, rfl, h.most, fun h => (he h).elim, hf⟩
theorem unit_calls (n : Nat) (hn : n ≤ 1000000000) (h : MtOk m l u d y c e) : HFn Tryz.prog 135 [.ptr 1 0, nI n] (wrkO l u d s y c e) (fun r hp' => r = nB (m.units n).2 ∧ MtHp (m.units n).1 hp') := by
 refine vc135_ok ?_
 unfold vc135 vc135_L1
 refine LoopP.intro (β := Nat × Mt × Int × Int × Int × Int × Int × Int × Int) (fun b => (((), (b.1 : Int), ()), ((b.2.2.1, b.2.2.2.1, b.2.2.2.2.1, (0 : Int), b.2.2.2.2.2.1, b.2.2.2.2.2.2.1, ()), ((), b.2.2.2.2.2.2.2.1, b.2.2.2.2.2.2.2.2, ()), ())))
  (fun b => m.units n = b.2.1.units b.1 ∧ b.1 ≤ n ∧ MtOk b.2.1 b.2.2.1 b.2.2.2.1 b.2.2.2.2.1 b.2.2.2.2.2.2.1 b.2.2.2.2.2.2.2.1 b.2.2.2.2.2.2.2.2) (fun b => b.1) (n, m, l, u, d, s, y, c, e) rfl ⟨rfl, Nat.le_refl _, h⟩ ?_
 rintro ⟨k, m', l, u, d, s, y, c, e⟩ ⟨hk, hkn, h⟩ again hag
 dsimp only at hk hkn h ⊢
 have he := h.err
 refine ITE.intro (fun hp => ?_) fun hp => ?_
 ·have hp : (k : Int) > 0 := of_decide_eq_true hp
  obtain ⟨j, rfl⟩ : ∃ j, k = j + 1 := ⟨k - 1, by omega⟩
  have hw : IntKind.wrap .i64 (((j + 1 : Nat) : Int) - 1) = ((j : Nat) : Int) := by rw [wrap_i (by omega) (by omega)]; omega
  refine ITE.intro (fun h1 => ?_) fun h1 => ?_
  ·have he0 : e = 0 := by simpa using h1
   have hm0 : m'.err = 0 := by rw [← he]; exact he0
   have hc := h.count hm0
   subst he0
   rw [units_succ] at hk
   refine ITE.intro (fun h2 => ?_) fun h2 => ?_
   ·have hcc : m'.count = 100000 := by have : c = 100000 := (by simpa using h2); omega
    refine ⟨_, fail_calls 2, fun r q ⟨e1, e2⟩ => ⟨l, u, d, 0, s, y, c, 2, ⟨e1, e2⟩, ?_⟩⟩
    rw [hw]
    have h1 : m'.one.1 = ⟨m'.left, m'.count, 2⟩ := by unfold Mt.one; rw [if_neg (by simp [hm0]), if_pos hcc]
    rw [h1] at hk
    exact hag (j, ⟨m'.left, m'.count, 2⟩, l, u, d, s, y, _, 2) ⟨hk, by omega, h.failed _ (by decide) (fun h => by simp at h)⟩ (Nat.lt_succ_self j)
   ·have hcc : ¬ m'.count = 100000 := by have : ¬ c = 100000 := (by simpa using h2); omega
    refine ⟨_, spend_ok h.bud, fun r q ⟨l', u', d', y', e1, e2, hb, hz⟩ => ⟨l', u', d', 0, s, y', _, ⟨e1, e2⟩, ?_⟩⟩
    refine ITE.intro (fun h3 => ?_) fun h3 => ?_
    ·have h0 : m'.left = 0 := by simpa using h3
     refine ⟨_, fail_calls 11, fun r q ⟨e1, e2⟩ => ⟨l', u', d', 0, s, y', c, 11, ⟨e1, e2⟩, ?_⟩⟩
     rw [hw]
     have h1 : m'.one.1 = ⟨m'.left, m'.count, 11⟩ := by unfold Mt.one; rw [if_neg (by simp [hm0]), if_neg hcc, if_pos h0]
     rw [h1] at hk
     rw [h0] at hb
     exact hag (j, ⟨m'.left, m'.count, 11⟩, l', u', d', s, y', _, 11) ⟨hk, by omega, by rw [h0]; exact hb, rfl, h.most, fun h => by simp at h, fun _ => hz h0⟩ (Nat.lt_succ_self j)
    ·have h0 : ¬ m'.left = 0 := by simpa using h3
     rw [hw]
     have h1 : m'.one.1 = ⟨m'.left - 1, m'.count + 1, 0⟩ := by unfold Mt.one; rw [if_neg (by simp [hm0]), if_neg hcc, if_neg h0, hm0]
     have hcm := h.most
     have hcn : m'.count ≤ 4000000000 := by omega
     rw [h1] at hk
     rw [hc, wrap_n hcn]
     exact hag (j, ⟨m'.left - 1, m'.count + 1, 0⟩, l', u', d', s, y', _, 0) ⟨hk, by omega, hb, rfl, by simp only; omega, fun _ => rfl, fun h => by simp at h⟩ (Nat.lt_succ_self j)
  ·have he0 : ¬ e = 0 := by simpa using h1
   have hm0 : m'.err ≠ 0 := by rw [← he]; exact he0
   rw [units_stop hm0] at hk
   rw [hk]
   exact ⟨by rw [show (e == 0) = false from by simp [he0]], l, u, d, s, y, c, e, rfl, h⟩
 ·have hp : ¬ (k : Int) > 0 := of_decide_eq_false hp
  obtain rfl : k = 0 := by omega
  rw [Mt.units] at hk
  rw [hk]
  refine ⟨?_, l, u, d, s, y, c, e, rfl, h⟩
  rw [he]
  by_cases h0 : m'.err = 0
  ·simp [h0]
  ·simp [h0]
end Go.Proofs.YtghlgbhldnkdmaaGreat

namespace Go.Proofs.YtghlgbhldnkdmaaGreat
open Go
set_option linter.unusedSimpArgs false
set_option linter.unusedVariables false
theorem lifted_calls {B b : Nat} (hB : B ≤ 1000000) : ∀ (n : Nat) (t : Tm) (d : Nat), t.nodes ≤ n → t.Lo B → d + B * n ≤ 4000000000000000000 →
  PureIs Tryz.prog 161 [.agg [.sl (t.binds.map Ty.enc), nI t.kind, nI t.index, .sl (t.args.map Tm.enc)], nI b, nI d] (.agg [.sl ((t.lift b d).binds.map Ty.enc), nI (t.lift b d).kind, nI (t.lift b d).index, .sl ((t.lift b d).args.map Tm.enc)]) := by
 intro n
 induction n with
 | zero => intro t d h; have := t.nodes_pos; omega
 | succ n ih =>
  intro t d h hlo hd
  have hl := Tm.lo_eq.1 hlo
  have hb := Ty.sizes_len t.binds
  have hmul : B * (n + 1) = B * n + B := by rw [Nat.mul_succ]
  have hw : IntKind.wrap .i64 ((d : Int) + ((List.length (t.binds.map Ty.enc) : Nat) : Int)) = ((d + t.binds.length : Nat) : Int) := by
   rw [List.length_map, wrap_i (by omega) (by omega)]; omega
  have ha : (t.lift b d).args = t.args.map (Tm.lift b (d + t.binds.length)) := Tm.lift_args b d t
  have loop : ∀ ix : Int, ix = (t.lift b d).index → vc161_L6 ((b, ((d + t.binds.length : Nat) : Int), (), (), (), t.args.map Tm.enc, ((List.length (t.args.map Tm.enc) : Nat) : Int), 0, ()), ((t.binds.map Ty.enc, t.kind, ix, t.args.map Tm.enc, ()), ((), 0, 0, (), ()), [], ())) (fun x => x = .agg [.sl ((t.lift b d).binds.map Ty.enc), nI (t.lift b d).kind, nI (t.lift b d).index, .sl ((t.lift b d).args.map Tm.enc)]) := by
   intro ix hix
   refine LoopP.intro (fun k : Nat => (((b : Int), ((d + t.binds.length : Nat) : Int), (), (), (), t.args.map Tm.enc, (t.args.length : Int), (k : Int), ()), ((t.binds.map Ty.enc, t.kind, ix, t.args.map Tm.enc, ()), ((), (0 : Int), (0 : Int), (), ()), ((t.lift b d).args.take k).map Tm.enc, ())))
    (fun k => k ≤ t.args.length) (fun k => t.args.length - k) 0 (by rw [List.length_map]; rfl) (Nat.zero_le _) ?_
   intro k hk again hag
   dsimp only
   refine ITE.intro (fun h => ?_) fun h => ?_
   ·have hlt : k < t.args.length := by simpa using h
    have hz : t.args[k].nodes ≤ n := by have := Tm.nodess_mem (List.getElem_mem hlt); have := t.nodes_eq; omega
    have hi := ih t.args[k] (d + t.binds.length) hz (Tm.los_iff.1 hl.2.2 _ (List.getElem_mem hlt)) (by omega)
    have hlt2 : k < (t.lift b d).args.length := by rw [ha, List.length_map]; exact hlt
    have hg : (t.lift b d).args[k] = Tm.lift b (d + t.binds.length) t.args[k] := by simp [ha]
    rw [← hg] at hi
    refine ⟨by omega, by rw [List.length_map]; omega, _, _, _, _, Tm.enc_getD hlt, _, _, _, _, hi, rfl, appOk_nil (fun x hx => by simp at hx; subst hx; rfl) (by simp; omega) (by decide), rfl, ?_⟩
    rw [wrap_n (by omega), Tm.enc_snoc, take_snoc' hlt2]
    exact hag (k + 1) (by omega) (by omega)
   ·have : t.args.length ≤ k := by simpa using h
    refine ⟨rfl, ?_⟩
    rw [List.take_of_length_le (by rw [ha, List.length_map]; exact this), hix, Tm.lift_binds, Tm.lift_kind]
  have hm : ∀ {dd : TD}, dd.bytes ≤ 1000 → (0 ≤ ((List.length (t.args.map Tm.enc) : Nat) : Int) ∧ ((List.length (t.args.map Tm.enc) : Nat) : Int) ≤ 9223372036854775807 ∧ (TD.bytes dd : Int) * ((List.length (t.args.map Tm.enc) : Nat) : Int) ≤ 281474976710656) :=
   fun hd => mkOk hd (by rw [List.length_map]; omega)
  refine vc161_ok ?_
  unfold vc161
  rw [hw]
  have hidx : (t.lift b d).index = if t.kind = 0 ∧ ((d + t.binds.length : Nat) : Int) ≤ t.index then IntKind.wrap .i64 (t.index + b) else t.index := by rw [Tm.lift_eq]; rfl
  refine ITE.intro (fun h => ?_) fun h => ?_
  ·have h0 : t.kind = 0 := by simpa using h
   refine ITE.intro (fun h1 => ?_) fun h1 => ?_
   ·have h1 : ((d + t.binds.length : Nat) : Int) ≤ t.index := of_decide_eq_true h1
    exact ⟨hm (by decide), rfl, loop _ (by rw [hidx, if_pos ⟨h0, h1⟩])⟩
   ·have h1 : ¬ ((d + t.binds.length : Nat) : Int) ≤ t.index := of_decide_eq_false h1
    exact ⟨hm (by decide), rfl, loop _ (by rw [hidx, if_neg (fun h => h1 h.2)])⟩
  ·have h0 : ¬ t.kind = 0 := by simpa using h
   exact ⟨hm (by decide), rfl, loop _ (by rw [hidx, if_neg (fun h => h0 h.1)])⟩
mutual
theorem Tm.lift_zero : ∀ (t : Tm) (d : Nat), t.Ok → t.lift 0 d = t
 | .mk bs k i l, d, h => by
  obtain ⟨h1, h2, h3⟩ := h
  rw [Tm.lift, Tm.lifts_zero l _ h3]
  congr 1
  split
  ·rw [show i + ((0 : Nat) : Int) = i from by omega, h2.wrap]
  ·rfl
theorem Tm.lifts_zero : ∀ (l : List Tm) (d : Nat), Tm.Oks l → Tm.lifts 0 d l = l
 | [], _, _ => rfl
 | t :: l, d, h => by rw [Tm.lifts, Tm.lift_zero t d h.1, Tm.lifts_zero l d h.2]
end
theorem ngrown_calls {B b : Nat} {t : Tm} (hB : B ≤ 1000000) (hn : t.nodes ≤ 1000000000) (hlo : t.Lo B) :
  PureIs Tryz.prog 152 [.agg [.sl (t.binds.map Ty.enc), nI t.kind, nI t.index, .sl (t.args.map Tm.enc)], nI b] (.agg [.sl ((t.lift b 0).binds.map Ty.enc), nI (t.lift b 0).kind, nI (t.lift b 0).index, .sl ((t.lift b 0).args.map Tm.enc)]) := by
 have := Nat.mul_le_mul hB hn
 refine vc152_ok (ITE.intro (fun h => ?_) fun h => ⟨_, _, _, _, lifted_calls (b := b) hB _ t 0 (Nat.le_refl _) hlo (by omega), rfl⟩)
 have h0 : b = 0 := by simpa using h
 subst h0
 rw [Tm.lift_zero t 0 (Tm.lo_ok hlo)]
end Go.Proofs.YtghlgbhldnkdmaaGreat

namespace Go.Proofs.YtghlgbhldnkdmaaGreat
open Go
set_option linter.unusedSimpArgs false
set_option linter.unusedVariables false
theorem units_one (m : Mt) : m.units 1 = m.one := by
 rw [Mt.units]
 cases h : m.one.2 with
 | true =>
  rw [if_pos rfl, Mt.units]
  obtain ⟨_, _, _, h3⟩ := one_true h
  rw [show m.one = (m.one.1, m.one.2) from rfl, h, h3]
  rfl
 | false =>
  rw [if_neg (by simp), ← h]
def MtRes (N : Nat) (m : Mt) (t : Tm) (r : AV) (hp' : List AObj) : Prop := MtHp m hp' ∧ ∃ t' : Tm, r = .agg [.sl (t'.binds.map Ty.enc), nI t'.kind, nI t'.index, .sl (t'.args.map Tm.enc)] ∧ (m.err = 0 → t' = t) ∧ t'.binds.length ≤ N
def ThrP (B f : Nat) : Prop := ∀ (m : Mt) (us : List Tm) (bs : List Ty) (k i : Int) (args : List Tm) (n d : Nat) (l u x s y c e : Int), MtOk m l u x y c e → (m.err = 0 → 100000 < f + m.count) →
 Ty.sizes bs ≤ B → I64 k → I64 i → args.length ≤ B → Tm.Los B args → Tm.Los B us → (∀ t ∈ us, t.nodes ≤ 1000000000) → us.length ≤ n → n ≤ B → d + B * (f + 1) ≤ 4000000000000000000 →
 HFn Tryz.prog 121 [.agg [.ptr 1 0, .sl (us.map Tm.enc), nI n], .agg [.sl (bs.map Ty.enc), nI k, nI i, .sl (args.map Tm.enc)], nI d] (wrkO l u x s y c e)
  (MtRes bs.length (bodyT f m k i args us n (d + bs.length)).1 (.mk bs (bodyT f m k i args us n (d + bs.length)).2.kind (bodyT f m k i args us n (d + bs.length)).2.index (bodyT f m k i args us n (d + bs.length)).2.args))
def PutP (B f : Nat) : Prop := ∀ (m : Mt) (t : Tm) (us : List Tm) (l u x s y c e : Int), MtOk m l u x y c e → (m.err = 0 → 100000 < f + m.count) → t.Lo B → (m.err = 0 → Tm.Los B us ∧ ∀ t ∈ us, t.nodes ≤ 1000000000) →
 B * (f + 1) ≤ 4000000000000000000 →
 HFn Tryz.prog 87 [.ptr 1 0, .agg [.sl (t.binds.map Ty.enc), nI t.kind, nI t.index, .sl (t.args.map Tm.enc)], .sl (us.map Tm.enc)] (wrkO l u x s y c e) (MtRes t.binds.length (putT f m t us).1 (putT f m t us).2)
theorem noTm_res {N : Nat} {m : Mt} {t : Tm} {hp' : List AObj} (h : MtHp m hp') (he : m.err ≠ 0) : ∃ r2, RepW (.agg [.prim (.slice none 0 0), nI 0, nI 0, .prim (.slice none 0 0)]) r2 ∧ MtRes N m t r2 hp' :=
 ⟨_, repw_noTm', h, noTm, rfl, fun h0 => (he h0).elim, Nat.zero_le _⟩
theorem putP_of {B f : Nat} (hB : B ≤ 1000000) (ht : ThrP B f) : PutP B f := by
 intro m t us l u x s y c e hm hf hlo hus hk
 have he := hm.err
 have hl := Tm.lo_eq.1 hlo
 have hbl := Ty.sizes_len t.binds
 refine HFn.repw (vc87_ok (ITE.intro (fun h => ?_) fun h => ?_))
 ·have h0 : ¬ e = 0 := by simpa using h
  have hm0 : m.err ≠ 0 := by rw [← he]; exact h0
  refine ⟨_, fail_calls 1, fun r q ⟨e1, e2⟩ => ⟨l, u, x, 0, s, y, c, _, ⟨e1, e2⟩, ?_⟩⟩
  have : putT f m t us = (m, noTm) := by unfold putT; rw [if_pos hm0]
  rw [this]
  rw [if_neg h0]
  exact noTm_res ⟨l, u, x, s, y, c, e, rfl, hm⟩ hm0
 ·have h0 : e = 0 := by simpa using h
  have hm0 : m.err = 0 := by rw [← he]; exact h0
  obtain ⟨hu, hn⟩ := hus hm0
  refine ITE.intro (fun h => ?_) fun h => ?_
  ·have h1 : t.binds.length < us.length := by have := of_decide_eq_true h; rw [List.length_map, List.length_map] at this; omega
   refine ⟨_, fail_calls 1, fun r q ⟨e1, e2⟩ => ⟨l, u, x, 0, s, y, c, _, ⟨e1, e2⟩, ?_⟩⟩
   have : putT f m t us = (⟨m.left, m.count, 1⟩, noTm) := by unfold putT; rw [if_neg (by simp [hm0]), if_pos h1]
   rw [this, if_pos h0]
   exact noTm_res ⟨l, u, x, s, y, c, 1, rfl, hm.failed c (by decide) (fun h => by simp at h)⟩ (by simp)
  ·have h1 : ¬ t.binds.length < us.length := by have := of_decide_eq_false h; rw [List.length_map, List.length_map] at this; omega
   have hp : putT f m t us = ((bodyT f m t.kind t.index t.args us t.binds.length 0).1, .mk (t.binds.drop us.length) (bodyT f m t.kind t.index t.args us t.binds.length 0).2.kind (bodyT f m t.kind t.index t.args us t.binds.length 0).2.index (bodyT f m t.kind t.index t.args us t.binds.length 0).2.args) := by
    unfold putT; rw [if_neg (by simp [hm0]), if_neg h1]
   have hthr := ht m us [] t.kind t.index t.args t.binds.length 0 l u x s y c e hm hf (by simp [Ty.sizes]) hl.2.1.1 hl.2.1.2 hl.1.2 hl.2.2 hu hn (by omega) (by omega) (by omega)
   rw [List.length_nil, Nat.add_zero] at hthr
   rw [hp]
   generalize bodyT f m t.kind t.index t.args us t.binds.length 0 = q at hthr
   rw [List.length_map, List.length_map]
   refine ⟨_, HFn.args (by exact ⟨RepW.refl _, RepW.agg ⟨repw_nil, RepW.refl _, RepW.refl _, RepW.refl _, True.intro⟩, RepW.refl _, True.intro⟩) hthr, fun r hq ⟨⟨l', u', x', s', y', c', e', e2, hm'⟩, t', e1, ht', _⟩ => ⟨l', u', x', 0, s', y', c', e', _, _, _, _, ⟨e1, e2⟩, ?_⟩⟩
   refine ⟨⟨by omega, by omega, by omega, fun z hz => Ty.enc_cells z hz⟩, ?_⟩
   rw [Int.toNat_natCast, Int.toNat_natCast, List.take_of_length_le (by rw [List.length_map]; omega), ← List.map_drop]
   refine ⟨_, RepW.refl _, ⟨l', u', x', s', y', c', e', rfl, hm'⟩, .mk (t.binds.drop us.length) t'.kind t'.index t'.args, rfl, fun h => ?_, by rw [Tm.binds_mk, List.length_drop]; omega⟩
   rw [ht' h]; rfl
theorem thrP_zero {B : Nat} (hB : B ≤ 1000000) : ThrP B 0 := by
 intro m us bs k i args n d l u x s y c e hm hf hbs hk hi hla hlo hus hun hn hnB hd
 have hm0 : m.err ≠ 0 := fun h => by have := hf h; have := hm.most; omega
 refine HFn.repw (vc121_ok ⟨_, unit_calls 1 (by omega) hm, fun r q ⟨e1, l', u', x', s', y', c', e', e2, hm'⟩ => ⟨l', u', x', 0, s', y', c', e', _, ⟨e1, e2⟩, ?_⟩⟩)
 rw [units_stop hm0] at hm' ⊢
 refine ITE.pos rfl ?_
 rw [(bodyT_to 0 m k i args us n (d + bs.length)).stop hm0]
 exact noTm_res ⟨l', u', x', s', y', c', e', rfl, hm'⟩ hm0
theorem thrP_succ {B f : Nat} (hB : B ≤ 1000000) (ih : ThrP B f) : ThrP B (f + 1) := by
 have hput := putP_of hB ih
 intro m us bs k i args n d l u x s y c e hm hf hbs hk hi hla hlo hus hun hn hnB hd
 have hbl := Ty.sizes_len bs
 have hmul : B * (f + 1 + 1) = B * (f + 1) + B := Nat.mul_succ _ _
 have hBf : B ≤ B * (f + 1) := Nat.le_mul_of_pos_right _ (Nat.succ_pos f)
 refine HFn.repw (vc121_ok ⟨_, unit_calls 1 (by omega) hm, fun r q ⟨e1, l', u', x', s', y', c', e', e2, hm'⟩ => ⟨l', u', x', 0, s', y', c', e', _, ⟨e1, e2⟩, ?_⟩⟩)
 rw [units_one] at hm' ⊢
 have hw : IntKind.wrap .i64 ((d : Int) + ((List.length (bs.map Ty.enc) : Nat) : Int)) = ((d + bs.length : Nat) : Int) := by
  rw [List.length_map, wrap_i (by omega) (by omega)]; omega
 rw [hw]
 generalize hD : d + bs.length = D
 have hD2 : D + B * (f + 1) ≤ 4000000000000000000 := by omega
 refine ITE.intro (fun h => ?_) fun h => ⟨rfl, ?_⟩
 ·have h : m.one.2 = false := by simpa using h
  have : bodyT (f + 1) m k i args us n D = (m.one.1, noTm) := by rw [bodyT, if_pos h]
  rw [this]
  exact noTm_res ⟨l', u', x', s', y', c', e', rfl, hm'⟩ (one_false h).1
 have h : m.one.2 = true := by simpa using h
 obtain ⟨g0, g1, g2, g3⟩ := one_true h
 have hbody : bodyT (f + 1) m k i args us n D = headT (bodyT f) (goArgs (withinT (bodyT f) us n D) m.one.1 args) k i us n D := by rw [bodyT, if_neg (by simp [h])]
 rw [hbody]
 have hcnt : m.one.1.count = m.count + 1 := by rw [g3]
 have hfuel : ∀ m' : Mt, m.one.1.To m' → m'.err = 0 → 100000 < f + m'.count := fun m' h h0 => by have := h.more; have := hf g0; omega
 have hkeep := withinT_to f us n D
 have hform : ∀ (l : List Tm) (m' : Mt), (∀ t ∈ l, t ∈ args) → (goArgs (withinT (bodyT f) us n D) m' l).1.err = 0 → Tm.nodess (goArgs (withinT (bodyT f) us n D) m' l).2 + m'.count ≤ (goArgs (withinT (bodyT f) us n D) m' l).1.count ∧ Tm.Los B (goArgs (withinT (bodyT f) us n D) m' l).2 := by
  intro l m' hsub he0
  refine goArgs_form hkeep l m' (fun t ht m'' hto' he' => ?_) he0
  have hlo' := Tm.lo_eq.1 (Tm.los_iff.1 hlo t (hsub t ht))
  have := bodyT_form (B := B) f m'' t.kind t.index t.args us n (D + t.binds.length) hlo'.2.1.1 hlo'.2.1.2 hlo'.1.2 hlo'.2.2 hus hn he'
  have hq := Tm.lo_eq.1 this.1.lo
  have hqn := this.1.nodes
  rw [Tm.nodes_eq] at hqn
  exact ⟨by unfold withinT; rw [Tm.nodes_eq, Tm.args_mk]; exact hqn, Tm.lo_eq.2 ⟨⟨hlo'.1.1, hq.1.2⟩, hq.2⟩⟩
 have hlen := goArgs_len (g := withinT (bodyT f) us n D) args m.one.1
 have hlos := hform args m.one.1 fun t h => h
 unfold vc121_L6
 refine LoopP.intro (β := Nat × Mt × Int × Int × Int × Int × Int × Int × Int × List Tm) (fun b => (((D : Int), (), (), (), (), args.map Tm.enc, (args.length : Int), (b.1 : Int), ()), ((b.2.2.1, b.2.2.2.1, b.2.2.2.2.1, (0 : Int), b.2.2.2.2.2.1, b.2.2.2.2.2.2.1, ()), ((), b.2.2.2.2.2.2.2.1, b.2.2.2.2.2.2.2.2.1, ()), ((), us.map Tm.enc, (n : Int), ()), (bs.map Ty.enc, k, i, args.map Tm.enc, ()), ((), (0 : Int), (0 : Int), (), ()), (bs.map Ty.enc, k, i, (), ()), b.2.2.2.2.2.2.2.2.2.map Tm.enc, ())))
  (fun b => b.1 ≤ args.length ∧ MtOk b.2.1 b.2.2.1 b.2.2.2.1 b.2.2.2.2.1 b.2.2.2.2.2.2.1 b.2.2.2.2.2.2.2.1 b.2.2.2.2.2.2.2.2.1 ∧ m.one.1.To b.2.1 ∧ b.2.2.2.2.2.2.2.2.2.length = b.1 ∧
   ∃ pre : List Tm, goArgs (withinT (bodyT f) us n D) m.one.1 args = ((goArgs (withinT (bodyT f) us n D) b.2.1 (args.drop b.1)).1, pre ++ (goArgs (withinT (bodyT f) us n D) b.2.1 (args.drop b.1)).2) ∧ (b.2.1.err = 0 → b.2.2.2.2.2.2.2.2.2 = pre))
  (fun b => args.length - b.1) (0, m.one.1, l', u', x', s', y', c', e', []) (by rw [List.length_map]; rfl) ⟨Nat.zero_le _, hm', .refl _, rfl, [], by rw [List.drop_zero, List.nil_append], fun _ => rfl⟩ ?_
 rintro ⟨j, m', l, u, x, s, y, c, e, acc⟩ ⟨hj, hm', hto, hacc, pre, hgo, hpre⟩ again hag
 dsimp only at hj hm' hto hacc hgo hpre ⊢
 have he := hm'.err
 refine ITE.intro (fun h => ?_) fun h => ?_
 ·have hlt : j < args.length := by simpa using h
  have hlo' := Tm.lo_eq.1 (Tm.los_iff.1 hlo args[j] (List.getElem_mem hlt))
  have hstep : vc121_L8 (((D : Int), (), (), (), (), args.map Tm.enc, (args.length : Int), (j : Int), ()), ((l, u, x, (0 : Int), s, y, ()), ((), c, e, ()), ((), us.map Tm.enc, (n : Int), ()), (bs.map Ty.enc, k, i, args.map Tm.enc, ()), ((), (0 : Int), (0 : Int), (), ()), (bs.map Ty.enc, k, i, (), ()), acc.map Tm.enc, ())) (args[j].binds.map Ty.enc) args[j].kind args[j].index (args[j].args.map Tm.enc) again := by
   refine ⟨_, ih m' us args[j].binds args[j].kind args[j].index args[j].args n D l u x s y c e hm' (hfuel m' hto) hlo'.1.1 hlo'.2.1.1 hlo'.2.1.2 hlo'.1.2 hlo'.2.2 hus hun hn hnB hD2, fun r q ⟨⟨l', u', x', s', y', c', e', e2, hm''⟩, t', e1, ht', _⟩ => ⟨l', u', x', 0, s', y', c', e', _, _, _, _, ⟨e1, e2⟩, rfl, appOk_nil (fun z hz => by simp at hz; subst hz; rfl) (by simp [hacc]; omega) (by decide), rfl, ?_⟩⟩
   have hto2 := hkeep m' args[j]
   rw [wrap_n (by omega), Tm.enc_snoc]
   refine hag (j + 1, (withinT (bodyT f) us n D m' args[j]).1, l', u', x', s', y', c', e', acc ++ [t']) ⟨hlt, hm'', hto.trans hto2, by simp [hacc], pre ++ [(withinT (bodyT f) us n D m' args[j]).2], ?_, fun h0 => ?_⟩ (by simp only; omega)
   ·rw [hgo, goArgs_drop hlt, List.append_assoc, List.singleton_append]
   ·rw [hpre (hto2.ok h0), ht' h0]; rfl
  exact ⟨by omega, by rw [List.length_map]; omega, _, _, _, _, Tm.enc_getD hlt, hstep, hstep⟩
 ·have hge : args.length ≤ j := by simpa using h
  have hj' : j = args.length := by omega
  subst hj'
  rw [List.drop_length, goArgs, List.append_nil] at hgo
  rw [hgo] at hlen hlos ⊢
  simp only at hlen hlos
  have good : m'.err = 0 → acc = pre := hpre
  have fin : ∀ (i' : Int) (T : Mt × Tm), T.1 = m' → (m'.err = 0 → T.2 = .mk [] k i' pre) → ∃ r2, RepW (.agg [.sl (bs.map Ty.enc), nI k, nI i', .sl (acc.map Tm.enc)]) r2 ∧ MtRes bs.length T.1 (.mk bs T.2.kind T.2.index T.2.args) r2 (wrkO l u x s y c e) := by
   intro i' T h1 h2
   refine ⟨_, RepW.refl _, ⟨l, u, x, s, y, c, e, rfl, by rw [h1]; exact hm'⟩, .mk bs k i' acc, rfl, fun h0 => ?_, Nat.le_refl _⟩
   rw [h1] at h0
   rw [h2 h0, good h0]; rfl
  unfold headT
  by_cases h0 : m'.err = 0
  ·rw [if_neg (by simp [h0])]
   have hacc2 := good h0
   obtain ⟨q1, q2⟩ := hlos h0
   refine ITE.intro (fun h => ?_) fun h => ?_
   ·have h1 : ¬ k = 0 := by simpa using h
    rw [if_pos (.inl h1)]
    exact ⟨rfl, fin i _ rfl fun _ => rfl⟩
   ·have h1 : k = 0 := by simpa using h
    refine ITE.intro (fun h => ?_) fun h => ?_
    ·have h2 : i < D := of_decide_eq_true h
     rw [if_pos (.inr h2)]
     exact ⟨rfl, fin i _ rfl fun _ => rfl⟩
    ·have h2 : ¬ i < D := of_decide_eq_false h
     rw [if_neg (fun h => h.elim (fun h => h h1) h2)]
     have hi2 := hi.2
     have hw1 : IntKind.wrap .i64 (i - (D : Int)) = i - D := wrap_i (by omega) (by omega)
     have hw2 : IntKind.wrap .i64 ((n : Int) - ((List.length (us.map Tm.enc) : Nat) : Int)) = (n : Int) - us.length := by rw [List.length_map]; exact wrap_i (by omega) (by omega)
     have hw3 : IntKind.wrap .i64 ((n : Int) - 1) = (n : Int) - 1 := wrap_i (by omega) (by omega)
     rw [hw1, hw2]
     refine ITE.intro (fun h => ?_) fun h => ?_
     ·have h3 : i - (D : Int) < (n : Int) - us.length := of_decide_eq_true h
      rw [if_neg (by omega), if_pos (by omega)]
      exact ⟨rfl, fin i _ rfl fun _ => rfl⟩
     ·have h3 : ¬ i - (D : Int) < (n : Int) - us.length := of_decide_eq_false h
      refine ITE.intro (fun h => ?_) fun h => ?_
      ·have h4 : i - (D : Int) ≥ n := of_decide_eq_true h
       rw [if_pos (by omega)]
       have hw4 : IntKind.wrap .i64 (i - ((List.length (us.map Tm.enc) : Nat) : Int)) = i - us.length := by rw [List.length_map]; exact wrap_i (by omega) (by omega)
       rw [hw4]
       exact ⟨rfl, fin _ _ rfl fun _ => rfl⟩
      ·have h4 : ¬ i - (D : Int) ≥ n := of_decide_eq_false h
       rw [if_neg (by omega), if_neg (by omega)]
       rw [hw3]
       have hw5 : IntKind.wrap .i64 ((n : Int) - 1 - (i - (D : Int))) = ((n - 1 - (i - D).toNat : Nat) : Int) := by rw [wrap_i (by omega) (by omega)]; omega
       have hw6 : IntKind.wrap .i64 (IntKind.wrap .i64 ((D : Int) + n) - ((List.length (us.map Tm.enc) : Nat) : Int)) = ((D + n - us.length : Nat) : Int) := by
        rw [List.length_map, wrap_i (n := (D : Int) + n) (by omega) (by omega), wrap_i (by omega) (by omega)]; omega
       rw [hw5, hw6]
       have hlt : n - 1 - (i - D).toNat < us.length := by omega
       generalize hv : n - 1 - (i - D).toNat = v at hlt
       have hst : standT us i n D = us[v].lift (D + n - us.length) 0 := by
        unfold standT
        rw [hv, List.getD_eq_getElem?_getD, List.getElem?_eq_getElem hlt]; rfl
       have hgr := ngrown_calls (b := D + n - us.length) hB (hun _ (List.getElem_mem hlt)) (Tm.los_iff.1 hus _ (List.getElem_mem hlt))
       rw [← hst] at hgr
       refine ⟨by omega, by rw [List.length_map]; omega, _, _, _, _, Tm.enc_getD hlt, _, _, _, _, hgr, rfl, ?_⟩
       refine ITE.intro (fun h => ?_) fun h => ⟨rfl, ?_⟩
       ·have h5 : (standT us i n D).binds.length ≠ pre.length := by rw [← hacc2]; intro e; apply (show ¬ _ from by simpa using h); omega
        rw [if_pos h5]
        refine ⟨_, fail_calls 1, fun r q ⟨e1, e2⟩ => ⟨l, u, x, 0, s, y, c, _, ⟨e1, e2⟩, ?_⟩⟩
        rw [if_pos (by rw [he]; exact h0)]
        exact noTm_res ⟨l, u, x, s, y, c, 1, rfl, hm'.failed c (by decide) (fun h => by simp at h)⟩ (by simp)
       ·have h5 : ¬ (standT us i n D).binds.length ≠ pre.length := by
         have h6 : ((standT us i n D).binds.length : Int) = acc.length := by simpa using h
         rw [← hacc2]; omega
        rw [if_neg h5]
        have hpt := hput m' (standT us i n D) acc l u x s y c e hm' (hfuel m' hto) (standT_lo hus i n D) (fun _ => by
         rw [hacc2]
         refine ⟨q2, fun t ht => ?_⟩
         have h1 := Tm.nodess_mem ht
         have h2 := hm'.most
         omega) (by omega)
        rw [hacc2] at hpt ⊢
        have hp : putT f m' (standT us i n D) pre = ((bodyT f m' (standT us i n D).kind (standT us i n D).index (standT us i n D).args pre (standT us i n D).binds.length 0).1, .mk ((standT us i n D).binds.drop pre.length) (bodyT f m' (standT us i n D).kind (standT us i n D).index (standT us i n D).args pre (standT us i n D).binds.length 0).2.kind (bodyT f m' (standT us i n D).kind (standT us i n D).index (standT us i n D).args pre (standT us i n D).binds.length 0).2.index (bodyT f m' (standT us i n D).kind (standT us i n D).index (standT us i n D).args pre (standT us i n D).binds.length 0).2.args) := by
         unfold putT; rw [if_neg (by simp [h0]), if_neg (by simp at h5; omega)]
        rw [hp] at hpt
        generalize bodyT f m' (standT us i n D).kind (standT us i n D).index (standT us i n D).args pre (standT us i n D).binds.length 0 = T at hpt
        refine ⟨_, hpt, fun r q ⟨⟨l', u', x', s', y', c', e', e2, hm''⟩, t', e1, ht', _⟩ => ⟨l', u', x', 0, s', y', c', e', _, _, _, _, ⟨e1, e2⟩, ?_⟩⟩
        refine ⟨_, RepW.refl _, ⟨l', u', x', s', y', c', e', rfl, hm''⟩, .mk bs t'.kind t'.index t'.args, rfl, fun h0 => ?_, Nat.le_refl _⟩
        rw [ht' h0]; rfl
  ·rw [if_pos h0]
   have stop : ∀ (i' : Int) (a : List Tm), ∃ r2, RepW (.agg [.sl (bs.map Ty.enc), nI k, nI i', .sl (a.map Tm.enc)]) r2 ∧ MtRes bs.length m' (.mk bs noTm.kind noTm.index noTm.args) r2 (wrkO l u x s y c e) := fun i' a =>
    ⟨_, RepW.refl _, ⟨l, u, x, s, y, c, e, rfl, hm'⟩, .mk bs k i' a, rfl, fun h => (h0 h).elim, Nat.le_refl _⟩
   have he0 : ¬ e = 0 := by rw [he]; exact h0
   refine ITE.intro (fun h => ⟨rfl, stop i acc⟩) fun h => ?_
   refine ITE.intro (fun h => ⟨rfl, stop i acc⟩) fun h2 => ?_
   have h2 : ¬ i < D := of_decide_eq_false h2
   have hi2 := hi.2
   have hw1 : IntKind.wrap .i64 (i - (D : Int)) = i - D := wrap_i (by omega) (by omega)
   have hw2 : IntKind.wrap .i64 ((n : Int) - ((List.length (us.map Tm.enc) : Nat) : Int)) = (n : Int) - us.length := by rw [List.length_map]; exact wrap_i (by omega) (by omega)
   have hw3 : IntKind.wrap .i64 ((n : Int) - 1) = (n : Int) - 1 := wrap_i (by omega) (by omega)
   rw [hw1, hw2]
   refine ITE.intro (fun h => ⟨rfl, stop i acc⟩) fun h3 => ?_
   have h3 : ¬ i - (D : Int) < (n : Int) - us.length := of_decide_eq_false h3
   refine ITE.intro (fun h => ⟨rfl, stop _ acc⟩) fun h4 => ?_
   have h4 : ¬ i - (D : Int) ≥ n := of_decide_eq_false h4
   rw [hw3]
   have hw5 : IntKind.wrap .i64 ((n : Int) - 1 - (i - (D : Int))) = ((n - 1 - (i - D).toNat : Nat) : Int) := by rw [wrap_i (by omega) (by omega)]; omega
   have hw6 : IntKind.wrap .i64 (IntKind.wrap .i64 ((D : Int) + n) - ((List.length (us.map Tm.enc) : Nat) : Int)) = ((D + n - us.length : Nat) : Int) := by
    rw [List.length_map, wrap_i (n := (D : Int) + n) (by omega) (by omega), wrap_i (by omega) (by omega)]; omega
   rw [hw5, hw6]
   have hlt : n - 1 - (i - D).toNat < us.length := by omega
   generalize hv : n - 1 - (i - D).toNat = v at hlt
   have hgr := ngrown_calls (b := D + n - us.length) hB (hun _ (List.getElem_mem hlt)) (Tm.los_iff.1 hus _ (List.getElem_mem hlt))
   have hglo := Tm.lo_lift (b := D + n - us.length) 0 (Tm.los_iff.1 hus _ (List.getElem_mem hlt))
   refine ⟨by omega, by rw [List.length_map]; omega, _, _, _, _, Tm.enc_getD hlt, _, _, _, _, hgr, rfl, ?_⟩
   generalize us[v].lift (D + n - us.length) 0 = g at hglo
   refine ITE.intro (fun h => ?_) fun h => ⟨rfl, ?_⟩
   ·refine ⟨_, fail_calls 1, fun r q ⟨e1, e2⟩ => ⟨l, u, x, 0, s, y, c, _, ⟨e1, e2⟩, ?_⟩⟩
    rw [if_neg he0]
    exact noTm_res ⟨l, u, x, s, y, c, e, rfl, hm'⟩ h0
   ·have hpt := hput m' g acc l u x s y c e hm' (fun h => (h0 h).elim) hglo (fun h => (h0 h).elim) (by omega)
    rw [show putT f m' g acc = (m', noTm) from by unfold putT; rw [if_pos h0]] at hpt
    refine ⟨_, hpt, fun r q ⟨⟨l', u', x', s', y', c', e', e2, hm''⟩, t', e1, ht', _⟩ => ⟨l', u', x', 0, s', y', c', e', _, _, _, _, ⟨e1, e2⟩, ?_⟩⟩
    exact ⟨_, RepW.refl _, ⟨l', u', x', s', y', c', e', rfl, hm''⟩, .mk bs t'.kind t'.index t'.args, rfl, fun h => (h0 h).elim, Nat.le_refl _⟩
theorem thrP {B : Nat} (hB : B ≤ 1000000) : ∀ f, ThrP B f
 | 0 => thrP_zero hB
 | f + 1 => thrP_succ hB (thrP hB f)
theorem putP {B : Nat} (hB : B ≤ 1000000) (f : Nat) : PutP B f := putP_of hB (thrP hB f)
end Go.Proofs.YtghlgbhldnkdmaaGreat

namespace Go.Proofs.YtghlgbhldnkdmaaGreat
open Go
set_option linter.unusedSimpArgs false
set_option linter.unusedVariables false
theorem repw_tup2 {x y : AV} {n : Int} (h : RepW x y) : RepW (.tup [x, nI n]) (.tup [y, nI n]) := RepW.tup ⟨h, RepW.refl _, True.intro⟩
theorem ndone_calls {m : Mt} {t t' : Tm} {l u x s y c e : Int} (hm : MtOk m l u x y c e) (ht : m.err = 0 → t' = t) (h : m.err = 0 → t.size ≤ 500000000 ∧ t.Ok) :
  HFn Tryz.prog 86 [.ptr 1 0, .agg [.sl (t'.binds.map Ty.enc), nI t'.kind, nI t'.index, .sl (t'.args.map Tm.enc)]] (wrkO l u x s y c e)
   (fun r hp' => MtHp (doneT (m, t)).1 hp' ∧ r = .tup [.agg [.sl ((doneT (m, t)).2.binds.map Ty.enc), nI (doneT (m, t)).2.kind, nI (doneT (m, t)).2.index, .sl ((doneT (m, t)).2.args.map Tm.enc)], nI (doneT (m, t)).1.err]) := by
 have he := hm.err
 have zero : ∀ {m' : Mt} {n : Int} {hp' : List AObj}, MtHp m' hp' → m'.err = n → doneT (m, t) = (m', noTm) → ∃ r2, RepW (.tup [.agg [.prim (.slice none 0 0), nI 0, nI 0, .prim (.slice none 0 0)], nI n]) r2 ∧ (MtHp (doneT (m, t)).1 hp' ∧ r2 = .tup [.agg [.sl ((doneT (m, t)).2.binds.map Ty.enc), nI (doneT (m, t)).2.kind, nI (doneT (m, t)).2.index, .sl ((doneT (m, t)).2.args.map Tm.enc)], nI (doneT (m, t)).1.err]) := by
  intro m' n hp' h1 h2 h3
  rw [h3]
  exact ⟨_, repw_tup2 repw_noTm', h1, by rw [← h2]; rfl⟩
 refine HFn.repw (vc86_ok (ITE.intro (fun h0 => ?_) fun h0 => ?_))
 ·have he0 : e = 0 := by simpa using h0
  have hm0 : m.err = 0 := by rw [← he]; exact he0
  obtain ⟨hs, hk⟩ := h hm0
  rw [ht hm0]
  have hcp := copy_calls (t := t) (by omega) hk
  rw [Tm.enc_eq] at hcp
  refine ⟨_, tright_calls hs, ITE.intro (fun h1 => ?_) fun h1 => ?_⟩
  ·have h1 : trest 0 (t.pre 0 1) = false := by simpa using h1
   refine ⟨_, fail_calls 2, fun r q ⟨e1, e2⟩ => ⟨l, u, x, 0, s, y, c, _, ⟨e1, e2⟩, ?_⟩⟩
   rw [if_pos he0]
   refine ITE.pos rfl ?_
   exact zero (m' := ⟨m.left, m.count, 2⟩) ⟨l, u, x, s, y, c, 2, rfl, hm.failed c (by decide) (fun h => by simp at h)⟩ rfl (by unfold doneT; rw [if_neg (by simp [hm0]), if_neg (by rw [h1]; simp)])
  ·have h1 : trest 0 (t.pre 0 1) = true := by simpa using h1
   refine ITE.neg (by rw [he0]; rfl) ⟨_, _, _, _, hcp, ?_⟩
   have hd : doneT (m, t) = (m, t) := by unfold doneT; rw [if_neg (by simp [hm0]), if_pos h1]
   rw [hd]
   refine ⟨_, RepW.refl _, ⟨l, u, x, s, y, c, e, rfl, hm⟩, ?_⟩
   rw [hm0]
 ·have he0 : ¬ e = 0 := by simpa using h0
  have hm0 : m.err ≠ 0 := by rw [← he]; exact he0
  refine ITE.pos (by simp [he0]) ?_
  exact zero (m' := m) ⟨l, u, x, s, y, c, e, rfl, hm⟩ he.symm (by unfold doneT; rw [if_pos hm0])
theorem typ_head {c m x : List Ty} {k i : Int} {t u : Ty} {l : List Rw} (h3 : ¬ k = 3) (h4 : ¬ k = 4) (h : Rw.Typ c m x (.mk k t i l) u) : headTy c m x k i = some u := by
 rw [Rw.Typ, if_neg h3, if_neg h4] at h
 exact h.1
theorem typ_bound {c m x : List Ty} {i : Int} {u : Ty} (h : headTy c m x 0 i = some u) : 0 ≤ i ∧ i < x.length := by
 unfold headTy at h
 split at h
 ·cases h
 ·rw [if_pos rfl] at h
  split at h
  ·omega
  ·cases h
theorem nlong_calls {S : Nat} {b : Int} {c m : List Ty} (hc : ∀ t ∈ c, t.size ≤ S) (hm : ∀ t ∈ m, t.size ≤ S) (hS : S ≤ 1000) :
  ∀ (n : Nat) (r : Rw) (st : Mt) (x : List Ty) (ty : Ty) (l u d s y cn e : Int), r.total ≤ n → r.total ≤ S → Rw.Typ c m x r ty → r.Ok → r.shaped = true → (∀ t ∈ x, t.size ≤ S) → x.length + r.total ≤ 1000 → MtOk st l u d y cn e →
  HFn Tryz.prog 101 [.ptr 1 0, .agg [nI b, .sl (c.map Ty.enc), .sl (m.map Ty.enc)], .sl (x.map Ty.enc), .agg [nI r.kind, .sl (r.type.args.map Ty.enc), nI r.type.base, nI r.index, .sl (r.kids.map Rw.enc)]] (wrkO l u d s y cn e)
   (MtRes (S + r.total) (Rw.long c m st x r).1 (Rw.long c m st x r).2) := by
 intro n
 induction n with
 | zero => intro r st x ty l u d s y cn e h; have := r.total_pos; omega
 | succ n ih =>
  intro r st x ty l u d s y cn e hn hrS hty hok hsh hx hxl hmt
  have he := hmt.err
  have hrt := r.total_eq
  obtain ⟨k, t, i, kids⟩ := r
  simp only [Rw.kind_mk, Rw.type_mk, Rw.index_mk, Rw.kids_mk] at hrt ⊢
  obtain ⟨hk1, hk2, hk3⟩ := hok
  refine HFn.repw (vc101_ok (ITE.intro (fun h => ?_) fun h => ?_))
  ·have h0 : ¬ e = 0 := by simpa using h
   have hm0 : st.err ≠ 0 := by rw [← he]; exact h0
   rw [Rw.long, if_pos hm0]
   exact noTm_res ⟨l, u, d, s, y, cn, e, rfl, hmt⟩ hm0
  have h0 : e = 0 := by simpa using h
  have hm0 : st.err = 0 := by rw [← he]; exact h0
  rw [Rw.long, if_neg (by simp [hm0])]
  refine ITE.intro (fun h => ?_) fun h => ?_
  ·have h3 : k = 3 := by simpa using h
   rw [if_pos h3]
   rw [Rw.Typ, if_pos h3] at hty
   obtain ⟨v, hv, hty⟩ := hty
   obtain ⟨a, rfl, hta⟩ := typL_one hty
   have hsa : a.shaped = true := by
    rw [Rw.shaped_eq, Rw.kids_mk, show Rw.shapeds [a] = (a.shaped && Rw.shapeds []) from Rw.shapeds_drop (l := [a]) (k := 0) (by simp)] at hsh
    simp only [Bool.and_eq_true] at hsh
    exact hsh.2.1
   have hat : Rw.totals [a] = a.total := by simp [Rw.totals]
   have htz := t.size_pos
   rw [hat] at hrt
   have hi := ih a st (x ++ [t]) v l u d s y cn e (by omega) (by omega) hta hk3.1 hsa (fun w hw => (List.mem_append.1 hw).elim (hx w) fun h => by rw [List.mem_singleton.1 h]; omega) (by rw [List.length_append, List.length_singleton]; omega) hmt
   have hone : [AV.agg [.sl (t.args.map Ty.enc), nI t.base]] = [t].map Ty.enc := one_enc t
   rw [List.map_append, ← hone] at hi
   have hL : vc101_L5 (x.map Ty.enc) (t.args.map Ty.enc) t.base b (c.map Ty.enc) (m.map Ty.enc) a.kind (a.type.args.map Ty.enc) a.type.base a.index (a.kids.map Rw.enc) l u d 0 s y cn e (fun r hp' => ∃ r2, RepW r r2 ∧ MtRes (S + (Rw.mk k t i [a]).total) (lamL t (Rw.longs c m st (x ++ [t]) [a])).1 (lamL t (Rw.longs c m st (x ++ [t]) [a])).2 r2 hp') := by
    refine ⟨rfl, _, hi, fun r q ⟨⟨l', u', d', s', y', c', e', e2, hm'⟩, t', e1, ht', htl⟩ => ⟨l', u', d', 0, s', y', c', e', _, _, _, _, ⟨e1, e2⟩, ?_⟩⟩
    have hcc := concat_calls (ll := [[t], t'.binds]) (by simp) (by simp; omega)
    simp only [encRows, List.map_cons, List.map_nil, List.flatten_cons, List.flatten_nil, List.append_nil] at hcc
    rw [Ty.enc_eq] at hcc
    refine ⟨_, hcc, _, RepW.refl _, ?_⟩
    rw [Rw.longs, Rw.longs]
    have hb1 : (lamL t ((Rw.long c m st (x ++ [t]) a).1, [(Rw.long c m st (x ++ [t]) a).2])).1 = (Rw.long c m st (x ++ [t]) a).1 := by unfold lamL; split <;> rfl
    refine ⟨(by rw [hb1]; exact ⟨l', u', d', s', y', c', e', rfl, hm'⟩), .mk (t :: t'.binds) t'.kind t'.index t'.args, ?_, fun h0 => ?_, ?_⟩
    ·simp only [Tm.binds_mk, Tm.kind_mk, Tm.index_mk, Tm.args_mk, List.map_cons, Ty.enc_eq, List.singleton_append, List.cons_append, List.nil_append]
    ·simp only at h0 ⊢
     rw [hb1] at h0
     rw [ht' h0]
     unfold lamL
     rw [if_neg (by simp [h0])]
     rfl
    ·rw [Tm.binds_mk, List.length_cons, Rw.total, hat]; omega
   have hap : ∀ {dd : TD}, dd.size = 2 → dd.bytes ≤ 1000 → appOk dd (List.length (x.map Ty.enc ++ [.agg [.sl (t.args.map Ty.enc), nI t.base]])) (x.map Ty.enc) [.agg [.sl (t.args.map Ty.enc), nI t.base]] := fun hz hd =>
    appOk_mk (fun z hz' => by rw [hz]; exact Ty.enc_cells z hz') (fun z hz' => by simp at hz'; subst hz'; rw [hz]; rfl) (by simp; omega) hd
   refine ⟨_, clipT_calls, by omega, by simp, _, _, _, _, _, Rw.enc_getD (l := [a]) (k := 0) (by simp), ⟨fun h => by simp at h, hap rfl (by decide), hL, hL⟩, ⟨fun h => by simp at h, hap rfl (by decide), hL⟩⟩
  have h3 : ¬ k = 3 := by simpa using h
  rw [if_neg h3]
  refine ITE.intro (fun h => ?_) fun h => ?_
  ·have h4 : k = 4 := by simpa using h
   rw [if_pos h4]
   rw [Rw.Typ, if_neg h3, if_pos h4] at hty
   obtain ⟨v, hty⟩ := hty
   obtain ⟨f, a, rfl, htf, hta⟩ := typL_two hty
   have hsfa : f.shaped = true ∧ a.shaped = true := by
    rw [Rw.shaped_eq, Rw.kids_mk, show Rw.shapeds [f, a] = (f.shaped && Rw.shapeds [a]) from Rw.shapeds_drop (l := [f, a]) (k := 0) (by simp), show Rw.shapeds [a] = (a.shaped && Rw.shapeds []) from Rw.shapeds_drop (l := [a]) (k := 0) (by simp)] at hsh
    simp only [Bool.and_eq_true] at hsh
    exact ⟨hsh.2.1, hsh.2.2.1⟩
   have hat : Rw.totals [f, a] = f.total + a.total := by simp [Rw.totals]
   have htz := t.size_pos
   have hfp := f.total_pos
   have hap := a.total_pos
   rw [hat] at hrt
   have hf1 := ih f st x _ l u d s y cn e (by omega) (by omega) htf hk3.1 hsfa.1 hx (by omega) hmt
   have hto1 := Rw.long_to c m f st x
   have hff := Rw.long_form hc hm (by omega) f st x hx (by omega) hk3.1 hsfa.1
   have hL : vc101_L9 b (c.map Ty.enc) (m.map Ty.enc) (x.map Ty.enc) f.kind (f.type.args.map Ty.enc) f.type.base f.index (f.kids.map Rw.enc) l u d 0 s y cn e ([f, a].map Rw.enc) (fun r hp' => ∃ r2, RepW r r2 ∧ MtRes (S + (Rw.mk k t i [f, a]).total) (appL (Rw.longs c m st x [f, a])).1 (appL (Rw.longs c m st x [f, a])).2 r2 hp') := by
    refine ⟨_, hf1, fun r q ⟨⟨l', u', d', s', y', c', e', e2, hm'⟩, tf, e1, htf', htfl⟩ => ⟨l', u', d', 0, s', y', c', e', _, _, _, _, ⟨e1, e2⟩, by omega, by simp, _, _, _, _, _, Rw.enc_getD (l := [f, a]) (k := 1) (by simp), ?_⟩⟩
    have ha1 := ih a (Rw.long c m st x f).1 x _ l' u' d' s' y' c' e' (by omega) (by omega) hta hk3.2.1 hsfa.2 hx (by omega) hm'
    have hto2 := Rw.long_to c m a (Rw.long c m st x f).1 x
    have haf := Rw.long_form hc hm (by omega) a (Rw.long c m st x f).1 x hx (by omega) hk3.2.1 hsfa.2
    simp only [Rw.longs]
    have hL2 : vc101_L10 b (c.map Ty.enc) (m.map Ty.enc) (x.map Ty.enc) a.kind (a.type.args.map Ty.enc) a.type.base a.index (a.kids.map Rw.enc) l' u' d' 0 s' y' c' e'
      (fun r hp' => ∃ r2, RepW r r2 ∧ MtRes (S + (Rw.mk k t i [f, a]).total) (appL ((Rw.long c m (Rw.long c m st x f).1 x a).1, [(Rw.long c m st x f).2, (Rw.long c m (Rw.long c m st x f).1 x a).2])).1 (appL ((Rw.long c m (Rw.long c m st x f).1 x a).1, [(Rw.long c m st x f).2, (Rw.long c m (Rw.long c m st x f).1 x a).2])).2 r2 hp') (tf.binds.map Ty.enc) tf.kind tf.index (tf.args.map Tm.enc) := by
     refine ⟨_, ha1, fun r q ⟨⟨l2, u2, d2, s2, y2, c2, e2', e2, hm2⟩, ta, e1, hta', _⟩ => ⟨l2, u2, d2, 0, s2, y2, c2, e2', _, _, _, _, ⟨e1, e2⟩, ?_⟩⟩
     have he2 := hm2.err
     generalize hm3 : (Rw.long c m (Rw.long c m st x f).1 x a).1 = M at *
     refine ITE.intro (fun h => ?_) fun h => ?_
     ·have h5 : ¬ e2' = 0 := by simpa using h
      have hM : M.err ≠ 0 := by rw [← he2]; exact h5
      have : appL (M, [(Rw.long c m st x f).2, (Rw.long c m (Rw.long c m st x f).1 x a).2]) = (M, noTm) := by unfold appL; rw [if_pos hM]
      rw [this]
      exact noTm_res ⟨l2, u2, d2, s2, y2, c2, e2', rfl, hm2⟩ hM
     ·have h5 : e2' = 0 := by simpa using h
      have hM : M.err = 0 := by rw [← he2]; exact h5
      have hF := hto2.ok hM
      have hff := hff hF
      have haf := haf hM
      have htf' := htf' hF
      have hta' := hta' hM
      generalize (Rw.long c m (Rw.long c m st x f).1 x a).2 = TA at haf hta' ⊢
      generalize (Rw.long c m st x f).2 = TF at hff htf' ⊢
      subst htf'; subst hta'
      have : appL (M, [tf, ta]) = putT 100001 M tf [ta] := by unfold appL; rw [if_neg (by simp [hM])]; rfl
      rw [this]
      have hq := hff.nodes
      have hq2 := haf.nodes
      have hp := putP (B := 2 * S) (by omega) 100001 M tf [ta] l2 u2 d2 s2 y2 c2 e2' hm2 (fun _ => by omega) (Tm.lo_mono (by omega) hff.lo) (fun _ => ⟨⟨Tm.lo_mono (by omega) haf.lo, True.intro⟩, fun t ht => by
       rw [List.mem_singleton.1 ht]
       have := hm2.most
       omega⟩) (by omega)
      have hone : AV.clip [.agg [.sl (ta.binds.map Ty.enc), nI ta.kind, nI ta.index, .sl (ta.args.map Tm.enc)]] = .clip ([ta].map Tm.enc) := by rw [List.map_cons, List.map_nil, Tm.enc_eq]
      refine ⟨_, HFn.args (by rw [hone]; exact ⟨RepW.refl _, RepW.refl _, repw_clip _, True.intro⟩) hp, fun r q ⟨⟨l3, u3, d3, s3, y3, c3, e3', e2, hm3⟩, tp, e1, htp, htpl⟩ => ⟨l3, u3, d3, 0, s3, y3, c3, e3', _, _, _, _, ⟨e1, e2⟩, _, RepW.refl _, ⟨l3, u3, d3, s3, y3, c3, e3', rfl, hm3⟩, tp, rfl, htp, ?_⟩⟩
      rw [Rw.total, hat]; omega
    exact ⟨hL2, hL2⟩
   exact ⟨by omega, by simp, _, _, _, _, _, Rw.enc_getD (l := [f, a]) (k := 0) (by simp), hL, hL⟩
  ·have h4 : ¬ k = 4 := by simpa using h
   rw [if_neg h4]
   have hh := typ_head h3 h4 hty
   have hsz : ty.size ≤ S := (headTy_mem hh).elim (hx _) fun h => h.elim (hc _) (hm _)
   have hht := HeadType_calls (b := b) (c := c) (m := m) (x := x) (k := k) hk2 (by omega) (fun t ht => by rw [hh] at ht; obtain rfl := Option.some.inj ht; omega)
   rw [hh] at hht
   have heta := pEta_calls ty.size ty k i (Nat.le_refl _) (by omega) (fun h => by subst h; have := typ_bound hh; omega)
   rw [Ty.enc_eq, Tm.enc_eq] at heta
   refine ⟨_, _, _, hht, _, ksize_calls (t := ty) (by omega), _, unit_calls ty.size (by omega) hmt, fun r q ⟨e1, l', u', d', s', y', c', e', e2, hm'⟩ => ⟨l', u', d', 0, s', y', c', e', _, ⟨e1, e2⟩, ?_⟩⟩
   unfold headL
   rw [hh, Option.getD_some]
   have hu := Mt.units_ok ty.size st
   refine ITE.intro (fun h => ?_) fun h => ?_
   ·have h5 : (st.units ty.size).2 = false := by simpa using h
    rw [if_pos h5]
    exact noTm_res ⟨l', u', d', s', y', c', e', rfl, hm'⟩ (fun h => by have := hu.1.2 h; rw [h5] at this; cases this)
   ·have h5 : (st.units ty.size).2 = true := by simpa using h
    rw [if_neg (by rw [h5]; simp)]
    refine ⟨_, _, _, _, heta, _, RepW.refl _, ⟨l', u', d', s', y', c', e', rfl, hm'⟩, etaT k i ty, rfl, fun _ => rfl, ?_⟩
    rw [etaT_eq, Tm.binds_mk]
    have := Ty.sizes_len ty.args
    have := ty.size_eq
    omega
end Go.Proofs.YtghlgbhldnkdmaaGreat

namespace Go.Proofs.YtghlgbhldnkdmaaGreat
open Go
set_option linter.unusedSimpArgs false
set_option linter.unusedVariables false
theorem nright1_calls {b : Int} {c m : List Ty} {t : Ty} (h : t.size ≤ 500000000) : PureIs Tryz.prog 125 [.agg [.sl (t.args.map Ty.enc), nI t.base], .eptr (.agg [nI b, .sl (c.map Ty.enc), .sl (m.map Ty.enc)]) 0] (nB (!(t.rightB b))) :=
 vc125_ok ⟨_, kright_calls h, rfl⟩
theorem indexN_calls {b : Int} {c m l : List Ty} (h : Ty.sizes l ≤ 500000000) : PureIs Tryz.prog 118 [.sl (l.map Ty.enc), .clo 125 [.eptr (.agg [nI b, .sl (c.map Ty.enc), .sl (m.map Ty.enc)]) 0]] (nI (firstBad b 0 l)) := by
 have hl := Ty.sizes_len l
 refine vc_indexN_ok ⟨rfl, ?_⟩
 refine LoopP.intro (fun k : Nat => ((l.map Ty.enc, ((), ()), (l.length : Int), (k : Int), ()), ())) (fun k => k ≤ l.length ∧ firstBad b 0 l = firstBad b k (l.drop k)) (fun k => l.length - k) 0 (by rw [List.length_map]; rfl) ⟨Nat.zero_le _, rfl⟩ ?_
 intro k ⟨hk, hs⟩ again hag
 dsimp only
 rw [List.length_map]
 refine ITE.intro (fun h => ?_) fun h => ?_
 ·have hlt : k < l.length := by simpa using h
  rw [List.drop_eq_getElem_cons hlt, firstBad] at hs
  refine ⟨by omega, by omega, _, _, Ty.enc_getD hlt, _, nright1_calls (by have := Ty.sizes_mem (List.getElem_mem hlt); omega), ITE.intro (fun h => ?_) fun h => ⟨rfl, ?_⟩⟩
  ·rw [hs, if_neg (by simpa using h)]
  ·rw [if_pos (by simpa using h)] at hs
   rw [wrap_n (by omega)]
   exact hag (k + 1) ⟨by omega, hs⟩ (by omega)
 ·have : l.length ≤ k := by simpa using h
  rw [List.drop_eq_nil_of_le this] at hs
  rw [hs]; rfl
def rightCtx (b : Int) (c m x : List Ty) : Bool := (!(decide (firstBad b 0 (c ++ m) ≥ 0))) && (decide (x.length ≤ 900) && !(decide (firstBad b 0 x ≥ 0)))
theorem nright_calls {b : Int} {c m x : List Ty} (hc : c.length ≤ 500) (hm : m.length ≤ 500) (h : Ty.sizes (c ++ m) ≤ 500000000) (hx : Ty.sizes x ≤ 500000000) :
  PureIs Tryz.prog 93 [.agg [nI b, .sl (c.map Ty.enc), .sl (m.map Ty.enc)], .sl (x.map Ty.enc)] (nB (rightCtx b c m x)) := by
 refine vc93_ok ⟨_, rightWorld_calls hc hm h, ITE.intro (fun h1 => ?_) fun h1 => ?_⟩
 ·refine ITE.intro (fun h2 => ⟨_, vc_containsN_ok ⟨_, indexN_calls hx, rfl⟩, ?_⟩) fun h2 => ?_
  ·rw [rightCtx, h1, Bool.true_and, decide_eq_true (by have := of_decide_eq_true h2; rw [List.length_map] at this; omega), Bool.true_and]
  ·rw [rightCtx, h1, Bool.true_and, decide_eq_false (by have := of_decide_eq_false h2; rw [List.length_map] at this; omega), Bool.false_and]
 ·rw [rightCtx, h1, Bool.false_and]
def Rw.inf (b : Int) (c m x : List Ty) (r : Rw) : Ty × Int := if r.rightB = true then r.infer b c m x else (noT, 1)
def longR (b : Int) (c m x : List Ty) (r : Rw) (left : Nat) : Mt × Tm :=
 if rightCtx b c m x = false then (⟨left, 0, 1⟩, noTm) else if (r.inf b c m x).2 ≠ 0 then (⟨left, 0, (r.inf b c m x).2⟩, noTm) else doneT (Rw.long c m ⟨left, 0, 0⟩ x r)
mutual
theorem Rw.infer_ne (b : Int) (c m : List Ty) : ∀ (r : Rw) (x : List Ty), (r.infer b c m x).2 ≠ 11
 | .mk k t i l, x => by
  rw [Rw.infer]
  split
  ·split
   ·have := Rw.infers_ne b c m l (x ++ [t])
    generalize Rw.infers b c m (x ++ [t]) l = q at this
    unfold lamRes
    split
    ·rename_i p l'
     have hp := this p List.mem_cons_self
     (repeat' split) <;> first | assumption | (simp; done)
    ·decide
   ·decide
  ·split
   ·have := Rw.infers_ne b c m l x
    generalize Rw.infers b c m x l = q at this
    unfold appRes
    split
    ·rename_i p q l'
     have hp := this p List.mem_cons_self
     have hq := this q (List.mem_cons_of_mem _ List.mem_cons_self)
     (repeat' split) <;> first | assumption | (simp; done)
    ·decide
   ·unfold headRes
    (repeat' split) <;> simp
theorem Rw.infers_ne (b : Int) (c m : List Ty) : ∀ (l : List Rw) (x : List Ty), ∀ p ∈ Rw.infers b c m x l, p.2 ≠ 11
 | [], x, p, hp => by simp [Rw.infers] at hp
 | r :: l, x, p, hp => by
  rw [Rw.infers] at hp
  rcases List.mem_cons.1 hp with rfl | hp
  ·exact Rw.infer_ne b c m r x
  ·exact Rw.infers_ne b c m l x p hp
end
structure NormIn (S : Nat) (c m x : List Ty) (r : Rw) : Prop where
 s : S ≤ 1000
 hc : ∀ t ∈ c, t.size ≤ S
 hm : ∀ t ∈ m, t.size ≤ S
 hx : ∀ t ∈ x, t.size ≤ S
 cl : c.length ≤ 100
 ml : m.length ≤ 100
 xl : x.length + r.total ≤ 1000
 hr : r.total ≤ S
 ok : r.Ok
theorem sizes_le_mul {S : Nat} : ∀ {l : List Ty}, (∀ t ∈ l, t.size ≤ S) → Ty.sizes l ≤ l.length * S
 | [], _ => by simp [Ty.sizes]
 | t :: l, h => by
  have h1 := h t List.mem_cons_self
  have h2 := sizes_le_mul fun u hu => h u (List.mem_cons_of_mem t hu)
  rw [Ty.sizes, List.length_cons, Nat.add_mul]; omega
theorem NormIn.sizes {S : Nat} {c m x : List Ty} {r : Rw} (h : NormIn S c m x r) : Ty.sizes (c ++ m) ≤ 500000000 ∧ Ty.sizes x ≤ 300000000 := by
 have h1 := sizes_le_mul h.hc
 have h2 := sizes_le_mul h.hm
 have h3 := sizes_le_mul h.hx
 have h4 := Nat.mul_le_mul h.cl h.s
 have h5 := Nat.mul_le_mul h.ml h.s
 have h6 := Nat.mul_le_mul (show x.length ≤ 1000 by have := h.xl; omega) h.s
 rw [Ty.sizes_append]
 exact ⟨by omega, by omega⟩
theorem repw_tup3 {x y : AV} {n k : Int} (h : RepW x y) : RepW (.tup [x, nI n, nI k]) (.tup [y, nI n, nI k]) := RepW.tup ⟨h, RepW.refl _, RepW.refl _, True.intro⟩
def Found (L : Mt × Tm) (r : AV) (hp' : List AObj) : Prop := ∃ (cnt l u d s y : Int), hp' = [.box (budC l u d 0 s y)] ∧ BudOk L.1.left l u d y ∧ (L.1.err = 11 → y ≠ 0) ∧ (L.1.err = 0 → cnt = L.1.count) ∧
 r = .tup [.agg [.sl (L.2.binds.map Ty.enc), nI L.2.kind, nI L.2.index, .sl (L.2.args.map Tm.enc)], nI cnt, nI L.1.err]
theorem inf_infer {S : Nat} {b : Int} {c m x : List Ty} {r : Rw} (hin : NormIn S c m x r) : PureIs Tryz.prog 43 [.agg [nI b, .sl (c.map Ty.enc), .sl (m.map Ty.enc)], .sl (x.map Ty.enc), r.enc] (encTE (r.inf b c m x)) :=
 Infer_calls (b := b) (fun t ht => by have := hin.hc t ht; have := hin.s; omega) (fun t ht => by have := hin.hm t ht; have := hin.s; omega) hin.ok (by have := hin.sizes; have := hin.xl; omega)
theorem found_calls {S : Nat} {b : Int} {c m x : List Ty} {r : Rw} {left : Nat} {l u d s y : Int} (hin : NormIn S c m x r) (hb : BudOk left l u d y) :
  HFn Tryz.prog 51 [.agg [nI b, .sl (c.map Ty.enc), .sl (m.map Ty.enc)], .sl (x.map Ty.enc), .agg [nI r.kind, .sl (r.type.args.map Ty.enc), nI r.type.base, nI r.index, .sl (r.kids.map Rw.enc)], .ptr 0 0] [.box (budC l u d 0 s y)] (Found (longR b c m x r left)) := by
 have hsz := hin.sizes
 have hi := inf_infer (b := b) hin
 rw [Rw.enc_eq] at hi
 have zero : ∀ (e : Int), e ≠ 0 → e ≠ 11 → longR b c m x r left = (⟨left, 0, e⟩, noTm) → ∃ r2, RepW (.tup [.agg [.prim (.slice none 0 0), nI 0, nI 0, .prim (.slice none 0 0)], nI 0, nI e]) r2 ∧ Found (longR b c m x r left) r2 [.box (budC l u d 0 s y)] := by
  intro e he he2 h
  rw [h]
  exact ⟨_, repw_tup3 repw_noTm', 0, l, u, d, s, y, rfl, hb, fun h => (he2 h).elim, fun h => (he h).elim, rfl⟩
 refine HFn.repw (vc51_ok ⟨_, nright_calls (by have := hin.cl; omega) (by have := hin.ml; omega) hsz.1 (by omega), ITE.intro (fun h => ?_) fun h => ?_⟩)
 ·have h : rightCtx b c m x = false := by simpa using h
  exact zero 1 (by decide) (by decide) (by unfold longR; rw [if_pos h])
 have h1 : rightCtx b c m x = true := by simpa using h
 have hL : longR b c m x r left = if (r.inf b c m x).2 ≠ 0 then (⟨left, 0, (r.inf b c m x).2⟩, noTm) else doneT (Rw.long c m ⟨left, 0, 0⟩ x r) := by unfold longR; rw [if_neg (by rw [h1]; simp)]
 refine ⟨_, _, _, hi, ITE.intro (fun h => ?_) fun h => ?_⟩
 ·have h2 : (r.inf b c m x).2 ≠ 0 := by simpa using h
  refine zero _ h2 ?_ (by rw [hL, if_pos h2])
  unfold Rw.inf
  split
  ·exact Rw.infer_ne b c m r x
  ·decide
 have h2 : (r.inf b c m x).2 = 0 := by simpa using h
 rw [hL, if_neg (by simp [h2])]
 have hrb : r.rightB = true := by
  cases hrb : r.rightB with
  | true => rfl
  | false => rw [Rw.inf, hrb] at h2; simp at h2
 have hsh : r.shaped = true := by rw [Rw.rightB, Bool.and_eq_true] at hrb; exact hrb.1
 have hty : Rw.Typ c m x r (r.infer b c m x).1 := infer_typ b c m r x _ hsh (by
  rw [Rw.inf, if_pos hrb] at h2
  rw [← h2])
 have hmt : MtOk ⟨left, 0, 0⟩ l u d y 0 0 := ⟨hb, rfl, Nat.zero_le _, fun _ => rfl, fun h => by simp at h⟩
 have hlong := nlong_calls (b := b) hin.hc hin.hm hin.s _ r ⟨left, 0, 0⟩ x _ l u d s y 0 0 (Nat.le_refl _) hin.hr hty hin.ok hsh hin.hx hin.xl hmt
 have hform := Rw.long_form hin.hc hin.hm (by have := hin.s; omega) r ⟨left, 0, 0⟩ x hin.hx hin.hr hin.ok hsh
 generalize Rw.long c m ⟨left, 0, 0⟩ x r = Q at hlong hform
 refine ⟨_, hlong, fun r1 q ⟨⟨l1, u1, d1, s1, y1, c1, e1', e2, hm1⟩, t1, e1, ht1, _⟩ => ⟨l1, u1, d1, 0, s1, y1, c1, e1', _, _, _, _, ⟨e1, e2⟩, ?_⟩⟩
 have hdone := ndone_calls (s := s1) hm1 ht1 (fun h0 => by
  have hf := hform h0
  have hn := hf.nodes
  have hmost := hm1.most
  have hs := Tm.lo_size hf.lo
  have hS := hin.s
  have hr := hin.hr
  have : Q.2.nodes * (1 + (S + r.total)) ≤ 100000 * 2001 := Nat.mul_le_mul (by omega) (by omega)
  exact ⟨by omega, Tm.lo_ok hf.lo⟩)
 rw [show (Q.1, Q.2) = Q from rfl] at hdone
 refine ⟨_, hdone, fun r2 q ⟨⟨l2, u2, d2, s2, y2, c2, e2', e2, hm2⟩, e1⟩ => ⟨l2, u2, d2, 0, s2, y2, c2, e2', _, _, _, _, _, ⟨e1, e2⟩, ?_⟩⟩
 exact ⟨_, RepW.refl _, c2, l2, u2, d2, s2, y2, rfl, hm2.bud, hm2.fuel, hm2.count, rfl⟩
def FoundL (L : Mt × Tm) (r : AV) (hp' : List AObj) : Prop := ∃ l u d s y, hp' = [.box (budC l u d 0 s y)] ∧ BudOk L.1.left l u d y ∧ (L.1.err = 11 → y ≠ 0) ∧
 r = .tup [.agg [.sl (L.2.binds.map Ty.enc), nI L.2.kind, nI L.2.index, .sl (L.2.args.map Tm.enc)], nI L.1.err]
theorem nLong_calls {S : Nat} {b : Int} {c m x : List Ty} {r : Rw} {left : Nat} {l u d s y : Int} (hin : NormIn S c m x r) (hb : BudOk left l u d y) :
  HFn Tryz.prog 15 [.agg [nI b, .sl (c.map Ty.enc), .sl (m.map Ty.enc)], .sl (x.map Ty.enc), .agg [nI r.kind, .sl (r.type.args.map Ty.enc), nI r.type.base, nI r.index, .sl (r.kids.map Rw.enc)], .ptr 0 0] [.box (budC l u d 0 s y)] (FoundL (longR b c m x r left)) :=
 vc15_ok ⟨_, found_calls hin hb, fun r1 q ⟨cnt, l1, u1, d1, s1, y1, e2, hb1, hf, hc, e1⟩ => ⟨l1, u1, d1, 0, s1, y1, _, _, _, _, _, _, ⟨e1, e2⟩, l1, u1, d1, s1, y1, rfl, hb1, hf, rfl⟩⟩
theorem bud_fresh {n : Nat} (hn : n ≤ 1000000) : HFn Tryz.prog 36 [nI n] [] (fun r hp' => r = .ptr 0 0 ∧ hp' = [.box (budC n 0 0 0 0 0)]) :=
 (bud_new n []).mono fun r hp' ⟨e1, e2⟩ => ⟨e1, by rw [e2, if_neg (by omega)]; rfl⟩
theorem budOk_fresh {n : Nat} (hn : n ≤ 1000000) : BudOk n n 0 0 0 := ⟨rfl, by decide, by omega, Iff.rfl, fun h => (h rfl).elim⟩
def encTmE (t : Tm) (e : Int) : AV := .tup [.agg [.sl (t.binds.map Ty.enc), nI t.kind, nI t.index, .sl (t.args.map Tm.enc)], nI e]
theorem nOf_calls {S : Nat} {b : Int} {c m x : List Ty} {r : Rw} (hin : NormIn S c m x r) :
  PureIs Tryz.prog 24 [.agg [nI b, .sl (c.map Ty.enc), .sl (m.map Ty.enc)], .sl (x.map Ty.enc), .agg [nI r.kind, .sl (r.type.args.map Ty.enc), nI r.type.base, nI r.index, .sl (r.kids.map Rw.enc)]] (encTmE (longR b c m x r 100000).2 (longR b c m x r 100000).1.err) :=
 vc24_ok ⟨_, bud_fresh (n := 100000) (by omega), fun r1 q ⟨e1, e2⟩ => ⟨_, _, _, _, _, _, ⟨e1, e2⟩, _, nLong_calls hin (budOk_fresh (by omega)), fun r2 q2 ⟨l1, u1, d1, s1, y1, e2, hb1, hf, e1⟩ => ⟨l1, u1, d1, 0, s1, y1, _, _, _, _, _, ⟨e1, e2⟩, rfl⟩⟩⟩
def costR (L : Mt × Tm) : Nat := if L.1.err ≠ 0 then 0 else L.1.count
theorem nCost_calls {S : Nat} {b : Int} {c m x : List Ty} {r : Rw} (hin : NormIn S c m x r) :
  PureIs Tryz.prog 25 [.agg [nI b, .sl (c.map Ty.enc), .sl (m.map Ty.enc)], .sl (x.map Ty.enc), .agg [nI r.kind, .sl (r.type.args.map Ty.enc), nI r.type.base, nI r.index, .sl (r.kids.map Rw.enc)]] (.tup [nI (costR (longR b c m x r 100000)), nI (longR b c m x r 100000).1.err]) := by
 have key : ∀ (r2 : AV) (q2 : List AObj), Found (longR b c m x r 100000) r2 q2 → ∃ (i68 i69 i70 i71 i72 i73 : Int) (l74 : List AV) (i75 i76 : Int) (l77 : List AV) (i78 i79 : Int),
   (r2 = .tup [.agg [.sl l74, nI i75, nI i76, .sl l77], nI i78, nI i79] ∧ q2 = [.box [nI i68, nI i69, .prim (.int .u32 i70), .prim (.int .i32 i71), .prim (.int .u32 i72), .prim (.int .u32 i73)]]) ∧
   ITE (i79 != 0) ((fun x' => x' = AV.tup [nI (costR (longR b c m x r 100000)), nI (longR b c m x r 100000).1.err]) (.tup [nI 0, nI i79])) ((fun x' => x' = AV.tup [nI (costR (longR b c m x r 100000)), nI (longR b c m x r 100000).1.err]) (.tup [nI i78, nI 0])) := by
  intro r2 q2 ⟨cnt, l1, u1, d1, s1, y1, e2, hb1, hf, hc, e1⟩
  refine ⟨l1, u1, d1, 0, s1, y1, _, _, _, _, _, _, ⟨e1, e2⟩, ITE.intro (fun h => ?_) fun h => ?_⟩
  ·have h0 : (longR b c m x r 100000).1.err ≠ 0 := by simpa using h
   simp only [costR, if_pos h0]; rfl
  ·have h0 : (longR b c m x r 100000).1.err = 0 := by simpa using h
   rw [hc h0]
   simp only [costR, h0, ne_eq, not_true_eq_false, if_false]
 have hfd := found_calls (s := 0) (b := b) (left := 100000) hin (budOk_fresh (n := 100000) (by omega))
 refine vc25_ok ⟨⟨_, bud_fresh (n := 100000) (by omega), fun r1 q ⟨e1, e2⟩ => ⟨_, _, _, _, _, _, ⟨e1, e2⟩, ⟨_, hfd, key⟩, ⟨_, hfd, key⟩⟩⟩, ⟨_, bud_fresh (n := 100000) (by omega), fun r1 q ⟨e1, e2⟩ => ⟨_, _, _, _, _, _, ⟨e1, e2⟩, ⟨_, hfd, key⟩⟩⟩⟩
end Go.Proofs.YtghlgbhldnkdmaaGreat

namespace Go.Proofs.YtghlgbhldnkdmaaGreat
open Go
set_option linter.unusedSimpArgs false
set_option linter.unusedVariables false
theorem up_calls {B b : Nat} (hB : B ≤ 1000000) : ∀ (n : Nat) (t : Tm) (d : Nat), t.nodes ≤ n → t.Lo B → d + B * n ≤ 4000000000000000000 →
  PureIs Tryz.prog 165 [.agg [.sl (t.binds.map Ty.enc), nI t.kind, nI t.index, .sl (t.args.map Tm.enc)], nI b, nI 0, nI d] (.agg [.sl ((t.lift b d).binds.map Ty.enc), nI (t.lift b d).kind, nI (t.lift b d).index, .sl ((t.lift b d).args.map Tm.enc)]) := by
 intro n
 induction n with
 | zero => intro t d h; have := t.nodes_pos; omega
 | succ n ih =>
  intro t d h hlo hd
  have hl := Tm.lo_eq.1 hlo
  have hb := Ty.sizes_len t.binds
  have hmul : B * (n + 1) = B * n + B := by rw [Nat.mul_succ]
  have hw : IntKind.wrap .i64 ((d : Int) + ((List.length (t.binds.map Ty.enc) : Nat) : Int)) = ((d + t.binds.length : Nat) : Int) := by
   rw [List.length_map, wrap_i (by omega) (by omega)]; omega
  have ha : (t.lift b d).args = t.args.map (Tm.lift b (d + t.binds.length)) := Tm.lift_args b d t
  have loop : ∀ ix : Int, ix = (t.lift b d).index → vc165_L6 ((b, 0, (), (), ((d + t.binds.length : Nat) : Int), (), 0, ()), ((t.binds.map Ty.enc, t.kind, t.index, t.args.map Tm.enc, ()), ((), 0, 0, (), ()), (t.binds.map Ty.enc, t.kind, ix, (), ()), [], ())) (fun x => x = .agg [.sl ((t.lift b d).binds.map Ty.enc), nI (t.lift b d).kind, nI (t.lift b d).index, .sl ((t.lift b d).args.map Tm.enc)]) := by
   intro ix hix
   refine LoopP.intro (fun k : Nat => (((b : Int), (0 : Int), (), (), ((d + t.binds.length : Nat) : Int), (), (k : Int), ()), ((t.binds.map Ty.enc, t.kind, t.index, t.args.map Tm.enc, ()), ((), (0 : Int), (0 : Int), (), ()), (t.binds.map Ty.enc, t.kind, ix, (), ()), ((t.lift b d).args.take k).map Tm.enc, ())))
    (fun k => k ≤ t.args.length) (fun k => t.args.length - k) 0 rfl (Nat.zero_le _) ?_
   intro k hk again hag
   dsimp only
   rw [List.length_map]
   refine ITE.intro (fun h => ?_) fun h => ?_
   ·have hlt : k < t.args.length := by simpa using h
    have hz : t.args[k].nodes ≤ n := by have := Tm.nodess_mem (List.getElem_mem hlt); have := t.nodes_eq; omega
    have hi := ih t.args[k] (d + t.binds.length) hz (Tm.los_iff.1 hl.2.2 _ (List.getElem_mem hlt)) (by omega)
    have hlt2 : k < (t.lift b d).args.length := by rw [ha, List.length_map]; exact hlt
    have hg : (t.lift b d).args[k] = Tm.lift b (d + t.binds.length) t.args[k] := by simp [ha]
    rw [← hg] at hi
    refine ⟨by omega, by omega, _, _, _, _, Tm.enc_getD hlt, _, _, _, _, hi, rfl, appOk_nil (fun x hx => by simp at hx; subst hx; rfl) (by simp; omega) (by decide), rfl, ?_⟩
    rw [wrap_n (by omega), Tm.enc_snoc, take_snoc' hlt2]
    exact hag (k + 1) (by omega) (by omega)
   ·have : t.args.length ≤ k := by simpa using h
    refine ⟨rfl, ?_⟩
    rw [List.take_of_length_le (by rw [ha, List.length_map]; exact this), hix, Tm.lift_binds, Tm.lift_kind]
  refine vc165_ok ?_
  unfold vc165
  rw [hw]
  have hidx : (t.lift b d).index = if t.kind = 0 ∧ ((d + t.binds.length : Nat) : Int) ≤ t.index then IntKind.wrap .i64 (t.index + b) else t.index := by rw [Tm.lift_eq]; rfl
  have hi64 := hl.2.1.2
  refine ITE.intro (fun h => ?_) fun h => ?_
  ·have h0 : t.kind = 0 := by simpa using h
   refine ITE.intro (fun h1 => ?_) fun h1 => ?_
   ·refine ITE.intro (fun h1 => ?_) fun h1 => ?_
    ·have h1 : ((d + t.binds.length : Nat) : Int) ≤ t.index := of_decide_eq_true h1
     exact ⟨rfl, loop _ (by rw [hidx, if_pos ⟨h0, h1⟩])⟩
    ·have h1 : ¬ ((d + t.binds.length : Nat) : Int) ≤ t.index := of_decide_eq_false h1
     exact ⟨rfl, loop _ (by rw [hidx, if_neg (fun h => h1 h.2)])⟩
   ·have h1 := of_decide_eq_false h1
    refine ⟨rfl, loop _ ?_⟩
    rw [hidx, if_neg]
    intro h
    have h2 := hi64.2
    rw [wrap_i (by omega) (by omega)] at h1
    omega
  ·have h0 : ¬ t.kind = 0 := by simpa using h
   exact ⟨rfl, loop _ (by rw [hidx, if_neg (fun h => h0 h.1)])⟩
theorem Up_calls {B b : Nat} {t : Tm} (hB : B ≤ 1000000) (hn : t.nodes ≤ 1000000000) (hlo : t.Lo B) :
  PureIs Tryz.prog 159 [.agg [.sl (t.binds.map Ty.enc), nI t.kind, nI t.index, .sl (t.args.map Tm.enc)], nI b, nI 0] (.agg [.sl ((t.lift b 0).binds.map Ty.enc), nI (t.lift b 0).kind, nI (t.lift b 0).index, .sl ((t.lift b 0).args.map Tm.enc)]) := by
 have := Nat.mul_le_mul hB hn
 exact vc159_ok ⟨_, _, _, _, up_calls (b := b) hB _ t 0 (Nat.le_refl _) hlo (by omega), rfl⟩
def metO (m : Mt) : List AObj := [.box [nI m.left, nI m.count, nI m.err]]
structure MtIn (m : Mt) : Prop where
 left : m.left ≤ 1000000000000000000
 count : m.count ≤ 100000
theorem MtIn.to {a b : Mt} (h : MtIn a) (ht : a.To b) : MtIn b := ⟨by have := ht.sum; have := ht.more; have := h.left; omega, ht.most h.count⟩
theorem one_calls {m : Mt} (h : MtIn m) : HFn Tryz.prog 110 [.ptr 0 0] (metO m) (fun r hp' => r = nB m.one.2 ∧ hp' = metO m.one.1) := by
 have h1 := h.left
 have h2 := h.count
 refine vc110_ok (ITE.intro (fun h => ?_) fun h => ITE.intro (fun h => ?_) fun h => ITE.intro (fun h => ?_) fun h => ?_)
 ·have h0 : m.err ≠ 0 := by simpa using h
  rw [show m.one = (m, false) from by unfold Mt.one; rw [if_pos h0]]
  exact ⟨rfl, rfl⟩
 ·rename_i g0
  have h0 : m.err = 0 := by simpa using g0
  have h3 : m.count = 100000 := by have : ((m.count : Nat) : Int) = 100000 := (by simpa using h); omega
  rw [show m.one = (⟨m.left, m.count, 2⟩, false) from by unfold Mt.one; rw [if_neg (by simp [h0]), if_pos h3]]
  exact ⟨rfl, rfl⟩
 ·rename_i g0 g1
  have h0 : m.err = 0 := by simpa using g0
  have h3 : ¬ m.count = 100000 := by have : ¬ ((m.count : Nat) : Int) = 100000 := (by simpa using g1); omega
  have h4 : m.left = 0 := by simpa using h
  rw [show m.one = (⟨m.left, m.count, 11⟩, false) from by unfold Mt.one; rw [if_neg (by simp [h0]), if_neg h3, if_pos h4]]
  exact ⟨rfl, rfl⟩
 ·rename_i g0 g1
  have h0 : m.err = 0 := by simpa using g0
  have h3 : ¬ m.count = 100000 := by have : ¬ ((m.count : Nat) : Int) = 100000 := (by simpa using g1); omega
  have h4 : ¬ m.left = 0 := by simpa using h
  rw [show m.one = (⟨m.left - 1, m.count + 1, m.err⟩, true) from by unfold Mt.one; rw [if_neg (by simp [h0]), if_neg h3, if_neg h4]]
  rw [wrap_n (by omega), wrap_i (by omega) (by omega), show ((m.left : Nat) : Int) - 1 = ((m.left - 1 : Nat) : Int) from by omega]
  exact ⟨rfl, rfl⟩
def RefRes (N : Nat) (m : Mt) (t : Tm) (r : AV) (hp' : List AObj) : Prop := hp' = metO m ∧ ∃ t' : Tm, r = .agg [.sl (t'.binds.map Ty.enc), nI t'.kind, nI t'.index, .sl (t'.args.map Tm.enc)] ∧ (m.err = 0 → t' = t) ∧ t'.binds.length ≤ N
theorem noTm_ref {N : Nat} {m : Mt} {t : Tm} (he : m.err ≠ 0) : ∃ r2, RepW (.agg [.prim (.slice none 0 0), nI 0, nI 0, .prim (.slice none 0 0)]) r2 ∧ RefRes N m t r2 (metO m) :=
 ⟨_, repw_noTm', rfl, noTm, rfl, fun h0 => (he h0).elim, Nat.zero_le _⟩
theorem repw_body (k i : Int) (l : List AV) : RepW (.agg [.prim (.slice none 0 0), nI k, nI i, .sl l]) (.agg [.sl [], nI k, nI i, .sl l]) := RepW.agg ⟨repw_nil, RepW.refl _, RepW.refl _, RepW.refl _, True.intro⟩
def BodyR (B f : Nat) : Prop := ∀ (m : Mt) (us : List Tm) (k i : Int) (args : List Tm) (n d : Nat), MtIn m → (m.err = 0 → 100000 < f + m.count) →
 I64 k → I64 i → args.length ≤ B → Tm.Los B args → Tm.Los B us → (∀ t ∈ us, t.nodes ≤ 1000000000) → us.length ≤ n → n ≤ B → d + B * (f + 1) ≤ 4000000000000000000 →
 HFn Tryz.prog 144 [.ptr 0 0, .agg [nI k, nI i], .sl (args.map Tm.enc), .sl (us.map Tm.enc), nI n, nI d] (metO m) (RefRes 0 (bodyT f m k i args us n d).1 (bodyT f m k i args us n d).2)
def WithinR (B f : Nat) : Prop := ∀ (m : Mt) (us : List Tm) (t : Tm) (n d : Nat), MtIn m → (m.err = 0 → 100000 < f + m.count) →
 t.Lo B → Tm.Los B us → (∀ t ∈ us, t.nodes ≤ 1000000000) → us.length ≤ n → n ≤ B → d + B * (f + 2) ≤ 4000000000000000000 →
 HFn Tryz.prog 158 [.ptr 0 0, .agg [.sl (t.binds.map Ty.enc), nI t.kind, nI t.index, .sl (t.args.map Tm.enc)], .sl (us.map Tm.enc), nI n, nI d] (metO m) (RefRes t.binds.length (withinT (bodyT f) us n d m t).1 (withinT (bodyT f) us n d m t).2)
theorem withinR_of {B f : Nat} (hB : B ≤ 1000000) (h : BodyR B f) : WithinR B f := by
 intro m us t n d hm hf hlo hus hun hn hnB hd
 have hl := Tm.lo_eq.1 hlo
 have hbl := Ty.sizes_len t.binds
 have hmul : B * (f + 2) = B * (f + 1) + B := Nat.mul_succ _ _
 have hw : IntKind.wrap .i64 ((d : Int) + ((List.length (t.binds.map Ty.enc) : Nat) : Int)) = ((d + t.binds.length : Nat) : Int) := by
  rw [List.length_map, wrap_i (by omega) (by omega)]; omega
 refine vc158_ok ?_
 unfold vc158
 rw [hw]
 refine ⟨_, h m us t.kind t.index t.args n (d + t.binds.length) hm hf hl.2.1.1 hl.2.1.2 hl.1.2 hl.2.2 hus hun hn hnB (by omega), fun r q ⟨e2, t', e1, ht', _⟩ => ⟨_, _, _, _, _, _, _, ⟨e1, e2⟩, rfl, .mk t.binds t'.kind t'.index t'.args, rfl, fun h0 => ?_, Nat.le_refl _⟩⟩
 unfold withinT at h0 ⊢
 simp only at h0 ⊢
 rw [ht' h0]
theorem bodyR_zero {B : Nat} : BodyR B 0 := by
 intro m us k i args n d hm hf hk hi hla hlo hus hun hn hnB hd
 have hm0 : m.err ≠ 0 := fun h => by have := hf h; have := hm.count; omega
 have h1 : m.one = (m, false) := by unfold Mt.one; rw [if_pos hm0]
 refine HFn.repw (vc144_ok ⟨_, one_calls hm, fun r q ⟨e1, e2⟩ => ⟨_, _, _, _, ⟨e1, e2⟩, ?_⟩⟩)
 rw [h1]
 refine ITE.pos rfl ?_
 rw [(bodyT_to 0 m k i args us n d).stop hm0]
 exact noTm_ref hm0
theorem bodyR_succ {B f : Nat} (hB : B ≤ 1000000) (ih : BodyR B f) : BodyR B (f + 1) := by
 have hwi := withinR_of hB ih
 intro m us k i args n d hm hf hk hi hla hlo hus hun hn hnB hd
 have hmul : B * (f + 1 + 1) = B * (f + 1) + B := Nat.mul_succ _ _
 have hmul2 : B * (f + 2) = B * (f + 1 + 1) := rfl
 have hBf : B ≤ B * (f + 1) := Nat.le_mul_of_pos_right _ (Nat.succ_pos f)
 refine HFn.repw (vc144_ok ⟨_, one_calls hm, fun r q ⟨e1, e2⟩ => ⟨_, _, _, _, ⟨e1, e2⟩, ?_⟩⟩)
 refine ITE.intro (fun h => ?_) fun h => ⟨rfl, ?_⟩
 ·have h : m.one.2 = false := by simpa using h
  have : bodyT (f + 1) m k i args us n d = (m.one.1, noTm) := by rw [bodyT, if_pos h]
  rw [this]
  exact noTm_ref (one_false h).1
 have h : m.one.2 = true := by simpa using h
 obtain ⟨g0, g1, g2, g3⟩ := one_true h
 have hbody : bodyT (f + 1) m k i args us n d = headT (bodyT f) (goArgs (withinT (bodyT f) us n d) m.one.1 args) k i us n d := by rw [bodyT, if_neg (by simp [h])]
 rw [hbody]
 have hcnt : m.one.1.count = m.count + 1 := by rw [g3]
 have he1 : m.one.1.err = 0 := by rw [g3]
 have hin := hm.to (Mt.one_to m)
 have hfuel : ∀ m' : Mt, m.one.1.To m' → m'.err = 0 → 100000 < f + m'.count := fun m' h h0 => by have := h.more; have := hf g0; omega
 have hkeep := withinT_to f us n d
 have hform : (goArgs (withinT (bodyT f) us n d) m.one.1 args).1.err = 0 → Tm.nodess (goArgs (withinT (bodyT f) us n d) m.one.1 args).2 + m.one.1.count ≤ (goArgs (withinT (bodyT f) us n d) m.one.1 args).1.count ∧ Tm.Los B (goArgs (withinT (bodyT f) us n d) m.one.1 args).2 := by
  intro he0
  refine goArgs_form hkeep args m.one.1 (fun t ht m'' hto' he' => ?_) he0
  have hlo' := Tm.lo_eq.1 (Tm.los_iff.1 hlo t ht)
  have := bodyT_form (B := B) f m'' t.kind t.index t.args us n (d + t.binds.length) hlo'.2.1.1 hlo'.2.1.2 hlo'.1.2 hlo'.2.2 hus hn he'
  have hq := Tm.lo_eq.1 this.1.lo
  have hqn := this.1.nodes
  rw [Tm.nodes_eq] at hqn
  exact ⟨by unfold withinT; rw [Tm.nodes_eq, Tm.args_mk]; exact hqn, Tm.lo_eq.2 ⟨⟨hlo'.1.1, hq.1.2⟩, hq.2⟩⟩
 have hlen := goArgs_len (g := withinT (bodyT f) us n d) args m.one.1
 unfold vc144_L5
 refine LoopP.intro (β := Nat × Mt × List Tm) (fun b => (((), args.map Tm.enc, us.map Tm.enc, (n : Int), (d : Int), (), (), (), (b.1 : Int), ()), (((b.2.1.left : Int), (b.2.1.count : Int), b.2.1.err, ()), (k, i, ()), ((), (0 : Int), (0 : Int), (), ()), ((), k, i, (), ()), b.2.2.map Tm.enc, ())))
  (fun b => b.1 ≤ args.length ∧ MtIn b.2.1 ∧ b.2.1.err = 0 ∧ m.one.1.To b.2.1 ∧ b.2.2.length = b.1 ∧
   goArgs (withinT (bodyT f) us n d) m.one.1 args = ((goArgs (withinT (bodyT f) us n d) b.2.1 (args.drop b.1)).1, b.2.2 ++ (goArgs (withinT (bodyT f) us n d) b.2.1 (args.drop b.1)).2))
  (fun b => args.length - b.1) (0, m.one.1, []) rfl ⟨Nat.zero_le _, hin, he1, .refl _, rfl, by rw [List.drop_zero, List.nil_append]⟩ ?_
 rintro ⟨j, m', acc⟩ ⟨hj, hm', h0, hto, hacc, hgo⟩ again hag
 dsimp only at hj hm' h0 hto hacc hgo ⊢
 rw [List.length_map]
 refine ITE.intro (fun h => ?_) fun h => ?_
 ·have hlt : j < args.length := by simpa using h
  refine ⟨by omega, by omega, _, _, _, _, Tm.enc_getD hlt, _, hwi m' us args[j] n d hm' (hfuel m' hto) (Tm.los_iff.1 hlo _ (List.getElem_mem hlt)) hus hun hn hnB (by rw [hmul2]; exact hd), fun r q ⟨e2, t', e1, ht', _⟩ => ⟨_, _, _, _, _, _, _, ⟨e1, e2⟩, ?_⟩⟩
  have hto2 := hkeep m' args[j]
  rw [goArgs_drop hlt] at hgo
  generalize withinT (bodyT f) us n d m' args[j] = q2 at hgo ht' hto2
  refine ITE.intro (fun h => ?_) fun h => ?_
  ·have h1 : q2.1.err ≠ 0 := by simpa using h
   have hst := (goArgs_to hkeep (args.drop (j + 1)) q2.1).stop h1
   rw [hst] at hgo
   rw [hgo]
   unfold headT
   rw [if_pos h1]
   exact noTm_ref h1
  ·have h1 : q2.1.err = 0 := by simpa using h
   refine ⟨rfl, appOk_nil (fun z hz => by simp at hz; subst hz; rfl) (by simp [hacc]; omega) (by decide), rfl, ?_⟩
   rw [wrap_n (by omega), Tm.enc_snoc]
   refine hag (j + 1, q2.1, acc ++ [t']) ⟨hlt, hm'.to hto2, h1, hto.trans hto2, by simp [hacc], ?_⟩ (by simp only; omega)
   rw [hgo, ht' h1, List.append_assoc, List.singleton_append]
 ·have hge : args.length ≤ j := by simpa using h
  have hj' : j = args.length := by omega
  subst hj'
  rw [List.drop_length, goArgs, List.append_nil] at hgo
  rw [hgo] at hlen hform ⊢
  obtain ⟨q1, q2⟩ := hform h0
  simp only at hlen q1 q2
  have fin : ∀ (i' : Int) (T : Mt × Tm), T = (m', .mk [] k i' acc) → ∃ r2, RepW (.agg [.prim (.slice none 0 0), nI k, nI i', .sl (acc.map Tm.enc)]) r2 ∧ RefRes 0 T.1 T.2 r2 (metO m') := by
   intro i' T h1
   rw [h1]
   exact ⟨_, repw_body _ _ _, rfl, .mk [] k i' acc, rfl, fun _ => rfl, Nat.le_refl _⟩
  unfold headT
  rw [if_neg (by simp [h0])]
  refine ITE.intro (fun h => ?_) fun h => ?_
  ·have h1 : ¬ k = 0 := by simpa using h
   rw [if_pos (.inl h1)]
   exact ⟨rfl, fin i _ rfl⟩
  have h1 : k = 0 := by simpa using h
  refine ITE.intro (fun h => ?_) fun h => ?_
  ·have h2 : i < d := of_decide_eq_true h
   rw [if_pos (.inr h2)]
   exact ⟨rfl, fin i _ rfl⟩
  have h2 : ¬ i < d := of_decide_eq_false h
  rw [if_neg (fun h => h.elim (fun h => h h1) h2)]
  have hi2 := hi.2
  have hw1 : IntKind.wrap .i64 (i - (d : Int)) = i - d := wrap_i (by omega) (by omega)
  have hw3 : IntKind.wrap .i64 ((n : Int) - 1) = (n : Int) - 1 := wrap_i (by omega) (by omega)
  rw [hw1]
  refine ITE.intro (fun h => ?_) fun h => ?_
  ·have h4 : i - (d : Int) ≥ n := of_decide_eq_true h
   rw [if_pos (by omega)]
   have hw4 : IntKind.wrap .i64 (i - ((List.length (us.map Tm.enc) : Nat) : Int)) = i - us.length := by rw [List.length_map]; exact wrap_i (by omega) (by omega)
   rw [hw4]
   exact ⟨rfl, fin _ _ rfl⟩
  have h4 : ¬ i - (d : Int) ≥ n := of_decide_eq_false h
  rw [if_neg (by omega), hw3]
  have hw5 : IntKind.wrap .i64 ((n : Int) - 1 - (i - (d : Int))) = ((n - 1 - (i - d).toNat : Nat) : Int) := by rw [wrap_i (by omega) (by omega)]; omega
  rw [hw5, List.length_map]
  refine ITE.intro (fun h => ?_) fun h => ?_
  ·have h5 : ((n - 1 - (i - d).toNat : Nat) : Int) ≥ us.length := of_decide_eq_true h
   rw [if_pos (by omega)]
   exact ⟨rfl, fin i _ rfl⟩
  have h5 : ¬ ((n - 1 - (i - d).toNat : Nat) : Int) ≥ us.length := of_decide_eq_false h
  rw [if_neg (by omega)]
  have hw6 : IntKind.wrap .i64 (IntKind.wrap .i64 ((d : Int) + n) - ((us.length : Nat) : Int)) = ((d + n - us.length : Nat) : Int) := by
   rw [wrap_i (n := (d : Int) + n) (by omega) (by omega), wrap_i (by omega) (by omega)]; omega
  rw [hw6]
  have hlt : n - 1 - (i - d).toNat < us.length := by omega
  generalize hv : n - 1 - (i - d).toNat = v at hlt
  have hst : standT us i n d = us[v].lift (d + n - us.length) 0 := by
   unfold standT
   rw [hv, List.getD_eq_getElem?_getD, List.getElem?_eq_getElem hlt]; rfl
  have hgr := Up_calls (b := d + n - us.length) hB (hun _ (List.getElem_mem hlt)) (Tm.los_iff.1 hus _ (List.getElem_mem hlt))
  rw [← hst] at hgr
  have hslo := Tm.lo_eq.1 (standT_lo hus i n d)
  have hsb := Ty.sizes_len (standT us i n d).binds
  refine ⟨by omega, by omega, _, _, _, _, Tm.enc_getD hlt, _, _, _, _, hgr, rfl, ?_⟩
  refine ITE.intro (fun h => ?_) fun h => ⟨rfl, ?_⟩
  ·have h6 : (standT us i n d).binds.length ≠ acc.length := by intro e; apply (show ¬ _ from by simpa using h); omega
   rw [if_pos h6]
   exact noTm_ref (m := ⟨m'.left, m'.count, 1⟩) (by simp)
  ·have h6 : ¬ (standT us i n d).binds.length ≠ acc.length := by
    have h7 : ((standT us i n d).binds.length : Int) = acc.length := by simpa using h
    omega
   rw [if_neg h6]
   have hb := ih m' acc (standT us i n d).kind (standT us i n d).index (standT us i n d).args (standT us i n d).binds.length 0 hm' (hfuel m' hto) hslo.2.1.1 hslo.2.1.2 hslo.1.2 hslo.2.2 q2 (fun t ht => by
    have h1 := Tm.nodess_mem ht
    have h2 := hm'.count
    omega) (by omega) (by omega) (by omega)
   rw [List.length_map]
   exact ⟨_, hb, fun r q ⟨e2, t', e1, ht', hN⟩ => ⟨_, _, _, _, _, _, _, ⟨e1, e2⟩, _, RepW.refl _, rfl, t', rfl, ht', hN⟩⟩
theorem bodyR {B : Nat} (hB : B ≤ 1000000) : ∀ f, BodyR B f
 | 0 => bodyR_zero
 | f + 1 => bodyR_succ hB (bodyR hB f)
end Go.Proofs.YtghlgbhldnkdmaaGreat

namespace Go.Proofs.YtghlgbhldnkdmaaGreat
open Go
set_option linter.unusedSimpArgs false
set_option linter.unusedVariables false
theorem rPut_calls {B f : Nat} (hB : B ≤ 1000000) (m : Mt) (t : Tm) (us : List Tm) (hm : MtIn m) (hf : m.err = 0 → 100000 < f + m.count) (hlo : t.Lo B) (hus : m.err = 0 → Tm.Los B us ∧ ∀ t ∈ us, t.nodes ≤ 1000000000)
  (hk : B * (f + 1) ≤ 4000000000000000000) :
  HFn Tryz.prog 107 [.ptr 0 0, .agg [.sl (t.binds.map Ty.enc), nI t.kind, nI t.index, .sl (t.args.map Tm.enc)], .sl (us.map Tm.enc)] (metO m) (RefRes t.binds.length (putT f m t us).1 (putT f m t us).2) := by
 have hl := Tm.lo_eq.1 hlo
 have hbl := Ty.sizes_len t.binds
 refine HFn.repw (vc107_ok (ITE.intro (fun h => ?_) fun h => ?_))
 ·have hm0 : m.err = 0 := by simpa using h
  obtain ⟨hu, hn⟩ := hus hm0
  refine ITE.intro (fun h => ?_) fun h => ?_
  ·have h1 : t.binds.length < us.length := by have := of_decide_eq_true h; rw [List.length_map, List.length_map] at this; omega
   have : putT f m t us = (⟨m.left, m.count, 1⟩, noTm) := by unfold putT; rw [if_neg (by simp [hm0]), if_pos h1]
   rw [this]
   exact noTm_ref (m := ⟨m.left, m.count, 1⟩) (by simp)
  ·have h1 : ¬ t.binds.length < us.length := by have := of_decide_eq_false h; rw [List.length_map, List.length_map] at this; omega
   refine ITE.neg (by simp [hm0]) ?_
   have hp : putT f m t us = ((bodyT f m t.kind t.index t.args us t.binds.length 0).1, .mk (t.binds.drop us.length) (bodyT f m t.kind t.index t.args us t.binds.length 0).2.kind (bodyT f m t.kind t.index t.args us t.binds.length 0).2.index (bodyT f m t.kind t.index t.args us t.binds.length 0).2.args) := by
    unfold putT; rw [if_neg (by simp [hm0]), if_neg h1]
   have hb := bodyR hB f m us t.kind t.index t.args t.binds.length 0 hm hf hl.2.1.1 hl.2.1.2 hl.1.2 hl.2.2 hu hn (by omega) (by omega) (by omega)
   rw [hp]
   generalize bodyT f m t.kind t.index t.args us t.binds.length 0 = q at hb
   rw [List.length_map, List.length_map, Int.toNat_natCast, Int.toNat_natCast, List.take_of_length_le (by rw [List.length_map]; omega), ← List.map_drop]
   refine ⟨_, hb, fun r hq ⟨e2, t', e1, ht', _⟩ => ⟨_, _, _, _, _, _, _, ⟨e1, e2⟩, ⟨by omega, by omega, by omega, fun z hz => Ty.enc_cells z hz⟩, fun _ => rfl, appOk_nil (fun z hz => Ty.enc_cells z hz) (by simp; omega) (by decide), rfl, ?_⟩⟩
   refine ⟨_, RepW.refl _, rfl, .mk (t.binds.drop us.length) t'.kind t'.index t'.args, rfl, fun h => ?_, by rw [Tm.binds_mk, List.length_drop]; omega⟩
   rw [ht' h]
 ·have hm0 : m.err ≠ 0 := by simpa using h
  refine ITE.pos (by simp [hm0]) ?_
  have : putT f m t us = (m, noTm) := by unfold putT; rw [if_pos hm0]
  rw [this]
  exact noTm_ref hm0
mutual
def Tm.deep : Tm → Nat
 | .mk _ _ _ l => Tm.deeps 0 l + 1
def Tm.deeps : Nat → List Tm → Nat
 | n, [] => n
 | n, t :: l => Tm.deeps (if Tm.deep t > n then Tm.deep t else n) l
end
theorem Tm.deep_eq (t : Tm) : t.deep = Tm.deeps 0 t.args + 1 := by cases t; rfl
theorem Tm.deeps_drop {n : Nat} {l : List Tm} {k : Nat} (h : k < l.length) : Tm.deeps n (l.drop k) = Tm.deeps (if Tm.deep l[k] > n then Tm.deep l[k] else n) (l.drop (k + 1)) := by
 rw [List.drop_eq_getElem_cons h, Tm.deeps]
mutual
theorem Tm.deep_le : ∀ (t : Tm), t.deep ≤ t.nodes
 | .mk _ _ _ l => by rw [Tm.deep, Tm.nodes]; have := Tm.deeps_le 0 l; omega
theorem Tm.deeps_le : ∀ (n : Nat) (l : List Tm), Tm.deeps n l ≤ n + Tm.nodess l
 | n, [] => by simp [Tm.deeps, Tm.nodess]
 | n, t :: l => by
  rw [Tm.deeps, Tm.nodess]
  have h1 := Tm.deep_le t
  have h2 := Tm.deeps_le (if Tm.deep t > n then Tm.deep t else n) l
  split at h2 <;> (rename_i hq; first | rw [if_pos hq] | rw [if_neg hq]) <;> omega
end
theorem nodess_append (l r : List Tm) : Tm.nodess (l ++ r) = Tm.nodess l + Tm.nodess r := by
 induction l with
 | nil => simp [Tm.nodess]
 | cons t l ih => rw [List.cons_append, Tm.nodess, Tm.nodess, ih]; omega
theorem rSize_calls : ∀ (n : Nat) (t : Tm), t.nodes ≤ n → n ≤ 1000000000 → PureIs Tryz.prog 142 [.agg [.sl (t.binds.map Ty.enc), nI t.kind, nI t.index, .sl (t.args.map Tm.enc)]] (nI (t.nodes : Nat)) := by
 intro n
 induction n with
 | zero => intro t h; have := t.nodes_pos; omega
 | succ n ih =>
  intro t h hn
  have hq := Tm.nodess_len t.args
  have ht := t.nodes_eq
  refine vc142_ok ?_
  unfold vc142 vc142_L3
  refine LoopP.intro (fun k : Nat => (((), ((1 + Tm.nodess (t.args.take k) : Nat) : Int), (k : Int), ()), ((t.binds.map Ty.enc, t.kind, t.index, t.args.map Tm.enc, ()), ())))
   (fun k => k ≤ t.args.length) (fun k => t.args.length - k) 0 rfl (Nat.zero_le _) ?_
  intro k hk again hag
  dsimp only
  rw [List.length_map]
  have hle : ∀ j, Tm.nodess (t.args.take j) ≤ Tm.nodess t.args := fun j => by
   have := nodess_append (t.args.take j) (t.args.drop j)
   rw [List.take_append_drop] at this; omega
  refine ITE.intro (fun h => ?_) fun h => ?_
  ·have hlt : k < t.args.length := by simpa using h
   have hz := Tm.nodess_mem (List.getElem_mem hlt)
   have hs : Tm.nodess (t.args.take (k + 1)) = Tm.nodess (t.args.take k) + t.args[k].nodes := by
    rw [← take_snoc' hlt, nodess_append]; simp [Tm.nodess]
   refine ⟨by omega, by omega, _, _, _, _, Tm.enc_getD hlt, _, ih t.args[k] (by omega) (by omega), ?_⟩
   have h1 := hle (k + 1)
   rw [wrap_n (by omega), wrap_i (by omega) (by omega), show (((1 + Tm.nodess (t.args.take k) : Nat) : Int) + ((t.args[k].nodes : Nat) : Int)) = ((1 + Tm.nodess (t.args.take (k + 1)) : Nat) : Int) from by omega]
   exact hag (k + 1) (by omega) (by omega)
  ·have : t.args.length ≤ k := by simpa using h
   rw [List.take_of_length_le this, ht]
theorem rDepth_calls : ∀ (n : Nat) (t : Tm), t.nodes ≤ n → n ≤ 1000000000 → PureIs Tryz.prog 143 [.agg [.sl (t.binds.map Ty.enc), nI t.kind, nI t.index, .sl (t.args.map Tm.enc)]] (nI (t.deep : Nat)) := by
 intro n
 induction n with
 | zero => intro t h; have := t.nodes_pos; omega
 | succ n ih =>
  intro t h hn
  have hq := Tm.nodess_len t.args
  have ht := t.nodes_eq
  have hdd := t.deep_eq
  have hd0 := Tm.deep_le t
  refine vc143_ok ?_
  unfold vc143 vc143_L3
  refine LoopP.intro (fun b : Nat × Nat => (((), (b.2 : Int), (b.1 : Int), ()), ((t.binds.map Ty.enc, t.kind, t.index, t.args.map Tm.enc, ()), ())))
   (fun b => b.1 ≤ t.args.length ∧ Tm.deeps 0 t.args = Tm.deeps b.2 (t.args.drop b.1)) (fun b => t.args.length - b.1) (0, 0) rfl ⟨Nat.zero_le _, rfl⟩ ?_
  rintro ⟨k, v⟩ ⟨hk, hv⟩ again hag
  dsimp only at hk hv ⊢
  rw [List.length_map]
  refine ITE.intro (fun h => ?_) fun h => ?_
  ·have hlt : k < t.args.length := by simpa using h
   have hz := Tm.nodess_mem (List.getElem_mem hlt)
   rw [Tm.deeps_drop hlt] at hv
   refine ⟨by omega, by omega, _, _, _, _, Tm.enc_getD hlt, _, ih t.args[k] (by omega) (by omega), ?_⟩
   rw [wrap_n (by omega)]
   refine ITE.intro (fun h => ?_) fun h => ?_
   ·have h1 : t.args[k].deep > v := by have := of_decide_eq_true h; omega
    rw [if_pos h1] at hv
    exact hag (k + 1, t.args[k].deep) ⟨by omega, hv⟩ (by simp only; omega)
   ·have h1 : ¬ t.args[k].deep > v := by have := of_decide_eq_false h; omega
    rw [if_neg h1] at hv
    exact hag (k + 1, v) ⟨by omega, hv⟩ (by simp only; omega)
  ·have : t.args.length ≤ k := by simpa using h
   rw [List.drop_eq_nil_of_le this, Tm.deeps] at hv
   rw [wrap_n (by omega), ← hv, ← hdd]
def Tm.rightB (t : Tm) : Bool := decide (t.nodes ≤ 5000) && decide (t.deep ≤ 60)
theorem rRight_calls {t : Tm} (h : t.nodes ≤ 1000000000) : PureIs Tryz.prog 106 [.agg [.sl (t.binds.map Ty.enc), nI t.kind, nI t.index, .sl (t.args.map Tm.enc)]] (nB t.rightB) := by
 refine vc106_ok ⟨_, rSize_calls _ t (Nat.le_refl _) h, ITE.intro (fun h1 => ⟨_, rDepth_calls _ t (Nat.le_refl _) h, ?_⟩) fun h1 => ?_⟩
 ·have h1 : t.nodes ≤ 5000 := by have := of_decide_eq_true h1; omega
  rw [Tm.rightB, decide_eq_true h1, Bool.true_and]
  have : decide (((t.deep : Nat) : Int) ≤ 60) = decide (t.deep ≤ 60) := by
   by_cases h2 : t.deep ≤ 60
   ·rw [decide_eq_true h2, decide_eq_true (by omega)]
   ·rw [decide_eq_false h2, decide_eq_false (by omega)]
  rw [this]
 ·have h1 : ¬ t.nodes ≤ 5000 := by have := of_decide_eq_false h1; omega
  rw [Tm.rightB, decide_eq_false h1, Bool.false_and]
theorem trest_app : ∀ (l r : List ((Nat × Nat) × Tm)) (n : Nat), trest n (l ++ r) = if n + l.length > 5000 ∧ 0 < l.length ∨ (∃ p ∈ l, p.1.2 > 60) then false else trest (n + l.length) r
 | [], r, n => by simp
 | p :: l, r, n => by
  rw [List.cons_append, trest, trest_app l r (n + 1)]
  by_cases h1 : n + 1 > 5000
  ·rw [if_pos h1, if_pos (.inl ⟨by simp; omega, by simp⟩)]
  ·rw [if_neg h1]
   by_cases h2 : p.1.2 > 60
   ·rw [if_pos h2, if_pos (.inr ⟨p, List.mem_cons_self, h2⟩)]
   ·rw [if_neg h2]
    by_cases h3 : n + 1 + l.length > 5000 ∧ 0 < l.length ∨ ∃ q ∈ l, q.1.2 > 60
    ·rw [if_pos h3, if_pos]
     rcases h3 with h3 | ⟨q, hq, h3⟩
     ·exact .inl ⟨by simp; omega, by simp⟩
     ·exact .inr ⟨q, List.mem_cons_of_mem _ hq, h3⟩
    ·rw [if_neg h3, if_neg]
     ·congr 1; simp; omega
     ·rintro (h4 | ⟨q, hq, h4⟩)
      ·have := h4.1
       simp only [List.length_cons] at this
       by_cases hl : 0 < l.length
       ·exact h3 (.inl ⟨by omega, hl⟩)
       ·omega
      ·rcases List.mem_cons.1 hq with rfl | hq
       ·exact h2 h4
       ·exact h3 (.inr ⟨q, hq, h4⟩)
mutual
theorem Tm.pre_len : ∀ (t : Tm) (a d : Nat), (t.pre a d).length = t.nodes
 | .mk _ _ _ l, a, d => by rw [Tm.pre, List.length_cons, Tm.nodes, Tm.pres_len l]; omega
theorem Tm.pres_len : ∀ (l : List Tm) (a d : Nat), (Tm.pres a d l).length = Tm.nodess l
 | [], a, d => by simp [Tm.pres, Tm.nodess]
 | t :: l, a, d => by rw [Tm.pres, List.length_append, Tm.nodess, Tm.pre_len t, Tm.pres_len l]
end
theorem Tm.deeps_gt {m : Nat} : ∀ (l : List Tm) (n : Nat), Tm.deeps n l > m ↔ n > m ∨ ∃ t ∈ l, t.deep > m
 | [], n => by simp [Tm.deeps]
 | t :: l, n => by
  rw [Tm.deeps, Tm.deeps_gt l]
  constructor
  ·rintro (h | ⟨u, hu, h⟩)
   ·split at h
    ·exact .inr ⟨t, List.mem_cons_self, h⟩
    ·exact .inl h
   ·exact .inr ⟨u, List.mem_cons_of_mem _ hu, h⟩
  ·rintro (h | ⟨u, hu, h⟩)
   ·left; split <;> omega
   ·rcases List.mem_cons.1 hu with rfl | hu
    ·left; split <;> omega
    ·exact .inr ⟨u, hu, h⟩
mutual
theorem Tm.pre_deep {m : Nat} : ∀ (t : Tm) (a d : Nat), d ≤ m + 1 → ((∃ p ∈ t.pre a d, p.1.2 > m) ↔ t.deep + d > m + 1)
 | .mk bs k i l, a, d, hd => by
  rw [Tm.pre, Tm.deep]
  have hl := Tm.pres_deep (m := m) l (a + bs.length) (d + 1)
  constructor
  ·rintro ⟨p, hp, h⟩
   rcases List.mem_cons.1 hp with rfl | hp
   ·simp only at h; omega
   ·by_cases hdm : d ≤ m
    ·have := (hl (by omega)).1 ⟨p, hp, h⟩
     obtain ⟨t, ht, h2⟩ := this
     have := (Tm.deeps_gt (m := m - d) l 0).2 (.inr ⟨t, ht, by omega⟩)
     omega
    ·omega
  ·intro h
   by_cases hdm : d ≤ m
   ·have h1 : Tm.deeps 0 l > m - d := by omega
    rcases (Tm.deeps_gt l 0).1 h1 with h2 | ⟨t, ht, h2⟩
    ·omega
    ·obtain ⟨p, hp, h3⟩ := (hl (by omega)).2 ⟨t, ht, by omega⟩
     exact ⟨p, List.mem_cons_of_mem _ hp, h3⟩
   ·exact ⟨_, List.mem_cons_self, by simp only; omega⟩
theorem Tm.pres_deep {m : Nat} : ∀ (l : List Tm) (a d : Nat), d ≤ m + 1 → ((∃ p ∈ Tm.pres a d l, p.1.2 > m) ↔ ∃ t ∈ l, t.deep + d > m + 1)
 | [], a, d, hd => by simp [Tm.pres]
 | t :: l, a, d, hd => by
  have i1 := Tm.pre_deep t a d hd
  have i2 := Tm.pres_deep l a d hd
  rw [Tm.pres]
  constructor
  ·rintro ⟨p, hp, h⟩
   rcases List.mem_append.1 hp with hp | hp
   ·exact ⟨t, List.mem_cons_self, i1.1 ⟨p, hp, h⟩⟩
   ·obtain ⟨u, hu, h2⟩ := i2.1 ⟨p, hp, h⟩
    exact ⟨u, List.mem_cons_of_mem _ hu, h2⟩
  ·rintro ⟨u, hu, h⟩
   rcases List.mem_cons.1 hu with hu | hu
   ·rw [hu] at h
    obtain ⟨p, hp, h2⟩ := i1.2 h
    exact ⟨p, List.mem_append_left _ hp, h2⟩
   ·obtain ⟨p, hp, h2⟩ := i2.2 ⟨u, hu, h⟩
    exact ⟨p, List.mem_append_right _ hp, h2⟩
end
theorem trest_right (t : Tm) : trest 0 (t.pre 0 1) = t.rightB := by
 have h := trest_app (t.pre 0 1) [] 0
 rw [List.append_nil, Nat.zero_add, trest, Tm.pre_len] at h
 rw [h, Tm.rightB]
 have hd := Tm.pre_deep (m := 60) t 0 1 (by omega)
 have hp := t.nodes_pos
 by_cases h1 : t.nodes ≤ 5000
 ·by_cases h2 : t.deep ≤ 60
  ·rw [if_neg, decide_eq_true h1, decide_eq_true h2]; rfl
   rintro (h3 | h3)
   ·omega
   ·have := hd.1 h3; omega
  ·rw [if_pos (.inr (hd.2 (by omega))), decide_eq_false h2, Bool.and_false]
 ·rw [if_pos (.inl ⟨by omega, by omega⟩), decide_eq_false h1, Bool.false_and]
theorem rdone_calls {m : Mt} {t t' : Tm} (ht : m.err = 0 → t' = t) (h : m.err = 0 → t.nodes ≤ 1000000000) :
  HFn Tryz.prog 54 [.ptr 0 0, .agg [.sl (t'.binds.map Ty.enc), nI t'.kind, nI t'.index, .sl (t'.args.map Tm.enc)]] (metO m)
   (fun r hp' => hp' = metO (doneT (m, t)).1 ∧ r = .tup [.agg [.sl ((doneT (m, t)).2.binds.map Ty.enc), nI (doneT (m, t)).2.kind, nI (doneT (m, t)).2.index, .sl ((doneT (m, t)).2.args.map Tm.enc)], nI (doneT (m, t)).1.err]) := by
 refine HFn.repw (vc54_ok (ITE.intro (fun h0 => ?_) fun h0 => ?_))
 ·have hm0 : m.err = 0 := by simpa using h0
  rw [ht hm0]
  refine ⟨_, rRight_calls (h hm0), ITE.intro (fun h1 => ?_) fun h1 => ?_⟩
  ·have h1 : t.rightB = false := by simpa using h1
   have hd : doneT (m, t) = (⟨m.left, m.count, 2⟩, noTm) := by unfold doneT; rw [if_neg (by simp [hm0]), if_neg (by rw [trest_right, h1]; simp)]
   rw [hd]
   exact ⟨_, repw_tup2 repw_noTm', rfl, rfl⟩
  ·have h1 : t.rightB = true := by simpa using h1
   have hd : doneT (m, t) = (m, t) := by unfold doneT; rw [if_neg (by simp [hm0]), if_pos (by rw [trest_right]; exact h1)]
   refine ITE.neg (by simp [hm0]) ?_
   rw [hd]
   exact ⟨_, RepW.refl _, rfl, by rw [hm0]⟩
 ·have hm0 : m.err ≠ 0 := by simpa using h0
  refine ITE.pos (by simp [hm0]) ?_
  have hd : doneT (m, t) = (m, noTm) := by unfold doneT; rw [if_pos hm0]
  rw [hd]
  exact ⟨_, repw_tup2 repw_noTm', rfl, rfl⟩
end Go.Proofs.YtghlgbhldnkdmaaGreat

namespace Go.Proofs.YtghlgbhldnkdmaaGreat
open Go
set_option linter.unusedSimpArgs false
set_option linter.unusedVariables false
theorem rlong_calls {S : Nat} {b : Int} {c m : List Ty} (hc : ∀ t ∈ c, t.size ≤ S) (hm : ∀ t ∈ m, t.size ≤ S) (hS : S ≤ 1000) :
  ∀ (n : Nat) (r : Rw) (st : Mt) (x : List Ty) (ty : Ty), r.total ≤ n → r.total ≤ S → Rw.Typ c m x r ty → r.Ok → r.shaped = true → (∀ t ∈ x, t.size ≤ S) → x.length + r.total ≤ 1000 → MtIn st →
  HFn Tryz.prog 55 [.ptr 0 0, .agg [nI b, .sl (c.map Ty.enc), .sl (m.map Ty.enc)], .sl (x.map Ty.enc), .agg [nI r.kind, .sl (r.type.args.map Ty.enc), nI r.type.base, nI r.index, .sl (r.kids.map Rw.enc)]] (metO st)
   (RefRes (S + r.total) (Rw.long c m st x r).1 (Rw.long c m st x r).2) := by
 intro n
 induction n with
 | zero => intro r st x ty h; have := r.total_pos; omega
 | succ n ih =>
  intro r st x ty hn hrS hty hok hsh hx hxl hst
  have hrt := r.total_eq
  obtain ⟨k, t, i, kids⟩ := r
  simp only [Rw.kind_mk, Rw.type_mk, Rw.index_mk, Rw.kids_mk] at hrt ⊢
  obtain ⟨hk1, hk2, hk3⟩ := hok
  refine HFn.repw (vc55_ok (ITE.intro (fun h => ?_) fun h => ?_))
  ·have hm0 : st.err ≠ 0 := by simpa using h
   rw [Rw.long, if_pos hm0]
   exact noTm_ref hm0
  have hm0 : st.err = 0 := by simpa using h
  rw [Rw.long, if_neg (by simp [hm0])]
  refine ITE.intro (fun h => ?_) fun h => ?_
  ·have h3 : k = 3 := by simpa using h
   rw [if_pos h3]
   rw [Rw.Typ, if_pos h3] at hty
   obtain ⟨v, hv, hty⟩ := hty
   obtain ⟨a, rfl, hta⟩ := typL_one hty
   have hsa : a.shaped = true := by
    rw [Rw.shaped_eq, Rw.kids_mk, show Rw.shapeds [a] = (a.shaped && Rw.shapeds []) from Rw.shapeds_drop (l := [a]) (k := 0) (by simp)] at hsh
    simp only [Bool.and_eq_true] at hsh
    exact hsh.2.1
   have hat : Rw.totals [a] = a.total := by simp [Rw.totals]
   have htz := t.size_pos
   rw [hat] at hrt
   have hi := ih a st (x ++ [t]) v (by omega) (by omega) hta hk3.1 hsa (fun w hw => (List.mem_append.1 hw).elim (hx w) fun h => by rw [List.mem_singleton.1 h]; omega) (by rw [List.length_append, List.length_singleton]; omega) hst
   have hone : [AV.agg [.sl (t.args.map Ty.enc), nI t.base]] = [t].map Ty.enc := one_enc t
   have hbh := behind_calls (a := x) (b := [t]) (by omega) (by simp)
   rw [← hone] at hbh
   have hL : vc55_L6 b (c.map Ty.enc) (m.map Ty.enc) ((x ++ [t]).map Ty.enc) a.kind (a.type.args.map Ty.enc) a.type.base a.index (a.kids.map Rw.enc) st.left st.count st.err (t.args.map Ty.enc) t.base (fun r hp' => ∃ r2, RepW r r2 ∧ RefRes (S + (Rw.mk k t i [a]).total) (lamL t (Rw.longs c m st (x ++ [t]) [a])).1 (lamL t (Rw.longs c m st (x ++ [t]) [a])).2 r2 hp') := by
    refine ⟨_, hi, fun r q ⟨e2, t', e1, ht', htl⟩ => ⟨_, _, _, _, _, _, _, ⟨e1, e2⟩, ?_⟩⟩
    have hbh2 := behind_calls (a := [t]) (b := t'.binds) (by simp) (by omega)
    rw [← hone] at hbh2
    refine ⟨_, hbh2, _, RepW.refl _, ?_⟩
    rw [Rw.longs, Rw.longs]
    have hb1 : (lamL t ((Rw.long c m st (x ++ [t]) a).1, [(Rw.long c m st (x ++ [t]) a).2])).1 = (Rw.long c m st (x ++ [t]) a).1 := by unfold lamL; split <;> rfl
    refine ⟨by simp only; rw [hb1]; rfl, .mk (t :: t'.binds) t'.kind t'.index t'.args, rfl, fun h0 => ?_, ?_⟩
    ·simp only at h0 ⊢
     rw [hb1] at h0
     rw [ht' h0]
     unfold lamL
     rw [if_neg (by simp [h0])]
     rfl
    ·rw [Tm.binds_mk, List.length_cons, Rw.total, hat]; omega
   exact ⟨_, hbh, by omega, by simp, _, _, _, _, _, Rw.enc_getD (l := [a]) (k := 0) (by simp), hL, hL⟩
  have h3 : ¬ k = 3 := by simpa using h
  rw [if_neg h3]
  refine ITE.intro (fun h => ?_) fun h => ?_
  ·have h4 : k = 4 := by simpa using h
   rw [if_pos h4]
   rw [Rw.Typ, if_neg h3, if_pos h4] at hty
   obtain ⟨v, hty⟩ := hty
   obtain ⟨f, a, rfl, htf, hta⟩ := typL_two hty
   have hsfa : f.shaped = true ∧ a.shaped = true := by
    rw [Rw.shaped_eq, Rw.kids_mk, show Rw.shapeds [f, a] = (f.shaped && Rw.shapeds [a]) from Rw.shapeds_drop (l := [f, a]) (k := 0) (by simp), show Rw.shapeds [a] = (a.shaped && Rw.shapeds []) from Rw.shapeds_drop (l := [a]) (k := 0) (by simp)] at hsh
    simp only [Bool.and_eq_true] at hsh
    exact ⟨hsh.2.1, hsh.2.2.1⟩
   have hat : Rw.totals [f, a] = f.total + a.total := by simp [Rw.totals]
   have htz := t.size_pos
   have hfp := f.total_pos
   have hap := a.total_pos
   rw [hat] at hrt
   have hf1 := ih f st x _ (by omega) (by omega) htf hk3.1 hsfa.1 hx (by omega) hst
   have hto1 := Rw.long_to c m f st x
   have hff := Rw.long_form hc hm (by omega) f st x hx (by omega) hk3.1 hsfa.1
   have hL : vc55_L10 b (c.map Ty.enc) (m.map Ty.enc) (x.map Ty.enc) f.kind (f.type.args.map Ty.enc) f.type.base f.index (f.kids.map Rw.enc) st.left st.count st.err ([f, a].map Rw.enc) (fun r hp' => ∃ r2, RepW r r2 ∧ RefRes (S + (Rw.mk k t i [f, a]).total) (appL (Rw.longs c m st x [f, a])).1 (appL (Rw.longs c m st x [f, a])).2 r2 hp') := by
    refine ⟨_, hf1, fun r q ⟨e2, tf, e1, htf', htfl⟩ => ⟨_, _, _, _, _, _, _, ⟨e1, e2⟩, by omega, by simp, _, _, _, _, _, Rw.enc_getD (l := [f, a]) (k := 1) (by simp), ?_⟩⟩
    have hin1 := hst.to hto1
    have ha1 := ih a (Rw.long c m st x f).1 x _ (by omega) (by omega) hta hk3.2.1 hsfa.2 hx (by omega) hin1
    have hto2 := Rw.long_to c m a (Rw.long c m st x f).1 x
    have haf := Rw.long_form hc hm (by omega) a (Rw.long c m st x f).1 x hx (by omega) hk3.2.1 hsfa.2
    have hin2 := hin1.to hto2
    simp only [Rw.longs]
    have hL2 : vc55_L11 b (c.map Ty.enc) (m.map Ty.enc) (x.map Ty.enc) a.kind (a.type.args.map Ty.enc) a.type.base a.index (a.kids.map Rw.enc) (Rw.long c m st x f).1.left (Rw.long c m st x f).1.count (Rw.long c m st x f).1.err (tf.binds.map Ty.enc) tf.kind tf.index (tf.args.map Tm.enc)
      (fun r hp' => ∃ r2, RepW r r2 ∧ RefRes (S + (Rw.mk k t i [f, a]).total) (appL ((Rw.long c m (Rw.long c m st x f).1 x a).1, [(Rw.long c m st x f).2, (Rw.long c m (Rw.long c m st x f).1 x a).2])).1 (appL ((Rw.long c m (Rw.long c m st x f).1 x a).1, [(Rw.long c m st x f).2, (Rw.long c m (Rw.long c m st x f).1 x a).2])).2 r2 hp') := by
     refine ⟨_, ha1, fun r q ⟨e2, ta, e1, hta', _⟩ => ⟨_, _, _, _, _, _, _, ⟨e1, e2⟩, ?_⟩⟩
     have hone : AV.clip [.agg [.sl (ta.binds.map Ty.enc), nI ta.kind, nI ta.index, .sl (ta.args.map Tm.enc)]] = .clip ([ta].map Tm.enc) := by rw [List.map_cons, List.map_nil, Tm.enc_eq]
     rw [hone]
     generalize hm3 : (Rw.long c m (Rw.long c m st x f).1 x a).1 = M at *
     by_cases hM : M.err = 0
     ·have hF := hto2.ok hM
      have hff := hff hF
      have haf := haf hM
      have htf' := htf' hF
      have hta' := hta' hM
      generalize (Rw.long c m (Rw.long c m st x f).1 x a).2 = TA at haf hta' ⊢
      generalize (Rw.long c m st x f).2 = TF at hff htf' ⊢
      subst htf'; subst hta'
      have : appL (M, [tf, ta]) = putT 100001 M tf [ta] := by unfold appL; rw [if_neg (by simp [hM])]; rfl
      rw [this]
      have hq2 := haf.nodes
      have hp := rPut_calls (B := 2 * S) (f := 100001) (by omega) M tf [ta] hin2 (fun _ => by omega) (Tm.lo_mono (by omega) hff.lo) (fun _ => ⟨⟨Tm.lo_mono (by omega) haf.lo, True.intro⟩, fun t ht => by
       rw [List.mem_singleton.1 ht]
       have := hin2.count
       omega⟩) (by omega)
      refine ⟨_, HFn.args (by exact ⟨RepW.refl _, RepW.refl _, repw_clip _, True.intro⟩) hp, fun r q ⟨e2, tp, e1, htp, htpl⟩ => ⟨_, _, _, _, _, _, _, ⟨e1, e2⟩, _, RepW.refl _, rfl, tp, rfl, htp, ?_⟩⟩
      rw [Rw.total, hat]; omega
     ·have : appL (M, [(Rw.long c m st x f).2, (Rw.long c m (Rw.long c m st x f).1 x a).2]) = (M, noTm) := by unfold appL; rw [if_pos hM]
      rw [this]
      have hstop : HFn Tryz.prog 107 [.ptr 0 0, .agg [.sl (tf.binds.map Ty.enc), nI tf.kind, nI tf.index, .sl (tf.args.map Tm.enc)], .clip ([ta].map Tm.enc)] (metO M) (RefRes 0 M noTm) := by
       refine HFn.repw ?_
       refine HFn.args (args' := [_, _, .sl ([ta].map Tm.enc)]) (by exact ⟨RepW.refl _, RepW.refl _, repw_clip _, True.intro⟩) ?_
       exact vc107_ok (ITE.neg (by simp [hM]) (ITE.pos (by simp [hM]) (noTm_ref hM)))
      refine ⟨_, hstop, fun r q ⟨e2, tp, e1, htp, htpl⟩ => ⟨_, _, _, _, _, _, _, ⟨e1, e2⟩, _, RepW.refl _, rfl, tp, rfl, htp, ?_⟩⟩
      omega
    exact ⟨hL2, hL2⟩
   exact ⟨by omega, by simp, _, _, _, _, _, Rw.enc_getD (l := [f, a]) (k := 0) (by simp), hL, hL⟩
  ·have h4 : ¬ k = 4 := by simpa using h
   rw [if_neg h4]
   have hh := typ_head h3 h4 hty
   have hsz : ty.size ≤ S := (headTy_mem hh).elim (hx _) fun h => h.elim (hc _) (hm _)
   have hht := rheadType_calls (b := b) (c := c) (m := m) (x := x) (k := k) hk2 (by omega)
   rw [hh] at hht
   have heta := rEta_calls (t := ty) (k := k) (i := i) (by omega) (fun h => by subst h; have := typ_bound hh; omega)
   have hts := tysize_calls ty.size ty (Nat.le_refl _) (by omega)
   rw [Ty.enc_eq] at hts
   rw [Ty.enc_eq, Tm.enc_eq] at heta
   refine ⟨_, _, _, hht, _, hts, ?_⟩
   unfold headL
   rw [hh, Option.getD_some]
   refine LoopP.intro (β := Nat × Mt) (fun bb => (((), (), (), (), (bb.1 : Int), ()), (((bb.2.left : Int), (bb.2.count : Int), bb.2.err, ()), (b, c.map Ty.enc, m.map Ty.enc, ()), (k, t.args.map Ty.enc, t.base, i, kids.map Rw.enc, ()), ((), (0 : Int), (0 : Int), (), ()), (k, i, ()), (ty.args.map Ty.enc, ty.base, ()), ())))
    (fun bb => bb.1 ≤ ty.size ∧ MtIn bb.2 ∧ bb.2.err = 0 ∧ st.units ty.size = bb.2.units bb.1) (fun bb => bb.1) (ty.size, st) rfl ⟨Nat.le_refl _, hst, hm0, rfl⟩ ?_
   rintro ⟨j, m'⟩ ⟨hj, hm', he0, hu⟩ again hag
   dsimp only at hj hm' he0 hu ⊢
   refine ITE.intro (fun h => ?_) fun h => ?_
   ·have hp : (j : Int) > 0 := of_decide_eq_true h
    obtain ⟨j, rfl⟩ : ∃ j', j = j' + 1 := ⟨j - 1, by omega⟩
    have hw : IntKind.wrap .i64 (((j + 1 : Nat) : Int) - 1) = ((j : Nat) : Int) := by rw [wrap_i (by omega) (by omega)]; omega
    rw [units_succ] at hu
    refine ⟨_, one_calls hm', fun r q ⟨e1, e2⟩ => ⟨_, _, _, _, ⟨e1, e2⟩, ?_⟩⟩
    refine ITE.intro (fun h => ?_) fun h => ?_
    ·have h1 : m'.one.2 = false := by simpa using h
     have h2 := (one_false h1).1
     rw [units_stop h2] at hu
     rw [hu, if_pos rfl]
     exact noTm_ref h2
    ·have h1 : m'.one.2 = true := by simpa using h
     obtain ⟨_, _, _, g3⟩ := one_true h1
     rw [hw]
     exact hag (j, m'.one.1) ⟨by omega, hm'.to (Mt.one_to m'), by rw [g3], hu⟩ (Nat.lt_succ_self j)
   ·have hp : ¬ (j : Int) > 0 := of_decide_eq_false h
    obtain rfl : j = 0 := by omega
    rw [Mt.units, decide_eq_true he0] at hu
    rw [hu, if_neg (by simp)]
    refine ⟨_, _, _, _, heta, _, RepW.refl _, rfl, etaT k i ty, rfl, fun _ => rfl, ?_⟩
    rw [etaT_eq, Tm.binds_mk]
    have := Ty.sizes_len ty.args
    have := ty.size_eq
    omega
theorem firstBad_ge {b : Int} : ∀ (l : List Ty) (k : Nat), decide (firstBad b k l ≥ 0) = !(l.all (Ty.rightB b))
 | [], k => rfl
 | t :: l, k => by
  rw [firstBad, List.all_cons]
  split
  ·rename_i h; rw [firstBad_ge l (k + 1), h, Bool.true_and]
  ·rename_i h
   rw [show Ty.rightB b t = false from by simpa using h, Bool.false_and, decide_eq_true (by omega)]; rfl
theorem rightCtx_all (b : Int) (c m x : List Ty) : rightCtx b c m x = (c.all (Ty.rightB b) && (m.all (Ty.rightB b) && (decide (x.length ≤ 900) && x.all (Ty.rightB b)))) := by
 rw [rightCtx, firstBad_ge, firstBad_ge, List.all_append]
 simp only [Bool.not_not, Bool.and_assoc]
theorem all_drop {α : Type} {p : α → Bool} {l : List α} {k : Nat} (h : k < l.length) : (l.drop k).all p = (p l[k] && (l.drop (k + 1)).all p) := by
 rw [List.drop_eq_getElem_cons h, List.all_cons]
theorem rRightWorld_calls {b : Int} {c m : List Ty} (hc : c.length ≤ 500) (hm : m.length ≤ 500) (h1 : Ty.sizes c ≤ 500000000) (h2 : Ty.sizes m ≤ 500000000) :
  PureIs Tryz.prog 103 [.agg [nI b, .sl (c.map Ty.enc), .sl (m.map Ty.enc)]] (nB (c.all (Ty.rightB b) && m.all (Ty.rightB b))) := by
 refine vc103_ok ?_
 unfold vc103 vc103_L4
 rw [List.length_map, List.length_map, wrap_i (by omega) (by omega)]
 refine ITE.neg (decide_eq_false (by omega)) (ITE.neg (decide_eq_false (by omega)) ?_)
 refine LoopP.intro (fun k : Nat => (((), (k : Int), ()), ((b, c.map Ty.enc, m.map Ty.enc, ()), ()))) (fun k => k ≤ c.length ∧ c.all (Ty.rightB b) = (c.drop k).all (Ty.rightB b)) (fun k => c.length - k) 0 rfl ⟨Nat.zero_le _, rfl⟩ ?_
 intro k ⟨hk, hs⟩ again hag
 dsimp only
 rw [List.length_map]
 refine ITE.intro (fun h => ?_) fun h => ?_
 ·have hlt : k < c.length := by simpa using h
  rw [all_drop hlt] at hs
  refine ⟨by omega, by omega, _, _, Ty.enc_getD hlt, _, rrightT_calls (by have := Ty.sizes_mem (List.getElem_mem hlt); omega), ITE.intro (fun h => ?_) fun h => ?_⟩
  ·rw [hs, show Ty.rightB b c[k] = false from by simpa using h, Bool.false_and, Bool.false_and]
  ·rw [show Ty.rightB b c[k] = true from by simpa using h, Bool.true_and] at hs
   rw [wrap_n (by omega)]
   exact hag (k + 1) ⟨by omega, hs⟩ (by omega)
 ·have : c.length ≤ k := by simpa using h
  rw [List.drop_eq_nil_of_le this] at hs
  unfold vc103_L9
  refine LoopP.intro (fun k : Nat => (((), (k : Int), ()), ((b, c.map Ty.enc, m.map Ty.enc, ()), ()))) (fun k => k ≤ m.length ∧ m.all (Ty.rightB b) = (m.drop k).all (Ty.rightB b)) (fun k => m.length - k) 0 rfl ⟨Nat.zero_le _, rfl⟩ ?_
  intro k ⟨hk, hs2⟩ again hag
  dsimp only
  rw [List.length_map]
  refine ITE.intro (fun h => ?_) fun h => ?_
  ·have hlt : k < m.length := by simpa using h
   rw [all_drop hlt] at hs2
   refine ⟨by omega, by omega, _, _, Ty.enc_getD hlt, _, rrightT_calls (by have := Ty.sizes_mem (List.getElem_mem hlt); omega), ITE.intro (fun h => ?_) fun h => ?_⟩
   ·rw [hs2, show Ty.rightB b m[k] = false from by simpa using h, Bool.false_and, Bool.and_false]
   ·rw [show Ty.rightB b m[k] = true from by simpa using h, Bool.true_and] at hs2
    rw [wrap_n (by omega)]
    exact hag (k + 1) ⟨by omega, hs2⟩ (by omega)
  ·have : m.length ≤ k := by simpa using h
   rw [List.drop_eq_nil_of_le this] at hs2
   rw [hs, hs2]; rfl
theorem rRightCtx_calls {b : Int} {c m x : List Ty} (hc : c.length ≤ 500) (hm : m.length ≤ 500) (h1 : Ty.sizes c ≤ 500000000) (h2 : Ty.sizes m ≤ 500000000) (hx : Ty.sizes x ≤ 500000000) :
  PureIs Tryz.prog 52 [.agg [nI b, .sl (c.map Ty.enc), .sl (m.map Ty.enc)], .sl (x.map Ty.enc)] (nB (rightCtx b c m x)) := by
 have hl := Ty.sizes_len x
 rw [rightCtx_all]
 refine vc52_ok ?_
 unfold vc52 vc52_L2
 refine LoopP.intro (fun k : Nat => ((x.map Ty.enc, (), (k : Int), ()), ((b, c.map Ty.enc, m.map Ty.enc, ()), ()))) (fun k => k ≤ x.length ∧ x.all (Ty.rightB b) = (x.drop k).all (Ty.rightB b)) (fun k => x.length - k) 0 rfl ⟨Nat.zero_le _, rfl⟩ ?_
 intro k ⟨hk, hs⟩ again hag
 dsimp only
 rw [List.length_map]
 refine ITE.intro (fun h => ?_) fun h => ?_
 ·have hlt : k < x.length := by simpa using h
  rw [all_drop hlt] at hs
  refine ⟨by omega, by omega, _, _, Ty.enc_getD hlt, _, rrightT_calls (by have := Ty.sizes_mem (List.getElem_mem hlt); omega), ITE.intro (fun h => ?_) fun h => ?_⟩
  ·rw [hs, show Ty.rightB b x[k] = false from by simpa using h, Bool.false_and, Bool.and_false, Bool.and_false, Bool.and_false]
  ·rw [show Ty.rightB b x[k] = true from by simpa using h, Bool.true_and] at hs
   rw [wrap_n (by omega)]
   exact hag (k + 1) ⟨by omega, hs⟩ (by omega)
 ·have : x.length ≤ k := by simpa using h
  rw [List.drop_eq_nil_of_le this] at hs
  refine ITE.intro (fun h => ⟨_, rRightWorld_calls hc hm h1 h2, ?_⟩) fun h => ?_
  ·rw [hs, decide_eq_true (by have := of_decide_eq_true h; omega)]
   simp
  ·rw [decide_eq_false (by have := of_decide_eq_false h; omega)]
   simp
theorem rLong_calls {S : Nat} {b : Int} {c m x : List Ty} {r : Rw} {left : Nat} (hin : NormIn S c m x r) (hl : left ≤ 1000000) :
  Pure Tryz.prog 16 [.agg [nI b, .sl (c.map Ty.enc), .sl (m.map Ty.enc)], .sl (x.map Ty.enc), .agg [nI r.kind, .sl (r.type.args.map Ty.enc), nI r.type.base, nI r.index, .sl (r.kids.map Rw.enc)], nI left]
   (fun a => a = .tup [.agg [.sl ((longR b c m x r left).2.binds.map Ty.enc), nI (longR b c m x r left).2.kind, nI (longR b c m x r left).2.index, .sl ((longR b c m x r left).2.args.map Tm.enc)], nI (longR b c m x r left).1.count, nI (longR b c m x r left).1.err]) := by
 have hsz := hin.sizes
 have hs1 : Ty.sizes c ≤ 500000000 ∧ Ty.sizes m ≤ 500000000 := by rw [Ty.sizes_append] at hsz; omega
 have hi := rInfer_calls (b := b) (c := c) (m := m) (x := x) (r := r) (fun t ht => by have := hin.hc t ht; have := hin.s; omega) (fun t ht => by have := hin.hm t ht; have := hin.s; omega) hin.ok (by have := hin.xl; omega)
 rw [Rw.enc_eq] at hi
 refine vc16_ok ⟨_, rRightCtx_calls (by have := hin.cl; omega) (by have := hin.ml; omega) hs1.1 hs1.2 (by omega), ITE.intro (fun h => ?_) fun h => ?_⟩
 ·have h : rightCtx b c m x = false := by simpa using h
  rw [show longR b c m x r left = (⟨left, 0, 1⟩, noTm) from by unfold longR; rw [if_pos h]]; rfl
 have h1 : rightCtx b c m x = true := by simpa using h
 have hL : longR b c m x r left = if (r.inf b c m x).2 ≠ 0 then (⟨left, 0, (r.inf b c m x).2⟩, noTm) else doneT (Rw.long c m ⟨left, 0, 0⟩ x r) := by unfold longR; rw [if_neg (by rw [h1]; simp)]
 refine ⟨_, _, _, hi, ITE.intro (fun h => ?_) fun h => ?_⟩
 ·have h2 : (r.inf b c m x).2 ≠ 0 := by unfold Rw.inf; simpa using h
  rw [hL, if_pos h2]; rfl
 have h2 : (r.inf b c m x).2 = 0 := by unfold Rw.inf; simpa using h
 rw [hL, if_neg (by simp [h2])]
 have hrb : r.rightB = true := by
  cases hrb : r.rightB with
  | true => rfl
  | false => rw [Rw.inf, hrb] at h2; simp at h2
 have hsh : r.shaped = true := by rw [Rw.rightB, Bool.and_eq_true] at hrb; exact hrb.1
 have hty : Rw.Typ c m x r (r.infer b c m x).1 := infer_typ b c m r x _ hsh (by
  rw [Rw.inf, if_pos hrb] at h2
  rw [← h2])
 have hmt : MtIn ⟨left, 0, 0⟩ := ⟨by simp only; omega, Nat.zero_le _⟩
 have hlong := rlong_calls (b := b) hin.hc hin.hm hin.s _ r ⟨left, 0, 0⟩ x _ (Nat.le_refl _) hin.hr hty hin.ok hsh hin.hx hin.xl hmt
 have hto := Rw.long_to c m r ⟨left, 0, 0⟩ x
 have hform := Rw.long_form hin.hc hin.hm (by have := hin.s; omega) r ⟨left, 0, 0⟩ x hin.hx hin.hr hin.ok hsh
 generalize Rw.long c m ⟨left, 0, 0⟩ x r = Q at hlong hform hto
 refine ⟨_, hlong, fun r1 q ⟨e2, t1, e1, ht1, _⟩ => ⟨_, _, _, _, _, _, _, ⟨e1, e2⟩, ?_⟩⟩
 have hdone := rdone_calls ht1 (fun h0 => by
  have hn := (hform h0).nodes
  have := (hmt.to hto).count
  omega)
 rw [show (Q.1, Q.2) = Q from rfl] at hdone
 exact ⟨_, hdone, fun r2 q ⟨e2, e1⟩ => ⟨_, _, _, _, _, _, _, _, ⟨e1, e2⟩, rfl⟩⟩
end Go.Proofs.YtghlgbhldnkdmaaGreat

namespace Go.Proofs.YtghlgbhldnkdmaaGreat
open Go
set_option linter.unusedSimpArgs false
set_option linter.unusedVariables false
theorem tsz_calls {t : Tm} (h : t.size ≤ 500000000) : PureIs Tryz.prog 42 [.agg [.sl (t.binds.map Ty.enc), nI t.kind, nI t.index, .sl (t.args.map Tm.enc)]] (nI (t.nodes : Nat)) := by
 have hn := Tm.nodes_le t
 refine vc42_ok ⟨teach_calls t, ?_⟩
 refine RangeP.intro2 (fun n : Nat => ((t.binds.map Ty.enc, t.kind, t.index, t.args.map Tm.enc, ()), ((n : Int), ()), ())) encQE (t.pre 0 1) (teach_seq h) (fun r n => n + r.length = t.nodes) 0 rfl (by rw [Tm.pre_len, Nat.zero_add]) (fun p r n hI again hag => ?_) fun n hI => ?_
 ·simp only [List.length_cons] at hI
  dsimp only [encQE]
  rw [wrap_n (by omega)]
  exact hag (n + 1) (by omega)
 ·simp only [List.length_nil, Nat.add_zero] at hI
  rw [hI]
theorem tequal_calls : ∀ (n : Nat) (t u : Tm), t.size ≤ n → n ≤ 500000000 → PureIs Tryz.prog 37 [.agg [.sl (t.binds.map Ty.enc), nI t.kind, nI t.index, .sl (t.args.map Tm.enc)], .agg [.sl (u.binds.map Ty.enc), nI u.kind, nI u.index, .sl (u.args.map Tm.enc)]] (nB (Tm.same t u)) := by
 intro n
 induction n with
 | zero => intro t u h; have := t.size_pos; omega
 | succ n ih =>
  intro t u h hn
  have hq := Tm.sizes_len t.args
  have hts := t.size_eq
  have hb := equals_calls (l := t.binds) (m := u.binds) (by have := Ty.sizes_len t.binds; omega) fun k h1 h2 => equal_calls _ t.binds[k] u.binds[k] (Nat.le_refl _) (by have := Ty.sizes_mem (List.getElem_mem h1); omega)
  rw [Tm.same_eq]
  have hargs : PureIs Tryz.prog 91 [.sl (t.args.map Tm.enc), .sl (u.args.map Tm.enc), .clo 37 []] (nB (Tm.sames t.args u.args)) := by
   refine vc91_ok (ITE.intro (fun h => ?_) fun h => ?_)
   ·rw [Tm.sames_len (by simp at h; omega)]
   ·have hlm : t.args.length = u.args.length := by simp at h; omega
    refine LoopP.intro (fun k : Nat => ((u.args.map Tm.enc, (), t.args.map Tm.enc, (t.args.length : Int), (k : Int), ()), ())) (fun k => k ≤ t.args.length ∧ Tm.sames t.args u.args = Tm.sames (t.args.drop k) (u.args.drop k)) (fun k => t.args.length - k) 0 (by rw [List.length_map]; rfl) ⟨Nat.zero_le _, rfl⟩ ?_
    intro k ⟨hk, hs⟩ again hag
    dsimp only
    refine ITE.intro (fun h => ?_) fun h => ?_
    ·have hlt : k < t.args.length := by simpa using h
     rw [Tm.sames_drop hlt (by omega)] at hs
     have hi := ih t.args[k] (u.args[k]'(by omega)) (by have := Tm.arg_size hlt; omega) (by omega)
     refine ⟨by omega, by rw [List.length_map]; omega, _, _, _, _, Tm.enc_getD hlt, by omega, by rw [List.length_map]; omega, _, _, _, _, Tm.enc_getD (by omega), _, hi, ITE.intro (fun h => ?_) fun h => ?_⟩
     ·have : Tm.same t.args[k] u.args[k] = false := by simpa using h
      rw [hs, this, Bool.false_and]
     ·have he : Tm.same t.args[k] u.args[k] = true := by simpa using h
      rw [he, Bool.true_and] at hs
      rw [wrap_n (by omega)]
      exact hag (k + 1) ⟨by omega, hs⟩ (by omega)
    ·have : t.args.length ≤ k := by simpa using h
     rw [List.drop_eq_nil_of_le this, List.drop_eq_nil_of_le (by omega)] at hs
     rw [hs]; rfl
  refine vc37_ok (ITE.intro (fun h => ⟨_, hb, ITE.intro (fun h2 => ⟨_, hargs, ?_⟩) fun h2 => ?_⟩) fun h => ?_)
  ·rw [h, h2, Bool.true_and, Bool.true_and]
  ·rw [h, h2, Bool.true_and, Bool.false_and]
  ·rw [h, Bool.false_and]
def k8a : Ty := .mk [] 0
def k8f : Ty := .mk [k8a] 0
def k8x : Rw := headRw 0 0
def k8s : Rw := headRw 1 0
def k8two : Rw := ((headRw 0 1).call [(headRw 0 1).call [k8x]]).bind [k8f, k8a]
def k8u : Rw := (k8s.call [k8s.call [k8x]]).bind [k8a]
def k8t : Tm := .mk [k8a] 1 0 [.mk [] 1 0 [.mk [] 0 0 []]]
theorem k8_1 : longR 1 [k8f] [] [] (k8two.call [k8s]) 100000 = ((longR 1 [k8f] [] [] (k8two.call [k8s]) 100000).1, k8t) := by kernel_rfl
theorem k8_1e : (longR 1 [k8f] [] [] (k8two.call [k8s]) 100000).1.err = 0 := by kernel_rfl
theorem k8_2 : (longR 1 [k8f] [] [] k8u 100000).2 = k8t := by kernel_rfl
theorem k8_2e : (longR 1 [k8f] [] [] k8u 100000).1.err = 0 := by kernel_rfl
theorem k8_3 : costR (longR 1 [k8f] [] [] k8s 100000) = 2 := by kernel_rfl
theorem k8_3e : (longR 1 [k8f] [] [] k8s 100000).1.err = 0 := by kernel_rfl
theorem k8_in {r : Rw} (h : r.total ≤ 500) (hk : r.Ok) : NormIn 500 [k8f] [] [] r :=
 ⟨by decide, by simp [k8f, k8a, Ty.size, Ty.sizes], by simp, by simp, by simp, by simp, by simp; omega, h, hk⟩
theorem known08_calls : PureIs Tryz.prog 10 [] (nB true) := by
 have ha := kindOf_calls 0
 have hf := ofKind_calls (b := 0) (l := [k8a]) (by simp [k8a, Ty.size, Ty.sizes])
 have hc1 := call_calls (r := headRw 0 1) (l := [k8x]) (Rw.fit_of _ (by simp [Rw.total, Rw.totals, Ty.size, Ty.sizes])) (Rw.fits_of _ (by simp [k8x, Rw.total, Rw.totals, Ty.size, Ty.sizes])) (by simp)
 have hc2 := call_calls (r := headRw 0 1) (l := [(headRw 0 1).call [k8x]]) (Rw.fit_of _ (by simp [Rw.total, Rw.totals, Ty.size, Ty.sizes])) (Rw.fits_of _ (by simp [k8x, Rw.call, Rw.total, Rw.totals, Ty.size, Ty.sizes])) (by simp)
 have hb1 := bind_calls (r := (headRw 0 1).call [(headRw 0 1).call [k8x]]) (l := [k8f, k8a]) (Rw.fit_of _ (by simp [k8x, Rw.call, Rw.total, Rw.totals, Ty.size, Ty.sizes])) (by simp [k8f, k8a, Ty.size, Ty.sizes]) (by simp)
 have hc3 := call_calls (r := k8two) (l := [k8s]) (Rw.fit_of _ (by simp [k8two, k8x, k8f, k8a, Rw.bind, Rw.call, Rw.total, Rw.totals, Ty.size, Ty.sizes])) (Rw.fits_of _ (by simp [k8s, Rw.total, Rw.totals, Ty.size, Ty.sizes])) (by simp)
 have hc4 := call_calls (r := k8s) (l := [k8x]) (Rw.fit_of _ (by simp [k8s, Rw.total, Rw.totals, Ty.size, Ty.sizes])) (Rw.fits_of _ (by simp [k8x, Rw.total, Rw.totals, Ty.size, Ty.sizes])) (by simp)
 have hc5 := call_calls (r := k8s) (l := [k8s.call [k8x]]) (Rw.fit_of _ (by simp [k8s, Rw.total, Rw.totals, Ty.size, Ty.sizes])) (Rw.fits_of _ (by simp [k8s, k8x, Rw.call, Rw.total, Rw.totals, Ty.size, Ty.sizes])) (by simp)
 have hb2 := bind_calls (r := k8s.call [k8s.call [k8x]]) (l := [k8a]) (Rw.fit_of _ (by simp [k8s, k8x, Rw.call, Rw.total, Rw.totals, Ty.size, Ty.sizes])) (by simp [k8a, Ty.size, Ty.sizes]) (by simp)
 have o1 := nOf_calls (b := 1) (k8_in (r := k8two.call [k8s]) (by simp [k8two, k8s, k8x, k8f, k8a, Rw.bind, Rw.call, Rw.total, Rw.totals, Ty.size, Ty.sizes]) (by simp [k8two, k8s, k8x, k8f, k8a, Rw.bind, Rw.call, Rw.Ok, Rw.Oks, I64]))
 have o2 := nOf_calls (b := 1) (k8_in (r := k8u) (by simp [k8u, k8s, k8x, k8a, Rw.bind, Rw.call, Rw.total, Rw.totals, Ty.size, Ty.sizes]) (by simp [k8u, k8s, k8x, k8a, Rw.bind, Rw.call, Rw.Ok, Rw.Oks, I64]))
 have o3 := nCost_calls (b := 1) (k8_in (r := k8s) (by simp [k8s, Rw.total, Rw.totals, Ty.size, Ty.sizes]) (by simp [k8s, Rw.Ok, Rw.Oks, I64]))
 rw [k8_1e, k8_1] at o1
 rw [k8_2e, k8_2] at o2
 rw [k8_3e, k8_3] at o3
 have he := tequal_calls _ k8t k8t (Nat.le_refl _) (by simp [k8t, k8a, Tm.size, Tm.sizes, Ty.size, Ty.sizes])
 rw [Tm.same_self] at he
 have hs := tsz_calls (t := k8t) (by simp [k8t, k8a, Tm.size, Tm.sizes, Ty.size, Ty.sizes])
 exact vc10_ok ⟨_, _, ha, _, _, hf, _, _, _, _, _, Head_calls 0 0, _, _, _, _, _, Head_calls 0 1, _, _, _, _, _, Head_calls 0 1, _, _, _, _, _, hc1, _, _, _, _, _, hc2, _, _, _, _, _, hb1, _, _, _, _, _, Head_calls 1 0,
  _, _, _, _, _, hc3, _, _, _, _, _, o1, _, _, o3, _, _, _, _, _, hc4, _, _, _, _, _, hc5, _, _, _, _, _, hb2, _, _, _, _, _, o2, ITE.pos rfl (ITE.pos rfl ⟨_, he, ITE.pos rfl ⟨_, hs, ITE.pos rfl (ITE.pos rfl rfl)⟩⟩)⟩
theorem law_in {c m x : List Ty} {r : Rw} (hr : r.total ≤ 300) (hok : r.Ok) (h : smallB c m x = true) : NormIn 400 c m x r := by
 obtain ⟨⟨g1, g2, g3⟩, ⟨h1, h2, h3⟩, h4, h5, h6⟩ := small_all h
 exact ⟨by decide, fun t ht => by have := h4 t ht; omega, fun t ht => by have := h5 t ht; omega, fun t ht => by have := h6 t ht; omega, by omega, by omega, by omega, by omega, hok⟩
theorem longR_size {S : Nat} {b : Int} {c m x : List Ty} {r : Rw} {left : Nat} (hin : NormIn S c m x r) : (longR b c m x r left).2.size ≤ 300000000 ∧ (longR b c m x r left).2.Ok := by
 have hno : noTm.size ≤ 300000000 ∧ noTm.Ok := ⟨by simp [noTm, Tm.size, Tm.sizes, Ty.sizes], ⟨⟨by decide, by decide⟩, ⟨by decide, by decide⟩, True.intro⟩⟩
 unfold longR
 split
 ·exact hno
 ·split
  ·exact hno
  ·rename_i h1 h2
   have h2 : (r.inf b c m x).2 = 0 := by simpa using h2
   have hrb : r.rightB = true := by
    cases hrb : r.rightB with
    | true => rfl
    | false => rw [Rw.inf, hrb] at h2; simp at h2
   have hsh : r.shaped = true := by rw [Rw.rightB, Bool.and_eq_true] at hrb; exact hrb.1
   have hto := Rw.long_to c m r ⟨left, 0, 0⟩ x
   have hform := Rw.long_form hin.hc hin.hm (by have := hin.s; omega) r ⟨left, 0, 0⟩ x hin.hx hin.hr hin.ok hsh
   generalize Rw.long c m ⟨left, 0, 0⟩ x r = Q at hto hform
   unfold doneT
   split
   ·exact hno
   ·rename_i h0
    have hf := hform (by simpa using h0)
    split
    ·have hn := hf.nodes
     have hmost := hto.most (by simp only; omega)
     have hs := Tm.lo_size hf.lo
     have hS := hin.s
     have hr := hin.hr
     have : Q.2.nodes * (1 + (S + r.total)) ≤ 100000 * 2001 := Nat.mul_le_mul (by omega) (by omega)
     exact ⟨by omega, Tm.lo_ok hf.lo⟩
    ·exact hno
theorem NormCosts_calls {b : Int} {c m x : List Ty} {r : Rw} (hok : r.Ok) : PureIs Tryz.prog 4 [.agg [nI b, .sl (c.map Ty.enc), .sl (m.map Ty.enc)], .sl (x.map Ty.enc), r.enc] (nB true) := by
 have he := Rw.enc_eq r
 have hfew := rwFew_calls (most := 100) (d := 70) (t := r) (by omega) (by omega)
 rw [he] at hfew
 rw [he]
 refine vc4_ok ⟨_, hfew, ITE.intro (fun h => ⟨_, known08_calls, rfl⟩) fun h => ?_⟩
 have hr : r.total ≤ 100 := Rw.fewB_total (by simpa using h)
 refine ⟨_, small_calls b c m x, ITE.intro (fun h => ⟨_, known08_calls, rfl⟩) fun h => ?_⟩
 have hsm : smallB c m x = true := by simpa using h
 have hin := law_in (by omega) hok hsm
 obtain ⟨_, ⟨h1, h2, h3⟩, h4, h5, _⟩ := small_all hsm
 have hto := rwTo_calls _ r (Nat.le_refl _) (by omega)
 rw [he] at hto
 have hsz := longR_size (b := b) (left := 100000) hin
 have hrl := rLong_calls (b := b) (left := 100000) hin (by omega)
 have hno := nOf_calls (b := b) hin
 have hnc := nCost_calls (b := b) hin
 generalize longR b c m x r 100000 = L at hsz hrl hno hnc
 have hto6 := tmOf_calls _ L.2 (Nat.le_refl _) (by omega)
 have hsa6 := tsame_calls _ L.2 L.2 (Nat.le_refl _) (by omega)
 rw [Tm.same_self] at hsa6
 rw [Tm.enc_eq] at hto6 hsa6
 have main : vc4_L3 b (c.map Ty.enc) (m.map Ty.enc) (x.map Ty.enc) r.kind (r.type.args.map Ty.enc) r.type.base r.index (r.kids.map Rw.enc) b (c.map Ty.enc) (m.map Ty.enc) (x.map Ty.enc) r.kind (r.type.args.map Ty.enc) r.type.base r.index (r.kids.map Rw.enc) (fun a => a = nB true) := by
  refine ⟨_, _, _, _, _, hno, _, _, hnc, _, _, _, _, _, _, hrl, ITE.intro (fun h => ?_) fun h => ?_⟩
  ·have h0 : L.1.err ≠ 0 := by simpa using h
   refine ⟨_, known08_calls, ITE.pos rfl (ITE.pos (by simp) (ITE.pos (by simp) (ITE.pos ?_ ⟨_, _, _, _, hto6, _, hsa6, rfl⟩)))⟩
   rw [costR, if_pos h0]; rfl
  ·have h0 : L.1.err = 0 := by simpa using h
   refine ⟨_, known08_calls, ITE.pos rfl (ITE.pos (by simp) (ITE.pos (by simp) (ITE.pos ?_ ⟨_, _, _, _, hto6, _, hsa6, rfl⟩)))⟩
   rw [costR, if_neg (by simp [h0])]; simp
 exact ⟨_, _, _, world_calls (by omega) (by omega), _, tysTo_calls (by omega), _, _, _, _, _, hto, main, main⟩
end Go.Proofs.YtghlgbhldnkdmaaGreat
