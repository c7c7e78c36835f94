/- An abstract layer over the model's walk, its eleventh part: slice expressions; pval is sound; for every program. -/
import Derived.Test.YtfbncddnakaaiaaFilJ
namespace Go.Proofs.Ytfbncddnakaaiaa
open Go
set_option linter.unusedSimpArgs false
set_option linter.unusedVariables false

variable {G : Type} {Γ : Env G} {s : AS G} {a : Act} {w w' : World} {η : List Value} {hp : List AObj} {F : Nat → Nat → Prop} {P : Program}

theorem boundOf_eval (h : Rel Γ s a w η) {d n : Int} {x : Operand} (hb : boundOf s.ev d (some x) = some n) : ∃ k, a.eval x = .int k n := by
  unfold boundOf at hb
  simp only at hb
  split at hb
  · rename_i k m he
    obtain rfl := Option.some.inj hb
    have hx := h.ev x
    rw [he] at hx
    exact ⟨k, hx.prim_inv⟩
  · cases hb

theorem run_sliceBound (w : World) {v : Value} {k : IntKind} {n : Int} (hv : v = .int k n) {y : Nat} (h0 : 0 ≤ n) (h1 : n ≤ y) (code : BoundsCode) : (Instr.sliceBound v y code).run P w = .ok n.toNat w := by
  subst hv
  have : 0 ≤ n ∧ n ≤ (y : Int) := ⟨h0, h1⟩
  simp [Instr.sliceBound, asIntOf, this]

theorem Rep.sl_part {els : List AV} {b o c size : Nat} {x : Value} (hsz : ∀ y : AV, y ∈ els → y.cells.length = size) (hx : Rep w F η hp (.sl els) x) (hv : x = .slice (some ⟨b, o, none⟩) els.length c) {l h m : Nat} (hlh : l ≤ h) (hh : h ≤ els.length) (hm : h ≤ m) (hmc : m ≤ c) :
    Rep w F η hp (.sl ((els.take h).drop l)) (.slice (some ⟨b, if m = l then o else o + l * size, none⟩) (h - l) (m - l)) ∧ (h = m → Rep w F η hp (.clip ((els.take h).drop l)) (.slice (some ⟨b, if m = l then o else o + l * size, none⟩) (h - l) (h - l))) := by
  have hlen : ((els.take h).drop l).length = h - l := by simp; omega
  cases hx with
  | sl0 a =>
    simp only [List.length_nil, Value.slice.injEq, true_and] at hv
    obtain ⟨rfl, rfl⟩ := hv
    obtain rfl : m = 0 := by omega
    obtain rfl : h = 0 := by omega
    obtain rfl : l = 0 := by omega
    exact ⟨.sl0 _, fun _ => .clip0 _⟩
  | sl size' _ b' o' c' f hc hm' hl hcell hrep =>
    simp only [Value.slice.injEq, Option.some.injEq, Addr.mk.injEq, and_true, true_and] at hv
    obtain ⟨⟨rfl, rfl⟩, rfl⟩ := hv
    have hget : ∀ (i : Nat) (e : AV), ((els.take h).drop l)[i]? = some e → els[l + i]? = some e ∧ m ≠ l ∧ size' = size := by
      intro i e hi
      have hlt := (List.getElem?_eq_some_iff.1 hi).1
      rw [hlen] at hlt
      rw [List.getElem?_drop, List.getElem?_take, if_pos (by omega)] at hi
      exact ⟨hi, by omega, by rw [← hl _ _ hi]; exact hsz e (List.mem_of_getElem? hi)⟩
    have hbase : ∀ (i j : Nat), m ≠ l → size' = size → (if m = l then o' else o' + l * size) + i * size + j = o' + (l + i) * size' + j := by
      intro i j h1 h2
      rw [if_neg h1, h2, Nat.add_mul]; omega
    have key : ∀ c2, h - l ≤ c2 → c2 ≤ maxLen → Rep w F η hp (.sl ((els.take h).drop l)) (.slice (some ⟨b', if m = l then o' else o' + l * size, none⟩) (h - l) c2) ∧ (c2 = h - l → Rep w F η hp (.clip ((els.take h).drop l)) (.slice (some ⟨b', if m = l then o' else o' + l * size, none⟩) (h - l) (h - l))) := by
      intro c2 h1 h2
      have p1 : ∀ (i : Nat) (e : AV), ((els.take h).drop l)[i]? = some e → e.cells.length = size := fun i e hi => hsz e (List.mem_of_getElem? (hget i e hi).1)
      have p2 : ∀ (i : Nat) (e : AV) (j : Nat) (x : AV), ((els.take h).drop l)[i]? = some e → e.cells[j]? = some x →
          w.cell? ⟨b', (if m = l then o' else o' + l * size) + i * size + j, none⟩ = some (f (l + i) j) ∧ F b' ((if m = l then o' else o' + l * size) + i * size + j) ∧ (f (l + i) j).oneCell' = true := by
        intro i e j x hi hj
        obtain ⟨g1, g2, g3⟩ := hget i e hi
        rw [hbase i j g2 g3]
        exact hcell _ _ _ _ g1 hj
      have p3 : ∀ (i : Nat) (e : AV) (j : Nat) (x : AV), ((els.take h).drop l)[i]? = some e → e.cells[j]? = some x → Rep w F [] [] x (f (l + i) j) :=
        fun i e j x hi hj => hrep _ _ _ _ (hget i e hi).1 hj
      have q1 := Rep.sl (η := η) (hp := hp) size ((els.take h).drop l) b' (if m = l then o' else o' + l * size) c2 (fun i j => f (l + i) j) (by rw [hlen]; exact h1) h2 p1 p2 p3
      rw [hlen] at q1
      refine ⟨q1, fun _ => ?_⟩
      have q2 := Rep.clip (η := η) (hp := hp) size ((els.take h).drop l) b' (if m = l then o' else o' + l * size) (fun i j => f (l + i) j) (by rw [hlen]; omega) p1 p2 p3
      rw [hlen] at q2
      exact q2
    refine ⟨(key (m - l) (by omega) (by omega)).1, fun e => ?_⟩
    exact (key (m - l) (by omega) (by omega)).2 (by omega)

theorem vrun_slice {tab : Nat → Option TD} (htab : TabOk Γ.P tab) {o : Oper} {T e : Nat} {x : Operand} {lo hi mx : Option Operand} (ho : o.op = .slice T x lo hi mx) {d d' : TD} (hd : tab T = some d) (hk : d.kind = .slc e) (hd' : tab e = some d') {els : List AV} (hels : (s.ev x).asSl s.hp = some els)
    {l h : Int} (hl : boundOf s.ev 0 lo = some l) (hh : boundOf s.ev els.length hi = some h) (h0 : 0 ≤ l) (h1 : l ≤ h) (h2 : h ≤ els.length) (hsz : ∀ y : AV, y ∈ els → y.cells.length = d'.size) {r : AV}
    (hr : (mx = none ∧ r = .sl ((els.take h.toNat).drop l.toNat)) ∨ (∃ y m, mx = some y ∧ hi.isSome ∧ boundOf s.ev 0 (some y) = some m ∧ h = m ∧ r = .clip ((els.take h.toNat).drop l.toNat))) : VRun Γ o s r := by
  refine vrun_pure fun a w η hrel => ?_
  have hx := asSl_rep hrel.heap hrel.mine (hrel.ev x) hels
  have hu : Γ.P.underlying T = some (.slice e) := by
    obtain ⟨u, q2, q3⟩ := (htab T d hd).und
    rw [hk] at q3
    rw [q2]; exact congrArg some q3
  have hlv : lo = none ∧ l = 0 ∨ ∃ y k, lo = some y ∧ a.eval y = .int k l := by
    cases lo with
    | none => simp [boundOf] at hl; exact .inl ⟨rfl, hl.symm⟩
    | some y => obtain ⟨k, hk⟩ := boundOf_eval hrel hl; exact .inr ⟨y, k, rfl, hk⟩
  have hhv : hi = none ∧ h = els.length ∨ ∃ y k, hi = some y ∧ a.eval y = .int k h := by
    cases hi with
    | none => simp [boundOf] at hh; exact .inl ⟨rfl, hh.symm⟩
    | some y => obtain ⟨k, hk⟩ := boundOf_eval hrel hh; exact .inr ⟨y, k, rfl, hk⟩
  have hcap : ∃ ad c, a.eval x = .slice ad els.length c ∧ els.length ≤ c := by
    generalize a.eval x = v at hx
    cases hx with
    | sl0 a => exact ⟨a, 0, rfl, Nat.le_refl _⟩
    | sl size els b o c f hc hm hl hcell hr => exact ⟨_, c, rfl, hc⟩
  obtain ⟨ad, c, hxv, hlc⟩ := hcap
  have hsize := (htab e d' hd').run_sizeOf w
  -- the three bounds
  have hb : ∃ m : Nat, (Instr.sliceBounds true els.length c (lo.map a.eval) (hi.map a.eval) (mx.map a.eval)).run Γ.P w = .ok (l.toNat, h.toNat, m) w ∧ h.toNat ≤ m ∧ m ≤ c ∧ (mx ≠ none → m = h.toNat) := by
    rcases hr with ⟨rfl, _⟩ | ⟨y, m, rfl, his, hm, rfl, _⟩
    · refine ⟨c, ?_, by omega, Nat.le_refl _, fun h => (h rfl).elim⟩
      rcases hhv with ⟨rfl, rfl⟩ | ⟨y, k, rfl, hv⟩
      · rcases hlv with ⟨rfl, rfl⟩ | ⟨y0, k0, rfl, hv0⟩
        · simp [Instr.sliceBounds]
        · have hs0 := run_sliceBound (P := Γ.P) w hv0 (y := els.length) h0 (by omega) .sliceB
          simp [Instr.sliceBounds, hs0]
      · have hs := run_sliceBound (P := Γ.P) w hv (y := c) (by omega) (by omega) .sliceAcap
        rcases hlv with ⟨rfl, rfl⟩ | ⟨y0, k0, rfl, hv0⟩
        · simp [Instr.sliceBounds, hs]
        · have hs0 := run_sliceBound (P := Γ.P) w hv0 (y := h.toNat) h0 (by omega) .sliceB
          simp [Instr.sliceBounds, hs, hs0]
    · obtain ⟨k2, hv2⟩ := boundOf_eval hrel hm
      refine ⟨h.toNat, ?_, Nat.le_refl _, by omega, fun _ => rfl⟩
      rcases hhv with ⟨rfl, _⟩ | ⟨y', k, rfl, hv⟩
      · simp at his
      · have hs2 := run_sliceBound (P := Γ.P) w hv2 (y := c) (by omega) (by omega) .slice3Acap
        have hs := run_sliceBound (P := Γ.P) w hv (y := h.toNat) (by omega) (by omega) .slice3B
        rcases hlv with ⟨rfl, rfl⟩ | ⟨y0, k0, rfl, hv0⟩
        · simp [Instr.sliceBounds, hs, hs2]
        · have hs0 := run_sliceBound (P := Γ.P) w hv0 (y := h.toNat) h0 (by omega) .slice3C
          simp [Instr.sliceBounds, hs, hs2, hs0]
  obtain ⟨m, hrun, hm1, hm2, hm3⟩ := hb
  have hex : (execOp a.eval o).run Γ.P w = .ok (.value (.slice (if m = l.toNat then ad else ad.map (·.add (l.toNat * d'.size))) (h.toNat - l.toNat) (m - l.toNat))) w := by
    simp only [execOp, ho, Instr.sliceAt, Sem.run_bind, run_underlying hu, Result.andThen_ok, Instr.slice, hxv, hrun, hsize, Sem.run_pure]
  refine ⟨_, hex, ?_⟩
  have hcase : (els = [] ∧ c = 0) ∨ ∃ b o, ad = some ⟨b, o, none⟩ := by
    have hx' := hx
    rw [hxv] at hx'
    generalize hv : Value.slice ad els.length c = v at hx'
    cases hx' with
    | sl0 a => simp at hv; exact .inl ⟨rfl, hv.2⟩
    | sl size els b o c f hc hm hl hcell hr => simp at hv; exact .inr ⟨b, o, hv.1⟩
  rw [hxv] at hx
  rcases hcase with ⟨rfl, rfl⟩ | ⟨b, o', rfl⟩
  · have e1 : l.toNat = 0 := by simp at h2; omega
    have e2 : h.toNat = 0 := by simp at h2; omega
    have e3 : m = 0 := by omega
    rw [e1, e2, e3]
    simp only [if_true, Nat.sub_self]
    rcases hr with ⟨_, rfl⟩ | ⟨_, _, _, _, _, _, rfl⟩
    · simpa using Rep.sl0 ad
    · simpa using Rep.clip0 ad
  · have hxv := hxv
    obtain ⟨q1, q2⟩ := hx.sl_part hsz rfl (l := l.toNat) (h := h.toNat) (m := m) (by omega) (by omega) hm1 hm2
    have hval : (if m = l.toNat then some (⟨b, o', none⟩ : Addr) else (some (⟨b, o', none⟩ : Addr)).map (·.add (l.toNat * d'.size))) = some ⟨b, if m = l.toNat then o' else o' + l.toNat * d'.size, none⟩ := by
      split <;> simp [Addr.add_lit]
    rw [hval]
    rcases hr with ⟨_, rfl⟩ | ⟨y, m', hmx, _, _, _, rfl⟩
    · exact q1
    · have := hm3 (by rw [hmx]; simp)
      subst this
      exact q2 rfl

theorem findNow_imap {k : IntKind} {a : Int} : ∀ (es : List MapEntry) (l : List (Int × Value)) (i : Nat), (es.map fun e => (e.key, e.val)) = imap l →
    (∃ r, Instr.findNow (.int k) (.int .i64 a) es i = some r ∧ r.map (·.2) = mapGet l a) ∧
      (mapGet l a = none → Instr.findNow (.int k) (.int .i64 a) es i = some none) := by
  intro es
  induction es with
  | nil =>
    intro l i h
    cases l with
    | nil => exact ⟨⟨none, rfl, rfl⟩, fun _ => rfl⟩
    | cons p l => simp [imap] at h
  | cons e es ih =>
    intro l i h
    cases l with
    | nil => simp [imap] at h
    | cons p l =>
      obtain ⟨key, v⟩ := p
      simp only [List.map_cons, imap, List.cons.injEq, Prod.mk.injEq] at h
      obtain ⟨⟨h1, h2⟩, h3⟩ := h
      obtain ⟨⟨r, g1, g2⟩, g3⟩ := ih l (i + 1) h3
      simp only [Instr.findNow, h1, Instr.sameNow, if_true, mapGet]
      by_cases hak : a = key
      · subst hak
        simp [h2]
      · have : (a == key) = false := by simpa using hak
        simp only [this, if_neg hak]
        exact ⟨⟨r, g1, g2⟩, g3⟩

theorem run_checkKey_int' {kt : TypeId} {k : IntKind} (hk : P.underlying kt = some (.int k)) (e : Bool) (n : Nat) (v : Value) (w : World) : (Instr.checkKey e (n + 1) kt v).run P w = .ok () w := by
  unfold Instr.checkKey
  simp only [Sem.run_bind, run_underlying hk, Result.andThen]
  cases v <;> rfl

theorem run_checkKey_int {kt : TypeId} {k : IntKind} (hk : P.underlying kt = some (.int k)) (e : Bool) (v : Value) (w : World) : (Instr.checkKey e 10000 kt v).run P w = .ok () w :=
  run_checkKey_int' hk e 9999 v w

theorem vrun_lookup {tab : Nat → Option TD} (htab : TabOk Γ.P tab) {o : Oper} {T kt et : Nat} {m key : Operand} {ok : Bool} (ho : o.op = .lookup T m key ok) {d dk de : TD} (hd : tab T = some d) (hk : d.kind = .mapk kt et) (hdk : tab kt = some dk) {ik : IntKind} (hik : dk.kind = .int ik) (hde : tab et = some de)
    {es : List (Int × Value)} (hm : (s.ev m).asMap s.hp = some es) {a : Int} (hkey : s.ev key = .prim (.int .i64 a)) : VRun Γ o s (lookVal es de.zero a ok) := by
  refine vrun_pure fun act w η hr => ?_
  have hu : Γ.P.underlying T = some (.map kt et) := by
    obtain ⟨u, q2, q3⟩ := (htab T d hd).und
    rw [hk] at q3
    rw [q2]; exact congrArg some q3
  have huk : Γ.P.underlying kt = some (.int ik) := by
    obtain ⟨u, q2, q3⟩ := (htab kt dk hdk).und
    rw [hik] at q3
    rw [q2]; exact congrArg some q3
  have hkr := hr.ev key
  rw [hkey] at hkr
  have hkv := hkr.prim_inv
  have hmr := hr.ev m
  have hmap : ∃ b en c, act.eval m = .map (some b) ∧ w.heap[b]? = some (.map en c) ∧ mapPairs en = imap es := by
    generalize s.ev m = x at hm hmr
    cases x with
    | mapv l =>
      simp only [AV.asMap, Option.some.injEq] at hm
      subst hm
      generalize act.eval m = v at hmr
      cases hmr with
      | mapv b en c h1 h2 _ hl => exact ⟨b, en, c, rfl, h1, hl⟩
    | mp r =>
      simp only [AV.asMap] at hm
      split at hm
      · rename_i es' hes
        obtain rfl := Option.some.inj hm
        generalize act.eval m = v at hmr
        cases hmr with
        | mp _ b hη =>
          obtain ⟨b', en, c, e1, e2, e3⟩ := hr.heap.obj r _ _ hes hη
          simp only [Value.map.injEq, Option.some.injEq] at e1
          subst e1
          exact ⟨b, en, c, rfl, e2, e3⟩
      · cases hm
    | _ => simp [AV.asMap] at hm
  obtain ⟨b, en, c, hmv, hheap, hpairs⟩ := hmap
  obtain ⟨⟨r, g1, g2⟩, g3⟩ := findNow_imap (k := ik) (a := a) en.toList es 0 hpairs
  have hget : (getObj b).run Γ.P w = .ok (.map en c) w := by simp [getObj, Sem.run, hheap]
  have hfind : (Instr.findKey kt (.int .i64 a) en.toList).run Γ.P w = .ok r w := by
    simp only [Instr.findKey, Sem.run_bind, run_underlying huk, Result.andThen_ok, g1, Sem.run_pure]
  have hz := (htab et de hde).run_zero w
  cases r with
  | none =>
    have hg : mapGet es a = none := g2.symm
    cases ok with
    | true =>
      refine ⟨.tuple #[de.zero, .bool false], ?_, ?_⟩
      · simp only [execOp, ho, hmv, hkv, Instr.lookup, Sem.run_bind, run_underlying hu, Result.andThen_ok, hget, Sem.run_pure, run_checkKey_int huk, hfind, hz, if_true]
      · simp only [lookVal, hg, if_true, Option.getD_none, Option.isSome_none]
        exact .tup _ _ rfl fun j x v hx hv => by
          match j with
          | 0 => simp at hx hv; subst hx; subst hv; exact .prim _
          | 1 => simp at hx hv; subst hx; subst hv; exact .prim _
          | j + 2 => simp at hx
    | false =>
      refine ⟨de.zero, ?_, ?_⟩
      · simp only [execOp, ho, hmv, hkv, Instr.lookup, Sem.run_bind, run_underlying hu, Result.andThen_ok, hget, Sem.run_pure, run_checkKey_int huk, hfind, hz, Bool.false_eq_true, if_false]
      · simp only [lookVal, hg, Bool.false_eq_true, if_false, Option.getD_none]
        exact .prim _
  | some q =>
    obtain ⟨i, v⟩ := q
    have hg : mapGet es a = some v := g2.symm
    cases ok with
    | true =>
      refine ⟨.tuple #[v, .bool true], ?_, ?_⟩
      · simp only [execOp, ho, hmv, hkv, Instr.lookup, Sem.run_bind, run_underlying hu, Result.andThen_ok, hget, Sem.run_pure, run_checkKey_int huk, hfind, if_true]
      · simp only [lookVal, hg, if_true, Option.getD_some, Option.isSome_some]
        exact .tup _ _ rfl fun j x v hx hv => by
          match j with
          | 0 => simp at hx hv; subst hx; subst hv; exact .prim _
          | 1 => simp at hx hv; subst hx; subst hv; exact .prim _
          | j + 2 => simp at hx
    | false =>
      refine ⟨v, ?_, ?_⟩
      · simp only [execOp, ho, hmv, hkv, Instr.lookup, Sem.run_bind, run_underlying hu, Result.andThen_ok, hget, Sem.run_pure, run_checkKey_int huk, hfind, Bool.false_eq_true, if_false]
      · simp only [lookVal, hg, Bool.false_eq_true, if_false, Option.getD_some]
        exact .prim _

end Go.Proofs.Ytfbncddnakaaiaa
