/- Texts of ours laid together for a claim: VcN. -/
import Derived.Test.YtghlgbhldnkdmaaGreatQ18
namespace Go.Proofs.YtghlgbhldnkdmaaGreat
open Go
set_option linter.unusedSimpArgs false
set_option linter.unusedVariables false
def OntoM (F : Nat → Nat → Prop) (w w' : World) (v : Value) (b o : Nat) : Prop := F b o ∨ (w.heap.size ≤ b ∧ b < w'.heap.size ∧ blk v ≠ some b)
def MPost (w : World) (F : Nat → Nat → Prop) (w' : World) (e size : Nat) (els : List AV) (v : Value) : Prop :=
 Same w w' ∧ v.oneCell' = true ∧ (∀ b, blk v = some b → w.heap.size ≤ b) ∧ 0 < size ∧ ∃ xs : List Value, RowOk w' e size v els.length xs ∧
  ∀ (i : Nat) (el : AV), els[i]? = some el → el.cells.length = size ∧
   ∀ (j : Nat) (x : AV), el.cells[j]? = some x → ∃ u, xs[i * size + j]? = some u ∧ Rep w' (OntoM F w w' v) [] [] x u ∧ u.oneCell' = true
def MFn (P : Program) (f : FuncId) (args : List AV) (e size : Nat) (els : List AV) : Prop :=
 Callable P f ∧ ∀ (w : World) (F : Nat → Nat → Prop) (vals : List Value), (∀ b o, F b o → b < w.heap.size) → RepL w F [] [] args vals →
  CallsIn Fence.wide 0 P f vals.toArray w (fun en w' => ∃ v, en = .returned v ∧ MPost w F w' e size els v)
variable {G : Type} {Γ : Env G} {s s' : AS G} {a : Act} {w w' : World} {η : List Value} {hp : List AObj} {P : Program}
theorem ontoM_fok (hok : Γ.Ok) (h : Rel Γ s a w η) (hs : Same w w') {v : Value} (hv : ∀ b, blk v = some b → w.heap.size ≤ b) {o : AObj} {b k : Nat} (hb : OntoM (Fok Γ w η s.hp) w w' v b k) : Fok Γ w' (η ++ [v]) (s.hp ++ [o]) b k := by
 rcases hb with h1 | ⟨h1, h2, h3⟩
 ·exact (ext_new (Γ := Γ) (o := o) h.heap.len hs hv).foot b k h1
 ·refine ⟨.inr (.inl (Nat.le_trans h.keeps.size h1)), h2, fun hx => by have := hok.no hx; have := h.keeps.size; omega, (objF_iff b k).2 fun r u hu hbu => ?_⟩
  rcases getElem?_snoc hu with g1 | ⟨g1, g2⟩
  ·have hr' : r < s.hp.length := by rw [← h.heap.len]; exact (List.getElem?_eq_some_iff.1 g1).1
   have ho : s.hp[r]? = some s.hp[r] := by simp [hr']
   refine ⟨s.hp[r], getElem?_snoc_lt ho, ?_⟩
   cases hk : s.hp[r] with
   | dead => exact True.intro
   | _ =>
    rw [hk] at ho
    have := h.heap.block ho True.intro g1 hbu
    omega
  ·subst g2; exact (h3 hbu).elim
theorem ACall.fresh (hok : Γ.Ok) {o : Oper} {c : Call} {x : Operand} (ho : o.op = .call c) (hc : c.callee = .value x) {f : FuncId} {caps : List AV} (hx : s.ev x = .clo f caps) {e size : Nat} {els : List AV}
  (hP : MFn Γ.P f ((c.args.toList.map s.ev ++ caps).map (AV.toData s.hp)) e size els) (hd : dstOk Γ.nt o.dst) {K : AS G → Prop} (hK : K (AS.put { s with hp := s.hp ++ [.mrow e size els] } o.dst (.own s.hp.length els.length))) : ACall Γ o s K := by
 intro a w η Kc Qc hk hr
 have hxr := hr.ev x
 rw [hx] at hxr
 generalize hv : a.eval x = v at hxr
 cases hxr with
 | clo _ _ vs hl hrep =>
  refine ⟨fun _ _ => trivial, ?_⟩
  have hne : ∀ c', o.op ≠ .defer c' := by intro c' h; rw [ho] at h; cases h
  rw [Oper.semAt_eq _ _ _ hne, run_call_clo ho hc hP.1 hv]
  have hargs : (c.args.map a.eval ++ vs) = (c.args.toList.map a.eval ++ vs.toList).toArray := by apply Array.ext'; simp
  have hcl : RepL w (Fok Γ w η s.hp) η s.hp caps vs.toList := repL_of_get (by simpa using hl) fun j y u hy hu => hrep j y u hy (by simpa using hu)
  have hreps := repL_toData hr _ _ (repL_append _ _ (repArgs hr c.args.toList) hcl)
  refine ⟨fun h => (by cases h), ?_⟩
  rw [hargs]
  have hcall := hP.2 w (Fok Γ w η s.hp) _ (fun _ _ => fok_lt) hreps
  refine CallsIn.mono (F := Γ.fence) ?_ (R := fun en w' => ∃ v, en = .returned v ∧ MPost w (Fok Γ w η s.hp) w' e size els v) fun en w' ⟨u, he, hs, h1, hnew, hz, xs, hrow, hels⟩ => ?_
  ·exact hcall
  ·subst he
   have hr1 : Rel Γ (s.add (.mrow e size els)) a w' (η ++ [u]) := hr.add hok (o := .mrow e size els) (v := u) hs hnew
    ⟨hz, xs, hrow, fun i el hi => ⟨(hels i el hi).1, fun j y hj => let ⟨v1, q1, q2, q3⟩ := (hels i el hi).2 j y hj; ⟨v1, q1, q2.foot fun b k h => ontoM_fok hok hr hs hnew h, q3⟩⟩⟩
   refine hk _ _ _ _ hK (Rel.put (s := { s with hp := s.hp ++ [.mrow e size els] }) hr1 (dstOk_spec hd) (.own _ _ _ h1 ?_))
   unfold OwnOk
   have : (s.hp ++ [AObj.mrow e size els])[s.hp.length]? = some (.mrow e size els) := by simp
   rw [this]
   exact ⟨rfl, by rw [← hr.heap.len]; simp⟩
def retM (tab : Nat → Option TD) (rs : List ResultVar) (e size : Nat) (els : List AV) : Exit → AS Unit → Prop
 | .normal, s | .ret, s => (match resAll tab s rs with
  | some [.own r n] => (match s.hp[r]? with
   | some (.mrow e' z els') => e' = e ∧ z = size ∧ els' = els ∧ n = els.length
   | _ => False)
  | some [.prim (.slice none 0 0)] => els = [] ∧ 0 < size
  | _ => False)
 | _, _ => False
theorem mfn_of_body {tab : Nat → Option TD} (htab : TabOk P tab) {f : FuncId} {fn : Func} {c : Code} {args : List AV} {e size : Nat} {els : List AV} (hf : P.funcs[f]? = some fn) (hb : fn.body = some c) (hname : (fn.name == "runtime.NumGoroutine") = false) (hn : args.length ≤ fn.ntmps)
  (h : ∀ Γ : Env Unit, Γ.Ok → Γ.P = P → fn.ntmps = Γ.nt → Γ.hp0.length = 0 → Γ.Free → AWp Γ c (retM tab fn.results.toList e size els) ⟨startT 0 args, [], ()⟩) : MFn P f args e size els := by
 refine ⟨⟨fn, hf, hname, by rw [hb]; rfl⟩, fun w F vals hF hv => ?_⟩
 let Γ : Env Unit := { P := P, w0 := w, F0 := F, X := fun _ => False, Y := fun _ => False, Inv := fun _ _ => True, nt := fn.ntmps, rnd := none, m0 := fun r => w.heap.size ≤ r, Z := fun _ _ => False, η0 := [], hp0 := [] }
 have hok : Γ.Ok := ⟨rfl, fun _ h => h.elim, fun _ h => h.elim, fun _ _ _ _ _ h => h, fun _ _ h => h.elim⟩
 have hvl := hv.length
 have hfoot : ∀ b o, F b o → Fok Γ w [] [] b o := fun b o hb => ⟨.inl hb, hF b o hb, fun h => h.elim (fun h => h) fun h => h, fun r v hr => by simp at hr⟩
 have hst : ∀ (l : List AV) (us : List Value) (k : Nat), RepL w F [] [] l us → ∀ t, Rep w (Fok Γ w [] []) [] [] (startT k l t) (if t < k then undef else (us[t - k]?).getD undef) ∨ t < k := by
  intro l
  induction l with
  | nil => intro us k _ t; exact .inl (.top _)
  | cons x l ih =>
   intro us k hl t
   cases us with
   | nil => exact hl.elim
   | cons u us =>
    by_cases htk : t < k
    ·exact .inr htk
    ·refine .inl ?_
     rw [if_neg htk]
     simp only [startT, upd_eq]
     by_cases hte : t = k
     ·subst hte
      rw [if_pos rfl, Nat.sub_self]
      exact hl.1.foot hfoot
     ·rw [if_neg hte]
      rcases ih us (k + 1) hl.2 t with h1 | h1
      ·rw [if_neg (by omega)] at h1
       have : t - k = (t - (k + 1)) + 1 := by omega
       rw [this, List.getElem?_cons_succ]
       exact h1
      ·omega
 have hrel : Rel Γ ⟨startT 0 args, [], ()⟩ ⟨vals.toArray ++ Array.replicate (fn.ntmps - vals.toArray.size) undef, []⟩ w [] := by
  refine ⟨by simp [Γ]; omega, fun t => ?_, ⟨rfl, fun r o v h => by simp at h, fun r r' o o' v v' b _ h => by simp at h⟩, fun r o v b h => by simp at h, Keeps.refl _ w, True.intro, ⟨fun d hd => (by cases hd), List.Pairwise.nil⟩, ⟨fun _ _ _ _ h => h, fun _ _ _ _ h => h, hfoot, fun _ _ h => h, fun _ _ h => h, fun _ _ _ h => h⟩⟩
  have := hst args vals 0 hv t
  simp only [Nat.not_lt_zero, if_false, or_false, Nat.sub_zero] at this
  have e : (vals.toArray ++ Array.replicate (fn.ntmps - vals.toArray.size) undef).getD t undef = (vals[t]?).getD undef := by
   rw [Array.getD_eq_getD_getElem?]
   by_cases ht : t < vals.length
   ·rw [Array.getElem?_append_left (by simpa using ht)]; simp
   ·rw [Array.getElem?_append_right (by simpa using ht), List.getElem?_eq_none (by omega)]
    rw [Array.getElem?_replicate]
    split <;> rfl
  show Rep w _ _ _ _ ((vals.toArray ++ Array.replicate (fn.ntmps - vals.toArray.size) undef).getD t undef)
  rw [e]; exact this
 have hbody := h Γ hok rfl rfl rfl ⟨rfl, fun _ h => h⟩ _ _ _ hrel
 refine callsIn_of_wp_marks (F := Fence.wide) hf hb trivial (wpIn_mono (F := Fence.wide) hbody fun ex a' w' ⟨s', η', hq, hr'⟩ => ?_)
 have fin : retM tab fn.results.toList e size els .ret s' → LeavesInM Fence.wide 0 P fn a'.tmps (fun en w' => ∃ v, en = .returned v ∧ MPost w F w' e size els v) a'.defers .returning w' := by
  intro hq
  simp only [retM] at hq
  have go : ∀ l, resAll tab s' fn.results.toList = some l → (∀ w2 v, Rel Γ s' ⟨a'.tmps, []⟩ w2 η' → Rep w2 (Fok Γ w2 η' s'.hp) η' s'.hp (resTup l) v → MPost w F w2 e size els v) → LeavesInM Fence.wide 0 P fn a'.tmps (fun en w' => ∃ v, en = .returned v ∧ MPost w F w' e size els v) a'.defers .returning w' := by
   intro l hl hall
   exact leavesM (Γ := Γ) (s := s') (η := η') (fn := fn) (ts := a'.tmps) (R := fun en w' => ∃ v, en = .returned v ∧ MPost w F w' e size els v) hok (fun _ h => h) (fun w2 hr2 => by
    obtain ⟨v, h1, h2⟩ := run_results htab hr2 hl
    exact ⟨v, h1, v, rfl, hall w2 v hr2 h2⟩) a'.defers w' hr'
  split at hq
  ·rename_i r n hl
   split at hq
   ·rename_i e' z els' ho
    obtain ⟨rfl, rfl, rfl, rfl⟩ := hq
    refine go _ hl fun w2 v hr2 h2 => ?_
    cases h2 with
    | own _ _ _ h1 how =>
     unfold OwnOk at how
     rw [ho] at how
     obtain ⟨hz, xs, hrow, hels⟩ := hr2.heap.obj r _ _ ho how.2
     refine ⟨hr2.keeps.same fun b _ hx => by rcases hx with h | h <;> exact h, h1, fun b hb => ((hr2.mine r _ v b ho True.intro how.2 hb).1).elim id fun h => h.elim, hz, xs, hrow, fun i el hi => ⟨(hels i el hi).1, fun j x hj => ?_⟩⟩
     obtain ⟨u, q1, q2, q3⟩ := (hels i el hi).2 j x hj
     refine ⟨u, q1, q2.foot fun b k hf => ?_, q3⟩
     rcases hf.1 with h3 | h3 | h3
     ·exact .inl h3
     ·refine .inr ⟨h3, hf.2.1, fun hb => ?_⟩
      obtain ⟨o1, g1, g2⟩ := (objF_iff b k).1 hf.2.2.2 r v how.2 hb
      rw [ho] at g1
      obtain rfl := Option.some.inj g1
      exact g2
     ·exact h3.elim
   ·exact hq.elim
  ·rename_i hl
   obtain ⟨rfl, hz⟩ := hq
   refine go _ hl fun w2 v hr2 h2 => ?_
   have := Rep.prim_inv h2
   subst this
   exact ⟨hr2.keeps.same fun b _ hx => by rcases hx with h | h <;> exact h, rfl, fun b hb => by simp [blk] at hb, hz, [], ⟨by simp, .inl ⟨rfl, .inl rfl⟩⟩, fun i el hi => by simp at hi⟩
  ·exact hq.elim
 cases ex with
 | normal => exact fin hq
 | ret => exact fin hq
 | _ => exact hq.elim
end Go.Proofs.YtghlgbhldnkdmaaGreat
