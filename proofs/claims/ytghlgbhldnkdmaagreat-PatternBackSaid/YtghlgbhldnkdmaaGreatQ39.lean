/- Texts of ours laid together for a claim: VcQ. -/
import Derived.Test.YtghlgbhldnkdmaaGreatQ38
namespace Go.Proofs.YtghlgbhldnkdmaaGreat
open Go
set_option linter.unusedSimpArgs false
set_option linter.unusedVariables false
variable {P : Program} {w w' : World} {F : Nat → Nat → Prop} {η : List Value} {hp : List AObj}
theorem get_set_other {l : List AObj} {i j : Nat} {o : AObj} (h : i ≠ j) : (l.set i o)[j]? = l[j]? := by simp [List.getElem?_set, h]
theorem hpost_box {r0 : AV} {q : Nat} {cs cs' : List AV} {b : Nat} {vs' : Array Value} {T : TypeId} {v : Value} (hpre : HPre w F η hp) (hq : hp[q]? = some (.box cs)) (hb : η[q]? = some (.pointer (some ⟨b, 0, none⟩)))
  (hk : Keeps (fun k => k = b) w w') (hs : w'.heap.size = w.heap.size) (h2 : w'.heap[b]? = some (.cells vs' T (0, 0))) (hl : vs'.size = cs'.length)
  (hr : ∀ (j : Nat) (x : AV) (u : Value), cs'[j]? = some x → vs'[j]? = some u → Rep w F η hp x u ∧ u.oneCell' = true) (hrv : Rep w F η hp r0 v) :
  HPost w F η hp w' η (hp.set q (.box cs')) r0 v := by
 have hql : q < hp.length := (List.getElem?_eq_some_iff.1 hq).1
 have hself : (hp.set q (.box cs'))[q]? = some (.box cs') := by simp [List.getElem?_set, hql]
 have live2 : ∀ k, LiveBlk η (hp.set q (.box cs')) k ↔ LiveBlk η hp k := by
  intro k
  constructor
  ·intro ⟨r, o, u, e1, e2, e3, e4⟩
   by_cases hr : q = r
   ·subst hr; exact ⟨q, _, u, hq, True.intro, e3, e4⟩
   ·rw [get_set_other hr] at e1; exact ⟨r, o, u, e1, e2, e3, e4⟩
  ·intro ⟨r, o, u, e1, e2, e3, e4⟩
   by_cases hr : q = r
   ·subst hr; exact ⟨q, _, u, hself, True.intro, e3, e4⟩
   ·exact ⟨r, o, u, by rw [get_set_other hr]; exact e1, e2, e3, e4⟩
 have hbl : LiveBlk η hp b := ⟨q, _, _, hq, True.intro, hb, rfl⟩
 have noF : ∀ o, ¬ F b o := by
  intro o hf
  obtain ⟨p1, q1, q2⟩ := (objF_iff b o).1 (hpre.foot b o hf).2 q _ hb rfl
  rw [hq] at q1
  obtain rfl := Option.some.inj q1
  exact q2
 have objF2 : ∀ k o, ObjF η hp k o → ObjF η (hp.set q (.box cs')) k o := by
  intro k o hf
  refine (objF_iff k o).2 fun r u e1 e2 => ?_
  obtain ⟨p1, q1, q2⟩ := (objF_iff k o).1 hf r u e1 e2
  by_cases hr : q = r
  ·subst hr
   rw [hq] at q1
   obtain rfl := Option.some.inj q1
   exact q2.elim
  ·exact ⟨p1, by rw [get_set_other hr]; exact q1, q2⟩
 have hblk : ∀ k, k < w.heap.size → k ≠ b → w'.heap[k]? = w.heap[k]? := fun k h1 h2 => hk.block k h1 h2
 have foot : ∀ k o, F k o → OntoH F w η hp w' η (hp.set q (.box cs')) k o := fun k o hf => ⟨.inl hf, by rw [hs]; exact (hpre.foot k o hf).1, objF2 k o (hpre.foot k o hf).2⟩
 have hext : Ext w F η hp w' (OntoH F w η hp w' η (hp.set q (.box cs'))) η (hp.set q (.box cs')) := by
  refine ⟨fun k o u hf hc => ?_, fun k es c hf hc => ?_, foot, fun r a h => h, fun r a h => h, fun r n u h => ?_⟩
  ·have hne : k ≠ b := fun h => noF o (h ▸ hf)
   simp only [World.cell?] at hc ⊢
   rw [hblk k (hpre.foot k o hf).1 hne]; exact hc
  ·have hne : k ≠ b := fun h => noF 0 (h ▸ hf)
   rw [hblk k (hpre.foot k 0 hf).1 hne]; exact hc
  ·unfold OwnOk at h ⊢
   by_cases hr : q = r
   ·subst hr; rw [hq] at h; exact h.elim
   ·rw [get_set_other hr]; exact h
 refine ⟨⟨hk.os, hk.tape, hk.output, hk.size, fun k h1 h3 => hblk k h1 fun h => h3 (h ▸ hbl)⟩, hext, ⟨by rw [List.length_set]; exact hpre.heap.len, fun r o u e1 e2 => ?_, fun r r' o o' u u' k hne e1 e2 l1 l2 e3 e4 e5 => ?_⟩, fun k h => .inr ((live2 k).1 h), hrv.ext hext⟩
 ·by_cases hr' : q = r
  ·subst hr'
   rw [hself] at e1
   obtain rfl := Option.some.inj e1
   rw [hb] at e2
   obtain rfl := Option.some.inj e2
   exact ⟨b, vs', T, rfl, h2, hl, fun j x u hx hu => ⟨(hr j x u hx hu).1.ext hext, (hr j x u hx hu).2⟩⟩
  ·rw [get_set_other hr'] at e1
   by_cases hlv : o.live
   ·refine (hpre.heap.obj r o u e1 e2).ext hext hk.size fun k hk1 hk2 => hblk k hk2 fun h => ?_
    subst h
    exact hpre.heap.sep q r _ o _ u k hr' hq e1 True.intro hlv hb e2 rfl hk1
   ·cases o <;> first | exact True.intro | exact (hlv True.intro).elim
 ·have look : ∀ {r : Nat} {o : AObj}, (hp.set q (.box cs'))[r]? = some o → o.live → ∃ p, hp[r]? = some p ∧ p.live := by
   intro r o e l
   by_cases hr : q = r
   ·subst hr; exact ⟨_, hq, True.intro⟩
   ·rw [get_set_other hr] at e; exact ⟨o, e, l⟩
  obtain ⟨p, e1', l1'⟩ := look e1 l1
  obtain ⟨p', e2', l2'⟩ := look e2 l2
  exact hpre.heap.sep r r' p p' u u' k hne e1' e2' l1' l2' e3 e4 e5
theorem hpost_new {cs : List AV} {vs : Array Value} {T : TypeId} (hpre : HPre w F η hp) (hk : Keeps (fun _ => False) w w') (hs : w.heap.size < w'.heap.size)
  (h2 : w'.heap[w.heap.size]? = some (.cells vs T (0, 0))) (hl : vs.size = cs.length)
  (hr : ∀ (j : Nat) (x : AV) (u : Value), cs[j]? = some x → vs[j]? = some u → Rep w F η hp x u ∧ u.oneCell' = true) :
  HPost w F η hp w' (η ++ [.pointer (some ⟨w.heap.size, 0, none⟩)]) (hp ++ [.box cs]) (.ptr hp.length 0) (.pointer (some ⟨w.heap.size, 0, none⟩)) := by
 have hlen : η.length = hp.length := hpre.heap.len
 have oldO : ∀ {r : Nat}, r < hp.length → (hp ++ [AObj.box cs])[r]? = hp[r]? := fun h => List.getElem?_append_left h
 have oldV : ∀ {r : Nat}, r < hp.length → (η ++ [Value.pointer (some ⟨w.heap.size, 0, none⟩)])[r]? = η[r]? := fun h => List.getElem?_append_left (by omega)
 have newO : (hp ++ [AObj.box cs])[hp.length]? = some (.box cs) := by simp
 have newV : (η ++ [Value.pointer (some ⟨w.heap.size, 0, none⟩)])[hp.length]? = some (.pointer (some ⟨w.heap.size, 0, none⟩)) := by rw [← hlen]; simp
 have split : ∀ {r : Nat} {o : AObj}, (hp ++ [AObj.box cs])[r]? = some o → r < hp.length ∨ (r = hp.length ∧ o = .box cs) := by
  intro r o e
  have hb : r < hp.length + 1 := by have := (List.getElem?_eq_some_iff.1 e).1; simpa using this
  by_cases h : r < hp.length
  ·exact .inl h
  ·have : r = hp.length := by omega
   subst this
   rw [newO] at e
   exact .inr ⟨rfl, (Option.some.inj e).symm⟩
 have objF2 : ∀ k o, k < w.heap.size → ObjF η hp k o → ObjF (η ++ [.pointer (some ⟨w.heap.size, 0, none⟩)]) (hp ++ [.box cs]) k o := by
  intro k o hk1 hf
  refine (objF_iff k o).2 fun r u e1 e2 => ?_
  have hb : r < hp.length + 1 := by have := (List.getElem?_eq_some_iff.1 e1).1; simp at this; omega
  by_cases h : r < hp.length
  ·rw [oldV h] at e1
   rw [oldO h]
   exact (objF_iff k o).1 hf r u e1 e2
  ·have : r = hp.length := by omega
   subst this
   rw [newV] at e1
   obtain rfl := Option.some.inj e1
   cases e2
   exact absurd hk1 (Nat.lt_irrefl _)
 have hblk : ∀ k, k < w.heap.size → w'.heap[k]? = w.heap[k]? := fun k h1 => hk.block k h1 (fun h => h)
 have hext : Ext w F η hp w' (OntoH F w η hp w' (η ++ [.pointer (some ⟨w.heap.size, 0, none⟩)]) (hp ++ [.box cs])) (η ++ [.pointer (some ⟨w.heap.size, 0, none⟩)]) (hp ++ [.box cs]) := by
  refine ⟨fun k o u hf hc => ?_, fun k es c hf hc => ?_, fun k o hf => ?_, fun r a h => ?_, fun r a h => ?_, fun r n u h => ?_⟩
  ·simp only [World.cell?] at hc ⊢
   rw [hblk k (hpre.foot k o hf).1]; exact hc
  ·rw [hblk k (hpre.foot k 0 hf).1]; exact hc
  ·have := (hpre.foot k o hf).1
   exact ⟨.inl hf, by omega, objF2 k o this (hpre.foot k o hf).2⟩
  ·rw [oldV (by rw [← hlen]; exact (List.getElem?_eq_some_iff.1 h).1)]; exact h
  ·rw [oldV (by rw [← hlen]; exact (List.getElem?_eq_some_iff.1 h).1)]; exact h
  ·have hr1 : r < hp.length := by
    unfold OwnOk at h
    refine Nat.lt_of_not_le fun hge => ?_
    rw [List.getElem?_eq_none hge] at h
    exact h
   unfold OwnOk at h ⊢
   rw [oldO hr1, oldV hr1]; exact h
 refine ⟨⟨hk.os, hk.tape, hk.output, hk.size, fun k h1 _ => hblk k h1⟩, hext, ⟨by simp [hlen], fun r o u e1 e2 => ?_, fun r r' o o' u u' k hne e1 e2 l1 l2 e3 e4 e5 e6 => ?_⟩, fun k ⟨r, o, u, e1, l, e3, e4⟩ => ?_, .ptr _ 0 _ newV⟩
 ·rcases split e1 with h | ⟨rfl, rfl⟩
  ·rw [oldO h] at e1
   rw [oldV h] at e2
   exact (hpre.heap.obj r o u e1 e2).ext hext hk.size fun k _ hk2 => hblk k hk2
  ·rw [newV] at e2
   obtain rfl := Option.some.inj e2
   exact ⟨_, vs, T, rfl, h2, hl, fun j x u hx hu => ⟨(hr j x u hx hu).1.ext hext, (hr j x u hx hu).2⟩⟩
 ·rcases split e1 with h | ⟨rfl, rfl⟩
  ·rw [oldO h] at e1
   rw [oldV h] at e3
   rcases split e2 with h' | ⟨rfl, rfl⟩
   ·rw [oldO h'] at e2
    rw [oldV h'] at e4
    exact hpre.heap.sep r r' o o' u u' k hne e1 e2 l1 l2 e3 e4 e5 e6
   ·rw [newV] at e4
    obtain rfl := Option.some.inj e4
    cases e6
    exact Nat.lt_irrefl _ (hpre.live _ ⟨r, o, u, e1, l1, e3, e5⟩)
  ·rw [newV] at e3
   obtain rfl := Option.some.inj e3
   cases e5
   rcases split e2 with h' | ⟨rfl, rfl⟩
   ·rw [oldO h'] at e2
    rw [oldV h'] at e4
    exact Nat.lt_irrefl _ (hpre.live _ ⟨r', o', u', e2, l2, e4, e6⟩)
   ·exact hne rfl
 ·rcases split e1 with h | ⟨rfl, rfl⟩
  ·rw [oldO h] at e1
   rw [oldV h] at e3
   exact .inr ⟨r, o, u, e1, l, e3, e4⟩
  ·rw [newV] at e3
   obtain rfl := Option.some.inj e3
   cases e4
   exact .inl (Nat.le_refl _)
end Go.Proofs.YtghlgbhldnkdmaaGreat
