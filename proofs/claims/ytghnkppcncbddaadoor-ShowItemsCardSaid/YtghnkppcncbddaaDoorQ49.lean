/- Texts of ours laid together for a claim: P83 P84 P80 P85 P86 P87. -/
import Derived.Shelf.Strings.OnBuilder
import Derived.Lib.ItoaMem
import Derived.Test.YtghnkppcncbddaaDoorQ48
namespace Go.Proofs.YtghnkppcncbddaaDoor
open Go
set_option linter.unusedSimpArgs false
set_option linter.unusedVariables false
def tailF (f : Fm) (w n : Nat) (num : Int) : Bool :=
 !(decide ((w : Int) < f.least)) && (!(decide ((w : Int) > f.most)) && (!((n : Int) != f.trees) && cntB f.count num))
def tailB (k : Int) (w n : Nat) (num : Int) : Bool := match formI k with | some f => tailF f w n num | none => false
def typesB (k : Int) : Bool := (k == 2) || (k == 3)
theorem formI_cases (k : Int) : k = 1 ∨ k = 2 ∨ k = 3 ∨ k = 4 ∨ k = 5 ∨ k = 6 ∨ k = 7 ∨ k = 8 ∨ k = 9 ∨ k = 10 ∨ k = 11 ∨ k = 12 ∨ (formI k = none ∧ k ≠ 1 ∧ k ≠ 2 ∧ k ≠ 3 ∧ k ≠ 4 ∧ k ≠ 5 ∧ k ≠ 6 ∧ k ≠ 7 ∧ k ≠ 8 ∧ k ≠ 9 ∧ k ≠ 10 ∧ k ≠ 11 ∧ k ≠ 12) := by
 by_cases h : 1 ≤ k ∧ k ≤ 12
 ·omega
 ·have hk : k ≠ 1 ∧ k ≠ 2 ∧ k ≠ 3 ∧ k ≠ 4 ∧ k ≠ 5 ∧ k ≠ 6 ∧ k ≠ 7 ∧ k ≠ 8 ∧ k ≠ 9 ∧ k ≠ 10 ∧ k ≠ 11 ∧ k ≠ 12 := by omega
  obtain ⟨h1, h2, h3, h4, h5, h6, h7, h8, h9, h10, h11, h12⟩ := hk
  have : formI k = none := by unfold formI; simp only [if_neg h1, if_neg h2, if_neg h3, if_neg h4, if_neg h5, if_neg h6, if_neg h7, if_neg h8, if_neg h9, if_neg h10, if_neg h11, if_neg h12]
  simp [this, h1, h2, h3, h4, h5, h6, h7, h8, h9, h10, h11, h12]
theorem formI_types {k : Int} {f : Fm} (h : formI k = some f) : f.types = typesB k := by
 rcases formI_cases k with rfl | rfl | rfl | rfl | rfl | rfl | rfl | rfl | rfl | rfl | rfl | rfl | ⟨h0, _⟩
 iterate 12 (first | (cases h; rfl) | skip)
 all_goals first | (cases h; rfl) | (rw [h0] at h; cases h)
def nodesB (x : It) : Bool := x.nodes.any fun t => !(if typesB x.kind = true then rightT t else rightM t)
theorem rightI_eq (x : It) : rightI x = (!(x.words.any fun w => !(isWord w)) && (!(nodesB x) && tailB x.kind x.words.length x.nodes.length x.num)) := by
 unfold rightI tailB
 cases h : formI x.kind with
 | none => simp
 | some f =>
  have ht := formI_types h
  show rightF f x = _
  have hn : nodesB x = nodB f.types x.nodes := by
   unfold nodesB
   rw [← ht]
   cases f.types <;> rfl
  rw [hn]
  show _ = (!(x.words.any fun w => !(isWord w)) && (!(nodB f.types x.nodes) && tailF f x.words.length x.nodes.length x.num))
  unfold rightF tailF
  generalize decide (((x.words.length : Nat) : Int) < f.least) = a
  generalize decide (((x.words.length : Nat) : Int) > f.most) = b
  generalize (((x.nodes.length : Nat) : Int) != f.trees) = c
  generalize (x.words.any fun w => !(isWord w)) = d
  generalize cntB f.count x.num = e
  generalize nodB f.types x.nodes = g
  revert a b c d e g
  decide
theorem refRightI_calls {x : It} (hw : x.words.length ≤ 1000000000) (hn : x.nodes.length ≤ 1000000000) : PureIs Tryd.prog 19 [itAV x] (nB (rightI x)) := by
 refine vc19_ok ?_
 unfold vc19
 rw [rightI_eq]
 refine LoopP.intro (fun i : Nat => (((), (i : Int), ()), ((x.kind, x.words.map nS, x.nodes.map Nd.enc, x.num, x.at_, ()), ()))) (fun i => i ≤ x.words.length ∧ (x.words.any fun w => !(isWord w)) = ((x.words.drop i).any fun w => !(isWord w))) (fun i => x.words.length - i) 0 rfl ⟨Nat.zero_le _, by rw [List.drop_zero]⟩ ?_
 intro i ⟨hi, hd⟩ again hag
 dsimp only
 rw [List.length_map]
 refine ITE.intro (fun h => ?_) fun h => ?_
 ·have hlt : i < x.words.length := by simpa using h
  refine ⟨by omega, by omega, _, getD_map hlt, _, refword_calls, ITE.intro (fun h1 => ?_) fun h1 => ?_⟩
  ·rw [hd, List.drop_eq_getElem_cons hlt, List.any_cons, h1]; rfl
  ·rw [wrap_n (by omega)]
   exact hag (i + 1) ⟨by omega, by rw [hd, List.drop_eq_getElem_cons hlt, List.any_cons, h1]; rfl⟩ (by omega)
 have hge : x.words.length ≤ i := by simpa using h
 rw [hd, List.drop_eq_nil_of_le hge]
 show vc19_L7 _ (fun r => r = nB (!(nodesB x) && tailB x.kind x.words.length x.nodes.length x.num))
 refine LoopP.intro (fun i : Nat => (((), (i : Int), ()), ((x.kind, x.words.map nS, x.nodes.map Nd.enc, x.num, x.at_, ()), ()))) (fun i => i ≤ x.nodes.length ∧ nodesB x = ((x.nodes.drop i).any fun t => !(if typesB x.kind = true then rightT t else rightM t))) (fun i => x.nodes.length - i) 0 rfl ⟨Nat.zero_le _, by rw [List.drop_zero]; rfl⟩ ?_
 intro i ⟨hi, hd⟩ again hag
 dsimp only
 rw [List.length_map, List.length_map]
 refine ITE.intro (fun h => ?_) fun h => ?_
 ·have hlt : i < x.nodes.length := by simpa using h
  have rT := refRightT_calls _ x.nodes[i] (Nat.le_refl _)
  have rM := refRightM_calls _ x.nodes[i] (Nat.le_refl _)
  rw [Nd.enc_eq] at rT rM
  have hs : nodesB x = (!(if typesB x.kind = true then rightT x.nodes[i] else rightM x.nodes[i]) || ((x.nodes.drop (i + 1)).any fun t => !(if typesB x.kind = true then rightT t else rightM t))) := by rw [hd, List.drop_eq_getElem_cons hlt, List.any_cons]
  have stepT : typesB x.kind = true → ITE (!(rightT x.nodes[i])) (nB false = nB (!(nodesB x) && tailB x.kind x.words.length x.nodes.length x.num)) (again (((), IntKind.wrap .i64 ((i : Int) + 1), ()), ((x.kind, x.words.map nS, x.nodes.map Nd.enc, x.num, x.at_, ()), ()))) := fun ht => by
   rw [if_pos ht] at hs
   refine ITE.intro (fun h1 => ?_) fun h1 => ?_
   ·rw [hs, h1]; rfl
   ·rw [wrap_n (by omega)]
    exact hag (i + 1) ⟨by omega, by rw [hs, h1]; rfl⟩ (by omega)
  have stepM : typesB x.kind = false → ITE (!(rightM x.nodes[i])) (nB false = nB (!(nodesB x) && tailB x.kind x.words.length x.nodes.length x.num)) (again (((), IntKind.wrap .i64 ((i : Int) + 1), ()), ((x.kind, x.words.map nS, x.nodes.map Nd.enc, x.num, x.at_, ()), ()))) := fun ht => by
   rw [if_neg (by rw [ht]; decide)] at hs
   refine ITE.intro (fun h1 => ?_) fun h1 => ?_
   ·rw [hs, h1]; rfl
   ·rw [wrap_n (by omega)]
    exact hag (i + 1) ⟨by omega, by rw [hs, h1]; rfl⟩ (by omega)
  refine ITE.intro (fun h2 => ?_) fun h2 => ITE.intro (fun h3 => ?_) fun h3 => ?_
  ·exact ⟨by omega, by omega, _, _, _, _, Nd.enc_getD hlt, _, rT, stepT (by unfold typesB; rw [h2]; rfl)⟩
  ·exact ⟨by omega, by omega, _, _, _, _, Nd.enc_getD hlt, _, rT, stepT (by unfold typesB; rw [h3, Bool.or_true])⟩
  ·exact ⟨by omega, by omega, _, _, _, _, Nd.enc_getD hlt, _, rM, stepM (by unfold typesB; rw [h2, h3]; rfl)⟩
 have hge2 : x.nodes.length ≤ i := by simpa using h
 have hnf : nodesB x = false := by rw [hd, List.drop_eq_nil_of_le hge2]; rfl
 rw [hnf]
 generalize x.words.length = w at hw ⊢
 generalize x.nodes.length = n
 generalize x.num = num
 generalize x.kind = k
 have key : ∀ {b : Bool}, b = tailB k w n num → nB b = nB (!false && tailB k w n num) := fun h => by rw [h]; rfl
 rename_i i1 hi1 hd1 ag1 hag1 hh1
 clear hnf hge2 h hag hd hi hge hh1 hag1 hd1 hi1 hn
 rcases formI_cases k with rfl | rfl | rfl | rfl | rfl | rfl | rfl | rfl | rfl | rfl | rfl | rfl | ⟨h0, g1, g2, g3, g4, g5, g6, g7, g8, g9, g10, g11, g12⟩
 case inr.inr.inr.inr.inr.inr.inr.inr.inr.inr.inr.inr =>
  have e : tailB k w n num = false := by unfold tailB; rw [h0]
  refine ITE.intro (fun _ => ?_) fun _ => ?_ <;> repeat' (first | refine ITE.neg (beq_eq_false_iff_ne.2 g1) ?_ | refine ITE.neg (beq_eq_false_iff_ne.2 g2) ?_ | refine ITE.neg (beq_eq_false_iff_ne.2 g3) ?_ | refine ITE.neg (beq_eq_false_iff_ne.2 g4) ?_ | refine ITE.neg (beq_eq_false_iff_ne.2 g5) ?_ | refine ITE.neg (beq_eq_false_iff_ne.2 g6) ?_ | refine ITE.neg (beq_eq_false_iff_ne.2 g7) ?_ | refine ITE.neg (beq_eq_false_iff_ne.2 g8) ?_ | refine ITE.neg (beq_eq_false_iff_ne.2 g9) ?_ | refine ITE.neg (beq_eq_false_iff_ne.2 g10) ?_ | refine ITE.neg (beq_eq_false_iff_ne.2 g11) ?_ | refine ITE.neg (beq_eq_false_iff_ne.2 g12) ?_)
  all_goals exact key e.symm
 all_goals
  refine ITE.intro (fun e0 => ?_) fun e0 => ?_
  all_goals repeat' (first | refine ITE.pos rfl ?_ | refine ITE.neg rfl ?_ | refine ITE.intro (fun _ => ?_) (fun _ => ?_))
  all_goals
   refine key ?_
   clear key
   rw [Bool.eq_iff_iff]
   simp_all [tailB, formI, tailF, cntB]
   try (intros; omega)
end Go.Proofs.YtghnkppcncbddaaDoor

namespace Go.Proofs.YtghnkppcncbddaaDoor
open Go Go.Shelf
set_option linter.unusedSimpArgs false
set_option linter.unusedVariables false
mutual
def Nd.short : Nd → Bool
 | .mk _ w _ l => !(decide (((w.size : Nat) : Int) > 40)) && Nd.shorts l
def Nd.shorts : List Nd → Bool
 | [] => true
 | t :: l => t.short && Nd.shorts l
end
theorem Nd.short_eq (t : Nd) : t.short = (!(decide (((t.word.size : Nat) : Int) > 40)) && Nd.shorts t.kids) := by cases t; rw [Nd.short]; rfl
theorem Nd.shorts_drop {l : List Nd} {k : Nat} (h : k < l.length) : Nd.shorts (l.drop k) = (l[k].short && Nd.shorts (l.drop (k + 1))) := by rw [List.drop_eq_getElem_cons h, Nd.shorts]
theorem short_calls : ∀ (n : Nat) (t : Nd), t.size ≤ n → n ≤ 1000000000 → PureIs Tryd.prog 34 [ndAV t] (nB t.short) := by
 intro n
 induction n with
 | zero => intro t h; have := t.size_pos; omega
 | succ n ih =>
  intro t h hn
  have hq := Nd.sizes_len t.kids
  have hts := t.size_eq
  refine vc34_ok (ITE.intro (fun h1 => ?_) fun h1 => ?_)
  ·rw [Nd.short_eq, h1]; rfl
  ·rw [Nd.short_eq, h1]
   show vc34_L4 _ (fun r => r = nB (Nd.shorts t.kids))
   refine LoopP.intro (fun k : Nat => (((), (k : Int), ()), ((t.kind, t.word, t.at_, t.kids.map Nd.enc, ()), ()))) (fun k => k ≤ t.kids.length ∧ Nd.shorts t.kids = Nd.shorts (t.kids.drop k)) (fun k => t.kids.length - k) 0 rfl ⟨Nat.zero_le _, by rw [List.drop_zero]⟩ ?_
   intro k ⟨hk, hd⟩ again hag
   dsimp only
   rw [List.length_map]
   refine ITE.intro (fun h => ?_) fun h => ?_
   ·have hlt : k < t.kids.length := by simpa using h
    refine ⟨by omega, by omega, _, _, _, _, Nd.enc_getD hlt, _, ih t.kids[k] (by have := Nd.kid_size hlt; omega) (by omega), ITE.intro (fun h2 => ?_) fun h2 => ?_⟩
    ·have : t.kids[k].short = false := by simpa using h2
     rw [hd, Nd.shorts_drop hlt, this]; rfl
    ·have : t.kids[k].short = true := by simpa using h2
     rw [wrap_n (by omega)]
     exact hag (k + 1) ⟨by omega, by rw [hd, Nd.shorts_drop hlt, this]; rfl⟩ (by omega)
   ·have : t.kids.length ≤ k := by simpa using h
    rw [hd, List.drop_eq_nil_of_le this]; rfl
def smallN (most : Nat) (t : Nd) : Bool := Nd.fewB most 70 t && t.short
def smallI (most : Nat) (x : It) : Bool := !(decide (((x.words.length : Nat) : Int) > 10)) && (!(decide (((x.nodes.length : Nat) : Int) > 3)) && ((x.words.all fun w => !(decide (((w.size : Nat) : Int) > 40))) && x.nodes.all (smallN most)))
theorem small15_calls {most : Nat} {x : It} (hm : most ≤ 60) : PureIs Tryd.prog 16 [itAV x, nI most] (nB (smallI most x)) := by
 refine vc16_ok ?_
 unfold vc16 smallI
 rw [List.length_map, List.length_map]
 refine ITE.intro (fun h1 => by rw [h1]; rfl) fun h1 => ITE.intro (fun h2 => by rw [h1, h2]; rfl) fun h2 => ?_
 rw [h1, h2]
 have e1 : x.words.length ≤ 10 := by have := of_decide_eq_false h1; omega
 have e2 : x.nodes.length ≤ 3 := by have := of_decide_eq_false h2; omega
 show vc16_L4 _ (fun r => r = nB ((x.words.all fun w => !(decide (((w.size : Nat) : Int) > 40))) && x.nodes.all (smallN most)))
 refine LoopP.intro (fun k : Nat => (((most : Int), (), (k : Int), ()), ((x.kind, x.words.map nS, x.nodes.map Nd.enc, x.num, x.at_, ()), ()))) (fun k => k ≤ x.words.length ∧ (x.words.all fun w => !(decide (((w.size : Nat) : Int) > 40))) = ((x.words.drop k).all fun w => !(decide (((w.size : Nat) : Int) > 40)))) (fun k => x.words.length - k) 0 rfl ⟨Nat.zero_le _, by rw [List.drop_zero]⟩ ?_
 intro k ⟨hk, hd⟩ again hag
 dsimp only
 rw [List.length_map]
 refine ITE.intro (fun h => ?_) fun h => ?_
 ·have hlt : k < x.words.length := by simpa using h
  refine ⟨by omega, by omega, _, getD_map hlt, ITE.intro (fun h3 => ?_) fun h3 => ?_⟩
  ·rw [hd, List.drop_eq_getElem_cons hlt, List.all_cons, h3]; rfl
  ·rw [wrap_n (by omega)]
   exact hag (k + 1) ⟨by omega, by rw [hd, List.drop_eq_getElem_cons hlt, List.all_cons, h3]; rfl⟩ (by omega)
 have hge : x.words.length ≤ k := by simpa using h
 rw [hd, List.drop_eq_nil_of_le hge]
 show vc16_L9 _ (fun r => r = nB (x.nodes.all (smallN most)))
 refine LoopP.intro (fun k : Nat => (((most : Int), (), (k : Int), ()), ((x.kind, x.words.map nS, x.nodes.map Nd.enc, x.num, x.at_, ()), ()))) (fun k => k ≤ x.nodes.length ∧ x.nodes.all (smallN most) = (x.nodes.drop k).all (smallN most)) (fun k => x.nodes.length - k) 0 rfl ⟨Nat.zero_le _, by rw [List.drop_zero]⟩ ?_
 intro k ⟨hk, hd⟩ again hag
 dsimp only
 rw [List.length_map]
 refine ITE.intro (fun h => ?_) fun h => ?_
 ·have hlt : k < x.nodes.length := by simpa using h
  have hs : x.nodes.all (smallN most) = (smallN most x.nodes[k] && (x.nodes.drop (k + 1)).all (smallN most)) := by rw [hd, List.drop_eq_getElem_cons hlt, List.all_cons]
  have hf := ndFew_calls (most := most) (d := 70) (t := x.nodes[k]) (by omega) (by decide)
  rw [Nd.enc_eq] at hf
  refine ⟨by omega, by omega, _, _, _, _, Nd.enc_getD hlt, _, hf, ITE.intro (fun h3 => ?_) fun h3 => ⟨by omega, by omega, _, _, _, _, Nd.enc_getD hlt, _, short_calls _ x.nodes[k] (Nat.le_refl _) ?_, ITE.intro (fun h4 => ?_) fun h4 => ?_⟩⟩
  ·have : Nd.fewB most 70 x.nodes[k] = false := by simpa using h3
   rw [hs, smallN, this]; rfl
  ·have : Nd.fewB most 70 x.nodes[k] = true := by simpa using h3
   have := Nd.fewB_size this
   omega
  ·have : x.nodes[k].short = false := by simpa using h4
   rw [hs, smallN, this, Bool.and_false]; rfl
  ·have e3 : Nd.fewB most 70 x.nodes[k] = true := by simpa using h3
   have e4 : x.nodes[k].short = true := by simpa using h4
   rw [wrap_n (by omega)]
   exact hag (k + 1) ⟨by omega, by rw [hs, smallN, e3, e4]; rfl⟩ (by omega)
 ·have : x.nodes.length ≤ k := by simpa using h
  rw [hd, List.drop_eq_nil_of_le this]; rfl
theorem toItem_calls {x : It} (hn : x.nodes.length ≤ 1000000) (hz : ∀ t ∈ x.nodes, t.size ≤ 1000000) : PureIs Tryd.prog 17 [itAV x] (itAV x) := by
 refine vc17_ok ⟨rfl, ?_⟩
 refine LoopP.intro (fun k : Nat => (((), (), (), (k : Int), ()), ((x.kind, x.words.map nS, x.nodes.map Nd.enc, x.num, x.at_, ()), (0, (), (), 0, 0, ()), (x.kind, x.words.map nS, (), x.num, x.at_, ()), (x.nodes.take k).map Nd.enc, ())))
  (fun k => k ≤ x.nodes.length) (fun k => x.nodes.length - k) 0 (by simp) (Nat.zero_le _) ?_
 intro k hk again hag
 dsimp only at hk ⊢
 rw [List.length_map]
 refine ITE.intro (fun h1 => ?_) fun h1 => ?_
 ·have hlt : k < x.nodes.length := by simpa using h1
  have hi := ndTo_calls _ x.nodes[k] (Nat.le_refl _) (by have := hz _ (List.getElem_mem hlt); omega)
  rw [Nd.enc_eq] at hi
  refine ⟨by omega, by omega, _, _, _, _, Nd.enc_getD hlt, _, _, _, _, hi, rfl, ?_, rfl, ?_⟩
  ·exact appOk_one rfl (by simp; omega) (by decide)
  ·rw [wrap_n (by omega), show (x.nodes.take k).map Nd.enc ++ [.agg [nI x.nodes[k].kind, nS x.nodes[k].word, nI x.nodes[k].at_, .sl (x.nodes[k].kids.map Nd.enc)]] = (x.nodes.take (k + 1)).map Nd.enc from by
    rw [← Nd.enc_eq, List.take_succ_eq_append_getElem hlt, List.map_append]; rfl]
   exact hag (k + 1) (by omega) (by omega)
 ·have hge : x.nodes.length ≤ k := by simpa using h1
  rw [List.take_of_length_le hge]
  exact ⟨rfl, rfl⟩
def joinW (xs : List ByteArray) (sep : ByteArray) : ByteArray := ⟨(Lib.join (xs.map (·.data.toList)) sep.data.toList).toArray⟩
theorem Join_calls {xs : List ByteArray} {sep : ByteArray} (hl : xs.length ≤ 1000000) (hlen : (Lib.join (xs.map (·.data.toList)) sep.data.toList).length ≤ 140737488355328) :
  PureIs Tryd.prog 54 [wsAV xs, nS sep] (nS (joinW xs sep)) := by
 refine ⟨⟨_, Tryd.func54, by kernel_rfl, by kernel_rfl⟩, fun w F vals hF hg hv => ?_⟩
 match vals, hv with
 | [v0, v1], ⟨r0, r1, _⟩ =>
  cases r1
  have r0' : Rep w F [] [] (.sl (xs.map nS)) v0 := r0
  clear r0
  generalize hxs : xs.map nS = ys at r0'
  cases r0' with
  | sl0 a =>
   have : xs = [] := List.map_eq_nil_iff.1 hxs
   subst this
   refine callsIn_wide.2 ((Any.strings_Join_none lay156 layX a 0 sep w).mono ?_)
   rintro e w' ⟨rfl, rfl⟩
   exact ⟨_, _, rfl, rfl, Same.refl _, .prim _⟩
  | sl size els b o c f hc hm hlz hcell hr =>
   subst hxs
   rw [List.length_map] at hc
   by_cases h0 : xs = []
   ·subst h0
    refine callsIn_wide.2 ((Any.strings_Join_none lay156 layX (some ⟨b, o, none⟩) c sep w).mono ?_)
    rintro e w' ⟨rfl, rfl⟩
    exact ⟨_, _, rfl, rfl, Same.refl _, .prim _⟩
   ·have hp : 0 < xs.length := List.length_pos_iff.2 h0
    have get : ∀ (j : Nat) (x : ByteArray), xs[j]? = some x → (xs.map nS)[j]? = some (nS x) := fun j x hx => by rw [List.getElem?_map, hx]; rfl
    have hsz : size = 1 := (hlz 0 _ (get 0 _ (List.getElem?_eq_getElem hp))).symm
    subst hsz
    have cells : ∀ (j : Nat) x, xs[j]? = some x → w.cell? ⟨b, o + j, none⟩ = some (.string x) := fun j x hx => by
     have h1 := (hcell j _ 0 _ (get j x hx) rfl).1
     have h2 := (hr j _ 0 _ (get j x hx) rfl).prim_inv
     rw [h2] at h1
     simpa using h1
    have hb : b < w.heap.size := hF _ _ (hcell 0 _ 0 _ (get 0 _ (List.getElem?_eq_getElem hp)) rfl).2.1
    rw [List.length_map]
    refine callsIn_wide.2 ((Any.strings_Join lay156 layX b o c xs sep w cells hb (by omega) hc hlen).mono ?_)
    rintro e w' ⟨rfl, h⟩
    exact ⟨_, _, rfl, rfl, ⟨h.os, h.tape, h.output, h.size, h.block⟩, .prim _⟩
end Go.Proofs.YtghnkppcncbddaaDoor

namespace Go.Proofs.YtghnkppcncbddaaDoor
open Go
set_option linter.unusedSimpArgs false
set_option linter.unusedVariables false
theorem dec_small {u : Nat} (h : u < 10) : Lib.decDigits u = [UInt8.ofNat (48 + u)] := by rw [Lib.decDigits, dif_pos h]
theorem dec_step {u : Nat} (h : ¬ u < 10) : Lib.decDigits u = Lib.decDigits (u / 10) ++ [UInt8.ofNat (48 + u % 10)] := by rw [Lib.decDigits, dif_neg h]
def decW (u : Nat) : ByteArray := ⟨(Lib.decDigits u).toArray⟩
theorem numW_nat (u : Nat) : numW (u : Int) = decW u := by rw [numW, Lib.itoa_nonneg]; rfl
theorem baApp (l : List UInt8) (b : ByteArray) : (⟨l.toArray⟩ : ByteArray) ++ b = ⟨(l ++ b.data.toList).toArray⟩ := by
 apply ByteArray.ext
 rw [ByteArray.data_append]
 apply Array.toList_inj.1
 simp
theorem digitW {u : Nat} (h : u < 9223372036854775808) : strOfNums [IntKind.wrap .u8 (IntKind.wrap .i64 (48 + (Int.tmod (u : Int) 10)))] = ⟨#[UInt8.ofNat (48 + u % 10)]⟩ := by
 have h1 : Int.tmod (u : Int) 10 = ((u % 10 : Nat) : Int) := (Int.ofNat_tmod u 10).symm
 have h2 : u % 10 < 10 := Nat.mod_lt _ (by decide)
 rw [h1, wrap_i (by omega) (by omega)]
 have h3 : IntKind.wrap .u8 (48 + ((u % 10 : Nat) : Int)) = ((48 + u % 10 : Nat) : Int) := by
  have : ∀ r : Fin 10, IntKind.wrap .u8 (48 + ((r.val : Nat) : Int)) = ((48 + r.val : Nat) : Int) := by decide
  exact this ⟨u % 10, h2⟩
 rw [h3]; rfl
theorem Number_calls : ∀ {k : Int}, I64 k → PureIs Tryd.prog 42 [nI k] (nS (numW k)) := by
 have nat : ∀ u : Nat, u < 9223372036854775808 → PureIs Tryd.prog 42 [nI (u : Int)] (nS (numW (u : Int))) := by
  intro u hu
  refine vc42_ok (ITE.neg (by first | (simp; done) | (simp; omega)) (ITE.neg (decide_eq_false (by omega)) ⟨by decide, by decide, ?_⟩))
  rw [digitW hu, show Int.tdiv (u : Int) 10 = ((u / 10 : Nat) : Int) from (Int.ofNat_tdiv u 10).symm, wrap_i (by omega) (by omega)]
  refine LoopP.intro (fun p : Nat × ByteArray => (((p.1 : Int), p.2, ()), ())) (fun p => p.1 < 9223372036854775808 ∧ p.2.size + (if p.1 = 0 then 0 else (Lib.decDigits p.1).length) ≤ 1000 ∧ numW (u : Int) = if p.1 = 0 then p.2 else decW p.1 ++ p.2) (fun p => p.1) (u / 10, ⟨#[UInt8.ofNat (48 + u % 10)]⟩) rfl ?_ ?_
  ·have hz := numW_size (k := (u : Int)) ⟨by omega, by omega⟩
   rw [numW_nat] at hz ⊢
   have hz' : (Lib.decDigits u).length ≤ 30 := by have e : (decW u).size = (Lib.decDigits u).length := List.size_toArray; omega
   by_cases h : u < 10
   ·have h0 : u / 10 = 0 := Nat.div_eq_of_lt h
    rw [h0]
    refine ⟨by show (0 : Nat) < _; decide, by show 1 + 0 ≤ 1000; decide, ?_⟩
    rw [if_pos rfl, decW, dec_small h, Nat.mod_eq_of_lt h]
   ·have h0 : ¬ u / 10 = 0 := by omega
    have hd := dec_step h
    refine ⟨by show u / 10 < _; omega, ?_, ?_⟩
    ·rw [hd, List.length_append] at hz'
     show 1 + (if u / 10 = 0 then 0 else (Lib.decDigits (u / 10)).length) ≤ 1000
     rw [if_neg h0]; omega
    ·show decW u = if u / 10 = 0 then _ else decW (u / 10) ++ _
     rw [if_neg h0, decW, decW, baApp, hd]
  ·intro ⟨n, w⟩ ⟨h1, h2, h3⟩ again hag
   dsimp only at h1 h2 h3 ⊢
   refine ITE.intro (fun h => ?_) fun h => ?_
   ·have hn : 0 < n := by have := of_decide_eq_true h; omega
    rw [if_neg (by omega)] at h3
    have hl : 1 ≤ (Lib.decDigits n).length := by
     by_cases h5 : n < 10
     ·rw [dec_small h5]; simp
     ·rw [dec_step h5]; simp
    refine ⟨by decide, by rw [digitW h1]; show 1 + w.size ≤ _; omega, by decide, ?_⟩
    rw [digitW h1, show Int.tdiv (n : Int) 10 = ((n / 10 : Nat) : Int) from (Int.ofNat_tdiv n 10).symm, wrap_i (by omega) (by omega)]
    refine hag (n / 10, _) ⟨by show n / 10 < _; omega, ?_, ?_⟩ (by show n / 10 < n; omega)
    ·show (_ ++ w : ByteArray).size + (if n / 10 = 0 then 0 else (Lib.decDigits (n / 10)).length) ≤ 1000
     rw [if_neg (by omega)] at h2
     rw [bsz]
     show 1 + w.size + _ ≤ 1000
     by_cases h5 : n < 10
     ·rw [if_pos (Nat.div_eq_of_lt h5)]; omega
     ·rw [dec_step h5, List.length_append, List.length_singleton] at h2
      rw [if_neg (by omega)]; omega
    ·rw [h3]
     by_cases h5 : n < 10
     ·show _ = if n / 10 = 0 then _ else _
      rw [if_pos (Nat.div_eq_of_lt h5), decW, dec_small h5, Nat.mod_eq_of_lt h5]
     ·have h6 : ¬ n / 10 = 0 := by omega
      show _ = if n / 10 = 0 then _ else _
      rw [if_neg h6, decW, decW, baApp, baApp, baApp, dec_step h5]
      simp
   ·have hn : n = 0 := by have := of_decide_eq_false h; omega
    subst hn
    rw [if_pos rfl] at h3
    show nS w = nS (numW _)
    rw [h3]
 intro k hk
 have h1 := hk.1
 have h2 := hk.2
 by_cases h0 : 0 ≤ k
 ·have := nat k.toNat (by omega)
  rw [show ((k.toNat : Nat) : Int) = k from by omega] at this
  exact this
 ·refine vc42_ok (ITE.intro (fun h => ?_) fun h => ITE.pos (decide_eq_true (by omega)) ?_)
  ·have : k = -9223372036854775808 := by simpa using h
   subst this
   show nS _ = nS (numW (-9223372036854775808))
   kernel_rfl
  ·have hne : ¬ k = -9223372036854775808 := by simpa using h
   obtain ⟨u, rfl⟩ : ∃ u : Nat, k = -(u : Int) := ⟨k.natAbs, by omega⟩
   have hw : IntKind.wrap .i64 (0 - -(u : Int)) = (u : Int) := by rw [wrap_i (by omega) (by omega)]; omega
   have hz := numW_size (k := (u : Int)) ⟨by omega, by omega⟩
   refine ⟨_, by rw [hw]; exact nat u (by omega), by rw [sz1]; omega, ?_⟩
   rw [numW_nat, numW, Lib.itoa_neg u (by omega)]
   show nS (⟨[(45 : UInt8)].toArray⟩ ++ decW u) = _
   rw [baApp]; rfl
end Go.Proofs.YtghnkppcncbddaaDoor

namespace Go.Proofs.YtghnkppcncbddaaDoor
open Go
set_option linter.unusedSimpArgs false
set_option linter.unusedVariables false
def beginW (k : Int) : ByteArray := ((formI k).getD noF).word
theorem Begin_calls {k : Int} (h : (formI k).isSome = true) : PureIs Tryd.prog 41 [nI k] (nS (beginW k)) := by
 refine vc41_ok ?_
 rcases formI_cases k with rfl | rfl | rfl | rfl | rfl | rfl | rfl | rfl | rfl | rfl | rfl | rfl | ⟨h0, _⟩
 case inr.inr.inr.inr.inr.inr.inr.inr.inr.inr.inr.inr => rw [h0] at h; cases h
 all_goals
  refine ⟨by decide, ?_⟩
  repeat (first | exact rfl | refine ITE.pos rfl ?_ | refine ITE.neg rfl ?_)
theorem beginW_size (k : Int) : (beginW k).size ≤ 11 := by
 rcases formI_cases k with rfl | rfl | rfl | rfl | rfl | rfl | rfl | rfl | rfl | rfl | rfl | rfl | ⟨h0, _⟩
 case inr.inr.inr.inr.inr.inr.inr.inr.inr.inr.inr.inr => rw [beginW, h0]; decide
 all_goals decide
theorem beginW_ne {k : Int} (h : (formI k).isSome = true) : (beginW k).size ≠ 0 := by
 rcases formI_cases k with rfl | rfl | rfl | rfl | rfl | rfl | rfl | rfl | rfl | rfl | rfl | rfl | ⟨h0, _⟩
 case inr.inr.inr.inr.inr.inr.inr.inr.inr.inr.inr.inr => rw [h0] at h; cases h
 all_goals decide
def cntK (k : Int) : Bool := decide (k ≥ 8) && decide (k ≤ 11)
theorem formI_count {k : Int} {f : Fm} (h : formI k = some f) : f.count = cntK k := by
 rcases formI_cases k with rfl | rfl | rfl | rfl | rfl | rfl | rfl | rfl | rfl | rfl | rfl | rfl | ⟨h0, _⟩
 iterate 12 (first | (cases h; rfl) | skip)
 all_goals first | (cases h; rfl) | (rw [h0] at h; cases h)
def wStep (k : Int) (s : ByteArray) (i : Nat) (w : ByteArray) : ByteArray :=
 if 0 < i ∧ k = 6 then ((s ++ (⟨#[32, 62]⟩ : ByteArray)) ++ (⟨#[32]⟩ : ByteArray)) ++ w else (s ++ (⟨#[32]⟩ : ByteArray)) ++ w
def wordsS (k : Int) : ByteArray → Nat → List ByteArray → ByteArray
 | s, _, [] => s
 | s, i, w :: l => wordsS k (wStep k s i w) (i + 1) l
def numS (k num : Int) (s : ByteArray) : ByteArray := if cntK k = true then (s ++ (⟨#[32]⟩ : ByteArray)) ++ numW num else s
def nSep (k : Int) (i : Nat) : ByteArray := if i = 0 then ⟨#[58, 32]⟩ else if k = 5 then ⟨#[32, 62, 32]⟩ else ⟨#[32, 61, 32]⟩
def nTxt (k : Int) (t : Nd) : ByteArray := if typesB k = true then txtT t else txtM t
def nodesS (k : Int) : ByteArray → Nat → List Nd → ByteArray
 | s, _, [] => s
 | s, i, t :: l => nodesS k ((s ++ nSep k i) ++ nTxt k t) (i + 1) l
def itTxt (x : It) : ByteArray := nodesS x.kind (numS x.kind x.num (wordsS x.kind (beginW x.kind) 0 x.words)) 0 x.nodes ++ (⟨#[59, 10]⟩ : ByteArray)
def itW (x : It) : Nat := 100 + 33 * x.words.length + 60 * Nd.sizes x.nodes
structure ROk (x : It) : Prop where
 words : ∀ w ∈ x.words, isWord w = true
 nodes : ∀ t ∈ x.nodes, (if typesB x.kind = true then rightT t else rightM t) = true
 form : (formI x.kind).isSome = true
 num : cntK x.kind = true → 0 ≤ x.num ∧ x.num ≤ 999999999
theorem rightI_inv {x : It} (h : rightI x = true) : ROk x := by
 rw [rightI_eq] at h
 simp only [Bool.and_eq_true, Bool.not_eq_true', List.any_eq_false, Bool.not_eq_true, Bool.not_eq_false'] at h
 obtain ⟨h1, h2, h3⟩ := h
 have h4 : ∃ f, formI x.kind = some f := by
  cases hf : formI x.kind with
  | some f => exact ⟨f, rfl⟩
  | none => unfold tailB at h3; rw [hf] at h3; cases h3
 obtain ⟨f, hf⟩ := h4
 refine ⟨fun w hw => by simpa using h1 w hw, fun t ht => ?_, by rw [hf]; rfl, fun hc => ?_⟩
 ·unfold nodesB at h2
  have := List.any_eq_false.1 h2 t ht
  simpa using this
 ·unfold tailB tailF at h3
  rw [hf] at h3
  simp only [Bool.and_eq_true] at h3
  have h5 := h3.2.2.2
  rw [formI_count hf, hc] at h5
  simp only [cntB, Bool.and_eq_true, Bool.not_eq_true', decide_eq_false_iff_not] at h5
  omega
theorem wStep_size {k : Int} {s : ByteArray} {i : Nat} {w : ByteArray} (h : isWord w = true) : (wStep k s i w).size ≤ s.size + 33 := by
 have := isWord_size h
 have e2 : (⟨#[32, 62]⟩ : ByteArray).size = 2 := rfl
 unfold wStep
 split <;> simp only [bsz, sz1, e2] <;> omega
theorem wordsS_size {k : Int} : ∀ (l : List ByteArray) (s : ByteArray) (i : Nat), (∀ w ∈ l, isWord w = true) → (wordsS k s i l).size ≤ s.size + 33 * l.length
 | [], s, i, _ => by rw [wordsS]; simp
 | w :: l, s, i, h => by
  have h1 := wStep_size (k := k) (s := s) (i := i) (h w List.mem_cons_self)
  have h2 := wordsS_size (k := k) l (wStep k s i w) (i + 1) fun v hv => h v (List.mem_cons_of_mem _ hv)
  rw [wordsS, List.length_cons]; omega
theorem nSep_size (k : Int) (i : Nat) : (nSep k i).size ≤ 3 := by
 unfold nSep
 split
 ·decide
 ·split <;> decide
theorem nTxt_size {k : Int} {t : Nd} (h : (if typesB k = true then rightT t else rightM t) = true) : (nTxt k t).size ≤ 50 * t.size := by
 unfold nTxt
 split
 ·rename_i hk; rw [if_pos hk] at h; exact txtT_size _ t (Nat.le_refl _) h
 ·rename_i hk; rw [if_neg hk] at h; exact txtM_size _ t (Nat.le_refl _) h
theorem numS_size {k num : Int} {s : ByteArray} (h : cntK k = true → 0 ≤ num ∧ num ≤ 999999999) : (numS k num s).size ≤ s.size + 31 := by
 unfold numS
 split
 ·rename_i hk
  have := numW_size (k := num) ⟨by have := h hk; omega, by have := h hk; omega⟩
  simp only [bsz, sz1]; omega
 ·omega
theorem Nd.sizes_drop {l : List Nd} {i : Nat} (h : i < l.length) : Nd.sizes (l.drop i) = l[i].size + Nd.sizes (l.drop (i + 1)) := by rw [List.drop_eq_getElem_cons h, Nd.sizes]
theorem refItem_nodes {x : It} (h : ROk x) {s : ByteArray} (hs : s.size + 60 * Nd.sizes x.nodes ≤ 30000000) :
  vc21_L11 (((), s, 0, ()), ((x.kind, x.words.map nS, x.nodes.map Nd.enc, x.num, x.at_, ()), ())) (fun r => r = nS (nodesS x.kind s 0 x.nodes ++ (⟨#[59, 10]⟩ : ByteArray))) := by
 have e2 : (⟨#[59, 10]⟩ : ByteArray).size = 2 := rfl
 have e3 : (⟨#[58, 32]⟩ : ByteArray).size = 2 := rfl
 have e4 : (⟨#[32, 62, 32]⟩ : ByteArray).size = 3 := rfl
 have e5 : (⟨#[32, 61, 32]⟩ : ByteArray).size = 3 := rfl
 refine LoopP.intro (fun p : Nat × ByteArray => (((), p.2, (p.1 : Int), ()), ((x.kind, x.words.map nS, x.nodes.map Nd.enc, x.num, x.at_, ()), ()))) (fun p => p.1 ≤ x.nodes.length ∧ nodesS x.kind s 0 x.nodes = nodesS x.kind p.2 p.1 (x.nodes.drop p.1) ∧ p.2.size + 60 * Nd.sizes (x.nodes.drop p.1) ≤ 30000000) (fun p => x.nodes.length - p.1) (0, s) rfl ⟨Nat.zero_le _, by rw [List.drop_zero], by simpa using hs⟩ ?_
 intro ⟨i, u⟩ ⟨hi, hd, hu⟩ again hag
 dsimp only at hi hd hu ⊢
 rw [List.length_map]
 refine ITE.intro (fun h1 => ?_) fun h1 => ?_
 ·have hlt : i < x.nodes.length := by simpa using h1
  have hr := h.nodes _ (List.getElem_mem hlt)
  have hz := nTxt_size hr
  have hq := x.nodes[i].size_pos
  have hl := Nd.sizes_len x.nodes
  rw [Nd.sizes_drop hlt] at hu
  rw [List.drop_eq_getElem_cons hlt, nodesS] at hd
  have rT := fun (hT : rightT x.nodes[i] = true) => refTypeS_calls _ x.nodes[i] (Nat.le_refl _) (by omega) hT
  have rM := fun (hM : rightM x.nodes[i] = true) => refTermS_calls _ x.nodes[i] (Nat.le_refl _) (by omega) hM
  rw [Nd.enc_eq] at rT rM
  refine ITE.intro (fun h2 => ?_) fun h2 => ITE.intro (fun h3 => ?_) fun h3 => ?_
  ·have hT : typesB x.kind = true := by unfold typesB; rw [h2]; rfl
   rw [if_pos hT] at hr
   rw [nTxt, if_pos hT] at hd hz
   refine ⟨by omega, by omega, _, _, _, _, Nd.enc_getD hlt, _, rT hr, ITE.intro (fun h4 => ?_) fun h4 => ITE.intro (fun h5 => ?_) fun h5 => ?_⟩
   all_goals
    refine ⟨by simp only [e3, e4, e5]; omega, by simp only [bsz, e3, e4, e5]; omega, ?_⟩
    rw [wrap_n (by omega)]
    refine hag (i + 1, _) ⟨by dsimp only; omega, ?_, by simp only [bsz, e3, e4, e5]; omega⟩ (by dsimp only; omega)
    rw [hd]
    simp_all [nSep]
  ·have hT : typesB x.kind = true := by unfold typesB; rw [h3, Bool.or_true]
   rw [if_pos hT] at hr
   rw [nTxt, if_pos hT] at hd hz
   refine ⟨by omega, by omega, _, _, _, _, Nd.enc_getD hlt, _, rT hr, ITE.intro (fun h4 => ?_) fun h4 => ITE.intro (fun h5 => ?_) fun h5 => ?_⟩
   all_goals
    refine ⟨by simp only [e3, e4, e5]; omega, by simp only [bsz, e3, e4, e5]; omega, ?_⟩
    rw [wrap_n (by omega)]
    refine hag (i + 1, _) ⟨by dsimp only; omega, ?_, by simp only [bsz, e3, e4, e5]; omega⟩ (by dsimp only; omega)
    rw [hd]
    simp_all [nSep]
  ·have hT : ¬ typesB x.kind = true := by unfold typesB; rw [h2, h3]; decide
   rw [if_neg hT] at hr
   rw [nTxt, if_neg hT] at hd hz
   refine ⟨by omega, by omega, _, _, _, _, Nd.enc_getD hlt, _, rM hr, ITE.intro (fun h4 => ?_) fun h4 => ITE.intro (fun h5 => ?_) fun h5 => ?_⟩
   all_goals
    refine ⟨by simp only [e3, e4, e5]; omega, by simp only [bsz, e3, e4, e5]; omega, ?_⟩
    rw [wrap_n (by omega)]
    refine hag (i + 1, _) ⟨by dsimp only; omega, ?_, by simp only [bsz, e3, e4, e5]; omega⟩ (by dsimp only; omega)
    rw [hd]
    simp_all [nSep]
 ·have hge : x.nodes.length ≤ i := by simpa using h1
  rw [hd, List.drop_eq_nil_of_le hge, nodesS]
  exact ⟨by rw [e2]; omega, rfl⟩
theorem refItem_calls {x : It} (h : ROk x) (hb : itW x ≤ 30000000) : PureIs Tryd.prog 21 [itAV x] (nS (itTxt x)) := by
 unfold itW at hb
 have e2 : (⟨#[32, 62]⟩ : ByteArray).size = 2 := rfl
 have hb0 := beginW_size x.kind
 refine vc21_ok ⟨_, Begin_calls h.form, ?_⟩
 show vc21_L3 _ (fun r => r = nS (itTxt x))
 refine LoopP.intro (fun p : Nat × ByteArray => (((), p.2, (p.1 : Int), ()), ((x.kind, x.words.map nS, x.nodes.map Nd.enc, x.num, x.at_, ()), ()))) (fun p => p.1 ≤ x.words.length ∧ wordsS x.kind (beginW x.kind) 0 x.words = wordsS x.kind p.2 p.1 (x.words.drop p.1) ∧ p.2.size ≤ 11 + 33 * p.1) (fun p => x.words.length - p.1) (0, beginW x.kind) rfl ⟨Nat.zero_le _, by rw [List.drop_zero], by simpa using hb0⟩ ?_
 intro ⟨i, u⟩ ⟨hi, hd, hu⟩ again hag
 dsimp only at hi hd hu ⊢
 rw [List.length_map]
 refine ITE.intro (fun h1 => ?_) fun h1 => ?_
 ·have hlt : i < x.words.length := by simpa using h1
  have hz := isWord_size (h.words _ (List.getElem_mem hlt))
  have hst := wStep_size (k := x.kind) (s := u) (i := i) (h.words _ (List.getElem_mem hlt))
  rw [List.drop_eq_getElem_cons hlt, wordsS] at hd
  refine ITE.intro (fun h2 => ITE.intro (fun h3 => ?_) fun h3 => ?_) fun h2 => ?_
  ·have e : wStep x.kind u i x.words[i] = ((u ++ (⟨#[32, 62]⟩ : ByteArray)) ++ (⟨#[32]⟩ : ByteArray)) ++ x.words[i] := if_pos ⟨by simpa using h2, by simpa using h3⟩
   rw [e] at hd hst
   refine ⟨by rw [e2]; omega, by simp only [bsz, sz1, e2]; omega, by omega, by omega, _, getD_map hlt, by simp only [bsz, sz1, e2]; omega, ?_⟩
   rw [wrap_n (by omega)]
   exact hag (i + 1, _) ⟨by dsimp only; omega, hd, by dsimp only; omega⟩ (by dsimp only; omega)
  ·have e : wStep x.kind u i x.words[i] = (u ++ (⟨#[32]⟩ : ByteArray)) ++ x.words[i] := if_neg fun c => by simp [c.2] at h3
   rw [e] at hd hst
   refine ⟨by rw [sz1]; omega, by omega, by omega, _, getD_map hlt, by simp only [bsz, sz1, e2]; omega, ?_⟩
   rw [wrap_n (by omega)]
   exact hag (i + 1, _) ⟨by dsimp only; omega, hd, by dsimp only; omega⟩ (by dsimp only; omega)
  ·have e : wStep x.kind u i x.words[i] = (u ++ (⟨#[32]⟩ : ByteArray)) ++ x.words[i] := if_neg fun c => by (have : ¬ (i : Int) > 0 := by simpa using h2); omega
   rw [e] at hd hst
   refine ⟨by rw [sz1]; omega, by omega, by omega, _, getD_map hlt, by simp only [bsz, sz1, e2]; omega, ?_⟩
   rw [wrap_n (by omega)]
   exact hag (i + 1, _) ⟨by dsimp only; omega, hd, by dsimp only; omega⟩ (by dsimp only; omega)
 ·have hge : x.words.length ≤ i := by simpa using h1
  rw [List.drop_eq_nil_of_le hge, wordsS] at hd
  rw [itTxt, hd]
  have hz := numS_size (s := u) h.num
  have hi' : i = x.words.length := by omega
  refine ITE.intro (fun h2 => ITE.intro (fun h3 => ?_) fun h3 => ?_) fun h2 => ?_
  ·have hc : cntK x.kind = true := by unfold cntK; rw [h2, h3]; rfl
   rw [numS, if_pos hc] at hz ⊢
   have hn := h.num hc
   have hz2 := numW_size (k := x.num) ⟨by omega, by omega⟩
   refine ⟨by rw [sz1]; omega, _, Number_calls ⟨by omega, by omega⟩, by simp only [bsz, sz1]; omega, ?_⟩
   exact refItem_nodes h (by omega)
  ·have hc : ¬ cntK x.kind = true := by unfold cntK; rw [h3, Bool.and_false]; decide
   rw [numS, if_neg hc] at hz ⊢
   exact refItem_nodes h (by omega)
  ·have hc : ¬ cntK x.kind = true := by unfold cntK; rw [h2, Bool.false_and]; decide
   rw [numS, if_neg hc] at hz ⊢
   exact refItem_nodes h (by omega)
end Go.Proofs.YtghnkppcncbddaaDoor

namespace Go.Proofs.YtghnkppcncbddaaDoor
open Go Go.Shelf
set_option linter.unusedSimpArgs false
set_option linter.unusedVariables false
def sepK (k : Int) : ByteArray := if (k == 6) = true then ⟨#[32, 62, 32]⟩ else ⟨#[32]⟩
theorem baList (a b : ByteArray) : (a ++ b).data.toList = a.data.toList ++ b.data.toList := by rw [ByteArray.data_append, Array.toList_append]
theorem baEq {a b : ByteArray} (h : a.data.toList = b.data.toList) : a = b := ByteArray.ext (Array.toList_inj.1 h)
theorem wordsS_tail (k : Int) : ∀ (l : List ByteArray) (s : ByteArray) (i : Nat), 0 < i → (wordsS k s i l).data.toList = s.data.toList ++ Lib.joinTail (sepK k).data.toList (l.map (·.data.toList))
 | [], s, i, _ => by simp [wordsS, Lib.joinTail]
 | w :: l, s, i, h => by
  rw [wordsS, wordsS_tail k l _ (i + 1) (by omega)]
  unfold wStep sepK
  by_cases hk : k = 6
  ·rw [if_pos ⟨h, hk⟩, if_pos (by simpa using hk)]
   simp [baList, Lib.joinTail]
  ·rw [if_neg (fun c => hk c.2), if_neg (by simpa using hk)]
   simp [baList, Lib.joinTail]
theorem wordsS_join {k : Int} {s : ByteArray} {l : List ByteArray} (h : l ≠ []) : wordsS k s 0 l = s ++ ((⟨#[32]⟩ : ByteArray) ++ joinW l (sepK k)) := by
 match l, h with
 | w :: l, _ =>
  apply baEq
  rw [wordsS, wordsS_tail k l _ 1 (by omega)]
  have : wStep k s 0 w = (s ++ (⟨#[32]⟩ : ByteArray)) ++ w := if_neg fun c => absurd c.1 (by omega)
  rw [this]
  simp [baList, joinW, Lib.join_cons]
theorem joinW_size {l : List ByteArray} {sep : ByteArray} : (joinW l sep).size = (Lib.join (l.map (·.data.toList)) sep.data.toList).length := List.size_toArray
theorem join_bd {l : List ByteArray} {k : Int} (h : ∀ w ∈ l, isWord w = true) : (joinW l (sepK k)).size ≤ 33 * l.length + 1 := by
 have hw := wordsS_size (k := k) l ⟨#[]⟩ 0 h
 by_cases hl : l = []
 ·subst hl; simp [joinW_size, Lib.join_nil]
 ·rw [wordsS_join hl, bsz, bsz, sz1] at hw
  have e0 : (⟨#[]⟩ : ByteArray).size = 0 := rfl
  omega
theorem itemT_loop {x : It} {us : List AV} {s : ByteArray} (hty : typesB x.kind = true) (hr : ∀ t ∈ x.nodes, rightT t = true) (hs : us.length + s.size + 60 * Nd.sizes x.nodes ≤ 30000000) {fw : ByteArray} {g1 g2 g3 : Int} {b c : Bool} :
  vc_itemT_L14 (((), (), (((), ()), ()), x.nodes.map Nd.enc, (((x.nodes.map Nd.enc).length : Nat) : Int), 0, ()), ((), us ++ strAV s, ((), ()), (x.kind, x.words.map nS, x.nodes.map Nd.enc, x.num, x.at_, ()), (fw, g1, g2, g3, b, c, ()), ()))
   (fun r hp' => r = .tup [] ∧ hp' = bl (us ++ strAV (nodesS x.kind s 0 x.nodes ++ (⟨#[59, 10]⟩ : ByteArray)))) := by
 have e2 : (⟨#[59, 10]⟩ : ByteArray).size = 2 := rfl
 refine LoopP.intro (fun p : Nat × ByteArray => (((), (), (((), ()), ()), x.nodes.map Nd.enc, (((x.nodes.map Nd.enc).length : Nat) : Int), (p.1 : Int), ()), ((), us ++ strAV p.2, ((), ()), (x.kind, x.words.map nS, x.nodes.map Nd.enc, x.num, x.at_, ()), (fw, g1, g2, g3, b, c, ()), ())))
  (fun p => p.1 ≤ x.nodes.length ∧ nodesS x.kind s 0 x.nodes = nodesS x.kind p.2 p.1 (x.nodes.drop p.1) ∧ us.length + p.2.size + 60 * Nd.sizes (x.nodes.drop p.1) ≤ 30000000) (fun p => x.nodes.length - p.1) (0, s) rfl ⟨Nat.zero_le _, by rw [List.drop_zero], by simpa using hs⟩ ?_
 intro ⟨i, u⟩ ⟨hi, hd, hu⟩ again hag
 dsimp only at hi hd hu ⊢
 rw [List.length_map]
 refine ITE.intro (fun h1 => ?_) fun h1 => ?_
 ·have hlt : i < x.nodes.length := by simpa using h1
  have hrt := hr _ (List.getElem_mem hlt)
  have hz := txtT_size _ _ (Nat.le_refl _) hrt
  have hq := x.nodes[i].size_pos
  have hl := Nd.sizes_len x.nodes
  have hsp := nSep_size x.kind i
  rw [Nd.sizes_drop hlt] at hu
  rw [List.drop_eq_getElem_cons hlt, nodesS, nTxt, if_pos hty] at hd
  have ht := typ_calls _ x.nodes[i] (Nat.le_refl _) hrt
  unfold Tells at ht
  rw [Nd.enc_eq] at ht
  have fin : again (((), (), (((), ()), ()), x.nodes.map Nd.enc, ((x.nodes.length : Nat) : Int), IntKind.wrap .i64 ((i : Int) + 1), ()), ((), ((us ++ strAV u) ++ strAV (nSep x.kind i)) ++ strAV (txtT x.nodes[i]), ((), ()), (x.kind, x.words.map nS, x.nodes.map Nd.enc, x.num, x.at_, ()), (fw, g1, g2, g3, b, c, ()), ())) := by
   have := hag (i + 1, (u ++ nSep x.kind i) ++ txtT x.nodes[i]) ⟨by dsimp only; omega, hd, by simp only [bsz]; omega⟩ (by dsimp only; omega)
   rw [wrap_n (by omega)]
   simp only [strAV_app, ← List.append_assoc, List.length_map] at this ⊢
   exact this
  have sp1 : (i : Int) = 0 → nSep x.kind i = ⟨#[58, 32]⟩ := fun h => if_pos (by omega)
  have sp2 : ¬ (i : Int) = 0 → x.kind = 5 → nSep x.kind i = ⟨#[32, 62, 32]⟩ := fun h h' => (if_neg (by omega)).trans (if_pos h')
  have sp3 : ¬ (i : Int) = 0 → ¬ x.kind = 5 → nSep x.kind i = ⟨#[32, 61, 32]⟩ := fun h h' => (if_neg (by omega)).trans (if_neg h')
  refine ⟨by omega, by omega, _, _, _, _, Nd.enc_getD hlt, ITE.intro (fun h2 => ?_) fun h2 => ITE.intro (fun h3 => ?_) fun h3 => ?_⟩
  ·rw [sp1 (by simpa using h2)] at fin hsp
   exact ⟨_, wr_calls (by decide) (by simp only [lenS]; omega), fun r q ⟨e1, e2⟩ => ⟨_, _, ⟨e1, e2⟩, _, ht _ (by simp only [lenS]; omega), fun r q ⟨e1, e2⟩ => ⟨_, ⟨e1, e2⟩, rfl, rfl, fin⟩⟩⟩
  ·rw [sp2 (by simpa using h2) (by simpa using h3)] at fin hsp
   exact ⟨_, wr_calls (by decide) (by simp only [lenS]; omega), fun r q ⟨e1, e2⟩ => ⟨_, _, ⟨e1, e2⟩, _, ht _ (by simp only [lenS]; omega), fun r q ⟨e1, e2⟩ => ⟨_, ⟨e1, e2⟩, rfl, rfl, fin⟩⟩⟩
  ·rw [sp3 (by simpa using h2) (by simpa using h3)] at fin hsp
   exact ⟨_, wr_calls (by decide) (by simp only [lenS]; omega), fun r q ⟨e1, e2⟩ => ⟨_, _, ⟨e1, e2⟩, _, ht _ (by simp only [lenS]; omega), fun r q ⟨e1, e2⟩ => ⟨_, ⟨e1, e2⟩, rfl, rfl, fin⟩⟩⟩
 ·have hge : x.nodes.length ≤ i := by simpa using h1
  rw [List.drop_eq_nil_of_le hge, nodesS] at hd
  rw [hd]
  refine ⟨_, wr_calls (by decide) (by rw [lenS, e2]; omega), fun r q ⟨e1, e2⟩ => ⟨_, _, ⟨e1, e2⟩, rfl, ?_⟩⟩
  simp only [strAV_app, List.append_assoc]
theorem itemT_calls {x : It} {us : List AV} (h : ROk x) (hty : typesB x.kind = true) (hb : us.length + itW x ≤ 30000000) :
  HFn Tryd.prog 40 [.agg [.ptr 0 0], itAV x] (bl us) (fun r hp' => r = .tup [] ∧ hp' = bl (us ++ strAV (itTxt x))) := by
 unfold itW at hb
 obtain ⟨f, hf⟩ := Option.isSome_iff_exists.1 h.form
 have hf1 : f.types = true := (formI_types hf).trans hty
 have hf2 := formI_count hf
 have hfw : f.word = beginW x.kind := by rw [beginW, hf]; rfl
 have hfo : PureIs Tryd.prog 35 [nI x.kind] (.tup [fmAV f, nB true]) := by
  have := formOf_calls (k := x.kind)
  rw [hf] at this
  exact this
 have hne : f.word.size ≠ 0 := by rw [hfw]; exact beginW_ne h.form
 have hws := wordsS_size (k := x.kind) x.words (beginW x.kind) 0 h.words
 have hb0 := beginW_size x.kind
 have hw1 : f.word.size ≤ 11 := by rw [hfw]; exact hb0
 have hrt : ∀ t ∈ x.nodes, rightT t = true := fun t ht => by
  have := h.nodes t ht
  rwa [if_pos hty] at this
 have hjo := Join_calls (xs := x.words) (sep := sepK x.kind) (by omega) (by rw [← joinW_size]; have := join_bd (k := x.kind) h.words; omega)
 have hj2 := join_bd (k := x.kind) h.words
 refine vc_itemT_ok ⟨_, _, _, _, _, _, _, hfo, _, wr_calls hne (by omega), fun r q ⟨e1, e2⟩ => ⟨_, _, ⟨e1, e2⟩, ?_⟩⟩
 rw [List.length_map, itTxt]
 have key := fun h0 : x.words ≠ [] => wordsS_join (k := x.kind) (s := beginW x.kind) h0
 have key0 : x.words = [] → wordsS x.kind (beginW x.kind) 0 x.words = beginW x.kind := fun h0 => by rw [h0, wordsS]
 have nonil : decide (((x.words.length : Nat) : Int) > 0) = true → x.words ≠ [] := fun h e => by rw [e] at h; cases h
 have isnil : decide (((x.words.length : Nat) : Int) > 0) = false → x.words = [] := fun h => List.eq_nil_of_length_eq_zero (by have := of_decide_eq_false h; omega)
 have s6 : (x.kind == 6) = true → sepK x.kind = ⟨#[32, 62, 32]⟩ := fun h => if_pos h
 have s1 : (x.kind == 6) = false → sepK x.kind = ⟨#[32]⟩ := fun h => if_neg (by rw [h]; decide)
 generalize hsp : sepK x.kind = sp at hjo hj2 key s6 s1
 generalize hww : wordsS x.kind (beginW x.kind) 0 x.words = ww at hws key key0
 refine ITE.intro (fun h6 => ITE.intro (fun hw => ?_) fun hw => ?_) fun h6 => ITE.intro (fun hw => ?_) fun hw => ?_
 case refine_1 =>
  obtain rfl := s6 h6
  refine ⟨_, hjo, by rw [sz1]; omega, _, wr_calls (by rw [bsz, sz1]; omega) (by simp only [lenS, bsz, sz1]; omega), fun r q ⟨e1, e2⟩ => ⟨_, _, ⟨e1, e2⟩, ?_⟩⟩
  have e := congrArg (fun s => us ++ strAV s) (key (nonil hw))
  rw [strAV_app (beginW x.kind), ← List.append_assoc] at e
  rw [hfw, ← e]
  refine ITE.intro (fun hc => ?_) fun hc => ?_
  ·have hc' : cntK x.kind = true := by rw [← hf2]; exact hc
   have hn := h.num hc'
   have hz2 := numW_size (k := x.num) ⟨by omega, by omega⟩
   refine ⟨_, itoa_calls ⟨by omega, by omega⟩, by rw [sz1]; omega, _, wr_calls (by rw [bsz, sz1]; omega) (by simp only [lenS, bsz, sz1]; omega), fun r q ⟨e1, e2⟩ => ⟨_, _, ⟨e1, e2⟩, ITE.pos hf1 ⟨rfl, rfl, ?_⟩⟩⟩
   rw [numS, if_pos hc']
   have e3 : (us ++ strAV ww) ++ strAV ((⟨#[32]⟩ : ByteArray) ++ numW x.num) = us ++ strAV ((ww ++ (⟨#[32]⟩ : ByteArray)) ++ numW x.num) := by simp only [strAV_app, List.append_assoc]
   rw [e3]
   exact itemT_loop hty hrt (by simp only [bsz, sz1]; omega)
  ·have hc' : ¬ cntK x.kind = true := by rw [← hf2, hc]; decide
   rw [numS, if_neg hc']
   exact ITE.pos hf1 ⟨rfl, rfl, itemT_loop hty hrt (by omega)⟩
 case refine_3 =>
  obtain rfl := s1 h6
  refine ⟨_, hjo, by rw [sz1]; omega, _, wr_calls (by rw [bsz, sz1]; omega) (by simp only [lenS, bsz, sz1]; omega), fun r q ⟨e1, e2⟩ => ⟨_, _, ⟨e1, e2⟩, ?_⟩⟩
  have e := congrArg (fun s => us ++ strAV s) (key (nonil hw))
  rw [strAV_app (beginW x.kind), ← List.append_assoc] at e
  rw [hfw, ← e]
  refine ITE.intro (fun hc => ?_) fun hc => ?_
  ·have hc' : cntK x.kind = true := by rw [← hf2]; exact hc
   have hn := h.num hc'
   have hz2 := numW_size (k := x.num) ⟨by omega, by omega⟩
   refine ⟨_, itoa_calls ⟨by omega, by omega⟩, by rw [sz1]; omega, _, wr_calls (by rw [bsz, sz1]; omega) (by simp only [lenS, bsz, sz1]; omega), fun r q ⟨e1, e2⟩ => ⟨_, _, ⟨e1, e2⟩, ITE.pos hf1 ⟨rfl, rfl, ?_⟩⟩⟩
   rw [numS, if_pos hc']
   have e3 : (us ++ strAV ww) ++ strAV ((⟨#[32]⟩ : ByteArray) ++ numW x.num) = us ++ strAV ((ww ++ (⟨#[32]⟩ : ByteArray)) ++ numW x.num) := by simp only [strAV_app, List.append_assoc]
   rw [e3]
   exact itemT_loop hty hrt (by simp only [bsz, sz1]; omega)
  ·have hc' : ¬ cntK x.kind = true := by rw [← hf2, hc]; decide
   rw [numS, if_neg hc']
   exact ITE.pos hf1 ⟨rfl, rfl, itemT_loop hty hrt (by omega)⟩
 all_goals
  have e := key0 (isnil hw)
  rw [hfw, ← e]
  refine ITE.intro (fun hc => ?_) fun hc => ?_
  ·have hc' : cntK x.kind = true := by rw [← hf2]; exact hc
   have hn := h.num hc'
   have hz2 := numW_size (k := x.num) ⟨by omega, by omega⟩
   refine ⟨_, itoa_calls ⟨by omega, by omega⟩, by rw [sz1]; omega, _, wr_calls (by rw [bsz, sz1]; omega) (by simp only [lenS, bsz, sz1]; omega), fun r q ⟨e1, e2⟩ => ⟨_, _, ⟨e1, e2⟩, ITE.pos hf1 ⟨rfl, rfl, ?_⟩⟩⟩
   rw [numS, if_pos hc']
   have e3 : (us ++ strAV ww) ++ strAV ((⟨#[32]⟩ : ByteArray) ++ numW x.num) = us ++ strAV ((ww ++ (⟨#[32]⟩ : ByteArray)) ++ numW x.num) := by simp only [strAV_app, List.append_assoc]
   rw [e3]
   exact itemT_loop hty hrt (by simp only [bsz, sz1]; omega)
  ·have hc' : ¬ cntK x.kind = true := by rw [← hf2, hc]; decide
   rw [numS, if_neg hc']
   exact ITE.pos hf1 ⟨rfl, rfl, itemT_loop hty hrt (by omega)⟩
theorem itemM_loop {x : It} {us : List AV} {s : ByteArray} (hty : typesB x.kind = false) (hr : ∀ t ∈ x.nodes, rightM t = true) (hs : us.length + s.size + 60 * Nd.sizes x.nodes ≤ 30000000) {fw : ByteArray} {g1 g2 g3 : Int} {b c : Bool} :
  vc_itemM_L14 (((), (), (((), ()), ()), x.nodes.map Nd.enc, (((x.nodes.map Nd.enc).length : Nat) : Int), 0, ()), ((), us ++ strAV s, ((), ()), (x.kind, x.words.map nS, x.nodes.map Nd.enc, x.num, x.at_, ()), (fw, g1, g2, g3, b, c, ()), ()))
   (fun r hp' => r = .tup [] ∧ hp' = bl (us ++ strAV (nodesS x.kind s 0 x.nodes ++ (⟨#[59, 10]⟩ : ByteArray)))) := by
 have e2 : (⟨#[59, 10]⟩ : ByteArray).size = 2 := rfl
 refine LoopP.intro (fun p : Nat × ByteArray => (((), (), (((), ()), ()), x.nodes.map Nd.enc, (((x.nodes.map Nd.enc).length : Nat) : Int), (p.1 : Int), ()), ((), us ++ strAV p.2, ((), ()), (x.kind, x.words.map nS, x.nodes.map Nd.enc, x.num, x.at_, ()), (fw, g1, g2, g3, b, c, ()), ())))
  (fun p => p.1 ≤ x.nodes.length ∧ nodesS x.kind s 0 x.nodes = nodesS x.kind p.2 p.1 (x.nodes.drop p.1) ∧ us.length + p.2.size + 60 * Nd.sizes (x.nodes.drop p.1) ≤ 30000000) (fun p => x.nodes.length - p.1) (0, s) rfl ⟨Nat.zero_le _, by rw [List.drop_zero], by simpa using hs⟩ ?_
 intro ⟨i, u⟩ ⟨hi, hd, hu⟩ again hag
 dsimp only at hi hd hu ⊢
 rw [List.length_map]
 refine ITE.intro (fun h1 => ?_) fun h1 => ?_
 ·have hlt : i < x.nodes.length := by simpa using h1
  have hrt := hr _ (List.getElem_mem hlt)
  have hz := txtM_size _ _ (Nat.le_refl _) hrt
  have hq := x.nodes[i].size_pos
  have hl := Nd.sizes_len x.nodes
  have hsp := nSep_size x.kind i
  rw [Nd.sizes_drop hlt] at hu
  rw [List.drop_eq_getElem_cons hlt, nodesS, nTxt, if_neg (by rw [hty]; decide)] at hd
  have ht := term_calls _ x.nodes[i] (Nat.le_refl _) hrt
  unfold Tells at ht
  rw [Nd.enc_eq] at ht
  have fin : again (((), (), (((), ()), ()), x.nodes.map Nd.enc, ((x.nodes.length : Nat) : Int), IntKind.wrap .i64 ((i : Int) + 1), ()), ((), ((us ++ strAV u) ++ strAV (nSep x.kind i)) ++ strAV (txtM x.nodes[i]), ((), ()), (x.kind, x.words.map nS, x.nodes.map Nd.enc, x.num, x.at_, ()), (fw, g1, g2, g3, b, c, ()), ())) := by
   have := hag (i + 1, (u ++ nSep x.kind i) ++ txtM x.nodes[i]) ⟨by dsimp only; omega, hd, by simp only [bsz]; omega⟩ (by dsimp only; omega)
   rw [wrap_n (by omega)]
   simp only [strAV_app, ← List.append_assoc, List.length_map] at this ⊢
   exact this
  have sp1 : (i : Int) = 0 → nSep x.kind i = ⟨#[58, 32]⟩ := fun h => if_pos (by omega)
  have sp2 : ¬ (i : Int) = 0 → x.kind = 5 → nSep x.kind i = ⟨#[32, 62, 32]⟩ := fun h h' => (if_neg (by omega)).trans (if_pos h')
  have sp3 : ¬ (i : Int) = 0 → ¬ x.kind = 5 → nSep x.kind i = ⟨#[32, 61, 32]⟩ := fun h h' => (if_neg (by omega)).trans (if_neg h')
  refine ⟨by omega, by omega, _, _, _, _, Nd.enc_getD hlt, ITE.intro (fun h2 => ?_) fun h2 => ITE.intro (fun h3 => ?_) fun h3 => ?_⟩
  ·rw [sp1 (by simpa using h2)] at fin hsp
   exact ⟨_, wr_calls (by decide) (by simp only [lenS]; omega), fun r q ⟨e1, e2⟩ => ⟨_, _, ⟨e1, e2⟩, _, ht _ (by simp only [lenS]; omega), fun r q ⟨e1, e2⟩ => ⟨_, ⟨e1, e2⟩, rfl, rfl, fin⟩⟩⟩
  ·rw [sp2 (by simpa using h2) (by simpa using h3)] at fin hsp
   exact ⟨_, wr_calls (by decide) (by simp only [lenS]; omega), fun r q ⟨e1, e2⟩ => ⟨_, _, ⟨e1, e2⟩, _, ht _ (by simp only [lenS]; omega), fun r q ⟨e1, e2⟩ => ⟨_, ⟨e1, e2⟩, rfl, rfl, fin⟩⟩⟩
  ·rw [sp3 (by simpa using h2) (by simpa using h3)] at fin hsp
   exact ⟨_, wr_calls (by decide) (by simp only [lenS]; omega), fun r q ⟨e1, e2⟩ => ⟨_, _, ⟨e1, e2⟩, _, ht _ (by simp only [lenS]; omega), fun r q ⟨e1, e2⟩ => ⟨_, ⟨e1, e2⟩, rfl, rfl, fin⟩⟩⟩
 ·have hge : x.nodes.length ≤ i := by simpa using h1
  rw [List.drop_eq_nil_of_le hge, nodesS] at hd
  rw [hd]
  refine ⟨_, wr_calls (by decide) (by rw [lenS, e2]; omega), fun r q ⟨e1, e2⟩ => ⟨_, _, ⟨e1, e2⟩, rfl, ?_⟩⟩
  simp only [strAV_app, List.append_assoc]
theorem itemM_calls {x : It} {us : List AV} (h : ROk x) (hty : typesB x.kind = false) (hb : us.length + itW x ≤ 30000000) :
  HFn Tryd.prog 40 [.agg [.ptr 0 0], itAV x] (bl us) (fun r hp' => r = .tup [] ∧ hp' = bl (us ++ strAV (itTxt x))) := by
 unfold itW at hb
 obtain ⟨f, hf⟩ := Option.isSome_iff_exists.1 h.form
 have hf1 : f.types = false := (formI_types hf).trans hty
 have hf2 := formI_count hf
 have hfw : f.word = beginW x.kind := by rw [beginW, hf]; rfl
 have hfo : PureIs Tryd.prog 35 [nI x.kind] (.tup [fmAV f, nB true]) := by
  have := formOf_calls (k := x.kind)
  rw [hf] at this
  exact this
 have hne : f.word.size ≠ 0 := by rw [hfw]; exact beginW_ne h.form
 have hws := wordsS_size (k := x.kind) x.words (beginW x.kind) 0 h.words
 have hb0 := beginW_size x.kind
 have hw1 : f.word.size ≤ 11 := by rw [hfw]; exact hb0
 have hrt : ∀ t ∈ x.nodes, rightM t = true := fun t ht => by
  have := h.nodes t ht
  rwa [if_neg (by rw [hty]; decide)] at this
 have hjo := Join_calls (xs := x.words) (sep := sepK x.kind) (by omega) (by rw [← joinW_size]; have := join_bd (k := x.kind) h.words; omega)
 have hj2 := join_bd (k := x.kind) h.words
 refine vc_itemM_ok ⟨_, _, _, _, _, _, _, hfo, _, wr_calls hne (by omega), fun r q ⟨e1, e2⟩ => ⟨_, _, ⟨e1, e2⟩, ?_⟩⟩
 rw [List.length_map, itTxt]
 have key := fun h0 : x.words ≠ [] => wordsS_join (k := x.kind) (s := beginW x.kind) h0
 have key0 : x.words = [] → wordsS x.kind (beginW x.kind) 0 x.words = beginW x.kind := fun h0 => by rw [h0, wordsS]
 have nonil : decide (((x.words.length : Nat) : Int) > 0) = true → x.words ≠ [] := fun h e => by rw [e] at h; cases h
 have isnil : decide (((x.words.length : Nat) : Int) > 0) = false → x.words = [] := fun h => List.eq_nil_of_length_eq_zero (by have := of_decide_eq_false h; omega)
 have s6 : (x.kind == 6) = true → sepK x.kind = ⟨#[32, 62, 32]⟩ := fun h => if_pos h
 have s1 : (x.kind == 6) = false → sepK x.kind = ⟨#[32]⟩ := fun h => if_neg (by rw [h]; decide)
 generalize hsp : sepK x.kind = sp at hjo hj2 key s6 s1
 generalize hww : wordsS x.kind (beginW x.kind) 0 x.words = ww at hws key key0
 refine ITE.intro (fun h6 => ITE.intro (fun hw => ?_) fun hw => ?_) fun h6 => ITE.intro (fun hw => ?_) fun hw => ?_
 case refine_1 =>
  obtain rfl := s6 h6
  refine ⟨_, hjo, by rw [sz1]; omega, _, wr_calls (by rw [bsz, sz1]; omega) (by simp only [lenS, bsz, sz1]; omega), fun r q ⟨e1, e2⟩ => ⟨_, _, ⟨e1, e2⟩, ?_⟩⟩
  have e := congrArg (fun s => us ++ strAV s) (key (nonil hw))
  rw [strAV_app (beginW x.kind), ← List.append_assoc] at e
  rw [hfw, ← e]
  refine ITE.intro (fun hc => ?_) fun hc => ?_
  ·have hc' : cntK x.kind = true := by rw [← hf2]; exact hc
   have hn := h.num hc'
   have hz2 := numW_size (k := x.num) ⟨by omega, by omega⟩
   refine ⟨_, itoa_calls ⟨by omega, by omega⟩, by rw [sz1]; omega, _, wr_calls (by rw [bsz, sz1]; omega) (by simp only [lenS, bsz, sz1]; omega), fun r q ⟨e1, e2⟩ => ⟨_, _, ⟨e1, e2⟩, ITE.neg hf1 ⟨rfl, rfl, ?_⟩⟩⟩
   rw [numS, if_pos hc']
   have e3 : (us ++ strAV ww) ++ strAV ((⟨#[32]⟩ : ByteArray) ++ numW x.num) = us ++ strAV ((ww ++ (⟨#[32]⟩ : ByteArray)) ++ numW x.num) := by simp only [strAV_app, List.append_assoc]
   rw [e3]
   exact itemM_loop hty hrt (by simp only [bsz, sz1]; omega)
  ·have hc' : ¬ cntK x.kind = true := by rw [← hf2, hc]; decide
   rw [numS, if_neg hc']
   exact ITE.neg hf1 ⟨rfl, rfl, itemM_loop hty hrt (by omega)⟩
 case refine_3 =>
  obtain rfl := s1 h6
  refine ⟨_, hjo, by rw [sz1]; omega, _, wr_calls (by rw [bsz, sz1]; omega) (by simp only [lenS, bsz, sz1]; omega), fun r q ⟨e1, e2⟩ => ⟨_, _, ⟨e1, e2⟩, ?_⟩⟩
  have e := congrArg (fun s => us ++ strAV s) (key (nonil hw))
  rw [strAV_app (beginW x.kind), ← List.append_assoc] at e
  rw [hfw, ← e]
  refine ITE.intro (fun hc => ?_) fun hc => ?_
  ·have hc' : cntK x.kind = true := by rw [← hf2]; exact hc
   have hn := h.num hc'
   have hz2 := numW_size (k := x.num) ⟨by omega, by omega⟩
   refine ⟨_, itoa_calls ⟨by omega, by omega⟩, by rw [sz1]; omega, _, wr_calls (by rw [bsz, sz1]; omega) (by simp only [lenS, bsz, sz1]; omega), fun r q ⟨e1, e2⟩ => ⟨_, _, ⟨e1, e2⟩, ITE.neg hf1 ⟨rfl, rfl, ?_⟩⟩⟩
   rw [numS, if_pos hc']
   have e3 : (us ++ strAV ww) ++ strAV ((⟨#[32]⟩ : ByteArray) ++ numW x.num) = us ++ strAV ((ww ++ (⟨#[32]⟩ : ByteArray)) ++ numW x.num) := by simp only [strAV_app, List.append_assoc]
   rw [e3]
   exact itemM_loop hty hrt (by simp only [bsz, sz1]; omega)
  ·have hc' : ¬ cntK x.kind = true := by rw [← hf2, hc]; decide
   rw [numS, if_neg hc']
   exact ITE.neg hf1 ⟨rfl, rfl, itemM_loop hty hrt (by omega)⟩
 all_goals
  have e := key0 (isnil hw)
  rw [hfw, ← e]
  refine ITE.intro (fun hc => ?_) fun hc => ?_
  ·have hc' : cntK x.kind = true := by rw [← hf2]; exact hc
   have hn := h.num hc'
   have hz2 := numW_size (k := x.num) ⟨by omega, by omega⟩
   refine ⟨_, itoa_calls ⟨by omega, by omega⟩, by rw [sz1]; omega, _, wr_calls (by rw [bsz, sz1]; omega) (by simp only [lenS, bsz, sz1]; omega), fun r q ⟨e1, e2⟩ => ⟨_, _, ⟨e1, e2⟩, ITE.neg hf1 ⟨rfl, rfl, ?_⟩⟩⟩
   rw [numS, if_pos hc']
   have e3 : (us ++ strAV ww) ++ strAV ((⟨#[32]⟩ : ByteArray) ++ numW x.num) = us ++ strAV ((ww ++ (⟨#[32]⟩ : ByteArray)) ++ numW x.num) := by simp only [strAV_app, List.append_assoc]
   rw [e3]
   exact itemM_loop hty hrt (by simp only [bsz, sz1]; omega)
  ·have hc' : ¬ cntK x.kind = true := by rw [← hf2, hc]; decide
   rw [numS, if_neg hc']
   exact ITE.neg hf1 ⟨rfl, rfl, itemM_loop hty hrt (by omega)⟩
theorem item_calls {x : It} {us : List AV} (h : ROk x) (hb : us.length + itW x ≤ 30000000) :
  HFn Tryd.prog 40 [.agg [.ptr 0 0], itAV x] (bl us) (fun r hp' => r = .tup [] ∧ hp' = bl (us ++ strAV (itTxt x))) := by
 cases hty : typesB x.kind
 ·exact itemM_calls h hty hb
 ·exact itemT_calls h hty hb
end Go.Proofs.YtghnkppcncbddaaDoor

namespace Go.Proofs.YtghnkppcncbddaaDoor
open Go Go.Shelf
set_option linter.unusedSimpArgs false
set_option linter.unusedVariables false
def textsS : ByteArray → List It → ByteArray
 | s, [] => s
 | s, x :: l => textsS (s ++ itTxt x) l
def itsW : List It → Nat
 | [] => 0
 | x :: l => itW x + itsW l
theorem itTxt_size {x : It} (h : ROk x) : (itTxt x).size ≤ itW x := by
 have key : ∀ (l : List Nd) (s : ByteArray) (i : Nat), (∀ t ∈ l, (if typesB x.kind = true then rightT t else rightM t) = true) → (nodesS x.kind s i l).size ≤ s.size + 60 * Nd.sizes l := by
  intro l
  induction l with
  | nil => intro s i _; rw [nodesS]; omega
  | cons t l ih =>
   intro s i ht
   have h1 := ih ((s ++ nSep x.kind i) ++ nTxt x.kind t) (i + 1) fun u hu => ht u (List.mem_cons_of_mem _ hu)
   have h2 := nTxt_size (ht t List.mem_cons_self)
   have h3 := nSep_size x.kind i
   have h4 := t.size_pos
   rw [nodesS, Nd.sizes]
   simp only [bsz] at h1
   omega
 have h1 := key x.nodes (numS x.kind x.num (wordsS x.kind (beginW x.kind) 0 x.words)) 0 h.nodes
 have h2 := numS_size (s := wordsS x.kind (beginW x.kind) 0 x.words) h.num
 have h3 := wordsS_size (k := x.kind) x.words (beginW x.kind) 0 h.words
 have h4 := beginW_size x.kind
 have e2 : (⟨#[59, 10]⟩ : ByteArray).size = 2 := rfl
 rw [itTxt, bsz, e2, itW]; omega
abbrev itsAV (l : List It) : AV := .sl (l.map itAV)
theorem itsW_drop {l : List It} {i : Nat} (h : i < l.length) : itsW (l.drop i) = itW l[i] + itsW (l.drop (i + 1)) := by rw [List.drop_eq_getElem_cons h, itsW]
theorem itsW_len : ∀ l : List It, 100 * l.length ≤ itsW l
 | [] => by simp
 | x :: l => by have := itsW_len l; rw [itsW, itW, List.length_cons]; omega
theorem itsW_mem {l : List It} {x : It} (h : x ∈ l) : itW x ≤ itsW l := by
 induction l with
 | nil => cases h
 | cons y l ih =>
  rw [itsW]
  rcases List.mem_cons.1 h with rfl | h
  ·omega
  ·have := ih h; omega
theorem Text_calls {l : List It} (hb : itsW l ≤ 30000000) : PureIs Tryd.prog 20 [itsAV l] (shown (l.all rightI) (textsS ⟨#[]⟩ l)) := by
 have hl := itsW_len l
 refine vc20_ok ⟨rfl, ?_⟩
 rw [List.length_map]
 show vc20_L3 _ _
 refine LoopP.intro (fun p : Nat × ByteArray => (((), l.map itAV, ((l.length : Nat) : Int), (p.1 : Int), ()), ((), strAV p.2, ((), ()), ())))
  (fun p => p.1 ≤ l.length ∧ textsS ⟨#[]⟩ l = textsS p.2 (l.drop p.1) ∧ l.all rightI = (l.drop p.1).all rightI ∧ p.2.size + itsW (l.drop p.1) ≤ 30000000) (fun p => l.length - p.1) (0, ⟨#[]⟩) rfl ⟨Nat.zero_le _, rfl, rfl, by show 0 + itsW l ≤ _; omega⟩ ?_
 intro ⟨i, s⟩ ⟨hi, hd, hr, hs⟩ again hag
 dsimp only at hi hd hr hs ⊢
 refine ITE.intro (fun h1 => ?_) fun h1 => ?_
 ·have hlt : i < l.length := by simpa using h1
  rw [itsW_drop hlt] at hs
  have hw : itW l[i] = 100 + 33 * l[i].words.length + 60 * Nd.sizes l[i].nodes := rfl
  have hn := Nd.sizes_len l[i].nodes
  rw [List.drop_eq_getElem_cons hlt, textsS] at hd
  rw [List.drop_eq_getElem_cons hlt, List.all_cons] at hr
  refine ⟨by omega, by rw [List.length_map]; omega, _, _, _, _, _, getD_map hlt, _, RightItem_calls (by omega) (by omega), ITE.intro (fun h2 => ?_) fun h2 => ?_⟩
  ·have : rightI l[i] = false := by simpa using h2
   rw [hr, this]; rfl
  ·have hok : rightI l[i] = true := by simpa using h2
   rw [hok, Bool.true_and] at hr
   have hz := itTxt_size (rightI_inv hok)
   have hz2 := strAV_len s
   refine ⟨_, item_calls (rightI_inv hok) (by omega), fun r q ⟨e1, e2⟩ => ⟨_, ⟨e1, e2⟩, rfl, ?_⟩⟩
   rw [wrap_n (by omega), ← strAV_app]
   exact hag (i + 1, s ++ itTxt l[i]) ⟨by dsimp only; omega, hd, hr, by simp only [bsz]; omega⟩ (by dsimp only; omega)
 ·have hge : l.length ≤ i := by simpa using h1
  rw [List.drop_eq_nil_of_le hge] at hd hr
  rw [hd, hr, textsS]
  exact ⟨_, String_calls, fun r q ⟨e1, e2⟩ => ⟨_, ⟨e1, e2⟩, rfl⟩⟩
theorem smallI_bd {x : It} {most : Nat} (hm : most ≤ 60) (h : smallI most x = true) : x.words.length ≤ 10 ∧ x.nodes.length ≤ 3 ∧ (∀ t ∈ x.nodes, t.size ≤ most) ∧ itW x ≤ 20000 := by
 simp only [smallI, Bool.and_eq_true, Bool.not_eq_true', decide_eq_false_iff_not, List.all_eq_true] at h
 obtain ⟨h1, h2, h3, h4⟩ := h
 have hz : ∀ t ∈ x.nodes, t.size ≤ most := fun t ht => by
  have := h4 t ht
  simp only [smallN, Bool.and_eq_true] at this
  exact Nd.fewB_size this.1
 have hs : ∀ l : List Nd, (∀ t ∈ l, t.size ≤ most) → Nd.sizes l ≤ 60 * l.length := by
  intro l
  induction l with
  | nil => intro _; simp [Nd.sizes]
  | cons t l ih =>
   intro h
   have a := h t List.mem_cons_self
   have b := ih fun u hu => h u (List.mem_cons_of_mem _ hu)
   rw [Nd.sizes, List.length_cons]; omega
 have := hs x.nodes hz
 refine ⟨by omega, by omega, hz, ?_⟩
 rw [itW]; omega
theorem ShowItems_calls {l0 : List It} : PureIs Tryd.prog 4 [itsAV l0] (nB true) := by
 have hk := knownS_calls
 have hcells : ∀ y : AV, y ∈ l0.map itAV → y.cells.length = 5 := fun y hy => by
  obtain ⟨x, _, rfl⟩ := List.mem_map.1 hy
  rfl
 refine vc4_ok ⟨⟨by decide, by split <;> omega, by split <;> omega, hcells⟩, rfl, ?_⟩
 rw [List.length_map]
 have et : List.drop (Int.toNat 0) (List.take (Int.toNat (if (6 : Int) < ((l0.length : Nat) : Int) then 6 else ((l0.length : Nat) : Int))) (l0.map itAV)) = (l0.take 6).map itAV := by
  rw [List.map_take]
  show List.drop 0 _ = _
  rw [List.drop_zero]
  split
  ·rfl
  ·rw [Int.toNat_natCast, List.take_of_length_le (by simp), List.take_of_length_le (by simp; omega)]
 rw [et]
 have hl6 : (l0.take 6).length ≤ 6 := by simp; omega
 generalize l0.take 6 = l at hl6
 show vc4_L5 _ (fun r => r = nB true)
 refine LoopP.intro (fun k : Nat => ((l.map itAV, (), (l.take k).all rightI, (k : Int), ()), ((l.take k).map itAV, ()))) (fun k => k ≤ l.length ∧ itsW (l.take k) ≤ 20000 * k) (fun k => l.length - k) 0 rfl ⟨Nat.zero_le _, by simp [itsW]⟩ ?_
 intro k ⟨hk1, hw⟩ again hag
 dsimp only
 rw [List.length_map]
 refine ITE.intro (fun h1 => ?_) fun h1 => ?_
 ·have hlt : k < l.length := by simpa using h1
  refine ⟨by omega, by omega, _, _, _, _, _, getD_map hlt, _, small15_calls (x := l[k]) (most := 60) (by omega), ITE.intro (fun h2 => ⟨_, hk, rfl⟩) fun h2 => ?_⟩
  have hsm : smallI 60 l[k] = true := by simpa using h2
  obtain ⟨b1, b2, b3, b4⟩ := smallI_bd (by omega) hsm
  have ewk : ∀ j, j = k + 1 → l.take j = l.take k ++ [l[k]] := fun j hj => by rw [hj, List.take_succ_eq_append_getElem hlt]
  have hw2 : itsW (l.take (k + 1)) ≤ 20000 * (k + 1) := by
   have : ∀ a b : List It, itsW (a ++ b) = itsW a + itsW b := fun a b => by
    induction a with
    | nil => simp [itsW]
    | cons y a ih => rw [List.cons_append, itsW, itsW, ih]; omega
   rw [ewk _ rfl, this]
   simp only [itsW]; omega
  have hgo := hag (k + 1) ⟨by omega, hw2⟩ (by omega)
  have htail : (l.take (k + 1)).map itAV = (l.take k).map itAV ++ [itAV l[k]] := by rw [ewk _ rfl, List.map_append]; rfl
  have hall : (l.take (k + 1)).all rightI = ((l.take k).all rightI && rightI l[k]) := by rw [ewk _ rfl, List.all_append]; simp
  rw [htail, hall] at hgo
  refine ⟨by omega, by omega, _, _, _, _, _, getD_map hlt, _, _, _, _, _, toItem_calls (x := l[k]) (by omega) (fun t ht => by have := b3 t ht; omega), rfl, appOk_one rfl (by simp; omega) (by decide), _, RightItem_calls (by omega) (by omega), by omega, by omega, _, _, _, _, _, getD_map hlt, _,
   refRightI_calls (x := l[k]) (by omega) (by omega), ITE.neg (by simp) (ITE.intro (fun h3 => ⟨by omega, by omega, _, _, _, _, _, getD_map hlt, _, refRightI_calls (x := l[k]) (by omega) (by omega), rfl, ?_⟩) fun h3 => ⟨rfl, ?_⟩)⟩
  ·rw [wrap_n (by omega)]
   rw [h3, Bool.true_and] at hgo
   exact hgo
  ·rw [wrap_n (by omega)]
   rw [h3, Bool.false_and] at hgo
   exact hgo
 ·have hge : l.length ≤ k := by simpa using h1
  rw [List.take_of_length_le hge] at hw ⊢
  have ht := Text_calls (l := l) (by omega)
  refine ⟨rfl, _, _, ht, ITE.intro (fun h2 => ?_) fun h2 => ?_⟩
  ·have : l.all rightI = false := by simpa using h2
   rw [this]
   refine ⟨_, hk, ITE.pos rfl (ITE.pos rfl ?_)⟩
   show nB (strEq ⟨#[]⟩ ⟨#[]⟩) = nB true
   rw [strEq_self]
  ·have hall : l.all rightI = true := by simpa using h2
   rw [hall]
   have hok : ∀ x ∈ l, ROk x := fun x hx => rightI_inv (List.all_eq_true.1 hall x hx)
   show vc4_L19 _ (fun r => r = nB true)
   refine LoopP.intro (fun p : Nat × ByteArray => ((l.map itAV, textsS ⟨#[]⟩ l, 0, p.2, (p.1 : Int), ()), (l.map itAV, ()))) (fun p => p.1 ≤ l.length ∧ textsS ⟨#[]⟩ l = textsS p.2 (l.drop p.1) ∧ p.2.size + itsW (l.drop p.1) ≤ 1000000) (fun p => l.length - p.1) (0, ⟨#[]⟩) rfl ⟨Nat.zero_le _, rfl, by show 0 + itsW l ≤ _; omega⟩ ?_
   intro ⟨i, s⟩ ⟨hi, hd, hs⟩ again2 hag2
   dsimp only at hi hd hs ⊢
   rw [List.length_map]
   refine ITE.intro (fun h3 => ?_) fun h3 => ?_
   ·have hlt : i < l.length := by simpa using h3
    have hx := hok _ (List.getElem_mem hlt)
    have hm := itsW_mem (List.getElem_mem hlt)
    have hz := itTxt_size hx
    rw [itsW_drop hlt] at hs
    rw [List.drop_eq_getElem_cons hlt, textsS] at hd
    refine ⟨by omega, by omega, _, _, _, _, _, getD_map hlt, _, refItem_calls hx (by omega), by omega, ?_⟩
    rw [wrap_n (by omega)]
    exact hag2 (i + 1, s ++ itTxt l[i]) ⟨by dsimp only; omega, hd, by simp only [bsz]; omega⟩ (by dsimp only; omega)
   ·have hge2 : l.length ≤ i := by simpa using h3
    rw [List.drop_eq_nil_of_le hge2, textsS] at hd
    refine ⟨_, hk, ITE.pos rfl (ITE.pos rfl ?_)⟩
    rw [hd, strEq_self]
end Go.Proofs.YtghnkppcncbddaaDoor
