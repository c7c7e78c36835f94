/- slices.Grow and slices.Concat, walked. -/
import Derived.Test.YtfbncddnakaaiaaP01
import Derived.Test.YtfbncddnakaaiaaTab
import Derived.Test.YtfbncddnakaaiaaFilU
namespace Go.Proofs.Ytfbncddnakaaiaa
open Go
set_option linter.unusedSimpArgs false
set_option linter.unusedVariables false

theorem grow_calls {hp : List AObj} {n : Nat} (hn : n ≤ 1000000000) (hcl : ∀ o ∈ hp, AObj.closed (hp.length + 1) o = true) :
    HFn Try.prog 113 [.prim (.slice none 0 0), .prim (.int .i64 (n : Nat))] hp (fun r hp' => r = .own hp.length 0 ∧ hp' = hp ++ [.row 79 2 []]) := by
  refine heap_of_body_at tab_ok (hp.length + 1) (by simp) (fn := Try.f113) Try.func113 rfl (by kernel_rfl) (by simp [Try.ntmps113]) ?_
  intro Γ hok hP hnt hh0
  rw [Try.ntmps113] at hnt
  have htab : TabOk Γ.P tab := by rw [hP]; exact tab_ok
  refine AWp.seqK fun K1 hK1 => ?_
  refine AWp.regionC hok htab hnt ?_
  simp only [ARunC, CStep, isRoom, nilCmp, xval, callArgs, bne_self_eq_false,  pval, heff, bopVal, bopInt, lenVal, fieldsOf, ldCells, ldElem, fillCells, setCells, lookVal, mapGet, mapPut, boundOf, idxOk, lensOk, appOk, Value.cells, TK.agg, thenQ, inBlockQ, AS.put, AS.ev, startT, upd_eq, dstOk, gslot, condP, tabs, reduceIte, Nat.reduceLT, Nat.reduceEqDiff, Nat.reduceAdd, Nat.reduceLeDiff, Nat.reduceMul, Nat.reduceSub, List.getElem?_nil, List.length_nil, List.nil_append, List.append_nil, List.take_zero, List.map_nil, Option.map_none, Option.bind_none, reduceCtorEq, Int.toNat_natCast, Int.natCast_nonneg, List.not_mem_nil, retQ, resAll, resOne, resTup, wrap_succ, Int.ofNat_lt, Int.not_lt, obo1, obo2, obo3, core1, core2, core3]
  refine hK1 _ ?_
  try clear hK1 K1
  refine AWp.seqK fun K2 hK2 => ?_
  refine AWp.seqK fun K3 hK3 => ?_
  refine AWp.regionC hok htab hnt ?_
  simp only [ARunC, CStep, isRoom, nilCmp, xval, callArgs, bne_self_eq_false,  pval, heff, bopVal, bopInt, lenVal, fieldsOf, ldCells, ldElem, fillCells, setCells, lookVal, mapGet, mapPut, boundOf, idxOk, lensOk, appOk, Value.cells, TK.agg, thenQ, inBlockQ, AS.put, AS.ev, startT, upd_eq, dstOk, gslot, condP, tabs, reduceIte, Nat.reduceLT, Nat.reduceEqDiff, Nat.reduceAdd, Nat.reduceLeDiff, Nat.reduceMul, Nat.reduceSub, List.getElem?_nil, List.length_nil, List.nil_append, List.append_nil, List.take_zero, List.map_nil, Option.map_none, Option.bind_none, reduceCtorEq, Int.toNat_natCast, Int.natCast_nonneg, List.not_mem_nil, retQ, resAll, resOne, resTup, wrap_succ, Int.ofNat_lt, Int.not_lt, obo1, obo2, obo3, core1, core2, core3]
  refine hK3 _ ?_
  try clear hK3 K3
  refine AWp.condB (by simp only [AS.ev, upd_eq, Nat.reduceEqDiff, if_true, if_false, reduceIte, reduceCtorEq]; rfl) (fun hc => ?_) (fun hc => ?_)
  all_goals (try simp only [decide_eq_true_eq, decide_eq_false_iff_not, Int.ofNat_lt, Int.not_lt, Nat.not_lt, bne_iff_ne, bne_eq_false_iff_eq, ne_eq, Bool.not_eq_true', Bool.not_eq_false', Bool.and_eq_true, Bool.or_eq_true, Bool.and_eq_false_iff, Bool.or_eq_false_iff, beq_iff_eq, beq_eq_false_iff_ne, Bool.not_eq_eq_eq_not, Bool.not_true, Bool.not_false] at hc)
  · exfalso; omega
  · refine AWp.skip ?_
    refine hK2 _ ?_
    try clear hK2 K2
    refine AWp.seqK fun K9 hK9 => ?_
    refine AWp.seqK fun K10 hK10 => ?_
    have hw : IntKind.i64.wrap ((n : Int) - IntKind.i64.wrap (0 - ((0 : Nat) : Int))) = (n : Int) := by
      rw [show IntKind.i64.wrap (0 - ((0 : Nat) : Int)) = 0 from by decide, Int.sub_zero, IntWalk.i64_in _ (by omega)]
    refine AWp.regionC hok htab hnt ?_
    simp only [ARunC, CStep, isRoom, nilCmp, xval, callArgs, bne_self_eq_false,  pval, heff, bopVal, bopInt, lenVal, fieldsOf, ldCells, ldElem, fillCells, setCells, lookVal, mapGet, mapPut, boundOf, idxOk, lensOk, appOk, Value.cells, TK.agg, thenQ, inBlockQ, AS.put, AS.ev, startT, upd_eq, dstOk, gslot, condP, tabs, reduceIte, Nat.reduceLT, Nat.reduceEqDiff, Nat.reduceAdd, Nat.reduceLeDiff, Nat.reduceMul, Nat.reduceSub, List.getElem?_nil, List.length_nil, List.nil_append, List.append_nil, List.take_zero, List.map_nil, Option.map_none, Option.bind_none, reduceCtorEq, Int.toNat_natCast, Int.natCast_nonneg, List.not_mem_nil, retQ, resAll, resOne, resTup, wrap_succ, Int.ofNat_lt, Int.not_lt, obo1, obo2, obo3, core1, core2, core3, hw]
    refine hK10 _ ?_
    try clear hK10 K10
    refine AWp.seqK fun K11 hK11 => ?_
    refine AWp.regionC hok htab hnt ?_
    simp only [ARunC, CStep, isRoom, nilCmp, xval, callArgs, bne_self_eq_false,  pval, heff, bopVal, bopInt, lenVal, fieldsOf, ldCells, ldElem, fillCells, setCells, lookVal, mapGet, mapPut, boundOf, idxOk, lensOk, appOk, Value.cells, TK.agg, thenQ, inBlockQ, AS.put, AS.ev, startT, upd_eq, dstOk, gslot, condP, tabs, reduceIte, Nat.reduceLT, Nat.reduceEqDiff, Nat.reduceAdd, Nat.reduceLeDiff, Nat.reduceMul, Nat.reduceSub, List.getElem?_nil, List.length_nil, List.nil_append, List.append_nil, List.take_zero, List.map_nil, Option.map_none, Option.bind_none, reduceCtorEq, Int.toNat_natCast, Int.natCast_nonneg, List.not_mem_nil, retQ, resAll, resOne, resTup, wrap_succ, Int.ofNat_lt, Int.not_lt, obo1, obo2, obo3, core1, core2, core3]
    refine hK11 _ ?_
    try clear hK11 K11
    refine AWp.condB (by simp only [AS.ev, upd_eq, Nat.reduceEqDiff, if_true, if_false, reduceIte, reduceCtorEq]; rfl) (fun hc => ?_) (fun hc => ?_)
    all_goals (try simp only [decide_eq_true_eq, decide_eq_false_iff_not, Int.ofNat_lt, Int.not_lt, Nat.not_lt, bne_iff_ne, bne_eq_false_iff_eq, ne_eq, Bool.not_eq_true', Bool.not_eq_false', Bool.and_eq_true, Bool.or_eq_true, Bool.and_eq_false_iff, Bool.or_eq_false_iff, beq_iff_eq, beq_eq_false_iff_ne, Bool.not_eq_eq_eq_not, Bool.not_true, Bool.not_false] at hc)  -- if t16
    · refine AWp.regionC hok htab hnt ?_
      simp only [ARunC, CStep, isRoom, nilCmp, xval, callArgs, bne_self_eq_false,  pval, heff, bopVal, bopInt, lenVal, fieldsOf, ldCells, ldElem, fillCells, setCells, lookVal, mapGet, mapPut, boundOf, idxOk, lensOk, appOk, Value.cells, TK.agg, thenQ, inBlockQ, AS.put, AS.ev, startT, upd_eq, dstOk, gslot, condP, tabs, reduceIte, Nat.reduceLT, Nat.reduceEqDiff, Nat.reduceAdd, Nat.reduceLeDiff, Nat.reduceMul, Nat.reduceSub, List.getElem?_nil, List.length_nil, List.nil_append, List.append_nil, List.take_zero, List.map_nil, Option.map_none, Option.bind_none, reduceCtorEq, Int.toNat_natCast, Int.natCast_nonneg, List.not_mem_nil, retQ, resAll, resOne, resTup, wrap_succ, Int.ofNat_lt, Int.not_lt, obo1, obo2, obo3, core1, core2, core3]
      refine AList.room hok htab (c1 := { callee := .builtin .append, args := #[.tmp 20, .tmp 21], argTypes := #[34, 3] }) (c3 := { callee := .builtin .len, args := #[.tmp 23], argTypes := #[34] }) (n := n) rfl rfl rfl rfl rfl rfl rfl rfl tab_34 rfl tab_79 tab_3 rfl (by decide) rfl rfl (by omega) (by simp only [maxLen]; omega) (by simp only [td79]; omega)
        rfl rfl (by simp) rfl rfl rfl rfl rfl rfl rfl rfl rfl (by omega) (by omega) (by omega) (by omega) (by decide) (by decide) ?_
      refine ARunC.sound hok htab hnt _ _ ?_
      simp only [ARunC, CStep, isRoom, nilCmp, xval, callArgs, bne_self_eq_false,  pval, heff, bopVal, bopInt, lenVal, fieldsOf, ldCells, ldElem, fillCells, setCells, lookVal, mapGet, mapPut, boundOf, idxOk, lensOk, appOk, Value.cells, TK.agg, thenQ, inBlockQ, AS.put, AS.ev, startT, upd_eq, dstOk, gslot, condP, tabs, reduceIte, Nat.reduceLT, Nat.reduceEqDiff, Nat.reduceAdd, Nat.reduceLeDiff, Nat.reduceMul, Nat.reduceSub, List.getElem?_nil, List.length_nil, List.nil_append, List.append_nil, List.take_zero, List.map_nil, Option.map_none, Option.bind_none, reduceCtorEq, Int.toNat_natCast, Int.natCast_nonneg, List.not_mem_nil, retQ, resAll, resOne, resTup, wrap_succ, Int.ofNat_lt, Int.not_lt, obo1, obo2, obo3, core1, core2, core3]
      refine hK9 _ ?_
      try clear hK9 K9
      refine AWp.seqK fun K12 hK12 => ?_
      refine AWp.regionC hok htab hnt ?_
      simp only [ARunC, CStep, isRoom, nilCmp, xval, callArgs, bne_self_eq_false,  pval, heff, bopVal, bopInt, lenVal, fieldsOf, ldCells, ldElem, fillCells, setCells, lookVal, mapGet, mapPut, boundOf, idxOk, lensOk, appOk, Value.cells, TK.agg, thenQ, inBlockQ, AS.put, AS.ev, startT, upd_eq, dstOk, gslot, condP, tabs, reduceIte, Nat.reduceLT, Nat.reduceEqDiff, Nat.reduceAdd, Nat.reduceLeDiff, Nat.reduceMul, Nat.reduceSub, List.getElem?_nil, List.length_nil, List.nil_append, List.append_nil, List.take_zero, List.map_nil, Option.map_none, Option.bind_none, reduceCtorEq, Int.toNat_natCast, Int.natCast_nonneg, List.not_mem_nil, retQ, resAll, resOne, resTup, wrap_succ, Int.ofNat_lt, Int.not_lt, obo1, obo2, obo3, core1, core2, core3]
      refine hK12 _ ?_
      try clear hK12 K12
      refine AWp.ret ?_
      simp only [ARunC, CStep, isRoom, nilCmp, xval, callArgs, bne_self_eq_false,  pval, heff, bopVal, bopInt, lenVal, fieldsOf, ldCells, ldElem, fillCells, setCells, lookVal, mapGet, mapPut, boundOf, idxOk, lensOk, appOk, Value.cells, TK.agg, thenQ, inBlockQ, AS.put, AS.ev, startT, upd_eq, dstOk, gslot, condP, tabs, reduceIte, Nat.reduceLT, Nat.reduceEqDiff, Nat.reduceAdd, Nat.reduceLeDiff, Nat.reduceMul, Nat.reduceSub, List.getElem?_nil, List.length_nil, List.nil_append, List.append_nil, List.take_zero, List.map_nil, Option.map_none, Option.bind_none, reduceCtorEq, Int.toNat_natCast, Int.natCast_nonneg, List.not_mem_nil, retQ, resAll, resOne, resTup, wrap_succ, Int.ofNat_lt, Int.not_lt, obo1, obo2, obo3, core1, core2, core3, Try.results113, retH]
      have e : List.take (hp.length + 1) (hp ++ [AObj.row 79 2 []]) = hp ++ [AObj.row 79 2 []] := List.take_of_length_le (by simp)
      rw [e]
      refine ⟨fun o ho => ?_, ?_, rfl⟩
      · rcases List.mem_append.1 ho with h1 | h1
        · exact hcl o h1
        · rw [List.mem_singleton.1 h1]; rfl
      · simp [AV.out, AV.outV, AV.outC, AV.closedC]
    · refine AWp.skip ?_
      refine hK9 _ ?_
      try clear hK9 K9
      refine AWp.weak (Weak.row hok 0 79 2 (by decide) rfl) ?_
      refine AWp.seqK fun K13 hK13 => ?_
      refine AWp.regionC hok htab hnt ?_
      simp only [ARunC, CStep, isRoom, nilCmp, xval, callArgs, bne_self_eq_false,  pval, heff, bopVal, bopInt, lenVal, fieldsOf, ldCells, ldElem, fillCells, setCells, lookVal, mapGet, mapPut, boundOf, idxOk, lensOk, appOk, Value.cells, TK.agg, thenQ, inBlockQ, AS.put, AS.ev, startT, upd_eq, dstOk, gslot, condP, tabs, reduceIte, Nat.reduceLT, Nat.reduceEqDiff, Nat.reduceAdd, Nat.reduceLeDiff, Nat.reduceMul, Nat.reduceSub, List.getElem?_nil, List.length_nil, List.nil_append, List.append_nil, List.take_zero, List.map_nil, Option.map_none, Option.bind_none, reduceCtorEq, Int.toNat_natCast, Int.natCast_nonneg, List.not_mem_nil, retQ, resAll, resOne, resTup, wrap_succ, Int.ofNat_lt, Int.not_lt, obo1, obo2, obo3, core1, core2, core3]
      refine hK13 _ ?_
      try clear hK13 K13
      refine AWp.ret ?_
      simp only [ARunC, CStep, isRoom, nilCmp, xval, callArgs, bne_self_eq_false,  pval, heff, bopVal, bopInt, lenVal, fieldsOf, ldCells, ldElem, fillCells, setCells, lookVal, mapGet, mapPut, boundOf, idxOk, lensOk, appOk, Value.cells, TK.agg, thenQ, inBlockQ, AS.put, AS.ev, startT, upd_eq, dstOk, gslot, condP, tabs, reduceIte, Nat.reduceLT, Nat.reduceEqDiff, Nat.reduceAdd, Nat.reduceLeDiff, Nat.reduceMul, Nat.reduceSub, List.getElem?_nil, List.length_nil, List.nil_append, List.append_nil, List.take_zero, List.map_nil, Option.map_none, Option.bind_none, reduceCtorEq, Int.toNat_natCast, Int.natCast_nonneg, List.not_mem_nil, retQ, resAll, resOne, resTup, wrap_succ, Int.ofNat_lt, Int.not_lt, obo1, obo2, obo3, core1, core2, core3, Try.results113, retH]
      have e : List.take (hp.length + 1) (hp ++ [AObj.row 79 2 []]) = hp ++ [AObj.row 79 2 []] := List.take_of_length_le (by simp)
      rw [e]
      refine ⟨fun o ho => ?_, ?_, rfl⟩
      · rcases List.mem_append.1 ho with h1 | h1
        · exact hcl o h1
        · rw [List.mem_singleton.1 h1]; rfl
      · simp [AV.out, AV.outV, AV.outC, AV.closedC]

/-- The types of some rows, one after the other. -/
def encRows (ll : List (List Ty)) : List AV := ll.map fun l => .sl (l.map Ty.enc)

theorem encRows_getD {ll : List (List Ty)} {k : Nat} (h : k < ll.length) : (encRows ll).getD k .top = .sl (ll[k].map Ty.enc) := by
  simp [encRows, List.getD, h]

theorem encRows_len (ll : List (List Ty)) : (encRows ll).length = ll.length := by simp [encRows]

theorem flat_take {ll : List (List Ty)} {k : Nat} (h : k < ll.length) : (ll.take (k + 1)).flatten = (ll.take k).flatten ++ ll[k] := by
  rw [List.take_succ_eq_append_getElem h, List.flatten_append, List.flatten_singleton]

theorem flat_take_le (ll : List (List Ty)) (k : Nat) : (ll.take k).flatten.length ≤ ll.flatten.length := by
  have h : ll.flatten = (ll.take k).flatten ++ (ll.drop k).flatten := by rw [← List.flatten_append, List.take_append_drop]
  rw [h, List.length_append]; omega

theorem enc_cells_mem {l : List Ty} {x : AV} (h : x ∈ l.map Ty.enc) : x.cells.length = 2 := by
  obtain ⟨t, _, rfl⟩ := List.mem_map.1 h
  exact t.enc_len

theorem concat_calls {ll : List (List Ty)} (h0 : ll.length ≤ 1000000000) (hn : ll.flatten.length ≤ 1000000000) :
    PureIs Try.prog 70 [.sl (encRows ll)] (.sl (ll.flatten.map Ty.enc)) := by
  refine pure_of_body tab_ok (fn := Try.f70) Try.func70 rfl (by kernel_rfl) (by simp [Try.ntmps70]) ?_
  intro Γ hok hP hnt hh0
  rw [Try.ntmps70] at hnt
  have htab : TabOk Γ.P tab := by rw [hP]; exact tab_ok
  refine AWp.seqK fun K1 hK1 => ?_
  refine AWp.regionC hok htab hnt ?_
  simp only [ARunC, CStep, isRoom, nilCmp, xval, callArgs, bne_self_eq_false,  pval, heff, bopVal, bopInt, lenVal, fieldsOf, ldCells, ldElem, fillCells, setCells, lookVal, mapGet, mapPut, boundOf, idxOk, lensOk, appOk, Value.cells, TK.agg, thenQ, inBlockQ, AS.put, AS.ev, startT, upd_eq, dstOk, gslot, condP, tabs, reduceIte, Nat.reduceLT, Nat.reduceEqDiff, Nat.reduceAdd, Nat.reduceLeDiff, Nat.reduceMul, Nat.reduceSub, List.getElem?_nil, List.length_nil, List.nil_append, List.append_nil, List.take_zero, List.map_nil, Option.map_none, Option.bind_none, reduceCtorEq, Int.toNat_natCast, Int.natCast_nonneg, List.not_mem_nil, retQ, resAll, resOne, resTup, wrap_succ, Int.ofNat_lt, Int.not_lt, obo1, obo2, obo3, core1, core2, core3]
  refine hK1 _ ?_
  try clear hK1 K1
  refine AWp.seqK fun K2 hK2 => ?_
  refine AWp.regionC hok htab hnt ?_
  simp only [ARunC, CStep, isRoom, nilCmp, xval, callArgs, bne_self_eq_false,  pval, heff, bopVal, bopInt, lenVal, fieldsOf, ldCells, ldElem, fillCells, setCells, lookVal, mapGet, mapPut, boundOf, idxOk, lensOk, appOk, Value.cells, TK.agg, thenQ, inBlockQ, AS.put, AS.ev, startT, upd_eq, dstOk, gslot, condP, tabs, reduceIte, Nat.reduceLT, Nat.reduceEqDiff, Nat.reduceAdd, Nat.reduceLeDiff, Nat.reduceMul, Nat.reduceSub, List.getElem?_nil, List.length_nil, List.nil_append, List.append_nil, List.take_zero, List.map_nil, Option.map_none, Option.bind_none, reduceCtorEq, Int.toNat_natCast, Int.natCast_nonneg, List.not_mem_nil, retQ, resAll, resOne, resTup, wrap_succ, Int.ofNat_lt, Int.not_lt, obo1, obo2, obo3, core1, core2, core3]
  refine hK2 _ ?_
  try clear hK2 K2
  refine AWp.seqK fun K3 hK3 => ?_
  refine AWp.seqK fun K4 hK4 => ?_
  refine AWp.regionC hok htab hnt ?_
  simp only [ARunC, CStep, isRoom, nilCmp, xval, callArgs, bne_self_eq_false,  pval, heff, bopVal, bopInt, lenVal, fieldsOf, ldCells, ldElem, fillCells, setCells, lookVal, mapGet, mapPut, boundOf, idxOk, lensOk, appOk, Value.cells, TK.agg, thenQ, inBlockQ, AS.put, AS.ev, startT, upd_eq, dstOk, gslot, condP, tabs, reduceIte, Nat.reduceLT, Nat.reduceEqDiff, Nat.reduceAdd, Nat.reduceLeDiff, Nat.reduceMul, Nat.reduceSub, List.getElem?_nil, List.length_nil, List.nil_append, List.append_nil, List.take_zero, List.map_nil, Option.map_none, Option.bind_none, reduceCtorEq, Int.toNat_natCast, Int.natCast_nonneg, List.not_mem_nil, retQ, resAll, resOne, resTup, wrap_succ, Int.ofNat_lt, Int.not_lt, obo1, obo2, obo3, core1, core2, core3, encRows_len]
  refine hK4 _ ?_
  try clear hK4 K4
  refine AWp.block ?_
  refine AWp.loop (fun k : Nat => k ≤ ll.length)
    (fun k => ⟨(upd (upd (upd (upd (upd (fun _ => .top) 0 (.sl (encRows ll))) 3 (.prim (.int .i64 ((ll.take k).flatten.length : Nat)))) 9 (.sl (encRows ll))) 10 (.prim (.int .i64 (ll.length : Nat)))) 11 (.prim (.int .i64 (k : Nat)))), [], ()⟩)
    (fun k => ll.length - k) 0 (Nat.zero_le _) ?_ ?_
  · refine Weak.cut hok 0 (by omega) ?_ ?_ ?_ ?_
    · repeat' (first | exact Sub.nil | refine Sub.upd ?_ ?_)
      all_goals rfl
    · repeat' (first | exact ShutF.nil | refine ShutF.upd ?_ ?_)
      all_goals first | rfl | assumption | exact CapsOk.cl (by assumption) _
    · rfl
    · simp [AObj.closed, AV.closedC]
  · intro k hk
    refine AWp.seqK fun K5 hK5 => ?_
    refine AWp.regionC hok htab hnt ?_
    simp only [ARunC, CStep, isRoom, nilCmp, xval, callArgs, bne_self_eq_false,  pval, heff, bopVal, bopInt, lenVal, fieldsOf, ldCells, ldElem, fillCells, setCells, lookVal, mapGet, mapPut, boundOf, idxOk, lensOk, appOk, Value.cells, TK.agg, thenQ, inBlockQ, AS.put, AS.ev, startT, upd_eq, dstOk, gslot, condP, tabs, reduceIte, Nat.reduceLT, Nat.reduceEqDiff, Nat.reduceAdd, Nat.reduceLeDiff, Nat.reduceMul, Nat.reduceSub, List.getElem?_nil, List.length_nil, List.nil_append, List.append_nil, List.take_zero, List.map_nil, Option.map_none, Option.bind_none, reduceCtorEq, Int.toNat_natCast, Int.natCast_nonneg, List.not_mem_nil, retQ, resAll, resOne, resTup, wrap_succ, Int.ofNat_lt, Int.not_lt, obo1, obo2, obo3, core1, core2, core3]
    refine hK5 _ ?_
    try clear hK5 K5
    refine AWp.seqK fun K6 hK6 => ?_
    refine AWp.condB (by simp only [AS.ev, upd_eq, Nat.reduceEqDiff, if_true, if_false, reduceIte, reduceCtorEq]; rfl) (fun hc => ?_) (fun hc => ?_)
    all_goals (try simp only [decide_eq_true_eq, decide_eq_false_iff_not, Int.ofNat_lt, Int.not_lt, Nat.not_lt, bne_iff_ne, bne_eq_false_iff_eq, ne_eq, Bool.not_eq_true', Bool.not_eq_false', Bool.and_eq_true, Bool.or_eq_true, Bool.and_eq_false_iff, Bool.or_eq_false_iff, beq_iff_eq, beq_eq_false_iff_ne, Bool.not_eq_eq_eq_not, Bool.not_true, Bool.not_false] at hc)  -- if t12
    · refine AWp.skip ?_
      refine hK6 _ ?_
      try clear hK6 K6
      have hg := encRows_getD hc
      have hle := flat_take_le ll (k + 1)
      have hft := flat_take hc
      have hln : (ll.take (k + 1)).flatten.length = (ll.take k).flatten.length + ll[k].length := by rw [hft, List.length_append]
      refine AWp.seqK fun K7 hK7 => ?_
      refine AWp.block ?_
      refine AWp.seqK fun K8 hK8 => ?_
      refine AWp.regionC hok htab hnt ?_
      simp only [ARunC, CStep, isRoom, nilCmp, xval, callArgs, bne_self_eq_false,  pval, heff, bopVal, bopInt, lenVal, fieldsOf, ldCells, ldElem, fillCells, setCells, lookVal, mapGet, mapPut, boundOf, idxOk, lensOk, appOk, Value.cells, TK.agg, thenQ, inBlockQ, AS.put, AS.ev, startT, upd_eq, dstOk, gslot, condP, tabs, reduceIte, Nat.reduceLT, Nat.reduceEqDiff, Nat.reduceAdd, Nat.reduceLeDiff, Nat.reduceMul, Nat.reduceSub, List.getElem?_nil, List.length_nil, List.nil_append, List.append_nil, List.take_zero, List.map_nil, Option.map_none, Option.bind_none, reduceCtorEq, Int.toNat_natCast, Int.natCast_nonneg, List.not_mem_nil, retQ, resAll, resOne, resTup, wrap_succ, Int.ofNat_lt, Int.not_lt, obo1, obo2, obo3, core1, core2, core3, hg, encRows_len]
      refine ⟨by omega, ?_⟩ -- index t13 := (indexAddr 170 t9 t11)
      refine hK8 _ ?_
      try clear hK8 K8
      refine AWp.seqK fun K9 hK9 => ?_
      have hw : IntKind.i64.wrap (((ll.take k).flatten.length : Int) + (ll[k].length : Int)) = (((ll.take (k + 1)).flatten.length : Nat) : Int) := by
        rw [IntWalk.i64_in _ (by omega)]; omega
      refine AWp.regionC hok htab hnt ?_
      simp only [ARunC, CStep, isRoom, nilCmp, xval, callArgs, bne_self_eq_false,  pval, heff, bopVal, bopInt, lenVal, fieldsOf, ldCells, ldElem, fillCells, setCells, lookVal, mapGet, mapPut, boundOf, idxOk, lensOk, appOk, Value.cells, TK.agg, thenQ, inBlockQ, AS.put, AS.ev, startT, upd_eq, dstOk, gslot, condP, tabs, reduceIte, Nat.reduceLT, Nat.reduceEqDiff, Nat.reduceAdd, Nat.reduceLeDiff, Nat.reduceMul, Nat.reduceSub, List.getElem?_nil, List.length_nil, List.nil_append, List.append_nil, List.take_zero, List.map_nil, Option.map_none, Option.bind_none, reduceCtorEq, Int.toNat_natCast, Int.natCast_nonneg, List.not_mem_nil, retQ, resAll, resOne, resTup, wrap_succ, Int.ofNat_lt, Int.not_lt, obo1, obo2, obo3, core1, core2, core3, hw]
      refine hK9 _ ?_
      try clear hK9 K9
      refine AWp.seqK fun K10 hK10 => ?_
      refine AWp.regionC hok htab hnt ?_
      simp only [ARunC, CStep, isRoom, nilCmp, xval, callArgs, bne_self_eq_false,  pval, heff, bopVal, bopInt, lenVal, fieldsOf, ldCells, ldElem, fillCells, setCells, lookVal, mapGet, mapPut, boundOf, idxOk, lensOk, appOk, Value.cells, TK.agg, thenQ, inBlockQ, AS.put, AS.ev, startT, upd_eq, dstOk, gslot, condP, tabs, reduceIte, Nat.reduceLT, Nat.reduceEqDiff, Nat.reduceAdd, Nat.reduceLeDiff, Nat.reduceMul, Nat.reduceSub, List.getElem?_nil, List.length_nil, List.nil_append, List.append_nil, List.take_zero, List.map_nil, Option.map_none, Option.bind_none, reduceCtorEq, Int.toNat_natCast, Int.natCast_nonneg, List.not_mem_nil, retQ, resAll, resOne, resTup, wrap_succ, Int.ofNat_lt, Int.not_lt, obo1, obo2, obo3, core1, core2, core3]
      refine hK10 _ ?_
      try clear hK10 K10
      refine AWp.condB (by simp only [AS.ev, upd_eq, Nat.reduceEqDiff, if_true, if_false, reduceIte, reduceCtorEq]; rfl) (fun hc => ?_) (fun hc => ?_)
      all_goals (try simp only [decide_eq_true_eq, decide_eq_false_iff_not, Int.ofNat_lt, Int.not_lt, Nat.not_lt, bne_iff_ne, bne_eq_false_iff_eq, ne_eq, Bool.not_eq_true', Bool.not_eq_false', Bool.and_eq_true, Bool.or_eq_true, Bool.and_eq_false_iff, Bool.or_eq_false_iff, beq_iff_eq, beq_eq_false_iff_ne, Bool.not_eq_eq_eq_not, Bool.not_true, Bool.not_false] at hc)  -- if t20
      · exfalso; omega
      · refine AWp.skip ?_
        refine hK7 _ ?_
        try clear hK7 K7
        have hw1 : IntKind.i64.wrap ((k : Int) + 1) = ((k + 1 : Nat) : Int) := wrap_succ (by omega)
        refine AWp.regionC hok htab hnt ?_
        simp only [ARunC, CStep, isRoom, nilCmp, xval, callArgs, bne_self_eq_false,  pval, heff, bopVal, bopInt, lenVal, fieldsOf, ldCells, ldElem, fillCells, setCells, lookVal, mapGet, mapPut, boundOf, idxOk, lensOk, appOk, Value.cells, TK.agg, thenQ, inBlockQ, AS.put, AS.ev, startT, upd_eq, dstOk, gslot, condP, tabs, reduceIte, Nat.reduceLT, Nat.reduceEqDiff, Nat.reduceAdd, Nat.reduceLeDiff, Nat.reduceMul, Nat.reduceSub, List.getElem?_nil, List.length_nil, List.nil_append, List.append_nil, List.take_zero, List.map_nil, Option.map_none, Option.bind_none, reduceCtorEq, Int.toNat_natCast, Int.natCast_nonneg, List.not_mem_nil, retQ, resAll, resOne, resTup, wrap_succ, Int.ofNat_lt, Int.not_lt, obo1, obo2, obo3, core1, core2, core3, hw1]
        refine ⟨k + 1, by omega, ?_, by omega⟩
        refine Weak.cut hok 0 (by omega) ?_ ?_ ?_ ?_
        · repeat' (first | exact Sub.nil | refine Sub.upd ?_ ?_)
          all_goals rfl
        · repeat' (first | exact ShutF.nil | refine ShutF.upd ?_ ?_)
          all_goals first | rfl | assumption | exact CapsOk.cl (by assumption) _
        · rfl
        · simp [AObj.closed, AV.closedC]
    · obtain rfl : k = ll.length := by omega
      refine AWp.exit ?_
      simp only [ARunC, CStep, isRoom, nilCmp, xval, callArgs, bne_self_eq_false,  pval, heff, bopVal, bopInt, lenVal, fieldsOf, ldCells, ldElem, fillCells, setCells, lookVal, mapGet, mapPut, boundOf, idxOk, lensOk, appOk, Value.cells, TK.agg, thenQ, inBlockQ, AS.put, AS.ev, startT, upd_eq, dstOk, gslot, condP, tabs, reduceIte, Nat.reduceLT, Nat.reduceEqDiff, Nat.reduceAdd, Nat.reduceLeDiff, Nat.reduceMul, Nat.reduceSub, List.getElem?_nil, List.length_nil, List.nil_append, List.append_nil, List.take_zero, List.map_nil, Option.map_none, Option.bind_none, reduceCtorEq, Int.toNat_natCast, Int.natCast_nonneg, List.not_mem_nil, retQ, resAll, resOne, resTup, wrap_succ, Int.ofNat_lt, Int.not_lt, obo1, obo2, obo3, core1, core2, core3]
      refine hK3 _ ?_
      try clear hK3 K3
      refine AWp.seqK fun K11 hK11 => ?_
      refine AWp.regionC hok htab hnt ?_
      simp only [ARunC, CStep, isRoom, nilCmp, xval, callArgs, bne_self_eq_false,  pval, heff, bopVal, bopInt, lenVal, fieldsOf, ldCells, ldElem, fillCells, setCells, lookVal, mapGet, mapPut, boundOf, idxOk, lensOk, appOk, Value.cells, TK.agg, thenQ, inBlockQ, AS.put, AS.ev, startT, upd_eq, dstOk, gslot, condP, tabs, reduceIte, Nat.reduceLT, Nat.reduceEqDiff, Nat.reduceAdd, Nat.reduceLeDiff, Nat.reduceMul, Nat.reduceSub, List.getElem?_nil, List.length_nil, List.nil_append, List.append_nil, List.take_zero, List.map_nil, Option.map_none, Option.bind_none, reduceCtorEq, Int.toNat_natCast, Int.natCast_nonneg, List.not_mem_nil, retQ, resAll, resOne, resTup, wrap_succ, Int.ofNat_lt, Int.not_lt, obo1, obo2, obo3, core1, core2, core3, List.take_length]
      have hcall := grow_calls (hp := []) hn (by simp)
      rw [← hP] at hcall
      refine .inr ⟨_, hcall, ?_⟩ -- t24 := CALL (value F113) [c(slice none 0 0) t23] :[34 3] ty34   after 0d
      rintro r hp' ⟨rfl, rfl⟩
      refine ARunC.sound hok htab hnt _ _ ?_
      simp only [ARunC, CStep, isRoom, nilCmp, xval, callArgs, bne_self_eq_false,  pval, heff, bopVal, bopInt, lenVal, fieldsOf, ldCells, ldElem, fillCells, setCells, lookVal, mapGet, mapPut, boundOf, idxOk, lensOk, appOk, Value.cells, TK.agg, thenQ, inBlockQ, AS.put, AS.ev, startT, upd_eq, dstOk, gslot, condP, tabs, reduceIte, Nat.reduceLT, Nat.reduceEqDiff, Nat.reduceAdd, Nat.reduceLeDiff, Nat.reduceMul, Nat.reduceSub, List.getElem?_nil, List.length_nil, List.nil_append, List.append_nil, List.take_zero, List.map_nil, Option.map_none, Option.bind_none, reduceCtorEq, Int.toNat_natCast, Int.natCast_nonneg, List.not_mem_nil, retQ, resAll, resOne, resTup, wrap_succ, Int.ofNat_lt, Int.not_lt, obo1, obo2, obo3, core1, core2, core3]
      refine hK11 _ ?_
      try clear hK11 K11
      refine AWp.seqK fun K12 hK12 => ?_
      refine AWp.seqK fun K13 hK13 => ?_
      refine AWp.regionC hok htab hnt ?_
      simp only [ARunC, CStep, isRoom, nilCmp, xval, callArgs, bne_self_eq_false,  pval, heff, bopVal, bopInt, lenVal, fieldsOf, ldCells, ldElem, fillCells, setCells, lookVal, mapGet, mapPut, boundOf, idxOk, lensOk, appOk, Value.cells, TK.agg, thenQ, inBlockQ, AS.put, AS.ev, startT, upd_eq, dstOk, gslot, condP, tabs, reduceIte, Nat.reduceLT, Nat.reduceEqDiff, Nat.reduceAdd, Nat.reduceLeDiff, Nat.reduceMul, Nat.reduceSub, List.getElem?_nil, List.length_nil, List.nil_append, List.append_nil, List.take_zero, List.map_nil, Option.map_none, Option.bind_none, reduceCtorEq, Int.toNat_natCast, Int.natCast_nonneg, List.not_mem_nil, retQ, resAll, resOne, resTup, wrap_succ, Int.ofNat_lt, Int.not_lt, obo1, obo2, obo3, core1, core2, core3, encRows_len]
      refine hK13 _ ?_
      try clear hK13 K13
      refine AWp.block ?_
      refine AWp.loop (fun k : Nat => k ≤ ll.length)
        (fun k => ⟨(upd (upd (upd (upd (fun _ => .top) 6 (.own 0 (ll.take k).flatten.length)) 25 (.sl (encRows ll))) 26 (.prim (.int .i64 (ll.length : Nat)))) 27 (.prim (.int .i64 (k : Nat)))), [.row 79 2 ((ll.take k).flatten.map Ty.enc)], ()⟩)
        (fun k => ll.length - k) 0 (Nat.zero_le _) ?_ ?_
      · refine Weak.cut hok 1 (by omega) ?_ ?_ ?_ ?_
        · repeat' (first | exact Sub.nil | refine Sub.upd ?_ ?_)
          all_goals rfl
        · repeat' (first | exact ShutF.nil | refine ShutF.upd ?_ ?_)
          all_goals first | rfl | assumption | exact CapsOk.cl (by assumption) _
        · rfl
        · simp [AObj.closed, AV.closedC]
      · intro k hk
        refine AWp.seqK fun K14 hK14 => ?_
        refine AWp.regionC hok htab hnt ?_
        simp only [ARunC, CStep, isRoom, nilCmp, xval, callArgs, bne_self_eq_false,  pval, heff, bopVal, bopInt, lenVal, fieldsOf, ldCells, ldElem, fillCells, setCells, lookVal, mapGet, mapPut, boundOf, idxOk, lensOk, appOk, Value.cells, TK.agg, thenQ, inBlockQ, AS.put, AS.ev, startT, upd_eq, dstOk, gslot, condP, tabs, reduceIte, Nat.reduceLT, Nat.reduceEqDiff, Nat.reduceAdd, Nat.reduceLeDiff, Nat.reduceMul, Nat.reduceSub, List.getElem?_nil, List.length_nil, List.nil_append, List.append_nil, List.take_zero, List.map_nil, Option.map_none, Option.bind_none, reduceCtorEq, Int.toNat_natCast, Int.natCast_nonneg, List.not_mem_nil, retQ, resAll, resOne, resTup, wrap_succ, Int.ofNat_lt, Int.not_lt, obo1, obo2, obo3, core1, core2, core3]
        refine hK14 _ ?_
        try clear hK14 K14
        refine AWp.seqK fun K15 hK15 => ?_
        refine AWp.condB (by simp only [AS.ev, upd_eq, Nat.reduceEqDiff, if_true, if_false, reduceIte, reduceCtorEq]; rfl) (fun hc => ?_) (fun hc => ?_)
        all_goals (try simp only [decide_eq_true_eq, decide_eq_false_iff_not, Int.ofNat_lt, Int.not_lt, Nat.not_lt, bne_iff_ne, bne_eq_false_iff_eq, ne_eq, Bool.not_eq_true', Bool.not_eq_false', Bool.and_eq_true, Bool.or_eq_true, Bool.and_eq_false_iff, Bool.or_eq_false_iff, beq_iff_eq, beq_eq_false_iff_ne, Bool.not_eq_eq_eq_not, Bool.not_true, Bool.not_false] at hc)  -- if t28
        · refine AWp.skip ?_
          refine hK15 _ ?_
          try clear hK15 K15
          have hg := encRows_getD hc
          have hle := flat_take_le ll (k + 1)
          have hft := flat_take hc
          have hln : (ll.take (k + 1)).flatten.length = (ll.take k).flatten.length + ll[k].length := by rw [hft, List.length_append]
          refine AWp.seqK fun K16 hK16 => ?_
          refine AWp.block ?_
          refine AWp.seqK fun K17 hK17 => ?_
          refine AWp.regionC hok htab hnt ?_
          simp only [ARunC, CStep, isRoom, nilCmp, xval, callArgs, bne_self_eq_false,  pval, heff, bopVal, bopInt, lenVal, fieldsOf, ldCells, ldElem, fillCells, setCells, lookVal, mapGet, mapPut, boundOf, idxOk, lensOk, appOk, Value.cells, TK.agg, thenQ, inBlockQ, AS.put, AS.ev, startT, upd_eq, dstOk, gslot, condP, tabs, reduceIte, Nat.reduceLT, Nat.reduceEqDiff, Nat.reduceAdd, Nat.reduceLeDiff, Nat.reduceMul, Nat.reduceSub, List.getElem?_nil, List.length_nil, List.nil_append, List.append_nil, List.take_zero, List.map_nil, Option.map_none, Option.bind_none, reduceCtorEq, Int.toNat_natCast, Int.natCast_nonneg, List.not_mem_nil, retQ, resAll, resOne, resTup, wrap_succ, Int.ofNat_lt, Int.not_lt, obo1, obo2, obo3, core1, core2, core3, hg, encRows_len]
          refine ⟨by omega, ?_⟩ -- index t29 := (indexAddr 170 t25 t27)
          refine hK17 _ ?_
          try clear hK17 K17
          refine AWp.regionC hok htab hnt ?_
          simp only [ARunC, CStep, isRoom, nilCmp, xval, callArgs, bne_self_eq_false,  pval, heff, bopVal, bopInt, lenVal, fieldsOf, ldCells, ldElem, fillCells, setCells, lookVal, mapGet, mapPut, boundOf, idxOk, lensOk, appOk, Value.cells, TK.agg, thenQ, inBlockQ, AS.put, AS.ev, startT, upd_eq, dstOk, gslot, condP, tabs, reduceIte, Nat.reduceLT, Nat.reduceEqDiff, Nat.reduceAdd, Nat.reduceLeDiff, Nat.reduceMul, Nat.reduceSub, List.getElem?_nil, List.length_nil, List.nil_append, List.append_nil, List.take_zero, List.map_nil, Option.map_none, Option.bind_none, reduceCtorEq, Int.toNat_natCast, Int.natCast_nonneg, List.not_mem_nil, retQ, resAll, resOne, resTup, wrap_succ, Int.ofNat_lt, Int.not_lt, obo1, obo2, obo3, core1, core2, core3]
          refine ⟨⟨fun x hx => enc_cells_mem hx, by simp only [maxLen]; omega, by omega⟩, ?_⟩
          refine hK16 _ ?_
          try clear hK16 K16
          have hw1 : IntKind.i64.wrap ((k : Int) + 1) = ((k + 1 : Nat) : Int) := wrap_succ (by omega)
          refine AWp.regionC hok htab hnt ?_
          simp only [ARunC, CStep, isRoom, nilCmp, xval, callArgs, bne_self_eq_false,  pval, heff, bopVal, bopInt, lenVal, fieldsOf, ldCells, ldElem, fillCells, setCells, lookVal, mapGet, mapPut, boundOf, idxOk, lensOk, appOk, Value.cells, TK.agg, thenQ, inBlockQ, AS.put, AS.ev, startT, upd_eq, dstOk, gslot, condP, tabs, reduceIte, Nat.reduceLT, Nat.reduceEqDiff, Nat.reduceAdd, Nat.reduceLeDiff, Nat.reduceMul, Nat.reduceSub, List.getElem?_nil, List.length_nil, List.nil_append, List.append_nil, List.take_zero, List.map_nil, Option.map_none, Option.bind_none, reduceCtorEq, Int.toNat_natCast, Int.natCast_nonneg, List.not_mem_nil, retQ, resAll, resOne, resTup, wrap_succ, Int.ofNat_lt, Int.not_lt, obo1, obo2, obo3, core1, core2, core3, hw1]
          refine ⟨k + 1, by omega, ?_, by omega⟩
          rw [← hln]
          refine Weak.cut hok 1 (by omega) ?_ ?_ ?_ ?_
          · repeat' (first | exact Sub.nil | refine Sub.upd ?_ ?_)
            all_goals rfl
          · repeat' (first | exact ShutF.nil | refine ShutF.upd ?_ ?_)
            all_goals first | rfl | assumption | exact CapsOk.cl (by assumption) _
          · rw [hft, List.map_append]; rfl
          · simp [AObj.closed, AV.closedC]
        · obtain rfl : k = ll.length := by omega
          refine AWp.exit ?_
          simp only [ARunC, CStep, isRoom, nilCmp, xval, callArgs, bne_self_eq_false,  pval, heff, bopVal, bopInt, lenVal, fieldsOf, ldCells, ldElem, fillCells, setCells, lookVal, mapGet, mapPut, boundOf, idxOk, lensOk, appOk, Value.cells, TK.agg, thenQ, inBlockQ, AS.put, AS.ev, startT, upd_eq, dstOk, gslot, condP, tabs, reduceIte, Nat.reduceLT, Nat.reduceEqDiff, Nat.reduceAdd, Nat.reduceLeDiff, Nat.reduceMul, Nat.reduceSub, List.getElem?_nil, List.length_nil, List.nil_append, List.append_nil, List.take_zero, List.map_nil, Option.map_none, Option.bind_none, reduceCtorEq, Int.toNat_natCast, Int.natCast_nonneg, List.not_mem_nil, retQ, resAll, resOne, resTup, wrap_succ, Int.ofNat_lt, Int.not_lt, obo1, obo2, obo3, core1, core2, core3]
          refine hK12 _ ?_
          try clear hK12 K12
          refine AWp.seqK fun K18 hK18 => ?_
          refine AWp.regionC hok htab hnt ?_
          simp only [ARunC, CStep, isRoom, nilCmp, xval, callArgs, bne_self_eq_false,  pval, heff, bopVal, bopInt, lenVal, fieldsOf, ldCells, ldElem, fillCells, setCells, lookVal, mapGet, mapPut, boundOf, idxOk, lensOk, appOk, Value.cells, TK.agg, thenQ, inBlockQ, AS.put, AS.ev, startT, upd_eq, dstOk, gslot, condP, tabs, reduceIte, Nat.reduceLT, Nat.reduceEqDiff, Nat.reduceAdd, Nat.reduceLeDiff, Nat.reduceMul, Nat.reduceSub, List.getElem?_nil, List.length_nil, List.nil_append, List.append_nil, List.take_zero, List.map_nil, Option.map_none, Option.bind_none, reduceCtorEq, Int.toNat_natCast, Int.natCast_nonneg, List.not_mem_nil, retQ, resAll, resOne, resTup, wrap_succ, Int.ofNat_lt, Int.not_lt, obo1, obo2, obo3, core1, core2, core3]
          refine hK18 _ ?_
          try clear hK18 K18
          refine AWp.ret ?_
          simp only [ARunC, CStep, isRoom, nilCmp, xval, callArgs, bne_self_eq_false,  pval, heff, bopVal, bopInt, lenVal, fieldsOf, ldCells, ldElem, fillCells, setCells, lookVal, mapGet, mapPut, boundOf, idxOk, lensOk, appOk, Value.cells, TK.agg, thenQ, inBlockQ, AS.put, AS.ev, startT, upd_eq, dstOk, gslot, condP, tabs, reduceIte, Nat.reduceLT, Nat.reduceEqDiff, Nat.reduceAdd, Nat.reduceLeDiff, Nat.reduceMul, Nat.reduceSub, List.getElem?_nil, List.length_nil, List.nil_append, List.append_nil, List.take_zero, List.map_nil, Option.map_none, Option.bind_none, reduceCtorEq, Int.toNat_natCast, Int.natCast_nonneg, List.not_mem_nil, retQ, resAll, resOne, resTup, wrap_succ, Int.ofNat_lt, Int.not_lt, obo1, obo2, obo3, core1, core2, core3, Try.results70, List.take_length]

end Go.Proofs.Ytfbncddnakaaiaa
