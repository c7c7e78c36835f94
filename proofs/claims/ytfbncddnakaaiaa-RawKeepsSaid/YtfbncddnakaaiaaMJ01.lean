/- From the walk's contracts to the given statements: what the arguments read as; what a law that returns true leaves. -/
import Derived.Test.YtfbncddnakaaiaaMPA
import Derived.Test.YtfbncddnakaaiaaRows
import Derived.WalkKit
import Derived.ProofKit
import Derived.OpenShut
import Derived.JoinedCond
namespace Go.Proofs.Ytfbncddnakaaiaa
open Go Go.ChangeShapes Go.WideShapes Go.ChangeAt Go.RowKit
set_option linter.unusedSimpArgs false
set_option linter.unusedVariables false

variable {H : Type} {enc : TypeId × Value → H} {P : Program} {W W' : World}

theorem own : ownKnob Try.prog.godebug = none := by kernel_rfl
theorem laidOut : laidOutB Try.prog = true := by kernel_rfl

theorem Same.below (h : Same W W') : Below W.heap.size W W' := ⟨h.os, h.tape, h.output, h.size, h.block⟩

theorem trodAll_stays (hl : laidOutB P = true) (hb : Below W.heap.size W W') : ∀ {ts : List TypeId} {vs : List Value} {ds : List (DataW H)} {ps : List MemPlace},
    (∀ t ∈ ts, P.readableRec t = true ∧ t < P.types.size) → DataW.TrodAll enc P W 0 (fun _ => true) true ts vs ds ps → (∀ x ∈ ps, x.block < W.heap.size) →
    DataW.TrodAll enc P W' 0 (fun b => decide (b < W.heap.size)) true ts vs ds ps
  | [], [], [], _, _, h, _ => h
  | t :: ts, v :: vs, d :: ds, ps, hr, h, hlt => by
    obtain ⟨p, q, h1, h2, rfl⟩ := h
    have ht := hr t (by simp)
    exact ⟨p, q, Below.trod hl ht.1 ht.2 h1 hb fun x hx => hlt x (by simp [hx]), trodAll_stays hl hb (fun u hu => hr u (by simp [hu])) h2 fun x hx => hlt x (by simp [hx]), rfl⟩
  | [], [], _ :: _, _, _, h, _ => h.elim
  | [], _ :: _, _, _, _, h, _ => h.elim
  | _ :: _, [], _, _, _, h, _ => h.elim
  | _ :: _, _ :: _, [], _, _, h, _ => h.elim

/-- What a law leaves that returns true and turns nothing. -/
theorem post_true {s : ChangeSpec} {f : Func} {args : Array Value} {ds gs : List (DataW H)} {before : List MemPlace} {tb : TypeId}
    (hl : laidOutB P = true) (hv : s.vars = []) (hub : P.underlying tb = some .bool) (ht : f.resultTypes = #[tb])
    (hr : ∀ t ∈ f.params.toList, P.readableRec t = true ∧ t < P.types.size)
    (hW : DataW.Whole enc P f.params.toList s.vars false W args.toList ds gs before)
    (h1 : (s.fn H (ds ++ gs)).results = [.lit (.bool true)]) (h2 : (s.fn H (ds ++ gs)).args = ds) (h3 : (s.fn H (ds ++ gs)).vars = [])
    (hs : Same W W') : s.post enc P f false true false false W args (.bool true) W' := by
  have hW' := hW
  obtain ⟨p, q, hA, hV, rfl, _, _⟩ := hW
  rw [hv] at hV
  obtain ⟨rfl, rfl⟩ := trodVars_none hV
  refine ⟨_, _, _, [], p, [], hW', ?_, ?_, ?_, hs.below.frame _, fun h => by cases h⟩
  · rw [h1, ht]
    exact trodAll_cons_mk (shut_bool hub true) trodAll_mk0
  · rw [h2]
    exact trodAll_stays hl hs.below hr hA fun x hx => hW'.lt x (by simp [hx])
  · rw [h3, hv]; rfl

/-- The contract that the form asks, from a contract over data. -/
theorem calls_true {f : FuncId} {fn : Func} {s : ChangeSpec} {args : Array Value} {ds gs : List (DataW H)} {before : List MemPlace} {tb : TypeId} {xs : List AV}
    (hl : laidOutB P = true) (hv : s.vars = []) (hub : P.underlying tb = some .bool) (ht : fn.resultTypes = #[tb])
    (hr : ∀ t ∈ fn.params.toList, P.readableRec t = true ∧ t < P.types.size)
    (hW : DataW.Whole enc P fn.params.toList s.vars false W args.toList ds gs before)
    (h1 : (s.fn H (ds ++ gs)).results = [.lit (.bool true)]) (h2 : (s.fn H (ds ++ gs)).args = ds) (h3 : (s.fn H (ds ++ gs)).vars = [])
    (hc : PureIs P f xs (nB true)) (hx : RepL W (fun b _ => b < W.heap.size) [] [] xs args.toList) :
    Calls P f args W fun e W' => ∃ v, e = .returned v ∧ s.post enc P fn false true false false W args v W' := by
  have := callsIn_wide.1 (hc.2 W (fun b _ => b < W.heap.size) args.toList (fun _ _ h => h) hx)
  rw [Array.toArray_toList] at this
  refine this.mono fun e W' ⟨v, r, he, hr', hs, hrep⟩ => ⟨v, he, ?_⟩
  subst hr'
  obtain rfl := hrep.prim_inv
  exact post_true hl hv hub ht hr hW h1 h2 h3 hs

/-- A list of ints that is an argument. -/
theorem read_ints {P : Program} {t e : TypeId} (ht : P.underlying t = some (.slice e)) (he : P.underlying e = some (.int .i64)) (hc : P.cellsOf e = 1) {W : World} {base : Nat} {v : Value} {d : DataW H} {p : List MemPlace} (hv : Value.okWide P W .any base t v) (h : DataW.Trod enc P W 0 (fun _ => true) true t v d p)
    (hlt : ∀ x ∈ p, x.block < W.heap.size) : ∃ l : List Int, Rep W (fun b _ => b < W.heap.size) [] [] (.sl (encInts l)) v := by
  have hok : Cell.ok P W .any base t v := by simpa [Value.okWide, Cell.okWide, ht] using hv
  obtain ⟨a, len, cap, rfl⟩ := okWide_slice ht hv
  obtain ⟨fuel, hf⟩ := h
  rcases open_ints ht he hc hf with ⟨hcs, _⟩ | ⟨a', len', cap', zs, hcs, _, hl, hm, hz, hx, hcell, hwz⟩
  · simp [Value.cells] at hcs
    obtain ⟨rfl, rfl, rfl⟩ := hcs
    exact ⟨[], .sl0 none⟩
  · simp [Value.cells] at hcs
    obtain ⟨rfl, rfl, rfl⟩ := hcs
    simp only [Prod.mk.injEq] at hx
    obtain ⟨rfl, rfl⟩ := hx
    simp only [if_true] at hz
    obtain ⟨b, off, spot⟩ := a'
    simp only [Cell.ok, ht, World.has] at hok
    obtain rfl : spot = none := hok.2.2.2.1
    have el : (encInts (zs.take len)).length = len := by rw [encInts_len, List.length_take]; omega
    have key : ∀ (i : Nat) (e : AV) (j : Nat) (x : AV), (encInts (zs.take len))[i]? = some e → e.cells[j]? = some x → j = 0 ∧ i < len ∧ x = nI (zs.getD i 0) := by
      intro i e j x hi hj
      have hil : i < len := by rw [← el]; exact (List.getElem?_eq_some_iff.1 hi).1
      simp only [encInts, List.getElem?_map, List.getElem?_take, if_pos hil] at hi
      rw [Option.map_eq_some_iff] at hi
      obtain ⟨z, hz1, rfl⟩ := hi
      cases j with
      | zero =>
        simp only [nI, AV.cells, List.getElem?_cons_zero, Option.some.injEq] at hj
        subst hj
        exact ⟨rfl, hil, by simp [nI, List.getD, hz1]⟩
      | succ j => simp [nI, AV.cells] at hj
    refine ⟨zs.take len, ?_⟩
    have := Rep.sl (w := W) (F := fun b _ => b < W.heap.size) (η := []) (hp := []) 1 (encInts (zs.take len)) b off cap (fun i _ => .int .i64 (zs.getD i 0)) (by rw [el]; exact hl) hm
      (fun i e hi => by
        have hi' := List.mem_of_getElem? hi
        exact encInts_cells _ hi')
      (fun i e j x hi hj => by
        obtain ⟨rfl, hil, rfl⟩ := key i e j x hi hj
        refine ⟨?_, ?_, rfl⟩
        · have := hcell i (by omega)
          rw [add_plain] at this
          simpa using this
        · exact hlt (.cell b (off + i)) (MemPlace.mem_row.2 ⟨i, by omega, rfl⟩))
      (fun i e j x hi hj => by
        obtain ⟨rfl, hil, rfl⟩ := key i e j x hi hj
        exact .prim _)
    rw [el] at this
    exact this

end Go.Proofs.Ytfbncddnakaaiaa
