/- An abstract layer over the model's walk, its thirteenth part: the operations that turn what the call owns; for every program. -/
import Derived.Test.YtfbncddnakaaiaaFilL
namespace Go.Proofs.Ytfbncddnakaaiaa
open Go
set_option linter.unusedSimpArgs false
set_option linter.unusedVariables false

variable {G : Type} {Γ : Env G} {s : AS G} {a : Act} {w w' : World} {η : List Value} {hp : List AObj} {F : Nat → Nat → Prop} {P : Program}

/-- What an operation does that turns objects of the call's own. -/
def ERun (Γ : Env G) (o : Oper) (s : AS G) (r : AV) (hp' : List AObj) : Prop :=
  ∀ a w η, Rel Γ s a w η → ∃ v w' η', ((execOp a.eval o).run Γ.P w = .ok (.value v) w' ∨ (execOp a.eval o).run Γ.P w = .ok .skip w' ∧ v = undef) ∧
    Rel Γ { s with hp := hp' } a w' η' ∧ Rep w' (Fok Γ w' η' hp') η' hp' r v

/-- What is known of the elements of an append. -/
def appOk (d : TD) (n : Nat) (els els2 : List AV) : Prop :=
  (∀ x : AV, x ∈ els → x.cells.length = d.size) ∧ (∀ x : AV, x ∈ els2 → x.cells.length = d.size) ∧ n ≤ maxLen ∧ n * d.bytes ≤ 140737488355328

def mapPut : List (Int × Value) → Int → Value → List (Int × Value)
  | [], a, v => [(a, v)]
  | (k, u) :: r, a, v => if a = k then (k, v) :: r else (k, u) :: mapPut r a v

def heff (tab : Nat → Option TD) (hp : List AObj) (ρ : Operand → AV) : Op → Option (Prop × AV × List AObj)
  | .alloc T => (match tab T with
    | some d => some (True, .ptr hp.length 0, hp ++ [.box (d.zero.cells.toList.map .prim)])
    | none => none)
  | .box _ x => if (ρ x).stor = true then some (True, .ptr hp.length 0, hp ++ [.box (ρ x).cells]) else none
  | .store T p x => (match tab T, ρ p with
    | some d, .ptr r o => (match hp[r]? with
      | some (.box cs) => if (ρ x).stor = true then some ((ρ x).cells.length = d.size ∧ o + d.size ≤ cs.length, .top, hp.set r (.box (setCells cs o (ρ x).cells))) else none
      | _ => none)
    | _, _ => none)
  | .makeSlice T l c => (match tab T with
    | some d => (match d.kind with
      | .slc e => (match tab e, ρ l, ρ c with
        | some d', .prim (.int _ 0), .prim (.int _ n) => some (0 ≤ n ∧ n ≤ 9223372036854775807 ∧ (d'.bytes : Int) * n ≤ 281474976710656 ∧ 0 < d'.size, .own hp.length 0, hp ++ [.row e d'.size []])
        | _, _, _ => none)
      | _ => none)
    | none => none)
  | .makeMap T none => (match tab T with
    | some d => (match d.kind with
      | .mapk _ _ => some (True, .mp hp.length, hp ++ [.mapo []])
      | _ => none)
    | none => none)
  | .mapUpdate T m k x => (match tab T, ρ m, ρ k, ρ x with
    | some d, .mp r, .prim (.int .i64 a), .prim v => (match d.kind, hp[r]? with
      | .mapk kt _, some (.mapo es) => (match tab kt with
        | some dk => (match dk.kind with
          | .int _ => some (True, .top, hp.set r (.mapo (mapPut es a v)))
          | _ => none)
        | none => none)
      | _, _ => none)
    | _, _, _, _ => none)
  | .call c => (match c.callee, c.args.toList, c.argTypes.toList with
    | .builtin .append, [b, x], [T, T'] => if T = T' then (match tab T with
      | some d => (match d.kind with
        | .slc e => (match tab e, (ρ x).asSl hp with
          | some d', some els2 => (match ρ b with
            | .prim (.slice none 0 0) => some (0 < d'.size ∧ appOk d' els2.length [] els2, .own hp.length els2.length, hp ++ [.row e d'.size els2])
            | .clip els => some (0 < d'.size ∧ (els2 = [] → els = []) ∧ appOk d' (els.length + els2.length) els els2, .own hp.length (els.length + els2.length), hp ++ [.row e d'.size (els ++ els2)])
            | .own r n => (match hp[r]? with
              | some (.row e' size els) => if e' = e ∧ size = d'.size ∧ n = els.length then some (appOk d' (els.length + els2.length) [] els2, .own r (els.length + els2.length), hp.set r (.row e size (els ++ els2))) else none
              | _ => none)
            | _ => none)
          | _, _ => none)
        | _ => none)
      | none => none) else none
    | _, _, _ => none)
  | _ => none

theorem erun_box (hok : Γ.Ok) {o : Oper} {T : Nat} {x : Operand} (ho : o.op = .box T x) (hs : (s.ev x).stor = true) : ERun Γ o s (.ptr s.hp.length 0) (s.hp ++ [.box (s.ev x).cells]) := by
  intro a w η hr
  have hrc := (hr.ev x).repC hs
  have hsm := Same.alloc w (.cells (a.eval x).cells T)
  have he := ext_new (Γ := Γ) (o := .box (s.ev x).cells) (v := .pointer (some ⟨w.heap.size, 0, none⟩)) hr.heap.len hsm (fun b hb => by simp only [blk, Option.some.injEq] at hb; omega)
  refine ⟨.pointer (some ⟨w.heap.size, 0, none⟩), _, η ++ [.pointer (some ⟨w.heap.size, 0, none⟩)], .inl (by simp [execOp, ho, Instr.box, newVar, newRow]; rfl), ?_, ?_⟩
  · exact hr.add hok hsm (fun b hb => by simp only [blk, Option.some.injEq] at hb; omega) ⟨w.heap.size, (a.eval x).cells, T, rfl, heap_alloc_new w _, by simpa using hrc.1, fun j y u hy hu => by
      have := hrc.2 j y u hy (by simpa using hu)
      exact ⟨this.1.ext he, this.2⟩⟩
  · exact .ptr _ 0 w.heap.size (by rw [← hr.heap.len]; simp)

theorem erun_alloc (hok : Γ.Ok) {tab : Nat → Option TD} (htab : TabOk Γ.P tab) {o : Oper} {T : Nat} (ho : o.op = .alloc T) {d : TD} (hd : tab T = some d) : ERun Γ o s (.ptr s.hp.length 0) (s.hp ++ [.box (d.zero.cells.toList.map .prim)]) := by
  intro a w η hr
  have hty := htab T d hd
  have hsm := Same.alloc w (.cells d.zero.cells T)
  refine ⟨.pointer (some ⟨w.heap.size, 0, none⟩), _, η ++ [.pointer (some ⟨w.heap.size, 0, none⟩)], .inl (by simp [execOp, ho, Instr.alloc, hty.run_zero, newVar, newRow]; rfl), ?_, ?_⟩
  · refine hr.add hok hsm (fun b hb => by simp only [blk, Option.some.injEq] at hb; omega) ⟨w.heap.size, d.zero.cells, T, rfl, heap_alloc_new w _, by simp, fun j y u hy hu => ?_⟩
    exact (hty.repZero (w := _) (F := _) (η := _) (hp := _)).2 j y u hy (by simpa using hu)
  · exact .ptr _ 0 w.heap.size (by rw [← hr.heap.len]; simp)

/-- A run of cells is stored into a box. -/
theorem store_cells (hok : Γ.Ok) {b r : Nat} : ∀ (us : List Value) (xs : List AV) (k off : Nat) (cs : List AV) (s : AS G) (w : World), Rel Γ s a w η → s.hp[r]? = some (.box cs) → η[r]? = some (.pointer (some ⟨b, 0, none⟩)) →
    RepC w (Fok Γ w η s.hp) η s.hp xs us → off + k + xs.length ≤ cs.length →
    ∃ w', (storeCells ⟨b, off, none⟩ us k).run Γ.P w = .ok () w' ∧ Rel Γ { s with hp := s.hp.set r (.box (setCells cs (off + k) xs)) } a w' η := by
  intro us
  induction us with
  | nil =>
    intro xs k off cs s w hr hb hη hrc hle
    have : xs = [] := List.eq_nil_of_length_eq_zero (by have := hrc.1; simpa using this.symm)
    subst this
    refine ⟨w, rfl, ?_⟩
    have : s.hp.set r (.box (setCells cs (off + k) [])) = s.hp := by
      apply List.ext_getElem?
      intro i
      by_cases hi : r = i
      · subst hi; rw [getElem?_set_same hb, hb]; rfl
      · rw [getElem?_set_ne hi]
    rw [this]; exact hr
  | cons u us ih =>
    intro xs k off cs s w hr hb hη hrc hle
    cases xs with
    | nil => have := hrc.1; simp at this
    | cons x xs =>
      have h0 := hrc.2 0 x u rfl rfl
      simp only [List.length_cons] at hle
      obtain ⟨h1, h2, u', h3⟩ := hr.write hok (off := off + k) hb hη (by omega) h0.2 h0.1
      have hext : RepC (w.setCell ⟨b, off + k, none⟩ u) (Fok Γ (w.setCell ⟨b, off + k, none⟩ u) η (s.hp.set r (.box (cs.set (off + k) x)))) η (s.hp.set r (.box (cs.set (off + k) x))) xs us := by
        refine ⟨by simpa using hrc.1, fun j y z hy hz => ?_⟩
        have h4 := hrc.2 (j + 1) y z (by simpa using hy) (by simpa using hz)
        refine ⟨?_, h4.2⟩
        refine h4.1.ext ?_
        refine ⟨fun b' o v hf hc => ?_, fun b' es c hf hc => ?_, fun b' o hf => ?_, fun _ _ h => h, fun _ _ h => h, fun r' n v ho => ?_⟩
        · have hne : b' ≠ b := by
            intro e
            subst e
            obtain ⟨o1, q1, q2⟩ := (objF_iff b' o).1 hf.2.2.2 r _ hη rfl
            rw [hb] at q1
            obtain rfl := Option.some.inj q1
            exact q2
          rw [World.cell?_of_block (Go.heap_setCell_other w _ b' u (by simpa using hne))]
          exact hc
        · have hne : b' ≠ b := by
            intro e
            subst e
            obtain ⟨o1, q1, q2⟩ := (objF_iff b' 0).1 hf.2.2.2 r _ hη rfl
            rw [hb] at q1
            obtain rfl := Option.some.inj q1
            exact q2
          rw [Go.heap_setCell_other w _ b' u (by simpa using hne)]
          exact hc
        · refine ⟨hf.1, by simpa using hf.2.1, hf.2.2.1, (objF_iff b' o).2 fun r' v hv hbv => ?_⟩
          obtain ⟨o1, q1, q2⟩ := (objF_iff b' o).1 hf.2.2.2 r' v hv hbv
          by_cases hrr : r = r'
          · subst hrr
            rw [hb] at q1
            obtain rfl := Option.some.inj q1
            exact q2.elim
          · exact ⟨o1, by rw [getElem?_set_ne hrr]; exact q1, q2⟩
        · unfold OwnOk at ho ⊢
          by_cases hrr : r = r'
          · subst hrr; rw [hb] at ho; exact ho.elim
          · rw [getElem?_set_ne hrr]; exact ho
      obtain ⟨w', e1, e2⟩ := ih xs (k + 1) off (cs.set (off + k) x) { s with hp := s.hp.set r (.box (cs.set (off + k) x)) } (w.setCell ⟨b, off + k, none⟩ u) h1 (getElem?_set_same hb) hη hext (by simp; omega)
      refine ⟨w', ?_, ?_⟩
      · simp only [storeCells, Sem.run_bind, Addr.add_lit]
        rw [run_store _ _ _ _ _ h0.2, h3]
        simp only [h2, Bool.false_eq_true, if_false, Result.andThen_ok]
        exact e1
      · have : (s.hp.set r (.box (cs.set (off + k) x))).set r (.box (setCells (cs.set (off + k) x) (off + (k + 1)) xs)) = s.hp.set r (.box (setCells cs (off + k) (x :: xs))) := by
          rw [List.set_set]; rfl
        simp only [this] at e2
        exact e2

theorem erun_store (hok : Γ.Ok) {tab : Nat → Option TD} (htab : TabOk Γ.P tab) {o : Oper} {T r off : Nat} {p x : Operand} (ho : o.op = .store T p x) {d : TD} (hd : tab T = some d) (hp : s.ev p = .ptr r off) {cs : List AV} (hb : s.hp[r]? = some (.box cs))
    (hs : (s.ev x).stor = true) (hl : (s.ev x).cells.length = d.size) (hle : off + d.size ≤ cs.length) : ERun Γ o s .top (s.hp.set r (.box (setCells cs off (s.ev x).cells))) := by
  intro a w η hr
  have hpr := hr.ev p
  rw [hp] at hpr
  have hxr := (hr.ev x).repC hs
  generalize hv : a.eval p = v at hpr
  cases hpr with
  | ptr _ _ b hη =>
    obtain ⟨w', e1, e2⟩ := store_cells hok (a.eval x).cells.toList (s.ev x).cells 0 off cs s w hr hb hη hxr (by omega)
    refine ⟨undef, w', η, .inr ⟨?_, rfl⟩, by simpa using e2, .top _⟩
    have hsz : (a.eval x).cells.size = d.size := by rw [← hl, ← hxr.1]; simp
    simp only [execOp, ho, hv, Instr.storeAt, Instr.sureAddr, Sem.run_bind, Sem.run_pure, Result.andThen_ok, storeVar, (htab T d hd).run_sizeOf, hsz, ne_eq, not_true_eq_false, if_false, e1]

theorem erun_makeSlice (hok : Γ.Ok) {tab : Nat → Option TD} (htab : TabOk Γ.P tab) {o : Oper} {T e : Nat} {l c : Operand} (ho : o.op = .makeSlice T l c) {d d' : TD} (hd : tab T = some d) (hk : d.kind = .slc e) (hd' : tab e = some d')
    {k k' : IntKind} {n : Int} (hl : s.ev l = .prim (.int k 0)) (hc : s.ev c = .prim (.int k' n)) (h0 : 0 ≤ n) (h63 : n ≤ 9223372036854775807) (h48 : (d'.bytes : Int) * n ≤ 281474976710656) (hsz : 0 < d'.size) :
    ERun Γ o s (.own s.hp.length 0) (s.hp ++ [.row e d'.size []]) := by
  intro a w η hr
  have hl' := hr.ev l
  have hc' := hr.ev c
  rw [hl] at hl'; rw [hc] at hc'
  have hty := htab e d' hd'
  obtain ⟨i, hi1, hi2, hi3, hi4⟩ := hty.info
  have hu : Γ.P.underlying T = some (.slice e) := by
    obtain ⟨u, q2, q3⟩ := (htab T d hd).und
    rw [hk] at q3
    rw [q2]; exact congrArg some q3
  have hw : IntKind.i64.wrap n = n := by
    simp only [IntKind.wrap, IntKind.bits, IntKind.signed]; simp; omega
  have hw0 : IntKind.i64.wrap 0 = 0 := by decide
  have hc1 : ((decide (n < 0) || decide ((d'.bytes : Int) * n > 2 ^ 48)) || decide ((0 : Int) < 0) || decide ((0 : Int) > n)) = false := by
    simp; omega
  have hrun : ∃ arr : Array Value, arr.size = n.toNat * d'.size ∧ (execOp a.eval o).run Γ.P w = .ok (.value (.slice (some ⟨w.heap.size, 0, none⟩) 0 n.toNat)) (w.alloc (.cells arr e)) := by
    by_cases hz : n.toNat * d'.size = 0
    · refine ⟨(Array.range (n.toNat * d'.size)).map ((#[] : Array Value)[· % (#[] : Array Value).size]!), by simp, ?_⟩
      simp only [execOp, ho, Instr.makeSlice, Sem.run_bind, run_underlying hu, Result.andThen_ok, asInt, hl'.prim_inv, hc'.prim_inv, asIntOf, Sem.run_pure, typeInfo, run_program, hi1, hi3, hw, hw0, hc1, Bool.false_eq_true, if_false, run_askRoom, sizeOf, hi2, if_pos hz, newRow, run_newObj]
      rfl
    · refine ⟨(Array.range (n.toNat * d'.size)).map (d'.zero.cells[· % d'.zero.cells.size]!), by simp, ?_⟩
      simp only [execOp, ho, Instr.makeSlice, Sem.run_bind, run_underlying hu, Result.andThen_ok, asInt, hl'.prim_inv, hc'.prim_inv, asIntOf, Sem.run_pure, typeInfo, run_program, hi1, hi3, hw, hw0, hc1, Bool.false_eq_true, if_false, run_askRoom, sizeOf, hi2, if_neg hz, hty.run_zero, newRow, run_newObj]
      rfl
  obtain ⟨arr, hsize, hrun⟩ := hrun
  have hsm := Same.alloc w (.cells arr e)
  refine ⟨_, _, η ++ [.slice (some ⟨w.heap.size, 0, none⟩) 0 n.toNat], .inl hrun, ?_, ?_⟩
  · refine hr.add hok hsm (fun b hb => ?_) ⟨hsz, [], ⟨by simp, ?_⟩, fun i el hi => by simp at hi⟩
    · simp only [blk] at hb
      split at hb
      · cases hb
      · obtain rfl := Option.some.inj hb; exact Nat.le_refl _
    · by_cases hn : n.toNat = 0
      · exact .inl ⟨rfl, .inr ⟨_, by rw [hn]⟩⟩
      · exact .inr ⟨w.heap.size, n.toNat, arr, rfl, by omega, heap_alloc_new w _, Nat.zero_le _, by simp only [maxLen]; omega, hsize, by simp⟩
  · refine .own _ 0 _ rfl ?_
    unfold OwnOk
    have : (s.hp ++ [AObj.row e d'.size []])[s.hp.length]? = some (.row e d'.size []) := by simp
    rw [this]
    exact ⟨Nat.le_refl _, fun _ => by rw [← hr.heap.len]; simp⟩

theorem erun_append (hok : Γ.Ok) {tab : Nat → Option TD} (htab : TabOk Γ.P tab) {o : Oper} {c : Call} (ho : o.op = .call c) (hb : c.callee = .builtin .append) {b x : Operand} (hl : c.args.toList = [b, x]) {T e : Nat} (hT : c.argTypes.toList = [T, T]) {d d' : TD} (hd : tab T = some d)
    (hk : d.kind = .slc e) (hd' : tab e = some d') {els2 : List AV} (hx : (s.ev x).asSl s.hp = some els2) {r : AV} {hp' : List AObj}
    (h : (∃ els, (s.ev b = .prim (.slice none 0 0) ∧ els = [] ∨ s.ev b = .clip els) ∧ 0 < d'.size ∧ (els2 = [] → els = []) ∧ appOk d' (els.length + els2.length) els els2 ∧ r = .own s.hp.length (els.length + els2.length) ∧ hp' = s.hp ++ [.row e d'.size (els ++ els2)]) ∨
      (∃ n els, s.ev b = .own n els.length ∧ s.hp[n]? = some (.row e d'.size els) ∧ appOk d' (els.length + els2.length) [] els2 ∧ r = .own n (els.length + els2.length) ∧ hp' = s.hp.set n (.row e d'.size (els ++ els2)))) : ERun Γ o s r hp' := by
  intro a w η hr
  have hu : Γ.P.underlying T = some (.slice e) := by
    obtain ⟨u, q2, q3⟩ := (htab T d hd).und
    rw [hk] at q3
    rw [q2]; exact congrArg some q3
  have hxr := asSl_rep hr.heap hr.mine (hr.ev x) hx
  have hbr := hr.ev b
  have hargT : c.argTypes = #[T, T] := by rw [← Array.toArray_toList (xs := c.argTypes), hT]
  have hargs : c.args = #[b, x] := by rw [← Array.toArray_toList (xs := c.args), hl]
  have hexec : ∀ v w', (Builtin.append_ #[T, T] o.type #[a.eval b, a.eval x]).run Γ.P w = .ok v w' → (execOp a.eval o).run Γ.P w = .ok (.value v) w' := by
    intro v w' hrun
    simp only [execOp, ho, resolve, hb, Sem.run_bind, Sem.run_pure, Result.andThen_ok, invoke, builtin, hargT, hargs, List.map_toArray, List.map_cons, List.map_nil, hrun]
  rcases h with ⟨els, hbv, hsz, hne, happ, rfl, rfl⟩ | ⟨n, els, hbv, hrow, happ, rfl, rfl⟩
  · have hbase : a.eval b = .slice none 0 0 ∧ els = [] ∨ Rep w (Fok Γ w η s.hp) η s.hp (.clip els) (a.eval b) := by
      rcases hbv with ⟨h1, h2⟩ | h1
      · rw [h1] at hbr; exact .inl ⟨hbr.prim_inv, h2⟩
      · rw [h1] at hbr; exact .inr hbr
    obtain ⟨v', w', h1, h2, h3⟩ := append_new hok hr (ty := o.type) hu (htab e d' hd') hsz hbase hxr happ.1 happ.2.1 hne happ.2.2.1 happ.2.2.2
    refine ⟨v', w', η ++ [v'], .inl (hexec _ _ h1), h2, .own _ _ _ h3 ?_⟩
    unfold OwnOk
    have : (s.hp ++ [AObj.row e d'.size (els ++ els2)])[s.hp.length]? = some (.row e d'.size (els ++ els2)) := by simp
    rw [this]
    exact ⟨by simp, fun _ => by rw [← hr.heap.len]; simp⟩
  · rw [hbv] at hbr
    have hown : OwnOk η s.hp n els.length (a.eval b) := by cases hbr; assumption
    obtain ⟨v', w', η', h1, h2, h3, h4⟩ := append_own hok hr (ty := o.type) hu (htab e d' hd') hrow hown hxr happ.2.1 happ.2.2.1 happ.2.2.2
    refine ⟨v', w', η', .inl (hexec _ _ h1), h2, .own _ _ _ h3 ?_⟩
    unfold OwnOk
    rw [getElem?_set_same hrow]
    exact ⟨by simp, fun _ => h4⟩

theorem erun_makeMap (hok : Γ.Ok) {o : Oper} {T : Nat} (ho : o.op = .makeMap T none) : ERun Γ o s (.mp s.hp.length) (s.hp ++ [.mapo []]) := by
  intro a w η hr
  have hsm := Same.alloc w (.map #[] 0)
  refine ⟨.map (some w.heap.size), _, η ++ [.map (some w.heap.size)], .inl (by simp [execOp, ho, Instr.makeMap]; rfl), ?_, ?_⟩
  · exact hr.add hok hsm (fun b hb => by simp only [blk, Option.some.injEq] at hb; omega) ⟨w.heap.size, #[], 0, rfl, World.alloc_heap_new w _, rfl⟩
  · exact .mp _ w.heap.size (by rw [← hr.heap.len]; simp)

theorem put_imap {k : IntKind} {a : Int} {v : Value} : ∀ (es : List MapEntry) (l : List (Int × Value)) (i : Nat), (es.map fun e => (e.key, e.val)) = imap l →
    (∃ j u, Instr.findNow (.int k) (.int .i64 a) es i = some (some (i + j, u)) ∧ (es[j]?).map (·.key) = some (.int .i64 a) ∧ ((es.modify j fun e => { e with key := .int .i64 a, val := v }).map fun e => (e.key, e.val)) = imap (mapPut l a v)) ∨
      (Instr.findNow (.int k) (.int .i64 a) es i = some none ∧ imap (mapPut l a v) = (es.map fun e => (e.key, e.val)) ++ [(.int .i64 a, v)]) := by
  intro es
  induction es with
  | nil =>
    intro l i h
    cases l with
    | nil => exact .inr ⟨rfl, rfl⟩
    | cons p l => simp [imap] at h
  | cons e es ih =>
    intro l i h
    cases l with
    | nil => simp [imap] at h
    | cons p l =>
      obtain ⟨key, u⟩ := p
      simp only [List.map_cons, imap, List.cons.injEq, Prod.mk.injEq] at h
      obtain ⟨⟨h1, h2⟩, h3⟩ := h
      simp only [Instr.findNow, h1, Instr.sameNow, if_true, mapPut]
      by_cases hak : a = key
      · subst hak
        simp only [beq_self_eq_true, if_true]
        refine .inl ⟨0, e.val, rfl, by simp [h1], ?_⟩
        simp only [List.modify_zero_cons, List.map_cons, imap]
        rw [h3]
      · have : (a == key) = false := by simpa using hak
        simp only [this, if_neg hak]
        rcases ih l (i + 1) h3 with ⟨j, u', g1, g2, g3⟩ | ⟨g1, g2⟩
        · refine .inl ⟨j + 1, u', by rw [g1]; congr 3; omega, by simpa using g2, ?_⟩
          simp only [List.modify_succ_cons, List.map_cons, imap, h1, h2]
          rw [g3]; rfl
        · refine .inr ⟨g1, ?_⟩
          simp only [imap, List.map_cons, List.cons_append, h1, h2] at g2 ⊢
          rw [g2]

theorem erun_mapUpdate (hok : Γ.Ok) {tab : Nat → Option TD} (htab : TabOk Γ.P tab) {o : Oper} {T kt et r : Nat} {m k x : Operand} (ho : o.op = .mapUpdate T m k x) {d dk : TD} (hd : tab T = some d) (hkind : d.kind = .mapk kt et) (hdk : tab kt = some dk) {ik : IntKind} (hik : dk.kind = .int ik)
    (hm : s.ev m = .mp r) {es : List (Int × Value)} (hes : s.hp[r]? = some (.mapo es)) {a : Int} (hk : s.ev k = .prim (.int .i64 a)) {v : Value} (hx : s.ev x = .prim v) : ERun Γ o s .top (s.hp.set r (.mapo (mapPut es a v))) := by
  intro act w η hr
  have hu : Γ.P.underlying T = some (.map kt et) := by
    obtain ⟨u, q2, q3⟩ := (htab T d hd).und
    rw [hkind] at q3
    rw [q2]; exact congrArg some q3
  have huk : Γ.P.underlying kt = some (.int ik) := by
    obtain ⟨u, q2, q3⟩ := (htab kt dk hdk).und
    rw [hik] at q3
    rw [q2]; exact congrArg some q3
  have hkr := hr.ev k
  rw [hk] at hkr
  have hkv := hkr.prim_inv
  have hxr := hr.ev x
  rw [hx] at hxr
  have hxv := hxr.prim_inv
  have hmr := hr.ev m
  rw [hm] at hmr
  generalize hmv : act.eval m = mv at hmr
  cases hmr with
  | mp _ b hη =>
    obtain ⟨b', en, c, e1, hheap, hpairs⟩ := hr.heap.obj r _ _ hes hη
    simp only [Value.map.injEq, Option.some.injEq] at e1
    subst e1
    have hlt := block_lt hheap
    have hget : (getObj b).run Γ.P w = .ok (.map en c) w := by simp [getObj, Sem.run, hheap]
    have hset : ∀ o', (setObj b o').run Γ.P w = .ok () (w.putObj b o') := fun o' => by simp [setObj, Sem.run, hheap, World.putObj]
    have key : ∀ en' c', mapPairs en' = imap (mapPut es a v) → Rel Γ { s with hp := s.hp.set r (.mapo (mapPut es a v)) } act (w.putObj b (.map en' c')) η := by
      intro en' c' hp'
      have hηs : η.set r (.map (some b)) = η := by
        apply List.ext_getElem?
        intro i
        by_cases hi : r = i
        · subst hi; rw [getElem?_set_same hη, hη]
        · rw [getElem?_set_ne hi]
      have := Rel.change (w' := w.putObj b (.map en' c')) (o' := .mapo (mapPut es a v)) (v' := .map (some b)) hok hr hes True.intro hη
        ⟨rfl, rfl, rfl, by simp, fun q hq hb => World.putObj_heap_other (fun e => hb (by rw [e]; rfl))⟩
        (fun q hq => .inl hq) (fun q hq => hq.elim) (fun _ _ _ _ hq => hq.elim) (fun _ _ _ _ hq => hq.elim)
        (fun n u ho' => by simp [OwnOk, hes] at ho') (fun _ hq => by cases hq) (fun _ _ => rfl)
        (fun q dd hb hdd => by simp only [blk, Option.some.injEq] at hb; subst hb; rw [hheap] at hdd; cases hdd)
        (fun _ => ⟨b, en', c', rfl, World.putObj_heap_same hlt, hp'⟩)
      rw [hηs] at this
      exact this
    have hfk : ∀ q, Instr.findNow (.int ik) (.int .i64 a) en.toList 0 = some q → (Instr.findKey kt (.int .i64 a) en.toList).run Γ.P w = .ok q w := fun q hq => by
      simp only [Instr.findKey, Sem.run_bind, run_underlying huk, Result.andThen_ok, hq, Sem.run_pure]
    rcases put_imap (k := ik) (a := a) (v := v) en.toList es 0 hpairs with ⟨j, u, g1, g2, g3⟩ | ⟨g1, g2⟩
    · rw [Nat.zero_add] at g1
      have hj : (en[j]?).map (·.key) = some (.int .i64 a) := by simpa using g2
      have hkts : (Instr.keyThatStays (((en[j]?).map (·.key)).getD (.int .i64 a)) (.int .i64 a)).run Γ.P w = .ok (.int .i64 a) w := by
        rw [hj]
        simp [Instr.keyThatStays, Instr.sameBits]
      refine ⟨undef, _, η, .inr ⟨?_, rfl⟩, key (en.modify j fun e => { e with key := .int .i64 a, val := v }) c ?_, .top _⟩
      · simp only [execOp, ho, hmv, hkv, hxv, Instr.mapUpdate, Sem.run_bind, run_underlying hu, Result.andThen_ok, hget, run_checkKey_int huk, hfk _ g1, hkts, hset, Sem.run_pure]
      · unfold mapPairs; rw [Array.toList_modify]; exact g3
    · refine ⟨undef, _, η, .inr ⟨?_, rfl⟩, key (en.push { key := .int .i64 a, val := v, born := c }) (c + 1) ?_, .top _⟩
      · simp only [execOp, ho, hmv, hkv, hxv, Instr.mapUpdate, Sem.run_bind, run_underlying hu, Result.andThen_ok, hget, run_checkKey_int huk, hfk _ g1, hset, Sem.run_pure]
      · unfold mapPairs; rw [g2]; simp

theorem heff_sound (hok : Γ.Ok) {tab : Nat → Option TD} (htab : TabOk Γ.P tab) {o : Oper} {c : Prop} {r : AV} {hp' : List AObj} (h : heff tab s.hp s.ev o.op = some (c, r, hp')) (hc : c) : ERun Γ o s r hp' := by
  generalize ho : o.op = op at h
  cases op with
  | alloc T =>
    simp only [heff] at h
    split at h
    · rename_i d hd
      simp only [Option.some.injEq, Prod.mk.injEq] at h
      obtain ⟨_, rfl, rfl⟩ := h
      exact erun_alloc hok htab ho hd
    · cases h
  | box T x =>
    simp only [heff] at h
    split at h
    · rename_i hs
      simp only [Option.some.injEq, Prod.mk.injEq] at h
      obtain ⟨_, rfl, rfl⟩ := h
      exact erun_box hok ho hs
    · cases h
  | store T p x =>
    simp only [heff] at h
    split at h
    · rename_i d r' off hd hp
      split at h
      · rename_i cs hcs
        split at h
        · rename_i hs
          simp only [Option.some.injEq, Prod.mk.injEq] at h
          obtain ⟨rfl, rfl, rfl⟩ := h
          exact erun_store hok htab ho hd hp hcs hs hc.1 hc.2
        · cases h
      · cases h
    · cases h
  | makeSlice T l c' =>
    simp only [heff] at h
    split at h
    · rename_i d hd
      split at h
      · rename_i e hk
        split at h
        · rename_i d' k k' n hd' hl hcc
          simp only [Option.some.injEq, Prod.mk.injEq] at h
          obtain ⟨rfl, rfl, rfl⟩ := h
          exact erun_makeSlice hok htab ho hd hk hd' hl hcc hc.1 hc.2.1 hc.2.2.1 hc.2.2.2
        · cases h
      · cases h
    · cases h
  | makeMap T r' =>
    cases r' with
    | some r' => simp [heff] at h
    | none =>
      simp only [heff] at h
      split at h
      · split at h
        · simp only [Option.some.injEq, Prod.mk.injEq] at h
          obtain ⟨_, rfl, rfl⟩ := h
          exact erun_makeMap hok ho
        · cases h
      · cases h
  | mapUpdate T m k x =>
    simp only [heff] at h
    split at h
    · rename_i d r' a v hd hm hk hx
      split at h
      · rename_i kt et es hkind hes
        split at h
        · rename_i dk hdk
          split at h
          · rename_i ik hik
            simp only [Option.some.injEq, Prod.mk.injEq] at h
            obtain ⟨_, rfl, rfl⟩ := h
            exact erun_mapUpdate hok htab ho hd hkind hdk hik hm hes hk hx
          · cases h
        · cases h
      · cases h
    · cases h
  | call cl =>
    simp only [heff] at h
    split at h
    · rename_i b x T T' hb hl hT
      split at h
      · rename_i hTT
        subst hTT
        split at h
        · rename_i d hd
          split at h
          · rename_i e hk
            split at h
            · rename_i d' els2 hd' hx
              split at h
              · rename_i hbv
                simp only [Option.some.injEq, Prod.mk.injEq] at h
                obtain ⟨rfl, rfl, rfl⟩ := h
                exact erun_append hok htab ho hb hl hT hd hk hd' hx (.inl ⟨[], .inl ⟨hbv, rfl⟩, hc.1, fun _ => rfl, by simpa using hc.2, by simp, by simp⟩)
              · rename_i els hbv
                simp only [Option.some.injEq, Prod.mk.injEq] at h
                obtain ⟨rfl, rfl, rfl⟩ := h
                exact erun_append hok htab ho hb hl hT hd hk hd' hx (.inl ⟨els, .inr hbv, hc.1, hc.2.1, hc.2.2, rfl, rfl⟩)
              · rename_i n m hbv
                split at h
                · rename_i e' size els hrow
                  split at h
                  · rename_i hcond
                    obtain ⟨rfl, rfl, rfl⟩ := hcond
                    simp only [Option.some.injEq, Prod.mk.injEq] at h
                    obtain ⟨rfl, rfl, rfl⟩ := h
                    exact erun_append hok htab ho hb hl hT hd hk hd' hx (.inr ⟨n, els, hbv, hrow, hc, rfl, rfl⟩)
                  · cases h
                · cases h
              · cases h
            · cases h
          · cases h
        · cases h
      · cases h
    · cases h
  | _ => simp [heff] at h

end Go.Proofs.Ytfbncddnakaaiaa
