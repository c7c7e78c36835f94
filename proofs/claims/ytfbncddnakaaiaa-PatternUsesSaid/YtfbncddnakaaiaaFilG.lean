/- An abstract layer over the model's walk, its seventh part: the operations that make a value and turn nothing, reckoned on abstract values; for every program. -/
import Derived.Test.YtfbncddnakaaiaaFilF
namespace Go.Proofs.Ytfbncddnakaaiaa
open Go
set_option linter.unusedSimpArgs false
set_option linter.unusedVariables false

variable {G : Type} {Γ : Env G} {s : AS G} {a : Act} {w w' : World} {η : List Value} {hp : List AObj} {F : Nat → Nat → Prop} {P : Program}

def AS.ev (s : AS G) : Operand → AV
  | .tmp t => s.tmps t
  | .const v => .prim v
  | .global g => .prim (.pointer (some ⟨g, 0, none⟩))
  | .func f => .clo f []

theorem Rel.ev (h : Rel Γ s a w η) (x : Operand) : Rep w (Fok Γ w η s.hp) η s.hp (s.ev x) (a.eval x) := by
  cases x with
  | tmp t => exact h.tmps t
  | const v => exact .prim v
  | global g => exact .prim _
  | func f => exact .clo f [] #[] rfl (fun j x v h => by simp at h)

/-- What a value is as data. -/
def AV.dataC (hp : List AObj) : AV → AV
  | .own r n => (match (AV.own r n).asSl hp with | some els => .sl els | none => .top)
  | .clip els => .sl els
  | .sl els => .sl els
  | .prim v => (match v with | .slice none 0 0 => .sl [] | v => .prim v)
  | .fn v => .fn v
  | .mapv es => .mapv es
  | _ => .top

def AV.dataV (hp : List AObj) : AV → AV
  | .agg cs => .agg (cs.map (AV.dataC hp))
  | x => x.dataC hp

def AV.toData (hp : List AObj) : AV → AV
  | .tup vs => .tup (vs.map (AV.dataV hp))
  | .clo f caps => .clo f (caps.map (AV.dataV hp))
  | x => x.dataV hp

theorem dataC_rep (h : HeapOk w (Fok Γ w η hp) η hp) (hm : Mine Γ η hp) {x : AV} {v : Value} (hx : Rep w (Fok Γ w η hp) η hp x v) : Rep w (Fok Γ w η hp) [] [] (x.dataC hp) v := by
  cases x with
  | own r n =>
    simp only [AV.dataC]
    split
    · rename_i els he
      have := asSl_rep h hm hx he
      cases this with
      | sl0 => exact .sl0 _
      | sl size els b o c f hc hm hl hcell hr => exact .sl size els b o c f hc hm hl hcell hr
    · exact .top _
  | clip els => cases hx.of_clip with
    | sl0 => exact .sl0 _
    | sl size els b o c f hc hm hl hcell hr => exact .sl size els b o c f hc hm hl hcell hr
  | sl els => cases hx with
    | sl0 => exact .sl0 _
    | sl size els b o c f hc hm hl hcell hr => exact .sl size els b o c f hc hm hl hcell hr
  | prim u =>
    simp only [AV.dataC]
    split
    · cases hx; exact .sl0 _
    · cases hx; exact .prim _
  | fn u => cases hx; exact .fn _ (by assumption)
  | mapv es => cases hx with | mapv b es c h1 h2 _ hl => exact .mapv b es c h1 h2 _ hl
  | _ => exact .top _

theorem dataV_rep (h : HeapOk w (Fok Γ w η hp) η hp) (hm : Mine Γ η hp) {x : AV} {v : Value} (hx : Rep w (Fok Γ w η hp) η hp x v) : Rep w (Fok Γ w η hp) [] [] (x.dataV hp) v := by
  cases x with
  | agg cs =>
    cases hx with
    | agg _ vs hl h1 hr =>
      refine .agg _ vs (by simpa using hl) h1 fun j y u hy hu => ?_
      rw [List.getElem?_map] at hy
      cases hj : cs[j]? with
      | none => rw [hj] at hy; cases hy
      | some z => rw [hj] at hy; obtain rfl := Option.some.inj hy; exact dataC_rep h hm (hr j z u hj hu)
  | _ => exact dataC_rep h hm hx

theorem toData_rep (h : HeapOk w (Fok Γ w η hp) η hp) (hm : Mine Γ η hp) {x : AV} {v : Value} (hx : Rep w (Fok Γ w η hp) η hp x v) : Rep w (Fok Γ w η hp) [] [] (x.toData hp) v := by
  cases x with
  | tup cs =>
    cases hx with
    | tup _ vs hl hr =>
      refine .tup _ vs (by simpa using hl) fun j y u hy hu => ?_
      rw [List.getElem?_map] at hy
      cases hj : cs[j]? with
      | none => rw [hj] at hy; cases hy
      | some z => rw [hj] at hy; obtain rfl := Option.some.inj hy; exact dataV_rep h hm (hr j z u hj hu)
  | clo f cs =>
    cases hx with
    | clo _ _ vs hl hr =>
      refine .clo f _ vs (by simpa using hl) fun j y u hy hu => ?_
      rw [List.getElem?_map] at hy
      cases hj : cs[j]? with
      | none => rw [hj] at hy; cases hy
      | some z => rw [hj] at hy; obtain rfl := Option.some.inj hy; exact dataV_rep h hm (hr j z u hj hu)
  | _ => exact dataV_rep h hm hx

def fieldsOf (tab : Nat → Option TD) (T : Nat) : List (Nat × Nat × Bool) :=
  match tab T with
  | some d => (match d.kind with | .strct fs => fs | _ => [])
  | none => []

def AV.isAgg : AV → Bool
  | .agg _ => true
  | _ => false

/-- A part of a run of cells. -/
def ldCells (agg : Bool) (size : Nat) (cs : List AV) (o : Nat) : Option AV :=
  if agg then (if o + size ≤ cs.length then some (.agg ((cs.drop o).take size)) else none) else cs[o]?

def ldElem (agg : Bool) (size : Nat) (e : AV) (o : Nat) : Option AV :=
  if o = 0 ∧ e.cells.length = size ∧ e.isAgg = agg then some e else ldCells agg size e.cells o

def bopInt (op : BinOp) (k : IntKind) (a b : Int) : Option (Prop × AV) :=
  match op with
  | .add => some (True, .prim (.int k (k.wrap (a + b))))
  | .sub => some (True, .prim (.int k (k.wrap (a - b))))
  | .mul => some (True, .prim (.int k (k.wrap (a * b))))
  | .eql => some (True, .prim (.bool (a == b)))
  | .neq => some (True, .prim (.bool (a != b)))
  | .lss => some (True, .prim (.bool (decide (a < b))))
  | .leq => some (True, .prim (.bool (decide (a ≤ b))))
  | .gtr => some (True, .prim (.bool (decide (a > b))))
  | .geq => some (True, .prim (.bool (decide (a ≥ b))))
  | _ => none

def bopVal (tab : Nat → Option TD) (T : Nat) (op : BinOp) (x y : AV) : Option (Prop × AV) :=
  match x, y with
  | .prim (.int k a), .prim (.int k' b) => if k = k' then bopInt op k a b else none
  | .prim (.bool a), .prim (.bool b) =>
    (match tab T with
     | some d => (match d.kind, op with
        | .bool, .eql => some (True, .prim (.bool (a == b)))
        | .bool, .neq => some (True, .prim (.bool (!(a == b))))
        | _, _ => none)
     | none => none)
  | .agg [.prim (.int .i64 a1), .prim (.int .i64 a2)], .agg [.prim (.int .i64 b1), .prim (.int .i64 b2)] =>
    (match tab T with
     | some d => if d.flat then (match op with
        | .eql => some (True, .prim (.bool (a1 == b1 && a2 == b2)))
        | .neq => some (True, .prim (.bool (!(a1 == b1 && a2 == b2))))
        | _ => none) else none
     | none => none)
  | _, _ => none

def mapGet : List (Int × Value) → Int → Option Value
  | [], _ => none
  | (k, v) :: r, a => if a = k then some v else mapGet r a

/-- What a value is as a map with ints as keys. -/
def AV.asMap (hp : List AObj) : AV → Option (List (Int × Value))
  | .mapv es => some es
  | .mp r => (match hp[r]? with | some (.mapo es) => some es | _ => none)
  | _ => none

def lookVal (es : List (Int × Value)) (z : Value) (a : Int) (ok : Bool) : AV :=
  if ok = true then .tup [.prim ((mapGet es a).getD z), .prim (.bool (mapGet es a).isSome)] else .prim ((mapGet es a).getD z)

def lenVal (hp : List AObj) (x : AV) : Option AV :=
  match x with
  | .prim (.string s) => some (.prim (.int .i64 s.size))
  | x => (x.asSl hp).map fun els => .prim (.int .i64 els.length)

/-- What may be stored. -/
def AV.stor : AV → Bool
  | .prim v => v.oneCell'
  | .top | .tup _ => false
  | _ => true

/-- A struct's cells, with parts laid over its zero value. -/
def fillCells (fs : List (Nat × Nat × Bool)) (cs : List AV) : List (Nat × AV) → Option (List AV)
  | [] => some cs
  | (i, x) :: rest =>
    match fs[i]? with
    | some p => if x.cells.length = p.2.1 ∧ p.1 + p.2.1 ≤ cs.length ∧ x.stor = true then fillCells fs (setCells cs p.1 x.cells) rest else none
    | none => none

def idxOk : Nat → List (Nat × Operand) → Bool
  | _, [] => true
  | k, (i, _) :: r => i == k && idxOk (k + 1) r

def lensOk (size : Nat) : List AV → Prop
  | [] => True
  | x :: xs => (x.cells.length = size ∧ x.stor = true) ∧ lensOk size xs

def boundOf (ρ : Operand → AV) (d : Int) : Option Operand → Option Int
  | none => some d
  | some x => (match ρ x with | .prim (.int _ n) => some n | _ => none)

def pval (tab : Nat → Option TD) (hp : List AObj) (ρ : Operand → AV) : Op → Option (Prop × AV)
  | .move x => some (True, ρ x)
  | .assign x => some (True, ρ x)
  | .pick c x y => (match ρ c with
    | .prim (.bool t) => some (True, if t = true then ρ x else ρ y)
    | _ => none)
  | .fieldAddr T x f => (match (fieldsOf tab T)[f]? with
    | some p => if p.2.1 = 0 then none else (match ρ x with
      | .ptr r o => some (True, .ptr r (o + p.1))
      | .eptr e o => some (True, .eptr e (o + p.1))
      | _ => none)
    | none => none)
  | .load T x => (match tab T with
    | some d => (match ρ x with
      | .ptr r o => (match hp[r]? with
        | some (.box cs) => (ldCells d.kind.agg d.size cs o).map fun v => (True, v)
        | _ => none)
      | .eptr e o => (ldElem d.kind.agg d.size e o).map fun v => (True, v)
      | _ => none)
    | none => none)
  | .indexAddr T x i => (match tab T with
    | some d => (match d.kind with
      | .slc e => (match tab e, (ρ x).asSl hp, ρ i with
        | some d', some els, .prim (.int _ n) => some (0 ≤ n ∧ n < els.length ∧ (els.getD n.toNat .top).cells.length = d'.size, .eptr (els.getD n.toNat .top) 0)
        | _, _, _ => none)
      | _ => none)
    | none => none)
  | .binOp op T x y _ => bopVal tab T op (ρ x) (ρ y)
  | .unOp op _ x => (match op, ρ x with
    | .not, .prim (.bool b) => some (True, .prim (.bool (!b)))
    | .neg, .prim (.int k n) => some (True, .prim (.int k (k.wrap (0 - n))))
    | _, _ => none)
  | .build T parts => (match tab T with
    | some d => (match d.kind with
      | .strct fs => (fillCells fs (d.zero.cells.toList.map .prim) (parts.toList.map fun p => (p.1, ρ p.2))).map fun cs => (True, .agg cs)
      | _ => none)
    | none => none)
  | .buildSlice T n parts => (match tab T with
    | some d => (match d.kind with
      | .slc e => (match tab e with
        | some d' => if n = parts.toList.length ∧ idxOk 0 parts.toList = true ∧ n ≤ 16777216 ∧ n * d'.size ≤ 16777216 then some (lensOk d'.size (parts.toList.map fun p => (ρ p.2).toData hp), .clip (parts.toList.map fun p => (ρ p.2).toData hp)) else none
        | none => none)
      | _ => none)
    | none => none)
  | .slice T x lo hi mx => (match tab T with
    | some d => (match d.kind, ρ x with
      | .str, .prim (.string b) => (match mx, boundOf ρ 0 lo, boundOf ρ b.size hi with
        | none, some l, some h => some (0 ≤ l ∧ l ≤ h ∧ h ≤ b.size, .prim (.string (b.extract l.toNat h.toNat)))
        | _, _, _ => none)
      | .slc e, v => (match v.asSl hp, tab e with
        | some els, some d' => (match boundOf ρ 0 lo, boundOf ρ els.length hi, mx.map fun m => boundOf ρ 0 (some m) with
          | some l, some h, none => some (0 ≤ l ∧ l ≤ h ∧ h ≤ els.length ∧ (∀ y : AV, y ∈ els → y.cells.length = d'.size), .sl ((els.take h.toNat).drop l.toNat))
          | some l, some h, some (some m) => if hi.isSome = true then some (0 ≤ l ∧ l ≤ h ∧ h = m ∧ h ≤ els.length ∧ (∀ y : AV, y ∈ els → y.cells.length = d'.size), .clip ((els.take h.toNat).drop l.toNat)) else none
          | _, _, _ => none)
        | _, _ => none)
      | _, _ => none)
    | none => none)
  | .field T x f => (match (fieldsOf tab T)[f]?, ρ x with
    | some p, .agg cs => if p.2.2 = true ∨ p.2.1 = 1 then (ldCells p.2.2 p.2.1 cs p.1).map fun v => (True, v) else none
    | _, _ => none)
  | .lookup T m k ok => (match tab T, (ρ m).asMap hp, ρ k with
    | some d, some es, .prim (.int .i64 a) => (match d.kind with
      | .mapk kt et => (match tab kt, tab et with
        | some dk, some de => (match dk.kind with
          | .int _ => some (True, lookVal es de.zero a ok)
          | _ => none)
        | _, _ => none)
      | _ => none)
    | _, _, _ => none)
  | .extract x i => (match ρ x with
    | .tup vs => (vs[i]?).map fun v => (True, v)
    | _ => none)
  | .makeFunc (.func f) first caps => if first.size = 0 then some (True, .clo f (caps.toList.map ρ)) else none
  | .call c => (match c.callee, c.args.toList with
    | .builtin .len, [x] => (match (c.argTypes[0]?).bind tab with
      | some d => (match d.kind, ρ x with
        | .slc _, .prim (.string _) => none
        | .slc _, v => (lenVal hp v).map fun v => (True, v)
        | .str, .prim (.string b) => some (True, .prim (.int .i64 b.size))
        | _, _ => none)
      | none => none)
    | .builtin .min, [x, y] => (match ρ x, ρ y with
      | .prim (.int k m), .prim (.int _ n) => some (True, .prim (.int k (if n < m then n else m)))
      | _, _ => none)
    | .builtin .max, [x, y] => (match ρ x, ρ y with
      | .prim (.int k m), .prim (.int _ n) => some (True, .prim (.int k (if n > m then n else m)))
      | _, _ => none)
    | _, _ => none)
  | _ => none

/-- What such an operation does: a value; nothing turns. -/
def VRun (Γ : Env G) (o : Oper) (s : AS G) (r : AV) : Prop :=
  ∀ a w η, Rel Γ s a w η → ∃ v w', (execOp a.eval o).run Γ.P w = .ok (.value v) w' ∧ Same w w' ∧ Rep w' (Fok Γ w' η s.hp) η s.hp r v

theorem vrun_pure {o : Oper} {r : AV} (h : ∀ a w η, Rel Γ s a w η → ∃ v, (execOp a.eval o).run Γ.P w = .ok (.value v) w ∧ Rep w (Fok Γ w η s.hp) η s.hp r v) : VRun Γ o s r :=
  fun a w η hr => let ⟨v, h1, h2⟩ := h a w η hr; ⟨v, w, h1, Same.refl w, h2⟩

theorem Rep.prim_inv {u v : Value} (h : Rep w F η hp (.prim u) v) : v = u := by cases h; rfl

/-- A part of cells that read reads. -/
theorem ldCells_rep {agg : Bool} {size : Nat} {cs : List AV} {o : Nat} {r : AV} (hsz : agg = false → size = 1) {vs : List Value} (hl : vs.length = cs.length) (hr : ∀ (j : Nat) (x : AV) (u : Value), cs[j]? = some x → vs[j]? = some u → Rep w F η hp x u ∧ u.oneCell' = true)
    (h : ldCells agg size cs o = some r) : o + size ≤ vs.length ∧ Rep w F η hp r (if agg then .agg ((vs.drop o).take size).toArray else ((vs.drop o).take size).headD undef) := by
  unfold ldCells at h
  cases agg with
  | true =>
    simp only [if_true] at h ⊢
    split at h
    · rename_i hle
      obtain rfl := Option.some.inj h
      refine ⟨by omega, .agg _ _ (by simp; omega) (fun v hv => ?_) fun j x v hx hv => ?_⟩
      · have hv' : v ∈ (vs.drop o).take size := by simpa using hv
        obtain ⟨k, hk⟩ := List.getElem?_of_mem hv'
        rw [List.getElem?_take] at hk
        split at hk
        · rw [List.getElem?_drop] at hk
          have hlt : o + k < vs.length := (List.getElem?_eq_some_iff.1 hk).1
          exact (hr (o + k) (cs[o + k]'(by omega)) v (by simp) hk).2
        · cases hk
      · have hv' : ((vs.drop o).take size)[j]? = some v := by simpa using hv
        rw [List.getElem?_take] at hx hv'
        split at hx
        · rename_i hj
          rw [if_pos hj, List.getElem?_drop] at hv'
          rw [List.getElem?_drop] at hx
          exact (hr (o + j) x v hx hv').1
        · cases hx
    · cases h
  | false =>
    simp only [Bool.false_eq_true, if_false] at h ⊢
    have hlt : o < cs.length := (List.getElem?_eq_some_iff.1 h).1
    have h1 := hsz rfl
    subst h1
    refine ⟨by omega, ?_⟩
    have hv : vs[o]? = some (vs[o]'(by omega)) := by simp
    have : ((vs.drop o).take 1).headD undef = vs[o]'(by omega) := by
      rw [List.headD_eq_head?_getD, List.head?_eq_getElem?, List.getElem?_take, if_pos (by omega), List.getElem?_drop]
      simp only [Nat.add_zero]
      rw [hv]; rfl
    rw [this]
    exact (hr o r _ h hv).1

/-- A load out of cells that lie in a block. -/
theorem run_load_cells {T : TypeId} {d : TD} (ht : TyOk P T d) {b o : Nat} {vs : List Value} (hc : ∀ (j : Nat) (u : Value), vs[j]? = some u → w.cell? ⟨b, j, none⟩ = some u) (hle : o + d.size ≤ vs.length) :
    (loadVar T ⟨b, o, none⟩).run P w = .ok (if d.kind.agg then .agg ((vs.drop o).take d.size).toArray else ((vs.drop o).take d.size).headD undef) w := by
  refine ht.run_load (vs := (vs.drop o).take d.size) (by simp; omega) fun j u hj => ?_
  rw [List.getElem?_take] at hj
  split at hj
  · rw [List.getElem?_drop] at hj; exact hc _ _ hj
  · cases hj

theorem box_cells {b : Nat} {vs : Array Value} {T : TypeId} (hg : w.heap[b]? = some (.cells vs T (0, 0))) (j : Nat) (u : Value) (hj : vs.toList[j]? = some u) : w.cell? ⟨b, j, none⟩ = some u := by
  rw [cell_of_row w b j vs T (0, 0) hg]; simpa using hj

theorem TabOk.sz {tab : Nat → Option TD} (htab : TabOk P tab) {T : Nat} {d : TD} (h : tab T = some d) : d.kind.agg = false → d.size = 1 := fun h1 => ((htab T d h).zagg' h1).1

theorem vrun_load {tab : Nat → Option TD} (htab : TabOk Γ.P tab) {o : Oper} {T : Nat} {x : Operand} (ho : o.op = .load T x) {d : TD} (hd : tab T = some d) {r : AV}
    (h : (∃ n off cs, s.ev x = .ptr n off ∧ s.hp[n]? = some (.box cs) ∧ ldCells d.kind.agg d.size cs off = some r) ∨ (∃ e off, s.ev x = .eptr e off ∧ ldElem d.kind.agg d.size e off = some r)) : VRun Γ o s r := by
  refine vrun_pure fun a w η hr => ?_
  have hx := hr.ev x
  have hty := htab T d hd
  rcases h with ⟨n, off, cs, he, hn, hld⟩ | ⟨e, off, he, hld⟩
  · rw [he] at hx
    cases hev : a.eval x <;> rw [hev] at hx <;> cases hx
    rename_i b hη
    obtain ⟨b', vs, T', hb, hg, hsz, hc⟩ := hr.heap.obj n _ _ hn hη
    simp only [Value.pointer.injEq, Option.some.injEq, Addr.mk.injEq, and_true] at hb
    subst hb
    obtain ⟨h1, h2⟩ := ldCells_rep (w := w) (F := Fok Γ w η s.hp) (η := η) (hp := s.hp) (htab.sz hd) (vs := vs.toList) (by simpa using hsz) (fun j x u hx hu => hc j x u hx (by simpa using hu)) hld
    refine ⟨_, ?_, h2⟩
    simp only [execOp, ho, hev, Instr.loadAt, Instr.sureAddr, Sem.run_bind, Sem.run_pure, Result.andThen_ok]
    rw [run_load_cells hty (box_cells hg) h1]
    rfl
  · rw [he] at hx
    cases hev : a.eval x <;> rw [hev] at hx <;> cases hx
    rename_i b o f hcell hrep
    have hcl : ∀ (j : Nat) (x : AV) (u : Value), e.cells[j]? = some x → ((List.range e.cells.length).map f)[j]? = some u → Rep w (Fok Γ w η s.hp) η s.hp x u ∧ u.oneCell' = true := by
      intro j x u hx hu
      have hlt := (List.getElem?_eq_some_iff.1 hx).1
      rw [List.getElem?_map, List.getElem?_range hlt] at hu
      obtain rfl := Option.some.inj hu
      exact ⟨(hrep j x hx).lift, (hcell j x hx).2.2⟩
    have hcs : ∀ (j : Nat) (u : Value), ((List.range e.cells.length).map f)[j]? = some u → w.cell? ⟨b, o + j, none⟩ = some u := by
      intro j u hj
      rw [List.getElem?_map] at hj
      by_cases hlt : j < e.cells.length
      · rw [List.getElem?_range hlt] at hj
        obtain rfl := Option.some.inj hj
        exact (hcell j _ (List.getElem?_eq_some_iff.2 ⟨hlt, rfl⟩)).1
      · rw [List.getElem?_eq_none (by simp; omega)] at hj; cases hj
    have key : off + d.size ≤ e.cells.length ∧ Rep w (Fok Γ w η s.hp) η s.hp r (if d.kind.agg then .agg ((((List.range e.cells.length).map f).drop off).take d.size).toArray else ((((List.range e.cells.length).map f).drop off).take d.size).headD undef) := by
      unfold ldElem at hld
      split at hld
      · rename_i hc
        obtain ⟨rfl, hlen, hag⟩ := hc
        obtain rfl := Option.some.inj hld
        refine ⟨by omega, ?_⟩
        cases hk : d.kind.agg with
        | true =>
          rw [hk] at hag
          cases e <;> simp only [AV.isAgg] at hag <;> try (cases hag; done)
          rename_i cs
          have hlen' : cs.length = d.size := hlen
          have := (ldCells_rep (w := w) (F := Fok Γ w η s.hp) (η := η) (hp := s.hp) (agg := true) (size := d.size) (cs := cs) (o := 0) (r := .agg cs) (fun h => by cases h) (vs := (List.range cs.length).map f) (by simp) hcl (by simp [ldCells, ← hlen'])).2
          simpa [AV.cells] using this
        | false =>
          have h1 := htab.sz hd hk
          have hcell0 : e.cells = [e] := by
            rw [hk] at hag
            cases e <;> first | rfl | (simp [AV.isAgg] at hag)
          have := (ldCells_rep (w := w) (F := Fok Γ w η s.hp) (η := η) (hp := s.hp) (agg := false) (size := d.size) (cs := e.cells) (o := 0) (r := e) (fun _ => h1) (vs := (List.range e.cells.length).map f) (by simp) hcl (by rw [hcell0]; rfl)).2
          simpa using this
      · have := ldCells_rep (w := w) (F := Fok Γ w η s.hp) (η := η) (hp := s.hp) (htab.sz hd) (vs := (List.range e.cells.length).map f) (by simp) hcl hld
        simpa using this
    refine ⟨_, ?_, key.2⟩
    simp only [execOp, ho, hev, Instr.loadAt, Instr.sureAddr, Sem.run_bind, Sem.run_pure, Result.andThen_ok]
    rw [hty.run_load (vs := (((List.range e.cells.length).map f).drop off).take d.size) (by simp; omega) (fun j u hj => by
      rw [List.getElem?_take] at hj
      split at hj
      · rw [List.getElem?_drop] at hj
        have := hcs _ _ hj
        rw [Nat.add_assoc]; exact this
      · cases hj)]
    rfl

end Go.Proofs.Ytfbncddnakaaiaa
