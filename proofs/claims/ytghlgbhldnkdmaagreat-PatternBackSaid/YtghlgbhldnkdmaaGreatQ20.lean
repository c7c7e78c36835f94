/- Texts of ours laid together for a claim: VcO. -/
import Derived.Laws.LoneSync
import Derived.Laws.Pointers
import Derived.Laws.Entries
import Derived.Test.YtghlgbhldnkdmaaGreatQ19
namespace Go.Proofs.YtghlgbhldnkdmaaGreat
open Go
set_option linter.unusedSimpArgs false
set_option linter.unusedVariables false
inductive XOp where
 | load (k : IntKind)
 | store
 | add (k : IntKind)
 | cas (k : IntKind)
 | same
def XOp.run : XOp → Array Value → Sem Value
 | .load k => Extern.Atomic.loadT (.int k)
 | .store => Extern.Atomic.storeT
 | .add k => Extern.Atomic.update (Op.intArith .add) k true
 | .cas k => Extern.Atomic.casT (.int k)
 | .same => Extern.AbiNoEscape.same
def XOk (P : Program) (f : Nat) (x : XOp) : Prop :=
 ∃ fn, P.funcs[f]? = some fn ∧ (fn.name == "runtime.NumGoroutine") = false ∧ fn.body.isNone = true ∧ Extern.findNext fn = none ∧ Extern.find fn = some x.run
def xrun1 (hp : List AObj) (r off : Nat) : XOp → Option (AV × List AObj)
 | .load k => (match hp[r]? with
  | some (.box cs) => (match cs[off]? with
   | some (.prim (.int k' n)) => if k' = k then some (.prim (.int k n), hp) else none
   | _ => none)
  | _ => none)
 | .same => some (.ptr r off, hp)
 | _ => none
def xrun2 (hp : List AObj) (r off : Nat) (k1 : IntKind) (y : Int) : XOp → Option (AV × List AObj)
 | .store => (match hp[r]? with
  | some (.box cs) => if off < cs.length then some (.prim (.tuple #[]), hp.set r (.box (cs.set off (.prim (.int k1 y))))) else none
  | _ => none)
 | .add k => (match hp[r]? with
  | some (.box cs) => (match cs[off]? with
   | some (.prim (.int k' n)) => if k' = k ∧ k1 = k then some (.prim (.int k (k.wrap (n + y))), hp.set r (.box (cs.set off (.prim (.int k (k.wrap (n + y))))))) else none
   | _ => none)
  | _ => none)
 | _ => none
def xrun3 (hp : List AObj) (r off : Nat) (k1 : IntKind) (y : Int) (k2 : IntKind) (z : Int) : XOp → Option (AV × List AObj)
 | .cas k => (match hp[r]? with
  | some (.box cs) => (match cs[off]? with
   | some (.prim (.int k' n)) => if k' = k ∧ k1 = k ∧ k2 = k then some (.prim (.bool (decide (n = y))), hp.set r (.box (cs.set off (.prim (.int k (if n = y then z else n)))))) else none
   | _ => none)
  | _ => none)
 | _ => none
def xrun (x : XOp) (hp : List AObj) : List AV → Option (AV × List AObj)
 | [.ptr r off] => xrun1 hp r off x
 | [.ptr r off, .prim (.int k1 y)] => xrun2 hp r off k1 y x
 | [.ptr r off, .prim (.int k1 y), .prim (.int k2 z)] => xrun3 hp r off k1 y k2 z x
 | _ => none
variable {G : Type} {Γ : Env G} {s s' : AS G} {a : Act} {w w' : World} {η : List Value} {hp : List AObj} {P : Program}
theorem box_prim (hr : Rel Γ s a w η) {r off b : Nat} {cs : List AV} {v : Value} (hb : s.hp[r]? = some (.box cs)) (hη : η[r]? = some (.pointer (some ⟨b, 0, none⟩))) (hc : cs[off]? = some (.prim v)) :
  w.cell? ⟨b, off, none⟩ = some v ∧ w.frozen? ⟨b, off, none⟩ = false := by
 obtain ⟨b', ws, T, he, hg, hsz, hcs⟩ := hr.heap.obj r _ _ hb hη
 simp only [Value.pointer.injEq, Option.some.injEq, Addr.mk.injEq, and_true] at he
 subst he
 have hlt : off < ws.size := by rw [hsz]; exact (List.getElem?_eq_some_iff.1 hc).1
 have hu : ws[off]? = some ws[off] := by simp [hlt]
 have := (hcs off _ _ hc hu).1.prim_inv
 refine ⟨?_, frozen_of_row w b off ws T hg⟩
 rw [cell_of_row w b off ws T (0, 0) hg, hu, this]
theorem xrun_sound (hok : Γ.Ok) {f : Nat} {x : XOp} (hX : XOk Γ.P f x) {o : Oper} {c : Call} {y : Operand} (ho : o.op = .call c) (hc : c.callee = .value y) {caps : List AV} (hcl : s.ev y = .clo f caps) {r : AV} {hp' : List AObj}
  (h : xrun x s.hp (c.args.toList.map s.ev ++ caps) = some (r, hp')) : ERun Γ o s r hp' := by
 intro a w η hr
 obtain ⟨fn, hf, hname, hbody, hnext, hfind⟩ := hX
 have hyr := hr.ev y
 rw [hcl] at hyr
 generalize hv : a.eval y = v at hyr
 cases hyr with
 | clo _ _ vs hl hrep =>
  have hargs : (c.args.map a.eval ++ vs) = (c.args.toList.map a.eval ++ vs.toList).toArray := by apply Array.ext'; simp
  have hcap : RepL w (Fok Γ w η s.hp) η s.hp caps vs.toList := repL_of_get (by simpa using hl) fun j y u hy hu => hrep j y u hy (by simpa using hu)
  have hreps := repL_append _ _ (repArgs hr c.args.toList) hcap
  have hexec : (execOp a.eval o).run Γ.P w = (callFunc f (c.args.toList.map a.eval ++ vs.toList).toArray).run Γ.P w := by
   rw [← hargs]
   simp [execOp, ho, resolve, hc, hv, Deferred.ofValue, invoke]
  generalize c.args.toList.map a.eval ++ vs.toList = vals at hreps hexec
  have one : ∀ {r1 off : Nat} {l : List AV} {vals : List Value}, RepL w (Fok Γ w η s.hp) η s.hp (.ptr r1 off :: l) vals → ∃ b us, vals = .pointer (some ⟨b, off, none⟩) :: us ∧ η[r1]? = some (.pointer (some ⟨b, 0, none⟩)) ∧ RepL w (Fok Γ w η s.hp) η s.hp l us := by
   intro r1 off l vals h
   match vals, h with
   | u :: us, h =>
    cases h.1 with
    | ptr _ _ b hη => exact ⟨b, us, rfl, hη, h.2⟩
  have prim : ∀ {u : Value} {l : List AV} {vals : List Value}, RepL w (Fok Γ w η s.hp) η s.hp (.prim u :: l) vals → ∃ us, vals = u :: us ∧ RepL w (Fok Γ w η s.hp) η s.hp l us := by
   intro u l vals h
   match vals, h with
   | u' :: us, h => exact ⟨us, by rw [h.1.prim_inv], h.2⟩
  have nil : ∀ {vals : List Value}, RepL w (Fok Γ w η s.hp) η s.hp [] vals → vals = [] := by
   intro vals h
   match vals, h with
   | [], _ => rfl
  unfold xrun at h
  split at h
  ·rename_i r1 off hL
   rw [hL] at hreps
   obtain ⟨b, us, rfl, hη, hrest⟩ := one hreps
   obtain rfl := nil hrest
   unfold xrun1 at h
   split at h
   ·rename_i k
    split at h
    ·rename_i cs hb
     split at h
     ·rename_i k' n hcell
      split at h
      ·rename_i hk
       subst hk
       simp only [Option.some.injEq, Prod.mk.injEq] at h
       obtain ⟨rfl, rfl⟩ := h
       have hcc := (box_prim hr hb hη hcell).1
       exact ⟨_, w, η, .inl (hexec.trans (run_call_load hf hname hbody hnext _ hfind hcc)), hr, .prim _⟩
      ·cases h
     ·cases h
    ·cases h
   ·simp only [Option.some.injEq, Prod.mk.injEq] at h
    obtain ⟨rfl, rfl⟩ := h
    refine ⟨.pointer (some ⟨b, off, none⟩), w, η, .inl (hexec.trans ?_), hr, .ptr _ _ b hη⟩
    rw [run_callFunc_extern hf hname hbody hnext hfind]
    rfl
   ·cases h
  ·rename_i r1 off k1 y1 hL
   rw [hL] at hreps
   obtain ⟨b, us, rfl, hη, hrest⟩ := one hreps
   obtain ⟨us', rfl, hrest2⟩ := prim hrest
   obtain rfl := nil hrest2
   unfold xrun2 at h
   split at h
   ·split at h
    ·rename_i cs hb
     split at h
     ·rename_i hlt
      simp only [Option.some.injEq, Prod.mk.injEq] at h
      obtain ⟨rfl, rfl⟩ := h
      obtain ⟨h1, h2, u', h3⟩ := hr.write hok (off := off) (v := .int k1 y1) (x := .prim (.int k1 y1)) hb hη hlt rfl (.prim _)
      exact ⟨_, _, η, .inl (hexec.trans (run_call_store hf hname hbody hnext hfind h3 h2)), h1, .prim _⟩
     ·cases h
    ·cases h
   ·rename_i k
    split at h
    ·rename_i cs hb
     split at h
     ·rename_i k' n hcell
      split at h
      ·rename_i hk
       obtain ⟨rfl, rfl⟩ := hk
       simp only [Option.some.injEq, Prod.mk.injEq] at h
       obtain ⟨rfl, rfl⟩ := h
       have hcc := (box_prim hr hb hη hcell).1
       obtain ⟨h1, h2, _⟩ := hr.write hok (off := off) (v := .int k1 (k1.wrap (n + y1))) (x := .prim (.int k1 (k1.wrap (n + y1)))) hb hη (List.getElem?_eq_some_iff.1 hcell).1 rfl (.prim _)
       exact ⟨_, _, η, .inl (hexec.trans (run_call_add hf hname hbody hnext _ hfind hcc h2 rfl)), h1, .prim _⟩
      ·cases h
     ·cases h
    ·cases h
   ·cases h
  ·rename_i r1 off k1 y1 k2 z1 hL
   rw [hL] at hreps
   obtain ⟨b, us, rfl, hη, hrest⟩ := one hreps
   obtain ⟨us', rfl, hrest2⟩ := prim hrest
   obtain ⟨us'', rfl, hrest3⟩ := prim hrest2
   obtain rfl := nil hrest3
   unfold xrun3 at h
   split at h
   ·rename_i k
    split at h
    ·rename_i cs hb
     split at h
     ·rename_i k' n hcell
      split at h
      ·rename_i hk
       obtain ⟨rfl, rfl, rfl⟩ := hk
       simp only [Option.some.injEq, Prod.mk.injEq] at h
       obtain ⟨rfl, rfl⟩ := h
       obtain ⟨hcc, hfz⟩ := box_prim hr hb hη hcell
       by_cases hn : n = y1
       ·subst hn
        obtain ⟨h1, h2, _⟩ := hr.write hok (off := off) (v := .int k2 z1) (x := .prim (.int k2 z1)) hb hη (List.getElem?_eq_some_iff.1 hcell).1 rfl (.prim _)
        rw [if_pos rfl, decide_eq_true rfl]
        exact ⟨_, _, η, .inl (hexec.trans (run_call_cas_hit hf hname hbody hnext _ hfind hcc hfz)), h1, .prim _⟩
       ·rw [if_neg hn, decide_eq_false hn]
        have hset : s.hp.set r1 (.box (cs.set off (.prim (.int k2 n)))) = s.hp := by
         have : cs.set off (.prim (.int k2 n)) = cs := by
          apply List.ext_getElem?
          intro i
          by_cases hi : off = i
          ·subst hi; rw [getElem?_set_same hcell, hcell]
          ·rw [getElem?_set_ne hi]
         rw [this]
         apply List.ext_getElem?
         intro i
         by_cases hi : r1 = i
         ·subst hi; rw [getElem?_set_same hb, hb]
         ·rw [getElem?_set_ne hi]
        rw [hset]
        exact ⟨_, w, η, .inl (hexec.trans (run_call_cas_miss hf hname hbody hnext _ hfind hcc hfz hn)), hr, .prim _⟩
      ·cases h
     ·cases h
    ·cases h
   ·cases h
  ·cases h
def isNilP : AV → Bool
 | .prim (.pointer none) => true
 | _ => false
def xtra (tab : Nat → Option TD) (ρ : Operand → AV) : Op → Option AV
 | .binOp op T x y _ => (match tab T, ptrNil (ρ x), isNilP (ρ y) with
  | some d, some b, true => (match d.kind with
   | .ptr _ => (match op with
    | .eql => some (.prim (.bool b))
    | .neq => some (.prim (.bool (!b)))
    | _ => none)
   | _ => none)
  | _, _, _ => none)
 | .convert S D x => (match tab S, tab D, ρ x with
  | some _, some d, .prim (.int _ n) => (match d.kind with
   | .int k => some (.prim (.int k (k.wrap n)))
   | _ => none)
  | _, _, _ => none)
 | _ => none
theorem xtra_sound {tab : Nat → Option TD} (htab : TabOk Γ.P tab) {o : Oper} {r : AV} (h : xtra tab s.ev o.op = some r) : VRun Γ o s r := by
 generalize ho : o.op = op at h
 unfold xtra at h
 split at h
 ·rename_i bop T x y T'
  split at h
  ·rename_i d b hd hb hy
   have hy' : s.ev y = .prim (.pointer none) := by
    unfold isNilP at hy
    split at hy
    ·assumption
    ·cases hy
   split at h
   ·rename_i e hk
    have hu : Γ.P.underlying T = some (.pointer (Γ.P.pointee T)) := by
     obtain ⟨u, q2, q3⟩ := (htab T d hd).und
     rw [hk] at q3
     have : Γ.P.underlying T = some (.pointer e) := by rw [q2]; exact congrArg some q3
     rw [this, Program.pointee, this]
    split at h
    ·obtain rfl := Option.some.inj h
     refine vrun_pure fun a w η hr => ?_
     obtain ⟨p, hp, hpn⟩ := ptrNil_ok hb (hr.ev x)
     have h2 := hr.ev y
     rw [hy'] at h2
     have h2 := h2.prim_inv
     refine ⟨.bool b, ?_, .prim _⟩
     simp only [execOp, ho, hp, h2, eqGuard, Bool.not_true, Bool.false_eq_true, if_false, Sem.run_bind, Sem.run_pure, Result.andThen_ok, run_eql_pointer_nil w T p hu, hpn]
    ·obtain rfl := Option.some.inj h
     refine vrun_pure fun a w η hr => ?_
     obtain ⟨p, hp, hpn⟩ := ptrNil_ok hb (hr.ev x)
     have h2 := hr.ev y
     rw [hy'] at h2
     have h2 := h2.prim_inv
     refine ⟨.bool (!b), ?_, .prim _⟩
     simp only [execOp, ho, hp, h2, eqGuard, Bool.not_true, Bool.false_eq_true, if_false, Sem.run_bind, Sem.run_pure, Result.andThen_ok, run_neq_pointer_nil w T p hu, hpn]
    ·cases h
   ·cases h
  ·cases h
 ·rename_i S D x
  split at h
  ·rename_i d1 d k n hS hD hx
   split at h
   ·rename_i k2 hk
    obtain rfl := Option.some.inj h
    refine vrun_pure fun a w η hr => ?_
    have h1 := hr.ev x
    rw [hx] at h1
    have h1 := h1.prim_inv
    obtain ⟨u1, q1, _⟩ := (htab S d1 hS).und
    have hu : Γ.P.underlying D = some (.int k2) := by
     obtain ⟨u, q2, q3⟩ := (htab D d hD).und
     rw [hk] at q3
     rw [q2]; exact congrArg some q3
    refine ⟨.int k2 (k2.wrap n), ?_, .prim _⟩
    simp only [execOp, ho, h1, convert, Sem.run_bind, run_underlying q1, run_underlying hu, Result.andThen_ok]
    rfl
   ·cases h
  ·cases h
 ·cases h
end Go.Proofs.YtghlgbhldnkdmaaGreat
