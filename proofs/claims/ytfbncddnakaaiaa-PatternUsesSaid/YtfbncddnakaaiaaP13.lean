/- The document's Vars, All, At, Uses and Linear; PatternUses. -/
import Derived.Test.YtfbncddnakaaiaaP12
namespace Go.Proofs.Ytfbncddnakaaiaa
open Go
set_option linter.unusedSimpArgs false
set_option linter.unusedVariables false

/-! ### Vars -/

theorem rVars_calls {t : Tm} {n : Int} (ht : t.size ≤ 10000) (hk : t.Ok) : PureIs Try.prog 25 [t.enc, nI n] (errAV (t.vars n)) := by
  obtain ⟨_, _, hk3⟩ := Tm.ok_eq hk
  have hts := t.size_eq
  have hq := Tm.sizes_len t.args
  have bad : ∀ l : List Int, (if t.kind = 2 ∧ 0 ≤ n then (match varsFrom n [] t.args with | some l => (l, (0 : Int)) | none => ([], 6)) else ([], 1)) = t.vars n := fun _ => rfl
  rw [Tm.enc_eq]
  refine vc25_ok (ITE.intro (fun h => ?_) fun h => ITE.intro (fun h2 => ?_) fun h2 => ⟨rfl, ?_⟩)
  · have : ¬ t.kind = 2 := by simpa using h
    rw [Tm.vars, if_neg (fun h => this h.1)]; rfl
  · have : ¬ 0 ≤ n := by simpa using h2
    rw [Tm.vars, if_neg (fun h => this h.2)]; rfl
  · have hk2 : t.kind = 2 := by simpa using h
    have hn0 : 0 ≤ n := by simpa using h2
    rw [Tm.vars, if_pos ⟨hk2, hn0⟩]
    refine LoopP.intro (fun p : Nat × List Int => ((n, (), (), (p.1 : Int), ()), ((t.binds.map Ty.enc, t.kind, t.index, t.args.map Tm.enc, ()), encInts p.2, ())))
      (fun p => p.1 ≤ t.args.length ∧ p.2.length ≤ p.1 ∧ varsFrom n [] t.args = varsFrom n p.2 (t.args.drop p.1)) (fun p => t.args.length - p.1) (0, []) rfl ⟨Nat.zero_le _, Nat.le_refl _, rfl⟩ ?_
    intro ⟨k, acc⟩ ⟨hkl, hal, hs⟩ again hag
    dsimp only at hkl hal hs ⊢
    rw [List.length_map]
    refine ITE.intro (fun h => ?_) fun h => ?_
    · have hlt : k < t.args.length := by simpa using h
      have hm := Tm.sizes_mem (List.getElem_mem hlt)
      have hv := rvar_calls (t := t.args[k]) (by omega) (Tm.Oks_mem hk3 (List.getElem_mem hlt))
      rw [List.drop_eq_getElem_cons hlt, varsFrom] at hs
      rw [Tm.enc_eq] at hv
      refine ⟨by omega, by omega, _, _, _, _, Tm.enc_getD hlt, ?_⟩
      cases hvv : t.args[k].var with
      | none =>
        rw [hvv] at hv hs
        dsimp only at hs
        refine ⟨_, _, _, hv, ITE.pos rfl ?_⟩
        rw [hs]; rfl
      | some p =>
        obtain ⟨q, i⟩ := p
        rw [hvv] at hv hs
        dsimp only at hs
        refine ⟨_, _, _, hv, ITE.neg rfl (ITE.intro (fun h => ?_) fun h => ITE.intro (fun h2 => ?_) fun h2 => ⟨rfl, _, has_calls (by omega), ITE.intro (fun h3 => ?_) fun h3 => ⟨rfl, appOk_one rfl (by simp [encInts]; omega) (by decide), rfl, ?_⟩⟩)⟩
        · have : ¬ q = 0 := by simpa using h
          rw [if_neg (fun h => this h.1)] at hs
          rw [hs]; rfl
        · have : ¬ i < n := by simpa using h2
          rw [if_neg (fun h => this h.2.1)] at hs
          rw [hs]; rfl
        · have : i ∈ acc := List.contains_iff_mem.1 h3
          rw [if_neg (fun h => h.2.2 this)] at hs
          rw [hs]; rfl
        · have h1 : q = 0 := by simpa using h
          have h2' : i < n := by simpa using h2
          have h3' : ¬ i ∈ acc := fun hm => by rw [List.contains_iff_mem.2 hm] at h3; cases h3
          rw [if_pos ⟨h1, h2', h3'⟩] at hs
          rw [wrap_n (by omega), encInts_snoc]
          exact hag (k + 1, acc ++ [i]) ⟨by dsimp only; omega, by dsimp only; rw [List.length_append, List.length_singleton]; omega, hs⟩ (by dsimp only; omega)
    · have hle : t.args.length ≤ k := by simpa using h
      rw [List.drop_eq_nil_of_le hle, varsFrom] at hs
      refine ⟨rfl, ?_⟩
      rw [hs]; rfl

/-! ### All, At -/

mutual
def Tm.all (front : List Int) : Tm → List (List Int)
  | .mk _ _ _ a => front :: Tm.alls front 0 a
def Tm.alls (front : List Int) (n : Nat) : List Tm → List (List Int)
  | [] => []
  | t :: l => Tm.all (front ++ [(n : Int)]) t ++ Tm.alls front (n + 1) l
end
theorem Tm.all_eq (front : List Int) (t : Tm) : Tm.all front t = front :: Tm.alls front 0 t.args := by cases t; rw [Tm.all]; rfl
theorem Tm.alls_drop {front : List Int} {l : List Tm} {k : Nat} (h : k < l.length) : Tm.alls front k (l.drop k) = Tm.all (front ++ [(k : Int)]) l[k] ++ Tm.alls front (k + 1) (l.drop (k + 1)) := by
  rw [List.drop_eq_getElem_cons h, Tm.alls]
mutual
theorem Tm.all_len : ∀ (t : Tm) (front : List Int), (Tm.all front t).length ≤ t.size
  | .mk b k i a, front => by
    rw [Tm.all, Tm.size, List.length_cons]
    have := Tm.alls_len a front 0
    omega
theorem Tm.alls_len : ∀ (l : List Tm) (front : List Int) (n : Nat), (Tm.alls front n l).length ≤ Tm.sizes l
  | [], front, n => by rw [Tm.alls]; simp
  | t :: l, front, n => by
    rw [Tm.alls, Tm.sizes, List.length_append]
    have := Tm.all_len t (front ++ [(n : Int)])
    have := Tm.alls_len l front (n + 1)
    omega
end

def encP (p : List Int) : AV := .sl (encInts p)
theorem encP_cells {l : List (List Int)} : ∀ x : AV, x ∈ l.map encP → x.cells.length = 1 := by
  intro x h
  obtain ⟨t, _, rfl⟩ := List.mem_map.1 h
  rfl

theorem All_calls : ∀ (d : Nat) (t : Tm) (front : List Int), t.size ≤ d → d ≤ 100000000 → front.length + t.size ≤ 100000000 → PureIs Try.prog 84 [t.enc, .sl (encInts front)] (.sl ((Tm.all front t).map encP)) := by
  intro d
  induction d with
  | zero => intro t front h; have := t.size_pos; omega
  | succ d ih =>
    intro t front h hd hf
    have hts := t.size_eq
    have hq := Tm.sizes_len t.args
    have each : ∀ (k : Nat) (hlt : k < t.args.length), PureIs Try.prog 84 [.agg [.sl (t.args[k].binds.map Ty.enc), nI t.args[k].kind, nI t.args[k].index, .sl (t.args[k].args.map Tm.enc)], .sl (encInts front ++ [nI k])] (.sl ((Tm.all (front ++ [(k : Int)]) t.args[k]).map encP)) := by
      intro k hlt
      have hm := Tm.sizes_mem (List.getElem_mem hlt)
      have hi := ih t.args[k] (front ++ [(k : Int)]) (by omega) (by omega) (by rw [List.length_append, List.length_singleton]; omega)
      rw [Tm.enc_eq] at hi
      rw [encInts_snoc]; exact hi
    have hal := Tm.all_len t front
    rw [Tm.enc_eq]
    refine vc84_ok (ITE.intro (fun h => ?_) fun h => ?_)
    · have hlt : 0 < t.args.length := by simpa using h
      have hsp := Tm.all_eq front t
      have hd0 := Tm.alls_drop (front := front) hlt
      rw [List.drop_zero] at hd0
      rw [hd0] at hsp
      have hl0 := Tm.all_len t.args[0] (front ++ [((0 : Nat) : Int)])
      have hm0 := Tm.sizes_mem (List.getElem_mem hlt)
      refine ⟨appOk_nil encInts_cells (by rw [encInts_len]; omega) (by decide), rfl, appOk_one rfl (by simp [encInts]; omega) (by decide), by omega, by rw [List.length_map]; omega, _, _, _, _, Tm.enc_getD hlt, rfl, _, each 0 hlt,
        fun h => by rw [Tm.all_eq] at h; simp at h, appOk_mk (fun x hx => by rw [List.mem_singleton.1 hx]; rfl) encP_cells (by rw [List.length_append, List.length_map, List.length_singleton]; omega) (by decide), rfl, ?_⟩
      rw [show IntKind.wrap .i64 ((0 : Int) + 1) = ((1 : Nat) : Int) from by decide]
      refine LoopP.intro (fun p : Nat × List (List Int) => ((encInts front, (), (), (p.1 : Int), ()), ((t.binds.map Ty.enc, t.kind, t.index, t.args.map Tm.enc, ()), encInts front ++ [nI 0], p.2.map encP, ())))
        (fun p => p.1 ≤ t.args.length ∧ Tm.all front t = p.2 ++ Tm.alls front p.1 (t.args.drop p.1)) (fun p => t.args.length - p.1) (1, front :: Tm.all (front ++ [((0 : Nat) : Int)]) t.args[0]) rfl
        ⟨hlt, by rw [hsp]; rfl⟩ ?_
      intro ⟨k, acc⟩ ⟨hk, hs⟩ again hag
      dsimp only at hk hs ⊢
      rw [List.length_map]
      refine ITE.intro (fun h => ?_) fun h => ?_
      · have hlt : k < t.args.length := by simpa using h
        rw [Tm.alls_drop hlt, ← List.append_assoc] at hs
        have hle : (acc ++ Tm.all (front ++ [(k : Int)]) t.args[k]).length ≤ t.size := by
          rw [hs, List.length_append] at hal; omega
        refine ⟨appOk_nil encInts_cells (by rw [encInts_len]; omega) (by decide), rfl, appOk_one rfl (by simp [encInts]; omega) (by decide), by omega, by omega, _, _, _, _, Tm.enc_getD hlt, rfl, _, each k hlt,
          rfl, appOk_nil encP_cells (by rw [← List.map_append, List.length_map]; omega) (by decide), rfl, ?_⟩
        rw [wrap_n (by omega), ← List.map_append]
        exact hag (k + 1, acc ++ Tm.all (front ++ [(k : Int)]) t.args[k]) ⟨by dsimp only; omega, hs⟩ (by dsimp only; omega)
      · have hle : t.args.length ≤ k := by simpa using h
        rw [List.drop_eq_nil_of_le hle, Tm.alls, List.append_nil] at hs
        exact ⟨rfl, by rw [hs]⟩
    · have hz : t.args = [] := by
        have : ¬ 0 < t.args.length := by simpa using h
        exact List.eq_nil_of_length_eq_zero (by omega)
      rw [Tm.all_eq, hz, Tm.alls]; rfl

def Tm.at : Tm → List Int → Option (Tm × List Ty)
  | t, [] => some (t, t.binds)
  | t, i :: p => if 0 ≤ i then (match t.args[i.toNat]? with
    | some x => (match Tm.at x p with
      | some (y, l) => some (y, t.binds ++ l)
      | none => none)
    | none => none) else none
theorem Tm.at_nil (t : Tm) : Tm.at t [] = some (t, t.binds) := by rw [Tm.at]
theorem Tm.at_cons (t : Tm) (i : Int) (p : List Int) : Tm.at t (i :: p) = if 0 ≤ i then (match t.args[i.toNat]? with
    | some x => (match Tm.at x p with
      | some (y, l) => some (y, t.binds ++ l)
      | none => none)
    | none => none) else none := by rw [Tm.at]
theorem Tm.at_len : ∀ (p : List Int) (t x : Tm) (l : List Ty), Tm.at t p = some (x, l) → l.length ≤ t.size ∧ x.size ≤ t.size ∧ (t.Ok → x.Ok)
  | [], t, x, l, h => by
    rw [Tm.at_nil] at h
    cases h
    have := t.size_eq
    have := Ty.sizes_len t.binds
    exact ⟨by omega, by omega, id⟩
  | i :: p, t, x, l, h => by
    rw [Tm.at_cons] at h
    split at h
    · split at h
      · rename_i y hy
        have hm := List.mem_of_getElem? hy
        split at h
        · rename_i z l' hz
          cases h
          obtain ⟨h1, h2, h3⟩ := Tm.at_len p y _ _ hz
          have := Tm.sizes_mem hm
          have := t.size_eq
          have := Ty.sizes_len t.binds
          exact ⟨by rw [List.length_append]; omega, by omega, fun ho => h3 (Tm.Oks_mem (Tm.ok_eq ho).2.2 hm)⟩
        · cases h
      · cases h
    · cases h

def atAV : Option (Tm × List Ty) → AV
  | some (x, l) => .tup [x.enc, .sl (l.map Ty.enc), nB true]
  | none => .tup [(Tm.mk [] 0 0 []).enc, .sl [], nB false]

theorem At_calls : ∀ (p : List Int) (t : Tm), t.size ≤ 100000000 → p.length ≤ 1000000000 → PureIs Try.prog 85 [t.enc, .sl (encInts p)] (atAV (Tm.at t p)) := by
  intro p
  induction p with
  | nil =>
    intro t _ _
    rw [Tm.enc_eq, Tm.at_nil]
    exact vc85_ok (ITE.pos rfl (by rw [atAV, Tm.enc_eq]))
  | cons i p ih =>
    intro t ht hp
    have hts := t.size_eq
    have hq := Tm.sizes_len t.args
    rw [List.length_cons] at hp
    rw [Tm.enc_eq, Tm.at_cons]
    refine vc85_ok ?_
    unfold vc85
    rw [encInts_len, List.length_cons, List.length_map]
    refine ITE.neg (by rw [beq_eq_false_iff_ne]; omega) ⟨by omega, by omega, i, rfl, ITE.intro (fun h => ?_) fun h => ITE.intro (fun h2 => ?_) fun h2 => ?_⟩
    · have : ¬ 0 ≤ i := by simpa using h
      rw [if_neg this, atAV, zero_enc]
    · have h0 : 0 ≤ i := by simpa using h
      have : ¬ i < t.args.length := by simpa using h2
      rw [if_pos h0, List.getElem?_eq_none (by omega), atAV, zero_enc]
    · have h0 : 0 ≤ i := by simpa using h
      have h1 : i < t.args.length := by simpa using h2
      obtain ⟨k, rfl⟩ : ∃ k : Nat, i = (k : Int) := ⟨i.toNat, by omega⟩
      have hlt : k < t.args.length := by omega
      have hm := Tm.sizes_mem (List.getElem_mem hlt)
      have hi := ih t.args[k] (by omega) (by omega)
      have hcut : List.drop (Int.toNat 1) (List.take (Int.toNat ((p.length + 1 : Nat) : Int)) (encInts ((k : Int) :: p))) = encInts p := by
        rw [Int.toNat_natCast, List.take_of_length_le (by rw [encInts_len, List.length_cons]; omega)]; rfl
      rw [if_pos h0, Int.toNat_natCast, List.getElem?_eq_getElem hlt, hcut]
      rw [Tm.enc_eq] at hi
      refine ⟨by omega, by omega, _, _, _, _, Tm.enc_getD hlt, ⟨by omega, by omega, by omega, encInts_cells⟩, ?_⟩
      dsimp only
      cases hat : Tm.at t.args[k] p with
      | none =>
        rw [hat, atAV, zero_enc] at hi
        refine ⟨_, _, _, _, _, _, hi, ITE.pos rfl ?_⟩
        dsimp only
        rw [atAV, zero_enc]
      | some r =>
        obtain ⟨x, l⟩ := r
        have hal := Tm.at_len p _ _ _ hat
        have hqb := Ty.sizes_len t.binds
        rw [hat, atAV, Tm.enc_eq x] at hi
        refine ⟨_, _, _, _, _, _, hi, ITE.neg rfl ⟨_, behind_calls (by omega) (by omega), ?_⟩⟩
        dsimp only
        rw [atAV, Tm.enc_eq]

/-! ### All spots of a term, with what is around them -/

abbrev Spot := Tm × List Ty × List Int
mutual
def Tm.spots (around : List Ty) (path : List Int) : Tm → List Spot
  | .mk b k i a => (.mk b k i a, around ++ b, path) :: Tm.spotss (around ++ b) path 0 a
def Tm.spotss (around : List Ty) (path : List Int) (n : Nat) : List Tm → List Spot
  | [] => []
  | t :: l => Tm.spots around (path ++ [(n : Int)]) t ++ Tm.spotss around path (n + 1) l
end
mutual
theorem Tm.spots_all : ∀ (t : Tm) (around : List Ty) (path : List Int), (Tm.spots around path t).map (fun s => s.2.2) = Tm.all path t
  | .mk b k i a, around, path => by rw [Tm.spots, Tm.all, List.map_cons, Tm.spotss_all a]
theorem Tm.spotss_all : ∀ (l : List Tm) (around : List Ty) (path : List Int) (n : Nat), (Tm.spotss around path n l).map (fun s => s.2.2) = Tm.alls path n l
  | [], around, path, n => by rw [Tm.spotss, Tm.alls]; rfl
  | t :: l, around, path, n => by rw [Tm.spotss, Tm.alls, List.map_append, Tm.spots_all t, Tm.spotss_all l]
end
mutual
theorem Tm.spots_at : ∀ (t : Tm) (around : List Ty) (path : List Int) (s : Spot), s ∈ Tm.spots around path t → ∃ q l, s.2.2 = path ++ q ∧ Tm.at t q = some (s.1, l) ∧ s.2.1 = around ++ l
  | .mk b k i a, around, path, s, h => by
    rw [Tm.spots] at h
    rcases List.mem_cons.1 h with rfl | h
    · exact ⟨[], b, by simp, by rw [Tm.at_nil]; rfl, rfl⟩
    · obtain ⟨j, x, q, l, h1, h2, h3, h4⟩ := Tm.spotss_at a (around ++ b) path 0 s h
      refine ⟨((j : Nat) : Int) :: q, b ++ l, by simpa using h2, ?_, by rw [h4, List.append_assoc]⟩
      rw [Tm.at_cons, if_pos (by omega), Int.toNat_natCast, Tm.args_mk, h1]
      dsimp only
      rw [h3, Tm.binds_mk]
theorem Tm.spotss_at : ∀ (l : List Tm) (around : List Ty) (path : List Int) (n : Nat) (s : Spot), s ∈ Tm.spotss around path n l →
    ∃ (j : Nat) (x : Tm) (q : List Int) (m : List Ty), l[j]? = some x ∧ s.2.2 = path ++ (((n + j : Nat) : Int) :: q) ∧ Tm.at x q = some (s.1, m) ∧ s.2.1 = around ++ m
  | [], around, path, n, s, h => by rw [Tm.spotss] at h; cases h
  | t :: l, around, path, n, s, h => by
    rw [Tm.spotss] at h
    rcases List.mem_append.1 h with h | h
    · obtain ⟨q, m, h1, h2, h3⟩ := Tm.spots_at t around (path ++ [(n : Int)]) s h
      exact ⟨0, t, q, m, rfl, by rw [h1]; simp, h2, h3⟩
    · obtain ⟨j, x, q, m, h1, h2, h3, h4⟩ := Tm.spotss_at l around path (n + 1) s h
      exact ⟨j + 1, x, q, m, h1, by rw [h2, show n + 1 + j = n + (j + 1) by omega], h3, h4⟩
end

def foldU : List Spot → List Us → Option (List Us)
  | [], acc => some acc
  | (x, ar, p) :: r, acc => if x.kind = 2 then (match x.vars ar.length with
    | (v, e) => if e = 0 then foldU r (acc ++ [⟨x.index, v, ar, p⟩]) else none) else foldU r acc

mutual
def Tm.noMeta : Tm → Bool
  | .mk _ k _ a => !(k == 2) && Tm.noMetas a
def Tm.noMetas : List Tm → Bool
  | [] => true
  | t :: l => Tm.noMeta t && Tm.noMetas l
end
mutual
theorem foldU_noMeta : ∀ (t : Tm) (around : List Ty) (path : List Int) (r : List Spot) (acc : List Us), t.noMeta = true → foldU (Tm.spots around path t ++ r) acc = foldU r acc
  | .mk b k i a, around, path, r, acc, h => by
    rw [Tm.noMeta, Bool.and_eq_true] at h
    have hk : ¬ k = 2 := by simpa using h.1
    rw [Tm.spots, List.cons_append, foldU, Tm.kind_mk, if_neg hk, foldU_noMetas a _ _ _ _ _ h.2]
theorem foldU_noMetas : ∀ (l : List Tm) (around : List Ty) (path : List Int) (n : Nat) (r : List Spot) (acc : List Us), Tm.noMetas l = true → foldU (Tm.spotss around path n l ++ r) acc = foldU r acc
  | [], around, path, n, r, acc, _ => by rw [Tm.spotss, List.nil_append]
  | t :: l, around, path, n, r, acc, h => by
    rw [Tm.noMetas, Bool.and_eq_true] at h
    rw [Tm.spotss, List.append_assoc, foldU_noMeta t _ _ _ _ h.1, foldU_noMetas l _ _ _ _ _ h.2]
end
mutual
theorem var_noMeta : ∀ (a : Tm) (j : Int), Tm.var a = some (0, j) → a.noMeta = true
  | .mk b k i a, j, h => by
    rw [Tm.var_eq] at h
    split at h
    · rename_i hc
      split at h
      · rename_i hv
        simp only [Option.some.injEq, Prod.mk.injEq] at h
        have hk : k = 0 := h.1
        rw [Tm.noMeta, Bool.and_eq_true]
        exact ⟨by rw [hk]; rfl, varArgs_noMeta b a _ _ hc.1.symm hv⟩
      · cases h
    · cases h
theorem varArgs_noMeta : ∀ (b : List Ty) (l : List Tm) (n k : Nat), b.length = l.length → Tm.varArgs n k b l = true → Tm.noMetas l = true
  | _, [], _, _, _, _ => by rw [Tm.noMetas]
  | [], _ :: _, _, _, h, _ => by simp at h
  | t :: b, a :: l, n, k, h, hv => by
    rw [Tm.varArgs, Bool.and_eq_true] at hv
    rw [Tm.noMetas, Bool.and_eq_true]
    refine ⟨?_, varArgs_noMeta b l n (k + 1) (by simpa using h) hv.2⟩
    cases hva : Tm.var a with
    | none => rw [hva] at hv; exact absurd hv.1 (by simp)
    | some p =>
      obtain ⟨q, j⟩ := p
      rw [hva] at hv
      have hq : q = 0 := by
        have := hv.1
        simp only [Bool.and_eq_true, beq_iff_eq] at this
        exact this.1.1
      subst hq
      exact var_noMeta a j hva
end
theorem varsFrom_noMeta {n : Int} : ∀ {l : List Tm} {acc v : List Int}, varsFrom n acc l = some v → Tm.noMetas l = true
  | [], acc, v, _ => by rw [Tm.noMetas]
  | a :: l, acc, v, h => by
    rw [varsFrom] at h
    split at h
    · rename_i k i hv
      split at h
      · rename_i hc
        rw [Tm.noMetas, Bool.and_eq_true]
        rw [hc.1] at hv
        exact ⟨var_noMeta a i hv, varsFrom_noMeta h⟩
      · cases h
    · cases h

mutual
theorem foldU_uses : ∀ (t : Tm) (around : List Ty) (path : List Int) (r : List Spot) (acc : List Us), foldU (Tm.spots around path t ++ r) acc = (match Tm.uses around path t with
    | some us => foldU r (acc ++ us)
    | none => none)
  | .mk b k i a, around, path, r, acc => by
    rw [Tm.spots, List.cons_append, foldU, Tm.uses, Tm.kind_mk]
    by_cases hk : k = 2
    · rw [if_pos hk, if_pos hk]
      dsimp only
      by_cases he : (Tm.vars (.mk b k i a) (around ++ b).length).2 = 0
      · rw [if_pos he, if_pos he]
        dsimp only
        rw [foldU_noMetas a]
        · rfl
        · rw [Tm.vars] at he
          split at he
          · split at he
            · rename_i v hv
              exact varsFrom_noMeta hv
            · exact absurd he (by decide)
          · exact absurd he (by decide)
      · rw [if_neg he, if_neg he]
    · rw [if_neg hk, if_neg hk, foldU_usess a]
theorem foldU_usess : ∀ (l : List Tm) (around : List Ty) (path : List Int) (n : Nat) (r : List Spot) (acc : List Us), foldU (Tm.spotss around path n l ++ r) acc = (match Tm.usess around path n l with
    | some us => foldU r (acc ++ us)
    | none => none)
  | [], around, path, n, r, acc => by
    rw [Tm.spotss, Tm.usess, List.nil_append]
    dsimp only
    rw [List.append_nil]
  | t :: l, around, path, n, r, acc => by
    rw [Tm.spotss, Tm.usess, List.append_assoc, foldU_uses t]
    cases Tm.uses around (path ++ [(n : Int)]) t with
    | none => rfl
    | some u =>
      dsimp only
      rw [foldU_usess l]
      cases Tm.usess around path (n + 1) l with
      | none => rfl
      | some us => dsimp only; rw [List.append_assoc]
end
theorem uses_fold (t : Tm) : foldU (Tm.spots [] [] t) [] = Tm.uses [] [] t := by
  have h := foldU_uses t [] [] [] []
  rw [List.append_nil] at h
  rw [h]
  cases Tm.uses [] [] t with
  | none => rfl
  | some us => rfl

end Go.Proofs.Ytfbncddnakaaiaa
