/- Texts of ours laid together for a claim: P01 P50 P02 P03 P04 P05 P06 P07 P08 P09 P15 P17 P18 P20 P23 P25 P10 P11 P35 P51 P52. -/
import Derived.KernelRfl
import Derived.Test.YtghlgbhldnkdmaaGreatQ42
namespace Go.Proofs.YtghlgbhldnkdmaaGreat
open Go
set_option linter.unusedSimpArgs false
set_option linter.unusedVariables false
theorem wrap_i {n : Int} (h1 : -9223372036854775808 ≤ n) (h2 : n < 9223372036854775808) : IntKind.wrap .i64 n = n := IntWalk.i64_in _ (by omega)
theorem wrap_n {k : Nat} (h : k ≤ 4000000000) : IntKind.wrap .i64 ((k : Int) + 1) = ((k + 1 : Nat) : Int) := wrap_succ (by omega)
theorem appOk_mk {d : TD} {n : Nat} {els els2 : List AV} (h1 : ∀ x : AV, x ∈ els → x.cells.length = d.size) (h2 : ∀ x : AV, x ∈ els2 → x.cells.length = d.size) (hn : n ≤ 4000000000) (hb : d.bytes ≤ 1000) : appOk d n els els2 := by
 refine ⟨h1, h2, ?_, ?_⟩
 ·simp only [maxLen]; omega
 ·have := Nat.mul_le_mul hn hb; omega
theorem appOk_nil {d : TD} {n : Nat} {els2 : List AV} (h2 : ∀ x : AV, x ∈ els2 → x.cells.length = d.size) (hn : n ≤ 4000000000) (hb : d.bytes ≤ 1000) : appOk d n [] els2 :=
 appOk_mk (fun x hx => by cases hx) h2 hn hb
theorem appOk_one {d : TD} {n : Nat} {x : AV} (h2 : x.cells.length = d.size) (hn : n ≤ 4000000000) (hb : d.bytes ≤ 1000) : appOk d n [] [x] :=
 appOk_nil (fun y hy => by rw [List.mem_singleton.1 hy]; exact h2) hn hb
theorem getD_map {α : Type} {f : α → AV} {l : List α} {k : Nat} (h : k < l.length) : List.getD (l.map f) (Int.toNat (k : Int)) .top = f l[k] := by simp [List.getD, h]
def encInts (l : List Int) : List AV := l.map nI
theorem encInts_len (l : List Int) : (encInts l).length = l.length := by simp [encInts]
theorem encInts_getD {l : List Int} {k : Nat} (h : k < l.length) : List.getD (encInts l) (Int.toNat (k : Int)) .top = nI l[k] := getD_map h
theorem encInts_snoc (l : List Int) (i : Int) : encInts l ++ [nI i] = encInts (l ++ [i]) := by simp [encInts]
theorem encInts_cells {l : List Int} : ∀ x : AV, x ∈ encInts l → x.cells.length = 1 := by
 intro x hx
 obtain ⟨t, _, rfl⟩ := List.mem_map.1 hx
 rfl
def likes : List Int → List Int → Bool
 | [], [] => true
 | a :: l, b :: m => (a == b) && likes l m
 | _, _ => false
theorem likes_eq (l m : List Int) : likes l m = decide (l = m) := by
 induction l generalizing m with
 | nil => cases m <;> simp [likes]
 | cons a l ih => cases m with
  | nil => simp [likes]
  | cons b m =>
   rw [likes, ih]
   by_cases h1 : a = b <;> by_cases h2 : l = m <;> simp [h1, h2]
inductive Ty where
 | mk (args : List Ty) (base : Int)
mutual
def Ty.enc : Ty → AV
 | .mk l b => .agg [.sl (Ty.encs l), nI b]
def Ty.encs : List Ty → List AV
 | [] => []
 | t :: l => Ty.enc t :: Ty.encs l
end
mutual
def Ty.size : Ty → Nat
 | .mk l _ => 1 + Ty.sizes l
def Ty.sizes : List Ty → Nat
 | [] => 0
 | t :: l => Ty.size t + Ty.sizes l
end
def Ty.args : Ty → List Ty | .mk l _ => l
def Ty.base : Ty → Int | .mk _ b => b
theorem Ty.args_mk (a : List Ty) (b : Int) : (Ty.mk a b).args = a := rfl
theorem Ty.base_mk (a : List Ty) (b : Int) : (Ty.mk a b).base = b := rfl
theorem Ty.encs_eq (l : List Ty) : Ty.encs l = l.map Ty.enc := by
 induction l with
 | nil => rfl
 | cons t l ih => simp [Ty.encs, ih]
theorem Ty.enc_eq (t : Ty) : t.enc = .agg [.sl (t.args.map Ty.enc), nI t.base] := by cases t; simp [Ty.enc, Ty.encs_eq, Ty.args, Ty.base]
theorem Ty.enc_mk (l : List Ty) (b : Int) : (Ty.mk l b).enc = .agg [.sl (l.map Ty.enc), nI b] := Ty.enc_eq _
theorem Ty.enc_getD {l : List Ty} {k : Nat} (h : k < l.length) : List.getD (l.map Ty.enc) (Int.toNat (k : Int)) .top = .agg [.sl (l[k].args.map Ty.enc), nI l[k].base] := by rw [getD_map h, Ty.enc_eq]
theorem Ty.size_eq (t : Ty) : t.size = 1 + Ty.sizes t.args := by cases t; rfl
theorem Ty.size_pos (t : Ty) : 1 ≤ t.size := by rw [t.size_eq]; omega
theorem Ty.sizes_len (l : List Ty) : l.length ≤ Ty.sizes l := by
 induction l with
 | nil => simp [Ty.sizes]
 | cons t l ih => have := t.size_pos; simp [Ty.sizes]; omega
theorem Ty.sizes_append (l m : List Ty) : Ty.sizes (l ++ m) = Ty.sizes l + Ty.sizes m := by
 induction l with
 | nil => simp [Ty.sizes]
 | cons t l ih => simp [Ty.sizes, ih]; omega
theorem Ty.sizes_mem {l : List Ty} {t : Ty} (h : t ∈ l) : t.size ≤ Ty.sizes l := by
 induction l with
 | nil => cases h
 | cons u l ih =>
  simp only [Ty.sizes]
  rcases List.mem_cons.1 h with rfl | h1
  ·omega
  ·have := ih h1; omega
theorem Ty.arg_size {t : Ty} {k : Nat} (h : k < t.args.length) : t.args[k].size < t.size := by
 have := Ty.sizes_mem (List.getElem_mem h)
 rw [t.size_eq]; omega
theorem Ty.enc_len (t : Ty) : t.enc.cells.length = 2 := by cases t; rfl
theorem Ty.enc_cells {l : List Ty} : ∀ x : AV, x ∈ l.map Ty.enc → x.cells.length = 2 := by
 intro x h
 obtain ⟨t, _, rfl⟩ := List.mem_map.1 h
 exact t.enc_len
theorem Ty.enc_snoc (l : List Ty) (t : Ty) : l.map Ty.enc ++ [.agg [.sl (t.args.map Ty.enc), nI t.base]] = (l ++ [t]).map Ty.enc := by rw [← Ty.enc_eq]; simp
mutual
def Ty.same : Ty → Ty → Bool
 | .mk l a, .mk m b => (a == b) && Ty.sames l m
def Ty.sames : List Ty → List Ty → Bool
 | [], [] => true
 | t :: l, u :: m => Ty.same t u && Ty.sames l m
 | _, _ => false
end
theorem Ty.same_eq (t u : Ty) : Ty.same t u = ((t.base == u.base) && Ty.sames t.args u.args) := by cases t; cases u; simp [Ty.same, Ty.base, Ty.args]
theorem Ty.sames_drop {l m : List Ty} {k : Nat} (h1 : k < l.length) (h2 : k < m.length) : Ty.sames (l.drop k) (m.drop k) = (Ty.same l[k] m[k] && Ty.sames (l.drop (k + 1)) (m.drop (k + 1))) := by
 rw [List.drop_eq_getElem_cons h1, List.drop_eq_getElem_cons h2, Ty.sames]
theorem Ty.sames_len {l m : List Ty} (h : ¬ l.length = m.length) : Ty.sames l m = false := by
 induction l generalizing m with
 | nil => cases m with
  | nil => exact (h rfl).elim
  | cons => simp [Ty.sames]
 | cons t l ih => cases m with
  | nil => simp [Ty.sames]
  | cons u m => simp [Ty.sames, ih (m := m) (by simpa using h)]
mutual
theorem Ty.same_iff : ∀ (t u : Ty), Ty.same t u = true ↔ t = u
 | .mk l a, .mk m b => by rw [Ty.same, Bool.and_eq_true, beq_iff_eq, Ty.sames_iff l m]; simp only [Ty.mk.injEq]; exact ⟨fun h => ⟨h.2, h.1⟩, fun h => ⟨h.2, h.1⟩⟩
theorem Ty.sames_iff : ∀ (l m : List Ty), Ty.sames l m = true ↔ l = m
 | [], [] => by simp [Ty.sames]
 | [], _ :: _ => by simp [Ty.sames]
 | _ :: _, [] => by simp [Ty.sames]
 | t :: l, u :: m => by rw [Ty.sames, Bool.and_eq_true, Ty.same_iff t u, Ty.sames_iff l m]; simp
end
inductive Tm where
 | mk (binds : List Ty) (kind index : Int) (args : List Tm)
mutual
def Tm.enc : Tm → AV
 | .mk b k i a => .agg [.sl (b.map Ty.enc), nI k, nI i, .sl (Tm.encs a)]
def Tm.encs : List Tm → List AV
 | [] => []
 | t :: l => Tm.enc t :: Tm.encs l
end
mutual
def Tm.size : Tm → Nat
 | .mk b _ _ a => 1 + Ty.sizes b + Tm.sizes a
def Tm.sizes : List Tm → Nat
 | [] => 0
 | t :: l => Tm.size t + Tm.sizes l
end
def Tm.binds : Tm → List Ty | .mk b _ _ _ => b
def Tm.kind : Tm → Int | .mk _ k _ _ => k
def Tm.index : Tm → Int | .mk _ _ i _ => i
def Tm.args : Tm → List Tm | .mk _ _ _ a => a
theorem Tm.binds_mk (b : List Ty) (k i : Int) (a : List Tm) : (Tm.mk b k i a).binds = b := rfl
theorem Tm.kind_mk (b : List Ty) (k i : Int) (a : List Tm) : (Tm.mk b k i a).kind = k := rfl
theorem Tm.index_mk (b : List Ty) (k i : Int) (a : List Tm) : (Tm.mk b k i a).index = i := rfl
theorem Tm.args_mk (b : List Ty) (k i : Int) (a : List Tm) : (Tm.mk b k i a).args = a := rfl
theorem Tm.encs_eq (l : List Tm) : Tm.encs l = l.map Tm.enc := by
 induction l with
 | nil => rfl
 | cons t l ih => simp [Tm.encs, ih]
theorem Tm.enc_eq (t : Tm) : t.enc = .agg [.sl (t.binds.map Ty.enc), nI t.kind, nI t.index, .sl (t.args.map Tm.enc)] := by cases t; simp [Tm.enc, Tm.encs_eq, Tm.binds, Tm.kind, Tm.index, Tm.args]
theorem Tm.enc_mk (b : List Ty) (k i : Int) (a : List Tm) : (Tm.mk b k i a).enc = .agg [.sl (b.map Ty.enc), nI k, nI i, .sl (a.map Tm.enc)] := Tm.enc_eq _
theorem Tm.enc_getD {l : List Tm} {k : Nat} (h : k < l.length) : List.getD (l.map Tm.enc) (Int.toNat (k : Int)) .top = .agg [.sl (l[k].binds.map Ty.enc), nI l[k].kind, nI l[k].index, .sl (l[k].args.map Tm.enc)] := by rw [getD_map h, Tm.enc_eq]
theorem Tm.size_eq (t : Tm) : t.size = 1 + Ty.sizes t.binds + Tm.sizes t.args := by cases t; rfl
theorem Tm.size_pos (t : Tm) : 1 ≤ t.size := by rw [t.size_eq]; omega
theorem Tm.sizes_len (l : List Tm) : l.length ≤ Tm.sizes l := by
 induction l with
 | nil => simp [Tm.sizes]
 | cons t l ih => have := t.size_pos; simp [Tm.sizes]; omega
theorem Tm.sizes_append (l m : List Tm) : Tm.sizes (l ++ m) = Tm.sizes l + Tm.sizes m := by
 induction l with
 | nil => simp [Tm.sizes]
 | cons t l ih => simp [Tm.sizes, ih]; omega
theorem Tm.sizes_mem {l : List Tm} {t : Tm} (h : t ∈ l) : t.size ≤ Tm.sizes l := by
 induction l with
 | nil => cases h
 | cons u l ih =>
  simp only [Tm.sizes]
  rcases List.mem_cons.1 h with rfl | h1
  ·omega
  ·have := ih h1; omega
theorem Tm.arg_size {t : Tm} {k : Nat} (h : k < t.args.length) : t.args[k].size < t.size := by
 have := Tm.sizes_mem (List.getElem_mem h)
 rw [t.size_eq]; omega
theorem Tm.enc_snoc (l : List Tm) (t : Tm) : l.map Tm.enc ++ [.agg [.sl (t.binds.map Ty.enc), nI t.kind, nI t.index, .sl (t.args.map Tm.enc)]] = (l ++ [t]).map Tm.enc := by rw [← Tm.enc_eq]; simp
theorem take_snoc' {α : Type} {l : List α} {k : Nat} (h : k < l.length) : l.take k ++ [l[k]] = l.take (k + 1) := by rw [List.take_succ_eq_append_getElem h]
end Go.Proofs.YtghlgbhldnkdmaaGreat

namespace Go.Proofs.YtghlgbhldnkdmaaGreat
open Go
set_option linter.unusedSimpArgs false
set_option linter.unusedVariables false
inductive La where
 | var (i : Nat)
 | con (k i : Int)
 | lam (t : Ty) (b : La)
 | app (f a : La)
def upR (ρ : Nat → Nat) : Nat → Nat
 | 0 => 0
 | i + 1 => ρ i + 1
def La.ren : La → (Nat → Nat) → La
 | .var i, ρ => .var (ρ i)
 | .con k i, _ => .con k i
 | .lam t b, ρ => .lam t (b.ren (upR ρ))
 | .app f a, ρ => .app (f.ren ρ) (a.ren ρ)
def up (σ : Nat → La) : Nat → La
 | 0 => .var 0
 | i + 1 => (σ i).ren (· + 1)
def La.sub : La → (Nat → La) → La
 | .var i, σ => σ i
 | .con k i, _ => .con k i
 | .lam t b, σ => .lam t (b.sub (up σ))
 | .app f a, σ => .app (f.sub σ) (a.sub σ)
theorem La.ren_ext : ∀ (t : La) {ρ ρ' : Nat → Nat}, (∀ i, ρ i = ρ' i) → t.ren ρ = t.ren ρ'
 | .var i, _, _, h => by rw [La.ren, La.ren, h]
 | .con k i, _, _, h => rfl
 | .lam t b, ρ, ρ', h => by
  rw [La.ren, La.ren, La.ren_ext b]
  intro i; cases i with
  | zero => rfl
  | succ i => show ρ i + 1 = ρ' i + 1; rw [h]
 | .app f a, _, _, h => by rw [La.ren, La.ren, La.ren_ext f h, La.ren_ext a h]
theorem La.sub_ext : ∀ (t : La) {σ τ : Nat → La}, (∀ i, σ i = τ i) → t.sub σ = t.sub τ
 | .var i, _, _, h => h i
 | .con k i, _, _, h => rfl
 | .lam t b, σ, τ, h => by
  rw [La.sub, La.sub, La.sub_ext b]
  intro i; cases i with
  | zero => rfl
  | succ i => show (σ i).ren _ = (τ i).ren _; rw [h]
 | .app f a, _, _, h => by rw [La.sub, La.sub, La.sub_ext f h, La.sub_ext a h]
theorem La.ren_ren : ∀ (t : La) (ρ ρ' : Nat → Nat), (t.ren ρ).ren ρ' = t.ren (fun i => ρ' (ρ i))
 | .var i, _, _ => rfl
 | .con k i, _, _ => rfl
 | .lam t b, ρ, ρ' => by
  rw [La.ren, La.ren, La.ren, La.ren_ren b]
  congr 1
  exact La.ren_ext b fun i => by cases i <;> rfl
 | .app f a, _, _ => by rw [La.ren, La.ren, La.ren, La.ren_ren f, La.ren_ren a]
theorem La.sub_ren : ∀ (t : La) (ρ : Nat → Nat) (σ : Nat → La), (t.ren ρ).sub σ = t.sub (fun i => σ (ρ i))
 | .var i, _, _ => rfl
 | .con k i, _, _ => rfl
 | .lam t b, ρ, σ => by
  rw [La.ren, La.sub, La.sub, La.sub_ren b]
  congr 1
  exact La.sub_ext b fun i => by cases i <;> rfl
 | .app f a, _, _ => by rw [La.ren, La.sub, La.sub, La.sub_ren f, La.sub_ren a]
theorem La.ren_sub : ∀ (t : La) (σ : Nat → La) (ρ : Nat → Nat), (t.sub σ).ren ρ = t.sub (fun i => (σ i).ren ρ)
 | .var i, _, _ => rfl
 | .con k i, _, _ => rfl
 | .lam t b, σ, ρ => by
  rw [La.sub, La.ren, La.sub, La.ren_sub b]
  congr 1
  refine La.sub_ext b fun i => ?_
  cases i with
  | zero => rfl
  | succ i => show ((σ i).ren _).ren _ = ((σ i).ren _).ren _; rw [La.ren_ren, La.ren_ren]; exact La.ren_ext _ fun j => rfl
 | .app f a, _, _ => by rw [La.sub, La.ren, La.sub, La.ren_sub f, La.ren_sub a]
theorem La.sub_sub : ∀ (t : La) (σ τ : Nat → La), (t.sub σ).sub τ = t.sub (fun i => (σ i).sub τ)
 | .var i, _, _ => rfl
 | .con k i, _, _ => rfl
 | .lam t b, σ, τ => by
  rw [La.sub, La.sub, La.sub, La.sub_sub b]
  congr 1
  refine La.sub_ext b fun i => ?_
  cases i with
  | zero => rfl
  | succ i => show ((σ i).ren _).sub _ = ((σ i).sub _).ren _; rw [La.sub_ren, La.ren_sub]; exact La.sub_ext _ fun j => rfl
 | .app f a, _, _ => by rw [La.sub, La.sub, La.sub, La.sub_sub f, La.sub_sub a]
theorem La.sub_var : ∀ (t : La), t.sub .var = t
 | .var i => rfl
 | .con k i => rfl
 | .lam t b => by
  rw [La.sub]
  congr 1
  exact (La.sub_ext b fun i => by cases i <;> rfl).trans (La.sub_var b)
 | .app f a => by rw [La.sub, La.sub_var f, La.sub_var a]
theorem La.ren_id (t : La) {ρ : Nat → Nat} (h : ∀ i, ρ i = i) : t.ren ρ = t := by
 have e := La.sub_ren t ρ .var
 rw [La.sub_var] at e
 rw [e]
 exact (La.sub_ext t fun i => by rw [h]).trans (La.sub_var t)
theorem La.ren_eq (t : La) (ρ : Nat → Nat) : t.ren ρ = t.sub (fun i => .var (ρ i)) := by
 have e := La.sub_ren t ρ .var
 rw [La.sub_var] at e; exact e
def one (a : La) : Nat → La
 | 0 => a
 | i + 1 => .var i
inductive Conv : La → La → Prop
 | beta (t : Ty) (b a : La) : Conv (.app (.lam t b) a) (b.sub (one a))
 | refl (a : La) : Conv a a
 | symm {a b : La} : Conv a b → Conv b a
 | trans {a b c : La} : Conv a b → Conv b c → Conv a c
 | lam {t : Ty} {a b : La} : Conv a b → Conv (.lam t a) (.lam t b)
 | app {f g a b : La} : Conv f g → Conv a b → Conv (.app f a) (.app g b)
theorem Conv.of_eq {a b : La} (h : a = b) : Conv a b := h ▸ .refl a
theorem beta_sub (b a : La) (σ : Nat → La) : (b.sub (one a)).sub σ = (b.sub (up σ)).sub (one (a.sub σ)) := by
 rw [La.sub_sub, La.sub_sub]
 refine La.sub_ext b fun i => ?_
 cases i with
 | zero => rfl
 | succ i =>
  show σ i = ((σ i).ren _).sub _
  rw [La.sub_ren]
  exact (La.sub_var (σ i)).symm
theorem Conv.sub {a b : La} (h : Conv a b) : ∀ σ, Conv (a.sub σ) (b.sub σ) := by
 induction h with
 | beta t b a => intro σ; rw [beta_sub]; exact .beta t _ _
 | refl a => intro σ; exact .refl _
 | symm _ ih => intro σ; exact (ih σ).symm
 | trans _ _ ih1 ih2 => intro σ; exact (ih1 σ).trans (ih2 σ)
 | lam _ ih => intro σ; exact .lam (ih _)
 | app _ _ ih1 ih2 => intro σ; exact .app (ih1 σ) (ih2 σ)
theorem Conv.ren {a b : La} (h : Conv a b) (ρ : Nat → Nat) : Conv (a.ren ρ) (b.ren ρ) := by rw [La.ren_eq, La.ren_eq]; exact h.sub _
theorem Conv.up {σ τ : Nat → La} (h : ∀ i, Conv (σ i) (τ i)) : ∀ i, Conv (up σ i) (up τ i)
 | 0 => .refl _
 | i + 1 => (h i).ren _
inductive Par : La → La → Prop
 | var (i : Nat) : Par (.var i) (.var i)
 | con (k i : Int) : Par (.con k i) (.con k i)
 | lam {t : Ty} {a b : La} : Par a b → Par (.lam t a) (.lam t b)
 | app {f g a b : La} : Par f g → Par a b → Par (.app f a) (.app g b)
 | beta {t : Ty} {b c a d : La} : Par b c → Par a d → Par (.app (.lam t b) a) (c.sub (one d))
theorem Par.refl : ∀ (a : La), Par a a
 | .var i => .var i
 | .con k i => .con k i
 | .lam t b => .lam (Par.refl b)
 | .app f a => .app (Par.refl f) (Par.refl a)
theorem Par.sub' {a b : La} (h : Par a b) : ∀ {σ τ : Nat → La}, (∀ i, Par (σ i) (τ i)) → (∀ i (ρ : Nat → Nat), Par ((σ i).ren ρ) ((τ i).ren ρ)) → Par (a.sub σ) (b.sub τ) := by
 have upP : ∀ {σ τ : Nat → La}, (∀ i (ρ : Nat → Nat), Par ((σ i).ren ρ) ((τ i).ren ρ)) → (∀ i, Par (up σ i) (up τ i)) ∧ ∀ i (ρ : Nat → Nat), Par ((up σ i).ren ρ) ((up τ i).ren ρ) := by
  intro σ τ h
  refine ⟨fun i => ?_, fun i ρ => ?_⟩
  ·cases i with
   | zero => exact .var 0
   | succ i => exact h i _
  ·cases i with
   | zero => exact .var _
   | succ i => show Par (((σ i).ren _).ren _) (((τ i).ren _).ren _); rw [La.ren_ren, La.ren_ren]; exact h i _
 induction h with
 | var i => intro σ τ h1 h2; exact h1 i
 | con k i => intro σ τ h1 h2; exact .con k i
 | lam _ ih => intro σ τ h1 h2; exact .lam (ih (upP h2).1 (upP h2).2)
 | app _ _ ih1 ih2 => intro σ τ h1 h2; exact .app (ih1 h1 h2) (ih2 h1 h2)
 | beta _ _ ih1 ih2 => intro σ τ h1 h2; rw [beta_sub]; exact .beta (ih1 (upP h2).1 (upP h2).2) (ih2 h1 h2)
theorem Par.ren {a b : La} (h : Par a b) (ρ : Nat → Nat) : Par (a.ren ρ) (b.ren ρ) := by
 rw [La.ren_eq, La.ren_eq]
 exact h.sub' (fun i => .var _) fun i ρ => .var _
theorem Par.sub {a b : La} (h : Par a b) {σ τ : Nat → La} (hs : ∀ i, Par (σ i) (τ i)) : Par (a.sub σ) (b.sub τ) := h.sub' hs fun i ρ => (hs i).ren ρ
theorem Par.one {a b : La} (h : Par a b) : ∀ i, Par (one a i) (one b i)
 | 0 => h
 | i + 1 => .var i
def La.dev : La → La
 | .var i => .var i
 | .con k i => .con k i
 | .lam t b => .lam t b.dev
 | .app (.lam _ b) a => b.dev.sub (Go.Proofs.YtghlgbhldnkdmaaGreat.one a.dev)
 | .app (.var i) a => .app (.var i) a.dev
 | .app (.con k i) a => .app (.con k i) a.dev
 | .app (.app f b) a => .app (La.dev (.app f b)) a.dev
theorem Par.dev {a b : La} (h : Par a b) : Par b a.dev := by
 induction h with
 | var i => exact .var i
 | con k i => exact .con k i
 | lam _ ih => exact .lam ih
 | app h1 _ ih1 ih2 =>
  rename_i f g a b h2
  cases f with
  | var i => exact .app ih1 ih2
  | con k i => exact .app ih1 ih2
  | app f b => exact .app ih1 ih2
  | lam t c =>
   cases h1 with
   | lam h1 =>
    cases ih1 with
    | lam ih1 => exact .beta ih1 ih2
 | beta _ _ ih1 ih2 => exact ih1.sub ih2.one
inductive Pars : La → La → Prop
 | refl (a : La) : Pars a a
 | step {a b c : La} : Par a b → Pars b c → Pars a c
theorem Pars.strip {a b c : La} (h : Pars a c) (hb : Par a b) : ∃ d, Pars b d ∧ Par c d := by
 induction h generalizing b with
 | refl a => exact ⟨b, .refl b, hb⟩
 | step h1 _ ih =>
  obtain ⟨d, h3, h4⟩ := ih h1.dev
  exact ⟨d, .step hb.dev h3, h4⟩
theorem Pars.trans {a b c : La} (h : Pars a b) (g : Pars b c) : Pars a c := by
 induction h with
 | refl => exact g
 | step h1 _ ih => exact .step h1 (ih g)
theorem Pars.meet {a b c : La} (h : Pars a b) (g : Pars a c) : ∃ d, Pars b d ∧ Pars c d := by
 induction h generalizing c with
 | refl a => exact ⟨c, g, .refl c⟩
 | step h1 _ ih =>
  obtain ⟨d, h3, h4⟩ := g.strip h1
  obtain ⟨e, h5, h6⟩ := ih h3
  exact ⟨e, h5, .step h4 h6⟩
theorem Pars.lam {t : Ty} {a b : La} (h : Pars a b) : Pars (.lam t a) (.lam t b) := by
 induction h with
 | refl => exact .refl _
 | step h1 _ ih => exact .step (.lam h1) ih
theorem Pars.app {f g a b : La} (h : Pars f g) (k : Pars a b) : Pars (.app f a) (.app g b) := by
 induction h with
 | refl f =>
  induction k with
  | refl => exact .refl _
  | step h1 _ ih => exact .step (.app (Par.refl f) h1) ih
 | step h1 _ ih => exact .step (.app h1 (Par.refl _)) ih
theorem Conv.meet {a b : La} (h : Conv a b) : ∃ d, Pars a d ∧ Pars b d := by
 induction h with
 | beta t b a => exact ⟨_, .step (.beta (Par.refl b) (Par.refl a)) (.refl _), .refl _⟩
 | refl a => exact ⟨a, .refl a, .refl a⟩
 | symm _ ih => obtain ⟨d, h1, h2⟩ := ih; exact ⟨d, h2, h1⟩
 | trans _ _ ih1 ih2 =>
  obtain ⟨d, h1, h2⟩ := ih1
  obtain ⟨e, h3, h4⟩ := ih2
  obtain ⟨f, h5, h6⟩ := h2.meet h3
  exact ⟨f, h1.trans h5, h4.trans h6⟩
 | lam _ ih => obtain ⟨d, h1, h2⟩ := ih; exact ⟨_, h1.lam, h2.lam⟩
 | app _ _ ih1 ih2 =>
  obtain ⟨d, h1, h2⟩ := ih1
  obtain ⟨e, h3, h4⟩ := ih2
  exact ⟨_, h1.app h3, h2.app h4⟩
def La.isLam : La → Bool
 | .lam _ _ => true
 | _ => false
def La.nf : La → Prop
 | .var _ => True
 | .con _ _ => True
 | .lam _ b => b.nf
 | .app f a => f.isLam = false ∧ f.nf ∧ a.nf
theorem Par.nf {a b : La} (h : Par a b) : a.nf → b = a := by
 induction h with
 | var => intro _; rfl
 | con => intro _; rfl
 | lam _ ih => intro h; rw [ih h]
 | app _ _ ih1 ih2 => intro h; rw [ih1 h.2.1, ih2 h.2.2]
 | beta _ _ _ _ => intro h; cases h.1
theorem Pars.nf {a b : La} (h : Pars a b) (hn : a.nf) : b = a := by
 induction h with
 | refl => rfl
 | step h1 _ ih =>
  have e := h1.nf hn
  subst e
  exact ih hn
theorem Conv.nf {a b : La} (h : Conv a b) (ha : a.nf) (hb : b.nf) : a = b := by
 obtain ⟨d, h1, h2⟩ := h.meet
 rw [← h1.nf ha, h2.nf hb]
def apps (h : La) (l : List La) : La := l.foldl .app h
def lams (bs : List Ty) (b : La) : La := bs.foldr .lam b
theorem apps_cons (h a : La) (l : List La) : apps h (a :: l) = apps (.app h a) l := rfl
theorem lams_cons (t : Ty) (bs : List Ty) (b : La) : lams (t :: bs) b = .lam t (lams bs b) := rfl
theorem apps_sub (σ : Nat → La) : ∀ (l : List La) (h : La), (apps h l).sub σ = apps (h.sub σ) (l.map (·.sub σ))
 | [], h => rfl
 | a :: l, h => by rw [apps_cons, apps_sub σ l]; rfl
theorem apps_ren (ρ : Nat → Nat) : ∀ (l : List La) (h : La), (apps h l).ren ρ = apps (h.ren ρ) (l.map (·.ren ρ))
 | [], h => rfl
 | a :: l, h => by rw [apps_cons, apps_ren ρ l]; rfl
def upRs (n : Nat) (ρ : Nat → Nat) : Nat → Nat := fun i => if i < n then i else ρ (i - n) + n
def ups (n : Nat) (σ : Nat → La) : Nat → La := fun i => if i < n then .var i else (σ (i - n)).ren (· + n)
theorem upRs_succ (n : Nat) (ρ : Nat → Nat) (i : Nat) : upRs n (upR ρ) i = upRs (n + 1) ρ i := by
 unfold upRs
 by_cases h : i < n
 ·rw [if_pos h, if_pos (by omega)]
 ·rw [if_neg h]
  by_cases h2 : i = n
  ·subst h2; rw [if_pos (by omega), Nat.sub_self]; show 0 + i = i; omega
  ·rw [if_neg (by omega), show i - n = (i - (n + 1)) + 1 from by omega]
   show ρ (i - (n + 1)) + 1 + n = _; omega
theorem ups_succ (n : Nat) (σ : Nat → La) (i : Nat) : ups n (up σ) i = ups (n + 1) σ i := by
 unfold ups
 by_cases h : i < n
 ·rw [if_pos h, if_pos (by omega)]
 ·rw [if_neg h]
  by_cases h2 : i = n
  ·subst h2; rw [if_pos (by omega), Nat.sub_self]; show La.var (0 + i) = La.var i; rw [Nat.zero_add]
  ·rw [if_neg (by omega), show i - n = (i - (n + 1)) + 1 from by omega]
   show ((σ (i - (n + 1))).ren _).ren _ = _
   rw [La.ren_ren]
   exact La.ren_ext _ fun j => by omega
theorem lams_ren : ∀ (bs : List Ty) (b : La) (ρ : Nat → Nat), (lams bs b).ren ρ = lams bs (b.ren (upRs bs.length ρ))
 | [], b, ρ => (La.ren_ext b fun i => by unfold upRs; simp)
 | t :: bs, b, ρ => by
  rw [lams_cons, La.ren, lams_ren bs, lams_cons]
  congr 2
  exact La.ren_ext b fun i => upRs_succ _ _ _
theorem lams_sub : ∀ (bs : List Ty) (b : La) (σ : Nat → La), (lams bs b).sub σ = lams bs (b.sub (ups bs.length σ))
 | [], b, σ => (La.sub_ext b fun i => by
   unfold ups
   simp only [List.length_nil, Nat.not_lt_zero, if_false, Nat.sub_zero]
   exact (La.ren_id _ fun i => rfl).symm)
 | t :: bs, b, σ => by
  rw [lams_cons, La.sub, lams_sub bs, lams_cons]
  congr 2
  exact La.sub_ext b fun i => ups_succ _ _ _
theorem Conv.lams {a b : La} (h : Conv a b) : ∀ (bs : List Ty), Conv (lams bs a) (lams bs b)
 | [] => h
 | t :: bs => .lam (h.lams bs)
inductive ConvL : List La → List La → Prop
 | nil : ConvL [] []
 | cons {a b : La} {l m : List La} : Conv a b → ConvL l m → ConvL (a :: l) (b :: m)
theorem ConvL.refl : ∀ (l : List La), ConvL l l
 | [] => .nil
 | a :: l => .cons (.refl a) (ConvL.refl l)
theorem Conv.apps {l m : List La} (h : ConvL l m) : ∀ {f g : La}, Conv f g → Conv (apps f l) (apps g m) := by
 induction h with
 | nil => intro f g h; exact h
 | cons h1 _ ih => intro f g h; exact ih (.app h h1)
def putS (us : List La) (n : Nat) : Nat → La := fun v => if v < n - us.length then .var v else if v < n then (us.getD (n - 1 - v) (.var 0)).ren (· + (n - us.length)) else .var (v - us.length)
theorem putS_nil (n v : Nat) : putS [] n v = .var v := by
 unfold putS
 by_cases h : v < n
 ·rw [if_pos (by simpa using h)]
 ·rw [if_neg (by simpa using h), if_neg h]; rfl
theorem beta_many : ∀ (us : List La) (bs : List Ty) (b : La), us.length ≤ bs.length → Conv (apps (lams bs b) us) (lams (bs.drop us.length) (b.sub (putS us bs.length)))
 | [], bs, b, _ => .of_eq (by
   show lams bs b = lams bs _
   congr 1
   exact ((La.sub_ext b fun i => putS_nil _ i).trans (La.sub_var b)).symm)
 | u :: us, [], b, h => by simp at h
 | u :: us, t :: bs, b, h => by
  have hl : us.length ≤ bs.length := by simpa using h
  rw [apps_cons, lams_cons]
  refine (Conv.apps (ConvL.refl us) (.beta t (lams bs b) u)).trans ?_
  rw [lams_sub]
  refine (beta_many us bs _ hl).trans (.of_eq ?_)
  rw [List.length_cons, List.length_cons, List.drop_succ_cons, La.sub_sub]
  congr 1
  refine La.sub_ext b fun i => ?_
  unfold ups
  by_cases h1 : i < bs.length
  ·rw [if_pos h1]
   show putS us bs.length i = putS (u :: us) (bs.length + 1) i
   unfold putS
   rw [List.length_cons, show bs.length + 1 - (us.length + 1) = bs.length - us.length from by omega, if_pos (show i < bs.length + 1 from by omega), if_pos h1]
   by_cases h2 : i < bs.length - us.length
   ·rw [if_pos h2, if_pos h2]
   ·rw [if_neg h2, if_neg h2, show bs.length + 1 - 1 - i = (bs.length - 1 - i) + 1 from by omega]; rfl
  ·rw [if_neg h1]
   by_cases h2 : i = bs.length
   ·subst h2
    rw [Nat.sub_self]
    show (u.ren _).sub _ = putS (u :: us) (bs.length + 1) bs.length
    rw [La.sub_ren]
    unfold putS
    rw [List.length_cons, show bs.length + 1 - (us.length + 1) = bs.length - us.length from by omega, if_neg (by omega), if_pos (show bs.length < bs.length + 1 from by omega), show bs.length + 1 - 1 - bs.length = 0 from by omega]
    show _ = u.ren _
    rw [La.ren_eq]
    refine La.sub_ext u fun j => ?_
    rw [if_neg (by omega), if_neg (by omega)]
    congr 1; omega
   ·rw [show i - bs.length = (i - bs.length - 1) + 1 from by omega]
    show putS us bs.length (i - bs.length - 1 + bs.length) = putS (u :: us) (bs.length + 1) i
    unfold putS
    rw [List.length_cons, if_neg (by omega), if_neg (by omega), if_neg (by omega), if_neg (by omega)]
    congr 1; omega
theorem apps_nf : ∀ (l : List La) (h : La), h.isLam = false → h.nf → (∀ a ∈ l, La.nf a) → (apps h l).nf
 | [], h, _, hn, _ => hn
 | a :: l, h, hl, hn, ha => apps_nf l (.app h a) rfl ⟨hl, hn, ha a List.mem_cons_self⟩ fun b hb => ha b (List.mem_cons_of_mem _ hb)
theorem lams_nf {b : La} (h : b.nf) : ∀ (bs : List Ty), (lams bs b).nf
 | [] => h
 | t :: bs => lams_nf h bs
end Go.Proofs.YtghlgbhldnkdmaaGreat

namespace Go.Proofs.YtghlgbhldnkdmaaGreat
open Go
set_option linter.unusedSimpArgs false
set_option linter.unusedVariables false
theorem equalInts_calls {l m : List Int} (hsz : l.length ≤ 1000000000) : PureIs Tryz.prog 115 [.sl (encInts l), .sl (encInts m)] (nB (likes l m)) := by
 refine vc115_ok (ITE.intro (fun h => ?_) fun h => ?_)
 ·have : ¬ l.length = m.length := by simp [encInts_len] at h; omega
  rw [likes_eq, decide_eq_false (fun e => this (by rw [e]))]
 ·have hlm : l.length = m.length := by simp [encInts_len] at h; omega
  refine LoopP.intro (fun k : Nat => ((encInts l, encInts m, (l.length : Int), (k : Int), ()), ())) (fun k => k ≤ l.length ∧ l.take k = m.take k) (fun k => l.length - k) 0 (by rw [encInts_len]; rfl) ⟨Nat.zero_le _, rfl⟩ ?_
  intro k ⟨hk, hs⟩ again hag
  dsimp only
  refine ITE.intro (fun h => ?_) fun h => ?_
  ·have hlt : k < l.length := by simpa using h
   refine ⟨by omega, by rw [encInts_len]; omega, _, encInts_getD hlt, by omega, by rw [encInts_len]; omega, _, encInts_getD (by omega), ITE.intro (fun h => ?_) fun h => ?_⟩
   ·have hne : ¬ l[k] = m[k] := by simpa using h
    rw [likes_eq, decide_eq_false]
    rintro rfl
    exact hne rfl
   ·rw [wrap_n (by omega)]
    refine hag (k + 1) ⟨by omega, ?_⟩ (by omega)
    have he : l[k] = m[k] := by simpa using h
    rw [List.take_succ_eq_append_getElem hlt, List.take_succ_eq_append_getElem (by omega), hs, he]
  ·have : l.length ≤ k := by simpa using h
   rw [List.take_of_length_le this, List.take_of_length_le (by omega)] at hs
   rw [likes_eq, decide_eq_true hs]
theorem same_calls {l m : List Int} (hsz : l.length ≤ 1000000000) : PureIs Tryz.prog 67 [.sl (encInts l), .sl (encInts m)] (nB (likes l m)) :=
 vc67_ok ⟨_, equalInts_calls hsz, rfl⟩
theorem clone_calls {l : List Int} (hsz : l.length ≤ 1000000000) : PureIs Tryz.prog 148 [.sl (encInts l)] (.sl (encInts l)) := by
 refine vc148_ok fun b hb => ITE.intro (fun h => ?_) fun h => ?_
 ·have : encInts l = [] := Classical.byContradiction fun hn => by rw [hb hn] at h; cases h
  rw [this]
 ·exact ⟨fun _ => rfl, appOk_nil encInts_cells (by simp [encInts_len]; omega) (by decide), rfl, by simp⟩
theorem clip_calls {l : List Int} : PureIs Tryz.prog 149 [.sl (encInts l)] (.clip (encInts l)) := by
 refine Pure.of_heap (vc149_ok ⟨⟨by omega, by omega, rfl, by omega, encInts_cells⟩, rfl, ?_⟩)
 simp
theorem flex_calls (t : Tm) : PureIs Tryz.prog 146 [t.enc] (nB (t.kind == 2)) := by
 rw [Tm.enc_eq]; exact vc146_ok rfl
theorem equals_calls {l m : List Ty} (hsz : l.length ≤ 1000000000) (ih : ∀ (k : Nat) (h1 : k < l.length) (h2 : k < m.length), PureIs Tryz.prog 90 [l[k].enc, m[k].enc] (nB (Ty.same l[k] m[k]))) :
  PureIs Tryz.prog 89 [.sl (l.map Ty.enc), .sl (m.map Ty.enc), .clo 90 []] (nB (Ty.sames l m)) := by
 refine vc89_ok (ITE.intro (fun h => ?_) fun h => ?_)
 ·have : ¬ l.length = m.length := by simp at h; omega
  rw [Ty.sames_len this]
 ·have hlm : l.length = m.length := by simp at h; omega
  refine LoopP.intro (fun k : Nat => ((m.map Ty.enc, (), l.map Ty.enc, (l.length : Int), (k : Int), ()), ())) (fun k => k ≤ l.length ∧ Ty.sames l m = Ty.sames (l.drop k) (m.drop k)) (fun k => l.length - k) 0 (by rw [List.length_map]; rfl) ⟨Nat.zero_le _, rfl⟩ ?_
  intro k ⟨hk, hs⟩ again hag
  dsimp only
  rw [List.length_map, List.length_map]
  refine ITE.intro (fun h => ?_) fun h => ?_
  ·have hlt : k < l.length := by simpa using h
   rw [Ty.sames_drop hlt (by omega)] at hs
   have hi := ih k hlt (by omega)
   rw [Ty.enc_eq, Ty.enc_eq] at hi
   refine ⟨by omega, by omega, _, _, Ty.enc_getD hlt, by omega, by omega, _, _, Ty.enc_getD (by omega), _, hi, ITE.intro (fun h => ?_) fun h => ?_⟩
   ·have : Ty.same l[k] m[k] = false := by simpa using h
    rw [hs, this, Bool.false_and]
   ·have he : Ty.same l[k] m[k] = true := by simpa using h
    rw [he, Bool.true_and] at hs
    rw [wrap_n (by omega)]
    exact hag (k + 1) ⟨by omega, hs⟩ (by omega)
  ·have : l.length ≤ k := by simpa using h
   rw [List.drop_eq_nil_of_le this, List.drop_eq_nil_of_le (by omega)] at hs
   rw [hs]; rfl
theorem equal_calls : ∀ (n : Nat) (t u : Ty), t.size ≤ n → n ≤ 1000000000 → PureIs Tryz.prog 90 [t.enc, u.enc] (nB (Ty.same t u)) := by
 intro n
 induction n with
 | zero => intro t u h; have := t.size_pos; omega
 | succ n ih =>
  intro t u h hn
  have hq := Ty.sizes_len t.args
  have hts := t.size_eq
  have he := equals_calls (l := t.args) (m := u.args) (by omega) (fun k h1 h2 => ih _ _ (by have := Ty.arg_size h1; omega) (by omega))
  rw [Ty.enc_eq, Ty.enc_eq, Ty.same_eq]
  refine vc90_ok (ITE.intro (fun h => ?_) fun h => ?_)
  ·exact ⟨_, he, by rw [h, Bool.true_and]⟩
  ·rw [h, Bool.false_and]
theorem copied_calls : ∀ (n : Nat) (t : Ty), t.size ≤ n → n ≤ 1000000000 → PureIs Tryz.prog 99 [t.enc] t.enc := by
 intro n
 induction n with
 | zero => intro t h; have := t.size_pos; omega
 | succ n ih =>
  intro t h hn
  have hq := Ty.sizes_len t.args
  have hts := t.size_eq
  rw [Ty.enc_eq]
  refine vc99_ok ⟨rfl, ?_⟩
  refine LoopP.intro (fun k : Nat => (((), (), t.args.map Ty.enc, (t.args.length : Int), (k : Int), ()), ((t.args.map Ty.enc, t.base, ()), ((), 0, ()), ((), t.base, ()), (t.args.take k).map Ty.enc, ())))
   (fun k => k ≤ t.args.length) (fun k => t.args.length - k) 0 (by rw [List.length_map]; rfl) (Nat.zero_le _) ?_
  intro k hk again hag
  dsimp only
  rw [List.length_map]
  refine ITE.intro (fun h => ?_) fun h => ?_
  ·have hlt : k < t.args.length := by simpa using h
   have hi := ih t.args[k] (by have := Ty.arg_size hlt; omega) (by omega)
   rw [Ty.enc_eq] at hi
   refine ⟨by omega, by omega, _, _, Ty.enc_getD hlt, _, _, hi, rfl, appOk_one rfl (by simp; omega) (by decide), rfl, ?_⟩
   rw [wrap_n (by omega), Ty.enc_snoc, take_snoc' hlt]
   exact hag (k + 1) (by omega) (by omega)
  ·have : t.args.length ≤ k := by simpa using h
   refine ⟨rfl, ?_⟩
   rw [List.take_of_length_le this]
end Go.Proofs.YtghlgbhldnkdmaaGreat

namespace Go.Proofs.YtghlgbhldnkdmaaGreat
open Go
set_option linter.unusedSimpArgs false
set_option linter.unusedVariables false
theorem grow_calls {hp : List AObj} {n : Nat} (hn : n ≤ 1000000000) (hcl : ∀ o ∈ hp, AObj.closed (hp.length + 1) o = true) :
  HFn Tryz.prog 116 [.prim (.slice none 0 0), .prim (.int .i64 (n : Nat))] hp (fun r hp' => r = .own hp.length 0 ∧ hp' = hp ++ [.row 39 2 []]) := by
 refine heap_of_body_at tab_ok (hp.length + 1) (by simp) (fn := Tryz.f116) Tryz.func116 rfl (by kernel_rfl) (by simp [Tryz.ntmps116]) ?_
 intro Γ hok hP hnt hh0 hfree0
 rw [Tryz.ntmps116] at hnt
 have htab : TabOk Γ.P tab := by rw [hP]; exact tab_ok
 refine AWp.seqK fun K1 hK1 => ?_
 refine AWp.regionC hok htab hnt ?_
 simp only [ARunC, CStep, isRoom, nilCmp, xval, callArgs, bne_self_eq_false,  pval, heff, bopAll, bopX, cvtVal, bopVal, bopInt, lenVal, fieldsOf, ldCells, ldElem, fillCells, setCells, lookVal, mapGet, mapPut, boundOf, idxOk, lensOk, appOk, Value.cells, TK.agg, thenQ, inBlockQ, AS.put, AS.ev, startT, upd_eq, dstOk, gslot, condP, tabs, reduceIte, Nat.reduceLT, Nat.reduceEqDiff, Nat.reduceAdd, Nat.reduceLeDiff, Nat.reduceMul, Nat.reduceSub, List.getElem?_nil, List.length_nil, List.nil_append, List.append_nil, List.take_zero, List.map_nil, Option.map_none, Option.bind_none, reduceCtorEq, Int.toNat_natCast, Int.natCast_nonneg, List.not_mem_nil, retQ, resAll, resOne, resTup, AV.toDataR, wrap_succ, Int.ofNat_lt, Int.not_lt, obo1, obo2, obo3, core1, core2, core3]
 refine hK1 _ ?_
 try clear hK1 K1
 refine AWp.seqK fun K2 hK2 => ?_
 refine AWp.seqK fun K3 hK3 => ?_
 refine AWp.regionC hok htab hnt ?_
 simp only [ARunC, CStep, isRoom, nilCmp, xval, callArgs, bne_self_eq_false,  pval, heff, bopAll, bopX, cvtVal, bopVal, bopInt, lenVal, fieldsOf, ldCells, ldElem, fillCells, setCells, lookVal, mapGet, mapPut, boundOf, idxOk, lensOk, appOk, Value.cells, TK.agg, thenQ, inBlockQ, AS.put, AS.ev, startT, upd_eq, dstOk, gslot, condP, tabs, reduceIte, Nat.reduceLT, Nat.reduceEqDiff, Nat.reduceAdd, Nat.reduceLeDiff, Nat.reduceMul, Nat.reduceSub, List.getElem?_nil, List.length_nil, List.nil_append, List.append_nil, List.take_zero, List.map_nil, Option.map_none, Option.bind_none, reduceCtorEq, Int.toNat_natCast, Int.natCast_nonneg, List.not_mem_nil, retQ, resAll, resOne, resTup, AV.toDataR, wrap_succ, Int.ofNat_lt, Int.not_lt, obo1, obo2, obo3, core1, core2, core3]
 refine hK3 _ ?_
 try clear hK3 K3
 refine AWp.condB (by simp only [AS.ev, upd_eq, Nat.reduceEqDiff, if_true, if_false, reduceIte, reduceCtorEq]; rfl) (fun hc => ?_) (fun hc => ?_)
 all_goals (try simp only [decide_eq_true_eq, decide_eq_false_iff_not, Int.ofNat_lt, Int.not_lt, Nat.not_lt, bne_iff_ne, bne_eq_false_iff_eq, ne_eq, Bool.not_eq_true', Bool.not_eq_false', Bool.and_eq_true, Bool.or_eq_true, Bool.and_eq_false_iff, Bool.or_eq_false_iff, beq_iff_eq, beq_eq_false_iff_ne, Bool.not_eq_eq_eq_not, Bool.not_true, Bool.not_false] at hc)
 ·exfalso; omega
 ·refine AWp.skip ?_
  refine hK2 _ ?_
  try clear hK2 K2
  refine AWp.seqK fun K9 hK9 => ?_
  refine AWp.seqK fun K10 hK10 => ?_
  have hw : IntKind.i64.wrap ((n : Int) - IntKind.i64.wrap (0 - ((0 : Nat) : Int))) = (n : Int) := by
   rw [show IntKind.i64.wrap (0 - ((0 : Nat) : Int)) = 0 from by decide, Int.sub_zero, IntWalk.i64_in _ (by omega)]
  refine AWp.regionC hok htab hnt ?_
  simp only [ARunC, CStep, isRoom, nilCmp, xval, callArgs, bne_self_eq_false,  pval, heff, bopAll, bopX, cvtVal, bopVal, bopInt, lenVal, fieldsOf, ldCells, ldElem, fillCells, setCells, lookVal, mapGet, mapPut, boundOf, idxOk, lensOk, appOk, Value.cells, TK.agg, thenQ, inBlockQ, AS.put, AS.ev, startT, upd_eq, dstOk, gslot, condP, tabs, reduceIte, Nat.reduceLT, Nat.reduceEqDiff, Nat.reduceAdd, Nat.reduceLeDiff, Nat.reduceMul, Nat.reduceSub, List.getElem?_nil, List.length_nil, List.nil_append, List.append_nil, List.take_zero, List.map_nil, Option.map_none, Option.bind_none, reduceCtorEq, Int.toNat_natCast, Int.natCast_nonneg, List.not_mem_nil, retQ, resAll, resOne, resTup, AV.toDataR, wrap_succ, Int.ofNat_lt, Int.not_lt, obo1, obo2, obo3, core1, core2, core3, hw]
  refine hK10 _ ?_
  try clear hK10 K10
  refine AWp.seqK fun K11 hK11 => ?_
  refine AWp.regionC hok htab hnt ?_
  simp only [ARunC, CStep, isRoom, nilCmp, xval, callArgs, bne_self_eq_false,  pval, heff, bopAll, bopX, cvtVal, bopVal, bopInt, lenVal, fieldsOf, ldCells, ldElem, fillCells, setCells, lookVal, mapGet, mapPut, boundOf, idxOk, lensOk, appOk, Value.cells, TK.agg, thenQ, inBlockQ, AS.put, AS.ev, startT, upd_eq, dstOk, gslot, condP, tabs, reduceIte, Nat.reduceLT, Nat.reduceEqDiff, Nat.reduceAdd, Nat.reduceLeDiff, Nat.reduceMul, Nat.reduceSub, List.getElem?_nil, List.length_nil, List.nil_append, List.append_nil, List.take_zero, List.map_nil, Option.map_none, Option.bind_none, reduceCtorEq, Int.toNat_natCast, Int.natCast_nonneg, List.not_mem_nil, retQ, resAll, resOne, resTup, AV.toDataR, wrap_succ, Int.ofNat_lt, Int.not_lt, obo1, obo2, obo3, core1, core2, core3]
  refine hK11 _ ?_
  try clear hK11 K11
  refine AWp.condB (by simp only [AS.ev, upd_eq, Nat.reduceEqDiff, if_true, if_false, reduceIte, reduceCtorEq]; rfl) (fun hc => ?_) (fun hc => ?_)
  all_goals (try simp only [decide_eq_true_eq, decide_eq_false_iff_not, Int.ofNat_lt, Int.not_lt, Nat.not_lt, bne_iff_ne, bne_eq_false_iff_eq, ne_eq, Bool.not_eq_true', Bool.not_eq_false', Bool.and_eq_true, Bool.or_eq_true, Bool.and_eq_false_iff, Bool.or_eq_false_iff, beq_iff_eq, beq_eq_false_iff_ne, Bool.not_eq_eq_eq_not, Bool.not_true, Bool.not_false] at hc)  
  ·refine AWp.regionC hok htab hnt ?_
   simp only [ARunC, CStep, isRoom, nilCmp, xval, callArgs, bne_self_eq_false,  pval, heff, bopAll, bopX, cvtVal, bopVal, bopInt, lenVal, fieldsOf, ldCells, ldElem, fillCells, setCells, lookVal, mapGet, mapPut, boundOf, idxOk, lensOk, appOk, Value.cells, TK.agg, thenQ, inBlockQ, AS.put, AS.ev, startT, upd_eq, dstOk, gslot, condP, tabs, reduceIte, Nat.reduceLT, Nat.reduceEqDiff, Nat.reduceAdd, Nat.reduceLeDiff, Nat.reduceMul, Nat.reduceSub, List.getElem?_nil, List.length_nil, List.nil_append, List.append_nil, List.take_zero, List.map_nil, Option.map_none, Option.bind_none, reduceCtorEq, Int.toNat_natCast, Int.natCast_nonneg, List.not_mem_nil, retQ, resAll, resOne, resTup, AV.toDataR, wrap_succ, Int.ofNat_lt, Int.not_lt, obo1, obo2, obo3, core1, core2, core3]
   refine AList.room hok htab (c1 := { callee := .builtin .append, args := #[.tmp 20, .tmp 21], argTypes := #[33, 3] }) (c3 := { callee := .builtin .len, args := #[.tmp 23], argTypes := #[33] }) (n := n) rfl rfl rfl rfl rfl rfl rfl rfl tab_33 rfl tab_39 tab_3 rfl (by decide) rfl rfl (by omega) (by simp only [maxLen]; omega) (by simp only [td39]; omega)
    rfl rfl (by simp) rfl rfl rfl rfl rfl rfl rfl rfl rfl (by omega) (by omega) (by omega) (by omega) (by decide) (by decide) ?_
   refine ARunC.sound hok htab hnt _ _ ?_
   simp only [ARunC, CStep, isRoom, nilCmp, xval, callArgs, bne_self_eq_false,  pval, heff, bopAll, bopX, cvtVal, bopVal, bopInt, lenVal, fieldsOf, ldCells, ldElem, fillCells, setCells, lookVal, mapGet, mapPut, boundOf, idxOk, lensOk, appOk, Value.cells, TK.agg, thenQ, inBlockQ, AS.put, AS.ev, startT, upd_eq, dstOk, gslot, condP, tabs, reduceIte, Nat.reduceLT, Nat.reduceEqDiff, Nat.reduceAdd, Nat.reduceLeDiff, Nat.reduceMul, Nat.reduceSub, List.getElem?_nil, List.length_nil, List.nil_append, List.append_nil, List.take_zero, List.map_nil, Option.map_none, Option.bind_none, reduceCtorEq, Int.toNat_natCast, Int.natCast_nonneg, List.not_mem_nil, retQ, resAll, resOne, resTup, AV.toDataR, wrap_succ, Int.ofNat_lt, Int.not_lt, obo1, obo2, obo3, core1, core2, core3]
   refine hK9 _ ?_
   try clear hK9 K9
   refine AWp.seqK fun K12 hK12 => ?_
   refine AWp.regionC hok htab hnt ?_
   simp only [ARunC, CStep, isRoom, nilCmp, xval, callArgs, bne_self_eq_false,  pval, heff, bopAll, bopX, cvtVal, bopVal, bopInt, lenVal, fieldsOf, ldCells, ldElem, fillCells, setCells, lookVal, mapGet, mapPut, boundOf, idxOk, lensOk, appOk, Value.cells, TK.agg, thenQ, inBlockQ, AS.put, AS.ev, startT, upd_eq, dstOk, gslot, condP, tabs, reduceIte, Nat.reduceLT, Nat.reduceEqDiff, Nat.reduceAdd, Nat.reduceLeDiff, Nat.reduceMul, Nat.reduceSub, List.getElem?_nil, List.length_nil, List.nil_append, List.append_nil, List.take_zero, List.map_nil, Option.map_none, Option.bind_none, reduceCtorEq, Int.toNat_natCast, Int.natCast_nonneg, List.not_mem_nil, retQ, resAll, resOne, resTup, AV.toDataR, wrap_succ, Int.ofNat_lt, Int.not_lt, obo1, obo2, obo3, core1, core2, core3]
   refine hK12 _ ?_
   try clear hK12 K12
   refine AWp.ret ?_
   simp only [ARunC, CStep, isRoom, nilCmp, xval, callArgs, bne_self_eq_false,  pval, heff, bopAll, bopX, cvtVal, bopVal, bopInt, lenVal, fieldsOf, ldCells, ldElem, fillCells, setCells, lookVal, mapGet, mapPut, boundOf, idxOk, lensOk, appOk, Value.cells, TK.agg, thenQ, inBlockQ, AS.put, AS.ev, startT, upd_eq, dstOk, gslot, condP, tabs, reduceIte, Nat.reduceLT, Nat.reduceEqDiff, Nat.reduceAdd, Nat.reduceLeDiff, Nat.reduceMul, Nat.reduceSub, List.getElem?_nil, List.length_nil, List.nil_append, List.append_nil, List.take_zero, List.map_nil, Option.map_none, Option.bind_none, reduceCtorEq, Int.toNat_natCast, Int.natCast_nonneg, List.not_mem_nil, retQ, resAll, resOne, resTup, AV.toDataR, wrap_succ, Int.ofNat_lt, Int.not_lt, obo1, obo2, obo3, core1, core2, core3, Tryz.results116, retH]
   have e : List.take (hp.length + 1) (hp ++ [AObj.row 39 2 []]) = hp ++ [AObj.row 39 2 []] := List.take_of_length_le (by simp)
   rw [e]
   refine ⟨fun o ho => ?_, ?_, rfl⟩
   ·rcases List.mem_append.1 ho with h1 | h1
    ·exact hcl o h1
    ·rw [List.mem_singleton.1 h1]; rfl
   ·simp [AV.out, AV.outV, AV.outC, AV.closedC]
  ·refine AWp.skip ?_
   refine hK9 _ ?_
   try clear hK9 K9
   refine AWp.weak (Weak.row hok 0 39 2 (by decide) rfl) ?_
   refine AWp.seqK fun K13 hK13 => ?_
   refine AWp.regionC hok htab hnt ?_
   simp only [ARunC, CStep, isRoom, nilCmp, xval, callArgs, bne_self_eq_false,  pval, heff, bopAll, bopX, cvtVal, bopVal, bopInt, lenVal, fieldsOf, ldCells, ldElem, fillCells, setCells, lookVal, mapGet, mapPut, boundOf, idxOk, lensOk, appOk, Value.cells, TK.agg, thenQ, inBlockQ, AS.put, AS.ev, startT, upd_eq, dstOk, gslot, condP, tabs, reduceIte, Nat.reduceLT, Nat.reduceEqDiff, Nat.reduceAdd, Nat.reduceLeDiff, Nat.reduceMul, Nat.reduceSub, List.getElem?_nil, List.length_nil, List.nil_append, List.append_nil, List.take_zero, List.map_nil, Option.map_none, Option.bind_none, reduceCtorEq, Int.toNat_natCast, Int.natCast_nonneg, List.not_mem_nil, retQ, resAll, resOne, resTup, AV.toDataR, wrap_succ, Int.ofNat_lt, Int.not_lt, obo1, obo2, obo3, core1, core2, core3]
   refine hK13 _ ?_
   try clear hK13 K13
   refine AWp.ret ?_
   simp only [ARunC, CStep, isRoom, nilCmp, xval, callArgs, bne_self_eq_false,  pval, heff, bopAll, bopX, cvtVal, bopVal, bopInt, lenVal, fieldsOf, ldCells, ldElem, fillCells, setCells, lookVal, mapGet, mapPut, boundOf, idxOk, lensOk, appOk, Value.cells, TK.agg, thenQ, inBlockQ, AS.put, AS.ev, startT, upd_eq, dstOk, gslot, condP, tabs, reduceIte, Nat.reduceLT, Nat.reduceEqDiff, Nat.reduceAdd, Nat.reduceLeDiff, Nat.reduceMul, Nat.reduceSub, List.getElem?_nil, List.length_nil, List.nil_append, List.append_nil, List.take_zero, List.map_nil, Option.map_none, Option.bind_none, reduceCtorEq, Int.toNat_natCast, Int.natCast_nonneg, List.not_mem_nil, retQ, resAll, resOne, resTup, AV.toDataR, wrap_succ, Int.ofNat_lt, Int.not_lt, obo1, obo2, obo3, core1, core2, core3, Tryz.results116, retH]
   have e : List.take (hp.length + 1) (hp ++ [AObj.row 39 2 []]) = hp ++ [AObj.row 39 2 []] := List.take_of_length_le (by simp)
   rw [e]
   refine ⟨fun o ho => ?_, ?_, rfl⟩
   ·rcases List.mem_append.1 ho with h1 | h1
    ·exact hcl o h1
    ·rw [List.mem_singleton.1 h1]; rfl
   ·simp [AV.out, AV.outV, AV.outC, AV.closedC]
def encRows (ll : List (List Ty)) : List AV := ll.map fun l => .sl (l.map Ty.enc)
theorem encRows_getD {ll : List (List Ty)} {k : Nat} (h : k < ll.length) : (encRows ll).getD k .top = .sl (ll[k].map Ty.enc) := by
 simp [encRows, List.getD, h]
theorem encRows_len (ll : List (List Ty)) : (encRows ll).length = ll.length := by simp [encRows]
theorem flat_take {ll : List (List Ty)} {k : Nat} (h : k < ll.length) : (ll.take (k + 1)).flatten = (ll.take k).flatten ++ ll[k] := by
 rw [List.take_succ_eq_append_getElem h, List.flatten_append, List.flatten_singleton]
theorem flat_take_le (ll : List (List Ty)) (k : Nat) : (ll.take k).flatten.length ≤ ll.flatten.length := by
 have h : ll.flatten = (ll.take k).flatten ++ (ll.drop k).flatten := by rw [← List.flatten_append, List.take_append_drop]
 rw [h, List.length_append]; omega
theorem enc_cells_mem {l : List Ty} {x : AV} (h : x ∈ l.map Ty.enc) : x.cells.length = 2 := by
 obtain ⟨t, _, rfl⟩ := List.mem_map.1 h
 exact t.enc_len
theorem concat_calls {ll : List (List Ty)} (h0 : ll.length ≤ 1000000000) (hn : ll.flatten.length ≤ 1000000000) :
  PureIs Tryz.prog 74 [.sl (encRows ll)] (.sl (ll.flatten.map Ty.enc)) := by
 refine pure_of_body tab_ok (fn := Tryz.f74) Tryz.func74 rfl (by kernel_rfl) (by simp [Tryz.ntmps74]) ?_
 intro Γ hok hP hnt hh0 hfree0
 rw [Tryz.ntmps74] at hnt
 have htab : TabOk Γ.P tab := by rw [hP]; exact tab_ok
 refine AWp.seqK fun K1 hK1 => ?_
 refine AWp.regionC hok htab hnt ?_
 simp only [ARunC, CStep, isRoom, nilCmp, xval, callArgs, bne_self_eq_false,  pval, heff, bopAll, bopX, cvtVal, bopVal, bopInt, lenVal, fieldsOf, ldCells, ldElem, fillCells, setCells, lookVal, mapGet, mapPut, boundOf, idxOk, lensOk, appOk, Value.cells, TK.agg, thenQ, inBlockQ, AS.put, AS.ev, startT, upd_eq, dstOk, gslot, condP, tabs, reduceIte, Nat.reduceLT, Nat.reduceEqDiff, Nat.reduceAdd, Nat.reduceLeDiff, Nat.reduceMul, Nat.reduceSub, List.getElem?_nil, List.length_nil, List.nil_append, List.append_nil, List.take_zero, List.map_nil, Option.map_none, Option.bind_none, reduceCtorEq, Int.toNat_natCast, Int.natCast_nonneg, List.not_mem_nil, retQ, resAll, resOne, resTup, AV.toDataR, wrap_succ, Int.ofNat_lt, Int.not_lt, obo1, obo2, obo3, core1, core2, core3]
 refine hK1 _ ?_
 try clear hK1 K1
 refine AWp.seqK fun K2 hK2 => ?_
 refine AWp.regionC hok htab hnt ?_
 simp only [ARunC, CStep, isRoom, nilCmp, xval, callArgs, bne_self_eq_false,  pval, heff, bopAll, bopX, cvtVal, bopVal, bopInt, lenVal, fieldsOf, ldCells, ldElem, fillCells, setCells, lookVal, mapGet, mapPut, boundOf, idxOk, lensOk, appOk, Value.cells, TK.agg, thenQ, inBlockQ, AS.put, AS.ev, startT, upd_eq, dstOk, gslot, condP, tabs, reduceIte, Nat.reduceLT, Nat.reduceEqDiff, Nat.reduceAdd, Nat.reduceLeDiff, Nat.reduceMul, Nat.reduceSub, List.getElem?_nil, List.length_nil, List.nil_append, List.append_nil, List.take_zero, List.map_nil, Option.map_none, Option.bind_none, reduceCtorEq, Int.toNat_natCast, Int.natCast_nonneg, List.not_mem_nil, retQ, resAll, resOne, resTup, AV.toDataR, wrap_succ, Int.ofNat_lt, Int.not_lt, obo1, obo2, obo3, core1, core2, core3]
 refine hK2 _ ?_
 try clear hK2 K2
 refine AWp.seqK fun K3 hK3 => ?_
 refine AWp.seqK fun K4 hK4 => ?_
 refine AWp.regionC hok htab hnt ?_
 simp only [ARunC, CStep, isRoom, nilCmp, xval, callArgs, bne_self_eq_false,  pval, heff, bopAll, bopX, cvtVal, bopVal, bopInt, lenVal, fieldsOf, ldCells, ldElem, fillCells, setCells, lookVal, mapGet, mapPut, boundOf, idxOk, lensOk, appOk, Value.cells, TK.agg, thenQ, inBlockQ, AS.put, AS.ev, startT, upd_eq, dstOk, gslot, condP, tabs, reduceIte, Nat.reduceLT, Nat.reduceEqDiff, Nat.reduceAdd, Nat.reduceLeDiff, Nat.reduceMul, Nat.reduceSub, List.getElem?_nil, List.length_nil, List.nil_append, List.append_nil, List.take_zero, List.map_nil, Option.map_none, Option.bind_none, reduceCtorEq, Int.toNat_natCast, Int.natCast_nonneg, List.not_mem_nil, retQ, resAll, resOne, resTup, AV.toDataR, wrap_succ, Int.ofNat_lt, Int.not_lt, obo1, obo2, obo3, core1, core2, core3, encRows_len]
 refine hK4 _ ?_
 try clear hK4 K4
 refine AWp.block ?_
 refine AWp.loop (fun k : Nat => k ≤ ll.length)
  (fun k => ⟨(upd (upd (upd (upd (upd (fun _ => .top) 0 (.sl (encRows ll))) 3 (.prim (.int .i64 ((ll.take k).flatten.length : Nat)))) 9 (.sl (encRows ll))) 10 (.prim (.int .i64 (ll.length : Nat)))) 11 (.prim (.int .i64 (k : Nat)))), [], ()⟩)
  (fun k => ll.length - k) 0 (Nat.zero_le _) ?_ ?_
 ·refine Weak.cut hok 0 (by omega) ?_ ?_ ?_ ?_
  ·repeat' (first | exact Sub.nil | refine Sub.upd ?_ ?_)
   all_goals rfl
  ·repeat' (first | exact ShutF.nil | refine ShutF.upd ?_ ?_)
   all_goals first | rfl | assumption | exact CapsOk.cl (by assumption) _
  ·rfl
  ·simp [AObj.closed, AV.closedC]
 ·intro k hk
  refine AWp.seqK fun K5 hK5 => ?_
  refine AWp.regionC hok htab hnt ?_
  simp only [ARunC, CStep, isRoom, nilCmp, xval, callArgs, bne_self_eq_false,  pval, heff, bopAll, bopX, cvtVal, bopVal, bopInt, lenVal, fieldsOf, ldCells, ldElem, fillCells, setCells, lookVal, mapGet, mapPut, boundOf, idxOk, lensOk, appOk, Value.cells, TK.agg, thenQ, inBlockQ, AS.put, AS.ev, startT, upd_eq, dstOk, gslot, condP, tabs, reduceIte, Nat.reduceLT, Nat.reduceEqDiff, Nat.reduceAdd, Nat.reduceLeDiff, Nat.reduceMul, Nat.reduceSub, List.getElem?_nil, List.length_nil, List.nil_append, List.append_nil, List.take_zero, List.map_nil, Option.map_none, Option.bind_none, reduceCtorEq, Int.toNat_natCast, Int.natCast_nonneg, List.not_mem_nil, retQ, resAll, resOne, resTup, AV.toDataR, wrap_succ, Int.ofNat_lt, Int.not_lt, obo1, obo2, obo3, core1, core2, core3]
  refine hK5 _ ?_
  try clear hK5 K5
  refine AWp.seqK fun K6 hK6 => ?_
  refine AWp.condB (by simp only [AS.ev, upd_eq, Nat.reduceEqDiff, if_true, if_false, reduceIte, reduceCtorEq]; rfl) (fun hc => ?_) (fun hc => ?_)
  all_goals (try simp only [decide_eq_true_eq, decide_eq_false_iff_not, Int.ofNat_lt, Int.not_lt, Nat.not_lt, bne_iff_ne, bne_eq_false_iff_eq, ne_eq, Bool.not_eq_true', Bool.not_eq_false', Bool.and_eq_true, Bool.or_eq_true, Bool.and_eq_false_iff, Bool.or_eq_false_iff, beq_iff_eq, beq_eq_false_iff_ne, Bool.not_eq_eq_eq_not, Bool.not_true, Bool.not_false] at hc)  
  ·refine AWp.skip ?_
   refine hK6 _ ?_
   try clear hK6 K6
   have hg := encRows_getD hc
   have hle := flat_take_le ll (k + 1)
   have hft := flat_take hc
   have hln : (ll.take (k + 1)).flatten.length = (ll.take k).flatten.length + ll[k].length := by rw [hft, List.length_append]
   refine AWp.seqK fun K7 hK7 => ?_
   refine AWp.block ?_
   refine AWp.seqK fun K8 hK8 => ?_
   refine AWp.regionC hok htab hnt ?_
   simp only [ARunC, CStep, isRoom, nilCmp, xval, callArgs, bne_self_eq_false,  pval, heff, bopAll, bopX, cvtVal, bopVal, bopInt, lenVal, fieldsOf, ldCells, ldElem, fillCells, setCells, lookVal, mapGet, mapPut, boundOf, idxOk, lensOk, appOk, Value.cells, TK.agg, thenQ, inBlockQ, AS.put, AS.ev, startT, upd_eq, dstOk, gslot, condP, tabs, reduceIte, Nat.reduceLT, Nat.reduceEqDiff, Nat.reduceAdd, Nat.reduceLeDiff, Nat.reduceMul, Nat.reduceSub, List.getElem?_nil, List.length_nil, List.nil_append, List.append_nil, List.take_zero, List.map_nil, Option.map_none, Option.bind_none, reduceCtorEq, Int.toNat_natCast, Int.natCast_nonneg, List.not_mem_nil, retQ, resAll, resOne, resTup, AV.toDataR, wrap_succ, Int.ofNat_lt, Int.not_lt, obo1, obo2, obo3, core1, core2, core3, hg, encRows_len]
   refine ⟨by omega, ?_⟩ 
   refine hK8 _ ?_
   try clear hK8 K8
   refine AWp.seqK fun K9 hK9 => ?_
   have hw : IntKind.i64.wrap (((ll.take k).flatten.length : Int) + (ll[k].length : Int)) = (((ll.take (k + 1)).flatten.length : Nat) : Int) := by
    rw [IntWalk.i64_in _ (by omega)]; omega
   refine AWp.regionC hok htab hnt ?_
   simp only [ARunC, CStep, isRoom, nilCmp, xval, callArgs, bne_self_eq_false,  pval, heff, bopAll, bopX, cvtVal, bopVal, bopInt, lenVal, fieldsOf, ldCells, ldElem, fillCells, setCells, lookVal, mapGet, mapPut, boundOf, idxOk, lensOk, appOk, Value.cells, TK.agg, thenQ, inBlockQ, AS.put, AS.ev, startT, upd_eq, dstOk, gslot, condP, tabs, reduceIte, Nat.reduceLT, Nat.reduceEqDiff, Nat.reduceAdd, Nat.reduceLeDiff, Nat.reduceMul, Nat.reduceSub, List.getElem?_nil, List.length_nil, List.nil_append, List.append_nil, List.take_zero, List.map_nil, Option.map_none, Option.bind_none, reduceCtorEq, Int.toNat_natCast, Int.natCast_nonneg, List.not_mem_nil, retQ, resAll, resOne, resTup, AV.toDataR, wrap_succ, Int.ofNat_lt, Int.not_lt, obo1, obo2, obo3, core1, core2, core3, hw]
   refine hK9 _ ?_
   try clear hK9 K9
   refine AWp.seqK fun K10 hK10 => ?_
   refine AWp.regionC hok htab hnt ?_
   simp only [ARunC, CStep, isRoom, nilCmp, xval, callArgs, bne_self_eq_false,  pval, heff, bopAll, bopX, cvtVal, bopVal, bopInt, lenVal, fieldsOf, ldCells, ldElem, fillCells, setCells, lookVal, mapGet, mapPut, boundOf, idxOk, lensOk, appOk, Value.cells, TK.agg, thenQ, inBlockQ, AS.put, AS.ev, startT, upd_eq, dstOk, gslot, condP, tabs, reduceIte, Nat.reduceLT, Nat.reduceEqDiff, Nat.reduceAdd, Nat.reduceLeDiff, Nat.reduceMul, Nat.reduceSub, List.getElem?_nil, List.length_nil, List.nil_append, List.append_nil, List.take_zero, List.map_nil, Option.map_none, Option.bind_none, reduceCtorEq, Int.toNat_natCast, Int.natCast_nonneg, List.not_mem_nil, retQ, resAll, resOne, resTup, AV.toDataR, wrap_succ, Int.ofNat_lt, Int.not_lt, obo1, obo2, obo3, core1, core2, core3]
   refine hK10 _ ?_
   try clear hK10 K10
   refine AWp.condB (by simp only [AS.ev, upd_eq, Nat.reduceEqDiff, if_true, if_false, reduceIte, reduceCtorEq]; rfl) (fun hc => ?_) (fun hc => ?_)
   all_goals (try simp only [decide_eq_true_eq, decide_eq_false_iff_not, Int.ofNat_lt, Int.not_lt, Nat.not_lt, bne_iff_ne, bne_eq_false_iff_eq, ne_eq, Bool.not_eq_true', Bool.not_eq_false', Bool.and_eq_true, Bool.or_eq_true, Bool.and_eq_false_iff, Bool.or_eq_false_iff, beq_iff_eq, beq_eq_false_iff_ne, Bool.not_eq_eq_eq_not, Bool.not_true, Bool.not_false] at hc)  
   ·exfalso; omega
   ·refine AWp.skip ?_
    refine hK7 _ ?_
    try clear hK7 K7
    have hw1 : IntKind.i64.wrap ((k : Int) + 1) = ((k + 1 : Nat) : Int) := wrap_succ (by omega)
    refine AWp.regionC hok htab hnt ?_
    simp only [ARunC, CStep, isRoom, nilCmp, xval, callArgs, bne_self_eq_false,  pval, heff, bopAll, bopX, cvtVal, bopVal, bopInt, lenVal, fieldsOf, ldCells, ldElem, fillCells, setCells, lookVal, mapGet, mapPut, boundOf, idxOk, lensOk, appOk, Value.cells, TK.agg, thenQ, inBlockQ, AS.put, AS.ev, startT, upd_eq, dstOk, gslot, condP, tabs, reduceIte, Nat.reduceLT, Nat.reduceEqDiff, Nat.reduceAdd, Nat.reduceLeDiff, Nat.reduceMul, Nat.reduceSub, List.getElem?_nil, List.length_nil, List.nil_append, List.append_nil, List.take_zero, List.map_nil, Option.map_none, Option.bind_none, reduceCtorEq, Int.toNat_natCast, Int.natCast_nonneg, List.not_mem_nil, retQ, resAll, resOne, resTup, AV.toDataR, wrap_succ, Int.ofNat_lt, Int.not_lt, obo1, obo2, obo3, core1, core2, core3, hw1]
    refine ⟨k + 1, by omega, ?_, by omega⟩
    refine Weak.cut hok 0 (by omega) ?_ ?_ ?_ ?_
    ·repeat' (first | exact Sub.nil | refine Sub.upd ?_ ?_)
     all_goals rfl
    ·repeat' (first | exact ShutF.nil | refine ShutF.upd ?_ ?_)
     all_goals first | rfl | assumption | exact CapsOk.cl (by assumption) _
    ·rfl
    ·simp [AObj.closed, AV.closedC]
  ·obtain rfl : k = ll.length := by omega
   refine AWp.exit ?_
   simp only [ARunC, CStep, isRoom, nilCmp, xval, callArgs, bne_self_eq_false,  pval, heff, bopAll, bopX, cvtVal, bopVal, bopInt, lenVal, fieldsOf, ldCells, ldElem, fillCells, setCells, lookVal, mapGet, mapPut, boundOf, idxOk, lensOk, appOk, Value.cells, TK.agg, thenQ, inBlockQ, AS.put, AS.ev, startT, upd_eq, dstOk, gslot, condP, tabs, reduceIte, Nat.reduceLT, Nat.reduceEqDiff, Nat.reduceAdd, Nat.reduceLeDiff, Nat.reduceMul, Nat.reduceSub, List.getElem?_nil, List.length_nil, List.nil_append, List.append_nil, List.take_zero, List.map_nil, Option.map_none, Option.bind_none, reduceCtorEq, Int.toNat_natCast, Int.natCast_nonneg, List.not_mem_nil, retQ, resAll, resOne, resTup, AV.toDataR, wrap_succ, Int.ofNat_lt, Int.not_lt, obo1, obo2, obo3, core1, core2, core3]
   refine hK3 _ ?_
   try clear hK3 K3
   refine AWp.seqK fun K11 hK11 => ?_
   refine AWp.regionC hok htab hnt ?_
   simp only [ARunC, CStep, isRoom, nilCmp, xval, callArgs, bne_self_eq_false,  pval, heff, bopAll, bopX, cvtVal, bopVal, bopInt, lenVal, fieldsOf, ldCells, ldElem, fillCells, setCells, lookVal, mapGet, mapPut, boundOf, idxOk, lensOk, appOk, Value.cells, TK.agg, thenQ, inBlockQ, AS.put, AS.ev, startT, upd_eq, dstOk, gslot, condP, tabs, reduceIte, Nat.reduceLT, Nat.reduceEqDiff, Nat.reduceAdd, Nat.reduceLeDiff, Nat.reduceMul, Nat.reduceSub, List.getElem?_nil, List.length_nil, List.nil_append, List.append_nil, List.take_zero, List.map_nil, Option.map_none, Option.bind_none, reduceCtorEq, Int.toNat_natCast, Int.natCast_nonneg, List.not_mem_nil, retQ, resAll, resOne, resTup, AV.toDataR, wrap_succ, Int.ofNat_lt, Int.not_lt, obo1, obo2, obo3, core1, core2, core3, List.take_length]
   have hcall := grow_calls (hp := []) hn (by simp)
   rw [← hP] at hcall
   refine .inr ⟨_, hcall, ?_⟩ 
   rintro r hp' ⟨rfl, rfl⟩
   refine ARunC.sound hok htab hnt _ _ ?_
   simp only [ARunC, CStep, isRoom, nilCmp, xval, callArgs, bne_self_eq_false,  pval, heff, bopAll, bopX, cvtVal, bopVal, bopInt, lenVal, fieldsOf, ldCells, ldElem, fillCells, setCells, lookVal, mapGet, mapPut, boundOf, idxOk, lensOk, appOk, Value.cells, TK.agg, thenQ, inBlockQ, AS.put, AS.ev, startT, upd_eq, dstOk, gslot, condP, tabs, reduceIte, Nat.reduceLT, Nat.reduceEqDiff, Nat.reduceAdd, Nat.reduceLeDiff, Nat.reduceMul, Nat.reduceSub, List.getElem?_nil, List.length_nil, List.nil_append, List.append_nil, List.take_zero, List.map_nil, Option.map_none, Option.bind_none, reduceCtorEq, Int.toNat_natCast, Int.natCast_nonneg, List.not_mem_nil, retQ, resAll, resOne, resTup, AV.toDataR, wrap_succ, Int.ofNat_lt, Int.not_lt, obo1, obo2, obo3, core1, core2, core3]
   refine hK11 _ ?_
   try clear hK11 K11
   refine AWp.seqK fun K12 hK12 => ?_
   refine AWp.seqK fun K13 hK13 => ?_
   refine AWp.regionC hok htab hnt ?_
   simp only [ARunC, CStep, isRoom, nilCmp, xval, callArgs, bne_self_eq_false,  pval, heff, bopAll, bopX, cvtVal, bopVal, bopInt, lenVal, fieldsOf, ldCells, ldElem, fillCells, setCells, lookVal, mapGet, mapPut, boundOf, idxOk, lensOk, appOk, Value.cells, TK.agg, thenQ, inBlockQ, AS.put, AS.ev, startT, upd_eq, dstOk, gslot, condP, tabs, reduceIte, Nat.reduceLT, Nat.reduceEqDiff, Nat.reduceAdd, Nat.reduceLeDiff, Nat.reduceMul, Nat.reduceSub, List.getElem?_nil, List.length_nil, List.nil_append, List.append_nil, List.take_zero, List.map_nil, Option.map_none, Option.bind_none, reduceCtorEq, Int.toNat_natCast, Int.natCast_nonneg, List.not_mem_nil, retQ, resAll, resOne, resTup, AV.toDataR, wrap_succ, Int.ofNat_lt, Int.not_lt, obo1, obo2, obo3, core1, core2, core3, encRows_len]
   refine hK13 _ ?_
   try clear hK13 K13
   refine AWp.block ?_
   refine AWp.loop (fun k : Nat => k ≤ ll.length)
    (fun k => ⟨(upd (upd (upd (upd (fun _ => .top) 6 (.own 0 (ll.take k).flatten.length)) 25 (.sl (encRows ll))) 26 (.prim (.int .i64 (ll.length : Nat)))) 27 (.prim (.int .i64 (k : Nat)))), [.row 39 2 ((ll.take k).flatten.map Ty.enc)], ()⟩)
    (fun k => ll.length - k) 0 (Nat.zero_le _) ?_ ?_
   ·refine Weak.cut hok 1 (by omega) ?_ ?_ ?_ ?_
    ·repeat' (first | exact Sub.nil | refine Sub.upd ?_ ?_)
     all_goals rfl
    ·repeat' (first | exact ShutF.nil | refine ShutF.upd ?_ ?_)
     all_goals first | rfl | assumption | exact CapsOk.cl (by assumption) _
    ·rfl
    ·simp [AObj.closed, AV.closedC]
   ·intro k hk
    refine AWp.seqK fun K14 hK14 => ?_
    refine AWp.regionC hok htab hnt ?_
    simp only [ARunC, CStep, isRoom, nilCmp, xval, callArgs, bne_self_eq_false,  pval, heff, bopAll, bopX, cvtVal, bopVal, bopInt, lenVal, fieldsOf, ldCells, ldElem, fillCells, setCells, lookVal, mapGet, mapPut, boundOf, idxOk, lensOk, appOk, Value.cells, TK.agg, thenQ, inBlockQ, AS.put, AS.ev, startT, upd_eq, dstOk, gslot, condP, tabs, reduceIte, Nat.reduceLT, Nat.reduceEqDiff, Nat.reduceAdd, Nat.reduceLeDiff, Nat.reduceMul, Nat.reduceSub, List.getElem?_nil, List.length_nil, List.nil_append, List.append_nil, List.take_zero, List.map_nil, Option.map_none, Option.bind_none, reduceCtorEq, Int.toNat_natCast, Int.natCast_nonneg, List.not_mem_nil, retQ, resAll, resOne, resTup, AV.toDataR, wrap_succ, Int.ofNat_lt, Int.not_lt, obo1, obo2, obo3, core1, core2, core3]
    refine hK14 _ ?_
    try clear hK14 K14
    refine AWp.seqK fun K15 hK15 => ?_
    refine AWp.condB (by simp only [AS.ev, upd_eq, Nat.reduceEqDiff, if_true, if_false, reduceIte, reduceCtorEq]; rfl) (fun hc => ?_) (fun hc => ?_)
    all_goals (try simp only [decide_eq_true_eq, decide_eq_false_iff_not, Int.ofNat_lt, Int.not_lt, Nat.not_lt, bne_iff_ne, bne_eq_false_iff_eq, ne_eq, Bool.not_eq_true', Bool.not_eq_false', Bool.and_eq_true, Bool.or_eq_true, Bool.and_eq_false_iff, Bool.or_eq_false_iff, beq_iff_eq, beq_eq_false_iff_ne, Bool.not_eq_eq_eq_not, Bool.not_true, Bool.not_false] at hc)  
    ·refine AWp.skip ?_
     refine hK15 _ ?_
     try clear hK15 K15
     have hg := encRows_getD hc
     have hle := flat_take_le ll (k + 1)
     have hft := flat_take hc
     have hln : (ll.take (k + 1)).flatten.length = (ll.take k).flatten.length + ll[k].length := by rw [hft, List.length_append]
     refine AWp.seqK fun K16 hK16 => ?_
     refine AWp.block ?_
     refine AWp.seqK fun K17 hK17 => ?_
     refine AWp.regionC hok htab hnt ?_
     simp only [ARunC, CStep, isRoom, nilCmp, xval, callArgs, bne_self_eq_false,  pval, heff, bopAll, bopX, cvtVal, bopVal, bopInt, lenVal, fieldsOf, ldCells, ldElem, fillCells, setCells, lookVal, mapGet, mapPut, boundOf, idxOk, lensOk, appOk, Value.cells, TK.agg, thenQ, inBlockQ, AS.put, AS.ev, startT, upd_eq, dstOk, gslot, condP, tabs, reduceIte, Nat.reduceLT, Nat.reduceEqDiff, Nat.reduceAdd, Nat.reduceLeDiff, Nat.reduceMul, Nat.reduceSub, List.getElem?_nil, List.length_nil, List.nil_append, List.append_nil, List.take_zero, List.map_nil, Option.map_none, Option.bind_none, reduceCtorEq, Int.toNat_natCast, Int.natCast_nonneg, List.not_mem_nil, retQ, resAll, resOne, resTup, AV.toDataR, wrap_succ, Int.ofNat_lt, Int.not_lt, obo1, obo2, obo3, core1, core2, core3, hg, encRows_len]
     refine ⟨by omega, ?_⟩ 
     refine hK17 _ ?_
     try clear hK17 K17
     refine AWp.regionC hok htab hnt ?_
     simp only [ARunC, CStep, isRoom, nilCmp, xval, callArgs, bne_self_eq_false,  pval, heff, bopAll, bopX, cvtVal, bopVal, bopInt, lenVal, fieldsOf, ldCells, ldElem, fillCells, setCells, lookVal, mapGet, mapPut, boundOf, idxOk, lensOk, appOk, Value.cells, TK.agg, thenQ, inBlockQ, AS.put, AS.ev, startT, upd_eq, dstOk, gslot, condP, tabs, reduceIte, Nat.reduceLT, Nat.reduceEqDiff, Nat.reduceAdd, Nat.reduceLeDiff, Nat.reduceMul, Nat.reduceSub, List.getElem?_nil, List.length_nil, List.nil_append, List.append_nil, List.take_zero, List.map_nil, Option.map_none, Option.bind_none, reduceCtorEq, Int.toNat_natCast, Int.natCast_nonneg, List.not_mem_nil, retQ, resAll, resOne, resTup, AV.toDataR, wrap_succ, Int.ofNat_lt, Int.not_lt, obo1, obo2, obo3, core1, core2, core3]
     refine ⟨⟨fun x hx => enc_cells_mem hx, by simp only [maxLen]; omega, by omega⟩, ?_⟩
     refine hK16 _ ?_
     try clear hK16 K16
     have hw1 : IntKind.i64.wrap ((k : Int) + 1) = ((k + 1 : Nat) : Int) := wrap_succ (by omega)
     refine AWp.regionC hok htab hnt ?_
     simp only [ARunC, CStep, isRoom, nilCmp, xval, callArgs, bne_self_eq_false,  pval, heff, bopAll, bopX, cvtVal, bopVal, bopInt, lenVal, fieldsOf, ldCells, ldElem, fillCells, setCells, lookVal, mapGet, mapPut, boundOf, idxOk, lensOk, appOk, Value.cells, TK.agg, thenQ, inBlockQ, AS.put, AS.ev, startT, upd_eq, dstOk, gslot, condP, tabs, reduceIte, Nat.reduceLT, Nat.reduceEqDiff, Nat.reduceAdd, Nat.reduceLeDiff, Nat.reduceMul, Nat.reduceSub, List.getElem?_nil, List.length_nil, List.nil_append, List.append_nil, List.take_zero, List.map_nil, Option.map_none, Option.bind_none, reduceCtorEq, Int.toNat_natCast, Int.natCast_nonneg, List.not_mem_nil, retQ, resAll, resOne, resTup, AV.toDataR, wrap_succ, Int.ofNat_lt, Int.not_lt, obo1, obo2, obo3, core1, core2, core3, hw1]
     refine ⟨k + 1, by omega, ?_, by omega⟩
     rw [← hln]
     refine Weak.cut hok 1 (by omega) ?_ ?_ ?_ ?_
     ·repeat' (first | exact Sub.nil | refine Sub.upd ?_ ?_)
      all_goals rfl
     ·repeat' (first | exact ShutF.nil | refine ShutF.upd ?_ ?_)
      all_goals first | rfl | assumption | exact CapsOk.cl (by assumption) _
     ·rw [hft, List.map_append]; rfl
     ·simp [AObj.closed, AV.closedC]
    ·obtain rfl : k = ll.length := by omega
     refine AWp.exit ?_
     simp only [ARunC, CStep, isRoom, nilCmp, xval, callArgs, bne_self_eq_false,  pval, heff, bopAll, bopX, cvtVal, bopVal, bopInt, lenVal, fieldsOf, ldCells, ldElem, fillCells, setCells, lookVal, mapGet, mapPut, boundOf, idxOk, lensOk, appOk, Value.cells, TK.agg, thenQ, inBlockQ, AS.put, AS.ev, startT, upd_eq, dstOk, gslot, condP, tabs, reduceIte, Nat.reduceLT, Nat.reduceEqDiff, Nat.reduceAdd, Nat.reduceLeDiff, Nat.reduceMul, Nat.reduceSub, List.getElem?_nil, List.length_nil, List.nil_append, List.append_nil, List.take_zero, List.map_nil, Option.map_none, Option.bind_none, reduceCtorEq, Int.toNat_natCast, Int.natCast_nonneg, List.not_mem_nil, retQ, resAll, resOne, resTup, AV.toDataR, wrap_succ, Int.ofNat_lt, Int.not_lt, obo1, obo2, obo3, core1, core2, core3]
     refine hK12 _ ?_
     try clear hK12 K12
     refine AWp.seqK fun K18 hK18 => ?_
     refine AWp.regionC hok htab hnt ?_
     simp only [ARunC, CStep, isRoom, nilCmp, xval, callArgs, bne_self_eq_false,  pval, heff, bopAll, bopX, cvtVal, bopVal, bopInt, lenVal, fieldsOf, ldCells, ldElem, fillCells, setCells, lookVal, mapGet, mapPut, boundOf, idxOk, lensOk, appOk, Value.cells, TK.agg, thenQ, inBlockQ, AS.put, AS.ev, startT, upd_eq, dstOk, gslot, condP, tabs, reduceIte, Nat.reduceLT, Nat.reduceEqDiff, Nat.reduceAdd, Nat.reduceLeDiff, Nat.reduceMul, Nat.reduceSub, List.getElem?_nil, List.length_nil, List.nil_append, List.append_nil, List.take_zero, List.map_nil, Option.map_none, Option.bind_none, reduceCtorEq, Int.toNat_natCast, Int.natCast_nonneg, List.not_mem_nil, retQ, resAll, resOne, resTup, AV.toDataR, wrap_succ, Int.ofNat_lt, Int.not_lt, obo1, obo2, obo3, core1, core2, core3]
     refine hK18 _ ?_
     try clear hK18 K18
     refine AWp.ret ?_
     simp only [ARunC, CStep, isRoom, nilCmp, xval, callArgs, bne_self_eq_false,  pval, heff, bopAll, bopX, cvtVal, bopVal, bopInt, lenVal, fieldsOf, ldCells, ldElem, fillCells, setCells, lookVal, mapGet, mapPut, boundOf, idxOk, lensOk, appOk, Value.cells, TK.agg, thenQ, inBlockQ, AS.put, AS.ev, startT, upd_eq, dstOk, gslot, condP, tabs, reduceIte, Nat.reduceLT, Nat.reduceEqDiff, Nat.reduceAdd, Nat.reduceLeDiff, Nat.reduceMul, Nat.reduceSub, List.getElem?_nil, List.length_nil, List.nil_append, List.append_nil, List.take_zero, List.map_nil, Option.map_none, Option.bind_none, reduceCtorEq, Int.toNat_natCast, Int.natCast_nonneg, List.not_mem_nil, retQ, resAll, resOne, resTup, AV.toDataR, wrap_succ, Int.ofNat_lt, Int.not_lt, obo1, obo2, obo3, core1, core2, core3, Tryz.results74, List.take_length]
end Go.Proofs.YtghlgbhldnkdmaaGreat

namespace Go.Proofs.YtghlgbhldnkdmaaGreat
open Go
set_option linter.unusedSimpArgs false
set_option linter.unusedVariables false
def Ty.arrow (t : Ty) (l : List Ty) : Ty := .mk (l ++ t.args) t.base
theorem arrow_calls {t : Ty} {l : List Ty} (h : Ty.sizes l + t.size ≤ 1000000000) : PureIs Tryz.prog 82 [t.enc, .sl (l.map Ty.enc)] (t.arrow l).enc := by
 have hl := Ty.sizes_len l
 have hl2 := Ty.sizes_len t.args
 have hs := t.size_eq
 have hc1 := concat_calls (ll := [l, t.args]) (by simp) (by simp; omega)
 have hc2 := copied_calls _ (.mk (l ++ t.args) t.base) (Nat.le_refl _) (by simp only [Ty.size, Ty.sizes_append]; omega)
 simp only [encRows, List.map_cons, List.map_nil, List.flatten_cons, List.flatten_nil, List.append_nil] at hc1
 rw [Ty.enc_mk] at hc2
 rw [Ty.arrow, Ty.enc_mk, Ty.enc_eq t]
 exact vc82_ok ⟨_, hc1, _, _, hc2, rfl⟩
mutual
def Tm.var : Tm → Option (Int × Int)
 | .mk b k i a => if a.length = b.length ∧ ¬ (k = 0 ∧ i < b.length) then (if Tm.varArgs b.length 0 b a = true then some (k, if k = 0 then IntKind.wrap .i64 (i - b.length) else i) else none) else none
def Tm.varArgs (n : Nat) : Nat → List Ty → List Tm → Bool
 | k, t :: b, a :: l => (match Tm.var a with
  | some (q, j) => q == 0 && j == (n : Int) - 1 - k && Ty.sames a.binds t.args
  | none => false) && Tm.varArgs n (k + 1) b l
 | _, _, _ => true
end
def varRes : Option (Int × Int) → AV
 | some (k, i) => .tup [.agg [nI k, nI i], nB true]
 | none => .tup [.agg [nI 0, nI 0], nB false]
theorem Tm.var_eq (t : Tm) : Tm.var t = if t.args.length = t.binds.length ∧ ¬ (t.kind = 0 ∧ t.index < t.binds.length) then (if Tm.varArgs t.binds.length 0 t.binds t.args = true then some (t.kind, if t.kind = 0 then IntKind.wrap .i64 (t.index - t.binds.length) else t.index) else none) else none := by
 cases t; rw [Tm.var]; rfl
theorem Tm.varArgs_drop {n : Nat} {b : List Ty} {a : List Tm} {k : Nat} (h1 : k < b.length) (h2 : k < a.length) : Tm.varArgs n k (b.drop k) (a.drop k) = ((match Tm.var a[k] with
  | some (q, j) => q == 0 && j == (n : Int) - 1 - k && Ty.sames a[k].binds b[k].args
  | none => false) && Tm.varArgs n (k + 1) (b.drop (k + 1)) (a.drop (k + 1))) := by
 rw [List.drop_eq_getElem_cons h1, List.drop_eq_getElem_cons h2, Tm.varArgs]
theorem var_calls : ∀ (n : Nat) (t : Tm), t.size ≤ n → n ≤ 1000000000 → PureIs Tryz.prog 160 [t.enc] (varRes t.var) := by
 intro n
 induction n with
 | zero => intro t h; have := t.size_pos; omega
 | succ n ih =>
  intro t h hn
  have hq := Tm.sizes_len t.args
  have hq2 := Ty.sizes_len t.binds
  have hts := t.size_eq
  rw [Tm.var_eq, Tm.enc_eq]
  have loop : t.args.length = t.binds.length → ¬ (t.kind = 0 ∧ t.index < t.binds.length) → vc160_L6 (((), (), ((List.length (t.binds.map Ty.enc) : Nat) : Int), (), t.args.map Tm.enc, ((List.length (t.args.map Tm.enc) : Nat) : Int), 0, ()), ((t.binds.map Ty.enc, t.kind, t.index, t.args.map Tm.enc, ()), (0, 0, ()), (t.kind, t.index, ()), ())) (fun x => x = varRes (if t.args.length = t.binds.length ∧ ¬ (t.kind = 0 ∧ t.index < t.binds.length) then (if Tm.varArgs t.binds.length 0 t.binds t.args = true then some (t.kind, if t.kind = 0 then IntKind.wrap .i64 (t.index - t.binds.length) else t.index) else none) else none)) := by
   intro hlen hk
   rw [if_pos ⟨hlen, hk⟩]
   refine LoopP.intro (fun k : Nat => (((), (), (t.binds.length : Int), (), t.args.map Tm.enc, (t.args.length : Int), (k : Int), ()), ((t.binds.map Ty.enc, t.kind, t.index, t.args.map Tm.enc, ()), (0, 0, ()), (t.kind, t.index, ()), ())))
    (fun k => k ≤ t.args.length ∧ Tm.varArgs t.binds.length 0 t.binds t.args = Tm.varArgs t.binds.length k (t.binds.drop k) (t.args.drop k)) (fun k => t.args.length - k) 0 (by rw [List.length_map, List.length_map]; rfl) ⟨Nat.zero_le _, rfl⟩ ?_
   intro k ⟨hk1, hs⟩ again hag
   dsimp only
   refine ITE.intro (fun h => ?_) fun h => ?_
   ·have hlt : k < t.args.length := by simpa using h
    rw [Tm.varArgs_drop (by omega) hlt] at hs
    have hi := ih t.args[k] (by have := Tm.arg_size hlt; omega) (by omega)
    have hbs := Ty.sizes_len t.args[k].binds
    have hbz := t.args[k].size_eq
    have hbw := Tm.arg_size hlt
    have he := equals_calls (l := t.args[k].binds) (m := (t.binds[k]'(by omega)).args) (by omega) (fun j h1 h2 => equal_calls _ _ _ (Nat.le_refl _) (by have := Ty.sizes_mem (List.getElem_mem h1); omega))
    rw [Tm.enc_eq] at hi
    refine ⟨by omega, by rw [List.length_map]; omega, _, _, _, _, Tm.enc_getD hlt, ?_⟩
    cases hv : t.args[k].var with
    | none =>
     rw [hv] at hi hs
     refine ⟨_, _, _, hi, ITE.pos rfl ?_⟩
     rw [hs]; simp [varRes]
    | some p =>
     obtain ⟨q, j⟩ := p
     rw [hv] at hi hs
     refine ⟨_, _, _, hi, ITE.neg rfl ?_⟩
     rw [wrap_i (n := (t.binds.length : Int) - 1) (by omega) (by omega), wrap_i (by omega) (by omega)]
     dsimp only at hs
     refine ITE.intro (fun h => ?_) fun h => ?_
     ·have : (q == 0 && j == (t.binds.length : Int) - 1 - k) = false := by rw [Bool.not_eq_true'] at h; exact h
      rw [hs, this]; simp [varRes]
     ·have : (q == 0 && j == (t.binds.length : Int) - 1 - k) = true := by rw [Bool.not_eq_false'] at h; exact h
      rw [this, Bool.true_and] at hs
      refine ⟨by omega, by rw [List.length_map]; omega, _, _, Ty.enc_getD (by omega), _, he, ITE.intro (fun h => ?_) fun h => ?_⟩
      ·have : Ty.sames t.args[k].binds (t.binds[k]'(by omega)).args = false := by simpa using h
       rw [hs, this]; simp [varRes]
      ·have : Ty.sames t.args[k].binds (t.binds[k]'(by omega)).args = true := by simpa using h
       rw [this, Bool.true_and] at hs
       rw [wrap_n (by omega)]
       exact hag (k + 1) ⟨by omega, hs⟩ (by omega)
   ·have : t.args.length ≤ k := by simpa using h
    have hnil : Tm.varArgs t.binds.length k [] [] = true := by simp [Tm.varArgs]
    rw [List.drop_eq_nil_of_le this, List.drop_eq_nil_of_le (by omega), hnil] at hs
    rw [if_pos hs]
    refine ITE.intro (fun h => ?_) fun h => ?_
    ·have h0 : t.kind = 0 := by simpa using h
     rw [if_pos h0]; rfl
    ·have h0 : ¬ t.kind = 0 := by simpa using h
     rw [if_neg h0]; rfl
  refine vc160_ok (ITE.intro (fun h => ?_) fun h => ?_)
  ·have : ¬ t.args.length = t.binds.length := by simp at h; omega
   rw [if_neg (fun h => this h.1)]; rfl
  ·have hlen : t.args.length = t.binds.length := by simp at h; omega
   refine ITE.intro (fun h => ?_) fun h => ?_
   ·have h0 : t.kind = 0 := by simpa using h
    refine ITE.intro (fun h => ?_) fun h => ?_
    ·have : t.index < t.binds.length := by simpa using h
     rw [if_neg (fun h => h.2 ⟨h0, this⟩)]; rfl
    ·exact loop hlen fun h1 => by simp at h; omega
   ·exact loop hlen fun h1 => by simp at h; exact h h1.1
theorem copy1_calls (i : Int) : PureIs Tryz.prog 117 [nI i] (nI i) := vc117_ok rfl
def I64 (i : Int) : Prop := -9223372036854775808 ≤ i ∧ i < 9223372036854775808
theorem I64.wrap {i : Int} (h : I64 i) : IntKind.wrap .i64 i = i := wrap_i h.1 h.2
mutual
def Tm.Ok : Tm → Prop
 | .mk _ k i a => I64 k ∧ I64 i ∧ Tm.Oks a
def Tm.Oks : List Tm → Prop
 | [] => True
 | t :: l => Tm.Ok t ∧ Tm.Oks l
end
theorem Tm.Oks_mem {l : List Tm} (h : Tm.Oks l) {t : Tm} (ht : t ∈ l) : t.Ok := by
 induction l with
 | nil => cases ht
 | cons u l ih =>
  obtain ⟨h1, h2⟩ := h
  rcases List.mem_cons.1 ht with rfl | h3
  ·exact h1
  ·exact ih h2 h3
theorem Tm.Oks_of {l : List Tm} (h : ∀ t ∈ l, t.Ok) : Tm.Oks l := by
 induction l with
 | nil => exact True.intro
 | cons u l ih => exact ⟨h u List.mem_cons_self, ih fun t ht => h t (List.mem_cons_of_mem _ ht)⟩
theorem Tm.ok_eq {t : Tm} (h : t.Ok) : I64 t.kind ∧ I64 t.index ∧ Tm.Oks t.args := by cases t; exact h
theorem tturned_calls : ∀ (n : Nat) (t : Tm) (a : Nat), t.size ≤ n → n ≤ 1000000000 → t.Ok → a + t.size ≤ 2000000000 → PureIs Tryz.prog 84 [t.enc, nI a, .clo 117 []] t.enc := by
 intro n
 induction n with
 | zero => intro t a h; have := t.size_pos; omega
 | succ n ih =>
  intro t a h hn hk ha
  have hq := Tm.sizes_len t.args
  have hq2 := Ty.sizes_len t.binds
  have hts := t.size_eq
  obtain ⟨hk1, hk2, hk3⟩ := Tm.ok_eq hk
  have harr := arrow_calls (t := .mk [] 0) (l := t.binds) (by simp [Ty.size, Ty.sizes]; omega)
  rw [Ty.arrow, Ty.args_mk, Ty.base_mk, List.append_nil, Ty.enc_mk, Ty.enc_mk, List.map_nil] at harr
  have hw : IntKind.wrap .i64 ((a : Int) + ((List.length (t.binds.map Ty.enc) : Nat) : Int)) = ((a + t.binds.length : Nat) : Int) := by rw [List.length_map, wrap_i (by omega) (by omega)]; omega
  have loop : vc84_L6 ((((a + t.binds.length : Nat) : Int), (), (), (), t.args.map Tm.enc, ((List.length (t.args.map Tm.enc) : Nat) : Int), 0, ()), ((t.binds.map Ty.enc, t.kind, t.index, t.args.map Tm.enc, ()), ((), 0, 0, (), ()), (t.binds.map Ty.enc, t.kind, t.index, (), ()), [], ())) (fun x => x = t.enc) := by
   refine LoopP.intro (fun k : Nat => ((((a + t.binds.length : Nat) : Int), (), (), (), t.args.map Tm.enc, (t.args.length : Int), (k : Int), ()), ((t.binds.map Ty.enc, t.kind, t.index, t.args.map Tm.enc, ()), ((), 0, 0, (), ()), (t.binds.map Ty.enc, t.kind, t.index, (), ()), (t.args.take k).map Tm.enc, ())))
    (fun k => k ≤ t.args.length) (fun k => t.args.length - k) 0 (by rw [List.length_map]; rfl) (Nat.zero_le _) ?_
   intro k hk again hag
   dsimp only
   refine ITE.intro (fun h => ?_) fun h => ?_
   ·have hlt : k < t.args.length := by simpa using h
    have hz := Tm.arg_size hlt
    have hi := ih t.args[k] (a + t.binds.length) (by omega) (by omega) (Tm.Oks_mem hk3 (List.getElem_mem hlt)) (by have := Tm.sizes_mem (List.getElem_mem hlt); omega)
    rw [Tm.enc_eq] at hi
    refine ⟨by omega, by rw [List.length_map]; omega, _, _, _, _, Tm.enc_getD hlt, _, _, _, _, hi, rfl, appOk_one rfl (by simp; omega) (by decide), rfl, ?_⟩
    rw [wrap_n (by omega), Tm.enc_snoc, take_snoc' hlt]
    exact hag (k + 1) (by omega) (by omega)
   ·have : t.args.length ≤ k := by simpa using h
    refine ⟨rfl, ?_⟩
    rw [List.take_of_length_le this, ← Tm.enc_eq]
  rw [Tm.enc_eq]
  rw [Tm.enc_eq] at loop
  refine vc84_ok ⟨_, _, harr, ?_⟩
  rw [hw]
  refine ITE.intro (fun h => ?_) fun h => ⟨rfl, loop⟩
  refine ITE.intro (fun h => ?_) fun h => ⟨rfl, loop⟩
  have hge : ((a + t.binds.length : Nat) : Int) ≤ t.index := by simpa using h
  refine ⟨_, copy1_calls _, rfl, ?_⟩
  unfold I64 at hk2
  rw [wrap_i (n := t.index - ((a + t.binds.length : Nat) : Int)) (by omega) (by omega), show ((a + t.binds.length : Nat) : Int) + (t.index - ((a + t.binds.length : Nat) : Int)) = t.index from by omega, wrap_i hk2.1 hk2.2]
  exact loop
theorem copy_calls {t : Tm} (h : t.size ≤ 1000000000) (hk : t.Ok) : PureIs Tryz.prog 76 [t.enc] t.enc := by
 have := tturned_calls _ t 0 (Nat.le_refl _) h hk (by omega)
 rw [Tm.enc_eq] at this ⊢
 exact vc76_ok ⟨_, _, _, _, this, rfl⟩
end Go.Proofs.YtghlgbhldnkdmaaGreat

namespace Go.Proofs.YtghlgbhldnkdmaaGreat
open Go
set_option linter.unusedSimpArgs false
set_option linter.unusedVariables false
theorem mapGet_snoc {l : List (Int × Value)} {i v : Int} {x : Value} (h : mapGet l v = none) : mapGet (mapPut l v x) i = if i = v then some x else mapGet l i := by
 induction l with
 | nil => rfl
 | cons p l ih =>
  obtain ⟨k, u⟩ := p
  simp only [mapGet] at h
  split at h
  ·cases h
  ·rename_i hk
   simp only [mapPut, if_neg hk, mapGet, ih h]
   by_cases h1 : i = k
   ·subst h1; rw [if_pos rfl, if_neg (fun e => hk e.symm), if_pos rfl]
   ·rw [if_neg h1, if_neg h1]
def posN : List Int → Int → Option Nat
 | [], _ => none
 | v :: l, i => if i = v then some 0 else (posN l i).map (· + 1)
theorem posN_none {l : List Int} {i : Int} : posN l i = none ↔ ¬ i ∈ l := by
 induction l with
 | nil => simp [posN]
 | cons v l ih =>
  simp only [posN]
  split
  ·rename_i h; simp [h]
  ·rename_i h; simp [ih, h]
theorem posN_snoc {l : List Int} {v i : Int} (h : ¬ v ∈ l) : posN (l ++ [v]) i = if i = v then some l.length else posN l i := by
 induction l with
 | nil => simp [posN]
 | cons u l ih =>
  have h1 : ¬ v = u := fun e => h (by rw [e]; simp)
  have h2 : ¬ v ∈ l := fun e => h (List.mem_cons_of_mem _ e)
  simp only [List.cons_append, posN, ih h2]
  by_cases hi : i = u
  ·subst hi
   rw [if_pos rfl, if_pos rfl, if_neg (fun e => h1 e.symm)]
  ·rw [if_neg hi, if_neg hi]
   split <;> simp
theorem posN_lt {l : List Int} {i : Int} {k : Nat} (h : posN l i = some k) : k < l.length := by
 induction l generalizing k with
 | nil => cases h
 | cons u l ih =>
  simp only [posN] at h
  split at h
  ·cases h; simp
  ·cases hp : posN l i with
   | none => rw [hp] at h; cases h
   | some j => rw [hp] at h; cases h; have := ih hp; simp; omega
def IsPos (es : List (Int × Value)) (l : List Int) : Prop := ∀ i, mapGet es i = (posN l i).map fun k => Value.int .i64 (k : Nat)
def mayB (n : Int) (l : List Int) : Bool := decide (l.Nodup ∧ ∀ v ∈ l, 0 ≤ v ∧ v < n)
theorem places_calls {n : Int} {l : List Int} (hsz : l.length ≤ 1000000000) : Pure Tryz.prog 71 [nI n, .sl (encInts l)]
  (fun r => (mayB n l = true ∧ ∃ es, IsPos es l ∧ r = .tup [.mapv es, nB true]) ∨ (mayB n l = false ∧ r = .tup [.prim (.map none), nB false])) := by
 refine vc71_ok ?_
 unfold vc71 vc71_L3
 refine LoopP.intro (fun p : Nat × List (Int × Value) => ((n, (), encInts l, (l.length : Int), (p.1 : Int), ()), (p.2, ()))) (fun p => p.1 ≤ l.length ∧ mayB n (l.take p.1) = true ∧ IsPos p.2 (l.take p.1)) (fun p => l.length - p.1) (0, [])
  (by rw [encInts_len]; rfl) ⟨Nat.zero_le _, by simp [mayB], fun i => rfl⟩ ?_
 intro ⟨k, es⟩ ⟨hk, hm, hp⟩ again hag
 dsimp only at hk hm hp ⊢
 refine ITE.intro (fun h => ?_) fun h => ?_
 ·have hlt : k < l.length := by simpa using h
  have hsplit : l = l.take k ++ l[k] :: l.drop (k + 1) := by rw [← List.drop_eq_getElem_cons hlt, List.take_append_drop]
  have bad : ¬ (l[k] ∉ l.take k ∧ 0 ≤ l[k] ∧ l[k] < n) → mayB n l = false := by
   intro hb
   unfold mayB
   rw [decide_eq_false_iff_not]
   rintro ⟨h1, h2⟩
   refine hb ⟨fun hmem => ?_, h2 _ (List.getElem_mem hlt)⟩
   rw [hsplit, List.nodup_append] at h1
   exact h1.2.2 _ hmem _ List.mem_cons_self rfl
  refine ⟨by omega, by rw [encInts_len]; omega, _, encInts_getD hlt, ?_⟩
  have hg := hp l[k]
  refine ⟨?_, ?_⟩
  ·rw [hg]; cases posN (l.take k) l[k] <;> rfl
  refine ITE.intro (fun h => ?_) fun h => ?_
  ·refine .inr ⟨bad fun hh => ?_, rfl⟩
   rw [hg, posN_none.2 hh.1] at h
   cases h
  ·have hnone : mapGet es l[k] = none := by simpa using h
   have hnp : posN (l.take k) l[k] = none := by rw [hnone] at hg; cases hq : posN (l.take k) l[k] with
    | none => rfl
    | some j => rw [hq] at hg; cases hg
   have hnm := posN_none.1 hnp
   refine ITE.intro (fun h => ?_) fun h => ?_
   ·exact .inr ⟨bad fun hh => by simp at h; omega, rfl⟩
   refine ITE.intro (fun h2 => ?_) fun h2 => ?_
   ·exact .inr ⟨bad fun hh => by simp at h2; omega, rfl⟩
   rw [wrap_n (by omega)]
   refine hag (k + 1, mapPut es l[k] (.int .i64 (k : Int))) ⟨by simp only; omega, ?_, ?_⟩ (by simp only; omega)
   ·unfold mayB at hm ⊢
    rw [decide_eq_true_eq] at hm ⊢
    rw [List.take_succ_eq_append_getElem hlt]
    refine ⟨?_, fun v hv => ?_⟩
    ·rw [List.nodup_append]
     exact ⟨hm.1, by simp, fun a ha b hb e => by rw [List.mem_singleton.1 hb] at e; rw [e] at ha; exact hnm ha⟩
    ·rcases List.mem_append.1 hv with h3 | h3
     ·exact hm.2 v h3
     ·rw [List.mem_singleton.1 h3]; simp at h h2; omega
   ·intro i
    have : (l.take k).length = k := by simp; omega
    rw [mapGet_snoc hnone, List.take_succ_eq_append_getElem hlt, posN_snoc hnm, this, hp i]
    split <;> rfl
 ·have : l.length ≤ k := by simpa using h
  rw [List.take_of_length_le this] at hm hp
  exact .inl ⟨hm, es, hp, rfl⟩
theorem mayB_iff {n : Int} {l : List Int} : mayB n l = true ↔ l.Nodup ∧ ∀ v ∈ l, 0 ≤ v ∧ v < n := by simp [mayB]
def typesOf (b : List Ty) (l : List Int) : List Ty := l.map fun v => b.getD (b.length - 1 - v.toNat) (.mk [] 0)
theorem types_calls {b : List Ty} {l : List Int} (hb : b.length ≤ 1000000000) (hsz : l.length ≤ 1000000000) (hm : ∀ v ∈ l, 0 ≤ v ∧ v < b.length) : PureIs Tryz.prog 75 [.sl (b.map Ty.enc), .sl (encInts l)] (.sl ((typesOf b l).map Ty.enc)) := by
 refine vc75_ok ⟨rfl, ?_⟩
 refine LoopP.intro (fun k : Nat => ((b.map Ty.enc, (), encInts l, (l.length : Int), (k : Int), ()), ((typesOf b (l.take k)).map Ty.enc, ()))) (fun k => k ≤ l.length) (fun k => l.length - k) 0 (by rw [encInts_len]; rfl) (Nat.zero_le _) ?_
 intro k hk again hag
 dsimp only
 refine ITE.intro (fun h => ?_) fun h => ?_
 ·have hlt : k < l.length := by simpa using h
  have hv := hm l[k] (List.getElem_mem hlt)
  obtain ⟨v, hvn⟩ : ∃ v : Nat, l[k] = (v : Int) := ⟨l[k].toNat, by omega⟩
  have hw : IntKind.wrap .i64 (IntKind.wrap .i64 (((List.length (b.map Ty.enc) : Nat) : Int) - 1) - l[k]) = ((b.length - 1 - v : Nat) : Int) := by
   rw [List.length_map, wrap_i (n := (b.length : Int) - 1) (by omega) (by omega), wrap_i (by omega) (by omega)]; omega
  refine ⟨by omega, by rw [encInts_len]; omega, _, encInts_getD hlt, ?_⟩
  rw [hw]
  have hlt2 : b.length - 1 - v < b.length := by omega
  refine ⟨by omega, by rw [List.length_map]; omega, _, _, Ty.enc_getD hlt2, rfl, appOk_one rfl (by simp [typesOf]; omega) (by decide), rfl, ?_⟩
  rw [wrap_n (by omega), Ty.enc_snoc]
  have : typesOf b (l.take k) ++ [b[b.length - 1 - v]] = typesOf b (l.take (k + 1)) := by
   rw [List.take_succ_eq_append_getElem hlt]
   simp [typesOf, hvn, List.getD, hlt2]
  rw [this]
  exact hag (k + 1) (by omega) (by omega)
 ·have : l.length ≤ k := by simpa using h
  refine ⟨rfl, ?_⟩
  rw [List.take_of_length_le this]
def takeHp (t : Tm) (n m : Int) (es : List (Int × Value)) (e : Int) : List AObj :=
 [.box [.sl (t.binds.map Ty.enc), nI t.kind, nI t.index, .sl (t.args.map Tm.enc)], .box [.prim (.slice none 0 0), nI 0, nI 0, .prim (.slice none 0 0)], .box [nI n], .box [nI m], .box [.mapv es], .box [nI e]]
def takeIx (n : Int) (l : List Int) (i : Int) : Int := if n ≤ i then i - n + l.length else l.length - 1 - ((posN l i).getD 0 : Nat)
def takeBad (n : Int) (l : List Int) (i : Int) : Bool := decide (i < n ∧ ¬ i ∈ l)
theorem take1_calls {t : Tm} {n : Nat} {l : List Int} {es : List (Int × Value)} {e i : Int} (hp : IsPos es l) (hn : n ≤ 1000000000) (hl : l.length ≤ n) (hi : 0 ≤ i) (hi2 : i < 9223372036854775808) :
  HFn Tryz.prog 73 [nI i, .ptr 2 0, .ptr 3 0, .ptr 4 0, .ptr 5 0] (takeHp t n l.length es e)
   (fun r h => r = nI (takeIx n l i) ∧ h = takeHp t n l.length es (if takeBad n l i then 9 else e)) := by
 refine vc73_ok (ITE.intro (fun h => ?_) fun h => ?_)
 ·have : (n : Int) ≤ i := by simpa using h
  rw [wrap_i (n := i - n) (by omega) (by omega), wrap_i (by omega) (by omega)]
  have h2 : takeBad n l i = false := by simp [takeBad]; omega
  rw [h2, takeIx, if_pos this]; exact ⟨rfl, rfl⟩
 ·have hlt : ¬ (n : Int) ≤ i := by simpa using h
  have hg := hp i
  have hv : vInt (Option.getD (mapGet es i) (.int .i64 0)) = ((posN l i).getD 0 : Nat) := by rw [hg]; cases posN l i <;> rfl
  have hlp : ((posN l i).getD 0) ≤ l.length := by
   cases hq : posN l i with
   | none => simp
   | some k => have := posN_lt hq; simp; omega
  refine ⟨by rw [hg]; cases posN l i <;> rfl, ?_⟩
  rw [hv, wrap_i (n := (l.length : Int) - 1) (by omega) (by omega), wrap_i (by omega) (by omega), takeIx, if_neg hlt]
  refine ITE.intro (fun h => ?_) fun h => ?_
  ·have : posN l i = none := by
    rw [hg] at h
    cases hq : posN l i with
    | none => rfl
    | some k => rw [hq] at h; cases h
   have h2 : takeBad n l i = true := by simp [takeBad, posN_none.1 this]; omega
   rw [h2]; exact ⟨rfl, rfl⟩
  ·have : ¬ posN l i = none := by
    rw [hg] at h
    intro hq; rw [hq] at h; cases h
   have h2 : takeBad n l i = false := by
    unfold takeBad
    rw [decide_eq_false_iff_not]
    rintro ⟨_, h3⟩
    exact this (posN_none.2 h3)
   rw [h2]; exact ⟨rfl, rfl⟩
mutual
def Tm.taken (n : Int) (l : List Int) : Nat → Tm → Tm
 | a, .mk b k i xs => .mk b k (if k = 0 ∧ (a + b.length : Nat) ≤ i then (a + b.length : Nat) + takeIx n l (i - (a + b.length : Nat)) else i) (Tm.takens n l (a + b.length) xs)
def Tm.takens (n : Int) (l : List Int) : Nat → List Tm → List Tm
 | _, [] => []
 | a, t :: ts => Tm.taken n l a t :: Tm.takens n l a ts
end
mutual
def Tm.clash (n : Int) (l : List Int) : Nat → Tm → Bool
 | a, .mk b k i xs => decide (k = 0 ∧ (a + b.length : Nat) ≤ i ∧ takeBad n l (i - (a + b.length : Nat)) = true) || Tm.clashs n l (a + b.length) xs
def Tm.clashs (n : Int) (l : List Int) : Nat → List Tm → Bool
 | _, [] => false
 | a, t :: ts => Tm.clash n l a t || Tm.clashs n l a ts
end
theorem Tm.takens_eq (n : Int) (l : List Int) (a : Nat) (ts : List Tm) : Tm.takens n l a ts = ts.map (Tm.taken n l a) := by
 induction ts with
 | nil => rfl
 | cons t ts ih => simp [Tm.takens, ih]
theorem Tm.clashs_eq (n : Int) (l : List Int) (a : Nat) (ts : List Tm) : Tm.clashs n l a ts = ts.any (Tm.clash n l a) := by
 induction ts with
 | nil => rfl
 | cons t ts ih => simp [Tm.clashs, ih]
theorem Tm.taken_eq (n : Int) (l : List Int) (a : Nat) (t : Tm) : Tm.taken n l a t = .mk t.binds t.kind (if t.kind = 0 ∧ (a + t.binds.length : Nat) ≤ t.index then (a + t.binds.length : Nat) + takeIx n l (t.index - (a + t.binds.length : Nat)) else t.index) (t.args.map (Tm.taken n l (a + t.binds.length))) := by
 cases t; rw [Tm.taken, Tm.takens_eq]; rfl
theorem Tm.clash_eq (n : Int) (l : List Int) (a : Nat) (t : Tm) : Tm.clash n l a t = (decide (t.kind = 0 ∧ (a + t.binds.length : Nat) ≤ t.index ∧ takeBad n l (t.index - (a + t.binds.length : Nat)) = true) || t.args.any (Tm.clash n l (a + t.binds.length))) := by
 cases t; rw [Tm.clash, Tm.clashs_eq]; rfl
theorem turned_calls {n : Nat} {l : List Int} {es : List (Int × Value)} {u : Tm} (hp : IsPos es l) (hn : n ≤ 1000000000) (hl : l.length ≤ n) : ∀ (d : Nat) (t : Tm) (a : Nat) (e : Int), t.size ≤ d → d ≤ 1000000000 → t.Ok → a + t.size ≤ 2000000000 →
  HFn Tryz.prog 72 [t.enc, nI a, .clo 73 [.ptr 2 0, .ptr 3 0, .ptr 4 0, .ptr 5 0]] (takeHp u n l.length es e)
   (fun r h => r = (Tm.taken n l a t).enc ∧ h = takeHp u n l.length es (if Tm.clash n l a t then 9 else e)) := by
 intro d
 induction d with
 | zero => intro t a e h; have := t.size_pos; omega
 | succ d ih =>
  intro t a e h hd hk ha
  have hq := Tm.sizes_len t.args
  have hq2 := Ty.sizes_len t.binds
  have hts := t.size_eq
  obtain ⟨hk1, hk2, hk3⟩ := Tm.ok_eq hk
  have hw : IntKind.wrap .i64 ((a : Int) + ((List.length (t.binds.map Ty.enc) : Nat) : Int)) = ((a + t.binds.length : Nat) : Int) := by rw [List.length_map, wrap_i (by omega) (by omega)]; omega
  have loop : ∀ (ix e0 : Int), vc72_L6 ((((a + t.binds.length : Nat) : Int), ((), (), (), (), ()), (), (), (), t.args.map Tm.enc, ((List.length (t.args.map Tm.enc) : Nat) : Int), 0, ()), ((u.binds.map Ty.enc, u.kind, u.index, u.args.map Tm.enc, ()), ((), 0, 0, (), ()), ((n : Int), ()), ((l.length : Int), ()), (es, ()), (e0, ()), (t.binds.map Ty.enc, t.kind, ix, t.args.map Tm.enc, ()), ((), 0, 0, (), ()), [], ()))
    (fun r h => r = (Tm.mk t.binds t.kind ix (t.args.map (Tm.taken n l (a + t.binds.length)))).enc ∧ h = takeHp u n l.length es (if t.args.any (Tm.clash n l (a + t.binds.length)) then 9 else e0)) := by
   intro ix e0
   refine LoopP.intro (fun k : Nat => ((((a + t.binds.length : Nat) : Int), ((), (), (), (), ()), (), (), (), t.args.map Tm.enc, (t.args.length : Int), (k : Int), ()), ((u.binds.map Ty.enc, u.kind, u.index, u.args.map Tm.enc, ()), ((), 0, 0, (), ()), ((n : Int), ()), ((l.length : Int), ()), (es, ()), ((if (t.args.take k).any (Tm.clash n l (a + t.binds.length)) then 9 else e0), ()), (t.binds.map Ty.enc, t.kind, ix, t.args.map Tm.enc, ()), ((), 0, 0, (), ()), ((t.args.take k).map (Tm.taken n l (a + t.binds.length))).map Tm.enc, ())))
    (fun k => k ≤ t.args.length) (fun k => t.args.length - k) 0 (by rw [List.length_map]; rfl) (Nat.zero_le _) ?_
   intro k hk again hag
   dsimp only
   refine ITE.intro (fun h => ?_) fun h => ?_
   ·have hlt : k < t.args.length := by simpa using h
    have hz := Tm.arg_size hlt
    have hi := ih t.args[k] (a + t.binds.length) (if (t.args.take k).any (Tm.clash n l (a + t.binds.length)) then 9 else e0) (by omega) (by omega) (Tm.Oks_mem hk3 (List.getElem_mem hlt)) (by have := Tm.sizes_mem (List.getElem_mem hlt); omega)
    rw [Tm.enc_eq t.args[k]] at hi
    refine ⟨by omega, by rw [List.length_map]; omega, _, _, _, _, Tm.enc_getD hlt, _, hi, ?_⟩
    rintro r h' ⟨rfl, rfl⟩
    rw [Tm.enc_eq (Tm.taken _ _ _ _)]
    refine ⟨_, _, _, _, _, _, _, _, _, _, _, _, ⟨rfl, rfl⟩, rfl, appOk_one rfl (by simp; omega) (by decide), rfl, ?_⟩
    have e1 : List.map (Tm.taken n l (a + t.binds.length)) (t.args.take k) ++ [Tm.taken n l (a + t.binds.length) t.args[k]] = List.map (Tm.taken n l (a + t.binds.length)) (t.args.take (k + 1)) := by rw [List.take_succ_eq_append_getElem hlt, List.map_append]; rfl
    have e2 : (if Tm.clash n l (a + t.binds.length) t.args[k] = true then 9 else if (t.args.take k).any (Tm.clash n l (a + t.binds.length)) = true then 9 else e0) = (if (t.args.take (k + 1)).any (Tm.clash n l (a + t.binds.length)) = true then (9 : Int) else e0) := by
     rw [List.take_succ_eq_append_getElem hlt, List.any_append]
     simp only [List.any_cons, List.any_nil, Bool.or_false, Bool.or_eq_true]
     generalize Tm.clash n l (a + t.binds.length) t.args[k] = b1
     generalize (t.args.take k).any (Tm.clash n l (a + t.binds.length)) = b2
     cases b1 <;> cases b2 <;> simp
    rw [wrap_n (by omega), Tm.enc_snoc, e1, e2]
    exact hag (k + 1) (by omega) (by omega)
   ·have : t.args.length ≤ k := by simpa using h
    refine ⟨rfl, ?_⟩
    rw [List.take_of_length_le this, Tm.enc_mk]
    exact ⟨rfl, rfl⟩
  have hmk : (0 ≤ ((List.length (t.args.map Tm.enc) : Nat) : Int) ∧ ((List.length (t.args.map Tm.enc) : Nat) : Int) ≤ 9223372036854775807 ∧ (TD.bytes td51 : Int) * ((List.length (t.args.map Tm.enc) : Nat) : Int) ≤ 281474976710656) := by
   rw [List.length_map]
   refine ⟨by omega, by omega, ?_⟩
   show (64 : Int) * _ ≤ _
   omega
  rw [Tm.enc_eq t, Tm.taken_eq, Tm.clash_eq]
  refine vc72_ok ?_
  unfold vc72
  rw [hw]
  refine ITE.intro (fun h => ?_) fun h => ?_
  ·have h0 : t.kind = 0 := by simpa using h
   refine ITE.intro (fun h => ?_) fun h => ?_
   ·have hge : ((a + t.binds.length : Nat) : Int) ≤ t.index := by simpa using h
    unfold I64 at hk2
    rw [wrap_i (n := t.index - ((a + t.binds.length : Nat) : Int)) (by omega) (by omega)]
    refine ⟨_, take1_calls (t := u) (e := e) hp hn hl (by omega) (by omega), ?_⟩
    rintro r h' ⟨rfl, rfl⟩
    refine ⟨_, _, _, _, _, _, _, _, _, ⟨rfl, rfl⟩, hmk, rfl, ?_⟩
    have hb : takeIx n l (t.index - ((a + t.binds.length : Nat) : Int)) ≤ t.index - ((a + t.binds.length : Nat) : Int) + 1000000000 ∧ -1000000000 ≤ takeIx n l (t.index - ((a + t.binds.length : Nat) : Int)) ∧ (n ≤ t.index - ((a + t.binds.length : Nat) : Int) → takeIx n l (t.index - ((a + t.binds.length : Nat) : Int)) ≤ t.index - ((a + t.binds.length : Nat) : Int)) ∧ (t.index - ((a + t.binds.length : Nat) : Int) < n → takeIx n l (t.index - ((a + t.binds.length : Nat) : Int)) ≤ 1000000000) := by
     unfold takeIx
     have hlp : ((posN l (t.index - ((a + t.binds.length : Nat) : Int))).getD 0) ≤ l.length := by
      cases hq : posN l (t.index - ((a + t.binds.length : Nat) : Int)) with
      | none => simp
      | some k => have := posN_lt hq; simp; omega
     split <;> refine ⟨by omega, by omega, fun _ => by omega, fun _ => by omega⟩
    rw [wrap_i (n := ((a + t.binds.length : Nat) : Int) + takeIx n l (t.index - ((a + t.binds.length : Nat) : Int))) (by omega) (by omega), if_pos (show t.kind = 0 ∧ ((a + t.binds.length : Nat) : Int) ≤ t.index from ⟨h0, hge⟩)]
    have e3 : decide (t.kind = 0 ∧ ((a + t.binds.length : Nat) : Int) ≤ t.index ∧ takeBad n l (t.index - ((a + t.binds.length : Nat) : Int)) = true) = takeBad n l (t.index - ((a + t.binds.length : Nat) : Int)) := by
     simp only [h0, hge, true_and, Bool.decide_eq_true]
    rw [e3]
    have := loop (((a + t.binds.length : Nat) : Int) + takeIx n l (t.index - ((a + t.binds.length : Nat) : Int))) (if takeBad n l (t.index - ((a + t.binds.length : Nat) : Int)) = true then 9 else e)
    have e4 : (if t.args.any (Tm.clash n l (a + t.binds.length)) = true then (9 : Int) else if takeBad n l (t.index - ((a + t.binds.length : Nat) : Int)) = true then 9 else e) = (if (takeBad n l (t.index - ((a + t.binds.length : Nat) : Int)) || t.args.any (Tm.clash n l (a + t.binds.length))) = true then 9 else e) := by
     generalize takeBad n l (t.index - ((a + t.binds.length : Nat) : Int)) = b1
     generalize t.args.any (Tm.clash n l (a + t.binds.length)) = b2
     cases b1 <;> cases b2 <;> simp
    rw [e4] at this
    exact this
   ·have hlt : ¬ ((a + t.binds.length : Nat) : Int) ≤ t.index := by simpa using h
    rw [if_neg (show ¬ (t.kind = 0 ∧ ((a + t.binds.length : Nat) : Int) ≤ t.index) from fun h => hlt h.2), show decide (t.kind = 0 ∧ ((a + t.binds.length : Nat) : Int) ≤ t.index ∧ takeBad n l (t.index - ((a + t.binds.length : Nat) : Int)) = true) = false from by rw [decide_eq_false_iff_not]; exact fun h => hlt h.2.1, Bool.false_or]
    exact ⟨hmk, rfl, loop _ _⟩
  ·have h0 : ¬ t.kind = 0 := by simpa using h
   rw [if_neg (show ¬ (t.kind = 0 ∧ ((a + t.binds.length : Nat) : Int) ≤ t.index) from fun h => h0 h.1), show decide (t.kind = 0 ∧ ((a + t.binds.length : Nat) : Int) ≤ t.index ∧ takeBad n l (t.index - ((a + t.binds.length : Nat) : Int)) = true) = false from by rw [decide_eq_false_iff_not]; exact fun h => h0 h.1, Bool.false_or]
   exact ⟨hmk, rfl, loop _ _⟩
end Go.Proofs.YtghlgbhldnkdmaaGreat

namespace Go.Proofs.YtghlgbhldnkdmaaGreat
open Go
set_option linter.unusedSimpArgs false
set_option linter.unusedVariables false
def varsFrom (n : Int) : List Int → List Tm → Option (List Int)
 | acc, [] => some acc
 | acc, a :: l => match a.var with
  | some (k, i) => if k = 0 ∧ i < n ∧ ¬ i ∈ acc then varsFrom n (acc ++ [i]) l else none
  | none => none
def Tm.vars (t : Tm) (n : Int) : List Int × Int :=
 if t.kind = 2 ∧ 0 ≤ n then (match varsFrom n [] t.args with
  | some l => (l, 0)
  | none => ([], 6)) else ([], 1)
def errAV (p : List Int × Int) : AV := .tup [.sl (encInts p.1), nI p.2]
def IsSeen (es : List (Int × Value)) (l : List Int) : Prop := ∀ i, mapGet es i = if i ∈ l then some (.bool true) else none
theorem IsSeen.put {es : List (Int × Value)} {l : List Int} {i : Int} (h : IsSeen es l) (hi : ¬ i ∈ l) : IsSeen (mapPut es i (.bool true)) (l ++ [i]) := by
 intro j
 have hn : mapGet es i = none := by rw [h i, if_neg hi]
 rw [mapGet_snoc hn, h j]
 by_cases h1 : j = i
 ·subst h1; simp
 ·simp [h1]
theorem vars_calls {t : Tm} {n : Int} (h : t.size ≤ 1000000000) : PureIs Tryz.prog 147 [t.enc, nI n] (errAV (t.vars n)) := by
 have hla := Tm.sizes_len t.args
 have hs := t.size_eq
 have hfc := flex_calls t
 rw [Tm.enc_eq] at hfc ⊢
 refine vc147_ok ⟨_, hfc, ITE.intro (fun h => ?_) fun h => ?_⟩
 ·have : ¬ t.kind = 2 := by simpa using h
  rw [Tm.vars, if_neg (fun h => this h.1)]; rfl
 have hk : t.kind = 2 := by simpa using h
 refine ITE.intro (fun h => ?_) fun h => ⟨rfl, ?_⟩
 ·have : n < 0 := by simpa using h
  rw [Tm.vars, if_neg (fun h => by omega)]; rfl
 have hn : 0 ≤ n := by simpa using h
 rw [Tm.vars, if_pos ⟨hk, hn⟩]
 unfold vc147_L6
 refine LoopP.intro (fun p : Nat × List Int × List (Int × Value) => ((n, (), (), t.args.map Tm.enc, (t.args.length : Int), (p.1 : Int), ()), ((t.binds.map Ty.enc, t.kind, t.index, t.args.map Tm.enc, ()), p.2.2, encInts p.2.1, ())))
  (fun p => p.1 ≤ t.args.length ∧ p.2.1.length = p.1 ∧ IsSeen p.2.2 p.2.1 ∧ varsFrom n [] t.args = varsFrom n p.2.1 (t.args.drop p.1)) (fun p => t.args.length - p.1) (0, [], []) (by rw [List.length_map]; rfl) ⟨Nat.zero_le _, rfl, fun i => rfl, rfl⟩ ?_
 intro ⟨k, acc, es⟩ ⟨hk1, hl, hse, hv⟩ again hag
 dsimp only at hk1 hl hse hv ⊢
 refine ITE.intro (fun h => ?_) fun h => ?_
 ·have hlt : k < t.args.length := by simpa using h
  rw [List.drop_eq_getElem_cons hlt, varsFrom] at hv
  have hz := Tm.arg_size hlt
  have hc := var_calls _ t.args[k] (Nat.le_refl _) (by omega)
  rw [Tm.enc_eq] at hc
  refine ⟨by omega, by rw [List.length_map]; omega, _, _, _, _, Tm.enc_getD hlt, ?_⟩
  cases hvar : t.args[k].var with
  | none =>
   rw [hvar] at hc hv
   dsimp only at hv
   refine ⟨_, _, _, hc, ITE.pos rfl ?_⟩
   rw [hv]; rfl
  | some p =>
   obtain ⟨q, i⟩ := p
   rw [hvar] at hc hv
   dsimp only at hv
   refine ⟨_, _, _, hc, ITE.neg rfl ?_⟩
   refine ITE.intro (fun h => ?_) fun h => ?_
   ·have : ¬ q = 0 := by simpa using h
    rw [hv, if_neg (fun h => this h.1)]; rfl
   have hq : q = 0 := by simpa using h
   refine ITE.intro (fun h => ?_) fun h => ?_
   ·have : n ≤ i := by simpa using h
    rw [hv, if_neg (fun h => by omega)]; rfl
   have hi : i < n := by simpa using h
   have hg := hse i
   by_cases hm : i ∈ acc
   ·rw [if_pos hm] at hg
    rw [hg]
    refine ⟨rfl, ITE.pos rfl ?_⟩
    rw [hv, if_neg (fun h => h.2.2 hm)]; rfl
   ·rw [if_neg hm] at hg
    rw [hg]
    refine ⟨rfl, ITE.neg rfl ⟨rfl, appOk_one rfl (by simp [encInts_len]; omega) (by decide), rfl, ?_⟩⟩
    rw [if_pos ⟨hq, hi, hm⟩] at hv
    rw [wrap_n (by omega), encInts_snoc]
    exact hag (k + 1, acc ++ [i], mapPut es i (.bool true)) ⟨by simp only; omega, by simp [hl], hse.put hm, hv⟩ (by simp only; omega)
 ·have : t.args.length ≤ k := by simpa using h
  rw [List.drop_eq_nil_of_le this, varsFrom] at hv
  refine ⟨rfl, ?_⟩
  rw [hv]; rfl
structure Us where
 meta_ : Int
 vars : List Int
 binds : List Ty
 path : List Int
def Us.enc (u : Us) : AV := .agg [nI u.meta_, .sl (encInts u.vars), .sl (u.binds.map Ty.enc), .sl (encInts u.path)]
mutual
def Tm.uses (around : List Ty) (path : List Int) : Tm → Option (List Us)
 | .mk b k i a => if k = 2 then (match Tm.vars (.mk b k i a) (around ++ b).length with
  | (v, e) => if e = 0 then some [⟨i, v, around ++ b, path⟩] else none) else Tm.usess (around ++ b) path 0 a
def Tm.usess (around : List Ty) (path : List Int) (n : Nat) : List Tm → Option (List Us)
 | [] => some []
 | t :: l => (match Tm.uses around (path ++ [(n : Int)]) t with
  | some u => (match Tm.usess around path (n + 1) l with
   | some us => some (u ++ us)
   | none => none)
  | none => none)
end
theorem Tm.uses_eq (around : List Ty) (path : List Int) (t : Tm) : Tm.uses around path t = if t.kind = 2 then (match t.vars (around ++ t.binds).length with
  | (v, e) => if e = 0 then some [⟨t.index, v, around ++ t.binds, path⟩] else none) else Tm.usess (around ++ t.binds) path 0 t.args := by
 cases t; rw [Tm.uses]; rfl
theorem Tm.usess_drop {around : List Ty} {path : List Int} {l : List Tm} {k : Nat} (h : k < l.length) : Tm.usess around path k (l.drop k) = (match Tm.uses around (path ++ [(k : Int)]) l[k] with
  | some u => (match Tm.usess around path (k + 1) (l.drop (k + 1)) with
   | some us => some (u ++ us)
   | none => none)
  | none => none) := by
 rw [List.drop_eq_getElem_cons h, Tm.usess]
mutual
theorem Tm.uses_len : ∀ {t : Tm} {around : List Ty} {path : List Int} {u : List Us}, Tm.uses around path t = some u → u.length ≤ t.size
 | .mk b k i a, around, path, u, h => by
  rw [Tm.uses] at h
  split at h
  ·dsimp only at h
   split at h
   ·cases h; simp [Tm.size]; omega
   ·cases h
  ·have := Tm.usess_len h; simp [Tm.size]; omega
theorem Tm.usess_len : ∀ {l : List Tm} {around : List Ty} {path : List Int} {n : Nat} {u : List Us}, Tm.usess around path n l = some u → u.length ≤ Tm.sizes l
 | [], _, _, _, u, h => by rw [Tm.usess] at h; cases h; simp
 | t :: l, around, path, n, u, h => by
  rw [Tm.usess] at h
  split at h
  ·rename_i u1 h1
   split at h
   ·rename_i u2 h2
    cases h
    have := Tm.uses_len h1
    have := Tm.usess_len h2
    simp [Tm.sizes]; omega
   ·cases h
  ·cases h
end
theorem Tm.vars_err {t : Tm} {n : Int} (hk : t.kind = 2) (hn : 0 ≤ n) : (t.vars n).2 = 0 ∨ t.vars n = ([], 6) := by
 rw [Tm.vars, if_pos ⟨hk, hn⟩]
 split
 ·exact .inl rfl
 ·exact .inr rfl
theorem uses_calls : ∀ (d : Nat) (t : Tm) (us : List Us) (around : List Ty) (path : List Int), t.size ≤ d → d ≤ 100000000 → us.length + t.size ≤ 200000000 → Ty.sizes around + t.size ≤ 200000000 → path.length + t.size ≤ 200000000 →
  HFn Tryz.prog 114 [.own 0 (us.map Us.enc).length, t.enc, .sl (around.map Ty.enc), .sl (encInts path)] [.row 142 4 (us.map Us.enc)]
   (fun r h => (∃ u, Tm.uses around path t = some u ∧ r = .tup [.own 0 ((us ++ u).map Us.enc).length, nI 0] ∧ h = [.row 142 4 ((us ++ u).map Us.enc)]) ∨ (Tm.uses around path t = none ∧ ∃ l, r = .tup [.prim (.slice none 0 0), nI 6] ∧ h = [.row 142 4 l])) := by
 intro d
 induction d with
 | zero => intro t us around path h; have := t.size_pos; omega
 | succ d ih =>
  intro t us around path hd hd2 h1 h2 h3
  have hla := Tm.sizes_len t.args
  have hlb := Ty.sizes_len t.binds
  have hlc := Ty.sizes_len around
  have hs := t.size_eq
  have hcc := concat_calls (ll := [around, t.binds]) (by simp) (by simp; omega)
  simp only [encRows, List.map_cons, List.map_nil, List.flatten_cons, List.flatten_nil, List.append_nil] at hcc
  have hfc := flex_calls t
  have hvc := vars_calls (t := t) (n := ((around ++ t.binds).length : Nat)) (by omega)
  have harr := arrow_calls (t := .mk [] 0) (l := around ++ t.binds) (by simp [Ty.size, Ty.sizes, Ty.sizes_append]; omega)
  rw [Ty.arrow, Ty.args_mk, Ty.base_mk, List.append_nil, Ty.enc_mk, Ty.enc_mk, List.map_nil] at harr
  rw [Tm.enc_eq] at hfc hvc ⊢
  refine vc114_ok ⟨_, hcc, _, hfc, ITE.intro (fun h => ?_) fun h => ⟨rfl, ?_⟩⟩
  ·have hk : t.kind = 2 := by simpa using h
   rw [Tm.uses_eq, if_pos hk, List.length_map]
   refine ⟨_, _, hvc, ?_⟩
   rcases Tm.vars_err hk (show (0 : Int) ≤ (((around ++ t.binds).length : Nat) : Int) by omega) with h0 | h0
   ·dsimp only
    rw [h0]
    refine ITE.neg rfl ⟨_, _, harr, _, clone_calls (by omega), rfl, appOk_one rfl (by simp; omega) (by decide), .inl ⟨_, if_pos rfl, ?_⟩⟩
    simp [Us.enc]
   ·rw [h0]
    exact ITE.pos rfl (.inr ⟨by simp, _, rfl, rfl⟩)
  ·have hk : ¬ t.kind = 2 := by simpa using h
   rw [Tm.uses_eq, if_neg hk]
   unfold vc114_L8
   refine LoopP.intro (fun p : Nat × List Us => (((), (around ++ t.binds).map Ty.enc, encInts path, t.args.map Tm.enc, (t.args.length : Int), (p.1 : Int), ()), ((us ++ p.2).map Us.enc, (t.binds.map Ty.enc, t.kind, t.index, t.args.map Tm.enc, ()), ())))
    (fun p => p.1 ≤ t.args.length ∧ p.2.length ≤ Tm.sizes (t.args.take p.1) ∧ Tm.usess (around ++ t.binds) path 0 t.args = (match Tm.usess (around ++ t.binds) path p.1 (t.args.drop p.1) with | some u => some (p.2 ++ u) | none => none)) (fun p => t.args.length - p.1) (0, []) (by rw [List.length_map]; simp) ⟨Nat.zero_le _, by simp, by simp only [List.drop_zero, List.nil_append]; split <;> simp_all⟩ ?_
   intro ⟨k, u0⟩ ⟨hk1, hl, hv⟩ again hag
   dsimp only at hk1 hl hv ⊢
   refine ITE.intro (fun h => ?_) fun h => ?_
   ·have hlt : k < t.args.length := by simpa using h
    have hz := Tm.arg_size hlt
    have hsz : Tm.sizes (t.args.take k) + t.args[k].size ≤ Tm.sizes t.args := by
     have e : t.args = t.args.take k ++ t.args[k] :: t.args.drop (k + 1) := by rw [← List.drop_eq_getElem_cons hlt, List.take_append_drop]
     have e2 : Tm.sizes t.args = Tm.sizes (t.args.take k ++ t.args[k] :: t.args.drop (k + 1)) := by rw [← e]
     rw [e2, Tm.sizes_append, Tm.sizes]; omega
    have htk : Tm.sizes (t.args.take (k + 1)) = Tm.sizes (t.args.take k) + t.args[k].size := by
     rw [List.take_succ_eq_append_getElem hlt, Tm.sizes_append]; simp [Tm.sizes]
    rw [Tm.usess_drop hlt] at hv
    have hi := ih t.args[k] (us ++ u0) (around ++ t.binds) (path ++ [(k : Int)]) (by omega) (by omega) (by simp; omega) (by rw [Ty.sizes_append]; omega) (by simp; omega)
    rw [Tm.enc_eq] at hi
    refine ⟨by omega, by rw [List.length_map]; omega, _, _, _, _, Tm.enc_getD hlt, _, clip_calls, fun h => by simp at h, ?_⟩
    rw [encInts_snoc]
    refine ⟨appOk_mk encInts_cells (fun x hx => by rw [List.mem_singleton.1 hx]; rfl) (by rw [encInts_len]; simp; omega) (by decide), rfl, _, hi, ?_⟩
    rintro r q (⟨u, hu, rfl, rfl⟩ | ⟨hu, l, rfl, rfl⟩)
    ·left
     refine ⟨_, ⟨rfl, rfl⟩, rfl, ?_⟩
     have hul := Tm.uses_len hu
     rw [hu] at hv
     rw [wrap_n (by omega), List.append_assoc]
     refine hag (k + 1, u0 ++ u) ⟨by simp only; omega, by simp; omega, ?_⟩ (by simp only; omega)
     rw [hv]
     dsimp only
     cases Tm.usess (around ++ t.binds) path (k + 1) (t.args.drop (k + 1)) with
     | none => rfl
     | some v => simp
    ·right
     rw [hu] at hv
     exact ⟨_, ⟨rfl, rfl⟩, .inr ⟨hv, _, rfl, rfl⟩⟩
   ·have : t.args.length ≤ k := by simpa using h
    rw [List.drop_eq_nil_of_le this, Tm.usess] at hv
    left
    refine ⟨u0, by rw [hv]; simp, rfl, rfl⟩
def usesAV : Option (List Us) → AV
 | some u => .tup [.sl (u.map Us.enc), nI 0]
 | none => .tup [.sl [], nI 6]
theorem Uses_calls {t : Tm} (h : t.size ≤ 100000000) : PureIs Tryz.prog 66 [t.enc] (usesAV (t.uses [] [])) := by
 have hu := uses_calls _ t [] [] [] (Nat.le_refl _) h (by simp; omega) (by simp [Ty.sizes]; omega) (by simp; omega)
 have hn := Pure.of_nil (by decide) hu (by rw [Tm.enc_eq]; rfl)
 have hn2 : Pure Tryz.prog 114 [.prim (.slice none 0 0), t.enc, .prim (.slice none 0 0), .prim (.slice none 0 0)] (fun x => x = usesAV (t.uses [] [])) := by
  refine Pure.argsW (ys := [.prim (.slice none 0 0), t.enc, .sl [], .sl []]) ⟨RepW.refl _, RepW.refl _, repW_nil, repW_nil, True.intro⟩ (hn.mono ?_)
  rintro x ⟨r, hp', (⟨u, e1, rfl, rfl⟩ | ⟨e1, l, rfl, rfl⟩), rfl⟩
  ·rw [e1]; simp [usesAV, AV.toData, AV.dataV, AV.dataC, AV.asSl]
  ·rw [e1]; simp [usesAV, AV.toData, AV.dataV, AV.dataC]
 rw [Tm.enc_eq] at hn2 ⊢
 refine vc66_ok ⟨_, hn2, ?_⟩
 rintro r rfl
 cases t.uses [] [] with
 | none => exact ⟨_, _, rfl, rfl⟩
 | some u => exact ⟨_, _, rfl, rfl⟩
theorem Is_calls {t : Tm} (h : t.size ≤ 100000000) : PureIs Tryz.prog 68 [t.enc] (nB (t.uses [] []).isSome) := by
 have hu := Uses_calls h
 rw [Tm.enc_eq] at hu ⊢
 refine vc68_ok ?_
 cases hq : t.uses [] [] with
 | none => rw [hq] at hu; exact ⟨_, _, hu, rfl⟩
 | some u => rw [hq] at hu; exact ⟨_, _, hu, rfl⟩
end Go.Proofs.YtghlgbhldnkdmaaGreat

namespace Go.Proofs.YtghlgbhldnkdmaaGreat
open Go
set_option linter.unusedSimpArgs false
set_option linter.unusedVariables false
def Tm.take (t : Tm) (b : List Ty) (l : List Int) : Tm × Int :=
 if mayB b.length l = true then (if Tm.clash b.length l 0 t = true then (.mk [] 0 0 [], 9) else (.mk (typesOf b l ++ t.binds) t.kind (Tm.taken b.length l 0 t).index (Tm.taken b.length l 0 t).args, 0)) else (.mk [] 0 0 [], 1)
def takeAV (p : Tm × Int) : AV := .tup [p.1.enc, nI p.2]
theorem Tm.taken_binds (n : Int) (l : List Int) (a : Nat) (t : Tm) : (Tm.taken n l a t).binds = t.binds := by rw [Tm.taken_eq]; rfl
theorem Tm.taken_kind (n : Int) (l : List Int) (a : Nat) (t : Tm) : (Tm.taken n l a t).kind = t.kind := by rw [Tm.taken_eq]; rfl
theorem takeIx_bd {n : Nat} {l : List Int} (hn : n ≤ 1000000000) (hl : l.length ≤ n) (i : Int) (hi : 0 ≤ i) : -1000000000 ≤ takeIx n l i ∧ takeIx n l i ≤ i + 1000000000 ∧ (n ≤ i → takeIx n l i ≤ i) ∧ (i < n → takeIx n l i ≤ 1000000000) := by
 unfold takeIx
 have hlp : ((posN l i).getD 0) ≤ l.length := by
  cases hq : posN l i with
  | none => simp
  | some k => have := posN_lt hq; simp; omega
 split <;> refine ⟨by omega, by omega, fun _ => by omega, fun _ => by omega⟩
theorem Tm.taken_ok {n : Nat} {l : List Int} (hn : n ≤ 1000000000) (hl : l.length ≤ n) : ∀ (d : Nat) (t : Tm) (a : Nat), t.size ≤ d → t.Ok → a + t.size ≤ 2000000000 → (Tm.taken n l a t).Ok ∧ (Tm.taken n l a t).size = t.size := by
 intro d
 induction d with
 | zero => intro t a h; have := t.size_pos; omega
 | succ d ih =>
  intro t a hd hk ha
  obtain ⟨h1, h2, h3⟩ := Tm.ok_eq hk
  have hts := t.size_eq
  have hlb := Ty.sizes_len t.binds
  have key : ∀ x ∈ t.args, (Tm.taken n l (a + t.binds.length) x).Ok ∧ (Tm.taken n l (a + t.binds.length) x).size = x.size := fun x hx => by
   have := Tm.sizes_mem hx
   exact ih x _ (by omega) (Tm.Oks_mem h3 hx) (by omega)
  have hsz : ∀ ts : List Tm, (∀ x ∈ ts, (Tm.taken n l (a + t.binds.length) x).size = x.size) → Tm.sizes (ts.map (Tm.taken n l (a + t.binds.length))) = Tm.sizes ts := by
   intro ts
   induction ts with
   | nil => intro _; rfl
   | cons x ts ih2 => intro h; simp only [List.map_cons, Tm.sizes]; rw [h x List.mem_cons_self, ih2 fun y hy => h y (List.mem_cons_of_mem _ hy)]
  rw [Tm.taken_eq]
  refine ⟨⟨h1, ?_, Tm.Oks_of fun x hx => ?_⟩, ?_⟩
  ·split
   ·rename_i hif
    have := takeIx_bd hn hl (t.index - ((a + t.binds.length : Nat) : Int)) (by omega)
    unfold I64 at h2 ⊢
    omega
   ·exact h2
  ·obtain ⟨y, hy, rfl⟩ := List.mem_map.1 hx
   exact (key y hy).1
  ·rw [Tm.size, hsz _ fun x hx => (key x hx).2, hts]
theorem typesOf_sizes {b : List Ty} {l : List Int} (hm : ∀ v ∈ l, 0 ≤ v ∧ v < b.length) : Ty.sizes (typesOf b l) ≤ l.length * Ty.sizes b := by
 induction l with
 | nil => simp [typesOf, Ty.sizes]
 | cons v l ih =>
  have h1 := ih fun u hu => hm u (List.mem_cons_of_mem _ hu)
  have h2 := hm v List.mem_cons_self
  have h3 : (b.getD (b.length - 1 - v.toNat) (.mk [] 0)).size ≤ Ty.sizes b := by
   have hlt : b.length - 1 - v.toNat < b.length := by omega
   simp only [List.getD, List.getElem?_eq_getElem hlt, Option.getD_some]
   exact Ty.sizes_mem (List.getElem_mem hlt)
  simp only [typesOf, List.map_cons, Ty.sizes, List.length_cons, Nat.succ_mul] at h1 ⊢
  omega
theorem nodup_len : ∀ (n : Nat) (l : List Int), l.Nodup → (∀ v ∈ l, 0 ≤ v ∧ v < n) → l.length ≤ n := by
 intro n
 induction n with
 | zero =>
  intro l _ h
  cases l with
  | nil => simp
  | cons v l => have := h v List.mem_cons_self; omega
 | succ n ih =>
  intro l hn h
  by_cases hm : (n : Int) ∈ l
  ·have h1 := ih (l.erase (n : Int)) (hn.erase _) (fun v hv => by
    have h2 := h v (List.mem_of_mem_erase hv)
    have h3 : v ≠ (n : Int) := fun e => by rw [e] at hv; exact hn.not_mem_erase hv
    omega)
   rw [List.length_erase_of_mem hm] at h1
   omega
  ·have h1 := ih l hn (fun v hv => by
    have h2 := h v hv
    have h3 : v ≠ (n : Int) := fun e => by rw [e] at hv; exact hm hv
    omega)
   omega
theorem Take_calls {t : Tm} {b : List Ty} {l : List Int} (ht : t.size ≤ 100000000) (hk : t.Ok) (hb : b.length ≤ 100000000) (hl : l.length ≤ 100000000) (hlb : l.length * Ty.sizes b ≤ 100000000) :
  PureIs Tryz.prog 30 [t.enc, .sl (b.map Ty.enc), .sl (encInts l)] (takeAV (t.take b l)) := by
 have hpl := places_calls (n := (b.length : Int)) (l := l) (by omega)
 have he := Tm.enc_eq t
 rw [he]
 refine vc30_ok ?_
 unfold vc30
 rw [List.length_map, encInts_len]
 refine ⟨_, hpl, ?_⟩
 rintro r (⟨hm, es, hes, rfl⟩ | ⟨hm, rfl⟩)
 ·left
  have hm' := mayB_iff.1 hm
  have hll : l.length ≤ b.length := nodup_len _ _ hm'.1 hm'.2
  refine ⟨_, rfl, ?_⟩
  have htc := turned_calls (u := t) (n := b.length) hes (by omega) hll _ t 0 0 (Nat.le_refl _) (by omega) hk (by omega)
  rw [he] at htc
  refine ⟨_, htc, ?_⟩
  rintro r q ⟨rfl, rfl⟩
  rw [Tm.enc_eq (Tm.taken _ _ _ _)]
  refine ⟨_, _, _, _, _, _, _, _, _, _, _, _, ⟨rfl, rfl⟩, ?_⟩
  rw [Tm.take, if_pos hm]
  by_cases hc : Tm.clash b.length l 0 t = true
  ·rw [if_pos hc, if_pos hc]
   refine ITE.pos rfl ?_
   rw [takeAV, Tm.enc_mk]; rfl
  ·rw [if_neg hc, if_neg hc]
   refine ITE.neg rfl ⟨_, types_calls (by omega) (by omega) hm'.2, ?_⟩
   have hts := t.size_eq
   have htl := typesOf_sizes hm'.2
   have hlt := Ty.sizes_len (typesOf b l)
   have hlb2 := Ty.sizes_len t.binds
   have hcc := concat_calls (ll := [typesOf b l, t.binds]) (by simp) (by simp; omega)
   simp only [encRows, List.map_cons, List.map_nil, List.flatten_cons, List.flatten_nil, List.append_nil] at hcc
   have hok := Tm.taken_ok (n := b.length) (by omega) hll _ t 0 (Nat.le_refl _) hk (by omega)
   obtain ⟨k1, k2, k3⟩ := Tm.ok_eq hok.1
   have hsz := (Tm.taken b.length l 0 t).size_eq
   rw [hok.2, Tm.taken_binds] at hsz
   have hcp := copy_calls (t := .mk (typesOf b l ++ t.binds) t.kind (Tm.taken b.length l 0 t).index (Tm.taken b.length l 0 t).args) (by simp only [Tm.size, Ty.sizes_append]; omega) ⟨by rw [Tm.taken_kind] at k1; exact k1, k2, k3⟩
   rw [Tm.enc_mk, ← Tm.taken_kind (b.length : Int) l 0 t] at hcp
   exact ⟨_, hcc, _, _, _, _, hcp, by rw [takeAV, Tm.enc_mk, Tm.taken_kind]⟩
 ·right
  refine ⟨rfl, ?_⟩
  rw [Tm.take, if_neg (by rw [hm]; simp), takeAV, Tm.enc_mk]; rfl
theorem known1_calls (i : Int) : PureIs Tryz.prog 64 [nI i] (Tm.mk [] 0 i []).enc := by
 rw [Tm.enc_mk]; exact vc64_ok rfl
theorem known2_calls (l : List Tm) : HFn Tryz.prog 65 [.sl (l.map Tm.enc), .ptr 0 0] [.box [.sl [], nI 0]]
  (fun r h => r = (Tm.mk [.mk [] 0, .mk [] 0] 2 0 l).enc ∧ h = [.box [.sl [], nI 0]]) := by
 refine HFn.res (R := fun r h => r = .agg [.clip [.agg [.sl [], nI 0], .agg [.sl [], nI 0]], nI 2, nI 0, .sl (l.map Tm.enc)] ∧ h = [.box [.sl [], nI 0]]) (vc65_ok ⟨rfl, rfl⟩) ?_
 rintro r h ⟨rfl, rfl⟩
 refine ⟨_, ?_, rfl, rfl⟩
 rw [Tm.enc_mk]
 exact RepW.agg ⟨repW_clip _, RepW.refl _, RepW.refl _, RepW.refl _, True.intro⟩
theorem nilbox : ObjWL [.box [.prim (.slice none 0 0), nI 0]] [.box [.sl [], nI 0]] := ⟨⟨repW_nil, RepW.refl _, True.intro⟩, True.intro⟩
theorem known_calls : PureIs Tryz.prog 27 [] (nB true) := by
 have k0 := known1_calls 0
 have k1 := known1_calls 1
 have h1 := known2_calls [.mk [] 0 0 [], .mk [] 0 1 []]
 have h2 := known2_calls [.mk [] 0 0 [], .mk [] 0 0 []]
 have h3 := known2_calls []
 have h4 := known2_calls [.mk [.mk [] 0, .mk [] 0] 2 0 []]
 simp only [List.map_cons, List.map_nil, Tm.enc_mk, Ty.enc_mk] at k0 k1 h1 h2 h3 h4
 have clipw : ∀ l : List AV, RepWL [.clip l, .ptr 0 0] [.sl l, .ptr 0 0] := fun l => ⟨repW_clip l, RepW.refl _, True.intro⟩
 have nilw : RepWL [.prim (.slice none 0 0), .ptr 0 0] [.sl [], .ptr 0 0] := ⟨repW_nil, RepW.refl _, True.intro⟩
 have u1 := Uses_calls (t := .mk [.mk [] 0, .mk [] 0] 2 0 [.mk [] 0 0 [], .mk [] 0 1 []]) (by decide)
 have u2 := Is_calls (t := .mk [.mk [] 0, .mk [] 0] 2 0 [.mk [] 0 0 [], .mk [] 0 0 []]) (by decide)
 have u3 := Is_calls (t := .mk [.mk [] 0, .mk [] 0] 2 0 [.mk [.mk [] 0, .mk [] 0] 2 0 []]) (by decide)
 have tk := Take_calls (t := .mk [] 0 1 []) (b := [.mk [] 0, .mk [] 0]) (l := [1]) (by decide) ⟨by unfold I64; omega, by unfold I64; omega, True.intro⟩ (by decide) (by decide) (by decide)
 have e1 : Tm.uses [] [] (.mk [.mk [] 0, .mk [] 0] 2 0 [.mk [] 0 0 [], .mk [] 0 1 []]) = some [⟨0, [0, 1], [.mk [] 0, .mk [] 0], []⟩] := by kernel_rfl
 have e2 : (Tm.uses [] [] (.mk [.mk [] 0, .mk [] 0] 2 0 [.mk [] 0 0 [], .mk [] 0 0 []])).isSome = false := by kernel_rfl
 have e3 : (Tm.uses [] [] (.mk [.mk [] 0, .mk [] 0] 2 0 [.mk [.mk [] 0, .mk [] 0] 2 0 []])).isSome = false := by kernel_rfl
 have e4 : Tm.take (.mk [] 0 1 []) [.mk [] 0, .mk [] 0] [1] = (.mk [.mk [] 0] 0 0 [], 0) := by kernel_rfl
 rw [e1] at u1
 rw [e2] at u2
 rw [e3] at u3
 rw [e4] at tk
 simp only [usesAV, takeAV, Us.enc, encInts, List.map_cons, List.map_nil, Tm.enc_mk, Ty.enc_mk] at u1 u2 u3 tk
 have sm := same_calls (l := [0, 1]) (m := [0, 1]) (by decide)
 simp only [encInts, List.map_cons, List.map_nil] at sm
 refine vc27_ok ?_
 unfold vc27
 refine ⟨_, _, _, _, k0, _, _, _, _, k1, _, ((h1.argsW (clipw _)).objs nilbox), ?_⟩
 rintro r q ⟨rfl, rfl⟩
 refine ⟨_, _, _, _, _, _, ⟨rfl, rfl⟩, _, _, u1, _, _, _, _, k1, _, _, _, _, _, tk, ITE.pos rfl (ITE.pos rfl ⟨by omega, by decide, _, _, _, _, rfl, _, sm, ITE.pos rfl ?_⟩)⟩
 refine ⟨_, _, _, _, k0, _, _, _, _, k0, _, h2.argsW (clipw _), ?_⟩
 rintro r q ⟨rfl, rfl⟩
 refine ⟨_, _, _, _, _, _, ⟨rfl, rfl⟩, _, u2, ITE.pos rfl ⟨_, h3.argsW nilw, ?_⟩⟩
 rintro r q ⟨rfl, rfl⟩
 refine ⟨_, _, _, _, _, _, ⟨rfl, rfl⟩, _, h4.argsW (clipw _), ?_⟩
 rintro r q ⟨rfl, rfl⟩
 exact ⟨_, _, _, _, _, _, ⟨rfl, rfl⟩, _, u3, ITE.pos rfl (ITE.pos rfl (ITE.pos rfl rfl))⟩
end Go.Proofs.YtghlgbhldnkdmaaGreat

namespace Go.Proofs.YtghlgbhldnkdmaaGreat
open Go
set_option linter.unusedSimpArgs false
set_option linter.unusedVariables false
theorem contains_snoc {l : List Int} {i : Int} {k : Nat} (h : k < l.length) : (l.take (k + 1)).contains i = ((l.take k).contains i || (l[k] == i)) := by
 rw [← take_snoc' h, Bool.eq_iff_iff]
 simp only [List.contains_iff_mem, Bool.or_eq_true, List.mem_append, List.mem_singleton, beq_iff_eq]
 exact or_congr Iff.rfl eq_comm
theorem behind_calls {a b : List Ty} (ha : a.length ≤ 1000000000) (hb : b.length ≤ 1000000000) : PureIs Tryz.prog 45 [.sl (a.map Ty.enc), .sl (b.map Ty.enc)] (.sl ((a ++ b).map Ty.enc)) :=
 vc45_ok ⟨appOk_nil Ty.enc_cells (by simp; omega) (by decide), rfl, appOk_nil Ty.enc_cells (by simp; omega) (by decide), rfl, by rw [List.map_append]⟩
theorem tyTo_calls : ∀ (n : Nat) (t : Ty), t.size ≤ n → n ≤ 1000000000 → PureIs Tryz.prog 50 [t.enc] t.enc := by
 intro n
 induction n with
 | zero => intro t h; have := t.size_pos; omega
 | succ n ih =>
  intro t h hn
  have hq := Ty.sizes_len t.args
  have hts := t.size_eq
  rw [Ty.enc_eq]
  refine vc50_ok ⟨rfl, ?_⟩
  refine LoopP.intro (fun k : Nat => (((), (), (), (k : Int), ()), ((t.args.map Ty.enc, t.base, ()), ((), 0, ()), ((), t.base, ()), (t.args.take k).map Ty.enc, ())))
   (fun k => k ≤ t.args.length) (fun k => t.args.length - k) 0 rfl (Nat.zero_le _) ?_
  intro k hk again hag
  dsimp only
  rw [List.length_map]
  refine ITE.intro (fun h => ?_) fun h => ?_
  ·have hlt : k < t.args.length := by simpa using h
   have hi := ih t.args[k] (by have := Ty.arg_size hlt; omega) (by omega)
   rw [Ty.enc_eq] at hi
   refine ⟨by omega, by omega, _, _, Ty.enc_getD hlt, _, _, hi, rfl, appOk_one rfl (by simp; omega) (by decide), rfl, ?_⟩
   rw [wrap_n (by omega), Ty.enc_snoc, take_snoc' hlt]
   exact hag (k + 1) (by omega) (by omega)
  ·have : t.args.length ≤ k := by simpa using h
   refine ⟨rfl, ?_⟩
   rw [List.take_of_length_le this]
theorem tysTo_calls {l : List Ty} (h : Ty.sizes l ≤ 1000000000) : PureIs Tryz.prog 12 [.sl (l.map Ty.enc)] (.sl (l.map Ty.enc)) := by
 have hq := Ty.sizes_len l
 refine vc12_ok ⟨rfl, ?_⟩
 refine LoopP.intro (fun k : Nat => ((l.map Ty.enc, (), (k : Int), ()), ((l.take k).map Ty.enc, ()))) (fun k => k ≤ l.length) (fun k => l.length - k) 0 rfl (Nat.zero_le _) ?_
 intro k hk again hag
 dsimp only
 rw [List.length_map]
 refine ITE.intro (fun h => ?_) fun h => ?_
 ·have hlt : k < l.length := by simpa using h
  have hi := tyTo_calls _ l[k] (Nat.le_refl _) (by have := Ty.sizes_mem (List.getElem_mem hlt); omega)
  rw [Ty.enc_eq] at hi
  refine ⟨by omega, by omega, _, _, Ty.enc_getD hlt, _, _, hi, rfl, appOk_one rfl (by simp; omega) (by decide), rfl, ?_⟩
  rw [wrap_n (by omega), Ty.enc_snoc, take_snoc' hlt]
  exact hag (k + 1) (by omega) (by omega)
 ·have : l.length ≤ k := by simpa using h
  refine ⟨rfl, ?_⟩
  rw [List.take_of_length_le this]
theorem tmTo_calls : ∀ (n : Nat) (t : Tm), t.size ≤ n → n ≤ 1000000000 → PureIs Tryz.prog 28 [t.enc] t.enc := by
 intro n
 induction n with
 | zero => intro t h; have := t.size_pos; omega
 | succ n ih =>
  intro t h hn
  have hq := Tm.sizes_len t.args
  have hts := t.size_eq
  rw [Tm.enc_eq]
  refine vc28_ok ⟨_, tysTo_calls (by omega), rfl, ?_⟩
  refine LoopP.intro (fun k : Nat => (((), (), (), (k : Int), ()), ((t.binds.map Ty.enc, t.kind, t.index, t.args.map Tm.enc, ()), ((), 0, 0, (), ()), (t.binds.map Ty.enc, t.kind, t.index, (), ()), (t.args.take k).map Tm.enc, ())))
   (fun k => k ≤ t.args.length) (fun k => t.args.length - k) 0 rfl (Nat.zero_le _) ?_
  intro k hk again hag
  dsimp only
  rw [List.length_map]
  refine ITE.intro (fun h => ?_) fun h => ?_
  ·have hlt : k < t.args.length := by simpa using h
   have hi := ih t.args[k] (by have := Tm.arg_size hlt; omega) (by omega)
   rw [Tm.enc_eq] at hi
   refine ⟨by omega, by omega, _, _, _, _, Tm.enc_getD hlt, _, _, _, _, hi, rfl, appOk_one rfl (by simp; omega) (by decide), rfl, ?_⟩
   rw [wrap_n (by omega), Tm.enc_snoc, take_snoc' hlt]
   exact hag (k + 1) (by omega) (by omega)
  ·have : t.args.length ≤ k := by simpa using h
   refine ⟨rfl, ?_⟩
   rw [List.take_of_length_le this]
mutual
def Tm.same : Tm → Tm → Bool
 | .mk b k i a, .mk b' k' i' a' => (k == k' && i == i') && (Ty.sames b b' && Tm.sames a a')
def Tm.sames : List Tm → List Tm → Bool
 | [], [] => true
 | t :: l, u :: m => Tm.same t u && Tm.sames l m
 | _, _ => false
end
theorem Tm.same_eq (t u : Tm) : Tm.same t u = ((t.kind == u.kind && t.index == u.index) && (Ty.sames t.binds u.binds && Tm.sames t.args u.args)) := by cases t; cases u; simp [Tm.same, Tm.kind, Tm.index, Tm.binds, Tm.args]
theorem Tm.sames_drop {l m : List Tm} {k : Nat} (h1 : k < l.length) (h2 : k < m.length) : Tm.sames (l.drop k) (m.drop k) = (Tm.same l[k] m[k] && Tm.sames (l.drop (k + 1)) (m.drop (k + 1))) := by
 rw [List.drop_eq_getElem_cons h1, List.drop_eq_getElem_cons h2, Tm.sames]
theorem Tm.sames_len {l m : List Tm} (h : ¬ l.length = m.length) : Tm.sames l m = false := by
 induction l generalizing m with
 | nil => cases m with
  | nil => simp at h
  | cons u m => rfl
 | cons t l ih => cases m with
  | nil => rfl
  | cons u m => rw [Tm.sames, ih (by simpa using h), Bool.and_false]
mutual
theorem Tm.same_iff : ∀ (t u : Tm), Tm.same t u = true ↔ t = u
 | .mk b k i a, .mk b' k' i' a' => by
  simp only [Tm.same, Bool.and_eq_true, beq_iff_eq, Tm.mk.injEq, Ty.sames_iff, Tm.sames_iff a a']
  constructor
  ·rintro ⟨⟨h1, h2⟩, h3, h4⟩; exact ⟨h3, h1, h2, h4⟩
  ·rintro ⟨h3, h1, h2, h4⟩; exact ⟨⟨h1, h2⟩, h3, h4⟩
theorem Tm.sames_iff : ∀ (l m : List Tm), Tm.sames l m = true ↔ l = m
 | [], [] => by simp [Tm.sames]
 | [], _ :: _ => by simp [Tm.sames]
 | _ :: _, [] => by simp [Tm.sames]
 | t :: l, u :: m => by simp only [Tm.sames, Bool.and_eq_true, List.cons.injEq, Tm.same_iff t u, Tm.sames_iff l m]
end
theorem Tm.same_self (t : Tm) : Tm.same t t = true := (Tm.same_iff t t).2 rfl
end Go.Proofs.YtghlgbhldnkdmaaGreat

namespace Go.Proofs.YtghlgbhldnkdmaaGreat
open Go
set_option linter.unusedSimpArgs false
set_option linter.unusedVariables false
mutual
def Ty.few (most : Nat) : Nat → Ty → Nat
 | d, .mk l _ => (match d with
  | 0 => most + 1
  | d + 1 => Ty.fews most d 1 l)
def Ty.fews (most : Nat) : Nat → Nat → List Ty → Nat
 | _, n, [] => n
 | d, n, t :: l => if n ≤ most then Ty.fews most d (n + Ty.few most d t) l else n
end
theorem Ty.few_zero (most : Nat) (t : Ty) : Ty.few most 0 t = most + 1 := by cases t; rfl
theorem Ty.few_succ (most d : Nat) (t : Ty) : Ty.few most (d + 1) t = Ty.fews most d 1 t.args := by cases t; rfl
theorem Ty.fews_drop {most d n : Nat} {l : List Ty} {k : Nat} (h : k < l.length) : Ty.fews most d n (l.drop k) = if n ≤ most then Ty.fews most d (n + Ty.few most d l[k]) (l.drop (k + 1)) else n := by
 rw [List.drop_eq_getElem_cons h, Ty.fews]
theorem Ty.fews_bd {most d : Nat} (h : ∀ t : Ty, Ty.few most d t ≤ (d + 1) * (most + 1)) : ∀ (l : List Ty) (n : Nat), n ≤ (d + 2) * (most + 1) → Ty.fews most d n l ≤ (d + 2) * (most + 1)
 | [], n, hn => hn
 | t :: l, n, hn => by
  rw [Ty.fews]
  split
  ·refine Ty.fews_bd h l _ ?_
   have := h t
   have e : (d + 2) * (most + 1) = (d + 1) * (most + 1) + (most + 1) := by rw [Nat.add_mul, Nat.add_mul]; omega
   omega
  ·exact hn
theorem Ty.few_bd (most : Nat) : ∀ (d : Nat) (t : Ty), Ty.few most d t ≤ (d + 1) * (most + 1)
 | 0, t => by rw [Ty.few_zero]; omega
 | d + 1, t => by
  rw [Ty.few_succ]
  refine Ty.fews_bd (Ty.few_bd most d) _ _ ?_
  have : 1 * 1 ≤ (d + 2) * (most + 1) := Nat.mul_le_mul (by omega) (by omega)
  omega
theorem Ty.fews_ge (most d : Nat) : ∀ (l : List Ty) (n : Nat), n ≤ Ty.fews most d n l
 | [], n => Nat.le_refl _
 | t :: l, n => by
  rw [Ty.fews]
  split
  ·exact Nat.le_trans (by omega) (Ty.fews_ge most d l _)
  ·exact Nat.le_refl _
theorem Ty.few_pos (most : Nat) : ∀ (d : Nat) (t : Ty), 1 ≤ Ty.few most d t
 | 0, t => by rw [Ty.few_zero]; omega
 | d + 1, t => by rw [Ty.few_succ]; exact Ty.fews_ge _ _ _ _
theorem Ty.fews_size {most d : Nat} (h : ∀ t : Ty, Ty.few most d t ≤ most → t.size = Ty.few most d t) : ∀ (l : List Ty) (n : Nat), Ty.fews most d n l ≤ most → Ty.fews most d n l = n + Ty.sizes l
 | [], n, _ => rfl
 | t :: l, n, hn => by
  rw [Ty.fews] at hn ⊢
  split
  ·rename_i hc
   rw [if_pos hc] at hn
   rw [Ty.fews_size h l _ hn]
   have := Ty.fews_ge most d l (n + Ty.few most d t)
   rw [Ty.sizes, h t (by omega)]; omega
  ·rename_i hc
   rw [if_neg hc] at hn; omega
theorem Ty.few_size (most : Nat) : ∀ (d : Nat) (t : Ty), Ty.few most d t ≤ most → t.size = Ty.few most d t
 | 0, t, h => by rw [Ty.few_zero] at h; omega
 | d + 1, t, h => by
  rw [Ty.few_succ] at h ⊢
  rw [Ty.fews_size (Ty.few_size most d) _ _ h, t.size_eq]
theorem bd_le {d m : Nat} (hd : d ≤ 1000) (hm : m ≤ 1000) : (d + 1) * (m + 1) ≤ 1002001 := Nat.mul_le_mul (show d + 1 ≤ 1001 by omega) (show m + 1 ≤ 1001 by omega)
theorem tyfew_calls {most : Nat} (hmost : most ≤ 1000) : ∀ (d : Nat) (t : Ty), d ≤ 999 → PureIs Tryz.prog 98 [t.enc, nI most, nI d] (nI (Ty.few most d t : Nat)) := by
 intro d
 induction d with
 | zero =>
  intro t _
  rw [Ty.enc_eq, Ty.few_zero]
  refine vc98_ok (ITE.pos (by decide) ?_)
  rw [wrap_n (by omega)]
 | succ d ih =>
  intro t hd
  rw [Ty.enc_eq, Ty.few_succ]
  refine vc98_ok (ITE.neg (decide_eq_false (by omega)) ?_)
  refine LoopP.intro (fun p : Nat × Nat => (((most : Int), ((d + 1 : Nat) : Int), (), (p.2 : Int), (p.1 : Int), ()), ((t.args.map Ty.enc, t.base, ()), ())))
   (fun p => p.1 ≤ t.args.length ∧ p.1 + 1 ≤ p.2 ∧ p.2 ≤ (d + 2) * (most + 1) ∧ Ty.fews most d 1 t.args = Ty.fews most d p.2 (t.args.drop p.1)) (fun p => t.args.length - p.1) (0, 1) rfl
   ⟨Nat.zero_le _, Nat.le_refl _, by have : 1 * 1 ≤ (d + 2) * (most + 1) := Nat.mul_le_mul (by omega) (by omega); dsimp only; omega, rfl⟩ ?_
  intro ⟨k, n⟩ ⟨hk, hkn, hn, hs⟩ again hag
  dsimp only at hk hkn hn hs ⊢
  have hbd : (d + 2) * (most + 1) ≤ 1002001 := bd_le (d := d + 1) (m := most) (by omega) hmost
  rw [List.length_map]
  refine ITE.intro (fun h => ?_) fun h => ?_
  ·have hlt : k < t.args.length := by simpa using h
   rw [Ty.fews_drop hlt] at hs
   refine ITE.intro (fun h => ?_) fun h => ?_
   ·have hm : n ≤ most := by simpa using h
    rw [if_pos hm] at hs
    have hi := ih t.args[k] (by omega)
    have hb := Ty.few_bd most d t.args[k]
    have hp := Ty.few_pos most d t.args[k]
    rw [Ty.enc_eq] at hi
    refine ⟨by omega, by omega, _, _, Ty.enc_getD hlt, (Ty.few most d t.args[k] : Nat), ?_, ?_⟩
    ·rw [wrap_i (n := ((d + 1 : Nat) : Int) - 1) (by omega) (by omega), show ((d + 1 : Nat) : Int) - 1 = (d : Int) from by omega]
     exact hi
    ·have e : (d + 2) * (most + 1) = (d + 1) * (most + 1) + (most + 1) := by rw [Nat.add_mul, Nat.add_mul]; omega
     rw [wrap_n (by omega), wrap_i (n := (n : Int) + (Ty.few most d t.args[k] : Nat)) (by omega) (by omega), show (n : Int) + (Ty.few most d t.args[k] : Nat) = ((n + Ty.few most d t.args[k] : Nat) : Int) from by omega]
     exact hag (k + 1, n + Ty.few most d t.args[k]) ⟨by dsimp only; omega, by dsimp only; omega, by dsimp only; omega, hs⟩ (by dsimp only; omega)
   ·have hm : ¬ n ≤ most := by simpa using h
    rw [if_neg hm] at hs
    rw [hs]
  ·have : t.args.length ≤ k := by simpa using h
   rw [List.drop_eq_nil_of_le this] at hs
   rw [hs]; rfl
def Ty.fewB (most d : Nat) (t : Ty) : Bool := decide (Ty.few most d t ≤ most)
theorem Ty.fewB_size {most d : Nat} {t : Ty} (h : Ty.fewB most d t = true) : t.size ≤ most := by
 have h' : Ty.few most d t ≤ most := by simpa [Ty.fewB] using h
 rw [Ty.few_size most d t h']; exact h'
theorem tyFew_calls {most d : Nat} {t : Ty} (hmost : most ≤ 1000) (hd : d ≤ 999) : PureIs Tryz.prog 46 [t.enc, nI most, nI d] (nB (Ty.fewB most d t)) := by
 have h := tyfew_calls hmost d t hd
 rw [Ty.enc_eq] at h ⊢
 refine vc46_ok ⟨_, h, ?_⟩
 simp only [Ty.fewB, Int.ofNat_le]
theorem tysize_calls : ∀ (n : Nat) (t : Ty), t.size ≤ n → n ≤ 1000000000 → PureIs Tryz.prog 109 [t.enc] (nI (t.size : Nat)) := by
 intro n
 induction n with
 | zero => intro t h; have := t.size_pos; omega
 | succ n ih =>
  intro t h hn
  have hq := Ty.sizes_len t.args
  have hts := t.size_eq
  rw [Ty.enc_eq]
  refine vc109_ok ?_
  unfold vc109 vc109_L3
  refine LoopP.intro (fun k : Nat => (((), ((1 + Ty.sizes (t.args.take k) : Nat) : Int), (k : Int), ()), ((t.args.map Ty.enc, t.base, ()), ())))
   (fun k => k ≤ t.args.length) (fun k => t.args.length - k) 0 (by simp [Ty.sizes]) (Nat.zero_le _) ?_
  intro k hk again hag
  dsimp only
  rw [List.length_map]
  refine ITE.intro (fun h => ?_) fun h => ?_
  ·have hlt : k < t.args.length := by simpa using h
   have hi := ih t.args[k] (by have := Ty.arg_size hlt; omega) (by omega)
   have hsn : Ty.sizes (t.args.take (k + 1)) = Ty.sizes (t.args.take k) + t.args[k].size := by
    rw [← take_snoc' hlt, Ty.sizes_append]; simp [Ty.sizes]
   have hle : Ty.sizes (t.args.take (k + 1)) ≤ Ty.sizes t.args := by
    have e := Ty.sizes_append (t.args.take (k + 1)) (t.args.drop (k + 1))
    rw [List.take_append_drop] at e; omega
   rw [Ty.enc_eq] at hi
   refine ⟨by omega, by omega, _, _, Ty.enc_getD hlt, _, hi, ?_⟩
   rw [wrap_n (by omega), wrap_i (n := ((1 + Ty.sizes (t.args.take k) : Nat) : Int) + (t.args[k].size : Nat)) (by omega) (by omega),
    show ((1 + Ty.sizes (t.args.take k) : Nat) : Int) + (t.args[k].size : Nat) = ((1 + Ty.sizes (t.args.take (k + 1)) : Nat) : Int) from by omega]
   exact hag (k + 1) (by omega) (by omega)
  ·have : t.args.length ≤ k := by simpa using h
   rw [List.take_of_length_le this, ← t.size_eq]
def fewBs (most d : Nat) : Nat → List Ty → Option Nat
 | n, [] => some n
 | n, t :: l => if n ≤ most then (if Ty.few most d t ≤ most then fewBs most d (n + t.size) l else none) else some n
mutual
def Tm.few (most : Nat) : Nat → Tm → Nat
 | d, .mk b _ _ a => (match d with
  | 0 => most + 1
  | d + 1 => (match fewBs most (d + 1) 1 b with
   | none => most + 1
   | some n => Tm.fews most d n a))
def Tm.fews (most : Nat) : Nat → Nat → List Tm → Nat
 | _, n, [] => n
 | d, n, t :: l => if n ≤ most then Tm.fews most d (n + Tm.few most d t) l else n
end
theorem Tm.few_zero (most : Nat) (t : Tm) : Tm.few most 0 t = most + 1 := by cases t; rfl
theorem Tm.few_succ (most d : Nat) (t : Tm) : Tm.few most (d + 1) t = (match fewBs most (d + 1) 1 t.binds with
   | none => most + 1
   | some n => Tm.fews most d n t.args) := by cases t; rfl
theorem Tm.fews_drop {most d n : Nat} {l : List Tm} {k : Nat} (h : k < l.length) : Tm.fews most d n (l.drop k) = if n ≤ most then Tm.fews most d (n + Tm.few most d l[k]) (l.drop (k + 1)) else n := by
 rw [List.drop_eq_getElem_cons h, Tm.fews]
theorem fewBs_drop {most d n : Nat} {l : List Ty} {k : Nat} (h : k < l.length) : fewBs most d n (l.drop k) = if n ≤ most then (if Ty.few most d l[k] ≤ most then fewBs most d (n + l[k].size) (l.drop (k + 1)) else none) else some n := by
 rw [List.drop_eq_getElem_cons h, fewBs]
theorem fewBs_bd {most d : Nat} : ∀ {l : List Ty} {n m : Nat}, fewBs most d n l = some m → n ≤ 2 * most + 1 → n ≤ m ∧ m ≤ 2 * most + 1 ∧ (m ≤ most → m = n + Ty.sizes l)
 | [], n, m, h, hn => by
  simp only [fewBs, Option.some.injEq] at h
  subst h
  exact ⟨Nat.le_refl _, hn, fun _ => rfl⟩
 | t :: l, n, m, h, hn => by
  rw [fewBs] at h
  split at h
  ·split at h
   ·rename_i h1 h2
    have hsz := Ty.few_size most d t h2
    obtain ⟨g1, g2, g3⟩ := fewBs_bd h (by omega)
    refine ⟨by omega, g2, fun hm => ?_⟩
    rw [g3 hm, Ty.sizes]; omega
   ·cases h
  ·rename_i h1
   obtain rfl := Option.some.inj h
   exact ⟨Nat.le_refl _, hn, fun hm => (h1 hm).elim⟩
theorem Tm.fews_bd {most d : Nat} (h : ∀ t : Tm, Tm.few most d t ≤ (d + 2) * (most + 1)) : ∀ (l : List Tm) (n : Nat), n ≤ (d + 3) * (most + 1) → Tm.fews most d n l ≤ (d + 3) * (most + 1)
 | [], n, hn => hn
 | t :: l, n, hn => by
  rw [Tm.fews]
  split
  ·refine Tm.fews_bd h l _ ?_
   have := h t
   have e : (d + 3) * (most + 1) = (d + 2) * (most + 1) + (most + 1) := by rw [Nat.add_mul, Nat.add_mul]; omega
   omega
  ·exact hn
theorem Tm.few_bd (most : Nat) : ∀ (d : Nat) (t : Tm), Tm.few most d t ≤ (d + 2) * (most + 1)
 | 0, t => by rw [Tm.few_zero]; omega
 | d + 1, t => by
  rw [Tm.few_succ]
  split
  ·show most + 1 ≤ (d + 1 + 2) * (most + 1)
   have : 1 * (most + 1) ≤ (d + 1 + 2) * (most + 1) := Nat.mul_le_mul (by omega) (Nat.le_refl _)
   rw [Nat.one_mul] at this; exact this
  ·rename_i n hn
   refine Tm.fews_bd (Tm.few_bd most d) _ _ ?_
   have := (fewBs_bd hn (by omega)).2.1
   have : 2 * (most + 1) ≤ (d + 3) * (most + 1) := Nat.mul_le_mul (by omega) (Nat.le_refl _)
   omega
theorem Tm.fews_ge (most d : Nat) : ∀ (l : List Tm) (n : Nat), n ≤ Tm.fews most d n l
 | [], n => Nat.le_refl _
 | t :: l, n => by
  rw [Tm.fews]
  split
  ·exact Nat.le_trans (by omega) (Tm.fews_ge most d l _)
  ·exact Nat.le_refl _
theorem Tm.few_pos (most : Nat) : ∀ (d : Nat) (t : Tm), 1 ≤ Tm.few most d t
 | 0, t => by rw [Tm.few_zero]; omega
 | d + 1, t => by
  rw [Tm.few_succ]
  split
  ·show 1 ≤ most + 1
   omega
  ·rename_i n hn
   exact Nat.le_trans (fewBs_bd hn (by omega)).1 (Tm.fews_ge _ _ _ _)
theorem Tm.fews_size {most d : Nat} (h : ∀ t : Tm, Tm.few most d t ≤ most → t.size = Tm.few most d t) : ∀ (l : List Tm) (n : Nat), Tm.fews most d n l ≤ most → Tm.fews most d n l = n + Tm.sizes l
 | [], n, _ => rfl
 | t :: l, n, hn => by
  rw [Tm.fews] at hn ⊢
  split
  ·rename_i hc
   rw [if_pos hc] at hn
   rw [Tm.fews_size h l _ hn]
   have := Tm.fews_ge most d l (n + Tm.few most d t)
   rw [Tm.sizes, h t (by omega)]; omega
  ·rename_i hc
   rw [if_neg hc] at hn; omega
theorem Tm.few_size (most : Nat) : ∀ (d : Nat) (t : Tm), Tm.few most d t ≤ most → t.size = Tm.few most d t
 | 0, t, h => by rw [Tm.few_zero] at h; omega
 | d + 1, t, h => by
  rw [Tm.few_succ] at h ⊢
  split
  ·rename_i hn
   rw [hn] at h; simp only at h; omega
  ·rename_i n hn
   rw [hn] at h
   simp only at h
   have h1 := Tm.fews_ge most d t.args n
   rw [Tm.fews_size (Tm.few_size most d) _ _ h, t.size_eq, (fewBs_bd hn (by omega)).2.2 (by omega)]
theorem tmfew_calls {most : Nat} (hmost : most ≤ 1000) : ∀ (d : Nat) (t : Tm), d ≤ 900 → PureIs Tryz.prog 63 [t.enc, nI most, nI d] (nI (Tm.few most d t : Nat)) := by
 intro d
 induction d with
 | zero =>
  intro t _
  rw [Tm.enc_eq, Tm.few_zero]
  refine vc63_ok (ITE.pos (by decide) ?_)
  rw [wrap_n (by omega)]
 | succ d ih =>
  intro t hd
  rw [Tm.enc_eq, Tm.few_succ]
  have hbd : (d + 3) * (most + 1) ≤ 1002001 := bd_le (d := d + 2) (m := most) (by omega) hmost
  have h2 : 2 * (most + 1) ≤ (d + 3) * (most + 1) := Nat.mul_le_mul (by omega) (Nat.le_refl _)
  have args : ∀ n : Nat, 1 ≤ n → n ≤ 2 * most + 1 → vc63_L11 (((most : Int), ((d + 1 : Nat) : Int), (), (n : Int), 0, ()), ((t.binds.map Ty.enc, t.kind, t.index, t.args.map Tm.enc, ()), ())) (fun x => x = nI (Tm.fews most d n t.args : Nat)) := by
   intro n hn1 hn2
   refine LoopP.intro (fun p : Nat × Nat => (((most : Int), ((d + 1 : Nat) : Int), (), (p.2 : Int), (p.1 : Int), ()), ((t.binds.map Ty.enc, t.kind, t.index, t.args.map Tm.enc, ()), ())))
    (fun p => p.1 ≤ t.args.length ∧ p.1 + 1 ≤ p.2 ∧ p.2 ≤ (d + 3) * (most + 1) ∧ Tm.fews most d n t.args = Tm.fews most d p.2 (t.args.drop p.1)) (fun p => t.args.length - p.1) (0, n) rfl
    ⟨Nat.zero_le _, by dsimp only; omega, by dsimp only; omega, rfl⟩ ?_
   intro ⟨k, m⟩ ⟨hk, hkn, hm2, hs⟩ again hag
   dsimp only at hk hkn hm2 hs ⊢
   rw [List.length_map]
   refine ITE.intro (fun h => ?_) fun h => ?_
   ·have hlt : k < t.args.length := by simpa using h
    rw [Tm.fews_drop hlt] at hs
    refine ITE.intro (fun h => ?_) fun h => ?_
    ·have hm : m ≤ most := by simpa using h
     rw [if_pos hm] at hs
     have hi := ih t.args[k] (by omega)
     have hb := Tm.few_bd most d t.args[k]
     have hp := Tm.few_pos most d t.args[k]
     rw [Tm.enc_eq] at hi
     refine ⟨by omega, by omega, _, _, _, _, Tm.enc_getD hlt, (Tm.few most d t.args[k] : Nat), ?_, ?_⟩
     ·rw [wrap_i (n := ((d + 1 : Nat) : Int) - 1) (by omega) (by omega), show ((d + 1 : Nat) : Int) - 1 = (d : Int) from by omega]
      exact hi
     ·have e : (d + 3) * (most + 1) = (d + 2) * (most + 1) + (most + 1) := by rw [Nat.add_mul, Nat.add_mul]; omega
      rw [wrap_n (by omega), wrap_i (n := (m : Int) + (Tm.few most d t.args[k] : Nat)) (by omega) (by omega), show (m : Int) + (Tm.few most d t.args[k] : Nat) = ((m + Tm.few most d t.args[k] : Nat) : Int) from by omega]
      exact hag (k + 1, m + Tm.few most d t.args[k]) ⟨by dsimp only; omega, by dsimp only; omega, by dsimp only; omega, hs⟩ (by dsimp only; omega)
    ·have hm : ¬ m ≤ most := by simpa using h
     rw [if_neg hm] at hs
     rw [hs]
   ·have : t.args.length ≤ k := by simpa using h
    rw [List.drop_eq_nil_of_le this] at hs
    rw [hs]; rfl
  refine vc63_ok (ITE.neg (decide_eq_false (by omega)) ?_)
  refine LoopP.intro (fun p : Nat × Nat => (((most : Int), ((d + 1 : Nat) : Int), (), (p.2 : Int), (p.1 : Int), ()), ((t.binds.map Ty.enc, t.kind, t.index, t.args.map Tm.enc, ()), ())))
   (fun p => p.1 ≤ t.binds.length ∧ p.1 + 1 ≤ p.2 ∧ p.2 ≤ 2 * most + 1 ∧ fewBs most (d + 1) 1 t.binds = fewBs most (d + 1) p.2 (t.binds.drop p.1)) (fun p => t.binds.length - p.1) (0, 1) rfl
   ⟨Nat.zero_le _, Nat.le_refl _, by dsimp only; omega, rfl⟩ ?_
  intro ⟨k, n⟩ ⟨hk, hkn, hn, hs⟩ again hag
  dsimp only at hk hkn hn hs ⊢
  rw [List.length_map]
  refine ITE.intro (fun h => ?_) fun h => ?_
  ·have hlt : k < t.binds.length := by simpa using h
   rw [fewBs_drop hlt] at hs
   refine ITE.intro (fun h => ?_) fun h => ?_
   ·have hm : n ≤ most := by simpa using h
    rw [if_pos hm] at hs
    have hi := tyFew_calls (most := most) (d := d + 1) (t := t.binds[k]) hmost (by omega)
    rw [Ty.enc_eq] at hi
    refine ⟨by omega, by omega, _, _, Ty.enc_getD hlt, _, hi, ITE.intro (fun h => ?_) fun h => ?_⟩
    ·have hf : ¬ Ty.few most (d + 1) t.binds[k] ≤ most := by simpa [Ty.fewB] using h
     rw [if_neg hf] at hs
     rw [hs, wrap_n (by omega)]
    ·have hf : Ty.few most (d + 1) t.binds[k] ≤ most := by simpa [Ty.fewB] using h
     rw [if_pos hf] at hs
     have hsz := Ty.few_size most (d + 1) _ hf
     have hz := tysize_calls _ t.binds[k] (Nat.le_refl _) (by omega)
     have hp := t.binds[k].size_pos
     rw [Ty.enc_eq] at hz
     refine ⟨by omega, by omega, _, _, Ty.enc_getD hlt, _, hz, ?_⟩
     rw [wrap_n (by omega), wrap_i (n := (n : Int) + (t.binds[k].size : Nat)) (by omega) (by omega), show (n : Int) + (t.binds[k].size : Nat) = ((n + t.binds[k].size : Nat) : Int) from by omega]
     exact hag (k + 1, n + t.binds[k].size) ⟨by dsimp only; omega, by dsimp only; omega, by dsimp only; omega, hs⟩ (by dsimp only; omega)
   ·have hm : ¬ n ≤ most := by simpa using h
    rw [if_neg hm] at hs
    rw [hs]
    exact args n (by omega) (by omega)
  ·have : t.binds.length ≤ k := by simpa using h
   rw [List.drop_eq_nil_of_le this] at hs
   rw [hs]
   exact args n (by omega) (by omega)
def Tm.fewB (most d : Nat) (t : Tm) : Bool := decide (Tm.few most d t ≤ most)
theorem Tm.fewB_size {most d : Nat} {t : Tm} (h : Tm.fewB most d t = true) : t.size ≤ most := by
 have h' : Tm.few most d t ≤ most := by simpa [Tm.fewB] using h
 rw [Tm.few_size most d t h']; exact h'
theorem tmFew_calls {most d : Nat} {t : Tm} (hmost : most ≤ 1000) (hd : d ≤ 900) : PureIs Tryz.prog 26 [t.enc, nI most, nI d] (nB (Tm.fewB most d t)) := by
 have h := tmfew_calls hmost d t hd
 rw [Tm.enc_eq] at h ⊢
 refine vc26_ok ⟨_, h, ?_⟩
 simp only [Tm.fewB, Int.ofNat_le]
def smallB (c m b : List Ty) : Bool := decide (c.length ≤ 20 ∧ m.length ≤ 20 ∧ b.length ≤ 20) && (c ++ m ++ b).all (Ty.fewB 60 60)
theorem small_calls (n : Int) (c m b : List Ty) : PureIs Tryz.prog 9 [.agg [nI n, .sl (c.map Ty.enc), .sl (m.map Ty.enc)], .sl (b.map Ty.enc)] (nB (smallB c m b)) := by
 refine vc9_ok ?_
 unfold vc9
 rw [List.length_map, List.length_map, List.length_map]
 refine ITE.intro (fun h => ?_) fun h => ?_
 ·have h' : ¬ c.length ≤ 20 := by simp at h; omega
  rw [smallB, decide_eq_false (fun x => h' x.1), Bool.false_and]
 have hc : c.length ≤ 20 := by simp at h; omega
 refine ITE.intro (fun h => ?_) fun h => ?_
 ·have h' : ¬ m.length ≤ 20 := by simp at h; omega
  rw [smallB, decide_eq_false (fun x => h' x.2.1), Bool.false_and]
 have hm : m.length ≤ 20 := by simp at h; omega
 refine ITE.intro (fun h => ?_) fun h => ?_
 ·have h' : ¬ b.length ≤ 20 := by simp at h; omega
  rw [smallB, decide_eq_false (fun x => h' x.2.2), Bool.false_and]
 have hb : b.length ≤ 20 := by simp at h; omega
 have hsb : smallB c m b = (c ++ m ++ b).all (Ty.fewB 60 60) := by rw [smallB, decide_eq_true ⟨hc, hm, hb⟩, Bool.true_and]
 refine ⟨_, behind_calls (by omega) (by omega), _, behind_calls (by simp; omega) (by omega), ?_⟩
 have hlen : (c ++ m ++ b).length ≤ 60 := by simp; omega
 rw [hsb]
 generalize c ++ m ++ b = l at hlen
 refine LoopP.intro (fun k : Nat => ((l.map Ty.enc, (k : Int), ()), ((n, c.map Ty.enc, m.map Ty.enc, ()), ()))) (fun k => k ≤ l.length ∧ l.all (Ty.fewB 60 60) = (l.drop k).all (Ty.fewB 60 60)) (fun k => l.length - k) 0 rfl ⟨Nat.zero_le _, rfl⟩ ?_
 intro k ⟨hk, hs⟩ again hag
 dsimp only
 rw [List.length_map]
 refine ITE.intro (fun h => ?_) fun h => ?_
 ·have hlt : k < l.length := by simpa using h
  rw [List.drop_eq_getElem_cons hlt, List.all_cons] at hs
  have hi := tyFew_calls (most := 60) (d := 60) (t := l[k]) (by decide) (by decide)
  rw [Ty.enc_eq] at hi
  refine ⟨by omega, by omega, _, _, Ty.enc_getD hlt, _, hi, ITE.intro (fun h => ?_) fun h => ?_⟩
  ·have : Ty.fewB 60 60 l[k] = false := by simpa using h
   rw [hs, this, Bool.false_and]
  ·have : Ty.fewB 60 60 l[k] = true := by simpa using h
   rw [this, Bool.true_and] at hs
   rw [wrap_n (by omega)]
   exact hag (k + 1) ⟨by omega, hs⟩ (by omega)
 ·have : l.length ≤ k := by simpa using h
  rw [List.drop_eq_nil_of_le this] at hs
  rw [hs]; rfl
end Go.Proofs.YtghlgbhldnkdmaaGreat

namespace Go.Proofs.YtghlgbhldnkdmaaGreat
open Go
set_option linter.unusedSimpArgs false
set_option linter.unusedVariables false
inductive Rw where
 | mk (kind : Int) (type : Ty) (index : Int) (kids : List Rw)
mutual
def Rw.size : Rw → Nat
 | .mk _ _ _ l => 1 + Rw.sizes l
def Rw.sizes : List Rw → Nat
 | [] => 0
 | t :: l => Rw.size t + Rw.sizes l
end
def Rw.kids : Rw → List Rw | .mk _ _ _ l => l
theorem Rw.size_eq (r : Rw) : r.size = 1 + Rw.sizes r.kids := by cases r; rfl
end Go.Proofs.YtghlgbhldnkdmaaGreat

namespace Go.Proofs.YtghlgbhldnkdmaaGreat
open Go
set_option linter.unusedSimpArgs false
set_option linter.unusedVariables false
mutual
def Ty.pre (d : Nat) : Ty → List (Nat × Ty)
 | .mk l b => (d, .mk l b) :: Ty.pres (d + 1) l
def Ty.pres (d : Nat) : List Ty → List (Nat × Ty)
 | [] => []
 | t :: l => Ty.pre d t ++ Ty.pres d l
end
theorem Ty.pre_eq (d : Nat) (t : Ty) : t.pre d = (d, t) :: Ty.pres (d + 1) t.args := by cases t; rfl
theorem Ty.pres_drop {d : Nat} {l : List Ty} {k : Nat} (h : k < l.length) : Ty.pres d (l.drop k) = l[k].pre d ++ Ty.pres d (l.drop (k + 1)) := by
 rw [List.drop_eq_getElem_cons h, Ty.pres]
mutual
theorem Ty.pre_len : ∀ (d : Nat) (t : Ty), (t.pre d).length = t.size
 | d, .mk l b => by rw [Ty.pre, List.length_cons, Ty.pres_len (d + 1) l, Ty.size]; omega
theorem Ty.pres_len : ∀ (d : Nat) (l : List Ty), (Ty.pres d l).length = Ty.sizes l
 | d, [] => rfl
 | d, t :: l => by rw [Ty.pres, List.length_append, Ty.pre_len d t, Ty.pres_len d l, Ty.sizes]
end
def encP (p : Nat × Ty) : List AV := [nI p.1, .agg [.sl (p.2.args.map Ty.enc), nI p.2.base]]
def encE (p : Nat × Ty) : Int × (List AV × Int × Unit) × Unit := (p.1, (p.2.args.map Ty.enc, p.2.base, ()), ())
theorem kdown_calls : ∀ (n : Nat) (t : Ty) (d : Nat), t.size ≤ n → d + n ≤ 1000000000 → YFn Tryz.prog 151 (fun v => [.agg [.sl (t.args.map Ty.enc), nI t.base], nI d, v]) ((t.pre d).map encP) true := by
 intro n
 induction n with
 | zero => intro t d h; have := t.size_pos; omega
 | succ n ih =>
  intro t d h hn
  have hq := Ty.sizes_len t.args
  have hts := t.size_eq
  refine vc151_ok fun yv more => ⟨rfl, (Ty.pres (d + 1) t.args).map encP ++ more, by rw [Ty.pre_eq]; rfl, fun b => ITE.intro (fun h => ?_) fun h => ?_⟩
  ·have : b = false := by simpa using h
   subst this; rfl
  ·have : b = true := by simpa using h
   subst this
   refine LoopP.intro (fun k : Nat => ((((d : Int), yv, t.args.map Ty.enc, (t.args.length : Int), (k : Int), ()), ((t.args.map Ty.enc, t.base, ()), ())), some ((Ty.pres (d + 1) (t.args.drop k)).map encP ++ more))) (fun k => k ≤ t.args.length) (fun k => t.args.length - k) 0 (by rw [List.length_map]; rfl) (Nat.zero_le _) ?_
   intro k hk again hag
   dsimp only
   rw [List.length_map]
   refine ITE.intro (fun h => ?_) fun h => ?_
   ·have hlt : k < t.args.length := by simpa using h
    have hi := ih t.args[k] (d + 1) (by have := Ty.arg_size hlt; omega) (by omega)
    refine ⟨by omega, by omega, _, _, Ty.enc_getD hlt, _, _, (Ty.pres (d + 1) (t.args.drop (k + 1))).map encP ++ more, ?_, hi, ?_, fun b => ITE.intro (fun h => ?_) fun h => ?_⟩
    ·rw [wrap_n (by omega)]
    ·rw [Ty.pres_drop hlt, List.map_append, List.append_assoc]
    ·have : b = false := by simpa using h
     subst this; rfl
    ·have : b = true := by simpa using h
     subst this
     rw [wrap_n (by omega)]
     exact hag (k + 1) (by omega) (by omega)
   ·have : t.args.length ≤ k := by simpa using h
    rw [List.drop_eq_nil_of_le this]; rfl
theorem keach1_calls {t : Ty} (h : t.size ≤ 500000000) : YFn Tryz.prog 150 (fun v => [v, .eptr (.agg [.sl (t.args.map Ty.enc), nI t.base]) 0]) ((t.pre 1).map encP) false :=
 vc150_ok fun yv more => ⟨_, _, more, rfl, kdown_calls _ t 1 (Nat.le_refl _) (by omega), rfl, fun b => ⟨b, rfl⟩⟩
theorem keach_calls (t : Ty) : PureIs Tryz.prog 119 [.agg [.sl (t.args.map Ty.enc), nI t.base]] (.clo 150 [.eptr (.agg [.sl (t.args.map Ty.enc), nI t.base]) 0]) := vc119_ok rfl
theorem keach_seq {t : Ty} (h : t.size ≤ 500000000) : SeqIs Tryz.prog 150 [.eptr (.agg [.sl (t.args.map Ty.enc), nI t.base]) 0] [.v (.c (.i .i64)), .v (.a [.l, .i .i64])] ((t.pre 1).map encE) :=
 seqIs_of (prm := [.v (.c (.i .i64)), .v (.a [.l, .i .i64])]) encE (keach1_calls h)
theorem ksize_calls {t : Ty} (h : t.size ≤ 500000000) : PureIs Tryz.prog 128 [.agg [.sl (t.args.map Ty.enc), nI t.base]] (nI (t.size : Nat)) := by
 refine vc128_ok ⟨keach_calls t, ?_⟩
 refine RangeP.intro2 (fun n : Nat => ((t.args.map Ty.enc, t.base, ()), ((n : Int), ()), ())) encE (t.pre 1) (keach_seq h) (fun rest n => n + rest.length = t.size) 0 rfl (by rw [Ty.pre_len]; omega) (fun e rest n hI again hag => ?_) fun n hI => ?_
 ·rw [List.length_cons] at hI
  dsimp only
  rw [wrap_n (by omega)]
  exact hag (n + 1) (by omega)
 ·have : n = t.size := by simpa using hI
  rw [this]
def kgood (bases : Int) (p : Nat × Ty) : Bool := decide (p.1 ≤ 60) && (decide (0 ≤ p.2.base) && decide (p.2.base < bases))
def krest (bases : Int) : Nat → List (Nat × Ty) → Bool
 | _, [] => true
 | n, p :: l => if p.1 > 60 ∨ n + 1 > 1000 ∨ p.2.base < 0 ∨ p.2.base ≥ bases then false else krest bases (n + 1) l
theorem krest_is (bases : Int) : ∀ (l : List (Nat × Ty)) (n : Nat), n ≤ 1000 → krest bases n l = (decide (n + l.length ≤ 1000) && l.all (kgood bases))
 | [], n, hn => by simp [krest, hn]
 | p :: l, n, hn => by
  rw [krest]
  split
  ·rename_i hc
   symm
   rw [Bool.and_eq_false_iff]
   by_cases h1 : n + 1 > 1000
   ·left; rw [decide_eq_false]; rw [List.length_cons]; omega
   ·right
    rw [List.all_cons]
    have : kgood bases p = false := by
     unfold kgood
     rw [Bool.and_eq_false_iff, Bool.and_eq_false_iff]
     rcases hc with hc | hc | hc | hc
     ·left; exact decide_eq_false (by omega)
     ·omega
     ·right; left; exact decide_eq_false (by omega)
     ·right; right; exact decide_eq_false (by omega)
    rw [this, Bool.false_and]
  ·rename_i hc
   simp only [not_or] at hc
   obtain ⟨h1, h2, h3, h4⟩ := hc
   have hg : kgood bases p = true := by
    unfold kgood
    rw [decide_eq_true (by omega), decide_eq_true (by omega), decide_eq_true (by omega)]; rfl
   rw [krest_is bases l (n + 1) (by omega), List.all_cons, hg, Bool.true_and, List.length_cons, show n + 1 + l.length = n + (l.length + 1) from by omega]
def Ty.rightB (bases : Int) (t : Ty) : Bool := decide (t.size ≤ 1000) && (t.pre 1).all (kgood bases)
theorem kright_calls {t : Ty} {bases : Int} (h : t.size ≤ 500000000) : PureIs Tryz.prog 79 [.agg [.sl (t.args.map Ty.enc), nI t.base], nI bases] (nB (t.rightB bases)) := by
 refine vc79_ok ⟨keach_calls t, ?_⟩
 have hr : t.rightB bases = krest bases 0 (t.pre 1) := by rw [krest_is bases _ 0 (by omega), Ty.pre_len, Ty.rightB, Nat.zero_add]
 refine RangeP.intro2 (fun n : Nat => ((t.args.map Ty.enc, t.base, ()), (bases, ()), (false, ()), ((n : Int), ()), ())) encE (t.pre 1) (keach_seq h) (fun r n => n + r.length = t.size ∧ t.rightB bases = krest bases n r) 0 rfl ⟨by rw [Ty.pre_len]; omega, hr⟩ (fun p r n ⟨hI, hk⟩ again hag => ?_) fun n ⟨hI, hk⟩ => ?_
 ·rw [List.length_cons] at hI
  rw [krest] at hk
  dsimp only [encE]
  rw [wrap_n (by omega)]
  refine ITE.intro (fun h1 => ?_) fun h1 => ITE.intro (fun h2 => ?_) fun h2 => ITE.intro (fun h3 => ?_) fun h3 => ITE.intro (fun h4 => ?_) fun h4 => ?_
  ·have : p.1 > 60 := by simp at h1; omega
   rw [if_pos (.inl this)] at hk; rw [hk]
  ·have : n + 1 > 1000 := by simp at h2; omega
   rw [if_pos (.inr (.inl this))] at hk; rw [hk]
  ·have : p.2.base < 0 := of_decide_eq_true h3
   rw [if_pos (.inr (.inr (.inl this)))] at hk; rw [hk]
  ·have : p.2.base ≥ bases := by simpa using h4
   rw [if_pos (.inr (.inr (.inr this)))] at hk; rw [hk]
  ·have g1 : ¬ p.1 > 60 := by simp at h1; omega
   have g2 : ¬ n + 1 > 1000 := by simp at h2; omega
   have g3 : ¬ p.2.base < 0 := of_decide_eq_false h3
   have g4 : ¬ p.2.base ≥ bases := by simpa using h4
   rw [if_neg (by simp only [not_or]; exact ⟨g1, g2, g3, g4⟩)] at hk
   exact hag (n + 1) ⟨by omega, hk⟩
 ·rw [hk]; rfl
def headTy (c m x : List Ty) (k i : Int) : Option Ty :=
 if i < 0 then none else if k = 0 then (if i < x.length then x[x.length - 1 - i.toNat]? else none) else if k = 1 then c[i.toNat]? else if k = 2 then m[i.toNat]? else none
def optTy : Option Ty → AV
 | some t => .tup [.agg [.sl (t.args.map Ty.enc), nI t.base], nB true]
 | none => .tup [.agg [.sl [], nI 0], nB false]
theorem encTys_get {l : List Ty} {n : Nat} (h : n < l.length) : List.getD (l.map Ty.enc) n .top = .agg [.sl (l[n].args.map Ty.enc), nI l[n].base] := by
 have := Ty.enc_getD h
 simpa using this
def encW (b : Int) (c m : List Ty) : AV := .agg [nI b, .sl (c.map Ty.enc), .sl (m.map Ty.enc)]
theorem headType_calls {b : Int} {c m x : List Ty} {k i : Int} (hi : I64 i) (hx : x.length ≤ 1000000000) : PureIs Tryz.prog 69 [.agg [nI b, .sl (c.map Ty.enc), .sl (m.map Ty.enc)], .sl (x.map Ty.enc), .agg [nI k, nI i]] (optTy (headTy c m x k i)) := by
 unfold I64 at hi
 refine vc69_ok ?_
 unfold vc69 headTy
 simp only [List.length_map]
 refine ITE.intro (fun h1 => ?_) fun h1 => ?_
 ·have e1 : k = 1 := by simpa using h1
  refine ITE.intro (fun h => ?_) fun h2 => ITE.intro (fun h => ?_) fun h3 => ?_
  ·have : i < 0 := by simpa using h
   rw [if_pos this]; rfl
  ·have h2' : ¬ i < 0 := by simpa using h2
   have h3' : (c.length : Int) ≤ i := by simpa using h
   rw [if_neg h2', if_neg (by omega), if_pos e1, List.getElem?_eq_none (by omega)]; rfl
  ·have h2' : ¬ i < 0 := by simpa using h2
   have h3' : i < (c.length : Int) := by simpa using h3
   have hlt : i.toNat < c.length := by omega
   refine ⟨by omega, by omega, _, _, encTys_get hlt, ?_⟩
   rw [if_neg h2', if_neg (by omega), if_pos e1, List.getElem?_eq_getElem hlt]; rfl
 have n1 : ¬ k = 1 := by simpa using h1
 refine ITE.intro (fun h4 => ?_) fun h4 => ?_
 ·have e2 : k = 2 := by simpa using h4
  refine ITE.intro (fun h => ?_) fun h2 => ITE.intro (fun h => ?_) fun h3 => ?_
  ·have : i < 0 := by simpa using h
   rw [if_pos this]; rfl
  ·have h2' : ¬ i < 0 := by simpa using h2
   have h3' : (m.length : Int) ≤ i := by simpa using h
   rw [if_neg h2', if_neg (by omega), if_neg n1, if_pos e2, List.getElem?_eq_none (by omega)]; rfl
  ·have h2' : ¬ i < 0 := by simpa using h2
   have h3' : i < (m.length : Int) := by simpa using h3
   have hlt : i.toNat < m.length := by omega
   refine ⟨by omega, by omega, _, _, encTys_get hlt, ?_⟩
   rw [if_neg h2', if_neg (by omega), if_neg n1, if_pos e2, List.getElem?_eq_getElem hlt]; rfl
 have n2 : ¬ k = 2 := by simpa using h4
 refine ITE.intro (fun h5 => ?_) fun h5 => ?_
 ·have e0 : k = 0 := by simpa using h5
  refine ITE.intro (fun h => ?_) fun h2 => ?_
  ·have : i < 0 := by simpa using h
   rw [if_pos this]; rfl
  have h2' : ¬ i < 0 := by simpa using h2
  rw [wrap_i (n := (x.length : Int) - 1) (by omega) (by omega), wrap_i (by omega) (by omega)]
  refine ITE.intro (fun h => ?_) fun h3 => ITE.intro (fun h => ?_) fun h6 => ?_
  ·have h3' : (x.length : Int) - 1 - i < 0 := by simpa using h
   rw [if_neg h2', if_pos e0, if_neg (by omega)]; rfl
  ·have h3' : (x.length : Int) - 1 - i ≥ x.length := by simpa using h
   omega
  ·have h3' : ¬ (x.length : Int) - 1 - i < 0 := by simpa using h3
   have hlt : x.length - 1 - i.toNat < x.length := by omega
   refine ⟨by omega, by omega, _, _, by rw [show Int.toNat ((x.length : Int) - 1 - i) = x.length - 1 - i.toNat from by omega]; exact encTys_get hlt, ?_⟩
   rw [if_neg h2', if_pos e0, if_pos (by omega), List.getElem?_eq_getElem hlt]; rfl
 ·have n0 : ¬ k = 0 := by simpa using h5
  rw [if_neg n0, if_neg n1, if_neg n2]
  split <;> rfl
theorem headTy_mem {c m x : List Ty} {k i : Int} {t : Ty} (h : headTy c m x k i = some t) : t ∈ x ∨ t ∈ c ∨ t ∈ m := by
 unfold headTy at h
 split at h
 ·cases h
 split at h
 ·split at h
  ·exact .inl (List.mem_of_getElem? h)
  ·cases h
 split at h
 ·exact .inr (.inl (List.mem_of_getElem? h))
 split at h
 ·exact .inr (.inr (List.mem_of_getElem? h))
 ·cases h
end Go.Proofs.YtghlgbhldnkdmaaGreat

namespace Go.Proofs.YtghlgbhldnkdmaaGreat
open Go
set_option linter.unusedSimpArgs false
set_option linter.unusedVariables false
theorem world_calls {b : Int} {c m : List Ty} (hc : Ty.sizes c ≤ 500000000) (hm : Ty.sizes m ≤ 500000000) : PureIs Tryz.prog 11 [encW b c m] (encW b c m) :=
 vc11_ok ⟨_, tysTo_calls (by omega), _, tysTo_calls (by omega), rfl⟩
abbrev noT : Ty := .mk [] 0
def encTE (p : Ty × Int) : AV := .tup [.agg [.sl (p.1.args.map Ty.enc), nI p.1.base], nI p.2]
end Go.Proofs.YtghlgbhldnkdmaaGreat

namespace Go.Proofs.YtghlgbhldnkdmaaGreat
open Go
set_option linter.unusedSimpArgs false
set_option linter.unusedVariables false
theorem tyfews_sizes {l : List Ty} (h : l.all (Ty.fewB 60 60) = true) : Ty.sizes l ≤ l.length * 60 ∧ ∀ t ∈ l, t.size ≤ 60 := by
 induction l with
 | nil => simp [Ty.sizes]
 | cons t l ih =>
  rw [List.all_cons, Bool.and_eq_true] at h
  have h1 := ih h.2
  have h2 := Ty.fewB_size h.1
  refine ⟨by simp only [Ty.sizes, List.length_cons]; omega, fun u hu => ?_⟩
  rcases List.mem_cons.1 hu with rfl | hu
  ·exact h2
  ·exact h1.2 u hu
theorem small_all {c m x : List Ty} (h : smallB c m x = true) : (c.length ≤ 20 ∧ m.length ≤ 20 ∧ x.length ≤ 20) ∧ (Ty.sizes c ≤ 1200 ∧ Ty.sizes m ≤ 1200 ∧ Ty.sizes x ≤ 1200) ∧ (∀ t ∈ c, t.size ≤ 60) ∧ (∀ t ∈ m, t.size ≤ 60) ∧ (∀ t ∈ x, t.size ≤ 60) := by
 rw [smallB, Bool.and_eq_true, decide_eq_true_eq, List.all_append, List.all_append, Bool.and_eq_true, Bool.and_eq_true] at h
 obtain ⟨h0, ⟨h1, h2⟩, h3⟩ := h
 have k1 := tyfews_sizes h1
 have k2 := tyfews_sizes h2
 have k3 := tyfews_sizes h3
 exact ⟨h0, ⟨by omega, by omega, by omega⟩, k1.2, k2.2, k3.2⟩
end Go.Proofs.YtghlgbhldnkdmaaGreat

namespace Go.Proofs.YtghlgbhldnkdmaaGreat
open Go
set_option linter.unusedSimpArgs false
set_option linter.unusedVariables false
theorem within_calls {x l : List Ty} (h : x.length + l.length ≤ 1000000000) : PureIs Tryz.prog 70 [.sl (x.map Ty.enc), .sl (l.map Ty.enc)] (.sl ((x ++ l).map Ty.enc)) := by
 have hc := concat_calls (ll := [x, l]) (by simp) (by simp; omega)
 simp only [encRows, List.map_cons, List.map_nil, List.flatten_cons, List.flatten_nil, List.append_nil] at hc
 exact vc70_ok ⟨_, hc, rfl⟩
theorem ofKind_calls {b : Int} {l : List Ty} (h : Ty.sizes l ≤ 500000000) : PureIs Tryz.prog 47 [nI b, .sl (l.map Ty.enc)] (.agg [.sl (l.map Ty.enc), nI b]) := by
 have hc := copied_calls _ (.mk l b) (Nat.le_refl _) (by simp only [Ty.size]; omega)
 rw [Ty.enc_mk] at hc
 exact vc47_ok ⟨_, _, hc, rfl⟩
def Tm.typ (c m x : List Ty) (t : Tm) : Ty × Int := match headTy c m (x ++ t.binds) t.kind t.index with
 | some h => (.mk t.binds h.base, 0)
 | none => (noT, 10)
theorem typeOf_calls {b : Int} {c m x : List Ty} {t : Tm} (hok : t.Ok) (hx : x.length + t.size ≤ 500000000) : PureIs Tryz.prog 29 [.agg [nI b, .sl (c.map Ty.enc), .sl (m.map Ty.enc)], .sl (x.map Ty.enc), .agg [.sl (t.binds.map Ty.enc), nI t.kind, nI t.index, .sl (t.args.map Tm.enc)]] (encTE (t.typ c m x)) := by
 have hts := t.size_eq
 have hq := Ty.sizes_len t.binds
 have hi : I64 t.index := by cases t; exact hok.2.1
 have hh := headType_calls (b := b) (c := c) (m := m) (x := x ++ t.binds) (k := t.kind) hi (by rw [List.length_append]; omega)
 refine vc29_ok ⟨_, within_calls (by omega), ?_⟩
 rw [Tm.typ]
 cases ht : headTy c m (x ++ t.binds) t.kind t.index with
 | none =>
  rw [ht] at hh
  exact ⟨_, _, _, hh, ITE.pos rfl rfl⟩
 | some u =>
  rw [ht] at hh
  exact ⟨_, _, _, hh, ITE.neg rfl ⟨_, _, ofKind_calls (by omega), rfl⟩⟩
mutual
def Tm.isB (c m x : List Ty) : Tm → Ty → Bool
 | .mk b k i l, of => Ty.sames b of.args && (match headTy c m (x ++ b) k i with
  | some h => (h.base == of.base) && ((h.args.length == l.length) && Tm.isBs c m (x ++ b) l h.args)
  | none => false)
def Tm.isBs (c m x : List Ty) : List Tm → List Ty → Bool
 | t :: l, u :: us => Tm.isB c m x t u && Tm.isBs c m x l us
 | _, _ => true
end
theorem Tm.isB_eq (c m x : List Ty) (t : Tm) (of : Ty) : t.isB c m x of = (Ty.sames t.binds of.args && (match headTy c m (x ++ t.binds) t.kind t.index with
  | some h => (h.base == of.base) && ((h.args.length == t.args.length) && Tm.isBs c m (x ++ t.binds) t.args h.args)
  | none => false)) := by cases t; rw [Tm.isB]; rfl
theorem Tm.isBs_drop {c m x : List Ty} {l : List Tm} {us : List Ty} {k : Nat} (h1 : k < l.length) (h2 : k < us.length) : Tm.isBs c m x (l.drop k) (us.drop k) = (Tm.isB c m x l[k] us[k] && Tm.isBs c m x (l.drop (k + 1)) (us.drop (k + 1))) := by
 rw [List.drop_eq_getElem_cons h1, List.drop_eq_getElem_cons h2, Tm.isBs]
theorem is_calls {b : Int} {c m : List Ty} (hc : ∀ t ∈ c, t.size ≤ 200000000) (hm : ∀ t ∈ m, t.size ≤ 200000000) : ∀ (n : Nat) (t : Tm) (of : Ty) (x : List Ty), t.size ≤ n → t.Ok → (∀ u ∈ x, u.size ≤ 200000000) → x.length + t.size ≤ 200000000 → of.size ≤ 200000000 →
  PureIs Tryz.prog 81 [.agg [nI b, .sl (c.map Ty.enc), .sl (m.map Ty.enc)], .sl (x.map Ty.enc), .agg [.sl (t.binds.map Ty.enc), nI t.kind, nI t.index, .sl (t.args.map Tm.enc)], .agg [.sl (of.args.map Ty.enc), nI of.base]] (nB (t.isB c m x of)) := by
 intro n
 induction n with
 | zero => intro t of x h; have := t.size_pos; omega
 | succ n ih =>
  intro t of x h hok hx hn hof
  have hts := t.size_eq
  have hq := Ty.sizes_len t.binds
  have hq2 := Tm.sizes_len t.args
  have hi : I64 t.index := by cases t; exact hok.2.1
  have hks : Tm.Oks t.args := by cases t; exact hok.2.2
  have heq := equals_calls (l := t.binds) (m := of.args) (by omega) (fun k h1 h2 => equal_calls _ _ _ (Nat.le_refl _) (by have := Ty.sizes_mem (List.getElem_mem h1); omega))
  have hx2 : ∀ u ∈ x ++ t.binds, u.size ≤ 200000000 := fun u hu => by
   rcases List.mem_append.1 hu with hu | hu
   ·exact hx u hu
   ·have := Ty.sizes_mem hu; omega
  have hh := headType_calls (b := b) (c := c) (m := m) (x := x ++ t.binds) (k := t.kind) hi (by rw [List.length_append]; omega)
  have hsz : ∀ u, headTy c m (x ++ t.binds) t.kind t.index = some u → u.size ≤ 200000000 := fun u hu => by
   rcases headTy_mem hu with hu | hu | hu
   ·exact hx2 u hu
   ·exact hc u hu
   ·exact hm u hu
  have hib := Tm.isB_eq c m x t of
  refine vc81_ok ⟨_, heq, ITE.intro (fun h => ?_) fun h => ?_⟩
  ·have h0 : Ty.sames t.binds of.args = false := by simpa using h
   rw [hib, h0, Bool.false_and]
  have h0 : Ty.sames t.binds of.args = true := by simpa using h
  rw [h0, Bool.true_and] at hib
  refine ⟨_, within_calls (by omega), ?_⟩
  cases ht : headTy c m (x ++ t.binds) t.kind t.index with
  | none =>
   rw [ht] at hh hib
   exact ⟨_, _, _, hh, ITE.pos rfl (by rw [hib])⟩
  | some u =>
   rw [ht] at hh hib
   dsimp only at hib
   have hu := hsz u ht
   have hus := u.size_eq
   have hul := Ty.sizes_len u.args
   refine ⟨_, _, _, hh, ITE.neg rfl (ITE.intro (fun h => ?_) fun h => ?_)⟩
   ·have : (u.base == of.base) = false := by simpa using h
    rw [hib, this, Bool.false_and]
   have h1 : (u.base == of.base) = true := by simpa using h
   rw [h1, Bool.true_and] at hib
   rw [List.length_map, List.length_map]
   refine ITE.intro (fun h => ?_) fun h => ?_
   ·have : ¬ u.args.length = t.args.length := by simp at h; omega
    rw [hib, show (u.args.length == t.args.length) = false from by simpa using this, Bool.false_and]
   have h2 : u.args.length = t.args.length := by simp at h; omega
   rw [show (u.args.length == t.args.length) = true from by simpa using h2, Bool.true_and] at hib
   refine LoopP.intro (fun k : Nat => (((), (x ++ t.binds).map Ty.enc, (), t.args.map Tm.enc, (t.args.length : Int), (k : Int), ()), ((b, c.map Ty.enc, m.map Ty.enc, ()), (t.binds.map Ty.enc, t.kind, t.index, t.args.map Tm.enc, ()), (of.args.map Ty.enc, of.base, ()), (u.args.map Ty.enc, u.base, ()), ())))
    (fun k => k ≤ t.args.length ∧ t.isB c m x of = Tm.isBs c m (x ++ t.binds) (t.args.drop k) (u.args.drop k)) (fun k => t.args.length - k) 0 rfl ⟨Nat.zero_le _, hib⟩ ?_
   intro k ⟨hk, hs⟩ again hag
   dsimp only
   refine ITE.intro (fun h => ?_) fun h => ?_
   ·have hlt : k < t.args.length := by simpa using h
    have hlu : k < u.args.length := by omega
    rw [Tm.isBs_drop hlt hlu] at hs
    have hsm := Tm.sizes_mem (List.getElem_mem hlt)
    have hi := ih t.args[k] u.args[k] (x ++ t.binds) (by omega) (Tm.Oks_mem hks (List.getElem_mem hlt)) hx2 (by rw [List.length_append]; omega) (by have := Ty.arg_size hlu; omega)
    refine ⟨by omega, by rw [List.length_map]; omega, _, _, _, _, Tm.enc_getD hlt, by omega, by rw [List.length_map]; omega, _, _, Ty.enc_getD hlu, _, hi, ITE.intro (fun h => ?_) fun h => ?_⟩
    ·have : Tm.isB c m (x ++ t.binds) t.args[k] u.args[k] = false := by simpa using h
     rw [hs, this, Bool.false_and]
    ·have : Tm.isB c m (x ++ t.binds) t.args[k] u.args[k] = true := by simpa using h
     rw [this, Bool.true_and] at hs
     rw [wrap_n (by omega)]
     exact hag (k + 1) ⟨by omega, hs⟩ (by omega)
   ·have : t.args.length ≤ k := by simpa using h
    rw [List.drop_eq_nil_of_le this, Tm.isBs] at hs
    ·rw [hs]
    ·intro _ _ _ _ h; cases h
mutual
def Tm.pre (a d : Nat) : Tm → List ((Nat × Nat) × Tm)
 | .mk b k i l => ((a + b.length, d), .mk b k i l) :: Tm.pres (a + b.length) (d + 1) l
def Tm.pres (a d : Nat) : List Tm → List ((Nat × Nat) × Tm)
 | [] => []
 | t :: l => Tm.pre a d t ++ Tm.pres a d l
end
theorem Tm.pre_eq (a d : Nat) (t : Tm) : t.pre a d = ((a + t.binds.length, d), t) :: Tm.pres (a + t.binds.length) (d + 1) t.args := by cases t; rfl
theorem Tm.pres_drop {a d : Nat} {l : List Tm} {k : Nat} (h : k < l.length) : Tm.pres a d (l.drop k) = l[k].pre a d ++ Tm.pres a d (l.drop (k + 1)) := by
 rw [List.drop_eq_getElem_cons h, Tm.pres]
def encQ (p : (Nat × Nat) × Tm) : List AV := [.agg [nI p.1.1, nI p.1.2], .agg [.sl (p.2.binds.map Ty.enc), nI p.2.kind, nI p.2.index, .sl (p.2.args.map Tm.enc)]]
def encQE (p : (Nat × Nat) × Tm) : (Int × Int × Unit) × (List AV × Int × Int × List AV × Unit) × Unit := ((p.1.1, p.1.2, ()), (p.2.binds.map Ty.enc, p.2.kind, p.2.index, p.2.args.map Tm.enc, ()), ())
theorem tdown_calls : ∀ (n : Nat) (t : Tm) (a d : Nat), t.size ≤ n → a + t.size ≤ 1000000000 → d + t.size ≤ 1000000000 → YFn Tryz.prog 124 (fun v => [.agg [.sl (t.binds.map Ty.enc), nI t.kind, nI t.index, .sl (t.args.map Tm.enc)], .agg [nI a, nI d], v]) ((t.pre a d).map encQ) true := by
 intro n
 induction n with
 | zero => intro t a d h; have := t.size_pos; omega
 | succ n ih =>
  intro t a d h ha hd
  have hq := Tm.sizes_len t.args
  have hq2 := Ty.sizes_len t.binds
  have hts := t.size_eq
  have hw : IntKind.wrap .i64 ((a : Int) + ((List.length (t.binds.map Ty.enc) : Nat) : Int)) = ((a + t.binds.length : Nat) : Int) := by
   rw [List.length_map, wrap_i (by omega) (by omega)]; omega
  refine vc124_ok fun yv more => ?_
  unfold vc124
  rw [hw, wrap_n (by omega)]
  refine ⟨rfl, (Tm.pres (a + t.binds.length) (d + 1) t.args).map encQ ++ more, by rw [Tm.pre_eq]; rfl, fun b => ITE.intro (fun h => ?_) fun h => ?_⟩
  ·have : b = false := by simpa using h
   subst this; rfl
  ·have : b = true := by simpa using h
   subst this
   refine LoopP.intro (fun k : Nat => (((yv, (), t.args.map Tm.enc, (t.args.length : Int), (k : Int), ()), ((t.binds.map Ty.enc, t.kind, t.index, t.args.map Tm.enc, ()), (((a + t.binds.length : Nat) : Int), ((d + 1 : Nat) : Int), ()), ())), some ((Tm.pres (a + t.binds.length) (d + 1) (t.args.drop k)).map encQ ++ more))) (fun k => k ≤ t.args.length) (fun k => t.args.length - k) 0 (by rw [List.length_map]; rfl) (Nat.zero_le _) ?_
   intro k hk again hag
   dsimp only
   rw [List.length_map]
   refine ITE.intro (fun h => ?_) fun h => ?_
   ·have hlt : k < t.args.length := by simpa using h
    have hsm := Tm.sizes_mem (List.getElem_mem hlt)
    have hi := ih t.args[k] (a + t.binds.length) (d + 1) (by omega) (by omega) (by omega)
    refine ⟨by omega, by omega, _, _, _, _, Tm.enc_getD hlt, _, _, (Tm.pres (a + t.binds.length) (d + 1) (t.args.drop (k + 1))).map encQ ++ more, rfl, hi, ?_, fun b => ITE.intro (fun h => ?_) fun h => ?_⟩
    ·rw [Tm.pres_drop hlt, List.map_append, List.append_assoc]
    ·have : b = false := by simpa using h
     subst this; rfl
    ·have : b = true := by simpa using h
     subst this
     rw [wrap_n (by omega)]
     exact hag (k + 1) (by omega) (by omega)
   ·have : t.args.length ≤ k := by simpa using h
    rw [List.drop_eq_nil_of_le this]; rfl
theorem teach1_calls {t : Tm} (h : t.size ≤ 500000000) : YFn Tryz.prog 123 (fun v => [v, .eptr (.agg [.sl (t.binds.map Ty.enc), nI t.kind, nI t.index, .sl (t.args.map Tm.enc)]) 0]) ((t.pre 0 1).map encQ) false :=
 vc123_ok fun yv more => ⟨_, _, more, rfl, tdown_calls _ t 0 1 (Nat.le_refl _) (by omega) (by omega), rfl, fun b => ⟨b, rfl⟩⟩
theorem teach_calls (t : Tm) : PureIs Tryz.prog 92 [.agg [.sl (t.binds.map Ty.enc), nI t.kind, nI t.index, .sl (t.args.map Tm.enc)]] (.clo 123 [.eptr (.agg [.sl (t.binds.map Ty.enc), nI t.kind, nI t.index, .sl (t.args.map Tm.enc)]) 0]) := vc92_ok rfl
theorem teach_seq {t : Tm} (h : t.size ≤ 500000000) : SeqIs Tryz.prog 123 [.eptr (.agg [.sl (t.binds.map Ty.enc), nI t.kind, nI t.index, .sl (t.args.map Tm.enc)]) 0] [.v (.a [.i .i64, .i .i64]), .v (.a [.l, .i .i64, .i .i64, .l])] ((t.pre 0 1).map encQE) :=
 seqIs_of (prm := [.v (.a [.i .i64, .i .i64]), .v (.a [.l, .i .i64, .i .i64, .l])]) encQE (teach1_calls h)
def trest : Nat → List ((Nat × Nat) × Tm) → Bool
 | _, [] => true
 | n, p :: l => if n + 1 > 5000 then false else if p.1.2 > 60 then false else trest (n + 1) l
theorem tright_calls {t : Tm} (h : t.size ≤ 500000000) : PureIs Tryz.prog 80 [.agg [.sl (t.binds.map Ty.enc), nI t.kind, nI t.index, .sl (t.args.map Tm.enc)]] (nB (trest 0 (t.pre 0 1))) := by
 refine vc80_ok ⟨teach_calls t, ?_⟩
 refine RangeP.intro2 (fun n : Nat => ((t.binds.map Ty.enc, t.kind, t.index, t.args.map Tm.enc, ()), (false, ()), ((n : Int), ()), ())) encQE (t.pre 0 1) (teach_seq h) (fun r n => n ≤ 5000 ∧ trest 0 (t.pre 0 1) = trest n r) 0 rfl ⟨by omega, rfl⟩ (fun p r n ⟨hI, hk⟩ again hag => ?_) fun n ⟨hI, hk⟩ => ?_
 ·rw [trest] at hk
  dsimp only [encQE]
  rw [wrap_n (by omega)]
  refine ITE.intro (fun h1 => ?_) fun h1 => ITE.intro (fun h2 => ?_) fun h2 => ?_
  ·have : n + 1 > 5000 := by have := of_decide_eq_true h1; omega
   rw [hk, if_pos this]
  ·have g : ¬ n + 1 > 5000 := by have := of_decide_eq_false h1; omega
   have : p.1.2 > 60 := by have := of_decide_eq_true h2; omega
   rw [hk, if_neg g, if_pos this]
  ·have g : ¬ n + 1 > 5000 := by have := of_decide_eq_false h1; omega
   have g2 : ¬ p.1.2 > 60 := by have := of_decide_eq_false h2; omega
   rw [if_neg g, if_neg g2] at hk
   exact hag (n + 1) ⟨by omega, hk⟩
 ·rw [hk]; rfl
theorem check_calls {b : Int} {c m x : List Ty} {t : Tm} {of : Ty} (hc : ∀ t ∈ c, t.size ≤ 200000000) (hm : ∀ t ∈ m, t.size ≤ 200000000) (hok : t.Ok) (hx : ∀ u ∈ x, u.size ≤ 200000000) (hn : x.length + t.size ≤ 200000000) (hof : of.size ≤ 200000000) :
  PureIs Tryz.prog 32 [.agg [nI b, .sl (c.map Ty.enc), .sl (m.map Ty.enc)], .sl (x.map Ty.enc), .agg [.sl (t.binds.map Ty.enc), nI t.kind, nI t.index, .sl (t.args.map Tm.enc)], .agg [.sl (of.args.map Ty.enc), nI of.base]] (nI (if trest 0 (t.pre 0 1) = true then (if t.isB c m x of = true then 0 else 5) else 2)) := by
 have h1 := tright_calls (t := t) (by omega)
 have h2 := is_calls (b := b) hc hm _ t of x (Nat.le_refl _) hok hx hn hof
 refine vc32_ok ⟨_, h1, ITE.intro (fun h => ?_) fun h => ⟨_, h2, ITE.intro (fun h3 => ?_) fun h3 => ?_⟩⟩
 ·rw [if_neg (by simpa using h)]
 ·rw [if_pos (by simpa using h), if_neg (by simpa using h3)]
 ·rw [if_pos (by simpa using h), if_pos (by simpa using h3)]
theorem rw1_calls {b : Int} {c m : List Ty} {t : Ty} (h : t.size ≤ 500000000) : PureIs Tryz.prog 78 [.agg [.sl (t.args.map Ty.enc), nI t.base], .eptr (.agg [nI b, .sl (c.map Ty.enc), .sl (m.map Ty.enc)]) 0] (nB (!(t.rightB b))) :=
 vc78_ok ⟨_, kright_calls h, rfl⟩
def firstBad (b : Int) : Nat → List Ty → Int
 | _, [] => -1
 | k, t :: l => if t.rightB b = true then firstBad b (k + 1) l else k
theorem indexBad_calls {b : Int} {c m l : List Ty} (h : Ty.sizes l ≤ 500000000) : PureIs Tryz.prog 118 [.sl (l.map Ty.enc), .clo 78 [.eptr (.agg [nI b, .sl (c.map Ty.enc), .sl (m.map Ty.enc)]) 0]] (nI (firstBad b 0 l)) := by
 have hl := Ty.sizes_len l
 refine vc118_ok ⟨rfl, ?_⟩
 refine LoopP.intro (fun k : Nat => ((l.map Ty.enc, ((), ()), (l.length : Int), (k : Int), ()), ())) (fun k => k ≤ l.length ∧ firstBad b 0 l = firstBad b k (l.drop k)) (fun k => l.length - k) 0 (by rw [List.length_map]; rfl) ⟨Nat.zero_le _, rfl⟩ ?_
 intro k ⟨hk, hs⟩ again hag
 dsimp only
 rw [List.length_map]
 refine ITE.intro (fun h => ?_) fun h => ?_
 ·have hlt : k < l.length := by simpa using h
  rw [List.drop_eq_getElem_cons hlt, firstBad] at hs
  refine ⟨by omega, by omega, _, _, Ty.enc_getD hlt, _, rw1_calls (by have := Ty.sizes_mem (List.getElem_mem hlt); omega), ITE.intro (fun h => ?_) fun h => ⟨rfl, ?_⟩⟩
  ·rw [hs, if_neg (by simpa using h)]
  ·rw [if_pos (by simpa using h)] at hs
   rw [wrap_n (by omega)]
   exact hag (k + 1) ⟨by omega, hs⟩ (by omega)
 ·have : l.length ≤ k := by simpa using h
  rw [List.drop_eq_nil_of_le this] at hs
  rw [hs]; rfl
theorem rightWorld_calls {b : Int} {c m : List Ty} (hc : c.length ≤ 500) (hm : m.length ≤ 500) (h : Ty.sizes (c ++ m) ≤ 500000000) : PureIs Tryz.prog 31 [.agg [nI b, .sl (c.map Ty.enc), .sl (m.map Ty.enc)]] (nB (!(decide (firstBad b 0 (c ++ m) ≥ 0)))) := by
 have hcc := concat_calls (ll := [c, m]) (by simp) (by simp; omega)
 simp only [encRows, List.map_cons, List.map_nil, List.flatten_cons, List.flatten_nil, List.append_nil] at hcc
 have hi := indexBad_calls (b := b) (c := c) (m := m) (l := c ++ m) h
 refine vc31_ok ?_
 unfold vc31
 rw [List.length_map, List.length_map, wrap_i (by omega) (by omega)]
 refine ITE.neg (decide_eq_false (by omega)) (ITE.neg (decide_eq_false (by omega)) ⟨_, hcc, _, vc77_ok ⟨_, hi, rfl⟩, rfl⟩)
end Go.Proofs.YtghlgbhldnkdmaaGreat

namespace Go.Proofs.YtghlgbhldnkdmaaGreat
open Go
set_option linter.unusedSimpArgs false
set_option linter.unusedVariables false
theorem i64_wrap (n : Int) : I64 (IntKind.wrap .i64 n) := by unfold I64; rw [IntKind.wrap_i64]; omega
end Go.Proofs.YtghlgbhldnkdmaaGreat

namespace Go.Proofs.YtghlgbhldnkdmaaGreat
open Go
set_option linter.unusedSimpArgs false
set_option linter.unusedVariables false
theorem cut20 (l : List Int) : List.drop (Int.toNat 0) (List.take (Int.toNat (if 20 < ((List.length (encInts l) : Nat) : Int) then 20 else ((List.length (encInts l) : Nat) : Int))) (encInts l)) = encInts (l.take 20) := by
 rw [show Int.toNat 0 = 0 from rfl, List.drop_zero, encInts, encInts, List.length_map, List.map_take]
 split
 ·rfl
 ·rw [Int.toNat_natCast, List.take_of_length_le (by simp), List.take_of_length_le (by simp; omega)]
theorem cut20_ok (l : List Int) : 0 ≤ (0 : Int) ∧ (0 : Int) ≤ (if 20 < ((List.length (encInts l) : Nat) : Int) then 20 else ((List.length (encInts l) : Nat) : Int)) ∧ (if 20 < ((List.length (encInts l) : Nat) : Int) then 20 else ((List.length (encInts l) : Nat) : Int)) ≤ List.length (encInts l) ∧ (∀ y : AV, y ∈ encInts l → List.length (AV.cells y) = 1) :=
 ⟨by omega, by split <;> omega, by split <;> omega, encInts_cells⟩
theorem Tm.take_size {t : Tm} {b : List Ty} {l : List Int} (hk : t.Ok) (ht : t.size ≤ 100000000) (hb : b.length ≤ 100000000) : (t.take b l).1.size ≤ l.length * Ty.sizes b + t.size + 1 := by
 unfold Tm.take
 split
 ·rename_i hm
  have hm' := mayB_iff.1 hm
  have hll : l.length ≤ b.length := nodup_len _ _ hm'.1 hm'.2
  split
  ·simp [Tm.size, Ty.sizes, Tm.sizes]
  ·have hok := Tm.taken_ok (n := b.length) (by omega) hll _ t 0 (Nat.le_refl _) hk (by omega)
   have hsz := (Tm.taken b.length l 0 t).size_eq
   rw [hok.2, Tm.taken_binds] at hsz
   have htl := typesOf_sizes hm'.2
   simp only [Tm.size, Ty.sizes_append]
   omega
 ·simp [Tm.size, Ty.sizes, Tm.sizes]
end Go.Proofs.YtghlgbhldnkdmaaGreat

namespace Go.Proofs.YtghlgbhldnkdmaaGreat
open Go
set_option linter.unusedSimpArgs false
set_option linter.unusedVariables false
mutual
def etaT : Int → Int → Ty → Tm
 | k, i, .mk l _ => .mk l k (if k = 0 then IntKind.wrap .i64 (i + (l.length : Nat)) else i) (etaTs l.length 0 l)
def etaTs (n : Nat) : Nat → List Ty → List Tm
 | _, [] => []
 | j, t :: r => etaT 0 ((n : Int) - 1 - j) t :: etaTs n (j + 1) r
end
theorem etaT_eq (k i : Int) (t : Ty) : etaT k i t = .mk t.args k (if k = 0 then IntKind.wrap .i64 (i + (t.args.length : Nat)) else i) (etaTs t.args.length 0 t.args) := by cases t; rw [etaT]; rfl
theorem etaTs_len (n : Nat) : ∀ (l : List Ty) (j : Nat), (etaTs n j l).length = l.length
 | [], _ => rfl
 | t :: l, j => by rw [etaTs, List.length_cons, List.length_cons, etaTs_len n l]
theorem etaTs_get (n : Nat) : ∀ (l : List Ty) (j k : Nat) (h : k < l.length), (etaTs n j l)[k]? = some (etaT 0 ((n : Int) - 1 - (j + k : Nat)) l[k])
 | t :: l, j, 0, _ => by rw [etaTs]; rfl
 | t :: l, j, k + 1, h => by
  rw [etaTs, List.getElem?_cons_succ, etaTs_get n l (j + 1) k (by simpa using h), List.getElem_cons_succ, show j + 1 + k = j + (k + 1) by omega]
theorem etaTs_take {n : Nat} {l : List Ty} {k : Nat} (h : k < l.length) : (etaTs n 0 l).take (k + 1) = (etaTs n 0 l).take k ++ [etaT 0 ((n : Int) - 1 - (k : Nat)) l[k]] := by
 have hk : k < (etaTs n 0 l).length := by rw [etaTs_len]; exact h
 have hg := etaTs_get n l 0 k h
 rw [List.getElem?_eq_getElem hk, Nat.zero_add] at hg
 rw [← take_snoc' hk, Option.some.inj hg]
theorem eta_calls : ∀ (d : Nat) (t : Ty) (k i : Int), t.size ≤ d → d ≤ 1000000000 → PureIs Tryz.prog 145 [.agg [nI k, nI i], t.enc] (etaT k i t).enc := by
 intro d
 induction d with
 | zero => intro t k i h; have := t.size_pos; omega
 | succ d ih =>
  intro t k i h hd
  have hq := Ty.sizes_len t.args
  have hts := t.size_eq
  have loop : ∀ ix : Int, ix = (if k = 0 then IntKind.wrap .i64 (i + (t.args.length : Nat)) else i) → vc145_L6 (((), (), ((List.length (t.args.map Ty.enc) : Nat) : Int), (), 0, ()), ((k, i, ()), (t.args.map Ty.enc, t.base, ()), ((), 0, 0, (), ()), (t.args.map Ty.enc, k, ix, (), ()), [], ())) (fun x => x = (etaT k i t).enc) := by
   intro ix hix
   refine LoopP.intro (fun j : Nat => (((), (), (t.args.length : Int), (), (j : Int), ()), ((k, i, ()), (t.args.map Ty.enc, t.base, ()), ((), 0, 0, (), ()), (t.args.map Ty.enc, k, ix, (), ()), ((etaTs t.args.length 0 t.args).take j).map Tm.enc, ())))
    (fun j => j ≤ t.args.length) (fun j => t.args.length - j) 0 (by rw [List.length_map]; rfl) (Nat.zero_le _) ?_
   intro j hj again hag
   dsimp only
   rw [List.length_map]
   refine ITE.intro (fun h => ?_) fun h => ?_
   ·have hlt : j < t.args.length := by simpa using h
    have hi := ih t.args[j] 0 ((t.args.length : Int) - 1 - (j : Nat)) (by have := Ty.arg_size hlt; omega) (by omega)
    rw [Ty.enc_eq, Tm.enc_eq] at hi
    have hw : IntKind.wrap .i64 (IntKind.wrap .i64 ((t.args.length : Int) - 1) - (j : Int)) = (t.args.length : Int) - 1 - (j : Nat) := by
     rw [wrap_i (n := (t.args.length : Int) - 1) (by omega) (by omega), wrap_i (by omega) (by omega)]
    rw [hw]
    refine ⟨by omega, by omega, _, _, Ty.enc_getD hlt, _, _, _, _, hi, rfl, appOk_one rfl (by simp; omega) (by decide), rfl, ?_⟩
    rw [wrap_n (by omega), Tm.enc_snoc, ← etaTs_take hlt]
    exact hag (j + 1) (by omega) (by omega)
   ·have hle : t.args.length ≤ j := by simpa using h
    refine ⟨rfl, ?_⟩
    rw [List.take_of_length_le (by rw [etaTs_len]; exact hle), etaT_eq, Tm.enc_mk, hix]
  rw [Ty.enc_eq]
  refine vc145_ok (ITE.intro (fun h => ⟨rfl, ?_⟩) fun h => ⟨rfl, ?_⟩)
  ·have hk : k = 0 := by simpa using h
   refine loop _ ?_
   rw [if_pos hk, List.length_map]
  ·have hk : ¬ k = 0 := by simpa using h
   exact loop _ (by rw [if_neg hk])
theorem pEta_calls : ∀ (d : Nat) (t : Ty) (k i : Int), t.size ≤ d → d ≤ 1000 → (k = 0 → 0 ≤ i ∧ i ≤ 1000) → PureIs Tryz.prog 33 [.agg [nI k, nI i], t.enc] (etaT k i t).enc := by
 intro d
 induction d with
 | zero => intro t k i h; have := t.size_pos; omega
 | succ d ih =>
  intro t k i h hd h0
  have hq := Ty.sizes_len t.args
  have hts := t.size_eq
  have harr := arrow_calls (t := t) (l := []) (by simp [Ty.sizes]; omega)
  rw [Ty.arrow, List.nil_append, Ty.enc_mk, Ty.enc_eq, List.map_nil] at harr
  have loop : ∀ ix : Int, ix = (if k = 0 then IntKind.wrap .i64 (i + (t.args.length : Nat)) else i) → vc33_L8 (((), ((List.length (t.args.map Ty.enc) : Nat) : Int), (), t.args.map Ty.enc, ((List.length (t.args.map Ty.enc) : Nat) : Int), 0, ()), ((k, i, ()), (t.args.map Ty.enc, t.base, ()), ((), 0, 0, (), ()), (t.args.map Ty.enc, k, ix, (), ()), [], ())) (fun x => x = (etaT k i t).enc) := by
   intro ix hix
   refine LoopP.intro (fun j : Nat => (((), (t.args.length : Int), (), t.args.map Ty.enc, (t.args.length : Int), (j : Int), ()), ((k, i, ()), (t.args.map Ty.enc, t.base, ()), ((), 0, 0, (), ()), (t.args.map Ty.enc, k, ix, (), ()), ((etaTs t.args.length 0 t.args).take j).map Tm.enc, ())))
    (fun j => j ≤ t.args.length) (fun j => t.args.length - j) 0 (by rw [List.length_map]; rfl) (Nat.zero_le _) ?_
   intro j hj again hag
   dsimp only
   rw [List.length_map]
   refine ITE.intro (fun h => ?_) fun h => ?_
   ·have hlt : j < t.args.length := by simpa using h
    have hi := ih t.args[j] 0 ((t.args.length : Int) - 1 - (j : Nat)) (by have := Ty.arg_size hlt; omega) (by omega) (fun _ => ⟨by omega, by omega⟩)
    rw [Ty.enc_eq, Tm.enc_eq] at hi
    have hw : IntKind.wrap .i64 (IntKind.wrap .i64 ((t.args.length : Int) - 1) - (j : Int)) = (t.args.length : Int) - 1 - (j : Nat) := by
     rw [wrap_i (n := (t.args.length : Int) - 1) (by omega) (by omega), wrap_i (by omega) (by omega)]
    rw [hw]
    refine ⟨by omega, by omega, _, _, Ty.enc_getD hlt, _, _, _, _, hi, rfl, appOk_one rfl (by simp; omega) (by decide), rfl, ?_⟩
    rw [wrap_n (by omega), Tm.enc_snoc, ← etaTs_take hlt]
    exact hag (j + 1) (by omega) (by omega)
   ·have hle : t.args.length ≤ j := by simpa using h
    refine ⟨rfl, ?_⟩
    rw [List.take_of_length_le (by rw [etaTs_len]; exact hle), etaT_eq, Tm.enc_mk, hix]
  rw [Ty.enc_eq]
  refine vc33_ok (ITE.intro (fun h => ?_) fun h => ?_)
  ·have hk : k = 0 := by simpa using h
   have := h0 hk
   refine ITE.neg (decide_eq_false (by omega)) (ITE.neg (decide_eq_false (by omega)) ⟨_, _, harr, ITE.pos h ⟨rfl, loop _ ?_⟩⟩)
   rw [if_pos hk, List.length_map]
  ·have hk : ¬ k = 0 := by simpa using h
   exact ⟨_, _, harr, ITE.neg h ⟨rfl, loop _ (by rw [if_neg hk])⟩⟩
end Go.Proofs.YtghlgbhldnkdmaaGreat

namespace Go.Proofs.YtghlgbhldnkdmaaGreat
open Go
set_option linter.unusedSimpArgs false
set_option linter.unusedVariables false
mutual
def Tm.lift (b : Nat) : Nat → Tm → Tm
 | d, .mk bs k i l => .mk bs k (if k = 0 ∧ ((d + bs.length : Nat) : Int) ≤ i then IntKind.wrap .i64 (i + b) else i) (Tm.lifts b (d + bs.length) l)
def Tm.lifts (b : Nat) : Nat → List Tm → List Tm
 | _, [] => []
 | d, t :: l => Tm.lift b d t :: Tm.lifts b d l
end
theorem Tm.lifts_eq (b d : Nat) (l : List Tm) : Tm.lifts b d l = l.map (Tm.lift b d) := by
 induction l with
 | nil => rfl
 | cons t l ih => rw [Tm.lifts, ih]; rfl
theorem Tm.lift_eq (b d : Nat) (t : Tm) : t.lift b d = .mk t.binds t.kind (if t.kind = 0 ∧ ((d + t.binds.length : Nat) : Int) ≤ t.index then IntKind.wrap .i64 (t.index + b) else t.index) (t.args.map (Tm.lift b (d + t.binds.length))) := by
 cases t; rw [Tm.lift, Tm.lifts_eq]; rfl
mutual
def Tm.nodes : Tm → Nat
 | .mk _ _ _ l => 1 + Tm.nodess l
def Tm.nodess : List Tm → Nat
 | [] => 0
 | t :: l => Tm.nodes t + Tm.nodess l
end
theorem Tm.nodes_eq (t : Tm) : t.nodes = 1 + Tm.nodess t.args := by cases t; rfl
theorem Tm.nodes_pos (t : Tm) : 1 ≤ t.nodes := by rw [t.nodes_eq]; omega
theorem Tm.nodess_mem {l : List Tm} {t : Tm} (h : t ∈ l) : t.nodes ≤ Tm.nodess l := by
 induction l with
 | nil => cases h
 | cons u l ih =>
  simp only [Tm.nodess]
  rcases List.mem_cons.1 h with rfl | h
  ·omega
  ·have := ih h; omega
theorem Tm.lift_binds (b d : Nat) (t : Tm) : (t.lift b d).binds = t.binds := by rw [Tm.lift_eq]; rfl
theorem Tm.lift_kind (b d : Nat) (t : Tm) : (t.lift b d).kind = t.kind := by rw [Tm.lift_eq]; rfl
theorem Tm.lift_args (b d : Nat) (t : Tm) : (t.lift b d).args = t.args.map (Tm.lift b (d + t.binds.length)) := by rw [Tm.lift_eq]; rfl
mutual
def Tm.Lo (B : Nat) : Tm → Prop
 | .mk bs k i l => (Ty.sizes bs ≤ B ∧ l.length ≤ B) ∧ (I64 k ∧ I64 i) ∧ Tm.Los B l
def Tm.Los (B : Nat) : List Tm → Prop
 | [] => True
 | t :: l => Tm.Lo B t ∧ Tm.Los B l
end
theorem Tm.lo_eq {B : Nat} {t : Tm} : t.Lo B ↔ (Ty.sizes t.binds ≤ B ∧ t.args.length ≤ B) ∧ (I64 t.kind ∧ I64 t.index) ∧ Tm.Los B t.args := by cases t; exact Iff.rfl
theorem Tm.los_iff {B : Nat} {l : List Tm} : Tm.Los B l ↔ ∀ t ∈ l, t.Lo B := by
 induction l with
 | nil => exact ⟨fun _ t h => (by cases h), fun _ => True.intro⟩
 | cons u l ih =>
  rw [Tm.Los, ih]
  exact ⟨fun ⟨h1, h2⟩ t ht => (List.mem_cons.1 ht).elim (fun h => h ▸ h1) (h2 t), fun h => ⟨h u List.mem_cons_self, fun t ht => h t (List.mem_cons_of_mem _ ht)⟩⟩
mutual
theorem Tm.lo_mono {B B' : Nat} (h : B ≤ B') : ∀ {t : Tm}, t.Lo B → t.Lo B'
 | .mk bs k i l, h1 => by
  obtain ⟨⟨h1, h2⟩, h3, h4⟩ := h1
  exact ⟨⟨by omega, by omega⟩, h3, Tm.los_mono h h4⟩
theorem Tm.los_mono {B B' : Nat} (h : B ≤ B') : ∀ {l : List Tm}, Tm.Los B l → Tm.Los B' l
 | [], _ => True.intro
 | t :: l, h1 => ⟨Tm.lo_mono h h1.1, Tm.los_mono h h1.2⟩
end
mutual
theorem Tm.lo_lift {B b : Nat} : ∀ (d : Nat) {t : Tm}, t.Lo B → (t.lift b d).Lo B
 | d, .mk bs k i l, h1 => by
  obtain ⟨⟨h1, h2⟩, ⟨h3, h4⟩, h5⟩ := h1
  rw [Tm.lift]
  refine ⟨⟨h1, by rw [Tm.lifts_eq, List.length_map]; exact h2⟩, ⟨h3, ?_⟩, Tm.los_lift _ h5⟩
  split
  ·exact i64_wrap _
  ·exact h4
theorem Tm.los_lift {B b : Nat} : ∀ (d : Nat) {l : List Tm}, Tm.Los B l → Tm.Los B (Tm.lifts b d l)
 | _, [], _ => True.intro
 | d, t :: l, h1 => ⟨Tm.lo_lift d h1.1, Tm.los_lift d h1.2⟩
end
mutual
theorem Tm.lo_ok {B : Nat} : ∀ {t : Tm}, t.Lo B → t.Ok
 | .mk bs k i l, h => ⟨h.2.1.1, h.2.1.2, Tm.los_oks h.2.2⟩
theorem Tm.los_oks {B : Nat} : ∀ {l : List Tm}, Tm.Los B l → Tm.Oks l
 | [], _ => True.intro
 | t :: l, h => ⟨Tm.lo_ok h.1, Tm.los_oks h.2⟩
end
mutual
theorem Tm.lo_size {B : Nat} : ∀ {t : Tm}, t.Lo B → t.size ≤ t.nodes * (1 + B)
 | .mk bs k i l, h => by
  have := Tm.los_size h.2.2
  have h1 : Ty.sizes bs ≤ B := h.1.1
  rw [Tm.size, Tm.nodes, Nat.add_mul]; omega
theorem Tm.los_size {B : Nat} : ∀ {l : List Tm}, Tm.Los B l → Tm.sizes l ≤ Tm.nodess l * (1 + B)
 | [], _ => by simp [Tm.sizes]
 | t :: l, h => by
  have h1 := Tm.lo_size h.1
  have h2 := Tm.los_size h.2
  rw [Tm.sizes, Tm.nodess, Nat.add_mul]; omega
end
mutual
theorem Tm.lo_of {B : Nat} : ∀ {t : Tm}, t.Ok → t.size ≤ B → t.Lo B
 | .mk bs k i l, h, hs => by
  rw [Tm.size] at hs
  have := Tm.sizes_len l
  exact ⟨⟨by omega, by omega⟩, ⟨h.1, h.2.1⟩, Tm.los_of h.2.2 (by omega)⟩
theorem Tm.los_of {B : Nat} : ∀ {l : List Tm}, Tm.Oks l → Tm.sizes l ≤ B → Tm.Los B l
 | [], _, _ => True.intro
 | t :: l, h, hs => by
  rw [Tm.sizes] at hs
  exact ⟨Tm.lo_of h.1 (by omega), Tm.los_of h.2 (by omega)⟩
end
structure Mt where
 left : Nat
 count : Nat
 err : Int
def Mt.one (m : Mt) : Mt × Bool :=
 if m.err ≠ 0 then (m, false) else if m.count = 100000 then (⟨m.left, m.count, 2⟩, false) else if m.left = 0 then (⟨m.left, m.count, 11⟩, false) else (⟨m.left - 1, m.count + 1, m.err⟩, true)
def Mt.units : Nat → Mt → Mt × Bool
 | 0, m => (m, decide (m.err = 0))
 | n + 1, m => if m.one.2 = true then Mt.units n m.one.1 else (m.one.1, false)
def noTm : Tm := .mk [] 0 0 []
def goArgs (g : Mt → Tm → Mt × Tm) : Mt → List Tm → Mt × List Tm
 | m, [] => (m, [])
 | m, t :: l => ((goArgs g (g m t).1 l).1, (g m t).2 :: (goArgs g (g m t).1 l).2)
def withinT (b : Mt → Int → Int → List Tm → List Tm → Nat → Nat → Mt × Tm) (us : List Tm) (n d : Nat) (m : Mt) (t : Tm) : Mt × Tm :=
 ((b m t.kind t.index t.args us n (d + t.binds.length)).1, .mk t.binds (b m t.kind t.index t.args us n (d + t.binds.length)).2.kind (b m t.kind t.index t.args us n (d + t.binds.length)).2.index (b m t.kind t.index t.args us n (d + t.binds.length)).2.args)
def standT (us : List Tm) (i : Int) (n d : Nat) : Tm := (us.getD (n - 1 - (i - d).toNat) noTm).lift (d + n - us.length) 0
def headT (b : Mt → Int → Int → List Tm → List Tm → Nat → Nat → Mt × Tm) (r : Mt × List Tm) (k i : Int) (us : List Tm) (n d : Nat) : Mt × Tm :=
 if r.1.err ≠ 0 then (r.1, noTm) else if ¬ k = 0 ∨ i < d then (r.1, .mk [] k i r.2) else if (d : Int) + n ≤ i then (r.1, .mk [] k (i - us.length) r.2)
 else if (i - d).toNat + us.length < n then (r.1, .mk [] k i r.2)
 else if (standT us i n d).binds.length ≠ r.2.length then (⟨r.1.left, r.1.count, 1⟩, noTm)
 else b r.1 (standT us i n d).kind (standT us i n d).index (standT us i n d).args r.2 (standT us i n d).binds.length 0
def bodyT : Nat → Mt → Int → Int → List Tm → List Tm → Nat → Nat → Mt × Tm
 | 0, m, _, _, _, _, _, _ => (⟨m.left, m.count, if m.err = 0 then 99 else m.err⟩, noTm)
 | f + 1, m, k, i, args, us, n, d => if m.one.2 = false then (m.one.1, noTm) else headT (bodyT f) (goArgs (withinT (bodyT f) us n d) m.one.1 args) k i us n d
def putT (f : Nat) (m : Mt) (t : Tm) (us : List Tm) : Mt × Tm :=
 if m.err ≠ 0 then (m, noTm) else if t.binds.length < us.length then (⟨m.left, m.count, 1⟩, noTm) else
 ((bodyT f m t.kind t.index t.args us t.binds.length 0).1, .mk (t.binds.drop us.length) (bodyT f m t.kind t.index t.args us t.binds.length 0).2.kind (bodyT f m t.kind t.index t.args us t.binds.length 0).2.index (bodyT f m t.kind t.index t.args us t.binds.length 0).2.args)
def doneT (r : Mt × Tm) : Mt × Tm :=
 if r.1.err ≠ 0 then (r.1, noTm) else if trest 0 (r.2.pre 0 1) = true then r else (⟨r.1.left, r.1.count, 2⟩, noTm)
theorem one_true {m : Mt} (h : m.one.2 = true) : m.err = 0 ∧ m.count ≠ 100000 ∧ m.left ≠ 0 ∧ m.one.1 = ⟨m.left - 1, m.count + 1, 0⟩ := by
 unfold Mt.one at h ⊢
 split at h
 ·cases h
 ·rename_i h0
  have h0 : m.err = 0 := by simpa using h0
  split at h
  ·cases h
  ·split at h
   ·cases h
   ·rename_i h1 h2
    exact ⟨h0, h1, h2, by rw [if_neg (by simp [h0]), if_neg h1, if_neg h2, h0]⟩
theorem one_false {m : Mt} (h : m.one.2 = false) : m.one.1.err ≠ 0 ∧ m.one.1.left = m.left ∧ m.one.1.count = m.count ∧ (m.err ≠ 0 → m.one.1 = m) ∧ (m.one.1.err = 11 → m.err = 11 ∨ m.left = 0 ∧ m.count ≠ 100000) := by
 unfold Mt.one at h ⊢
 split at h
 ·rename_i h0; rw [if_pos h0]; exact ⟨h0, rfl, rfl, fun _ => rfl, fun h => .inl h⟩
 ·rename_i h0
  rw [if_neg h0]
  split at h
  ·rename_i h1; rw [if_pos h1]; exact ⟨by simp, rfl, rfl, fun h => (h0 h).elim, fun h => by simp at h⟩
  ·rename_i h1
   rw [if_neg h1]
   split at h
   ·rename_i h2; rw [if_pos h2]; exact ⟨by simp, rfl, rfl, fun h => (h0 h).elim, fun h => .inr ⟨h2, h1⟩⟩
   ·cases h
structure Mt.To (m m' : Mt) : Prop where
 stop : m.err ≠ 0 → m' = m
 sum : m'.left + m'.count = m.left + m.count
 more : m.count ≤ m'.count
 most : m.count ≤ 100000 → m'.count ≤ 100000
 fuel : m'.err = 11 → m.err ≠ 11 → m'.left = 0 ∧ m'.count ≠ 100000
theorem Mt.To.refl (m : Mt) : m.To m := ⟨fun _ => rfl, rfl, Nat.le_refl _, fun h => h, fun h1 h2 => (h2 h1).elim⟩
theorem Mt.To.trans {a b c : Mt} (h1 : a.To b) (h2 : b.To c) : a.To c :=
 ⟨fun h => by have e := h1.stop h; subst e; exact h2.stop h, by rw [h2.sum, h1.sum], Nat.le_trans h1.more h2.more, fun h => h2.most (h1.most h), fun h g => by
  by_cases hb : b.err = 11
  ·have := h2.stop (by rw [hb]; decide)
   rw [this]; exact h1.fuel hb g
  ·exact h2.fuel h hb⟩
theorem Mt.To.ok {a b : Mt} (h : a.To b) (hb : b.err = 0) : a.err = 0 := Decidable.byContradiction fun hc => hc (by rw [← h.stop hc]; exact hb)
theorem Mt.To.fail {m : Mt} (h : m.err = 0) {e : Int} (he : e ≠ 11) : m.To ⟨m.left, m.count, e⟩ := ⟨fun h' => (h' h).elim, rfl, Nat.le_refl _, fun h => h, fun h => (he h).elim⟩
theorem Mt.one_to (m : Mt) : m.To m.one.1 := by
 cases h : m.one.2 with
 | true =>
  obtain ⟨h0, h1, h2, h3⟩ := one_true h
  rw [h3]
  exact ⟨fun h => (h h0).elim, by simp only; omega, by simp only; omega, fun h => by simp only; omega, fun h => by simp at h⟩
 | false =>
  obtain ⟨_, h1, h2, h3, h4⟩ := one_false h
  exact ⟨h3, by omega, by omega, fun h => by omega, fun h g => by rw [h1, h2]; exact (h4 h).resolve_left g⟩
def Keeps1 (g : Mt → Tm → Mt × Tm) : Prop := ∀ (m : Mt) (t : Tm), m.To (g m t).1
theorem goArgs_to {g : Mt → Tm → Mt × Tm} (hg : Keeps1 g) : ∀ (l : List Tm) (m : Mt), m.To (goArgs g m l).1
 | [], m => .refl m
 | t :: l, m => (hg m t).trans (goArgs_to hg l _)
theorem goArgs_len {g : Mt → Tm → Mt × Tm} : ∀ (l : List Tm) (m : Mt), (goArgs g m l).2.length = l.length
 | [], m => rfl
 | t :: l, m => by rw [goArgs, List.length_cons, List.length_cons, goArgs_len l]
theorem goArgs_drop {g : Mt → Tm → Mt × Tm} {l : List Tm} {k : Nat} (h : k < l.length) (m : Mt) : goArgs g m (l.drop k) = ((goArgs g (g m l[k]).1 (l.drop (k + 1))).1, (g m l[k]).2 :: (goArgs g (g m l[k]).1 (l.drop (k + 1))).2) := by
 rw [List.drop_eq_getElem_cons h, goArgs]
theorem bodyT_to : ∀ (f : Nat) (m : Mt) (k i : Int) (args us : List Tm) (n d : Nat), m.To (bodyT f m k i args us n d).1
 | 0, m, k, i, args, us, n, d => by
  rw [bodyT]
  by_cases h : m.err = 0
  ·rw [if_pos h]; exact .fail h (by decide)
  ·rw [if_neg h]
   exact ⟨fun _ => by cases m; rfl, rfl, Nat.le_refl _, fun h => h, fun h1 h2 => (h2 h1).elim⟩
 | f + 1, m, k, i, args, us, n, d => by
  rw [bodyT]
  split
  ·exact Mt.one_to m
  ·refine (Mt.one_to m).trans ?_
   have hg := goArgs_to (g := withinT (bodyT f) us n d) (fun m t => bodyT_to f m _ _ _ _ _ _) args m.one.1
   refine hg.trans ?_
   generalize goArgs (withinT (bodyT f) us n d) m.one.1 args = r
   unfold headT
   split
   ·exact .refl _
   ·rename_i h0
    have h0 : r.1.err = 0 := by simpa using h0
    split
    ·exact .refl _
    ·split
     ·exact .refl _
     ·split
      ·exact .refl _
      ·split
       ·exact .fail h0 (by decide)
       ·exact bodyT_to f _ _ _ _ _ _ _
theorem withinT_to (f : Nat) (us : List Tm) (n d : Nat) : Keeps1 (withinT (bodyT f) us n d) := fun m t => bodyT_to f m _ _ _ _ _ _
structure Form (B : Nat) (m m' : Mt) (t : Tm) : Prop where
 nodes : t.nodes + m.count ≤ m'.count
 lo : t.Lo B
theorem goArgs_form {B : Nat} {g : Mt → Tm → Mt × Tm} (hg : Keeps1 g) : ∀ (l : List Tm) (m : Mt), (∀ t ∈ l, ∀ m : Mt, m.To (g m t).1 → (g m t).1.err = 0 → Form B m (g m t).1 (g m t).2) → (goArgs g m l).1.err = 0 →
  Tm.nodess (goArgs g m l).2 + m.count ≤ (goArgs g m l).1.count ∧ Tm.Los B (goArgs g m l).2
 | [], m, _, _ => ⟨by simp [goArgs, Tm.nodess], True.intro⟩
 | t :: l, m, h, he => by
  rw [goArgs] at he ⊢
  simp only at he ⊢
  have h1 := h t List.mem_cons_self m (hg m t) ((goArgs_to hg l _).ok he)
  have h2 := goArgs_form hg l (g m t).1 (fun u hu => h u (List.mem_cons_of_mem _ hu)) he
  have := h1.nodes
  exact ⟨by rw [Tm.nodess]; omega, h1.lo, h2.2⟩
theorem getD_lo {B : Nat} {l : List Tm} (h : Tm.Los B l) (n : Nat) : (l.getD n noTm).Lo B := by
 rw [List.getD_eq_getElem?_getD]
 by_cases hn : n < l.length
 ·rw [List.getElem?_eq_getElem hn]; exact Tm.los_iff.1 h _ (List.getElem_mem hn)
 ·rw [List.getElem?_eq_none (by omega)]
  exact ⟨⟨by simp [Ty.sizes], by simp⟩, ⟨⟨by decide, by decide⟩, by decide, by decide⟩, True.intro⟩
theorem standT_lo {B : Nat} {us : List Tm} (h : Tm.Los B us) (i : Int) (n d : Nat) : (standT us i n d).Lo B := Tm.lo_lift 0 (getD_lo h _)
theorem bodyT_form {B : Nat} : ∀ (f : Nat) (m : Mt) (k i : Int) (args us : List Tm) (n d : Nat), I64 k → I64 i → args.length ≤ B → Tm.Los B args → Tm.Los B us → us.length ≤ n → (bodyT f m k i args us n d).1.err = 0 →
  Form B m (bodyT f m k i args us n d).1 (bodyT f m k i args us n d).2 ∧ (bodyT f m k i args us n d).2.binds = []
 | 0, m, k, i, args, us, n, d, _, _, _, _, _, _, he => by
  rw [bodyT] at he
  simp only at he
  split at he
  ·cases he
  ·rename_i h; exact (h he).elim
 | f + 1, m, k, i, args, us, n, d, hk, hi, hla, ha, hu, hn, he => by
  rw [bodyT] at he ⊢
  split at he
  ·rename_i h1; exact ((one_false h1).1 he).elim
  ·rename_i h1
   rw [if_neg h1]
   obtain ⟨g0, g1, g2, g3⟩ := one_true (by simpa using h1)
   have hto := goArgs_to (withinT_to f us n d) args m.one.1
   have hform := goArgs_form (B := B) (withinT_to f us n d) args m.one.1 (fun t ht m' hto' he' => by
    have hlo := Tm.lo_eq.1 (Tm.los_iff.1 ha t ht)
    have := bodyT_form (B := B) f m' t.kind t.index t.args us n (d + t.binds.length) hlo.2.1.1 hlo.2.1.2 hlo.1.2 hlo.2.2 hu hn he'
    have hq := Tm.lo_eq.1 this.1.lo
    have hqn := this.1.nodes
    rw [Tm.nodes_eq] at hqn
    exact ⟨by unfold withinT; rw [Tm.nodes_eq, Tm.args_mk]; exact hqn, Tm.lo_eq.2 ⟨⟨hlo.1.1, hq.1.2⟩, hq.2⟩⟩)
   have hlen := goArgs_len (g := withinT (bodyT f) us n d) args m.one.1
   generalize goArgs (withinT (bodyT f) us n d) m.one.1 args = r at he hto hform hlen
   unfold headT at he ⊢
   split at he
   ·rename_i h2; exact (h2 he).elim
   ·rename_i h2
    have h2 : r.1.err = 0 := by simpa using h2
    obtain ⟨q1, q2⟩ := hform h2
    have q1' : 1 + Tm.nodess r.2 + m.count ≤ r.1.count := by rw [g3] at q1; simp only at q1; omega
    rw [if_neg (by simp [h2])]
    have mk : ∀ i' : Int, I64 i' → Form B m r.1 (.mk [] k i' r.2) := fun i' hi' => ⟨by rw [Tm.nodes]; exact q1', ⟨by simp [Ty.sizes], by rw [hlen]; exact hla⟩, ⟨hk, hi'⟩, q2⟩
    split at he
    ·rename_i h3; rw [if_pos h3]; exact ⟨mk i hi, rfl⟩
    ·rename_i h3
     rw [if_neg h3]
     split at he
     ·rename_i h4
      rw [if_pos h4]
      refine ⟨mk _ ?_, rfl⟩
      unfold I64 at hi ⊢; omega
     ·rename_i h4
      rw [if_neg h4]
      split at he
      ·rename_i h5; rw [if_pos h5]; exact ⟨mk i hi, rfl⟩
      ·rename_i h5
       rw [if_neg h5]
       split at he
       ·cases he
       ·rename_i h6
        rw [if_neg h6]
        have hlo := Tm.lo_eq.1 (standT_lo hu i n d)
        have := bodyT_form (B := B) f r.1 _ _ _ r.2 _ 0 hlo.2.1.1 hlo.2.1.2 hlo.1.2 hlo.2.2 q2 (by simp at h6; omega) he
        exact ⟨⟨by have := this.1.nodes; omega, this.1.lo⟩, this.2⟩
theorem tysizes_drop (l : List Ty) (n : Nat) : Ty.sizes (l.drop n) ≤ Ty.sizes l := by
 have := Ty.sizes_append (l.take n) (l.drop n)
 rw [List.take_append_drop] at this; omega
theorem putT_form {B f : Nat} {m : Mt} {t : Tm} {us : List Tm} (ht : t.Lo B) (hu : Tm.Los B us) (he : (putT f m t us).1.err = 0) : Form B m (putT f m t us).1 (putT f m t us).2 := by
 unfold putT at he ⊢
 split at he
 ·rename_i h; exact (h he).elim
 ·rename_i h
  rw [if_neg h]
  split at he
  ·cases he
  ·rename_i h2
   rw [if_neg h2]
   have hlo := Tm.lo_eq.1 ht
   have := bodyT_form (B := B) f m _ _ _ us _ 0 hlo.2.1.1 hlo.2.1.2 hlo.1.2 hlo.2.2 hu (by omega) he
   have hq := Tm.lo_eq.1 this.1.lo
   have hqn := this.1.nodes
   rw [Tm.nodes_eq] at hqn
   refine ⟨by rw [Tm.nodes_eq, Tm.args_mk]; exact hqn, Tm.lo_eq.2 ⟨⟨?_, hq.1.2⟩, hq.2⟩⟩
   exact Nat.le_trans (tysizes_drop _ _) hlo.1.1
mutual
theorem etaT_nodes : ∀ (t : Ty) (k i : Int), (etaT k i t).nodes = t.size
 | .mk l b, k, i => by rw [etaT, Tm.nodes, Ty.size, etaTs_nodes l l.length 0]
theorem etaTs_nodes : ∀ (l : List Ty) (n j : Nat), Tm.nodess (etaTs n j l) = Ty.sizes l
 | [], n, j => by simp [etaTs, Tm.nodess, Ty.sizes]
 | t :: l, n, j => by rw [etaTs, Tm.nodess, Ty.sizes, etaT_nodes t, etaTs_nodes l]
end
mutual
theorem etaT_lo {B : Nat} : ∀ (t : Ty) (k i : Int), I64 k → I64 i → t.size ≤ B → B ≤ 1000000000 → (etaT k i t).Lo B
 | .mk l b, k, i, hk, hi, h, hB => by
  have := Ty.sizes_len l
  rw [Ty.size] at h
  rw [etaT]
  refine ⟨⟨by omega, by rw [etaTs_len]; omega⟩, ⟨hk, ?_⟩, etaTs_lo l l.length 0 (by omega) (by omega) (by omega) hB⟩
  split
  ·exact i64_wrap _
  ·exact hi
theorem etaTs_lo {B : Nat} : ∀ (l : List Ty) (n j : Nat), n ≤ B → Ty.sizes l ≤ B → j + l.length ≤ 3000000000 → B ≤ 1000000000 → Tm.Los B (etaTs n j l)
 | [], n, j, _, _, _, _ => True.intro
 | t :: l, n, j, hn, h, hj, hB => by
  rw [Ty.sizes] at h
  rw [List.length_cons] at hj
  exact ⟨etaT_lo t 0 _ ⟨by decide, by decide⟩ ⟨by omega, by omega⟩ (by omega) hB, etaTs_lo l n (j + 1) hn (by omega) (by omega) hB⟩
end
end Go.Proofs.YtghlgbhldnkdmaaGreat

namespace Go.Proofs.YtghlgbhldnkdmaaGreat
open Go
set_option linter.unusedSimpArgs false
set_option linter.unusedVariables false
def hdL (k i : Int) : La := if k = 0 then .var i.toNat else .con k i
mutual
def Tm.la : Tm → La
 | .mk bs k i l => lams bs (apps (hdL k i) (Tm.las l))
def Tm.las : List Tm → List La
 | [] => []
 | t :: l => Tm.la t :: Tm.las l
end
theorem Tm.las_eq : ∀ (l : List Tm), Tm.las l = l.map Tm.la
 | [] => rfl
 | t :: l => by rw [Tm.las, Tm.las_eq l]; rfl
theorem Tm.la_eq (t : Tm) : t.la = lams t.binds (apps (hdL t.kind t.index) (t.args.map Tm.la)) := by cases t; rw [Tm.la, Tm.las_eq]; rfl
mutual
def Tm.Sc : Nat → Tm → Prop
 | N, .mk bs k i l => (k = 0 → 0 ≤ i ∧ i < ((N + bs.length : Nat) : Int)) ∧ Tm.Scs (N + bs.length) l
def Tm.Scs : Nat → List Tm → Prop
 | _, [] => True
 | N, t :: l => Tm.Sc N t ∧ Tm.Scs N l
end
theorem Tm.sc_eq {N : Nat} {t : Tm} : t.Sc N ↔ (t.kind = 0 → 0 ≤ t.index ∧ t.index < ((N + t.binds.length : Nat) : Int)) ∧ Tm.Scs (N + t.binds.length) t.args := by cases t; exact Iff.rfl
theorem Tm.scs_iff {N : Nat} {l : List Tm} : Tm.Scs N l ↔ ∀ t ∈ l, t.Sc N := by
 induction l with
 | nil => exact ⟨fun _ t h => (by cases h), fun _ => True.intro⟩
 | cons u l ih =>
  rw [Tm.Scs, ih]
  exact ⟨fun ⟨h1, h2⟩ t ht => (List.mem_cons.1 ht).elim (fun h => h ▸ h1) (h2 t), fun h => ⟨h u List.mem_cons_self, fun t ht => h t (List.mem_cons_of_mem _ ht)⟩⟩
def rise (d b : Nat) : Nat → Nat := fun j => if j < d then j else j + b
theorem rise_up (n d b j : Nat) : upRs n (rise d b) j = rise (d + n) b j := by
 unfold upRs rise
 by_cases h : j < n
 ·rw [if_pos h, if_pos (by omega)]
 ·rw [if_neg h]
  by_cases h2 : j - n < d
  ·rw [if_pos h2, if_pos (by omega)]; omega
  ·rw [if_neg h2, if_neg (by omega)]; omega
theorem hdL_ren (k i : Int) (ρ : Nat → Nat) : (hdL k i).ren ρ = if k = 0 then .var (ρ i.toNat) else .con k i := by
 unfold hdL; split <;> rfl
mutual
theorem lift_la {B b : Nat} : ∀ (t : Tm) (d N : Nat), t.Lo B → t.Sc N → N + B * t.nodes + b ≤ 9000000000000000000 → (t.lift b d).la = t.la.ren (rise d b) ∧ (t.lift b d).Sc (N + b)
 | .mk bs k i l, d, N, hlo, hsc, hb => by
  obtain ⟨⟨h1, h2⟩, ⟨h3, h4⟩, h5⟩ := hlo
  obtain ⟨h6, h7⟩ := hsc
  have hbl := Ty.sizes_len bs
  rw [Tm.nodes, Nat.mul_add, Nat.mul_one] at hb
  obtain ⟨g1, g2⟩ := lifts_la (b := b) l (d + bs.length) (N + bs.length) h5 h7 (by omega)
  rw [Tm.lift, Tm.la, Tm.la, lams_ren, apps_ren, hdL_ren]
  constructor
  ·rw [g1]
   congr 2
   ·unfold hdL
    by_cases hk : k = 0
    ·obtain ⟨h8, h9⟩ := h6 hk
     rw [if_pos hk, if_pos hk, rise_up]
     unfold rise
     by_cases hi : ((d + bs.length : Nat) : Int) ≤ i
     ·rw [if_pos ⟨hk, hi⟩, wrap_i (by omega) (by omega), if_neg (by omega)]; congr 1; omega
     ·rw [if_neg (fun h => hi h.2), if_pos (by omega)]
    ·rw [if_neg hk, if_neg hk, if_neg (fun h => hk h.1)]
   ·exact List.map_congr_left fun a _ => La.ren_ext a fun j => (rise_up _ _ _ _).symm
  ·refine ⟨fun hk => ?_, ?_⟩
   ·obtain ⟨h8, h9⟩ := h6 hk
    by_cases hi : ((d + bs.length : Nat) : Int) ≤ i
    ·rw [if_pos ⟨hk, hi⟩, wrap_i (by omega) (by omega)]; omega
    ·rw [if_neg (fun h => hi h.2)]; omega
   ·rw [show N + b + bs.length = N + bs.length + b from by omega]; exact g2
theorem lifts_la {B b : Nat} : ∀ (l : List Tm) (d N : Nat), Tm.Los B l → Tm.Scs N l → N + B * Tm.nodess l + b ≤ 9000000000000000000 → Tm.las (Tm.lifts b d l) = (Tm.las l).map (·.ren (rise d b)) ∧ Tm.Scs (N + b) (Tm.lifts b d l)
 | [], d, N, _, _, _ => ⟨rfl, True.intro⟩
 | t :: l, d, N, hlo, hsc, hb => by
  rw [Tm.nodess, Nat.mul_add] at hb
  obtain ⟨g1, g2⟩ := lift_la (b := b) t d N hlo.1 hsc.1 (by omega)
  obtain ⟨g3, g4⟩ := lifts_la (b := b) l d N hlo.2 hsc.2 (by omega)
  rw [Tm.lifts, Tm.las, Tm.las, g1, g3]
  exact ⟨rfl, g2, g4⟩
end
theorem ups_zero (σ : Nat → La) (i : Nat) : ups 0 σ i = σ i := by
 unfold ups
 simp only [Nat.not_lt_zero, if_false, Nat.sub_zero]
 exact La.ren_id _ fun i => rfl
theorem ups_ups (n d : Nat) (σ : Nat → La) (i : Nat) : ups n (ups d σ) i = ups (d + n) σ i := by
 unfold ups
 by_cases h : i < n
 ·rw [if_pos h, if_pos (by omega)]
 ·rw [if_neg h]
  by_cases h2 : i - n < d
  ·rw [if_pos h2, if_pos (by omega)]; show La.var (i - n + n) = _; congr 1; omega
  ·rw [if_neg h2, if_neg (by omega), La.ren_ren, show i - n - d = i - (d + n) from by omega]
   exact La.ren_ext _ fun j => by omega
theorem goArgs_conv {g : Mt → Tm → Mt × Tm} (hg : Keeps1 g) {σ : Nat → La} {N : Nat} : ∀ (l : List Tm) (m : Mt), m.count ≤ 100000 → (∀ t ∈ l, ∀ m : Mt, m.count ≤ 100000 → (g m t).1.err = 0 → Conv (t.la.sub σ) (g m t).2.la ∧ (g m t).2.Sc N) → (goArgs g m l).1.err = 0 →
  ConvL ((Tm.las l).map (·.sub σ)) (Tm.las (goArgs g m l).2) ∧ Tm.Scs N (goArgs g m l).2
 | [], m, _, _, _ => ⟨.nil, True.intro⟩
 | t :: l, m, hm, h, he => by
  rw [goArgs] at he ⊢
  simp only at he ⊢
  have h1 := h t List.mem_cons_self m hm ((goArgs_to hg l _).ok he)
  have h2 := goArgs_conv hg l (g m t).1 ((hg m t).most hm) (fun u hu => h u (List.mem_cons_of_mem _ hu)) he
  exact ⟨.cons h1.1 h2.1, h1.2, h2.2⟩
theorem las_getD {l : List Tm} {k : Nat} (h : k < l.length) : (Tm.las l).getD k (.var 0) = l[k].la := by
 rw [Tm.las_eq, List.getD_eq_getElem?_getD, List.getElem?_map, List.getElem?_eq_getElem h]; rfl
theorem las_len (l : List Tm) : (Tm.las l).length = l.length := by rw [Tm.las_eq, List.length_map]
theorem body_conv {B : Nat} (hB : B ≤ 1000000) : ∀ (f : Nat) (m : Mt) (k i : Int) (args us : List Tm) (n D G : Nat), m.count ≤ 100000 → I64 k → I64 i → args.length ≤ B → Tm.Los B args → Tm.Los B us → us.length ≤ n → n ≤ B → (∀ t ∈ us, t.nodes ≤ 1000000000) →
  (k = 0 → 0 ≤ i ∧ i < ((D + n + G : Nat) : Int)) → Tm.Scs (D + n + G) args → Tm.Scs G us → G + D + n + B * f ≤ 4000000000000000000 → (bodyT f m k i args us n D).1.err = 0 →
  Conv ((apps (hdL k i) (Tm.las args)).sub (ups D (putS (Tm.las us) n))) (bodyT f m k i args us n D).2.la ∧ (bodyT f m k i args us n D).2.Sc (D + (n - us.length) + G)
 | 0, m, k, i, args, us, n, D, G, _, _, _, _, _, _, _, _, _, _, _, _, _, he => by
  rw [bodyT] at he
  simp only at he
  split at he
  ·cases he
  ·rename_i h; exact (h he).elim
 | f + 1, m, k, i, args, us, n, D, G, hm, hk, hi, hla, hlo, hus, hun, hnB, hnd, hsk, hsa, hsu, hK, he => by
  have hmul : B * (f + 1) = B * f + B := Nat.mul_succ _ _
  rw [bodyT] at he ⊢
  split at he
  ·rename_i h1; exact ((one_false h1).1 he).elim
  rename_i h1
  rw [if_neg h1]
  obtain ⟨g0, g1, g2, g3⟩ := one_true (by simpa using h1)
  have hkeep := withinT_to f us n D
  have hto := goArgs_to hkeep args m.one.1
  have hm1 : m.one.1.count ≤ 100000 := (Mt.one_to m).most hm
  have hform := goArgs_form (B := B) hkeep args m.one.1 (fun t ht m' hto' he' => by
   have hlo' := Tm.lo_eq.1 (Tm.los_iff.1 hlo t ht)
   have := bodyT_form (B := B) f m' t.kind t.index t.args us n (D + t.binds.length) hlo'.2.1.1 hlo'.2.1.2 hlo'.1.2 hlo'.2.2 hus hun he'
   have hq := Tm.lo_eq.1 this.1.lo
   have hqn := this.1.nodes
   rw [Tm.nodes_eq] at hqn
   exact ⟨by unfold withinT; rw [Tm.nodes_eq, Tm.args_mk]; exact hqn, Tm.lo_eq.2 ⟨⟨hlo'.1.1, hq.1.2⟩, hq.2⟩⟩)
  have hconv := goArgs_conv hkeep (σ := ups D (putS (Tm.las us) n)) (N := D + (n - us.length) + G) args m.one.1 hm1 (fun t ht m' hm' he' => by
   have hlo' := Tm.lo_eq.1 (Tm.los_iff.1 hlo t ht)
   have hsc' := Tm.sc_eq.1 (Tm.scs_iff.1 hsa t ht)
   have hbl := Ty.sizes_len t.binds
   have hf := bodyT_form (B := B) f m' t.kind t.index t.args us n (D + t.binds.length) hlo'.2.1.1 hlo'.2.1.2 hlo'.1.2 hlo'.2.2 hus hun he'
   have hb := body_conv hB f m' t.kind t.index t.args us n (D + t.binds.length) G hm' hlo'.2.1.1 hlo'.2.1.2 hlo'.1.2 hlo'.2.2 hus hun hnB hnd
    (fun h => by have := hsc'.1 h; omega) (by rw [show D + t.binds.length + n + G = D + n + G + t.binds.length from by omega]; exact hsc'.2) hsu (by omega) he'
   unfold withinT
   generalize (bodyT f m' t.kind t.index t.args us n (D + t.binds.length)).2 = R at hf hb
   obtain ⟨rb, rk, ri, ra⟩ := R
   obtain ⟨hb1, hb2⟩ := hb
   have hrb : rb = [] := hf.2
   subst hrb
   refine ⟨?_, ?_⟩
   ·rw [Tm.la_eq t, lams_sub, ← Tm.las_eq]
    show Conv _ (lams t.binds (apps (hdL rk ri) (Tm.las ra)))
    refine Conv.lams ?_ _
    refine Conv.trans (.of_eq (La.sub_ext _ fun j => ?_)) hb1
    exact ups_ups _ _ _ _
   ·have hb2 := Tm.sc_eq.1 hb2
    refine Tm.sc_eq.2 ?_
    simp only [Tm.binds_mk, Tm.kind_mk, Tm.index_mk, Tm.args_mk, List.length_nil, Nat.add_zero] at hb2 ⊢
    rw [show D + (n - us.length) + G + t.binds.length = D + t.binds.length + (n - us.length) + G from by omega]
    exact hb2)
  have hlen := goArgs_len (g := withinT (bodyT f) us n D) args m.one.1
  generalize goArgs (withinT (bodyT f) us n D) m.one.1 args = r at he hto hform hlen hconv
  rw [apps_sub]
  have hlas := las_len us
  have hσ : ∀ j, ups D (putS (Tm.las us) n) j = if j < D then .var j else (putS (Tm.las us) n (j - D)).ren (· + D) := fun j => rfl
  unfold headT at he ⊢
  split at he
  ·rename_i h2; exact (h2 he).elim
  rename_i h2
  have h2 : r.1.err = 0 := by simpa using h2
  obtain ⟨q1, q2⟩ := hform h2
  obtain ⟨c1, c2⟩ := hconv h2
  rw [if_neg (by simp [h2])]
  have fin : ∀ i' : Int, Conv ((hdL k i).sub (ups D (putS (Tm.las us) n))) (hdL k i') → (k = 0 → 0 ≤ i' ∧ i' < ((D + (n - us.length) + G : Nat) : Int)) → Conv (apps ((hdL k i).sub (ups D (putS (Tm.las us) n))) ((Tm.las args).map (·.sub (ups D (putS (Tm.las us) n))))) (Tm.mk [] k i' r.2).la ∧ (Tm.mk [] k i' r.2).Sc (D + (n - us.length) + G) := by
   intro i' g1 g2
   rw [Tm.la]
   exact ⟨Conv.apps c1 g1, ⟨by simpa using g2, by simpa using c2⟩⟩
  split at he
  ·rename_i h3
   rw [if_pos h3]
   by_cases hk0 : k = 0
   ·have hid : i < D := h3.resolve_left (fun h => h hk0)
    have hs := hsk hk0
    refine fin i (.of_eq ?_) (fun _ => by omega)
    unfold hdL
    rw [if_pos hk0, La.sub, hσ, if_pos (by omega)]
   ·refine fin i (.of_eq ?_) (fun h => (hk0 h).elim)
    unfold hdL
    rw [if_neg hk0, La.sub]
  rename_i h3
  rw [if_neg h3]
  have hk0 : k = 0 := Decidable.byContradiction fun hc => h3 (.inl hc)
  have hDi : ¬ i < D := fun h => h3 (.inr h)
  have hs := hsk hk0
  have hj : hdL k i = .var i.toNat := by unfold hdL; rw [if_pos hk0]
  split at he
  ·rename_i h4
   rw [if_pos h4]
   refine fin _ (.of_eq ?_) (fun _ => by omega)
   rw [hj, La.sub, hσ, if_neg (by omega)]
   unfold putS hdL
   rw [if_pos hk0, hlas, if_neg (by omega), if_neg (by omega)]
   show La.var (i.toNat - D - us.length + D) = _
   congr 1; omega
  rename_i h4
  rw [if_neg h4]
  split at he
  ·rename_i h5
   rw [if_pos h5]
   refine fin i (.of_eq ?_) (fun _ => by omega)
   rw [hj, La.sub, hσ, if_neg (by omega)]
   unfold putS
   rw [hlas, if_pos (by omega)]
   show La.var (i.toNat - D + D) = _
   congr 1; omega
  rename_i h5
  rw [if_neg h5]
  split at he
  ·cases he
  rename_i h6
  rw [if_neg h6]
  have h6 : (standT us i n D).binds.length = r.2.length := by simpa using h6
  have hlt : n - 1 - (i - D).toNat < us.length := by omega
  have hst : standT us i n D = us[n - 1 - (i - D).toNat].lift (D + n - us.length) 0 := by
   unfold standT
   rw [List.getD_eq_getElem?_getD, List.getElem?_eq_getElem hlt]; rfl
  have hmem := List.getElem_mem hlt
  have hBn : B * us[n - 1 - (i - D).toNat].nodes ≤ 1000000 * 1000000000 := Nat.mul_le_mul hB (hnd _ hmem)
  obtain ⟨l1, l2⟩ := lift_la (b := D + n - us.length) us[n - 1 - (i - D).toNat] 0 G (Tm.los_iff.1 hus _ hmem) (Tm.scs_iff.1 hsu _ hmem) (by omega)
  rw [← hst] at l1 l2
  have hslo := Tm.lo_eq.1 (standT_lo hus i n D)
  have hsb := Ty.sizes_len (standT us i n D).binds
  have hhead : (hdL k i).sub (ups D (putS (Tm.las us) n)) = (standT us i n D).la := by
   rw [hj, La.sub, hσ, if_neg (by omega)]
   unfold putS
   rw [hlas, if_neg (by omega), if_pos (by omega), show n - 1 - (i.toNat - D) = n - 1 - (i - D).toNat from by omega, las_getD hlt, La.ren_ren, l1]
   exact La.ren_ext _ fun j => by unfold rise; rw [if_neg (by omega)]; omega
  rw [hhead]
  generalize standT us i n D = st at *
  have l2 := Tm.sc_eq.1 l2
  have hto2 : r.1.count ≤ 100000 := hto.most hm1
  have hnest := body_conv hB f r.1 st.kind st.index st.args r.2 st.binds.length 0 (D + (n - us.length) + G) hto2 hslo.2.1.1 hslo.2.1.2 hslo.1.2 hslo.2.2 q2 (by omega) (by omega) (fun t ht => by
   have h1 := Tm.nodess_mem ht
   omega) (fun h => by have := l2.1 h; omega) (by rw [show 0 + st.binds.length + (D + (n - us.length) + G) = G + (D + n - us.length) + st.binds.length from by omega]; exact l2.2) c2 (by omega) he
  rw [show 0 + (st.binds.length - r.2.length) + (D + (n - us.length) + G) = D + (n - us.length) + G from by omega] at hnest
  refine ⟨?_, hnest.2⟩
  refine Conv.trans (Conv.apps c1 (.refl _)) ?_
  rw [Tm.la_eq st]
  refine Conv.trans (beta_many _ _ _ (by rw [las_len]; omega)) ?_
  rw [las_len, ← h6, List.drop_length, ← Tm.las_eq]
  show Conv (La.sub _ _) _
  refine Conv.trans (.of_eq (La.sub_ext _ fun j => ?_)) hnest.1
  exact (ups_zero _ _).symm
theorem put_conv {B : Nat} (hB : B ≤ 1000000) {f : Nat} {m : Mt} {t : Tm} {us : List Tm} {G : Nat} (hm : m.count ≤ 100000) (ht : t.Lo B) (hus : Tm.Los B us) (hnd : ∀ t ∈ us, t.nodes ≤ 1000000000) (hst : t.Sc G) (hsu : Tm.Scs G us) (hK : G + B + B * f ≤ 4000000000000000000)
  (he : (putT f m t us).1.err = 0) : Conv (apps t.la (Tm.las us)) (putT f m t us).2.la ∧ (putT f m t us).2.Sc G := by
 have hlo := Tm.lo_eq.1 ht
 have hsc := Tm.sc_eq.1 hst
 have hbl := Ty.sizes_len t.binds
 unfold putT at he ⊢
 split at he
 ·rename_i h; exact (h he).elim
 rename_i h
 rw [if_neg h]
 split at he
 ·cases he
 rename_i h2
 rw [if_neg h2]
 have hf := bodyT_form (B := B) f m t.kind t.index t.args us t.binds.length 0 hlo.2.1.1 hlo.2.1.2 hlo.1.2 hlo.2.2 hus (by omega) he
 have hb := body_conv hB f m t.kind t.index t.args us t.binds.length 0 G hm hlo.2.1.1 hlo.2.1.2 hlo.1.2 hlo.2.2 hus (by omega) (by omega) hnd (fun h => by have := hsc.1 h; omega) (by rw [show 0 + t.binds.length + G = G + t.binds.length from by omega]; exact hsc.2) hsu (by omega) he
 generalize bodyT f m t.kind t.index t.args us t.binds.length 0 = Q at hf hb
 obtain ⟨qm, rb, rk, ri, ra⟩ := Q
 obtain ⟨hb1, hb2⟩ := hb
 have hrb : rb = [] := hf.2
 subst hrb
 constructor
 ·rw [Tm.la_eq t]
  refine Conv.trans (beta_many _ _ _ (by rw [las_len]; omega)) ?_
  rw [las_len, ← Tm.las_eq]
  show Conv _ (lams (t.binds.drop us.length) (apps (hdL rk ri) (Tm.las ra)))
  refine Conv.lams ?_ _
  refine Conv.trans (.of_eq (La.sub_ext _ fun j => ?_)) hb1
  exact (ups_zero _ _).symm
 ·have hb2 := Tm.sc_eq.1 hb2
  refine Tm.sc_eq.2 ?_
  simp only [Tm.binds_mk, Tm.kind_mk, Tm.index_mk, Tm.args_mk, List.length_nil, Nat.add_zero, List.length_drop, Nat.zero_add] at hb2 ⊢
  rw [show G + (t.binds.length - us.length) = t.binds.length - us.length + G from by omega]
  exact hb2
mutual
theorem Tm.la_nf : ∀ (t : Tm), t.la.nf
 | .mk bs k i l => by
  rw [Tm.la]
  refine lams_nf (apps_nf _ _ ?_ ?_ (Tm.las_nf l)) _
  ·unfold hdL; split <;> rfl
  ·unfold hdL; split <;> exact True.intro
theorem Tm.las_nf : ∀ (l : List Tm), ∀ a ∈ Tm.las l, La.nf a
 | [], a, h => by cases h
 | t :: l, a, h => by
  rw [Tm.las] at h
  rcases List.mem_cons.1 h with rfl | h
  ·exact Tm.la_nf t
  ·exact Tm.las_nf l a h
end
theorem apps_snoc (h : La) (l : List La) (a : La) : apps h (l ++ [a]) = .app (apps h l) a := by rw [apps, List.foldl_append]; rfl
theorem hdL_app {k i : Int} {f a : La} (h : hdL k i = .app f a) : False := by
 unfold hdL at h
 split at h <;> cases h
theorem hdL_lam {k i : Int} {t : Ty} {b : La} (h : hdL k i = .lam t b) : False := by
 unfold hdL at h
 split at h <;> cases h
theorem apps_inj {k i k' i' : Int} (h0 : k = 0 → 0 ≤ i) (h0' : k' = 0 → 0 ≤ i') : ∀ (l m : List La), apps (hdL k i) l.reverse = apps (hdL k' i') m.reverse → (k = k' ∧ i = i') ∧ l = m
 | [], [], h => by
  refine ⟨?_, rfl⟩
  have h : hdL k i = hdL k' i' := h
  unfold hdL at h
  split at h
  ·rename_i hk
   split at h
   ·rename_i hk'
    have := h0 hk
    have := h0' hk'
    have h := La.var.inj h
    exact ⟨by omega, by omega⟩
   ·cases h
  ·split at h
   ·cases h
   ·exact ⟨(La.con.inj h).1, (La.con.inj h).2⟩
 | a :: l, [], h => by
  rw [List.reverse_cons, apps_snoc] at h
  exact (hdL_app h.symm).elim
 | [], b :: m, h => by
  rw [List.reverse_cons, apps_snoc] at h
  exact (hdL_app h).elim
 | a :: l, b :: m, h => by
  rw [List.reverse_cons, List.reverse_cons, apps_snoc, apps_snoc] at h
  obtain ⟨h1, h2⟩ := La.app.inj h
  obtain ⟨g1, g2⟩ := apps_inj h0 h0' l m h1
  exact ⟨g1, by rw [g2, h2]⟩
theorem apps_inj' {k i k' i' : Int} (h0 : k = 0 → 0 ≤ i) (h0' : k' = 0 → 0 ≤ i') {l m : List La} (h : apps (hdL k i) l = apps (hdL k' i') m) : (k = k' ∧ i = i') ∧ l = m := by
 have := apps_inj h0 h0' l.reverse m.reverse (by rw [List.reverse_reverse, List.reverse_reverse]; exact h)
 exact ⟨this.1, by rw [← List.reverse_reverse l, this.2, List.reverse_reverse]⟩
theorem apps_lamR {k i : Int} {t : Ty} {b : La} : ∀ (l : List La), apps (hdL k i) l.reverse = .lam t b → False
 | [], h => hdL_lam h
 | a :: l, h => by
  rw [List.reverse_cons, apps_snoc] at h
  cases h
theorem apps_lam {k i : Int} (l : List La) {t : Ty} {b : La} (h : apps (hdL k i) l = .lam t b) : False := apps_lamR l.reverse (by rw [List.reverse_reverse]; exact h)
theorem lams_inj {k i k' i' : Int} {l m : List La} : ∀ (bs cs : List Ty), lams bs (apps (hdL k i) l) = lams cs (apps (hdL k' i') m) → bs = cs ∧ apps (hdL k i) l = apps (hdL k' i') m
 | [], [], h => ⟨rfl, h⟩
 | t :: bs, [], h => (apps_lam m h.symm).elim
 | [], t :: cs, h => (apps_lam l h).elim
 | t :: bs, u :: cs, h => by
  obtain ⟨h1, h2⟩ := La.lam.inj h
  obtain ⟨g1, g2⟩ := lams_inj bs cs h2
  exact ⟨by rw [h1, g1], g2⟩
mutual
theorem Tm.la_inj : ∀ (t u : Tm) (N M : Nat), t.Sc N → u.Sc M → t.la = u.la → t = u
 | .mk bs k i l, .mk cs k' i' m, N, M, hs, hs', h => by
  rw [Tm.la, Tm.la] at h
  obtain ⟨h1, h2⟩ := lams_inj _ _ h
  obtain ⟨⟨h3, h4⟩, h5⟩ := apps_inj' (fun hk => (hs.1 hk).1) (fun hk => (hs'.1 hk).1) h2
  rw [h1, h3, h4, Tm.las_inj l m _ _ hs.2 hs'.2 h5]
theorem Tm.las_inj : ∀ (l m : List Tm) (N M : Nat), Tm.Scs N l → Tm.Scs M m → Tm.las l = Tm.las m → l = m
 | [], [], _, _, _, _, _ => rfl
 | [], _ :: _, _, _, _, _, h => by simp [Tm.las] at h
 | _ :: _, [], _, _, _, _, h => by simp [Tm.las] at h
 | t :: l, u :: m, N, M, hs, hs', h => by
  rw [Tm.las, Tm.las] at h
  obtain ⟨h1, h2⟩ := List.cons.inj h
  rw [Tm.la_inj t u N M hs.1 hs'.1 h1, Tm.las_inj l m N M hs.2 hs'.2 h2]
end
theorem form_eq {t u : Tm} {N M : Nat} (ht : t.Sc N) (hu : u.Sc M) (h : Conv t.la u.la) : t = u := Tm.la_inj t u N M ht hu (h.nf t.la_nf u.la_nf)
end Go.Proofs.YtghlgbhldnkdmaaGreat

namespace Go.Proofs.YtghlgbhldnkdmaaGreat
open Go
set_option linter.unusedSimpArgs false
set_option linter.unusedVariables false
mutual
def Tm.Is (c m : List Ty) : List Ty → Tm → Ty → Prop
 | x, .mk bs k i l, of => bs = of.args ∧ ∃ h, headTy c m (x ++ bs) k i = some h ∧ h.base = of.base ∧ Tm.IsL c m (x ++ bs) l h.args
def Tm.IsL (c m : List Ty) : List Ty → List Tm → List Ty → Prop
 | _, [], [] => True
 | x, t :: l, u :: us => Tm.Is c m x t u ∧ Tm.IsL c m x l us
 | _, _, _ => False
end
theorem Tm.is_eq {c m x : List Ty} {t : Tm} {of : Ty} : t.Is c m x of ↔ t.binds = of.args ∧ ∃ h, headTy c m (x ++ t.binds) t.kind t.index = some h ∧ h.base = of.base ∧ Tm.IsL c m (x ++ t.binds) t.args h.args := by cases t; exact Iff.rfl
mutual
theorem Tm.is_iff (c m : List Ty) : ∀ (t : Tm) (x : List Ty) (of : Ty), t.isB c m x of = true ↔ t.Is c m x of
 | .mk bs k i l, x, of => by
  rw [Tm.isB, Tm.Is, Bool.and_eq_true, Ty.sames_iff]
  refine and_congr_right fun _ => ?_
  cases headTy c m (x ++ bs) k i with
  | none => exact ⟨fun h => (by cases h), fun ⟨_, h, _⟩ => (by cases h)⟩
  | some u =>
   dsimp only
   rw [Bool.and_eq_true, Bool.and_eq_true, beq_iff_eq, beq_iff_eq]
   refine ⟨fun ⟨h1, h2, h3⟩ => ⟨u, rfl, h1, (Tm.isL_iff c m l _ _).1 ⟨h2.symm, h3⟩⟩, fun ⟨u', h1, h2, h3⟩ => ?_⟩
   cases Option.some.inj h1
   obtain ⟨g1, g2⟩ := (Tm.isL_iff c m l _ _).2 h3
   exact ⟨h2, g1.symm, g2⟩
theorem Tm.isL_iff (c m : List Ty) : ∀ (l : List Tm) (x us : List Ty), (l.length = us.length ∧ Tm.isBs c m x l us = true) ↔ Tm.IsL c m x l us
 | [], x, [] => by simp [Tm.isBs, Tm.IsL]
 | [], x, u :: us => by simp [Tm.IsL]
 | t :: l, x, [] => by simp [Tm.IsL]
 | t :: l, x, u :: us => by
  rw [Tm.isBs, Tm.IsL, Bool.and_eq_true, Tm.is_iff c m t, ← Tm.isL_iff c m l, List.length_cons, List.length_cons]
  exact ⟨fun ⟨h1, h2, h3⟩ => ⟨h2, by omega, h3⟩, fun ⟨h1, h2, h3⟩ => ⟨by omega, h1, h3⟩⟩
end
theorem Tm.isL_len {c m : List Ty} : ∀ {l : List Tm} {x us : List Ty}, Tm.IsL c m x l us → l.length = us.length := fun {l x us} h => ((Tm.isL_iff c m l x us).2 h).1
theorem headTy_nat (c m x : List Ty) (i : Nat) : headTy c m x 0 (i : Int) = if i < x.length then x[x.length - 1 - i]? else none := by
 unfold headTy
 rw [if_neg (by omega), if_pos rfl, Int.toNat_natCast]
 by_cases h : i < x.length
 ·rw [if_pos h, if_pos (by omega)]
 ·rw [if_neg h, if_neg (by omega)]
theorem headTy_app (c m x bs : List Ty) (i : Nat) : headTy c m (x ++ bs) 0 (i : Int) = if i < bs.length then headTy c m bs 0 i else headTy c m x 0 ((i - bs.length : Nat) : Int) := by
 rw [headTy_nat, headTy_nat, headTy_nat, List.length_append]
 by_cases h : i < bs.length
 ·rw [if_pos h, if_pos h, if_pos (by omega), List.getElem?_append_right (by omega)]
  congr 1; omega
 ·rw [if_neg h]
  by_cases h2 : i - bs.length < x.length
  ·rw [if_pos h2, if_pos (by omega), List.getElem?_append_left (by omega)]
   congr 1; omega
  ·rw [if_neg h2, if_neg (by omega)]
theorem headTy_var {c m x : List Ty} {i : Int} {u : Ty} (h : headTy c m x 0 i = some u) : 0 ≤ i ∧ i.toNat < x.length ∧ x[x.length - 1 - i.toNat]? = some u := by
 unfold headTy at h
 split at h
 ·cases h
 ·rw [if_pos rfl] at h
  split at h
  ·exact ⟨by omega, by omega, h⟩
  ·cases h
theorem headTy_far {c m x y : List Ty} {k i : Int} (hk : k ≠ 0) : headTy c m x k i = headTy c m y k i := by
 unfold headTy
 rw [if_neg hk, if_neg hk]
mutual
def etaL : Ty → La → La
 | .mk l _, u => lams l (apps (u.ren (· + l.length)) (etasL l.length 0 l))
def etasL (n : Nat) : Nat → List Ty → List La
 | _, [] => []
 | j, t :: r => etaL t (.var (n - 1 - j)) :: etasL n (j + 1) r
end
theorem eta_eq (t : Ty) (u : La) : etaL t u = lams t.args (apps (u.ren (· + t.args.length)) (etasL t.args.length 0 t.args)) := by cases t; rw [etaL]; rfl
theorem etas_len (n : Nat) : ∀ (l : List Ty) (j : Nat), (etasL n j l).length = l.length
 | [], _ => rfl
 | t :: l, j => by rw [etasL, List.length_cons, List.length_cons, etas_len n l]
theorem etas_get (n : Nat) : ∀ (l : List Ty) (j k : Nat) (h : k < l.length) (d : La), (etasL n j l).getD k d = etaL l[k] (.var (n - 1 - (j + k)))
 | t :: l, j, 0, _, d => by rw [etasL]; rfl
 | t :: l, j, k + 1, h, d => by
  rw [etasL, List.getD_cons_succ, etas_get n l (j + 1) k (by simpa using h), List.getElem_cons_succ, show j + 1 + k = j + (k + 1) by omega]
mutual
theorem eta_sub : ∀ (t : Ty) (u : La) (σ : Nat → La), (etaL t u).sub σ = etaL t (u.sub σ)
 | .mk l b, u, σ => by
  rw [etaL, etaL, lams_sub, apps_sub, etas_sub l l.length 0 _ (fun i hi => by unfold ups; rw [if_pos hi]) (by omega), La.sub_ren, La.ren_sub]
  congr 2
  refine La.sub_ext u fun i => ?_
  unfold ups
  rw [if_neg (by omega), show i + l.length - l.length = i from by omega]
theorem etas_sub : ∀ (l : List Ty) (n j : Nat) (σ : Nat → La), (∀ i, i < n → σ i = .var i) → j + l.length ≤ n → (etasL n j l).map (·.sub σ) = etasL n j l
 | [], n, j, σ, _, _ => rfl
 | t :: l, n, j, σ, h, hj => by
  rw [List.length_cons] at hj
  rw [etasL, List.map_cons, eta_sub t, etas_sub l n (j + 1) σ h (by omega), La.sub, h _ (by omega)]
end
theorem eta_ren (t : Ty) (u : La) (ρ : Nat → Nat) : (etaL t u).ren ρ = etaL t (u.ren ρ) := by rw [La.ren_eq, eta_sub, La.ren_eq]
mutual
theorem etaT_la : ∀ (t : Ty) (k i : Int), (k = 0 → 0 ≤ i ∧ i < 4000000000000000000) → t.size ≤ 4000000000000000000 → (etaT k i t).la = etaL t (hdL k i)
 | .mk l b, k, i, h0, hs => by
  have hl := Ty.sizes_len l
  rw [Ty.size] at hs
  rw [etaT, Tm.la, etaL, etaTs_la l l.length 0 (by omega) (by omega) (by omega)]
  congr 2
  rw [hdL_ren]
  unfold hdL
  by_cases hk : k = 0
  ·have := h0 hk
   rw [if_pos hk, if_pos hk, if_pos hk, wrap_i (by omega) (by omega)]
   congr 1; omega
  ·rw [if_neg hk, if_neg hk, if_neg hk]
theorem etaTs_la : ∀ (l : List Ty) (n j : Nat), j + l.length ≤ n → n ≤ 4000000000000000000 → Ty.sizes l ≤ 4000000000000000000 → Tm.las (etaTs n j l) = etasL n j l
 | [], n, j, _, _, _ => rfl
 | t :: l, n, j, hj, hn, hs => by
  rw [List.length_cons] at hj
  rw [Ty.sizes] at hs
  rw [etaTs, Tm.las, etasL, etaT_la t 0 _ (fun _ => ⟨by omega, by omega⟩) (by omega), etaTs_la l n (j + 1) (by omega) (by omega) (by omega)]
  congr 2
  unfold hdL
  rw [if_pos rfl]
  congr 1; omega
end
def zipE : List Ty → List La → List La
 | t :: l, u :: us => etaL t u :: zipE l us
 | _, _ => []
theorem etas_put (us : List La) : ∀ (l : List Ty) (j : Nat), j + l.length = us.length → (etasL us.length j l).map (·.sub (putS us us.length)) = zipE l (us.drop j)
 | [], j, h => by rw [etasL, zipE]; rfl; intro _ _ _ _ h; cases h
 | t :: l, j, h => by
  rw [List.length_cons] at h
  rw [etasL, List.map_cons, etas_put us l (j + 1) (by omega), List.drop_eq_getElem_cons (show j < us.length by omega), zipE, eta_sub, La.sub]
  congr 2
  unfold putS
  rw [if_neg (by omega), if_pos (by omega), show us.length - 1 - (us.length - 1 - j) = j from by omega, List.getD_eq_getElem?_getD, List.getElem?_eq_getElem (show j < us.length by omega)]
  exact La.ren_id _ fun i => by omega
def KeyP (c m : List Ty) (s : Nat) : Prop := ∀ (B : Ty), B.size < s → ∀ (x : List Ty) (t : Tm), t.Is c m x B → Conv (etaL B t.la) t.la
theorem zip_conv {c m : List Ty} {s : Nat} (hK : KeyP c m s) (ρ : Nat → Nat) (x : List Ty) : ∀ (l : List Tm) (us : List Ty), Tm.IsL c m x l us → (∀ u ∈ us, u.size < s) → ConvL (zipE us ((Tm.las l).map (·.ren ρ))) ((Tm.las l).map (·.ren ρ))
 | [], [], _, _ => .nil
 | t :: l, u :: us, h, hu => by
  rw [Tm.las, List.map_cons, zipE]
  refine .cons ?_ (zip_conv hK ρ x l us h.2 fun v hv => hu v (List.mem_cons_of_mem _ hv))
  rw [← eta_ren]
  exact (hK u (hu u List.mem_cons_self) x t h.1).ren ρ
 | [], _ :: _, h, _ => h.elim
 | _ :: _, [], h, _ => h.elim
def EtaV (c m : List Ty) (s : Nat) (x : List Ty) (σ : Nat → La) (ρ : Nat → Nat) : Prop := ∀ (i : Nat) (A : Ty), headTy c m x 0 (i : Int) = some A → σ i = .var (ρ i) ∨ A.size ≤ s ∧ σ i = etaL A (.var (ρ i))
theorem EtaV.up {c m : List Ty} {s : Nat} {x : List Ty} {σ : Nat → La} {ρ : Nat → Nat} (h : EtaV c m s x σ ρ) (bs : List Ty) : EtaV c m s (x ++ bs) (ups bs.length σ) (upRs bs.length ρ) := by
 intro i A hA
 rw [headTy_app] at hA
 unfold ups upRs
 split at hA
 ·rename_i hi
  rw [if_pos hi, if_pos hi]; exact .inl rfl
 ·rename_i hi
  rw [if_neg hi, if_neg hi]
  rcases h _ _ hA with h | ⟨h1, h2⟩
  ·rw [h]; exact .inl rfl
  ·rw [h2, eta_ren]; exact .inr ⟨h1, rfl⟩
mutual
theorem eta_vars {c m : List Ty} {s : Nat} (hK : KeyP c m s) : ∀ (t : Tm) (x : List Ty) (of : Ty) (σ : Nat → La) (ρ : Nat → Nat), t.Is c m x of → EtaV c m s x σ ρ → Conv (t.la.sub σ) (t.la.ren ρ)
 | .mk bs k i l, x, of, σ, ρ, ht, hσ => by
  obtain ⟨h1, u, h2, h3, h4⟩ := ht
  rw [Tm.la, lams_sub, lams_ren, apps_sub, apps_ren]
  refine Conv.lams ?_ bs
  have hup := hσ.up bs
  have hl := eta_varsL hK l (x ++ bs) u.args _ _ h4 hup
  have hlen := Tm.isL_len h4
  generalize ups bs.length σ = σ' at hup hl
  generalize upRs bs.length ρ = ρ' at hup hl
  by_cases hk : k = 0
  ·subst hk
   have hi := headTy_var h2
   rw [show i = ((i.toNat : Nat) : Int) from by omega] at h2
   have hh : hdL 0 i = .var i.toNat := by unfold hdL; rw [if_pos rfl]
   rw [hh]
   rcases hup _ _ h2 with h | ⟨h5, h⟩
   ·exact Conv.apps hl (.of_eq h)
   ·show Conv (apps (σ' i.toNat) _) (apps (.var (ρ' i.toNat)) _)
    rw [h]
    refine (Conv.apps hl (.refl _)).trans ?_
    have hz := zip_conv hK ρ' (x ++ bs) l u.args h4 (fun v hv => by
     have := Ty.sizes_mem hv
     have := u.size_eq
     omega)
    have hn : ((Tm.las l).map (·.ren ρ')).length = u.args.length := by rw [List.length_map, las_len, hlen]
    generalize (Tm.las l).map (·.ren ρ') = us at hz hn
    rw [eta_eq]
    refine (beta_many us u.args _ (by omega)).trans ?_
    rw [← hn, hn, List.drop_length, apps_sub, ← hn, etas_put us u.args 0 (by omega), List.drop_zero]
    refine Conv.apps hz (.of_eq ?_)
    show putS us us.length (ρ' i.toNat + us.length) = _
    unfold putS
    rw [if_neg (by omega), if_neg (by omega)]
    congr 1; omega
  ·have hh : hdL k i = .con k i := by unfold hdL; rw [if_neg hk]
   rw [hh]
   exact Conv.apps hl (.refl _)
theorem eta_varsL {c m : List Ty} {s : Nat} (hK : KeyP c m s) : ∀ (l : List Tm) (x us : List Ty) (σ : Nat → La) (ρ : Nat → Nat), Tm.IsL c m x l us → EtaV c m s x σ ρ → ConvL ((Tm.las l).map (·.sub σ)) ((Tm.las l).map (·.ren ρ))
 | [], x, [], σ, ρ, _, _ => .nil
 | t :: l, x, u :: us, σ, ρ, h, hσ => by
  rw [Tm.las, List.map_cons, List.map_cons]
  exact .cons (eta_vars hK t x u σ ρ h.1 hσ) (eta_varsL hK l x us σ ρ h.2 hσ)
 | [], _, _ :: _, _, _, h, _ => h.elim
 | _ :: _, _, [], _, _, h, _ => h.elim
end
theorem key_lemma (c m : List Ty) : ∀ (s : Nat), KeyP c m s
 | 0 => fun B h => (by omega)
 | s + 1 => by
  intro B hB x t ht
  have hK := key_lemma c m s
  obtain ⟨bs, k, i, l⟩ := t
  obtain ⟨h1, u, h2, h3, h4⟩ := ht
  subst h1
  have hBs := B.size_eq
  rw [Tm.la, eta_eq, lams_ren]
  generalize hbs : B.args = bs at *
  refine Conv.lams ?_ bs
  refine (beta_many _ bs _ (by rw [etas_len]; omega)).trans ?_
  rw [etas_len, List.drop_length, La.sub_ren]
  have hb : Tm.Is c m (x ++ bs) (.mk [] k i l) (.mk [] u.base) := ⟨rfl, u, by rw [List.append_nil]; exact h2, rfl, by rw [List.append_nil]; exact h4⟩
  have := eta_vars hK (.mk [] k i l) (x ++ bs) _ (fun j => putS (etasL bs.length 0 bs) bs.length (upRs bs.length (· + bs.length) j)) id hb (fun j A hA => by
   rw [headTy_app] at hA
   show putS (etasL bs.length 0 bs) bs.length (upRs bs.length (· + bs.length) j) = La.var j ∨ _ ∧ putS (etasL bs.length 0 bs) bs.length (upRs bs.length (· + bs.length) j) = etaL A (.var j)
   split at hA
   ·rename_i hj
    have e : upRs bs.length (· + bs.length) j = j := by unfold upRs; rw [if_pos hj]
    rw [e]
    unfold putS
    rw [etas_len]
    obtain ⟨_, g2, g3⟩ := headTy_var hA
    rw [Int.toNat_natCast] at g2 g3
    rw [List.getElem?_eq_getElem (by omega)] at g3
    have g3 := Option.some.inj g3
    have := Ty.sizes_mem (List.getElem_mem (show bs.length - 1 - j < bs.length by omega))
    refine .inr ⟨by rw [← g3]; omega, ?_⟩
    rw [if_neg (by omega), if_pos hj, etas_get _ _ _ _ (by omega), g3, eta_ren]
    congr 1
    show La.var (bs.length - 1 - (0 + (bs.length - 1 - j)) + (bs.length - bs.length)) = La.var j
    congr 1; omega
   ·rename_i hj
    refine .inl ?_
    have e : upRs bs.length (· + bs.length) j = j + bs.length := by unfold upRs; rw [if_neg hj]; show j - bs.length + bs.length + bs.length = _; omega
    rw [e]
    have hl := etas_len bs.length bs 0
    unfold putS
    rw [if_neg (by omega), if_neg (by omega)]
    congr 1; omega)
  rw [Tm.la, La.ren_id (ρ := id) _ (fun _ => rfl)] at this
  exact this
theorem eta_put {c m x : List Ty} {t : Tm} {of : Ty} {σ : Nat → La} {ρ : Nat → Nat} (h : t.Is c m x of) (hσ : ∀ (i : Nat) (A : Ty), headTy c m x 0 (i : Int) = some A → σ i = .var (ρ i) ∨ σ i = etaL A (.var (ρ i))) (hs : ∃ s, ∀ t ∈ x, t.size ≤ s) : Conv (t.la.sub σ) (t.la.ren ρ) := by
 obtain ⟨s, hs⟩ := hs
 refine eta_vars (key_lemma c m s) t x of σ ρ h fun i A hA => (hσ i A hA).imp id fun g => ⟨hs _ ?_, g⟩
 exact List.mem_of_getElem? (headTy_var hA).2.2
end Go.Proofs.YtghlgbhldnkdmaaGreat
