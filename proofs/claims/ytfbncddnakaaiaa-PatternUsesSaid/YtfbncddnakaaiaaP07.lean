/- Contracts: Take; the chapter's examples; PatternSame. -/
import Derived.Test.YtfbncddnakaaiaaP06
import Derived.KernelRfl
namespace Go.Proofs.Ytfbncddnakaaiaa
open Go
set_option linter.unusedSimpArgs false
set_option linter.unusedVariables false

def Tm.take (t : Tm) (b : List Ty) (l : List Int) : Tm × Int :=
  if mayB b.length l = true then (if Tm.clash b.length l 0 t = true then (.mk [] 0 0 [], 9) else (.mk (typesOf b l ++ t.binds) t.kind (Tm.taken b.length l 0 t).index (Tm.taken b.length l 0 t).args, 0)) else (.mk [] 0 0 [], 1)
def takeAV (p : Tm × Int) : AV := .tup [p.1.enc, nI p.2]

theorem Tm.taken_binds (n : Int) (l : List Int) (a : Nat) (t : Tm) : (Tm.taken n l a t).binds = t.binds := by rw [Tm.taken_eq]; rfl
theorem Tm.taken_kind (n : Int) (l : List Int) (a : Nat) (t : Tm) : (Tm.taken n l a t).kind = t.kind := by rw [Tm.taken_eq]; rfl

theorem takeIx_bd {n : Nat} {l : List Int} (hn : n ≤ 1000000000) (hl : l.length ≤ n) (i : Int) (hi : 0 ≤ i) : -1000000000 ≤ takeIx n l i ∧ takeIx n l i ≤ i + 1000000000 ∧ (n ≤ i → takeIx n l i ≤ i) ∧ (i < n → takeIx n l i ≤ 1000000000) := by
  unfold takeIx
  have hlp : ((posN l i).getD 0) ≤ l.length := by
    cases hq : posN l i with
    | none => simp
    | some k => have := posN_lt hq; simp; omega
  split <;> refine ⟨by omega, by omega, fun _ => by omega, fun _ => by omega⟩

theorem Tm.taken_ok {n : Nat} {l : List Int} (hn : n ≤ 1000000000) (hl : l.length ≤ n) : ∀ (d : Nat) (t : Tm) (a : Nat), t.size ≤ d → t.Ok → a + t.size ≤ 2000000000 → (Tm.taken n l a t).Ok ∧ (Tm.taken n l a t).size = t.size := by
  intro d
  induction d with
  | zero => intro t a h; have := t.size_pos; omega
  | succ d ih =>
    intro t a hd hk ha
    obtain ⟨h1, h2, h3⟩ := Tm.ok_eq hk
    have hts := t.size_eq
    have hlb := Ty.sizes_len t.binds
    have key : ∀ x ∈ t.args, (Tm.taken n l (a + t.binds.length) x).Ok ∧ (Tm.taken n l (a + t.binds.length) x).size = x.size := fun x hx => by
      have := Tm.sizes_mem hx
      exact ih x _ (by omega) (Tm.Oks_mem h3 hx) (by omega)
    have hsz : ∀ ts : List Tm, (∀ x ∈ ts, (Tm.taken n l (a + t.binds.length) x).size = x.size) → Tm.sizes (ts.map (Tm.taken n l (a + t.binds.length))) = Tm.sizes ts := by
      intro ts
      induction ts with
      | nil => intro _; rfl
      | cons x ts ih2 => intro h; simp only [List.map_cons, Tm.sizes]; rw [h x List.mem_cons_self, ih2 fun y hy => h y (List.mem_cons_of_mem _ hy)]
    rw [Tm.taken_eq]
    refine ⟨⟨h1, ?_, Tm.Oks_of fun x hx => ?_⟩, ?_⟩
    · split
      · rename_i hif
        have := takeIx_bd hn hl (t.index - ((a + t.binds.length : Nat) : Int)) (by omega)
        unfold I64 at h2 ⊢
        omega
      · exact h2
    · obtain ⟨y, hy, rfl⟩ := List.mem_map.1 hx
      exact (key y hy).1
    · rw [Tm.size, hsz _ fun x hx => (key x hx).2, hts]

theorem typesOf_sizes {b : List Ty} {l : List Int} (hm : ∀ v ∈ l, 0 ≤ v ∧ v < b.length) : Ty.sizes (typesOf b l) ≤ l.length * Ty.sizes b := by
  induction l with
  | nil => simp [typesOf, Ty.sizes]
  | cons v l ih =>
    have h1 := ih fun u hu => hm u (List.mem_cons_of_mem _ hu)
    have h2 := hm v List.mem_cons_self
    have h3 : (b.getD (b.length - 1 - v.toNat) (.mk [] 0)).size ≤ Ty.sizes b := by
      have hlt : b.length - 1 - v.toNat < b.length := by omega
      simp only [List.getD, List.getElem?_eq_getElem hlt, Option.getD_some]
      exact Ty.sizes_mem (List.getElem_mem hlt)
    simp only [typesOf, List.map_cons, Ty.sizes, List.length_cons, Nat.succ_mul] at h1 ⊢
    omega

theorem nodup_len : ∀ (n : Nat) (l : List Int), l.Nodup → (∀ v ∈ l, 0 ≤ v ∧ v < n) → l.length ≤ n := by
  intro n
  induction n with
  | zero =>
    intro l _ h
    cases l with
    | nil => simp
    | cons v l => have := h v List.mem_cons_self; omega
  | succ n ih =>
    intro l hn h
    by_cases hm : (n : Int) ∈ l
    · have h1 := ih (l.erase (n : Int)) (hn.erase _) (fun v hv => by
        have h2 := h v (List.mem_of_mem_erase hv)
        have h3 : v ≠ (n : Int) := fun e => by rw [e] at hv; exact hn.not_mem_erase hv
        omega)
      rw [List.length_erase_of_mem hm] at h1
      omega
    · have h1 := ih l hn (fun v hv => by
        have h2 := h v hv
        have h3 : v ≠ (n : Int) := fun e => by rw [e] at hv; exact hm hv
        omega)
      omega

theorem Take_calls {t : Tm} {b : List Ty} {l : List Int} (ht : t.size ≤ 100000000) (hk : t.Ok) (hb : b.length ≤ 100000000) (hl : l.length ≤ 100000000) (hlb : l.length * Ty.sizes b ≤ 100000000) :
    PureIs Try.prog 16 [t.enc, .sl (b.map Ty.enc), .sl (encInts l)] (takeAV (t.take b l)) := by
  have hpl := places_calls (n := (b.length : Int)) (l := l) (by omega)
  have he := Tm.enc_eq t
  rw [he]
  refine vc16_ok ?_
  unfold vc16
  rw [List.length_map, encInts_len]
  refine ⟨_, hpl, ?_⟩
  rintro r (⟨hm, es, hes, rfl⟩ | ⟨hm, rfl⟩)
  · left
    have hm' := mayB_iff.1 hm
    have hll : l.length ≤ b.length := nodup_len _ _ hm'.1 hm'.2
    refine ⟨_, rfl, ?_⟩
    have htc := turned_calls (u := t) (n := b.length) hes (by omega) hll _ t 0 0 (Nat.le_refl _) (by omega) hk (by omega)
    rw [he] at htc
    refine ⟨_, htc, ?_⟩
    rintro r q ⟨rfl, rfl⟩
    rw [Tm.enc_eq (Tm.taken _ _ _ _)]
    refine ⟨_, _, _, _, _, _, _, _, _, _, _, _, ⟨rfl, rfl⟩, ?_⟩
    rw [Tm.take, if_pos hm]
    by_cases hc : Tm.clash b.length l 0 t = true
    · rw [if_pos hc, if_pos hc]
      refine ITE.pos rfl ?_
      rw [takeAV, Tm.enc_mk]; rfl
    · rw [if_neg hc, if_neg hc]
      refine ITE.neg rfl ⟨_, types_calls (by omega) (by omega) hm'.2, ?_⟩
      have hts := t.size_eq
      have htl := typesOf_sizes hm'.2
      have hlt := Ty.sizes_len (typesOf b l)
      have hlb2 := Ty.sizes_len t.binds
      have hcc := concat_calls (ll := [typesOf b l, t.binds]) (by simp) (by simp; omega)
      simp only [encRows, List.map_cons, List.map_nil, List.flatten_cons, List.flatten_nil, List.append_nil] at hcc
      have hok := Tm.taken_ok (n := b.length) (by omega) hll _ t 0 (Nat.le_refl _) hk (by omega)
      obtain ⟨k1, k2, k3⟩ := Tm.ok_eq hok.1
      have hsz := (Tm.taken b.length l 0 t).size_eq
      rw [hok.2, Tm.taken_binds] at hsz
      have hcp := copy_calls (t := .mk (typesOf b l ++ t.binds) t.kind (Tm.taken b.length l 0 t).index (Tm.taken b.length l 0 t).args) (by simp only [Tm.size, Ty.sizes_append]; omega) ⟨by rw [Tm.taken_kind] at k1; exact k1, k2, k3⟩
      rw [Tm.enc_mk, ← Tm.taken_kind (b.length : Int) l 0 t] at hcp
      exact ⟨_, hcc, _, _, _, _, hcp, by rw [takeAV, Tm.enc_mk, Tm.taken_kind]⟩
  · right
    refine ⟨rfl, ?_⟩
    rw [Tm.take, if_neg (by rw [hm]; simp), takeAV, Tm.enc_mk]; rfl

/-! ### The chapter's examples -/

theorem known1_calls (i : Int) : PureIs Try.prog 65 [nI i] (Tm.mk [] 0 i []).enc := by
  rw [Tm.enc_mk]; exact vc65_ok rfl

theorem known2_calls (l : List Tm) : HFn Try.prog 66 [.sl (l.map Tm.enc), .ptr 0 0] [.box [.sl [], nI 0]]
    (fun r h => r = (Tm.mk [.mk [] 0, .mk [] 0] 2 0 l).enc ∧ h = [.box [.sl [], nI 0]]) := by
  refine HFn.res (R := fun r h => r = .agg [.clip [.agg [.sl [], nI 0], .agg [.sl [], nI 0]], nI 2, nI 0, .sl (l.map Tm.enc)] ∧ h = [.box [.sl [], nI 0]]) (vc66_ok ⟨rfl, rfl⟩) ?_
  rintro r h ⟨rfl, rfl⟩
  refine ⟨_, ?_, rfl, rfl⟩
  rw [Tm.enc_mk]
  exact RepW.agg ⟨repW_clip _, RepW.refl _, RepW.refl _, RepW.refl _, True.intro⟩

theorem nilbox : ObjWL [.box [.prim (.slice none 0 0), nI 0]] [.box [.sl [], nI 0]] := ⟨⟨repW_nil, RepW.refl _, True.intro⟩, True.intro⟩

theorem known_calls : PureIs Try.prog 15 [] (nB true) := by
  have k0 := known1_calls 0
  have k1 := known1_calls 1
  have h1 := known2_calls [.mk [] 0 0 [], .mk [] 0 1 []]
  have h2 := known2_calls [.mk [] 0 0 [], .mk [] 0 0 []]
  have h3 := known2_calls []
  have h4 := known2_calls [.mk [.mk [] 0, .mk [] 0] 2 0 []]
  simp only [List.map_cons, List.map_nil, Tm.enc_mk, Ty.enc_mk] at k0 k1 h1 h2 h3 h4
  have clipw : ∀ l : List AV, RepWL [.clip l, .ptr 0 0] [.sl l, .ptr 0 0] := fun l => ⟨repW_clip l, RepW.refl _, True.intro⟩
  have nilw : RepWL [.prim (.slice none 0 0), .ptr 0 0] [.sl [], .ptr 0 0] := ⟨repW_nil, RepW.refl _, True.intro⟩
  have u1 := Uses_calls (t := .mk [.mk [] 0, .mk [] 0] 2 0 [.mk [] 0 0 [], .mk [] 0 1 []]) (by decide)
  have u2 := Is_calls (t := .mk [.mk [] 0, .mk [] 0] 2 0 [.mk [] 0 0 [], .mk [] 0 0 []]) (by decide)
  have u3 := Is_calls (t := .mk [.mk [] 0, .mk [] 0] 2 0 [.mk [.mk [] 0, .mk [] 0] 2 0 []]) (by decide)
  have tk := Take_calls (t := .mk [] 0 1 []) (b := [.mk [] 0, .mk [] 0]) (l := [1]) (by decide) ⟨by unfold I64; omega, by unfold I64; omega, True.intro⟩ (by decide) (by decide) (by decide)
  have e1 : Tm.uses [] [] (.mk [.mk [] 0, .mk [] 0] 2 0 [.mk [] 0 0 [], .mk [] 0 1 []]) = some [⟨0, [0, 1], [.mk [] 0, .mk [] 0], []⟩] := by kernel_rfl
  have e2 : (Tm.uses [] [] (.mk [.mk [] 0, .mk [] 0] 2 0 [.mk [] 0 0 [], .mk [] 0 0 []])).isSome = false := by kernel_rfl
  have e3 : (Tm.uses [] [] (.mk [.mk [] 0, .mk [] 0] 2 0 [.mk [.mk [] 0, .mk [] 0] 2 0 []])).isSome = false := by kernel_rfl
  have e4 : Tm.take (.mk [] 0 1 []) [.mk [] 0, .mk [] 0] [1] = (.mk [.mk [] 0] 0 0 [], 0) := by kernel_rfl
  rw [e1] at u1
  rw [e2] at u2
  rw [e3] at u3
  rw [e4] at tk
  simp only [usesAV, takeAV, Us.enc, encInts, List.map_cons, List.map_nil, Tm.enc_mk, Ty.enc_mk] at u1 u2 u3 tk
  have sm := same_calls (l := [0, 1]) (m := [0, 1]) (by decide)
  simp only [encInts, List.map_cons, List.map_nil] at sm
  refine vc15_ok ?_
  unfold vc15
  refine ⟨_, _, _, _, k0, _, _, _, _, k1, _, ((h1.argsW (clipw _)).objs nilbox), ?_⟩
  rintro r q ⟨rfl, rfl⟩
  refine ⟨_, _, _, _, _, _, ⟨rfl, rfl⟩, _, _, u1, _, _, _, _, k1, _, _, _, _, _, tk, ITE.pos rfl (ITE.pos rfl ⟨by omega, by decide, _, _, _, _, rfl, _, sm, ITE.pos rfl ?_⟩)⟩
  refine ⟨_, _, _, _, k0, _, _, _, _, k0, _, h2.argsW (clipw _), ?_⟩
  rintro r q ⟨rfl, rfl⟩
  refine ⟨_, _, _, _, _, _, ⟨rfl, rfl⟩, _, u2, ITE.pos rfl ⟨_, h3.argsW nilw, ?_⟩⟩
  rintro r q ⟨rfl, rfl⟩
  refine ⟨_, _, _, _, _, _, ⟨rfl, rfl⟩, _, h4.argsW (clipw _), ?_⟩
  rintro r q ⟨rfl, rfl⟩
  exact ⟨_, _, _, _, _, _, ⟨rfl, rfl⟩, _, u3, ITE.pos rfl (ITE.pos rfl (ITE.pos rfl rfl))⟩

/-! ### PatternSame -/

theorem PatternSame_calls (l m : List Int) : PureIs Try.prog 4 [.sl (encInts l), .sl (encInts m)] (nB true) := by
  have cut : ∀ l : List Int, (if 100 < ((List.length (encInts l) : Nat) : Int) then 100 else ((List.length (encInts l) : Nat) : Int)) = ((min l.length 100 : Nat) : Int) := by
    intro l
    rw [encInts_len]
    split <;> omega
  have tk : ∀ l : List Int, List.drop (Int.toNat 0) (List.take (Int.toNat ((min l.length 100 : Nat) : Int)) (encInts l)) = encInts (l.take 100) := by
    intro l
    rw [show Int.toNat 0 = 0 from rfl, List.drop_zero, Int.toNat_natCast, encInts, encInts, ← List.map_take]
    rcases Nat.le_total l.length 100 with h | h
    · rw [Nat.min_eq_left h, List.take_of_length_le (Nat.le_refl _), List.take_of_length_le h]
    · rw [Nat.min_eq_right h]
  refine vc4_ok ?_
  unfold vc4
  rw [cut, cut, tk, tk]
  have s1 := same_calls (l := l.take 100) (m := m.take 100) (by simp; omega)
  have s2 := like_calls (l := l.take 100) (m := m.take 100) (by simp; omega)
  have s3 := same_calls (l := l.take 100) (m := l.take 100) (by simp; omega)
  refine ⟨⟨by omega, by omega, by rw [encInts_len]; omega, encInts_cells⟩, ⟨by omega, by omega, by rw [encInts_len]; omega, encInts_cells⟩, _, known_calls, ITE.pos rfl ⟨_, s1, _, s2, ITE.pos (by simp) ⟨_, s3, ?_⟩⟩⟩
  rw [likes_eq]; simp

end Go.Proofs.Ytfbncddnakaaiaa
