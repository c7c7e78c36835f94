/- An abstract layer over the model's walk, its sixth part: append onto a slice that the call owns, and onto one that has no room; for every program. -/
import Derived.Test.YtfbncddnakaaiaaFilE
namespace Go.Proofs.Ytfbncddnakaaiaa
open Go
set_option linter.unusedSimpArgs false
set_option linter.unusedVariables false

variable {G : Type} {Γ : Env G} {s : AS G} {a : Act} {w w' : World} {η : List Value} {hp : List AObj} {F : Nat → Nat → Prop} {P : Program}

/-- What an append onto a slice without room behind its end makes: a row of the call's own. -/
theorem append_new (hok : Γ.Ok) (h : Rel Γ s a w η) {t ty e : TypeId} {d : TD} (ht : Γ.P.underlying t = some (.slice e)) (hty : TyOk Γ.P e d) (hsz : 0 < d.size) {els els2 : List AV} {v0 v2 : Value}
    (hb : v0 = .slice none 0 0 ∧ els = [] ∨ Rep w (Fok Γ w η s.hp) η s.hp (.clip els) v0) (hx : Rep w (Fok Γ w η s.hp) η s.hp (.sl els2) v2)
    (hl : ∀ x : AV, x ∈ els → x.cells.length = d.size) (hl2 : ∀ x : AV, x ∈ els2 → x.cells.length = d.size) (hne : els2 = [] → els = [])
    (hm : els.length + els2.length ≤ maxLen) (hby : (els.length + els2.length) * d.bytes ≤ 140737488355328) :
    ∃ v' w', (Builtin.append_ #[t, t] ty #[v0, v2]).run Γ.P w = .ok v' w' ∧ Rel Γ (s.add (.row e d.size (els ++ els2))) a w' (η ++ [v']) ∧ v'.oneCell' = true := by
  obtain ⟨i, hi1, hi2, hi3, hi4⟩ := hty.info
  have hbs : Rep w (Fok Γ w η s.hp) η s.hp (.sl els) v0 := by
    rcases hb with ⟨rfl, rfl⟩ | hb
    · exact .sl0 _
    · exact hb.of_clip
  obtain ⟨olds, ho⟩ := hbs.slCells hsz hl
  obtain ⟨news, hn⟩ := hx.slCells hsz hl2
  have hcap : (∃ ad : Option Addr, v0 = .slice ad 0 0 ∧ els = []) ∨ ∃ b o, v0 = .slice (some ⟨b, o, none⟩) els.length els.length ∧ ∀ (k : Nat) (u : Value), olds[k]? = some u → w.cell? ⟨b, o + k, none⟩ = some u := by
    rcases ho.shape with h1 | ⟨b, o, c, rfl, _, _, hc⟩
    · exact .inl h1
    · rcases hb with ⟨hb, _⟩ | hb
      · cases hb
      · cases hb with
        | clip0 => exact .inl ⟨_, rfl, rfl⟩
        | clip size els b o f hm hl' hcell hr => exact .inr ⟨_, _, rfl, hc⟩
  by_cases hz : els2 = []
  · have hz' := hne hz
    subst hz; subst hz'
    have hv2 : v2 = .slice none 0 0 ∨ ∃ ad k, v2 = .slice (some ad) 0 k := by
      rcases hn.shape with ⟨ad, rfl, _⟩ | ⟨b, o, c, rfl, _⟩
      · cases ad with
        | none => exact .inl rfl
        | some ad => exact .inr ⟨_, _, rfl⟩
      · exact .inr ⟨_, _, rfl⟩
    rcases hcap with ⟨ad, rfl, _⟩ | ⟨b, o, rfl, _⟩
    · refine ⟨_, w, run_append_none ht hty ad 0 0 (Nat.le_refl _) v2 hv2, ?_, rfl⟩
      exact h.add hok (Same.refl w) (fun b hb => by cases ad <;> simp [blk] at hb) ⟨hsz, [], ⟨by simp, .inl ⟨rfl, by cases ad with | none => exact .inl rfl | some ad => exact .inr ⟨ad, rfl⟩⟩⟩, fun i el hi => by simp at hi⟩
    · refine ⟨_, w, run_append_none ht hty (some ⟨b, o, none⟩) 0 0 (Nat.le_refl _) v2 hv2, ?_, rfl⟩
      exact h.add hok (Same.refl w) (fun b hb => by simp [blk] at hb) ⟨hsz, [], ⟨by simp, .inl ⟨rfl, .inr ⟨_, rfl⟩⟩⟩, fun i el hi => by simp at hi⟩
  · have hm2 : 0 < els2.length := List.length_pos_iff.2 hz
    rcases hn.shape with ⟨_, _, h1⟩ | ⟨b2, o2, c2, rfl, _, _, hc2⟩
    · exact (hz h1).elim
    have hnews : ∀ (j : Nat) (u : Value), news[j]? = some u → w.cell? ((⟨b2, o2, none⟩ : Addr).add j) = some u := fun j u hj => by rw [Addr.add_lit]; exact hc2 j u hj
    have h63 : els.length + els2.length ≤ 9223372036854775807 := by simp only [maxLen] at hm; omega
    have fin : ∀ (old : Nat), Rel Γ (s.add (.row e d.size (els ++ els2))) a
        (w.drew.alloc (.cells (olds.toArray ++ news.toArray ++ Builtin.zeroCells d.zero.cells (grownCap w (els.length + els2.length) old e - (els.length + els2.length))) e))
        (η ++ [.slice (some ⟨w.heap.size, 0, none⟩) (els.length + els2.length) (grownCap w (els.length + els2.length) old e)]) := by
      intro old
      have hs : Same w (w.drew.alloc (.cells (olds.toArray ++ news.toArray ++ Builtin.zeroCells d.zero.cells (grownCap w (els.length + els2.length) old e - (els.length + els2.length))) e)) :=
        (Same.drew w).trans (Same.alloc _ _)
      have hblk : ∀ b, blk (.slice (some ⟨w.heap.size, 0, none⟩) (els.length + els2.length) (grownCap w (els.length + els2.length) old e)) = some b → w.heap.size ≤ b := by
        intro b hb
        rw [blk_slice (by have := grownCap_ge w (els.length + els2.length) old e; omega)] at hb
        obtain rfl := Option.some.inj hb
        exact Nat.le_refl _
      have he := ext_new (Γ := Γ) (o := .row e d.size (els ++ els2)) h.heap.len hs hblk
      refine h.add hok hs hblk ⟨hsz, olds ++ news, ?_, fun i el hi => ⟨?_, ?_⟩⟩
      · rw [List.length_append]
        exact rowOk_new olds news ho.len hn.len hty.zsize old hm2 hm
      · rcases List.mem_append.1 (List.mem_of_getElem? hi) with h1 | h1
        · exact hl _ h1
        · exact hl2 _ h1
      · exact fun j x hj => cells_append ho.len (ho.ext he.ext0) (hn.ext he.ext0) i el j x hi hj
    rcases hcap with ⟨ad, rfl, rfl⟩ | ⟨b, o, rfl, hc⟩
    · have : olds = [] := List.eq_nil_of_length_eq_zero (by simpa using ho.len)
      subst this
      cases ad with
      | some ad =>
        have := run_append_grow (P := Γ.P) w t ty e i d.zero ht hi1 hi4 ad 0 0 [] (by simp) (fun j u hj => by simp at hj) ⟨b2, o2, none⟩ els2.length c2 news (by rw [hi2]; exact hn.len) hnews (by omega)
          (by simp only [List.length_nil, Nat.zero_add] at h63 ⊢; omega) (growslice_fits (by omega) (by rw [hi3]; simpa only [List.length_nil] using hby))
        refine ⟨_, _, this, ?_, rfl⟩
        have f0 := fin 0
        simpa only [List.length_nil, Nat.zero_add, List.nil_append] using f0
      | none =>
      have := run_append_nil (P := Γ.P) w t ty e i d.zero ht hi1 hi4 ⟨b2, o2, none⟩ els2.length c2 news (by rw [hi2]; exact hn.len) hnews hm2 (by simp only [List.length_nil, Nat.zero_add] at h63; omega) (by rw [hi3]; simp only [List.length_nil, Nat.zero_add] at hby; omega)
      refine ⟨_, _, this, ?_, rfl⟩
      have f0 := fin 0
      simpa only [List.length_nil, Nat.zero_add, List.nil_append, Array.empty_append] using f0
    · have holds : ∀ (j : Nat) (u : Value), olds[j]? = some u → w.cell? ((⟨b, o, none⟩ : Addr).add j) = some u := fun j u hj => by rw [Addr.add_lit]; exact hc j u hj
      have := run_append_grow (P := Γ.P) w t ty e i d.zero ht hi1 hi4 ⟨b, o, none⟩ els.length els.length olds (by rw [hi2]; exact ho.len) holds ⟨b2, o2, none⟩ els2.length c2 news (by rw [hi2]; exact hn.len) hnews (by omega)
        (by omega) (growslice_fits (by omega) (by rw [hi3]; exact hby))
      exact ⟨_, _, this, fin els.length, rfl⟩

/-- append onto a row that the call owns. -/
theorem append_own (hok : Γ.Ok) (h : Rel Γ s a w η) {t ty e : TypeId} {d : TD} (ht : Γ.P.underlying t = some (.slice e)) (hty : TyOk Γ.P e d) {r : Nat} {els els2 : List AV} {v0 v2 : Value}
    (hr : s.hp[r]? = some (.row e d.size els)) (hv : OwnOk η s.hp r els.length v0) (hx : Rep w (Fok Γ w η s.hp) η s.hp (.sl els2) v2)
    (hl2 : ∀ x : AV, x ∈ els2 → x.cells.length = d.size)
    (hm : els.length + els2.length ≤ maxLen) (hby : (els.length + els2.length) * d.bytes ≤ 140737488355328) :
    ∃ v' w' η', (Builtin.append_ #[t, t] ty #[v0, v2]).run Γ.P w = .ok v' w' ∧ Rel Γ { s with hp := s.hp.set r (.row e d.size (els ++ els2)) } a w' η' ∧ v'.oneCell' = true ∧ η'[r]? = some v' := by
  obtain ⟨i, hi1, hi2, hi3, hi4⟩ := hty.info
  have hv0 : η[r]? = some v0 := by unfold OwnOk at hv; rw [hr] at hv; exact hv.2 rfl
  obtain ⟨hsz, xs, hrow, hels⟩ := h.heap.obj r _ v0 hr hv0
  obtain ⟨news, hn⟩ := hx.slCells hsz hl2
  have hold : ∀ (i : Nat) (e : AV) (j : Nat) (x : AV), els[i]? = some e → e.cells[j]? = some x → ∃ u, xs[i * d.size + j]? = some u ∧ Rep w (Fok Γ w η s.hp) [] [] x u ∧ u.oneCell' = true :=
    fun i el j x hi hj => (hels i el hi).2 j x hj
  by_cases hz : els2 = []
  · subst hz
    have hsame : s.hp.set r (.row e d.size (els ++ [])) = s.hp := by
      apply List.ext_getElem?
      intro k
      by_cases hk : r = k
      · subst hk; rw [getElem?_set_same hr, List.append_nil, hr]
      · rw [getElem?_set_ne hk]
    have hv2 : v2 = .slice none 0 0 ∨ ∃ ad k, v2 = .slice (some ad) 0 k := by
      rcases hn.shape with ⟨ad, rfl, _⟩ | ⟨b, o, c, rfl, _⟩
      · cases ad with
        | none => exact .inl rfl
        | some ad => exact .inr ⟨_, _, rfl⟩
      · exact .inr ⟨_, _, rfl⟩
    have hfin : ∀ b n c, v0 = .slice b n c → n ≤ c → ∃ v' w' η', (Builtin.append_ #[t, t] ty #[v0, v2]).run Γ.P w = .ok v' w' ∧ Rel Γ { s with hp := s.hp.set r (.row e d.size (els ++ [])) } a w' η' ∧ v'.oneCell' = true ∧ η'[r]? = some v' := by
      intro b n c e1 e2
      subst e1
      exact ⟨_, w, η, run_append_none ht hty b n c e2 v2 hv2, by rw [hsame]; exact h, rfl, hv0⟩
    rcases hrow.2 with ⟨h0, rfl | ⟨ad, rfl⟩⟩ | ⟨g, cap, cur, rfl, h0, _, hnc, _⟩
    · exact hfin none 0 0 rfl (Nat.le_refl _)
    · exact hfin _ 0 0 rfl (Nat.le_refl _)
    · exact hfin _ _ _ rfl hnc
  · have hm2 : 0 < els2.length := List.length_pos_iff.2 hz
    rcases hn.shape with ⟨_, _, h1⟩ | ⟨b2, o2, c2, rfl, _, _, hc2⟩
    · exact (hz h1).elim
    have hnews : ∀ (j : Nat) (u : Value), news[j]? = some u → w.cell? ((⟨b2, o2, none⟩ : Addr).add j) = some u := fun j u hj => by rw [Addr.add_lit]; exact hc2 j u hj
    have h63 : els.length + els2.length ≤ 9223372036854775807 := by simp only [maxLen] at hm; omega
    have hown : ∀ v' n u, OwnOk η s.hp r n u → OwnOk (η.set r v') (s.hp.set r (.row e d.size (els ++ els2))) r n u := by
      intro v' n u ho
      unfold OwnOk at ho ⊢
      rw [hr] at ho
      rw [getElem?_set_same hr]
      refine ⟨by rw [List.length_append]; have := ho.1; omega, fun hn' => ?_⟩
      rw [List.length_append] at hn'
      have := ho.1
      omega
    have hlen2 : ∀ (x : AV), x ∈ els ++ els2 → x.cells.length = d.size := by
      intro x hx'
      rcases List.mem_append.1 hx' with h1 | h1
      · obtain ⟨k, hk⟩ := List.getElem?_of_mem h1
        exact (hels k x hk).1
      · exact hl2 _ h1
    -- into a new block
    have grown : ∀ (old : Nat), (∀ b es c, blk v0 = some b → w.heap[b]? = some (.map es c) → False) → (∀ b d, blk v0 = some b → w.heap[b]? = some (.deferred d) → False) → (∀ x, v0 ≠ .pointer x) → (∀ x, v0 ≠ .map x) →
        Rel Γ { s with hp := s.hp.set r (.row e d.size (els ++ els2)) } a
        (w.drew.alloc (.cells (xs.toArray ++ news.toArray ++ Builtin.zeroCells d.zero.cells (grownCap w (els.length + els2.length) old e - (els.length + els2.length))) e))
        (η.set r (.slice (some ⟨w.heap.size, 0, none⟩) (els.length + els2.length) (grownCap w (els.length + els2.length) old e))) := by
      intro old hmap hdef hp1 hp2
      have hs : Same w (w.drew.alloc (.cells (xs.toArray ++ news.toArray ++ Builtin.zeroCells d.zero.cells (grownCap w (els.length + els2.length) old e - (els.length + els2.length))) e)) :=
        (Same.drew w).trans (Same.alloc _ _)
      have hblk : ∀ b, blk (.slice (some ⟨w.heap.size, 0, none⟩) (els.length + els2.length) (grownCap w (els.length + els2.length) old e)) = some b → w.heap.size ≤ b := by
        intro b hb
        rw [blk_slice (by have := grownCap_ge w (els.length + els2.length) old e; omega)] at hb
        obtain rfl := Option.some.inj hb
        exact Nat.le_refl _
      refine h.change hok (o' := .row e d.size (els ++ els2)) hr True.intro hv0 (hs.keeps _) (fun b hb => .inr (hblk b hb)) (fun k hk => ?_) (fun b k u hb _ hc => ?_) (fun b es c hb _ hh => hmap b es c hb hh) (hown _)
        (fun x hx' => (hp1 x hx').elim) (fun x hx' => (hp2 x hx').elim) hdef (fun he => ⟨hsz, xs ++ news, ?_, fun i el hi => ⟨hlen2 _ (List.mem_of_getElem? hi), ?_⟩⟩)
      · show k < (els ++ els2).length * d.size
        have hk' : k < els.length * d.size := hk
        rw [List.length_append, Nat.add_mul]; omega
      · rw [World.cell?_of_block (hs.block b (h.heap.block hr True.intro hv0 hb))]; exact hc
      · rw [List.length_append]
        exact rowOk_new xs news hrow.1 hn.len hty.zsize old hm2 hm
      · exact fun j x hj => cells_append hrow.1 (fun i e j x hi hj => let ⟨u, h1, h2, h3⟩ := hold i e j x hi hj; ⟨u, h1, h2.ext he.ext0.ext, h3⟩) (hn.ext he.ext0) i el j x hi hj
    have hsetη : ∀ v', (η.set r v')[r]? = some v' := fun v' => getElem?_set_same hv0
    rcases hrow.2 with ⟨h0, rfl | ⟨ad, rfl⟩⟩ | ⟨g, cap, cur, rfl, h0, hg, hnc, hcm, hcs, htake⟩
    · have hel : els = [] := List.eq_nil_of_length_eq_zero h0
      have hxs : xs = [] := List.eq_nil_of_length_eq_zero (by rw [hrow.1, h0]; simp)
      have gr := grown 0 (fun b es c hb => by simp [blk] at hb) (fun b d hb => by simp [blk] at hb) (fun x hx' => by cases hx') (fun x hx' => by cases hx')
      subst hel; subst hxs
      have := run_append_nil (P := Γ.P) w t ty e i d.zero ht hi1 hi4 ⟨b2, o2, none⟩ els2.length c2 news (by rw [hi2]; exact hn.len) hnews hm2 (by simp only [List.length_nil, Nat.zero_add] at h63; omega) (by rw [hi3]; simp only [List.length_nil, Nat.zero_add] at hby; omega)
      refine ⟨_, _, _, this, ?_, rfl, hsetη _⟩
      simpa only [List.length_nil, Nat.zero_add, List.nil_append, Array.empty_append] using gr
    · have hel : els = [] := List.eq_nil_of_length_eq_zero h0
      have hxs : xs = [] := List.eq_nil_of_length_eq_zero (by rw [hrow.1, h0]; simp)
      have gr := grown 0 (fun b es c hb => by simp [blk] at hb) (fun b d hb => by simp [blk] at hb) (fun x hx' => by cases hx') (fun x hx' => by cases hx')
      subst hel; subst hxs
      have := run_append_grow (P := Γ.P) w t ty e i d.zero ht hi1 hi4 ad 0 0 [] (by simp) (fun j u hj => by simp at hj) ⟨b2, o2, none⟩ els2.length c2 news (by rw [hi2]; exact hn.len) hnews (by omega)
        (by simp only [List.length_nil, Nat.zero_add] at h63 ⊢; omega) (growslice_fits (by omega) (by rw [hi3]; simpa only [List.length_nil] using hby))
      refine ⟨_, _, _, this, ?_, rfl, hsetη _⟩
      simpa only [List.length_nil, Nat.zero_add, List.nil_append] using gr
    · by_cases hroom : els.length + els2.length ≤ cap
      · have hfit : els.length * i.size + news.length ≤ cur.size := by rw [hi2, hn.len, hcs, ← Nat.add_mul]; exact Nat.mul_le_mul_right _ hroom
        have hrun := run_append_room (P := Γ.P) w t ty e i ht hi1 g els.length cap cur hg ⟨b2, o2, none⟩ els2.length c2 news (by rw [hi2]; exact hn.len) hnews hn.one hroom hfit
        rw [hi2] at hrun
        refine ⟨_, _, _, hrun, ?_, rfl, hsetη _⟩
        have hbk : blk (.slice (some ⟨g, 0, none⟩) els.length cap) = some g := blk_slice h0
        have hbk' : blk (.slice (some ⟨g, 0, none⟩) (els.length + els2.length) cap) = some g := blk_slice h0
        have hrow' := setRow_heap w g cur (cur.toList.take (els.length * d.size) ++ news ++ cur.toList.drop (els.length * d.size + news.length)).toArray e (0, 0) hg
        refine h.change hok (o' := .row e d.size (els ++ els2)) hr True.intro hv0 ⟨rfl, rfl, rfl, by simp, fun k hk hb => setRow_other w g k _ (fun e => hb (by rw [hbk, e]))⟩ (fun b hb => .inl (by rw [hbk]; rw [hbk'] at hb; exact hb)) (fun k hk => ?_) (fun b k u hb hk hc => ?_)
          (fun b es c hb _ hh => ?_) (hown _) (fun x hx' => by cases hx') (fun x hx' => by cases hx') (fun b d hb hh => ?_) (fun he => ⟨hsz, xs ++ news, ?_, fun i el hi => ⟨hlen2 _ (List.mem_of_getElem? hi), ?_⟩⟩)
        · show k < (els ++ els2).length * d.size
          have hk' : k < els.length * d.size := hk
          rw [List.length_append, Nat.add_mul]; omega
        · rw [hbk] at hb
          obtain rfl := Option.some.inj hb
          have hk' : k < els.length * d.size := hk
          rw [cell_of_row w g k cur e (0, 0) hg] at hc
          rw [cell_of_row _ g k _ e (0, 0) hrow']
          have hlt : k < cur.size := (Array.getElem?_eq_some_iff.1 hc).1
          rw [← Array.getElem?_toList] at hc
          simp only [List.getElem?_toArray]
          rw [List.append_assoc, List.getElem?_append_left (by simp; omega), List.getElem?_take, if_pos hk']
          exact hc
        · rw [hbk] at hb
          obtain rfl := Option.some.inj hb
          rw [hg] at hh; cases hh
        · rw [hbk] at hb
          obtain rfl := Option.some.inj hb
          rw [hg] at hh; cases hh
        · have hlx : (xs ++ news).length = (els.length + els2.length) * d.size := by rw [List.length_append, hrow.1, hn.len, Nat.add_mul]
          rw [List.length_append]
          refine ⟨hlx, .inr ⟨g, cap, _, rfl, h0, hrow', hroom, hcm, ?_, ?_⟩⟩
          · simp only [List.size_toArray, List.length_append, List.length_take, List.length_drop, Array.length_toList]
            rw [hi2] at hfit
            have : els.length * d.size ≤ cur.size := by omega
            omega
          · rw [htake, ← hlx]
            exact List.take_left
        · exact fun j x hj => cells_append hrow.1 (fun i e j x hi hj => let ⟨u, h1, h2, h3⟩ := hold i e j x hi hj; ⟨u, h1, h2.ext he.ext0.ext, h3⟩) (hn.ext he.ext0) i el j x hi hj
      · have hcell : ∀ (j : Nat) (u : Value), xs[j]? = some u → w.cell? ((⟨g, 0, none⟩ : Addr).add j) = some u := by
          intro j u hj
          rw [Addr.add_lit, Nat.zero_add, cell_of_row w g j cur e (0, 0) hg]
          rw [← htake, List.getElem?_take] at hj
          by_cases hlt : j < els.length * d.size
          · rw [if_pos hlt] at hj; simpa using hj
          · rw [if_neg hlt] at hj; cases hj
        have hbk : blk (.slice (some ⟨g, 0, none⟩) els.length cap) = some g := blk_slice h0
        have := run_append_grow (P := Γ.P) w t ty e i d.zero ht hi1 hi4 ⟨g, 0, none⟩ els.length cap xs (by rw [hi2]; exact hrow.1) hcell ⟨b2, o2, none⟩ els2.length c2 news (by rw [hi2]; exact hn.len) hnews (by omega)
          (by omega) (growslice_fits (by omega) (by rw [hi3]; exact hby))
        exact ⟨_, _, _, this, grown cap (fun b es c hb hh => by rw [hbk] at hb; obtain rfl := Option.some.inj hb; rw [hg] at hh; cases hh)
          (fun b d hb hh => by rw [hbk] at hb; obtain rfl := Option.some.inj hb; rw [hg] at hh; cases hh) (fun x hx' => by cases hx') (fun x hx' => by cases hx'), rfl, hsetη _⟩

end Go.Proofs.Ytfbncddnakaaiaa
