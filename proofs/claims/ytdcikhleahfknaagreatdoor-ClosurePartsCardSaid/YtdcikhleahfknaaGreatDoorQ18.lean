/- Texts of ours laid together for a claim: VcL. -/
import Derived.Test.YtdcikhleahfknaaGreatDoorQ17
namespace Go.Proofs.YtdcikhleahfknaaGreatDoor
open Go
set_option linter.unusedSimpArgs false
set_option linter.unusedVariables false
variable {Γ:Env Unit} {s s':AS Unit} {a:Act} {w w':World} {η:List Value} {hp:List af}
def H5 (r:Nat) (e:AV):AV→AV
 | .ptr r' o=>(match Nat.beq r r' with|true=>.aH e o|false=>.ptr r' o)
 |x=>x
def Ev (r:Nat) (e:AV):List AV→List AV
 | []=>[]
 |x::l=>H5 r e x::Ev r e l
def H6 (r:Nat) (e:AV):AV→AV
 | .ptr r' o=>(match Nat.beq r r' with|true=>.aH e o|false=>.ptr r' o)
 | .aS f caps=>.aS f (Ev r e caps)
 |x=>x
theorem zU (r:Nat) (e:AV):∀(l:List AV),Ev r e l=l.map (H5 r e)
 | []=>rfl
 |x::l=>by simp[Ev,zU r e l]
theorem bV.Wx (aq:Γ.Ok) {f:Nat→AV} {g:Unit} {r:Nat} {cs:List AV} (hr:hp[r]?=some (.box cs)):bV Γ ⟨f,hp,g⟩ ⟨fun t=>H6 r (zC (cs.map (AV.dp hp))) (f t),hp.set r .dead,g⟩:=by
 intro a w η h
 have al:r<η.length:=by have:=h.heap.len;simp only at this;rw[this];exact(List.getElem?_eq_some_iff.1 hr).1
 have hv:η[r]?=some η[r]:=by simp[al]
 obtain⟨b,vs,T,hb,gS,bE,eS⟩:=h.heap.obj r _ _ hr hv
 have dn:η.set r η[r]=η:=by
  apply List.ext_getElem?
  intro i
  by_cases hi:r=i
  ·subst hi;rw[ai hv,hv]
  ·rw[getElem?_set_ne hi]
 have hd:=Rel.change (w':=w) (o':=.dead) (v':=η[r]) aq h hr True.intro hv (bo.refl _ w) (fun b hb=>.inl hb) (fun k hk=>hk.elim) (fun _ _ _ _ hk _=>hk.elim) (fun _ _ _ _ hk _=>hk.elim)
  (fun n u ho=>by simp[aQ,hr] at ho) (fun _ _=>rfl) (fun _ _=>rfl) (fun b' d ec hd=>by rw[hb] at ec;simp only[bT,Option.some.injEq] at ec;subst ec;rw[gS] at hd;cases hd) (fun _=>True.intro)
 rw[dn] at hd
 have hm:=h.bA r _ _ b hr True.intro hv (by rw[hb];rfl)
 have mw:∀k,aU Γ w η (hp.set r .dead) b k:=by
  intro k
  refine⟨.inr hm.1,aX gS,hm.2 _,?_⟩
  intro r1 u h1 vt
  by_cases bj:r=r1
  ·subst bj
   rw[ai hr];trivial
  ·rw[getElem?_set_ne bj]
   have H7:r1<hp.length:=by have:=h.heap.len;simp only at this;rw[←this];exact(List.getElem?_eq_some_iff.1 h1).1
   have ho:hp[r1]?=some hp[r1]:=by simp[H7]
   rw[ho]
   cases hk:hp[r1] with
   |dead=>trivial
   |box cs'=>exact(h.heap.sep r r1 _ (.box cs') _ u b bj hr (by rw[←hk];exact ho) True.intro True.intro hv h1 (by rw[hb];rfl) vt).elim
   |row e z els=>exact(h.heap.sep r r1 _ (.row e z els) _ u b bj hr (by rw[←hk];exact ho) True.intro True.intro hv h1 (by rw[hb];rfl) vt).elim
   |aP VA=>exact(h.heap.sep r r1 _ (.aP VA) _ u b bj hr (by rw[←hk];exact ho) True.intro True.intro hv h1 (by rw[hb];rfl) vt).elim
   |cA q k=>exact(h.heap.sep r r1 _ (.cA q k) _ u b bj hr (by rw[←hk];exact ho) True.intro True.intro hv h1 (by rw[hb];rfl) vt).elim
   |aF e z els=>exact(h.heap.sep r r1 _ (.aF e z els) _ u b bj hr (by rw[←hk];exact ho) True.intro True.intro hv h1 (by rw[hb];rfl) vt).elim
   |dh e m ns=>exact(h.heap.sep r r1 _ (.dh e m ns) _ u b bj hr (by rw[←hk];exact ho) True.intro True.intro hv h1 (by rw[hb];rfl) vt).elim
 have H8:∀b k,aU Γ w η hp b k→aU Γ w η (hp.set r .dead) b k:=by
  intro b k hf
  refine⟨hf.1,hf.2.1,hf.2.2.1,(aN b k).2 fun r1 u h1 vt=>?_⟩
  obtain⟨o,g1,g2⟩:=(aN b k).1 hf.2.2.2 r1 u h1 vt
  by_cases bj:r=r1
  ·subst bj;exact⟨.dead,ai hr,True.intro⟩
  ·exact⟨o,by rw[getElem?_set_ne bj];exact g1,g2⟩
 have key:∀(o:Nat) (v:Value) {iq:List Value} {eG:List af},aV w (aU Γ w η (hp.set r .dead)) η (hp.set r .dead) (.ptr r o) v→aV w (aU Γ w η (hp.set r .dead)) iq eG (.aH (zC (cs.map (AV.dp hp))) o) v:=by
  intro o v iq eG hp'
  cases hp' with
  |ptr _ _ b' ec=>
   rw[hv,hb] at ec
   simp only[Option.some.injEq,Value.pointer.injEq,Addr.mk.injEq,and_true] at ec
   subst ec
   have bO:∀(j:Nat) (x:AV),(cs.map (AV.dp hp))[j]?=some x→∃y u,cs[j]?=some y∧x=y.dp hp∧vs[j]?=some u:=by
    intro j x hx
    rw[List.getElem?_map] at hx
    cases hj:cs[j]? with
    |none=>rw[hj] at hx;cases hx
    |some y=>
     rw[hj] at hx
     obtain rfl:=Option.some.inj hx
     have:j<vs.size:=by rw[bE];exact(List.getElem?_eq_some_iff.1 hj).1
     exact⟨y,vs[j],rfl,rfl,by simp[this]⟩
   have hE:=aV.aH (w:=w) (F:=aU Γ w η (hp.set r .dead)) (η:=iq) (hp:=eG) (zC (cs.map (AV.dp hp))) o b 0 (fun j=>(vs[j]?).getD undef) (fun j x hx=>by
     rw[kW] at hx
     obtain⟨y,u,h1,h2,h3⟩:=bO j x hx
     refine⟨?_,mw _,?_⟩
     ·simp[World.cell?,gS,h3]
     ·simp only[h3,Option.getD_some];exact(eS j y u h1 h3).2) (fun j x hx=>by
     rw[kW] at hx
     obtain⟨y,u,h1,h2,h3⟩:=bO j x hx
     subst h2
     simp only[h3,Option.getD_some]
     exact(jT h.heap h.bA (eS j y u h1 h3).1).ext ⟨fun _ _ _ _ h=>h,fun _ _ _ _ h=>h,H8,fun _ _ h=>h,fun _ _ h=>h,fun _ _ _ h=>h⟩)
   rw[Nat.zero_add] at hE
   exact hE
 refine⟨η,hd.nt,fun t=>?_,hd.heap,hd.bA,hd.keeps,hd.inv,hd.marks,hd.ext⟩
 have ht:=hd.tmps t
 simp only at ht ⊢
 cases hx:f t with
 |ptr r' o=>
  rw[hx] at ht
  simp only[H6]
  split
  ·rename_i FQ
   obtain rfl:=Nat.eq_of_beq_eq_true FQ
   exact key o _ ht
  ·exact ht
 |aS fn caps=>
  rw[hx] at ht
  simp only[H6,zU]
  generalize hvt:a.tmps.getD t undef=v at ht
  cases ht with
  |aS _ _ us hl Lv=>
   refine .aS fn _ us (by simpa using hl) fun j y u hy hu=>?_
   rw[List.getElem?_map] at hy
   cases hj:caps[j]? with
   |none=>rw[hj] at hy;cases hy
   |some z=>
    rw[hj] at hy
    obtain rfl:=Option.some.inj hy
    have hz:=Lv j z u hj hu
    cases z with
    |ptr r' o=>
     simp only[H5]
     split
     ·rename_i FQ
      obtain rfl:=Nat.eq_of_beq_eq_true FQ
      exact key o _ hz
     ·exact hz
    |_=>exact hz
 |_=>rw[hx] at ht;exact ht
def Qg (r:Nat) (es:ME):AV→AV
 | .mp r'=>if r=r' then .dL es else .mp r'
 |x=>x
def Ew (r:Nat) (es:ME):List AV→List AV
 | []=>[]
 |x::l=>Qg r es x::Ew r es l
def H9 (r:Nat) (es:ME):AV→AV
 | .mp r'=>if r=r' then .dL es else .mp r'
 | .agg cs=>.agg (Ew r es cs)
 |x=>x
theorem zV (r:Nat) (es:ME):∀(l:List AV),Ew r es l=l.map (Qg r es)
 | []=>rfl
 |x::l=>by simp[Ew,zV r es l]
theorem bV.Pc (aq:Γ.Ok) {f:Nat→AV} {g:Unit} {r:Nat} {es:ME} (hr:hp[r]?=some (.aP es)):bV Γ ⟨f,hp,g⟩ ⟨fun t=>H9 r es (f t),hp.set r .dead,g⟩:=by
 intro a w η h
 have al:r<η.length:=by have:=h.heap.len;simp only at this;rw[this];exact(List.getElem?_eq_some_iff.1 hr).1
 have hv:η[r]?=some η[r]:=by simp[al]
 obtain⟨b,en,c,hb,gS,tB⟩:=h.heap.obj r _ _ hr hv
 have dn:η.set r η[r]=η:=by
  apply List.ext_getElem?
  intro i
  by_cases hi:r=i
  ·subst hi;rw[ai hv,hv]
  ·rw[getElem?_set_ne hi]
 have hd:=Rel.change (w':=w) (o':=.dead) (v':=η[r]) aq h hr True.intro hv (bo.refl _ w) (fun b hb=>.inl hb) (fun k hk=>hk.elim) (fun _ _ _ _ hk _=>hk.elim) (fun _ _ _ _ hk _=>hk.elim)
  (fun n u ho=>by simp[aQ,hr] at ho) (fun _ _=>rfl) (fun _ _=>rfl) (fun b' d ec hd=>by rw[hb] at ec;simp only[bT,Option.some.injEq] at ec;subst ec;rw[gS] at hd;cases hd) (fun _=>True.intro)
 rw[dn] at hd
 have key:∀{v:Value},aV w (aU Γ w η (hp.set r .dead)) η (hp.set r .dead) (.mp r) v→aV w (aU Γ w η (hp.set r .dead)) η (hp.set r .dead) (.dL es) v:=by
   intro v ht
   cases ht with
   |mp _ b' ec=>
    rw[hv,hb] at ec
    simp only[Option.some.injEq,Value.map.injEq] at ec
    subst ec
    have hm:=h.bA r _ _ b hr True.intro hv (by rw[hb];rfl)
    refine .dL b en c gS ⟨.inr hm.1,?_,hm.2 _,?_⟩ es tB
    ·exact(Array.getElem?_eq_some_iff.1 gS).1
    ·intro r1 u h1 vt
     by_cases bj:r=r1
     ·subst bj
      rw[ai hr];trivial
     ·rw[getElem?_set_ne bj]
      have H7:r1<hp.length:=by have:=h.heap.len;simp only at this;rw[←this];exact(List.getElem?_eq_some_iff.1 h1).1
      have ho:hp[r1]?=some hp[r1]:=by simp[H7]
      rw[ho]
      cases hk:hp[r1] with
      |dead=>trivial
      |box cs=>exact(h.heap.sep r r1 _ (.box cs) _ u b bj hr (by rw[←hk];exact ho) True.intro True.intro hv h1 (by rw[hb];rfl) vt).elim
      |row e z els=>exact(h.heap.sep r r1 _ (.row e z els) _ u b bj hr (by rw[←hk];exact ho) True.intro True.intro hv h1 (by rw[hb];rfl) vt).elim
      |aP VA=>exact(h.heap.sep r r1 _ (.aP VA) _ u b bj hr (by rw[←hk];exact ho) True.intro True.intro hv h1 (by rw[hb];rfl) vt).elim
      |cA q k=>exact(h.heap.sep r r1 _ (.cA q k) _ u b bj hr (by rw[←hk];exact ho) True.intro True.intro hv h1 (by rw[hb];rfl) vt).elim
      |aF e z els=>exact(h.heap.sep r r1 _ (.aF e z els) _ u b bj hr (by rw[←hk];exact ho) True.intro True.intro hv h1 (by rw[hb];rfl) vt).elim
      |dh e m ns=>exact(h.heap.sep r r1 _ (.dh e m ns) _ u b bj hr (by rw[←hk];exact ho) True.intro True.intro hv h1 (by rw[hb];rfl) vt).elim
 refine⟨η,hd.nt,fun t=>?_,hd.heap,hd.bA,hd.keeps,hd.inv,hd.marks,hd.ext⟩
 have ht:=hd.tmps t
 simp only at ht ⊢
 cases hx:f t with
 |mp r'=>
  rw[hx] at ht
  simp only[H9]
  split
  ·rename_i FQ
   subst FQ
   exact key ht
  ·exact ht
 |agg cs=>
  rw[hx] at ht
  simp only[H9,zV]
  generalize hvt:a.tmps.getD t undef=v at ht
  cases ht with
  |agg _ us hl h1 Lv=>
   refine .agg _ us (by simpa using hl) h1 fun j y u hy hu=>?_
   rw[List.getElem?_map] at hy
   cases hj:cs[j]? with
   |none=>rw[hj] at hy;cases hy
   |some z=>
    rw[hj] at hy
    obtain rfl:=Option.some.inj hy
    have hz:=Lv j z u hj hu
    cases z with
    |mp r'=>
     simp only[Qg]
     split
     ·rename_i FQ
      subst FQ
      exact key hz
     ·exact hz
    |_=>exact hz
 |_=>rw[hx] at ht;exact ht
def Ia:List AV→List Nat
 | []=>[]
 | .ptr r _::l=>r::Ia l
 |_::l=>Ia l
def Ib:List AV→List Nat
 | []=>[]
 | .mp r::l=>r::Ib l
 |_::l=>Ib l
def xA:List AV→List Nat
 | []=>[]
 | .aS _ caps::l=>Ia caps++xA l
 | .agg cs::l=>Ib cs++xA l
 |_::l=>xA l
def jn:List Nat→AS Unit→List Prop×AS Unit
 | [],s=>([],s)
 |r::l,s=>(match s.hp[r]? with
  |some (.box cs)=>((bZ (AV.gO s.hp) cs).1++(jn l ⟨fun t=>H6 r (zC (bZ (AV.gO s.hp) cs).2) (s.tmps t),s.hp.set r .dead,s.g⟩).1,
    (jn l ⟨fun t=>H6 r (zC (bZ (AV.gO s.hp) cs).2) (s.tmps t),s.hp.set r .dead,s.g⟩).2)
  |some (.aP es)=>jn l ⟨fun t=>H9 r es (s.tmps t),s.hp.set r .dead,s.g⟩
  |_=>jn l s)
theorem py (aq:Γ.Ok):∀(l:List Nat) (s:AS Unit),dw (jn l s).1→bV Γ s (jn l s).2
 | [],s,_=>.refl s
 |r::l,s,hc=>by
  simp only[jn] at hc ⊢
  split at hc
  ·rename_i cs hr
   rw[bq] at hc
   have hm:=bI (g:=AV.dp s.hp) (fun x=>ku) cs hc.1
   refine(?_:bV Γ s _).trans (py aq l _ hc.2)
   have:=bV.Wx (Γ:=Γ) (f:=s.tmps) (g:=s.g) aq hr
   rw[hm] at this
   exact this
  ·rename_i es hr
   exact bV.trans (bV.Pc (Γ:=Γ) (f:=s.tmps) (g:=s.g) aq hr) (py aq l _ hc)
  ·exact py aq l s hc
end Go.Proofs.YtdcikhleahfknaaGreatDoor
