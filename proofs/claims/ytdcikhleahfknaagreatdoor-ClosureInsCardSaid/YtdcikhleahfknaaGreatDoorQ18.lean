/- Texts of ours laid together for a claim: VcL. -/
import Derived.Test.YtdcikhleahfknaaGreatDoorQ17
namespace Go.Proofs.YtdcikhleahfknaaGreatDoor
open Go
set_option linter.unusedSimpArgs false
set_option linter.unusedVariables false
variable {Γ:Env Unit} {s s':AS Unit} {a:Act} {w w':World} {η:List Value} {hp:List af}
def JC (r:Nat) (e:AV):AV→AV
 | .ptr r' o=>(match Nat.beq r r' with|true=>.aL e o|false=>.ptr r' o)
 |x=>x
def FJ (r:Nat) (e:AV):List AV→List AV
 | []=>[]
 |x::l=>JC r e x::FJ r e l
def JD (r:Nat) (e:AV):AV→AV
 | .ptr r' o=>(match Nat.beq r r' with|true=>.aL e o|false=>.ptr r' o)
 | .aK f caps=>.aK f (FJ r e caps)
 |x=>x
theorem Bc (r:Nat) (e:AV):∀(l:List AV),FJ r e l=l.map (JC r e)
 | []=>rfl
 |x::l=>by simp[FJ,Bc r e l]
theorem bX.Yb (ao:Γ.Ok) {f:Nat→AV} {g:Unit} {r:Nat} {cs:List AV} (hr:hp[r]?=some (.box cs)):bX Γ ⟨f,hp,g⟩ ⟨fun t=>JD r (AO (cs.map (AV.dF hp))) (f t),hp.set r .dead,g⟩:=by
 intro a w η h
 have ak:r<η.length:=by have:=h.heap.len;simp only at this;rw[this];exact(List.getElem?_eq_some_iff.1 hr).1
 have hv:η[r]?=some η[r]:=by simp[ak]
 obtain⟨b,vs,T,hb,iC,bC,fq⟩:=h.heap.obj r _ _ hr hv
 have dE:η.set r η[r]=η:=by
  apply List.ext_getElem?
  intro i
  by_cases hi:r=i
  ·subst hi;rw[aj hv,hv]
  ·rw[getElem?_set_ne hi]
 have hd:=Rel.change (w':=w) (o':=.dead) (v':=η[r]) ao h hr True.intro hv (bo.refl _ w) (fun b hb=>.inl hb) (fun k hk=>hk.elim) (fun _ _ _ _ hk _=>hk.elim) (fun _ _ _ _ hk _=>hk.elim)
  (fun n u ho=>by simp[aT,hr] at ho) (fun _ _=>rfl) (fun _ _=>rfl) (fun b' d er hd=>by rw[hb] at er;simp only[bU,Option.some.injEq] at er;subst er;rw[iC] at hd;cases hd) (fun _=>True.intro)
 rw[dE] at hd
 have hm:=h.bA r _ _ b hr True.intro hv (by rw[hb];rfl)
 have nb:∀k,aW Γ w η (hp.set r .dead) b k:=by
  intro k
  refine⟨.inr hm.1,ba iC,hm.2 _,?_⟩
  intro r1 u h1 wj
  by_cases bh:r=r1
  ·subst bh
   rw[aj hr];trivial
  ·rw[getElem?_set_ne bh]
   have JE:r1<hp.length:=by have:=h.heap.len;simp only at this;rw[←this];exact(List.getElem?_eq_some_iff.1 h1).1
   have ho:hp[r1]?=some hp[r1]:=by simp[JE]
   rw[ho]
   cases hk:hp[r1] with
   |dead=>trivial
   |box cs'=>exact(h.heap.sep r r1 _ (.box cs') _ u b bh hr (by rw[←hk];exact ho) True.intro True.intro hv h1 (by rw[hb];rfl) wj).elim
   |row e z els=>exact(h.heap.sep r r1 _ (.row e z els) _ u b bh hr (by rw[←hk];exact ho) True.intro True.intro hv h1 (by rw[hb];rfl) wj).elim
   |aB Xg=>exact(h.heap.sep r r1 _ (.aB Xg) _ u b bh hr (by rw[←hk];exact ho) True.intro True.intro hv h1 (by rw[hb];rfl) wj).elim
   |cA q k=>exact(h.heap.sep r r1 _ (.cA q k) _ u b bh hr (by rw[←hk];exact ho) True.intro True.intro hv h1 (by rw[hb];rfl) wj).elim
   |aI e z els=>exact(h.heap.sep r r1 _ (.aI e z els) _ u b bh hr (by rw[←hk];exact ho) True.intro True.intro hv h1 (by rw[hb];rfl) wj).elim
   |dB e m ns=>exact(h.heap.sep r r1 _ (.dB e m ns) _ u b bh hr (by rw[←hk];exact ho) True.intro True.intro hv h1 (by rw[hb];rfl) wj).elim
 have JF:∀b k,aW Γ w η hp b k→aW Γ w η (hp.set r .dead) b k:=by
  intro b k hf
  refine⟨hf.1,hf.2.1,hf.2.2.1,(aR b k).2 fun r1 u h1 wj=>?_⟩
  obtain⟨o,g1,g2⟩:=(aR b k).1 hf.2.2.2 r1 u h1 wj
  by_cases bh:r=r1
  ·subst bh;exact⟨.dead,aj hr,True.intro⟩
  ·exact⟨o,by rw[getElem?_set_ne bh];exact g1,g2⟩
 have key:∀(o:Nat) (v:Value) {iU:List Value} {ff:List af},aY w (aW Γ w η (hp.set r .dead)) η (hp.set r .dead) (.ptr r o) v→aY w (aW Γ w η (hp.set r .dead)) iU ff (.aL (AO (cs.map (AV.dF hp))) o) v:=by
  intro o v iU ff hp'
  cases hp' with
  |ptr _ _ b' er=>
   rw[hv,hb] at er
   simp only[Option.some.injEq,Value.pointer.injEq,Addr.mk.injEq,and_true] at er
   subst er
   have bR:∀(j:Nat) (x:AV),(cs.map (AV.dF hp))[j]?=some x→∃y u,cs[j]?=some y∧x=y.dF hp∧vs[j]?=some u:=by
    intro j x hx
    rw[List.getElem?_map] at hx
    cases hj:cs[j]? with
    |none=>rw[hj] at hx;cases hx
    |some y=>
     rw[hj] at hx
     obtain rfl:=Option.some.inj hx
     have:j<vs.size:=by rw[bC];exact(List.getElem?_eq_some_iff.1 hj).1
     exact⟨y,vs[j],rfl,rfl,by simp[this]⟩
   have hE:=aY.aL (w:=w) (F:=aW Γ w η (hp.set r .dead)) (η:=iU) (hp:=ff) (AO (cs.map (AV.dF hp))) o b 0 (fun j=>(vs[j]?).getD undef) (fun j x hx=>by
     rw[lD] at hx
     obtain⟨y,u,h1,h2,h3⟩:=bR j x hx
     refine⟨?_,nb _,?_⟩
     ·simp[World.cell?,iC,h3]
     ·simp only[h3,Option.getD_some];exact(fq j y u h1 h3).2) (fun j x hx=>by
     rw[lD] at hx
     obtain⟨y,u,h1,h2,h3⟩:=bR j x hx
     subst h2
     simp only[h3,Option.getD_some]
     exact(kz h.heap h.bA (fq j y u h1 h3).1).ext ⟨fun _ _ _ _ h=>h,fun _ _ _ _ h=>h,JF,fun _ _ h=>h,fun _ _ h=>h,fun _ _ _ h=>h⟩)
   rw[Nat.zero_add] at hE
   exact hE
 refine⟨η,hd.nt,fun t=>?_,hd.heap,hd.bA,hd.keeps,hd.inv,hd.marks,hd.ext⟩
 have ht:=hd.tmps t
 simp only at ht ⊢
 cases hx:f t with
 |ptr r' o=>
  rw[hx] at ht
  simp only[JD]
  split
  ·rename_i G8
   obtain rfl:=Nat.eq_of_beq_eq_true G8
   exact key o _ ht
  ·exact ht
 |aK fn caps=>
  rw[hx] at ht
  simp only[JD,Bc]
  generalize hvt:a.tmps.getD t undef=v at ht
  cases ht with
  |aK _ _ us hl M0=>
   refine .aK fn _ us (by simpa using hl) fun j y u hy hu=>?_
   rw[List.getElem?_map] at hy
   cases hj:caps[j]? with
   |none=>rw[hj] at hy;cases hy
   |some z=>
    rw[hj] at hy
    obtain rfl:=Option.some.inj hy
    have hz:=M0 j z u hj hu
    cases z with
    |ptr r' o=>
     simp only[JC]
     split
     ·rename_i G8
      obtain rfl:=Nat.eq_of_beq_eq_true G8
      exact key o _ hz
     ·exact hz
    |_=>exact hz
 |_=>rw[hx] at ht;exact ht
def RW (r:Nat) (es:ME):AV→AV
 | .mp r'=>if r=r' then .ea es else .mp r'
 |x=>x
def FK (r:Nat) (es:ME):List AV→List AV
 | []=>[]
 |x::l=>RW r es x::FK r es l
def JG (r:Nat) (es:ME):AV→AV
 | .mp r'=>if r=r' then .ea es else .mp r'
 | .agg cs=>.agg (FK r es cs)
 |x=>x
theorem Bd (r:Nat) (es:ME):∀(l:List AV),FK r es l=l.map (RW r es)
 | []=>rfl
 |x::l=>by simp[FK,Bd r es l]
theorem bX.QO (ao:Γ.Ok) {f:Nat→AV} {g:Unit} {r:Nat} {es:ME} (hr:hp[r]?=some (.aB es)):bX Γ ⟨f,hp,g⟩ ⟨fun t=>JG r es (f t),hp.set r .dead,g⟩:=by
 intro a w η h
 have ak:r<η.length:=by have:=h.heap.len;simp only at this;rw[this];exact(List.getElem?_eq_some_iff.1 hr).1
 have hv:η[r]?=some η[r]:=by simp[ak]
 obtain⟨b,en,c,hb,iC,uo⟩:=h.heap.obj r _ _ hr hv
 have dE:η.set r η[r]=η:=by
  apply List.ext_getElem?
  intro i
  by_cases hi:r=i
  ·subst hi;rw[aj hv,hv]
  ·rw[getElem?_set_ne hi]
 have hd:=Rel.change (w':=w) (o':=.dead) (v':=η[r]) ao h hr True.intro hv (bo.refl _ w) (fun b hb=>.inl hb) (fun k hk=>hk.elim) (fun _ _ _ _ hk _=>hk.elim) (fun _ _ _ _ hk _=>hk.elim)
  (fun n u ho=>by simp[aT,hr] at ho) (fun _ _=>rfl) (fun _ _=>rfl) (fun b' d er hd=>by rw[hb] at er;simp only[bU,Option.some.injEq] at er;subst er;rw[iC] at hd;cases hd) (fun _=>True.intro)
 rw[dE] at hd
 have key:∀{v:Value},aY w (aW Γ w η (hp.set r .dead)) η (hp.set r .dead) (.mp r) v→aY w (aW Γ w η (hp.set r .dead)) η (hp.set r .dead) (.ea es) v:=by
   intro v ht
   cases ht with
   |mp _ b' er=>
    rw[hv,hb] at er
    simp only[Option.some.injEq,Value.map.injEq] at er
    subst er
    have hm:=h.bA r _ _ b hr True.intro hv (by rw[hb];rfl)
    refine .ea b en c iC ⟨.inr hm.1,?_,hm.2 _,?_⟩ es uo
    ·exact(Array.getElem?_eq_some_iff.1 iC).1
    ·intro r1 u h1 wj
     by_cases bh:r=r1
     ·subst bh
      rw[aj hr];trivial
     ·rw[getElem?_set_ne bh]
      have JE:r1<hp.length:=by have:=h.heap.len;simp only at this;rw[←this];exact(List.getElem?_eq_some_iff.1 h1).1
      have ho:hp[r1]?=some hp[r1]:=by simp[JE]
      rw[ho]
      cases hk:hp[r1] with
      |dead=>trivial
      |box cs=>exact(h.heap.sep r r1 _ (.box cs) _ u b bh hr (by rw[←hk];exact ho) True.intro True.intro hv h1 (by rw[hb];rfl) wj).elim
      |row e z els=>exact(h.heap.sep r r1 _ (.row e z els) _ u b bh hr (by rw[←hk];exact ho) True.intro True.intro hv h1 (by rw[hb];rfl) wj).elim
      |aB Xg=>exact(h.heap.sep r r1 _ (.aB Xg) _ u b bh hr (by rw[←hk];exact ho) True.intro True.intro hv h1 (by rw[hb];rfl) wj).elim
      |cA q k=>exact(h.heap.sep r r1 _ (.cA q k) _ u b bh hr (by rw[←hk];exact ho) True.intro True.intro hv h1 (by rw[hb];rfl) wj).elim
      |aI e z els=>exact(h.heap.sep r r1 _ (.aI e z els) _ u b bh hr (by rw[←hk];exact ho) True.intro True.intro hv h1 (by rw[hb];rfl) wj).elim
      |dB e m ns=>exact(h.heap.sep r r1 _ (.dB e m ns) _ u b bh hr (by rw[←hk];exact ho) True.intro True.intro hv h1 (by rw[hb];rfl) wj).elim
 refine⟨η,hd.nt,fun t=>?_,hd.heap,hd.bA,hd.keeps,hd.inv,hd.marks,hd.ext⟩
 have ht:=hd.tmps t
 simp only at ht ⊢
 cases hx:f t with
 |mp r'=>
  rw[hx] at ht
  simp only[JG]
  split
  ·rename_i G8
   subst G8
   exact key ht
  ·exact ht
 |agg cs=>
  rw[hx] at ht
  simp only[JG,Bd]
  generalize hvt:a.tmps.getD t undef=v at ht
  cases ht with
  |agg _ us hl h1 M0=>
   refine .agg _ us (by simpa using hl) h1 fun j y u hy hu=>?_
   rw[List.getElem?_map] at hy
   cases hj:cs[j]? with
   |none=>rw[hj] at hy;cases hy
   |some z=>
    rw[hj] at hy
    obtain rfl:=Option.some.inj hy
    have hz:=M0 j z u hj hu
    cases z with
    |mp r'=>
     simp only[RW]
     split
     ·rename_i G8
      subst G8
      exact key hz
     ·exact hz
    |_=>exact hz
 |_=>rw[hx] at ht;exact ht
def JH:List AV→List Nat
 | []=>[]
 | .ptr r _::l=>r::JH l
 |_::l=>JH l
def JI:List AV→List Nat
 | []=>[]
 | .mp r::l=>r::JI l
 |_::l=>JI l
def yk:List AV→List Nat
 | []=>[]
 | .aK _ caps::l=>JH caps++yk l
 | .agg cs::l=>JI cs++yk l
 |_::l=>yk l
def jO:List Nat→AS Unit→List Prop×AS Unit
 | [],s=>([],s)
 |r::l,s=>(match s.hp[r]? with
  |some (.box cs)=>((cd (AV.iw s.hp) cs).1++(jO l ⟨fun t=>JD r (AO (cd (AV.iw s.hp) cs).2) (s.tmps t),s.hp.set r .dead,s.g⟩).1,
    (jO l ⟨fun t=>JD r (AO (cd (AV.iw s.hp) cs).2) (s.tmps t),s.hp.set r .dead,s.g⟩).2)
  |some (.aB es)=>jO l ⟨fun t=>JG r es (s.tmps t),s.hp.set r .dead,s.g⟩
  |_=>jO l s)
theorem pY (ao:Γ.Ok):∀(l:List Nat) (s:AS Unit),dI (jO l s).1→bX Γ s (jO l s).2
 | [],s,_=>.refl s
 |r::l,s,hc=>by
  simp only[jO] at hc ⊢
  split at hc
  ·rename_i cs hr
   rw[bt] at hc
   have hm:=bO (g:=AV.dF s.hp) (fun x=>kV) cs hc.1
   refine(?_:bX Γ s _).trans (pY ao l _ hc.2)
   have:=bX.Yb (Γ:=Γ) (f:=s.tmps) (g:=s.g) ao hr
   rw[hm] at this
   exact this
  ·rename_i es hr
   exact bX.trans (bX.QO (Γ:=Γ) (f:=s.tmps) (g:=s.g) ao hr) (pY ao l _ hc)
  ·exact pY ao l s hc
end Go.Proofs.YtdcikhleahfknaaGreatDoor
