/- Texts of ours laid together for a claim: VcL. -/
import Derived.Test.YtjhanogfpkbamaaGreatDoorQ17
namespace Go.Proofs.YtjhanogfpkbamaaGreatDoor
open Go
set_option linter.unusedSimpArgs false
set_option linter.unusedVariables false
variable {Γ:Env Unit} {s s':AS Unit} {a:Act} {w w':World} {η:List Value} {hp:List af}
def Nf (r:Nat) (e:AV):AV→AV
 | .ptr r' o=>(match Nat.beq r r' with|true=>.cL e o|false=>.ptr r' o)
 |x=>x
def I5 (r:Nat) (e:AV):List AV→List AV
 | []=>[]
 |x::l=>Nf r e x::I5 r e l
def Ng (r:Nat) (e:AV):AV→AV
 | .ptr r' o=>(match Nat.beq r r' with|true=>.cL e o|false=>.ptr r' o)
 | .ck f caps=>.ck f (I5 r e caps)
 |x=>x
theorem Er (r:Nat) (e:AV):∀(l:List AV),I5 r e l=l.map (Nf r e)
 | []=>rfl
 |x::l=>by simp[I5,Er r e l]
theorem cT.abQ (aD:Γ.Ok) {f:Nat→AV} {g:Unit} {r:Nat} {cs:List AV} (hr:hp[r]?=some (.box cs)):cT Γ ⟨f,hp,g⟩ ⟨fun t=>Ng r (D5 (cs.map (AV.fq hp))) (f t),hp.set r .dead,g⟩:=by
 intro a w η h
 have ay:r<η.length:=by have:=h.heap.len;simp only at this;rw[this];exact(ahY.1 hr).1
 have hv:η[r]?=some η[r]:=by simp[ay]
 obtain⟨b,vs,T,hb,lV,cJ,iK⟩:=h.heap.obj r _ _ hr hv
 have eS:η.set r η[r]=η:=by
  apply aiO
  intro i
  by_cases hi:r=i
  ·subst hi;rw[aA hv,hv]
  ·rw[getElem?_set_ne hi]
 have hd:=Rel.change (w':=w) (o':=.dead) (v':=η[r]) aD h hr True.intro hv (cD.refl _ w) (fun b hb=>.inl hb) (fun k hk=>hk.elim) (fun _ _ _ _ hk _=>hk.elim) (fun _ _ _ _ hk _=>hk.elim)
  (fun n u ho=>by simp[aY,hr] at ho) (fun _ _=>rfl) (fun _ _=>rfl) (fun b' d gb hd=>by rw[hb] at gb;simp only[dK,Option.some.injEq] at gb;subst gb;rw[lV] at hd;cases hd) (fun _=>True.intro)
 rw[eS] at hd
 have hm:=h.cE r _ _ b hr True.intro hv (by rw[hb];rfl)
 have wS:∀k,bn Γ w η (hp.set r .dead) b k:=by
  intro k
  refine⟨.inr hm.1,bY lV,hm.2 _,?_⟩
  intro r1 u h1 BU
  by_cases bK:r=r1
  ·subst bK
   rw[aA hr];trivial
  ·rw[getElem?_set_ne bK]
   have Nh:r1<hp.length:=by have:=h.heap.len;simp only at this;rw[←this];exact(ahY.1 h1).1
   have ho:hp[r1]?=some hp[r1]:=by simp[Nh]
   rw[ho]
   cases hk:hp[r1] with
   |dead=>trivial
   |box iP=>exact(h.heap.sep r r1 _ (.box iP) _ u b bK hr (by rw[←hk];exact ho) True.intro True.intro hv h1 (by rw[hb];rfl) BU).elim
   |row e z els=>exact(h.heap.sep r r1 _ (.row e z els) _ u b bK hr (by rw[←hk];exact ho) True.intro True.intro hv h1 (by rw[hb];rfl) BU).elim
   |cQ es'=>exact(h.heap.sep r r1 _ (.cQ es') _ u b bK hr (by rw[←hk];exact ho) True.intro True.intro hv h1 (by rw[hb];rfl) BU).elim
   |dD q k=>exact(h.heap.sep r r1 _ (.dD q k) _ u b bK hr (by rw[←hk];exact ho) True.intro True.intro hv h1 (by rw[hb];rfl) BU).elim
   |bM e z els=>exact(h.heap.sep r r1 _ (.bM e z els) _ u b bK hr (by rw[←hk];exact ho) True.intro True.intro hv h1 (by rw[hb];rfl) BU).elim
   |eH e m ns=>exact(h.heap.sep r r1 _ (.eH e m ns) _ u b bK hr (by rw[←hk];exact ho) True.intro True.intro hv h1 (by rw[hb];rfl) BU).elim
 have Rb:∀b k,bn Γ w η hp b k→bn Γ w η (hp.set r .dead) b k:=by
  intro b k hf
  refine⟨hf.1,hf.2.1,hf.2.2.1,(aZ b k).2 fun r1 u h1 BU=>?_⟩
  obtain⟨o,g1,g2⟩:=(aZ b k).1 hf.2.2.2 r1 u h1 BU
  by_cases bK:r=r1
  ·subst bK;exact⟨.dead,aA hr,True.intro⟩
  ·exact⟨o,by rw[getElem?_set_ne bK];exact g1,g2⟩
 have key:∀(o:Nat) (v:Value) {pL:List Value} {iM:List af},bw w (bn Γ w η (hp.set r .dead)) η (hp.set r .dead) (.ptr r o) v→bw w (bn Γ w η (hp.set r .dead)) pL iM (.cL (D5 (cs.map (AV.fq hp))) o) v:=by
  intro o v pL iM hp'
  cases hp' with
  |ptr _ _ b' gb=>
   rw[hv,hb] at gb
   simp only[Option.some.injEq,Value.pointer.injEq,Addr.mk.injEq,and_true] at gb
   subst gb
   have ep:∀(j:Nat) (x:AV),(cs.map (AV.fq hp))[j]?=some x→∃y u,cs[j]?=some y∧x=y.fq hp∧vs[j]?=some u:=by
    intro j x hx
    rw[aie] at hx
    cases hj:cs[j]? with
    |none=>rw[hj] at hx;cases hx
    |some y=>
     rw[hj] at hx
     obtain rfl:=Option.some.inj hx
     have:j<vs.size:=by rw[cJ];exact(ahY.1 hj).1
     exact⟨y,vs[j],rfl,rfl,by simp[this]⟩
   have hE:=bw.cL (w:=w) (F:=bn Γ w η (hp.set r .dead)) (η:=pL) (hp:=iM) (D5 (cs.map (AV.fq hp))) o b 0 (fun j=>(vs[j]?).getD undef) (fun j x hx=>by
     rw[nO] at hx
     obtain⟨y,u,h1,h2,h3⟩:=ep j x hx
     refine⟨?_,wS _,?_⟩
     ·simp[World.cell?,lV,h3]
     ·simp only[h3,aiP];exact(iK j y u h1 h3).2) (fun j x hx=>by
     rw[nO] at hx
     obtain⟨y,u,h1,h2,h3⟩:=ep j x hx
     subst h2
     simp only[h3,aiP]
     exact(mL h.heap h.cE (iK j y u h1 h3).1).ext ⟨fun _ _ _ _ h=>h,fun _ _ _ _ h=>h,Rb,fun _ _ h=>h,fun _ _ h=>h,fun _ _ _ h=>h⟩)
   rw[aiw] at hE
   exact hE
 refine⟨η,hd.nt,fun t=>?_,hd.heap,hd.cE,hd.keeps,hd.inv,hd.marks,hd.ext⟩
 have ht:=hd.tmps t
 simp only at ht ⊢
 cases hx:f t with
 |ptr r' o=>
  rw[hx] at ht
  simp only[Ng]
  split
  ·rename_i KZ
   obtain rfl:=ain KZ
   exact key o _ ht
  ·exact ht
 |ck fn caps=>
  rw[hx] at ht
  simp only[Ng,Er]
  generalize hvt:a.tmps.getD t undef=v at ht
  cases ht with
  |ck _ _ us hl UZ=>
   refine .ck fn _ us (by simpa using hl) fun j y u hy hu=>?_
   rw[aie] at hy
   cases hj:caps[j]? with
   |none=>rw[hj] at hy;cases hy
   |some z=>
    rw[hj] at hy
    obtain rfl:=Option.some.inj hy
    have hz:=UZ j z u hj hu
    cases z with
    |ptr r' o=>
     simp only[Nf]
     split
     ·rename_i KZ
      obtain rfl:=ain KZ
      exact key o _ hz
     ·exact hz
    |_=>exact hz
 |_=>rw[hx] at ht;exact ht
def VY (r:Nat) (es:ME):AV→AV
 | .mp r'=>if r=r' then .fH es else .mp r'
 |x=>x
def I6 (r:Nat) (es:ME):List AV→List AV
 | []=>[]
 |x::l=>VY r es x::I6 r es l
def Ni (r:Nat) (es:ME):AV→AV
 | .mp r'=>if r=r' then .fH es else .mp r'
 | .agg cs=>.agg (I6 r es cs)
 |x=>x
theorem Es (r:Nat) (es:ME):∀(l:List AV),I6 r es l=l.map (VY r es)
 | []=>rfl
 |x::l=>by simp[I6,Es r es l]
theorem cT.frz (aD:Γ.Ok) {f:Nat→AV} {g:Unit} {r:Nat} {es:ME} (hr:hp[r]?=some (.cQ es)):cT Γ ⟨f,hp,g⟩ ⟨fun t=>Ni r es (f t),hp.set r .dead,g⟩:=by
 intro a w η h
 have ay:r<η.length:=by have:=h.heap.len;simp only at this;rw[this];exact(ahY.1 hr).1
 have hv:η[r]?=some η[r]:=by simp[ay]
 obtain⟨b,en,c,hb,lV,yt⟩:=h.heap.obj r _ _ hr hv
 have eS:η.set r η[r]=η:=by
  apply aiO
  intro i
  by_cases hi:r=i
  ·subst hi;rw[aA hv,hv]
  ·rw[getElem?_set_ne hi]
 have hd:=Rel.change (w':=w) (o':=.dead) (v':=η[r]) aD h hr True.intro hv (cD.refl _ w) (fun b hb=>.inl hb) (fun k hk=>hk.elim) (fun _ _ _ _ hk _=>hk.elim) (fun _ _ _ _ hk _=>hk.elim)
  (fun n u ho=>by simp[aY,hr] at ho) (fun _ _=>rfl) (fun _ _=>rfl) (fun b' d gb hd=>by rw[hb] at gb;simp only[dK,Option.some.injEq] at gb;subst gb;rw[lV] at hd;cases hd) (fun _=>True.intro)
 rw[eS] at hd
 have key:∀{v:Value},bw w (bn Γ w η (hp.set r .dead)) η (hp.set r .dead) (.mp r) v→bw w (bn Γ w η (hp.set r .dead)) η (hp.set r .dead) (.fH es) v:=by
   intro v ht
   cases ht with
   |mp _ b' gb=>
    rw[hv,hb] at gb
    simp only[Option.some.injEq,Value.map.injEq] at gb
    subst gb
    have hm:=h.cE r _ _ b hr True.intro hv (by rw[hb];rfl)
    refine .fH b en c lV ⟨.inr hm.1,?_,hm.2 _,?_⟩ es yt
    ·exact(ail.1 lV).1
    ·intro r1 u h1 BU
     by_cases bK:r=r1
     ·subst bK
      rw[aA hr];trivial
     ·rw[getElem?_set_ne bK]
      have Nh:r1<hp.length:=by have:=h.heap.len;simp only at this;rw[←this];exact(ahY.1 h1).1
      have ho:hp[r1]?=some hp[r1]:=by simp[Nh]
      rw[ho]
      cases hk:hp[r1] with
      |dead=>trivial
      |box cs=>exact(h.heap.sep r r1 _ (.box cs) _ u b bK hr (by rw[←hk];exact ho) True.intro True.intro hv h1 (by rw[hb];rfl) BU).elim
      |row e z els=>exact(h.heap.sep r r1 _ (.row e z els) _ u b bK hr (by rw[←hk];exact ho) True.intro True.intro hv h1 (by rw[hb];rfl) BU).elim
      |cQ es'=>exact(h.heap.sep r r1 _ (.cQ es') _ u b bK hr (by rw[←hk];exact ho) True.intro True.intro hv h1 (by rw[hb];rfl) BU).elim
      |dD q k=>exact(h.heap.sep r r1 _ (.dD q k) _ u b bK hr (by rw[←hk];exact ho) True.intro True.intro hv h1 (by rw[hb];rfl) BU).elim
      |bM e z els=>exact(h.heap.sep r r1 _ (.bM e z els) _ u b bK hr (by rw[←hk];exact ho) True.intro True.intro hv h1 (by rw[hb];rfl) BU).elim
      |eH e m ns=>exact(h.heap.sep r r1 _ (.eH e m ns) _ u b bK hr (by rw[←hk];exact ho) True.intro True.intro hv h1 (by rw[hb];rfl) BU).elim
 refine⟨η,hd.nt,fun t=>?_,hd.heap,hd.cE,hd.keeps,hd.inv,hd.marks,hd.ext⟩
 have ht:=hd.tmps t
 simp only at ht ⊢
 cases hx:f t with
 |mp r'=>
  rw[hx] at ht
  simp only[Ni]
  split
  ·rename_i KZ
   subst KZ
   exact key ht
  ·exact ht
 |agg cs=>
  rw[hx] at ht
  simp only[Ni,Es]
  generalize hvt:a.tmps.getD t undef=v at ht
  cases ht with
  |agg _ us hl h1 UZ=>
   refine .agg _ us (by simpa using hl) h1 fun j y u hy hu=>?_
   rw[aie] at hy
   cases hj:cs[j]? with
   |none=>rw[hj] at hy;cases hy
   |some z=>
    rw[hj] at hy
    obtain rfl:=Option.some.inj hy
    have hz:=UZ j z u hj hu
    cases z with
    |mp r'=>
     simp only[VY]
     split
     ·rename_i KZ
      subst KZ
      exact key hz
     ·exact hz
    |_=>exact hz
 |_=>rw[hx] at ht;exact ht
def Nj:List AV→List Nat
 | []=>[]
 | .ptr r _::l=>r::Nj l
 |_::l=>Nj l
def Nk:List AV→List Nat
 | []=>[]
 | .mp r::l=>r::Nk l
 |_::l=>Nk l
def BV:List AV→List Nat
 | []=>[]
 | .ck _ caps::l=>Nj caps++BV l
 | .agg cs::l=>Nk cs++BV l
 |_::l=>BV l
def l7:List Nat→AS Unit→List Prop×AS Unit
 | [],s=>([],s)
 |r::l,s=>(match s.hp[r]? with
  |some (.box cs)=>((dw (AV.ko s.hp) cs).1++(l7 l ⟨fun t=>Ng r (D5 (dw (AV.ko s.hp) cs).2) (s.tmps t),s.hp.set r .dead,s.g⟩).1,
    (l7 l ⟨fun t=>Ng r (D5 (dw (AV.ko s.hp) cs).2) (s.tmps t),s.hp.set r .dead,s.g⟩).2)
  |some (.cQ es)=>l7 l ⟨fun t=>Ni r es (s.tmps t),s.hp.set r .dead,s.g⟩
  |_=>l7 l s)
theorem tA (aD:Γ.Ok):∀(l:List Nat) (s:AS Unit),eY (l7 l s).1→cT Γ s (l7 l s).2
 | [],s,_=>.refl s
 |r::l,s,hc=>by
  simp only[l7] at hc ⊢
  split at hc
  ·rename_i cs hr
   rw[bT] at hc
   have hm:=cI (g:=AV.fq s.hp) (fun x=>ng) cs hc.1
   refine(?_:cT Γ s _).trans (tA aD l _ hc.2)
   have:=cT.abQ (Γ:=Γ) (f:=s.tmps) (g:=s.g) aD hr
   rw[hm] at this
   exact this
  ·rename_i es hr
   exact cT.trans (cT.frz (Γ:=Γ) (f:=s.tmps) (g:=s.g) aD hr) (tA aD l _ hc)
  ·exact tA aD l s hc
end Go.Proofs.YtjhanogfpkbamaaGreatDoor
