/- Texts of ours laid together for a claim: VcL. -/
import Derived.Test.YtjhanogfpkbamaaGreatDoorQ17
namespace Go.Proofs.YtjhanogfpkbamaaGreatDoor
open Go
set_option linter.unusedSimpArgs false
set_option linter.unusedVariables false
variable {Γ:Env Unit} {s s':AS Unit} {a:Act} {w w':World} {η:List Value} {hp:List AObj}
def frzP0 (r:Nat) (e:AV):AV→AV
 | .ptr r' o=>(match Nat.beq r r' with|true=>.eptr e o|false=>.ptr r' o)
 |x=>x
def frzPs (r:Nat) (e:AV):List AV→List AV
 | []=>[]
 |x::l=>frzP0 r e x::frzPs r e l
def frzP (r:Nat) (e:AV):AV→AV
 | .ptr r' o=>(match Nat.beq r r' with|true=>.eptr e o|false=>.ptr r' o)
 | .clo f caps=>.clo f (frzPs r e caps)
 |x=>x
theorem frzPs_eq (r:Nat) (e:AV):∀(l:List AV),frzPs r e l=l.map (frzP0 r e)
 | []=>rfl
 |x::l=>by simp[frzPs,frzPs_eq r e l]
theorem Weak.frzB (hok:Γ.Ok) {f:Nat→AV} {g:Unit} {r:Nat} {cs:List AV} (hr:hp[r]?=some (.box cs)):Weak Γ ⟨f,hp,g⟩ ⟨fun t=>frzP r (boxE (cs.map (AV.dataC hp))) (f t),hp.set r .dead,g⟩:=by
 intro a w η h
 have hlt:r<η.length:=by have:=h.heap.len;simp only at this;rw[this];exact(List.getElem?_eq_some_iff.1 hr).1
 have hv:η[r]?=some η[r]:=by simp[hlt]
 obtain⟨b,vs,T,hb,hheap,hsz,hcs⟩:=h.heap.obj r _ _ hr hv
 have hη:η.set r η[r]=η:=by
  apply List.ext_getElem?
  intro i
  by_cases hi:r=i
  ·subst hi;rw[getElem?_set_same hv,hv]
  ·rw[getElem?_set_ne hi]
 have hd:=Rel.change (w':=w) (o':=.dead) (v':=η[r]) hok h hr True.intro hv (Keeps.refl _ w) (fun b hb=>.inl hb) (fun k hk=>hk.elim) (fun _ _ _ _ hk _=>hk.elim) (fun _ _ _ _ hk _=>hk.elim)
  (fun n u ho=>by simp[OwnOk,hr] at ho) (fun _ _=>rfl) (fun _ _=>rfl) (fun b' d hb' hd=>by rw[hb] at hb';simp only[blk,Option.some.injEq] at hb';subst hb';rw[hheap] at hd;cases hd) (fun _=>True.intro)
 rw[hη] at hd
 have hm:=h.mine r _ _ b hr True.intro hv (by rw[hb];rfl)
 have hnew:∀k,Fok Γ w η (hp.set r .dead) b k:=by
  intro k
  refine⟨.inr hm.1,block_lt hheap,hm.2 _,?_⟩
  intro r1 u h1 hb1
  by_cases hne:r=r1
  ·subst hne
   rw[getElem?_set_same hr];trivial
  ·rw[getElem?_set_ne hne]
   have hlt1:r1<hp.length:=by have:=h.heap.len;simp only at this;rw[←this];exact(List.getElem?_eq_some_iff.1 h1).1
   have ho:hp[r1]?=some hp[r1]:=by simp[hlt1]
   rw[ho]
   cases hk:hp[r1] with
   |dead=>trivial
   |box cs'=>exact(h.heap.sep r r1 _ (.box cs') _ u b hne hr (by rw[←hk];exact ho) True.intro True.intro hv h1 (by rw[hb];rfl) hb1).elim
   |row e z els=>exact(h.heap.sep r r1 _ (.row e z els) _ u b hne hr (by rw[←hk];exact ho) True.intro True.intro hv h1 (by rw[hb];rfl) hb1).elim
   |mapo es'=>exact(h.heap.sep r r1 _ (.mapo es') _ u b hne hr (by rw[←hk];exact ho) True.intro True.intro hv h1 (by rw[hb];rfl) hb1).elim
   |bld q k=>exact(h.heap.sep r r1 _ (.bld q k) _ u b hne hr (by rw[←hk];exact ho) True.intro True.intro hv h1 (by rw[hb];rfl) hb1).elim
   |mrow e z els=>exact(h.heap.sep r r1 _ (.mrow e z els) _ u b hne hr (by rw[←hk];exact ho) True.intro True.intro hv h1 (by rw[hb];rfl) hb1).elim
 have hsub:∀b k,Fok Γ w η hp b k→Fok Γ w η (hp.set r .dead) b k:=by
  intro b k hf
  refine⟨hf.1,hf.2.1,hf.2.2.1,(objF_iff b k).2 fun r1 u h1 hb1=>?_⟩
  obtain⟨o,g1,g2⟩:=(objF_iff b k).1 hf.2.2.2 r1 u h1 hb1
  by_cases hne:r=r1
  ·subst hne;exact⟨.dead,getElem?_set_same hr,True.intro⟩
  ·exact⟨o,by rw[getElem?_set_ne hne];exact g1,g2⟩
 have key:∀(o:Nat) (v:Value) {η1:List Value} {hp1:List AObj},Rep w (Fok Γ w η (hp.set r .dead)) η (hp.set r .dead) (.ptr r o) v→Rep w (Fok Γ w η (hp.set r .dead)) η1 hp1 (.eptr (boxE (cs.map (AV.dataC hp))) o) v:=by
  intro o v η1 hp1 hp'
  cases hp' with
  |ptr _ _ b' hb'=>
   rw[hv,hb] at hb'
   simp only[Option.some.injEq,Value.pointer.injEq,Addr.mk.injEq,and_true] at hb'
   subst hb'
   have hget:∀(j:Nat) (x:AV),(cs.map (AV.dataC hp))[j]?=some x→∃y u,cs[j]?=some y∧x=y.dataC hp∧vs[j]?=some u:=by
    intro j x hx
    rw[List.getElem?_map] at hx
    cases hj:cs[j]? with
    |none=>rw[hj] at hx;cases hx
    |some y=>
     rw[hj] at hx
     obtain rfl:=Option.some.inj hx
     have:j<vs.size:=by rw[hsz];exact(List.getElem?_eq_some_iff.1 hj).1
     exact⟨y,vs[j],rfl,rfl,by simp[this]⟩
   have hE:=Rep.eptr (w:=w) (F:=Fok Γ w η (hp.set r .dead)) (η:=η1) (hp:=hp1) (boxE (cs.map (AV.dataC hp))) o b 0 (fun j=>(vs[j]?).getD undef) (fun j x hx=>by
     rw[boxE_cells] at hx
     obtain⟨y,u,h1,h2,h3⟩:=hget j x hx
     refine⟨?_,hnew _,?_⟩
     ·simp[World.cell?,hheap,h3]
     ·simp only[h3,Option.getD_some];exact(hcs j y u h1 h3).2) (fun j x hx=>by
     rw[boxE_cells] at hx
     obtain⟨y,u,h1,h2,h3⟩:=hget j x hx
     subst h2
     simp only[h3,Option.getD_some]
     exact(dataC_rep h.heap h.mine (hcs j y u h1 h3).1).ext ⟨fun _ _ _ _ h=>h,fun _ _ _ _ h=>h,hsub,fun _ _ h=>h,fun _ _ h=>h,fun _ _ _ h=>h⟩)
   rw[Nat.zero_add] at hE
   exact hE
 refine⟨η,hd.nt,fun t=>?_,hd.heap,hd.mine,hd.keeps,hd.inv,hd.marks,hd.ext⟩
 have ht:=hd.tmps t
 simp only at ht ⊢
 cases hx:f t with
 |ptr r' o=>
  rw[hx] at ht
  simp only[frzP]
  split
  ·rename_i hrr
   obtain rfl:=Nat.eq_of_beq_eq_true hrr
   exact key o _ ht
  ·exact ht
 |clo fn caps=>
  rw[hx] at ht
  simp only[frzP,frzPs_eq]
  generalize hvt:a.tmps.getD t undef=v at ht
  cases ht with
  |clo _ _ us hl hrp=>
   refine .clo fn _ us (by simpa using hl) fun j y u hy hu=>?_
   rw[List.getElem?_map] at hy
   cases hj:caps[j]? with
   |none=>rw[hj] at hy;cases hy
   |some z=>
    rw[hj] at hy
    obtain rfl:=Option.some.inj hy
    have hz:=hrp j z u hj hu
    cases z with
    |ptr r' o=>
     simp only[frzP0]
     split
     ·rename_i hrr
      obtain rfl:=Nat.eq_of_beq_eq_true hrr
      exact key o _ hz
     ·exact hz
    |_=>exact hz
 |_=>rw[hx] at ht;exact ht
def frzC (r:Nat) (es:ME):AV→AV
 | .mp r'=>if r=r' then .mapv es else .mp r'
 |x=>x
def frzCs (r:Nat) (es:ME):List AV→List AV
 | []=>[]
 |x::l=>frzC r es x::frzCs r es l
def frzV (r:Nat) (es:ME):AV→AV
 | .mp r'=>if r=r' then .mapv es else .mp r'
 | .agg cs=>.agg (frzCs r es cs)
 |x=>x
theorem frzCs_eq (r:Nat) (es:ME):∀(l:List AV),frzCs r es l=l.map (frzC r es)
 | []=>rfl
 |x::l=>by simp[frzCs,frzCs_eq r es l]
theorem Weak.frz (hok:Γ.Ok) {f:Nat→AV} {g:Unit} {r:Nat} {es:ME} (hr:hp[r]?=some (.mapo es)):Weak Γ ⟨f,hp,g⟩ ⟨fun t=>frzV r es (f t),hp.set r .dead,g⟩:=by
 intro a w η h
 have hlt:r<η.length:=by have:=h.heap.len;simp only at this;rw[this];exact(List.getElem?_eq_some_iff.1 hr).1
 have hv:η[r]?=some η[r]:=by simp[hlt]
 obtain⟨b,en,c,hb,hheap,hpairs⟩:=h.heap.obj r _ _ hr hv
 have hη:η.set r η[r]=η:=by
  apply List.ext_getElem?
  intro i
  by_cases hi:r=i
  ·subst hi;rw[getElem?_set_same hv,hv]
  ·rw[getElem?_set_ne hi]
 have hd:=Rel.change (w':=w) (o':=.dead) (v':=η[r]) hok h hr True.intro hv (Keeps.refl _ w) (fun b hb=>.inl hb) (fun k hk=>hk.elim) (fun _ _ _ _ hk _=>hk.elim) (fun _ _ _ _ hk _=>hk.elim)
  (fun n u ho=>by simp[OwnOk,hr] at ho) (fun _ _=>rfl) (fun _ _=>rfl) (fun b' d hb' hd=>by rw[hb] at hb';simp only[blk,Option.some.injEq] at hb';subst hb';rw[hheap] at hd;cases hd) (fun _=>True.intro)
 rw[hη] at hd
 have key:∀{v:Value},Rep w (Fok Γ w η (hp.set r .dead)) η (hp.set r .dead) (.mp r) v→Rep w (Fok Γ w η (hp.set r .dead)) η (hp.set r .dead) (.mapv es) v:=by
   intro v ht
   cases ht with
   |mp _ b' hb'=>
    rw[hv,hb] at hb'
    simp only[Option.some.injEq,Value.map.injEq] at hb'
    subst hb'
    have hm:=h.mine r _ _ b hr True.intro hv (by rw[hb];rfl)
    refine .mapv b en c hheap ⟨.inr hm.1,?_,hm.2 _,?_⟩ es hpairs
    ·exact(Array.getElem?_eq_some_iff.1 hheap).1
    ·intro r1 u h1 hb1
     by_cases hne:r=r1
     ·subst hne
      rw[getElem?_set_same hr];trivial
     ·rw[getElem?_set_ne hne]
      have hlt1:r1<hp.length:=by have:=h.heap.len;simp only at this;rw[←this];exact(List.getElem?_eq_some_iff.1 h1).1
      have ho:hp[r1]?=some hp[r1]:=by simp[hlt1]
      rw[ho]
      cases hk:hp[r1] with
      |dead=>trivial
      |box cs=>exact(h.heap.sep r r1 _ (.box cs) _ u b hne hr (by rw[←hk];exact ho) True.intro True.intro hv h1 (by rw[hb];rfl) hb1).elim
      |row e z els=>exact(h.heap.sep r r1 _ (.row e z els) _ u b hne hr (by rw[←hk];exact ho) True.intro True.intro hv h1 (by rw[hb];rfl) hb1).elim
      |mapo es'=>exact(h.heap.sep r r1 _ (.mapo es') _ u b hne hr (by rw[←hk];exact ho) True.intro True.intro hv h1 (by rw[hb];rfl) hb1).elim
      |bld q k=>exact(h.heap.sep r r1 _ (.bld q k) _ u b hne hr (by rw[←hk];exact ho) True.intro True.intro hv h1 (by rw[hb];rfl) hb1).elim
      |mrow e z els=>exact(h.heap.sep r r1 _ (.mrow e z els) _ u b hne hr (by rw[←hk];exact ho) True.intro True.intro hv h1 (by rw[hb];rfl) hb1).elim
 refine⟨η,hd.nt,fun t=>?_,hd.heap,hd.mine,hd.keeps,hd.inv,hd.marks,hd.ext⟩
 have ht:=hd.tmps t
 simp only at ht ⊢
 cases hx:f t with
 |mp r'=>
  rw[hx] at ht
  simp only[frzV]
  split
  ·rename_i hrr
   subst hrr
   exact key ht
  ·exact ht
 |agg cs=>
  rw[hx] at ht
  simp only[frzV,frzCs_eq]
  generalize hvt:a.tmps.getD t undef=v at ht
  cases ht with
  |agg _ us hl h1 hrp=>
   refine .agg _ us (by simpa using hl) h1 fun j y u hy hu=>?_
   rw[List.getElem?_map] at hy
   cases hj:cs[j]? with
   |none=>rw[hj] at hy;cases hy
   |some z=>
    rw[hj] at hy
    obtain rfl:=Option.some.inj hy
    have hz:=hrp j z u hj hu
    cases z with
    |mp r'=>
     simp only[frzC]
     split
     ·rename_i hrr
      subst hrr
      exact key hz
     ·exact hz
    |_=>exact hz
 |_=>rw[hx] at ht;exact ht
def heldB:List AV→List Nat
 | []=>[]
 | .ptr r _::l=>r::heldB l
 |_::l=>heldB l
def heldM:List AV→List Nat
 | []=>[]
 | .mp r::l=>r::heldM l
 |_::l=>heldM l
def heldBs:List AV→List Nat
 | []=>[]
 | .clo _ caps::l=>heldB caps++heldBs l
 | .agg cs::l=>heldM cs++heldBs l
 |_::l=>heldBs l
def frzBs:List Nat→AS Unit→List Prop×AS Unit
 | [],s=>([],s)
 |r::l,s=>(match s.hp[r]? with
  |some (.box cs)=>((mapD (AV.dataC' s.hp) cs).1++(frzBs l ⟨fun t=>frzP r (boxE (mapD (AV.dataC' s.hp) cs).2) (s.tmps t),s.hp.set r .dead,s.g⟩).1,
    (frzBs l ⟨fun t=>frzP r (boxE (mapD (AV.dataC' s.hp) cs).2) (s.tmps t),s.hp.set r .dead,s.g⟩).2)
  |some (.mapo es)=>frzBs l ⟨fun t=>frzV r es (s.tmps t),s.hp.set r .dead,s.g⟩
  |_=>frzBs l s)
theorem frzBs_ok (hok:Γ.Ok):∀(l:List Nat) (s:AS Unit),allP (frzBs l s).1→Weak Γ s (frzBs l s).2
 | [],s,_=>.refl s
 |r::l,s,hc=>by
  simp only[frzBs] at hc ⊢
  split at hc
  ·rename_i cs hr
   rw[allP_append] at hc
   have hm:=mapD_ok (g:=AV.dataC s.hp) (fun x=>dataC'_ok) cs hc.1
   refine(?_:Weak Γ s _).trans (frzBs_ok hok l _ hc.2)
   have:=Weak.frzB (Γ:=Γ) (f:=s.tmps) (g:=s.g) hok hr
   rw[hm] at this
   exact this
  ·rename_i es hr
   exact Weak.trans (Weak.frz (Γ:=Γ) (f:=s.tmps) (g:=s.g) hok hr) (frzBs_ok hok l _ hc)
  ·exact frzBs_ok hok l s hc
end Go.Proofs.YtjhanogfpkbamaaGreatDoor
