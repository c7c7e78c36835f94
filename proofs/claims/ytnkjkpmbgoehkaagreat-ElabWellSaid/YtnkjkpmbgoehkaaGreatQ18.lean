/- Lemmas. -/
import Derived.Test.YtnkjkpmbgoehkaaGreatQ17
namespace Go.Proofs.YtnkjkpmbgoehkaaGreat
open Go
open _root_.True renaming intro->ai
set_option linter.unusedSimpArgs false
set_option linter.unusedVariables false
variable {Γ:Env Unit} {s s':AS Unit} {a:Act} {w w':World} {η:List Value} {hp:List aw}
def RB (r:Nat) (e:AV):AV->AV
 | .ptr r' o=>(match Nat.beq r r' with|true=>.aW e o|false=>.ptr r' o)
 |x=>x
def L6 (r:Nat) (e:AV):List AV->List AV
 | []=>[]
 |x::l=>RB r e x::L6 r e l
def RC (r:Nat) (e:AV):AV->AV
 | .ptr r' o=>(match Nat.beq r r' with|true=>.aW e o|false=>.ptr r' o)
 | .bz f caps=>.bz f (L6 r e caps)
 |x=>x
theorem Gl (r:Nat) (e:AV):∀(l:List AV),L6 r e l=l.map (RB r e)
 | []=>rfl
 |x::l=>by simp[L6,Gl r e l]
theorem cR.ajS (aE:Γ.Ok) {f:Nat->AV} {g:Unit} {r:Nat} {cs:List AV} (hr:hp[r]?=some (.box cs)):cR Γ ⟨f,hp,g⟩ ⟨fun t=>RC r (FV (cs.map (AV.eG hp))) (f t),hp.set r .dead,g⟩:=by
 intro a w η h;have aH:r<η.length:=by have:=h.heap.len;simp only at this;rw[this];exact(aqr.1 hr).1
 have hv:η[r]?=some η[r]:=by simp[aH]
 obtain⟨b,vs,T,hb,kX,cx,iV⟩:=h.heap.obj r _ _ hr hv;have fF:η.set r η[r]=η:=by
  apply ark;intro i
  by_cases hi:r=i
  ·subst hi;rw[aB hv,hv]
  ·rw[getElem?_set_ne hi]
 have hd:=Rel.change (w':=w) (o':=.dead) (v':=η[r]) aE h hr ai hv (cG.refl _ w) (fun b hb=>.inl hb) (fun k hk=>hk.elim) (fun _ _ _ _ hk _=>hk.elim) (fun _ _ _ _ hk _=>hk.elim)
  (fun n u ho=>by simp[bl,hr] at ho) (fun _ _=>rfl) (fun _ _=>rfl) (fun b' d gz hd=>by rw[hb] at gz;simp only[dO,aqq] at gz;subst gz;rw[kX] at hd;cases hd) (fun _=>ai)
 rw[fF] at hd;have hm:=h.cq r _ _ b hr ai hv (by rw[hb];rfl);have xV:∀k,bt Γ w η (hp.set r .dead) b k:=by
  intro k;refine⟨.inr hm.1,bX kX,hm.2 _,?_⟩;intro r1 u h1 ui
  by_cases cg:r=r1
  ·subst cg;rw[aB hr];trivial
  ·rw[getElem?_set_ne cg];have RD:r1<hp.length:=by have:=h.heap.len;simp only at this;rw[<-this];exact(aqr.1 h1).1
   have ho:hp[r1]?=some hp[r1]:=by simp[RD]
   rw[ho]
   cases hk:hp[r1] with
   |dead=>trivial
   |box gi=>exact(h.heap.sep r r1 _ (.box gi) _ u b cg hr (by rw[<-hk];exact ho) ai ai hv h1 (by rw[hb];rfl) ui).elim
   |row e z els=>exact(h.heap.sep r r1 _ (.row e z els) _ u b cg hr (by rw[<-hk];exact ho) ai ai hv h1 (by rw[hb];rfl) ui).elim
   |cE es'=>exact(h.heap.sep r r1 _ (.cE es') _ u b cg hr (by rw[<-hk];exact ho) ai ai hv h1 (by rw[hb];rfl) ui).elim
   |jy q k=>exact(h.heap.sep r r1 _ (.jy q k) _ u b cg hr (by rw[<-hk];exact ho) ai ai hv h1 (by rw[hb];rfl) ui).elim
   |bj e z els=>exact(h.heap.sep r r1 _ (.bj e z els) _ u b cg hr (by rw[<-hk];exact ho) ai ai hv h1 (by rw[hb];rfl) ui).elim
   |fz e m ns=>exact(h.heap.sep r r1 _ (.fz e m ns) _ u b cg hr (by rw[<-hk];exact ho) ai ai hv h1 (by rw[hb];rfl) ui).elim
 have RE:∀b k,bt Γ w η hp b k->bt Γ w η (hp.set r .dead) b k:=by
  intro b k hf;refine⟨hf.1,hf.2.1,hf.2.2.1,(bm b k).2 fun r1 u h1 ui=>?_⟩;obtain⟨o,g1,g2⟩:=(bm b k).1 hf.2.2.2 r1 u h1 ui
  by_cases cg:r=r1
  ·subst cg;exact⟨.dead,aB hr,ai⟩
  ·exact⟨o,by rw[getElem?_set_ne cg];exact g1,g2⟩
 have key:∀(o:Nat) (v:Value) {oR:List Value} {jC:List aw},bB w (bt Γ w η (hp.set r .dead)) η (hp.set r .dead) (.ptr r o) v->bB w (bt Γ w η (hp.set r .dead)) oR jC (.aW (FV (cs.map (AV.eG hp))) o) v:=by
  intro o v oR jC hp'
  cases hp' with
  |ptr _ _ b' gz=>
   rw[hv,hb] at gz;simp only[aqq,Value.pointer.injEq,Addr.mk.injEq,and_true] at gz;subst gz;have eg:∀(j:Nat) (x:AV),(cs.map (AV.eG hp))[j]?=some x->∃y u,cs[j]?=some y/\x=y.eG hp/\vs[j]?=some u:=by
    intro j x hx;rw[aqE] at hx
    cases hj:cs[j]? with
    |none=>rw[hj] at hx;cases hx
    |some y=>
     rw[hj] at hx;obtain rfl:=aqs hx;have:j<vs.size:=by rw[cx];exact(aqr.1 hj).1
     exact⟨y,vs[j],rfl,rfl,by simp[this]⟩
   have hE:=bB.aW (w:=w) (F:=bt Γ w η (hp.set r .dead)) (η:=oR) (hp:=jC) (FV (cs.map (AV.eG hp))) o b 0 (fun j=>(vs[j]?).getD undef) (fun j x hx=>by
     rw[pa] at hx;obtain⟨y,u,h1,h2,h3⟩:=eg j x hx;refine⟨?_,xV _,?_⟩
     ·simp[World.cell?,kX,h3]
     ·simp only[h3,aq9];exact(iV j y u h1 h3).2) (fun j x hx=>by
     rw[pa] at hx;obtain⟨y,u,h1,h2,h3⟩:=eg j x hx;subst h2;simp only[h3,aq9]
     exact(lG h.heap h.cq (iV j y u h1 h3).1).ext ⟨fun _ _ _ _ h=>h,fun _ _ _ _ h=>h,RE,fun _ _ h=>h,fun _ _ h=>h,fun _ _ _ h=>h⟩)
   rw[aqV] at hE;exact hE
 refine⟨η,hd.nt,fun t=>?_,hd.heap,hd.cq,hd.keeps,hd.inv,hd.marks,hd.ext⟩;have ht:=hd.tmps t;simp only at ht ⊢
 cases hx:f t with
 |ptr r' o=>
  rw[hx] at ht;simp only[RC];split
  ·rename_i OU;obtain rfl:=aqN OU;exact key o _ ht
  ·exact ht
 |bz fn caps=>
  rw[hx] at ht;simp only[RC,Gl];generalize hvt:a.tmps.getD t undef=v at ht
  cases ht with
  |bz _ _ us hl W2=>
   refine .bz fn _ us (by simpa using hl) fun j y u hy hu=>?_;rw[aqE] at hy
   cases hj:caps[j]? with
   |none=>rw[hj] at hy;cases hy
   |some z=>
    rw[hj] at hy;obtain rfl:=aqs hy;have hz:=W2 j z u hj hu
    cases z with
    |ptr r' o=>
     simp only[RB];split
     ·rename_i OU;obtain rfl:=aqN OU;exact key o _ hz
     ·exact hz
    |_=>exact hz
 |_=>rw[hx] at ht;exact ht
def abU (r:Nat) (es:ME):AV->AV
 | .mp r'=>if r=r' then .fL es else .mp r'
 |x=>x
def L7 (r:Nat) (es:ME):List AV->List AV
 | []=>[]
 |x::l=>abU r es x::L7 r es l
def RF (r:Nat) (es:ME):AV->AV
 | .mp r'=>if r=r' then .fL es else .mp r'
 | .agg cs=>.agg (L7 r es cs)
 |x=>x
theorem Gm (r:Nat) (es:ME):∀(l:List AV),L7 r es l=l.map (abU r es)
 | []=>rfl
 |x::l=>by simp[L7,Gm r es l]
theorem cR.frz (aE:Γ.Ok) {f:Nat->AV} {g:Unit} {r:Nat} {es:ME} (hr:hp[r]?=some (.cE es)):cR Γ ⟨f,hp,g⟩ ⟨fun t=>RF r es (f t),hp.set r .dead,g⟩:=by
 intro a w η h;have aH:r<η.length:=by have:=h.heap.len;simp only at this;rw[this];exact(aqr.1 hr).1
 have hv:η[r]?=some η[r]:=by simp[aH]
 obtain⟨b,en,c,hb,kX,y9⟩:=h.heap.obj r _ _ hr hv;have fF:η.set r η[r]=η:=by
  apply ark;intro i
  by_cases hi:r=i
  ·subst hi;rw[aB hv,hv]
  ·rw[getElem?_set_ne hi]
 have hd:=Rel.change (w':=w) (o':=.dead) (v':=η[r]) aE h hr ai hv (cG.refl _ w) (fun b hb=>.inl hb) (fun k hk=>hk.elim) (fun _ _ _ _ hk _=>hk.elim) (fun _ _ _ _ hk _=>hk.elim)
  (fun n u ho=>by simp[bl,hr] at ho) (fun _ _=>rfl) (fun _ _=>rfl) (fun b' d gz hd=>by rw[hb] at gz;simp only[dO,aqq] at gz;subst gz;rw[kX] at hd;cases hd) (fun _=>ai)
 rw[fF] at hd;have key:∀{v:Value},bB w (bt Γ w η (hp.set r .dead)) η (hp.set r .dead) (.mp r) v->bB w (bt Γ w η (hp.set r .dead)) η (hp.set r .dead) (.fL es) v:=by
   intro v ht
   cases ht with
   |mp _ b' gz=>
    rw[hv,hb] at gz;simp only[aqq,Value.map.injEq] at gz;subst gz;have hm:=h.cq r _ _ b hr ai hv (by rw[hb];rfl);refine .fL b en c kX ⟨.inr hm.1,?_,hm.2 _,?_⟩ es y9
    ·exact(aqO.1 kX).1
    ·intro r1 u h1 ui
     by_cases cg:r=r1
     ·subst cg;rw[aB hr];trivial
     ·rw[getElem?_set_ne cg];have RD:r1<hp.length:=by have:=h.heap.len;simp only at this;rw[<-this];exact(aqr.1 h1).1
      have ho:hp[r1]?=some hp[r1]:=by simp[RD]
      rw[ho]
      cases hk:hp[r1] with
      |dead=>trivial
      |box cs=>exact(h.heap.sep r r1 _ (.box cs) _ u b cg hr (by rw[<-hk];exact ho) ai ai hv h1 (by rw[hb];rfl) ui).elim
      |row e z els=>exact(h.heap.sep r r1 _ (.row e z els) _ u b cg hr (by rw[<-hk];exact ho) ai ai hv h1 (by rw[hb];rfl) ui).elim
      |cE es'=>exact(h.heap.sep r r1 _ (.cE es') _ u b cg hr (by rw[<-hk];exact ho) ai ai hv h1 (by rw[hb];rfl) ui).elim
      |jy q k=>exact(h.heap.sep r r1 _ (.jy q k) _ u b cg hr (by rw[<-hk];exact ho) ai ai hv h1 (by rw[hb];rfl) ui).elim
      |bj e z els=>exact(h.heap.sep r r1 _ (.bj e z els) _ u b cg hr (by rw[<-hk];exact ho) ai ai hv h1 (by rw[hb];rfl) ui).elim
      |fz e m ns=>exact(h.heap.sep r r1 _ (.fz e m ns) _ u b cg hr (by rw[<-hk];exact ho) ai ai hv h1 (by rw[hb];rfl) ui).elim
 refine⟨η,hd.nt,fun t=>?_,hd.heap,hd.cq,hd.keeps,hd.inv,hd.marks,hd.ext⟩;have ht:=hd.tmps t;simp only at ht ⊢
 cases hx:f t with
 |mp r'=>
  rw[hx] at ht;simp only[RF];split
  ·rename_i OU;subst OU;exact key ht
  ·exact ht
 |agg cs=>
  rw[hx] at ht;simp only[RF,Gm];generalize hvt:a.tmps.getD t undef=v at ht
  cases ht with
  |agg _ us hl h1 W2=>
   refine .agg _ us (by simpa using hl) h1 fun j y u hy hu=>?_;rw[aqE] at hy
   cases hj:cs[j]? with
   |none=>rw[hj] at hy;cases hy
   |some z=>
    rw[hj] at hy;obtain rfl:=aqs hy;have hz:=W2 j z u hj hu
    cases z with
    |mp r'=>
     simp only[abU];split
     ·rename_i OU;subst OU;exact key hz
     ·exact hz
    |_=>exact hz
 |_=>rw[hx] at ht;exact ht
def RG:List AV->List Nat
 | []=>[]
 | .ptr r _::l=>r::RG l
 |_::l=>RG l
def RH:List AV->List Nat
 | []=>[]
 | .mp r::l=>r::RH l
 |_::l=>RH l
def DU:List AV->List Nat
 | []=>[]
 | .bz _ caps::l=>RG caps++DU l
 | .agg cs::l=>RH cs++DU l
 |_::l=>DU l
def nb:List Nat->AS Unit->List Prop×AS Unit
 | [],s=>([],s)
 |r::l,s=>(match s.hp[r]? with
  |some (.box cs)=>((cZ (AV.jP s.hp) cs).1++(nb l ⟨fun t=>RC r (FV (cZ (AV.jP s.hp) cs).2) (s.tmps t),s.hp.set r .dead,s.g⟩).1,
    (nb l ⟨fun t=>RC r (FV (cZ (AV.jP s.hp) cs).2) (s.tmps t),s.hp.set r .dead,s.g⟩).2)
  |some (.cE es)=>nb l ⟨fun t=>RF r es (s.tmps t),s.hp.set r .dead,s.g⟩
  |_=>nb l s)
theorem uj (aE:Γ.Ok):∀(l:List Nat) (s:AS Unit),eA (nb l s).1->cR Γ s (nb l s).2
 | [],s,_=>.refl s
 |r::l,s,hc=>by
  simp only[nb] at hc ⊢;split at hc
  ·rename_i cs hr;rw[bP] at hc;have hm:=cr (g:=AV.eG s.hp) (fun x=>lJ) cs hc.1;refine(?_:cR Γ s _).trans (uj aE l _ hc.2);have:=cR.ajS (Γ:=Γ) (f:=s.tmps) (g:=s.g) aE hr;rw[hm] at this;exact this
  ·rename_i es hr;exact cR.trans (cR.frz (Γ:=Γ) (f:=s.tmps) (g:=s.g) aE hr) (uj aE l _ hc)
  ·exact uj aE l s hc
end Go.Proofs.YtnkjkpmbgoehkaaGreat
