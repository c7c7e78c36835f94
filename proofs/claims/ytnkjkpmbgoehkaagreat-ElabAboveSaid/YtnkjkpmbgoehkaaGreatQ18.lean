/- Texts of ours laid together for a claim: VcL. -/
import Derived.Test.YtnkjkpmbgoehkaaGreatQ17
namespace Go.Proofs.YtnkjkpmbgoehkaaGreat
open Go
set_option linter.unusedSimpArgs false
set_option linter.unusedVariables false
variable {Γ:Env Unit} {s s':AS Unit} {a:Act} {w w':World} {η:List Value} {hp:List ab}
def NP (r:Nat) (e:AV):AV->AV
 | .ptr r' o=>(match Nat.beq r r' with|true=>.aJ e o|false=>.ptr r' o)
 |x=>x
def Ja (r:Nat) (e:AV):List AV->List AV
 | []=>[]
 |x::l=>NP r e x::Ja r e l
def NQ (r:Nat) (e:AV):AV->AV
 | .ptr r' o=>(match Nat.beq r r' with|true=>.aJ e o|false=>.ptr r' o)
 | .bf f caps=>.bf f (Ja r e caps)
 |x=>x
theorem DE (r:Nat) (e:AV):∀(l:List AV),Ja r e l=l.map (NP r e)
 | []=>rfl
 |x::l=>by simp[Ja,DE r e l]
theorem ck.aeY (al:Γ.Ok) {f:Nat->AV} {g:Unit} {r:Nat} {cs:List AV} (hr:hp[r]?=some (.box cs)):ck Γ ⟨f,hp,g⟩ ⟨fun t=>NQ r (Di (cs.map (AV.dQ hp))) (f t),hp.set r .dead,g⟩:=by
 intro a w η h;have aq:r<η.length:=by have:=h.heap.len;simp only at this;rw[this];exact(ali.1 hr).1
 have hv:η[r]?=some η[r]:=by simp[aq]
 obtain⟨b,vs,T,hb,jC,bO,gO⟩:=h.heap.obj r _ _ hr hv;have eP:η.set r η[r]=η:=by
  apply al9;intro i
  by_cases hi:r=i
  ·subst hi;rw[ai hv,hv]
  ·rw[getElem?_set_ne hi]
 have hd:=Rel.change (w':=w) (o':=.dead) (v':=η[r]) al h hr True.intro hv (bZ.refl _ w) (fun b hb=>.inl hb) (fun k hk=>hk.elim) (fun _ _ _ _ hk _=>hk.elim) (fun _ _ _ _ hk _=>hk.elim)
  (fun n u ho=>by simp[aR,hr] at ho) (fun _ _=>rfl) (fun _ _=>rfl) (fun b' d fJ hd=>by rw[hb] at fJ;simp only[cZ,alh] at fJ;subst fJ;rw[jC] at hd;cases hd) (fun _=>True.intro)
 rw[eP] at hd;have hm:=h.bN r _ _ b hr True.intro hv (by rw[hb];rfl);have vF:∀k,aW Γ w η (hp.set r .dead) b k:=by
  intro k;refine⟨.inr hm.1,bF jC,hm.2 _,?_⟩;intro r1 u h1 vG
  by_cases bL:r=r1
  ·subst bL;rw[ai hr];trivial
  ·rw[getElem?_set_ne bL];have NR:r1<hp.length:=by have:=h.heap.len;simp only at this;rw[<-this];exact(ali.1 h1).1
   have ho:hp[r1]?=some hp[r1]:=by simp[NR]
   rw[ho]
   cases hk:hp[r1] with
   |dead=>trivial
   |box eQ=>exact(h.heap.sep r r1 _ (.box eQ) _ u b bL hr (by rw[<-hk];exact ho) True.intro True.intro hv h1 (by rw[hb];rfl) vG).elim
   |row e z els=>exact(h.heap.sep r r1 _ (.row e z els) _ u b bL hr (by rw[<-hk];exact ho) True.intro True.intro hv h1 (by rw[hb];rfl) vG).elim
   |bW es'=>exact(h.heap.sep r r1 _ (.bW es') _ u b bL hr (by rw[<-hk];exact ho) True.intro True.intro hv h1 (by rw[hb];rfl) vG).elim
   |iz q k=>exact(h.heap.sep r r1 _ (.iz q k) _ u b bL hr (by rw[<-hk];exact ho) True.intro True.intro hv h1 (by rw[hb];rfl) vG).elim
   |aQ e z els=>exact(h.heap.sep r r1 _ (.aQ e z els) _ u b bL hr (by rw[<-hk];exact ho) True.intro True.intro hv h1 (by rw[hb];rfl) vG).elim
   |eI e m ns=>exact(h.heap.sep r r1 _ (.eI e m ns) _ u b bL hr (by rw[<-hk];exact ho) True.intro True.intro hv h1 (by rw[hb];rfl) vG).elim
 have NS:∀b k,aW Γ w η hp b k->aW Γ w η (hp.set r .dead) b k:=by
  intro b k hf;refine⟨hf.1,hf.2.1,hf.2.2.1,(aS b k).2 fun r1 u h1 vG=>?_⟩;obtain⟨o,g1,g2⟩:=(aS b k).1 hf.2.2.2 r1 u h1 vG
  by_cases bL:r=r1
  ·subst bL;exact⟨.dead,ai hr,True.intro⟩
  ·exact⟨o,by rw[getElem?_set_ne bL];exact g1,g2⟩
 have key:∀(o:Nat) (v:Value) {nc:List Value} {iC:List ab},ba w (aW Γ w η (hp.set r .dead)) η (hp.set r .dead) (.ptr r o) v->ba w (aW Γ w η (hp.set r .dead)) nc iC (.aJ (Di (cs.map (AV.dQ hp))) o) v:=by
  intro o v nc iC hp'
  cases hp' with
  |ptr _ _ b' fJ=>
   rw[hv,hb] at fJ;simp only[alh,Value.pointer.injEq,Addr.mk.injEq,and_true] at fJ;subst fJ;have dA:∀(j:Nat) (x:AV),(cs.map (AV.dQ hp))[j]?=some x->∃y u,cs[j]?=some y/\x=y.dQ hp/\vs[j]?=some u:=by
    intro j x hx;rw[alu] at hx
    cases hj:cs[j]? with
    |none=>rw[hj] at hx;cases hx
    |some y=>
     rw[hj] at hx;obtain rfl:=alj hx;have:j<vs.size:=by rw[bO];exact(ali.1 hj).1
     exact⟨y,vs[j],rfl,rfl,by simp[this]⟩
   have hE:=ba.aJ (w:=w) (F:=aW Γ w η (hp.set r .dead)) (η:=nc) (hp:=iC) (Di (cs.map (AV.dQ hp))) o b 0 (fun j=>(vs[j]?).getD undef) (fun j x hx=>by
     rw[nn] at hx;obtain⟨y,u,h1,h2,h3⟩:=dA j x hx;refine⟨?_,vF _,?_⟩
     ·simp[World.cell?,jC,h3]
     ·simp only[h3,al1];exact(gO j y u h1 h3).2) (fun j x hx=>by
     rw[nn] at hx;obtain⟨y,u,h1,h2,h3⟩:=dA j x hx;subst h2;simp only[h3,al1]
     exact(kj h.heap h.bN (gO j y u h1 h3).1).ext ⟨fun _ _ _ _ h=>h,fun _ _ _ _ h=>h,NS,fun _ _ h=>h,fun _ _ h=>h,fun _ _ _ h=>h⟩)
   rw[alM] at hE;exact hE
 refine⟨η,hd.nt,fun t=>?_,hd.heap,hd.bN,hd.keeps,hd.inv,hd.marks,hd.ext⟩;have ht:=hd.tmps t;simp only at ht ⊢
 cases hx:f t with
 |ptr r' o=>
  rw[hx] at ht;simp only[NQ];split
  ·rename_i KX;obtain rfl:=alB KX;exact key o _ ht
  ·exact ht
 |bf fn caps=>
  rw[hx] at ht;simp only[NQ,DE];generalize hvt:a.tmps.getD t undef=v at ht
  cases ht with
  |bf _ _ us hl SR=>
   refine .bf fn _ us (by simpa using hl) fun j y u hy hu=>?_;rw[alu] at hy
   cases hj:caps[j]? with
   |none=>rw[hj] at hy;cases hy
   |some z=>
    rw[hj] at hy;obtain rfl:=alj hy;have hz:=SR j z u hj hu
    cases z with
    |ptr r' o=>
     simp only[NP];split
     ·rename_i KX;obtain rfl:=alB KX;exact key o _ hz
     ·exact hz
    |_=>exact hz
 |_=>rw[hx] at ht;exact ht
def Xp (r:Nat) (es:ME):AV->AV
 | .mp r'=>if r=r' then .eY es else .mp r'
 |x=>x
def Jb (r:Nat) (es:ME):List AV->List AV
 | []=>[]
 |x::l=>Xp r es x::Jb r es l
def NT (r:Nat) (es:ME):AV->AV
 | .mp r'=>if r=r' then .eY es else .mp r'
 | .agg cs=>.agg (Jb r es cs)
 |x=>x
theorem DF (r:Nat) (es:ME):∀(l:List AV),Jb r es l=l.map (Xp r es)
 | []=>rfl
 |x::l=>by simp[Jb,DF r es l]
theorem ck.YM (al:Γ.Ok) {f:Nat->AV} {g:Unit} {r:Nat} {es:ME} (hr:hp[r]?=some (.bW es)):ck Γ ⟨f,hp,g⟩ ⟨fun t=>NT r es (f t),hp.set r .dead,g⟩:=by
 intro a w η h;have aq:r<η.length:=by have:=h.heap.len;simp only at this;rw[this];exact(ali.1 hr).1
 have hv:η[r]?=some η[r]:=by simp[aq]
 obtain⟨b,en,c,hb,jC,wR⟩:=h.heap.obj r _ _ hr hv;have eP:η.set r η[r]=η:=by
  apply al9;intro i
  by_cases hi:r=i
  ·subst hi;rw[ai hv,hv]
  ·rw[getElem?_set_ne hi]
 have hd:=Rel.change (w':=w) (o':=.dead) (v':=η[r]) al h hr True.intro hv (bZ.refl _ w) (fun b hb=>.inl hb) (fun k hk=>hk.elim) (fun _ _ _ _ hk _=>hk.elim) (fun _ _ _ _ hk _=>hk.elim)
  (fun n u ho=>by simp[aR,hr] at ho) (fun _ _=>rfl) (fun _ _=>rfl) (fun b' d fJ hd=>by rw[hb] at fJ;simp only[cZ,alh] at fJ;subst fJ;rw[jC] at hd;cases hd) (fun _=>True.intro)
 rw[eP] at hd;have key:∀{v:Value},ba w (aW Γ w η (hp.set r .dead)) η (hp.set r .dead) (.mp r) v->ba w (aW Γ w η (hp.set r .dead)) η (hp.set r .dead) (.eY es) v:=by
   intro v ht
   cases ht with
   |mp _ b' fJ=>
    rw[hv,hb] at fJ;simp only[alh,Value.map.injEq] at fJ;subst fJ;have hm:=h.bN r _ _ b hr True.intro hv (by rw[hb];rfl);refine .eY b en c jC ⟨.inr hm.1,?_,hm.2 _,?_⟩ es wR
    ·exact(alE.1 jC).1
    ·intro r1 u h1 vG
     by_cases bL:r=r1
     ·subst bL;rw[ai hr];trivial
     ·rw[getElem?_set_ne bL];have NR:r1<hp.length:=by have:=h.heap.len;simp only at this;rw[<-this];exact(ali.1 h1).1
      have ho:hp[r1]?=some hp[r1]:=by simp[NR]
      rw[ho]
      cases hk:hp[r1] with
      |dead=>trivial
      |box cs=>exact(h.heap.sep r r1 _ (.box cs) _ u b bL hr (by rw[<-hk];exact ho) True.intro True.intro hv h1 (by rw[hb];rfl) vG).elim
      |row e z els=>exact(h.heap.sep r r1 _ (.row e z els) _ u b bL hr (by rw[<-hk];exact ho) True.intro True.intro hv h1 (by rw[hb];rfl) vG).elim
      |bW es'=>exact(h.heap.sep r r1 _ (.bW es') _ u b bL hr (by rw[<-hk];exact ho) True.intro True.intro hv h1 (by rw[hb];rfl) vG).elim
      |iz q k=>exact(h.heap.sep r r1 _ (.iz q k) _ u b bL hr (by rw[<-hk];exact ho) True.intro True.intro hv h1 (by rw[hb];rfl) vG).elim
      |aQ e z els=>exact(h.heap.sep r r1 _ (.aQ e z els) _ u b bL hr (by rw[<-hk];exact ho) True.intro True.intro hv h1 (by rw[hb];rfl) vG).elim
      |eI e m ns=>exact(h.heap.sep r r1 _ (.eI e m ns) _ u b bL hr (by rw[<-hk];exact ho) True.intro True.intro hv h1 (by rw[hb];rfl) vG).elim
 refine⟨η,hd.nt,fun t=>?_,hd.heap,hd.bN,hd.keeps,hd.inv,hd.marks,hd.ext⟩;have ht:=hd.tmps t;simp only at ht ⊢
 cases hx:f t with
 |mp r'=>
  rw[hx] at ht;simp only[NT];split
  ·rename_i KX;subst KX;exact key ht
  ·exact ht
 |agg cs=>
  rw[hx] at ht;simp only[NT,DF];generalize hvt:a.tmps.getD t undef=v at ht
  cases ht with
  |agg _ us hl h1 SR=>
   refine .agg _ us (by simpa using hl) h1 fun j y u hy hu=>?_;rw[alu] at hy
   cases hj:cs[j]? with
   |none=>rw[hj] at hy;cases hy
   |some z=>
    rw[hj] at hy;obtain rfl:=alj hy;have hz:=SR j z u hj hu
    cases z with
    |mp r'=>
     simp only[Xp];split
     ·rename_i KX;subst KX;exact key hz
     ·exact hz
    |_=>exact hz
 |_=>rw[hx] at ht;exact ht
def NU:List AV->List Nat
 | []=>[]
 | .ptr r _::l=>r::NU l
 |_::l=>NU l
def NV:List AV->List Nat
 | []=>[]
 | .mp r::l=>r::NV l
 |_::l=>NV l
def Bn:List AV->List Nat
 | []=>[]
 | .bf _ caps::l=>NU caps++Bn l
 | .agg cs::l=>NV cs++Bn l
 |_::l=>Bn l
def lE:List Nat->AS Unit->List Prop×AS Unit
 | [],s=>([],s)
 |r::l,s=>(match s.hp[r]? with
  |some (.box cs)=>((ct (AV.iM s.hp) cs).1++(lE l ⟨fun t=>NQ r (Di (ct (AV.iM s.hp) cs).2) (s.tmps t),s.hp.set r .dead,s.g⟩).1,
    (lE l ⟨fun t=>NQ r (Di (ct (AV.iM s.hp) cs).2) (s.tmps t),s.hp.set r .dead,s.g⟩).2)
  |some (.bW es)=>lE l ⟨fun t=>NT r es (s.tmps t),s.hp.set r .dead,s.g⟩
  |_=>lE l s)
theorem sc (al:Γ.Ok):∀(l:List Nat) (s:AS Unit),dK (lE l s).1->ck Γ s (lE l s).2
 | [],s,_=>.refl s
 |r::l,s,hc=>by
  simp only[lE] at hc ⊢;split at hc
  ·rename_i cs hr;rw[bt] at hc;have hm:=bP (g:=AV.dQ s.hp) (fun x=>kn) cs hc.1;refine(?_:ck Γ s _).trans (sc al l _ hc.2);have:=ck.aeY (Γ:=Γ) (f:=s.tmps) (g:=s.g) al hr;rw[hm] at this;exact this
  ·rename_i es hr;exact ck.trans (ck.YM (Γ:=Γ) (f:=s.tmps) (g:=s.g) al hr) (sc al l _ hc)
  ·exact sc al l s hc
end Go.Proofs.YtnkjkpmbgoehkaaGreat
