/- Texts of ours laid together for a claim: VcL. -/
import Derived.Test.YtdcikhleahfknaaGreatDoorQ17
namespace Go.Proofs.YtdcikhleahfknaaGreatDoor
open Go
set_option linter.unusedSimpArgs false
set_option linter.unusedVariables false
variable {Γ:Env Unit} {s s':AS Unit} {a:Act} {w w':World} {η:List Value} {hp:List af}
def NM (r:Nat) (e:AV):AV->AV
 | .ptr r' o=>(match Nat.beq r r' with|true=>.aS e o|false=>.ptr r' o)
 |x=>x
def JH (r:Nat) (e:AV):List AV->List AV
 | []=>[]
 |x::l=>NM r e x::JH r e l
def NN (r:Nat) (e:AV):AV->AV
 | .ptr r' o=>(match Nat.beq r r' with|true=>.aS e o|false=>.ptr r' o)
 | .aY f caps=>.aY f (JH r e caps)
 |x=>x
theorem D5 (r:Nat) (e:AV):∀(l:List AV),JH r e l=l.map (NM r e)
 | []=>rfl
 |x::l=>by simp[JH,D5 r e l]
theorem cx.aeU (ax:Γ.Ok) {f:Nat->AV} {g:Unit} {r:Nat} {cs:List AV} (hr:hp[r]?=some (.box cs)):cx Γ ⟨f,hp,g⟩ ⟨fun t=>NN r (DI (cs.map (AV.dS hp))) (f t),hp.set r .dead,g⟩:=by
 intro a w η h;have ak:r<η.length:=by have:=h.heap.len;simp only at this;rw[this];exact(alu.1 hr).1
 have hv:η[r]?=some η[r]:=by simp[ak]
 obtain⟨b,vs,T,hb,jw,bN,fO⟩:=h.heap.obj r _ _ hr hv;have dR:η.set r η[r]=η:=by
  apply ams;intro i
  by_cases hi:r=i
  ·subst hi;rw[au hv,hv]
  ·rw[getElem?_set_ne hi]
 have hd:=Rel.change (w':=w) (o':=.dead) (v':=η[r]) ax h hr True.intro hv (bE.refl _ w) (fun b hb=>.inl hb) (fun k hk=>hk.elim) (fun _ _ _ _ hk _=>hk.elim) (fun _ _ _ _ hk _=>hk.elim)
  (fun n u ho=>by simp[aT,hr] at ho) (fun _ _=>rfl) (fun _ _=>rfl) (fun b' d eF hd=>by rw[hb] at eF;simp only[ct,als] at eF;subst eF;rw[jw] at hd;cases hd) (fun _=>True.intro)
 rw[dR] at hd;have hm:=h.bM r _ _ b hr True.intro hv (by rw[hb];rfl);have oN:∀k,bk Γ w η (hp.set r .dead) b k:=by
  intro k;refine⟨.inr hm.1,bo jw,hm.2 _,?_⟩;intro r1 u h1 y6
  by_cases bu:r=r1
  ·subst bu;rw[au hr];trivial
  ·rw[getElem?_set_ne bu];have NP:r1<hp.length:=by have:=h.heap.len;simp only at this;rw[<-this];exact(alu.1 h1).1
   have ho:hp[r1]?=some hp[r1]:=by simp[NP]
   rw[ho]
   cases hk:hp[r1] with
   |dead=>trivial
   |box cs'=>exact(h.heap.sep r r1 _ (.box cs') _ u b bu hr (by rw[<-hk];exact ho) True.intro True.intro hv h1 (by rw[hb];rfl) y6).elim
   |row e z els=>exact(h.heap.sep r r1 _ (.row e z els) _ u b bu hr (by rw[<-hk];exact ho) True.intro True.intro hv h1 (by rw[hb];rfl) y6).elim
   |aJ es'=>exact(h.heap.sep r r1 _ (.aJ es') _ u b bu hr (by rw[<-hk];exact ho) True.intro True.intro hv h1 (by rw[hb];rfl) y6).elim
   |cU q k=>exact(h.heap.sep r r1 _ (.cU q k) _ u b bu hr (by rw[<-hk];exact ho) True.intro True.intro hv h1 (by rw[hb];rfl) y6).elim
   |aQ e z els=>exact(h.heap.sep r r1 _ (.aQ e z els) _ u b bu hr (by rw[<-hk];exact ho) True.intro True.intro hv h1 (by rw[hb];rfl) y6).elim
   |dN e m ns=>exact(h.heap.sep r r1 _ (.dN e m ns) _ u b bu hr (by rw[<-hk];exact ho) True.intro True.intro hv h1 (by rw[hb];rfl) y6).elim
 have NQ:∀b k,bk Γ w η hp b k->bk Γ w η (hp.set r .dead) b k:=by
  intro b k hf;refine⟨hf.1,hf.2.1,hf.2.2.1,(aU b k).2 fun r1 u h1 y6=>?_⟩;obtain⟨o,g1,g2⟩:=(aU b k).1 hf.2.2.2 r1 u h1 y6
  by_cases bu:r=r1
  ·subst bu;exact⟨.dead,au hr,True.intro⟩
  ·exact⟨o,by rw[getElem?_set_ne bu];exact g1,g2⟩
 have key:∀(o:Nat) (v:Value) {jP:List Value} {fG:List af},bm w (bk Γ w η (hp.set r .dead)) η (hp.set r .dead) (.ptr r o) v->bm w (bk Γ w η (hp.set r .dead)) jP fG (.aS (DI (cs.map (AV.dS hp))) o) v:=by
  intro o v jP fG hp'
  cases hp' with
  |ptr _ _ b' eF=>
   rw[hv,hb] at eF;simp only[als,Value.pointer.injEq,Addr.mk.injEq,and_true] at eF;subst eF;have cq:∀(j:Nat) (x:AV),(cs.map (AV.dS hp))[j]?=some x->∃y u,cs[j]?=some y/\x=y.dS hp/\vs[j]?=some u:=by
    intro j x hx;rw[alM] at hx
    cases hj:cs[j]? with
    |none=>rw[hj] at hx;cases hx
    |some y=>
     rw[hj] at hx;obtain rfl:=alw hx;have:j<vs.size:=by rw[bN];exact(alu.1 hj).1
     exact⟨y,vs[j],rfl,rfl,by simp[this]⟩
   have hE:=bm.aS (w:=w) (F:=bk Γ w η (hp.set r .dead)) (η:=jP) (hp:=fG) (DI (cs.map (AV.dS hp))) o b 0 (fun j=>(vs[j]?).getD undef) (fun j x hx=>by
     rw[mX] at hx;obtain⟨y,u,h1,h2,h3⟩:=cq j x hx;refine⟨?_,oN _,?_⟩
     ·simp[World.cell?,jw,h3]
     ·simp only[h3,amt];exact(fO j y u h1 h3).2) (fun j x hx=>by
     rw[mX] at hx;obtain⟨y,u,h1,h2,h3⟩:=cq j x hx;subst h2;simp only[h3,amt]
     exact(lR h.heap h.bM (fO j y u h1 h3).1).ext ⟨fun _ _ _ _ h=>h,fun _ _ _ _ h=>h,NQ,fun _ _ h=>h,fun _ _ h=>h,fun _ _ _ h=>h⟩)
   rw[al2] at hE;exact hE
 refine⟨η,hd.nt,fun t=>?_,hd.heap,hd.bM,hd.keeps,hd.inv,hd.marks,hd.ext⟩;have ht:=hd.tmps t;simp only at ht ⊢
 cases hx:f t with
 |ptr r' o=>
  rw[hx] at ht;simp only[NN];split
  ·rename_i Lh;obtain rfl:=alT Lh;exact key o _ ht
  ·exact ht
 |aY fn caps=>
  rw[hx] at ht;simp only[NN,D5];generalize hvt:a.tmps.getD t undef=v at ht
  cases ht with
  |aY _ _ us hl Sx=>
   refine .aY fn _ us (by simpa using hl) fun j y u hy hu=>?_;rw[alM] at hy
   cases hj:caps[j]? with
   |none=>rw[hj] at hy;cases hy
   |some z=>
    rw[hj] at hy;obtain rfl:=alw hy;have hz:=Sx j z u hj hu
    cases z with
    |ptr r' o=>
     simp only[NM];split
     ·rename_i Lh;obtain rfl:=alT Lh;exact key o _ hz
     ·exact hz
    |_=>exact hz
 |_=>rw[hx] at ht;exact ht
def Ym (r:Nat) (es:ME):AV->AV
 | .mp r'=>if r=r' then .eG es else .mp r'
 |x=>x
def JI (r:Nat) (es:ME):List AV->List AV
 | []=>[]
 |x::l=>Ym r es x::JI r es l
def NR (r:Nat) (es:ME):AV->AV
 | .mp r'=>if r=r' then .eG es else .mp r'
 | .agg cs=>.agg (JI r es cs)
 |x=>x
theorem D6 (r:Nat) (es:ME):∀(l:List AV),JI r es l=l.map (Ym r es)
 | []=>rfl
 |x::l=>by simp[JI,D6 r es l]
theorem cx.Xa (ax:Γ.Ok) {f:Nat->AV} {g:Unit} {r:Nat} {es:ME} (hr:hp[r]?=some (.aJ es)):cx Γ ⟨f,hp,g⟩ ⟨fun t=>NR r es (f t),hp.set r .dead,g⟩:=by
 intro a w η h;have ak:r<η.length:=by have:=h.heap.len;simp only at this;rw[this];exact(alu.1 hr).1
 have hv:η[r]?=some η[r]:=by simp[ak]
 obtain⟨b,en,c,hb,jw,wW⟩:=h.heap.obj r _ _ hr hv;have dR:η.set r η[r]=η:=by
  apply ams;intro i
  by_cases hi:r=i
  ·subst hi;rw[au hv,hv]
  ·rw[getElem?_set_ne hi]
 have hd:=Rel.change (w':=w) (o':=.dead) (v':=η[r]) ax h hr True.intro hv (bE.refl _ w) (fun b hb=>.inl hb) (fun k hk=>hk.elim) (fun _ _ _ _ hk _=>hk.elim) (fun _ _ _ _ hk _=>hk.elim)
  (fun n u ho=>by simp[aT,hr] at ho) (fun _ _=>rfl) (fun _ _=>rfl) (fun b' d eF hd=>by rw[hb] at eF;simp only[ct,als] at eF;subst eF;rw[jw] at hd;cases hd) (fun _=>True.intro)
 rw[dR] at hd;have key:∀{v:Value},bm w (bk Γ w η (hp.set r .dead)) η (hp.set r .dead) (.mp r) v->bm w (bk Γ w η (hp.set r .dead)) η (hp.set r .dead) (.eG es) v:=by
   intro v ht
   cases ht with
   |mp _ b' eF=>
    rw[hv,hb] at eF;simp only[als,Value.map.injEq] at eF;subst eF;have hm:=h.bM r _ _ b hr True.intro hv (by rw[hb];rfl);refine .eG b en c jw ⟨.inr hm.1,?_,hm.2 _,?_⟩ es wW
    ·exact(alY.1 jw).1
    ·intro r1 u h1 y6
     by_cases bu:r=r1
     ·subst bu;rw[au hr];trivial
     ·rw[getElem?_set_ne bu];have NP:r1<hp.length:=by have:=h.heap.len;simp only at this;rw[<-this];exact(alu.1 h1).1
      have ho:hp[r1]?=some hp[r1]:=by simp[NP]
      rw[ho]
      cases hk:hp[r1] with
      |dead=>trivial
      |box cs=>exact(h.heap.sep r r1 _ (.box cs) _ u b bu hr (by rw[<-hk];exact ho) True.intro True.intro hv h1 (by rw[hb];rfl) y6).elim
      |row e z els=>exact(h.heap.sep r r1 _ (.row e z els) _ u b bu hr (by rw[<-hk];exact ho) True.intro True.intro hv h1 (by rw[hb];rfl) y6).elim
      |aJ es'=>exact(h.heap.sep r r1 _ (.aJ es') _ u b bu hr (by rw[<-hk];exact ho) True.intro True.intro hv h1 (by rw[hb];rfl) y6).elim
      |cU q k=>exact(h.heap.sep r r1 _ (.cU q k) _ u b bu hr (by rw[<-hk];exact ho) True.intro True.intro hv h1 (by rw[hb];rfl) y6).elim
      |aQ e z els=>exact(h.heap.sep r r1 _ (.aQ e z els) _ u b bu hr (by rw[<-hk];exact ho) True.intro True.intro hv h1 (by rw[hb];rfl) y6).elim
      |dN e m ns=>exact(h.heap.sep r r1 _ (.dN e m ns) _ u b bu hr (by rw[<-hk];exact ho) True.intro True.intro hv h1 (by rw[hb];rfl) y6).elim
 refine⟨η,hd.nt,fun t=>?_,hd.heap,hd.bM,hd.keeps,hd.inv,hd.marks,hd.ext⟩;have ht:=hd.tmps t;simp only at ht ⊢
 cases hx:f t with
 |mp r'=>
  rw[hx] at ht;simp only[NR];split
  ·rename_i Lh;subst Lh;exact key ht
  ·exact ht
 |agg cs=>
  rw[hx] at ht;simp only[NR,D6];generalize hvt:a.tmps.getD t undef=v at ht
  cases ht with
  |agg _ us hl h1 Sx=>
   refine .agg _ us (by simpa using hl) h1 fun j y u hy hu=>?_;rw[alM] at hy
   cases hj:cs[j]? with
   |none=>rw[hj] at hy;cases hy
   |some z=>
    rw[hj] at hy;obtain rfl:=alw hy;have hz:=Sx j z u hj hu
    cases z with
    |mp r'=>
     simp only[Ym];split
     ·rename_i Lh;subst Lh;exact key hz
     ·exact hz
    |_=>exact hz
 |_=>rw[hx] at ht;exact ht
def NS:List AV->List Nat
 | []=>[]
 | .ptr r _::l=>r::NS l
 |_::l=>NS l
def NT:List AV->List Nat
 | []=>[]
 | .mp r::l=>r::NT l
 |_::l=>NT l
def Bv:List AV->List Nat
 | []=>[]
 | .aY _ caps::l=>NS caps++Bv l
 | .agg cs::l=>NT cs++Bv l
 |_::l=>Bv l
def k8:List Nat->AS Unit->List Prop×AS Unit
 | [],s=>([],s)
 |r::l,s=>(match s.hp[r]? with
  |some (.box cs)=>((cE (AV.jq s.hp) cs).1++(k8 l ⟨fun t=>NN r (DI (cE (AV.jq s.hp) cs).2) (s.tmps t),s.hp.set r .dead,s.g⟩).1,
    (k8 l ⟨fun t=>NN r (DI (cE (AV.jq s.hp) cs).2) (s.tmps t),s.hp.set r .dead,s.g⟩).2)
  |some (.aJ es)=>k8 l ⟨fun t=>NR r es (s.tmps t),s.hp.set r .dead,s.g⟩
  |_=>k8 l s)
theorem rW (ax:Γ.Ok):∀(l:List Nat) (s:AS Unit),dQ (k8 l s).1->cx Γ s (k8 l s).2
 | [],s,_=>.refl s
 |r::l,s,hc=>by
  simp only[k8] at hc ⊢;split at hc
  ·rename_i cs hr;rw[bF] at hc;have hm:=cf (g:=AV.dS s.hp) (fun x=>mm) cs hc.1;refine(?_:cx Γ s _).trans (rW ax l _ hc.2);have:=cx.aeU (Γ:=Γ) (f:=s.tmps) (g:=s.g) ax hr;rw[hm] at this;exact this
  ·rename_i es hr;exact cx.trans (cx.Xa (Γ:=Γ) (f:=s.tmps) (g:=s.g) ax hr) (rW ax l _ hc)
  ·exact rW ax l s hc
end Go.Proofs.YtdcikhleahfknaaGreatDoor
