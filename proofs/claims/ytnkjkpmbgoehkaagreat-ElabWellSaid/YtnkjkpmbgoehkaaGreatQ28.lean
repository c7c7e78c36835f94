/- Lemmas. -/
import Derived.Test.YtnkjkpmbgoehkaaGreatQ27
namespace Go.Proofs.YtnkjkpmbgoehkaaGreat
open Go
set_option linter.unusedSimpArgs false
set_option linter.unusedVariables false
variable {Γ:Env Unit} {w:World} {a:Act} {F:Nat->Nat->Prop} {η:List Value} {hp:List aw}
def wY (r q i:Nat):Nat:=(match Nat.beq i r with
 |true=>q
 |false=>(match Nat.beq i q with
  |true=>r
  |false=>i))
theorem Kw (r q i:Nat):wY r q i=if i=r then q else if i=q then r else i:=by
 unfold wY
 cases h:Nat.beq i r
 ·have h1:¬i=r:=fun e=>by rw[e,Nat.beq_refl] at h;cases h
  rw[if_neg h1]
  cases h2:Nat.beq i q
  ·have h3:¬i=q:=fun e=>by rw[e,Nat.beq_refl] at h2;cases h2
   rw[if_neg h3]
  ·rw[if_pos (aqN h2)]
 ·rw[if_pos (aqN h)]
theorem Ea (r q i:Nat):wY r q (wY r q i)=i:=by
 simp only[Kw]
 by_cases h1:i=r
 ·subst h1
  by_cases h2:q=i
  ·simp[h2]
  ·simp[h2]
 ·by_cases h2:i=q
  ·subst h2;simp[h1]
  ·simp[h1,h2]
theorem X2 {r q i j:Nat} (h:wY r q i=wY r q j):i=j:=by rw[<-Ea r q i,h,Ea]
def Eb {α:Type} (d:α) (r q:Nat) (l:List α):List α:=(l.set r (l.getD q d)).set q (l.getD r d)
theorem MC {α:Type} {d:α} {r q:Nat} {l:List α}:(Eb d r q l).length=l.length:=by simp[Eb]
theorem MD {α:Type} {d:α} {r q:Nat} {l:List α} (hr:r<l.length) (hq:q<l.length) (i:Nat):(Eb d r q l)[i]?=l[wY r q i]?:=by
 rw[Eb,Kw,arH,arH]
 by_cases h2:i=q
 ·subst h2
  by_cases h1:i=r
  ·subst h1;simp[hr]
  ·simp[h1,hr,hq]
 ·by_cases h1:i=r
  ·subst h1;have:¬q=i:=fun e=>h2 e.symm;simp[this,hr,hq]
  ·have e1:¬q=i:=fun e=>h2 e.symm;have e2:¬r=i:=fun e=>h1 e.symm;simp[h1,h2,e1,e2]
def swS (r q:Nat) (s:AS Unit):AS Unit:=
 match Nat.blt r s.hp.length&&(Nat.blt q s.hp.length&&s.hp.all (aw.closed s.hp.length)) with
 |true=>⟨fun t=>(match (s.tmps t).closed s.hp.length with|true=>s7 (wY r q) (s.tmps t)|false=>.top),Eb .dead r q (s.hp.map (ky (wY r q))),s.g⟩
 |false=>s
theorem acw (aE:Γ.Ok) {r q:Nat} (hr0:Γ.mU.length<=r) (hq0:Γ.mU.length<=q) (s:AS Unit):cR Γ s (swS r q s):=by
 unfold swS;split
 ·rename_i hc;rw[aqv,aqv] at hc;have hr:r<s.hp.length:=aqQ hc.1;have hq:q<s.hp.length:=aqQ hc.2.1;have dK:∀o∈s.hp,aw.closed s.hp.length o=true:=aqF.1 hc.2.2;obtain⟨f,hp,g⟩:=s;intro a w η h;have hlen:η.length=hp.length:=h.heap.len;have gH:∀i,(Eb aw.dead r q (hp.map (ky (wY r q))))[i]?=(hp.map (ky (wY r q)))[wY r q i]?:=MD (by simpa using hr) (by simpa using hq);have BQ:∀i,(Eb undef r q η)[i]?=η[wY r q i]?:=MD (by rw[hlen];exact hr) (by rw[hlen];exact hq);have e:xX (wY r q) η hp (Eb undef r q η) (Eb aw.dead r q (hp.map (ky (wY r q)))):=⟨fun i o ho=>by rw[gH,Ea,aqE,ho];rfl,fun i hi=>by rw[BQ,Ea]⟩;have back:∀{i:Nat} {o':aw},(Eb aw.dead r q (hp.map (ky (wY r q))))[i]?=some o'->∃o,hp[wY r q i]?=some o/\o'=ky (wY r q) o:=fun {i o'} ho=>by
   rw[gH] at ho;obtain⟨o,h1,h2⟩:=dw ho;exact⟨o,h1,h2⟩
  have kp:∀b o,bt Γ w η hp b o->bt Γ w (Eb undef r q η) (Eb aw.dead r q (hp.map (ky (wY r q)))) b o:=fun b k hf=>by
   refine⟨hf.1,hf.2.1,hf.2.2.1,(bm b k).2 fun i v h1 h2=>?_⟩;rw[BQ] at h1;obtain⟨o,h3,h4⟩:=(bm b k).1 hf.2.2.2 _ v h1 h2;exact⟨ky (wY r q) o,by rw[gH,aqE,h3];rfl,vS.2 h4⟩
  have gu:Ext w (bt Γ w η hp) (Eb undef r q η) (Eb aw.dead r q (hp.map (ky (wY r q)))) w (bt Γ w (Eb undef r q η) (Eb aw.dead r q (hp.map (ky (wY r q))))) (Eb undef r q η) (Eb aw.dead r q (hp.map (ky (wY r q)))):=
   ⟨fun _ _ _ _ h=>h,fun _ _ _ _ h=>h,kp,fun _ _ h=>h,fun _ _ h=>h,fun _ _ _ h=>h⟩
  have low:∀{i:Nat},i<Γ.mU.length->wY r q i=i:=fun {i} hi=>by rw[Kw,if_neg (by omega),if_neg (by omega)]
  refine⟨Eb undef r q η,h.nt,fun t=>?_,⟨by rw[MC,MC,aqu,hlen],fun i o' v h1 h2=>?_,fun i j o1 o2 v1 v2 b cg h1 h2 l1 l2 e1 e2 hb=>?_⟩,fun i o' v b h1 hl h2 hb=>?_,h.keeps,h.inv,h.marks,⟨h.ext.cell,h.ext.kM,fun b o hb=>kp b o (h.ext.bI b o hb),fun i x hx=>?_,fun i x hx=>?_,fun i n v hx=>?_⟩⟩
  ·show bB w _ _ _ (match (f t).closed hp.length with|true=>s7 (wY r q) (f t)|false=>.top) _;split
   ·rename_i hx;exact(e.re hx (h.tmps t)).ext gu
   ·exact .top _
  ·obtain⟨o,h3,rfl⟩:=back h1;rw[BQ] at h2;exact(e.reO (dK o (aqA h3)) (h.heap.obj _ o v h3 h2)).ext gu (aqw _) fun _ _ _=>rfl
  ·obtain⟨p1,g1,rfl⟩:=back h1;obtain⟨p2,g2,rfl⟩:=back h2;rw[BQ] at e1 e2;exact h.heap.sep _ _ p1 p2 v1 v2 b (fun e=>cg (X2 e)) g1 g2 (eE.1 l1) (eE.1 l2) e1 e2 hb
  ·obtain⟨o,h3,rfl⟩:=back h1;rw[BQ] at h2;exact h.cq _ o v b h3 (eE.1 hl) h2 hb
  ·have hi:i<Γ.mU.length:=by rw[<-aE.l0];exact(aqr.1 hx).1
   rw[BQ,low hi];exact h.ext.ptr i x hx
  ·have hi:i<Γ.mU.length:=by rw[<-aE.l0];exact(aqr.1 hx).1
   rw[BQ,low hi];exact h.ext.mp i x hx
  ·have hi:i<Γ.mU.length:=by
    refine ar9 fun hn=>?_;unfold bl at hx;rw[aq6 (by omega)] at hx;exact hx
   have gy:r<hp.length:=hr;have hih:i<hp.length:=by omega
   exact(uk (g:=wY r q) (j:=i) (aqx hih) (by rw[gH,low hi,aqE,aqx hih];rfl) (by rw[BQ,low hi])).1 (h.ext.own i n v hx)
 ·exact .refl _
def mvS:List (Nat×Nat)->AS Unit->AS Unit
 | [],s=>s
 |p::l,s=>mvS l (swS p.1 p.2 s)
def X3 (n0:Nat):List (Nat×Nat)->Bool
 | []=>true
 |p::l=>Nat.ble n0 p.1&&(Nat.ble n0 p.2&&X3 n0 l)
theorem Sk (aE:Γ.Ok):∀(l:List (Nat×Nat)) (s:AS Unit),X3 Γ.mU.length l=true->cR Γ s (mvS l s)
 | [],s,_=>.refl _
 |p::l,s,h=>by
  simp only[X3,aqv] at h;exact(acw aE (aqQ h.1) (aqQ h.2.1) s).trans (Sk aE l _ h.2.2)
end Go.Proofs.YtnkjkpmbgoehkaaGreat
