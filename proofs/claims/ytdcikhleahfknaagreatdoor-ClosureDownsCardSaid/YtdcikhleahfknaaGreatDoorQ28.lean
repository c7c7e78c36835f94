/- Texts of ours laid together for a claim: VcS. -/
import Derived.Test.YtdcikhleahfknaaGreatDoorQ27
namespace Go.Proofs.YtdcikhleahfknaaGreatDoor
open Go
set_option linter.unusedSimpArgs false
set_option linter.unusedVariables false
variable {Γ:Env Unit} {w:World} {a:Act} {F:Nat->Nat->Prop} {η:List Value} {hp:List af}
def uP (r q i:Nat):Nat:=(match Nat.beq i r with
 |true=>q
 |false=>(match Nat.beq i q with
  |true=>r
  |false=>i))
theorem HP (r q i:Nat):uP r q i=if i=r then q else if i=q then r else i:=by
 unfold uP
 cases h:Nat.beq i r
 ·have h1:¬i=r:=fun e=>by rw[e,Nat.beq_refl] at h;cases h
  rw[if_neg h1]
  cases h2:Nat.beq i q
  ·have h3:¬i=q:=fun e=>by rw[e,Nat.beq_refl] at h2;cases h2
   rw[if_neg h3]
  ·rw[if_pos (alT h2)]
 ·rw[if_pos (alT h)]
theorem BI (r q i:Nat):uP r q (uP r q i)=i:=by
 simp only[HP]
 by_cases h1:i=r
 ·subst h1
  by_cases h2:q=i
  ·simp[h2]
  ·simp[h2]
 ·by_cases h2:i=q
  ·subst h2;simp[h1]
  ·simp[h1,h2]
theorem Tz {r q i j:Nat} (h:uP r q i=uP r q j):i=j:=by rw[<-BI r q i,h,BI]
def BJ {α:Type} (d:α) (r q:Nat) (l:List α):List α:=(l.set r (l.getD q d)).set q (l.getD r d)
theorem J9 {α:Type} {d:α} {r q:Nat} {l:List α}:(BJ d r q l).length=l.length:=by simp[BJ]
theorem Ka {α:Type} {d:α} {r q:Nat} {l:List α} (hr:r<l.length) (hq:q<l.length) (i:Nat):(BJ d r q l)[i]?=l[uP r q i]?:=by
 rw[BJ,HP,amr,amr]
 by_cases h2:i=q
 ·subst h2
  by_cases h1:i=r
  ·subst h1;simp[hr]
  ·simp[h1,hr,hq]
 ·by_cases h1:i=r
  ·subst h1;have:¬q=i:=fun e=>h2 e.symm;simp[this,hr,hq]
  ·have e1:¬q=i:=fun e=>h2 e.symm;have e2:¬r=i:=fun e=>h1 e.symm;simp[h1,h2,e1,e2]
def swS (r q:Nat) (s:AS Unit):AS Unit:=
 match Nat.blt r s.hp.length&&(Nat.blt q s.hp.length&&s.hp.all (af.closed s.hp.length)) with
 |true=>⟨fun t=>(match (s.tmps t).closed s.hp.length with|true=>qR (uP r q) (s.tmps t)|false=>.top),BJ .dead r q (s.hp.map (iY (uP r q))),s.g⟩
 |false=>s
theorem YW (ax:Γ.Ok) {r q:Nat} (hr0:Γ.jR.length<=r) (hq0:Γ.jR.length<=q) (s:AS Unit):cx Γ s (swS r q s):=by
 unfold swS;split
 ·rename_i hc;rw[alB,alB] at hc;have hr:r<s.hp.length:=alZ hc.1;have hq:q<s.hp.length:=alZ hc.2.1;have dx:∀o∈s.hp,af.closed s.hp.length o=true:=alK.1 hc.2.2;obtain⟨f,hp,g⟩:=s;intro a w η h;have hlen:η.length=hp.length:=h.heap.len;have gH:∀i,(BJ af.dead r q (hp.map (iY (uP r q))))[i]?=(hp.map (iY (uP r q)))[uP r q i]?:=Ka (by simpa using hr) (by simpa using hq);have ze:∀i,(BJ undef r q η)[i]?=η[uP r q i]?:=Ka (by rw[hlen];exact hr) (by rw[hlen];exact hq);have e:vM (uP r q) η hp (BJ undef r q η) (BJ af.dead r q (hp.map (iY (uP r q)))):=⟨fun i o ho=>by rw[gH,BI,alM,ho];rfl,fun i hi=>by rw[ze,BI]⟩;have back:∀{i:Nat} {o':af},(BJ af.dead r q (hp.map (iY (uP r q))))[i]?=some o'->∃o,hp[uP r q i]?=some o/\o'=iY (uP r q) o:=fun {i o'} ho=>by
   rw[gH] at ho;obtain⟨o,h1,h2⟩:=cP ho;exact⟨o,h1,h2⟩
  have ew:∀b o,bk Γ w η hp b o->bk Γ w (BJ undef r q η) (BJ af.dead r q (hp.map (iY (uP r q)))) b o:=fun b k hf=>by
   refine⟨hf.1,hf.2.1,hf.2.2.1,(aU b k).2 fun i v h1 h2=>?_⟩;rw[ze] at h1;obtain⟨o,h3,h4⟩:=(aU b k).1 hf.2.2.2 _ v h1 h2;exact⟨iY (uP r q) o,by rw[gH,alM,h3];rfl,tQ.2 h4⟩
  have cA:Ext w (bk Γ w η hp) (BJ undef r q η) (BJ af.dead r q (hp.map (iY (uP r q)))) w (bk Γ w (BJ undef r q η) (BJ af.dead r q (hp.map (iY (uP r q))))) (BJ undef r q η) (BJ af.dead r q (hp.map (iY (uP r q)))):=
   ⟨fun _ _ _ _ h=>h,fun _ _ _ _ h=>h,ew,fun _ _ h=>h,fun _ _ h=>h,fun _ _ _ h=>h⟩
  have low:∀{i:Nat},i<Γ.jR.length->uP r q i=i:=fun {i} hi=>by rw[HP,if_neg (by omega),if_neg (by omega)]
  refine⟨BJ undef r q η,h.nt,fun t=>?_,⟨by rw[J9,J9,alv,hlen],fun i o' v h1 h2=>?_,fun i j o1 o2 v1 v2 b bu h1 h2 l1 l2 e1 e2 hb=>?_⟩,fun i o' v b h1 hl h2 hb=>?_,h.keeps,h.inv,h.marks,⟨h.ext.cell,h.ext.ir,fun b o hb=>ew b o (h.ext.bg b o hb),fun i x hx=>?_,fun i x hx=>?_,fun i n v hx=>?_⟩⟩
  ·show bm w _ _ _ (match (f t).closed hp.length with|true=>qR (uP r q) (f t)|false=>.top) _;split
   ·rename_i hx;exact(e.re hx (h.tmps t)).ext cA
   ·exact .top _
  ·obtain⟨o,h3,rfl⟩:=back h1;rw[ze] at h2;exact(e.reO (dx o (alF h3)) (h.heap.obj _ o v h3 h2)).ext cA (alA _) fun _ _ _=>rfl
  ·obtain⟨p1,g1,rfl⟩:=back h1;obtain⟨p2,g2,rfl⟩:=back h2;rw[ze] at e1 e2;exact h.heap.sep _ _ p1 p2 v1 v2 b (fun e=>bu (Tz e)) g1 g2 (dH.1 l1) (dH.1 l2) e1 e2 hb
  ·obtain⟨o,h3,rfl⟩:=back h1;rw[ze] at h2;exact h.bM _ o v b h3 (dH.1 hl) h2 hb
  ·have hi:i<Γ.jR.length:=by rw[<-ax.l0];exact(alu.1 hx).1
   rw[ze,low hi];exact h.ext.ptr i x hx
  ·have hi:i<Γ.jR.length:=by rw[<-ax.l0];exact(alu.1 hx).1
   rw[ze,low hi];exact h.ext.mp i x hx
  ·have hi:i<Γ.jR.length:=by
    refine am0 fun hn=>?_;unfold aT at hx;rw[al0 (by omega)] at hx;exact hx
   have eH:r<hp.length:=hr;have hih:i<hp.length:=by omega
   exact(rX (g:=uP r q) (j:=i) (aly hih) (by rw[gH,low hi,alM,aly hih];rfl) (by rw[ze,low hi])).1 (h.ext.own i n v hx)
 ·exact .refl _
def mvS:List (Nat×Nat)->AS Unit->AS Unit
 | [],s=>s
 |p::l,s=>mvS l (swS p.1 p.2 s)
def TA (n0:Nat):List (Nat×Nat)->Bool
 | []=>true
 |p::l=>Nat.ble n0 p.1&&(Nat.ble n0 p.2&&TA n0 l)
theorem Oy (ax:Γ.Ok):∀(l:List (Nat×Nat)) (s:AS Unit),TA Γ.jR.length l=true->cx Γ s (mvS l s)
 | [],s,_=>.refl _
 |p::l,s,h=>by
  simp only[TA,alB] at h;exact(YW ax (alZ h.1) (alZ h.2.1) s).trans (Oy ax l _ h.2.2)
end Go.Proofs.YtdcikhleahfknaaGreatDoor
