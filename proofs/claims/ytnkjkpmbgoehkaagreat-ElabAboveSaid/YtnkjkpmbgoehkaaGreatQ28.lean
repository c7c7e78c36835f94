/- Texts of ours laid together for a claim: VcS. -/
import Derived.Test.YtnkjkpmbgoehkaaGreatQ27
namespace Go.Proofs.YtnkjkpmbgoehkaaGreat
open Go
set_option linter.unusedSimpArgs false
set_option linter.unusedVariables false
variable {Γ:Env Unit} {w:World} {a:Act} {F:Nat->Nat->Prop} {η:List Value} {hp:List ab}
def uS (r q i:Nat):Nat:=(match Nat.beq i r with
 |true=>q
 |false=>(match Nat.beq i q with
  |true=>r
  |false=>i))
theorem Hz (r q i:Nat):uS r q i=if i=r then q else if i=q then r else i:=by
 unfold uS
 cases h:Nat.beq i r
 ·have h1:¬i=r:=fun e=>by rw[e,Nat.beq_refl] at h;cases h
  rw[if_neg h1]
  cases h2:Nat.beq i q
  ·have h3:¬i=q:=fun e=>by rw[e,Nat.beq_refl] at h2;cases h2
   rw[if_neg h3]
  ·rw[if_pos (alB h2)]
 ·rw[if_pos (alB h)]
theorem BC (r q i:Nat):uS r q (uS r q i)=i:=by
 simp only[Hz]
 by_cases h1:i=r
 ·subst h1
  by_cases h2:q=i
  ·simp[h2]
  ·simp[h2]
 ·by_cases h2:i=q
  ·subst h2;simp[h1]
  ·simp[h1,h2]
theorem T0 {r q i j:Nat} (h:uS r q i=uS r q j):i=j:=by rw[<-BC r q i,h,BC]
def BD {α:Type} (d:α) (r q:Nat) (l:List α):List α:=(l.set r (l.getD q d)).set q (l.getD r d)
theorem JC {α:Type} {d:α} {r q:Nat} {l:List α}:(BD d r q l).length=l.length:=by simp[BD]
theorem JD {α:Type} {d:α} {r q:Nat} {l:List α} (hr:r<l.length) (hq:q<l.length) (i:Nat):(BD d r q l)[i]?=l[uS r q i]?:=by
 rw[BD,Hz,amr,amr]
 by_cases h2:i=q
 ·subst h2
  by_cases h1:i=r
  ·subst h1;simp[hr]
  ·simp[h1,hr,hq]
 ·by_cases h1:i=r
  ·subst h1;have:¬q=i:=fun e=>h2 e.symm;simp[this,hr,hq]
  ·have e1:¬q=i:=fun e=>h2 e.symm;have e2:¬r=i:=fun e=>h1 e.symm;simp[h1,h2,e1,e2]
def swS (r q:Nat) (s:AS Unit):AS Unit:=
 match Nat.blt r s.hp.length&&(Nat.blt q s.hp.length&&s.hp.all (ab.closed s.hp.length)) with
 |true=>⟨fun t=>(match (s.tmps t).closed s.hp.length with|true=>rb (uS r q) (s.tmps t)|false=>.top),BD .dead r q (s.hp.map (ji (uS r q))),s.g⟩
 |false=>s
theorem XW (al:Γ.Ok) {r q:Nat} (hr0:Γ.lx.length<=r) (hq0:Γ.lx.length<=q) (s:AS Unit):ck Γ s (swS r q s):=by
 unfold swS;split
 ·rename_i hc;rw[aln,aln] at hc;have hr:r<s.hp.length:=alF hc.1;have hq:q<s.hp.length:=alF hc.2.1;have cY:∀o∈s.hp,ab.closed s.hp.length o=true:=alv.1 hc.2.2;obtain⟨f,hp,g⟩:=s;intro a w η h;have hlen:η.length=hp.length:=h.heap.len;have gH:∀i,(BD ab.dead r q (hp.map (ji (uS r q))))[i]?=(hp.map (ji (uS r q)))[uS r q i]?:=JD (by simpa using hr) (by simpa using hq);have zr:∀i,(BD undef r q η)[i]?=η[uS r q i]?:=JD (by rw[hlen];exact hr) (by rw[hlen];exact hq);have e:vI (uS r q) η hp (BD undef r q η) (BD ab.dead r q (hp.map (ji (uS r q)))):=⟨fun i o ho=>by rw[gH,BC,alu,ho];rfl,fun i hi=>by rw[zr,BC]⟩;have back:∀{i:Nat} {o':ab},(BD ab.dead r q (hp.map (ji (uS r q))))[i]?=some o'->∃o,hp[uS r q i]?=some o/\o'=ji (uS r q) o:=fun {i o'} ho=>by
   rw[gH] at ho;obtain⟨o,h1,h2⟩:=cL ho;exact⟨o,h1,h2⟩
  have jc:∀b o,aW Γ w η hp b o->aW Γ w (BD undef r q η) (BD ab.dead r q (hp.map (ji (uS r q)))) b o:=fun b k hf=>by
   refine⟨hf.1,hf.2.1,hf.2.2.1,(aS b k).2 fun i v h1 h2=>?_⟩;rw[zr] at h1;obtain⟨o,h3,h4⟩:=(aS b k).1 hf.2.2.2 _ v h1 h2;exact⟨ji (uS r q) o,by rw[gH,alu,h3];rfl,tR.2 h4⟩
  have fF:Ext w (aW Γ w η hp) (BD undef r q η) (BD ab.dead r q (hp.map (ji (uS r q)))) w (aW Γ w (BD undef r q η) (BD ab.dead r q (hp.map (ji (uS r q))))) (BD undef r q η) (BD ab.dead r q (hp.map (ji (uS r q)))):=
   ⟨fun _ _ _ _ h=>h,fun _ _ _ _ h=>h,jc,fun _ _ h=>h,fun _ _ h=>h,fun _ _ _ h=>h⟩
  have low:∀{i:Nat},i<Γ.lx.length->uS r q i=i:=fun {i} hi=>by rw[Hz,if_neg (by omega),if_neg (by omega)]
  refine⟨BD undef r q η,h.nt,fun t=>?_,⟨by rw[JC,JC,alm,hlen],fun i o' v h1 h2=>?_,fun i j o1 o2 v1 v2 b bL h1 h2 l1 l2 e1 e2 hb=>?_⟩,fun i o' v b h1 hl h2 hb=>?_,h.keeps,h.inv,h.marks,⟨h.ext.cell,h.ext.jt,fun b o hb=>jc b o (h.ext.bk b o hb),fun i x hx=>?_,fun i x hx=>?_,fun i n v hx=>?_⟩⟩
  ·show ba w _ _ _ (match (f t).closed hp.length with|true=>rb (uS r q) (f t)|false=>.top) _;split
   ·rename_i hx;exact(e.re hx (h.tmps t)).ext fF
   ·exact .top _
  ·obtain⟨o,h3,rfl⟩:=back h1;rw[zr] at h2;exact(e.reO (cY o (alq h3)) (h.heap.obj _ o v h3 h2)).ext fF (alp _) fun _ _ _=>rfl
  ·obtain⟨p1,g1,rfl⟩:=back h1;obtain⟨p2,g2,rfl⟩:=back h2;rw[zr] at e1 e2;exact h.heap.sep _ _ p1 p2 v1 v2 b (fun e=>bL (T0 e)) g1 g2 (dO.1 l1) (dO.1 l2) e1 e2 hb
  ·obtain⟨o,h3,rfl⟩:=back h1;rw[zr] at h2;exact h.bN _ o v b h3 (dO.1 hl) h2 hb
  ·have hi:i<Γ.lx.length:=by rw[<-al.l0];exact(ali.1 hx).1
   rw[zr,low hi];exact h.ext.ptr i x hx
  ·have hi:i<Γ.lx.length:=by rw[<-al.l0];exact(ali.1 hx).1
   rw[zr,low hi];exact h.ext.mp i x hx
  ·have hi:i<Γ.lx.length:=by
    refine amS fun hn=>?_;unfold aR at hx;rw[alU (by omega)] at hx;exact hx
   have fI:r<hp.length:=hr;have hih:i<hp.length:=by omega
   exact(se (g:=uS r q) (j:=i) (alo hih) (by rw[gH,low hi,alu,alo hih];rfl) (by rw[zr,low hi])).1 (h.ext.own i n v hx)
 ·exact .refl _
def mvS:List (Nat×Nat)->AS Unit->AS Unit
 | [],s=>s
 |p::l,s=>mvS l (swS p.1 p.2 s)
def T5 (n0:Nat):List (Nat×Nat)->Bool
 | []=>true
 |p::l=>Nat.ble n0 p.1&&(Nat.ble n0 p.2&&T5 n0 l)
theorem OA (al:Γ.Ok):∀(l:List (Nat×Nat)) (s:AS Unit),T5 Γ.lx.length l=true->ck Γ s (mvS l s)
 | [],s,_=>.refl _
 |p::l,s,h=>by
  simp only[T5,aln] at h;exact(XW al (alF h.1) (alF h.2.1) s).trans (OA al l _ h.2.2)
end Go.Proofs.YtnkjkpmbgoehkaaGreat
