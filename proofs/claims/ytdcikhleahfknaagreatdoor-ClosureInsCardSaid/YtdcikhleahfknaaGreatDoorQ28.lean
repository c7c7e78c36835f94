/- Texts of ours laid together for a claim: VcS. -/
import Derived.Test.YtdcikhleahfknaaGreatDoorQ27
namespace Go.Proofs.YtdcikhleahfknaaGreatDoor
open Go
set_option linter.unusedSimpArgs false
set_option linter.unusedVariables false
variable {Γ:Env Unit} {w:World} {a:Act} {F:Nat→Nat→Prop} {η:List Value} {hp:List af}
def r9 (r q i:Nat):Nat:=(match Nat.beq i r with
 |true=>q
 |false=>(match Nat.beq i q with
  |true=>r
  |false=>i))
theorem Et (r q i:Nat):r9 r q i=if i=r then q else if i=q then r else i:=by
 unfold r9
 cases h:Nat.beq i r
 ·have h1:¬i=r:=fun e=>by rw[e,Nat.beq_refl] at h;cases h
  rw[if_neg h1]
  cases h2:Nat.beq i q
  ·have h3:¬i=q:=fun e=>by rw[e,Nat.beq_refl] at h2;cases h2
   rw[if_neg h3]
  ·rw[if_pos (Nat.eq_of_beq_eq_true h2)]
 ·rw[if_pos (Nat.eq_of_beq_eq_true h)]
theorem yA (r q i:Nat):r9 r q (r9 r q i)=i:=by
 simp only[Et]
 by_cases h1:i=r
 ·subst h1
  by_cases h2:q=i
  ·simp[h2]
  ·simp[h2]
 ·by_cases h2:i=q
  ·subst h2;simp[h1]
  ·simp[h1,h2]
theorem N3 {r q i j:Nat} (h:r9 r q i=r9 r q j):i=j:=by rw[←yA r q i,h,yA]
def yB {α:Type} (d:α) (r q:Nat) (l:List α):List α:=(l.set r (l.getD q d)).set q (l.getD r d)
theorem Ge {α:Type} {d:α} {r q:Nat} {l:List α}:(yB d r q l).length=l.length:=by simp[yB]
theorem Gf {α:Type} {d:α} {r q:Nat} {l:List α} (hr:r<l.length) (hq:q<l.length) (i:Nat):(yB d r q l)[i]?=l[r9 r q i]?:=by
 rw[yB,Et,List.getElem?_set,List.getElem?_set]
 by_cases h2:i=q
 ·subst h2
  by_cases h1:i=r
  ·subst h1;simp[hr]
  ·simp[h1,hr,hq]
 ·by_cases h1:i=r
  ·subst h1
   have:¬q=i:=fun e=>h2 e.symm
   simp[this,hr,hq]
  ·have e1:¬q=i:=fun e=>h2 e.symm
   have e2:¬r=i:=fun e=>h1 e.symm
   simp[h1,h2,e1,e2]
def YD (r q:Nat) (s:AS Unit):AS Unit:=
 match Nat.blt r s.hp.length&&(Nat.blt q s.hp.length&&s.hp.all (af.closed s.hp.length)) with
 |true=>⟨fun t=>(match (s.tmps t).closed s.hp.length with|true=>o5 (r9 r q) (s.tmps t)|false=>.top),yB .dead r q (s.hp.map (gW (r9 r q))),s.g⟩
 |false=>s
theorem Sx (ao:Γ.Ok) {r q:Nat} (hr0:Γ.iV.length≤r) (hq0:Γ.iV.length≤q) (s:AS Unit):bX Γ s (YD r q s):=by
 unfold YD
 split
 ·rename_i hc
  rw[Bool.and_eq_true,Bool.and_eq_true] at hc
  have hr:r<s.hp.length:=Nat.le_of_ble_eq_true hc.1
  have hq:q<s.hp.length:=Nat.le_of_ble_eq_true hc.2.1
  have cS:∀o∈s.hp,af.closed s.hp.length o=true:=List.all_eq_true.1 hc.2.2
  obtain⟨f,hp,g⟩:=s
  intro a w η h
  have hlen:η.length=hp.length:=h.heap.len
  have gH:∀i,(yB af.dead r q (hp.map (gW (r9 r q))))[i]?=(hp.map (gW (r9 r q)))[r9 r q i]?:=Gf (by simpa using hr) (by simpa using hq)
  have wi:∀i,(yB undef r q η)[i]?=η[r9 r q i]?:=Gf (by rw[hlen];exact hr) (by rw[hlen];exact hq)
  have e:th (r9 r q) η hp (yB undef r q η) (yB af.dead r q (hp.map (gW (r9 r q)))):=⟨fun i o ho=>by rw[gH,yA,List.getElem?_map,ho];rfl,fun i hi=>by rw[wi,yA]⟩
  have back:∀{i:Nat} {o':af},(yB af.dead r q (hp.map (gW (r9 r q))))[i]?=some o'→∃o,hp[r9 r q i]?=some o∧o'=gW (r9 r q) o:=fun {i o'} ho=>by
   rw[gH] at ho
   obtain⟨o,h1,h2⟩:=cu ho
   exact⟨o,h1,h2⟩
  have dT:∀b o,aW Γ w η hp b o→aW Γ w (yB undef r q η) (yB af.dead r q (hp.map (gW (r9 r q)))) b o:=fun b k hf=>by
   refine⟨hf.1,hf.2.1,hf.2.2.1,(aR b k).2 fun i v h1 h2=>?_⟩
   rw[wi] at h1
   obtain⟨o,h3,h4⟩:=(aR b k).1 hf.2.2.2 _ v h1 h2
   exact⟨gW (r9 r q) o,by rw[gH,List.getElem?_map,h3];rfl,rl.2 h4⟩
  have bZ:Ext w (aW Γ w η hp) (yB undef r q η) (yB af.dead r q (hp.map (gW (r9 r q)))) w (aW Γ w (yB undef r q η) (yB af.dead r q (hp.map (gW (r9 r q))))) (yB undef r q η) (yB af.dead r q (hp.map (gW (r9 r q)))):=
   ⟨fun _ _ _ _ h=>h,fun _ _ _ _ h=>h,dT,fun _ _ h=>h,fun _ _ h=>h,fun _ _ _ h=>h⟩
  have low:∀{i:Nat},i<Γ.iV.length→r9 r q i=i:=fun {i} hi=>by rw[Et,if_neg (by omega),if_neg (by omega)]
  refine⟨yB undef r q η,h.nt,fun t=>?_,⟨by rw[Ge,Ge,List.length_map,hlen],fun i o' v h1 h2=>?_,fun i j o1 o2 v1 v2 b bh h1 h2 l1 l2 e1 e2 hb=>?_⟩,fun i o' v b h1 hl h2 hb=>?_,h.keeps,h.inv,h.marks,⟨h.ext.cell,h.ext.gp,fun b o hb=>dT b o (h.ext.bb b o hb),fun i x hx=>?_,fun i x hx=>?_,fun i n v hx=>?_⟩⟩
  ·show aY w _ _ _ (match (f t).closed hp.length with|true=>o5 (r9 r q) (f t)|false=>.top) _
   split
   ·rename_i hx
    exact(e.re hx (h.tmps t)).ext bZ
   ·exact .top _
  ·obtain⟨o,h3,rfl⟩:=back h1
   rw[wi] at h2
   exact(e.reO (cS o (List.mem_of_getElem? h3)) (h.heap.obj _ o v h3 h2)).ext bZ (Nat.le_refl _) fun _ _ _=>rfl
  ·obtain⟨p1,g1,rfl⟩:=back h1
   obtain⟨p2,g2,rfl⟩:=back h2
   rw[wi] at e1 e2
   exact h.heap.sep _ _ p1 p2 v1 v2 b (fun e=>bh (N3 e)) g1 g2 (dt.1 l1) (dt.1 l2) e1 e2 hb
  ·obtain⟨o,h3,rfl⟩:=back h1
   rw[wi] at h2
   exact h.bA _ o v b h3 (dt.1 hl) h2 hb
  ·have hi:i<Γ.iV.length:=by rw[←ao.l0];exact(List.getElem?_eq_some_iff.1 hx).1
   rw[wi,low hi];exact h.ext.ptr i x hx
  ·have hi:i<Γ.iV.length:=by rw[←ao.l0];exact(List.getElem?_eq_some_iff.1 hx).1
   rw[wi,low hi];exact h.ext.mp i x hx
  ·have hi:i<Γ.iV.length:=by
    refine Classical.byContradiction fun hn=>?_
    unfold aT at hx
    rw[List.getElem?_eq_none (by omega)] at hx
    exact hx
   have ec:r<hp.length:=hr
   have hih:i<hp.length:=by omega
   exact(pZ (g:=r9 r q) (j:=i) (List.getElem?_eq_getElem hih) (by rw[gH,low hi,List.getElem?_map,List.getElem?_eq_getElem hih];rfl) (by rw[wi,low hi])).1 (h.ext.own i n v hx)
 ·exact .refl _
def YE:List (Nat×Nat)→AS Unit→AS Unit
 | [],s=>s
 |p::l,s=>YE l (YD p.1 p.2 s)
def N4 (n0:Nat):List (Nat×Nat)→Bool
 | []=>true
 |p::l=>Nat.ble n0 p.1&&(Nat.ble n0 p.2&&N4 n0 l)
theorem Kl (ao:Γ.Ok):∀(l:List (Nat×Nat)) (s:AS Unit),N4 Γ.iV.length l=true→bX Γ s (YE l s)
 | [],s,_=>.refl _
 |p::l,s,h=>by
  simp only[N4,Bool.and_eq_true] at h
  exact(Sx ao (Nat.le_of_ble_eq_true h.1) (Nat.le_of_ble_eq_true h.2.1) s).trans (Kl ao l _ h.2.2)
end Go.Proofs.YtdcikhleahfknaaGreatDoor
