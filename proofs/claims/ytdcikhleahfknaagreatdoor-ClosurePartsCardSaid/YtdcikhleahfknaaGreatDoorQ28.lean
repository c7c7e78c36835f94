/- Texts of ours laid together for a claim: VcS. -/
import Derived.Test.YtdcikhleahfknaaGreatDoorQ27
namespace Go.Proofs.YtdcikhleahfknaaGreatDoor
open Go
set_option linter.unusedSimpArgs false
set_option linter.unusedVariables false
variable {Γ:Env Unit} {w:World} {a:Act} {F:Nat→Nat→Prop} {η:List Value} {hp:List af}
def rE (r q i:Nat):Nat:=(match Nat.beq i r with
 |true=>q
 |false=>(match Nat.beq i q with
  |true=>r
  |false=>i))
theorem C9 (r q i:Nat):rE r q i=if i=r then q else if i=q then r else i:=by
 unfold rE
 cases h:Nat.beq i r
 ·have h1:¬i=r:=fun e=>by rw[e,Nat.beq_refl] at h;cases h
  rw[if_neg h1]
  cases h2:Nat.beq i q
  ·have h3:¬i=q:=fun e=>by rw[e,Nat.beq_refl] at h2;cases h2
   rw[if_neg h3]
  ·rw[if_pos (Nat.eq_of_beq_eq_true h2)]
 ·rw[if_pos (Nat.eq_of_beq_eq_true h)]
theorem xN (r q i:Nat):rE r q (rE r q i)=i:=by
 simp only[C9]
 by_cases h1:i=r
 ·subst h1
  by_cases h2:q=i
  ·simp[h2]
  ·simp[h2]
 ·by_cases h2:i=q
  ·subst h2;simp[h1]
  ·simp[h1,h2]
theorem Ms {r q i j:Nat} (h:rE r q i=rE r q j):i=j:=by rw[←xN r q i,h,xN]
def xO {α:Type} (d:α) (r q:Nat) (l:List α):List α:=(l.set r (l.getD q d)).set q (l.getD r d)
theorem EW {α:Type} {d:α} {r q:Nat} {l:List α}:(xO d r q l).length=l.length:=by simp[xO]
theorem EX {α:Type} {d:α} {r q:Nat} {l:List α} (hr:r<l.length) (hq:q<l.length) (i:Nat):(xO d r q l)[i]?=l[rE r q i]?:=by
 rw[xO,C9,List.getElem?_set,List.getElem?_set]
 by_cases h2:i=q
 ·subst h2
  by_cases h1:i=r
  ·subst h1;simp[hr]
  ·simp[h1,hr,hq]
 ·by_cases h1:i=r
  ·subst h1
   have:¬q=i:=fun e=>h2 e.symm
   simp[this,hr,hq]
  ·have e1:¬q=i:=fun e=>h2 e.symm
   have e2:¬r=i:=fun e=>h1 e.symm
   simp[h1,h2,e1,e2]
def W2 (r q:Nat) (s:AS Unit):AS Unit:=
 match Nat.blt r s.hp.length&&(Nat.blt q s.hp.length&&s.hp.all (af.closed s.hp.length)) with
 |true=>⟨fun t=>(match (s.tmps t).closed s.hp.length with|true=>oG (rE r q) (s.tmps t)|false=>.top),xO .dead r q (s.hp.map (gD (rE r q))),s.g⟩
 |false=>s
theorem QN (aq:Γ.Ok) {r q:Nat} (Zv:Γ.ir.length≤r) (hq0:Γ.ir.length≤q) (s:AS Unit):bV Γ s (W2 r q s):=by
 unfold W2
 split
 ·rename_i hc
  rw[Bool.and_eq_true,Bool.and_eq_true] at hc
  have hr:r<s.hp.length:=Nat.le_of_ble_eq_true hc.1
  have hq:q<s.hp.length:=Nat.le_of_ble_eq_true hc.2.1
  have cS:∀o∈s.hp,af.closed s.hp.length o=true:=List.all_eq_true.1 hc.2.2
  obtain⟨f,hp,g⟩:=s
  intro a w η h
  have hlen:η.length=hp.length:=h.heap.len
  have gH:∀i,(xO af.dead r q (hp.map (gD (rE r q))))[i]?=(hp.map (gD (rE r q)))[rE r q i]?:=EX (by simpa using hr) (by simpa using hq)
  have vq:∀i,(xO undef r q η)[i]?=η[rE r q i]?:=EX (by rw[hlen];exact hr) (by rw[hlen];exact hq)
  have e:sv (rE r q) η hp (xO undef r q η) (xO af.dead r q (hp.map (gD (rE r q)))):=⟨fun i o ho=>by rw[gH,xN,List.getElem?_map,ho];rfl,fun i hi=>by rw[vq,xN]⟩
  have back:∀{i:Nat} {o':af},(xO af.dead r q (hp.map (gD (rE r q))))[i]?=some o'→∃o,hp[rE r q i]?=some o∧o'=gD (rE r q) o:=fun {i o'} ho=>by
   rw[gH] at ho
   obtain⟨o,h1,h2⟩:=cu ho
   exact⟨o,h1,h2⟩
  have dF:∀b o,aU Γ w η hp b o→aU Γ w (xO undef r q η) (xO af.dead r q (hp.map (gD (rE r q)))) b o:=fun b k hf=>by
   refine⟨hf.1,hf.2.1,hf.2.2.1,(aN b k).2 fun i v h1 h2=>?_⟩
   rw[vq] at h1
   obtain⟨o,h3,h4⟩:=(aN b k).1 hf.2.2.2 _ v h1 h2
   exact⟨gD (rE r q) o,by rw[gH,List.getElem?_map,h3];rfl,qK.2 h4⟩
  have bY:Ext w (aU Γ w η hp) (xO undef r q η) (xO af.dead r q (hp.map (gD (rE r q)))) w (aU Γ w (xO undef r q η) (xO af.dead r q (hp.map (gD (rE r q))))) (xO undef r q η) (xO af.dead r q (hp.map (gD (rE r q)))):=
   ⟨fun _ _ _ _ h=>h,fun _ _ _ _ h=>h,dF,fun _ _ h=>h,fun _ _ h=>h,fun _ _ _ h=>h⟩
  have low:∀{i:Nat},i<Γ.ir.length→rE r q i=i:=fun {i} hi=>by rw[C9,if_neg (by omega),if_neg (by omega)]
  refine⟨xO undef r q η,h.nt,fun t=>?_,⟨by rw[EW,EW,List.length_map,hlen],fun i o' v h1 h2=>?_,fun i j o1 o2 v1 v2 b bj h1 h2 l1 l2 e1 e2 hb=>?_⟩,fun i o' v b h1 hl h2 hb=>?_,h.keeps,h.inv,h.marks,⟨h.ext.cell,h.ext.fQ,fun b o hb=>dF b o (h.ext.aY b o hb),fun i x hx=>?_,fun i x hx=>?_,fun i n v hx=>?_⟩⟩
  ·show aV w _ _ _ (match (f t).closed hp.length with|true=>oG (rE r q) (f t)|false=>.top) _
   split
   ·rename_i hx
    exact(e.re hx (h.tmps t)).ext bY
   ·exact .top _
  ·obtain⟨o,h3,rfl⟩:=back h1
   rw[vq] at h2
   exact(e.Zg (cS o (List.mem_of_getElem? h3)) (h.heap.obj _ o v h3 h2)).ext bY (Nat.le_refl _) fun _ _ _=>rfl
  ·obtain⟨p1,g1,rfl⟩:=back h1
   obtain⟨p2,g2,rfl⟩:=back h2
   rw[vq] at e1 e2
   exact h.heap.sep _ _ p1 p2 v1 v2 b (fun e=>bj (Ms e)) g1 g2 (cV.1 l1) (cV.1 l2) e1 e2 hb
  ·obtain⟨o,h3,rfl⟩:=back h1
   rw[vq] at h2
   exact h.bA _ o v b h3 (cV.1 hl) h2 hb
  ·have hi:i<Γ.ir.length:=by rw[←aq.l0];exact(List.getElem?_eq_some_iff.1 hx).1
   rw[vq,low hi];exact h.ext.ptr i x hx
  ·have hi:i<Γ.ir.length:=by rw[←aq.l0];exact(List.getElem?_eq_some_iff.1 hx).1
   rw[vq,low hi];exact h.ext.mp i x hx
  ·have hi:i<Γ.ir.length:=by
    refine Classical.byContradiction fun hn=>?_
    unfold aQ at hx
    rw[List.getElem?_eq_none (by omega)] at hx
    exact hx
   have dM:r<hp.length:=hr
   have ZC:i<hp.length:=by omega
   exact(pz (g:=rE r q) (j:=i) (List.getElem?_eq_getElem ZC) (by rw[gH,low hi,List.getElem?_map,List.getElem?_eq_getElem ZC];rfl) (by rw[vq,low hi])).1 (h.ext.own i n v hx)
 ·exact .refl _
def W3:List (Nat×Nat)→AS Unit→AS Unit
 | [],s=>s
 |p::l,s=>W3 l (W2 p.1 p.2 s)
def Mt (n0:Nat):List (Nat×Nat)→Bool
 | []=>true
 |p::l=>Nat.ble n0 p.1&&(Nat.ble n0 p.2&&Mt n0 l)
theorem IU (aq:Γ.Ok):∀(l:List (Nat×Nat)) (s:AS Unit),Mt Γ.ir.length l=true→bV Γ s (W3 l s)
 | [],s,_=>.refl _
 |p::l,s,h=>by
  simp only[Mt,Bool.and_eq_true] at h
  exact(QN aq (Nat.le_of_ble_eq_true h.1) (Nat.le_of_ble_eq_true h.2.1) s).trans (IU aq l _ h.2.2)
end Go.Proofs.YtdcikhleahfknaaGreatDoor
