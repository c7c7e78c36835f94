/- Texts of ours laid together for a claim: FilV. -/
import Derived.Test.YtdcikhleahfknaaGreatDoorQ09
namespace Go.Proofs.YtdcikhleahfknaaGreatDoor
open Go
set_option linter.unusedSimpArgs false
set_option linter.unusedVariables false
variable {G:Type} {Γ:Env G} {s s':AS G} {a:Act} {w w':World} {η aH:List Value} {hp hp':List af} {P:Program} {ops:Array Oper}
def jW (Γ:Env G) (o:Oper) (s:AS G) (r:AV):Prop:=
 ∀pU:Env G,pU.Ok→pU.P=Γ.P→pU.nt=Γ.nt→pU.wP=Γ.wP→pT pU o s r
def AV.pV (hp:List af):AV→Bool
 | .own r _=>(match hp[r]? with|some (.row ..)=>true|_=>false)
 | .agg _ | .aX _ | .aK _ _ | .eH _ _ _ _ | .cK _ _=>false
 |_=>true
def AV.wY (hp:List af):AV→Bool
 | .agg cs=>cs.all (AV.pV hp)
 |x=>x.pV hp
def AV.held (hp:List af):AV→Bool
 | .aX vs=>vs.all (AV.wY hp)
 | .aK _ caps=>caps.all (AV.wY hp)
 | .cK _ caps=>caps.all (AV.wY hp)
 |x=>x.wY hp
structure Mv (w:World) (F:Nat→Nat→Prop) (η:List Value) (hp:List af) (F':Nat→Nat→Prop) (aH:List Value) (hp':List af):Prop where
 bb:∀b o,F b o→F' b o
 get:∀(r:Nat) (v:Value),η[r]?=some v→aH[r]?=some v
 row:∀(r e size:Nat) (els:List AV),hp[r]?=some (.row e size els)→hp'[r]?=some (.row e size els)
theorem aY.Jp {F F':Nat→Nat→Prop} {x:AV} {v:Value} (h:aY w F η hp x v) (hF:∀b o,F b o→F' b o):aY w F' η hp x v:=
 h.ext ⟨fun _ _ _ _ h=>h,fun _ _ _ _ h=>h,hF,fun _ _ h=>h,fun _ _ h=>h,fun _ _ _ h=>h⟩
theorem Mv.AB {F F':Nat→Nat→Prop} (m:Mv w F η hp F' aH hp') {x:AV} {v:Value} (hx:x.pV hp=true) (h:aY w F η hp x v):aY w F' aH hp' x v:=by
 cases h with
 |own r n v h1 h2=>
  simp only[AV.pV] at hx
  split at hx
  ·rename_i e size els hr
   refine .own r n v h1 ?_
   unfold aT at h2 ⊢
   rw[hr] at h2
   rw[m.row _ _ _ _ hr]
   exact⟨h2.1,fun hn=>m.get _ _ (h2.2 hn)⟩
  ·cases hx
 |ptr r off b h1=>exact .ptr r off b (m.get _ _ h1)
 |mp r b h1=>exact .mp r b (m.get _ _ h1)
 |agg cs vs hl h1 hr=>simp[AV.pV] at hx
 |aX cs vs hl hr=>simp[AV.pV] at hx
 |aK fn cs vs hl hr=>simp[AV.pV] at hx
 |top v=>exact .top v
 |ae v=>exact .ae v
 |fn v h1=>exact .fn v h1
 |ki a=>exact .ki a
 |iB a=>exact .iB a
 |sl size els b o c f hc hm hl ay hr=>exact .sl size els b o c f hc hm hl (fun i el j x hi hj=>let ⟨g1,g2,g3⟩:=ay i el j x hi hj;⟨g1,m.bb _ _ g2,g3⟩) (fun i el j x hi hj=>(hr i el j x hi hj).Jp m.bb)
 |clip size els b o f hm hl ay hr=>exact .clip size els b o f hm hl (fun i el j x hi hj=>let ⟨g1,g2,g3⟩:=ay i el j x hi hj;⟨g1,m.bb _ _ g2,g3⟩) (fun i el j x hi hj=>(hr i el j x hi hj).Jp m.bb)
 |aL e off b o f ay hr=>exact .aL e off b o f (fun j x hj=>let ⟨g1,g2,g3⟩:=ay j x hj;⟨g1,m.bb _ _ g2,g3⟩) (fun j x hj=>(hr j x hj).Jp m.bb)
 |ea b es c h hF l hl=>exact .ea b es c h (m.bb _ _ hF) l hl
 |eH r n i size b o c k h=>simp[AV.pV] at hx
 |cK fn cs vs hl hr=>simp[AV.pV] at hx
theorem Mv.NG {F F':Nat→Nat→Prop} (m:Mv w F η hp F' aH hp') {x:AV} {v:Value} (hx:x.wY hp=true) (h:aY w F η hp x v):aY w F' aH hp' x v:=by
 cases x with
 |agg cs=>
  cases h with
  |agg _ vs hl h1 hr=>exact .agg cs vs hl h1 fun j x v hj hv=>m.AB (by simp only[AV.wY,List.all_eq_true] at hx;exact hx x (List.mem_of_getElem? hj)) (hr j x v hj hv)
 |_=>exact m.AB hx h
theorem Mv.rep {F F':Nat→Nat→Prop} (m:Mv w F η hp F' aH hp') {x:AV} {v:Value} (hx:x.held hp=true) (h:aY w F η hp x v):aY w F' aH hp' x v:=by
 cases x with
 |aX cs=>
  cases h with
  |aX _ vs hl hr=>exact .aX cs vs hl fun j x v hj hv=>m.NG (by simp only[AV.held,List.all_eq_true] at hx;exact hx x (List.mem_of_getElem? hj)) (hr j x v hj hv)
 |aK f cs=>
  cases h with
  |aK _ _ vs hl hr=>exact .aK f cs vs hl fun j x v hj hv=>m.NG (by simp only[AV.held,List.all_eq_true] at hx;exact hx x (List.mem_of_getElem? hj)) (hr j x v hj hv)
 |cK f cs=>
  cases h with
  |cK _ _ vs hl hr=>exact .cK f cs vs hl fun j x v hj hv=>m.NG (by simp only[AV.held,List.all_eq_true] at hx;exact hx x (List.mem_of_getElem? hj)) (hr j x v hj hv)
 |_=>exact m.NG hx h
structure Part (s s':AS G) (L:List Nat):Prop where
 tmps:∀t,t∈L→s'.tmps t=s.tmps t∧(s.tmps t).closed s.hp.length=true
 hp:∀(q:Nat) (o:af),s.hp[q]?=some o→o.live→s'.hp[q]?=some o∧o.closed s.hp.length=true
 len:s.hp.length≤s'.hp.length
theorem jW.part {o:Oper} {r:AV} {L:List Nat} (hU:jW Γ o (s.only L) r) (hp:Part s s' L) (hr:r.held s.hp=true):jW Γ o (s'.only L) r:=by
 intro IL RQ e1 e2 e3 a w η Kc Qc hrel hk
 have hlen:η.length=s'.hp.length:=hrel.heap.len
 let n:=s.hp.length
 have hn:n≤η.length:=by rw[hlen];exact hp.len
 have bR:∀(q:Nat) (v:Value),(η.take n)[q]?=some v↔(q<n∧η[q]?=some v):=by
  intro q v
  rw[List.getElem?_take]
  split
  ·rename_i h;simp[h]
  ·rename_i h;simp[h]
 have dw:∀(q:Nat) (o:af),s.hp[q]?=some o→q<n:=fun q o h=>(List.getElem?_eq_some_iff.1 h).1
 let A1:Env G:={ P:=IL.P,w0:=w,F0:=aW IL w η s'.hp,X:=fun _=>False,Y:=aE (η.take n) s.hp,Inv:=fun _ _=>True,nt:=IL.nt,wP:=IL.wP,vZ:=η.take n,iV:=s.hp,m0:=IL.m0,Z:=fun b o=>b<w.heap.size∧¬aE (η.take n) s.hp b∧¬gO η s'.hp b o }
 have IM:∀b,aE (η.take n) s.hp b→b<w.heap.size:=by
  intro b ⟨q,o,v,g1,g2,g3,g4⟩
  exact hrel.heap.block (hp.hp q o g1 g2).1 g2 ((bR q v).1 g3).2 g4
 have Jq:A1.Ok:=⟨by simp only[A1,List.length_take];exact Nat.min_eq_left hn,fun _ h=>h.elim,IM,fun _ _ _ _ _ _=>True.intro,fun b o h=>h.1,hrel.gz RQ,fun b hb h=>h.elim (fun h=>h) fun⟨q,o,v,g1,g2,g3,g4⟩=>hrel.gx RQ hb ⟨q,o,v,(hp.hp q o g1 g2).1,g2,((bR q v).1 g3).2,g4⟩⟩
 have kx:∀b o,gO η s'.hp b o→gO (η.take n) s.hp b o:=by
  intro b o h
  refine(aR b o).2 fun q v hq hb=>?_
  obtain⟨h1,h2⟩:=(bR q v).1 hq
  obtain⟨o1,q1,q2⟩:=(aR b o).1 h q v h2 hb
  have Hb:s.hp[q]?=some s.hp[q]:=by simp[h1,n] 
  by_cases hl:s.hp[q].live
  ·have:=(hp.hp q _ Hb hl).1
   rw[q1] at this
   obtain rfl:=Option.some.inj this
   exact⟨_,Hb,q2⟩
  ·refine⟨_,Hb,?_⟩
   cases hx:s.hp[q] with
   |dead=>exact True.intro
   |_=>rw[hx] at hl;exact(hl True.intro).elim
 have Jr:∀b o,aW IL w η s'.hp b o→aW A1 w (η.take n) s.hp b o:=fun b o h=>
  ⟨.inl h,h.2.1,fun hz=>hz.elim (fun hz=>hz) fun hz=>hz.2.2 h.2.2.2,kx b o h.2.2.2⟩
 have qZ:∀q m u,aT (η.take n) (s'.hp.take n) q m u→aT (η.take n) s.hp q m u:=by
  intro q m u h
  unfold aT at h ⊢
  cases hq:s.hp[q]? with
  |none=>
   have:n≤q:=by simpa [n] using hq
   rw[List.getElem?_take,if_neg (by omega)] at h
   exact h
  |some o=>
   by_cases hl:o.live
   ·have h1:=(hp.hp q o hq hl).1
    rw[List.getElem?_take,if_pos (dw q o hq),h1] at h
    exact h
   ·cases o with
    |dead=>exact True.intro
    |_=>exact(hl True.intro).elim
 have bZ:Ext w (aW IL w η s'.hp) (η.take n) (s'.hp.take n) w (aW A1 w (η.take n) s.hp) (η.take n) s.hp:=
  ⟨fun _ _ _ _ h=>h,fun _ _ _ _ h=>h,Jr,fun _ _ h=>h,fun _ _ h=>h,qZ⟩
 have QJ:∀{x:AV} {v:Value},aY w (aW IL w η s'.hp) [] [] x v→aY w (aW A1 w (η.take n) s.hp) [] [] x v:=fun h=>h.bb Jr
 have Js:Rel A1 (s.only L) a w (η.take n):=by
  refine⟨hrel.nt,fun t=>?_,⟨by simp only[AS.only,List.length_take];exact Nat.min_eq_left hn,fun q o v h1 h2=>?_,fun q q' o o' v v' b bh h1 h2 l1 l2 g1 g2 hb=>?_⟩,fun q o v b h1 hl h2 hb=>⟨.inr ⟨q,o,v,h1,hl,h2,hb⟩,fun k hz=>?_⟩,bo.refl _ w,True.intro,hrel.marks,⟨fun _ _ _ _ h=>h,fun _ _ _ _ h=>h,Jr,fun _ _ h=>h,fun _ _ h=>h,fun _ _ _ h=>h⟩⟩
  ·show aY w (aW A1 w (η.take n) s.hp) (η.take n) s.hp (if t∈L then s.tmps t else .top) _
   split
   ·rename_i ht
    obtain⟨g1,g2⟩:=hp.tmps t ht
    have h1:=hrel.tmps t
    have h2:(s'.only L).tmps t=s.tmps t:=by show (if t∈L then s'.tmps t else .top)=_;rw[if_pos ht,g1]
    rw[h2] at h1
    exact(lH g2 h1).ext bZ
   ·exact .top _
  ·by_cases hl:o.live
   ·obtain⟨g1,g2⟩:=hp.hp q o h1 hl
    have cW:=hrel.heap.obj q o v g1 ((bR q v).1 h2).2
    cases o with
    |dead=>exact True.intro
    |box cs=>
     obtain⟨b,vs,T,k1,k2,k3,k4⟩:=cW
     exact⟨b,vs,T,k1,k2,k3,fun j x u hx hu=>⟨(dy (by simp only[af.closed,List.all_eq_true] at g2;exact g2 x (List.mem_of_getElem? hx)) (k4 j x u hx hu).1).ext bZ,(k4 j x u hx hu).2⟩⟩
    |row e size els=>
     obtain⟨k0,xs,k1,k2⟩:=cW
     exact⟨k0,xs,k1,fun i el hi=>⟨(k2 i el hi).1,fun j x hj=>let ⟨u,p1,p2,p3⟩:=(k2 i el hi).2 j x hj;⟨u,p1,QJ p2,p3⟩⟩⟩
    |aB es=>exact cW
    |cA q k=>
     obtain⟨b,vs,e1,e2,e3,e4,u,e5,e6⟩:=cW
     exact⟨b,vs,e1,e2,e3,e4,u,e5,(dy (x:=.own q k) (by simpa [AV.aM,af.closed] using g2) e6).ext bZ⟩
    |aI e size els=>
     obtain⟨k0,xs,k1,k2⟩:=cW
     exact⟨k0,xs,k1,fun i el hi=>⟨(k2 i el hi).1,fun j x hj=>let ⟨u,p1,p2,p3⟩:=(k2 i el hi).2 j x hj;⟨u,p1,QJ p2,p3⟩⟩⟩
    |dB e m ns=>exact cW
   ·cases o with
    |dead=>exact True.intro
    |_=>exact(hl True.intro).elim
  ·exact hrel.heap.sep q q' o o' v v' b bh (hp.hp q o h1 l1).1 (hp.hp q' o' h2 l2).1 l1 l2 ((bR q v).1 g1).2 ((bR q' v').1 g2).2 hb
  ·exact hz.elim (fun hz=>hz) fun hz=>hz.2.1 ⟨q,o,v,h1,hl,h2,hb⟩
 have A2:=hU A1 Jq (by rw[←e1]) (by rw[←e2]) (by rw[←e3]) a w (η.take n) Kc Qc Js
 refine A2 fun v w' hs cE=>hk v w' hs ?_
 have IJ:Mv w' (aW A1 w' (η.take n) s.hp) (η.take n) s.hp (aW IL w' η s'.hp) η s'.hp:=by
  refine⟨fun b o hf=>?_,fun q v h=>((bR q v).1 h).2,fun q e size els h=>(hp.hp q _ h True.intro).1⟩
  have Jt:gO η s'.hp b o:=by
   by_cases hb:b<w.heap.size
   ·by_cases hl:aE (η.take n) s.hp b
    ·obtain⟨q,o1,v1,g1,g2,g3,g4⟩:=hl
     refine(aR b o).2 fun q' u hu IK=>?_
     have Hb:q' < s'.hp.length:=by rw[←hlen];exact(List.getElem?_eq_some_iff.1 hu).1
     have An:s'.hp[q']?=some s'.hp[q']:=by simp[Hb]
     by_cases hqq:q=q'
     ·subst hqq
      obtain⟨o2,p1,p2⟩:=(aR b o).1 hf.2.2.2 q v1 g3 g4
      rw[g1] at p1
      obtain rfl:=Option.some.inj p1
      exact⟨_,(hp.hp q _ g1 g2).1,p2⟩
     ·refine⟨_,An,?_⟩
      cases hx:s'.hp[q'] with
      |dead=>exact True.intro
      |_=>
       exfalso
       rw[hx] at An
       exact hrel.heap.sep q q' o1 _ v1 u b hqq (hp.hp q _ g1 g2).1 An g2 True.intro ((bR q v1).1 g3).2 hu g4 IK
    ·have:=hf.2.2.1
     refine Classical.byContradiction fun Xn=>this (.inr ⟨hb,hl,Xn⟩)
   ·refine(aR b o).2 fun q' u hu IK=>?_
    have Hb:q' < s'.hp.length:=by rw[←hlen];exact(List.getElem?_eq_some_iff.1 hu).1
    have An:s'.hp[q']?=some s'.hp[q']:=by simp[Hb]
    refine⟨_,An,?_⟩
    cases hx:s'.hp[q'] with
    |dead=>exact True.intro
    |_=>
     exfalso
     rw[hx] at An
     exact hb (hrel.heap.block An True.intro hu IK)
  rcases hf.1 with h1|h1|h1
  ·exact⟨h1.1,hf.2.1,h1.2.2.1,Jt⟩
  ·refine⟨.inr (.inl (Nat.le_trans hrel.keeps.size h1)),hf.2.1,fun hx=>?_,Jt⟩
   have:=RQ.no hx
   have:=hrel.keeps.size
   have:w.heap.size≤b:=h1
   omega
  ·obtain⟨q,o1,v1,g1,g2,g3,g4⟩:=h1
   have:=hrel.bA q o1 v1 b (hp.hp q o1 g1 g2).1 g2 ((bR q v1).1 g3).2 g4
   exact⟨.inr this.1,hf.2.1,this.2 _,Jt⟩
 exact IJ.rep hr cE
end Go.Proofs.YtdcikhleahfknaaGreatDoor
