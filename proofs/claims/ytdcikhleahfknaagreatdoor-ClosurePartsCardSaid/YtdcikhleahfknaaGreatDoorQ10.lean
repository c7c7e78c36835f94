/- Texts of ours laid together for a claim: FilV. -/
import Derived.Test.YtdcikhleahfknaaGreatDoorQ09
namespace Go.Proofs.YtdcikhleahfknaaGreatDoor
open Go
set_option linter.unusedSimpArgs false
set_option linter.unusedVariables false
variable {G:Type} {Γ:Env G} {s s':AS G} {a:Act} {w w':World} {η aM:List Value} {hp hp':List af} {P:Program} {ops:Array Oper}
def jB (Γ:Env G) (o:Oper) (s:AS G) (r:AV):Prop:=
 ∀pq:Env G,pq.Ok→pq.P=Γ.P→pq.nt=Γ.nt→pq.vQ=Γ.vQ→po pq o s r
def AV.pr (hp:List af):AV→Bool
 | .own r _=>(match hp[r]? with|some (.row ..)=>true|_=>false)
 | .agg _ | .bc _ | .aS _ _ | .ea _ _ _ _ | .cH _ _=>false
 |_=>true
def AV.v8 (hp:List af):AV→Bool
 | .agg cs=>cs.all (AV.pr hp)
 |x=>x.pr hp
def AV.held (hp:List af):AV→Bool
 | .bc vs=>vs.all (AV.v8 hp)
 | .aS _ caps=>caps.all (AV.v8 hp)
 | .cH _ caps=>caps.all (AV.v8 hp)
 |x=>x.v8 hp
structure Mv (w:World) (F:Nat→Nat→Prop) (η:List Value) (hp:List af) (F':Nat→Nat→Prop) (aM:List Value) (hp':List af):Prop where
 aY:∀b o,F b o→F' b o
 get:∀(r:Nat) (v:Value),η[r]?=some v→aM[r]?=some v
 row:∀(r e size:Nat) (els:List AV),hp[r]?=some (.row e size els)→hp'[r]?=some (.row e size els)
theorem aV.HN {F F':Nat→Nat→Prop} {x:AV} {v:Value} (h:aV w F η hp x v) (hF:∀b o,F b o→F' b o):aV w F' η hp x v:=
 h.ext ⟨fun _ _ _ _ h=>h,fun _ _ _ _ h=>h,hF,fun _ _ h=>h,fun _ _ h=>h,fun _ _ _ h=>h⟩
theorem Mv.zp {F F':Nat→Nat→Prop} (m:Mv w F η hp F' aM hp') {x:AV} {v:Value} (hx:x.pr hp=true) (h:aV w F η hp x v):aV w F' aM hp' x v:=by
 cases h with
 |own r n v h1 h2=>
  simp only[AV.pr] at hx
  split at hx
  ·rename_i e size els hr
   refine .own r n v h1 ?_
   unfold aQ at h2 ⊢
   rw[hr] at h2
   rw[m.row _ _ _ _ hr]
   exact⟨h2.1,fun hn=>m.get _ _ (h2.2 hn)⟩
  ·cases hx
 |ptr r off b h1=>exact .ptr r off b (m.get _ _ h1)
 |mp r b h1=>exact .mp r b (m.get _ _ h1)
 |agg cs vs hl h1 hr=>simp[AV.pr] at hx
 |bc cs vs hl hr=>simp[AV.pr] at hx
 |aS fn cs vs hl hr=>simp[AV.pr] at hx
 |top v=>exact .top v
 |ae v=>exact .ae v
 |fn v h1=>exact .fn v h1
 |jN a=>exact .jN a
 |gR a=>exact .gR a
 |sl size els b o c f hc hm hl aw hr=>exact .sl size els b o c f hc hm hl (fun i el j x hi hj=>let ⟨g1,g2,g3⟩:=aw i el j x hi hj;⟨g1,m.aY _ _ g2,g3⟩) (fun i el j x hi hj=>(hr i el j x hi hj).HN m.aY)
 |clip size els b o f hm hl aw hr=>exact .clip size els b o f hm hl (fun i el j x hi hj=>let ⟨g1,g2,g3⟩:=aw i el j x hi hj;⟨g1,m.aY _ _ g2,g3⟩) (fun i el j x hi hj=>(hr i el j x hi hj).HN m.aY)
 |aH e off b o f aw hr=>exact .aH e off b o f (fun j x hj=>let ⟨g1,g2,g3⟩:=aw j x hj;⟨g1,m.aY _ _ g2,g3⟩) (fun j x hj=>(hr j x hj).HN m.aY)
 |dL b es c h hF l hl=>exact .dL b es c h (m.aY _ _ hF) l hl
 |ea r n i size b o c k h=>simp[AV.pr] at hx
 |cH fn cs vs hl hr=>simp[AV.pr] at hx
theorem Mv.L7 {F F':Nat→Nat→Prop} (m:Mv w F η hp F' aM hp') {x:AV} {v:Value} (hx:x.v8 hp=true) (h:aV w F η hp x v):aV w F' aM hp' x v:=by
 cases x with
 |agg cs=>
  cases h with
  |agg _ vs hl h1 hr=>exact .agg cs vs hl h1 fun j x v hj hv=>m.zp (by simp only[AV.v8,List.all_eq_true] at hx;exact hx x (List.mem_of_getElem? hj)) (hr j x v hj hv)
 |_=>exact m.zp hx h
theorem Mv.rep {F F':Nat→Nat→Prop} (m:Mv w F η hp F' aM hp') {x:AV} {v:Value} (hx:x.held hp=true) (h:aV w F η hp x v):aV w F' aM hp' x v:=by
 cases x with
 |bc cs=>
  cases h with
  |bc _ vs hl hr=>exact .bc cs vs hl fun j x v hj hv=>m.L7 (by simp only[AV.held,List.all_eq_true] at hx;exact hx x (List.mem_of_getElem? hj)) (hr j x v hj hv)
 |aS f cs=>
  cases h with
  |aS _ _ vs hl hr=>exact .aS f cs vs hl fun j x v hj hv=>m.L7 (by simp only[AV.held,List.all_eq_true] at hx;exact hx x (List.mem_of_getElem? hj)) (hr j x v hj hv)
 |cH f cs=>
  cases h with
  |cH _ _ vs hl hr=>exact .cH f cs vs hl fun j x v hj hv=>m.L7 (by simp only[AV.held,List.all_eq_true] at hx;exact hx x (List.mem_of_getElem? hj)) (hr j x v hj hv)
 |_=>exact m.L7 hx h
structure Part (s s':AS G) (L:List Nat):Prop where
 tmps:∀t,t∈L→s'.tmps t=s.tmps t∧(s.tmps t).closed s.hp.length=true
 hp:∀(q:Nat) (o:af),s.hp[q]?=some o→o.live→s'.hp[q]?=some o∧o.closed s.hp.length=true
 len:s.hp.length≤s'.hp.length
theorem jB.part {o:Oper} {r:AV} {L:List Nat} (hU:jB Γ o (s.only L) r) (hp:Part s s' L) (hr:r.held s.hp=true):jB Γ o (s'.only L) r:=by
 intro Hi Qa e1 e2 e3 a w η Kc Qc hrel hk
 have hlen:η.length=s'.hp.length:=hrel.heap.len
 let n:=s.hp.length
 have hn:n≤η.length:=by rw[hlen];exact hp.len
 have bO:∀(q:Nat) (v:Value),(η.take n)[q]?=some v↔(q<n∧η[q]?=some v):=by
  intro q v
  rw[List.getElem?_take]
  split
  ·rename_i h;simp[h]
  ·rename_i h;simp[h]
 have cX:∀(q:Nat) (o:af),s.hp[q]?=some o→q<n:=fun q o h=>(List.getElem?_eq_some_iff.1 h).1
 let zL:Env G:={ P:=Hi.P,w0:=w,F0:=aU Hi w η s'.hp,X:=fun _=>False,Y:=aC (η.take n) s.hp,Inv:=fun _ _=>True,nt:=Hi.nt,vQ:=Hi.vQ,vh:=η.take n,ir:=s.hp,m0:=Hi.m0,Z:=fun b o=>b<w.heap.size∧¬aC (η.take n) s.hp b∧¬gW η s'.hp b o }
 have Hj:∀b,aC (η.take n) s.hp b→b<w.heap.size:=by
  intro b ⟨q,o,v,g1,g2,g3,g4⟩
  exact hrel.heap.block (hp.hp q o g1 g2).1 g2 ((bO q v).1 g3).2 g4
 have HO:zL.Ok:=⟨by simp only[zL,List.length_take];exact Nat.min_eq_left hn,fun _ h=>h.elim,Hj,fun _ _ _ _ _ _=>True.intro,fun b o h=>h.1,hrel.fX Qa,fun b hb h=>h.elim (fun h=>h) fun⟨q,o,v,g1,g2,g3,g4⟩=>hrel.gx Qa hb ⟨q,o,v,(hp.hp q o g1 g2).1,g2,((bO q v).1 g3).2,g4⟩⟩
 have jR:∀b o,gW η s'.hp b o→gW (η.take n) s.hp b o:=by
  intro b o h
  refine(aN b o).2 fun q v hq hb=>?_
  obtain⟨h1,h2⟩:=(bO q v).1 hq
  obtain⟨o1,q1,q2⟩:=(aN b o).1 h q v h2 hb
  have HG:s.hp[q]?=some s.hp[q]:=by simp[h1,n] 
  by_cases hl:s.hp[q].live
  ·have:=(hp.hp q _ HG hl).1
   rw[q1] at this
   obtain rfl:=Option.some.inj this
   exact⟨_,HG,q2⟩
  ·refine⟨_,HG,?_⟩
   cases hx:s.hp[q] with
   |dead=>exact True.intro
   |_=>rw[hx] at hl;exact(hl True.intro).elim
 have HP:∀b o,aU Hi w η s'.hp b o→aU zL w (η.take n) s.hp b o:=fun b o h=>
  ⟨.inl h,h.2.1,fun hz=>hz.elim (fun hz=>hz) fun hz=>hz.2.2 h.2.2.2,jR b o h.2.2.2⟩
 have qy:∀q m u,aQ (η.take n) (s'.hp.take n) q m u→aQ (η.take n) s.hp q m u:=by
  intro q m u h
  unfold aQ at h ⊢
  cases hq:s.hp[q]? with
  |none=>
   have:n≤q:=by simpa [n] using hq
   rw[List.getElem?_take,if_neg (by omega)] at h
   exact h
  |some o=>
   by_cases hl:o.live
   ·have h1:=(hp.hp q o hq hl).1
    rw[List.getElem?_take,if_pos (cX q o hq),h1] at h
    exact h
   ·cases o with
    |dead=>exact True.intro
    |_=>exact(hl True.intro).elim
 have bY:Ext w (aU Hi w η s'.hp) (η.take n) (s'.hp.take n) w (aU zL w (η.take n) s.hp) (η.take n) s.hp:=
  ⟨fun _ _ _ _ h=>h,fun _ _ _ _ h=>h,HP,fun _ _ h=>h,fun _ _ h=>h,qy⟩
 have O6:∀{x:AV} {v:Value},aV w (aU Hi w η s'.hp) [] [] x v→aV w (aU zL w (η.take n) s.hp) [] [] x v:=fun h=>h.aY HP
 have HQ:Rel zL (s.only L) a w (η.take n):=by
  refine⟨hrel.nt,fun t=>?_,⟨by simp only[AS.only,List.length_take];exact Nat.min_eq_left hn,fun q o v h1 h2=>?_,fun q q' o o' v v' b bj h1 h2 l1 l2 g1 g2 hb=>?_⟩,fun q o v b h1 hl h2 hb=>⟨.inr ⟨q,o,v,h1,hl,h2,hb⟩,fun k hz=>?_⟩,bo.refl _ w,True.intro,hrel.marks,⟨fun _ _ _ _ h=>h,fun _ _ _ _ h=>h,HP,fun _ _ h=>h,fun _ _ h=>h,fun _ _ _ h=>h⟩⟩
  ·show aV w (aU zL w (η.take n) s.hp) (η.take n) s.hp (if t∈L then s.tmps t else .top) _
   split
   ·rename_i ht
    obtain⟨g1,g2⟩:=hp.tmps t ht
    have h1:=hrel.tmps t
    have h2:(s'.only L).tmps t=s.tmps t:=by show (if t∈L then s'.tmps t else .top)=_;rw[if_pos ht,g1]
    rw[h2] at h1
    exact(k8 g2 h1).ext bY
   ·exact .top _
  ·by_cases hl:o.live
   ·obtain⟨g1,g2⟩:=hp.hp q o h1 hl
    have cR:=hrel.heap.obj q o v g1 ((bO q v).1 h2).2
    cases o with
    |dead=>exact True.intro
    |box cs=>
     obtain⟨b,vs,T,k1,k2,k3,k4⟩:=cR
     exact⟨b,vs,T,k1,k2,k3,fun j x u hx hu=>⟨(cZ (by simp only[af.closed,List.all_eq_true] at g2;exact g2 x (List.mem_of_getElem? hx)) (k4 j x u hx hu).1).ext bY,(k4 j x u hx hu).2⟩⟩
    |row e size els=>
     obtain⟨k0,xs,k1,k2⟩:=cR
     exact⟨k0,xs,k1,fun i el hi=>⟨(k2 i el hi).1,fun j x hj=>let ⟨u,p1,p2,p3⟩:=(k2 i el hi).2 j x hj;⟨u,p1,O6 p2,p3⟩⟩⟩
    |aP es=>exact cR
    |cA q k=>
     obtain⟨b,vs,e1,e2,e3,e4,u,e5,e6⟩:=cR
     exact⟨b,vs,e1,e2,e3,e4,u,e5,(cZ (x:=.own q k) (by simpa [AV.aJ,af.closed] using g2) e6).ext bY⟩
    |aF e size els=>
     obtain⟨k0,xs,k1,k2⟩:=cR
     exact⟨k0,xs,k1,fun i el hi=>⟨(k2 i el hi).1,fun j x hj=>let ⟨u,p1,p2,p3⟩:=(k2 i el hi).2 j x hj;⟨u,p1,O6 p2,p3⟩⟩⟩
    |dh e m ns=>exact cR
   ·cases o with
    |dead=>exact True.intro
    |_=>exact(hl True.intro).elim
  ·exact hrel.heap.sep q q' o o' v v' b bj (hp.hp q o h1 l1).1 (hp.hp q' o' h2 l2).1 l1 l2 ((bO q v).1 g1).2 ((bO q' v').1 g2).2 hb
  ·exact hz.elim (fun hz=>hz) fun hz=>hz.2.1 ⟨q,o,v,h1,hl,h2,hb⟩
 have Sg:=hU zL HO (by rw[←e1]) (by rw[←e2]) (by rw[←e3]) a w (η.take n) Kc Qc HQ
 refine Sg fun v w' hs cD=>hk v w' hs ?_
 have Hg:Mv w' (aU zL w' (η.take n) s.hp) (η.take n) s.hp (aU Hi w' η s'.hp) η s'.hp:=by
  refine⟨fun b o hf=>?_,fun q v h=>((bO q v).1 h).2,fun q e size els h=>(hp.hp q _ h True.intro).1⟩
  have HR:gW η s'.hp b o:=by
   by_cases hb:b<w.heap.size
   ·by_cases hl:aC (η.take n) s.hp b
    ·obtain⟨q,o1,v1,g1,g2,g3,g4⟩:=hl
     refine(aN b o).2 fun q' u hu Hh=>?_
     have HG:q' < s'.hp.length:=by rw[←hlen];exact(List.getElem?_eq_some_iff.1 hu).1
     have za:s'.hp[q']?=some s'.hp[q']:=by simp[HG]
     by_cases Zb:q=q'
     ·subst Zb
      obtain⟨o2,p1,p2⟩:=(aN b o).1 hf.2.2.2 q v1 g3 g4
      rw[g1] at p1
      obtain rfl:=Option.some.inj p1
      exact⟨_,(hp.hp q _ g1 g2).1,p2⟩
     ·refine⟨_,za,?_⟩
      cases hx:s'.hp[q'] with
      |dead=>exact True.intro
      |_=>
       exfalso
       rw[hx] at za
       exact hrel.heap.sep q q' o1 _ v1 u b Zb (hp.hp q _ g1 g2).1 za g2 True.intro ((bO q v1).1 g3).2 hu g4 Hh
    ·have:=hf.2.2.1
     refine Classical.byContradiction fun VI=>this (.inr ⟨hb,hl,VI⟩)
   ·refine(aN b o).2 fun q' u hu Hh=>?_
    have HG:q' < s'.hp.length:=by rw[←hlen];exact(List.getElem?_eq_some_iff.1 hu).1
    have za:s'.hp[q']?=some s'.hp[q']:=by simp[HG]
    refine⟨_,za,?_⟩
    cases hx:s'.hp[q'] with
    |dead=>exact True.intro
    |_=>
     exfalso
     rw[hx] at za
     exact hb (hrel.heap.block za True.intro hu Hh)
  rcases hf.1 with h1|h1|h1
  ·exact⟨h1.1,hf.2.1,h1.2.2.1,HR⟩
  ·refine⟨.inr (.inl (Nat.le_trans hrel.keeps.size h1)),hf.2.1,fun hx=>?_,HR⟩
   have:=Qa.no hx
   have:=hrel.keeps.size
   have:w.heap.size≤b:=h1
   omega
  ·obtain⟨q,o1,v1,g1,g2,g3,g4⟩:=h1
   have:=hrel.bA q o1 v1 b (hp.hp q o1 g1 g2).1 g2 ((bO q v1).1 g3).2 g4
   exact⟨.inr this.1,hf.2.1,this.2 _,HR⟩
 exact Hg.rep hr cD
end Go.Proofs.YtdcikhleahfknaaGreatDoor
