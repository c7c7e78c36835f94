/- Texts of ours laid together for a claim: FilV. -/
import Derived.Test.YtjhanogfpkbamaaGreatDoorQ09
namespace Go.Proofs.YtjhanogfpkbamaaGreatDoor
open Go
set_option linter.unusedSimpArgs false
set_option linter.unusedVariables false
variable {G:Type} {Γ:Env G} {s s':AS G} {a:Act} {w w':World} {η η':List Value} {hp hp':List AObj} {P:Program} {ops:Array Oper}
def VStepU (Γ:Env G) (o:Oper) (s:AS G) (r:AV):Prop:=
 ∀Γ':Env G,Γ'.Ok→Γ'.P=Γ.P→Γ'.nt=Γ.nt→Γ'.rnd=Γ.rnd→VStep Γ' o s r
def AV.heldC (hp:List AObj):AV→Bool
 | .own r _=>(match hp[r]? with|some (.row ..)=>true|_=>false)
 | .agg _ | .tup _ | .clo _ _ | .mptr _ _ _ _ | .mclo _ _=>false
 |_=>true
def AV.heldV (hp:List AObj):AV→Bool
 | .agg cs=>cs.all (AV.heldC hp)
 |x=>x.heldC hp
def AV.held (hp:List AObj):AV→Bool
 | .tup vs=>vs.all (AV.heldV hp)
 | .clo _ caps=>caps.all (AV.heldV hp)
 | .mclo _ caps=>caps.all (AV.heldV hp)
 |x=>x.heldV hp
structure Mv (w:World) (F:Nat→Nat→Prop) (η:List Value) (hp:List AObj) (F':Nat→Nat→Prop) (η':List Value) (hp':List AObj):Prop where
 foot:∀b o,F b o→F' b o
 get:∀(r:Nat) (v:Value),η[r]?=some v→η'[r]?=some v
 row:∀(r e size:Nat) (els:List AV),hp[r]?=some (.row e size els)→hp'[r]?=some (.row e size els)
theorem Rep.foot' {F F':Nat→Nat→Prop} {x:AV} {v:Value} (h:Rep w F η hp x v) (hF:∀b o,F b o→F' b o):Rep w F' η hp x v:=
 h.ext ⟨fun _ _ _ _ h=>h,fun _ _ _ _ h=>h,hF,fun _ _ h=>h,fun _ _ h=>h,fun _ _ _ h=>h⟩
theorem Mv.repC {F F':Nat→Nat→Prop} (m:Mv w F η hp F' η' hp') {x:AV} {v:Value} (hx:x.heldC hp=true) (h:Rep w F η hp x v):Rep w F' η' hp' x v:=by
 cases h with
 |own r n v h1 h2=>
  simp only[AV.heldC] at hx
  split at hx
  ·rename_i e size els hr
   refine .own r n v h1 ?_
   unfold OwnOk at h2 ⊢
   rw[hr] at h2
   rw[m.row _ _ _ _ hr]
   exact⟨h2.1,fun hn=>m.get _ _ (h2.2 hn)⟩
  ·cases hx
 |ptr r off b h1=>exact .ptr r off b (m.get _ _ h1)
 |mp r b h1=>exact .mp r b (m.get _ _ h1)
 |agg cs vs hl h1 hr=>simp[AV.heldC] at hx
 |tup cs vs hl hr=>simp[AV.heldC] at hx
 |clo fn cs vs hl hr=>simp[AV.heldC] at hx
 |top v=>exact .top v
 |prim v=>exact .prim v
 |fn v h1=>exact .fn v h1
 |sl0 a=>exact .sl0 a
 |clip0 a=>exact .clip0 a
 |sl size els b o c f hc hm hl hcell hr=>exact .sl size els b o c f hc hm hl (fun i el j x hi hj=>let ⟨g1,g2,g3⟩:=hcell i el j x hi hj;⟨g1,m.foot _ _ g2,g3⟩) (fun i el j x hi hj=>(hr i el j x hi hj).foot' m.foot)
 |clip size els b o f hm hl hcell hr=>exact .clip size els b o f hm hl (fun i el j x hi hj=>let ⟨g1,g2,g3⟩:=hcell i el j x hi hj;⟨g1,m.foot _ _ g2,g3⟩) (fun i el j x hi hj=>(hr i el j x hi hj).foot' m.foot)
 |eptr e off b o f hcell hr=>exact .eptr e off b o f (fun j x hj=>let ⟨g1,g2,g3⟩:=hcell j x hj;⟨g1,m.foot _ _ g2,g3⟩) (fun j x hj=>(hr j x hj).foot' m.foot)
 |mapv b es c h hF l hl=>exact .mapv b es c h (m.foot _ _ hF) l hl
 |mptr r n i size b o c h=>simp[AV.heldC] at hx
 |mclo fn cs vs hl hr=>simp[AV.heldC] at hx
theorem Mv.repV {F F':Nat→Nat→Prop} (m:Mv w F η hp F' η' hp') {x:AV} {v:Value} (hx:x.heldV hp=true) (h:Rep w F η hp x v):Rep w F' η' hp' x v:=by
 cases x with
 |agg cs=>
  cases h with
  |agg _ vs hl h1 hr=>exact .agg cs vs hl h1 fun j x v hj hv=>m.repC (by simp only[AV.heldV,List.all_eq_true] at hx;exact hx x (List.mem_of_getElem? hj)) (hr j x v hj hv)
 |_=>exact m.repC hx h
theorem Mv.rep {F F':Nat→Nat→Prop} (m:Mv w F η hp F' η' hp') {x:AV} {v:Value} (hx:x.held hp=true) (h:Rep w F η hp x v):Rep w F' η' hp' x v:=by
 cases x with
 |tup cs=>
  cases h with
  |tup _ vs hl hr=>exact .tup cs vs hl fun j x v hj hv=>m.repV (by simp only[AV.held,List.all_eq_true] at hx;exact hx x (List.mem_of_getElem? hj)) (hr j x v hj hv)
 |clo f cs=>
  cases h with
  |clo _ _ vs hl hr=>exact .clo f cs vs hl fun j x v hj hv=>m.repV (by simp only[AV.held,List.all_eq_true] at hx;exact hx x (List.mem_of_getElem? hj)) (hr j x v hj hv)
 |mclo f cs=>
  cases h with
  |mclo _ _ vs hl hr=>exact .mclo f cs vs hl fun j x v hj hv=>m.repV (by simp only[AV.held,List.all_eq_true] at hx;exact hx x (List.mem_of_getElem? hj)) (hr j x v hj hv)
 |_=>exact m.repV hx h
structure Part (s s':AS G) (L:List Nat):Prop where
 tmps:∀t,t∈L→s'.tmps t=s.tmps t∧(s.tmps t).closed s.hp.length=true
 hp:∀(q:Nat) (o:AObj),s.hp[q]?=some o→o.live→s'.hp[q]?=some o∧o.closed s.hp.length=true
 len:s.hp.length≤s'.hp.length
theorem VStepU.part {o:Oper} {r:AV} {L:List Nat} (hU:VStepU Γ o (s.only L) r) (hp:Part s s' L) (hr:r.held s.hp=true):VStepU Γ o (s'.only L) r:=by
 intro Γ1 hok1 e1 e2 e3 a w η Kc Qc hrel hk
 have hlen:η.length=s'.hp.length:=hrel.heap.len
 let n:=s.hp.length
 have hn:n≤η.length:=by rw[hlen];exact hp.len
 have hget:∀(q:Nat) (v:Value),(η.take n)[q]?=some v↔(q<n∧η[q]?=some v):=by
  intro q v
  rw[List.getElem?_take]
  split
  ·rename_i h;simp[h]
  ·rename_i h;simp[h]
 have hlive:∀(q:Nat) (o:AObj),s.hp[q]?=some o→q<n:=fun q o h=>(List.getElem?_eq_some_iff.1 h).1
 let Γ2:Env G:={ P:=Γ1.P,w0:=w,F0:=Fok Γ1 w η s'.hp,X:=fun _=>False,Y:=LiveBlk (η.take n) s.hp,Inv:=fun _ _=>True,nt:=Γ1.nt,rnd:=Γ1.rnd,η0:=η.take n,hp0:=s.hp,m0:=Γ1.m0,Z:=fun b o=>b<w.heap.size∧¬LiveBlk (η.take n) s.hp b∧¬ObjF η s'.hp b o }
 have hlb:∀b,LiveBlk (η.take n) s.hp b→b<w.heap.size:=by
  intro b ⟨q,o,v,g1,g2,g3,g4⟩
  exact hrel.heap.block (hp.hp q o g1 g2).1 g2 ((hget q v).1 g3).2 g4
 have hok2:Γ2.Ok:=⟨by simp only[Γ2,List.length_take];exact Nat.min_eq_left hn,fun _ h=>h.elim,hlb,fun _ _ _ _ _ _=>True.intro,fun b o h=>h.1,hrel.glob hok1,fun b hb h=>h.elim (fun h=>h) fun⟨q,o,v,g1,g2,g3,g4⟩=>hrel.gx hok1 hb ⟨q,o,v,(hp.hp q o g1 g2).1,g2,((hget q v).1 g3).2,g4⟩⟩
 have hobj:∀b o,ObjF η s'.hp b o→ObjF (η.take n) s.hp b o:=by
  intro b o h
  refine(objF_iff b o).2 fun q v hq hb=>?_
  obtain⟨h1,h2⟩:=(hget q v).1 hq
  obtain⟨o1,q1,q2⟩:=(objF_iff b o).1 h q v h2 hb
  have hq':s.hp[q]?=some s.hp[q]:=by simp[h1,n] 
  by_cases hl:s.hp[q].live
  ·have:=(hp.hp q _ hq' hl).1
   rw[q1] at this
   obtain rfl:=Option.some.inj this
   exact⟨_,hq',q2⟩
  ·refine⟨_,hq',?_⟩
   cases hx:s.hp[q] with
   |dead=>exact True.intro
   |_=>rw[hx] at hl;exact(hl True.intro).elim
 have hf12:∀b o,Fok Γ1 w η s'.hp b o→Fok Γ2 w (η.take n) s.hp b o:=fun b o h=>
  ⟨.inl h,h.2.1,fun hz=>hz.elim (fun hz=>hz) fun hz=>hz.2.2 h.2.2.2,hobj b o h.2.2.2⟩
 have hown:∀q m u,OwnOk (η.take n) (s'.hp.take n) q m u→OwnOk (η.take n) s.hp q m u:=by
  intro q m u h
  unfold OwnOk at h ⊢
  cases hq:s.hp[q]? with
  |none=>
   have:n≤q:=by simpa [n] using hq
   rw[List.getElem?_take,if_neg (by omega)] at h
   exact h
  |some o=>
   by_cases hl:o.live
   ·have h1:=(hp.hp q o hq hl).1
    rw[List.getElem?_take,if_pos (hlive q o hq),h1] at h
    exact h
   ·cases o with
    |dead=>exact True.intro
    |_=>exact(hl True.intro).elim
 have hext:Ext w (Fok Γ1 w η s'.hp) (η.take n) (s'.hp.take n) w (Fok Γ2 w (η.take n) s.hp) (η.take n) s.hp:=
  ⟨fun _ _ _ _ h=>h,fun _ _ _ _ h=>h,hf12,fun _ _ h=>h,fun _ _ h=>h,hown⟩
 have hext0:∀{x:AV} {v:Value},Rep w (Fok Γ1 w η s'.hp) [] [] x v→Rep w (Fok Γ2 w (η.take n) s.hp) [] [] x v:=fun h=>h.foot hf12
 have hrel2:Rel Γ2 (s.only L) a w (η.take n):=by
  refine⟨hrel.nt,fun t=>?_,⟨by simp only[AS.only,List.length_take];exact Nat.min_eq_left hn,fun q o v h1 h2=>?_,fun q q' o o' v v' b hne h1 h2 l1 l2 g1 g2 hb=>?_⟩,fun q o v b h1 hl h2 hb=>⟨.inr ⟨q,o,v,h1,hl,h2,hb⟩,fun k hz=>?_⟩,Keeps.refl _ w,True.intro,hrel.marks,⟨fun _ _ _ _ h=>h,fun _ _ _ _ h=>h,hf12,fun _ _ h=>h,fun _ _ h=>h,fun _ _ _ h=>h⟩⟩
  ·show Rep w (Fok Γ2 w (η.take n) s.hp) (η.take n) s.hp (if t∈L then s.tmps t else .top) _
   split
   ·rename_i ht
    obtain⟨g1,g2⟩:=hp.tmps t ht
    have h1:=hrel.tmps t
    have h2:(s'.only L).tmps t=s.tmps t:=by show (if t∈L then s'.tmps t else .top)=_;rw[if_pos ht,g1]
    rw[h2] at h1
    exact(closed_rep g2 h1).ext hext
   ·exact .top _
  ·by_cases hl:o.live
   ·obtain⟨g1,g2⟩:=hp.hp q o h1 hl
    have hob:=hrel.heap.obj q o v g1 ((hget q v).1 h2).2
    cases o with
    |dead=>exact True.intro
    |box cs=>
     obtain⟨b,vs,T,k1,k2,k3,k4⟩:=hob
     exact⟨b,vs,T,k1,k2,k3,fun j x u hx hu=>⟨(closedC_rep (by simp only[AObj.closed,List.all_eq_true] at g2;exact g2 x (List.mem_of_getElem? hx)) (k4 j x u hx hu).1).ext hext,(k4 j x u hx hu).2⟩⟩
    |row e size els=>
     obtain⟨k0,xs,k1,k2⟩:=hob
     exact⟨k0,xs,k1,fun i el hi=>⟨(k2 i el hi).1,fun j x hj=>let ⟨u,p1,p2,p3⟩:=(k2 i el hi).2 j x hj;⟨u,p1,hext0 p2,p3⟩⟩⟩
    |mapo es=>exact hob
    |bld q k=>
     obtain⟨b,vs,e1,e2,e3,e4,u,e5,e6⟩:=hob
     exact⟨b,vs,e1,e2,e3,e4,u,e5,(closedC_rep (x:=.own q k) (by simpa [AV.closedC,AObj.closed] using g2) e6).ext hext⟩
    |mrow e size els=>
     obtain⟨k0,xs,k1,k2⟩:=hob
     exact⟨k0,xs,k1,fun i el hi=>⟨(k2 i el hi).1,fun j x hj=>let ⟨u,p1,p2,p3⟩:=(k2 i el hi).2 j x hj;⟨u,p1,hext0 p2,p3⟩⟩⟩
   ·cases o with
    |dead=>exact True.intro
    |_=>exact(hl True.intro).elim
  ·exact hrel.heap.sep q q' o o' v v' b hne (hp.hp q o h1 l1).1 (hp.hp q' o' h2 l2).1 l1 l2 ((hget q v).1 g1).2 ((hget q' v').1 g2).2 hb
  ·exact hz.elim (fun hz=>hz) fun hz=>hz.2.1 ⟨q,o,v,h1,hl,h2,hb⟩
 have hstep:=hU Γ2 hok2 (by rw[←e1]) (by rw[←e2]) (by rw[←e3]) a w (η.take n) Kc Qc hrel2
 refine hstep fun v w' hs hrep=>hk v w' hs ?_
 have hmv:Mv w' (Fok Γ2 w' (η.take n) s.hp) (η.take n) s.hp (Fok Γ1 w' η s'.hp) η s'.hp:=by
  refine⟨fun b o hf=>?_,fun q v h=>((hget q v).1 h).2,fun q e size els h=>(hp.hp q _ h True.intro).1⟩
  have hobj':ObjF η s'.hp b o:=by
   by_cases hb:b<w.heap.size
   ·by_cases hl:LiveBlk (η.take n) s.hp b
    ·obtain⟨q,o1,v1,g1,g2,g3,g4⟩:=hl
     refine(objF_iff b o).2 fun q' u hu hbu=>?_
     have hq':q' < s'.hp.length:=by rw[←hlen];exact(List.getElem?_eq_some_iff.1 hu).1
     have hg':s'.hp[q']?=some s'.hp[q']:=by simp[hq']
     by_cases hqq:q=q'
     ·subst hqq
      obtain⟨o2,p1,p2⟩:=(objF_iff b o).1 hf.2.2.2 q v1 g3 g4
      rw[g1] at p1
      obtain rfl:=Option.some.inj p1
      exact⟨_,(hp.hp q _ g1 g2).1,p2⟩
     ·refine⟨_,hg',?_⟩
      cases hx:s'.hp[q'] with
      |dead=>exact True.intro
      |_=>
       exfalso
       rw[hx] at hg'
       exact hrel.heap.sep q q' o1 _ v1 u b hqq (hp.hp q _ g1 g2).1 hg' g2 True.intro ((hget q v1).1 g3).2 hu g4 hbu
    ·have:=hf.2.2.1
     refine Classical.byContradiction fun hno=>this (.inr ⟨hb,hl,hno⟩)
   ·refine(objF_iff b o).2 fun q' u hu hbu=>?_
    have hq':q' < s'.hp.length:=by rw[←hlen];exact(List.getElem?_eq_some_iff.1 hu).1
    have hg':s'.hp[q']?=some s'.hp[q']:=by simp[hq']
    refine⟨_,hg',?_⟩
    cases hx:s'.hp[q'] with
    |dead=>exact True.intro
    |_=>
     exfalso
     rw[hx] at hg'
     exact hb (hrel.heap.block hg' True.intro hu hbu)
  rcases hf.1 with h1|h1|h1
  ·exact⟨h1.1,hf.2.1,h1.2.2.1,hobj'⟩
  ·refine⟨.inr (.inl (Nat.le_trans hrel.keeps.size h1)),hf.2.1,fun hx=>?_,hobj'⟩
   have:=hok1.no hx
   have:=hrel.keeps.size
   have:w.heap.size≤b:=h1
   omega
  ·obtain⟨q,o1,v1,g1,g2,g3,g4⟩:=h1
   have:=hrel.mine q o1 v1 b (hp.hp q o1 g1 g2).1 g2 ((hget q v1).1 g3).2 g4
   exact⟨.inr this.1,hf.2.1,this.2 _,hobj'⟩
 exact hmv.rep hr hrep
end Go.Proofs.YtjhanogfpkbamaaGreatDoor
