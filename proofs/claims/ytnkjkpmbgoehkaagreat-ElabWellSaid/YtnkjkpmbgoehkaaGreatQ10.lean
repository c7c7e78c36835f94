/- Lemmas. -/
import Derived.Test.YtnkjkpmbgoehkaaGreatQ09
namespace Go.Proofs.YtnkjkpmbgoehkaaGreat
open Go
open _root_.True renaming intro->ai
set_option linter.unusedSimpArgs false
set_option linter.unusedVariables false
variable {G:Type} {Γ:Env G} {s s':AS G} {a:Act} {w w':World} {η bf:List Value} {hp hp':List aw} {P:Program} {ops:Array Oper}
def nu (Γ:Env G) (o:Oper) (s:AS G) (r:AV):Prop:=
 ∀ue:Env G,ue.Ok->ue.P=Γ.P->ue.nt=Γ.nt->ue.Dw=Γ.Dw->ub ue o s r
def AV.uf (hp:List aw):AV->Bool
 | .own r _=>(match hp[r]? with|some (.row ..)=>true|some (.bj ..)=>true|_=>false)
 | .fV r _ _ _=>(match hp[r]? with|some (.bj ..)=>true|_=>false)
 | .agg _ | .aK _ | .bz _ _ | .dm _ _=>false
 |_=>true
def AV.Cw (hp:List aw):AV->Bool
 | .agg cs=>cs.all (AV.uf hp)
 |x=>x.uf hp
def AV.held (hp:List aw):AV->Bool
 | .aK vs=>vs.all (AV.Cw hp)
 | .bz _ caps=>caps.all (AV.Cw hp)
 | .dm _ caps=>caps.all (AV.Cw hp)
 |x=>x.Cw hp
structure Mv (w:World) (F:Nat->Nat->Prop) (η:List Value) (hp:List aw) (F':Nat->Nat->Prop) (bf:List Value) (hp':List aw):Prop where
 bI:∀b o,F b o->F' b o
 get:∀(r:Nat) (v:Value),η[r]?=some v->bf[r]?=some v
 row:∀(r e size:Nat) (els:List AV),hp[r]?=some (.row e size els)->hp'[r]?=some (.row e size els)
 bj:∀(r e size:Nat) (els:List AV),hp[r]?=some (.bj e size els)->hp'[r]?=some (.bj e size els)
theorem bB.Rj {F F':Nat->Nat->Prop} {x:AV} {v:Value} (h:bB w F η hp x v) (hF:∀b o,F b o->F' b o):bB w F' η hp x v:=
 h.ext ⟨fun _ _ _ _ h=>h,fun _ _ _ _ h=>h,hF,fun _ _ h=>h,fun _ _ h=>h,fun _ _ _ h=>h⟩
theorem Mv.FJ {F F':Nat->Nat->Prop} (m:Mv w F η hp F' bf hp') {x:AV} {v:Value} (hx:x.uf hp=true) (h:bB w F η hp x v):bB w F' bf hp' x v:=by
 cases h with
 |own r n v h1 h2=>
  simp only[AV.uf] at hx;split at hx
  ·rename_i e size els hr;refine .own r n v h1 ?_;unfold bl at h2 ⊢;rw[hr] at h2;rw[m.row _ _ _ _ hr];exact⟨h2.1,fun hn=>m.get _ _ (h2.2 hn)⟩
  ·rename_i e size els hr;refine .own r n v h1 ?_;unfold bl at h2 ⊢;rw[hr] at h2;rw[m.bj _ _ _ _ hr];exact⟨h2.1,fun hn=>m.get _ _ (h2.2 hn)⟩
  ·cases hx
 |ptr r off b h1=>exact .ptr r off b (m.get _ _ h1)
 |mp r b h1=>exact .mp r b (m.get _ _ h1)
 |agg cs vs hl h1 hr=>simp[AV.uf] at hx
 |aK cs vs hl hr=>simp[AV.uf] at hx
 |bz fn cs vs hl hr=>simp[AV.uf] at hx
 |top v=>exact .top v
 |ax v=>exact .ax v
 |fn v h1=>exact .fn v h1
 |qq a=>exact .qq a
 |kW a=>exact .kW a
 |sl size els b o c f hc hm hl aR hr=>exact .sl size els b o c f hc hm hl (fun i el j x hi hj=>let ⟨g1,g2,g3⟩:=aR i el j x hi hj;⟨g1,m.bI _ _ g2,g3⟩) (fun i el j x hi hj=>(hr i el j x hi hj).Rj m.bI)
 |clip size els b o f hm hl aR hr=>exact .clip size els b o f hm hl (fun i el j x hi hj=>let ⟨g1,g2,g3⟩:=aR i el j x hi hj;⟨g1,m.bI _ _ g2,g3⟩) (fun i el j x hi hj=>(hr i el j x hi hj).Rj m.bI)
 |aW e off b o f aR hr=>exact .aW e off b o f (fun j x hj=>let ⟨g1,g2,g3⟩:=aR j x hj;⟨g1,m.bI _ _ g2,g3⟩) (fun j x hj=>(hr j x hj).Rj m.bI)
 |fL b es c h hF l hl=>exact .fL b es c h (m.bI _ _ hF) l hl
 |fV r n i size b o c k h2=>
  simp only[AV.uf] at hx;split at hx
  ·rename_i e z els hr;refine .fV r n i size b o c k ?_;unfold bl at h2 ⊢;rw[hr] at h2;rw[m.bj _ _ _ _ hr];exact⟨h2.1,fun hn=>m.get _ _ (h2.2 hn)⟩
  ·cases hx
 |dm fn cs vs hl hr=>simp[AV.uf] at hx
theorem Mv.XD {F F':Nat->Nat->Prop} (m:Mv w F η hp F' bf hp') {x:AV} {v:Value} (hx:x.Cw hp=true) (h:bB w F η hp x v):bB w F' bf hp' x v:=by
 cases x with
 |agg cs=>
  cases h with
  |agg _ vs hl h1 hr=>exact .agg cs vs hl h1 fun j x v hj hv=>m.FJ (by simp only[AV.Cw,aqF] at hx;exact hx x (aqA hj)) (hr j x v hj hv)
 |_=>exact m.FJ hx h
theorem Mv.rep {F F':Nat->Nat->Prop} (m:Mv w F η hp F' bf hp') {x:AV} {v:Value} (hx:x.held hp=true) (h:bB w F η hp x v):bB w F' bf hp' x v:=by
 cases x with
 |aK cs=>
  cases h with
  |aK _ vs hl hr=>exact .aK cs vs hl fun j x v hj hv=>m.XD (by simp only[AV.held,aqF] at hx;exact hx x (aqA hj)) (hr j x v hj hv)
 |bz f cs=>
  cases h with
  |bz _ _ vs hl hr=>exact .bz f cs vs hl fun j x v hj hv=>m.XD (by simp only[AV.held,aqF] at hx;exact hx x (aqA hj)) (hr j x v hj hv)
 |dm f cs=>
  cases h with
  |dm _ _ vs hl hr=>exact .dm f cs vs hl fun j x v hj hv=>m.XD (by simp only[AV.held,aqF] at hx;exact hx x (aqA hj)) (hr j x v hj hv)
 |_=>exact m.XD hx h
structure Part (s s':AS G) (L:List Nat):Prop where
 tmps:∀t,t∈L->s'.tmps t=s.tmps t/\(s.tmps t).closed s.hp.length=true
 hp:∀(q:Nat) (o:aw),s.hp[q]?=some o->o.live->s'.hp[q]?=some o/\o.closed s.hp.length=true
 len:s.hp.length<=s'.hp.length
theorem nu.part {o:Oper} {r:AV} {L:List Nat} (hU:nu Γ o (s.only L) r) (hp:Part s s' L) (hr:r.held s.hp=true):nu Γ o (s'.only L) r:=by
 intro QK abR e1 e2 e3 a w η Kc Qc hrel hk;have hlen:η.length=s'.hp.length:=hrel.heap.len
 let n:=s.hp.length
 have hn:n<=η.length:=by rw[hlen];exact hp.len
 have eg:∀(q:Nat) (v:Value),(η.take n)[q]?=some v↔(q<n/\η[q]?=some v):=by
  intro q v;rw[aqM];split
  ·rename_i h;simp[h]
  ·rename_i h;simp[h]
 have fB:∀(q:Nat) (o:aw),s.hp[q]?=some o->q<n:=fun q o h=>(aqr.1 h).1
 let Ga:Env G:={ P:=QK.P,w0:=w,F0:=bt QK w η s'.hp,X:=fun _=>False,Y:=bb (η.take n) s.hp,Inv:=fun _ _=>True,nt:=QK.nt,Dw:=QK.Dw,BF:=η.take n,mU:=s.hp,m0:=QK.m0,Z:=fun b o=>b<w.heap.size/\¬bb (η.take n) s.hp b/\¬lS η s'.hp b o }
 have hlb:∀b,bb (η.take n) s.hp b->b<w.heap.size:=by
  intro b ⟨q,o,v,g1,g2,g3,g4⟩;exact hrel.heap.block (hp.hp q o g1 g2).1 g2 ((eg q v).1 g3).2 g4
 have Rk:Ga.Ok:=⟨by simp only[Ga,arp];exact Nat.min_eq_left hn,fun _ h=>h.elim,hlb,fun _ _ _ _ _ _=>ai,fun b o h=>h.1,hrel.kN abR,fun b hb h=>h.elim (fun h=>h) fun⟨q,o,v,g1,g2,g3,g4⟩=>hrel.gx abR hb ⟨q,o,v,(hp.hp q o g1 g2).1,g2,((eg q v).1 g3).2,g4⟩⟩;have qy:∀b o,lS η s'.hp b o->lS (η.take n) s.hp b o:=by
  intro b o h;refine(bm b o).2 fun q v hq hb=>?_;obtain⟨h1,h2⟩:=(eg q v).1 hq;obtain⟨o1,q1,q2⟩:=(bm b o).1 h q v h2 hb;have Rb:s.hp[q]?=some s.hp[q]:=by simp[h1,n] 
  by_cases hl:s.hp[q].live
  ·have:=(hp.hp q _ Rb hl).1;rw[q1] at this;obtain rfl:=aqs this;exact⟨_,Rb,q2⟩
  ·refine⟨_,Rb,?_⟩
   cases hx:s.hp[q] with
   |dead=>exact ai
   |_=>rw[hx] at hl;exact(hl ai).elim
 have Rl:∀b o,bt QK w η s'.hp b o->bt Ga w (η.take n) s.hp b o:=fun b o h=>
  ⟨.inl h,h.2.1,fun hz=>hz.elim (fun hz=>hz) fun hz=>hz.2.2 h.2.2.2,qy b o h.2.2.2⟩
 have vF:∀q m u,bl (η.take n) (s'.hp.take n) q m u->bl (η.take n) s.hp q m u:=by
  intro q m u h;unfold bl at h ⊢
  cases hq:s.hp[q]? with
  |none=>
   have:n<=q:=by simpa [n] using hq
   rw[aqM,if_neg (by omega)] at h;exact h
  |some o=>
   by_cases hl:o.live
   ·have h1:=(hp.hp q o hq hl).1;rw[aqM,if_pos (fB q o hq),h1] at h;exact h
   ·cases o with
    |dead=>exact ai
    |_=>exact(hl ai).elim
 have gu:Ext w (bt QK w η s'.hp) (η.take n) (s'.hp.take n) w (bt Ga w (η.take n) s.hp) (η.take n) s.hp:=
  ⟨fun _ _ _ _ h=>h,fun _ _ _ _ h=>h,Rl,fun _ _ h=>h,fun _ _ h=>h,vF⟩
 have aaA:∀{x:AV} {v:Value},bB w (bt QK w η s'.hp) [] [] x v->bB w (bt Ga w (η.take n) s.hp) [] [] x v:=fun h=>h.bI Rl;have Rm:Rel Ga (s.only L) a w (η.take n):=by
  refine⟨hrel.nt,fun t=>?_,⟨by simp only[AS.only,arp];exact Nat.min_eq_left hn,fun q o v h1 h2=>?_,fun q q' o o' v v' b cg h1 h2 l1 l2 g1 g2 hb=>?_⟩,fun q o v b h1 hl h2 hb=>⟨.inr ⟨q,o,v,h1,hl,h2,hb⟩,fun k hz=>?_⟩,cG.refl _ w,ai,hrel.marks,⟨fun _ _ _ _ h=>h,fun _ _ _ _ h=>h,Rl,fun _ _ h=>h,fun _ _ h=>h,fun _ _ _ h=>h⟩⟩
  ·show bB w (bt Ga w (η.take n) s.hp) (η.take n) s.hp (if t∈L then s.tmps t else .top) _;split
   ·rename_i ht;obtain⟨g1,g2⟩:=hp.tmps t ht;have h1:=hrel.tmps t;have h2:(s'.only L).tmps t=s.tmps t:=by show (if t∈L then s'.tmps t else .top)=_;rw[if_pos ht,g1]
    rw[h2] at h1;exact(pf g2 h1).ext gu
   ·exact .top _
  ·by_cases hl:o.live
   ·obtain⟨g1,g2⟩:=hp.hp q o h1 hl;have eX:=hrel.heap.obj q o v g1 ((eg q v).1 h2).2
    cases o with
    |dead=>exact ai
    |box cs=>
     obtain⟨b,vs,T,k1,k2,k3,k4⟩:=eX;exact⟨b,vs,T,k1,k2,k3,fun j x u hx hu=>⟨(eI (by simp only[aw.closed,aqF] at g2;exact g2 x (aqA hx)) (k4 j x u hx hu).1).ext gu,(k4 j x u hx hu).2⟩⟩
    |row e size els=>
     obtain⟨k0,xs,k1,k2⟩:=eX;exact⟨k0,xs,k1,fun i el hi=>⟨(k2 i el hi).1,fun j x hj=>let ⟨u,p1,p2,p3⟩:=(k2 i el hi).2 j x hj;⟨u,p1,aaA p2,p3⟩⟩⟩
    |cE es=>exact eX
    |jy q k=>
     obtain⟨b,vs,e1,e2,e3,e4,u,e5,e6⟩:=eX;exact⟨b,vs,e1,e2,e3,e4,u,e5,(eI (x:=.own q k) (by simpa [AV.aX,aw.closed] using g2) e6).ext gu⟩
    |bj e size els=>
     obtain⟨k0,xs,k1,k2⟩:=eX;exact⟨k0,xs,k1,fun i el hi=>⟨(k2 i el hi).1,fun j x hj=>let ⟨u,p1,p2,p3⟩:=(k2 i el hi).2 j x hj;⟨u,p1,aaA p2,p3⟩⟩⟩
    |fz e m ns=>exact eX
   ·cases o with
    |dead=>exact ai
    |_=>exact(hl ai).elim
  ·exact hrel.heap.sep q q' o o' v v' b cg (hp.hp q o h1 l1).1 (hp.hp q' o' h2 l2).1 l1 l2 ((eg q v).1 g1).2 ((eg q' v').1 g2).2 hb
  ·exact hz.elim (fun hz=>hz) fun hz=>hz.2.1 ⟨q,o,v,h1,hl,h2,hb⟩
 have L5:=hU Ga Rk (by rw[<-e1]) (by rw[<-e2]) (by rw[<-e3]) a w (η.take n) Kc Qc Rm;refine L5 fun v w' hs eR=>hk v w' hs ?_;have QH:Mv w' (bt Ga w' (η.take n) s.hp) (η.take n) s.hp (bt QK w' η s'.hp) η s'.hp:=by
  refine⟨fun b o hf=>?_,fun q v h=>((eg q v).1 h).2,fun q e size els h=>(hp.hp q _ h ai).1,fun q e size els h=>(hp.hp q _ h ai).1⟩;have Rn:lS η s'.hp b o:=by
   by_cases hb:b<w.heap.size
   ·by_cases hl:bb (η.take n) s.hp b
    ·obtain⟨q,o1,v1,g1,g2,g3,g4⟩:=hl;refine(bm b o).2 fun q' u hu QJ=>?_;have Rb:q' < s'.hp.length:=by rw[<-hlen];exact(aqr.1 hu).1
     have Ro:s'.hp[q']?=some s'.hp[q']:=by simp[Rb]
     by_cases hqq:q=q'
     ·subst hqq;obtain⟨o2,p1,p2⟩:=(bm b o).1 hf.2.2.2 q v1 g3 g4;rw[g1] at p1;obtain rfl:=aqs p1;exact⟨_,(hp.hp q _ g1 g2).1,p2⟩
     ·refine⟨_,Ro,?_⟩
      cases hx:s'.hp[q'] with
      |dead=>exact ai
      |_=>
       exfalso;rw[hx] at Ro;exact hrel.heap.sep q q' o1 _ v1 u b hqq (hp.hp q _ g1 g2).1 Ro g2 ai ((eg q v1).1 g3).2 hu g4 QJ
    ·have:=hf.2.2.1;refine ar9 fun W5=>this (.inr ⟨hb,hl,W5⟩)
   ·refine(bm b o).2 fun q' u hu QJ=>?_;have Rb:q' < s'.hp.length:=by rw[<-hlen];exact(aqr.1 hu).1
    have Ro:s'.hp[q']?=some s'.hp[q']:=by simp[Rb]
    refine⟨_,Ro,?_⟩
    cases hx:s'.hp[q'] with
    |dead=>exact ai
    |_=>
     exfalso;rw[hx] at Ro;exact hb (hrel.heap.block Ro ai hu QJ)
  rcases hf.1 with h1|h1|h1
  ·exact⟨h1.1,hf.2.1,h1.2.2.1,Rn⟩
  ·refine⟨.inr (.inl (aqU hrel.keeps.size h1)),hf.2.1,fun hx=>?_,Rn⟩;have:=abR.no hx;have:=hrel.keeps.size;have:w.heap.size<=b:=h1;omega
  ·obtain⟨q,o1,v1,g1,g2,g3,g4⟩:=h1;have:=hrel.cq q o1 v1 b (hp.hp q o1 g1 g2).1 g2 ((eg q v1).1 g3).2 g4;exact⟨.inr this.1,hf.2.1,this.2 _,Rn⟩
 exact QH.rep hr eR
end Go.Proofs.YtnkjkpmbgoehkaaGreat
