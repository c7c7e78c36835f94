/- Texts of ours laid together for a claim: FilV. -/
import Derived.Test.YtjhanogfpkbamaaGreatDoorQ09
namespace Go.Proofs.YtjhanogfpkbamaaGreatDoor
open Go
set_option linter.unusedSimpArgs false
set_option linter.unusedVariables false
variable {G:Type} {Γ:Env G} {s s':AS G} {a:Act} {w w':World} {η aU:List Value} {hp hp':List af} {P:Program} {ops:Array Oper}
def mE (Γ:Env G) (o:Oper) (s:AS G) (r:AV):Prop:=
 ∀tr:Env G,tr.Ok→tr.P=Γ.P→tr.nt=Γ.nt→tr.Bw=Γ.Bw→tq tr o s r
def AV.tu (hp:List af):AV→Bool
 | .own r _=>(match hp[r]? with|some (.row ..)=>true|_=>false)
 | .agg _ | .aX _ | .ck _ _ | .fY _ _ _ _ | .cX _ _=>false
 |_=>true
def AV.AF (hp:List af):AV→Bool
 | .agg cs=>cs.all (AV.tu hp)
 |x=>x.tu hp
def AV.held (hp:List af):AV→Bool
 | .aX vs=>vs.all (AV.AF hp)
 | .ck _ caps=>caps.all (AV.AF hp)
 | .cX _ caps=>caps.all (AV.AF hp)
 |x=>x.AF hp
structure Mv (w:World) (F:Nat→Nat→Prop) (η:List Value) (hp:List af) (F':Nat→Nat→Prop) (aU:List Value) (hp':List af):Prop where
 bD:∀b o,F b o→F' b o
 get:∀(r:Nat) (v:Value),η[r]?=some v→aU[r]?=some v
 row:∀(r e size:Nat) (els:List AV),hp[r]?=some (.row e size els)→hp'[r]?=some (.row e size els)
theorem bw.M0 {F F':Nat→Nat→Prop} {x:AV} {v:Value} (h:bw w F η hp x v) (hF:∀b o,F b o→F' b o):bw w F' η hp x v:=
 h.ext ⟨fun _ _ _ _ h=>h,fun _ _ _ _ h=>h,hF,fun _ _ h=>h,fun _ _ h=>h,fun _ _ _ h=>h⟩
theorem Mv.DQ {F F':Nat→Nat→Prop} (m:Mv w F η hp F' aU hp') {x:AV} {v:Value} (hx:x.tu hp=true) (h:bw w F η hp x v):bw w F' aU hp' x v:=by
 cases h with
 |own r n v h1 h2=>
  simp only[AV.tu] at hx
  split at hx
  ·rename_i e size els hr
   refine .own r n v h1 ?_
   unfold aY at h2 ⊢
   rw[hr] at h2
   rw[m.row _ _ _ _ hr]
   exact⟨h2.1,fun hn=>m.get _ _ (h2.2 hn)⟩
  ·cases hx
 |ptr r off b h1=>exact .ptr r off b (m.get _ _ h1)
 |mp r b h1=>exact .mp r b (m.get _ _ h1)
 |agg cs vs hl h1 hr=>simp[AV.tu] at hx
 |aX cs vs hl hr=>simp[AV.tu] at hx
 |ck fn cs vs hl hr=>simp[AV.tu] at hx
 |top v=>exact .top v
 |ah v=>exact .ah v
 |fn v h1=>exact .fn v h1
 |pE a=>exact .pE a
 |kA a=>exact .kA a
 |sl size els b o c f hc hm hl aN hr=>exact .sl size els b o c f hc hm hl (fun i el j x hi hj=>let ⟨g1,g2,g3⟩:=aN i el j x hi hj;⟨g1,m.bD _ _ g2,g3⟩) (fun i el j x hi hj=>(hr i el j x hi hj).M0 m.bD)
 |clip size els b o f hm hl aN hr=>exact .clip size els b o f hm hl (fun i el j x hi hj=>let ⟨g1,g2,g3⟩:=aN i el j x hi hj;⟨g1,m.bD _ _ g2,g3⟩) (fun i el j x hi hj=>(hr i el j x hi hj).M0 m.bD)
 |cL e off b o f aN hr=>exact .cL e off b o f (fun j x hj=>let ⟨g1,g2,g3⟩:=aN j x hj;⟨g1,m.bD _ _ g2,g3⟩) (fun j x hj=>(hr j x hj).M0 m.bD)
 |fH b es c h hF l hl=>exact .fH b es c h (m.bD _ _ hF) l hl
 |fY r n i size b o c k h=>simp[AV.tu] at hx
 |cX fn cs vs hl hr=>simp[AV.tu] at hx
theorem Mv.Ra {F F':Nat→Nat→Prop} (m:Mv w F η hp F' aU hp') {x:AV} {v:Value} (hx:x.AF hp=true) (h:bw w F η hp x v):bw w F' aU hp' x v:=by
 cases x with
 |agg cs=>
  cases h with
  |agg _ vs hl h1 hr=>exact .agg cs vs hl h1 fun j x v hj hv=>m.DQ (by simp only[AV.AF,ah4] at hx;exact hx x (aic hj)) (hr j x v hj hv)
 |_=>exact m.DQ hx h
theorem Mv.rep {F F':Nat→Nat→Prop} (m:Mv w F η hp F' aU hp') {x:AV} {v:Value} (hx:x.held hp=true) (h:bw w F η hp x v):bw w F' aU hp' x v:=by
 cases x with
 |aX cs=>
  cases h with
  |aX _ vs hl hr=>exact .aX cs vs hl fun j x v hj hv=>m.Ra (by simp only[AV.held,ah4] at hx;exact hx x (aic hj)) (hr j x v hj hv)
 |ck f cs=>
  cases h with
  |ck _ _ vs hl hr=>exact .ck f cs vs hl fun j x v hj hv=>m.Ra (by simp only[AV.held,ah4] at hx;exact hx x (aic hj)) (hr j x v hj hv)
 |cX f cs=>
  cases h with
  |cX _ _ vs hl hr=>exact .cX f cs vs hl fun j x v hj hv=>m.Ra (by simp only[AV.held,ah4] at hx;exact hx x (aic hj)) (hr j x v hj hv)
 |_=>exact m.Ra hx h
structure Part (s s':AS G) (L:List Nat):Prop where
 tmps:∀t,t∈L→s'.tmps t=s.tmps t∧(s.tmps t).closed s.hp.length=true
 hp:∀(q:Nat) (o:af),s.hp[q]?=some o→o.live→s'.hp[q]?=some o∧o.closed s.hp.length=true
 len:s.hp.length≤s'.hp.length
theorem mE.part {o:Oper} {r:AV} {L:List Nat} (hU:mE Γ o (s.only L) r) (hp:Part s s' L) (hr:r.held s.hp=true):mE Γ o (s'.only L) r:=by
 intro Mh VV e1 e2 e3 a w η Kc Qc fQ hk
 have hlen:η.length=s'.hp.length:=fQ.heap.len
 let n:=s.hp.length
 have hn:n≤η.length:=by rw[hlen];exact hp.len
 have ep:∀(q:Nat) (v:Value),(η.take n)[q]?=some v↔(q<n∧η[q]?=some v):=by
  intro q v
  rw[aik]
  split
  ·rename_i h;simp[h]
  ·rename_i h;simp[h]
 have fo:∀(q:Nat) (o:af),s.hp[q]?=some o→q<n:=fun q o h=>(ahY.1 h).1
 let Ef:Env G:={ P:=Mh.P,w0:=w,F0:=bn Mh w η s'.hp,X:=fun _=>False,Y:=aQ (η.take n) s.hp,Inv:=fun _ _=>True,nt:=Mh.nt,Bw:=Mh.Bw,zY:=η.take n,oQ:=s.hp,m0:=Mh.m0,Z:=fun b o=>b<w.heap.size∧¬aQ (η.take n) s.hp b∧¬mB η s'.hp b o }
 have XS:∀b,aQ (η.take n) s.hp b→b<w.heap.size:=by
  intro b ⟨q,o,v,g1,g2,g3,g4⟩
  exact fQ.heap.block (hp.hp q o g1 g2).1 g2 ((ep q v).1 g3).2 g4
 have uW:Ef.Ok:=⟨by simp only[Ef,aid];exact ajC hn,fun _ h=>h.elim,XS,fun _ _ _ _ _ _=>True.intro,fun b o h=>h.1,fQ.kg VV,fun b hb h=>h.elim (fun h=>h) fun⟨q,o,v,g1,g2,g3,g4⟩=>fQ.gx VV hb ⟨q,o,v,(hp.hp q o g1 g2).1,g2,((ep q v).1 g3).2,g4⟩⟩
 have pR:∀b o,mB η s'.hp b o→mB (η.take n) s.hp b o:=by
  intro b o h
  refine(aZ b o).2 fun q v hq hb=>?_
  obtain⟨h1,h2⟩:=(ep q v).1 hq
  obtain⟨o1,q1,q2⟩:=(aZ b o).1 h q v h2 hb
  have MT:s.hp[q]?=some s.hp[q]:=by simp[h1,n] 
  by_cases hl:s.hp[q].live
  ·have:=(hp.hp q _ MT hl).1
   rw[q1] at this
   obtain rfl:=Option.some.inj this
   exact⟨_,MT,q2⟩
  ·refine⟨_,MT,?_⟩
   cases hx:s.hp[q] with
   |dead=>exact True.intro
   |_=>rw[hx] at hl;exact(hl True.intro).elim
 have M1:∀b o,bn Mh w η s'.hp b o→bn Ef w (η.take n) s.hp b o:=fun b o h=>
  ⟨.inl h,h.2.1,fun hz=>hz.elim (fun hz=>hz) fun hz=>hz.2.2 h.2.2.2,pR b o h.2.2.2⟩
 have uK:∀q m u,aY (η.take n) (s'.hp.take n) q m u→aY (η.take n) s.hp q m u:=by
  intro q m u h
  unfold aY at h ⊢
  cases hq:s.hp[q]? with
  |none=>
   have:n≤q:=by simpa [n] using hq
   rw[aik,if_neg (by omega)] at h
   exact h
  |some o=>
   by_cases hl:o.live
   ·have h1:=(hp.hp q o hq hl).1
    rw[aik,if_pos (fo q o hq),h1] at h
    exact h
   ·cases o with
    |dead=>exact True.intro
    |_=>exact(hl True.intro).elim
 have fI:Ext w (bn Mh w η s'.hp) (η.take n) (s'.hp.take n) w (bn Ef w (η.take n) s.hp) (η.take n) s.hp:=
  ⟨fun _ _ _ _ h=>h,fun _ _ _ _ h=>h,M1,fun _ _ h=>h,fun _ _ h=>h,uK⟩
 have UT:∀{x:AV} {v:Value},bw w (bn Mh w η s'.hp) [] [] x v→bw w (bn Ef w (η.take n) s.hp) [] [] x v:=fun h=>h.bD M1
 have M3:Rel Ef (s.only L) a w (η.take n):=by
  refine⟨fQ.nt,fun t=>?_,⟨by simp only[AS.only,aid];exact ajC hn,fun q o v h1 h2=>?_,fun q q' o o' v v' b bK h1 h2 l1 l2 g1 g2 hb=>?_⟩,fun q o v b h1 hl h2 hb=>⟨.inr ⟨q,o,v,h1,hl,h2,hb⟩,fun k hz=>?_⟩,cD.refl _ w,True.intro,fQ.marks,⟨fun _ _ _ _ h=>h,fun _ _ _ _ h=>h,M1,fun _ _ h=>h,fun _ _ h=>h,fun _ _ _ h=>h⟩⟩
  ·show bw w (bn Ef w (η.take n) s.hp) (η.take n) s.hp (if t∈L then s.tmps t else .top) _
   split
   ·rename_i ht
    obtain⟨g1,g2⟩:=hp.tmps t ht
    have h1:=fQ.tmps t
    have h2:(s'.only L).tmps t=s.tmps t:=by show (if t∈L then s'.tmps t else .top)=_;rw[if_pos ht,g1]
    rw[h2] at h1
    exact(nT g2 h1).ext fI
   ·exact .top _
  ·by_cases hl:o.live
   ·obtain⟨g1,g2⟩:=hp.hp q o h1 hl
    have eP:=fQ.heap.obj q o v g1 ((ep q v).1 h2).2
    cases o with
    |dead=>exact True.intro
    |box cs=>
     obtain⟨b,vs,T,k1,k2,k3,k4⟩:=eP
     exact⟨b,vs,T,k1,k2,k3,fun j x u hx hu=>⟨(eE (by simp only[af.closed,ah4] at g2;exact g2 x (aic hx)) (k4 j x u hx hu).1).ext fI,(k4 j x u hx hu).2⟩⟩
    |row e size els=>
     obtain⟨k0,xs,k1,k2⟩:=eP
     exact⟨k0,xs,k1,fun i el hi=>⟨(k2 i el hi).1,fun j x hj=>let ⟨u,p1,p2,p3⟩:=(k2 i el hi).2 j x hj;⟨u,p1,UT p2,p3⟩⟩⟩
    |cQ es=>exact eP
    |dD q k=>
     obtain⟨b,vs,e1,e2,e3,e4,u,e5,e6⟩:=eP
     exact⟨b,vs,e1,e2,e3,e4,u,e5,(eE (x:=.own q k) (by simpa [AV.aR,af.closed] using g2) e6).ext fI⟩
    |bM e size els=>
     obtain⟨k0,xs,k1,k2⟩:=eP
     exact⟨k0,xs,k1,fun i el hi=>⟨(k2 i el hi).1,fun j x hj=>let ⟨u,p1,p2,p3⟩:=(k2 i el hi).2 j x hj;⟨u,p1,UT p2,p3⟩⟩⟩
    |eH e m ns=>exact eP
   ·cases o with
    |dead=>exact True.intro
    |_=>exact(hl True.intro).elim
  ·exact fQ.heap.sep q q' o o' v v' b bK (hp.hp q o h1 l1).1 (hp.hp q' o' h2 l2).1 l1 l2 ((ep q v).1 g1).2 ((ep q' v').1 g2).2 hb
  ·exact hz.elim (fun hz=>hz) fun hz=>hz.2.1 ⟨q,o,v,h1,hl,h2,hb⟩
 have Eg:=hU Ef uW (by rw[←e1]) (by rw[←e2]) (by rw[←e3]) a w (η.take n) Kc Qc M3
 refine Eg fun v w' hs ec=>hk v w' hs ?_
 have Q3:Mv w' (bn Ef w' (η.take n) s.hp) (η.take n) s.hp (bn Mh w' η s'.hp) η s'.hp:=by
  refine⟨fun b o hf=>?_,fun q v h=>((ep q v).1 h).2,fun q e size els h=>(hp.hp q _ h True.intro).1⟩
  have M4:mB η s'.hp b o:=by
   by_cases hb:b<w.heap.size
   ·by_cases hl:aQ (η.take n) s.hp b
    ·obtain⟨q,o1,v1,g1,g2,g3,g4⟩:=hl
     refine(aZ b o).2 fun q' u hu Mg=>?_
     have MT:q' < s'.hp.length:=by rw[←hlen];exact(ahY.1 hu).1
     have DF:s'.hp[q']?=some s'.hp[q']:=by simp[MT]
     by_cases hqq:q=q'
     ·subst hqq
      obtain⟨o2,p1,p2⟩:=(aZ b o).1 hf.2.2.2 q v1 g3 g4
      rw[g1] at p1
      obtain rfl:=Option.some.inj p1
      exact⟨_,(hp.hp q _ g1 g2).1,p2⟩
     ·refine⟨_,DF,?_⟩
      cases hx:s'.hp[q'] with
      |dead=>exact True.intro
      |_=>
       exfalso
       rw[hx] at DF
       exact fQ.heap.sep q q' o1 _ v1 u b hqq (hp.hp q _ g1 g2).1 DF g2 True.intro ((ep q v1).1 g3).2 hu g4 Mg
    ·have:=hf.2.2.1
     refine Classical.byContradiction fun xq=>this (.inr ⟨hb,hl,xq⟩)
   ·refine(aZ b o).2 fun q' u hu Mg=>?_
    have MT:q' < s'.hp.length:=by rw[←hlen];exact(ahY.1 hu).1
    have DF:s'.hp[q']?=some s'.hp[q']:=by simp[MT]
    refine⟨_,DF,?_⟩
    cases hx:s'.hp[q'] with
    |dead=>exact True.intro
    |_=>
     exfalso
     rw[hx] at DF
     exact hb (fQ.heap.block DF True.intro hu Mg)
  rcases hf.1 with h1|h1|h1
  ·exact⟨h1.1,hf.2.1,h1.2.2.1,M4⟩
  ·refine⟨.inr (.inl (aiy fQ.keeps.size h1)),hf.2.1,fun hx=>?_,M4⟩
   have:=VV.no hx
   have:=fQ.keeps.size
   have:w.heap.size≤b:=h1
   omega
  ·obtain⟨q,o1,v1,g1,g2,g3,g4⟩:=h1
   have:=fQ.cE q o1 v1 b (hp.hp q o1 g1 g2).1 g2 ((ep q v1).1 g3).2 g4
   exact⟨.inr this.1,hf.2.1,this.2 _,M4⟩
 exact Q3.rep hr ec
end Go.Proofs.YtjhanogfpkbamaaGreatDoor
