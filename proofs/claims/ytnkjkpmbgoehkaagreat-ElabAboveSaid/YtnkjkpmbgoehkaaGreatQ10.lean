/- Texts of ours laid together for a claim: FilV. -/
import Derived.Test.YtnkjkpmbgoehkaaGreatQ09
namespace Go.Proofs.YtnkjkpmbgoehkaaGreat
open Go
set_option linter.unusedSimpArgs false
set_option linter.unusedVariables false
variable {G:Type} {Γ:Env G} {s s':AS G} {a:Act} {w w':World} {η aO:List Value} {hp hp':List ab} {P:Program} {ops:Array Oper}
def lN (Γ:Env G) (o:Oper) (s:AS G) (r:AV):Prop:=
 ∀r6:Env G,r6.Ok->r6.P=Γ.P->r6.nt=Γ.nt->r6.A1=Γ.A1->r3 r6 o s r
def AV.r7 (hp:List ab):AV->Bool
 | .own r _=>(match hp[r]? with|some (.row ..)=>true|some (.aQ ..)=>true|_=>false)
 | .fq r _ _ _=>(match hp[r]? with|some (.aQ ..)=>true|_=>false)
 | .agg _ | .av _ | .bf _ _ | .cB _ _=>false
 |_=>true
def AV.Ac (hp:List ab):AV->Bool
 | .agg cs=>cs.all (AV.r7 hp)
 |x=>x.r7 hp
def AV.held (hp:List ab):AV->Bool
 | .av vs=>vs.all (AV.Ac hp)
 | .bf _ caps=>caps.all (AV.Ac hp)
 | .cB _ caps=>caps.all (AV.Ac hp)
 |x=>x.Ac hp
structure Mv (w:World) (F:Nat->Nat->Prop) (η:List Value) (hp:List ab) (F':Nat->Nat->Prop) (aO:List Value) (hp':List ab):Prop where
 bk:∀b o,F b o->F' b o
 get:∀(r:Nat) (v:Value),η[r]?=some v->aO[r]?=some v
 row:∀(r e size:Nat) (els:List AV),hp[r]?=some (.row e size els)->hp'[r]?=some (.row e size els)
 aQ:∀(r e size:Nat) (els:List AV),hp[r]?=some (.aQ e size els)->hp'[r]?=some (.aQ e size els)
theorem ba.Nw {F F':Nat->Nat->Prop} {x:AV} {v:Value} (h:ba w F η hp x v) (hF:∀b o,F b o->F' b o):ba w F' η hp x v:=
 h.ext ⟨fun _ _ _ _ h=>h,fun _ _ _ _ h=>h,hF,fun _ _ h=>h,fun _ _ h=>h,fun _ _ _ h=>h⟩
theorem Mv.C6 {F F':Nat->Nat->Prop} (m:Mv w F η hp F' aO hp') {x:AV} {v:Value} (hx:x.r7 hp=true) (h:ba w F η hp x v):ba w F' aO hp' x v:=by
 cases h with
 |own r n v h1 h2=>
  simp only[AV.r7] at hx;split at hx
  ·rename_i e size els hr;refine .own r n v h1 ?_;unfold aR at h2 ⊢;rw[hr] at h2;rw[m.row _ _ _ _ hr];exact⟨h2.1,fun hn=>m.get _ _ (h2.2 hn)⟩
  ·rename_i e size els hr;refine .own r n v h1 ?_;unfold aR at h2 ⊢;rw[hr] at h2;rw[m.aQ _ _ _ _ hr];exact⟨h2.1,fun hn=>m.get _ _ (h2.2 hn)⟩
  ·cases hx
 |ptr r off b h1=>exact .ptr r off b (m.get _ _ h1)
 |mp r b h1=>exact .mp r b (m.get _ _ h1)
 |agg cs vs hl h1 hr=>simp[AV.r7] at hx
 |av cs vs hl hr=>simp[AV.r7] at hx
 |bf fn cs vs hl hr=>simp[AV.r7] at hx
 |top v=>exact .top v
 |ae v=>exact .ae v
 |fn v h1=>exact .fn v h1
 |oc a=>exact .oc a
 |jB a=>exact .jB a
 |sl size els b o c f hc hm hl aA hr=>exact .sl size els b o c f hc hm hl (fun i el j x hi hj=>let ⟨g1,g2,g3⟩:=aA i el j x hi hj;⟨g1,m.bk _ _ g2,g3⟩) (fun i el j x hi hj=>(hr i el j x hi hj).Nw m.bk)
 |clip size els b o f hm hl aA hr=>exact .clip size els b o f hm hl (fun i el j x hi hj=>let ⟨g1,g2,g3⟩:=aA i el j x hi hj;⟨g1,m.bk _ _ g2,g3⟩) (fun i el j x hi hj=>(hr i el j x hi hj).Nw m.bk)
 |aJ e off b o f aA hr=>exact .aJ e off b o f (fun j x hj=>let ⟨g1,g2,g3⟩:=aA j x hj;⟨g1,m.bk _ _ g2,g3⟩) (fun j x hj=>(hr j x hj).Nw m.bk)
 |eY b es c h hF l hl=>exact .eY b es c h (m.bk _ _ hF) l hl
 |fq r n i size b o c k h2=>
  simp only[AV.r7] at hx;split at hx
  ·rename_i e z els hr;refine .fq r n i size b o c k ?_;unfold aR at h2 ⊢;rw[hr] at h2;rw[m.aQ _ _ _ _ hr];exact⟨h2.1,fun hn=>m.get _ _ (h2.2 hn)⟩
  ·cases hx
 |cB fn cs vs hl hr=>simp[AV.r7] at hx
theorem Mv.Tv {F F':Nat->Nat->Prop} (m:Mv w F η hp F' aO hp') {x:AV} {v:Value} (hx:x.Ac hp=true) (h:ba w F η hp x v):ba w F' aO hp' x v:=by
 cases x with
 |agg cs=>
  cases h with
  |agg _ vs hl h1 hr=>exact .agg cs vs hl h1 fun j x v hj hv=>m.C6 (by simp only[AV.Ac,alv] at hx;exact hx x (alq hj)) (hr j x v hj hv)
 |_=>exact m.C6 hx h
theorem Mv.rep {F F':Nat->Nat->Prop} (m:Mv w F η hp F' aO hp') {x:AV} {v:Value} (hx:x.held hp=true) (h:ba w F η hp x v):ba w F' aO hp' x v:=by
 cases x with
 |av cs=>
  cases h with
  |av _ vs hl hr=>exact .av cs vs hl fun j x v hj hv=>m.Tv (by simp only[AV.held,alv] at hx;exact hx x (alq hj)) (hr j x v hj hv)
 |bf f cs=>
  cases h with
  |bf _ _ vs hl hr=>exact .bf f cs vs hl fun j x v hj hv=>m.Tv (by simp only[AV.held,alv] at hx;exact hx x (alq hj)) (hr j x v hj hv)
 |cB f cs=>
  cases h with
  |cB _ _ vs hl hr=>exact .cB f cs vs hl fun j x v hj hv=>m.Tv (by simp only[AV.held,alv] at hx;exact hx x (alq hj)) (hr j x v hj hv)
 |_=>exact m.Tv hx h
structure Part (s s':AS G) (L:List Nat):Prop where
 tmps:∀t,t∈L->s'.tmps t=s.tmps t/\(s.tmps t).closed s.hp.length=true
 hp:∀(q:Nat) (o:ab),s.hp[q]?=some o->o.live->s'.hp[q]?=some o/\o.closed s.hp.length=true
 len:s.hp.length<=s'.hp.length
theorem lN.part {o:Oper} {r:AV} {L:List Nat} (hU:lN Γ o (s.only L) r) (hp:Part s s' L) (hr:r.held s.hp=true):lN Γ o (s'.only L) r:=by
 intro ML Xm e1 e2 e3 a w η Kc Qc hrel hk;have hlen:η.length=s'.hp.length:=hrel.heap.len
 let n:=s.hp.length
 have hn:n<=η.length:=by rw[hlen];exact hp.len
 have dA:∀(q:Nat) (v:Value),(η.take n)[q]?=some v↔(q<n/\η[q]?=some v):=by
  intro q v;rw[alz];split
  ·rename_i h;simp[h]
  ·rename_i h;simp[h]
 have eL:∀(q:Nat) (o:ab),s.hp[q]?=some o->q<n:=fun q o h=>(ali.1 h).1
 let Dt:Env G:={ P:=ML.P,w0:=w,F0:=aW ML w η s'.hp,X:=fun _=>False,Y:=aI (η.take n) s.hp,Inv:=fun _ _=>True,nt:=ML.nt,A1:=ML.A1,zg:=η.take n,lx:=s.hp,m0:=ML.m0,Z:=fun b o=>b<w.heap.size/\¬aI (η.take n) s.hp b/\¬kz η s'.hp b o }
 have hlb:∀b,aI (η.take n) s.hp b->b<w.heap.size:=by
  intro b ⟨q,o,v,g1,g2,g3,g4⟩;exact hrel.heap.block (hp.hp q o g1 g2).1 g2 ((dA q v).1 g3).2 g4
 have Nx:Dt.Ok:=⟨by simp only[Dt,amf];exact Nat.min_eq_left hn,fun _ h=>h.elim,hlb,fun _ _ _ _ _ _=>True.intro,fun b o h=>h.1,hrel.ju Xm,fun b hb h=>h.elim (fun h=>h) fun⟨q,o,v,g1,g2,g3,g4⟩=>hrel.gx Xm hb ⟨q,o,v,(hp.hp q o g1 g2).1,g2,((dA q v).1 g3).2,g4⟩⟩;have oF:∀b o,kz η s'.hp b o->kz (η.take n) s.hp b o:=by
  intro b o h;refine(aS b o).2 fun q v hq hb=>?_;obtain⟨h1,h2⟩:=(dA q v).1 hq;obtain⟨o1,q1,q2⟩:=(aS b o).1 h q v h2 hb;have Nn:s.hp[q]?=some s.hp[q]:=by simp[h1,n] 
  by_cases hl:s.hp[q].live
  ·have:=(hp.hp q _ Nn hl).1;rw[q1] at this;obtain rfl:=alj this;exact⟨_,Nn,q2⟩
  ·refine⟨_,Nn,?_⟩
   cases hx:s.hp[q] with
   |dead=>exact True.intro
   |_=>rw[hx] at hl;exact(hl True.intro).elim
 have Ny:∀b o,aW ML w η s'.hp b o->aW Dt w (η.take n) s.hp b o:=fun b o h=>
  ⟨.inl h,h.2.1,fun hz=>hz.elim (fun hz=>hz) fun hz=>hz.2.2 h.2.2.2,oF b o h.2.2.2⟩
 have tD:∀q m u,aR (η.take n) (s'.hp.take n) q m u->aR (η.take n) s.hp q m u:=by
  intro q m u h;unfold aR at h ⊢
  cases hq:s.hp[q]? with
  |none=>
   have:n<=q:=by simpa [n] using hq
   rw[alz,if_neg (by omega)] at h;exact h
  |some o=>
   by_cases hl:o.live
   ·have h1:=(hp.hp q o hq hl).1;rw[alz,if_pos (eL q o hq),h1] at h;exact h
   ·cases o with
    |dead=>exact True.intro
    |_=>exact(hl True.intro).elim
 have fF:Ext w (aW ML w η s'.hp) (η.take n) (s'.hp.take n) w (aW Dt w (η.take n) s.hp) (η.take n) s.hp:=
  ⟨fun _ _ _ _ h=>h,fun _ _ _ _ h=>h,Ny,fun _ _ h=>h,fun _ _ h=>h,tD⟩
 have V7:∀{x:AV} {v:Value},ba w (aW ML w η s'.hp) [] [] x v->ba w (aW Dt w (η.take n) s.hp) [] [] x v:=fun h=>h.bk Ny;have Nz:Rel Dt (s.only L) a w (η.take n):=by
  refine⟨hrel.nt,fun t=>?_,⟨by simp only[AS.only,amf];exact Nat.min_eq_left hn,fun q o v h1 h2=>?_,fun q q' o o' v v' b bL h1 h2 l1 l2 g1 g2 hb=>?_⟩,fun q o v b h1 hl h2 hb=>⟨.inr ⟨q,o,v,h1,hl,h2,hb⟩,fun k hz=>?_⟩,bZ.refl _ w,True.intro,hrel.marks,⟨fun _ _ _ _ h=>h,fun _ _ _ _ h=>h,Ny,fun _ _ h=>h,fun _ _ h=>h,fun _ _ _ h=>h⟩⟩
  ·show ba w (aW Dt w (η.take n) s.hp) (η.take n) s.hp (if t∈L then s.tmps t else .top) _;split
   ·rename_i ht;obtain⟨g1,g2⟩:=hp.tmps t ht;have h1:=hrel.tmps t;have h2:(s'.only L).tmps t=s.tmps t:=by show (if t∈L then s'.tmps t else .top)=_;rw[if_pos ht,g1]
    rw[h2] at h1;exact(nu g2 h1).ext fF
   ·exact .top _
  ·by_cases hl:o.live
   ·obtain⟨g1,g2⟩:=hp.hp q o h1 hl;have ei:=hrel.heap.obj q o v g1 ((dA q v).1 h2).2
    cases o with
    |dead=>exact True.intro
    |box cs=>
     obtain⟨b,vs,T,k1,k2,k3,k4⟩:=ei;exact⟨b,vs,T,k1,k2,k3,fun j x u hx hu=>⟨(dS (by simp only[ab.closed,alv] at g2;exact g2 x (alq hx)) (k4 j x u hx hu).1).ext fF,(k4 j x u hx hu).2⟩⟩
    |row e size els=>
     obtain⟨k0,xs,k1,k2⟩:=ei;exact⟨k0,xs,k1,fun i el hi=>⟨(k2 i el hi).1,fun j x hj=>let ⟨u,p1,p2,p3⟩:=(k2 i el hi).2 j x hj;⟨u,p1,V7 p2,p3⟩⟩⟩
    |bW es=>exact ei
    |iz q k=>
     obtain⟨b,vs,e1,e2,e3,e4,u,e5,e6⟩:=ei;exact⟨b,vs,e1,e2,e3,e4,u,e5,(dS (x:=.own q k) (by simpa [AV.aF,ab.closed] using g2) e6).ext fF⟩
    |aQ e size els=>
     obtain⟨k0,xs,k1,k2⟩:=ei;exact⟨k0,xs,k1,fun i el hi=>⟨(k2 i el hi).1,fun j x hj=>let ⟨u,p1,p2,p3⟩:=(k2 i el hi).2 j x hj;⟨u,p1,V7 p2,p3⟩⟩⟩
    |eI e m ns=>exact ei
   ·cases o with
    |dead=>exact True.intro
    |_=>exact(hl True.intro).elim
  ·exact hrel.heap.sep q q' o o' v v' b bL (hp.hp q o h1 l1).1 (hp.hp q' o' h2 l2).1 l1 l2 ((dA q v).1 g1).2 ((dA q' v').1 g2).2 hb
  ·exact hz.elim (fun hz=>hz) fun hz=>hz.2.1 ⟨q,o,v,h1,hl,h2,hb⟩
 have uI:=hU Dt Nx (by rw[<-e1]) (by rw[<-e2]) (by rw[<-e3]) a w (η.take n) Kc Qc Nz;refine uI fun v w' hs dG=>hk v w' hs ?_;have MG:Mv w' (aW Dt w' (η.take n) s.hp) (η.take n) s.hp (aW ML w' η s'.hp) η s'.hp:=by
  refine⟨fun b o hf=>?_,fun q v h=>((dA q v).1 h).2,fun q e size els h=>(hp.hp q _ h True.intro).1,fun q e size els h=>(hp.hp q _ h True.intro).1⟩;have NA:kz η s'.hp b o:=by
   by_cases hb:b<w.heap.size
   ·by_cases hl:aI (η.take n) s.hp b
    ·obtain⟨q,o1,v1,g1,g2,g3,g4⟩:=hl;refine(aS b o).2 fun q' u hu MK=>?_;have Nn:q' < s'.hp.length:=by rw[<-hlen];exact(ali.1 hu).1
     have NB:s'.hp[q']?=some s'.hp[q']:=by simp[Nn]
     by_cases hqq:q=q'
     ·subst hqq;obtain⟨o2,p1,p2⟩:=(aS b o).1 hf.2.2.2 q v1 g3 g4;rw[g1] at p1;obtain rfl:=alj p1;exact⟨_,(hp.hp q _ g1 g2).1,p2⟩
     ·refine⟨_,NB,?_⟩
      cases hx:s'.hp[q'] with
      |dead=>exact True.intro
      |_=>
       exfalso;rw[hx] at NB;exact hrel.heap.sep q q' o1 _ v1 u b hqq (hp.hp q _ g1 g2).1 NB g2 True.intro ((dA q v1).1 g3).2 hu g4 MK
    ·have:=hf.2.2.1;refine amS fun V8=>this (.inr ⟨hb,hl,V8⟩)
   ·refine(aS b o).2 fun q' u hu MK=>?_;have Nn:q' < s'.hp.length:=by rw[<-hlen];exact(ali.1 hu).1
    have NB:s'.hp[q']?=some s'.hp[q']:=by simp[Nn]
    refine⟨_,NB,?_⟩
    cases hx:s'.hp[q'] with
    |dead=>exact True.intro
    |_=>
     exfalso;rw[hx] at NB;exact hb (hrel.heap.block NB True.intro hu MK)
  rcases hf.1 with h1|h1|h1
  ·exact⟨h1.1,hf.2.1,h1.2.2.1,NA⟩
  ·refine⟨.inr (.inl (alT hrel.keeps.size h1)),hf.2.1,fun hx=>?_,NA⟩;have:=Xm.no hx;have:=hrel.keeps.size;have:w.heap.size<=b:=h1;omega
  ·obtain⟨q,o1,v1,g1,g2,g3,g4⟩:=h1;have:=hrel.bN q o1 v1 b (hp.hp q o1 g1 g2).1 g2 ((dA q v1).1 g3).2 g4;exact⟨.inr this.1,hf.2.1,this.2 _,NA⟩
 exact MG.rep hr dG
end Go.Proofs.YtnkjkpmbgoehkaaGreat
