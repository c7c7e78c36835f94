/- Texts of ours laid together for a claim: FilV. -/
import Derived.Test.YtdcikhleahfknaaGreatDoorQ09
namespace Go.Proofs.YtdcikhleahfknaaGreatDoor
open Go
set_option linter.unusedSimpArgs false
set_option linter.unusedVariables false
variable {G:Type} {Γ:Env G} {s s':AS G} {a:Act} {w w':World} {η aN:List Value} {hp hp':List af} {P:Program} {ops:Array Oper}
def lA (Γ:Env G) (o:Oper) (s:AS G) (r:AV):Prop:=
 ∀rR:Env G,rR.Ok->rR.P=Γ.P->rR.nt=Γ.nt->rR.zH=Γ.zH->rP rR o s r
def AV.rS (hp:List af):AV->Bool
 | .own r _=>(match hp[r]? with|some (.row ..)=>true|_=>false)
 | .agg _ | .aL _ | .aY _ _ | .fa _ _ _ _ | .dm _ _=>false
 |_=>true
def AV.zR (hp:List af):AV->Bool
 | .agg cs=>cs.all (AV.rS hp)
 |x=>x.rS hp
def AV.held (hp:List af):AV->Bool
 | .aL vs=>vs.all (AV.zR hp)
 | .aY _ caps=>caps.all (AV.zR hp)
 | .dm _ caps=>caps.all (AV.zR hp)
 |x=>x.zR hp
structure Mv (w:World) (F:Nat->Nat->Prop) (η:List Value) (hp:List af) (F':Nat->Nat->Prop) (aN:List Value) (hp':List af):Prop where
 bg:∀b o,F b o->F' b o
 get:∀(r:Nat) (v:Value),η[r]?=some v->aN[r]?=some v
 row:∀(r e size:Nat) (els:List AV),hp[r]?=some (.row e size els)->hp'[r]?=some (.row e size els)
theorem bm.Ny {F F':Nat->Nat->Prop} {x:AV} {v:Value} (h:bm w F η hp x v) (hF:∀b o,F b o->F' b o):bm w F' η hp x v:=
 h.ext ⟨fun _ _ _ _ h=>h,fun _ _ _ _ h=>h,hF,fun _ _ h=>h,fun _ _ h=>h,fun _ _ _ h=>h⟩
theorem Mv.Dw {F F':Nat->Nat->Prop} (m:Mv w F η hp F' aN hp') {x:AV} {v:Value} (hx:x.rS hp=true) (h:bm w F η hp x v):bm w F' aN hp' x v:=by
 cases h with
 |own r n v h1 h2=>
  simp only[AV.rS] at hx;split at hx
  ·rename_i e size els hr;refine .own r n v h1 ?_;unfold aT at h2 ⊢;rw[hr] at h2;rw[m.row _ _ _ _ hr];exact⟨h2.1,fun hn=>m.get _ _ (h2.2 hn)⟩
  ·cases hx
 |ptr r off b h1=>exact .ptr r off b (m.get _ _ h1)
 |mp r b h1=>exact .mp r b (m.get _ _ h1)
 |agg cs vs hl h1 hr=>simp[AV.rS] at hx
 |aL cs vs hl hr=>simp[AV.rS] at hx
 |aY fn cs vs hl hr=>simp[AV.rS] at hx
 |top v=>exact .top v
 |ae v=>exact .ae v
 |fn v h1=>exact .fn v h1
 |lL a=>exact .lL a
 |jv a=>exact .jv a
 |sl size els b o c f hc hm hl aE hr=>exact .sl size els b o c f hc hm hl (fun i el j x hi hj=>let ⟨g1,g2,g3⟩:=aE i el j x hi hj;⟨g1,m.bg _ _ g2,g3⟩) (fun i el j x hi hj=>(hr i el j x hi hj).Ny m.bg)
 |clip size els b o f hm hl aE hr=>exact .clip size els b o f hm hl (fun i el j x hi hj=>let ⟨g1,g2,g3⟩:=aE i el j x hi hj;⟨g1,m.bg _ _ g2,g3⟩) (fun i el j x hi hj=>(hr i el j x hi hj).Ny m.bg)
 |aS e off b o f aE hr=>exact .aS e off b o f (fun j x hj=>let ⟨g1,g2,g3⟩:=aE j x hj;⟨g1,m.bg _ _ g2,g3⟩) (fun j x hj=>(hr j x hj).Ny m.bg)
 |eG b es c h hF l hl=>exact .eG b es c h (m.bg _ _ hF) l hl
 |fa r n i size b o c k h=>simp[AV.rS] at hx
 |dm fn cs vs hl hr=>simp[AV.rS] at hx
theorem Mv.Tc {F F':Nat->Nat->Prop} (m:Mv w F η hp F' aN hp') {x:AV} {v:Value} (hx:x.zR hp=true) (h:bm w F η hp x v):bm w F' aN hp' x v:=by
 cases x with
 |agg cs=>
  cases h with
  |agg _ vs hl h1 hr=>exact .agg cs vs hl h1 fun j x v hj hv=>m.Dw (by simp only[AV.zR,alK] at hx;exact hx x (alF hj)) (hr j x v hj hv)
 |_=>exact m.Dw hx h
theorem Mv.rep {F F':Nat->Nat->Prop} (m:Mv w F η hp F' aN hp') {x:AV} {v:Value} (hx:x.held hp=true) (h:bm w F η hp x v):bm w F' aN hp' x v:=by
 cases x with
 |aL cs=>
  cases h with
  |aL _ vs hl hr=>exact .aL cs vs hl fun j x v hj hv=>m.Tc (by simp only[AV.held,alK] at hx;exact hx x (alF hj)) (hr j x v hj hv)
 |aY f cs=>
  cases h with
  |aY _ _ vs hl hr=>exact .aY f cs vs hl fun j x v hj hv=>m.Tc (by simp only[AV.held,alK] at hx;exact hx x (alF hj)) (hr j x v hj hv)
 |dm f cs=>
  cases h with
  |dm _ _ vs hl hr=>exact .dm f cs vs hl fun j x v hj hv=>m.Tc (by simp only[AV.held,alK] at hx;exact hx x (alF hj)) (hr j x v hj hv)
 |_=>exact m.Tc hx h
structure Part (s s':AS G) (L:List Nat):Prop where
 tmps:∀t,t∈L->s'.tmps t=s.tmps t/\(s.tmps t).closed s.hp.length=true
 hp:∀(q:Nat) (o:af),s.hp[q]?=some o->o.live->s'.hp[q]?=some o/\o.closed s.hp.length=true
 len:s.hp.length<=s'.hp.length
theorem lA.part {o:Oper} {r:AV} {L:List Nat} (hU:lA Γ o (s.only L) r) (hp:Part s s' L) (hr:r.held s.hp=true):lA Γ o (s'.only L) r:=by
 intro MV Yg e1 e2 e3 a w η Kc Qc hrel hk;have hlen:η.length=s'.hp.length:=hrel.heap.len
 let n:=s.hp.length
 have hn:n<=η.length:=by rw[hlen];exact hp.len
 have cq:∀(q:Nat) (v:Value),(η.take n)[q]?=some v↔(q<n/\η[q]?=some v):=by
  intro q v;rw[alO];split
  ·rename_i h;simp[h]
  ·rename_i h;simp[h]
 have da:∀(q:Nat) (o:af),s.hp[q]?=some o->q<n:=fun q o h=>(alu.1 h).1
 let DS:Env G:={ P:=MV.P,w0:=w,F0:=bk MV w η s'.hp,X:=fun _=>False,Y:=aG (η.take n) s.hp,Inv:=fun _ _=>True,nt:=MV.nt,zH:=MV.zH,yY:=η.take n,jR:=s.hp,m0:=MV.m0,Z:=fun b o=>b<w.heap.size/\¬aG (η.take n) s.hp b/\¬iR η s'.hp b o }
 have MW:∀b,aG (η.take n) s.hp b->b<w.heap.size:=by
  intro b ⟨q,o,v,g1,g2,g3,g4⟩;exact hrel.heap.block (hp.hp q o g1 g2).1 g2 ((cq q v).1 g3).2 g4
 have Nz:DS.Ok:=⟨by simp only[DS,amd];exact Nat.min_eq_left hn,fun _ h=>h.elim,MW,fun _ _ _ _ _ _=>True.intro,fun b o h=>h.1,hrel.gL Yg,fun b hb h=>h.elim (fun h=>h) fun⟨q,o,v,g1,g2,g3,g4⟩=>hrel.gx Yg hb ⟨q,o,v,(hp.hp q o g1 g2).1,g2,((cq q v).1 g3).2,g4⟩⟩;have lP:∀b o,iR η s'.hp b o->iR (η.take n) s.hp b o:=by
  intro b o h;refine(aU b o).2 fun q v hq hb=>?_;obtain⟨h1,h2⟩:=(cq q v).1 hq;obtain⟨o1,q1,q2⟩:=(aU b o).1 h q v h2 hb;have Hq:s.hp[q]?=some s.hp[q]:=by simp[h1,n] 
  by_cases hl:s.hp[q].live
  ·have:=(hp.hp q _ Hq hl).1;rw[q1] at this;obtain rfl:=alw this;exact⟨_,Hq,q2⟩
  ·refine⟨_,Hq,?_⟩
   cases hx:s.hp[q] with
   |dead=>exact True.intro
   |_=>rw[hx] at hl;exact(hl True.intro).elim
 have NA:∀b o,bk MV w η s'.hp b o->bk DS w (η.take n) s.hp b o:=fun b o h=>
  ⟨.inl h,h.2.1,fun hz=>hz.elim (fun hz=>hz) fun hz=>hz.2.2 h.2.2.2,lP b o h.2.2.2⟩
 have qe:∀q m u,aT (η.take n) (s'.hp.take n) q m u->aT (η.take n) s.hp q m u:=by
  intro q m u h;unfold aT at h ⊢
  cases hq:s.hp[q]? with
  |none=>
   have:n<=q:=by simpa [n] using hq
   rw[alO,if_neg (by omega)] at h;exact h
  |some o=>
   by_cases hl:o.live
   ·have h1:=(hp.hp q o hq hl).1;rw[alO,if_pos (da q o hq),h1] at h;exact h
   ·cases o with
    |dead=>exact True.intro
    |_=>exact(hl True.intro).elim
 have cA:Ext w (bk MV w η s'.hp) (η.take n) (s'.hp.take n) w (bk DS w (η.take n) s.hp) (η.take n) s.hp:=
  ⟨fun _ _ _ _ h=>h,fun _ _ _ _ h=>h,NA,fun _ _ h=>h,fun _ _ h=>h,qe⟩
 have W5:∀{x:AV} {v:Value},bm w (bk MV w η s'.hp) [] [] x v->bm w (bk DS w (η.take n) s.hp) [] [] x v:=fun h=>h.bg NA;have NB:Rel DS (s.only L) a w (η.take n):=by
  refine⟨hrel.nt,fun t=>?_,⟨by simp only[AS.only,amd];exact Nat.min_eq_left hn,fun q o v h1 h2=>?_,fun q q' o o' v v' b bu h1 h2 l1 l2 g1 g2 hb=>?_⟩,fun q o v b h1 hl h2 hb=>⟨.inr ⟨q,o,v,h1,hl,h2,hb⟩,fun k hz=>?_⟩,bE.refl _ w,True.intro,hrel.marks,⟨fun _ _ _ _ h=>h,fun _ _ _ _ h=>h,NA,fun _ _ h=>h,fun _ _ h=>h,fun _ _ _ h=>h⟩⟩
  ·show bm w (bk DS w (η.take n) s.hp) (η.take n) s.hp (if t∈L then s.tmps t else .top) _;split
   ·rename_i ht;obtain⟨g1,g2⟩:=hp.tmps t ht;have h1:=hrel.tmps t;have h2:(s'.only L).tmps t=s.tmps t:=by show (if t∈L then s'.tmps t else .top)=_;rw[if_pos ht,g1]
    rw[h2] at h1;exact(nb g2 h1).ext cA
   ·exact .top _
  ·by_cases hl:o.live
   ·obtain⟨g1,g2⟩:=hp.hp q o h1 hl;have dB:=hrel.heap.obj q o v g1 ((cq q v).1 h2).2
    cases o with
    |dead=>exact True.intro
    |box cs=>
     obtain⟨b,vs,T,k1,k2,k3,k4⟩:=dB;exact⟨b,vs,T,k1,k2,k3,fun j x u hx hu=>⟨(dJ (by simp only[af.closed,alK] at g2;exact g2 x (alF hx)) (k4 j x u hx hu).1).ext cA,(k4 j x u hx hu).2⟩⟩
    |row e size els=>
     obtain⟨k0,xs,k1,k2⟩:=dB;exact⟨k0,xs,k1,fun i el hi=>⟨(k2 i el hi).1,fun j x hj=>let ⟨u,p1,p2,p3⟩:=(k2 i el hi).2 j x hj;⟨u,p1,W5 p2,p3⟩⟩⟩
    |aJ es=>exact dB
    |cU q k=>
     obtain⟨b,vs,e1,e2,e3,e4,u,e5,e6⟩:=dB;exact⟨b,vs,e1,e2,e3,e4,u,e5,(dJ (x:=.own q k) (by simpa [AV.aW,af.closed] using g2) e6).ext cA⟩
    |aQ e size els=>
     obtain⟨k0,xs,k1,k2⟩:=dB;exact⟨k0,xs,k1,fun i el hi=>⟨(k2 i el hi).1,fun j x hj=>let ⟨u,p1,p2,p3⟩:=(k2 i el hi).2 j x hj;⟨u,p1,W5 p2,p3⟩⟩⟩
    |dN e m ns=>exact dB
   ·cases o with
    |dead=>exact True.intro
    |_=>exact(hl True.intro).elim
  ·exact hrel.heap.sep q q' o o' v v' b bu (hp.hp q o h1 l1).1 (hp.hp q' o' h2 l2).1 l1 l2 ((cq q v).1 g1).2 ((cq q' v').1 g2).2 hb
  ·exact hz.elim (fun hz=>hz) fun hz=>hz.2.1 ⟨q,o,v,h1,hl,h2,hb⟩
 have DT:=hU DS Nz (by rw[<-e1]) (by rw[<-e2]) (by rw[<-e3]) a w (η.take n) Kc Qc NB;refine DT fun v w' hs cX=>hk v w' hs ?_;have MS:Mv w' (bk DS w' (η.take n) s.hp) (η.take n) s.hp (bk MV w' η s'.hp) η s'.hp:=by
  refine⟨fun b o hf=>?_,fun q v h=>((cq q v).1 h).2,fun q e size els h=>(hp.hp q _ h True.intro).1⟩;have NC:iR η s'.hp b o:=by
   by_cases hb:b<w.heap.size
   ·by_cases hl:aG (η.take n) s.hp b
    ·obtain⟨q,o1,v1,g1,g2,g3,g4⟩:=hl;refine(aU b o).2 fun q' u hu MU=>?_;have Hq:q' < s'.hp.length:=by rw[<-hlen];exact(alu.1 hu).1
     have Dh:s'.hp[q']?=some s'.hp[q']:=by simp[Hq]
     by_cases hqq:q=q'
     ·subst hqq;obtain⟨o2,p1,p2⟩:=(aU b o).1 hf.2.2.2 q v1 g3 g4;rw[g1] at p1;obtain rfl:=alw p1;exact⟨_,(hp.hp q _ g1 g2).1,p2⟩
     ·refine⟨_,Dh,?_⟩
      cases hx:s'.hp[q'] with
      |dead=>exact True.intro
      |_=>
       exfalso;rw[hx] at Dh;exact hrel.heap.sep q q' o1 _ v1 u b hqq (hp.hp q _ g1 g2).1 Dh g2 True.intro ((cq q v1).1 g3).2 hu g4 MU
    ·have:=hf.2.2.1;refine am0 fun hno=>this (.inr ⟨hb,hl,hno⟩)
   ·refine(aU b o).2 fun q' u hu MU=>?_;have Hq:q' < s'.hp.length:=by rw[<-hlen];exact(alu.1 hu).1
    have Dh:s'.hp[q']?=some s'.hp[q']:=by simp[Hq]
    refine⟨_,Dh,?_⟩
    cases hx:s'.hp[q'] with
    |dead=>exact True.intro
    |_=>
     exfalso;rw[hx] at Dh;exact hb (hrel.heap.block Dh True.intro hu MU)
  rcases hf.1 with h1|h1|h1
  ·exact⟨h1.1,hf.2.1,h1.2.2.1,NC⟩
  ·refine⟨.inr (.inl (amf hrel.keeps.size h1)),hf.2.1,fun hx=>?_,NC⟩;have:=Yg.no hx;have:=hrel.keeps.size;have:w.heap.size<=b:=h1;omega
  ·obtain⟨q,o1,v1,g1,g2,g3,g4⟩:=h1;have:=hrel.bM q o1 v1 b (hp.hp q o1 g1 g2).1 g2 ((cq q v1).1 g3).2 g4;exact⟨.inr this.1,hf.2.1,this.2 _,NC⟩
 exact MS.rep hr cX
end Go.Proofs.YtdcikhleahfknaaGreatDoor
