/- Texts of ours laid together for a claim: VcP. -/
import Derived.Test.YtjhanogfpkbamaaGreatDoorQ20
namespace Go.Proofs.YtjhanogfpkbamaaGreatDoor
open Go
set_option linter.unusedSimpArgs false
set_option linter.unusedVariables false
variable {P:Program} {w w':World} {F F':Nat→Nat→Prop} {η aU nW:List Value} {hp hp' H:List af} {g:Nat→Nat}
def yM (g:Nat→Nat):AV→AV
 | .own r n=>.own (g r) n
 | .ptr r o=>.ptr (g r) o
 | .mp r=>.mp (g r)
 |x=>x
def Ev (g:Nat→Nat):AV→AV
 | .agg cs=>.agg (cs.map (yM g))
 |x=>yM g x
def uZ (g:Nat→Nat):AV→AV
 | .aX vs=>.aX (vs.map (Ev g))
 | .ck f cs=>.ck f (cs.map (Ev g))
 | .cX f cs=>.cX f (cs.map (Ev g))
 |x=>Ev g x
def sr (g:Nat→Nat):af→af
 | .box cs=>.box (cs.map (yM g))
 | .dD r n=>.dD (g r) n
 |o=>o
theorem gE {o:af}:(sr g o).live↔o.live:=by cases o<;>exact Iff.rfl
theorem AI {o:af} {k:Nat}:(sr g o).bD k↔o.bD k:=by cases o<;>exact Iff.rfl
theorem xy {r j n:Nat} {v:Value} {o:af} (h1:hp[r]?=some o) (h2:H[j]?=some (sr g o)) (h3:η[r]?=nW[j]?):aY η hp r n v↔aY nW H j n v:=by
 unfold aY
 rw[h1,h2,h3]
 cases o<;>exact Iff.rfl
structure AJ (g:Nat→Nat) (η:List Value) (hp:List af) (nW:List Value) (H:List af):Prop where
 obj:∀(i:Nat) (o:af),hp[i]?=some o→H[g i]?=some (sr g o)
 val:∀(i:Nat),i<hp.length→η[i]?=nW[g i]?
theorem AJ.B3 (e:AJ g η hp nW H) {x:AV} {v:Value} (hc:x.aR hp.length=true) (h:bw w F nW H (yM g x) v):bw w F η hp x v:=by
 cases x with
 |own r m=>
  have hr:r<hp.length:=by simpa [AV.aR] using hc
  cases h with
  |own _ _ _ h1 h2=>exact .own r m v h1 ((xy (ah2 hr) (e.obj r _ (ah2 hr)) (e.val r hr)).2 h2)
 |ptr r o=>
  have hr:r<hp.length:=by simpa [AV.aR] using hc
  cases h with
  |ptr _ _ b h1=>exact .ptr r o b (by rw[e.val r hr];exact h1)
 |mp r=>
  have hr:r<hp.length:=by simpa [AV.aR] using hc
  cases h with
  |mp _ b h1=>exact .mp r b (by rw[e.val r hr];exact h1)
 |agg cs=>simp[AV.aR] at hc
 |aX cs=>simp[AV.aR] at hc
 |ck f cs=>simp[AV.aR] at hc
 |cX f cs=>simp[AV.aR] at hc
 |fY r n i z=>simp[AV.aR] at hc
 |top=>exact .top v
 |ah u=>cases h;exact .ah _
 |fn u=>cases h with|fn _ h1=>exact .fn _ h1
 |sl els=>cases h with
  |pE a=>exact .pE a
  |sl size els b o c f hc hm hl aN hr=>exact .sl size els b o c f hc hm hl aN hr
 |clip els=>cases h with
  |kA a=>exact .kA a
  |clip size els b o f hm hl aN hr=>exact .clip size els b o f hm hl aN hr
 |cL y off=>cases h with|cL _ _ b o f aN hr=>exact .cL y off b o f aN hr
 |fH es=>cases h with|fH b en c h1 h2 _ hl=>exact .fH b en c h1 h2 _ hl
theorem AJ.X5 (e:AJ g η hp nW H) {x:AV} {v:Value} (hc:x.aR hp.length=true) (h:bw w F η hp x v):bw w F nW H (yM g x) v:=by
 cases x with
 |own r m=>
  have hr:r<hp.length:=by simpa [AV.aR] using hc
  cases h with
  |own _ _ _ h1 h2=>exact .own (g r) m v h1 ((xy (ah2 hr) (e.obj r _ (ah2 hr)) (e.val r hr)).1 h2)
 |ptr r o=>
  have hr:r<hp.length:=by simpa [AV.aR] using hc
  cases h with
  |ptr _ _ b h1=>exact .ptr (g r) o b (by rw[←e.val r hr];exact h1)
 |mp r=>
  have hr:r<hp.length:=by simpa [AV.aR] using hc
  cases h with
  |mp _ b h1=>exact .mp (g r) b (by rw[←e.val r hr];exact h1)
 |agg cs=>simp[AV.aR] at hc
 |aX cs=>simp[AV.aR] at hc
 |ck f cs=>simp[AV.aR] at hc
 |cX f cs=>simp[AV.aR] at hc
 |fY r n i z=>simp[AV.aR] at hc
 |top=>exact .top v
 |ah u=>cases h;exact .ah _
 |fn u=>cases h with|fn _ h1=>exact .fn _ h1
 |sl els=>cases h with
  |pE a=>exact .pE a
  |sl size els b o c f hc hm hl aN hr=>exact .sl size els b o c f hc hm hl aN hr
 |clip els=>cases h with
  |kA a=>exact .kA a
  |clip size els b o f hm hl aN hr=>exact .clip size els b o f hm hl aN hr
 |cL y off=>cases h with|cL _ _ b o f aN hr=>exact .cL y off b o f aN hr
 |fH es=>cases h with|fH b en c h1 h2 _ hl=>exact .fH b en c h1 h2 _ hl
theorem eZ {α β:Type} {f:α→β} {l:List α} {j:Nat} {y:β} (h:(l.map f)[j]?=some y):∃x,l[j]?=some x∧y=f x:=by
 rw[aie] at h
 cases hj:l[j]? with
 |none=>rw[hj] at h;cases h
 |some x=>rw[hj] at h;exact⟨x,rfl,(Option.some.inj h).symm⟩
theorem AJ.I7 (e:AJ g η hp nW H) {x:AV} {v:Value} (hc:x.dZ hp.length=true) (h:bw w F nW H (Ev g x) v):bw w F η hp x v:=by
 cases x with
 |agg cs=>
  cases h with
  |agg _ vs hl h1 hr=>
   refine .agg cs vs (by simpa using hl) h1 fun j y u hy hu=>e.B3 (by simp only[AV.dZ,ah4] at hc;exact hc y (aic hy)) (hr j _ u (by rw[aie,hy];rfl) hu)
 |_=>exact e.B3 hc h
theorem AJ.X6 (e:AJ g η hp nW H) {x:AV} {v:Value} (hc:x.dZ hp.length=true) (h:bw w F η hp x v):bw w F nW H (Ev g x) v:=by
 cases x with
 |agg cs=>
  cases h with
  |agg _ vs hl h1 hr=>
   refine .agg _ vs (by simpa using hl) h1 fun j y u hy hu=>?_
   obtain⟨z,hz,rfl⟩:=eZ hy
   exact e.X5 (by simp only[AV.dZ,ah4] at hc;exact hc z (aic hz)) (hr j z u hz hu)
 |_=>first|exact e.X5 (x:=.top) hc h|(refine Eq.mpr ?_ (e.X5 ?_ h)<;>first|rfl|exact hc)
theorem AJ.un (e:AJ g η hp nW H) {x:AV} {v:Value} (hc:x.closed hp.length=true) (h:bw w F nW H (uZ g x) v):bw w F η hp x v:=by
 cases x with
 |aX cs=>
  cases h with
  |aX _ vs hl hr=>exact .aX cs vs (by simpa using hl) fun j y u hy hu=>e.I7 (by simp only[AV.closed,ah4] at hc;exact hc y (aic hy)) (hr j _ u (by rw[aie,hy];rfl) hu)
 |ck f cs=>
  cases h with
  |ck _ _ vs hl hr=>exact .ck f cs vs (by simpa using hl) fun j y u hy hu=>e.I7 (by simp only[AV.closed,ah4] at hc;exact hc y (aic hy)) (hr j _ u (by rw[aie,hy];rfl) hu)
 |cX f cs=>
  cases h with
  |cX _ _ vs hl hr=>exact .cX f cs vs (by simpa using hl) fun j y u hy hu=>e.I7 (by simp only[AV.closed,ah4] at hc;exact hc y (aic hy)) (hr j _ u (by rw[aie,hy];rfl) hu)
 |_=>exact e.I7 hc h
theorem AJ.re (e:AJ g η hp nW H) {x:AV} {v:Value} (hc:x.closed hp.length=true) (h:bw w F η hp x v):bw w F nW H (uZ g x) v:=by
 cases x with
 |aX cs=>
  cases h with
  |aX _ vs hl hr=>
   refine .aX _ vs (by simpa using hl) fun j y u hy hu=>?_
   obtain⟨z,hz,rfl⟩:=eZ hy
   exact e.X6 (by simp only[AV.closed,ah4] at hc;exact hc z (aic hz)) (hr j z u hz hu)
 |ck f cs=>
  cases h with
  |ck _ _ vs hl hr=>
   refine .ck f _ vs (by simpa using hl) fun j y u hy hu=>?_
   obtain⟨z,hz,rfl⟩:=eZ hy
   exact e.X6 (by simp only[AV.closed,ah4] at hc;exact hc z (aic hz)) (hr j z u hz hu)
 |cX f cs=>
  cases h with
  |cX _ _ vs hl hr=>
   refine .cX f _ vs (by simpa using hl) fun j y u hy hu=>?_
   obtain⟨z,hz,rfl⟩:=eZ hy
   exact e.X6 (by simp only[AV.closed,ah4] at hc;exact hc z (aic hz)) (hr j z u hz hu)
 |_=>first|exact e.X6 (x:=.top) hc h|(refine Eq.mpr ?_ (e.X6 ?_ h)<;>first|rfl|exact hc)
theorem AJ.unL (e:AJ g η hp nW H):∀{xs:List AV} {vs:List Value},xs.all (AV.closed hp.length)=true→cH w F nW H (xs.map (uZ g)) vs→cH w F η hp xs vs
 | [],[],_,_=>True.intro
 |x::xs,v::vs,hc,h=>by
  rw[ai5,ahZ] at hc
  exact⟨e.un hc.1 h.1,e.unL hc.2 h.2⟩
 | [],_::_,_,h=>h.elim
 |_::_,[],_,h=>h.elim
theorem AJ.U5 (e:AJ g η hp nW H) {o:af} {v:Value} (hc:o.closed hp.length=true) (h:kV w F nW H (sr g o) v):kV w F η hp o v:=by
 cases o with
 |dead=>exact True.intro
 |box cs=>
  obtain⟨b,vs,T,e1,e2,e3,e4⟩:=h
  refine⟨b,vs,T,e1,e2,by simpa using e3,fun j x u hx hu=>?_⟩
  have h5:=e4 j (yM g x) u (by rw[aie,hx];rfl) hu
  exact⟨e.B3 (ah4.1 hc x (aic hx)) h5.1,h5.2⟩
 |row z size els=>exact h
 |cQ es=>exact h
 |dD q k=>
  obtain⟨b,vs,e1,e2,e3,e4,u,e5,e6⟩:=h
  exact⟨b,vs,e1,e2,e3,e4,u,e5,e.B3 (x:=.own q k) (by simpa [AV.aR,af.closed] using hc) e6⟩
 |bM z size els=>exact h
 |eH z m ns=>exact h
theorem AJ.reO (e:AJ g η hp nW H) {o:af} {v:Value} (hc:o.closed hp.length=true) (h:kV w F η hp o v):kV w F nW H (sr g o) v:=by
 cases o with
 |dead=>exact True.intro
 |box cs=>
  obtain⟨b,vs,T,e1,e2,e3,e4⟩:=h
  refine⟨b,vs,T,e1,e2,by simpa using e3,fun j x u hx hu=>?_⟩
  obtain⟨z,hz,rfl⟩:=eZ hx
  have h5:=e4 j z u hz hu
  exact⟨e.X5 (ah4.1 hc z (aic hz)) h5.1,h5.2⟩
 |row z size els=>exact h
 |cQ es=>exact h
 |dD q k=>
  obtain⟨b,vs,e1,e2,e3,e4,u,e5,e6⟩:=h
  exact⟨b,vs,e1,e2,e3,e4,u,e5,e.X5 (x:=.own q k) (by simpa [AV.aR,af.closed] using hc) e6⟩
 |bM z size els=>exact h
 |eH z m ns=>exact h
def vM (g:Nat→Nat) (j:Nat):Nat→Option Nat
 |0=>none
 |k+1=>(match Nat.beq (g k) j with|true=>some k|false=>vM g j k)
theorem nX {j:Nat}:∀{k i:Nat},vM g j k=some i→i<k∧g i=j
 |0,i,h=>by cases h
 |k+1,i,h=>by
  simp only[vM] at h
  split at h
  ·rename_i hb
   obtain rfl:=Option.some.inj h
   exact⟨by omega,ain hb⟩
  ·obtain⟨h1,h2⟩:=nX h
   exact⟨by omega,h2⟩
theorem yN {j:Nat}:∀{k:Nat},vM g j k=none→∀i,i<k→g i≠j
 |0,_,i,hi=>by omega
 |k+1,h,i,hi=>by
  simp only[vM] at h
  split at h
  ·cases h
  ·rename_i hb
   by_cases hk:i=k
   ·subst hk;intro hj;rw[hj,Nat.beq_refl] at hb;cases hb
   ·exact yN h i (by omega)
def putAt {α:Type} (g:Nat→Nat) (l L:List α) (d:α) (j:Nat):α:=match vM g j l.length with
 |some i=>l.getD i d
 |none=>L.getD j d
def nY:Nat→Nat→List Nat
 |_,0=>[]
 |k,m+1=>k::nY (k+1) m
def Ew {α:Type} (g:Nat→Nat) (l L:List α) (d:α) (m:Nat):List α:=(nY 0 m).map (putAt g l L d)
theorem qc:∀(m k:Nat),(nY k m).length=m
 |0,_=>rfl
 |m+1,k=>by rw[nY,aif,qc m]
theorem qd:∀(m k j:Nat),j<m→(nY k m)[j]?=some (k+j)
 |0,_,_,h=>by omega
 |m+1,k,0,_=>rfl
 |m+1,k,j+1,h=>by rw[nY,aiB,qd m (k+1) j (by omega)];congr 1;omega
theorem tB {α:Type} {l L:List α} {d:α} {m:Nat}:(Ew g l L d m).length=m:=by rw[Ew,ahX,qc]
theorem yO {α:Type} {l L:List α} {d:α} {m j:Nat} (h:j<m):(Ew g l L d m)[j]?=some (putAt g l L d j):=by
 rw[Ew,aie,qd m 0 j h,aiv,aiw]
def jZ (g:Nat→Nat) (n:Nat) (hp' H:List af):List af:=Ew g (hp'.map (sr g)) H .dead (H.length+(hp'.length-n))
theorem cG.X7 {f:FuncId} {args:List AV} {R:AV→List af→Prop} (h:cG P f args hp R) (pR:∀(i:Nat) (o:af),hp[i]?=some o→H[g i]?=some (sr g o))
  (X8:∀i i',i<hp.length→i' < hp.length→g i=g i'→i=i') (wS:∀i,hp.length≤i→g i=H.length+(i-hp.length))
  (aI:args.all (AV.closed hp.length)=true) (eu:hp.all (af.closed hp.length)=true)
  (hR:∀r hp',R r hp'→hp.length≤hp'.length∧r.closed hp'.length=true∧hp'.all (af.closed hp'.length)=true):
  cG P f (args.map (uZ g)) H (fun r2 H2=>∃r hp',R r hp'∧r2=uZ g r∧H2=jZ g hp.length hp' H):=by
 refine⟨h.1,fun w F nW bB bS hv=>?_⟩
 have hlen:nW.length=H.length:=bS.heap.len
 have hgH:∀i,i<hp.length→g i<H.length:=fun i hi=>(ahY.1 (pR i _ (ah2 hi))).1
 let η:List Value:=(nY 0 hp.length).map fun i=>nW.getD (g i) undef
 have X9:η.length=hp.length:=by simp[η,qc]
 have eS:∀i,i<hp.length→η[i]?=nW[g i]?:=by
  intro i hi
  have ay:g i<nW.length:=by rw[hlen];exact hgH i hi
  simp only[η,aie,qd _ _ _ hi,aiv,aiw]
  rw[ah2 ay];simp[List.getD,ay]
 have kN:AJ g η hp nW H:=⟨pR,eS⟩
 have p9:∀b,aQ η hp b→aQ nW H b:=by
  intro b ⟨r,o,v,h1,h2,h3,h4⟩
  have ay:r<hp.length:=(ahY.1 h1).1
  exact⟨g r,sr g o,v,pR r o h1,gE.2 h2,by rw[←eS r ay];exact h3,h4⟩
 have Na:∀b o,mB nW H b o→mB η hp b o:=by
  intro b o hf
  refine(aZ b o).2 fun r v hr hb=>?_
  have ay:r<hp.length:=by rw[←X9];exact(ahY.1 hr).1
  obtain⟨o1,q1,q2⟩:=(aZ b o).1 hf (g r) v (by rw[←eS r ay];exact hr) hb
  rw[pR r _ (ah2 ay)] at q1
  obtain rfl:=Option.some.inj q1
  exact⟨_,ah2 ay,AI.1 q2⟩
 have Nb:Eb w F η hp:=by
  refine⟨fun b o hb=>⟨(bS.bD b o hb).1,Na b o (bS.bD b o hb).2⟩,⟨X9,fun r o v h1 h2=>?_,fun r r' o o' v v' b bK h1 h2 l1 l2 e1 e2 hb=>?_⟩,fun b hb=>bS.live b (p9 b hb),bS.kg,fun b hb hl=>bS.gx b hb (p9 b hl)⟩
  ·have ay:r<hp.length:=(ahY.1 h1).1
   exact kN.U5 (ah4.1 eu o (aic h1)) (bS.heap.obj (g r) _ v (pR r o h1) (by rw[←eS r ay];exact h2))
  ·have q1:r<hp.length:=(ahY.1 h1).1
   have q2:r' < hp.length:=(ahY.1 h2).1
   exact bS.heap.sep (g r) (g r') _ _ v v' b (fun he=>bK (X8 r r' q1 q2 he)) (pR r o h1) (pR r' o' h2) (gE.2 l1) (gE.2 l2) (by rw[←eS r q1];exact e1) (by rw[←eS r' q2];exact e2) hb
 refine(h.2 w F η bB Nb (kN.unL aI hv)).mono fun e w' ⟨v,r,hp',aU,he,XY,cj⟩=>?_
 obtain⟨hle,DR,hoc⟩:=hR r hp' XY
 have U6:aU.length=hp'.length:=cj.heap.len
 let m:=H.length+(hp'.length-hp.length)
 let DI:List Value:=Ew g aU nW undef m
 have abT:∀i i',i<hp'.length→i' < hp'.length→g i=g i'→i=i':=by
  intro i i' h1 h2 he
  by_cases q1:i<hp.length
  ·by_cases q2:i' < hp.length
   ·exact X8 i i' q1 q2 he
   ·have:=hgH i q1;have:=wS i' (by omega);omega
  ·by_cases q2:i' < hp.length
   ·have:=hgH i' q2;have:=wS i (by omega);omega
   ·have:=wS i (by omega);have:=wS i' (by omega);omega
 have hgm:∀i,i<hp'.length→g i<m:=by
  intro i hi
  by_cases q:i<hp.length
  ·have:=hgH i q;simp only[m];omega
  ·have:=wS i (by omega);simp only[m];omega
 have at1:∀{α:Type} {l L:List α} {d:α} {i:Nat},l.length=hp'.length→i<hp'.length→(Ew g l L d m)[g i]?=l[i]?:=by
  intro α l L d i hl hi
  rw[yO (hgm i hi),putAt]
  cases hf:vM g (g i) l.length with
  |none=>exact(yN hf i (by omega) rfl).elim
  |some i'=>
   obtain⟨q1,q2⟩:=nX hf
   have:=abT i' i (by omega) hi q2
   subst this
   rw[ah2 (by omega)];simp[List.getD,show i' < l.length by omega]
 have at2:∀{α:Type} {l L:List α} {d:α} {j:Nat},l.length=hp'.length→L.length=H.length→(∀i,i<hp'.length→g i≠j)→(Ew g l L d m)[j]?=L[j]?:=by
  intro α l L d j hl hL hj
  by_cases hm:j<m
  ·have hjH:j<H.length:=by
    refine Nat.lt_of_not_le fun gQ=>hj (hp.length+(j-H.length)) (by simp only[m] at hm;omega) ?_
    rw[wS _ (by omega)];omega
   rw[yO hm,putAt]
   cases hf:vM g j l.length with
   |none=>simp only;rw[ah2 (by omega)];simp[List.getD,show j<L.length by omega]
   |some i'=>obtain⟨q1,q2⟩:=nX hf;exact(hj i' (by omega) q2).elim
  ·rw[aiG (by rw[tB];omega),aiG (by simp only[m] at hm;omega)]
 have o1:∀i o,hp'[i]?=some o→(jZ g hp.length hp' H)[g i]?=some (sr g o):=by
  intro i o ho
  rw[jZ]
  have:=at1 (l:=hp'.map (sr g)) (L:=H) (d:=.dead) (i:=i) (by simp) (ahY.1 ho).1
  rw[this,aie,ho];rfl
 have v1:∀i,i<hp'.length→aU[i]?=DI[g i]?:=fun i hi=>(at1 (l:=aU) (L:=nW) (d:=undef) U6 hi).symm
 have o2:∀j,(∀i,i<hp'.length→g i≠j)→(jZ g hp.length hp' H)[j]?=H[j]?:=fun j hj=>at2 (l:=hp'.map (sr g)) (by simp) rfl hj
 have v2:∀j,(∀i,i<hp'.length→g i≠j)→DI[j]?=nW[j]?:=fun j hj=>at2 (l:=aU) U6 hlen hj
 have Ya:AJ g aU hp' DI (jZ g hp.length hp' H):=⟨o1,v1⟩
 have image:∀j,(∃i,i<hp'.length∧g i=j)∨∀i,i<hp'.length→g i≠j:=by
  intro j
  by_cases hj:∃i,i<hp'.length∧g i=j
  ·exact .inl hj
  ·exact .inr fun i hi he=>hj ⟨i,hi,he⟩
 have apart:∀{j:Nat} {o:af} {u:Value} {b:Nat},(∀i,i<hp'.length→g i≠j)→H[j]?=some o→o.live→nW[j]?=some u→dK u=some b→b<w.heap.size∧¬aQ η hp b:=by
  intro j o u b hj h1 h2 h3 h4
  refine⟨bS.live b ⟨j,o,u,h1,h2,h3,h4⟩,fun⟨r1,p1,z1,g1,g2,g3,g4⟩=>?_⟩
  have ay:r1<hp.length:=(ahY.1 g1).1
  exact bS.heap.sep (g r1) j _ o z1 u b (hj r1 (by omega)) (pR r1 p1 g1) h1 (gE.2 g2) h2 (by rw[←eS r1 ay];exact g3) h3 g4 h4
 have En:∀b o,gJ F w η hp w' aU hp' b o→gJ F w nW H w' DI (jZ g hp.length hp' H) b o:=by
  intro b o ⟨h1,h2,h3⟩
  refine⟨h1.imp id (Or.imp id (p9 b)),h2,(aZ b o).2 fun j u hr hb=>?_⟩
  rcases image j with⟨i,hi,rfl⟩|hj
  ·rw[←v1 i hi] at hr
   obtain⟨p1,q1,q2⟩:=(aZ b o).1 h3 i u hr hb
   exact⟨_,o1 i p1 q1,AI.2 q2⟩
  ·rw[v2 j hj] at hr
   rw[o2 j hj]
   have s7:j<H.length:=by rw[←hlen];exact(ahY.1 hr).1
   have ho:H[j]?=some H[j]:=ah2 s7
   refine⟨H[j],ho,?_⟩
   have key:H[j].live→F b o:=by
    intro hl
    have ha:=apart hj ho hl hr hb
    rcases h1 with h1|h1|h1
    ·exact h1
    ·omega
    ·exact(ha.2 h1).elim
   cases hk:H[j] with
   |dead=>exact True.intro
   |_=>
    rw[hk] at key ho
    obtain⟨p1,q1,q2⟩:=(aZ b o).1 (bS.bD b o (key True.intro)).2 j u hr hb
    rw[ho] at q1
    obtain rfl:=Option.some.inj q1
    exact q2
 have jU:∀{pL:List Value} {iM:List af},Ext w' (gJ F w η hp w' aU hp') pL iM w' (gJ F w nW H w' DI (jZ g hp.length hp' H)) pL iM:=⟨fun _ _ _ _ h=>h,fun _ _ _ _ h=>h,En,fun _ _ h=>h,fun _ _ h=>h,fun _ _ _ h=>h⟩
 have rK:∀{i j:Nat},i<hp'.length→g i=j→j<H.length→i<hp.length:=by
  intro i j hi he hj
  refine Nat.lt_of_not_le fun gQ=>?_
  have:=wS i gQ;omega
 have fI:Ext w F nW H w' (gJ F w nW H w' DI (jZ g hp.length hp' H)) DI (jZ g hp.length hp' H):=by
  refine⟨fun b o u hf hc=>cj.ext.cell b o u hf hc,fun b es c hf hc=>cj.ext.kJ b es c hf hc,fun b o hf=>En b o (cj.ext.bD b o hf),fun j a hr=>?_,fun j a hr=>?_,fun j k u ho=>?_⟩
  ·have s7:j<H.length:=by rw[←hlen];exact(ahY.1 hr).1
   rcases image j with⟨i,hi,rfl⟩|hj
   ·have wQ:=rK hi rfl s7
    rw[←v1 i hi];exact cj.ext.ptr i a (by rw[eS i wQ];exact hr)
   ·rw[v2 j hj];exact hr
  ·have s7:j<H.length:=by rw[←hlen];exact(ahY.1 hr).1
   rcases image j with⟨i,hi,rfl⟩|hj
   ·have wQ:=rK hi rfl s7
    rw[←v1 i hi];exact cj.ext.mp i a (by rw[eS i wQ];exact hr)
   ·rw[v2 j hj];exact hr
  ·have s7:j<H.length:=by
    unfold aY at ho
    refine Nat.lt_of_not_le fun gQ=>?_
    rw[aiG gQ] at ho
    exact ho
   rcases image j with⟨i,hi,rfl⟩|hj
   ·have wQ:=rK hi rfl s7
    have h1:aY η hp i k u:=(xy (ah2 wQ) (pR i _ (ah2 wQ)) (eS i wQ)).2 ho
    have h2:=cj.ext.own i k u h1
    exact(xy (ah2 hi) (o1 i _ (ah2 hi)) (v1 i hi)).1 h2
   ·unfold aY at ho ⊢
    rw[v2 j hj,o2 j hj];exact ho
 refine⟨v,uZ g r,jZ g hp.length hp' H,DI,he,⟨r,hp',XY,rfl,rfl⟩,?_⟩
 refine⟨⟨cj.keeps.os,cj.keeps.tape,cj.keeps.output,cj.keeps.size,fun k hk hx=>cj.keeps.block k hk fun hl=>hx (p9 k hl)⟩,fI,⟨by rw[jZ,tB,tB],fun j o u h1 h2=>?_,fun j j' p1 p2 z1 z2 b bK h1 h2 l1 l2 e1 e2 hb gb=>?_⟩,fun b ⟨j,o,u,h1,h2,h3,h4⟩=>?_,(Ya.re DR cj.rep).ext jU⟩
 ·rcases image j with⟨i,hi,rfl⟩|hj
  ·rw[o1 i _ (ah2 hi)] at h1
   obtain rfl:=Option.some.inj h1
   rw[←v1 i hi] at h2
   exact(Ya.reO (ah4.1 hoc _ (ah1 hi)) (cj.heap.obj i _ u (ah2 hi) h2)).ext jU (ah5 _) fun _ _ _=>rfl
  ·rw[o2 j hj] at h1
   rw[v2 j hj] at h2
   by_cases hl:o.live
   ·exact(bS.heap.obj j o u h1 h2).ext fI cj.keeps.size fun b hb uX=>cj.keeps.block b uX (apart hj h1 hl h2 hb).2
   ·cases o<;>first|exact True.intro|exact(hl True.intro).elim
 ·have Eo:∀{i j:Nat} {p1 p2:af} {z1 z2:Value},i<hp'.length→(∀i,i<hp'.length→g i≠j)→hp'[i]?=some p1→H[j]?=some p2→p1.live→p2.live→aU[i]?=some z1→nW[j]?=some z2→dK z1=some b→dK z2=some b→False:=by
   intro i j p1 p2 z1 z2 hi hj h1 h2 l1 l2 e1 e2 hb gb
   have ha:=apart hj h2 l2 e2 gb
   rcases cj.cE b ⟨i,p1,z1,h1,l1,e1,hb⟩ with h5|h5
   ·omega
   ·exact ha.2 h5
  rcases image j with⟨i,hi,rfl⟩|hj
  ·rw[o1 i _ (ah2 hi)] at h1
   obtain rfl:=Option.some.inj h1
   rw[←v1 i hi] at e1
   rcases image j' with⟨i',rJ,rfl⟩|vD
   ·rw[o1 i' _ (ah2 rJ)] at h2
    obtain rfl:=Option.some.inj h2
    rw[←v1 i' rJ] at e2
    exact cj.heap.sep i i' _ _ z1 z2 b (fun he=>bK (by rw[he])) (ah2 hi) (ah2 rJ) (gE.1 l1) (gE.1 l2) e1 e2 hb gb
   ·rw[o2 j' vD] at h2
    rw[v2 j' vD] at e2
    exact Eo hi vD (ah2 hi) h2 (gE.1 l1) l2 e1 e2 hb gb
  ·rw[o2 j hj] at h1
   rw[v2 j hj] at e1
   rcases image j' with⟨i',rJ,rfl⟩|vD
   ·rw[o1 i' _ (ah2 rJ)] at h2
    obtain rfl:=Option.some.inj h2
    rw[←v1 i' rJ] at e2
    exact Eo rJ hj (ah2 rJ) h1 (gE.1 l2) l1 e2 e1 gb hb
   ·rw[o2 j' vD] at h2
    rw[v2 j' vD] at e2
    exact bS.heap.sep j j' p1 p2 z1 z2 b bK h1 h2 l1 l2 e1 e2 hb gb
 ·rcases image j with⟨i,hi,rfl⟩|hj
  ·rw[o1 i _ (ah2 hi)] at h1
   obtain rfl:=Option.some.inj h1
   rw[←v1 i hi] at h3
   exact(cj.cE b ⟨i,_,u,ah2 hi,gE.1 h2,h3,h4⟩).imp id (p9 b)
  ·rw[o2 j hj] at h1
   rw[v2 j hj] at h3
   exact .inr ⟨j,o,u,h1,h2,h3,h4⟩
end Go.Proofs.YtjhanogfpkbamaaGreatDoor
