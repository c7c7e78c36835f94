/- Texts of ours laid together for a claim: VcP. -/
import Derived.Test.YtdcikhleahfknaaGreatDoorQ20
namespace Go.Proofs.YtdcikhleahfknaaGreatDoor
open Go
set_option linter.unusedSimpArgs false
set_option linter.unusedVariables false
variable {P:Program} {w w':World} {F F':Nat→Nat→Prop} {η aM jC:List Value} {hp hp' H:List af} {g:Nat→Nat}
def Io (g:Nat→Nat):AV→AV
 | .ptr r o=>.ptr (g r) o
 |x=>x
def su (g:Nat→Nat):AV→AV
 | .own r n=>.own (g r) n
 | .ptr r o=>.ptr (g r) o
 | .mp r=>.mp (g r)
 | .aS f cs=>.aS f (cs.map (Io g))
 |x=>x
def zY (g:Nat→Nat):AV→AV
 | .agg cs=>.agg (cs.map (su g))
 |x=>su g x
def oG (g:Nat→Nat):AV→AV
 | .bc vs=>.bc (vs.map (zY g))
 | .aS f cs=>.aS f (cs.map (zY g))
 | .cH f cs=>.cH f (cs.map (zY g))
 |x=>zY g x
def gD (g:Nat→Nat):af→af
 | .box cs=>.box (cs.map (su g))
 | .cA r n=>.cA (g r) n
 |o=>o
theorem cV {o:af}:(gD g o).live↔o.live:=by cases o<;>exact Iff.rfl
theorem qK {o:af} {k:Nat}:(gD g o).aY k↔o.aY k:=by cases o<;>exact Iff.rfl
theorem pz {r j n:Nat} {v:Value} {o:af} (h1:hp[r]?=some o) (h2:H[j]?=some (gD g o)) (h3:η[r]?=jC[j]?):aQ η hp r n v↔aQ jC H j n v:=by
 unfold aQ
 rw[h1,h2,h3]
 cases o<;>exact Iff.rfl
structure sv (g:Nat→Nat) (η:List Value) (hp:List af) (jC:List Value) (H:List af):Prop where
 obj:∀(i:Nat) (o:af),hp[i]?=some o→H[g i]?=some (gD g o)
 val:∀(i:Nat),i<hp.length→η[i]?=jC[g i]?
theorem sv.Ql (e:sv g η hp jC H) {x:AV} {v:Value} (hc:x.dx hp.length=true) (h:aV w F jC H (Io g x) v):aV w F η hp x v:=by
 cases x with
 |ptr r o=>
  have hr:r<hp.length:=by simpa [AV.dx] using hc
  cases h with
  |ptr _ _ b h1=>exact .ptr r o b (by rw[e.val r hr];exact h1)
 |ae u=>cases h;exact .ae _
 |aH y off=>cases h with|aH _ _ b o f aw hr=>exact .aH y off b o f aw hr
 |_=>simp[AV.dx] at hc
theorem sv.reP (e:sv g η hp jC H) {x:AV} {v:Value} (hc:x.dx hp.length=true) (h:aV w F η hp x v):aV w F jC H (Io g x) v:=by
 cases x with
 |ptr r o=>
  have hr:r<hp.length:=by simpa [AV.dx] using hc
  cases h with
  |ptr _ _ b h1=>exact .ptr (g r) o b (by rw[←e.val r hr];exact h1)
 |ae u=>cases h;exact .ae _
 |aH y off=>cases h with|aH _ _ b o f aw hr=>exact .aH y off b o f aw hr
 |_=>simp[AV.dx] at hc
theorem cu {α β:Type} {f:α→β} {l:List α} {j:Nat} {y:β} (h:(l.map f)[j]?=some y):∃x,l[j]?=some x∧y=f x:=by
 rw[List.getElem?_map] at h
 cases hj:l[j]? with
 |none=>rw[hj] at h;cases h
 |some x=>rw[hj] at h;exact⟨x,rfl,(Option.some.inj h).symm⟩
theorem sv.vv (e:sv g η hp jC H) {x:AV} {v:Value} (hc:x.aJ hp.length=true) (h:aV w F jC H (su g x) v):aV w F η hp x v:=by
 cases x with
 |own r m=>
  have hr:r<hp.length:=by simpa [AV.aJ] using hc
  cases h with
  |own _ _ _ h1 h2=>exact .own r m v h1 ((pz (List.getElem?_eq_getElem hr) (e.obj r _ (List.getElem?_eq_getElem hr)) (e.val r hr)).2 h2)
 |ptr r o=>
  have hr:r<hp.length:=by simpa [AV.aJ] using hc
  cases h with
  |ptr _ _ b h1=>exact .ptr r o b (by rw[e.val r hr];exact h1)
 |mp r=>
  have hr:r<hp.length:=by simpa [AV.aJ] using hc
  cases h with
  |mp _ b h1=>exact .mp r b (by rw[e.val r hr];exact h1)
 |agg cs=>simp[AV.aJ] at hc
 |bc cs=>simp[AV.aJ] at hc
 |aS f cs=>
  cases h with
  |aS _ _ vs hl hr=>exact .aS f cs vs (by simpa using hl) fun j y u hy hu=>e.Ql (by simp only[AV.aJ,List.all_eq_true] at hc;exact hc y (List.mem_of_getElem? hy)) (hr j _ u (by rw[List.getElem?_map,hy];rfl) hu)
 |cH f cs=>simp[AV.aJ] at hc
 |ea r n i z=>simp[AV.aJ] at hc
 |top=>exact .top v
 |ae u=>cases h;exact .ae _
 |fn u=>cases h with|fn _ h1=>exact .fn _ h1
 |sl els=>cases h with
  |jN a=>exact .jN a
  |sl size els b o c f hc hm hl aw hr=>exact .sl size els b o c f hc hm hl aw hr
 |clip els=>cases h with
  |gR a=>exact .gR a
  |clip size els b o f hm hl aw hr=>exact .clip size els b o f hm hl aw hr
 |aH y off=>cases h with|aH _ _ b o f aw hr=>exact .aH y off b o f aw hr
 |dL es=>cases h with|dL b en c h1 h2 _ hl=>exact .dL b en c h1 h2 _ hl
theorem sv.Sy (e:sv g η hp jC H) {x:AV} {v:Value} (hc:x.aJ hp.length=true) (h:aV w F η hp x v):aV w F jC H (su g x) v:=by
 cases x with
 |own r m=>
  have hr:r<hp.length:=by simpa [AV.aJ] using hc
  cases h with
  |own _ _ _ h1 h2=>exact .own (g r) m v h1 ((pz (List.getElem?_eq_getElem hr) (e.obj r _ (List.getElem?_eq_getElem hr)) (e.val r hr)).1 h2)
 |ptr r o=>
  have hr:r<hp.length:=by simpa [AV.aJ] using hc
  cases h with
  |ptr _ _ b h1=>exact .ptr (g r) o b (by rw[←e.val r hr];exact h1)
 |mp r=>
  have hr:r<hp.length:=by simpa [AV.aJ] using hc
  cases h with
  |mp _ b h1=>exact .mp (g r) b (by rw[←e.val r hr];exact h1)
 |agg cs=>simp[AV.aJ] at hc
 |bc cs=>simp[AV.aJ] at hc
 |aS f cs=>
  cases h with
  |aS _ _ vs hl hr=>
   exact .aS f _ vs (by simpa using hl) fun j y u hy hu=>by
    obtain⟨y0,RK,rfl⟩:=cu hy
    exact e.reP (by simp only[AV.aJ,List.all_eq_true] at hc;exact hc y0 (List.mem_of_getElem? RK)) (hr j y0 u RK hu)
 |cH f cs=>simp[AV.aJ] at hc
 |ea r n i z=>simp[AV.aJ] at hc
 |top=>exact .top v
 |ae u=>cases h;exact .ae _
 |fn u=>cases h with|fn _ h1=>exact .fn _ h1
 |sl els=>cases h with
  |jN a=>exact .jN a
  |sl size els b o c f hc hm hl aw hr=>exact .sl size els b o c f hc hm hl aw hr
 |clip els=>cases h with
  |gR a=>exact .gR a
  |clip size els b o f hm hl aw hr=>exact .clip size els b o f hm hl aw hr
 |aH y off=>cases h with|aH _ _ b o f aw hr=>exact .aH y off b o f aw hr
 |dL es=>cases h with|dL b en c h1 h2 _ hl=>exact .dL b en c h1 h2 _ hl
theorem sv.Ex (e:sv g η hp jC H) {x:AV} {v:Value} (hc:x.cI hp.length=true) (h:aV w F jC H (zY g x) v):aV w F η hp x v:=by
 cases x with
 |agg cs=>
  cases h with
  |agg _ vs hl h1 hr=>
   refine .agg cs vs (by simpa using hl) h1 fun j y u hy hu=>e.vv (by simp only[AV.cI,List.all_eq_true] at hc;exact hc y (List.mem_of_getElem? hy)) (hr j _ u (by rw[List.getElem?_map,hy];rfl) hu)
 |_=>exact e.vv hc h
theorem sv.Sz (e:sv g η hp jC H) {x:AV} {v:Value} (hc:x.cI hp.length=true) (h:aV w F η hp x v):aV w F jC H (zY g x) v:=by
 cases x with
 |agg cs=>
  cases h with
  |agg _ vs hl h1 hr=>
   refine .agg _ vs (by simpa using hl) h1 fun j y u hy hu=>?_
   obtain⟨z,hz,rfl⟩:=cu hy
   exact e.Sy (by simp only[AV.cI,List.all_eq_true] at hc;exact hc z (List.mem_of_getElem? hz)) (hr j z u hz hu)
 |_=>first|exact e.Sy (x:=.top) hc h|(refine Eq.mpr ?_ (e.Sy ?_ h)<;>first|rfl|exact hc)
theorem sv.un (e:sv g η hp jC H) {x:AV} {v:Value} (hc:x.closed hp.length=true) (h:aV w F jC H (oG g x) v):aV w F η hp x v:=by
 cases x with
 |bc cs=>
  cases h with
  |bc _ vs hl hr=>exact .bc cs vs (by simpa using hl) fun j y u hy hu=>e.Ex (by simp only[AV.closed,List.all_eq_true] at hc;exact hc y (List.mem_of_getElem? hy)) (hr j _ u (by rw[List.getElem?_map,hy];rfl) hu)
 |aS f cs=>
  cases h with
  |aS _ _ vs hl hr=>exact .aS f cs vs (by simpa using hl) fun j y u hy hu=>e.Ex (by simp only[AV.closed,List.all_eq_true] at hc;exact hc y (List.mem_of_getElem? hy)) (hr j _ u (by rw[List.getElem?_map,hy];rfl) hu)
 |cH f cs=>
  cases h with
  |cH _ _ vs hl hr=>exact .cH f cs vs (by simpa using hl) fun j y u hy hu=>e.Ex (by simp only[AV.closed,List.all_eq_true] at hc;exact hc y (List.mem_of_getElem? hy)) (hr j _ u (by rw[List.getElem?_map,hy];rfl) hu)
 |_=>exact e.Ex hc h
theorem sv.re (e:sv g η hp jC H) {x:AV} {v:Value} (hc:x.closed hp.length=true) (h:aV w F η hp x v):aV w F jC H (oG g x) v:=by
 cases x with
 |bc cs=>
  cases h with
  |bc _ vs hl hr=>
   refine .bc _ vs (by simpa using hl) fun j y u hy hu=>?_
   obtain⟨z,hz,rfl⟩:=cu hy
   exact e.Sz (by simp only[AV.closed,List.all_eq_true] at hc;exact hc z (List.mem_of_getElem? hz)) (hr j z u hz hu)
 |aS f cs=>
  cases h with
  |aS _ _ vs hl hr=>
   refine .aS f _ vs (by simpa using hl) fun j y u hy hu=>?_
   obtain⟨z,hz,rfl⟩:=cu hy
   exact e.Sz (by simp only[AV.closed,List.all_eq_true] at hc;exact hc z (List.mem_of_getElem? hz)) (hr j z u hz hu)
 |cH f cs=>
  cases h with
  |cH _ _ vs hl hr=>
   refine .cH f _ vs (by simpa using hl) fun j y u hy hu=>?_
   obtain⟨z,hz,rfl⟩:=cu hy
   exact e.Sz (by simp only[AV.closed,List.all_eq_true] at hc;exact hc z (List.mem_of_getElem? hz)) (hr j z u hz hu)
 |_=>first|exact e.Sz (x:=.top) hc h|(refine Eq.mpr ?_ (e.Sz ?_ h)<;>first|rfl|exact hc)
theorem sv.Zf (e:sv g η hp jC H):∀{xs:List AV} {vs:List Value},xs.all (AV.closed hp.length)=true→bF w F jC H (xs.map (oG g)) vs→bF w F η hp xs vs
 | [],[],_,_=>True.intro
 |x::xs,v::vs,hc,h=>by
  rw[List.all_cons,Bool.and_eq_true] at hc
  exact⟨e.un hc.1 h.1,e.Zf hc.2 h.2⟩
 | [],_::_,_,h=>h.elim
 |_::_,[],_,h=>h.elim
theorem sv.Ph (e:sv g η hp jC H) {o:af} {v:Value} (hc:o.closed hp.length=true) (h:fo w F jC H (gD g o) v):fo w F η hp o v:=by
 cases o with
 |dead=>exact True.intro
 |box cs=>
  obtain⟨b,vs,T,e1,e2,e3,e4⟩:=h
  refine⟨b,vs,T,e1,e2,by simpa using e3,fun j x u hx hu=>?_⟩
  have h5:=e4 j (su g x) u (by rw[List.getElem?_map,hx];rfl) hu
  exact⟨e.vv (List.all_eq_true.1 hc x (List.mem_of_getElem? hx)) h5.1,h5.2⟩
 |row z size els=>exact h
 |aP es=>exact h
 |cA q k=>
  obtain⟨b,vs,e1,e2,e3,e4,u,e5,e6⟩:=h
  exact⟨b,vs,e1,e2,e3,e4,u,e5,e.vv (x:=.own q k) (by simpa [AV.aJ,af.closed] using hc) e6⟩
 |aF z size els=>exact h
 |dh z m ns=>exact h
theorem sv.Zg (e:sv g η hp jC H) {o:af} {v:Value} (hc:o.closed hp.length=true) (h:fo w F η hp o v):fo w F jC H (gD g o) v:=by
 cases o with
 |dead=>exact True.intro
 |box cs=>
  obtain⟨b,vs,T,e1,e2,e3,e4⟩:=h
  refine⟨b,vs,T,e1,e2,by simpa using e3,fun j x u hx hu=>?_⟩
  obtain⟨z,hz,rfl⟩:=cu hx
  have h5:=e4 j z u hz hu
  exact⟨e.Sy (List.all_eq_true.1 hc z (List.mem_of_getElem? hz)) h5.1,h5.2⟩
 |row z size els=>exact h
 |aP es=>exact h
 |cA q k=>
  obtain⟨b,vs,e1,e2,e3,e4,u,e5,e6⟩:=h
  exact⟨b,vs,e1,e2,e3,e4,u,e5,e.Sy (x:=.own q k) (by simpa [AV.aJ,af.closed] using hc) e6⟩
 |aF z size els=>exact h
 |dh z m ns=>exact h
def rA (g:Nat→Nat) (j:Nat):Nat→Option Nat
 |0=>none
 |k+1=>(match Nat.beq (g k) j with|true=>some k|false=>rA g j k)
theorem lf {j:Nat}:∀{k i:Nat},rA g j k=some i→i<k∧g i=j
 |0,i,h=>by cases h
 |k+1,i,h=>by
  simp only[rA] at h
  split at h
  ·rename_i hb
   obtain rfl:=Option.some.inj h
   exact⟨by omega,Nat.eq_of_beq_eq_true hb⟩
  ·obtain⟨h1,h2⟩:=lf h
   exact⟨by omega,h2⟩
theorem tS {j:Nat}:∀{k:Nat},rA g j k=none→∀i,i<k→g i≠j
 |0,_,i,hi=>by omega
 |k+1,h,i,hi=>by
  simp only[rA] at h
  split at h
  ·cases h
  ·rename_i hb
   by_cases hk:i=k
   ·subst hk;intro hj;rw[hj,Nat.beq_refl] at hb;cases hb
   ·exact tS h i (by omega)
def putAt {α:Type} (g:Nat→Nat) (l L:List α) (d:α) (j:Nat):α:=match rA g j l.length with
 |some i=>l.getD i d
 |none=>L.getD j d
def lg:Nat→Nat→List Nat
 |_,0=>[]
 |k,m+1=>k::lg (k+1) m
def zZ {α:Type} (g:Nat→Nat) (l L:List α) (d:α) (m:Nat):List α:=(lg 0 m).map (putAt g l L d)
theorem my:∀(m k:Nat),(lg k m).length=m
 |0,_=>rfl
 |m+1,k=>by rw[lg,List.length_cons,my m]
theorem mz:∀(m k j:Nat),j<m→(lg k m)[j]?=some (k+j)
 |0,_,_,h=>by omega
 |m+1,k,0,_=>rfl
 |m+1,k,j+1,h=>by rw[lg,List.getElem?_cons_succ,mz m (k+1) j (by omega)];congr 1;omega
theorem pB {α:Type} {l L:List α} {d:α} {m:Nat}:(zZ g l L d m).length=m:=by rw[zZ,List.length_map,my]
theorem tT {α:Type} {l L:List α} {d:α} {m j:Nat} (h:j<m):(zZ g l L d m)[j]?=some (putAt g l L d j):=by
 rw[zZ,List.getElem?_map,mz m 0 j h,Option.map_some,Nat.zero_add]
def gE (g:Nat→Nat) (n:Nat) (hp' H:List af):List af:=zZ g (hp'.map (gD g)) H .dead (H.length+(hp'.length-n))
theorem bJ.SA {f:FuncId} {args:List AV} {R:AV→List af→Prop} (h:bJ P f args hp R) (jR:∀(i:Nat) (o:af),hp[i]?=some o→H[g i]?=some (gD g o))
  (SB:∀i i',i<hp.length→i' < hp.length→g i=g i'→i=i') (mw:∀i,hp.length≤i→g i=H.length+(i-hp.length))
  (ax:args.all (AV.closed hp.length)=true) (cS:hp.all (af.closed hp.length)=true)
  (hR:∀r hp',R r hp'→hp.length≤hp'.length∧r.closed hp'.length=true∧hp'.all (af.closed hp'.length)=true):
  bJ P f (args.map (oG g)) H (fun r2 H2=>∃r hp',R r hp'∧r2=oG g r∧H2=gE g hp.length hp' H):=by
 refine⟨h.1,fun w F jC aR aI hv=>?_⟩
 have hlen:jC.length=H.length:=aI.heap.len
 have VJ:∀i,i<hp.length→g i<H.length:=fun i hi=>(List.getElem?_eq_some_iff.1 (jR i _ (List.getElem?_eq_getElem hi))).1
 let η:List Value:=(lg 0 hp.length).map fun i=>jC.getD (g i) undef
 have SC:η.length=hp.length:=by simp[η,my]
 have dn:∀i,i<hp.length→η[i]?=jC[g i]?:=by
  intro i hi
  have al:g i<jC.length:=by rw[hlen];exact VJ i hi
  simp only[η,List.getElem?_map,mz _ _ _ hi,Option.map_some,Nat.zero_add]
  rw[List.getElem?_eq_getElem al];simp[List.getD,al]
 have fU:sv g η hp jC H:=⟨jR,dn⟩
 have mr:∀b,aC η hp b→aC jC H b:=by
  intro b ⟨r,o,v,h1,h2,h3,h4⟩
  have al:r<hp.length:=(List.getElem?_eq_some_iff.1 h1).1
  exact⟨g r,gD g o,v,jR r o h1,cV.2 h2,by rw[←dn r al];exact h3,h4⟩
 have HW:∀b o,gW jC H b o→gW η hp b o:=by
  intro b o hf
  refine(aN b o).2 fun r v hr hb=>?_
  have al:r<hp.length:=by rw[←SC];exact(List.getElem?_eq_some_iff.1 hr).1
  obtain⟨o1,q1,q2⟩:=(aN b o).1 hf (g r) v (by rw[←dn r al];exact hr) hb
  rw[jR r _ (List.getElem?_eq_getElem al)] at q1
  obtain rfl:=Option.some.inj q1
  exact⟨_,List.getElem?_eq_getElem al,qK.1 q2⟩
 have HX:nW w F η hp:=by
  refine⟨fun b o hb=>⟨(aI.aY b o hb).1,HW b o (aI.aY b o hb).2⟩,⟨SC,fun r o v h1 h2=>?_,fun r r' o o' v v' b bj h1 h2 l1 l2 e1 e2 hb=>?_⟩,fun b hb=>aI.live b (mr b hb),aI.fX,fun b hb hl=>aI.gx b hb (mr b hl)⟩
  ·have al:r<hp.length:=(List.getElem?_eq_some_iff.1 h1).1
   exact fU.Ph (List.all_eq_true.1 cS o (List.mem_of_getElem? h1)) (aI.heap.obj (g r) _ v (jR r o h1) (by rw[←dn r al];exact h2))
  ·have q1:r<hp.length:=(List.getElem?_eq_some_iff.1 h1).1
   have q2:r' < hp.length:=(List.getElem?_eq_some_iff.1 h2).1
   exact aI.heap.sep (g r) (g r') _ _ v v' b (fun he=>bj (SB r r' q1 q2 he)) (jR r o h1) (jR r' o' h2) (cV.2 l1) (cV.2 l2) (by rw[←dn r q1];exact e1) (by rw[←dn r' q2];exact e2) hb
 refine(h.2 w F η aR HX (fU.Zf ax hv)).mono fun e w' ⟨v,r,hp',aM,he,Sq,aZ⟩=>?_
 obtain⟨hle,zq,hoc⟩:=hR r hp' Sq
 have Pj:aM.length=hp'.length:=aZ.heap.len
 let m:=H.length+(hp'.length-hp.length)
 let lY:List Value:=zZ g aM jC undef m
 have WC:∀i i',i<hp'.length→i' < hp'.length→g i=g i'→i=i':=by
  intro i i' h1 h2 he
  by_cases q1:i<hp.length
  ·by_cases q2:i' < hp.length
   ·exact SB i i' q1 q2 he
   ·have:=VJ i q1;have:=mw i' (by omega);omega
  ·by_cases q2:i' < hp.length
   ·have:=VJ i' q2;have:=mw i (by omega);omega
   ·have:=mw i (by omega);have:=mw i' (by omega);omega
 have hgm:∀i,i<hp'.length→g i<m:=by
  intro i hi
  by_cases q:i<hp.length
  ·have:=VJ i q;simp only[m];omega
  ·have:=mw i (by omega);simp only[m];omega
 have Zh:∀{α:Type} {l L:List α} {d:α} {i:Nat},l.length=hp'.length→i<hp'.length→(zZ g l L d m)[g i]?=l[i]?:=by
  intro α l L d i hl hi
  rw[tT (hgm i hi),putAt]
  cases hf:rA g (g i) l.length with
  |none=>exact(tS hf i (by omega) rfl).elim
  |some i'=>
   obtain⟨q1,q2⟩:=lf hf
   have:=WC i' i (by omega) hi q2
   subst this
   rw[List.getElem?_eq_getElem (by omega)];simp[List.getD,show i' < l.length by omega]
 have Zi:∀{α:Type} {l L:List α} {d:α} {j:Nat},l.length=hp'.length→L.length=H.length→(∀i,i<hp'.length→g i≠j)→(zZ g l L d m)[j]?=L[j]?:=by
  intro α l L d j hl hL hj
  by_cases hm:j<m
  ·have hjH:j<H.length:=by
    refine Nat.lt_of_not_le fun te=>hj (hp.length+(j-H.length)) (by simp only[m] at hm;omega) ?_
    rw[mw _ (by omega)];omega
   rw[tT hm,putAt]
   cases hf:rA g j l.length with
   |none=>simp only;rw[List.getElem?_eq_getElem (by omega)];simp[List.getD,show j<L.length by omega]
   |some i'=>obtain⟨q1,q2⟩:=lf hf;exact(hj i' (by omega) q2).elim
  ·rw[List.getElem?_eq_none (by rw[pB];omega),List.getElem?_eq_none (by simp only[m] at hm;omega)]
 have o1:∀i o,hp'[i]?=some o→(gE g hp.length hp' H)[g i]?=some (gD g o):=by
  intro i o ho
  rw[gE]
  have:=Zh (l:=hp'.map (gD g)) (L:=H) (d:=.dead) (i:=i) (by simp) (List.getElem?_eq_some_iff.1 ho).1
  rw[this,List.getElem?_map,ho];rfl
 have v1:∀i,i<hp'.length→aM[i]?=lY[g i]?:=fun i hi=>(Zh (l:=aM) (L:=jC) (d:=undef) Pj hi).symm
 have o2:∀j,(∀i,i<hp'.length→g i≠j)→(gE g hp.length hp' H)[j]?=H[j]?:=fun j hj=>Zi (l:=hp'.map (gD g)) (by simp) rfl hj
 have v2:∀j,(∀i,i<hp'.length→g i≠j)→lY[j]?=jC[j]?:=fun j hj=>Zi (l:=aM) Pj hlen hj
 have SD:sv g aM hp' lY (gE g hp.length hp' H):=⟨o1,v1⟩
 have image:∀j,(∃i,i<hp'.length∧g i=j)∨∀i,i<hp'.length→g i≠j:=by
  intro j
  by_cases hj:∃i,i<hp'.length∧g i=j
  ·exact .inl hj
  ·exact .inr fun i hi he=>hj ⟨i,hi,he⟩
 have apart:∀{j:Nat} {o:af} {u:Value} {b:Nat},(∀i,i<hp'.length→g i≠j)→H[j]?=some o→o.live→jC[j]?=some u→bT u=some b→b<w.heap.size∧¬aC η hp b:=by
  intro j o u b hj h1 h2 h3 h4
  refine⟨aI.live b ⟨j,o,u,h1,h2,h3,h4⟩,fun⟨r1,p1,z1,g1,g2,g3,g4⟩=>?_⟩
  have al:r1<hp.length:=(List.getElem?_eq_some_iff.1 g1).1
  exact aI.heap.sep (g r1) j _ o z1 u b (hj r1 (by omega)) (jR r1 p1 g1) h1 (cV.2 g2) h2 (by rw[←dn r1 al];exact g3) h3 g4 h4
 have zR:∀b o,bQ F w η hp w' aM hp' b o→bQ F w jC H w' lY (gE g hp.length hp' H) b o:=by
  intro b o ⟨h1,h2,h3⟩
  refine⟨h1.imp id (Or.imp id (mr b)),h2,(aN b o).2 fun j u hr hb=>?_⟩
  rcases image j with⟨i,hi,rfl⟩|hj
  ·rw[←v1 i hi] at hr
   obtain⟨p1,q1,q2⟩:=(aN b o).1 h3 i u hr hb
   exact⟨_,o1 i p1 q1,qK.2 q2⟩
  ·rw[v2 j hj] at hr
   rw[o2 j hj]
   have rq:j<H.length:=by rw[←hlen];exact(List.getElem?_eq_some_iff.1 hr).1
   have ho:H[j]?=some H[j]:=List.getElem?_eq_getElem rq
   refine⟨H[j],ho,?_⟩
   have key:H[j].live→F b o:=by
    intro hl
    have ha:=apart hj ho hl hr hb
    rcases h1 with h1|h1|h1
    ·exact h1
    ·omega
    ·exact(ha.2 h1).elim
   cases hk:H[j] with
   |dead=>exact True.intro
   |_=>
    rw[hk] at key ho
    obtain⟨p1,q1,q2⟩:=(aN b o).1 (aI.aY b o (key True.intro)).2 j u hr hb
    rw[ho] at q1
    obtain rfl:=Option.some.inj q1
    exact q2
 have gz:∀{iq:List Value} {eG:List af},Ext w' (bQ F w η hp w' aM hp') iq eG w' (bQ F w jC H w' lY (gE g hp.length hp' H)) iq eG:=⟨fun _ _ _ _ h=>h,fun _ _ _ _ h=>h,zR,fun _ _ h=>h,fun _ _ h=>h,fun _ _ _ h=>h⟩
 have old:∀{i j:Nat},i<hp'.length→g i=j→j<H.length→i<hp.length:=by
  intro i j hi he hj
  refine Nat.lt_of_not_le fun te=>?_
  have:=mw i te;omega
 have bY:Ext w F jC H w' (bQ F w jC H w' lY (gE g hp.length hp' H)) lY (gE g hp.length hp' H):=by
  refine⟨fun b o u hf hc=>aZ.ext.cell b o u hf hc,fun b es c hf hc=>aZ.ext.fQ b es c hf hc,fun b o hf=>zR b o (aZ.ext.aY b o hf),fun j a hr=>?_,fun j a hr=>?_,fun j k u ho=>?_⟩
  ·have rq:j<H.length:=by rw[←hlen];exact(List.getElem?_eq_some_iff.1 hr).1
   rcases image j with⟨i,hi,rfl⟩|hj
   ·have qx:=old hi rfl rq
    rw[←v1 i hi];exact aZ.ext.ptr i a (by rw[dn i qx];exact hr)
   ·rw[v2 j hj];exact hr
  ·have rq:j<H.length:=by rw[←hlen];exact(List.getElem?_eq_some_iff.1 hr).1
   rcases image j with⟨i,hi,rfl⟩|hj
   ·have qx:=old hi rfl rq
    rw[←v1 i hi];exact aZ.ext.mp i a (by rw[dn i qx];exact hr)
   ·rw[v2 j hj];exact hr
  ·have rq:j<H.length:=by
    unfold aQ at ho
    refine Nat.lt_of_not_le fun te=>?_
    rw[List.getElem?_eq_none te] at ho
    exact ho
   rcases image j with⟨i,hi,rfl⟩|hj
   ·have qx:=old hi rfl rq
    have h1:aQ η hp i k u:=(pz (List.getElem?_eq_getElem qx) (jR i _ (List.getElem?_eq_getElem qx)) (dn i qx)).2 ho
    have h2:=aZ.ext.own i k u h1
    exact(pz (List.getElem?_eq_getElem hi) (o1 i _ (List.getElem?_eq_getElem hi)) (v1 i hi)).1 h2
   ·unfold aQ at ho ⊢
    rw[v2 j hj,o2 j hj];exact ho
 refine⟨v,oG g r,gE g hp.length hp' H,lY,he,⟨r,hp',Sq,rfl,rfl⟩,?_⟩
 refine⟨⟨aZ.keeps.os,aZ.keeps.tape,aZ.keeps.output,aZ.keeps.size,fun k hk hx=>aZ.keeps.block k hk fun hl=>hx (mr k hl)⟩,bY,⟨by rw[gE,pB,pB],fun j o u h1 h2=>?_,fun j j' p1 p2 z1 z2 b bj h1 h2 l1 l2 e1 e2 hb ec=>?_⟩,fun b ⟨j,o,u,h1,h2,h3,h4⟩=>?_,(SD.re zq aZ.rep).ext gz⟩
 ·rcases image j with⟨i,hi,rfl⟩|hj
  ·rw[o1 i _ (List.getElem?_eq_getElem hi)] at h1
   obtain rfl:=Option.some.inj h1
   rw[←v1 i hi] at h2
   exact(SD.Zg (List.all_eq_true.1 hoc _ (List.getElem_mem hi)) (aZ.heap.obj i _ u (List.getElem?_eq_getElem hi) h2)).ext gz (Nat.le_refl _) fun _ _ _=>rfl
  ·rw[o2 j hj] at h1
   rw[v2 j hj] at h2
   by_cases hl:o.live
   ·exact(aI.heap.obj j o u h1 h2).ext bY aZ.keeps.size fun b hb Qe=>aZ.keeps.block b Qe (apart hj h1 hl h2 hb).2
   ·cases o<;>first|exact True.intro|exact(hl True.intro).elim
 ·have zS:∀{i j:Nat} {p1 p2:af} {z1 z2:Value},i<hp'.length→(∀i,i<hp'.length→g i≠j)→hp'[i]?=some p1→H[j]?=some p2→p1.live→p2.live→aM[i]?=some z1→jC[j]?=some z2→bT z1=some b→bT z2=some b→False:=by
   intro i j p1 p2 z1 z2 hi hj h1 h2 l1 l2 e1 e2 hb ec
   have ha:=apart hj h2 l2 e2 ec
   rcases aZ.bA b ⟨i,p1,z1,h1,l1,e1,hb⟩ with h5|h5
   ·omega
   ·exact ha.2 h5
  rcases image j with⟨i,hi,rfl⟩|hj
  ·rw[o1 i _ (List.getElem?_eq_getElem hi)] at h1
   obtain rfl:=Option.some.inj h1
   rw[←v1 i hi] at e1
   rcases image j' with⟨i',n6,rfl⟩|o5
   ·rw[o1 i' _ (List.getElem?_eq_getElem n6)] at h2
    obtain rfl:=Option.some.inj h2
    rw[←v1 i' n6] at e2
    exact aZ.heap.sep i i' _ _ z1 z2 b (fun he=>bj (by rw[he])) (List.getElem?_eq_getElem hi) (List.getElem?_eq_getElem n6) (cV.1 l1) (cV.1 l2) e1 e2 hb ec
   ·rw[o2 j' o5] at h2
    rw[v2 j' o5] at e2
    exact zS hi o5 (List.getElem?_eq_getElem hi) h2 (cV.1 l1) l2 e1 e2 hb ec
  ·rw[o2 j hj] at h1
   rw[v2 j hj] at e1
   rcases image j' with⟨i',n6,rfl⟩|o5
   ·rw[o1 i' _ (List.getElem?_eq_getElem n6)] at h2
    obtain rfl:=Option.some.inj h2
    rw[←v1 i' n6] at e2
    exact zS n6 hj (List.getElem?_eq_getElem n6) h1 (cV.1 l2) l1 e2 e1 ec hb
   ·rw[o2 j' o5] at h2
    rw[v2 j' o5] at e2
    exact aI.heap.sep j j' p1 p2 z1 z2 b bj h1 h2 l1 l2 e1 e2 hb ec
 ·rcases image j with⟨i,hi,rfl⟩|hj
  ·rw[o1 i _ (List.getElem?_eq_getElem hi)] at h1
   obtain rfl:=Option.some.inj h1
   rw[←v1 i hi] at h3
   exact(aZ.bA b ⟨i,_,u,List.getElem?_eq_getElem hi,cV.1 h2,h3,h4⟩).imp id (mr b)
  ·rw[o2 j hj] at h1
   rw[v2 j hj] at h3
   exact .inr ⟨j,o,u,h1,h2,h3,h4⟩
end Go.Proofs.YtdcikhleahfknaaGreatDoor
