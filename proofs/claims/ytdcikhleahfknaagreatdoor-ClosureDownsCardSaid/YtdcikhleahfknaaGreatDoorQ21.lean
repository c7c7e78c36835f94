/- Texts of ours laid together for a claim: VcP. -/
import Derived.Test.YtdcikhleahfknaaGreatDoorQ20
namespace Go.Proofs.YtdcikhleahfknaaGreatDoor
open Go
set_option linter.unusedSimpArgs false
set_option linter.unusedVariables false
variable {P:Program} {w w':World} {F F':Nat->Nat->Prop} {η aN lB:List Value} {hp hp' H:List af} {g:Nat->Nat}
def N4 (g:Nat->Nat):AV->AV
 | .ptr r o=>.ptr (g r) o
 |x=>x
def vL (g:Nat->Nat):AV->AV
 | .own r n=>.own (g r) n
 | .ptr r o=>.ptr (g r) o
 | .mp r=>.mp (g r)
 | .aY f cs=>.aY f (cs.map (N4 g))
 |x=>x
def Ea (g:Nat->Nat):AV->AV
 | .agg cs=>.agg (cs.map (vL g))
 |x=>vL g x
def qR (g:Nat->Nat):AV->AV
 | .aL vs=>.aL (vs.map (Ea g))
 | .aY f cs=>.aY f (cs.map (Ea g))
 | .dm f cs=>.dm f (cs.map (Ea g))
 |x=>Ea g x
def iY (g:Nat->Nat):af->af
 | .box cs=>.box (cs.map (vL g))
 | .cU r n=>.cU (g r) n
 |o=>o
theorem dH {o:af}:(iY g o).live↔o.live:=by cases o<;>exact Iff.rfl
theorem tQ {o:af} {k:Nat}:(iY g o).bg k↔o.bg k:=by cases o<;>exact Iff.rfl
theorem rX {r j n:Nat} {v:Value} {o:af} (h1:hp[r]?=some o) (h2:H[j]?=some (iY g o)) (h3:η[r]?=lB[j]?):aT η hp r n v↔aT lB H j n v:=by
 unfold aT;rw[h1,h2,h3]
 cases o<;>exact Iff.rfl
structure vM (g:Nat->Nat) (η:List Value) (hp:List af) (lB:List Value) (H:List af):Prop where
 obj:∀(i:Nat) (o:af),hp[i]?=some o->H[g i]?=some (iY g o)
 val:∀(i:Nat),i<hp.length->η[i]?=lB[g i]?
theorem vM.Yr (e:vM g η hp lB H) {x:AV} {v:Value} (hc:x.dV hp.length=true) (h:bm w F lB H (N4 g x) v):bm w F η hp x v:=by
 cases x with
 |ptr r o=>
  have hr:r<hp.length:=by simpa [AV.dV] using hc
  cases h with
  |ptr _ _ b h1=>exact .ptr r o b (by rw[e.val r hr];exact h1)
 |ae u=>cases h;exact .ae _
 |aS y off=>cases h with|aS _ _ b o f aE hr=>exact .aS y off b o f aE hr
 |_=>simp[AV.dV] at hc
theorem vM.reP (e:vM g η hp lB H) {x:AV} {v:Value} (hc:x.dV hp.length=true) (h:bm w F η hp x v):bm w F lB H (N4 g x) v:=by
 cases x with
 |ptr r o=>
  have hr:r<hp.length:=by simpa [AV.dV] using hc
  cases h with
  |ptr _ _ b h1=>exact .ptr (g r) o b (by rw[<-e.val r hr];exact h1)
 |ae u=>cases h;exact .ae _
 |aS y off=>cases h with|aS _ _ b o f aE hr=>exact .aS y off b o f aE hr
 |_=>simp[AV.dV] at hc
theorem cP {α β:Type} {f:α->β} {l:List α} {j:Nat} {y:β} (h:(l.map f)[j]?=some y):∃x,l[j]?=some x/\y=f x:=by
 rw[alM] at h
 cases hj:l[j]? with
 |none=>rw[hj] at h;cases h
 |some x=>rw[hj] at h;exact⟨x,rfl,(alw h).symm⟩
theorem vM.zg (e:vM g η hp lB H) {x:AV} {v:Value} (hc:x.aW hp.length=true) (h:bm w F lB H (vL g x) v):bm w F η hp x v:=by
 cases x with
 |own r m=>
  have hr:r<hp.length:=by simpa [AV.aW] using hc
  cases h with
  |own _ _ _ h1 h2=>exact .own r m v h1 ((rX (aly hr) (e.obj r _ (aly hr)) (e.val r hr)).2 h2)
 |ptr r o=>
  have hr:r<hp.length:=by simpa [AV.aW] using hc
  cases h with
  |ptr _ _ b h1=>exact .ptr r o b (by rw[e.val r hr];exact h1)
 |mp r=>
  have hr:r<hp.length:=by simpa [AV.aW] using hc
  cases h with
  |mp _ b h1=>exact .mp r b (by rw[e.val r hr];exact h1)
 |agg cs=>simp[AV.aW] at hc
 |aL cs=>simp[AV.aW] at hc
 |aY f cs=>
  cases h with
  |aY _ _ vs hl hr=>exact .aY f cs vs (by simpa using hl) fun j y u hy hu=>e.Yr (by simp only[AV.aW,alK] at hc;exact hc y (alF hy)) (hr j _ u (by rw[alM,hy];rfl) hu)
 |dm f cs=>simp[AV.aW] at hc
 |fa r n i z=>simp[AV.aW] at hc
 |top=>exact .top v
 |ae u=>cases h;exact .ae _
 |fn u=>cases h with|fn _ h1=>exact .fn _ h1
 |sl els=>cases h with
  |lL a=>exact .lL a
  |sl size els b o c f hc hm hl aE hr=>exact .sl size els b o c f hc hm hl aE hr
 |clip els=>cases h with
  |jv a=>exact .jv a
  |clip size els b o f hm hl aE hr=>exact .clip size els b o f hm hl aE hr
 |aS y off=>cases h with|aS _ _ b o f aE hr=>exact .aS y off b o f aE hr
 |eG es=>cases h with|eG b en c h1 h2 _ hl=>exact .eG b en c h1 h2 _ hl
theorem vM.reC (e:vM g η hp lB H) {x:AV} {v:Value} (hc:x.aW hp.length=true) (h:bm w F η hp x v):bm w F lB H (vL g x) v:=by
 cases x with
 |own r m=>
  have hr:r<hp.length:=by simpa [AV.aW] using hc
  cases h with
  |own _ _ _ h1 h2=>exact .own (g r) m v h1 ((rX (aly hr) (e.obj r _ (aly hr)) (e.val r hr)).1 h2)
 |ptr r o=>
  have hr:r<hp.length:=by simpa [AV.aW] using hc
  cases h with
  |ptr _ _ b h1=>exact .ptr (g r) o b (by rw[<-e.val r hr];exact h1)
 |mp r=>
  have hr:r<hp.length:=by simpa [AV.aW] using hc
  cases h with
  |mp _ b h1=>exact .mp (g r) b (by rw[<-e.val r hr];exact h1)
 |agg cs=>simp[AV.aW] at hc
 |aL cs=>simp[AV.aW] at hc
 |aY f cs=>
  cases h with
  |aY _ _ vs hl hr=>
   exact .aY f _ vs (by simpa using hl) fun j y u hy hu=>by
    obtain⟨y0,MZ,rfl⟩:=cP hy;exact e.reP (by simp only[AV.aW,alK] at hc;exact hc y0 (alF MZ)) (hr j y0 u MZ hu)
 |dm f cs=>simp[AV.aW] at hc
 |fa r n i z=>simp[AV.aW] at hc
 |top=>exact .top v
 |ae u=>cases h;exact .ae _
 |fn u=>cases h with|fn _ h1=>exact .fn _ h1
 |sl els=>cases h with
  |lL a=>exact .lL a
  |sl size els b o c f hc hm hl aE hr=>exact .sl size els b o c f hc hm hl aE hr
 |clip els=>cases h with
  |jv a=>exact .jv a
  |clip size els b o f hm hl aE hr=>exact .clip size els b o f hm hl aE hr
 |aS y off=>cases h with|aS _ _ b o f aE hr=>exact .aS y off b o f aE hr
 |eG es=>cases h with|eG b en c h1 h2 _ hl=>exact .eG b en c h1 h2 _ hl
theorem vM.JJ (e:vM g η hp lB H) {x:AV} {v:Value} (hc:x.dp hp.length=true) (h:bm w F lB H (Ea g x) v):bm w F η hp x v:=by
 cases x with
 |agg cs=>
  cases h with
  |agg _ vs hl h1 hr=>
   refine .agg cs vs (by simpa using hl) h1 fun j y u hy hu=>e.zg (by simp only[AV.dp,alK] at hc;exact hc y (alF hy)) (hr j _ u (by rw[alM,hy];rfl) hu)
 |_=>exact e.zg hc h
theorem vM.reV (e:vM g η hp lB H) {x:AV} {v:Value} (hc:x.dp hp.length=true) (h:bm w F η hp x v):bm w F lB H (Ea g x) v:=by
 cases x with
 |agg cs=>
  cases h with
  |agg _ vs hl h1 hr=>
   refine .agg _ vs (by simpa using hl) h1 fun j y u hy hu=>?_;obtain⟨z,hz,rfl⟩:=cP hy;exact e.reC (by simp only[AV.dp,alK] at hc;exact hc z (alF hz)) (hr j z u hz hu)
 |_=>first|exact e.reC (x:=.top) hc h|(refine Eq.mpr ?_ (e.reC ?_ h)<;>first|rfl|exact hc)
theorem vM.un (e:vM g η hp lB H) {x:AV} {v:Value} (hc:x.closed hp.length=true) (h:bm w F lB H (qR g x) v):bm w F η hp x v:=by
 cases x with
 |aL cs=>
  cases h with
  |aL _ vs hl hr=>exact .aL cs vs (by simpa using hl) fun j y u hy hu=>e.JJ (by simp only[AV.closed,alK] at hc;exact hc y (alF hy)) (hr j _ u (by rw[alM,hy];rfl) hu)
 |aY f cs=>
  cases h with
  |aY _ _ vs hl hr=>exact .aY f cs vs (by simpa using hl) fun j y u hy hu=>e.JJ (by simp only[AV.closed,alK] at hc;exact hc y (alF hy)) (hr j _ u (by rw[alM,hy];rfl) hu)
 |dm f cs=>
  cases h with
  |dm _ _ vs hl hr=>exact .dm f cs vs (by simpa using hl) fun j y u hy hu=>e.JJ (by simp only[AV.closed,alK] at hc;exact hc y (alF hy)) (hr j _ u (by rw[alM,hy];rfl) hu)
 |_=>exact e.JJ hc h
theorem vM.re (e:vM g η hp lB H) {x:AV} {v:Value} (hc:x.closed hp.length=true) (h:bm w F η hp x v):bm w F lB H (qR g x) v:=by
 cases x with
 |aL cs=>
  cases h with
  |aL _ vs hl hr=>
   refine .aL _ vs (by simpa using hl) fun j y u hy hu=>?_;obtain⟨z,hz,rfl⟩:=cP hy;exact e.reV (by simp only[AV.closed,alK] at hc;exact hc z (alF hz)) (hr j z u hz hu)
 |aY f cs=>
  cases h with
  |aY _ _ vs hl hr=>
   refine .aY f _ vs (by simpa using hl) fun j y u hy hu=>?_;obtain⟨z,hz,rfl⟩:=cP hy;exact e.reV (by simp only[AV.closed,alK] at hc;exact hc z (alF hz)) (hr j z u hz hu)
 |dm f cs=>
  cases h with
  |dm _ _ vs hl hr=>
   refine .dm f _ vs (by simpa using hl) fun j y u hy hu=>?_;obtain⟨z,hz,rfl⟩:=cP hy;exact e.reV (by simp only[AV.closed,alK] at hc;exact hc z (alF hz)) (hr j z u hz hu)
 |_=>first|exact e.reV (x:=.top) hc h|(refine Eq.mpr ?_ (e.reV ?_ h)<;>first|rfl|exact hc)
theorem vM.unL (e:vM g η hp lB H):∀{xs:List AV} {vs:List Value},xs.all (AV.closed hp.length)=true->bZ w F lB H (xs.map (qR g)) vs->bZ w F η hp xs vs
 | [],[],_,_=>True.intro
 |x::xs,v::vs,hc,h=>by
  rw[amj,alB] at hc;exact⟨e.un hc.1 h.1,e.unL hc.2 h.2⟩
 | [],_::_,_,h=>h.elim
 |_::_,[],_,h=>h.elim
theorem vM.Xf (e:vM g η hp lB H) {o:af} {v:Value} (hc:o.closed hp.length=true) (h:fM w F lB H (iY g o) v):fM w F η hp o v:=by
 cases o with
 |dead=>exact True.intro
 |box cs=>
  obtain⟨b,vs,T,e1,e2,e3,e4⟩:=h;refine⟨b,vs,T,e1,e2,by simpa using e3,fun j x u hx hu=>?_⟩;have h5:=e4 j (vL g x) u (by rw[alM,hx];rfl) hu;exact⟨e.zg (alK.1 hc x (alF hx)) h5.1,h5.2⟩
 |row z size els=>exact h
 |aJ es=>exact h
 |cU q k=>
  obtain⟨b,vs,e1,e2,e3,e4,u,e5,e6⟩:=h;exact⟨b,vs,e1,e2,e3,e4,u,e5,e.zg (x:=.own q k) (by simpa [AV.aW,af.closed] using hc) e6⟩
 |aQ z size els=>exact h
 |dN z m ns=>exact h
theorem vM.reO (e:vM g η hp lB H) {o:af} {v:Value} (hc:o.closed hp.length=true) (h:fM w F η hp o v):fM w F lB H (iY g o) v:=by
 cases o with
 |dead=>exact True.intro
 |box cs=>
  obtain⟨b,vs,T,e1,e2,e3,e4⟩:=h;refine⟨b,vs,T,e1,e2,by simpa using e3,fun j x u hx hu=>?_⟩;obtain⟨z,hz,rfl⟩:=cP hx;have h5:=e4 j z u hz hu;exact⟨e.reC (alK.1 hc z (alF hz)) h5.1,h5.2⟩
 |row z size els=>exact h
 |aJ es=>exact h
 |cU q k=>
  obtain⟨b,vs,e1,e2,e3,e4,u,e5,e6⟩:=h;exact⟨b,vs,e1,e2,e3,e4,u,e5,e.reC (x:=.own q k) (by simpa [AV.aW,af.closed] using hc) e6⟩
 |aQ z size els=>exact h
 |dN z m ns=>exact h
def uL (g:Nat->Nat) (j:Nat):Nat->Option Nat
 |0=>none
 |k+1=>(match Nat.beq (g k) j with|true=>some k|false=>uL g j k)
theorem ng {j:Nat}:∀{k i:Nat},uL g j k=some i->i<k/\g i=j
 |0,i,h=>by cases h
 |k+1,i,h=>by
  simp only[uL] at h;split at h
  ·rename_i hb;obtain rfl:=alw h;exact⟨by omega,alT hb⟩
  ·obtain⟨h1,h2⟩:=ng h;exact⟨by omega,h2⟩
theorem xi {j:Nat}:∀{k:Nat},uL g j k=none->∀i,i<k->g i≠j
 |0,_,i,hi=>by omega
 |k+1,h,i,hi=>by
  simp only[uL] at h;split at h
  ·cases h
  ·rename_i hb
   by_cases hk:i=k
   ·subst hk;intro hj;rw[hj,Nat.beq_refl] at hb;cases hb
   ·exact xi h i (by omega)
def putAt {α:Type} (g:Nat->Nat) (l L:List α) (d:α) (j:Nat):α:=match uL g j l.length with
 |some i=>l.getD i d
 |none=>L.getD j d
def nh:Nat->Nat->List Nat
 |_,0=>[]
 |k,m+1=>k::nh (k+1) m
def Eb {α:Type} (g:Nat->Nat) (l L:List α) (d:α) (m:Nat):List α:=(nh 0 m).map (putAt g l L d)
theorem oO:∀(m k:Nat),(nh k m).length=m
 |0,_=>rfl
 |m+1,k=>by rw[nh,alJ,oO m]
theorem oP:∀(m k j:Nat),j<m->(nh k m)[j]?=some (k+j)
 |0,_,_,h=>by omega
 |m+1,k,0,_=>rfl
 |m+1,k,j+1,h=>by rw[nh,al5,oP m (k+1) j (by omega)];congr 1;omega
theorem rY {α:Type} {l L:List α} {d:α} {m:Nat}:(Eb g l L d m).length=m:=by rw[Eb,alv,oO]
theorem xj {α:Type} {l L:List α} {d:α} {m j:Nat} (h:j<m):(Eb g l L d m)[j]?=some (putAt g l L d j):=by
 rw[Eb,alM,oP m 0 j h,al7,al2]
def iZ (g:Nat->Nat) (n:Nat) (hp' H:List af):List af:=Eb g (hp'.map (iY g)) H .dead (H.length+(hp'.length-n))
theorem bH.aaC {f:FuncId} {args:List AV} {R:AV->List af->Prop} (h:bH P f args hp R) (lP:∀(i:Nat) (o:af),hp[i]?=some o->H[g i]?=some (iY g o))
  (aaD:∀i i',i<hp.length->i' < hp.length->g i=g i'->i=i') (oN:∀i,hp.length<=i->g i=H.length+(i-hp.length))
  (aF:args.all (AV.closed hp.length)=true) (dx:hp.all (af.closed hp.length)=true)
  (hR:∀r hp',R r hp'->hp.length<=hp'.length/\r.closed hp'.length=true/\hp'.all (af.closed hp'.length)=true):
  bH P f (args.map (qR g)) H (fun r2 H2=>∃r hp',R r hp'/\r2=qR g r/\H2=iZ g hp.length hp' H):=by
 refine⟨h.1,fun w F lB bb aR hv=>?_⟩;have hlen:lB.length=H.length:=aR.heap.len;have hgH:∀i,i<hp.length->g i<H.length:=fun i hi=>(alu.1 (lP i _ (aly hi))).1
 let η:List Value:=(nh 0 hp.length).map fun i=>lB.getD (g i) undef
 have aaE:η.length=hp.length:=by simp[η,oO]
 have dR:∀i,i<hp.length->η[i]?=lB[g i]?:=by
  intro i hi;have ak:g i<lB.length:=by rw[hlen];exact hgH i hi
  simp only[η,alM,oP _ _ _ hi,al7,al2];rw[aly ak];simp[List.getD,ak]
 have fK:vM g η hp lB H:=⟨lP,dR⟩;have oL:∀b,aG η hp b->aG lB H b:=by
  intro b ⟨r,o,v,h1,h2,h3,h4⟩;have ak:r<hp.length:=(alu.1 h1).1;exact⟨g r,iY g o,v,lP r o h1,dH.2 h2,by rw[<-dR r ak];exact h3,h4⟩
 have NI:∀b o,iR lB H b o->iR η hp b o:=by
  intro b o hf;refine(aU b o).2 fun r v hr hb=>?_;have ak:r<hp.length:=by rw[<-aaE];exact(alu.1 hr).1
  obtain⟨o1,q1,q2⟩:=(aU b o).1 hf (g r) v (by rw[<-dR r ak];exact hr) hb;rw[lP r _ (aly ak)] at q1;obtain rfl:=alw q1;exact⟨_,aly ak,tQ.1 q2⟩
 have NJ:kE w F η hp:=by
  refine⟨fun b o hb=>⟨(aR.bg b o hb).1,NI b o (aR.bg b o hb).2⟩,⟨aaE,fun r o v h1 h2=>?_,fun r r' o o' v v' b bu h1 h2 l1 l2 e1 e2 hb=>?_⟩,fun b hb=>aR.live b (oL b hb),aR.gL,fun b hb hl=>aR.gx b hb (oL b hl)⟩
  ·have ak:r<hp.length:=(alu.1 h1).1;exact fK.Xf (alK.1 dx o (alF h1)) (aR.heap.obj (g r) _ v (lP r o h1) (by rw[<-dR r ak];exact h2))
  ·have q1:r<hp.length:=(alu.1 h1).1;have q2:r' < hp.length:=(alu.1 h2).1;exact aR.heap.sep (g r) (g r') _ _ v v' b (fun he=>bu (aaD r r' q1 q2 he)) (lP r o h1) (lP r' o' h2) (dH.2 l1) (dH.2 l2) (by rw[<-dR r q1];exact e1) (by rw[<-dR r' q2];exact e2) hb
 refine(h.2 w F η bb NJ (fK.unL aF hv)).mono fun e w' ⟨v,r,hp',aN,he,hRr,bf⟩=>?_;obtain⟨hle,Dx,hoc⟩:=hR r hp' hRr;have Xg:aN.length=hp'.length:=bf.heap.len
 let m:=H.length+(hp'.length-hp.length)
 let jQ:List Value:=Eb g aN lB undef m
 have aeZ:∀i i',i<hp'.length->i' < hp'.length->g i=g i'->i=i':=by
  intro i i' h1 h2 he
  by_cases q1:i<hp.length
  ·by_cases q2:i' < hp.length
   ·exact aaD i i' q1 q2 he
   ·have:=hgH i q1;have:=oN i' (by omega);omega
  ·by_cases q2:i' < hp.length
   ·have:=hgH i' q2;have:=oN i (by omega);omega
   ·have:=oN i (by omega);have:=oN i' (by omega);omega
 have hgm:∀i,i<hp'.length->g i<m:=by
  intro i hi
  by_cases q:i<hp.length
  ·have:=hgH i q;simp only[m];omega
  ·have:=oN i (by omega);simp only[m];omega
 have at1:∀{α:Type} {l L:List α} {d:α} {i:Nat},l.length=hp'.length->i<hp'.length->(Eb g l L d m)[g i]?=l[i]?:=by
  intro α l L d i hl hi;rw[xj (hgm i hi),putAt]
  cases hf:uL g (g i) l.length with
  |none=>exact(xi hf i (by omega) rfl).elim
  |some i'=>
   obtain⟨q1,q2⟩:=ng hf;have:=aeZ i' i (by omega) hi q2;subst this;rw[aly (by omega)];simp[List.getD,show i' < l.length by omega]
 have at2:∀{α:Type} {l L:List α} {d:α} {j:Nat},l.length=hp'.length->L.length=H.length->(∀i,i<hp'.length->g i≠j)->(Eb g l L d m)[j]?=L[j]?:=by
  intro α l L d j hl hL hj
  by_cases hm:j<m
  ·have hjH:j<H.length:=by
    refine Nat.lt_of_not_le fun tB=>hj (hp.length+(j-H.length)) (by simp only[m] at hm;omega) ?_;rw[oN _ (by omega)];omega
   rw[xj hm,putAt]
   cases hf:uL g j l.length with
   |none=>simp only;rw[aly (by omega)];simp[List.getD,show j<L.length by omega]
   |some i'=>obtain⟨q1,q2⟩:=ng hf;exact(hj i' (by omega) q2).elim
  ·rw[al0 (by rw[rY];omega),al0 (by simp only[m] at hm;omega)]
 have o1:∀i o,hp'[i]?=some o->(iZ g hp.length hp' H)[g i]?=some (iY g o):=by
  intro i o ho;rw[iZ];have:=at1 (l:=hp'.map (iY g)) (L:=H) (d:=.dead) (i:=i) (by simp) (alu.1 ho).1;rw[this,alM,ho];rfl
 have v1:∀i,i<hp'.length->aN[i]?=jQ[g i]?:=fun i hi=>(at1 (l:=aN) (L:=lB) (d:=undef) Xg hi).symm;have o2:∀j,(∀i,i<hp'.length->g i≠j)->(iZ g hp.length hp' H)[j]?=H[j]?:=fun j hj=>at2 (l:=hp'.map (iY g)) (by simp) rfl hj;have v2:∀j,(∀i,i<hp'.length->g i≠j)->jQ[j]?=lB[j]?:=fun j hj=>at2 (l:=aN) Xg hlen hj;have aaF:vM g aN hp' jQ (iZ g hp.length hp' H):=⟨o1,v1⟩;have image:∀j,(∃i,i<hp'.length/\g i=j)\/∀i,i<hp'.length->g i≠j:=by
  intro j
  by_cases hj:∃i,i<hp'.length/\g i=j
  ·exact .inl hj
  ·exact .inr fun i hi he=>hj ⟨i,hi,he⟩
 have apart:∀{j:Nat} {o:af} {u:Value} {b:Nat},(∀i,i<hp'.length->g i≠j)->H[j]?=some o->o.live->lB[j]?=some u->ct u=some b->b<w.heap.size/\¬aG η hp b:=by
  intro j o u b hj h1 h2 h3 h4;refine⟨aR.live b ⟨j,o,u,h1,h2,h3,h4⟩,fun⟨r1,p1,z1,g1,g2,g3,g4⟩=>?_⟩;have ak:r1<hp.length:=(alu.1 g1).1;exact aR.heap.sep (g r1) j _ o z1 u b (hj r1 (by omega)) (lP r1 p1 g1) h1 (dH.2 g2) h2 (by rw[<-dR r1 ak];exact g3) h3 g4 h4
 have DZ:∀b o,bO F w η hp w' aN hp' b o->bO F w lB H w' jQ (iZ g hp.length hp' H) b o:=by
  intro b o ⟨h1,h2,h3⟩;refine⟨h1.imp id (Or.imp id (oL b)),h2,(aU b o).2 fun j u hr hb=>?_⟩;rcases image j with⟨i,hi,rfl⟩|hj
  ·rw[<-v1 i hi] at hr;obtain⟨p1,q1,q2⟩:=(aU b o).1 h3 i u hr hb;exact⟨_,o1 i p1 q1,tQ.2 q2⟩
  ·rw[v2 j hj] at hr;rw[o2 j hj];have qm:j<H.length:=by rw[<-hlen];exact(alu.1 hr).1
   have ho:H[j]?=some H[j]:=aly qm;refine⟨H[j],ho,?_⟩;have key:H[j].live->F b o:=by
    intro hl;have ha:=apart hj ho hl hr hb;rcases h1 with h1|h1|h1
    ·exact h1
    ·omega
    ·exact(ha.2 h1).elim
   cases hk:H[j] with
   |dead=>exact True.intro
   |_=>
    rw[hk] at key ho;obtain⟨p1,q1,q2⟩:=(aU b o).1 (aR.bg b o (key True.intro)).2 j u hr hb;rw[ho] at q1;obtain rfl:=alw q1;exact q2
 have eA:∀{jP:List Value} {fG:List af},Ext w' (bO F w η hp w' aN hp') jP fG w' (bO F w lB H w' jQ (iZ g hp.length hp' H)) jP fG:=⟨fun _ _ _ _ h=>h,fun _ _ _ _ h=>h,DZ,fun _ _ h=>h,fun _ _ h=>h,fun _ _ _ h=>h⟩;have old:∀{i j:Nat},i<hp'.length->g i=j->j<H.length->i<hp.length:=by
  intro i j hi he hj;refine Nat.lt_of_not_le fun tB=>?_;have:=oN i tB;omega
 have cA:Ext w F lB H w' (bO F w lB H w' jQ (iZ g hp.length hp' H)) jQ (iZ g hp.length hp' H):=by
  refine⟨fun b o u hf hc=>bf.ext.cell b o u hf hc,fun b es c hf hc=>bf.ext.ir b es c hf hc,fun b o hf=>DZ b o (bf.ext.bg b o hf),fun j a hr=>?_,fun j a hr=>?_,fun j k u ho=>?_⟩
  ·have qm:j<H.length:=by rw[<-hlen];exact(alu.1 hr).1
   rcases image j with⟨i,hi,rfl⟩|hj
   ·have l5:=old hi rfl qm;rw[<-v1 i hi];exact bf.ext.ptr i a (by rw[dR i l5];exact hr)
   ·rw[v2 j hj];exact hr
  ·have qm:j<H.length:=by rw[<-hlen];exact(alu.1 hr).1
   rcases image j with⟨i,hi,rfl⟩|hj
   ·have l5:=old hi rfl qm;rw[<-v1 i hi];exact bf.ext.mp i a (by rw[dR i l5];exact hr)
   ·rw[v2 j hj];exact hr
  ·have qm:j<H.length:=by
    unfold aT at ho;refine Nat.lt_of_not_le fun tB=>?_;rw[al0 tB] at ho;exact ho
   rcases image j with⟨i,hi,rfl⟩|hj
   ·have l5:=old hi rfl qm;have h1:aT η hp i k u:=(rX (aly l5) (lP i _ (aly l5)) (dR i l5)).2 ho;have h2:=bf.ext.own i k u h1;exact(rX (aly hi) (o1 i _ (aly hi)) (v1 i hi)).1 h2
   ·unfold aT at ho ⊢;rw[v2 j hj,o2 j hj];exact ho
 refine⟨v,qR g r,iZ g hp.length hp' H,jQ,he,⟨r,hp',hRr,rfl,rfl⟩,?_⟩;refine⟨⟨bf.keeps.os,bf.keeps.tape,bf.keeps.output,bf.keeps.size,fun k hk hx=>bf.keeps.block k hk fun hl=>hx (oL k hl)⟩,cA,⟨by rw[iZ,rY,rY],fun j o u h1 h2=>?_,fun j j' p1 p2 z1 z2 b bu h1 h2 l1 l2 e1 e2 hb eF=>?_⟩,fun b ⟨j,o,u,h1,h2,h3,h4⟩=>?_,(aaF.re Dx bf.rep).ext eA⟩
 ·rcases image j with⟨i,hi,rfl⟩|hj
  ·rw[o1 i _ (aly hi)] at h1;obtain rfl:=alw h1;rw[<-v1 i hi] at h2;exact(aaF.reO (alK.1 hoc _ (alG hi)) (bf.heap.obj i _ u (aly hi) h2)).ext eA (alA _) fun _ _ _=>rfl
  ·rw[o2 j hj] at h1;rw[v2 j hj] at h2
   by_cases hl:o.live
   ·exact(aR.heap.obj j o u h1 h2).ext cA bf.keeps.size fun b hb Yk=>bf.keeps.block b Yk (apart hj h1 hl h2 hb).2
   ·cases o<;>first|exact True.intro|exact(hl True.intro).elim
 ·have D3:∀{i j:Nat} {p1 p2:af} {z1 z2:Value},i<hp'.length->(∀i,i<hp'.length->g i≠j)->hp'[i]?=some p1->H[j]?=some p2->p1.live->p2.live->aN[i]?=some z1->lB[j]?=some z2->ct z1=some b->ct z2=some b->False:=by
   intro i j p1 p2 z1 z2 hi hj h1 h2 l1 l2 e1 e2 hb eF;have ha:=apart hj h2 l2 e2 eF;rcases bf.bM b ⟨i,p1,z1,h1,l1,e1,hb⟩ with h5|h5
   ·omega
   ·exact ha.2 h5
  rcases image j with⟨i,hi,rfl⟩|hj
  ·rw[o1 i _ (aly hi)] at h1;obtain rfl:=alw h1;rw[<-v1 i hi] at e1;rcases image j' with⟨i',qu,rfl⟩|rB
   ·rw[o1 i' _ (aly qu)] at h2;obtain rfl:=alw h2;rw[<-v1 i' qu] at e2;exact bf.heap.sep i i' _ _ z1 z2 b (fun he=>bu (by rw[he])) (aly hi) (aly qu) (dH.1 l1) (dH.1 l2) e1 e2 hb eF
   ·rw[o2 j' rB] at h2;rw[v2 j' rB] at e2;exact D3 hi rB (aly hi) h2 (dH.1 l1) l2 e1 e2 hb eF
  ·rw[o2 j hj] at h1;rw[v2 j hj] at e1;rcases image j' with⟨i',qu,rfl⟩|rB
   ·rw[o1 i' _ (aly qu)] at h2;obtain rfl:=alw h2;rw[<-v1 i' qu] at e2;exact D3 qu hj (aly qu) h1 (dH.1 l2) l1 e2 e1 eF hb
   ·rw[o2 j' rB] at h2;rw[v2 j' rB] at e2;exact aR.heap.sep j j' p1 p2 z1 z2 b bu h1 h2 l1 l2 e1 e2 hb eF
 ·rcases image j with⟨i,hi,rfl⟩|hj
  ·rw[o1 i _ (aly hi)] at h1;obtain rfl:=alw h1;rw[<-v1 i hi] at h3;exact(bf.bM b ⟨i,_,u,aly hi,dH.1 h2,h3,h4⟩).imp id (oL b)
  ·rw[o2 j hj] at h1;rw[v2 j hj] at h3;exact .inr ⟨j,o,u,h1,h2,h3,h4⟩
end Go.Proofs.YtdcikhleahfknaaGreatDoor
