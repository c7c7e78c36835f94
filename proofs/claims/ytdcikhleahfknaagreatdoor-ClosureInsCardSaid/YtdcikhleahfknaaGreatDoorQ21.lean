/- Texts of ours laid together for a claim: VcP. -/
import Derived.Test.YtdcikhleahfknaaGreatDoorQ20
namespace Go.Proofs.YtdcikhleahfknaaGreatDoor
open Go
set_option linter.unusedSimpArgs false
set_option linter.unusedVariables false
variable {P:Program} {w w':World} {F F':Nat→Nat→Prop} {η aH jX:List Value} {hp hp' H:List af} {g:Nat→Nat}
def JS (g:Nat→Nat):AV→AV
 | .ptr r o=>.ptr (g r) o
 |x=>x
def te (g:Nat→Nat):AV→AV
 | .own r n=>.own (g r) n
 | .ptr r o=>.ptr (g r) o
 | .mp r=>.mp (g r)
 | .aK f cs=>.aK f (cs.map (JS g))
 |x=>x
def Bh (g:Nat→Nat):AV→AV
 | .agg cs=>.agg (cs.map (te g))
 |x=>te g x
def o5 (g:Nat→Nat):AV→AV
 | .aX vs=>.aX (vs.map (Bh g))
 | .aK f cs=>.aK f (cs.map (Bh g))
 | .cK f cs=>.cK f (cs.map (Bh g))
 |x=>Bh g x
def gW (g:Nat→Nat):af→af
 | .box cs=>.box (cs.map (te g))
 | .cA r n=>.cA (g r) n
 |o=>o
theorem dt {o:af}:(gW g o).live↔o.live:=by cases o<;>exact Iff.rfl
theorem rl {o:af} {k:Nat}:(gW g o).bb k↔o.bb k:=by cases o<;>exact Iff.rfl
theorem pZ {r j n:Nat} {v:Value} {o:af} (h1:hp[r]?=some o) (h2:H[j]?=some (gW g o)) (h3:η[r]?=jX[j]?):aT η hp r n v↔aT jX H j n v:=by
 unfold aT
 rw[h1,h2,h3]
 cases o<;>exact Iff.rfl
structure th (g:Nat→Nat) (η:List Value) (hp:List af) (jX:List Value) (H:List af):Prop where
 obj:∀(i:Nat) (o:af),hp[i]?=some o→H[g i]?=some (gW g o)
 val:∀(i:Nat),i<hp.length→η[i]?=jX[g i]?
theorem th.R2 (e:th g η hp jX H) {x:AV} {v:Value} (hc:x.dJ hp.length=true) (h:aY w F jX H (JS g x) v):aY w F η hp x v:=by
 cases x with
 |ptr r o=>
  have hr:r<hp.length:=by simpa [AV.dJ] using hc
  cases h with
  |ptr _ _ b h1=>exact .ptr r o b (by rw[e.val r hr];exact h1)
 |ae u=>cases h;exact .ae _
 |aL y off=>cases h with|aL _ _ b o f ay hr=>exact .aL y off b o f ay hr
 |_=>simp[AV.dJ] at hc
theorem th.reP (e:th g η hp jX H) {x:AV} {v:Value} (hc:x.dJ hp.length=true) (h:aY w F η hp x v):aY w F jX H (JS g x) v:=by
 cases x with
 |ptr r o=>
  have hr:r<hp.length:=by simpa [AV.dJ] using hc
  cases h with
  |ptr _ _ b h1=>exact .ptr (g r) o b (by rw[←e.val r hr];exact h1)
 |ae u=>cases h;exact .ae _
 |aL y off=>cases h with|aL _ _ b o f ay hr=>exact .aL y off b o f ay hr
 |_=>simp[AV.dJ] at hc
theorem cu {α β:Type} {f:α→β} {l:List α} {j:Nat} {y:β} (h:(l.map f)[j]?=some y):∃x,l[j]?=some x∧y=f x:=by
 rw[List.getElem?_map] at h
 cases hj:l[j]? with
 |none=>rw[hj] at h;cases h
 |some x=>rw[hj] at h;exact⟨x,rfl,(Option.some.inj h).symm⟩
theorem th.wm (e:th g η hp jX H) {x:AV} {v:Value} (hc:x.aM hp.length=true) (h:aY w F jX H (te g x) v):aY w F η hp x v:=by
 cases x with
 |own r m=>
  have hr:r<hp.length:=by simpa [AV.aM] using hc
  cases h with
  |own _ _ _ h1 h2=>exact .own r m v h1 ((pZ (List.getElem?_eq_getElem hr) (e.obj r _ (List.getElem?_eq_getElem hr)) (e.val r hr)).2 h2)
 |ptr r o=>
  have hr:r<hp.length:=by simpa [AV.aM] using hc
  cases h with
  |ptr _ _ b h1=>exact .ptr r o b (by rw[e.val r hr];exact h1)
 |mp r=>
  have hr:r<hp.length:=by simpa [AV.aM] using hc
  cases h with
  |mp _ b h1=>exact .mp r b (by rw[e.val r hr];exact h1)
 |agg cs=>simp[AV.aM] at hc
 |aX cs=>simp[AV.aM] at hc
 |aK f cs=>
  cases h with
  |aK _ _ vs hl hr=>exact .aK f cs vs (by simpa using hl) fun j y u hy hu=>e.R2 (by simp only[AV.aM,List.all_eq_true] at hc;exact hc y (List.mem_of_getElem? hy)) (hr j _ u (by rw[List.getElem?_map,hy];rfl) hu)
 |cK f cs=>simp[AV.aM] at hc
 |eH r n i z=>simp[AV.aM] at hc
 |top=>exact .top v
 |ae u=>cases h;exact .ae _
 |fn u=>cases h with|fn _ h1=>exact .fn _ h1
 |sl els=>cases h with
  |ki a=>exact .ki a
  |sl size els b o c f hc hm hl ay hr=>exact .sl size els b o c f hc hm hl ay hr
 |clip els=>cases h with
  |iB a=>exact .iB a
  |clip size els b o f hm hl ay hr=>exact .clip size els b o f hm hl ay hr
 |aL y off=>cases h with|aL _ _ b o f ay hr=>exact .aL y off b o f ay hr
 |ea es=>cases h with|ea b en c h1 h2 _ hl=>exact .ea b en c h1 h2 _ hl
theorem th.Uh (e:th g η hp jX H) {x:AV} {v:Value} (hc:x.aM hp.length=true) (h:aY w F η hp x v):aY w F jX H (te g x) v:=by
 cases x with
 |own r m=>
  have hr:r<hp.length:=by simpa [AV.aM] using hc
  cases h with
  |own _ _ _ h1 h2=>exact .own (g r) m v h1 ((pZ (List.getElem?_eq_getElem hr) (e.obj r _ (List.getElem?_eq_getElem hr)) (e.val r hr)).1 h2)
 |ptr r o=>
  have hr:r<hp.length:=by simpa [AV.aM] using hc
  cases h with
  |ptr _ _ b h1=>exact .ptr (g r) o b (by rw[←e.val r hr];exact h1)
 |mp r=>
  have hr:r<hp.length:=by simpa [AV.aM] using hc
  cases h with
  |mp _ b h1=>exact .mp (g r) b (by rw[←e.val r hr];exact h1)
 |agg cs=>simp[AV.aM] at hc
 |aX cs=>simp[AV.aM] at hc
 |aK f cs=>
  cases h with
  |aK _ _ vs hl hr=>
   exact .aK f _ vs (by simpa using hl) fun j y u hy hu=>by
    obtain⟨y0,M9,rfl⟩:=cu hy
    exact e.reP (by simp only[AV.aM,List.all_eq_true] at hc;exact hc y0 (List.mem_of_getElem? M9)) (hr j y0 u M9 hu)
 |cK f cs=>simp[AV.aM] at hc
 |eH r n i z=>simp[AV.aM] at hc
 |top=>exact .top v
 |ae u=>cases h;exact .ae _
 |fn u=>cases h with|fn _ h1=>exact .fn _ h1
 |sl els=>cases h with
  |ki a=>exact .ki a
  |sl size els b o c f hc hm hl ay hr=>exact .sl size els b o c f hc hm hl ay hr
 |clip els=>cases h with
  |iB a=>exact .iB a
  |clip size els b o f hm hl ay hr=>exact .clip size els b o f hm hl ay hr
 |aL y off=>cases h with|aL _ _ b o f ay hr=>exact .aL y off b o f ay hr
 |ea es=>cases h with|ea b en c h1 h2 _ hl=>exact .ea b en c h1 h2 _ hl
theorem th.FL (e:th g η hp jX H) {x:AV} {v:Value} (hc:x.cL hp.length=true) (h:aY w F jX H (Bh g x) v):aY w F η hp x v:=by
 cases x with
 |agg cs=>
  cases h with
  |agg _ vs hl h1 hr=>
   refine .agg cs vs (by simpa using hl) h1 fun j y u hy hu=>e.wm (by simp only[AV.cL,List.all_eq_true] at hc;exact hc y (List.mem_of_getElem? hy)) (hr j _ u (by rw[List.getElem?_map,hy];rfl) hu)
 |_=>exact e.wm hc h
theorem th.Ui (e:th g η hp jX H) {x:AV} {v:Value} (hc:x.cL hp.length=true) (h:aY w F η hp x v):aY w F jX H (Bh g x) v:=by
 cases x with
 |agg cs=>
  cases h with
  |agg _ vs hl h1 hr=>
   refine .agg _ vs (by simpa using hl) h1 fun j y u hy hu=>?_
   obtain⟨z,hz,rfl⟩:=cu hy
   exact e.Uh (by simp only[AV.cL,List.all_eq_true] at hc;exact hc z (List.mem_of_getElem? hz)) (hr j z u hz hu)
 |_=>first|exact e.Uh (x:=.top) hc h|(refine Eq.mpr ?_ (e.Uh ?_ h)<;>first|rfl|exact hc)
theorem th.un (e:th g η hp jX H) {x:AV} {v:Value} (hc:x.closed hp.length=true) (h:aY w F jX H (o5 g x) v):aY w F η hp x v:=by
 cases x with
 |aX cs=>
  cases h with
  |aX _ vs hl hr=>exact .aX cs vs (by simpa using hl) fun j y u hy hu=>e.FL (by simp only[AV.closed,List.all_eq_true] at hc;exact hc y (List.mem_of_getElem? hy)) (hr j _ u (by rw[List.getElem?_map,hy];rfl) hu)
 |aK f cs=>
  cases h with
  |aK _ _ vs hl hr=>exact .aK f cs vs (by simpa using hl) fun j y u hy hu=>e.FL (by simp only[AV.closed,List.all_eq_true] at hc;exact hc y (List.mem_of_getElem? hy)) (hr j _ u (by rw[List.getElem?_map,hy];rfl) hu)
 |cK f cs=>
  cases h with
  |cK _ _ vs hl hr=>exact .cK f cs vs (by simpa using hl) fun j y u hy hu=>e.FL (by simp only[AV.closed,List.all_eq_true] at hc;exact hc y (List.mem_of_getElem? hy)) (hr j _ u (by rw[List.getElem?_map,hy];rfl) hu)
 |_=>exact e.FL hc h
theorem th.re (e:th g η hp jX H) {x:AV} {v:Value} (hc:x.closed hp.length=true) (h:aY w F η hp x v):aY w F jX H (o5 g x) v:=by
 cases x with
 |aX cs=>
  cases h with
  |aX _ vs hl hr=>
   refine .aX _ vs (by simpa using hl) fun j y u hy hu=>?_
   obtain⟨z,hz,rfl⟩:=cu hy
   exact e.Ui (by simp only[AV.closed,List.all_eq_true] at hc;exact hc z (List.mem_of_getElem? hz)) (hr j z u hz hu)
 |aK f cs=>
  cases h with
  |aK _ _ vs hl hr=>
   refine .aK f _ vs (by simpa using hl) fun j y u hy hu=>?_
   obtain⟨z,hz,rfl⟩:=cu hy
   exact e.Ui (by simp only[AV.closed,List.all_eq_true] at hc;exact hc z (List.mem_of_getElem? hz)) (hr j z u hz hu)
 |cK f cs=>
  cases h with
  |cK _ _ vs hl hr=>
   refine .cK f _ vs (by simpa using hl) fun j y u hy hu=>?_
   obtain⟨z,hz,rfl⟩:=cu hy
   exact e.Ui (by simp only[AV.closed,List.all_eq_true] at hc;exact hc z (List.mem_of_getElem? hz)) (hr j z u hz hu)
 |_=>first|exact e.Ui (x:=.top) hc h|(refine Eq.mpr ?_ (e.Ui ?_ h)<;>first|rfl|exact hc)
theorem th.unL (e:th g η hp jX H):∀{xs:List AV} {vs:List Value},xs.all (AV.closed hp.length)=true→bM w F jX H (xs.map (o5 g)) vs→bM w F η hp xs vs
 | [],[],_,_=>True.intro
 |x::xs,v::vs,hc,h=>by
  rw[List.all_cons,Bool.and_eq_true] at hc
  exact⟨e.un hc.1 h.1,e.unL hc.2 h.2⟩
 | [],_::_,_,h=>h.elim
 |_::_,[],_,h=>h.elim
theorem th.QT (e:th g η hp jX H) {o:af} {v:Value} (hc:o.closed hp.length=true) (h:fL w F jX H (gW g o) v):fL w F η hp o v:=by
 cases o with
 |dead=>exact True.intro
 |box cs=>
  obtain⟨b,vs,T,e1,e2,e3,e4⟩:=h
  refine⟨b,vs,T,e1,e2,by simpa using e3,fun j x u hx hu=>?_⟩
  have h5:=e4 j (te g x) u (by rw[List.getElem?_map,hx];rfl) hu
  exact⟨e.wm (List.all_eq_true.1 hc x (List.mem_of_getElem? hx)) h5.1,h5.2⟩
 |row z size els=>exact h
 |aB es=>exact h
 |cA q k=>
  obtain⟨b,vs,e1,e2,e3,e4,u,e5,e6⟩:=h
  exact⟨b,vs,e1,e2,e3,e4,u,e5,e.wm (x:=.own q k) (by simpa [AV.aM,af.closed] using hc) e6⟩
 |aI z size els=>exact h
 |dB z m ns=>exact h
theorem th.reO (e:th g η hp jX H) {o:af} {v:Value} (hc:o.closed hp.length=true) (h:fL w F η hp o v):fL w F jX H (gW g o) v:=by
 cases o with
 |dead=>exact True.intro
 |box cs=>
  obtain⟨b,vs,T,e1,e2,e3,e4⟩:=h
  refine⟨b,vs,T,e1,e2,by simpa using e3,fun j x u hx hu=>?_⟩
  obtain⟨z,hz,rfl⟩:=cu hx
  have h5:=e4 j z u hz hu
  exact⟨e.Uh (List.all_eq_true.1 hc z (List.mem_of_getElem? hz)) h5.1,h5.2⟩
 |row z size els=>exact h
 |aB es=>exact h
 |cA q k=>
  obtain⟨b,vs,e1,e2,e3,e4,u,e5,e6⟩:=h
  exact⟨b,vs,e1,e2,e3,e4,u,e5,e.Uh (x:=.own q k) (by simpa [AV.aM,af.closed] using hc) e6⟩
 |aI z size els=>exact h
 |dB z m ns=>exact h
def r5 (g:Nat→Nat) (j:Nat):Nat→Option Nat
 |0=>none
 |k+1=>(match Nat.beq (g k) j with|true=>some k|false=>r5 g j k)
theorem lL {j:Nat}:∀{k i:Nat},r5 g j k=some i→i<k∧g i=j
 |0,i,h=>by cases h
 |k+1,i,h=>by
  simp only[r5] at h
  split at h
  ·rename_i hb
   obtain rfl:=Option.some.inj h
   exact⟨by omega,Nat.eq_of_beq_eq_true hb⟩
  ·obtain⟨h1,h2⟩:=lL h
   exact⟨by omega,h2⟩
theorem uI {j:Nat}:∀{k:Nat},r5 g j k=none→∀i,i<k→g i≠j
 |0,_,i,hi=>by omega
 |k+1,h,i,hi=>by
  simp only[r5] at h
  split at h
  ·cases h
  ·rename_i hb
   by_cases hk:i=k
   ·subst hk;intro hj;rw[hj,Nat.beq_refl] at hb;cases hb
   ·exact uI h i (by omega)
def putAt {α:Type} (g:Nat→Nat) (l L:List α) (d:α) (j:Nat):α:=match r5 g j l.length with
 |some i=>l.getD i d
 |none=>L.getD j d
def lM:Nat→Nat→List Nat
 |_,0=>[]
 |k,m+1=>k::lM (k+1) m
def Bi {α:Type} (g:Nat→Nat) (l L:List α) (d:α) (m:Nat):List α:=(lM 0 m).map (putAt g l L d)
theorem nc:∀(m k:Nat),(lM k m).length=m
 |0,_=>rfl
 |m+1,k=>by rw[lM,List.length_cons,nc m]
theorem nf:∀(m k j:Nat),j<m→(lM k m)[j]?=some (k+j)
 |0,_,_,h=>by omega
 |m+1,k,0,_=>rfl
 |m+1,k,j+1,h=>by rw[lM,List.getElem?_cons_succ,nf m (k+1) j (by omega)];congr 1;omega
theorem p6 {α:Type} {l L:List α} {d:α} {m:Nat}:(Bi g l L d m).length=m:=by rw[Bi,List.length_map,nc]
theorem uJ {α:Type} {l L:List α} {d:α} {m j:Nat} (h:j<m):(Bi g l L d m)[j]?=some (putAt g l L d j):=by
 rw[Bi,List.getElem?_map,nf m 0 j h,Option.map_some,Nat.zero_add]
def gX (g:Nat→Nat) (n:Nat) (hp' H:List af):List af:=Bi g (hp'.map (gW g)) H .dead (H.length+(hp'.length-n))
theorem bp.Uj {f:FuncId} {args:List AV} {R:AV→List af→Prop} (h:bp P f args hp R) (kx:∀(i:Nat) (o:af),hp[i]?=some o→H[g i]?=some (gW g o))
  (Uk:∀i i',i<hp.length→i' < hp.length→g i=g i'→i=i') (nb:∀i,hp.length≤i→g i=H.length+(i-hp.length))
  (aw:args.all (AV.closed hp.length)=true) (cS:hp.all (af.closed hp.length)=true)
  (hR:∀r hp',R r hp'→hp.length≤hp'.length∧r.closed hp'.length=true∧hp'.all (af.closed hp'.length)=true):
  bp P f (args.map (o5 g)) H (fun r2 H2=>∃r hp',R r hp'∧r2=o5 g r∧H2=gX g hp.length hp' H):=by
 refine⟨h.1,fun w F jX aU aJ hv=>?_⟩
 have hlen:jX.length=H.length:=aJ.heap.len
 have Xo:∀i,i<hp.length→g i<H.length:=fun i hi=>(List.getElem?_eq_some_iff.1 (kx i _ (List.getElem?_eq_getElem hi))).1
 let η:List Value:=(lM 0 hp.length).map fun i=>jX.getD (g i) undef
 have Ul:η.length=hp.length:=by simp[η,nc]
 have dE:∀i,i<hp.length→η[i]?=jX[g i]?:=by
  intro i hi
  have ak:g i<jX.length:=by rw[hlen];exact Xo i hi
  simp only[η,List.getElem?_map,nf _ _ _ hi,Option.map_some,Nat.zero_add]
  rw[List.getElem?_eq_getElem ak];simp[List.getD,ak]
 have eJ:th g η hp jX H:=⟨kx,dE⟩
 have mZ:∀b,aE η hp b→aE jX H b:=by
  intro b ⟨r,o,v,h1,h2,h3,h4⟩
  have ak:r<hp.length:=(List.getElem?_eq_some_iff.1 h1).1
  exact⟨g r,gW g o,v,kx r o h1,dt.2 h2,by rw[←dE r ak];exact h3,h4⟩
 have Jy:∀b o,gO jX H b o→gO η hp b o:=by
  intro b o hf
  refine(aR b o).2 fun r v hr hb=>?_
  have ak:r<hp.length:=by rw[←Ul];exact(List.getElem?_eq_some_iff.1 hr).1
  obtain⟨o1,q1,q2⟩:=(aR b o).1 hf (g r) v (by rw[←dE r ak];exact hr) hb
  rw[kx r _ (List.getElem?_eq_getElem ak)] at q1
  obtain rfl:=Option.some.inj q1
  exact⟨_,List.getElem?_eq_getElem ak,rl.1 q2⟩
 have Jz:oB w F η hp:=by
  refine⟨fun b o hb=>⟨(aJ.bb b o hb).1,Jy b o (aJ.bb b o hb).2⟩,⟨Ul,fun r o v h1 h2=>?_,fun r r' o o' v v' b bh h1 h2 l1 l2 e1 e2 hb=>?_⟩,fun b hb=>aJ.live b (mZ b hb),aJ.gz,fun b hb hl=>aJ.gx b hb (mZ b hl)⟩
  ·have ak:r<hp.length:=(List.getElem?_eq_some_iff.1 h1).1
   exact eJ.QT (List.all_eq_true.1 cS o (List.mem_of_getElem? h1)) (aJ.heap.obj (g r) _ v (kx r o h1) (by rw[←dE r ak];exact h2))
  ·have q1:r<hp.length:=(List.getElem?_eq_some_iff.1 h1).1
   have q2:r' < hp.length:=(List.getElem?_eq_some_iff.1 h2).1
   exact aJ.heap.sep (g r) (g r') _ _ v v' b (fun he=>bh (Uk r r' q1 q2 he)) (kx r o h1) (kx r' o' h2) (dt.2 l1) (dt.2 l2) (by rw[←dE r q1];exact e1) (by rw[←dE r' q2];exact e2) hb
 refine(h.2 w F η aU Jz (eJ.unL aw hv)).mono fun e w' ⟨v,r,hp',aH,he,T9,bc⟩=>?_
 obtain⟨hle,AD,hoc⟩:=hR r hp' T9
 have QU:aH.length=hp'.length:=bc.heap.len
 let m:=H.length+(hp'.length-hp.length)
 let kq:List Value:=Bi g aH jX undef m
 have Yg:∀i i',i<hp'.length→i' < hp'.length→g i=g i'→i=i':=by
  intro i i' h1 h2 he
  by_cases q1:i<hp.length
  ·by_cases q2:i' < hp.length
   ·exact Uk i i' q1 q2 he
   ·have:=Xo i q1;have:=nb i' (by omega);omega
  ·by_cases q2:i' < hp.length
   ·have:=Xo i' q2;have:=nb i (by omega);omega
   ·have:=nb i (by omega);have:=nb i' (by omega);omega
 have hgm:∀i,i<hp'.length→g i<m:=by
  intro i hi
  by_cases q:i<hp.length
  ·have:=Xo i q;simp only[m];omega
  ·have:=nb i (by omega);simp only[m];omega
 have at1:∀{α:Type} {l L:List α} {d:α} {i:Nat},l.length=hp'.length→i<hp'.length→(Bi g l L d m)[g i]?=l[i]?:=by
  intro α l L d i hl hi
  rw[uJ (hgm i hi),putAt]
  cases hf:r5 g (g i) l.length with
  |none=>exact(uI hf i (by omega) rfl).elim
  |some i'=>
   obtain⟨q1,q2⟩:=lL hf
   have:=Yg i' i (by omega) hi q2
   subst this
   rw[List.getElem?_eq_getElem (by omega)];simp[List.getD,show i' < l.length by omega]
 have at2:∀{α:Type} {l L:List α} {d:α} {j:Nat},l.length=hp'.length→L.length=H.length→(∀i,i<hp'.length→g i≠j)→(Bi g l L d m)[j]?=L[j]?:=by
  intro α l L d j hl hL hj
  by_cases hm:j<m
  ·have hjH:j<H.length:=by
    refine Nat.lt_of_not_le fun v7=>hj (hp.length+(j-H.length)) (by simp only[m] at hm;omega) ?_
    rw[nb _ (by omega)];omega
   rw[uJ hm,putAt]
   cases hf:r5 g j l.length with
   |none=>simp only;rw[List.getElem?_eq_getElem (by omega)];simp[List.getD,show j<L.length by omega]
   |some i'=>obtain⟨q1,q2⟩:=lL hf;exact(hj i' (by omega) q2).elim
  ·rw[List.getElem?_eq_none (by rw[p6];omega),List.getElem?_eq_none (by simp only[m] at hm;omega)]
 have o1:∀i o,hp'[i]?=some o→(gX g hp.length hp' H)[g i]?=some (gW g o):=by
  intro i o ho
  rw[gX]
  have:=at1 (l:=hp'.map (gW g)) (L:=H) (d:=.dead) (i:=i) (by simp) (List.getElem?_eq_some_iff.1 ho).1
  rw[this,List.getElem?_map,ho];rfl
 have v1:∀i,i<hp'.length→aH[i]?=kq[g i]?:=fun i hi=>(at1 (l:=aH) (L:=jX) (d:=undef) QU hi).symm
 have o2:∀j,(∀i,i<hp'.length→g i≠j)→(gX g hp.length hp' H)[j]?=H[j]?:=fun j hj=>at2 (l:=hp'.map (gW g)) (by simp) rfl hj
 have v2:∀j,(∀i,i<hp'.length→g i≠j)→kq[j]?=jX[j]?:=fun j hj=>at2 (l:=aH) QU hlen hj
 have Um:th g aH hp' kq (gX g hp.length hp' H):=⟨o1,v1⟩
 have image:∀j,(∃i,i<hp'.length∧g i=j)∨∀i,i<hp'.length→g i≠j:=by
  intro j
  by_cases hj:∃i,i<hp'.length∧g i=j
  ·exact .inl hj
  ·exact .inr fun i hi he=>hj ⟨i,hi,he⟩
 have apart:∀{j:Nat} {o:af} {u:Value} {b:Nat},(∀i,i<hp'.length→g i≠j)→H[j]?=some o→o.live→jX[j]?=some u→bU u=some b→b<w.heap.size∧¬aE η hp b:=by
  intro j o u b hj h1 h2 h3 h4
  refine⟨aJ.live b ⟨j,o,u,h1,h2,h3,h4⟩,fun⟨r1,p1,z1,g1,g2,g3,g4⟩=>?_⟩
  have ak:r1<hp.length:=(List.getElem?_eq_some_iff.1 g1).1
  exact aJ.heap.sep (g r1) j _ o z1 u b (hj r1 (by omega)) (kx r1 p1 g1) h1 (dt.2 g2) h2 (by rw[←dE r1 ak];exact g3) h3 g4 h4
 have A9:∀b o,bG F w η hp w' aH hp' b o→bG F w jX H w' kq (gX g hp.length hp' H) b o:=by
  intro b o ⟨h1,h2,h3⟩
  refine⟨h1.imp id (Or.imp id (mZ b)),h2,(aR b o).2 fun j u hr hb=>?_⟩
  rcases image j with⟨i,hi,rfl⟩|hj
  ·rw[←v1 i hi] at hr
   obtain⟨p1,q1,q2⟩:=(aR b o).1 h3 i u hr hb
   exact⟨_,o1 i p1 q1,rl.2 q2⟩
  ·rw[v2 j hj] at hr
   rw[o2 j hj]
   have rX:j<H.length:=by rw[←hlen];exact(List.getElem?_eq_some_iff.1 hr).1
   have ho:H[j]?=some H[j]:=List.getElem?_eq_getElem rX
   refine⟨H[j],ho,?_⟩
   have key:H[j].live→F b o:=by
    intro hl
    have ha:=apart hj ho hl hr hb
    rcases h1 with h1|h1|h1
    ·exact h1
    ·omega
    ·exact(ha.2 h1).elim
   cases hk:H[j] with
   |dead=>exact True.intro
   |_=>
    rw[hk] at key ho
    obtain⟨p1,q1,q2⟩:=(aR b o).1 (aJ.bb b o (key True.intro)).2 j u hr hb
    rw[ho] at q1
    obtain rfl:=Option.some.inj q1
    exact q2
 have gR:∀{iU:List Value} {ff:List af},Ext w' (bG F w η hp w' aH hp') iU ff w' (bG F w jX H w' kq (gX g hp.length hp' H)) iU ff:=⟨fun _ _ _ _ h=>h,fun _ _ _ _ h=>h,A9,fun _ _ h=>h,fun _ _ h=>h,fun _ _ _ h=>h⟩
 have old:∀{i j:Nat},i<hp'.length→g i=j→j<H.length→i<hp.length:=by
  intro i j hi he hj
  refine Nat.lt_of_not_le fun v7=>?_
  have:=nb i v7;omega
 have bZ:Ext w F jX H w' (bG F w jX H w' kq (gX g hp.length hp' H)) kq (gX g hp.length hp' H):=by
  refine⟨fun b o u hf hc=>bc.ext.cell b o u hf hc,fun b es c hf hc=>bc.ext.gp b es c hf hc,fun b o hf=>A9 b o (bc.ext.bb b o hf),fun j a hr=>?_,fun j a hr=>?_,fun j k u ho=>?_⟩
  ·have rX:j<H.length:=by rw[←hlen];exact(List.getElem?_eq_some_iff.1 hr).1
   rcases image j with⟨i,hi,rfl⟩|hj
   ·have kJ:=old hi rfl rX
    rw[←v1 i hi];exact bc.ext.ptr i a (by rw[dE i kJ];exact hr)
   ·rw[v2 j hj];exact hr
  ·have rX:j<H.length:=by rw[←hlen];exact(List.getElem?_eq_some_iff.1 hr).1
   rcases image j with⟨i,hi,rfl⟩|hj
   ·have kJ:=old hi rfl rX
    rw[←v1 i hi];exact bc.ext.mp i a (by rw[dE i kJ];exact hr)
   ·rw[v2 j hj];exact hr
  ·have rX:j<H.length:=by
    unfold aT at ho
    refine Nat.lt_of_not_le fun v7=>?_
    rw[List.getElem?_eq_none v7] at ho
    exact ho
   rcases image j with⟨i,hi,rfl⟩|hj
   ·have kJ:=old hi rfl rX
    have h1:aT η hp i k u:=(pZ (List.getElem?_eq_getElem kJ) (kx i _ (List.getElem?_eq_getElem kJ)) (dE i kJ)).2 ho
    have h2:=bc.ext.own i k u h1
    exact(pZ (List.getElem?_eq_getElem hi) (o1 i _ (List.getElem?_eq_getElem hi)) (v1 i hi)).1 h2
   ·unfold aT at ho ⊢
    rw[v2 j hj,o2 j hj];exact ho
 refine⟨v,o5 g r,gX g hp.length hp' H,kq,he,⟨r,hp',T9,rfl,rfl⟩,?_⟩
 refine⟨⟨bc.keeps.os,bc.keeps.tape,bc.keeps.output,bc.keeps.size,fun k hk hx=>bc.keeps.block k hk fun hl=>hx (mZ k hl)⟩,bZ,⟨by rw[gX,p6,p6],fun j o u h1 h2=>?_,fun j j' p1 p2 z1 z2 b bh h1 h2 l1 l2 e1 e2 hb er=>?_⟩,fun b ⟨j,o,u,h1,h2,h3,h4⟩=>?_,(Um.re AD bc.rep).ext gR⟩
 ·rcases image j with⟨i,hi,rfl⟩|hj
  ·rw[o1 i _ (List.getElem?_eq_getElem hi)] at h1
   obtain rfl:=Option.some.inj h1
   rw[←v1 i hi] at h2
   exact(Um.reO (List.all_eq_true.1 hoc _ (List.getElem_mem hi)) (bc.heap.obj i _ u (List.getElem?_eq_getElem hi) h2)).ext gR (Nat.le_refl _) fun _ _ _=>rfl
  ·rw[o2 j hj] at h1
   rw[v2 j hj] at h2
   by_cases hl:o.live
   ·exact(aJ.heap.obj j o u h1 h2).ext bZ bc.keeps.size fun b hb RU=>bc.keeps.block b RU (apart hj h1 hl h2 hb).2
   ·cases o<;>first|exact True.intro|exact(hl True.intro).elim
 ·have Ba:∀{i j:Nat} {p1 p2:af} {z1 z2:Value},i<hp'.length→(∀i,i<hp'.length→g i≠j)→hp'[i]?=some p1→H[j]?=some p2→p1.live→p2.live→aH[i]?=some z1→jX[j]?=some z2→bU z1=some b→bU z2=some b→False:=by
   intro i j p1 p2 z1 z2 hi hj h1 h2 l1 l2 e1 e2 hb er
   have ha:=apart hj h2 l2 e2 er
   rcases bc.bA b ⟨i,p1,z1,h1,l1,e1,hb⟩ with h5|h5
   ·omega
   ·exact ha.2 h5
  rcases image j with⟨i,hi,rfl⟩|hj
  ·rw[o1 i _ (List.getElem?_eq_getElem hi)] at h1
   obtain rfl:=Option.some.inj h1
   rw[←v1 i hi] at e1
   rcases image j' with⟨i',oG,rfl⟩|pE
   ·rw[o1 i' _ (List.getElem?_eq_getElem oG)] at h2
    obtain rfl:=Option.some.inj h2
    rw[←v1 i' oG] at e2
    exact bc.heap.sep i i' _ _ z1 z2 b (fun he=>bh (by rw[he])) (List.getElem?_eq_getElem hi) (List.getElem?_eq_getElem oG) (dt.1 l1) (dt.1 l2) e1 e2 hb er
   ·rw[o2 j' pE] at h2
    rw[v2 j' pE] at e2
    exact Ba hi pE (List.getElem?_eq_getElem hi) h2 (dt.1 l1) l2 e1 e2 hb er
  ·rw[o2 j hj] at h1
   rw[v2 j hj] at e1
   rcases image j' with⟨i',oG,rfl⟩|pE
   ·rw[o1 i' _ (List.getElem?_eq_getElem oG)] at h2
    obtain rfl:=Option.some.inj h2
    rw[←v1 i' oG] at e2
    exact Ba oG hj (List.getElem?_eq_getElem oG) h1 (dt.1 l2) l1 e2 e1 er hb
   ·rw[o2 j' pE] at h2
    rw[v2 j' pE] at e2
    exact aJ.heap.sep j j' p1 p2 z1 z2 b bh h1 h2 l1 l2 e1 e2 hb er
 ·rcases image j with⟨i,hi,rfl⟩|hj
  ·rw[o1 i _ (List.getElem?_eq_getElem hi)] at h1
   obtain rfl:=Option.some.inj h1
   rw[←v1 i hi] at h3
   exact(bc.bA b ⟨i,_,u,List.getElem?_eq_getElem hi,dt.1 h2,h3,h4⟩).imp id (mZ b)
  ·rw[o2 j hj] at h1
   rw[v2 j hj] at h3
   exact .inr ⟨j,o,u,h1,h2,h3,h4⟩
end Go.Proofs.YtdcikhleahfknaaGreatDoor
