/- Lemmas. -/
import Derived.Test.YtnkjkpmbgoehkaaGreatQ20
namespace Go.Proofs.YtnkjkpmbgoehkaaGreat
open Go
open _root_.True renaming intro->ai
set_option linter.unusedSimpArgs false
set_option linter.unusedVariables false
variable {P:Program} {w w':World} {F F':Nat->Nat->Prop} {η bf nv:List Value} {hp hp' H:List aw} {g:Nat->Nat}
def RR (g:Nat->Nat):AV->AV
 | .ptr r o=>.ptr (g r) o
 |x=>x
def xW (g:Nat->Nat):AV->AV
 | .own r n=>.own (g r) n
 | .ptr r o=>.ptr (g r) o
 | .mp r=>.mp (g r)
 | .bz f cs=>.bz f (cs.map (RR g))
 |x=>x
def Gq (g:Nat->Nat):AV->AV
 | .agg cs=>.agg (cs.map (xW g))
 |x=>xW g x
def s7 (g:Nat->Nat):AV->AV
 | .aK vs=>.aK (vs.map (Gq g))
 | .bz f cs=>.bz f (cs.map (Gq g))
 | .dm f cs=>.dm f (cs.map (Gq g))
 |x=>Gq g x
def ky (g:Nat->Nat):aw->aw
 | .box cs=>.box (cs.map (xW g))
 | .jy r n=>.jy (g r) n
 |o=>o
theorem eE {o:aw}:(ky g o).live↔o.live:=by cases o<;>exact ase
theorem vS {o:aw} {k:Nat}:(ky g o).bI k↔o.bI k:=by cases o<;>exact ase
theorem uk {r j n:Nat} {v:Value} {o:aw} (h1:hp[r]?=some o) (h2:H[j]?=some (ky g o)) (h3:η[r]?=nv[j]?):bl η hp r n v↔bl nv H j n v:=by
 unfold bl;rw[h1,h2,h3]
 cases o<;>exact ase
structure xX (g:Nat->Nat) (η:List Value) (hp:List aw) (nv:List Value) (H:List aw):Prop where
 obj:∀(i:Nat) (o:aw),hp[i]?=some o->H[g i]?=some (ky g o)
 val:∀(i:Nat),i<hp.length->η[i]?=nv[g i]?
theorem xX.unP (e:xX g η hp nv H) {x:AV} {v:Value} (hc:x.fe hp.length=true) (h:bB w F nv H (RR g x) v):bB w F η hp x v:=by
 cases x with
 |ptr r o=>
  have hr:r<hp.length:=by simpa [AV.fe] using hc
  cases h with
  |ptr _ _ b h1=>exact .ptr r o b (by rw[e.val r hr];exact h1)
 |ax u=>cases h;exact .ax _
 |aW y off=>cases h with|aW _ _ b o f aR hr=>exact .aW y off b o f aR hr
 |_=>simp[AV.fe] at hc
theorem xX.reP (e:xX g η hp nv H) {x:AV} {v:Value} (hc:x.fe hp.length=true) (h:bB w F η hp x v):bB w F nv H (RR g x) v:=by
 cases x with
 |ptr r o=>
  have hr:r<hp.length:=by simpa [AV.fe] using hc
  cases h with
  |ptr _ _ b h1=>exact .ptr (g r) o b (by rw[<-e.val r hr];exact h1)
 |ax u=>cases h;exact .ax _
 |aW y off=>cases h with|aW _ _ b o f aR hr=>exact .aW y off b o f aR hr
 |_=>simp[AV.fe] at hc
theorem dw {α β:Type} {f:α->β} {l:List α} {j:Nat} {y:β} (h:(l.map f)[j]?=some y):∃x,l[j]?=some x/\y=f x:=by
 rw[aqE] at h
 cases hj:l[j]? with
 |none=>rw[hj] at h;cases h
 |some x=>rw[hj] at h;exact⟨x,rfl,(aqs h).symm⟩
theorem xX.yn (e:xX g η hp nv H) {x:AV} {v:Value} (hc:x.aX hp.length=true) (h:bB w F nv H (xW g x) v):bB w F η hp x v:=by
 cases x with
 |own r m=>
  have hr:r<hp.length:=by simpa [AV.aX] using hc
  cases h with
  |own _ _ _ h1 h2=>exact .own r m v h1 ((uk (aqx hr) (e.obj r _ (aqx hr)) (e.val r hr)).2 h2)
 |ptr r o=>
  have hr:r<hp.length:=by simpa [AV.aX] using hc
  cases h with
  |ptr _ _ b h1=>exact .ptr r o b (by rw[e.val r hr];exact h1)
 |mp r=>
  have hr:r<hp.length:=by simpa [AV.aX] using hc
  cases h with
  |mp _ b h1=>exact .mp r b (by rw[e.val r hr];exact h1)
 |agg cs=>simp[AV.aX] at hc
 |aK cs=>simp[AV.aX] at hc
 |bz f cs=>
  cases h with
  |bz _ _ vs hl hr=>exact .bz f cs vs (by simpa using hl) fun j y u hy hu=>e.unP (by simp only[AV.aX,aqF] at hc;exact hc y (aqA hy)) (hr j _ u (by rw[aqE,hy];rfl) hu)
 |dm f cs=>simp[AV.aX] at hc
 |fV r n i z=>simp[AV.aX] at hc
 |top=>exact .top v
 |ax u=>cases h;exact .ax _
 |fn u=>cases h with|fn _ h1=>exact .fn _ h1
 |sl els=>cases h with
  |qq a=>exact .qq a
  |sl size els b o c f hc hm hl aR hr=>exact .sl size els b o c f hc hm hl aR hr
 |clip els=>cases h with
  |kW a=>exact .kW a
  |clip size els b o f hm hl aR hr=>exact .clip size els b o f hm hl aR hr
 |aW y off=>cases h with|aW _ _ b o f aR hr=>exact .aW y off b o f aR hr
 |fL es=>cases h with|fL b en c h1 h2 _ hl=>exact .fL b en c h1 h2 _ hl
theorem xX.reC (e:xX g η hp nv H) {x:AV} {v:Value} (hc:x.aX hp.length=true) (h:bB w F η hp x v):bB w F nv H (xW g x) v:=by
 cases x with
 |own r m=>
  have hr:r<hp.length:=by simpa [AV.aX] using hc
  cases h with
  |own _ _ _ h1 h2=>exact .own (g r) m v h1 ((uk (aqx hr) (e.obj r _ (aqx hr)) (e.val r hr)).1 h2)
 |ptr r o=>
  have hr:r<hp.length:=by simpa [AV.aX] using hc
  cases h with
  |ptr _ _ b h1=>exact .ptr (g r) o b (by rw[<-e.val r hr];exact h1)
 |mp r=>
  have hr:r<hp.length:=by simpa [AV.aX] using hc
  cases h with
  |mp _ b h1=>exact .mp (g r) b (by rw[<-e.val r hr];exact h1)
 |agg cs=>simp[AV.aX] at hc
 |aK cs=>simp[AV.aX] at hc
 |bz f cs=>
  cases h with
  |bz _ _ vs hl hr=>
   exact .bz f _ vs (by simpa using hl) fun j y u hy hu=>by
    obtain⟨y0,hy0,rfl⟩:=dw hy;exact e.reP (by simp only[AV.aX,aqF] at hc;exact hc y0 (aqA hy0)) (hr j y0 u hy0 hu)
 |dm f cs=>simp[AV.aX] at hc
 |fV r n i z=>simp[AV.aX] at hc
 |top=>exact .top v
 |ax u=>cases h;exact .ax _
 |fn u=>cases h with|fn _ h1=>exact .fn _ h1
 |sl els=>cases h with
  |qq a=>exact .qq a
  |sl size els b o c f hc hm hl aR hr=>exact .sl size els b o c f hc hm hl aR hr
 |clip els=>cases h with
  |kW a=>exact .kW a
  |clip size els b o f hm hl aR hr=>exact .clip size els b o f hm hl aR hr
 |aW y off=>cases h with|aW _ _ b o f aR hr=>exact .aW y off b o f aR hr
 |fL es=>cases h with|fL b en c h1 h2 _ hl=>exact .fL b en c h1 h2 _ hl
theorem xX.L8 (e:xX g η hp nv H) {x:AV} {v:Value} (hc:x.dY hp.length=true) (h:bB w F nv H (Gq g x) v):bB w F η hp x v:=by
 cases x with
 |agg cs=>
  cases h with
  |agg _ vs hl h1 hr=>
   refine .agg cs vs (by simpa using hl) h1 fun j y u hy hu=>e.yn (by simp only[AV.dY,aqF] at hc;exact hc y (aqA hy)) (hr j _ u (by rw[aqE,hy];rfl) hu)
 |_=>exact e.yn hc h
theorem xX.reV (e:xX g η hp nv H) {x:AV} {v:Value} (hc:x.dY hp.length=true) (h:bB w F η hp x v):bB w F nv H (Gq g x) v:=by
 cases x with
 |agg cs=>
  cases h with
  |agg _ vs hl h1 hr=>
   refine .agg _ vs (by simpa using hl) h1 fun j y u hy hu=>?_;obtain⟨z,hz,rfl⟩:=dw hy;exact e.reC (by simp only[AV.dY,aqF] at hc;exact hc z (aqA hz)) (hr j z u hz hu)
 |_=>first|exact e.reC (x:=.top) hc h|(refine Eq.mpr ?_ (e.reC ?_ h)<;>first|rfl|exact hc)
theorem xX.un (e:xX g η hp nv H) {x:AV} {v:Value} (hc:x.closed hp.length=true) (h:bB w F nv H (s7 g x) v):bB w F η hp x v:=by
 cases x with
 |aK cs=>
  cases h with
  |aK _ vs hl hr=>exact .aK cs vs (by simpa using hl) fun j y u hy hu=>e.L8 (by simp only[AV.closed,aqF] at hc;exact hc y (aqA hy)) (hr j _ u (by rw[aqE,hy];rfl) hu)
 |bz f cs=>
  cases h with
  |bz _ _ vs hl hr=>exact .bz f cs vs (by simpa using hl) fun j y u hy hu=>e.L8 (by simp only[AV.closed,aqF] at hc;exact hc y (aqA hy)) (hr j _ u (by rw[aqE,hy];rfl) hu)
 |dm f cs=>
  cases h with
  |dm _ _ vs hl hr=>exact .dm f cs vs (by simpa using hl) fun j y u hy hu=>e.L8 (by simp only[AV.closed,aqF] at hc;exact hc y (aqA hy)) (hr j _ u (by rw[aqE,hy];rfl) hu)
 |_=>exact e.L8 hc h
theorem xX.re (e:xX g η hp nv H) {x:AV} {v:Value} (hc:x.closed hp.length=true) (h:bB w F η hp x v):bB w F nv H (s7 g x) v:=by
 cases x with
 |aK cs=>
  cases h with
  |aK _ vs hl hr=>
   refine .aK _ vs (by simpa using hl) fun j y u hy hu=>?_;obtain⟨z,hz,rfl⟩:=dw hy;exact e.reV (by simp only[AV.closed,aqF] at hc;exact hc z (aqA hz)) (hr j z u hz hu)
 |bz f cs=>
  cases h with
  |bz _ _ vs hl hr=>
   refine .bz f _ vs (by simpa using hl) fun j y u hy hu=>?_;obtain⟨z,hz,rfl⟩:=dw hy;exact e.reV (by simp only[AV.closed,aqF] at hc;exact hc z (aqA hz)) (hr j z u hz hu)
 |dm f cs=>
  cases h with
  |dm _ _ vs hl hr=>
   refine .dm f _ vs (by simpa using hl) fun j y u hy hu=>?_;obtain⟨z,hz,rfl⟩:=dw hy;exact e.reV (by simp only[AV.closed,aqF] at hc;exact hc z (aqA hz)) (hr j z u hz hu)
 |_=>first|exact e.reV (x:=.top) hc h|(refine Eq.mpr ?_ (e.reV ?_ h)<;>first|rfl|exact hc)
theorem xX.unL (e:xX g η hp nv H):∀{xs:List AV} {vs:List Value},xs.all (AV.closed hp.length)=true->cu w F nv H (xs.map (s7 g)) vs->cu w F η hp xs vs
 | [],[],_,_=>ai
 |x::xs,v::vs,hc,h=>by
  rw[arQ,aqv] at hc;exact⟨e.un hc.1 h.1,e.unL hc.2 h.2⟩
 | [],_::_,_,h=>h.elim
 |_::_,[],_,h=>h.elim
theorem xX.unO (e:xX g η hp nv H) {o:aw} {v:Value} (hc:o.closed hp.length=true) (h:lT w F nv H (ky g o) v):lT w F η hp o v:=by
 cases o with
 |dead=>exact ai
 |box cs=>
  obtain⟨b,vs,T,e1,e2,e3,e4⟩:=h;refine⟨b,vs,T,e1,e2,by simpa using e3,fun j x u hx hu=>?_⟩;have h5:=e4 j (xW g x) u (by rw[aqE,hx];rfl) hu;exact⟨e.yn (aqF.1 hc x (aqA hx)) h5.1,h5.2⟩
 |row z size els=>exact h
 |cE es=>exact h
 |jy q k=>
  obtain⟨b,vs,e1,e2,e3,e4,u,e5,e6⟩:=h;exact⟨b,vs,e1,e2,e3,e4,u,e5,e.yn (x:=.own q k) (by simpa [AV.aX,aw.closed] using hc) e6⟩
 |bj z size els=>exact h
 |fz z m ns=>exact h
theorem xX.reO (e:xX g η hp nv H) {o:aw} {v:Value} (hc:o.closed hp.length=true) (h:lT w F η hp o v):lT w F nv H (ky g o) v:=by
 cases o with
 |dead=>exact ai
 |box cs=>
  obtain⟨b,vs,T,e1,e2,e3,e4⟩:=h;refine⟨b,vs,T,e1,e2,by simpa using e3,fun j x u hx hu=>?_⟩;obtain⟨z,hz,rfl⟩:=dw hx;have h5:=e4 j z u hz hu;exact⟨e.reC (aqF.1 hc z (aqA hz)) h5.1,h5.2⟩
 |row z size els=>exact h
 |cE es=>exact h
 |jy q k=>
  obtain⟨b,vs,e1,e2,e3,e4,u,e5,e6⟩:=h;exact⟨b,vs,e1,e2,e3,e4,u,e5,e.reC (x:=.own q k) (by simpa [AV.aX,aw.closed] using hc) e6⟩
 |bj z size els=>exact h
 |fz z m ns=>exact h
def wU (g:Nat->Nat) (j:Nat):Nat->Option Nat
 |0=>none
 |k+1=>(match Nat.beq (g k) j with|true=>some k|false=>wU g j k)
theorem pj {j:Nat}:∀{k i:Nat},wU g j k=some i->i<k/\g i=j
 |0,i,h=>by cases h
 |k+1,i,h=>by
  simp only[wU] at h;split at h
  ·rename_i hb;obtain rfl:=aqs h;exact⟨by omega,aqN hb⟩
  ·obtain⟨h1,h2⟩:=pj h;exact⟨by omega,h2⟩
theorem zt {j:Nat}:∀{k:Nat},wU g j k=none->∀i,i<k->g i≠j
 |0,_,i,hi=>by omega
 |k+1,h,i,hi=>by
  simp only[wU] at h;split at h
  ·cases h
  ·rename_i hb
   by_cases hk:i=k
   ·subst hk;intro hj;rw[hj,Nat.beq_refl] at hb;cases hb
   ·exact zt h i (by omega)
def putAt {α:Type} (g:Nat->Nat) (l L:List α) (d:α) (j:Nat):α:=match wU g j l.length with
 |some i=>l.getD i d
 |none=>L.getD j d
def pq:Nat->Nat->List Nat
 |_,0=>[]
 |k,m+1=>k::pq (k+1) m
def Gr {α:Type} (g:Nat->Nat) (l L:List α) (d:α) (m:Nat):List α:=(pq 0 m).map (putAt g l L d)
theorem qP:∀(m k:Nat),(pq k m).length=m
 |0,_=>rfl
 |m+1,k=>by rw[pq,aqy,qP m]
theorem qQ:∀(m k j:Nat),j<m->(pq k m)[j]?=some (k+j)
 |0,_,_,h=>by omega
 |m+1,k,0,_=>rfl
 |m+1,k,j+1,h=>by rw[pq,aq2,qQ m (k+1) j (by omega)];congr 1;omega
theorem um {α:Type} {l L:List α} {d:α} {m:Nat}:(Gr g l L d m).length=m:=by rw[Gr,aqu,qP]
theorem zu {α:Type} {l L:List α} {d:α} {m j:Nat} (h:j<m):(Gr g l L d m)[j]?=some (putAt g l L d j):=by
 rw[Gr,aqE,qQ m 0 j h,aq1,aqV]
def kz (g:Nat->Nat) (n:Nat) (hp' H:List aw):List aw:=Gr g (hp'.map (ky g)) H .dead (H.length+(hp'.length-n))
theorem aY.aep {f:FuncId} {args:List AV} {R:AV->List aw->Prop} (h:aY P f args hp R) (qy:∀(i:Nat) (o:aw),hp[i]?=some o->H[g i]?=some (ky g o))
  (aeq:∀i i',i<hp.length->i' < hp.length->g i=g i'->i=i') (xV:∀i,hp.length<=i->g i=H.length+(i-hp.length))
  (aN:args.all (AV.closed hp.length)=true) (dK:hp.all (aw.closed hp.length)=true)
  (hR:∀r hp',R r hp'->hp.length<=hp'.length/\r.closed hp'.length=true/\hp'.all (aw.closed hp'.length)=true):
  aY P f (args.map (s7 g)) H (fun r2 H2=>∃r hp',R r hp'/\r2=s7 g r/\H2=kz g hp.length hp' H):=by
 refine⟨h.1,fun w F nv bE bQ hv=>?_⟩;have hlen:nv.length=H.length:=bQ.heap.len;have hgH:∀i,i<hp.length->g i<H.length:=fun i hi=>(aqr.1 (qy i _ (aqx hi))).1
 let η:List Value:=(pq 0 hp.length).map fun i=>nv.getD (g i) undef
 have aer:η.length=hp.length:=by simp[η,qP]
 have fF:∀i,i<hp.length->η[i]?=nv[g i]?:=by
  intro i hi;have aH:g i<nv.length:=by rw[hlen];exact hgH i hi
  simp only[η,aqE,qQ _ _ _ hi,aq1,aqV];rw[aqx aH];simp[List.getD,aH]
 have fX:xX g η hp nv H:=⟨qy,fF⟩;have qO:∀b,bb η hp b->bb nv H b:=by
  intro b ⟨r,o,v,h1,h2,h3,h4⟩;have aH:r<hp.length:=(aqr.1 h1).1;exact⟨g r,ky g o,v,qy r o h1,eE.2 h2,by rw[<-fF r aH];exact h3,h4⟩
 have Rx:∀b o,lS nv H b o->lS η hp b o:=by
  intro b o hf;refine(bm b o).2 fun r v hr hb=>?_;have aH:r<hp.length:=by rw[<-aer];exact(aqr.1 hr).1
  obtain⟨o1,q1,q2⟩:=(bm b o).1 hf (g r) v (by rw[<-fF r aH];exact hr) hb;rw[qy r _ (aqx aH)] at q1;obtain rfl:=aqs q1;exact⟨_,aqx aH,vS.1 q2⟩
 have Ry:F6 w F η hp:=by
  refine⟨fun b o hb=>⟨(bQ.bI b o hb).1,Rx b o (bQ.bI b o hb).2⟩,⟨aer,fun r o v h1 h2=>?_,fun r r' o o' v v' b cg h1 h2 l1 l2 e1 e2 hb=>?_⟩,fun b hb=>bQ.live b (qO b hb),bQ.kN,fun b hb hl=>bQ.gx b hb (qO b hl)⟩
  ·have aH:r<hp.length:=(aqr.1 h1).1;exact fX.unO (aqF.1 dK o (aqA h1)) (bQ.heap.obj (g r) _ v (qy r o h1) (by rw[<-fF r aH];exact h2))
  ·have q1:r<hp.length:=(aqr.1 h1).1;have q2:r' < hp.length:=(aqr.1 h2).1;exact bQ.heap.sep (g r) (g r') _ _ v v' b (fun he=>cg (aeq r r' q1 q2 he)) (qy r o h1) (qy r' o' h2) (eE.2 l1) (eE.2 l2) (by rw[<-fF r q1];exact e1) (by rw[<-fF r' q2];exact e2) hb
 refine(h.2 w F η bE Ry (fX.unL aN hv)).mono fun e w' ⟨v,r,hp',bf,he,hRr,bD⟩=>?_;obtain⟨hle,FK,hoc⟩:=hR r hp' hRr;have aaM:bf.length=hp'.length:=bD.heap.len
 let m:=H.length+(hp'.length-hp.length)
 let FE:List Value:=Gr g bf nv undef m
 have ajX:∀i i',i<hp'.length->i' < hp'.length->g i=g i'->i=i':=by
  intro i i' h1 h2 he
  by_cases q1:i<hp.length
  ·by_cases q2:i' < hp.length
   ·exact aeq i i' q1 q2 he
   ·have:=hgH i q1;have:=xV i' (by omega);omega
  ·by_cases q2:i' < hp.length
   ·have:=hgH i' q2;have:=xV i (by omega);omega
   ·have:=xV i (by omega);have:=xV i' (by omega);omega
 have hgm:∀i,i<hp'.length->g i<m:=by
  intro i hi
  by_cases q:i<hp.length
  ·have:=hgH i q;simp only[m];omega
  ·have:=xV i (by omega);simp only[m];omega
 have at1:∀{α:Type} {l L:List α} {d:α} {i:Nat},l.length=hp'.length->i<hp'.length->(Gr g l L d m)[g i]?=l[i]?:=by
  intro α l L d i hl hi;rw[zu (hgm i hi),putAt]
  cases hf:wU g (g i) l.length with
  |none=>exact(zt hf i (by omega) rfl).elim
  |some i'=>
   obtain⟨q1,q2⟩:=pj hf;have:=ajX i' i (by omega) hi q2;subst this;rw[aqx (by omega)];simp[List.getD,show i' < l.length by omega]
 have at2:∀{α:Type} {l L:List α} {d:α} {j:Nat},l.length=hp'.length->L.length=H.length->(∀i,i<hp'.length->g i≠j)->(Gr g l L d m)[j]?=L[j]?:=by
  intro α l L d j hl hL hj
  by_cases hm:j<m
  ·have hjH:j<H.length:=by
    refine Nat.lt_of_not_le fun jM=>hj (hp.length+(j-H.length)) (by simp only[m] at hm;omega) ?_;rw[xV _ (by omega)];omega
   rw[zu hm,putAt]
   cases hf:wU g j l.length with
   |none=>simp only;rw[aqx (by omega)];simp[List.getD,show j<L.length by omega]
   |some i'=>obtain⟨q1,q2⟩:=pj hf;exact(hj i' (by omega) q2).elim
  ·rw[aq6 (by rw[um];omega),aq6 (by simp only[m] at hm;omega)]
 have o1:∀i o,hp'[i]?=some o->(kz g hp.length hp' H)[g i]?=some (ky g o):=by
  intro i o ho;rw[kz];have:=at1 (l:=hp'.map (ky g)) (L:=H) (d:=.dead) (i:=i) (by simp) (aqr.1 ho).1;rw[this,aqE,ho];rfl
 have v1:∀i,i<hp'.length->bf[i]?=FE[g i]?:=fun i hi=>(at1 (l:=bf) (L:=nv) (d:=undef) aaM hi).symm;have o2:∀j,(∀i,i<hp'.length->g i≠j)->(kz g hp.length hp' H)[j]?=H[j]?:=fun j hj=>at2 (l:=hp'.map (ky g)) (by simp) rfl hj;have v2:∀j,(∀i,i<hp'.length->g i≠j)->FE[j]?=nv[j]?:=fun j hj=>at2 (l:=bf) aaM hlen hj;have aes:xX g bf hp' FE (kz g hp.length hp' H):=⟨o1,v1⟩;have image:∀j,(∃i,i<hp'.length/\g i=j)\/∀i,i<hp'.length->g i≠j:=by
  intro j
  by_cases hj:∃i,i<hp'.length/\g i=j
  ·exact .inl hj
  ·exact .inr fun i hi he=>hj ⟨i,hi,he⟩
 have apart:∀{j:Nat} {o:aw} {u:Value} {b:Nat},(∀i,i<hp'.length->g i≠j)->H[j]?=some o->o.live->nv[j]?=some u->dO u=some b->b<w.heap.size/\¬bb η hp b:=by
  intro j o u b hj h1 h2 h3 h4;refine⟨bQ.live b ⟨j,o,u,h1,h2,h3,h4⟩,fun⟨r1,p1,z1,g1,g2,g3,g4⟩=>?_⟩;have aH:r1<hp.length:=(aqr.1 g1).1;exact bQ.heap.sep (g r1) j _ o z1 u b (hj r1 (by omega)) (qy r1 p1 g1) h1 (eE.2 g2) h2 (by rw[<-fF r1 aH];exact g3) h3 g4 h4
 have Gi:∀b o,gj F w η hp w' bf hp' b o->gj F w nv H w' FE (kz g hp.length hp' H) b o:=by
  intro b o ⟨h1,h2,h3⟩;refine⟨h1.imp id (Or.imp id (qO b)),h2,(bm b o).2 fun j u hr hb=>?_⟩;rcases image j with⟨i,hi,rfl⟩|hj
  ·rw[<-v1 i hi] at hr;obtain⟨p1,q1,q2⟩:=(bm b o).1 h3 i u hr hb;exact⟨_,o1 i p1 q1,vS.2 q2⟩
  ·rw[v2 j hj] at hr;rw[o2 j hj];have za:j<H.length:=by rw[<-hlen];exact(aqr.1 hr).1
   have ho:H[j]?=some H[j]:=aqx za;refine⟨H[j],ho,?_⟩;have key:H[j].live->F b o:=by
    intro hl;have ha:=apart hj ho hl hr hb;rcases h1 with h1|h1|h1
    ·exact h1
    ·omega
    ·exact(ha.2 h1).elim
   cases hk:H[j] with
   |dead=>exact ai
   |_=>
    rw[hk] at key ho;obtain⟨p1,q1,q2⟩:=(bm b o).1 (bQ.bI b o (key ai)).2 j u hr hb;rw[ho] at q1;obtain rfl:=aqs q1;exact q2
 have ku:∀{oR:List Value} {jC:List aw},Ext w' (gj F w η hp w' bf hp') oR jC w' (gj F w nv H w' FE (kz g hp.length hp' H)) oR jC:=⟨fun _ _ _ _ h=>h,fun _ _ _ _ h=>h,Gi,fun _ _ h=>h,fun _ _ h=>h,fun _ _ _ h=>h⟩;have sC:∀{i j:Nat},i<hp'.length->g i=j->j<H.length->i<hp.length:=by
  intro i j hi he hj;refine Nat.lt_of_not_le fun jM=>?_;have:=xV i jM;omega
 have gu:Ext w F nv H w' (gj F w nv H w' FE (kz g hp.length hp' H)) FE (kz g hp.length hp' H):=by
  refine⟨fun b o u hf hc=>bD.ext.cell b o u hf hc,fun b es c hf hc=>bD.ext.kM b es c hf hc,fun b o hf=>Gi b o (bD.ext.bI b o hf),fun j a hr=>?_,fun j a hr=>?_,fun j k u ho=>?_⟩
  ·have za:j<H.length:=by rw[<-hlen];exact(aqr.1 hr).1
   rcases image j with⟨i,hi,rfl⟩|hj
   ·have ep:=sC hi rfl za;rw[<-v1 i hi];exact bD.ext.ptr i a (by rw[fF i ep];exact hr)
   ·rw[v2 j hj];exact hr
  ·have za:j<H.length:=by rw[<-hlen];exact(aqr.1 hr).1
   rcases image j with⟨i,hi,rfl⟩|hj
   ·have ep:=sC hi rfl za;rw[<-v1 i hi];exact bD.ext.mp i a (by rw[fF i ep];exact hr)
   ·rw[v2 j hj];exact hr
  ·have za:j<H.length:=by
    unfold bl at ho;refine Nat.lt_of_not_le fun jM=>?_;rw[aq6 jM] at ho;exact ho
   rcases image j with⟨i,hi,rfl⟩|hj
   ·have ep:=sC hi rfl za;have h1:bl η hp i k u:=(uk (aqx ep) (qy i _ (aqx ep)) (fF i ep)).2 ho;have h2:=bD.ext.own i k u h1;exact(uk (aqx hi) (o1 i _ (aqx hi)) (v1 i hi)).1 h2
   ·unfold bl at ho ⊢;rw[v2 j hj,o2 j hj];exact ho
 refine⟨v,s7 g r,kz g hp.length hp' H,FE,he,⟨r,hp',hRr,rfl,rfl⟩,?_⟩;refine⟨⟨bD.keeps.os,bD.keeps.tape,bD.keeps.output,bD.keeps.size,fun k hk hx=>bD.keeps.block k hk fun hl=>hx (qO k hl)⟩,gu,⟨by rw[kz,um,um],fun j o u h1 h2=>?_,fun j j' p1 p2 z1 z2 b cg h1 h2 l1 l2 e1 e2 hb gz=>?_⟩,fun b ⟨j,o,u,h1,h2,h3,h4⟩=>?_,(aes.re FK bD.rep).ext ku⟩
 ·rcases image j with⟨i,hi,rfl⟩|hj
  ·rw[o1 i _ (aqx hi)] at h1;obtain rfl:=aqs h1;rw[<-v1 i hi] at h2;exact(aes.reO (aqF.1 hoc _ (aqL hi)) (bD.heap.obj i _ u (aqx hi) h2)).ext ku (aqw _) fun _ _ _=>rfl
  ·rw[o2 j hj] at h1;rw[v2 j hj] at h2
   by_cases hl:o.live
   ·exact(bQ.heap.obj j o u h1 h2).ext gu bD.keeps.size fun b hb vQ=>bD.keeps.block b vQ (apart hj h1 hl h2 hb).2
   ·cases o<;>first|exact ai|exact(hl ai).elim
 ·have Gj:∀{i j:Nat} {p1 p2:aw} {z1 z2:Value},i<hp'.length->(∀i,i<hp'.length->g i≠j)->hp'[i]?=some p1->H[j]?=some p2->p1.live->p2.live->bf[i]?=some z1->nv[j]?=some z2->dO z1=some b->dO z2=some b->False:=by
   intro i j p1 p2 z1 z2 hi hj h1 h2 l1 l2 e1 e2 hb gz;have ha:=apart hj h2 l2 e2 gz;rcases bD.cq b ⟨i,p1,z1,h1,l1,e1,hb⟩ with h5|h5
   ·omega
   ·exact ha.2 h5
  rcases image j with⟨i,hi,rfl⟩|hj
  ·rw[o1 i _ (aqx hi)] at h1;obtain rfl:=aqs h1;rw[<-v1 i hi] at e1;rcases image j' with⟨i',tR,rfl⟩|vC
   ·rw[o1 i' _ (aqx tR)] at h2;obtain rfl:=aqs h2;rw[<-v1 i' tR] at e2;exact bD.heap.sep i i' _ _ z1 z2 b (fun he=>cg (by rw[he])) (aqx hi) (aqx tR) (eE.1 l1) (eE.1 l2) e1 e2 hb gz
   ·rw[o2 j' vC] at h2;rw[v2 j' vC] at e2;exact Gj hi vC (aqx hi) h2 (eE.1 l1) l2 e1 e2 hb gz
  ·rw[o2 j hj] at h1;rw[v2 j hj] at e1;rcases image j' with⟨i',tR,rfl⟩|vC
   ·rw[o1 i' _ (aqx tR)] at h2;obtain rfl:=aqs h2;rw[<-v1 i' tR] at e2;exact Gj tR hj (aqx tR) h1 (eE.1 l2) l1 e2 e1 gz hb
   ·rw[o2 j' vC] at h2;rw[v2 j' vC] at e2;exact bQ.heap.sep j j' p1 p2 z1 z2 b cg h1 h2 l1 l2 e1 e2 hb gz
 ·rcases image j with⟨i,hi,rfl⟩|hj
  ·rw[o1 i _ (aqx hi)] at h1;obtain rfl:=aqs h1;rw[<-v1 i hi] at h3;exact(bD.cq b ⟨i,_,u,aqx hi,eE.1 h2,h3,h4⟩).imp id (qO b)
  ·rw[o2 j hj] at h1;rw[v2 j hj] at h3;exact .inr ⟨j,o,u,h1,h2,h3,h4⟩
end Go.Proofs.YtnkjkpmbgoehkaaGreat
