/- Texts of ours laid together for a claim: VcP. -/
import Derived.Test.YtnkjkpmbgoehkaaGreatQ20
namespace Go.Proofs.YtnkjkpmbgoehkaaGreat
open Go
set_option linter.unusedSimpArgs false
set_option linter.unusedVariables false
variable {P:Program} {w w':World} {F F':Nat->Nat->Prop} {η aO lO:List Value} {hp hp' H:List ab} {g:Nat->Nat}
def N6 (g:Nat->Nat):AV->AV
 | .ptr r o=>.ptr (g r) o
 |x=>x
def vH (g:Nat->Nat):AV->AV
 | .own r n=>.own (g r) n
 | .ptr r o=>.ptr (g r) o
 | .mp r=>.mp (g r)
 | .bf f cs=>.bf f (cs.map (N6 g))
 |x=>x
def DH (g:Nat->Nat):AV->AV
 | .agg cs=>.agg (cs.map (vH g))
 |x=>vH g x
def rb (g:Nat->Nat):AV->AV
 | .av vs=>.av (vs.map (DH g))
 | .bf f cs=>.bf f (cs.map (DH g))
 | .cB f cs=>.cB f (cs.map (DH g))
 |x=>DH g x
def ji (g:Nat->Nat):ab->ab
 | .box cs=>.box (cs.map (vH g))
 | .iz r n=>.iz (g r) n
 |o=>o
theorem dO {o:ab}:(ji g o).live↔o.live:=by cases o<;>exact Iff.rfl
theorem tR {o:ab} {k:Nat}:(ji g o).bk k↔o.bk k:=by cases o<;>exact Iff.rfl
theorem se {r j n:Nat} {v:Value} {o:ab} (h1:hp[r]?=some o) (h2:H[j]?=some (ji g o)) (h3:η[r]?=lO[j]?):aR η hp r n v↔aR lO H j n v:=by
 unfold aR;rw[h1,h2,h3]
 cases o<;>exact Iff.rfl
structure vI (g:Nat->Nat) (η:List Value) (hp:List ab) (lO:List Value) (H:List ab):Prop where
 obj:∀(i:Nat) (o:ab),hp[i]?=some o->H[g i]?=some (ji g o)
 val:∀(i:Nat),i<hp.length->η[i]?=lO[g i]?
theorem vI.Xu (e:vI g η hp lO H) {x:AV} {v:Value} (hc:x.ep hp.length=true) (h:ba w F lO H (N6 g x) v):ba w F η hp x v:=by
 cases x with
 |ptr r o=>
  have hr:r<hp.length:=by simpa [AV.ep] using hc
  cases h with
  |ptr _ _ b h1=>exact .ptr r o b (by rw[e.val r hr];exact h1)
 |ae u=>cases h;exact .ae _
 |aJ y off=>cases h with|aJ _ _ b o f aA hr=>exact .aJ y off b o f aA hr
 |_=>simp[AV.ep] at hc
theorem vI.reP (e:vI g η hp lO H) {x:AV} {v:Value} (hc:x.ep hp.length=true) (h:ba w F η hp x v):ba w F lO H (N6 g x) v:=by
 cases x with
 |ptr r o=>
  have hr:r<hp.length:=by simpa [AV.ep] using hc
  cases h with
  |ptr _ _ b h1=>exact .ptr (g r) o b (by rw[<-e.val r hr];exact h1)
 |ae u=>cases h;exact .ae _
 |aJ y off=>cases h with|aJ _ _ b o f aA hr=>exact .aJ y off b o f aA hr
 |_=>simp[AV.ep] at hc
theorem cL {α β:Type} {f:α->β} {l:List α} {j:Nat} {y:β} (h:(l.map f)[j]?=some y):∃x,l[j]?=some x/\y=f x:=by
 rw[alu] at h
 cases hj:l[j]? with
 |none=>rw[hj] at h;cases h
 |some x=>rw[hj] at h;exact⟨x,rfl,(alj h).symm⟩
theorem vI.wa (e:vI g η hp lO H) {x:AV} {v:Value} (hc:x.aF hp.length=true) (h:ba w F lO H (vH g x) v):ba w F η hp x v:=by
 cases x with
 |own r m=>
  have hr:r<hp.length:=by simpa [AV.aF] using hc
  cases h with
  |own _ _ _ h1 h2=>exact .own r m v h1 ((se (alo hr) (e.obj r _ (alo hr)) (e.val r hr)).2 h2)
 |ptr r o=>
  have hr:r<hp.length:=by simpa [AV.aF] using hc
  cases h with
  |ptr _ _ b h1=>exact .ptr r o b (by rw[e.val r hr];exact h1)
 |mp r=>
  have hr:r<hp.length:=by simpa [AV.aF] using hc
  cases h with
  |mp _ b h1=>exact .mp r b (by rw[e.val r hr];exact h1)
 |agg cs=>simp[AV.aF] at hc
 |av cs=>simp[AV.aF] at hc
 |bf f cs=>
  cases h with
  |bf _ _ vs hl hr=>exact .bf f cs vs (by simpa using hl) fun j y u hy hu=>e.Xu (by simp only[AV.aF,alv] at hc;exact hc y (alq hy)) (hr j _ u (by rw[alu,hy];rfl) hu)
 |cB f cs=>simp[AV.aF] at hc
 |fq r n i z=>simp[AV.aF] at hc
 |top=>exact .top v
 |ae u=>cases h;exact .ae _
 |fn u=>cases h with|fn _ h1=>exact .fn _ h1
 |sl els=>cases h with
  |oc a=>exact .oc a
  |sl size els b o c f hc hm hl aA hr=>exact .sl size els b o c f hc hm hl aA hr
 |clip els=>cases h with
  |jB a=>exact .jB a
  |clip size els b o f hm hl aA hr=>exact .clip size els b o f hm hl aA hr
 |aJ y off=>cases h with|aJ _ _ b o f aA hr=>exact .aJ y off b o f aA hr
 |eY es=>cases h with|eY b en c h1 h2 _ hl=>exact .eY b en c h1 h2 _ hl
theorem vI.Zw (e:vI g η hp lO H) {x:AV} {v:Value} (hc:x.aF hp.length=true) (h:ba w F η hp x v):ba w F lO H (vH g x) v:=by
 cases x with
 |own r m=>
  have hr:r<hp.length:=by simpa [AV.aF] using hc
  cases h with
  |own _ _ _ h1 h2=>exact .own (g r) m v h1 ((se (alo hr) (e.obj r _ (alo hr)) (e.val r hr)).1 h2)
 |ptr r o=>
  have hr:r<hp.length:=by simpa [AV.aF] using hc
  cases h with
  |ptr _ _ b h1=>exact .ptr (g r) o b (by rw[<-e.val r hr];exact h1)
 |mp r=>
  have hr:r<hp.length:=by simpa [AV.aF] using hc
  cases h with
  |mp _ b h1=>exact .mp (g r) b (by rw[<-e.val r hr];exact h1)
 |agg cs=>simp[AV.aF] at hc
 |av cs=>simp[AV.aF] at hc
 |bf f cs=>
  cases h with
  |bf _ _ vs hl hr=>
   exact .bf f _ vs (by simpa using hl) fun j y u hy hu=>by
    obtain⟨y0,hy0,rfl⟩:=cL hy;exact e.reP (by simp only[AV.aF,alv] at hc;exact hc y0 (alq hy0)) (hr j y0 u hy0 hu)
 |cB f cs=>simp[AV.aF] at hc
 |fq r n i z=>simp[AV.aF] at hc
 |top=>exact .top v
 |ae u=>cases h;exact .ae _
 |fn u=>cases h with|fn _ h1=>exact .fn _ h1
 |sl els=>cases h with
  |oc a=>exact .oc a
  |sl size els b o c f hc hm hl aA hr=>exact .sl size els b o c f hc hm hl aA hr
 |clip els=>cases h with
  |jB a=>exact .jB a
  |clip size els b o f hm hl aA hr=>exact .clip size els b o f hm hl aA hr
 |aJ y off=>cases h with|aJ _ _ b o f aA hr=>exact .aJ y off b o f aA hr
 |eY es=>cases h with|eY b en c h1 h2 _ hl=>exact .eY b en c h1 h2 _ hl
theorem vI.Jc (e:vI g η hp lO H) {x:AV} {v:Value} (hc:x.dt hp.length=true) (h:ba w F lO H (DH g x) v):ba w F η hp x v:=by
 cases x with
 |agg cs=>
  cases h with
  |agg _ vs hl h1 hr=>
   refine .agg cs vs (by simpa using hl) h1 fun j y u hy hu=>e.wa (by simp only[AV.dt,alv] at hc;exact hc y (alq hy)) (hr j _ u (by rw[alu,hy];rfl) hu)
 |_=>exact e.wa hc h
theorem vI.Zx (e:vI g η hp lO H) {x:AV} {v:Value} (hc:x.dt hp.length=true) (h:ba w F η hp x v):ba w F lO H (DH g x) v:=by
 cases x with
 |agg cs=>
  cases h with
  |agg _ vs hl h1 hr=>
   refine .agg _ vs (by simpa using hl) h1 fun j y u hy hu=>?_;obtain⟨z,hz,rfl⟩:=cL hy;exact e.Zw (by simp only[AV.dt,alv] at hc;exact hc z (alq hz)) (hr j z u hz hu)
 |_=>first|exact e.Zw (x:=.top) hc h|(refine Eq.mpr ?_ (e.Zw ?_ h)<;>first|rfl|exact hc)
theorem vI.un (e:vI g η hp lO H) {x:AV} {v:Value} (hc:x.closed hp.length=true) (h:ba w F lO H (rb g x) v):ba w F η hp x v:=by
 cases x with
 |av cs=>
  cases h with
  |av _ vs hl hr=>exact .av cs vs (by simpa using hl) fun j y u hy hu=>e.Jc (by simp only[AV.closed,alv] at hc;exact hc y (alq hy)) (hr j _ u (by rw[alu,hy];rfl) hu)
 |bf f cs=>
  cases h with
  |bf _ _ vs hl hr=>exact .bf f cs vs (by simpa using hl) fun j y u hy hu=>e.Jc (by simp only[AV.closed,alv] at hc;exact hc y (alq hy)) (hr j _ u (by rw[alu,hy];rfl) hu)
 |cB f cs=>
  cases h with
  |cB _ _ vs hl hr=>exact .cB f cs vs (by simpa using hl) fun j y u hy hu=>e.Jc (by simp only[AV.closed,alv] at hc;exact hc y (alq hy)) (hr j _ u (by rw[alu,hy];rfl) hu)
 |_=>exact e.Jc hc h
theorem vI.re (e:vI g η hp lO H) {x:AV} {v:Value} (hc:x.closed hp.length=true) (h:ba w F η hp x v):ba w F lO H (rb g x) v:=by
 cases x with
 |av cs=>
  cases h with
  |av _ vs hl hr=>
   refine .av _ vs (by simpa using hl) fun j y u hy hu=>?_;obtain⟨z,hz,rfl⟩:=cL hy;exact e.Zx (by simp only[AV.closed,alv] at hc;exact hc z (alq hz)) (hr j z u hz hu)
 |bf f cs=>
  cases h with
  |bf _ _ vs hl hr=>
   refine .bf f _ vs (by simpa using hl) fun j y u hy hu=>?_;obtain⟨z,hz,rfl⟩:=cL hy;exact e.Zx (by simp only[AV.closed,alv] at hc;exact hc z (alq hz)) (hr j z u hz hu)
 |cB f cs=>
  cases h with
  |cB _ _ vs hl hr=>
   refine .cB f _ vs (by simpa using hl) fun j y u hy hu=>?_;obtain⟨z,hz,rfl⟩:=cL hy;exact e.Zx (by simp only[AV.closed,alv] at hc;exact hc z (alq hz)) (hr j z u hz hu)
 |_=>first|exact e.Zx (x:=.top) hc h|(refine Eq.mpr ?_ (e.Zx ?_ h)<;>first|rfl|exact hc)
theorem vI.unL (e:vI g η hp lO H):∀{xs:List AV} {vs:List Value},xs.all (AV.closed hp.length)=true->bS w F lO H (xs.map (rb g)) vs->bS w F η hp xs vs
 | [],[],_,_=>True.intro
 |x::xs,v::vs,hc,h=>by
  rw[amF,aln] at hc;exact⟨e.un hc.1 h.1,e.unL hc.2 h.2⟩
 | [],_::_,_,h=>h.elim
 |_::_,[],_,h=>h.elim
theorem vI.Wj (e:vI g η hp lO H) {o:ab} {v:Value} (hc:o.closed hp.length=true) (h:kA w F lO H (ji g o) v):kA w F η hp o v:=by
 cases o with
 |dead=>exact True.intro
 |box cs=>
  obtain⟨b,vs,T,e1,e2,e3,e4⟩:=h;refine⟨b,vs,T,e1,e2,by simpa using e3,fun j x u hx hu=>?_⟩;have h5:=e4 j (vH g x) u (by rw[alu,hx];rfl) hu;exact⟨e.wa (alv.1 hc x (alq hx)) h5.1,h5.2⟩
 |row z size els=>exact h
 |bW es=>exact h
 |iz q k=>
  obtain⟨b,vs,e1,e2,e3,e4,u,e5,e6⟩:=h;exact⟨b,vs,e1,e2,e3,e4,u,e5,e.wa (x:=.own q k) (by simpa [AV.aF,ab.closed] using hc) e6⟩
 |aQ z size els=>exact h
 |eI z m ns=>exact h
theorem vI.reO (e:vI g η hp lO H) {o:ab} {v:Value} (hc:o.closed hp.length=true) (h:kA w F η hp o v):kA w F lO H (ji g o) v:=by
 cases o with
 |dead=>exact True.intro
 |box cs=>
  obtain⟨b,vs,T,e1,e2,e3,e4⟩:=h;refine⟨b,vs,T,e1,e2,by simpa using e3,fun j x u hx hu=>?_⟩;obtain⟨z,hz,rfl⟩:=cL hx;have h5:=e4 j z u hz hu;exact⟨e.Zw (alv.1 hc z (alq hz)) h5.1,h5.2⟩
 |row z size els=>exact h
 |bW es=>exact h
 |iz q k=>
  obtain⟨b,vs,e1,e2,e3,e4,u,e5,e6⟩:=h;exact⟨b,vs,e1,e2,e3,e4,u,e5,e.Zw (x:=.own q k) (by simpa [AV.aF,ab.closed] using hc) e6⟩
 |aQ z size els=>exact h
 |eI z m ns=>exact h
def uN (g:Nat->Nat) (j:Nat):Nat->Option Nat
 |0=>none
 |k+1=>(match Nat.beq (g k) j with|true=>some k|false=>uN g j k)
theorem nx {j:Nat}:∀{k i:Nat},uN g j k=some i->i<k/\g i=j
 |0,i,h=>by cases h
 |k+1,i,h=>by
  simp only[uN] at h;split at h
  ·rename_i hb;obtain rfl:=alj h;exact⟨by omega,alB hb⟩
  ·obtain⟨h1,h2⟩:=nx h;exact⟨by omega,h2⟩
theorem xg {j:Nat}:∀{k:Nat},uN g j k=none->∀i,i<k->g i≠j
 |0,_,i,hi=>by omega
 |k+1,h,i,hi=>by
  simp only[uN] at h;split at h
  ·cases h
  ·rename_i hb
   by_cases hk:i=k
   ·subst hk;intro hj;rw[hj,Nat.beq_refl] at hb;cases hb
   ·exact xg h i (by omega)
def putAt {α:Type} (g:Nat->Nat) (l L:List α) (d:α) (j:Nat):α:=match uN g j l.length with
 |some i=>l.getD i d
 |none=>L.getD j d
def ny:Nat->Nat->List Nat
 |_,0=>[]
 |k,m+1=>k::ny (k+1) m
def DI {α:Type} (g:Nat->Nat) (l L:List α) (d:α) (m:Nat):List α:=(ny 0 m).map (putAt g l L d)
theorem oX:∀(m k:Nat),(ny k m).length=m
 |0,_=>rfl
 |m+1,k=>by rw[ny,als,oX m]
theorem oY:∀(m k j:Nat),j<m->(ny k m)[j]?=some (k+j)
 |0,_,_,h=>by omega
 |m+1,k,0,_=>rfl
 |m+1,k,j+1,h=>by rw[ny,alP,oY m (k+1) j (by omega)];congr 1;omega
theorem sf {α:Type} {l L:List α} {d:α} {m:Nat}:(DI g l L d m).length=m:=by rw[DI,alm,oX]
theorem xh {α:Type} {l L:List α} {d:α} {m j:Nat} (h:j<m):(DI g l L d m)[j]?=some (putAt g l L d j):=by
 rw[DI,alu,oY m 0 j h,alN,alM]
def jj (g:Nat->Nat) (n:Nat) (hp' H:List ab):List ab:=DI g (hp'.map (ji g)) H .dead (H.length+(hp'.length-n))
theorem aG.Zy {f:FuncId} {args:List AV} {R:AV->List ab->Prop} (h:aG P f args hp R) (oF:∀(i:Nat) (o:ab),hp[i]?=some o->H[g i]?=some (ji g o))
  (Zz:∀i i',i<hp.length->i' < hp.length->g i=g i'->i=i') (vF:∀i,hp.length<=i->g i=H.length+(i-hp.length))
  (aw:args.all (AV.closed hp.length)=true) (cY:hp.all (ab.closed hp.length)=true)
  (hR:∀r hp',R r hp'->hp.length<=hp'.length/\r.closed hp'.length=true/\hp'.all (ab.closed hp'.length)=true):
  aG P f (args.map (rb g)) H (fun r2 H2=>∃r hp',R r hp'/\r2=rb g r/\H2=jj g hp.length hp' H):=by
 refine⟨h.1,fun w F lO bg bu hv=>?_⟩;have hlen:lO.length=H.length:=bu.heap.len;have hgH:∀i,i<hp.length->g i<H.length:=fun i hi=>(ali.1 (oF i _ (alo hi))).1
 let η:List Value:=(ny 0 hp.length).map fun i=>lO.getD (g i) undef
 have ZA:η.length=hp.length:=by simp[η,oX]
 have eP:∀i,i<hp.length->η[i]?=lO[g i]?:=by
  intro i hi;have aq:g i<lO.length:=by rw[hlen];exact hgH i hi
  simp only[η,alu,oY _ _ _ hi,alN,alM];rw[alo aq];simp[List.getD,aq]
 have fu:vI g η hp lO H:=⟨oF,eP⟩;have oW:∀b,aI η hp b->aI lO H b:=by
  intro b ⟨r,o,v,h1,h2,h3,h4⟩;have aq:r<hp.length:=(ali.1 h1).1;exact⟨g r,ji g o,v,oF r o h1,dO.2 h2,by rw[<-eP r aq];exact h3,h4⟩
 have NK:∀b o,kz lO H b o->kz η hp b o:=by
  intro b o hf;refine(aS b o).2 fun r v hr hb=>?_;have aq:r<hp.length:=by rw[<-ZA];exact(ali.1 hr).1
  obtain⟨o1,q1,q2⟩:=(aS b o).1 hf (g r) v (by rw[<-eP r aq];exact hr) hb;rw[oF r _ (alo aq)] at q1;obtain rfl:=alj q1;exact⟨_,alo aq,tR.1 q2⟩
 have NL:Dp w F η hp:=by
  refine⟨fun b o hb=>⟨(bu.bk b o hb).1,NK b o (bu.bk b o hb).2⟩,⟨ZA,fun r o v h1 h2=>?_,fun r r' o o' v v' b bL h1 h2 l1 l2 e1 e2 hb=>?_⟩,fun b hb=>bu.live b (oW b hb),bu.ju,fun b hb hl=>bu.gx b hb (oW b hl)⟩
  ·have aq:r<hp.length:=(ali.1 h1).1;exact fu.Wj (alv.1 cY o (alq h1)) (bu.heap.obj (g r) _ v (oF r o h1) (by rw[<-eP r aq];exact h2))
  ·have q1:r<hp.length:=(ali.1 h1).1;have q2:r' < hp.length:=(ali.1 h2).1;exact bu.heap.sep (g r) (g r') _ _ v v' b (fun he=>bL (Zz r r' q1 q2 he)) (oF r o h1) (oF r' o' h2) (dO.2 l1) (dO.2 l2) (by rw[<-eP r q1];exact e1) (by rw[<-eP r' q2];exact e2) hb
 refine(h.2 w F η bg NL (fu.unL aw hv)).mono fun e w' ⟨v,r,hp',aO,he,Zn,bc⟩=>?_;obtain⟨hle,C7,hoc⟩:=hR r hp' Zn;have Wk:aO.length=hp'.length:=bc.heap.len
 let m:=H.length+(hp'.length-hp.length)
 let C1:List Value:=DI g aO lO undef m
 have ae3:∀i i',i<hp'.length->i' < hp'.length->g i=g i'->i=i':=by
  intro i i' h1 h2 he
  by_cases q1:i<hp.length
  ·by_cases q2:i' < hp.length
   ·exact Zz i i' q1 q2 he
   ·have:=hgH i q1;have:=vF i' (by omega);omega
  ·by_cases q2:i' < hp.length
   ·have:=hgH i' q2;have:=vF i (by omega);omega
   ·have:=vF i (by omega);have:=vF i' (by omega);omega
 have hgm:∀i,i<hp'.length->g i<m:=by
  intro i hi
  by_cases q:i<hp.length
  ·have:=hgH i q;simp only[m];omega
  ·have:=vF i (by omega);simp only[m];omega
 have at1:∀{α:Type} {l L:List α} {d:α} {i:Nat},l.length=hp'.length->i<hp'.length->(DI g l L d m)[g i]?=l[i]?:=by
  intro α l L d i hl hi;rw[xh (hgm i hi),putAt]
  cases hf:uN g (g i) l.length with
  |none=>exact(xg hf i (by omega) rfl).elim
  |some i'=>
   obtain⟨q1,q2⟩:=nx hf;have:=ae3 i' i (by omega) hi q2;subst this;rw[alo (by omega)];simp[List.getD,show i' < l.length by omega]
 have at2:∀{α:Type} {l L:List α} {d:α} {j:Nat},l.length=hp'.length->L.length=H.length->(∀i,i<hp'.length->g i≠j)->(DI g l L d m)[j]?=L[j]?:=by
  intro α l L d j hl hL hj
  by_cases hm:j<m
  ·have hjH:j<H.length:=by
    refine Nat.lt_of_not_le fun je=>hj (hp.length+(j-H.length)) (by simp only[m] at hm;omega) ?_;rw[vF _ (by omega)];omega
   rw[xh hm,putAt]
   cases hf:uN g j l.length with
   |none=>simp only;rw[alo (by omega)];simp[List.getD,show j<L.length by omega]
   |some i'=>obtain⟨q1,q2⟩:=nx hf;exact(hj i' (by omega) q2).elim
  ·rw[alU (by rw[sf];omega),alU (by simp only[m] at hm;omega)]
 have o1:∀i o,hp'[i]?=some o->(jj g hp.length hp' H)[g i]?=some (ji g o):=by
  intro i o ho;rw[jj];have:=at1 (l:=hp'.map (ji g)) (L:=H) (d:=.dead) (i:=i) (by simp) (ali.1 ho).1;rw[this,alu,ho];rfl
 have v1:∀i,i<hp'.length->aO[i]?=C1[g i]?:=fun i hi=>(at1 (l:=aO) (L:=lO) (d:=undef) Wk hi).symm;have o2:∀j,(∀i,i<hp'.length->g i≠j)->(jj g hp.length hp' H)[j]?=H[j]?:=fun j hj=>at2 (l:=hp'.map (ji g)) (by simp) rfl hj;have v2:∀j,(∀i,i<hp'.length->g i≠j)->C1[j]?=lO[j]?:=fun j hj=>at2 (l:=aO) Wk hlen hj;have ZB:vI g aO hp' C1 (jj g hp.length hp' H):=⟨o1,v1⟩;have image:∀j,(∃i,i<hp'.length/\g i=j)\/∀i,i<hp'.length->g i≠j:=by
  intro j
  by_cases hj:∃i,i<hp'.length/\g i=j
  ·exact .inl hj
  ·exact .inr fun i hi he=>hj ⟨i,hi,he⟩
 have apart:∀{j:Nat} {o:ab} {u:Value} {b:Nat},(∀i,i<hp'.length->g i≠j)->H[j]?=some o->o.live->lO[j]?=some u->cZ u=some b->b<w.heap.size/\¬aI η hp b:=by
  intro j o u b hj h1 h2 h3 h4;refine⟨bu.live b ⟨j,o,u,h1,h2,h3,h4⟩,fun⟨r1,p1,z1,g1,g2,g3,g4⟩=>?_⟩;have aq:r1<hp.length:=(ali.1 g1).1;exact bu.heap.sep (g r1) j _ o z1 u b (hj r1 (by omega)) (oF r1 p1 g1) h1 (dO.2 g2) h2 (by rw[<-eP r1 aq];exact g3) h3 g4 h4
 have DA:∀b o,fA F w η hp w' aO hp' b o->fA F w lO H w' C1 (jj g hp.length hp' H) b o:=by
  intro b o ⟨h1,h2,h3⟩;refine⟨h1.imp id (Or.imp id (oW b)),h2,(aS b o).2 fun j u hr hb=>?_⟩;rcases image j with⟨i,hi,rfl⟩|hj
  ·rw[<-v1 i hi] at hr;obtain⟨p1,q1,q2⟩:=(aS b o).1 h3 i u hr hb;exact⟨_,o1 i p1 q1,tR.2 q2⟩
  ·rw[v2 j hj] at hr;rw[o2 j hj];have uG:j<H.length:=by rw[<-hlen];exact(ali.1 hr).1
   have ho:H[j]?=some H[j]:=alo uG;refine⟨H[j],ho,?_⟩;have key:H[j].live->F b o:=by
    intro hl;have ha:=apart hj ho hl hr hb;rcases h1 with h1|h1|h1
    ·exact h1
    ·omega
    ·exact(ha.2 h1).elim
   cases hk:H[j] with
   |dead=>exact True.intro
   |_=>
    rw[hk] at key ho;obtain⟨p1,q1,q2⟩:=(aS b o).1 (bu.bk b o (key True.intro)).2 j u hr hb;rw[ho] at q1;obtain rfl:=alj q1;exact q2
 have jg:∀{nc:List Value} {iC:List ab},Ext w' (fA F w η hp w' aO hp') nc iC w' (fA F w lO H w' C1 (jj g hp.length hp' H)) nc iC:=⟨fun _ _ _ _ h=>h,fun _ _ _ _ h=>h,DA,fun _ _ h=>h,fun _ _ h=>h,fun _ _ _ h=>h⟩;have qC:∀{i j:Nat},i<hp'.length->g i=j->j<H.length->i<hp.length:=by
  intro i j hi he hj;refine Nat.lt_of_not_le fun je=>?_;have:=vF i je;omega
 have fF:Ext w F lO H w' (fA F w lO H w' C1 (jj g hp.length hp' H)) C1 (jj g hp.length hp' H):=by
  refine⟨fun b o u hf hc=>bc.ext.cell b o u hf hc,fun b es c hf hc=>bc.ext.jt b es c hf hc,fun b o hf=>DA b o (bc.ext.bk b o hf),fun j a hr=>?_,fun j a hr=>?_,fun j k u ho=>?_⟩
  ·have uG:j<H.length:=by rw[<-hlen];exact(ali.1 hr).1
   rcases image j with⟨i,hi,rfl⟩|hj
   ·have ee:=qC hi rfl uG;rw[<-v1 i hi];exact bc.ext.ptr i a (by rw[eP i ee];exact hr)
   ·rw[v2 j hj];exact hr
  ·have uG:j<H.length:=by rw[<-hlen];exact(ali.1 hr).1
   rcases image j with⟨i,hi,rfl⟩|hj
   ·have ee:=qC hi rfl uG;rw[<-v1 i hi];exact bc.ext.mp i a (by rw[eP i ee];exact hr)
   ·rw[v2 j hj];exact hr
  ·have uG:j<H.length:=by
    unfold aR at ho;refine Nat.lt_of_not_le fun je=>?_;rw[alU je] at ho;exact ho
   rcases image j with⟨i,hi,rfl⟩|hj
   ·have ee:=qC hi rfl uG;have h1:aR η hp i k u:=(se (alo ee) (oF i _ (alo ee)) (eP i ee)).2 ho;have h2:=bc.ext.own i k u h1;exact(se (alo hi) (o1 i _ (alo hi)) (v1 i hi)).1 h2
   ·unfold aR at ho ⊢;rw[v2 j hj,o2 j hj];exact ho
 refine⟨v,rb g r,jj g hp.length hp' H,C1,he,⟨r,hp',Zn,rfl,rfl⟩,?_⟩;refine⟨⟨bc.keeps.os,bc.keeps.tape,bc.keeps.output,bc.keeps.size,fun k hk hx=>bc.keeps.block k hk fun hl=>hx (oW k hl)⟩,fF,⟨by rw[jj,sf,sf],fun j o u h1 h2=>?_,fun j j' p1 p2 z1 z2 b bL h1 h2 l1 l2 e1 e2 hb fJ=>?_⟩,fun b ⟨j,o,u,h1,h2,h3,h4⟩=>?_,(ZB.re C7 bc.rep).ext jg⟩
 ·rcases image j with⟨i,hi,rfl⟩|hj
  ·rw[o1 i _ (alo hi)] at h1;obtain rfl:=alj h1;rw[<-v1 i hi] at h2;exact(ZB.reO (alv.1 hoc _ (alH hi)) (bc.heap.obj i _ u (alo hi) h2)).ext jg (alp _) fun _ _ _=>rfl
  ·rw[o2 j hj] at h1;rw[v2 j hj] at h2
   by_cases hl:o.live
   ·exact(bu.heap.obj j o u h1 h2).ext fF bc.keeps.size fun b hb tP=>bc.keeps.block b tP (apart hj h1 hl h2 hb).2
   ·cases o<;>first|exact True.intro|exact(hl True.intro).elim
 ·have DB:∀{i j:Nat} {p1 p2:ab} {z1 z2:Value},i<hp'.length->(∀i,i<hp'.length->g i≠j)->hp'[i]?=some p1->H[j]?=some p2->p1.live->p2.live->aO[i]?=some z1->lO[j]?=some z2->cZ z1=some b->cZ z2=some b->False:=by
   intro i j p1 p2 z1 z2 hi hj h1 h2 l1 l2 e1 e2 hb fJ;have ha:=apart hj h2 l2 e2 fJ;rcases bc.bN b ⟨i,p1,z1,h1,l1,e1,hb⟩ with h5|h5
   ·omega
   ·exact ha.2 h5
  rcases image j with⟨i,hi,rfl⟩|hj
  ·rw[o1 i _ (alo hi)] at h1;obtain rfl:=alj h1;rw[<-v1 i hi] at e1;rcases image j' with⟨i',tE,rfl⟩|tA
   ·rw[o1 i' _ (alo tE)] at h2;obtain rfl:=alj h2;rw[<-v1 i' tE] at e2;exact bc.heap.sep i i' _ _ z1 z2 b (fun he=>bL (by rw[he])) (alo hi) (alo tE) (dO.1 l1) (dO.1 l2) e1 e2 hb fJ
   ·rw[o2 j' tA] at h2;rw[v2 j' tA] at e2;exact DB hi tA (alo hi) h2 (dO.1 l1) l2 e1 e2 hb fJ
  ·rw[o2 j hj] at h1;rw[v2 j hj] at e1;rcases image j' with⟨i',tE,rfl⟩|tA
   ·rw[o1 i' _ (alo tE)] at h2;obtain rfl:=alj h2;rw[<-v1 i' tE] at e2;exact DB tE hj (alo tE) h1 (dO.1 l2) l1 e2 e1 fJ hb
   ·rw[o2 j' tA] at h2;rw[v2 j' tA] at e2;exact bu.heap.sep j j' p1 p2 z1 z2 b bL h1 h2 l1 l2 e1 e2 hb fJ
 ·rcases image j with⟨i,hi,rfl⟩|hj
  ·rw[o1 i _ (alo hi)] at h1;obtain rfl:=alj h1;rw[<-v1 i hi] at h3;exact(bc.bN b ⟨i,_,u,alo hi,dO.1 h2,h3,h4⟩).imp id (oW b)
  ·rw[o2 j hj] at h1;rw[v2 j hj] at h3;exact .inr ⟨j,o,u,h1,h2,h3,h4⟩
end Go.Proofs.YtnkjkpmbgoehkaaGreat
