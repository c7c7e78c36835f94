/- Texts of ours laid together for a claim: VcP. -/
import Derived.Test.YtjhanogfpkbamaaGreatDoorQ20
namespace Go.Proofs.YtjhanogfpkbamaaGreatDoor
open Go
set_option linter.unusedSimpArgs false
set_option linter.unusedVariables false
variable {P:Program} {w w':World} {F F':Nat→Nat→Prop} {η η' ηH:List Value} {hp hp' H:List AObj} {g:Nat→Nat}
def renC (g:Nat→Nat):AV→AV
 | .own r n=>.own (g r) n
 | .ptr r o=>.ptr (g r) o
 | .mp r=>.mp (g r)
 |x=>x
def renV (g:Nat→Nat):AV→AV
 | .agg cs=>.agg (cs.map (renC g))
 |x=>renC g x
def renA (g:Nat→Nat):AV→AV
 | .tup vs=>.tup (vs.map (renV g))
 | .clo f cs=>.clo f (cs.map (renV g))
 | .mclo f cs=>.mclo f (cs.map (renV g))
 |x=>renV g x
def renO (g:Nat→Nat):AObj→AObj
 | .box cs=>.box (cs.map (renC g))
 | .bld r n=>.bld (g r) n
 |o=>o
theorem renO_live {o:AObj}:(renO g o).live↔o.live:=by cases o<;>exact Iff.rfl
theorem renO_foot {o:AObj} {k:Nat}:(renO g o).foot k↔o.foot k:=by cases o<;>exact Iff.rfl
theorem own_ren {r j n:Nat} {v:Value} {o:AObj} (h1:hp[r]?=some o) (h2:H[j]?=some (renO g o)) (h3:η[r]?=ηH[j]?):OwnOk η hp r n v↔OwnOk ηH H j n v:=by
 unfold OwnOk
 rw[h1,h2,h3]
 cases o<;>exact Iff.rfl
structure Emb (g:Nat→Nat) (η:List Value) (hp:List AObj) (ηH:List Value) (H:List AObj):Prop where
 obj:∀(i:Nat) (o:AObj),hp[i]?=some o→H[g i]?=some (renO g o)
 val:∀(i:Nat),i<hp.length→η[i]?=ηH[g i]?
theorem Emb.unC (e:Emb g η hp ηH H) {x:AV} {v:Value} (hc:x.closedC hp.length=true) (h:Rep w F ηH H (renC g x) v):Rep w F η hp x v:=by
 cases x with
 |own r m=>
  have hr:r<hp.length:=by simpa [AV.closedC] using hc
  cases h with
  |own _ _ _ h1 h2=>exact .own r m v h1 ((own_ren (List.getElem?_eq_getElem hr) (e.obj r _ (List.getElem?_eq_getElem hr)) (e.val r hr)).2 h2)
 |ptr r o=>
  have hr:r<hp.length:=by simpa [AV.closedC] using hc
  cases h with
  |ptr _ _ b h1=>exact .ptr r o b (by rw[e.val r hr];exact h1)
 |mp r=>
  have hr:r<hp.length:=by simpa [AV.closedC] using hc
  cases h with
  |mp _ b h1=>exact .mp r b (by rw[e.val r hr];exact h1)
 |agg cs=>simp[AV.closedC] at hc
 |tup cs=>simp[AV.closedC] at hc
 |clo f cs=>simp[AV.closedC] at hc
 |mclo f cs=>simp[AV.closedC] at hc
 |mptr r n i z=>simp[AV.closedC] at hc
 |top=>exact .top v
 |prim u=>cases h;exact .prim _
 |fn u=>cases h with|fn _ h1=>exact .fn _ h1
 |sl els=>cases h with
  |sl0 a=>exact .sl0 a
  |sl size els b o c f hc hm hl hcell hr=>exact .sl size els b o c f hc hm hl hcell hr
 |clip els=>cases h with
  |clip0 a=>exact .clip0 a
  |clip size els b o f hm hl hcell hr=>exact .clip size els b o f hm hl hcell hr
 |eptr y off=>cases h with|eptr _ _ b o f hcell hr=>exact .eptr y off b o f hcell hr
 |mapv es=>cases h with|mapv b en c h1 h2 _ hl=>exact .mapv b en c h1 h2 _ hl
theorem Emb.reC (e:Emb g η hp ηH H) {x:AV} {v:Value} (hc:x.closedC hp.length=true) (h:Rep w F η hp x v):Rep w F ηH H (renC g x) v:=by
 cases x with
 |own r m=>
  have hr:r<hp.length:=by simpa [AV.closedC] using hc
  cases h with
  |own _ _ _ h1 h2=>exact .own (g r) m v h1 ((own_ren (List.getElem?_eq_getElem hr) (e.obj r _ (List.getElem?_eq_getElem hr)) (e.val r hr)).1 h2)
 |ptr r o=>
  have hr:r<hp.length:=by simpa [AV.closedC] using hc
  cases h with
  |ptr _ _ b h1=>exact .ptr (g r) o b (by rw[←e.val r hr];exact h1)
 |mp r=>
  have hr:r<hp.length:=by simpa [AV.closedC] using hc
  cases h with
  |mp _ b h1=>exact .mp (g r) b (by rw[←e.val r hr];exact h1)
 |agg cs=>simp[AV.closedC] at hc
 |tup cs=>simp[AV.closedC] at hc
 |clo f cs=>simp[AV.closedC] at hc
 |mclo f cs=>simp[AV.closedC] at hc
 |mptr r n i z=>simp[AV.closedC] at hc
 |top=>exact .top v
 |prim u=>cases h;exact .prim _
 |fn u=>cases h with|fn _ h1=>exact .fn _ h1
 |sl els=>cases h with
  |sl0 a=>exact .sl0 a
  |sl size els b o c f hc hm hl hcell hr=>exact .sl size els b o c f hc hm hl hcell hr
 |clip els=>cases h with
  |clip0 a=>exact .clip0 a
  |clip size els b o f hm hl hcell hr=>exact .clip size els b o f hm hl hcell hr
 |eptr y off=>cases h with|eptr _ _ b o f hcell hr=>exact .eptr y off b o f hcell hr
 |mapv es=>cases h with|mapv b en c h1 h2 _ hl=>exact .mapv b en c h1 h2 _ hl
theorem getElem?_map_inv {α β:Type} {f:α→β} {l:List α} {j:Nat} {y:β} (h:(l.map f)[j]?=some y):∃x,l[j]?=some x∧y=f x:=by
 rw[List.getElem?_map] at h
 cases hj:l[j]? with
 |none=>rw[hj] at h;cases h
 |some x=>rw[hj] at h;exact⟨x,rfl,(Option.some.inj h).symm⟩
theorem Emb.unV (e:Emb g η hp ηH H) {x:AV} {v:Value} (hc:x.closedV hp.length=true) (h:Rep w F ηH H (renV g x) v):Rep w F η hp x v:=by
 cases x with
 |agg cs=>
  cases h with
  |agg _ vs hl h1 hr=>
   refine .agg cs vs (by simpa using hl) h1 fun j y u hy hu=>e.unC (by simp only[AV.closedV,List.all_eq_true] at hc;exact hc y (List.mem_of_getElem? hy)) (hr j _ u (by rw[List.getElem?_map,hy];rfl) hu)
 |_=>exact e.unC hc h
theorem Emb.reV (e:Emb g η hp ηH H) {x:AV} {v:Value} (hc:x.closedV hp.length=true) (h:Rep w F η hp x v):Rep w F ηH H (renV g x) v:=by
 cases x with
 |agg cs=>
  cases h with
  |agg _ vs hl h1 hr=>
   refine .agg _ vs (by simpa using hl) h1 fun j y u hy hu=>?_
   obtain⟨z,hz,rfl⟩:=getElem?_map_inv hy
   exact e.reC (by simp only[AV.closedV,List.all_eq_true] at hc;exact hc z (List.mem_of_getElem? hz)) (hr j z u hz hu)
 |_=>first|exact e.reC (x:=.top) hc h|(refine Eq.mpr ?_ (e.reC ?_ h)<;>first|rfl|exact hc)
theorem Emb.un (e:Emb g η hp ηH H) {x:AV} {v:Value} (hc:x.closed hp.length=true) (h:Rep w F ηH H (renA g x) v):Rep w F η hp x v:=by
 cases x with
 |tup cs=>
  cases h with
  |tup _ vs hl hr=>exact .tup cs vs (by simpa using hl) fun j y u hy hu=>e.unV (by simp only[AV.closed,List.all_eq_true] at hc;exact hc y (List.mem_of_getElem? hy)) (hr j _ u (by rw[List.getElem?_map,hy];rfl) hu)
 |clo f cs=>
  cases h with
  |clo _ _ vs hl hr=>exact .clo f cs vs (by simpa using hl) fun j y u hy hu=>e.unV (by simp only[AV.closed,List.all_eq_true] at hc;exact hc y (List.mem_of_getElem? hy)) (hr j _ u (by rw[List.getElem?_map,hy];rfl) hu)
 |mclo f cs=>
  cases h with
  |mclo _ _ vs hl hr=>exact .mclo f cs vs (by simpa using hl) fun j y u hy hu=>e.unV (by simp only[AV.closed,List.all_eq_true] at hc;exact hc y (List.mem_of_getElem? hy)) (hr j _ u (by rw[List.getElem?_map,hy];rfl) hu)
 |_=>exact e.unV hc h
theorem Emb.re (e:Emb g η hp ηH H) {x:AV} {v:Value} (hc:x.closed hp.length=true) (h:Rep w F η hp x v):Rep w F ηH H (renA g x) v:=by
 cases x with
 |tup cs=>
  cases h with
  |tup _ vs hl hr=>
   refine .tup _ vs (by simpa using hl) fun j y u hy hu=>?_
   obtain⟨z,hz,rfl⟩:=getElem?_map_inv hy
   exact e.reV (by simp only[AV.closed,List.all_eq_true] at hc;exact hc z (List.mem_of_getElem? hz)) (hr j z u hz hu)
 |clo f cs=>
  cases h with
  |clo _ _ vs hl hr=>
   refine .clo f _ vs (by simpa using hl) fun j y u hy hu=>?_
   obtain⟨z,hz,rfl⟩:=getElem?_map_inv hy
   exact e.reV (by simp only[AV.closed,List.all_eq_true] at hc;exact hc z (List.mem_of_getElem? hz)) (hr j z u hz hu)
 |mclo f cs=>
  cases h with
  |mclo _ _ vs hl hr=>
   refine .mclo f _ vs (by simpa using hl) fun j y u hy hu=>?_
   obtain⟨z,hz,rfl⟩:=getElem?_map_inv hy
   exact e.reV (by simp only[AV.closed,List.all_eq_true] at hc;exact hc z (List.mem_of_getElem? hz)) (hr j z u hz hu)
 |_=>first|exact e.reV (x:=.top) hc h|(refine Eq.mpr ?_ (e.reV ?_ h)<;>first|rfl|exact hc)
theorem Emb.unL (e:Emb g η hp ηH H):∀{xs:List AV} {vs:List Value},xs.all (AV.closed hp.length)=true→RepL w F ηH H (xs.map (renA g)) vs→RepL w F η hp xs vs
 | [],[],_,_=>True.intro
 |x::xs,v::vs,hc,h=>by
  rw[List.all_cons,Bool.and_eq_true] at hc
  exact⟨e.un hc.1 h.1,e.unL hc.2 h.2⟩
 | [],_::_,_,h=>h.elim
 |_::_,[],_,h=>h.elim
theorem Emb.unO (e:Emb g η hp ηH H) {o:AObj} {v:Value} (hc:o.closed hp.length=true) (h:ObjOk w F ηH H (renO g o) v):ObjOk w F η hp o v:=by
 cases o with
 |dead=>exact True.intro
 |box cs=>
  obtain⟨b,vs,T,e1,e2,e3,e4⟩:=h
  refine⟨b,vs,T,e1,e2,by simpa using e3,fun j x u hx hu=>?_⟩
  have h5:=e4 j (renC g x) u (by rw[List.getElem?_map,hx];rfl) hu
  exact⟨e.unC (List.all_eq_true.1 hc x (List.mem_of_getElem? hx)) h5.1,h5.2⟩
 |row z size els=>exact h
 |mapo es=>exact h
 |bld q k=>
  obtain⟨b,vs,e1,e2,e3,e4,u,e5,e6⟩:=h
  exact⟨b,vs,e1,e2,e3,e4,u,e5,e.unC (x:=.own q k) (by simpa [AV.closedC,AObj.closed] using hc) e6⟩
 |mrow z size els=>exact h
theorem Emb.reO (e:Emb g η hp ηH H) {o:AObj} {v:Value} (hc:o.closed hp.length=true) (h:ObjOk w F η hp o v):ObjOk w F ηH H (renO g o) v:=by
 cases o with
 |dead=>exact True.intro
 |box cs=>
  obtain⟨b,vs,T,e1,e2,e3,e4⟩:=h
  refine⟨b,vs,T,e1,e2,by simpa using e3,fun j x u hx hu=>?_⟩
  obtain⟨z,hz,rfl⟩:=getElem?_map_inv hx
  have h5:=e4 j z u hz hu
  exact⟨e.reC (List.all_eq_true.1 hc z (List.mem_of_getElem? hz)) h5.1,h5.2⟩
 |row z size els=>exact h
 |mapo es=>exact h
 |bld q k=>
  obtain⟨b,vs,e1,e2,e3,e4,u,e5,e6⟩:=h
  exact⟨b,vs,e1,e2,e3,e4,u,e5,e.reC (x:=.own q k) (by simpa [AV.closedC,AObj.closed] using hc) e6⟩
 |mrow z size els=>exact h
def findI (g:Nat→Nat) (j:Nat):Nat→Option Nat
 |0=>none
 |k+1=>(match Nat.beq (g k) j with|true=>some k|false=>findI g j k)
theorem findI_some {j:Nat}:∀{k i:Nat},findI g j k=some i→i<k∧g i=j
 |0,i,h=>by cases h
 |k+1,i,h=>by
  simp only[findI] at h
  split at h
  ·rename_i hb
   obtain rfl:=Option.some.inj h
   exact⟨by omega,Nat.eq_of_beq_eq_true hb⟩
  ·obtain⟨h1,h2⟩:=findI_some h
   exact⟨by omega,h2⟩
theorem findI_none {j:Nat}:∀{k:Nat},findI g j k=none→∀i,i<k→g i≠j
 |0,_,i,hi=>by omega
 |k+1,h,i,hi=>by
  simp only[findI] at h
  split at h
  ·cases h
  ·rename_i hb
   by_cases hk:i=k
   ·subst hk;intro hj;rw[hj,Nat.beq_refl] at hb;cases hb
   ·exact findI_none h i (by omega)
def putAt {α:Type} (g:Nat→Nat) (l L:List α) (d:α) (j:Nat):α:=match findI g j l.length with
 |some i=>l.getD i d
 |none=>L.getD j d
def countUp:Nat→Nat→List Nat
 |_,0=>[]
 |k,m+1=>k::countUp (k+1) m
def putL {α:Type} (g:Nat→Nat) (l L:List α) (d:α) (m:Nat):List α:=(countUp 0 m).map (putAt g l L d)
theorem countUp_len:∀(m k:Nat),(countUp k m).length=m
 |0,_=>rfl
 |m+1,k=>by rw[countUp,List.length_cons,countUp_len m]
theorem countUp_get:∀(m k j:Nat),j<m→(countUp k m)[j]?=some (k+j)
 |0,_,_,h=>by omega
 |m+1,k,0,_=>rfl
 |m+1,k,j+1,h=>by rw[countUp,List.getElem?_cons_succ,countUp_get m (k+1) j (by omega)];congr 1;omega
theorem putL_len {α:Type} {l L:List α} {d:α} {m:Nat}:(putL g l L d m).length=m:=by rw[putL,List.length_map,countUp_len]
theorem putL_get {α:Type} {l L:List α} {d:α} {m j:Nat} (h:j<m):(putL g l L d m)[j]?=some (putAt g l L d j):=by
 rw[putL,List.getElem?_map,countUp_get m 0 j h,Option.map_some,Nat.zero_add]
def backO (g:Nat→Nat) (n:Nat) (hp' H:List AObj):List AObj:=putL g (hp'.map (renO g)) H .dead (H.length+(hp'.length-n))
theorem HFn.embed {f:FuncId} {args:List AV} {R:AV→List AObj→Prop} (h:HFn P f args hp R) (hobj:∀(i:Nat) (o:AObj),hp[i]?=some o→H[g i]?=some (renO g o))
  (hinj:∀i i',i<hp.length→i' < hp.length→g i=g i'→i=i') (hnew:∀i,hp.length≤i→g i=H.length+(i-hp.length))
  (hargs:args.all (AV.closed hp.length)=true) (hcl:hp.all (AObj.closed hp.length)=true)
  (hR:∀r hp',R r hp'→hp.length≤hp'.length∧r.closed hp'.length=true∧hp'.all (AObj.closed hp'.length)=true):
  HFn P f (args.map (renA g)) H (fun r2 H2=>∃r hp',R r hp'∧r2=renA g r∧H2=backO g hp.length hp' H):=by
 refine⟨h.1,fun w F ηH vals hpre hv=>?_⟩
 have hlen:ηH.length=H.length:=hpre.heap.len
 have hgH:∀i,i<hp.length→g i<H.length:=fun i hi=>(List.getElem?_eq_some_iff.1 (hobj i _ (List.getElem?_eq_getElem hi))).1
 let η:List Value:=(countUp 0 hp.length).map fun i=>ηH.getD (g i) undef
 have hηl:η.length=hp.length:=by simp[η,countUp_len]
 have hη:∀i,i<hp.length→η[i]?=ηH[g i]?:=by
  intro i hi
  have hlt:g i<ηH.length:=by rw[hlen];exact hgH i hi
  simp only[η,List.getElem?_map,countUp_get _ _ _ hi,Option.map_some,Nat.zero_add]
  rw[List.getElem?_eq_getElem hlt];simp[List.getD,hlt]
 have emb:Emb g η hp ηH H:=⟨hobj,hη⟩
 have live1:∀b,LiveBlk η hp b→LiveBlk ηH H b:=by
  intro b ⟨r,o,v,h1,h2,h3,h4⟩
  have hlt:r<hp.length:=(List.getElem?_eq_some_iff.1 h1).1
  exact⟨g r,renO g o,v,hobj r o h1,renO_live.2 h2,by rw[←hη r hlt];exact h3,h4⟩
 have objF1:∀b o,ObjF ηH H b o→ObjF η hp b o:=by
  intro b o hf
  refine(objF_iff b o).2 fun r v hr hb=>?_
  have hlt:r<hp.length:=by rw[←hηl];exact(List.getElem?_eq_some_iff.1 hr).1
  obtain⟨o1,q1,q2⟩:=(objF_iff b o).1 hf (g r) v (by rw[←hη r hlt];exact hr) hb
  rw[hobj r _ (List.getElem?_eq_getElem hlt)] at q1
  obtain rfl:=Option.some.inj q1
  exact⟨_,List.getElem?_eq_getElem hlt,renO_foot.1 q2⟩
 have hpre1:HPre w F η hp:=by
  refine⟨fun b o hb=>⟨(hpre.foot b o hb).1,objF1 b o (hpre.foot b o hb).2⟩,⟨hηl,fun r o v h1 h2=>?_,fun r r' o o' v v' b hne h1 h2 l1 l2 e1 e2 hb=>?_⟩,fun b hb=>hpre.live b (live1 b hb),hpre.glob,fun b hb hl=>hpre.gx b hb (live1 b hl)⟩
  ·have hlt:r<hp.length:=(List.getElem?_eq_some_iff.1 h1).1
   exact emb.unO (List.all_eq_true.1 hcl o (List.mem_of_getElem? h1)) (hpre.heap.obj (g r) _ v (hobj r o h1) (by rw[←hη r hlt];exact h2))
  ·have q1:r<hp.length:=(List.getElem?_eq_some_iff.1 h1).1
   have q2:r' < hp.length:=(List.getElem?_eq_some_iff.1 h2).1
   exact hpre.heap.sep (g r) (g r') _ _ v v' b (fun he=>hne (hinj r r' q1 q2 he)) (hobj r o h1) (hobj r' o' h2) (renO_live.2 l1) (renO_live.2 l2) (by rw[←hη r q1];exact e1) (by rw[←hη r' q2];exact e2) hb
 refine(h.2 w F η vals hpre1 (emb.unL hargs hv)).mono fun e w' ⟨v,r,hp',η',he,hRr,hpost⟩=>?_
 obtain⟨hle,hrc,hoc⟩:=hR r hp' hRr
 have hη'l:η'.length=hp'.length:=hpost.heap.len
 let m:=H.length+(hp'.length-hp.length)
 let η2:List Value:=putL g η' ηH undef m
 have inj2:∀i i',i<hp'.length→i' < hp'.length→g i=g i'→i=i':=by
  intro i i' h1 h2 he
  by_cases q1:i<hp.length
  ·by_cases q2:i' < hp.length
   ·exact hinj i i' q1 q2 he
   ·have:=hgH i q1;have:=hnew i' (by omega);omega
  ·by_cases q2:i' < hp.length
   ·have:=hgH i' q2;have:=hnew i (by omega);omega
   ·have:=hnew i (by omega);have:=hnew i' (by omega);omega
 have hgm:∀i,i<hp'.length→g i<m:=by
  intro i hi
  by_cases q:i<hp.length
  ·have:=hgH i q;simp only[m];omega
  ·have:=hnew i (by omega);simp only[m];omega
 have at1:∀{α:Type} {l L:List α} {d:α} {i:Nat},l.length=hp'.length→i<hp'.length→(putL g l L d m)[g i]?=l[i]?:=by
  intro α l L d i hl hi
  rw[putL_get (hgm i hi),putAt]
  cases hf:findI g (g i) l.length with
  |none=>exact(findI_none hf i (by omega) rfl).elim
  |some i'=>
   obtain⟨q1,q2⟩:=findI_some hf
   have:=inj2 i' i (by omega) hi q2
   subst this
   rw[List.getElem?_eq_getElem (by omega)];simp[List.getD,show i' < l.length by omega]
 have at2:∀{α:Type} {l L:List α} {d:α} {j:Nat},l.length=hp'.length→L.length=H.length→(∀i,i<hp'.length→g i≠j)→(putL g l L d m)[j]?=L[j]?:=by
  intro α l L d j hl hL hj
  by_cases hm:j<m
  ·have hjH:j<H.length:=by
    refine Nat.lt_of_not_le fun hge=>hj (hp.length+(j-H.length)) (by simp only[m] at hm;omega) ?_
    rw[hnew _ (by omega)];omega
   rw[putL_get hm,putAt]
   cases hf:findI g j l.length with
   |none=>simp only;rw[List.getElem?_eq_getElem (by omega)];simp[List.getD,show j<L.length by omega]
   |some i'=>obtain⟨q1,q2⟩:=findI_some hf;exact(hj i' (by omega) q2).elim
  ·rw[List.getElem?_eq_none (by rw[putL_len];omega),List.getElem?_eq_none (by simp only[m] at hm;omega)]
 have o1:∀i o,hp'[i]?=some o→(backO g hp.length hp' H)[g i]?=some (renO g o):=by
  intro i o ho
  rw[backO]
  have:=at1 (l:=hp'.map (renO g)) (L:=H) (d:=.dead) (i:=i) (by simp) (List.getElem?_eq_some_iff.1 ho).1
  rw[this,List.getElem?_map,ho];rfl
 have v1:∀i,i<hp'.length→η'[i]?=η2[g i]?:=fun i hi=>(at1 (l:=η') (L:=ηH) (d:=undef) hη'l hi).symm
 have o2:∀j,(∀i,i<hp'.length→g i≠j)→(backO g hp.length hp' H)[j]?=H[j]?:=fun j hj=>at2 (l:=hp'.map (renO g)) (by simp) rfl hj
 have v2:∀j,(∀i,i<hp'.length→g i≠j)→η2[j]?=ηH[j]?:=fun j hj=>at2 (l:=η') hη'l hlen hj
 have emb2:Emb g η' hp' η2 (backO g hp.length hp' H):=⟨o1,v1⟩
 have image:∀j,(∃i,i<hp'.length∧g i=j)∨∀i,i<hp'.length→g i≠j:=by
  intro j
  by_cases hj:∃i,i<hp'.length∧g i=j
  ·exact .inl hj
  ·exact .inr fun i hi he=>hj ⟨i,hi,he⟩
 have apart:∀{j:Nat} {o:AObj} {u:Value} {b:Nat},(∀i,i<hp'.length→g i≠j)→H[j]?=some o→o.live→ηH[j]?=some u→blk u=some b→b<w.heap.size∧¬LiveBlk η hp b:=by
  intro j o u b hj h1 h2 h3 h4
  refine⟨hpre.live b ⟨j,o,u,h1,h2,h3,h4⟩,fun⟨r1,p1,z1,g1,g2,g3,g4⟩=>?_⟩
  have hlt:r1<hp.length:=(List.getElem?_eq_some_iff.1 g1).1
  exact hpre.heap.sep (g r1) j _ o z1 u b (hj r1 (by omega)) (hobj r1 p1 g1) h1 (renO_live.2 g2) h2 (by rw[←hη r1 hlt];exact g3) h3 g4 h4
 have ontoF:∀b o,OntoH F w η hp w' η' hp' b o→OntoH F w ηH H w' η2 (backO g hp.length hp' H) b o:=by
  intro b o ⟨h1,h2,h3⟩
  refine⟨h1.imp id (Or.imp id (live1 b)),h2,(objF_iff b o).2 fun j u hr hb=>?_⟩
  rcases image j with⟨i,hi,rfl⟩|hj
  ·rw[←v1 i hi] at hr
   obtain⟨p1,q1,q2⟩:=(objF_iff b o).1 h3 i u hr hb
   exact⟨_,o1 i p1 q1,renO_foot.2 q2⟩
  ·rw[v2 j hj] at hr
   rw[o2 j hj]
   have hjl:j<H.length:=by rw[←hlen];exact(List.getElem?_eq_some_iff.1 hr).1
   have ho:H[j]?=some H[j]:=List.getElem?_eq_getElem hjl
   refine⟨H[j],ho,?_⟩
   have key:H[j].live→F b o:=by
    intro hl
    have ha:=apart hj ho hl hr hb
    rcases h1 with h1|h1|h1
    ·exact h1
    ·omega
    ·exact(ha.2 h1).elim
   cases hk:H[j] with
   |dead=>exact True.intro
   |_=>
    rw[hk] at key ho
    obtain⟨p1,q1,q2⟩:=(objF_iff b o).1 (hpre.foot b o (key True.intro)).2 j u hr hb
    rw[ho] at q1
    obtain rfl:=Option.some.inj q1
    exact q2
 have hsame:∀{η1:List Value} {hp1:List AObj},Ext w' (OntoH F w η hp w' η' hp') η1 hp1 w' (OntoH F w ηH H w' η2 (backO g hp.length hp' H)) η1 hp1:=⟨fun _ _ _ _ h=>h,fun _ _ _ _ h=>h,ontoF,fun _ _ h=>h,fun _ _ h=>h,fun _ _ _ h=>h⟩
 have old:∀{i j:Nat},i<hp'.length→g i=j→j<H.length→i<hp.length:=by
  intro i j hi he hj
  refine Nat.lt_of_not_le fun hge=>?_
  have:=hnew i hge;omega
 have hext:Ext w F ηH H w' (OntoH F w ηH H w' η2 (backO g hp.length hp' H)) η2 (backO g hp.length hp' H):=by
  refine⟨fun b o u hf hc=>hpost.ext.cell b o u hf hc,fun b es c hf hc=>hpost.ext.mapb b es c hf hc,fun b o hf=>ontoF b o (hpost.ext.foot b o hf),fun j a hr=>?_,fun j a hr=>?_,fun j k u ho=>?_⟩
  ·have hjl:j<H.length:=by rw[←hlen];exact(List.getElem?_eq_some_iff.1 hr).1
   rcases image j with⟨i,hi,rfl⟩|hj
   ·have hin:=old hi rfl hjl
    rw[←v1 i hi];exact hpost.ext.ptr i a (by rw[hη i hin];exact hr)
   ·rw[v2 j hj];exact hr
  ·have hjl:j<H.length:=by rw[←hlen];exact(List.getElem?_eq_some_iff.1 hr).1
   rcases image j with⟨i,hi,rfl⟩|hj
   ·have hin:=old hi rfl hjl
    rw[←v1 i hi];exact hpost.ext.mp i a (by rw[hη i hin];exact hr)
   ·rw[v2 j hj];exact hr
  ·have hjl:j<H.length:=by
    unfold OwnOk at ho
    refine Nat.lt_of_not_le fun hge=>?_
    rw[List.getElem?_eq_none hge] at ho
    exact ho
   rcases image j with⟨i,hi,rfl⟩|hj
   ·have hin:=old hi rfl hjl
    have h1:OwnOk η hp i k u:=(own_ren (List.getElem?_eq_getElem hin) (hobj i _ (List.getElem?_eq_getElem hin)) (hη i hin)).2 ho
    have h2:=hpost.ext.own i k u h1
    exact(own_ren (List.getElem?_eq_getElem hi) (o1 i _ (List.getElem?_eq_getElem hi)) (v1 i hi)).1 h2
   ·unfold OwnOk at ho ⊢
    rw[v2 j hj,o2 j hj];exact ho
 refine⟨v,renA g r,backO g hp.length hp' H,η2,he,⟨r,hp',hRr,rfl,rfl⟩,?_⟩
 refine⟨⟨hpost.keeps.os,hpost.keeps.tape,hpost.keeps.output,hpost.keeps.size,fun k hk hx=>hpost.keeps.block k hk fun hl=>hx (live1 k hl)⟩,hext,⟨by rw[backO,putL_len,putL_len],fun j o u h1 h2=>?_,fun j j' p1 p2 z1 z2 b hne h1 h2 l1 l2 e1 e2 hb hb'=>?_⟩,fun b ⟨j,o,u,h1,h2,h3,h4⟩=>?_,(emb2.re hrc hpost.rep).ext hsame⟩
 ·rcases image j with⟨i,hi,rfl⟩|hj
  ·rw[o1 i _ (List.getElem?_eq_getElem hi)] at h1
   obtain rfl:=Option.some.inj h1
   rw[←v1 i hi] at h2
   exact(emb2.reO (List.all_eq_true.1 hoc _ (List.getElem_mem hi)) (hpost.heap.obj i _ u (List.getElem?_eq_getElem hi) h2)).ext hsame (Nat.le_refl _) fun _ _ _=>rfl
  ·rw[o2 j hj] at h1
   rw[v2 j hj] at h2
   by_cases hl:o.live
   ·exact(hpre.heap.obj j o u h1 h2).ext hext hpost.keeps.size fun b hb hlt'=>hpost.keeps.block b hlt' (apart hj h1 hl h2 hb).2
   ·cases o<;>first|exact True.intro|exact(hl True.intro).elim
 ·have cross:∀{i j:Nat} {p1 p2:AObj} {z1 z2:Value},i<hp'.length→(∀i,i<hp'.length→g i≠j)→hp'[i]?=some p1→H[j]?=some p2→p1.live→p2.live→η'[i]?=some z1→ηH[j]?=some z2→blk z1=some b→blk z2=some b→False:=by
   intro i j p1 p2 z1 z2 hi hj h1 h2 l1 l2 e1 e2 hb hb'
   have ha:=apart hj h2 l2 e2 hb'
   rcases hpost.mine b ⟨i,p1,z1,h1,l1,e1,hb⟩ with h5|h5
   ·omega
   ·exact ha.2 h5
  rcases image j with⟨i,hi,rfl⟩|hj
  ·rw[o1 i _ (List.getElem?_eq_getElem hi)] at h1
   obtain rfl:=Option.some.inj h1
   rw[←v1 i hi] at e1
   rcases image j' with⟨i',hi',rfl⟩|hj'
   ·rw[o1 i' _ (List.getElem?_eq_getElem hi')] at h2
    obtain rfl:=Option.some.inj h2
    rw[←v1 i' hi'] at e2
    exact hpost.heap.sep i i' _ _ z1 z2 b (fun he=>hne (by rw[he])) (List.getElem?_eq_getElem hi) (List.getElem?_eq_getElem hi') (renO_live.1 l1) (renO_live.1 l2) e1 e2 hb hb'
   ·rw[o2 j' hj'] at h2
    rw[v2 j' hj'] at e2
    exact cross hi hj' (List.getElem?_eq_getElem hi) h2 (renO_live.1 l1) l2 e1 e2 hb hb'
  ·rw[o2 j hj] at h1
   rw[v2 j hj] at e1
   rcases image j' with⟨i',hi',rfl⟩|hj'
   ·rw[o1 i' _ (List.getElem?_eq_getElem hi')] at h2
    obtain rfl:=Option.some.inj h2
    rw[←v1 i' hi'] at e2
    exact cross hi' hj (List.getElem?_eq_getElem hi') h1 (renO_live.1 l2) l1 e2 e1 hb' hb
   ·rw[o2 j' hj'] at h2
    rw[v2 j' hj'] at e2
    exact hpre.heap.sep j j' p1 p2 z1 z2 b hne h1 h2 l1 l2 e1 e2 hb hb'
 ·rcases image j with⟨i,hi,rfl⟩|hj
  ·rw[o1 i _ (List.getElem?_eq_getElem hi)] at h1
   obtain rfl:=Option.some.inj h1
   rw[←v1 i hi] at h3
   exact(hpost.mine b ⟨i,_,u,List.getElem?_eq_getElem hi,renO_live.1 h2,h3,h4⟩).imp id (live1 b)
  ·rw[o2 j hj] at h1
   rw[v2 j hj] at h3
   exact .inr ⟨j,o,u,h1,h2,h3,h4⟩
end Go.Proofs.YtjhanogfpkbamaaGreatDoor
