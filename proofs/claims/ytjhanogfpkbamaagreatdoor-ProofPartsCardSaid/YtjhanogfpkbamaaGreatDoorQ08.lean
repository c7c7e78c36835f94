/- Texts of ours laid together for a claim: FilT. -/
import Derived.Laws.Cover3
import Derived.Test.YtjhanogfpkbamaaGreatDoorQ07
namespace Go.Proofs.YtjhanogfpkbamaaGreatDoor
open Go
set_option linter.unusedSimpArgs false
set_option linter.unusedVariables false
variable {G:Type} {Γ:Env G} {s s':AS G} {a:Act} {w w':World} {η:List Value} {hp:List AObj} {P:Program} {ops:Array Oper}
def callArgs (s:AS G):Op→Option (Nat×List AV)
 | .call c=>(match c.callee with
  | .value x=>(match s.ev x with
   | .clo f caps=>some (f,c.args.toList.map s.ev++caps)
   |_=>none)
  |_=>none)
 |_=>none
def xval (tab:Nat→Option TD) (ρ:Operand→AV):Op→Option AV
 | .slice T x none (some h) none=>(match tab T,ρ x,ρ h with
  |some d,.prim (.slice none 0 0),.prim (.int _ n)=>(match d.kind with
   | .slc e=>if n=0∧(tab e).isSome=true then some (.prim (.slice none 0 0)) else none
   |_=>none)
  |_,_,_=>none)
 | .call c=>(match c.callee,c.args.toList,c.argTypes.toList with
  | .builtin .cap,[x],[T]=>(match tab T,ρ x with
   |some d,.prim (.slice none 0 0)=>(match d.kind with
    | .slc _=>some (.prim (.int .i64 0))
    |_=>none)
   |_,_=>none)
  |_,_,_=>none)
 |_=>none
theorem xval_sound {tab:Nat→Option TD} (htab:TabOk Γ.P tab) {o:Oper} {r:AV} (h:xval tab s.ev o.op=some r):VRun Γ o s r:=by
 generalize ho:o.op=op at h
 unfold xval at h
 split at h
 ·rename_i T x h'
  split at h
  ·rename_i d k n hd hx hh
   split at h
   ·rename_i e hk
    split at h
    ·rename_i hn
     obtain⟨rfl,he⟩:=hn
     obtain rfl:=Option.some.inj h
     refine vrun_pure fun a w η hr=>?_
     obtain⟨d',hd'⟩:=Option.isSome_iff_exists.1 he
     have hu:Γ.P.underlying T=some (.slice e):=by
      obtain⟨u,q2,q3⟩:=(htab T d hd).und
      rw[hk] at q3
      rw[q2];exact congrArg some q3
     have h1:=hr.ev x
     rw[hx] at h1
     have h1:=h1.prim_inv
     have h2:=hr.ev h'
     rw[hh] at h2
     have h2:=h2.prim_inv
     have hsize:=(htab e d' hd').run_sizeOf w
     have hs:=run_sliceBound (P:=Γ.P) w (v:=.int k 0) (k:=k) (n:=0) rfl (y:=0) (by omega) (by omega) .sliceAcap
     refine⟨.slice none 0 0,?_,.prim _⟩
     have hrun:(Instr.sliceBounds true 0 0 none (some (.int k 0)) none).run Γ.P w=.ok (0,0,0) w:=by
      simp[Instr.sliceBounds,hs]
     simp only[execOp,ho,Instr.sliceAt,Sem.run_bind,run_underlying hu,Result.andThen_ok,Instr.slice,h1,h2,Option.map_none,Option.map_some,hrun,hsize,Sem.run_pure]
     simp
    ·cases h
   ·cases h
  ·cases h
 ·rename_i c
  split at h
  ·rename_i x T hb hl hT
   split at h
   ·rename_i d hd hx
    split at h
    ·rename_i e hk
     obtain rfl:=Option.some.inj h
     refine vrun_pure fun a w η hr=>?_
     have hu:Γ.P.underlying T=some (.slice e):=by
      obtain⟨u,q2,q3⟩:=(htab T d hd).und
      rw[hk] at q3
      rw[q2];exact congrArg some q3
     have h1:=hr.ev x
     rw[hx] at h1
     have h1:=h1.prim_inv
     have hargT:c.argTypes=#[T]:=by rw[←Array.toArray_toList (xs:=c.argTypes),hT]
     have hargs:c.args=#[x]:=by rw[←Array.toArray_toList (xs:=c.args),hl]
     refine⟨.int .i64 0,?_,.prim _⟩
     simp only[execOp,ho,resolve,hb,Sem.run_bind,Sem.run_pure,Result.andThen_ok,invoke,builtin,hargT,hargs,List.map_toArray,List.map_cons,List.map_nil,h1]
     simp[Builtin.cap_,run_underlying hu,goInt]
    ·cases h
   ·cases h
  ·cases h
 ·cases h
def nilCmp (tab:Nat→Option TD) (ρ:Operand→AV):Op→Option (List AV×Bool)
 | .binOp op T x y _=>(match tab T,ρ x,ρ y with
  |some d,.sl els,.prim (.slice none 0 0)=>(match d.kind,op with
   | .slc _,.eql=>some (els,true)
   | .slc _,.neq=>some (els,false)
   |_,_=>none)
  |_,_,_=>none)
 |_=>none
theorem ACall.nil {tab:Nat→Option TD} (htab:TabOk Γ.P tab) {o:Oper} {els:List AV} {b0:Bool} (h:nilCmp tab s.ev o.op=some (els,b0)) (hd:dstOk Γ.nt o.dst) {K:AS G→Prop} (hK:∀b:Bool,(els≠[]→b=!b0)→K (s.put o.dst (.prim (.bool b)))):ACall Γ o s K:=by
 generalize ho:o.op=op at h
 unfold nilCmp at h
 split at h
 ·rename_i bop T x y T'
  split at h
  ·rename_i d els' hdT hx hy
   have key:∀(e:Nat),d.kind=.slc e→(bop=.eql∧b0=true∨bop=.neq∧b0=false)→els'=els→ACall Γ o s K:=by
    intro e hk hop he
    subst he
    intro a w η Kc Qc hk' hr
    have hu:Γ.P.underlying T=some (.slice e):=by
     obtain⟨u,q2,q3⟩:=(htab T d hdT).und
     rw[hk] at q3
     rw[q2];exact congrArg some q3
    have h1:=hr.ev x
    rw[hx] at h1
    have h2:=hr.ev y
    rw[hy] at h2
    have h2:=h2.prim_inv
    have hv:∃ad l c,a.eval x=.slice ad l c∧(els'≠[]→ad.isNone=false):=by
     generalize a.eval x=v at h1
     cases h1 with
     |sl0=>exact⟨_,_,_,rfl,fun h=>(h rfl).elim⟩
     |sl size els b o c f hc hm hl hcell hr=>exact⟨_,_,_,rfl,fun _=>rfl⟩
    obtain⟨ad,l,c,hv,hne⟩:=hv
    have hq:=run_equal_slice_nil (P:=Γ.P) w T e ad l c hu
    have hrun:∃b:Bool,(els'≠[]→b=!b0)∧(execOp a.eval o).run Γ.P w=.ok (.value (.bool b)) w:=by
     rcases hop with⟨rfl,rfl⟩|⟨rfl,rfl⟩
     ·refine⟨ad.isNone,fun h=>by rw[hne h];rfl,?_⟩
      simp only[execOp,ho,hv,h2,eqGuard,binOp,Sem.run_bind,Bool.not_true,Bool.false_eq_true,if_false,hq,Result.andThen_ok,Sem.run_pure]
     ·refine⟨!ad.isNone,fun h=>by rw[hne h],?_⟩
      simp only[execOp,ho,hv,h2,eqGuard,binOp,Sem.run_bind,Bool.not_true,Bool.false_eq_true,if_false,hq,Result.andThen_ok,Sem.run_pure]
    obtain⟨b,hb,hex⟩:=hrun
    refine⟨fun _ _=>trivial,?_⟩
    rw[semAt_run hex (.inl ⟨_,rfl⟩)]
    exact hk' _ _ _ _ (hK b hb) (hr.put (dstOk_spec hd) (.prim _))
   split at h
   ·rename_i e hk
    simp only[Option.some.injEq,Prod.mk.injEq] at h
    exact key e hk (.inl ⟨rfl,h.2.symm⟩) h.1
   ·rename_i e hk
    simp only[Option.some.injEq,Prod.mk.injEq] at h
    exact key e hk (.inr ⟨rfl,h.2.symm⟩) h.1
   ·cases h
  ·cases h
 ·cases h
def CStep (Γ:Env G) (tab:Nat→Option TD) (nt:Nat) (o:Oper) (s:AS G) (next:AS G→Prop) (rest:AS G→Prop):Prop:=
 dstOk nt o.dst∧(match nilCmp tab s.ev o.op with
 |some (els,b0)=>∀b:Bool,(els≠[]→b=!b0)→next (s.put o.dst (.prim (.bool b)))
 |none=>(match xval tab s.ev o.op with
 |some r=>next (s.put o.dst r)
 |none=>(match pval tab s.hp s.ev o.op with
  |some (c,r)=>c∧next (s.put o.dst r)
  |none=>(match heff tab s.hp s.ev o.op with
   |some (c,r,hp')=>c∧next (AS.put { s with hp:=hp' } o.dst r)
   |none=>(match callArgs s o.op with
    |some (f,args)=>(∃R,Pure Γ.P f (args.map (AV.toData s.hp)) R∧∀r,R r→rest (s.put o.dst r))∨(∃R,HFn Γ.P f args s.hp R∧∀r hp',R r hp'→rest (AS.put { s with hp:=hp' } o.dst r))
    |none=>False)))))
def isRoom:Op→Bool
 | .call c=>(match c.callee,c.argTypes.toList with
  | .builtin .append,[T,T']=>if T=T' then false else true
  |_,_=>false)
 |_=>false
def ARunC (Γ:Env G) (tab:Nat→Option TD) (nt:Nat) (ops:Array Oper) (K:AS G→Prop):List Oper→AS G→Prop
 | [],s=>K s
 |o::rest,s=>if isRoom o.op=true then AList Γ ops K (o::rest) s else(match o.guard with
  |none=>CStep Γ tab nt o s (ARunC Γ tab nt ops K rest) (AList Γ ops K rest)
  |some (j,want)=>(match gslot ops s j with
   |some (some b)=>(b=want→CStep Γ tab nt o s (ARunC Γ tab nt ops K rest) (AList Γ ops K rest))∧(¬b=want→dstOk nt o.dst∧ARunC Γ tab nt ops K rest (s.put o.dst (.prim (.tuple #[]))))
   |some none=>dstOk nt o.dst∧ARunC Γ tab nt ops K rest (s.put o.dst (.prim (.tuple #[])))
   |none=>False))
theorem CStep.sound (hok:Γ.Ok) {tab:Nat→Option TD} (htab:TabOk Γ.P tab) {nt:Nat} (hnt:nt=Γ.nt) {o:Oper} {next rest K':AS G→Prop} (h:CStep Γ tab nt o s next rest) (h1:∀s,next s→K' s) (h2:∀s,rest s→K' s):ACall Γ o s K':=by
 subst hnt
 obtain⟨hd,h⟩:=h
 split at h
 ·rename_i els b0 hx
  exact ACall.nil htab hx hd fun b hb=>h1 _ (h b hb)
 split at h
 ·rename_i r hx
  exact ACall.val hok (xval_sound htab hx) hd (h1 _ h)
 split at h
 ·rename_i c r hp
  exact ACall.val hok (pval_sound hok htab hp h.1) hd (h1 _ h.2)
 ·split at h
  ·rename_i c r hp' he
   exact ACall.eff (heff_sound hok htab he h.1) hd (h1 _ h.2)
  ·split at h
   ·rename_i f args hargs
    unfold callArgs at hargs
    split at hargs
    ·rename_i c hc
     split at hargs
     ·rename_i x hx
      split at hargs
      ·rename_i f' caps hcl
       simp only[Option.some.injEq,Prod.mk.injEq] at hargs
       obtain⟨rfl,rfl⟩:=hargs
       rcases h with⟨R,g1,g2⟩|⟨R,g1,g2⟩
       ·exact ACall.pure hok hc hx hcl g1 hd fun r hr=>h2 _ (g2 r hr)
       ·exact ACall.heap hok hc hx hcl g1 hd fun r hp' hr=>h2 _ (g2 r hp' hr)
      ·cases hargs
     ·cases hargs
    ·cases hargs
   ·exact h.elim
theorem ARunC.sound (hok:Γ.Ok) {tab:Nat→Option TD} (htab:TabOk Γ.P tab) {nt:Nat} (hnt:nt=Γ.nt) {K:AS G→Prop}:∀(l:List Oper) (s:AS G),ARunC Γ tab nt ops K l s→AList Γ ops K l s:=by
 intro l
 induction l with
 |nil=>intro s h a w η Qc hQ hr;exact hQ s a w η h hr
 |cons o rest ih=>
  intro s h
  simp only[ARunC] at h
  split at h
  ·exact h
  split at h
  ·rename_i hg
   exact AList.step (fun a w η _=>by simp[Region.wanted,hg]) (CStep.sound hok htab hnt h ih fun _ h=>h)
  ·rename_i j want hg
   split at h
   ·rename_i b hb
    by_cases hbw:b=want
    ·exact AList.step (fun a w η hr=>by simp[Region.wanted,hg,gslot_yielded hr hb,hbw]) (CStep.sound hok htab hnt (h.1 hbw) ih fun _ h=>h)
    ·exact AList.skip (fun a w η hr=>by simp[Region.wanted,hg,gslot_yielded hr hb,hbw]) (by rw[←hnt];exact(h.2 hbw).1) (ih _ (h.2 hbw).2)
   ·rename_i hb
    exact AList.skip (fun a w η hr=>by simp[Region.wanted,hg,gslot_yielded hr hb]) (by rw[←hnt];exact h.1) (ih _ h.2)
   ·exact h.elim
theorem AWp.regionC (hok:Γ.Ok) {tab:Nat→Option TD} (htab:TabOk Γ.P tab) {nt:Nat} (hnt:nt=Γ.nt) {id:Nat} {l:List Oper} {Q:Exit→AS G→Prop} (h:ARunC Γ tab nt l.toArray (Q .normal) l s):AWp Γ (.region id l.toArray false) Q s:=by
 intro a w η hr
 exact wpIn_region_lit (ARunC.sound hok htab hnt l s h a w η _ (fun s' a' w' η' h1 h2=>⟨s',η',h1,h2⟩) hr)
theorem AWp.condB {c:Operand} {x y:Code} {Q:Exit→AS G→Prop} {t:Bool} (h:s.ev c=.prim (.bool t)) (h1:t=true→AWp Γ x Q s) (h2:t=false→AWp Γ y Q s):AWp Γ (.cond c x y) Q s:=
 AWp.condK fun _ _ k1 k2=>by rw[h];exact⟨fun ht=>k1 (h1 ht),fun ht=>k2 (h2 ht)⟩
structure CapsOk (caps:List AV):Prop where
 data:∀hp,caps.map (AV.toData hp)=caps
 dataV:∀hp,caps.map (AV.dataV hp)=caps
 cl:∀n,caps.all (AV.closedV n)=true
theorem AWp.drawD (hok:Γ.Ok) {tab:Nat→Option TD} (htab:TabOk Γ.P tab) {nt:Nat} (hnt:nt=Γ.nt) (hm:Γ.P.follows .mixedOrders=true) {id:Nat} {l:List Oper} {Q:Exit→AS G→Prop} (hd:drawOk l=true) (h:ARunD Γ tab nt l.toArray (Q .normal) l s):AWp Γ (.region id l.toArray true) Q s:=
 AWp.draw hok hm hd (ARunD.sound hok htab hnt l s h)
end Go.Proofs.YtjhanogfpkbamaaGreatDoor
