/- Texts of ours laid together for a claim: FilT. -/
import Derived.Laws.Cover3
import Derived.Test.YtjhanogfpkbamaaGreatDoorQ07
namespace Go.Proofs.YtjhanogfpkbamaaGreatDoor
open Go
set_option linter.unusedSimpArgs false
set_option linter.unusedVariables false
variable {G:Type} {Γ:Env G} {s s':AS G} {a:Act} {w w':World} {η:List Value} {hp:List af} {P:Program} {ops:Array Oper}
def k8 (s:AS G):Op→Option (Nat×List AV)
 | .call c=>(match c.callee with
  | .value x=>(match s.ev x with
   | .ck f caps=>some (f,c.args.toList.map s.ev++caps)
   |_=>none)
  |_=>none)
 |_=>none
def VU (az:Nat→Option TD) (ρ:Operand→AV):Op→Option AV
 | .slice T x none (some h) none=>(match az T,ρ x,ρ h with
  |some d,.ah (.slice none 0 0),.ah (.int _ n)=>(match d.kind with
   | .lO e=>if n=0∧(az e).isSome=true then some (.ah (.slice none 0 0)) else none
   |_=>none)
  |_,_,_=>none)
 | .call c=>(match c.callee,c.args.toList,c.argTypes.toList with
  | .builtin .cap,[x],[T]=>(match az T,ρ x with
   |some d,.ah (.slice none 0 0)=>(match d.kind with
    | .lO _=>some (.ah (.int .i64 0))
    |_=>none)
   |_,_=>none)
  |_,_,_=>none)
 |_=>none
theorem Hx {az:Nat→Option TD} (au:aT Γ.P az) {o:Oper} {r:AV} (h:VU az s.ev o.op=some r):gi Γ o s r:=by
 generalize ho:o.op=op at h
 unfold VU at h
 split at h
 ·rename_i T x h'
  split at h
  ·rename_i d k n hd hx hh
   split at h
   ·rename_i e hk
    split at h
    ·rename_i hn
     obtain⟨rfl,he⟩:=hn
     obtain rfl:=Option.some.inj h
     refine aS fun a w η hr=>?_
     obtain⟨d',eG⟩:=Option.isSome_iff_exists.1 he
     have hu:Γ.P.underlying T=some (.slice e):=by
      obtain⟨u,q2,q3⟩:=(au T d hd).jR
      rw[hk] at q3
      rw[q2];exact congrArg some q3
     have h1:=hr.ev x
     rw[hx] at h1
     have h1:=h1.aE
     have h2:=hr.ev h'
     rw[hh] at h2
     have h2:=h2.aE
     have rL:=(au e d' eG).run_sizeOf w
     have hs:=run_sliceBound (P:=Γ.P) w (v:=.int k 0) (k:=k) (n:=0) rfl (y:=0) (by omega) (by omega) .sliceAcap
     refine⟨.slice none 0 0,?_,.ah _⟩
     have gM:(Instr.sliceBounds true 0 0 none (some (.int k 0)) none).run Γ.P w=.ok (0,0,0) w:=by
      simp[Instr.sliceBounds,hs]
     simp only[execOp,ho,Instr.sliceAt,Sem.run_bind,run_underlying hu,Result.andThen_ok,Instr.slice,h1,h2,Option.map_none,aiv,gM,rL,Sem.run_pure]
     simp
    ·cases h
   ·cases h
  ·cases h
 ·rename_i c
  split at h
  ·rename_i x T hb hl hT
   split at h
   ·rename_i d hd hx
    split at h
    ·rename_i e hk
     obtain rfl:=Option.some.inj h
     refine aS fun a w η hr=>?_
     have hu:Γ.P.underlying T=some (.slice e):=by
      obtain⟨u,q2,q3⟩:=(au T d hd).jR
      rw[hk] at q3
      rw[q2];exact congrArg some q3
     have h1:=hr.ev x
     rw[hx] at h1
     have h1:=h1.aE
     have pW:c.argTypes=#[T]:=by rw[←aiF (xs:=c.argTypes),hT]
     have aI:c.args=#[x]:=by rw[←aiF (xs:=c.args),hl]
     refine⟨.int .i64 0,?_,.ah _⟩
     simp only[execOp,ho,resolve,hb,Sem.run_bind,Sem.run_pure,Result.andThen_ok,invoke,builtin,pW,aI,ajx,ais,aiY,h1]
     simp[Builtin.cap_,run_underlying hu,goInt]
    ·cases h
   ·cases h
  ·cases h
 ·cases h
def Hy (az:Nat→Option TD) (ρ:Operand→AV):Op→Option (List AV×Bool)
 | .binOp op T x y _=>(match az T,ρ x,ρ y with
  |some d,.sl els,.ah (.slice none 0 0)=>(match d.kind,op with
   | .lO _,.eql=>some (els,true)
   | .lO _,.neq=>some (els,false)
   |_,_=>none)
  |_,_,_=>none)
 |_=>none
theorem bR.nil {az:Nat→Option TD} (au:aT Γ.P az) {o:Oper} {els:List AV} {b0:Bool} (h:Hy az s.ev o.op=some (els,b0)) (hd:dB Γ.nt o.dst) {K:AS G→Prop} (hK:∀b:Bool,(els≠[]→b=!b0)→K (s.put o.dst (.ah (.bool b)))):bR Γ o s K:=by
 generalize ho:o.op=op at h
 unfold Hy at h
 split at h
 ·rename_i bop T x y T'
  split at h
  ·rename_i d mJ hdT hx hy
   have key:∀(e:Nat),d.kind=.lO e→(bop=.eql∧b0=true∨bop=.neq∧b0=false)→mJ=els→bR Γ o s K:=by
    intro e hk hop he
    subst he
    intro a w η Kc Qc zW hr
    have hu:Γ.P.underlying T=some (.slice e):=by
     obtain⟨u,q2,q3⟩:=(au T d hdT).jR
     rw[hk] at q3
     rw[q2];exact congrArg some q3
    have h1:=hr.ev x
    rw[hx] at h1
    have h2:=hr.ev y
    rw[hy] at h2
    have h2:=h2.aE
    have hv:∃ad l c,a.eval x=.slice ad l c∧(mJ≠[]→ad.isNone=false):=by
     generalize a.eval x=v at h1
     cases h1 with
     |pE=>exact⟨_,_,_,rfl,fun h=>(h rfl).elim⟩
     |sl size els b o c f hc hm hl aN hr=>exact⟨_,_,_,rfl,fun _=>rfl⟩
    obtain⟨ad,l,c,hv,bK⟩:=hv
    have hq:=run_equal_slice_nil (P:=Γ.P) w T e ad l c hu
    have gM:∃b:Bool,(mJ≠[]→b=!b0)∧(execOp a.eval o).run Γ.P w=.ok (.value (.bool b)) w:=by
     rcases hop with⟨rfl,rfl⟩|⟨rfl,rfl⟩
     ·refine⟨ad.isNone,fun h=>by rw[bK h];rfl,?_⟩
      simp only[execOp,ho,hv,h2,eqGuard,binOp,Sem.run_bind,aju,aij,if_false,hq,Result.andThen_ok,Sem.run_pure]
     ·refine⟨!ad.isNone,fun h=>by rw[bK h],?_⟩
      simp only[execOp,ho,hv,h2,eqGuard,binOp,Sem.run_bind,aju,aij,if_false,hq,Result.andThen_ok,Sem.run_pure]
    obtain⟨b,hb,hex⟩:=gM
    refine⟨fun _ _=>trivial,?_⟩
    rw[kP hex (.inl ⟨_,rfl⟩)]
    exact zW _ _ _ _ (hK b hb) (hr.put (cA hd) (.ah _))
   split at h
   ·rename_i e hk
    simp only[Option.some.injEq,Prod.mk.injEq] at h
    exact key e hk (.inl ⟨rfl,h.2.symm⟩) h.1
   ·rename_i e hk
    simp only[Option.some.injEq,Prod.mk.injEq] at h
    exact key e hk (.inr ⟨rfl,h.2.symm⟩) h.1
   ·cases h
  ·cases h
 ·cases h
theorem eM.XO {c:Operand} {x y:Code} {Q:Exit→AS G→Prop} {t:Bool} (h:s.ev c=.ah (.bool t)) (h1:t=true→eM Γ x Q s) (h2:t=false→eM Γ y Q s):eM Γ (.cond c x y) Q s:=
 eM.XK fun _ _ k1 k2=>by rw[h];exact⟨fun ht=>k1 (h1 ht),fun ht=>k2 (h2 ht)⟩
theorem eM.XP (aD:Γ.Ok) {az:Nat→Option TD} (au:aT Γ.P az) {nt:Nat} (dI:nt=Γ.nt) (hm:Γ.P.follows .mixedOrders=true) {id:Nat} {l:List Oper} {Q:Exit→AS G→Prop} (hd:yz l=true) (h:mV Γ az nt l.toArray (Q .normal) l s):eM Γ (.region id l.toArray true) Q s:=
 eM.draw aD hm hd (mV.sound aD au dI l s h)
end Go.Proofs.YtjhanogfpkbamaaGreatDoor
