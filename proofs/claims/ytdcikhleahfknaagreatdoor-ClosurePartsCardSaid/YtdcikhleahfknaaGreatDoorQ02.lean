/- Texts of ours laid together for a claim: FilN. -/
import Derived.OrdersIn
import Derived.Test.YtdcikhleahfknaaGreatDoorQ01
namespace Go.Proofs.YtdcikhleahfknaaGreatDoor
open Go
set_option linter.unusedSimpArgs false
set_option linter.unusedVariables false
variable {G:Type} {Γ:Env G} {s s':AS G} {a:Act} {w w':World} {η:List Value} {hp:List af} {P:Program}
def Env.dA (Γ:Env G):Fence:={ fn:=fun _=>True,depth:=none,alive:=false,round:=Γ.vQ }
theorem pk {ρ:Operand→Value} {o:Oper} {c:Call} (ho:o.op=.defer c) (w w':World) (v:Value):(execOp ρ o).run P w ≠ .ok (.value v) w'∧(execOp ρ o).run P w ≠ .ok .skip w':=by
 simp only[execOp,ho,Sem.run_bind]
 cases (resolve ρ c o.type).run P w<;>simp[Result.andThen]
theorem ic {ro:Option Nat} {ρ:Operand→Value} {o:Oper} {w w':World} {n:Next} (h:(execOp ρ o).run P w=.ok n w') (hn:(∃v,n=.value v)∨n=.skip):(o.semAt ro ρ).run P w=.ok n w':=by
 by_cases hd:∃c,o.op=.defer c
 ·obtain⟨c,hc⟩:=hd
  rcases hn with⟨v,rfl⟩|rfl
  ·exact((pk hc w w' v).1 h).elim
  ·exact((pk hc w w' undef).2 h).elim
 ·rw[Oper.semAt_eq ro ρ o fun c hc=>hd ⟨c,hc⟩];exact h
def cw (nt:Nat):Option Nat→Prop
 |none=>True
 |some d=>d<nt
theorem bG {nt:Nat} {d:Option Nat} (h:cw nt d):∀t,d=some t→t<nt:=by
 intro t ht;subst ht;exact h
def bn (Γ:Env G) (o:Oper) (s:AS G) (K:AS G→Prop):Prop:=
 ∀a w η (Kc:Act→World→Prop) (Qc:Exit→Act→World→Prop),(∀s' a' w' aM,K s'→Rel Γ s' a' w' aM→Kc a' w')→Rel Γ s a w η→o.wpIn Γ.dA 0 Γ.P a w Kc Qc
theorem bn.val (aq:Γ.Ok) {o:Oper} {r:AV} {K:AS G→Prop} (hv:ee Γ o s r) (hd:cw Γ.nt o.dst) (hK:K (s.put o.dst r)):bn Γ o s K:=by
 intro a w η Kc Qc hk hr
 obtain⟨v,w',h1,h2,h3⟩:=hv a w η hr
 refine⟨fun _ _=>trivial,?_⟩
 rw[ic h1 (.inl ⟨v,rfl⟩)]
 exact hk _ _ _ _ hK ((hr.same aq h2).put (bG hd) h3)
theorem bn.zB {o:Oper} {r:AV} {hp':List af} {K:AS G→Prop} (hv:eA Γ o s r hp') (hd:cw Γ.nt o.dst) (hK:K (AS.put { s with hp:=hp' } o.dst r)):bn Γ o s K:=by
 intro a w η Kc Qc hk hr
 obtain⟨v,w',aM,h1,h2,h3⟩:=hv a w η hr
 refine⟨fun _ _=>trivial,?_⟩
 rcases h1 with h1|⟨h1,rfl⟩
 ·rw[ic h1 (.inl ⟨v,rfl⟩)]
  exact hk _ _ _ _ hK (h2.put (bG hd) h3)
 ·rw[ic h1 (.inr rfl)]
  exact hk _ _ _ _ hK (h2.put (bG hd) h3)
def eY (Γ:Env G) (ops:Array Oper) (K:AS G→Prop) (l:List Oper) (s:AS G):Prop:=
 ∀a w η (Qc:Exit→Act→World→Prop),(∀s' a' w' aM,K s'→Rel Γ s' a' w' aM→Qc .normal a' w')→Rel Γ s a w η→wpListIn Γ.dA 0 Γ.P ops Qc l a w
def gA (ops:Array Oper) (s:AS G) (j:Nat):Option (Option Bool):=
 match (ops[j]?).bind (·.dst) with
 |some d=>(match s.tmps d with | .ae (.bool b)=>some (some b) | .ae (.tuple _)=>some none|_=>none)
 |none=>none
theorem dj {ops:Array Oper} (hr:Rel Γ s a w η) {j:Nat} {b:Option Bool} (h:gA ops s j=some b):yielded ops a.tmps j=b:=by
 unfold gA at h
 split at h
 ·rename_i d hd
  have vY:=hr.tmps d
  split at h
  ·rename_i b' hb
   obtain rfl:=Option.some.inj h
   rw[hb] at vY
   have hv:=vY.ao
   unfold yielded
   rw[hd]
   simp only[Option.bind_some]
   cases ht:a.tmps[d]? with
   |none=>simp[Array.getD_eq_getD_getElem?,ht,undef] at hv
   |some v=>simp[Array.getD_eq_getD_getElem?,ht] at hv;subst hv;rfl
  ·rename_i b' hb
   obtain rfl:=Option.some.inj h
   rw[hb] at vY
   have hv:=vY.ao
   unfold yielded
   rw[hd]
   simp only[Option.bind_some]
   cases ht:a.tmps[d]? with
   |none=>rfl
   |some v=>simp[Array.getD_eq_getD_getElem?,ht] at hv;subst hv;rfl
  ·cases h
 ·cases h
theorem eY.step {ops:Array Oper} {K:AS G→Prop} {o:Oper} {rest:List Oper} (hg:∀a w η,Rel Γ s a w η→Region.wanted o (yielded ops a.tmps)=true) (h:bn Γ o s (eY Γ ops K rest)):eY Γ ops K (o::rest) s:=by
 intro a w η Qc hQ hr
 simp only[wpListIn]
 rw[if_pos (hg a w η hr)]
 exact h a w η _ Qc (fun s' a' w' aM hs dM=>hs a' w' aM Qc hQ dM) hr
theorem eY.skip {ops:Array Oper} {K:AS G→Prop} {o:Oper} {rest:List Oper} (hg:∀a w η,Rel Γ s a w η→Region.wanted o (yielded ops a.tmps)=false) (hd:cw Γ.nt o.dst) (h:eY Γ ops K rest (s.put o.dst (.ae (.tuple #[])))):eY Γ ops K (o::rest) s:=by
 intro a w η Qc hQ hr
 simp only[wpListIn]
 rw[if_neg (by rw[hg a w η hr];simp)]
 exact⟨fun _ _=>trivial,h _ w η Qc hQ (hr.put (bG hd) (.ae _))⟩
def dq (Γ:Env G) (c:Code) (Q:Exit→AS G→Prop) (s:AS G):Prop:=
 ∀a w η,Rel Γ s a w η→c.wpIn Γ.dA 0 Γ.P (fun e a' w'=>∃s' aM,Q e s'∧Rel Γ s' a' w' aM) a w
def n8 (next:AS G→Prop) (Q:Exit→AS G→Prop):Exit→AS G→Prop
 | .normal,s=>next s
 |e,s=>Q e s
def tD (id:Nat) (Q:Exit→AS G→Prop):Exit→AS G→Prop
 | .exit P3,s=>if P3=id then Q .normal s else Q (.exit P3) s
 |e,s=>Q e s
variable {Q:Exit→AS G→Prop}
theorem dq.Wh {x y:Code} (h:∀K:AS G→Prop,(∀s,dq Γ y Q s→K s)→dq Γ x (n8 K Q) s):dq Γ (.seq x y) Q s:=by
 intro a w η hr
 refine wpIn_seq (wpIn_mono (h _ (fun _ h=>h) a w η hr) fun e a' w' hq=>?_)
 obtain⟨s',aM,h1,h2⟩:=hq
 cases e with
 |normal=>exact h1 a' w' aM h2
 |_=>exact⟨s',aM,h1,h2⟩
theorem dq.skip (h:Q .normal s):dq Γ .skip Q s:=fun _ _ η hr=>wpIn_skip ⟨s,η,h,hr⟩
theorem dq.exit {id:Nat} (h:Q (.exit id) s):dq Γ (.exit id) Q s:=fun _ _ η hr=>wpIn_exit ⟨s,η,h,hr⟩
theorem dq.ret (h:Q .ret s):dq Γ .ret Q s:=fun _ _ η hr=>wpIn_ret ⟨s,η,h,hr⟩
theorem dq.label {l:Nat} (h:Q .normal s):dq Γ (.label l) Q s:=fun _ _ η hr=>wpIn_label ⟨s,η,h,hr⟩
theorem dq.block {id:Nat} {c:Code} (h:dq Γ c (tD id Q) s):dq Γ (.block id c) Q s:=by
 intro a w η hr
 refine wpIn_block (wpIn_mono (h a w η hr) fun e a' w' hq=>?_)
 obtain⟨s',aM,h1,h2⟩:=hq
 cases e with
 |exit P3=>
  simp only[tD] at h1
  simp only[Exit.inBlock]
  split
  ·rename_i hid;rw[if_pos hid] at h1;exact⟨s',aM,h1,h2⟩
  ·rename_i hid;rw[if_neg hid] at h1;exact⟨s',aM,h1,h2⟩
 |_=>exact⟨s',aM,h1,h2⟩
def O3:AV→Prop→Prop→Prop
 | .ae (.bool t),p,q=>(t=true→p)∧(t=false→q)
 |_,_,_=>False
theorem dq.R7 {c:Operand} {x y:Code} (h:∀P1 P2:Prop,(dq Γ x Q s→P1)→(dq Γ y Q s→P2)→O3 (s.ev c) P1 P2):dq Γ (.cond c x y) Q s:=by
 intro a w η hr
 have h1:=h _ _ (fun h=>h) fun h=>h
 have hc:=hr.ev c
 generalize s.ev c=v at h1 hc
 unfold O3 at h1
 split at h1
 ·rename_i t p q
  exact wpIn_cond_split hc.ao (fun ht=>h1.1 ht a w η hr) (fun ht=>h1.2 ht a w η hr)
 ·exact h1.elim
def bV (Γ:Env G) (s s':AS G):Prop:=∀a w η,Rel Γ s a w η→∃aM,Rel Γ s' a w aM
theorem bV.refl (s:AS G):bV Γ s s:=fun _ _ η h=>⟨η,h⟩
theorem bV.trans {s1 s2 s3:AS G} (h:bV Γ s1 s2) (k:bV Γ s2 s3):bV Γ s1 s3:=fun a w η hr=>let ⟨aM,h'⟩:=h a w η hr;k a w aM h'
theorem dq.pn {c:Code} (hw:bV Γ s s') (h:dq Γ c Q s'):dq Γ c Q s:=fun a w η hr=>let ⟨aM,dM⟩:=hw a w η hr;h a w aM dM
theorem dq.mono {c:Code} {Q':Exit→AS G→Prop} (h:dq Γ c Q s) (hq:∀e s,Q e s→Q' e s):dq Γ c Q' s:=
 fun a w η hr=>wpIn_mono (h a w η hr) fun e a' w' ⟨s',aM,h1,h2⟩=>⟨s',aM,hq e s' h1,h2⟩
end Go.Proofs.YtdcikhleahfknaaGreatDoor
