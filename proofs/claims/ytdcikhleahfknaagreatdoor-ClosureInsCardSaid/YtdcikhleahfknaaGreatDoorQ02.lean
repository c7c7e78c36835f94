/- Texts of ours laid together for a claim: FilN. -/
import Derived.OrdersIn
import Derived.Test.YtdcikhleahfknaaGreatDoorQ01
namespace Go.Proofs.YtdcikhleahfknaaGreatDoor
open Go
set_option linter.unusedSimpArgs false
set_option linter.unusedVariables false
variable {G:Type} {Γ:Env G} {s s':AS G} {a:Act} {w w':World} {η:List Value} {hp:List af} {P:Program}
def Env.dM (Γ:Env G):Fence:={ fn:=fun _=>True,depth:=none,alive:=false,round:=Γ.wP }
theorem pR {ρ:Operand→Value} {o:Oper} {c:Call} (ho:o.op=.defer c) (w w':World) (v:Value):(execOp ρ o).run P w ≠ .ok (.value v) w'∧(execOp ρ o).run P w ≠ .ok .skip w':=by
 simp only[execOp,ho,Sem.run_bind]
 cases (resolve ρ c o.type).run P w<;>simp[Result.andThen]
theorem iO {ro:Option Nat} {ρ:Operand→Value} {o:Oper} {w w':World} {n:Next} (h:(execOp ρ o).run P w=.ok n w') (hn:(∃v,n=.value v)∨n=.skip):(o.semAt ro ρ).run P w=.ok n w':=by
 by_cases hd:∃c,o.op=.defer c
 ·obtain⟨c,hc⟩:=hd
  rcases hn with⟨v,rfl⟩|rfl
  ·exact((pR hc w w' v).1 h).elim
  ·exact((pR hc w w' undef).2 h).elim
 ·rw[Oper.semAt_eq ro ρ o fun c hc=>hd ⟨c,hc⟩];exact h
def cx (nt:Nat):Option Nat→Prop
 |none=>True
 |some d=>d<nt
theorem bN {nt:Nat} {d:Option Nat} (h:cx nt d):∀t,d=some t→t<nt:=by
 intro t ht;subst ht;exact h
def bn (Γ:Env G) (o:Oper) (s:AS G) (K:AS G→Prop):Prop:=
 ∀a w η (Kc:Act→World→Prop) (Qc:Exit→Act→World→Prop),(∀s' a' w' aH,K s'→Rel Γ s' a' w' aH→Kc a' w')→Rel Γ s a w η→o.wpIn Γ.dM 0 Γ.P a w Kc Qc
theorem bn.val (ao:Γ.Ok) {o:Oper} {r:AV} {K:AS G→Prop} (hv:eI Γ o s r) (hd:cx Γ.nt o.dst) (hK:K (s.put o.dst r)):bn Γ o s K:=by
 intro a w η Kc Qc hk hr
 obtain⟨v,w',h1,h2,h3⟩:=hv a w η hr
 refine⟨fun _ _=>trivial,?_⟩
 rw[iO h1 (.inl ⟨v,rfl⟩)]
 exact hk _ _ _ _ hK ((hr.same ao h2).put (bN hd) h3)
theorem bn.ya {o:Oper} {r:AV} {hp':List af} {K:AS G→Prop} (hv:eW Γ o s r hp') (hd:cx Γ.nt o.dst) (hK:K (AS.put { s with hp:=hp' } o.dst r)):bn Γ o s K:=by
 intro a w η Kc Qc hk hr
 obtain⟨v,w',aH,h1,h2,h3⟩:=hv a w η hr
 refine⟨fun _ _=>trivial,?_⟩
 rcases h1 with h1|⟨h1,rfl⟩
 ·rw[iO h1 (.inl ⟨v,rfl⟩)]
  exact hk _ _ _ _ hK (h2.put (bN hd) h3)
 ·rw[iO h1 (.inr rfl)]
  exact hk _ _ _ _ hK (h2.put (bN hd) h3)
def fB (Γ:Env G) (ops:Array Oper) (K:AS G→Prop) (l:List Oper) (s:AS G):Prop:=
 ∀a w η (Qc:Exit→Act→World→Prop),(∀s' a' w' aH,K s'→Rel Γ s' a' w' aH→Qc .normal a' w')→Rel Γ s a w η→wpListIn Γ.dM 0 Γ.P ops Qc l a w
def gS (ops:Array Oper) (s:AS G) (j:Nat):Option (Option Bool):=
 match (ops[j]?).bind (·.dst) with
 |some d=>(match s.tmps d with | .ae (.bool b)=>some (some b) | .ae (.tuple _)=>some none|_=>none)
 |none=>none
theorem dD {ops:Array Oper} (hr:Rel Γ s a w η) {j:Nat} {b:Option Bool} (h:gS ops s j=some b):yielded ops a.tmps j=b:=by
 unfold gS at h
 split at h
 ·rename_i d hd
  have wW:=hr.tmps d
  split at h
  ·rename_i b' hb
   obtain rfl:=Option.some.inj h
   rw[hb] at wW
   have hv:=wW.al
   unfold yielded
   rw[hd]
   simp only[Option.bind_some]
   cases ht:a.tmps[d]? with
   |none=>simp[Array.getD_eq_getD_getElem?,ht,undef] at hv
   |some v=>simp[Array.getD_eq_getD_getElem?,ht] at hv;subst hv;rfl
  ·rename_i b' hb
   obtain rfl:=Option.some.inj h
   rw[hb] at wW
   have hv:=wW.al
   unfold yielded
   rw[hd]
   simp only[Option.bind_some]
   cases ht:a.tmps[d]? with
   |none=>rfl
   |some v=>simp[Array.getD_eq_getD_getElem?,ht] at hv;subst hv;rfl
  ·cases h
 ·cases h
theorem fB.step {ops:Array Oper} {K:AS G→Prop} {o:Oper} {rest:List Oper} (hg:∀a w η,Rel Γ s a w η→Region.wanted o (yielded ops a.tmps)=true) (h:bn Γ o s (fB Γ ops K rest)):fB Γ ops K (o::rest) s:=by
 intro a w η Qc hQ hr
 simp only[wpListIn]
 rw[if_pos (hg a w η hr)]
 exact h a w η _ Qc (fun s' a' w' aH hs ec=>hs a' w' aH Qc hQ ec) hr
theorem fB.skip {ops:Array Oper} {K:AS G→Prop} {o:Oper} {rest:List Oper} (hg:∀a w η,Rel Γ s a w η→Region.wanted o (yielded ops a.tmps)=false) (hd:cx Γ.nt o.dst) (h:fB Γ ops K rest (s.put o.dst (.ae (.tuple #[])))):fB Γ ops K (o::rest) s:=by
 intro a w η Qc hQ hr
 simp only[wpListIn]
 rw[if_neg (by rw[hg a w η hr];simp)]
 exact⟨fun _ _=>trivial,h _ w η Qc hQ (hr.put (bN hd) (.ae _))⟩
def dG (Γ:Env G) (c:Code) (Q:Exit→AS G→Prop) (s:AS G):Prop:=
 ∀a w η,Rel Γ s a w η→c.wpIn Γ.dM 0 Γ.P (fun e a' w'=>∃s' aH,Q e s'∧Rel Γ s' a' w' aH) a w
def oI (next:AS G→Prop) (Q:Exit→AS G→Prop):Exit→AS G→Prop
 | .normal,s=>next s
 |e,s=>Q e s
def ur (id:Nat) (Q:Exit→AS G→Prop):Exit→AS G→Prop
 | .exit RK,s=>if RK=id then Q .normal s else Q (.exit RK) s
 |e,s=>Q e s
variable {Q:Exit→AS G→Prop}
theorem dG.XV {x y:Code} (h:∀K:AS G→Prop,(∀s,dG Γ y Q s→K s)→dG Γ x (oI K Q) s):dG Γ (.seq x y) Q s:=by
 intro a w η hr
 refine wpIn_seq (wpIn_mono (h _ (fun _ h=>h) a w η hr) fun e a' w' hq=>?_)
 obtain⟨s',aH,h1,h2⟩:=hq
 cases e with
 |normal=>exact h1 a' w' aH h2
 |_=>exact⟨s',aH,h1,h2⟩
theorem dG.skip (h:Q .normal s):dG Γ .skip Q s:=fun _ _ η hr=>wpIn_skip ⟨s,η,h,hr⟩
theorem dG.exit {id:Nat} (h:Q (.exit id) s):dG Γ (.exit id) Q s:=fun _ _ η hr=>wpIn_exit ⟨s,η,h,hr⟩
theorem dG.ret (h:Q .ret s):dG Γ .ret Q s:=fun _ _ η hr=>wpIn_ret ⟨s,η,h,hr⟩
theorem dG.label {l:Nat} (h:Q .normal s):dG Γ (.label l) Q s:=fun _ _ η hr=>wpIn_label ⟨s,η,h,hr⟩
theorem dG.block {id:Nat} {c:Code} (h:dG Γ c (ur id Q) s):dG Γ (.block id c) Q s:=by
 intro a w η hr
 refine wpIn_block (wpIn_mono (h a w η hr) fun e a' w' hq=>?_)
 obtain⟨s',aH,h1,h2⟩:=hq
 cases e with
 |exit RK=>
  simp only[ur] at h1
  simp only[Exit.inBlock]
  split
  ·rename_i hid;rw[if_pos hid] at h1;exact⟨s',aH,h1,h2⟩
  ·rename_i hid;rw[if_neg hid] at h1;exact⟨s',aH,h1,h2⟩
 |_=>exact⟨s',aH,h1,h2⟩
def QG:AV→Prop→Prop→Prop
 | .ae (.bool t),p,q=>(t=true→p)∧(t=false→q)
 |_,_,_=>False
theorem dG.TR {c:Operand} {x y:Code} (h:∀P1 P2:Prop,(dG Γ x Q s→P1)→(dG Γ y Q s→P2)→QG (s.ev c) P1 P2):dG Γ (.cond c x y) Q s:=by
 intro a w η hr
 have h1:=h _ _ (fun h=>h) fun h=>h
 have hc:=hr.ev c
 generalize s.ev c=v at h1 hc
 unfold QG at h1
 split at h1
 ·rename_i t p q
  exact wpIn_cond_split hc.al (fun ht=>h1.1 ht a w η hr) (fun ht=>h1.2 ht a w η hr)
 ·exact h1.elim
def bX (Γ:Env G) (s s':AS G):Prop:=∀a w η,Rel Γ s a w η→∃aH,Rel Γ s' a w aH
theorem bX.refl (s:AS G):bX Γ s s:=fun _ _ η h=>⟨η,h⟩
theorem bX.trans {s1 s2 s3:AS G} (h:bX Γ s1 s2) (k:bX Γ s2 s3):bX Γ s1 s3:=fun a w η hr=>let ⟨aH,h'⟩:=h a w η hr;k a w aH h'
theorem dG.pS {c:Code} (hw:bX Γ s s') (h:dG Γ c Q s'):dG Γ c Q s:=fun a w η hr=>let ⟨aH,ec⟩:=hw a w η hr;h a w aH ec
theorem dG.mono {c:Code} {Q':Exit→AS G→Prop} (h:dG Γ c Q s) (hq:∀e s,Q e s→Q' e s):dG Γ c Q' s:=
 fun a w η hr=>wpIn_mono (h a w η hr) fun e a' w' ⟨s',aH,h1,h2⟩=>⟨s',aH,hq e s' h1,h2⟩
end Go.Proofs.YtdcikhleahfknaaGreatDoor
