/- Texts of ours laid together for a claim: FilN. -/
import Derived.OrdersIn
import Derived.Test.YtjhanogfpkbamaaGreatDoorQ01
namespace Go.Proofs.YtjhanogfpkbamaaGreatDoor
open Go
set_option linter.unusedSimpArgs false
set_option linter.unusedVariables false
variable {G:Type} {Γ:Env G} {s s':AS G} {a:Act} {w w':World} {η:List Value} {hp:List af} {P:Program}
def Env.eV (Γ:Env G):Fence:={ fn:=fun _=>True,depth:=none,alive:=false,round:=Γ.Bw }
theorem th {ρ:Operand→Value} {o:Oper} {c:Call} (ho:o.op=.defer c) (w w':World) (v:Value):(execOp ρ o).run P w ≠ .ok (.value v) w'∧(execOp ρ o).run P w ≠ .ok .skip w':=by
 simp only[execOp,ho,Sem.run_bind]
 cases (resolve ρ c o.type).run P w<;>simp[Result.andThen]
theorem kP {ro:Option Nat} {ρ:Operand→Value} {o:Oper} {w w':World} {n:Next} (h:(execOp ρ o).run P w=.ok n w') (hn:(∃v,n=.value v)∨n=.skip):(o.semAt ro ρ).run P w=.ok n w':=by
 by_cases hd:∃c,o.op=.defer c
 ·obtain⟨c,hc⟩:=hd
  rcases hn with⟨v,rfl⟩|rfl
  ·exact((th hc w w' v).1 h).elim
  ·exact((th hc w w' undef).2 h).elim
 ·rw[Oper.semAt_eq ro ρ o fun c hc=>hd ⟨c,hc⟩];exact h
def dB (nt:Nat):Option Nat→Prop
 |none=>True
 |some d=>d<nt
theorem cA {nt:Nat} {d:Option Nat} (h:dB nt d):∀t,d=some t→t<nt:=by
 intro t ht;subst ht;exact h
def bR (Γ:Env G) (o:Oper) (s:AS G) (K:AS G→Prop):Prop:=
 ∀a w η (Kc:Act→World→Prop) (Qc:Exit→Act→World→Prop),(∀s' a' w' aU,K s'→Rel Γ s' a' w' aU→Kc a' w')→Rel Γ s a w η→o.wpIn Γ.eV 0 Γ.P a w Kc Qc
theorem bR.val (aD:Γ.Ok) {o:Oper} {r:AV} {K:AS G→Prop} (hv:gi Γ o s r) (hd:dB Γ.nt o.dst) (hK:K (s.put o.dst r)):bR Γ o s K:=by
 intro a w η Kc Qc hk hr
 obtain⟨v,w',h1,h2,h3⟩:=hv a w η hr
 refine⟨fun _ _=>trivial,?_⟩
 rw[kP h1 (.inl ⟨v,rfl⟩)]
 exact hk _ _ _ _ hK ((hr.same aD h2).put (cA hd) h3)
theorem bR.oV {o:Oper} {r:AV} {hp':List af} {K:AS G→Prop} (hv:gR Γ o s r hp') (hd:dB Γ.nt o.dst) (hK:K (AS.put { s with hp:=hp' } o.dst r)):bR Γ o s K:=by
 intro a w η Kc Qc hk hr
 obtain⟨v,w',aU,h1,h2,h3⟩:=hv a w η hr
 refine⟨fun _ _=>trivial,?_⟩
 rcases h1 with h1|⟨h1,rfl⟩
 ·rw[kP h1 (.inl ⟨v,rfl⟩)]
  exact hk _ _ _ _ hK (h2.put (cA hd) h3)
 ·rw[kP h1 (.inr rfl)]
  exact hk _ _ _ _ hK (h2.put (cA hd) h3)
def iB (Γ:Env G) (ops:Array Oper) (K:AS G→Prop) (l:List Oper) (s:AS G):Prop:=
 ∀a w η (Qc:Exit→Act→World→Prop),(∀s' a' w' aU,K s'→Rel Γ s' a' w' aU→Qc .normal a' w')→Rel Γ s a w η→wpListIn Γ.eV 0 Γ.P ops Qc l a w
def jW (ops:Array Oper) (s:AS G) (j:Nat):Option (Option Bool):=
 match (ops[j]?).bind (·.dst) with
 |some d=>(match s.tmps d with | .ah (.bool b)=>some (some b) | .ah (.tuple _)=>some none|_=>none)
 |none=>none
theorem eJ {ops:Array Oper} (hr:Rel Γ s a w η) {j:Nat} {b:Option Bool} (h:jW ops s j=some b):yielded ops a.tmps j=b:=by
 unfold jW at h
 split at h
 ·rename_i d hd
  have qM:=hr.tmps d
  split at h
  ·rename_i b' hb
   obtain rfl:=Option.some.inj h
   rw[hb] at qM
   have hv:=qM.aE
   unfold yielded
   rw[hd]
   simp only[Option.bind_some]
   cases ht:a.tmps[d]? with
   |none=>simp[aiu,ht,undef] at hv
   |some v=>simp[aiu,ht] at hv;subst hv;rfl
  ·rename_i b' hb
   obtain rfl:=Option.some.inj h
   rw[hb] at qM
   have hv:=qM.aE
   unfold yielded
   rw[hd]
   simp only[Option.bind_some]
   cases ht:a.tmps[d]? with
   |none=>rfl
   |some v=>simp[aiu,ht] at hv;subst hv;rfl
  ·cases h
 ·cases h
theorem iB.step {ops:Array Oper} {K:AS G→Prop} {o:Oper} {rest:List Oper} (hg:∀a w η,Rel Γ s a w η→Region.wanted o (yielded ops a.tmps)=true) (h:bR Γ o s (iB Γ ops K rest)):iB Γ ops K (o::rest) s:=by
 intro a w η Qc hQ hr
 simp only[wpListIn]
 rw[if_pos (hg a w η hr)]
 exact h a w η _ Qc (fun s' a' w' aU hs fZ=>hs a' w' aU Qc hQ fZ) hr
theorem iB.skip {ops:Array Oper} {K:AS G→Prop} {o:Oper} {rest:List Oper} (hg:∀a w η,Rel Γ s a w η→Region.wanted o (yielded ops a.tmps)=false) (hd:dB Γ.nt o.dst) (h:iB Γ ops K rest (s.put o.dst (.ah (.tuple #[])))):iB Γ ops K (o::rest) s:=by
 intro a w η Qc hQ hr
 simp only[wpListIn]
 rw[if_neg (by rw[hg a w η hr];simp)]
 exact⟨fun _ _=>trivial,h _ w η Qc hQ (hr.put (cA hd) (.ah _))⟩
def eM (Γ:Env G) (c:Code) (Q:Exit→AS G→Prop) (s:AS G):Prop:=
 ∀a w η,Rel Γ s a w η→c.wpIn Γ.eV 0 Γ.P (fun e a' w'=>∃s' aU,Q e s'∧Rel Γ s' a' w' aU) a w
def rN (next:AS G→Prop) (Q:Exit→AS G→Prop):Exit→AS G→Prop
 | .normal,s=>next s
 |e,s=>Q e s
def yw (id:Nat) (Q:Exit→AS G→Prop):Exit→AS G→Prop
 | .exit VO,s=>if VO=id then Q .normal s else Q (.exit VO) s
 |e,s=>Q e s
variable {Q:Exit→AS G→Prop}
theorem eM.abA {x y:Code} (h:∀K:AS G→Prop,(∀s,eM Γ y Q s→K s)→eM Γ x (rN K Q) s):eM Γ (.seq x y) Q s:=by
 intro a w η hr
 refine wpIn_seq (wpIn_mono (h _ (fun _ h=>h) a w η hr) fun e a' w' hq=>?_)
 obtain⟨s',aU,h1,h2⟩:=hq
 cases e with
 |normal=>exact h1 a' w' aU h2
 |_=>exact⟨s',aU,h1,h2⟩
theorem eM.skip (h:Q .normal s):eM Γ .skip Q s:=fun _ _ η hr=>wpIn_skip ⟨s,η,h,hr⟩
theorem eM.exit {id:Nat} (h:Q (.exit id) s):eM Γ (.exit id) Q s:=fun _ _ η hr=>wpIn_exit ⟨s,η,h,hr⟩
theorem eM.ret (h:Q .ret s):eM Γ .ret Q s:=fun _ _ η hr=>wpIn_ret ⟨s,η,h,hr⟩
theorem eM.label {l:Nat} (h:Q .normal s):eM Γ (.label l) Q s:=fun _ _ η hr=>wpIn_label ⟨s,η,h,hr⟩
theorem eM.block {id:Nat} {c:Code} (h:eM Γ c (yw id Q) s):eM Γ (.block id c) Q s:=by
 intro a w η hr
 refine wpIn_block (wpIn_mono (h a w η hr) fun e a' w' hq=>?_)
 obtain⟨s',aU,h1,h2⟩:=hq
 cases e with
 |exit VO=>
  simp only[yw] at h1
  simp only[Exit.inBlock]
  split
  ·rename_i hid;rw[if_pos hid] at h1;exact⟨s',aU,h1,h2⟩
  ·rename_i hid;rw[if_neg hid] at h1;exact⟨s',aU,h1,h2⟩
 |_=>exact⟨s',aU,h1,h2⟩
def UO:AV→Prop→Prop→Prop
 | .ah (.bool t),p,q=>(t=true→p)∧(t=false→q)
 |_,_,_=>False
theorem eM.XK {c:Operand} {x y:Code} (h:∀P1 P2:Prop,(eM Γ x Q s→P1)→(eM Γ y Q s→P2)→UO (s.ev c) P1 P2):eM Γ (.cond c x y) Q s:=by
 intro a w η hr
 have h1:=h _ _ (fun h=>h) fun h=>h
 have hc:=hr.ev c
 generalize s.ev c=v at h1 hc
 unfold UO at h1
 split at h1
 ·rename_i t p q
  exact wpIn_cond_split hc.aE (fun ht=>h1.1 ht a w η hr) (fun ht=>h1.2 ht a w η hr)
 ·exact h1.elim
def cT (Γ:Env G) (s s':AS G):Prop:=∀a w η,Rel Γ s a w η→∃aU,Rel Γ s' a w aU
theorem cT.refl (s:AS G):cT Γ s s:=fun _ _ η h=>⟨η,h⟩
theorem cT.trans {s1 s2 s3:AS G} (h:cT Γ s1 s2) (k:cT Γ s2 s3):cT Γ s1 s3:=fun a w η hr=>let ⟨aU,h'⟩:=h a w η hr;k a w aU h'
theorem eM.tj {c:Code} (hw:cT Γ s s') (h:eM Γ c Q s'):eM Γ c Q s:=fun a w η hr=>let ⟨aU,fZ⟩:=hw a w η hr;h a w aU fZ
theorem eM.mono {c:Code} {Q':Exit→AS G→Prop} (h:eM Γ c Q s) (hq:∀e s,Q e s→Q' e s):eM Γ c Q' s:=
 fun a w η hr=>wpIn_mono (h a w η hr) fun e a' w' ⟨s',aU,h1,h2⟩=>⟨s',aU,hq e s' h1,h2⟩
end Go.Proofs.YtjhanogfpkbamaaGreatDoor
