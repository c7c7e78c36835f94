/- Texts of ours laid together for a claim: FilN. -/
import Derived.OrdersIn
import Derived.Test.YtdcikhleahfknaaGreatDoorQ01
namespace Go.Proofs.YtdcikhleahfknaaGreatDoor
open Go
set_option linter.unusedSimpArgs false
set_option linter.unusedVariables false
variable {G:Type} {Γ:Env G} {s s':AS G} {a:Act} {w w':World} {η:List Value} {hp:List af} {P:Program}
def Env.ec (Γ:Env G):Fence:={ fn:=fun _=>True,depth:=none,alive:=false,round:=Γ.zH }
theorem rO {ρ:Operand->Value} {o:Oper} {c:Call} (ho:o.op=.defer c) (w w':World) (v:Value):(execOp ρ o).run P w ≠ .ok (.value v) w'/\(execOp ρ o).run P w ≠ .ok .skip w':=by
 simp only[execOp,ho,Sem.run_bind]
 cases (resolve ρ c o.type).run P w<;>simp[Result.andThen]
theorem jK {ro:Option Nat} {ρ:Operand->Value} {o:Oper} {w w':World} {n:Next} (h:(execOp ρ o).run P w=.ok n w') (hn:(∃v,n=.value v)\/n=.skip):(o.semAt ro ρ).run P w=.ok n w':=by
 by_cases hd:∃c,o.op=.defer c
 ·obtain⟨c,hc⟩:=hd;rcases hn with⟨v,rfl⟩|rfl
  ·exact((rO hc w w' v).1 h).elim
  ·exact((rO hc w w' undef).2 h).elim
 ·rw[Oper.semAt_eq ro ρ o fun c hc=>hd ⟨c,hc⟩];exact h
def cR (nt:Nat):Option Nat->Prop
 |none=>True
 |some d=>d<nt
theorem cd {nt:Nat} {d:Option Nat} (h:cR nt d):∀t,d=some t->t<nt:=by
 intro t ht;subst ht;exact h
def bD (Γ:Env G) (o:Oper) (s:AS G) (K:AS G->Prop):Prop:=
 ∀a w η (Kc:Act->World->Prop) (Qc:Exit->Act->World->Prop),(∀s' a' w' aN,K s'->Rel Γ s' a' w' aN->Kc a' w')->Rel Γ s a w η->o.wpIn Γ.ec 0 Γ.P a w Kc Qc
theorem bD.val (ax:Γ.Ok) {o:Oper} {r:AV} {K:AS G->Prop} (hv:fb Γ o s r) (hd:cR Γ.nt o.dst) (hK:K (s.put o.dst r)):bD Γ o s K:=by
 intro a w η Kc Qc hk hr;obtain⟨v,w',h1,h2,h3⟩:=hv a w η hr;refine⟨fun _ _=>trivial,?_⟩;rw[jK h1 (.inl ⟨v,rfl⟩)];exact hk _ _ _ _ hK ((hr.same ax h2).put (cd hd) h3)
theorem bD.jY {o:Oper} {r:AV} {hp':List af} {K:AS G->Prop} (hv:fA Γ o s r hp') (hd:cR Γ.nt o.dst) (hK:K (AS.put { s with hp:=hp' } o.dst r)):bD Γ o s K:=by
 intro a w η Kc Qc hk hr;obtain⟨v,w',aN,h1,h2,h3⟩:=hv a w η hr;refine⟨fun _ _=>trivial,?_⟩;rcases h1 with h1|⟨h1,rfl⟩
 ·rw[jK h1 (.inl ⟨v,rfl⟩)];exact hk _ _ _ _ hK (h2.put (cd hd) h3)
 ·rw[jK h1 (.inr rfl)];exact hk _ _ _ _ hK (h2.put (cd hd) h3)
def gv (Γ:Env G) (ops:Array Oper) (K:AS G->Prop) (l:List Oper) (s:AS G):Prop:=
 ∀a w η (Qc:Exit->Act->World->Prop),(∀s' a' w' aN,K s'->Rel Γ s' a' w' aN->Qc .normal a' w')->Rel Γ s a w η->wpListIn Γ.ec 0 Γ.P ops Qc l a w
def iV (ops:Array Oper) (s:AS G) (j:Nat):Option (Option Bool):=
 match (ops[j]?).bind (·.dst) with
 |some d=>(match s.tmps d with | .ae (.bool b)=>some (some b) | .ae (.tuple _)=>some none|_=>none)
 |none=>none
theorem dP {ops:Array Oper} (hr:Rel Γ s a w η) {j:Nat} {b:Option Bool} (h:iV ops s j=some b):yielded ops a.tmps j=b:=by
 unfold iV at h;split at h
 ·rename_i d hd;have zO:=hr.tmps d;split at h
  ·rename_i b' hb;obtain rfl:=alw h;rw[hb] at zO;have hv:=zO.ay;unfold yielded;rw[hd];simp only[Option.bind_some]
   cases ht:a.tmps[d]? with
   |none=>simp[al9,ht,undef] at hv
   |some v=>simp[al9,ht] at hv;subst hv;rfl
  ·rename_i b' hb;obtain rfl:=alw h;rw[hb] at zO;have hv:=zO.ay;unfold yielded;rw[hd];simp only[Option.bind_some]
   cases ht:a.tmps[d]? with
   |none=>rfl
   |some v=>simp[al9,ht] at hv;subst hv;rfl
  ·cases h
 ·cases h
theorem gv.step {ops:Array Oper} {K:AS G->Prop} {o:Oper} {rest:List Oper} (hg:∀a w η,Rel Γ s a w η->Region.wanted o (yielded ops a.tmps)=true) (h:bD Γ o s (gv Γ ops K rest)):gv Γ ops K (o::rest) s:=by
 intro a w η Qc hQ hr;simp only[wpListIn];rw[if_pos (hg a w η hr)];exact h a w η _ Qc (fun s' a' w' aN hs eH=>hs a' w' aN Qc hQ eH) hr
theorem gv.skip {ops:Array Oper} {K:AS G->Prop} {o:Oper} {rest:List Oper} (hg:∀a w η,Rel Γ s a w η->Region.wanted o (yielded ops a.tmps)=false) (hd:cR Γ.nt o.dst) (h:gv Γ ops K rest (s.put o.dst (.ae (.tuple #[])))):gv Γ ops K (o::rest) s:=by
 intro a w η Qc hQ hr;simp only[wpListIn];rw[if_neg (by rw[hg a w η hr];simp)];exact⟨fun _ _=>trivial,h _ w η Qc hQ (hr.put (cd hd) (.ae _))⟩
def dT (Γ:Env G) (c:Code) (Q:Exit->AS G->Prop) (s:AS G):Prop:=
 ∀a w η,Rel Γ s a w η->c.wpIn Γ.ec 0 Γ.P (fun e a' w'=>∃s' aN,Q e s'/\Rel Γ s' a' w' aN) a w
def qw (next:AS G->Prop) (Q:Exit->AS G->Prop):Exit->AS G->Prop
 | .normal,s=>next s
 |e,s=>Q e s
def wY (id:Nat) (Q:Exit->AS G->Prop):Exit->AS G->Prop
 | .exit Ya,s=>if Ya=id then Q .normal s else Q (.exit Ya) s
 |e,s=>Q e s
variable {Q:Exit->AS G->Prop}
theorem dT.aeE {x y:Code} (h:∀K:AS G->Prop,(∀s,dT Γ y Q s->K s)->dT Γ x (qw K Q) s):dT Γ (.seq x y) Q s:=by
 intro a w η hr;refine wpIn_seq (wpIn_mono (h _ (fun _ h=>h) a w η hr) fun e a' w' hq=>?_);obtain⟨s',aN,h1,h2⟩:=hq
 cases e with
 |normal=>exact h1 a' w' aN h2
 |_=>exact⟨s',aN,h1,h2⟩
theorem dT.skip (h:Q .normal s):dT Γ .skip Q s:=fun _ _ η hr=>wpIn_skip ⟨s,η,h,hr⟩
theorem dT.exit {id:Nat} (h:Q (.exit id) s):dT Γ (.exit id) Q s:=fun _ _ η hr=>wpIn_exit ⟨s,η,h,hr⟩
theorem dT.ret (h:Q .ret s):dT Γ .ret Q s:=fun _ _ η hr=>wpIn_ret ⟨s,η,h,hr⟩
theorem dT.label {l:Nat} (h:Q .normal s):dT Γ (.label l) Q s:=fun _ _ η hr=>wpIn_label ⟨s,η,h,hr⟩
theorem dT.block {id:Nat} {c:Code} (h:dT Γ c (wY id Q) s):dT Γ (.block id c) Q s:=by
 intro a w η hr;refine wpIn_block (wpIn_mono (h a w η hr) fun e a' w' hq=>?_);obtain⟨s',aN,h1,h2⟩:=hq
 cases e with
 |exit Ya=>
  simp only[wY] at h1;simp only[Exit.inBlock];split
  ·rename_i hid;rw[if_pos hid] at h1;exact⟨s',aN,h1,h2⟩
  ·rename_i hid;rw[if_neg hid] at h1;exact⟨s',aN,h1,h2⟩
 |_=>exact⟨s',aN,h1,h2⟩
def W0:AV->Prop->Prop->Prop
 | .ae (.bool t),p,q=>(t=true->p)/\(t=false->q)
 |_,_,_=>False
theorem dT.aaf {c:Operand} {x y:Code} (h:∀P1 P2:Prop,(dT Γ x Q s->P1)->(dT Γ y Q s->P2)->W0 (s.ev c) P1 P2):dT Γ (.cond c x y) Q s:=by
 intro a w η hr;have h1:=h _ _ (fun h=>h) fun h=>h;have hc:=hr.ev c;generalize s.ev c=v at h1 hc;unfold W0 at h1;split at h1
 ·rename_i t p q;exact wpIn_cond_split hc.ay (fun ht=>h1.1 ht a w η hr) (fun ht=>h1.2 ht a w η hr)
 ·exact h1.elim
def cx (Γ:Env G) (s s':AS G):Prop:=∀a w η,Rel Γ s a w η->∃aN,Rel Γ s' a w aN
theorem cx.refl (s:AS G):cx Γ s s:=fun _ _ η h=>⟨η,h⟩
theorem cx.trans {s1 s2 s3:AS G} (h:cx Γ s1 s2) (k:cx Γ s2 s3):cx Γ s1 s3:=fun a w η hr=>let ⟨aN,h'⟩:=h a w η hr;k a w aN h'
theorem dT.oE {c:Code} (hw:cx Γ s s') (h:dT Γ c Q s'):dT Γ c Q s:=fun a w η hr=>let ⟨aN,eH⟩:=hw a w η hr;h a w aN eH
theorem dT.mono {c:Code} {Q':Exit->AS G->Prop} (h:dT Γ c Q s) (hq:∀e s,Q e s->Q' e s):dT Γ c Q' s:=
 fun a w η hr=>wpIn_mono (h a w η hr) fun e a' w' ⟨s',aN,h1,h2⟩=>⟨s',aN,hq e s' h1,h2⟩
end Go.Proofs.YtdcikhleahfknaaGreatDoor
