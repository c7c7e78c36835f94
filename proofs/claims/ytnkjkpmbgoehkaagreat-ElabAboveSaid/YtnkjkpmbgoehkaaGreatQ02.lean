/- Texts of ours laid together for a claim: FilN. -/
import Derived.OrdersIn
import Derived.Test.YtnkjkpmbgoehkaaGreatQ01
namespace Go.Proofs.YtnkjkpmbgoehkaaGreat
open Go
set_option linter.unusedSimpArgs false
set_option linter.unusedVariables false
variable {G:Type} {Γ:Env G} {s s':AS G} {a:Act} {w w':World} {η:List Value} {hp:List ab} {P:Program}
def Env.eB (Γ:Env G):Fence:={ fn:=fun _=>True,depth:=none,alive:=false,round:=Γ.A1 }
theorem rY {ρ:Operand->Value} {o:Oper} {c:Call} (ho:o.op=.defer c) (w w':World) (v:Value):(execOp ρ o).run P w ≠ .ok (.value v) w'/\(execOp ρ o).run P w ≠ .ok .skip w':=by
 simp only[execOp,ho,Sem.run_bind]
 cases (resolve ρ c o.type).run P w<;>simp[Result.andThen]
theorem kl {ro:Option Nat} {ρ:Operand->Value} {o:Oper} {w w':World} {n:Next} (h:(execOp ρ o).run P w=.ok n w') (hn:(∃v,n=.value v)\/n=.skip):(o.semAt ro ρ).run P w=.ok n w':=by
 by_cases hd:∃c,o.op=.defer c
 ·obtain⟨c,hc⟩:=hd;rcases hn with⟨v,rfl⟩|rfl
  ·exact((rY hc w w' v).1 h).elim
  ·exact((rY hc w w' undef).2 h).elim
 ·rw[Oper.semAt_eq ro ρ o fun c hc=>hd ⟨c,hc⟩];exact h
def cP (nt:Nat):Option Nat->Prop
 |none=>True
 |some d=>d<nt
theorem bT {nt:Nat} {d:Option Nat} (h:cP nt d):∀t,d=some t->t<nt:=by
 intro t ht;subst ht;exact h
def bq (Γ:Env G) (o:Oper) (s:AS G) (K:AS G->Prop):Prop:=
 ∀a w η (Kc:Act->World->Prop) (Qc:Exit->Act->World->Prop),(∀s' a' w' aO,K s'->Rel Γ s' a' w' aO->Kc a' w')->Rel Γ s a w η->o.wpIn Γ.eB 0 Γ.P a w Kc Qc
theorem bq.val (al:Γ.Ok) {o:Oper} {r:AV} {K:AS G->Prop} (hv:fE Γ o s r) (hd:cP Γ.nt o.dst) (hK:K (s.put o.dst r)):bq Γ o s K:=by
 intro a w η Kc Qc hk hr;obtain⟨v,w',h1,h2,h3⟩:=hv a w η hr;refine⟨fun _ _=>trivial,?_⟩;rw[kl h1 (.inl ⟨v,rfl⟩)];exact hk _ _ _ _ hK ((hr.same al h2).put (bT hd) h3)
theorem bq.di {o:Oper} {r:AV} {hp':List ab} {K:AS G->Prop} (hv:fS Γ o s r hp') (hd:cP Γ.nt o.dst) (hK:K (AS.put { s with hp:=hp' } o.dst r)):bq Γ o s K:=by
 intro a w η Kc Qc hk hr;obtain⟨v,w',aO,h1,h2,h3⟩:=hv a w η hr;refine⟨fun _ _=>trivial,?_⟩;rcases h1 with h1|⟨h1,rfl⟩
 ·rw[kl h1 (.inl ⟨v,rfl⟩)];exact hk _ _ _ _ hK (h2.put (bT hd) h3)
 ·rw[kl h1 (.inr rfl)];exact hk _ _ _ _ hK (h2.put (bT hd) h3)
def gz (Γ:Env G) (ops:Array Oper) (K:AS G->Prop) (l:List Oper) (s:AS G):Prop:=
 ∀a w η (Qc:Exit->Act->World->Prop),(∀s' a' w' aO,K s'->Rel Γ s' a' w' aO->Qc .normal a' w')->Rel Γ s a w η->wpListIn Γ.eB 0 Γ.P ops Qc l a w
def jh (ops:Array Oper) (s:AS G) (j:Nat):Option (Option Bool):=
 match (ops[j]?).bind (·.dst) with
 |some d=>(match s.tmps d with | .ae (.bool b)=>some (some b) | .ae (.tuple _)=>some none|_=>none)
 |none=>none
theorem ef {ops:Array Oper} (hr:Rel Γ s a w η) {j:Nat} {b:Option Bool} (h:jh ops s j=some b):yielded ops a.tmps j=b:=by
 unfold jh at h;split at h
 ·rename_i d hd;have z7:=hr.tmps d;split at h
  ·rename_i b' hb;obtain rfl:=alj h;rw[hb] at z7;have hv:=z7.aj;unfold yielded;rw[hd];simp only[Option.bind_some]
   cases ht:a.tmps[d]? with
   |none=>simp[alR,ht,undef] at hv
   |some v=>simp[alR,ht] at hv;subst hv;rfl
  ·rename_i b' hb;obtain rfl:=alj h;rw[hb] at z7;have hv:=z7.aj;unfold yielded;rw[hd];simp only[Option.bind_some]
   cases ht:a.tmps[d]? with
   |none=>rfl
   |some v=>simp[alR,ht] at hv;subst hv;rfl
  ·cases h
 ·cases h
theorem gz.step {ops:Array Oper} {K:AS G->Prop} {o:Oper} {rest:List Oper} (hg:∀a w η,Rel Γ s a w η->Region.wanted o (yielded ops a.tmps)=true) (h:bq Γ o s (gz Γ ops K rest)):gz Γ ops K (o::rest) s:=by
 intro a w η Qc hQ hr;simp only[wpListIn];rw[if_pos (hg a w η hr)];exact h a w η _ Qc (fun s' a' w' aO hs fI=>hs a' w' aO Qc hQ fI) hr
theorem gz.skip {ops:Array Oper} {K:AS G->Prop} {o:Oper} {rest:List Oper} (hg:∀a w η,Rel Γ s a w η->Region.wanted o (yielded ops a.tmps)=false) (hd:cP Γ.nt o.dst) (h:gz Γ ops K rest (s.put o.dst (.ae (.tuple #[])))):gz Γ ops K (o::rest) s:=by
 intro a w η Qc hQ hr;simp only[wpListIn];rw[if_neg (by rw[hg a w η hr];simp)];exact⟨fun _ _=>trivial,h _ w η Qc hQ (hr.put (bT hd) (.ae _))⟩
def ej (Γ:Env G) (c:Code) (Q:Exit->AS G->Prop) (s:AS G):Prop:=
 ∀a w η,Rel Γ s a w η->c.wpIn Γ.eB 0 Γ.P (fun e a' w'=>∃s' aO,Q e s'/\Rel Γ s' a' w' aO) a w
def qG (next:AS G->Prop) (Q:Exit->AS G->Prop):Exit->AS G->Prop
 | .normal,s=>next s
 |e,s=>Q e s
def wT (id:Nat) (Q:Exit->AS G->Prop):Exit->AS G->Prop
 | .exit Xf,s=>if Xf=id then Q .normal s else Q (.exit Xf) s
 |e,s=>Q e s
variable {Q:Exit->AS G->Prop}
theorem ej.aeI {x y:Code} (h:∀K:AS G->Prop,(∀s,ej Γ y Q s->K s)->ej Γ x (qG K Q) s):ej Γ (.seq x y) Q s:=by
 intro a w η hr;refine wpIn_seq (wpIn_mono (h _ (fun _ h=>h) a w η hr) fun e a' w' hq=>?_);obtain⟨s',aO,h1,h2⟩:=hq
 cases e with
 |normal=>exact h1 a' w' aO h2
 |_=>exact⟨s',aO,h1,h2⟩
theorem ej.skip (h:Q .normal s):ej Γ .skip Q s:=fun _ _ η hr=>wpIn_skip ⟨s,η,h,hr⟩
theorem ej.exit {id:Nat} (h:Q (.exit id) s):ej Γ (.exit id) Q s:=fun _ _ η hr=>wpIn_exit ⟨s,η,h,hr⟩
theorem ej.ret (h:Q .ret s):ej Γ .ret Q s:=fun _ _ η hr=>wpIn_ret ⟨s,η,h,hr⟩
theorem ej.label {l:Nat} (h:Q .normal s):ej Γ (.label l) Q s:=fun _ _ η hr=>wpIn_label ⟨s,η,h,hr⟩
theorem ej.block {id:Nat} {c:Code} (h:ej Γ c (wT id Q) s):ej Γ (.block id c) Q s:=by
 intro a w η hr;refine wpIn_block (wpIn_mono (h a w η hr) fun e a' w' hq=>?_);obtain⟨s',aO,h1,h2⟩:=hq
 cases e with
 |exit Xf=>
  simp only[wT] at h1;simp only[Exit.inBlock];split
  ·rename_i hid;rw[if_pos hid] at h1;exact⟨s',aO,h1,h2⟩
  ·rename_i hid;rw[if_neg hid] at h1;exact⟨s',aO,h1,h2⟩
 |_=>exact⟨s',aO,h1,h2⟩
def V5:AV->Prop->Prop->Prop
 | .ae (.bool t),p,q=>(t=true->p)/\(t=false->q)
 |_,_,_=>False
theorem ej.Za {c:Operand} {x y:Code} (h:∀P1 P2:Prop,(ej Γ x Q s->P1)->(ej Γ y Q s->P2)->V5 (s.ev c) P1 P2):ej Γ (.cond c x y) Q s:=by
 intro a w η hr;have h1:=h _ _ (fun h=>h) fun h=>h;have hc:=hr.ev c;generalize s.ev c=v at h1 hc;unfold V5 at h1;split at h1
 ·rename_i t p q;exact wpIn_cond_split hc.aj (fun ht=>h1.1 ht a w η hr) (fun ht=>h1.2 ht a w η hr)
 ·exact h1.elim
def ck (Γ:Env G) (s s':AS G):Prop:=∀a w η,Rel Γ s a w η->∃aO,Rel Γ s' a w aO
theorem ck.refl (s:AS G):ck Γ s s:=fun _ _ η h=>⟨η,h⟩
theorem ck.trans {s1 s2 s3:AS G} (h:ck Γ s1 s2) (k:ck Γ s2 s3):ck Γ s1 s3:=fun a w η hr=>let ⟨aO,h'⟩:=h a w η hr;k a w aO h'
theorem ej.rZ {c:Code} (hw:ck Γ s s') (h:ej Γ c Q s'):ej Γ c Q s:=fun a w η hr=>let ⟨aO,fI⟩:=hw a w η hr;h a w aO fI
theorem ej.mono {c:Code} {Q':Exit->AS G->Prop} (h:ej Γ c Q s) (hq:∀e s,Q e s->Q' e s):ej Γ c Q' s:=
 fun a w η hr=>wpIn_mono (h a w η hr) fun e a' w' ⟨s',aO,h1,h2⟩=>⟨s',aO,hq e s' h1,h2⟩
end Go.Proofs.YtnkjkpmbgoehkaaGreat
