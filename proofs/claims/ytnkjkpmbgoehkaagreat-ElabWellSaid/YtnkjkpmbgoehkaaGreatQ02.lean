/- Lemmas. -/
import Derived.OrdersIn
import Derived.Test.YtnkjkpmbgoehkaaGreatQ01
namespace Go.Proofs.YtnkjkpmbgoehkaaGreat
open Go
set_option linter.unusedSimpArgs false
set_option linter.unusedVariables false
variable {G:Type} {Γ:Env G} {s s':AS G} {a:Act} {w w':World} {η:List Value} {hp:List aw} {P:Program}
def Env.fj (Γ:Env G):Fence:={ fn:=fun _=>True,depth:=none,alive:=false,round:=Γ.Dw }
theorem tZ {ρ:Operand->Value} {o:Oper} {c:Call} (ho:o.op=.defer c) (w w':World) (v:Value):(execOp ρ o).run P w ≠ .ok (.value v) w'/\(execOp ρ o).run P w ≠ .ok .skip w':=by
 simp only[execOp,ho,Sem.run_bind]
 cases (resolve ρ c o.type).run P w<;>simp[Result.andThen]
theorem lH {ro:Option Nat} {ρ:Operand->Value} {o:Oper} {w w':World} {n:Next} (h:(execOp ρ o).run P w=.ok n w') (hn:(∃v,n=.value v)\/n=.skip):(o.semAt ro ρ).run P w=.ok n w':=by
 by_cases hd:∃c,o.op=.defer c
 ·obtain⟨c,hc⟩:=hd;rcases hn with⟨v,rfl⟩|rfl
  ·exact((tZ hc w w' v).1 h).elim
  ·exact((tZ hc w w' undef).2 h).elim
 ·rw[Oper.semAt_eq ro ρ o fun c hc=>hd ⟨c,hc⟩];exact h
def dC (nt:Nat):Option Nat->Prop
 |none=>True
 |some d=>d<nt
theorem cy {nt:Nat} {d:Option Nat} (h:dC nt d):∀t,d=some t->t<nt:=by
 intro t ht;subst ht;exact h
def bO (Γ:Env G) (o:Oper) (s:AS G) (K:AS G->Prop):Prop:=
 ∀a w η (Kc:Act->World->Prop) (Qc:Exit->Act->World->Prop),(∀s' a' w' bf,K s'->Rel Γ s' a' w' bf->Kc a' w')->Rel Γ s a w η->o.wpIn Γ.fj 0 Γ.P a w Kc Qc
theorem bO.val (aE:Γ.Ok) {o:Oper} {r:AV} {K:AS G->Prop} (hv:gq Γ o s r) (hd:dC Γ.nt o.dst) (hK:K (s.put o.dst r)):bO Γ o s K:=by
 intro a w η Kc Qc hk hr;obtain⟨v,w',h1,h2,h3⟩:=hv a w η hr;refine⟨fun _ _=>trivial,?_⟩;rw[lH h1 (.inl ⟨v,rfl⟩)];exact hk _ _ _ _ hK ((hr.same aE h2).put (cy hd) h3)
theorem bO.dQ {o:Oper} {r:AV} {hp':List aw} {K:AS G->Prop} (hv:gL Γ o s r hp') (hd:dC Γ.nt o.dst) (hK:K (AS.put { s with hp:=hp' } o.dst r)):bO Γ o s K:=by
 intro a w η Kc Qc hk hr;obtain⟨v,w',bf,h1,h2,h3⟩:=hv a w η hr;refine⟨fun _ _=>trivial,?_⟩;rcases h1 with h1|⟨h1,rfl⟩
 ·rw[lH h1 (.inl ⟨v,rfl⟩)];exact hk _ _ _ _ hK (h2.put (cy hd) h3)
 ·rw[lH h1 (.inr rfl)];exact hk _ _ _ _ hK (h2.put (cy hd) h3)
def iG (Γ:Env G) (ops:Array Oper) (K:AS G->Prop) (l:List Oper) (s:AS G):Prop:=
 ∀a w η (Qc:Exit->Act->World->Prop),(∀s' a' w' bf,K s'->Rel Γ s' a' w' bf->Qc .normal a' w')->Rel Γ s a w η->wpListIn Γ.fj 0 Γ.P ops Qc l a w
def kx (ops:Array Oper) (s:AS G) (j:Nat):Option (Option Bool):=
 match (ops[j]?).bind (·.dst) with
 |some d=>(match s.tmps d with | .ax (.bool b)=>some (some b) | .ax (.tuple _)=>some none|_=>none)
 |none=>none
theorem eS {ops:Array Oper} (hr:Rel Γ s a w η) {j:Nat} {b:Option Bool} (h:kx ops s j=some b):yielded ops a.tmps j=b:=by
 unfold kx at h;split at h
 ·rename_i d hd;have Cr:=hr.tmps d;split at h
  ·rename_i b' hb;obtain rfl:=aqs h;rw[hb] at Cr;have hv:=Cr.aC;unfold yielded;rw[hd];simp only[Option.bind_some]
   cases ht:a.tmps[d]? with
   |none=>simp[aq3,ht,undef] at hv
   |some v=>simp[aq3,ht] at hv;subst hv;rfl
  ·rename_i b' hb;obtain rfl:=aqs h;rw[hb] at Cr;have hv:=Cr.aC;unfold yielded;rw[hd];simp only[Option.bind_some]
   cases ht:a.tmps[d]? with
   |none=>rfl
   |some v=>simp[aq3,ht] at hv;subst hv;rfl
  ·cases h
 ·cases h
theorem iG.step {ops:Array Oper} {K:AS G->Prop} {o:Oper} {rest:List Oper} (hg:∀a w η,Rel Γ s a w η->Region.wanted o (yielded ops a.tmps)=true) (h:bO Γ o s (iG Γ ops K rest)):iG Γ ops K (o::rest) s:=by
 intro a w η Qc hQ hr;simp only[wpListIn];rw[if_pos (hg a w η hr)];exact h a w η _ Qc (fun s' a' w' bf hs gy=>hs a' w' bf Qc hQ gy) hr
theorem iG.skip {ops:Array Oper} {K:AS G->Prop} {o:Oper} {rest:List Oper} (hg:∀a w η,Rel Γ s a w η->Region.wanted o (yielded ops a.tmps)=false) (hd:dC Γ.nt o.dst) (h:iG Γ ops K rest (s.put o.dst (.ax (.tuple #[])))):iG Γ ops K (o::rest) s:=by
 intro a w η Qc hQ hr;simp only[wpListIn];rw[if_neg (by rw[hg a w η hr];simp)];exact⟨fun _ _=>trivial,h _ w η Qc hQ (hr.put (cy hd) (.ax _))⟩
def eY (Γ:Env G) (c:Code) (Q:Exit->AS G->Prop) (s:AS G):Prop:=
 ∀a w η,Rel Γ s a w η->c.wpIn Γ.fj 0 Γ.P (fun e a' w'=>∃s' bf,Q e s'/\Rel Γ s' a' w' bf) a w
def sG (next:AS G->Prop) (Q:Exit->AS G->Prop):Exit->AS G->Prop
 | .normal,s=>next s
 |e,s=>Q e s
def zc (id:Nat) (Q:Exit->AS G->Prop):Exit->AS G->Prop
 | .exit id',s=>if id'=id then Q .normal s else Q (.exit id') s
 |e,s=>Q e s
variable {Q:Exit->AS G->Prop}
theorem eY.ajC {x y:Code} (h:∀K:AS G->Prop,(∀s,eY Γ y Q s->K s)->eY Γ x (sG K Q) s):eY Γ (.seq x y) Q s:=by
 intro a w η hr;refine wpIn_seq (wpIn_mono (h _ (fun _ h=>h) a w η hr) fun e a' w' hq=>?_);obtain⟨s',bf,h1,h2⟩:=hq
 cases e with
 |normal=>exact h1 a' w' bf h2
 |_=>exact⟨s',bf,h1,h2⟩
theorem eY.skip (h:Q .normal s):eY Γ .skip Q s:=fun _ _ η hr=>wpIn_skip ⟨s,η,h,hr⟩
theorem eY.exit {id:Nat} (h:Q (.exit id) s):eY Γ (.exit id) Q s:=fun _ _ η hr=>wpIn_exit ⟨s,η,h,hr⟩
theorem eY.ret (h:Q .ret s):eY Γ .ret Q s:=fun _ _ η hr=>wpIn_ret ⟨s,η,h,hr⟩
theorem eY.label {l:Nat} (h:Q .normal s):eY Γ (.label l) Q s:=fun _ _ η hr=>wpIn_label ⟨s,η,h,hr⟩
theorem eY.block {id:Nat} {c:Code} (h:eY Γ c (zc id Q) s):eY Γ (.block id c) Q s:=by
 intro a w η hr;refine wpIn_block (wpIn_mono (h a w η hr) fun e a' w' hq=>?_);obtain⟨s',bf,h1,h2⟩:=hq
 cases e with
 |exit id'=>
  simp only[zc] at h1;simp only[Exit.inBlock];split
  ·rename_i hid;rw[if_pos hid] at h1;exact⟨s',bf,h1,h2⟩
  ·rename_i hid;rw[if_neg hid] at h1;exact⟨s',bf,h1,h2⟩
 |_=>exact⟨s',bf,h1,h2⟩
def aay:AV->Prop->Prop->Prop
 | .ax (.bool t),p,q=>(t=true->p)/\(t=false->q)
 |_,_,_=>False
theorem eY.ad2 {c:Operand} {x y:Code} (h:∀P1 P2:Prop,(eY Γ x Q s->P1)->(eY Γ y Q s->P2)->aay (s.ev c) P1 P2):eY Γ (.cond c x y) Q s:=by
 intro a w η hr;have h1:=h _ _ (fun h=>h) fun h=>h;have hc:=hr.ev c;generalize s.ev c=v at h1 hc;unfold aay at h1;split at h1
 ·rename_i t p q;exact wpIn_cond_split hc.aC (fun ht=>h1.1 ht a w η hr) (fun ht=>h1.2 ht a w η hr)
 ·exact h1.elim
def cR (Γ:Env G) (s s':AS G):Prop:=∀a w η,Rel Γ s a w η->∃bf,Rel Γ s' a w bf
theorem cR.refl (s:AS G):cR Γ s s:=fun _ _ η h=>⟨η,h⟩
theorem cR.trans {s1 s2 s3:AS G} (h:cR Γ s1 s2) (k:cR Γ s2 s3):cR Γ s1 s3:=fun a w η hr=>let ⟨bf,h'⟩:=h a w η hr;k a w bf h'
theorem eY.ua {c:Code} (hw:cR Γ s s') (h:eY Γ c Q s'):eY Γ c Q s:=fun a w η hr=>let ⟨bf,gy⟩:=hw a w η hr;h a w bf gy
theorem eY.mono {c:Code} {Q':Exit->AS G->Prop} (h:eY Γ c Q s) (hq:∀e s,Q e s->Q' e s):eY Γ c Q' s:=
 fun a w η hr=>wpIn_mono (h a w η hr) fun e a' w' ⟨s',bf,h1,h2⟩=>⟨s',bf,hq e s' h1,h2⟩
end Go.Proofs.YtnkjkpmbgoehkaaGreat
