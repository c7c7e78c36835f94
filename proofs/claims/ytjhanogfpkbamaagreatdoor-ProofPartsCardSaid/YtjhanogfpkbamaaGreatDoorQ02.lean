/- Texts of ours laid together for a claim: FilN. -/
import Derived.OrdersIn
import Derived.Test.YtjhanogfpkbamaaGreatDoorQ01
namespace Go.Proofs.YtjhanogfpkbamaaGreatDoor
open Go
set_option linter.unusedSimpArgs false
set_option linter.unusedVariables false
variable {G:Type} {Γ:Env G} {s s':AS G} {a:Act} {w w':World} {η:List Value} {hp:List AObj} {P:Program}
def Env.fence (Γ:Env G):Fence:={ fn:=fun _=>True,depth:=none,alive:=false,round:=Γ.rnd }
theorem execOp_defer {ρ:Operand→Value} {o:Oper} {c:Call} (ho:o.op=.defer c) (w w':World) (v:Value):(execOp ρ o).run P w ≠ .ok (.value v) w'∧(execOp ρ o).run P w ≠ .ok .skip w':=by
 simp only[execOp,ho,Sem.run_bind]
 cases (resolve ρ c o.type).run P w<;>simp[Result.andThen]
theorem semAt_run {ro:Option Nat} {ρ:Operand→Value} {o:Oper} {w w':World} {n:Next} (h:(execOp ρ o).run P w=.ok n w') (hn:(∃v,n=.value v)∨n=.skip):(o.semAt ro ρ).run P w=.ok n w':=by
 by_cases hd:∃c,o.op=.defer c
 ·obtain⟨c,hc⟩:=hd
  rcases hn with⟨v,rfl⟩|rfl
  ·exact((execOp_defer hc w w' v).1 h).elim
  ·exact((execOp_defer hc w w' undef).2 h).elim
 ·rw[Oper.semAt_eq ro ρ o fun c hc=>hd ⟨c,hc⟩];exact h
def dstOk (nt:Nat):Option Nat→Prop
 |none=>True
 |some d=>d<nt
theorem dstOk_spec {nt:Nat} {d:Option Nat} (h:dstOk nt d):∀t,d=some t→t<nt:=by
 intro t ht;subst ht;exact h
def ACall (Γ:Env G) (o:Oper) (s:AS G) (K:AS G→Prop):Prop:=
 ∀a w η (Kc:Act→World→Prop) (Qc:Exit→Act→World→Prop),(∀s' a' w' η',K s'→Rel Γ s' a' w' η'→Kc a' w')→Rel Γ s a w η→o.wpIn Γ.fence 0 Γ.P a w Kc Qc
theorem ACall.val (hok:Γ.Ok) {o:Oper} {r:AV} {K:AS G→Prop} (hv:VRun Γ o s r) (hd:dstOk Γ.nt o.dst) (hK:K (s.put o.dst r)):ACall Γ o s K:=by
 intro a w η Kc Qc hk hr
 obtain⟨v,w',h1,h2,h3⟩:=hv a w η hr
 refine⟨fun _ _=>trivial,?_⟩
 rw[semAt_run h1 (.inl ⟨v,rfl⟩)]
 exact hk _ _ _ _ hK ((hr.same hok h2).put (dstOk_spec hd) h3)
theorem ACall.eff {o:Oper} {r:AV} {hp':List AObj} {K:AS G→Prop} (hv:ERun Γ o s r hp') (hd:dstOk Γ.nt o.dst) (hK:K (AS.put { s with hp:=hp' } o.dst r)):ACall Γ o s K:=by
 intro a w η Kc Qc hk hr
 obtain⟨v,w',η',h1,h2,h3⟩:=hv a w η hr
 refine⟨fun _ _=>trivial,?_⟩
 rcases h1 with h1|⟨h1,rfl⟩
 ·rw[semAt_run h1 (.inl ⟨v,rfl⟩)]
  exact hk _ _ _ _ hK (h2.put (dstOk_spec hd) h3)
 ·rw[semAt_run h1 (.inr rfl)]
  exact hk _ _ _ _ hK (h2.put (dstOk_spec hd) h3)
def AList (Γ:Env G) (ops:Array Oper) (K:AS G→Prop) (l:List Oper) (s:AS G):Prop:=
 ∀a w η (Qc:Exit→Act→World→Prop),(∀s' a' w' η',K s'→Rel Γ s' a' w' η'→Qc .normal a' w')→Rel Γ s a w η→wpListIn Γ.fence 0 Γ.P ops Qc l a w
def gslot (ops:Array Oper) (s:AS G) (j:Nat):Option (Option Bool):=
 match (ops[j]?).bind (·.dst) with
 |some d=>(match s.tmps d with | .prim (.bool b)=>some (some b) | .prim (.tuple _)=>some none|_=>none)
 |none=>none
theorem gslot_yielded {ops:Array Oper} (hr:Rel Γ s a w η) {j:Nat} {b:Option Bool} (h:gslot ops s j=some b):yielded ops a.tmps j=b:=by
 unfold gslot at h
 split at h
 ·rename_i d hd
  have hrd:=hr.tmps d
  split at h
  ·rename_i b' hb
   obtain rfl:=Option.some.inj h
   rw[hb] at hrd
   have hv:=hrd.prim_inv
   unfold yielded
   rw[hd]
   simp only[Option.bind_some]
   cases ht:a.tmps[d]? with
   |none=>simp[Array.getD_eq_getD_getElem?,ht,undef] at hv
   |some v=>simp[Array.getD_eq_getD_getElem?,ht] at hv;subst hv;rfl
  ·rename_i b' hb
   obtain rfl:=Option.some.inj h
   rw[hb] at hrd
   have hv:=hrd.prim_inv
   unfold yielded
   rw[hd]
   simp only[Option.bind_some]
   cases ht:a.tmps[d]? with
   |none=>rfl
   |some v=>simp[Array.getD_eq_getD_getElem?,ht] at hv;subst hv;rfl
  ·cases h
 ·cases h
theorem AList.step {ops:Array Oper} {K:AS G→Prop} {o:Oper} {rest:List Oper} (hg:∀a w η,Rel Γ s a w η→Region.wanted o (yielded ops a.tmps)=true) (h:ACall Γ o s (AList Γ ops K rest)):AList Γ ops K (o::rest) s:=by
 intro a w η Qc hQ hr
 simp only[wpListIn]
 rw[if_pos (hg a w η hr)]
 exact h a w η _ Qc (fun s' a' w' η' hs hr'=>hs a' w' η' Qc hQ hr') hr
theorem AList.skip {ops:Array Oper} {K:AS G→Prop} {o:Oper} {rest:List Oper} (hg:∀a w η,Rel Γ s a w η→Region.wanted o (yielded ops a.tmps)=false) (hd:dstOk Γ.nt o.dst) (h:AList Γ ops K rest (s.put o.dst (.prim (.tuple #[])))):AList Γ ops K (o::rest) s:=by
 intro a w η Qc hQ hr
 simp only[wpListIn]
 rw[if_neg (by rw[hg a w η hr];simp)]
 exact⟨fun _ _=>trivial,h _ w η Qc hQ (hr.put (dstOk_spec hd) (.prim _))⟩
def AWp (Γ:Env G) (c:Code) (Q:Exit→AS G→Prop) (s:AS G):Prop:=
 ∀a w η,Rel Γ s a w η→c.wpIn Γ.fence 0 Γ.P (fun e a' w'=>∃s' η',Q e s'∧Rel Γ s' a' w' η') a w
def thenQ (next:AS G→Prop) (Q:Exit→AS G→Prop):Exit→AS G→Prop
 | .normal,s=>next s
 |e,s=>Q e s
def inBlockQ (id:Nat) (Q:Exit→AS G→Prop):Exit→AS G→Prop
 | .exit id',s=>if id'=id then Q .normal s else Q (.exit id') s
 |e,s=>Q e s
variable {Q:Exit→AS G→Prop}
theorem AWp.seqK {x y:Code} (h:∀K:AS G→Prop,(∀s,AWp Γ y Q s→K s)→AWp Γ x (thenQ K Q) s):AWp Γ (.seq x y) Q s:=by
 intro a w η hr
 refine wpIn_seq (wpIn_mono (h _ (fun _ h=>h) a w η hr) fun e a' w' hq=>?_)
 obtain⟨s',η',h1,h2⟩:=hq
 cases e with
 |normal=>exact h1 a' w' η' h2
 |_=>exact⟨s',η',h1,h2⟩
theorem AWp.skip (h:Q .normal s):AWp Γ .skip Q s:=fun _ _ η hr=>wpIn_skip ⟨s,η,h,hr⟩
theorem AWp.exit {id:Nat} (h:Q (.exit id) s):AWp Γ (.exit id) Q s:=fun _ _ η hr=>wpIn_exit ⟨s,η,h,hr⟩
theorem AWp.ret (h:Q .ret s):AWp Γ .ret Q s:=fun _ _ η hr=>wpIn_ret ⟨s,η,h,hr⟩
theorem AWp.label {l:Nat} (h:Q .normal s):AWp Γ (.label l) Q s:=fun _ _ η hr=>wpIn_label ⟨s,η,h,hr⟩
theorem AWp.block {id:Nat} {c:Code} (h:AWp Γ c (inBlockQ id Q) s):AWp Γ (.block id c) Q s:=by
 intro a w η hr
 refine wpIn_block (wpIn_mono (h a w η hr) fun e a' w' hq=>?_)
 obtain⟨s',η',h1,h2⟩:=hq
 cases e with
 |exit id'=>
  simp only[inBlockQ] at h1
  simp only[Exit.inBlock]
  split
  ·rename_i hid;rw[if_pos hid] at h1;exact⟨s',η',h1,h2⟩
  ·rename_i hid;rw[if_neg hid] at h1;exact⟨s',η',h1,h2⟩
 |_=>exact⟨s',η',h1,h2⟩
def condP:AV→Prop→Prop→Prop
 | .prim (.bool t),p,q=>(t=true→p)∧(t=false→q)
 |_,_,_=>False
theorem AWp.condK {c:Operand} {x y:Code} (h:∀P1 P2:Prop,(AWp Γ x Q s→P1)→(AWp Γ y Q s→P2)→condP (s.ev c) P1 P2):AWp Γ (.cond c x y) Q s:=by
 intro a w η hr
 have h1:=h _ _ (fun h=>h) fun h=>h
 have hc:=hr.ev c
 generalize s.ev c=v at h1 hc
 unfold condP at h1
 split at h1
 ·rename_i t p q
  exact wpIn_cond_split hc.prim_inv (fun ht=>h1.1 ht a w η hr) (fun ht=>h1.2 ht a w η hr)
 ·exact h1.elim
def Weak (Γ:Env G) (s s':AS G):Prop:=∀a w η,Rel Γ s a w η→∃η',Rel Γ s' a w η'
theorem Weak.refl (s:AS G):Weak Γ s s:=fun _ _ η h=>⟨η,h⟩
theorem Weak.trans {s1 s2 s3:AS G} (h:Weak Γ s1 s2) (k:Weak Γ s2 s3):Weak Γ s1 s3:=fun a w η hr=>let ⟨η',h'⟩:=h a w η hr;k a w η' h'
theorem AWp.weak {c:Code} (hw:Weak Γ s s') (h:AWp Γ c Q s'):AWp Γ c Q s:=fun a w η hr=>let ⟨η',hr'⟩:=hw a w η hr;h a w η' hr'
theorem AWp.mono {c:Code} {Q':Exit→AS G→Prop} (h:AWp Γ c Q s) (hq:∀e s,Q e s→Q' e s):AWp Γ c Q' s:=
 fun a w η hr=>wpIn_mono (h a w η hr) fun e a' w' ⟨s',η',h1,h2⟩=>⟨s',η',hq e s' h1,h2⟩
theorem AWp.loop {c:Code} {β:Type} (I:β→Prop) (st:β→AS G) (μ:β→Nat) (b0:β) (hI:I b0) (h0:Weak Γ s (st b0))
  (round:∀b,I b→AWp Γ c (thenQ (fun s'=>∃b',I b'∧Weak Γ s' (st b')∧μ b' < μ b) Q) (st b)):AWp Γ (.loop c) Q s:=by
 intro a w η hr
 obtain⟨η0,hr0⟩:=h0 a w η hr
 have key:∀(n:Nat) (b:β),I b→μ b=n→∀a w η,Rel Γ (st b) a w η→∀(f:Frame) (k:List Item) (cs:List Frame),f.roundOf=Γ.fence.round→Γ.fence.fn f.fn→Γ.fence.room (cs.length+1+0)→
   ∃e a' w',(∃s' η',Q e s'∧Rel Γ s' a' w' η')∧ArrivesIn (Machine.fenced Γ.P Γ.fence) Γ.P (lone (f.atR a (.code c :: .inLoop c::k)) cs w) f k cs e a' w':=by
  intro n
  induction n using Nat.strongRecOn with
  |_ n ih=>
   intro b hIb hb a w η hr f k cs hro hf hroom
   obtain⟨e,a₁,w₁,⟨s',η',hq,hr'⟩,harr⟩:=round b hIb a w η hr f (.inLoop c::k) cs hro hf hroom
   cases e with
   |normal=>
    obtain⟨b',hIb',hw',hlt⟩:=hq
    obtain⟨η'',hr''⟩:=hw' _ _ _ hr'
    obtain⟨e₂,a₂,w₂,hq₂,harr₂⟩:=ih (μ b') (hb▸hlt) b' hIb' rfl a₁ w₁ η'' hr'' f k cs hro hf hroom
    exact⟨e₂,a₂,w₂,hq₂,.of_steps (StepsIn.trans harr (.one (fenced_calm hf hroom rfl) stepR_inLoop)) harr₂⟩
   |exit id=>exact⟨_,a₁,w₁,⟨s',η',hq,hr'⟩,.pass (x:=.inLoop c) rfl (fun _ _=>.inl (by simp)) harr⟩
   |goto l=>exact⟨_,a₁,w₁,⟨s',η',hq,hr'⟩,.pass (x:=.inLoop c) rfl (fun _ _=>.inl (by simp)) harr⟩
   |ret=>exact⟨_,a₁,w₁,⟨s',η',hq,hr'⟩,.pass (x:=.inLoop c) rfl (fun _ _=>.inl (by simp)) harr⟩
   |panic ch=>exact⟨_,a₁,w₁,⟨s',η',hq,hr'⟩,.pass (x:=.inLoop c) rfl (fun _ _=>.inl (by simp)) harr⟩
   |outgrown=>exact⟨_,a₁,w₁,⟨s',η',hq,hr'⟩,.pass (x:=.inLoop c) rfl (fun _ _=>.inl (by simp)) harr⟩
 intro f k cs hro hf hroom
 obtain⟨e,a',w',hq,harr⟩:=key _ b0 hI rfl a w η0 hr0 f k cs hro hf hroom
 exact⟨e,a',w',hq,.of_steps (.one (fenced_calm hf hroom rfl) stepR_loop) harr⟩
end Go.Proofs.YtjhanogfpkbamaaGreatDoor
