/- Texts of ours laid together for a claim: FilX. -/
import Derived.Test.YtdcikhleahfknaaGreatDoorQ11
namespace Go.Proofs.YtdcikhleahfknaaGreatDoor
open Go
set_option linter.unusedSimpArgs false
set_option linter.unusedVariables false
variable {G:Type} {Γ:Env G} {s s':AS G} {a:Act} {w w':World} {η aN:List Value} {hp hp':List af} {P:Program} {ops:Array Oper}
def mj (l:List Nat):Nat->List af->List af->Prop
 |_,[],_=>True
 |_,_::_,[]=>False
 |q,o::hp,o'::hp'=>(q∈l\/o'=o)/\mj l (q+1) hp hp'
theorem mj.fr {l:List Nat}:∀(hp hp':List af) (q:Nat),mj l q hp hp'->hp.length<=hp'.length/\∀(i:Nat) (o:af),q+i∉l->hp[i]?=some o->hp'[i]?=some o:=by
 intro hp
 induction hp with
 |nil=>intro hp' q _;exact⟨alE _,fun i o _ h=>by simp at h⟩
 |cons o hp ih=>
  intro hp' q h
  cases hp' with
  |nil=>exact h.elim
  |cons o' hp'=>
   obtain⟨h1,h2⟩:=h;obtain⟨g1,g2⟩:=ih hp' (q+1) h2;refine⟨by simpa using g1,fun i ob hi hg=>?_⟩
   cases i with
   |zero=>
    simp only[amp,als] at hg ⊢;rw[<-hg];exact h1.resolve_left (by simpa using hi)
   |succ i=>
    simp only[al5] at hg ⊢;exact g2 i ob (by rw[show q+1+i=q+(i+1) from by omega];exact hi) hg
def oH (K:List Nat):Nat->List af->List af
 |_,[]=>[]
 |q,o::hp=>(if q∈K then .dead else o)::oH K (q+1) hp
def kill:List Nat->List af->List af
 | [],hp=>hp
 |K,hp=>oH K 0 hp
theorem xa (K:List Nat):∀(hp:List af) (q:Nat),(oH K q hp).length=hp.length
 | [],_=>rfl
 |_::hp,q=>by simp[oH,xa K hp (q+1)]
theorem xb (K:List Nat):∀(hp:List af) (q i:Nat) (o:af),(oH K q hp)[i]?=some o->o.live->q+i∉K/\hp[i]?=some o
 | [],_,_,_,h,_=>by simp[oH] at h
 |x::hp,q,i,o,h,hl=>by
  cases i with
  |zero=>
   simp only[oH,amp,als] at h ⊢;split at h
   ·subst h;exact hl.elim
   ·rename_i hq;exact⟨by simpa using hq,h⟩
  |succ i=>
   simp only[oH,al5] at h ⊢;obtain⟨g1,g2⟩:=xb K hp (q+1) i o h hl;exact⟨by rw[show q+(i+1)=q+1+i from by omega];exact g1,g2⟩
theorem NG (K:List Nat) (hp:List af):(kill K hp).length=hp.length:=by
 cases K with
 |nil=>rfl
 |cons=>exact xa _ _ _
theorem NH {K:List Nat} {q:Nat} {o:af} (h:(kill K hp)[q]?=some o) (hl:o.live):q∉K/\hp[q]?=some o:=by
 cases K with
 |nil=>exact⟨by simp,h⟩
 |cons k K=>
  have:=xb (k::K) hp 0 q o h hl;rw[al2] at this;exact this
theorem zc {tab:Nat->Option TD} {ρ:Operand->AV} {op:Op} (h:fP op=true):bC tab hp ρ op=bC tab hp' ρ op:=by
 cases op with
 |makeFunc fn first caps=>cases fn<;>rfl
 |_=>first|rfl|(simp[fP] at h)
theorem qN {tab:Nat->Option TD} {ρ JG:Operand->AV} {op:Op} (h:∀x∈op.operands,ρ x=JG x):dy tab hp ρ op=dy tab hp JG op:=by
 cases op with
 |alloc T=>rfl
 |box T x=>simp only[dy,h x (by simp[Op.operands])]
 |store T x y=>simp only[dy,h x (by simp[Op.operands]),h y (by simp[Op.operands])]
 |makeSlice T n c=>simp only[dy,h n (by simp[Op.operands]),h c (by simp[Op.operands])]
 |makeMap T r=>cases r<;>rfl
 |mapUpdate T m k x=>simp only[dy,h m (by simp[Op.operands]),h k (by simp[Op.operands]),h x (by simp[Op.operands])]
 |call c=>
  simp only[dy];have hl:∀l,c.args.toList=l->∀x∈l,ρ x=JG x:=fun l hl x hx=>h x (by
   simp only[Op.operands,Call.operands,am3]
   exact .inr (by rw[<-amZ,hl];exact hx))
  split
  ·rename_i x y T T' hb Lb hT;simp only[hl _ Lb x (by simp),hl _ Lb y (by simp)]
  ·rfl
 |_=>rfl
def pM:Op->List Operand
 | .load _ x=>[x]
 | .indexAddr _ x i=>[x,i]
 | .lookup _ m k _=>[m,k]
 | .buildSlice _ _ ps=>ps.toList.map (·.2)
 | .call c=>(match c.callee with | .value f=>[f] | .invoke r _=>[r] | .builtin _=>[])++c.args.toList
 | .slice _ x l h m=>x::(l.toList++h.toList++m.toList)
 |op=>op.operands.toList
theorem Hx (op:Op):pM op=op.operands.toList:=by
 cases op with
 |call c=>
  simp only[pM,Op.operands,Call.operands]
  cases c.callee<;>simp
 |slice T x l h m=>simp[pM,Op.operands]
 |_=>simp[pM,Op.operands]
def gW (Γ:Env G) (tab:Nat->Option TD) (m:Option (List Nat)) (o:Oper) (s:AS G) (next rest:AS G->Prop):Prop:=
 if fP o.op=true then(match bC tab s.hp s.ev o.op with
  |some (c,r)=>c/\next (s.put o.dst r)
  |none=>False)
 else match m with
 |none=>DStep Γ tab o s next rest
 |some K=>((pM o.op).all fun x=>(s.ev x).closed (kill K s.hp).length)=true/\(∀ob∈kill K s.hp,af.closed (kill K s.hp).length ob=true)/\
  (match bC tab (kill K s.hp) s.ev o.op with
  |some (c,r)=>c/\r.held (kill K s.hp)=true/\next (s.put o.dst r)
  |none=>(match eJ { s with hp:=kill K s.hp } o.op with
   |some (f,args)=>∃r,ag Γ.P f args r/\r.held (kill K s.hp)=true/\rest (s.put o.dst r)
   |none=>False))
def ml (Γ:Env G) (tab:Nat->Option TD) (nt:Nat) (ops:Array Oper) (C M:List (Option (List Nat))) (K:AS G->Prop):Nat->List Oper->AS G->Prop
 |_,[],s=>K s
 |k,o::rest,s=>if cj o.op=true then cR nt o.dst/\o.guard=none/\(match dy tab s.hp s.ev o.op with
   |some (c,r,hp')=>c/\(match C.getD k none with|none=>True|some l=>mj l 0 s.hp hp')/\ml Γ tab nt ops C M K (k+1) rest (AS.put { s with hp:=hp' } o.dst r)
   |none=>False)
  else cR nt o.dst/\(match o.guard with
   |none=>gW Γ tab (M.getD k none) o s (ml Γ tab nt ops C M K (k+1) rest) (nV Γ ops C M K (k+1) rest)
   |some (j,want)=>(match iV ops s j with
    |some (some b)=>(b=want->gW Γ tab (M.getD k none) o s (ml Γ tab nt ops C M K (k+1) rest) (nV Γ ops C M K (k+1) rest))/\(¬b=want->ml Γ tab nt ops C M K (k+1) rest (s.put o.dst (.ae (.tuple #[]))))
    |some none=>ml Γ tab nt ops C M K (k+1) rest (s.put o.dst (.ae (.tuple #[])))
    |none=>False))
theorem oI {o:Oper} {L:List Nat} (hL:L=o.looksAt ops) (h:∀t,t∈L->s'.tmps t=s.tmps t) {x:Operand} (hx:x∈o.op.operands):(s'.only L).ev x=s.ev x:=by
 subst hL;rw[jG hx]
 cases x with
 |tmp t=>
  refine h t ?_;unfold Oper.looksAt;exact amD _ (List.mem_filterMap.2 ⟨.tmp t,by simpa using hx,rfl⟩)
 |_=>rfl
theorem oJ {tab:Nat->Option TD} (aj:aZ Γ.P tab) {o:Oper} {c:Prop} {r:AV} (hp:bC tab s.hp s.ev o.op=some (c,r)) (hc:c):lA Γ o s r:=by
 intro rR Bs e1 e2 e3;exact .Ns (qL Bs (by rw[e1];exact aj) hp hc)
theorem uH {o:Oper} {f:Nat} {args:List AV} {r:AV} (tM:eJ s o.op=some (f,args)) (hP:ag Γ.P f args r):lA Γ o s r:=by
 intro rR Bs e1 e2 e3;unfold eJ at tM;split at tM
 ·rename_i c hc;split at tM
  ·rename_i x hx;split at tM
   ·rename_i f' caps dx;simp only[als,alx] at tM;obtain⟨rfl,rfl⟩:=tM;exact rP.pure Bs hc hx dx (by rw[e1];exact hP)
   ·cases tM
  ·cases tM
 ·cases tM
theorem oK {op:Op} (Br:s'.hp=s.hp) (h:∀x∈op.operands,s'.ev x=s.ev x):eJ s' op=eJ s op:=by
 unfold eJ;split
 ·rename_i c;split
  ·rename_i x hx;have h1:s'.ev x=s.ev x:=h x (by simp[Op.operands,Call.operands,hx]);have h2:c.args.toList.map s'.ev=c.args.toList.map s.ev:=amM fun y hy=>h y (by simp only[Op.operands,Call.operands,am3];exact .inr (by simpa using hy));rw[h1,h2,Br]
  ·rfl
 ·rfl
theorem DU {M:List (Option (List Nat))} {k:Nat} {op:Op} (hh:¬fP op=true) (hm:M.getD k none=none) (h:pL M k op hp hp'):hp'=hp:=by
 unfold pL at h;rw[if_neg hh,hm] at h;exact h
theorem DV {M:List (Option (List Nat))} {k:Nat} {op:Op} {K:List Nat} (hh:¬fP op=true) (hm:M.getD k none=some K) (h:pL M k op hp hp'):mh K hp hp':=by
 unfold pL at h;rw[if_neg hh,hm] at h;exact h
theorem zS {o:Oper} {K:List Nat} (dx:(o.op.operands.toList.all fun x=>(s.ev x).closed (kill K s.hp).length)=true) (dB:∀ob∈kill K s.hp,af.closed (kill K s.hp).length ob=true)
  (hg:o.guard=none\/∃j want b,o.guard=some (j,want)/\iV ops s j=some b) (ht:∀t,t∈o.looksAt ops->s'.tmps t=s.tmps t) (hf:mh K s.hp s'.hp):Part { s with hp:=kill K s.hp } s' (o.looksAt ops):=by
 refine⟨fun t l5=>⟨ht t l5,?_⟩,fun q ob h1 h2=>?_,?_⟩
 ·unfold Oper.looksAt at l5;rcases amn.1 l5 with h1|h1
  ·obtain⟨x,hx,hxt⟩:=List.mem_filterMap.1 h1
   cases x with
   |tmp u=>
    simp only[als] at hxt;subst hxt;rw[alK] at dx;exact dx _ hx
   |_=>simp at hxt
  ·rcases hg with hg|⟨j,want,b,hg,hb⟩
   ·rw[hg] at h1;simp at h1
   ·rw[hg] at h1;simp only[Option.mem_toList] at h1;unfold iV at hb;rw[h1] at hb;simp only at hb;show (s.tmps t).closed _=true;split at hb
    ·rename_i b' hx;rw[hx];rfl
    ·rename_i b' hx;rw[hx];rfl
    ·cases hb
 ·obtain⟨g1,g2⟩:=NH h1 h2;exact⟨hf.2 q ob g1 g2,dB ob (alF h1)⟩
 ·show (kill K s.hp).length<=_;rw[NG];exact hf.1
theorem gW.sound {tab:Nat->Option TD} (aj:aZ Γ.P tab) {M:List (Option (List Nat))} {k:Nat} {o:Oper} {next rest K':AS G->Prop} (h:gW Γ tab (M.getD k none) o s next rest) (h1:∀s,next s->K' s) (h2:∀s,rest s->K' s)
  (hg:o.guard=none\/∃j want b,o.guard=some (j,want)/\iV ops s j=some b):
  ∃x,(∀s':AS G,(∀t,t∈o.looksAt ops->s'.tmps t=s.tmps t)->pL M k o.op s.hp s'.hp->lA Γ o (s'.only (o.looksAt ops)) x)/\K' (s.put o.dst x):=by
 unfold gW at h;split at h
 ·rename_i hh;split at h
  ·rename_i c r hp';refine⟨r,fun s' ht _=>oJ aj (c:=c) ?_ h.1,h1 _ h.2⟩;rw[<-hp',zc (hp':=s.hp) hh];exact na fun x hx=>oI rfl ht hx
  ·exact h.elim
 ·rename_i hh;split at h
  ·rename_i hm;unfold DStep at h;split at h
   ·rename_i c r hp';refine⟨r,fun s' ht hr=>oJ aj (c:=c) ?_ h.1,h1 _ h.2⟩;have he:(s'.only (o.looksAt ops)).hp=s.hp:=DU hh hm hr;rw[he,<-hp'];exact na fun x hx=>oI rfl ht hx
   ·split at h
    ·rename_i f args tM;obtain⟨r,hP,hr⟩:=h;refine⟨r,fun s' ht hrf=>uH (f:=f) (args:=args) ?_ hP,h2 _ hr⟩;rw[<-tM];exact oK (DU hh hm hrf) fun x hx=>oI rfl ht hx
    ·exact h.elim
  ·rename_i K hm;obtain⟨g1,g2,g3⟩:=h;rw[Hx] at g1;split at g3
   ·rename_i c r hp';refine⟨r,fun s' ht hr=>?_,h1 _ g3.2.2⟩;refine lA.part (s:={ s with hp:=kill K s.hp }) (oJ aj (c:=c) ?_ g3.1) (zS g1 g2 hg ht (DV hh hm hr)) g3.2.1;rw[<-hp'];exact na fun x hx=>jG hx
   ·split at g3
    ·rename_i f args tM;obtain⟨r,hP,DR,mP⟩:=g3;refine⟨r,fun s' ht hr=>?_,h2 _ mP⟩;refine lA.part (s:={ s with hp:=kill K s.hp }) (uH (f:=f) (args:=args) ?_ hP) (zS g1 g2 hg ht (DV hh hm hr)) DR;rw[<-tM];exact oK rfl fun x hx=>jG hx
    ·exact g3.elim
theorem ml.sound {tab:Nat->Option TD} (aj:aZ Γ.P tab) {nt:Nat} (cW:nt=Γ.nt) {C M:List (Option (List Nat))} {K:AS G->Prop}:∀(l:List Oper) (k:Nat) (s:AS G),ml Γ tab nt ops C M K k l s->nV Γ ops C M K k l s:=by
 subst cW;intro l
 induction l with
 |nil=>intro k s h;exact h
 |cons o rest ih=>
  intro k s h;simp only[ml] at h;simp only[nV];split at h
  ·rename_i he;rw[if_pos he];obtain⟨h1,h2,h3⟩:=h;split at h3
   ·rename_i c r hp' hh;refine⟨h1,h2,r,hp',fun rR Bs e1 e2 e3=>iB Bs (tab:=tab) (by rw[e1];exact aj) (c:=c) ?_ h3.1,?_,ih _ _ h3.2.2⟩
    ·rw[<-hh];exact qN fun x hx=>jG hx
    ·have h4:=h3.2.1;unfold kb
     split at h4<;>rename_i hc<;>rw[hc]
     ·exact True.intro
     ·have:=mj.fr _ _ _ h4;exact⟨this.1,fun q ob hq ho=>this.2 q ob (by simpa using hq) ho⟩
   ·exact h3.elim
  ·rename_i he;rw[if_neg he];obtain⟨h1,h2⟩:=h;split at h2
   ·rename_i hg;obtain⟨x,h3,h4⟩:=gW.sound (ops:=ops) aj h2 (ih (k+1)) (fun _ h=>h) (.inl hg);exact⟨x,⟨h1,.inl ⟨by simp[aO,hg],h3⟩⟩,h4⟩
   ·rename_i j want hg;split at h2
    ·rename_i b hb
     by_cases iN:b=want
     ·obtain⟨x,h3,h4⟩:=gW.sound (ops:=ops) aj (h2.1 iN) (ih (k+1)) (fun _ h=>h) (.inr ⟨j,want,_,hg,hb⟩);exact⟨x,⟨h1,.inl ⟨by simp[aO,hg,hb,iN],h3⟩⟩,h4⟩
     ·exact⟨_,⟨h1,.inr ⟨by simp[aO,hg,hb,iN],rfl⟩⟩,ih _ _ (h2.2 iN)⟩
    ·rename_i hb;exact⟨_,⟨h1,.inr ⟨by simp[aO,hg,hb],rfl⟩⟩,ih _ _ h2⟩
    ·exact h2.elim
theorem dT.aao (ax:Γ.Ok) {tab:Nat->Option TD} (aj:aZ Γ.P tab) {nt:Nat} (cW:nt=Γ.nt) (hm:Γ.P.follows .mixedOrders=true) {id:Nat} {l:List Oper} {Q:Exit->AS G->Prop} (C M:List (Option (List Nat))) (hd:vZ C M l=true)
  (h:ml Γ tab nt l.toArray C M (Q .normal) 0 l s):dT Γ (.region id l.toArray true) Q s:=by
 intro a w η hr;refine wpIn_region_any hm ?_;have:=(nV.any (Γ:=Γ) (C:=C) (M:=M) hd l 0 (Array.replicate l.length false) s (fun j=>by simp) (by simp) (fun j hj=>by simp[hj]) (by simp) (ml.sound aj cW l 0 s h)).any ax;have h2:=qn.sound (Qc:=fun e a' w'=>∃s' aN,Q e s'/\Rel Γ s' a' w' aN) ax (fun s' a' w' aN h1 h2=>⟨s',aN,h1,h2⟩) _ _ _ a w.drew η this (hr.same ax (bI.drew w));simpa using h2
end Go.Proofs.YtdcikhleahfknaaGreatDoor
