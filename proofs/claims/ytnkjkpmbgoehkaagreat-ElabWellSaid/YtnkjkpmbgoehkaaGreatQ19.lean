/- Lemmas. -/
import Derived.Test.YtnkjkpmbgoehkaaGreatQ18
namespace Go.Proofs.YtnkjkpmbgoehkaaGreat
open Go
set_option linter.unusedSimpArgs false
set_option linter.unusedVariables false
def aaF (F:Nat->Nat->Prop) (w w':World) (v:Value) (b o:Nat):Prop:=F b o\/(w.heap.size<=b/\b<w'.heap.size/\dO v≠some b)
def aaG (w:World) (F:Nat->Nat->Prop) (w':World) (e size:Nat) (els:List AV) (v:Value):Prop:=
 bV w w'/\v.oneCell'=true/\(∀b,dO v=some b->w.heap.size<=b)/\0<size/\∃xs:List Value,mT w' e size v els.length xs 0/\
  ∀(i:Nat) (el:AV),els[i]?=some el->el.cells.length=size/\
   ∀(j:Nat) (x:AV),el.cells[j]?=some x->∃u,xs[i*size+j]?=some u/\bB w' (aaF F w w' v) [] [] x u/\u.oneCell'=true
def MFn (P:Program) (f:FuncId) (args:List AV) (e size:Nat) (els:List AV):Prop:=
 nU P f/\∀(w:World) (F:Nat->Nat->Prop) (bE:List Value),(∀b o,F b o->b<w.heap.size)->sn w->cu w F [] [] args bE->
  CallsIn Fence.wide 0 P f bE.toArray w (fun en w'=>∃v,en=.returned v/\aaG w F w' e size els v)
variable {G:Type} {Γ:Env G} {s s':AS G} {a:Act} {w w':World} {η:List Value} {hp:List aw} {P:Program}
theorem OZ (aE:Γ.Ok) (h:Rel Γ s a w η) (hs:bV w w') {v:Value} (hv:∀b,dO v=some b->w.heap.size<=b) {o:aw} {b k:Nat} (hb:aaF (bt Γ w η s.hp) w w' v b k):bt Γ w' (η++[v]) (s.hp++[o]) b k:=by
 rcases hb with h1|⟨h1,h2,h3⟩
 ·exact(tQ (Γ:=Γ) (o:=o) h.heap.len hs hv).bI b k h1
 ·refine⟨.inr (.inl (aqU h.keeps.size h1)),h2,fun hx=>by have:=aE.no hx;have:=h.keeps.size;omega,(bm b k).2 fun r u hu QJ=>?_⟩;rcases ea hu with g1|⟨g1,g2⟩
  ·have gy:r<s.hp.length:=by rw[<-h.heap.len];exact(aqr.1 g1).1
   have ho:s.hp[r]?=some s.hp[r]:=by simp[gy]
   refine⟨s.hp[r],cQ ho,?_⟩
   cases hk:s.hp[r] with
   |dead=>exact True.intro
   |_=>
    rw[hk] at ho;have:=h.heap.block ho True.intro g1 QJ;omega
  ·subst g2;exact(h3 QJ).elim
theorem bO.fresh (aE:Γ.Ok) {o:Oper} {c:Call} {x:Operand} (ho:o.op=.call c) (hc:c.callee=.value x) {f:FuncId} {caps:List AV} (hx:s.ev x=.bz f caps) {e size:Nat} {els:List AV}
  (hP:MFn Γ.P f ((c.args.toList.map s.ev++caps).map (AV.bK s.hp)) e size els) (hd:dC Γ.nt o.dst) {K:AS G->Prop} (hK:K (AS.put { s with hp:=s.hp++[.bj e size els] } o.dst (.own s.hp.length els.length))):bO Γ o s K:=by
 intro a w η Kc Qc hk hr;have eP:=hr.ev x;rw[hx] at eP;generalize hv:a.eval x=v at eP
 cases eP with
 |bz _ _ vs hl eR=>
  refine⟨fun _ _=>trivial,?_⟩;have cg:∀c',o.op ≠ .defer c':=by intro c' h;rw[ho] at h;cases h
  rw[Oper.semAt_eq _ _ _ cg,gM ho hc hP.1 hv];have aN:(c.args.map a.eval++vs)=(c.args.toList.map a.eval++vs.toList).toArray:=by apply arL;simp
  have dK:cu w (bt Γ w η s.hp) η s.hp caps vs.toList:=dL (by simpa using hl) fun j y u hy hu=>eR j y u hy (by simpa using hu);have iH:=mX hr _ _ (eH _ _ (iA hr c.args.toList) dK);refine⟨fun h=>(by cases h),?_⟩;rw[aN];have fP:=hP.2 w (bt Γ w η s.hp) _ (fun _ _=>fh) (hr.kN aE) iH;refine CallsIn.mono (F:=Γ.fj) ?_ (R:=fun en w'=>∃v,en=.returned v/\aaG w (bt Γ w η s.hp) w' e size els v) fun en w' ⟨u,he,hs,h1,xV,hz,xs,eQ,fN⟩=>?_
  ·exact fP
  ·subst he;have DP:Rel Γ (s.add (.bj e size els)) a w' (η++[u]):=hr.add aE (o:=.bj e size els) (v:=u) hs xV
    ⟨hz,xs,eQ,fun i el hi=>⟨(fN i el hi).1,fun j y hj=>let ⟨v1,q1,q2,q3⟩:=(fN i el hi).2 j y hj;⟨v1,q1,q2.bI fun b k h=>OZ aE hr hs xV h,q3⟩⟩⟩
   refine hk _ _ _ _ hK (Rel.put (s:={ s with hp:=s.hp++[.bj e size els] }) DP (cy hd) (.own _ _ _ h1 ?_));unfold bl;have:(s.hp++[aw.bj e size els])[s.hp.length]?=some (.bj e size els):=by simp
   rw[this];exact⟨aqw _,fun _=>by rw[<-hr.heap.len];simp⟩
end Go.Proofs.YtnkjkpmbgoehkaaGreat
