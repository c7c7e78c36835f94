/- Texts of ours laid together for a claim: VcN. -/
import Derived.Test.YtnkjkpmbgoehkaaGreatQ18
namespace Go.Proofs.YtnkjkpmbgoehkaaGreat
open Go
set_option linter.unusedSimpArgs false
set_option linter.unusedVariables false
def Wd (F:Nat->Nat->Prop) (w w':World) (v:Value) (b o:Nat):Prop:=F b o\/(w.heap.size<=b/\b<w'.heap.size/\cZ v≠some b)
def We (w:World) (F:Nat->Nat->Prop) (w':World) (e size:Nat) (els:List AV) (v:Value):Prop:=
 bD w w'/\v.oneCell'=true/\(∀b,cZ v=some b->w.heap.size<=b)/\0<size/\∃xs:List Value,lu w' e size v els.length xs 0/\
  ∀(i:Nat) (el:AV),els[i]?=some el->el.cells.length=size/\
   ∀(j:Nat) (x:AV),el.cells[j]?=some x->∃u,xs[i*size+j]?=some u/\ba w' (Wd F w w' v) [] [] x u/\u.oneCell'=true
def MFn (P:Program) (f:FuncId) (args:List AV) (e size:Nat) (els:List AV):Prop:=
 my P f/\∀(w:World) (F:Nat->Nat->Prop) (bg:List Value),(∀b o,F b o->b<w.heap.size)->qn w->bS w F [] [] args bg->
  CallsIn Fence.wide 0 P f bg.toArray w (fun en w'=>∃v,en=.returned v/\We w F w' e size els v)
variable {G:Type} {Γ:Env G} {s s':AS G} {a:Act} {w w':World} {η:List Value} {hp:List ab} {P:Program}
theorem K4 (al:Γ.Ok) (h:Rel Γ s a w η) (hs:bD w w') {v:Value} (hv:∀b,cZ v=some b->w.heap.size<=b) {o:ab} {b k:Nat} (hb:Wd (aW Γ w η s.hp) w w' v b k):aW Γ w' (η++[v]) (s.hp++[o]) b k:=by
 rcases hb with h1|⟨h1,h2,h3⟩
 ·exact(rQ (Γ:=Γ) (o:=o) h.heap.len hs hv).bk b k h1
 ·refine⟨.inr (.inl (alT h.keeps.size h1)),h2,fun hx=>by have:=al.no hx;have:=h.keeps.size;omega,(aS b k).2 fun r u hu MK=>?_⟩;rcases dx hu with g1|⟨g1,g2⟩
  ·have fI:r<s.hp.length:=by rw[<-h.heap.len];exact(ali.1 g1).1
   have ho:s.hp[r]?=some s.hp[r]:=by simp[fI]
   refine⟨s.hp[r],cj ho,?_⟩
   cases hk:s.hp[r] with
   |dead=>exact True.intro
   |_=>
    rw[hk] at ho;have:=h.heap.block ho True.intro g1 MK;omega
  ·subst g2;exact(h3 MK).elim
theorem bq.fresh (al:Γ.Ok) {o:Oper} {c:Call} {x:Operand} (ho:o.op=.call c) (hc:c.callee=.value x) {f:FuncId} {caps:List AV} (hx:s.ev x=.bf f caps) {e size:Nat} {els:List AV}
  (hP:MFn Γ.P f ((c.args.toList.map s.ev++caps).map (AV.bl s.hp)) e size els) (hd:cP Γ.nt o.dst) {K:AS G->Prop} (hK:K (AS.put { s with hp:=s.hp++[.aQ e size els] } o.dst (.own s.hp.length els.length))):bq Γ o s K:=by
 intro a w η Kc Qc hk hr;have eo:=hr.ev x;rw[hx] at eo;generalize hv:a.eval x=v at eo
 cases eo with
 |bf _ _ vs hl dG=>
  refine⟨fun _ _=>trivial,?_⟩;have bL:∀c',o.op ≠ .defer c':=by intro c' h;rw[ho] at h;cases h
  rw[Oper.semAt_eq _ _ _ bL,fT ho hc hP.1 hv];have aw:(c.args.map a.eval++vs)=(c.args.toList.map a.eval++vs.toList).toArray:=by apply amy;simp
  have cY:bS w (aW Γ w η s.hp) η s.hp caps vs.toList:=cU (by simpa using hl) fun j y u hy hu=>dG j y u hy (by simpa using hu);have gA:=lA hr _ _ (dR _ _ (gn hr c.args.toList) cY);refine⟨fun h=>(by cases h),?_⟩;rw[aw];have ff:=hP.2 w (aW Γ w η s.hp) _ (fun _ _=>eu) (hr.ju al) gA;refine CallsIn.mono (F:=Γ.eB) ?_ (R:=fun en w'=>∃v,en=.returned v/\We w (aW Γ w η s.hp) w' e size els v) fun en w' ⟨u,he,hs,h1,vF,hz,xs,ea,fb⟩=>?_
  ·exact ff
  ·subst he;have Bi:Rel Γ (s.add (.aQ e size els)) a w' (η++[u]):=hr.add al (o:=.aQ e size els) (v:=u) hs vF
    ⟨hz,xs,ea,fun i el hi=>⟨(fb i el hi).1,fun j y hj=>let ⟨v1,q1,q2,q3⟩:=(fb i el hi).2 j y hj;⟨v1,q1,q2.bk fun b k h=>K4 al hr hs vF h,q3⟩⟩⟩
   refine hk _ _ _ _ hK (Rel.put (s:={ s with hp:=s.hp++[.aQ e size els] }) Bi (bT hd) (.own _ _ _ h1 ?_));unfold aR;have:(s.hp++[ab.aQ e size els])[s.hp.length]?=some (.aQ e size els):=by simp
   rw[this];exact⟨alp _,fun _=>by rw[<-hr.heap.len];simp⟩
end Go.Proofs.YtnkjkpmbgoehkaaGreat
