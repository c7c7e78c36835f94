/- Texts of ours laid together for a claim: VcN. -/
import Derived.Test.YtjhanogfpkbamaaGreatDoorQ18
namespace Go.Proofs.YtjhanogfpkbamaaGreatDoor
open Go
set_option linter.unusedSimpArgs false
set_option linter.unusedVariables false
def OntoM (F:Nat→Nat→Prop) (w w':World) (v:Value) (b o:Nat):Prop:=F b o∨(w.heap.size≤b∧b<w'.heap.size∧blk v≠some b)
def MPost (w:World) (F:Nat→Nat→Prop) (w':World) (e size:Nat) (els:List AV) (v:Value):Prop:=
 Same w w'∧v.oneCell'=true∧(∀b,blk v=some b→w.heap.size≤b)∧0<size∧∃xs:List Value,RowOk w' e size v els.length xs 0∧
  ∀(i:Nat) (el:AV),els[i]?=some el→el.cells.length=size∧
   ∀(j:Nat) (x:AV),el.cells[j]?=some x→∃u,xs[i*size+j]?=some u∧Rep w' (OntoM F w w' v) [] [] x u∧u.oneCell'=true
def MFn (P:Program) (f:FuncId) (args:List AV) (e size:Nat) (els:List AV):Prop:=
 Callable P f∧∀(w:World) (F:Nat→Nat→Prop) (vals:List Value),(∀b o,F b o→b<w.heap.size)→Glob w→RepL w F [] [] args vals→
  CallsIn Fence.wide 0 P f vals.toArray w (fun en w'=>∃v,en=.returned v∧MPost w F w' e size els v)
variable {G:Type} {Γ:Env G} {s s':AS G} {a:Act} {w w':World} {η:List Value} {hp:List AObj} {P:Program}
theorem ontoM_fok (hok:Γ.Ok) (h:Rel Γ s a w η) (hs:Same w w') {v:Value} (hv:∀b,blk v=some b→w.heap.size≤b) {o:AObj} {b k:Nat} (hb:OntoM (Fok Γ w η s.hp) w w' v b k):Fok Γ w' (η++[v]) (s.hp++[o]) b k:=by
 rcases hb with h1|⟨h1,h2,h3⟩
 ·exact(ext_new (Γ:=Γ) (o:=o) h.heap.len hs hv).foot b k h1
 ·refine⟨.inr (.inl (Nat.le_trans h.keeps.size h1)),h2,fun hx=>by have:=hok.no hx;have:=h.keeps.size;omega,(objF_iff b k).2 fun r u hu hbu=>?_⟩
  rcases getElem?_snoc hu with g1|⟨g1,g2⟩
  ·have hr':r<s.hp.length:=by rw[←h.heap.len];exact(List.getElem?_eq_some_iff.1 g1).1
   have ho:s.hp[r]?=some s.hp[r]:=by simp[hr']
   refine⟨s.hp[r],getElem?_snoc_lt ho,?_⟩
   cases hk:s.hp[r] with
   |dead=>exact True.intro
   |_=>
    rw[hk] at ho
    have:=h.heap.block ho True.intro g1 hbu
    omega
  ·subst g2;exact(h3 hbu).elim
theorem ACall.fresh (hok:Γ.Ok) {o:Oper} {c:Call} {x:Operand} (ho:o.op=.call c) (hc:c.callee=.value x) {f:FuncId} {caps:List AV} (hx:s.ev x=.clo f caps) {e size:Nat} {els:List AV}
  (hP:MFn Γ.P f ((c.args.toList.map s.ev++caps).map (AV.toData s.hp)) e size els) (hd:dstOk Γ.nt o.dst) {K:AS G→Prop} (hK:K (AS.put { s with hp:=s.hp++[.mrow e size els] } o.dst (.own s.hp.length els.length))):ACall Γ o s K:=by
 intro a w η Kc Qc hk hr
 have hxr:=hr.ev x
 rw[hx] at hxr
 generalize hv:a.eval x=v at hxr
 cases hxr with
 |clo _ _ vs hl hrep=>
  refine⟨fun _ _=>trivial,?_⟩
  have hne:∀c',o.op ≠ .defer c':=by intro c' h;rw[ho] at h;cases h
  rw[Oper.semAt_eq _ _ _ hne,run_call_clo ho hc hP.1 hv]
  have hargs:(c.args.map a.eval++vs)=(c.args.toList.map a.eval++vs.toList).toArray:=by apply Array.ext';simp
  have hcl:RepL w (Fok Γ w η s.hp) η s.hp caps vs.toList:=repL_of_get (by simpa using hl) fun j y u hy hu=>hrep j y u hy (by simpa using hu)
  have hreps:=repL_toData hr _ _ (repL_append _ _ (repArgs hr c.args.toList) hcl)
  refine⟨fun h=>(by cases h),?_⟩
  rw[hargs]
  have hcall:=hP.2 w (Fok Γ w η s.hp) _ (fun _ _=>fok_lt) (hr.glob hok) hreps
  refine CallsIn.mono (F:=Γ.fence) ?_ (R:=fun en w'=>∃v,en=.returned v∧MPost w (Fok Γ w η s.hp) w' e size els v) fun en w' ⟨u,he,hs,h1,hnew,hz,xs,hrow,hels⟩=>?_
  ·exact hcall
  ·subst he
   have hr1:Rel Γ (s.add (.mrow e size els)) a w' (η++[u]):=hr.add hok (o:=.mrow e size els) (v:=u) hs hnew
    ⟨hz,xs,hrow,fun i el hi=>⟨(hels i el hi).1,fun j y hj=>let ⟨v1,q1,q2,q3⟩:=(hels i el hi).2 j y hj;⟨v1,q1,q2.foot fun b k h=>ontoM_fok hok hr hs hnew h,q3⟩⟩⟩
   refine hk _ _ _ _ hK (Rel.put (s:={ s with hp:=s.hp++[.mrow e size els] }) hr1 (dstOk_spec hd) (.own _ _ _ h1 ?_))
   unfold OwnOk
   have:(s.hp++[AObj.mrow e size els])[s.hp.length]?=some (.mrow e size els):=by simp
   rw[this]
   exact⟨rfl,by rw[←hr.heap.len];simp⟩
end Go.Proofs.YtjhanogfpkbamaaGreatDoor
