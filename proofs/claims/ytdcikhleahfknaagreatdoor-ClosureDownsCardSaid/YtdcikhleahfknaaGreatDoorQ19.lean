/- Texts of ours laid together for a claim: VcN. -/
import Derived.Test.YtdcikhleahfknaaGreatDoorQ18
namespace Go.Proofs.YtdcikhleahfknaaGreatDoor
open Go
set_option linter.unusedSimpArgs false
set_option linter.unusedVariables false
def NU (F:Nat->Nat->Prop) (w w':World) (v:Value) (b o:Nat):Prop:=F b o\/(w.heap.size<=b/\b<w'.heap.size/\ct v≠some b)
def zT (w:World) (F:Nat->Nat->Prop) (w':World) (e size:Nat) (els:List AV) (v:Value):Prop:=
 bI w w'/\v.oneCell'=true/\(∀b,ct v=some b->w.heap.size<=b)/\0<size/\∃xs:List Value,kQ w' e size v els.length xs 0/\
  ∀(i:Nat) (el:AV),els[i]?=some el->el.cells.length=size/\
   ∀(j:Nat) (x:AV),el.cells[j]?=some x->∃u,xs[i*size+j]?=some u/\bm w' (NU F w w' v) [] [] x u/\u.oneCell'=true
def MY (P:Program) (f:FuncId) (args:List AV) (e size:Nat) (els:List AV):Prop:=
 iW P f/\∀(w:World) (F:Nat->Nat->Prop) (bb:List Value),(∀b o,F b o->b<w.heap.size)->og w->bZ w F [] [] args bb->
  CallsIn Fence.wide 0 P f bb.toArray w (fun en w'=>∃v,en=.returned v/\zT w F w' e size els v)
variable {G:Type} {Γ:Env G} {s s':AS G} {a:Act} {w w':World} {η:List Value} {hp:List af} {P:Program}
theorem Lo (ax:Γ.Ok) (h:Rel Γ s a w η) (hs:bI w w') {v:Value} (hv:∀b,ct v=some b->w.heap.size<=b) {o:af} {b k:Nat} (hb:NU (bk Γ w η s.hp) w w' v b k):bk Γ w' (η++[v]) (s.hp++[o]) b k:=by
 rcases hb with h1|⟨h1,h2,h3⟩
 ·exact(rD (Γ:=Γ) (o:=o) h.heap.len hs hv).bg b k h1
 ·refine⟨.inr (.inl (amf h.keeps.size h1)),h2,fun hx=>by have:=ax.no hx;have:=h.keeps.size;omega,(aU b k).2 fun r u hu MU=>?_⟩;rcases dt hu with g1|⟨g1,g2⟩
  ·have eH:r<s.hp.length:=by rw[<-h.heap.len];exact(alu.1 g1).1
   have ho:s.hp[r]?=some s.hp[r]:=by simp[eH]
   refine⟨s.hp[r],cw ho,?_⟩
   cases hk:s.hp[r] with
   |dead=>exact True.intro
   |_=>
    rw[hk] at ho;have:=h.heap.block ho True.intro g1 MU;omega
  ·subst g2;exact(h3 MU).elim
theorem bD.fresh (ax:Γ.Ok) {o:Oper} {c:Call} {x:Operand} (ho:o.op=.call c) (hc:c.callee=.value x) {f:FuncId} {caps:List AV} (hx:s.ev x=.aY f caps) {e size:Nat} {els:List AV}
  (hP:MY Γ.P f ((c.args.toList.map s.ev++caps).map (AV.bB s.hp)) e size els) (hd:cR Γ.nt o.dst) {K:AS G->Prop} (hK:K (AS.put { s with hp:=s.hp++[.aQ e size els] } o.dst (.own s.hp.length els.length))):bD Γ o s K:=by
 intro a w η Kc Qc hk hr;have dO:=hr.ev x;rw[hx] at dO;generalize hv:a.eval x=v at dO
 cases dO with
 |aY _ _ vs hl cX=>
  refine⟨fun _ _=>trivial,?_⟩;have bu:∀c',o.op ≠ .defer c':=by intro c' h;rw[ho] at h;cases h
  rw[Oper.semAt_eq _ _ _ bu,fB ho hc hP.1 hv];have aF:(c.args.map a.eval++vs)=(c.args.toList.map a.eval++vs.toList).toArray:=by apply amT;simp
  have dx:bZ w (bk Γ w η s.hp) η s.hp caps vs.toList:=cF (by simpa using hl) fun j y u hy hu=>cX j y u hy (by simpa using hu);have gy:=kW hr _ _ (dI _ _ (gk hr c.args.toList) dx);refine⟨fun h=>(by cases h),?_⟩;rw[aF];have jZ:=hP.2 w (bk Γ w η s.hp) _ (fun _ _=>dZ) (hr.gL ax) gy;refine CallsIn.mono (F:=Γ.ec) ?_ (R:=fun en w'=>∃v,en=.returned v/\zT w (bk Γ w η s.hp) w' e size els v) fun en w' ⟨u,he,hs,h1,oN,hz,xs,cy,cS⟩=>?_
  ·exact jZ
  ·subst he;have DR:Rel Γ (s.add (.aQ e size els)) a w' (η++[u]):=hr.add ax (o:=.aQ e size els) (v:=u) hs oN
    ⟨hz,xs,cy,fun i el hi=>⟨(cS i el hi).1,fun j y hj=>let ⟨v1,q1,q2,q3⟩:=(cS i el hi).2 j y hj;⟨v1,q1,q2.bg fun b k h=>Lo ax hr hs oN h,q3⟩⟩⟩
   refine hk _ _ _ _ hK (Rel.put (s:={ s with hp:=s.hp++[.aQ e size els] }) DR (cd hd) (.own _ _ _ h1 ?_));unfold aT;have:(s.hp++[af.aQ e size els])[s.hp.length]?=some (.aQ e size els):=by simp
   rw[this];exact⟨alA _,fun _=>by rw[<-hr.heap.len];simp⟩
def NV (tab:Nat->Option TD) (rs:List ResultVar) (e size:Nat) (els:List AV):Exit->AS Unit->Prop
 | .normal,s | .ret,s=>(match ee tab s rs with
  |some [.own r n]=>(match s.hp[r]? with
   |some (.aQ e' z lO)=>e'=e/\z=size/\lO=els/\n=els.length
   |_=>False)
  |some [.ae (.slice none 0 0)]=>els=[]/\0<size
  |_=>False)
 |_,_=>False
theorem D7 {tab:Nat->Option TD} (aj:aZ P tab) {f:FuncId} {fn:Func} {c:Code} {args:List AV} {e size:Nat} {els:List AV} (hf:P.funcs[f]?=some fn) (hb:fn.body=some c) (fD:(fn.name == "runtime.NumGoroutine")=false) (hn:args.length<=fn.ntmps)
  (h:∀Γ:Env Unit,Γ.Ok->Γ.P=P->fn.ntmps=Γ.nt->Γ.jR.length=0->Γ.Dn->dT Γ c (NV tab fn.results.toList e size els) ⟨cI 0 args,[],()⟩):MY P f args e size els:=by
 refine⟨⟨fn,hf,fD,by rw[hb];rfl⟩,fun w F bb hF hg hv=>?_⟩
 let Γ:Env Unit:={ P:=P,w0:=w,F0:=F,X:=fun _=>False,Y:=fun _=>False,Inv:=fun _ _=>True,nt:=fn.ntmps,zH:=none,m0:=fun r=>w.heap.size<=r,Z:=fun _ _=>False,yY:=[],jR:=[] }
 have ax:Γ.Ok:=⟨rfl,fun _ h=>h.elim,fun _ h=>h.elim,fun _ _ _ _ _ h=>h,fun _ _ h=>h.elim,hg,fun _ _ h=>h.elim (fun h=>h) fun h=>h⟩;have Sw:=hv.length;have ew:∀b o,F b o->bk Γ w [] [] b o:=fun b o hb=>⟨.inl hb,hF b o hb,fun h=>h.elim (fun h=>h) fun h=>h,fun r v hr=>by simp at hr⟩;have qv:∀(l:List AV) (us:List Value) (k:Nat),bZ w F [] [] l us->∀t,bm w (bk Γ w [] []) [] [] (cI k l t) (if t<k then undef else(us[t-k]?).getD undef)\/t<k:=by
  intro l
  induction l with
  |nil=>intro us k _ t;exact .inl (.top _)
  |cons x l ih=>
   intro us k hl t
   cases us with
   |nil=>exact hl.elim
   |cons u us=>
    by_cases zP:t<k
    ·exact .inr zP
    ·refine .inl ?_;rw[if_neg zP];simp only[cI,fc]
     by_cases W2:t=k
     ·subst W2;rw[if_pos rfl,am9];exact hl.1.bg ew
     ·rw[if_neg W2];rcases ih us (k+1) hl.2 t with h1|h1
      ·rw[if_neg (by omega)] at h1;have:t-k=(t-(k+1))+1:=by omega
       rw[this,al5];exact h1
      ·omega
 have hrel:Rel Γ ⟨cI 0 args,[],()⟩ ⟨bb.toArray++Array.replicate (fn.ntmps-bb.toArray.size) undef,[]⟩ w []:=by
  refine⟨by simp[Γ];omega,fun t=>?_,⟨rfl,fun r o v h=>by simp at h,fun r r' o o' v v' b _ h=>by simp at h⟩,fun r o v b h=>by simp at h,bE.refl _ w,True.intro,⟨fun d hd=>(by cases hd),List.Pairwise.nil⟩,⟨fun _ _ _ _ h=>h,fun _ _ _ _ h=>h,ew,fun _ _ h=>h,fun _ _ h=>h,fun _ _ _ h=>h⟩⟩;have:=qv args bb 0 hv t;simp only[ans,if_false,or_false,ant] at this;have e:(bb.toArray++Array.replicate (fn.ntmps-bb.toArray.size) undef).getD t undef=(bb[t]?).getD undef:=by
   rw[al9]
   by_cases ht:t<bb.length
   ·rw[ani (by simpa using ht)];simp
   ·rw[Array.getElem?_append_right (by simpa using ht),al0 (by omega)];rw[anm]
    split<;>rfl
  show bm w _ _ _ _ ((bb.toArray++Array.replicate (fn.ntmps-bb.toArray.size) undef).getD t undef);rw[e];exact this
 have gR:=h Γ ax rfl rfl rfl ⟨rfl,fun _ h=>h⟩ _ _ _ hrel;refine callsIn_of_wp_marks (F:=Fence.wide) hf hb trivial (wpIn_mono (F:=Fence.wide) gR fun ex a' w' ⟨s',aN,hq,eH⟩=>?_);have fin:NV tab fn.results.toList e size els .ret s'->LeavesInM Fence.wide 0 P fn a'.tmps (fun en w'=>∃v,en=.returned v/\zT w F w' e size els v) a'.defers .returning w':=by
  intro hq;simp only[NV] at hq;have go:∀l,ee tab s' fn.results.toList=some l->(∀w2 v,Rel Γ s' ⟨a'.tmps,[]⟩ w2 aN->bm w2 (bk Γ w2 aN s'.hp) aN s'.hp (gm l) v->zT w F w2 e size els v)->LeavesInM Fence.wide 0 P fn a'.tmps (fun en w'=>∃v,en=.returned v/\zT w F w' e size els v) a'.defers .returning w':=by
   intro l hl jo;exact Bo (Γ:=Γ) (s:=s') (η:=aN) (fn:=fn) (ts:=a'.tmps) (R:=fun en w'=>∃v,en=.returned v/\zT w F w' e size els v) ax (fun _ h=>h) (fun w2 mP=>by
    obtain⟨v,h1,h2⟩:=kX aj mP hl
    exact⟨v,h1,v,rfl,jo w2 v mP h2⟩) a'.defers w' eH
  split at hq
  ·rename_i r n hl;split at hq
   ·rename_i e' z lO ho;obtain⟨rfl,rfl,rfl,rfl⟩:=hq;refine go _ hl fun w2 v mP h2=>?_
    cases h2 with
    |own _ _ _ h1 tL=>
     unfold aT at tL;rw[ho] at tL;replace tL:=And.intro tL.1 (tL.2 rfl);obtain⟨hz,xs,cy,cS⟩:=mP.heap.obj r _ _ ho tL.2;refine⟨mP.keeps.same fun b _ hx=>by rcases hx with h|h<;>exact h,h1,fun b hb=>((mP.bM r _ v b ho True.intro tL.2 hb).1).elim id fun h=>h.elim,hz,xs,cy,fun i el hi=>⟨(cS i el hi).1,fun j x hj=>?_⟩⟩;obtain⟨u,q1,q2,q3⟩:=(cS i el hi).2 j x hj;refine⟨u,q1,q2.bg fun b k hf=>?_,q3⟩;rcases hf.1 with h3|h3|h3
     ·exact .inl h3
     ·refine .inr ⟨h3,hf.2.1,fun hb=>?_⟩;obtain⟨o1,g1,g2⟩:=(aU b k).1 hf.2.2.2 r v tL.2 hb;rw[ho] at g1;obtain rfl:=alw g1;exact g2
     ·exact h3.elim
   ·exact hq.elim
  ·rename_i hl;obtain⟨rfl,hz⟩:=hq;refine go _ hl fun w2 v mP h2=>?_;have:=bm.ay h2;subst this;exact⟨mP.keeps.same fun b _ hx=>by rcases hx with h|h<;>exact h,rfl,fun b hb=>by simp[ct] at hb,hz,[],⟨by simp,.inl ⟨rfl,.inl rfl⟩⟩,fun i el hi=>by simp at hi⟩
  ·exact hq.elim
 cases ex with
 |normal=>exact fin hq
 |ret=>exact fin hq
 |_=>exact hq.elim
end Go.Proofs.YtdcikhleahfknaaGreatDoor
