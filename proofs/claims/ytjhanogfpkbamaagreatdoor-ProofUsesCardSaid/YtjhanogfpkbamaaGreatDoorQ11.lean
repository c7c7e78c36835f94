/- Texts of ours laid together for a claim: FilW. -/
import Derived.Test.YtjhanogfpkbamaaGreatDoorQ10
namespace Go.Proofs.YtjhanogfpkbamaaGreatDoor
open Go
set_option linter.unusedSimpArgs false
set_option linter.unusedVariables false
variable {G:Type} {Γ:Env G} {s s':AS G} {a:Act} {w w':World} {η aU:List Value} {hp hp':List af} {P:Program} {ops:Array Oper}
def rP (Γ:Env G) (ops:Array Oper) (o:Oper) (s:AS G) (r:AV) (hp':List af):Prop:=
 ∀tr:Env G,tr.Ok→tr.P=Γ.P→tr.nt=Γ.nt→tr.Bw=Γ.Bw→gR tr o (s.only (o.looksAt ops)) r hp'
theorem rP.run (aD:Γ.Ok) {o:Oper} {r:AV} (h:rP Γ ops o s r hp'):gR Γ o s r hp':=by
 intro a w η hr
 let Ef:Env G:={ P:=Γ.P,w0:=w,F0:=bn Γ w η s.hp,X:=Γ.X,Y:=aQ η s.hp,Inv:=Γ.Inv,nt:=Γ.nt,Bw:=Γ.Bw,zY:=η,oQ:=s.hp,m0:=Γ.m0,Z:=Γ.Z }
 have cJ:=hr.keeps.size
 have XS:∀b,aQ η s.hp b→b<w.heap.size:=fun b ⟨q,o,v,g1,g2,g3,g4⟩=>hr.heap.block g1 g2 g3 g4
 have uW:Ef.Ok:=⟨hr.heap.len,fun b hb=>aiD (aD.x b hb) cJ,XS,aD.pO,fun b o hb=>aiD (aD.z b o hb) cJ,hr.kg aD,fun b hb h=>h.elim (fun h=>aD.gx b hb (.inl h)) (hr.gx aD hb)⟩
 have M1:∀b o,bn Γ w η s.hp b o→bn Ef w η s.hp b o:=fun b o h=>⟨.inl h,h.2.1,h.2.2.1,h.2.2.2⟩
 have VW:∀{zY:List Value} {oQ:List af},Ext w (bn Γ w η s.hp) zY oQ w (bn Ef w η s.hp) zY oQ:=⟨fun _ _ _ _ h=>h,fun _ _ _ _ h=>h,M1,fun _ _ h=>h,fun _ _ h=>h,fun _ _ _ h=>h⟩
 have M3:Rel Ef (s.only (o.looksAt ops)) a w η:=
  ⟨hr.nt,fun t=>((hr.only _).tmps t).ext VW,⟨hr.heap.len,fun q o v h1 h2=>(hr.heap.obj q o v h1 h2).ext VW (ah5 _) fun _ _ _=>rfl,hr.heap.sep⟩,
   fun q o v b h1 h2 h3 h4=>⟨.inr ⟨q,o,v,h1,h2,h3,h4⟩,(hr.cE q o v b h1 h2 h3 h4).2⟩,cD.refl _ w,hr.inv,hr.marks,VW⟩
 obtain⟨v,w',aU,h1,h2,h3⟩:=h Ef uW rfl rfl rfl a w η M3
 have Eh:∀b o,bn Ef w' aU hp' b o→bn Γ w' aU hp' b o:=by
  intro b o hf
  refine⟨?_,hf.2.1,hf.2.2.1,hf.2.2.2⟩
  rcases hf.1 with g|g|⟨q,o1,v1,g1,g2,g3,g4⟩
  ·exact g.1
  ·exact .inr (.inl (aiy cJ g))
  ·exact .inr (hr.cE q o1 v1 b g1 g2 g3 g4).1
 have hex:∀{pL:List Value} {iM:List af},Ext w' (bn Ef w' aU hp') pL iM w' (bn Γ w' aU hp') pL iM:=
  ⟨fun _ _ _ _ h=>h,fun _ _ _ _ h=>h,Eh,fun _ _ h=>h,fun _ _ h=>h,fun _ _ _ h=>h⟩
 have XT:Ext w (bn Γ w η s.hp) η s.hp w' (bn Γ w' aU hp') aU hp':=Ext.trans h2.ext hex
 refine⟨v,w',aU,h1,?_,h3.ext hex⟩
 refine⟨hr.nt,fun t=>(hr.tmps t).ext XT,⟨h2.heap.len,fun q o v g1 g2=>(h2.heap.obj q o v g1 g2).ext hex (ah5 _) fun _ _ _=>rfl,h2.heap.sep⟩,fun q o v b g1 g2 g3 g4=>?_,?_,h2.inv,h2.marks,hr.ext.trans XT⟩
 ·have:=h2.cE q o v b g1 g2 g3 g4
  refine⟨?_,this.2⟩
  rcases this.1 with g|⟨q,o1,v1,g1,g2,g3,g4⟩
  ·exact .inl (aiy cJ g)
  ·exact(hr.cE q o1 v1 b g1 g2 g3 g4).1
 ·refine hr.keeps.trans h2.keeps fun b hb hl=>?_
  rcases hl with hl|⟨q,o1,v1,g1,g2,g3,g4⟩
  ·exact .inl hl
  ·rcases (hr.cE q o1 v1 b g1 g2 g3 g4).1 with h|h
   ·omega
   ·exact .inr h
def mW (K:List Nat) (hp hp':List af):Prop:=hp.length≤hp'.length∧∀(q:Nat) (o:af),q∉K→hp[q]?=some o→hp'[q]?=some o
theorem mW.refl {K:List Nat}:mW K hp hp:=⟨ah5 _,fun _ _ _ h=>h⟩
theorem mW.trans {K:List Nat} {iM qI pM:List af} (h:mW K iM qI) (h':mW K qI pM):mW K iM pM:=⟨aiy h.1 h'.1,fun q o hq ho=>h'.2 q o hq (h.2 q o hq ho)⟩
theorem mW.mono {K K':List Nat} (h:mW K hp hp') (hk:∀q∈K,q∈K'):mW K' hp hp':=⟨h.1,fun q o hq ho=>h.2 q o (fun h=>hq (hk q h)) ho⟩
def k9 (C:List (Option (List Nat))) (j:Nat) (hp hp':List af):Prop:=
 match C.getD j none with
 |none=>True
 |some l=>mW l hp hp'
def gS:Op→Bool
 | .move _ | .assign _ | .nilCheck _ | .pick .. | .binOp .. | .unOp .. | .extract .. | .build .. | .field .. | .makeFunc .. | .fieldAddr .. | .convert ..=>true
 |_=>false
def qO (M:List (Option (List Nat))) (k:Nat) (op:Op) (hp hp':List af):Prop:=
 if gS op=true then True else match M.getD k none with
 |none=>hp'=hp
 |some K=>mW K hp hp'
theorem qO.trans {M:List (Option (List Nat))} {k:Nat} {op:Op} {iM qI pM:List af} (h:qO M k op iM qI) (h':qO M k op qI pM):qO M k op iM pM:=by
 unfold qO at *
 split
 ·trivial
 ·rename_i hh
  rw[if_neg hh] at h h'
  split<;>rename_i hm<;>rw[hm] at h h'
  ·exact h'.trans h
  ·exact h.trans h'
theorem qO.refl {M:List (Option (List Nat))} {k:Nat} {op:Op}:qO M k op hp hp:=by
 unfold qO
 split
 ·trivial
 ·split
  ·rfl
  ·exact mW.refl
def kM (Γ:Env G) (ops:Array Oper) (o:Oper) (s:AS G) (x:AV) (R:List af→List af→Prop):Prop:=
 dB Γ.nt o.dst∧((aM ops s o=some true∧∀s':AS G,(∀t,t∈o.looksAt ops→s'.tmps t=s.tmps t)→R s.hp s'.hp→mE Γ o (s'.only (o.looksAt ops)) x)∨(aM ops s o=some false∧x=.ah (.tuple #[])))
theorem kM.M5 (aD:Γ.Ok) {o:Oper} {x:AV} {R:List af→List af→Prop} (hR:R s.hp s.hp) (h:kM Γ ops o s x R):Yields Γ ops o s x:=
 ⟨h.1,h.2.imp (fun g=>⟨g.1,g.2 s (fun _ _=>rfl) hR Γ aD rfl rfl rfl⟩) id⟩
def r8 (Γ:Env G) (ops:Array Oper) (C:List (Option (List Nat))) (i:Nat) (K:AS G→Prop) (s:AS G):Prop:=
 match ops[i]? with
 |none=>K s
 |some o=>if cF o.op=true then dB Γ.nt o.dst∧o.guard=none∧∃r hp',rP Γ ops o s r hp'∧k9 C i s.hp hp'∧K (AS.put { s with hp:=hp' } o.dst r)
  else ∃x,kM Γ ops o s x (fun hp hp'=>hp'=hp)∧K (s.put o.dst x)
def mX (Γ:Env G) (ops:Array Oper) (C:List (Option (List Nat))) (Q:AS G→Prop):Nat→Array Bool→AS G→Prop
 |0,listed,s=>Region.ready .any ops listed=[]∧Q s
 |fuel+1,listed,s=>(Region.ready .any ops listed=[]→Q s)∧∀i∈Region.ready .any ops listed,r8 Γ ops C i (mX Γ ops C Q fuel (listed.setIfInBounds i true)) s
theorem mX.any (aD:Γ.Ok) {C:List (Option (List Nat))} {Q:AS G→Prop}:∀(fuel:Nat) (listed:Array Bool) (s:AS G),mX Γ ops C Q fuel listed s→rA Γ ops Q fuel listed s:=by
 intro fuel
 induction fuel with
 |zero=>intro listed s h;exact h
 |succ fuel ih=>
  intro listed s h
  refine⟨h.1,fun i hi=>?_⟩
  have h1:=h.2 i hi
  unfold r8 at h1
  unfold rO
  split at h1
  ·rename_i ho;rw[ho];exact ih _ _ h1
  ·rename_i o ho
   rw[ho]
   simp only
   split at h1
   ·rename_i he
    rw[if_pos he]
    obtain⟨g1,g2,r,hp',g3,_,g4⟩:=h1
    exact⟨g1,g2,r,hp',g3.run aD,ih _ _ g4⟩
   ·rename_i he
    rw[if_neg he]
    obtain⟨x,g1,g2⟩:=h1
    exact⟨x,kM.M5 (R:=fun hp hp'=>hp'=hp) aD rfl g1,ih _ _ g2⟩
theorem kM.put {o:Oper} {x y:AV} {d:Option Nat} {R:List af→List af→Prop} (h:∀t,d=some t→t∉o.looksAt ops) (hy:kM Γ ops o s y R):kM Γ ops o (s.put d x) y R:=by
 have BP:(s.put d x).hp=s.hp:=by cases d<;>rfl
 have htm:∀t,t∈o.looksAt ops→(s.put d x).tmps t=s.tmps t:=by
  intro t ht
  cases d with
  |none=>rfl
  |some d=>
   show Bx s.tmps d x t=_
   rw[gL,if_neg]
   intro e;subst e;exact h t rfl ht
 refine⟨hy.1,?_⟩
 rw[iQ h]
 refine hy.2.imp (fun g=>⟨g.1,fun s' h1 h2=>g.2 s' (fun t ht=>?_) (by rw[BP] at h2;exact h2)⟩) id
 rw[h1 t ht,htm t ht]
theorem kM.pZ {o:Oper} {x y:AV} {d:Option Nat} {R:List af→List af→Prop} (h:∀t,d=some t→t∉o.looksAt ops) (hy:kM Γ ops o (s.put d x) y R):kM Γ ops o s y R:=by
 have BP:(s.put d x).hp=s.hp:=by cases d<;>rfl
 have htm:∀t,t∈o.looksAt ops→(s.put d x).tmps t=s.tmps t:=by
  intro t ht
  cases d with
  |none=>rfl
  |some d=>
   show Bx s.tmps d x t=_
   rw[gL,if_neg]
   intro e;subst e;exact h t rfl ht
 refine⟨hy.1,?_⟩
 have h2:=hy.2
 rw[iQ h] at h2
 refine h2.imp (fun g=>⟨g.1,fun s' h1 h3=>g.2 s' (fun t ht=>?_) (by rw[BP];exact h3)⟩) id
 rw[h1 t ht,htm t ht]
theorem kM.heap {o:Oper} {y:AV} {R:List af→List af→Prop} (Xr:∀iM qI pM,R iM qI→R qI pM→R iM pM) (h:R s.hp hp') (hy:kM Γ ops o s y R):kM Γ ops o { s with hp:=hp' } y R:=by
 refine⟨hy.1,?_⟩
 have:aM ops { s with hp:=hp' } o=aM ops s o:=rfl
 rw[this]
 exact hy.2.imp (fun g=>⟨g.1,fun s' h1 h2=>g.2 s' h1 (Xr _ _ _ h h2)⟩) id
theorem rP.pZ {o:Oper} {x r:AV} {d:Option Nat} (h:∀t,d=some t→t∉o.looksAt ops) (hy:rP Γ ops o (s.put d x) r hp'):rP Γ ops o s r hp':=by
 unfold rP at *
 rw[yy h] at hy;exact hy
theorem mX.first {C:List (Option (List Nat))} {Q:AS G→Prop} {i:Nat} {oi:Oper} {x:AV} {R:List af→List af→Prop} (Xr:∀iM qI pM,R iM qI→R qI pM→R iM pM) (XU:∀hp,R hp hp) (hi:ops[i]?=some oi) (bK:cF oi.op=false):
  ∀(fuel:Nat) (listed:Array Bool) (s:AS G),pY ops listed→
  (∀(j:Nat) oj,ops[j]?=some oj→j≠i→listed.getD j true=false→Reach ops i j∨(oi.apart ops oj=true∧(cF oj.op=false∨∀hp hp',k9 C j hp hp'→R hp hp')))→
  i∈Region.ready .any ops listed→kM Γ ops oi s x R→mX Γ ops C Q fuel (listed.setIfInBounds i true) (s.put oi.dst x)→mX Γ ops C Q (fuel+1) listed s:=by
 have own:∀{K:AS G→Prop} {s:AS G},kM Γ ops oi s x R→K (s.put oi.dst x)→r8 Γ ops C i K s:=by
  intro K s hy hK
  unfold r8
  rw[hi]
  simp only[bK,aij,if_false]
  exact⟨x,⟨hy.1,hy.2.imp (fun g=>⟨g.1,fun s' h1 h2=>g.2 s' h1 (by rw[h2];exact XU _)⟩) id⟩,hK⟩
 intro fuel
 induction fuel with
 |zero=>
  intro listed s _ _ hr hy H
  refine⟨fun h=>(by rw[h] at hr;cases hr),fun j hj=>?_⟩
  by_cases iE:j=i
  ·subst iE;exact own hy H
  ·have:=ready_mono hj iE
   rw[H.1] at this
   cases this
 |succ fuel ih=>
  intro listed s cZ cU hr hy H
  refine⟨fun h=>(by rw[h] at hr;cases hr),fun j hj=>?_⟩
  by_cases iE:j=i
  ·subst iE;exact own hy H
  ·have h1:=H.2 j (ready_mono hj iE)
   obtain⟨nP,oj,jN,jz⟩:=mem_ready.1 hj
   rcases cU j oj jN iE nP with h2|⟨VP,jV⟩
   ·exact(iD cZ hr hj h2).elim
   obtain⟨p1,p2,p3⟩:=Oper.apart_spec VP
   have aV:∀k ok,ops[k]?=some ok→k≠i→(listed.setIfInBounds j true).getD k true=false→Reach ops i k∨(oi.apart ops ok=true∧(cF ok.op=false∨∀hp hp',k9 C k hp hp'→R hp hp')):=by
    intro k ok hk Qy kE
    refine cU k ok hk Qy ?_
    by_cases kQ:j=k
    ·subst kQ;exact nP
    ·rw[getD_set_ne true kQ] at kE;exact kE
   unfold r8 at h1 ⊢
   rw[jN] at h1 ⊢
   simp only at h1 ⊢
   split at h1
   ·rename_i IZ
    rw[if_pos IZ]
    obtain⟨g1,g2,r,hp',g3,g4,g5⟩:=h1
    have BP:(s.put oi.dst x).hp=s.hp:=by cases oi.dst<;>rfl
    rw[BP] at g4
    have hR:=(jV.resolve_left (by rw[IZ];simp)) _ _ g4
    refine⟨g1,g2,r,hp',g3.pZ p1,g4,ih (listed.setIfInBounds j true) _ (cK cZ hj) aV (ready_mono hr (ajz iE)) ((hy.heap Xr hR).put p3) ?_⟩
    rw[ai9 _ _ iE]
    have e:(AS.put { s with hp:=hp' } oj.dst r).put oi.dst x=AS.put { s.put oi.dst x with hp:=hp' } oj.dst r:=by
     rw[←put_comm p2]
     congr 1
     cases oi.dst<;>rfl
    rw[e]
    exact g5
   ·rename_i IZ
    rw[if_neg IZ]
    obtain⟨y,VQ,hK⟩:=h1
    refine⟨y,VQ.pZ p1,ih (listed.setIfInBounds j true) (s.put oj.dst y) (cK cZ hj) aV (ready_mono hr (ajz iE)) (hy.put p3) ?_⟩
    rw[ai9 _ _ iE,←put_comm p2]
    exact hK
theorem mX.iR {C:List (Option (List Nat))} {Q:AS G→Prop} {i:Nat} {fuel:Nat} {listed:Array Bool} (cZ:pY ops listed) (cU:∀(j:Nat) oj,ops[j]?=some oj→j≠i→listed.getD j true=false→Reach ops i j)
  (hr:i∈Region.ready .any ops listed) (H:r8 Γ ops C i (mX Γ ops C Q fuel (listed.setIfInBounds i true)) s):mX Γ ops C Q (fuel+1) listed s:=by
 refine⟨fun h=>(by rw[h] at hr;cases hr),fun j hj=>?_⟩
 by_cases iE:j=i
 ·subst iE;exact H
 ·obtain⟨nP,oj,jN,_⟩:=mem_ready.1 hj
  exact(iD cZ hr hj (cU j oj jN iE nP)).elim
def M6 (l k:List Nat):Bool:=l.all fun q=>k.contains q
def iS (C M:List (Option (List Nat))) (k j:Nat) (op:Op):Bool:=
 gS op||(match C.getD j none,M.getD k none with
  |some l,some K=>M6 l K
  |_,_=>false)
theorem jO {C M:List (Option (List Nat))} {k j:Nat} {op:Op} (h:iS C M k j op=true) (hc:k9 C j hp hp'):qO M k op hp hp':=by
 unfold iS at h
 unfold qO
 split
 ·trivial
 ·rename_i hh
  rw[ai6] at h
  rcases h with h|h
  ·exact(hh h).elim
  ·split at h
   ·rename_i l K hl hk
    unfold k9 at hc
    rw[hl] at hc
    rw[hk]
    refine hc.mono fun q hq=>?_
    simp only[M6,ah4] at h
    simpa using h q hq
   ·cases h
def xu (C M:List (Option (List Nat))) (l:List Oper):Bool:=
 let m:=mS l []
 (List.range l.length).all fun k=>match l[k]? with
  |none=>false
  |some ok=>ok.after.toList.all (fun e=>!Region.binds .any e||decide (e.on<k)) &&
    (List.range l.length).all fun j=>decide (j≤k)||(m.getD j 0).testBit k||match l[j]? with
     |none=>true
     |some oj=>!cF ok.op&&ok.apart l.toArray oj&&(!cF oj.op||iS C M k j ok.op)
def oX (Γ:Env G) (ops:Array Oper) (C M:List (Option (List Nat))) (K:AS G→Prop):Nat→List Oper→AS G→Prop
 |_,[],s=>K s
 |k,o::rest,s=>if cF o.op=true then dB Γ.nt o.dst∧o.guard=none∧∃r hp',rP Γ ops o s r hp'∧k9 C k s.hp hp'∧oX Γ ops C M K (k+1) rest (AS.put { s with hp:=hp' } o.dst r)
  else ∃x,kM Γ ops o s x (qO M k o.op)∧oX Γ ops C M K (k+1) rest (s.put o.dst x)
theorem oX.any {C M:List (Option (List Nat))} {Q:AS G→Prop} {l0:List Oper} (hd:xu C M l0=true):∀(l:List Oper) (k:Nat) (listed:Array Bool) (s:AS G),(∀(j:Nat),l[j]?=l0[k+j]?)→listed.size=l0.length→(∀(j:Nat),j<l0.length→listed.getD j true=decide (j<k))→k+l.length=l0.length→
  oX Γ l0.toArray C M Q k l s→mX Γ l0.toArray C Q l.length listed s:=by
 intro l
 induction l with
 |nil=>
  intro k listed s _ cJ eX hk h
  refine⟨?_,h⟩
  apply ajp.2
  intro j hj
  obtain⟨h1,o,ho,_⟩:=mem_ready.1 hj
  have ay:j<l0.length:=by have:=(ail.1 ho).1;simpa using this
  rw[eX j ay] at h1
  simp at h1
  simp at hk
  omega
 |cons o l ih=>
  intro k listed s hl cJ eX hk h
  have aD:l0[k]?=some o:=by have:=hl 0;simpa using this.symm
  have D8:l0.toArray[k]?=some o:=by simpa using aD
  have DE:k<l0.length:=(ahY.1 aD).1
  have eG:=hd
  simp only[xu,ah4,aja] at eG
  have oT:=eG k DE
  rw[aD] at oT
  simp only[ahZ,ah4,aja] at oT
  obtain⟨Qz,VR⟩:=oT
  have Hs:listed.getD k true=false:=by rw[eX k DE];simp
  have k7:∀j,j<l0.length→listed.getD j false=decide (j<k):=by
   intro j hj
   have:=eX j hj
   simp only[aiu,aiT (show j<listed.size by omega),aiP] at this ⊢
   exact this
  have qM:k∈Region.ready .any l0.toArray listed:=by
   refine mem_ready.2 ⟨Hs,o,D8,fun e he hb=>?_⟩
   have:=Qz e (by simpa using he)
   rw[hb] at this
   simp at this
   rw[k7 e.on (by omega)];simp;exact this
  have cZ:pY l0.toArray listed:=by
   intro q oq hq MS e he hb
   have D9:q<l0.length:=by have:=(ail.1 MS).1;simpa using this
   rw[k7 q D9] at hq
   have MT:q<k:=by simpa using hq
   have h2:=eG q D9
   have Ht:l0[q]?=some oq:=by simpa using MS
   rw[Ht] at h2
   simp only[ahZ,ah4] at h2
   have h3:=h2.1 e (by simpa using he)
   rw[hb] at h3
   simp at h3
   rw[k7 e.on (by omega)];simp;omega
  have nQ:∀(j:Nat),(List.getD (mS l0 []) j 0).testBit k=true→Reach l0.toArray k j:=by
   intro j hj
   cases hm:(mS l0 [])[j]? with
   |none=>simp[List.getD,hm] at hj
   |some m=>
    simp only[List.getD,hm,aiP] at hj
    exact mT (ops:=l0.toArray) l0 [] (fun j=>by simp) (fun j m i hj=>by simp at hj) j m k hm hj
  have mU:∀(j:Nat) oj,l0.toArray[j]?=some oj→j≠k→listed.getD j true=false→Reach l0.toArray k j∨(cF o.op=false∧o.apart l0.toArray oj=true∧(cF oj.op=false∨iS C M k j o.op=true)):=by
   intro j oj jN kQ kE
   have s7:j<l0.length:=by have:=(ail.1 jN).1;simpa using this
   rw[eX j s7] at kE
   have Hu:l0[j]?=some oj:=by simpa using jN
   have h2:=VR j s7
   rw[Hu] at h2
   simp only[ai6,decide_eq_true_eq,ahZ,aiA] at h2
   rcases h2 with(h2|h2)|h2
   ·simp at kE;omega
   ·exact .inl (nQ j h2)
   ·exact .inr ⟨h2.1.1,h2.1.2,h2.2⟩
  have aV:∀s',oX Γ l0.toArray C M Q (k+1) l s'→mX Γ l0.toArray C Q l.length (listed.setIfInBounds k true) s':=by
   intro s' h'
   refine ih (k+1) _ s' (fun j=>by have:=hl (j+1);simp only[aiB] at this;rw[this];congr 1;omega) (by simpa using cJ) (fun j hj=>?_) (by simp at hk;omega) h'
   by_cases kQ:j=k
   ·subst kQ
    have:j<listed.size:=by omega
    simp[this]
   ·rw[getD_set_ne true (ajz kQ),eX j hj]
    simp;omega
  simp only[oX] at h
  split at h
  ·rename_i he
   obtain⟨h1,h2,r,hp',h3,h4,h5⟩:=h
   refine mX.iR cZ (fun j oj jN kQ kE=>?_) qM ?_
   ·rcases mU j oj jN kQ kE with h5|h5
    ·exact h5
    ·rw[he] at h5;cases h5.1
   ·unfold r8
    rw[D8]
    simp only[he,if_true]
    exact⟨h1,h2,r,hp',h3,h4,aV _ h5⟩
  ·rename_i he
   obtain⟨x,h1,h2⟩:=h
   exact mX.first (R:=qO M k o.op) (fun _ _ _=>qO.trans) (fun _=>qO.refl) D8 (by simpa using he) l.length listed s cZ
    (fun j oj jN kQ kE=>(mU j oj jN kQ kE).imp id fun h=>⟨h.2.1,h.2.2.imp id fun hm hp hp' hc=>jO hm hc⟩) qM h1 (aV _ h2)
end Go.Proofs.YtjhanogfpkbamaaGreatDoor
