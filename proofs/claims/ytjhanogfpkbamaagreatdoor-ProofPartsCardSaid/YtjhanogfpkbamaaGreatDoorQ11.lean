/- Texts of ours laid together for a claim: FilW. -/
import Derived.Test.YtjhanogfpkbamaaGreatDoorQ10
namespace Go.Proofs.YtjhanogfpkbamaaGreatDoor
open Go
set_option linter.unusedSimpArgs false
set_option linter.unusedVariables false
variable {G:Type} {Γ:Env G} {s s':AS G} {a:Act} {w w':World} {η η':List Value} {hp hp':List AObj} {P:Program} {ops:Array Oper}
def ERunX (Γ:Env G) (ops:Array Oper) (o:Oper) (s:AS G) (r:AV) (hp':List AObj):Prop:=
 ∀Γ':Env G,Γ'.Ok→Γ'.P=Γ.P→Γ'.nt=Γ.nt→Γ'.rnd=Γ.rnd→ERun Γ' o (s.only (o.looksAt ops)) r hp'
theorem ERunX.run (hok:Γ.Ok) {o:Oper} {r:AV} (h:ERunX Γ ops o s r hp'):ERun Γ o s r hp':=by
 intro a w η hr
 let Γ2:Env G:={ P:=Γ.P,w0:=w,F0:=Fok Γ w η s.hp,X:=Γ.X,Y:=LiveBlk η s.hp,Inv:=Γ.Inv,nt:=Γ.nt,rnd:=Γ.rnd,η0:=η,hp0:=s.hp,m0:=Γ.m0,Z:=Γ.Z }
 have hsz:=hr.keeps.size
 have hlb:∀b,LiveBlk η s.hp b→b<w.heap.size:=fun b ⟨q,o,v,g1,g2,g3,g4⟩=>hr.heap.block g1 g2 g3 g4
 have hok2:Γ2.Ok:=⟨hr.heap.len,fun b hb=>Nat.lt_of_lt_of_le (hok.x b hb) hsz,hlb,hok.stable,fun b o hb=>Nat.lt_of_lt_of_le (hok.z b o hb) hsz,hr.glob hok,fun b hb h=>h.elim (fun h=>hok.gx b hb (.inl h)) (hr.gx hok hb)⟩
 have hf12:∀b o,Fok Γ w η s.hp b o→Fok Γ2 w η s.hp b o:=fun b o h=>⟨.inl h,h.2.1,h.2.2.1,h.2.2.2⟩
 have he12:∀{η0:List Value} {hp0:List AObj},Ext w (Fok Γ w η s.hp) η0 hp0 w (Fok Γ2 w η s.hp) η0 hp0:=⟨fun _ _ _ _ h=>h,fun _ _ _ _ h=>h,hf12,fun _ _ h=>h,fun _ _ h=>h,fun _ _ _ h=>h⟩
 have hrel2:Rel Γ2 (s.only (o.looksAt ops)) a w η:=
  ⟨hr.nt,fun t=>((hr.only _).tmps t).ext he12,⟨hr.heap.len,fun q o v h1 h2=>(hr.heap.obj q o v h1 h2).ext he12 (Nat.le_refl _) fun _ _ _=>rfl,hr.heap.sep⟩,
   fun q o v b h1 h2 h3 h4=>⟨.inr ⟨q,o,v,h1,h2,h3,h4⟩,(hr.mine q o v b h1 h2 h3 h4).2⟩,Keeps.refl _ w,hr.inv,hr.marks,he12⟩
 obtain⟨v,w',η',h1,h2,h3⟩:=h Γ2 hok2 rfl rfl rfl a w η hrel2
 have hfok:∀b o,Fok Γ2 w' η' hp' b o→Fok Γ w' η' hp' b o:=by
  intro b o hf
  refine⟨?_,hf.2.1,hf.2.2.1,hf.2.2.2⟩
  rcases hf.1 with g|g|⟨q,o1,v1,g1,g2,g3,g4⟩
  ·exact g.1
  ·exact .inr (.inl (Nat.le_trans hsz g))
  ·exact .inr (hr.mine q o1 v1 b g1 g2 g3 g4).1
 have hex:∀{η1:List Value} {hp1:List AObj},Ext w' (Fok Γ2 w' η' hp') η1 hp1 w' (Fok Γ w' η' hp') η1 hp1:=
  ⟨fun _ _ _ _ h=>h,fun _ _ _ _ h=>h,hfok,fun _ _ h=>h,fun _ _ h=>h,fun _ _ _ h=>h⟩
 have he2:Ext w (Fok Γ w η s.hp) η s.hp w' (Fok Γ w' η' hp') η' hp':=Ext.trans h2.ext hex
 refine⟨v,w',η',h1,?_,h3.ext hex⟩
 refine⟨hr.nt,fun t=>(hr.tmps t).ext he2,⟨h2.heap.len,fun q o v g1 g2=>(h2.heap.obj q o v g1 g2).ext hex (Nat.le_refl _) fun _ _ _=>rfl,h2.heap.sep⟩,fun q o v b g1 g2 g3 g4=>?_,?_,h2.inv,h2.marks,hr.ext.trans he2⟩
 ·have:=h2.mine q o v b g1 g2 g3 g4
  refine⟨?_,this.2⟩
  rcases this.1 with g|⟨q,o1,v1,g1,g2,g3,g4⟩
  ·exact .inl (Nat.le_trans hsz g)
  ·exact(hr.mine q o1 v1 b g1 g2 g3 g4).1
 ·refine hr.keeps.trans h2.keeps fun b hb hl=>?_
  rcases hl with hl|⟨q,o1,v1,g1,g2,g3,g4⟩
  ·exact .inl hl
  ·rcases (hr.mine q o1 v1 b g1 g2 g3 g4).1 with h|h
   ·omega
   ·exact .inr h
def HpFr (K:List Nat) (hp hp':List AObj):Prop:=hp.length≤hp'.length∧∀(q:Nat) (o:AObj),q∉K→hp[q]?=some o→hp'[q]?=some o
theorem HpFr.refl {K:List Nat}:HpFr K hp hp:=⟨Nat.le_refl _,fun _ _ _ h=>h⟩
theorem HpFr.trans {K:List Nat} {hp1 hp2 hp3:List AObj} (h:HpFr K hp1 hp2) (h':HpFr K hp2 hp3):HpFr K hp1 hp3:=⟨Nat.le_trans h.1 h'.1,fun q o hq ho=>h'.2 q o hq (h.2 q o hq ho)⟩
theorem HpFr.mono {K K':List Nat} (h:HpFr K hp hp') (hk:∀q∈K,q∈K'):HpFr K' hp hp':=⟨h.1,fun q o hq ho=>h.2 q o (fun h=>hq (hk q h)) ho⟩
def ChgAt (C:List (Option (List Nat))) (j:Nat) (hp hp':List AObj):Prop:=
 match C.getD j none with
 |none=>True
 |some l=>HpFr l hp hp'
def heapless:Op→Bool
 | .move _ | .assign _ | .nilCheck _ | .pick .. | .binOp .. | .unOp .. | .extract .. | .build .. | .field .. | .makeFunc .. | .fieldAddr .. | .convert ..=>true
 |_=>false
def Rof (M:List (Option (List Nat))) (k:Nat) (op:Op) (hp hp':List AObj):Prop:=
 if heapless op=true then True else match M.getD k none with
 |none=>hp'=hp
 |some K=>HpFr K hp hp'
theorem Rof.trans {M:List (Option (List Nat))} {k:Nat} {op:Op} {hp1 hp2 hp3:List AObj} (h:Rof M k op hp1 hp2) (h':Rof M k op hp2 hp3):Rof M k op hp1 hp3:=by
 unfold Rof at *
 split
 ·trivial
 ·rename_i hh
  rw[if_neg hh] at h h'
  split<;>rename_i hm<;>rw[hm] at h h'
  ·exact h'.trans h
  ·exact h.trans h'
theorem Rof.refl {M:List (Option (List Nat))} {k:Nat} {op:Op}:Rof M k op hp hp:=by
 unfold Rof
 split
 ·trivial
 ·split
  ·rfl
  ·exact HpFr.refl
def Stab (Γ:Env G) (ops:Array Oper) (o:Oper) (s:AS G) (x:AV) (R:List AObj→List AObj→Prop):Prop:=
 dstOk Γ.nt o.dst∧((guardVal ops s o=some true∧∀s':AS G,(∀t,t∈o.looksAt ops→s'.tmps t=s.tmps t)→R s.hp s'.hp→VStepU Γ o (s'.only (o.looksAt ops)) x)∨(guardVal ops s o=some false∧x=.prim (.tuple #[])))
theorem Stab.yields (hok:Γ.Ok) {o:Oper} {x:AV} {R:List AObj→List AObj→Prop} (hR:R s.hp s.hp) (h:Stab Γ ops o s x R):Yields Γ ops o s x:=
 ⟨h.1,h.2.imp (fun g=>⟨g.1,g.2 s (fun _ _=>rfl) hR Γ hok rfl rfl rfl⟩) id⟩
def AOpAtU (Γ:Env G) (ops:Array Oper) (C:List (Option (List Nat))) (i:Nat) (K:AS G→Prop) (s:AS G):Prop:=
 match ops[i]? with
 |none=>K s
 |some o=>if isEff o.op=true then dstOk Γ.nt o.dst∧o.guard=none∧∃r hp',ERunX Γ ops o s r hp'∧ChgAt C i s.hp hp'∧K (AS.put { s with hp:=hp' } o.dst r)
  else ∃x,Stab Γ ops o s x (fun hp hp'=>hp'=hp)∧K (s.put o.dst x)
def AAnyU (Γ:Env G) (ops:Array Oper) (C:List (Option (List Nat))) (Q:AS G→Prop):Nat→Array Bool→AS G→Prop
 |0,listed,s=>Region.ready .any ops listed=[]∧Q s
 |fuel+1,listed,s=>(Region.ready .any ops listed=[]→Q s)∧∀i∈Region.ready .any ops listed,AOpAtU Γ ops C i (AAnyU Γ ops C Q fuel (listed.setIfInBounds i true)) s
theorem AAnyU.any (hok:Γ.Ok) {C:List (Option (List Nat))} {Q:AS G→Prop}:∀(fuel:Nat) (listed:Array Bool) (s:AS G),AAnyU Γ ops C Q fuel listed s→AAny Γ ops Q fuel listed s:=by
 intro fuel
 induction fuel with
 |zero=>intro listed s h;exact h
 |succ fuel ih=>
  intro listed s h
  refine⟨h.1,fun i hi=>?_⟩
  have h1:=h.2 i hi
  unfold AOpAtU at h1
  unfold AOpAt
  split at h1
  ·rename_i ho;rw[ho];exact ih _ _ h1
  ·rename_i o ho
   rw[ho]
   simp only
   split at h1
   ·rename_i he
    rw[if_pos he]
    obtain⟨g1,g2,r,hp',g3,_,g4⟩:=h1
    exact⟨g1,g2,r,hp',g3.run hok,ih _ _ g4⟩
   ·rename_i he
    rw[if_neg he]
    obtain⟨x,g1,g2⟩:=h1
    exact⟨x,Stab.yields (R:=fun hp hp'=>hp'=hp) hok rfl g1,ih _ _ g2⟩
theorem Stab.put {o:Oper} {x y:AV} {d:Option Nat} {R:List AObj→List AObj→Prop} (h:∀t,d=some t→t∉o.looksAt ops) (hy:Stab Γ ops o s y R):Stab Γ ops o (s.put d x) y R:=by
 have hhp:(s.put d x).hp=s.hp:=by cases d<;>rfl
 have htm:∀t,t∈o.looksAt ops→(s.put d x).tmps t=s.tmps t:=by
  intro t ht
  cases d with
  |none=>rfl
  |some d=>
   show upd s.tmps d x t=_
   rw[upd_eq,if_neg]
   intro e;subst e;exact h t rfl ht
 refine⟨hy.1,?_⟩
 rw[guardVal_put h]
 refine hy.2.imp (fun g=>⟨g.1,fun s' h1 h2=>g.2 s' (fun t ht=>?_) (by rw[hhp] at h2;exact h2)⟩) id
 rw[h1 t ht,htm t ht]
theorem Stab.of_put {o:Oper} {x y:AV} {d:Option Nat} {R:List AObj→List AObj→Prop} (h:∀t,d=some t→t∉o.looksAt ops) (hy:Stab Γ ops o (s.put d x) y R):Stab Γ ops o s y R:=by
 have hhp:(s.put d x).hp=s.hp:=by cases d<;>rfl
 have htm:∀t,t∈o.looksAt ops→(s.put d x).tmps t=s.tmps t:=by
  intro t ht
  cases d with
  |none=>rfl
  |some d=>
   show upd s.tmps d x t=_
   rw[upd_eq,if_neg]
   intro e;subst e;exact h t rfl ht
 refine⟨hy.1,?_⟩
 have h2:=hy.2
 rw[guardVal_put h] at h2
 refine h2.imp (fun g=>⟨g.1,fun s' h1 h3=>g.2 s' (fun t ht=>?_) (by rw[hhp];exact h3)⟩) id
 rw[h1 t ht,htm t ht]
theorem Stab.heap {o:Oper} {y:AV} {R:List AObj→List AObj→Prop} (htr:∀hp1 hp2 hp3,R hp1 hp2→R hp2 hp3→R hp1 hp3) (h:R s.hp hp') (hy:Stab Γ ops o s y R):Stab Γ ops o { s with hp:=hp' } y R:=by
 refine⟨hy.1,?_⟩
 have:guardVal ops { s with hp:=hp' } o=guardVal ops s o:=rfl
 rw[this]
 exact hy.2.imp (fun g=>⟨g.1,fun s' h1 h2=>g.2 s' h1 (htr _ _ _ h h2)⟩) id
theorem ERunX.of_put {o:Oper} {x r:AV} {d:Option Nat} (h:∀t,d=some t→t∉o.looksAt ops) (hy:ERunX Γ ops o (s.put d x) r hp'):ERunX Γ ops o s r hp':=by
 unfold ERunX at *
 rw[only_put h] at hy;exact hy
theorem AAnyU.first {C:List (Option (List Nat))} {Q:AS G→Prop} {i:Nat} {oi:Oper} {x:AV} {R:List AObj→List AObj→Prop} (htr:∀hp1 hp2 hp3,R hp1 hp2→R hp2 hp3→R hp1 hp3) (hrf:∀hp,R hp hp) (hi:ops[i]?=some oi) (hne:isEff oi.op=false):
  ∀(fuel:Nat) (listed:Array Bool) (s:AS G),Shut ops listed→
  (∀(j:Nat) oj,ops[j]?=some oj→j≠i→listed.getD j true=false→Reach ops i j∨(oi.apart ops oj=true∧(isEff oj.op=false∨∀hp hp',ChgAt C j hp hp'→R hp hp')))→
  i∈Region.ready .any ops listed→Stab Γ ops oi s x R→AAnyU Γ ops C Q fuel (listed.setIfInBounds i true) (s.put oi.dst x)→AAnyU Γ ops C Q (fuel+1) listed s:=by
 have own:∀{K:AS G→Prop} {s:AS G},Stab Γ ops oi s x R→K (s.put oi.dst x)→AOpAtU Γ ops C i K s:=by
  intro K s hy hK
  unfold AOpAtU
  rw[hi]
  simp only[hne,Bool.false_eq_true,if_false]
  exact⟨x,⟨hy.1,hy.2.imp (fun g=>⟨g.1,fun s' h1 h2=>g.2 s' h1 (by rw[h2];exact hrf _)⟩) id⟩,hK⟩
 intro fuel
 induction fuel with
 |zero=>
  intro listed s _ _ hr hy H
  refine⟨fun h=>(by rw[h] at hr;cases hr),fun j hj=>?_⟩
  by_cases hji:j=i
  ·subst hji;exact own hy H
  ·have:=ready_mono hj hji
   rw[H.1] at this
   cases this
 |succ fuel ih=>
  intro listed s hshut hfree hr hy H
  refine⟨fun h=>(by rw[h] at hr;cases hr),fun j hj=>?_⟩
  by_cases hji:j=i
  ·subst hji;exact own hy H
  ·have h1:=H.2 j (ready_mono hj hji)
   obtain⟨hjun,oj,hoj,hall⟩:=mem_ready.1 hj
   rcases hfree j oj hoj hji hjun with h2|⟨hap,hkind⟩
   ·exact(not_reach hshut hr hj h2).elim
   obtain⟨p1,p2,p3⟩:=Oper.apart_spec hap
   have hnext:∀k ok,ops[k]?=some ok→k≠i→(listed.setIfInBounds j true).getD k true=false→Reach ops i k∨(oi.apart ops ok=true∧(isEff ok.op=false∨∀hp hp',ChgAt C k hp hp'→R hp hp')):=by
    intro k ok hk hki hun
    refine hfree k ok hk hki ?_
    by_cases hjk:j=k
    ·subst hjk;exact hjun
    ·rw[getD_set_ne true hjk] at hun;exact hun
   unfold AOpAtU at h1 ⊢
   rw[hoj] at h1 ⊢
   simp only at h1 ⊢
   split at h1
   ·rename_i hej
    rw[if_pos hej]
    obtain⟨g1,g2,r,hp',g3,g4,g5⟩:=h1
    have hhp:(s.put oi.dst x).hp=s.hp:=by cases oi.dst<;>rfl
    rw[hhp] at g4
    have hR:=(hkind.resolve_left (by rw[hej];simp)) _ _ g4
    refine⟨g1,g2,r,hp',g3.of_put p1,g4,ih (listed.setIfInBounds j true) _ (shut_ready hshut hj) hnext (ready_mono hr (Ne.symm hji)) ((hy.heap htr hR).put p3) ?_⟩
    rw[Array.setIfInBounds_comm _ _ hji]
    have e:(AS.put { s with hp:=hp' } oj.dst r).put oi.dst x=AS.put { s.put oi.dst x with hp:=hp' } oj.dst r:=by
     rw[←put_comm p2]
     congr 1
     cases oi.dst<;>rfl
    rw[e]
    exact g5
   ·rename_i hej
    rw[if_neg hej]
    obtain⟨y,hyj,hK⟩:=h1
    refine⟨y,hyj.of_put p1,ih (listed.setIfInBounds j true) (s.put oj.dst y) (shut_ready hshut hj) hnext (ready_mono hr (Ne.symm hji)) (hy.put p3) ?_⟩
    rw[Array.setIfInBounds_comm _ _ hji,←put_comm p2]
    exact hK
theorem AAnyU.firstEff {C:List (Option (List Nat))} {Q:AS G→Prop} {i:Nat} {fuel:Nat} {listed:Array Bool} (hshut:Shut ops listed) (hfree:∀(j:Nat) oj,ops[j]?=some oj→j≠i→listed.getD j true=false→Reach ops i j)
  (hr:i∈Region.ready .any ops listed) (H:AOpAtU Γ ops C i (AAnyU Γ ops C Q fuel (listed.setIfInBounds i true)) s):AAnyU Γ ops C Q (fuel+1) listed s:=by
 refine⟨fun h=>(by rw[h] at hr;cases hr),fun j hj=>?_⟩
 by_cases hji:j=i
 ·subst hji;exact H
 ·obtain⟨hjun,oj,hoj,_⟩:=mem_ready.1 hj
  exact(not_reach hshut hr hj (hfree j oj hoj hji hjun)).elim
def subL (l k:List Nat):Bool:=l.all fun q=>k.contains q
def mayAhead (C M:List (Option (List Nat))) (k j:Nat) (op:Op):Bool:=
 heapless op||(match C.getD j none,M.getD k none with
  |some l,some K=>subL l K
  |_,_=>false)
theorem mayAhead_spec {C M:List (Option (List Nat))} {k j:Nat} {op:Op} (h:mayAhead C M k j op=true) (hc:ChgAt C j hp hp'):Rof M k op hp hp':=by
 unfold mayAhead at h
 unfold Rof
 split
 ·trivial
 ·rename_i hh
  rw[Bool.or_eq_true] at h
  rcases h with h|h
  ·exact(hh h).elim
  ·split at h
   ·rename_i l K hl hk
    unfold ChgAt at hc
    rw[hl] at hc
    rw[hk]
    refine hc.mono fun q hq=>?_
    simp only[subL,List.all_eq_true] at h
    simpa using h q hq
   ·cases h
def drawOkU (C M:List (Option (List Nat))) (l:List Oper):Bool:=
 let m:=ancL l []
 (List.range l.length).all fun k=>match l[k]? with
  |none=>false
  |some ok=>ok.after.toList.all (fun e=>!Region.binds .any e||decide (e.on<k)) &&
    (List.range l.length).all fun j=>decide (j≤k)||(m.getD j 0).testBit k||match l[j]? with
     |none=>true
     |some oj=>!isEff ok.op&&ok.apart l.toArray oj&&(!isEff oj.op||mayAhead C M k j ok.op)
def ALexU (Γ:Env G) (ops:Array Oper) (C M:List (Option (List Nat))) (K:AS G→Prop):Nat→List Oper→AS G→Prop
 |_,[],s=>K s
 |k,o::rest,s=>if isEff o.op=true then dstOk Γ.nt o.dst∧o.guard=none∧∃r hp',ERunX Γ ops o s r hp'∧ChgAt C k s.hp hp'∧ALexU Γ ops C M K (k+1) rest (AS.put { s with hp:=hp' } o.dst r)
  else ∃x,Stab Γ ops o s x (Rof M k o.op)∧ALexU Γ ops C M K (k+1) rest (s.put o.dst x)
theorem ALexU.any {C M:List (Option (List Nat))} {Q:AS G→Prop} {l0:List Oper} (hd:drawOkU C M l0=true):∀(l:List Oper) (k:Nat) (listed:Array Bool) (s:AS G),(∀(j:Nat),l[j]?=l0[k+j]?)→listed.size=l0.length→(∀(j:Nat),j<l0.length→listed.getD j true=decide (j<k))→k+l.length=l0.length→
  ALexU Γ l0.toArray C M Q k l s→AAnyU Γ l0.toArray C Q l.length listed s:=by
 intro l
 induction l with
 |nil=>
  intro k listed s _ hsz hlist hk h
  refine⟨?_,h⟩
  apply List.eq_nil_iff_forall_not_mem.2
  intro j hj
  obtain⟨h1,o,ho,_⟩:=mem_ready.1 hj
  have hlt:j<l0.length:=by have:=(Array.getElem?_eq_some_iff.1 ho).1;simpa using this
  rw[hlist j hlt] at h1
  simp at h1
  simp at hk
  omega
 |cons o l ih=>
  intro k listed s hl hsz hlist hk h
  have hok:l0[k]?=some o:=by have:=hl 0;simpa using this.symm
  have hka:l0.toArray[k]?=some o:=by simpa using hok
  have hkl:k<l0.length:=(List.getElem?_eq_some_iff.1 hok).1
  have hd':=hd
  simp only[drawOkU,List.all_eq_true,List.mem_range] at hd'
  have hdk:=hd' k hkl
  rw[hok] at hdk
  simp only[Bool.and_eq_true,List.all_eq_true,List.mem_range] at hdk
  obtain⟨hd1,hd2⟩:=hdk
  have hunl:listed.getD k true=false:=by rw[hlist k hkl];simp
  have hgetF:∀j,j<l0.length→listed.getD j false=decide (j<k):=by
   intro j hj
   have:=hlist j hj
   simp only[Array.getD_eq_getD_getElem?,Array.getElem?_eq_getElem (show j<listed.size by omega),Option.getD_some] at this ⊢
   exact this
  have hrd:k∈Region.ready .any l0.toArray listed:=by
   refine mem_ready.2 ⟨hunl,o,hka,fun e he hb=>?_⟩
   have:=hd1 e (by simpa using he)
   rw[hb] at this
   simp at this
   rw[hgetF e.on (by omega)];simp;exact this
  have hshut:Shut l0.toArray listed:=by
   intro q oq hq hoq e he hb
   have hql:q<l0.length:=by have:=(Array.getElem?_eq_some_iff.1 hoq).1;simpa using this
   rw[hgetF q hql] at hq
   have hq':q<k:=by simpa using hq
   have h2:=hd' q hql
   have hoq':l0[q]?=some oq:=by simpa using hoq
   rw[hoq'] at h2
   simp only[Bool.and_eq_true,List.all_eq_true] at h2
   have h3:=h2.1 e (by simpa using he)
   rw[hb] at h3
   simp at h3
   rw[hgetF e.on (by omega)];simp;omega
  have hreach:∀(j:Nat),(List.getD (ancL l0 []) j 0).testBit k=true→Reach l0.toArray k j:=by
   intro j hj
   cases hm:(ancL l0 [])[j]? with
   |none=>simp[List.getD,hm] at hj
   |some m=>
    simp only[List.getD,hm,Option.getD_some] at hj
    exact ancL_spec (ops:=l0.toArray) l0 [] (fun j=>by simp) (fun j m i hj=>by simp at hj) j m k hm hj
  have hpair:∀(j:Nat) oj,l0.toArray[j]?=some oj→j≠k→listed.getD j true=false→Reach l0.toArray k j∨(isEff o.op=false∧o.apart l0.toArray oj=true∧(isEff oj.op=false∨mayAhead C M k j o.op=true)):=by
   intro j oj hoj hjk hun
   have hjl:j<l0.length:=by have:=(Array.getElem?_eq_some_iff.1 hoj).1;simpa using this
   rw[hlist j hjl] at hun
   have hoj':l0[j]?=some oj:=by simpa using hoj
   have h2:=hd2 j hjl
   rw[hoj'] at h2
   simp only[Bool.or_eq_true,decide_eq_true_eq,Bool.and_eq_true,Bool.not_eq_true'] at h2
   rcases h2 with(h2|h2)|h2
   ·simp at hun;omega
   ·exact .inl (hreach j h2)
   ·exact .inr ⟨h2.1.1,h2.1.2,h2.2⟩
  have hnext:∀s',ALexU Γ l0.toArray C M Q (k+1) l s'→AAnyU Γ l0.toArray C Q l.length (listed.setIfInBounds k true) s':=by
   intro s' h'
   refine ih (k+1) _ s' (fun j=>by have:=hl (j+1);simp only[List.getElem?_cons_succ] at this;rw[this];congr 1;omega) (by simpa using hsz) (fun j hj=>?_) (by simp at hk;omega) h'
   by_cases hjk:j=k
   ·subst hjk
    have:j<listed.size:=by omega
    simp[this]
   ·rw[getD_set_ne true (Ne.symm hjk),hlist j hj]
    simp;omega
  simp only[ALexU] at h
  split at h
  ·rename_i he
   obtain⟨h1,h2,r,hp',h3,h4,h5⟩:=h
   refine AAnyU.firstEff hshut (fun j oj hoj hjk hun=>?_) hrd ?_
   ·rcases hpair j oj hoj hjk hun with h5|h5
    ·exact h5
    ·rw[he] at h5;cases h5.1
   ·unfold AOpAtU
    rw[hka]
    simp only[he,if_true]
    exact⟨h1,h2,r,hp',h3,h4,hnext _ h5⟩
  ·rename_i he
   obtain⟨x,h1,h2⟩:=h
   exact AAnyU.first (R:=Rof M k o.op) (fun _ _ _=>Rof.trans) (fun _=>Rof.refl) hka (by simpa using he) l.length listed s hshut
    (fun j oj hoj hjk hun=>(hpair j oj hoj hjk hun).imp id fun h=>⟨h.2.1,h.2.2.imp id fun hm hp hp' hc=>mayAhead_spec hm hc⟩) hrd h1 (hnext _ h2)
end Go.Proofs.YtjhanogfpkbamaaGreatDoor
