/- Texts of ours laid together for a claim: VcU. -/
import Derived.Test.YtdcikhleahfknaaGreatDoorQ43
namespace Go.Proofs.YtdcikhleahfknaaGreatDoor
open Go
set_option linter.unusedSimpArgs false
set_option linter.unusedVariables false
theorem eg.pad {w w':World} {F:Nat→Nat→Prop} {η aH:List Value} {hp hp':List af} {r:AV} {v:Value} (h:eg w F η hp w' aH hp' r v):eg w F η hp w' (aH++[.int .i64 0]) (hp'++[.dead]) r v:=by
 have hlen:aH.length=hp'.length:=h.heap.len
 have S5:∀{q:Nat},q<hp'.length→(hp'++[af.dead])[q]?=hp'[q]?:=fun h=>List.getElem?_append_left h
 have Cz:∀{q:Nat},q<hp'.length→(aH++[Value.int .i64 0])[q]?=aH[q]?:=fun h=>List.getElem?_append_left (by omega)
 have split:∀{q:Nat} {o:af},(hp'++[af.dead])[q]?=some o→q<hp'.length∧hp'[q]?=some o∨o=.dead:=fun {q o} e=>by
  have hb:q<hp'.length+1:=by have:=(List.getElem?_eq_some_iff.1 e).1;simpa using this
  by_cases hq:q<hp'.length
  ·rw[S5 hq] at e;exact .inl ⟨hq,e⟩
  ·have:q=hp'.length:=by omega
   subst this
   simp at e
   exact .inr e.symm
 have S6:∀{q:Nat} {u:Value} {b:Nat},(aH++[Value.int .i64 0])[q]?=some u→bU u=some b→q<hp'.length∧aH[q]?=some u:=fun {q u b} e hb=>by
  have hq1:q<hp'.length+1:=by have:=(List.getElem?_eq_some_iff.1 e).1;simp at this;omega
  by_cases hq:q<hp'.length
  ·rw[Cz hq] at e;exact⟨hq,e⟩
  ·have:q=aH.length:=by omega
   subst this
   simp at e
   subst e
   simp[bU] at hb
 have Sy:∀b o,gO aH hp' b o→gO (aH++[.int .i64 0]) (hp'++[.dead]) b o:=fun b o hf q u hu hb=>by
  obtain⟨hq,hu⟩:=S6 hu hb
  rw[S5 hq]
  exact hf q u hu hb
 have aaa:∀b o,bG F w η hp w' aH hp' b o→bG F w η hp w' (aH++[.int .i64 0]) (hp'++[.dead]) b o:=fun b o hf=>⟨hf.1,hf.2.1,Sy b o hf.2.2⟩
 have he:Ext w' (bG F w η hp w' aH hp') aH hp' w' (bG F w η hp w' (aH++[.int .i64 0]) (hp'++[.dead])) (aH++[.int .i64 0]) (hp'++[.dead]):=by
  refine⟨fun _ _ _ _ h=>h,fun _ _ _ _ h=>h,aaa,fun q a e=>?_,fun q a e=>?_,fun q n u ho=>?_⟩
  ·rw[Cz (by rw[←hlen];exact(List.getElem?_eq_some_iff.1 e).1)];exact e
  ·rw[Cz (by rw[←hlen];exact(List.getElem?_eq_some_iff.1 e).1)];exact e
  ·unfold aT at ho ⊢
   by_cases hq:q<hp'.length
   ·rw[S5 hq,Cz hq];exact ho
   ·rw[List.getElem?_eq_none (by omega)] at ho;exact ho.elim
 refine⟨h.keeps,h.ext.trans he,⟨by simp[hlen],fun q o u e1 e2=>?_,fun q q' o o' u u' b bh e1 e2 l1 l2 g1 g2 hb er=>?_⟩,fun b ⟨q,o,u,e1,l,e2,hb⟩=>?_,h.rep.ext he⟩
 ·rcases split e1 with⟨hq,e1⟩|rfl
  ·rw[Cz hq] at e2
   exact(h.heap.obj q o u e1 e2).ext he (Nat.le_refl _) fun _ _ _=>rfl
  ·exact True.intro
 ·rcases split e1 with⟨hq,e1⟩|rfl
  ·rcases split e2 with⟨Hb,e2⟩|rfl
   ·rw[Cz hq] at g1
    rw[Cz Hb] at g2
    exact h.heap.sep q q' o o' u u' b bh e1 e2 l1 l2 g1 g2 hb er
   ·exact l2.elim
  ·exact l1.elim
 ·rcases split e1 with⟨hq,e1⟩|rfl
  ·rw[Cz hq] at e2
   exact h.bA b ⟨q,o,u,e1,l,e2,hb⟩
  ·exact l.elim
theorem eg.Wz {w w':World} {F:Nat→Nat→Prop} {η:List Value} {hp:List af} {r:AV} {v:Value}:∀(k:Nat) {aH:List Value} {hp':List af},eg w F η hp w' aH hp' r v→∃kq,eg w F η hp w' kq (hp'++List.replicate k .dead) r v
 |0,aH,hp',h=>⟨aH,by rw[List.replicate_zero,List.append_nil];exact h⟩
 |k+1,aH,hp',h=>by
  have:=eg.Wz k h.pad
  rwa [List.append_assoc,List.singleton_append,←List.replicate_succ] at this
theorem bp.pad {P:Program} {f:FuncId} {args:List AV} {hp:List af} {R R':AV→List af→Prop} (h:bp P f args hp R) (hR:∀r q,R r q→∃k,R' r (q++List.replicate k .dead)):bp P f args hp R':=
 ⟨h.1,fun w F η aU aJ hv=>(h.2 w F η aU aJ hv).mono fun _ _ ⟨v,r,hp',aH,h1,h2,h3⟩=>by
  obtain⟨k,hk⟩:=hR r hp' h2
  obtain⟨kq,h4⟩:=h3.Wz k
  exact⟨v,r,_,kq,h1,hk,h4⟩⟩
end Go.Proofs.YtdcikhleahfknaaGreatDoor
