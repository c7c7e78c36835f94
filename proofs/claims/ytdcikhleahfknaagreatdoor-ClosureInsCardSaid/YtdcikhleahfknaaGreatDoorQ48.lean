/- Texts of ours laid together for a claim: P08 P74 P75 P09 P15 P17 P18 P23 P19 P11 P78 P6B P6J P6K P6L P6M P30 P61 P62 P63 P64. -/
import Derived.Lib.ItoaLen
import Derived.Tactics
import Derived.Tactics2
import Derived.Defers
import Derived.Laws.Pointers
import Derived.Laws.LoneSync
import Derived.RegionTactic
import Derived.RegionCalls
import Derived.ChangeAlike
import Derived.TacticsInMore
import Derived.RegionIn
import Derived.LoopNIn
import Derived.RecoverIn
import Derived.Test.YtdcikhleahfknaaGreatDoorChecked
import Derived.Deep.LoopGhost
import Derived.Deep.OwnRows
import Derived.Deep.Light
import Derived.BigGuard
import Derived.Laws.Bits64b
import Derived.CellFam
import Derived.Deep.RegionWith
import Derived.Test.YtdcikhleahfknaaGreatDoorQ47
namespace Go.Proofs.YtdcikhleahfknaaGreatDoor
open Go
set_option linter.unusedSimpArgs false
set_option linter.unusedVariables false
open Go Go.Shelf
set_option maxRecDepth 100000
open Go Go.RowKit
set_option maxRecDepth 1000000
theorem wE {l:List Int} {i:Int} {k:Nat} (h:k<l.length):(l.take (k+1)).contains i=((l.take k).contains i||(l[k]==i)):=by
 rw[←fz h,Bool.eq_iff_iff]
 simp only[List.contains_iff_mem,Bool.or_eq_true,List.mem_append,List.mem_singleton,beq_iff_eq]
 exact or_congr Iff.rfl eq_comm
theorem n9 {l:List Int} {i:Int} (bC:l.length≤1000000000):ag Tryz.prog 108 [.sl (ar l),nI i] (nB (l.contains i)):=by
 refine KT ?_
 unfold Re
 refine ax.intro (fun k:Nat=>((ar l,i,(k:Int),()),())) (fun k=>k≤l.length∧(l.take k).contains i=false) (fun k=>l.length-k) 0 rfl ⟨Nat.zero_le _,by simp⟩ ?_
 intro k ⟨hk,hs⟩ again bJ
 dsimp only
 rw[ib]
 refine ai.intro (fun h=>?_) fun h=>?_
 ·have ak:k<l.length:=by simpa using h
  refine⟨by omega,by omega,_,zp ak,ai.intro (fun h=>?_) fun h=>?_⟩
  ·have e:l[k]=i:=by simpa using h
   have:l.contains i=true:=by rw[List.contains_iff_mem,←e];exact List.getElem_mem ak
   rw[this]
  ·rw[aD (by omega)]
   exact bJ (k+1) ⟨by omega,by rw[wE ak,hs,h];rfl⟩ (by omega)
 ·have:l.length≤k:=by simpa using h
  rw[List.take_of_length_le this] at hs
  rw[hs]
theorem qA {a b:List Ty} (ha:a.length≤1000000000) (hb:b.length≤1000000000):ag Tryz.prog 53 [.sl (a.map Ty.enc),.sl (b.map Ty.enc)] (.sl ((a++b).map Ty.enc)):=
 Og ⟨dv Ty.eo (by simp;omega) (by decide),rfl,dv Ty.eo (by simp;omega) (by decide),rfl,by rw[List.map_append]⟩
theorem EV:∀(n:Nat) (t:Ty),t.size≤n→n≤1000000000→ag Tryz.prog 77 [t.enc] t.enc:=by
 intro n
 induction n with
 |zero=>intro t h;have:=t.size_pos;omega
 |succ n ih=>
  intro t h hn
  have hq:=Ty.aF t.args
  have tR:=t.size_eq
  rw[Ty.aP]
  refine Oi ⟨rfl,?_⟩
  refine ax.intro (fun k:Nat=>(((),(),(),(k:Int),()),((t.args.map Ty.enc,t.base,()),((),0,()),((),t.base,()),(t.args.take k).map Ty.enc,())))
   (fun k=>k≤t.args.length) (fun k=>t.args.length-k) 0 rfl (Nat.zero_le _) ?_
  intro k hk again bJ
  dsimp only
  rw[List.length_map]
  refine ai.intro (fun h=>?_) fun h=>?_
  ·have ak:k<t.args.length:=by simpa using h
   have hi:=ih t.args[k] (by have:=Ty.cr ak;omega) (by omega)
   rw[Ty.aP] at hi
   refine⟨by omega,by omega,_,_,Ty.aq ak,_,_,hi,rfl,cQ rfl (by simp;omega) (by decide),rfl,?_⟩
   rw[aD (by omega),Ty.jq,fz ak]
   exact bJ (k+1) (by omega) (by omega)
  ·have:t.args.length≤k:=by simpa using h
   refine⟨rfl,?_⟩
   rw[List.take_of_length_le this]
theorem sr {l:List Ty} (h:Ty.sizes l≤1000000000):ag Tryz.prog 40 [.sl (l.map Ty.enc)] (.sl (l.map Ty.enc)):=by
 have hq:=Ty.aF l
 refine Ol ⟨rfl,?_⟩
 refine ax.intro (fun k:Nat=>((l.map Ty.enc,(),(k:Int),()),((l.take k).map Ty.enc,()))) (fun k=>k≤l.length) (fun k=>l.length-k) 0 rfl (Nat.zero_le _) ?_
 intro k hk again bJ
 dsimp only
 rw[List.length_map]
 refine ai.intro (fun h=>?_) fun h=>?_
 ·have ak:k<l.length:=by simpa using h
  have hi:=EV _ l[k] (Nat.le_refl _) (by have:=Ty.bg (List.getElem_mem ak);omega)
  rw[Ty.aP] at hi
  refine⟨by omega,by omega,_,_,Ty.aq ak,_,_,hi,rfl,cQ rfl (by simp;omega) (by decide),rfl,?_⟩
  rw[aD (by omega),Ty.jq,fz ak]
  exact bJ (k+1) (by omega) (by omega)
 ·have:l.length≤k:=by simpa using h
  refine⟨rfl,?_⟩
  rw[List.take_of_length_le this]
theorem EW:∀(n:Nat) (t:Tm),t.size≤n→n≤1000000000→ag Tryz.prog 12 [t.enc] t.enc:=by
 intro n
 induction n with
 |zero=>intro t h;have:=t.size_pos;omega
 |succ n ih=>
  intro t h hn
  have hq:=Tm.aF t.args
  have tR:=t.size_eq
  rw[Tm.aP]
  refine On ⟨_,sr (by omega),rfl,?_⟩
  refine ax.intro (fun k:Nat=>(((),(),(),(k:Int),()),((t.binds.map Ty.enc,t.kind,t.index,t.args.map Tm.enc,()),((),0,0,(),()),(t.binds.map Ty.enc,t.kind,t.index,(),()),(t.args.take k).map Tm.enc,())))
   (fun k=>k≤t.args.length) (fun k=>t.args.length-k) 0 rfl (Nat.zero_le _) ?_
  intro k hk again bJ
  dsimp only
  rw[List.length_map]
  refine ai.intro (fun h=>?_) fun h=>?_
  ·have ak:k<t.args.length:=by simpa using h
   have hi:=ih t.args[k] (by have:=Tm.cr ak;omega) (by omega)
   rw[Tm.aP] at hi
   refine⟨by omega,by omega,_,_,_,_,Tm.aq ak,_,_,_,_,hi,rfl,cQ rfl (by simp;omega) (by decide),rfl,?_⟩
   rw[aD (by omega),Tm.jq,fz ak]
   exact bJ (k+1) (by omega) (by omega)
  ·have:t.args.length≤k:=by simpa using h
   refine⟨rfl,?_⟩
   rw[List.take_of_length_le this]
theorem CF {l m:List Ty} (bC:l.length≤1000000000) (Xu:l.length=m.length) (hi:∀(k:Nat) (h1:k<l.length) (h2:k<m.length),ag Tryz.prog 114 [l[k].enc,m[k].enc] (nB (Ty.same l[k] m[k]))):
  Gn ((l.map Ty.enc,m.map Ty.enc,0,()),()) (fun x=>x=nB (Ty.bq l m)):=by
 refine ax.intro (fun k:Nat=>((l.map Ty.enc,m.map Ty.enc,(k:Int),()),())) (fun k=>k≤l.length∧Ty.bq l m=Ty.bq (l.drop k) (m.drop k)) (fun k=>l.length-k) 0 rfl ⟨Nat.zero_le _,rfl⟩ ?_
 intro k ⟨hk,hs⟩ again bJ
 dsimp only
 rw[List.length_map,List.length_map]
 refine ai.intro (fun h=>?_) fun h=>?_
 ·have ak:k<l.length:=by simpa using h
  rw[Ty.gG ak (by omega)] at hs
  have hi:=hi k ak (by omega)
  rw[Ty.aP,Ty.aP] at hi
  refine⟨by omega,by omega,_,_,Ty.aq ak,by omega,by omega,_,_,Ty.aq (by omega),_,hi,ai.intro (fun h=>?_) fun h=>?_⟩
  ·have:Ty.same l[k] m[k]=false:=by simpa using h
   rw[hs,this,Bool.false_and]
  ·have he:Ty.same l[k] m[k]=true:=by simpa using h
   rw[he,Bool.true_and] at hs
   rw[aD (by omega)]
   exact bJ (k+1) ⟨by omega,hs⟩ (by omega)
 ·have:l.length≤k:=by simpa using h
  rw[List.drop_eq_nil_of_le this,List.drop_eq_nil_of_le (by omega)] at hs
  rw[hs];rfl
theorem CG:∀(n:Nat) (t u:Ty),t.size≤n→n≤1000000000→ag Tryz.prog 114 [t.enc,u.enc] (nB (Ty.same t u)):=by
 intro n
 induction n with
 |zero=>intro t u h;have:=t.size_pos;omega
 |succ n ih=>
  intro t u h hn
  have hq:=Ty.aF t.args
  have tR:=t.size_eq
  rw[Ty.aP,Ty.aP,Ty.qy]
  refine KV (ai.intro (fun h=>?_) fun h=>?_)
  ·have:(t.base==u.base)=false:=by simpa using h
   rw[this,Bool.false_and]
  ·have hb:(t.base==u.base)=true:=by simpa using h
   rw[hb,Bool.true_and]
   refine ai.intro (fun h=>?_) fun h=>?_
   ·rw[Ty.iS (by simp at h;omega)]
   ·have Xu:t.args.length=u.args.length:=by simp at h;omega
    refine ax.intro (fun k:Nat=>(((),(),(k:Int),()),((t.args.map Ty.enc,t.base,()),(u.args.map Ty.enc,u.base,()),()))) (fun k=>k≤t.args.length∧Ty.bq t.args u.args=Ty.bq (t.args.drop k) (u.args.drop k)) (fun k=>t.args.length-k) 0 rfl ⟨Nat.zero_le _,rfl⟩ ?_
    intro k ⟨hk,hs⟩ again bJ
    dsimp only
    rw[List.length_map,List.length_map]
    refine ai.intro (fun h=>?_) fun h=>?_
    ·have ak:k<t.args.length:=by simpa using h
     rw[Ty.gG ak (by omega)] at hs
     have hi:=ih t.args[k] (u.args[k]'(by omega)) (by have:=Ty.cr ak;omega) (by omega)
     rw[Ty.aP,Ty.aP] at hi
     refine⟨by omega,by omega,_,_,Ty.aq ak,by omega,by omega,_,_,Ty.aq (by omega),_,hi,ai.intro (fun h=>?_) fun h=>?_⟩
     ·have:Ty.same t.args[k] u.args[k]=false:=by simpa using h
      rw[hs,this,Bool.false_and]
     ·have he:Ty.same t.args[k] u.args[k]=true:=by simpa using h
      rw[he,Bool.true_and] at hs
      rw[aD (by omega)]
      exact bJ (k+1) ⟨by omega,hs⟩ (by omega)
    ·have:t.args.length≤k:=by simpa using h
     rw[List.drop_eq_nil_of_le this,List.drop_eq_nil_of_le (by omega)] at hs
     rw[hs];rfl
theorem tq {l m:List Ty} (bC:Ty.sizes l≤1000000000):ag Tryz.prog 80 [.sl (l.map Ty.enc),.sl (m.map Ty.enc)] (nB (Ty.bq l m)):=by
 have hq:=Ty.aF l
 refine Oo (ai.intro (fun h=>?_) fun h=>?_)
 ·rw[Ty.iS (by simp at h;omega)]
 ·exact CF (by omega) (by simp at h;omega) fun k h1 h2=>CG _ _ _ (Nat.le_refl _) (by have:=Ty.bg (List.getElem_mem h1);omega)
mutual
def Tm.same:Tm→Tm→Bool
 | .mk b k i a,.mk b' k' i' a'=>(k==k'&&i==i')&&(Ty.bq b b'&&Tm.bq a a')
def Tm.bq:List Tm→List Tm→Bool
 | [],[]=>true
 |t::l,u::m=>Tm.same t u&&Tm.bq l m
 |_,_=>false
end
theorem Tm.qy (t u:Tm):Tm.same t u=((t.kind==u.kind&&t.index==u.index)&&(Ty.bq t.binds u.binds&&Tm.bq t.args u.args)):=by cases t;cases u;simp[Tm.same,Tm.kind,Tm.index,Tm.binds,Tm.args]
theorem Tm.gG {l m:List Tm} {k:Nat} (h1:k<l.length) (h2:k<m.length):Tm.bq (l.drop k) (m.drop k)=(Tm.same l[k] m[k]&&Tm.bq (l.drop (k+1)) (m.drop (k+1))):=by
 rw[List.drop_eq_getElem_cons h1,List.drop_eq_getElem_cons h2,Tm.bq]
theorem Tm.iS {l m:List Tm} (h:¬l.length=m.length):Tm.bq l m=false:=by
 induction l generalizing m with
 |nil=>cases m with
  |nil=>simp at h
  |cons u m=>rfl
 |cons t l ih=>cases m with
  |nil=>rfl
  |cons u m=>rw[Tm.bq,ih (by simpa using h),Bool.and_false]
mutual
theorem Tm.fo:∀(t u:Tm),Tm.same t u=true↔t=u
 | .mk b k i a,.mk b' k' i' a'=>by
  simp only[Tm.same,Bool.and_eq_true,beq_iff_eq,Tm.mk.injEq,Ty.iT,Tm.iT a a']
  constructor
  ·rintro⟨⟨h1,h2⟩,h3,h4⟩;exact⟨h3,h1,h2,h4⟩
  ·rintro⟨h3,h1,h2,h4⟩;exact⟨⟨h1,h2⟩,h3,h4⟩
theorem Tm.iT:∀(l m:List Tm),Tm.bq l m=true↔l=m
 | [],[]=>by simp[Tm.bq]
 | [],_::_=>by simp[Tm.bq]
 |_::_,[]=>by simp[Tm.bq]
 |t::l,u::m=>by simp only[Tm.bq,Bool.and_eq_true,List.cons.injEq,Tm.fo t u,Tm.iT l m]
end
theorem Tm.rC (t:Tm):Tm.same t t=true:=(Tm.fo t t).2 rfl
theorem ss:∀(n:Nat) (t u:Tm),t.size≤n→n≤1000000000→ag Tryz.prog 45 [t.enc,u.enc] (nB (Tm.same t u)):=by
 intro n
 induction n with
 |zero=>intro t u h;have:=t.size_pos;omega
 |succ n ih=>
  intro t u h hn
  have hq:=Tm.aF t.args
  have tR:=t.size_eq
  have hb:=tq (l:=t.binds) (m:=u.binds) (by omega)
  rw[Tm.aP,Tm.aP,Tm.qy]
  refine Ot (ai.intro (fun h=>?_) fun h=>?_)
  ·have:(t.kind==u.kind&&t.index==u.index)=false:=by rw[Bool.not_eq_true'] at h;exact h
   rw[this,Bool.false_and]
  ·have hh:(t.kind==u.kind&&t.index==u.index)=true:=by rw[Bool.not_eq_false'] at h;exact h
   rw[hh,Bool.true_and]
   refine ai.intro (fun h=>?_) fun h=>?_
   ·rw[Tm.iS (by simp at h;omega),Bool.and_false]
   ·have Xu:t.args.length=u.args.length:=by simp at h;omega
    refine⟨_,hb,ai.intro (fun h=>?_) fun h=>?_⟩
    ·have:Ty.bq t.binds u.binds=false:=by simpa using h
     rw[this,Bool.false_and]
    ·have Xc:Ty.bq t.binds u.binds=true:=by simpa using h
     rw[Xc,Bool.true_and]
     refine ax.intro (fun k:Nat=>(((),(),(k:Int),()),((t.binds.map Ty.enc,t.kind,t.index,t.args.map Tm.enc,()),(u.binds.map Ty.enc,u.kind,u.index,u.args.map Tm.enc,()),()))) (fun k=>k≤t.args.length∧Tm.bq t.args u.args=Tm.bq (t.args.drop k) (u.args.drop k)) (fun k=>t.args.length-k) 0 rfl ⟨Nat.zero_le _,rfl⟩ ?_
     intro k ⟨hk,hs⟩ again bJ
     dsimp only
     rw[List.length_map,List.length_map]
     refine ai.intro (fun h=>?_) fun h=>?_
     ·have ak:k<t.args.length:=by simpa using h
      rw[Tm.gG ak (by omega)] at hs
      have hi:=ih t.args[k] (u.args[k]'(by omega)) (by have:=Tm.cr ak;omega) (by omega)
      rw[Tm.aP,Tm.aP] at hi
      refine⟨by omega,by omega,_,_,_,_,Tm.aq ak,by omega,by omega,_,_,_,_,Tm.aq (by omega),_,hi,ai.intro (fun h=>?_) fun h=>?_⟩
      ·have:Tm.same t.args[k] u.args[k]=false:=by simpa using h
       rw[hs,this,Bool.false_and]
      ·have he:Tm.same t.args[k] u.args[k]=true:=by simpa using h
       rw[he,Bool.true_and] at hs
       rw[aD (by omega)]
       exact bJ (k+1) ⟨by omega,hs⟩ (by omega)
     ·have:t.args.length≤k:=by simpa using h
      rw[List.drop_eq_nil_of_le this,List.drop_eq_nil_of_le (by omega)] at hs
      rw[hs];rfl
section
section
variable {P:Program} {w w':World} {F:Nat→Nat→Prop} {η:List Value} {hp:List af}
def af.Rl:af→Prop
 | .box _=>True
 | .cA _ _=>True
 | .aB _=>True
 |_=>False
theorem rD {r0:AV} {q:Nat} {o o':af} {b:Nat} {v0:Value} {v:Value} (aJ:oB w F η hp) (hq:hp[q]?=some o) (hn:o.Rl) (I4:o'.Rl) (hb:η[q]?=some v0) (nP:bU v0=some b)
  (hk:bo (fun k=>k=b) w w') (hs:w'.heap.size=w.heap.size)
  (tW:Ext w F η hp w' (bG F w η hp w' η (hp.set q o')) η (hp.set q o')→fL w' (bG F w η hp w' η (hp.set q o')) η (hp.set q o') o' v0) (OH:aY w F η hp r0 v):
  eg w F η hp w' η (hp.set q o') r0 v:=by
 have hl:o.live:=by cases o<;>first|exact True.intro|exact hn.elim
 have DH:o'.live:=by cases o'<;>first|exact True.intro|exact I4.elim
 have AU:q<hp.length:=(List.getElem?_eq_some_iff.1 hq).1
 have BV:(hp.set q o')[q]?=some o':=by simp[List.getElem?_set,AU]
 have KY:∀k,aE η (hp.set q o') k↔aE η hp k:=by
  intro k
  constructor
  ·intro ⟨r,x,u,e1,e2,e3,e4⟩
   by_cases hr:q=r
   ·subst hr;exact⟨q,_,u,hq,hl,e3,e4⟩
   ·rw[get_set_other hr] at e1;exact⟨r,x,u,e1,e2,e3,e4⟩
  ·intro ⟨r,x,u,e1,e2,e3,e4⟩
   by_cases hr:q=r
   ·subst hr;exact⟨q,_,u,BV,DH,e3,e4⟩
   ·exact⟨r,x,u,by rw[get_set_other hr];exact e1,e2,e3,e4⟩
 have Zo:aE η hp b:=⟨q,_,_,hq,hl,hb,nP⟩
 have Hy:∀x,¬F b x:=by
  intro x hf
  obtain⟨p1,q1,q2⟩:=(aR b x).1 (aJ.bb b x hf).2 q _ hb nP
  rw[hq] at q1
  obtain rfl:=Option.some.inj q1
  cases o<;>first|exact q2|exact hn
 have KZ:∀k x,gO η hp k x→gO η (hp.set q o') k x:=by
  intro k x hf
  refine(aR k x).2 fun r u e1 e2=>?_
  obtain⟨p1,q1,q2⟩:=(aR k x).1 hf r u e1 e2
  by_cases hr:q=r
  ·subst hr
   rw[hq] at q1
   obtain rfl:=Option.some.inj q1
   exact(show False by cases o<;>first|exact q2|exact hn).elim
  ·exact⟨p1,by rw[get_set_other hr];exact q1,q2⟩
 have gP:∀k,k<w.heap.size→k≠b→w'.heap[k]?=w.heap[k]?:=fun k h1 h2=>hk.block k h1 h2
 have bb:∀k x,F k x→bG F w η hp w' η (hp.set q o') k x:=fun k x hf=>⟨.inl hf,by rw[hs];exact(aJ.bb k x hf).1,KZ k x (aJ.bb k x hf).2⟩
 have bZ:Ext w F η hp w' (bG F w η hp w' η (hp.set q o')) η (hp.set q o'):=by
  refine⟨fun k x u hf hc=>?_,fun k es c hf hc=>?_,bb,fun r a h=>h,fun r a h=>h,fun r n u h=>?_⟩
  ·have bh:k≠b:=fun h=>Hy x (h▸hf)
   simp only[World.cell?] at hc ⊢
   rw[gP k (aJ.bb k x hf).1 bh];exact hc
  ·have bh:k≠b:=fun h=>Hy 0 (h▸hf)
   rw[gP k (aJ.bb k 0 hf).1 bh];exact hc
  ·unfold aT at h ⊢
   by_cases hr:q=r
   ·subst hr;rw[hq] at h;exact(show False by cases o<;>first|exact h|exact hn).elim
   ·rw[get_set_other hr];exact h
 refine⟨⟨hk.os,hk.tape,hk.output,hk.size,fun k h1 h3=>gP k h1 fun h=>h3 (h▸Zo)⟩,bZ,⟨by rw[List.length_set];exact aJ.heap.len,fun r x u e1 e2=>?_,fun r r' x x' u u' k bh e1 e2 l1 l2 e3 e4 e5=>?_⟩,fun k h=>.inr ((KY k).1 h),OH.ext bZ⟩
 ·by_cases ec:q=r
  ·subst ec
   rw[BV] at e1
   obtain rfl:=Option.some.inj e1
   rw[hb] at e2
   obtain rfl:=Option.some.inj e2
   exact tW bZ
  ·rw[get_set_other ec] at e1
   by_cases um:x.live
   ·refine(aJ.heap.obj r x u e1 e2).ext bZ hk.size fun k gn Hq=>gP k Hq fun h=>?_
    subst h
    exact aJ.heap.sep q r _ x _ u k ec hq e1 hl um hb e2 nP gn
   ·cases x<;>first|exact True.intro|exact(um True.intro).elim
 ·have look:∀{r:Nat} {x:af},(hp.set q o')[r]?=some x→x.live→∃p,hp[r]?=some p∧p.live:=by
   intro r x e l
   by_cases hr:q=r
   ·subst hr;exact⟨_,hq,hl⟩
   ·rw[get_set_other hr] at e;exact⟨x,e,l⟩
  obtain⟨p,Zp,Zq⟩:=look e1 l1
  obtain⟨p',Zr,Zs⟩:=look e2 l2
  exact aJ.heap.sep r r' p p' u u' k bh Zp Zr Zq Zs e3 e4 e5
theorem HS {r0:AV} {q:Nat} {e size hi oG g cap:Nat} {els:List AV} {cur:Array Value} {v:Value} (aJ:oB w F η hp) (hq:hp[q]?=some (.row e size els)) (dE:η[q]?=some (.slice (some ⟨g,0,none⟩) els.length cap)) (G1:0<cap)
  (hg:w.heap[g]?=some (.cells cur e (0,hi))) (An:w'.heap[g]?=some (.cells cur e (0,oG))) (hh:oG≤els.length*size)
  (hs:w'.os=w.os∧w'.tape=w.tape∧w'.output=w.output∧w'.heap.size=w.heap.size) (hk:∀k,k≠g→w'.heap[k]?=w.heap[k]?) (OH:aY w F η hp r0 v):
  eg w F η hp w' η hp r0 v:=by
 have ay:∀b o,w'.cell? ⟨b,o,none⟩=w.cell? ⟨b,o,none⟩:=by
  intro b o
  by_cases hb:b=g
  ·subst hb;simp only[World.cell?,hg,An]
  ·simp only[World.cell?,hk b hb]
 have N0:aE η hp g:=⟨q,_,_,hq,True.intro,dE,bd G1⟩
 have bZ:Ext w F η hp w' (bG F w η hp w' η hp) η hp:=by
  refine⟨fun k x u hf hc=>by rw[ay];exact hc,fun k es c hf hc=>?_,fun k x hf=>⟨.inl hf,by rw[hs.2.2.2];exact(aJ.bb k x hf).1,(aJ.bb k x hf).2⟩,fun r a h=>h,fun r a h=>h,fun r n u h=>h⟩
  have:k≠g:=fun e=>by rw[e] at hc;rw[hc] at hg;cases hg
  rw[hk k this];exact hc
 refine⟨⟨hs.1,hs.2.1,hs.2.2.1,by rw[hs.2.2.2];exact Nat.le_refl _,fun k _ h3=>hk k fun h=>h3 (h▸N0)⟩,bZ,⟨aJ.heap.len,fun r x u e1 e2=>?_,aJ.heap.sep⟩,fun k h=>.inr h,OH.ext bZ⟩
 by_cases hr:q=r
 ·subst hr
  rw[hq] at e1
  obtain rfl:=Option.some.inj e1
  rw[dE] at e2
  obtain rfl:=Option.some.inj e2
  obtain⟨hz,xs,⟨hl,h1⟩,cy⟩:=aJ.heap.obj q _ _ hq dE
  refine⟨hz,xs,⟨hl,?_⟩,fun i el hi=>⟨(cy i el hi).1,fun j y hj=>let ⟨v1,q1,q2,q3⟩:=(cy i el hi).2 j y hj;⟨v1,q1,q2.ext bZ.ko.ext,q3⟩⟩⟩
  rcases h1 with⟨h1,h2|⟨ad,h2⟩⟩|⟨g1,acK,acL,h2,h3,⟨_,_,h4⟩,h5⟩
  ·cases h2
  ·simp only[Value.slice.injEq] at h2;omega
  ·simp only[Value.slice.injEq,Option.some.injEq,Addr.mk.injEq,and_true] at h2
   obtain⟨rfl,_,rfl⟩:=h2
   rw[hg] at h4
   simp only[Option.some.injEq,Obj.cells.injEq] at h4
   obtain⟨rfl,_,_⟩:=h4
   exact .inr ⟨g,cap,cur,rfl,G1,⟨oG,hh,An⟩,h5⟩
 ·by_cases um:x.live
  ·refine(aJ.heap.obj r x u e1 e2).ext bZ (by rw[hs.2.2.2];exact Nat.le_refl _) fun k gn Hq=>hk k fun h=>?_
   subst h
   exact aJ.heap.sep q r _ x _ u k hr hq e1 True.intro um dE e2 (bd G1) gn
  ·cases x<;>first|exact True.intro|exact(um True.intro).elim
theorem vj {r0:AV} {v:Value} (aJ:oB w F η hp) (hk:bo (aE η hp) w w') (hc:∀b o u,F b o→w.cell? ⟨b,o,none⟩=some u→w'.cell? ⟨b,o,none⟩=some u) (hm:∀b es c,F b 0→w.heap[b]?=some (.map es c)→w'.heap[b]?=some (.map es c)) {hp':List af} (hl:hp'.length=hp.length) (hd:∀(r:Nat) (o:af),hp'[r]?=some o→o=.dead)
  (OH:∀F',aY w' F' η hp' r0 v):eg w F η hp w' η hp' r0 v:=by
 refine⟨hk,⟨hc,hm,fun k o hf=>⟨.inl hf,Nat.lt_of_lt_of_le (aJ.bb k o hf).1 hk.size,fun r u e1 e2=>?_⟩,fun r a h=>h,fun r a h=>h,fun r n u h=>?_⟩,⟨by rw[hl];exact aJ.heap.len,fun r x u e1 e2=>?_,fun r r' x x' u u' k bh e1 e2 l1 l2=>?_⟩,fun k h=>?_,OH _⟩
 ·have hr:r<hp'.length:=by rw[hl,←aJ.heap.len];exact(List.getElem?_eq_some_iff.1 e1).1
  obtain⟨x,hx⟩:∃x,hp'[r]?=some x:=⟨_,List.getElem?_eq_getElem hr⟩
  rw[hx,hd r x hx];exact True.intro
 ·have hr:r<hp'.length:=by
   unfold aT at h
   rw[hl]
   rcases Nat.lt_or_ge r hp.length with h1|h1
   ·exact h1
   ·rw[List.getElem?_eq_none h1] at h;exact h.elim
  obtain⟨x,hx⟩:∃x,hp'[r]?=some x:=⟨_,List.getElem?_eq_getElem hr⟩
  unfold aT
  rw[hx,hd r x hx];exact True.intro
 ·rw[hd r x e1];exact True.intro
 ·rw[hd r x e1] at l1;exact l1.elim
 ·obtain⟨r,x,u,e1,e2,_⟩:=h
  rw[hd r x e1] at e2;exact e2.elim
end
theorem zz {w:World} {F:Nat→Nat→Prop} {η:List Value} {hp:List af} {r o:Nat} {v:Value} (h:aY w F η hp (.ptr r o) v):∃b,v=.pointer (some ⟨b,o,none⟩)∧η[r]?=some (.pointer (some ⟨b,0,none⟩)):=by
 cases h with|ptr _ _ b h1=>exact⟨b,rfl,h1⟩
theorem mD {us:List AV} {n:Nat}:bp Tryz.prog 171 [.ptr 0 0] [.cA 1 n,.row 5 1 us] (fun r hp'=>r=.aX []∧hp'=[.cA 1 n,.row 5 1 us]):=by
 refine⟨⟨_,Tryz.func171,by kernel_rfl,by kernel_rfl⟩,fun w F η aU aJ hv=>?_⟩
 match aU,hv with
 | [v0],⟨r0,_⟩=>
  obtain⟨b,rfl,h0⟩:=zz r0
  obtain⟨b',vs,e1,h1,h2,h3,u,h4,h5⟩:=aJ.heap.obj 0 _ _ rfl h0
  cases e1
  have c0:∀x,vs[0]?=some x→w.cell? ⟨b,0,none⟩=some x:=fun x hx=>by simp only[World.cell?,h1];exact hx
  rcases h3 with h3|h3
  ·refine callsIn_wide.2 ((Any.Builder_copyCheck_fresh KX EC b w (c0 _ h3) (by simp only[World.shape?,h1,h2.1];rfl) (by simp[World.frozen?,h1])).mono ?_)
   rintro e w' ⟨rfl,rfl⟩
   have g1:=heap_setCell_same w b 0 _ tV (.pointer (some ⟨b,0,none⟩)) h1
   exact⟨_,.aX [],[.cA 1 n,.row 5 1 us],η,rfl,⟨rfl,rfl⟩,rD (q:=0) (b:=b) (o':=.cA 1 n) aJ rfl True.intro True.intro h0 rfl ⟨rfl,rfl,rfl,by simp,fun k _ hk=>heap_setCell_other _ _ _ _ hk⟩ (by simp)
    (fun bZ=>⟨b,_,rfl,g1,⟨by simp[h2.1],fun e=>by rw[Array.getElem?_setIfInBounds_ne (by omega)];exact h2.2 e⟩,.inr (by simp[h2.1]),u,by rw[Array.getElem?_setIfInBounds_ne (by omega)];exact h4,h5.ext bZ⟩) (.aX [] #[] rfl fun j y u hy _=>by cases hy)⟩
  ·refine callsIn_wide.2 ((Any.Builder_copyCheck_used KX EC b w (c0 _ h3)).mono ?_)
   rintro e w' ⟨rfl,rfl⟩
   exact⟨_,.aX [],[.cA 1 n,.row 5 1 us],η,rfl,⟨rfl,rfl⟩,rD (q:=0) (b:=b) (o':=.cA 1 n) aJ rfl True.intro True.intro h0 rfl ⟨rfl,rfl,rfl,Nat.le_refl _,fun _ _ _=>rfl⟩ rfl
    (fun bZ=>⟨b,_,rfl,h1,h2,.inr h3,u,h4,h5.ext bZ⟩) (.aX [] #[] rfl fun j y u hy _=>by cases hy)⟩
theorem qB {us:List AV} {s:ByteArray} (h:us.length+s.size≤140737488355328) (bh:s.size≠0):bp Tryz.prog 124 [.ptr 0 0,nS s] [.cA 1 us.length,.row 5 1 us]
  (fun r hp'=>r=.aX [nI s.size,.ae (.nilIface)]∧hp'=[.cA 1 (us++aV s).length,.row 5 1 (us++aV s)]):=
 KW ⟨_,mD,fun r q ⟨h1,h2⟩=>⟨us,⟨h1,h2⟩,rfl,h,by rw[List.length_append,ek];omega,rfl,rfl⟩⟩
theorem P7:Builder.Extra Tryz.prog BU:={ EC with t5:=Tryz.underlying5,a5:=Tryz.isAgg5,z5:=Tryz.sizeOf5,v5:=Tryz.zeroValue5,infoByte:=by kernel_rfl,cellsByte:=by kernel_rfl,sizeByte:=by kernel_rfl,neB5:=by decide }
set_option maxHeartbeats 1000000 in
set_option maxRecDepth 100000 in
theorem xu {P:Program} {ρ:Ren} (L:Lays.n169 P ρ) (X:Builder.Extra P ρ) {b g cap hi:Nat} {cur vs:Array Value} {l:List UInt8} {w:World} (nP:w.heap[b]?=some (.cells vs (ρ.t 72) (0,0)))
  (hvs:vs[1]?=some (.slice (some ⟨g,0,none⟩) l.length cap)) (hg:w.heap[g]?=some (.cells cur (ρ.t 5) (0,hi))) (Au:l.length≤cap) (DG:cap≤maxLen) (fq:cur.size=cap*1) (jH:cur.toList.take (l.length*1)=Lib.byteCells l) (h0:l≠[]):
  Calls P (ρ.f 169) #[.pointer (some ⟨b,0,none⟩)] w fun e w'=>e=.returned (.string ⟨l.toArray⟩)∧w'=w.drew.freeze ⟨g,0,none⟩ l.length:=by
 have MX:l.length≠0:=by simpa using h0
 have c1:w.drew.cell? ⟨b,1,none⟩=some (.slice (some ⟨g,0,none⟩) l.length cap):=by
  have:w.drew.heap[b]?=some (.cells vs (ρ.t 72) (0,0)):=nP
  rw[Lib.cell_of_heap this];exact hvs
 have hSD:(Builtin.unsafeSliceData_ #[(ρ.t 37)] (ρ.t 127) #[.slice (some ⟨g,0,none⟩) l.length cap]).run P w.drew=.ok (.pointer (some ⟨g,0,none⟩)) w.drew:=
  Lib.run_unsafeSliceData_row _ _ _ _ _ _ (by omega)
 have hUS:(Builtin.unsafeString_ #[(ρ.t 127),(ρ.t 3)] (ρ.t 9) #[.pointer (some ⟨g,0,none⟩),.int .i64 l.length]).run P w.drew=.ok (.string ⟨l.toArray⟩) (w.drew.freeze ⟨g,0,none⟩ l.length):=by
  refine Lib.run_unsafeString_row w.drew (ρ.t 127) (ρ.t 3) (ρ.t 9) (ρ.t 5) L.t127 X.cellsByte g cur.size (by have An:w.drew.heap[g]?=some (.cells cur (ρ.t 5) (0,hi)):=hg;simp[World.shape?,An]) l h0 (by omega) (by unfold maxLen at DG;omega) ?_
  intro j x hx
  have hj:j<l.length:=(List.getElem?_eq_some_iff.1 hx).1
  have e1:(cur.toList.take (l.length*1))[j]?=some (.int .u8 x.toNat):=by rw[jH];simp[Lib.byteCells,hx]
  rw[List.getElem?_take_of_lt (by omega)] at e1
  have An:w.drew.heap[g]?=some (.cells cur (ρ.t 5) (0,hi)):=hg
  rw[Addr.add_lit,Lib.cell_of_heap An]
  simpa using e1
 have mixed:=L.mixed
 have t72:=L.t72;have a72:=L.a72;have z72:=L.z72;have v72:=L.v72;have u72:=run_underlying L.t72
 have t70:=L.t70;have a70:=L.a70;have z70:=L.z70;have v70:=L.v70;have u70:=run_underlying L.t70
 have t37:=L.t37;have a37:=L.a37;have z37:=L.z37;have v37:=L.v37;have u37:=run_underlying L.t37
 have t127:=L.t127;have a127:=L.a127;have z127:=L.z127;have v127:=L.v127;have aag:=run_underlying L.t127
 have t3:=L.t3;have a3:=L.a3;have z3:=L.z3;have v3:=L.v3;have u3:=run_underlying L.t3
 have t9:=L.t9;have a9:=L.a9;have z9:=L.z9;have v9:=L.v9;have u9:=run_underlying L.t9
 have t5:=X.t5;have a5:=X.a5;have z5:=X.z5;have v5:=X.v5;have u5:=run_underlying X.t5
 go_enter L.f169,Body.n169_ntmps ρ
 go_wp2
 go_region_o
 all_goals (go_wp2;go_ret;exact⟨rfl,rfl⟩)
set_option maxHeartbeats 2000000 in
set_option maxRecDepth 100000 in
theorem vk {P:Program} {ρ:Ren} (L:Lays.n169 P ρ) (X:Builder.Extra P ρ) {b:Nat} {vs:Array Value} {w:World} (nP:w.heap[b]?=some (.cells vs (ρ.t 72) (0,0))) (hvs:vs[1]?=some (.slice none 0 0)):
  Calls P (ρ.f 169) #[.pointer (some ⟨b,0,none⟩)] w fun e w'=>e=.returned (.string ⟨#[]⟩)∧w'=w.drew:=by
 have hUS:=Any.unsafeString_none L X
 have c1:w.drew.cell? ⟨b,1,none⟩=some (.slice none 0 0):=by
  have:w.drew.heap[b]?=some (.cells vs (ρ.t 72) (0,0)):=nP
  rw[Lib.cell_of_heap this];exact hvs
 have hSD:(Builtin.unsafeSliceData_ #[(ρ.t 37)] (ρ.t 127) #[.slice none 0 0]).run P w.drew=.ok (.pointer none) w.drew:=rfl
 have mixed:=L.mixed
 have t72:=L.t72;have a72:=L.a72;have z72:=L.z72;have v72:=L.v72;have u72:=run_underlying L.t72
 have t70:=L.t70;have a70:=L.a70;have z70:=L.z70;have v70:=L.v70;have u70:=run_underlying L.t70
 have t37:=L.t37;have a37:=L.a37;have z37:=L.z37;have v37:=L.v37;have u37:=run_underlying L.t37
 have t127:=L.t127;have a127:=L.a127;have z127:=L.z127;have v127:=L.v127;have aag:=run_underlying L.t127
 have t3:=L.t3;have a3:=L.a3;have z3:=L.z3;have v3:=L.v3;have u3:=run_underlying L.t3
 have t9:=L.t9;have a9:=L.a9;have z9:=L.z9;have v9:=L.v9;have u9:=run_underlying L.t9
 have t5:=X.t5;have a5:=X.a5;have z5:=X.z5;have v5:=X.v5;have u5:=run_underlying X.t5
 go_enter L.f169,Body.n169_ntmps ρ
 go_wp2
 go_region_o
 all_goals (go_wp2;go_ret;exact⟨rfl,rfl⟩)
theorem jR {w:World} {g n k:Nat} (h:k≠g):(w.freeze ⟨g,0,none⟩ n).heap[k]?=w.heap[k]?:=by
 unfold World.freeze
 split
 ·rfl
 ·simp only[Array.getElem?_modify];rw[if_neg (Ne.symm h)]
theorem CH {w:World} {g n b o:Nat} {cur:Array Value} {T:TypeId} {z:Nat×Nat} (hg:w.heap[g]?=some (.cells cur T z)):(w.freeze ⟨g,0,none⟩ n).cell? ⟨b,o,none⟩=w.cell? ⟨b,o,none⟩:=by
 by_cases h:b=g
 ·subst h
  unfold World.freeze
  split
  ·rfl
  ·simp[World.cell?,Array.getElem?_modify,hg]
 ·simp only[World.cell?,jR h]
theorem EX {w:World} {g n hi:Nat} {cur:Array Value} {T:TypeId} (hg:w.heap[g]?=some (.cells cur T (0,hi))) (hn:n≠0) (h:hi≤n):(w.freeze ⟨g,0,none⟩ n).heap[g]?=some (.cells cur T (0,n)):=by
 unfold World.freeze
 rw[if_neg hn]
 simp only[Array.getElem?_modify,if_true,hg,Option.map_some]
 congr 2
 by_cases h0:hi=0
 ·subst h0;simp
 ·have:(0==hi)=false:=by simp;omega
  rw[this]
  simp;omega
theorem su (w:World) (a:Addr) (n:Nat):(w.freeze a n).os=w.os∧(w.freeze a n).tape=w.tape∧(w.freeze a n).output=w.output∧(w.freeze a n).heap.size=w.heap.size:=by
 unfold World.freeze
 split
 ·exact⟨rfl,rfl,rfl,rfl⟩
 ·exact⟨rfl,rfl,rfl,by simp⟩
theorem GL {P:Program} {w:World} {F:Nat→Nat→Prop} {η:List Value} {hp:List af} {q:Nat} {s:ByteArray} {u:Value} (aJ:oB w F η hp) (hq:hp[q]?=some (.row 5 1 (aV s))) (dE:η[q]?=some u) (h:s.size≠0):
  s.data.toList≠[]∧(aV s).length=s.data.toList.length∧∃g cap cur hi,u=.slice (some ⟨g,0,none⟩) (aV s).length cap∧0<cap∧hi≤(aV s).length∧w.heap[g]?=some (.cells cur 5 (0,hi))∧(aV s).length≤cap∧cap≤maxLen∧cur.size=cap*1∧cur.toList.take ((aV s).length*1)=Lib.byteCells s.data.toList:=by
 obtain⟨_,xs,⟨g0,g1⟩,g2⟩:=aJ.heap.obj q _ _ hq dE
 have hlen:(aV s).length=s.data.toList.length:=by unfold aV;exact List.length_map _
 have MY:xs=Lib.byteCells s.data.toList:=by
  refine List.ext_getElem? fun i=>?_
  cases hs:s.data.toList[i]? with
  |none=>
   have:s.data.toList.length≤i:=List.getElem?_eq_none_iff.1 hs
   rw[List.getElem?_eq_none (by rw[g0,hlen];omega),List.getElem?_eq_none (by rw[Lib.byteCells_length];exact this)]
  |some c=>
   obtain⟨u,k1,k2,_⟩:=(g2 i (.ae (.int .u8 c.toNat)) (by simp[aV,hs])).2 0 _ rfl
   have k3:xs[i]?=some u:=by simpa using k1
   rw[k3]
   cases k2
   simp[Lib.byteCells,hs]
 have bh:s.data.toList≠[]:=fun e=>h (by rw[←ek,hlen,e];rfl)
 rcases g1 with⟨g1,_⟩|⟨g,cap,cur,rfl,k0,⟨hi,kh,k1⟩,k2,k3,k4,k5⟩
 ·exact(h (by rw[←ek];exact g1)).elim
 ·exact⟨bh,hlen,g,cap,cur,hi,rfl,k0,by omega,k1,k2,k3,k4,by rw[k5];exact MY⟩
theorem P8 {s:ByteArray}:bp Tryz.prog 128 [.ptr 0 0] [.cA 1 (aV s).length,.row 5 1 (aV s)] (fun r hp'=>r=nS s∧hp'=[.dead,.dead]):=by
 refine⟨⟨_,Tryz.func128,by kernel_rfl,by kernel_rfl⟩,fun w F η aU aJ hv=>?_⟩
 match aU,hv with
 | [v0],⟨r0,_⟩=>
  obtain⟨b,rfl,h0⟩:=zz r0
  obtain⟨b',vs,e1,h1,h2,h3,u,h4,h5⟩:=aJ.heap.obj 0 _ _ rfl h0
  cases e1
  by_cases h:s.size=0
  ·have hz:aV s=[]:=List.eq_nil_of_length_eq_zero (by rw[ek];exact h)
   have hs:s=⟨#[]⟩:=by
    obtain⟨d⟩:=s
    have:d.size=0:=h
    rw[Array.eq_empty_of_size_eq_zero this]
   refine callsIn_wide.2 ((vk yL P7 (b:=b) h1 (h2.2 (by rw[hz];rfl))).mono ?_)
   rintro e w' ⟨rfl,rfl⟩
   refine⟨_,nS s,[.dead,.dead],η,rfl,⟨rfl,rfl⟩,vj (w':=w.drew) (hp':=[.dead,.dead]) aJ ⟨rfl,rfl,rfl,Nat.le_refl _,fun _ _ _=>rfl⟩ (fun _ _ _ _ hc=>hc) (fun _ _ _ _ hc=>hc) rfl (fun r o e=>?_) fun F'=>by rw[hs];exact .ae (.string ⟨#[]⟩)⟩
   match r,e with
   |0,e=>exact(Option.some.inj e).symm
   |1,e=>exact(Option.some.inj e).symm
  have h6:η[1]?=some u:=by cases h5 with|own _ _ _ _ ho=>exact ho.2 rfl
  obtain⟨bh,hlen,g,cap,cur,hi,rfl,k0,kh,k1,k2,k3,k4,k5⟩:=GL (P:=Tryz.prog) (q:=1) aJ rfl h6 h
  rw[hlen] at h4 k2 k5 h6
  refine callsIn_wide.2 ((xu yL P7 (b:=b) (g:=g) (cap:=cap) (cur:=cur) (l:=s.data.toList) h1 h4 k1 k2 k3 k4 k5 bh).mono ?_)
  rintro e w' ⟨rfl,rfl⟩
  have N0:aE η [.cA 1 (aV s).length,.row 5 1 (aV s)] g:=⟨1,_,_,rfl,True.intro,h6,bd k0⟩
  obtain⟨f1,f2,f3,f4⟩:=su w.drew ⟨g,0,none⟩ s.data.toList.length
  refine⟨_,nS s,[.dead,.dead],η,rfl,⟨rfl,rfl⟩,vj aJ ⟨f1,f2,f3,by rw[f4];exact Nat.le_refl _,fun k _ hk=>?_⟩ (fun b o u _ hc=>?_) (fun b es c _ hc=>?_) rfl (fun r o e=>?_) fun F'=>?_⟩
  ·exact jR (w:=w.drew) fun e=>hk (e▸N0)
  ·rw[CH (w:=w.drew) (cur:=cur) k1];exact hc
  ·have:b≠g:=fun e=>by rw[e] at hc;rw[hc] at k1;cases k1
   rw[jR (w:=w.drew) this];exact hc
  ·match r,e with
   |0,e=>exact(Option.some.inj e).symm
   |1,e=>exact(Option.some.inj e).symm
  ·exact .ae _
theorem CI {s:ByteArray}:bp Tryz.prog 128 [.ptr 0 0] [.cA 1 (aV s).length,.row 5 1 (aV s)] (fun r hp'=>r=nS s∧hp'=[.cA 1 (aV s).length,.row 5 1 (aV s)]):=by
 refine⟨⟨_,Tryz.func128,by kernel_rfl,by kernel_rfl⟩,fun w F η aU aJ hv=>?_⟩
 match aU,hv with
 | [v0],⟨r0,_⟩=>
  obtain⟨b,rfl,h0⟩:=zz r0
  obtain⟨b',vs,e1,h1,h2,h3,u,h4,h5⟩:=aJ.heap.obj 0 _ _ rfl h0
  cases e1
  by_cases h:s.size=0
  ·have hz:aV s=[]:=List.eq_nil_of_length_eq_zero (by rw[ek];exact h)
   have hs:s=⟨#[]⟩:=by
    obtain⟨d⟩:=s
    have:d.size=0:=h
    rw[Array.eq_empty_of_size_eq_zero this]
   refine callsIn_wide.2 ((vk yL P7 (b:=b) h1 (h2.2 (by rw[hz];rfl))).mono ?_)
   rintro e w' ⟨rfl,rfl⟩
   refine⟨_,nS s,[.cA 1 (aV s).length,.row 5 1 (aV s)],η,rfl,⟨rfl,rfl⟩,rD (w':=w.drew) (q:=0) (b:=b) (o':=.cA 1 (aV s).length) aJ rfl True.intro True.intro h0 rfl ⟨rfl,rfl,rfl,Nat.le_refl _,fun _ _ _=>rfl⟩ rfl
    (fun bZ=>⟨b,_,rfl,h1,h2,h3,u,h4,h5.ext bZ⟩) (by rw[hs];exact .ae (.string ⟨#[]⟩))⟩
  have h6:η[1]?=some u:=by cases h5 with|own _ _ _ _ ho=>exact ho.2 rfl
  obtain⟨bh,hlen,g,cap,cur,hi,rfl,k0,kh,k1,k2,k3,k4,k5⟩:=GL (P:=Tryz.prog) (q:=1) aJ rfl h6 h
  have h4':=h4
  have k5':=k5
  rw[hlen] at h4' k5'
  refine callsIn_wide.2 ((xu yL P7 (b:=b) (g:=g) (cap:=cap) (cur:=cur) (l:=s.data.toList) h1 h4' k1 (hlen▸k2) k3 k4 k5' bh).mono ?_)
  rintro e w' ⟨rfl,rfl⟩
  obtain⟨f1,f2,f3,f4⟩:=su w.drew ⟨g,0,none⟩ s.data.toList.length
  have hbg:b≠g:=fun e=>aJ.heap.sep 0 1 _ _ _ _ g (by decide) rfl rfl True.intro True.intro h0 h6 (by rw[e];rfl) (bd k0)
  exact⟨_,nS s,_,η,rfl,⟨rfl,rfl⟩,HS (q:=1) aJ rfl h6 k0 k1 (EX (w:=w.drew) k1 (by rw[←hlen,ek];exact h) (hlen▸kh)) (by rw[hlen];omega) ⟨f1,f2,f3,f4⟩ (fun k hk=>jR (w:=w.drew) hk) (.ae _)⟩
end
abbrev bl (us:List AV):List af:=[.cA 1 us.length,.row 5 1 us]
theorem S9 {n:Int}:dS (.aX [nI n,.ae .nilIface]) (.aX [nI n,.top]):=fun w F η hp v h=>by
 cases h with
 |aX cs vs hl hr=>
  refine .aX _ vs hl fun j x u hx hu=>?_
  match j,hx with
  |0,hx=>exact hr 0 x u hx hu
  |1,hx=>cases hx;exact .top _
theorem Mi {us:List AV} {s:ByteArray} (bh:s.size≠0) (h:us.length+s.size≤140737488355328):bp Tryz.prog 124 [.ptr 0 0,nS s] (bl us)
  (fun r hp'=>r=.aX [nI s.size,.top]∧hp'=bl (us++aV s)):=
 (qB h bh).res fun r h' ⟨h1,h2⟩=>⟨_,h1▸S9,rfl,h2⟩
mutual
def Ty.gI (most:Nat):Nat→Ty→Nat
 |d,.mk l _=>(match d with
  |0=>most+1
  |d+1=>Ty.fp most d 1 l)
def Ty.fp (most:Nat):Nat→Nat→List Ty→Nat
 |_,n,[]=>n
 |d,n,t::l=>if n≤most then Ty.fp most d (n+Ty.gI most d t) l else n
end
theorem Ty.gd (most:Nat) (t:Ty):Ty.gI most 0 t=most+1:=by cases t;rfl
theorem Ty.gi (most d:Nat) (t:Ty):Ty.gI most (d+1) t=Ty.fp most d 1 t.args:=by cases t;rfl
theorem Ty.rE {most d n:Nat} {l:List Ty} {k:Nat} (h:k<l.length):Ty.fp most d n (l.drop k)=if n≤most then Ty.fp most d (n+Ty.gI most d l[k]) (l.drop (k+1)) else n:=by
 rw[List.drop_eq_getElem_cons h,Ty.fp]
theorem Ty.qC {most d:Nat} (h:∀t:Ty,Ty.gI most d t≤(d+1)*(most+1)):∀(l:List Ty) (n:Nat),n≤(d+2)*(most+1)→Ty.fp most d n l≤(d+2)*(most+1)
 | [],n,hn=>hn
 |t::l,n,hn=>by
  rw[Ty.fp]
  split
  ·refine Ty.qC h l _ ?_
   have:=h t
   have e:(d+2)*(most+1)=(d+1)*(most+1)+(most+1):=by rw[Nat.add_mul,Nat.add_mul];omega
   omega
  ·exact hn
theorem Ty.vl (most:Nat):∀(d:Nat) (t:Ty),Ty.gI most d t≤(d+1)*(most+1)
 |0,t=>by rw[Ty.gd];omega
 |d+1,t=>by
  rw[Ty.gi]
  refine Ty.qC (Ty.vl most d) _ _ ?_
  have:1*1≤(d+2)*(most+1):=Nat.mul_le_mul (by omega) (by omega)
  omega
theorem Ty.jS (most d:Nat):∀(l:List Ty) (n:Nat),n≤Ty.fp most d n l
 | [],n=>Nat.le_refl _
 |t::l,n=>by
  rw[Ty.fp]
  split
  ·exact Nat.le_trans (by omega) (Ty.jS most d l _)
  ·exact Nat.le_refl _
theorem Ty.zA (most:Nat):∀(d:Nat) (t:Ty),1≤Ty.gI most d t
 |0,t=>by rw[Ty.gd];omega
 |d+1,t=>by rw[Ty.gi];exact Ty.jS _ _ _ _
theorem Ty.lh {most d:Nat} (h:∀t:Ty,Ty.gI most d t≤most→t.size=Ty.gI most d t):∀(l:List Ty) (n:Nat),Ty.fp most d n l≤most→Ty.fp most d n l=n+Ty.sizes l
 | [],n,_=>rfl
 |t::l,n,hn=>by
  rw[Ty.fp] at hn ⊢
  split
  ·rename_i hc
   rw[if_pos hc] at hn
   rw[Ty.lh h l _ hn]
   have:=Ty.jS most d l (n+Ty.gI most d t)
   rw[Ty.sizes,h t (by omega)];omega
  ·rename_i hc
   rw[if_neg hc] at hn;omega
theorem Ty.jt (most:Nat):∀(d:Nat) (t:Ty),Ty.gI most d t≤most→t.size=Ty.gI most d t
 |0,t,h=>by rw[Ty.gd] at h;omega
 |d+1,t,h=>by
  rw[Ty.gi] at h ⊢
  rw[Ty.lh (Ty.jt most d) _ _ h,t.size_eq]
theorem Rm {d m:Nat} (hd:d≤1000) (hm:m≤1000):(d+1)*(m+1)≤1002001:=Nat.mul_le_mul (show d+1≤1001 by omega) (show m+1≤1001 by omega)
theorem CJ {most:Nat} (sv:most≤1000):∀(d:Nat) (t:Ty),d≤999→ag Tryz.prog 90 [t.enc,nI most,nI d] (nI (Ty.gI most d t:Nat)):=by
 intro d
 induction d with
 |zero=>
  intro t _
  rw[Ty.aP,Ty.gd]
  refine Gq (ai.pos (by decide) ?_)
  rw[aD (by omega)]
 |succ d ih=>
  intro t hd
  rw[Ty.aP,Ty.gi]
  refine Gq (ai.neg (decide_eq_false (by omega)) ?_)
  refine ax.intro (fun p:Nat×Nat=>(((most:Int),((d+1:Nat):Int),(),(p.2:Int),(p.1:Int),()),((t.args.map Ty.enc,t.base,()),())))
   (fun p=>p.1≤t.args.length∧p.1+1≤p.2∧p.2≤(d+2)*(most+1)∧Ty.fp most d 1 t.args=Ty.fp most d p.2 (t.args.drop p.1)) (fun p=>t.args.length-p.1) (0,1) rfl
   ⟨Nat.zero_le _,Nat.le_refl _,by have:1*1≤(d+2)*(most+1):=Nat.mul_le_mul (by omega) (by omega);dsimp only;omega,rfl⟩ ?_
  intro ⟨k,n⟩ ⟨hk,WL,hn,hs⟩ again bJ
  dsimp only at hk WL hn hs ⊢
  have hbd:(d+2)*(most+1)≤1002001:=Rm (d:=d+1) (m:=most) (by omega) sv
  rw[List.length_map]
  refine ai.intro (fun h=>?_) fun h=>?_
  ·have ak:k<t.args.length:=by simpa using h
   rw[Ty.rE ak] at hs
   refine ai.intro (fun h=>?_) fun h=>?_
   ·have hm:n≤most:=by simpa using h
    rw[if_pos hm] at hs
    have hi:=ih t.args[k] (by omega)
    have hb:=Ty.vl most d t.args[k]
    have hp:=Ty.zA most d t.args[k]
    rw[Ty.aP] at hi
    refine⟨by omega,by omega,_,_,Ty.aq ak,(Ty.gI most d t.args[k]:Nat),?_,?_⟩
    ·rw[eu (n:=((d+1:Nat):Int)-1) (by omega) (by omega),show ((d+1:Nat):Int)-1=(d:Int) from by omega]
     exact hi
    ·have e:(d+2)*(most+1)=(d+1)*(most+1)+(most+1):=by rw[Nat.add_mul,Nat.add_mul];omega
     rw[aD (by omega),eu (n:=(n:Int)+(Ty.gI most d t.args[k]:Nat)) (by omega) (by omega),show (n:Int)+(Ty.gI most d t.args[k]:Nat)=((n+Ty.gI most d t.args[k]:Nat):Int) from by omega]
     exact bJ (k+1,n+Ty.gI most d t.args[k]) ⟨by dsimp only;omega,by dsimp only;omega,by dsimp only;omega,hs⟩ (by dsimp only;omega)
   ·have hm:¬n≤most:=by simpa using h
    rw[if_neg hm] at hs
    rw[hs]
  ·have:t.args.length≤k:=by simpa using h
   rw[List.drop_eq_nil_of_le this] at hs
   rw[hs];rfl
def Ty.ie (most d:Nat) (t:Ty):Bool:=decide (Ty.gI most d t≤most)
theorem Ty.fH {most d:Nat} {t:Ty} (h:Ty.ie most d t=true):t.size≤most:=by
 have h':Ty.gI most d t≤most:=by simpa [Ty.ie] using h
 rw[Ty.jt most d t h'];exact h'
theorem sw {most d:Nat} {t:Ty} (sv:most≤1000) (hd:d≤999):ag Tryz.prog 54 [t.enc,nI most,nI d] (nB (Ty.ie most d t)):=by
 have h:=CJ sv d t hd
 rw[Ty.aP] at h ⊢
 refine Ow ⟨_,h,?_⟩
 simp only[Ty.ie,Int.ofNat_le]
theorem zB:∀(n:Nat) (t:Ty),t.size≤n→n≤1000000000→ag Tryz.prog 71 [t.enc] (nI (t.size:Nat)):=by
 intro n
 induction n with
 |zero=>intro t h;have:=t.size_pos;omega
 |succ n ih=>
  intro t h hn
  have hq:=Ty.aF t.args
  have tR:=t.size_eq
  rw[Ty.aP]
  refine Ou ?_
  unfold V1 Gp
  refine ax.intro (fun k:Nat=>(((),((1+Ty.sizes (t.args.take k):Nat):Int),(k:Int),()),((t.args.map Ty.enc,t.base,()),())))
   (fun k=>k≤t.args.length) (fun k=>t.args.length-k) 0 (by simp[Ty.sizes]) (Nat.zero_le _) ?_
  intro k hk again bJ
  dsimp only
  rw[List.length_map]
  refine ai.intro (fun h=>?_) fun h=>?_
  ·have ak:k<t.args.length:=by simpa using h
   have hi:=ih t.args[k] (by have:=Ty.cr ak;omega) (by omega)
   have P9:Ty.sizes (t.args.take (k+1))=Ty.sizes (t.args.take k)+t.args[k].size:=by
    rw[←fz ak,Ty.bY];simp[Ty.sizes]
   have hle:Ty.sizes (t.args.take (k+1))≤Ty.sizes t.args:=by
    have e:=Ty.bY (t.args.take (k+1)) (t.args.drop (k+1))
    rw[List.take_append_drop] at e;omega
   rw[Ty.aP] at hi
   refine⟨by omega,by omega,_,_,Ty.aq ak,_,hi,?_⟩
   rw[aD (by omega),eu (n:=((1+Ty.sizes (t.args.take k):Nat):Int)+(t.args[k].size:Nat)) (by omega) (by omega),
    show ((1+Ty.sizes (t.args.take k):Nat):Int)+(t.args[k].size:Nat)=((1+Ty.sizes (t.args.take (k+1)):Nat):Int) from by omega]
   exact bJ (k+1) (by omega) (by omega)
  ·have:t.args.length≤k:=by simpa using h
   rw[List.take_of_length_le this,←t.size_eq]
def nD (most d:Nat):Nat→List Ty→Option Nat
 |n,[]=>some n
 |n,t::l=>if n≤most then(if Ty.gI most d t≤most then nD most d (n+t.size) l else none) else some n
mutual
def Tm.gI (most:Nat):Nat→Tm→Nat
 |d,.mk b _ _ a=>(match d with
  |0=>most+1
  |d+1=>(match nD most (d+1) 1 b with
   |none=>most+1
   |some n=>Tm.fp most d n a))
def Tm.fp (most:Nat):Nat→Nat→List Tm→Nat
 |_,n,[]=>n
 |d,n,t::l=>if n≤most then Tm.fp most d (n+Tm.gI most d t) l else n
end
theorem Tm.gd (most:Nat) (t:Tm):Tm.gI most 0 t=most+1:=by cases t;rfl
theorem Tm.gi (most d:Nat) (t:Tm):Tm.gI most (d+1) t=(match nD most (d+1) 1 t.binds with
   |none=>most+1
   |some n=>Tm.fp most d n t.args):=by cases t;rfl
theorem Tm.rE {most d n:Nat} {l:List Tm} {k:Nat} (h:k<l.length):Tm.fp most d n (l.drop k)=if n≤most then Tm.fp most d (n+Tm.gI most d l[k]) (l.drop (k+1)) else n:=by
 rw[List.drop_eq_getElem_cons h,Tm.fp]
theorem EY {most d n:Nat} {l:List Ty} {k:Nat} (h:k<l.length):nD most d n (l.drop k)=if n≤most then(if Ty.gI most d l[k]≤most then nD most d (n+l[k].size) (l.drop (k+1)) else none) else some n:=by
 rw[List.drop_eq_getElem_cons h,nD]
theorem qD {most d:Nat}:∀{l:List Ty} {n m:Nat},nD most d n l=some m→n≤2*most+1→n≤m∧m≤2*most+1∧(m≤most→m=n+Ty.sizes l)
 | [],n,m,h,hn=>by
  simp only[nD,Option.some.injEq] at h
  subst h
  exact⟨Nat.le_refl _,hn,fun _=>rfl⟩
 |t::l,n,m,h,hn=>by
  rw[nD] at h
  split at h
  ·split at h
   ·rename_i h1 h2
    have bC:=Ty.jt most d t h2
    obtain⟨g1,g2,g3⟩:=qD h (by omega)
    refine⟨by omega,g2,fun hm=>?_⟩
    rw[g3 hm,Ty.sizes];omega
   ·cases h
  ·rename_i h1
   obtain rfl:=Option.some.inj h
   exact⟨Nat.le_refl _,hn,fun hm=>(h1 hm).elim⟩
theorem Tm.qC {most d:Nat} (h:∀t:Tm,Tm.gI most d t≤(d+2)*(most+1)):∀(l:List Tm) (n:Nat),n≤(d+3)*(most+1)→Tm.fp most d n l≤(d+3)*(most+1)
 | [],n,hn=>hn
 |t::l,n,hn=>by
  rw[Tm.fp]
  split
  ·refine Tm.qC h l _ ?_
   have:=h t
   have e:(d+3)*(most+1)=(d+2)*(most+1)+(most+1):=by rw[Nat.add_mul,Nat.add_mul];omega
   omega
  ·exact hn
theorem Tm.vl (most:Nat):∀(d:Nat) (t:Tm),Tm.gI most d t≤(d+2)*(most+1)
 |0,t=>by rw[Tm.gd];omega
 |d+1,t=>by
  rw[Tm.gi]
  split
  ·show most+1≤(d+1+2)*(most+1)
   have:1*(most+1)≤(d+1+2)*(most+1):=Nat.mul_le_mul (by omega) (Nat.le_refl _)
   rw[Nat.one_mul] at this;exact this
  ·rename_i n hn
   refine Tm.qC (Tm.vl most d) _ _ ?_
   have:=(qD hn (by omega)).2.1
   have:2*(most+1)≤(d+3)*(most+1):=Nat.mul_le_mul (by omega) (Nat.le_refl _)
   omega
theorem Tm.jS (most d:Nat):∀(l:List Tm) (n:Nat),n≤Tm.fp most d n l
 | [],n=>Nat.le_refl _
 |t::l,n=>by
  rw[Tm.fp]
  split
  ·exact Nat.le_trans (by omega) (Tm.jS most d l _)
  ·exact Nat.le_refl _
theorem Tm.zA (most:Nat):∀(d:Nat) (t:Tm),1≤Tm.gI most d t
 |0,t=>by rw[Tm.gd];omega
 |d+1,t=>by
  rw[Tm.gi]
  split
  ·show 1≤most+1
   omega
  ·rename_i n hn
   exact Nat.le_trans (qD hn (by omega)).1 (Tm.jS _ _ _ _)
theorem Tm.lh {most d:Nat} (h:∀t:Tm,Tm.gI most d t≤most→t.size=Tm.gI most d t):∀(l:List Tm) (n:Nat),Tm.fp most d n l≤most→Tm.fp most d n l=n+Tm.sizes l
 | [],n,_=>rfl
 |t::l,n,hn=>by
  rw[Tm.fp] at hn ⊢
  split
  ·rename_i hc
   rw[if_pos hc] at hn
   rw[Tm.lh h l _ hn]
   have:=Tm.jS most d l (n+Tm.gI most d t)
   rw[Tm.sizes,h t (by omega)];omega
  ·rename_i hc
   rw[if_neg hc] at hn;omega
theorem Tm.jt (most:Nat):∀(d:Nat) (t:Tm),Tm.gI most d t≤most→t.size=Tm.gI most d t
 |0,t,h=>by rw[Tm.gd] at h;omega
 |d+1,t,h=>by
  rw[Tm.gi] at h ⊢
  split
  ·rename_i hn
   rw[hn] at h;simp only at h;omega
  ·rename_i n hn
   rw[hn] at h
   simp only at h
   have h1:=Tm.jS most d t.args n
   rw[Tm.lh (Tm.jt most d) _ _ h,t.size_eq,(qD hn (by omega)).2.2 (by omega)]
theorem CK {most:Nat} (sv:most≤1000):∀(d:Nat) (t:Tm),d≤900→ag Tryz.prog 34 [t.enc,nI most,nI d] (nI (Tm.gI most d t:Nat)):=by
 intro d
 induction d with
 |zero=>
  intro t _
  rw[Tm.aP,Tm.gd]
  refine Gr (ai.pos (by decide) ?_)
  rw[aD (by omega)]
 |succ d ih=>
  intro t hd
  rw[Tm.aP,Tm.gi]
  have hbd:(d+3)*(most+1)≤1002001:=Rm (d:=d+2) (m:=most) (by omega) sv
  have h2:2*(most+1)≤(d+3)*(most+1):=Nat.mul_le_mul (by omega) (Nat.le_refl _)
  have args:∀n:Nat,1≤n→n≤2*most+1→vc (((most:Int),((d+1:Nat):Int),(),(n:Int),0,()),((t.binds.map Ty.enc,t.kind,t.index,t.args.map Tm.enc,()),())) (fun x=>x=nI (Tm.fp most d n t.args:Nat)):=by
   intro n Tt hn2
   refine ax.intro (fun p:Nat×Nat=>(((most:Int),((d+1:Nat):Int),(),(p.2:Int),(p.1:Int),()),((t.binds.map Ty.enc,t.kind,t.index,t.args.map Tm.enc,()),())))
    (fun p=>p.1≤t.args.length∧p.1+1≤p.2∧p.2≤(d+3)*(most+1)∧Tm.fp most d n t.args=Tm.fp most d p.2 (t.args.drop p.1)) (fun p=>t.args.length-p.1) (0,n) rfl
    ⟨Nat.zero_le _,by dsimp only;omega,by dsimp only;omega,rfl⟩ ?_
   intro ⟨k,m⟩ ⟨hk,WL,xU,hs⟩ again bJ
   dsimp only at hk WL xU hs ⊢
   rw[List.length_map]
   refine ai.intro (fun h=>?_) fun h=>?_
   ·have ak:k<t.args.length:=by simpa using h
    rw[Tm.rE ak] at hs
    refine ai.intro (fun h=>?_) fun h=>?_
    ·have hm:m≤most:=by simpa using h
     rw[if_pos hm] at hs
     have hi:=ih t.args[k] (by omega)
     have hb:=Tm.vl most d t.args[k]
     have hp:=Tm.zA most d t.args[k]
     rw[Tm.aP] at hi
     refine⟨by omega,by omega,_,_,_,_,Tm.aq ak,(Tm.gI most d t.args[k]:Nat),?_,?_⟩
     ·rw[eu (n:=((d+1:Nat):Int)-1) (by omega) (by omega),show ((d+1:Nat):Int)-1=(d:Int) from by omega]
      exact hi
     ·have e:(d+3)*(most+1)=(d+2)*(most+1)+(most+1):=by rw[Nat.add_mul,Nat.add_mul];omega
      rw[aD (by omega),eu (n:=(m:Int)+(Tm.gI most d t.args[k]:Nat)) (by omega) (by omega),show (m:Int)+(Tm.gI most d t.args[k]:Nat)=((m+Tm.gI most d t.args[k]:Nat):Int) from by omega]
      exact bJ (k+1,m+Tm.gI most d t.args[k]) ⟨by dsimp only;omega,by dsimp only;omega,by dsimp only;omega,hs⟩ (by dsimp only;omega)
    ·have hm:¬m≤most:=by simpa using h
     rw[if_neg hm] at hs
     rw[hs]
   ·have:t.args.length≤k:=by simpa using h
    rw[List.drop_eq_nil_of_le this] at hs
    rw[hs];rfl
  refine Gr (ai.neg (decide_eq_false (by omega)) ?_)
  refine ax.intro (fun p:Nat×Nat=>(((most:Int),((d+1:Nat):Int),(),(p.2:Int),(p.1:Int),()),((t.binds.map Ty.enc,t.kind,t.index,t.args.map Tm.enc,()),())))
   (fun p=>p.1≤t.binds.length∧p.1+1≤p.2∧p.2≤2*most+1∧nD most (d+1) 1 t.binds=nD most (d+1) p.2 (t.binds.drop p.1)) (fun p=>t.binds.length-p.1) (0,1) rfl
   ⟨Nat.zero_le _,Nat.le_refl _,by dsimp only;omega,rfl⟩ ?_
  intro ⟨k,n⟩ ⟨hk,WL,hn,hs⟩ again bJ
  dsimp only at hk WL hn hs ⊢
  rw[List.length_map]
  refine ai.intro (fun h=>?_) fun h=>?_
  ·have ak:k<t.binds.length:=by simpa using h
   rw[EY ak] at hs
   refine ai.intro (fun h=>?_) fun h=>?_
   ·have hm:n≤most:=by simpa using h
    rw[if_pos hm] at hs
    have hi:=sw (most:=most) (d:=d+1) (t:=t.binds[k]) sv (by omega)
    rw[Ty.aP] at hi
    refine⟨by omega,by omega,_,_,Ty.aq ak,_,hi,ai.intro (fun h=>?_) fun h=>?_⟩
    ·have hf:¬Ty.gI most (d+1) t.binds[k]≤most:=by simpa [Ty.ie] using h
     rw[if_neg hf] at hs
     rw[hs,aD (by omega)]
    ·have hf:Ty.gI most (d+1) t.binds[k]≤most:=by simpa [Ty.ie] using h
     rw[if_pos hf] at hs
     have bC:=Ty.jt most (d+1) _ hf
     have hz:=zB _ t.binds[k] (Nat.le_refl _) (by omega)
     have hp:=t.binds[k].size_pos
     rw[Ty.aP] at hz
     refine⟨by omega,by omega,_,_,Ty.aq ak,_,hz,?_⟩
     rw[aD (by omega),eu (n:=(n:Int)+(t.binds[k].size:Nat)) (by omega) (by omega),show (n:Int)+(t.binds[k].size:Nat)=((n+t.binds[k].size:Nat):Int) from by omega]
     exact bJ (k+1,n+t.binds[k].size) ⟨by dsimp only;omega,by dsimp only;omega,by dsimp only;omega,hs⟩ (by dsimp only;omega)
   ·have hm:¬n≤most:=by simpa using h
    rw[if_neg hm] at hs
    rw[hs]
    exact args n (by omega) (by omega)
  ·have:t.binds.length≤k:=by simpa using h
   rw[List.drop_eq_nil_of_le this] at hs
   rw[hs]
   exact args n (by omega) (by omega)
def Tm.ie (most d:Nat) (t:Tm):Bool:=decide (Tm.gI most d t≤most)
theorem Tm.fH {most d:Nat} {t:Tm} (h:Tm.ie most d t=true):t.size≤most:=by
 have h':Tm.gI most d t≤most:=by simpa [Tm.ie] using h
 rw[Tm.jt most d t h'];exact h'
theorem nE {most d:Nat} {t:Tm} (sv:most≤1000) (hd:d≤900):ag Tryz.prog 8 [t.enc,nI most,nI d] (nB (Tm.ie most d t)):=by
 have h:=CK sv d t hd
 rw[Tm.aP] at h ⊢
 refine SM ⟨_,h,?_⟩
 simp only[Tm.ie,Int.ofNat_le]
theorem HT {l:List Tm} (hl:l.length≤1000000000):ag Tryz.prog 32 [.sl (l.map Tm.enc)] (nB (l.all (Tm.ie 150 70))):=by
 refine Oz ?_
 unfold V2
 refine ax.intro (fun k:Nat=>((l.map Tm.enc,(k:Int),()),())) (fun k=>k≤l.length∧l.all (Tm.ie 150 70)=(l.drop k).all (Tm.ie 150 70)) (fun k=>l.length-k) 0 rfl ⟨Nat.zero_le _,rfl⟩ ?_
 intro k ⟨hk,hs⟩ again bJ
 dsimp only
 rw[List.length_map]
 refine ai.intro (fun h=>?_) fun h=>?_
 ·have ak:k<l.length:=by simpa using h
  rw[List.drop_eq_getElem_cons ak,List.all_cons] at hs
  have hi:=nE (most:=150) (d:=70) (t:=l[k]) (by decide) (by decide)
  rw[Tm.aP] at hi
  refine⟨by omega,by omega,_,_,_,_,Tm.aq ak,_,hi,ai.intro (fun h=>?_) fun h=>?_⟩
  ·have:Tm.ie 150 70 l[k]=false:=by simpa using h
   rw[hs,this,Bool.false_and]
  ·have:Tm.ie 150 70 l[k]=true:=by simpa using h
   rw[this,Bool.true_and] at hs
   rw[aD (by omega)]
   exact bJ (k+1) ⟨by omega,hs⟩ (by omega)
 ·have:l.length≤k:=by simpa using h
  rw[List.drop_eq_nil_of_le this] at hs
  rw[hs];rfl
mutual
def Tm.low:Tm→Bool
 | .mk _ k i a=>!(k==0&&decide (i>900000))&&Tm.nF a
def Tm.nF:List Tm→Bool
 | []=>true
 |t::l=>Tm.low t&&Tm.nF l
end
theorem Tm.Ta (t:Tm):Tm.low t=(!(t.kind==0&&decide (t.index>900000))&&Tm.nF t.args):=by cases t;rfl
theorem Tm.HU {l:List Tm} {k:Nat} (h:k<l.length):Tm.nF (l.drop k)=(Tm.low l[k]&&Tm.nF (l.drop (k+1))):=by
 rw[List.drop_eq_getElem_cons h,Tm.nF]
theorem HV:∀(n:Nat) (l:List Tm),Tm.sizes l≤n→n≤1000000000→ag Tryz.prog 33 [.sl (l.map Tm.enc)] (nB (Tm.nF l)):=by
 intro n
 induction n with
 |zero=>
  intro l h hn
  cases l with
  |nil=>
   refine Gs ?_
   unfold SN
   refine ax.intro (fun _:Unit=>(([],0,()),())) (fun _=>True) (fun _=>0) () rfl True.intro ?_
   intro _ _ again bJ
   exact ai.neg rfl rfl
  |cons t l=>have:=t.size_pos;simp[Tm.sizes] at h;omega
 |succ n ih=>
  intro l h hn
  have hq:=Tm.aF l
  refine Gs ?_
  unfold SN
  refine ax.intro (fun k:Nat=>((l.map Tm.enc,(k:Int),()),())) (fun k=>k≤l.length∧Tm.nF l=Tm.nF (l.drop k)) (fun k=>l.length-k) 0 rfl ⟨Nat.zero_le _,rfl⟩ ?_
  intro k ⟨hk,hs⟩ again bJ
  dsimp only
  rw[List.length_map]
  refine ai.intro (fun h'=>?_) fun h'=>?_
  ·have ak:k<l.length:=by simpa using h'
   rw[Tm.HU ak,Tm.Ta] at hs
   have bC:=Tm.bg (List.getElem_mem ak)
   have hi:=ih l[k].args (by have:=l[k].size_eq;omega) (by omega)
   have rest:(l[k].kind==0&&decide (l[k].index>900000))=false→ai (!(Tm.nF l[k].args)) (nB false=nB (Tm.nF l)) (again ((l.map Tm.enc,IntKind.wrap .i64 ((k:Int)+1),()),())):=by
    intro hc
    rw[hc,Bool.not_false,Bool.true_and] at hs
    refine ai.intro (fun h=>?_) fun h=>?_
    ·have:Tm.nF l[k].args=false:=by simpa using h
     rw[hs,this,Bool.false_and]
    ·have:Tm.nF l[k].args=true:=by simpa using h
     rw[this,Bool.true_and] at hs
     rw[aD (by omega)]
     exact bJ (k+1) ⟨by omega,hs⟩ (by omega)
   refine⟨by omega,by omega,_,_,_,_,Tm.aq ak,ai.intro (fun h=>?_) fun h=>?_⟩
   ·refine⟨by omega,by omega,_,_,_,_,Tm.aq ak,ai.intro (fun h2=>?_) fun h2=>?_⟩
    ·rw[h,h2] at hs
     rw[hs];rfl
    ·exact⟨by omega,by omega,_,_,_,_,Tm.aq ak,_,hi,rest (by rw[h,h2];rfl)⟩
   ·exact⟨by omega,by omega,_,_,_,_,Tm.aq ak,_,hi,rest (by rw[h];rfl)⟩
  ·have:l.length≤k:=by simpa using h'
   rw[List.drop_eq_nil_of_le this] at hs
   rw[hs];rfl
def kb (c m b:List Ty):Bool:=decide (c.length≤20∧m.length≤20∧b.length≤20)&&(c++m++b).all (Ty.ie 60 60)
theorem CL (n:Int) (c m b:List Ty):ag Tryz.prog 22 [.agg [nI n,.sl (c.map Ty.enc),.sl (m.map Ty.enc)],.sl (b.map Ty.enc)] (nB (kb c m b)):=by
 refine OC ?_
 unfold V3
 rw[List.length_map,List.length_map,List.length_map]
 refine ai.intro (fun h=>?_) fun h=>?_
 ·have h':¬c.length≤20:=by simp at h;omega
  rw[kb,decide_eq_false (fun x=>h' x.1),Bool.false_and]
 have hc:c.length≤20:=by simp at h;omega
 refine ai.intro (fun h=>?_) fun h=>?_
 ·have h':¬m.length≤20:=by simp at h;omega
  rw[kb,decide_eq_false (fun x=>h' x.2.1),Bool.false_and]
 have hm:m.length≤20:=by simp at h;omega
 refine ai.intro (fun h=>?_) fun h=>?_
 ·have h':¬b.length≤20:=by simp at h;omega
  rw[kb,decide_eq_false (fun x=>h' x.2.2),Bool.false_and]
 have hb:b.length≤20:=by simp at h;omega
 have X4:kb c m b=(c++m++b).all (Ty.ie 60 60):=by rw[kb,decide_eq_true ⟨hc,hm,hb⟩,Bool.true_and]
 refine⟨_,qA (by omega) (by omega),_,qA (by simp;omega) (by omega),?_⟩
 have hlen:(c++m++b).length≤60:=by simp;omega
 rw[X4]
 generalize c++m++b=l at hlen
 refine ax.intro (fun k:Nat=>((l.map Ty.enc,(k:Int),()),((n,c.map Ty.enc,m.map Ty.enc,()),()))) (fun k=>k≤l.length∧l.all (Ty.ie 60 60)=(l.drop k).all (Ty.ie 60 60)) (fun k=>l.length-k) 0 rfl ⟨Nat.zero_le _,rfl⟩ ?_
 intro k ⟨hk,hs⟩ again bJ
 dsimp only
 rw[List.length_map]
 refine ai.intro (fun h=>?_) fun h=>?_
 ·have ak:k<l.length:=by simpa using h
  rw[List.drop_eq_getElem_cons ak,List.all_cons] at hs
  have hi:=sw (most:=60) (d:=60) (t:=l[k]) (by decide) (by decide)
  rw[Ty.aP] at hi
  refine⟨by omega,by omega,_,_,Ty.aq ak,_,hi,ai.intro (fun h=>?_) fun h=>?_⟩
  ·have:Ty.ie 60 60 l[k]=false:=by simpa using h
   rw[hs,this,Bool.false_and]
  ·have:Ty.ie 60 60 l[k]=true:=by simpa using h
   rw[this,Bool.true_and] at hs
   rw[aD (by omega)]
   exact bJ (k+1) ⟨by omega,hs⟩ (by omega)
 ·have:l.length≤k:=by simpa using h
  rw[List.drop_eq_nil_of_le this] at hs
  rw[hs];rfl
inductive Rw where
 |mk (kind:Int) (type:Ty) (index:Int) (kids:List Rw)
mutual
def Rw.size:Rw→Nat
 | .mk _ _ _ l=>1+Rw.sizes l
def Rw.sizes:List Rw→Nat
 | []=>0
 |t::l=>Rw.size t+Rw.sizes l
end
def Rw.kids:Rw→List Rw | .mk _ _ _ l=>l
theorem Rw.size_eq (r:Rw):r.size=1+Rw.sizes r.kids:=by cases r;rfl
mutual
def Ty.pre (d:Nat):Ty→List (Nat×Ty)
 | .mk l b=>(d,.mk l b)::Ty.gj (d+1) l
def Ty.gj (d:Nat):List Ty→List (Nat×Ty)
 | []=>[]
 |t::l=>Ty.pre d t++Ty.gj d l
end
theorem Ty.EZ (d:Nat) (t:Ty):t.pre d=(d,t)::Ty.gj (d+1) t.args:=by cases t;rfl
theorem Ty.rF {d:Nat} {l:List Ty} {k:Nat} (h:k<l.length):Ty.gj d (l.drop k)=l[k].pre d++Ty.gj d (l.drop (k+1)):=by
 rw[List.drop_eq_getElem_cons h,Ty.gj]
mutual
theorem Ty.oa:∀(d:Nat) (t:Ty),(t.pre d).length=t.size
 |d,.mk l b=>by rw[Ty.pre,List.length_cons,Ty.nG (d+1) l,Ty.size];omega
theorem Ty.nG:∀(d:Nat) (l:List Ty),(Ty.gj d l).length=Ty.sizes l
 |d,[]=>rfl
 |d,t::l=>by rw[Ty.gj,List.length_append,Ty.oa d t,Ty.nG d l,Ty.sizes]
end
def Mj (p:Nat×Ty):List AV:=[nI p.1,.agg [.sl (p.2.args.map Ty.enc),nI p.2.base]]
def Qa (p:Nat×Ty):Int×(List AV×Int×Unit)×Unit:=(p.1,(p.2.args.map Ty.enc,p.2.base,()),())
theorem CM:∀(n:Nat) (t:Ty) (d:Nat),t.size≤n→d+n≤1000000000→wu Tryz.prog 197 (fun v=>[.agg [.sl (t.args.map Ty.enc),nI t.base],nI d,v]) ((t.pre d).map Mj) true:=by
 intro n
 induction n with
 |zero=>intro t d h;have:=t.size_pos;omega
 |succ n ih=>
  intro t d h hn
  have hq:=Ty.aF t.args
  have tR:=t.size_eq
  refine K2 fun yv more=>⟨rfl,(Ty.gj (d+1) t.args).map Mj++more,by rw[Ty.EZ];rfl,fun b=>ai.intro (fun h=>?_) fun h=>?_⟩
  ·have:b=false:=by simpa using h
   subst this;rfl
  ·have:b=true:=by simpa using h
   subst this
   refine ax.intro (fun k:Nat=>((((d:Int),yv,t.args.map Ty.enc,(t.args.length:Int),(k:Int),()),((t.args.map Ty.enc,t.base,()),())),some ((Ty.gj (d+1) (t.args.drop k)).map Mj++more))) (fun k=>k≤t.args.length) (fun k=>t.args.length-k) 0 (by rw[List.length_map];rfl) (Nat.zero_le _) ?_
   intro k hk again bJ
   dsimp only
   rw[List.length_map]
   refine ai.intro (fun h=>?_) fun h=>?_
   ·have ak:k<t.args.length:=by simpa using h
    have hi:=ih t.args[k] (d+1) (by have:=Ty.cr ak;omega) (by omega)
    refine⟨by omega,by omega,_,_,Ty.aq ak,_,_,(Ty.gj (d+1) (t.args.drop (k+1))).map Mj++more,?_,hi,?_,fun b=>ai.intro (fun h=>?_) fun h=>?_⟩
    ·rw[aD (by omega)]
    ·rw[Ty.rF ak,List.map_append,List.append_assoc]
    ·have:b=false:=by simpa using h
     subst this;rfl
    ·have:b=true:=by simpa using h
     subst this
     rw[aD (by omega)]
     exact bJ (k+1) (by omega) (by omega)
   ·have:t.args.length≤k:=by simpa using h
    rw[List.drop_eq_nil_of_le this];rfl
theorem zC {t:Ty} (h:t.size≤500000000):wu Tryz.prog 196 (fun v=>[v,.aL (.agg [.sl (t.args.map Ty.enc),nI t.base]) 0]) ((t.pre 1).map Mj) false:=
 K0 fun yv more=>⟨_,_,more,rfl,CM _ t 1 (Nat.le_refl _) (by omega),rfl,fun b=>⟨b,rfl⟩⟩
theorem CN (t:Ty):ag Tryz.prog 177 [.agg [.sl (t.args.map Ty.enc),nI t.base]] (.aK 196 [.aL (.agg [.sl (t.args.map Ty.enc),nI t.base]) 0]):=K6 rfl
theorem HW {t:Ty} (h:t.size≤500000000):sa Tryz.prog 196 [.aL (.agg [.sl (t.args.map Ty.enc),nI t.base]) 0] [.v (.c (.i .i64)),.v (.a [.l,.i .i64])] ((t.pre 1).map Qa):=
 BW (prm:=[.v (.c (.i .i64)),.v (.a [.l,.i .i64])]) Qa (zC h)
def xv (eM:Int) (p:Nat×Ty):Bool:=decide (p.1≤60)&&(decide (0≤p.2.base)&&decide (p.2.base<eM))
def vm (eM:Int):Nat→List (Nat×Ty)→Bool
 |_,[]=>true
 |n,p::l=>if p.1>60∨n+1>1000∨p.2.base<0∨p.2.base≥eM then false else vm eM (n+1) l
theorem CO (eM:Int):∀(l:List (Nat×Ty)) (n:Nat),n≤1000→vm eM n l=(decide (n+l.length≤1000)&&l.all (xv eM))
 | [],n,hn=>by simp[vm,hn]
 |p::l,n,hn=>by
  rw[vm]
  split
  ·rename_i hc
   symm
   rw[Bool.and_eq_false_iff]
   by_cases h1:n+1>1000
   ·left;rw[decide_eq_false];rw[List.length_cons];omega
   ·right
    rw[List.all_cons]
    have:xv eM p=false:=by
     unfold xv
     rw[Bool.and_eq_false_iff,Bool.and_eq_false_iff]
     rcases hc with hc|hc|hc|hc
     ·left;exact decide_eq_false (by omega)
     ·omega
     ·right;left;exact decide_eq_false (by omega)
     ·right;right;exact decide_eq_false (by omega)
    rw[this,Bool.false_and]
  ·rename_i hc
   simp only[not_or] at hc
   obtain⟨h1,h2,h3,h4⟩:=hc
   have hg:xv eM p=true:=by
    unfold xv
    rw[decide_eq_true (by omega),decide_eq_true (by omega),decide_eq_true (by omega)];rfl
   rw[CO eM l (n+1) (by omega),List.all_cons,hg,Bool.true_and,List.length_cons,show n+1+l.length=n+(l.length+1) from by omega]
def Ty.dY (eM:Int) (t:Ty):Bool:=decide (t.size≤1000)&&(t.pre 1).all (xv eM)
theorem zD {t:Ty} {eM:Int} (h:t.size≤500000000):ag Tryz.prog 143 [.agg [.sl (t.args.map Ty.enc),nI t.base],nI eM] (nB (t.dY eM)):=by
 refine K8 ⟨CN t,?_⟩
 have hr:t.dY eM=vm eM 0 (t.pre 1):=by rw[CO eM _ 0 (by omega),Ty.oa,Ty.dY,Nat.zero_add]
 refine lS.ED (fun n:Nat=>((t.args.map Ty.enc,t.base,()),(eM,()),(false,()),((n:Int),()),())) Qa (t.pre 1) (HW h) (fun r n=>n+r.length=t.size∧t.dY eM=vm eM n r) 0 rfl ⟨by rw[Ty.oa];omega,hr⟩ (fun p r n ⟨hI,hk⟩ again bJ=>?_) fun n ⟨hI,hk⟩=>?_
 ·rw[List.length_cons] at hI
  rw[vm] at hk
  dsimp only[Qa]
  rw[aD (by omega)]
  refine ai.intro (fun h1=>?_) fun h1=>ai.intro (fun h2=>?_) fun h2=>ai.intro (fun h3=>?_) fun h3=>ai.intro (fun h4=>?_) fun h4=>?_
  ·have:p.1>60:=by simp at h1;omega
   rw[if_pos (.inl this)] at hk;rw[hk]
  ·have:n+1>1000:=by simp at h2;omega
   rw[if_pos (.inr (.inl this))] at hk;rw[hk]
  ·have:p.2.base<0:=of_decide_eq_true h3
   rw[if_pos (.inr (.inr (.inl this)))] at hk;rw[hk]
  ·have:p.2.base≥eM:=by simpa using h4
   rw[if_pos (.inr (.inr (.inr this)))] at hk;rw[hk]
  ·have g1:¬p.1>60:=by simp at h1;omega
   have g2:¬n+1>1000:=by simp at h2;omega
   have g3:¬p.2.base<0:=of_decide_eq_false h3
   have g4:¬p.2.base≥eM:=by simpa using h4
   rw[if_neg (by simp only[not_or];exact⟨g1,g2,g3,g4⟩)] at hk
   exact bJ (n+1) ⟨by omega,hk⟩
 ·rw[hk];rfl
def kc (c m x:List Ty) (k i:Int):Option Ty:=
 if i<0 then none else if k=0 then(if i<x.length then x[x.length-1-i.toNat]? else none) else if k=1 then c[i.toNat]? else if k=2 then m[i.toNat]? else none
def WM:Option Ty→AV
 |some t=>.aX [.agg [.sl (t.args.map Ty.enc),nI t.base],nB true]
 |none=>.aX [.agg [.sl [],nI 0],nB false]
theorem pn {l:List Ty} {n:Nat} (h:n<l.length):List.getD (l.map Ty.enc) n .top=.agg [.sl (l[n].args.map Ty.enc),nI l[n].base]:=by
 have:=Ty.aq h
 simpa using this
theorem nH {b:Int} {c m x:List Ty} {k i:Int} (hi:lx i) (hx:x.length≤1000000000):ag Tryz.prog 145 [.agg [nI b,.sl (c.map Ty.enc),.sl (m.map Ty.enc)],.sl (x.map Ty.enc),.agg [nI k,nI i]] (WM (kc c m x k i)):=by
 unfold lx at hi
 refine Lb ?_
 unfold Rg kc
 simp only[List.length_map]
 refine ai.intro (fun h1=>?_) fun h1=>?_
 ·have e1:k=1:=by simpa using h1
  refine ai.intro (fun h=>?_) fun h2=>ai.intro (fun h=>?_) fun h3=>?_
  ·have:i<0:=by simpa using h
   rw[if_pos this];rfl
  ·have Ng:¬i<0:=by simpa using h2
   have Tw:(c.length:Int)≤i:=by simpa using h
   rw[if_neg Ng,if_neg (by omega),if_pos e1,List.getElem?_eq_none (by omega)];rfl
  ·have Ng:¬i<0:=by simpa using h2
   have Tw:i<(c.length:Int):=by simpa using h3
   have ak:i.toNat<c.length:=by omega
   refine⟨by omega,by omega,_,_,pn ak,?_⟩
   rw[if_neg Ng,if_neg (by omega),if_pos e1,List.getElem?_eq_getElem ak];rfl
 have n1:¬k=1:=by simpa using h1
 refine ai.intro (fun h4=>?_) fun h4=>?_
 ·have e2:k=2:=by simpa using h4
  refine ai.intro (fun h=>?_) fun h2=>ai.intro (fun h=>?_) fun h3=>?_
  ·have:i<0:=by simpa using h
   rw[if_pos this];rfl
  ·have Ng:¬i<0:=by simpa using h2
   have Tw:(m.length:Int)≤i:=by simpa using h
   rw[if_neg Ng,if_neg (by omega),if_neg n1,if_pos e2,List.getElem?_eq_none (by omega)];rfl
  ·have Ng:¬i<0:=by simpa using h2
   have Tw:i<(m.length:Int):=by simpa using h3
   have ak:i.toNat<m.length:=by omega
   refine⟨by omega,by omega,_,_,pn ak,?_⟩
   rw[if_neg Ng,if_neg (by omega),if_neg n1,if_pos e2,List.getElem?_eq_getElem ak];rfl
 have n2:¬k=2:=by simpa using h4
 refine ai.intro (fun h5=>?_) fun h5=>?_
 ·have e0:k=0:=by simpa using h5
  refine ai.intro (fun h=>?_) fun h2=>?_
  ·have:i<0:=by simpa using h
   rw[if_pos this];rfl
  have Ng:¬i<0:=by simpa using h2
  rw[eu (n:=(x.length:Int)-1) (by omega) (by omega),eu (by omega) (by omega)]
  refine ai.intro (fun h=>?_) fun h3=>ai.intro (fun h=>?_) fun h6=>?_
  ·have Tw:(x.length:Int)-1-i<0:=by simpa using h
   rw[if_neg Ng,if_pos e0,if_neg (by omega)];rfl
  ·have Tw:(x.length:Int)-1-i≥x.length:=by simpa using h
   omega
  ·have Tw:¬(x.length:Int)-1-i<0:=by simpa using h3
   have ak:x.length-1-i.toNat<x.length:=by omega
   refine⟨by omega,by omega,_,_,by rw[show Int.toNat ((x.length:Int)-1-i)=x.length-1-i.toNat from by omega];exact pn ak,?_⟩
   rw[if_neg Ng,if_pos e0,if_pos (by omega),List.getElem?_eq_getElem ak];rfl
 ·have n0:¬k=0:=by simpa using h5
  rw[if_neg n0,if_neg n1,if_neg n2]
  split<;>rfl
theorem E0 {c m x:List Ty} {k i:Int} {t:Ty} (h:kc c m x k i=some t):t∈x∨t∈c∨t∈m:=by
 unfold kc at h
 split at h
 ·cases h
 split at h
 ·split at h
  ·exact .inl (List.mem_of_getElem? h)
  ·cases h
 split at h
 ·exact .inr (.inl (List.mem_of_getElem? h))
 split at h
 ·exact .inr (.inr (List.mem_of_getElem? h))
 ·cases h
abbrev noT:Ty:=.mk [] 0
def WN (p:Ty×Int):AV:=.aX [.agg [.sl (p.1.args.map Ty.enc),nI p.1.base],nI p.2]
theorem qE {x l:List Ty} (h:x.length+l.length≤1000000000):ag Tryz.prog 146 [.sl (x.map Ty.enc),.sl (l.map Ty.enc)] (.sl ((x++l).map Ty.enc)):=by
 have hc:=iM (ll:=[x,l]) (by simp) (by simp;omega)
 simp only[eG,List.map_cons,List.map_nil,List.flatten_cons,List.flatten_nil,List.append_nil] at hc
 exact Lc ⟨_,hc,rfl⟩
theorem lZ {b:Int} {l:List Ty} (h:Ty.sizes l≤500000000):ag Tryz.prog 35 [nI b,.sl (l.map Ty.enc)] (.agg [.sl (l.map Ty.enc),nI b]):=by
 have hc:=lW _ (.mk l b) (Nat.le_refl _) (by simp only[Ty.size];omega)
 rw[Ty.iz] at hc
 exact Gt ⟨_,_,hc,rfl⟩
def Tm.Tb (c m x:List Ty) (t:Tm):Ty×Int:=match kc c m (x++t.binds) t.kind t.index with
 |some h=>(.mk t.binds h.base,0)
 |none=>(noT,10)
theorem zE {b:Int} {c m x:List Ty} {t:Tm} (ao:t.Ok) (hx:x.length+t.size≤500000000):ag Tryz.prog 93 [.agg [nI b,.sl (c.map Ty.enc),.sl (m.map Ty.enc)],.sl (x.map Ty.enc),.agg [.sl (t.binds.map Ty.enc),nI t.kind,nI t.index,.sl (t.args.map Tm.enc)]] (WN (t.Tb c m x)):=by
 have tR:=t.size_eq
 have hq:=Ty.aF t.binds
 have hi:lx t.index:=by cases t;exact ao.2.1
 have hh:=nH (b:=b) (c:=c) (m:=m) (x:=x++t.binds) (k:=t.kind) hi (by rw[List.length_append];omega)
 refine OJ ⟨_,qE (by omega),?_⟩
 rw[Tm.Tb]
 cases ht:kc c m (x++t.binds) t.kind t.index with
 |none=>
  rw[ht] at hh
  exact⟨_,_,_,hh,ai.pos rfl rfl⟩
 |some u=>
  rw[ht] at hh
  exact⟨_,_,_,hh,ai.neg rfl ⟨_,_,lZ (by omega),rfl⟩⟩
mutual
def Tm.HX (c m x:List Ty):Tm→Ty→Bool
 | .mk b k i l,of=>Ty.bq b of.args&&(match kc c m (x++b) k i with
  |some h=>(h.base==of.base)&&((h.args.length==l.length)&&Tm.CP c m (x++b) l h.args)
  |none=>false)
def Tm.CP (c m x:List Ty):List Tm→List Ty→Bool
 |t::l,u::us=>Tm.HX c m x t u&&Tm.CP c m x l us
 |_,_=>true
end
theorem Tm.Tc (c m x:List Ty) (t:Tm) (of:Ty):t.HX c m x of=(Ty.bq t.binds of.args&&(match kc c m (x++t.binds) t.kind t.index with
  |some h=>(h.base==of.base)&&((h.args.length==t.args.length)&&Tm.CP c m (x++t.binds) t.args h.args)
  |none=>false)):=by cases t;rw[Tm.HX];rfl
theorem Tm.HY {c m x:List Ty} {l:List Tm} {us:List Ty} {k:Nat} (h1:k<l.length) (h2:k<us.length):Tm.CP c m x (l.drop k) (us.drop k)=(Tm.HX c m x l[k] us[k]&&Tm.CP c m x (l.drop (k+1)) (us.drop (k+1))):=by
 rw[List.drop_eq_getElem_cons h1,List.drop_eq_getElem_cons h2,Tm.CP]
theorem Mk {b:Int} {c m:List Ty} (hc:∀t∈c,t.size≤200000000) (hm:∀t∈m,t.size≤200000000):∀(n:Nat) (t:Tm) (of:Ty) (x:List Ty),t.size≤n→t.Ok→(∀u∈x,u.size≤200000000)→x.length+t.size≤200000000→of.size≤200000000→
  ag Tryz.prog 147 [.agg [nI b,.sl (c.map Ty.enc),.sl (m.map Ty.enc)],.sl (x.map Ty.enc),.agg [.sl (t.binds.map Ty.enc),nI t.kind,nI t.index,.sl (t.args.map Tm.enc)],.agg [.sl (of.args.map Ty.enc),nI of.base]] (nB (t.HX c m x of)):=by
 intro n
 induction n with
 |zero=>intro t of x h;have:=t.size_pos;omega
 |succ n ih=>
  intro t of x h ao hx hn Td
  have tR:=t.size_eq
  have hq:=Ty.aF t.binds
  have Rh:=Tm.aF t.args
  have hi:lx t.index:=by cases t;exact ao.2.1
  have Un:Tm.S7 t.args:=by cases t;exact ao.2.2
  have heq:=iL (l:=t.binds) (m:=of.args) (by omega) (fun k h1 h2=>nC _ _ _ (Nat.le_refl _) (by have:=Ty.bg (List.getElem_mem h1);omega))
  have hx2:∀u∈x++t.binds,u.size≤200000000:=fun u hu=>by
   rcases List.mem_append.1 hu with hu|hu
   ·exact hx u hu
   ·have:=Ty.bg hu;omega
  have hh:=nH (b:=b) (c:=c) (m:=m) (x:=x++t.binds) (k:=t.kind) hi (by rw[List.length_append];omega)
  have bC:∀u,kc c m (x++t.binds) t.kind t.index=some u→u.size≤200000000:=fun u hu=>by
   rcases E0 hu with hu|hu|hu
   ·exact hx2 u hu
   ·exact hc u hu
   ·exact hm u hu
  have Ml:=Tm.Tc c m x t of
  refine Le ⟨_,heq,ai.intro (fun h=>?_) fun h=>?_⟩
  ·have h0:Ty.bq t.binds of.args=false:=by simpa using h
   rw[Ml,h0,Bool.false_and]
  have h0:Ty.bq t.binds of.args=true:=by simpa using h
  rw[h0,Bool.true_and] at Ml
  refine⟨_,qE (by omega),?_⟩
  cases ht:kc c m (x++t.binds) t.kind t.index with
  |none=>
   rw[ht] at hh Ml
   exact⟨_,_,_,hh,ai.pos rfl (by rw[Ml])⟩
  |some u=>
   rw[ht] at hh Ml
   dsimp only at Ml
   have hu:=bC u ht
   have TP:=u.size_eq
   have XR:=Ty.aF u.args
   refine⟨_,_,_,hh,ai.neg rfl (ai.intro (fun h=>?_) fun h=>?_)⟩
   ·have:(u.base==of.base)=false:=by simpa using h
    rw[Ml,this,Bool.false_and]
   have h1:(u.base==of.base)=true:=by simpa using h
   rw[h1,Bool.true_and] at Ml
   rw[List.length_map,List.length_map]
   refine ai.intro (fun h=>?_) fun h=>?_
   ·have:¬u.args.length=t.args.length:=by simp at h;omega
    rw[Ml,show (u.args.length==t.args.length)=false from by simpa using this,Bool.false_and]
   have h2:u.args.length=t.args.length:=by simp at h;omega
   rw[show (u.args.length==t.args.length)=true from by simpa using h2,Bool.true_and] at Ml
   refine ax.intro (fun k:Nat=>(((),(x++t.binds).map Ty.enc,(),t.args.map Tm.enc,(t.args.length:Int),(k:Int),()),((b,c.map Ty.enc,m.map Ty.enc,()),(t.binds.map Ty.enc,t.kind,t.index,t.args.map Tm.enc,()),(of.args.map Ty.enc,of.base,()),(u.args.map Ty.enc,u.base,()),())))
    (fun k=>k≤t.args.length∧t.HX c m x of=Tm.CP c m (x++t.binds) (t.args.drop k) (u.args.drop k)) (fun k=>t.args.length-k) 0 rfl ⟨Nat.zero_le _,Ml⟩ ?_
   intro k ⟨hk,hs⟩ again bJ
   dsimp only
   refine ai.intro (fun h=>?_) fun h=>?_
   ·have ak:k<t.args.length:=by simpa using h
    have hlu:k<u.args.length:=by omega
    rw[Tm.HY ak hlu] at hs
    have jz:=Tm.bg (List.getElem_mem ak)
    have hi:=ih t.args[k] u.args[k] (x++t.binds) (by omega) (Tm.P6 Un (List.getElem_mem ak)) hx2 (by rw[List.length_append];omega) (by have:=Ty.cr hlu;omega)
    refine⟨by omega,by rw[List.length_map];omega,_,_,_,_,Tm.aq ak,by omega,by rw[List.length_map];omega,_,_,Ty.aq hlu,_,hi,ai.intro (fun h=>?_) fun h=>?_⟩
    ·have:Tm.HX c m (x++t.binds) t.args[k] u.args[k]=false:=by simpa using h
     rw[hs,this,Bool.false_and]
    ·have:Tm.HX c m (x++t.binds) t.args[k] u.args[k]=true:=by simpa using h
     rw[this,Bool.true_and] at hs
     rw[aD (by omega)]
     exact bJ (k+1) ⟨by omega,hs⟩ (by omega)
   ·have:t.args.length≤k:=by simpa using h
    rw[List.drop_eq_nil_of_le this,Tm.CP] at hs
    ·rw[hs]
    ·intro _ _ _ _ h;cases h
mutual
def Tm.pre (a d:Nat):Tm→List ((Nat×Nat)×Tm)
 | .mk b k i l=>((a+b.length,d),.mk b k i l)::Tm.gj (a+b.length) (d+1) l
def Tm.gj (a d:Nat):List Tm→List ((Nat×Nat)×Tm)
 | []=>[]
 |t::l=>Tm.pre a d t++Tm.gj a d l
end
theorem Tm.EZ (a d:Nat) (t:Tm):t.pre a d=((a+t.binds.length,d),t)::Tm.gj (a+t.binds.length) (d+1) t.args:=by cases t;rfl
theorem Tm.rF {a d:Nat} {l:List Tm} {k:Nat} (h:k<l.length):Tm.gj a d (l.drop k)=l[k].pre a d++Tm.gj a d (l.drop (k+1)):=by
 rw[List.drop_eq_getElem_cons h,Tm.gj]
def Mm (p:(Nat×Nat)×Tm):List AV:=[.agg [nI p.1.1,nI p.1.2],.agg [.sl (p.2.binds.map Ty.enc),nI p.2.kind,nI p.2.index,.sl (p.2.args.map Tm.enc)]]
def xw (p:(Nat×Nat)×Tm):(Int×Int×Unit)×(List AV×Int×Int×List AV×Unit)×Unit:=((p.1.1,p.1.2,()),(p.2.binds.map Ty.enc,p.2.kind,p.2.index,p.2.args.map Tm.enc,()),())
theorem CQ:∀(n:Nat) (t:Tm) (a d:Nat),t.size≤n→a+t.size≤1000000000→d+t.size≤1000000000→wu Tryz.prog 179 (fun v=>[.agg [.sl (t.binds.map Ty.enc),nI t.kind,nI t.index,.sl (t.args.map Tm.enc)],.agg [nI a,nI d],v]) ((t.pre a d).map Mm) true:=by
 intro n
 induction n with
 |zero=>intro t a d h;have:=t.size_pos;omega
 |succ n ih=>
  intro t a d h ha hd
  have hq:=Tm.aF t.args
  have Rh:=Ty.aF t.binds
  have tR:=t.size_eq
  have hw:IntKind.wrap .i64 ((a:Int)+((List.length (t.binds.map Ty.enc):Nat):Int))=((a+t.binds.length:Nat):Int):=by
   rw[List.length_map,eu (by omega) (by omega)];omega
  refine K5 fun yv more=>?_
  unfold Rf
  rw[hw,aD (by omega)]
  refine⟨rfl,(Tm.gj (a+t.binds.length) (d+1) t.args).map Mm++more,by rw[Tm.EZ];rfl,fun b=>ai.intro (fun h=>?_) fun h=>?_⟩
  ·have:b=false:=by simpa using h
   subst this;rfl
  ·have:b=true:=by simpa using h
   subst this
   refine ax.intro (fun k:Nat=>(((yv,(),t.args.map Tm.enc,(t.args.length:Int),(k:Int),()),((t.binds.map Ty.enc,t.kind,t.index,t.args.map Tm.enc,()),(((a+t.binds.length:Nat):Int),((d+1:Nat):Int),()),())),some ((Tm.gj (a+t.binds.length) (d+1) (t.args.drop k)).map Mm++more))) (fun k=>k≤t.args.length) (fun k=>t.args.length-k) 0 (by rw[List.length_map];rfl) (Nat.zero_le _) ?_
   intro k hk again bJ
   dsimp only
   rw[List.length_map]
   refine ai.intro (fun h=>?_) fun h=>?_
   ·have ak:k<t.args.length:=by simpa using h
    have jz:=Tm.bg (List.getElem_mem ak)
    have hi:=ih t.args[k] (a+t.binds.length) (d+1) (by omega) (by omega) (by omega)
    refine⟨by omega,by omega,_,_,_,_,Tm.aq ak,_,_,(Tm.gj (a+t.binds.length) (d+1) (t.args.drop (k+1))).map Mm++more,rfl,hi,?_,fun b=>ai.intro (fun h=>?_) fun h=>?_⟩
    ·rw[Tm.rF ak,List.map_append,List.append_assoc]
    ·have:b=false:=by simpa using h
     subst this;rfl
    ·have:b=true:=by simpa using h
     subst this
     rw[aD (by omega)]
     exact bJ (k+1) (by omega) (by omega)
   ·have:t.args.length≤k:=by simpa using h
    rw[List.drop_eq_nil_of_le this];rfl
theorem zF {t:Tm} (h:t.size≤500000000):wu Tryz.prog 178 (fun v=>[v,.aL (.agg [.sl (t.binds.map Ty.enc),nI t.kind,nI t.index,.sl (t.args.map Tm.enc)]) 0]) ((t.pre 0 1).map Mm) false:=
 K3 fun yv more=>⟨_,_,more,rfl,CQ _ t 0 1 (Nat.le_refl _) (by omega) (by omega),rfl,fun b=>⟨b,rfl⟩⟩
theorem sx (t:Tm):ag Tryz.prog 144 [.agg [.sl (t.binds.map Ty.enc),nI t.kind,nI t.index,.sl (t.args.map Tm.enc)]] (.aK 178 [.aL (.agg [.sl (t.binds.map Ty.enc),nI t.kind,nI t.index,.sl (t.args.map Tm.enc)]) 0]):=K7 rfl
theorem xx {t:Tm} (h:t.size≤500000000):sa Tryz.prog 178 [.aL (.agg [.sl (t.binds.map Ty.enc),nI t.kind,nI t.index,.sl (t.args.map Tm.enc)]) 0] [.v (.a [.i .i64,.i .i64]),.v (.a [.l,.i .i64,.i .i64,.l])] ((t.pre 0 1).map xw):=
 BW (prm:=[.v (.a [.i .i64,.i .i64]),.v (.a [.l,.i .i64,.i .i64,.l])]) xw (zF h)
def nJ:Nat→List ((Nat×Nat)×Tm)→Bool
 |_,[]=>true
 |n,p::l=>if n+1>5000 then false else if p.1.2>60 then false else nJ (n+1) l
theorem l5 {t:Tm} (h:t.size≤500000000):ag Tryz.prog 92 [.agg [.sl (t.binds.map Ty.enc),nI t.kind,nI t.index,.sl (t.args.map Tm.enc)]] (nB (nJ 0 (t.pre 0 1))):=by
 refine OI ⟨sx t,?_⟩
 refine lS.ED (fun n:Nat=>((t.binds.map Ty.enc,t.kind,t.index,t.args.map Tm.enc,()),(false,()),((n:Int),()),())) xw (t.pre 0 1) (xx h) (fun r n=>n≤5000∧nJ 0 (t.pre 0 1)=nJ n r) 0 rfl ⟨by omega,rfl⟩ (fun p r n ⟨hI,hk⟩ again bJ=>?_) fun n ⟨hI,hk⟩=>?_
 ·rw[nJ] at hk
  dsimp only[xw]
  rw[aD (by omega)]
  refine ai.intro (fun h1=>?_) fun h1=>ai.intro (fun h2=>?_) fun h2=>?_
  ·have:n+1>5000:=by have:=of_decide_eq_true h1;omega
   rw[hk,if_pos this]
  ·have g:¬n+1>5000:=by have:=of_decide_eq_false h1;omega
   have:p.1.2>60:=by have:=of_decide_eq_true h2;omega
   rw[hk,if_neg g,if_pos this]
  ·have g:¬n+1>5000:=by have:=of_decide_eq_false h1;omega
   have g2:¬p.1.2>60:=by have:=of_decide_eq_false h2;omega
   rw[if_neg g,if_neg g2] at hk
   exact bJ (n+1) ⟨by omega,hk⟩
 ·rw[hk];rfl
theorem CR {b:Int} {c m x:List Ty} {t:Tm} {of:Ty} (hc:∀t∈c,t.size≤200000000) (hm:∀t∈m,t.size≤200000000) (ao:t.Ok) (hx:∀u∈x,u.size≤200000000) (hn:x.length+t.size≤200000000) (Td:of.size≤200000000):
  ag Tryz.prog 95 [.agg [nI b,.sl (c.map Ty.enc),.sl (m.map Ty.enc)],.sl (x.map Ty.enc),.agg [.sl (t.binds.map Ty.enc),nI t.kind,nI t.index,.sl (t.args.map Tm.enc)],.agg [.sl (of.args.map Ty.enc),nI of.base]] (nI (if nJ 0 (t.pre 0 1)=true then(if t.HX c m x of=true then 0 else 5) else 2)):=by
 have h1:=l5 (t:=t) (by omega)
 have h2:=Mk (b:=b) hc hm _ t of x (Nat.le_refl _) ao hx hn Td
 refine OK ⟨_,h1,ai.intro (fun h=>?_) fun h=>⟨_,h2,ai.intro (fun h3=>?_) fun h3=>?_⟩⟩
 ·rw[if_neg (by simpa using h)]
 ·rw[if_pos (by simpa using h),if_neg (by simpa using h3)]
 ·rw[if_pos (by simpa using h),if_pos (by simpa using h3)]
theorem HZ {b:Int} {c m:List Ty} {t:Ty} (h:t.size≤500000000):ag Tryz.prog 142 [.agg [.sl (t.args.map Ty.enc),nI t.base],.aL (.agg [nI b,.sl (c.map Ty.enc),.sl (m.map Ty.enc)]) 0] (nB (!(t.dY b))):=
 Lg ⟨_,zD h,rfl⟩
def ig (b:Int):Nat→List Ty→Int
 |_,[] => -1
 |k,t::l=>if t.dY b=true then ig b (k+1) l else k
theorem vn {b:Int} {c m l:List Ty} (h:Ty.sizes l≤500000000):ag Tryz.prog 175 [.sl (l.map Ty.enc),.aK 142 [.aL (.agg [nI b,.sl (c.map Ty.enc),.sl (m.map Ty.enc)]) 0]] (nI (ig b 0 l)):=by
 have hl:=Ty.aF l
 refine Li ⟨rfl,?_⟩
 refine ax.intro (fun k:Nat=>((l.map Ty.enc,((),()),(l.length:Int),(k:Int),()),())) (fun k=>k≤l.length∧ig b 0 l=ig b k (l.drop k)) (fun k=>l.length-k) 0 (by rw[List.length_map];rfl) ⟨Nat.zero_le _,rfl⟩ ?_
 intro k ⟨hk,hs⟩ again bJ
 dsimp only
 rw[List.length_map]
 refine ai.intro (fun h=>?_) fun h=>?_
 ·have ak:k<l.length:=by simpa using h
  rw[List.drop_eq_getElem_cons ak,ig] at hs
  refine⟨by omega,by omega,_,_,Ty.aq ak,_,HZ (by have:=Ty.bg (List.getElem_mem ak);omega),ai.intro (fun h=>?_) fun h=>⟨rfl,?_⟩⟩
  ·rw[hs,if_neg (by simpa using h)]
  ·rw[if_pos (by simpa using h)] at hs
   rw[aD (by omega)]
   exact bJ (k+1) ⟨by omega,hs⟩ (by omega)
 ·have:l.length≤k:=by simpa using h
  rw[List.drop_eq_nil_of_le this] at hs
  rw[hs];rfl
theorem rG {b:Int} {c m:List Ty} (hc:c.length≤500) (hm:m.length≤500) (h:Ty.sizes (c++m)≤500000000):ag Tryz.prog 91 [.agg [nI b,.sl (c.map Ty.enc),.sl (m.map Ty.enc)]] (nB (!(decide (ig b 0 (c++m)≥0)))):=by
 have AN:=iM (ll:=[c,m]) (by simp) (by simp;omega)
 simp only[eG,List.map_cons,List.map_nil,List.flatten_cons,List.flatten_nil,List.append_nil] at AN
 have hi:=vn (b:=b) (c:=c) (m:=m) (l:=c++m) h
 refine OL ?_
 unfold Wb
 rw[List.length_map,List.length_map,eu (by omega) (by omega)]
 refine ai.neg (decide_eq_false (by omega)) (ai.neg (decide_eq_false (by omega)) ⟨_,AN,_,Lf ⟨_,hi,rfl⟩,rfl⟩)
theorem zG (b:Int):ag Tryz.prog 35 [nI b,.sl []] (.agg [.sl [],nI b]):=by
 have hc:=lW _ (.mk [] b) (Nat.le_refl _) (by simp[Ty.size,Ty.sizes])
 rw[Ty.iz] at hc
 exact Gt ⟨_,_,hc,rfl⟩
mutual
def po:Int→Int→Ty→Tm
 |k,i,.mk l _=>.mk l k (if k=0 then IntKind.wrap .i64 (i+(l.length:Nat)) else i) (lj l.length 0 l)
def lj (n:Nat):Nat→List Ty→List Tm
 |_,[]=>[]
 |j,t::r=>po 0 ((n:Int)-1-j) t::lj n (j+1) r
end
theorem GM (k i:Int) (t:Ty):po k i t=.mk t.args k (if k=0 then IntKind.wrap .i64 (i+(t.args.length:Nat)) else i) (lj t.args.length 0 t.args):=by cases t;rw[po];rfl
theorem oc (n:Nat):∀(l:List Ty) (j:Nat),(lj n j l).length=l.length
 | [],_=>rfl
 |t::l,j=>by rw[lj,List.length_cons,List.length_cons,oc n l]
theorem xy (n:Nat):∀(l:List Ty) (j k:Nat) (h:k<l.length),(lj n j l)[k]?=some (po 0 ((n:Int)-1-(j+k:Nat)) l[k])
 |t::l,j,0,_=>by rw[lj];rfl
 |t::l,j,k+1,h=>by
  rw[lj,List.getElem?_cons_succ,xy n l (j+1) k (by simpa using h),List.getElem_cons_succ,show j+1+k=j+(k+1) by omega]
theorem vo {n:Nat} {l:List Ty} {k:Nat} (h:k<l.length):(lj n 0 l).take (k+1)=(lj n 0 l).take k++[po 0 ((n:Int)-1-(k:Nat)) l[k]]:=by
 have hk:k<(lj n 0 l).length:=by rw[oc];exact h
 have hg:=xy n l 0 k h
 rw[List.getElem?_eq_getElem hk,Nat.zero_add] at hg
 rw[←fz hk,Option.some.inj hg]
theorem H5:∀(d:Nat) (t:Ty) (k i:Int),t.size≤d→d≤1000000000→ag Tryz.prog 78 [.agg [nI k,nI i],t.enc] (po k i t).enc:=by
 intro d
 induction d with
 |zero=>intro t k i h;have:=t.size_pos;omega
 |succ d ih=>
  intro t k i h hd
  have hq:=Ty.aF t.args
  have tR:=t.size_eq
  have loop:∀ix:Int,ix=(if k=0 then IntKind.wrap .i64 (i+(t.args.length:Nat)) else i)→yK (((),(),((List.length (t.args.map Ty.enc):Nat):Int),(),0,()),((k,i,()),(t.args.map Ty.enc,t.base,()),((),0,0,(),()),(t.args.map Ty.enc,k,ix,(),()),[],())) (fun x=>x=(po k i t).enc):=by
   intro ix hix
   refine ax.intro (fun j:Nat=>(((),(),(t.args.length:Int),(),(j:Int),()),((k,i,()),(t.args.map Ty.enc,t.base,()),((),0,0,(),()),(t.args.map Ty.enc,k,ix,(),()),((lj t.args.length 0 t.args).take j).map Tm.enc,())))
    (fun j=>j≤t.args.length) (fun j=>t.args.length-j) 0 (by rw[List.length_map];rfl) (Nat.zero_le _) ?_
   intro j hj again bJ
   dsimp only
   rw[List.length_map]
   refine ai.intro (fun h=>?_) fun h=>?_
   ·have ak:j<t.args.length:=by simpa using h
    have hi:=ih t.args[j] 0 ((t.args.length:Int)-1-(j:Nat)) (by have:=Ty.cr ak;omega) (by omega)
    rw[Ty.aP,Tm.aP] at hi
    have hw:IntKind.wrap .i64 (IntKind.wrap .i64 ((t.args.length:Int)-1)-(j:Int))=(t.args.length:Int)-1-(j:Nat):=by
     rw[eu (n:=(t.args.length:Int)-1) (by omega) (by omega),eu (by omega) (by omega)]
    rw[hw]
    refine⟨by omega,by omega,_,_,Ty.aq ak,_,_,_,_,hi,rfl,cQ rfl (by simp;omega) (by decide),rfl,?_⟩
    rw[aD (by omega),Tm.jq,←vo ak]
    exact bJ (j+1) (by omega) (by omega)
   ·have hle:t.args.length≤j:=by simpa using h
    refine⟨rfl,?_⟩
    rw[List.take_of_length_le (by rw[oc];exact hle),GM,Tm.iz,hix]
  rw[Ty.aP]
  refine OD (ai.intro (fun h=>⟨rfl,?_⟩) fun h=>⟨rfl,?_⟩)
  ·have hk:k=0:=by simpa using h
   refine loop _ ?_
   rw[if_pos hk,List.length_map]
  ·have hk:¬k=0:=by simpa using h
   exact loop _ (by rw[if_neg hk])
theorem E1 {t:Ty} {k i:Int} (ht:t.size≤1000000000) (h0:k=0→0≤i∧i≤1000):ag Tryz.prog 42 [.agg [nI k,nI i],t.enc] (po k i t).enc:=by
 have he:=H5 _ t k i (Nat.le_refl _) ht
 rw[Ty.aP,Tm.aP] at he ⊢
 refine OE (ai.intro (fun h=>?_) fun h=>⟨_,_,_,_,he,rfl⟩)
 have hk:k=0:=by simpa using h
 have:=h0 hk
 exact ai.neg (decide_eq_false (by omega)) (ai.neg (decide_eq_false (by omega)) ⟨_,_,_,_,he,rfl⟩)
theorem E2:∀(d:Nat) (t:Ty) (k i:Int),t.size≤d→d≤1000→(k=0→0≤i∧i≤1000)→ag Tryz.prog 174 [.agg [nI k,nI i],t.enc] (po k i t).enc:=by
 intro d
 induction d with
 |zero=>intro t k i h;have:=t.size_pos;omega
 |succ d ih=>
  intro t k i h hd h0
  have hq:=Ty.aF t.args
  have tR:=t.size_eq
  have gA:=sq (t:=t) (l:=[]) (by simp[Ty.sizes];omega)
  rw[Ty.arrow,List.nil_append,Ty.iz,Ty.aP,List.map_nil] at gA
  have loop:∀ix:Int,ix=(if k=0 then IntKind.wrap .i64 (i+(t.args.length:Nat)) else i)→nv (((),((List.length (t.args.map Ty.enc):Nat):Int),(),t.args.map Ty.enc,((List.length (t.args.map Ty.enc):Nat):Int),0,()),((k,i,()),(t.args.map Ty.enc,t.base,()),((),0,0,(),()),(t.args.map Ty.enc,k,ix,(),()),[],())) (fun x=>x=(po k i t).enc):=by
   intro ix hix
   refine ax.intro (fun j:Nat=>(((),(t.args.length:Int),(),t.args.map Ty.enc,(t.args.length:Int),(j:Int),()),((k,i,()),(t.args.map Ty.enc,t.base,()),((),0,0,(),()),(t.args.map Ty.enc,k,ix,(),()),((lj t.args.length 0 t.args).take j).map Tm.enc,())))
    (fun j=>j≤t.args.length) (fun j=>t.args.length-j) 0 (by rw[List.length_map];rfl) (Nat.zero_le _) ?_
   intro j hj again bJ
   dsimp only
   rw[List.length_map]
   refine ai.intro (fun h=>?_) fun h=>?_
   ·have ak:j<t.args.length:=by simpa using h
    have hi:=ih t.args[j] 0 ((t.args.length:Int)-1-(j:Nat)) (by have:=Ty.cr ak;omega) (by omega) (fun _=>⟨by omega,by omega⟩)
    rw[Ty.aP,Tm.aP] at hi
    have hw:IntKind.wrap .i64 (IntKind.wrap .i64 ((t.args.length:Int)-1)-(j:Int))=(t.args.length:Int)-1-(j:Nat):=by
     rw[eu (n:=(t.args.length:Int)-1) (by omega) (by omega),eu (by omega) (by omega)]
    rw[hw]
    refine⟨by omega,by omega,_,_,Ty.aq ak,_,_,_,_,hi,rfl,cQ rfl (by simp;omega) (by decide),rfl,?_⟩
    rw[aD (by omega),Tm.jq,←vo ak]
    exact bJ (j+1) (by omega) (by omega)
   ·have hle:t.args.length≤j:=by simpa using h
    refine⟨rfl,?_⟩
    rw[List.take_of_length_le (by rw[oc];exact hle),GM,Tm.iz,hix]
  rw[Ty.aP]
  refine KO (ai.intro (fun h=>?_) fun h=>?_)
  ·have hk:k=0:=by simpa using h
   have:=h0 hk
   refine ai.neg (decide_eq_false (by omega)) (ai.neg (decide_eq_false (by omega)) ⟨_,_,gA,ai.pos h ⟨rfl,loop _ ?_⟩⟩)
   rw[if_pos hk,List.length_map]
  ·have hk:¬k=0:=by simpa using h
   exact⟨_,_,gA,ai.neg h ⟨rfl,loop _ (by rw[if_neg hk])⟩⟩
theorem Qb {w:World} (h:mH w):Lib.TabIs Tryz.prog w "internal/strconv.uint64pow10" .u64 Lib.pow10Tab:=by
 obtain⟨T,h1⟩:=h (Aq.head (by decide)) (List.head_mem _)
 unfold Lib.TabIs World.var?
 rw[show Tryz.prog.globalNamed "internal/strconv.uint64pow10"=some (Aq.head (by decide)).1 from by kernel_rfl]
 simp only[Option.bind_some,h1]
 rfl
def CS (k:Int):ByteArray:=⟨(Lib.itoa k).toArray⟩
theorem E3 {k:Int} (hk:lx k):ag Tryz.prog 125 [nI k] (nS (CS k)):=by
 refine⟨⟨_,Tryz.func125,by kernel_rfl,by kernel_rfl⟩,fun w F aU hF hg hv=>?_⟩
 match aU,hv with
 | [v0],⟨r0,_⟩=>
  cases r0
  refine callsIn_wide.2 ((Any.strconv_Itoa OG k hk.1 (by have:=hk.2;omega) w (Qb hg)).mono ?_)
  rintro e w' ⟨rfl,n,os,rfl⟩
  refine⟨_,_,rfl,rfl,⟨rfl,rfl,rfl,?_,fun j hj=>?_⟩,.ae _⟩
  ·show w.heap.size≤(w.heap++os).size
   rw[Array.size_append];omega
  ·show (w.heap++os)[j]?=_
   rw[Array.getElem?_append_left hj]
theorem xz {k:Int} (hk:lx k):(CS k).size≤30:=by
 have h1:=hk.1
 have h2:=hk.2
 have:=Lib.itoa_length_le k h1 (by omega)
 show (Lib.itoa k).toArray.size≤30
 rw[List.size_toArray];omega
theorem vp {κ:Type} [DecidableEq κ] {l:List (κ×Value)} {i v:κ} {x:Value}:aC (bB l v x) i=if i=v then some x else aC l i:=by
 induction l with
 |nil=>simp only[bB,aC]
 |cons p l ih=>
  obtain⟨k,u⟩:=p
  simp only[bB]
  by_cases h:v=k
  ·subst h
   simp only[if_pos,aC]
   by_cases h2:i=v<;>simp[h2]
  ·rw[if_neg h,aC,ih,aC]
   by_cases h2:i=k
   ·subst h2;simp[Ne.symm h]
   ·simp[h2]
def Te (b:UInt8):Bool:=(b==45)||(decide (48≤b.toNat)&&decide (b.toNat≤57))
theorem Tx {u:Nat} (h:u<10):Lib.decDigits u=[UInt8.ofNat (48+u)]:=by rw[Lib.decDigits,dif_pos h]
theorem Tz {u:Nat} (h:¬u<10):Lib.decDigits u=Lib.decDigits (u / 10)++[UInt8.ofNat (48+u % 10)]:=by rw[Lib.decDigits,dif_neg h]
def num (b:UInt8):Bool:=decide (48≤b.toNat)&&decide (b.toNat≤57)
theorem GN:∀u:Nat,(Lib.decDigits u).all num=true:=by
 intro u
 induction u using Nat.strongRecOn with
 |_ u ih=>
  have hd:∀k,k<10→num (UInt8.ofNat (48+k))=true:=fun k hk=>by
   have:(UInt8.ofNat (48+k)).toNat=48+k:=by rw[UInt8.toNat_ofNat'];omega
   simp only[num,this,Bool.and_eq_true,decide_eq_true_eq]
   exact⟨by omega,by omega⟩
  by_cases h1:u<10
  ·rw[Tx h1,List.all_cons,hd u h1];rfl
  ·rw[Tz h1,List.all_append,ih (u / 10) (by omega),List.all_cons,hd (u % 10) (by omega)];rfl
theorem GO (u:Nat):(Lib.decDigits u).all Te=true:=by
 have h:=GN u
 rw[List.all_eq_true] at h ⊢
 exact fun b hb=>by rw[Te,show (decide (48≤b.toNat)&&decide (b.toNat≤57))=true from h b hb,Bool.or_true]
theorem GQ:∀u v:Nat,Lib.decDigits u=Lib.decDigits v→u=v:=by
 have hd:∀k,k<10→(UInt8.ofNat (48+k)).toNat=48+k:=fun k hk=>by rw[UInt8.toNat_ofNat'];omega
 have bh:∀u:Nat,Lib.decDigits u≠[]:=fun u h=>by
  by_cases h1:u<10
  ·rw[Tx h1] at h;cases h
  ·rw[Tz h1] at h;simp at h
 intro u
 induction u using Nat.strongRecOn with
 |_ u ih=>
  intro v h
  by_cases h1:u<10
  ·by_cases h2:v<10
   ·rw[Tx h1,Tx h2] at h
    simp only[List.cons.injEq,and_true] at h
    have:=congrArg UInt8.toNat h
    rw[hd u h1,hd v h2] at this;omega
   ·rw[Tx h1,Tz h2] at h
    have:=congrArg List.length h
    have h3:=List.length_pos_iff.2 (bh (v / 10))
    rw[List.length_append,List.length_singleton,List.length_singleton] at this;omega
  ·by_cases h2:v<10
   ·rw[Tz h1,Tx h2] at h
    have:=congrArg List.length h
    have h3:=List.length_pos_iff.2 (bh (u / 10))
    rw[List.length_append,List.length_singleton,List.length_singleton] at this;omega
   ·rw[Tz h1,Tz h2] at h
    have h3:=List.append_inj' h rfl
    have h4:=ih (u / 10) (by omega) (v / 10) h3.1
    have h5:=h3.2
    simp only[List.cons.injEq,and_true] at h5
    have:=congrArg UInt8.toNat h5
    rw[hd _ (by omega),hd _ (by omega)] at this
    omega
theorem CT (n:Int):(Lib.itoa n).all Te=true:=by
 unfold Lib.itoa
 split
 ·rw[List.all_cons,GO];rfl
 ·exact GO _
theorem Mn {n m:Int} (h:Lib.itoa n=Lib.itoa m):n=m:=by
 have Xn:∀u:Nat,∀l:List UInt8,Lib.decDigits u≠45::l:=fun u l e=>by
  have h1:=GN u
  rw[e,List.all_cons] at h1
  exact absurd h1 (by simp[num])
 unfold Lib.itoa at h
 split at h<;>split at h
 ·have:=GQ _ _ (List.cons.inj h).2;omega
 ·exact(Xn _ _ h.symm).elim
 ·exact(Xn _ _ h).elim
 ·have:=GQ _ _ h;omega
def gy:List (UInt8×Int)→List UInt8
 | []=>[]
 |(c,n)::l=>c::(Lib.itoa n++gy l)
theorem zH (l m:List (UInt8×Int)):gy (l++m)=gy l++gy m:=by
 induction l with
 |nil=>rfl
 |cons p l ih=>obtain⟨c,n⟩:=p;simp[gy,ih]
def zI (l:List (UInt8×Int)):Prop:=∀p∈l,Te p.1=false
theorem GR {l:List (UInt8×Int)} (h:zI l):(gy l).takeWhile Te=[]:=by
 cases l with
 |nil=>rfl
 |cons p l=>
  obtain⟨c,n⟩:=p
  rw[gy,List.takeWhile_cons,h (c,n) List.mem_cons_self];rfl
theorem CU:∀(l m:List (UInt8×Int)),zI l→zI m→gy l=gy m→l=m
 | [],[],_,_,_=>rfl
 | [],(c,n)::m,_,_,h=>by simp[gy] at h
 |(c,n)::l,[],_,_,h=>by simp[gy] at h
 |(c,n)::l,(d,k)::m,hl,hm,h=>by
  simp only[gy,List.cons.injEq] at h
  have DH:zI l:=fun p hp=>hl p (List.mem_cons_of_mem _ hp)
  have RF:zI m:=fun p hp=>hm p (List.mem_cons_of_mem _ hp)
  have h1:=congrArg (List.takeWhile Te) h.2
  rw[List.takeWhile_append_of_pos (List.all_eq_true.1 (CT n)),List.takeWhile_append_of_pos (List.all_eq_true.1 (CT k)),GR DH,GR RF,List.append_nil,List.append_nil] at h1
  have h2:=h.2
  rw[h1] at h2
  rw[h.1,Mn h1,CU l m DH RF (List.append_cancel_left h2)]
mutual
def Qd:Ty→List (UInt8×Int)
 | .mk l b=>(58,b)::((91,(l.length:Int))::iA l)
def iA:List Ty→List (UInt8×Int)
 | []=>[]
 |t::l=>Qd t++iA l
end
def DF (l:List Ty):List (UInt8×Int):=(91,(l.length:Int))::iA l
mutual
def Ap:Tm→List (UInt8×Int)
 | .mk b k i a=>DF b++((104,k)::(105,i)::(40,(a.length:Int))::ju a)
def ju:List Tm→List (UInt8×Int)
 | []=>[]
 |t::l=>Ap t++ju l
end
mutual
theorem Qe:∀(t u:Ty) (r s:List (UInt8×Int)),Qd t++r=Qd u++s→t=u∧r=s
 | .mk l b,.mk m c,r,s,h=>by
  simp only[Qd,List.cons_append,List.cons.injEq,Prod.mk.injEq,true_and] at h
  obtain⟨rfl,h1,h2⟩:=h
  obtain⟨rfl,rfl⟩:=vq l m r s (by omega) h2
  exact⟨rfl,rfl⟩
theorem vq:∀(l m:List Ty) (r s:List (UInt8×Int)),l.length=m.length→iA l++r=iA m++s→l=m∧r=s
 | [],[],r,s,_,h=>⟨rfl,h⟩
 | [],_::_,_,_,h,_=>by simp at h
 |_::_,[],_,_,h,_=>by simp at h
 |t::l,u::m,r,s,hl,h=>by
  simp only[iA,List.append_assoc] at h
  obtain⟨rfl,h1⟩:=Qe t u _ _ h
  obtain⟨rfl,h2⟩:=vq l m r s (by simpa using hl) h1
  exact⟨rfl,h2⟩
end
theorem Qf {l m:List Ty} {r s:List (UInt8×Int)} (h:DF l++r=DF m++s):l=m∧r=s:=by
 simp only[DF,List.cons_append,List.cons.injEq,Prod.mk.injEq,true_and] at h
 exact vq l m r s (by omega) h.2
mutual
theorem GU:∀(t u:Tm) (r s:List (UInt8×Int)),Ap t++r=Ap u++s→t=u∧r=s
 | .mk b k i a,.mk b' k' i' a',r,s,h=>by
  simp only[Ap,List.append_assoc] at h
  obtain⟨rfl,h1⟩:=Qf h
  simp only[List.cons_append,List.cons.injEq,Prod.mk.injEq,true_and] at h1
  obtain⟨rfl,rfl,h2,h3⟩:=h1
  obtain⟨rfl,rfl⟩:=CV a a' r s (by omega) h3
  exact⟨rfl,rfl⟩
theorem CV:∀(l m:List Tm) (r s:List (UInt8×Int)),l.length=m.length→ju l++r=ju m++s→l=m∧r=s
 | [],[],r,s,_,h=>⟨rfl,h⟩
 | [],_::_,_,_,h,_=>by simp at h
 |_::_,[],_,_,h,_=>by simp at h
 |t::l,u::m,r,s,hl,h=>by
  simp only[ju,List.append_assoc] at h
  obtain⟨rfl,h1⟩:=GU t u _ _ h
  obtain⟨rfl,h2⟩:=CV l m r s (by simpa using hl) h1
  exact⟨rfl,h2⟩
end
theorem zI.append {l m:List (UInt8×Int)} (h1:zI l) (h2:zI m):zI (l++m):=fun p hp=>(List.mem_append.1 hp).elim (h1 p) (h2 p)
theorem zI.cons {c:UInt8} {n:Int} {l:List (UInt8×Int)} (h1:Te c=false) (h2:zI l):zI ((c,n)::l):=fun p hp=>by
 rcases List.mem_cons.1 hp with rfl|hp
 ·exact h1
 ·exact h2 p hp
theorem zI.nil:zI []:=fun _ h=>by cases h
mutual
theorem Qg:∀t:Ty,zI (Qd t)
 | .mk l b=>.cons rfl (.cons rfl (vt l))
theorem vt:∀l:List Ty,zI (iA l)
 | []=>.nil
 |t::l=>(Qg t).append (vt l)
end
mutual
theorem zJ:∀t:Tm,zI (Ap t)
 | .mk b k i a=>zI.append (.cons rfl (vt b)) (.cons rfl (.cons rfl (.cons rfl (CW a))))
theorem CW:∀l:List Tm,zI (ju l)
 | []=>.nil
 |t::l=>(zJ t).append (CW l)
end
def ij (t:Tm):ByteArray:=⟨(gy (Ap t)).toArray⟩
theorem H6 {t u:Tm} (h:ij t=ij u):t=u:=by
 have h1:gy (Ap t)=gy (Ap u):=by
  have:=congrArg ByteArray.data h
  simpa [ij] using this
 have h2:=CU _ _ (zJ t) (zJ u) h1
 exact(GU t u [] [] (by rw[List.append_nil,List.append_nil,h2])).1
theorem CX {us:List AV} {c:Int} (h:us.length+1≤1000000000):bp Tryz.prog 123 [.ptr 0 0,.ae (.int .u8 c)] [.cA 1 us.length,.row 5 1 us]
  (fun r hp'=>r=.top∧hp'=[.cA 1 (us++[AV.ae (.int .u8 c)]).length,.row 5 1 (us++[AV.ae (.int .u8 c)])]):=
 bp.res (R:=fun(r:AV) (hp':List af)=>r=AV.ae (.nilIface)∧hp'=[.cA 1 (us++[AV.ae (.int .u8 c)]).length,.row 5 1 (us++[AV.ae (.int .u8 c)])]) (Lj ⟨_,mD,fun r q ⟨h1,h2⟩=>⟨us,⟨h1,h2⟩,rfl,cQ rfl (by rw[List.length_append];simp;omega) (by decide),by rw[List.length_append];simp,rfl,rfl⟩⟩)
  fun r h' ⟨h1,h2⟩=>⟨_,fun w F η hp v _=>.top v,rfl,h2⟩
def bQ (l:List (UInt8×Int)):ByteArray:=⟨(gy l).toArray⟩
theorem pq (l m:List (UInt8×Int)):aV (bQ (l++m))=aV (bQ l)++aV (bQ m):=by
 simp only[aV,bQ,zH,List.map_append]
theorem vu (c:UInt8) (n:Int):aV (bQ [(c,n)])=.ae (.int .u8 c.toNat)::aV (CS n):=by
 simp[aV,bQ,gy,CS]
theorem Qh (u:Nat):Lib.decDigits u≠[]:=by
 rw[Lib.decDigits]
 split<;>simp
theorem Qi {k:Int}:(CS k).size≠0:=by
 have h:Lib.itoa k≠[]:=by
  unfold Lib.itoa
  split
  ·simp
  ·exact Qh _
 intro e
 exact h (List.eq_nil_of_length_eq_zero (by simpa using (show (Lib.itoa k).toArray.size=0 from e)))
theorem lk {us:List AV} {c:UInt8} {n:Int} (hn:lx n) (h:us.length≤999000000):bp Tryz.prog 122 [AV.ae (.int .u8 c.toNat),nI n,.ptr 2 0] (Gm us.length us) (fun r q=>r=.aX []∧q=Gm (us++aV (bQ [(c,n)])).length (us++aV (bQ [(c,n)]))):=by
 have hw:=xz hn
 refine Ll ⟨_,CX (by omega),fun r q ⟨e1,e2⟩=>⟨us++[AV.ae (.int .u8 c.toNat)],⟨e1,e2⟩,_,E3 hn,_,Mi (us:=us++[AV.ae (.int .u8 c.toNat)]) Qi (by rw[List.length_append];simp;omega),fun r q ⟨e1,e2⟩=>⟨us++[AV.ae (.int .u8 c.toNat)]++aV (CS n),(CS n).size,⟨?_,e2⟩,rfl,?_⟩⟩⟩
 ·exact e1
 ·rw[vu,List.append_assoc,List.singleton_append]
theorem vv:∀(l:List (UInt8×Int)),(∀p∈l,lx p.2)→(aV (bQ l)).length≤31*l.length
 | [],_=>by simp[aV,bQ,gy]
 |(c,n)::l,h=>by
  have h1:=vv l fun p hp=>h p (List.mem_cons_of_mem _ hp)
  have h2:(CS n).size≤30:=xz (h (c,n) List.mem_cons_self)
  have h3:=pq [(c,n)] l
  rw[List.singleton_append] at h3
  rw[h3,List.length_append,vu,List.length_cons,List.length_cons,ek]
  omega
mutual
theorem Qj:∀t:Ty,(Qd t).length=2*t.size
 | .mk l b=>by
  have:=qF l
  simp only[Qd,List.length_cons,Ty.size];omega
theorem qF:∀l:List Ty,(iA l).length=2*Ty.sizes l
 | []=>rfl
 |t::l=>by
  have h1:=Qj t
  have h2:=qF l
  simp only[iA,List.length_append,Ty.sizes];omega
end
theorem H7 {l:List Ty} {k:Nat} (h:k<l.length):iA (l.take (k+1))=iA (l.take k)++((58,l[k].base)::DF l[k].args):=by
 have app:∀a b:List Ty,iA (a++b)=iA a++iA b:=fun a b=>by
  induction a with
  |nil=>rfl
  |cons x a ih=>rw[List.cons_append,iA,iA,ih,List.append_assoc]
 rw[List.take_succ_eq_append_getElem h,app]
 congr 1
 rw[iA,iA,List.append_nil]
 cases l[k] with
 |mk a b=>rfl
mutual
def Ty.kj:Ty→Prop
 | .mk l b=>lx b∧Ty.il l
def Ty.il:List Ty→Prop
 | []=>True
 |t::l=>Ty.kj t∧Ty.il l
end
theorem Ty.iN:∀{l:List Ty},Ty.il l→∀t∈l,t.kj
 | [],_,t,h=>by cases h
 |u::l,h,t,ht=>by
  rcases List.mem_cons.1 ht with rfl|ht
  ·exact h.1
  ·exact Ty.iN h.2 t ht
theorem Ty.pr {t:Ty} (h:t.kj):lx t.base∧Ty.il t.args:=by cases t;exact h
mutual
theorem Qk:∀t:Ty,t.kj→t.size≤1000000→∀p∈Qd t,lx p.2
 | .mk l b,h,hs,p,hp=>by
  have h3:=Ty.aF l
  simp only[Ty.size] at hs
  simp only[Qd,List.mem_cons] at hp
  rcases hp with rfl|rfl|hp
  ·exact h.1
  ·exact⟨by show (-9223372036854775808:Int)≤(l.length:Int);omega,by show (l.length:Int)<9223372036854775808;omega⟩
  ·exact nK l h.2 (by omega) p hp
theorem nK:∀l:List Ty,Ty.il l→Ty.sizes l≤1000000→∀p∈iA l,lx p.2
 | [],_,_,p,hp=>by cases hp
 |t::l,h,hs,p,hp=>by
  simp only[Ty.sizes] at hs
  simp only[iA,List.mem_append] at hp
  rcases hp with hp|hp
  ·exact Qk t h.1 (by omega) p hp
  ·exact nK l h.2 (by omega) p hp
end
theorem l7 {n:Nat} (h:n≤1000000000):lx (n:Int):=⟨by omega,by omega⟩
theorem ln {us:List AV} {l:List (UInt8×Int)} (h:∀p∈l,lx p.2):(us++aV (bQ l)).length≤us.length+31*l.length:=by
 have:=vv l h
 rw[List.length_append];omega
theorem H8:∀(n:Nat) (l:List Ty),Ty.sizes l<n→n≤1000000→Ty.il l→∀us:List AV,us.length+62*Ty.sizes l≤990000000→
  bp Tryz.prog 126 [.sl (l.map Ty.enc),.ptr 3 0,.ptr 4 0] (Q9 us.length us) (fun r q=>r=.aX []∧q=Q9 (us++aV (bQ (DF l))).length (us++aV (bQ (DF l)))):=by
 intro n
 induction n with
 |zero=>intro l h;omega
 |succ n ih=>
  intro l h hn vw us TP
  have hlen:=Ty.aF l
  have h1:=lk (us:=us) (c:=91) (n:=((List.length (l.map Ty.enc):Nat):Int)) (l7 (by rw[List.length_map];omega)) (by omega)
  refine Lo ⟨_,h1,fun r q ⟨e1,e2⟩=>⟨us++aV (bQ [(91,((List.length (l.map Ty.enc):Nat):Int))]),⟨e1,e2⟩,rfl,?_⟩⟩
  have app:∀a b:List (UInt8×Int),us++aV (bQ a)++aV (bQ b)=us++aV (bQ (a++b)):=fun a b=>by rw[pq,List.append_assoc]
  refine ax.intro (fun k:Nat=>(((),(),l.map Ty.enc,(l.length:Int),(k:Int),()),((),us++aV (bQ ((91,(l.length:Int))::iA (l.take k))),((),()),((),()),((),()),()))) (fun k=>k≤l.length) (fun k=>l.length-k) 0 (by rw[List.length_map];rfl) (Nat.zero_le _) ?_
  intro k hk again bJ
  dsimp only
  refine ai.intro (fun h=>?_) fun h=>⟨rfl,?_⟩
  ·have ak:k<l.length:=by simpa using h
   have hx:=Ty.pr (Ty.iN vw _ (List.getElem_mem ak))
   have MY:=Ty.size_eq l[k]
   have t1:=Ty.bg (List.getElem_mem ak)
   have oQ:=bJ (k+1) (by omega) (by omega)
   have p1:=Ty.bY (l.take k) (l.drop k)
   rw[List.take_append_drop,List.drop_eq_getElem_cons ak,Ty.sizes] at p1
   have mS:∀p∈((91,(l.length:Int))::iA l:List (UInt8×Int)),lx p.2:=fun p hp=>by
    rcases List.mem_cons.1 hp with rfl|hp
    ·exact l7 (by omega)
    ·exact nK l vw (by omega) p hp
   have ye:∀p∈((91,(l.length:Int))::iA (l.take k):List (UInt8×Int)),lx p.2:=fun p hp=>by
    rcases List.mem_cons.1 hp with rfl|hp
    ·exact l7 (by omega)
    ·refine nK (l.take k) ?_ (by omega) p hp
     have:∀(m:List Ty) (j:Nat),Ty.il m→Ty.il (m.take j):=fun m=>by
      induction m with
      |nil=>intro j hm;rw[List.take_nil];exact hm
      |cons x m ih2=>
       intro j hm
       cases j with
       |zero=>exact True.intro
       |succ j=>exact⟨hm.1,ih2 j hm.2⟩
     exact this l k vw
   have b1:=ln (us:=us) ye
   rw[List.length_cons,qF] at b1
   have b2:(us++aV (bQ ((91,(l.length:Int))::iA (l.take k)))++aV (bQ [(58,l[k].base)])).length≤us.length+31*(2*Ty.sizes (l.take k)+1)+31:=by
    have:=ln (us:=us++aV (bQ ((91,(l.length:Int))::iA (l.take k)))) (l:=[(58,l[k].base)]) (fun p hp=>by rw[List.mem_singleton] at hp;rw[hp];exact hx.1)
    rw[List.length_singleton] at this
    omega
   rw[H7 ak] at oQ
   refine⟨by omega,by rw[List.length_map];omega,_,_,Ty.aq ak,_,lk (c:=58) hx.1 (by omega),fun r q ⟨e1,e2⟩=>⟨_,⟨e1,e2⟩,_,ih l[k].args (by omega) (by omega) hx.2 _ (by omega),fun r q ⟨e1,e2⟩=>⟨_,⟨e1,e2⟩,rfl,?_⟩⟩⟩
   rw[aD (by omega),app,app,List.append_assoc,List.cons_append,List.singleton_append]
   exact oQ
  ·have:l.length≤k:=by simpa using h
   rw[List.take_of_length_le this];rfl
mutual
def Tm.kj:Tm→Prop
 | .mk b k i a=>Ty.il b∧lx k∧lx i∧Tm.il a
def Tm.il:List Tm→Prop
 | []=>True
 |t::l=>Tm.kj t∧Tm.il l
end
theorem Tm.iN:∀{l:List Tm},Tm.il l→∀t∈l,t.kj
 | [],_,t,h=>by cases h
 |u::l,h,t,ht=>by
  rcases List.mem_cons.1 ht with rfl|ht
  ·exact h.1
  ·exact Tm.iN h.2 t ht
theorem Tm.pr {t:Tm} (h:t.kj):Ty.il t.binds∧lx t.kind∧lx t.index∧Tm.il t.args:=by cases t;exact h
theorem Tm.CY:∀(m:List Tm) (j:Nat),Tm.il m→Tm.il (m.take j)
 | [],j,h=>by rw[List.take_nil];exact h
 |x::m,0,h=>True.intro
 |x::m,j+1,h=>⟨h.1,Tm.CY m j h.2⟩
theorem GV {l:List Ty} (h:Ty.il l) (hs:Ty.sizes l≤1000000):∀p∈DF l,lx p.2:=fun p hp=>by
 have:=Ty.aF l
 rcases List.mem_cons.1 hp with rfl|hp
 ·exact l7 (by omega)
 ·exact nK l h hs p hp
theorem tS (l:List Ty):(DF l).length=2*Ty.sizes l+1:=by rw[DF,List.length_cons,qF]
mutual
theorem Ql:∀t:Tm,(Ap t).length≤4*t.size
 | .mk b k i a=>by
  have h1:=vy a
  have h2:=tS b
  simp only[Ap,List.length_append,List.length_cons,Tm.size];omega
theorem vy:∀l:List Tm,(ju l).length≤4*Tm.sizes l
 | []=>Nat.le_refl _
 |t::l=>by
  have h1:=Ql t
  have h2:=vy l
  simp only[ju,List.length_append,Tm.sizes];omega
end
mutual
theorem Qm:∀t:Tm,t.kj→t.size≤1000000→∀p∈Ap t,lx p.2
 | .mk b k i a,h,hs,p,hp=>by
  have h3:=Tm.aF a
  simp only[Tm.size] at hs
  simp only[Ap,List.mem_append,List.mem_cons] at hp
  rcases hp with hp|rfl|rfl|rfl|hp
  ·exact GV h.1 (by omega) p hp
  ·exact h.2.1
  ·exact h.2.2.1
  ·exact l7 (by omega)
  ·exact vz a h.2.2.2 (by omega) p hp
theorem vz:∀l:List Tm,Tm.il l→Tm.sizes l≤1000000→∀p∈ju l,lx p.2
 | [],_,_,p,hp=>by cases hp
 |t::l,h,hs,p,hp=>by
  simp only[Tm.sizes] at hs
  simp only[ju,List.mem_append] at hp
  rcases hp with hp|hp
  ·exact Qm t h.1 (by omega) p hp
  ·exact vz l h.2 (by omega) p hp
end
theorem H9 {l:List Tm} {k:Nat} (h:k<l.length):ju (l.take (k+1))=ju (l.take k)++Ap l[k]:=by
 have app:∀a b:List Tm,ju (a++b)=ju a++ju b:=fun a b=>by
  induction a with
  |nil=>rfl
  |cons x a ih=>rw[List.cons_append,ju,ju,ih,List.append_assoc]
 rw[List.take_succ_eq_append_getElem h,app,ju,ju,List.append_nil]
@[simp] theorem Xw (f:FuncId):Fence.wide.fn f=True:=rfl
@[simp] theorem Tf:Fence.wide.depth=none:=rfl
set_option maxHeartbeats 1600000
theorem qG (w:World):(callFunc 227 #[]).run Tryz.prog w=.ok (.value (.tuple #[])) w:=run_call_mark0 Tryz.func227 (by kernel_rfl) (by kernel_rfl) (by kernel_rfl) .disable (by kernel_rfl) w
theorem sy (w:World):(callFunc 229 #[]).run Tryz.prog w=.ok (.value (.tuple #[])) w:=run_call_mark0 Tryz.func229 (by kernel_rfl) (by kernel_rfl) (by kernel_rfl) .enable (by kernel_rfl) w
theorem zK (a:Addr) (w:World):(callFunc 230 #[.pointer (some a)]).run Tryz.prog w=.ok (.value (.tuple #[])) w:=run_call_marked Tryz.func230 (by kernel_rfl) (by kernel_rfl) (by kernel_rfl) .acquire (by kernel_rfl) a w
theorem zL (a:Addr) (w:World):(callFunc 232 #[.pointer (some a)]).run Tryz.prog w=.ok (.value (.tuple #[])) w:=run_call_marked Tryz.func232 (by kernel_rfl) (by kernel_rfl) (by kernel_rfl) .releaseMerge (by kernel_rfl) a w
theorem vA (a:Addr) (x:Value) (u:FrameMode) (w:World) (hc:w.cell? a=some x) (hz:w.frozen? a=false):
  CallsDIn Fence.wide 0 Tryz.prog 193 #[.pointer (some a),.bool true] u w fun e u' w'=>u'=u∧(e=.returned (.tuple #[])∧w'=w.drew.setCell a (.int .u32 1)):=by
 have DA:w.drew.cell? a=some x:=by go_simp
 have XG:w.drew.frozen? a=false:=by go_simp
 have pK:=run_call_store (P:=Tryz.prog) Tryz.func214 (by kernel_rfl) (by kernel_rfl) (by kernel_rfl) (by kernel_rfl) (k:=.u32) (y:=1) DA XG
 gi_enter_d Tryz.func193,Tryz.ntmps193
 gi_wp2
 gi_region
 all_goals (go_end0;exact⟨rfl,rfl⟩)
theorem E4 (a:Addr) (w:World) (hc:w.cell? a=some (.int .i32 0)) (hz:w.frozen? a=false):
  CallsIn Fence.wide 0 Tryz.prog 212 #[.pointer (some a)] w fun e w'=>e=.returned (.tuple #[])∧w'=w.setCell a (.int .i32 1):=by
 have hd:=qG
 have he:=sy
 have ha:=zK
 have acU:=run_call_cas_hit (P:=Tryz.prog) Tryz.func228 (by kernel_rfl) (by kernel_rfl) (by kernel_rfl) .i32 (by kernel_rfl) (y:=1) hc hz
 have DA:(w.setCell a (.int .i32 1)).cell? a=some (.int .i32 1):=World.cell?_setCell_same w a _ hc
 have hcv:=run_convert_to_unsafe (P:=Tryz.prog) (src:=323) (dst:=289) Tryz.underlying323 Tryz.underlying289 (by kernel_rfl) DA
 gi_enter Tryz.func212,Tryz.ntmps212
 gi_wp2
 first|go_end0|(simp only[Exit.inBlock,Exit.then];refine bodyPost_ret (results_none rfl _ _ _) rfl ?_)|refine bodyPost_ret (results_none rfl _ _ _) rfl ?_
 all_goals (first|exact⟨rfl,rfl⟩|(gi_wp2;go_end0;exact⟨rfl,rfl⟩))
theorem Ia (a:Addr) (w:World) (hc:w.cell? a=some (.int .i32 0)) (hz:w.frozen? a=false):
  CallsIn Fence.wide 0 Tryz.prog 191 #[.pointer (some a)] w fun e w'=>e=.returned (.tuple #[])∧w'=w.setCell a (.int .i32 1):=by
 gi_enter Tryz.func191,Tryz.ntmps191
 gi_wp2_with (gi_at_call 212;refine(E4 a _ hc hz).mono ?_;rintro e w' ⟨rfl,rfl⟩)
 go_end0
 exact⟨rfl,rfl⟩
theorem zM (a:Addr) (w:World) (hc:w.cell? a=some (.int .i32 1)) (hz:w.frozen? a=false):
  CallsIn Fence.wide 0 Tryz.prog 213 #[.pointer (some a)] w fun e w'=>e=.returned (.tuple #[])∧w'=w.setCell a (.int .i32 0):=by
 have hd:=qG
 have he:=sy
 have hr:=zL
 have acW:=run_call_add (P:=Tryz.prog) Tryz.func233 (by kernel_rfl) (by kernel_rfl) (by kernel_rfl) .i32 (by kernel_rfl) (y := -1) (s:=0) hc hz (by simp[go_sem];rfl)
 have hcv:=run_convert_to_unsafe (P:=Tryz.prog) (src:=323) (dst:=289) Tryz.underlying323 Tryz.underlying289 (by kernel_rfl) hc
 gi_enter Tryz.func213,Tryz.ntmps213
 gi_wp2
 all_goals (first|exact⟨rfl,rfl⟩|(go_end0;exact⟨rfl,rfl⟩))
theorem tr (a:Addr) (u:FrameMode) (w:World) (hc:w.cell? a=some (.int .i32 1)) (hz:w.frozen? a=false):
  CallsDIn Fence.wide 0 Tryz.prog 192 #[.pointer (some a)] u w fun e u' w'=>u'=u∧(e=.returned (.tuple #[])∧w'=w.setCell a (.int .i32 0)):=by
 gi_enter_d Tryz.func192,Tryz.ntmps192
 gi_wp2_with (gi_at_call 213;refine(zM a _ hc hz).mono ?_;rintro e w' ⟨rfl,rfl⟩)
 go_end0
 exact⟨rfl,rfl⟩
theorem rH (a:Addr) (d:Int) (w:World) (hc:w.cell? a=some (.int .u32 d)):
  CallsIn Fence.wide 0 Tryz.prog 169 #[.pointer (some a)] w fun e w'=>e=.returned (.bool (d != 0))∧w'=w:=by
 have hl:=run_call_load (P:=Tryz.prog) Tryz.func190 (by kernel_rfl) (by kernel_rfl) (by kernel_rfl) .u32 (by kernel_rfl) hc
 gi_enter Tryz.func169,Tryz.ntmps169
 gi_wp2
 go_ret
 exact⟨rfl,rfl⟩
section
set_option maxHeartbeats 1600000
theorem Mo (b off:Nat) (f:FuncId) (caps:Array Value) (Ib:World→Prop) (w:World)
  (h0:w.cell? ⟨b,off,none⟩=some (.int .u32 0)) (h1:w.cell? ⟨b,off+1,none⟩=some (.int .i32 0)) (f0:w.frozen? ⟨b,off,none⟩=false) (f1:w.frozen? ⟨b,off+1,none⟩=false)
  (hc:gU Tryz.prog f)
  (hf:CallsIn Fence.wide 0 Tryz.prog f caps (w.setCell ⟨b,off+1,none⟩ (.int .i32 1)) fun e w'=>e=.returned (.tuple #[])∧w'.cell? ⟨b,off,none⟩=some (.int .u32 0)∧w'.cell? ⟨b,off+1,none⟩=some (.int .i32 1)∧
   w'.frozen? ⟨b,off,none⟩=false∧w'.frozen? ⟨b,off+1,none⟩=false∧Ib w'):
  CallsIn Fence.wide 0 Tryz.prog 170 #[.pointer (some ⟨b,off,none⟩),.func (.func f) #[] caps] w fun e w'=>e=.returned (.tuple #[])∧
   ∃w1,Ib w1∧w'=(w1.drew.setCell ⟨b,off,none⟩ (.int .u32 1)).setCell ⟨b,off+1,none⟩ (.int .i32 0):=by
 have h01:(w.setCell ⟨b,off+1,none⟩ (.int .i32 1)).cell? ⟨b,off,none⟩=some (.int .u32 0):=((World.cell?_setCell_other _ ⟨b,off+1,none⟩ ⟨b,off,none⟩ _ (by simp)).trans h0)
 have WO:∀(x:Bool) (w:World),(Op.unary .not (.bool x)).run Tryz.prog w=.ok (.bool (!x)) w:=fun _ _=>rfl
 have eV:=fun(args:Array Value) (w:World)=>iI hc args w
 gi_enter_defers Tryz.func170,Tryz.ntmps170
 gi_wp2_with (first|(gi_at_call 169;refine(rH ⟨b,off,none⟩ 0 _ h01).mono ?_;rintro e w' ⟨rfl,rfl⟩)|(gi_at_call 191;refine(Ia ⟨b,off+1,none⟩ _ (by go_simp) (by go_simp)).mono ?_;rintro e w' ⟨rfl,rfl⟩)|(with_reducible refine CallsIn.mono hf ?_;rintro e w1 ⟨rfl,g0,g1,gf0,gf1,bc⟩))
 refine leavesIn_cons (f:=193) (args:=#[.pointer (some ⟨b,off,none⟩),.bool true]) (by simp) (by simp) (by simp[go_sem]) (by simp[Target.leads]) ?_
 refine(vA ⟨b,off,none⟩ (.int .u32 0) .returning _ g0 gf0).mono ?_
 rintro e u' w'' ⟨rfl,rfl,rfl⟩
 refine leavesIn_cons (f:=192) (args:=#[.pointer (some ⟨b,off+1,none⟩)]) (by simp[settle]) (by simp) (by simp[go_sem]) (by simp[Target.leads]) ?_
 refine(tr ⟨b,off+1,none⟩ _ _ ?_ (by simp[gf1])).mono ?_
 ·refine(World.cell?_setCell_other _ ⟨b,off,none⟩ ⟨b,off+1,none⟩ _ (by simp)).trans ?_
  rw[World.cell?_drew]
  exact g1
 rintro e u' w'' ⟨rfl,rfl,rfl⟩
 simp[LeavesIn,settle,results,Tryz.results170]
 exact⟨w1,bc,rfl⟩
theorem Mp (b off:Nat) (f:FuncId) (caps:Array Value) (Ib:World→Prop) (w:World)
  (h0:w.cell? ⟨b,off,none⟩=some (.int .u32 0)) (h1:w.cell? ⟨b,off+1,none⟩=some (.int .i32 0)) (f0:w.frozen? ⟨b,off,none⟩=false) (f1:w.frozen? ⟨b,off+1,none⟩=false)
  (hc:gU Tryz.prog f)
  (hf:CallsIn Fence.wide 0 Tryz.prog f caps (w.setCell ⟨b,off+1,none⟩ (.int .i32 1)) fun e w'=>e=.returned (.tuple #[])∧w'.cell? ⟨b,off,none⟩=some (.int .u32 0)∧w'.cell? ⟨b,off+1,none⟩=some (.int .i32 1)∧
   w'.frozen? ⟨b,off,none⟩=false∧w'.frozen? ⟨b,off+1,none⟩=false∧Ib w'):
  CallsIn Fence.wide 0 Tryz.prog 120 #[.pointer (some ⟨b,off,none⟩),.func (.func f) #[] caps] w fun e w'=>e=.returned (.tuple #[])∧
   ∃w1,Ib w1∧w'=(w1.drew.setCell ⟨b,off,none⟩ (.int .u32 1)).setCell ⟨b,off+1,none⟩ (.int .i32 0):=by
 have WO:∀(x:Bool) (w:World),(Op.unary .not (.bool x)).run Tryz.prog w=.ok (.bool (!x)) w:=fun _ _=>rfl
 gi_enter Tryz.func120,Tryz.ntmps120
 gi_wp2_with (first|(gi_at_call 169;refine(rH ⟨b,off,none⟩ 0 _ h0).mono ?_;rintro e w' ⟨rfl,rfl⟩)|(gi_at_call 170;refine(Mo b off f caps Ib _ h0 h1 f0 f1 hc hf).mono ?_;rintro e w' ⟨rfl,w1,ff,rfl⟩))
 go_end0
 exact⟨rfl,w1,ff,rfl⟩
theorem Mq (a:Addr) (d:Int) (hd:¬d=0) (fv:Value) (w:World) (h0:w.cell? a=some (.int .u32 d)):
  CallsIn Fence.wide 0 Tryz.prog 120 #[.pointer (some a),fv] w fun e w'=>e=.returned (.tuple #[])∧w'=w:=by
 have WO:∀(x:Bool) (w:World),(Op.unary .not (.bool x)).run Tryz.prog w=.ok (.bool (!x)) w:=fun _ _=>rfl
 have cO:(d != 0)=true:=by simp[hd]
 gi_enter Tryz.func120,Tryz.ntmps120
 gi_wp2_with (gi_at_call 169;refine(rH a d _ h0).mono ?_;rintro e w' ⟨rfl,rfl⟩)
 go_end0
 exact⟨rfl,rfl⟩
variable {w w' w1 w2:World} {F:Nat→Nat→Prop} {η aH iU kq:List Value} {hp hp' ff nR:List af} {r r1 r2:AV} {v v1 v2:Value}
theorem eN {u v:Value} (h:aY w F η hp (.ae u) v):v=u:=by cases h;rfl
theorem WQ {o:af} {u:Value} {b:Nat} (cW:fL w F η hp o u) (hl:o.live) (hb:bU u=some b):b<w.heap.size:=by
 cases o with
 |dead=>exact hl.elim
 |box cs=>obtain⟨b',vs,T,rfl,h1,_⟩:=cW;simp only[bU,Option.some.injEq] at hb;subst hb;exact ba h1
 |row e size els=>obtain⟨_,xs,h1,_⟩:=cW;obtain⟨cur,h5⟩:=h1.lt hb;exact ba h5
 |aB es=>obtain⟨b',en,c,rfl,h1,_⟩:=cW;simp only[bU,Option.some.injEq] at hb;subst hb;exact ba h1
 |cA q k=>obtain⟨b',vs,rfl,h1,_⟩:=cW;simp only[bU,Option.some.injEq] at hb;subst hb;exact ba h1
 |aI e size els=>obtain⟨_,xs,h1,_⟩:=cW;obtain⟨cur,h5⟩:=h1.lt hb;exact ba h5
 |dB e m ns=>obtain⟨cur,h5⟩:=eA.lt cW hb;exact ba h5
theorem eg.pre (aJ:oB w F η hp) (h:eg w F η hp w' aH hp' r v):oB w' (bG F w η hp w' aH hp') aH hp':=
 ⟨fun b o hb=>hb.2,h.heap,fun b ⟨r,o,v,g1,g2,g3,g4⟩=>WQ (h.heap.obj r o v g1 g3) g2 g4,aJ.gz.keeps h.keeps aJ.gx,fun b hb hl=>(h.bA b hl).elim (fun hs=>absurd (aJ.gz.lt hb) (by omega)) (aJ.gx b hb)⟩
theorem eg.trans (h:eg w F η hp w1 iU ff r1 v1) (k:eg w1 (bG F w η hp w1 iU ff) iU ff w2 kq nR r2 v2):eg w F η hp w2 kq nR r2 v2:=by
 have JF:∀b o,bG (bG F w η hp w1 iU ff) w1 iU ff w2 kq nR b o→bG F w η hp w2 kq nR b o:=fun b o ⟨h1,h2⟩=>⟨by
  rcases h1 with h1|h1|h1
  ·exact h1.1
  ·exact .inr (.inl (Nat.le_trans h.keeps.size h1))
  ·exact .inr (h.bA b h1),h2⟩
 have hx:Ext w2 (bG (bG F w η hp w1 iU ff) w1 iU ff w2 kq nR) kq nR w2 (bG F w η hp w2 kq nR) kq nR:=⟨fun _ _ _ _ h=>h,fun _ _ _ _ h=>h,JF,fun _ _ h=>h,fun _ _ h=>h,fun _ _ _ h=>h⟩
 exact⟨h.keeps.trans k.keeps (fun i hi hl=>(h.bA i hl).elim (fun h=>absurd hi (by omega)) id),(h.ext.trans k.ext).trans hx,⟨k.heap.len,fun r o v e1 e2=>(k.heap.obj r o v e1 e2).ext hx (Nat.le_refl _) fun _ _ _=>rfl,k.heap.sep⟩,
  fun b hb=>(k.bA b hb).elim (fun h1=>.inl (Nat.le_trans h.keeps.size h1)) (h.bA b),k.rep.ext hx⟩
theorem pt {q o:Nat} {cs:List AV} {b:Nat} {u u0:Value} (aJ:oB w F η hp) (hq:hp[q]?=some (.box cs)) (hb:η[q]?=some (.pointer (some ⟨b,0,none⟩)))
  (hk:bo (fun _=>False) w w1) (hs:w1.heap=w.heap) (hu:u.oneCell'=true) (h0:cs[o]?=some (.ae u0)):
  eg w F η hp (w1.setCell ⟨b,o,none⟩ u) η (hp.set q (.box (cs.set o (.ae u)))) (.aX []) (.tuple #[]):=by
 obtain⟨b',vs,T,e1,e2,e3,e4⟩:=aJ.heap.obj q _ _ hq hb
 cases e1
 have hv:w1.heap[b]?=some (.cells vs T (0,0)):=by rw[hs];exact e2
 have g:=heap_setCell_same w1 b o vs T u hv
 refine xp (vs':=vs.setIfInBounds o u) (T:=T) aJ hq hb ⟨hk.os,hk.tape,hk.output,by simp[hs],fun k _ hk=>?_⟩ (by simp[hs]) g (by simp[e3]) (fun j x y hx hy=>?_) (.aX [] #[] rfl fun j y u hy _=>by cases hy)
 ·rw[heap_setCell_other _ _ _ _ hk,hs]
 ·rw[Array.getElem?_setIfInBounds] at hy
  rw[List.getElem?_set] at hx
  by_cases hj:o=j
  ·subst hj
   rw[if_pos rfl] at hx hy
   split at hx
   ·split at hy
    ·cases hx;cases hy;exact⟨.ae _,hu⟩
    ·cases hy
   ·cases hx
  ·rw[if_neg hj] at hx hy
   exact e4 j x y hx hy
theorem jv {q off:Nat} {f:FuncId} {caps:List AV} {H:List af} {cs:List AV} {R:AV→List af→Prop} (hq:H[q]?=some (.box cs))
  (h0:cs[off]?=some (.ae (.int .u32 0))) (h1:cs[off+1]?=some (.ae (.int .i32 0)))
  (hf:bp Tryz.prog f caps (H.set q (.box (cs.set (off+1) (.ae (.int .i32 1))))) R)
  (hR:∀r h,R r h→r=.aX []∧∃cs',h[q]?=some (.box cs')∧cs'[off]?=some (.ae (.int .u32 0))∧cs'[off+1]?=some (.ae (.int .i32 1))):
  bp Tryz.prog 120 [.ptr q off,.aK f caps] H (fun r h'=>r=.aX []∧∃h cs',R (.aX []) h∧h[q]?=some (.box cs')∧h'=h.set q (.box ((cs'.set off (.ae (.int .u32 1))).set (off+1) (.ae (.int .i32 0))))):=by
 refine⟨⟨_,Tryz.func120,by kernel_rfl,by kernel_rfl⟩,fun w F η aU aJ hv=>?_⟩
 match aU,hv with
 | [v0,v1],⟨r0,r1,_⟩=>
  obtain⟨b,rfl,hb⟩:∃b,v0=.pointer (some ⟨b,off,none⟩)∧η[q]?=some (.pointer (some ⟨b,0,none⟩)):=by cases r0 with|ptr _ _ b h1=>exact⟨b,rfl,h1⟩
  obtain⟨cv,rfl,hl,hc⟩:∃cv:Array Value,v1=.func (.func f) #[] cv∧cv.size=caps.length∧∀(j:Nat) (x:AV) (u:Value),caps[j]?=some x→cv[j]?=some u→aY w F η H x u:=by cases r1 with|aK _ _ cv hl hc=>exact⟨cv,rfl,hl,hc⟩
  obtain⟨b',vs,T,e1,e2,e3,e4⟩:=aJ.heap.obj q _ _ hq hb
  cases e1
  have cell:∀{k:Nat} {u:Value},cs[k]?=some (.ae u)→w.cell? ⟨b,k,none⟩=some u:=fun {k u} hk=>by
   have ak:k<vs.size:=by rw[e3];exact(List.getElem?_eq_some_iff.1 hk).1
   have he:=eN (e4 k _ _ hk (Array.getElem?_eq_getElem ak)).1
   simp only[World.cell?,e2]
   rw[Array.getElem?_eq_getElem ak,he];rfl
  have WR:∀k,w.frozen? ⟨b,k,none⟩=false:=fun k=>by simp[World.frozen?,e2]
  have p1:=pt (u:=.int .i32 1) aJ hq hb (bo.refl _ w) rfl rfl h1
  have aak:=p1.pre aJ
  have jc:=hf.2 _ _ _ cv.toList aak (cf (by simpa using hl) fun j x u hx hu=>(hc j x u hx (by simpa using hu)).ext p1.ext)
  have AU:q<H.length:=(List.getElem?_eq_some_iff.1 hq).1
  refine(Mp b off f cv (fun w2=>∃h kq,R (.aX []) h∧eg w F η H w2 kq h (.aX []) (.tuple #[])∧kq[q]?=some (.pointer (some ⟨b,0,none⟩))) w (cell h0) (cell h1) (WR _) (WR _) hf.1 (jc.mono ?_)).mono ?_
  ·rintro e w2 ⟨v,r,h,kq,rfl,hr,bc⟩
   obtain⟨rfl,cs',Rh,k0,k1⟩:=hR r h hr
   have hv:v=.tuple #[]:=by
    have:=bc.rep
    cases this with
    |aX _ vs hl _=>cases vs with|mk l=>cases l with|nil=>rfl|cons=>simp at hl
   subst hv
   have Rn:=bc.ext.ptr q _ hb
   obtain⟨b2,WS,T2,g1,g2,g3,g4⟩:=bc.heap.obj q _ _ Rh Rn
   cases g1
   have Ro:∀{k:Nat} {u:Value},cs'[k]?=some (.ae u)→w2.cell? ⟨b,k,none⟩=some u:=fun {k u} hk=>by
    have ak:k<WS.size:=by rw[g3];exact(List.getElem?_eq_some_iff.1 hk).1
    have he:=eN (g4 k _ _ hk (Array.getElem?_eq_getElem ak)).1
    simp only[World.cell?,g2]
    rw[Array.getElem?_eq_getElem ak,he];rfl
   exact⟨rfl,Ro k0,Ro k1,by simp[World.frozen?,g2],by simp[World.frozen?,g2],h,kq,hr,p1.trans bc,Rn⟩
  ·rintro e w3 ⟨rfl,w2,⟨h,kq,hr,bc,Rn⟩,rfl⟩
   obtain⟨_,cs',Rh,k0,k1⟩:=hR _ h hr
   have WT:=bc.pre aJ
   have p3:=pt (w1:=w2.drew) (u:=.int .u32 1) WT Rh Rn ⟨rfl,rfl,rfl,Nat.le_refl _,fun _ _ _=>rfl⟩ rfl rfl k0
   have hq3:(h.set q (.box (cs'.set off (.ae (.int .u32 1)))))[q]?=some (.box (cs'.set off (.ae (.int .u32 1)))):=by
    rw[List.getElem?_set,if_pos rfl,if_pos (List.getElem?_eq_some_iff.1 Rh).1]
   have p4:=pt (u:=.int .i32 0) (p3.pre WT) hq3 Rn (bo.refl _ _) rfl rfl (o:=off+1) (u0:=.int .i32 1) (by rw[List.getElem?_set,if_neg (by omega)];exact k1)
   refine⟨_,.aX [],_,kq,rfl,⟨rfl,h,cs',hr,Rh,rfl⟩,?_⟩
   have iV:=bc.trans p3
   have:=bc.trans (p3.trans p4)
   rwa [List.set_set] at this
theorem jw {q off:Nat} {f:FuncId} {caps:List AV} {H:List af} {cs:List AV} {d:Int} (hq:H[q]?=some (.box cs)) (h0:cs[off]?=some (.ae (.int .u32 d))) (hd:¬d=0):
  bp Tryz.prog 120 [.ptr q off,.aK f caps] H (fun r h'=>r=.aX []∧h'=H):=by
 refine⟨⟨_,Tryz.func120,by kernel_rfl,by kernel_rfl⟩,fun w F η aU aJ hv=>?_⟩
 match aU,hv with
 | [v0,v1],⟨r0,r1,_⟩=>
  obtain⟨b,rfl,hb⟩:∃b,v0=.pointer (some ⟨b,off,none⟩)∧η[q]?=some (.pointer (some ⟨b,0,none⟩)):=by cases r0 with|ptr _ _ b h1=>exact⟨b,rfl,h1⟩
  obtain⟨b',vs,T,e1,e2,e3,e4⟩:=aJ.heap.obj q _ _ hq hb
  cases e1
  have ak:off<vs.size:=by rw[e3];exact(List.getElem?_eq_some_iff.1 h0).1
  have ay:w.cell? ⟨b,off,none⟩=some (.int .u32 d):=by
   have he:=eN (e4 off _ _ h0 (Array.getElem?_eq_getElem ak)).1
   simp only[World.cell?,e2]
   rw[Array.getElem?_eq_getElem ak,he];rfl
  refine(Mq ⟨b,off,none⟩ d hd _ w ay).mono ?_
  rintro e w' ⟨rfl,rfl⟩
  refine⟨_,.aX [],_,η,rfl,⟨rfl,rfl⟩,?_⟩
  have:=xp (cs':=cs) (r0:=.aX []) (v:=.tuple #[]) aJ hq hb (bo.refl _ _) rfl e2 e3 e4 (.aX [] #[] rfl fun j y u hy _=>by cases hy)
  have ou:H.set q (.box cs)=H:=by
   obtain⟨hl,he⟩:=List.getElem?_eq_some_iff.1 hq
   rw[←he];exact List.set_getElem_self hl
  rwa [ou] at this
end
set_option maxHeartbeats 3200000
theorem Rp (i:Nat) (h:i<1000000):IntKind.wrap .i64 (Int.tdiv (i:Int) 64)=((i / 64:Nat):Int):=by
 have:Int.tdiv (i:Int) 64=((i / 64:Nat):Int):=by rw[Int.tdiv_eq_ediv_of_nonneg (by omega)];omega
 rw[this]
 exact IntWalk.i64_in _ (by omega)
theorem Rq (i:Nat):Int.tmod (i:Int) 64=((i % 64:Nat):Int):=by rw[Int.tmod_eq_emod_of_nonneg (by omega)];omega
theorem Qn (x k:Nat) (hx:x<2 ^ 64):(bits .and .u64 ((x:Int) / 2 ^ k) 1==1)=x.testBit k:=by
 have e:(x:Int) / 2 ^ k=((x / 2 ^ k:Nat):Int):=by simp
 have ak:x / 2 ^ k<18446744073709551616:=Nat.lt_of_le_of_lt (Nat.div_le_self _ _) hx
 rw[e,show (1:Int)=((1:Nat):Int) from rfl,bits_and_u64_nat _ _ ak (by omega),Nat.testBit,Nat.shiftRight_eq_div_pow,Nat.and_comm]
 have h2:1 &&& x / 2 ^ k=(x / 2 ^ k) % 2:=by rw[Nat.and_comm,Nat.and_one_is_mod]
 rw[h2]
 rcases Nat.mod_two_eq_zero_or_one (x / 2 ^ k) with h|h<;>rw[h]<;>rfl
theorem CZ (b o n c:Nat) (f:Nat→Nat) (i:Nat) (w:World) (hi:i / 64<n) (Xx:i<1000000) (hc:∀j,j<n→w.cell? ⟨b,o+j,none⟩=some (.int .u64 (f j))) (hf:∀j,f j<2 ^ 64):
  Calls Tryz.prog 119 #[.slice (some ⟨b,o,none⟩) n c,.int .i64 i] w fun e w'=>e=.returned (.bool ((f (i / 64)).testBit (i % 64)))∧w'=w:=by
 have h1:=hc (i / 64) hi
 have q:=Rp i Xx
 have r:=Rq i
 go_enter Tryz.func119,Tryz.ntmps119
 go_wp2
 go_ret
 exact⟨congrArg Ending.returned (congrArg Value.bool (Qn _ _ (hf _))),rfl⟩
theorem Tg (x k:Nat) (hx:x<2 ^ 64) (hk:k<64):bits .or .u64 (x:Int) (IntKind.wrap .u64 (2 ^ k))=((x ||| 2 ^ k:Nat):Int):=by
 have h2:2 ^ k<18446744073709551616:=Nat.lt_of_le_of_lt (Nat.pow_le_pow_right (by omega) (show k≤63 by omega)) (by decide)
 have e:IntKind.wrap .u64 (2 ^ k)=((2 ^ k:Nat):Int):=by
  rw[show ((2:Int) ^ k)=((2 ^ k:Nat):Int) by simp]
  exact Int.emod_eq_of_lt (Int.natCast_nonneg _) (by exact_mod_cast h2)
 rw[e,bits_or_u64_nat _ _ hx h2]
structure jT (b:Nat) (t:TypeId) (n:Nat) (f g:Nat→Nat) (w:World) (r:Nat) (wr:World):Prop where
 row:wr.rowIs b t n (fun j=>.int .u64 (if j<r then(f j ||| g j:Nat) else f j))
 keeps:bo (fun k=>k=b) w wr
 size:wr.heap.size=w.heap.size
theorem jT.start {b:Nat} {t:TypeId} {n:Nat} {f g:Nat→Nat} {w:World} (hc:w.rowIs b t n (fun j=>.int .u64 (f j))):jT b t n f g w 0 w:=
 ⟨hc.congr (fun j _=>by simp),bo.refl _ _,rfl⟩
theorem jT.here {b:Nat} {t:TypeId} {n:Nat} {f g:Nat→Nat} {w wr:World} {r:Nat} (h:jT b t n f g w r wr) (hr:r<n):wr.cell? ⟨b,r,none⟩=some (.int .u64 (f r)):=by
 have:=h.row.cell hr
 simpa using this
theorem jT.there {b b2:Nat} {t:TypeId} {n:Nat} {f g:Nat→Nat} {w wr:World} {r:Nat} (h:jT b t n f g w r wr) (hr:r<n) (hs:b=b2→∀j,f j=g j) (hg:w.cell? ⟨b2,r,none⟩=some (.int .u64 (g r))):
  wr.cell? ⟨b2,r,none⟩=some (.int .u64 (g r)):=by
 by_cases e:b=b2
 ·subst e;rw[←hs rfl r];exact h.here hr
 ·rw[h.keeps.cell (World.block_lt_of_cell? _ _ hg) (fun e2=>e e2.symm)];exact hg
theorem jT.step {b:Nat} {t:TypeId} {n:Nat} {f g:Nat→Nat} {w wr:World} {r:Nat} (h:jT b t n f g w r wr) (hr:r<n):jT b t n f g w (r+1) (wr.setCell ⟨b,r,none⟩ (.int .u64 ((f r ||| g r:Nat)))).drew:=by
 refine⟨((h.row.set r _).congr fun j _=>?_).drew,⟨h.keeps.os,h.keeps.tape,h.keeps.output,by simpa using h.keeps.size,fun k h1 h2=>?_⟩,by simp[h.size]⟩
 ·by_cases e:j=r
  ·subst e;simp
  ·rw[if_neg e]
   by_cases hl:j<r
   ·rw[if_pos hl,if_pos (by omega)]
   ·rw[if_neg hl,if_neg (by omega)]
 ·show (wr.setCell _ _).heap[k]?=_
  rw[heap_setCell_other _ _ _ _ h2]
  exact h.keeps.block k h1 h2
theorem Mr (b n c:Nat) (t:TypeId) (f:Nat→Nat) (i:Nat) (w:World) (hi:i / 64<n) (Xx:i<1000000) (hc:w.rowIs b t n (fun j=>.int .u64 (f j))) (hf:∀j,f j<2 ^ 64):
  Calls Tryz.prog 167 #[.slice (some ⟨b,0,none⟩) n c,.int .i64 i] w fun e w'=>e=.returned (.tuple #[])∧w'=(w.setCell ⟨b,i / 64,none⟩ (.int .u64 ((f (i / 64) ||| 2 ^ (i % 64):Nat)))).drew:=by
 have h1:w.cell? ⟨b,i / 64,none⟩=some (.int .u64 (f (i / 64))):=hc.cell hi
 have h2:w.frozen? ⟨b,i / 64,none⟩=false:=hc.frozen _
 have q:=Rp i Xx
 have r:=Rq i
 go_enter Tryz.func167,Tryz.ntmps167
 go_wp2
 go_big_region
 rw[Tg _ _ (hf _) (Nat.mod_lt _ (by omega))]
 go_end0
 exact⟨rfl,rfl⟩
theorem Ic (b b2 n c c2 n2:Nat) (t:TypeId) (f g:Nat→Nat) (w:World) (hn:n≤n2) (hnb:n≤1000000) (hc:w.rowIs b t n (fun j=>.int .u64 (f j))) (hg:∀j,j<n→w.cell? ⟨b2,j,none⟩=some (.int .u64 (g j)))
  (hf:∀j,f j<2 ^ 64) (hg2:∀j,g j<2 ^ 64) (hs:b=b2→∀j,f j=g j):
  Calls Tryz.prog 168 #[.slice (some ⟨b,0,none⟩) n c,.slice (some ⟨b2,0,none⟩) n2 c2] w fun e w'=>e=.returned (.tuple #[])∧jT b t n f g w n w':=by
 go_enter Tryz.func168,Tryz.ntmps168
 go_wp2
 go_loopg [4,7] n (fun k s4 s7 wr=>∃r:Nat,r≤n∧k=n-r∧s7=.int .i64 r∧jT b t n f g w r wr)
 case atStart=>exact⟨0,Nat.zero_le _,rfl,rfl,jT.start hc⟩
 case round=>
  obtain⟨r,hr,rfl,rfl,hJ⟩:=hrel
  by_cases TA:r<n
  ·have hrz:(r:Int)<(n:Int):=by omega
   have h1:wr.cell? ⟨b,r,none⟩=some (.int .u64 (f r)):=hJ.here TA
   have h2:wr.frozen? ⟨b,r,none⟩=false:=hJ.row.frozen r
   have h3:wr.cell? ⟨b2,r,none⟩=some (.int .u64 (g r)):=hJ.there TA hs (hg r TA)
   have h4:=bits_or_u64_nat (f r) (g r) (hf r) (hg2 r)
   go_wp2
   go_big_region
   go_wp2
   go_roundg (n-(r+1))
   case measure=>go_light;omega
   case rel=>go_light;exact⟨r+1,by omega,rfl,by simp,hJ.step TA⟩
  ·have hrz:¬((r:Int)<(n:Int)):=by omega
   go_wp2
   go_end0
   obtain rfl:r=n:=by omega
   exact⟨rfl,hJ⟩
abbrev ZZ:=Nat→Nat→Nat
def dQ (Z:ZZ) (a b:Nat):Bool:=(Z a (b / 64)).testBit (b % 64)
def C0 (Z:ZZ) (a b:Nat):ZZ:=fun r c=>if r=a∧c=b / 64 then Z a (b / 64) ||| 2 ^ (b % 64) else Z r c
def cI (P:Nat→Nat×Nat):Nat→ZZ
 |0=>fun _ _=>0
 |m+1=>C0 (cI P m) (P m).1 (P m).2
def sA (Z:ZZ) (i k:Nat):ZZ:=fun r c=>if r=i then Z i c ||| Z k c else Z r c
def C1 (k i:Nat) (Z:ZZ):ZZ:=if dQ Z i k then sA Z i k else Z
def tT (k:Nat):Nat→ZZ→ZZ
 |0,Z=>Z
 |i+1,Z=>C1 k i (tT k i Z)
def eO (n:Nat):Nat→ZZ→ZZ
 |0,Z=>Z
 |k+1,Z=>tT k n (eO n k Z)
def cp (Z:ZZ):Prop:=∀r c,Z r c<2 ^ 64
theorem cp.put {Z:ZZ} (h:cp Z) (a b:Nat):cp (C0 Z a b):=fun r c=>by
 unfold C0
 split
 ·exact Nat.or_lt_two_pow (h _ _) (Nat.pow_lt_pow_right (by omega) (Nat.mod_lt _ (by omega)))
 ·exact h r c
theorem cp.Qo (P:Nat→Nat×Nat):∀m,cp (cI P m)
 |0=>fun _ _=>by simp[cI]
 |m+1=>(cp.Qo P m).put _ _
theorem cp.join {Z:ZZ} (h:cp Z) (i k:Nat):cp (sA Z i k):=fun r c=>by
 unfold sA
 split
 ·exact Nat.or_lt_two_pow (h _ _) (h _ _)
 ·exact h r c
theorem cp.row {Z:ZZ} (h:cp Z) (k i:Nat):cp (C1 k i Z):=by
 unfold C1;split
 ·exact h.join _ _
 ·exact h
theorem cp.inn {Z:ZZ} (h:cp Z) (k:Nat):∀i,cp (tT k i Z)
 |0=>h
 |i+1=>(cp.inn h k i).row _ _
theorem cp.war {Z:ZZ} (h:cp Z) (n:Nat):∀k,cp (eO n k Z)
 |0=>h
 |k+1=>(cp.war h n k).inn _ _
def zN (N K r:Nat):Nat→Value:=fun j=>if j<r then .slice (some ⟨N+1+j,0,none⟩) K K else .slice none 0 0
structure cj (w wr:World) (n K r:Nat) (Z:ZZ):Prop where
 since:w.Since w.heap.size wr
 size:w.heap.size+1+r≤wr.heap.size
 top:wr.rowIs w.heap.size 192 n (zN w.heap.size K r)
 rows:∀j,j<r→wr.rowIs (w.heap.size+1+j) 262 K (fun c=>.int .u64 (Z j c))
theorem cj.start (w:World) (n K:Nat) (Z:ZZ):cj w (w.alloc (.cells (madeCells #[.slice none 0 0] n) 192)) n K 0 Z:=
 ⟨(World.Since.refl _ _).alloc (Nat.le_refl _) _,by simp,(World.rowIs_made w _ n 192).congr (fun j _=>by simp[zN]),fun j hj=>absurd hj (Nat.not_lt_zero _)⟩
theorem cj.more {w wr:World} {n K r:Nat} (h:cj w wr n K r (fun _ _=>0)) (hs:wr.heap.size=w.heap.size+1+r):
  cj w ((wr.alloc (.cells (madeCells #[.int .u64 0] K) 262)).setCell ⟨w.heap.size,r,none⟩ (.slice (some ⟨w.heap.size+1+r,0,none⟩) K K)) n K (r+1) (fun _ _=>0):=by
 have nb:=World.rowIs_made wr (.int .u64 0) K 262
 rw[hs] at nb
 refine⟨(h.since.alloc (by rw[hs];omega) _).setCell (Nat.le_refl _) _,by simp[hs];omega,((h.top.alloc _).set r _).congr (fun j _=>?_),fun j hj=>?_⟩
 ·simp only[zN]
  by_cases e:j=r
  ·subst e;simp
  ·rw[if_neg e]
   by_cases ak:j<r
   ·rw[if_pos ak,if_pos (by omega)]
   ·rw[if_neg ak,if_neg (by omega)]
 ·by_cases e:j=r
  ·subst e
   exact(nb.setOther (by show w.heap.size+1+j≠w.heap.size;omega) _).congr (fun i _=>by simp)
  ·exact((h.rows j (by omega)).alloc _).setOther (by show w.heap.size+1+j≠w.heap.size;omega) _
theorem cj.sized {w wr:World} {n K r:Nat} (hs:wr.heap.size=w.heap.size+1+r):((wr.alloc (.cells (madeCells #[.int .u64 0] K) 262)).setCell ⟨w.heap.size,r,none⟩ (.slice (some ⟨w.heap.size+1+r,0,none⟩) K K)).heap.size=w.heap.size+1+(r+1):=by simp[hs];omega
theorem cj.alloc {w wr:World} {n K r:Nat} {Z:ZZ} (h:cj w wr n K r Z) (o:Obj):cj w (wr.alloc o) n K r Z:=
 ⟨h.since.alloc (by have:=h.size;omega) _,by have:=h.size;simp;omega,h.top.alloc _,fun j hj=>(h.rows j hj).alloc _⟩
theorem cj.drew {w wr:World} {n K r:Nat} {Z:ZZ} (h:cj w wr n K r Z):cj w wr.drew n K r Z:=⟨h.since.drew,h.size,h.top.drew,fun j hj=>(h.rows j hj).drew⟩
theorem cj.put {w wr:World} {n K r a b:Nat} {Z:ZZ} (h:cj w wr n K r Z) (ha:a<r):cj w (wr.setCell ⟨w.heap.size+1+a,b / 64,none⟩ (.int .u64 ((Z a (b / 64) ||| 2 ^ (b % 64):Nat)))) n K r (C0 Z a b):=by
 refine⟨h.since.setCell (by show w.heap.size≤w.heap.size+1+a;omega) _,by simpa using h.size,h.top.setOther (by show w.heap.size≠w.heap.size+1+a;omega) _,fun j hj=>?_⟩
 by_cases e:j=a
 ·subst e
  refine((h.rows j hj).set (b / 64) _).congr fun i _=>?_
  unfold C0
  by_cases e2:i=b / 64
  ·subst e2;simp
  ·simp[e2]
 ·refine((h.rows j hj).setOther (by show w.heap.size+1+j≠w.heap.size+1+a;omega) _).congr fun i _=>?_
  unfold C0
  simp[e]
theorem cj.join {w wr wx:World} {n K r a b:Nat} {t:TypeId} {Z:ZZ} (h:cj w wr n K r Z) (ha:a<r) (hb:b<r) (hJ:jT (w.heap.size+1+a) t K (Z a) (Z b) wr K wx) (ht:t=262):cj w wx n K r (sA Z a b):=by
 subst ht
 have bU:∀k,k<wr.heap.size→k≠w.heap.size+1+a→wx.heap[k]?=wr.heap[k]?:=fun k h1 h2=>hJ.keeps.block k h1 h2
 have hs:=h.size
 refine⟨⟨hJ.keeps.os.trans h.since.os,hJ.keeps.tape.trans h.since.tape,hJ.keeps.output.trans h.since.output,by rw[hJ.size];exact h.since.size,fun k hk=>by rw[bU k (by omega) (by omega)];exact h.since.block k hk⟩,
  by rw[hJ.size];exact h.size,h.top.of_block (bU _ (by omega) (by omega)),fun j hj=>?_⟩
 by_cases e:j=a
 ·subst e
  refine hJ.row.congr fun i hi=>?_
  simp[sA,hi]
 ·refine((h.rows j hj).of_block (bU _ (by omega) (by omega))).congr fun i _=>?_
  simp[sA,e]
theorem cj.cell {w wr:World} {n K r:Nat} {Z:ZZ} (h:cj w wr n K r Z) {a:Nat} (ha:a<r) (hn:a<n):wr.cell? ⟨w.heap.size,a,none⟩=some (.slice (some ⟨w.heap.size+1+a,0,none⟩) K K):=by
 rw[h.top.cell hn,zN,if_pos ha]
set_option maxHeartbeats 6400000 in
set_option maxRecDepth 1000000 in
theorem Ie (pb rb n m pc B O K:Nat) (hKe:K=(n+63) / 64) (pA:Option Addr) (P:Nat→Nat×Nat) (x6:Value) (w:World) (hp:w.cell? ⟨pb,0,none⟩=some (.pointer (some ⟨rb,0,none⟩))) (h0:w.cell? ⟨rb,0,none⟩=some (.int .i64 n))
  (h1:w.cell? ⟨rb,1,none⟩=some (.slice pA m pc)) (hA:0<m→pA=some ⟨B,O,none⟩) (hP:∀i,i<m→w.cell? ⟨B,O+i*2,none⟩=some (.int .i64 (P i).1)∧w.cell? ⟨B,O+i*2+1,none⟩=some (.int .i64 (P i).2))
  (hn:n≤1000) (hm:m≤1000000) (WU:∀i,i<m→(P i).1<n∧(P i).2<n) (h6:w.cell? ⟨rb,6,none⟩=some x6) (f6:w.frozen? ⟨rb,6,none⟩=false):
  Calls Tryz.prog 166 #[.pointer (some ⟨pb,0,none⟩)] w fun e w'=>e=.returned (.tuple #[])∧∃wr,cj w wr n K n (eO n n (cI P m))∧w'=wr.setCell ⟨rb,6,none⟩ (.slice (some ⟨w.heap.size,0,none⟩) n n):=by
 have aao:=run_make_row' (P:=Tryz.prog) 142 192 (.slice none 0 0) 24 Tryz.underlying142 (by kernel_rfl) rfl .i64 .i64 n (by omega) (by omega)
 have hK:((n:Int)+64-1) / 64=(K:Int):=by omega
 have hK1:K≤16:=by omega
 have hpb:pb<w.heap.size:=World.block_lt_of_cell? _ _ hp
 have TB:rb<w.heap.size:=World.block_lt_of_cell? _ _ h0
 clear hKe
 go_enter Tryz.func166,Tryz.ntmps166
 go_wp2
 clear aao
 go_loopg [2,14] n (fun g s2 i wr=>∃r:Nat,r≤n∧g=n-r∧i=.int .i64 r∧cj w wr n K r (fun _ _=>0)∧wr.heap.size=w.heap.size+1+r)
 case atStart=>exact⟨0,Nat.zero_le _,rfl,rfl,cj.start w n _ _,by simp⟩
 case round=>
  obtain⟨r,hr,rfl,rfl,hO,bC⟩:=hrel
  have g0:wr.cell? ⟨pb,0,none⟩=some (.pointer (some ⟨rb,0,none⟩)):=by rw[hO.since.cell (a:=⟨pb,0,none⟩) hpb];exact hp
  by_cases TA:r<n
  ·have hrz:(r:Int)<(n:Int):=by omega
   have g1:wr.cell? ⟨rb,0,none⟩=some (.int .i64 n):=by rw[hO.since.cell (a:=⟨rb,0,none⟩) TB];exact h0
   have ac4:∀o,(wr.alloc o).cell? ⟨w.heap.size,r,none⟩=some (zN w.heap.size K r r):=fun o=>(hO.top.alloc o).cell TA
   have ac5:∀o,(wr.alloc o).frozen? ⟨w.heap.size,r,none⟩=false:=fun o=>(hO.top.alloc o).frozen r
   have ac6:=run_make_row' (P:=Tryz.prog) 192 262 (.int .u64 0) 8 Tryz.underlying192 (by kernel_rfl) rfl .i64 .i64 K (by omega) (by omega)
   have uQ:=hO.more bC
   have hny:=cj.sized (n:=n) (K:=K) bC
   have hH:Aside (cj w ((wr.alloc (.cells (madeCells #[.int .u64 0] K) 262)).setCell ⟨w.heap.size,r,none⟩ (.slice (some ⟨w.heap.size+1+r,0,none⟩) K K)) n K (r+1) (fun _ _=>0)∧((wr.alloc (.cells (madeCells #[.int .u64 0] K) 262)).setCell ⟨w.heap.size,r,none⟩ (.slice (some ⟨w.heap.size+1+r,0,none⟩) K K)).heap.size=w.heap.size+1+(r+1)):=⟨uQ,hny⟩
   clear uQ hny hO
   go_wp2
   go_roundg (n-(r+1))
   case measure=>go_light;omega
   case rel=>go_light;exact⟨r+1,by omega,rfl,by simp,hH.out.1,hH.out.2⟩
  ·have hrz:¬((r:Int)<(n:Int)):=by omega
   obtain rfl:r=n:=by omega
   have g2:wr.cell? ⟨rb,1,none⟩=some (.slice pA m pc):=by rw[hO.since.cell (a:=⟨rb,1,none⟩) TB];exact h1
   have H0:Aside (cj w wr r K r (fun _ _=>0)):=hO
   clear hO bC
   go_wp2
   clear g0 g2
   go_loopg [4,34] m (fun g s4 i wx=>∃q:Nat,q≤m∧g=m-q∧i=.int .i64 q∧cj w wx r K r (cI P q))
   case atStart=>exact⟨0,Nat.zero_le _,rfl,rfl,H0.out⟩
   case round=>
    obtain⟨q,hq,rfl,rfl,hO⟩:=hrel
    by_cases WV:q<m
    ·obtain rfl:=hA (by omega)
     have hqz:(q:Int)<(m:Int):=by omega
     have hB:B<w.heap.size:=World.block_lt_of_cell? _ _ (hP q WV).1
     have g3:wr.cell? ⟨B,O+q*2,none⟩=some (.int .i64 (P q).1):=by rw[hO.since.cell (a:=⟨B,O+q*2,none⟩) hB];exact(hP q WV).1
     have g4:wr.cell? ⟨B,O+q*2+1,none⟩=some (.int .i64 (P q).2):=by rw[hO.since.cell (a:=⟨B,O+q*2+1,none⟩) hB];exact(hP q WV).2
     have ff:=(WU q WV).1
     have nR:=(WU q WV).2
     have bW:=((hO.alloc (.cells #[.int .i64 (P q).1,.int .i64 (P q).2] 90)).rows (P q).1 ff)
     have g5:∀o,(wr.alloc o).cell? ⟨w.heap.size,(P q).1,none⟩=some (.slice (some ⟨w.heap.size+1+(P q).1,0,none⟩) K K):=fun o=>(hO.alloc o).cell ff ff
     have aap:=Mr (w.heap.size+1+(P q).1) K K 262 (cI P q (P q).1) (P q).2 _ (by omega) (by omega) bW.drew ((cp.Qo P q) _)
     have bD:=((hO.alloc (.cells #[.int .i64 (P q).1,.int .i64 (P q).2] 90)).drew.put (b:=(P q).2) ff).drew
     have hN:Aside (cj w (((wr.alloc (.cells #[.int .i64 (P q).1,.int .i64 (P q).2] 90)).drew.setCell ⟨w.heap.size+1+(P q).1,(P q).2 / 64,none⟩ (.int .u64 ((cI P q (P q).1 ((P q).2 / 64) ||| 2 ^ ((P q).2 % 64):Nat)))).drew) r K r (cI P (q+1))):=bD
     clear bD bW hO
     go_wp2
     go_region_with (go_at_call 167;refine aap.mono ?_;rintro e w' ⟨rfl,rfl⟩)
     all_goals
      (go_wp2
       go_roundg (m-(q+1))
       case measure=>go_light;omega
       case rel=>go_light;exact⟨q+1,by omega,rfl,by simp,hN.out⟩)
    ·have hqz:¬((q:Int)<(m:Int)):=by omega
     obtain rfl:q=m:=by omega
     clear H0 hP hA WU
     have H1:Aside (cj w wr r K r (eO r 0 (cI P q))):=hO
     clear hO
     go_wp2
     go_loopg [5,49] r (fun g s5 i wx=>∃k:Nat,k≤r∧g=r-k∧i=.int .i64 k∧cj w wx r K r (eO r k (cI P q)))
     case atStart=>exact⟨0,Nat.zero_le _,rfl,rfl,H1.out⟩
     case round=>
      obtain⟨k,hk,rfl,rfl,hO⟩:=hrel
      by_cases FD:k<r
      ·have hkz:(k:Int)<(r:Int):=by omega
       have H2:Aside (cj w wr r K r (tT k 0 (eO r k (cI P q)))):=hO
       clear hO
       go_wp2
       go_loopg [6,54] r (fun g s6 i wx=>∃j:Nat,j≤r∧g=r-j∧i=.int .i64 j∧cj w wx r K r (tT k j (eO r k (cI P q))))
       case atStart=>exact⟨0,Nat.zero_le _,rfl,rfl,H2.out⟩
       case round=>
        obtain⟨j,hj,rfl,rfl,hO⟩:=hrel
        by_cases WW:j<r
        ·have hjz:(j:Int)<(r:Int):=by omega
         have jz:cp (tT k j (eO r k (cI P q))):=cp.inn (cp.war (cp.Qo P q) r k) k j
         have g6:=hO.cell WW WW
         have g7:=hO.cell FD FD
         have WX:=CZ (w.heap.size+1+j) 0 K K (tT k j (eO r k (cI P q)) j) k wr (by omega) (by omega) (fun i hi=>by rw[Nat.zero_add];exact(hO.rows j WW).cell hi) (jz j)
         have Rr:=Ic (w.heap.size+1+j) (w.heap.size+1+k) K K K K 262 (tT k j (eO r k (cI P q)) j) (tT k j (eO r k (cI P q)) k) wr.drew (Nat.le_refl _) (by omega) (hO.rows j WW).drew (fun i hi=>(hO.rows k FD).drew.cell hi) (jz j) (jz k) (fun e i=>by rw[show j=k by omega])
         have hA1:Aside (dQ (tT k j (eO r k (cI P q))) j k=false→cj w wr r K r (tT k (j+1) (eO r k (cI P q)))):=fun hb=>by
          show cj w wr r K r (C1 k j _)
          rw[C1,hb];exact hO
         have hA2:Aside (dQ (tT k j (eO r k (cI P q))) j k=true→∀wx,jT (w.heap.size+1+j) 262 K (tT k j (eO r k (cI P q)) j) (tT k j (eO r k (cI P q)) k) wr.drew K wx→cj w wx r K r (tT k (j+1) (eO r k (cI P q)))):=fun hb wx hJ=>by
          show cj w wx r K r (C1 k j _)
          rw[C1,hb];exact hO.drew.join WW FD hJ rfl
         clear hO jz
         cases hb:dQ (tT k j (eO r k (cI P q))) j k
         ·have er:(tT k j (eO r k (cI P q)) j (k / 64)).testBit (k % 64)=false:=hb
          clear Rr
          go_wp2_with (go_at_call 119;refine WX.mono ?_;rintro e w' ⟨rfl,rfl⟩)
          go_roundg (r-(j+1))
          case measure=>go_light;omega
          case rel=>go_light;exact⟨j+1,by omega,rfl,by simp,hA1.out hb⟩
         ·have er:(tT k j (eO r k (cI P q)) j (k / 64)).testBit (k % 64)=true:=hb
          go_wp2_with (go_at_call 119;refine WX.mono ?_;rintro e w' ⟨rfl,rfl⟩)
          go_region_with (go_at_call 168;refine Rr.mono ?_;rintro e w' ⟨rfl,hJ⟩)
          all_goals
           (have hN:=hA2.out hb _ hJ
            go_wp2
            go_roundg (r-(j+1))
            case measure=>go_light;omega
            case rel=>go_light;exact⟨j+1,by omega,rfl,by simp,hN⟩)
        ·have hjz:¬((j:Int)<(r:Int)):=by omega
         obtain rfl:j=r:=by omega
         have H3:Aside (cj w wr j K j (eO j (k+1) (cI P q))):=hO
         clear hO
         go_wp2
         go_roundg (j-(k+1))
         case measure=>go_light;omega
         case rel=>go_light;exact⟨k+1,by omega,rfl,by simp,H3.out⟩
      ·have hkz:¬((k:Int)<(r:Int)):=by omega
       obtain rfl:k=r:=by omega
       have g0:wr.cell? ⟨pb,0,none⟩=some (.pointer (some ⟨rb,0,none⟩)):=by rw[hO.since.cell (a:=⟨pb,0,none⟩) hpb];exact hp
       have g6:wr.cell? ⟨rb,6,none⟩=some x6:=by rw[hO.since.cell (a:=⟨rb,6,none⟩) TB];exact h6
       have gf:wr.frozen? ⟨rb,6,none⟩=false:=by rw[hO.since.frozen (a:=⟨rb,6,none⟩) TB];exact f6
       have H4:Aside (cj w wr k K k (eO k k (cI P q))):=hO
       clear hO
       go_wp2
       go_end0
       exact⟨rfl,wr,H4.out,rfl⟩
structure Rk where
 n:Nat
 ps:List (Int×Int)
 ke:List (Int×Value)
 kt:List AV
def Rk.Ok (R:Rk):Prop:=R.n≤1000∧R.ps.length≤1000∧∀p∈R.ps,(0≤p.1∧p.1<R.n)∧(0≤p.2∧p.2<R.n)
def au (l:List (Int×Int)):List AV:=l.map fun p=>.agg [nI p.1,nI p.2]
def Rk.P (R:Rk):Nat→Nat×Nat:=fun i=>((R.ps.getD i (0,0)).1.toNat,(R.ps.getD i (0,0)).2.toNat)
def Rk.Z (R:Rk):ZZ:=eO R.n R.n (cI R.P R.ps.length)
def C2 (n K:Nat) (Z:ZZ):List AV:=(List.range n).map fun j=>.sl ((List.range K).map fun c=>.ae (.int .u64 (Z j c)))
def Rk.rows (R:Rk):List AV:=C2 R.n ((R.n+63) / 64) R.Z
theorem qH (n K:Nat) (Z:ZZ):(C2 n K Z).length=n:=by simp[C2]
theorem Ms {w:World} {F:Nat→Nat→Prop} {η:List Value} {hp:List af} {q:Nat} {cs cs':List AV} (aJ:oB w F η hp) (hq:hp[q]?=some (.box cs)) {b o:Nat} (hb:w.heap.size≤b):gO η (hp.set q (.box cs')) b o:=by
 refine(aR b o).2 fun r v h1 h2=>?_
 have hr:r<hp.length:=by rw[←aJ.heap.len];exact(List.getElem?_eq_some_iff.1 h1).1
 by_cases hl:(hp[r]).live
 ·have:=aJ.live b ⟨r,_,v,List.getElem?_eq_getElem hr,hl,h1,h2⟩
  omega
 ·have hd:hp[r]?=some .dead:=by
   rw[List.getElem?_eq_getElem hr]
   cases h:hp[r]<;>rw[h] at hl<;>first|rfl|exact(hl True.intro).elim
  refine⟨.dead,?_,True.intro⟩
  have:q≠r:=fun e=>by subst e;rw[hq] at hd;cases hd
  rw[List.getElem?_set,if_neg this];exact hd
theorem Mt {w':World} {F':Nat→Nat→Prop} {η:List Value} {hp:List af} {N n K:Nat} {Z:ZZ} {t t2:TypeId} (WY:w'.rowIs N t n (zN N K n)) (Rs:∀j,j<n→w'.rowIs (N+1+j) t2 K (fun c=>.int .u64 (Z j c)))
  (hF:∀b o,N≤b→b<w'.heap.size→F' b o) (hn:n≤1000) (hK:K≤1000):aY w' F' η hp (.sl (C2 n K Z)) (.slice (some ⟨N,0,none⟩) n n):=by
 have Th:∀(i:Nat) (e:AV),(C2 n K Z)[i]?=some e→i<n∧e=.sl ((List.range K).map fun c=>.ae (.int .u64 (Z i c))):=fun i e h=>by
  have hi:i<n:=by have:=(List.getElem?_eq_some_iff.1 h).1;rwa [qH] at this
  refine⟨hi,?_⟩
  simp[C2,hi] at h
  exact h.symm
 have:=aY.sl (w:=w') (F:=F') (η:=η) (hp:=hp) 1 (C2 n K Z) N 0 n (fun i _=>zN N K n i) (by rw[qH];exact Nat.le_refl _) (by unfold maxLen;omega) (fun i e h=>by rw[(Th i e h).2];rfl) (fun i e j x h hx=>?_) (fun i e j x h hx=>?_)
 ·rwa [qH] at this
 ·obtain⟨hi,rfl⟩:=Th i e h
  have hj:j=0:=by have:=(List.getElem?_eq_some_iff.1 hx).1;simp[AV.cells] at this;omega
  subst hj
  refine⟨by rw[show 0+i*1+0=i by omega];exact WY.cell hi,hF _ _ (Nat.le_refl _) WY.lt,?_⟩
  rw[zN,if_pos hi];rfl
 ·obtain⟨hi,rfl⟩:=Th i e h
  have hj:j=0:=by have:=(List.getElem?_eq_some_iff.1 hx).1;simp[AV.cells] at this;omega
  subst hj
  cases hx
  rw[zN,if_pos hi]
  have Ti:∀(c:Nat) (e:AV),((List.range K).map fun c=>AV.ae (.int .u64 (Z i c)))[c]?=some e→c<K∧e=.ae (.int .u64 (Z i c)):=fun c e h=>by
   have hc:c<K:=by have:=(List.getElem?_eq_some_iff.1 h).1;simpa using this
   refine⟨hc,?_⟩
   simp[hc] at h
   exact h.symm
  have:=aY.sl (w:=w') (F:=F') (η:=[]) (hp:=[]) 1 ((List.range K).map fun c=>AV.ae (.int .u64 (Z i c))) (N+1+i) 0 K (fun c _=>.int .u64 (Z i c)) (by simp) (by unfold maxLen;omega) (fun c e h=>by rw[(Ti c e h).2];rfl) (fun c e j x h hx=>?_) (fun c e j x h hx=>?_)
  ·rwa [List.length_map,List.length_range] at this
  ·obtain⟨hc,rfl⟩:=Ti c e h
   have hj:j=0:=by have:=(List.getElem?_eq_some_iff.1 hx).1;simp[AV.cells] at this;omega
   subst hj
   exact⟨by rw[show 0+c*1+0=c by omega];exact(Rs i hi).cell hc,hF _ _ (by omega) (Rs i hi).lt,rfl⟩
  ·obtain⟨hc,rfl⟩:=Ti c e h
   have hj:j=0:=by have:=(List.getElem?_eq_some_iff.1 hx).1;simp[AV.cells] at this;omega
   subst hj
   cases hx
   exact .ae _
theorem C3 {R:Rk} (hR:R.Ok) {d m s ka:Int} {kr:List AV}:bp Tryz.prog 166 [.ptr 2 0] (gv R.ke R.n (au R.ps) d m s kr ka R.kt++[.box [.ptr 1 0]])
  (fun r h=>r=.aX []∧h=gv R.ke R.n (au R.ps) d m s R.rows ka R.kt++[.box [.ptr 1 0]]):=by
 obtain⟨hn,hl,Kh⟩:=hR
 refine⟨⟨_,Tryz.func166,by kernel_rfl,by kernel_rfl⟩,fun w F η aU aJ hv=>?_⟩
 match aU,hv with
 | [v0],⟨r0,_⟩=>
  obtain⟨pb,rfl,h2⟩:∃b,v0=.pointer (some ⟨b,0,none⟩)∧η[2]?=some (.pointer (some ⟨b,0,none⟩)):=by cases r0 with|ptr _ _ b h1=>exact⟨b,rfl,h1⟩
  obtain⟨b',WS,T2,e1,e2,e3,e4⟩:=aJ.heap.obj 2 _ _ rfl h2
  cases e1
  obtain⟨p0,rfl⟩:∃p0,WS=#[p0]:=by
   match WS,e3 with
   |⟨[c0]⟩,_=>exact⟨c0,rfl⟩
  obtain⟨rb,rfl,h1⟩:∃b,p0=.pointer (some ⟨b,0,none⟩)∧η[1]?=some (.pointer (some ⟨b,0,none⟩)):=by
   have:=(e4 0 _ _ rfl rfl).1
   cases this with|ptr _ _ b h1=>exact⟨b,rfl,h1⟩
  obtain⟨b',vs,T,g1,g2,g3,g4⟩:=aJ.heap.obj 1 _ _ rfl h1
  cases g1
  have bC:vs.size=9:=g3
  have cell:∀k,(hk:k<9)→w.cell? ⟨rb,k,none⟩=some (vs[k]'(by omega)):=fun k hk=>by
   simp only[World.cell?,g2]
   rw[Array.getElem?_eq_getElem (by omega)];rfl
  have c0:vs[0]=.int .i64 R.n:=eN (g4 0 _ _ rfl (Array.getElem?_eq_getElem (by omega))).1
  have c1:aY w F η _ (.sl (au R.ps)) vs[1]:=(g4 1 _ _ rfl (Array.getElem?_eq_getElem (by omega))).1
  obtain⟨pA,pc,B,O,T8,hA,hP⟩:∃(pA:Option Addr) (pc B O:Nat),vs[1]=.slice pA R.ps.length pc∧(0<R.ps.length→pA=some ⟨B,O,none⟩)∧
    ∀i,i<R.ps.length→w.cell? ⟨B,O+i*2,none⟩=some (.int .i64 ((R.P i).1:Nat))∧w.cell? ⟨B,O+i*2+1,none⟩=some (.int .i64 ((R.P i).2:Nat)):=by
   generalize hvx:vs[1]=vx at c1
   cases Ku:R.ps with
   |nil=>
    rw[Ku] at c1
    cases c1 with
    |ki a=>exact⟨a,0,0,0,rfl,fun h=>absurd h (by simp),fun i h=>absurd h (by simp)⟩
    |sl size els b o c f _ _ _ _ _=>exact⟨some ⟨b,o,none⟩,c,b,o,rfl,fun _=>rfl,fun i h=>absurd h (by simp)⟩
   |cons p l=>
    rw[←Ku]
    have bh:0<R.ps.length:=by rw[Ku];simp
    have hlen:(au R.ps).length=R.ps.length:=by simp[au]
    generalize hE:au R.ps=E at c1 hlen
    cases c1 with
    |ki a=>rw[←hlen] at bh;simp at bh
    |sl size els b o c f hc hm oH ay cE=>
     refine⟨some ⟨b,o,none⟩,c,b,o,by rw[hlen],fun _=>rfl,fun i hi=>?_⟩
     have bR:E[i]?=some (.agg [nI (R.ps[i]).1,nI (R.ps[i]).2]):=by rw[←hE];simp[au,hi]
     have QF:size=2:=(oH i _ bR).symm
     subst QF
     have q0:=(ay i _ 0 _ bR rfl).1
     have q1:=(ay i _ 1 _ bR rfl).1
     have v0:=eN (cE i _ 0 _ bR rfl)
     have v1:=eN (cE i _ 1 _ bR rfl)
     have NB:=Kh _ (List.getElem_mem hi)
     have eP:R.P i=((R.ps[i]).1.toNat,(R.ps[i]).2.toNat):=by simp[Rk.P,List.getD,hi]
     rw[eP]
     refine⟨?_,?_⟩
     ·rw[show o+i*2=o+i*2+0 from rfl,q0,v0]
      have:(((R.ps[i]).1.toNat:Nat):Int)=(R.ps[i]).1:=by omega
      simp only[this]
     ·rw[q1,v1]
      have:(((R.ps[i]).2.toNat:Nat):Int)=(R.ps[i]).2:=by omega
      simp only[this]
  have WU:∀i,i<R.ps.length→(R.P i).1<R.n∧(R.P i).2<R.n:=fun i hi=>by
   have NB:=Kh _ (List.getElem_mem hi)
   have eP:R.P i=((R.ps[i]).1.toNat,(R.ps[i]).2.toNat):=by simp[Rk.P,List.getD,hi]
   rw[eP];simp only;omega
  refine callsIn_wide.2 ((Ie pb rb R.n R.ps.length pc B O ((R.n+63) / 64) rfl pA R.P (vs[6]) w (by simp only[World.cell?,e2];rfl) (by rw[cell 0 (by omega),c0]) (by rw[cell 1 (by omega),T8]) hA hP hn (by omega) WU (cell 6 (by omega)) (by simp[World.frozen?,g2])).mono ?_)
  rintro e w' ⟨rfl,wr,hW,rfl⟩
  have TB:rb<w.heap.size:=ba g2
  have hwr:wr.heap[rb]?=some (.cells vs T (0,0)):=by rw[hW.since.block rb TB];exact g2
  have ou:=heap_setCell_same wr rb 6 vs T (.slice (some ⟨w.heap.size,0,none⟩) R.n R.n) hwr
  have kH:(wr.setCell ⟨rb,6,none⟩ (.slice (some ⟨w.heap.size,0,none⟩) R.n R.n)).heap.size=wr.heap.size:=by simp
  refine⟨_,.aX [],_,η,rfl,⟨rfl,rfl⟩,?_⟩
  refine vd (q:=1) (b:=rb) (vs':=vs.setIfInBounds 6 (.slice (some ⟨w.heap.size,0,none⟩) R.n R.n)) (T:=T) aJ rfl h1 ⟨hW.since.os,hW.since.tape,hW.since.output,by rw[kH];have:=hW.size;omega,fun k gn Hq=>?_⟩ (by rw[kH];have:=hW.size;omega) ou (by simp[bC]) (fun bZ j x u hx hu=>?_) (.aX [] #[] rfl fun j y u hy _=>by cases hy)
  ·rw[heap_setCell_other _ _ _ _ Hq];exact hW.since.block k gn
  ·rw[Array.getElem?_setIfInBounds] at hu
   by_cases hj:6=j
   ·subst hj
    rw[if_pos rfl,if_pos (by omega)] at hu
    cases hx;cases hu
    refine⟨?_,rfl⟩
    have bh:∀k,w.heap.size≤k→k≠rb:=fun k hk=>by omega
    exact Mt (hW.top.setOther (bh _ (Nat.le_refl _)) _) (fun j hj=>(hW.rows j hj).setOther (bh _ (by omega)) _) (fun b o wj Rn=>⟨.inr (.inl wj),Rn,Ms aJ rfl wj⟩) hn (by omega)
   ·rw[if_neg hj] at hu
    have hx2:(gv R.ke R.n (au R.ps) d m s kr ka R.kt)[1]?=some (.box [nI R.n,.sl (au R.ps),.mp 0,.ae (.int .u32 d),.ae (.int .i32 m),.ae (.int .u32 s),.sl kr,nI ka,.sl R.kt]):=rfl
    have hx3:[nI (R.n:Int),.sl (au R.ps),.mp 0,.ae (.int .u32 d),.ae (.int .i32 m),.ae (.int .u32 s),.sl kr,nI ka,.sl R.kt][j]?=some x:=by
     match j,hj,hx with
     |0,_,h=>exact h
     |1,_,h=>exact h
     |2,_,h=>exact h
     |3,_,h=>exact h
     |4,_,h=>exact h
     |5,_,h=>exact h
     |7,_,h=>exact h
     |8,_,h=>exact h
     |_+9,_,h=>simp at h
    have:=g4 j x u hx3 hu
    exact⟨this.1.ext bZ,this.2⟩
def IW (R:Rk) (h:List af):Prop:=∃(d s ka:Int) (kr:List AV),h=gv R.ke R.n (au R.ps) d 0 s kr ka R.kt∧(d=0∨¬d=0∧kr=R.rows)
theorem E5 {R:Rk} (hR:R.Ok) {h:List af} (hs:IW R h):bp Tryz.prog 118 [.ptr 1 0] h (fun r q=>r=.sl R.rows∧IW R q):=by
 obtain⟨d,s,ka,kr,rfl,hd⟩:=hs
 refine LI ⟨_,ve (R:=fun r q=>r=nI (IntKind.wrap .i64 (ka+1))∧q=gv R.ke R.n (au R.ps) d 0 s kr (IntKind.wrap .i64 (ka+1)) R.kt) ⟨rfl,rfl⟩,fun r q ⟨e1,e2⟩=>⟨_,_,_,_,_,_,_,_,_,_,⟨e1,e2⟩,?_⟩⟩
 rcases hd with rfl|⟨hd,rfl⟩
 ·have hdo:=jv (q:=1) (off:=3) (f:=166) (caps:=[.ptr 2 0]) (H:=gv R.ke R.n (au R.ps) 0 0 s kr (IntKind.wrap .i64 (ka+1)) R.kt++[.box [.ptr 1 0]])
   (cs:=[nI R.n,.sl (au R.ps),.mp 0,.ae (.int .u32 0),.ae (.int .i32 0),.ae (.int .u32 s),.sl kr,nI (IntKind.wrap .i64 (ka+1)),.sl R.kt])
   (R:=fun r h=>r=.aX []∧h=gv R.ke R.n (au R.ps) 0 1 s R.rows (IntKind.wrap .i64 (ka+1)) R.kt++[.box [.ptr 1 0]]) rfl rfl rfl
   (by exact C3 hR (d:=0) (m:=1) (s:=s) (ka:=IntKind.wrap .i64 (ka+1)) (kr:=kr)) (fun r h ⟨e1,e2⟩=>by subst e2;exact⟨e1,_,rfl,rfl,rfl⟩)
  refine⟨_,hdo,?_⟩
  rintro r q ⟨rfl,h,cs',⟨-,rfl⟩,hq,rfl⟩
  cases hq
  exact⟨_,_,_,_,_,_,_,_,_,⟨rfl,rfl⟩,rfl,_,_,_,_,rfl,.inr ⟨by decide,rfl⟩⟩
 ·refine⟨_,jw (q:=1) (off:=3) (caps:=[.ptr 2 0]) (H:=gv R.ke R.n (au R.ps) d 0 s R.rows (IntKind.wrap .i64 (ka+1)) R.kt++[.box [.ptr 1 0]]) (cs:=[nI R.n,.sl (au R.ps),.mp 0,.ae (.int .u32 d),.ae (.int .i32 0),.ae (.int .u32 s),.sl R.rows,nI (IntKind.wrap .i64 (ka+1)),.sl R.kt]) rfl rfl hd,?_⟩
  rintro r q ⟨rfl,rfl⟩
  exact⟨_,_,_,_,_,_,_,_,_,⟨rfl,rfl⟩,rfl,_,_,_,_,rfl,.inr ⟨hd,rfl⟩⟩
theorem E6 {K:Nat} {f:Nat→Nat} (hf:∀c,f c<2 ^ 64) {b:Nat} (hb:b / 64<K) (hl:b<1000000):ag Tryz.prog 119 [.sl ((List.range K).map fun c=>.ae (.int .u64 (f c))),nI b] (nB ((f (b / 64)).testBit (b % 64))):=by
 refine⟨⟨_,Tryz.func119,by kernel_rfl,by kernel_rfl⟩,fun w F aU hF hg hv=>?_⟩
 match aU,hv with
 | [v0,v1],⟨r0,r1,_⟩=>
  obtain rfl:=eN r1
  have bR:∀c,c<K→((List.range K).map fun c=>AV.ae (.int .u64 (f c)))[c]?=some (.ae (.int .u64 (f c))):=fun c hc=>by simp[hc]
  generalize hE:((List.range K).map fun c=>AV.ae (.int .u64 (f c)))=E at r0 bR
  have hlen:E.length=K:=by rw[←hE];simp
  cases r0 with
  |ki a=>simp at hlen;omega
  |sl size els g o c fn hc hm oH ay cE=>
   have Tq:size=1:=(oH _ _ (bR _ hb)).symm
   subst Tq
   rw[hlen]
   refine callsIn_wide.2 ((CZ g o K c f b w hb hl (fun j hj=>?_) hf).mono ?_)
   ·have q0:=(ay j _ 0 _ (bR j hj) rfl).1
    rw[show o+j*1+0=o+j by omega,eN (cE j _ 0 _ (bR j hj) rfl)] at q0
    exact q0
   ·rintro e w' ⟨rfl,rfl⟩
    exact⟨_,_,rfl,rfl,bu.refl _,.ae _⟩
def Rk.nL (R:Rk) (a b:Int):Bool:=decide (0≤a∧a<R.n∧0≤b∧b<R.n)&&dQ R.Z a.toNat b.toNat
theorem Rk.small (R:Rk):cp R.Z:=cp.war (cp.Qo _ _) _ _
theorem sB {R:Rk} (hR:R.Ok) {h:List af} (hs:IW R h) (a b:Int):bp Tryz.prog 70 [.ptr 1 0,nI a,nI b] h (fun r q=>r=nB (R.nL a b)∧IW R q):=by
 have bW:=E5 hR hs
 have QC:=hs
 obtain⟨d,s,ka,kr,rfl,hd⟩:=hs
 have bad:¬(0≤a∧a<R.n∧0≤b∧b<R.n)→nB false=nB (R.nL a b):=fun h=>by rw[Rk.nL,decide_eq_false h];rfl
 refine Ps (ai.intro (fun h=>⟨bad (by simp at h;omega),QC⟩) fun h1=>ai.intro (fun h=>⟨bad (by simp at h;omega),QC⟩) fun h2=>ai.intro (fun h=>⟨bad (by simp at h;omega),QC⟩) fun h3=>ai.intro (fun h=>⟨bad (by simp at h;omega),QC⟩) fun h4=>?_)
 have g1:0≤a:=by simpa using h1
 have g2:a<R.n:=by simpa using h2
 have g3:0≤b:=by simpa using h3
 have g4:b<R.n:=by simpa using h4
 obtain⟨u,rfl⟩:∃u:Nat,a=u:=⟨a.toNat,by omega⟩
 obtain⟨v,rfl⟩:∃v:Nat,b=v:=⟨b.toNat,by omega⟩
 have hn:=hR.1
 refine⟨_,bW,fun r q ⟨e1,e2⟩=>?_⟩
 obtain⟨d2,s2,Ig,Ih,rfl,AR⟩:=e2
 refine⟨_,_,_,_,_,_,_,_,_,_,⟨e1,rfl⟩,by omega,by rw[Rk.rows,qH];omega,((List.range ((R.n+63) / 64)).map fun c=>.ae (.int .u64 (R.Z u c))),by simp[Rk.rows,C2,List.getD,show u<R.n by omega],_,E6 (R.small u) (b:=v) (by omega) (by omega),?_,d2,s2,Ig,Ih,rfl,AR⟩
 rw[Rk.nL,decide_eq_true ⟨g1,g2,g3,g4⟩,Bool.true_and];rfl
def Rk.stat (R:Rk) (c:Int):Int:=A5 (Option.getD (aC R.ke c) (.int .i64 0))
theorem zO {R:Rk} {h:List af} (hs:IW R h) (c:Int) (hk:∃n,Option.getD (aC R.ke c) (.int .i64 0)=.int .i64 n):bp Tryz.prog 131 [.ptr 1 0,nI c] h (fun r q=>r=nI (R.stat c)∧IW R q):=by
 have QC:=hs
 obtain⟨d,s,ka,kr,rfl,hd⟩:=hs
 obtain⟨n,hn⟩:=hk
 exact LJ ⟨by rw[hn];rfl,rfl,QC⟩
end Go.Proofs.YtdcikhleahfknaaGreatDoor
