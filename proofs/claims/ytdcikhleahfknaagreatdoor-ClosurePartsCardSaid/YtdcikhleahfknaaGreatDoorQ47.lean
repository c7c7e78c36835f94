/- Texts of ours laid together for a claim: P08 P74 P75 P09 P15 P17 P18 P23 P19 P11 P78 P6B P6J P6K P6L P6M P30 P61 P62 P63 P64. -/
import Derived.Lib.ItoaLen
import Derived.Tactics
import Derived.Tactics2
import Derived.Defers
import Derived.Laws.Pointers
import Derived.Laws.LoneSync
import Derived.RegionTactic
import Derived.RegionCalls
import Derived.ChangeAlike
import Derived.TacticsInMore
import Derived.RegionIn
import Derived.LoopNIn
import Derived.RecoverIn
import Derived.Test.YtdcikhleahfknaaGreatDoorChecked
import Derived.Deep.LoopGhost
import Derived.Deep.OwnRows
import Derived.Deep.Light
import Derived.BigGuard
import Derived.Laws.Bits64b
import Derived.CellFam
import Derived.Deep.RegionWith
import Derived.Test.YtdcikhleahfknaaGreatDoorQ46
namespace Go.Proofs.YtdcikhleahfknaaGreatDoor
open Go
set_option linter.unusedSimpArgs false
set_option linter.unusedVariables false
open Go Go.Shelf
set_option maxRecDepth 100000
open Go Go.RowKit
set_option maxRecDepth 1000000
theorem LH {l:List Int} {i:Int} {k:Nat} (h:k<l.length):(l.take (k+1)).contains i=((l.take k).contains i||(l[k]==i)):=by
 rw[←cQ h,Bool.eq_iff_iff]
 simp only[List.contains_iff_mem,Bool.or_eq_true,List.mem_append,List.mem_singleton,beq_iff_eq]
 exact or_congr Iff.rfl eq_comm
theorem qa {a b:List Ty} (ha:a.length≤1000000000) (hb:b.length≤1000000000):ag Tryz.prog 53 [.sl (a.map Ty.enc),.sl (b.map Ty.enc)] (.sl ((a++b).map Ty.enc)):=
 MI ⟨cN Ty.cW (by simp;omega) (by decide),rfl,cN Ty.cW (by simp;omega) (by decide),rfl,by rw[List.map_append]⟩
theorem DA:∀(n:Nat) (t:Ty),t.size≤n→n≤1000000000→ag Tryz.prog 77 [t.enc] t.enc:=by
 intro n
 induction n with
 |zero=>intro t h;have:=t.size_pos;omega
 |succ n ih=>
  intro t h hn
  have hq:=Ty.aA t.args
  have vj:=t.size_eq
  rw[Ty.aE]
  refine MK ⟨rfl,?_⟩
  refine au.intro (fun k:Nat=>(((),(),(),(k:Int),()),((t.args.map Ty.enc,t.base,()),((),0,()),((),t.base,()),(t.args.take k).map Ty.enc,())))
   (fun k=>k≤t.args.length) (fun k=>t.args.length-k) 0 rfl (Nat.zero_le _) ?_
  intro k hk again bB
  dsimp only
  rw[List.length_map]
  refine ak.intro (fun h=>?_) fun h=>?_
  ·have al:k<t.args.length:=by simpa using h
   have hi:=ih t.args[k] (by have:=Ty.bM al;omega) (by omega)
   rw[Ty.aE] at hi
   refine⟨by omega,by omega,_,_,Ty.aj al,_,_,hi,rfl,bX rfl (by simp;omega) (by decide),rfl,?_⟩
   rw[aB (by omega),Ty.ej,cQ al]
   exact bB (k+1) (by omega) (by omega)
  ·have:t.args.length≤k:=by simpa using h
   refine⟨rfl,?_⟩
   rw[List.take_of_length_le this]
theorem DB:∀(n:Nat) (t:Ty),t.size≤n→n≤1000000000→ag Tryz.prog 115 [t.enc] t.enc:=by
 intro n
 induction n with
 |zero=>intro t h;have:=t.size_pos;omega
 |succ n ih=>
  intro t h hn
  have hq:=Ty.aA t.args
  have vj:=t.size_eq
  rw[Ty.aE]
  refine Jt ⟨rfl,?_⟩
  refine au.intro (fun k:Nat=>(((),(),(),(k:Int),()),((t.args.map Ty.enc,t.base,()),((),0,()),((),t.base,()),(t.args.take k).map Ty.enc,())))
   (fun k=>k≤t.args.length) (fun k=>t.args.length-k) 0 rfl (Nat.zero_le _) ?_
  intro k hk again bB
  dsimp only
  rw[List.length_map]
  refine ak.intro (fun h=>?_) fun h=>?_
  ·have al:k<t.args.length:=by simpa using h
   have hi:=ih t.args[k] (by have:=Ty.bM al;omega) (by omega)
   rw[Ty.aE] at hi
   refine⟨by omega,by omega,_,_,Ty.aj al,_,_,hi,rfl,bX rfl (by simp;omega) (by decide),rfl,?_⟩
   rw[aB (by omega),Ty.ej,cQ al]
   exact bB (k+1) (by omega) (by omega)
  ·have:t.args.length≤k:=by simpa using h
   refine⟨rfl,?_⟩
   rw[List.take_of_length_le this]
theorem rO {l:List Ty} (h:Ty.sizes l≤1000000000):ag Tryz.prog 40 [.sl (l.map Ty.enc)] (.sl (l.map Ty.enc)):=by
 have hq:=Ty.aA l
 refine MN ⟨rfl,?_⟩
 refine au.intro (fun k:Nat=>((l.map Ty.enc,(),(k:Int),()),((l.take k).map Ty.enc,()))) (fun k=>k≤l.length) (fun k=>l.length-k) 0 rfl (Nat.zero_le _) ?_
 intro k hk again bB
 dsimp only
 rw[List.length_map]
 refine ak.intro (fun h=>?_) fun h=>?_
 ·have al:k<l.length:=by simpa using h
  have hi:=DA _ l[k] (Nat.le_refl _) (by have:=Ty.bm (List.getElem_mem al);omega)
  rw[Ty.aE] at hi
  refine⟨by omega,by omega,_,_,Ty.aj al,_,_,hi,rfl,bX rfl (by simp;omega) (by decide),rfl,?_⟩
  rw[aB (by omega),Ty.ej,cQ al]
  exact bB (k+1) (by omega) (by omega)
 ·have:l.length≤k:=by simpa using h
  refine⟨rfl,?_⟩
  rw[List.take_of_length_le this]
theorem Bu {l:List Ty} (h:Ty.sizes l≤1000000000):ag Tryz.prog 62 [.sl (l.map Ty.enc)] (.sl (l.map Ty.enc)):=by
 have hq:=Ty.aA l
 refine MR ⟨rfl,?_⟩
 refine au.intro (fun k:Nat=>((l.map Ty.enc,(),(k:Int),()),((l.take k).map Ty.enc,()))) (fun k=>k≤l.length) (fun k=>l.length-k) 0 rfl (Nat.zero_le _) ?_
 intro k hk again bB
 dsimp only
 rw[List.length_map]
 refine ak.intro (fun h=>?_) fun h=>?_
 ·have al:k<l.length:=by simpa using h
  have hi:=DB _ l[k] (Nat.le_refl _) (by have:=Ty.bm (List.getElem_mem al);omega)
  rw[Ty.aE] at hi
  refine⟨by omega,by omega,_,_,Ty.aj al,_,_,hi,rfl,bX rfl (by simp;omega) (by decide),rfl,?_⟩
  rw[aB (by omega),Ty.ej,cQ al]
  exact bB (k+1) (by omega) (by omega)
 ·have:l.length≤k:=by simpa using h
  refine⟨rfl,?_⟩
  rw[List.take_of_length_le this]
theorem DC:∀(n:Nat) (t:Tm),t.size≤n→n≤1000000000→ag Tryz.prog 12 [t.enc] t.enc:=by
 intro n
 induction n with
 |zero=>intro t h;have:=t.size_pos;omega
 |succ n ih=>
  intro t h hn
  have hq:=Tm.aA t.args
  have vj:=t.size_eq
  rw[Tm.aE]
  refine MP ⟨_,rO (by omega),rfl,?_⟩
  refine au.intro (fun k:Nat=>(((),(),(),(k:Int),()),((t.binds.map Ty.enc,t.kind,t.index,t.args.map Tm.enc,()),((),0,0,(),()),(t.binds.map Ty.enc,t.kind,t.index,(),()),(t.args.take k).map Tm.enc,())))
   (fun k=>k≤t.args.length) (fun k=>t.args.length-k) 0 rfl (Nat.zero_le _) ?_
  intro k hk again bB
  dsimp only
  rw[List.length_map]
  refine ak.intro (fun h=>?_) fun h=>?_
  ·have al:k<t.args.length:=by simpa using h
   have hi:=ih t.args[k] (by have:=Tm.bM al;omega) (by omega)
   rw[Tm.aE] at hi
   refine⟨by omega,by omega,_,_,_,_,Tm.aj al,_,_,_,_,hi,rfl,bX rfl (by simp;omega) (by decide),rfl,?_⟩
   rw[aB (by omega),Tm.ej,cQ al]
   exact bB (k+1) (by omega) (by omega)
  ·have:t.args.length≤k:=by simpa using h
   refine⟨rfl,?_⟩
   rw[List.take_of_length_le this]
theorem DE:∀(n:Nat) (t:Tm),t.size≤n→n≤1000000000→ag Tryz.prog 46 [t.enc] t.enc:=by
 intro n
 induction n with
 |zero=>intro t h;have:=t.size_pos;omega
 |succ n ih=>
  intro t h hn
  have hq:=Tm.aA t.args
  have vj:=t.size_eq
  rw[Tm.aE]
  refine MT ⟨_,Bu (by omega),rfl,?_⟩
  refine au.intro (fun k:Nat=>(((),(),(),(k:Int),()),((t.binds.map Ty.enc,t.kind,t.index,t.args.map Tm.enc,()),((),0,0,(),()),(t.binds.map Ty.enc,t.kind,t.index,(),()),(t.args.take k).map Tm.enc,())))
   (fun k=>k≤t.args.length) (fun k=>t.args.length-k) 0 rfl (Nat.zero_le _) ?_
  intro k hk again bB
  dsimp only
  rw[List.length_map]
  refine ak.intro (fun h=>?_) fun h=>?_
  ·have al:k<t.args.length:=by simpa using h
   have hi:=ih t.args[k] (by have:=Tm.bM al;omega) (by omega)
   rw[Tm.aE] at hi
   refine⟨by omega,by omega,_,_,_,_,Tm.aj al,_,_,_,_,hi,rfl,bX rfl (by simp;omega) (by decide),rfl,?_⟩
   rw[aB (by omega),Tm.ej,cQ al]
   exact bB (k+1) (by omega) (by omega)
  ·have:t.args.length≤k:=by simpa using h
   refine⟨rfl,?_⟩
   rw[List.take_of_length_le this]
theorem Bv {l m:List Ty} (bE:l.length≤1000000000) (VP:l.length=m.length) (hi:∀(k:Nat) (h1:k<l.length) (h2:k<m.length),ag Tryz.prog 114 [l[k].enc,m[k].enc] (nB (Ty.same l[k] m[k]))):
  E4 ((l.map Ty.enc,m.map Ty.enc,0,()),()) (fun x=>x=nB (Ty.bp l m)):=by
 refine au.intro (fun k:Nat=>((l.map Ty.enc,m.map Ty.enc,(k:Int),()),())) (fun k=>k≤l.length∧Ty.bp l m=Ty.bp (l.drop k) (m.drop k)) (fun k=>l.length-k) 0 rfl ⟨Nat.zero_le _,rfl⟩ ?_
 intro k ⟨hk,hs⟩ again bB
 dsimp only
 rw[List.length_map,List.length_map]
 refine ak.intro (fun h=>?_) fun h=>?_
 ·have al:k<l.length:=by simpa using h
  rw[Ty.gi al (by omega)] at hs
  have hi:=hi k al (by omega)
  rw[Ty.aE,Ty.aE] at hi
  refine⟨by omega,by omega,_,_,Ty.aj al,by omega,by omega,_,_,Ty.aj (by omega),_,hi,ak.intro (fun h=>?_) fun h=>?_⟩
  ·have:Ty.same l[k] m[k]=false:=by simpa using h
   rw[hs,this,Bool.false_and]
  ·have he:Ty.same l[k] m[k]=true:=by simpa using h
   rw[he,Bool.true_and] at hs
   rw[aB (by omega)]
   exact bB (k+1) ⟨by omega,hs⟩ (by omega)
 ·have:l.length≤k:=by simpa using h
  rw[List.drop_eq_nil_of_le this,List.drop_eq_nil_of_le (by omega)] at hs
  rw[hs];rfl
theorem Bw:∀(n:Nat) (t u:Ty),t.size≤n→n≤1000000000→ag Tryz.prog 114 [t.enc,u.enc] (nB (Ty.same t u)):=by
 intro n
 induction n with
 |zero=>intro t u h;have:=t.size_pos;omega
 |succ n ih=>
  intro t u h hn
  have hq:=Ty.aA t.args
  have vj:=t.size_eq
  rw[Ty.aE,Ty.aE,Ty.p7]
  refine Jv (ak.intro (fun h=>?_) fun h=>?_)
  ·have:(t.base==u.base)=false:=by simpa using h
   rw[this,Bool.false_and]
  ·have hb:(t.base==u.base)=true:=by simpa using h
   rw[hb,Bool.true_and]
   refine ak.intro (fun h=>?_) fun h=>?_
   ·rw[Ty.il (by simp at h;omega)]
   ·have VP:t.args.length=u.args.length:=by simp at h;omega
    refine au.intro (fun k:Nat=>(((),(),(k:Int),()),((t.args.map Ty.enc,t.base,()),(u.args.map Ty.enc,u.base,()),()))) (fun k=>k≤t.args.length∧Ty.bp t.args u.args=Ty.bp (t.args.drop k) (u.args.drop k)) (fun k=>t.args.length-k) 0 rfl ⟨Nat.zero_le _,rfl⟩ ?_
    intro k ⟨hk,hs⟩ again bB
    dsimp only
    rw[List.length_map,List.length_map]
    refine ak.intro (fun h=>?_) fun h=>?_
    ·have al:k<t.args.length:=by simpa using h
     rw[Ty.gi al (by omega)] at hs
     have hi:=ih t.args[k] (u.args[k]'(by omega)) (by have:=Ty.bM al;omega) (by omega)
     rw[Ty.aE,Ty.aE] at hi
     refine⟨by omega,by omega,_,_,Ty.aj al,by omega,by omega,_,_,Ty.aj (by omega),_,hi,ak.intro (fun h=>?_) fun h=>?_⟩
     ·have:Ty.same t.args[k] u.args[k]=false:=by simpa using h
      rw[hs,this,Bool.false_and]
     ·have he:Ty.same t.args[k] u.args[k]=true:=by simpa using h
      rw[he,Bool.true_and] at hs
      rw[aB (by omega)]
      exact bB (k+1) ⟨by omega,hs⟩ (by omega)
    ·have:t.args.length≤k:=by simpa using h
     rw[List.drop_eq_nil_of_le this,List.drop_eq_nil_of_le (by omega)] at hs
     rw[hs];rfl
theorem sB {l m:List Ty} (bE:Ty.sizes l≤1000000000):ag Tryz.prog 80 [.sl (l.map Ty.enc),.sl (m.map Ty.enc)] (nB (Ty.bp l m)):=by
 have hq:=Ty.aA l
 refine MU (ak.intro (fun h=>?_) fun h=>?_)
 ·rw[Ty.il (by simp at h;omega)]
 ·exact Bv (by omega) (by simp at h;omega) fun k h1 h2=>Bw _ _ _ (Nat.le_refl _) (by have:=Ty.bm (List.getElem_mem h1);omega)
mutual
def Tm.same:Tm→Tm→Bool
 | .mk b k i a,.mk b' k' i' a'=>(k==k'&&i==i')&&(Ty.bp b b'&&Tm.bp a a')
def Tm.bp:List Tm→List Tm→Bool
 | [],[]=>true
 |t::l,u::m=>Tm.same t u&&Tm.bp l m
 |_,_=>false
end
theorem Tm.p7 (t u:Tm):Tm.same t u=((t.kind==u.kind&&t.index==u.index)&&(Ty.bp t.binds u.binds&&Tm.bp t.args u.args)):=by cases t;cases u;simp[Tm.same,Tm.kind,Tm.index,Tm.binds,Tm.args]
theorem Tm.gi {l m:List Tm} {k:Nat} (h1:k<l.length) (h2:k<m.length):Tm.bp (l.drop k) (m.drop k)=(Tm.same l[k] m[k]&&Tm.bp (l.drop (k+1)) (m.drop (k+1))):=by
 rw[List.drop_eq_getElem_cons h1,List.drop_eq_getElem_cons h2,Tm.bp]
theorem Tm.il {l m:List Tm} (h:¬l.length=m.length):Tm.bp l m=false:=by
 induction l generalizing m with
 |nil=>cases m with
  |nil=>simp at h
  |cons u m=>rfl
 |cons t l ih=>cases m with
  |nil=>rfl
  |cons u m=>rw[Tm.bp,ih (by simpa using h),Bool.and_false]
mutual
theorem Tm.eQ:∀(t u:Tm),Tm.same t u=true↔t=u
 | .mk b k i a,.mk b' k' i' a'=>by
  simp only[Tm.same,Bool.and_eq_true,beq_iff_eq,Tm.mk.injEq,Ty.im,Tm.im a a']
  constructor
  ·rintro⟨⟨h1,h2⟩,h3,h4⟩;exact⟨h3,h1,h2,h4⟩
  ·rintro⟨h3,h1,h2,h4⟩;exact⟨⟨h1,h2⟩,h3,h4⟩
theorem Tm.im:∀(l m:List Tm),Tm.bp l m=true↔l=m
 | [],[]=>by simp[Tm.bp]
 | [],_::_=>by simp[Tm.bp]
 |_::_,[]=>by simp[Tm.bp]
 |t::l,u::m=>by simp only[Tm.bp,Bool.and_eq_true,List.cons.injEq,Tm.eQ t u,Tm.im l m]
end
theorem Tm.nG (t:Tm):Tm.same t t=true:=(Tm.eQ t t).2 rfl
theorem mW:∀(n:Nat) (t u:Tm),t.size≤n→n≤1000000000→ag Tryz.prog 45 [t.enc,u.enc] (nB (Tm.same t u)):=by
 intro n
 induction n with
 |zero=>intro t u h;have:=t.size_pos;omega
 |succ n ih=>
  intro t u h hn
  have hq:=Tm.aA t.args
  have vj:=t.size_eq
  have hb:=sB (l:=t.binds) (m:=u.binds) (by omega)
  rw[Tm.aE,Tm.aE,Tm.p7]
  refine MW (ak.intro (fun h=>?_) fun h=>?_)
  ·have:(t.kind==u.kind&&t.index==u.index)=false:=by rw[Bool.not_eq_true'] at h;exact h
   rw[this,Bool.false_and]
  ·have hh:(t.kind==u.kind&&t.index==u.index)=true:=by rw[Bool.not_eq_false'] at h;exact h
   rw[hh,Bool.true_and]
   refine ak.intro (fun h=>?_) fun h=>?_
   ·rw[Tm.il (by simp at h;omega),Bool.and_false]
   ·have VP:t.args.length=u.args.length:=by simp at h;omega
    refine⟨_,hb,ak.intro (fun h=>?_) fun h=>?_⟩
    ·have:Ty.bp t.binds u.binds=false:=by simpa using h
     rw[this,Bool.false_and]
    ·have Vw:Ty.bp t.binds u.binds=true:=by simpa using h
     rw[Vw,Bool.true_and]
     refine au.intro (fun k:Nat=>(((),(),(k:Int),()),((t.binds.map Ty.enc,t.kind,t.index,t.args.map Tm.enc,()),(u.binds.map Ty.enc,u.kind,u.index,u.args.map Tm.enc,()),()))) (fun k=>k≤t.args.length∧Tm.bp t.args u.args=Tm.bp (t.args.drop k) (u.args.drop k)) (fun k=>t.args.length-k) 0 rfl ⟨Nat.zero_le _,rfl⟩ ?_
     intro k ⟨hk,hs⟩ again bB
     dsimp only
     rw[List.length_map,List.length_map]
     refine ak.intro (fun h=>?_) fun h=>?_
     ·have al:k<t.args.length:=by simpa using h
      rw[Tm.gi al (by omega)] at hs
      have hi:=ih t.args[k] (u.args[k]'(by omega)) (by have:=Tm.bM al;omega) (by omega)
      rw[Tm.aE,Tm.aE] at hi
      refine⟨by omega,by omega,_,_,_,_,Tm.aj al,by omega,by omega,_,_,_,_,Tm.aj (by omega),_,hi,ak.intro (fun h=>?_) fun h=>?_⟩
      ·have:Tm.same t.args[k] u.args[k]=false:=by simpa using h
       rw[hs,this,Bool.false_and]
      ·have he:Tm.same t.args[k] u.args[k]=true:=by simpa using h
       rw[he,Bool.true_and] at hs
       rw[aB (by omega)]
       exact bB (k+1) ⟨by omega,hs⟩ (by omega)
     ·have:t.args.length≤k:=by simpa using h
      rw[List.drop_eq_nil_of_le this,List.drop_eq_nil_of_le (by omega)] at hs
      rw[hs];rfl
section
section
variable {P:Program} {w w':World} {F:Nat→Nat→Prop} {η:List Value} {hp:List af}
def af.PE:af→Prop
 | .box _=>True
 | .cA _ _=>True
 | .aP _=>True
 |_=>False
theorem qU {r0:AV} {q:Nat} {o o':af} {b:Nat} {v0:Value} {v:Value} (aI:nW w F η hp) (hq:hp[q]?=some o) (hn:o.PE) (Hr:o'.PE) (hb:η[q]?=some v0) (np:bT v0=some b)
  (hk:bo (fun k=>k=b) w w') (hs:w'.heap.size=w.heap.size)
  (s9:Ext w F η hp w' (bQ F w η hp w' η (hp.set q o')) η (hp.set q o')→fo w' (bQ F w η hp w' η (hp.set q o')) η (hp.set q o') o' v0) (M9:aV w F η hp r0 v):
  fS w F η hp w' η (hp.set q o') r0 v:=by
 have hl:o.live:=by cases o<;>first|exact True.intro|exact hn.elim
 have Co:o'.live:=by cases o'<;>first|exact True.intro|exact Hr.elim
 have zF:q<hp.length:=(List.getElem?_eq_some_iff.1 hq).1
 have AN:(hp.set q o')[q]?=some o':=by simp[List.getElem?_set,zF]
 have Jy:∀k,aC η (hp.set q o') k↔aC η hp k:=by
  intro k
  constructor
  ·intro ⟨r,x,u,e1,e2,e3,e4⟩
   by_cases hr:q=r
   ·subst hr;exact⟨q,_,u,hq,hl,e3,e4⟩
   ·rw[get_set_other hr] at e1;exact⟨r,x,u,e1,e2,e3,e4⟩
  ·intro ⟨r,x,u,e1,e2,e3,e4⟩
   by_cases hr:q=r
   ·subst hr;exact⟨q,_,u,AN,Co,e3,e4⟩
   ·exact⟨r,x,u,by rw[get_set_other hr];exact e1,e2,e3,e4⟩
 have XS:aC η hp b:=⟨q,_,_,hq,hl,hb,np⟩
 have Gj:∀x,¬F b x:=by
  intro x hf
  obtain⟨p1,q1,q2⟩:=(aN b x).1 (aI.aY b x hf).2 q _ hb np
  rw[hq] at q1
  obtain rfl:=Option.some.inj q1
  cases o<;>first|exact q2|exact hn
 have Jz:∀k x,gW η hp k x→gW η (hp.set q o') k x:=by
  intro k x hf
  refine(aN k x).2 fun r u e1 e2=>?_
  obtain⟨p1,q1,q2⟩:=(aN k x).1 hf r u e1 e2
  by_cases hr:q=r
  ·subst hr
   rw[hq] at q1
   obtain rfl:=Option.some.inj q1
   exact(show False by cases o<;>first|exact q2|exact hn).elim
  ·exact⟨p1,by rw[get_set_other hr];exact q1,q2⟩
 have gv:∀k,k<w.heap.size→k≠b→w'.heap[k]?=w.heap[k]?:=fun k h1 h2=>hk.block k h1 h2
 have aY:∀k x,F k x→bQ F w η hp w' η (hp.set q o') k x:=fun k x hf=>⟨.inl hf,by rw[hs];exact(aI.aY k x hf).1,Jz k x (aI.aY k x hf).2⟩
 have bY:Ext w F η hp w' (bQ F w η hp w' η (hp.set q o')) η (hp.set q o'):=by
  refine⟨fun k x u hf hc=>?_,fun k es c hf hc=>?_,aY,fun r a h=>h,fun r a h=>h,fun r n u h=>?_⟩
  ·have bj:k≠b:=fun h=>Gj x (h▸hf)
   simp only[World.cell?] at hc ⊢
   rw[gv k (aI.aY k x hf).1 bj];exact hc
  ·have bj:k≠b:=fun h=>Gj 0 (h▸hf)
   rw[gv k (aI.aY k 0 hf).1 bj];exact hc
  ·unfold aQ at h ⊢
   by_cases hr:q=r
   ·subst hr;rw[hq] at h;exact(show False by cases o<;>first|exact h|exact hn).elim
   ·rw[get_set_other hr];exact h
 refine⟨⟨hk.os,hk.tape,hk.output,hk.size,fun k h1 h3=>gv k h1 fun h=>h3 (h▸XS)⟩,bY,⟨by rw[List.length_set];exact aI.heap.len,fun r x u e1 e2=>?_,fun r r' x x' u u' k bj e1 e2 l1 l2 e3 e4 e5=>?_⟩,fun k h=>.inr ((Jy k).1 h),M9.ext bY⟩
 ·by_cases dM:q=r
  ·subst dM
   rw[AN] at e1
   obtain rfl:=Option.some.inj e1
   rw[hb] at e2
   obtain rfl:=Option.some.inj e2
   exact s9 bY
  ·rw[get_set_other dM] at e1
   by_cases tA:x.live
   ·refine(aI.heap.obj r x u e1 e2).ext bY hk.size fun k iT Ck=>gv k Ck fun h=>?_
    subst h
    exact aI.heap.sep q r _ x _ u k dM hq e1 hl tA hb e2 np iT
   ·cases x<;>first|exact True.intro|exact(tA True.intro).elim
 ·have look:∀{r:Nat} {x:af},(hp.set q o')[r]?=some x→x.live→∃p,hp[r]?=some p∧p.live:=by
   intro r x e l
   by_cases hr:q=r
   ·subst hr;exact⟨_,hq,hl⟩
   ·rw[get_set_other hr] at e;exact⟨x,e,l⟩
  obtain⟨p,XT,XU⟩:=look e1 l1
  obtain⟨p',XV,XW⟩:=look e2 l2
  exact aI.heap.sep r r' p p' u u' k bj XT XV XU XW e3 e4 e5
theorem Gy {r0:AV} {q:Nat} {e size hi n6 g cap:Nat} {els:List AV} {cur:Array Value} {v:Value} (aI:nW w F η hp) (hq:hp[q]?=some (.row e size els)) (dn:η[q]?=some (.slice (some ⟨g,0,none⟩) els.length cap)) (FI:0<cap)
  (hg:w.heap[g]?=some (.cells cur e (0,hi))) (za:w'.heap[g]?=some (.cells cur e (0,n6))) (hh:n6≤els.length*size)
  (hs:w'.os=w.os∧w'.tape=w.tape∧w'.output=w.output∧w'.heap.size=w.heap.size) (hk:∀k,k≠g→w'.heap[k]?=w.heap[k]?) (M9:aV w F η hp r0 v):
  fS w F η hp w' η hp r0 v:=by
 have aw:∀b o,w'.cell? ⟨b,o,none⟩=w.cell? ⟨b,o,none⟩:=by
  intro b o
  by_cases hb:b=g
  ·subst hb;simp only[World.cell?,hg,za]
  ·simp only[World.cell?,hk b hb]
 have Mp:aC η hp g:=⟨q,_,_,hq,True.intro,dn,ba FI⟩
 have bY:Ext w F η hp w' (bQ F w η hp w' η hp) η hp:=by
  refine⟨fun k x u hf hc=>by rw[aw];exact hc,fun k es c hf hc=>?_,fun k x hf=>⟨.inl hf,by rw[hs.2.2.2];exact(aI.aY k x hf).1,(aI.aY k x hf).2⟩,fun r a h=>h,fun r a h=>h,fun r n u h=>h⟩
  have:k≠g:=fun e=>by rw[e] at hc;rw[hc] at hg;cases hg
  rw[hk k this];exact hc
 refine⟨⟨hs.1,hs.2.1,hs.2.2.1,by rw[hs.2.2.2];exact Nat.le_refl _,fun k _ h3=>hk k fun h=>h3 (h▸Mp)⟩,bY,⟨aI.heap.len,fun r x u e1 e2=>?_,aI.heap.sep⟩,fun k h=>.inr h,M9.ext bY⟩
 by_cases hr:q=r
 ·subst hr
  rw[hq] at e1
  obtain rfl:=Option.some.inj e1
  rw[dn] at e2
  obtain rfl:=Option.some.inj e2
  obtain⟨hz,xs,⟨hl,h1⟩,cy⟩:=aI.heap.obj q _ _ hq dn
  refine⟨hz,xs,⟨hl,?_⟩,fun i el hi=>⟨(cy i el hi).1,fun j y hj=>let ⟨v1,q1,q2,q3⟩:=(cy i el hi).2 j y hj;⟨v1,q1,q2.ext bY.jP.ext,q3⟩⟩⟩
  rcases h1 with⟨h1,h2|⟨ad,h2⟩⟩|⟨g1,aaZ,aa0,h2,h3,⟨_,_,h4⟩,h5⟩
  ·cases h2
  ·simp only[Value.slice.injEq] at h2;omega
  ·simp only[Value.slice.injEq,Option.some.injEq,Addr.mk.injEq,and_true] at h2
   obtain⟨rfl,_,rfl⟩:=h2
   rw[hg] at h4
   simp only[Option.some.injEq,Obj.cells.injEq] at h4
   obtain⟨rfl,_,_⟩:=h4
   exact .inr ⟨g,cap,cur,rfl,FI,⟨n6,hh,za⟩,h5⟩
 ·by_cases tA:x.live
  ·refine(aI.heap.obj r x u e1 e2).ext bY (by rw[hs.2.2.2];exact Nat.le_refl _) fun k iT Ck=>hk k fun h=>?_
   subst h
   exact aI.heap.sep q r _ x _ u k hr hq e1 True.intro tA dn e2 (ba FI) iT
  ·cases x<;>first|exact True.intro|exact(tA True.intro).elim
theorem uB {r0:AV} {v:Value} (aI:nW w F η hp) (hk:bo (aC η hp) w w') (hc:∀b o u,F b o→w.cell? ⟨b,o,none⟩=some u→w'.cell? ⟨b,o,none⟩=some u) (hm:∀b es c,F b 0→w.heap[b]?=some (.map es c)→w'.heap[b]?=some (.map es c)) {hp':List af} (hl:hp'.length=hp.length) (hd:∀(r:Nat) (o:af),hp'[r]?=some o→o=.dead)
  (M9:∀F',aV w' F' η hp' r0 v):fS w F η hp w' η hp' r0 v:=by
 refine⟨hk,⟨hc,hm,fun k o hf=>⟨.inl hf,Nat.lt_of_lt_of_le (aI.aY k o hf).1 hk.size,fun r u e1 e2=>?_⟩,fun r a h=>h,fun r a h=>h,fun r n u h=>?_⟩,⟨by rw[hl];exact aI.heap.len,fun r x u e1 e2=>?_,fun r r' x x' u u' k bj e1 e2 l1 l2=>?_⟩,fun k h=>?_,M9 _⟩
 ·have hr:r<hp'.length:=by rw[hl,←aI.heap.len];exact(List.getElem?_eq_some_iff.1 e1).1
  obtain⟨x,hx⟩:∃x,hp'[r]?=some x:=⟨_,List.getElem?_eq_getElem hr⟩
  rw[hx,hd r x hx];exact True.intro
 ·have hr:r<hp'.length:=by
   unfold aQ at h
   rw[hl]
   rcases Nat.lt_or_ge r hp.length with h1|h1
   ·exact h1
   ·rw[List.getElem?_eq_none h1] at h;exact h.elim
  obtain⟨x,hx⟩:∃x,hp'[r]?=some x:=⟨_,List.getElem?_eq_getElem hr⟩
  unfold aQ
  rw[hx,hd r x hx];exact True.intro
 ·rw[hd r x e1];exact True.intro
 ·rw[hd r x e1] at l1;exact l1.elim
 ·obtain⟨r,x,u,e1,e2,_⟩:=h
  rw[hd r x e1] at e2;exact e2.elim
end
theorem yx {w:World} {F:Nat→Nat→Prop} {η:List Value} {hp:List af} {r o:Nat} {v:Value} (h:aV w F η hp (.ptr r o) v):∃b,v=.pointer (some ⟨b,o,none⟩)∧η[r]?=some (.pointer (some ⟨b,0,none⟩)):=by
 cases h with|ptr _ _ b h1=>exact⟨b,rfl,h1⟩
theorem lV {us:List AV} {n:Nat}:bJ Tryz.prog 171 [.ptr 0 0] [.cA 1 n,.row 5 1 us] (fun r hp'=>r=.bc []∧hp'=[.cA 1 n,.row 5 1 us]):=by
 refine⟨⟨_,Tryz.func171,by kernel_rfl,by kernel_rfl⟩,fun w F η aR aI hv=>?_⟩
 match aR,hv with
 | [v0],⟨r0,_⟩=>
  obtain⟨b,rfl,h0⟩:=yx r0
  obtain⟨b',vs,e1,h1,h2,h3,u,h4,h5⟩:=aI.heap.obj 0 _ _ rfl h0
  cases e1
  have c0:∀x,vs[0]?=some x→w.cell? ⟨b,0,none⟩=some x:=fun x hx=>by simp only[World.cell?,h1];exact hx
  rcases h3 with h3|h3
  ·refine callsIn_wide.2 ((Any.Builder_copyCheck_fresh Jx Dh b w (c0 _ h3) (by simp only[World.shape?,h1,h2.1];rfl) (by simp[World.frozen?,h1])).mono ?_)
   rintro e w' ⟨rfl,rfl⟩
   have g1:=heap_setCell_same w b 0 _ s8 (.pointer (some ⟨b,0,none⟩)) h1
   exact⟨_,.bc [],[.cA 1 n,.row 5 1 us],η,rfl,⟨rfl,rfl⟩,qU (q:=0) (b:=b) (o':=.cA 1 n) aI rfl True.intro True.intro h0 rfl ⟨rfl,rfl,rfl,by simp,fun k _ hk=>heap_setCell_other _ _ _ _ hk⟩ (by simp)
    (fun bY=>⟨b,_,rfl,g1,⟨by simp[h2.1],fun e=>by rw[Array.getElem?_setIfInBounds_ne (by omega)];exact h2.2 e⟩,.inr (by simp[h2.1]),u,by rw[Array.getElem?_setIfInBounds_ne (by omega)];exact h4,h5.ext bY⟩) (.bc [] #[] rfl fun j y u hy _=>by cases hy)⟩
  ·refine callsIn_wide.2 ((Any.Builder_copyCheck_used Jx Dh b w (c0 _ h3)).mono ?_)
   rintro e w' ⟨rfl,rfl⟩
   exact⟨_,.bc [],[.cA 1 n,.row 5 1 us],η,rfl,⟨rfl,rfl⟩,qU (q:=0) (b:=b) (o':=.cA 1 n) aI rfl True.intro True.intro h0 rfl ⟨rfl,rfl,rfl,Nat.le_refl _,fun _ _ _=>rfl⟩ rfl
    (fun bY=>⟨b,_,rfl,h1,h2,.inr h3,u,h4,h5.ext bY⟩) (.bc [] #[] rfl fun j y u hy _=>by cases hy)⟩
theorem qb {us:List AV} {s:ByteArray} (h:us.length+s.size≤140737488355328) (bj:s.size≠0):bJ Tryz.prog 124 [.ptr 0 0,nS s] [.cA 1 us.length,.row 5 1 us]
  (fun r hp'=>r=.bc [nI s.size,.ae (.nilIface)]∧hp'=[.cA 1 (us++aT s).length,.row 5 1 (us++aT s)]):=
 Jw ⟨_,lV,fun r q ⟨h1,h2⟩=>⟨us,⟨h1,h2⟩,rfl,h,by rw[List.length_append,dR];omega,rfl,rfl⟩⟩
theorem Ow:Builder.Extra Tryz.prog AM:={ Dh with t5:=Tryz.underlying5,a5:=Tryz.isAgg5,z5:=Tryz.sizeOf5,v5:=Tryz.zeroValue5,infoByte:=by kernel_rfl,cellsByte:=by kernel_rfl,sizeByte:=by kernel_rfl,neB5:=by decide }
set_option maxHeartbeats 1000000 in
set_option maxRecDepth 100000 in
theorem wJ {P:Program} {ρ:Ren} (L:Lays.n169 P ρ) (X:Builder.Extra P ρ) {b g cap hi:Nat} {cur vs:Array Value} {l:List UInt8} {w:World} (np:w.heap[b]?=some (.cells vs (ρ.t 72) (0,0)))
  (YF:vs[1]?=some (.slice (some ⟨g,0,none⟩) l.length cap)) (hg:w.heap[g]?=some (.cells cur (ρ.t 5) (0,hi))) (zi:l.length≤cap) (Cn:cap≤maxLen) (eS:cur.size=cap*1) (jg:cur.toList.take (l.length*1)=Lib.byteCells l) (h0:l≠[]):
  Calls P (ρ.f 169) #[.pointer (some ⟨b,0,none⟩)] w fun e w'=>e=.returned (.string ⟨l.toArray⟩)∧w'=w.drew.freeze ⟨g,0,none⟩ l.length:=by
 have Lr:l.length≠0:=by simpa using h0
 have c1:w.drew.cell? ⟨b,1,none⟩=some (.slice (some ⟨g,0,none⟩) l.length cap):=by
  have:w.drew.heap[b]?=some (.cells vs (ρ.t 72) (0,0)):=np
  rw[Lib.cell_of_heap this];exact YF
 have hSD:(Builtin.unsafeSliceData_ #[(ρ.t 37)] (ρ.t 127) #[.slice (some ⟨g,0,none⟩) l.length cap]).run P w.drew=.ok (.pointer (some ⟨g,0,none⟩)) w.drew:=
  Lib.run_unsafeSliceData_row _ _ _ _ _ _ (by omega)
 have hUS:(Builtin.unsafeString_ #[(ρ.t 127),(ρ.t 3)] (ρ.t 9) #[.pointer (some ⟨g,0,none⟩),.int .i64 l.length]).run P w.drew=.ok (.string ⟨l.toArray⟩) (w.drew.freeze ⟨g,0,none⟩ l.length):=by
  refine Lib.run_unsafeString_row w.drew (ρ.t 127) (ρ.t 3) (ρ.t 9) (ρ.t 5) L.t127 X.cellsByte g cur.size (by have za:w.drew.heap[g]?=some (.cells cur (ρ.t 5) (0,hi)):=hg;simp[World.shape?,za]) l h0 (by omega) (by unfold maxLen at Cn;omega) ?_
  intro j x hx
  have hj:j<l.length:=(List.getElem?_eq_some_iff.1 hx).1
  have e1:(cur.toList.take (l.length*1))[j]?=some (.int .u8 x.toNat):=by rw[jg];simp[Lib.byteCells,hx]
  rw[List.getElem?_take_of_lt (by omega)] at e1
  have za:w.drew.heap[g]?=some (.cells cur (ρ.t 5) (0,hi)):=hg
  rw[Addr.add_lit,Lib.cell_of_heap za]
  simpa using e1
 have mixed:=L.mixed
 have t72:=L.t72;have a72:=L.a72;have z72:=L.z72;have v72:=L.v72;have u72:=run_underlying L.t72
 have t70:=L.t70;have a70:=L.a70;have z70:=L.z70;have v70:=L.v70;have u70:=run_underlying L.t70
 have t37:=L.t37;have a37:=L.a37;have z37:=L.z37;have v37:=L.v37;have u37:=run_underlying L.t37
 have t127:=L.t127;have a127:=L.a127;have z127:=L.z127;have v127:=L.v127;have YG:=run_underlying L.t127
 have t3:=L.t3;have a3:=L.a3;have z3:=L.z3;have v3:=L.v3;have u3:=run_underlying L.t3
 have t9:=L.t9;have a9:=L.a9;have z9:=L.z9;have v9:=L.v9;have u9:=run_underlying L.t9
 have t5:=X.t5;have a5:=X.a5;have z5:=X.z5;have v5:=X.v5;have u5:=run_underlying X.t5
 go_enter L.f169,Body.n169_ntmps ρ
 go_wp2
 go_region_o
 all_goals (go_wp2;go_ret;exact⟨rfl,rfl⟩)
set_option maxHeartbeats 2000000 in
set_option maxRecDepth 100000 in
theorem uC {P:Program} {ρ:Ren} (L:Lays.n169 P ρ) (X:Builder.Extra P ρ) {b:Nat} {vs:Array Value} {w:World} (np:w.heap[b]?=some (.cells vs (ρ.t 72) (0,0))) (YF:vs[1]?=some (.slice none 0 0)):
  Calls P (ρ.f 169) #[.pointer (some ⟨b,0,none⟩)] w fun e w'=>e=.returned (.string ⟨#[]⟩)∧w'=w.drew:=by
 have hUS:=Any.unsafeString_none L X
 have c1:w.drew.cell? ⟨b,1,none⟩=some (.slice none 0 0):=by
  have:w.drew.heap[b]?=some (.cells vs (ρ.t 72) (0,0)):=np
  rw[Lib.cell_of_heap this];exact YF
 have hSD:(Builtin.unsafeSliceData_ #[(ρ.t 37)] (ρ.t 127) #[.slice none 0 0]).run P w.drew=.ok (.pointer none) w.drew:=rfl
 have mixed:=L.mixed
 have t72:=L.t72;have a72:=L.a72;have z72:=L.z72;have v72:=L.v72;have u72:=run_underlying L.t72
 have t70:=L.t70;have a70:=L.a70;have z70:=L.z70;have v70:=L.v70;have u70:=run_underlying L.t70
 have t37:=L.t37;have a37:=L.a37;have z37:=L.z37;have v37:=L.v37;have u37:=run_underlying L.t37
 have t127:=L.t127;have a127:=L.a127;have z127:=L.z127;have v127:=L.v127;have YG:=run_underlying L.t127
 have t3:=L.t3;have a3:=L.a3;have z3:=L.z3;have v3:=L.v3;have u3:=run_underlying L.t3
 have t9:=L.t9;have a9:=L.a9;have z9:=L.z9;have v9:=L.v9;have u9:=run_underlying L.t9
 have t5:=X.t5;have a5:=X.a5;have z5:=X.z5;have v5:=X.v5;have u5:=run_underlying X.t5
 go_enter L.f169,Body.n169_ntmps ρ
 go_wp2
 go_region_o
 all_goals (go_wp2;go_ret;exact⟨rfl,rfl⟩)
theorem ju {w:World} {g n k:Nat} (h:k≠g):(w.freeze ⟨g,0,none⟩ n).heap[k]?=w.heap[k]?:=by
 unfold World.freeze
 split
 ·rfl
 ·simp only[Array.getElem?_modify];rw[if_neg (Ne.symm h)]
theorem Bx {w:World} {g n b o:Nat} {cur:Array Value} {T:TypeId} {z:Nat×Nat} (hg:w.heap[g]?=some (.cells cur T z)):(w.freeze ⟨g,0,none⟩ n).cell? ⟨b,o,none⟩=w.cell? ⟨b,o,none⟩:=by
 by_cases h:b=g
 ·subst h
  unfold World.freeze
  split
  ·rfl
  ·simp[World.cell?,Array.getElem?_modify,hg]
 ·simp only[World.cell?,ju h]
theorem DF {w:World} {g n hi:Nat} {cur:Array Value} {T:TypeId} (hg:w.heap[g]?=some (.cells cur T (0,hi))) (hn:n≠0) (h:hi≤n):(w.freeze ⟨g,0,none⟩ n).heap[g]?=some (.cells cur T (0,n)):=by
 unfold World.freeze
 rw[if_neg hn]
 simp only[Array.getElem?_modify,if_true,hg,Option.map_some]
 congr 2
 by_cases h0:hi=0
 ·subst h0;simp
 ·have:(0==hi)=false:=by simp;omega
  rw[this]
  simp;omega
theorem rP (w:World) (a:Addr) (n:Nat):(w.freeze a n).os=w.os∧(w.freeze a n).tape=w.tape∧(w.freeze a n).output=w.output∧(w.freeze a n).heap.size=w.heap.size:=by
 unfold World.freeze
 split
 ·exact⟨rfl,rfl,rfl,rfl⟩
 ·exact⟨rfl,rfl,rfl,by simp⟩
theorem Fw {P:Program} {w:World} {F:Nat→Nat→Prop} {η:List Value} {hp:List af} {q:Nat} {s:ByteArray} {u:Value} (aI:nW w F η hp) (hq:hp[q]?=some (.row 5 1 (aT s))) (dn:η[q]?=some u) (h:s.size≠0):
  s.data.toList≠[]∧(aT s).length=s.data.toList.length∧∃g cap cur hi,u=.slice (some ⟨g,0,none⟩) (aT s).length cap∧0<cap∧hi≤(aT s).length∧w.heap[g]?=some (.cells cur 5 (0,hi))∧(aT s).length≤cap∧cap≤maxLen∧cur.size=cap*1∧cur.toList.take ((aT s).length*1)=Lib.byteCells s.data.toList:=by
 obtain⟨_,xs,⟨g0,g1⟩,g2⟩:=aI.heap.obj q _ _ hq dn
 have hlen:(aT s).length=s.data.toList.length:=by unfold aT;exact List.length_map _
 have Lt:xs=Lib.byteCells s.data.toList:=by
  refine List.ext_getElem? fun i=>?_
  cases hs:s.data.toList[i]? with
  |none=>
   have:s.data.toList.length≤i:=List.getElem?_eq_none_iff.1 hs
   rw[List.getElem?_eq_none (by rw[g0,hlen];omega),List.getElem?_eq_none (by rw[Lib.byteCells_length];exact this)]
  |some c=>
   obtain⟨u,k1,k2,_⟩:=(g2 i (.ae (.int .u8 c.toNat)) (by simp[aT,hs])).2 0 _ rfl
   have k3:xs[i]?=some u:=by simpa using k1
   rw[k3]
   cases k2
   simp[Lib.byteCells,hs]
 have bj:s.data.toList≠[]:=fun e=>h (by rw[←dR,hlen,e];rfl)
 rcases g1 with⟨g1,_⟩|⟨g,cap,cur,rfl,k0,⟨hi,kh,k1⟩,k2,k3,k4,k5⟩
 ·exact(h (by rw[←dR];exact g1)).elim
 ·exact⟨bj,hlen,g,cap,cur,hi,rfl,k0,by omega,k1,k2,k3,k4,by rw[k5];exact Lt⟩
theorem Ox {s:ByteArray}:bJ Tryz.prog 128 [.ptr 0 0] [.cA 1 (aT s).length,.row 5 1 (aT s)] (fun r hp'=>r=nS s∧hp'=[.dead,.dead]):=by
 refine⟨⟨_,Tryz.func128,by kernel_rfl,by kernel_rfl⟩,fun w F η aR aI hv=>?_⟩
 match aR,hv with
 | [v0],⟨r0,_⟩=>
  obtain⟨b,rfl,h0⟩:=yx r0
  obtain⟨b',vs,e1,h1,h2,h3,u,h4,h5⟩:=aI.heap.obj 0 _ _ rfl h0
  cases e1
  by_cases h:s.size=0
  ·have hz:aT s=[]:=List.eq_nil_of_length_eq_zero (by rw[dR];exact h)
   have hs:s=⟨#[]⟩:=by
    obtain⟨d⟩:=s
    have:d.size=0:=h
    rw[Array.eq_empty_of_size_eq_zero this]
   refine callsIn_wide.2 ((uC xY Ow (b:=b) h1 (h2.2 (by rw[hz];rfl))).mono ?_)
   rintro e w' ⟨rfl,rfl⟩
   refine⟨_,nS s,[.dead,.dead],η,rfl,⟨rfl,rfl⟩,uB (w':=w.drew) (hp':=[.dead,.dead]) aI ⟨rfl,rfl,rfl,Nat.le_refl _,fun _ _ _=>rfl⟩ (fun _ _ _ _ hc=>hc) (fun _ _ _ _ hc=>hc) rfl (fun r o e=>?_) fun F'=>by rw[hs];exact .ae (.string ⟨#[]⟩)⟩
   match r,e with
   |0,e=>exact(Option.some.inj e).symm
   |1,e=>exact(Option.some.inj e).symm
  have h6:η[1]?=some u:=by cases h5 with|own _ _ _ _ ho=>exact ho.2 rfl
  obtain⟨bj,hlen,g,cap,cur,hi,rfl,k0,kh,k1,k2,k3,k4,k5⟩:=Fw (P:=Tryz.prog) (q:=1) aI rfl h6 h
  rw[hlen] at h4 k2 k5 h6
  refine callsIn_wide.2 ((wJ xY Ow (b:=b) (g:=g) (cap:=cap) (cur:=cur) (l:=s.data.toList) h1 h4 k1 k2 k3 k4 k5 bj).mono ?_)
  rintro e w' ⟨rfl,rfl⟩
  have Mp:aC η [.cA 1 (aT s).length,.row 5 1 (aT s)] g:=⟨1,_,_,rfl,True.intro,h6,ba k0⟩
  obtain⟨f1,f2,f3,f4⟩:=rP w.drew ⟨g,0,none⟩ s.data.toList.length
  refine⟨_,nS s,[.dead,.dead],η,rfl,⟨rfl,rfl⟩,uB aI ⟨f1,f2,f3,by rw[f4];exact Nat.le_refl _,fun k _ hk=>?_⟩ (fun b o u _ hc=>?_) (fun b es c _ hc=>?_) rfl (fun r o e=>?_) fun F'=>?_⟩
  ·exact ju (w:=w.drew) fun e=>hk (e▸Mp)
  ·rw[Bx (w:=w.drew) (cur:=cur) k1];exact hc
  ·have:b≠g:=fun e=>by rw[e] at hc;rw[hc] at k1;cases k1
   rw[ju (w:=w.drew) this];exact hc
  ·match r,e with
   |0,e=>exact(Option.some.inj e).symm
   |1,e=>exact(Option.some.inj e).symm
  ·exact .ae _
theorem By {s:ByteArray}:bJ Tryz.prog 128 [.ptr 0 0] [.cA 1 (aT s).length,.row 5 1 (aT s)] (fun r hp'=>r=nS s∧hp'=[.cA 1 (aT s).length,.row 5 1 (aT s)]):=by
 refine⟨⟨_,Tryz.func128,by kernel_rfl,by kernel_rfl⟩,fun w F η aR aI hv=>?_⟩
 match aR,hv with
 | [v0],⟨r0,_⟩=>
  obtain⟨b,rfl,h0⟩:=yx r0
  obtain⟨b',vs,e1,h1,h2,h3,u,h4,h5⟩:=aI.heap.obj 0 _ _ rfl h0
  cases e1
  by_cases h:s.size=0
  ·have hz:aT s=[]:=List.eq_nil_of_length_eq_zero (by rw[dR];exact h)
   have hs:s=⟨#[]⟩:=by
    obtain⟨d⟩:=s
    have:d.size=0:=h
    rw[Array.eq_empty_of_size_eq_zero this]
   refine callsIn_wide.2 ((uC xY Ow (b:=b) h1 (h2.2 (by rw[hz];rfl))).mono ?_)
   rintro e w' ⟨rfl,rfl⟩
   refine⟨_,nS s,[.cA 1 (aT s).length,.row 5 1 (aT s)],η,rfl,⟨rfl,rfl⟩,qU (w':=w.drew) (q:=0) (b:=b) (o':=.cA 1 (aT s).length) aI rfl True.intro True.intro h0 rfl ⟨rfl,rfl,rfl,Nat.le_refl _,fun _ _ _=>rfl⟩ rfl
    (fun bY=>⟨b,_,rfl,h1,h2,h3,u,h4,h5.ext bY⟩) (by rw[hs];exact .ae (.string ⟨#[]⟩))⟩
  have h6:η[1]?=some u:=by cases h5 with|own _ _ _ _ ho=>exact ho.2 rfl
  obtain⟨bj,hlen,g,cap,cur,hi,rfl,k0,kh,k1,k2,k3,k4,k5⟩:=Fw (P:=Tryz.prog) (q:=1) aI rfl h6 h
  have ZL:=h4
  have ZM:=k5
  rw[hlen] at ZL ZM
  refine callsIn_wide.2 ((wJ xY Ow (b:=b) (g:=g) (cap:=cap) (cur:=cur) (l:=s.data.toList) h1 ZL k1 (hlen▸k2) k3 k4 ZM bj).mono ?_)
  rintro e w' ⟨rfl,rfl⟩
  obtain⟨f1,f2,f3,f4⟩:=rP w.drew ⟨g,0,none⟩ s.data.toList.length
  have hbg:b≠g:=fun e=>aI.heap.sep 0 1 _ _ _ _ g (by decide) rfl rfl True.intro True.intro h0 h6 (by rw[e];rfl) (ba k0)
  exact⟨_,nS s,_,η,rfl,⟨rfl,rfl⟩,Gy (q:=1) aI rfl h6 k0 k1 (DF (w:=w.drew) k1 (by rw[←hlen,dR];exact h) (hlen▸kh)) (by rw[hlen];omega) ⟨f1,f2,f3,f4⟩ (fun k hk=>ju (w:=w.drew) hk) (.ae _)⟩
end
abbrev bl (us:List AV):List af:=[.cA 1 us.length,.row 5 1 us]
theorem Rn {n:Int}:dE (.bc [nI n,.ae .nilIface]) (.bc [nI n,.top]):=fun w F η hp v h=>by
 cases h with
 |bc cs vs hl hr=>
  refine .bc _ vs hl fun j x u hx hu=>?_
  match j,hx with
  |0,hx=>exact hr 0 x u hx hu
  |1,hx=>cases hx;exact .top _
theorem KP {us:List AV} {s:ByteArray} (bj:s.size≠0) (h:us.length+s.size≤140737488355328):bJ Tryz.prog 124 [.ptr 0 0,nS s] (bl us)
  (fun r hp'=>r=.bc [nI s.size,.top]∧hp'=bl (us++aT s)):=
 (qb h bj).res fun r h' ⟨h1,h2⟩=>⟨_,h1▸Rn,rfl,h2⟩
mutual
def Ty.gj (most:Nat):Nat→Ty→Nat
 |d,.mk l _=>(match d with
  |0=>most+1
  |d+1=>Ty.eR most d 1 l)
def Ty.eR (most:Nat):Nat→Nat→List Ty→Nat
 |_,n,[]=>n
 |d,n,t::l=>if n≤most then Ty.eR most d (n+Ty.gj most d t) l else n
end
theorem Ty.fL (most:Nat) (t:Ty):Ty.gj most 0 t=most+1:=by cases t;rfl
theorem Ty.fM (most d:Nat) (t:Ty):Ty.gj most (d+1) t=Ty.eR most d 1 t.args:=by cases t;rfl
theorem Ty.qV {most d n:Nat} {l:List Ty} {k:Nat} (h:k<l.length):Ty.eR most d n (l.drop k)=if n≤most then Ty.eR most d (n+Ty.gj most d l[k]) (l.drop (k+1)) else n:=by
 rw[List.drop_eq_getElem_cons h,Ty.eR]
theorem Ty.qc {most d:Nat} (h:∀t:Ty,Ty.gj most d t≤(d+1)*(most+1)):∀(l:List Ty) (n:Nat),n≤(d+2)*(most+1)→Ty.eR most d n l≤(d+2)*(most+1)
 | [],n,hn=>hn
 |t::l,n,hn=>by
  rw[Ty.eR]
  split
  ·refine Ty.qc h l _ ?_
   have:=h t
   have e:(d+2)*(most+1)=(d+1)*(most+1)+(most+1):=by rw[Nat.add_mul,Nat.add_mul];omega
   omega
  ·exact hn
theorem Ty.uD (most:Nat):∀(d:Nat) (t:Ty),Ty.gj most d t≤(d+1)*(most+1)
 |0,t=>by rw[Ty.fL];omega
 |d+1,t=>by
  rw[Ty.fM]
  refine Ty.qc (Ty.uD most d) _ _ ?_
  have:1*1≤(d+2)*(most+1):=Nat.mul_le_mul (by omega) (by omega)
  omega
theorem Ty.jv (most d:Nat):∀(l:List Ty) (n:Nat),n≤Ty.eR most d n l
 | [],n=>Nat.le_refl _
 |t::l,n=>by
  rw[Ty.eR]
  split
  ·exact Nat.le_trans (by omega) (Ty.jv most d l _)
  ·exact Nat.le_refl _
theorem Ty.yy (most:Nat):∀(d:Nat) (t:Ty),1≤Ty.gj most d t
 |0,t=>by rw[Ty.fL];omega
 |d+1,t=>by rw[Ty.fM];exact Ty.jv _ _ _ _
theorem Ty.kI {most d:Nat} (h:∀t:Ty,Ty.gj most d t≤most→t.size=Ty.gj most d t):∀(l:List Ty) (n:Nat),Ty.eR most d n l≤most→Ty.eR most d n l=n+Ty.sizes l
 | [],n,_=>rfl
 |t::l,n,hn=>by
  rw[Ty.eR] at hn ⊢
  split
  ·rename_i hc
   rw[if_pos hc] at hn
   rw[Ty.kI h l _ hn]
   have:=Ty.jv most d l (n+Ty.gj most d t)
   rw[Ty.sizes,h t (by omega)];omega
  ·rename_i hc
   rw[if_neg hc] at hn;omega
theorem Ty.iO (most:Nat):∀(d:Nat) (t:Ty),Ty.gj most d t≤most→t.size=Ty.gj most d t
 |0,t,h=>by rw[Ty.fL] at h;omega
 |d+1,t,h=>by
  rw[Ty.fM] at h ⊢
  rw[Ty.kI (Ty.iO most d) _ _ h,t.size_eq]
theorem PF {d m:Nat} (hd:d≤1000) (hm:m≤1000):(d+1)*(m+1)≤1002001:=Nat.mul_le_mul (show d+1≤1001 by omega) (show m+1≤1001 by omega)
theorem Bz {most:Nat} (rR:most≤1000):∀(d:Nat) (t:Ty),d≤999→ag Tryz.prog 90 [t.enc,nI most,nI d] (nI (Ty.gj most d t:Nat)):=by
 intro d
 induction d with
 |zero=>
  intro t _
  rw[Ty.aE,Ty.fL]
  refine E6 (ak.pos (by decide) ?_)
  rw[aB (by omega)]
 |succ d ih=>
  intro t hd
  rw[Ty.aE,Ty.fM]
  refine E6 (ak.neg (decide_eq_false (by omega)) ?_)
  refine au.intro (fun p:Nat×Nat=>(((most:Int),((d+1:Nat):Int),(),(p.2:Int),(p.1:Int),()),((t.args.map Ty.enc,t.base,()),())))
   (fun p=>p.1≤t.args.length∧p.1+1≤p.2∧p.2≤(d+2)*(most+1)∧Ty.eR most d 1 t.args=Ty.eR most d p.2 (t.args.drop p.1)) (fun p=>t.args.length-p.1) (0,1) rfl
   ⟨Nat.zero_le _,Nat.le_refl _,by have:1*1≤(d+2)*(most+1):=Nat.mul_le_mul (by omega) (by omega);dsimp only;omega,rfl⟩ ?_
  intro ⟨k,n⟩ ⟨hk,Va,hn,hs⟩ again bB
  dsimp only at hk Va hn hs ⊢
  have hbd:(d+2)*(most+1)≤1002001:=PF (d:=d+1) (m:=most) (by omega) rR
  rw[List.length_map]
  refine ak.intro (fun h=>?_) fun h=>?_
  ·have al:k<t.args.length:=by simpa using h
   rw[Ty.qV al] at hs
   refine ak.intro (fun h=>?_) fun h=>?_
   ·have hm:n≤most:=by simpa using h
    rw[if_pos hm] at hs
    have hi:=ih t.args[k] (by omega)
    have hb:=Ty.uD most d t.args[k]
    have hp:=Ty.yy most d t.args[k]
    rw[Ty.aE] at hi
    refine⟨by omega,by omega,_,_,Ty.aj al,(Ty.gj most d t.args[k]:Nat),?_,?_⟩
    ·rw[dm (n:=((d+1:Nat):Int)-1) (by omega) (by omega),show ((d+1:Nat):Int)-1=(d:Int) from by omega]
     exact hi
    ·have e:(d+2)*(most+1)=(d+1)*(most+1)+(most+1):=by rw[Nat.add_mul,Nat.add_mul];omega
     rw[aB (by omega),dm (n:=(n:Int)+(Ty.gj most d t.args[k]:Nat)) (by omega) (by omega),show (n:Int)+(Ty.gj most d t.args[k]:Nat)=((n+Ty.gj most d t.args[k]:Nat):Int) from by omega]
     exact bB (k+1,n+Ty.gj most d t.args[k]) ⟨by dsimp only;omega,by dsimp only;omega,by dsimp only;omega,hs⟩ (by dsimp only;omega)
   ·have hm:¬n≤most:=by simpa using h
    rw[if_neg hm] at hs
    rw[hs]
  ·have:t.args.length≤k:=by simpa using h
   rw[List.drop_eq_nil_of_le this] at hs
   rw[hs];rfl
def Ty.fN (most d:Nat) (t:Ty):Bool:=decide (Ty.gj most d t≤most)
theorem Ty.fh {most d:Nat} {t:Ty} (h:Ty.fN most d t=true):t.size≤most:=by
 have h':Ty.gj most d t≤most:=by simpa [Ty.fN] using h
 rw[Ty.iO most d t h'];exact h'
theorem rS {most d:Nat} {t:Ty} (rR:most≤1000) (hd:d≤999):ag Tryz.prog 54 [t.enc,nI most,nI d] (nB (Ty.fN most d t)):=by
 have h:=Bz rR d t hd
 rw[Ty.aE] at h ⊢
 refine MZ ⟨_,h,?_⟩
 simp only[Ty.fN,Int.ofNat_le]
theorem yz:∀(n:Nat) (t:Ty),t.size≤n→n≤1000000000→ag Tryz.prog 71 [t.enc] (nI (t.size:Nat)):=by
 intro n
 induction n with
 |zero=>intro t h;have:=t.size_pos;omega
 |succ n ih=>
  intro t h hn
  have hq:=Ty.aA t.args
  have vj:=t.size_eq
  rw[Ty.aE]
  refine MX ?_
  unfold Ur E5
  refine au.intro (fun k:Nat=>(((),((1+Ty.sizes (t.args.take k):Nat):Int),(k:Int),()),((t.args.map Ty.enc,t.base,()),())))
   (fun k=>k≤t.args.length) (fun k=>t.args.length-k) 0 (by simp[Ty.sizes]) (Nat.zero_le _) ?_
  intro k hk again bB
  dsimp only
  rw[List.length_map]
  refine ak.intro (fun h=>?_) fun h=>?_
  ·have al:k<t.args.length:=by simpa using h
   have hi:=ih t.args[k] (by have:=Ty.bM al;omega) (by omega)
   have Oy:Ty.sizes (t.args.take (k+1))=Ty.sizes (t.args.take k)+t.args[k].size:=by
    rw[←cQ al,Ty.bW];simp[Ty.sizes]
   have hle:Ty.sizes (t.args.take (k+1))≤Ty.sizes t.args:=by
    have e:=Ty.bW (t.args.take (k+1)) (t.args.drop (k+1))
    rw[List.take_append_drop] at e;omega
   rw[Ty.aE] at hi
   refine⟨by omega,by omega,_,_,Ty.aj al,_,hi,?_⟩
   rw[aB (by omega),dm (n:=((1+Ty.sizes (t.args.take k):Nat):Int)+(t.args[k].size:Nat)) (by omega) (by omega),
    show ((1+Ty.sizes (t.args.take k):Nat):Int)+(t.args[k].size:Nat)=((1+Ty.sizes (t.args.take (k+1)):Nat):Int) from by omega]
   exact bB (k+1) (by omega) (by omega)
  ·have:t.args.length≤k:=by simpa using h
   rw[List.take_of_length_le this,←t.size_eq]
def mX (most d:Nat):Nat→List Ty→Option Nat
 |n,[]=>some n
 |n,t::l=>if n≤most then(if Ty.gj most d t≤most then mX most d (n+t.size) l else none) else some n
mutual
def Tm.gj (most:Nat):Nat→Tm→Nat
 |d,.mk b _ _ a=>(match d with
  |0=>most+1
  |d+1=>(match mX most (d+1) 1 b with
   |none=>most+1
   |some n=>Tm.eR most d n a))
def Tm.eR (most:Nat):Nat→Nat→List Tm→Nat
 |_,n,[]=>n
 |d,n,t::l=>if n≤most then Tm.eR most d (n+Tm.gj most d t) l else n
end
theorem Tm.fL (most:Nat) (t:Tm):Tm.gj most 0 t=most+1:=by cases t;rfl
theorem Tm.fM (most d:Nat) (t:Tm):Tm.gj most (d+1) t=(match mX most (d+1) 1 t.binds with
   |none=>most+1
   |some n=>Tm.eR most d n t.args):=by cases t;rfl
theorem Tm.qV {most d n:Nat} {l:List Tm} {k:Nat} (h:k<l.length):Tm.eR most d n (l.drop k)=if n≤most then Tm.eR most d (n+Tm.gj most d l[k]) (l.drop (k+1)) else n:=by
 rw[List.drop_eq_getElem_cons h,Tm.eR]
theorem DG {most d n:Nat} {l:List Ty} {k:Nat} (h:k<l.length):mX most d n (l.drop k)=if n≤most then(if Ty.gj most d l[k]≤most then mX most d (n+l[k].size) (l.drop (k+1)) else none) else some n:=by
 rw[List.drop_eq_getElem_cons h,mX]
theorem qd {most d:Nat}:∀{l:List Ty} {n m:Nat},mX most d n l=some m→n≤2*most+1→n≤m∧m≤2*most+1∧(m≤most→m=n+Ty.sizes l)
 | [],n,m,h,hn=>by
  simp only[mX,Option.some.injEq] at h
  subst h
  exact⟨Nat.le_refl _,hn,fun _=>rfl⟩
 |t::l,n,m,h,hn=>by
  rw[mX] at h
  split at h
  ·split at h
   ·rename_i h1 h2
    have bE:=Ty.iO most d t h2
    obtain⟨g1,g2,g3⟩:=qd h (by omega)
    refine⟨by omega,g2,fun hm=>?_⟩
    rw[g3 hm,Ty.sizes];omega
   ·cases h
  ·rename_i h1
   obtain rfl:=Option.some.inj h
   exact⟨Nat.le_refl _,hn,fun hm=>(h1 hm).elim⟩
theorem Tm.qc {most d:Nat} (h:∀t:Tm,Tm.gj most d t≤(d+2)*(most+1)):∀(l:List Tm) (n:Nat),n≤(d+3)*(most+1)→Tm.eR most d n l≤(d+3)*(most+1)
 | [],n,hn=>hn
 |t::l,n,hn=>by
  rw[Tm.eR]
  split
  ·refine Tm.qc h l _ ?_
   have:=h t
   have e:(d+3)*(most+1)=(d+2)*(most+1)+(most+1):=by rw[Nat.add_mul,Nat.add_mul];omega
   omega
  ·exact hn
theorem Tm.uD (most:Nat):∀(d:Nat) (t:Tm),Tm.gj most d t≤(d+2)*(most+1)
 |0,t=>by rw[Tm.fL];omega
 |d+1,t=>by
  rw[Tm.fM]
  split
  ·show most+1≤(d+1+2)*(most+1)
   have:1*(most+1)≤(d+1+2)*(most+1):=Nat.mul_le_mul (by omega) (Nat.le_refl _)
   rw[Nat.one_mul] at this;exact this
  ·rename_i n hn
   refine Tm.qc (Tm.uD most d) _ _ ?_
   have:=(qd hn (by omega)).2.1
   have:2*(most+1)≤(d+3)*(most+1):=Nat.mul_le_mul (by omega) (Nat.le_refl _)
   omega
theorem Tm.jv (most d:Nat):∀(l:List Tm) (n:Nat),n≤Tm.eR most d n l
 | [],n=>Nat.le_refl _
 |t::l,n=>by
  rw[Tm.eR]
  split
  ·exact Nat.le_trans (by omega) (Tm.jv most d l _)
  ·exact Nat.le_refl _
theorem Tm.yy (most:Nat):∀(d:Nat) (t:Tm),1≤Tm.gj most d t
 |0,t=>by rw[Tm.fL];omega
 |d+1,t=>by
  rw[Tm.fM]
  split
  ·show 1≤most+1
   omega
  ·rename_i n hn
   exact Nat.le_trans (qd hn (by omega)).1 (Tm.jv _ _ _ _)
theorem Tm.kI {most d:Nat} (h:∀t:Tm,Tm.gj most d t≤most→t.size=Tm.gj most d t):∀(l:List Tm) (n:Nat),Tm.eR most d n l≤most→Tm.eR most d n l=n+Tm.sizes l
 | [],n,_=>rfl
 |t::l,n,hn=>by
  rw[Tm.eR] at hn ⊢
  split
  ·rename_i hc
   rw[if_pos hc] at hn
   rw[Tm.kI h l _ hn]
   have:=Tm.jv most d l (n+Tm.gj most d t)
   rw[Tm.sizes,h t (by omega)];omega
  ·rename_i hc
   rw[if_neg hc] at hn;omega
theorem Tm.iO (most:Nat):∀(d:Nat) (t:Tm),Tm.gj most d t≤most→t.size=Tm.gj most d t
 |0,t,h=>by rw[Tm.fL] at h;omega
 |d+1,t,h=>by
  rw[Tm.fM] at h ⊢
  split
  ·rename_i hn
   rw[hn] at h;simp only at h;omega
  ·rename_i n hn
   rw[hn] at h
   simp only at h
   have h1:=Tm.jv most d t.args n
   rw[Tm.kI (Tm.iO most d) _ _ h,t.size_eq,(qd hn (by omega)).2.2 (by omega)]
theorem BA {most:Nat} (rR:most≤1000):∀(d:Nat) (t:Tm),d≤900→ag Tryz.prog 34 [t.enc,nI most,nI d] (nI (Tm.gj most d t:Nat)):=by
 intro d
 induction d with
 |zero=>
  intro t _
  rw[Tm.aE,Tm.fL]
  refine E7 (ak.pos (by decide) ?_)
  rw[aB (by omega)]
 |succ d ih=>
  intro t hd
  rw[Tm.aE,Tm.fM]
  have hbd:(d+3)*(most+1)≤1002001:=PF (d:=d+2) (m:=most) (by omega) rR
  have h2:2*(most+1)≤(d+3)*(most+1):=Nat.mul_le_mul (by omega) (Nat.le_refl _)
  have args:∀n:Nat,1≤n→n≤2*most+1→uu (((most:Int),((d+1:Nat):Int),(),(n:Int),0,()),((t.binds.map Ty.enc,t.kind,t.index,t.args.map Tm.enc,()),())) (fun x=>x=nI (Tm.eR most d n t.args:Nat)):=by
   intro n RL YD
   refine au.intro (fun p:Nat×Nat=>(((most:Int),((d+1:Nat):Int),(),(p.2:Int),(p.1:Int),()),((t.binds.map Ty.enc,t.kind,t.index,t.args.map Tm.enc,()),())))
    (fun p=>p.1≤t.args.length∧p.1+1≤p.2∧p.2≤(d+3)*(most+1)∧Tm.eR most d n t.args=Tm.eR most d p.2 (t.args.drop p.1)) (fun p=>t.args.length-p.1) (0,n) rfl
    ⟨Nat.zero_le _,by dsimp only;omega,by dsimp only;omega,rfl⟩ ?_
   intro ⟨k,m⟩ ⟨hk,Va,xf,hs⟩ again bB
   dsimp only at hk Va xf hs ⊢
   rw[List.length_map]
   refine ak.intro (fun h=>?_) fun h=>?_
   ·have al:k<t.args.length:=by simpa using h
    rw[Tm.qV al] at hs
    refine ak.intro (fun h=>?_) fun h=>?_
    ·have hm:m≤most:=by simpa using h
     rw[if_pos hm] at hs
     have hi:=ih t.args[k] (by omega)
     have hb:=Tm.uD most d t.args[k]
     have hp:=Tm.yy most d t.args[k]
     rw[Tm.aE] at hi
     refine⟨by omega,by omega,_,_,_,_,Tm.aj al,(Tm.gj most d t.args[k]:Nat),?_,?_⟩
     ·rw[dm (n:=((d+1:Nat):Int)-1) (by omega) (by omega),show ((d+1:Nat):Int)-1=(d:Int) from by omega]
      exact hi
     ·have e:(d+3)*(most+1)=(d+2)*(most+1)+(most+1):=by rw[Nat.add_mul,Nat.add_mul];omega
      rw[aB (by omega),dm (n:=(m:Int)+(Tm.gj most d t.args[k]:Nat)) (by omega) (by omega),show (m:Int)+(Tm.gj most d t.args[k]:Nat)=((m+Tm.gj most d t.args[k]:Nat):Int) from by omega]
      exact bB (k+1,m+Tm.gj most d t.args[k]) ⟨by dsimp only;omega,by dsimp only;omega,by dsimp only;omega,hs⟩ (by dsimp only;omega)
    ·have hm:¬m≤most:=by simpa using h
     rw[if_neg hm] at hs
     rw[hs]
   ·have:t.args.length≤k:=by simpa using h
    rw[List.drop_eq_nil_of_le this] at hs
    rw[hs];rfl
  refine E7 (ak.neg (decide_eq_false (by omega)) ?_)
  refine au.intro (fun p:Nat×Nat=>(((most:Int),((d+1:Nat):Int),(),(p.2:Int),(p.1:Int),()),((t.binds.map Ty.enc,t.kind,t.index,t.args.map Tm.enc,()),())))
   (fun p=>p.1≤t.binds.length∧p.1+1≤p.2∧p.2≤2*most+1∧mX most (d+1) 1 t.binds=mX most (d+1) p.2 (t.binds.drop p.1)) (fun p=>t.binds.length-p.1) (0,1) rfl
   ⟨Nat.zero_le _,Nat.le_refl _,by dsimp only;omega,rfl⟩ ?_
  intro ⟨k,n⟩ ⟨hk,Va,hn,hs⟩ again bB
  dsimp only at hk Va hn hs ⊢
  rw[List.length_map]
  refine ak.intro (fun h=>?_) fun h=>?_
  ·have al:k<t.binds.length:=by simpa using h
   rw[DG al] at hs
   refine ak.intro (fun h=>?_) fun h=>?_
   ·have hm:n≤most:=by simpa using h
    rw[if_pos hm] at hs
    have hi:=rS (most:=most) (d:=d+1) (t:=t.binds[k]) rR (by omega)
    rw[Ty.aE] at hi
    refine⟨by omega,by omega,_,_,Ty.aj al,_,hi,ak.intro (fun h=>?_) fun h=>?_⟩
    ·have hf:¬Ty.gj most (d+1) t.binds[k]≤most:=by simpa [Ty.fN] using h
     rw[if_neg hf] at hs
     rw[hs,aB (by omega)]
    ·have hf:Ty.gj most (d+1) t.binds[k]≤most:=by simpa [Ty.fN] using h
     rw[if_pos hf] at hs
     have bE:=Ty.iO most (d+1) _ hf
     have hz:=yz _ t.binds[k] (Nat.le_refl _) (by omega)
     have hp:=t.binds[k].size_pos
     rw[Ty.aE] at hz
     refine⟨by omega,by omega,_,_,Ty.aj al,_,hz,?_⟩
     rw[aB (by omega),dm (n:=(n:Int)+(t.binds[k].size:Nat)) (by omega) (by omega),show (n:Int)+(t.binds[k].size:Nat)=((n+t.binds[k].size:Nat):Int) from by omega]
     exact bB (k+1,n+t.binds[k].size) ⟨by dsimp only;omega,by dsimp only;omega,by dsimp only;omega,hs⟩ (by dsimp only;omega)
   ·have hm:¬n≤most:=by simpa using h
    rw[if_neg hm] at hs
    rw[hs]
    exact args n (by omega) (by omega)
  ·have:t.binds.length≤k:=by simpa using h
   rw[List.drop_eq_nil_of_le this] at hs
   rw[hs]
   exact args n (by omega) (by omega)
def Tm.fN (most d:Nat) (t:Tm):Bool:=decide (Tm.gj most d t≤most)
theorem Tm.fh {most d:Nat} {t:Tm} (h:Tm.fN most d t=true):t.size≤most:=by
 have h':Tm.gj most d t≤most:=by simpa [Tm.fN] using h
 rw[Tm.iO most d t h'];exact h'
theorem rT {most d:Nat} {t:Tm} (rR:most≤1000) (hd:d≤900):ag Tryz.prog 8 [t.enc,nI most,nI d] (nB (Tm.fN most d t)):=by
 have h:=BA rR d t hd
 rw[Tm.aE] at h ⊢
 refine Q2 ⟨_,h,?_⟩
 simp only[Tm.fN,Int.ofNat_le]
theorem Gz {l:List Tm} (hl:l.length≤1000000000):ag Tryz.prog 32 [.sl (l.map Tm.enc)] (nB (l.all (Tm.fN 150 70))):=by
 refine M3 ?_
 unfold Ut
 refine au.intro (fun k:Nat=>((l.map Tm.enc,(k:Int),()),())) (fun k=>k≤l.length∧l.all (Tm.fN 150 70)=(l.drop k).all (Tm.fN 150 70)) (fun k=>l.length-k) 0 rfl ⟨Nat.zero_le _,rfl⟩ ?_
 intro k ⟨hk,hs⟩ again bB
 dsimp only
 rw[List.length_map]
 refine ak.intro (fun h=>?_) fun h=>?_
 ·have al:k<l.length:=by simpa using h
  rw[List.drop_eq_getElem_cons al,List.all_cons] at hs
  have hi:=rT (most:=150) (d:=70) (t:=l[k]) (by decide) (by decide)
  rw[Tm.aE] at hi
  refine⟨by omega,by omega,_,_,_,_,Tm.aj al,_,hi,ak.intro (fun h=>?_) fun h=>?_⟩
  ·have:Tm.fN 150 70 l[k]=false:=by simpa using h
   rw[hs,this,Bool.false_and]
  ·have:Tm.fN 150 70 l[k]=true:=by simpa using h
   rw[this,Bool.true_and] at hs
   rw[aB (by omega)]
   exact bB (k+1) ⟨by omega,hs⟩ (by omega)
 ·have:l.length≤k:=by simpa using h
  rw[List.drop_eq_nil_of_le this] at hs
  rw[hs];rfl
mutual
def Tm.low:Tm→Bool
 | .mk _ k i a=>!(k==0&&decide (i>900000))&&Tm.mY a
def Tm.mY:List Tm→Bool
 | []=>true
 |t::l=>Tm.low t&&Tm.mY l
end
theorem Tm.Ro (t:Tm):Tm.low t=(!(t.kind==0&&decide (t.index>900000))&&Tm.mY t.args):=by cases t;rfl
theorem Tm.GA {l:List Tm} {k:Nat} (h:k<l.length):Tm.mY (l.drop k)=(Tm.low l[k]&&Tm.mY (l.drop (k+1))):=by
 rw[List.drop_eq_getElem_cons h,Tm.mY]
theorem GB:∀(n:Nat) (l:List Tm),Tm.sizes l≤n→n≤1000000000→ag Tryz.prog 33 [.sl (l.map Tm.enc)] (nB (Tm.mY l)):=by
 intro n
 induction n with
 |zero=>
  intro l h hn
  cases l with
  |nil=>
   refine E8 ?_
   unfold Q3
   refine au.intro (fun _:Unit=>(([],0,()),())) (fun _=>True) (fun _=>0) () rfl True.intro ?_
   intro _ _ again bB
   exact ak.neg rfl rfl
  |cons t l=>have:=t.size_pos;simp[Tm.sizes] at h;omega
 |succ n ih=>
  intro l h hn
  have hq:=Tm.aA l
  refine E8 ?_
  unfold Q3
  refine au.intro (fun k:Nat=>((l.map Tm.enc,(k:Int),()),())) (fun k=>k≤l.length∧Tm.mY l=Tm.mY (l.drop k)) (fun k=>l.length-k) 0 rfl ⟨Nat.zero_le _,rfl⟩ ?_
  intro k ⟨hk,hs⟩ again bB
  dsimp only
  rw[List.length_map]
  refine ak.intro (fun h'=>?_) fun h'=>?_
  ·have al:k<l.length:=by simpa using h'
   rw[Tm.GA al,Tm.Ro] at hs
   have bE:=Tm.bm (List.getElem_mem al)
   have hi:=ih l[k].args (by have:=l[k].size_eq;omega) (by omega)
   have rest:(l[k].kind==0&&decide (l[k].index>900000))=false→ak (!(Tm.mY l[k].args)) (nB false=nB (Tm.mY l)) (again ((l.map Tm.enc,IntKind.wrap .i64 ((k:Int)+1),()),())):=by
    intro hc
    rw[hc,Bool.not_false,Bool.true_and] at hs
    refine ak.intro (fun h=>?_) fun h=>?_
    ·have:Tm.mY l[k].args=false:=by simpa using h
     rw[hs,this,Bool.false_and]
    ·have:Tm.mY l[k].args=true:=by simpa using h
     rw[this,Bool.true_and] at hs
     rw[aB (by omega)]
     exact bB (k+1) ⟨by omega,hs⟩ (by omega)
   refine⟨by omega,by omega,_,_,_,_,Tm.aj al,ak.intro (fun h=>?_) fun h=>?_⟩
   ·refine⟨by omega,by omega,_,_,_,_,Tm.aj al,ak.intro (fun h2=>?_) fun h2=>?_⟩
    ·rw[h,h2] at hs
     rw[hs];rfl
    ·exact⟨by omega,by omega,_,_,_,_,Tm.aj al,_,hi,rest (by rw[h,h2];rfl)⟩
   ·exact⟨by omega,by omega,_,_,_,_,Tm.aj al,_,hi,rest (by rw[h];rfl)⟩
  ·have:l.length≤k:=by simpa using h'
   rw[List.drop_eq_nil_of_le this] at hs
   rw[hs];rfl
def jH (c m b:List Ty):Bool:=decide (c.length≤20∧m.length≤20∧b.length≤20)&&(c++m++b).all (Ty.fN 60 60)
theorem BB (n:Int) (c m b:List Ty):ag Tryz.prog 22 [.agg [nI n,.sl (c.map Ty.enc),.sl (m.map Ty.enc)],.sl (b.map Ty.enc)] (nB (jH c m b)):=by
 refine M6 ?_
 unfold Uu
 rw[List.length_map,List.length_map,List.length_map]
 refine ak.intro (fun h=>?_) fun h=>?_
 ·have h':¬c.length≤20:=by simp at h;omega
  rw[jH,decide_eq_false (fun x=>h' x.1),Bool.false_and]
 have hc:c.length≤20:=by simp at h;omega
 refine ak.intro (fun h=>?_) fun h=>?_
 ·have h':¬m.length≤20:=by simp at h;omega
  rw[jH,decide_eq_false (fun x=>h' x.2.1),Bool.false_and]
 have hm:m.length≤20:=by simp at h;omega
 refine ak.intro (fun h=>?_) fun h=>?_
 ·have h':¬b.length≤20:=by simp at h;omega
  rw[jH,decide_eq_false (fun x=>h' x.2.2),Bool.false_and]
 have hb:b.length≤20:=by simp at h;omega
 have Wq:jH c m b=(c++m++b).all (Ty.fN 60 60):=by rw[jH,decide_eq_true ⟨hc,hm,hb⟩,Bool.true_and]
 refine⟨_,qa (by omega) (by omega),_,qa (by simp;omega) (by omega),?_⟩
 have hlen:(c++m++b).length≤60:=by simp;omega
 rw[Wq]
 generalize c++m++b=l at hlen
 refine au.intro (fun k:Nat=>((l.map Ty.enc,(k:Int),()),((n,c.map Ty.enc,m.map Ty.enc,()),()))) (fun k=>k≤l.length∧l.all (Ty.fN 60 60)=(l.drop k).all (Ty.fN 60 60)) (fun k=>l.length-k) 0 rfl ⟨Nat.zero_le _,rfl⟩ ?_
 intro k ⟨hk,hs⟩ again bB
 dsimp only
 rw[List.length_map]
 refine ak.intro (fun h=>?_) fun h=>?_
 ·have al:k<l.length:=by simpa using h
  rw[List.drop_eq_getElem_cons al,List.all_cons] at hs
  have hi:=rS (most:=60) (d:=60) (t:=l[k]) (by decide) (by decide)
  rw[Ty.aE] at hi
  refine⟨by omega,by omega,_,_,Ty.aj al,_,hi,ak.intro (fun h=>?_) fun h=>?_⟩
  ·have:Ty.fN 60 60 l[k]=false:=by simpa using h
   rw[hs,this,Bool.false_and]
  ·have:Ty.fN 60 60 l[k]=true:=by simpa using h
   rw[this,Bool.true_and] at hs
   rw[aB (by omega)]
   exact bB (k+1) ⟨by omega,hs⟩ (by omega)
 ·have:l.length≤k:=by simpa using h
  rw[List.drop_eq_nil_of_le this] at hs
  rw[hs];rfl
inductive Rw where
 |mk (kind:Int) (type:Ty) (index:Int) (kids:List Rw)
mutual
def Rw.size:Rw→Nat
 | .mk _ _ _ l=>1+Rw.sizes l
def Rw.sizes:List Rw→Nat
 | []=>0
 |t::l=>Rw.size t+Rw.sizes l
end
def Rw.kids:Rw→List Rw | .mk _ _ _ l=>l
theorem Rw.size_eq (r:Rw):r.size=1+Rw.sizes r.kids:=by cases r;rfl
mutual
def Ty.pre (d:Nat):Ty→List (Nat×Ty)
 | .mk l b=>(d,.mk l b)::Ty.fO (d+1) l
def Ty.fO (d:Nat):List Ty→List (Nat×Ty)
 | []=>[]
 |t::l=>Ty.pre d t++Ty.fO d l
end
theorem Ty.DH (d:Nat) (t:Ty):t.pre d=(d,t)::Ty.fO (d+1) t.args:=by cases t;rfl
theorem Ty.qW {d:Nat} {l:List Ty} {k:Nat} (h:k<l.length):Ty.fO d (l.drop k)=l[k].pre d++Ty.fO d (l.drop (k+1)):=by
 rw[List.drop_eq_getElem_cons h,Ty.fO]
mutual
theorem Ty.nH:∀(d:Nat) (t:Ty),(t.pre d).length=t.size
 |d,.mk l b=>by rw[Ty.pre,List.length_cons,Ty.mZ (d+1) l,Ty.size];omega
theorem Ty.mZ:∀(d:Nat) (l:List Ty),(Ty.fO d l).length=Ty.sizes l
 |d,[]=>rfl
 |d,t::l=>by rw[Ty.fO,List.length_append,Ty.nH d t,Ty.mZ d l,Ty.sizes]
end
def KQ (p:Nat×Ty):List AV:=[nI p.1,.agg [.sl (p.2.args.map Ty.enc),nI p.2.base]]
def Oz (p:Nat×Ty):Int×(List AV×Int×Unit)×Unit:=(p.1,(p.2.args.map Ty.enc,p.2.base,()),())
theorem BC:∀(n:Nat) (t:Ty) (d:Nat),t.size≤n→d+n≤1000000000→vz Tryz.prog 197 (fun v=>[.agg [.sl (t.args.map Ty.enc),nI t.base],nI d,v]) ((t.pre d).map KQ) true:=by
 intro n
 induction n with
 |zero=>intro t d h;have:=t.size_pos;omega
 |succ n ih=>
  intro t d h hn
  have hq:=Ty.aA t.args
  have vj:=t.size_eq
  refine JC fun yv more=>⟨rfl,(Ty.fO (d+1) t.args).map KQ++more,by rw[Ty.DH];rfl,fun b=>ak.intro (fun h=>?_) fun h=>?_⟩
  ·have:b=false:=by simpa using h
   subst this;rfl
  ·have:b=true:=by simpa using h
   subst this
   refine au.intro (fun k:Nat=>((((d:Int),yv,t.args.map Ty.enc,(t.args.length:Int),(k:Int),()),((t.args.map Ty.enc,t.base,()),())),some ((Ty.fO (d+1) (t.args.drop k)).map KQ++more))) (fun k=>k≤t.args.length) (fun k=>t.args.length-k) 0 (by rw[List.length_map];rfl) (Nat.zero_le _) ?_
   intro k hk again bB
   dsimp only
   rw[List.length_map]
   refine ak.intro (fun h=>?_) fun h=>?_
   ·have al:k<t.args.length:=by simpa using h
    have hi:=ih t.args[k] (d+1) (by have:=Ty.bM al;omega) (by omega)
    refine⟨by omega,by omega,_,_,Ty.aj al,_,_,(Ty.fO (d+1) (t.args.drop (k+1))).map KQ++more,?_,hi,?_,fun b=>ak.intro (fun h=>?_) fun h=>?_⟩
    ·rw[aB (by omega)]
    ·rw[Ty.qW al,List.map_append,List.append_assoc]
    ·have:b=false:=by simpa using h
     subst this;rfl
    ·have:b=true:=by simpa using h
     subst this
     rw[aB (by omega)]
     exact bB (k+1) (by omega) (by omega)
   ·have:t.args.length≤k:=by simpa using h
    rw[List.drop_eq_nil_of_le this];rfl
theorem yA {t:Ty} (h:t.size≤500000000):vz Tryz.prog 196 (fun v=>[v,.aH (.agg [.sl (t.args.map Ty.enc),nI t.base]) 0]) ((t.pre 1).map KQ) false:=
 JA fun yv more=>⟨_,_,more,rfl,BC _ t 1 (Nat.le_refl _) (by omega),rfl,fun b=>⟨b,rfl⟩⟩
theorem BD (t:Ty):ag Tryz.prog 177 [.agg [.sl (t.args.map Ty.enc),nI t.base]] (.aS 196 [.aH (.agg [.sl (t.args.map Ty.enc),nI t.base]) 0]):=JG rfl
theorem GC {t:Ty} (h:t.size≤500000000):rF Tryz.prog 196 [.aH (.agg [.sl (t.args.map Ty.enc),nI t.base]) 0] [.v (.c (.i .i64)),.v (.a [.l,.i .i64])] ((t.pre 1).map Oz):=
 AO (prm:=[.v (.c (.i .i64)),.v (.a [.l,.i .i64])]) Oz (yA h)
def wK (eo:Int) (p:Nat×Ty):Bool:=decide (p.1≤60)&&(decide (0≤p.2.base)&&decide (p.2.base<eo))
def uE (eo:Int):Nat→List (Nat×Ty)→Bool
 |_,[]=>true
 |n,p::l=>if p.1>60∨n+1>1000∨p.2.base<0∨p.2.base≥eo then false else uE eo (n+1) l
theorem BE (eo:Int):∀(l:List (Nat×Ty)) (n:Nat),n≤1000→uE eo n l=(decide (n+l.length≤1000)&&l.all (wK eo))
 | [],n,hn=>by simp[uE,hn]
 |p::l,n,hn=>by
  rw[uE]
  split
  ·rename_i hc
   symm
   rw[Bool.and_eq_false_iff]
   by_cases h1:n+1>1000
   ·left;rw[decide_eq_false];rw[List.length_cons];omega
   ·right
    rw[List.all_cons]
    have:wK eo p=false:=by
     unfold wK
     rw[Bool.and_eq_false_iff,Bool.and_eq_false_iff]
     rcases hc with hc|hc|hc|hc
     ·left;exact decide_eq_false (by omega)
     ·omega
     ·right;left;exact decide_eq_false (by omega)
     ·right;right;exact decide_eq_false (by omega)
    rw[this,Bool.false_and]
  ·rename_i hc
   simp only[not_or] at hc
   obtain⟨h1,h2,h3,h4⟩:=hc
   have hg:wK eo p=true:=by
    unfold wK
    rw[decide_eq_true (by omega),decide_eq_true (by omega),decide_eq_true (by omega)];rfl
   rw[BE eo l (n+1) (by omega),List.all_cons,hg,Bool.true_and,List.length_cons,show n+1+l.length=n+(l.length+1) from by omega]
def Ty.dJ (eo:Int) (t:Ty):Bool:=decide (t.size≤1000)&&(t.pre 1).all (wK eo)
theorem yB {t:Ty} {eo:Int} (h:t.size≤500000000):ag Tryz.prog 143 [.agg [.sl (t.args.map Ty.enc),nI t.base],nI eo] (nB (t.dJ eo)):=by
 refine JI ⟨BD t,?_⟩
 have hr:t.dJ eo=uE eo 0 (t.pre 1):=by rw[BE eo _ 0 (by omega),Ty.nH,Ty.dJ,Nat.zero_add]
 refine lp.Di (fun n:Nat=>((t.args.map Ty.enc,t.base,()),(eo,()),(false,()),((n:Int),()),())) Oz (t.pre 1) (GC h) (fun r n=>n+r.length=t.size∧t.dJ eo=uE eo n r) 0 rfl ⟨by rw[Ty.nH];omega,hr⟩ (fun p r n ⟨hI,hk⟩ again bB=>?_) fun n ⟨hI,hk⟩=>?_
 ·rw[List.length_cons] at hI
  rw[uE] at hk
  dsimp only[Oz]
  rw[aB (by omega)]
  refine ak.intro (fun h1=>?_) fun h1=>ak.intro (fun h2=>?_) fun h2=>ak.intro (fun h3=>?_) fun h3=>ak.intro (fun h4=>?_) fun h4=>?_
  ·have:p.1>60:=by simp at h1;omega
   rw[if_pos (.inl this)] at hk;rw[hk]
  ·have:n+1>1000:=by simp at h2;omega
   rw[if_pos (.inr (.inl this))] at hk;rw[hk]
  ·have:p.2.base<0:=of_decide_eq_true h3
   rw[if_pos (.inr (.inr (.inl this)))] at hk;rw[hk]
  ·have:p.2.base≥eo:=by simpa using h4
   rw[if_pos (.inr (.inr (.inr this)))] at hk;rw[hk]
  ·have g1:¬p.1>60:=by simp at h1;omega
   have g2:¬n+1>1000:=by simp at h2;omega
   have g3:¬p.2.base<0:=of_decide_eq_false h3
   have g4:¬p.2.base≥eo:=by simpa using h4
   rw[if_neg (by simp only[not_or];exact⟨g1,g2,g3,g4⟩)] at hk
   exact bB (n+1) ⟨by omega,hk⟩
 ·rw[hk];rfl
def jI (c m x:List Ty) (k i:Int):Option Ty:=
 if i<0 then none else if k=0 then(if i<x.length then x[x.length-1-i.toNat]? else none) else if k=1 then c[i.toNat]? else if k=2 then m[i.toNat]? else none
def Vb:Option Ty→AV
 |some t=>.bc [.agg [.sl (t.args.map Ty.enc),nI t.base],nB true]
 |none=>.bc [.agg [.sl [],nI 0],nB false]
theorem oQ {l:List Ty} {n:Nat} (h:n<l.length):List.getD (l.map Ty.enc) n .top=.agg [.sl (l[n].args.map Ty.enc),nI l[n].base]:=by
 have:=Ty.aj h
 simpa using this
theorem na {b:Int} {c m x:List Ty} {k i:Int} (hi:jr i) (hx:x.length≤1000000000):ag Tryz.prog 145 [.agg [nI b,.sl (c.map Ty.enc),.sl (m.map Ty.enc)],.sl (x.map Ty.enc),.agg [nI k,nI i]] (Vb (jI c m x k i)):=by
 unfold jr at hi
 refine JL ?_
 unfold PC jI
 simp only[List.length_map]
 refine ak.intro (fun h1=>?_) fun h1=>?_
 ·have e1:k=1:=by simpa using h1
  refine ak.intro (fun h=>?_) fun h2=>ak.intro (fun h=>?_) fun h3=>?_
  ·have:i<0:=by simpa using h
   rw[if_pos this];rfl
  ·have LI:¬i<0:=by simpa using h2
   have RO:(c.length:Int)≤i:=by simpa using h
   rw[if_neg LI,if_neg (by omega),if_pos e1,List.getElem?_eq_none (by omega)];rfl
  ·have LI:¬i<0:=by simpa using h2
   have RO:i<(c.length:Int):=by simpa using h3
   have al:i.toNat<c.length:=by omega
   refine⟨by omega,by omega,_,_,oQ al,?_⟩
   rw[if_neg LI,if_neg (by omega),if_pos e1,List.getElem?_eq_getElem al];rfl
 have n1:¬k=1:=by simpa using h1
 refine ak.intro (fun h4=>?_) fun h4=>?_
 ·have e2:k=2:=by simpa using h4
  refine ak.intro (fun h=>?_) fun h2=>ak.intro (fun h=>?_) fun h3=>?_
  ·have:i<0:=by simpa using h
   rw[if_pos this];rfl
  ·have LI:¬i<0:=by simpa using h2
   have RO:(m.length:Int)≤i:=by simpa using h
   rw[if_neg LI,if_neg (by omega),if_neg n1,if_pos e2,List.getElem?_eq_none (by omega)];rfl
  ·have LI:¬i<0:=by simpa using h2
   have RO:i<(m.length:Int):=by simpa using h3
   have al:i.toNat<m.length:=by omega
   refine⟨by omega,by omega,_,_,oQ al,?_⟩
   rw[if_neg LI,if_neg (by omega),if_neg n1,if_pos e2,List.getElem?_eq_getElem al];rfl
 have n2:¬k=2:=by simpa using h4
 refine ak.intro (fun h5=>?_) fun h5=>?_
 ·have e0:k=0:=by simpa using h5
  refine ak.intro (fun h=>?_) fun h2=>?_
  ·have:i<0:=by simpa using h
   rw[if_pos this];rfl
  have LI:¬i<0:=by simpa using h2
  rw[dm (n:=(x.length:Int)-1) (by omega) (by omega),dm (by omega) (by omega)]
  refine ak.intro (fun h=>?_) fun h3=>ak.intro (fun h=>?_) fun h6=>?_
  ·have RO:(x.length:Int)-1-i<0:=by simpa using h
   rw[if_neg LI,if_pos e0,if_neg (by omega)];rfl
  ·have RO:(x.length:Int)-1-i≥x.length:=by simpa using h
   omega
  ·have RO:¬(x.length:Int)-1-i<0:=by simpa using h3
   have al:x.length-1-i.toNat<x.length:=by omega
   refine⟨by omega,by omega,_,_,by rw[show Int.toNat ((x.length:Int)-1-i)=x.length-1-i.toNat from by omega];exact oQ al,?_⟩
   rw[if_neg LI,if_pos e0,if_pos (by omega),List.getElem?_eq_getElem al];rfl
 ·have n0:¬k=0:=by simpa using h5
  rw[if_neg n0,if_neg n1,if_neg n2]
  split<;>rfl
theorem DI {c m x:List Ty} {k i:Int} {t:Ty} (h:jI c m x k i=some t):t∈x∨t∈c∨t∈m:=by
 unfold jI at h
 split at h
 ·cases h
 split at h
 ·split at h
  ·exact .inl (List.mem_of_getElem? h)
  ·cases h
 split at h
 ·exact .inr (.inl (List.mem_of_getElem? h))
 split at h
 ·exact .inr (.inr (List.mem_of_getElem? h))
 ·cases h
abbrev noT:Ty:=.mk [] 0
def Vc (p:Ty×Int):AV:=.bc [.agg [.sl (p.1.args.map Ty.enc),nI p.1.base],nI p.2]
theorem qe {x l:List Ty} (h:x.length+l.length≤1000000000):ag Tryz.prog 146 [.sl (x.map Ty.enc),.sl (l.map Ty.enc)] (.sl ((x++l).map Ty.enc)):=by
 have hc:=ib (ll:=[x,l]) (by simp) (by simp;omega)
 simp only[dZ,List.map_cons,List.map_nil,List.flatten_cons,List.flatten_nil,List.append_nil] at hc
 exact JM ⟨_,hc,rfl⟩
theorem lz {b:Int} {l:List Ty} (h:Ty.sizes l≤500000000):ag Tryz.prog 35 [nI b,.sl (l.map Ty.enc)] (.agg [.sl (l.map Ty.enc),nI b]):=by
 have hc:=lu _ (.mk l b) (Nat.le_refl _) (by simp only[Ty.size];omega)
 rw[Ty.fJ] at hc
 exact E9 ⟨_,_,hc,rfl⟩
def Tm.Rp (c m x:List Ty) (t:Tm):Ty×Int:=match jI c m (x++t.binds) t.kind t.index with
 |some h=>(.mk t.binds h.base,0)
 |none=>(noT,10)
theorem yC {b:Int} {c m x:List Ty} {t:Tm} (aq:t.Ok) (hx:x.length+t.size≤500000000):ag Tryz.prog 93 [.agg [nI b,.sl (c.map Ty.enc),.sl (m.map Ty.enc)],.sl (x.map Ty.enc),.agg [.sl (t.binds.map Ty.enc),nI t.kind,nI t.index,.sl (t.args.map Tm.enc)]] (Vc (t.Rp c m x)):=by
 have vj:=t.size_eq
 have hq:=Ty.aA t.binds
 have hi:jr t.index:=by cases t;exact aq.2.1
 have hh:=na (b:=b) (c:=c) (m:=m) (x:=x++t.binds) (k:=t.kind) hi (by rw[List.length_append];omega)
 refine Nb ⟨_,qe (by omega),?_⟩
 rw[Tm.Rp]
 cases ht:jI c m (x++t.binds) t.kind t.index with
 |none=>
  rw[ht] at hh
  exact⟨_,_,_,hh,ak.pos rfl rfl⟩
 |some u=>
  rw[ht] at hh
  exact⟨_,_,_,hh,ak.neg rfl ⟨_,_,lz (by omega),rfl⟩⟩
mutual
def Tm.GD (c m x:List Ty):Tm→Ty→Bool
 | .mk b k i l,of=>Ty.bp b of.args&&(match jI c m (x++b) k i with
  |some h=>(h.base==of.base)&&((h.args.length==l.length)&&Tm.BF c m (x++b) l h.args)
  |none=>false)
def Tm.BF (c m x:List Ty):List Tm→List Ty→Bool
 |t::l,u::us=>Tm.GD c m x t u&&Tm.BF c m x l us
 |_,_=>true
end
theorem Tm.Rq (c m x:List Ty) (t:Tm) (of:Ty):t.GD c m x of=(Ty.bp t.binds of.args&&(match jI c m (x++t.binds) t.kind t.index with
  |some h=>(h.base==of.base)&&((h.args.length==t.args.length)&&Tm.BF c m (x++t.binds) t.args h.args)
  |none=>false)):=by cases t;rw[Tm.GD];rfl
theorem Tm.GF {c m x:List Ty} {l:List Tm} {us:List Ty} {k:Nat} (h1:k<l.length) (h2:k<us.length):Tm.BF c m x (l.drop k) (us.drop k)=(Tm.GD c m x l[k] us[k]&&Tm.BF c m x (l.drop (k+1)) (us.drop (k+1))):=by
 rw[List.drop_eq_getElem_cons h1,List.drop_eq_getElem_cons h2,Tm.BF]
theorem KR {b:Int} {c m:List Ty} (hc:∀t∈c,t.size≤200000000) (hm:∀t∈m,t.size≤200000000):∀(n:Nat) (t:Tm) (of:Ty) (x:List Ty),t.size≤n→t.Ok→(∀u∈x,u.size≤200000000)→x.length+t.size≤200000000→of.size≤200000000→
  ag Tryz.prog 147 [.agg [nI b,.sl (c.map Ty.enc),.sl (m.map Ty.enc)],.sl (x.map Ty.enc),.agg [.sl (t.binds.map Ty.enc),nI t.kind,nI t.index,.sl (t.args.map Tm.enc)],.agg [.sl (of.args.map Ty.enc),nI of.base]] (nB (t.GD c m x of)):=by
 intro n
 induction n with
 |zero=>intro t of x h;have:=t.size_pos;omega
 |succ n ih=>
  intro t of x h aq hx hn Rr
  have vj:=t.size_eq
  have hq:=Ty.aA t.binds
  have Ot:=Tm.aA t.args
  have hi:jr t.index:=by cases t;exact aq.2.1
  have SE:Tm.Ou t.args:=by cases t;exact aq.2.2
  have heq:=ia (l:=t.binds) (m:=of.args) (by omega) (fun k h1 h2=>mU _ _ _ (Nat.le_refl _) (by have:=Ty.bm (List.getElem_mem h1);omega))
  have YH:∀u∈x++t.binds,u.size≤200000000:=fun u hu=>by
   rcases List.mem_append.1 hu with hu|hu
   ·exact hx u hu
   ·have:=Ty.bm hu;omega
  have hh:=na (b:=b) (c:=c) (m:=m) (x:=x++t.binds) (k:=t.kind) hi (by rw[List.length_append];omega)
  have bE:∀u,jI c m (x++t.binds) t.kind t.index=some u→u.size≤200000000:=fun u hu=>by
   rcases DI hu with hu|hu|hu
   ·exact YH u hu
   ·exact hc u hu
   ·exact hm u hu
  have KS:=Tm.Rq c m x t of
  refine JO ⟨_,heq,ak.intro (fun h=>?_) fun h=>?_⟩
  ·have h0:Ty.bp t.binds of.args=false:=by simpa using h
   rw[KS,h0,Bool.false_and]
  have h0:Ty.bp t.binds of.args=true:=by simpa using h
  rw[h0,Bool.true_and] at KS
  refine⟨_,qe (by omega),?_⟩
  cases ht:jI c m (x++t.binds) t.kind t.index with
  |none=>
   rw[ht] at hh KS
   exact⟨_,_,_,hh,ak.pos rfl (by rw[KS])⟩
  |some u=>
   rw[ht] at hh KS
   dsimp only at KS
   have hu:=bE u ht
   have R5:=u.size_eq
   have Wd:=Ty.aA u.args
   refine⟨_,_,_,hh,ak.neg rfl (ak.intro (fun h=>?_) fun h=>?_)⟩
   ·have:(u.base==of.base)=false:=by simpa using h
    rw[KS,this,Bool.false_and]
   have h1:(u.base==of.base)=true:=by simpa using h
   rw[h1,Bool.true_and] at KS
   rw[List.length_map,List.length_map]
   refine ak.intro (fun h=>?_) fun h=>?_
   ·have:¬u.args.length=t.args.length:=by simp at h;omega
    rw[KS,show (u.args.length==t.args.length)=false from by simpa using this,Bool.false_and]
   have h2:u.args.length=t.args.length:=by simp at h;omega
   rw[show (u.args.length==t.args.length)=true from by simpa using h2,Bool.true_and] at KS
   refine au.intro (fun k:Nat=>(((),(x++t.binds).map Ty.enc,(),t.args.map Tm.enc,(t.args.length:Int),(k:Int),()),((b,c.map Ty.enc,m.map Ty.enc,()),(t.binds.map Ty.enc,t.kind,t.index,t.args.map Tm.enc,()),(of.args.map Ty.enc,of.base,()),(u.args.map Ty.enc,u.base,()),())))
    (fun k=>k≤t.args.length∧t.GD c m x of=Tm.BF c m (x++t.binds) (t.args.drop k) (u.args.drop k)) (fun k=>t.args.length-k) 0 rfl ⟨Nat.zero_le _,KS⟩ ?_
   intro k ⟨hk,hs⟩ again bB
   dsimp only
   refine ak.intro (fun h=>?_) fun h=>?_
   ·have al:k<t.args.length:=by simpa using h
    have YI:k<u.args.length:=by omega
    rw[Tm.GF al YI] at hs
    have nT:=Tm.bm (List.getElem_mem al)
    have hi:=ih t.args[k] u.args[k] (x++t.binds) (by omega) (Tm.Fu SE (List.getElem_mem al)) YH (by rw[List.length_append];omega) (by have:=Ty.bM YI;omega)
    refine⟨by omega,by rw[List.length_map];omega,_,_,_,_,Tm.aj al,by omega,by rw[List.length_map];omega,_,_,Ty.aj YI,_,hi,ak.intro (fun h=>?_) fun h=>?_⟩
    ·have:Tm.GD c m (x++t.binds) t.args[k] u.args[k]=false:=by simpa using h
     rw[hs,this,Bool.false_and]
    ·have:Tm.GD c m (x++t.binds) t.args[k] u.args[k]=true:=by simpa using h
     rw[this,Bool.true_and] at hs
     rw[aB (by omega)]
     exact bB (k+1) ⟨by omega,hs⟩ (by omega)
   ·have:t.args.length≤k:=by simpa using h
    rw[List.drop_eq_nil_of_le this,Tm.BF] at hs
    ·rw[hs]
    ·intro _ _ _ _ h;cases h
mutual
def Tm.pre (a d:Nat):Tm→List ((Nat×Nat)×Tm)
 | .mk b k i l=>((a+b.length,d),.mk b k i l)::Tm.fO (a+b.length) (d+1) l
def Tm.fO (a d:Nat):List Tm→List ((Nat×Nat)×Tm)
 | []=>[]
 |t::l=>Tm.pre a d t++Tm.fO a d l
end
theorem Tm.DH (a d:Nat) (t:Tm):t.pre a d=((a+t.binds.length,d),t)::Tm.fO (a+t.binds.length) (d+1) t.args:=by cases t;rfl
theorem Tm.qW {a d:Nat} {l:List Tm} {k:Nat} (h:k<l.length):Tm.fO a d (l.drop k)=l[k].pre a d++Tm.fO a d (l.drop (k+1)):=by
 rw[List.drop_eq_getElem_cons h,Tm.fO]
def KT (p:(Nat×Nat)×Tm):List AV:=[.agg [nI p.1.1,nI p.1.2],.agg [.sl (p.2.binds.map Ty.enc),nI p.2.kind,nI p.2.index,.sl (p.2.args.map Tm.enc)]]
def wL (p:(Nat×Nat)×Tm):(Int×Int×Unit)×(List AV×Int×Int×List AV×Unit)×Unit:=((p.1.1,p.1.2,()),(p.2.binds.map Ty.enc,p.2.kind,p.2.index,p.2.args.map Tm.enc,()),())
theorem BG:∀(n:Nat) (t:Tm) (a d:Nat),t.size≤n→a+t.size≤1000000000→d+t.size≤1000000000→vz Tryz.prog 179 (fun v=>[.agg [.sl (t.binds.map Ty.enc),nI t.kind,nI t.index,.sl (t.args.map Tm.enc)],.agg [nI a,nI d],v]) ((t.pre a d).map KT) true:=by
 intro n
 induction n with
 |zero=>intro t a d h;have:=t.size_pos;omega
 |succ n ih=>
  intro t a d h ha hd
  have hq:=Tm.aA t.args
  have Ot:=Ty.aA t.binds
  have vj:=t.size_eq
  have hw:IntKind.wrap .i64 ((a:Int)+((List.length (t.binds.map Ty.enc):Nat):Int))=((a+t.binds.length:Nat):Int):=by
   rw[List.length_map,dm (by omega) (by omega)];omega
  refine JF fun yv more=>?_
  unfold PB
  rw[hw,aB (by omega)]
  refine⟨rfl,(Tm.fO (a+t.binds.length) (d+1) t.args).map KT++more,by rw[Tm.DH];rfl,fun b=>ak.intro (fun h=>?_) fun h=>?_⟩
  ·have:b=false:=by simpa using h
   subst this;rfl
  ·have:b=true:=by simpa using h
   subst this
   refine au.intro (fun k:Nat=>(((yv,(),t.args.map Tm.enc,(t.args.length:Int),(k:Int),()),((t.binds.map Ty.enc,t.kind,t.index,t.args.map Tm.enc,()),(((a+t.binds.length:Nat):Int),((d+1:Nat):Int),()),())),some ((Tm.fO (a+t.binds.length) (d+1) (t.args.drop k)).map KT++more))) (fun k=>k≤t.args.length) (fun k=>t.args.length-k) 0 (by rw[List.length_map];rfl) (Nat.zero_le _) ?_
   intro k hk again bB
   dsimp only
   rw[List.length_map]
   refine ak.intro (fun h=>?_) fun h=>?_
   ·have al:k<t.args.length:=by simpa using h
    have nT:=Tm.bm (List.getElem_mem al)
    have hi:=ih t.args[k] (a+t.binds.length) (d+1) (by omega) (by omega) (by omega)
    refine⟨by omega,by omega,_,_,_,_,Tm.aj al,_,_,(Tm.fO (a+t.binds.length) (d+1) (t.args.drop (k+1))).map KT++more,rfl,hi,?_,fun b=>ak.intro (fun h=>?_) fun h=>?_⟩
    ·rw[Tm.qW al,List.map_append,List.append_assoc]
    ·have:b=false:=by simpa using h
     subst this;rfl
    ·have:b=true:=by simpa using h
     subst this
     rw[aB (by omega)]
     exact bB (k+1) (by omega) (by omega)
   ·have:t.args.length≤k:=by simpa using h
    rw[List.drop_eq_nil_of_le this];rfl
theorem yD {t:Tm} (h:t.size≤500000000):vz Tryz.prog 178 (fun v=>[v,.aH (.agg [.sl (t.binds.map Ty.enc),nI t.kind,nI t.index,.sl (t.args.map Tm.enc)]) 0]) ((t.pre 0 1).map KT) false:=
 JD fun yv more=>⟨_,_,more,rfl,BG _ t 0 1 (Nat.le_refl _) (by omega) (by omega),rfl,fun b=>⟨b,rfl⟩⟩
theorem rU (t:Tm):ag Tryz.prog 144 [.agg [.sl (t.binds.map Ty.enc),nI t.kind,nI t.index,.sl (t.args.map Tm.enc)]] (.aS 178 [.aH (.agg [.sl (t.binds.map Ty.enc),nI t.kind,nI t.index,.sl (t.args.map Tm.enc)]) 0]):=JH rfl
theorem wM {t:Tm} (h:t.size≤500000000):rF Tryz.prog 178 [.aH (.agg [.sl (t.binds.map Ty.enc),nI t.kind,nI t.index,.sl (t.args.map Tm.enc)]) 0] [.v (.a [.i .i64,.i .i64]),.v (.a [.l,.i .i64,.i .i64,.l])] ((t.pre 0 1).map wL):=
 AO (prm:=[.v (.a [.i .i64,.i .i64]),.v (.a [.l,.i .i64,.i .i64,.l])]) wL (yD h)
def nb:Nat→List ((Nat×Nat)×Tm)→Bool
 |_,[]=>true
 |n,p::l=>if n+1>5000 then false else if p.1.2>60 then false else nb (n+1) l
theorem lA {t:Tm} (h:t.size≤500000000):ag Tryz.prog 92 [.agg [.sl (t.binds.map Ty.enc),nI t.kind,nI t.index,.sl (t.args.map Tm.enc)]] (nB (nb 0 (t.pre 0 1))):=by
 refine Na ⟨rU t,?_⟩
 refine lp.Di (fun n:Nat=>((t.binds.map Ty.enc,t.kind,t.index,t.args.map Tm.enc,()),(false,()),((n:Int),()),())) wL (t.pre 0 1) (wM h) (fun r n=>n≤5000∧nb 0 (t.pre 0 1)=nb n r) 0 rfl ⟨by omega,rfl⟩ (fun p r n ⟨hI,hk⟩ again bB=>?_) fun n ⟨hI,hk⟩=>?_
 ·rw[nb] at hk
  dsimp only[wL]
  rw[aB (by omega)]
  refine ak.intro (fun h1=>?_) fun h1=>ak.intro (fun h2=>?_) fun h2=>?_
  ·have:n+1>5000:=by have:=of_decide_eq_true h1;omega
   rw[hk,if_pos this]
  ·have g:¬n+1>5000:=by have:=of_decide_eq_false h1;omega
   have:p.1.2>60:=by have:=of_decide_eq_true h2;omega
   rw[hk,if_neg g,if_pos this]
  ·have g:¬n+1>5000:=by have:=of_decide_eq_false h1;omega
   have g2:¬p.1.2>60:=by have:=of_decide_eq_false h2;omega
   rw[if_neg g,if_neg g2] at hk
   exact bB (n+1) ⟨by omega,hk⟩
 ·rw[hk];rfl
theorem BH {b:Int} {c m x:List Ty} {t:Tm} {of:Ty} (hc:∀t∈c,t.size≤200000000) (hm:∀t∈m,t.size≤200000000) (aq:t.Ok) (hx:∀u∈x,u.size≤200000000) (hn:x.length+t.size≤200000000) (Rr:of.size≤200000000):
  ag Tryz.prog 95 [.agg [nI b,.sl (c.map Ty.enc),.sl (m.map Ty.enc)],.sl (x.map Ty.enc),.agg [.sl (t.binds.map Ty.enc),nI t.kind,nI t.index,.sl (t.args.map Tm.enc)],.agg [.sl (of.args.map Ty.enc),nI of.base]] (nI (if nb 0 (t.pre 0 1)=true then(if t.GD c m x of=true then 0 else 5) else 2)):=by
 have h1:=lA (t:=t) (by omega)
 have h2:=KR (b:=b) hc hm _ t of x (Nat.le_refl _) aq hx hn Rr
 refine Nc ⟨_,h1,ak.intro (fun h=>?_) fun h=>⟨_,h2,ak.intro (fun h3=>?_) fun h3=>?_⟩⟩
 ·rw[if_neg (by simpa using h)]
 ·rw[if_pos (by simpa using h),if_neg (by simpa using h3)]
 ·rw[if_pos (by simpa using h),if_pos (by simpa using h3)]
theorem GG {b:Int} {c m:List Ty} {t:Ty} (h:t.size≤500000000):ag Tryz.prog 142 [.agg [.sl (t.args.map Ty.enc),nI t.base],.aH (.agg [nI b,.sl (c.map Ty.enc),.sl (m.map Ty.enc)]) 0] (nB (!(t.dJ b))):=
 JQ ⟨_,yB h,rfl⟩
def gI (b:Int):Nat→List Ty→Int
 |_,[] => -1
 |k,t::l=>if t.dJ b=true then gI b (k+1) l else k
theorem uF {b:Int} {c m l:List Ty} (h:Ty.sizes l≤500000000):ag Tryz.prog 175 [.sl (l.map Ty.enc),.aS 142 [.aH (.agg [nI b,.sl (c.map Ty.enc),.sl (m.map Ty.enc)]) 0]] (nI (gI b 0 l)):=by
 have hl:=Ty.aA l
 refine JS ⟨rfl,?_⟩
 refine au.intro (fun k:Nat=>((l.map Ty.enc,((),()),(l.length:Int),(k:Int),()),())) (fun k=>k≤l.length∧gI b 0 l=gI b k (l.drop k)) (fun k=>l.length-k) 0 (by rw[List.length_map];rfl) ⟨Nat.zero_le _,rfl⟩ ?_
 intro k ⟨hk,hs⟩ again bB
 dsimp only
 rw[List.length_map]
 refine ak.intro (fun h=>?_) fun h=>?_
 ·have al:k<l.length:=by simpa using h
  rw[List.drop_eq_getElem_cons al,gI] at hs
  refine⟨by omega,by omega,_,_,Ty.aj al,_,GG (by have:=Ty.bm (List.getElem_mem al);omega),ak.intro (fun h=>?_) fun h=>⟨rfl,?_⟩⟩
  ·rw[hs,if_neg (by simpa using h)]
  ·rw[if_pos (by simpa using h)] at hs
   rw[aB (by omega)]
   exact bB (k+1) ⟨by omega,hs⟩ (by omega)
 ·have:l.length≤k:=by simpa using h
  rw[List.drop_eq_nil_of_le this] at hs
  rw[hs];rfl
theorem qX {b:Int} {c m:List Ty} (hc:c.length≤500) (hm:m.length≤500) (h:Ty.sizes (c++m)≤500000000):ag Tryz.prog 91 [.agg [nI b,.sl (c.map Ty.enc),.sl (m.map Ty.enc)]] (nB (!(decide (gI b 0 (c++m)≥0)))):=by
 have zA:=ib (ll:=[c,m]) (by simp) (by simp;omega)
 simp only[dZ,List.map_cons,List.map_nil,List.flatten_cons,List.flatten_nil,List.append_nil] at zA
 have hi:=uF (b:=b) (c:=c) (m:=m) (l:=c++m) h
 refine Nd ?_
 unfold UC
 rw[List.length_map,List.length_map,dm (by omega) (by omega)]
 refine ak.neg (decide_eq_false (by omega)) (ak.neg (decide_eq_false (by omega)) ⟨_,zA,_,JP ⟨_,hi,rfl⟩,rfl⟩)
theorem yE (b:Int):ag Tryz.prog 35 [nI b,.sl []] (.agg [.sl [],nI b]):=by
 have hc:=lu _ (.mk [] b) (Nat.le_refl _) (by simp[Ty.size,Ty.sizes])
 rw[Ty.fJ] at hc
 exact E9 ⟨_,_,hc,rfl⟩
mutual
def sC:Int→Int→Ty→Tm
 |k,i,.mk l _=>.mk l k (if k=0 then IntKind.wrap .i64 (i+(l.length:Nat)) else i) (kJ l.length 0 l)
def kJ (n:Nat):Nat→List Ty→List Tm
 |_,[]=>[]
 |j,t::r=>sC 0 ((n:Int)-1-j) t::kJ n (j+1) r
end
theorem Fx (k i:Int) (t:Ty):sC k i t=.mk t.args k (if k=0 then IntKind.wrap .i64 (i+(t.args.length:Nat)) else i) (kJ t.args.length 0 t.args):=by cases t;rw[sC];rfl
theorem nJ (n:Nat):∀(l:List Ty) (j:Nat),(kJ n j l).length=l.length
 | [],_=>rfl
 |t::l,j=>by rw[kJ,List.length_cons,List.length_cons,nJ n l]
theorem wO (n:Nat):∀(l:List Ty) (j k:Nat) (h:k<l.length),(kJ n j l)[k]?=some (sC 0 ((n:Int)-1-(j+k:Nat)) l[k])
 |t::l,j,0,_=>by rw[kJ];rfl
 |t::l,j,k+1,h=>by
  rw[kJ,List.getElem?_cons_succ,wO n l (j+1) k (by simpa using h),List.getElem_cons_succ,show j+1+k=j+(k+1) by omega]
theorem uG {n:Nat} {l:List Ty} {k:Nat} (h:k<l.length):(kJ n 0 l).take (k+1)=(kJ n 0 l).take k++[sC 0 ((n:Int)-1-(k:Nat)) l[k]]:=by
 have hk:k<(kJ n 0 l).length:=by rw[nJ];exact h
 have hg:=wO n l 0 k h
 rw[List.getElem?_eq_getElem hk,Nat.zero_add] at hg
 rw[←cQ hk,Option.some.inj hg]
theorem RP:∀(d:Nat) (t:Ty) (k i:Int),t.size≤d→d≤1000000000→ag Tryz.prog 78 [.agg [nI k,nI i],t.enc] (sC k i t).enc:=by
 intro d
 induction d with
 |zero=>intro t k i h;have:=t.size_pos;omega
 |succ d ih=>
  intro t k i h hd
  have hq:=Ty.aA t.args
  have vj:=t.size_eq
  have loop:∀ix:Int,ix=(if k=0 then IntKind.wrap .i64 (i+(t.args.length:Nat)) else i)→xX (((),(),((List.length (t.args.map Ty.enc):Nat):Int),(),0,()),((k,i,()),(t.args.map Ty.enc,t.base,()),((),0,0,(),()),(t.args.map Ty.enc,k,ix,(),()),[],())) (fun x=>x=(sC k i t).enc):=by
   intro ix YJ
   refine au.intro (fun j:Nat=>(((),(),(t.args.length:Int),(),(j:Int),()),((k,i,()),(t.args.map Ty.enc,t.base,()),((),0,0,(),()),(t.args.map Ty.enc,k,ix,(),()),((kJ t.args.length 0 t.args).take j).map Tm.enc,())))
    (fun j=>j≤t.args.length) (fun j=>t.args.length-j) 0 (by rw[List.length_map];rfl) (Nat.zero_le _) ?_
   intro j hj again bB
   dsimp only
   rw[List.length_map]
   refine ak.intro (fun h=>?_) fun h=>?_
   ·have al:j<t.args.length:=by simpa using h
    have hi:=ih t.args[j] 0 ((t.args.length:Int)-1-(j:Nat)) (by have:=Ty.bM al;omega) (by omega)
    rw[Ty.aE,Tm.aE] at hi
    have hw:IntKind.wrap .i64 (IntKind.wrap .i64 ((t.args.length:Int)-1)-(j:Int))=(t.args.length:Int)-1-(j:Nat):=by
     rw[dm (n:=(t.args.length:Int)-1) (by omega) (by omega),dm (by omega) (by omega)]
    rw[hw]
    refine⟨by omega,by omega,_,_,Ty.aj al,_,_,_,_,hi,rfl,bX rfl (by simp;omega) (by decide),rfl,?_⟩
    rw[aB (by omega),Tm.ej,←uG al]
    exact bB (j+1) (by omega) (by omega)
   ·have hle:t.args.length≤j:=by simpa using h
    refine⟨rfl,?_⟩
    rw[List.take_of_length_le (by rw[nJ];exact hle),Fx,Tm.fJ,YJ]
  rw[Ty.aE]
  refine M7 (ak.intro (fun h=>⟨rfl,?_⟩) fun h=>⟨rfl,?_⟩)
  ·have hk:k=0:=by simpa using h
   refine loop _ ?_
   rw[if_pos hk,List.length_map]
  ·have hk:¬k=0:=by simpa using h
   exact loop _ (by rw[if_neg hk])
theorem DJ:∀(d:Nat) (t:Ty) (k i:Int),t.size≤d→d≤1000→(k=0→0≤i∧i≤1000)→ag Tryz.prog 174 [.agg [nI k,nI i],t.enc] (sC k i t).enc:=by
 intro d
 induction d with
 |zero=>intro t k i h;have:=t.size_pos;omega
 |succ d ih=>
  intro t k i h hd h0
  have hq:=Ty.aA t.args
  have vj:=t.size_eq
  have fj:=mV (t:=t) (l:=[]) (by simp[Ty.sizes];omega)
  rw[Ty.arrow,List.nil_append,Ty.fJ,Ty.aE,List.map_nil] at fj
  have loop:∀ix:Int,ix=(if k=0 then IntKind.wrap .i64 (i+(t.args.length:Nat)) else i)→mK (((),((List.length (t.args.map Ty.enc):Nat):Int),(),t.args.map Ty.enc,((List.length (t.args.map Ty.enc):Nat):Int),0,()),((k,i,()),(t.args.map Ty.enc,t.base,()),((),0,0,(),()),(t.args.map Ty.enc,k,ix,(),()),[],())) (fun x=>x=(sC k i t).enc):=by
   intro ix YJ
   refine au.intro (fun j:Nat=>(((),(t.args.length:Int),(),t.args.map Ty.enc,(t.args.length:Int),(j:Int),()),((k,i,()),(t.args.map Ty.enc,t.base,()),((),0,0,(),()),(t.args.map Ty.enc,k,ix,(),()),((kJ t.args.length 0 t.args).take j).map Tm.enc,())))
    (fun j=>j≤t.args.length) (fun j=>t.args.length-j) 0 (by rw[List.length_map];rfl) (Nat.zero_le _) ?_
   intro j hj again bB
   dsimp only
   rw[List.length_map]
   refine ak.intro (fun h=>?_) fun h=>?_
   ·have al:j<t.args.length:=by simpa using h
    have hi:=ih t.args[j] 0 ((t.args.length:Int)-1-(j:Nat)) (by have:=Ty.bM al;omega) (by omega) (fun _=>⟨by omega,by omega⟩)
    rw[Ty.aE,Tm.aE] at hi
    have hw:IntKind.wrap .i64 (IntKind.wrap .i64 ((t.args.length:Int)-1)-(j:Int))=(t.args.length:Int)-1-(j:Nat):=by
     rw[dm (n:=(t.args.length:Int)-1) (by omega) (by omega),dm (by omega) (by omega)]
    rw[hw]
    refine⟨by omega,by omega,_,_,Ty.aj al,_,_,_,_,hi,rfl,bX rfl (by simp;omega) (by decide),rfl,?_⟩
    rw[aB (by omega),Tm.ej,←uG al]
    exact bB (j+1) (by omega) (by omega)
   ·have hle:t.args.length≤j:=by simpa using h
    refine⟨rfl,?_⟩
    rw[List.take_of_length_le (by rw[nJ];exact hle),Fx,Tm.fJ,YJ]
  rw[Ty.aE]
  refine Jo (ak.intro (fun h=>?_) fun h=>?_)
  ·have hk:k=0:=by simpa using h
   have:=h0 hk
   refine ak.neg (decide_eq_false (by omega)) (ak.neg (decide_eq_false (by omega)) ⟨_,_,fj,ak.pos h ⟨rfl,loop _ ?_⟩⟩)
   rw[if_pos hk,List.length_map]
  ·have hk:¬k=0:=by simpa using h
   exact⟨_,_,fj,ak.neg h ⟨rfl,loop _ (by rw[if_neg hk])⟩⟩
theorem OA {w:World} (h:lZ w):Lib.TabIs Tryz.prog w "internal/strconv.uint64pow10" .u64 Lib.pow10Tab:=by
 obtain⟨T,h1⟩:=h (zf.head (by decide)) (List.head_mem _)
 unfold Lib.TabIs World.var?
 rw[show Tryz.prog.globalNamed "internal/strconv.uint64pow10"=some (zf.head (by decide)).1 from by kernel_rfl]
 simp only[Option.bind_some,h1]
 rfl
def BI (k:Int):ByteArray:=⟨(Lib.itoa k).toArray⟩
theorem DK {k:Int} (hk:jr k):ag Tryz.prog 125 [nI k] (nS (BI k)):=by
 refine⟨⟨_,Tryz.func125,by kernel_rfl,by kernel_rfl⟩,fun w F aR hF hg hv=>?_⟩
 match aR,hv with
 | [v0],⟨r0,_⟩=>
  cases r0
  refine callsIn_wide.2 ((Any.strconv_Itoa M8 k hk.1 (by have:=hk.2;omega) w (OA hg)).mono ?_)
  rintro e w' ⟨rfl,n,os,rfl⟩
  refine⟨_,_,rfl,rfl,⟨rfl,rfl,rfl,?_,fun j hj=>?_⟩,.ae _⟩
  ·show w.heap.size≤(w.heap++os).size
   rw[Array.size_append];omega
  ·show (w.heap++os)[j]?=_
   rw[Array.getElem?_append_left hj]
theorem wP {k:Int} (hk:jr k):(BI k).size≤30:=by
 have h1:=hk.1
 have h2:=hk.2
 have:=Lib.itoa_length_le k h1 (by omega)
 show (Lib.itoa k).toArray.size≤30
 rw[List.size_toArray];omega
theorem DL {κ:Type} [DecidableEq κ] {l:List (κ×Value)} {i v:κ} {x:Value}:aG (bK l v x) i=if i=v then some x else aG l i:=by
 induction l with
 |nil=>simp only[bK,aG]
 |cons p l ih=>
  obtain⟨k,u⟩:=p
  simp only[bK]
  by_cases h:v=k
  ·subst h
   simp only[if_pos,aG]
   by_cases h2:i=v<;>simp[h2]
  ·rw[if_neg h,aG,ih,aG]
   by_cases h2:i=k
   ·subst h2;simp[Ne.symm h]
   ·simp[h2]
def Rs (b:UInt8):Bool:=(b==45)||(decide (48≤b.toNat)&&decide (b.toNat≤57))
theorem RQ {u:Nat} (h:u<10):Lib.decDigits u=[UInt8.ofNat (48+u)]:=by rw[Lib.decDigits,dif_pos h]
theorem RR {u:Nat} (h:¬u<10):Lib.decDigits u=Lib.decDigits (u / 10)++[UInt8.ofNat (48+u % 10)]:=by rw[Lib.decDigits,dif_neg h]
def num (b:UInt8):Bool:=decide (48≤b.toNat)&&decide (b.toNat≤57)
theorem Fy:∀u:Nat,(Lib.decDigits u).all num=true:=by
 intro u
 induction u using Nat.strongRecOn with
 |_ u ih=>
  have hd:∀k,k<10→num (UInt8.ofNat (48+k))=true:=fun k hk=>by
   have:(UInt8.ofNat (48+k)).toNat=48+k:=by rw[UInt8.toNat_ofNat'];omega
   simp only[num,this,Bool.and_eq_true,decide_eq_true_eq]
   exact⟨by omega,by omega⟩
  by_cases h1:u<10
  ·rw[RQ h1,List.all_cons,hd u h1];rfl
  ·rw[RR h1,List.all_append,ih (u / 10) (by omega),List.all_cons,hd (u % 10) (by omega)];rfl
theorem Fz (u:Nat):(Lib.decDigits u).all Rs=true:=by
 have h:=Fy u
 rw[List.all_eq_true] at h ⊢
 exact fun b hb=>by rw[Rs,show (decide (48≤b.toNat)&&decide (b.toNat≤57))=true from h b hb,Bool.or_true]
theorem FA:∀u v:Nat,Lib.decDigits u=Lib.decDigits v→u=v:=by
 have hd:∀k,k<10→(UInt8.ofNat (48+k)).toNat=48+k:=fun k hk=>by rw[UInt8.toNat_ofNat'];omega
 have bj:∀u:Nat,Lib.decDigits u≠[]:=fun u h=>by
  by_cases h1:u<10
  ·rw[RQ h1] at h;cases h
  ·rw[RR h1] at h;simp at h
 intro u
 induction u using Nat.strongRecOn with
 |_ u ih=>
  intro v h
  by_cases h1:u<10
  ·by_cases h2:v<10
   ·rw[RQ h1,RQ h2] at h
    simp only[List.cons.injEq,and_true] at h
    have:=congrArg UInt8.toNat h
    rw[hd u h1,hd v h2] at this;omega
   ·rw[RQ h1,RR h2] at h
    have:=congrArg List.length h
    have h3:=List.length_pos_iff.2 (bj (v / 10))
    rw[List.length_append,List.length_singleton,List.length_singleton] at this;omega
  ·by_cases h2:v<10
   ·rw[RR h1,RQ h2] at h
    have:=congrArg List.length h
    have h3:=List.length_pos_iff.2 (bj (u / 10))
    rw[List.length_append,List.length_singleton,List.length_singleton] at this;omega
   ·rw[RR h1,RR h2] at h
    have h3:=List.append_inj' h rfl
    have h4:=ih (u / 10) (by omega) (v / 10) h3.1
    have h5:=h3.2
    simp only[List.cons.injEq,and_true] at h5
    have:=congrArg UInt8.toNat h5
    rw[hd _ (by omega),hd _ (by omega)] at this
    omega
theorem BJ (n:Int):(Lib.itoa n).all Rs=true:=by
 unfold Lib.itoa
 split
 ·rw[List.all_cons,Fz];rfl
 ·exact Fz _
theorem KU {n m:Int} (h:Lib.itoa n=Lib.itoa m):n=m:=by
 have VI:∀u:Nat,∀l:List UInt8,Lib.decDigits u≠45::l:=fun u l e=>by
  have h1:=Fy u
  rw[e,List.all_cons] at h1
  exact absurd h1 (by simp[num])
 unfold Lib.itoa at h
 split at h<;>split at h
 ·have:=FA _ _ (List.cons.inj h).2;omega
 ·exact(VI _ _ h.symm).elim
 ·exact(VI _ _ h).elim
 ·have:=FA _ _ h;omega
def fW:List (UInt8×Int)→List UInt8
 | []=>[]
 |(c,n)::l=>c::(Lib.itoa n++fW l)
theorem yF (l m:List (UInt8×Int)):fW (l++m)=fW l++fW m:=by
 induction l with
 |nil=>rfl
 |cons p l ih=>obtain⟨c,n⟩:=p;simp[fW,ih]
def yG (l:List (UInt8×Int)):Prop:=∀p∈l,Rs p.1=false
theorem FB {l:List (UInt8×Int)} (h:yG l):(fW l).takeWhile Rs=[]:=by
 cases l with
 |nil=>rfl
 |cons p l=>
  obtain⟨c,n⟩:=p
  rw[fW,List.takeWhile_cons,h (c,n) List.mem_cons_self];rfl
theorem BK:∀(l m:List (UInt8×Int)),yG l→yG m→fW l=fW m→l=m
 | [],[],_,_,_=>rfl
 | [],(c,n)::m,_,_,h=>by simp[fW] at h
 |(c,n)::l,[],_,_,h=>by simp[fW] at h
 |(c,n)::l,(d,k)::m,hl,hm,h=>by
  simp only[fW,List.cons.injEq] at h
  have Co:yG l:=fun p hp=>hl p (List.mem_cons_of_mem _ hp)
  have PX:yG m:=fun p hp=>hm p (List.mem_cons_of_mem _ hp)
  have h1:=congrArg (List.takeWhile Rs) h.2
  rw[List.takeWhile_append_of_pos (List.all_eq_true.1 (BJ n)),List.takeWhile_append_of_pos (List.all_eq_true.1 (BJ k)),FB Co,FB PX,List.append_nil,List.append_nil] at h1
  have h2:=h.2
  rw[h1] at h2
  rw[h.1,KU h1,BK l m Co PX (List.append_cancel_left h2)]
mutual
def OB:Ty→List (UInt8×Int)
 | .mk l b=>(58,b)::((91,(l.length:Int))::gQ l)
def gQ:List Ty→List (UInt8×Int)
 | []=>[]
 |t::l=>OB t++gQ l
end
def Cm (l:List Ty):List (UInt8×Int):=(91,(l.length:Int))::gQ l
mutual
def zd:Tm→List (UInt8×Int)
 | .mk b k i a=>Cm b++((104,k)::(105,i)::(40,(a.length:Int))::iP a)
def iP:List Tm→List (UInt8×Int)
 | []=>[]
 |t::l=>zd t++iP l
end
mutual
theorem OC:∀(t u:Ty) (r s:List (UInt8×Int)),OB t++r=OB u++s→t=u∧r=s
 | .mk l b,.mk m c,r,s,h=>by
  simp only[OB,List.cons_append,List.cons.injEq,Prod.mk.injEq,true_and] at h
  obtain⟨rfl,h1,h2⟩:=h
  obtain⟨rfl,rfl⟩:=uH l m r s (by omega) h2
  exact⟨rfl,rfl⟩
theorem uH:∀(l m:List Ty) (r s:List (UInt8×Int)),l.length=m.length→gQ l++r=gQ m++s→l=m∧r=s
 | [],[],r,s,_,h=>⟨rfl,h⟩
 | [],_::_,_,_,h,_=>by simp at h
 |_::_,[],_,_,h,_=>by simp at h
 |t::l,u::m,r,s,hl,h=>by
  simp only[gQ,List.append_assoc] at h
  obtain⟨rfl,h1⟩:=OC t u _ _ h
  obtain⟨rfl,h2⟩:=uH l m r s (by simpa using hl) h1
  exact⟨rfl,h2⟩
end
theorem OD {l m:List Ty} {r s:List (UInt8×Int)} (h:Cm l++r=Cm m++s):l=m∧r=s:=by
 simp only[Cm,List.cons_append,List.cons.injEq,Prod.mk.injEq,true_and] at h
 exact uH l m r s (by omega) h.2
mutual
theorem FC:∀(t u:Tm) (r s:List (UInt8×Int)),zd t++r=zd u++s→t=u∧r=s
 | .mk b k i a,.mk b' k' i' a',r,s,h=>by
  simp only[zd,List.append_assoc] at h
  obtain⟨rfl,h1⟩:=OD h
  simp only[List.cons_append,List.cons.injEq,Prod.mk.injEq,true_and] at h1
  obtain⟨rfl,rfl,h2,h3⟩:=h1
  obtain⟨rfl,rfl⟩:=BL a a' r s (by omega) h3
  exact⟨rfl,rfl⟩
theorem BL:∀(l m:List Tm) (r s:List (UInt8×Int)),l.length=m.length→iP l++r=iP m++s→l=m∧r=s
 | [],[],r,s,_,h=>⟨rfl,h⟩
 | [],_::_,_,_,h,_=>by simp at h
 |_::_,[],_,_,h,_=>by simp at h
 |t::l,u::m,r,s,hl,h=>by
  simp only[iP,List.append_assoc] at h
  obtain⟨rfl,h1⟩:=FC t u _ _ h
  obtain⟨rfl,h2⟩:=BL l m r s (by simpa using hl) h1
  exact⟨rfl,h2⟩
end
theorem yG.append {l m:List (UInt8×Int)} (h1:yG l) (h2:yG m):yG (l++m):=fun p hp=>(List.mem_append.1 hp).elim (h1 p) (h2 p)
theorem yG.cons {c:UInt8} {n:Int} {l:List (UInt8×Int)} (h1:Rs c=false) (h2:yG l):yG ((c,n)::l):=fun p hp=>by
 rcases List.mem_cons.1 hp with rfl|hp
 ·exact h1
 ·exact h2 p hp
theorem yG.nil:yG []:=fun _ h=>by cases h
mutual
theorem OE:∀t:Ty,yG (OB t)
 | .mk l b=>.cons rfl (.cons rfl (uI l))
theorem uI:∀l:List Ty,yG (gQ l)
 | []=>.nil
 |t::l=>(OE t).append (uI l)
end
mutual
theorem yH:∀t:Tm,yG (zd t)
 | .mk b k i a=>yG.append (.cons rfl (uI b)) (.cons rfl (.cons rfl (.cons rfl (BM a))))
theorem BM:∀l:List Tm,yG (iP l)
 | []=>.nil
 |t::l=>(yH t).append (BM l)
end
def lW (t:Tm):ByteArray:=⟨(fW (zd t)).toArray⟩
theorem GH {t u:Tm} (h:lW t=lW u):t=u:=by
 have h1:fW (zd t)=fW (zd u):=by
  have:=congrArg ByteArray.data h
  simpa [lW] using this
 have h2:=BK _ _ (yH t) (yH u) h1
 exact(FC t u [] [] (by rw[List.append_nil,List.append_nil,h2])).1
theorem BN {us:List AV} {c:Int} (h:us.length+1≤1000000000):bJ Tryz.prog 123 [.ptr 0 0,.ae (.int .u8 c)] [.cA 1 us.length,.row 5 1 us]
  (fun r hp'=>r=.top∧hp'=[.cA 1 (us++[AV.ae (.int .u8 c)]).length,.row 5 1 (us++[AV.ae (.int .u8 c)])]):=
 bJ.res (R:=fun(r:AV) (hp':List af)=>r=AV.ae (.nilIface)∧hp'=[.cA 1 (us++[AV.ae (.int .u8 c)]).length,.row 5 1 (us++[AV.ae (.int .u8 c)])]) (JU ⟨_,lV,fun r q ⟨h1,h2⟩=>⟨us,⟨h1,h2⟩,rfl,bX rfl (by rw[List.length_append];simp;omega) (by decide),by rw[List.length_append];simp,rfl,rfl⟩⟩)
  fun r h' ⟨h1,h2⟩=>⟨_,fun w F η hp v _=>.top v,rfl,h2⟩
def bN (l:List (UInt8×Int)):ByteArray:=⟨(fW l).toArray⟩
theorem oR (l m:List (UInt8×Int)):aT (bN (l++m))=aT (bN l)++aT (bN m):=by
 simp only[aT,bN,yF,List.map_append]
theorem uJ (c:UInt8) (n:Int):aT (bN [(c,n)])=.ae (.int .u8 c.toNat)::aT (BI n):=by
 simp[aT,bN,fW,BI]
theorem OG (u:Nat):Lib.decDigits u≠[]:=by
 rw[Lib.decDigits]
 split<;>simp
theorem OH {k:Int}:(BI k).size≠0:=by
 have h:Lib.itoa k≠[]:=by
  unfold Lib.itoa
  split
  ·simp
  ·exact OG _
 intro e
 exact h (List.eq_nil_of_length_eq_zero (by simpa using (show (Lib.itoa k).toArray.size=0 from e)))
theorem kK {us:List AV} {c:UInt8} {n:Int} (hn:jr n) (h:us.length≤999000000):bJ Tryz.prog 122 [AV.ae (.int .u8 c.toNat),nI n,.ptr 2 0] (E3 us.length us) (fun r q=>r=.bc []∧q=E3 (us++aT (bN [(c,n)])).length (us++aT (bN [(c,n)]))):=by
 have hw:=wP hn
 refine JV ⟨_,BN (by omega),fun r q ⟨e1,e2⟩=>⟨us++[AV.ae (.int .u8 c.toNat)],⟨e1,e2⟩,_,DK hn,_,KP (us:=us++[AV.ae (.int .u8 c.toNat)]) OH (by rw[List.length_append];simp;omega),fun r q ⟨e1,e2⟩=>⟨us++[AV.ae (.int .u8 c.toNat)]++aT (BI n),(BI n).size,⟨?_,e2⟩,rfl,?_⟩⟩⟩
 ·exact e1
 ·rw[uJ,List.append_assoc,List.singleton_append]
theorem uK:∀(l:List (UInt8×Int)),(∀p∈l,jr p.2)→(aT (bN l)).length≤31*l.length
 | [],_=>by simp[aT,bN,fW]
 |(c,n)::l,h=>by
  have h1:=uK l fun p hp=>h p (List.mem_cons_of_mem _ hp)
  have h2:(BI n).size≤30:=wP (h (c,n) List.mem_cons_self)
  have h3:=oR [(c,n)] l
  rw[List.singleton_append] at h3
  rw[h3,List.length_append,uJ,List.length_cons,List.length_cons,dR]
  omega
mutual
theorem OI:∀t:Ty,(OB t).length=2*t.size
 | .mk l b=>by
  have:=qf l
  simp only[OB,List.length_cons,Ty.size];omega
theorem qf:∀l:List Ty,(gQ l).length=2*Ty.sizes l
 | []=>rfl
 |t::l=>by
  have h1:=OI t
  have h2:=qf l
  simp only[gQ,List.length_append,Ty.sizes];omega
end
theorem GI {l:List Ty} {k:Nat} (h:k<l.length):gQ (l.take (k+1))=gQ (l.take k)++((58,l[k].base)::Cm l[k].args):=by
 have app:∀a b:List Ty,gQ (a++b)=gQ a++gQ b:=fun a b=>by
  induction a with
  |nil=>rfl
  |cons x a ih=>rw[List.cons_append,gQ,gQ,ih,List.append_assoc]
 rw[List.take_succ_eq_append_getElem h,app]
 congr 1
 rw[gQ,gQ,List.append_nil]
 cases l[k] with
 |mk a b=>rfl
mutual
def Ty.jJ:Ty→Prop
 | .mk l b=>jr b∧Ty.fR l
def Ty.fR:List Ty→Prop
 | []=>True
 |t::l=>Ty.jJ t∧Ty.fR l
end
theorem Ty.jw:∀{l:List Ty},Ty.fR l→∀t∈l,t.jJ
 | [],_,t,h=>by cases h
 |u::l,h,t,ht=>by
  rcases List.mem_cons.1 ht with rfl|ht
  ·exact h.1
  ·exact Ty.jw h.2 t ht
theorem Ty.qY {t:Ty} (h:t.jJ):jr t.base∧Ty.fR t.args:=by cases t;exact h
mutual
theorem OJ:∀t:Ty,t.jJ→t.size≤1000000→∀p∈OB t,jr p.2
 | .mk l b,h,hs,p,hp=>by
  have h3:=Ty.aA l
  simp only[Ty.size] at hs
  simp only[OB,List.mem_cons] at hp
  rcases hp with rfl|rfl|hp
  ·exact h.1
  ·exact⟨by show (-9223372036854775808:Int)≤(l.length:Int);omega,by show (l.length:Int)<9223372036854775808;omega⟩
  ·exact nc l h.2 (by omega) p hp
theorem nc:∀l:List Ty,Ty.fR l→Ty.sizes l≤1000000→∀p∈gQ l,jr p.2
 | [],_,_,p,hp=>by cases hp
 |t::l,h,hs,p,hp=>by
  simp only[Ty.sizes] at hs
  simp only[gQ,List.mem_append] at hp
  rcases hp with hp|hp
  ·exact OJ t h.1 (by omega) p hp
  ·exact nc l h.2 (by omega) p hp
end
theorem lB {n:Nat} (h:n≤1000000000):jr (n:Int):=⟨by omega,by omega⟩
theorem kL {us:List AV} {l:List (UInt8×Int)} (h:∀p∈l,jr p.2):(us++aT (bN l)).length≤us.length+31*l.length:=by
 have:=uK l h
 rw[List.length_append];omega
theorem GJ:∀(n:Nat) (l:List Ty),Ty.sizes l<n→n≤1000000→Ty.fR l→∀us:List AV,us.length+62*Ty.sizes l≤990000000→
  bJ Tryz.prog 126 [.sl (l.map Ty.enc),.ptr 3 0,.ptr 4 0] (Py us.length us) (fun r q=>r=.bc []∧q=Py (us++aT (bN (Cm l))).length (us++aT (bN (Cm l)))):=by
 intro n
 induction n with
 |zero=>intro l h;omega
 |succ n ih=>
  intro l h hn DM us R5
  have hlen:=Ty.aA l
  have h1:=kK (us:=us) (c:=91) (n:=((List.length (l.map Ty.enc):Nat):Int)) (lB (by rw[List.length_map];omega)) (by omega)
  refine JY ⟨_,h1,fun r q ⟨e1,e2⟩=>⟨us++aT (bN [(91,((List.length (l.map Ty.enc):Nat):Int))]),⟨e1,e2⟩,rfl,?_⟩⟩
  have app:∀a b:List (UInt8×Int),us++aT (bN a)++aT (bN b)=us++aT (bN (a++b)):=fun a b=>by rw[oR,List.append_assoc]
  refine au.intro (fun k:Nat=>(((),(),l.map Ty.enc,(l.length:Int),(k:Int),()),((),us++aT (bN ((91,(l.length:Int))::gQ (l.take k))),((),()),((),()),((),()),()))) (fun k=>k≤l.length) (fun k=>l.length-k) 0 (by rw[List.length_map];rfl) (Nat.zero_le _) ?_
  intro k hk again bB
  dsimp only
  refine ak.intro (fun h=>?_) fun h=>⟨rfl,?_⟩
  ·have al:k<l.length:=by simpa using h
   have hx:=Ty.qY (Ty.jw DM _ (List.getElem_mem al))
   have Lt:=Ty.size_eq l[k]
   have t1:=Ty.bm (List.getElem_mem al)
   have ou:=bB (k+1) (by omega) (by omega)
   have p1:=Ty.bW (l.take k) (l.drop k)
   rw[List.take_append_drop,List.drop_eq_getElem_cons al,Ty.sizes] at p1
   have qH:∀p∈((91,(l.length:Int))::gQ l:List (UInt8×Int)),jr p.2:=fun p hp=>by
    rcases List.mem_cons.1 hp with rfl|hp
    ·exact lB (by omega)
    ·exact nc l DM (by omega) p hp
   have xv:∀p∈((91,(l.length:Int))::gQ (l.take k):List (UInt8×Int)),jr p.2:=fun p hp=>by
    rcases List.mem_cons.1 hp with rfl|hp
    ·exact lB (by omega)
    ·refine nc (l.take k) ?_ (by omega) p hp
     have:∀(m:List Ty) (j:Nat),Ty.fR m→Ty.fR (m.take j):=fun m=>by
      induction m with
      |nil=>intro j hm;rw[List.take_nil];exact hm
      |cons x m ih2=>
       intro j hm
       cases j with
       |zero=>exact True.intro
       |succ j=>exact⟨hm.1,ih2 j hm.2⟩
     exact this l k DM
   have b1:=kL (us:=us) xv
   rw[List.length_cons,qf] at b1
   have b2:(us++aT (bN ((91,(l.length:Int))::gQ (l.take k)))++aT (bN [(58,l[k].base)])).length≤us.length+31*(2*Ty.sizes (l.take k)+1)+31:=by
    have:=kL (us:=us++aT (bN ((91,(l.length:Int))::gQ (l.take k)))) (l:=[(58,l[k].base)]) (fun p hp=>by rw[List.mem_singleton] at hp;rw[hp];exact hx.1)
    rw[List.length_singleton] at this
    omega
   rw[GI al] at ou
   refine⟨by omega,by rw[List.length_map];omega,_,_,Ty.aj al,_,kK (c:=58) hx.1 (by omega),fun r q ⟨e1,e2⟩=>⟨_,⟨e1,e2⟩,_,ih l[k].args (by omega) (by omega) hx.2 _ (by omega),fun r q ⟨e1,e2⟩=>⟨_,⟨e1,e2⟩,rfl,?_⟩⟩⟩
   rw[aB (by omega),app,app,List.append_assoc,List.cons_append,List.singleton_append]
   exact ou
  ·have:l.length≤k:=by simpa using h
   rw[List.take_of_length_le this];rfl
mutual
def Tm.jJ:Tm→Prop
 | .mk b k i a=>Ty.fR b∧jr k∧jr i∧Tm.fR a
def Tm.fR:List Tm→Prop
 | []=>True
 |t::l=>Tm.jJ t∧Tm.fR l
end
theorem Tm.jw:∀{l:List Tm},Tm.fR l→∀t∈l,t.jJ
 | [],_,t,h=>by cases h
 |u::l,h,t,ht=>by
  rcases List.mem_cons.1 ht with rfl|ht
  ·exact h.1
  ·exact Tm.jw h.2 t ht
theorem Tm.qY {t:Tm} (h:t.jJ):Ty.fR t.binds∧jr t.kind∧jr t.index∧Tm.fR t.args:=by cases t;exact h
theorem Tm.BO:∀(m:List Tm) (j:Nat),Tm.fR m→Tm.fR (m.take j)
 | [],j,h=>by rw[List.take_nil];exact h
 |x::m,0,h=>True.intro
 |x::m,j+1,h=>⟨h.1,Tm.BO m j h.2⟩
theorem FD {l:List Ty} (h:Ty.fR l) (hs:Ty.sizes l≤1000000):∀p∈Cm l,jr p.2:=fun p hp=>by
 have:=Ty.aA l
 rcases List.mem_cons.1 hp with rfl|hp
 ·exact lB (by omega)
 ·exact nc l h hs p hp
theorem sY (l:List Ty):(Cm l).length=2*Ty.sizes l+1:=by rw[Cm,List.length_cons,qf]
mutual
theorem OK:∀t:Tm,(zd t).length≤4*t.size
 | .mk b k i a=>by
  have h1:=uL a
  have h2:=sY b
  simp only[zd,List.length_append,List.length_cons,Tm.size];omega
theorem uL:∀l:List Tm,(iP l).length≤4*Tm.sizes l
 | []=>Nat.le_refl _
 |t::l=>by
  have h1:=OK t
  have h2:=uL l
  simp only[iP,List.length_append,Tm.sizes];omega
end
mutual
theorem OL:∀t:Tm,t.jJ→t.size≤1000000→∀p∈zd t,jr p.2
 | .mk b k i a,h,hs,p,hp=>by
  have h3:=Tm.aA a
  simp only[Tm.size] at hs
  simp only[zd,List.mem_append,List.mem_cons] at hp
  rcases hp with hp|rfl|rfl|rfl|hp
  ·exact FD h.1 (by omega) p hp
  ·exact h.2.1
  ·exact h.2.2.1
  ·exact lB (by omega)
  ·exact uM a h.2.2.2 (by omega) p hp
theorem uM:∀l:List Tm,Tm.fR l→Tm.sizes l≤1000000→∀p∈iP l,jr p.2
 | [],_,_,p,hp=>by cases hp
 |t::l,h,hs,p,hp=>by
  simp only[Tm.sizes] at hs
  simp only[iP,List.mem_append] at hp
  rcases hp with hp|hp
  ·exact OL t h.1 (by omega) p hp
  ·exact uM l h.2 (by omega) p hp
end
theorem GK {l:List Tm} {k:Nat} (h:k<l.length):iP (l.take (k+1))=iP (l.take k)++zd l[k]:=by
 have app:∀a b:List Tm,iP (a++b)=iP a++iP b:=fun a b=>by
  induction a with
  |nil=>rfl
  |cons x a ih=>rw[List.cons_append,iP,iP,ih,List.append_assoc]
 rw[List.take_succ_eq_append_getElem h,app,iP,iP,List.append_nil]
@[simp] theorem VR (f:FuncId):Fence.wide.fn f=True:=rfl
@[simp] theorem Rt:Fence.wide.depth=none:=rfl
set_option maxHeartbeats 1600000
theorem qg (w:World):(callFunc 227 #[]).run Tryz.prog w=.ok (.value (.tuple #[])) w:=run_call_mark0 Tryz.func227 (by kernel_rfl) (by kernel_rfl) (by kernel_rfl) .disable (by kernel_rfl) w
theorem rV (w:World):(callFunc 229 #[]).run Tryz.prog w=.ok (.value (.tuple #[])) w:=run_call_mark0 Tryz.func229 (by kernel_rfl) (by kernel_rfl) (by kernel_rfl) .enable (by kernel_rfl) w
theorem yI (a:Addr) (w:World):(callFunc 230 #[.pointer (some a)]).run Tryz.prog w=.ok (.value (.tuple #[])) w:=run_call_marked Tryz.func230 (by kernel_rfl) (by kernel_rfl) (by kernel_rfl) .acquire (by kernel_rfl) a w
theorem yJ (a:Addr) (w:World):(callFunc 232 #[.pointer (some a)]).run Tryz.prog w=.ok (.value (.tuple #[])) w:=run_call_marked Tryz.func232 (by kernel_rfl) (by kernel_rfl) (by kernel_rfl) .releaseMerge (by kernel_rfl) a w
theorem uN (a:Addr) (x:Value) (u:FrameMode) (w:World) (hc:w.cell? a=some x) (hz:w.frozen? a=false):
  CallsDIn Fence.wide 0 Tryz.prog 193 #[.pointer (some a),.bool true] u w fun e u' w'=>u'=u∧(e=.returned (.tuple #[])∧w'=w.drew.setCell a (.int .u32 1)):=by
 have He:w.drew.cell? a=some x:=by go_simp
 have V2:w.drew.frozen? a=false:=by go_simp
 have vR:=run_call_store (P:=Tryz.prog) Tryz.func214 (by kernel_rfl) (by kernel_rfl) (by kernel_rfl) (by kernel_rfl) (k:=.u32) (y:=1) He V2
 gi_enter_d Tryz.func193,Tryz.ntmps193
 gi_wp2
 gi_region
 all_goals (go_end0;exact⟨rfl,rfl⟩)
theorem DN (a:Addr) (w:World) (hc:w.cell? a=some (.int .i32 0)) (hz:w.frozen? a=false):
  CallsIn Fence.wide 0 Tryz.prog 212 #[.pointer (some a)] w fun e w'=>e=.returned (.tuple #[])∧w'=w.setCell a (.int .i32 1):=by
 have hd:=qg
 have he:=rV
 have ha:=yI
 have aa9:=run_call_cas_hit (P:=Tryz.prog) Tryz.func228 (by kernel_rfl) (by kernel_rfl) (by kernel_rfl) .i32 (by kernel_rfl) (y:=1) hc hz
 have He:(w.setCell a (.int .i32 1)).cell? a=some (.int .i32 1):=World.cell?_setCell_same w a _ hc
 have hcv:=run_convert_to_unsafe (P:=Tryz.prog) (src:=323) (dst:=289) Tryz.underlying323 Tryz.underlying289 (by kernel_rfl) He
 gi_enter Tryz.func212,Tryz.ntmps212
 gi_wp2
 first|go_end0|(simp only[Exit.inBlock,Exit.then];refine bodyPost_ret (results_none rfl _ _ _) rfl ?_)|refine bodyPost_ret (results_none rfl _ _ _) rfl ?_
 all_goals (first|exact⟨rfl,rfl⟩|(gi_wp2;go_end0;exact⟨rfl,rfl⟩))
theorem GL (a:Addr) (w:World) (hc:w.cell? a=some (.int .i32 0)) (hz:w.frozen? a=false):
  CallsIn Fence.wide 0 Tryz.prog 191 #[.pointer (some a)] w fun e w'=>e=.returned (.tuple #[])∧w'=w.setCell a (.int .i32 1):=by
 gi_enter Tryz.func191,Tryz.ntmps191
 gi_wp2_with (gi_at_call 212;refine(DN a _ hc hz).mono ?_;rintro e w' ⟨rfl,rfl⟩)
 go_end0
 exact⟨rfl,rfl⟩
theorem yK (a:Addr) (w:World) (hc:w.cell? a=some (.int .i32 1)) (hz:w.frozen? a=false):
  CallsIn Fence.wide 0 Tryz.prog 213 #[.pointer (some a)] w fun e w'=>e=.returned (.tuple #[])∧w'=w.setCell a (.int .i32 0):=by
 have hd:=qg
 have he:=rV
 have hr:=yJ
 have abb:=run_call_add (P:=Tryz.prog) Tryz.func233 (by kernel_rfl) (by kernel_rfl) (by kernel_rfl) .i32 (by kernel_rfl) (y := -1) (s:=0) hc hz (by simp[go_sem];rfl)
 have hcv:=run_convert_to_unsafe (P:=Tryz.prog) (src:=323) (dst:=289) Tryz.underlying323 Tryz.underlying289 (by kernel_rfl) hc
 gi_enter Tryz.func213,Tryz.ntmps213
 gi_wp2
 all_goals (first|exact⟨rfl,rfl⟩|(go_end0;exact⟨rfl,rfl⟩))
theorem sD (a:Addr) (u:FrameMode) (w:World) (hc:w.cell? a=some (.int .i32 1)) (hz:w.frozen? a=false):
  CallsDIn Fence.wide 0 Tryz.prog 192 #[.pointer (some a)] u w fun e u' w'=>u'=u∧(e=.returned (.tuple #[])∧w'=w.setCell a (.int .i32 0)):=by
 gi_enter_d Tryz.func192,Tryz.ntmps192
 gi_wp2_with (gi_at_call 213;refine(yK a _ hc hz).mono ?_;rintro e w' ⟨rfl,rfl⟩)
 go_end0
 exact⟨rfl,rfl⟩
theorem qZ (a:Addr) (d:Int) (w:World) (hc:w.cell? a=some (.int .u32 d)):
  CallsIn Fence.wide 0 Tryz.prog 169 #[.pointer (some a)] w fun e w'=>e=.returned (.bool (d != 0))∧w'=w:=by
 have hl:=run_call_load (P:=Tryz.prog) Tryz.func190 (by kernel_rfl) (by kernel_rfl) (by kernel_rfl) .u32 (by kernel_rfl) hc
 gi_enter Tryz.func169,Tryz.ntmps169
 gi_wp2
 go_ret
 exact⟨rfl,rfl⟩
section
set_option maxHeartbeats 1600000
theorem KV (b off:Nat) (f:FuncId) (caps:Array Value) (GM:World→Prop) (w:World)
  (h0:w.cell? ⟨b,off,none⟩=some (.int .u32 0)) (h1:w.cell? ⟨b,off+1,none⟩=some (.int .i32 0)) (f0:w.frozen? ⟨b,off,none⟩=false) (f1:w.frozen? ⟨b,off+1,none⟩=false)
  (hc:gB Tryz.prog f)
  (hf:CallsIn Fence.wide 0 Tryz.prog f caps (w.setCell ⟨b,off+1,none⟩ (.int .i32 1)) fun e w'=>e=.returned (.tuple #[])∧w'.cell? ⟨b,off,none⟩=some (.int .u32 0)∧w'.cell? ⟨b,off+1,none⟩=some (.int .i32 1)∧
   w'.frozen? ⟨b,off,none⟩=false∧w'.frozen? ⟨b,off+1,none⟩=false∧GM w'):
  CallsIn Fence.wide 0 Tryz.prog 170 #[.pointer (some ⟨b,off,none⟩),.func (.func f) #[] caps] w fun e w'=>e=.returned (.tuple #[])∧
   ∃w1,GM w1∧w'=(w1.drew.setCell ⟨b,off,none⟩ (.int .u32 1)).setCell ⟨b,off+1,none⟩ (.int .i32 0):=by
 have h01:(w.setCell ⟨b,off+1,none⟩ (.int .i32 1)).cell? ⟨b,off,none⟩=some (.int .u32 0):=((World.cell?_setCell_other _ ⟨b,off+1,none⟩ ⟨b,off,none⟩ _ (by simp)).trans h0)
 have Vd:∀(x:Bool) (w:World),(Op.unary .not (.bool x)).run Tryz.prog w=.ok (.bool (!x)) w:=fun _ _=>rfl
 have ew:=fun(args:Array Value) (w:World)=>gY hc args w
 gi_enter_defers Tryz.func170,Tryz.ntmps170
 gi_wp2_with (first|(gi_at_call 169;refine(qZ ⟨b,off,none⟩ 0 _ h01).mono ?_;rintro e w' ⟨rfl,rfl⟩)|(gi_at_call 191;refine(GL ⟨b,off+1,none⟩ _ (by go_simp) (by go_simp)).mono ?_;rintro e w' ⟨rfl,rfl⟩)|(with_reducible refine CallsIn.mono hf ?_;rintro e w1 ⟨rfl,g0,g1,gf0,gf1,aZ⟩))
 refine leavesIn_cons (f:=193) (args:=#[.pointer (some ⟨b,off,none⟩),.bool true]) (by simp) (by simp) (by simp[go_sem]) (by simp[Target.leads]) ?_
 refine(uN ⟨b,off,none⟩ (.int .u32 0) .returning _ g0 gf0).mono ?_
 rintro e u' w'' ⟨rfl,rfl,rfl⟩
 refine leavesIn_cons (f:=192) (args:=#[.pointer (some ⟨b,off+1,none⟩)]) (by simp[settle]) (by simp) (by simp[go_sem]) (by simp[Target.leads]) ?_
 refine(sD ⟨b,off+1,none⟩ _ _ ?_ (by simp[gf1])).mono ?_
 ·refine(World.cell?_setCell_other _ ⟨b,off,none⟩ ⟨b,off+1,none⟩ _ (by simp)).trans ?_
  rw[World.cell?_drew]
  exact g1
 rintro e u' w'' ⟨rfl,rfl,rfl⟩
 simp[LeavesIn,settle,results,Tryz.results170]
 exact⟨w1,aZ,rfl⟩
theorem KW (b off:Nat) (f:FuncId) (caps:Array Value) (GM:World→Prop) (w:World)
  (h0:w.cell? ⟨b,off,none⟩=some (.int .u32 0)) (h1:w.cell? ⟨b,off+1,none⟩=some (.int .i32 0)) (f0:w.frozen? ⟨b,off,none⟩=false) (f1:w.frozen? ⟨b,off+1,none⟩=false)
  (hc:gB Tryz.prog f)
  (hf:CallsIn Fence.wide 0 Tryz.prog f caps (w.setCell ⟨b,off+1,none⟩ (.int .i32 1)) fun e w'=>e=.returned (.tuple #[])∧w'.cell? ⟨b,off,none⟩=some (.int .u32 0)∧w'.cell? ⟨b,off+1,none⟩=some (.int .i32 1)∧
   w'.frozen? ⟨b,off,none⟩=false∧w'.frozen? ⟨b,off+1,none⟩=false∧GM w'):
  CallsIn Fence.wide 0 Tryz.prog 120 #[.pointer (some ⟨b,off,none⟩),.func (.func f) #[] caps] w fun e w'=>e=.returned (.tuple #[])∧
   ∃w1,GM w1∧w'=(w1.drew.setCell ⟨b,off,none⟩ (.int .u32 1)).setCell ⟨b,off+1,none⟩ (.int .i32 0):=by
 have Vd:∀(x:Bool) (w:World),(Op.unary .not (.bool x)).run Tryz.prog w=.ok (.bool (!x)) w:=fun _ _=>rfl
 gi_enter Tryz.func120,Tryz.ntmps120
 gi_wp2_with (first|(gi_at_call 169;refine(qZ ⟨b,off,none⟩ 0 _ h0).mono ?_;rintro e w' ⟨rfl,rfl⟩)|(gi_at_call 170;refine(KV b off f caps GM _ h0 h1 f0 f1 hc hf).mono ?_;rintro e w' ⟨rfl,w1,eG,rfl⟩))
 go_end0
 exact⟨rfl,w1,eG,rfl⟩
theorem KX (a:Addr) (d:Int) (hd:¬d=0) (fv:Value) (w:World) (h0:w.cell? a=some (.int .u32 d)):
  CallsIn Fence.wide 0 Tryz.prog 120 #[.pointer (some a),fv] w fun e w'=>e=.returned (.tuple #[])∧w'=w:=by
 have Vd:∀(x:Bool) (w:World),(Op.unary .not (.bool x)).run Tryz.prog w=.ok (.bool (!x)) w:=fun _ _=>rfl
 have cM:(d != 0)=true:=by simp[hd]
 gi_enter Tryz.func120,Tryz.ntmps120
 gi_wp2_with (gi_at_call 169;refine(qZ a d _ h0).mono ?_;rintro e w' ⟨rfl,rfl⟩)
 go_end0
 exact⟨rfl,rfl⟩
variable {w w' w1 w2:World} {F:Nat→Nat→Prop} {η aM iq lY:List Value} {hp hp' eG nr:List af} {r r1 r2:AV} {v v1 v2:Value}
theorem ep {u v:Value} (h:aV w F η hp (.ae u) v):v=u:=by cases h;rfl
theorem Ve {o:af} {u:Value} {b:Nat} (cR:fo w F η hp o u) (hl:o.live) (hb:bT u=some b):b<w.heap.size:=by
 cases o with
 |dead=>exact hl.elim
 |box cs=>obtain⟨b',vs,T,rfl,h1,_⟩:=cR;simp only[bT,Option.some.injEq] at hb;subst hb;exact aX h1
 |row e size els=>obtain⟨_,xs,h1,_⟩:=cR;obtain⟨cur,h5⟩:=h1.lt hb;exact aX h5
 |aP es=>obtain⟨b',en,c,rfl,h1,_⟩:=cR;simp only[bT,Option.some.injEq] at hb;subst hb;exact aX h1
 |cA q k=>obtain⟨b',vs,rfl,h1,_⟩:=cR;simp only[bT,Option.some.injEq] at hb;subst hb;exact aX h1
 |aF e size els=>obtain⟨_,xs,h1,_⟩:=cR;obtain⟨cur,h5⟩:=h1.lt hb;exact aX h5
 |dh e m ns=>obtain⟨cur,h5⟩:=dT.lt cR hb;exact aX h5
theorem fS.pre (aI:nW w F η hp) (h:fS w F η hp w' aM hp' r v):nW w' (bQ F w η hp w' aM hp') aM hp':=
 ⟨fun b o hb=>hb.2,h.heap,fun b ⟨r,o,v,g1,g2,g3,g4⟩=>Ve (h.heap.obj r o v g1 g3) g2 g4,aI.fX.keeps h.keeps aI.gx,fun b hb hl=>(h.bA b hl).elim (fun hs=>absurd (aI.fX.lt hb) (by omega)) (aI.gx b hb)⟩
theorem fS.trans (h:fS w F η hp w1 iq eG r1 v1) (k:fS w1 (bQ F w η hp w1 iq eG) iq eG w2 lY nr r2 v2):fS w F η hp w2 lY nr r2 v2:=by
 have H8:∀b o,bQ (bQ F w η hp w1 iq eG) w1 iq eG w2 lY nr b o→bQ F w η hp w2 lY nr b o:=fun b o ⟨h1,h2⟩=>⟨by
  rcases h1 with h1|h1|h1
  ·exact h1.1
  ·exact .inr (.inl (Nat.le_trans h.keeps.size h1))
  ·exact .inr (h.bA b h1),h2⟩
 have hx:Ext w2 (bQ (bQ F w η hp w1 iq eG) w1 iq eG w2 lY nr) lY nr w2 (bQ F w η hp w2 lY nr) lY nr:=⟨fun _ _ _ _ h=>h,fun _ _ _ _ h=>h,H8,fun _ _ h=>h,fun _ _ h=>h,fun _ _ _ h=>h⟩
 exact⟨h.keeps.trans k.keeps (fun i hi hl=>(h.bA i hl).elim (fun h=>absurd hi (by omega)) id),(h.ext.trans k.ext).trans hx,⟨k.heap.len,fun r o v e1 e2=>(k.heap.obj r o v e1 e2).ext hx (Nat.le_refl _) fun _ _ _=>rfl,k.heap.sep⟩,
  fun b hb=>(k.bA b hb).elim (fun h1=>.inl (Nat.le_trans h.keeps.size h1)) (h.bA b),k.rep.ext hx⟩
theorem oS {q o:Nat} {cs:List AV} {b:Nat} {u u0:Value} (aI:nW w F η hp) (hq:hp[q]?=some (.box cs)) (hb:η[q]?=some (.pointer (some ⟨b,0,none⟩)))
  (hk:bo (fun _=>False) w w1) (hs:w1.heap=w.heap) (hu:u.oneCell'=true) (h0:cs[o]?=some (.ae u0)):
  fS w F η hp (w1.setCell ⟨b,o,none⟩ u) η (hp.set q (.box (cs.set o (.ae u)))) (.bc []) (.tuple #[]):=by
 obtain⟨b',vs,T,e1,e2,e3,e4⟩:=aI.heap.obj q _ _ hq hb
 cases e1
 have hv:w1.heap[b]?=some (.cells vs T (0,0)):=by rw[hs];exact e2
 have g:=heap_setCell_same w1 b o vs T u hv
 refine wG (vs':=vs.setIfInBounds o u) (T:=T) aI hq hb ⟨hk.os,hk.tape,hk.output,by simp[hs],fun k _ hk=>?_⟩ (by simp[hs]) g (by simp[e3]) (fun j x y hx hy=>?_) (.bc [] #[] rfl fun j y u hy _=>by cases hy)
 ·rw[heap_setCell_other _ _ _ _ hk,hs]
 ·rw[Array.getElem?_setIfInBounds] at hy
  rw[List.getElem?_set] at hx
  by_cases hj:o=j
  ·subst hj
   rw[if_pos rfl] at hx hy
   split at hx
   ·split at hy
    ·cases hx;cases hy;exact⟨.ae _,hu⟩
    ·cases hy
   ·cases hx
  ·rw[if_neg hj] at hx hy
   exact e4 j x y hx hy
theorem nd {q off:Nat} {f:FuncId} {caps:List AV} {H:List af} {cs:List AV} {R:AV→List af→Prop} (hq:H[q]?=some (.box cs))
  (h0:cs[off]?=some (.ae (.int .u32 0))) (h1:cs[off+1]?=some (.ae (.int .i32 0)))
  (hf:bJ Tryz.prog f caps (H.set q (.box (cs.set (off+1) (.ae (.int .i32 1))))) R)
  (hR:∀r h,R r h→r=.bc []∧∃cs',h[q]?=some (.box cs')∧cs'[off]?=some (.ae (.int .u32 0))∧cs'[off+1]?=some (.ae (.int .i32 1))):
  bJ Tryz.prog 120 [.ptr q off,.aS f caps] H (fun r h'=>r=.bc []∧∃h cs',R (.bc []) h∧h[q]?=some (.box cs')∧h'=h.set q (.box ((cs'.set off (.ae (.int .u32 1))).set (off+1) (.ae (.int .i32 0))))):=by
 refine⟨⟨_,Tryz.func120,by kernel_rfl,by kernel_rfl⟩,fun w F η aR aI hv=>?_⟩
 match aR,hv with
 | [v0,v1],⟨r0,r1,_⟩=>
  obtain⟨b,rfl,hb⟩:∃b,v0=.pointer (some ⟨b,off,none⟩)∧η[q]?=some (.pointer (some ⟨b,0,none⟩)):=by cases r0 with|ptr _ _ b h1=>exact⟨b,rfl,h1⟩
  obtain⟨cv,rfl,hl,hc⟩:∃cv:Array Value,v1=.func (.func f) #[] cv∧cv.size=caps.length∧∀(j:Nat) (x:AV) (u:Value),caps[j]?=some x→cv[j]?=some u→aV w F η H x u:=by cases r1 with|aS _ _ cv hl hc=>exact⟨cv,rfl,hl,hc⟩
  obtain⟨b',vs,T,e1,e2,e3,e4⟩:=aI.heap.obj q _ _ hq hb
  cases e1
  have cell:∀{k:Nat} {u:Value},cs[k]?=some (.ae u)→w.cell? ⟨b,k,none⟩=some u:=fun {k u} hk=>by
   have al:k<vs.size:=by rw[e3];exact(List.getElem?_eq_some_iff.1 hk).1
   have he:=ep (e4 k _ _ hk (Array.getElem?_eq_getElem al)).1
   simp only[World.cell?,e2]
   rw[Array.getElem?_eq_getElem al,he];rfl
  have Vf:∀k,w.frozen? ⟨b,k,none⟩=false:=fun k=>by simp[World.frozen?,e2]
  have p1:=oS (u:=.int .i32 1) aI hq hb (bo.refl _ w) rfl rfl h1
  have YK:=p1.pre aI
  have iB:=hf.2 _ _ _ cv.toList YK (cd (by simpa using hl) fun j x u hx hu=>(hc j x u hx (by simpa using hu)).ext p1.ext)
  have zF:q<H.length:=(List.getElem?_eq_some_iff.1 hq).1
  refine(KW b off f cv (fun w2=>∃h lY,R (.bc []) h∧fS w F η H w2 lY h (.bc []) (.tuple #[])∧lY[q]?=some (.pointer (some ⟨b,0,none⟩))) w (cell h0) (cell h1) (Vf _) (Vf _) hf.1 (iB.mono ?_)).mono ?_
  ·rintro e w2 ⟨v,r,h,lY,rfl,hr,aZ⟩
   obtain⟨rfl,cs',Ot,k0,k1⟩:=hR r h hr
   have hv:v=.tuple #[]:=by
    have:=aZ.rep
    cases this with
    |bc _ vs hl _=>cases vs with|mk l=>cases l with|nil=>rfl|cons=>simp at hl
   subst hv
   have PG:=aZ.ext.ptr q _ hb
   obtain⟨b2,Vg,T2,g1,g2,g3,g4⟩:=aZ.heap.obj q _ _ Ot PG
   cases g1
   have PH:∀{k:Nat} {u:Value},cs'[k]?=some (.ae u)→w2.cell? ⟨b,k,none⟩=some u:=fun {k u} hk=>by
    have al:k<Vg.size:=by rw[g3];exact(List.getElem?_eq_some_iff.1 hk).1
    have he:=ep (g4 k _ _ hk (Array.getElem?_eq_getElem al)).1
    simp only[World.cell?,g2]
    rw[Array.getElem?_eq_getElem al,he];rfl
   exact⟨rfl,PH k0,PH k1,by simp[World.frozen?,g2],by simp[World.frozen?,g2],h,lY,hr,p1.trans aZ,PG⟩
  ·rintro e w3 ⟨rfl,w2,⟨h,lY,hr,aZ,PG⟩,rfl⟩
   obtain⟨_,cs',Ot,k0,k1⟩:=hR _ h hr
   have Vh:=aZ.pre aI
   have p3:=oS (w1:=w2.drew) (u:=.int .u32 1) Vh Ot PG ⟨rfl,rfl,rfl,Nat.le_refl _,fun _ _ _=>rfl⟩ rfl rfl k0
   have hq3:(h.set q (.box (cs'.set off (.ae (.int .u32 1)))))[q]?=some (.box (cs'.set off (.ae (.int .u32 1)))):=by
    rw[List.getElem?_set,if_pos rfl,if_pos (List.getElem?_eq_some_iff.1 Ot).1]
   have p4:=oS (u:=.int .i32 0) (p3.pre Vh) hq3 PG (bo.refl _ _) rfl rfl (o:=off+1) (u0:=.int .i32 1) (by rw[List.getElem?_set,if_neg (by omega)];exact k1)
   refine⟨_,.bc [],_,lY,rfl,⟨rfl,h,cs',hr,Ot,rfl⟩,?_⟩
   have ir:=aZ.trans p3
   have:=aZ.trans (p3.trans p4)
   rwa [List.set_set] at this
theorem nf {q off:Nat} {f:FuncId} {caps:List AV} {H:List af} {cs:List AV} {d:Int} (hq:H[q]?=some (.box cs)) (h0:cs[off]?=some (.ae (.int .u32 d))) (hd:¬d=0):
  bJ Tryz.prog 120 [.ptr q off,.aS f caps] H (fun r h'=>r=.bc []∧h'=H):=by
 refine⟨⟨_,Tryz.func120,by kernel_rfl,by kernel_rfl⟩,fun w F η aR aI hv=>?_⟩
 match aR,hv with
 | [v0,v1],⟨r0,r1,_⟩=>
  obtain⟨b,rfl,hb⟩:∃b,v0=.pointer (some ⟨b,off,none⟩)∧η[q]?=some (.pointer (some ⟨b,0,none⟩)):=by cases r0 with|ptr _ _ b h1=>exact⟨b,rfl,h1⟩
  obtain⟨b',vs,T,e1,e2,e3,e4⟩:=aI.heap.obj q _ _ hq hb
  cases e1
  have al:off<vs.size:=by rw[e3];exact(List.getElem?_eq_some_iff.1 h0).1
  have aw:w.cell? ⟨b,off,none⟩=some (.int .u32 d):=by
   have he:=ep (e4 off _ _ h0 (Array.getElem?_eq_getElem al)).1
   simp only[World.cell?,e2]
   rw[Array.getElem?_eq_getElem al,he];rfl
  refine(KX ⟨b,off,none⟩ d hd _ w aw).mono ?_
  rintro e w' ⟨rfl,rfl⟩
  refine⟨_,.bc [],_,η,rfl,⟨rfl,rfl⟩,?_⟩
  have:=wG (cs':=cs) (r0:=.bc []) (v:=.tuple #[]) aI hq hb (bo.refl _ _) rfl e2 e3 e4 (.bc [] #[] rfl fun j y u hy _=>by cases hy)
  have nO:H.set q (.box cs)=H:=by
   obtain⟨hl,he⟩:=List.getElem?_eq_some_iff.1 hq
   rw[←he];exact List.set_getElem_self hl
  rwa [nO] at this
end
set_option maxHeartbeats 3200000
theorem PI (i:Nat) (h:i<1000000):IntKind.wrap .i64 (Int.tdiv (i:Int) 64)=((i / 64:Nat):Int):=by
 have:Int.tdiv (i:Int) 64=((i / 64:Nat):Int):=by rw[Int.tdiv_eq_ediv_of_nonneg (by omega)];omega
 rw[this]
 exact IntWalk.i64_in _ (by omega)
theorem PJ (i:Nat):Int.tmod (i:Int) 64=((i % 64:Nat):Int):=by rw[Int.tmod_eq_emod_of_nonneg (by omega)];omega
theorem OM (x k:Nat) (hx:x<2 ^ 64):(bits .and .u64 ((x:Int) / 2 ^ k) 1==1)=x.testBit k:=by
 have e:(x:Int) / 2 ^ k=((x / 2 ^ k:Nat):Int):=by simp
 have al:x / 2 ^ k<18446744073709551616:=Nat.lt_of_le_of_lt (Nat.div_le_self _ _) hx
 rw[e,show (1:Int)=((1:Nat):Int) from rfl,bits_and_u64_nat _ _ al (by omega),Nat.testBit,Nat.shiftRight_eq_div_pow,Nat.and_comm]
 have h2:1 &&& x / 2 ^ k=(x / 2 ^ k) % 2:=by rw[Nat.and_comm,Nat.and_one_is_mod]
 rw[h2]
 rcases Nat.mod_two_eq_zero_or_one (x / 2 ^ k) with h|h<;>rw[h]<;>rfl
theorem BP (b o n c:Nat) (f:Nat→Nat) (i:Nat) (w:World) (hi:i / 64<n) (VS:i<1000000) (hc:∀j,j<n→w.cell? ⟨b,o+j,none⟩=some (.int .u64 (f j))) (hf:∀j,f j<2 ^ 64):
  Calls Tryz.prog 119 #[.slice (some ⟨b,o,none⟩) n c,.int .i64 i] w fun e w'=>e=.returned (.bool ((f (i / 64)).testBit (i % 64)))∧w'=w:=by
 have h1:=hc (i / 64) hi
 have q:=PI i VS
 have r:=PJ i
 go_enter Tryz.func119,Tryz.ntmps119
 go_wp2
 go_ret
 exact⟨congrArg Ending.returned (congrArg Value.bool (OM _ _ (hf _))),rfl⟩
theorem Ru (x k:Nat) (hx:x<2 ^ 64) (hk:k<64):bits .or .u64 (x:Int) (IntKind.wrap .u64 (2 ^ k))=((x ||| 2 ^ k:Nat):Int):=by
 have h2:2 ^ k<18446744073709551616:=Nat.lt_of_le_of_lt (Nat.pow_le_pow_right (by omega) (show k≤63 by omega)) (by decide)
 have e:IntKind.wrap .u64 (2 ^ k)=((2 ^ k:Nat):Int):=by
  rw[show ((2:Int) ^ k)=((2 ^ k:Nat):Int) by simp]
  exact Int.emod_eq_of_lt (Int.natCast_nonneg _) (by exact_mod_cast h2)
 rw[e,bits_or_u64_nat _ _ hx h2]
structure jx (b:Nat) (t:TypeId) (n:Nat) (f g:Nat→Nat) (w:World) (r:Nat) (wr:World):Prop where
 row:wr.rowIs b t n (fun j=>.int .u64 (if j<r then(f j ||| g j:Nat) else f j))
 keeps:bo (fun k=>k=b) w wr
 size:wr.heap.size=w.heap.size
theorem jx.start {b:Nat} {t:TypeId} {n:Nat} {f g:Nat→Nat} {w:World} (hc:w.rowIs b t n (fun j=>.int .u64 (f j))):jx b t n f g w 0 w:=
 ⟨hc.congr (fun j _=>by simp),bo.refl _ _,rfl⟩
theorem jx.here {b:Nat} {t:TypeId} {n:Nat} {f g:Nat→Nat} {w wr:World} {r:Nat} (h:jx b t n f g w r wr) (hr:r<n):wr.cell? ⟨b,r,none⟩=some (.int .u64 (f r)):=by
 have:=h.row.cell hr
 simpa using this
theorem jx.there {b b2:Nat} {t:TypeId} {n:Nat} {f g:Nat→Nat} {w wr:World} {r:Nat} (h:jx b t n f g w r wr) (hr:r<n) (hs:b=b2→∀j,f j=g j) (hg:w.cell? ⟨b2,r,none⟩=some (.int .u64 (g r))):
  wr.cell? ⟨b2,r,none⟩=some (.int .u64 (g r)):=by
 by_cases e:b=b2
 ·subst e;rw[←hs rfl r];exact h.here hr
 ·rw[h.keeps.cell (World.block_lt_of_cell? _ _ hg) (fun e2=>e e2.symm)];exact hg
theorem jx.step {b:Nat} {t:TypeId} {n:Nat} {f g:Nat→Nat} {w wr:World} {r:Nat} (h:jx b t n f g w r wr) (hr:r<n):jx b t n f g w (r+1) (wr.setCell ⟨b,r,none⟩ (.int .u64 ((f r ||| g r:Nat)))).drew:=by
 refine⟨((h.row.set r _).congr fun j _=>?_).drew,⟨h.keeps.os,h.keeps.tape,h.keeps.output,by simpa using h.keeps.size,fun k h1 h2=>?_⟩,by simp[h.size]⟩
 ·by_cases e:j=r
  ·subst e;simp
  ·rw[if_neg e]
   by_cases hl:j<r
   ·rw[if_pos hl,if_pos (by omega)]
   ·rw[if_neg hl,if_neg (by omega)]
 ·show (wr.setCell _ _).heap[k]?=_
  rw[heap_setCell_other _ _ _ _ h2]
  exact h.keeps.block k h1 h2
theorem KY (b n c:Nat) (t:TypeId) (f:Nat→Nat) (i:Nat) (w:World) (hi:i / 64<n) (VS:i<1000000) (hc:w.rowIs b t n (fun j=>.int .u64 (f j))) (hf:∀j,f j<2 ^ 64):
  Calls Tryz.prog 167 #[.slice (some ⟨b,0,none⟩) n c,.int .i64 i] w fun e w'=>e=.returned (.tuple #[])∧w'=(w.setCell ⟨b,i / 64,none⟩ (.int .u64 ((f (i / 64) ||| 2 ^ (i % 64):Nat)))).drew:=by
 have h1:w.cell? ⟨b,i / 64,none⟩=some (.int .u64 (f (i / 64))):=hc.cell hi
 have h2:w.frozen? ⟨b,i / 64,none⟩=false:=hc.frozen _
 have q:=PI i VS
 have r:=PJ i
 go_enter Tryz.func167,Tryz.ntmps167
 go_wp2
 go_big_region
 rw[Ru _ _ (hf _) (Nat.mod_lt _ (by omega))]
 go_end0
 exact⟨rfl,rfl⟩
theorem GN (b b2 n c c2 n2:Nat) (t:TypeId) (f g:Nat→Nat) (w:World) (hn:n≤n2) (hnb:n≤1000000) (hc:w.rowIs b t n (fun j=>.int .u64 (f j))) (hg:∀j,j<n→w.cell? ⟨b2,j,none⟩=some (.int .u64 (g j)))
  (hf:∀j,f j<2 ^ 64) (hg2:∀j,g j<2 ^ 64) (hs:b=b2→∀j,f j=g j):
  Calls Tryz.prog 168 #[.slice (some ⟨b,0,none⟩) n c,.slice (some ⟨b2,0,none⟩) n2 c2] w fun e w'=>e=.returned (.tuple #[])∧jx b t n f g w n w':=by
 go_enter Tryz.func168,Tryz.ntmps168
 go_wp2
 go_loopg [4,7] n (fun k s4 s7 wr=>∃r:Nat,r≤n∧k=n-r∧s7=.int .i64 r∧jx b t n f g w r wr)
 case atStart=>exact⟨0,Nat.zero_le _,rfl,rfl,jx.start hc⟩
 case round=>
  obtain⟨r,hr,rfl,rfl,hJ⟩:=hrel
  by_cases RS:r<n
  ·have YL:(r:Int)<(n:Int):=by omega
   have h1:wr.cell? ⟨b,r,none⟩=some (.int .u64 (f r)):=hJ.here RS
   have h2:wr.frozen? ⟨b,r,none⟩=false:=hJ.row.frozen r
   have h3:wr.cell? ⟨b2,r,none⟩=some (.int .u64 (g r)):=hJ.there RS hs (hg r RS)
   have h4:=bits_or_u64_nat (f r) (g r) (hf r) (hg2 r)
   go_wp2
   go_big_region
   go_wp2
   go_roundg (n-(r+1))
   case measure=>go_light;omega
   case rel=>go_light;exact⟨r+1,by omega,rfl,by simp,hJ.step RS⟩
  ·have YL:¬((r:Int)<(n:Int)):=by omega
   go_wp2
   go_end0
   obtain rfl:r=n:=by omega
   exact⟨rfl,hJ⟩
abbrev ZZ:=Nat→Nat→Nat
def KZ (Z:ZZ) (a b:Nat):Bool:=(Z a (b / 64)).testBit (b % 64)
def GO (Z:ZZ) (a b:Nat):ZZ:=fun r c=>if r=a∧c=b / 64 then Z a (b / 64) ||| 2 ^ (b % 64) else Z r c
def dv (P:Nat→Nat×Nat):Nat→ZZ
 |0=>fun _ _=>0
 |m+1=>GO (dv P m) (P m).1 (P m).2
def wQ (Z:ZZ) (i k:Nat):ZZ:=fun r c=>if r=i then Z i c ||| Z k c else Z r c
def DO (k i:Nat) (Z:ZZ):ZZ:=if KZ Z i k then wQ Z i k else Z
def ze (k:Nat):Nat→ZZ→ZZ
 |0,Z=>Z
 |i+1,Z=>DO k i (ze k i Z)
def iQ (n:Nat):Nat→ZZ→ZZ
 |0,Z=>Z
 |k+1,Z=>ze k n (iQ n k Z)
def cm (Z:ZZ):Prop:=∀r c,Z r c<2 ^ 64
theorem cm.put {Z:ZZ} (h:cm Z) (a b:Nat):cm (GO Z a b):=fun r c=>by
 unfold GO
 split
 ·exact Nat.or_lt_two_pow (h _ _) (Nat.pow_lt_pow_right (by omega) (Nat.mod_lt _ (by omega)))
 ·exact h r c
theorem cm.OO (P:Nat→Nat×Nat):∀m,cm (dv P m)
 |0=>fun _ _=>by simp[dv]
 |m+1=>(cm.OO P m).put _ _
theorem cm.join {Z:ZZ} (h:cm Z) (i k:Nat):cm (wQ Z i k):=fun r c=>by
 unfold wQ
 split
 ·exact Nat.or_lt_two_pow (h _ _) (h _ _)
 ·exact h r c
theorem cm.row {Z:ZZ} (h:cm Z) (k i:Nat):cm (DO k i Z):=by
 unfold DO;split
 ·exact h.join _ _
 ·exact h
theorem cm.YM {Z:ZZ} (h:cm Z) (k:Nat):∀i,cm (ze k i Z)
 |0=>h
 |i+1=>(cm.YM h k i).row _ _
theorem cm.YN {Z:ZZ} (h:cm Z) (n:Nat):∀k,cm (iQ n k Z)
 |0=>h
 |k+1=>(cm.YN h n k).YM _ _
def yL (N K r:Nat):Nat→Value:=fun j=>if j<r then .slice (some ⟨N+1+j,0,none⟩) K K else .slice none 0 0
structure cg (w wr:World) (n K r:Nat) (Z:ZZ):Prop where
 since:w.Since w.heap.size wr
 size:w.heap.size+1+r≤wr.heap.size
 top:wr.rowIs w.heap.size 192 n (yL w.heap.size K r)
 rows:∀j,j<r→wr.rowIs (w.heap.size+1+j) 262 K (fun c=>.int .u64 (Z j c))
theorem cg.start (w:World) (n K:Nat) (Z:ZZ):cg w (w.alloc (.cells (madeCells #[.slice none 0 0] n) 192)) n K 0 Z:=
 ⟨(World.Since.refl _ _).alloc (Nat.le_refl _) _,by simp,(World.rowIs_made w _ n 192).congr (fun j _=>by simp[yL]),fun j hj=>absurd hj (Nat.not_lt_zero _)⟩
theorem cg.more {w wr:World} {n K r:Nat} (h:cg w wr n K r (fun _ _=>0)) (hs:wr.heap.size=w.heap.size+1+r):
  cg w ((wr.alloc (.cells (madeCells #[.int .u64 0] K) 262)).setCell ⟨w.heap.size,r,none⟩ (.slice (some ⟨w.heap.size+1+r,0,none⟩) K K)) n K (r+1) (fun _ _=>0):=by
 have mw:=World.rowIs_made wr (.int .u64 0) K 262
 rw[hs] at mw
 refine⟨(h.since.alloc (by rw[hs];omega) _).setCell (Nat.le_refl _) _,by simp[hs];omega,((h.top.alloc _).set r _).congr (fun j _=>?_),fun j hj=>?_⟩
 ·simp only[yL]
  by_cases e:j=r
  ·subst e;simp
  ·rw[if_neg e]
   by_cases al:j<r
   ·rw[if_pos al,if_pos (by omega)]
   ·rw[if_neg al,if_neg (by omega)]
 ·by_cases e:j=r
  ·subst e
   exact(mw.setOther (by show w.heap.size+1+j≠w.heap.size;omega) _).congr (fun i _=>by simp)
  ·exact((h.rows j (by omega)).alloc _).setOther (by show w.heap.size+1+j≠w.heap.size;omega) _
theorem cg.sized {w wr:World} {n K r:Nat} (hs:wr.heap.size=w.heap.size+1+r):((wr.alloc (.cells (madeCells #[.int .u64 0] K) 262)).setCell ⟨w.heap.size,r,none⟩ (.slice (some ⟨w.heap.size+1+r,0,none⟩) K K)).heap.size=w.heap.size+1+(r+1):=by simp[hs];omega
theorem cg.alloc {w wr:World} {n K r:Nat} {Z:ZZ} (h:cg w wr n K r Z) (o:Obj):cg w (wr.alloc o) n K r Z:=
 ⟨h.since.alloc (by have:=h.size;omega) _,by have:=h.size;simp;omega,h.top.alloc _,fun j hj=>(h.rows j hj).alloc _⟩
theorem cg.drew {w wr:World} {n K r:Nat} {Z:ZZ} (h:cg w wr n K r Z):cg w wr.drew n K r Z:=⟨h.since.drew,h.size,h.top.drew,fun j hj=>(h.rows j hj).drew⟩
theorem cg.put {w wr:World} {n K r a b:Nat} {Z:ZZ} (h:cg w wr n K r Z) (ha:a<r):cg w (wr.setCell ⟨w.heap.size+1+a,b / 64,none⟩ (.int .u64 ((Z a (b / 64) ||| 2 ^ (b % 64):Nat)))) n K r (GO Z a b):=by
 refine⟨h.since.setCell (by show w.heap.size≤w.heap.size+1+a;omega) _,by simpa using h.size,h.top.setOther (by show w.heap.size≠w.heap.size+1+a;omega) _,fun j hj=>?_⟩
 by_cases e:j=a
 ·subst e
  refine((h.rows j hj).set (b / 64) _).congr fun i _=>?_
  unfold GO
  by_cases e2:i=b / 64
  ·subst e2;simp
  ·simp[e2]
 ·refine((h.rows j hj).setOther (by show w.heap.size+1+j≠w.heap.size+1+a;omega) _).congr fun i _=>?_
  unfold GO
  simp[e]
theorem cg.join {w wr wx:World} {n K r a b:Nat} {t:TypeId} {Z:ZZ} (h:cg w wr n K r Z) (ha:a<r) (hb:b<r) (hJ:jx (w.heap.size+1+a) t K (Z a) (Z b) wr K wx) (ht:t=262):cg w wx n K r (wQ Z a b):=by
 subst ht
 have bT:∀k,k<wr.heap.size→k≠w.heap.size+1+a→wx.heap[k]?=wr.heap[k]?:=fun k h1 h2=>hJ.keeps.block k h1 h2
 have hs:=h.size
 refine⟨⟨hJ.keeps.os.trans h.since.os,hJ.keeps.tape.trans h.since.tape,hJ.keeps.output.trans h.since.output,by rw[hJ.size];exact h.since.size,fun k hk=>by rw[bT k (by omega) (by omega)];exact h.since.block k hk⟩,
  by rw[hJ.size];exact h.size,h.top.of_block (bT _ (by omega) (by omega)),fun j hj=>?_⟩
 by_cases e:j=a
 ·subst e
  refine hJ.row.congr fun i hi=>?_
  simp[wQ,hi]
 ·refine((h.rows j hj).of_block (bT _ (by omega) (by omega))).congr fun i _=>?_
  simp[wQ,e]
theorem cg.cell {w wr:World} {n K r:Nat} {Z:ZZ} (h:cg w wr n K r Z) {a:Nat} (ha:a<r) (hn:a<n):wr.cell? ⟨w.heap.size,a,none⟩=some (.slice (some ⟨w.heap.size+1+a,0,none⟩) K K):=by
 rw[h.top.cell hn,yL,if_pos ha]
set_option maxHeartbeats 6400000 in
set_option maxRecDepth 1000000 in
theorem GQ (pb rb n m pc B O K:Nat) (hKe:K=(n+63) / 64) (pA:Option Addr) (P:Nat→Nat×Nat) (x6:Value) (w:World) (hp:w.cell? ⟨pb,0,none⟩=some (.pointer (some ⟨rb,0,none⟩))) (h0:w.cell? ⟨rb,0,none⟩=some (.int .i64 n))
  (h1:w.cell? ⟨rb,1,none⟩=some (.slice pA m pc)) (hA:0<m→pA=some ⟨B,O,none⟩) (hP:∀i,i<m→w.cell? ⟨B,O+i*2,none⟩=some (.int .i64 (P i).1)∧w.cell? ⟨B,O+i*2+1,none⟩=some (.int .i64 (P i).2))
  (hn:n≤1000) (hm:m≤1000000) (Vi:∀i,i<m→(P i).1<n∧(P i).2<n) (h6:w.cell? ⟨rb,6,none⟩=some x6) (f6:w.frozen? ⟨rb,6,none⟩=false):
  Calls Tryz.prog 166 #[.pointer (some ⟨pb,0,none⟩)] w fun e w'=>e=.returned (.tuple #[])∧∃wr,cg w wr n K n (iQ n n (dv P m))∧w'=wr.setCell ⟨rb,6,none⟩ (.slice (some ⟨w.heap.size,0,none⟩) n n):=by
 have YO:=run_make_row' (P:=Tryz.prog) 142 192 (.slice none 0 0) 24 Tryz.underlying142 (by kernel_rfl) rfl .i64 .i64 n (by omega) (by omega)
 have hK:((n:Int)+64-1) / 64=(K:Int):=by omega
 have Zy:K≤16:=by omega
 have ZN:pb<w.heap.size:=World.block_lt_of_cell? _ _ hp
 have RT:rb<w.heap.size:=World.block_lt_of_cell? _ _ h0
 clear hKe
 go_enter Tryz.func166,Tryz.ntmps166
 go_wp2
 clear YO
 go_loopg [2,14] n (fun g s2 i wr=>∃r:Nat,r≤n∧g=n-r∧i=.int .i64 r∧cg w wr n K r (fun _ _=>0)∧wr.heap.size=w.heap.size+1+r)
 case atStart=>exact⟨0,Nat.zero_le _,rfl,rfl,cg.start w n _ _,by simp⟩
 case round=>
  obtain⟨r,hr,rfl,rfl,hO,bE⟩:=hrel
  have g0:wr.cell? ⟨pb,0,none⟩=some (.pointer (some ⟨rb,0,none⟩)):=by rw[hO.since.cell (a:=⟨pb,0,none⟩) ZN];exact hp
  by_cases RS:r<n
  ·have YL:(r:Int)<(n:Int):=by omega
   have g1:wr.cell? ⟨rb,0,none⟩=some (.int .i64 n):=by rw[hO.since.cell (a:=⟨rb,0,none⟩) RT];exact h0
   have abj:∀o,(wr.alloc o).cell? ⟨w.heap.size,r,none⟩=some (yL w.heap.size K r r):=fun o=>(hO.top.alloc o).cell RS
   have abk:∀o,(wr.alloc o).frozen? ⟨w.heap.size,r,none⟩=false:=fun o=>(hO.top.alloc o).frozen r
   have abl:=run_make_row' (P:=Tryz.prog) 192 262 (.int .u64 0) 8 Tryz.underlying192 (by kernel_rfl) rfl .i64 .i64 K (by omega) (by omega)
   have ua:=hO.more bE
   have ZO:=cg.sized (n:=n) (K:=K) bE
   have hH:Aside (cg w ((wr.alloc (.cells (madeCells #[.int .u64 0] K) 262)).setCell ⟨w.heap.size,r,none⟩ (.slice (some ⟨w.heap.size+1+r,0,none⟩) K K)) n K (r+1) (fun _ _=>0)∧((wr.alloc (.cells (madeCells #[.int .u64 0] K) 262)).setCell ⟨w.heap.size,r,none⟩ (.slice (some ⟨w.heap.size+1+r,0,none⟩) K K)).heap.size=w.heap.size+1+(r+1)):=⟨ua,ZO⟩
   clear ua ZO hO
   go_wp2
   go_roundg (n-(r+1))
   case measure=>go_light;omega
   case rel=>go_light;exact⟨r+1,by omega,rfl,by simp,hH.out.1,hH.out.2⟩
  ·have YL:¬((r:Int)<(n:Int)):=by omega
   obtain rfl:r=n:=by omega
   have g2:wr.cell? ⟨rb,1,none⟩=some (.slice pA m pc):=by rw[hO.since.cell (a:=⟨rb,1,none⟩) RT];exact h1
   have H0:Aside (cg w wr r K r (fun _ _=>0)):=hO
   clear hO bE
   go_wp2
   clear g0 g2
   go_loopg [4,34] m (fun g s4 i wx=>∃q:Nat,q≤m∧g=m-q∧i=.int .i64 q∧cg w wx r K r (dv P q))
   case atStart=>exact⟨0,Nat.zero_le _,rfl,rfl,H0.out⟩
   case round=>
    obtain⟨q,hq,rfl,rfl,hO⟩:=hrel
    by_cases Vj:q<m
    ·obtain rfl:=hA (by omega)
     have hqz:(q:Int)<(m:Int):=by omega
     have hB:B<w.heap.size:=World.block_lt_of_cell? _ _ (hP q Vj).1
     have g3:wr.cell? ⟨B,O+q*2,none⟩=some (.int .i64 (P q).1):=by rw[hO.since.cell (a:=⟨B,O+q*2,none⟩) hB];exact(hP q Vj).1
     have g4:wr.cell? ⟨B,O+q*2+1,none⟩=some (.int .i64 (P q).2):=by rw[hO.since.cell (a:=⟨B,O+q*2+1,none⟩) hB];exact(hP q Vj).2
     have eG:=(Vi q Vj).1
     have nr:=(Vi q Vj).2
     have bU:=((hO.alloc (.cells #[.int .i64 (P q).1,.int .i64 (P q).2] 90)).rows (P q).1 eG)
     have g5:∀o,(wr.alloc o).cell? ⟨w.heap.size,(P q).1,none⟩=some (.slice (some ⟨w.heap.size+1+(P q).1,0,none⟩) K K):=fun o=>(hO.alloc o).cell eG eG
     have YP:=KY (w.heap.size+1+(P q).1) K K 262 (dv P q (P q).1) (P q).2 _ (by omega) (by omega) bU.drew ((cm.OO P q) _)
     have bC:=((hO.alloc (.cells #[.int .i64 (P q).1,.int .i64 (P q).2] 90)).drew.put (b:=(P q).2) eG).drew
     have hN:Aside (cg w (((wr.alloc (.cells #[.int .i64 (P q).1,.int .i64 (P q).2] 90)).drew.setCell ⟨w.heap.size+1+(P q).1,(P q).2 / 64,none⟩ (.int .u64 ((dv P q (P q).1 ((P q).2 / 64) ||| 2 ^ ((P q).2 % 64):Nat)))).drew) r K r (dv P (q+1))):=bC
     clear bC bU hO
     go_wp2
     go_region_with (go_at_call 167;refine YP.mono ?_;rintro e w' ⟨rfl,rfl⟩)
     all_goals
      (go_wp2
       go_roundg (m-(q+1))
       case measure=>go_light;omega
       case rel=>go_light;exact⟨q+1,by omega,rfl,by simp,hN.out⟩)
    ·have hqz:¬((q:Int)<(m:Int)):=by omega
     obtain rfl:q=m:=by omega
     clear H0 hP hA Vi
     have H1:Aside (cg w wr r K r (iQ r 0 (dv P q))):=hO
     clear hO
     go_wp2
     go_loopg [5,49] r (fun g s5 i wx=>∃k:Nat,k≤r∧g=r-k∧i=.int .i64 k∧cg w wx r K r (iQ r k (dv P q)))
     case atStart=>exact⟨0,Nat.zero_le _,rfl,rfl,H1.out⟩
     case round=>
      obtain⟨k,hk,rfl,rfl,hO⟩:=hrel
      by_cases Eo:k<r
      ·have hkz:(k:Int)<(r:Int):=by omega
       have H2:Aside (cg w wr r K r (ze k 0 (iQ r k (dv P q)))):=hO
       clear hO
       go_wp2
       go_loopg [6,54] r (fun g s6 i wx=>∃j:Nat,j≤r∧g=r-j∧i=.int .i64 j∧cg w wx r K r (ze k j (iQ r k (dv P q))))
       case atStart=>exact⟨0,Nat.zero_le _,rfl,rfl,H2.out⟩
       case round=>
        obtain⟨j,hj,rfl,rfl,hO⟩:=hrel
        by_cases Vk:j<r
        ·have Y5:(j:Int)<(r:Int):=by omega
         have nT:cm (ze k j (iQ r k (dv P q))):=cm.YM (cm.YN (cm.OO P q) r k) k j
         have g6:=hO.cell Vk Vk
         have g7:=hO.cell Eo Eo
         have Vl:=BP (w.heap.size+1+j) 0 K K (ze k j (iQ r k (dv P q)) j) k wr (by omega) (by omega) (fun i hi=>by rw[Nat.zero_add];exact(hO.rows j Vk).cell hi) (nT j)
         have PK:=GN (w.heap.size+1+j) (w.heap.size+1+k) K K K K 262 (ze k j (iQ r k (dv P q)) j) (ze k j (iQ r k (dv P q)) k) wr.drew (Nat.le_refl _) (by omega) (hO.rows j Vk).drew (fun i hi=>(hO.rows k Eo).drew.cell hi) (nT j) (nT k) (fun e i=>by rw[show j=k by omega])
         have hA1:Aside (KZ (ze k j (iQ r k (dv P q))) j k=false→cg w wr r K r (ze k (j+1) (iQ r k (dv P q)))):=fun hb=>by
          show cg w wr r K r (DO k j _)
          rw[DO,hb];exact hO
         have hA2:Aside (KZ (ze k j (iQ r k (dv P q))) j k=true→∀wx,jx (w.heap.size+1+j) 262 K (ze k j (iQ r k (dv P q)) j) (ze k j (iQ r k (dv P q)) k) wr.drew K wx→cg w wx r K r (ze k (j+1) (iQ r k (dv P q)))):=fun hb wx hJ=>by
          show cg w wx r K r (DO k j _)
          rw[DO,hb];exact hO.drew.join Vk Eo hJ rfl
         clear hO nT
         cases hb:KZ (ze k j (iQ r k (dv P q))) j k
         ·have ec:(ze k j (iQ r k (dv P q)) j (k / 64)).testBit (k % 64)=false:=hb
          clear PK
          go_wp2_with (go_at_call 119;refine Vl.mono ?_;rintro e w' ⟨rfl,rfl⟩)
          go_roundg (r-(j+1))
          case measure=>go_light;omega
          case rel=>go_light;exact⟨j+1,by omega,rfl,by simp,hA1.out hb⟩
         ·have ec:(ze k j (iQ r k (dv P q)) j (k / 64)).testBit (k % 64)=true:=hb
          go_wp2_with (go_at_call 119;refine Vl.mono ?_;rintro e w' ⟨rfl,rfl⟩)
          go_region_with (go_at_call 168;refine PK.mono ?_;rintro e w' ⟨rfl,hJ⟩)
          all_goals
           (have hN:=hA2.out hb _ hJ
            go_wp2
            go_roundg (r-(j+1))
            case measure=>go_light;omega
            case rel=>go_light;exact⟨j+1,by omega,rfl,by simp,hN⟩)
        ·have Y5:¬((j:Int)<(r:Int)):=by omega
         obtain rfl:j=r:=by omega
         have H3:Aside (cg w wr j K j (iQ j (k+1) (dv P q))):=hO
         clear hO
         go_wp2
         go_roundg (j-(k+1))
         case measure=>go_light;omega
         case rel=>go_light;exact⟨k+1,by omega,rfl,by simp,H3.out⟩
      ·have hkz:¬((k:Int)<(r:Int)):=by omega
       obtain rfl:k=r:=by omega
       have g0:wr.cell? ⟨pb,0,none⟩=some (.pointer (some ⟨rb,0,none⟩)):=by rw[hO.since.cell (a:=⟨pb,0,none⟩) ZN];exact hp
       have g6:wr.cell? ⟨rb,6,none⟩=some x6:=by rw[hO.since.cell (a:=⟨rb,6,none⟩) RT];exact h6
       have gf:wr.frozen? ⟨rb,6,none⟩=false:=by rw[hO.since.frozen (a:=⟨rb,6,none⟩) RT];exact f6
       have H4:Aside (cg w wr k K k (iQ k k (dv P q))):=hO
       clear hO
       go_wp2
       go_end0
       exact⟨rfl,wr,H4.out,rfl⟩
structure Rk where
 n:Nat
 ps:List (Int×Int)
 ke:List (Int×Value)
 kt:List AV
def Rk.Ok (R:Rk):Prop:=R.n≤1000∧R.ps.length≤1000∧∀p∈R.ps,(0≤p.1∧p.1<R.n)∧(0≤p.2∧p.2<R.n)
def bd (l:List (Int×Int)):List AV:=l.map fun p=>.agg [nI p.1,nI p.2]
def Rk.P (R:Rk):Nat→Nat×Nat:=fun i=>((R.ps.getD i (0,0)).1.toNat,(R.ps.getD i (0,0)).2.toNat)
def Rk.Z (R:Rk):ZZ:=iQ R.n R.n (dv R.P R.ps.length)
def BQ (n K:Nat) (Z:ZZ):List AV:=(List.range n).map fun j=>.sl ((List.range K).map fun c=>.ae (.int .u64 (Z j c)))
def Rk.rows (R:Rk):List AV:=BQ R.n ((R.n+63) / 64) R.Z
theorem qh (n K:Nat) (Z:ZZ):(BQ n K Z).length=n:=by simp[BQ]
theorem K0 {w:World} {F:Nat→Nat→Prop} {η:List Value} {hp:List af} {q:Nat} {cs cs':List AV} (aI:nW w F η hp) (hq:hp[q]?=some (.box cs)) {b o:Nat} (hb:w.heap.size≤b):gW η (hp.set q (.box cs')) b o:=by
 refine(aN b o).2 fun r v h1 h2=>?_
 have hr:r<hp.length:=by rw[←aI.heap.len];exact(List.getElem?_eq_some_iff.1 h1).1
 by_cases hl:(hp[r]).live
 ·have:=aI.live b ⟨r,_,v,List.getElem?_eq_getElem hr,hl,h1,h2⟩
  omega
 ·have hd:hp[r]?=some .dead:=by
   rw[List.getElem?_eq_getElem hr]
   cases h:hp[r]<;>rw[h] at hl<;>first|rfl|exact(hl True.intro).elim
  refine⟨.dead,?_,True.intro⟩
  have:q≠r:=fun e=>by subst e;rw[hq] at hd;cases hd
  rw[List.getElem?_set,if_neg this];exact hd
theorem K1 {w':World} {F':Nat→Nat→Prop} {η:List Value} {hp:List af} {N n K:Nat} {Z:ZZ} {t t2:TypeId} (Vm:w'.rowIs N t n (yL N K n)) (PL:∀j,j<n→w'.rowIs (N+1+j) t2 K (fun c=>.int .u64 (Z j c)))
  (hF:∀b o,N≤b→b<w'.heap.size→F' b o) (hn:n≤1000) (hK:K≤1000):aV w' F' η hp (.sl (BQ n K Z)) (.slice (some ⟨N,0,none⟩) n n):=by
 have Rv:∀(i:Nat) (e:AV),(BQ n K Z)[i]?=some e→i<n∧e=.sl ((List.range K).map fun c=>.ae (.int .u64 (Z i c))):=fun i e h=>by
  have hi:i<n:=by have:=(List.getElem?_eq_some_iff.1 h).1;rwa [qh] at this
  refine⟨hi,?_⟩
  simp[BQ,hi] at h
  exact h.symm
 have:=aV.sl (w:=w') (F:=F') (η:=η) (hp:=hp) 1 (BQ n K Z) N 0 n (fun i _=>yL N K n i) (by rw[qh];exact Nat.le_refl _) (by unfold maxLen;omega) (fun i e h=>by rw[(Rv i e h).2];rfl) (fun i e j x h hx=>?_) (fun i e j x h hx=>?_)
 ·rwa [qh] at this
 ·obtain⟨hi,rfl⟩:=Rv i e h
  have hj:j=0:=by have:=(List.getElem?_eq_some_iff.1 hx).1;simp[AV.cells] at this;omega
  subst hj
  refine⟨by rw[show 0+i*1+0=i by omega];exact Vm.cell hi,hF _ _ (Nat.le_refl _) Vm.lt,?_⟩
  rw[yL,if_pos hi];rfl
 ·obtain⟨hi,rfl⟩:=Rv i e h
  have hj:j=0:=by have:=(List.getElem?_eq_some_iff.1 hx).1;simp[AV.cells] at this;omega
  subst hj
  cases hx
  rw[yL,if_pos hi]
  have Rx:∀(c:Nat) (e:AV),((List.range K).map fun c=>AV.ae (.int .u64 (Z i c)))[c]?=some e→c<K∧e=.ae (.int .u64 (Z i c)):=fun c e h=>by
   have hc:c<K:=by have:=(List.getElem?_eq_some_iff.1 h).1;simpa using this
   refine⟨hc,?_⟩
   simp[hc] at h
   exact h.symm
  have:=aV.sl (w:=w') (F:=F') (η:=[]) (hp:=[]) 1 ((List.range K).map fun c=>AV.ae (.int .u64 (Z i c))) (N+1+i) 0 K (fun c _=>.int .u64 (Z i c)) (by simp) (by unfold maxLen;omega) (fun c e h=>by rw[(Rx c e h).2];rfl) (fun c e j x h hx=>?_) (fun c e j x h hx=>?_)
  ·rwa [List.length_map,List.length_range] at this
  ·obtain⟨hc,rfl⟩:=Rx c e h
   have hj:j=0:=by have:=(List.getElem?_eq_some_iff.1 hx).1;simp[AV.cells] at this;omega
   subst hj
   exact⟨by rw[show 0+c*1+0=c by omega];exact(PL i hi).cell hc,hF _ _ (by omega) (PL i hi).lt,rfl⟩
  ·obtain⟨hc,rfl⟩:=Rx c e h
   have hj:j=0:=by have:=(List.getElem?_eq_some_iff.1 hx).1;simp[AV.cells] at this;omega
   subst hj
   cases hx
   exact .ae _
theorem BR {R:Rk} (hR:R.Ok) {d m s ka:Int} {kr:List AV}:bJ Tryz.prog 166 [.ptr 2 0] (iL R.ke R.n (bd R.ps) d m s kr ka R.kt++[.box [.ptr 1 0]])
  (fun r h=>r=.bc []∧h=iL R.ke R.n (bd R.ps) d m s R.rows ka R.kt++[.box [.ptr 1 0]]):=by
 obtain⟨hn,hl,IL⟩:=hR
 refine⟨⟨_,Tryz.func166,by kernel_rfl,by kernel_rfl⟩,fun w F η aR aI hv=>?_⟩
 match aR,hv with
 | [v0],⟨r0,_⟩=>
  obtain⟨pb,rfl,h2⟩:∃b,v0=.pointer (some ⟨b,0,none⟩)∧η[2]?=some (.pointer (some ⟨b,0,none⟩)):=by cases r0 with|ptr _ _ b h1=>exact⟨b,rfl,h1⟩
  obtain⟨b',Vg,T2,e1,e2,e3,e4⟩:=aI.heap.obj 2 _ _ rfl h2
  cases e1
  obtain⟨p0,rfl⟩:∃p0,Vg=#[p0]:=by
   match Vg,e3 with
   |⟨[c0]⟩,_=>exact⟨c0,rfl⟩
  obtain⟨rb,rfl,h1⟩:∃b,p0=.pointer (some ⟨b,0,none⟩)∧η[1]?=some (.pointer (some ⟨b,0,none⟩)):=by
   have:=(e4 0 _ _ rfl rfl).1
   cases this with|ptr _ _ b h1=>exact⟨b,rfl,h1⟩
  obtain⟨b',vs,T,g1,g2,g3,g4⟩:=aI.heap.obj 1 _ _ rfl h1
  cases g1
  have bE:vs.size=9:=g3
  have cell:∀k,(hk:k<9)→w.cell? ⟨rb,k,none⟩=some (vs[k]'(by omega)):=fun k hk=>by
   simp only[World.cell?,g2]
   rw[Array.getElem?_eq_getElem (by omega)];rfl
  have c0:vs[0]=.int .i64 R.n:=ep (g4 0 _ _ rfl (Array.getElem?_eq_getElem (by omega))).1
  have c1:aV w F η _ (.sl (bd R.ps)) vs[1]:=(g4 1 _ _ rfl (Array.getElem?_eq_getElem (by omega))).1
  obtain⟨pA,pc,B,O,Sp,hA,hP⟩:∃(pA:Option Addr) (pc B O:Nat),vs[1]=.slice pA R.ps.length pc∧(0<R.ps.length→pA=some ⟨B,O,none⟩)∧
    ∀i,i<R.ps.length→w.cell? ⟨B,O+i*2,none⟩=some (.int .i64 ((R.P i).1:Nat))∧w.cell? ⟨B,O+i*2+1,none⟩=some (.int .i64 ((R.P i).2:Nat)):=by
   generalize hvx:vs[1]=vx at c1
   cases I5:R.ps with
   |nil=>
    rw[I5] at c1
    cases c1 with
    |jN a=>exact⟨a,0,0,0,rfl,fun h=>absurd h (by simp),fun i h=>absurd h (by simp)⟩
    |sl size els b o c f _ _ _ _ _=>exact⟨some ⟨b,o,none⟩,c,b,o,rfl,fun _=>rfl,fun i h=>absurd h (by simp)⟩
   |cons p l=>
    rw[←I5]
    have bj:0<R.ps.length:=by rw[I5];simp
    have hlen:(bd R.ps).length=R.ps.length:=by simp[bd]
    generalize hE:bd R.ps=E at c1 hlen
    cases c1 with
    |jN a=>rw[←hlen] at bj;simp at bj
    |sl size els b o c f hc hm n7 aw cD=>
     refine⟨some ⟨b,o,none⟩,c,b,o,by rw[hlen],fun _=>rfl,fun i hi=>?_⟩
     have bO:E[i]?=some (.agg [nI (R.ps[i]).1,nI (R.ps[i]).2]):=by rw[←hE];simp[bd,hi]
     have O2:size=2:=(n7 i _ bO).symm
     subst O2
     have q0:=(aw i _ 0 _ bO rfl).1
     have q1:=(aw i _ 1 _ bO rfl).1
     have v0:=ep (cD i _ 0 _ bO rfl)
     have v1:=ep (cD i _ 1 _ bO rfl)
     have P6:=IL _ (List.getElem_mem hi)
     have eP:R.P i=((R.ps[i]).1.toNat,(R.ps[i]).2.toNat):=by simp[Rk.P,List.getD,hi]
     rw[eP]
     refine⟨?_,?_⟩
     ·rw[show o+i*2=o+i*2+0 from rfl,q0,v0]
      have:(((R.ps[i]).1.toNat:Nat):Int)=(R.ps[i]).1:=by omega
      simp only[this]
     ·rw[q1,v1]
      have:(((R.ps[i]).2.toNat:Nat):Int)=(R.ps[i]).2:=by omega
      simp only[this]
  have Vi:∀i,i<R.ps.length→(R.P i).1<R.n∧(R.P i).2<R.n:=fun i hi=>by
   have P6:=IL _ (List.getElem_mem hi)
   have eP:R.P i=((R.ps[i]).1.toNat,(R.ps[i]).2.toNat):=by simp[Rk.P,List.getD,hi]
   rw[eP];simp only;omega
  refine callsIn_wide.2 ((GQ pb rb R.n R.ps.length pc B O ((R.n+63) / 64) rfl pA R.P (vs[6]) w (by simp only[World.cell?,e2];rfl) (by rw[cell 0 (by omega),c0]) (by rw[cell 1 (by omega),Sp]) hA hP hn (by omega) Vi (cell 6 (by omega)) (by simp[World.frozen?,g2])).mono ?_)
  rintro e w' ⟨rfl,wr,hW,rfl⟩
  have RT:rb<w.heap.size:=aX g2
  have hwr:wr.heap[rb]?=some (.cells vs T (0,0)):=by rw[hW.since.block rb RT];exact g2
  have nO:=heap_setCell_same wr rb 6 vs T (.slice (some ⟨w.heap.size,0,none⟩) R.n R.n) hwr
  have j6:(wr.setCell ⟨rb,6,none⟩ (.slice (some ⟨w.heap.size,0,none⟩) R.n R.n)).heap.size=wr.heap.size:=by simp
  refine⟨_,.bc [],_,η,rfl,⟨rfl,rfl⟩,?_⟩
  refine uv (q:=1) (b:=rb) (vs':=vs.setIfInBounds 6 (.slice (some ⟨w.heap.size,0,none⟩) R.n R.n)) (T:=T) aI rfl h1 ⟨hW.since.os,hW.since.tape,hW.since.output,by rw[j6];have:=hW.size;omega,fun k iT Ck=>?_⟩ (by rw[j6];have:=hW.size;omega) nO (by simp[bE]) (fun bY j x u hx hu=>?_) (.bc [] #[] rfl fun j y u hy _=>by cases hy)
  ·rw[heap_setCell_other _ _ _ _ Ck];exact hW.since.block k iT
  ·rw[Array.getElem?_setIfInBounds] at hu
   by_cases hj:6=j
   ·subst hj
    rw[if_pos rfl,if_pos (by omega)] at hu
    cases hx;cases hu
    refine⟨?_,rfl⟩
    have bj:∀k,w.heap.size≤k→k≠rb:=fun k hk=>by omega
    exact K1 (hW.top.setOther (bj _ (Nat.le_refl _)) _) (fun j hj=>(hW.rows j hj).setOther (bj _ (by omega)) _) (fun b o vt PG=>⟨.inr (.inl vt),PG,K0 aI rfl vt⟩) hn (by omega)
   ·rw[if_neg hj] at hu
    have YH:(iL R.ke R.n (bd R.ps) d m s kr ka R.kt)[1]?=some (.box [nI R.n,.sl (bd R.ps),.mp 0,.ae (.int .u32 d),.ae (.int .i32 m),.ae (.int .u32 s),.sl kr,nI ka,.sl R.kt]):=rfl
    have hx3:[nI (R.n:Int),.sl (bd R.ps),.mp 0,.ae (.int .u32 d),.ae (.int .i32 m),.ae (.int .u32 s),.sl kr,nI ka,.sl R.kt][j]?=some x:=by
     match j,hj,hx with
     |0,_,h=>exact h
     |1,_,h=>exact h
     |2,_,h=>exact h
     |3,_,h=>exact h
     |4,_,h=>exact h
     |5,_,h=>exact h
     |7,_,h=>exact h
     |8,_,h=>exact h
     |_+9,_,h=>simp at h
    have:=g4 j x u hx3 hu
    exact⟨this.1.ext bY,this.2⟩
def K2 (R:Rk) (h:List af):Prop:=∃(d s ka:Int) (kr:List AV),h=iL R.ke R.n (bd R.ps) d 0 s kr ka R.kt∧(d=0∨¬d=0∧kr=R.rows)
theorem DP {R:Rk} (hR:R.Ok) {h:List af} (hs:K2 R h):bJ Tryz.prog 118 [.ptr 1 0] h (fun r q=>r=.sl R.rows∧K2 R q):=by
 obtain⟨d,s,ka,kr,rfl,hd⟩:=hs
 refine Kh ⟨_,uw (R:=fun r q=>r=nI (IntKind.wrap .i64 (ka+1))∧q=iL R.ke R.n (bd R.ps) d 0 s kr (IntKind.wrap .i64 (ka+1)) R.kt) ⟨rfl,rfl⟩,fun r q ⟨e1,e2⟩=>⟨_,_,_,_,_,_,_,_,_,_,⟨e1,e2⟩,?_⟩⟩
 rcases hd with rfl|⟨hd,rfl⟩
 ·have hdo:=nd (q:=1) (off:=3) (f:=166) (caps:=[.ptr 2 0]) (H:=iL R.ke R.n (bd R.ps) 0 0 s kr (IntKind.wrap .i64 (ka+1)) R.kt++[.box [.ptr 1 0]])
   (cs:=[nI R.n,.sl (bd R.ps),.mp 0,.ae (.int .u32 0),.ae (.int .i32 0),.ae (.int .u32 s),.sl kr,nI (IntKind.wrap .i64 (ka+1)),.sl R.kt])
   (R:=fun r h=>r=.bc []∧h=iL R.ke R.n (bd R.ps) 0 1 s R.rows (IntKind.wrap .i64 (ka+1)) R.kt++[.box [.ptr 1 0]]) rfl rfl rfl
   (by exact BR hR (d:=0) (m:=1) (s:=s) (ka:=IntKind.wrap .i64 (ka+1)) (kr:=kr)) (fun r h ⟨e1,e2⟩=>by subst e2;exact⟨e1,_,rfl,rfl,rfl⟩)
  refine⟨_,hdo,?_⟩
  rintro r q ⟨rfl,h,cs',⟨-,rfl⟩,hq,rfl⟩
  cases hq
  exact⟨_,_,_,_,_,_,_,_,_,⟨rfl,rfl⟩,rfl,_,_,_,_,rfl,.inr ⟨by decide,rfl⟩⟩
 ·refine⟨_,nf (q:=1) (off:=3) (caps:=[.ptr 2 0]) (H:=iL R.ke R.n (bd R.ps) d 0 s R.rows (IntKind.wrap .i64 (ka+1)) R.kt++[.box [.ptr 1 0]]) (cs:=[nI R.n,.sl (bd R.ps),.mp 0,.ae (.int .u32 d),.ae (.int .i32 0),.ae (.int .u32 s),.sl R.rows,nI (IntKind.wrap .i64 (ka+1)),.sl R.kt]) rfl rfl hd,?_⟩
  rintro r q ⟨rfl,rfl⟩
  exact⟨_,_,_,_,_,_,_,_,_,⟨rfl,rfl⟩,rfl,_,_,_,_,rfl,.inr ⟨hd,rfl⟩⟩
theorem DQ {K:Nat} {f:Nat→Nat} (hf:∀c,f c<2 ^ 64) {b:Nat} (hb:b / 64<K) (hl:b<1000000):ag Tryz.prog 119 [.sl ((List.range K).map fun c=>.ae (.int .u64 (f c))),nI b] (nB ((f (b / 64)).testBit (b % 64))):=by
 refine⟨⟨_,Tryz.func119,by kernel_rfl,by kernel_rfl⟩,fun w F aR hF hg hv=>?_⟩
 match aR,hv with
 | [v0,v1],⟨r0,r1,_⟩=>
  obtain rfl:=ep r1
  have bO:∀c,c<K→((List.range K).map fun c=>AV.ae (.int .u64 (f c)))[c]?=some (.ae (.int .u64 (f c))):=fun c hc=>by simp[hc]
  generalize hE:((List.range K).map fun c=>AV.ae (.int .u64 (f c)))=E at r0 bO
  have hlen:E.length=K:=by rw[←hE];simp
  cases r0 with
  |jN a=>simp at hlen;omega
  |sl size els g o c fn hc hm n7 aw cD=>
   have RG:size=1:=(n7 _ _ (bO _ hb)).symm
   subst RG
   rw[hlen]
   refine callsIn_wide.2 ((BP g o K c f b w hb hl (fun j hj=>?_) hf).mono ?_)
   ·have q0:=(aw j _ 0 _ (bO j hj) rfl).1
    rw[show o+j*1+0=o+j by omega,ep (cD j _ 0 _ (bO j hj) rfl)] at q0
    exact q0
   ·rintro e w' ⟨rfl,rfl⟩
    exact⟨_,_,rfl,rfl,bt.refl _,.ae _⟩
def Rk.qi (R:Rk) (a b:Int):Bool:=decide (0≤a∧a<R.n∧0≤b∧b<R.n)&&KZ R.Z a.toNat b.toNat
theorem Rk.small (R:Rk):cm R.Z:=cm.YN (cm.OO _ _) _ _
theorem rW {R:Rk} (hR:R.Ok) {h:List af} (hs:K2 R h) (a b:Int):bJ Tryz.prog 70 [.ptr 1 0,nI a,nI b] h (fun r q=>r=nB (R.qi a b)∧K2 R q):=by
 have bU:=DP hR hs
 have OZ:=hs
 obtain⟨d,s,ka,kr,rfl,hd⟩:=hs
 have bad:¬(0≤a∧a<R.n∧0≤b∧b<R.n)→nB false=nB (R.qi a b):=fun h=>by rw[Rk.qi,decide_eq_false h];rfl
 refine NV (ak.intro (fun h=>⟨bad (by simp at h;omega),OZ⟩) fun h1=>ak.intro (fun h=>⟨bad (by simp at h;omega),OZ⟩) fun h2=>ak.intro (fun h=>⟨bad (by simp at h;omega),OZ⟩) fun h3=>ak.intro (fun h=>⟨bad (by simp at h;omega),OZ⟩) fun h4=>?_)
 have g1:0≤a:=by simpa using h1
 have g2:a<R.n:=by simpa using h2
 have g3:0≤b:=by simpa using h3
 have g4:b<R.n:=by simpa using h4
 obtain⟨u,rfl⟩:∃u:Nat,a=u:=⟨a.toNat,by omega⟩
 obtain⟨v,rfl⟩:∃v:Nat,b=v:=⟨b.toNat,by omega⟩
 have hn:=hR.1
 refine⟨_,bU,fun r q ⟨e1,e2⟩=>?_⟩
 obtain⟨d2,s2,K3,K4,rfl,CH⟩:=e2
 refine⟨_,_,_,_,_,_,_,_,_,_,⟨e1,rfl⟩,by omega,by rw[Rk.rows,qh];omega,((List.range ((R.n+63) / 64)).map fun c=>.ae (.int .u64 (R.Z u c))),by simp[Rk.rows,BQ,List.getD,show u<R.n by omega],_,DQ (R.small u) (b:=v) (by omega) (by omega),?_,d2,s2,K3,K4,rfl,CH⟩
 rw[Rk.qi,decide_eq_true ⟨g1,g2,g3,g4⟩,Bool.true_and];rfl
def Rk.stat (R:Rk) (c:Int):Int:=CQ (Option.getD (aG R.ke c) (.int .i64 0))
theorem yM {R:Rk} {h:List af} (hs:K2 R h) (c:Int) (hk:∃n,Option.getD (aG R.ke c) (.int .i64 0)=.int .i64 n):bJ Tryz.prog 131 [.ptr 1 0,nI c] h (fun r q=>r=nI (R.stat c)∧K2 R q):=by
 have OZ:=hs
 obtain⟨d,s,ka,kr,rfl,hd⟩:=hs
 obtain⟨n,hn⟩:=hk
 exact Ki ⟨by rw[hn];rfl,rfl,OZ⟩
end Go.Proofs.YtdcikhleahfknaaGreatDoor
