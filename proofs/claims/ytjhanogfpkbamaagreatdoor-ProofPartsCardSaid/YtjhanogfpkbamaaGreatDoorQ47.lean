/- Texts of ours laid together for a claim: P08 P1O P71 P72 P73 P74 P75 P09 P15 P78 P1A P1B P1C P1D P1E P1F P1V P1W P90 P91 P92 P93 P94 P96 P80 P97 P98 P1G P1H P1I P1J. -/
import Derived.Lib.Strings
import Derived.Lib.ItoaLen
import Derived.Shelf.Small.Strs
import Derived.Lib.ItoaMem
import Derived.Test.YtjhanogfpkbamaaGreatDoorQ46
namespace Go.Proofs.YtjhanogfpkbamaaGreatDoor
open Go
set_option linter.unusedSimpArgs false
set_option linter.unusedVariables false
theorem contains_snoc {l:List Int} {i:Int} {k:Nat} (h:k<l.length):(l.take (k+1)).contains i=((l.take k).contains i||(l[k]==i)):=by
 rw[←take_snoc' h,Bool.eq_iff_iff]
 simp only[List.contains_iff_mem,Bool.or_eq_true,List.mem_append,List.mem_singleton,beq_iff_eq]
 exact or_congr Iff.rfl eq_comm
theorem behind_calls {a b:List Ty} (ha:a.length≤1000000000) (hb:b.length≤1000000000):PureIs Tryz.prog 70 [.sl (a.map Ty.enc),.sl (b.map Ty.enc)] (.sl ((a++b).map Ty.enc)):=
 vc70_ok ⟨appOk_nil Ty.enc_cells (by simp;omega) (by decide),rfl,appOk_nil Ty.enc_cells (by simp;omega) (by decide),rfl,by rw[List.map_append]⟩
theorem tyTo_calls:∀(n:Nat) (t:Ty),t.size≤n→n≤1000000000→PureIs Tryz.prog 113 [t.enc] t.enc:=by
 intro n
 induction n with
 |zero=>intro t h;have:=t.size_pos;omega
 |succ n ih=>
  intro t h hn
  have hq:=Ty.sizes_len t.args
  have hts:=t.size_eq
  rw[Ty.enc_eq]
  refine vc113_ok ⟨rfl,?_⟩
  refine LoopP.intro (fun k:Nat=>(((),(),(),(k:Int),()),((t.args.map Ty.enc,t.base,()),((),0,()),((),t.base,()),(t.args.take k).map Ty.enc,())))
   (fun k=>k≤t.args.length) (fun k=>t.args.length-k) 0 rfl (Nat.zero_le _) ?_
  intro k hk again hag
  dsimp only
  rw[List.length_map]
  refine ITE.intro (fun h=>?_) fun h=>?_
  ·have hlt:k<t.args.length:=by simpa using h
   have hi:=ih t.args[k] (by have:=Ty.arg_size hlt;omega) (by omega)
   rw[Ty.enc_eq] at hi
   refine⟨by omega,by omega,_,_,Ty.enc_getD hlt,_,_,hi,rfl,appOk_one rfl (by simp;omega) (by decide),rfl,?_⟩
   rw[wrap_n (by omega),Ty.enc_snoc,take_snoc' hlt]
   exact hag (k+1) (by omega) (by omega)
  ·have:t.args.length≤k:=by simpa using h
   refine⟨rfl,?_⟩
   rw[List.take_of_length_le this]
theorem tyOf_calls:∀(n:Nat) (t:Ty),t.size≤n→n≤1000000000→PureIs Tryz.prog 109 [t.enc] t.enc:=by
 intro n
 induction n with
 |zero=>intro t h;have:=t.size_pos;omega
 |succ n ih=>
  intro t h hn
  have hq:=Ty.sizes_len t.args
  have hts:=t.size_eq
  rw[Ty.enc_eq]
  refine vc109_ok ⟨rfl,?_⟩
  refine LoopP.intro (fun k:Nat=>(((),(),(),(k:Int),()),((t.args.map Ty.enc,t.base,()),((),0,()),((),t.base,()),(t.args.take k).map Ty.enc,())))
   (fun k=>k≤t.args.length) (fun k=>t.args.length-k) 0 rfl (Nat.zero_le _) ?_
  intro k hk again hag
  dsimp only
  rw[List.length_map]
  refine ITE.intro (fun h=>?_) fun h=>?_
  ·have hlt:k<t.args.length:=by simpa using h
   have hi:=ih t.args[k] (by have:=Ty.arg_size hlt;omega) (by omega)
   rw[Ty.enc_eq] at hi
   refine⟨by omega,by omega,_,_,Ty.enc_getD hlt,_,_,hi,rfl,appOk_one rfl (by simp;omega) (by decide),rfl,?_⟩
   rw[wrap_n (by omega),Ty.enc_snoc,take_snoc' hlt]
   exact hag (k+1) (by omega) (by omega)
  ·have:t.args.length≤k:=by simpa using h
   refine⟨rfl,?_⟩
   rw[List.take_of_length_le this]
theorem tysTo_calls {l:List Ty} (h:Ty.sizes l≤1000000000):PureIs Tryz.prog 77 [.sl (l.map Ty.enc)] (.sl (l.map Ty.enc)):=by
 have hq:=Ty.sizes_len l
 refine vc77_ok ⟨rfl,?_⟩
 refine LoopP.intro (fun k:Nat=>((l.map Ty.enc,(),(k:Int),()),((l.take k).map Ty.enc,()))) (fun k=>k≤l.length) (fun k=>l.length-k) 0 rfl (Nat.zero_le _) ?_
 intro k hk again hag
 dsimp only
 rw[List.length_map]
 refine ITE.intro (fun h=>?_) fun h=>?_
 ·have hlt:k<l.length:=by simpa using h
  have hi:=tyTo_calls _ l[k] (Nat.le_refl _) (by have:=Ty.sizes_mem (List.getElem_mem hlt);omega)
  rw[Ty.enc_eq] at hi
  refine⟨by omega,by omega,_,_,Ty.enc_getD hlt,_,_,hi,rfl,appOk_one rfl (by simp;omega) (by decide),rfl,?_⟩
  rw[wrap_n (by omega),Ty.enc_snoc,take_snoc' hlt]
  exact hag (k+1) (by omega) (by omega)
 ·have:l.length≤k:=by simpa using h
  refine⟨rfl,?_⟩
  rw[List.take_of_length_le this]
theorem tysOf_calls {l:List Ty} (h:Ty.sizes l≤1000000000):PureIs Tryz.prog 67 [.sl (l.map Ty.enc)] (.sl (l.map Ty.enc)):=by
 have hq:=Ty.sizes_len l
 refine vc67_ok ⟨rfl,?_⟩
 refine LoopP.intro (fun k:Nat=>((l.map Ty.enc,(),(k:Int),()),((l.take k).map Ty.enc,()))) (fun k=>k≤l.length) (fun k=>l.length-k) 0 rfl (Nat.zero_le _) ?_
 intro k hk again hag
 dsimp only
 rw[List.length_map]
 refine ITE.intro (fun h=>?_) fun h=>?_
 ·have hlt:k<l.length:=by simpa using h
  have hi:=tyOf_calls _ l[k] (Nat.le_refl _) (by have:=Ty.sizes_mem (List.getElem_mem hlt);omega)
  rw[Ty.enc_eq] at hi
  refine⟨by omega,by omega,_,_,Ty.enc_getD hlt,_,_,hi,rfl,appOk_one rfl (by simp;omega) (by decide),rfl,?_⟩
  rw[wrap_n (by omega),Ty.enc_snoc,take_snoc' hlt]
  exact hag (k+1) (by omega) (by omega)
 ·have:l.length≤k:=by simpa using h
  refine⟨rfl,?_⟩
  rw[List.take_of_length_le this]
theorem tmTo_calls:∀(n:Nat) (t:Tm),t.size≤n→n≤1000000000→PureIs Tryz.prog 76 [t.enc] t.enc:=by
 intro n
 induction n with
 |zero=>intro t h;have:=t.size_pos;omega
 |succ n ih=>
  intro t h hn
  have hq:=Tm.sizes_len t.args
  have hts:=t.size_eq
  rw[Tm.enc_eq]
  refine vc76_ok ⟨_,tysTo_calls (by omega),rfl,?_⟩
  refine LoopP.intro (fun k:Nat=>(((),(),(),(k:Int),()),((t.binds.map Ty.enc,t.kind,t.index,t.args.map Tm.enc,()),((),0,0,(),()),(t.binds.map Ty.enc,t.kind,t.index,(),()),(t.args.take k).map Tm.enc,())))
   (fun k=>k≤t.args.length) (fun k=>t.args.length-k) 0 rfl (Nat.zero_le _) ?_
  intro k hk again hag
  dsimp only
  rw[List.length_map]
  refine ITE.intro (fun h=>?_) fun h=>?_
  ·have hlt:k<t.args.length:=by simpa using h
   have hi:=ih t.args[k] (by have:=Tm.arg_size hlt;omega) (by omega)
   rw[Tm.enc_eq] at hi
   refine⟨by omega,by omega,_,_,_,_,Tm.enc_getD hlt,_,_,_,_,hi,rfl,appOk_one rfl (by simp;omega) (by decide),rfl,?_⟩
   rw[wrap_n (by omega),Tm.enc_snoc,take_snoc' hlt]
   exact hag (k+1) (by omega) (by omega)
  ·have:t.args.length≤k:=by simpa using h
   refine⟨rfl,?_⟩
   rw[List.take_of_length_le this]
theorem tmOf_calls:∀(n:Nat) (t:Tm),t.size≤n→n≤1000000000→PureIs Tryz.prog 66 [t.enc] t.enc:=by
 intro n
 induction n with
 |zero=>intro t h;have:=t.size_pos;omega
 |succ n ih=>
  intro t h hn
  have hq:=Tm.sizes_len t.args
  have hts:=t.size_eq
  rw[Tm.enc_eq]
  refine vc66_ok ⟨_,tysOf_calls (by omega),rfl,?_⟩
  refine LoopP.intro (fun k:Nat=>(((),(),(),(k:Int),()),((t.binds.map Ty.enc,t.kind,t.index,t.args.map Tm.enc,()),((),0,0,(),()),(t.binds.map Ty.enc,t.kind,t.index,(),()),(t.args.take k).map Tm.enc,())))
   (fun k=>k≤t.args.length) (fun k=>t.args.length-k) 0 rfl (Nat.zero_le _) ?_
  intro k hk again hag
  dsimp only
  rw[List.length_map]
  refine ITE.intro (fun h=>?_) fun h=>?_
  ·have hlt:k<t.args.length:=by simpa using h
   have hi:=ih t.args[k] (by have:=Tm.arg_size hlt;omega) (by omega)
   rw[Tm.enc_eq] at hi
   refine⟨by omega,by omega,_,_,_,_,Tm.enc_getD hlt,_,_,_,_,hi,rfl,appOk_one rfl (by simp;omega) (by decide),rfl,?_⟩
   rw[wrap_n (by omega),Tm.enc_snoc,take_snoc' hlt]
   exact hag (k+1) (by omega) (by omega)
  ·have:t.args.length≤k:=by simpa using h
   refine⟨rfl,?_⟩
   rw[List.take_of_length_le this]
theorem rsames_step {l m:List Ty} (hsz:l.length≤1000000000) (hlm:l.length=m.length) (hi:∀(k:Nat) (h1:k<l.length) (h2:k<m.length),PureIs Tryz.prog 108 [l[k].enc,m[k].enc] (nB (Ty.same l[k] m[k]))):
  vc107_L4 ((l.map Ty.enc,m.map Ty.enc,0,()),()) (fun x=>x=nB (Ty.sames l m)):=by
 refine LoopP.intro (fun k:Nat=>((l.map Ty.enc,m.map Ty.enc,(k:Int),()),())) (fun k=>k≤l.length∧Ty.sames l m=Ty.sames (l.drop k) (m.drop k)) (fun k=>l.length-k) 0 rfl ⟨Nat.zero_le _,rfl⟩ ?_
 intro k ⟨hk,hs⟩ again hag
 dsimp only
 rw[List.length_map,List.length_map]
 refine ITE.intro (fun h=>?_) fun h=>?_
 ·have hlt:k<l.length:=by simpa using h
  rw[Ty.sames_drop hlt (by omega)] at hs
  have hi:=hi k hlt (by omega)
  rw[Ty.enc_eq,Ty.enc_eq] at hi
  refine⟨by omega,by omega,_,_,Ty.enc_getD hlt,by omega,by omega,_,_,Ty.enc_getD (by omega),_,hi,ITE.intro (fun h=>?_) fun h=>?_⟩
  ·have:Ty.same l[k] m[k]=false:=by simpa using h
   rw[hs,this,Bool.false_and]
  ·have he:Ty.same l[k] m[k]=true:=by simpa using h
   rw[he,Bool.true_and] at hs
   rw[wrap_n (by omega)]
   exact hag (k+1) ⟨by omega,hs⟩ (by omega)
 ·have:l.length≤k:=by simpa using h
  rw[List.drop_eq_nil_of_le this,List.drop_eq_nil_of_le (by omega)] at hs
  rw[hs];rfl
theorem rsame_calls:∀(n:Nat) (t u:Ty),t.size≤n→n≤1000000000→PureIs Tryz.prog 108 [t.enc,u.enc] (nB (Ty.same t u)):=by
 intro n
 induction n with
 |zero=>intro t u h;have:=t.size_pos;omega
 |succ n ih=>
  intro t u h hn
  have hq:=Ty.sizes_len t.args
  have hts:=t.size_eq
  rw[Ty.enc_eq,Ty.enc_eq,Ty.same_eq]
  refine vc108_ok (ITE.intro (fun h=>?_) fun h=>?_)
  ·have:(t.base==u.base)=false:=by simpa using h
   rw[this,Bool.false_and]
  ·have hb:(t.base==u.base)=true:=by simpa using h
   rw[hb,Bool.true_and]
   refine ITE.intro (fun h=>?_) fun h=>?_
   ·rw[Ty.sames_len (by simp at h;omega)]
   ·have hlm:t.args.length=u.args.length:=by simp at h;omega
    refine LoopP.intro (fun k:Nat=>(((),(),(k:Int),()),((t.args.map Ty.enc,t.base,()),(u.args.map Ty.enc,u.base,()),()))) (fun k=>k≤t.args.length∧Ty.sames t.args u.args=Ty.sames (t.args.drop k) (u.args.drop k)) (fun k=>t.args.length-k) 0 rfl ⟨Nat.zero_le _,rfl⟩ ?_
    intro k ⟨hk,hs⟩ again hag
    dsimp only
    rw[List.length_map,List.length_map]
    refine ITE.intro (fun h=>?_) fun h=>?_
    ·have hlt:k<t.args.length:=by simpa using h
     rw[Ty.sames_drop hlt (by omega)] at hs
     have hi:=ih t.args[k] (u.args[k]'(by omega)) (by have:=Ty.arg_size hlt;omega) (by omega)
     rw[Ty.enc_eq,Ty.enc_eq] at hi
     refine⟨by omega,by omega,_,_,Ty.enc_getD hlt,by omega,by omega,_,_,Ty.enc_getD (by omega),_,hi,ITE.intro (fun h=>?_) fun h=>?_⟩
     ·have:Ty.same t.args[k] u.args[k]=false:=by simpa using h
      rw[hs,this,Bool.false_and]
     ·have he:Ty.same t.args[k] u.args[k]=true:=by simpa using h
      rw[he,Bool.true_and] at hs
      rw[wrap_n (by omega)]
      exact hag (k+1) ⟨by omega,hs⟩ (by omega)
    ·have:t.args.length≤k:=by simpa using h
     rw[List.drop_eq_nil_of_le this,List.drop_eq_nil_of_le (by omega)] at hs
     rw[hs];rfl
theorem rtypesame_calls {l m:List Ty} (hsz:Ty.sizes l≤1000000000):PureIs Tryz.prog 107 [.sl (l.map Ty.enc),.sl (m.map Ty.enc)] (nB (Ty.sames l m)):=by
 have hq:=Ty.sizes_len l
 refine vc107_ok (ITE.intro (fun h=>?_) fun h=>?_)
 ·rw[Ty.sames_len (by simp at h;omega)]
 ·exact rsames_step (by omega) (by simp at h;omega) fun k h1 h2=>rsame_calls _ _ _ (Nat.le_refl _) (by have:=Ty.sizes_mem (List.getElem_mem h1);omega)
mutual
def Tm.same:Tm→Tm→Bool
 | .mk b k i a,.mk b' k' i' a'=>(k==k'&&i==i')&&(Ty.sames b b'&&Tm.sames a a')
def Tm.sames:List Tm→List Tm→Bool
 | [],[]=>true
 |t::l,u::m=>Tm.same t u&&Tm.sames l m
 |_,_=>false
end
theorem Tm.same_eq (t u:Tm):Tm.same t u=((t.kind==u.kind&&t.index==u.index)&&(Ty.sames t.binds u.binds&&Tm.sames t.args u.args)):=by cases t;cases u;simp[Tm.same,Tm.kind,Tm.index,Tm.binds,Tm.args]
theorem Tm.sames_drop {l m:List Tm} {k:Nat} (h1:k<l.length) (h2:k<m.length):Tm.sames (l.drop k) (m.drop k)=(Tm.same l[k] m[k]&&Tm.sames (l.drop (k+1)) (m.drop (k+1))):=by
 rw[List.drop_eq_getElem_cons h1,List.drop_eq_getElem_cons h2,Tm.sames]
theorem Tm.sames_len {l m:List Tm} (h:¬l.length=m.length):Tm.sames l m=false:=by
 induction l generalizing m with
 |nil=>cases m with
  |nil=>simp at h
  |cons u m=>rfl
 |cons t l ih=>cases m with
  |nil=>rfl
  |cons u m=>rw[Tm.sames,ih (by simpa using h),Bool.and_false]
mutual
theorem Tm.same_iff:∀(t u:Tm),Tm.same t u=true↔t=u
 | .mk b k i a,.mk b' k' i' a'=>by
  simp only[Tm.same,Bool.and_eq_true,beq_iff_eq,Tm.mk.injEq,Ty.sames_iff,Tm.sames_iff a a']
  constructor
  ·rintro⟨⟨h1,h2⟩,h3,h4⟩;exact⟨h3,h1,h2,h4⟩
  ·rintro⟨h3,h1,h2,h4⟩;exact⟨⟨h1,h2⟩,h3,h4⟩
theorem Tm.sames_iff:∀(l m:List Tm),Tm.sames l m=true↔l=m
 | [],[]=>by simp[Tm.sames]
 | [],_::_=>by simp[Tm.sames]
 |_::_,[]=>by simp[Tm.sames]
 |t::l,u::m=>by simp only[Tm.sames,Bool.and_eq_true,List.cons.injEq,Tm.same_iff t u,Tm.sames_iff l m]
end
theorem Tm.same_self (t:Tm):Tm.same t t=true:=(Tm.same_iff t t).2 rfl
theorem tsame_calls:∀(n:Nat) (t u:Tm),t.size≤n→n≤1000000000→PureIs Tryz.prog 64 [t.enc,u.enc] (nB (Tm.same t u)):=by
 intro n
 induction n with
 |zero=>intro t u h;have:=t.size_pos;omega
 |succ n ih=>
  intro t u h hn
  have hq:=Tm.sizes_len t.args
  have hts:=t.size_eq
  have hb:=rtypesame_calls (l:=t.binds) (m:=u.binds) (by omega)
  rw[Tm.enc_eq,Tm.enc_eq,Tm.same_eq]
  refine vc64_ok (ITE.intro (fun h=>?_) fun h=>?_)
  ·have:(t.kind==u.kind&&t.index==u.index)=false:=by rw[Bool.not_eq_true'] at h;exact h
   rw[this,Bool.false_and]
  ·have hh:(t.kind==u.kind&&t.index==u.index)=true:=by rw[Bool.not_eq_false'] at h;exact h
   rw[hh,Bool.true_and]
   refine ITE.intro (fun h=>?_) fun h=>?_
   ·rw[Tm.sames_len (by simp at h;omega),Bool.and_false]
   ·have hlm:t.args.length=u.args.length:=by simp at h;omega
    refine⟨_,hb,ITE.intro (fun h=>?_) fun h=>?_⟩
    ·have:Ty.sames t.binds u.binds=false:=by simpa using h
     rw[this,Bool.false_and]
    ·have hbs:Ty.sames t.binds u.binds=true:=by simpa using h
     rw[hbs,Bool.true_and]
     refine LoopP.intro (fun k:Nat=>(((),(),(k:Int),()),((t.binds.map Ty.enc,t.kind,t.index,t.args.map Tm.enc,()),(u.binds.map Ty.enc,u.kind,u.index,u.args.map Tm.enc,()),()))) (fun k=>k≤t.args.length∧Tm.sames t.args u.args=Tm.sames (t.args.drop k) (u.args.drop k)) (fun k=>t.args.length-k) 0 rfl ⟨Nat.zero_le _,rfl⟩ ?_
     intro k ⟨hk,hs⟩ again hag
     dsimp only
     rw[List.length_map,List.length_map]
     refine ITE.intro (fun h=>?_) fun h=>?_
     ·have hlt:k<t.args.length:=by simpa using h
      rw[Tm.sames_drop hlt (by omega)] at hs
      have hi:=ih t.args[k] (u.args[k]'(by omega)) (by have:=Tm.arg_size hlt;omega) (by omega)
      rw[Tm.enc_eq,Tm.enc_eq] at hi
      refine⟨by omega,by omega,_,_,_,_,Tm.enc_getD hlt,by omega,by omega,_,_,_,_,Tm.enc_getD (by omega),_,hi,ITE.intro (fun h=>?_) fun h=>?_⟩
      ·have:Tm.same t.args[k] u.args[k]=false:=by simpa using h
       rw[hs,this,Bool.false_and]
      ·have he:Tm.same t.args[k] u.args[k]=true:=by simpa using h
       rw[he,Bool.true_and] at hs
       rw[wrap_n (by omega)]
       exact hag (k+1) ⟨by omega,hs⟩ (by omega)
     ·have:t.args.length≤k:=by simpa using h
      rw[List.drop_eq_nil_of_le this,List.drop_eq_nil_of_le (by omega)] at hs
      rw[hs];rfl
end Go.Proofs.YtjhanogfpkbamaaGreatDoor

namespace Go.Proofs.YtjhanogfpkbamaaGreatDoor
open Go
set_option linter.unusedSimpArgs false
set_option linter.unusedVariables false
theorem teq_calls:∀(n:Nat) (t u:Tm),t.size≤n→n≤500000000→PureIs Tryz.prog 34 [.agg [.sl (t.binds.map Ty.enc),nI t.kind,nI t.index,.sl (t.args.map Tm.enc)],.agg [.sl (u.binds.map Ty.enc),nI u.kind,nI u.index,.sl (u.args.map Tm.enc)]] (nB (Tm.same t u)):=by
 intro n
 induction n with
 |zero=>intro t u h;have:=t.size_pos;omega
 |succ n ih=>
  intro t u h hn
  have hq:=Tm.sizes_len t.args
  have hts:=t.size_eq
  have hb:=equals_calls (l:=t.binds) (m:=u.binds) (by have:=Ty.sizes_len t.binds;omega) fun k h1 h2=>equal_calls _ t.binds[k] u.binds[k] (Nat.le_refl _) (by have:=Ty.sizes_mem (List.getElem_mem h1);omega)
  rw[Tm.same_eq]
  have hargs:PureIs Tryz.prog 75 [.sl (t.args.map Tm.enc),.sl (u.args.map Tm.enc),.clo 34 []] (nB (Tm.sames t.args u.args)):=by
   refine vc75_ok (ITE.intro (fun h=>?_) fun h=>?_)
   ·rw[Tm.sames_len (by simp at h;omega)]
   ·have hlm:t.args.length=u.args.length:=by simp at h;omega
    refine LoopP.intro (fun k:Nat=>((u.args.map Tm.enc,(),t.args.map Tm.enc,(t.args.length:Int),(k:Int),()),())) (fun k=>k≤t.args.length∧Tm.sames t.args u.args=Tm.sames (t.args.drop k) (u.args.drop k)) (fun k=>t.args.length-k) 0 (by rw[List.length_map];rfl) ⟨Nat.zero_le _,rfl⟩ ?_
    intro k ⟨hk,hs⟩ again hag
    dsimp only
    refine ITE.intro (fun h=>?_) fun h=>?_
    ·have hlt:k<t.args.length:=by simpa using h
     rw[Tm.sames_drop hlt (by omega)] at hs
     have hi:=ih t.args[k] (u.args[k]'(by omega)) (by have:=Tm.arg_size hlt;omega) (by omega)
     refine⟨by omega,by rw[List.length_map];omega,_,_,_,_,Tm.enc_getD hlt,by omega,by rw[List.length_map];omega,_,_,_,_,Tm.enc_getD (by omega),_,hi,ITE.intro (fun h=>?_) fun h=>?_⟩
     ·have:Tm.same t.args[k] u.args[k]=false:=by simpa using h
      rw[hs,this,Bool.false_and]
     ·have he:Tm.same t.args[k] u.args[k]=true:=by simpa using h
      rw[he,Bool.true_and] at hs
      rw[wrap_n (by omega)]
      exact hag (k+1) ⟨by omega,hs⟩ (by omega)
    ·have:t.args.length≤k:=by simpa using h
     rw[List.drop_eq_nil_of_le this,List.drop_eq_nil_of_le (by omega)] at hs
     rw[hs];rfl
  refine vc34_ok (ITE.intro (fun h=>⟨_,hb,ITE.intro (fun h2=>⟨_,hargs,?_⟩) fun h2=>?_⟩) fun h=>?_)
  ·rw[h,h2,Bool.true_and,Bool.true_and]
  ·rw[h,h2,Bool.true_and,Bool.false_and]
  ·rw[h,Bool.false_and]
end Go.Proofs.YtjhanogfpkbamaaGreatDoor

namespace Go.Proofs.YtjhanogfpkbamaaGreatDoor
open Go
set_option linter.unusedSimpArgs false
set_option linter.unusedVariables false
theorem nB_congr {a b:Bool} (h:a=true↔b=true):nB a=nB b:=congrArg nB (Bool.eq_iff_iff.2 h)
def isLetter (c:Int):Bool:=decide (97≤c∧c≤122)||decide (65≤c∧c≤90)
def isDigit (c:Int):Bool:=decide (48≤c∧c≤57)
def isInner (c:Int):Bool:=isLetter c||(isDigit c||(c==95||c==39))
def isBlank (c:Int):Bool:=c==32||(c==9||(c==10||(c==13||c==35)))
def bytesI (s:ByteArray):List Int:=s.data.toList.map fun b=>(b.toNat:Int)
theorem bytesI_len (s:ByteArray):(bytesI s).length=s.size:=by simp[bytesI]
theorem strAt_eq {s:ByteArray} {k:Nat} (h:k<(bytesI s).length):strAt s (k:Int)=(bytesI s)[k]:=by
 have h2:k<s.data.size:=by rw[bytesI_len] at h;exact h
 unfold strAt
 simp only[Int.toNat_natCast,bytesI,List.getElem_map,Array.getElem_toList]
 rw[Array.getElem?_eq_getElem h2];rfl
theorem bytesI_range (s:ByteArray):∀c∈bytesI s,0≤c∧c≤255:=by
 intro c hc
 simp only[bytesI,List.mem_map] at hc
 obtain⟨b,_,rfl⟩:=hc
 have:=b.toNat_lt
 omega
theorem bytesI_inj {s t:ByteArray} (h:bytesI s=bytesI t):s=t:=by
 obtain⟨s⟩:=s;obtain⟨t⟩:=t
 congr 1
 apply Array.ext'
 exact(List.map_inj_right (fun a b (hab:(a.toNat:Int)=b.toNat)=>UInt8.toNat_inj.1 (by omega))).1 h
theorem strEq_iff (a b:ByteArray):strEq a b=decide (a=b):=by
 obtain⟨a⟩:=a;obtain⟨b⟩:=b
 simp only[strEq]
 by_cases h:a=b
 ·subst h;simp
 ·have h1:¬(ByteArray.mk a=ByteArray.mk b):=fun e=>h (by injection e)
  rw[decide_eq_false h1,beq_eq_false_iff_ne]
  intro e
  apply h1
  have e1:=congrArg List.length e
  apply bytesI_inj
  rw[Lib.toList_data,Lib.toList_data] at e
  exact congrArg (List.map fun b:UInt8=>(b.toNat:Int)) e
def isWord (s:ByteArray):Bool:=match bytesI s with
 | []=>false
 |c::l=>decide (l.length≤29)&&isLetter c&&l.all isInner
theorem letter_calls {c:Int}:PureIs Tryz.prog 119 [.prim (.int .u8 c)] (nB (isLetter c)):=by
 refine vc119_ok ?_
 have two:ITE (decide (c≥65)) (nB (decide (c≤90))=nB (decide (65≤c∧c≤90))) (nB false=nB (decide (65≤c∧c≤90))):=by
  refine ITE.intro (fun h=>?_) fun h=>?_
  ·have h:c≥65:=by simpa using h
   exact nB_congr (by simp;omega)
  ·have h:¬c≥65:=by simpa using h
   exact nB_congr (by simp;omega)
 refine ITE.intro (fun h=>ITE.intro (fun h1=>?_) fun h1=>?_) fun h=>?_
 ·have h:c≥97:=by simpa using h
  have h1:c≤122:=by simpa using h1
  simp[isLetter];omega
 ·have h1:¬c≤122:=by simpa using h1
  have:isLetter c=decide (65≤c∧c≤90):=by unfold isLetter;rw[decide_eq_false (by omega),Bool.false_or]
  rw[this];exact two
 ·have h:¬c≥97:=by simpa using h
  have:isLetter c=decide (65≤c∧c≤90):=by unfold isLetter;rw[decide_eq_false (by omega),Bool.false_or]
  rw[this];exact two
theorem digit_calls {c:Int}:PureIs Tryz.prog 122 [.prim (.int .u8 c)] (nB (isDigit c)):=by
 refine vc122_ok (ITE.intro (fun h=>?_) fun h=>?_)
 ·have h:c≥48:=by simpa using h
  exact nB_congr (by simp[isDigit];omega)
 ·have h:¬c≥48:=by simpa using h
  exact nB_congr (by simp[isDigit];omega)
theorem inner_calls {c:Int}:PureIs Tryz.prog 121 [.prim (.int .u8 c)] (nB (isInner c)):=by
 refine vc121_ok ⟨_,letter_calls,ITE.intro (fun h=>?_) fun h=>⟨_,digit_calls,ITE.intro (fun h1=>?_) fun h1=>ITE.intro (fun h2=>?_) fun h2=>?_⟩⟩
 ·simp[isInner,h]
 ·simp[isInner,h,h1]
 ·simp[isInner,h,h1,h2]
 ·simp[isInner,h,h1,h2]
def runN (l:List Int):Nat:=(l.takeWhile isInner).length
theorem runN_cons (c:Int) (l:List Int):runN (c::l)=if isInner c=true then runN l+1 else 0:=by
 unfold runN;rw[List.takeWhile_cons];split<;>simp
theorem run_calls {s:ByteArray} (hs:s.size≤1000000000):PureIs Tryz.prog 120 [nS s,.clo 121 []] (nI (runN (bytesI s):Nat)):=by
 refine vc120_ok ?_
 unfold vc120 vc120_L2
 have hl:=bytesI_len s
 refine LoopP.intro (fun k:Nat=>((s,(),(k:Int),()),())) (fun k=>k≤s.size∧runN (bytesI s)=k+runN ((bytesI s).drop k)) (fun k=>s.size-k) 0 rfl ⟨Nat.zero_le _,by simp⟩ ?_
 intro k ⟨hk,hm⟩ again hag
 dsimp only
 refine ITE.intro (fun h=>?_) fun h=>?_
 ·have hlt:k<s.size:=by simpa using h
  have hlt':k<(bytesI s).length:=by omega
  rw[List.drop_eq_getElem_cons hlt'] at hm
  refine⟨⟨by omega,by omega⟩,_,inner_calls,?_⟩
  rw[strAt_eq hlt']
  refine ITE.intro (fun h=>?_) fun h=>?_
  ·rw[wrap_n (by omega)]
   refine hag (k+1) ⟨by omega,?_⟩ (by omega)
   rw[hm,runN_cons,if_pos h];omega
  ·rw[hm,runN_cons,if_neg (by rw[h];simp)];rfl
 ·have:s.size≤k:=by simpa using h
  rw[List.drop_eq_nil_of_le (by omega)] at hm
  rw[hm];simp[runN]
theorem letter_inner {c:Int} (h:isLetter c=true):isInner c=true:=by simp[isInner,h]
end Go.Proofs.YtjhanogfpkbamaaGreatDoor

namespace Go.Proofs.YtjhanogfpkbamaaGreatDoor
open Go
set_option linter.unusedSimpArgs false
set_option linter.unusedVariables false
set_option maxRecDepth 100000
def markR:Int×Int→List Int→Int×Int
 |m,[]=>m
 |m,c::l=>markR (if c==10 then(m.1+1,1) else(m.1,m.2+1)) l
theorem bytesI_extract (s:ByteArray) (i j:Nat):bytesI (s.extract i j)=((bytesI s).drop i).take (j-i):=by
 simp only[bytesI,ByteArray.data_extract,Array.toList_extract,List.extract_eq_take_drop,List.map_take,List.map_drop]
abbrev Tk:=Int×ByteArray×Int
def tkEnc (t:Tk):AV:=.agg [nI t.1,nS t.2.1,nI t.2.2]
theorem isWord_cons {s:ByteArray} {c:Int} {l:List Int} (h:bytesI s=c::l):isWord s=true↔l.length≤29∧isLetter c=true∧l.all isInner=true:=by
 simp only[isWord,h,Bool.and_eq_true,decide_eq_true_eq,and_assoc]
theorem runN_le (l:List Int):runN l≤l.length:=by
 induction l with
 |nil=>simp[runN]
 |cons c l ih=>rw[runN_cons,List.length_cons];split<;>omega
variable {s:ByteArray}
theorem tk_snoc (l:List Tk) (t:Tk):l.map tkEnc++[.agg [nI t.1,nS t.2.1,nI t.2.2]]=(l++[t]).map tkEnc:=by simp[tkEnc]
end Go.Proofs.YtjhanogfpkbamaaGreatDoor

namespace Go.Proofs.YtjhanogfpkbamaaGreatDoor
open Go
set_option linter.unusedSimpArgs false
set_option linter.unusedVariables false
theorem word_empty {w:ByteArray}:strEq w (⟨#[]⟩:ByteArray)=decide (w.size=0):=by
 rw[strEq_iff]
 by_cases h:w.size=0
 ·rw[decide_eq_true h,decide_eq_true (bytesI_inj (List.eq_nil_of_length_eq_zero (by rw[bytesI_len];exact h)))]
 ·rw[decide_eq_false h,decide_eq_false (fun e=>h (by rw[e];rfl))]
theorem bsz (a b:ByteArray):(a++b).size=a.size+b.size:=ByteArray.size_append
theorem sz1 {c:UInt8}:(⟨#[c]⟩:ByteArray).size=1:=rfl
end Go.Proofs.YtjhanogfpkbamaaGreatDoor

namespace Go.Proofs.YtjhanogfpkbamaaGreatDoor
open Go Go.Shelf
set_option linter.unusedSimpArgs false
set_option linter.unusedVariables false
section
variable {P:Program} {w w':World} {F:Nat→Nat→Prop} {η:List Value} {hp:List AObj}
def AObj.noRow:AObj→Prop
 | .box _=>True
 | .bld _ _=>True
 | .mapo _=>True
 |_=>False
theorem hpost_set {r0:AV} {q:Nat} {o o':AObj} {b:Nat} {v0:Value} {v:Value} (hpre:HPre w F η hp) (hq:hp[q]?=some o) (hn:o.noRow) (hn':o'.noRow) (hb:η[q]?=some v0) (hbk:blk v0=some b)
  (hk:Keeps (fun k=>k=b) w w') (hs:w'.heap.size=w.heap.size)
  (ho':Ext w F η hp w' (OntoH F w η hp w' η (hp.set q o')) η (hp.set q o')→ObjOk w' (OntoH F w η hp w' η (hp.set q o')) η (hp.set q o') o' v0) (hrv:Rep w F η hp r0 v):
  HPost w F η hp w' η (hp.set q o') r0 v:=by
 have hl:o.live:=by cases o<;>first|exact True.intro|exact hn.elim
 have hl':o'.live:=by cases o'<;>first|exact True.intro|exact hn'.elim
 have hql:q<hp.length:=(List.getElem?_eq_some_iff.1 hq).1
 have hself:(hp.set q o')[q]?=some o':=by simp[List.getElem?_set,hql]
 have live2:∀k,LiveBlk η (hp.set q o') k↔LiveBlk η hp k:=by
  intro k
  constructor
  ·intro ⟨r,x,u,e1,e2,e3,e4⟩
   by_cases hr:q=r
   ·subst hr;exact⟨q,_,u,hq,hl,e3,e4⟩
   ·rw[get_set_other hr] at e1;exact⟨r,x,u,e1,e2,e3,e4⟩
  ·intro ⟨r,x,u,e1,e2,e3,e4⟩
   by_cases hr:q=r
   ·subst hr;exact⟨q,_,u,hself,hl',e3,e4⟩
   ·exact⟨r,x,u,by rw[get_set_other hr];exact e1,e2,e3,e4⟩
 have hbl:LiveBlk η hp b:=⟨q,_,_,hq,hl,hb,hbk⟩
 have noF:∀x,¬F b x:=by
  intro x hf
  obtain⟨p1,q1,q2⟩:=(objF_iff b x).1 (hpre.foot b x hf).2 q _ hb hbk
  rw[hq] at q1
  obtain rfl:=Option.some.inj q1
  cases o<;>first|exact q2|exact hn
 have objF2:∀k x,ObjF η hp k x→ObjF η (hp.set q o') k x:=by
  intro k x hf
  refine(objF_iff k x).2 fun r u e1 e2=>?_
  obtain⟨p1,q1,q2⟩:=(objF_iff k x).1 hf r u e1 e2
  by_cases hr:q=r
  ·subst hr
   rw[hq] at q1
   obtain rfl:=Option.some.inj q1
   exact(show False by cases o<;>first|exact q2|exact hn).elim
  ·exact⟨p1,by rw[get_set_other hr];exact q1,q2⟩
 have hblk:∀k,k<w.heap.size→k≠b→w'.heap[k]?=w.heap[k]?:=fun k h1 h2=>hk.block k h1 h2
 have foot:∀k x,F k x→OntoH F w η hp w' η (hp.set q o') k x:=fun k x hf=>⟨.inl hf,by rw[hs];exact(hpre.foot k x hf).1,objF2 k x (hpre.foot k x hf).2⟩
 have hext:Ext w F η hp w' (OntoH F w η hp w' η (hp.set q o')) η (hp.set q o'):=by
  refine⟨fun k x u hf hc=>?_,fun k es c hf hc=>?_,foot,fun r a h=>h,fun r a h=>h,fun r n u h=>?_⟩
  ·have hne:k≠b:=fun h=>noF x (h▸hf)
   simp only[World.cell?] at hc ⊢
   rw[hblk k (hpre.foot k x hf).1 hne];exact hc
  ·have hne:k≠b:=fun h=>noF 0 (h▸hf)
   rw[hblk k (hpre.foot k 0 hf).1 hne];exact hc
  ·unfold OwnOk at h ⊢
   by_cases hr:q=r
   ·subst hr;rw[hq] at h;exact(show False by cases o<;>first|exact h|exact hn).elim
   ·rw[get_set_other hr];exact h
 refine⟨⟨hk.os,hk.tape,hk.output,hk.size,fun k h1 h3=>hblk k h1 fun h=>h3 (h▸hbl)⟩,hext,⟨by rw[List.length_set];exact hpre.heap.len,fun r x u e1 e2=>?_,fun r r' x x' u u' k hne e1 e2 l1 l2 e3 e4 e5=>?_⟩,fun k h=>.inr ((live2 k).1 h),hrv.ext hext⟩
 ·by_cases hr':q=r
  ·subst hr'
   rw[hself] at e1
   obtain rfl:=Option.some.inj e1
   rw[hb] at e2
   obtain rfl:=Option.some.inj e2
   exact ho' hext
  ·rw[get_set_other hr'] at e1
   by_cases hlv:x.live
   ·refine(hpre.heap.obj r x u e1 e2).ext hext hk.size fun k hk1 hk2=>hblk k hk2 fun h=>?_
    subst h
    exact hpre.heap.sep q r _ x _ u k hr' hq e1 hl hlv hb e2 hbk hk1
   ·cases x<;>first|exact True.intro|exact(hlv True.intro).elim
 ·have look:∀{r:Nat} {x:AObj},(hp.set q o')[r]?=some x→x.live→∃p,hp[r]?=some p∧p.live:=by
   intro r x e l
   by_cases hr:q=r
   ·subst hr;exact⟨_,hq,hl⟩
   ·rw[get_set_other hr] at e;exact⟨x,e,l⟩
  obtain⟨p,e1',l1'⟩:=look e1 l1
  obtain⟨p',e2',l2'⟩:=look e2 l2
  exact hpre.heap.sep r r' p p' u u' k hne e1' e2' l1' l2' e3 e4 e5
theorem hpost_frz {r0:AV} {q:Nat} {e size hi hi' g cap:Nat} {els:List AV} {cur:Array Value} {v:Value} (hpre:HPre w F η hp) (hq:hp[q]?=some (.row e size els)) (hη:η[q]?=some (.slice (some ⟨g,0,none⟩) els.length cap)) (hc0:0<cap)
  (hg:w.heap[g]?=some (.cells cur e (0,hi))) (hg':w'.heap[g]?=some (.cells cur e (0,hi'))) (hh:hi'≤els.length*size)
  (hs:w'.os=w.os∧w'.tape=w.tape∧w'.output=w.output∧w'.heap.size=w.heap.size) (hk:∀k,k≠g→w'.heap[k]?=w.heap[k]?) (hrv:Rep w F η hp r0 v):
  HPost w F η hp w' η hp r0 v:=by
 have hcell:∀b o,w'.cell? ⟨b,o,none⟩=w.cell? ⟨b,o,none⟩:=by
  intro b o
  by_cases hb:b=g
  ·subst hb;simp only[World.cell?,hg,hg']
  ·simp only[World.cell?,hk b hb]
 have hgl:LiveBlk η hp g:=⟨q,_,_,hq,True.intro,hη,blk_slice hc0⟩
 have hext:Ext w F η hp w' (OntoH F w η hp w' η hp) η hp:=by
  refine⟨fun k x u hf hc=>by rw[hcell];exact hc,fun k es c hf hc=>?_,fun k x hf=>⟨.inl hf,by rw[hs.2.2.2];exact(hpre.foot k x hf).1,(hpre.foot k x hf).2⟩,fun r a h=>h,fun r a h=>h,fun r n u h=>h⟩
  have:k≠g:=fun e=>by rw[e] at hc;rw[hc] at hg;cases hg
  rw[hk k this];exact hc
 refine⟨⟨hs.1,hs.2.1,hs.2.2.1,by rw[hs.2.2.2];exact Nat.le_refl _,fun k _ h3=>hk k fun h=>h3 (h▸hgl)⟩,hext,⟨hpre.heap.len,fun r x u e1 e2=>?_,hpre.heap.sep⟩,fun k h=>.inr h,hrv.ext hext⟩
 by_cases hr:q=r
 ·subst hr
  rw[hq] at e1
  obtain rfl:=Option.some.inj e1
  rw[hη] at e2
  obtain rfl:=Option.some.inj e2
  obtain⟨hz,xs,⟨hl,h1⟩,hels⟩:=hpre.heap.obj q _ _ hq hη
  refine⟨hz,xs,⟨hl,?_⟩,fun i el hi=>⟨(hels i el hi).1,fun j y hj=>let ⟨v1,q1,q2,q3⟩:=(hels i el hi).2 j y hj;⟨v1,q1,q2.ext hext.ext0.ext,q3⟩⟩⟩
  rcases h1 with⟨h1,h2|⟨ad,h2⟩⟩|⟨g1,cap1,cur1,h2,h3,⟨_,_,h4⟩,h5⟩
  ·cases h2
  ·simp only[Value.slice.injEq] at h2;omega
  ·simp only[Value.slice.injEq,Option.some.injEq,Addr.mk.injEq,and_true] at h2
   obtain⟨rfl,_,rfl⟩:=h2
   rw[hg] at h4
   simp only[Option.some.injEq,Obj.cells.injEq] at h4
   obtain⟨rfl,_,_⟩:=h4
   exact .inr ⟨g,cap,cur,rfl,hc0,⟨hi',hh,hg'⟩,h5⟩
 ·by_cases hlv:x.live
  ·refine(hpre.heap.obj r x u e1 e2).ext hext (by rw[hs.2.2.2];exact Nat.le_refl _) fun k hk1 hk2=>hk k fun h=>?_
   subst h
   exact hpre.heap.sep q r _ x _ u k hr hq e1 True.intro hlv hη e2 (blk_slice hc0) hk1
  ·cases x<;>first|exact True.intro|exact(hlv True.intro).elim
theorem hpost_dead {r0:AV} {v:Value} (hpre:HPre w F η hp) (hk:Keeps (LiveBlk η hp) w w') (hc:∀b o u,F b o→w.cell? ⟨b,o,none⟩=some u→w'.cell? ⟨b,o,none⟩=some u) (hm:∀b es c,F b 0→w.heap[b]?=some (.map es c)→w'.heap[b]?=some (.map es c)) {hp':List AObj} (hl:hp'.length=hp.length) (hd:∀(r:Nat) (o:AObj),hp'[r]?=some o→o=.dead)
  (hrv:∀F',Rep w' F' η hp' r0 v):HPost w F η hp w' η hp' r0 v:=by
 refine⟨hk,⟨hc,hm,fun k o hf=>⟨.inl hf,Nat.lt_of_lt_of_le (hpre.foot k o hf).1 hk.size,fun r u e1 e2=>?_⟩,fun r a h=>h,fun r a h=>h,fun r n u h=>?_⟩,⟨by rw[hl];exact hpre.heap.len,fun r x u e1 e2=>?_,fun r r' x x' u u' k hne e1 e2 l1 l2=>?_⟩,fun k h=>?_,hrv _⟩
 ·have hr:r<hp'.length:=by rw[hl,←hpre.heap.len];exact(List.getElem?_eq_some_iff.1 e1).1
  obtain⟨x,hx⟩:∃x,hp'[r]?=some x:=⟨_,List.getElem?_eq_getElem hr⟩
  rw[hx,hd r x hx];exact True.intro
 ·have hr:r<hp'.length:=by
   unfold OwnOk at h
   rw[hl]
   rcases Nat.lt_or_ge r hp.length with h1|h1
   ·exact h1
   ·rw[List.getElem?_eq_none h1] at h;exact h.elim
  obtain⟨x,hx⟩:∃x,hp'[r]?=some x:=⟨_,List.getElem?_eq_getElem hr⟩
  unfold OwnOk
  rw[hx,hd r x hx];exact True.intro
 ·rw[hd r x e1];exact True.intro
 ·rw[hd r x e1] at l1;exact l1.elim
 ·obtain⟨r,x,u,e1,e2,_⟩:=h
  rw[hd r x e1] at e2;exact e2.elim
end
theorem bld_ptr {w:World} {F:Nat→Nat→Prop} {η:List Value} {hp:List AObj} {r o:Nat} {v:Value} (h:Rep w F η hp (.ptr r o) v):∃b,v=.pointer (some ⟨b,o,none⟩)∧η[r]?=some (.pointer (some ⟨b,0,none⟩)):=by
 cases h with|ptr _ _ b h1=>exact⟨b,rfl,h1⟩
theorem copyCheck_calls {us:List AV} {n:Nat}:HFn Tryz.prog 82 [.ptr 0 0] [.bld 1 n,.row 5 1 us] (fun r hp'=>r=.tup []∧hp'=[.bld 1 n,.row 5 1 us]):=by
 refine⟨⟨_,Tryz.func82,by kernel_rfl,by kernel_rfl⟩,fun w F η vals hpre hv=>?_⟩
 match vals,hv with
 | [v0],⟨r0,_⟩=>
  obtain⟨b,rfl,h0⟩:=bld_ptr r0
  obtain⟨b',vs,e1,h1,h2,h3,u,h4,h5⟩:=hpre.heap.obj 0 _ _ rfl h0
  cases e1
  have c0:∀x,vs[0]?=some x→w.cell? ⟨b,0,none⟩=some x:=fun x hx=>by simp only[World.cell?,h1];exact hx
  rcases h3 with h3|h3
  ·refine callsIn_wide.2 ((Any.Builder_copyCheck_fresh lay240 layX72 b w (c0 _ h3) (by simp only[World.shape?,h1,h2.1];rfl) (by simp[World.frozen?,h1])).mono ?_)
   rintro e w' ⟨rfl,rfl⟩
   have g1:=heap_setCell_same w b 0 _ bldT (.pointer (some ⟨b,0,none⟩)) h1
   exact⟨_,.tup [],[.bld 1 n,.row 5 1 us],η,rfl,⟨rfl,rfl⟩,hpost_set (q:=0) (b:=b) (o':=.bld 1 n) hpre rfl True.intro True.intro h0 rfl ⟨rfl,rfl,rfl,by simp,fun k _ hk=>heap_setCell_other _ _ _ _ hk⟩ (by simp)
    (fun hext=>⟨b,_,rfl,g1,⟨by simp[h2.1],fun e=>by rw[Array.getElem?_setIfInBounds_ne (by omega)];exact h2.2 e⟩,.inr (by simp[h2.1]),u,by rw[Array.getElem?_setIfInBounds_ne (by omega)];exact h4,h5.ext hext⟩) (.tup [] #[] rfl fun j y u hy _=>by cases hy)⟩
  ·refine callsIn_wide.2 ((Any.Builder_copyCheck_used lay240 layX72 b w (c0 _ h3)).mono ?_)
   rintro e w' ⟨rfl,rfl⟩
   exact⟨_,.tup [],[.bld 1 n,.row 5 1 us],η,rfl,⟨rfl,rfl⟩,hpost_set (q:=0) (b:=b) (o':=.bld 1 n) hpre rfl True.intro True.intro h0 rfl ⟨rfl,rfl,rfl,Nat.le_refl _,fun _ _ _=>rfl⟩ rfl
    (fun hext=>⟨b,_,rfl,h1,h2,.inr h3,u,h4,h5.ext hext⟩) (.tup [] #[] rfl fun j y u hy _=>by cases hy)⟩
theorem WriteString_calls {us:List AV} {s:ByteArray} (h:us.length+s.size≤140737488355328) (hne:s.size≠0):HFn Tryz.prog 80 [.ptr 0 0,nS s] [.bld 1 us.length,.row 5 1 us]
  (fun r hp'=>r=.tup [nI s.size,.prim (.nilIface)]∧hp'=[.bld 1 (us++strAV s).length,.row 5 1 (us++strAV s)]):=
 vc80_ok ⟨_,copyCheck_calls,fun r q ⟨h1,h2⟩=>⟨us,⟨h1,h2⟩,rfl,h,by rw[List.length_append,strAV_len];omega,rfl,rfl⟩⟩
theorem layX:Builder.Extra Tryz.prog shRen:={ layX72 with t5:=Tryz.underlying5,a5:=Tryz.isAgg5,z5:=Tryz.sizeOf5,v5:=Tryz.zeroValue5,infoByte:=by kernel_rfl,cellsByte:=by kernel_rfl,sizeByte:=by kernel_rfl,neB5:=by decide }
set_option maxHeartbeats 1000000 in
set_option maxRecDepth 100000 in
theorem string_do {P:Program} {ρ:Ren} (L:Lays.n169 P ρ) (X:Builder.Extra P ρ) {b g cap hi:Nat} {cur vs:Array Value} {l:List UInt8} {w:World} (hbk:w.heap[b]?=some (.cells vs (ρ.t 72) (0,0)))
  (hvs:vs[1]?=some (.slice (some ⟨g,0,none⟩) l.length cap)) (hg:w.heap[g]?=some (.cells cur (ρ.t 5) (0,hi))) (hnc:l.length≤cap) (hcm:cap≤maxLen) (hcs:cur.size=cap*1) (htake:cur.toList.take (l.length*1)=Lib.byteCells l) (h0:l≠[]):
  Calls P (ρ.f 169) #[.pointer (some ⟨b,0,none⟩)] w fun e w'=>e=.returned (.string ⟨l.toArray⟩)∧w'=w.drew.freeze ⟨g,0,none⟩ l.length:=by
 have hl0:l.length≠0:=by simpa using h0
 have c1:w.drew.cell? ⟨b,1,none⟩=some (.slice (some ⟨g,0,none⟩) l.length cap):=by
  have:w.drew.heap[b]?=some (.cells vs (ρ.t 72) (0,0)):=hbk
  rw[Lib.cell_of_heap this];exact hvs
 have hSD:(Builtin.unsafeSliceData_ #[(ρ.t 37)] (ρ.t 127) #[.slice (some ⟨g,0,none⟩) l.length cap]).run P w.drew=.ok (.pointer (some ⟨g,0,none⟩)) w.drew:=
  Lib.run_unsafeSliceData_row _ _ _ _ _ _ (by omega)
 have hUS:(Builtin.unsafeString_ #[(ρ.t 127),(ρ.t 3)] (ρ.t 9) #[.pointer (some ⟨g,0,none⟩),.int .i64 l.length]).run P w.drew=.ok (.string ⟨l.toArray⟩) (w.drew.freeze ⟨g,0,none⟩ l.length):=by
  refine Lib.run_unsafeString_row w.drew (ρ.t 127) (ρ.t 3) (ρ.t 9) (ρ.t 5) L.t127 X.cellsByte g cur.size (by have hg':w.drew.heap[g]?=some (.cells cur (ρ.t 5) (0,hi)):=hg;simp[World.shape?,hg']) l h0 (by omega) (by unfold maxLen at hcm;omega) ?_
  intro j x hx
  have hj:j<l.length:=(List.getElem?_eq_some_iff.1 hx).1
  have e1:(cur.toList.take (l.length*1))[j]?=some (.int .u8 x.toNat):=by rw[htake];simp[Lib.byteCells,hx]
  rw[List.getElem?_take_of_lt (by omega)] at e1
  have hg':w.drew.heap[g]?=some (.cells cur (ρ.t 5) (0,hi)):=hg
  rw[Addr.add_lit,Lib.cell_of_heap hg']
  simpa using e1
 have mixed:=L.mixed
 have t72:=L.t72;have a72:=L.a72;have z72:=L.z72;have v72:=L.v72;have u72:=run_underlying L.t72
 have t70:=L.t70;have a70:=L.a70;have z70:=L.z70;have v70:=L.v70;have u70:=run_underlying L.t70
 have t37:=L.t37;have a37:=L.a37;have z37:=L.z37;have v37:=L.v37;have u37:=run_underlying L.t37
 have t127:=L.t127;have a127:=L.a127;have z127:=L.z127;have v127:=L.v127;have u127:=run_underlying L.t127
 have t3:=L.t3;have a3:=L.a3;have z3:=L.z3;have v3:=L.v3;have u3:=run_underlying L.t3
 have t9:=L.t9;have a9:=L.a9;have z9:=L.z9;have v9:=L.v9;have u9:=run_underlying L.t9
 have t5:=X.t5;have a5:=X.a5;have z5:=X.z5;have v5:=X.v5;have u5:=run_underlying X.t5
 go_enter L.f169,Body.n169_ntmps ρ
 go_wp2
 go_region_o
 all_goals (go_wp2;go_ret;exact⟨rfl,rfl⟩)
set_option maxHeartbeats 2000000 in
set_option maxRecDepth 100000 in
theorem string_nil {P:Program} {ρ:Ren} (L:Lays.n169 P ρ) (X:Builder.Extra P ρ) {b:Nat} {vs:Array Value} {w:World} (hbk:w.heap[b]?=some (.cells vs (ρ.t 72) (0,0))) (hvs:vs[1]?=some (.slice none 0 0)):
  Calls P (ρ.f 169) #[.pointer (some ⟨b,0,none⟩)] w fun e w'=>e=.returned (.string ⟨#[]⟩)∧w'=w.drew:=by
 have hUS:=Any.unsafeString_none L X
 have c1:w.drew.cell? ⟨b,1,none⟩=some (.slice none 0 0):=by
  have:w.drew.heap[b]?=some (.cells vs (ρ.t 72) (0,0)):=hbk
  rw[Lib.cell_of_heap this];exact hvs
 have hSD:(Builtin.unsafeSliceData_ #[(ρ.t 37)] (ρ.t 127) #[.slice none 0 0]).run P w.drew=.ok (.pointer none) w.drew:=rfl
 have mixed:=L.mixed
 have t72:=L.t72;have a72:=L.a72;have z72:=L.z72;have v72:=L.v72;have u72:=run_underlying L.t72
 have t70:=L.t70;have a70:=L.a70;have z70:=L.z70;have v70:=L.v70;have u70:=run_underlying L.t70
 have t37:=L.t37;have a37:=L.a37;have z37:=L.z37;have v37:=L.v37;have u37:=run_underlying L.t37
 have t127:=L.t127;have a127:=L.a127;have z127:=L.z127;have v127:=L.v127;have u127:=run_underlying L.t127
 have t3:=L.t3;have a3:=L.a3;have z3:=L.z3;have v3:=L.v3;have u3:=run_underlying L.t3
 have t9:=L.t9;have a9:=L.a9;have z9:=L.z9;have v9:=L.v9;have u9:=run_underlying L.t9
 have t5:=X.t5;have a5:=X.a5;have z5:=X.z5;have v5:=X.v5;have u5:=run_underlying X.t5
 go_enter L.f169,Body.n169_ntmps ρ
 go_wp2
 go_region_o
 all_goals (go_wp2;go_ret;exact⟨rfl,rfl⟩)
theorem freeze_heap {w:World} {g n k:Nat} (h:k≠g):(w.freeze ⟨g,0,none⟩ n).heap[k]?=w.heap[k]?:=by
 unfold World.freeze
 split
 ·rfl
 ·simp only[Array.getElem?_modify];rw[if_neg (Ne.symm h)]
theorem freeze_cell {w:World} {g n b o:Nat} {cur:Array Value} {T:TypeId} {z:Nat×Nat} (hg:w.heap[g]?=some (.cells cur T z)):(w.freeze ⟨g,0,none⟩ n).cell? ⟨b,o,none⟩=w.cell? ⟨b,o,none⟩:=by
 by_cases h:b=g
 ·subst h
  unfold World.freeze
  split
  ·rfl
  ·simp[World.cell?,Array.getElem?_modify,hg]
 ·simp only[World.cell?,freeze_heap h]
theorem freeze_row {w:World} {g n hi:Nat} {cur:Array Value} {T:TypeId} (hg:w.heap[g]?=some (.cells cur T (0,hi))) (hn:n≠0) (h:hi≤n):(w.freeze ⟨g,0,none⟩ n).heap[g]?=some (.cells cur T (0,n)):=by
 unfold World.freeze
 rw[if_neg hn]
 simp only[Array.getElem?_modify,if_true,hg,Option.map_some]
 congr 2
 by_cases h0:hi=0
 ·subst h0;simp
 ·have:(0==hi)=false:=by simp;omega
  rw[this]
  simp;omega
theorem freeze_same (w:World) (a:Addr) (n:Nat):(w.freeze a n).os=w.os∧(w.freeze a n).tape=w.tape∧(w.freeze a n).output=w.output∧(w.freeze a n).heap.size=w.heap.size:=by
 unfold World.freeze
 split
 ·exact⟨rfl,rfl,rfl,rfl⟩
 ·exact⟨rfl,rfl,rfl,by simp⟩
theorem bld_row {P:Program} {w:World} {F:Nat→Nat→Prop} {η:List Value} {hp:List AObj} {q:Nat} {s:ByteArray} {u:Value} (hpre:HPre w F η hp) (hq:hp[q]?=some (.row 5 1 (strAV s))) (hη:η[q]?=some u) (h:s.size≠0):
  s.data.toList≠[]∧(strAV s).length=s.data.toList.length∧∃g cap cur hi,u=.slice (some ⟨g,0,none⟩) (strAV s).length cap∧0<cap∧hi≤(strAV s).length∧w.heap[g]?=some (.cells cur 5 (0,hi))∧(strAV s).length≤cap∧cap≤maxLen∧cur.size=cap*1∧cur.toList.take ((strAV s).length*1)=Lib.byteCells s.data.toList:=by
 obtain⟨_,xs,⟨g0,g1⟩,g2⟩:=hpre.heap.obj q _ _ hq hη
 have hlen:(strAV s).length=s.data.toList.length:=by unfold strAV;exact List.length_map _
 have hxs:xs=Lib.byteCells s.data.toList:=by
  refine List.ext_getElem? fun i=>?_
  cases hs:s.data.toList[i]? with
  |none=>
   have:s.data.toList.length≤i:=List.getElem?_eq_none_iff.1 hs
   rw[List.getElem?_eq_none (by rw[g0,hlen];omega),List.getElem?_eq_none (by rw[Lib.byteCells_length];exact this)]
  |some c=>
   obtain⟨u,k1,k2,_⟩:=(g2 i (.prim (.int .u8 c.toNat)) (by simp[strAV,hs])).2 0 _ rfl
   have k3:xs[i]?=some u:=by simpa using k1
   rw[k3]
   cases k2
   simp[Lib.byteCells,hs]
 have hne:s.data.toList≠[]:=fun e=>h (by rw[←strAV_len,hlen,e];rfl)
 rcases g1 with⟨g1,_⟩|⟨g,cap,cur,rfl,k0,⟨hi,kh,k1⟩,k2,k3,k4,k5⟩
 ·exact(h (by rw[←strAV_len];exact g1)).elim
 ·exact⟨hne,hlen,g,cap,cur,hi,rfl,k0,by omega,k1,k2,k3,k4,by rw[k5];exact hxs⟩
theorem String_calls {s:ByteArray}:HFn Tryz.prog 42 [.ptr 0 0] [.bld 1 (strAV s).length,.row 5 1 (strAV s)] (fun r hp'=>r=nS s∧hp'=[.dead,.dead]):=by
 refine⟨⟨_,Tryz.func42,by kernel_rfl,by kernel_rfl⟩,fun w F η vals hpre hv=>?_⟩
 match vals,hv with
 | [v0],⟨r0,_⟩=>
  obtain⟨b,rfl,h0⟩:=bld_ptr r0
  obtain⟨b',vs,e1,h1,h2,h3,u,h4,h5⟩:=hpre.heap.obj 0 _ _ rfl h0
  cases e1
  by_cases h:s.size=0
  ·have hz:strAV s=[]:=List.eq_nil_of_length_eq_zero (by rw[strAV_len];exact h)
   have hs:s=⟨#[]⟩:=by
    obtain⟨d⟩:=s
    have:d.size=0:=h
    rw[Array.eq_empty_of_size_eq_zero this]
   refine callsIn_wide.2 ((string_nil lay169 layX (b:=b) h1 (h2.2 (by rw[hz];rfl))).mono ?_)
   rintro e w' ⟨rfl,rfl⟩
   refine⟨_,nS s,[.dead,.dead],η,rfl,⟨rfl,rfl⟩,hpost_dead (w':=w.drew) (hp':=[.dead,.dead]) hpre ⟨rfl,rfl,rfl,Nat.le_refl _,fun _ _ _=>rfl⟩ (fun _ _ _ _ hc=>hc) (fun _ _ _ _ hc=>hc) rfl (fun r o e=>?_) fun F'=>by rw[hs];exact .prim (.string ⟨#[]⟩)⟩
   match r,e with
   |0,e=>exact(Option.some.inj e).symm
   |1,e=>exact(Option.some.inj e).symm
  have h6:η[1]?=some u:=by cases h5 with|own _ _ _ _ ho=>exact ho.2 rfl
  obtain⟨hne,hlen,g,cap,cur,hi,rfl,k0,kh,k1,k2,k3,k4,k5⟩:=bld_row (P:=Tryz.prog) (q:=1) hpre rfl h6 h
  rw[hlen] at h4 k2 k5 h6
  refine callsIn_wide.2 ((string_do lay169 layX (b:=b) (g:=g) (cap:=cap) (cur:=cur) (l:=s.data.toList) h1 h4 k1 k2 k3 k4 k5 hne).mono ?_)
  rintro e w' ⟨rfl,rfl⟩
  have hgl:LiveBlk η [.bld 1 (strAV s).length,.row 5 1 (strAV s)] g:=⟨1,_,_,rfl,True.intro,h6,blk_slice k0⟩
  obtain⟨f1,f2,f3,f4⟩:=freeze_same w.drew ⟨g,0,none⟩ s.data.toList.length
  refine⟨_,nS s,[.dead,.dead],η,rfl,⟨rfl,rfl⟩,hpost_dead hpre ⟨f1,f2,f3,by rw[f4];exact Nat.le_refl _,fun k _ hk=>?_⟩ (fun b o u _ hc=>?_) (fun b es c _ hc=>?_) rfl (fun r o e=>?_) fun F'=>?_⟩
  ·exact freeze_heap (w:=w.drew) fun e=>hk (e▸hgl)
  ·rw[freeze_cell (w:=w.drew) (cur:=cur) k1];exact hc
  ·have:b≠g:=fun e=>by rw[e] at hc;rw[hc] at k1;cases k1
   rw[freeze_heap (w:=w.drew) this];exact hc
  ·match r,e with
   |0,e=>exact(Option.some.inj e).symm
   |1,e=>exact(Option.some.inj e).symm
  ·exact .prim _
theorem String_live {s:ByteArray}:HFn Tryz.prog 42 [.ptr 0 0] [.bld 1 (strAV s).length,.row 5 1 (strAV s)] (fun r hp'=>r=nS s∧hp'=[.bld 1 (strAV s).length,.row 5 1 (strAV s)]):=by
 refine⟨⟨_,Tryz.func42,by kernel_rfl,by kernel_rfl⟩,fun w F η vals hpre hv=>?_⟩
 match vals,hv with
 | [v0],⟨r0,_⟩=>
  obtain⟨b,rfl,h0⟩:=bld_ptr r0
  obtain⟨b',vs,e1,h1,h2,h3,u,h4,h5⟩:=hpre.heap.obj 0 _ _ rfl h0
  cases e1
  by_cases h:s.size=0
  ·have hz:strAV s=[]:=List.eq_nil_of_length_eq_zero (by rw[strAV_len];exact h)
   have hs:s=⟨#[]⟩:=by
    obtain⟨d⟩:=s
    have:d.size=0:=h
    rw[Array.eq_empty_of_size_eq_zero this]
   refine callsIn_wide.2 ((string_nil lay169 layX (b:=b) h1 (h2.2 (by rw[hz];rfl))).mono ?_)
   rintro e w' ⟨rfl,rfl⟩
   refine⟨_,nS s,[.bld 1 (strAV s).length,.row 5 1 (strAV s)],η,rfl,⟨rfl,rfl⟩,hpost_set (w':=w.drew) (q:=0) (b:=b) (o':=.bld 1 (strAV s).length) hpre rfl True.intro True.intro h0 rfl ⟨rfl,rfl,rfl,Nat.le_refl _,fun _ _ _=>rfl⟩ rfl
    (fun hext=>⟨b,_,rfl,h1,h2,h3,u,h4,h5.ext hext⟩) (by rw[hs];exact .prim (.string ⟨#[]⟩))⟩
  have h6:η[1]?=some u:=by cases h5 with|own _ _ _ _ ho=>exact ho.2 rfl
  obtain⟨hne,hlen,g,cap,cur,hi,rfl,k0,kh,k1,k2,k3,k4,k5⟩:=bld_row (P:=Tryz.prog) (q:=1) hpre rfl h6 h
  have h4':=h4
  have k5':=k5
  rw[hlen] at h4' k5'
  refine callsIn_wide.2 ((string_do lay169 layX (b:=b) (g:=g) (cap:=cap) (cur:=cur) (l:=s.data.toList) h1 h4' k1 (hlen▸k2) k3 k4 k5' hne).mono ?_)
  rintro e w' ⟨rfl,rfl⟩
  obtain⟨f1,f2,f3,f4⟩:=freeze_same w.drew ⟨g,0,none⟩ s.data.toList.length
  have hbg:b≠g:=fun e=>hpre.heap.sep 0 1 _ _ _ _ g (by decide) rfl rfl True.intro True.intro h0 h6 (by rw[e];rfl) (blk_slice k0)
  exact⟨_,nS s,_,η,rfl,⟨rfl,rfl⟩,hpost_frz (q:=1) hpre rfl h6 k0 k1 (freeze_row (w:=w.drew) k1 (by rw[←hlen,strAV_len];exact h) (hlen▸kh)) (by rw[hlen];omega) ⟨f1,f2,f3,f4⟩ (fun k hk=>freeze_heap (w:=w.drew) hk) (.prim _)⟩
end Go.Proofs.YtjhanogfpkbamaaGreatDoor

namespace Go.Proofs.YtjhanogfpkbamaaGreatDoor
open Go
set_option linter.unusedSimpArgs false
set_option linter.unusedVariables false
theorem strAV_app (a b:ByteArray):strAV (a++b)=strAV a++strAV b:=by
 unfold strAV
 rw[ByteArray.data_append,Array.toList_append,List.map_append]
abbrev bl (us:List AV):List AObj:=[.bld 1 us.length,.row 5 1 us]
theorem wr_res {n:Int}:RepW (.tup [nI n,.prim .nilIface]) (.tup [nI n,.top]):=fun w F η hp v h=>by
 cases h with
 |tup cs vs hl hr=>
  refine .tup _ vs hl fun j x u hx hu=>?_
  match j,hx with
  |0,hx=>exact hr 0 x u hx hu
  |1,hx=>cases hx;exact .top _
theorem wr_calls {us:List AV} {s:ByteArray} (hne:s.size≠0) (h:us.length+s.size≤140737488355328):HFn Tryz.prog 80 [.ptr 0 0,nS s] (bl us)
  (fun r hp'=>r=.tup [nI s.size,.top]∧hp'=bl (us++strAV s)):=
 (WriteString_calls h hne).res fun r h' ⟨h1,h2⟩=>⟨_,h1▸wr_res,rfl,h2⟩
def shown (ok:Bool) (s:ByteArray):AV:=.tup [nS (if ok then s else(⟨#[]⟩:ByteArray)),nI (if ok then 0 else 1)]
end Go.Proofs.YtjhanogfpkbamaaGreatDoor

namespace Go.Proofs.YtjhanogfpkbamaaGreatDoor
open Go
set_option linter.unusedSimpArgs false
set_option linter.unusedVariables false
mutual
def Ty.few (most:Nat):Nat→Ty→Nat
 |d,.mk l _=>(match d with
  |0=>most+1
  |d+1=>Ty.fews most d 1 l)
def Ty.fews (most:Nat):Nat→Nat→List Ty→Nat
 |_,n,[]=>n
 |d,n,t::l=>if n≤most then Ty.fews most d (n+Ty.few most d t) l else n
end
theorem Ty.few_zero (most:Nat) (t:Ty):Ty.few most 0 t=most+1:=by cases t;rfl
theorem Ty.few_succ (most d:Nat) (t:Ty):Ty.few most (d+1) t=Ty.fews most d 1 t.args:=by cases t;rfl
theorem Ty.fews_drop {most d n:Nat} {l:List Ty} {k:Nat} (h:k<l.length):Ty.fews most d n (l.drop k)=if n≤most then Ty.fews most d (n+Ty.few most d l[k]) (l.drop (k+1)) else n:=by
 rw[List.drop_eq_getElem_cons h,Ty.fews]
theorem Ty.fews_bd {most d:Nat} (h:∀t:Ty,Ty.few most d t≤(d+1)*(most+1)):∀(l:List Ty) (n:Nat),n≤(d+2)*(most+1)→Ty.fews most d n l≤(d+2)*(most+1)
 | [],n,hn=>hn
 |t::l,n,hn=>by
  rw[Ty.fews]
  split
  ·refine Ty.fews_bd h l _ ?_
   have:=h t
   have e:(d+2)*(most+1)=(d+1)*(most+1)+(most+1):=by rw[Nat.add_mul,Nat.add_mul];omega
   omega
  ·exact hn
theorem Ty.few_bd (most:Nat):∀(d:Nat) (t:Ty),Ty.few most d t≤(d+1)*(most+1)
 |0,t=>by rw[Ty.few_zero];omega
 |d+1,t=>by
  rw[Ty.few_succ]
  refine Ty.fews_bd (Ty.few_bd most d) _ _ ?_
  have:1*1≤(d+2)*(most+1):=Nat.mul_le_mul (by omega) (by omega)
  omega
theorem Ty.fews_ge (most d:Nat):∀(l:List Ty) (n:Nat),n≤Ty.fews most d n l
 | [],n=>Nat.le_refl _
 |t::l,n=>by
  rw[Ty.fews]
  split
  ·exact Nat.le_trans (by omega) (Ty.fews_ge most d l _)
  ·exact Nat.le_refl _
theorem Ty.few_pos (most:Nat):∀(d:Nat) (t:Ty),1≤Ty.few most d t
 |0,t=>by rw[Ty.few_zero];omega
 |d+1,t=>by rw[Ty.few_succ];exact Ty.fews_ge _ _ _ _
theorem Ty.fews_size {most d:Nat} (h:∀t:Ty,Ty.few most d t≤most→t.size=Ty.few most d t):∀(l:List Ty) (n:Nat),Ty.fews most d n l≤most→Ty.fews most d n l=n+Ty.sizes l
 | [],n,_=>rfl
 |t::l,n,hn=>by
  rw[Ty.fews] at hn ⊢
  split
  ·rename_i hc
   rw[if_pos hc] at hn
   rw[Ty.fews_size h l _ hn]
   have:=Ty.fews_ge most d l (n+Ty.few most d t)
   rw[Ty.sizes,h t (by omega)];omega
  ·rename_i hc
   rw[if_neg hc] at hn;omega
theorem Ty.few_size (most:Nat):∀(d:Nat) (t:Ty),Ty.few most d t≤most→t.size=Ty.few most d t
 |0,t,h=>by rw[Ty.few_zero] at h;omega
 |d+1,t,h=>by
  rw[Ty.few_succ] at h ⊢
  rw[Ty.fews_size (Ty.few_size most d) _ _ h,t.size_eq]
theorem bd_le {d m:Nat} (hd:d≤1000) (hm:m≤1000):(d+1)*(m+1)≤1002001:=Nat.mul_le_mul (show d+1≤1001 by omega) (show m+1≤1001 by omega)
theorem tyfew_calls {most:Nat} (hmost:most≤1000):∀(d:Nat) (t:Ty),d≤999→PureIs Tryz.prog 111 [t.enc,nI most,nI d] (nI (Ty.few most d t:Nat)):=by
 intro d
 induction d with
 |zero=>
  intro t _
  rw[Ty.enc_eq,Ty.few_zero]
  refine vc111_ok (ITE.pos (by decide) ?_)
  rw[wrap_n (by omega)]
 |succ d ih=>
  intro t hd
  rw[Ty.enc_eq,Ty.few_succ]
  refine vc111_ok (ITE.neg (decide_eq_false (by omega)) ?_)
  refine LoopP.intro (fun p:Nat×Nat=>(((most:Int),((d+1:Nat):Int),(),(p.2:Int),(p.1:Int),()),((t.args.map Ty.enc,t.base,()),())))
   (fun p=>p.1≤t.args.length∧p.1+1≤p.2∧p.2≤(d+2)*(most+1)∧Ty.fews most d 1 t.args=Ty.fews most d p.2 (t.args.drop p.1)) (fun p=>t.args.length-p.1) (0,1) rfl
   ⟨Nat.zero_le _,Nat.le_refl _,by have:1*1≤(d+2)*(most+1):=Nat.mul_le_mul (by omega) (by omega);dsimp only;omega,rfl⟩ ?_
  intro ⟨k,n⟩ ⟨hk,hkn,hn,hs⟩ again hag
  dsimp only at hk hkn hn hs ⊢
  have hbd:(d+2)*(most+1)≤1002001:=bd_le (d:=d+1) (m:=most) (by omega) hmost
  rw[List.length_map]
  refine ITE.intro (fun h=>?_) fun h=>?_
  ·have hlt:k<t.args.length:=by simpa using h
   rw[Ty.fews_drop hlt] at hs
   refine ITE.intro (fun h=>?_) fun h=>?_
   ·have hm:n≤most:=by simpa using h
    rw[if_pos hm] at hs
    have hi:=ih t.args[k] (by omega)
    have hb:=Ty.few_bd most d t.args[k]
    have hp:=Ty.few_pos most d t.args[k]
    rw[Ty.enc_eq] at hi
    refine⟨by omega,by omega,_,_,Ty.enc_getD hlt,(Ty.few most d t.args[k]:Nat),?_,?_⟩
    ·rw[wrap_i (n:=((d+1:Nat):Int)-1) (by omega) (by omega),show ((d+1:Nat):Int)-1=(d:Int) from by omega]
     exact hi
    ·have e:(d+2)*(most+1)=(d+1)*(most+1)+(most+1):=by rw[Nat.add_mul,Nat.add_mul];omega
     rw[wrap_n (by omega),wrap_i (n:=(n:Int)+(Ty.few most d t.args[k]:Nat)) (by omega) (by omega),show (n:Int)+(Ty.few most d t.args[k]:Nat)=((n+Ty.few most d t.args[k]:Nat):Int) from by omega]
     exact hag (k+1,n+Ty.few most d t.args[k]) ⟨by dsimp only;omega,by dsimp only;omega,by dsimp only;omega,hs⟩ (by dsimp only;omega)
   ·have hm:¬n≤most:=by simpa using h
    rw[if_neg hm] at hs
    rw[hs]
  ·have:t.args.length≤k:=by simpa using h
   rw[List.drop_eq_nil_of_le this] at hs
   rw[hs];rfl
def Ty.fewB (most d:Nat) (t:Ty):Bool:=decide (Ty.few most d t≤most)
theorem Ty.fewB_size {most d:Nat} {t:Ty} (h:Ty.fewB most d t=true):t.size≤most:=by
 have h':Ty.few most d t≤most:=by simpa [Ty.fewB] using h
 rw[Ty.few_size most d t h'];exact h'
theorem tyFew_calls {most d:Nat} {t:Ty} (hmost:most≤1000) (hd:d≤999):PureIs Tryz.prog 71 [t.enc,nI most,nI d] (nB (Ty.fewB most d t)):=by
 have h:=tyfew_calls hmost d t hd
 rw[Ty.enc_eq] at h ⊢
 refine vc71_ok ⟨_,h,?_⟩
 simp only[Ty.fewB,Int.ofNat_le]
theorem tysize_calls:∀(n:Nat) (t:Ty),t.size≤n→n≤1000000000→PureIs Tryz.prog 142 [t.enc] (nI (t.size:Nat)):=by
 intro n
 induction n with
 |zero=>intro t h;have:=t.size_pos;omega
 |succ n ih=>
  intro t h hn
  have hq:=Ty.sizes_len t.args
  have hts:=t.size_eq
  rw[Ty.enc_eq]
  refine vc142_ok ?_
  unfold vc142 vc142_L3
  refine LoopP.intro (fun k:Nat=>(((),((1+Ty.sizes (t.args.take k):Nat):Int),(k:Int),()),((t.args.map Ty.enc,t.base,()),())))
   (fun k=>k≤t.args.length) (fun k=>t.args.length-k) 0 (by simp[Ty.sizes]) (Nat.zero_le _) ?_
  intro k hk again hag
  dsimp only
  rw[List.length_map]
  refine ITE.intro (fun h=>?_) fun h=>?_
  ·have hlt:k<t.args.length:=by simpa using h
   have hi:=ih t.args[k] (by have:=Ty.arg_size hlt;omega) (by omega)
   have hsn:Ty.sizes (t.args.take (k+1))=Ty.sizes (t.args.take k)+t.args[k].size:=by
    rw[←take_snoc' hlt,Ty.sizes_append];simp[Ty.sizes]
   have hle:Ty.sizes (t.args.take (k+1))≤Ty.sizes t.args:=by
    have e:=Ty.sizes_append (t.args.take (k+1)) (t.args.drop (k+1))
    rw[List.take_append_drop] at e;omega
   rw[Ty.enc_eq] at hi
   refine⟨by omega,by omega,_,_,Ty.enc_getD hlt,_,hi,?_⟩
   rw[wrap_n (by omega),wrap_i (n:=((1+Ty.sizes (t.args.take k):Nat):Int)+(t.args[k].size:Nat)) (by omega) (by omega),
    show ((1+Ty.sizes (t.args.take k):Nat):Int)+(t.args[k].size:Nat)=((1+Ty.sizes (t.args.take (k+1)):Nat):Int) from by omega]
   exact hag (k+1) (by omega) (by omega)
  ·have:t.args.length≤k:=by simpa using h
   rw[List.take_of_length_le this,←t.size_eq]
def fewBs (most d:Nat):Nat→List Ty→Option Nat
 |n,[]=>some n
 |n,t::l=>if n≤most then(if Ty.few most d t≤most then fewBs most d (n+t.size) l else none) else some n
mutual
def Tm.few (most:Nat):Nat→Tm→Nat
 |d,.mk b _ _ a=>(match d with
  |0=>most+1
  |d+1=>(match fewBs most (d+1) 1 b with
   |none=>most+1
   |some n=>Tm.fews most d n a))
def Tm.fews (most:Nat):Nat→Nat→List Tm→Nat
 |_,n,[]=>n
 |d,n,t::l=>if n≤most then Tm.fews most d (n+Tm.few most d t) l else n
end
theorem Tm.few_zero (most:Nat) (t:Tm):Tm.few most 0 t=most+1:=by cases t;rfl
theorem Tm.few_succ (most d:Nat) (t:Tm):Tm.few most (d+1) t=(match fewBs most (d+1) 1 t.binds with
   |none=>most+1
   |some n=>Tm.fews most d n t.args):=by cases t;rfl
theorem Tm.fews_drop {most d n:Nat} {l:List Tm} {k:Nat} (h:k<l.length):Tm.fews most d n (l.drop k)=if n≤most then Tm.fews most d (n+Tm.few most d l[k]) (l.drop (k+1)) else n:=by
 rw[List.drop_eq_getElem_cons h,Tm.fews]
theorem fewBs_drop {most d n:Nat} {l:List Ty} {k:Nat} (h:k<l.length):fewBs most d n (l.drop k)=if n≤most then(if Ty.few most d l[k]≤most then fewBs most d (n+l[k].size) (l.drop (k+1)) else none) else some n:=by
 rw[List.drop_eq_getElem_cons h,fewBs]
theorem fewBs_bd {most d:Nat}:∀{l:List Ty} {n m:Nat},fewBs most d n l=some m→n≤2*most+1→n≤m∧m≤2*most+1∧(m≤most→m=n+Ty.sizes l)
 | [],n,m,h,hn=>by
  simp only[fewBs,Option.some.injEq] at h
  subst h
  exact⟨Nat.le_refl _,hn,fun _=>rfl⟩
 |t::l,n,m,h,hn=>by
  rw[fewBs] at h
  split at h
  ·split at h
   ·rename_i h1 h2
    have hsz:=Ty.few_size most d t h2
    obtain⟨g1,g2,g3⟩:=fewBs_bd h (by omega)
    refine⟨by omega,g2,fun hm=>?_⟩
    rw[g3 hm,Ty.sizes];omega
   ·cases h
  ·rename_i h1
   obtain rfl:=Option.some.inj h
   exact⟨Nat.le_refl _,hn,fun hm=>(h1 hm).elim⟩
theorem Tm.fews_bd {most d:Nat} (h:∀t:Tm,Tm.few most d t≤(d+2)*(most+1)):∀(l:List Tm) (n:Nat),n≤(d+3)*(most+1)→Tm.fews most d n l≤(d+3)*(most+1)
 | [],n,hn=>hn
 |t::l,n,hn=>by
  rw[Tm.fews]
  split
  ·refine Tm.fews_bd h l _ ?_
   have:=h t
   have e:(d+3)*(most+1)=(d+2)*(most+1)+(most+1):=by rw[Nat.add_mul,Nat.add_mul];omega
   omega
  ·exact hn
theorem Tm.few_bd (most:Nat):∀(d:Nat) (t:Tm),Tm.few most d t≤(d+2)*(most+1)
 |0,t=>by rw[Tm.few_zero];omega
 |d+1,t=>by
  rw[Tm.few_succ]
  split
  ·show most+1≤(d+1+2)*(most+1)
   have:1*(most+1)≤(d+1+2)*(most+1):=Nat.mul_le_mul (by omega) (Nat.le_refl _)
   rw[Nat.one_mul] at this;exact this
  ·rename_i n hn
   refine Tm.fews_bd (Tm.few_bd most d) _ _ ?_
   have:=(fewBs_bd hn (by omega)).2.1
   have:2*(most+1)≤(d+3)*(most+1):=Nat.mul_le_mul (by omega) (Nat.le_refl _)
   omega
theorem Tm.fews_ge (most d:Nat):∀(l:List Tm) (n:Nat),n≤Tm.fews most d n l
 | [],n=>Nat.le_refl _
 |t::l,n=>by
  rw[Tm.fews]
  split
  ·exact Nat.le_trans (by omega) (Tm.fews_ge most d l _)
  ·exact Nat.le_refl _
theorem Tm.few_pos (most:Nat):∀(d:Nat) (t:Tm),1≤Tm.few most d t
 |0,t=>by rw[Tm.few_zero];omega
 |d+1,t=>by
  rw[Tm.few_succ]
  split
  ·show 1≤most+1
   omega
  ·rename_i n hn
   exact Nat.le_trans (fewBs_bd hn (by omega)).1 (Tm.fews_ge _ _ _ _)
theorem Tm.fews_size {most d:Nat} (h:∀t:Tm,Tm.few most d t≤most→t.size=Tm.few most d t):∀(l:List Tm) (n:Nat),Tm.fews most d n l≤most→Tm.fews most d n l=n+Tm.sizes l
 | [],n,_=>rfl
 |t::l,n,hn=>by
  rw[Tm.fews] at hn ⊢
  split
  ·rename_i hc
   rw[if_pos hc] at hn
   rw[Tm.fews_size h l _ hn]
   have:=Tm.fews_ge most d l (n+Tm.few most d t)
   rw[Tm.sizes,h t (by omega)];omega
  ·rename_i hc
   rw[if_neg hc] at hn;omega
theorem Tm.few_size (most:Nat):∀(d:Nat) (t:Tm),Tm.few most d t≤most→t.size=Tm.few most d t
 |0,t,h=>by rw[Tm.few_zero] at h;omega
 |d+1,t,h=>by
  rw[Tm.few_succ] at h ⊢
  split
  ·rename_i hn
   rw[hn] at h;simp only at h;omega
  ·rename_i n hn
   rw[hn] at h
   simp only at h
   have h1:=Tm.fews_ge most d t.args n
   rw[Tm.fews_size (Tm.few_size most d) _ _ h,t.size_eq,(fewBs_bd hn (by omega)).2.2 (by omega)]
theorem tmfew_calls {most:Nat} (hmost:most≤1000):∀(d:Nat) (t:Tm),d≤900→PureIs Tryz.prog 110 [t.enc,nI most,nI d] (nI (Tm.few most d t:Nat)):=by
 intro d
 induction d with
 |zero=>
  intro t _
  rw[Tm.enc_eq,Tm.few_zero]
  refine vc110_ok (ITE.pos (by decide) ?_)
  rw[wrap_n (by omega)]
 |succ d ih=>
  intro t hd
  rw[Tm.enc_eq,Tm.few_succ]
  have hbd:(d+3)*(most+1)≤1002001:=bd_le (d:=d+2) (m:=most) (by omega) hmost
  have h2:2*(most+1)≤(d+3)*(most+1):=Nat.mul_le_mul (by omega) (Nat.le_refl _)
  have args:∀n:Nat,1≤n→n≤2*most+1→vc110_L11 (((most:Int),((d+1:Nat):Int),(),(n:Int),0,()),((t.binds.map Ty.enc,t.kind,t.index,t.args.map Tm.enc,()),())) (fun x=>x=nI (Tm.fews most d n t.args:Nat)):=by
   intro n hn1 hn2
   refine LoopP.intro (fun p:Nat×Nat=>(((most:Int),((d+1:Nat):Int),(),(p.2:Int),(p.1:Int),()),((t.binds.map Ty.enc,t.kind,t.index,t.args.map Tm.enc,()),())))
    (fun p=>p.1≤t.args.length∧p.1+1≤p.2∧p.2≤(d+3)*(most+1)∧Tm.fews most d n t.args=Tm.fews most d p.2 (t.args.drop p.1)) (fun p=>t.args.length-p.1) (0,n) rfl
    ⟨Nat.zero_le _,by dsimp only;omega,by dsimp only;omega,rfl⟩ ?_
   intro ⟨k,m⟩ ⟨hk,hkn,hm2,hs⟩ again hag
   dsimp only at hk hkn hm2 hs ⊢
   rw[List.length_map]
   refine ITE.intro (fun h=>?_) fun h=>?_
   ·have hlt:k<t.args.length:=by simpa using h
    rw[Tm.fews_drop hlt] at hs
    refine ITE.intro (fun h=>?_) fun h=>?_
    ·have hm:m≤most:=by simpa using h
     rw[if_pos hm] at hs
     have hi:=ih t.args[k] (by omega)
     have hb:=Tm.few_bd most d t.args[k]
     have hp:=Tm.few_pos most d t.args[k]
     rw[Tm.enc_eq] at hi
     refine⟨by omega,by omega,_,_,_,_,Tm.enc_getD hlt,(Tm.few most d t.args[k]:Nat),?_,?_⟩
     ·rw[wrap_i (n:=((d+1:Nat):Int)-1) (by omega) (by omega),show ((d+1:Nat):Int)-1=(d:Int) from by omega]
      exact hi
     ·have e:(d+3)*(most+1)=(d+2)*(most+1)+(most+1):=by rw[Nat.add_mul,Nat.add_mul];omega
      rw[wrap_n (by omega),wrap_i (n:=(m:Int)+(Tm.few most d t.args[k]:Nat)) (by omega) (by omega),show (m:Int)+(Tm.few most d t.args[k]:Nat)=((m+Tm.few most d t.args[k]:Nat):Int) from by omega]
      exact hag (k+1,m+Tm.few most d t.args[k]) ⟨by dsimp only;omega,by dsimp only;omega,by dsimp only;omega,hs⟩ (by dsimp only;omega)
    ·have hm:¬m≤most:=by simpa using h
     rw[if_neg hm] at hs
     rw[hs]
   ·have:t.args.length≤k:=by simpa using h
    rw[List.drop_eq_nil_of_le this] at hs
    rw[hs];rfl
  refine vc110_ok (ITE.neg (decide_eq_false (by omega)) ?_)
  refine LoopP.intro (fun p:Nat×Nat=>(((most:Int),((d+1:Nat):Int),(),(p.2:Int),(p.1:Int),()),((t.binds.map Ty.enc,t.kind,t.index,t.args.map Tm.enc,()),())))
   (fun p=>p.1≤t.binds.length∧p.1+1≤p.2∧p.2≤2*most+1∧fewBs most (d+1) 1 t.binds=fewBs most (d+1) p.2 (t.binds.drop p.1)) (fun p=>t.binds.length-p.1) (0,1) rfl
   ⟨Nat.zero_le _,Nat.le_refl _,by dsimp only;omega,rfl⟩ ?_
  intro ⟨k,n⟩ ⟨hk,hkn,hn,hs⟩ again hag
  dsimp only at hk hkn hn hs ⊢
  rw[List.length_map]
  refine ITE.intro (fun h=>?_) fun h=>?_
  ·have hlt:k<t.binds.length:=by simpa using h
   rw[fewBs_drop hlt] at hs
   refine ITE.intro (fun h=>?_) fun h=>?_
   ·have hm:n≤most:=by simpa using h
    rw[if_pos hm] at hs
    have hi:=tyFew_calls (most:=most) (d:=d+1) (t:=t.binds[k]) hmost (by omega)
    rw[Ty.enc_eq] at hi
    refine⟨by omega,by omega,_,_,Ty.enc_getD hlt,_,hi,ITE.intro (fun h=>?_) fun h=>?_⟩
    ·have hf:¬Ty.few most (d+1) t.binds[k]≤most:=by simpa [Ty.fewB] using h
     rw[if_neg hf] at hs
     rw[hs,wrap_n (by omega)]
    ·have hf:Ty.few most (d+1) t.binds[k]≤most:=by simpa [Ty.fewB] using h
     rw[if_pos hf] at hs
     have hsz:=Ty.few_size most (d+1) _ hf
     have hz:=tysize_calls _ t.binds[k] (Nat.le_refl _) (by omega)
     have hp:=t.binds[k].size_pos
     rw[Ty.enc_eq] at hz
     refine⟨by omega,by omega,_,_,Ty.enc_getD hlt,_,hz,?_⟩
     rw[wrap_n (by omega),wrap_i (n:=(n:Int)+(t.binds[k].size:Nat)) (by omega) (by omega),show (n:Int)+(t.binds[k].size:Nat)=((n+t.binds[k].size:Nat):Int) from by omega]
     exact hag (k+1,n+t.binds[k].size) ⟨by dsimp only;omega,by dsimp only;omega,by dsimp only;omega,hs⟩ (by dsimp only;omega)
   ·have hm:¬n≤most:=by simpa using h
    rw[if_neg hm] at hs
    rw[hs]
    exact args n (by omega) (by omega)
  ·have:t.binds.length≤k:=by simpa using h
   rw[List.drop_eq_nil_of_le this] at hs
   rw[hs]
   exact args n (by omega) (by omega)
def Tm.fewB (most d:Nat) (t:Tm):Bool:=decide (Tm.few most d t≤most)
theorem Tm.fewB_size {most d:Nat} {t:Tm} (h:Tm.fewB most d t=true):t.size≤most:=by
 have h':Tm.few most d t≤most:=by simpa [Tm.fewB] using h
 rw[Tm.few_size most d t h'];exact h'
theorem tmFew_calls {most d:Nat} {t:Tm} (hmost:most≤1000) (hd:d≤900):PureIs Tryz.prog 69 [t.enc,nI most,nI d] (nB (Tm.fewB most d t)):=by
 have h:=tmfew_calls hmost d t hd
 rw[Tm.enc_eq] at h ⊢
 refine vc69_ok ⟨_,h,?_⟩
 simp only[Tm.fewB,Int.ofNat_le]
theorem few_calls {l:List Tm} (hl:l.length≤1000000000):PureIs Tryz.prog 31 [.sl (l.map Tm.enc)] (nB (l.all (Tm.fewB 150 70))):=by
 refine vc31_ok ?_
 unfold vc31
 refine LoopP.intro (fun k:Nat=>((l.map Tm.enc,(k:Int),()),())) (fun k=>k≤l.length∧l.all (Tm.fewB 150 70)=(l.drop k).all (Tm.fewB 150 70)) (fun k=>l.length-k) 0 rfl ⟨Nat.zero_le _,rfl⟩ ?_
 intro k ⟨hk,hs⟩ again hag
 dsimp only
 rw[List.length_map]
 refine ITE.intro (fun h=>?_) fun h=>?_
 ·have hlt:k<l.length:=by simpa using h
  rw[List.drop_eq_getElem_cons hlt,List.all_cons] at hs
  have hi:=tmFew_calls (most:=150) (d:=70) (t:=l[k]) (by decide) (by decide)
  rw[Tm.enc_eq] at hi
  refine⟨by omega,by omega,_,_,_,_,Tm.enc_getD hlt,_,hi,ITE.intro (fun h=>?_) fun h=>?_⟩
  ·have:Tm.fewB 150 70 l[k]=false:=by simpa using h
   rw[hs,this,Bool.false_and]
  ·have:Tm.fewB 150 70 l[k]=true:=by simpa using h
   rw[this,Bool.true_and] at hs
   rw[wrap_n (by omega)]
   exact hag (k+1) ⟨by omega,hs⟩ (by omega)
 ·have:l.length≤k:=by simpa using h
  rw[List.drop_eq_nil_of_le this] at hs
  rw[hs];rfl
mutual
def Tm.low:Tm→Bool
 | .mk _ k i a=>!(k==0&&decide (i>900000))&&Tm.lows a
def Tm.lows:List Tm→Bool
 | []=>true
 |t::l=>Tm.low t&&Tm.lows l
end
theorem Tm.low_eq (t:Tm):Tm.low t=(!(t.kind==0&&decide (t.index>900000))&&Tm.lows t.args):=by cases t;rfl
theorem Tm.lows_drop {l:List Tm} {k:Nat} (h:k<l.length):Tm.lows (l.drop k)=(Tm.low l[k]&&Tm.lows (l.drop (k+1))):=by
 rw[List.drop_eq_getElem_cons h,Tm.lows]
theorem low_calls:∀(n:Nat) (l:List Tm),Tm.sizes l≤n→n≤1000000000→PureIs Tryz.prog 112 [.sl (l.map Tm.enc)] (nB (Tm.lows l)):=by
 intro n
 induction n with
 |zero=>
  intro l h hn
  cases l with
  |nil=>
   refine vc112_ok ?_
   unfold vc112
   refine LoopP.intro (fun _:Unit=>(([],0,()),())) (fun _=>True) (fun _=>0) () rfl True.intro ?_
   intro _ _ again hag
   exact ITE.neg rfl rfl
  |cons t l=>have:=t.size_pos;simp[Tm.sizes] at h;omega
 |succ n ih=>
  intro l h hn
  have hq:=Tm.sizes_len l
  refine vc112_ok ?_
  unfold vc112
  refine LoopP.intro (fun k:Nat=>((l.map Tm.enc,(k:Int),()),())) (fun k=>k≤l.length∧Tm.lows l=Tm.lows (l.drop k)) (fun k=>l.length-k) 0 rfl ⟨Nat.zero_le _,rfl⟩ ?_
  intro k ⟨hk,hs⟩ again hag
  dsimp only
  rw[List.length_map]
  refine ITE.intro (fun h'=>?_) fun h'=>?_
  ·have hlt:k<l.length:=by simpa using h'
   rw[Tm.lows_drop hlt,Tm.low_eq] at hs
   have hsz:=Tm.sizes_mem (List.getElem_mem hlt)
   have hi:=ih l[k].args (by have:=l[k].size_eq;omega) (by omega)
   have rest:(l[k].kind==0&&decide (l[k].index>900000))=false→ITE (!(Tm.lows l[k].args)) (nB false=nB (Tm.lows l)) (again ((l.map Tm.enc,IntKind.wrap .i64 ((k:Int)+1),()),())):=by
    intro hc
    rw[hc,Bool.not_false,Bool.true_and] at hs
    refine ITE.intro (fun h=>?_) fun h=>?_
    ·have:Tm.lows l[k].args=false:=by simpa using h
     rw[hs,this,Bool.false_and]
    ·have:Tm.lows l[k].args=true:=by simpa using h
     rw[this,Bool.true_and] at hs
     rw[wrap_n (by omega)]
     exact hag (k+1) ⟨by omega,hs⟩ (by omega)
   refine⟨by omega,by omega,_,_,_,_,Tm.enc_getD hlt,ITE.intro (fun h=>?_) fun h=>?_⟩
   ·refine⟨by omega,by omega,_,_,_,_,Tm.enc_getD hlt,ITE.intro (fun h2=>?_) fun h2=>?_⟩
    ·rw[h,h2] at hs
     rw[hs];rfl
    ·exact⟨by omega,by omega,_,_,_,_,Tm.enc_getD hlt,_,hi,rest (by rw[h,h2];rfl)⟩
   ·exact⟨by omega,by omega,_,_,_,_,Tm.enc_getD hlt,_,hi,rest (by rw[h];rfl)⟩
  ·have:l.length≤k:=by simpa using h'
   rw[List.drop_eq_nil_of_le this] at hs
   rw[hs];rfl
def smallB (c m b:List Ty):Bool:=decide (c.length≤20∧m.length≤20∧b.length≤20)&&(c++m++b).all (Ty.fewB 60 60)
theorem small_calls (n:Int) (c m b:List Ty):PureIs Tryz.prog 32 [.agg [nI n,.sl (c.map Ty.enc),.sl (m.map Ty.enc)],.sl (b.map Ty.enc)] (nB (smallB c m b)):=by
 refine vc32_ok ?_
 unfold vc32
 rw[List.length_map,List.length_map,List.length_map]
 refine ITE.intro (fun h=>?_) fun h=>?_
 ·have h':¬c.length≤20:=by simp at h;omega
  rw[smallB,decide_eq_false (fun x=>h' x.1),Bool.false_and]
 have hc:c.length≤20:=by simp at h;omega
 refine ITE.intro (fun h=>?_) fun h=>?_
 ·have h':¬m.length≤20:=by simp at h;omega
  rw[smallB,decide_eq_false (fun x=>h' x.2.1),Bool.false_and]
 have hm:m.length≤20:=by simp at h;omega
 refine ITE.intro (fun h=>?_) fun h=>?_
 ·have h':¬b.length≤20:=by simp at h;omega
  rw[smallB,decide_eq_false (fun x=>h' x.2.2),Bool.false_and]
 have hb:b.length≤20:=by simp at h;omega
 have hsb:smallB c m b=(c++m++b).all (Ty.fewB 60 60):=by rw[smallB,decide_eq_true ⟨hc,hm,hb⟩,Bool.true_and]
 refine⟨_,behind_calls (by omega) (by omega),_,behind_calls (by simp;omega) (by omega),?_⟩
 have hlen:(c++m++b).length≤60:=by simp;omega
 rw[hsb]
 generalize c++m++b=l at hlen
 refine LoopP.intro (fun k:Nat=>((l.map Ty.enc,(k:Int),()),((n,c.map Ty.enc,m.map Ty.enc,()),()))) (fun k=>k≤l.length∧l.all (Ty.fewB 60 60)=(l.drop k).all (Ty.fewB 60 60)) (fun k=>l.length-k) 0 rfl ⟨Nat.zero_le _,rfl⟩ ?_
 intro k ⟨hk,hs⟩ again hag
 dsimp only
 rw[List.length_map]
 refine ITE.intro (fun h=>?_) fun h=>?_
 ·have hlt:k<l.length:=by simpa using h
  rw[List.drop_eq_getElem_cons hlt,List.all_cons] at hs
  have hi:=tyFew_calls (most:=60) (d:=60) (t:=l[k]) (by decide) (by decide)
  rw[Ty.enc_eq] at hi
  refine⟨by omega,by omega,_,_,Ty.enc_getD hlt,_,hi,ITE.intro (fun h=>?_) fun h=>?_⟩
  ·have:Ty.fewB 60 60 l[k]=false:=by simpa using h
   rw[hs,this,Bool.false_and]
  ·have:Ty.fewB 60 60 l[k]=true:=by simpa using h
   rw[this,Bool.true_and] at hs
   rw[wrap_n (by omega)]
   exact hag (k+1) ⟨by omega,hs⟩ (by omega)
 ·have:l.length≤k:=by simpa using h
  rw[List.drop_eq_nil_of_le this] at hs
  rw[hs];rfl
end Go.Proofs.YtjhanogfpkbamaaGreatDoor

namespace Go.Proofs.YtjhanogfpkbamaaGreatDoor
open Go
set_option linter.unusedSimpArgs false
set_option linter.unusedVariables false
inductive Rw where
 |mk (kind:Int) (type:Ty) (index:Int) (kids:List Rw)
mutual
def Rw.size:Rw→Nat
 | .mk _ _ _ l=>1+Rw.sizes l
def Rw.sizes:List Rw→Nat
 | []=>0
 |t::l=>Rw.size t+Rw.sizes l
end
def Rw.kids:Rw→List Rw | .mk _ _ _ l=>l
theorem Rw.size_eq (r:Rw):r.size=1+Rw.sizes r.kids:=by cases r;rfl
end Go.Proofs.YtjhanogfpkbamaaGreatDoor

namespace Go.Proofs.YtjhanogfpkbamaaGreatDoor
open Go Go.Shelf
set_option linter.unusedSimpArgs false
set_option linter.unusedVariables false
theorem pow_tab {w:World} (h:Glob w):Lib.TabIs Tryz.prog w "internal/strconv.uint64pow10" .u64 Lib.pow10Tab:=by
 obtain⟨T,h1⟩:=h (laids.head (by decide)) (List.head_mem _)
 unfold Lib.TabIs World.var?
 rw[show Tryz.prog.globalNamed "internal/strconv.uint64pow10"=some (laids.head (by decide)).1 from by kernel_rfl]
 simp only[Option.bind_some,h1]
 rfl
def numW (k:Int):ByteArray:=⟨(Lib.itoa k).toArray⟩
theorem itoa_calls {k:Int} (hk:I64 k):PureIs Tryz.prog 115 [nI k] (nS (numW k)):=by
 refine⟨⟨_,Tryz.func115,by kernel_rfl,by kernel_rfl⟩,fun w F vals hF hg hv=>?_⟩
 match vals,hv with
 | [v0],⟨r0,_⟩=>
  cases r0
  refine callsIn_wide.2 ((Any.strconv_Itoa layM171 k hk.1 (by have:=hk.2;omega) w (pow_tab hg)).mono ?_)
  rintro e w' ⟨rfl,n,os,rfl⟩
  refine⟨_,_,rfl,rfl,⟨rfl,rfl,rfl,?_,fun j hj=>?_⟩,.prim _⟩
  ·show w.heap.size≤(w.heap++os).size
   rw[Array.size_append];omega
  ·show (w.heap++os)[j]?=_
   rw[Array.getElem?_append_left hj]
theorem numW_size {k:Int} (hk:I64 k):(numW k).size≤30:=by
 have h1:=hk.1
 have h2:=hk.2
 have:=Lib.itoa_length_le k h1 (by omega)
 show (Lib.itoa k).toArray.size≤30
 rw[List.size_toArray];omega
end Go.Proofs.YtjhanogfpkbamaaGreatDoor

namespace Go.Proofs.YtjhanogfpkbamaaGreatDoor
open Go
set_option linter.unusedSimpArgs false
set_option linter.unusedVariables false
theorem WriteByte_calls {us:List AV} {c:Int} (h:us.length+1≤1000000000):HFn Tryz.prog 41 [.ptr 0 0,.prim (.int .u8 c)] (bl us)
  (fun r hp'=>r=.top∧hp'=bl (us++[.prim (.int .u8 c)])):=
 HFn.res (R:=fun r hp'=>r=.prim (.nilIface)∧hp'=bl (us++[.prim (.int .u8 c)])) (vc41_ok ⟨_,copyCheck_calls,fun r q ⟨h1,h2⟩=>⟨us,⟨h1,h2⟩,rfl,appOk_one rfl (by rw[List.length_append];simp;omega) (by decide),by rw[List.length_append];simp,rfl,rfl⟩⟩)
  fun r h' ⟨h1,h2⟩=>⟨_,fun w F η hp v _=>.top v,rfl,h2⟩
abbrev PrO (t:ByteArray) (e:Int):List AObj:=prO (strAV t).length (strAV t) e
def endsNL (t:ByteArray):Bool:=decide (t.extract (t.size-1) t.size=(⟨#[10]⟩:ByteArray))
def put1 (t w:ByteArray):ByteArray:=(if(!decide (t=(⟨#[]⟩:ByteArray))&&!endsNL t)=true then t++(⟨#[32]⟩:ByteArray) else t)++w
def puts (t:ByteArray) (l:List ByteArray):ByteArray:=l.foldl put1 t
def wtB:List ByteArray→Nat
 | []=>0
 |w::l=>w.size+1+wtB l
theorem put1_size {t w:ByteArray}:(put1 t w).size≤t.size+(w.size+1):=by
 unfold put1
 split<;>simp only[bsz,sz1]<;>omega
theorem puts_size:∀{l:List ByteArray} {t:ByteArray},(puts t l).size≤t.size+wtB l
 | [],t=>Nat.le_refl _
 |w::l,t=>by
  have h1:=puts_size (l:=l) (t:=put1 t w)
  have h2:=put1_size (t:=t) (w:=w)
  show (puts (put1 t w) l).size≤_
  rw[wtB];omega
theorem puts_app {t:ByteArray} {a b:List ByteArray}:puts t (a++b)=puts (puts t a) b:=List.foldl_append
theorem wtB_app:∀{a b:List ByteArray},wtB (a++b)=wtB a+wtB b
 | [],b=>by simp[wtB]
 |w::a,b=>by rw[List.cons_append,wtB,wtB,wtB_app];omega
theorem puts_take {t:ByteArray} {l:List ByteArray} {k:Nat} (h:k<l.length):puts t (l.take (k+1))=put1 (puts t (l.take k)) l[k]:=by
 rw[←take_snoc' h,puts_app];rfl
theorem wtB_mem {l:List ByteArray} {k:Nat} (h:k<l.length):wtB (l.take k)+(l[k].size+1)≤wtB l:=by
 have e:l.take k++(l[k]::l.drop (k+1))=l:=by rw[←List.drop_eq_getElem_cons h,List.take_append_drop]
 have:=congrArg wtB e
 rw[wtB_app,wtB] at this
 omega
theorem hasSuffix_calls {s:ByteArray} (hs:s.size≤1000000000):PureIs Tryz.prog 79 [nS s,nS (⟨#[10]⟩:ByteArray)] (nB (endsNL s)):=by
 refine vc79_ok ⟨_,vc114_ok (R:=fun r=>r=nB (endsNL s)) (ITE.intro (fun h=>?_) fun h=>?_),rfl⟩
 ·have h:1≤s.size:=by have:=of_decide_eq_true h;rw[sz1] at this;omega
  have w:IntKind.wrap .i64 (((s.size:Nat):Int)-(((⟨#[10]⟩:ByteArray).size:Nat):Int))=((s.size-1:Nat):Int):=by rw[sz1,wrap_i (by omega) (by omega)];omega
  rw[w]
  refine⟨⟨by omega,by omega,by omega⟩,?_⟩
  rw[strEq_iff];rfl
 ·have h:s.size=0:=by have:=of_decide_eq_false h;rw[sz1] at this;omega
  have:endsNL s=false:=by
   unfold endsNL
   refine decide_eq_false fun e=>?_
   have:=congrArg ByteArray.size e
   rw[ByteArray.size_extract,sz1] at this;omega
  rw[this]
theorem put_calls {t:ByteArray} {e:Int} {ws:List ByteArray} (h:∀w∈ws,w.size≠0) (hb:t.size+wtB ws≤100000000):
  HFn Tryz.prog 37 [.ptr 2 0,.sl (ws.map nS)] (PrO t e) (fun r q=>r=.tup []∧q=PrO (puts t ws) e):=by
 have hl:ws.length≤wtB ws:=by
  clear h hb
  induction ws with
  |nil=>simp
  |cons w l ih=>rw[wtB,List.length_cons];omega
 refine vc37_ok ⟨rfl,?_⟩
 rw[List.length_map]
 refine LoopP.intro (fun k:Nat=>(((),ws.map nS,((ws.length:Nat):Int),(k:Int),()),((),strAV (puts t (ws.take k)),((),e,()),()))) (fun k=>k≤ws.length) (fun k=>ws.length-k) 0 rfl (Nat.zero_le _) ?_
 intro k hk again hag
 dsimp only
 refine ITE.intro (fun h1=>?_) fun h1=>?_
 ·have hlt:k<ws.length:=by have:=of_decide_eq_true h1;omega
  have hne:=h _ (List.getElem_mem hlt)
  have hz:=puts_size (l:=ws.take k) (t:=t)
  have hm:=wtB_mem hlt
  have fin:∀{l:List AV},l=strAV (puts t (ws.take (k+1)))→again (((),ws.map nS,((ws.length:Nat):Int),IntKind.wrap .i64 ((k:Int)+1),()),((),l,((),e,()),())):=fun hl=>by
   subst hl
   rw[wrap_n (by omega)]
   exact hag (k+1) hlt (by omega)
  rw[puts_take hlt] at fin
  generalize hT:puts t (ws.take k)=T at hz fin ⊢
  refine⟨by omega,by rw[List.length_map];omega,_,getD_map hlt,_,String_live,fun r q ⟨e1,e2⟩=>⟨_,_,⟨e1,e2⟩,?_⟩⟩
  have plain:(!decide (T=(⟨#[]⟩:ByteArray))&&!endsNL T)=false→callX 80 [.ptr 0 0,nS ws[k]] (bl (strAV T)) fun r66 q67=>∃l68 i69,(r66=.tup [nI i69,.top]∧q67=[.bld 1 (List.length l68),.row 5 1 l68])∧(List.length l68)=List.length l68∧
    again (((),ws.map nS,((ws.length:Nat):Int),IntKind.wrap .i64 ((k:Int)+1),()),((),l68,((),e,()),())):=fun hp=>
   ⟨_,wr_calls hne (by rw[strAV_len];omega),fun r q ⟨e1,e2⟩=>⟨_,_,⟨e1,e2⟩,rfl,fin (by rw[put1,if_neg (by rw[hp];decide),strAV_app])⟩⟩
  refine ITE.intro (fun h2=>?_) fun h2=>?_
  ·rw[strEq_iff] at h2
   refine⟨_,hasSuffix_calls (by omega),ITE.intro (fun h3=>?_) fun h3=>plain (by rw[h2,h3];rfl)⟩
   refine⟨_,WriteByte_calls (by rw[strAV_len];omega),fun r q ⟨e1,e2⟩=>⟨_,⟨e1,e2⟩,_,wr_calls hne (by rw[List.length_append,strAV_len];simp;omega),fun r q ⟨e1,e2⟩=>⟨_,_,⟨e1,e2⟩,rfl,fin ?_⟩⟩⟩
   rw[put1,if_pos (by rw[h2,h3];rfl),strAV_app,strAV_app];rfl
  ·rw[strEq_iff] at h2
   exact plain (by rw[h2];rfl)
 ·have:ws.length≤k:=by have:=of_decide_eq_false h1;omega
  rw[List.take_of_length_le this]
  exact⟨rfl,rfl⟩
theorem putC_calls {t:ByteArray} {e:Int} {ws:List ByteArray} (h:∀w∈ws,w.size≠0) (hb:t.size+wtB ws≤100000000):
  HFn Tryz.prog 37 [.ptr 2 0,.clip (ws.map nS)] (PrO t e) (fun r q=>r=.tup []∧q=PrO (puts t ws) e):=
 HFn.argsW (ys:=[.ptr 2 0,.sl (ws.map nS)]) ⟨RepW.refl _,repW_clip _,True.intro⟩ (put_calls h hb)
def numOk (n:Int):Bool:=decide (0≤n∧n≤999999999)
def errIf (ok:Bool) (e:Int):Int:=if ok=true then e else 1
theorem number_calls {t:ByteArray} {e n:Int} (hn:I64 n):HFn Tryz.prog 81 [.ptr 2 0,nI n] (PrO t e) (fun r q=>r=nS (numW n)∧q=PrO t (errIf (numOk n) e)):=by
 refine vc81_ok (ITE.intro (fun h=>?_) fun h=>ITE.intro (fun h2=>?_) fun h2=>?_)
 ·have h:n<0:=of_decide_eq_true h
  refine⟨_,itoa_calls hn,rfl,?_⟩
  rw[errIf,if_neg];simp[numOk];omega
 ·have h2:n>999999999:=of_decide_eq_true h2
  refine⟨_,itoa_calls hn,rfl,?_⟩
  rw[errIf,if_neg];simp[numOk];omega
 ·have h:=of_decide_eq_false h
  have h2:=of_decide_eq_false h2
  refine⟨_,itoa_calls hn,rfl,?_⟩
  rw[errIf,if_pos];simp[numOk];omega
end Go.Proofs.YtjhanogfpkbamaaGreatDoor

namespace Go.Proofs.YtjhanogfpkbamaaGreatDoor
open Go
set_option linter.unusedSimpArgs false
set_option linter.unusedVariables false
mutual
def Ty.Ok:Ty→Prop
 | .mk l b=>I64 b∧Ty.Oks l
def Ty.Oks:List Ty→Prop
 | []=>True
 |t::l=>Ty.Ok t∧Ty.Oks l
end
mutual
def Tm.Full:Tm→Prop
 | .mk b k i a=>Ty.Oks b∧I64 k∧I64 i∧Tm.Fulls a
def Tm.Fulls:List Tm→Prop
 | []=>True
 |t::l=>Tm.Full t∧Tm.Fulls l
end
theorem Ty.oks_mem:∀{l:List Ty},Ty.Oks l→∀t∈l,t.Ok
 | [],_,t,h=>by cases h
 |u::l,h,t,ht=>by
  rcases List.mem_cons.1 ht with rfl|ht
  ·exact h.1
  ·exact Ty.oks_mem h.2 t ht
theorem Tm.fulls_mem:∀{l:List Tm},Tm.Fulls l→∀t∈l,t.Full
 | [],_,t,h=>by cases h
 |u::l,h,t,ht=>by
  rcases List.mem_cons.1 ht with rfl|ht
  ·exact h.1
  ·exact Tm.fulls_mem h.2 t ht
theorem Ty.ok_eq {t:Ty} (h:t.Ok):I64 t.base∧Ty.Oks t.args:=by cases t;exact h
theorem Tm.full_eq {t:Tm} (h:t.Full):Ty.Oks t.binds∧I64 t.kind∧I64 t.index∧Tm.Fulls t.args:=by cases t;exact h
abbrev lbW:ByteArray:=⟨#[91]⟩
abbrev rbW:ByteArray:=⟨#[93]⟩
abbrev opW:ByteArray:=⟨#[40]⟩
abbrev clW:ByteArray:=⟨#[41]⟩
abbrev laW:ByteArray:=⟨#[92]⟩
abbrev dtW:ByteArray:=⟨#[46]⟩
def pinW {α:Type} (a b:ByteArray) (l:List α) (f:List ByteArray):List ByteArray:=if l.isEmpty=true then[] else a::(f++[b])
def tokTy:Nat→Ty→List ByteArray
 |0,_=>[]
 |d+1,t=>numW t.base::pinW lbW rbW t.args (t.args.flatMap (tokTy d))
def okTy:Nat→Ty→Bool
 |0,_=>false
 |d+1,t=>numOk t.base&&t.args.all (okTy d)
def letW (k:Int):ByteArray:=(⟨#[98,99,109]⟩:ByteArray).extract k.toNat (k.toNat+1)
def kOk (k:Int):Bool:=decide (0≤k∧k<3)
def tokTm:Nat→Tm→List ByteArray
 |0,_=>[]
 |d+1,t=>if kOk t.kind=true then pinW laW dtW t.binds (t.binds.flatMap (tokTy d))++(letW t.kind++numW t.index)::pinW opW clW t.args (t.args.flatMap (tokTm d)) else[]
def okTm:Nat→Tm→Bool
 |0,_=>false
 |d+1,t=>kOk t.kind&&(t.binds.all (okTy d)&&(numOk t.index&&t.args.all (okTm d)))
theorem errIf_and {a b:Bool} {e:Int}:errIf a (errIf b e)=errIf (b&&a) e:=by cases a<;>cases b<;>rfl
theorem flatM_take {α β:Type} {l:List α} {k:Nat} (f:α→List β) (h:k<l.length):(l.take (k+1)).flatMap f=(l.take k).flatMap f++f l[k]:=by rw[←take_snoc' h,List.flatMap_append];simp
theorem all_take {α:Type} {l:List α} {k:Nat} (f:α→Bool) (h:k<l.length):(l.take (k+1)).all f=((l.take k).all f&&f l[k]):=by rw[←take_snoc' h,List.all_append];simp
theorem flat_wt {α:Type} {f:α→List ByteArray} {g:α→Nat}:∀{l:List α},(∀x∈l,wtB (f x)≤g x)→wtB (l.flatMap f)≤(l.map g).sum
 | [],_=>Nat.le_refl _
 |x::l,h=>by
  rw[List.flatMap_cons,wtB_app,List.map_cons,List.sum_cons]
  have h1:=h x List.mem_cons_self
  have h2:=flat_wt (l:=l) fun y hy=>h y (List.mem_cons_of_mem _ hy)
  omega
theorem flat_take_wt {α:Type} {f:α→List ByteArray} {l:List α} {k:Nat} (h:k≤l.length):wtB ((l.take k).flatMap f)≤wtB (l.flatMap f):=by
 have:(l.take k).flatMap f++(l.drop k).flatMap f=l.flatMap f:=by rw[←List.flatMap_append,List.take_append_drop]
 rw[←this,wtB_app];omega
theorem pinW_wt {α:Type} {a b:ByteArray} {l:List α} {f:List ByteArray} (ha:a.size=1) (hb:b.size=1):wtB (pinW a b l f)≤4+wtB f:=by
 unfold pinW
 split
 ·simp[wtB]
 ·rw[wtB,wtB_app,wtB,wtB,ha,hb];omega
theorem Ty.sizes_sum (c:Nat) (l:List Ty):(l.map fun t=>c*t.size).sum=c*Ty.sizes l:=by
 induction l with
 |nil=>rfl
 |cons t l ih=>rw[List.map_cons,List.sum_cons,ih,Ty.sizes,Nat.mul_add]
theorem Tm.sizes_sum (c:Nat) (l:List Tm):(l.map fun t=>c*t.size).sum=c*Tm.sizes l:=by
 induction l with
 |nil=>rfl
 |cons t l ih=>rw[List.map_cons,List.sum_cons,ih,Tm.sizes,Nat.mul_add]
theorem tokTy_wt:∀(d:Nat) (t:Ty),t.Ok→wtB (tokTy d t)≤50*t.size
 |0,t,_=>Nat.zero_le _
 |d+1,t,h=>by
  have hb:=numW_size (Ty.ok_eq h).1
  have h1:=flat_wt (l:=t.args) fun x hx=>tokTy_wt d x (Ty.oks_mem (Ty.ok_eq h).2 x hx)
  rw[Ty.sizes_sum] at h1
  have h2:=pinW_wt (a:=lbW) (b:=rbW) (l:=t.args) (f:=t.args.flatMap (tokTy d)) rfl rfl
  rw[tokTy,wtB,t.size_eq]
  omega
theorem letW_size {k:Int}:(letW k).size≤1:=by
 unfold letW
 rw[ByteArray.size_extract];omega
theorem tokTm_wt:∀(d:Nat) (t:Tm),t.Full→wtB (tokTm d t)≤50*t.size
 |0,t,_=>Nat.zero_le _
 |d+1,t,h=>by
  obtain⟨q1,q2,q3,q4⟩:=Tm.full_eq h
  have hb:=numW_size q3
  have h1:=flat_wt (l:=t.args) fun x hx=>tokTm_wt d x (Tm.fulls_mem q4 x hx)
  rw[Tm.sizes_sum] at h1
  have h2:=pinW_wt (a:=opW) (b:=clW) (l:=t.args) (f:=t.args.flatMap (tokTm d)) rfl rfl
  have h3:=flat_wt (l:=t.binds) fun x hx=>tokTy_wt d x (Ty.oks_mem q1 x hx)
  rw[Ty.sizes_sum] at h3
  have h4:=pinW_wt (a:=laW) (b:=dtW) (l:=t.binds) (f:=t.binds.flatMap (tokTy d)) rfl rfl
  have h5:=letW_size (k:=t.kind)
  rw[tokTm,t.size_eq]
  split
  ·rw[wtB_app,wtB,bsz];omega
  ·exact Nat.zero_le _
theorem dec_ne (u:Nat):Lib.decDigits u≠[]:=by
 rw[Lib.decDigits]
 split<;>simp
theorem numW_ne {k:Int}:(numW k).size≠0:=by
 have h:Lib.itoa k≠[]:=by
  unfold Lib.itoa
  split
  ·simp
  ·exact dec_ne _
 intro e
 exact h (List.eq_nil_of_length_eq_zero (by simpa using (show (Lib.itoa k).toArray.size=0 from e)))
end Go.Proofs.YtjhanogfpkbamaaGreatDoor

namespace Go.Proofs.YtjhanogfpkbamaaGreatDoor
open Go
set_option linter.unusedSimpArgs false
set_option linter.unusedVariables false
def Prints (f:Nat) (args:List AV) (l:List ByteArray) (ok:Bool) (c:Nat):Prop:=
 ∀(t:ByteArray) (e:Int),t.size+c≤100000000→HFn Tryz.prog f args (PrO t e) (fun r q=>r=.tup []∧q=PrO (puts t l) (errIf ok e))
theorem put1_calls {t w:ByteArray} {e:Int} (h:w.size≠0) (hb:t.size+(w.size+1)≤100000000):
  HFn Tryz.prog 37 [.ptr 2 0,.clip [nS w]] (PrO t e) (fun r q=>r=.tup []∧q=PrO (puts t [w]) e):=
 putC_calls (ws:=[w]) (fun x hx=>by rw[List.mem_singleton.1 hx];exact h) (by rw[wtB,wtB];omega)
theorem prTy_calls:∀(d:Nat) (t:Ty),d≤60→t.Ok→t.size≤1000000→Prints 38 [.ptr 2 0,t.enc,nI ((60-d:Nat):Int)] (tokTy d t) (okTy d t) (50*t.size)
 |0,t,_,h,_=>fun b e hb=>by
  rw[Ty.enc_eq]
  exact vc38_ok (ITE.pos rfl ⟨rfl,rfl⟩)
 |d+1,t,hd,h,hz=>fun b e hb=>by
  obtain⟨hi,hl⟩:=Ty.ok_eq h
  have hw:=tokTy_wt (d+1) t h
  have hn:=numW_size hi
  have hsz:=t.size_eq
  have hll:=Ty.sizes_len t.args
  have hfw:=flat_wt (f:=tokTy d) (g:=fun u=>50*u.size) (l:=t.args) fun x hx=>tokTy_wt d x (Ty.oks_mem hl x hx)
  rw[Ty.sizes_sum] at hfw
  rw[Ty.enc_eq]
  refine vc38_ok (ITE.neg ?_ ⟨_,number_calls hi,fun r q ⟨e1,e2⟩=>⟨_,_,_,⟨e1,e2⟩,_,put1_calls numW_ne (by omega),fun r q ⟨e1,e2⟩=>⟨_,_,⟨e1,e2⟩,?_⟩⟩⟩)
  ·rw[beq_eq_false_iff_ne];omega
  rw[List.length_map]
  have hp1:=puts_size (t:=b) (l:=[numW t.base])
  rw[wtB,wtB] at hp1
  refine ITE.intro (fun h1=>?_) fun h1=>?_
  ·have h1:0<t.args.length:=by have:=of_decide_eq_true h1;omega
   have hne:t.args.isEmpty=false:=by cases ha:t.args with|nil=>rw[ha] at h1;simp at h1|cons _ _=>rfl
   refine⟨_,put1_calls (w:=lbW) (by decide) (by rw[sz1];omega),fun r q ⟨e1,e2⟩=>⟨_,_,⟨e1,e2⟩,rfl,?_⟩⟩
   have hp2:=puts_size (t:=puts b [numW t.base]) (l:=[lbW])
   rw[wtB,wtB,sz1] at hp2
   have e0:puts (puts b [numW t.base]) [lbW]=puts b [numW t.base,lbW]:=rfl
   refine LoopP.intro (fun k:Nat=>(((),((60-(d+1):Nat):Int),t.args.map Ty.enc,((t.args.length:Nat):Int),(k:Int),()),((),strAV (puts (puts b [numW t.base,lbW]) ((t.args.take k).flatMap (tokTy d))),((),errIf (numOk t.base&&(t.args.take k).all (okTy d)) e,()),(t.args.map Ty.enc,t.base,()),())))
    (fun k=>k≤t.args.length) (fun k=>t.args.length-k) 0 (by rw[List.take_zero,List.flatMap_nil,List.all_nil,Bool.and_true];rfl) (Nat.zero_le _) ?_
   intro k hk again hag
   dsimp only
   have hfk:=flat_take_wt (f:=tokTy d) hk
   have hp3:=puts_size (t:=puts b [numW t.base,lbW]) (l:=(t.args.take k).flatMap (tokTy d))
   rw[e0] at hp2
   refine ITE.intro (fun h2=>?_) fun h2=>?_
   ·have hlt:k<t.args.length:=by have:=of_decide_eq_true h2;omega
    have hmem:=List.getElem_mem hlt
    have hms:=Ty.sizes_mem hmem
    have hrec:=prTy_calls d t.args[k] (by omega) (Ty.oks_mem hl _ hmem) (by omega) (puts (puts b [numW t.base,lbW]) ((t.args.take k).flatMap (tokTy d))) (errIf (numOk t.base&&(t.args.take k).all (okTy d)) e) (by
     have hfs:=flat_wt (f:=tokTy d) (g:=fun u=>50*u.size) (l:=t.args.take k) fun x hx=>tokTy_wt d x (Ty.oks_mem hl x (List.mem_of_mem_take hx))
     rw[Ty.sizes_sum] at hfs
     have hsum:Ty.sizes (t.args.take k)+t.args[k].size≤Ty.sizes t.args:=by
      have e1:t.args.take k++(t.args[k]::t.args.drop (k+1))=t.args:=by rw[←List.drop_eq_getElem_cons hlt,List.take_append_drop]
      have:=congrArg Ty.sizes e1
      rw[Ty.sizes_append,Ty.sizes] at this;omega
     omega)
    have ew:IntKind.wrap .i64 (((60-(d+1):Nat):Int)+1)=((60-d:Nat):Int):=by rw[wrap_i (by omega) (by omega)];omega
    rw[Ty.enc_eq] at hrec
    rw[ew]
    refine⟨by omega,by rw[List.length_map];omega,_,_,Ty.enc_getD hlt,_,hrec,fun r q ⟨e1,e2⟩=>⟨_,_,⟨e1,e2⟩,rfl,?_⟩⟩
    rw[wrap_n (by omega),←puts_app,errIf_and,Bool.and_assoc,←all_take _ hlt,←flatM_take _ hlt]
    exact hag (k+1) hlt (by omega)
   ·have hge:t.args.length≤k:=by have:=of_decide_eq_false h2;omega
    obtain rfl:k=t.args.length:=by omega
    refine⟨_,put1_calls (w:=rbW) (by decide) (by rw[sz1];omega),fun r q ⟨e1,e2⟩=>⟨_,_,⟨e1,e2⟩,rfl,?_⟩⟩
    rw[List.take_length,tokTy,okTy,pinW,hne,←puts_app,←puts_app]
    rfl
  ·have h1:t.args.length=0:=by have:=of_decide_eq_false h1;omega
   have ha:=List.eq_nil_of_length_eq_zero h1
   rw[tokTy,okTy,ha,List.all_nil,Bool.and_true]
   exact⟨rfl,rfl⟩
end Go.Proofs.YtjhanogfpkbamaaGreatDoor

namespace Go.Proofs.YtjhanogfpkbamaaGreatDoor
open Go
set_option linter.unusedSimpArgs false
set_option linter.unusedVariables false
theorem Tm.sizes_take {l:List Tm} {k:Nat} (h:k<l.length):Tm.sizes (l.take k)+l[k].size≤Tm.sizes l:=by
 have e1:l.take k++(l[k]::l.drop (k+1))=l:=by rw[←List.drop_eq_getElem_cons h,List.take_append_drop]
 have:=congrArg Tm.sizes e1
 rw[Tm.sizes_append,Tm.sizes] at this;omega
theorem Ty.sizes_take {l:List Ty} {k:Nat} (h:k<l.length):Ty.sizes (l.take k)+l[k].size≤Ty.sizes l:=by
 have e1:l.take k++(l[k]::l.drop (k+1))=l:=by rw[←List.drop_eq_getElem_cons h,List.take_append_drop]
 have:=congrArg Ty.sizes e1
 rw[Ty.sizes_append,Ty.sizes] at this;omega
theorem tys_wt {d:Nat} {l:List Ty} (h:Ty.Oks l):wtB (l.flatMap (tokTy d))≤50*Ty.sizes l:=by
 have:=flat_wt (f:=tokTy d) (g:=fun u=>50*u.size) (l:=l) fun x hx=>tokTy_wt d x (Ty.oks_mem h x hx)
 rwa [Ty.sizes_sum] at this
theorem tms_wt {d:Nat} {l:List Tm} (h:Tm.Fulls l):wtB (l.flatMap (tokTm d))≤50*Tm.sizes l:=by
 have:=flat_wt (f:=tokTm d) (g:=fun u=>50*u.size) (l:=l) fun x hx=>tokTm_wt d x (Tm.fulls_mem h x hx)
 rwa [Tm.sizes_sum] at this
theorem Ty.oks_take {l:List Ty} {k:Nat} (h:Ty.Oks l):Ty.Oks (l.take k):=by
 induction l generalizing k with
 |nil=>simp[Ty.Oks]
 |cons t l ih=>cases k with
  |zero=>exact True.intro
  |succ k=>exact⟨h.1,ih h.2⟩
theorem Tm.fulls_take {l:List Tm} {k:Nat} (h:Tm.Fulls l):Tm.Fulls (l.take k):=by
 induction l generalizing k with
 |nil=>simp[Tm.Fulls]
 |cons t l ih=>cases k with
  |zero=>exact True.intro
  |succ k=>exact⟨h.1,ih h.2⟩
theorem isEmpty_pos {α:Type} {l:List α} (h:0<l.length):l.isEmpty=false:=by
 cases l with
 |nil=>simp at h
 |cons _ _=>rfl
abbrev PrR (b:ByteArray) (l:List ByteArray) (ok:Bool) (e:Int):AV→List AObj→Prop:=fun r q=>r=.tup []∧q=PrO (puts b l) (errIf ok e)
theorem prTm_calls:∀(d:Nat) (t:Tm),d≤60→t.Full→t.size≤1000000→Prints 39 [.ptr 2 0,t.enc,nI ((60-d:Nat):Int)] (tokTm d t) (okTm d t) (50*t.size)
 |0,t,_,h,_=>fun b e hb=>by
  rw[Tm.enc_eq]
  exact vc39_ok (ITE.pos rfl ⟨rfl,rfl⟩)
 |d+1,t,hd,h,hz=>fun b e hb=>by
  obtain⟨hbs,hk,hi,hl⟩:=Tm.full_eq h
  have hn:=numW_size hi
  have hsz:=t.size_eq
  have hll:=Tm.sizes_len t.args
  have hlb:=Ty.sizes_len t.binds
  have hfw:=tms_wt (d:=d) hl
  have hfb:=tys_wt (d:=d) hbs
  have hlw:=letW_size (k:=t.kind)
  rw[Tm.enc_eq]
  refine vc39_ok (ITE.neg ?_ (ITE.intro (fun h1=>?_) fun h1=>ITE.intro (fun h2=>?_) fun h2=>?_))
  ·rw[beq_eq_false_iff_ne];omega
  ·have:kOk t.kind=false:=by have:=of_decide_eq_true h1;exact decide_eq_false (by omega)
   rw[tokTm,okTm,this];exact⟨rfl,rfl⟩
  ·have:kOk t.kind=false:=by have:=of_decide_eq_true h2;exact decide_eq_false (by omega)
   rw[tokTm,okTm,this];exact⟨rfl,rfl⟩
  have h1:=of_decide_eq_false h1
  have h2:=of_decide_eq_false h2
  have hkk:kOk t.kind=true:=decide_eq_true (by omega)
  have ewk:IntKind.wrap .i64 (t.kind+1)=t.kind+1:=wrap_i (by omega) (by omega)
  have elet:ByteArray.extract (⟨#[98,99,109]⟩:ByteArray) (Int.toNat t.kind) (Int.toNat (IntKind.wrap .i64 (t.kind+1)))=letW t.kind:=by
   rw[ewk,letW,show Int.toNat (t.kind+1)=t.kind.toNat+1 by omega]
  have bounds:0≤t.kind∧t.kind≤(IntKind.wrap .i64 (t.kind+1))∧(IntKind.wrap .i64 (t.kind+1))≤((⟨#[98,99,109]⟩:ByteArray).size:Int):=by
   rw[ewk,show (⟨#[98,99,109]⟩:ByteArray).size=3 from rfl];omega
  have rest:∀(T:ByteArray) (E:Int),T.size+(40+50*Tm.sizes t.args)≤100000000→
    ByteArray.size (ByteArray.extract (⟨#[98,99,109]⟩:ByteArray) (Int.toNat t.kind) (Int.toNat (IntKind.wrap .i64 (t.kind+1))))+ByteArray.size (numW t.index)≤9223372036854775807∧
    callX 37 [.ptr 2 0,.clip [nS ((ByteArray.extract (⟨#[98,99,109]⟩:ByteArray) (Int.toNat t.kind) (Int.toNat (IntKind.wrap .i64 (t.kind+1))))++numW t.index)]] (PrO T (errIf (numOk t.index) E)) fun r60 q61=>
    ∃l62 i63,(r60=.tup []∧q61=(prO (List.length l62) l62 i63))∧
    ITE (decide (((List.length (t.args.map Tm.enc):Nat):Int)>0))
    (callX 37 [.ptr 2 0,.clip [nS (⟨#[40]⟩:ByteArray)]] (prO (List.length l62) l62 i63) fun r65 q66=>
    ∃l67 i68,(r65=.tup []∧q66=(prO (List.length l67) l67 i68))∧(List.length l67)=List.length l67∧
    vc39_L15 (((),((60-(d+1):Nat):Int),t.args.map Tm.enc,((List.length (t.args.map Tm.enc):Nat):Int),0,()),((),l67,((),i68,()),(t.binds.map Ty.enc,t.kind,t.index,t.args.map Tm.enc,()),()))
     (PrR T ((letW t.kind++numW t.index)::pinW opW clW t.args (t.args.flatMap (tokTm d))) (numOk t.index&&t.args.all (okTm d)) E))
    ((PrR T ((letW t.kind++numW t.index)::pinW opW clW t.args (t.args.flatMap (tokTm d))) (numOk t.index&&t.args.all (okTm d)) E) (.tup []) (prO (List.length l62) l62 i63)):=by
   intro T E hT
   rw[elet]
   have hws:(letW t.kind++numW t.index).size≤31:=by rw[bsz];omega
   refine⟨by omega,_,put1_calls (by rw[bsz];have:=numW_ne (k:=t.index);omega) (by omega),fun r q ⟨e1,e2⟩=>⟨_,_,⟨e1,e2⟩,?_⟩⟩
   rw[List.length_map]
   have hp1:=puts_size (t:=T) (l:=[letW t.kind++numW t.index])
   rw[wtB,wtB] at hp1
   refine ITE.intro (fun h3=>?_) fun h3=>?_
   ·have h3:0<t.args.length:=by have:=of_decide_eq_true h3;omega
    refine⟨_,put1_calls (w:=opW) (by decide) (by rw[sz1];omega),fun r q ⟨e1,e2⟩=>⟨_,_,⟨e1,e2⟩,rfl,?_⟩⟩
    have hp2:=puts_size (t:=puts T [letW t.kind++numW t.index]) (l:=[opW])
    rw[wtB,wtB,sz1] at hp2
    rw[←puts_app] at hp2 ⊢
    rw[List.cons_append,List.nil_append] at hp2 ⊢
    generalize hA:puts T [letW t.kind++numW t.index,opW]=A at hp2 ⊢
    refine LoopP.intro (fun k:Nat=>(((),((60-(d+1):Nat):Int),t.args.map Tm.enc,((t.args.length:Nat):Int),(k:Int),()),((),strAV (puts A ((t.args.take k).flatMap (tokTm d))),((),errIf (numOk t.index&&(t.args.take k).all (okTm d)) E,()),(t.binds.map Ty.enc,t.kind,t.index,t.args.map Tm.enc,()),())))
     (fun k=>k≤t.args.length) (fun k=>t.args.length-k) 0 (by rw[List.take_zero,List.flatMap_nil,List.all_nil,Bool.and_true];rfl) (Nat.zero_le _) ?_
    intro k hk again hag
    dsimp only
    have hfk:=flat_take_wt (f:=tokTm d) hk
    have hp3:=puts_size (t:=A) (l:=(t.args.take k).flatMap (tokTm d))
    refine ITE.intro (fun h4=>?_) fun h4=>?_
    ·have hlt:k<t.args.length:=by have:=of_decide_eq_true h4;omega
     have hmem:=List.getElem_mem hlt
     have hms:=Tm.sizes_mem hmem
     have hrec:=prTm_calls d t.args[k] (by omega) (Tm.fulls_mem hl _ hmem) (by omega) (puts A ((t.args.take k).flatMap (tokTm d))) (errIf (numOk t.index&&(t.args.take k).all (okTm d)) E) (by
      have h5:=tms_wt (d:=d) (Tm.fulls_take (k:=k) hl)
      have h6:=Tm.sizes_take hlt
      omega)
     have ew:IntKind.wrap .i64 (((60-(d+1):Nat):Int)+1)=((60-d:Nat):Int):=by rw[wrap_i (by omega) (by omega)];omega
     rw[Tm.enc_eq] at hrec
     unfold vc39_R16
     rw[ew]
     refine⟨by omega,by rw[List.length_map];omega,_,_,_,_,Tm.enc_getD hlt,_,hrec,fun r q ⟨e1,e2⟩=>⟨_,_,⟨e1,e2⟩,rfl,?_⟩⟩
     rw[wrap_n (by omega),←puts_app,errIf_and,Bool.and_assoc,←all_take _ hlt,←flatM_take _ hlt]
     exact hag (k+1) hlt (by omega)
    ·have hge:t.args.length≤k:=by have:=of_decide_eq_false h4;omega
     obtain rfl:k=t.args.length:=by omega
     refine⟨_,put1_calls (w:=clW) (by decide) (by rw[sz1];omega),fun r q ⟨e1,e2⟩=>⟨_,_,⟨e1,e2⟩,rfl,?_⟩⟩
     rw[List.take_length,pinW,isEmpty_pos h3,←hA,←puts_app,←puts_app]
     rfl
   ·have h3:t.args.length=0:=by have:=of_decide_eq_false h3;omega
    have ha:=List.eq_nil_of_length_eq_zero h3
    rw[ha,List.all_nil,Bool.and_true]
    exact⟨rfl,rfl⟩
  have L1:∀(T:ByteArray) (E:Int),T.size+(40+50*Tm.sizes t.args)≤100000000→vc39_L11 t.kind t.index (strAV T).length (strAV T) E (t.args.map Tm.enc) ((60-(d+1):Nat):Int) (t.binds.map Ty.enc) (PrR T ((letW t.kind++numW t.index)::pinW opW clW t.args (t.args.flatMap (tokTm d))) (numOk t.index&&t.args.all (okTm d)) E):=
   fun T E hT=>⟨bounds,_,number_calls hi,fun r q ⟨e1,e2⟩=>⟨_,_,_,⟨e1,e2⟩,rest T E hT⟩⟩
  have L2:∀(T:ByteArray) (E:Int),T.size+(40+50*Tm.sizes t.args)≤100000000→vc39_L11' t.index (strAV T).length (strAV T) E t.kind (t.args.map Tm.enc) ((60-(d+1):Nat):Int) (t.binds.map Ty.enc) (PrR T ((letW t.kind++numW t.index)::pinW opW clW t.args (t.args.flatMap (tokTm d))) (numOk t.index&&t.args.all (okTm d)) E):=
   fun T E hT=>⟨_,number_calls hi,fun r q ⟨e1,e2⟩=>⟨_,_,_,⟨e1,e2⟩,bounds,rest T E hT⟩⟩
  rw[tokTm,okTm,hkk,if_pos rfl,Bool.true_and]
  refine ITE.intro (fun h3=>?_) fun h3=>?_
  ·rw[List.length_map] at h3
   have h3:0<t.binds.length:=by have:=of_decide_eq_true h3;omega
   refine⟨_,put1_calls (w:=laW) (by decide) (by rw[sz1];omega),fun r q ⟨e1,e2⟩=>⟨_,_,⟨e1,e2⟩,rfl,?_⟩⟩
   rw[List.length_map]
   have hp2:=puts_size (t:=b) (l:=[laW])
   rw[wtB,wtB,sz1] at hp2
   generalize hA:puts b [laW]=A at hp2 ⊢
   refine LoopP.intro (fun k:Nat=>(((),((60-(d+1):Nat):Int),(),t.binds.map Ty.enc,((t.binds.length:Nat):Int),(k:Int),()),((),strAV (puts A ((t.binds.take k).flatMap (tokTy d))),((),errIf ((t.binds.take k).all (okTy d)) e,()),(t.binds.map Ty.enc,t.kind,t.index,t.args.map Tm.enc,()),())))
    (fun k=>k≤t.binds.length) (fun k=>t.binds.length-k) 0 (by rw[List.take_zero,List.flatMap_nil,List.all_nil];rfl) (Nat.zero_le _) ?_
   intro k hkl again hag
   dsimp only
   have hfk:=flat_take_wt (f:=tokTy d) hkl
   have hp3:=puts_size (t:=A) (l:=(t.binds.take k).flatMap (tokTy d))
   refine ITE.intro (fun h4=>?_) fun h4=>?_
   ·have hlt:k<t.binds.length:=by have:=of_decide_eq_true h4;omega
    have hmem:=List.getElem_mem hlt
    have hms:=Ty.sizes_mem hmem
    have hrec:=prTy_calls d t.binds[k] (by omega) (Ty.oks_mem hbs _ hmem) (by omega) (puts A ((t.binds.take k).flatMap (tokTy d))) (errIf ((t.binds.take k).all (okTy d)) e) (by
     have h5:=tys_wt (d:=d) (Ty.oks_take (k:=k) hbs)
     have h6:=Ty.sizes_take hlt
     omega)
    have ew:IntKind.wrap .i64 (((60-(d+1):Nat):Int)+1)=((60-d:Nat):Int):=by rw[wrap_i (by omega) (by omega)];omega
    rw[Ty.enc_eq] at hrec
    rw[ew]
    refine⟨by omega,by rw[List.length_map];omega,_,_,Ty.enc_getD hlt,_,hrec,fun r q ⟨e1,e2⟩=>⟨_,_,⟨e1,e2⟩,rfl,?_⟩⟩
    rw[wrap_n (by omega),←puts_app,errIf_and,←all_take _ hlt,←flatM_take _ hlt]
    exact hag (k+1) hlt (by omega)
   ·have hge:t.binds.length≤k:=by have:=of_decide_eq_false h4;omega
    obtain rfl:k=t.binds.length:=by omega
    rw[List.take_length] at hp3 ⊢
    refine⟨_,put1_calls (w:=dtW) (by decide) (by rw[sz1];omega),fun r q ⟨e1,e2⟩=>⟨_,_,⟨e1,e2⟩,?_⟩⟩
    have hp4:=puts_size (t:=puts A (t.binds.flatMap (tokTy d))) (l:=[dtW])
    rw[wtB,wtB,sz1] at hp4
    have eR:PrR (puts (puts A (t.binds.flatMap (tokTy d))) [dtW]) ((letW t.kind++numW t.index)::pinW opW clW t.args (t.args.flatMap (tokTm d))) (numOk t.index&&t.args.all (okTm d)) (errIf (t.binds.all (okTy d)) e)=
      PrR b (pinW laW dtW t.binds (t.binds.flatMap (tokTy d))++(letW t.kind++numW t.index)::pinW opW clW t.args (t.args.flatMap (tokTm d))) (t.binds.all (okTy d)&&(numOk t.index&&t.args.all (okTm d))) e:=by
     funext r q
     rw[PrR,PrR,errIf_and,←hA,←puts_app,←puts_app,←puts_app,pinW,pinW,isEmpty_pos h3]
     simp
    have k1:=L1 (puts (puts A (t.binds.flatMap (tokTy d))) [dtW]) (errIf (t.binds.all (okTy d)) e) (by omega)
    have k2:=L2 (puts (puts A (t.binds.flatMap (tokTy d))) [dtW]) (errIf (t.binds.all (okTy d)) e) (by omega)
    rw[eR] at k1 k2
    exact⟨⟨⟨k1,k2⟩,k2⟩,⟨⟨k1,k2⟩,k2⟩,k2⟩
  ·rw[List.length_map] at h3
   have h3:t.binds.length=0:=by have:=of_decide_eq_false h3;omega
   have ha:=List.eq_nil_of_length_eq_zero h3
   have k1:=L1 b e (by omega)
   have k2:=L2 b e (by omega)
   have e1:pinW laW dtW t.binds (t.binds.flatMap (tokTy d))=[]:=by rw[ha];rfl
   have e2:t.binds.all (okTy d)=true:=by rw[ha];rfl
   rw[e1,e2,List.nil_append,Bool.true_and]
   exact⟨⟨⟨k1,k2⟩,k2⟩,⟨⟨k1,k2⟩,k2⟩,k2⟩
end Go.Proofs.YtjhanogfpkbamaaGreatDoor

namespace Go.Proofs.YtjhanogfpkbamaaGreatDoor
open Go
set_option linter.unusedSimpArgs false
set_option linter.unusedVariables false
structure Stp where
 eq:Int
 back:Bool
 path:List Int
 sub:List (Int×Tm)
structure Lem where
 left:Tm
 right:Tm
 metas:List Ty
 steps:List Stp
abbrev tmC (t:Tm):List AV:=[.sl (t.binds.map Ty.enc),nI t.kind,nI t.index,.sl (t.args.map Tm.enc)]
def spEnc (p:Int×Tm):AV:=.agg (nI p.1::tmC p.2)
def Stp.enc (s:Stp):AV:=.agg [nI s.eq,nB s.back,.sl (encInts s.path),.sl (s.sub.map spEnc)]
def Lem.enc (l:Lem):AV:=.agg [.sl (l.left.binds.map Ty.enc),nI l.left.kind,nI l.left.index,.sl (l.left.args.map Tm.enc),.sl (l.right.binds.map Ty.enc),nI l.right.kind,nI l.right.index,.sl (l.right.args.map Tm.enc),.sl (l.metas.map Ty.enc),.sl (l.steps.map Stp.enc)]
def sumB {α:Type} (f:α→Nat):List α→Nat
 | []=>0
 |x::l=>f x+sumB f l
theorem sumB_app {α:Type} {f:α→Nat}:∀{a b:List α},sumB f (a++b)=sumB f a+sumB f b
 | [],b=>by simp[sumB]
 |x::a,b=>by rw[List.cons_append,sumB,sumB,sumB_app];omega
theorem sumB_take {α:Type} {f:α→Nat} {l:List α} {k:Nat} (h:k<l.length):sumB f (l.take k)+f l[k]≤sumB f l:=by
 have e1:l.take k++(l[k]::l.drop (k+1))=l:=by rw[←List.drop_eq_getElem_cons h,List.take_append_drop]
 have:=congrArg (sumB f) e1
 rw[sumB_app,sumB] at this;omega
theorem sumB_le {α:Type} {f:α→Nat} {g:α→List ByteArray}:∀{l:List α},(∀x∈l,wtB (g x)≤f x)→wtB (l.flatMap g)≤sumB f l
 | [],_=>Nat.le_refl _
 |x::l,h=>by
  rw[List.flatMap_cons,wtB_app,sumB]
  have h1:=h x List.mem_cons_self
  have h2:=sumB_le (l:=l) fun y hy=>h y (List.mem_cons_of_mem _ hy)
  omega
structure SpOk (p:Int×Tm):Prop where
 meta_:I64 p.1
 term:p.2.Full
 size:p.2.size≤1000000
structure Stp.Ok (s:Stp):Prop where
 eq:I64 s.eq
 path:∀i∈s.path,I64 i
 sub:∀p∈s.sub,SpOk p
structure Lem.Ok (l:Lem):Prop where
 left:l.left.Full
 right:l.right.Full
 lsize:l.left.size≤1000000
 rsize:l.right.size≤1000000
 metas:∀t∈l.metas,t.Ok∧t.size≤1000000
 steps:∀s∈l.steps,s.Ok
abbrev onW:ByteArray:=⟨#[111,110]⟩
abbrev bkW:ByteArray:=⟨#[98,97,99,107]⟩
abbrev clnW:ByteArray:=⟨#[58]⟩
abbrev cmW:ByteArray:=⟨#[44]⟩
abbrev lcW:ByteArray:=⟨#[123]⟩
abbrev rcW:ByteArray:=⟨#[125]⟩
abbrev smW:ByteArray:=⟨#[59]⟩
def spTok (p:Int×Tm):List ByteArray:=numW p.1::clnW::(tokTm 60 p.2++[cmW])
def spOk (p:Int×Tm):Bool:=numOk p.1&&okTm 60 p.2
def stTok (s:Stp):List ByteArray:=[if s.back=true then bkW else onW,numW s.eq,lbW]++(s.path.map numW++([rbW,lcW]++(s.sub.flatMap spTok++[rcW,smW])))
def stOk (s:Stp):Bool:=numOk s.eq&&(s.path.all numOk&&s.sub.all spOk)
def spW (p:Int×Tm):Nat:=40+50*p.2.size
def stW (s:Stp):Nat:=60+(40*s.path.length+sumB spW s.sub)
theorem spTok_wt {p:Int×Tm} (h:SpOk p):wtB (spTok p)≤spW p:=by
 have h1:=numW_size h.meta_
 have h2:=tokTm_wt 60 p.2 h.term
 unfold spTok spW
 rw[wtB,wtB,wtB_app,wtB,wtB,sz1,sz1];omega
theorem nums_wt:∀{l:List Int},(∀i∈l,I64 i)→wtB (l.map numW)≤40*l.length
 | [],_=>Nat.le_refl _
 |i::l,h=>by
  have h1:=numW_size (h i List.mem_cons_self)
  have h2:=nums_wt (l:=l) fun j hj=>h j (List.mem_cons_of_mem _ hj)
  rw[List.map_cons,wtB,List.length_cons];omega
theorem stTok_wt {s:Stp} (h:s.Ok):wtB (stTok s)≤stW s:=by
 have h1:=numW_size h.eq
 have h2:=nums_wt h.path
 have h3:=sumB_le (f:=spW) (g:=spTok) (l:=s.sub) fun p hp=>spTok_wt (h.sub p hp)
 have h4:(if s.back=true then bkW else onW).size≤4:=by split<;>decide
 unfold stTok stW
 rw[wtB_app,wtB_app,wtB_app,wtB_app]
 simp only[wtB,sz1]
 omega
theorem ne_consW {w:ByteArray} {l:List ByteArray} (hw:w.size≠0) (hl:∀x∈l,x.size≠0):∀x∈w::l,x.size≠0:=fun x hx=>by
 rcases List.mem_cons.1 hx with rfl|hx
 ·exact hw
 ·exact hl x hx
theorem ne_nilW:∀x∈([]:List ByteArray),x.size≠0:=fun x hx=>by cases hx
theorem pstep_calls {s:Stp} (h:s.Ok):Prints 40 [.ptr 2 0,s.enc] (stTok s) (stOk s) (stW s):=fun b e hb=>by
 have hn:=numW_size h.eq
 have hpw:=nums_wt h.path
 have hsw:=sumB_le (f:=spW) (g:=spTok) (l:=s.sub) fun p hp=>spTok_wt (h.sub p hp)
 have hsl:s.sub.length≤sumB spW s.sub:=by
  generalize s.sub=l
  induction l with
  |nil=>exact Nat.zero_le _
  |cons p l ih=>rw[sumB,List.length_cons,spW];omega
 rw[stW] at hb
 unfold Stp.enc
 have rest:∀(w:ByteArray),w.size≤4→w.size≠0→vc40_L6 (((),(),encInts s.path,((List.length (encInts s.path):Nat):Int),0,()),((),strAV (puts b [w,numW s.eq,lbW]),((),errIf (numOk s.eq) e,()),(s.eq,s.back,encInts s.path,s.sub.map spEnc,()),()))
   (PrR b ([w,numW s.eq,lbW]++(s.path.map numW++([rbW,lcW]++(s.sub.flatMap spTok++[rcW,smW])))) (stOk s) e):=by
  intro w hw hw0
  have hp1:=puts_size (t:=b) (l:=[w,numW s.eq,lbW])
  simp only[wtB,sz1] at hp1
  unfold PrR
  rw[puts_app]
  generalize puts b [w,numW s.eq,lbW]=A at hp1 ⊢
  rw[encInts_len]
  refine LoopP.intro (fun k:Nat=>(((),(),encInts s.path,((s.path.length:Nat):Int),(k:Int),()),((),strAV (puts A ((s.path.take k).map numW)),((),errIf (numOk s.eq&&(s.path.take k).all numOk) e,()),(s.eq,s.back,encInts s.path,s.sub.map spEnc,()),())))
   (fun k=>k≤s.path.length) (fun k=>s.path.length-k) 0 (by rw[List.take_zero,List.map_nil,List.all_nil,Bool.and_true];rfl) (Nat.zero_le _) ?_
  intro k hk again hag
  dsimp only
  have hfk:=nums_wt (l:=s.path.take k) fun i hi=>h.path i (List.mem_of_mem_take hi)
  rw[List.length_take,Nat.min_eq_left hk] at hfk
  have hp3:=puts_size (t:=A) (l:=(s.path.take k).map numW)
  refine ITE.intro (fun h1=>?_) fun h1=>?_
  ·have hlt:k<s.path.length:=by have:=of_decide_eq_true h1;omega
   have hi:=h.path _ (List.getElem_mem hlt)
   have hni:=numW_size hi
   unfold vc40_R7
   refine⟨by omega,by rw[encInts_len];omega,_,encInts_getD hlt,_,number_calls hi,fun r q ⟨e1,e2⟩=>⟨_,_,_,⟨e1,e2⟩,_,put1_calls numW_ne (by omega),fun r q ⟨e1,e2⟩=>⟨_,_,⟨e1,e2⟩,rfl,?_⟩⟩⟩
   rw[wrap_n (by omega),←puts_app,errIf_and,Bool.and_assoc,←all_take _ hlt]
   have:(s.path.take k).map numW++[numW s.path[k]]=(s.path.take (k+1)).map numW:=by rw[←take_snoc' hlt,List.map_append];rfl
   rw[this]
   exact hag (k+1) hlt (by omega)
  ·have hge:s.path.length≤k:=by have:=of_decide_eq_false h1;omega
   obtain rfl:k=s.path.length:=by omega
   rw[List.take_length] at hp3 ⊢
   refine⟨_,putC_calls (ws:=[rbW,lcW]) (ne_consW (by decide) (ne_consW (by decide) ne_nilW)) (by simp only[wtB,sz1];omega),fun r q ⟨e1,e2⟩=>⟨_,_,⟨e1,e2⟩,rfl,?_⟩⟩
   have hp4:=puts_size (t:=puts A (s.path.map numW)) (l:=[rbW,lcW])
   simp only[wtB,sz1] at hp4
   rw[puts_app,puts_app]
   generalize puts (puts A (s.path.map numW)) [rbW,lcW]=B at hp4 ⊢
   rw[List.length_map]
   refine LoopP.intro (fun k:Nat=>(((),s.sub.map spEnc,((s.sub.length:Nat):Int),(k:Int),()),((),strAV (puts B ((s.sub.take k).flatMap spTok)),((),errIf ((numOk s.eq&&s.path.all numOk)&&(s.sub.take k).all spOk) e,()),(s.eq,s.back,encInts s.path,s.sub.map spEnc,()),())))
    (fun k=>k≤s.sub.length) (fun k=>s.sub.length-k) 0 (by rw[List.take_zero,List.flatMap_nil,List.all_nil,Bool.and_true];rfl) (Nat.zero_le _) ?_
   intro k hk again hag
   dsimp only
   have hfk:=sumB_le (f:=spW) (g:=spTok) (l:=s.sub.take k) fun p hp=>spTok_wt (h.sub p (List.mem_of_mem_take hp))
   have hp5:=puts_size (t:=B) (l:=(s.sub.take k).flatMap spTok)
   refine ITE.intro (fun h2=>?_) fun h2=>?_
   ·have hlt:k<s.sub.length:=by have:=of_decide_eq_true h2;omega
    have hi:=h.sub _ (List.getElem_mem hlt)
    have hni:=numW_size hi.meta_
    have hst:=sumB_take (f:=spW) hlt
    have hw1:spW s.sub[k]=40+50*s.sub[k].2.size:=rfl
    unfold vc40_R13 vc40_R15
    generalize hC:puts B ((s.sub.take k).flatMap spTok)=C at hp5 ⊢
    have hp6:=puts_size (t:=C) (l:=[numW s.sub[k].1,clnW])
    simp only[wtB,sz1] at hp6
    have ht:=prTm_calls 60 s.sub[k].2 (Nat.le_refl _) hi.term hi.size (puts C [numW s.sub[k].1,clnW]) (errIf (numOk s.sub[k].1) (errIf ((numOk s.eq&&s.path.all numOk)&&(s.sub.take k).all spOk) e)) (by omega)
    have hp7:=puts_size (t:=puts C [numW s.sub[k].1,clnW]) (l:=tokTm 60 s.sub[k].2)
    have hwt:=tokTm_wt 60 _ hi.term
    rw[Tm.enc_eq] at ht
    refine⟨by omega,by rw[List.length_map];omega,_,_,_,_,_,getD_map hlt,_,number_calls hi.meta_,fun r q ⟨e1,e2⟩=>⟨_,_,_,⟨e1,e2⟩,_,putC_calls (ws:=[numW s.sub[k].1,clnW]) (ne_consW numW_ne (ne_consW (by decide) ne_nilW)) (by simp only[wtB,sz1];omega),fun r q ⟨e1,e2⟩=>⟨_,_,⟨e1,e2⟩,?_⟩⟩⟩
    refine⟨_,ht,fun r q ⟨e1,e2⟩=>⟨_,_,⟨e1,e2⟩,_,put1_calls (w:=cmW) (by decide) (by rw[sz1];omega),fun r q ⟨e1,e2⟩=>⟨_,_,⟨e1,e2⟩,rfl,?_⟩⟩⟩
    have e3:puts (puts (puts C [numW s.sub[k].1,clnW]) (tokTm 60 s.sub[k].2)) [cmW]=puts B ((s.sub.take (k+1)).flatMap spTok):=by
     rw[←puts_app,←puts_app,←hC,←puts_app,flatM_take _ hlt];rfl
    have e4:errIf (okTm 60 s.sub[k].2) (errIf (numOk s.sub[k].1) (errIf ((numOk s.eq&&s.path.all numOk)&&(s.sub.take k).all spOk) e))=errIf ((numOk s.eq&&s.path.all numOk)&&(s.sub.take (k+1)).all spOk) e:=by
     rw[errIf_and,errIf_and,all_take _ hlt]
     congr 1
     simp[spOk,Bool.and_assoc]
    rw[wrap_n (by omega),e3,e4]
    exact hag (k+1) hlt (by omega)
   ·have hge:s.sub.length≤k:=by have:=of_decide_eq_false h2;omega
    obtain rfl:k=s.sub.length:=by omega
    rw[List.take_length] at hp5 ⊢
    refine⟨_,putC_calls (ws:=[rcW,smW]) (ne_consW (by decide) (ne_consW (by decide) ne_nilW)) (by simp only[wtB,sz1];omega),fun r q ⟨e1,e2⟩=>⟨_,_,⟨e1,e2⟩,rfl,?_⟩⟩
    rw[puts_app,stOk,Bool.and_assoc]
 refine vc40_ok (ITE.intro (fun h1=>?_) fun h1=>?_)
 ·refine⟨_,number_calls h.eq,fun r q ⟨e1,e2⟩=>⟨_,_,_,⟨e1,e2⟩,_,putC_calls (ws:=[bkW,numW s.eq,lbW]) (ne_consW (by decide) (ne_consW numW_ne (ne_consW (by decide) ne_nilW))) (by simp only[wtB,sz1,show bkW.size=4 from rfl];omega),fun r q ⟨e1,e2⟩=>⟨_,_,⟨e1,e2⟩,rfl,?_⟩⟩⟩
  rw[stTok,if_pos h1]
  exact rest bkW (by decide) (by decide)
 ·refine⟨_,number_calls h.eq,fun r q ⟨e1,e2⟩=>⟨_,_,_,⟨e1,e2⟩,_,putC_calls (ws:=[onW,numW s.eq,lbW]) (ne_consW (by decide) (ne_consW numW_ne (ne_consW (by decide) ne_nilW))) (by simp only[wtB,sz1,show onW.size=2 from rfl];omega),fun r q ⟨e1,e2⟩=>⟨_,_,⟨e1,e2⟩,rfl,?_⟩⟩⟩
  rw[stTok,if_neg (by rw[h1];decide)]
  exact rest onW (by decide) (by decide)
end Go.Proofs.YtjhanogfpkbamaaGreatDoor

namespace Go.Proofs.YtjhanogfpkbamaaGreatDoor
open Go
set_option linter.unusedSimpArgs false
set_option linter.unusedVariables false
abbrev lemW:ByteArray:=⟨#[108,101,109,109,97]⟩
abbrev eqlW:ByteArray:=⟨#[61]⟩
abbrev nlW:ByteArray:=⟨#[10]⟩
def leTok (l:Lem):List ByteArray:=[lemW,lbW]++(l.metas.flatMap (tokTy 60)++([rbW]++(tokTm 60 l.left++([eqlW]++(tokTm 60 l.right++([lcW]++(l.steps.flatMap stTok++[rcW,smW])))))))
def leOk (l:Lem):Bool:=l.metas.all (okTy 60)&&(okTm 60 l.left&&(okTm 60 l.right&&l.steps.all stOk))
def tyW (t:Ty):Nat:=50*t.size
def leW (l:Lem):Nat:=100+(sumB tyW l.metas+(50*l.left.size+(50*l.right.size+sumB stW l.steps)))
def encT (t:ByteArray) (l:Lem):ByteArray:=puts t (leTok l)++nlW
def encTs (t:ByteArray) (l:List Lem):ByteArray:=l.foldl encT t
theorem tys_wt' {d:Nat} {l:List Ty} (h:∀t∈l,t.Ok):wtB (l.flatMap (tokTy d))≤sumB tyW l:=sumB_le fun t ht=>tokTy_wt d t (h t ht)
theorem sts_wt {l:List Stp} (h:∀s∈l,s.Ok):wtB (l.flatMap stTok)≤sumB stW l:=sumB_le fun s hs=>stTok_wt (h s hs)
theorem leTok_wt {l:Lem} (h:l.Ok):wtB (leTok l)+1≤leW l:=by
 have h1:=tys_wt' (d:=60) fun t ht=>(h.metas t ht).1
 have h2:=sts_wt h.steps
 have h3:=tokTm_wt 60 l.left h.left
 have h4:=tokTm_wt 60 l.right h.right
 unfold leTok leW
 simp only[wtB_app,wtB,sz1,show lemW.size=5 from rfl]
 omega
theorem encT_size {t:ByteArray} {l:Lem} (h:l.Ok):(encT t l).size≤t.size+leW l:=by
 have h1:=leTok_wt h
 have h2:=puts_size (t:=t) (l:=leTok l)
 rw[encT,bsz,sz1];omega
theorem encTs_size:∀{l:List Lem} {t:ByteArray},(∀x∈l,x.Ok)→(encTs t l).size≤t.size+sumB leW l
 | [],t,_=>Nat.le_refl _
 |x::l,t,h=>by
  have h1:=encT_size (t:=t) (h x List.mem_cons_self)
  have h2:=encTs_size (l:=l) (t:=encT t x) fun y hy=>h y (List.mem_cons_of_mem _ hy)
  show (encTs (encT t x) l).size≤_
  rw[sumB];omega
theorem len_sumB {α:Type} {f:α→Nat} (hf:∀x,1≤f x):∀{l:List α},l.length≤sumB f l
 | []=>Nat.zero_le _
 |x::l=>by have:=hf x;have:=len_sumB (f:=f) hf (l:=l);rw[sumB,List.length_cons];omega
theorem tyW_pos (t:Ty):1≤tyW t:=by have:=t.size_pos;unfold tyW;omega
theorem stW_pos (s:Stp):1≤stW s:=by unfold stW;omega
theorem leW_pos (s:Lem):1≤leW s:=by unfold leW;omega
theorem Encode_calls {ls:List Lem} (h:∀l∈ls,l.Ok) (hb:sumB leW ls≤100000000):PureIs Tryz.prog 9 [.agg [.sl (ls.map Lem.enc)]] (shown (ls.all leOk) (encTs ⟨#[]⟩ ls)):=by
 have hll:=len_sumB leW_pos (l:=ls)
 refine vc9_ok ⟨rfl,?_⟩
 rw[List.length_map]
 refine LoopP.intro (fun k:Nat=>(((),ls.map Lem.enc,((ls.length:Nat):Int),(k:Int),()),((ls.map Lem.enc,()),(),strAV (encTs ⟨#[]⟩ (ls.take k)),((),errIf ((ls.take k).all leOk) 0,()),())))
  (fun k=>k≤ls.length) (fun k=>ls.length-k) 0 (by rw[List.take_zero,List.all_nil];rfl) (Nat.zero_le _) ?_
 intro k hk again hag
 dsimp only
 have hts:=encTs_size (l:=ls.take k) (t:=⟨#[]⟩) fun x hx=>h x (List.mem_of_mem_take hx)
 rw[show (⟨#[]⟩:ByteArray).size=0 from rfl] at hts
 refine ITE.intro (fun h1=>?_) fun h1=>?_
 ·have hlt:k<ls.length:=by have:=of_decide_eq_true h1;omega
  have hl:=h _ (List.getElem_mem hlt)
  have hst:=sumB_take (f:=leW) hlt
  have hnext:encTs ⟨#[]⟩ (ls.take (k+1))=encT (encTs ⟨#[]⟩ (ls.take k)) ls[k]:=by rw[←take_snoc' hlt,encTs,List.foldl_append];rfl
  have hokn:(ls.take (k+1)).all leOk=((ls.take k).all leOk&&leOk ls[k]):=all_take _ hlt
  generalize hT:encTs ⟨#[]⟩ (ls.take k)=T at hts hnext ⊢
  generalize hE:errIf ((ls.take k).all leOk) 0=E
  have hEn:errIf ((ls.take (k+1)).all leOk) 0=errIf (leOk ls[k]) E:=by rw[hokn,←hE,errIf_and]
  have hend:∀{u:List AV} {e:Int},u=strAV (encT T ls[k])→e=errIf (leOk ls[k]) E→again (((),ls.map Lem.enc,((ls.length:Nat):Int),IntKind.wrap .i64 ((k:Int)+1),()),((ls.map Lem.enc,()),(),u,((),e,()),())):=fun hu he=>by
   rw[hu,he,←hnext,←hEn,wrap_n (by omega)]
   exact hag (k+1) hlt (by omega)
  have hlw:leW ls[k]=100+(sumB tyW ls[k].metas+(50*ls[k].left.size+(50*ls[k].right.size+sumB stW ls[k].steps))):=rfl
  clear hag hT hE hnext hokn hEn
  have hgl:List.getD (ls.map Lem.enc) (Int.toNat (k:Int)) .top=ls[k].enc:=getD_map hlt
  refine⟨by omega,by rw[List.length_map];omega,_,_,_,_,_,_,_,_,_,_,hgl,?_⟩
  generalize ls[k]=l at hl hend hlw hst ⊢
  have hnl:=tys_wt' (d:=60) fun t ht=>(hl.metas t ht).1
  have hml:=len_sumB tyW_pos (l:=l.metas)
  have hsl:=len_sumB stW_pos (l:=l.steps)
  refine⟨_,putC_calls (ws:=[lemW,lbW]) (ne_consW (by decide) (ne_consW (by decide) ne_nilW)) (by simp only[wtB,sz1,show lemW.size=5 from rfl];omega),fun r q ⟨e1,e2⟩=>⟨_,_,⟨e1,e2⟩,rfl,?_⟩⟩
  have hp1:=puts_size (t:=T) (l:=[lemW,lbW])
  simp only[wtB,sz1,show lemW.size=5 from rfl] at hp1
  generalize hA:puts T [lemW,lbW]=A at hp1 ⊢
  rw[List.length_map]
  refine LoopP.intro (fun j:Nat=>(((),(),ls.map Lem.enc,((ls.length:Nat):Int),(k:Int),l.metas.map Ty.enc,((l.metas.length:Nat):Int),(j:Int),()),((ls.map Lem.enc,()),(),strAV (puts A ((l.metas.take j).flatMap (tokTy 60))),((),errIf ((l.metas.take j).all (okTy 60)) E,()),
    (l.left.binds.map Ty.enc,l.left.kind,l.left.index,l.left.args.map Tm.enc,l.right.binds.map Ty.enc,l.right.kind,l.right.index,l.right.args.map Tm.enc,l.metas.map Ty.enc,l.steps.map Stp.enc,()),())))
   (fun j=>j≤l.metas.length) (fun j=>l.metas.length-j) 0 (by rw[List.take_zero,List.flatMap_nil,List.all_nil];rfl) (Nat.zero_le _) ?_
  intro j hj again2 hag2
  dsimp only
  have hfj:=tys_wt' (d:=60) (l:=l.metas.take j) fun t ht=>(hl.metas t (List.mem_of_mem_take ht)).1
  have hp2:=puts_size (t:=A) (l:=(l.metas.take j).flatMap (tokTy 60))
  refine ITE.intro (fun h2=>?_) fun h2=>?_
  ·have hlt2:j<l.metas.length:=by have:=of_decide_eq_true h2;omega
   obtain⟨q1,q2⟩:=hl.metas _ (List.getElem_mem hlt2)
   have hst2:=sumB_take (f:=tyW) hlt2
   have hw2:tyW l.metas[j]=50*l.metas[j].size:=rfl
   have ht:=prTy_calls 60 l.metas[j] (Nat.le_refl _) q1 q2 (puts A ((l.metas.take j).flatMap (tokTy 60))) (errIf ((l.metas.take j).all (okTy 60)) E) (by omega)
   rw[Ty.enc_eq] at ht
   refine⟨by omega,by rw[List.length_map];omega,_,_,Ty.enc_getD hlt2,_,ht,fun r q ⟨e1,e2⟩=>⟨_,_,⟨e1,e2⟩,rfl,?_⟩⟩
   rw[wrap_n (by omega),←puts_app,errIf_and,←all_take _ hlt2,←flatM_take _ hlt2]
   exact hag2 (j+1) hlt2 (by omega)
  ·have hge:l.metas.length≤j:=by have:=of_decide_eq_false h2;omega
   obtain rfl:j=l.metas.length:=by omega
   rw[List.take_length] at hp2 hfj ⊢
   clear hag2
   generalize hB:puts A (l.metas.flatMap (tokTy 60))=B at hp2 ⊢
   have hp3:=puts_size (t:=B) (l:=[rbW])
   simp only[wtB,sz1] at hp3
   have hwl:=tokTm_wt 60 l.left hl.left
   have hwr:=tokTm_wt 60 l.right hl.right
   have hp4:=puts_size (t:=puts B [rbW]) (l:=tokTm 60 l.left)
   have hp5:=puts_size (t:=puts (puts B [rbW]) (tokTm 60 l.left)) (l:=[eqlW])
   simp only[wtB,sz1] at hp5
   have hp6:=puts_size (t:=puts (puts (puts B [rbW]) (tokTm 60 l.left)) [eqlW]) (l:=tokTm 60 l.right)
   have hp7:=puts_size (t:=puts (puts (puts (puts B [rbW]) (tokTm 60 l.left)) [eqlW]) (tokTm 60 l.right)) (l:=[lcW])
   simp only[wtB,sz1] at hp7
   have hL:=prTm_calls 60 l.left (Nat.le_refl _) hl.left hl.lsize (puts B [rbW]) (errIf (l.metas.all (okTy 60)) E) (by omega)
   have hR:=prTm_calls 60 l.right (Nat.le_refl _) hl.right hl.rsize (puts (puts (puts B [rbW]) (tokTm 60 l.left)) [eqlW]) (errIf (okTm 60 l.left) (errIf (l.metas.all (okTy 60)) E)) (by omega)
   rw[Tm.enc_eq] at hL hR
   refine⟨_,put1_calls (w:=rbW) (by decide) (by rw[sz1];omega),fun r q ⟨e1,e2⟩=>⟨_,_,⟨e1,e2⟩,_,hL,fun r q ⟨e1,e2⟩=>⟨_,_,⟨e1,e2⟩,_,put1_calls (w:=eqlW) (by decide) (by rw[sz1];omega),fun r q ⟨e1,e2⟩=>⟨_,_,⟨e1,e2⟩,_,hR,fun r q ⟨e1,e2⟩=>⟨_,_,⟨e1,e2⟩,
    _,put1_calls (w:=lcW) (by decide) (by rw[sz1];omega),fun r q ⟨e1,e2⟩=>⟨_,_,⟨e1,e2⟩,rfl,?_⟩⟩⟩⟩⟩⟩
   rw[errIf_and] at hR
   rw[errIf_and,errIf_and]
   have hAll:∀u,puts (puts (puts (puts (puts (puts B [rbW]) (tokTm 60 l.left)) [eqlW]) (tokTm 60 l.right)) [lcW]) u=puts T ([lemW,lbW]++(l.metas.flatMap (tokTy 60)++([rbW]++(tokTm 60 l.left++([eqlW]++(tokTm 60 l.right++([lcW]++u))))))):=fun u=>by
    rw[←hB,←hA];simp only[puts_app]
   generalize hC:puts (puts (puts (puts (puts B [rbW]) (tokTm 60 l.left)) [eqlW]) (tokTm 60 l.right)) [lcW]=C at hp7 hAll ⊢
   clear hL hR
   rw[List.length_map]
   refine LoopP.intro (fun j:Nat=>(((),ls.map Lem.enc,((ls.length:Nat):Int),(k:Int),l.steps.map Stp.enc,((l.steps.length:Nat):Int),(j:Int),()),((ls.map Lem.enc,()),(),strAV (puts C ((l.steps.take j).flatMap stTok)),((),errIf ((l.metas.all (okTy 60)&&okTm 60 l.left&&okTm 60 l.right)&&(l.steps.take j).all stOk) E,()),
     (l.left.binds.map Ty.enc,l.left.kind,l.left.index,l.left.args.map Tm.enc,l.right.binds.map Ty.enc,l.right.kind,l.right.index,l.right.args.map Tm.enc,l.metas.map Ty.enc,l.steps.map Stp.enc,()),())))
    (fun j=>j≤l.steps.length) (fun j=>l.steps.length-j) 0 (by rw[List.take_zero,List.flatMap_nil,List.all_nil,Bool.and_true,Bool.and_assoc];rfl) (Nat.zero_le _) ?_
   intro j hj again3 hag3
   dsimp only
   have hfs:=sts_wt (l:=l.steps.take j) fun s hs=>hl.steps s (List.mem_of_mem_take hs)
   have hp8:=puts_size (t:=C) (l:=(l.steps.take j).flatMap stTok)
   refine ITE.intro (fun h3=>?_) fun h3=>?_
   ·have hlt3:j<l.steps.length:=by have:=of_decide_eq_true h3;omega
    have hs:=hl.steps _ (List.getElem_mem hlt3)
    have hst3:=sumB_take (f:=stW) hlt3
    have ht:=pstep_calls hs (puts C ((l.steps.take j).flatMap stTok)) (errIf ((l.metas.all (okTy 60)&&okTm 60 l.left&&okTm 60 l.right)&&(l.steps.take j).all stOk) E) (by omega)
    refine⟨by omega,by rw[List.length_map];omega,_,_,_,_,getD_map hlt3,_,ht,fun r q ⟨e1,e2⟩=>⟨_,_,⟨e1,e2⟩,rfl,?_⟩⟩
    rw[wrap_n (by omega),←puts_app,errIf_and,Bool.and_assoc,←all_take _ hlt3,←flatM_take _ hlt3]
    exact hag3 (j+1) hlt3 (by omega)
   ·have hge:l.steps.length≤j:=by have:=of_decide_eq_false h3;omega
    obtain rfl:j=l.steps.length:=by omega
    rw[List.take_length] at hp8 hfs ⊢
    have hp9:=puts_size (t:=puts C (l.steps.flatMap stTok)) (l:=[rcW,smW])
    simp only[wtB,sz1] at hp9
    refine⟨_,putC_calls (ws:=[rcW,smW]) (ne_consW (by decide) (ne_consW (by decide) ne_nilW)) (by simp only[wtB,sz1];omega),fun r q ⟨e1,e2⟩=>⟨_,_,⟨e1,e2⟩,_,WriteByte_calls (by rw[strAV_len];omega),fun r q ⟨e1,e2⟩=>⟨_,⟨e1,e2⟩,rfl,hend ?_ ?_⟩⟩⟩
    ·rw[encT,strAV_app,←puts_app,hAll];rfl
    ·rw[leOk];congr 1;simp[Bool.and_assoc]
 ·have hge:ls.length≤k:=by have:=of_decide_eq_false h1;omega
  obtain rfl:k=ls.length:=by omega
  rw[List.take_length]
  cases hall:ls.all leOk
  ·exact ITE.pos rfl rfl
  ·exact ITE.neg rfl ⟨_,String_live,fun r q ⟨e1,e2⟩=>⟨_,_,⟨e1,e2⟩,rfl⟩⟩
end Go.Proofs.YtjhanogfpkbamaaGreatDoor

namespace Go.Proofs.YtjhanogfpkbamaaGreatDoor
open Go
set_option linter.unusedSimpArgs false
set_option linter.unusedVariables false
def eqL {α:Type} (f:α→α→Bool):List α→List α→Bool
 | [],[]=>true
 |x::l,y::m=>f x y&&eqL f l m
 |_,_=>false
theorem eqL_drop {α:Type} {f:α→α→Bool} {l m:List α} {k:Nat} (h1:k<l.length) (h2:k<m.length):eqL f (l.drop k) (m.drop k)=(f l[k] m[k]&&eqL f (l.drop (k+1)) (m.drop (k+1))):=by
 rw[List.drop_eq_getElem_cons h1,List.drop_eq_getElem_cons h2,eqL]
theorem eqL_len {α:Type} {f:α→α→Bool}:∀{l m:List α},¬l.length=m.length→eqL f l m=false
 | [],[],h=>absurd rfl h
 | [],_::_,_=>rfl
 |_::_,[],_=>rfl
 |x::l,y::m,h=>by rw[eqL,eqL_len fun e=>h (by rw[List.length_cons,List.length_cons,e]),Bool.and_false]
theorem eqL_self {α:Type} {f:α→α→Bool} (hf:∀x,f x x=true):∀l:List α,eqL f l l=true
 | []=>rfl
 |x::l=>by rw[eqL,hf,eqL_self hf l];rfl
def spEq (p q:Int×Tm):Bool:=p.1==q.1&&Tm.same p.2 q.2
def stEq (s t:Stp):Bool:=s.eq==t.eq&&(s.back==t.back&&(likes s.path t.path&&eqL spEq s.sub t.sub))
def paEq (l m:Lem):Bool:=Tm.same l.left m.left&&(Tm.same l.right m.right&&Ty.sames l.metas m.metas)
def leEq (l m:Lem):Bool:=paEq l m&&eqL stEq l.steps m.steps
theorem spEq_self (p:Int×Tm):spEq p p=true:=by rw[spEq,Tm.same_self,beq_self_eq_true];rfl
theorem stEq_self (s:Stp):stEq s s=true:=by rw[stEq,eqL_self spEq_self,likes_eq,decide_eq_true rfl,beq_self_eq_true,beq_self_eq_true];rfl
theorem leEq_self (l:Lem):leEq l l=true:=by rw[leEq,paEq,Tm.same_self,Tm.same_self,(Ty.sames_iff _ _).2 rfl,eqL_self stEq_self];rfl
theorem spEq_calls {p q:Int×Tm} (hp:p.2.size≤1000000):PureIs Tryz.prog 140 [spEnc p,spEnc q] (nB (spEq p q)):=by
 have h:=teq_calls _ p.2 q.2 (Nat.le_refl _) (by omega)
 refine vc140_ok (ITE.intro (fun h1=>⟨_,h,?_⟩) fun h1=>?_)
 ·rw[spEq,h1,Bool.true_and]
 ·rw[spEq,h1,Bool.false_and]
theorem spsEq_calls {l m:List (Int×Tm)} (hl:l.length≤1000000000) (hp:∀p∈l,p.2.size≤1000000):PureIs Tryz.prog 105 [.sl (l.map spEnc),.sl (m.map spEnc)] (nB (eqL spEq l m)):=by
 refine vc105_ok ⟨_,?_,rfl⟩
 refine vc139_ok (ITE.intro (fun h=>?_) fun h=>?_)
 ·rw[eqL_len (by simp at h;omega)]
 ·have hlm:l.length=m.length:=by simp at h;omega
  refine LoopP.intro (fun k:Nat=>((m.map spEnc,(),l.map spEnc,(l.length:Int),(k:Int),()),())) (fun k=>k≤l.length∧eqL spEq l m=eqL spEq (l.drop k) (m.drop k)) (fun k=>l.length-k) 0 (by rw[List.length_map];rfl) ⟨Nat.zero_le _,rfl⟩ ?_
  intro k ⟨hk,hs⟩ again hag
  dsimp only
  refine ITE.intro (fun h=>?_) fun h=>?_
  ·have hlt:k<l.length:=by simpa using h
   rw[eqL_drop hlt (by omega)] at hs
   have hi:=spEq_calls (p:=l[k]) (q:=m[k]'(by omega)) (hp _ (List.getElem_mem hlt))
   have g1:List.getD (l.map spEnc) (Int.toNat (k:Int)) .top=spEnc l[k]:=getD_map hlt
   have g2:List.getD (m.map spEnc) (Int.toNat (k:Int)) .top=spEnc (m[k]'(by omega)):=getD_map (by omega)
   refine⟨by omega,by rw[List.length_map];omega,_,_,_,_,_,g1,by omega,by rw[List.length_map];omega,_,_,_,_,_,g2,_,hi,ITE.intro (fun h=>?_) fun h=>?_⟩
   ·have:spEq l[k] (m[k]'(by omega))=false:=by simpa using h
    rw[hs,this,Bool.false_and]
   ·have he:spEq l[k] (m[k]'(by omega))=true:=by simpa using h
    rw[he,Bool.true_and] at hs
    rw[wrap_n (by omega)]
    exact hag (k+1) ⟨by omega,hs⟩ (by omega)
  ·have:l.length≤k:=by simpa using h
   rw[List.drop_eq_nil_of_le this,List.drop_eq_nil_of_le (by omega)] at hs
   rw[hs];rfl
structure Stp.Sz (s:Stp):Prop where
 path:s.path.length≤1000000000
 sub:s.sub.length≤1000000000
 sizes:∀p∈s.sub,p.2.size≤1000000
structure Lem.Sz (l:Lem):Prop where
 left:l.left.size≤1000000
 right:l.right.size≤1000000
 metas:Ty.sizes l.metas≤1000000000
 len:l.steps.length≤1000000000
 steps:∀s∈l.steps,s.Sz
theorem stEq_calls {s t:Stp} (h:s.Sz):PureIs Tryz.prog 62 [s.enc,t.enc] (nB (stEq s t)):=by
 have h1:=equalInts_calls (l:=s.path) (m:=t.path) h.path
 have h2:=spsEq_calls (l:=s.sub) (m:=t.sub) h.sub h.sizes
 refine vc62_ok (ITE.intro (fun c1=>ITE.intro (fun c2=>⟨_,h1,ITE.intro (fun c3=>⟨_,h2,?_⟩) fun c3=>?_⟩) fun c2=>?_) fun c1=>?_)
 ·rw[stEq,c1,c2,c3,Bool.true_and,Bool.true_and,Bool.true_and]
 ·rw[stEq,c1,c2,c3,Bool.true_and,Bool.true_and,Bool.false_and]
 ·rw[stEq,c1,c2,Bool.true_and,Bool.false_and]
 ·rw[stEq,c1,Bool.false_and]
theorem stsEq_calls {l m:List Stp} (hl:l.length≤1000000000) (hp:∀s∈l,s.Sz):PureIs Tryz.prog 20 [.sl (l.map Stp.enc),.sl (m.map Stp.enc)] (nB (eqL stEq l m)):=by
 refine vc20_ok ⟨_,?_,rfl⟩
 refine vc61_ok (ITE.intro (fun h=>?_) fun h=>?_)
 ·rw[eqL_len (by simp at h;omega)]
 ·have hlm:l.length=m.length:=by simp at h;omega
  refine LoopP.intro (fun k:Nat=>((m.map Stp.enc,(),l.map Stp.enc,(l.length:Int),(k:Int),()),())) (fun k=>k≤l.length∧eqL stEq l m=eqL stEq (l.drop k) (m.drop k)) (fun k=>l.length-k) 0 (by rw[List.length_map];rfl) ⟨Nat.zero_le _,rfl⟩ ?_
  intro k ⟨hk,hs⟩ again hag
  dsimp only
  refine ITE.intro (fun h=>?_) fun h=>?_
  ·have hlt:k<l.length:=by simpa using h
   rw[eqL_drop hlt (by omega)] at hs
   have hi:=stEq_calls (s:=l[k]) (t:=m[k]'(by omega)) (hp _ (List.getElem_mem hlt))
   have g1:List.getD (l.map Stp.enc) (Int.toNat (k:Int)) .top=Stp.enc l[k]:=getD_map hlt
   have g2:List.getD (m.map Stp.enc) (Int.toNat (k:Int)) .top=Stp.enc (m[k]'(by omega)):=getD_map (by omega)
   refine⟨by omega,by rw[List.length_map];omega,_,_,_,_,g1,by omega,by rw[List.length_map];omega,_,_,_,_,g2,_,hi,ITE.intro (fun h=>?_) fun h=>?_⟩
   ·have:stEq l[k] (m[k]'(by omega))=false:=by simpa using h
    rw[hs,this,Bool.false_and]
   ·have he:stEq l[k] (m[k]'(by omega))=true:=by simpa using h
    rw[he,Bool.true_and] at hs
    rw[wrap_n (by omega)]
    exact hag (k+1) ⟨by omega,hs⟩ (by omega)
  ·have:l.length≤k:=by simpa using h
   rw[List.drop_eq_nil_of_le this,List.drop_eq_nil_of_le (by omega)] at hs
   rw[hs];rfl
theorem leEq_calls {l m:Lem} (h:l.Sz):PureIs Tryz.prog 53 [l.enc,m.enc] (nB (leEq l m)):=by
 have h1:=teq_calls _ l.left m.left (Nat.le_refl _) (by have:=h.left;omega)
 have h2:=teq_calls _ l.right m.right (Nat.le_refl _) (by have:=h.right;omega)
 have h3:=equals_calls (l:=l.metas) (m:=m.metas) (by have:=Ty.sizes_len l.metas;have:=h.metas;omega) fun k k1 k2=>equal_calls _ l.metas[k] m.metas[k] (Nat.le_refl _) (by have:=Ty.sizes_mem (List.getElem_mem k1);have:=h.metas;omega)
 have h4:=stsEq_calls (l:=l.steps) (m:=m.steps) h.len h.steps
 have h5:PureIs Tryz.prog 54 [.agg (tmC l.left++tmC l.right++[.sl (l.metas.map Ty.enc)]),.agg (tmC m.left++tmC m.right++[.sl (m.metas.map Ty.enc)])] (nB (paEq l m)):=by
  refine vc54_ok ⟨_,h1,ITE.intro (fun c1=>⟨_,h2,ITE.intro (fun c2=>⟨_,h3,?_⟩) fun c2=>?_⟩) fun c1=>?_⟩
  ·rw[paEq,c1,c2,Bool.true_and,Bool.true_and]
  ·rw[paEq,c1,c2,Bool.true_and,Bool.false_and]
  ·rw[paEq,c1,Bool.false_and]
 refine vc53_ok ⟨_,h5,ITE.intro (fun c1=>⟨_,h4,?_⟩) fun c1=>?_⟩
 ·rw[leEq,c1,Bool.true_and]
 ·rw[leEq,c1,Bool.false_and]
theorem certEq_calls {l m:List Lem} (hl:l.length≤1000000000) (hp:∀s∈l,s.Sz):PureIs Tryz.prog 13 [.agg [.sl (l.map Lem.enc)],.agg [.sl (m.map Lem.enc)]] (nB (eqL leEq l m)):=by
 refine vc13_ok ⟨_,?_,rfl⟩
 refine vc52_ok (ITE.intro (fun h=>?_) fun h=>?_)
 ·rw[eqL_len (by simp at h;omega)]
 ·have hlm:l.length=m.length:=by simp at h;omega
  refine LoopP.intro (fun k:Nat=>((m.map Lem.enc,(),l.map Lem.enc,(l.length:Int),(k:Int),()),())) (fun k=>k≤l.length∧eqL leEq l m=eqL leEq (l.drop k) (m.drop k)) (fun k=>l.length-k) 0 (by rw[List.length_map];rfl) ⟨Nat.zero_le _,rfl⟩ ?_
  intro k ⟨hk,hs⟩ again hag
  dsimp only
  refine ITE.intro (fun h=>?_) fun h=>?_
  ·have hlt:k<l.length:=by simpa using h
   rw[eqL_drop hlt (by omega)] at hs
   have hi:=leEq_calls (l:=l[k]) (m:=m[k]'(by omega)) (hp _ (List.getElem_mem hlt))
   have g1:List.getD (l.map Lem.enc) (Int.toNat (k:Int)) .top=Lem.enc l[k]:=getD_map hlt
   have g2:List.getD (m.map Lem.enc) (Int.toNat (k:Int)) .top=Lem.enc (m[k]'(by omega)):=getD_map (by omega)
   refine⟨by omega,by rw[List.length_map];omega,_,_,_,_,_,_,_,_,_,_,g1,by omega,by rw[List.length_map];omega,_,_,_,_,_,_,_,_,_,_,g2,_,hi,ITE.intro (fun h=>?_) fun h=>?_⟩
   ·have:leEq l[k] (m[k]'(by omega))=false:=by simpa using h
    rw[hs,this,Bool.false_and]
   ·have he:leEq l[k] (m[k]'(by omega))=true:=by simpa using h
    rw[he,Bool.true_and] at hs
    rw[wrap_n (by omega)]
    exact hag (k+1) ⟨by omega,hs⟩ (by omega)
  ·have:l.length≤k:=by simpa using h
   rw[List.drop_eq_nil_of_le this,List.drop_eq_nil_of_le (by omega)] at hs
   rw[hs];rfl
end Go.Proofs.YtjhanogfpkbamaaGreatDoor

namespace Go.Proofs.YtjhanogfpkbamaaGreatDoor
open Go
set_option linter.unusedSimpArgs false
set_option linter.unusedVariables false
def Stp.cut (s:Stp):Stp:=⟨s.eq,s.back,s.path,s.sub.take 10⟩
def Lem.cut (l:Lem):Lem:=⟨l.left,l.right,l.metas,(l.steps.take 8).map Stp.cut⟩
def cutL (ls:List Lem):List Lem:=(ls.take 6).map Lem.cut
def spFew (p:Int×Tm):Bool:=[p.2].all (Tm.fewB 150 70)&&Tm.lows [p.2]
def stFew (s:Stp):Bool:=(s.sub.take 10).all spFew&&decide (s.path.length≤100)
def leFew (l:Lem):Bool:=[l.left,l.right].all (Tm.fewB 150 70)&&(smallB [] [] l.metas&&(l.steps.take 8).all stFew)
theorem tkdrop {α:Type} {l:List α} {k n:Nat} (h:k<l.length) (hn:k<n):(l.take n).drop k=l[k]::(l.take n).drop (k+1):=by
 rw[List.drop_eq_getElem_cons (by rw[List.length_take];omega),List.getElem_take]
theorem mem_tk {α:Type} {l:List α} {k n:Nat} (h:k<l.length) (hn:k<n):l[k]∈l.take n:=by
 have:=List.mem_of_mem_drop (l:=l.take n) (i:=k) (a:=l[k]) (by rw[tkdrop h hn];exact List.mem_cons_self)
 exact this
theorem tkdrop_nil {α:Type} {l:List α} {k n:Nat} (h:l.length≤k∨n≤k):(l.take n).drop k=[]:=List.drop_eq_nil_of_le (by rw[List.length_take];omega)
theorem take_end {α:Type} {l:List α} {k n:Nat} (h:l.length≤k∨n≤k) (hn:k≤n):l.take k=l.take n:=by
 by_cases e:k=n
 ·rw[e]
 ·rw[List.take_of_length_le (by omega),List.take_of_length_le (by omega)]
theorem spFew_size {p:Int×Tm} (h:spFew p=true):p.2.size≤150:=by
 rw[spFew,Bool.and_eq_true] at h
 exact Tm.fewB_size (List.all_eq_true.1 h.1 _ (List.mem_singleton.2 rfl))
theorem spsFew_calls {l:List (Int×Tm)}:PureIs Tryz.prog 72 [.sl (l.map spEnc)] (nB ((l.take 10).all spFew)):=by
 refine vc72_ok ?_
 refine LoopP.intro (fun k:Nat=>((l.map spEnc,(k:Int),()),())) (fun k=>k≤10∧(l.take 10).all spFew=((l.take 10).drop k).all spFew) (fun k=>10-k) 0 rfl ⟨Nat.zero_le _,rfl⟩ ?_
 intro k ⟨hk,hs⟩ again hag
 dsimp only
 rw[List.length_map]
 refine ITE.intro (fun h=>ITE.intro (fun h2=>?_) fun h2=>?_) fun h=>?_
 ·have hlt:k<l.length:=by simpa using h
  have h10:k<10:=by simp at h2;omega
  rw[tkdrop hlt h10,List.all_cons] at hs
  have g:List.getD (l.map spEnc) (Int.toNat (k:Int)) .top=spEnc l[k]:=getD_map hlt
  have hf:=few_calls (l:=[l[k].2]) (by simp)
  rw[List.map_cons,List.map_nil,Tm.enc_eq] at hf
  refine⟨by omega,by rw[List.length_map];omega,_,_,_,_,_,g,_,hf,ITE.intro (fun c=>?_) fun c=>?_⟩
  ·have:spFew l[k]=false:=by
    have:[l[k].2].all (Tm.fewB 150 70)=false:=by simpa using c
    rw[spFew,this,Bool.false_and]
   rw[hs,this,Bool.false_and]
  ·have hfw:[l[k].2].all (Tm.fewB 150 70)=true:=by simpa using c
   have hsz:l[k].2.size≤150:=Tm.fewB_size (List.all_eq_true.1 hfw _ (List.mem_singleton.2 rfl))
   have hl:=low_calls _ [l[k].2] (Nat.le_refl _) (by simp only[Tm.sizes];omega)
   rw[List.map_cons,List.map_nil,Tm.enc_eq] at hl
   refine⟨by omega,by rw[List.length_map];omega,_,_,_,_,_,g,_,hl,ITE.intro (fun c2=>?_) fun c2=>?_⟩
   ·have:spFew l[k]=false:=by
     have:Tm.lows [l[k].2]=false:=by simpa using c2
     rw[spFew,this,Bool.and_false]
    rw[hs,this,Bool.false_and]
   ·have:spFew l[k]=true:=by
     have:Tm.lows [l[k].2]=true:=by simpa using c2
     rw[spFew,this,hfw];rfl
    rw[this,Bool.true_and] at hs
    rw[wrap_n (by omega)]
    exact hag (k+1) ⟨by omega,hs⟩ (by omega)
 ·rw[tkdrop_nil (.inr (by simp at h2;omega))] at hs
  rw[hs];rfl
 ·rw[tkdrop_nil (.inl (by simpa using h))] at hs
  rw[hs];rfl
theorem stsFew_calls {l:List Stp}:PureIs Tryz.prog 33 [.sl (l.map Stp.enc)] (nB ((l.take 8).all stFew)):=by
 refine vc33_ok ?_
 refine LoopP.intro (fun k:Nat=>((l.map Stp.enc,(k:Int),()),())) (fun k=>k≤8∧(l.take 8).all stFew=((l.take 8).drop k).all stFew) (fun k=>8-k) 0 rfl ⟨Nat.zero_le _,rfl⟩ ?_
 intro k ⟨hk,hs⟩ again hag
 dsimp only
 unfold vc33_R2
 rw[List.length_map]
 refine ITE.intro (fun h=>ITE.intro (fun h2=>?_) fun h2=>?_) fun h=>?_
 ·have hlt:k<l.length:=by simpa using h
  have h10:k<8:=by simp at h2;omega
  rw[tkdrop hlt h10,List.all_cons] at hs
  have g:List.getD (l.map Stp.enc) (Int.toNat (k:Int)) .top=Stp.enc l[k]:=getD_map hlt
  refine⟨by omega,by omega,_,_,_,_,g,_,spsFew_calls,ITE.intro (fun c=>?_) fun c=>?_⟩
  ·have:stFew l[k]=false:=by
    have:(l[k].sub.take 10).all spFew=false:=by simpa using c
    rw[stFew,this,Bool.false_and]
   rw[hs,this,Bool.false_and]
  ·have hfw:(l[k].sub.take 10).all spFew=true:=by simpa using c
   refine⟨by omega,by omega,_,_,_,_,g,?_⟩
   rw[encInts_len]
   refine ITE.intro (fun c2=>?_) fun c2=>?_
   ·have:stFew l[k]=false:=by
     rw[stFew,decide_eq_false (by simp at c2;omega),Bool.and_false]
    rw[hs,this,Bool.false_and]
   ·have:stFew l[k]=true:=by
     rw[stFew,hfw,decide_eq_true (by simp at c2;omega)];rfl
    rw[this,Bool.true_and] at hs
    rw[wrap_n (by omega)]
    exact hag (k+1) ⟨by omega,hs⟩ (by omega)
 ·rw[tkdrop_nil (.inr (by simp at h2;omega))] at hs
  rw[hs];rfl
 ·rw[tkdrop_nil (.inl (by simpa using h))] at hs
  rw[hs];rfl
theorem lesFew_calls {l:List Lem}:PureIs Tryz.prog 6 [.sl (l.map Lem.enc)] (nB ((l.take 6).all leFew)):=by
 refine vc6_ok ?_
 refine LoopP.intro (fun k:Nat=>((l.map Lem.enc,(k:Int),()),())) (fun k=>k≤6∧(l.take 6).all leFew=((l.take 6).drop k).all leFew) (fun k=>6-k) 0 rfl ⟨Nat.zero_le _,rfl⟩ ?_
 intro k ⟨hk,hs⟩ again hag
 dsimp only
 rw[List.length_map]
 refine ITE.intro (fun h=>ITE.intro (fun h2=>?_) fun h2=>?_) fun h=>?_
 ·have hlt:k<l.length:=by simpa using h
  have h10:k<6:=by simp at h2;omega
  rw[tkdrop hlt h10,List.all_cons] at hs
  have g:List.getD (l.map Lem.enc) (Int.toNat (k:Int)) .top=Lem.enc l[k]:=getD_map hlt
  have hf:=few_calls (l:=[l[k].left,l[k].right]) (by simp)
  rw[List.map_cons,List.map_cons,List.map_nil,Tm.enc_eq,Tm.enc_eq] at hf
  have hw:=small_calls 0 [] [] l[k].metas
  refine⟨by omega,by rw[List.length_map];omega,_,_,_,_,_,_,_,_,_,_,g,_,hf,ITE.intro (fun c=>?_) fun c=>⟨_,hw,ITE.intro (fun c2=>?_) fun c2=>⟨by omega,by rw[List.length_map];omega,_,_,_,_,_,_,_,_,_,_,g,_,stsFew_calls,ITE.intro (fun c3=>?_) fun c3=>?_⟩⟩⟩
  ·have:leFew l[k]=false:=by
    have:[l[k].left,l[k].right].all (Tm.fewB 150 70)=false:=by simpa only[Bool.not_eq_true'] using c
    rw[leFew,this,Bool.false_and]
   rw[hs,this,Bool.false_and]
  ·have:leFew l[k]=false:=by
    have:smallB [] [] l[k].metas=false:=by simpa only[Bool.not_eq_true'] using c2
    rw[leFew,this,Bool.false_and,Bool.and_false]
   rw[hs,this,Bool.false_and]
  ·have:leFew l[k]=false:=by
    have:(l[k].steps.take 8).all stFew=false:=by simpa only[Bool.not_eq_true'] using c3
    rw[leFew,this,Bool.and_false,Bool.and_false]
   rw[hs,this,Bool.false_and]
  ·have:leFew l[k]=true:=by
    have e1:[l[k].left,l[k].right].all (Tm.fewB 150 70)=true:=by simpa only[Bool.not_eq_false'] using c
    have e2:smallB [] [] l[k].metas=true:=by simpa only[Bool.not_eq_false'] using c2
    have e3:(l[k].steps.take 8).all stFew=true:=by simpa only[Bool.not_eq_false'] using c3
    rw[leFew,e1,e2,e3];rfl
   rw[this,Bool.true_and] at hs
   rw[wrap_n (by omega)]
   exact hag (k+1) ⟨by omega,hs⟩ (by omega)
 ·rw[tkdrop_nil (.inr (by simp at h2;omega))] at hs
  rw[hs];rfl
 ·rw[tkdrop_nil (.inl (by simpa using h))] at hs
  rw[hs];rfl
theorem spsTo_calls {l:List (Int×Tm)} (hz:∀p∈l.take 10,p.2.size≤1000000):PureIs Tryz.prog 78 [.sl (l.map spEnc)] (.sl ((l.take 10).map spEnc)):=by
 refine vc78_ok ⟨rfl,?_⟩
 refine LoopP.intro (fun k:Nat=>((l.map spEnc,(),(k:Int),()),((l.take k).map spEnc,()))) (fun k=>k≤10) (fun k=>10-k) 0 rfl (Nat.zero_le _) ?_
 intro k hk again hag
 dsimp only
 rw[List.length_map]
 refine ITE.intro (fun h=>ITE.intro (fun h2=>?_) fun h2=>?_) fun h=>?_
 ·have hlt:k<l.length:=by simpa using h
  have h10:k<10:=by simp at h2;omega
  have g:List.getD (l.map spEnc) (Int.toNat (k:Int)) .top=spEnc l[k]:=getD_map hlt
  have hi:=tmTo_calls _ l[k].2 (Nat.le_refl _) (by have:=hz l[k] (mem_tk hlt h10);omega)
  rw[Tm.enc_eq] at hi
  refine⟨by omega,by rw[List.length_map];omega,_,_,_,_,_,g,by omega,by rw[List.length_map];omega,_,_,_,_,_,g,_,_,_,_,hi,rfl,appOk_one rfl (by simp;omega) (by decide),rfl,?_⟩
  have e:(l.take k).map spEnc++[spEnc l[k]]=(l.take (k+1)).map spEnc:=by rw[←take_snoc' hlt,List.map_append];rfl
  have:=hag (k+1) (by omega) (by omega)
  rw[←e] at this
  rw[wrap_n (by omega)]
  exact this
 ·exact⟨rfl,by rw[take_end (.inr (by simp at h2;omega)) hk]⟩
 ·exact⟨rfl,by rw[take_end (.inl (by simpa using h)) hk]⟩
theorem spsOf_calls {l:List (Int×Tm)} (hl:l.length≤1000000) (hz:∀p∈l,p.2.size≤1000000):PureIs Tryz.prog 57 [.sl (l.map spEnc)] (.sl (l.map spEnc)):=by
 refine vc57_ok ⟨rfl,?_⟩
 refine LoopP.intro (fun k:Nat=>((l.map spEnc,(),(k:Int),()),((l.take k).map spEnc,()))) (fun k=>k≤l.length) (fun k=>l.length-k) 0 rfl (Nat.zero_le _) ?_
 intro k hk again hag
 dsimp only
 unfold vc57_R3
 rw[List.length_map]
 refine ITE.intro (fun h=>?_) fun h=>?_
 ·have hlt:k<l.length:=by simpa using h
  have g:List.getD (l.map spEnc) (Int.toNat (k:Int)) .top=spEnc l[k]:=getD_map hlt
  have hi:=tmOf_calls _ l[k].2 (Nat.le_refl _) (by have:=hz l[k] (List.getElem_mem hlt);omega)
  rw[Tm.enc_eq] at hi
  refine⟨by omega,by omega,_,_,_,_,_,g,by omega,by omega,_,_,_,_,_,g,_,_,_,_,hi,rfl,appOk_one rfl (by simp;omega) (by decide),rfl,?_⟩
  have e:(l.take k).map spEnc++[spEnc l[k]]=(l.take (k+1)).map spEnc:=by rw[←take_snoc' hlt,List.map_append];rfl
  have:=hag (k+1) (by omega) (by omega)
  rw[←e] at this
  rw[wrap_n (by omega)]
  exact this
 ·exact⟨rfl,by rw[List.take_of_length_le (by simpa using h)]⟩
theorem stsTo_calls {l:List Stp} (hz:∀s∈l.take 8,∀p∈s.sub.take 10,p.2.size≤1000000):PureIs Tryz.prog 36 [.sl (l.map Stp.enc)] (.sl (((l.take 8).map Stp.cut).map Stp.enc)):=by
 refine vc36_ok ⟨rfl,?_⟩
 refine LoopP.intro (fun k:Nat=>((l.map Stp.enc,(),(k:Int),()),(((l.take k).map Stp.cut).map Stp.enc,()))) (fun k=>k≤8) (fun k=>8-k) 0 rfl (Nat.zero_le _) ?_
 intro k hk again hag
 dsimp only
 rw[List.length_map]
 refine ITE.intro (fun h=>ITE.intro (fun h2=>?_) fun h2=>?_) fun h=>?_
 ·have hlt:k<l.length:=by simpa using h
  have h10:k<8:=by simp at h2;omega
  have g:List.getD (l.map Stp.enc) (Int.toNat (k:Int)) .top=Stp.enc l[k]:=getD_map hlt
  have hi:=spsTo_calls (l:=l[k].sub) (hz l[k] (mem_tk hlt h10))
  refine⟨by omega,by rw[List.length_map];omega,_,_,_,_,g,by omega,by rw[List.length_map];omega,_,_,_,_,g,by omega,by rw[List.length_map];omega,_,_,_,_,g,by omega,by rw[List.length_map];omega,_,_,_,_,g,_,hi,rfl,appOk_one rfl (by simp;omega) (by decide),rfl,?_⟩
  have e:((l.take k).map Stp.cut).map Stp.enc++[Stp.enc (Stp.cut l[k])]=((l.take (k+1)).map Stp.cut).map Stp.enc:=by rw[←take_snoc' hlt,List.map_append,List.map_append];rfl
  have:=hag (k+1) (by omega) (by omega)
  rw[←e] at this
  rw[wrap_n (by omega)]
  exact this
 ·exact⟨rfl,by rw[take_end (.inr (by simp at h2;omega)) hk]⟩
 ·exact⟨rfl,by rw[take_end (.inl (by simpa using h)) hk]⟩
theorem stsOf_calls {l:List Stp} (hl:l.length≤1000000) (hz:∀s∈l,s.sub.length≤1000000∧∀p∈s.sub,p.2.size≤1000000):PureIs Tryz.prog 15 [.sl (l.map Stp.enc)] (.sl (l.map Stp.enc)):=by
 refine vc15_ok ⟨rfl,?_⟩
 refine LoopP.intro (fun k:Nat=>((l.map Stp.enc,(),(k:Int),()),((l.take k).map Stp.enc,()))) (fun k=>k≤l.length) (fun k=>l.length-k) 0 rfl (Nat.zero_le _) ?_
 intro k hk again hag
 dsimp only
 unfold vc15_R3
 rw[List.length_map]
 refine ITE.intro (fun h=>?_) fun h=>?_
 ·have hlt:k<l.length:=by simpa using h
  have g:List.getD (l.map Stp.enc) (Int.toNat (k:Int)) .top=Stp.enc l[k]:=getD_map hlt
  have hi:=spsOf_calls (hz l[k] (List.getElem_mem hlt)).1 (hz l[k] (List.getElem_mem hlt)).2
  refine⟨by omega,by omega,_,_,_,_,g,by omega,by omega,_,_,_,_,g,by omega,by omega,_,_,_,_,g,by omega,by omega,_,_,_,_,g,_,hi,rfl,appOk_one rfl (by simp;omega) (by decide),rfl,?_⟩
  have e:(l.take k).map Stp.enc++[Stp.enc l[k]]=(l.take (k+1)).map Stp.enc:=by rw[←take_snoc' hlt,List.map_append];rfl
  have:=hag (k+1) (by omega) (by omega)
  rw[←e] at this
  rw[wrap_n (by omega)]
  exact this
 ·exact⟨rfl,by rw[List.take_of_length_le (by simpa using h)]⟩
abbrev paC (l:Lem):List AV:=[.sl (l.left.binds.map Ty.enc),nI l.left.kind,nI l.left.index,.sl (l.left.args.map Tm.enc),.sl (l.right.binds.map Ty.enc),nI l.right.kind,nI l.right.index,.sl (l.right.args.map Tm.enc),.sl (l.metas.map Ty.enc)]
theorem paTo_calls {l:Lem} (h1:l.left.size≤1000000) (h2:l.right.size≤1000000) (h3:Ty.sizes l.metas≤1000000000):PureIs Tryz.prog 35 [.agg (paC l)] (.agg (paC l)):=by
 have a:=tmTo_calls _ l.left (Nat.le_refl _) (by omega)
 have b:=tmTo_calls _ l.right (Nat.le_refl _) (by omega)
 rw[Tm.enc_eq] at a b
 exact vc35_ok ⟨_,_,_,_,a,_,_,_,_,b,_,tysTo_calls h3,rfl⟩
theorem paOf_calls {l:Lem} (h1:l.left.size≤1000000) (h2:l.right.size≤1000000) (h3:Ty.sizes l.metas≤1000000000):PureIs Tryz.prog 23 [.agg (paC l)] (.agg (paC l)):=by
 have a:=tmOf_calls _ l.left (Nat.le_refl _) (by omega)
 have b:=tmOf_calls _ l.right (Nat.le_refl _) (by omega)
 rw[Tm.enc_eq] at a b
 exact vc23_ok ⟨_,_,_,_,a,_,_,_,_,b,_,tysOf_calls h3,rfl⟩
structure Lem.Few (l:Lem):Prop where
 left:l.left.size≤150
 right:l.right.size≤150
 ml:l.metas.length≤20
 metas:∀t∈l.metas,t.size≤60
 steps:∀s∈l.steps.take 8,(∀p∈s.sub.take 10,p.2.size≤150)∧s.path.length≤100
theorem leFew_few {l:Lem} (h:leFew l=true):l.Few:=by
 rw[leFew,Bool.and_eq_true,Bool.and_eq_true] at h
 obtain⟨h1,h2,h3⟩:=h
 rw[smallB,Bool.and_eq_true,decide_eq_true_eq] at h2
 refine⟨Tm.fewB_size (List.all_eq_true.1 h1 _ List.mem_cons_self),Tm.fewB_size (List.all_eq_true.1 h1 _ (List.mem_cons_of_mem _ (List.mem_singleton.2 rfl))),h2.1.2.2,fun t ht=>Ty.fewB_size (List.all_eq_true.1 h2.2 _ (by simpa using ht)),fun s hs=>?_⟩
 have:=List.all_eq_true.1 h3 _ hs
 rw[stFew,Bool.and_eq_true,decide_eq_true_eq] at this
 exact⟨fun p hp=>spFew_size (List.all_eq_true.1 this.1 _ hp),this.2⟩
theorem tysz_le:∀{l:List Ty} {c:Nat},(∀t∈l,t.size≤c)→Ty.sizes l≤l.length*c
 | [],c,_=>by simp[Ty.sizes]
 |t::l,c,h=>by
  have:=h t List.mem_cons_self
  have:=tysz_le (l:=l) (c:=c) fun u hu=>h u (List.mem_cons_of_mem _ hu)
  rw[Ty.sizes,List.length_cons,Nat.succ_mul];omega
theorem Lem.Few.tys {l:Lem} (h:l.Few):Ty.sizes l.metas≤1200:=by
 have h1:=tysz_le h.metas
 have h2:l.metas.length*60≤20*60:=Nat.mul_le_mul_right _ h.ml
 omega
theorem lesTo_calls {l:List Lem} (hf:∀x∈l.take 6,x.Few):PureIs Tryz.prog 8 [.sl (l.map Lem.enc)] (.agg [.sl ((cutL l).map Lem.enc)]):=by
 refine vc8_ok ⟨rfl,?_⟩
 refine LoopP.intro (fun k:Nat=>((l.map Lem.enc,(),(),(k:Int),()),(((),()),((),()),((l.take k).map Lem.cut).map Lem.enc,()))) (fun k=>k≤6) (fun k=>6-k) 0 rfl (Nat.zero_le _) ?_
 intro k hk again hag
 dsimp only
 rw[List.length_map]
 refine ITE.intro (fun h=>ITE.intro (fun h2=>?_) fun h2=>?_) fun h=>?_
 ·have hlt:k<l.length:=by simpa using h
  have h10:k<6:=by simp at h2;omega
  have g:List.getD (l.map Lem.enc) (Int.toNat (k:Int)) .top=Lem.enc l[k]:=getD_map hlt
  have hx:=hf l[k] (mem_tk hlt h10)
  have hp:=paTo_calls (l:=l[k]) (by have:=hx.left;omega) (by have:=hx.right;omega) (by have:=hx.tys;omega)
  have hi:=stsTo_calls (l:=l[k].steps) fun s hs p hp=>by have:=(hx.steps s hs).1 p hp;omega
  refine⟨by omega,by rw[List.length_map];omega,_,_,_,_,_,_,_,_,_,_,g,_,_,_,_,_,_,_,_,_,hp,by omega,by rw[List.length_map];omega,_,_,_,_,_,_,_,_,_,_,g,_,hi,rfl,appOk_one rfl (by simp;omega) (by decide),rfl,?_⟩
  have e:((l.take k).map Lem.cut).map Lem.enc++[Lem.enc (Lem.cut l[k])]=((l.take (k+1)).map Lem.cut).map Lem.enc:=by rw[←take_snoc' hlt,List.map_append,List.map_append];rfl
  have:=hag (k+1) (by omega) (by omega)
  rw[←e] at this
  rw[wrap_n (by omega)]
  exact this
 ·exact⟨rfl,by rw[cutL,take_end (.inr (by simp at h2;omega)) hk]⟩
 ·exact⟨rfl,by rw[cutL,take_end (.inl (by simpa using h)) hk]⟩
structure Lem.Cut (l:Lem):Prop where
 few:l.Few
 sl:l.steps.length≤8
 subs:∀s∈l.steps,s.sub.length≤10
theorem Lem.Cut.sub {l:Lem} (h:l.Cut) {s:Stp} (hs:s∈l.steps):(∀p∈s.sub,p.2.size≤150)∧s.path.length≤100:=by
 have:=h.few.steps s (by rw[List.take_of_length_le h.sl];exact hs)
 rw[List.take_of_length_le (h.subs s hs)] at this
 exact this
theorem Lem.Few.cut {l:Lem} (h:l.Few):l.cut.Cut:=by
 have e:(l.cut.steps.take 8)=l.cut.steps:=List.take_of_length_le (by show ((l.steps.take 8).map Stp.cut).length≤8;rw[List.length_map,List.length_take];omega)
 refine⟨⟨h.left,h.right,h.ml,h.metas,fun s hs=>?_⟩,?_,fun s hs=>?_⟩
 ·rw[e] at hs
  obtain⟨s0,h0,rfl⟩:=List.mem_map.1 hs
  have:=h.steps s0 h0
  refine⟨fun p hp=>this.1 p ?_,this.2⟩
  exact List.mem_of_mem_take hp
 ·show ((l.steps.take 8).map Stp.cut).length≤8
  rw[List.length_map,List.length_take];omega
 ·obtain⟨s0,h0,rfl⟩:=List.mem_map.1 hs
  show (s0.sub.take 10).length≤10
  rw[List.length_take];omega
theorem cutL_cut {ls:List Lem} (h:∀l∈ls.take 6,l.Few):∀l∈cutL ls,l.Cut:=fun l hl=>by
 obtain⟨l0,h0,rfl⟩:=List.mem_map.1 hl
 exact(h l0 h0).cut
theorem cutL_len (ls:List Lem):(cutL ls).length≤6:=by rw[cutL,List.length_map,List.length_take];omega
theorem lesOf_calls {l:List Lem} (hl:l.length≤6) (hf:∀x∈l,x.Cut):PureIs Tryz.prog 11 [.agg [.sl (l.map Lem.enc)]] (.sl (l.map Lem.enc)):=by
 refine vc11_ok ⟨rfl,?_⟩
 refine LoopP.intro (fun k:Nat=>(((),(),(k:Int),()),((l.map Lem.enc,()),(l.take k).map Lem.enc,()))) (fun k=>k≤l.length) (fun k=>l.length-k) 0 rfl (Nat.zero_le _) ?_
 intro k hk again hag
 dsimp only
 unfold vc11_R3
 rw[List.length_map]
 refine ITE.intro (fun h=>?_) fun h=>?_
 ·have hlt:k<l.length:=by simpa using h
  have g:List.getD (l.map Lem.enc) (Int.toNat (k:Int)) .top=Lem.enc l[k]:=getD_map hlt
  have hx:=hf l[k] (List.getElem_mem hlt)
  have hp:=paOf_calls (l:=l[k]) (by have:=hx.few.left;omega) (by have:=hx.few.right;omega) (by have:=hx.few.tys;omega)
  have hi:=stsOf_calls (l:=l[k].steps) (by have:=hx.sl;omega) fun s hs=>⟨by have:=hx.subs s hs;omega,fun p hp=>by have:=(hx.sub hs).1 p hp;omega⟩
  refine⟨by omega,by omega,_,_,_,_,_,_,_,_,_,_,g,_,_,_,_,_,_,_,_,_,hp,by omega,by omega,_,_,_,_,_,_,_,_,_,_,g,_,hi,rfl,appOk_one rfl (by simp;omega) (by decide),rfl,?_⟩
  have e:(l.take k).map Lem.enc++[Lem.enc l[k]]=(l.take (k+1)).map Lem.enc:=by rw[←take_snoc' hlt,List.map_append];rfl
  have:=hag (k+1) (by omega) (by omega)
  rw[←e] at this
  rw[wrap_n (by omega)]
  exact this
 ·exact⟨rfl,by rw[List.take_of_length_le (by simpa using h)]⟩
end Go.Proofs.YtjhanogfpkbamaaGreatDoor

namespace Go.Proofs.YtjhanogfpkbamaaGreatDoor
open Go Go.Shelf
set_option linter.unusedSimpArgs false
set_option linter.unusedVariables false
def runC (c:Int) (l:List Int):Nat:=(l.takeWhile (· != c)).length
def idxI (c:Int) (l:List Int):Int:=if runC c l=l.length then -1 else(runC c l:Int)
theorem runC_cons (c b:Int) (l:List Int):runC c (b::l)=if b=c then 0 else runC c l+1:=by
 unfold runC
 rw[List.takeWhile_cons]
 by_cases h:b=c
 ·simp[h]
 ·rw[if_neg h,if_pos (by simpa using h)];rfl
theorem runC_le (c:Int) (l:List Int):runC c l≤l.length:=by
 induction l with
 |nil=>simp[runC]
 |cons b l ih=>rw[runC_cons,List.length_cons];split<;>omega
theorem runC_no {c:Int} {l:List Int} {n:Nat} (h:n≤runC c l):∀b∈l.take n,b≠c:=by
 induction l generalizing n with
 |nil=>simp
 |cons b l ih=>
  rw[runC_cons] at h
  cases n with
  |zero=>simp
  |succ n=>
   split at h
   ·omega
   ·rename_i hb
    intro x hx
    rw[List.take_succ_cons] at hx
    rcases List.mem_cons.1 hx with rfl|hx
    ·exact hb
    ·exact ih (by omega) x hx
theorem runC_at {c:Int} {l:List Int} (h:runC c l<l.length):l[runC c l]=c:=by
 induction l with
 |nil=>simp at h
 |cons b l ih=>
  simp only[runC_cons,List.length_cons] at h ⊢
  by_cases hb:b=c
  ·simp only[if_pos hb];simpa using hb
  ·simp only[if_neg hb] at h ⊢
   simp only[List.getElem_cons_succ]
   exact ih (by omega)
theorem idx_eq (l:List UInt8) (c:UInt8):Lib.indexByte l c=idxI (c.toNat:Int) (l.map fun b=>(b.toNat:Int)):=by
 induction l with
 |nil=>rfl
 |cons b l ih=>
  unfold Lib.indexByte idxI
  rw[ih,List.map_cons,runC_cons,List.length_cons]
  have hle:=runC_le (c.toNat:Int) (l.map fun b=>(b.toNat:Int))
  by_cases h:b=c
  ·subst h;simp
  ·have h2:¬(b.toNat:Int)=(c.toNat:Int):=fun e=>h (UInt8.toNat_inj.1 (by omega))
   rw[if_neg (by simpa using h),if_neg h2]
   unfold idxI
   by_cases hr:runC (c.toNat:Int) (l.map fun b=>(b.toNat:Int))=(l.map fun b=>(b.toNat:Int)).length
   ·rw[if_pos hr,hr,if_pos rfl];rfl
   ·have hne:((((runC (c.toNat:Int) (l.map fun b=>(b.toNat:Int)):Nat):Int)) == -1)=false:=beq_eq_false_iff_ne.2 (by omega)
    rw[if_neg hr,if_neg (by rw[hne];decide),if_neg (fun e=>hr (by omega))];omega
theorem indexByte_calls {s:ByteArray} {c:Int} (h0:0≤c) (h1:c≤255):PureIs Tryz.prog 118 [nS s,.prim (.int .u8 c)] (nI (idxI c (bytesI s))):=by
 refine⟨⟨_,Tryz.func118,by kernel_rfl,by kernel_rfl⟩,fun w F vals hF hg hv=>?_⟩
 match vals,hv with
 | [v0,v1],⟨r0,r1,_⟩=>
  cases r0;cases r1
  refine callsIn_wide.2 ((Any.strings_IndexByte lay137 s c w).mono ?_)
  rintro e w' ⟨rfl,rfl⟩
  refine⟨_,_,rfl,rfl,Same.refl _,?_⟩
  have:(c.toNat.toUInt8.toNat:Int)=c:=by
   have:c.toNat.toUInt8.toNat=c.toNat % 256:=rfl
   rw[this];omega
  rw[idx_eq,this]
  exact .prim _
def linesF (s:ByteArray):Nat→Nat→List (Nat×ByteArray)
 |0,_=>[]
 |f+1,a=>(a,s.extract a (a+runC 10 ((bytesI s).drop a)))::(if a+runC 10 ((bytesI s).drop a)=s.size then[] else linesF s f (a+runC 10 ((bytesI s).drop a)+1))
def encL (p:Nat×ByteArray):Int×ByteArray×Unit:=((p.1:Int),p.2,())
def encLV (p:Nat×ByteArray):List AV:=[nI (p.1:Int),nS p.2]
theorem bytes_to_end {s:ByteArray} {a:Nat}:bytesI (s.extract a s.size)=(bytesI s).drop a:=by
 rw[bytesI_extract,List.take_of_length_le]
 rw[List.length_drop,bytesI_len];exact Nat.le_refl _
theorem lines1_calls {s:ByteArray} (hs:s.size≤1000000000):YFn Tryz.prog 144 (fun v=>[v,.eptr (nS s) 0]) ((linesF s (s.size+1) 0).map encLV) false:=by
 have hl:=bytesI_len s
 refine vc144_ok fun yv more=>⟨rfl,?_⟩
 refine LoopP.intro (fun p:Nat×Nat=>(((yv,(),(p.2:Int),()),()),some ((linesF s p.1 p.2).map encLV++more))) (fun p=>p.2≤s.size∧s.size+1≤p.1+p.2) (fun p=>s.size+1-p.2) (s.size+1,0) rfl ⟨Nat.zero_le _,by dsimp only;omega⟩ ?_
 intro ⟨f,a⟩ ⟨ha,hf⟩ again hag
 dsimp only at ha hf ⊢
 obtain⟨f,rfl⟩:∃g,f=g+1:=⟨f-1,by omega⟩
 have hr:=runC_le 10 ((bytesI s).drop a)
 rw[List.length_drop,hl] at hr
 have hix:=indexByte_calls (s:=s.extract a s.size) (c:=10) (by decide) (by decide)
 rw[bytes_to_end,idxI,List.length_drop,hl] at hix
 refine⟨⟨by omega,by omega,by omega⟩,_,hix,?_⟩
 by_cases he:runC 10 ((bytesI s).drop a)=s.size-a
 ·rw[if_pos he]
  refine ITE.pos (by decide) ⟨⟨by omega,by omega,by omega⟩,rfl,more,?_,fun b=>⟨b,rfl⟩⟩
  rw[linesF,he,if_pos (by omega)]
  have:a+(s.size-a)=s.size:=by omega
  rw[this];rfl
 ·rw[if_neg he]
  have w1:IntKind.wrap .i64 ((a:Int)+((runC 10 ((bytesI s).drop a):Nat):Int))=((a+runC 10 ((bytesI s).drop a):Nat):Int):=by rw[wrap_i (by omega) (by omega)];omega
  have w2:IntKind.wrap .i64 ((a:Int)+IntKind.wrap .i64 (((runC 10 ((bytesI s).drop a):Nat):Int)+1))=((a+runC 10 ((bytesI s).drop a)+1:Nat):Int):=by rw[wrap_n (by omega),wrap_i (by omega) (by omega)];omega
  rw[w1,w2]
  refine ITE.neg (decide_eq_false (by omega)) ⟨⟨by omega,by omega,by omega⟩,rfl,(linesF s f (a+runC 10 ((bytesI s).drop a)+1)).map encLV++more,?_,fun b=>ITE.intro (fun h=>?_) fun h=>?_⟩
  ·rw[linesF,if_neg (by omega)];rfl
  ·have:b=false:=by simpa using h
   subst this
   exact⟨false,rfl⟩
  ·have:b=true:=by simpa using h
   subst this
   exact⟨rfl,hag (f,_) ⟨by dsimp only;omega,by dsimp only;omega⟩ (by dsimp only;omega)⟩
theorem lines_seq {s:ByteArray} (hs:s.size≤1000000000):SeqIs Tryz.prog 144 [.eptr (nS s) 0] [.v (.c (.i .i64)),.v (.c (.s))] ((linesF s (s.size+1) 0).map encL):=
 seqIs_of (prm:=[.v (.c (.i .i64)),.v (.c (.s))]) encL (lines1_calls hs)
theorem markR_app (m:Int×Int) (a b:List Int):markR m (a++b)=markR (markR m a) b:=by
 induction a generalizing m with
 |nil=>rfl
 |cons c a ih=>exact ih _
theorem markR_no {l:List Int} (m:Int×Int) (h:∀b∈l,b≠10):markR m l=(m.1,m.2+l.length):=by
 induction l generalizing m with
 |nil=>simp[markR]
 |cons c l ih=>
  have hc:(c==10)=false:=by simpa using h c List.mem_cons_self
  rw[markR,hc,ih _ fun b hb=>h b (List.mem_cons_of_mem _ hb)]
  simp;omega
def markA (s:ByteArray) (i:Nat):AV:=.agg [nI (markR (1,1) ((bytesI s).take i)).1,nI (markR (1,1) ((bytesI s).take i)).2]
theorem placeOf_calls {s:ByteArray} {i:Nat} (hi:i≤s.size) (hs:s.size≤1000000000):PureIs Tryz.prog 85 [nS s,nI (i:Int)] (.tup [markA s i,nI 0]):=by
 have hl:=bytesI_len s
 refine vc85_ok (ITE.neg (decide_eq_false (by omega)) (ITE.neg (decide_eq_false (by omega)) ⟨vc117_ok rfl,?_⟩))
 refine RangeP.intro2 (fun n:Nat=>(((i:Int),()),(0,0,()),(0,()),((n:Int),()),())) encL (linesF s (s.size+1) 0) (lines_seq hs)
  (fun rest n=>∃f a,rest=linesF s f a∧a≤i∧s.size+1≤f+a∧n≤a∧markR (1,1) ((bytesI s).take a)=(((n+1:Nat):Int),1)) 0 rfl ⟨_,_,rfl,Nat.zero_le _,Nat.le_refl _,Nat.le_refl _,rfl⟩ (fun p rest n hI again hag=>?_) fun n hI=>?_
 ·obtain⟨f,a,he,ha,hf,hna,hm⟩:=hI
  obtain⟨f,rfl⟩:∃g,f=g+1:=⟨f-1,by omega⟩
  rw[linesF] at he
  obtain⟨rfl,rfl⟩:=List.cons.inj he
  have hr:=runC_le 10 ((bytesI s).drop a)
  rw[List.length_drop,hl] at hr
  have hz:(s.extract a (a+runC 10 ((bytesI s).drop a))).size=runC 10 ((bytesI s).drop a):=by rw[←bytesI_len,bytesI_extract,List.length_take,List.length_drop,hl];omega
  dsimp only[encL]
  rw[wrap_n (by omega)]
  have hw:IntKind.wrap .i64 ((a:Int)+(((s.extract a (a+runC 10 ((bytesI s).drop a))).size:Nat):Int))=(a:Int)+(runC 10 ((bytesI s).drop a):Nat):=by rw[hz,wrap_i (by omega) (by omega)]
  refine ITE.intro (fun h=>?_) fun h=>?_
  ·have h:i≤a+runC 10 ((bytesI s).drop a):=by
    have:=of_decide_eq_true h
    rw[hw] at this;omega
   rw[wrap_i (n:=(i:Int)-a) (by omega) (by omega),wrap_i (by omega) (by omega)]
   have e:(bytesI s).take i=(bytesI s).take a++((bytesI s).drop a).take (i-a):=by rw[←List.take_add,show a+(i-a)=i by omega]
   have hm2:markR (1,1) ((bytesI s).take i)=(((n+1:Nat):Int),1+((i-a:Nat):Int)):=by
    rw[e,markR_app,hm,markR_no _ (runC_no (by omega)),List.length_take,List.length_drop,hl,Nat.min_eq_left (by omega)]
   show _=AV.tup [markA s i,nI 0]
   rw[markA,hm2]
   have:(1:Int)+((i-a:Nat):Int)=(i:Int)-a+1:=by omega
   rw[this]
  ·have h:a+runC 10 ((bytesI s).drop a)<i:=by
    have:=of_decide_eq_false h
    rw[hw] at this;omega
   refine hag (n+1) ⟨f,a+runC 10 ((bytesI s).drop a)+1,if_neg (by omega),by omega,by omega,by omega,?_⟩
   have hlt:a+runC 10 ((bytesI s).drop a)<(bytesI s).length:=by omega
   rw[List.take_succ_eq_append_getElem hlt,List.take_add,List.append_assoc,markR_app,hm,markR_app,markR_no _ (runC_no (Nat.le_refl _))]
   have hc:(bytesI s)[a+runC 10 ((bytesI s).drop a)]=10:=by
    have:=runC_at (c:=10) (l:=(bytesI s).drop a) (by rw[List.length_drop];omega)
    rw[List.getElem_drop] at this
    exact this
   rw[hc]
   simp[markR]
 ·obtain⟨f,a,he,ha,hf,hna,hm⟩:=hI
  obtain⟨f,rfl⟩:∃g,f=g+1:=⟨f-1,by omega⟩
  rw[linesF] at he
  cases he
end Go.Proofs.YtjhanogfpkbamaaGreatDoor

namespace Go.Proofs.YtjhanogfpkbamaaGreatDoor
open Go
set_option linter.unusedSimpArgs false
set_option linter.unusedVariables false
def skipB:Bool→List Int→Nat
 |_,[]=>0
 |r,c::l=>if r||isBlank c then skipB (c != 10&&(r||c==35)) l+1 else 0
theorem skipB_le:∀(r:Bool) (l:List Int),skipB r l≤l.length
 |_,[]=>Nat.le_refl _
 |r,c::l=>by
  rw[skipB,List.length_cons]
  split
  ·have:=skipB_le (c != 10&&(r||c==35)) l;omega
  ·omega
theorem skipB_true:∀(l:List Int),skipB true l=if runC 10 l=l.length then l.length else runC 10 l+skipB false (l.drop (runC 10 l))
 | []=>rfl
 |c::l=>by
  rw[skipB,runC_cons,List.length_cons]
  by_cases h:c=10
  ·subst h
   rw[if_pos rfl,if_neg (Nat.ne_of_lt (Nat.succ_pos _)),List.drop_zero,skipB];simp[isBlank]
  ·have e:(c != 10&&(true||c==35))=true:=by simpa using h
   rw[Bool.true_or,if_pos rfl,e,skipB_true l,if_neg h]
   by_cases h2:runC 10 l=l.length
   ·rw[if_pos h2,if_pos (by omega)]
   ·rw[if_neg h2,if_neg (by omega),List.drop_succ_cons];omega
theorem skipB_hash (l:List Int):skipB false (35::l)=skipB true (35::l):=rfl
theorem strAt_drop {s:ByteArray} {k:Nat} {c:Int} {l:List Int} (h:(bytesI s).drop k=c::l):strAt s (k:Int)=c∧k<s.size∧(bytesI s).drop (k+1)=l:=by
 have hlt:k<(bytesI s).length:=by
  rcases Nat.lt_or_ge k (bytesI s).length with h1|h1
  ·exact h1
  ·rw[List.drop_eq_nil_of_le h1] at h;cases h
 rw[List.drop_eq_getElem_cons hlt] at h
 obtain⟨h1,h2⟩:=List.cons.inj h
 exact⟨by rw[strAt_eq hlt,h1],by rw[←bytesI_len];exact hlt,h2⟩
theorem skip_calls {s:ByteArray} (hs:s.size≤1000000000):PureIs Tryz.prog 87 [nS s] (nI (skipB false (bytesI s):Nat)):=by
 have hl:=bytesI_len s
 refine vc87_ok ?_
 refine LoopP.intro (fun k:Nat=>((s,(k:Int),()),())) (fun k=>k≤s.size∧skipB false (bytesI s)=k+skipB false ((bytesI s).drop k)) (fun k=>(s.size-k)*2+(if(bytesI s).drop k=[] then 0 else if((bytesI s).drop k).head?=some 10 then 0 else 1)) 0 rfl ⟨Nat.zero_le _,by simp⟩ ?_
 intro k ⟨hk,hd⟩ again hag
 dsimp only
 refine ITE.intro (fun h=>?_) fun h=>?_
 ·have hlt:k<s.size:=by have:=of_decide_eq_true h;omega
  obtain⟨c,l,hcl⟩:∃c l,(bytesI s).drop k=c::l:=⟨_,_,List.drop_eq_getElem_cons (by omega)⟩
  obtain⟨hat,_,hl2⟩:=strAt_drop hcl
  refine⟨⟨by omega,by omega⟩,?_⟩
  rw[hat]
  have blank:(isBlank c=true∧c≠35)→again ((s,IntKind.wrap .i64 ((k:Int)+1),()),()):=fun⟨hb,hc⟩=>by
   rw[wrap_n (by omega)]
   refine hag (k+1) ⟨by omega,?_⟩ (by split<;>split<;>(try split)<;>omega)
   have e:(c != 10&&(false||c==35))=false:=by simp[hc]
   rw[hd,hcl,skipB,Bool.false_or,if_pos hb,e,←hl2];omega
  have stop:isBlank c=false→nI (k:Int)=nI ((skipB false (bytesI s):Nat):Int):=fun hb=>by
   rw[hd,hcl,skipB,hb];simp
  have hash:c=35→0≤(k:Int)∧(k:Int)≤((s.size:Nat):Int)∧((s.size:Nat):Int)≤s.size:=fun _=>⟨by omega,by omega,by omega⟩
  have hix:=indexByte_calls (s:=s.extract k s.size) (c:=10) (by decide) (by decide)
  rw[bytes_to_end,idxI,List.length_drop,hl] at hix
  have hr:=runC_le 10 ((bytesI s).drop k)
  rw[List.length_drop,hl] at hr
  have rem:(c==35)=true→∃i53,pI 118 [nS (ByteArray.extract s (Int.toNat k) (Int.toNat ((ByteArray.size s:Nat):Int))),.prim (.int .u8 10)] (nI i53)∧
    ITE (decide (i53<0)) ((fun r=>r=nI ((skipB false (bytesI s):Nat):Int)) (nI ((ByteArray.size s:Nat):Int))) (again ((s,IntKind.wrap .i64 ((k:Int)+i53),()),())):=fun hc=>by
   have hc:c=35:=by simpa using hc
   subst hc
   refine⟨_,hix,?_⟩
   have e:=skipB_true ((bytesI s).drop k)
   rw[List.length_drop,hl] at e
   rw[hcl,skipB_hash,←hcl,e] at hd
   by_cases h1:runC 10 ((bytesI s).drop k)=s.size-k
   ·rw[if_pos h1] at hd
    rw[if_pos h1]
    refine ITE.pos rfl ?_
    show nI _=nI _
    rw[hd];congr 1;congr 1;congr 1;omega
   ·rw[if_neg h1] at hd
    rw[if_neg h1]
    refine ITE.neg (decide_eq_false (by omega)) ?_
    rw[wrap_i (n:=(k:Int)+_) (by omega) (by omega),show (k:Int)+(runC 10 ((bytesI s).drop k):Nat)=((k+runC 10 ((bytesI s).drop k):Nat):Int) by omega]
    have h0:0<runC 10 ((bytesI s).drop k):=by rw[hcl,runC_cons];simp
    refine hag _ ⟨by omega,?_⟩ (by split<;>split<;>(try split)<;>omega)
    rw[hd,List.drop_drop];omega
  refine ITE.intro (fun h1=>?_) fun h1=>ITE.intro (fun h2=>?_) fun h2=>ITE.intro (fun h3=>?_) fun h3=>ITE.intro (fun h4=>?_) fun h4=>ITE.intro (fun h5=>?_) fun h5=>?_
  ·exact ITE.pos h1 (blank ⟨by unfold isBlank;rw[h1];rfl,fun e=>by rw[e] at h1;cases h1⟩)
  ·exact ITE.pos h2 (blank ⟨by unfold isBlank;rw[h1,h2];rfl,fun e=>by rw[e] at h2;cases h2⟩)
  ·exact ITE.pos h3 (blank ⟨by unfold isBlank;rw[h1,h2,h3];rfl,fun e=>by rw[e] at h3;cases h3⟩)
  ·exact blank ⟨by unfold isBlank;rw[h1,h2,h3,h4];rfl,fun e=>by rw[e] at h4;cases h4⟩
  ·exact⟨hash (by simpa using h5),rem h5⟩
  ·exact stop (by unfold isBlank;rw[h1,h2,h3,h4,h5];rfl)
 ·have:s.size≤k:=by have:=of_decide_eq_false h;omega
  rw[List.drop_eq_nil_of_le (by omega)] at hd
  rw[hd];rfl
def runD (l:List Int):Nat:=(l.takeWhile isDigit).length
theorem runD_cons (c:Int) (l:List Int):runD (c::l)=if isDigit c=true then runD l+1 else 0:=by
 unfold runD;rw[List.takeWhile_cons];split<;>simp
theorem runD_le (l:List Int):runD l≤l.length:=by
 induction l with
 |nil=>simp[runD]
 |cons c l ih=>rw[runD_cons,List.length_cons];split<;>omega
theorem runD_calls {s:ByteArray} (hs:s.size≤1000000000):PureIs Tryz.prog 120 [nS s,.clo 122 []] (nI (runD (bytesI s):Nat)):=by
 refine vc_runD_ok ?_
 have hl:=bytesI_len s
 refine LoopP.intro (fun k:Nat=>((s,(),(k:Int),()),())) (fun k=>k≤s.size∧runD (bytesI s)=k+runD ((bytesI s).drop k)) (fun k=>s.size-k) 0 rfl ⟨Nat.zero_le _,by simp⟩ ?_
 intro k ⟨hk,hm⟩ again hag
 dsimp only
 refine ITE.intro (fun h=>?_) fun h=>?_
 ·have hlt:k<s.size:=by simpa using h
  have hlt':k<(bytesI s).length:=by omega
  rw[List.drop_eq_getElem_cons hlt'] at hm
  refine⟨⟨by omega,by omega⟩,_,digit_calls,?_⟩
  rw[strAt_eq hlt']
  refine ITE.intro (fun h=>?_) fun h=>?_
  ·rw[wrap_n (by omega)]
   refine hag (k+1) ⟨by omega,?_⟩ (by omega)
   rw[hm,runD_cons,if_pos h];omega
  ·rw[hm,runD_cons,if_neg (by rw[h];simp)];rfl
 ·have:s.size≤k:=by simpa using h
  rw[List.drop_eq_nil_of_le (by omega)] at hm
  rw[hm];simp[runD]
def signs:List Int:=[40,41,92,46,44,59,58,61,62,60,91,93,123,125,33,63,64]
def signN:List Int→Nat
 | []=>0
 |c::l=>if c=45∧l.head?=some 62 then 2 else if c∈signs then 1 else 0
def tokN:List Int→Nat×Nat
 | []=>(3,0)
 |c::l=>if isLetter c=true then(1,runN (c::l)) else if isDigit c=true then(2,runD (c::l)) else(3,signN (c::l))
theorem hasPrefix_calls {s p:ByteArray}:PureIs Tryz.prog 146 [nS s,nS p] (nB (decide ((bytesI s).take p.size=bytesI p))):=by
 have hl:=bytesI_len s
 have hp:=bytesI_len p
 refine vc146_ok ⟨_,vc154_ok (R:=fun r=>r=nB (decide ((bytesI s).take p.size=bytesI p))) (ITE.intro (fun h=>?_) fun h=>?_),rfl⟩
 ·have h:p.size≤s.size:=by have:=of_decide_eq_true h;omega
  refine⟨⟨by decide,by omega,by omega⟩,?_⟩
  show nB _=nB _
  rw[strEq_iff]
  refine nB_congr ?_
  rw[decide_eq_true_iff,decide_eq_true_iff]
  have e:bytesI (s.extract (Int.toNat 0) (Int.toNat ((p.size:Nat):Int)))=(bytesI s).take p.size:=by rw[bytesI_extract];rfl
  rw[←e]
  exact⟨fun h=>by rw[h],bytesI_inj⟩
 ·have h:s.size<p.size:=by have:=of_decide_eq_false h;omega
  refine(nB_congr ?_).symm
  rw[decide_eq_true_iff]
  refine⟨fun e=>?_,fun e=>by cases e⟩
  have:=congrArg List.length e
  rw[List.length_take] at this;omega
theorem sign_calls {s:ByteArray} (hs:s.size≤1000000000):PureIs Tryz.prog 123 [nS s] (nI (signN (bytesI s):Nat)):=by
 refine vc123_ok ⟨_,hasPrefix_calls,?_⟩
 have e1:bytesI (⟨#[45,62]⟩:ByteArray)=[45,62]:=rfl
 have e2:(⟨#[45,62]⟩:ByteArray).size=2:=rfl
 rw[e1,e2]
 cases hb:bytesI s with
 |nil=>
  obtain rfl:s=⟨#[]⟩:=bytesI_inj hb
  exact ITE.neg rfl (ITE.neg (by rw[strEq_iff];rfl) rfl)
 |cons c l=>
  have hat:strAt s ((0:Nat):Int)=c∧0<s.size∧_:=strAt_drop (by rw[List.drop_zero];exact hb)
  have hix:=indexByte_calls (s:=(⟨#[40,41,92,46,44,59,58,61,62,60,91,93,123,125,33,63,64]⟩:ByteArray)) (c:=c)
   (by have:=bytesI_range s c (by rw[hb];exact List.mem_cons_self);omega) (by have:=bytesI_range s c (by rw[hb];exact List.mem_cons_self);omega)
  rw[←show strAt s (0:Int)=c from hat.1] at hix
  have e3:bytesI (⟨#[40,41,92,46,44,59,58,61,62,60,91,93,123,125,33,63,64]⟩:ByteArray)=signs:=rfl
  rw[e3] at hix
  have hix2:=hix
  have hc0:strAt s (0:Int)=c:=hat.1
  have hsg:decide (idxI c signs≥0)=decide (c∈signs):=by
   have key:∀L:List Int,(runC c L=L.length↔c∉L):=by
    intro L
    induction L with
    |nil=>simp[runC]
    |cons b L ih=>
     rw[runC_cons,List.length_cons,List.mem_cons]
     by_cases h:b=c
     ·subst h;simp
     ·rw[if_neg h]
      have h':¬c=b:=fun e=>h e.symm
      simp only[Nat.add_right_cancel_iff,ih,h',false_or]
   unfold idxI
   by_cases h:c∈signs
   ·rw[if_neg (fun e=>(key _).1 e h),decide_eq_true h];exact decide_eq_true (by omega)
   ·rw[if_pos ((key _).2 h),decide_eq_false h];rfl
  have h2:decide ((c::l).take 2=[45,62])=decide (c=45∧l.head?=some 62):=by
   cases l with
   |nil=>simp
   |cons d l=>simp
  rw[h2]
  refine ITE.intro (fun h=>?_) fun h=>ITE.pos (by rw[strEq_iff,decide_eq_false];rfl;intro e;rw[e] at hb;cases hb) ⟨⟨by decide,by have:=hat.2.1;omega⟩,_,hix2,?_⟩
  ·rw[signN,if_pos (of_decide_eq_true h)];rfl
  ·rw[hc0,hsg]
   refine ITE.intro (fun h3=>?_) fun h3=>?_
   ·rw[signN,if_neg (of_decide_eq_false h),if_pos (of_decide_eq_true h3)];rfl
   ·rw[signN,if_neg (of_decide_eq_false h),if_neg (of_decide_eq_false h3)];rfl
end Go.Proofs.YtjhanogfpkbamaaGreatDoor

namespace Go.Proofs.YtjhanogfpkbamaaGreatDoor
open Go
set_option linter.unusedSimpArgs false
set_option linter.unusedVariables false
theorem first_calls {s:ByteArray} (hs:s.size≤1000000000) (hne:bytesI s≠[]):PureIs Tryz.prog 88 [nS s] (.tup [nI ((tokN (bytesI s)).1:Nat),nI ((tokN (bytesI s)).2:Nat)]):=by
 cases hb:bytesI s with
 |nil=>exact(hne hb).elim
 |cons c l=>
  have hat:strAt s ((0:Nat):Int)=c∧0<s.size∧_:=strAt_drop (by rw[List.drop_zero];exact hb)
  have hc0:strAt s (0:Int)=c:=hat.1
  have hz:=hat.2.1
  refine vc88_ok ⟨⟨by decide,by omega⟩,_,letter_calls,?_⟩
  rw[hc0]
  refine ITE.intro (fun h=>⟨_,run_calls hs,?_⟩) fun h=>⟨⟨by decide,by omega⟩,_,digit_calls,ITE.intro (fun h2=>⟨_,runD_calls hs,?_⟩) fun h2=>⟨_,sign_calls hs,?_⟩⟩
  ·rw[tokN,if_pos h,hb];rfl
  ·rw[tokN,if_neg (by rw[h];decide),if_pos h2,hb];rfl
  ·rw[tokN,if_neg (by rw[h];decide),if_neg (by rw[h2];decide),hb];rfl
def visW (c:Int):ByteArray:=if c<33∨c>126 then⟨#[]⟩ else strOfNums [c]
theorem visible_calls {c:Int}:PureIs Tryz.prog 89 [.prim (.int .u8 c)] (nS (visW c)):=by
 refine vc89_ok (ITE.intro (fun h=>?_) fun h=>ITE.intro (fun h2=>?_) fun h2=>?_)
 ·rw[visW,if_pos (.inl (of_decide_eq_true h))]
 ·rw[visW,if_pos (.inr (of_decide_eq_true h2))]
 ·rw[visW,if_neg (by have:=of_decide_eq_false h;have:=of_decide_eq_false h2;omega)]
def headW (s:ByteArray):ByteArray:=s.extract 0 (if 10<s.size then 10 else s.size)
theorem lhead_calls {s:ByteArray}:PureIs Tryz.prog 90 [nS s] (nS (headW s)):=by
 refine vc90_ok ⟨⟨by decide,by split<;>omega,by split<;>omega⟩,?_⟩
 rw[headW]
 by_cases h:10<s.size
 ·rw[if_pos h,if_pos (by omega)];rfl
 ·rw[if_neg h,if_neg (by omega)];rfl
abbrev Fa:=Int×Int×Int×ByteArray
abbrev faC (f:Fa):List AV:=[nI f.1,nI f.2.1,nI f.2.2.1,nS f.2.2.2]
def noFa:Fa:=(0,0,0,⟨#[]⟩)
def atFa (s:ByteArray) (code:Int) (i:Nat) (w:ByteArray):Fa:=(code,(markR (1,1) ((bytesI s).take i)).1,(markR (1,1) ((bytesI s).take i)).2,w)
def lexA (s:ByteArray) (i:Nat):Nat:=i+skipB false ((bytesI s).drop i)
def lexT (s:ByteArray) (i:Nat):Nat×Nat:=tokN ((bytesI s).drop i)
def lexF (s:ByteArray):Nat→Nat→List Tk→List Tk×Int×Nat×ByteArray
 |0,_,acc=>(acc,0,0,⟨#[]⟩)
 |f+1,i,acc=>if lexA s i=s.size then(acc,0,0,⟨#[]⟩)
  else if(lexT s (lexA s i)).2=0 then([],3,lexA s i,visW (strAt s (lexA s i)))
  else if((lexT s (lexA s i)).1=1∧30<(lexT s (lexA s i)).2)∨((lexT s (lexA s i)).1=2∧9<(lexT s (lexA s i)).2) then([],2,lexA s i,headW (s.extract (lexA s i) (lexA s i+(lexT s (lexA s i)).2)))
  else lexF s f (lexA s i+(lexT s (lexA s i)).2) (acc++[((((lexT s (lexA s i)).1:Nat):Int),s.extract (lexA s i) (lexA s i+(lexT s (lexA s i)).2),((lexA s i:Nat):Int))])
def finS (s:ByteArray) (r:List Tk×Int×Nat×ByteArray):List Tk×Fa:=if r.2.1=0 then(r.1,noFa) else([],atFa s r.2.1 r.2.2.1 r.2.2.2)
def splitP (s:ByteArray):List Tk×Fa:=if s.size>20000 then([],(2,1,1,⟨#[]⟩)) else finS s (lexF s (s.size+1) 0 [])
theorem tokN_le:∀l:List Int,(tokN l).2≤l.length
 | []=>Nat.le_refl _
 |c::l=>by
  have h1:=runN_le (c::l)
  have h2:=runD_le (c::l)
  rw[tokN]
  split
  ·exact h1
  ·split
   ·exact h2
   ·rw[signN]
    split
    ·rename_i h
     obtain⟨d,hd⟩:∃d,l.head?=some d:=⟨_,h.2⟩
     cases l with
     |nil=>cases hd
     |cons d l=>simp
    ·split<;>simp
theorem splitFail_calls {s w:ByteArray} {f:Fa} {us:List AV} {i:Nat} {c:Int} (hi:i≤s.size) (hs:s.size≤1000000000):HFn Tryz.prog 84 [nI c,nS w,.ptr 0 0,.ptr 3 0] (spO s f.1 f.2.1 f.2.2.1 f.2.2.2 us.length (i:Int) us)
  (fun r hp'=>r=.tup [.prim (.slice none 0 0),.agg (faC (atFa s c i w))]∧hp'=spO s f.1 f.2.1 f.2.2.1 f.2.2.2 us.length (i:Int) us):=
 vc84_ok ⟨_,_,_,placeOf_calls hi hs,rfl,rfl⟩
theorem splitCut_calls {s:ByteArray} {f:Fa} {us:List Tk} {i n:Nat} {k:Int} (hi:i+n≤s.size) (hs:s.size≤1000000000) (hu:us.length≤1000000000):HFn Tryz.prog 86 [nI k,nI (n:Int),.ptr 2 0,.ptr 0 0,.ptr 3 0] (spO s f.1 f.2.1 f.2.2.1 f.2.2.2 (us.map tkEnc).length (i:Int) (us.map tkEnc))
  (fun r hp'=>r=.tup []∧hp'=spO s f.1 f.2.1 f.2.2.1 f.2.2.2 ((us++[(k,s.extract i (i+n),(i:Int))]).map tkEnc).length ((i+n:Nat):Int) ((us++[(k,s.extract i (i+n),(i:Int))]).map tkEnc)):=by
 refine vc86_ok ?_
 have w:IntKind.wrap .i64 ((i:Int)+(n:Int))=((i+n:Nat):Int):=by rw[wrap_i (by omega) (by omega)];omega
 unfold vc86
 rw[w]
 have e:=tk_snoc us (k,s.extract i (i+n),(i:Int))
 refine⟨⟨by omega,by omega,by omega⟩,rfl,appOk_one rfl (by simp;omega) (by decide),rfl,?_⟩
 rw[←e];rfl
theorem lexSplit_calls {s:ByteArray} (hs:s.size≤1000000000):PureIs Tryz.prog 47 [nS s] (.tup [.sl ((splitP s).1.map tkEnc),.agg (faC (splitP s).2)]):=by
 have hl:=bytesI_len s
 refine vc47_ok ?_
 refine ITE.intro (fun h=>?_) fun h=>?_
 ·have h:s.size>20000:=by have:=of_decide_eq_true h;omega
  rw[splitP,if_pos h];rfl
 refine⟨rfl,?_⟩
 have hsz:¬s.size>20000:=by have:=of_decide_eq_false h;omega
 have hsp:splitP s=finS s (lexF s (s.size+1) 0 []):=if_neg hsz
 refine LoopP.intro (fun p:Nat×Nat×List Tk=>(((),(),(),(),((),(),()),((),(),(),()),()),((s,()),(0,0,0,⟨#[]⟩,()),((),()),((p.2.1:Int),()),p.2.2.map tkEnc,()))) (fun p=>p.2.1≤s.size∧s.size+1≤p.1+p.2.1∧p.2.2.length≤p.2.1∧splitP s=finS s (lexF s p.1 p.2.1 p.2.2)) (fun p=>s.size-p.2.1)
  (s.size+1,0,[]) rfl ⟨Nat.zero_le _,by dsimp only;omega,Nat.le_refl _,hsp⟩ ?_
 intro ⟨f,i,acc⟩ ⟨hi,hf,hac,hd⟩ again hag
 dsimp only at hi hf hac hd ⊢
 obtain⟨f,rfl⟩:∃g,f=g+1:=⟨f-1,by omega⟩
 have hsk:=skip_calls (s:=s.extract i s.size) (by rw[ByteArray.size_extract];omega)
 rw[bytes_to_end] at hsk
 have hle:=skipB_le false ((bytesI s).drop i)
 rw[List.length_drop,hl] at hle
 have w1:IntKind.wrap .i64 ((i:Int)+((skipB false ((bytesI s).drop i):Nat):Int))=((lexA s i:Nat):Int):=by rw[wrap_i (by omega) (by omega),lexA];omega
 have ha:lexA s i≤s.size:=by rw[lexA];omega
 have hai:i≤lexA s i:=by rw[lexA];omega
 refine⟨⟨by omega,by omega,by omega⟩,_,hsk,?_⟩
 rw[w1]
 rw[lexF] at hd
 clear w1 hsk hle
 generalize hA:lexA s i=a at ha hai hd ⊢
 refine ITE.intro (fun h1=>⟨rfl,?_⟩) fun h1=>?_
 ·have h1:a=s.size:=by have:=eq_of_beq h1;omega
  rw[if_pos h1] at hd
  rw[hd];rfl
 have h1:¬a=s.size:=fun e=>by rw[e] at h1;simp at h1
 rw[if_neg h1] at hd
 have hfi:=first_calls (s:=s.extract a s.size) (by rw[ByteArray.size_extract];omega) (by rw[bytes_to_end];intro e;have:=congrArg List.length e;rw[List.length_drop,hl] at this;simp at this;omega)
 rw[bytes_to_end] at hfi
 have htl:=tokN_le ((bytesI s).drop a)
 rw[List.length_drop,hl] at htl
 change PureIs _ _ _ (.tup [nI ((lexT s a).1:Nat),nI ((lexT s a).2:Nat)]) at hfi
 change (lexT s a).2≤_ at htl
 refine⟨⟨by omega,by omega,by omega⟩,_,_,hfi,?_⟩
 generalize hT:lexT s a=t at htl hd ⊢
 obtain⟨k,n⟩:=t
 dsimp only at htl hd ⊢
 have toobig:(k=1∧30<n∨k=2∧9<n)→¬n=0→nI (0:Int)=nI 0→AV.tup [.sl [],.agg (faC (atFa s 2 a (headW (s.extract a (a+n)))))]=AV.tup [.sl ((splitP s).1.map tkEnc),.agg (faC (splitP s).2)]:=fun h h0 _=>by
  rw[if_neg h0,if_pos h] at hd
  rw[hd];rfl
 have w2:IntKind.wrap .i64 ((a:Int)+(n:Int))=((a+n:Nat):Int):=by rw[wrap_i (by omega) (by omega)];omega
 have cut:¬(k=1∧30<n∨k=2∧9<n)→¬n=0→callX 86 [nI (k:Int),nI (n:Int),.ptr 2 0,.ptr 0 0,.ptr 3 0] (spO s 0 0 0 ⟨#[]⟩ (acc.map tkEnc).length (a:Int) (acc.map tkEnc)) fun r q=>∃l s2 i1 i2 i3 w i,(r=.tup []∧q=spO s2 i1 i2 i3 w (List.length l) i l)∧List.length l=List.length l∧
   again (((),(),(),(),((),(),()),((),(),(),()),()),((s2,()),(i1,i2,i3,w,()),((),()),(i,()),l,())):=fun h h0=>by
  rw[if_neg h0,if_neg h] at hd
  exact⟨_,splitCut_calls (f:=noFa) (by omega) hs (by omega),fun r q ⟨e1,e2⟩=>⟨_,_,_,_,_,_,_,⟨e1,e2⟩,rfl,hag (f,a+n,acc++[((k:Int),s.extract a (a+n),(a:Int))]) ⟨by dsimp only;omega,by dsimp only;omega,by simp;omega,hd⟩ (by dsimp only;omega)⟩⟩
 have rest:∀b:Bool,(b=true→(k=1∧30<n∨k=2∧9<n))→(b=false→¬(k=1∧30<n∨k=2∧9<n))→¬n=0→
   vc47_R15 b (a:Int) (n:Int) s 0 0 0 ⟨#[]⟩ (acc.map tkEnc).length (acc.map tkEnc) (fun r=>r=.tup [.sl ((splitP s).1.map tkEnc),.agg (faC (splitP s).2)]) (k:Int) again:=fun b hb1 hb2 h0=>by
  refine ITE.intro (fun h=>?_) fun h=>cut (hb2 h) h0
  rw[w2]
  exact⟨⟨by omega,by omega,by omega⟩,_,lhead_calls,_,splitFail_calls (f:=noFa) (by omega) hs,fun r q ⟨e1,e2⟩=>⟨_,_,_,_,_,_,_,_,_,_,_,⟨e1,e2⟩,toobig (hb1 h) h0 rfl⟩⟩
 refine ITE.intro (fun h2=>?_) fun h2=>?_
 ·have h2:n=0:=by have:=eq_of_beq h2;omega
  rw[if_pos h2] at hd
  refine⟨⟨by omega,by omega⟩,_,visible_calls,_,splitFail_calls (f:=noFa) (by omega) hs,fun r q ⟨e1,e2⟩=>⟨_,_,_,_,_,_,_,_,_,_,_,⟨e1,e2⟩,?_⟩⟩
  rw[hd];rfl
 have h0:¬n=0:=fun e=>by subst e;cases h2
 refine ITE.intro (fun h3=>ITE.intro (fun h4=>?_) fun h4=>ITE.intro (fun h5=>?_) fun h5=>?_) fun h3=>ITE.intro (fun h5=>?_) fun h5=>?_
 ·have h3:k=1:=by have:=eq_of_beq h3;omega
  have h4':30<n:=by have:=of_decide_eq_true h4;omega
  rw[h4]
  exact rest _ (fun _=>.inl ⟨h3,h4'⟩) (fun h=>by cases h) h0
 ·have h3:k=1:=by have:=eq_of_beq h3;omega
  have h5:k=2:=by have:=eq_of_beq h5;omega
  omega
 ·have h3:k=1:=by have:=eq_of_beq h3;omega
  have h4:¬30<n:=by have:=of_decide_eq_false h4;omega
  exact cut (by omega) h0
 ·have h5:k=2:=by have:=eq_of_beq h5;omega
  exact rest _ (fun h=>.inr ⟨h5,by have:=of_decide_eq_true h;omega⟩) (fun h=>by have:=of_decide_eq_false h;omega) h0
 ·have h3:¬k=1:=fun e=>by subst e;cases h3
  have h5:¬k=2:=fun e=>by subst e;cases h5
  exact cut (by omega) h0
end Go.Proofs.YtjhanogfpkbamaaGreatDoor

namespace Go.Proofs.YtjhanogfpkbamaaGreatDoor
open Go
set_option linter.unusedSimpArgs false
set_option linter.unusedVariables false
abbrev St:=Nat×Fa
structure PE (L:List Tk) (s:ByteArray):Prop where
 len:L.length≤1000000
 size:s.size≤1000000000
 at_:∀t∈L,0≤t.2.2∧t.2.2≤(s.size:Int)
 kind:∀t∈L,t.1≠4
abbrev RO (L:List Tk) (s:ByteArray) (i:Nat):List AObj:=rdO (L.map tkEnc) s (i:Int)
def endT (s:ByteArray):Tk:=(4,⟨#[]⟩,(s.size:Int))
def pk (L:List Tk) (s:ByteArray) (i:Nat):Tk:=L.getD i (endT s)
def isT (w:ByteArray) (t:Tk):Bool:=(t.1==1||t.1==3)&&decide (t.2.1=w)
variable {L:List Tk} {s w:ByteArray} {o:Int} {st:St} {i n:Nat}
theorem pk_lt (h:i<L.length):pk L s i=L[i]:=by simp[pk,List.getD,h]
theorem pk_ge (h:L.length≤i):pk L s i=endT s:=by simp[pk,List.getD,h]
theorem pk_at (h:PE L s):0≤(pk L s i).2.2∧(pk L s i).2.2≤(s.size:Int):=by
 rcases Nat.lt_or_ge i L.length with h1|h1
 ·rw[pk_lt h1];exact h.at_ _ (List.getElem_mem h1)
 ·rw[pk_ge h1];exact⟨by simp[endT],Int.le_refl _⟩
theorem peek_calls (h:PE L s) (hi:i≤L.length):HFn Tryz.prog 50 [.ptr 0 0,nI 0] (RO L s i) (fun r q=>r=tkEnc (pk L s i)∧q=RO L s i):=by
 have:=h.len
 have hw:IntKind.wrap .i64 (((L.length:Nat):Int)-(i:Int))=(L.length:Int)-i:=wrap_i (by omega) (by omega)
 have hw2:IntKind.wrap .i64 ((i:Int)+0)=(i:Int):=by rw[Int.add_zero,wrap_i (by omega) (by omega)]
 refine vc50_ok (ITE.neg rfl ?_)
 rw[List.length_map]
 refine ITE.intro (fun h1=>?_) fun h1=>?_
 ·have h1:=of_decide_eq_true h1
  rw[hw] at h1
  rw[pk_ge (by omega)]
  exact⟨rfl,rfl⟩
 ·have h1:=of_decide_eq_false h1
  rw[hw] at h1
  have hlt:i<L.length:=by omega
  rw[hw2]
  exact⟨by omega,by omega,_,_,_,getD_map hlt,by rw[pk_lt hlt];rfl,rfl⟩
theorem rnext_calls (h:PE L s) (hi:i≤L.length):HFn Tryz.prog 149 [.ptr 0 0] (RO L s i) (fun r q=>r=tkEnc (pk L s i)∧q=RO L s (if i<L.length then i+1 else i)):=by
 have:=h.len
 refine vc149_ok ⟨_,peek_calls h hi,fun r q ⟨e1,e2⟩=>⟨_,_,_,_,_,_,⟨e1,e2⟩,?_⟩⟩
 rw[List.length_map]
 refine ITE.intro (fun h1=>⟨rfl,?_⟩) fun h1=>⟨rfl,?_⟩
 ·rw[if_pos (by have:=of_decide_eq_true h1;omega),wrap_n (by omega)]
 ·rw[if_neg (by have:=of_decide_eq_false h1;omega)]
theorem take_calls (h:PE L s) (hi:i≤L.length):HFn Tryz.prog 124 [.ptr 0 0,.clip [nS w]] (RO L s i) (fun r q=>r=nB (isT w (pk L s i))∧q=RO L s (if isT w (pk L s i)=true then i+1 else i)):=by
 have:=h.len
 refine HFn.argsW (ys:=[.ptr 0 0,.sl [nS w]]) ⟨RepW.refl _,repW_clip _,True.intro⟩ ?_
 refine vc124_ok ?_
 refine LoopP.intro (fun k:Nat=>(((),[nS w],[nS w],1,(k:Int),()),((L.map tkEnc,s,(i:Int),()),()))) (fun k=>k=0∨k=1∧isT w (pk L s i)=true) (fun k=>1-k) 0 rfl (.inl rfl) ?_
 intro k hk again hag
 dsimp only
 rcases hk with rfl|⟨rfl,hk⟩
 ·refine ITE.pos rfl ⟨by decide,by show (0:Int)<1;decide,_,rfl,_,peek_calls h hi,fun r q ⟨e1,e2⟩=>⟨_,_,_,_,_,_,⟨e1,e2⟩,?_⟩⟩
  rw[strEq_iff]
  have fin:(pk L s i).1=1∨(pk L s i).1=3→ITE (!(decide ((pk L s i).2.1=w))) (nB false=nB (isT w (pk L s i))∧RO L s i=RO L s (if isT w (pk L s i)=true then i+1 else i)) (again (((),[nS w],[nS w],1,IntKind.wrap .i64 (((0:Nat):Int)+1),()),((L.map tkEnc,s,(i:Int),()),()))):=fun hk=>by
   have hk:((pk L s i).1==1||(pk L s i).1==3)=true:=by simpa using hk
   refine ITE.intro (fun h1=>?_) fun h1=>?_
   ·have:isT w (pk L s i)=false:=by rw[isT,hk];simpa using h1
    rw[this];exact⟨rfl,rfl⟩
   ·refine hag 1 (.inr ⟨rfl,?_⟩) (by decide)
    rw[isT,hk];simpa using h1
  refine ITE.intro (fun h1=>ITE.intro (fun h2=>?_) fun h2=>fin (.inr (by simpa using h2))) fun h1=>fin (.inl (by simpa using h1))
  have:isT w (pk L s i)=false:=by
   have h1:¬(pk L s i).1=1:=by simpa using h1
   have h2:¬(pk L s i).1=3:=by simpa using h2
   simp[isT,h1,h2]
  rw[this];exact⟨rfl,rfl⟩
 ·refine ITE.neg rfl ⟨by rw[hk],?_⟩
  have e:IntKind.wrap .i64 ((i:Int)+1)=((i+1:Nat):Int):=wrap_n (by omega)
  show rdO _ _ (IntKind.wrap .i64 ((i:Int)+1))=_
  rw[if_pos hk,e]
theorem rplace_calls (h:PE L s) (hi:i≤L.length):HFn Tryz.prog 155 [.ptr 0 0] (RO L s i) (fun r q=>r=markA s (pk L s i).2.2.toNat∧q=RO L s i):=by
 have ha:=pk_at (i:=i) h
 have hp:PureIs Tryz.prog 85 [nS s,nI (pk L s i).2.2] (.tup [markA s (pk L s i).2.2.toNat,nI 0]):=by
  have:=placeOf_calls (s:=s) (i:=(pk L s i).2.2.toNat) (by omega) h.size
  rwa [show (((pk L s i).2.2.toNat:Nat):Int)=(pk L s i).2.2 by omega] at this
 have key:vc155_L2 (L.map tkEnc) s (i:Int) (fun r q=>r=markA s (pk L s i).2.2.toNat∧q=RO L s i):=
  ⟨_,peek_calls h hi,fun r q ⟨e1,e2⟩=>⟨_,_,_,_,_,_,⟨e1,e2⟩,_,_,_,hp,ITE.pos rfl ⟨rfl,rfl⟩⟩⟩
 have key2:vc155_L2'' (L.map tkEnc) s (i:Int) (fun r q=>r=markA s (pk L s i).2.2.toNat∧q=RO L s i):=
  ⟨_,peek_calls h hi,fun r q ⟨e1,e2⟩=>⟨_,_,_,_,_,_,⟨e1,e2⟩,_,_,_,hp,ITE.pos rfl ⟨rfl,rfl⟩⟩⟩
 exact vc155_ok ⟨⟨key,key⟩,key2,key,key2⟩
theorem rfail_calls (h:PE L s) (hi:i≤L.length) {c:Int}:HFn Tryz.prog 147 [.ptr 0 0,nI c] (RO L s i) (fun r q=>r=.agg (faC (atFa s c (pk L s i).2.2.toNat (headW (pk L s i).2.1)))∧q=RO L s i):=
 vc147_ok ⟨_,rplace_calls h hi,fun r q ⟨e1,e2⟩=>⟨_,_,_,_,_,⟨e1,e2⟩,_,peek_calls h hi,fun r q ⟨e1,e2⟩=>⟨_,_,_,_,_,_,⟨e1,e2⟩,_,lhead_calls,rfl,rfl⟩⟩⟩
def valF:Int→List Int→Int
 |n,[]=>n
 |n,c::l=>valF (10*n+(c-48)) l
theorem strAV_eq (s:ByteArray):strAV s=(bytesI s).map fun c=>.prim (.int .u8 c):=by simp[strAV,bytesI]
end Go.Proofs.YtjhanogfpkbamaaGreatDoor

namespace Go.Proofs.YtjhanogfpkbamaaGreatDoor
open Go
set_option linter.unusedSimpArgs false
set_option linter.unusedVariables false
section
variable (L:List Tk) (s:ByteArray)
end
variable {L:List Tk} {s w:ByteArray} {o:Int} {st:St} {i n:Nat}
def PRW (x:AV) (H:List AObj):AV→List AObj→Prop:=fun r q=>RepW r x∧q=H
theorem HFn.prw {P:Program} {f:FuncId} {args:List AV} {hp H:List AObj} {x:AV} (h:HFn P f args hp (PRW x H)):HFn P f args hp (fun r q=>r=x∧q=H):=h.res fun r q ⟨h1,h2⟩=>⟨_,h1,rfl,h2⟩
end Go.Proofs.YtjhanogfpkbamaaGreatDoor

namespace Go.Proofs.YtjhanogfpkbamaaGreatDoor
open Go
set_option linter.unusedSimpArgs false
set_option linter.unusedVariables false
variable {L:List Tk} {s w:ByteArray} {o:Int} {st:St} {i n:Nat}
theorem lexF_pe {s:ByteArray}:∀(f i:Nat) (acc:List Tk),i≤s.size→acc.length≤i→(∀t∈acc,(0≤t.2.2∧t.2.2≤(s.size:Int))∧t.1≠4)→
  (lexF s f i acc).1.length≤s.size∧∀t∈(lexF s f i acc).1,(0≤t.2.2∧t.2.2≤(s.size:Int))∧t.1≠4
 |0,i,acc,hi,ha,h=>⟨by rw[lexF];dsimp only;omega,h⟩
 |f+1,i,acc,hi,ha,h=>by
  have hl:=bytesI_len s
  have hle:=skipB_le false ((bytesI s).drop i)
  rw[List.length_drop,hl] at hle
  have hA:i≤lexA s i∧lexA s i≤s.size:=by rw[lexA];omega
  rw[lexF]
  generalize lexA s i=a at hA
  split
  ·exact⟨by dsimp only;omega,h⟩
  split
  ·exact⟨Nat.zero_le _,fun t ht=>by cases ht⟩
  split
  ·exact⟨Nat.zero_le _,fun t ht=>by cases ht⟩
  rename_i h0 _
  have htl:=tokN_le ((bytesI s).drop a)
  rw[List.length_drop,hl] at htl
  have hk:∀l:List Int,(tokN l).1≤3:=fun l=>by
   cases l with
   |nil=>decide
   |cons c l=>
    rw[tokN]
    split
    ·show 1≤3;decide
    ·split
     ·show 2≤3;decide
     ·show 3≤3;decide
  have hk:=hk ((bytesI s).drop a)
  change (lexT s a).2≤_ at htl
  change (lexT s a).1≤_ at hk
  refine lexF_pe f _ _ (by omega) (by simp;omega) fun t ht=>?_
  rcases List.mem_append.1 ht with ht|ht
  ·exact h t ht
  ·obtain rfl:=List.mem_singleton.1 ht
   exact⟨⟨by simp,by simp;omega⟩,by show ¬(((lexT s a).1:Nat):Int)=4;omega⟩
theorem split_pe {s:ByteArray}:PE (splitP s).1 s∨20000<s.size∧splitP s=([],(2,1,1,⟨#[]⟩)):=by
 by_cases h:s.size>20000
 ·exact .inr ⟨h,if_pos h⟩
 ·refine .inl ?_
  have hp:=lexF_pe (s:=s) (s.size+1) 0 [] (Nat.zero_le _) (Nat.le_refl _) fun t ht=>by cases ht
  rw[splitP,if_neg h,finS]
  split
  ·exact⟨by dsimp only;omega,by omega,fun t ht=>(hp.2 t ht).1,fun t ht=>(hp.2 t ht).2⟩
  ·exact⟨Nat.zero_le _,by omega,fun t ht=>(by cases ht),fun t ht=>by cases ht⟩
theorem clone_tk {l:List Tk} (hl:l.length≤1000000):PureIs Tryz.prog 91 [.sl (l.map tkEnc)] (.sl (l.map tkEnc)):=by
 refine vc91_ok fun b hb=>ITE.intro (fun h=>?_) fun h=>⟨fun _=>rfl,appOk_mk (fun x hx=>by cases hx) (fun x hx=>by obtain⟨t,_,rfl⟩:=List.mem_map.1 hx;rfl) (by simp;omega) (by decide),rfl,rfl⟩
 have:l.map tkEnc=[]:=Decidable.byContradiction fun c=>by
  have:=hb c;rw[h] at this;cases this
 rw[this]
theorem rnew_calls {l:List Tk} (hl:l.length≤1000000):HFn Tryz.prog 48 [.sl (l.map tkEnc),nS s] [] (fun r q=>r=.ptr 0 0∧q=RO l s 0):=vc48_ok ⟨_,clone_tk hl,rfl,rfl⟩
end Go.Proofs.YtjhanogfpkbamaaGreatDoor

namespace Go.Proofs.YtjhanogfpkbamaaGreatDoor
open Go
set_option linter.unusedSimpArgs false
set_option linter.unusedVariables false
theorem dec_small {u:Nat} (h:u<10):Lib.decDigits u=[UInt8.ofNat (48+u)]:=by rw[Lib.decDigits,dif_pos h]
theorem dec_step {u:Nat} (h:¬u<10):Lib.decDigits u=Lib.decDigits (u / 10)++[UInt8.ofNat (48+u % 10)]:=by rw[Lib.decDigits,dif_neg h]
end Go.Proofs.YtjhanogfpkbamaaGreatDoor

namespace Go.Proofs.YtjhanogfpkbamaaGreatDoor
open Go
set_option linter.unusedSimpArgs false
set_option linter.unusedVariables false
abbrev Tx:=Int×List Int
inductive Lx:List Int→List Tx→Prop where
 |nil {l:List Int}:skipB false l=l.length→Lx l []
 |cons {l:List Int} {T:List Tx}:skipB false l≠l.length→(tokN (l.drop (skipB false l))).2≠0→
   ¬(((tokN (l.drop (skipB false l))).1=1∧30<(tokN (l.drop (skipB false l))).2)∨((tokN (l.drop (skipB false l))).1=2∧9<(tokN (l.drop (skipB false l))).2))→
   Lx (l.drop (skipB false l+(tokN (l.drop (skipB false l))).2)) T→Lx l ((((tokN (l.drop (skipB false l))).1:Nat),(l.drop (skipB false l)).take (tokN (l.drop (skipB false l))).2)::T)
def txOf (t:Tk):Tx:=(t.1,bytesI t.2.1)
theorem lexF_lx {s:ByteArray}:∀{l:List Int} {T:List Tx},Lx l T→∀(f i:Nat) (acc:List Tk),l=(bytesI s).drop i→i≤s.size→s.size+1≤f+i→∃ts:List Tk,lexF s f i acc=(acc++ts,0,0,⟨#[]⟩)∧ts.map txOf=T:=by
 intro l T h
 induction h with
 |nil h1=>
  intro f i acc hl hi hf
  have hlen:=bytesI_len s
  obtain⟨f,rfl⟩:∃g,f=g+1:=⟨f-1,by omega⟩
  subst hl
  rw[List.length_drop,hlen] at h1
  exact⟨[],by rw[lexF,if_pos (by rw[lexA,h1];omega),List.append_nil],rfl⟩
 |cons h1 h2 h3 _ ih=>
  intro f i acc hl hi hf
  have hlen:=bytesI_len s
  obtain⟨f,rfl⟩:∃g,f=g+1:=⟨f-1,by omega⟩
  subst hl
  have hle:=skipB_le false ((bytesI s).drop i)
  rw[List.length_drop,hlen] at h1 hle
  rw[List.drop_drop] at h2 h3 ih ⊢
  rw[List.drop_drop] at ih
  have htl:=tokN_le ((bytesI s).drop (i+skipB false ((bytesI s).drop i)))
  rw[List.length_drop,hlen] at htl
  have e1:lexA s i=i+skipB false ((bytesI s).drop i):=rfl
  have e2:lexT s (lexA s i)=tokN ((bytesI s).drop (i+skipB false ((bytesI s).drop i))):=rfl
  rw[lexF,if_neg (by rw[e1];omega),if_neg (by rw[e2];exact h2),if_neg (by rw[e2];exact h3),e2,e1]
  obtain⟨ts,g1,g2⟩:=ih f (i+skipB false ((bytesI s).drop i)+(tokN ((bytesI s).drop (i+skipB false ((bytesI s).drop i)))).2) (acc++[((((tokN ((bytesI s).drop (i+skipB false ((bytesI s).drop i)))).1:Nat):Int),s.extract (i+skipB false ((bytesI s).drop i)) (i+skipB false ((bytesI s).drop i)+(tokN ((bytesI s).drop (i+skipB false ((bytesI s).drop i)))).2),((i+skipB false ((bytesI s).drop i):Nat):Int))]) (by rw[Nat.add_assoc]) (by omega) (by omega)
  refine⟨_::ts,by rw[g1,List.append_assoc];rfl,?_⟩
  rw[List.map_cons,g2,txOf]
  dsimp only
  rw[bytesI_extract,Nat.add_sub_cancel_left]
theorem splitP_lx {s:ByteArray} {T:List Tx} (h:Lx (bytesI s) T) (hs:s.size≤20000):∃L:List Tk,splitP s=(L,noFa)∧L.map txOf=T:=by
 obtain⟨ts,g1,g2⟩:=lexF_lx h (s.size+1) 0 [] rfl (Nat.zero_le _) (by omega)
 exact⟨ts,by rw[splitP,if_neg (by omega),g1];rfl,g2⟩
variable {r:List Int} {T:List Tx}
theorem Lx.zero {l:List Int} {n:Nat} {k:Nat} (hs:skipB false l=0) (hk:tokN l=(k,n)) (hn:n≠0) (hb:¬((k=1∧30<n)∨(k=2∧9<n))) (h:Lx (l.drop n) T):Lx l (((k:Nat),l.take n)::T):=by
 have hl:l.length≠0:=fun e=>by
  have:=tokN_le l
  rw[hk] at this;dsimp only at this;omega
 have:=Lx.cons (l:=l) (T:=T) (by rw[hs];exact fun e=>hl e.symm) (by rw[hs,List.drop_zero,hk];exact hn) (by rw[hs,List.drop_zero,hk];exact hb) (by rw[hs,List.drop_zero,hk,Nat.zero_add];exact h)
 rw[hs,List.drop_zero,hk] at this
 exact this
theorem Lx.blank {c:Int} (hc:c=32∨c=10) (h:Lx r T):Lx (c::r) T:=by
 have e:skipB false (c::r)=skipB false r+1:=by
  rcases hc with rfl|rfl<;>(rw[skipB];simp[isBlank])
 cases h with
 |nil h1=>exact .nil (by rw[e,h1];rfl)
 |cons h1 h2 h3 h4=>
  have:=Lx.cons (l:=c::r) (by rw[e];simpa using h1) (by rw[e,List.drop_succ_cons];exact h2) (by rw[e,List.drop_succ_cons];exact h3) (T:=_) (by
   rw[e,List.drop_succ_cons,show skipB false r+1+(tokN (r.drop (skipB false r))).2=(skipB false r+(tokN (r.drop (skipB false r))).2)+1 by omega,List.drop_succ_cons];exact h4)
  rw[e,List.drop_succ_cons] at this
  exact this
def NI (r:List Int):Prop:=∀c,r.head?=some c→isInner c=false
theorem ni_cons {c:Int} (h:isInner c=false):NI (c::r):=fun d hd=>by obtain rfl:=Option.some.inj hd;exact h
theorem ni_nil:NI []:=fun d hd=>by cases hd
theorem Lx.sign {c:Int} (hc:c∈[40,41,92,46,59,58,61,62,44,91,93,123,125]) (h:Lx r T):Lx (c::r) ((3,[c])::T):=by
 have hx:skipB false (c::r)=0∧tokN (c::r)=(3,1):=by
  simp only[List.mem_cons,List.not_mem_nil,or_false] at hc
  rcases hc with rfl|rfl|rfl|rfl|rfl|rfl|rfl|rfl|rfl|rfl|rfl|rfl|rfl<;>exact⟨by rw[skipB];rfl,by rw[tokN,if_neg (by decide),if_neg (by decide),signN,if_neg (by simp),if_pos (by decide)]⟩
 exact Lx.zero hx.1 hx.2 (by decide) (by decide) h
theorem letter_noblank {c:Int} (h:isInner c=true):isBlank c=false:=by
 simp only[isInner,isLetter,isDigit,Bool.or_eq_true,decide_eq_true_eq,beq_iff_eq] at h
 unfold isBlank
 simp;omega
theorem takeWhile_app {p:Int→Bool} {w:List Int} (hw:w.all p=true) (hr:∀c,r.head?=some c→p c=false):(w++r).takeWhile p=w:=by
 induction w with
 |nil=>
  cases r with
  |nil=>rfl
  |cons c r=>rw[List.nil_append,List.takeWhile_cons,hr c rfl];rfl
 |cons d w ih=>
  rw[List.all_cons,Bool.and_eq_true] at hw
  rw[List.cons_append,List.takeWhile_cons,hw.1,ih hw.2];rfl
theorem Lx.word {w:ByteArray} (hw:isWord w=true) (hr:NI r) (h:Lx r T):Lx (bytesI w++r) ((1,bytesI w)::T):=by
 cases hb:bytesI w with
 |nil=>simp[isWord,hb] at hw
 |cons c l=>
  obtain⟨h1,h2,h3⟩:=(isWord_cons hb).1 hw
  have hall:(c::l).all isInner=true:=by rw[List.all_cons,letter_inner h2,h3];rfl
  have hrn:runN ((c::l)++r)=(c::l).length:=by unfold runN;rw[takeWhile_app hall hr]
  have e:tokN ((c::l)++r)=(1,(c::l).length):=by
   rw[←hrn,List.cons_append,tokN,if_pos h2]
  have:=Lx.zero (l:=(c::l)++r) (T:=T) (by rw[List.cons_append,skipB,letter_noblank (letter_inner h2)];rfl) e (by simp) (by rw[List.length_cons];omega) (by rw[List.drop_left];exact h)
  rw[List.take_left] at this
  exact this
theorem Lx.num {d:List Int} (hd:d.all isDigit=true) (h0:d≠[]) (h9:d.length≤9) (hr:NI r) (h:Lx r T):Lx (d++r) ((2,d)::T):=by
 cases d with
 |nil=>exact(h0 rfl).elim
 |cons c l=>
  have hc:isDigit c=true:=by rw[List.all_cons,Bool.and_eq_true] at hd;exact hd.1
  have hlet:isLetter c=false:=by
   simp only[isDigit,decide_eq_true_eq] at hc
   simp[isLetter];omega
  have hrn:runD ((c::l)++r)=(c::l).length:=by
   unfold runD
   rw[takeWhile_app hd fun c hc=>?_]
   have:=hr c hc
   simp only[isInner,Bool.or_eq_false_iff] at this
   exact this.2.1
  have e:tokN ((c::l)++r)=(2,(c::l).length):=by
   rw[←hrn,List.cons_append,tokN,if_neg (by rw[hlet];decide),if_pos hc]
  have:=Lx.zero (l:=(c::l)++r) (T:=T) (by rw[List.cons_append,skipB,letter_noblank (by simp[isInner,hc])];rfl) e (by simp) (by omega) (by rw[List.drop_left];exact h)
  rw[List.take_left] at this
  exact this
theorem bytesI_app (a b:ByteArray):bytesI (a++b)=bytesI a++bytesI b:=by simp[bytesI]
end Go.Proofs.YtjhanogfpkbamaaGreatDoor

namespace Go.Proofs.YtjhanogfpkbamaaGreatDoor
open Go
set_option linter.unusedSimpArgs false
set_option linter.unusedVariables false
def LexB (s:ByteArray) (U:List Tx):Prop:=∀r T,Lx r T→Lx (bytesI s++r) (U++T)
def Lex (s:ByteArray) (U:List Tx):Prop:=∀r T,NI r→Lx r T→Lx (bytesI s++r) (U++T)
theorem LexB.lex {s:ByteArray} {U:List Tx} (h:LexB s U):Lex s U:=fun r T _ hx=>h r T hx
theorem LexB.app {a b:ByteArray} {U V:List Tx} (ha:LexB a U) (hb:Lex b V):Lex (a++b) (U++V):=fun r T hr h=>by
 rw[bytesI_app,List.append_assoc,List.append_assoc]
 exact ha _ _ (hb r T hr h)
theorem lexB_nil:LexB (⟨#[]⟩:ByteArray) []:=fun r T h=>h
theorem decDigits_all:∀(u:Nat),(Lib.decDigits u).all (fun b=>isDigit (b.toNat:Int))=true∧Lib.decDigits u≠[]∧valF 0 ((Lib.decDigits u).map fun b=>(b.toNat:Int))=u:=by
 have app:∀(a b:List Int) (n:Int),valF n (a++b)=valF (valF n a) b:=by
  intro a
  induction a with
  |nil=>intro b n;rfl
  |cons c a ih=>intro b n;exact ih b _
 have dig:∀d:Nat,d<10→isDigit (((UInt8.ofNat (48+d)).toNat:Nat):Int)=true∧(((UInt8.ofNat (48+d)).toNat:Nat):Int)-48=d:=fun d hd=>by
  have:(UInt8.ofNat (48+d)).toNat=48+d:=by
   have h:(UInt8.ofNat (48+d)).toNat=(48+d) % 256:=rfl
   rw[h];omega
  rw[this]
  exact⟨by simp[isDigit];omega,by omega⟩
 intro u
 induction u using Nat.strongRecOn with
 |_ u ih=>
  by_cases h:u<10
  ·rw[dec_small h]
   have:=dig u h
   exact⟨by rw[List.all_cons,this.1];rfl,by simp,by simp only[List.map_cons,List.map_nil,valF];omega⟩
  ·rw[dec_step h]
   have hlt:u / 10<u:=by omega
   obtain⟨h1,h2,h3⟩:=ih _ hlt
   have hd:=dig (u % 10) (Nat.mod_lt _ (by decide))
   refine⟨by rw[List.all_append,h1,List.all_cons,hd.1];rfl,by simp,?_⟩
   rw[List.map_append,app,h3]
   simp only[List.map_cons,List.map_nil,valF]
   rw[hd.2];omega
end Go.Proofs.YtjhanogfpkbamaaGreatDoor

namespace Go.Proofs.YtjhanogfpkbamaaGreatDoor
open Go
set_option linter.unusedSimpArgs false
set_option linter.unusedVariables false
def kindB (w:ByteArray):Int:=match (bytesI w).head? with
 |some c=>if isLetter c=true then 1 else if isDigit c=true then 2 else 3
 |none=>3
def txB (w:ByteArray):Tx:=(kindB w,bytesI w)
def At (L:List Tk) (i:Nat) (u:List ByteArray) (T:List Tx):Prop:=(L.drop i).map txOf=u.map txB++T
variable {L:List Tk} {s w:ByteArray} {i:Nat} {u v:List ByteArray} {T:List Tx}
theorem At.app (h:At L i (u++v) T):At L i u (v.map txB++T):=by
 unfold At at h ⊢
 rw[h,List.map_append,List.append_assoc]
theorem At.next (h:At L i (u++v) T):At L (i+u.length) v T:=by
 unfold At at h ⊢
 rw[←List.drop_drop,List.map_drop,h,List.map_append,List.append_assoc]
 have:(u.map txB).length=u.length:=List.length_map _
 rw[←this,List.drop_left]
theorem At.tail (h:At L i (w::u) T):At L (i+1) u T:=At.next (u:=[w]) (v:=u) h
theorem At.le (hi:i≤L.length) (h:At L i u T):i+u.length≤L.length:=by
 have:=congrArg List.length h
 simp only[List.length_map,List.length_drop,List.length_append] at this
 omega
theorem At.lt (h:At L i (w::u) T):i<L.length:=by
 rcases Nat.lt_or_ge i L.length with h1|h1
 ·exact h1
 ·unfold At at h
  rw[List.drop_eq_nil_of_le h1] at h
  cases h
theorem At.tok (h:At L i (w::u) T):(pk L s i).1=kindB w∧(pk L s i).2.1=w:=by
 have hlt:=h.lt
 rw[pk_lt hlt]
 unfold At at h
 rw[List.drop_eq_getElem_cons hlt,List.map_cons,List.map_cons,List.cons_append] at h
 have h1:=(List.cons.inj h).1
 unfold txOf txB at h1
 exact⟨congrArg Prod.fst h1,bytesI_inj (congrArg Prod.snd h1)⟩
theorem At.isT (h:At L i (w::u) T) {x:ByteArray} (hk:kindB w≠2):isT x (pk L s i)=decide (w=x):=by
 obtain⟨h1,h2⟩:=h.tok (s:=s)
 unfold Go.Proofs.YtjhanogfpkbamaaGreatDoor.isT
 rw[h1,h2]
 have:kindB w=1∨kindB w=3:=by
  unfold kindB at hk ⊢
  split<;>(try split)<;>(try split)<;>simp_all
 rcases this with h|h<;>simp[h]
theorem At.isT_num (h:At L i (w::u) T) {x:ByteArray} (hk:kindB w=2):Go.Proofs.YtjhanogfpkbamaaGreatDoor.isT x (pk L s i)=false:=by
 obtain⟨h1,h2⟩:=h.tok (s:=s)
 unfold Go.Proofs.YtjhanogfpkbamaaGreatDoor.isT
 rw[h1,hk];rfl
theorem At.not (h:At L i (w::u) T) {x:ByteArray} (hx:w≠x):Go.Proofs.YtjhanogfpkbamaaGreatDoor.isT x (pk L s i)=false:=by
 by_cases hk:kindB w=2
 ·exact h.isT_num hk
 ·rw[h.isT hk];exact decide_eq_false hx
theorem numW_bytes {n:Int} (h:numOk n=true):bytesI (numW n)=(Lib.decDigits n.toNat).map fun b=>((b.toNat:Nat):Int):=by
 have h:=of_decide_eq_true h
 obtain⟨u,rfl⟩:∃u:Nat,n=(u:Int):=⟨n.toNat,by omega⟩
 unfold numW
 rw[Lib.itoa_nonneg,Int.toNat_natCast]
 simp[bytesI]
theorem numW_digits {n:Int} (h:numOk n=true):(bytesI (numW n)).all isDigit=true∧bytesI (numW n)≠[]∧valF 0 (bytesI (numW n))=n:=by
 rw[numW_bytes h]
 have h:=of_decide_eq_true h
 obtain⟨h1,h2,h3⟩:=decDigits_all n.toNat
 refine⟨by rw[List.all_map];exact h1,by simp[h2],by rw[h3];omega⟩
theorem dec_len:∀(d u:Nat),u<10 ^ (d+1)→(Lib.decDigits u).length≤d+1
 |0,u,h=>by rw[dec_small (by omega)];exact Nat.le_refl _
 |d+1,u,h=>by
  by_cases h1:u<10
  ·rw[dec_small h1];simp
  ·rw[dec_step h1,List.length_append]
   have:=dec_len d (u / 10) (by rw[Nat.pow_succ] at h;omega)
   simp;omega
theorem numW_len {n:Int} (h:numOk n=true):(numW n).size≤9:=by
 rw[←bytesI_len,numW_bytes h,List.length_map]
 have h:=of_decide_eq_true h
 exact dec_len 8 _ (by omega)
theorem numW_kind {n:Int} (h:numOk n=true):kindB (numW n)=2:=by
 obtain⟨h1,h2,_⟩:=numW_digits h
 unfold kindB
 cases hb:bytesI (numW n) with
 |nil=>exact(h2 hb).elim
 |cons c l=>
  rw[hb,List.all_cons,Bool.and_eq_true] at h1
  have hc:=h1.1
  have hl:isLetter c=false:=by
   simp only[isDigit,decide_eq_true_eq] at hc
   simp[isLetter];omega
  simp[hl,hc]
theorem dec_head:∀(u:Nat),(Lib.decDigits u).head?=some 48→u=0:=by
 intro u
 induction u using Nat.strongRecOn with
 |_ u ih=>
  intro h
  by_cases h1:u<10
  ·rw[dec_small h1] at h
   simp only[List.head?_cons,Option.some.injEq] at h
   have:(UInt8.ofNat (48+u)).toNat=48:=by rw[h];rfl
   have h2:(UInt8.ofNat (48+u)).toNat=(48+u) % 256:=rfl
   omega
  ·rw[dec_step h1,List.head?_append] at h
   have hne:=dec_ne (u / 10)
   cases hd:(Lib.decDigits (u / 10)).head? with
   |none=>rw[List.head?_eq_none_iff] at hd;exact(hne hd).elim
   |some c=>
    rw[hd] at h
    simp only[Option.some_or,Option.some.injEq] at h
    have:=ih (u / 10) (by omega) (by rw[hd,h])
    omega
theorem atoi0_calls {s:ByteArray} (h0:bytesI s≠[]) (h9:s.size≤9) (hd:(bytesI s).all isDigit=true):PureIs Tryz.prog 163 [nS s] (.tup [nI (valF 0 (bytesI s)),.prim .nilIface]):=by
 have hl:=bytesI_len s
 have hall:∀c∈bytesI s,48≤c∧c≤57:=fun c hc=>by
  have:=(List.all_eq_true.1 hd) c hc
  simpa [isDigit] using this
 have hpos:0<s.size:=by
  rw[←hl];exact List.length_pos_iff.2 h0
 have hat0:strAt s (0:Int)=(bytesI s)[0]:=by
  have:strAt s ((0:Nat):Int)=(bytesI s)[0]:=strAt_eq (by omega)
  exact this
 have hc0:=hall _ (List.getElem_mem (show 0<(bytesI s).length by omega))
 have n45:(strAt s (0:Int)==45)=false:=by rw[hat0,beq_eq_false_iff_ne];omega
 have n43:(strAt s (0:Int)==43)=false:=by rw[hat0,beq_eq_false_iff_ne];omega
 have bnd:0≤(0:Int)∧(0:Int)<((s.size:Nat):Int):=⟨by decide,by omega⟩
 refine vc163_ok (ITE.pos (decide_eq_true (by omega)) (ITE.pos (decide_eq_true (by omega)) ⟨bnd,ITE.neg n45 ⟨bnd,ITE.neg n43 ⟨by omega,?_⟩⟩⟩))
 rw[strAV_eq,List.length_map,hl]
 refine LoopP.intro (fun p:Nat×Int=>((s,p.2,(bytesI s).map (fun c=>.prim (.int .u8 c)),((s.size:Nat):Int),(p.1:Int),()),())) (fun p=>p.1≤s.size∧valF 0 (bytesI s)=valF p.2 ((bytesI s).drop p.1)∧0≤p.2∧p.2<(10 ^ p.1:Nat)) (fun p=>s.size-p.1) (0,0) rfl ⟨Nat.zero_le _,rfl,Int.le_refl _,by decide⟩ ?_
 intro ⟨k,n⟩ ⟨hk,hv,hn0,hn1⟩ again hag
 dsimp only at hk hv hn0 hn1 ⊢
 refine ITE.intro (fun h=>?_) fun h=>?_
 ·have hlt:k<s.size:=by have:=of_decide_eq_true h;omega
  have hlt':k<(bytesI s).length:=by omega
  have hc:=hall _ (List.getElem_mem hlt')
  rw[List.drop_eq_getElem_cons hlt',valF] at hv
  have hp:(10 ^ k:Nat)≤10 ^ 8:=Nat.pow_le_pow_right (by decide) (by omega)
  have hp9:(10 ^ 8:Nat)=100000000:=by decide
  have hw:IntKind.wrap .u8 ((bytesI s)[k]-48)=(bytesI s)[k]-48:=by
   have key:∀d:Fin 10,IntKind.wrap .u8 ((d.val:Nat):Int)=((d.val:Nat):Int):=by decide
   have:=key ⟨((bytesI s)[k]-48).toNat,by omega⟩
   rwa [show ((((bytesI s)[k]-48).toNat:Nat):Int)=(bytesI s)[k]-48 by omega] at this
  refine⟨by omega,by rw[List.length_map];omega,_,getD_map hlt',?_⟩
  rw[hw]
  refine ITE.neg (decide_eq_false (by omega)) ?_
  rw[wrap_i (n:=n*10) (by omega) (by omega),wrap_i (n:=(bytesI s)[k]-48) (by omega) (by omega),wrap_i (by omega) (by omega),wrap_n (by omega)]
  refine hag (k+1,_) ⟨by dsimp only;omega,by dsimp only;rw[Int.mul_comm n 10];exact hv,by dsimp only;omega,?_⟩ (by dsimp only;omega)
  dsimp only
  have:(10 ^ (k+1):Nat)=10*10 ^ k:=by rw[Nat.pow_succ];omega
  rw[this];omega
 ·have hge:s.size≤k:=by have:=of_decide_eq_false h;omega
  rw[List.drop_eq_nil_of_le (by omega),valF] at hv
  refine⟨bnd,ITE.neg n45 ?_⟩
  rw[hv]
theorem plain_calls {n:Int} (h:numOk n=true):PureIs Tryz.prog 148 [nS (numW n)] (.tup [nI n,nB true]):=by
 obtain⟨h1,h2,h3⟩:=numW_digits h
 have h9:=numW_len h
 have hl:=bytesI_len (numW n)
 have hpos:0<(numW n).size:=by rw[←hl];exact List.length_pos_iff.2 h2
 have bnd:0≤(0:Int)∧(0:Int)<(((numW n).size:Nat):Int):=⟨by decide,by omega⟩
 have hat0:strAt (numW n) (0:Int)=(bytesI (numW n))[0]:=by
  have:strAt (numW n) ((0:Nat):Int)=(bytesI (numW n))[0]:=strAt_eq (by omega)
  exact this
 have hc0:48≤(bytesI (numW n))[0]∧(bytesI (numW n))[0]≤57:=by
  have:=(List.all_eq_true.1 h1) _ (List.getElem_mem (show 0<(bytesI (numW n)).length by omega))
  simpa [isDigit] using this
 have ha:=atoi0_calls (s:=numW n) h2 h9 h1
 rw[h3] at ha
 have ha2:PureIs Tryz.prog 156 [nS (numW n)] (.tup [nI n,.prim .nilIface]):=vc156_ok ⟨_,ha,rfl⟩
 have n43:(strAt (numW n) (0:Int) != 43)=true:=by rw[hat0,bne_iff_ne];omega
 have n45:(strAt (numW n) (0:Int) != 45)=true:=by rw[hat0,bne_iff_ne];omega
 refine vc148_ok (ITE.neg (by rw[word_empty];exact decide_eq_false (by omega)) (ITE.neg (decide_eq_false (by omega)) ⟨bnd,ITE.intro (fun h4=>ITE.neg (decide_eq_false ?_) ⟨_,ha2,bnd,ITE.pos n43 ⟨bnd,by rw[n45]⟩⟩) fun h4=>⟨_,ha2,bnd,ITE.pos n43 ⟨bnd,by rw[n45]⟩⟩⟩))
 have h4:(bytesI (numW n))[0]=48:=by rw[←hat0];simpa using h4
 have hn:=of_decide_eq_true h
 have hb:=numW_bytes h
 have:(Lib.decDigits n.toNat).head?=some 48:=by
  cases hd:Lib.decDigits n.toNat with
  |nil=>rw[hd] at hb;exact(h2 hb).elim
  |cons c l=>
   rw[hd] at hb
   simp only[hb,List.map_cons,List.getElem_cons_zero] at h4
   rw[List.head?_cons,Option.some.injEq]
   exact UInt8.toNat_inj.1 (by show c.toNat=48;omega)
 have h0:=dec_head _ this
 rw[←hl,hb,h0]
 simp[dec_small]
end Go.Proofs.YtjhanogfpkbamaaGreatDoor

namespace Go.Proofs.YtjhanogfpkbamaaGreatDoor
open Go
set_option linter.unusedSimpArgs false
set_option linter.unusedVariables false
abbrev D2 (L:List Tk) (s:ByteArray) (i:Nat) (f:Fa):List AObj:=dcO (L.map tkEnc) s (i:Int) f.1 f.2.1 f.2.2.1 f.2.2.2
abbrev D3 (L:List Tk) (s:ByteArray) (i:Nat) (f:Fa):List AObj:=dc3 (L.map tkEnc) s (i:Int) f.1 f.2.1 f.2.2.1 f.2.2.2
abbrev D4 (L:List Tk) (s:ByteArray) (i:Nat) (f:Fa) (op:Int):List AObj:=dc4 (L.map tkEnc) s (i:Int) f.1 f.2.1 f.2.2.1 f.2.2.2 op
variable {L:List Tk} {s w:ByteArray} {i:Nat} {u v:List ByteArray} {T:List Tx} {f:Fa}
theorem dok_calls:HFn Tryz.prog 49 [.ptr 1 0] (D2 L s i f) (fun r q=>r=nB (f.1==0)∧q=D2 L s i f):=vc49_ok ⟨rfl,rfl⟩
def fAt (L:List Tk) (s:ByteArray) (c:Int) (i:Nat):Fa:=atFa s c (pk L s i).2.2.toNat (headW (pk L s i).2.1)
theorem dfail_calls (h:PE L s) (hi:i≤L.length) {c:Int}:HFn Tryz.prog 125 [.ptr 1 0,nI c] (D2 L s i noFa) (fun r q=>r=.tup []∧q=D2 L s i (fAt L s c i)):=
 vc125_ok ⟨_,dok_calls (f:=noFa),fun r q ⟨e1,e2⟩=>⟨_,_,_,_,_,_,_,_,⟨e1,e2⟩,ITE.pos rfl ⟨_,rfail_calls h hi,fun r q ⟨e1,e2⟩=>⟨_,_,_,_,_,_,_,⟨e1,e2⟩,rfl,rfl⟩⟩⟩⟩
theorem dis_calls (h:PE L s) (hi:i≤L.length):HFn Tryz.prog 126 [.ptr 1 0,nS w] (D2 L s i noFa) (fun r q=>r=nB (isT w (pk L s i))∧q=D2 L s (if isT w (pk L s i)=true then i+1 else i) noFa):=
 vc126_ok ⟨_,dok_calls (f:=noFa),fun r q ⟨e1,e2⟩=>⟨_,_,_,_,_,_,_,_,⟨e1,e2⟩,ITE.pos rfl ⟨_,take_calls h hi,fun r q ⟨e1,e2⟩=>⟨_,_,_,_,⟨e1,e2⟩,rfl,rfl⟩⟩⟩⟩
theorem dis_yes (h:PE L s) (hat:At L i (w::u) T) (hk:kindB w≠2):HFn Tryz.prog 126 [.ptr 1 0,nS w] (D2 L s i noFa) (fun r q=>r=nB true∧q=D2 L s (i+1) noFa):=by
 have:=dis_calls (w:=w) h (Nat.le_of_lt hat.lt)
 rw[hat.isT hk,decide_eq_true rfl,if_pos rfl] at this
 exact this
theorem dis_no (h:PE L s) (hi:i≤L.length) (hn:isT w (pk L s i)=false):HFn Tryz.prog 126 [.ptr 1 0,nS w] (D2 L s i noFa) (fun r q=>r=nB false∧q=D2 L s i noFa):=by
 have:=dis_calls (w:=w) h hi
 rw[hn,if_neg (by decide)] at this
 exact this
theorem dmust_calls (h:PE L s):∀{ws:List ByteArray},ws.length≤100→(∀w∈ws,kindB w≠2)→At L i (ws++u) T→i≤L.length→
  HFn Tryz.prog 92 [.ptr 1 0,.clip (ws.map nS)] (D2 L s i noFa) (fun r q=>r=.tup []∧q=D2 L s (i+ws.length) noFa):=by
 intro ws hl hk hat hi
 refine HFn.argsW (ys:=[.ptr 1 0,.sl (ws.map nS)]) ⟨RepW.refl _,repW_clip _,True.intro⟩ ?_
 refine vc92_ok ?_
 unfold vc92
 rw[List.length_map]
 refine LoopP.intro (fun k:Nat=>(((),ws.map nS,((ws.length:Nat):Int),(k:Int),()),((L.map tkEnc,s,((i+k:Nat):Int),()),((),0,0,0,⟨#[]⟩,()),()))) (fun k=>k≤ws.length) (fun k=>ws.length-k) 0 rfl (Nat.zero_le _) ?_
 intro k hkl again hag
 dsimp only
 refine ITE.intro (fun h1=>?_) fun h1=>?_
 ·have hlt:k<ws.length:=by have:=of_decide_eq_true h1;omega
  have hatk:At L (i+k) (ws[k]::(ws.drop (k+1)++u)) T:=by
   have e:ws++u=ws.take k++(ws[k]::(ws.drop (k+1)++u)):=by
    rw[←List.cons_append,←List.drop_eq_getElem_cons hlt,←List.append_assoc,List.take_append_drop]
   rw[e] at hat
   have:=hat.next
   rwa [List.length_take,Nat.min_eq_left hkl] at this
  have ht:=take_calls (w:=ws[k]) h (Nat.le_of_lt hatk.lt)
  rw[hatk.isT (hk _ (List.getElem_mem hlt)),decide_eq_true rfl,if_pos rfl] at ht
  refine⟨by omega,by rw[List.length_map];omega,_,getD_map hlt,_,dok_calls (f:=noFa),fun r q ⟨e1,e2⟩=>⟨_,_,_,_,_,_,_,_,⟨e1,e2⟩,ITE.pos rfl ⟨_,ht,fun r q ⟨e1,e2⟩=>⟨_,_,_,_,⟨e1,e2⟩,ITE.neg rfl ?_⟩⟩⟩⟩
  rw[wrap_n (by omega)]
  exact hag (k+1) hlt (by omega)
 ·have hge:ws.length≤k:=by have:=of_decide_eq_false h1;omega
  obtain rfl:k=ws.length:=by omega
  exact⟨rfl,rfl⟩
theorem dnum_calls (h:PE L s) {n:Int} (hn:numOk n=true) (hat:At L i (numW n::u) T):HFn Tryz.prog 128 [.ptr 1 0] (D2 L s i noFa) (fun r q=>r=nI n∧q=D2 L s (i+1) noFa):=by
 have hlt:=hat.lt
 obtain⟨h1,h2⟩:=hat.tok (s:=s)
 rw[numW_kind hn] at h1
 have hp:=plain_calls hn
 rw[←h2] at hp
 have hnx:=rnext_calls h (Nat.le_of_lt hlt)
 rw[if_pos hlt] at hnx
 refine vc128_ok ⟨_,peek_calls h (Nat.le_of_lt hlt),fun r q ⟨e1,e2⟩=>⟨_,_,_,_,_,_,⟨e1,e2⟩,_,_,hp,ITE.neg rfl ⟨_,peek_calls h (Nat.le_of_lt hlt),fun r q ⟨e1,e2⟩=>⟨_,_,_,_,_,_,⟨e1,e2⟩,?_⟩⟩⟩⟩
 refine ITE.neg (by rw[h1];rfl) ⟨_,dok_calls (f:=noFa),fun r q ⟨e1,e2⟩=>⟨_,_,_,_,_,_,_,_,⟨e1,e2⟩,ITE.neg rfl ⟨_,hnx,fun r q ⟨e1,e2⟩=>⟨_,_,_,_,_,_,⟨e1,e2⟩,rfl,rfl⟩⟩⟩⟩
theorem letW_bytes {k:Int} (h:kOk k=true):∃c:Int,bytesI (letW k)=[c]∧isLetter c=true∧0≤c∧c<256∧idxI c [98,99,109]=k:=by
 have h:=of_decide_eq_true h
 have:k=0∨k=1∨k=2:=by omega
 rcases this with rfl|rfl|rfl
 ·exact⟨98,rfl,by decide,by decide,by decide,by decide⟩
 ·exact⟨99,rfl,by decide,by decide,by decide,by decide⟩
 ·exact⟨109,rfl,by decide,by decide,by decide,by decide⟩
theorem headW_kind {k n:Int} (h:kOk k=true):kindB (letW k++numW n)=1:=by
 obtain⟨c,h1,h2,_⟩:=letW_bytes h
 unfold kindB
 rw[bytesI_app,h1]
 simp[h2]
theorem dhead_calls (h:PE L s) {k n:Int} (hk:kOk k=true) (hn:numOk n=true) (hat:At L i ((letW k++numW n)::u) T):HFn Tryz.prog 131 [.ptr 1 0] (D2 L s i noFa) (fun r q=>r=.agg [nI k,nI n]∧q=D2 L s (i+1) noFa):=by
 have hlt:=hat.lt
 obtain⟨h1,h2⟩:=hat.tok (s:=s)
 rw[headW_kind hk] at h1
 obtain⟨c,c1,c2,c3,c4,c5⟩:=letW_bytes hk
 have hb:bytesI (letW k++numW n)=c::bytesI (numW n):=by rw[bytesI_app,c1];rfl
 have hat0:=strAt_drop (s:=letW k++numW n) (k:=0) (by rw[List.drop_zero];exact hb)
 have hz:=hat0.2.1
 have hst:strAt (letW k++numW n) (0:Int)=c:=hat0.1
 have hix:=indexByte_calls (s:=(⟨#[98,99,109]⟩:ByteArray)) (c:=c) (by omega) (by omega)
 have eb:bytesI (⟨#[98,99,109]⟩:ByteArray)=[98,99,109]:=rfl
 rw[eb,c5] at hix
 have hp:=plain_calls hn
 have ee:ByteArray.extract (letW k++numW n) (Int.toNat 1) (Int.toNat (((letW k++numW n).size:Nat):Int))=numW n:=by
  apply bytesI_inj
  rw[Int.toNat_natCast,show Int.toNat 1=1 from rfl,bytes_to_end,hb]
  rfl
 have hnx:=rnext_calls h (Nat.le_of_lt hlt)
 rw[if_pos hlt] at hnx
 have hko:=of_decide_eq_true hk
 refine vc131_ok ⟨_,peek_calls h (Nat.le_of_lt hlt),fun r q ⟨e1,e2⟩=>⟨_,_,_,_,_,_,⟨e1,e2⟩,_,peek_calls h (Nat.le_of_lt hlt),fun r q ⟨e1,e2⟩=>⟨_,_,_,_,_,_,⟨e1,e2⟩,?_⟩⟩⟩
 refine ITE.pos (by rw[h1];rfl) ?_
 rw[h2]
 refine⟨⟨by decide,by omega⟩,_,by rw[hst];exact hix,⟨by decide,by omega,by omega⟩,_,_,by rw[ee];exact hp,ITE.pos rfl (ITE.pos (decide_eq_true (by omega)) ⟨_,dok_calls (f:=noFa),fun r q ⟨e1,e2⟩=>⟨_,_,_,_,_,_,_,_,⟨e1,e2⟩,ITE.pos rfl ⟨_,hnx,fun r q ⟨e1,e2⟩=>⟨_,_,_,_,_,_,⟨e1,e2⟩,rfl,rfl⟩⟩⟩⟩)⟩
theorem dopen_calls {d:Nat} (hd:d+1≤60):HFn Tryz.prog 127 [.ptr 1 0,nI ((60-(d+1):Nat):Int)] (D2 L s i noFa) (fun r q=>r=nB true∧q=D2 L s i noFa):=
 vc127_ok (ITE.neg (by rw[beq_eq_false_iff_ne];omega) ⟨_,dok_calls (f:=noFa),fun r q ⟨e1,e2⟩=>⟨_,_,_,_,_,_,_,_,⟨e1,e2⟩,rfl,rfl⟩⟩)
end Go.Proofs.YtjhanogfpkbamaaGreatDoor

namespace Go.Proofs.YtjhanogfpkbamaaGreatDoor
open Go
set_option linter.unusedSimpArgs false
set_option linter.unusedVariables false
variable {L:List Tk} {s:ByteArray}
theorem untilT_calls (h:PE L s) {op:Int} {l:List (Ty)} {tok:Ty→List ByteArray} {G:List Tx→Prop} {ew:ByteArray} {b:Bool} (hl:l.length≤1000000) (hb:b=true→l≠[]) (hke:kindB ew≠2)
  (hrd:∀x∈l,∀(j:Nat) (T':List Tx),j≤L.length→At L j (tok x) T'→G T'→HFn Tryz.prog 129 [.ptr 2 0,.ptr 3 0] (D4 L s (j) noFa op) (fun r q=>r=Ty.enc x∧q=D4 L s (j+(tok x).length) noFa op))
  (hG1:∀x∈l,∀T',G ((tok x).map txB++T')) (hG2:∀T',G (txB ew::T')) (hne:∀x∈l,∃w u,tok x=w::u∧w≠ew)
  {i:Nat} {T:List Tx} (hat:At L i (l.flatMap tok++[ew]) T) (hi:i≤L.length):
  HFn Tryz.prog 93 [.ptr 1 0,nS ew,nB b,.clo 129 [.ptr 2 0,.ptr 3 0]] (D4 L s (i) noFa op) (fun r q=>r=.sl (l.map Ty.enc)∧q=D4 L s (i+(l.flatMap tok).length+1) noFa op):=by
 refine vc_untilT_ok ⟨rfl,?_⟩
 refine LoopP.intro (fun k:Nat=>(((),ew,b,((),(),()),(),()),((L.map tkEnc,s,((i+((l.take k).flatMap tok).length:Nat):Int),()),((),0,0,0,⟨#[]⟩,()),((),()),(op,()),(l.take k).map Ty.enc,()))) (fun k=>k≤l.length) (fun k=>l.length-k) 0 rfl (Nat.zero_le _) ?_
 intro k hk again hag
 dsimp only
 have hat0:At L i ((l.take k).flatMap tok++((l.drop k).flatMap tok++[ew])) T:=by
  rw[←List.append_assoc,←List.flatMap_append,List.take_append_drop];exact hat
 have hatk:=hat0.next
 have hPl:=At.le hi hat0.app
 generalize hP:i+((l.take k).flatMap tok).length=P at hatk hPl ⊢
 refine⟨_,dok_calls (f:=noFa),fun r q ⟨e1,e2⟩=>⟨_,_,_,_,_,_,_,_,⟨e1,e2⟩,ITE.pos rfl ?_⟩⟩
 by_cases hlt:k<l.length
 ·have hmem:=List.getElem_mem hlt
  obtain⟨w,u,hw,hwe⟩:=hne _ hmem
  have hx:At L P (tok l[k]) (((l.drop (k+1)).flatMap tok++[ew]).map txB++T):=by
   rw[List.drop_eq_getElem_cons hlt,List.flatMap_cons,List.append_assoc] at hatk
   exact hatk.app
  have hGk:G (((l.drop (k+1)).flatMap tok++[ew]).map txB++T):=by
   cases hd:l.drop (k+1) with
   |nil=>exact hG2 _
   |cons y m=>
    rw[List.flatMap_cons,List.append_assoc,List.map_append,List.append_assoc]
    exact hG1 y (List.mem_of_mem_drop (by rw[hd];exact List.mem_cons_self)) _
  have hno:isT ew (pk L s P)=false:=by
   rw[hw] at hx
   exact hx.not hwe
  have hr:=hrd _ hmem P _ hPl hx hGk
  rw[Ty.enc_eq] at hr
  have hend:again (((),ew,b,((),(),()),(),()),((L.map tkEnc,s,((P+(tok l[k]).length:Nat):Int),()),((),0,0,0,⟨#[]⟩,()),((),()),(op,()),((l.take k).map Ty.enc++[.agg [.sl (l[k].args.map Ty.enc),nI l[k].base]]),())):=by
   have e1:(l.take k).map Ty.enc++[.agg [.sl (l[k].args.map Ty.enc),nI l[k].base]]=(l.take (k+1)).map Ty.enc:=by rw[←Ty.enc_eq];rw[←take_snoc' hlt,List.map_append];rfl
   have e2:P+(tok l[k]).length=i+((l.take (k+1)).flatMap tok).length:=by rw[flatM_take _ hlt,List.length_append,←hP];omega
   rw[e1,e2]
   exact hag (k+1) hlt (by omega)
  refine ITE.intro (fun h1=>⟨rfl,ITE.intro (fun h2=>⟨_,hr,fun r q ⟨e1,e2⟩=>⟨_,_,_,_,_,_,_,_,_,_,⟨e1,e2⟩,rfl,appOk_one rfl (by rw[List.length_append,List.length_map,List.length_take];simp;omega) (by decide),rfl,hend⟩⟩) fun h2=>⟨_,dis_no h hPl hno,fun r q ⟨e1,e2⟩=>⟨_,_,_,_,_,_,_,_,⟨e1,e2⟩,ITE.pos rfl ⟨_,hr,fun r q ⟨e1,e2⟩=>⟨_,_,_,_,_,_,_,_,_,_,⟨e1,e2⟩,rfl,appOk_one rfl (by rw[List.length_append,List.length_map,List.length_take];simp;omega) (by decide),rfl,hend⟩⟩⟩⟩⟩) fun h1=>⟨_,dis_no h hPl hno,fun r q ⟨e1,e2⟩=>⟨_,_,_,_,_,_,_,_,⟨e1,e2⟩,ITE.pos rfl ⟨_,hr,fun r q ⟨e1,e2⟩=>⟨_,_,_,_,_,_,_,_,_,_,⟨e1,e2⟩,rfl,appOk_one rfl (by rw[List.length_append,List.length_map,List.length_take];simp;omega) (by decide),rfl,hend⟩⟩⟩⟩
 ·obtain rfl:k=l.length:=by omega
  rw[List.drop_length,List.flatMap_nil,List.nil_append] at hatk
  rw[List.take_length] at hP ⊢
  subst hP
  refine ITE.intro (fun h1=>⟨rfl,ITE.neg ?_ ⟨_,dis_yes h hatk hke,fun r q ⟨e1,e2⟩=>⟨_,_,_,_,_,_,_,_,⟨e1,e2⟩,ITE.neg rfl ⟨rfl,rfl,rfl⟩⟩⟩⟩) fun h1=>⟨_,dis_yes h hatk hke,fun r q ⟨e1,e2⟩=>⟨_,_,_,_,_,_,_,_,⟨e1,e2⟩,ITE.neg rfl ⟨rfl,rfl,rfl⟩⟩⟩
  rw[List.length_map,beq_eq_false_iff_ne]
  have:=List.length_pos_iff.2 (hb h1)
  omega
theorem untilB_calls (h:PE L s) {op:Int} {l:List (Ty)} {tok:Ty→List ByteArray} {G:List Tx→Prop} {ew:ByteArray} {b:Bool} (hl:l.length≤1000000) (hb:b=true→l≠[]) (hke:kindB ew≠2)
  (hrd:∀x∈l,∀(j:Nat) (T':List Tx),j≤L.length→At L j (tok x) T'→G T'→HFn Tryz.prog 130 [.ptr 2 0,.ptr 3 0] (D4 L s (j) noFa op) (fun r q=>r=Ty.enc x∧q=D4 L s (j+(tok x).length) noFa op))
  (hG1:∀x∈l,∀T',G ((tok x).map txB++T')) (hG2:∀T',G (txB ew::T')) (hne:∀x∈l,∃w u,tok x=w::u∧w≠ew)
  {i:Nat} {T:List Tx} (hat:At L i (l.flatMap tok++[ew]) T) (hi:i≤L.length):
  HFn Tryz.prog 93 [.ptr 1 0,nS ew,nB b,.clo 130 [.ptr 2 0,.ptr 3 0]] (D4 L s (i) noFa op) (fun r q=>r=.sl (l.map Ty.enc)∧q=D4 L s (i+(l.flatMap tok).length+1) noFa op):=by
 refine vc_untilB_ok ⟨rfl,?_⟩
 refine LoopP.intro (fun k:Nat=>(((),ew,b,((),(),()),(),()),((L.map tkEnc,s,((i+((l.take k).flatMap tok).length:Nat):Int),()),((),0,0,0,⟨#[]⟩,()),((),()),(op,()),(l.take k).map Ty.enc,()))) (fun k=>k≤l.length) (fun k=>l.length-k) 0 rfl (Nat.zero_le _) ?_
 intro k hk again hag
 dsimp only
 have hat0:At L i ((l.take k).flatMap tok++((l.drop k).flatMap tok++[ew])) T:=by
  rw[←List.append_assoc,←List.flatMap_append,List.take_append_drop];exact hat
 have hatk:=hat0.next
 have hPl:=At.le hi hat0.app
 generalize hP:i+((l.take k).flatMap tok).length=P at hatk hPl ⊢
 refine⟨_,dok_calls (f:=noFa),fun r q ⟨e1,e2⟩=>⟨_,_,_,_,_,_,_,_,⟨e1,e2⟩,ITE.pos rfl ?_⟩⟩
 by_cases hlt:k<l.length
 ·have hmem:=List.getElem_mem hlt
  obtain⟨w,u,hw,hwe⟩:=hne _ hmem
  have hx:At L P (tok l[k]) (((l.drop (k+1)).flatMap tok++[ew]).map txB++T):=by
   rw[List.drop_eq_getElem_cons hlt,List.flatMap_cons,List.append_assoc] at hatk
   exact hatk.app
  have hGk:G (((l.drop (k+1)).flatMap tok++[ew]).map txB++T):=by
   cases hd:l.drop (k+1) with
   |nil=>exact hG2 _
   |cons y m=>
    rw[List.flatMap_cons,List.append_assoc,List.map_append,List.append_assoc]
    exact hG1 y (List.mem_of_mem_drop (by rw[hd];exact List.mem_cons_self)) _
  have hno:isT ew (pk L s P)=false:=by
   rw[hw] at hx
   exact hx.not hwe
  have hr:=hrd _ hmem P _ hPl hx hGk
  rw[Ty.enc_eq] at hr
  have hend:again (((),ew,b,((),(),()),(),()),((L.map tkEnc,s,((P+(tok l[k]).length:Nat):Int),()),((),0,0,0,⟨#[]⟩,()),((),()),(op,()),((l.take k).map Ty.enc++[.agg [.sl (l[k].args.map Ty.enc),nI l[k].base]]),())):=by
   have e1:(l.take k).map Ty.enc++[.agg [.sl (l[k].args.map Ty.enc),nI l[k].base]]=(l.take (k+1)).map Ty.enc:=by rw[←Ty.enc_eq];rw[←take_snoc' hlt,List.map_append];rfl
   have e2:P+(tok l[k]).length=i+((l.take (k+1)).flatMap tok).length:=by rw[flatM_take _ hlt,List.length_append,←hP];omega
   rw[e1,e2]
   exact hag (k+1) hlt (by omega)
  refine ITE.intro (fun h1=>⟨rfl,ITE.intro (fun h2=>⟨_,hr,fun r q ⟨e1,e2⟩=>⟨_,_,_,_,_,_,_,_,_,_,⟨e1,e2⟩,rfl,appOk_one rfl (by rw[List.length_append,List.length_map,List.length_take];simp;omega) (by decide),rfl,hend⟩⟩) fun h2=>⟨_,dis_no h hPl hno,fun r q ⟨e1,e2⟩=>⟨_,_,_,_,_,_,_,_,⟨e1,e2⟩,ITE.pos rfl ⟨_,hr,fun r q ⟨e1,e2⟩=>⟨_,_,_,_,_,_,_,_,_,_,⟨e1,e2⟩,rfl,appOk_one rfl (by rw[List.length_append,List.length_map,List.length_take];simp;omega) (by decide),rfl,hend⟩⟩⟩⟩⟩) fun h1=>⟨_,dis_no h hPl hno,fun r q ⟨e1,e2⟩=>⟨_,_,_,_,_,_,_,_,⟨e1,e2⟩,ITE.pos rfl ⟨_,hr,fun r q ⟨e1,e2⟩=>⟨_,_,_,_,_,_,_,_,_,_,⟨e1,e2⟩,rfl,appOk_one rfl (by rw[List.length_append,List.length_map,List.length_take];simp;omega) (by decide),rfl,hend⟩⟩⟩⟩
 ·obtain rfl:k=l.length:=by omega
  rw[List.drop_length,List.flatMap_nil,List.nil_append] at hatk
  rw[List.take_length] at hP ⊢
  subst hP
  refine ITE.intro (fun h1=>⟨rfl,ITE.neg ?_ ⟨_,dis_yes h hatk hke,fun r q ⟨e1,e2⟩=>⟨_,_,_,_,_,_,_,_,⟨e1,e2⟩,ITE.neg rfl ⟨rfl,rfl,rfl⟩⟩⟩⟩) fun h1=>⟨_,dis_yes h hatk hke,fun r q ⟨e1,e2⟩=>⟨_,_,_,_,_,_,_,_,⟨e1,e2⟩,ITE.neg rfl ⟨rfl,rfl,rfl⟩⟩⟩
  rw[List.length_map,beq_eq_false_iff_ne]
  have:=List.length_pos_iff.2 (hb h1)
  omega
theorem untilA_calls (h:PE L s) {op:Int} {l:List (Tm)} {tok:Tm→List ByteArray} {G:List Tx→Prop} {ew:ByteArray} {b:Bool} (hl:l.length≤1000000) (hb:b=true→l≠[]) (hke:kindB ew≠2)
  (hrd:∀x∈l,∀(j:Nat) (T':List Tx),j≤L.length→At L j (tok x) T'→G T'→HFn Tryz.prog 133 [.ptr 2 0,.ptr 3 0] (D4 L s (j) noFa op) (fun r q=>r=Tm.enc x∧q=D4 L s (j+(tok x).length) noFa op))
  (hG1:∀x∈l,∀T',G ((tok x).map txB++T')) (hG2:∀T',G (txB ew::T')) (hne:∀x∈l,∃w u,tok x=w::u∧w≠ew)
  {i:Nat} {T:List Tx} (hat:At L i (l.flatMap tok++[ew]) T) (hi:i≤L.length):
  HFn Tryz.prog 132 [.ptr 1 0,nS ew,nB b,.clo 133 [.ptr 2 0,.ptr 3 0]] (D4 L s (i) noFa op) (fun r q=>r=.sl (l.map Tm.enc)∧q=D4 L s (i+(l.flatMap tok).length+1) noFa op):=by
 refine vc_untilA_ok ⟨rfl,?_⟩
 refine LoopP.intro (fun k:Nat=>(((),ew,b,((),(),()),(),()),((L.map tkEnc,s,((i+((l.take k).flatMap tok).length:Nat):Int),()),((),0,0,0,⟨#[]⟩,()),((),()),(op,()),(l.take k).map Tm.enc,()))) (fun k=>k≤l.length) (fun k=>l.length-k) 0 rfl (Nat.zero_le _) ?_
 intro k hk again hag
 dsimp only
 have hat0:At L i ((l.take k).flatMap tok++((l.drop k).flatMap tok++[ew])) T:=by
  rw[←List.append_assoc,←List.flatMap_append,List.take_append_drop];exact hat
 have hatk:=hat0.next
 have hPl:=At.le hi hat0.app
 generalize hP:i+((l.take k).flatMap tok).length=P at hatk hPl ⊢
 refine⟨_,dok_calls (f:=noFa),fun r q ⟨e1,e2⟩=>⟨_,_,_,_,_,_,_,_,⟨e1,e2⟩,ITE.pos rfl ?_⟩⟩
 by_cases hlt:k<l.length
 ·have hmem:=List.getElem_mem hlt
  obtain⟨w,u,hw,hwe⟩:=hne _ hmem
  have hx:At L P (tok l[k]) (((l.drop (k+1)).flatMap tok++[ew]).map txB++T):=by
   rw[List.drop_eq_getElem_cons hlt,List.flatMap_cons,List.append_assoc] at hatk
   exact hatk.app
  have hGk:G (((l.drop (k+1)).flatMap tok++[ew]).map txB++T):=by
   cases hd:l.drop (k+1) with
   |nil=>exact hG2 _
   |cons y m=>
    rw[List.flatMap_cons,List.append_assoc,List.map_append,List.append_assoc]
    exact hG1 y (List.mem_of_mem_drop (by rw[hd];exact List.mem_cons_self)) _
  have hno:isT ew (pk L s P)=false:=by
   rw[hw] at hx
   exact hx.not hwe
  have hr:=hrd _ hmem P _ hPl hx hGk
  rw[Tm.enc_eq] at hr
  have hend:again (((),ew,b,((),(),()),(),()),((L.map tkEnc,s,((P+(tok l[k]).length:Nat):Int),()),((),0,0,0,⟨#[]⟩,()),((),()),(op,()),((l.take k).map Tm.enc++[.agg (tmC l[k])]),())):=by
   have e1:(l.take k).map Tm.enc++[.agg (tmC l[k])]=(l.take (k+1)).map Tm.enc:=by rw[←Tm.enc_eq];rw[←take_snoc' hlt,List.map_append];rfl
   have e2:P+(tok l[k]).length=i+((l.take (k+1)).flatMap tok).length:=by rw[flatM_take _ hlt,List.length_append,←hP];omega
   rw[e1,e2]
   exact hag (k+1) hlt (by omega)
  refine ITE.intro (fun h1=>⟨rfl,ITE.intro (fun h2=>⟨_,hr,fun r q ⟨e1,e2⟩=>⟨_,_,_,_,_,_,_,_,_,_,_,_,⟨e1,e2⟩,rfl,appOk_one rfl (by rw[List.length_append,List.length_map,List.length_take];simp;omega) (by decide),rfl,hend⟩⟩) fun h2=>⟨_,dis_no h hPl hno,fun r q ⟨e1,e2⟩=>⟨_,_,_,_,_,_,_,_,⟨e1,e2⟩,ITE.pos rfl ⟨_,hr,fun r q ⟨e1,e2⟩=>⟨_,_,_,_,_,_,_,_,_,_,_,_,⟨e1,e2⟩,rfl,appOk_one rfl (by rw[List.length_append,List.length_map,List.length_take];simp;omega) (by decide),rfl,hend⟩⟩⟩⟩⟩) fun h1=>⟨_,dis_no h hPl hno,fun r q ⟨e1,e2⟩=>⟨_,_,_,_,_,_,_,_,⟨e1,e2⟩,ITE.pos rfl ⟨_,hr,fun r q ⟨e1,e2⟩=>⟨_,_,_,_,_,_,_,_,_,_,_,_,⟨e1,e2⟩,rfl,appOk_one rfl (by rw[List.length_append,List.length_map,List.length_take];simp;omega) (by decide),rfl,hend⟩⟩⟩⟩
 ·obtain rfl:k=l.length:=by omega
  rw[List.drop_length,List.flatMap_nil,List.nil_append] at hatk
  rw[List.take_length] at hP ⊢
  subst hP
  refine ITE.intro (fun h1=>⟨rfl,ITE.neg ?_ ⟨_,dis_yes h hatk hke,fun r q ⟨e1,e2⟩=>⟨_,_,_,_,_,_,_,_,⟨e1,e2⟩,ITE.neg rfl ⟨rfl,rfl,rfl⟩⟩⟩⟩) fun h1=>⟨_,dis_yes h hatk hke,fun r q ⟨e1,e2⟩=>⟨_,_,_,_,_,_,_,_,⟨e1,e2⟩,ITE.neg rfl ⟨rfl,rfl,rfl⟩⟩⟩
  rw[List.length_map,beq_eq_false_iff_ne]
  have:=List.length_pos_iff.2 (hb h1)
  omega
theorem untilM_calls (h:PE L s) {l:List (Ty)} {tok:Ty→List ByteArray} {G:List Tx→Prop} {ew:ByteArray} {b:Bool} (hl:l.length≤1000000) (hb:b=true→l≠[]) (hke:kindB ew≠2)
  (hrd:∀x∈l,∀(j:Nat) (T':List Tx),j≤L.length→At L j (tok x) T'→G T'→HFn Tryz.prog 94 [.ptr 2 0] (D3 L s (j) noFa) (fun r q=>r=Ty.enc x∧q=D3 L s (j+(tok x).length) noFa))
  (hG1:∀x∈l,∀T',G ((tok x).map txB++T')) (hG2:∀T',G (txB ew::T')) (hne:∀x∈l,∃w u,tok x=w::u∧w≠ew)
  {i:Nat} {T:List Tx} (hat:At L i (l.flatMap tok++[ew]) T) (hi:i≤L.length):
  HFn Tryz.prog 93 [.ptr 1 0,nS ew,nB b,.clo 94 [.ptr 2 0]] (D3 L s (i) noFa) (fun r q=>r=.sl (l.map Ty.enc)∧q=D3 L s (i+(l.flatMap tok).length+1) noFa):=by
 refine vc_untilM_ok ⟨rfl,?_⟩
 refine LoopP.intro (fun k:Nat=>(((),ew,b,((),()),(),()),((L.map tkEnc,s,((i+((l.take k).flatMap tok).length:Nat):Int),()),((),0,0,0,⟨#[]⟩,()),((),()),(l.take k).map Ty.enc,()))) (fun k=>k≤l.length) (fun k=>l.length-k) 0 rfl (Nat.zero_le _) ?_
 intro k hk again hag
 dsimp only
 have hat0:At L i ((l.take k).flatMap tok++((l.drop k).flatMap tok++[ew])) T:=by
  rw[←List.append_assoc,←List.flatMap_append,List.take_append_drop];exact hat
 have hatk:=hat0.next
 have hPl:=At.le hi hat0.app
 generalize hP:i+((l.take k).flatMap tok).length=P at hatk hPl ⊢
 refine⟨_,dok_calls (f:=noFa),fun r q ⟨e1,e2⟩=>⟨_,_,_,_,_,_,_,_,⟨e1,e2⟩,ITE.pos rfl ?_⟩⟩
 by_cases hlt:k<l.length
 ·have hmem:=List.getElem_mem hlt
  obtain⟨w,u,hw,hwe⟩:=hne _ hmem
  have hx:At L P (tok l[k]) (((l.drop (k+1)).flatMap tok++[ew]).map txB++T):=by
   rw[List.drop_eq_getElem_cons hlt,List.flatMap_cons,List.append_assoc] at hatk
   exact hatk.app
  have hGk:G (((l.drop (k+1)).flatMap tok++[ew]).map txB++T):=by
   cases hd:l.drop (k+1) with
   |nil=>exact hG2 _
   |cons y m=>
    rw[List.flatMap_cons,List.append_assoc,List.map_append,List.append_assoc]
    exact hG1 y (List.mem_of_mem_drop (by rw[hd];exact List.mem_cons_self)) _
  have hno:isT ew (pk L s P)=false:=by
   rw[hw] at hx
   exact hx.not hwe
  have hr:=hrd _ hmem P _ hPl hx hGk
  rw[Ty.enc_eq] at hr
  have hend:again (((),ew,b,((),()),(),()),((L.map tkEnc,s,((P+(tok l[k]).length:Nat):Int),()),((),0,0,0,⟨#[]⟩,()),((),()),((l.take k).map Ty.enc++[.agg [.sl (l[k].args.map Ty.enc),nI l[k].base]]),())):=by
   have e1:(l.take k).map Ty.enc++[.agg [.sl (l[k].args.map Ty.enc),nI l[k].base]]=(l.take (k+1)).map Ty.enc:=by rw[←Ty.enc_eq];rw[←take_snoc' hlt,List.map_append];rfl
   have e2:P+(tok l[k]).length=i+((l.take (k+1)).flatMap tok).length:=by rw[flatM_take _ hlt,List.length_append,←hP];omega
   rw[e1,e2]
   exact hag (k+1) hlt (by omega)
  refine ITE.intro (fun h1=>⟨rfl,ITE.intro (fun h2=>⟨_,hr,fun r q ⟨e1,e2⟩=>⟨_,_,_,_,_,_,_,_,_,⟨e1,e2⟩,rfl,appOk_one rfl (by rw[List.length_append,List.length_map,List.length_take];simp;omega) (by decide),rfl,hend⟩⟩) fun h2=>⟨_,dis_no h hPl hno,fun r q ⟨e1,e2⟩=>⟨_,_,_,_,_,_,_,_,⟨e1,e2⟩,ITE.pos rfl ⟨_,hr,fun r q ⟨e1,e2⟩=>⟨_,_,_,_,_,_,_,_,_,⟨e1,e2⟩,rfl,appOk_one rfl (by rw[List.length_append,List.length_map,List.length_take];simp;omega) (by decide),rfl,hend⟩⟩⟩⟩⟩) fun h1=>⟨_,dis_no h hPl hno,fun r q ⟨e1,e2⟩=>⟨_,_,_,_,_,_,_,_,⟨e1,e2⟩,ITE.pos rfl ⟨_,hr,fun r q ⟨e1,e2⟩=>⟨_,_,_,_,_,_,_,_,_,⟨e1,e2⟩,rfl,appOk_one rfl (by rw[List.length_append,List.length_map,List.length_take];simp;omega) (by decide),rfl,hend⟩⟩⟩⟩
 ·obtain rfl:k=l.length:=by omega
  rw[List.drop_length,List.flatMap_nil,List.nil_append] at hatk
  rw[List.take_length] at hP ⊢
  subst hP
  refine ITE.intro (fun h1=>⟨rfl,ITE.neg ?_ ⟨_,dis_yes h hatk hke,fun r q ⟨e1,e2⟩=>⟨_,_,_,_,_,_,_,_,⟨e1,e2⟩,ITE.neg rfl ⟨rfl,rfl,rfl⟩⟩⟩⟩) fun h1=>⟨_,dis_yes h hatk hke,fun r q ⟨e1,e2⟩=>⟨_,_,_,_,_,_,_,_,⟨e1,e2⟩,ITE.neg rfl ⟨rfl,rfl,rfl⟩⟩⟩
  rw[List.length_map,beq_eq_false_iff_ne]
  have:=List.length_pos_iff.2 (hb h1)
  omega
theorem untilP_calls (h:PE L s) {l:List (Int×Tm)} {tok:(Int×Tm)→List ByteArray} {G:List Tx→Prop} {ew:ByteArray} {b:Bool} (hl:l.length≤1000000) (hb:b=true→l≠[]) (hke:kindB ew≠2)
  (hrd:∀x∈l,∀(j:Nat) (T':List Tx),j≤L.length→At L j (tok x) T'→G T'→HFn Tryz.prog 136 [.ptr 2 0] (D3 L s (j) noFa) (fun r q=>r=spEnc x∧q=D3 L s (j+(tok x).length) noFa))
  (hG1:∀x∈l,∀T',G ((tok x).map txB++T')) (hG2:∀T',G (txB ew::T')) (hne:∀x∈l,∃w u,tok x=w::u∧w≠ew)
  {i:Nat} {T:List Tx} (hat:At L i (l.flatMap tok++[ew]) T) (hi:i≤L.length):
  HFn Tryz.prog 135 [.ptr 1 0,nS ew,nB b,.clo 136 [.ptr 2 0]] (D3 L s (i) noFa) (fun r q=>r=.sl (l.map spEnc)∧q=D3 L s (i+(l.flatMap tok).length+1) noFa):=by
 refine vc_untilP_ok ⟨rfl,?_⟩
 refine LoopP.intro (fun k:Nat=>(((),ew,b,((),()),(),()),((L.map tkEnc,s,((i+((l.take k).flatMap tok).length:Nat):Int),()),((),0,0,0,⟨#[]⟩,()),((),()),(l.take k).map spEnc,()))) (fun k=>k≤l.length) (fun k=>l.length-k) 0 rfl (Nat.zero_le _) ?_
 intro k hk again hag
 dsimp only
 have hat0:At L i ((l.take k).flatMap tok++((l.drop k).flatMap tok++[ew])) T:=by
  rw[←List.append_assoc,←List.flatMap_append,List.take_append_drop];exact hat
 have hatk:=hat0.next
 have hPl:=At.le hi hat0.app
 generalize hP:i+((l.take k).flatMap tok).length=P at hatk hPl ⊢
 refine⟨_,dok_calls (f:=noFa),fun r q ⟨e1,e2⟩=>⟨_,_,_,_,_,_,_,_,⟨e1,e2⟩,ITE.pos rfl ?_⟩⟩
 by_cases hlt:k<l.length
 ·have hmem:=List.getElem_mem hlt
  obtain⟨w,u,hw,hwe⟩:=hne _ hmem
  have hx:At L P (tok l[k]) (((l.drop (k+1)).flatMap tok++[ew]).map txB++T):=by
   rw[List.drop_eq_getElem_cons hlt,List.flatMap_cons,List.append_assoc] at hatk
   exact hatk.app
  have hGk:G (((l.drop (k+1)).flatMap tok++[ew]).map txB++T):=by
   cases hd:l.drop (k+1) with
   |nil=>exact hG2 _
   |cons y m=>
    rw[List.flatMap_cons,List.append_assoc,List.map_append,List.append_assoc]
    exact hG1 y (List.mem_of_mem_drop (by rw[hd];exact List.mem_cons_self)) _
  have hno:isT ew (pk L s P)=false:=by
   rw[hw] at hx
   exact hx.not hwe
  have hr:=hrd _ hmem P _ hPl hx hGk
  unfold spEnc at hr
  have hend:again (((),ew,b,((),()),(),()),((L.map tkEnc,s,((P+(tok l[k]).length:Nat):Int),()),((),0,0,0,⟨#[]⟩,()),((),()),((l.take k).map spEnc++[.agg (nI l[k].1::tmC l[k].2)]),())):=by
   have e1:(l.take k).map spEnc++[.agg (nI l[k].1::tmC l[k].2)]=(l.take (k+1)).map spEnc:=by show _++[spEnc l[k]]=_;rw[←take_snoc' hlt,List.map_append];rfl
   have e2:P+(tok l[k]).length=i+((l.take (k+1)).flatMap tok).length:=by rw[flatM_take _ hlt,List.length_append,←hP];omega
   rw[e1,e2]
   exact hag (k+1) hlt (by omega)
  refine ITE.intro (fun h1=>⟨rfl,ITE.intro (fun h2=>⟨_,hr,fun r q ⟨e1,e2⟩=>⟨_,_,_,_,_,_,_,_,_,_,_,_,⟨e1,e2⟩,rfl,appOk_one rfl (by rw[List.length_append,List.length_map,List.length_take];simp;omega) (by decide),rfl,hend⟩⟩) fun h2=>⟨_,dis_no h hPl hno,fun r q ⟨e1,e2⟩=>⟨_,_,_,_,_,_,_,_,⟨e1,e2⟩,ITE.pos rfl ⟨_,hr,fun r q ⟨e1,e2⟩=>⟨_,_,_,_,_,_,_,_,_,_,_,_,⟨e1,e2⟩,rfl,appOk_one rfl (by rw[List.length_append,List.length_map,List.length_take];simp;omega) (by decide),rfl,hend⟩⟩⟩⟩⟩) fun h1=>⟨_,dis_no h hPl hno,fun r q ⟨e1,e2⟩=>⟨_,_,_,_,_,_,_,_,⟨e1,e2⟩,ITE.pos rfl ⟨_,hr,fun r q ⟨e1,e2⟩=>⟨_,_,_,_,_,_,_,_,_,_,_,_,⟨e1,e2⟩,rfl,appOk_one rfl (by rw[List.length_append,List.length_map,List.length_take];simp;omega) (by decide),rfl,hend⟩⟩⟩⟩
 ·obtain rfl:k=l.length:=by omega
  rw[List.drop_length,List.flatMap_nil,List.nil_append] at hatk
  rw[List.take_length] at hP ⊢
  subst hP
  refine ITE.intro (fun h1=>⟨rfl,ITE.neg ?_ ⟨_,dis_yes h hatk hke,fun r q ⟨e1,e2⟩=>⟨_,_,_,_,_,_,_,_,⟨e1,e2⟩,ITE.neg rfl ⟨rfl,rfl,rfl⟩⟩⟩⟩) fun h1=>⟨_,dis_yes h hatk hke,fun r q ⟨e1,e2⟩=>⟨_,_,_,_,_,_,_,_,⟨e1,e2⟩,ITE.neg rfl ⟨rfl,rfl,rfl⟩⟩⟩
  rw[List.length_map,beq_eq_false_iff_ne]
  have:=List.length_pos_iff.2 (hb h1)
  omega
theorem untilN_calls (h:PE L s) {l:List (Int)} {tok:Int→List ByteArray} {G:List Tx→Prop} {ew:ByteArray} {b:Bool} (hl:l.length≤1000000) (hb:b=true→l≠[]) (hke:kindB ew≠2)
  (hrd:∀x∈l,∀(j:Nat) (T':List Tx),j≤L.length→At L j (tok x) T'→G T'→HFn Tryz.prog 128 [.ptr 1 0] (D2 L s (j) noFa) (fun r q=>r=nI x∧q=D2 L s (j+(tok x).length) noFa))
  (hG1:∀x∈l,∀T',G ((tok x).map txB++T')) (hG2:∀T',G (txB ew::T')) (hne:∀x∈l,∃w u,tok x=w::u∧w≠ew)
  {i:Nat} {T:List Tx} (hat:At L i (l.flatMap tok++[ew]) T) (hi:i≤L.length):
  HFn Tryz.prog 134 [.ptr 1 0,nS ew,nB b,.mclo 128 [.ptr 1 0]] (D2 L s (i) noFa) (fun r q=>r=.sl (l.map nI)∧q=D2 L s (i+(l.flatMap tok).length+1) noFa):=by
 refine vc_untilN_ok ⟨rfl,rfl,?_⟩
 refine LoopP.intro (fun k:Nat=>(((),ew,b,((),()),(),()),((L.map tkEnc,s,((i+((l.take k).flatMap tok).length:Nat):Int),()),((),0,0,0,⟨#[]⟩,()),(l.take k).map nI,()))) (fun k=>k≤l.length) (fun k=>l.length-k) 0 rfl (Nat.zero_le _) ?_
 intro k hk again hag
 dsimp only
 have hat0:At L i ((l.take k).flatMap tok++((l.drop k).flatMap tok++[ew])) T:=by
  rw[←List.append_assoc,←List.flatMap_append,List.take_append_drop];exact hat
 have hatk:=hat0.next
 have hPl:=At.le hi hat0.app
 generalize hP:i+((l.take k).flatMap tok).length=P at hatk hPl ⊢
 refine⟨_,dok_calls (f:=noFa),fun r q ⟨e1,e2⟩=>⟨_,_,_,_,_,_,_,_,⟨e1,e2⟩,ITE.pos rfl ?_⟩⟩
 by_cases hlt:k<l.length
 ·have hmem:=List.getElem_mem hlt
  obtain⟨w,u,hw,hwe⟩:=hne _ hmem
  have hx:At L P (tok l[k]) (((l.drop (k+1)).flatMap tok++[ew]).map txB++T):=by
   rw[List.drop_eq_getElem_cons hlt,List.flatMap_cons,List.append_assoc] at hatk
   exact hatk.app
  have hGk:G (((l.drop (k+1)).flatMap tok++[ew]).map txB++T):=by
   cases hd:l.drop (k+1) with
   |nil=>exact hG2 _
   |cons y m=>
    rw[List.flatMap_cons,List.append_assoc,List.map_append,List.append_assoc]
    exact hG1 y (List.mem_of_mem_drop (by rw[hd];exact List.mem_cons_self)) _
  have hno:isT ew (pk L s P)=false:=by
   rw[hw] at hx
   exact hx.not hwe
  have hr:=hrd _ hmem P _ hPl hx hGk
  skip
  have hend:again (((),ew,b,((),()),(),()),((L.map tkEnc,s,((P+(tok l[k]).length:Nat):Int),()),((),0,0,0,⟨#[]⟩,()),((l.take k).map nI++[nI l[k]]),())):=by
   have e1:(l.take k).map nI++[nI l[k]]=(l.take (k+1)).map nI:=by rw[←take_snoc' hlt,List.map_append];rfl
   have e2:P+(tok l[k]).length=i+((l.take (k+1)).flatMap tok).length:=by rw[flatM_take _ hlt,List.length_append,←hP];omega
   rw[e1,e2]
   exact hag (k+1) hlt (by omega)
  refine ITE.intro (fun h1=>⟨rfl,ITE.intro (fun h2=>⟨_,hr,fun r q ⟨e1,e2⟩=>⟨_,_,_,_,_,_,_,_,⟨e1,e2⟩,rfl,appOk_one rfl (by rw[List.length_append,List.length_map,List.length_take];simp;omega) (by decide),rfl,rfl,hend⟩⟩) fun h2=>⟨_,dis_no h hPl hno,fun r q ⟨e1,e2⟩=>⟨_,_,_,_,_,_,_,_,⟨e1,e2⟩,ITE.pos rfl ⟨_,hr,fun r q ⟨e1,e2⟩=>⟨_,_,_,_,_,_,_,_,⟨e1,e2⟩,rfl,appOk_one rfl (by rw[List.length_append,List.length_map,List.length_take];simp;omega) (by decide),rfl,rfl,hend⟩⟩⟩⟩⟩) fun h1=>⟨_,dis_no h hPl hno,fun r q ⟨e1,e2⟩=>⟨_,_,_,_,_,_,_,_,⟨e1,e2⟩,ITE.pos rfl ⟨_,hr,fun r q ⟨e1,e2⟩=>⟨_,_,_,_,_,_,_,_,⟨e1,e2⟩,rfl,appOk_one rfl (by rw[List.length_append,List.length_map,List.length_take];simp;omega) (by decide),rfl,rfl,hend⟩⟩⟩⟩
 ·obtain rfl:k=l.length:=by omega
  rw[List.drop_length,List.flatMap_nil,List.nil_append] at hatk
  rw[List.take_length] at hP ⊢
  subst hP
  refine ITE.intro (fun h1=>⟨rfl,ITE.neg ?_ ⟨_,dis_yes h hatk hke,fun r q ⟨e1,e2⟩=>⟨_,_,_,_,_,_,_,_,⟨e1,e2⟩,ITE.neg rfl ⟨rfl,rfl,rfl⟩⟩⟩⟩) fun h1=>⟨_,dis_yes h hatk hke,fun r q ⟨e1,e2⟩=>⟨_,_,_,_,_,_,_,_,⟨e1,e2⟩,ITE.neg rfl ⟨rfl,rfl,rfl⟩⟩⟩
  rw[List.length_map,beq_eq_false_iff_ne]
  have:=List.length_pos_iff.2 (hb h1)
  omega
theorem untilS_calls (h:PE L s) {l:List (Stp)} {tok:Stp→List ByteArray} {G:List Tx→Prop} {ew:ByteArray} {b:Bool} (hl:l.length≤1000000) (hb:b=true→l≠[]) (hke:kindB ew≠2)
  (hrd:∀x∈l,∀(j:Nat) (T':List Tx),j≤L.length→At L j (tok x) T'→G T'→HFn Tryz.prog 98 [.ptr 1 0] (D2 L s (j) noFa) (fun r q=>r=Stp.enc x∧q=D2 L s (j+(tok x).length) noFa))
  (hG1:∀x∈l,∀T',G ((tok x).map txB++T')) (hG2:∀T',G (txB ew::T')) (hne:∀x∈l,∃w u,tok x=w::u∧w≠ew)
  {i:Nat} {T:List Tx} (hat:At L i (l.flatMap tok++[ew]) T) (hi:i≤L.length):
  HFn Tryz.prog 97 [.ptr 1 0,nS ew,nB b,.mclo 98 [.ptr 1 0]] (D2 L s (i) noFa) (fun r q=>r=.sl (l.map Stp.enc)∧q=D2 L s (i+(l.flatMap tok).length+1) noFa):=by
 refine vc_untilS_ok ⟨rfl,rfl,?_⟩
 refine LoopP.intro (fun k:Nat=>(((),ew,b,((),()),(),()),((L.map tkEnc,s,((i+((l.take k).flatMap tok).length:Nat):Int),()),((),0,0,0,⟨#[]⟩,()),(l.take k).map Stp.enc,()))) (fun k=>k≤l.length) (fun k=>l.length-k) 0 rfl (Nat.zero_le _) ?_
 intro k hk again hag
 dsimp only
 have hat0:At L i ((l.take k).flatMap tok++((l.drop k).flatMap tok++[ew])) T:=by
  rw[←List.append_assoc,←List.flatMap_append,List.take_append_drop];exact hat
 have hatk:=hat0.next
 have hPl:=At.le hi hat0.app
 generalize hP:i+((l.take k).flatMap tok).length=P at hatk hPl ⊢
 refine⟨_,dok_calls (f:=noFa),fun r q ⟨e1,e2⟩=>⟨_,_,_,_,_,_,_,_,⟨e1,e2⟩,ITE.pos rfl ?_⟩⟩
 by_cases hlt:k<l.length
 ·have hmem:=List.getElem_mem hlt
  obtain⟨w,u,hw,hwe⟩:=hne _ hmem
  have hx:At L P (tok l[k]) (((l.drop (k+1)).flatMap tok++[ew]).map txB++T):=by
   rw[List.drop_eq_getElem_cons hlt,List.flatMap_cons,List.append_assoc] at hatk
   exact hatk.app
  have hGk:G (((l.drop (k+1)).flatMap tok++[ew]).map txB++T):=by
   cases hd:l.drop (k+1) with
   |nil=>exact hG2 _
   |cons y m=>
    rw[List.flatMap_cons,List.append_assoc,List.map_append,List.append_assoc]
    exact hG1 y (List.mem_of_mem_drop (by rw[hd];exact List.mem_cons_self)) _
  have hno:isT ew (pk L s P)=false:=by
   rw[hw] at hx
   exact hx.not hwe
  have hr:=hrd _ hmem P _ hPl hx hGk
  unfold Stp.enc at hr
  have hend:again (((),ew,b,((),()),(),()),((L.map tkEnc,s,((P+(tok l[k]).length:Nat):Int),()),((),0,0,0,⟨#[]⟩,()),((l.take k).map Stp.enc++[.agg [nI l[k].eq,nB l[k].back,.sl (encInts l[k].path),.sl (l[k].sub.map spEnc)]]),())):=by
   have e1:(l.take k).map Stp.enc++[.agg [nI l[k].eq,nB l[k].back,.sl (encInts l[k].path),.sl (l[k].sub.map spEnc)]]=(l.take (k+1)).map Stp.enc:=by show _++[Stp.enc l[k]]=_;rw[←take_snoc' hlt,List.map_append];rfl
   have e2:P+(tok l[k]).length=i+((l.take (k+1)).flatMap tok).length:=by rw[flatM_take _ hlt,List.length_append,←hP];omega
   rw[e1,e2]
   exact hag (k+1) hlt (by omega)
  refine ITE.intro (fun h1=>⟨rfl,ITE.intro (fun h2=>⟨_,hr,fun r q ⟨e1,e2⟩=>⟨_,_,_,_,_,_,_,_,_,_,_,⟨e1,e2⟩,rfl,appOk_one rfl (by rw[List.length_append,List.length_map,List.length_take];simp;omega) (by decide),rfl,rfl,hend⟩⟩) fun h2=>⟨_,dis_no h hPl hno,fun r q ⟨e1,e2⟩=>⟨_,_,_,_,_,_,_,_,⟨e1,e2⟩,ITE.pos rfl ⟨_,hr,fun r q ⟨e1,e2⟩=>⟨_,_,_,_,_,_,_,_,_,_,_,⟨e1,e2⟩,rfl,appOk_one rfl (by rw[List.length_append,List.length_map,List.length_take];simp;omega) (by decide),rfl,rfl,hend⟩⟩⟩⟩⟩) fun h1=>⟨_,dis_no h hPl hno,fun r q ⟨e1,e2⟩=>⟨_,_,_,_,_,_,_,_,⟨e1,e2⟩,ITE.pos rfl ⟨_,hr,fun r q ⟨e1,e2⟩=>⟨_,_,_,_,_,_,_,_,_,_,_,⟨e1,e2⟩,rfl,appOk_one rfl (by rw[List.length_append,List.length_map,List.length_take];simp;omega) (by decide),rfl,rfl,hend⟩⟩⟩⟩
 ·obtain rfl:k=l.length:=by omega
  rw[List.drop_length,List.flatMap_nil,List.nil_append] at hatk
  rw[List.take_length] at hP ⊢
  subst hP
  refine ITE.intro (fun h1=>⟨rfl,ITE.neg ?_ ⟨_,dis_yes h hatk hke,fun r q ⟨e1,e2⟩=>⟨_,_,_,_,_,_,_,_,⟨e1,e2⟩,ITE.neg rfl ⟨rfl,rfl,rfl⟩⟩⟩⟩) fun h1=>⟨_,dis_yes h hatk hke,fun r q ⟨e1,e2⟩=>⟨_,_,_,_,_,_,_,_,⟨e1,e2⟩,ITE.neg rfl ⟨rfl,rfl,rfl⟩⟩⟩
  rw[List.length_map,beq_eq_false_iff_ne]
  have:=List.length_pos_iff.2 (hb h1)
  omega
end Go.Proofs.YtjhanogfpkbamaaGreatDoor

namespace Go.Proofs.YtjhanogfpkbamaaGreatDoor
open Go
set_option linter.unusedSimpArgs false
set_option linter.unusedVariables false
variable {L:List Tk} {s w:ByteArray} {i:Nat} {u v:List ByteArray} {T:List Tx} {f:Fa}
theorem kind_ne {a b:ByteArray} (h:kindB a≠kindB b):bytesI a≠bytesI b:=fun e=>h (by unfold kindB;rw[e])
theorem word_ne {a b:ByteArray} (h:bytesI a≠bytesI b):a≠b:=fun e=>h (by rw[e])
def Nxt (w:ByteArray) (T:List Tx):Prop:=∀x,T.head?=some x→x.2≠bytesI w
theorem nxt_cons {a b:ByteArray} (h:bytesI a≠bytesI b):Nxt b (txB a::T):=fun x hx=>by
 rw[List.head?_cons,Option.some.injEq] at hx
 subst hx;exact h
theorem At.none (h:At L i [] T) (hn:Nxt w T):Go.Proofs.YtjhanogfpkbamaaGreatDoor.isT w (pk L s i)=false:=by
 unfold At at h
 rw[List.map_nil,List.nil_append] at h
 rcases Nat.lt_or_ge i L.length with h1|h1
 ·rw[pk_lt h1]
  rw[List.drop_eq_getElem_cons h1,List.map_cons] at h
  have h2:=hn (txOf L[i]) (by rw[←h];rfl)
  unfold txOf at h2
  unfold Go.Proofs.YtjhanogfpkbamaaGreatDoor.isT
  rw[Bool.and_eq_false_iff]
  exact .inr (decide_eq_false fun e=>h2 (by rw[e]))
 ·rw[pk_ge h1];rfl
theorem tokTy_cons {d:Nat} {t:Ty} (h:okTy d t=true):∃n u,tokTy d t=numW n::u∧numOk n=true:=by
 cases d with
 |zero=>cases h
 |succ d=>
  rw[okTy,Bool.and_eq_true] at h
  exact⟨_,_,rfl,h.1⟩
theorem tokTm_cons {d:Nat} {t:Tm} (h:okTm d t=true):∃w u,tokTm d t=w::u∧(w=laW∨kindB w=1):=by
 cases d with
 |zero=>cases h
 |succ d=>
  rw[okTm,Bool.and_eq_true,Bool.and_eq_true,Bool.and_eq_true] at h
  rw[tokTm,if_pos h.1]
  cases hb:t.binds with
  |nil=>exact⟨_,_,rfl,.inr (headW_kind h.1)⟩
  |cons x l=>exact⟨_,_,rfl,.inl rfl⟩
theorem num_nxt {n:Int} (h:numOk n=true) {w:ByteArray} (hw:kindB w=3):bytesI (numW n)≠bytesI w:=kind_ne (by rw[numW_kind h,hw];decide)
theorem ty_nxt {d:Nat} {t:Ty} (h:okTy d t=true) {w:ByteArray} (hw:kindB w=3):Nxt w ((tokTy d t).map txB++T):=by
 obtain⟨n,u,e,hn⟩:=tokTy_cons h
 rw[e]
 exact nxt_cons (num_nxt hn hw)
theorem ty_ne {d:Nat} {t:Ty} (h:okTy d t=true) {w:ByteArray} (hw:kindB w=3):∃x u,tokTy d t=x::u∧x≠w:=by
 obtain⟨n,u,e,hn⟩:=tokTy_cons h
 exact⟨_,_,e,word_ne (num_nxt hn hw)⟩
theorem tm_first {d:Nat} {t:Tm} (h:okTm d t=true) {w:ByteArray} (hw:kindB w=3) (hl:bytesI laW≠bytesI w):∃x u,tokTm d t=x::u∧bytesI x≠bytesI w:=by
 obtain⟨x,u,e,hx⟩:=tokTm_cons h
 refine⟨x,u,e,?_⟩
 rcases hx with rfl|hx
 ·exact hl
 ·exact kind_ne (by rw[hx,hw];decide)
theorem tm_nxt {d:Nat} {t:Tm} (h:okTm d t=true) {w:ByteArray} (hw:kindB w=3) (hl:bytesI laW≠bytesI w):Nxt w ((tokTm d t).map txB++T):=by
 obtain⟨x,u,e,hx⟩:=tm_first h hw hl
 rw[e]
 exact nxt_cons hx
theorem tm_ne {d:Nat} {t:Tm} (h:okTm d t=true) {w:ByteArray} (hw:kindB w=3) (hl:bytesI laW≠bytesI w):∃x u,tokTm d t=x::u∧x≠w:=by
 obtain⟨x,u,e,hx⟩:=tm_first h hw hl
 exact⟨x,u,e,word_ne hx⟩
theorem dtyp_calls (h:PE L s):∀(d:Nat) (t:Ty),d≤60→okTy d t=true→t.size≤1000000→∀(j:Nat) (T:List Tx),j≤L.length→At L j (tokTy d t) T→Nxt lbW T→
  HFn Tryz.prog 95 [.ptr 1 0,nI ((60-d:Nat):Int)] (D2 L s j noFa) (fun r q=>r=t.enc∧q=D2 L s (j+(tokTy d t).length) noFa)
 |0,t,_,hok,_,_,_,_,_,_=>by cases hok
 |d+1,t,hd,hok,hz,j,T,hj,hat,hn=>by
  have hsz:=t.size_eq
  have hll:=Ty.sizes_len t.args
  rw[okTy,Bool.and_eq_true] at hok
  have hall:=List.all_eq_true.1 hok.2
  rw[tokTy] at hat ⊢
  have hat2:=hat.tail
  have hlt:=hat.lt
  refine HFn.prw ?_
  rw[Ty.enc_eq]
  by_cases ha:t.args=[]
  ·rw[ha] at hat2 ⊢
   refine vc95_ok ⟨_,dopen_calls hd,fun r q ⟨e1,e2⟩=>⟨_,_,_,_,_,_,_,_,⟨e1,e2⟩,ITE.neg rfl ⟨_,dnum_calls h hok.1 hat,fun r q ⟨e1,e2⟩=>⟨_,_,_,_,_,_,_,_,⟨e1,e2⟩,
    _,dis_no h (by omega) (hat2.none hn),fun r q ⟨e1,e2⟩=>⟨_,_,_,_,_,_,_,_,⟨e1,e2⟩,ITE.neg rfl ⟨RepW.agg ⟨repW_nil,RepW.refl _,True.intro⟩,rfl⟩⟩⟩⟩⟩⟩
  ·have hne:t.args.isEmpty=false:=by cases hx:t.args with|nil=>exact(ha hx).elim|cons _ _=>rfl
   rw[pinW,hne] at hat2 ⊢
   have hat3:At L (j+1) (lbW::(t.args.flatMap (tokTy d)++[rbW])) T:=hat2
   have hat4:=hat3.tail
   have hun:=untilT_calls (op:=((60-(d+1):Nat):Int)) (l:=t.args) (tok:=tokTy d) (G:=Nxt lbW) (ew:=rbW) (b:=true) h (by omega) (fun _=>ha) (by decide)
    (fun x hx k T' hk hatk hG=>by
     have hr:=dtyp_calls h d x (by omega) (hall x hx) (by have:=Ty.sizes_mem hx;omega) k T' hk hatk hG
     have ew:IntKind.wrap .i64 (((60-(d+1):Nat):Int)+1)=((60-d:Nat):Int):=by rw[wrap_i (by omega) (by omega)];omega
     rw[Ty.enc_eq] at hr ⊢
     refine vc129_ok ?_
     unfold vc129
     rw[ew]
     exact⟨_,hr,fun r q ⟨e1,e2⟩=>⟨_,_,_,_,_,_,_,_,_,⟨e1,e2⟩,rfl,rfl⟩⟩)
    (fun x hx T'=>ty_nxt (hall x hx) rfl) (fun T'=>nxt_cons (by decide)) (fun x hx=>ty_ne (hall x hx) rfl) hat4 (by have:=hat3.lt;omega)
   refine vc95_ok ⟨_,dopen_calls hd,fun r q ⟨e1,e2⟩=>⟨_,_,_,_,_,_,_,_,⟨e1,e2⟩,ITE.neg rfl ⟨_,dnum_calls h hok.1 hat,fun r q ⟨e1,e2⟩=>⟨_,_,_,_,_,_,_,_,⟨e1,e2⟩,
    _,dis_yes h hat3 (by decide),fun r q ⟨e1,e2⟩=>⟨_,_,_,_,_,_,_,_,⟨e1,e2⟩,ITE.pos rfl ⟨_,hun,fun r q ⟨e1,e2⟩=>⟨_,_,_,_,_,_,_,_,_,⟨e1,e2⟩,RepW.refl _,?_⟩⟩⟩⟩⟩⟩⟩
   have e:j+1+1+(t.args.flatMap (tokTy d)).length+1=j+(numW t.base::(if false=true then[] else lbW::(t.args.flatMap (tokTy d)++[rbW]))).length:=by simp;omega
   rw[←e]
theorem dterm_calls (h:PE L s):∀(d:Nat) (t:Tm),d≤60→okTm d t=true→t.size≤1000000→∀(j:Nat) (T:List Tx),j≤L.length→At L j (tokTm d t) T→Nxt opW T→
  HFn Tryz.prog 96 [.ptr 1 0,nI ((60-d:Nat):Int)] (D2 L s j noFa) (fun r q=>r=t.enc∧q=D2 L s (j+(tokTm d t).length) noFa)
 |0,t,_,hok,_,_,_,_,_,_=>by cases hok
 |d+1,t,hd,hok,hz,j,T,hj,hat,hn=>by
  have hsz:=t.size_eq
  have hll:=Tm.sizes_len t.args
  have hlb:=Ty.sizes_len t.binds
  rw[okTm,Bool.and_eq_true,Bool.and_eq_true,Bool.and_eq_true] at hok
  obtain⟨hk,hbs,hnum,hargs⟩:=hok
  have hallb:=List.all_eq_true.1 hbs
  have hall:=List.all_eq_true.1 hargs
  rw[tokTm,if_pos hk] at hat ⊢
  have ew:IntKind.wrap .i64 (((60-(d+1):Nat):Int)+1)=((60-d:Nat):Int):=by rw[wrap_i (by omega) (by omega)];omega
  refine HFn.prw ?_
  rw[Tm.enc_eq]
  have hun:∀(p:Nat) (T':List Tx),t.args≠[]→p≤L.length→At L p (t.args.flatMap (tokTm d)++[clW]) T'→_:=fun p T' ha hp hatp=>
   untilA_calls (op:=((60-(d+1):Nat):Int)) (l:=t.args) (tok:=tokTm d) (G:=Nxt opW) (ew:=clW) (b:=true) h (by omega) (fun _=>ha) (by decide)
    (fun x hx k T' hk hatk hG=>by
     have hr:=dterm_calls h d x (by omega) (hall x hx) (by have:=Tm.sizes_mem hx;omega) k T' hk hatk hG
     rw[Tm.enc_eq] at hr ⊢
     refine vc133_ok ?_
     unfold vc133
     rw[ew]
     exact⟨_,hr,fun r q ⟨e1,e2⟩=>⟨_,_,_,_,_,_,_,_,_,_,_,⟨e1,e2⟩,rfl,rfl⟩⟩)
    (fun x hx T'=>tm_nxt (hall x hx) rfl (by decide)) (fun T'=>nxt_cons (by decide)) (fun x hx=>tm_ne (hall x hx) rfl (by decide)) hatp hp
  have hlen:∀a:List ByteArray,(a++(letW t.kind++numW t.index)::pinW opW clW t.args (t.args.flatMap (tokTm d))).length=a.length+1+(pinW opW clW t.args (t.args.flatMap (tokTm d))).length:=fun a=>by simp;omega
  rw[hlen]
  by_cases hb:t.binds=[]
  ·have e0:pinW laW dtW t.binds (t.binds.flatMap (tokTy d))=[]:=by rw[hb];rfl
   rw[e0,List.nil_append] at hat
   rw[e0,hb,List.map_nil,List.length_nil,Nat.add_zero]
   have hat2:=hat.tail
   have hlt:=hat.lt
   have hno:isT laW (pk L s j)=false:=hat.not (word_ne (kind_ne (by rw[headW_kind hk];decide)))
   refine vc96_ok ⟨_,dopen_calls hd,fun r q ⟨e1,e2⟩=>⟨_,_,_,_,_,_,_,_,⟨e1,e2⟩,ITE.neg rfl ⟨_,dis_no h hj hno,fun r q ⟨e1,e2⟩=>⟨_,_,_,_,_,_,_,_,⟨e1,e2⟩,
    ITE.neg rfl ⟨_,dhead_calls h hk hnum hat,fun r q ⟨e1,e2⟩=>⟨_,_,_,_,_,_,_,_,_,⟨e1,e2⟩,?_⟩⟩⟩⟩⟩⟩
   by_cases ha:t.args=[]
   ·rw[ha] at hat2 ⊢
    exact⟨_,dis_no h (by omega) (hat2.none hn),fun r q ⟨e1,e2⟩=>⟨_,_,_,_,_,_,_,_,⟨e1,e2⟩,ITE.neg rfl ⟨RepW.agg ⟨repW_nil,RepW.refl _,RepW.refl _,repW_nil,True.intro⟩,rfl⟩⟩⟩
   ·have hne:t.args.isEmpty=false:=by cases hx:t.args with|nil=>exact(ha hx).elim|cons _ _=>rfl
    rw[pinW,hne] at hat2 ⊢
    have hat3:At L (j+1) (opW::(t.args.flatMap (tokTm d)++[clW])) T:=hat2
    have hu:=hun _ _ ha (by have:=hat3.lt;omega) hat3.tail
    refine⟨_,dis_yes h hat3 (by decide),fun r q ⟨e1,e2⟩=>⟨_,_,_,_,_,_,_,_,⟨e1,e2⟩,ITE.pos rfl ⟨_,hu,fun r q ⟨e1,e2⟩=>⟨_,_,_,_,_,_,_,_,_,⟨e1,e2⟩,RepW.agg ⟨repW_nil,RepW.refl _,RepW.refl _,RepW.refl _,True.intro⟩,?_⟩⟩⟩⟩
    have e:j+1+1+(t.args.flatMap (tokTm d)).length+1=j+(0+1+(if false=true then[] else opW::(t.args.flatMap (tokTm d)++[clW])).length):=by simp;omega
    rw[←e]
  ·have hbe:t.binds.isEmpty=false:=by cases hx:t.binds with|nil=>exact(hb hx).elim|cons _ _=>rfl
   have e0:pinW laW dtW t.binds (t.binds.flatMap (tokTy d))=laW::(t.binds.flatMap (tokTy d)++[dtW]):=by rw[pinW,hbe];rfl
   rw[e0] at hat ⊢
   have hat1:At L j (laW::((t.binds.flatMap (tokTy d)++[dtW])++(letW t.kind++numW t.index)::pinW opW clW t.args (t.args.flatMap (tokTm d)))) T:=hat
   have hatb:=hat1.tail
   have hub:=untilB_calls (op:=((60-(d+1):Nat):Int)) (l:=t.binds) (tok:=tokTy d) (G:=Nxt lbW) (ew:=dtW) (b:=true) h (by omega) (fun _=>hb) (by decide)
    (fun x hx k T' hk hatk hG=>by
     have hr:=dtyp_calls h d x (by omega) (hallb x hx) (by have:=Ty.sizes_mem hx;omega) k T' hk hatk hG
     rw[Ty.enc_eq] at hr ⊢
     refine vc130_ok ?_
     unfold vc130
     rw[ew]
     exact⟨_,hr,fun r q ⟨e1,e2⟩=>⟨_,_,_,_,_,_,_,_,_,⟨e1,e2⟩,rfl,rfl⟩⟩)
    (fun x hx T'=>ty_nxt (hallb x hx) rfl) (fun T'=>nxt_cons (by decide)) (fun x hx=>ty_ne (hallb x hx) rfl) hatb.app (by have:=hat1.lt;omega)
   have hat2:=hatb.next
   rw[List.length_append,List.length_singleton] at hat2
   have hp:j+1+((t.binds.flatMap (tokTy d)).length+1)=j+1+(t.binds.flatMap (tokTy d)).length+1:=by omega
   rw[hp] at hat2
   have hat3:=hat2.tail
   have hlt2:=hat2.lt
   refine vc96_ok ⟨_,dopen_calls hd,fun r q ⟨e1,e2⟩=>⟨_,_,_,_,_,_,_,_,⟨e1,e2⟩,ITE.neg rfl ⟨_,dis_yes h hat1 (by decide),fun r q ⟨e1,e2⟩=>⟨_,_,_,_,_,_,_,_,⟨e1,e2⟩,
    ITE.pos rfl ⟨_,hub,fun r q ⟨e1,e2⟩=>⟨_,_,_,_,_,_,_,_,_,⟨e1,e2⟩,_,dhead_calls h hk hnum hat2,fun r q ⟨e1,e2⟩=>⟨_,_,_,_,_,_,_,_,_,⟨e1,e2⟩,?_⟩⟩⟩⟩⟩⟩⟩
   by_cases ha:t.args=[]
   ·rw[ha] at hat3 ⊢
    refine⟨_,dis_no h (by omega) (hat3.none hn),fun r q ⟨e1,e2⟩=>⟨_,_,_,_,_,_,_,_,⟨e1,e2⟩,ITE.neg rfl ⟨RepW.agg ⟨RepW.refl _,RepW.refl _,RepW.refl _,repW_nil,True.intro⟩,?_⟩⟩⟩
    have e:j+1+(t.binds.flatMap (tokTy d)).length+1+1=j+((laW::(t.binds.flatMap (tokTy d)++[dtW])).length+1+(pinW opW clW ([]:List Tm) (([]:List Tm).flatMap (tokTm d))).length):=by simp[pinW];omega
    rw[←e]
   ·have hne:t.args.isEmpty=false:=by cases hx:t.args with|nil=>exact(ha hx).elim|cons _ _=>rfl
    rw[pinW,hne] at hat3 ⊢
    have hat4:At L (j+1+(t.binds.flatMap (tokTy d)).length+1+1) (opW::(t.args.flatMap (tokTm d)++[clW])) T:=hat3
    have hu:=hun _ _ ha (by have:=hat4.lt;omega) hat4.tail
    refine⟨_,dis_yes h hat4 (by decide),fun r q ⟨e1,e2⟩=>⟨_,_,_,_,_,_,_,_,⟨e1,e2⟩,ITE.pos rfl ⟨_,hu,fun r q ⟨e1,e2⟩=>⟨_,_,_,_,_,_,_,_,_,⟨e1,e2⟩,RepW.refl _,?_⟩⟩⟩⟩
    have e:j+1+(t.binds.flatMap (tokTy d)).length+1+1+1+(t.args.flatMap (tokTm d)).length+1=j+((laW::(t.binds.flatMap (tokTy d)++[dtW])).length+1+(if false=true then[] else opW::(t.args.flatMap (tokTm d)++[clW])).length):=by simp;omega
    rw[←e]
end Go.Proofs.YtjhanogfpkbamaaGreatDoor
