/- Texts of ours laid together for a claim: P6A P1O P69 P6N P6O P6C P6D P6E P6F P6G P6H P65 P66 P67 P68 P6I P6P P6Q P6R P46 P6S P6T P6U. -/
import Derived.WalkKit
import Derived.Deep.RegionLaw
import Derived.Deep.Upon
import Derived.Lib.SliceRun
import Derived.KernelRfl
import Derived.Test.YtdcikhleahfknaaGreatDoorQ49
namespace Go.Proofs.YtdcikhleahfknaaGreatDoor
open Go
set_option linter.unusedSimpArgs false
set_option linter.unusedVariables false
set_option maxRecDepth 100000
open Go Go.RowKit
instance abA:DecidableEq Tm:=fun a b=>decidable_of_iff (Tm.same a b=true) (Tm.fo a b)
theorem Tm.Mz (a b:Tm):Tm.same a b=decide (a=b):=by
 by_cases h:a=b
 ·rw[decide_eq_true h];exact(Tm.fo a b).2 h
 ·rw[decide_eq_false h];exact Bool.eq_false_iff.2 fun h1=>h ((Tm.fo a b).1 h1)
mutual
def Tm.inner:Tm→List Tm
 | .mk b k i a=>Tm.mk b k i a::(if b.isEmpty&&(k==1) then Tm.dn a else[])
def Tm.dn:List Tm→List Tm
 | []=>[]
 |t::l=>(if t.binds.isEmpty then Tm.inner t else[])++Tm.dn l
end
theorem Tm.lp (t:Tm):t.inner=t::(if t.binds.isEmpty&&(t.kind==1) then Tm.dn t.args else[]):=by cases t;rfl
mutual
theorem Tm.oe:∀t:Tm,t.inner.length≤t.size
 | .mk b k i a=>by
  have:=Tm.l9 a
  simp only[Tm.inner,Tm.size]
  split<;>simp only[List.length_cons,List.length_nil]<;>omega
theorem Tm.l9:∀l:List Tm,(Tm.dn l).length≤Tm.sizes l
 | []=>Nat.le_refl _
 |t::l=>by
  have h1:=Tm.oe t
  have h2:=Tm.l9 l
  simp only[Tm.dn,Tm.sizes,List.length_append]
  split
  ·omega
  ·simp only[List.length_nil];omega
end
mutual
theorem Tm.px:∀(t x:Tm),x∈t.inner→x.size≤t.size
 | .mk b k i a,x,h=>by
  simp only[Tm.inner,List.mem_cons] at h
  rcases h with rfl|h
  ·exact Nat.le_refl _
  ·split at h
   ·have:=Tm.sD a x h
    simp only[Tm.size];omega
   ·cases h
theorem Tm.sD:∀(l:List Tm) (x:Tm),x∈Tm.dn l→x.size≤Tm.sizes l
 | [],x,h=>by cases h
 |t::l,x,h=>by
  simp only[Tm.dn,List.mem_append] at h
  rcases h with h|h
  ·split at h
   ·have:=Tm.px t x h
    simp only[Tm.sizes];omega
   ·cases h
  ·have:=Tm.sD l x h
   simp only[Tm.sizes];omega
end
def ew (l:List Tm):List Tm:=l.flatMap Tm.inner
theorem qI:∀l:List Tm,(ew l).length≤Tm.sizes l
 | []=>Nat.le_refl _
 |t::l=>by
  have h1:=t.oe
  have h2:=qI l
  simp only[ew,List.flatMap_cons,List.length_append,Tm.sizes] at h2 ⊢
  omega
theorem xA {l:List Tm} {x:Tm} (h:x∈ew l):x.size≤Tm.sizes l:=by
 obtain⟨t,h1,h2⟩:=List.mem_flatMap.1 h
 exact Nat.le_trans (t.px x h2) (Tm.bg h1)
def im (a b:Tm):Bool:=decide (b∈a.inner.drop 1)
def zP:List Tm→List Tm→Bool
 |a::l,b::m=>if a=b then zP l m else im a b
 |_,_=>false
def cJ:List Tm→List Tm→List Tm
 | [],_=>[]
 |t::a,l=>if t∈l then cJ a (l.erase t) else t::cJ a l
theorem py:∀(a l:List Tm) (x:Tm),(cJ a l).count x=a.count x-l.count x
 | [],l,x=>by simp[cJ]
 |t::a,l,x=>by
  rw[cJ]
  split
  ·rename_i h
   rw[py a _ x,List.count_erase,List.count_cons]
   have:=List.count_pos_iff.2 h
   by_cases e:t=x
   ·subst e;simp;omega
   ·simp[e]
  ·rename_i h
   rw[List.count_cons,py a l x,List.count_cons]
   by_cases e:t=x
   ·subst e
    have:=List.count_eq_zero_of_not_mem h
    simp;omega
   ·simp[e]
theorem jx {a l:List Tm} {x:Tm}:x∈cJ a l↔l.count x<a.count x:=by
 rw[←List.count_pos_iff,py];omega
theorem rJ:∀(a l:List Tm),(cJ a l).length≤a.length
 | [],l=>Nat.le_refl _
 |t::a,l=>by
  rw[cJ]
  split
  ·have:=rJ a (l.erase t);simp only[List.length_cons];omega
  ·have:=rJ a l;simp only[List.length_cons];omega
theorem og {a l:List Tm} {x:Tm} (h:x∈cJ a l):x∈a:=List.count_pos_iff.1 (by have:=jx.1 h;omega)
def Fa (a b:List Tm) (y:Tm):Bool:=(cJ a b).any fun x=>im x y
def Ik (a b:List Tm):Bool:=!(cJ a b).isEmpty&&(cJ b a).all (Fa a b)
def qJ (k:Int) (a b:List Tm):Bool:=if a.length=b.length then(if k=1 then Ik a b else zP a b) else false
def xB (a b:List Tm):Bool:=a.any fun x=>decide (b.count x<a.count x)
def vC (a b:List Tm) (y:Tm):Bool:=a.any fun x=>decide (b.count x<a.count x)&&im x y
def Tk (a b:List Tm):Bool:=xB a b&&b.all fun y=>decide (b.count y≤a.count y)||vC a b y
theorem MA (a b:List Tm):xB a b=!(cJ a b).isEmpty:=by
 rw[Bool.eq_iff_iff,xB,List.any_eq_true]
 cases h:cJ a b with
 |nil=>
  simp only[List.isEmpty_nil,Bool.not_true,Bool.false_eq_true,iff_false]
  rintro⟨x,hx,h2⟩
  have:x∈cJ a b:=jx.2 (by simpa using h2)
  rw[h] at this;cases this
 |cons x l=>
  simp only[List.isEmpty_cons,Bool.not_false,iff_true]
  have:x∈cJ a b:=by rw[h];exact List.mem_cons_self
  exact⟨x,og this,by simpa using jx.1 this⟩
theorem xC (a b:List Tm) (y:Tm):vC a b y=Fa a b y:=by
 rw[Bool.eq_iff_iff,vC,Fa,List.any_eq_true,List.any_eq_true]
 constructor
 ·rintro⟨x,hx,h⟩
  rw[Bool.and_eq_true,decide_eq_true_eq] at h
  exact⟨x,jx.2 h.1,h.2⟩
 ·rintro⟨x,hx,h⟩
  exact⟨x,og hx,by rw[Bool.and_eq_true,decide_eq_true_eq];exact⟨jx.1 hx,h⟩⟩
theorem Qp (a b:List Tm):Tk a b=Ik a b:=by
 rw[Tk,Ik,MA]
 congr 1
 rw[Bool.eq_iff_iff,List.all_eq_true,List.all_eq_true]
 constructor
 ·intro h y hy
  have:=h y (og hy)
  have h2:=jx.1 hy
  rw[Bool.or_eq_true,decide_eq_true_eq,xC] at this
  rcases this with h3|h3
  ·omega
  ·exact h3
 ·intro h y hy
  rw[Bool.or_eq_true,decide_eq_true_eq,xC]
  by_cases h2:b.count y≤a.count y
  ·exact .inl h2
  ·exact .inr (h y (jx.2 (by omega)))
structure Cx where
 fk:Int
 fi:Int
 la:List Tm
 ms:List Ty
 ab:Int→Int→Bool
 st:Int→Int
def Cx.var (C:Cx) (m:Int):Bool:=decide (0≤m∧m<C.ms.length)&&decide (po 2 m (C.ms.getD m.toNat (.mk [] 0))∈ew C.la)
def mE (C:Cx) (k i:Int) (a:List Tm):Bool:=
 if k=0 then true else if k=2 then C.var i else if k=1 then(if C.fk=1 then(if i=C.fi then qJ (C.st C.fi) C.la a else C.ab C.fi i) else false) else false
mutual
def jD (C:Cx):Tm→Bool
 | .mk b k i a=>(decide (Tm.mk b k i a∈ew C.la)||decide (Tm.mk [] k i a∈ew C.la))||(mE C k i a&&ma C a)
def ma (C:Cx):List Tm→Bool
 | []=>true
 |t::l=>jD C t&&ma C l
end
theorem MB (C:Cx) (t:Tm):jD C t=((decide (t∈ew C.la)||decide (Tm.mk [] t.kind t.index t.args∈ew C.la))||(mE C t.kind t.index t.args&&ma C t.args)):=by cases t;rfl
theorem MC (C:Cx) (l:List Tm):ma C l=l.all (jD C):=by
 induction l with
 |nil=>rfl
 |cons t l ih=>rw[ma,ih,List.all_cons]
theorem rL:∀(n:Nat) (t u:Tm),t.size≤n→n≤500000000→ag Tryz.prog 88 [.agg [.sl (t.binds.map Ty.enc),nI t.kind,nI t.index,.sl (t.args.map Tm.enc)],.agg [.sl (u.binds.map Ty.enc),nI u.kind,nI u.index,.sl (u.args.map Tm.enc)]] (nB (Tm.same t u)):=by
 intro n
 induction n with
 |zero=>intro t u h;have:=t.size_pos;omega
 |succ n ih=>
  intro t u h hn
  have hq:=Tm.aF t.args
  have tR:=t.size_eq
  have hb:=iL (l:=t.binds) (m:=u.binds) (by have:=Ty.aF t.binds;omega) fun k h1 h2=>nC _ t.binds[k] u.binds[k] (Nat.le_refl _) (by have:=Ty.bg (List.getElem_mem h1);omega)
  rw[Tm.qy]
  have aw:ag Tryz.prog 139 [.sl (t.args.map Tm.enc),.sl (u.args.map Tm.enc),.aK 88 []] (nB (Tm.bq t.args u.args)):=by
   refine L1 (ai.intro (fun h=>?_) fun h=>?_)
   ·rw[Tm.iS (by simp at h;omega)]
   ·have Xu:t.args.length=u.args.length:=by simp at h;omega
    refine ax.intro (fun k:Nat=>((u.args.map Tm.enc,(),t.args.map Tm.enc,(t.args.length:Int),(k:Int),()),())) (fun k=>k≤t.args.length∧Tm.bq t.args u.args=Tm.bq (t.args.drop k) (u.args.drop k)) (fun k=>t.args.length-k) 0 (by rw[List.length_map];rfl) ⟨Nat.zero_le _,rfl⟩ ?_
    intro k ⟨hk,hs⟩ again bJ
    dsimp only
    refine ai.intro (fun h=>?_) fun h=>?_
    ·have ak:k<t.args.length:=by simpa using h
     rw[Tm.gG ak (by omega)] at hs
     have hi:=ih t.args[k] (u.args[k]'(by omega)) (by have:=Tm.cr ak;omega) (by omega)
     refine⟨by omega,by rw[List.length_map];omega,_,_,_,_,Tm.aq ak,by omega,by rw[List.length_map];omega,_,_,_,_,Tm.aq (by omega),_,hi,ai.intro (fun h=>?_) fun h=>?_⟩
     ·have:Tm.same t.args[k] u.args[k]=false:=by simpa using h
      rw[hs,this,Bool.false_and]
     ·have he:Tm.same t.args[k] u.args[k]=true:=by simpa using h
      rw[he,Bool.true_and] at hs
      rw[aD (by omega)]
      exact bJ (k+1) ⟨by omega,hs⟩ (by omega)
    ·have:t.args.length≤k:=by simpa using h
     rw[List.drop_eq_nil_of_le this,List.drop_eq_nil_of_le (by omega)] at hs
     rw[hs];rfl
  refine PN (ai.intro (fun h=>⟨_,hb,ai.intro (fun h2=>⟨_,aw,?_⟩) fun h2=>?_⟩) fun h=>?_)
  ·rw[h,h2,Bool.true_and,Bool.true_and]
  ·rw[h,h2,Bool.true_and,Bool.false_and]
  ·rw[h,Bool.false_and]
abbrev dp (t:Tm):AV:=.agg [.sl (t.binds.map Ty.enc),nI t.kind,nI t.index,.sl (t.args.map Tm.enc)]
theorem cV (t:Tm):dp t=t.enc:=t.aP.symm
theorem Tm.wF (l m:List Tm):Tm.dn (l++m)=Tm.dn l++Tm.dn m:=by
 induction l with
 |nil=>rfl
 |cons t l ih=>rw[List.cons_append,Tm.dn,Tm.dn,ih,List.append_assoc]
theorem Tm.sE {l:List Tm} {k:Nat} (h:k<l.length):Tm.dn (l.take (k+1))=Tm.dn (l.take k)++(if l[k].binds.isEmpty then l[k].inner else[]):=by
 rw[List.take_succ_eq_append_getElem h,Tm.wF]
 simp[Tm.dn]
theorem Tm.mc (l:List Tm) (k:Nat):Tm.sizes (l.take k)≤Tm.sizes l:=by
 have:=Tm.bY (l.take k) (l.drop k)
 rw[List.take_append_drop] at this
 omega
theorem sF:∀(n:Nat) (t:Tm),t.size≤n→n≤1000000→ag Tryz.prog 52 [dp t] (.sl (t.inner.map Tm.enc)):=by
 intro n
 induction n with
 |zero=>intro t h;have:=t.size_pos;omega
 |succ n ih=>
  intro t h hn
  have tR:=t.size_eq
  have hlen:=Tm.aF t.args
  have one:([dp t]:List AV)=[t].map Tm.enc:=by rw[cV];rfl
  have stop:(t.binds.isEmpty&&(t.kind==1))=false→AV.sl [dp t]=AV.sl (t.inner.map Tm.enc):=fun e=>by rw[Tm.lp,e,one];rfl
  refine OQ (ai.intro (fun h1=>⟨rfl,stop ?_⟩) fun h1=>ai.intro (fun h2=>⟨rfl,stop ?_⟩) fun h2=>⟨rfl,?_⟩)
  ·have:0<t.binds.length:=by simpa using h1
   cases hb:t.binds with
   |nil=>rw[hb] at this;simp at this
   |cons=>rfl
  ·have:¬t.kind=1:=by simpa using h2
   simp[this]
  ·have hb:t.binds.isEmpty=true:=by
    have:¬0<t.binds.length:=by simpa using h1
    cases hb:t.binds with
    |nil=>rfl
    |cons=>rw[hb] at this;simp at this
   have hk:(t.kind==1)=true:=by simpa using h2
   refine ax.intro (fun k:Nat=>(((),t.args.map Tm.enc,(t.args.length:Int),(k:Int),()),((t.binds.map Ty.enc,t.kind,t.index,t.args.map Tm.enc,()),(t::Tm.dn (t.args.take k)).map Tm.enc,()))) (fun k=>k≤t.args.length) (fun k=>t.args.length-k) 0 (by rw[List.length_map,one];rfl) (Nat.zero_le _) ?_
   intro k yf again bJ
   dsimp only
   refine ai.intro (fun h=>?_) fun h=>⟨rfl,?_⟩
   ·have ak:k<t.args.length:=by simpa using h
    have P9:=Tm.sE ak
    refine⟨by omega,by rw[List.length_map];omega,_,_,_,_,Tm.aq ak,ai.intro (fun h3=>?_) fun h3=>⟨rfl,?_⟩⟩
    ·have M4:t.args[k].binds.isEmpty=true:=by
      have:t.args[k].binds.length=0:=by
       have h4:((List.length (t.args[k].binds.map Ty.enc):Nat):Int)=0:=by simpa using h3
       rw[List.length_map] at h4;omega
      cases hb:t.args[k].binds with
      |nil=>rfl
      |cons=>rw[hb] at this;simp at this
     have bC:=Tm.cr ak
     have kJ:=t.args[k].oe
     have pG:=Tm.l9 (t.args.take k)
     have pK:=Tm.mc t.args k
     refine⟨_,ih t.args[k] (by omega) (by omega),rfl,dv Tm.eo (by rw[List.length_append,List.length_map,List.length_map,List.length_cons];omega) (by decide),rfl,?_⟩
     have e:(t::Tm.dn (t.args.take k)).map Tm.enc++t.args[k].inner.map Tm.enc=(t::Tm.dn (t.args.take (k+1))).map Tm.enc:=by
      rw[P9,M4,←List.map_append];rfl
     rw[e,aD (by omega)]
     exact bJ (k+1) (by omega) (by omega)
    ·have M4:t.args[k].binds.isEmpty=false:=by
      cases hb:t.args[k].binds with
      |nil=>rw[hb] at h3;simp at h3
      |cons=>rfl
     have e:(t::Tm.dn (t.args.take k)).map Tm.enc=(t::Tm.dn (t.args.take (k+1))).map Tm.enc:=by
      rw[P9,M4];simp
     rw[e,aD (by omega)]
     exact bJ (k+1) (by omega) (by omega)
   ·have Bg:k=t.args.length:=by
     have:t.args.length≤k:=by simpa using h
     omega
    subst Bg
    rw[List.take_length,Tm.lp,hb,hk];rfl
def rM (t:Tm):List Tm→Nat→Int
 | [],_ => -1
 |x::l,k=>if Tm.same x t=true then k else rM t l (k+1)
theorem oh (t:Tm):∀(l:List Tm) (k:Nat),(rM t l k = -1∧t∉l)∨∃j,rM t l k=((k+j:Nat):Int)∧j<l.length∧l.eraseIdx j=l.erase t∧t∈l
 | [],k=>.inl ⟨rfl,by simp⟩
 |x::l,k=>by
  rw[rM]
  by_cases h:x=t
  ·subst h
   rw[if_pos (Tm.rC x)]
   exact .inr ⟨0,by simp,by simp,by simp,by simp⟩
  ·rw[if_neg (fun e=>h ((Tm.fo x t).1 e))]
   rcases oh t l (k+1) with⟨h1,h2⟩|⟨j,h1,h2,h3,h4⟩
   ·exact .inl ⟨h1,by simp[h2];exact fun e=>h e.symm⟩
   ·refine .inr ⟨j+1,by rw[h1];omega,by simpa using h2,?_,by simp[h4]⟩
    rw[List.eraseIdx_cons_succ,h3,List.erase_cons_tail (by simpa using h)]
theorem MD (t:Tm) (l:List Tm):decide (rM t l 0≥0)=decide (t∈l):=by
 rcases oh t l 0 with⟨h1,h2⟩|⟨j,h1,h2,h3,h4⟩
 ·rw[h1,decide_eq_false h2];rfl
 ·rw[h1,decide_eq_true h4,decide_eq_true (by omega)]
def bH (l:List Tm):Prop:=l.length≤1000000∧∀x∈l,x.size≤1000000
theorem Il {x t:Tm} (hx:x.size≤1000000):ag Tryz.prog 89 [dp x,.aL (dp t) 0] (nB (Tm.same x t)):=
 OV ⟨_,rL 1000000 x t hx (by omega),rfl⟩
theorem C4 {l:List Tm} {t:Tm} (hl:bH l):ag Tryz.prog 134 [.sl (l.map Tm.enc),.aK 89 [.aL (dp t) 0]] (nI (rM t l 0)):=by
 obtain⟨As,oH⟩:=hl
 refine B7 ⟨rfl,ax.intro (fun k:Nat=>((l.map Tm.enc,((),()),(l.length:Int),(k:Int),()),())) (fun k=>k≤l.length∧rM t l 0=rM t (l.drop k) k) (fun k=>l.length-k) 0 (by rw[List.length_map];rfl) ⟨Nat.zero_le _,rfl⟩ ?_⟩
 intro k ⟨hk,hs⟩ again bJ
 dsimp only
 refine ai.intro (fun h=>?_) fun h=>?_
 ·have ak:k<l.length:=by simpa using h
  rw[List.drop_eq_getElem_cons ak,rM] at hs
  refine⟨by omega,by rw[List.length_map];omega,_,_,_,_,Tm.aq ak,_,Il (oH _ (List.getElem_mem ak)),ai.intro (fun h=>?_) fun h=>⟨rfl,?_⟩⟩
  ·rw[hs,if_pos h]
  ·rw[if_neg (by simp[h])] at hs
   rw[aD (by omega)]
   exact bJ (k+1) ⟨by omega,hs⟩ (by omega)
 ·have:l.length≤k:=by simpa using h
  rw[List.drop_eq_nil_of_le this] at hs
  rw[hs];rfl
theorem eQ {l:List Tm} {t:Tm} (hl:bH l):ag Tryz.prog 51 [.sl (l.map Tm.enc),dp t] (nB (decide (t∈l))):=
 OW ⟨_,B8 ⟨_,C4 hl,rfl⟩,by rw[MD]⟩
theorem sG {t:Tm} (h:t.size≤1000000):bH t.inner:=⟨Nat.le_trans t.oe h,fun x hx=>Nat.le_trans (t.px x hx) h⟩
theorem mf {a b:Tm} (ha:a.size≤1000000):ag Tryz.prog 20 [dp a,dp b] (nB (im a b)):=by
 have hs:=sG ha
 refine OX ⟨_,sF 1000000 a ha (by omega),⟨by omega,?_,by omega,Tm.eo⟩,?_⟩
 ·rw[List.length_map,Tm.lp,List.length_cons];omega
 ·have e:List.drop (Int.toNat 1) (List.take (Int.toNat ((List.length (a.inner.map Tm.enc):Nat):Int)) (a.inner.map Tm.enc))=(a.inner.drop 1).map Tm.enc:=by
   rw[Int.toNat_natCast,List.take_length,List.map_drop];rfl
  rw[e]
  exact⟨_,eQ ⟨by rw[List.length_drop];have:=hs.1;omega,fun x hx=>hs.2 x (List.mem_of_mem_drop hx)⟩,rfl⟩
theorem Im {a b:List Tm} (ha:bH a) (hl:a.length=b.length):ag Tryz.prog 50 [.sl (a.map Tm.enc),.sl (b.map Tm.enc)] (nB (zP a b)):=by
 obtain⟨As,oH⟩:=ha
 refine O0 (ax.intro (fun k:Nat=>((a.map Tm.enc,b.map Tm.enc,(a.length:Int),(k:Int),()),())) (fun k=>k≤a.length∧zP a b=zP (a.drop k) (b.drop k)) (fun k=>a.length-k) 0 (by rw[List.length_map];rfl) ⟨Nat.zero_le _,rfl⟩ ?_)
 intro k ⟨hk,hs⟩ again bJ
 dsimp only
 refine ai.intro (fun h=>?_) fun h=>?_
 ·have ak:k<a.length:=by simpa using h
  have IM:k<b.length:=by omega
  rw[List.drop_eq_getElem_cons ak,List.drop_eq_getElem_cons IM,zP] at hs
  have i1:0≤(k:Int):=by omega
  have i2:(k:Int)<((List.length (a.map Tm.enc):Nat):Int):=by rw[List.length_map];omega
  have i3:(k:Int)<((List.length (b.map Tm.enc):Nat):Int):=by rw[List.length_map];omega
  have bC:=oH _ (List.getElem_mem ak)
  refine⟨i1,i2,_,_,_,_,Tm.aq ak,i1,i3,_,_,_,_,Tm.aq IM,_,rL 1000000 _ _ bC (by omega),ai.intro (fun h=>?_) fun h=>?_⟩
  ·have bh:¬a[k]=b[k]:=fun e=>by rw[e,Tm.rC] at h;cases h
   rw[if_neg bh] at hs
   exact⟨i1,i2,_,_,_,_,Tm.aq ak,i1,i3,_,_,_,_,Tm.aq IM,_,mf bC,by rw[hs]⟩
  ·have he:a[k]=b[k]:=(Tm.fo _ _).1 (by simpa using h)
   rw[if_pos he] at hs
   rw[aD (by omega)]
   exact bJ (k+1) ⟨by omega,hs⟩ (by omega)
 ·have:a.length≤k:=by simpa using h
  rw[List.drop_eq_nil_of_le this] at hs
  rw[hs]
  cases b.drop k<;>rfl
theorem Qq (us:List AV) (a b:List (UInt8×Int)):us++aV (bQ a)++aV (bQ b)=us++aV (bQ (a++b)):=by rw[pq,List.append_assoc]
theorem Io:∀(n:Nat) (t:Tm),t.size<n→n≤1000000→t.kj→∀us:List AV,us.length+124*t.size≤900000000→
  bp Tryz.prog 127 [dp t,.ptr 4 0,.ptr 3 0,.ptr 5 0] (Ra us.length us) (fun r q=>r=.aX []∧q=Ra (us++aV (bQ (Ap t))).length (us++aV (bQ (Ap t)))):=by
 intro n
 induction n with
 |zero=>intro t h;omega
 |succ n ih=>
  intro t h hn vw us TP
  have tR:=t.size_eq
  have hlen:=Tm.aF t.args
  obtain⟨n1,n2,n3,n4⟩:=Tm.pr vw
  have hL:∀p∈DF t.binds,lx p.2:=GV n1 (by omega)
  obtain⟨N,hN⟩:∃N:Int,N=((List.length (t.args.map Tm.enc):Nat):Int):=⟨_,rfl⟩
  have hNi:lx N:=by rw[hN,List.length_map];exact l7 (by omega)
  have c1:=ln (us:=us) hL
  rw[tS] at c1
  have one:∀(vs:List AV) (c:UInt8) (x:Int),lx x→(vs++aV (bQ [(c,x)])).length≤vs.length+31:=fun vs c x hx=>by
   have:=ln (us:=vs) (l:=[(c,x)]) (fun p hp=>by rw[List.mem_singleton] at hp;rw[hp];exact hx)
   rw[List.length_singleton] at this
   omega
  have c2:=one (us++aV (bQ (DF t.binds))) 104 t.kind n2
  have c3:=one (us++aV (bQ (DF t.binds))++aV (bQ [(104,t.kind)])) 105 t.index n3
  refine Lr ⟨_,H8 1000000 t.binds (by omega) (by omega) n1 us (by omega),fun r q ⟨e1,e2⟩=>⟨_,⟨e1,e2⟩,_,lk (c:=104) n2 (by omega),fun r q ⟨e1,e2⟩=>⟨_,⟨e1,e2⟩,_,lk (c:=105) n3 (by omega),fun r q ⟨e1,e2⟩=>⟨_,⟨e1,e2⟩,_,lk (c:=40) (n:=((List.length (t.args.map Tm.enc):Nat):Int)) (by rw[←hN];exact hNi) (by omega),fun r q ⟨e1,e2⟩=>⟨_,⟨e1,e2⟩,rfl,?_⟩⟩⟩⟩⟩
  rw[Qq,Qq,Qq]
  refine ax.intro (fun k:Nat=>(((),t.args.map Tm.enc,(t.args.length:Int),(k:Int),()),((),us++aV (bQ (DF t.binds++[(104,t.kind)]++[(105,t.index)]++[(40,(t.args.length:Int))]++ju (t.args.take k))),((),()),((),()),((),()),((),()),(t.binds.map Ty.enc,t.kind,t.index,t.args.map Tm.enc,()),()))) (fun k=>k≤t.args.length) (fun k=>t.args.length-k) 0 (by simp only[List.length_map,List.take_zero,ju,List.append_nil,List.append_assoc];rfl) (Nat.zero_le _) ?_
  intro k hk again bJ
  dsimp only
  refine ai.intro (fun h=>?_) fun h=>⟨rfl,?_⟩
  ·have ak:k<t.args.length:=by simpa using h
   have oQ:=bJ (k+1) (by omega) (by omega)
   have p1:=Tm.bY (t.args.take k) (t.args.drop k)
   rw[List.take_append_drop,List.drop_eq_getElem_cons ak,Tm.sizes] at p1
   have b1:=ln (us:=us) (l:=DF t.binds++[(104,t.kind)]++[(105,t.index)]++[(40,(t.args.length:Int))]++ju (t.args.take k)) (fun p hp=>by
    simp only[List.mem_append,List.mem_singleton] at hp
    rcases hp with(((hp|rfl)|rfl)|rfl)|hp
    ·exact hL p hp
    ·exact n2
    ·exact n3
    ·exact l7 (by omega)
    ·exact vz _ (Tm.CY _ k n4) (by omega) p hp)
   have b2:=vy (t.args.take k)
   simp only[List.length_append,List.length_singleton,tS] at b1
   rw[H9 ak,←List.append_assoc] at oQ
   refine⟨by omega,by rw[List.length_map];omega,_,_,_,_,Tm.aq ak,_,ih t.args[k] (by omega) (by omega) (Tm.iN n4 _ (List.getElem_mem ak)) _ (by simp only[List.length_append,List.length_singleton,tS];omega),fun r q ⟨e1,e2⟩=>⟨_,⟨e1,e2⟩,rfl,?_⟩⟩
   rw[aD (by omega),Qq]
   exact oQ
  ·have:t.args.length≤k:=by simpa using h
   rw[List.take_of_length_le this]
   have e:DF t.binds++[(104,t.kind)]++[(105,t.index)]++[(40,(t.args.length:Int))]++ju t.args=Ap t:=by cases t;simp[Ap,Tm.binds,Tm.kind,Tm.index,Tm.args]
   rw[e]
theorem mg {t:Tm} (hs:t.size<1000000) (h:t.kj):ag Tryz.prog 74 [dp t] (nS (ij t)):=
 OM ⟨_,Io 1000000 t hs (by omega) h [] (by simp;omega),fun r q ⟨e1,e2⟩=>⟨_,⟨e1,e2⟩,_,CI (s:=bQ (Ap t)),fun r q ⟨e1,e2⟩=>⟨_,_,⟨e1,e2⟩,rfl⟩⟩⟩
theorem C5:∀{l:List (ByteArray×Value)} {a:ByteArray} {v:Value},aC l a=some v→(a,v)∈l
 | [],a,v,h=>by cases h
 |(k,u)::r,a,v,h=>by
  rw[aC] at h
  split at h
  ·rename_i e;subst e;cases h;exact List.mem_cons_self
  ·exact List.mem_cons_of_mem _ (C5 h)
theorem C6:∀{l:List (ByteArray×Value)} {a:ByteArray} {v:Value} {p:ByteArray×Value},p∈bB l a v→p∈l∨p=(a,v)
 | [],a,v,p,h=>by rw[bB] at h;exact .inr (List.mem_singleton.1 h)
 |(k,u)::r,a,v,p,h=>by
  rw[bB] at h
  split at h
  ·rename_i e;subst e
   rcases List.mem_cons.1 h with h|h
   ·exact .inr h
   ·exact .inl (List.mem_cons_of_mem _ h)
  ·rcases List.mem_cons.1 h with h|h
   ·exact .inl (h▸List.mem_cons_self)
   ·exact(C6 h).imp (List.mem_cons_of_mem _) id
def gJ (C:Cx) (fe:List (ByteArray×Value)):Prop:=∀p∈fe,∃t:Tm,p.1=ij t∧p.2=.bool (jD C t)
theorem gJ.nil (C:Cx):gJ C []:=fun _ h=>by cases h
theorem gJ.get {C:Cx} {fe:List (ByteArray×Value)} {t:Tm} {v:Value} (h:gJ C fe) (hg:aC fe (ij t)=some v):v=.bool (jD C t):=by
 obtain⟨u,h1,h2⟩:=h _ (C5 hg)
 rw[H6 h1];exact h2
theorem gJ.put {C:Cx} {fe:List (ByteArray×Value)} {t:Tm} (h:gJ C fe):gJ C (bB fe (ij t) (.bool (jD C t))):=fun p hp=>by
 rcases C6 hp with hp|rfl
 ·exact h p hp
 ·exact⟨t,rfl,rfl⟩
theorem kf (b:Nat) {T:TypeId}:∀(vs:List Value) (o:Nat) (w:World) (cur:Array Value),w.heap[b]?=some (.cells cur T (0,0))→∃W2,(w.setCells b o vs).heap[b]?=some (.cells W2 T (0,0))∧W2.size=cur.size
 | [],o,w,cur,h=>⟨cur,h,rfl⟩
 |v::vs,o,w,cur,h=>by
  obtain⟨c2,h1,h2⟩:=kf b vs (o+1) _ _ (heap_setCell_same w b o cur T v h)
  exact⟨c2,h1,by rw[h2];simp⟩
theorem kg (g:Nat):∀(vs:List Value) (o:Nat) (w:World),(w.setCells g o vs).os=w.os∧(w.setCells g o vs).tape=w.tape∧(w.setCells g o vs).output=w.output∧(w.setCells g o vs).heap.size=w.heap.size∧∀k,k≠g→(w.setCells g o vs).heap[k]?=w.heap[k]?
 | [],o,w=>⟨rfl,rfl,rfl,rfl,fun _ _=>rfl⟩
 |v::vs,o,w=>by
  obtain⟨h1,h2,h3,h4,h5⟩:=kg g vs (o+1) (w.setCell ⟨g,o,none⟩ v)
  exact⟨h1,h2,h3,h4.trans (by simp),fun k hk=>(h5 k hk).trans (heap_setCell_other _ _ _ _ hk)⟩
theorem rN {w:World} {b k:Nat} {cur:Array Value} {T:TypeId} {fr:Nat×Nat} (h:w.heap[b]?=some (.cells cur T fr)):w.cell? ⟨b,k,none⟩=cur[k]?:=by simp only[World.cell?,h];rfl
def jU:List Value:=[.slice none 0 0,.int .i64 0,.int .i64 0,.slice none 0 0]
theorem Ip (w:World) (ty:TypeId) (b o c:Nat) (hc:∀j,j<4→(w.cell? ⟨b,o+j,none⟩).isSome=true) (hf:∀j,j<4→w.frozen? ⟨b,o+j,none⟩=false):
  (Builtin.clear_ #[44] ty #[.slice (some ⟨b,o,none⟩) 1 c]).run Tryz.prog w=.ok (.tuple #[]) (w.setCells b o jU):=by
 have pK:=run_storeCells_cells (P:=Tryz.prog) b o jU 0 w (by simpa [jU] using hc) (by simpa [jU] using hf) (by intro v hv;simp[jU] at hv;rcases hv with rfl|rfl|rfl|rfl<;>rfl)
 simp only[Nat.add_zero] at pK
 have hv:∀w,(zeroValue 46).run Tryz.prog w=.ok (.agg jU.toArray) w:=fun w=>(EB 46 _ rfl).fM w
 have XT:(Builtin.zeroCells (Value.agg jU.toArray).cells 1).toList=jU:=by kernel_rfl
 simp[Builtin.clear_,run_underlying Tryz.underlying44,hv,XT,pK]
set_option maxHeartbeats 4000000 in
set_option maxRecDepth 1000000 in
theorem MF (g n cap i:Nat) (cur:Array Value) (T:TypeId) (w:World) (hg:w.heap[g]?=some (.cells cur T (0,0))) (hn:n≤cap) (fq:cur.size=cap*4) (DG:cap≤9223372036854775807) (hi:i<n)
  (uf:∀u∈cur.toList.take (n*4),u.oneCell'=true):
  Calls Tryz.prog 136 #[.slice (some ⟨g,0,none⟩) n cap,.int .i64 i,.int .i64 (i+1:Nat)] w fun e w'=>e=.returned (.slice (some ⟨g,0,none⟩) (n-1) cap)∧
   ∃q,w'=((q.setCells g (i*4) ((cur.toList.take (n*4)).drop ((i+1)*4))).setCells g ((n-1)*4) jU)∧q=w.drew:=by
 obtain⟨i0,v8,JO,_⟩:=(EB 46 _ rfl).info
 obtain⟨news,ml⟩:∃news,news=(cur.toList.take (n*4)).drop ((i+1)*4):=⟨_,rfl⟩
 have hlen:news.length=(n-(i+1))*4:=by rw[ml];simp;omega
 have ay:∀k,k<cap*4→(w.drew.cell? ⟨g,k,none⟩)=cur[k]?:=fun k hk=>by
  show w.cell? _=_
  simp only[World.cell?,hg];rfl
 have Tl:∀k,w.drew.frozen? ⟨g,k,none⟩=false:=fun k=>by show w.frozen? _=_;simp[World.frozen?,hg]
 obtain⟨A,hA,aaA⟩:∃A:Addr,(if cap=i+1 then some (⟨g,0,none⟩:Addr) else some ⟨g,(i+1)*4,none⟩)=some A∧Hid (∀t u,news[t]?=some u→w.drew.cell? (A.add t)=some u):=by
  by_cases h:cap=i+1
  ·refine⟨⟨g,0,none⟩,by simp[h],fun t u hu=>?_⟩
   have h0:news.length=0:=by rw[hlen];omega
   rw[List.length_eq_zero_iff.1 h0] at hu
   simp at hu
  ·refine⟨⟨g,(i+1)*4,none⟩,by simp[h],fun t u hu=>?_⟩
   have ht:t<news.length:=(List.getElem?_eq_some_iff.1 hu).1
   rw[hlen] at ht
   rw[ml,List.getElem?_drop,List.getElem?_take] at hu
   split at hu
   ·rw[Addr.add_lit,ay _ (by omega),←hu];simp
   ·cases hu
 have s1:Hid (news.length=(n-(i+1))*4):=hlen
 have s2:Hid (∀u∈news,u.oneCell'=true):=by
  intro u hu
  rw[ml] at hu
  exact uf u (List.mem_of_mem_drop hu)
 have s3:Hid (∀t,t<news.length→(w.drew.cell? ⟨g,0+i*4+t,none⟩).isSome=true∧w.drew.frozen? ⟨g,0+i*4+t,none⟩=false):=by
  intro t ht
  rw[hlen] at ht
  refine⟨?_,Tl _⟩
  rw[ay _ (by omega),Array.getElem?_eq_getElem (by omega)];rfl
 obtain⟨W1,Hs⟩:∃W1,W1=w.drew.setCells g (0+i*4) news:=⟨_,rfl⟩
 have cS:∀ty,(Builtin.clear_ #[44] ty #[.slice (some ⟨g,(i+(n-(i+1)))*4,none⟩) (n-(i+(n-(i+1)))) (cap-(i+(n-(i+1))))]).run Tryz.prog W1=.ok (.tuple #[]) (W1.setCells g ((i+(n-(i+1)))*4) jU):=fun ty=>by
  rw[show n-(i+(n-(i+1)))=1 by omega]
  refine Ip W1 ty g _ _ (fun j hj=>?_) (fun j hj=>?_)
  ·rw[Hs]
   have h1:(w.drew.cell? ⟨g,(i+(n-(i+1)))*4+j,none⟩).isSome=true:=by rw[ay _ (by omega),Array.getElem?_eq_getElem (by omega)];rfl
   rw[World.cell?_setCells_out g news (0+i*4) w.drew _ (fun _ _=>.inr (by rw[hlen];show 0+i*4+(n-(i+1))*4≤(i+(n-(i+1)))*4+j;omega))]
   exact h1
  ·rw[Hs,World.frozen?_setCells];exact Tl _
 have hW:Hid (W1=w.drew.setCells g (0+i*4) news):=Hs
 have hic:i≤cap:=by omega
 have hjc:i+1≤cap:=by omega
 have hiz:(i:Int)+1≤(n:Int):=by omega
 have adj:0≤(i:Int)+1:=by omega
 clear Hs ay Tl hlen uf hg
 go_enter Tryz.func136,Tryz.ntmps136
 go_wp2
 go_region_law (refine step_append_room rfl (.tmp 22) (.tmp 25) 44 rfl 46 i0 4 Tryz.underlying44 v8 JO g 0 i cap (by simp[Act.eval,Act.put]) A (n-(i+1)) (cap-(i+1)) news (by simp[Act.eval,Act.put]) s1.out aaA.out s2.out (by omega) s3.out ?_;rw[←hW.out])
 go_wp2
 go_ret
 refine⟨by rw[show n-1=i+(n-(i+1)) by omega];rfl,w.drew,?_,rfl⟩
 rw[show i+(n-(i+1))=n-1 by omega,hW.out,ml,Nat.zero_add]
theorem zQ {els:List AV} {i:Nat} (hi:i<els.length):bp Tryz.prog 136 [.own 0 els.length,nI i,nI ((i+1:Nat):Int)] [.aI 46 4 els]
  (fun r q=>r=.own 1 (els.eraseIdx i).length∧q=[.dead,.aI 46 4 (els.eraseIdx i)]):=by
 refine⟨⟨_,Tryz.func136,by kernel_rfl,by kernel_rfl⟩,fun w F η aU aJ hv=>?_⟩
 match aU,hv with
 | [v0,v1,v2],⟨r0,r1,r2,_⟩=>
  obtain rfl:=eN r1
  obtain rfl:=eN r2
  obtain⟨v,rfl⟩:∃v,η=[v]:=by
   have:=aJ.heap.len
   match η,this with
   | [v],_=>exact⟨v,rfl⟩
  obtain rfl:v=v0:=by
   cases r0 with
   |own _ _ _ h1 h2=>exact Option.some.inj (h2.2 rfl)
  obtain⟨_,xs,bW,cy⟩:=aJ.heap.obj 0 _ _ rfl rfl
  obtain⟨Yx,bW⟩:=bW
  rcases bW with⟨h0,_⟩|⟨g,cap,cur,rfl,q7,⟨v8,hh,hg⟩,hn,hm,fq,ye⟩
  ·omega
  obtain rfl:v8=0:=by omega
  have MY:∀k,k<els.length*4→cur[k]?=xs[k]?:=fun k hk=>by
   rw[←ye,List.getElem?_take,if_pos hk,Array.getElem?_toList]
  have uf:∀u∈cur.toList.take (els.length*4),u.oneCell'=true:=by
   intro u hu
   rw[ye] at hu
   obtain⟨k,hk⟩:=List.getElem?_of_mem hu
   have yf:k<els.length*4:=by rw[←Yx];exact(List.getElem?_eq_some_iff.1 hk).1
   have ha:k / 4<els.length:=by omega
   obtain⟨hc,ay⟩:=cy (k / 4) _ (List.getElem?_eq_getElem ha)
   have hj:k % 4<els[k / 4].cells.length:=by rw[hc];omega
   obtain⟨u2,h1,_,h3⟩:=ay (k % 4) _ (List.getElem?_eq_getElem hj)
   rw[show k / 4*4+k % 4=k by omega,hk] at h1
   rw[Option.some.inj h1];exact h3
  refine callsIn_wide.2 ((MF g els.length cap i cur _ w hg hn fq (by simp only[maxLen] at hm;omega) hi uf).mono ?_)
  rintro e w' ⟨rfl,_,rfl,rfl⟩
  obtain⟨c1,k1,k2⟩:=kf g ((cur.toList.take (els.length*4)).drop ((i+1)*4)) (i*4) w.drew cur hg
  obtain⟨c2,k3,k4⟩:=kf g jU ((els.length-1)*4) _ c1 k1
  have QV:((cur.toList.take (els.length*4)).drop ((i+1)*4)).length=(els.length-(i+1))*4:=by simp;omega
  have hle:(els.eraseIdx i).length=els.length-1:=by rw[List.length_eraseIdx,if_pos hi]
  have hgs:g<w.heap.size:=ba hg
  obtain⟨q1,q2,q3,q4,q5⟩:=kg g ((cur.toList.take (els.length*4)).drop ((i+1)*4)) (i*4) w.drew
  obtain⟨p1,p2,p3,p4,p5⟩:=kg g jU ((els.length-1)*4) (w.drew.setCells g (i*4) ((cur.toList.take (els.length*4)).drop ((i+1)*4)))
  have hd:w.drew.heap[g]?=some (.cells cur 46 (0,0)):=hg
  generalize Hs:w.drew.setCells g (i*4) ((cur.toList.take (els.length*4)).drop ((i+1)*4))=W1 at *
  have kJ:∀k,¬k<i*4→k<(els.length-1)*4→W1.cell? ⟨g,k,none⟩=xs[k+4]?:=fun k DB hk=>by
   have kJ:=World.cell?_setCells_in g ((cur.toList.take (els.length*4)).drop ((i+1)*4)) (i*4) w.drew (fun j hj=>by
    rw[QV] at hj
    rw[rN hd,Array.getElem?_eq_getElem (by omega)];rfl) (k-i*4) (by rw[QV];omega)
   rw[show i*4+(k-i*4)=k by omega,Hs] at kJ
   rw[kJ,←List.getElem?_eq_getElem,List.getElem?_drop,ye]
   congr 1
   omega
  have ay:∀k,k<(els.length-1)*4→c2[k]?=if k<i*4 then xs[k]? else xs[k+4]?:=fun k hk=>by
   rw[←rN k3,World.cell?_setCells_out g jU _ _ _ (fun _ _=>.inl hk)]
   by_cases DB:k<i*4
   ·rw[←Hs,World.cell?_setCells_out g _ _ _ _ (fun _ _=>.inl DB),if_pos DB,←MY k (by omega),rN hd]
   ·rw[if_neg DB];exact kJ k DB hk
  generalize hW:W1.setCells g ((els.length-1)*4) jU=W at *
  have gP:∀k,k≠g→W.heap[k]?=w.heap[k]?:=fun k hk=>(p5 k hk).trans (q5 k hk)
  have bC:W.heap.size=w.heap.size:=p4.trans q4
  have Hy:∀o,¬F g o:=fun o hf=>by
   have:=(aJ.bb g o hf).2 0 _ rfl (bd q7)
   exact this
  have dw:aE [Value.slice (some ⟨g,0,none⟩) els.length cap] [af.aI 46 4 els] g:=⟨0,_,_,rfl,True.intro,rfl,bd q7⟩
  have dT:∀b o,F b o→bG F w [Value.slice (some ⟨g,0,none⟩) els.length cap] [af.aI 46 4 els] W [.slice (some ⟨g,0,none⟩) els.length cap,.slice (some ⟨g,0,none⟩) (els.length-1) cap] [.dead,.aI 46 4 (els.eraseIdx i)] b o:=fun b o hf=>by
   refine⟨.inl hf,by rw[bC];exact(aJ.bb b o hf).1,fun r v h1 h2=>?_⟩
   match r,h1 with
   |0,_=>exact True.intro
   |1,h1=>
    cases h1
    rw[bd q7] at h2
    obtain rfl:=Option.some.inj h2
    exact absurd hf (Hy o)
  have bZ:Ext w F [Value.slice (some ⟨g,0,none⟩) els.length cap] [af.aI 46 4 els] W (bG F w [Value.slice (some ⟨g,0,none⟩) els.length cap] [af.aI 46 4 els] W [.slice (some ⟨g,0,none⟩) els.length cap,.slice (some ⟨g,0,none⟩) (els.length-1) cap] [.dead,.aI 46 4 (els.eraseIdx i)]) [.slice (some ⟨g,0,none⟩) els.length cap,.slice (some ⟨g,0,none⟩) (els.length-1) cap] [.dead,.aI 46 4 (els.eraseIdx i)]:=by
   refine⟨fun b o v hf hc=>?_,fun b es c hf hc=>?_,dT,fun r a h=>?_,fun r a h=>?_,fun r n u h=>?_⟩
   ·have bh:b≠g:=fun e=>Hy o (e▸hf)
    simp only[World.cell?] at hc ⊢
    rw[gP b bh];exact hc
   ·have bh:b≠g:=fun e=>Hy 0 (e▸hf)
    rw[gP b bh];exact hc
   ·match r,h with
    |0,h=>cases h
   ·match r,h with
    |0,h=>cases h
   ·match r,h with
    |0,_=>exact True.intro
  refine⟨_,_,_,[.slice (some ⟨g,0,none⟩) els.length cap,.slice (some ⟨g,0,none⟩) (els.length-1) cap],rfl,⟨rfl,rfl⟩,⟨p1.trans q1,p2.trans q2,p3.trans q3,by rw[bC];exact Nat.le_refl _,fun k _ hx=>gP k fun e=>hx (e▸dw)⟩,bZ,⟨rfl,fun r o v h1 h2=>?_,fun r r' o o' v v' b bh h1 h2 l1 l2 e1 e2 hb=>?_⟩,fun b ⟨r,o,v,h1,h2,h3,h4⟩=>?_,.own _ _ _ rfl ?_⟩
  ·match r,h1,h2 with
   |0,h1,_=>cases h1;exact True.intro
   |1,h1,h2=>
    cases h1;cases h2
    refine⟨by omega,c2.toList.take ((els.length-1)*4),⟨by have e:=Array.length_toList (xs:=c2);rw[hle,List.length_take];omega,.inr ⟨g,cap,c2,by rw[hle],q7,⟨0,Nat.le_refl _,k3⟩,by omega,hm,by omega,by rw[hle]⟩⟩,fun a el ha=>?_⟩
    rw[List.getElem?_eraseIdx] at ha
    have hal:a<els.length-1:=by
     split at ha
     ·omega
     ·have:=(List.getElem?_eq_some_iff.1 ha).1;omega
    have get:∀j,j<4→(c2.toList.take ((els.length-1)*4))[a*4+j]?=if a<i then xs[a*4+j]? else xs[(a+1)*4+j]?:=fun j hj=>by
     rw[List.getElem?_take,if_pos (by omega),Array.getElem?_toList,ay _ (by omega)]
     by_cases h:a<i
     ·rw[if_pos h,if_pos (by omega)]
     ·rw[if_neg h,if_neg (by omega)]
      congr 1;omega
    by_cases h:a<i
    ·rw[if_pos h] at ha
     obtain⟨hc,hx⟩:=cy a el ha
     refine⟨hc,fun j x hj=>?_⟩
     obtain⟨u,z1,z2,z3⟩:=hx j x hj
     have hj4:j<4:=by rw[←hc];exact(List.getElem?_eq_some_iff.1 hj).1
     exact⟨u,by rw[get j hj4,if_pos h];exact z1,z2.ext bZ.ko.ext,z3⟩
    ·rw[if_neg h] at ha
     obtain⟨hc,hx⟩:=cy (a+1) el ha
     refine⟨hc,fun j x hj=>?_⟩
     obtain⟨u,z1,z2,z3⟩:=hx j x hj
     have hj4:j<4:=by rw[←hc];exact(List.getElem?_eq_some_iff.1 hj).1
     exact⟨u,by rw[get j hj4,if_neg h];exact z1,z2.ext bZ.ko.ext,z3⟩
  ·match r,r',h1,h2 with
   |0,_,h1,_=>cases h1;exact l1.elim
   |1,0,_,h2=>cases h2;exact l2.elim
   |1,1,_,_=>exact(bh rfl).elim
  ·match r,h1,h3 with
   |0,h1,_=>cases h1;exact h2.elim
   |1,_,h3=>
    cases h3
    rw[bd q7] at h4
    obtain rfl:=Option.some.inj h4
    exact .inr dw
  ·unfold aT
   simp[hle]
abbrev Xy (t:Tm):af:=.box [.sl (t.binds.map Ty.enc),nI t.kind,nI t.index,.sl (t.args.map Tm.enc)]
theorem Iq {x t:Tm} (hx:x.size≤1000000):bp Tryz.prog 135 [dp x,.ptr 0 0] [Xy t] (fun r q=>r=nB (Tm.same x t)∧q=[Xy t]):=
 Lv ⟨_,rL 1000000 x t hx (by omega),rfl,rfl⟩
theorem C7 {l:List Tm} {t:Tm} (hl:bH l):bp Tryz.prog 134 [.own 0 (l.map Tm.enc).length,.aK 135 [.ptr 1 0]] [.aI 46 4 (l.map Tm.enc),Xy t] (fun r q=>r=nI (rM t l 0)∧q=[.aI 46 4 (l.map Tm.enc),Xy t]):=by
 obtain⟨As,oH⟩:=hl
 refine Cb ⟨rfl,rfl,ax.intro (fun k:Nat=>(((),((),()),(l.length:Int),(k:Int),()),(l.map Tm.enc,(t.binds.map Ty.enc,t.kind,t.index,t.args.map Tm.enc,()),()))) (fun k=>k≤l.length∧rM t l 0=rM t (l.drop k) k) (fun k=>l.length-k) 0 (by rw[List.length_map];rfl) ⟨Nat.zero_le _,rfl⟩ ?_⟩
 intro k ⟨hk,hs⟩ again bJ
 dsimp only
 refine ai.intro (fun h=>?_) fun h=>?_
 ·have ak:k<l.length:=by simpa using h
  rw[List.drop_eq_getElem_cons ak,rM] at hs
  refine⟨⟨by omega,by rw[List.length_map];omega,rfl⟩,rfl,by rw[List.length_map];omega,_,_,_,_,Tm.aq ak,_,Iq (oH _ (List.getElem_mem ak)),fun r q ⟨e1,e2⟩=>⟨_,_,_,_,_,⟨e1,e2⟩,ai.intro (fun h=>?_) fun h=>⟨rfl,?_⟩⟩⟩
  ·rw[hs,if_pos h];exact⟨rfl,rfl⟩
  ·rw[if_neg (by simp[h])] at hs
   rw[aD (by omega)]
   exact bJ (k+1) ⟨by omega,hs⟩ (by omega)
 ·have:l.length≤k:=by simpa using h
  rw[List.drop_eq_nil_of_le this] at hs
  rw[hs];exact⟨rfl,rfl⟩
theorem C8 {l:List Tm} (h:l.length≤1000000000):IQ Tryz.prog 133 [.sl (l.map Tm.enc)] 46 4 (l.map Tm.enc):=by
 refine wv fun b hb=>ai.intro (fun h1=>?_) fun h1=>?_
 ·subst h1
  refine⟨Classical.byContradiction fun bh=>?_,by decide⟩
  have:=hb bh
  cases this
 ·exact⟨dv Tm.eo (by simp;omega) (by decide),rfl,rfl,by simp,by simp⟩
def lq:List Tm→List Tm→List Tm
 | [],l=>l
 |t::a,l=>if t∈l then lq a (l.erase t) else lq a l
theorem Ir (a l:List Tm) (t:Tm):lq (a++[t]) l=if t∈lq a l then(lq a l).erase t else lq a l:=by
 induction a generalizing l with
 |nil=>rfl
 |cons x a ih=>
  rw[List.cons_append,lq,lq]
  split<;>exact ih _
theorem Fb (a l:List Tm) (t:Tm):cJ (a++[t]) l=cJ a l++if t∈lq a l then[] else[t]:=by
 induction a generalizing l with
 |nil=>
  rw[List.nil_append,cJ,cJ,lq,cJ,List.nil_append]
  by_cases h:t∈l
  ·rw[if_pos h,if_pos h]
  ·rw[if_neg h,if_neg h,cJ]
 |cons x a ih=>
  rw[List.cons_append,cJ,cJ,lq]
  split
  ·exact ih _
  ·rw[ih,List.cons_append]
theorem MG {a l:List Tm} {x:Tm} (h:x∈lq a l):x∈l:=by
 induction a generalizing l with
 |nil=>exact h
 |cons y a ih=>
  rw[lq] at h
  split at h
  ·exact List.mem_of_mem_erase (ih h)
  ·exact ih h
theorem MH (a l:List Tm):(lq a l).length≤l.length:=by
 induction a generalizing l with
 |nil=>exact Nat.le_refl _
 |cons y a ih=>
  rw[lq]
  split
  ·exact Nat.le_trans (ih _) List.length_erase_le
  ·exact ih _
theorem bH.cut {l:List Tm} (h:bH l) (a:List Tm):bH (lq a l):=⟨Nat.le_trans (MH a l) h.1,fun x hx=>h.2 x (MG hx)⟩
theorem bH.less {a:List Tm} (h:bH a) (l:List Tm):bH (cJ a l):=⟨Nat.le_trans (rJ a l) h.1,fun x hx=>h.2 x (og hx)⟩
theorem map_eraseIdx {α β:Type} (f:α→β):∀(l:List α) (i:Nat),(l.map f).eraseIdx i=(l.eraseIdx i).map f
 | [],_=>rfl
 |_::_,0=>rfl
 |x::l,i+1=>by simp[map_eraseIdx f l i]
theorem vD {a l:List Tm} (ha:bH a) (hl:bH l):ag Tryz.prog 83 [.sl (a.map Tm.enc),.sl (l.map Tm.enc)] (.sl ((cJ a l).map Tm.enc)):=by
 refine Pr ⟨_,C8 (by have:=hl.1;omega),rfl,rfl,?_⟩
 refine ax.intro (fun k:Nat=>(((),(),a.map Tm.enc,(a.length:Int),(k:Int),()),((lq (a.take k) l).map Tm.enc,(cJ (a.take k) l).map Tm.enc,()))) (fun k=>k≤a.length) (fun k=>a.length-k) 0 (by rw[List.length_map];rfl) (Nat.zero_le _) ?_
 intro k hk again bJ
 dsimp only
 refine ai.intro (fun h=>?_) fun h=>⟨rfl,?_⟩
 ·have ak:k<a.length:=by simpa using h
  have e1:a.take (k+1)=a.take k++[a[k]]:=List.take_succ_eq_append_getElem ak
  have hc:=hl.cut (a.take k)
  have ho:=(bH.less (a:=a.take k) ⟨by rw[List.length_take];have:=ha.1;omega,fun x hx=>ha.2 x (List.mem_of_mem_take hx)⟩ l).1
  have Am:=ha.1
  have oQ:=bJ (k+1) (by omega) (by omega)
  rw[e1,Ir,Fb] at oQ
  refine⟨by omega,by rw[List.length_map];omega,_,_,_,_,Tm.aq ak,_,C7 hc,fun r q ⟨r1,r2⟩=>⟨_,_,_,_,_,_,⟨r1,r2⟩,ai.intro (fun h=>?_) fun h=>?_⟩⟩
  ·have hn:a[k]∉lq (a.take k) l:=by
    rcases oh a[k] (lq (a.take k) l) 0 with⟨_,h2⟩|⟨j,h1,_⟩
    ·exact h2
    ·rw[h1] at h
     have:((0+j:Nat):Int)<0:=by simpa using h
     omega
   have e2:(cJ (a.take k) l).map Tm.enc++[dp a[k]]=((cJ (a.take k) l)++[a[k]]).map Tm.enc:=by rw[List.map_append,cV];rfl
   refine⟨rfl,cQ rfl (by rw[e2,List.length_map,List.length_append,List.length_singleton];omega) (by decide),rfl,rfl,?_⟩
   rw[if_neg hn,if_neg hn] at oQ
   rw[aD (by omega),e2]
   exact oQ
  ·rcases oh a[k] (lq (a.take k) l) 0 with⟨h1,h2⟩|⟨j,h1,h2,h3,h4⟩
   ·rw[h1] at h;simp at h
   ·rw[if_pos h4,if_pos h4,List.append_nil] at oQ
    have hj:=hc.1
    rw[h1,Nat.zero_add,aD (by omega)]
    refine⟨_,zQ (by rw[List.length_map];exact h2),fun r q ⟨r1,r2⟩=>⟨_,⟨r1,r2⟩,rfl,rfl,?_⟩⟩
    rw[aD (by omega),map_eraseIdx,h3]
    exact oQ
 ·have:a.length≤k:=by simpa using h
  rw[List.take_of_length_le this]
def jE (p:Tm→Bool):List Tm→Nat→Int
 | [],_ => -1
 |x::l,k=>if p x=true then k else jE p l (k+1)
theorem qK (p:Tm→Bool):∀(l:List Tm) (k:Nat),decide (jE p l k≥0)=l.any p
 | [],k=>rfl
 |x::l,k=>by
  rw[jE,List.any_cons]
  cases h:p x with
  |true=>rw[if_pos rfl,Bool.true_or];exact decide_eq_true (by omega)
  |false=>rw[if_neg (by decide),Bool.false_or];exact qK p l (k+1)
theorem Is {x t:Tm} (hx:x.size≤1000000):ag Tryz.prog 86 [dp x,.aL (dp t) 0] (nB (im x t)):=
 O1 ⟨_,mf hx,rfl⟩
theorem C9 {l:List Tm} {t:Tm} (hl:bH l):ag Tryz.prog 134 [.sl (l.map Tm.enc),.aK 86 [.aL (dp t) 0]] (nI (jE (fun x=>im x t) l 0)):=by
 obtain⟨As,oH⟩:=hl
 refine Ce ⟨rfl,ax.intro (fun k:Nat=>((l.map Tm.enc,((),()),(l.length:Int),(k:Int),()),())) (fun k=>k≤l.length∧jE (fun x=>im x t) l 0=jE (fun x=>im x t) (l.drop k) k) (fun k=>l.length-k) 0 (by rw[List.length_map];rfl) ⟨Nat.zero_le _,rfl⟩ ?_⟩
 intro k ⟨hk,hs⟩ again bJ
 dsimp only
 refine ai.intro (fun h=>?_) fun h=>?_
 ·have ak:k<l.length:=by simpa using h
  rw[List.drop_eq_getElem_cons ak,jE] at hs
  refine⟨by omega,by rw[List.length_map];omega,_,_,_,_,Tm.aq ak,_,Is (oH _ (List.getElem_mem ak)),ai.intro (fun h=>?_) fun h=>⟨rfl,?_⟩⟩
  ·rw[hs,if_pos h]
  ·rw[if_neg (by simp[h])] at hs
   rw[aD (by omega)]
   exact bJ (k+1) ⟨by omega,hs⟩ (by omega)
 ·have:l.length≤k:=by simpa using h
  rw[List.drop_eq_nil_of_le this] at hs
  rw[hs];rfl
theorem Da {l:List Tm} {t:Tm} (hl:bH l):ag Tryz.prog 85 [.sl (l.map Tm.enc),.aK 86 [.aL (dp t) 0]] (nB (l.any fun x=>im x t)):=
 Cf ⟨_,C9 hl,by rw[qK]⟩
def vE (l:List Tm) (y:Tm):Bool:=!(l.any fun x=>im x y)
theorem MI {l:List Tm} {t:Tm} (hl:bH l):bp Tryz.prog 84 [dp t,.ptr 0 0] [.box [.sl (l.map Tm.enc)]] (fun r q=>r=nB (l.any fun x=>im x t)∧q=[.box [.sl (l.map Tm.enc)]]):=
 O2 ⟨_,Da hl,rfl,rfl⟩
theorem It {l:List Tm} {t:Tm} (hl:bH l):bp Tryz.prog 87 [dp t,.ptr 1 0] (yJ (l.map Tm.enc)) (fun r q=>r=nB (vE l t)∧q=yJ (l.map Tm.enc)):=
 O3 ⟨_,MI hl,fun r q ⟨e1,e2⟩=>⟨_,_,⟨e1,e2⟩,rfl,rfl⟩⟩
theorem Db {l m:List Tm} (hl:bH l) (hm:m.length≤1000000000):bp Tryz.prog 134 [.sl (m.map Tm.enc),.aK 87 [.ptr 1 0]] (yJ (l.map Tm.enc)) (fun r q=>r=nI (jE (vE l) m 0)∧q=yJ (l.map Tm.enc)):=by
 refine Ci (ax.intro (fun k:Nat=>((m.map Tm.enc,((),()),(m.length:Int),(k:Int),()),((l.map Tm.enc,()),((),()),()))) (fun k=>k≤m.length∧jE (vE l) m 0=jE (vE l) (m.drop k) k) (fun k=>m.length-k) 0 (by rw[List.length_map];rfl) ⟨Nat.zero_le _,rfl⟩ ?_)
 intro k ⟨hk,hs⟩ again bJ
 dsimp only
 refine ai.intro (fun h=>?_) fun h=>?_
 ·have ak:k<m.length:=by simpa using h
  rw[List.drop_eq_getElem_cons ak,jE] at hs
  refine⟨by omega,by rw[List.length_map];omega,_,_,_,_,Tm.aq ak,_,It hl,fun r q ⟨e1,e2⟩=>⟨_,_,⟨e1,e2⟩,ai.intro (fun h=>?_) fun h=>?_⟩⟩
  ·rw[hs,if_pos h];exact⟨rfl,rfl⟩
  ·rw[if_neg (by simp[h])] at hs
   rw[aD (by omega)]
   exact bJ (k+1) ⟨by omega,hs⟩ (by omega)
 ·have:m.length≤k:=by simpa using h
  rw[List.drop_eq_nil_of_le this] at hs
  rw[hs];exact⟨rfl,rfl⟩
theorem Dc {l m:List Tm} (hl:bH l) (hm:m.length≤1000000000):bp Tryz.prog 85 [.sl (m.map Tm.enc),.aK 87 [.ptr 1 0]] (yJ (l.map Tm.enc)) (fun r q=>r=nB (m.any (vE l))∧q=yJ (l.map Tm.enc)):=
 Cj ⟨_,Db hl hm,fun r q ⟨e1,e2⟩=>⟨_,_,⟨e1,e2⟩,by rw[qK],rfl⟩⟩
theorem MJ (l m:List Tm):(!m.any (vE l))=m.all fun y=>l.any fun x=>im x y:=by
 induction m with
 |nil=>rfl
 |cons y m ih=>rw[List.any_cons,List.all_cons,Bool.not_or,ih,vE,Bool.not_not]
theorem Iu {a b:List Tm} (ha:bH a) (hb:bH b):ag Tryz.prog 49 [.sl (a.map Tm.enc),.sl (b.map Tm.enc)] (nB (Ik a b)):=by
 refine O4 ⟨_,vD ha hb,_,vD hb ha,ai.intro (fun h=>?_) fun h=>?_⟩
 ·have bh:(cJ a b).isEmpty=false:=by
   cases he:cJ a b with
   |nil=>rw[he] at h;simp at h
   |cons=>rfl
  refine⟨_,Dc (ha.less b) (by have:=(hb.less a).1;omega),fun r q ⟨e1,e2⟩=>⟨_,_,⟨e1,e2⟩,?_⟩⟩
  rw[MJ,Ik,bh];rfl
 ·have bh:(cJ a b).isEmpty=true:=by
   cases he:cJ a b with
   |nil=>rfl
   |cons=>rw[he] at h;simp at h
  rw[Ik,bh];rfl
theorem vF {k:Int} {a b:List Tm} (ha:bH a) (hb:bH b):ag Tryz.prog 18 [nI k,.sl (a.map Tm.enc),.sl (b.map Tm.enc)] (nB (qJ k a b)):=by
 refine O5 (ai.intro (fun h=>?_) fun h=>?_)
 ·rw[qJ,if_neg (by intro e;rw[List.length_map,List.length_map,e] at h;simp at h)]
 ·have hl:a.length=b.length:=by
   have h2:(a.length:Int)=(b.length:Int):=by simpa [bne] using h
   omega
  rw[qJ,if_pos hl]
  refine ai.intro (fun h=>⟨_,Iu ha hb,?_⟩) fun h=>⟨_,Im ha hl,?_⟩
  ·rw[if_pos (by simpa using h)]
  ·rw[if_neg (by simpa using h)]
theorem rO {l:List Tm} {k:Nat} (h:k<l.length):ew (l.take (k+1))=ew (l.take k)++l[k].inner:=by
 rw[ew,ew,List.take_succ_eq_append_getElem h,List.flatMap_append,List.flatMap_cons,List.flatMap_nil,List.append_nil]
abbrev qL (l r:Tm) (ms:List Ty):AV:=.agg [.sl (l.binds.map Ty.enc),nI l.kind,nI l.index,.sl (l.args.map Tm.enc),.sl (r.binds.map Ty.enc),nI r.kind,nI r.index,.sl (r.args.map Tm.enc),.sl (ms.map Ty.enc)]
theorem Dd {l:List Tm} {k:Nat} (h:k<l.length) (hs:Tm.sizes l≤1000000):l[k].size≤1000000∧(ew (l.take k)).length+l[k].inner.length≤1000000:=by
 have h1:=Tm.bg (List.getElem_mem h)
 have h2:=qI (l.take (k+1))
 have h3:=Tm.mc l (k+1)
 rw[rO h,List.length_append] at h2
 omega
theorem qM {l r:Tm} {ms:List Ty} (h:Tm.sizes l.args≤1000000):ag Tryz.prog 38 [qL l r ms] (.sl ((ew l.args).map Tm.enc)):=by
 have hlen:=Tm.aF l.args
 refine OU ⟨rfl,ax.intro (fun k:Nat=>(((),l.args.map Tm.enc,(l.args.length:Int),(k:Int),()),((l.binds.map Ty.enc,l.kind,l.index,l.args.map Tm.enc,r.binds.map Ty.enc,r.kind,r.index,r.args.map Tm.enc,ms.map Ty.enc,()),(ew (l.args.take k)).map Tm.enc,()))) (fun k=>k≤l.args.length) (fun k=>l.args.length-k) 0 (by rw[List.length_map];rfl) (Nat.zero_le _) ?_⟩
 intro k hk again bJ
 dsimp only
 refine ai.intro (fun h1=>?_) fun h1=>⟨rfl,?_⟩
 ·have ak:k<l.args.length:=by simpa using h1
  obtain⟨s1,s2⟩:=Dd ak h
  refine⟨by omega,by rw[List.length_map];omega,_,_,_,_,Tm.aq ak,_,sF 1000000 _ s1 (by omega),rfl,dv Tm.eo (by rw[List.length_append,List.length_map,List.length_map];omega) (by decide),rfl,?_⟩
  rw[aD (by omega),←List.map_append,←rO ak]
  exact bJ (k+1) (by omega) (by omega)
 ·have:l.args.length≤k:=by simpa using h1
  rw[List.take_of_length_le this]
theorem qN:∀(n:Nat) (t:Tm),t.size≤n→n≤1000000→ag Tryz.prog 48 [dp t] (.sl (t.inner.map Tm.enc)):=by
 intro n
 induction n with
 |zero=>intro t h;have:=t.size_pos;omega
 |succ n ih=>
  intro t h hn
  have tR:=t.size_eq
  have hlen:=Tm.aF t.args
  have one:([dp t]:List AV)=[t].map Tm.enc:=by rw[cV];rfl
  have stop:(t.binds.isEmpty&&(t.kind==1))=false→t.inner=[t]:=fun e=>by rw[Tm.lp,e];rfl
  have bi:(((List.length (t.binds.map Ty.enc):Nat):Int)==0)=t.binds.isEmpty:=by
   rw[List.length_map]
   cases t.binds with
   |nil=>rfl
   |cons x l=>simp;omega
  refine O9 ⟨rfl,ax.intro (fun k:Nat=>(((),(),(k:Int),()),((t.binds.map Ty.enc,t.kind,t.index,t.args.map Tm.enc,()),(t::Tm.dn (t.args.take k)).map Tm.enc,()))) (fun k=>k≤t.args.length∧(k=0∨(t.binds.isEmpty&&(t.kind==1))=true)) (fun k=>t.args.length-k) 0 (by rw[one];rfl) ⟨Nat.zero_le _,.inl rfl⟩ ?_⟩
  intro k ⟨yf,ao⟩ again bJ
  dsimp only
  have out:(t.binds.isEmpty&&(t.kind==1))=false→AV.sl ((t::Tm.dn (t.args.take k)).map Tm.enc)=.sl (t.inner.map Tm.enc):=fun e=>by
   rcases ao with rfl|h
   ·rw[stop e];rfl
   ·rw[e] at h;cases h
  refine ai.intro (fun h1=>ai.intro (fun h2=>ai.intro (fun h3=>?_) fun h3=>⟨rfl,out (by rw[h3,Bool.and_false])⟩) fun h2=>⟨rfl,out (by rw[←bi,h2];rfl)⟩) fun h1=>⟨rfl,?_⟩
  ·have ak:k<t.args.length:=by
    rw[List.length_map] at h1
    simpa using h1
   have hc:(t.binds.isEmpty&&(t.kind==1))=true:=by rw[←bi,h2,h3];rfl
   have P9:=Tm.sE ak
   have b2:(k:Int)<((List.length (t.args.map Tm.enc):Nat):Int):=by rw[List.length_map];omega
   refine⟨by omega,b2,_,_,_,_,Tm.aq ak,ai.intro (fun h4=>?_) fun h4=>⟨rfl,?_⟩⟩
   ·have M4:t.args[k].binds.isEmpty=true:=by
     rw[List.length_map] at h4
     cases hb:t.args[k].binds with
     |nil=>rfl
     |cons x l=>rw[hb] at h4;simp at h4;omega
    rw[M4,if_pos rfl] at P9
    have hs:=Tm.bg (List.getElem_mem ak)
    have i1:=Tm.l9 (t.args.take (k+1))
    have i2:=Tm.mc t.args (k+1)
    rw[P9,List.length_append] at i1
    refine⟨by omega,b2,_,_,_,_,Tm.aq ak,_,ih t.args[k] (by omega) (by omega),rfl,dv Tm.eo (by rw[List.length_append,List.length_map,List.length_map,List.length_cons];omega) (by decide),rfl,?_⟩
    rw[aD (by omega),←List.map_append,List.cons_append,←P9]
    exact bJ (k+1) ⟨by omega,.inr hc⟩ (by omega)
   ·have M4:t.args[k].binds.isEmpty=false:=by
     rw[List.length_map] at h4
     cases hb:t.args[k].binds with
     |nil=>rw[hb] at h4;simp at h4
     |cons x l=>rfl
    rw[M4,if_neg (by decide),List.append_nil] at P9
    rw[aD (by omega),←P9]
    exact bJ (k+1) ⟨by omega,.inr hc⟩ (by omega)
  ·have:t.args.length≤k:=by
    rw[List.length_map] at h1
    simpa using h1
   by_cases hc:(t.binds.isEmpty&&(t.kind==1))=true
   ·rw[List.take_of_length_le this,Tm.lp,if_pos hc]
   ·exact out (by simpa using hc)
theorem wG {l r:Tm} {ms:List Ty} (h:Tm.sizes l.args≤1000000):ag Tryz.prog 17 [qL l r ms] (.sl ((ew l.args).map Tm.enc)):=by
 have hlen:=Tm.aF l.args
 refine Pd ⟨rfl,ax.intro (fun k:Nat=>(((),(),(k:Int),()),((l.binds.map Ty.enc,l.kind,l.index,l.args.map Tm.enc,r.binds.map Ty.enc,r.kind,r.index,r.args.map Tm.enc,ms.map Ty.enc,()),(ew (l.args.take k)).map Tm.enc,()))) (fun k=>k≤l.args.length) (fun k=>l.args.length-k) 0 rfl (Nat.zero_le _) ?_⟩
 intro k hk again bJ
 dsimp only
 refine ai.intro (fun h1=>?_) fun h1=>⟨rfl,?_⟩
 ·have ak:k<l.args.length:=by rw[List.length_map] at h1;simpa using h1
  obtain⟨s1,s2⟩:=Dd ak h
  refine⟨by omega,by rw[List.length_map];omega,_,_,_,_,Tm.aq ak,_,qN 1000000 _ s1 (by omega),rfl,dv Tm.eo (by rw[List.length_append,List.length_map,List.length_map];omega) (by decide),rfl,?_⟩
  rw[aD (by omega),←List.map_append,←rO ak]
  exact bJ (k+1) (by omega) (by omega)
 ·have:l.args.length≤k:=by rw[List.length_map] at h1;simpa using h1
  rw[List.take_of_length_le this]
theorem Fc {l:List Tm} {k:Nat} (h:k<l.length) (t:Tm):(l.take (k+1)).count t=(l.take k).count t+if Tm.same l[k] t then 1 else 0:=by
 rw[List.take_succ_eq_append_getElem h,List.count_append,List.count_singleton,Tm.Mz]
 by_cases e:l[k]=t
 ·simp[e]
 ·simp[e]
theorem ep {l:List Tm} {t:Tm} (hl:bH l):ag Tryz.prog 41 [.sl (l.map Tm.enc),dp t] (nI (l.count t)):=by
 obtain⟨As,oH⟩:=hl
 refine Pg (ax.intro (fun k:Nat=>((l.map Tm.enc,(),(((l.take k).count t:Nat):Int),(k:Int),()),((t.binds.map Ty.enc,t.kind,t.index,t.args.map Tm.enc,()),()))) (fun k=>k≤l.length) (fun k=>l.length-k) 0 rfl (Nat.zero_le _) ?_)
 intro k hk again bJ
 dsimp only
 refine ai.intro (fun h1=>?_) fun h1=>?_
 ·have ak:k<l.length:=by rw[List.length_map] at h1;simpa using h1
  have hc:=Fc ak t
  have hle:(l.take k).count t≤(l.take k).length:=List.count_le_length
  have oQ:=bJ (k+1) (by omega) (by omega)
  rw[hc] at oQ
  rw[List.length_take] at hle
  have sm:=ss 1000000 l[k] t (oH _ (List.getElem_mem ak)) (by omega)
  rw[←cV,←cV] at sm
  refine⟨by omega,by rw[List.length_map];omega,_,_,_,_,Tm.aq ak,_,sm,ai.intro (fun h=>?_) fun h=>?_⟩
  ·rw[if_pos h] at oQ
   rw[aD (by omega),aD (by omega)]
   exact oQ
  ·rw[if_neg (by simp[h])] at oQ
   rw[aD (by omega)]
   exact oQ
 ·have:l.length≤k:=by rw[List.length_map] at h1;simpa using h1
  rw[List.take_of_length_le this]
theorem sH {a b:Tm} (ha:a.size≤1000000):ag Tryz.prog 21 [dp a,dp b] (nB (im a b)):=by
 have hs:=sG ha
 refine Ph ⟨_,qN 1000000 a ha (by omega),⟨by omega,?_,by omega,Tm.eo⟩,?_⟩
 ·rw[List.length_map,Tm.lp,List.length_cons];omega
 ·have e:List.drop (Int.toNat 1) (List.take (Int.toNat ((List.length (a.inner.map Tm.enc):Nat):Int)) (a.inner.map Tm.enc))=(a.inner.drop 1).map Tm.enc:=by
   rw[Int.toNat_natCast,List.take_length,List.map_drop];rfl
  rw[e]
  refine⟨_,ep ⟨by rw[List.length_drop];have:=hs.1;omega,fun x hx=>hs.2 x (List.mem_of_mem_drop hx)⟩,?_⟩
  rw[im]
  congr 2
  exact propext (by rw[←List.count_pos_iff];omega)
theorem xD {l:List Tm} {k:Nat} (h:k<l.length) (p:Tm→Bool):(l.take (k+1)).any p=((l.take k).any p||p l[k]):=by
 rw[List.take_succ_eq_append_getElem h,List.any_append,List.any_cons,List.any_nil,Bool.or_false]
theorem Iv {l:List Tm} {k:Nat} (h:k<l.length) (p:Tm→Bool):(l.take (k+1)).all p=((l.take k).all p&&p l[k]):=by
 rw[List.take_succ_eq_append_getElem h,List.all_append,List.all_cons,List.all_nil,Bool.and_true]
abbrev MK (a b:List Tm) (y:Tm):Bool:=decide (b.count y≤a.count y)||vC a b y
theorem Fe (m n:Nat):decide ((n:Int)>(m:Int))=decide (m<n):=by
 rw[Bool.eq_iff_iff,decide_eq_true_eq,decide_eq_true_eq];omega
theorem ML (m n:Nat):decide ((n:Int)≤(m:Int))=decide (n≤m):=by
 rw[Bool.eq_iff_iff,decide_eq_true_eq,decide_eq_true_eq];omega
theorem De {k:Int} {a b:List Tm} (ha:bH a) (hb:bH b):ag Tryz.prog 19 [nI k,.sl (a.map Tm.enc),.sl (b.map Tm.enc)] (nB (qJ k a b)):=by
 have ha1:=ha.1
 have wj:=hb.1
 refine Pl (ai.intro (fun h=>?_) fun h=>?_)
 ·rw[qJ,if_neg (by intro e;rw[List.length_map,List.length_map,e] at h;simp at h)]
 have hl:a.length=b.length:=by
  have h2:(a.length:Int)=(b.length:Int):=by simpa [bne] using h
  omega
 rw[qJ,if_pos hl]
 refine ai.intro (fun h=>?_) fun h=>?_
 ·rw[if_neg (by simpa using h)]
  refine ax.intro (fun k:Nat=>((a.map Tm.enc,b.map Tm.enc,(k:Int),()),())) (fun k=>k≤a.length∧zP a b=zP (a.drop k) (b.drop k)) (fun k=>a.length-k) 0 rfl ⟨Nat.zero_le _,rfl⟩ ?_
  intro k ⟨hk,hs⟩ again bJ
  dsimp only
  refine ai.intro (fun h=>?_) fun h=>?_
  ·have ak:k<a.length:=by rw[List.length_map] at h;simpa using h
   have IM:k<b.length:=by omega
   rw[List.drop_eq_getElem_cons ak,List.drop_eq_getElem_cons IM,zP] at hs
   have i1:0≤(k:Int):=by omega
   have i2:(k:Int)<((List.length (a.map Tm.enc):Nat):Int):=by rw[List.length_map];omega
   have i3:(k:Int)<((List.length (b.map Tm.enc):Nat):Int):=by rw[List.length_map];omega
   have bC:=ha.2 _ (List.getElem_mem ak)
   have sm:=ss 1000000 a[k] b[k] bC (by omega)
   rw[←cV,←cV] at sm
   refine⟨i1,i2,_,_,_,_,Tm.aq ak,i1,i3,_,_,_,_,Tm.aq IM,_,sm,ai.intro (fun h=>?_) fun h=>?_⟩
   ·have bh:¬a[k]=b[k]:=fun e=>by rw[e,Tm.rC] at h;cases h
    rw[if_neg bh] at hs
    exact⟨i1,i2,_,_,_,_,Tm.aq ak,i1,i3,_,_,_,_,Tm.aq IM,_,sH bC,by rw[hs]⟩
   ·have he:a[k]=b[k]:=(Tm.fo _ _).1 (by simpa using h)
    rw[if_pos he] at hs
    rw[aD (by omega)]
    exact bJ (k+1) ⟨by omega,hs⟩ (by omega)
  ·have:a.length≤k:=by rw[List.length_map] at h;simpa using h
   rw[List.drop_eq_nil_of_le this] at hs
   rw[hs]
   cases b.drop k<;>rfl
 ·rw[if_pos (by simpa using h),←Qp,Tk]
  refine ax.intro (fun k:Nat=>((a.map Tm.enc,b.map Tm.enc,(a.take k).any (fun x=>decide (b.count x<a.count x)),(k:Int),()),())) (fun k=>k≤a.length) (fun k=>a.length-k) 0 rfl (Nat.zero_le _) ?_
  intro k hk again bJ
  dsimp only
  refine ai.intro (fun h=>?_) fun h=>?_
  ·have ak:k<a.length:=by rw[List.length_map] at h;simpa using h
   have i1:0≤(k:Int):=by omega
   have i2:(k:Int)<((List.length (a.map Tm.enc):Nat):Int):=by rw[List.length_map];omega
   have oQ:=bJ (k+1) (by omega) (by omega)
   rw[xD ak] at oQ
   refine ai.intro (fun h=>?_) fun h=>?_
   ·rw[h,Bool.true_or] at oQ
    rw[aD (by omega)]
    exact oQ
   ·rw[h,Bool.false_or] at oQ
    refine⟨i1,i2,_,_,_,_,Tm.aq ak,_,ep ha,i1,i2,_,_,_,_,Tm.aq ak,_,ep hb,?_⟩
    rw[aD (by omega),Fe]
    exact oQ
  ·have:a.length≤k:=by rw[List.length_map] at h;simpa using h
   rw[List.take_of_length_le this,←xB]
   refine ax.intro (fun k:Nat=>((a.map Tm.enc,b.map Tm.enc,xB a b&&(b.take k).all (MK a b),(k:Int),()),())) (fun k=>k≤b.length) (fun k=>b.length-k) 0 (by rw[List.take_zero,List.all_nil,Bool.and_true];rfl) (Nat.zero_le _) ?_
   intro k hk again bJ
   dsimp only
   refine ai.intro (fun h=>?_) fun h=>?_
   ·have ak:k<b.length:=by rw[List.length_map] at h;simpa using h
    have i1:0≤(k:Int):=by omega
    have i2:(k:Int)<((List.length (b.map Tm.enc):Nat):Int):=by rw[List.length_map];omega
    have oQ:=bJ (k+1) (by omega) (by omega)
    rw[Iv ak,MK] at oQ
    refine⟨i1,i2,_,_,_,_,Tm.aq ak,_,ep hb,i1,i2,_,_,_,_,Tm.aq ak,_,ep ha,ai.intro (fun h=>?_) fun h=>?_⟩
    ·rw[ML] at h
     rw[h,Bool.true_or,Bool.and_true] at oQ
     rw[aD (by omega)]
     exact oQ
    ·rw[ML] at h
     rw[h,Bool.false_or,←Bool.and_assoc] at oQ
     refine ax.intro (fun j:Nat=>((a.map Tm.enc,b.map Tm.enc,xB a b&&(b.take k).all (MK a b),(k:Int),(a.take j).any (fun x=>decide (b.count x<a.count x)&&im x b[k]),(j:Int),()),())) (fun j=>j≤a.length) (fun j=>a.length-j) 0 rfl (Nat.zero_le _) ?_
     intro j hj zt zu
     dsimp only
     refine ai.intro (fun h=>?_) fun h=>?_
     ·have W3:j<a.length:=by rw[List.length_map] at h;simpa using h
      have j1:0≤(j:Int):=by omega
      have j2:(j:Int)<((List.length (a.map Tm.enc):Nat):Int):=by rw[List.length_map];omega
      have Rt:=zu (j+1) (by omega) (by omega)
      rw[xD W3] at Rt
      refine ai.intro (fun h=>?_) fun h=>?_
      ·rw[h,Bool.true_or] at Rt
       rw[aD (by omega)]
       exact Rt
      ·rw[h,Bool.false_or] at Rt
       refine⟨j1,j2,_,_,_,_,Tm.aq W3,_,ep ha,j1,j2,_,_,_,_,Tm.aq W3,_,ep hb,ai.intro (fun h=>?_) fun h=>?_⟩
       ·rw[Fe] at h
        rw[h,Bool.true_and] at Rt
        refine⟨j1,j2,_,_,_,_,Tm.aq W3,i1,i2,_,_,_,_,Tm.aq ak,_,sH (ha.2 _ (List.getElem_mem W3)),?_⟩
        rw[aD (by omega)]
        exact Rt
       ·rw[Fe] at h
        rw[h,Bool.false_and] at Rt
        rw[aD (by omega)]
        exact Rt
     ·have:a.length≤j:=by rw[List.length_map] at h;simpa using h
      rw[List.take_of_length_le this,←vC]
      rw[aD (by omega)]
      refine ai.intro (fun h=>?_) fun h=>?_
      ·rw[h,Bool.true_and] at oQ
       exact oQ
      ·rw[h,Bool.false_and] at oQ
       exact oQ
   ·have:b.length≤k:=by rw[List.length_map] at h;simpa using h
    rw[List.take_of_length_le this]
def tt (n c:Int):Bool:=decide (c<0)||decide (c≥n)
def vG (n:Int) (p:Int×Int):Bool:=tt n p.1||tt n p.2
def vH (n:Int) (p:Int×Int):Bool:=tt n p.1||(decide (p.2<0)||decide (p.2>1))
theorem cw {l:List (Int×Int)} {k:Nat} (h:k<l.length):List.getD (au l) (Int.toNat (k:Int)) .top=.agg [nI l[k].1,nI l[k].2]:=getD_map h
theorem nM {l:List (Int×Int)}:∀y:AV,y∈au l→List.length (AV.cells y)=2:=by
 intro y h
 obtain⟨p,_,rfl⟩:=List.mem_map.1 h
 rfl
theorem rP {n c:Int}:bp Tryz.prog 63 [nI c,.ptr 0 0] [.box [nI n]] (fun r q=>r=nB (tt n c)∧q=[.box [nI n]]):=
 Pt (ai.intro (fun h=>⟨by rw[tt,h];rfl,rfl⟩) fun h=>⟨by rw[tt,h];rfl,rfl⟩)
theorem Ff {n a b:Int}:bp Tryz.prog 65 [.agg [nI a,nI b],.ptr 1 0] (iF n) (fun r q=>r=nB (vG n (a,b))∧q=iF n):=
 Pu ⟨_,rP,fun r q ⟨e1,e2⟩=>⟨_,_,⟨e1,e2⟩,ai.intro (fun h=>⟨by rw[vG,show tt n (a,b).1=true from h];rfl,rfl⟩) fun h=>⟨_,rP,fun r q ⟨e1,e2⟩=>⟨_,_,⟨e1,e2⟩,by rw[vG,show tt n (a,b).1=false from h];rfl,rfl⟩⟩⟩⟩
theorem Fg {n a b:Int}:bp Tryz.prog 67 [.agg [nI a,nI b],.ptr 1 0] (iF n) (fun r q=>r=nB (vH n (a,b))∧q=iF n):=
 Pv ⟨_,rP,fun r q ⟨e1,e2⟩=>⟨_,_,⟨e1,e2⟩,ai.intro (fun h=>⟨by rw[vH,show tt n (a,b).1=true from h];rfl,rfl⟩) fun h=>
  ai.intro (fun h2=>⟨by rw[vH,show tt n (a,b).1=false from h,show decide ((a,b).2<0)=true from h2];rfl,rfl⟩) fun h2=>⟨by rw[vH,show tt n (a,b).1=false from h,show decide ((a,b).2<0)=false from h2];rfl,rfl⟩⟩⟩
theorem Fh {n:Int} {l:List (Int×Int)} (hl:l.length≤1000000000):bp Tryz.prog 116 [.sl (au l),.aK 65 [.ptr 1 0]] (iF n) (fun r q=>(∃i:Int,r=nI i∧decide (i≥0)=l.any (vG n))∧q=iF n):=by
 refine LM (ax.intro (fun k:Nat=>((au l,((),()),(l.length:Int),(k:Int),()),((n,()),((),()),()))) (fun k=>k≤l.length∧l.any (vG n)=(l.drop k).any (vG n)) (fun k=>l.length-k) 0 (by rw[au,List.length_map];rfl) ⟨Nat.zero_le _,rfl⟩ ?_)
 intro k ⟨hk,hs⟩ again bJ
 dsimp only
 refine ai.intro (fun h=>?_) fun h=>?_
 ·have ak:k<l.length:=by simpa using h
  rw[List.drop_eq_getElem_cons ak,List.any_cons] at hs
  refine⟨by omega,by rw[au,List.length_map];omega,_,_,cw ak,_,Ff (n:=n) (a:=l[k].1) (b:=l[k].2),fun r q ⟨e1,e2⟩=>⟨_,_,⟨e1,e2⟩,ai.intro (fun h=>?_) fun h=>?_⟩⟩
  ·exact⟨⟨_,rfl,by rw[hs,show vG n l[k]=true from h,Bool.true_or];simp⟩,rfl⟩
  ·rw[show vG n l[k]=false from h,Bool.false_or] at hs
   rw[aD (by omega)]
   exact bJ (k+1) ⟨by omega,hs⟩ (by omega)
 ·have:l.length≤k:=by simpa using h
  rw[List.drop_eq_nil_of_le this] at hs
  exact⟨⟨_,rfl,by rw[hs];rfl⟩,rfl⟩
theorem Fi {n:Int} {l:List (Int×Int)} (hl:l.length≤1000000000):bp Tryz.prog 64 [.sl (au l),.aK 65 [.ptr 1 0]] (iF n) (fun r q=>r=nB (l.any (vG n))∧q=iF n):=
 Pw ⟨_,Fh hl,fun r q ⟨⟨i,e1,e3⟩,e2⟩=>⟨_,_,⟨e1,e2⟩,by rw[e3],rfl⟩⟩
theorem Fj {n:Int} {l:List (Int×Int)} (hl:l.length≤1000000000):bp Tryz.prog 117 [.sl (au l),.aK 67 [.ptr 1 0]] (iF n) (fun r q=>(∃i:Int,r=nI i∧decide (i≥0)=l.any (vH n))∧q=iF n):=by
 refine LP (ax.intro (fun k:Nat=>((au l,((),()),(l.length:Int),(k:Int),()),((n,()),((),()),()))) (fun k=>k≤l.length∧l.any (vH n)=(l.drop k).any (vH n)) (fun k=>l.length-k) 0 (by rw[au,List.length_map];rfl) ⟨Nat.zero_le _,rfl⟩ ?_)
 intro k ⟨hk,hs⟩ again bJ
 dsimp only
 refine ai.intro (fun h=>?_) fun h=>?_
 ·have ak:k<l.length:=by simpa using h
  rw[List.drop_eq_getElem_cons ak,List.any_cons] at hs
  refine⟨by omega,by rw[au,List.length_map];omega,_,_,cw ak,_,Fg (n:=n) (a:=l[k].1) (b:=l[k].2),fun r q ⟨e1,e2⟩=>⟨_,_,⟨e1,e2⟩,ai.intro (fun h=>?_) fun h=>?_⟩⟩
  ·exact⟨⟨_,rfl,by rw[hs,show vH n l[k]=true from h,Bool.true_or];simp⟩,rfl⟩
  ·rw[show vH n l[k]=false from h,Bool.false_or] at hs
   rw[aD (by omega)]
   exact bJ (k+1) ⟨by omega,hs⟩ (by omega)
 ·have:l.length≤k:=by simpa using h
  rw[List.drop_eq_nil_of_le this] at hs
  exact⟨⟨_,rfl,by rw[hs];rfl⟩,rfl⟩
theorem Fk {n:Int} {l:List (Int×Int)} (hl:l.length≤1000000000):bp Tryz.prog 66 [.sl (au l),.aK 67 [.ptr 1 0]] (iF n) (fun r q=>r=nB (l.any (vH n))∧q=iF n):=
 Px ⟨_,Fj hl,fun r q ⟨⟨i,e1,e3⟩,e2⟩=>⟨_,_,⟨e1,e2⟩,by rw[e3],rfl⟩⟩
theorem zR {l:List (Int×Int)} (hl:l.length≤1000000000):ag Tryz.prog 68 [.sl (au l)] (.sl (au l)):=by
 refine Py fun b hb=>ai.intro (fun h=>?_) fun h=>?_
 ·cases l with
  |nil=>rfl
  |cons p l=>have:=hb (by simp[au]);rw[this] at h;cases h
 ·exact⟨fun _=>rfl,dv nM (by simp[au];omega) (by decide),rfl,rfl⟩
theorem zS {l:List (Int×Int)} (hl:l.length≤1000000000):ag Tryz.prog 69 [.sl (au l)] (.sl (au l)):=by
 refine Pz fun b hb=>ai.intro (fun h=>?_) fun h=>?_
 ·cases l with
  |nil=>rfl
  |cons p l=>have:=hb (by simp[au]);rw[this] at h;cases h
 ·exact⟨fun _=>rfl,dv nM (by simp[au];omega) (by decide),rfl,rfl⟩
def fA (l:List (Int×Int)):List (Int×Value):=l.foldl (fun m p=>bB m p.1 (.int .i64 p.2)) []
theorem sI {l:List (Int×Int)} {k:Nat} (h:k<l.length):fA (l.take (k+1))=bB (fA (l.take k)) l[k].1 (.int .i64 l[k].2):=by
 rw[fA,List.take_succ_eq_append_getElem h,List.foldl_append];rfl
theorem mh (l:List (Int×Int)):∀c:Int,∃n,Option.getD (aC (fA l) c) (.int .i64 0)=.int .i64 n:=by
 have:∀(l:List (Int×Int)) (m:List (Int×Value)),(∀c:Int,∃n,Option.getD (aC m c) (.int .i64 0)=.int .i64 n)→∀c:Int,∃n,Option.getD (aC (l.foldl (fun m p=>bB m p.1 (.int .i64 p.2)) m) c) (.int .i64 0)=.int .i64 n:=by
  intro l
  induction l with
  |nil=>intro m h;exact h
  |cons p l ih=>
   intro m h
   refine ih _ fun c=>?_
   rw[vp]
   split
   ·exact⟨_,rfl⟩
   ·exact h c
 exact this l [] fun c=>⟨0,rfl⟩
def Dis (l:List (Int×Int)) (k:Nat):Prop:=∀(j:Nat) (hj:j<l.length),j<k→aC (fA (l.take j)) l[j].1=none
def jF (n:Int) (ps sts:List (Int×Int)):Rk:=⟨n.toNat,ps,fA sts,au sts⟩
def oR (n:Int) (ps sts:List (Int×Int)):Prop:=(0≤n∧n≤1000)∧ps.length≤1000∧ps.any (vG n)=false∧sts.any (vH n)=false∧Dis sts sts.length
theorem oR.ok {n:Int} {ps sts:List (Int×Int)} (h:oR n ps sts):(jF n ps sts).Ok:=by
 obtain⟨h1,h2,h3,h4,h5⟩:=h
 refine⟨by simp only[jF];omega,h2,fun p hp=>?_⟩
 have:=List.any_eq_false.1 h3 p hp
 simp only[vG,tt,Bool.or_eq_true,decide_eq_true_eq,not_or] at this
 simp only[jF]
 omega
def W4 (q:List af):Prop:=(∃i,q=iF i)∨(∃i m a l b c d e l3,q=[.box [nI i],.box [.aK 63 [.ptr 0 0]],.aB (.i m),.box [nI a,.sl l,.mp 2,.ae (.int .u32 b),.ae (.int .i32 c),.ae (.int .u32 d),.ae (.slice none 0 0),nI e,.sl l3]])∨∃i m a l b c d l2 e l3,q=[.box [nI i],.box [.aK 63 [.ptr 0 0]],.aB (.i m),.box [nI a,.sl l,.mp 2,.ae (.int .u32 b),.ae (.int .i32 c),.ae (.int .u32 d),.sl l2,nI e,.sl l3]]
def MN (n:Int) (ps sts:List (Int×Int)) (q:List af):Prop:=∃(i d s ka:Int) (kr:List AV),
 q=[.box [nI i],.box [.aK 63 [.ptr 0 0]],.aB (.i (fA sts)),.box [nI n,.sl (au ps),.mp 2,.ae (.int .u32 d),.ae (.int .i32 0),.ae (.int .u32 s),.sl kr,nI ka,.sl (au sts)]]∧(d=0∨¬d=0∧kr=(jF n ps sts).rows)
def aaD (n:Int) (ps sts:List (Int×Int)) (r:AV) (q:List af):Prop:=
 (∃e:Int,¬e=0∧r=.aX [.ae (.pointer none),nI e]∧W4 q)∨(oR n ps sts∧r=.aX [.ptr 3 0,nI 0]∧MN n ps sts q)
def tU (n:Int) (ps sts:List (Int×Int)):Prop:=oR n ps sts∧∀c:Nat,(c:Int)<n→(jF n ps sts).nL c c=false
def W5 (n:Int) (ps sts:List (Int×Int)) (r:AV) (q:List af):Prop:=
 (∃e:Int,¬e=0∧r=.aX [.ae (.pointer none),nI e]∧W4 q∧¬tU n ps sts)∨(oR n ps sts∧r=.aX [.ptr 3 0,nI 0]∧MN n ps sts q)
theorem vI {n:Int} {ps sts:List (Int×Int)} (hp:ps.length≤1000000000) (hs:sts.length≤1000000000):bp Tryz.prog 31 [nI n,.sl (au ps),.sl (au sts)] [] (W5 n ps sts):=by
 have bad:∀{e i:Int},¬e=0→¬tU n ps sts→W5 n ps sts (.aX [.ae (.pointer none),nI e]) (iF i):=fun {e i} he hg=>.inl ⟨e,he,rfl,.inl ⟨i,rfl⟩,hg⟩
 refine PB (ai.intro (fun h=>bad (by decide) fun g=>by have:=g.1.1.1;have:=of_decide_eq_true h;omega) fun h0=>ai.intro (fun h=>bad (by decide) fun g=>by have:=g.1.1.2;have:=of_decide_eq_true h;omega) fun h1=>?_)
 have hn:0≤n∧n≤1000:=⟨by simpa using h0,by simpa using h1⟩
 refine⟨_,Fi hp,fun r q ⟨e1,e2⟩=>⟨_,_,⟨e1,e2⟩,ai.intro (fun h=>bad (by decide) fun g=>by rw[g.1.2.2.1] at h;cases h) fun h2=>⟨_,Fk hs,fun r q ⟨e1,e2⟩=>⟨_,_,⟨e1,e2⟩,ai.intro (fun h=>bad (by decide) fun g=>by rw[g.1.2.2.2.1] at h;cases h) fun h3=>ai.intro (fun h=>bad (by decide) fun g=>by have h9:=g.1.2.1;have h8:=of_decide_eq_true h;rw[au,List.length_map] at h8;omega) fun h4=>?_⟩⟩⟩⟩
 have hl:ps.length≤1000:=by
  have:¬((List.length (au ps):Nat):Int)>1000:=by simpa using h4
  rw[au,List.length_map] at this;omega
 refine⟨_,zR hp,_,zS hs,?_⟩
 refine ax.intro (fun k:Nat=>(((),(),au sts,(sts.length:Int),(k:Int),()),((n,()),((),()),fA (sts.take k),(n,au ps,(),0,0,0,(),0,au sts,()),()))) (fun k=>k≤sts.length∧Dis sts k) (fun k=>sts.length-k) 0 (by rw[au,List.length_map];rfl) ⟨Nat.zero_le _,fun j _ h=>by omega⟩ ?_
 intro k ⟨hk,hd⟩ again bJ
 dsimp only
 refine ai.intro (fun h=>?_) fun h=>?_
 ·have ak:k<sts.length:=by simpa using h
  obtain⟨v,hv⟩:=mh (sts.take k) sts[k].1
  refine⟨by omega,by rw[au,List.length_map];omega,_,_,cw ak,by rw[hv];rfl,ai.intro (fun h=>?_) fun h=>?_⟩
  ·exact .inl ⟨4,by decide,rfl,.inr (.inl ⟨_,_,_,_,_,_,_,_,_,rfl⟩),fun g=>by have h9:=g.1.2.2.2.2 k ak ak;rw[h9] at h;cases h⟩
  ·rw[aD (by omega),←sI ak]
   refine bJ (k+1) ⟨by omega,fun j hj h5=>?_⟩ (by omega)
   by_cases e:j=k
   ·subst e
    simpa using h
   ·exact hd j hj (by omega)
 ·have Bg:k=sts.length:=by
   have:sts.length≤k:=by simpa using h
   omega
  subst Bg
  have ao:oR n ps sts:=⟨hn,hl,h2,h3,hd⟩
  obtain⟨N,hN⟩:∃N:Nat,n=N:=⟨n.toNat,by omega⟩
  rw[List.take_length]
  refine ax.intro (fun b:Nat×Int×Int×Int×List AV=>(((),n,(b.1:Int),()),((n,()),((),()),fA sts,(n,au ps,(),b.2.1,0,b.2.2.1,b.2.2.2.2,b.2.2.2.1,au sts,()),()))) (fun b=>b.1≤N∧(b.2.1=0∨¬b.2.1=0∧b.2.2.2.2=(jF n ps sts).rows)) (fun b=>N-b.1) (0,0,0,0,[]) rfl ⟨Nat.zero_le _,.inl rfl⟩ ?_
  rintro⟨c,d,s,ka,kr⟩ ⟨hc,pK⟩ again bJ
  dsimp only at hc pK bJ ⊢
  refine ai.intro (fun h=>?_) fun h=>?_
  ·have hcn:(c:Int)<n:=by simpa using h
   have hS:IW (jF n ps sts) (gv (fA sts) n (au ps) d 0 s kr ka (au sts)):=⟨d,s,ka,kr,by simp only[jF];rw[show ((n.toNat:Nat):Int)=n by omega],pK⟩
   refine⟨_,sB ao.ok hS _ _,fun r q ⟨e1,e2⟩=>?_⟩
   obtain⟨d2,s2,Ig,Ih,rfl,AR⟩:=e2
   refine⟨_,_,_,_,_,_,_,_,_,_,⟨e1,rfl⟩,ai.intro (fun h=>?_) fun h=>?_⟩
   ·exact .inl ⟨8,by decide,rfl,.inr (.inr ⟨_,_,_,_,_,_,_,_,_,_,rfl⟩),fun g=>by have h9:=g.2 c hcn;rw[h9] at h;cases h⟩
   ·rw[aD (by omega)]
    have:=bJ (c+1,d2,s2,Ig,Ih) ⟨by show c+1≤N;omega,AR⟩ (by show N-(c+1)<N-c;omega)
    simp only[jF] at this ⊢
    rw[show ((n.toNat:Nat):Int)=n by omega]
    exact this
  ·exact .inr ⟨ao,rfl,_,_,_,_,_,rfl,pK⟩
theorem Iw {n:Int} {ps sts:List (Int×Int)} (hp:ps.length≤1000000000) (hs:sts.length≤1000000000):bp Tryz.prog 31 [nI n,.sl (au ps),.sl (au sts)] [] (aaD n ps sts):=
 (vI hp hs).mono fun r q h=>h.imp (fun⟨e,h1,h2,h3,_⟩=>⟨e,h1,h2,h3⟩) id
theorem MO {n:Int} {ps sts:List (Int×Int)} (hp:ps.length≤1000000000) (hs:sts.length≤1000000000) (hg:tU n ps sts):bp Tryz.prog 31 [nI n,.sl (au ps),.sl (au sts)] [] (fun r q=>r=.aX [.ptr 3 0,nI 0]∧MN n ps sts q):=
 (vI hp hs).mono fun r q h=>h.elim (fun⟨_,_,_,_,h5⟩=>absurd hg h5) fun⟨_,h2,h3⟩=>⟨h2,h3⟩
inductive mF (ps:List (Int×Int)):Int→Int→Prop where
 |one {a b:Int} (h:(a,b)∈ps):mF ps a b
 |more {a c b:Int} (h1:mF ps a c) (h2:(c,b)∈ps):mF ps a b
theorem mF.trans {ps:List (Int×Int)} {a c b:Int} (h1:mF ps a c) (h2:mF ps c b):mF ps a b:=by
 induction h2 with
 |one h=>exact .more h1 h
 |more _ h ih=>exact .more ih h
theorem MP (Z:ZZ) (i k r b:Nat):dQ (sA Z i k) r b=if r=i then dQ Z i b||dQ Z k b else dQ Z r b:=by
 unfold dQ sA
 split
 ·rw[Nat.testBit_or]
 ·rfl
theorem Qr (Z:ZZ) (a b r c:Nat):dQ (C0 Z a b) r c=(decide (r=a∧c=b)||dQ Z r c):=by
 unfold dQ C0
 by_cases h:r=a∧c / 64=b / 64
 ·rw[if_pos h,Nat.testBit_or,Nat.testBit_two_pow]
  obtain⟨rfl,h2⟩:=h
  by_cases h3:c=b
  ·subst h3;simp
  ·have:¬b % 64=c % 64:=by omega
   simp[h3,this,h2]
 ·rw[if_neg h]
  have:¬(r=a∧c=b):=fun h1=>h ⟨h1.1,by rw[h1.2]⟩
  simp[this]
theorem vJ (k:Nat) (Z:ZZ):∀(m r b:Nat),dQ (tT k m Z) r b=if r<m then dQ Z r b||(dQ Z r k&&dQ Z k b) else dQ Z r b
 |0,r,b=>by simp[tT]
 |m+1,r,b=>by
  have hk:∀b,dQ (tT k m Z) k b=dQ Z k b:=fun b=>by
   rw[vJ k Z m k b]
   split
   ·cases dQ Z k b<;>simp
   ·rfl
  have hm:∀b,dQ (tT k m Z) m b=dQ Z m b:=fun b=>by rw[vJ k Z m m b,if_neg (by omega)]
  rw[tT,C1]
  cases hb:dQ (tT k m Z) m k
  ·rw[hm] at hb
   simp only[Bool.false_eq_true,if_false]
   rw[vJ k Z m r b]
   by_cases h:r=m
   ·subst h
    rw[if_neg (by omega),if_pos (by omega),hb];simp
   ·by_cases h1:r<m
    ·rw[if_pos h1,if_pos (by omega)]
    ·rw[if_neg h1,if_neg (by omega)]
  ·rw[hm] at hb
   simp only[if_true]
   rw[MP,hk,hm,vJ k Z m r b]
   by_cases h:r=m
   ·subst h
    rw[if_pos rfl,if_pos (by omega),hb,Bool.true_and]
   ·rw[if_neg h]
    by_cases h1:r<m
    ·rw[if_pos h1,if_pos (by omega)]
    ·rw[if_neg h1,if_neg (by omega)]
theorem qO {n:Nat} (Z:ZZ) (k r b:Nat) (hr:r<n):dQ (eO n (k+1) Z) r b=(dQ (eO n k Z) r b||(dQ (eO n k Z) r k&&dQ (eO n k Z) k b)):=by
 rw[eO,vJ,if_pos hr]
theorem xE {n:Nat} (Z:ZZ):∀k,k≤n→∀a c b,a<n→c<k→dQ (eO n k Z) a c=true→dQ (eO n k Z) c b=true→dQ (eO n k Z) a b=true
 |0,_,a,c,b,_,hc,_,_=>by omega
 |k+1,hk,a,c,b,ha,hc,h1,h2=>by
  have ih:=xE (n:=n) Z k (by omega)
  rw[qO Z k a c ha] at h1
  rw[qO (n:=n) Z k c b (by omega)] at h2
  rw[qO Z k a b ha]
  simp only[Bool.or_eq_true,Bool.and_eq_true] at h1 h2 ⊢
  by_cases hck:c=k
  ·subst hck
   have q1:dQ (eO n c Z) a c=true:=h1.elim id fun h=>h.1
   have q2:dQ (eO n c Z) c b=true:=h2.elim id fun h=>h.2
   exact .inr ⟨q1,q2⟩
  ·have DA:c<k:=by omega
   rcases h1 with h1|⟨h1,h3⟩
   ·rcases h2 with h2|⟨h2,h4⟩
    ·exact .inl (ih a c b ha DA h1 h2)
    ·exact .inr ⟨ih a c k ha DA h1 h2,h4⟩
   ·rcases h2 with h2|⟨h2,h4⟩
    ·exact .inr ⟨h1,ih k c b (by omega) DA h3 h2⟩
    ·exact .inr ⟨h1,h4⟩
theorem vK {n:Nat} (Z:ZZ) {a b:Nat} (ha:a<n) (h:dQ Z a b=true):∀k,dQ (eO n k Z) a b=true
 |0=>h
 |k+1=>by rw[qO Z k a b ha,vK Z ha h k,Bool.true_or]
theorem Df (P:Nat→Nat×Nat):∀(m a b:Nat),dQ (cI P m) a b=true↔∃i,i<m∧P i=(a,b)
 |0,a,b=>by simp[cI,dQ]
 |m+1,a,b=>by
  rw[cI,Qr,Bool.or_eq_true,decide_eq_true_eq,Df P m a b]
  constructor
  ·rintro(⟨rfl,rfl⟩|⟨i,h1,h2⟩)
   ·exact⟨m,by omega,rfl⟩
   ·exact⟨i,by omega,h2⟩
  ·rintro⟨i,h1,h2⟩
   by_cases e:i=m
   ·subst e;rw[h2];exact .inl ⟨rfl,rfl⟩
   ·exact .inr ⟨i,by omega,h2⟩
theorem Rk.G9 {R:Rk} (hR:R.Ok) {a b:Nat}:dQ (cI R.P R.ps.length) a b=true↔((a:Int),(b:Int))∈R.ps:=by
 rw[Df]
 constructor
 ·rintro⟨i,hi,h⟩
  have NB:=hR.2.2 _ (List.getElem_mem hi)
  have eP:R.P i=((R.ps[i]).1.toNat,(R.ps[i]).2.toNat):=by simp[Rk.P,List.getD,hi]
  rw[eP] at h
  simp only[Prod.mk.injEq] at h
  have e:((a:Int),(b:Int))=R.ps[i]:=Prod.ext (by show (a:Int)=_;omega) (by show (b:Int)=_;omega)
  rw[e];exact List.getElem_mem hi
 ·intro h
  obtain⟨i,hi,e⟩:=List.getElem_of_mem h
  exact⟨i,hi,by simp[Rk.P,List.getD,hi,e]⟩
theorem oo {R:Rk} (hR:R.Ok):∀(k a b:Nat),a<R.n→k≤R.n→dQ (eO R.n k (cI R.P R.ps.length)) a b=true→mF R.ps a b
 |0,a,b,_,_,h=>.one ((Rk.G9 hR).1 h)
 |k+1,a,b,ha,hk,h=>by
  rw[qO _ k a b ha,Bool.or_eq_true,Bool.and_eq_true] at h
  rcases h with h|⟨h1,h2⟩
  ·exact oo hR k a b ha (by omega) h
  ·exact(oo hR k a k ha (by omega) h1).trans (oo hR k k b (by omega) (by omega) h2)
theorem Rk.Qs {R:Rk} (hR:R.Ok) {a b:Nat} (ha:a<R.n):dQ R.Z a b=true↔mF R.ps a b:=by
 refine⟨fun h=>oo hR R.n a b ha (Nat.le_refl _) h,fun h=>?_⟩
 have key:∀x y:Int,mF R.ps x y→∀u v:Nat,x=u→y=v→u<R.n→dQ R.Z u v=true:=by
  intro x y h
  induction h with
  |one h=>rintro u v rfl rfl hu;exact vK _ hu ((Rk.G9 hR).2 h) _
  | @more c' b' h1 h2 ih=>
   rintro u v rfl rfl hu
   have hc:=(hR.2.2 _ h2).1
   obtain⟨c,Fy⟩:∃c:Nat,c'=c:=⟨c'.toNat,by simp only at hc;omega⟩
   subst Fy
   have hc3:c<R.n:=by simp only at hc;omega
   exact xE _ R.n (Nat.le_refl _) u c v hu hc3 (ih u c rfl rfl hu) (vK _ hc3 ((Rk.G9 hR).2 h2) _)
 exact key _ _ h a b rfl rfl ha
def fI (a:Int) (u:List Int) (p:Int×Int):List Int:=if((p.1==a)||u.contains p.1)&&!u.contains p.2 then u++[p.2] else u
def dR (a:Int) (l:List (Int×Int)) (u:List Int):List Int:=l.foldl (fI a) u
def bI (a:Int) (l:List (Int×Int)):Nat→List Int
 |0=>[]
 |k+1=>dR a l (bI a l k)
def pz (l:List (Int×Int)) (a b:Int):Bool:=(bI a l (l.length+1)).contains b
theorem Ix (a:Int) (u:List Int) (p:Int×Int):u.length≤(fI a u p).length∧((fI a u p).length=u.length→fI a u p=u):=by
 unfold fI
 split
 ·simp
 ·exact⟨Nat.le_refl _,fun _=>rfl⟩
theorem pB (a:Int):∀(l:List (Int×Int)) (u:List Int),u.length≤(dR a l u).length∧((dR a l u).length=u.length→dR a l u=u∧∀p∈l,fI a u p=u)
 | [],u=>⟨Nat.le_refl _,fun _=>⟨rfl,fun p h=>by cases h⟩⟩
 |p::l,u=>by
  have h1:=Ix a u p
  have h2:=pB a l (fI a u p)
  have e:dR a (p::l) u=dR a l (fI a u p):=rfl
  rw[e]
  refine⟨by omega,fun h=>?_⟩
  have h3:=h1.2 (by omega)
  rw[h3] at h2 h ⊢
  have h4:=h2.2 h
  refine⟨h4.1,fun q hq=>?_⟩
  rcases List.mem_cons.1 hq with rfl|hq
  ·exact h3
  ·exact h4.2 q hq
structure iG (a:Int) (l:List (Int×Int)) (u:List Int):Prop where
 nd:u.Nodup
 sub:∀x∈u,x∈l.map Prod.snd
 reach:∀x∈u,mF l a x
theorem iG.step {a:Int} {l:List (Int×Int)} {u:List Int} (h:iG a l u) {p:Int×Int} (hp:p∈l):iG a l (fI a u p):=by
 unfold fI
 split
 ·rename_i hc
  simp only[Bool.and_eq_true,Bool.or_eq_true,beq_iff_eq,List.contains_iff_mem,Bool.not_eq_true',List.contains_eq_mem,decide_eq_false_iff_not,decide_eq_true_eq] at hc
  refine⟨List.nodup_append.2 ⟨h.nd,by simp,fun x hx y hy=>?_⟩,fun x hx=>?_,fun x hx=>?_⟩
  ·rw[List.mem_singleton] at hy;subst hy;exact fun e=>hc.2 (e▸hx)
  ·rcases List.mem_append.1 hx with hx|hx
   ·exact h.sub x hx
   ·rw[List.mem_singleton] at hx;subst hx;exact List.mem_map.2 ⟨p,hp,rfl⟩
  ·rcases List.mem_append.1 hx with hx|hx
   ·exact h.reach x hx
   ·rw[List.mem_singleton] at hx;subst hx
    rcases hc.1 with h1|h1
    ·exact .one (by rw[←h1];exact hp)
    ·exact .more (h.reach _ h1) hp
 ·exact h
theorem iG.round {a:Int} {l:List (Int×Int)}:∀(m:List (Int×Int)) (u:List Int),(∀p∈m,p∈l)→iG a l u→iG a l (dR a m u)
 | [],u,_,h=>h
 |p::m,u,hm,h=>iG.round m (fI a u p) (fun q hq=>hm q (List.mem_cons_of_mem _ hq)) (h.step (hm p List.mem_cons_self))
theorem iG.rounds (a:Int) (l:List (Int×Int)):∀k,iG a l (bI a l k)
 |0=>⟨List.nodup_nil,fun x h=>(by cases h),fun x h=>(by cases h)⟩
 |k+1=>iG.round l _ (fun _ h=>h) (iG.rounds a l k)
theorem vL {u v:List Int} (h:u.Nodup) (hs:∀x∈u,x∈v):u.length≤v.length:=by
 induction u generalizing v with
 |nil=>exact Nat.zero_le _
 |cons x u ih=>
  rw[List.nodup_cons] at h
  have hx:=hs x List.mem_cons_self
  have:=ih (v:=v.erase x) h.2 fun y hy=>by
   have bh:y≠x:=fun e=>h.1 (e▸hy)
   exact(List.mem_erase_of_ne bh).2 (hs y (List.mem_cons_of_mem _ hy))
  rw[List.length_erase_of_mem hx] at this
  have RT:=List.length_pos_of_mem hx
  simp only[List.length_cons];omega
theorem sJ (a:Int) (l:List (Int×Int)):∀k,(∃j,j<k∧dR a l (bI a l j)=bI a l j)∨k≤(bI a l k).length
 |0=>.inr (Nat.zero_le _)
 |k+1=>by
  rcases sJ a l k with⟨j,h1,h2⟩|h
  ·exact .inl ⟨j,by omega,h2⟩
  ·have h1:=pB a l (bI a l k)
   by_cases e:(dR a l (bI a l k)).length=(bI a l k).length
   ·exact .inl ⟨k,by omega,(h1.2 e).1⟩
   ·exact .inr (by show k+1≤(dR a l (bI a l k)).length;omega)
theorem sK (a:Int) (l:List (Int×Int)) {j:Nat} (h:dR a l (bI a l j)=bI a l j):∀d,bI a l (j+d)=bI a l j
 |0=>rfl
 |d+1=>by show dR a l (bI a l (j+d))=_;rw[sK a l h d,h]
theorem Fl (l:List (Int×Int)) (a b:Int):pz l a b=true↔mF l a b:=by
 have hg:=iG.rounds a l (l.length+1)
 rw[pz,List.contains_iff_mem]
 refine⟨fun h=>hg.reach b h,fun h=>?_⟩
 have hle:(bI a l (l.length+1)).length≤l.length:=by
  have:=vL hg.nd hg.sub
  rwa [List.length_map] at this
 obtain⟨j,h1,h2⟩:∃j,j<l.length+1∧dR a l (bI a l j)=bI a l j:=by
  rcases sJ a l (l.length+1) with h|h
  ·exact h
  ·omega
 have pK:=sK a l h2 (l.length+1-j)
 rw[show j+(l.length+1-j)=l.length+1 by omega] at pK
 have cS:=((pB a l (bI a l j)).2 (by rw[h2])).2
 rw[←pK] at cS
 have aK:∀p∈l,(p.1=a∨p.1∈bI a l (l.length+1))→p.2∈bI a l (l.length+1):=by
  intro p hp hc
  have:=cS p hp
  unfold fI at this
  split at this
  ·have:=congrArg List.length this;simp at this
  ·rename_i hn
   refine Classical.byContradiction fun h3=>hn ?_
   simp only[Bool.and_eq_true,Bool.or_eq_true,beq_iff_eq,List.contains_iff_mem,Bool.not_eq_true',List.contains_eq_mem,decide_eq_false_iff_not,decide_eq_true_eq]
   exact⟨hc,h3⟩
 induction h with
 |one h=>exact aK _ h (.inl rfl)
 |more _ h2 ih=>exact aK _ h2 (.inr ih)
theorem Rk.MQ {R:Rk} (hR:R.Ok) (a b:Int):R.nL a b=(decide (0≤a∧a<R.n∧0≤b∧b<R.n)&&pz R.ps a b):=by
 unfold Rk.nL
 by_cases h:0≤a∧a<R.n∧0≤b∧b<R.n
 ·rw[decide_eq_true h,Bool.true_and,Bool.true_and,Bool.eq_iff_iff,Fl,Rk.Qs hR (by omega)]
  rw[show ((a.toNat:Nat):Int)=a by omega,show ((b.toNat:Nat):Int)=b by omega]
 ·rw[decide_eq_false h];rfl
theorem Dg {a:Int} {l:List (Int×Int)} {u:List Int} {k:Nat} (h:k<l.length):dR a (l.take (k+1)) u=fI a (dR a (l.take k) u) l[k]:=by
 rw[dR,List.take_succ_eq_append_getElem h,List.foldl_append];rfl
theorem cR (l:List (Int×Int)):(au l).length=l.length:=by simp[au]
theorem zT {l:List (Int×Int)} {a b:Int} (hl:l.length≤1000000):ag Tryz.prog 79 [.sl (au l),nI a,nI b] (nB (pz l a b)):=by
 refine PG ⟨rfl,?_⟩
 refine ax.intro (fun k:Nat=>((au l,a,b,(),(k:Int),()),(ar (bI a l k),()))) (fun k=>k≤l.length+1) (fun k=>l.length+1-k) 0 rfl (Nat.zero_le _) ?_
 intro k hk again bJ
 dsimp only
 refine ai.intro (fun h=>⟨rfl,?_⟩) fun h=>⟨rfl,?_⟩
 ·have Hq:k≤l.length:=by
   have:(k:Int)≤((List.length (au l):Nat):Int):=by simpa using h
   rw[cR] at this;omega
  have hU:=iG.rounds a l k
  refine ax.intro (fun j:Nat=>((au l,a,b,(),(k:Int),(j:Int),()),(ar (dR a (l.take j) (bI a l k)),()))) (fun j=>j≤l.length) (fun j=>l.length-j) 0 rfl (Nat.zero_le _) ?_
  intro j hj zt zu
  dsimp only
  have hG:iG a l (dR a (l.take j) (bI a l k)):=iG.round _ _ (fun p hp=>List.mem_of_mem_take hp) hU
  have bC:(dR a (l.take j) (bI a l k)).length≤1000000:=by
   have:=vL hG.nd hG.sub
   rw[List.length_map] at this;omega
  refine ai.intro (fun h=>?_) fun h=>⟨rfl,?_⟩
  ·have ak:j<l.length:=by
    have:(j:Int)<((List.length (au l):Nat):Int):=by simpa using h
    rw[cR] at this;omega
   have kJ:(j:Int)<((List.length (au l):Nat):Int):=by rw[cR];omega
   have A2:=Dg (a:=a) (u:=bI a l k) ak
   generalize hu:dR a (l.take j) (bI a l k)=u at bC A2 ⊢
   have yes:fI a u l[j]=u++[l[j].2]→zt ((au l,a,b,(),(k:Int),IntKind.wrap .i64 ((j:Int)+1),()),(ar u++[nI l[j].2],())):=fun e=>by
    rw[lV,←e,←A2,aD (by omega)]
    exact zu (j+1) (by omega) (by omega)
   have no:fI a u l[j]=u→zt ((au l,a,b,(),(k:Int),IntKind.wrap .i64 ((j:Int)+1),()),(ar u,())):=fun e=>by
    have:=zu (j+1) (by omega) (by omega)
    rw[A2,e] at this
    rw[aD (by omega)];exact this
   have app:bF Q6 (List.length (ar u++[nI l[j].2])) [] [nI l[j].2]:=cQ rfl (by rw[List.length_append,ib,List.length_singleton];omega) (by decide)
   refine⟨by omega,kJ,_,_,cw ak,ai.intro (fun h1=>?_) fun h1=>?_⟩
   ·refine⟨by omega,kJ,_,_,cw ak,rfl,_,n9 (by omega),ai.intro (fun h2=>⟨by omega,kJ,_,_,cw ak,rfl,app,rfl,yes ?_⟩) fun h2=>⟨rfl,no ?_⟩⟩
    ·rw[fI,h1,Bool.true_or,Bool.true_and,h2];rfl
    ·rw[fI,h1,Bool.true_or,Bool.true_and,h2];rfl
   ·refine⟨by omega,kJ,_,_,cw ak,rfl,_,n9 (by omega),ai.intro (fun h2=>?_) fun h2=>⟨rfl,no ?_⟩⟩
    ·refine⟨by omega,kJ,_,_,cw ak,rfl,_,n9 (by omega),ai.intro (fun h3=>⟨by omega,kJ,_,_,cw ak,rfl,app,rfl,yes ?_⟩) fun h3=>⟨rfl,no ?_⟩⟩
     ·rw[fI,h1,h2,Bool.false_or,Bool.true_and,h3];rfl
     ·rw[fI,h1,h2,Bool.false_or,Bool.true_and,h3];rfl
    ·rw[fI,h1,h2];rfl
  ·have hje:j=l.length:=by
    have:¬(j:Int)<((List.length (au l):Nat):Int):=by simpa using h
    rw[cR] at this;omega
   subst hje
   rw[List.take_length,aD (by omega)]
   exact bJ (k+1) (by omega) (by omega)
 ·have Bg:k=l.length+1:=by
   have:¬(k:Int)≤((List.length (au l):Nat):Int):=by simpa using h
   rw[cR] at this;omega
  subst Bg
  have hG:=iG.rounds a l (l.length+1)
  have bC:=vL hG.nd hG.sub
  rw[List.length_map] at bC
  exact⟨_,n9 (by omega),rfl⟩
theorem wH {n:Int} {ps:List (Int×Int)} {st:List AV} {a b:Int} (hl:ps.length≤1000000):ag Tryz.prog 44 [.agg [nI n,.sl (au ps),.sl st],nI a,nI b] (nB (decide (0≤a∧a<n∧0≤b∧b<n)&&pz ps a b)):=by
 have bad:¬(0≤a∧a<n∧0≤b∧b<n)→nB false=nB (decide (0≤a∧a<n∧0≤b∧b<n)&&pz ps a b):=fun h=>by rw[decide_eq_false h];rfl
 refine PH (ai.intro (fun h1=>ai.intro (fun h2=>ai.intro (fun h3=>ai.intro (fun h4=>⟨_,zT hl,?_⟩) fun h=>bad (by simp at h;omega)) fun h=>bad (by simp at h;omega)) fun h=>bad (by simp at h;omega)) fun h=>bad (by simp at h;omega))
 rw[decide_eq_true (by simp at h1 h2 h3 h4;omega),Bool.true_and]
def qP (l:List (Int×Int)) (c:Int):Option Int:=(l.find? fun p=>p.1==c).map Prod.snd
def qQ (l:List (Int×Int)) (c:Int):Int:=(qP l c).getD 0
theorem sL {l:List (Int×Int)} (hd:Dis l l.length) (c:Int):∀k,k≤l.length→aC (fA (l.take k)) c=(qP (l.take k) c).map (.int .i64)
 |0,_=>rfl
 |k+1,hk=>by
  have ih:=sL hd c k (by omega)
  have ak:k<l.length:=by omega
  rw[sI ak,vp]
  have e:qP (l.take (k+1)) c=(qP (l.take k) c).or (if l[k].1=c then some l[k].2 else none):=by
   unfold qP
   rw[List.take_succ_eq_append_getElem ak,List.find?_append]
   cases h:(l.take k).find? fun p=>p.1==c with
   |some p=>simp
   |none=>
    by_cases h2:l[k].1=c
    ·simp[h2]
    ·simp[h2]
  rw[e]
  by_cases h:c=l[k].1
  ·subst h
   have:=hd k ak (by omega)
   rw[ih] at this
   cases h2:qP (l.take k) l[k].1 with
   |some v=>rw[h2] at this;cases this
   |none=>simp
  ·have h2:¬l[k].1=c:=fun e=>h e.symm
   rw[if_neg h,if_neg h2,ih]
   cases qP (l.take k) c<;>rfl
theorem Qt {n:Int} {ps sts:List (Int×Int)} (h:oR n ps sts) (c:Int):(jF n ps sts).stat c=qQ sts c:=by
 have:=sL h.2.2.2.2 c sts.length (Nat.le_refl _)
 rw[List.take_length] at this
 unfold Rk.stat qQ
 show A5 (Option.getD (aC (fA sts) c) (.int .i64 0))=_
 rw[this]
 cases qP sts c<;>rfl
theorem Fm (p:Int×Int) (l:List (Int×Int)) (c:Int):qQ (p::l) c=if p.1=c then p.2 else qQ l c:=by
 unfold qQ qP
 rw[List.find?_cons]
 by_cases h:p.1=c
 ·rw[show (p.1==c)=true from by simpa using h,if_pos h];rfl
 ·rw[show (p.1==c)=false from by simpa using h,if_neg h]
theorem zU {n:Int} {ps:List AV} {l:List (Int×Int)} {c:Int} (hl:l.length≤1000000):ag Tryz.prog 43 [.agg [nI n,.sl ps,.sl (au l)],nI c] (nI (qQ l c)):=by
 refine PK (ax.intro (fun k:Nat=>((c,(),(k:Int),()),((n,ps,au l,()),()))) (fun k=>k≤l.length∧qQ l c=qQ (l.drop k) c) (fun k=>l.length-k) 0 rfl ⟨Nat.zero_le _,rfl⟩ ?_)
 intro k ⟨hk,hs⟩ again bJ
 dsimp only
 refine ai.intro (fun h=>?_) fun h=>?_
 ·have ak:k<l.length:=by
   have:(k:Int)<((List.length (au l):Nat):Int):=by simpa using h
   rw[cR] at this;omega
  have kJ:(k:Int)<((List.length (au l):Nat):Int):=by rw[cR];omega
  rw[List.drop_eq_getElem_cons ak,Fm] at hs
  refine⟨by omega,kJ,_,_,cw ak,ai.intro (fun h1=>⟨by omega,kJ,_,_,cw ak,?_⟩) fun h1=>?_⟩
  ·rw[hs,if_pos (by simpa using h1)]
  ·rw[if_neg (by simpa using h1)] at hs
   rw[aD (by omega)]
   exact bJ (k+1) ⟨by omega,hs⟩ (by omega)
 ·have:l.length≤k:=by
   have:¬(k:Int)<((List.length (au l):Nat):Int):=by simpa using h
   rw[cR] at this;omega
  rw[List.drop_eq_nil_of_le this] at hs
  rw[hs];rfl
theorem MR (m:Nat) (l:List (Int×Int)):List.drop (Int.toNat 0) (List.take (Int.toNat (if(m:Int)<((List.length (au l):Nat):Int) then(m:Int) else((List.length (au l):Nat):Int))) (au l))=au (l.take m):=by
 rw[cR]
 show List.take _ _=_
 unfold au
 rw[List.map_take]
 split
 ·rfl
 ·rename_i h
  rw[Int.toNat_natCast,List.take_of_length_le (by simp),List.take_of_length_le (by simp;omega)]
theorem MS (m:Nat) (l:List (Int×Int)):0≤(0:Int)∧(0:Int)≤(if(m:Int)<((List.length (au l):Nat):Int) then(m:Int) else((List.length (au l):Nat):Int))∧
  (if(m:Int)<((List.length (au l):Nat):Int) then(m:Int) else((List.length (au l):Nat):Int))≤List.length (au l)∧(∀y:AV,y∈au l→List.length (AV.cells y)=2):=by
 refine⟨by omega,?_,?_,nM⟩<;>split<;>omega
def sM (n:Int) (ps sts:List (Int×Int)):AV:=.agg [nI n,.sl (au ps),.sl (au sts)]
def Tn (n:Int) (ps sts:List (Int×Int)) (q:List af):List af:=[.box [nI n,.sl (au ps),.sl (au sts)],.box [nI n,.sl (au ps),.sl (au sts)],.row 81 2 (au sts)]++q
def aaE (n:Int) (ps sts:List (Int×Int)) (q:List af):Prop:=(∃i,q=Tn n ps sts [.box [nI i],.box [.aK 63 [.ptr 3 0]]])∨
 (∃i m a l b c d e l3,q=Tn n ps sts [.box [nI i],.box [.aK 63 [.ptr 3 0]],.aB (.i m),.box [nI a,.sl l,.mp 5,.ae (.int .u32 b),.ae (.int .i32 c),.ae (.int .u32 d),.ae (.slice none 0 0),nI e,.sl l3]])∨
 ∃i m a l b c d l2 e l3,q=Tn n ps sts [.box [nI i],.box [.aK 63 [.ptr 3 0]],.aB (.i m),.box [nI a,.sl l,.mp 5,.ae (.int .u32 b),.ae (.int .i32 c),.ae (.int .u32 d),.sl l2,nI e,.sl l3]]
def Ru (n:Int) (ps sts:List (Int×Int)) (q:List af):Prop:=∃(i d s ka:Int) (kr:List AV),
 q=Tn n ps sts [.box [nI i],.box [.aK 63 [.ptr 3 0]],.aB (.i (fA sts)),.box [nI n,.sl (au ps),.mp 5,.ae (.int .u32 d),.ae (.int .i32 0),.ae (.int .u32 s),.sl kr,nI ka,.sl (au sts)]]∧(d=0∨¬d=0∧kr=(jF n ps sts).rows)
def ToR (n:Int) (ps sts:List (Int×Int)) (r:AV) (q:List af):Prop:=
 (∃e:Int,¬e=0∧r=.aX [.ae (.pointer none),sM n ps sts,nI e]∧aaE n ps sts q)∨(oR n ps sts∧r=.aX [.ptr 6 0,sM n ps sts,nI 0]∧Ru n ps sts q)
theorem Fo {n:Int} {ps sts:List (Int×Int)}:bp Tryz.prog 6 [sM n ps sts] [] (ToR n (ps.take 40) (sts.take 20)):=by
 have l1:(ps.take 40).length≤40:=by rw[List.length_take];omega
 have l2:(sts.take 20).length≤20:=by rw[List.length_take];omega
 refine SR ⟨MS 40 ps,MS 20 sts,rfl,?_⟩
 have e1:List.drop (Int.toNat 0) (List.take (Int.toNat (if 40<((List.length (au ps):Nat):Int) then 40 else((List.length (au ps):Nat):Int))) (au ps))=au (ps.take 40):=MR 40 ps
 have e2:List.drop (Int.toNat 0) (List.take (Int.toNat (if 20<((List.length (au sts):Nat):Int) then 20 else((List.length (au sts):Nat):Int))) (au sts))=au (sts.take 20):=MR 20 sts
 rw[e1,e2]
 generalize ps.take 40=p at l1 ⊢
 generalize sts.take 20=s at l2 ⊢
 refine ax.intro (fun k:Nat=>(((),(),(),(k:Int),()),((n,au p,au s,()),(0,(),(),()),au (s.take k),()))) (fun k=>k≤s.length) (fun k=>s.length-k) 0 rfl (Nat.zero_le _) ?_
 intro k hk again bJ
 dsimp only
 refine ai.intro (fun h=>?_) fun h=>⟨rfl,?_⟩
 ·have ak:k<s.length:=by
   have:(k:Int)<((List.length (au s):Nat):Int):=by simpa using h
   rw[cR] at this;omega
  have kJ:(k:Int)<((List.length (au s):Nat):Int):=by rw[cR];omega
  refine⟨by omega,kJ,_,_,cw ak,by omega,kJ,_,_,cw ak,rfl,cQ rfl (by rw[List.length_append,cR,List.length_singleton,List.length_take];omega) (by decide),rfl,?_⟩
  have:au (s.take k)++[.agg [nI s[k].1,nI s[k].2]]=au (s.take (k+1)):=by rw[List.take_succ_eq_append_getElem ak];unfold au;rw[List.map_append];rfl
  rw[this,aD (by omega)]
  exact bJ (k+1) (by omega) (by omega)
 ·have Bg:k=s.length:=by
   have:¬(k:Int)<((List.length (au s):Nat):Int):=by simpa using h
   rw[cR] at this;omega
  subst Bg
  rw[List.take_length]
  refine⟨_,Iw (by omega) (by omega),fun r q h=>?_⟩
  rcases h with⟨e,he,rfl,⟨i,rfl⟩|⟨i,m,a,l,b,c,d,x,l3,rfl⟩|⟨i,m,a,l,b,c,d,y,x,l3,rfl⟩⟩|⟨ao,rfl,i,d,s',ka,kr,rfl,pK⟩
  ·exact .inl ⟨_,_,⟨rfl,rfl⟩,.inl ⟨e,he,rfl,.inl ⟨_,rfl⟩⟩⟩
  ·exact .inr (.inl ⟨_,_,_,_,_,_,_,_,_,_,⟨rfl,rfl⟩,.inl ⟨e,he,rfl,.inr (.inl ⟨_,_,_,_,_,_,_,_,_,rfl⟩)⟩⟩)
  ·exact .inr (.inr (.inl ⟨_,_,_,_,_,_,_,_,_,_,_,⟨rfl,rfl⟩,.inl ⟨e,he,rfl,.inr (.inr ⟨_,_,_,_,_,_,_,_,_,_,rfl⟩)⟩⟩))
  ·exact .inr (.inr (.inr ⟨_,_,_,_,_,_,_,_,_,_,⟨rfl,rfl⟩,.inr ⟨ao,rfl,_,_,_,_,_,rfl,pK⟩⟩))
def Dh (n:Int) (ps sts:List (Int×Int)) (l:Tm) (ms:List Ty):Cx:=⟨l.kind,l.index,l.args,ms,fun a b=>decide (0≤a∧a<n∧0≤b∧b<n)&&pz ps a b,qQ sts⟩
theorem eR {t:Tm} (h:t.size≤1000000):bH t.args:=by
 have h1:=t.size_eq
 have h2:=Tm.aF t.args
 exact⟨by omega,fun x hx=>by have:=Tm.bg hx;omega⟩
theorem qR (L:List Tm) (t:Tm):decide (((L.count t:Nat):Int)>0)=decide (t∈L):=by
 rw[Bool.eq_iff_iff,decide_eq_true_eq,decide_eq_true_eq,←List.count_pos_iff];omega
theorem Iy {n:Int} {ps sts:List (Int×Int)} {l r:Tm} {ms:List Ty} (hp:ps.length≤1000000) (pK:sts.length≤1000000) (hl:l.size≤1000000) (hm1:ms.length≤1000000000) (hm:∀x∈ms,x.size≤1000000000):∀(d:Nat) (t:Tm),t.size≤d→d≤1000000→
  ag Tryz.prog 13 [.agg [nI n,.sl (au ps),.sl (au sts)],qL l r ms,dp t] (nB (jD (Dh n ps sts l ms) t)):=by
 have M1:Tm.sizes l.args≤1000000:=by have:=l.size_eq;omega
 have Ha:=wG (l:=l) (r:=r) (ms:=ms) M1
 have hL:bH (ew l.args):=⟨Nat.le_trans (qI _) M1,fun x hx=>Nat.le_trans (xA hx) M1⟩
 obtain⟨C,hC⟩:∃C,C=Dh n ps sts l ms:=⟨_,rfl⟩
 rw[←hC]
 have hCa:C.la=l.args:=by rw[hC];rfl
 intro d
 induction d with
 |zero=>intro t h;have:=t.size_pos;omega
 |succ d ih=>
  intro t h hd
  have tR:=t.size_eq
  have hta:=eR (t:=t) (by omega)
  have he:=MB C t
  rw[hCa] at he
  refine Po ⟨_,Ha,_,ep hL,ai.intro (fun h1=>?_) fun h1=>?_⟩
  ·rw[qR] at h1
   rw[he,h1];rfl
  rw[qR] at h1
  refine⟨_,ep (t:=.mk [] t.kind t.index t.args) hL,ai.intro (fun h2=>?_) fun h2=>?_⟩
  ·rw[qR] at h2
   rw[he,h2,h1];rfl
  rw[qR] at h2
  rw[h1,h2,Bool.false_or,Bool.false_or] at he
  rw[he]
  refine ax.intro (fun k:Nat=>(((),(),(),(ew l.args).map Tm.enc,(k:Int),()),((n,au ps,au sts,()),(l.binds.map Ty.enc,l.kind,l.index,l.args.map Tm.enc,r.binds.map Ty.enc,r.kind,r.index,r.args.map Tm.enc,ms.map Ty.enc,()),(t.binds.map Ty.enc,t.kind,t.index,t.args.map Tm.enc,()),((),t.kind,t.index,t.args.map Tm.enc,()),()))) (fun k=>k≤t.args.length∧ma C t.args=ma C (t.args.drop k)) (fun k=>t.args.length-k) 0 rfl ⟨Nat.zero_le _,rfl⟩ ?_
  intro k ⟨hk,hs⟩ again bJ
  dsimp only
  refine ai.intro (fun h=>?_) fun h=>?_
  ·have ak:k<t.args.length:=by rw[List.length_map] at h;simpa using h
   have bC:=Tm.bg (List.getElem_mem ak)
   have gn:=hta.1
   rw[List.drop_eq_getElem_cons ak,ma] at hs
   refine⟨by omega,by rw[List.length_map];omega,_,_,_,_,Tm.aq ak,_,ih t.args[k] (by omega) (by omega),ai.intro (fun h=>?_) fun h=>?_⟩
   ·rw[hs,(by simpa using h:jD C t.args[k]=false),Bool.false_and,Bool.and_false]
   ·rw[(by simpa using h:jD C t.args[k]=true),Bool.true_and] at hs
    rw[aD (by omega)]
    exact bJ (k+1) ⟨by omega,hs⟩ (by omega)
  ·have:t.args.length≤k:=by rw[List.length_map] at h;simpa using h
   rw[List.drop_eq_nil_of_le this,ma] at hs
   rw[hs,Bool.and_true,hC,mE]
   refine ai.intro (fun h=>?_) fun h=>?_
   ·rw[if_pos (by simpa using h)]
   have k0:¬t.kind=0:=by simpa using h
   rw[if_neg k0]
   refine ai.intro (fun h=>?_) fun h=>?_
   ·have k2:t.kind=2:=by simpa using h
    rw[if_pos k2,Cx.var]
    have bad:¬(0≤t.index∧t.index<(ms.length:Int))→nB false=nB (decide (0≤t.index∧t.index<((Dh n ps sts l ms).ms.length:Int))&&decide (po 2 t.index ((Dh n ps sts l ms).ms.getD t.index.toNat (.mk [] 0))∈ew (Dh n ps sts l ms).la)):=fun h=>by
     rw[decide_eq_false (show ¬(0≤t.index∧t.index<((Dh n ps sts l ms).ms.length:Int)) from h),Bool.false_and]
    refine ai.intro (fun h3=>ai.intro (fun h4=>?_) fun h4=>bad ?_) fun h3=>bad ?_
    ·have i0:0≤t.index:=by simpa using h3
     have i1:t.index<(ms.length:Int):=by rw[List.length_map] at h4;simpa using h4
     obtain⟨m,M5⟩:∃m:Nat,t.index=m:=⟨t.index.toNat,by omega⟩
     have IX:m<ms.length:=by omega
     have hg:(Dh n ps sts l ms).ms.getD t.index.toNat (.mk [] 0)=ms[m]:=by
      show ms.getD t.index.toNat (.mk [] 0)=ms[m]
      rw[M5,Int.toNat_natCast,List.getD_eq_getElem?_getD,List.getElem?_eq_getElem IX];rfl
     have et:=E1 (t:=ms[m]) (k:=t.kind) (i:=t.index) (hm _ (List.getElem_mem IX)) (fun e=>absurd e k0)
     rw[Ty.aP,←cV] at et
     refine⟨i0,by rw[List.length_map];exact i1,_,_,by rw[M5];exact Ty.aq IX,_,_,_,_,et,_,ep hL,?_⟩
     rw[qR,hg,k2,decide_eq_true (show 0≤t.index∧t.index<((Dh n ps sts l ms).ms.length:Int) from⟨i0,i1⟩),Bool.true_and]
     rfl
    ·rw[List.length_map] at h4
     have:¬t.index<(ms.length:Int):=by simpa using h4
     omega
    ·have:¬0≤t.index:=by simpa using h3
     omega
   have k2:¬t.kind=2:=by simpa using h
   rw[if_neg k2]
   refine ai.intro (fun h=>?_) fun h=>?_
   ·have k1:t.kind=1:=by simpa using h
    rw[if_pos k1]
    refine ai.intro (fun h3=>?_) fun h3=>?_
    ·have h5:¬l.kind=1:=by simpa using h3
     rw[if_neg (show ¬(Dh n ps sts l ms).fk=1 from h5)]
    ·have hf:l.kind=1:=by simpa using h3
     rw[if_pos (show (Dh n ps sts l ms).fk=1 from hf)]
     refine ai.intro (fun h4=>?_) fun h4=>?_
     ·have hi:t.index=l.index:=by
       have:t.kind=l.kind∧t.index=l.index:=by simpa using h4
       exact this.2
      rw[if_pos (show t.index=(Dh n ps sts l ms).fi from hi)]
      exact⟨_,zU pK,_,De (eR hl) hta,rfl⟩
     ·have hi:¬t.index=l.index:=fun e=>by
       rw[k1,hf,e] at h4
       simp at h4
      rw[if_neg (show ¬t.index=(Dh n ps sts l ms).fi from hi)]
      exact⟨_,wH hp,rfl⟩
   ·rw[if_neg (by simpa using h)]
section
structure Lk where
 d:Int
 s:Int
 ka:Int
 kr:List AV
 od:Int
 ow:Int
 fe:List (ByteArray×Value)
def iq (R:Rk) (C:Cx) (v:Lk):Prop:=(v.d=0∨¬v.d=0∧v.kr=R.rows)∧¬v.od=0∧gJ C v.fe
def fJ (R:Rk) (l:Tm) (ms:List Ty):Cx:=⟨l.kind,l.index,l.args,ms,R.nL,R.stat⟩
structure mi (l:Tm) (ms:List Ty):Prop where
 left:l.size≤1000000
 small:∀x∈ms,x.size≤1000
theorem mi.sizes {l:Tm} {ms:List Ty} (h:mi l ms):Tm.sizes l.args≤1000000:=by have:=l.size_eq;have:=h.left;omega
theorem mi.acc {l:Tm} {ms:List Ty} (h:mi l ms):bH (ew l.args):=⟨Nat.le_trans (qI _) h.sizes,fun x hx=>Nat.le_trans (xA hx) h.sizes⟩
theorem Di (C:Cx) (t:Tm):jD C t=(decide (t∈ew C.la)||(decide (Tm.mk [] t.kind t.index t.args∈ew C.la)||(mE C t.kind t.index t.args&&ma C t.args))):=by rw[MB,Bool.or_assoc]
theorem Dj (C:Cx) (l:List Tm):(!decide (jE (fun t=>!jD C t) l 0≥0))=ma C l:=by
 rw[qK,MC]
 induction l with
 |nil=>rfl
 |cons t l ih=>rw[List.any_cons,List.all_cons,Bool.not_or,ih,Bool.not_not]
theorem GX {p:Prop} (h:p):p∧(p∧p)∧(p∧p):=⟨h,⟨h,h⟩,⟨h,h⟩⟩
theorem vM {t:Ty} {i:Int} (h:t.size≤1000):ag Tryz.prog 174 [.agg [nI 2,nI i],.agg [.sl (t.args.map Ty.enc),nI t.base]] (dp (po 2 i t)):=by
 have et:=E2 t.size t 2 i (Nat.le_refl _) h (fun e=>absurd e (by decide))
 rwa [Ty.aP,←cV] at et
abbrev Qu (R:Rk) (l r:Tm) (ms:List Ty) (v:Lk):List af:=nr R.ke R.n (au R.ps) v.d 0 v.s v.kr v.ka R.kt v.fe (l.binds.map Ty.enc) l.kind l.index (l.args.map Tm.enc) (r.binds.map Ty.enc) r.kind r.index (r.args.map Tm.enc) (ms.map Ty.enc) ((ew l.args).map Tm.enc) v.od 0 v.ow
abbrev Iz (R:Rk) (l r:Tm) (ms:List Ty) (v:Lk):List af:=qq R.ke R.n (au R.ps) v.d 0 v.s v.kr v.ka R.kt v.fe (l.binds.map Ty.enc) l.kind l.index (l.args.map Tm.enc) (r.binds.map Ty.enc) r.kind r.index (r.args.map Tm.enc) (ms.map Ty.enc) ((ew l.args).map Tm.enc) v.od 0 v.ow
abbrev Dk (R:Rk) (l r:Tm) (ms:List Ty) (t:Tm) (v:Lk):List af:=ph R.ke R.n (au R.ps) v.d 0 v.s v.kr v.ka R.kt v.fe (l.binds.map Ty.enc) l.kind l.index (l.args.map Tm.enc) (r.binds.map Ty.enc) r.kind r.index (r.args.map Tm.enc) (ms.map Ty.enc) ((ew l.args).map Tm.enc) v.od 0 v.ow (t.binds.map Ty.enc) t.kind t.index (t.args.map Tm.enc)
abbrev Fp (om:Int) (m:AV) (R:Rk) (l r:Tm) (ms:List Ty) (v:Lk):List af:=[.aB (.i R.ke),.box [nI R.n,.sl (au R.ps),.mp 0,.ae (.int .u32 v.d),.ae (.int .i32 0),.ae (.int .u32 v.s),.sl v.kr,nI v.ka,.sl R.kt],.box [.sl (l.binds.map Ty.enc),nI l.kind,nI l.index,.sl (l.args.map Tm.enc),.sl (r.binds.map Ty.enc),nI r.kind,nI r.index,.sl (r.args.map Tm.enc),.sl (ms.map Ty.enc),.ptr 1 0,.sl ((ew l.args).map Tm.enc),.ae (.int .u32 v.od),.ae (.int .i32 om),.ae (.int .u32 v.ow),m]]
variable {R:Rk} {l r:Tm} {ms:List Ty}
theorem zV (hp:mi l ms) {i:Int} (v:Lk):bp Tryz.prog 130 [.ptr 3 0,nI i] (Qu R l r ms v) (fun x q=>x=nB (Cx.var (fJ R l ms) i)∧q=Qu R l r ms v):=by
 have bad:¬(0≤i∧i<(ms.length:Int))→nB false=nB ((fJ R l ms).var i):=fun h=>by rw[Cx.var,decide_eq_false (show ¬(0≤i∧i<((fJ R l ms).ms.length:Int)) from h),Bool.false_and]
 refine yW (ai.intro (fun h=>⟨bad ?_,rfl⟩) fun h1=>ai.intro (fun h=>⟨bad ?_,rfl⟩) fun h2=>?_)
 ·have:=of_decide_eq_true h;omega
 ·rw[List.length_map] at h
  have:=of_decide_eq_true h;omega
 ·have i0:0≤i:=by
   have:=of_decide_eq_false h1;omega
  have i1:i<(ms.length:Int):=by
   rw[List.length_map] at h2
   have:=of_decide_eq_false h2;omega
  obtain⟨m,M5⟩:∃m:Nat,i=m:=⟨i.toNat,by omega⟩
  have IX:m<ms.length:=by omega
  have hg:(fJ R l ms).ms.getD i.toNat (.mk [] 0)=ms[m]:=by
   show ms.getD i.toNat (.mk [] 0)=ms[m]
   rw[M5,Int.toNat_natCast,List.getD_eq_getElem?_getD,List.getElem?_eq_getElem IX];rfl
  refine⟨i0,by rw[List.length_map];exact i1,_,_,by rw[M5];exact Ty.aq IX,_,_,_,_,vM (hp.small _ (List.getElem_mem IX)),_,eQ (t:=po 2 i ms[m]) hp.acc,?_,rfl⟩
  rw[Cx.var,hg,decide_eq_true (show 0≤i∧i<((fJ R l ms).ms.length:Int) from⟨i0,i1⟩),Bool.true_and];rfl
def qS (R:Rk) (l r:Tm) (ms:List Ty) (t:Tm):Prop:=∀v,iq R (fJ R l ms) v→bp Tryz.prog 39 [.ptr 3 0,dp t] (Qu R l r ms v) (fun x q=>x=nB (jD (fJ R l ms) t)∧∃v',iq R (fJ R l ms) v'∧q=Qu R l r ms v')
theorem wI {t:Tm} {v:Lk} (hi:qS R l r ms t) (hv:iq R (fJ R l ms) v):bp Tryz.prog 173 [dp t,.ptr 4 0] (Iz R l r ms v) (fun x q=>x=nB (!jD (fJ R l ms) t)∧∃v',iq R (fJ R l ms) v'∧q=Iz R l r ms v'):=
 wz ⟨_,hi v hv,fun x q ⟨e1,v',h1,e2⟩=>⟨_,_,_,_,_,_,_,_,_,_,_,_,_,_,_,_,_,_,_,_,_,_,_,_,⟨e1,e2⟩,rfl,v',h1,rfl⟩⟩
theorem zW {ts:List Tm} {v:Lk} (hl:ts.length≤1000000) (hi:∀t∈ts,qS R l r ms t) (hv:iq R (fJ R l ms) v):
  bp Tryz.prog 134 [.sl (ts.map Tm.enc),.aK 173 [.ptr 4 0]] (Iz R l r ms v) (fun x q=>x=nI (jE (fun t=>!jD (fJ R l ms) t) ts 0)∧∃v',iq R (fJ R l ms) v'∧q=Iz R l r ms v'):=by
 refine yZ (ax.intro (fun p:Nat×Lk=>((ts.map Tm.enc,((),()),(ts.length:Int),(p.1:Int),()),(R.ke,(((R.n:Nat):Int),au R.ps,(),p.2.d,0,p.2.s,p.2.kr,p.2.ka,R.kt,()),p.2.fe,(l.binds.map Ty.enc,l.kind,l.index,l.args.map Tm.enc,r.binds.map Ty.enc,r.kind,r.index,r.args.map Tm.enc,ms.map Ty.enc,(),(ew l.args).map Tm.enc,p.2.od,0,p.2.ow,(),()),((),()),()))) (fun p=>p.1≤ts.length∧iq R (fJ R l ms) p.2∧jE (fun t=>!jD (fJ R l ms) t) ts 0=jE (fun t=>!jD (fJ R l ms) t) (ts.drop p.1) p.1) (fun p=>ts.length-p.1) (0,v) (by rw[List.length_map];rfl) ⟨Nat.zero_le _,hv,rfl⟩ ?_)
 intro ⟨k,v⟩ ⟨hk,hv,hs⟩ again bJ
 dsimp only at hk hv hs ⊢
 refine ai.intro (fun h=>?_) fun h=>?_
 ·have ak:k<ts.length:=by simpa using h
  rw[List.drop_eq_getElem_cons ak,jE] at hs
  refine⟨by omega,by rw[List.length_map];omega,_,_,_,_,Tm.aq ak,_,wI (hi _ (List.getElem_mem ak)) hv,fun x q ⟨e1,v',h1,e2⟩=>⟨_,_,_,_,_,_,_,_,_,_,_,_,_,_,_,_,_,_,_,_,_,_,_,_,⟨e1,e2⟩,ai.intro (fun h=>?_) fun h=>?_⟩⟩
  ·rw[if_pos h] at hs
   exact⟨by rw[hs],v',h1,rfl⟩
  ·rw[if_neg (by rw[h];decide)] at hs
   rw[aD (by omega)]
   exact bJ (k+1,v') ⟨by dsimp only;omega,h1,hs⟩ (by dsimp only;omega)
 ·have:ts.length≤k:=by simpa using h
  rw[List.drop_eq_nil_of_le this] at hs
  exact⟨by rw[hs];rfl,v,hv,rfl⟩
theorem zX {ts:List Tm} {v:Lk} (hl:ts.length≤1000000) (hi:∀t∈ts,qS R l r ms t) (hv:iq R (fJ R l ms) v):
  bp Tryz.prog 85 [.sl (ts.map Tm.enc),.aK 173 [.ptr 4 0]] (Iz R l r ms v) (fun x q=>x=nB (decide (jE (fun t=>!jD (fJ R l ms) t) ts 0≥0))∧∃v',iq R (fJ R l ms) v'∧q=Iz R l r ms v'):=
 y3 ⟨_,zW hl hi hv,fun x q ⟨e1,v',h1,e2⟩=>⟨_,_,_,_,_,_,_,_,_,_,_,_,_,_,_,_,_,_,_,_,_,_,_,_,⟨e1,e2⟩,rfl,v',h1,rfl⟩⟩
theorem zY {ts:List Tm} {v:Lk} (hl:ts.length≤1000000) (hi:∀t∈ts,qS R l r ms t) (hv:iq R (fJ R l ms) v):
  bp Tryz.prog 129 [.ptr 3 0,.sl (ts.map Tm.enc)] (Qu R l r ms v) (fun x q=>x=nB (ma (fJ R l ms) ts)∧∃v',iq R (fJ R l ms) v'∧q=Qu R l r ms v'):=
 y5 ⟨_,zX hl hi hv,fun x q ⟨e1,v',h1,e2⟩=>⟨_,_,_,_,_,_,_,_,_,_,_,_,_,_,_,_,_,_,_,_,_,_,_,_,⟨e1,e2⟩,by rw[Dj],v',h1,rfl⟩⟩
theorem wJ (hp:mi l ms) (hR:R.Ok) (hk:∀c,∃n,Option.getD (aC R.ke c) (.int .i64 0)=.int .i64 n) {k i:Int} {a:List Tm} {v:Lk} (ha:bH a) (hi:∀t∈a,qS R l r ms t) (hv:iq R (fJ R l ms) v):
  bp Tryz.prog 76 [.ptr 3 0,.agg [.ae (.slice none 0 0),nI k,nI i,.sl (a.map Tm.enc)]] (Qu R l r ms v) (fun x q=>x=nB (mE (fJ R l ms) k i a&&ma (fJ R l ms) a)∧∃v',iq R (fJ R l ms) v'∧q=Qu R l r ms v'):=by
 have mS:=fun(v:Lk) (hv:iq R (fJ R l ms) v)=>zY ha.1 hi hv
 have hh:mE (fJ R l ms) k i a=(if k=0 then true else if k=2 then(fJ R l ms).var i else if k=1 then(if l.kind=1 then(if i=l.index then qJ (R.stat l.index) l.args a else R.nL l.index i) else false) else false):=rfl
 refine wy (ai.intro (fun h=>?_) fun h=>ai.intro (fun h2=>?_) fun h2=>ai.intro (fun h3=>?_) fun h3=>?_)
 ·refine⟨_,mS v hv,fun x q ⟨e1,v',g1,e2⟩=>⟨_,_,_,_,_,_,_,_,_,_,_,_,_,_,_,_,_,_,_,_,_,_,_,_,⟨e1,e2⟩,?_,v',g1,rfl⟩⟩
  rw[hh,if_pos (by simpa using h),Bool.true_and]
 ·rw[if_neg (by simpa using h),if_pos (by simpa using h2)] at hh
  refine⟨_,zV hp v,fun x q ⟨e1,e2⟩=>⟨_,_,_,_,_,_,_,_,_,_,_,_,_,_,_,_,_,_,_,_,_,_,_,_,⟨e1,e2⟩,ai.intro (fun h3=>?_) fun h3=>⟨?_,v,hv,rfl⟩⟩⟩
  ·refine⟨_,mS v hv,fun x q ⟨e1,v',g1,e2⟩=>⟨_,_,_,_,_,_,_,_,_,_,_,_,_,_,_,_,_,_,_,_,_,_,_,_,⟨e1,e2⟩,?_,v',g1,rfl⟩⟩
   rw[hh,h3,Bool.true_and]
  ·rw[hh,h3,Bool.false_and]
 ·have k1:k=1:=by simpa using h3
  rw[if_neg (by simpa using h),if_neg (by simpa using h2),if_pos k1] at hh
  refine ai.intro (fun h4=>⟨?_,v,hv,rfl⟩) fun h4=>?_
  ·rw[hh,if_neg (by simpa using h4),Bool.false_and]
  have l1:l.kind=1:=by simpa using h4
  rw[if_pos l1] at hh
  refine ai.intro (fun h5=>?_) fun h5=>?_
  ·have hi:i=l.index:=by
    have:k=l.kind∧i=l.index:=by simpa using h5
    exact this.2
   rw[if_pos hi] at hh
   refine⟨_,mS v hv,fun x q ⟨e1,v',g1,e2⟩=>⟨_,_,_,_,_,_,_,_,_,_,_,_,_,_,_,_,_,_,_,_,_,_,_,_,⟨e1,e2⟩,ai.intro (fun h6=>?_) fun h6=>?_⟩⟩
   ·refine GX ⟨_,zO ⟨v'.d,v'.s,v'.ka,v'.kr,rfl,g1.1⟩ _ (hk _),fun x q ⟨e1,d2,s2,Ig,Ih,e2,g2⟩=>⟨_,_,_,_,_,_,_,_,_,_,⟨e1,e2⟩,_,vF (eR hp.left) ha,?_,⟨d2,s2,Ig,Ih,v'.od,v'.ow,v'.fe⟩,⟨g2,g1.2⟩,rfl⟩⟩
    rw[hh,h6,Bool.and_true]
   ·have e:nB false=nB (mE (fJ R l ms) k i a&&ma (fJ R l ms) a):=by rw[h6,Bool.and_false]
    exact GX ⟨e,v',g1,rfl⟩
  ·have hi:¬i=l.index:=fun e=>by
    rw[k1,l1,e] at h5
    simp at h5
   rw[if_neg hi] at hh
   refine⟨_,sB hR ⟨v.d,v.s,v.ka,v.kr,rfl,hv.1⟩ _ _,fun x q ⟨e1,d2,s2,Ig,Ih,e2,g2⟩=>⟨_,_,_,_,_,_,_,_,_,_,⟨e1,e2⟩,ai.intro (fun h6=>?_) fun h6=>⟨?_,⟨d2,s2,Ig,Ih,v.od,v.ow,v.fe⟩,⟨g2,hv.2⟩,rfl⟩⟩⟩
   ·refine⟨_,mS ⟨d2,s2,Ig,Ih,v.od,v.ow,v.fe⟩ ⟨g2,hv.2⟩,fun x q ⟨e1,v',g1,e2⟩=>⟨_,_,_,_,_,_,_,_,_,_,_,_,_,_,_,_,_,_,_,_,_,_,_,_,⟨e1,e2⟩,?_,v',g1,rfl⟩⟩
    rw[hh,h6,Bool.true_and]
   ·rw[hh,h6,Bool.false_and]
 ·refine⟨?_,v,hv,rfl⟩
  rw[hh,if_neg (by simpa using h),if_neg (by simpa using h2),if_neg (by simpa using h3),Bool.false_and]
theorem qT (hp:mi l ms) (hR:R.Ok) (hk:∀c,∃n,Option.getD (aC R.ke c) (.int .i64 0)=.int .i64 n) {t:Tm} {v:Lk} (ha:bH t.args) (hi:∀u∈t.args,qS R l r ms u) (hv:iq R (fJ R l ms) v):
  bp Tryz.prog 75 [.ptr 4 0,.ptr 5 0] (Dk R l r ms t v) (fun x q=>x=nB (jD (fJ R l ms) t)∧∃v',iq R (fJ R l ms) v'∧q=Dk R l r ms t v'):=by
 have fa:=fun(v:Lk) (hv:iq R (fJ R l ms) v)=>wJ (k:=t.kind) (i:=t.index) hp hR hk ha hi hv
 have e:=Di (fJ R l ms) t
 change jD (fJ R l ms) t=(decide (t∈ew l.args)||(decide (Tm.mk [] t.kind t.index t.args∈ew l.args)||(mE (fJ R l ms) t.kind t.index t.args&&ma (fJ R l ms) t.args))) at e
 refine y6 ⟨_,eQ (t:=t) hp.acc,ai.intro (fun h=>⟨?_,v,hv,rfl⟩) fun h=>ai.intro (fun h2=>?_) fun h2=>?_⟩
 ·rw[e,h];rfl
 ·refine⟨_,eQ (t:=.mk [] t.kind t.index t.args) hp.acc,ai.intro (fun h3=>⟨?_,v,hv,rfl⟩) fun h3=>⟨_,fa v hv,fun x q ⟨e1,v',g1,e2⟩=>⟨_,_,_,_,_,_,_,_,_,_,_,_,_,_,_,_,_,_,_,_,_,_,_,_,⟨e1,e2⟩,?_,v',g1,rfl⟩⟩⟩
  ·rw[e,h3,Bool.true_or,Bool.or_true]
  ·rw[e,h,h3];rfl
 ·have hb:t.binds=[]:=by
   cases hx:t.binds with
   |nil=>rfl
   |cons x y=>rw[hx] at h2;simp at h2
  have ht:Tm.mk [] t.kind t.index t.args=t:=by rw[←hb];cases t;rfl
  refine⟨_,fa v hv,fun x q ⟨e1,v',g1,e2⟩=>⟨_,_,_,_,_,_,_,_,_,_,_,_,_,_,_,_,_,_,_,_,_,_,_,_,⟨e1,e2⟩,?_,v',g1,rfl⟩⟩
  rw[e,ht,h];rfl
theorem Dl {t:Tm} {v:Lk} (hi:∀v,iq R (fJ R l ms) v→bp Tryz.prog 75 [.ptr 4 0,.ptr 5 0] (Dk R l r ms t v) (fun x q=>x=nB (jD (fJ R l ms) t)∧∃v',iq R (fJ R l ms) v'∧q=Dk R l r ms t v')) (hv:iq R (fJ R l ms) v):
  bp Tryz.prog 73 [.ptr 3 11,nS (ij t),.aK 75 [.ptr 4 0,.ptr 5 0]] (Dk R l r ms t v) (fun x q=>x=nB (jD (fJ R l ms) t)∧∃v',iq R (fJ R l ms) v'∧q=Dk R l r ms t v'):=by
 refine Cp ⟨_,jw (q:=3) (off:=11) (f:=121) (caps:=[.ptr 4 0]) (H:=Qu R l r ms v++[.box [.ptr 3 11]]) (d:=v.od) rfl rfl hv.2.1,?_⟩
 rintro x q ⟨rfl,rfl⟩
 cases hg:aC v.fe (ij t) with
 |none=>
  refine⟨_,_,_,_,_,_,_,_,_,_,_,_,_,_,_,_,_,_,_,_,_,_,_,⟨rfl,rfl⟩,by rw[hg];rfl,ai.pos (by rw[hg];rfl) ⟨_,hi v hv,fun x q ⟨e1,v',g1,e2⟩=>⟨_,_,_,_,_,_,_,_,_,_,_,_,_,_,_,_,_,_,_,_,_,_,_,_,_,_,_,_,⟨e1,e2⟩,rfl,⟨v'.d,v'.s,v'.ka,v'.kr,v'.od,v'.ow,bB v'.fe (ij t) (.bool (jD (fJ R l ms) t))⟩,⟨g1.1,g1.2.1,g1.2.2.put⟩,rfl⟩⟩⟩
 |some u=>
  have hu:=gJ.get hv.2.2 hg
  refine⟨_,_,_,_,_,_,_,_,_,_,_,_,_,_,_,_,_,_,_,_,_,_,_,⟨rfl,rfl⟩,by rw[hg,hu];rfl,ai.neg (by rw[hg];rfl) ⟨by rw[hg,hu];rfl,v,hv,rfl⟩⟩
theorem Dm (hp:mi l ms) (hR:R.Ok) (hk:∀c,∃n,Option.getD (aC R.ke c) (.int .i64 0)=.int .i64 n):∀(n:Nat) (t:Tm),t.size≤n→n<1000000→t.kj→qS R l r ms t:=by
 intro n
 induction n with
 |zero=>intro t h;have:=t.size_pos;omega
 |succ n ih=>
  intro t h hn vw v hv
  have tR:=t.size_eq
  have aw:∀u∈t.args,qS R l r ms u:=fun u hu=>ih u (by have:=Tm.bg hu;omega) (by omega) (Tm.iN (Tm.pr vw).2.2.2 _ hu)
  exact Cq ⟨_,mg (by omega) vw,_,Dl (fun v hv=>qT hp hR hk (eR (by omega)) aw hv) hv,fun x q ⟨e1,v',g1,e2⟩=>⟨_,_,_,_,_,_,_,_,_,_,_,_,_,_,_,_,_,_,_,_,_,_,_,_,_,_,_,_,⟨e1,e2⟩,rfl,v',g1,rfl⟩⟩
abbrev Rv (R:Rk) (l r:Tm) (ms:List Ty) (t:Tm) (v:Lk):List af:=Fp 0 (.mp 6) R l r ms v++[.box [.ptr 2 0],.box [.sl (t.binds.map Ty.enc),nI t.kind,nI t.index,.sl (t.args.map Tm.enc)],.box [.ptr 2 11],.aB (.s v.fe)]
theorem zZ {v:Lk}:bp Tryz.prog 121 [.ptr 3 0] (Fp 1 (.ae (.map none)) R l r ms v++[.box [.ptr 2 11]]) (fun x q=>x=.aX []∧q=Fp 1 (.mp 4) R l r ms v++[.box [.ptr 2 11],.aB (.s [])]):=
 y7 ⟨rfl,rfl⟩
theorem z6 {t:Tm} {v:Lk} (hi:∀v,iq R (fJ R l ms) v→bp Tryz.prog 75 [.ptr 4 0,.ptr 5 0] (Dk R l r ms t v) (fun x q=>x=nB (jD (fJ R l ms) t)∧∃v',iq R (fJ R l ms) v'∧q=Dk R l r ms t v')) (hv:v.od=0) (hd:v.d=0∨¬v.d=0∧v.kr=R.rows):
  bp Tryz.prog 73 [.ptr 2 11,nS (ij t),.aK 75 [.ptr 3 0,.ptr 4 0]] (Fp 0 (.ae (.map none)) R l r ms v++[.box [.ptr 2 0],.box [.sl (t.binds.map Ty.enc),nI t.kind,nI t.index,.sl (t.args.map Tm.enc)]]) (fun x q=>x=nB (jD (fJ R l ms) t)∧∃v',iq R (fJ R l ms) v'∧q=Rv R l r ms t v'):=by
 obtain⟨d,s,ka,kr,od,ow,fe⟩:=v
 dsimp only at hv hd
 subst hv
 refine y8 ⟨_,jv (q:=2) (off:=11) (f:=121) (caps:=[.ptr 3 0]) (H:=Fp 0 (.ae (.map none)) R l r ms ⟨d,s,ka,kr,0,ow,fe⟩++[.box [.ptr 2 11]])
  (R:=fun x q=>x=.aX []∧q=Fp 1 (.mp 4) R l r ms ⟨d,s,ka,kr,0,ow,fe⟩++[.box [.ptr 2 11],.aB (.s [])]) rfl rfl rfl (by exact zZ (v:=⟨d,s,ka,kr,0,ow,fe⟩)) (fun x q ⟨e1,e2⟩=>by subst e2;exact⟨e1,_,rfl,rfl,rfl⟩),?_⟩
 rintro x q ⟨rfl,h,cs',⟨-,rfl⟩,hq,rfl⟩
 cases hq
 have hv:iq R (fJ R l ms) ⟨d,s,ka,kr,1,ow,[]⟩:=⟨hd,Int.one_ne_zero,gJ.nil _⟩
 exact⟨_,_,_,_,_,_,_,_,_,_,_,_,_,_,_,_,_,_,_,_,_,_,_,⟨rfl,rfl⟩,rfl,ai.pos rfl ⟨_,hi _ hv,fun x q ⟨e1,v',g1,e2⟩=>⟨_,_,_,_,_,_,_,_,_,_,_,_,_,_,_,_,_,_,_,_,_,_,_,_,_,_,_,_,⟨e1,e2⟩,rfl,⟨v'.d,v'.s,v'.ka,v'.kr,v'.od,v'.ow,bB v'.fe (ij t) (.bool (jD (fJ R l ms) t))⟩,⟨g1.1,g1.2.1,g1.2.2.put⟩,rfl⟩⟩⟩
theorem z7 (hp:mi l ms) (hR:R.Ok) (hk:∀c,∃n,Option.getD (aC R.ke c) (.int .i64 0)=.int .i64 n) {t:Tm} {v:Lk} (ht:t.size<900000) (vw:t.kj) (hv:v.od=0) (hd:v.d=0∨¬v.d=0∧v.kr=R.rows):
  bp Tryz.prog 39 [.ptr 2 0,dp t] (Fp 0 (.ae (.map none)) R l r ms v) (fun x q=>x=nB (jD (fJ R l ms) t)∧∃v',iq R (fJ R l ms) v'∧q=Rv R l r ms t v'):=by
 have tR:=t.size_eq
 have aw:∀u∈t.args,qS R l r ms u:=fun u hu=>Dm hp hR hk 900000 u (by have:=Tm.bg hu;omega) (by omega) (Tm.iN (Tm.pr vw).2.2.2 _ hu)
 exact y9 ⟨_,mg (by omega) vw,_,z6 (fun v hv=>qT hp hR hk (eR (by omega)) aw hv) hv hd,fun x q ⟨e1,v',g1,e2⟩=>⟨_,_,_,_,_,_,_,_,_,_,_,_,_,_,_,_,_,_,_,_,_,_,_,_,_,_,_,_,⟨e1,e2⟩,rfl,v',g1,rfl⟩⟩
theorem pC (hp:mi l ms) (hR:R.Ok) (hk:∀c,∃n,Option.getD (aC R.ke c) (.int .i64 0)=.int .i64 n) {t:Tm} (ht:t.size<900000) (vw:t.kj) {h:List af} (hs:IW R h):
  bp Tryz.prog 10 [.ptr 1 0,qL l r ms,dp t] h (fun x q=>x=nB (jD (fJ R l ms) t)∧IW R q):=by
 obtain⟨d,s,ka,kr,rfl,hd⟩:=hs
 exact EH ⟨_,qM hp.sizes,_,z7 hp hR hk (v:=⟨d,s,ka,kr,0,0,[]⟩) ht vw rfl hd,fun x q ⟨e1,v',g1,e2⟩=>⟨_,_,_,_,_,_,_,_,_,_,_,_,_,_,_,_,_,_,_,_,_,_,_,_,_,_,_,_,⟨e1,e2⟩,rfl,v'.d,v'.s,v'.ka,v'.kr,rfl,g1.1⟩⟩
end
section
structure xF where
 od:Int
 ow:Int
 fe:List (ByteArray×Value)
def dV (C:Cx) (v:xF):Prop:=¬v.od=0∧gJ C v.fe
def gk (l:Tm) (ms:List Ty):Cx:=⟨l.kind,l.index,l.args,ms,fun _ _=>false,fun _=>0⟩
theorem z8 (a b:Int):ag Tryz.prog 70 [.ae (.pointer none),nI a,nI b] (nB false):=vf rfl
theorem wK (a:Int):ag Tryz.prog 131 [.ae (.pointer none),nI a] (nI 0):=tn rfl
abbrev Qv (l r:Tm) (ms:List Ty) (v:xF):List af:=nu v.fe (l.binds.map Ty.enc) l.kind l.index (l.args.map Tm.enc) (r.binds.map Ty.enc) r.kind r.index (r.args.map Tm.enc) (ms.map Ty.enc) ((ew l.args).map Tm.enc) v.od 0 v.ow
abbrev IA (l r:Tm) (ms:List Ty) (v:xF):List af:=qt v.fe (l.binds.map Ty.enc) l.kind l.index (l.args.map Tm.enc) (r.binds.map Ty.enc) r.kind r.index (r.args.map Tm.enc) (ms.map Ty.enc) ((ew l.args).map Tm.enc) v.od 0 v.ow
abbrev Dn (l r:Tm) (ms:List Ty) (t:Tm) (v:xF):List af:=pj v.fe (l.binds.map Ty.enc) l.kind l.index (l.args.map Tm.enc) (r.binds.map Ty.enc) r.kind r.index (r.args.map Tm.enc) (ms.map Ty.enc) ((ew l.args).map Tm.enc) v.od 0 v.ow (t.binds.map Ty.enc) t.kind t.index (t.args.map Tm.enc)
abbrev Fq (om:Int) (m:AV) (l r:Tm) (ms:List Ty) (v:xF):List af:=[.box [.sl (l.binds.map Ty.enc),nI l.kind,nI l.index,.sl (l.args.map Tm.enc),.sl (r.binds.map Ty.enc),nI r.kind,nI r.index,.sl (r.args.map Tm.enc),.sl (ms.map Ty.enc),.ae (.pointer none),.sl ((ew l.args).map Tm.enc),.ae (.int .u32 v.od),.ae (.int .i32 om),.ae (.int .u32 v.ow),m]]
variable {l r:Tm} {ms:List Ty}
theorem Aa (hp:mi l ms) {i:Int} (v:xF):bp Tryz.prog 130 [.ptr 1 0,nI i] (Qv l r ms v) (fun x q=>x=nB (Cx.var (gk l ms) i)∧q=Qv l r ms v):=by
 have bad:¬(0≤i∧i<(ms.length:Int))→nB false=nB ((gk l ms).var i):=fun h=>by rw[Cx.var,decide_eq_false (show ¬(0≤i∧i<((gk l ms).ms.length:Int)) from h),Bool.false_and]
 refine za (ai.intro (fun h=>⟨bad ?_,rfl⟩) fun h1=>ai.intro (fun h=>⟨bad ?_,rfl⟩) fun h2=>?_)
 ·have:=of_decide_eq_true h;omega
 ·rw[List.length_map] at h
  have:=of_decide_eq_true h;omega
 ·have i0:0≤i:=by
   have:=of_decide_eq_false h1;omega
  have i1:i<(ms.length:Int):=by
   rw[List.length_map] at h2
   have:=of_decide_eq_false h2;omega
  obtain⟨m,M5⟩:∃m:Nat,i=m:=⟨i.toNat,by omega⟩
  have IX:m<ms.length:=by omega
  have hg:(gk l ms).ms.getD i.toNat (.mk [] 0)=ms[m]:=by
   show ms.getD i.toNat (.mk [] 0)=ms[m]
   rw[M5,Int.toNat_natCast,List.getD_eq_getElem?_getD,List.getElem?_eq_getElem IX];rfl
  refine⟨i0,by rw[List.length_map];exact i1,_,_,by rw[M5];exact Ty.aq IX,_,_,_,_,vM (hp.small _ (List.getElem_mem IX)),_,eQ (t:=po 2 i ms[m]) hp.acc,?_,rfl⟩
  rw[Cx.var,hg,decide_eq_true (show 0≤i∧i<((gk l ms).ms.length:Int) from⟨i0,i1⟩),Bool.true_and];rfl
def qU (l r:Tm) (ms:List Ty) (t:Tm):Prop:=∀v,dV (gk l ms) v→bp Tryz.prog 39 [.ptr 1 0,dp t] (Qv l r ms v) (fun x q=>x=nB (jD (gk l ms) t)∧∃v',dV (gk l ms) v'∧q=Qv l r ms v')
theorem wL {t:Tm} {v:xF} (hi:qU l r ms t) (hv:dV (gk l ms) v):bp Tryz.prog 173 [dp t,.ptr 2 0] (IA l r ms v) (fun x q=>x=nB (!jD (gk l ms) t)∧∃v',dV (gk l ms) v'∧q=IA l r ms v'):=
 wB ⟨_,hi v hv,fun x q ⟨e1,v',h1,e2⟩=>⟨_,_,_,_,_,_,_,_,_,_,_,_,_,_,_,⟨e1,e2⟩,rfl,v',h1,rfl⟩⟩
theorem Ab {ts:List Tm} {v:xF} (hl:ts.length≤1000000) (hi:∀t∈ts,qU l r ms t) (hv:dV (gk l ms) v):
  bp Tryz.prog 134 [.sl (ts.map Tm.enc),.aK 173 [.ptr 2 0]] (IA l r ms v) (fun x q=>x=nI (jE (fun t=>!jD (gk l ms) t) ts 0)∧∃v',dV (gk l ms) v'∧q=IA l r ms v'):=by
 refine zd (ax.intro (fun p:Nat×xF=>((ts.map Tm.enc,((),()),(ts.length:Int),(p.1:Int),()),(p.2.fe,(l.binds.map Ty.enc,l.kind,l.index,l.args.map Tm.enc,r.binds.map Ty.enc,r.kind,r.index,r.args.map Tm.enc,ms.map Ty.enc,(),(ew l.args).map Tm.enc,p.2.od,0,p.2.ow,(),()),((),()),()))) (fun p=>p.1≤ts.length∧dV (gk l ms) p.2∧jE (fun t=>!jD (gk l ms) t) ts 0=jE (fun t=>!jD (gk l ms) t) (ts.drop p.1) p.1) (fun p=>ts.length-p.1) (0,v) (by rw[List.length_map];rfl) ⟨Nat.zero_le _,hv,rfl⟩ ?_)
 intro ⟨k,v⟩ ⟨hk,hv,hs⟩ again bJ
 dsimp only at hk hv hs ⊢
 refine ai.intro (fun h=>?_) fun h=>?_
 ·have ak:k<ts.length:=by simpa using h
  rw[List.drop_eq_getElem_cons ak,jE] at hs
  refine⟨by omega,by rw[List.length_map];omega,_,_,_,_,Tm.aq ak,_,wL (hi _ (List.getElem_mem ak)) hv,fun x q ⟨e1,v',h1,e2⟩=>⟨_,_,_,_,_,_,_,_,_,_,_,_,_,_,_,⟨e1,e2⟩,ai.intro (fun h=>?_) fun h=>?_⟩⟩
  ·rw[if_pos h] at hs
   exact⟨by rw[hs],v',h1,rfl⟩
  ·rw[if_neg (by rw[h];decide)] at hs
   rw[aD (by omega)]
   exact bJ (k+1,v') ⟨by dsimp only;omega,h1,hs⟩ (by dsimp only;omega)
 ·have:ts.length≤k:=by simpa using h
  rw[List.drop_eq_nil_of_le this] at hs
  exact⟨by rw[hs];rfl,v,hv,rfl⟩
theorem Ac {ts:List Tm} {v:xF} (hl:ts.length≤1000000) (hi:∀t∈ts,qU l r ms t) (hv:dV (gk l ms) v):
  bp Tryz.prog 85 [.sl (ts.map Tm.enc),.aK 173 [.ptr 2 0]] (IA l r ms v) (fun x q=>x=nB (decide (jE (fun t=>!jD (gk l ms) t) ts 0≥0))∧∃v',dV (gk l ms) v'∧q=IA l r ms v'):=
 ze ⟨_,Ab hl hi hv,fun x q ⟨e1,v',h1,e2⟩=>⟨_,_,_,_,_,_,_,_,_,_,_,_,_,_,_,⟨e1,e2⟩,rfl,v',h1,rfl⟩⟩
theorem Ad {ts:List Tm} {v:xF} (hl:ts.length≤1000000) (hi:∀t∈ts,qU l r ms t) (hv:dV (gk l ms) v):
  bp Tryz.prog 129 [.ptr 1 0,.sl (ts.map Tm.enc)] (Qv l r ms v) (fun x q=>x=nB (ma (gk l ms) ts)∧∃v',dV (gk l ms) v'∧q=Qv l r ms v'):=
 zf ⟨_,Ac hl hi hv,fun x q ⟨e1,v',h1,e2⟩=>⟨_,_,_,_,_,_,_,_,_,_,_,_,_,_,_,⟨e1,e2⟩,by rw[Dj],v',h1,rfl⟩⟩
theorem wM (hp:mi l ms) {k i:Int} {a:List Tm} {v:xF} (ha:bH a) (hi:∀t∈a,qU l r ms t) (hv:dV (gk l ms) v):
  bp Tryz.prog 76 [.ptr 1 0,.agg [.ae (.slice none 0 0),nI k,nI i,.sl (a.map Tm.enc)]] (Qv l r ms v) (fun x q=>x=nB (mE (gk l ms) k i a&&ma (gk l ms) a)∧∃v',dV (gk l ms) v'∧q=Qv l r ms v'):=by
 have mS:=fun(v:xF) (hv:dV (gk l ms) v)=>Ad ha.1 hi hv
 have hh:mE (gk l ms) k i a=(if k=0 then true else if k=2 then(gk l ms).var i else if k=1 then(if l.kind=1 then(if i=l.index then qJ (0) l.args a else false) else false) else false):=rfl
 refine wA (ai.intro (fun h=>?_) fun h=>ai.intro (fun h2=>?_) fun h2=>ai.intro (fun h3=>?_) fun h3=>?_)
 ·refine⟨_,mS v hv,fun x q ⟨e1,v',g1,e2⟩=>⟨_,_,_,_,_,_,_,_,_,_,_,_,_,_,_,⟨e1,e2⟩,?_,v',g1,rfl⟩⟩
  rw[hh,if_pos (by simpa using h),Bool.true_and]
 ·rw[if_neg (by simpa using h),if_pos (by simpa using h2)] at hh
  refine⟨_,Aa hp v,fun x q ⟨e1,e2⟩=>⟨_,_,_,_,_,_,_,_,_,_,_,_,_,_,_,⟨e1,e2⟩,ai.intro (fun h3=>?_) fun h3=>⟨?_,v,hv,rfl⟩⟩⟩
  ·refine⟨_,mS v hv,fun x q ⟨e1,v',g1,e2⟩=>⟨_,_,_,_,_,_,_,_,_,_,_,_,_,_,_,⟨e1,e2⟩,?_,v',g1,rfl⟩⟩
   rw[hh,h3,Bool.true_and]
  ·rw[hh,h3,Bool.false_and]
 ·have k1:k=1:=by simpa using h3
  rw[if_neg (by simpa using h),if_neg (by simpa using h2),if_pos k1] at hh
  refine ai.intro (fun h4=>⟨?_,v,hv,rfl⟩) fun h4=>?_
  ·rw[hh,if_neg (by simpa using h4),Bool.false_and]
  have l1:l.kind=1:=by simpa using h4
  rw[if_pos l1] at hh
  refine ai.intro (fun h5=>?_) fun h5=>?_
  ·have hi:i=l.index:=by
    have:k=l.kind∧i=l.index:=by simpa using h5
    exact this.2
   rw[if_pos hi] at hh
   refine⟨_,mS v hv,fun x q ⟨e1,v',g1,e2⟩=>⟨_,_,_,_,_,_,_,_,_,_,_,_,_,_,_,⟨e1,e2⟩,ai.intro (fun h6=>?_) fun h6=>?_⟩⟩
   ·refine⟨_,wK _,_,vF (eR hp.left) ha,?_,v',g1,rfl⟩
    rw[hh,h6,Bool.and_true]
   ·have e:nB false=nB (mE (gk l ms) k i a&&ma (gk l ms) a):=by rw[h6,Bool.and_false]
    exact⟨e,v',g1,rfl⟩
  ·have hi:¬i=l.index:=fun e=>by
    rw[k1,l1,e] at h5
    simp at h5
   rw[if_neg hi] at hh
   refine⟨_,z8 _ _,ai.neg rfl ⟨?_,v,hv,rfl⟩⟩
   rw[hh,Bool.false_and]
 ·refine⟨?_,v,hv,rfl⟩
  rw[hh,if_neg (by simpa using h),if_neg (by simpa using h2),if_neg (by simpa using h3),Bool.false_and]
theorem qV (hp:mi l ms) {t:Tm} {v:xF} (ha:bH t.args) (hi:∀u∈t.args,qU l r ms u) (hv:dV (gk l ms) v):
  bp Tryz.prog 75 [.ptr 2 0,.ptr 3 0] (Dn l r ms t v) (fun x q=>x=nB (jD (gk l ms) t)∧∃v',dV (gk l ms) v'∧q=Dn l r ms t v'):=by
 have fa:=fun(v:xF) (hv:dV (gk l ms) v)=>wM (k:=t.kind) (i:=t.index) hp ha hi hv
 have e:=Di (gk l ms) t
 change jD (gk l ms) t=(decide (t∈ew l.args)||(decide (Tm.mk [] t.kind t.index t.args∈ew l.args)||(mE (gk l ms) t.kind t.index t.args&&ma (gk l ms) t.args))) at e
 refine zg ⟨_,eQ (t:=t) hp.acc,ai.intro (fun h=>⟨?_,v,hv,rfl⟩) fun h=>ai.intro (fun h2=>?_) fun h2=>?_⟩
 ·rw[e,h];rfl
 ·refine⟨_,eQ (t:=.mk [] t.kind t.index t.args) hp.acc,ai.intro (fun h3=>⟨?_,v,hv,rfl⟩) fun h3=>⟨_,fa v hv,fun x q ⟨e1,v',g1,e2⟩=>⟨_,_,_,_,_,_,_,_,_,_,_,_,_,_,_,⟨e1,e2⟩,?_,v',g1,rfl⟩⟩⟩
  ·rw[e,h3,Bool.true_or,Bool.or_true]
  ·rw[e,h,h3];rfl
 ·have hb:t.binds=[]:=by
   cases hx:t.binds with
   |nil=>rfl
   |cons x y=>rw[hx] at h2;simp at h2
  have ht:Tm.mk [] t.kind t.index t.args=t:=by rw[←hb];cases t;rfl
  refine⟨_,fa v hv,fun x q ⟨e1,v',g1,e2⟩=>⟨_,_,_,_,_,_,_,_,_,_,_,_,_,_,_,⟨e1,e2⟩,?_,v',g1,rfl⟩⟩
  rw[e,ht,h];rfl
theorem Dp {t:Tm} {v:xF} (hi:∀v,dV (gk l ms) v→bp Tryz.prog 75 [.ptr 2 0,.ptr 3 0] (Dn l r ms t v) (fun x q=>x=nB (jD (gk l ms) t)∧∃v',dV (gk l ms) v'∧q=Dn l r ms t v')) (hv:dV (gk l ms) v):
  bp Tryz.prog 73 [.ptr 1 11,nS (ij t),.aK 75 [.ptr 2 0,.ptr 3 0]] (Dn l r ms t v) (fun x q=>x=nB (jD (gk l ms) t)∧∃v',dV (gk l ms) v'∧q=Dn l r ms t v'):=by
 refine Cr ⟨_,jw (q:=1) (off:=11) (f:=121) (caps:=[.ptr 2 0]) (H:=Qv l r ms v++[.box [.ptr 1 11]]) (d:=v.od) rfl rfl hv.1,?_⟩
 rintro x q ⟨rfl,rfl⟩
 cases hg:aC v.fe (ij t) with
 |none=>
  refine⟨_,_,_,_,_,_,_,_,_,_,_,_,_,_,⟨rfl,rfl⟩,by rw[hg];rfl,ai.pos (by rw[hg];rfl) ⟨_,hi v hv,fun x q ⟨e1,v',g1,e2⟩=>⟨_,_,_,_,_,_,_,_,_,_,_,_,_,_,_,_,_,_,_,⟨e1,e2⟩,rfl,⟨v'.od,v'.ow,bB v'.fe (ij t) (.bool (jD (gk l ms) t))⟩,⟨g1.1,g1.2.put⟩,rfl⟩⟩⟩
 |some u=>
  have hu:=gJ.get hv.2 hg
  refine⟨_,_,_,_,_,_,_,_,_,_,_,_,_,_,⟨rfl,rfl⟩,by rw[hg,hu];rfl,ai.neg (by rw[hg];rfl) ⟨by rw[hg,hu];rfl,v,hv,rfl⟩⟩
theorem Dq (hp:mi l ms):∀(n:Nat) (t:Tm),t.size≤n→n<1000000→t.kj→qU l r ms t:=by
 intro n
 induction n with
 |zero=>intro t h;have:=t.size_pos;omega
 |succ n ih=>
  intro t h hn vw v hv
  have tR:=t.size_eq
  have aw:∀u∈t.args,qU l r ms u:=fun u hu=>ih u (by have:=Tm.bg hu;omega) (by omega) (Tm.iN (Tm.pr vw).2.2.2 _ hu)
  exact Cs ⟨_,mg (by omega) vw,_,Dp (fun v hv=>qV hp (eR (by omega)) aw hv) hv,fun x q ⟨e1,v',g1,e2⟩=>⟨_,_,_,_,_,_,_,_,_,_,_,_,_,_,_,_,_,_,_,⟨e1,e2⟩,rfl,v',g1,rfl⟩⟩
abbrev Rx (l r:Tm) (ms:List Ty) (t:Tm) (v:xF):List af:=Fq 0 (.mp 4) l r ms v++[.box [.ptr 0 0],.box [.sl (t.binds.map Ty.enc),nI t.kind,nI t.index,.sl (t.args.map Tm.enc)],.box [.ptr 0 11],.aB (.s v.fe)]
theorem Ae {v:xF}:bp Tryz.prog 121 [.ptr 1 0] (Fq 1 (.ae (.map none)) l r ms v++[.box [.ptr 0 11]]) (fun x q=>x=.aX []∧q=Fq 1 (.mp 2) l r ms v++[.box [.ptr 0 11],.aB (.s [])]):=
 zh ⟨rfl,rfl⟩
theorem Af {t:Tm} {v:xF} (hi:∀v,dV (gk l ms) v→bp Tryz.prog 75 [.ptr 2 0,.ptr 3 0] (Dn l r ms t v) (fun x q=>x=nB (jD (gk l ms) t)∧∃v',dV (gk l ms) v'∧q=Dn l r ms t v')) (hv:v.od=0):
  bp Tryz.prog 73 [.ptr 0 11,nS (ij t),.aK 75 [.ptr 1 0,.ptr 2 0]] (Fq 0 (.ae (.map none)) l r ms v++[.box [.ptr 0 0],.box [.sl (t.binds.map Ty.enc),nI t.kind,nI t.index,.sl (t.args.map Tm.enc)]]) (fun x q=>x=nB (jD (gk l ms) t)∧∃v',dV (gk l ms) v'∧q=Rx l r ms t v'):=by
 obtain⟨od,ow,fe⟩:=v
 dsimp only at hv
 subst hv
 refine zi ⟨_,jv (q:=0) (off:=11) (f:=121) (caps:=[.ptr 1 0]) (H:=Fq 0 (.ae (.map none)) l r ms ⟨0,ow,fe⟩++[.box [.ptr 0 11]])
  (R:=fun x q=>x=.aX []∧q=Fq 1 (.mp 2) l r ms ⟨0,ow,fe⟩++[.box [.ptr 0 11],.aB (.s [])]) rfl rfl rfl (by exact Ae (v:=⟨0,ow,fe⟩)) (fun x q ⟨e1,e2⟩=>by subst e2;exact⟨e1,_,rfl,rfl,rfl⟩),?_⟩
 rintro x q ⟨rfl,h,cs',⟨-,rfl⟩,hq,rfl⟩
 cases hq
 have hv:dV (gk l ms) ⟨1,ow,[]⟩:=⟨Int.one_ne_zero,gJ.nil _⟩
 exact⟨_,_,_,_,_,_,_,_,_,_,_,_,_,_,⟨rfl,rfl⟩,rfl,ai.pos rfl ⟨_,hi _ hv,fun x q ⟨e1,v',g1,e2⟩=>⟨_,_,_,_,_,_,_,_,_,_,_,_,_,_,_,_,_,_,_,⟨e1,e2⟩,rfl,⟨v'.od,v'.ow,bB v'.fe (ij t) (.bool (jD (gk l ms) t))⟩,⟨g1.1,g1.2.put⟩,rfl⟩⟩⟩
theorem Ag (hp:mi l ms) {t:Tm} {v:xF} (ht:t.size<900000) (vw:t.kj) (hv:v.od=0):
  bp Tryz.prog 39 [.ptr 0 0,dp t] (Fq 0 (.ae (.map none)) l r ms v) (fun x q=>x=nB (jD (gk l ms) t)∧∃v',dV (gk l ms) v'∧q=Rx l r ms t v'):=by
 have tR:=t.size_eq
 have aw:∀u∈t.args,qU l r ms u:=fun u hu=>Dq hp 900000 u (by have:=Tm.bg hu;omega) (by omega) (Tm.iN (Tm.pr vw).2.2.2 _ hu)
 exact zj ⟨_,mg (by omega) vw,_,Af (fun v hv=>qV hp (eR (by omega)) aw hv) hv ,fun x q ⟨e1,v',g1,e2⟩=>⟨_,_,_,_,_,_,_,_,_,_,_,_,_,_,_,_,_,_,_,⟨e1,e2⟩,rfl,v',g1,rfl⟩⟩
theorem vN (hp:mi l ms) {t:Tm} (ht:t.size<900000) (vw:t.kj):
  bp Tryz.prog 10 [.ae (.pointer none),qL l r ms,dp t] [] (fun x q=>x=nB (jD (gk l ms) t)∧q=[]):=by
 exact EK ⟨_,qM hp.sizes,_,Ag hp (v:=⟨0,0,[]⟩) ht vw rfl ,fun x q ⟨e1,v',g1,e2⟩=>⟨_,_,_,_,_,_,_,_,_,_,_,_,_,_,_,_,_,_,_,⟨e1,e2⟩,rfl,rfl⟩⟩
end
theorem mj {w w':World} {F:Nat→Nat→Prop} {e:TypeId} {v v2:Value} {zs ys:List Int} {kq:List Value} {nR:List af} {r:AV} {rv:Value} (aJ:oB w F [v] [.aI e 1 (ar zs)])
  (hk:bo (fun b=>bU v=some b) w w') (kx:∀F' η hp,fL w' F' η hp (.aI e 1 (ar ys)) v2) (hb:∀b,bU v2=some b→bU v=some b) (h1c:v2.oneCell'=true)
  (Gd:(kq=[v]∧v2=v∧nR=[.aI e 1 (ar ys)]∧r=.aX []∧rv=.tuple #[]∧ys.length=zs.length)∨(kq=[v,v2]∧nR=[.dead,.aI e 1 (ar ys)]∧r=.own 1 (ar ys).length∧rv=v2)):
  eg w F [v] [.aI e 1 (ar zs)] w' kq nR r rv:=by
 have Hy:∀b o,bU v=some b→¬F b o:=fun b o hb hf=>(aJ.bb b o hf).2 0 _ rfl hb
 have ak:∀b o,F b o→b<w.heap.size∧¬bU v=some b:=fun b o hf=>⟨(aJ.bb b o hf).1,fun e=>Hy b o e hf⟩
 have live:∀b,bU v=some b→aE [v] [.aI e 1 (ar zs)] b:=fun b hb=>⟨0,_,_,rfl,True.intro,rfl,hb⟩
 have cell:∀b o u,F b o→w.cell? ⟨b,o,none⟩=some u→w'.cell? ⟨b,o,none⟩=some u:=fun b o u hf hc=>by
  simp only[World.cell?] at hc ⊢
  rw[hk.block b (ak b o hf).1 (ak b o hf).2];exact hc
 have gp:∀b es c,F b 0→w.heap[b]?=some (.map es c)→w'.heap[b]?=some (.map es c):=fun b es c hf hc=>by
  rw[hk.block b (ak b 0 hf).1 (ak b 0 hf).2];exact hc
 have qj:bo (aE [v] [.aI e 1 (ar zs)]) w w':=⟨hk.os,hk.tape,hk.output,hk.size,fun k h1 h2=>hk.block k h1 fun h=>h2 (live k h)⟩
 rcases Gd with⟨rfl,rfl,rfl,rfl,rfl,hlen⟩|⟨rfl,rfl,rfl,rfl⟩
 ·have dT:∀b o,F b o→bG F w [v2] [.aI e 1 (ar zs)] w' [v2] [.aI e 1 (ar ys)] b o:=fun b o hf=>⟨.inl hf,Nat.lt_of_lt_of_le (ak b o hf).1 hk.size,fun r u h1 h2=>by
   match r,h1 with
   |0,h1=>cases h1;exact absurd hf (Hy b o h2)⟩
  have bZ:Ext w F [v2] [.aI e 1 (ar zs)] w' (bG F w [v2] [.aI e 1 (ar zs)] w' [v2] [.aI e 1 (ar ys)]) [v2] [.aI e 1 (ar ys)]:=by
   refine⟨cell,gp,dT,fun r a h=>h,fun r a h=>h,fun r n u h=>?_⟩
   match r,h with
   |0,h=>
    unfold aT at h ⊢
    simp only[List.getElem?_cons_zero,ar,List.length_map] at h ⊢
    rw[hlen];exact h
  refine⟨qj,bZ,⟨rfl,fun r o u h1 h2=>?_,fun r r' o o' u u' b bh h1 h2 l1 l2 e1 e2 hb=>?_⟩,fun b ⟨r,o,u,h1,h2,h3,h4⟩=>?_,.aX [] #[] rfl fun j y u hy _=>by cases hy⟩
  ·match r,h1,h2 with
   |0,h1,h2=>cases h1;cases h2;exact kx _ _ _
  ·match r,r',h1,h2 with
   |0,0,_,_=>exact(bh rfl).elim
  ·match r,h1,h3 with
   |0,_,h3=>cases h3;exact .inr (live b h4)
 ·have dT:∀b o,F b o→bG F w [v] [.aI e 1 (ar zs)] w' [v,rv] [.dead,.aI e 1 (ar ys)] b o:=fun b o hf=>⟨.inl hf,Nat.lt_of_lt_of_le (ak b o hf).1 hk.size,fun r u h1 h2=>by
   match r,h1 with
   |0,_=>exact True.intro
   |1,h1=>cases h1;exact absurd hf (Hy b o (hb b h2))⟩
  have bZ:Ext w F [v] [.aI e 1 (ar zs)] w' (bG F w [v] [.aI e 1 (ar zs)] w' [v,rv] [.dead,.aI e 1 (ar ys)]) [v,rv] [.dead,.aI e 1 (ar ys)]:=by
   refine⟨cell,gp,dT,fun r a h=>?_,fun r a h=>?_,fun r n u h=>?_⟩
   ·match r,h with
    |0,h=>exact h
   ·match r,h with
    |0,h=>exact h
   ·match r,h with
    |0,_=>exact True.intro
  refine⟨qj,bZ,⟨rfl,fun r o u h1 h2=>?_,fun r r' o o' u u' b bh h1 h2 l1 l2 e1 e2 hb=>?_⟩,fun b ⟨r,o,u,h1,h2,h3,h4⟩=>?_,.own _ _ _ h1c ?_⟩
  ·match r,h1,h2 with
   |0,h1,_=>cases h1;exact True.intro
   |1,h1,h2=>cases h1;cases h2;exact kx _ _ _
  ·match r,r',h1,h2 with
   |0,_,h1,_=>cases h1;exact l1.elim
   |1,0,_,h2=>cases h2;exact l2.elim
   |1,1,_,_=>exact(bh rfl).elim
  ·match r,h1,h3 with
   |0,h1,_=>cases h1;exact h2.elim
   |1,_,h3=>cases h3;exact .inr (live b (hb b h4))
  ·unfold aT
   simp[ar]
theorem MT {zs:List Int} {i:Nat} {el:AV} (h:(ar zs)[i]?=some el):∃z,zs[i]?=some z∧el=nI z:=by
 rw[ar,List.getElem?_map] at h
 cases hz:zs[i]? with
 |none=>rw[hz] at h;cases h
 |some z=>rw[hz] at h;exact⟨z,rfl,(Option.some.inj h).symm⟩
theorem Dr {w:World} {e:TypeId} {g cap:Nat} {cur:Array Value} {ys:List Int} (h0:0<cap) (hm:cap≤maxLen) (hh:w.heap[g]?=some (.cells cur e (0,0))) (hs:cur.size=cap) (hy:ys.length≤cap)
  (bR:∀(k:Nat) (z:Int),ys[k]?=some z→cur[k]?=some (.int .i64 z)) (F:Nat→Nat→Prop) (η:List Value) (hp:List af):fL w F η hp (.aI e 1 (ar ys)) (.slice (some ⟨g,0,none⟩) ys.length cap):=by
 have hl:(ar ys).length=ys.length:=by simp[ar]
 refine⟨by omega,cur.toList.take (ys.length*1),⟨by rw[hl];have e:=Array.length_toList (xs:=cur);rw[List.length_take];omega,.inr ⟨g,cap,cur,by rw[hl],h0,⟨0,Nat.le_refl _,hh⟩,by rw[hl];exact hy,hm,by omega,by rw[hl]⟩⟩,fun i el hi=>?_⟩
 obtain⟨z,hz,rfl⟩:=MT hi
 refine⟨rfl,fun j x hx=>?_⟩
 have Xx:=(List.getElem?_eq_some_iff.1 hz).1
 match j,hx with
 |0,hx=>
  cases hx
  exact⟨.int .i64 z,by rw[List.getElem?_take,if_pos (by omega),Array.getElem?_toList,show i*1+0=i by omega];exact bR i z hz,.ae _,rfl⟩
 |j+1,hx=>simp[AV.cells,nI] at hx
theorem vO {w:World} {F:Nat→Nat→Prop} {e:TypeId} {v:Value} {zs:List Int} (h:fL w F [v] [.aI e 1 (ar zs)] (.aI e 1 (ar zs)) v):(zs=[]∧(∃a,v=.slice a 0 0)∧bU v=none)∨
  ∃g cap cur,v=.slice (some ⟨g,0,none⟩) zs.length cap∧0<cap∧w.heap[g]?=some (.cells cur e (0,0))∧zs.length≤cap∧cap≤maxLen∧cur.size=cap∧∀(k:Nat) (z:Int),zs[k]?=some z→cur[k]?=some (.int .i64 z):=by
 have hl:(ar zs).length=zs.length:=by simp[ar]
 obtain⟨_,xs,⟨Yx,bW⟩,cy⟩:=h
 rcases bW with⟨h0,hv⟩|⟨g,cap,cur,rfl,h0,⟨hi,v8,hh⟩,hn,hm,fq,ye⟩
 ·rw[hl] at h0
  refine .inl ⟨List.length_eq_zero_iff.1 h0,?_,?_⟩
  ·rcases hv with rfl|⟨ad,rfl⟩
   ·exact⟨_,rfl⟩
   ·exact⟨_,rfl⟩
  ·rcases hv with rfl|⟨ad,rfl⟩<;>simp[bU]
 ·obtain rfl:hi=0:=by omega
  refine .inr ⟨g,cap,cur,by rw[hl],h0,hh,by omega,hm,by omega,fun k z hz=>?_⟩
  have yf:=(List.getElem?_eq_some_iff.1 hz).1
  obtain⟨_,hx⟩:=cy k (nI z) (by rw[ar,List.getElem?_map,hz];rfl)
  obtain⟨u,g1,g2,_⟩:=hx 0 _ rfl
  obtain rfl:=eN g2
  rw[show k*1+0=k by omega,←ye,List.getElem?_take,if_pos (by omega),Array.getElem?_toList] at g1
  exact g1
theorem xG {w:World} {g:Nat} {cur:Array Value} {e:TypeId} (hg:w.heap[g]?=some (.cells cur e (0,0))) (d:List Int) (n:Nat) (os:Array Obj):
  bo (fun b=>b=g) w (Sort.grow (Sort.putRow (Value.int .i64) (Sort.ahead w n) g 0 d.toArray) os)∧
   ∃c2,(Sort.grow (Sort.putRow (Value.int .i64) (Sort.ahead w n) g 0 d.toArray) os).heap[g]?=some (.cells c2 e (0,0))∧c2.size=cur.size∧∀(k:Nat) (z:Int),d[k]?=some z→k<cur.size→c2[k]?=some (.int .i64 z):=by
 have N0:g<w.heap.size:=ba hg
 refine⟨⟨rfl,rfl,rfl,by simp[Sort.putRow,Sort.mapBlock,Sort.ahead],fun k hk bh=>?_⟩,Sort.putCells (Value.int .i64) 0 d.toArray cur,?_,by simp[Sort.putCells],fun k z hz hk=>?_⟩
 ·rw[Sort.heap_grow_old _ _ (by simpa [Sort.putRow,Sort.mapBlock,Sort.ahead] using hk)]
  simp only[Sort.putRow,Sort.mapBlock,Sort.ahead,Array.getElem?_modify]
  rw[if_neg (fun e=>bh e.symm)]
 ·rw[Sort.heap_grow_old _ _ (by simpa [Sort.putRow,Sort.mapBlock,Sort.ahead] using N0)]
  simp only[Sort.putRow,Sort.mapBlock,Sort.ahead,Array.getElem?_modify,if_true,hg]
  rfl
 ·have yf:=(List.getElem?_eq_some_iff.1 hz).1
  simp only[Sort.putCells,Array.getElem?_mapIdx,Array.getElem?_eq_getElem hk,Option.map_some]
  rw[if_pos ⟨Nat.zero_le _,by simpa using yf⟩]
  have:(d.toArray[k-0]!)=z:=by
   rw[Nat.sub_zero,getElem!_pos _ k (by simpa using yf)]
   simpa using (List.getElem?_eq_some_iff.1 hz).2
  rw[this]
theorem Ry {g n cap:Nat} (h:0<cap):(fun b=>b=g)=fun b=>bU (.slice (some ⟨g,0,none⟩) n cap)=some b:=by
 funext b
 rw[bd h]
 exact propext ⟨fun h=>by rw[h],fun h=>(Option.some.inj h).symm⟩
theorem Fs {zs:List Int} (hl:zs.length≤1000000000):bp Tryz.prog 161 [.own 0 (ar zs).length] [.aI 3 1 (ar zs)]
  (fun r q=>r=.aX []∧q=[.aI 3 1 (ar (zs.mergeSort fun x y=>decide (x≤y)))]):=by
 have Av:(ar zs).length=zs.length:=by simp[ar]
 refine⟨⟨_,Tryz.func161,by kernel_rfl,by kernel_rfl⟩,fun w F η aU aJ hv=>?_⟩
 match aU,hv with
 | [v0],⟨r0,_⟩=>
  obtain⟨v,rfl⟩:∃v,η=[v]:=by
   have:=aJ.heap.len
   match η,this with
   | [v],_=>exact⟨v,rfl⟩
  obtain rfl:v=v0:=by
   cases r0 with
   |own _ _ _ h1 h2=>exact Option.some.inj (h2.2 rfl)
  rcases vO (aJ.heap.obj 0 _ _ rfl rfl) with⟨rfl,⟨a,rfl⟩,hb⟩|⟨g,cap,cur,rfl,h0,hh,hn,hm,hs,bR⟩
  ·refine callsIn_wide.2 ((Any.slices_Sort_int_none L9 a 0 w).mono ?_)
   rintro e w' ⟨rfl,rfl⟩
   exact⟨_,.aX [],_,_,rfl,⟨rfl,by simp⟩,mj (v2:=.slice a 0 0) aJ (bo.refl _ _) (fun F' η hp=>⟨by omega,[],⟨rfl,.inl ⟨rfl,by cases a<;>simp⟩⟩,fun i el hi=>by simp[ar] at hi⟩) (fun b h=>h) rfl (.inl ⟨rfl,rfl,rfl,rfl,rfl,rfl⟩)⟩
  ·have hH:Sort.Holds (Value.int .i64) w g 0 zs.toArray:=fun j hj=>by
    have pE:j<zs.length:=by simpa using hj
    refine⟨?_,by simp[World.frozen?,hh]⟩
    have:=bR j zs[j] (List.getElem?_eq_getElem pE)
    simp only[World.cell?,hh,Nat.zero_add]
    rw[getElem!_pos _ j hj]
    simpa using this
   refine callsIn_wide.2 ((Any.slices_Sort_int L9 g 0 cap zs w hH (ba hh) (by omega)).mono ?_)
   rintro e w' ⟨rfl,n,os,rfl⟩
   have He:(zs.mergeSort fun x y=>decide (x≤y)).length=zs.length:=List.length_mergeSort ..
   obtain⟨hk,c2,k1,k2,k3⟩:=xG hh (zs.mergeSort fun x y=>decide (x≤y)) n os
   rw[Ry (n:=zs.length) h0] at hk
   refine⟨_,.aX [],_,_,rfl,⟨rfl,rfl⟩,mj aJ hk ?_ (fun b h=>h) rfl (.inl ⟨rfl,rfl,rfl,rfl,rfl,He⟩)⟩
   have:=Dr (ys:=zs.mergeSort fun x y=>decide (x≤y)) h0 hm k1 (by omega) (by omega) (fun k z hz=>k3 k z hz (by have:=(List.getElem?_eq_some_iff.1 hz).1;omega))
   rwa [He] at this
theorem sN (zs:List Int):(Lib.compact zs).length≤zs.length:=by
 unfold Lib.compact Lib.compactUpTo
 rw[List.length_map]
 exact Nat.le_trans (List.length_filter_le _ _) (by simp)
theorem Ds {zs:List Int} {x:Int}:x∈Lib.compact zs↔x∈zs:=by
 unfold Lib.compact Lib.compactUpTo
 simp only[List.mem_map,List.mem_filter,List.mem_range]
 constructor
 ·rintro⟨j,⟨hj,_⟩,rfl⟩
  rw[getElem!_pos _ j (by simpa using hj)]
  simp
 ·intro hx
  obtain⟨j,hj⟩:=List.getElem?_of_mem hx
  have key:∀j:Nat,zs[j]?=some x→∃a,(a<zs.length∧Lib.keeps zs.toArray a=true)∧(zs.toArray[a]!)=x:=by
   intro j
   induction j with
   |zero=>
    intro h
    have hl:=(List.getElem?_eq_some_iff.1 h).1
    refine⟨0,⟨hl,by simp[Lib.keeps]⟩,?_⟩
    rw[getElem!_pos _ 0 (by simpa using hl)]
    simpa using (List.getElem?_eq_some_iff.1 h).2
   |succ j ih=>
    intro h
    obtain⟨hl,he⟩:=List.getElem?_eq_some_iff.1 h
    have e1:(zs.toArray[j+1]!)=x:=by
     rw[getElem!_pos _ (j+1) (by simpa using hl)]
     simpa using he
    by_cases hk:Lib.keeps zs.toArray (j+1)=true
    ·exact⟨j+1,⟨hl,hk⟩,e1⟩
    ·have Hq:(zs.toArray[j+1]!)=(zs.toArray[j]!):=by
      simp only[Lib.keeps,decide_eq_true_eq,not_or,Nat.add_sub_cancel] at hk
      exact Classical.not_not.1 hk.2
     refine ih ?_
     rw[e1,getElem!_pos _ j (by simpa using (by omega:j<zs.length))] at Hq
     rw[List.getElem?_eq_getElem (by omega:j<zs.length),Hq]
     simp
  exact key j hj
theorem wO {zs:List Int} {n:Nat} (lC:n=(ar zs).length) (hl:zs.length≤1000000000):bp Tryz.prog 162 [.own 0 n] [.aI 3 1 (ar zs)]
  (fun r q=>r=.own 1 (ar (Lib.compact zs)).length∧q=[.dead,.aI 3 1 (ar (Lib.compact zs))]):=by
 have cS:=sN zs
 subst lC
 refine⟨⟨_,Tryz.func162,by kernel_rfl,by kernel_rfl⟩,fun w F η aU aJ hv=>?_⟩
 match aU,hv with
 | [v0],⟨r0,_⟩=>
  obtain⟨v,rfl⟩:∃v,η=[v]:=by
   have:=aJ.heap.len
   match η,this with
   | [v],_=>exact⟨v,rfl⟩
  obtain rfl:v=v0:=by
   cases r0 with
   |own _ _ _ h1 h2=>exact Option.some.inj (h2.2 rfl)
  rcases vO (aJ.heap.obj 0 _ _ rfl rfl) with⟨rfl,⟨a,rfl⟩,hb⟩|⟨g,cap,cur,rfl,h0,hh,hn,hm,hs,bR⟩
  ·refine callsIn_wide.2 ((Any.slices_Compact_int_empty Ma a 0 w).mono ?_)
   rintro e w' ⟨rfl,rfl⟩
   exact⟨_,_,_,_,rfl,⟨rfl,rfl⟩,mj (v2:=.slice a 0 0) aJ (bo.refl _ _) (fun F' η hp=>⟨by omega,[],⟨rfl,.inl ⟨rfl,by cases a<;>simp⟩⟩,fun i el hi=>by simp[ar,Lib.compact,Lib.compactUpTo] at hi⟩) (fun b h=>h) rfl (.inr ⟨rfl,rfl,rfl,rfl⟩)⟩
  ·have hH:Sort.Holds (Value.int .i64) w g 0 zs.toArray:=fun j hj=>by
    have pE:j<zs.length:=by simpa using hj
    refine⟨?_,by simp[World.frozen?,hh]⟩
    have:=bR j zs[j] (List.getElem?_eq_getElem pE)
    simp only[World.cell?,hh,Nat.zero_add]
    rw[getElem!_pos _ j hj]
    simpa using this
   refine callsIn_wide.2 ((Any.slices_Compact_int Ma g 0 cap zs w hH (by omega) hn).mono ?_)
   rintro e w' ⟨rfl,n,rfl⟩
   obtain⟨hk,c2,k1,k2,k3⟩:=xG hh (Lib.compact zs++List.replicate (zs.length-(Lib.compact zs).length) 0) n #[]
   rw[Sort.grow_empty] at hk k1
   rw[Ry (n:=zs.length) h0] at hk
   refine⟨_,_,_,_,rfl,⟨rfl,rfl⟩,mj aJ hk ?_ (fun b h=>by rw[bd h0] at h ⊢;exact h) rfl (.inr ⟨rfl,rfl,rfl,rfl⟩)⟩
   exact Dr h0 hm k1 (by omega) (by omega) (fun k z hz=>k3 k z (by rw[List.getElem?_append_left (List.getElem?_eq_some_iff.1 hz).1];exact hz) (by have:=(List.getElem?_eq_some_iff.1 hz).1;omega))
mutual
def Tm.nodes:Tm→Nat
 | .mk _ _ _ l=>1+Tm.rR l
def Tm.rR:List Tm→Nat
 | []=>0
 |t::l=>Tm.nodes t+Tm.rR l
end
theorem Tm.MU (t:Tm):t.nodes=1+Tm.rR t.args:=by cases t;rfl
theorem Tm.IB (t:Tm):1≤t.nodes:=by rw[t.MU];omega
mutual
def Tm.deep:Tm→Nat
 | .mk _ _ _ l=>Tm.xH 0 l+1
def Tm.xH:Nat→List Tm→Nat
 |n,[]=>n
 |n,t::l=>Tm.xH (if Tm.deep t>n then Tm.deep t else n) l
end
def Tm.dY (t:Tm):Bool:=decide (t.nodes≤5000)&&decide (t.deep≤60)
theorem xI:∀(l r:List ((Nat×Nat)×Tm)) (n:Nat),nJ n (l++r)=if n+l.length>5000∧0<l.length∨(∃p∈l,p.1.2>60) then false else nJ (n+l.length) r
 | [],r,n=>by simp
 |p::l,r,n=>by
  rw[List.cons_append,nJ,xI l r (n+1)]
  by_cases h1:n+1>5000
  ·rw[if_pos h1,if_pos (.inl ⟨by simp;omega,by simp⟩)]
  ·rw[if_neg h1]
   by_cases h2:p.1.2>60
   ·rw[if_pos h2,if_pos (.inr ⟨p,List.mem_cons_self,h2⟩)]
   ·rw[if_neg h2]
    by_cases h3:n+1+l.length>5000∧0<l.length∨∃q∈l,q.1.2>60
    ·rw[if_pos h3,if_pos]
     rcases h3 with h3|⟨q,hq,h3⟩
     ·exact .inl ⟨by simp;omega,by simp⟩
     ·exact .inr ⟨q,List.mem_cons_of_mem _ hq,h3⟩
    ·rw[if_neg h3,if_neg]
     ·congr 1;simp;omega
     ·rintro(h4|⟨q,hq,h4⟩)
      ·have:=h4.1
       simp only[List.length_cons] at this
       by_cases hl:0<l.length
       ·exact h3 (.inl ⟨by omega,hl⟩)
       ·omega
      ·rcases List.mem_cons.1 hq with rfl|hq
       ·exact h2 h4
       ·exact h3 (.inr ⟨q,hq,h4⟩)
mutual
theorem Tm.oa:∀(t:Tm) (a d:Nat),(t.pre a d).length=t.nodes
 | .mk _ _ _ l,a,d=>by rw[Tm.pre,List.length_cons,Tm.nodes,Tm.nG l];omega
theorem Tm.nG:∀(l:List Tm) (a d:Nat),(Tm.gj a d l).length=Tm.rR l
 | [],a,d=>by simp[Tm.gj,Tm.rR]
 |t::l,a,d=>by rw[Tm.gj,List.length_append,Tm.rR,Tm.oa t,Tm.nG l]
end
theorem Tm.vP {m:Nat}:∀(l:List Tm) (n:Nat),Tm.xH n l>m↔n>m∨∃t∈l,t.deep>m
 | [],n=>by simp[Tm.xH]
 |t::l,n=>by
  rw[Tm.xH,Tm.vP l]
  constructor
  ·rintro(h|⟨u,hu,h⟩)
   ·split at h
    ·exact .inr ⟨t,List.mem_cons_self,h⟩
    ·exact .inl h
   ·exact .inr ⟨u,List.mem_cons_of_mem _ hu,h⟩
  ·rintro(h|⟨u,hu,h⟩)
   ·left;split<;>omega
   ·rcases List.mem_cons.1 hu with rfl|hu
    ·left;split<;>omega
    ·exact .inr ⟨u,hu,h⟩
mutual
theorem Tm.Dt {m:Nat}:∀(t:Tm) (a d:Nat),d≤m+1→((∃p∈t.pre a d,p.1.2>m)↔t.deep+d>m+1)
 | .mk bs k i l,a,d,hd=>by
  rw[Tm.pre,Tm.deep]
  have hl:=Tm.xJ (m:=m) l (a+bs.length) (d+1)
  constructor
  ·rintro⟨p,hp,h⟩
   rcases List.mem_cons.1 hp with rfl|hp
   ·simp only at h;omega
   ·by_cases hdm:d≤m
    ·have:=(hl (by omega)).1 ⟨p,hp,h⟩
     obtain⟨t,ht,h2⟩:=this
     have:=(Tm.vP (m:=m-d) l 0).2 (.inr ⟨t,ht,by omega⟩)
     omega
    ·omega
  ·intro h
   by_cases hdm:d≤m
   ·have h1:Tm.xH 0 l>m-d:=by omega
    rcases (Tm.vP l 0).1 h1 with h2|⟨t,ht,h2⟩
    ·omega
    ·obtain⟨p,hp,h3⟩:=(hl (by omega)).2 ⟨t,ht,by omega⟩
     exact⟨p,List.mem_cons_of_mem _ hp,h3⟩
   ·exact⟨_,List.mem_cons_self,by simp only;omega⟩
theorem Tm.xJ {m:Nat}:∀(l:List Tm) (a d:Nat),d≤m+1→((∃p∈Tm.gj a d l,p.1.2>m)↔∃t∈l,t.deep+d>m+1)
 | [],a,d,hd=>by simp[Tm.gj]
 |t::l,a,d,hd=>by
  have i1:=Tm.Dt t a d hd
  have i2:=Tm.xJ l a d hd
  rw[Tm.gj]
  constructor
  ·rintro⟨p,hp,h⟩
   rcases List.mem_append.1 hp with hp|hp
   ·exact⟨t,List.mem_cons_self,i1.1 ⟨p,hp,h⟩⟩
   ·obtain⟨u,hu,h2⟩:=i2.1 ⟨p,hp,h⟩
    exact⟨u,List.mem_cons_of_mem _ hu,h2⟩
  ·rintro⟨u,hu,h⟩
   rcases List.mem_cons.1 hu with hu|hu
   ·rw[hu] at h
    obtain⟨p,hp,h2⟩:=i1.2 h
    exact⟨p,List.mem_append_left _ hp,h2⟩
   ·obtain⟨p,hp,h2⟩:=i2.2 ⟨u,hu,h⟩
    exact⟨p,List.mem_append_right _ hp,h2⟩
end
theorem sO (t:Tm):nJ 0 (t.pre 0 1)=t.dY:=by
 have h:=xI (t.pre 0 1) [] 0
 rw[List.append_nil,Nat.zero_add,nJ,Tm.oa] at h
 rw[h,Tm.dY]
 have hd:=Tm.Dt (m:=60) t 0 1 (by omega)
 have hp:=t.IB
 by_cases h1:t.nodes≤5000
 ·by_cases h2:t.deep≤60
  ·rw[if_neg,decide_eq_true h1,decide_eq_true h2];rfl
   rintro(h3|h3)
   ·omega
   ·have:=hd.1 h3;omega
  ·rw[if_pos (.inr (hd.2 (by omega))),decide_eq_false h2,Bool.and_false]
 ·rw[if_pos (.inl ⟨by omega,by omega⟩),decide_eq_false h1,Bool.false_and]
def IC (L:List ((Nat×Nat)×Tm)):List Int:=(L.filter fun p=>p.2.kind==2).map fun p=>p.2.index
def mG (t:Tm):List Int:=IC (t.pre 0 1)
def ir (l:List Tm):List Int:=l.flatMap mG
def nN (l:List Tm):List Int:=Lib.compact ((ir l).mergeSort fun x y=>decide (x≤y))
theorem Ft {l:List Tm} {x:Int}:x∈nN l↔x∈ir l:=Ds.trans (List.mergeSort_perm _ _).mem_iff
mutual
theorem Tm.MV (a d:Nat):∀t:Tm,(t.pre a d).length≤t.size
 | .mk b k i l=>by
  simp only[Tm.pre,List.length_cons,Tm.size]
  have:=Tm.GY (a+b.length) (d+1) l
  omega
theorem Tm.GY (a d:Nat):∀l:List Tm,(Tm.gj a d l).length≤Tm.sizes l
 | []=>Nat.le_refl _
 |t::l=>by
  have h1:=Tm.MV a d t
  have h2:=Tm.GY a d l
  simp only[Tm.gj,List.length_append,Tm.sizes];omega
end
theorem xK (t:Tm):(mG t).length≤t.size:=by
 have h1:=Tm.MV 0 1 t
 have h2:=List.length_filter_le (fun p:(Nat×Nat)×Tm=>p.2.kind==2) (t.pre 0 1)
 rw[mG,IC,List.length_map];omega
theorem rS:∀l:List Tm,(ir l).length≤Tm.sizes l
 | []=>Nat.le_refl _
 |t::l=>by
  have h1:=xK t
  have h2:=rS l
  simp only[ir,List.flatMap_cons,List.length_append,Tm.sizes] at h2 ⊢
  omega
theorem Fu {l:List Tm} {k:Nat} (h:k<l.length):ir (l.take (k+1))=ir (l.take k)++mG l[k]:=by
 rw[ir,ir,List.take_succ_eq_append_getElem h,List.flatMap_append,List.flatMap_cons,List.flatMap_nil,List.append_nil]
theorem dZ (a:List Int):(ar a).length=a.length:=List.length_map _
theorem Ah {l:List Tm} (hl:Tm.sizes l≤100000000):IQ Tryz.prog 110 [.sl (l.map Tm.enc)] 3 1 (ar (nN l)):=by
 have hll:=Tm.aF l
 refine zm ⟨rfl,ax.intro (fun k:Nat=>(((),(),l.map Tm.enc,(l.length:Int),(k:Int),(),()),(((),()),ar (ir (l.take k)),()))) (fun k=>k≤l.length) (fun k=>l.length-k) 0 (by rw[List.length_map];rfl) (Nat.zero_le _) ?_⟩
 intro k hk again bJ
 dsimp only
 have hb:=rS (l.take k)
 have Rn:=Tm.mc l k
 refine ai.intro (fun h=>?_) fun h=>?_
 ·have ak:k<l.length:=by simpa using h
  have bC:=Tm.bg (List.getElem_mem ak)
  have IX:=xK l[k]
  refine⟨by omega,by rw[List.length_map];omega,_,_,_,_,Tm.aq ak,sx l[k],rfl,?_⟩
  refine lS.ED (fun m:List Int=>(((),()),ar (ir (l.take k)++m),(l[k].binds.map Ty.enc,l[k].kind,l[k].index,l[k].args.map Tm.enc,()),())) xw (l[k].pre 0 1) (xx (by omega)) (fun r m=>m++IC r=mG l[k]) [] (by rw[List.append_nil]) rfl (fun p r m hI again zu=>?_) fun m hI=>?_
  ·dsimp only[xw]
   have hI2:=congrArg List.length hI
   rw[List.length_append] at hI2
   refine ai.intro (fun h1=>⟨rfl,cQ rfl ?_ (by decide),rfl,?_⟩) fun h1=>⟨rfl,?_⟩
   ·rw[List.length_append,dZ,List.length_append,List.length_singleton];omega
   ·have e:ar (ir (l.take k)++m)++[nI p.2.index]=ar (ir (l.take k)++(m++[p.2.index])):=by simp[ar]
    rw[e]
    refine zu _ ?_
    rw[←hI,List.append_assoc]
    simp only[IC,List.filter_cons,h1,if_true];rfl
   ·refine zu _ ?_
    rw[←hI]
    simp only[IC,List.filter_cons,h1];rfl
  ·rw[IC,List.filter_nil,List.map_nil,List.append_nil] at hI
   refine⟨rfl,?_⟩
   rw[hI,←Fu ak,aD (by omega)]
   exact bJ (k+1) (by omega) (by omega)
 ·have:l.length≤k:=by simpa using h
  rw[List.take_of_length_le this] at hb ⊢
  have hs:=Fs (zs:=ir l) (by omega)
  have He:((ir l).mergeSort fun x y=>decide (x≤y)).length=(ir l).length:=List.length_mergeSort ..
  exact⟨_,hs,fun r q ⟨e1,e2⟩=>⟨_,⟨e1,e2⟩,_,wO (by rw[dZ,dZ,He]) (by omega),fun r q ⟨e1,e2⟩=>⟨_,⟨e1,e2⟩,rfl,rfl,rfl,rfl⟩⟩⟩
theorem sP {t:Tm} (h:t.size≤100000000):ag Tryz.prog 110 [.sl [dp t]] (.sl (ar (nN [t]))):=by
 have:=(Ah (l:=[t]) (by simp only[Tm.sizes];omega)).pure
 rwa [List.map_cons,List.map_nil,←cV] at this
def vQ {α:Type} (p:α→Bool):List α→Nat→Int
 | [],_ => -1
 |x::l,k=>if p x=true then k else vQ p l (k+1)
theorem vR {α:Type} (p:α→Bool):∀(l:List α) (k:Nat),decide (vQ p l k≥0)=l.any p
 | [],k=>rfl
 |x::l,k=>by
  rw[vQ,List.any_cons]
  cases h:p x with
  |true=>rw[if_pos rfl,Bool.true_or];exact decide_eq_true (by omega)
  |false=>rw[if_neg (by decide),Bool.false_or];exact vR p l (k+1)
theorem xL {l:List Int} {k:Nat} (h:k<l.length):List.getD (ar l) (Int.toNat (k:Int)) .top=nI l[k]:=by simp[ar,List.getD,h]
theorem Du {l:List Int} {x:Int} (hl:l.length≤1000000000):ag Tryz.prog 164 [.sl (ar l),nI x] (nI (vQ (fun y=>x==y) l 0)):=by
 refine L7 (ax.intro (fun k:Nat=>((ar l,x,(l.length:Int),(k:Int),()),())) (fun k=>k≤l.length∧vQ (fun y=>x==y) l 0=vQ (fun y=>x==y) (l.drop k) k) (fun k=>l.length-k) 0 (by rw[dZ];rfl) ⟨Nat.zero_le _,rfl⟩ ?_)
 intro k ⟨hk,hs⟩ again bJ
 dsimp only
 refine ai.intro (fun h=>?_) fun h=>?_
 ·have ak:k<l.length:=by simpa using h
  rw[List.drop_eq_getElem_cons ak,vQ] at hs
  refine⟨by omega,by rw[dZ];omega,_,xL ak,ai.intro (fun h=>?_) fun h=>?_⟩
  ·rw[hs,if_pos h]
  ·rw[if_neg (by rw[h];decide)] at hs
   rw[aD (by omega)]
   exact bJ (k+1) ⟨by omega,hs⟩ (by omega)
 ·have:l.length≤k:=by simpa using h
  rw[List.drop_eq_nil_of_le this] at hs
  rw[hs];rfl
theorem vS {l:List Int} {x:Int} (hl:l.length≤1000000000):ag Tryz.prog 113 [.sl (ar l),nI x] (nB (decide (x∈l))):=by
 refine L8 ⟨_,Du hl,?_⟩
 rw[vR]
 congr 2
 rw[Bool.eq_iff_iff,List.any_eq_true,decide_eq_true_eq]
 exact⟨fun⟨y,h1,h2⟩=>by rw[eq_of_beq h2];exact h1,fun h=>⟨x,h,by simp⟩⟩
theorem Ai {l:List Int} {x:Int} (hl:l.length≤1000000000):ag Tryz.prog 112 [nI x,.aL (.sl (ar l)) 0] (nB (!decide (x∈l))):=L2 ⟨_,vS hl,rfl⟩
theorem Dv {l m:List Int} (hl:l.length≤1000000000) (hm:m.length≤1000000000):ag Tryz.prog 163 [.sl (ar m),.aK 112 [.aL (.sl (ar l)) 0]] (nI (vQ (fun x=>!decide (x∈l)) m 0)):=by
 refine Cv ⟨rfl,ax.intro (fun k:Nat=>((ar m,((),()),(m.length:Int),(k:Int),()),())) (fun k=>k≤m.length∧vQ (fun x=>!decide (x∈l)) m 0=vQ (fun x=>!decide (x∈l)) (m.drop k) k) (fun k=>m.length-k) 0 (by rw[dZ];rfl) ⟨Nat.zero_le _,rfl⟩ ?_⟩
 intro k ⟨hk,hs⟩ again bJ
 dsimp only
 refine ai.intro (fun h=>?_) fun h=>?_
 ·have ak:k<m.length:=by simpa using h
  rw[List.drop_eq_getElem_cons ak,vQ] at hs
  refine⟨by omega,by rw[dZ];omega,_,xL ak,_,Ai hl,ai.intro (fun h=>?_) fun h=>⟨rfl,?_⟩⟩
  ·rw[hs,if_pos h]
  ·rw[if_neg (by rw[h];decide)] at hs
   rw[aD (by omega)]
   exact bJ (k+1) ⟨by omega,hs⟩ (by omega)
 ·have:m.length≤k:=by simpa using h
  rw[List.drop_eq_nil_of_le this] at hs
  rw[hs];rfl
theorem Dw {l m:List Int} (hl:l.length≤1000000000) (hm:m.length≤1000000000):ag Tryz.prog 111 [.sl (ar m),.aK 112 [.aL (.sl (ar l)) 0]] (nB (!(m.all fun x=>decide (x∈l)))):=by
 refine Cw ⟨_,Dv hl hm,?_⟩
 rw[vR]
 congr 2
 induction m with
 |nil=>rfl
 |cons x m ih=>rw[List.any_cons,List.all_cons,Bool.not_and,ih (by simp only[List.length_cons] at hm;omega)]
theorem vT {b:Int}:∀(l:List Ty) (k:Nat),decide (ig b k l≥0)=!(l.all (Ty.dY b))
 | [],k=>rfl
 |t::l,k=>by
  rw[ig,List.all_cons]
  split
  ·rename_i h;rw[vT l (k+1),h,Bool.true_and]
  ·rename_i h
   rw[show Ty.dY b t=false from by simpa using h,Bool.false_and,decide_eq_true (by omega)];rfl
structure sQ (c ms:List Ty) (l r:Tm):Prop where
 c1:c.length≤500
 m1:ms.length≤500
 sz:Ty.sizes (c++ms)≤200000000
 l1:l.size≤1000000
 r1:r.size≤1000000
 lo:l.Ok
 ro:r.Ok
theorem sQ.cs {c ms:List Ty} {l r:Tm} (h:sQ c ms l r):∀t∈c,t.size≤200000000:=fun t ht=>Nat.le_trans (Ty.bg (List.mem_append_left _ ht)) h.sz
theorem sQ.mss {c ms:List Ty} {l r:Tm} (h:sQ c ms l r):∀t∈ms,t.size≤200000000:=fun t ht=>Nat.le_trans (Ty.bg (List.mem_append_right _ ht)) h.sz
def vU (b:Int) (c ms:List Ty) (l r:Tm):Int:=
 if(c++ms).all (Ty.dY b)=true then
  if l.dY=true∧r.dY=true then
   if(l.Tb c ms []).2=0∧(l.Tb c ms []).1.args=[]∧l.HX c ms [] (l.Tb c ms []).1=true∧r.HX c ms [] (l.Tb c ms []).1=true then 0 else 5
  else 2
 else 1
theorem qW {b:Int} {c ms:List Ty} {t:Tm} {of:Ty} (hc:∀t∈c,t.size≤200000000) (hm:∀t∈ms,t.size≤200000000) (ao:t.Ok) (ht:t.size≤1000000) (hr:t.dY=true) (Td:of.size≤200000000):
  bp Tryz.prog 94 [dp t,.ptr 0 0,.ptr 1 0] [.box [nI b,.sl (c.map Ty.enc),.sl (ms.map Ty.enc)],.box [.sl (of.args.map Ty.enc),nI of.base]] (fun x q=>x=nB (t.HX c ms [] of)∧q=[.box [nI b,.sl (c.map Ty.enc),.sl (ms.map Ty.enc)],.box [.sl (of.args.map Ty.enc),nI of.base]]):=by
 refine PO ⟨_,CR (x:=[]) hc hm ao (fun _ h=>by cases h) (by simp only[List.length_nil];omega) Td,?_,rfl⟩
 rw[sO,hr,if_pos rfl]
 cases t.HX c ms [] of<;>rfl
theorem Aj {b:Int} {c m0:List Ty} {ms:List Ty} {l r:Tm} (h:sQ c ms l r):ag Tryz.prog 55 [.agg [nI b,.sl (c.map Ty.enc),.sl (m0.map Ty.enc)],qL l r ms] (nI (vU b c ms l r)):=by
 have h1:=rG (b:=b) h.c1 h.m1 (by have:=h.sz;omega)
 have h2:=l5 (t:=l) (by have:=h.l1;omega)
 have h3:=l5 (t:=r) (by have:=h.r1;omega)
 have h4:=zE (b:=b) (c:=c) (m:=ms) (x:=[]) h.lo (by have:=h.l1;simp only[List.length_nil];omega)
 rw[vT,Bool.not_not] at h1
 rw[sO] at h2 h3
 refine PR ⟨_,h1,ai.intro (fun g=>?_) fun g=>?_⟩
 ·have g0:(c++ms).all (Ty.dY b)=false:=by simpa only[Bool.not_eq_true'] using g
  rw[vU,if_neg (by rw[g0];decide)]
 have g1:(c++ms).all (Ty.dY b)=true:=by simpa only[Bool.not_eq_false'] using g
 rw[vU,if_pos g1]
 refine⟨_,h2,ai.intro (fun g=>?_) fun g=>⟨_,h3,ai.intro (fun g'=>?_) fun g'=>?_⟩⟩
 ·rw[if_neg (fun e=>by rw[e.1] at g;simp at g)]
 ·rw[if_neg (fun e=>by rw[e.2] at g';simp at g')]
 have g2:l.dY=true:=by simpa using g
 have g3:r.dY=true:=by simpa using g'
 rw[if_pos ⟨g2,g3⟩]
 generalize hp:l.Tb c ms []=p at h4 ⊢
 refine⟨_,_,_,h4,ai.intro (fun g=>?_) fun g=>?_⟩
 ·rw[if_neg (fun e=>by rw[e.1] at g;simp at g)]
 have g4:p.2=0:=by simpa using g
 refine ai.intro (fun g=>?_) fun g=>?_
 ·rw[if_neg (fun e=>by rw[e.2.1] at g;simp at g)]
 have g5:p.1.args=[]:=by
  have:p.1.args.length=0:=by simpa using g
  exact List.length_eq_zero_iff.1 this
 have Td:p.1.size≤200000000:=by
  have:=p.1.size_eq
  rw[g5,Ty.sizes] at this;omega
 refine⟨_,qW h.cs h.mss h.lo h.l1 g2 Td,fun x q ⟨e1,e2⟩=>⟨_,_,_,_,_,_,⟨e1,e2⟩,ai.intro (fun g=>?_) fun g=>?_⟩⟩
 ·rw[if_neg (fun e=>by rw[e.2.2.1] at g;simp at g)]
 refine⟨_,qW h.cs h.mss h.ro h.r1 g3 Td,fun x q ⟨e1,e2⟩=>⟨_,_,_,_,_,_,⟨e1,e2⟩,ai.intro (fun g'=>?_) fun g'=>?_⟩⟩
 ·rw[if_neg (fun e=>by rw[e.2.2.2] at g';simp at g')]
 ·rw[if_pos ⟨g4,g5,by simpa using g,by simpa using g'⟩]
def vV (b:Int) (c ms:List Ty) (l r:Tm):Int:=
 if vU b c ms l r=0 then
  if l.kind=1∧(l.uses [] []).isSome=true then
   if((mG r).all fun x=>decide (x∈mG l))=true then 0 else 7
  else 6
 else vU b c ms l r
theorem sR {t:Tm} (h:t.size≤1000000):(nN [t]).length≤1000000000:=by
 have h1:=rS [t]
 have h2:=sN ((ir [t]).mergeSort fun x y=>decide (x≤y))
 rw[List.length_mergeSort] at h2
 simp only[Tm.sizes] at h1
 rw[nN];omega
theorem xM (l r:Tm):((nN [r]).all fun x=>decide (x∈nN [l]))=((mG r).all fun x=>decide (x∈mG l)):=by
 have e:∀t:Tm,∀x,x∈nN [t]↔x∈mG t:=fun t x=>by rw[Ft,ir,List.flatMap_cons,List.flatMap_nil,List.append_nil]
 rw[Bool.eq_iff_iff,List.all_eq_true,List.all_eq_true]
 simp only[decide_eq_true_eq]
 exact⟨fun h x hx=>(e l x).1 (h x ((e r x).2 hx)),fun h x hx=>(e l x).2 (h x ((e r x).1 hx))⟩
theorem Ak {b:Int} {c m0:List Ty} {ms:List Ty} {l r:Tm} (h:sQ c ms l r):ag Tryz.prog 60 [.agg [nI b,.sl (c.map Ty.enc),.sl (m0.map Ty.enc)],qL l r ms] (nI (vV b c ms l r)):=by
 have hi:=Me (t:=l) (by have:=h.l1;omega)
 rw[←cV] at hi
 refine PS ⟨_,Aj h,ai.intro (fun g=>?_) fun g=>?_⟩
 ·rw[vV,if_neg (by simpa using g)]
 rw[vV,if_pos (by simpa using g)]
 refine ai.intro (fun g=>?_) fun g=>⟨_,hi,ai.intro (fun g'=>?_) fun g'=>?_⟩
 ·rw[if_neg (fun e=>by rw[e.1] at g;simp at g)]
 ·rw[if_neg (fun e=>by rw[e.2] at g';simp at g')]
 rw[if_pos ⟨by simpa using g,by simpa using g'⟩]
 have hl:=h.l1
 have hr:=h.r1
 refine⟨_,sP (by omega),_,sP (by omega),_,Dw (sR hl) (sR hr),ai.intro (fun g=>?_) fun g=>?_⟩
 ·rw[xM] at g
  rw[if_neg (by rw[(by simpa using g:((mG r).all fun x=>decide (x∈mG l))=false)];decide)]
 ·rw[xM] at g
  rw[if_pos (by rw[←Bool.not_eq_false'];exact g)]
def xN (C:Cx) (b:Int) (c ms:List Ty) (l r:Tm):Int:=if vV b c ms l r=0 then(if jD C r=true then 0 else 8) else vV b c ms l r
theorem vW {R:Rk} {b:Int} {c m0 ms:List Ty} {l r:Tm} {h:List af} (hR:R.Ok) (hk:∀c,∃n,Option.getD (aC R.ke c) (.int .i64 0)=.int .i64 n) (ht:sQ c ms l r) (hp:mi l ms) (hr:r.size<900000) (vw:r.kj) (hs:IW R h):
  bp Tryz.prog 27 [.agg [nI b,.sl (c.map Ty.enc),.sl (m0.map Ty.enc)],.ptr 1 0,qL l r ms] h (fun x q=>x=nI (xN (fJ R l ms) b c ms l r)∧IW R q):=by
 obtain⟨d,s,ka,kr,rfl,hd⟩:=hs
 refine PT ⟨_,Ak ht,ai.intro (fun g=>⟨?_,d,s,ka,kr,rfl,hd⟩) fun g=>⟨_,pC hp hR hk hr vw ⟨d,s,ka,kr,rfl,hd⟩,fun x q ⟨e1,d2,s2,Ig,Ih,e2,AR⟩=>⟨_,_,_,_,_,_,_,_,_,_,⟨e1,e2⟩,ai.intro (fun g'=>⟨?_,d2,s2,Ig,Ih,rfl,AR⟩) fun g'=>⟨?_,d2,s2,Ig,Ih,rfl,AR⟩⟩⟩⟩
 ·rw[xN,if_neg (by simpa using g)]
 ·rw[xN,if_pos (by simpa using g),if_neg (by simpa using g')]
 ·rw[xN,if_pos (by simpa using g),if_pos (by simpa using g')]
def kT (i:Int) (l:List Tm):Tm:=.mk [] 1 i l
def mT (i:Int):Tm:=.mk [] 2 i []
def Qw:Ty:=.mk [] 0
def W6:List Ty:=[.mk [Qw] 0,.mk [Qw,Qw] 0]
def Qx:List Ty:=[Qw,Qw]
def lK:Tm:=kT 1 [kT 0 [mT 0],mT 1]
def rK:Tm:=kT 0 [kT 1 [mT 0,mT 1]]
def lQ:Tm:=kT 1 [mT 0,mT 1]
def rQ:Tm:=kT 1 [mT 1,mT 0]
def Nh:Rk:=jF 2 [(1,0)] []
theorem TC (n:Int) (h1 : -100≤n) (h2:n≤100):lx n:=by unfold lx;omega
theorem Rz:tU 2 [(1,0)] []:=⟨⟨by omega,by decide,by kernel_rfl,rfl,fun j hj=>by simp at hj⟩,fun c hc=>by
 match c,hc with
 |0,_=>
  show (jF 2 [(1,0)] []).nL ((0:Nat):Int) ((0:Nat):Int)=false
  kernel_rfl
 |1,_=>
  show (jF 2 [(1,0)] []).nL ((1:Nat):Int) ((1:Nat):Int)=false
  kernel_rfl
 |c+2,hc=>omega⟩
theorem iu (i:Int) (l:List AV):ag Tryz.prog 36 [nI i,.sl l] (.agg [.sl [],nI 1,nI i,.sl l]):=PX rfl
theorem ej (i:Int):ag Tryz.prog 37 [nI i] (.agg [.sl [],nI 2,nI i,.sl []]):=PY rfl
theorem W7 {l r:Tm} (h1:l.size≤100) (h2:r.size≤100) (lo:l.Ok) (ro:r.Ok):sQ W6 Qx l r:=⟨by decide,by decide,by decide,by omega,by omega,lo,ro⟩
theorem paK {l:Tm} (h:l.size≤100):mi l Qx:=⟨by omega,fun x hx=>by
 have:x=Qw:=by simpa [Qx] using hx
 subst this;decide⟩
theorem okT {k i:Int} {l:List Tm} (h1:lx k) (h2:lx i) (h:Tm.S7 l):(Tm.mk [] k i l).Ok:=⟨h1,h2,h⟩
theorem W8 {k i:Int} {l:List Tm} (h1:lx k) (h2:lx i) (h:Tm.il l):(Tm.mk [] k i l).kj:=⟨True.intro,h1,h2,h⟩
theorem Dx (i:Int) (h:lx i):(mT i).Ok:=okT (TC _ (by decide) (by decide)) h True.intro
theorem Xz (i:Int) (h:lx i):(mT i).kj:=W8 (TC _ (by decide) (by decide)) h True.intro
theorem TE (i:Int) (h:lx i) {l:List Tm} (hl:Tm.S7 l):(kT i l).Ok:=okT (TC _ (by decide) (by decide)) h hl
theorem kn (i:Int) (h:lx i) {l:List Tm} (hl:Tm.il l):(kT i l).kj:=W8 (TC _ (by decide) (by decide)) h hl
theorem cP:ag Tryz.prog 9 [] (nB true):=by
 have i0:=TC 0 (by decide) (by decide)
 have i1:=TC 1 (by decide) (by decide)
 have XA:∀{t u:Tm},t.Ok→u.Ok→Tm.S7 [t,u]:=fun h1 h2=>⟨h1,h2,True.intro⟩
 have ns:∀{t u:Tm},t.kj→u.kj→Tm.il [t,u]:=fun h1 h2=>⟨h1,h2,True.intro⟩
 have o1:lK.Ok:=TE 1 i1 (XA (TE 0 i0 ⟨Dx 0 i0,True.intro⟩) (Dx 1 i1))
 have o2:rK.Ok:=TE 0 i0 ⟨TE 1 i1 (XA (Dx 0 i0) (Dx 1 i1)),True.intro⟩
 have o3:lQ.Ok:=TE 1 i1 (XA (Dx 0 i0) (Dx 1 i1))
 have o4:rQ.Ok:=TE 1 i1 (XA (Dx 1 i1) (Dx 0 i0))
 have n2:rK.kj:=kn 0 i0 ⟨kn 1 i1 (ns (Xz 0 i0) (Xz 1 i1)),True.intro⟩
 have n4:rQ.kj:=kn 1 i1 (ns (Xz 1 i1) (Xz 0 i0))
 have a1:=zG 0
 have a2:ag Tryz.prog 35 [nI 0,.sl [.agg [.sl [],nI 0]]] (.agg [.sl [.agg [.sl [],nI 0]],nI 0]):=lZ (l:=[Qw]) (by decide)
 have a3:ag Tryz.prog 35 [nI 0,.sl [.agg [.sl [],nI 0],.agg [.sl [],nI 0]]] (.agg [.sl [.agg [.sl [],nI 0],.agg [.sl [],nI 0]],nI 0]):=lZ (l:=[Qw,Qw]) (by decide)
 have hN:=MO (n:=2) (ps:=[(1,0)]) (sts:=[]) (by decide) (by decide) Rz
 have d1:xN (fJ Nh lK Qx) 1 W6 Qx lK rK=0:=by kernel_rfl
 have d2:xN (fJ Nh lQ Qx) 1 W6 Qx lQ rQ=8:=by kernel_rfl
 have v1:=mf (a:=kT 0 [kT 0 [mT 0]]) (b:=mT 0) (by decide)
 have v2:=mf (a:=mT 0) (b:=mT 0) (by decide)
 have w1:im (kT 0 [kT 0 [mT 0]]) (mT 0)=true:=by kernel_rfl
 have w2:im (mT 0) (mT 0)=false:=by kernel_rfl
 rw[w1] at v1
 rw[w2] at v2
 have hk:∀c,∃n,Option.getD (aC Nh.ke c) (.int .i64 0)=.int .i64 n:=mh []
 have hR:Nh.Ok:=Rz.1.ok
 have wN:dH [nI 2,.clip [.agg [nI 1,nI 0]],.ae (.slice none 0 0)] [nI 2,.sl (au [(1,0)]),.sl (au [])]:=⟨dS.refl _,rA _,qo,True.intro⟩
 have wD:∀a b c d e f g h cs ms,dH [.agg [nI 1,.clip cs,.ae (.slice none 0 0)],.ptr 1 0,.agg [a,b,c,d,e,f,g,h,.clip ms]] [.agg [nI 1,.sl cs,.sl []],.ptr 1 0,.agg [a,b,c,d,e,f,g,h,.sl ms]]:=fun a b c d e f g h cs ms=>
  ⟨.agg ⟨dS.refl _,rA _,qo,True.intro⟩,dS.refl _,.agg ⟨dS.refl _,dS.refl _,dS.refl _,dS.refl _,dS.refl _,dS.refl _,dS.refl _,dS.refl _,rA _,True.intro⟩,True.intro⟩
 refine SX ⟨_,_,a1,_,_,a2,_,_,a3,_,bp.BM wN hN,fun x q ⟨e1,i,d,s,ka,kr,e2,hd⟩=>.inr (.inr (.inr ⟨_,_,_,_,_,_,_,_,_,_,⟨e1,e2⟩,?_⟩))⟩
 refine⟨_,_,_,_,ej 0,_,_,_,_,iu 0 _,_,_,_,_,ej 1,_,_,_,_,iu 1 _,_,_,_,_,ej 0,_,_,_,_,ej 1,_,_,_,_,iu 1 _,_,_,_,_,iu 0 _,?_⟩
 refine⟨_,_,_,_,ej 0,_,_,_,_,ej 1,_,_,_,_,iu 1 _,_,_,_,_,ej 1,_,_,_,_,ej 0,_,_,_,_,iu 1 _,?_⟩
 have D1:=vW (R:=Nh) (b:=1) (c:=W6) (m0:=[]) (ms:=Qx) (l:=lK) (r:=rK) (h:=gv (fA []) 2 (au [(1,0)]) d 0 s kr ka (au [])) hR hk (W7 (by decide) (by decide) o1 o2) (paK (by decide)) (by decide) n2 ⟨d,s,ka,kr,rfl,hd⟩
 rw[d1] at D1
 refine⟨_,bp.BM (wD _ _ _ _ _ _ _ _ _ _) D1,fun x q ⟨e1,d',s',ka',kr',e2,cO⟩=>⟨_,_,_,_,_,_,_,_,_,_,⟨e1,e2⟩,ai.pos rfl ?_⟩⟩
 have D2:=vW (R:=Nh) (b:=1) (c:=W6) (m0:=[]) (ms:=Qx) (l:=lQ) (r:=rQ) (h:=gv Nh.ke Nh.n (au Nh.ps) d' 0 s' kr' ka' Nh.kt) hR hk (W7 (by decide) (by decide) o3 o4) (paK (by decide)) (by decide) n4 ⟨d',s',ka',kr',rfl,cO⟩
 rw[d2] at D2
 exact⟨_,bp.BM (wD _ _ _ _ _ _ _ _ _ _) D2,fun x q ⟨e1,d',s',ka',kr',e2,cO⟩=>⟨_,_,_,_,_,_,_,_,_,_,⟨e1,e2⟩,ai.pos rfl ⟨_,_,_,_,ej 0,_,_,_,_,iu 0 _,_,_,_,_,iu 0 _,_,_,_,_,ej 0,_,v1,ai.pos rfl ⟨_,_,_,_,ej 0,_,_,_,_,ej 0,_,v2,rfl⟩⟩⟩⟩
structure Pa where
 l:Tm
 r:Tm
 ms:List Ty
abbrev Pa.enc (p:Pa):AV:=qL p.l p.r p.ms
def Pa.gI (p:Pa):Bool:=[p.l,p.r].all (Tm.ie 150 70)&&(kb [] [] p.ms&&Tm.nF [p.l,p.r])
structure Pa.Sm (p:Pa):Prop where
 l1:p.l.size≤150
 r1:p.r.size≤150
 m1:p.ms.length≤20
 m2:∀x∈p.ms,x.size≤60
theorem Pa.MW {p:Pa} (h:p.gI=true):p.Sm:=by
 simp only[Pa.gI,Bool.and_eq_true,List.all_cons,List.all_nil] at h
 obtain⟨⟨h1,h2,_⟩,h3,_⟩:=h
 simp only[kb,Bool.and_eq_true,decide_eq_true_eq,List.nil_append,List.all_eq_true] at h3
 exact⟨Tm.fH h1,Tm.fH h2,h3.1.2.2,fun x hx=>Ty.fH (h3.2 x hx)⟩
theorem Pa.Sm.msz {p:Pa} (h:p.Sm):Ty.sizes p.ms≤1200:=by
 have:∀l:List Ty,(∀x∈l,x.size≤60)→Ty.sizes l≤l.length*60:=by
  intro l
  induction l with
  |nil=>intro _;exact Nat.le_refl _
  |cons x l ih=>
   intro hx
   have h1:=hx x List.mem_cons_self
   have h2:=ih fun y hy=>hx y (List.mem_cons_of_mem _ hy)
   simp only[Ty.sizes,List.length_cons];omega
 have:=this p.ms h.m2
 have:=h.m1
 omega
theorem Pa.getD {l:List Pa} {k:Nat} (h:k<l.length):List.getD (l.map Pa.enc) (Int.toNat (k:Int)) .top=l[k].enc:=getD_map h
theorem sS {ps:List Pa} (hl:ps.length≤1000):ag Tryz.prog 7 [.sl (ps.map Pa.enc)] (nB (ps.all Pa.gI)):=by
 refine S1 (ax.intro (fun k:Nat=>((ps.map Pa.enc,(k:Int),()),())) (fun k=>k≤ps.length∧ps.all Pa.gI=(ps.drop k).all Pa.gI) (fun k=>ps.length-k) 0 rfl ⟨Nat.zero_le _,rfl⟩ ?_)
 intro k ⟨hk,hs⟩ again bJ
 dsimp only
 refine ai.intro (fun h=>?_) fun h=>?_
 ·have ak:k<ps.length:=by simpa using h
  have b:(0:Int)≤k∧(k:Int)<((List.length (ps.map Pa.enc):Nat):Int):=⟨by omega,by rw[List.length_map];omega⟩
  rw[List.drop_eq_getElem_cons ak,List.all_cons] at hs
  generalize hp:ps[k]=p at hs
  have hg:=Pa.getD ak
  rw[hp] at hg
  have f1:ag Tryz.prog 32 [.sl [dp p.l,dp p.r]] (nB ([p.l,p.r].all (Tm.ie 150 70))):=by
   have:=HT (l:=[p.l,p.r]) (by simp)
   rwa [List.map_cons,List.map_cons,List.map_nil,←cV,←cV] at this
  have f2:=CL 0 [] [] p.ms
  refine⟨b.1,b.2,_,_,_,_,_,_,_,_,_,hg,b.1,b.2,_,_,_,_,_,_,_,_,_,hg,_,f1,ai.intro (fun h=>?_) fun h=>⟨b.1,b.2,_,_,_,_,_,_,_,_,_,hg,_,f2,ai.intro (fun h'=>?_) fun h'=>?_⟩⟩
  ·have:[p.l,p.r].all (Tm.ie 150 70)=false:=by simpa only[Bool.not_eq_true'] using h
   rw[hs,Pa.gI,this];rfl
  ·have:kb [] [] p.ms=false:=by simpa using h'
   rw[hs,Pa.gI,this,Bool.false_and,Bool.and_false];rfl
  have g1:[p.l,p.r].all (Tm.ie 150 70)=true:=by simpa only[Bool.not_eq_false'] using h
  have g2:kb [] [] p.ms=true:=by simpa using h'
  have gs:=g1
  simp only[List.all_cons,List.all_nil,Bool.and_eq_true] at gs
  have z1:=Tm.fH gs.1
  have z2:=Tm.fH gs.2.1
  have f3:ag Tryz.prog 33 [.sl [dp p.l,dp p.r]] (nB (Tm.nF [p.l,p.r])):=by
   have:=HV 300 [p.l,p.r] (by simp only[Tm.sizes];omega) (by decide)
   rwa [List.map_cons,List.map_cons,List.map_nil,←cV,←cV] at this
  refine⟨b.1,b.2,_,_,_,_,_,_,_,_,_,hg,b.1,b.2,_,_,_,_,_,_,_,_,_,hg,_,f3,ai.intro (fun h=>?_) fun h=>?_⟩
  ·have:Tm.nF [p.l,p.r]=false:=by simpa using h
   rw[hs,Pa.gI,this,Bool.and_false,Bool.and_false];rfl
  ·have:Tm.nF [p.l,p.r]=true:=by simpa using h
   rw[Pa.gI,g1,g2,this] at hs
   rw[aD (by omega)]
   exact bJ (k+1) ⟨by omega,hs⟩ (by omega)
 ·have:ps.length≤k:=by simpa using h
  rw[List.drop_eq_nil_of_le this] at hs
  rw[hs];rfl
theorem xO {t:Tm} (h:t.size≤1000000000):ag Tryz.prog 12 [dp t] (dp t):=by
 have:=EW _ t (Nat.le_refl _) h
 rwa [←cV] at this
theorem ot {p:Pa} (h:p.Sm):ag Tryz.prog 11 [p.enc] p.enc:=by
 have h1:=h.l1
 have h2:=h.r1
 have h3:=h.msz
 exact P3 ⟨_,_,_,_,xO (t:=p.l) (by omega),_,_,_,_,xO (t:=p.r) (by omega),_,sr (by omega),rfl⟩
theorem Pa.Sm.ok {p:Pa} (h:p.Sm):mi p.l p.ms:=⟨by have:=h.l1;omega,fun x hx=>by have:=h.m2 x hx;omega⟩
theorem To (l:Tm) (ms:List Ty):Dh 0 [] [] l ms=gk l ms:=by
 unfold Dh gk
 congr 1
 funext a b
 rw[decide_eq_false (by omega),Bool.false_and]
theorem Qy {n:Int} {ps sts:List (Int×Int)} (h:oR n ps sts) (l:Tm) (ms:List Ty):fJ (jF n ps sts) l ms=Dh n ps sts l ms:=by
 have hn:=h.1
 have e:(((jF n ps sts).n:Nat):Int)=n:=by simp only[jF];omega
 unfold Dh fJ
 congr 1
 ·funext a b
  rw[Rk.MQ h.ok,e];rfl
 ·funext c
  exact Qt h c
def aaH (n:Int) (ps sts:List (Int×Int)) (q:List af):Prop:=(∃i,q=Tn n ps sts [.box [nI i],.box [.aK 63 [.ptr 3 0]]]++[.dead,.dead])∨
 (∃i m a l b c d e l3,q=Tn n ps sts [.box [nI i],.box [.aK 63 [.ptr 3 0]],.aB (.i m),.box [nI a,.sl l,.mp 5,.ae (.int .u32 b),.ae (.int .i32 c),.ae (.int .u32 d),.ae (.slice none 0 0),nI e,.sl l3]])∨
 ∃i m a l b c d l2 e l3,q=Tn n ps sts [.box [nI i],.box [.aK 63 [.ptr 3 0]],.aB (.i m),.box [nI a,.sl l,.mp 5,.ae (.int .u32 b),.ae (.int .i32 c),.ae (.int .u32 d),.sl l2,nI e,.sl l3]]
def ToP (n:Int) (ps sts:List (Int×Int)) (r:AV) (q:List af):Prop:=
 (∃e:Int,¬e=0∧r=.aX [.ae (.pointer none),sM n ps sts,nI e]∧aaH n ps sts q)∨(oR n ps sts∧r=.aX [.ptr 6 0,sM n ps sts,nI 0]∧Ru n ps sts q)
theorem Dy {n:Int} {ps sts:List (Int×Int)}:bp Tryz.prog 6 [sM n ps sts] [] (ToP n (ps.take 40) (sts.take 20)):=
 bp.pad Fo fun r q h=>by
  rcases h with⟨e,he,h1,h2⟩|h
  ·rcases h2 with⟨i,rfl⟩|h2|h2
   ·exact⟨2,.inl ⟨e,he,h1,.inl ⟨i,rfl⟩⟩⟩
   ·exact⟨0,.inl ⟨e,he,h1,.inr (.inl (by rw[List.replicate_zero,List.append_nil];exact h2))⟩⟩
   ·exact⟨0,.inl ⟨e,he,h1,.inr (.inr (by rw[List.replicate_zero,List.append_nil];exact h2))⟩⟩
  ·exact⟨0,.inr (by rw[List.replicate_zero,List.append_nil];exact h)⟩
theorem Qz {n:Int} {ps sts:List (Int×Int)} {p:Pa} {t:Tm} (hp:ps.length≤40) (hs:sts.length≤20) (h:p.Sm) (ht:t.size≤200):ag Tryz.prog 13 [sM n ps sts,p.enc,dp t] (nB (jD (Dh n ps sts p.l p.ms) t)):=by
 have h1:=h.l1
 have h2:=h.m1
 exact Iy (by omega) (by omega) (by omega) (by omega) (fun x hx=>by have:=h.m2 x hx;omega) 200 t ht (by decide)
theorem Fv {n e n':Int} {y1 y2:List AV} {p:Pa} {t:Tm} (he:¬e=0) (ht:t.kj) (hr:p.r.kj):zo (p.l.binds.map Ty.enc) p.l.kind p.l.index (p.l.args.map Tm.enc) (p.r.binds.map Ty.enc) p.r.kind p.r.index (p.r.args.map Tm.enc) (p.ms.map Ty.enc) (fun x=>x=nB true) (t.binds.map Ty.enc) t.kind t.index (t.args.map Tm.enc) n e n' y1 y2:=by
 have hf:=sS (ps:=[p]) (by simp)
 have W9:=nE (most:=60) (d:=60) (t:=t) (by decide) (by decide)
 rw[←cV] at W9
 refine⟨_,hf,ai.intro (fun h=>⟨_,cP,rfl⟩) fun h=>⟨_,W9,ai.intro (fun h'=>⟨_,cP,rfl⟩) fun h'=>ai.intro (fun h2=>⟨_,cP,rfl⟩) fun h2=>ai.pos (by simpa using he) ⟨_,cP,ai.pos rfl ?_⟩⟩⟩
 have jz:=Pa.MW (p:=p) (by simpa using h)
 have tR:t.size≤60:=Tm.fH (by simpa using h')
 have hrs:=jz.r1
 have c1:=vN (r:=p.r) jz.ok (t:=t) (by omega) ht
 have c2:=vN (r:=p.r) jz.ok (t:=p.r) (by omega) hr
 rw[←To] at c1 c2
 have two:∀{a:Prop},a→a∧a:=fun h=>⟨h,h⟩
 refine⟨_,_,_,_,_,_,_,_,_,ot jz,_,_,_,_,xO (t:=t) (by omega),_,c1,fun x q ⟨e1,e2⟩=>.inl ⟨_,⟨e1,e2⟩,_,Qz (n:=0) (ps:=[]) (sts:=[]) (by decide) (by decide) jz (by omega),ai.pos (by simp) ⟨_,_,_,_,_,_,_,_,_,ot jz,_,_,_,_,xO (t:=p.r) (by omega),two ?_⟩⟩⟩
 exact⟨_,c2,fun x q ⟨e1,e2⟩=>.inl ⟨_,⟨e1,e2⟩,_,Qz (n:=0) (ps:=[]) (sts:=[]) (by decide) (by decide) jz (by omega),by simp⟩⟩
theorem rT {n:Int} {ps sts:List (Int×Int)} {p:Pa} {t:Tm} (hr:p.r.kj) (ht:t.kj):ag Tryz.prog 3 [sM n ps sts,p.enc,dp t] (nB true):=by
 have l1:(ps.take 40).length≤40:=by rw[List.length_take];omega
 have l2:(sts.take 20).length≤20:=by rw[List.length_take];omega
 refine S4 ⟨_,Dy,fun x q h=>?_⟩
 generalize ps.take 40=ps at l1 h
 generalize sts.take 20=sts at l2 h
 rcases h with⟨e,he,rfl,⟨i,rfl⟩|⟨i,m,a,l,b,c,d,x,l3,rfl⟩|⟨i,m,a,l,b,c,d,y,x,l3,rfl⟩⟩|⟨ao,rfl,i,d,s,ka,kr,rfl,pK⟩
 ·exact .inl ⟨_,_,_,_,_,_,_,_,_,_,_,_,⟨rfl,rfl⟩,Fv he ht hr⟩
 ·exact .inr (.inl ⟨_,_,_,_,_,_,_,_,_,_,_,_,_,_,_,_,_,_,_,_,⟨rfl,rfl⟩,Fv he ht hr⟩)
 ·exact .inr (.inr (.inl ⟨_,_,_,_,_,_,_,_,_,_,_,_,_,_,_,_,_,_,_,_,_,⟨rfl,rfl⟩,Fv he ht hr⟩))
 ·refine .inr (.inr (.inr ⟨_,_,_,_,_,_,_,_,_,_,_,_,_,_,_,_,_,_,_,_,⟨rfl,rfl⟩,?_⟩))
  have hf:=sS (ps:=[p]) (by simp)
  have W9:=nE (most:=60) (d:=60) (t:=t) (by decide) (by decide)
  rw[←cV] at W9
  refine⟨_,hf,ai.intro (fun h=>⟨_,cP,rfl⟩) fun h=>⟨_,W9,ai.intro (fun h'=>⟨_,cP,rfl⟩) fun h'=>ai.intro (fun h2=>⟨_,cP,rfl⟩) fun h2=>⟨_,cP,ai.pos rfl ?_⟩⟩⟩
  have jz:=Pa.MW (p:=p) (by simpa using h)
  have tR:t.size≤60:=Tm.fH (by simpa using h')
  have hrs:=jz.r1
  have hn:=ao.1
  have e:(((jF n ps sts).n:Nat):Int)=n:=by simp only[jF];omega
  have c1:=fun {h:List af}=>pC (h:=h) (R:=jF n ps sts) (r:=p.r) jz.ok ao.ok (mh sts) (t:=t) (by omega) ht
  have c2:=fun {h:List af}=>pC (h:=h) (R:=jF n ps sts) (r:=p.r) jz.ok ao.ok (mh sts) (t:=p.r) (by omega) hr
  simp only[Qy ao] at c1 c2
  have two:∀{a:Prop},a→a∧a:=fun h=>⟨h,h⟩
  have S0:IW (jF n ps sts) (gv (fA sts) n (au ps) d 0 s kr ka (au sts)):=⟨d,s,ka,kr,by rw[e];rfl,pK⟩
  refine⟨_,_,_,_,_,_,_,_,_,ot jz,_,_,_,_,xO (t:=t) (by omega),_,c1 S0,fun x q ⟨e1,d2,s2,Ig,Ih,e2,AR⟩=>.inr ⟨_,_,_,_,_,_,_,_,_,_,⟨e1,e2⟩,_,Qz l1 l2 jz (by omega),ai.pos (by simp) ⟨_,_,_,_,_,_,_,_,_,ot jz,_,_,_,_,xO (t:=p.r) (by omega),two ?_⟩⟩⟩
  exact⟨_,c2 ⟨d2,s2,Ig,Ih,rfl,AR⟩,fun x q ⟨e1,d3,s3,ka3,kr3,e2,hd3⟩=>.inr ⟨_,_,_,_,_,_,_,_,_,_,⟨e1,e2⟩,_,Qz l1 l2 jz (by omega),by simp⟩⟩
end Go.Proofs.YtdcikhleahfknaaGreatDoor
