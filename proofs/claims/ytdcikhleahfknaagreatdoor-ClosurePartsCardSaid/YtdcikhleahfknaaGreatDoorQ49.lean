/- Texts of ours laid together for a claim: P6A P1O P69 P6N P6O P6C P6D P6E P6F P6G P6H P65 P6I P6P P6R P46 P6S P6T P6U P6V. -/
import Derived.WalkKit
import Derived.Deep.RegionLaw
import Derived.Deep.Upon
import Derived.Lib.SliceRun
import Derived.KernelRfl
import Derived.Test.YtdcikhleahfknaaGreatDoorQ48
namespace Go.Proofs.YtdcikhleahfknaaGreatDoor
open Go
set_option linter.unusedSimpArgs false
set_option linter.unusedVariables false
set_option maxRecDepth 100000
open Go Go.RowKit
instance ZP:DecidableEq Tm:=fun a b=>decidable_of_iff (Tm.same a b=true) (Tm.eQ a b)
theorem Tm.K6 (a b:Tm):Tm.same a b=decide (a=b):=by
 by_cases h:a=b
 ·rw[decide_eq_true h];exact(Tm.eQ a b).2 h
 ·rw[decide_eq_false h];exact Bool.eq_false_iff.2 fun h1=>h ((Tm.eQ a b).1 h1)
mutual
def Tm.inner:Tm→List Tm
 | .mk b k i a=>Tm.mk b k i a::(if b.isEmpty&&(k==1) then Tm.cK a else[])
def Tm.cK:List Tm→List Tm
 | []=>[]
 |t::l=>(if t.binds.isEmpty then Tm.inner t else[])++Tm.cK l
end
theorem Tm.kM (t:Tm):t.inner=t::(if t.binds.isEmpty&&(t.kind==1) then Tm.cK t.args else[]):=by cases t;rfl
mutual
theorem Tm.nK:∀t:Tm,t.inner.length≤t.size
 | .mk b k i a=>by
  have:=Tm.lD a
  simp only[Tm.inner,Tm.size]
  split<;>simp only[List.length_cons,List.length_nil]<;>omega
theorem Tm.lD:∀l:List Tm,(Tm.cK l).length≤Tm.sizes l
 | []=>Nat.le_refl _
 |t::l=>by
  have h1:=Tm.nK t
  have h2:=Tm.lD l
  simp only[Tm.cK,Tm.sizes,List.length_append]
  split
  ·omega
  ·simp only[List.length_nil];omega
end
mutual
theorem Tm.oU:∀(t x:Tm),x∈t.inner→x.size≤t.size
 | .mk b k i a,x,h=>by
  simp only[Tm.inner,List.mem_cons] at h
  rcases h with rfl|h
  ·exact Nat.le_refl _
  ·split at h
   ·have:=Tm.ng a x h
    simp only[Tm.size];omega
   ·cases h
theorem Tm.ng:∀(l:List Tm) (x:Tm),x∈Tm.cK l→x.size≤Tm.sizes l
 | [],x,h=>by cases h
 |t::l,x,h=>by
  simp only[Tm.cK,List.mem_append] at h
  rcases h with h|h
  ·split at h
   ·have:=Tm.oU t x h
    simp only[Tm.sizes];omega
   ·cases h
  ·have:=Tm.ng l x h
   simp only[Tm.sizes];omega
end
def eI (l:List Tm):List Tm:=l.flatMap Tm.inner
theorem qj:∀l:List Tm,(eI l).length≤Tm.sizes l
 | []=>Nat.le_refl _
 |t::l=>by
  have h1:=t.nK
  have h2:=qj l
  simp only[eI,List.flatMap_cons,List.length_append,Tm.sizes] at h2 ⊢
  omega
theorem wR {l:List Tm} {x:Tm} (h:x∈eI l):x.size≤Tm.sizes l:=by
 obtain⟨t,h1,h2⟩:=List.mem_flatMap.1 h
 exact Nat.le_trans (t.oU x h2) (Tm.bm h1)
def fP (a b:Tm):Bool:=decide (b∈a.inner.drop 1)
theorem DU (a:Tm):fP a a=false:=by
 rw[fP,decide_eq_false_iff_not]
 intro h
 cases a with
 |mk b k i l=>
  simp only[Tm.inner,List.drop_succ_cons,List.drop_zero] at h
  split at h
  ·have:=Tm.ng l _ h
   simp only[Tm.size] at this
   omega
  ·cases h
def uP:List Tm→List Tm→Bool
 |a::l,b::m=>if a=b then uP l m else fP a b
 |_,_=>false
theorem wS:∀a:List Tm,uP a a=false
 | []=>rfl
 |a::l=>by rw[uP,if_pos rfl];exact wS l
def cx:List Tm→List Tm→List Tm
 | [],_=>[]
 |t::a,l=>if t∈l then cx a (l.erase t) else t::cx a l
theorem oV:∀(a l:List Tm) (x:Tm),(cx a l).count x=a.count x-l.count x
 | [],l,x=>by simp[cx]
 |t::a,l,x=>by
  rw[cx]
  split
  ·rename_i h
   rw[oV a _ x,List.count_erase,List.count_cons]
   have:=List.count_pos_iff.2 h
   by_cases e:t=x
   ·subst e;simp;omega
   ·simp[e]
  ·rename_i h
   rw[List.count_cons,oV a l x,List.count_cons]
   by_cases e:t=x
   ·subst e
    have:=List.count_eq_zero_of_not_mem h
    simp;omega
   ·simp[e]
theorem gJ {a l:List Tm} {x:Tm}:x∈cx a l↔l.count x<a.count x:=by
 rw[←List.count_pos_iff,oV];omega
theorem q6:∀(a l:List Tm),(cx a l).length≤a.length
 | [],l=>Nat.le_refl _
 |t::a,l=>by
  rw[cx]
  split
  ·have:=q6 a (l.erase t);simp only[List.length_cons];omega
  ·have:=q6 a l;simp only[List.length_cons];omega
theorem nL {a l:List Tm} {x:Tm} (h:x∈cx a l):x∈a:=List.count_pos_iff.1 (by have:=gJ.1 h;omega)
theorem DV (a:List Tm):cx a a=[]:=by
 cases h:cx a a with
 |nil=>rfl
 |cons x l=>
  have:x∈cx a a:=by rw[h];exact List.mem_cons_self
  have:=gJ.1 this
  omega
def DW (a b:List Tm) (y:Tm):Bool:=(cx a b).any fun x=>fP x y
def DX (a b:List Tm):Bool:=!(cx a b).isEmpty&&(cx b a).all (DW a b)
def ov (k:Int) (a b:List Tm):Bool:=if a.length=b.length then(if k=1 then DX a b else uP a b) else false
theorem DY (k:Int) (a:List Tm):ov k a a=false:=by
 rw[ov,if_pos rfl]
 split
 ·rw[DX,DV];rfl
 ·exact wS a
def wT (a b:List Tm):Bool:=a.any fun x=>decide (b.count x<a.count x)
def uQ (a b:List Tm) (y:Tm):Bool:=a.any fun x=>decide (b.count x<a.count x)&&fP x y
def RA (a b:List Tm):Bool:=wT a b&&b.all fun y=>decide (b.count y≤a.count y)||uQ a b y
theorem K7 (a b:List Tm):wT a b=!(cx a b).isEmpty:=by
 rw[Bool.eq_iff_iff,wT,List.any_eq_true]
 cases h:cx a b with
 |nil=>
  simp only[List.isEmpty_nil,Bool.not_true,Bool.false_eq_true,iff_false]
  rintro⟨x,hx,h2⟩
  have:x∈cx a b:=gJ.2 (by simpa using h2)
  rw[h] at this;cases this
 |cons x l=>
  simp only[List.isEmpty_cons,Bool.not_false,iff_true]
  have:x∈cx a b:=by rw[h];exact List.mem_cons_self
  exact⟨x,nL this,by simpa using gJ.1 this⟩
theorem wU (a b:List Tm) (y:Tm):uQ a b y=DW a b y:=by
 rw[Bool.eq_iff_iff,uQ,DW,List.any_eq_true,List.any_eq_true]
 constructor
 ·rintro⟨x,hx,h⟩
  rw[Bool.and_eq_true,decide_eq_true_eq] at h
  exact⟨x,gJ.2 h.1,h.2⟩
 ·rintro⟨x,hx,h⟩
  exact⟨x,nL hx,by rw[Bool.and_eq_true,decide_eq_true_eq];exact⟨gJ.1 hx,h⟩⟩
theorem OP (a b:List Tm):RA a b=DX a b:=by
 rw[RA,DX,K7]
 congr 1
 rw[Bool.eq_iff_iff,List.all_eq_true,List.all_eq_true]
 constructor
 ·intro h y hy
  have:=h y (nL hy)
  have h2:=gJ.1 hy
  rw[Bool.or_eq_true,decide_eq_true_eq,wU] at this
  rcases this with h3|h3
  ·omega
  ·exact h3
 ·intro h y hy
  rw[Bool.or_eq_true,decide_eq_true_eq,wU]
  by_cases h2:b.count y≤a.count y
  ·exact .inl h2
  ·exact .inr (h y (gJ.2 (by omega)))
structure Cx where
 fk:Int
 fi:Int
 la:List Tm
 ms:List Ty
 ab:Int→Int→Bool
 st:Int→Int
def Cx.var (C:Cx) (m:Int):Bool:=decide (0≤m∧m<C.ms.length)&&decide (sC 2 m (C.ms.getD m.toNat (.mk [] 0))∈eI C.la)
def uR (C:Cx) (k i:Int) (a:List Tm):Bool:=
 if k=0 then true else if k=2 then C.var i else if k=1 then(if C.fk=1 then(if i=C.fi then ov (C.st C.fi) C.la a else C.ab C.fi i) else false) else false
mutual
def sE (C:Cx):Tm→Bool
 | .mk b k i a=>(decide (Tm.mk b k i a∈eI C.la)||decide (Tm.mk [] k i a∈eI C.la))||(uR C k i a&&uS C a)
def uS (C:Cx):List Tm→Bool
 | []=>true
 |t::l=>sE C t&&uS C l
end
theorem RB (C:Cx) (t:Tm):sE C t=((decide (t∈eI C.la)||decide (Tm.mk [] t.kind t.index t.args∈eI C.la))||(uR C t.kind t.index t.args&&uS C t.args)):=by cases t;rfl
theorem K8 (C:Cx) (l:List Tm):uS C l=l.all (sE C):=by
 induction l with
 |nil=>rfl
 |cons t l ih=>rw[uS,ih,List.all_cons]
theorem q7:∀(n:Nat) (t u:Tm),t.size≤n→n≤500000000→ag Tryz.prog 88 [.agg [.sl (t.binds.map Ty.enc),nI t.kind,nI t.index,.sl (t.args.map Tm.enc)],.agg [.sl (u.binds.map Ty.enc),nI u.kind,nI u.index,.sl (u.args.map Tm.enc)]] (nB (Tm.same t u)):=by
 intro n
 induction n with
 |zero=>intro t u h;have:=t.size_pos;omega
 |succ n ih=>
  intro t u h hn
  have hq:=Tm.aA t.args
  have vj:=t.size_eq
  have hb:=ia (l:=t.binds) (m:=u.binds) (by have:=Ty.aA t.binds;omega) fun k h1 h2=>mU _ t.binds[k] u.binds[k] (Nat.le_refl _) (by have:=Ty.bm (List.getElem_mem h1);omega)
  rw[Tm.p7]
  have ax:ag Tryz.prog 139 [.sl (t.args.map Tm.enc),.sl (u.args.map Tm.enc),.aS 88 []] (nB (Tm.bp t.args u.args)):=by
   refine Kw (ak.intro (fun h=>?_) fun h=>?_)
   ·rw[Tm.il (by simp at h;omega)]
   ·have VP:t.args.length=u.args.length:=by simp at h;omega
    refine au.intro (fun k:Nat=>((u.args.map Tm.enc,(),t.args.map Tm.enc,(t.args.length:Int),(k:Int),()),())) (fun k=>k≤t.args.length∧Tm.bp t.args u.args=Tm.bp (t.args.drop k) (u.args.drop k)) (fun k=>t.args.length-k) 0 (by rw[List.length_map];rfl) ⟨Nat.zero_le _,rfl⟩ ?_
    intro k ⟨hk,hs⟩ again bB
    dsimp only
    refine ak.intro (fun h=>?_) fun h=>?_
    ·have al:k<t.args.length:=by simpa using h
     rw[Tm.gi al (by omega)] at hs
     have hi:=ih t.args[k] (u.args[k]'(by omega)) (by have:=Tm.bM al;omega) (by omega)
     refine⟨by omega,by rw[List.length_map];omega,_,_,_,_,Tm.aj al,by omega,by rw[List.length_map];omega,_,_,_,_,Tm.aj (by omega),_,hi,ak.intro (fun h=>?_) fun h=>?_⟩
     ·have:Tm.same t.args[k] u.args[k]=false:=by simpa using h
      rw[hs,this,Bool.false_and]
     ·have he:Tm.same t.args[k] u.args[k]=true:=by simpa using h
      rw[he,Bool.true_and] at hs
      rw[aB (by omega)]
      exact bB (k+1) ⟨by omega,hs⟩ (by omega)
    ·have:t.args.length≤k:=by simpa using h
     rw[List.drop_eq_nil_of_le this,List.drop_eq_nil_of_le (by omega)] at hs
     rw[hs];rfl
  refine N7 (ak.intro (fun h=>⟨_,hb,ak.intro (fun h2=>⟨_,ax,?_⟩) fun h2=>?_⟩) fun h=>?_)
  ·rw[h,h2,Bool.true_and,Bool.true_and]
  ·rw[h,h2,Bool.true_and,Bool.false_and]
  ·rw[h,Bool.false_and]
abbrev dc (t:Tm):AV:=.agg [.sl (t.binds.map Ty.enc),nI t.kind,nI t.index,.sl (t.args.map Tm.enc)]
theorem cq (t:Tm):dc t=t.enc:=t.aE.symm
theorem Tm.vJ (l m:List Tm):Tm.cK (l++m)=Tm.cK l++Tm.cK m:=by
 induction l with
 |nil=>rfl
 |cons t l ih=>rw[List.cons_append,Tm.cK,Tm.cK,ih,List.append_assoc]
theorem Tm.rY {l:List Tm} {k:Nat} (h:k<l.length):Tm.cK (l.take (k+1))=Tm.cK (l.take k)++(if l[k].binds.isEmpty then l[k].inner else[]):=by
 rw[List.take_succ_eq_append_getElem h,Tm.vJ]
 simp[Tm.cK]
theorem Tm.lE (l:List Tm) (k:Nat):Tm.sizes (l.take k)≤Tm.sizes l:=by
 have:=Tm.bW (l.take k) (l.drop k)
 rw[List.take_append_drop] at this
 omega
theorem nh:∀(n:Nat) (t:Tm),t.size≤n→n≤1000000→ag Tryz.prog 52 [dc t] (.sl (t.inner.map Tm.enc)):=by
 intro n
 induction n with
 |zero=>intro t h;have:=t.size_pos;omega
 |succ n ih=>
  intro t h hn
  have vj:=t.size_eq
  have hlen:=Tm.aA t.args
  have one:([dc t]:List AV)=[t].map Tm.enc:=by rw[cq];rfl
  have stop:(t.binds.isEmpty&&(t.kind==1))=false→AV.sl [dc t]=AV.sl (t.inner.map Tm.enc):=fun e=>by rw[Tm.kM,e,one];rfl
  refine Ni (ak.intro (fun h1=>⟨rfl,stop ?_⟩) fun h1=>ak.intro (fun h2=>⟨rfl,stop ?_⟩) fun h2=>⟨rfl,?_⟩)
  ·have:0<t.binds.length:=by simpa using h1
   cases hb:t.binds with
   |nil=>rw[hb] at this;simp at this
   |cons=>rfl
  ·have:¬t.kind=1:=by simpa using h2
   simp[this]
  ·have hb:t.binds.isEmpty=true:=by
    have:¬0<t.binds.length:=by simpa using h1
    cases hb:t.binds with
    |nil=>rfl
    |cons=>rw[hb] at this;simp at this
   have hk:(t.kind==1)=true:=by simpa using h2
   refine au.intro (fun k:Nat=>(((),t.args.map Tm.enc,(t.args.length:Int),(k:Int),()),((t.binds.map Ty.enc,t.kind,t.index,t.args.map Tm.enc,()),(t::Tm.cK (t.args.take k)).map Tm.enc,()))) (fun k=>k≤t.args.length) (fun k=>t.args.length-k) 0 (by rw[List.length_map,one];rfl) (Nat.zero_le _) ?_
   intro k vZ again bB
   dsimp only
   refine ak.intro (fun h=>?_) fun h=>⟨rfl,?_⟩
   ·have al:k<t.args.length:=by simpa using h
    have Oy:=Tm.rY al
    refine⟨by omega,by rw[List.length_map];omega,_,_,_,_,Tm.aj al,ak.intro (fun h3=>?_) fun h3=>⟨rfl,?_⟩⟩
    ·have Lx:t.args[k].binds.isEmpty=true:=by
      have:t.args[k].binds.length=0:=by
       have h4:((List.length (t.args[k].binds.map Ty.enc):Nat):Int)=0:=by simpa using h3
       rw[List.length_map] at h4;omega
      cases hb:t.args[k].binds with
      |nil=>rfl
      |cons=>rw[hb] at this;simp at this
     have bE:=Tm.bM al
     have qx:=t.args[k].nK
     have o7:=Tm.lD (t.args.take k)
     have vR:=Tm.lE t.args k
     refine⟨_,ih t.args[k] (by omega) (by omega),rfl,cN Tm.cW (by rw[List.length_append,List.length_map,List.length_map,List.length_cons];omega) (by decide),rfl,?_⟩
     have e:(t::Tm.cK (t.args.take k)).map Tm.enc++t.args[k].inner.map Tm.enc=(t::Tm.cK (t.args.take (k+1))).map Tm.enc:=by
      rw[Oy,Lx,←List.map_append];rfl
     rw[e,aB (by omega)]
     exact bB (k+1) (by omega) (by omega)
    ·have Lx:t.args[k].binds.isEmpty=false:=by
      cases hb:t.args[k].binds with
      |nil=>rw[hb] at h3;simp at h3
      |cons=>rfl
     have e:(t::Tm.cK (t.args.take k)).map Tm.enc=(t::Tm.cK (t.args.take (k+1))).map Tm.enc:=by
      rw[Oy,Lx];simp
     rw[e,aB (by omega)]
     exact bB (k+1) (by omega) (by omega)
   ·have FX:k=t.args.length:=by
     have:t.args.length≤k:=by simpa using h
     omega
    subst FX
    rw[List.take_length,Tm.kM,hb,hk];rfl
def q8 (t:Tm):List Tm→Nat→Int
 | [],_ => -1
 |x::l,k=>if Tm.same x t=true then k else q8 t l (k+1)
theorem nM (t:Tm):∀(l:List Tm) (k:Nat),(q8 t l k = -1∧t∉l)∨∃j,q8 t l k=((k+j:Nat):Int)∧j<l.length∧l.eraseIdx j=l.erase t∧t∈l
 | [],k=>.inl ⟨rfl,by simp⟩
 |x::l,k=>by
  rw[q8]
  by_cases h:x=t
  ·subst h
   rw[if_pos (Tm.nG x)]
   exact .inr ⟨0,by simp,by simp,by simp,by simp⟩
  ·rw[if_neg (fun e=>h ((Tm.eQ x t).1 e))]
   rcases nM t l (k+1) with⟨h1,h2⟩|⟨j,h1,h2,h3,h4⟩
   ·exact .inl ⟨h1,by simp[h2];exact fun e=>h e.symm⟩
   ·refine .inr ⟨j+1,by rw[h1];omega,by simpa using h2,?_,by simp[h4]⟩
    rw[List.eraseIdx_cons_succ,h3,List.erase_cons_tail (by simpa using h)]
theorem K9 (t:Tm) (l:List Tm):decide (q8 t l 0≥0)=decide (t∈l):=by
 rcases nM t l 0 with⟨h1,h2⟩|⟨j,h1,h2,h3,h4⟩
 ·rw[h1,decide_eq_false h2];rfl
 ·rw[h1,decide_eq_true h4,decide_eq_true (by omega)]
def bH (l:List Tm):Prop:=l.length≤1000000∧∀x∈l,x.size≤1000000
theorem GR {x t:Tm} (hx:x.size≤1000000):ag Tryz.prog 89 [dc x,.aH (dc t) 0] (nB (Tm.same x t)):=
 Nr ⟨_,q7 1000000 x t hx (by omega),rfl⟩
theorem BS {l:List Tm} {t:Tm} (hl:bH l):ag Tryz.prog 134 [.sl (l.map Tm.enc),.aS 89 [.aH (dc t) 0]] (nI (q8 t l 0)):=by
 obtain⟨zh,n7⟩:=hl
 refine AW ⟨rfl,au.intro (fun k:Nat=>((l.map Tm.enc,((),()),(l.length:Int),(k:Int),()),())) (fun k=>k≤l.length∧q8 t l 0=q8 t (l.drop k) k) (fun k=>l.length-k) 0 (by rw[List.length_map];rfl) ⟨Nat.zero_le _,rfl⟩ ?_⟩
 intro k ⟨hk,hs⟩ again bB
 dsimp only
 refine ak.intro (fun h=>?_) fun h=>?_
 ·have al:k<l.length:=by simpa using h
  rw[List.drop_eq_getElem_cons al,q8] at hs
  refine⟨by omega,by rw[List.length_map];omega,_,_,_,_,Tm.aj al,_,GR (n7 _ (List.getElem_mem al)),ak.intro (fun h=>?_) fun h=>⟨rfl,?_⟩⟩
  ·rw[hs,if_pos h]
  ·rw[if_neg (by simp[h])] at hs
   rw[aB (by omega)]
   exact bB (k+1) ⟨by omega,hs⟩ (by omega)
 ·have:l.length≤k:=by simpa using h
  rw[List.drop_eq_nil_of_le this] at hs
  rw[hs];rfl
theorem jy {l:List Tm} {t:Tm} (hl:bH l):ag Tryz.prog 51 [.sl (l.map Tm.enc),dc t] (nB (decide (t∈l))):=
 Ns ⟨_,AX ⟨_,BS hl,rfl⟩,by rw[K9]⟩
theorem rZ {t:Tm} (h:t.size≤1000000):bH t.inner:=⟨Nat.le_trans t.nK h,fun x hx=>Nat.le_trans (t.oU x hx) h⟩
theorem gk {a b:Tm} (ha:a.size≤1000000):ag Tryz.prog 20 [dc a,dc b] (nB (fP a b)):=by
 have hs:=rZ ha
 refine Nt ⟨_,nh 1000000 a ha (by omega),⟨by omega,?_,by omega,Tm.cW⟩,?_⟩
 ·rw[List.length_map,Tm.kM,List.length_cons];omega
 ·have e:List.drop (Int.toNat 1) (List.take (Int.toNat ((List.length (a.inner.map Tm.enc):Nat):Int)) (a.inner.map Tm.enc))=(a.inner.drop 1).map Tm.enc:=by
   rw[Int.toNat_natCast,List.take_length,List.map_drop];rfl
  rw[e]
  exact⟨_,jy ⟨by rw[List.length_drop];have:=hs.1;omega,fun x hx=>hs.2 x (List.mem_of_mem_drop hx)⟩,rfl⟩
theorem GU {a b:List Tm} (ha:bH a) (hl:a.length=b.length):ag Tryz.prog 50 [.sl (a.map Tm.enc),.sl (b.map Tm.enc)] (nB (uP a b)):=by
 obtain⟨zh,n7⟩:=ha
 refine Nw (au.intro (fun k:Nat=>((a.map Tm.enc,b.map Tm.enc,(a.length:Int),(k:Int),()),())) (fun k=>k≤a.length∧uP a b=uP (a.drop k) (b.drop k)) (fun k=>a.length-k) 0 (by rw[List.length_map];rfl) ⟨Nat.zero_le _,rfl⟩ ?_)
 intro k ⟨hk,hs⟩ again bB
 dsimp only
 refine ak.intro (fun h=>?_) fun h=>?_
 ·have al:k<a.length:=by simpa using h
  have Hj:k<b.length:=by omega
  rw[List.drop_eq_getElem_cons al,List.drop_eq_getElem_cons Hj,uP] at hs
  have i1:0≤(k:Int):=by omega
  have i2:(k:Int)<((List.length (a.map Tm.enc):Nat):Int):=by rw[List.length_map];omega
  have i3:(k:Int)<((List.length (b.map Tm.enc):Nat):Int):=by rw[List.length_map];omega
  have bE:=n7 _ (List.getElem_mem al)
  refine⟨i1,i2,_,_,_,_,Tm.aj al,i1,i3,_,_,_,_,Tm.aj Hj,_,q7 1000000 _ _ bE (by omega),ak.intro (fun h=>?_) fun h=>?_⟩
  ·have bj:¬a[k]=b[k]:=fun e=>by rw[e,Tm.nG] at h;cases h
   rw[if_neg bj] at hs
   exact⟨i1,i2,_,_,_,_,Tm.aj al,i1,i3,_,_,_,_,Tm.aj Hj,_,gk bE,by rw[hs]⟩
  ·have he:a[k]=b[k]:=(Tm.eQ _ _).1 (by simpa using h)
   rw[if_pos he] at hs
   rw[aB (by omega)]
   exact bB (k+1) ⟨by omega,hs⟩ (by omega)
 ·have:a.length≤k:=by simpa using h
  rw[List.drop_eq_nil_of_le this] at hs
  rw[hs]
  cases b.drop k<;>rfl
theorem OQ (us:List AV) (a b:List (UInt8×Int)):us++aT (bN a)++aT (bN b)=us++aT (bN (a++b)):=by rw[oR,List.append_assoc]
theorem GV:∀(n:Nat) (t:Tm),t.size<n→n≤1000000→t.jJ→∀us:List AV,us.length+124*t.size≤900000000→
  bJ Tryz.prog 127 [dc t,.ptr 4 0,.ptr 3 0,.ptr 5 0] (Pz us.length us) (fun r q=>r=.bc []∧q=Pz (us++aT (bN (zd t))).length (us++aT (bN (zd t)))):=by
 intro n
 induction n with
 |zero=>intro t h;omega
 |succ n ih=>
  intro t h hn DM us R5
  have vj:=t.size_eq
  have hlen:=Tm.aA t.args
  obtain⟨n1,n2,n3,n4⟩:=Tm.qY DM
  have hL:∀p∈Cm t.binds,jr p.2:=FD n1 (by omega)
  obtain⟨N,hN⟩:∃N:Int,N=((List.length (t.args.map Tm.enc):Nat):Int):=⟨_,rfl⟩
  have hNi:jr N:=by rw[hN,List.length_map];exact lB (by omega)
  have c1:=kL (us:=us) hL
  rw[sY] at c1
  have one:∀(vs:List AV) (c:UInt8) (x:Int),jr x→(vs++aT (bN [(c,x)])).length≤vs.length+31:=fun vs c x hx=>by
   have:=kL (us:=vs) (l:=[(c,x)]) (fun p hp=>by rw[List.mem_singleton] at hp;rw[hp];exact hx)
   rw[List.length_singleton] at this
   omega
  have c2:=one (us++aT (bN (Cm t.binds))) 104 t.kind n2
  have c3:=one (us++aT (bN (Cm t.binds))++aT (bN [(104,t.kind)])) 105 t.index n3
  refine J1 ⟨_,GJ 1000000 t.binds (by omega) (by omega) n1 us (by omega),fun r q ⟨e1,e2⟩=>⟨_,⟨e1,e2⟩,_,kK (c:=104) n2 (by omega),fun r q ⟨e1,e2⟩=>⟨_,⟨e1,e2⟩,_,kK (c:=105) n3 (by omega),fun r q ⟨e1,e2⟩=>⟨_,⟨e1,e2⟩,_,kK (c:=40) (n:=((List.length (t.args.map Tm.enc):Nat):Int)) (by rw[←hN];exact hNi) (by omega),fun r q ⟨e1,e2⟩=>⟨_,⟨e1,e2⟩,rfl,?_⟩⟩⟩⟩⟩
  rw[OQ,OQ,OQ]
  refine au.intro (fun k:Nat=>(((),t.args.map Tm.enc,(t.args.length:Int),(k:Int),()),((),us++aT (bN (Cm t.binds++[(104,t.kind)]++[(105,t.index)]++[(40,(t.args.length:Int))]++iP (t.args.take k))),((),()),((),()),((),()),((),()),(t.binds.map Ty.enc,t.kind,t.index,t.args.map Tm.enc,()),()))) (fun k=>k≤t.args.length) (fun k=>t.args.length-k) 0 (by simp only[List.length_map,List.take_zero,iP,List.append_nil,List.append_assoc];rfl) (Nat.zero_le _) ?_
  intro k hk again bB
  dsimp only
  refine ak.intro (fun h=>?_) fun h=>⟨rfl,?_⟩
  ·have al:k<t.args.length:=by simpa using h
   have ou:=bB (k+1) (by omega) (by omega)
   have p1:=Tm.bW (t.args.take k) (t.args.drop k)
   rw[List.take_append_drop,List.drop_eq_getElem_cons al,Tm.sizes] at p1
   have b1:=kL (us:=us) (l:=Cm t.binds++[(104,t.kind)]++[(105,t.index)]++[(40,(t.args.length:Int))]++iP (t.args.take k)) (fun p hp=>by
    simp only[List.mem_append,List.mem_singleton] at hp
    rcases hp with(((hp|rfl)|rfl)|rfl)|hp
    ·exact hL p hp
    ·exact n2
    ·exact n3
    ·exact lB (by omega)
    ·exact uM _ (Tm.BO _ k n4) (by omega) p hp)
   have b2:=uL (t.args.take k)
   simp only[List.length_append,List.length_singleton,sY] at b1
   rw[GK al,←List.append_assoc] at ou
   refine⟨by omega,by rw[List.length_map];omega,_,_,_,_,Tm.aj al,_,ih t.args[k] (by omega) (by omega) (Tm.jw n4 _ (List.getElem_mem al)) _ (by simp only[List.length_append,List.length_singleton,sY];omega),fun r q ⟨e1,e2⟩=>⟨_,⟨e1,e2⟩,rfl,?_⟩⟩
   rw[aB (by omega),OQ]
   exact ou
  ·have:t.args.length≤k:=by simpa using h
   rw[List.take_of_length_le this]
   have e:Cm t.binds++[(104,t.kind)]++[(105,t.index)]++[(40,(t.args.length:Int))]++iP t.args=zd t:=by cases t;simp[zd,Tm.binds,Tm.kind,Tm.index,Tm.args]
   rw[e]
theorem uT {t:Tm} (hs:t.size<1000000) (h:t.jJ):ag Tryz.prog 74 [dc t] (nS (lW t)):=
 Nf ⟨_,GV 1000000 t hs (by omega) h [] (by simp;omega),fun r q ⟨e1,e2⟩=>⟨_,⟨e1,e2⟩,_,By (s:=bN (zd t)),fun r q ⟨e1,e2⟩=>⟨_,_,⟨e1,e2⟩,rfl⟩⟩⟩
theorem BT:∀{l:List (ByteArray×Value)} {a:ByteArray} {v:Value},aG l a=some v→(a,v)∈l
 | [],a,v,h=>by cases h
 |(k,u)::r,a,v,h=>by
  rw[aG] at h
  split at h
  ·rename_i e;subst e;cases h;exact List.mem_cons_self
  ·exact List.mem_cons_of_mem _ (BT h)
theorem BU:∀{l:List (ByteArray×Value)} {a:ByteArray} {v:Value} {p:ByteArray×Value},p∈bK l a v→p∈l∨p=(a,v)
 | [],a,v,p,h=>by rw[bK] at h;exact .inr (List.mem_singleton.1 h)
 |(k,u)::r,a,v,p,h=>by
  rw[bK] at h
  split at h
  ·rename_i e;subst e
   rcases List.mem_cons.1 h with h|h
   ·exact .inr h
   ·exact .inl (List.mem_cons_of_mem _ h)
  ·rcases List.mem_cons.1 h with h|h
   ·exact .inl (h▸List.mem_cons_self)
   ·exact(BU h).imp (List.mem_cons_of_mem _) id
def jK (C:Cx) (fe:List (ByteArray×Value)):Prop:=∀p∈fe,∃t:Tm,p.1=lW t∧p.2=.bool (sE C t)
theorem jK.nil (C:Cx):jK C []:=fun _ h=>by cases h
theorem jK.get {C:Cx} {fe:List (ByteArray×Value)} {t:Tm} {v:Value} (h:jK C fe) (hg:aG fe (lW t)=some v):v=.bool (sE C t):=by
 obtain⟨u,h1,h2⟩:=h _ (BT hg)
 rw[GH h1];exact h2
theorem jK.put {C:Cx} {fe:List (ByteArray×Value)} {t:Tm} (h:jK C fe):jK C (bK fe (lW t) (.bool (sE C t))):=fun p hp=>by
 rcases BU hp with hp|rfl
 ·exact h p hp
 ·exact⟨t,rfl,rfl⟩
theorem jL (b:Nat) {T:TypeId}:∀(vs:List Value) (o:Nat) (w:World) (cur:Array Value),w.heap[b]?=some (.cells cur T (0,0))→∃Vn,(w.setCells b o vs).heap[b]?=some (.cells Vn T (0,0))∧Vn.size=cur.size
 | [],o,w,cur,h=>⟨cur,h,rfl⟩
 |v::vs,o,w,cur,h=>by
  obtain⟨c2,h1,h2⟩:=jL b vs (o+1) _ _ (heap_setCell_same w b o cur T v h)
  exact⟨c2,h1,by rw[h2];simp⟩
theorem jM (g:Nat):∀(vs:List Value) (o:Nat) (w:World),(w.setCells g o vs).os=w.os∧(w.setCells g o vs).tape=w.tape∧(w.setCells g o vs).output=w.output∧(w.setCells g o vs).heap.size=w.heap.size∧∀k,k≠g→(w.setCells g o vs).heap[k]?=w.heap[k]?
 | [],o,w=>⟨rfl,rfl,rfl,rfl,fun _ _=>rfl⟩
 |v::vs,o,w=>by
  obtain⟨h1,h2,h3,h4,h5⟩:=jM g vs (o+1) (w.setCell ⟨g,o,none⟩ v)
  exact⟨h1,h2,h3,h4.trans (by simp),fun k hk=>(h5 k hk).trans (heap_setCell_other _ _ _ _ hk)⟩
theorem q9 {w:World} {b k:Nat} {cur:Array Value} {T:TypeId} {fr:Nat×Nat} (h:w.heap[b]?=some (.cells cur T fr)):w.cell? ⟨b,k,none⟩=cur[k]?:=by simp only[World.cell?,h];rfl
def jz:List Value:=[.slice none 0 0,.int .i64 0,.int .i64 0,.slice none 0 0]
theorem GX (w:World) (ty:TypeId) (b o c:Nat) (hc:∀j,j<4→(w.cell? ⟨b,o+j,none⟩).isSome=true) (hf:∀j,j<4→w.frozen? ⟨b,o+j,none⟩=false):
  (Builtin.clear_ #[44] ty #[.slice (some ⟨b,o,none⟩) 1 c]).run Tryz.prog w=.ok (.tuple #[]) (w.setCells b o jz):=by
 have vR:=run_storeCells_cells (P:=Tryz.prog) b o jz 0 w (by simpa [jz] using hc) (by simpa [jz] using hf) (by intro v hv;simp[jz] at hv;rcases hv with rfl|rfl|rfl|rfl<;>rfl)
 simp only[Nat.add_zero] at vR
 have hv:∀w,(zeroValue 46).run Tryz.prog w=.ok (.agg jz.toArray) w:=fun w=>(Dg 46 _ rfl).fp w
 have Wf:(Builtin.zeroCells (Value.agg jz.toArray).cells 1).toList=jz:=by kernel_rfl
 simp[Builtin.clear_,run_underlying Tryz.underlying44,hv,Wf,vR]
set_option maxHeartbeats 4000000 in
set_option maxRecDepth 1000000 in
theorem La (g n cap i:Nat) (cur:Array Value) (T:TypeId) (w:World) (hg:w.heap[g]?=some (.cells cur T (0,0))) (hn:n≤cap) (eS:cur.size=cap*4) (Cn:cap≤9223372036854775807) (hi:i<n)
  (tt:∀u∈cur.toList.take (n*4),u.oneCell'=true):
  Calls Tryz.prog 136 #[.slice (some ⟨g,0,none⟩) n cap,.int .i64 i,.int .i64 (i+1:Nat)] w fun e w'=>e=.returned (.slice (some ⟨g,0,none⟩) (n-1) cap)∧
   ∃q,w'=((q.setCells g (i*4) ((cur.toList.take (n*4)).drop ((i+1)*4))).setCells g ((n-1)*4) jz)∧q=w.drew:=by
 obtain⟨i0,vi,Ij,_⟩:=(Dg 46 _ rfl).info
 obtain⟨news,lG⟩:∃news,news=(cur.toList.take (n*4)).drop ((i+1)*4):=⟨_,rfl⟩
 have hlen:news.length=(n-(i+1))*4:=by rw[lG];simp;omega
 have aw:∀k,k<cap*4→(w.drew.cell? ⟨g,k,none⟩)=cur[k]?:=fun k hk=>by
  show w.cell? _=_
  simp only[World.cell?,hg];rfl
 have RC:∀k,w.drew.frozen? ⟨g,k,none⟩=false:=fun k=>by show w.frozen? _=_;simp[World.frozen?,hg]
 obtain⟨A,hA,YV⟩:∃A:Addr,(if cap=i+1 then some (⟨g,0,none⟩:Addr) else some ⟨g,(i+1)*4,none⟩)=some A∧Hid (∀t u,news[t]?=some u→w.drew.cell? (A.add t)=some u):=by
  by_cases h:cap=i+1
  ·refine⟨⟨g,0,none⟩,by simp[h],fun t u hu=>?_⟩
   have h0:news.length=0:=by rw[hlen];omega
   rw[List.length_eq_zero_iff.1 h0] at hu
   simp at hu
  ·refine⟨⟨g,(i+1)*4,none⟩,by simp[h],fun t u hu=>?_⟩
   have ht:t<news.length:=(List.getElem?_eq_some_iff.1 hu).1
   rw[hlen] at ht
   rw[lG,List.getElem?_drop,List.getElem?_take] at hu
   split at hu
   ·rw[Addr.add_lit,aw _ (by omega),←hu];simp
   ·cases hu
 have s1:Hid (news.length=(n-(i+1))*4):=hlen
 have s2:Hid (∀u∈news,u.oneCell'=true):=by
  intro u hu
  rw[lG] at hu
  exact tt u (List.mem_of_mem_drop hu)
 have s3:Hid (∀t,t<news.length→(w.drew.cell? ⟨g,0+i*4+t,none⟩).isSome=true∧w.drew.frozen? ⟨g,0+i*4+t,none⟩=false):=by
  intro t ht
  rw[hlen] at ht
  refine⟨?_,RC _⟩
  rw[aw _ (by omega),Array.getElem?_eq_getElem (by omega)];rfl
 obtain⟨W1,Gc⟩:∃W1,W1=w.drew.setCells g (0+i*4) news:=⟨_,rfl⟩
 have cS:∀ty,(Builtin.clear_ #[44] ty #[.slice (some ⟨g,(i+(n-(i+1)))*4,none⟩) (n-(i+(n-(i+1)))) (cap-(i+(n-(i+1))))]).run Tryz.prog W1=.ok (.tuple #[]) (W1.setCells g ((i+(n-(i+1)))*4) jz):=fun ty=>by
  rw[show n-(i+(n-(i+1)))=1 by omega]
  refine GX W1 ty g _ _ (fun j hj=>?_) (fun j hj=>?_)
  ·rw[Gc]
   have h1:(w.drew.cell? ⟨g,(i+(n-(i+1)))*4+j,none⟩).isSome=true:=by rw[aw _ (by omega),Array.getElem?_eq_getElem (by omega)];rfl
   rw[World.cell?_setCells_out g news (0+i*4) w.drew _ (fun _ _=>.inr (by rw[hlen];show 0+i*4+(n-(i+1))*4≤(i+(n-(i+1)))*4+j;omega))]
   exact h1
  ·rw[Gc,World.frozen?_setCells];exact RC _
 have hW:Hid (W1=w.drew.setCells g (0+i*4) news):=Gc
 have hic:i≤cap:=by omega
 have hjc:i+1≤cap:=by omega
 have hiz:(i:Int)+1≤(n:Int):=by omega
 have abG:0≤(i:Int)+1:=by omega
 clear Gc aw RC hlen tt hg
 go_enter Tryz.func136,Tryz.ntmps136
 go_wp2
 go_region_law (refine step_append_room rfl (.tmp 22) (.tmp 25) 44 rfl 46 i0 4 Tryz.underlying44 vi Ij g 0 i cap (by simp[Act.eval,Act.put]) A (n-(i+1)) (cap-(i+1)) news (by simp[Act.eval,Act.put]) s1.out YV.out s2.out (by omega) s3.out ?_;rw[←hW.out])
 go_wp2
 go_ret
 refine⟨by rw[show n-1=i+(n-(i+1)) by omega];rfl,w.drew,?_,rfl⟩
 rw[show i+(n-(i+1))=n-1 by omega,hW.out,lG,Nat.zero_add]
theorem yN {els:List AV} {i:Nat} (hi:i<els.length):bJ Tryz.prog 136 [.own 0 els.length,nI i,nI ((i+1:Nat):Int)] [.aF 46 4 els]
  (fun r q=>r=.own 1 (els.eraseIdx i).length∧q=[.dead,.aF 46 4 (els.eraseIdx i)]):=by
 refine⟨⟨_,Tryz.func136,by kernel_rfl,by kernel_rfl⟩,fun w F η aR aI hv=>?_⟩
 match aR,hv with
 | [v0,v1,v2],⟨r0,r1,r2,_⟩=>
  obtain rfl:=ep r1
  obtain rfl:=ep r2
  obtain⟨v,rfl⟩:∃v,η=[v]:=by
   have:=aI.heap.len
   match η,this with
   | [v],_=>exact⟨v,rfl⟩
  obtain rfl:v=v0:=by
   cases r0 with
   |own _ _ _ h1 h2=>exact Option.some.inj (h2.2 rfl)
  obtain⟨_,xs,bU,cy⟩:=aI.heap.obj 0 _ _ rfl rfl
  obtain⟨WV,bU⟩:=bU
  rcases bU with⟨h0,_⟩|⟨g,cap,cur,rfl,qA,⟨vi,hh,hg⟩,hn,hm,eS,xv⟩
  ·omega
  obtain rfl:vi=0:=by omega
  have Lt:∀k,k<els.length*4→cur[k]?=xs[k]?:=fun k hk=>by
   rw[←xv,List.getElem?_take,if_pos hk,Array.getElem?_toList]
  have tt:∀u∈cur.toList.take (els.length*4),u.oneCell'=true:=by
   intro u hu
   rw[xv] at hu
   obtain⟨k,hk⟩:=List.getElem?_of_mem hu
   have vZ:k<els.length*4:=by rw[←WV];exact(List.getElem?_eq_some_iff.1 hk).1
   have ha:k / 4<els.length:=by omega
   obtain⟨hc,aw⟩:=cy (k / 4) _ (List.getElem?_eq_getElem ha)
   have hj:k % 4<els[k / 4].cells.length:=by rw[hc];omega
   obtain⟨u2,h1,_,h3⟩:=aw (k % 4) _ (List.getElem?_eq_getElem hj)
   rw[show k / 4*4+k % 4=k by omega,hk] at h1
   rw[Option.some.inj h1];exact h3
  refine callsIn_wide.2 ((La g els.length cap i cur _ w hg hn eS (by simp only[maxLen] at hm;omega) hi tt).mono ?_)
  rintro e w' ⟨rfl,_,rfl,rfl⟩
  obtain⟨c1,k1,k2⟩:=jL g ((cur.toList.take (els.length*4)).drop ((i+1)*4)) (i*4) w.drew cur hg
  obtain⟨c2,k3,k4⟩:=jL g jz ((els.length-1)*4) _ c1 k1
  have Pk:((cur.toList.take (els.length*4)).drop ((i+1)*4)).length=(els.length-(i+1))*4:=by simp;omega
  have hle:(els.eraseIdx i).length=els.length-1:=by rw[List.length_eraseIdx,if_pos hi]
  have hgs:g<w.heap.size:=aX hg
  obtain⟨q1,q2,q3,q4,q5⟩:=jM g ((cur.toList.take (els.length*4)).drop ((i+1)*4)) (i*4) w.drew
  obtain⟨p1,p2,p3,p4,p5⟩:=jM g jz ((els.length-1)*4) (w.drew.setCells g (i*4) ((cur.toList.take (els.length*4)).drop ((i+1)*4)))
  have hd:w.drew.heap[g]?=some (.cells cur 46 (0,0)):=hg
  generalize Gc:w.drew.setCells g (i*4) ((cur.toList.take (els.length*4)).drop ((i+1)*4))=W1 at *
  have qx:∀k,¬k<i*4→k<(els.length-1)*4→W1.cell? ⟨g,k,none⟩=xs[k+4]?:=fun k Ci hk=>by
   have qx:=World.cell?_setCells_in g ((cur.toList.take (els.length*4)).drop ((i+1)*4)) (i*4) w.drew (fun j hj=>by
    rw[Pk] at hj
    rw[q9 hd,Array.getElem?_eq_getElem (by omega)];rfl) (k-i*4) (by rw[Pk];omega)
   rw[show i*4+(k-i*4)=k by omega,Gc] at qx
   rw[qx,←List.getElem?_eq_getElem,List.getElem?_drop,xv]
   congr 1
   omega
  have aw:∀k,k<(els.length-1)*4→c2[k]?=if k<i*4 then xs[k]? else xs[k+4]?:=fun k hk=>by
   rw[←q9 k3,World.cell?_setCells_out g jz _ _ _ (fun _ _=>.inl hk)]
   by_cases Ci:k<i*4
   ·rw[←Gc,World.cell?_setCells_out g _ _ _ _ (fun _ _=>.inl Ci),if_pos Ci,←Lt k (by omega),q9 hd]
   ·rw[if_neg Ci];exact qx k Ci hk
  generalize hW:W1.setCells g ((els.length-1)*4) jz=W at *
  have gv:∀k,k≠g→W.heap[k]?=w.heap[k]?:=fun k hk=>(p5 k hk).trans (q5 k hk)
  have bE:W.heap.size=w.heap.size:=p4.trans q4
  have Gj:∀o,¬F g o:=fun o hf=>by
   have:=(aI.aY g o hf).2 0 _ rfl (ba qA)
   exact this
  have cX:aC [Value.slice (some ⟨g,0,none⟩) els.length cap] [af.aF 46 4 els] g:=⟨0,_,_,rfl,True.intro,rfl,ba qA⟩
  have dF:∀b o,F b o→bQ F w [Value.slice (some ⟨g,0,none⟩) els.length cap] [af.aF 46 4 els] W [.slice (some ⟨g,0,none⟩) els.length cap,.slice (some ⟨g,0,none⟩) (els.length-1) cap] [.dead,.aF 46 4 (els.eraseIdx i)] b o:=fun b o hf=>by
   refine⟨.inl hf,by rw[bE];exact(aI.aY b o hf).1,fun r v h1 h2=>?_⟩
   match r,h1 with
   |0,_=>exact True.intro
   |1,h1=>
    cases h1
    rw[ba qA] at h2
    obtain rfl:=Option.some.inj h2
    exact absurd hf (Gj o)
  have bY:Ext w F [Value.slice (some ⟨g,0,none⟩) els.length cap] [af.aF 46 4 els] W (bQ F w [Value.slice (some ⟨g,0,none⟩) els.length cap] [af.aF 46 4 els] W [.slice (some ⟨g,0,none⟩) els.length cap,.slice (some ⟨g,0,none⟩) (els.length-1) cap] [.dead,.aF 46 4 (els.eraseIdx i)]) [.slice (some ⟨g,0,none⟩) els.length cap,.slice (some ⟨g,0,none⟩) (els.length-1) cap] [.dead,.aF 46 4 (els.eraseIdx i)]:=by
   refine⟨fun b o v hf hc=>?_,fun b es c hf hc=>?_,dF,fun r a h=>?_,fun r a h=>?_,fun r n u h=>?_⟩
   ·have bj:b≠g:=fun e=>Gj o (e▸hf)
    simp only[World.cell?] at hc ⊢
    rw[gv b bj];exact hc
   ·have bj:b≠g:=fun e=>Gj 0 (e▸hf)
    rw[gv b bj];exact hc
   ·match r,h with
    |0,h=>cases h
   ·match r,h with
    |0,h=>cases h
   ·match r,h with
    |0,_=>exact True.intro
  refine⟨_,_,_,[.slice (some ⟨g,0,none⟩) els.length cap,.slice (some ⟨g,0,none⟩) (els.length-1) cap],rfl,⟨rfl,rfl⟩,⟨p1.trans q1,p2.trans q2,p3.trans q3,by rw[bE];exact Nat.le_refl _,fun k _ hx=>gv k fun e=>hx (e▸cX)⟩,bY,⟨rfl,fun r o v h1 h2=>?_,fun r r' o o' v v' b bj h1 h2 l1 l2 e1 e2 hb=>?_⟩,fun b ⟨r,o,v,h1,h2,h3,h4⟩=>?_,.own _ _ _ rfl ?_⟩
  ·match r,h1,h2 with
   |0,h1,_=>cases h1;exact True.intro
   |1,h1,h2=>
    cases h1;cases h2
    refine⟨by omega,c2.toList.take ((els.length-1)*4),⟨by have e:=Array.length_toList (xs:=c2);rw[hle,List.length_take];omega,.inr ⟨g,cap,c2,by rw[hle],qA,⟨0,Nat.le_refl _,k3⟩,by omega,hm,by omega,by rw[hle]⟩⟩,fun a el ha=>?_⟩
    rw[List.getElem?_eraseIdx] at ha
    have hal:a<els.length-1:=by
     split at ha
     ·omega
     ·have:=(List.getElem?_eq_some_iff.1 ha).1;omega
    have get:∀j,j<4→(c2.toList.take ((els.length-1)*4))[a*4+j]?=if a<i then xs[a*4+j]? else xs[(a+1)*4+j]?:=fun j hj=>by
     rw[List.getElem?_take,if_pos (by omega),Array.getElem?_toList,aw _ (by omega)]
     by_cases h:a<i
     ·rw[if_pos h,if_pos (by omega)]
     ·rw[if_neg h,if_neg (by omega)]
      congr 1;omega
    by_cases h:a<i
    ·rw[if_pos h] at ha
     obtain⟨hc,hx⟩:=cy a el ha
     refine⟨hc,fun j x hj=>?_⟩
     obtain⟨u,z1,z2,z3⟩:=hx j x hj
     have YW:j<4:=by rw[←hc];exact(List.getElem?_eq_some_iff.1 hj).1
     exact⟨u,by rw[get j YW,if_pos h];exact z1,z2.ext bY.jP.ext,z3⟩
    ·rw[if_neg h] at ha
     obtain⟨hc,hx⟩:=cy (a+1) el ha
     refine⟨hc,fun j x hj=>?_⟩
     obtain⟨u,z1,z2,z3⟩:=hx j x hj
     have YW:j<4:=by rw[←hc];exact(List.getElem?_eq_some_iff.1 hj).1
     exact⟨u,by rw[get j YW,if_neg h];exact z1,z2.ext bY.jP.ext,z3⟩
  ·match r,r',h1,h2 with
   |0,_,h1,_=>cases h1;exact l1.elim
   |1,0,_,h2=>cases h2;exact l2.elim
   |1,1,_,_=>exact(bj rfl).elim
  ·match r,h1,h3 with
   |0,h1,_=>cases h1;exact h2.elim
   |1,_,h3=>
    cases h3
    rw[ba qA] at h4
    obtain rfl:=Option.some.inj h4
    exact .inr cX
  ·unfold aQ
   simp[hle]
abbrev VT (t:Tm):af:=.box [.sl (t.binds.map Ty.enc),nI t.kind,nI t.index,.sl (t.args.map Tm.enc)]
theorem GY {x t:Tm} (hx:x.size≤1000000):bJ Tryz.prog 135 [dc x,.ptr 0 0] [VT t] (fun r q=>r=nB (Tm.same x t)∧q=[VT t]):=
 J4 ⟨_,q7 1000000 x t hx (by omega),rfl,rfl⟩
theorem BV {l:List Tm} {t:Tm} (hl:bH l):bJ Tryz.prog 134 [.own 0 (l.map Tm.enc).length,.aS 135 [.ptr 1 0]] [.aF 46 4 (l.map Tm.enc),VT t] (fun r q=>r=nI (q8 t l 0)∧q=[.aF 46 4 (l.map Tm.enc),VT t]):=by
 obtain⟨zh,n7⟩:=hl
 refine A0 ⟨rfl,rfl,au.intro (fun k:Nat=>(((),((),()),(l.length:Int),(k:Int),()),(l.map Tm.enc,(t.binds.map Ty.enc,t.kind,t.index,t.args.map Tm.enc,()),()))) (fun k=>k≤l.length∧q8 t l 0=q8 t (l.drop k) k) (fun k=>l.length-k) 0 (by rw[List.length_map];rfl) ⟨Nat.zero_le _,rfl⟩ ?_⟩
 intro k ⟨hk,hs⟩ again bB
 dsimp only
 refine ak.intro (fun h=>?_) fun h=>?_
 ·have al:k<l.length:=by simpa using h
  rw[List.drop_eq_getElem_cons al,q8] at hs
  refine⟨⟨by omega,by rw[List.length_map];omega,rfl⟩,rfl,by rw[List.length_map];omega,_,_,_,_,Tm.aj al,_,GY (n7 _ (List.getElem_mem al)),fun r q ⟨e1,e2⟩=>⟨_,_,_,_,_,⟨e1,e2⟩,ak.intro (fun h=>?_) fun h=>⟨rfl,?_⟩⟩⟩
  ·rw[hs,if_pos h];exact⟨rfl,rfl⟩
  ·rw[if_neg (by simp[h])] at hs
   rw[aB (by omega)]
   exact bB (k+1) ⟨by omega,hs⟩ (by omega)
 ·have:l.length≤k:=by simpa using h
  rw[List.drop_eq_nil_of_le this] at hs
  rw[hs];exact⟨rfl,rfl⟩
theorem BW {l:List Tm} (h:l.length≤1000000000):CU Tryz.prog 133 [.sl (l.map Tm.enc)] 46 4 (l.map Tm.enc):=by
 refine vE fun b hb=>ak.intro (fun h1=>?_) fun h1=>?_
 ·subst h1
  refine⟨Classical.byContradiction fun bj=>?_,by decide⟩
  have:=hb bj
  cases this
 ·exact⟨cN Tm.cW (by simp;omega) (by decide),rfl,rfl,by simp,by simp⟩
def kN:List Tm→List Tm→List Tm
 | [],l=>l
 |t::a,l=>if t∈l then kN a (l.erase t) else kN a l
theorem GZ (a l:List Tm) (t:Tm):kN (a++[t]) l=if t∈kN a l then(kN a l).erase t else kN a l:=by
 induction a generalizing l with
 |nil=>rfl
 |cons x a ih=>
  rw[List.cons_append,kN,kN]
  split<;>exact ih _
theorem DZ (a l:List Tm) (t:Tm):cx (a++[t]) l=cx a l++if t∈kN a l then[] else[t]:=by
 induction a generalizing l with
 |nil=>
  rw[List.nil_append,cx,cx,kN,cx,List.nil_append]
  by_cases h:t∈l
  ·rw[if_pos h,if_pos h]
  ·rw[if_neg h,if_neg h,cx]
 |cons x a ih=>
  rw[List.cons_append,cx,cx,kN]
  split
  ·exact ih _
  ·rw[ih,List.cons_append]
theorem Lb {a l:List Tm} {x:Tm} (h:x∈kN a l):x∈l:=by
 induction a generalizing l with
 |nil=>exact h
 |cons y a ih=>
  rw[kN] at h
  split at h
  ·exact List.mem_of_mem_erase (ih h)
  ·exact ih h
theorem Lc (a l:List Tm):(kN a l).length≤l.length:=by
 induction a generalizing l with
 |nil=>exact Nat.le_refl _
 |cons y a ih=>
  rw[kN]
  split
  ·exact Nat.le_trans (ih _) List.length_erase_le
  ·exact ih _
theorem bH.cut {l:List Tm} (h:bH l) (a:List Tm):bH (kN a l):=⟨Nat.le_trans (Lc a l) h.1,fun x hx=>h.2 x (Lb hx)⟩
theorem bH.less {a:List Tm} (h:bH a) (l:List Tm):bH (cx a l):=⟨Nat.le_trans (q6 a l) h.1,fun x hx=>h.2 x (nL hx)⟩
theorem map_eraseIdx {α β:Type} (f:α→β):∀(l:List α) (i:Nat),(l.map f).eraseIdx i=(l.eraseIdx i).map f
 | [],_=>rfl
 |_::_,0=>rfl
 |x::l,i+1=>by simp[map_eraseIdx f l i]
theorem uU {a l:List Tm} (ha:bH a) (hl:bH l):ag Tryz.prog 83 [.sl (a.map Tm.enc),.sl (l.map Tm.enc)] (.sl ((cx a l).map Tm.enc)):=by
 refine NU ⟨_,BW (by have:=hl.1;omega),rfl,rfl,?_⟩
 refine au.intro (fun k:Nat=>(((),(),a.map Tm.enc,(a.length:Int),(k:Int),()),((kN (a.take k) l).map Tm.enc,(cx (a.take k) l).map Tm.enc,()))) (fun k=>k≤a.length) (fun k=>a.length-k) 0 (by rw[List.length_map];rfl) (Nat.zero_le _) ?_
 intro k hk again bB
 dsimp only
 refine ak.intro (fun h=>?_) fun h=>⟨rfl,?_⟩
 ·have al:k<a.length:=by simpa using h
  have e1:a.take (k+1)=a.take k++[a[k]]:=List.take_succ_eq_append_getElem al
  have hc:=hl.cut (a.take k)
  have ho:=(bH.less (a:=a.take k) ⟨by rw[List.length_take];have:=ha.1;omega,fun x hx=>ha.2 x (List.mem_of_mem_take hx)⟩ l).1
  have y9:=ha.1
  have ou:=bB (k+1) (by omega) (by omega)
  rw[e1,GZ,DZ] at ou
  refine⟨by omega,by rw[List.length_map];omega,_,_,_,_,Tm.aj al,_,BV hc,fun r q ⟨r1,r2⟩=>⟨_,_,_,_,_,_,⟨r1,r2⟩,ak.intro (fun h=>?_) fun h=>?_⟩⟩
  ·have hn:a[k]∉kN (a.take k) l:=by
    rcases nM a[k] (kN (a.take k) l) 0 with⟨_,h2⟩|⟨j,h1,_⟩
    ·exact h2
    ·rw[h1] at h
     have:((0+j:Nat):Int)<0:=by simpa using h
     omega
   have e2:(cx (a.take k) l).map Tm.enc++[dc a[k]]=((cx (a.take k) l)++[a[k]]).map Tm.enc:=by rw[List.map_append,cq];rfl
   refine⟨rfl,bX rfl (by rw[e2,List.length_map,List.length_append,List.length_singleton];omega) (by decide),rfl,rfl,?_⟩
   rw[if_neg hn,if_neg hn] at ou
   rw[aB (by omega),e2]
   exact ou
  ·rcases nM a[k] (kN (a.take k) l) 0 with⟨h1,h2⟩|⟨j,h1,h2,h3,h4⟩
   ·rw[h1] at h;simp at h
   ·rw[if_pos h4,if_pos h4,List.append_nil] at ou
    have hj:=hc.1
    rw[h1,Nat.zero_add,aB (by omega)]
    refine⟨_,yN (by rw[List.length_map];exact h2),fun r q ⟨r1,r2⟩=>⟨_,⟨r1,r2⟩,rfl,rfl,?_⟩⟩
    rw[aB (by omega),map_eraseIdx,h3]
    exact ou
 ·have:a.length≤k:=by simpa using h
  rw[List.take_of_length_le this]
def ni (p:Tm→Bool):List Tm→Nat→Int
 | [],_ => -1
 |x::l,k=>if p x=true then k else ni p l (k+1)
theorem qk (p:Tm→Bool):∀(l:List Tm) (k:Nat),decide (ni p l k≥0)=l.any p
 | [],k=>rfl
 |x::l,k=>by
  rw[ni,List.any_cons]
  cases h:p x with
  |true=>rw[if_pos rfl,Bool.true_or];exact decide_eq_true (by omega)
  |false=>rw[if_neg (by decide),Bool.false_or];exact qk p l (k+1)
theorem G0 {x t:Tm} (hx:x.size≤1000000):ag Tryz.prog 86 [dc x,.aH (dc t) 0] (nB (fP x t)):=
 Nx ⟨_,gk hx,rfl⟩
theorem BX {l:List Tm} {t:Tm} (hl:bH l):ag Tryz.prog 134 [.sl (l.map Tm.enc),.aS 86 [.aH (dc t) 0]] (nI (ni (fun x=>fP x t) l 0)):=by
 obtain⟨zh,n7⟩:=hl
 refine A3 ⟨rfl,au.intro (fun k:Nat=>((l.map Tm.enc,((),()),(l.length:Int),(k:Int),()),())) (fun k=>k≤l.length∧ni (fun x=>fP x t) l 0=ni (fun x=>fP x t) (l.drop k) k) (fun k=>l.length-k) 0 (by rw[List.length_map];rfl) ⟨Nat.zero_le _,rfl⟩ ?_⟩
 intro k ⟨hk,hs⟩ again bB
 dsimp only
 refine ak.intro (fun h=>?_) fun h=>?_
 ·have al:k<l.length:=by simpa using h
  rw[List.drop_eq_getElem_cons al,ni] at hs
  refine⟨by omega,by rw[List.length_map];omega,_,_,_,_,Tm.aj al,_,G0 (n7 _ (List.getElem_mem al)),ak.intro (fun h=>?_) fun h=>⟨rfl,?_⟩⟩
  ·rw[hs,if_pos h]
  ·rw[if_neg (by simp[h])] at hs
   rw[aB (by omega)]
   exact bB (k+1) ⟨by omega,hs⟩ (by omega)
 ·have:l.length≤k:=by simpa using h
  rw[List.drop_eq_nil_of_le this] at hs
  rw[hs];rfl
theorem BZ {l:List Tm} {t:Tm} (hl:bH l):ag Tryz.prog 85 [.sl (l.map Tm.enc),.aS 86 [.aH (dc t) 0]] (nB (l.any fun x=>fP x t)):=
 A4 ⟨_,BX hl,by rw[qk]⟩
def uV (l:List Tm) (y:Tm):Bool:=!(l.any fun x=>fP x y)
theorem Ld {l:List Tm} {t:Tm} (hl:bH l):bJ Tryz.prog 84 [dc t,.ptr 0 0] [.box [.sl (l.map Tm.enc)]] (fun r q=>r=nB (l.any fun x=>fP x t)∧q=[.box [.sl (l.map Tm.enc)]]):=
 Ny ⟨_,BZ hl,rfl,rfl⟩
theorem G1 {l:List Tm} {t:Tm} (hl:bH l):bJ Tryz.prog 87 [dc t,.ptr 1 0] (xW (l.map Tm.enc)) (fun r q=>r=nB (uV l t)∧q=xW (l.map Tm.enc)):=
 Nz ⟨_,Ld hl,fun r q ⟨e1,e2⟩=>⟨_,_,⟨e1,e2⟩,rfl,rfl⟩⟩
theorem B0 {l m:List Tm} (hl:bH l) (hm:m.length≤1000000000):bJ Tryz.prog 134 [.sl (m.map Tm.enc),.aS 87 [.ptr 1 0]] (xW (l.map Tm.enc)) (fun r q=>r=nI (ni (uV l) m 0)∧q=xW (l.map Tm.enc)):=by
 refine A7 (au.intro (fun k:Nat=>((m.map Tm.enc,((),()),(m.length:Int),(k:Int),()),((l.map Tm.enc,()),((),()),()))) (fun k=>k≤m.length∧ni (uV l) m 0=ni (uV l) (m.drop k) k) (fun k=>m.length-k) 0 (by rw[List.length_map];rfl) ⟨Nat.zero_le _,rfl⟩ ?_)
 intro k ⟨hk,hs⟩ again bB
 dsimp only
 refine ak.intro (fun h=>?_) fun h=>?_
 ·have al:k<m.length:=by simpa using h
  rw[List.drop_eq_getElem_cons al,ni] at hs
  refine⟨by omega,by rw[List.length_map];omega,_,_,_,_,Tm.aj al,_,G1 hl,fun r q ⟨e1,e2⟩=>⟨_,_,⟨e1,e2⟩,ak.intro (fun h=>?_) fun h=>?_⟩⟩
  ·rw[hs,if_pos h];exact⟨rfl,rfl⟩
  ·rw[if_neg (by simp[h])] at hs
   rw[aB (by omega)]
   exact bB (k+1) ⟨by omega,hs⟩ (by omega)
 ·have:m.length≤k:=by simpa using h
  rw[List.drop_eq_nil_of_le this] at hs
  rw[hs];exact⟨rfl,rfl⟩
theorem B1 {l m:List Tm} (hl:bH l) (hm:m.length≤1000000000):bJ Tryz.prog 85 [.sl (m.map Tm.enc),.aS 87 [.ptr 1 0]] (xW (l.map Tm.enc)) (fun r q=>r=nB (m.any (uV l))∧q=xW (l.map Tm.enc)):=
 A8 ⟨_,B0 hl hm,fun r q ⟨e1,e2⟩=>⟨_,_,⟨e1,e2⟩,by rw[qk],rfl⟩⟩
theorem Le (l m:List Tm):(!m.any (uV l))=m.all fun y=>l.any fun x=>fP x y:=by
 induction m with
 |nil=>rfl
 |cons y m ih=>rw[List.any_cons,List.all_cons,Bool.not_or,ih,uV,Bool.not_not]
theorem G2 {a b:List Tm} (ha:bH a) (hb:bH b):ag Tryz.prog 49 [.sl (a.map Tm.enc),.sl (b.map Tm.enc)] (nB (DX a b)):=by
 refine NA ⟨_,uU ha hb,_,uU hb ha,ak.intro (fun h=>?_) fun h=>?_⟩
 ·have bj:(cx a b).isEmpty=false:=by
   cases he:cx a b with
   |nil=>rw[he] at h;simp at h
   |cons=>rfl
  refine⟨_,B1 (ha.less b) (by have:=(hb.less a).1;omega),fun r q ⟨e1,e2⟩=>⟨_,_,⟨e1,e2⟩,?_⟩⟩
  rw[Le,DX,bj];rfl
 ·have bj:(cx a b).isEmpty=true:=by
   cases he:cx a b with
   |nil=>rfl
   |cons=>rw[he] at h;simp at h
  rw[DX,bj];rfl
theorem oW {k:Int} {a b:List Tm} (ha:bH a) (hb:bH b):ag Tryz.prog 18 [nI k,.sl (a.map Tm.enc),.sl (b.map Tm.enc)] (nB (ov k a b)):=by
 refine NB (ak.intro (fun h=>?_) fun h=>?_)
 ·rw[ov,if_neg (by intro e;rw[List.length_map,List.length_map,e] at h;simp at h)]
 ·have hl:a.length=b.length:=by
   have h2:(a.length:Int)=(b.length:Int):=by simpa [bne] using h
   omega
  rw[ov,if_pos hl]
  refine ak.intro (fun h=>⟨_,G2 ha hb,?_⟩) fun h=>⟨_,GU ha hl,?_⟩
  ·rw[if_pos (by simpa using h)]
  ·rw[if_neg (by simpa using h)]
theorem nN {l:List Tm} {k:Nat} (h:k<l.length):eI (l.take (k+1))=eI (l.take k)++l[k].inner:=by
 rw[eI,eI,List.take_succ_eq_append_getElem h,List.flatMap_append,List.flatMap_cons,List.flatMap_nil,List.append_nil]
abbrev ql (l r:Tm) (ms:List Ty):AV:=.agg [.sl (l.binds.map Ty.enc),nI l.kind,nI l.index,.sl (l.args.map Tm.enc),.sl (r.binds.map Ty.enc),nI r.kind,nI r.index,.sl (r.args.map Tm.enc),.sl (ms.map Ty.enc)]
theorem uW {l:List Tm} {k:Nat} (h:k<l.length) (hs:Tm.sizes l≤1000000):l[k].size≤1000000∧(eI (l.take k)).length+l[k].inner.length≤1000000:=by
 have h1:=Tm.bm (List.getElem_mem h)
 have h2:=qj (l.take (k+1))
 have h3:=Tm.lE l (k+1)
 rw[nN h,List.length_append] at h2
 omega
theorem yO {l r:Tm} {ms:List Ty} (h:Tm.sizes l.args≤1000000):ag Tryz.prog 38 [ql l r ms] (.sl ((eI l.args).map Tm.enc)):=by
 have hlen:=Tm.aA l.args
 refine Nl ⟨rfl,au.intro (fun k:Nat=>(((),l.args.map Tm.enc,(l.args.length:Int),(k:Int),()),((l.binds.map Ty.enc,l.kind,l.index,l.args.map Tm.enc,r.binds.map Ty.enc,r.kind,r.index,r.args.map Tm.enc,ms.map Ty.enc,()),(eI (l.args.take k)).map Tm.enc,()))) (fun k=>k≤l.args.length) (fun k=>l.args.length-k) 0 (by rw[List.length_map];rfl) (Nat.zero_le _) ?_⟩
 intro k hk again bB
 dsimp only
 refine ak.intro (fun h1=>?_) fun h1=>⟨rfl,?_⟩
 ·have al:k<l.args.length:=by simpa using h1
  obtain⟨s1,s2⟩:=uW al h
  refine⟨by omega,by rw[List.length_map];omega,_,_,_,_,Tm.aj al,_,nh 1000000 _ s1 (by omega),rfl,cN Tm.cW (by rw[List.length_append,List.length_map,List.length_map];omega) (by decide),rfl,?_⟩
  rw[aB (by omega),←List.map_append,←nN al]
  exact bB (k+1) (by omega) (by omega)
 ·have:l.args.length≤k:=by simpa using h1
  rw[List.take_of_length_le this]
theorem vK {l r:Tm} {ms:List Ty} (h:Tm.sizes l.args≤1000000):CU Tryz.prog 38 [ql l r ms] 46 4 ((eI l.args).map Tm.enc):=by
 have hlen:=Tm.aA l.args
 refine vD ⟨rfl,au.intro (fun k:Nat=>(((),l.args.map Tm.enc,(l.args.length:Int),(k:Int),()),((l.binds.map Ty.enc,l.kind,l.index,l.args.map Tm.enc,r.binds.map Ty.enc,r.kind,r.index,r.args.map Tm.enc,ms.map Ty.enc,()),(eI (l.args.take k)).map Tm.enc,()))) (fun k=>k≤l.args.length) (fun k=>l.args.length-k) 0 (by rw[List.length_map];rfl) (Nat.zero_le _) ?_⟩
 intro k hk again bB
 dsimp only
 refine ak.intro (fun h1=>?_) fun h1=>?_
 ·have al:k<l.args.length:=by simpa using h1
  obtain⟨s1,s2⟩:=uW al h
  refine⟨by omega,by rw[List.length_map];omega,_,_,_,_,Tm.aj al,_,nh 1000000 _ s1 (by omega),rfl,cN Tm.cW (by rw[List.length_append,List.length_map,List.length_map];omega) (by decide),rfl,?_⟩
  rw[aB (by omega),←List.map_append,←nN al]
  exact bB (k+1) (by omega) (by omega)
 ·have:l.args.length≤k:=by simpa using h1
  rw[List.take_of_length_le this]
  exact⟨rfl,rfl,rfl,rfl⟩
theorem Lf {α:Type} (l:List α) (k:Nat) (h:k<l.length):l.set k l[k]=l:=by
 apply List.ext_getElem?
 intro i
 rw[List.getElem?_set]
 split
 ·rename_i e;subst e;rw[List.getElem?_eq_getElem h]
 ·rfl
theorem yP {l r:Tm} {ms:List Ty} (h:Tm.sizes l.args≤1000000) (hk:∀x∈eI l.args,x.Ok):ag Tryz.prog 16 [ql l r ms] (.sl ((eI l.args).map Tm.enc)):=by
 have hlen:=qj l.args
 have bE:=fun x hx=>wR (l:=l.args) (x:=x) hx
 refine Nq ⟨_,vK h,rfl,rfl,?_⟩
 generalize eI l.args=L at *
 refine au.intro (fun k:Nat=>(((),(L.length:Int),(k:Int),()),((l.binds.map Ty.enc,l.kind,l.index,l.args.map Tm.enc,r.binds.map Ty.enc,r.kind,r.index,r.args.map Tm.enc,ms.map Ty.enc,()),L.map Tm.enc,()))) (fun k=>k≤L.length) (fun k=>L.length-k) 0 (by rw[List.length_map];rfl) (Nat.zero_le _) ?_
 intro k vZ again bB
 dsimp only
 refine ak.intro (fun h1=>?_) fun h1=>⟨rfl,rfl⟩
 have al:k<L.length:=by simpa using h1
 have b:(0:Int)≤k∧(k:Int)<((List.length (L.map Tm.enc):Nat):Int)∧List.length (L.map Tm.enc)=List.length (L.map Tm.enc):=⟨by omega,by rw[List.length_map];omega,rfl⟩
 have b2:Int.toNat (k:Int)<List.length (L.map Tm.enc):=by rw[List.length_map];omega
 have hm:=List.getElem_mem al
 have cp:=Dt (t:=L[k]) (by have:=bE _ hm;omega) (hk _ hm)
 rw[←cq] at cp
 have e:List.set (L.map Tm.enc) (Int.toNat (k:Int)) (dc L[k])=L.map Tm.enc:=by
  have:=Lf (L.map Tm.enc) k (by rw[List.length_map];exact al)
  rw[List.getElem_map,←cq] at this
  exact this
 refine⟨b,rfl,b2,_,_,_,_,Tm.aj al,_,_,_,_,cp,b,rfl,b2,?_,?_⟩
 ·rw[e]
 ·rw[e,aB (by omega)]
  exact bB (k+1) (by omega) (by omega)
theorem qm:∀(n:Nat) (t:Tm),t.size≤n→n≤1000000→ag Tryz.prog 48 [dc t] (.sl (t.inner.map Tm.enc)):=by
 intro n
 induction n with
 |zero=>intro t h;have:=t.size_pos;omega
 |succ n ih=>
  intro t h hn
  have vj:=t.size_eq
  have hlen:=Tm.aA t.args
  have one:([dc t]:List AV)=[t].map Tm.enc:=by rw[cq];rfl
  have stop:(t.binds.isEmpty&&(t.kind==1))=false→t.inner=[t]:=fun e=>by rw[Tm.kM,e];rfl
  have bi:(((List.length (t.binds.map Ty.enc):Nat):Int)==0)=t.binds.isEmpty:=by
   rw[List.length_map]
   cases t.binds with
   |nil=>rfl
   |cons x l=>simp;omega
  refine NG ⟨rfl,au.intro (fun k:Nat=>(((),(),(k:Int),()),((t.binds.map Ty.enc,t.kind,t.index,t.args.map Tm.enc,()),(t::Tm.cK (t.args.take k)).map Tm.enc,()))) (fun k=>k≤t.args.length∧(k=0∨(t.binds.isEmpty&&(t.kind==1))=true)) (fun k=>t.args.length-k) 0 (by rw[one];rfl) ⟨Nat.zero_le _,.inl rfl⟩ ?_⟩
  intro k ⟨vZ,aq⟩ again bB
  dsimp only
  have out:(t.binds.isEmpty&&(t.kind==1))=false→AV.sl ((t::Tm.cK (t.args.take k)).map Tm.enc)=.sl (t.inner.map Tm.enc):=fun e=>by
   rcases aq with rfl|h
   ·rw[stop e];rfl
   ·rw[e] at h;cases h
  refine ak.intro (fun h1=>ak.intro (fun h2=>ak.intro (fun h3=>?_) fun h3=>⟨rfl,out (by rw[h3,Bool.and_false])⟩) fun h2=>⟨rfl,out (by rw[←bi,h2];rfl)⟩) fun h1=>⟨rfl,?_⟩
  ·have al:k<t.args.length:=by
    rw[List.length_map] at h1
    simpa using h1
   have hc:(t.binds.isEmpty&&(t.kind==1))=true:=by rw[←bi,h2,h3];rfl
   have Oy:=Tm.rY al
   have b2:(k:Int)<((List.length (t.args.map Tm.enc):Nat):Int):=by rw[List.length_map];omega
   refine⟨by omega,b2,_,_,_,_,Tm.aj al,ak.intro (fun h4=>?_) fun h4=>⟨rfl,?_⟩⟩
   ·have Lx:t.args[k].binds.isEmpty=true:=by
     rw[List.length_map] at h4
     cases hb:t.args[k].binds with
     |nil=>rfl
     |cons x l=>rw[hb] at h4;simp at h4;omega
    rw[Lx,if_pos rfl] at Oy
    have hs:=Tm.bm (List.getElem_mem al)
    have i1:=Tm.lD (t.args.take (k+1))
    have i2:=Tm.lE t.args (k+1)
    rw[Oy,List.length_append] at i1
    refine⟨by omega,b2,_,_,_,_,Tm.aj al,_,ih t.args[k] (by omega) (by omega),rfl,cN Tm.cW (by rw[List.length_append,List.length_map,List.length_map,List.length_cons];omega) (by decide),rfl,?_⟩
    rw[aB (by omega),←List.map_append,List.cons_append,←Oy]
    exact bB (k+1) ⟨by omega,.inr hc⟩ (by omega)
   ·have Lx:t.args[k].binds.isEmpty=false:=by
     rw[List.length_map] at h4
     cases hb:t.args[k].binds with
     |nil=>rw[hb] at h4;simp at h4
     |cons x l=>rfl
    rw[Lx,if_neg (by decide),List.append_nil] at Oy
    rw[aB (by omega),←Oy]
    exact bB (k+1) ⟨by omega,.inr hc⟩ (by omega)
  ·have:t.args.length≤k:=by
    rw[List.length_map] at h1
    simpa using h1
   by_cases hc:(t.binds.isEmpty&&(t.kind==1))=true
   ·rw[List.take_of_length_le this,Tm.kM,if_pos hc]
   ·exact out (by simpa using hc)
theorem vL {l r:Tm} {ms:List Ty} (h:Tm.sizes l.args≤1000000):ag Tryz.prog 17 [ql l r ms] (.sl ((eI l.args).map Tm.enc)):=by
 have hlen:=Tm.aA l.args
 refine NJ ⟨rfl,au.intro (fun k:Nat=>(((),(),(k:Int),()),((l.binds.map Ty.enc,l.kind,l.index,l.args.map Tm.enc,r.binds.map Ty.enc,r.kind,r.index,r.args.map Tm.enc,ms.map Ty.enc,()),(eI (l.args.take k)).map Tm.enc,()))) (fun k=>k≤l.args.length) (fun k=>l.args.length-k) 0 rfl (Nat.zero_le _) ?_⟩
 intro k hk again bB
 dsimp only
 refine ak.intro (fun h1=>?_) fun h1=>⟨rfl,?_⟩
 ·have al:k<l.args.length:=by rw[List.length_map] at h1;simpa using h1
  obtain⟨s1,s2⟩:=uW al h
  refine⟨by omega,by rw[List.length_map];omega,_,_,_,_,Tm.aj al,_,qm 1000000 _ s1 (by omega),rfl,cN Tm.cW (by rw[List.length_append,List.length_map,List.length_map];omega) (by decide),rfl,?_⟩
  rw[aB (by omega),←List.map_append,←nN al]
  exact bB (k+1) (by omega) (by omega)
 ·have:l.args.length≤k:=by rw[List.length_map] at h1;simpa using h1
  rw[List.take_of_length_le this]
theorem D3 {l:List Tm} {k:Nat} (h:k<l.length) (t:Tm):(l.take (k+1)).count t=(l.take k).count t+if Tm.same l[k] t then 1 else 0:=by
 rw[List.take_succ_eq_append_getElem h,List.count_append,List.count_singleton,Tm.K6]
 by_cases e:l[k]=t
 ·simp[e]
 ·simp[e]
theorem gm {l:List Tm} {t:Tm} (hl:bH l):ag Tryz.prog 41 [.sl (l.map Tm.enc),dc t] (nI (l.count t)):=by
 obtain⟨zh,n7⟩:=hl
 refine NM (au.intro (fun k:Nat=>((l.map Tm.enc,(),(((l.take k).count t:Nat):Int),(k:Int),()),((t.binds.map Ty.enc,t.kind,t.index,t.args.map Tm.enc,()),()))) (fun k=>k≤l.length) (fun k=>l.length-k) 0 rfl (Nat.zero_le _) ?_)
 intro k hk again bB
 dsimp only
 refine ak.intro (fun h1=>?_) fun h1=>?_
 ·have al:k<l.length:=by rw[List.length_map] at h1;simpa using h1
  have hc:=D3 al t
  have hle:(l.take k).count t≤(l.take k).length:=List.count_le_length
  have ou:=bB (k+1) (by omega) (by omega)
  rw[hc] at ou
  rw[List.length_take] at hle
  have sm:=mW 1000000 l[k] t (n7 _ (List.getElem_mem al)) (by omega)
  rw[←cq,←cq] at sm
  refine⟨by omega,by rw[List.length_map];omega,_,_,_,_,Tm.aj al,_,sm,ak.intro (fun h=>?_) fun h=>?_⟩
  ·rw[if_pos h] at ou
   rw[aB (by omega),aB (by omega)]
   exact ou
  ·rw[if_neg (by simp[h])] at ou
   rw[aB (by omega)]
   exact ou
 ·have:l.length≤k:=by rw[List.length_map] at h1;simpa using h1
  rw[List.take_of_length_le this]
theorem nj {a b:Tm} (ha:a.size≤1000000):ag Tryz.prog 21 [dc a,dc b] (nB (fP a b)):=by
 have hs:=rZ ha
 refine NN ⟨_,qm 1000000 a ha (by omega),⟨by omega,?_,by omega,Tm.cW⟩,?_⟩
 ·rw[List.length_map,Tm.kM,List.length_cons];omega
 ·have e:List.drop (Int.toNat 1) (List.take (Int.toNat ((List.length (a.inner.map Tm.enc):Nat):Int)) (a.inner.map Tm.enc))=(a.inner.drop 1).map Tm.enc:=by
   rw[Int.toNat_natCast,List.take_length,List.map_drop];rfl
  rw[e]
  refine⟨_,gm ⟨by rw[List.length_drop];have:=hs.1;omega,fun x hx=>hs.2 x (List.mem_of_mem_drop hx)⟩,?_⟩
  rw[fP]
  congr 2
  exact propext (by rw[←List.count_pos_iff];omega)
theorem wV {l:List Tm} {k:Nat} (h:k<l.length) (p:Tm→Bool):(l.take (k+1)).any p=((l.take k).any p||p l[k]):=by
 rw[List.take_succ_eq_append_getElem h,List.any_append,List.any_cons,List.any_nil,Bool.or_false]
theorem G3 {l:List Tm} {k:Nat} (h:k<l.length) (p:Tm→Bool):(l.take (k+1)).all p=((l.take k).all p&&p l[k]):=by
 rw[List.take_succ_eq_append_getElem h,List.all_append,List.all_cons,List.all_nil,Bool.and_true]
abbrev Lg (a b:List Tm) (y:Tm):Bool:=decide (b.count y≤a.count y)||uQ a b y
theorem D4 (m n:Nat):decide ((n:Int)>(m:Int))=decide (m<n):=by
 rw[Bool.eq_iff_iff,decide_eq_true_eq,decide_eq_true_eq];omega
theorem Lh (m n:Nat):decide ((n:Int)≤(m:Int))=decide (n≤m):=by
 rw[Bool.eq_iff_iff,decide_eq_true_eq,decide_eq_true_eq];omega
theorem B2 {k:Int} {a b:List Tm} (ha:bH a) (hb:bH b):ag Tryz.prog 19 [nI k,.sl (a.map Tm.enc),.sl (b.map Tm.enc)] (nB (ov k a b)):=by
 have Y9:=ha.1
 have vt:=hb.1
 refine NR (ak.intro (fun h=>?_) fun h=>?_)
 ·rw[ov,if_neg (by intro e;rw[List.length_map,List.length_map,e] at h;simp at h)]
 have hl:a.length=b.length:=by
  have h2:(a.length:Int)=(b.length:Int):=by simpa [bne] using h
  omega
 rw[ov,if_pos hl]
 refine ak.intro (fun h=>?_) fun h=>?_
 ·rw[if_neg (by simpa using h)]
  refine au.intro (fun k:Nat=>((a.map Tm.enc,b.map Tm.enc,(k:Int),()),())) (fun k=>k≤a.length∧uP a b=uP (a.drop k) (b.drop k)) (fun k=>a.length-k) 0 rfl ⟨Nat.zero_le _,rfl⟩ ?_
  intro k ⟨hk,hs⟩ again bB
  dsimp only
  refine ak.intro (fun h=>?_) fun h=>?_
  ·have al:k<a.length:=by rw[List.length_map] at h;simpa using h
   have Hj:k<b.length:=by omega
   rw[List.drop_eq_getElem_cons al,List.drop_eq_getElem_cons Hj,uP] at hs
   have i1:0≤(k:Int):=by omega
   have i2:(k:Int)<((List.length (a.map Tm.enc):Nat):Int):=by rw[List.length_map];omega
   have i3:(k:Int)<((List.length (b.map Tm.enc):Nat):Int):=by rw[List.length_map];omega
   have bE:=ha.2 _ (List.getElem_mem al)
   have sm:=mW 1000000 a[k] b[k] bE (by omega)
   rw[←cq,←cq] at sm
   refine⟨i1,i2,_,_,_,_,Tm.aj al,i1,i3,_,_,_,_,Tm.aj Hj,_,sm,ak.intro (fun h=>?_) fun h=>?_⟩
   ·have bj:¬a[k]=b[k]:=fun e=>by rw[e,Tm.nG] at h;cases h
    rw[if_neg bj] at hs
    exact⟨i1,i2,_,_,_,_,Tm.aj al,i1,i3,_,_,_,_,Tm.aj Hj,_,nj bE,by rw[hs]⟩
   ·have he:a[k]=b[k]:=(Tm.eQ _ _).1 (by simpa using h)
    rw[if_pos he] at hs
    rw[aB (by omega)]
    exact bB (k+1) ⟨by omega,hs⟩ (by omega)
  ·have:a.length≤k:=by rw[List.length_map] at h;simpa using h
   rw[List.drop_eq_nil_of_le this] at hs
   rw[hs]
   cases b.drop k<;>rfl
 ·rw[if_pos (by simpa using h),←OP,RA]
  refine au.intro (fun k:Nat=>((a.map Tm.enc,b.map Tm.enc,(a.take k).any (fun x=>decide (b.count x<a.count x)),(k:Int),()),())) (fun k=>k≤a.length) (fun k=>a.length-k) 0 rfl (Nat.zero_le _) ?_
  intro k hk again bB
  dsimp only
  refine ak.intro (fun h=>?_) fun h=>?_
  ·have al:k<a.length:=by rw[List.length_map] at h;simpa using h
   have i1:0≤(k:Int):=by omega
   have i2:(k:Int)<((List.length (a.map Tm.enc):Nat):Int):=by rw[List.length_map];omega
   have ou:=bB (k+1) (by omega) (by omega)
   rw[wV al] at ou
   refine ak.intro (fun h=>?_) fun h=>?_
   ·rw[h,Bool.true_or] at ou
    rw[aB (by omega)]
    exact ou
   ·rw[h,Bool.false_or] at ou
    refine⟨i1,i2,_,_,_,_,Tm.aj al,_,gm ha,i1,i2,_,_,_,_,Tm.aj al,_,gm hb,?_⟩
    rw[aB (by omega),D4]
    exact ou
  ·have:a.length≤k:=by rw[List.length_map] at h;simpa using h
   rw[List.take_of_length_le this,←wT]
   refine au.intro (fun k:Nat=>((a.map Tm.enc,b.map Tm.enc,wT a b&&(b.take k).all (Lg a b),(k:Int),()),())) (fun k=>k≤b.length) (fun k=>b.length-k) 0 (by rw[List.take_zero,List.all_nil,Bool.and_true];rfl) (Nat.zero_le _) ?_
   intro k hk again bB
   dsimp only
   refine ak.intro (fun h=>?_) fun h=>?_
   ·have al:k<b.length:=by rw[List.length_map] at h;simpa using h
    have i1:0≤(k:Int):=by omega
    have i2:(k:Int)<((List.length (b.map Tm.enc):Nat):Int):=by rw[List.length_map];omega
    have ou:=bB (k+1) (by omega) (by omega)
    rw[G3 al,Lg] at ou
    refine⟨i1,i2,_,_,_,_,Tm.aj al,_,gm hb,i1,i2,_,_,_,_,Tm.aj al,_,gm ha,ak.intro (fun h=>?_) fun h=>?_⟩
    ·rw[Lh] at h
     rw[h,Bool.true_or,Bool.and_true] at ou
     rw[aB (by omega)]
     exact ou
    ·rw[Lh] at h
     rw[h,Bool.false_or,←Bool.and_assoc] at ou
     refine au.intro (fun j:Nat=>((a.map Tm.enc,b.map Tm.enc,wT a b&&(b.take k).all (Lg a b),(k:Int),(a.take j).any (fun x=>decide (b.count x<a.count x)&&fP x b[k]),(j:Int),()),())) (fun j=>j≤a.length) (fun j=>a.length-j) 0 rfl (Nat.zero_le _) ?_
     intro j hj Ri Gu
     dsimp only
     refine ak.intro (fun h=>?_) fun h=>?_
     ·have Vo:j<a.length:=by rw[List.length_map] at h;simpa using h
      have j1:0≤(j:Int):=by omega
      have j2:(j:Int)<((List.length (a.map Tm.enc):Nat):Int):=by rw[List.length_map];omega
      have PM:=Gu (j+1) (by omega) (by omega)
      rw[wV Vo] at PM
      refine ak.intro (fun h=>?_) fun h=>?_
      ·rw[h,Bool.true_or] at PM
       rw[aB (by omega)]
       exact PM
      ·rw[h,Bool.false_or] at PM
       refine⟨j1,j2,_,_,_,_,Tm.aj Vo,_,gm ha,j1,j2,_,_,_,_,Tm.aj Vo,_,gm hb,ak.intro (fun h=>?_) fun h=>?_⟩
       ·rw[D4] at h
        rw[h,Bool.true_and] at PM
        refine⟨j1,j2,_,_,_,_,Tm.aj Vo,i1,i2,_,_,_,_,Tm.aj al,_,nj (ha.2 _ (List.getElem_mem Vo)),?_⟩
        rw[aB (by omega)]
        exact PM
       ·rw[D4] at h
        rw[h,Bool.false_and] at PM
        rw[aB (by omega)]
        exact PM
     ·have:a.length≤j:=by rw[List.length_map] at h;simpa using h
      rw[List.take_of_length_le this,←uQ]
      rw[aB (by omega)]
      refine ak.intro (fun h=>?_) fun h=>?_
      ·rw[h,Bool.true_and] at ou
       exact ou
      ·rw[h,Bool.false_and] at ou
       exact ou
   ·have:b.length≤k:=by rw[List.length_map] at h;simpa using h
    rw[List.take_of_length_le this]
def sF (n c:Int):Bool:=decide (c<0)||decide (c≥n)
def uX (n:Int) (p:Int×Int):Bool:=sF n p.1||sF n p.2
def uY (n:Int) (p:Int×Int):Bool:=sF n p.1||(decide (p.2<0)||decide (p.2>1))
theorem oX {l:List (Int×Int)} {k:Nat} (h:k<l.length):List.getD (bd l) (Int.toNat (k:Int)) .top=.agg [nI l[k].1,nI l[k].2]:=getD_map h
theorem r4 {l:List (Int×Int)}:∀y:AV,y∈bd l→List.length (AV.cells y)=2:=by
 intro y h
 obtain⟨p,_,rfl⟩:=List.mem_map.1 h
 rfl
theorem ra {n c:Int}:bJ Tryz.prog 63 [nI c,.ptr 0 0] [.box [nI n]] (fun r q=>r=nB (sF n c)∧q=[.box [nI n]]):=
 NW (ak.intro (fun h=>⟨by rw[sF,h];rfl,rfl⟩) fun h=>⟨by rw[sF,h];rfl,rfl⟩)
theorem D5 {n a b:Int}:bJ Tryz.prog 65 [.agg [nI a,nI b],.ptr 1 0] (hM n) (fun r q=>r=nB (uX n (a,b))∧q=hM n):=
 NY ⟨_,ra,fun r q ⟨e1,e2⟩=>⟨_,_,⟨e1,e2⟩,ak.intro (fun h=>⟨by rw[uX,show sF n (a,b).1=true from h];rfl,rfl⟩) fun h=>⟨_,ra,fun r q ⟨e1,e2⟩=>⟨_,_,⟨e1,e2⟩,by rw[uX,show sF n (a,b).1=false from h];rfl,rfl⟩⟩⟩⟩
theorem D6 {n a b:Int}:bJ Tryz.prog 67 [.agg [nI a,nI b],.ptr 1 0] (hM n) (fun r q=>r=nB (uY n (a,b))∧q=hM n):=
 NZ ⟨_,ra,fun r q ⟨e1,e2⟩=>⟨_,_,⟨e1,e2⟩,ak.intro (fun h=>⟨by rw[uY,show sF n (a,b).1=true from h];rfl,rfl⟩) fun h=>
  ak.intro (fun h2=>⟨by rw[uY,show sF n (a,b).1=false from h,show decide ((a,b).2<0)=true from h2];rfl,rfl⟩) fun h2=>⟨by rw[uY,show sF n (a,b).1=false from h,show decide ((a,b).2<0)=false from h2];rfl,rfl⟩⟩⟩
theorem D7 {n:Int} {l:List (Int×Int)} (hl:l.length≤1000000000):bJ Tryz.prog 116 [.sl (bd l),.aS 65 [.ptr 1 0]] (hM n) (fun r q=>(∃i:Int,r=nI i∧decide (i≥0)=l.any (uX n))∧q=hM n):=by
 refine Kl (au.intro (fun k:Nat=>((bd l,((),()),(l.length:Int),(k:Int),()),((n,()),((),()),()))) (fun k=>k≤l.length∧l.any (uX n)=(l.drop k).any (uX n)) (fun k=>l.length-k) 0 (by rw[bd,List.length_map];rfl) ⟨Nat.zero_le _,rfl⟩ ?_)
 intro k ⟨hk,hs⟩ again bB
 dsimp only
 refine ak.intro (fun h=>?_) fun h=>?_
 ·have al:k<l.length:=by simpa using h
  rw[List.drop_eq_getElem_cons al,List.any_cons] at hs
  refine⟨by omega,by rw[bd,List.length_map];omega,_,_,oX al,_,D5 (n:=n) (a:=l[k].1) (b:=l[k].2),fun r q ⟨e1,e2⟩=>⟨_,_,⟨e1,e2⟩,ak.intro (fun h=>?_) fun h=>?_⟩⟩
  ·exact⟨⟨_,rfl,by rw[hs,show uX n l[k]=true from h,Bool.true_or];simp⟩,rfl⟩
  ·rw[show uX n l[k]=false from h,Bool.false_or] at hs
   rw[aB (by omega)]
   exact bB (k+1) ⟨by omega,hs⟩ (by omega)
 ·have:l.length≤k:=by simpa using h
  rw[List.drop_eq_nil_of_le this] at hs
  exact⟨⟨_,rfl,by rw[hs];rfl⟩,rfl⟩
theorem D8 {n:Int} {l:List (Int×Int)} (hl:l.length≤1000000000):bJ Tryz.prog 64 [.sl (bd l),.aS 65 [.ptr 1 0]] (hM n) (fun r q=>r=nB (l.any (uX n))∧q=hM n):=
 N0 ⟨_,D7 hl,fun r q ⟨⟨i,e1,e3⟩,e2⟩=>⟨_,_,⟨e1,e2⟩,by rw[e3],rfl⟩⟩
theorem D9 {n:Int} {l:List (Int×Int)} (hl:l.length≤1000000000):bJ Tryz.prog 117 [.sl (bd l),.aS 67 [.ptr 1 0]] (hM n) (fun r q=>(∃i:Int,r=nI i∧decide (i≥0)=l.any (uY n))∧q=hM n):=by
 refine Ko (au.intro (fun k:Nat=>((bd l,((),()),(l.length:Int),(k:Int),()),((n,()),((),()),()))) (fun k=>k≤l.length∧l.any (uY n)=(l.drop k).any (uY n)) (fun k=>l.length-k) 0 (by rw[bd,List.length_map];rfl) ⟨Nat.zero_le _,rfl⟩ ?_)
 intro k ⟨hk,hs⟩ again bB
 dsimp only
 refine ak.intro (fun h=>?_) fun h=>?_
 ·have al:k<l.length:=by simpa using h
  rw[List.drop_eq_getElem_cons al,List.any_cons] at hs
  refine⟨by omega,by rw[bd,List.length_map];omega,_,_,oX al,_,D6 (n:=n) (a:=l[k].1) (b:=l[k].2),fun r q ⟨e1,e2⟩=>⟨_,_,⟨e1,e2⟩,ak.intro (fun h=>?_) fun h=>?_⟩⟩
  ·exact⟨⟨_,rfl,by rw[hs,show uY n l[k]=true from h,Bool.true_or];simp⟩,rfl⟩
  ·rw[show uY n l[k]=false from h,Bool.false_or] at hs
   rw[aB (by omega)]
   exact bB (k+1) ⟨by omega,hs⟩ (by omega)
 ·have:l.length≤k:=by simpa using h
  rw[List.drop_eq_nil_of_le this] at hs
  exact⟨⟨_,rfl,by rw[hs];rfl⟩,rfl⟩
theorem Ea {n:Int} {l:List (Int×Int)} (hl:l.length≤1000000000):bJ Tryz.prog 66 [.sl (bd l),.aS 67 [.ptr 1 0]] (hM n) (fun r q=>r=nB (l.any (uY n))∧q=hM n):=
 N1 ⟨_,D9 hl,fun r q ⟨⟨i,e1,e3⟩,e2⟩=>⟨_,_,⟨e1,e2⟩,by rw[e3],rfl⟩⟩
theorem yQ {l:List (Int×Int)} (hl:l.length≤1000000000):ag Tryz.prog 68 [.sl (bd l)] (.sl (bd l)):=by
 refine N2 fun b hb=>ak.intro (fun h=>?_) fun h=>?_
 ·cases l with
  |nil=>rfl
  |cons p l=>have:=hb (by simp[bd]);rw[this] at h;cases h
 ·exact⟨fun _=>rfl,cN r4 (by simp[bd];omega) (by decide),rfl,rfl⟩
theorem yR {l:List (Int×Int)} (hl:l.length≤1000000000):ag Tryz.prog 69 [.sl (bd l)] (.sl (bd l)):=by
 refine N3 fun b hb=>ak.intro (fun h=>?_) fun h=>?_
 ·cases l with
  |nil=>rfl
  |cons p l=>have:=hb (by simp[bd]);rw[this] at h;cases h
 ·exact⟨fun _=>rfl,cN r4 (by simp[bd];omega) (by decide),rfl,rfl⟩
def iR (l:List (Int×Int)):List (Int×Value):=l.foldl (fun m p=>bK m p.1 (.int .i64 p.2)) []
theorem B3 {l:List (Int×Int)} {k:Nat} (h:k<l.length):iR (l.take (k+1))=bK (iR (l.take k)) l[k].1 (.int .i64 l[k].2):=by
 rw[iR,List.take_succ_eq_append_getElem h,List.foldl_append];rfl
theorem uZ (l:List (Int×Int)):∀c:Int,∃n,Option.getD (aG (iR l) c) (.int .i64 0)=.int .i64 n:=by
 have:∀(l:List (Int×Int)) (m:List (Int×Value)),(∀c:Int,∃n,Option.getD (aG m c) (.int .i64 0)=.int .i64 n)→∀c:Int,∃n,Option.getD (aG (l.foldl (fun m p=>bK m p.1 (.int .i64 p.2)) m) c) (.int .i64 0)=.int .i64 n:=by
  intro l
  induction l with
  |nil=>intro m h;exact h
  |cons p l ih=>
   intro m h
   refine ih _ fun c=>?_
   rw[DL]
   split
   ·exact⟨_,rfl⟩
   ·exact h c
 exact this l [] fun c=>⟨0,rfl⟩
def ZQ (l:List (Int×Int)) (k:Nat):Prop:=∀(j:Nat) (hj:j<l.length),j<k→aG (iR (l.take j)) l[j].1=none
def sG (n:Int) (ps sts:List (Int×Int)):Rk:=⟨n.toNat,ps,iR sts,bd sts⟩
def B4 (n:Int) (ps sts:List (Int×Int)):Prop:=(0≤n∧n≤1000)∧ps.length≤1000∧ps.any (uX n)=false∧sts.any (uY n)=false∧ZQ sts sts.length
theorem B4.ok {n:Int} {ps sts:List (Int×Int)} (h:B4 n ps sts):(sG n ps sts).Ok:=by
 obtain⟨h1,h2,h3,h4,h5⟩:=h
 refine⟨by simp only[sG];omega,h2,fun p hp=>?_⟩
 have:=List.any_eq_false.1 h3 p hp
 simp only[uX,sF,Bool.or_eq_true,decide_eq_true_eq,not_or] at this
 simp only[sG]
 omega
def YX (q:List af):Prop:=(∃i,q=hM i)∨(∃i m a l b c d e l3,q=[.box [nI i],.box [.aS 63 [.ptr 0 0]],.aP (.i m),.box [nI a,.sl l,.mp 2,.ae (.int .u32 b),.ae (.int .i32 c),.ae (.int .u32 d),.ae (.slice none 0 0),nI e,.sl l3]])∨∃i m a l b c d l2 e l3,q=[.box [nI i],.box [.aS 63 [.ptr 0 0]],.aP (.i m),.box [nI a,.sl l,.mp 2,.ae (.int .u32 b),.ae (.int .i32 c),.ae (.int .u32 d),.sl l2,nI e,.sl l3]]
def PN (n:Int) (ps sts:List (Int×Int)) (q:List af):Prop:=∃(i d s ka:Int) (kr:List AV),
 q=[.box [nI i],.box [.aS 63 [.ptr 0 0]],.aP (.i (iR sts)),.box [nI n,.sl (bd ps),.mp 2,.ae (.int .u32 d),.ae (.int .i32 0),.ae (.int .u32 s),.sl kr,nI ka,.sl (bd sts)]]∧(d=0∨¬d=0∧kr=(sG n ps sts).rows)
def sZ (n:Int) (ps sts:List (Int×Int)):Prop:=B4 n ps sts∧∀c:Nat,(c:Int)<n→(sG n ps sts).qi c c=false
def Vp (n:Int) (ps sts:List (Int×Int)) (r:AV) (q:List af):Prop:=
 (∃e:Int,¬e=0∧r=.bc [.ae (.pointer none),nI e]∧YX q∧¬sZ n ps sts)∨(B4 n ps sts∧r=.bc [.ptr 3 0,nI 0]∧PN n ps sts q)
theorem Eb {n:Int} {ps sts:List (Int×Int)} (hp:ps.length≤1000000000) (hs:sts.length≤1000000000):bJ Tryz.prog 31 [nI n,.sl (bd ps),.sl (bd sts)] [] (Vp n ps sts):=by
 have bad:∀{e i:Int},¬e=0→¬sZ n ps sts→Vp n ps sts (.bc [.ae (.pointer none),nI e]) (hM i):=fun {e i} he hg=>.inl ⟨e,he,rfl,.inl ⟨i,rfl⟩,hg⟩
 refine N5 (ak.intro (fun h=>bad (by decide) fun g=>by have:=g.1.1.1;have:=of_decide_eq_true h;omega) fun h0=>ak.intro (fun h=>bad (by decide) fun g=>by have:=g.1.1.2;have:=of_decide_eq_true h;omega) fun h1=>?_)
 have hn:0≤n∧n≤1000:=⟨by simpa using h0,by simpa using h1⟩
 refine⟨_,D8 hp,fun r q ⟨e1,e2⟩=>⟨_,_,⟨e1,e2⟩,ak.intro (fun h=>bad (by decide) fun g=>by rw[g.1.2.2.1] at h;cases h) fun h2=>⟨_,Ea hs,fun r q ⟨e1,e2⟩=>⟨_,_,⟨e1,e2⟩,ak.intro (fun h=>bad (by decide) fun g=>by rw[g.1.2.2.2.1] at h;cases h) fun h3=>ak.intro (fun h=>bad (by decide) fun g=>by have h9:=g.1.2.1;have h8:=of_decide_eq_true h;rw[bd,List.length_map] at h8;omega) fun h4=>?_⟩⟩⟩⟩
 have hl:ps.length≤1000:=by
  have:¬((List.length (bd ps):Nat):Int)>1000:=by simpa using h4
  rw[bd,List.length_map] at this;omega
 refine⟨_,yQ hp,_,yR hs,?_⟩
 refine au.intro (fun k:Nat=>(((),(),bd sts,(sts.length:Int),(k:Int),()),((n,()),((),()),iR (sts.take k),(n,bd ps,(),0,0,0,(),0,bd sts,()),()))) (fun k=>k≤sts.length∧ZQ sts k) (fun k=>sts.length-k) 0 (by rw[bd,List.length_map];rfl) ⟨Nat.zero_le _,fun j _ h=>by omega⟩ ?_
 intro k ⟨hk,hd⟩ again bB
 dsimp only
 refine ak.intro (fun h=>?_) fun h=>?_
 ·have al:k<sts.length:=by simpa using h
  obtain⟨v,hv⟩:=uZ (sts.take k) sts[k].1
  refine⟨by omega,by rw[bd,List.length_map];omega,_,_,oX al,by rw[hv];rfl,ak.intro (fun h=>?_) fun h=>?_⟩
  ·exact .inl ⟨4,by decide,rfl,.inr (.inl ⟨_,_,_,_,_,_,_,_,_,rfl⟩),fun g=>by have h9:=g.1.2.2.2.2 k al al;rw[h9] at h;cases h⟩
  ·rw[aB (by omega),←B3 al]
   refine bB (k+1) ⟨by omega,fun j hj h5=>?_⟩ (by omega)
   by_cases e:j=k
   ·subst e
    simpa using h
   ·exact hd j hj (by omega)
 ·have FX:k=sts.length:=by
   have:sts.length≤k:=by simpa using h
   omega
  subst FX
  have aq:B4 n ps sts:=⟨hn,hl,h2,h3,hd⟩
  obtain⟨N,hN⟩:∃N:Nat,n=N:=⟨n.toNat,by omega⟩
  rw[List.take_length]
  refine au.intro (fun b:Nat×Int×Int×Int×List AV=>(((),n,(b.1:Int),()),((n,()),((),()),iR sts,(n,bd ps,(),b.2.1,0,b.2.2.1,b.2.2.2.2,b.2.2.2.1,bd sts,()),()))) (fun b=>b.1≤N∧(b.2.1=0∨¬b.2.1=0∧b.2.2.2.2=(sG n ps sts).rows)) (fun b=>N-b.1) (0,0,0,0,[]) rfl ⟨Nat.zero_le _,.inl rfl⟩ ?_
  rintro⟨c,d,s,ka,kr⟩ ⟨hc,vR⟩ again bB
  dsimp only at hc vR bB ⊢
  refine ak.intro (fun h=>?_) fun h=>?_
  ·have hcn:(c:Int)<n:=by simpa using h
   have hS:K2 (sG n ps sts) (iL (iR sts) n (bd ps) d 0 s kr ka (bd sts)):=⟨d,s,ka,kr,by simp only[sG];rw[show ((n.toNat:Nat):Int)=n by omega],vR⟩
   refine⟨_,rW aq.ok hS _ _,fun r q ⟨e1,e2⟩=>?_⟩
   obtain⟨d2,s2,K3,K4,rfl,CH⟩:=e2
   refine⟨_,_,_,_,_,_,_,_,_,_,⟨e1,rfl⟩,ak.intro (fun h=>?_) fun h=>?_⟩
   ·exact .inl ⟨8,by decide,rfl,.inr (.inr ⟨_,_,_,_,_,_,_,_,_,_,rfl⟩),fun g=>by have h9:=g.2 c hcn;rw[h9] at h;cases h⟩
   ·rw[aB (by omega)]
    have:=bB (c+1,d2,s2,K3,K4) ⟨by show c+1≤N;omega,CH⟩ (by show N-(c+1)<N-c;omega)
    simp only[sG] at this ⊢
    rw[show ((n.toNat:Nat):Int)=n by omega]
    exact this
  ·exact .inr ⟨aq,rfl,_,_,_,_,_,rfl,vR⟩
theorem Li {n:Int} {ps sts:List (Int×Int)} (hp:ps.length≤1000000000) (hs:sts.length≤1000000000) (hg:sZ n ps sts):bJ Tryz.prog 31 [nI n,.sl (bd ps),.sl (bd sts)] [] (fun r q=>r=.bc [.ptr 3 0,nI 0]∧PN n ps sts q):=
 (Eb hp hs).mono fun r q h=>h.elim (fun⟨_,_,_,_,h5⟩=>absurd hg h5) fun⟨_,h2,h3⟩=>⟨h2,h3⟩
theorem oY {t:Tm} (h:t.size≤1000000):bH t.args:=by
 have h1:=t.size_eq
 have h2:=Tm.aA t.args
 exact⟨by omega,fun x hx=>by have:=Tm.bm hx;omega⟩
section
structure Lk where
 d:Int
 s:Int
 ka:Int
 kr:List AV
 od:Int
 ow:Int
 fe:List (ByteArray×Value)
def gK (R:Rk) (C:Cx) (v:Lk):Prop:=(v.d=0∨¬v.d=0∧v.kr=R.rows)∧¬v.od=0∧jK C v.fe
def fm (R:Rk) (l:Tm) (ms:List Ty):Cx:=⟨l.kind,l.index,l.args,ms,R.qi,R.stat⟩
structure rf (l:Tm) (ms:List Ty):Prop where
 left:l.size≤1000000
 small:∀x∈ms,x.size≤1000
theorem rf.sizes {l:Tm} {ms:List Ty} (h:rf l ms):Tm.sizes l.args≤1000000:=by have:=l.size_eq;have:=h.left;omega
theorem rf.acc {l:Tm} {ms:List Ty} (h:rf l ms):bH (eI l.args):=⟨Nat.le_trans (qj _) h.sizes,fun x hx=>Nat.le_trans (wR hx) h.sizes⟩
theorem Lj (C:Cx) (t:Tm):sE C t=(decide (t∈eI C.la)||(decide (Tm.mk [] t.kind t.index t.args∈eI C.la)||(uR C t.kind t.index t.args&&uS C t.args))):=by rw[RB,Bool.or_assoc]
theorem Ll (C:Cx) (l:List Tm):(!decide (ni (fun t=>!sE C t) l 0≥0))=uS C l:=by
 rw[qk,K8]
 induction l with
 |nil=>rfl
 |cons t l ih=>rw[List.any_cons,List.all_cons,Bool.not_or,ih,Bool.not_not]
theorem FE {p:Prop} (h:p):p∧(p∧p)∧(p∧p):=⟨h,⟨h,h⟩,⟨h,h⟩⟩
theorem Ec {t:Ty} {i:Int} (h:t.size≤1000):ag Tryz.prog 174 [.agg [nI 2,nI i],.agg [.sl (t.args.map Ty.enc),nI t.base]] (dc (sC 2 i t)):=by
 have et:=DJ t.size t 2 i (Nat.le_refl _) h (fun e=>absurd e (by decide))
 rwa [Ty.aE,←cq] at et
abbrev OS (R:Rk) (l r:Tm) (ms:List Ty) (v:Lk):List af:=mJ R.ke R.n (bd R.ps) v.d 0 v.s v.kr v.ka R.kt v.fe (l.binds.map Ty.enc) l.kind l.index (l.args.map Tm.enc) (r.binds.map Ty.enc) r.kind r.index (r.args.map Tm.enc) (ms.map Ty.enc) ((eI l.args).map Tm.enc) v.od 0 v.ow
abbrev G4 (R:Rk) (l r:Tm) (ms:List Ty) (v:Lk):List af:=pV R.ke R.n (bd R.ps) v.d 0 v.s v.kr v.ka R.kt v.fe (l.binds.map Ty.enc) l.kind l.index (l.args.map Tm.enc) (r.binds.map Ty.enc) r.kind r.index (r.args.map Tm.enc) (ms.map Ty.enc) ((eI l.args).map Tm.enc) v.od 0 v.ow
abbrev B5 (R:Rk) (l r:Tm) (ms:List Ty) (t:Tm) (v:Lk):List af:=oP R.ke R.n (bd R.ps) v.d 0 v.s v.kr v.ka R.kt v.fe (l.binds.map Ty.enc) l.kind l.index (l.args.map Tm.enc) (r.binds.map Ty.enc) r.kind r.index (r.args.map Tm.enc) (ms.map Ty.enc) ((eI l.args).map Tm.enc) v.od 0 v.ow (t.binds.map Ty.enc) t.kind t.index (t.args.map Tm.enc)
abbrev Ed (om:Int) (m:AV) (R:Rk) (l r:Tm) (ms:List Ty) (v:Lk):List af:=[.aP (.i R.ke),.box [nI R.n,.sl (bd R.ps),.mp 0,.ae (.int .u32 v.d),.ae (.int .i32 0),.ae (.int .u32 v.s),.sl v.kr,nI v.ka,.sl R.kt],.box [.sl (l.binds.map Ty.enc),nI l.kind,nI l.index,.sl (l.args.map Tm.enc),.sl (r.binds.map Ty.enc),nI r.kind,nI r.index,.sl (r.args.map Tm.enc),.sl (ms.map Ty.enc),.ptr 1 0,.sl ((eI l.args).map Tm.enc),.ae (.int .u32 v.od),.ae (.int .i32 om),.ae (.int .u32 v.ow),m]]
variable {R:Rk} {l r:Tm} {ms:List Ty}
theorem yS (hp:rf l ms) {i:Int} (v:Lk):bJ Tryz.prog 130 [.ptr 3 0,nI i] (OS R l r ms v) (fun x q=>x=nB (Cx.var (fm R l ms) i)∧q=OS R l r ms v):=by
 have bad:¬(0≤i∧i<(ms.length:Int))→nB false=nB ((fm R l ms).var i):=fun h=>by rw[Cx.var,decide_eq_false (show ¬(0≤i∧i<((fm R l ms).ms.length:Int)) from h),Bool.false_and]
 refine yd (ak.intro (fun h=>⟨bad ?_,rfl⟩) fun h1=>ak.intro (fun h=>⟨bad ?_,rfl⟩) fun h2=>?_)
 ·have:=of_decide_eq_true h;omega
 ·rw[List.length_map] at h
  have:=of_decide_eq_true h;omega
 ·have i0:0≤i:=by
   have:=of_decide_eq_false h1;omega
  have i1:i<(ms.length:Int):=by
   rw[List.length_map] at h2
   have:=of_decide_eq_false h2;omega
  obtain⟨m,VD⟩:∃m:Nat,i=m:=⟨i.toNat,by omega⟩
  have VU:m<ms.length:=by omega
  have hg:(fm R l ms).ms.getD i.toNat (.mk [] 0)=ms[m]:=by
   show ms.getD i.toNat (.mk [] 0)=ms[m]
   rw[VD,Int.toNat_natCast,List.getD_eq_getElem?_getD,List.getElem?_eq_getElem VU];rfl
  refine⟨i0,by rw[List.length_map];exact i1,_,_,by rw[VD];exact Ty.aj VU,_,_,_,_,Ec (hp.small _ (List.getElem_mem VU)),_,jy (t:=sC 2 i ms[m]) hp.acc,?_,rfl⟩
  rw[Cx.var,hg,decide_eq_true (show 0≤i∧i<((fm R l ms).ms.length:Int) from⟨i0,i1⟩),Bool.true_and];rfl
def qn (R:Rk) (l r:Tm) (ms:List Ty) (t:Tm):Prop:=∀v,gK R (fm R l ms) v→bJ Tryz.prog 39 [.ptr 3 0,dc t] (OS R l r ms v) (fun x q=>x=nB (sE (fm R l ms) t)∧∃v',gK R (fm R l ms) v'∧q=OS R l r ms v')
theorem vM {t:Tm} {v:Lk} (hi:qn R l r ms t) (hv:gK R (fm R l ms) v):bJ Tryz.prog 173 [dc t,.ptr 4 0] (G4 R l r ms v) (fun x q=>x=nB (!sE (fm R l ms) t)∧∃v',gK R (fm R l ms) v'∧q=G4 R l r ms v'):=
 vG ⟨_,hi v hv,fun x q ⟨e1,v',h1,e2⟩=>⟨_,_,_,_,_,_,_,_,_,_,_,_,_,_,_,_,_,_,_,_,_,_,_,_,⟨e1,e2⟩,rfl,v',h1,rfl⟩⟩
theorem yT {ts:List Tm} {v:Lk} (hl:ts.length≤1000000) (hi:∀t∈ts,qn R l r ms t) (hv:gK R (fm R l ms) v):
  bJ Tryz.prog 134 [.sl (ts.map Tm.enc),.aS 173 [.ptr 4 0]] (G4 R l r ms v) (fun x q=>x=nI (ni (fun t=>!sE (fm R l ms) t) ts 0)∧∃v',gK R (fm R l ms) v'∧q=G4 R l r ms v'):=by
 refine yg (au.intro (fun p:Nat×Lk=>((ts.map Tm.enc,((),()),(ts.length:Int),(p.1:Int),()),(R.ke,(((R.n:Nat):Int),bd R.ps,(),p.2.d,0,p.2.s,p.2.kr,p.2.ka,R.kt,()),p.2.fe,(l.binds.map Ty.enc,l.kind,l.index,l.args.map Tm.enc,r.binds.map Ty.enc,r.kind,r.index,r.args.map Tm.enc,ms.map Ty.enc,(),(eI l.args).map Tm.enc,p.2.od,0,p.2.ow,(),()),((),()),()))) (fun p=>p.1≤ts.length∧gK R (fm R l ms) p.2∧ni (fun t=>!sE (fm R l ms) t) ts 0=ni (fun t=>!sE (fm R l ms) t) (ts.drop p.1) p.1) (fun p=>ts.length-p.1) (0,v) (by rw[List.length_map];rfl) ⟨Nat.zero_le _,hv,rfl⟩ ?_)
 intro ⟨k,v⟩ ⟨hk,hv,hs⟩ again bB
 dsimp only at hk hv hs ⊢
 refine ak.intro (fun h=>?_) fun h=>?_
 ·have al:k<ts.length:=by simpa using h
  rw[List.drop_eq_getElem_cons al,ni] at hs
  refine⟨by omega,by rw[List.length_map];omega,_,_,_,_,Tm.aj al,_,vM (hi _ (List.getElem_mem al)) hv,fun x q ⟨e1,v',h1,e2⟩=>⟨_,_,_,_,_,_,_,_,_,_,_,_,_,_,_,_,_,_,_,_,_,_,_,_,⟨e1,e2⟩,ak.intro (fun h=>?_) fun h=>?_⟩⟩
  ·rw[if_pos h] at hs
   exact⟨by rw[hs],v',h1,rfl⟩
  ·rw[if_neg (by rw[h];decide)] at hs
   rw[aB (by omega)]
   exact bB (k+1,v') ⟨by dsimp only;omega,h1,hs⟩ (by dsimp only;omega)
 ·have:ts.length≤k:=by simpa using h
  rw[List.drop_eq_nil_of_le this] at hs
  exact⟨by rw[hs];rfl,v,hv,rfl⟩
theorem yU {ts:List Tm} {v:Lk} (hl:ts.length≤1000000) (hi:∀t∈ts,qn R l r ms t) (hv:gK R (fm R l ms) v):
  bJ Tryz.prog 85 [.sl (ts.map Tm.enc),.aS 173 [.ptr 4 0]] (G4 R l r ms v) (fun x q=>x=nB (decide (ni (fun t=>!sE (fm R l ms) t) ts 0≥0))∧∃v',gK R (fm R l ms) v'∧q=G4 R l r ms v'):=
 yh ⟨_,yT hl hi hv,fun x q ⟨e1,v',h1,e2⟩=>⟨_,_,_,_,_,_,_,_,_,_,_,_,_,_,_,_,_,_,_,_,_,_,_,_,⟨e1,e2⟩,rfl,v',h1,rfl⟩⟩
theorem yV {ts:List Tm} {v:Lk} (hl:ts.length≤1000000) (hi:∀t∈ts,qn R l r ms t) (hv:gK R (fm R l ms) v):
  bJ Tryz.prog 129 [.ptr 3 0,.sl (ts.map Tm.enc)] (OS R l r ms v) (fun x q=>x=nB (uS (fm R l ms) ts)∧∃v',gK R (fm R l ms) v'∧q=OS R l r ms v'):=
 yi ⟨_,yU hl hi hv,fun x q ⟨e1,v',h1,e2⟩=>⟨_,_,_,_,_,_,_,_,_,_,_,_,_,_,_,_,_,_,_,_,_,_,_,_,⟨e1,e2⟩,by rw[Ll],v',h1,rfl⟩⟩
theorem vN (hp:rf l ms) (hR:R.Ok) (hk:∀c,∃n,Option.getD (aG R.ke c) (.int .i64 0)=.int .i64 n) {k i:Int} {a:List Tm} {v:Lk} (ha:bH a) (hi:∀t∈a,qn R l r ms t) (hv:gK R (fm R l ms) v):
  bJ Tryz.prog 76 [.ptr 3 0,.agg [.ae (.slice none 0 0),nI k,nI i,.sl (a.map Tm.enc)]] (OS R l r ms v) (fun x q=>x=nB (uR (fm R l ms) k i a&&uS (fm R l ms) a)∧∃v',gK R (fm R l ms) v'∧q=OS R l r ms v'):=by
 have qH:=fun(v:Lk) (hv:gK R (fm R l ms) v)=>yV ha.1 hi hv
 have hh:uR (fm R l ms) k i a=(if k=0 then true else if k=2 then(fm R l ms).var i else if k=1 then(if l.kind=1 then(if i=l.index then ov (R.stat l.index) l.args a else R.qi l.index i) else false) else false):=rfl
 refine vF (ak.intro (fun h=>?_) fun h=>ak.intro (fun h2=>?_) fun h2=>ak.intro (fun h3=>?_) fun h3=>?_)
 ·refine⟨_,qH v hv,fun x q ⟨e1,v',g1,e2⟩=>⟨_,_,_,_,_,_,_,_,_,_,_,_,_,_,_,_,_,_,_,_,_,_,_,_,⟨e1,e2⟩,?_,v',g1,rfl⟩⟩
  rw[hh,if_pos (by simpa using h),Bool.true_and]
 ·rw[if_neg (by simpa using h),if_pos (by simpa using h2)] at hh
  refine⟨_,yS hp v,fun x q ⟨e1,e2⟩=>⟨_,_,_,_,_,_,_,_,_,_,_,_,_,_,_,_,_,_,_,_,_,_,_,_,⟨e1,e2⟩,ak.intro (fun h3=>?_) fun h3=>⟨?_,v,hv,rfl⟩⟩⟩
  ·refine⟨_,qH v hv,fun x q ⟨e1,v',g1,e2⟩=>⟨_,_,_,_,_,_,_,_,_,_,_,_,_,_,_,_,_,_,_,_,_,_,_,_,⟨e1,e2⟩,?_,v',g1,rfl⟩⟩
   rw[hh,h3,Bool.true_and]
  ·rw[hh,h3,Bool.false_and]
 ·have k1:k=1:=by simpa using h3
  rw[if_neg (by simpa using h),if_neg (by simpa using h2),if_pos k1] at hh
  refine ak.intro (fun h4=>⟨?_,v,hv,rfl⟩) fun h4=>?_
  ·rw[hh,if_neg (by simpa using h4),Bool.false_and]
  have l1:l.kind=1:=by simpa using h4
  rw[if_pos l1] at hh
  refine ak.intro (fun h5=>?_) fun h5=>?_
  ·have hi:i=l.index:=by
    have:k=l.kind∧i=l.index:=by simpa using h5
    exact this.2
   rw[if_pos hi] at hh
   refine⟨_,qH v hv,fun x q ⟨e1,v',g1,e2⟩=>⟨_,_,_,_,_,_,_,_,_,_,_,_,_,_,_,_,_,_,_,_,_,_,_,_,⟨e1,e2⟩,ak.intro (fun h6=>?_) fun h6=>?_⟩⟩
   ·refine FE ⟨_,yM ⟨v'.d,v'.s,v'.ka,v'.kr,rfl,g1.1⟩ _ (hk _),fun x q ⟨e1,d2,s2,K3,K4,e2,g2⟩=>⟨_,_,_,_,_,_,_,_,_,_,⟨e1,e2⟩,_,oW (oY hp.left) ha,?_,⟨d2,s2,K3,K4,v'.od,v'.ow,v'.fe⟩,⟨g2,g1.2⟩,rfl⟩⟩
    rw[hh,h6,Bool.and_true]
   ·have e:nB false=nB (uR (fm R l ms) k i a&&uS (fm R l ms) a):=by rw[h6,Bool.and_false]
    exact FE ⟨e,v',g1,rfl⟩
  ·have hi:¬i=l.index:=fun e=>by
    rw[k1,l1,e] at h5
    simp at h5
   rw[if_neg hi] at hh
   refine⟨_,rW hR ⟨v.d,v.s,v.ka,v.kr,rfl,hv.1⟩ _ _,fun x q ⟨e1,d2,s2,K3,K4,e2,g2⟩=>⟨_,_,_,_,_,_,_,_,_,_,⟨e1,e2⟩,ak.intro (fun h6=>?_) fun h6=>⟨?_,⟨d2,s2,K3,K4,v.od,v.ow,v.fe⟩,⟨g2,hv.2⟩,rfl⟩⟩⟩
   ·refine⟨_,qH ⟨d2,s2,K3,K4,v.od,v.ow,v.fe⟩ ⟨g2,hv.2⟩,fun x q ⟨e1,v',g1,e2⟩=>⟨_,_,_,_,_,_,_,_,_,_,_,_,_,_,_,_,_,_,_,_,_,_,_,_,⟨e1,e2⟩,?_,v',g1,rfl⟩⟩
    rw[hh,h6,Bool.true_and]
   ·rw[hh,h6,Bool.false_and]
 ·refine⟨?_,v,hv,rfl⟩
  rw[hh,if_neg (by simpa using h),if_neg (by simpa using h2),if_neg (by simpa using h3),Bool.false_and]
theorem qo (hp:rf l ms) (hR:R.Ok) (hk:∀c,∃n,Option.getD (aG R.ke c) (.int .i64 0)=.int .i64 n) {t:Tm} {v:Lk} (ha:bH t.args) (hi:∀u∈t.args,qn R l r ms u) (hv:gK R (fm R l ms) v):
  bJ Tryz.prog 75 [.ptr 4 0,.ptr 5 0] (B5 R l r ms t v) (fun x q=>x=nB (sE (fm R l ms) t)∧∃v',gK R (fm R l ms) v'∧q=B5 R l r ms t v'):=by
 have fx:=fun(v:Lk) (hv:gK R (fm R l ms) v)=>vN (k:=t.kind) (i:=t.index) hp hR hk ha hi hv
 have e:=Lj (fm R l ms) t
 change sE (fm R l ms) t=(decide (t∈eI l.args)||(decide (Tm.mk [] t.kind t.index t.args∈eI l.args)||(uR (fm R l ms) t.kind t.index t.args&&uS (fm R l ms) t.args))) at e
 refine yj ⟨_,jy (t:=t) hp.acc,ak.intro (fun h=>⟨?_,v,hv,rfl⟩) fun h=>ak.intro (fun h2=>?_) fun h2=>?_⟩
 ·rw[e,h];rfl
 ·refine⟨_,jy (t:=.mk [] t.kind t.index t.args) hp.acc,ak.intro (fun h3=>⟨?_,v,hv,rfl⟩) fun h3=>⟨_,fx v hv,fun x q ⟨e1,v',g1,e2⟩=>⟨_,_,_,_,_,_,_,_,_,_,_,_,_,_,_,_,_,_,_,_,_,_,_,_,⟨e1,e2⟩,?_,v',g1,rfl⟩⟩⟩
  ·rw[e,h3,Bool.true_or,Bool.or_true]
  ·rw[e,h,h3];rfl
 ·have hb:t.binds=[]:=by
   cases hx:t.binds with
   |nil=>rfl
   |cons x y=>rw[hx] at h2;simp at h2
  have ht:Tm.mk [] t.kind t.index t.args=t:=by rw[←hb];cases t;rfl
  refine⟨_,fx v hv,fun x q ⟨e1,v',g1,e2⟩=>⟨_,_,_,_,_,_,_,_,_,_,_,_,_,_,_,_,_,_,_,_,_,_,_,_,⟨e1,e2⟩,?_,v',g1,rfl⟩⟩
  rw[e,ht,h];rfl
theorem B6 {t:Tm} {v:Lk} (hi:∀v,gK R (fm R l ms) v→bJ Tryz.prog 75 [.ptr 4 0,.ptr 5 0] (B5 R l r ms t v) (fun x q=>x=nB (sE (fm R l ms) t)∧∃v',gK R (fm R l ms) v'∧q=B5 R l r ms t v')) (hv:gK R (fm R l ms) v):
  bJ Tryz.prog 73 [.ptr 3 11,nS (lW t),.aS 75 [.ptr 4 0,.ptr 5 0]] (B5 R l r ms t v) (fun x q=>x=nB (sE (fm R l ms) t)∧∃v',gK R (fm R l ms) v'∧q=B5 R l r ms t v'):=by
 refine Bc ⟨_,nf (q:=3) (off:=11) (f:=121) (caps:=[.ptr 4 0]) (H:=OS R l r ms v++[.box [.ptr 3 11]]) (d:=v.od) rfl rfl hv.2.1,?_⟩
 rintro x q ⟨rfl,rfl⟩
 cases hg:aG v.fe (lW t) with
 |none=>
  refine⟨_,_,_,_,_,_,_,_,_,_,_,_,_,_,_,_,_,_,_,_,_,_,_,⟨rfl,rfl⟩,by rw[hg];rfl,ak.pos (by rw[hg];rfl) ⟨_,hi v hv,fun x q ⟨e1,v',g1,e2⟩=>⟨_,_,_,_,_,_,_,_,_,_,_,_,_,_,_,_,_,_,_,_,_,_,_,_,_,_,_,_,⟨e1,e2⟩,rfl,⟨v'.d,v'.s,v'.ka,v'.kr,v'.od,v'.ow,bK v'.fe (lW t) (.bool (sE (fm R l ms) t))⟩,⟨g1.1,g1.2.1,g1.2.2.put⟩,rfl⟩⟩⟩
 |some u=>
  have hu:=jK.get hv.2.2 hg
  refine⟨_,_,_,_,_,_,_,_,_,_,_,_,_,_,_,_,_,_,_,_,_,_,_,⟨rfl,rfl⟩,by rw[hg,hu];rfl,ak.neg (by rw[hg];rfl) ⟨by rw[hg,hu];rfl,v,hv,rfl⟩⟩
theorem B7 (hp:rf l ms) (hR:R.Ok) (hk:∀c,∃n,Option.getD (aG R.ke c) (.int .i64 0)=.int .i64 n):∀(n:Nat) (t:Tm),t.size≤n→n<1000000→t.jJ→qn R l r ms t:=by
 intro n
 induction n with
 |zero=>intro t h;have:=t.size_pos;omega
 |succ n ih=>
  intro t h hn DM v hv
  have vj:=t.size_eq
  have ax:∀u∈t.args,qn R l r ms u:=fun u hu=>ih u (by have:=Tm.bm hu;omega) (by omega) (Tm.jw (Tm.qY DM).2.2.2 _ hu)
  exact Bd ⟨_,uT (by omega) DM,_,B6 (fun v hv=>qo hp hR hk (oY (by omega)) ax hv) hv,fun x q ⟨e1,v',g1,e2⟩=>⟨_,_,_,_,_,_,_,_,_,_,_,_,_,_,_,_,_,_,_,_,_,_,_,_,_,_,_,_,⟨e1,e2⟩,rfl,v',g1,rfl⟩⟩
abbrev PO (R:Rk) (l r:Tm) (ms:List Ty) (t:Tm) (v:Lk):List af:=Ed 0 (.mp 6) R l r ms v++[.box [.ptr 2 0],.box [.sl (t.binds.map Ty.enc),nI t.kind,nI t.index,.sl (t.args.map Tm.enc)],.box [.ptr 2 11],.aP (.s v.fe)]
theorem yW {v:Lk}:bJ Tryz.prog 121 [.ptr 3 0] (Ed 1 (.ae (.map none)) R l r ms v++[.box [.ptr 2 11]]) (fun x q=>x=.bc []∧q=Ed 1 (.mp 4) R l r ms v++[.box [.ptr 2 11],.aP (.s [])]):=
 yk ⟨rfl,rfl⟩
theorem yX {t:Tm} {v:Lk} (hi:∀v,gK R (fm R l ms) v→bJ Tryz.prog 75 [.ptr 4 0,.ptr 5 0] (B5 R l r ms t v) (fun x q=>x=nB (sE (fm R l ms) t)∧∃v',gK R (fm R l ms) v'∧q=B5 R l r ms t v')) (hv:v.od=0) (hd:v.d=0∨¬v.d=0∧v.kr=R.rows):
  bJ Tryz.prog 73 [.ptr 2 11,nS (lW t),.aS 75 [.ptr 3 0,.ptr 4 0]] (Ed 0 (.ae (.map none)) R l r ms v++[.box [.ptr 2 0],.box [.sl (t.binds.map Ty.enc),nI t.kind,nI t.index,.sl (t.args.map Tm.enc)]]) (fun x q=>x=nB (sE (fm R l ms) t)∧∃v',gK R (fm R l ms) v'∧q=PO R l r ms t v'):=by
 obtain⟨d,s,ka,kr,od,ow,fe⟩:=v
 dsimp only at hv hd
 subst hv
 refine yl ⟨_,nd (q:=2) (off:=11) (f:=121) (caps:=[.ptr 3 0]) (H:=Ed 0 (.ae (.map none)) R l r ms ⟨d,s,ka,kr,0,ow,fe⟩++[.box [.ptr 2 11]])
  (R:=fun x q=>x=.bc []∧q=Ed 1 (.mp 4) R l r ms ⟨d,s,ka,kr,0,ow,fe⟩++[.box [.ptr 2 11],.aP (.s [])]) rfl rfl rfl (by exact yW (v:=⟨d,s,ka,kr,0,ow,fe⟩)) (fun x q ⟨e1,e2⟩=>by subst e2;exact⟨e1,_,rfl,rfl,rfl⟩),?_⟩
 rintro x q ⟨rfl,h,cs',⟨-,rfl⟩,hq,rfl⟩
 cases hq
 have hv:gK R (fm R l ms) ⟨d,s,ka,kr,1,ow,[]⟩:=⟨hd,Int.one_ne_zero,jK.nil _⟩
 exact⟨_,_,_,_,_,_,_,_,_,_,_,_,_,_,_,_,_,_,_,_,_,_,_,⟨rfl,rfl⟩,rfl,ak.pos rfl ⟨_,hi _ hv,fun x q ⟨e1,v',g1,e2⟩=>⟨_,_,_,_,_,_,_,_,_,_,_,_,_,_,_,_,_,_,_,_,_,_,_,_,_,_,_,_,⟨e1,e2⟩,rfl,⟨v'.d,v'.s,v'.ka,v'.kr,v'.od,v'.ow,bK v'.fe (lW t) (.bool (sE (fm R l ms) t))⟩,⟨g1.1,g1.2.1,g1.2.2.put⟩,rfl⟩⟩⟩
theorem yY (hp:rf l ms) (hR:R.Ok) (hk:∀c,∃n,Option.getD (aG R.ke c) (.int .i64 0)=.int .i64 n) {t:Tm} {v:Lk} (ht:t.size<900000) (DM:t.jJ) (hv:v.od=0) (hd:v.d=0∨¬v.d=0∧v.kr=R.rows):
  bJ Tryz.prog 39 [.ptr 2 0,dc t] (Ed 0 (.ae (.map none)) R l r ms v) (fun x q=>x=nB (sE (fm R l ms) t)∧∃v',gK R (fm R l ms) v'∧q=PO R l r ms t v'):=by
 have vj:=t.size_eq
 have ax:∀u∈t.args,qn R l r ms u:=fun u hu=>B7 hp hR hk 900000 u (by have:=Tm.bm hu;omega) (by omega) (Tm.jw (Tm.qY DM).2.2.2 _ hu)
 exact ym ⟨_,uT (by omega) DM,_,yX (fun v hv=>qo hp hR hk (oY (by omega)) ax hv) hv hd,fun x q ⟨e1,v',g1,e2⟩=>⟨_,_,_,_,_,_,_,_,_,_,_,_,_,_,_,_,_,_,_,_,_,_,_,_,_,_,_,_,⟨e1,e2⟩,rfl,v',g1,rfl⟩⟩
theorem Ee (hp:rf l ms) (hR:R.Ok) (hk:∀c,∃n,Option.getD (aG R.ke c) (.int .i64 0)=.int .i64 n) {t:Tm} (ht:t.size<900000) (DM:t.jJ) {h:List af} (hs:K2 R h):
  bJ Tryz.prog 10 [.ptr 1 0,ql l r ms,dc t] h (fun x q=>x=nB (sE (fm R l ms) t)∧K2 R q):=by
 obtain⟨d,s,ka,kr,rfl,hd⟩:=hs
 exact Dn ⟨_,yO hp.sizes,_,yY hp hR hk (v:=⟨d,s,ka,kr,0,0,[]⟩) ht DM rfl hd,fun x q ⟨e1,v',g1,e2⟩=>⟨_,_,_,_,_,_,_,_,_,_,_,_,_,_,_,_,_,_,_,_,_,_,_,_,_,_,_,_,⟨e1,e2⟩,rfl,v'.d,v'.s,v'.ka,v'.kr,rfl,g1.1⟩⟩
end
theorem lF {w w':World} {F:Nat→Nat→Prop} {e:TypeId} {v v2:Value} {zs ys:List Int} {lY:List Value} {nr:List af} {r:AV} {rv:Value} (aI:nW w F [v] [.aF e 1 (ar zs)])
  (hk:bo (fun b=>bT v=some b) w w') (jR:∀F' η hp,fo w' F' η hp (.aF e 1 (ar ys)) v2) (hb:∀b,bT v2=some b→bT v=some b) (h1c:v2.oneCell'=true)
  (EV:(lY=[v]∧v2=v∧nr=[.aF e 1 (ar ys)]∧r=.bc []∧rv=.tuple #[]∧ys.length=zs.length)∨(lY=[v,v2]∧nr=[.dead,.aF e 1 (ar ys)]∧r=.own 1 (ar ys).length∧rv=v2)):
  fS w F [v] [.aF e 1 (ar zs)] w' lY nr r rv:=by
 have Gj:∀b o,bT v=some b→¬F b o:=fun b o hb hf=>(aI.aY b o hf).2 0 _ rfl hb
 have al:∀b o,F b o→b<w.heap.size∧¬bT v=some b:=fun b o hf=>⟨(aI.aY b o hf).1,fun e=>Gj b o e hf⟩
 have live:∀b,bT v=some b→aC [v] [.aF e 1 (ar zs)] b:=fun b hb=>⟨0,_,_,rfl,True.intro,rfl,hb⟩
 have cell:∀b o u,F b o→w.cell? ⟨b,o,none⟩=some u→w'.cell? ⟨b,o,none⟩=some u:=fun b o u hf hc=>by
  simp only[World.cell?] at hc ⊢
  rw[hk.block b (al b o hf).1 (al b o hf).2];exact hc
 have fQ:∀b es c,F b 0→w.heap[b]?=some (.map es c)→w'.heap[b]?=some (.map es c):=fun b es c hf hc=>by
  rw[hk.block b (al b 0 hf).1 (al b 0 hf).2];exact hc
 have pP:bo (aC [v] [.aF e 1 (ar zs)]) w w':=⟨hk.os,hk.tape,hk.output,hk.size,fun k h1 h2=>hk.block k h1 fun h=>h2 (live k h)⟩
 rcases EV with⟨rfl,rfl,rfl,rfl,rfl,hlen⟩|⟨rfl,rfl,rfl,rfl⟩
 ·have dF:∀b o,F b o→bQ F w [v2] [.aF e 1 (ar zs)] w' [v2] [.aF e 1 (ar ys)] b o:=fun b o hf=>⟨.inl hf,Nat.lt_of_lt_of_le (al b o hf).1 hk.size,fun r u h1 h2=>by
   match r,h1 with
   |0,h1=>cases h1;exact absurd hf (Gj b o h2)⟩
  have bY:Ext w F [v2] [.aF e 1 (ar zs)] w' (bQ F w [v2] [.aF e 1 (ar zs)] w' [v2] [.aF e 1 (ar ys)]) [v2] [.aF e 1 (ar ys)]:=by
   refine⟨cell,fQ,dF,fun r a h=>h,fun r a h=>h,fun r n u h=>?_⟩
   match r,h with
   |0,h=>
    unfold aQ at h ⊢
    simp only[List.getElem?_cons_zero,ar,List.length_map] at h ⊢
    rw[hlen];exact h
  refine⟨pP,bY,⟨rfl,fun r o u h1 h2=>?_,fun r r' o o' u u' b bj h1 h2 l1 l2 e1 e2 hb=>?_⟩,fun b ⟨r,o,u,h1,h2,h3,h4⟩=>?_,.bc [] #[] rfl fun j y u hy _=>by cases hy⟩
  ·match r,h1,h2 with
   |0,h1,h2=>cases h1;cases h2;exact jR _ _ _
  ·match r,r',h1,h2 with
   |0,0,_,_=>exact(bj rfl).elim
  ·match r,h1,h3 with
   |0,_,h3=>cases h3;exact .inr (live b h4)
 ·have dF:∀b o,F b o→bQ F w [v] [.aF e 1 (ar zs)] w' [v,rv] [.dead,.aF e 1 (ar ys)] b o:=fun b o hf=>⟨.inl hf,Nat.lt_of_lt_of_le (al b o hf).1 hk.size,fun r u h1 h2=>by
   match r,h1 with
   |0,_=>exact True.intro
   |1,h1=>cases h1;exact absurd hf (Gj b o (hb b h2))⟩
  have bY:Ext w F [v] [.aF e 1 (ar zs)] w' (bQ F w [v] [.aF e 1 (ar zs)] w' [v,rv] [.dead,.aF e 1 (ar ys)]) [v,rv] [.dead,.aF e 1 (ar ys)]:=by
   refine⟨cell,fQ,dF,fun r a h=>?_,fun r a h=>?_,fun r n u h=>?_⟩
   ·match r,h with
    |0,h=>exact h
   ·match r,h with
    |0,h=>exact h
   ·match r,h with
    |0,_=>exact True.intro
  refine⟨pP,bY,⟨rfl,fun r o u h1 h2=>?_,fun r r' o o' u u' b bj h1 h2 l1 l2 e1 e2 hb=>?_⟩,fun b ⟨r,o,u,h1,h2,h3,h4⟩=>?_,.own _ _ _ h1c ?_⟩
  ·match r,h1,h2 with
   |0,h1,_=>cases h1;exact True.intro
   |1,h1,h2=>cases h1;cases h2;exact jR _ _ _
  ·match r,r',h1,h2 with
   |0,_,h1,_=>cases h1;exact l1.elim
   |1,0,_,h2=>cases h2;exact l2.elim
   |1,1,_,_=>exact(bj rfl).elim
  ·match r,h1,h3 with
   |0,h1,_=>cases h1;exact h2.elim
   |1,_,h3=>cases h3;exact .inr (live b (hb b h4))
  ·unfold aQ
   simp[ar]
theorem Lm {zs:List Int} {i:Nat} {el:AV} (h:(ar zs)[i]?=some el):∃z,zs[i]?=some z∧el=nI z:=by
 rw[ar,List.getElem?_map] at h
 cases hz:zs[i]? with
 |none=>rw[hz] at h;cases h
 |some z=>rw[hz] at h;exact⟨z,rfl,(Option.some.inj h).symm⟩
theorem B8 {w:World} {e:TypeId} {g cap:Nat} {cur:Array Value} {ys:List Int} (h0:0<cap) (hm:cap≤maxLen) (hh:w.heap[g]?=some (.cells cur e (0,0))) (hs:cur.size=cap) (hy:ys.length≤cap)
  (bO:∀(k:Nat) (z:Int),ys[k]?=some z→cur[k]?=some (.int .i64 z)) (F:Nat→Nat→Prop) (η:List Value) (hp:List af):fo w F η hp (.aF e 1 (ar ys)) (.slice (some ⟨g,0,none⟩) ys.length cap):=by
 have hl:(ar ys).length=ys.length:=by simp[ar]
 refine⟨by omega,cur.toList.take (ys.length*1),⟨by rw[hl];have e:=Array.length_toList (xs:=cur);rw[List.length_take];omega,.inr ⟨g,cap,cur,by rw[hl],h0,⟨0,Nat.le_refl _,hh⟩,by rw[hl];exact hy,hm,by omega,by rw[hl]⟩⟩,fun i el hi=>?_⟩
 obtain⟨z,hz,rfl⟩:=Lm hi
 refine⟨rfl,fun j x hx=>?_⟩
 have VS:=(List.getElem?_eq_some_iff.1 hz).1
 match j,hx with
 |0,hx=>
  cases hx
  exact⟨.int .i64 z,by rw[List.getElem?_take,if_pos (by omega),Array.getElem?_toList,show i*1+0=i by omega];exact bO i z hz,.ae _,rfl⟩
 |j+1,hx=>simp[AV.cells,nI] at hx
theorem u4 {w:World} {F:Nat→Nat→Prop} {e:TypeId} {v:Value} {zs:List Int} (h:fo w F [v] [.aF e 1 (ar zs)] (.aF e 1 (ar zs)) v):(zs=[]∧(∃a,v=.slice a 0 0)∧bT v=none)∨
  ∃g cap cur,v=.slice (some ⟨g,0,none⟩) zs.length cap∧0<cap∧w.heap[g]?=some (.cells cur e (0,0))∧zs.length≤cap∧cap≤maxLen∧cur.size=cap∧∀(k:Nat) (z:Int),zs[k]?=some z→cur[k]?=some (.int .i64 z):=by
 have hl:(ar zs).length=zs.length:=by simp[ar]
 obtain⟨_,xs,⟨WV,bU⟩,cy⟩:=h
 rcases bU with⟨h0,hv⟩|⟨g,cap,cur,rfl,h0,⟨hi,vi,hh⟩,hn,hm,eS,xv⟩
 ·rw[hl] at h0
  refine .inl ⟨List.length_eq_zero_iff.1 h0,?_,?_⟩
  ·rcases hv with rfl|⟨ad,rfl⟩
   ·exact⟨_,rfl⟩
   ·exact⟨_,rfl⟩
  ·rcases hv with rfl|⟨ad,rfl⟩<;>simp[bT]
 ·obtain rfl:hi=0:=by omega
  refine .inr ⟨g,cap,cur,by rw[hl],h0,hh,by omega,hm,by omega,fun k z hz=>?_⟩
  have vZ:=(List.getElem?_eq_some_iff.1 hz).1
  obtain⟨_,hx⟩:=cy k (nI z) (by rw[ar,List.getElem?_map,hz];rfl)
  obtain⟨u,g1,g2,_⟩:=hx 0 _ rfl
  obtain rfl:=ep g2
  rw[show k*1+0=k by omega,←xv,List.getElem?_take,if_pos (by omega),Array.getElem?_toList] at g1
  exact g1
theorem wW {w:World} {g:Nat} {cur:Array Value} {e:TypeId} (hg:w.heap[g]?=some (.cells cur e (0,0))) (d:List Int) (n:Nat) (os:Array Obj):
  bo (fun b=>b=g) w (Sort.grow (Sort.putRow (Value.int .i64) (Sort.ahead w n) g 0 d.toArray) os)∧
   ∃c2,(Sort.grow (Sort.putRow (Value.int .i64) (Sort.ahead w n) g 0 d.toArray) os).heap[g]?=some (.cells c2 e (0,0))∧c2.size=cur.size∧∀(k:Nat) (z:Int),d[k]?=some z→k<cur.size→c2[k]?=some (.int .i64 z):=by
 have Mp:g<w.heap.size:=aX hg
 refine⟨⟨rfl,rfl,rfl,by simp[Sort.putRow,Sort.mapBlock,Sort.ahead],fun k hk bj=>?_⟩,Sort.putCells (Value.int .i64) 0 d.toArray cur,?_,by simp[Sort.putCells],fun k z hz hk=>?_⟩
 ·rw[Sort.heap_grow_old _ _ (by simpa [Sort.putRow,Sort.mapBlock,Sort.ahead] using hk)]
  simp only[Sort.putRow,Sort.mapBlock,Sort.ahead,Array.getElem?_modify]
  rw[if_neg (fun e=>bj e.symm)]
 ·rw[Sort.heap_grow_old _ _ (by simpa [Sort.putRow,Sort.mapBlock,Sort.ahead] using Mp)]
  simp only[Sort.putRow,Sort.mapBlock,Sort.ahead,Array.getElem?_modify,if_true,hg]
  rfl
 ·have vZ:=(List.getElem?_eq_some_iff.1 hz).1
  simp only[Sort.putCells,Array.getElem?_mapIdx,Array.getElem?_eq_getElem hk,Option.map_some]
  rw[if_pos ⟨Nat.zero_le _,by simpa using vZ⟩]
  have:(d.toArray[k-0]!)=z:=by
   rw[Nat.sub_zero,getElem!_pos _ k (by simpa using vZ)]
   simpa using (List.getElem?_eq_some_iff.1 hz).2
  rw[this]
theorem PQ {g n cap:Nat} (h:0<cap):(fun b=>b=g)=fun b=>bT (.slice (some ⟨g,0,none⟩) n cap)=some b:=by
 funext b
 rw[ba h]
 exact propext ⟨fun h=>by rw[h],fun h=>(Option.some.inj h).symm⟩
theorem Ef {zs:List Int} (hl:zs.length≤1000000000):bJ Tryz.prog 161 [.own 0 (ar zs).length] [.aF 3 1 (ar zs)]
  (fun r q=>r=.bc []∧q=[.aF 3 1 (ar (zs.mergeSort fun x y=>decide (x≤y)))]):=by
 have zj:(ar zs).length=zs.length:=by simp[ar]
 refine⟨⟨_,Tryz.func161,by kernel_rfl,by kernel_rfl⟩,fun w F η aR aI hv=>?_⟩
 match aR,hv with
 | [v0],⟨r0,_⟩=>
  obtain⟨v,rfl⟩:∃v,η=[v]:=by
   have:=aI.heap.len
   match η,this with
   | [v],_=>exact⟨v,rfl⟩
  obtain rfl:v=v0:=by
   cases r0 with
   |own _ _ _ h1 h2=>exact Option.some.inj (h2.2 rfl)
  rcases u4 (aI.heap.obj 0 _ _ rfl rfl) with⟨rfl,⟨a,rfl⟩,hb⟩|⟨g,cap,cur,rfl,h0,hh,hn,hm,hs,bO⟩
  ·refine callsIn_wide.2 ((Any.slices_Sort_int_none KE a 0 w).mono ?_)
   rintro e w' ⟨rfl,rfl⟩
   exact⟨_,.bc [],_,_,rfl,⟨rfl,by simp⟩,lF (v2:=.slice a 0 0) aI (bo.refl _ _) (fun F' η hp=>⟨by omega,[],⟨rfl,.inl ⟨rfl,by cases a<;>simp⟩⟩,fun i el hi=>by simp[ar] at hi⟩) (fun b h=>h) rfl (.inl ⟨rfl,rfl,rfl,rfl,rfl,rfl⟩)⟩
  ·have hH:Sort.Holds (Value.int .i64) w g 0 zs.toArray:=fun j hj=>by
    have o5:j<zs.length:=by simpa using hj
    refine⟨?_,by simp[World.frozen?,hh]⟩
    have:=bO j zs[j] (List.getElem?_eq_getElem o5)
    simp only[World.cell?,hh,Nat.zero_add]
    rw[getElem!_pos _ j hj]
    simpa using this
   refine callsIn_wide.2 ((Any.slices_Sort_int KE g 0 cap zs w hH (aX hh) (by omega)).mono ?_)
   rintro e w' ⟨rfl,n,os,rfl⟩
   have FU:(zs.mergeSort fun x y=>decide (x≤y)).length=zs.length:=List.length_mergeSort ..
   obtain⟨hk,c2,k1,k2,k3⟩:=wW hh (zs.mergeSort fun x y=>decide (x≤y)) n os
   rw[PQ (n:=zs.length) h0] at hk
   refine⟨_,.bc [],_,_,rfl,⟨rfl,rfl⟩,lF aI hk ?_ (fun b h=>h) rfl (.inl ⟨rfl,rfl,rfl,rfl,rfl,FU⟩)⟩
   have:=B8 (ys:=zs.mergeSort fun x y=>decide (x≤y)) h0 hm k1 (by omega) (by omega) (fun k z hz=>k3 k z hz (by have:=(List.getElem?_eq_some_iff.1 hz).1;omega))
   rwa [FU] at this
theorem r5 (zs:List Int):(Lib.compact zs).length≤zs.length:=by
 unfold Lib.compact Lib.compactUpTo
 rw[List.length_map]
 exact Nat.le_trans (List.length_filter_le _ _) (by simp)
theorem B9 {zs:List Int} {x:Int}:x∈Lib.compact zs↔x∈zs:=by
 unfold Lib.compact Lib.compactUpTo
 simp only[List.mem_map,List.mem_filter,List.mem_range]
 constructor
 ·rintro⟨j,⟨hj,_⟩,rfl⟩
  rw[getElem!_pos _ j (by simpa using hj)]
  simp
 ·intro hx
  obtain⟨j,hj⟩:=List.getElem?_of_mem hx
  have key:∀j:Nat,zs[j]?=some x→∃a,(a<zs.length∧Lib.keeps zs.toArray a=true)∧(zs.toArray[a]!)=x:=by
   intro j
   induction j with
   |zero=>
    intro h
    have hl:=(List.getElem?_eq_some_iff.1 h).1
    refine⟨0,⟨hl,by simp[Lib.keeps]⟩,?_⟩
    rw[getElem!_pos _ 0 (by simpa using hl)]
    simpa using (List.getElem?_eq_some_iff.1 h).2
   |succ j ih=>
    intro h
    obtain⟨hl,he⟩:=List.getElem?_eq_some_iff.1 h
    have e1:(zs.toArray[j+1]!)=x:=by
     rw[getElem!_pos _ (j+1) (by simpa using hl)]
     simpa using he
    by_cases hk:Lib.keeps zs.toArray (j+1)=true
    ·exact⟨j+1,⟨hl,hk⟩,e1⟩
    ·have Ck:(zs.toArray[j+1]!)=(zs.toArray[j]!):=by
      simp only[Lib.keeps,decide_eq_true_eq,not_or,Nat.add_sub_cancel] at hk
      exact Classical.not_not.1 hk.2
     refine ih ?_
     rw[e1,getElem!_pos _ j (by simpa using (by omega:j<zs.length))] at Ck
     rw[List.getElem?_eq_getElem (by omega:j<zs.length),Ck]
     simp
  exact key j hj
theorem vO {zs:List Int} {n:Nat} (kV:n=(ar zs).length) (hl:zs.length≤1000000000):bJ Tryz.prog 162 [.own 0 n] [.aF 3 1 (ar zs)]
  (fun r q=>r=.own 1 (ar (Lib.compact zs)).length∧q=[.dead,.aF 3 1 (ar (Lib.compact zs))]):=by
 have cS:=r5 zs
 subst kV
 refine⟨⟨_,Tryz.func162,by kernel_rfl,by kernel_rfl⟩,fun w F η aR aI hv=>?_⟩
 match aR,hv with
 | [v0],⟨r0,_⟩=>
  obtain⟨v,rfl⟩:∃v,η=[v]:=by
   have:=aI.heap.len
   match η,this with
   | [v],_=>exact⟨v,rfl⟩
  obtain rfl:v=v0:=by
   cases r0 with
   |own _ _ _ h1 h2=>exact Option.some.inj (h2.2 rfl)
  rcases u4 (aI.heap.obj 0 _ _ rfl rfl) with⟨rfl,⟨a,rfl⟩,hb⟩|⟨g,cap,cur,rfl,h0,hh,hn,hm,hs,bO⟩
  ·refine callsIn_wide.2 ((Any.slices_Compact_int_empty KF a 0 w).mono ?_)
   rintro e w' ⟨rfl,rfl⟩
   exact⟨_,_,_,_,rfl,⟨rfl,rfl⟩,lF (v2:=.slice a 0 0) aI (bo.refl _ _) (fun F' η hp=>⟨by omega,[],⟨rfl,.inl ⟨rfl,by cases a<;>simp⟩⟩,fun i el hi=>by simp[ar,Lib.compact,Lib.compactUpTo] at hi⟩) (fun b h=>h) rfl (.inr ⟨rfl,rfl,rfl,rfl⟩)⟩
  ·have hH:Sort.Holds (Value.int .i64) w g 0 zs.toArray:=fun j hj=>by
    have o5:j<zs.length:=by simpa using hj
    refine⟨?_,by simp[World.frozen?,hh]⟩
    have:=bO j zs[j] (List.getElem?_eq_getElem o5)
    simp only[World.cell?,hh,Nat.zero_add]
    rw[getElem!_pos _ j hj]
    simpa using this
   refine callsIn_wide.2 ((Any.slices_Compact_int KF g 0 cap zs w hH (by omega) hn).mono ?_)
   rintro e w' ⟨rfl,n,rfl⟩
   obtain⟨hk,c2,k1,k2,k3⟩:=wW hh (Lib.compact zs++List.replicate (zs.length-(Lib.compact zs).length) 0) n #[]
   rw[Sort.grow_empty] at hk k1
   rw[PQ (n:=zs.length) h0] at hk
   refine⟨_,_,_,_,rfl,⟨rfl,rfl⟩,lF aI hk ?_ (fun b h=>by rw[ba h0] at h ⊢;exact h) rfl (.inr ⟨rfl,rfl,rfl,rfl⟩)⟩
   exact B8 h0 hm k1 (by omega) (by omega) (fun k z hz=>k3 k z (by rw[List.getElem?_append_left (List.getElem?_eq_some_iff.1 hz).1];exact hz) (by have:=(List.getElem?_eq_some_iff.1 hz).1;omega))
mutual
def Tm.nodes:Tm→Nat
 | .mk _ _ _ l=>1+Tm.rh l
def Tm.rh:List Tm→Nat
 | []=>0
 |t::l=>Tm.nodes t+Tm.rh l
end
theorem Tm.Ln (t:Tm):t.nodes=1+Tm.rh t.args:=by cases t;rfl
theorem Tm.G5 (t:Tm):1≤t.nodes:=by rw[t.Ln];omega
mutual
def Tm.deep:Tm→Nat
 | .mk _ _ _ l=>Tm.wX 0 l+1
def Tm.wX:Nat→List Tm→Nat
 |n,[]=>n
 |n,t::l=>Tm.wX (if Tm.deep t>n then Tm.deep t else n) l
end
def Tm.dJ (t:Tm):Bool:=decide (t.nodes≤5000)&&decide (t.deep≤60)
theorem wY:∀(l r:List ((Nat×Nat)×Tm)) (n:Nat),nb n (l++r)=if n+l.length>5000∧0<l.length∨(∃p∈l,p.1.2>60) then false else nb (n+l.length) r
 | [],r,n=>by simp
 |p::l,r,n=>by
  rw[List.cons_append,nb,wY l r (n+1)]
  by_cases h1:n+1>5000
  ·rw[if_pos h1,if_pos (.inl ⟨by simp;omega,by simp⟩)]
  ·rw[if_neg h1]
   by_cases h2:p.1.2>60
   ·rw[if_pos h2,if_pos (.inr ⟨p,List.mem_cons_self,h2⟩)]
   ·rw[if_neg h2]
    by_cases h3:n+1+l.length>5000∧0<l.length∨∃q∈l,q.1.2>60
    ·rw[if_pos h3,if_pos]
     rcases h3 with h3|⟨q,hq,h3⟩
     ·exact .inl ⟨by simp;omega,by simp⟩
     ·exact .inr ⟨q,List.mem_cons_of_mem _ hq,h3⟩
    ·rw[if_neg h3,if_neg]
     ·congr 1;simp;omega
     ·rintro(h4|⟨q,hq,h4⟩)
      ·have:=h4.1
       simp only[List.length_cons] at this
       by_cases hl:0<l.length
       ·exact h3 (.inl ⟨by omega,hl⟩)
       ·omega
      ·rcases List.mem_cons.1 hq with rfl|hq
       ·exact h2 h4
       ·exact h3 (.inr ⟨q,hq,h4⟩)
mutual
theorem Tm.nH:∀(t:Tm) (a d:Nat),(t.pre a d).length=t.nodes
 | .mk _ _ _ l,a,d=>by rw[Tm.pre,List.length_cons,Tm.nodes,Tm.mZ l];omega
theorem Tm.mZ:∀(l:List Tm) (a d:Nat),(Tm.fO a d l).length=Tm.rh l
 | [],a,d=>by simp[Tm.fO,Tm.rh]
 |t::l,a,d=>by rw[Tm.fO,List.length_append,Tm.rh,Tm.nH t,Tm.mZ l]
end
theorem Tm.u6 {m:Nat}:∀(l:List Tm) (n:Nat),Tm.wX n l>m↔n>m∨∃t∈l,t.deep>m
 | [],n=>by simp[Tm.wX]
 |t::l,n=>by
  rw[Tm.wX,Tm.u6 l]
  constructor
  ·rintro(h|⟨u,hu,h⟩)
   ·split at h
    ·exact .inr ⟨t,List.mem_cons_self,h⟩
    ·exact .inl h
   ·exact .inr ⟨u,List.mem_cons_of_mem _ hu,h⟩
  ·rintro(h|⟨u,hu,h⟩)
   ·left;split<;>omega
   ·rcases List.mem_cons.1 hu with rfl|hu
    ·left;split<;>omega
    ·exact .inr ⟨u,hu,h⟩
mutual
theorem Tm.Ca {m:Nat}:∀(t:Tm) (a d:Nat),d≤m+1→((∃p∈t.pre a d,p.1.2>m)↔t.deep+d>m+1)
 | .mk bs k i l,a,d,hd=>by
  rw[Tm.pre,Tm.deep]
  have hl:=Tm.wZ (m:=m) l (a+bs.length) (d+1)
  constructor
  ·rintro⟨p,hp,h⟩
   rcases List.mem_cons.1 hp with rfl|hp
   ·simp only at h;omega
   ·by_cases hdm:d≤m
    ·have:=(hl (by omega)).1 ⟨p,hp,h⟩
     obtain⟨t,ht,h2⟩:=this
     have:=(Tm.u6 (m:=m-d) l 0).2 (.inr ⟨t,ht,by omega⟩)
     omega
    ·omega
  ·intro h
   by_cases hdm:d≤m
   ·have h1:Tm.wX 0 l>m-d:=by omega
    rcases (Tm.u6 l 0).1 h1 with h2|⟨t,ht,h2⟩
    ·omega
    ·obtain⟨p,hp,h3⟩:=(hl (by omega)).2 ⟨t,ht,by omega⟩
     exact⟨p,List.mem_cons_of_mem _ hp,h3⟩
   ·exact⟨_,List.mem_cons_self,by simp only;omega⟩
theorem Tm.wZ {m:Nat}:∀(l:List Tm) (a d:Nat),d≤m+1→((∃p∈Tm.fO a d l,p.1.2>m)↔∃t∈l,t.deep+d>m+1)
 | [],a,d,hd=>by simp[Tm.fO]
 |t::l,a,d,hd=>by
  have i1:=Tm.Ca t a d hd
  have i2:=Tm.wZ l a d hd
  rw[Tm.fO]
  constructor
  ·rintro⟨p,hp,h⟩
   rcases List.mem_append.1 hp with hp|hp
   ·exact⟨t,List.mem_cons_self,i1.1 ⟨p,hp,h⟩⟩
   ·obtain⟨u,hu,h2⟩:=i2.1 ⟨p,hp,h⟩
    exact⟨u,List.mem_cons_of_mem _ hu,h2⟩
  ·rintro⟨u,hu,h⟩
   rcases List.mem_cons.1 hu with hu|hu
   ·rw[hu] at h
    obtain⟨p,hp,h2⟩:=i1.2 h
    exact⟨p,List.mem_append_left _ hp,h2⟩
   ·obtain⟨p,hp,h2⟩:=i2.2 ⟨u,hu,h⟩
    exact⟨p,List.mem_append_right _ hp,h2⟩
end
theorem r6 (t:Tm):nb 0 (t.pre 0 1)=t.dJ:=by
 have h:=wY (t.pre 0 1) [] 0
 rw[List.append_nil,Nat.zero_add,nb,Tm.nH] at h
 rw[h,Tm.dJ]
 have hd:=Tm.Ca (m:=60) t 0 1 (by omega)
 have hp:=t.G5
 by_cases h1:t.nodes≤5000
 ·by_cases h2:t.deep≤60
  ·rw[if_neg,decide_eq_true h1,decide_eq_true h2];rfl
   rintro(h3|h3)
   ·omega
   ·have:=hd.1 h3;omega
  ·rw[if_pos (.inr (hd.2 (by omega))),decide_eq_false h2,Bool.and_false]
 ·rw[if_pos (.inl ⟨by omega,by omega⟩),decide_eq_false h1,Bool.false_and]
def G6 (L:List ((Nat×Nat)×Tm)):List Int:=(L.filter fun p=>p.2.kind==2).map fun p=>p.2.index
def lX (t:Tm):List Int:=G6 (t.pre 0 1)
def gL (l:List Tm):List Int:=l.flatMap lX
def nk (l:List Tm):List Int:=Lib.compact ((gL l).mergeSort fun x y=>decide (x≤y))
theorem Eg {l:List Tm} {x:Int}:x∈nk l↔x∈gL l:=B9.trans (List.mergeSort_perm _ _).mem_iff
mutual
theorem Tm.Lo (a d:Nat):∀t:Tm,(t.pre a d).length≤t.size
 | .mk b k i l=>by
  simp only[Tm.pre,List.length_cons,Tm.size]
  have:=Tm.FF (a+b.length) (d+1) l
  omega
theorem Tm.FF (a d:Nat):∀l:List Tm,(Tm.fO a d l).length≤Tm.sizes l
 | []=>Nat.le_refl _
 |t::l=>by
  have h1:=Tm.Lo a d t
  have h2:=Tm.FF a d l
  simp only[Tm.fO,List.length_append,Tm.sizes];omega
end
theorem w4 (t:Tm):(lX t).length≤t.size:=by
 have h1:=Tm.Lo 0 1 t
 have h2:=List.length_filter_le (fun p:(Nat×Nat)×Tm=>p.2.kind==2) (t.pre 0 1)
 rw[lX,G6,List.length_map];omega
theorem ri:∀l:List Tm,(gL l).length≤Tm.sizes l
 | []=>Nat.le_refl _
 |t::l=>by
  have h1:=w4 t
  have h2:=ri l
  simp only[gL,List.flatMap_cons,List.length_append,Tm.sizes] at h2 ⊢
  omega
theorem Eh {l:List Tm} {k:Nat} (h:k<l.length):gL (l.take (k+1))=gL (l.take k)++lX l[k]:=by
 rw[gL,gL,List.take_succ_eq_append_getElem h,List.flatMap_append,List.flatMap_cons,List.flatMap_nil,List.append_nil]
theorem dK (a:List Int):(ar a).length=a.length:=List.length_map _
theorem yZ {l:List Tm} (hl:Tm.sizes l≤100000000):CU Tryz.prog 110 [.sl (l.map Tm.enc)] 3 1 (ar (nk l)):=by
 have hll:=Tm.aA l
 refine yp ⟨rfl,au.intro (fun k:Nat=>(((),(),l.map Tm.enc,(l.length:Int),(k:Int),(),()),(((),()),ar (gL (l.take k)),()))) (fun k=>k≤l.length) (fun k=>l.length-k) 0 (by rw[List.length_map];rfl) (Nat.zero_le _) ?_⟩
 intro k hk again bB
 dsimp only
 have hb:=ri (l.take k)
 have PG:=Tm.lE l k
 refine ak.intro (fun h=>?_) fun h=>?_
 ·have al:k<l.length:=by simpa using h
  have bE:=Tm.bm (List.getElem_mem al)
  have VU:=w4 l[k]
  refine⟨by omega,by rw[List.length_map];omega,_,_,_,_,Tm.aj al,rU l[k],rfl,?_⟩
  refine lp.Di (fun m:List Int=>(((),()),ar (gL (l.take k)++m),(l[k].binds.map Ty.enc,l[k].kind,l[k].index,l[k].args.map Tm.enc,()),())) wL (l[k].pre 0 1) (wM (by omega)) (fun r m=>m++G6 r=lX l[k]) [] (by rw[List.append_nil]) rfl (fun p r m hI again Gu=>?_) fun m hI=>?_
  ·dsimp only[wL]
   have hI2:=congrArg List.length hI
   rw[List.length_append] at hI2
   refine ak.intro (fun h1=>⟨rfl,bX rfl ?_ (by decide),rfl,?_⟩) fun h1=>⟨rfl,?_⟩
   ·rw[List.length_append,dK,List.length_append,List.length_singleton];omega
   ·have e:ar (gL (l.take k)++m)++[nI p.2.index]=ar (gL (l.take k)++(m++[p.2.index])):=by simp[ar]
    rw[e]
    refine Gu _ ?_
    rw[←hI,List.append_assoc]
    simp only[G6,List.filter_cons,h1,if_true];rfl
   ·refine Gu _ ?_
    rw[←hI]
    simp only[G6,List.filter_cons,h1];rfl
  ·rw[G6,List.filter_nil,List.map_nil,List.append_nil] at hI
   refine⟨rfl,?_⟩
   rw[hI,←Eh al,aB (by omega)]
   exact bB (k+1) (by omega) (by omega)
 ·have:l.length≤k:=by simpa using h
  rw[List.take_of_length_le this] at hb ⊢
  have hs:=Ef (zs:=gL l) (by omega)
  have FU:((gL l).mergeSort fun x y=>decide (x≤y)).length=(gL l).length:=List.length_mergeSort ..
  exact⟨_,hs,fun r q ⟨e1,e2⟩=>⟨_,⟨e1,e2⟩,_,vO (by rw[dK,dK,FU]) (by omega),fun r q ⟨e1,e2⟩=>⟨_,⟨e1,e2⟩,rfl,rfl,rfl,rfl⟩⟩⟩
theorem r7 {t:Tm} (h:t.size≤100000000):ag Tryz.prog 110 [.sl [dc t]] (.sl (ar (nk [t]))):=by
 have:=(yZ (l:=[t]) (by simp only[Tm.sizes];omega)).pure
 rwa [List.map_cons,List.map_nil,←cq] at this
def u7 {α:Type} (p:α→Bool):List α→Nat→Int
 | [],_ => -1
 |x::l,k=>if p x=true then k else u7 p l (k+1)
theorem va {α:Type} (p:α→Bool):∀(l:List α) (k:Nat),decide (u7 p l k≥0)=l.any p
 | [],k=>rfl
 |x::l,k=>by
  rw[u7,List.any_cons]
  cases h:p x with
  |true=>rw[if_pos rfl,Bool.true_or];exact decide_eq_true (by omega)
  |false=>rw[if_neg (by decide),Bool.false_or];exact va p l (k+1)
theorem w5 {l:List Int} {k:Nat} (h:k<l.length):List.getD (ar l) (Int.toNat (k:Int)) .top=nI l[k]:=by simp[ar,List.getD,h]
theorem Cb {l:List Int} {x:Int} (hl:l.length≤1000000000):ag Tryz.prog 164 [.sl (ar l),nI x] (nI (u7 (fun y=>x==y) l 0)):=by
 refine KC (au.intro (fun k:Nat=>((ar l,x,(l.length:Int),(k:Int),()),())) (fun k=>k≤l.length∧u7 (fun y=>x==y) l 0=u7 (fun y=>x==y) (l.drop k) k) (fun k=>l.length-k) 0 (by rw[dK];rfl) ⟨Nat.zero_le _,rfl⟩ ?_)
 intro k ⟨hk,hs⟩ again bB
 dsimp only
 refine ak.intro (fun h=>?_) fun h=>?_
 ·have al:k<l.length:=by simpa using h
  rw[List.drop_eq_getElem_cons al,u7] at hs
  refine⟨by omega,by rw[dK];omega,_,w5 al,ak.intro (fun h=>?_) fun h=>?_⟩
  ·rw[hs,if_pos h]
  ·rw[if_neg (by rw[h];decide)] at hs
   rw[aB (by omega)]
   exact bB (k+1) ⟨by omega,hs⟩ (by omega)
 ·have:l.length≤k:=by simpa using h
  rw[List.drop_eq_nil_of_le this] at hs
  rw[hs];rfl
theorem vb {l:List Int} {x:Int} (hl:l.length≤1000000000):ag Tryz.prog 113 [.sl (ar l),nI x] (nB (decide (x∈l))):=by
 refine KD ⟨_,Cb hl,?_⟩
 rw[va]
 congr 2
 rw[Bool.eq_iff_iff,List.any_eq_true,decide_eq_true_eq]
 exact⟨fun⟨y,h1,h2⟩=>by rw[eq_of_beq h2];exact h1,fun h=>⟨x,h,by simp⟩⟩
theorem y3 {l:List Int} {x:Int} (hl:l.length≤1000000000):ag Tryz.prog 112 [nI x,.aH (.sl (ar l)) 0] (nB (!decide (x∈l))):=Kx ⟨_,vb hl,rfl⟩
theorem Cc {l m:List Int} (hl:l.length≤1000000000) (hm:m.length≤1000000000):ag Tryz.prog 163 [.sl (ar m),.aS 112 [.aH (.sl (ar l)) 0]] (nI (u7 (fun x=>!decide (x∈l)) m 0)):=by
 refine Bl ⟨rfl,au.intro (fun k:Nat=>((ar m,((),()),(m.length:Int),(k:Int),()),())) (fun k=>k≤m.length∧u7 (fun x=>!decide (x∈l)) m 0=u7 (fun x=>!decide (x∈l)) (m.drop k) k) (fun k=>m.length-k) 0 (by rw[dK];rfl) ⟨Nat.zero_le _,rfl⟩ ?_⟩
 intro k ⟨hk,hs⟩ again bB
 dsimp only
 refine ak.intro (fun h=>?_) fun h=>?_
 ·have al:k<m.length:=by simpa using h
  rw[List.drop_eq_getElem_cons al,u7] at hs
  refine⟨by omega,by rw[dK];omega,_,w5 al,_,y3 hl,ak.intro (fun h=>?_) fun h=>⟨rfl,?_⟩⟩
  ·rw[hs,if_pos h]
  ·rw[if_neg (by rw[h];decide)] at hs
   rw[aB (by omega)]
   exact bB (k+1) ⟨by omega,hs⟩ (by omega)
 ·have:m.length≤k:=by simpa using h
  rw[List.drop_eq_nil_of_le this] at hs
  rw[hs];rfl
theorem Cd {l m:List Int} (hl:l.length≤1000000000) (hm:m.length≤1000000000):ag Tryz.prog 111 [.sl (ar m),.aS 112 [.aH (.sl (ar l)) 0]] (nB (!(m.all fun x=>decide (x∈l)))):=by
 refine Bm ⟨_,Cc hl hm,?_⟩
 rw[va]
 congr 2
 induction m with
 |nil=>rfl
 |cons x m ih=>rw[List.any_cons,List.all_cons,Bool.not_and,ih (by simp only[List.length_cons] at hm;omega)]
theorem vc {b:Int}:∀(l:List Ty) (k:Nat),decide (gI b k l≥0)=!(l.all (Ty.dJ b))
 | [],k=>rfl
 |t::l,k=>by
  rw[gI,List.all_cons]
  split
  ·rename_i h;rw[vc l (k+1),h,Bool.true_and]
  ·rename_i h
   rw[show Ty.dJ b t=false from by simpa using h,Bool.false_and,decide_eq_true (by omega)];rfl
structure r8 (c ms:List Ty) (l r:Tm):Prop where
 c1:c.length≤500
 m1:ms.length≤500
 sz:Ty.sizes (c++ms)≤200000000
 l1:l.size≤1000000
 r1:r.size≤1000000
 lo:l.Ok
 ro:r.Ok
theorem r8.cs {c ms:List Ty} {l r:Tm} (h:r8 c ms l r):∀t∈c,t.size≤200000000:=fun t ht=>Nat.le_trans (Ty.bm (List.mem_append_left _ ht)) h.sz
theorem r8.ZR {c ms:List Ty} {l r:Tm} (h:r8 c ms l r):∀t∈ms,t.size≤200000000:=fun t ht=>Nat.le_trans (Ty.bm (List.mem_append_right _ ht)) h.sz
def vd (b:Int) (c ms:List Ty) (l r:Tm):Int:=
 if(c++ms).all (Ty.dJ b)=true then
  if l.dJ=true∧r.dJ=true then
   if(l.Rp c ms []).2=0∧(l.Rp c ms []).1.args=[]∧l.GD c ms [] (l.Rp c ms []).1=true∧r.GD c ms [] (l.Rp c ms []).1=true then 0 else 5
  else 2
 else 1
theorem qp {b:Int} {c ms:List Ty} {t:Tm} {of:Ty} (hc:∀t∈c,t.size≤200000000) (hm:∀t∈ms,t.size≤200000000) (aq:t.Ok) (ht:t.size≤1000000) (hr:t.dJ=true) (Rr:of.size≤200000000):
  bJ Tryz.prog 94 [dc t,.ptr 0 0,.ptr 1 0] [.box [nI b,.sl (c.map Ty.enc),.sl (ms.map Ty.enc)],.box [.sl (of.args.map Ty.enc),nI of.base]] (fun x q=>x=nB (t.GD c ms [] of)∧q=[.box [nI b,.sl (c.map Ty.enc),.sl (ms.map Ty.enc)],.box [.sl (of.args.map Ty.enc),nI of.base]]):=by
 refine N8 ⟨_,BH (x:=[]) hc hm aq (fun _ h=>by cases h) (by simp only[List.length_nil];omega) Rr,?_,rfl⟩
 rw[r6,hr,if_pos rfl]
 cases t.GD c ms [] of<;>rfl
theorem y5 {b:Int} {c m0:List Ty} {ms:List Ty} {l r:Tm} (h:r8 c ms l r):ag Tryz.prog 55 [.agg [nI b,.sl (c.map Ty.enc),.sl (m0.map Ty.enc)],ql l r ms] (nI (vd b c ms l r)):=by
 have h1:=qX (b:=b) h.c1 h.m1 (by have:=h.sz;omega)
 have h2:=lA (t:=l) (by have:=h.l1;omega)
 have h3:=lA (t:=r) (by have:=h.r1;omega)
 have h4:=yC (b:=b) (c:=c) (m:=ms) (x:=[]) h.lo (by have:=h.l1;simp only[List.length_nil];omega)
 rw[vc,Bool.not_not] at h1
 rw[r6] at h2 h3
 refine Oa ⟨_,h1,ak.intro (fun g=>?_) fun g=>?_⟩
 ·have g0:(c++ms).all (Ty.dJ b)=false:=by simpa only[Bool.not_eq_true'] using g
  rw[vd,if_neg (by rw[g0];decide)]
 have g1:(c++ms).all (Ty.dJ b)=true:=by simpa only[Bool.not_eq_false'] using g
 rw[vd,if_pos g1]
 refine⟨_,h2,ak.intro (fun g=>?_) fun g=>⟨_,h3,ak.intro (fun g'=>?_) fun g'=>?_⟩⟩
 ·rw[if_neg (fun e=>by rw[e.1] at g;simp at g)]
 ·rw[if_neg (fun e=>by rw[e.2] at g';simp at g')]
 have g2:l.dJ=true:=by simpa using g
 have g3:r.dJ=true:=by simpa using g'
 rw[if_pos ⟨g2,g3⟩]
 generalize hp:l.Rp c ms []=p at h4 ⊢
 refine⟨_,_,_,h4,ak.intro (fun g=>?_) fun g=>?_⟩
 ·rw[if_neg (fun e=>by rw[e.1] at g;simp at g)]
 have g4:p.2=0:=by simpa using g
 refine ak.intro (fun g=>?_) fun g=>?_
 ·rw[if_neg (fun e=>by rw[e.2.1] at g;simp at g)]
 have g5:p.1.args=[]:=by
  have:p.1.args.length=0:=by simpa using g
  exact List.length_eq_zero_iff.1 this
 have Rr:p.1.size≤200000000:=by
  have:=p.1.size_eq
  rw[g5,Ty.sizes] at this;omega
 refine⟨_,qp h.cs h.ZR h.lo h.l1 g2 Rr,fun x q ⟨e1,e2⟩=>⟨_,_,_,_,_,_,⟨e1,e2⟩,ak.intro (fun g=>?_) fun g=>?_⟩⟩
 ·rw[if_neg (fun e=>by rw[e.2.2.1] at g;simp at g)]
 refine⟨_,qp h.cs h.ZR h.ro h.r1 g3 Rr,fun x q ⟨e1,e2⟩=>⟨_,_,_,_,_,_,⟨e1,e2⟩,ak.intro (fun g'=>?_) fun g'=>?_⟩⟩
 ·rw[if_neg (fun e=>by rw[e.2.2.2] at g';simp at g')]
 ·rw[if_pos ⟨g4,g5,by simpa using g,by simpa using g'⟩]
def ve (b:Int) (c ms:List Ty) (l r:Tm):Int:=
 if vd b c ms l r=0 then
  if l.kind=1∧(l.uses [] []).isSome=true then
   if((lX r).all fun x=>decide (x∈lX l))=true then 0 else 7
  else 6
 else vd b c ms l r
theorem r9 {t:Tm} (h:t.size≤1000000):(nk [t]).length≤1000000000:=by
 have h1:=ri [t]
 have h2:=r5 ((gL [t]).mergeSort fun x y=>decide (x≤y))
 rw[List.length_mergeSort] at h2
 simp only[Tm.sizes] at h1
 rw[nk];omega
theorem w6 (l r:Tm):((nk [r]).all fun x=>decide (x∈nk [l]))=((lX r).all fun x=>decide (x∈lX l)):=by
 have e:∀t:Tm,∀x,x∈nk [t]↔x∈lX t:=fun t x=>by rw[Eg,gL,List.flatMap_cons,List.flatMap_nil,List.append_nil]
 rw[Bool.eq_iff_iff,List.all_eq_true,List.all_eq_true]
 simp only[decide_eq_true_eq]
 exact⟨fun h x hx=>(e l x).1 (h x ((e r x).2 hx)),fun h x hx=>(e l x).2 (h x ((e r x).1 hx))⟩
theorem y6 {b:Int} {c m0:List Ty} {ms:List Ty} {l r:Tm} (h:r8 c ms l r):ag Tryz.prog 60 [.agg [nI b,.sl (c.map Ty.enc),.sl (m0.map Ty.enc)],ql l r ms] (nI (ve b c ms l r)):=by
 have hi:=KJ (t:=l) (by have:=h.l1;omega)
 rw[←cq] at hi
 refine Ob ⟨_,y5 h,ak.intro (fun g=>?_) fun g=>?_⟩
 ·rw[ve,if_neg (by simpa using g)]
 rw[ve,if_pos (by simpa using g)]
 refine ak.intro (fun g=>?_) fun g=>⟨_,hi,ak.intro (fun g'=>?_) fun g'=>?_⟩
 ·rw[if_neg (fun e=>by rw[e.1] at g;simp at g)]
 ·rw[if_neg (fun e=>by rw[e.2] at g';simp at g')]
 rw[if_pos ⟨by simpa using g,by simpa using g'⟩]
 have hl:=h.l1
 have hr:=h.r1
 refine⟨_,r7 (by omega),_,r7 (by omega),_,Cd (r9 hl) (r9 hr),ak.intro (fun g=>?_) fun g=>?_⟩
 ·rw[w6] at g
  rw[if_neg (by rw[(by simpa using g:((lX r).all fun x=>decide (x∈lX l))=false)];decide)]
 ·rw[w6] at g
  rw[if_pos (by rw[←Bool.not_eq_false'];exact g)]
def w7 (C:Cx) (b:Int) (c ms:List Ty) (l r:Tm):Int:=if ve b c ms l r=0 then(if sE C r=true then 0 else 8) else ve b c ms l r
theorem vf {R:Rk} {b:Int} {c m0 ms:List Ty} {l r:Tm} {h:List af} (hR:R.Ok) (hk:∀c,∃n,Option.getD (aG R.ke c) (.int .i64 0)=.int .i64 n) (ht:r8 c ms l r) (hp:rf l ms) (hr:r.size<900000) (DM:r.jJ) (hs:K2 R h):
  bJ Tryz.prog 27 [.agg [nI b,.sl (c.map Ty.enc),.sl (m0.map Ty.enc)],.ptr 1 0,ql l r ms] h (fun x q=>x=nI (w7 (fm R l ms) b c ms l r)∧K2 R q):=by
 obtain⟨d,s,ka,kr,rfl,hd⟩:=hs
 refine Oc ⟨_,y6 ht,ak.intro (fun g=>⟨?_,d,s,ka,kr,rfl,hd⟩) fun g=>⟨_,Ee hp hR hk hr DM ⟨d,s,ka,kr,rfl,hd⟩,fun x q ⟨e1,d2,s2,K3,K4,e2,CH⟩=>⟨_,_,_,_,_,_,_,_,_,_,⟨e1,e2⟩,ak.intro (fun g'=>⟨?_,d2,s2,K3,K4,rfl,CH⟩) fun g'=>⟨?_,d2,s2,K3,K4,rfl,CH⟩⟩⟩⟩
 ·rw[w7,if_neg (by simpa using g)]
 ·rw[w7,if_pos (by simpa using g),if_neg (by simpa using g')]
 ·rw[w7,if_pos (by simpa using g),if_pos (by simpa using g')]
def kT (i:Int) (l:List Tm):Tm:=.mk [] 1 i l
def mT (i:Int):Tm:=.mk [] 2 i []
def OT:Ty:=.mk [] 0
def Vq:List Ty:=[.mk [OT] 0,.mk [OT,OT] 0]
def OU:List Ty:=[OT,OT]
def lK:Tm:=kT 1 [kT 0 [mT 0],mT 1]
def rK:Tm:=kT 0 [kT 1 [mT 0,mT 1]]
def lQ:Tm:=kT 1 [mT 0,mT 1]
def rQ:Tm:=kT 1 [mT 1,mT 0]
def LJ:Rk:=sG 2 [(1,0)] []
theorem RU (n:Int) (h1 : -100≤n) (h2:n≤100):jr n:=by unfold jr;omega
theorem PR:sZ 2 [(1,0)] []:=⟨⟨by omega,by decide,by kernel_rfl,rfl,fun j hj=>by simp at hj⟩,fun c hc=>by
 match c,hc with
 |0,_=>
  show (sG 2 [(1,0)] []).qi ((0:Nat):Int) ((0:Nat):Int)=false
  kernel_rfl
 |1,_=>
  show (sG 2 [(1,0)] []).qi ((1:Nat):Int) ((1:Nat):Int)=false
  kernel_rfl
 |c+2,hc=>omega⟩
theorem gM (i:Int) (l:List AV):ag Tryz.prog 36 [nI i,.sl l] (.agg [.sl [],nI 1,nI i,.sl l]):=Og rfl
theorem dQ (i:Int):ag Tryz.prog 37 [nI i] (.agg [.sl [],nI 2,nI i,.sl []]):=Oh rfl
theorem Vr {l r:Tm} (h1:l.size≤100) (h2:r.size≤100) (lo:l.Ok) (ro:r.Ok):r8 Vq OU l r:=⟨by decide,by decide,by decide,by omega,by omega,lo,ro⟩
theorem ZS {l:Tm} (h:l.size≤100):rf l OU:=⟨by omega,fun x hx=>by
 have:x=OT:=by simpa [OU] using hx
 subst this;decide⟩
theorem ZT {k i:Int} {l:List Tm} (h1:jr k) (h2:jr i) (h:Tm.Ou l):(Tm.mk [] k i l).Ok:=⟨h1,h2,h⟩
theorem Vs {k i:Int} {l:List Tm} (h1:jr k) (h2:jr i) (h:Tm.fR l):(Tm.mk [] k i l).jJ:=⟨True.intro,h1,h2,h⟩
theorem Ce (i:Int) (h:jr i):(mT i).Ok:=ZT (RU _ (by decide) (by decide)) h True.intro
theorem VV (i:Int) (h:jr i):(mT i).jJ:=Vs (RU _ (by decide) (by decide)) h True.intro
theorem RV (i:Int) (h:jr i) {l:List Tm} (hl:Tm.Ou l):(kT i l).Ok:=ZT (RU _ (by decide) (by decide)) h hl
theorem kn (i:Int) (h:jr i) {l:List Tm} (hl:Tm.fR l):(kT i l).jJ:=Vs (RU _ (by decide) (by decide)) h hl
theorem dS:ag Tryz.prog 9 [] (nB true):=by
 have i0:=RU 0 (by decide) (by decide)
 have i1:=RU 1 (by decide) (by decide)
 have VW:∀{t u:Tm},t.Ok→u.Ok→Tm.Ou [t,u]:=fun h1 h2=>⟨h1,h2,True.intro⟩
 have ns:∀{t u:Tm},t.jJ→u.jJ→Tm.fR [t,u]:=fun h1 h2=>⟨h1,h2,True.intro⟩
 have o1:lK.Ok:=RV 1 i1 (VW (RV 0 i0 ⟨Ce 0 i0,True.intro⟩) (Ce 1 i1))
 have o2:rK.Ok:=RV 0 i0 ⟨RV 1 i1 (VW (Ce 0 i0) (Ce 1 i1)),True.intro⟩
 have o3:lQ.Ok:=RV 1 i1 (VW (Ce 0 i0) (Ce 1 i1))
 have o4:rQ.Ok:=RV 1 i1 (VW (Ce 1 i1) (Ce 0 i0))
 have n2:rK.jJ:=kn 0 i0 ⟨kn 1 i1 (ns (VV 0 i0) (VV 1 i1)),True.intro⟩
 have n4:rQ.jJ:=kn 1 i1 (ns (VV 1 i1) (VV 0 i0))
 have a1:=yE 0
 have a2:ag Tryz.prog 35 [nI 0,.sl [.agg [.sl [],nI 0]]] (.agg [.sl [.agg [.sl [],nI 0]],nI 0]):=lz (l:=[OT]) (by decide)
 have a3:ag Tryz.prog 35 [nI 0,.sl [.agg [.sl [],nI 0],.agg [.sl [],nI 0]]] (.agg [.sl [.agg [.sl [],nI 0],.agg [.sl [],nI 0]],nI 0]):=lz (l:=[OT,OT]) (by decide)
 have hN:=Li (n:=2) (ps:=[(1,0)]) (sts:=[]) (by decide) (by decide) PR
 have d1:w7 (fm LJ lK OU) 1 Vq OU lK rK=0:=by kernel_rfl
 have d2:w7 (fm LJ lQ OU) 1 Vq OU lQ rQ=8:=by kernel_rfl
 have v1:=gk (a:=kT 0 [kT 0 [mT 0]]) (b:=mT 0) (by decide)
 have v2:=gk (a:=mT 0) (b:=mT 0) (by decide)
 have w1:fP (kT 0 [kT 0 [mT 0]]) (mT 0)=true:=by kernel_rfl
 have w2:fP (mT 0) (mT 0)=false:=by kernel_rfl
 rw[w1] at v1
 rw[w2] at v2
 have hk:∀c,∃n,Option.getD (aG LJ.ke c) (.int .i64 0)=.int .i64 n:=uZ []
 have hR:LJ.Ok:=PR.1.ok
 have wN:dt [nI 2,.clip [.agg [nI 1,nI 0]],.ae (.slice none 0 0)] [nI 2,.sl (bd [(1,0)]),.sl (bd [])]:=⟨dE.refl _,qS _,pT,True.intro⟩
 have wD:∀a b c d e f g h cs ms,dt [.agg [nI 1,.clip cs,.ae (.slice none 0 0)],.ptr 1 0,.agg [a,b,c,d,e,f,g,h,.clip ms]] [.agg [nI 1,.sl cs,.sl []],.ptr 1 0,.agg [a,b,c,d,e,f,g,h,.sl ms]]:=fun a b c d e f g h cs ms=>
  ⟨.agg ⟨dE.refl _,qS _,pT,True.intro⟩,dE.refl _,.agg ⟨dE.refl _,dE.refl _,dE.refl _,dE.refl _,dE.refl _,dE.refl _,dE.refl _,dE.refl _,qS _,True.intro⟩,True.intro⟩
 refine Q8 ⟨_,_,a1,_,_,a2,_,_,a3,_,bJ.AD wN hN,fun x q ⟨e1,i,d,s,ka,kr,e2,hd⟩=>.inr (.inr (.inr ⟨_,_,_,_,_,_,_,_,_,_,⟨e1,e2⟩,?_⟩))⟩
 refine⟨_,_,_,_,dQ 0,_,_,_,_,gM 0 _,_,_,_,_,dQ 1,_,_,_,_,gM 1 _,_,_,_,_,dQ 0,_,_,_,_,dQ 1,_,_,_,_,gM 1 _,_,_,_,_,gM 0 _,?_⟩
 refine⟨_,_,_,_,dQ 0,_,_,_,_,dQ 1,_,_,_,_,gM 1 _,_,_,_,_,dQ 1,_,_,_,_,dQ 0,_,_,_,_,gM 1 _,?_⟩
 have D1:=vf (R:=LJ) (b:=1) (c:=Vq) (m0:=[]) (ms:=OU) (l:=lK) (r:=rK) (h:=iL (iR []) 2 (bd [(1,0)]) d 0 s kr ka (bd [])) hR hk (Vr (by decide) (by decide) o1 o2) (ZS (by decide)) (by decide) n2 ⟨d,s,ka,kr,rfl,hd⟩
 rw[d1] at D1
 refine⟨_,bJ.AD (wD _ _ _ _ _ _ _ _ _ _) D1,fun x q ⟨e1,d',s',YY,YZ,e2,cM⟩=>⟨_,_,_,_,_,_,_,_,_,_,⟨e1,e2⟩,ak.pos rfl ?_⟩⟩
 have D2:=vf (R:=LJ) (b:=1) (c:=Vq) (m0:=[]) (ms:=OU) (l:=lQ) (r:=rQ) (h:=iL LJ.ke LJ.n (bd LJ.ps) d' 0 s' YZ YY LJ.kt) hR hk (Vr (by decide) (by decide) o3 o4) (ZS (by decide)) (by decide) n4 ⟨d',s',YY,YZ,rfl,cM⟩
 rw[d2] at D2
 exact⟨_,bJ.AD (wD _ _ _ _ _ _ _ _ _ _) D2,fun x q ⟨e1,d',s',YY,YZ,e2,cM⟩=>⟨_,_,_,_,_,_,_,_,_,_,⟨e1,e2⟩,ak.pos rfl ⟨_,_,_,_,dQ 0,_,_,_,_,gM 0 _,_,_,_,_,gM 0 _,_,_,_,_,dQ 0,_,v1,ak.pos rfl ⟨_,_,_,_,dQ 0,_,_,_,_,dQ 0,_,v2,rfl⟩⟩⟩⟩
structure Pa where
 l:Tm
 r:Tm
 ms:List Ty
abbrev Pa.enc (p:Pa):AV:=ql p.l p.r p.ms
def Pa.gj (p:Pa):Bool:=[p.l,p.r].all (Tm.fN 150 70)&&(jH [] [] p.ms&&Tm.mY [p.l,p.r])
structure Pa.Sm (p:Pa):Prop where
 l1:p.l.size≤150
 r1:p.r.size≤150
 m1:p.ms.length≤20
 m2:∀x∈p.ms,x.size≤60
theorem Pa.RD {p:Pa} (h:p.gj=true):p.Sm:=by
 simp only[Pa.gj,Bool.and_eq_true,List.all_cons,List.all_nil] at h
 obtain⟨⟨h1,h2,_⟩,h3,_⟩:=h
 simp only[jH,Bool.and_eq_true,decide_eq_true_eq,List.nil_append,List.all_eq_true] at h3
 exact⟨Tm.fh h1,Tm.fh h2,h3.1.2.2,fun x hx=>Ty.fh (h3.2 x hx)⟩
theorem Pa.Sm.msz {p:Pa} (h:p.Sm):Ty.sizes p.ms≤1200:=by
 have:∀l:List Ty,(∀x∈l,x.size≤60)→Ty.sizes l≤l.length*60:=by
  intro l
  induction l with
  |nil=>intro _;exact Nat.le_refl _
  |cons x l ih=>
   intro hx
   have h1:=hx x List.mem_cons_self
   have h2:=ih fun y hy=>hx y (List.mem_cons_of_mem _ hy)
   simp only[Ty.sizes,List.length_cons];omega
 have:=this p.ms h.m2
 have:=h.m1
 omega
theorem Pa.getD {l:List Pa} {k:Nat} (h:k<l.length):List.getD (l.map Pa.enc) (Int.toNat (k:Int)) .top=l[k].enc:=getD_map h
theorem Cf {ps:List Pa} (hl:ps.length≤1000):ag Tryz.prog 7 [.sl (ps.map Pa.enc)] (nB (ps.all Pa.gj)):=by
 refine Rb (au.intro (fun k:Nat=>((ps.map Pa.enc,(k:Int),()),())) (fun k=>k≤ps.length∧ps.all Pa.gj=(ps.drop k).all Pa.gj) (fun k=>ps.length-k) 0 rfl ⟨Nat.zero_le _,rfl⟩ ?_)
 intro k ⟨hk,hs⟩ again bB
 dsimp only
 refine ak.intro (fun h=>?_) fun h=>?_
 ·have al:k<ps.length:=by simpa using h
  have b:(0:Int)≤k∧(k:Int)<((List.length (ps.map Pa.enc):Nat):Int):=⟨by omega,by rw[List.length_map];omega⟩
  rw[List.drop_eq_getElem_cons al,List.all_cons] at hs
  generalize hp:ps[k]=p at hs
  have hg:=Pa.getD al
  rw[hp] at hg
  have f1:ag Tryz.prog 32 [.sl [dc p.l,dc p.r]] (nB ([p.l,p.r].all (Tm.fN 150 70))):=by
   have:=Gz (l:=[p.l,p.r]) (by simp)
   rwa [List.map_cons,List.map_cons,List.map_nil,←cq,←cq] at this
  have f2:=BB 0 [] [] p.ms
  refine⟨b.1,b.2,_,_,_,_,_,_,_,_,_,hg,b.1,b.2,_,_,_,_,_,_,_,_,_,hg,_,f1,ak.intro (fun h=>?_) fun h=>⟨b.1,b.2,_,_,_,_,_,_,_,_,_,hg,_,f2,ak.intro (fun h'=>?_) fun h'=>?_⟩⟩
  ·have:[p.l,p.r].all (Tm.fN 150 70)=false:=by simpa only[Bool.not_eq_true'] using h
   rw[hs,Pa.gj,this];rfl
  ·have:jH [] [] p.ms=false:=by simpa using h'
   rw[hs,Pa.gj,this,Bool.false_and,Bool.and_false];rfl
  have g1:[p.l,p.r].all (Tm.fN 150 70)=true:=by simpa only[Bool.not_eq_false'] using h
  have g2:jH [] [] p.ms=true:=by simpa using h'
  have gs:=g1
  simp only[List.all_cons,List.all_nil,Bool.and_eq_true] at gs
  have z1:=Tm.fh gs.1
  have z2:=Tm.fh gs.2.1
  have f3:ag Tryz.prog 33 [.sl [dc p.l,dc p.r]] (nB (Tm.mY [p.l,p.r])):=by
   have:=GB 300 [p.l,p.r] (by simp only[Tm.sizes];omega) (by decide)
   rwa [List.map_cons,List.map_cons,List.map_nil,←cq,←cq] at this
  refine⟨b.1,b.2,_,_,_,_,_,_,_,_,_,hg,b.1,b.2,_,_,_,_,_,_,_,_,_,hg,_,f3,ak.intro (fun h=>?_) fun h=>?_⟩
  ·have:Tm.mY [p.l,p.r]=false:=by simpa using h
   rw[hs,Pa.gj,this,Bool.and_false,Bool.and_false];rfl
  ·have:Tm.mY [p.l,p.r]=true:=by simpa using h
   rw[Pa.gj,g1,g2,this] at hs
   rw[aB (by omega)]
   exact bB (k+1) ⟨by omega,hs⟩ (by omega)
 ·have:ps.length≤k:=by simpa using h
  rw[List.drop_eq_nil_of_le this] at hs
  rw[hs];rfl
theorem Lp {t:Tm} (h:t.size≤1000000000):ag Tryz.prog 12 [dc t] (dc t):=by
 have:=DC _ t (Nat.le_refl _) h
 rwa [←cq] at this
theorem G7 {p:Pa} (h:p.Sm):ag Tryz.prog 11 [p.enc] p.enc:=by
 have h1:=h.l1
 have h2:=h.r1
 have h3:=h.msz
 exact Oi ⟨_,_,_,_,Lp (t:=p.l) (by omega),_,_,_,_,Lp (t:=p.r) (by omega),_,rO (by omega),rfl⟩
theorem Pa.Sm.ok {p:Pa} (h:p.Sm):rf p.l p.ms:=⟨by have:=h.l1;omega,fun x hx=>by have:=h.m2 x hx;omega⟩
mutual
theorem Tm.Lq:∀{t:Tm},t.jJ→t.Ok
 | .mk _ _ _ _,h=>⟨h.2.1,h.2.2.1,Tm.Cg h.2.2.2⟩
theorem Tm.Cg:∀{l:List Tm},Tm.fR l→Tm.Ou l
 | [],_=>True.intro
 |_::_,h=>⟨Tm.Lq h.1,Tm.Cg h.2⟩
end
mutual
theorem Tm.w8:∀(t x:Tm),t.jJ→x∈t.inner→x.jJ
 | .mk b k i a,x,h,hx=>by
  simp only[Tm.inner,List.mem_cons] at hx
  rcases hx with rfl|hx
  ·exact h
  ·split at hx
   ·exact Tm.vg a x h.2.2.2 hx
   ·cases hx
theorem Tm.vg:∀(l:List Tm) (x:Tm),Tm.fR l→x∈Tm.cK l→x.jJ
 | [],x,_,hx=>by cases hx
 |t::l,x,h,hx=>by
  simp only[Tm.cK,List.mem_append] at hx
  rcases hx with hx|hx
  ·split at hx
   ·exact Tm.w8 t x h.1 hx
   ·cases hx
  ·exact Tm.vg l x h.2 hx
end
theorem OV {l:Tm} (h:l.jJ) {x:Tm} (hx:x∈eI l.args):x.jJ:=by
 obtain⟨t,h1,h2⟩:=List.mem_flatMap.1 hx
 exact t.w8 x (Tm.jw (Tm.qY h).2.2.2 t h1) h2
theorem Vt {t:Tm} (h:t.size≤1000000000):ag Tryz.prog 46 [dc t] (dc t):=by
 have:=DE _ t (Nat.le_refl _) h
 rwa [←cq] at this
theorem OW {t u:Tm} (h:t.size≤1000000000):ag Tryz.prog 45 [dc t,dc u] (nB (Tm.same t u)):=by
 have:=mW _ t u (Nat.le_refl _) h
 rwa [←cq,←cq] at this
theorem y7 {l:List Tm} (h:bH l):ag Tryz.prog 15 [.sl (l.map Tm.enc),.sl (l.map Tm.enc)] (nB true):=by
 obtain⟨hl,hs⟩:=h
 refine Oq (ak.neg (by simp) (au.intro (fun k:Nat=>((l.map Tm.enc,l.map Tm.enc,(k:Int),()),())) (fun k=>k≤l.length) (fun k=>l.length-k) 0 rfl (Nat.zero_le _) ?_))
 intro k hk again bB
 dsimp only
 refine ak.intro (fun h=>?_) fun h=>rfl
 have al:k<l.length:=by simpa using h
 have hz:=hs _ (List.getElem_mem al)
 have b:(0:Int)≤k∧(k:Int)<((List.length (l.map Tm.enc):Nat):Int):=⟨by omega,by rw[List.length_map];omega⟩
 refine⟨b.1,b.2,_,_,_,_,Tm.aj al,_,_,_,_,Vt (t:=l[k]) (by omega),b.1,b.2,_,_,_,_,Tm.aj al,_,OW (t:=l[k]) (u:=l[k]) (by omega),ak.neg (by rw[Tm.nG];rfl) ?_⟩
 rw[aB (by omega)]
 exact bB (k+1) (by omega) (by omega)
theorem RE (l:List Tm):List.drop (Int.toNat 0) (List.take (Int.toNat (if 10<((List.length (l.map Tm.enc):Nat):Int) then 10 else((List.length (l.map Tm.enc):Nat):Int))) (l.map Tm.enc))=(l.take 10).map Tm.enc:=by
 rw[List.length_map]
 show List.take _ _=_
 rw[List.map_take]
 split
 ·rfl
 ·rename_i h
  rw[Int.toNat_natCast,List.take_of_length_le (by simp),List.take_of_length_le (by simp;omega)]
def vP (l:List Tm):Bool:=l.all (Tm.fN 60 60)
theorem ox (l:List Tm):ag Tryz.prog 14 [.sl (l.map Tm.enc)] (if vP (l.take 10)=true then .bc [.sl ((l.take 10).map Tm.enc),.sl ((l.take 10).map Tm.enc),nB true] else .bc [.sl [],.sl [],nB false]):=by
 have l1:(l.take 10).length≤10:=by rw[List.length_take];omega
 refine Om ⟨⟨by omega,by split<;>omega,by rw[List.length_map];split<;>omega,fun y hy=>Tm.cW y hy⟩,rfl,?_⟩
 rw[RE]
 generalize l.take 10=l at l1 ⊢
 refine au.intro (fun k:Nat=>((l.map Tm.enc,(),(k:Int),()),((l.take k).map Tm.enc,()))) (fun k=>k≤l.length∧vP l=vP (l.drop k)) (fun k=>l.length-k) 0 rfl ⟨Nat.zero_le _,rfl⟩ ?_
 intro k ⟨hk,hs⟩ again bB
 dsimp only
 refine ak.intro (fun h=>?_) fun h=>⟨rfl,?_⟩
 ·have al:k<l.length:=by simpa using h
  have b:(0:Int)≤k∧(k:Int)<((List.length (l.map Tm.enc):Nat):Int):=⟨by omega,by rw[List.length_map];omega⟩
  have hf:=rT (most:=60) (d:=60) (t:=l[k]) (by decide) (by decide)
  rw[←cq] at hf
  rw[List.drop_eq_getElem_cons al,vP,vP,List.all_cons] at hs
  refine⟨b.1,b.2,_,_,_,_,Tm.aj al,_,hf,ak.intro (fun h=>?_) fun h=>?_⟩
  ·have:Tm.fN 60 60 l[k]=false:=by simpa using h
   rw[this,Bool.false_and] at hs
   rw[if_neg (by rw[vP,hs];decide)]
  ·have g:Tm.fN 60 60 l[k]=true:=by simpa using h
   have hz:=Tm.fh g
   rw[g,Bool.true_and] at hs
   refine⟨b.1,b.2,_,_,_,_,Tm.aj al,_,_,_,_,Lp (t:=l[k]) (by omega),rfl,bX rfl (by rw[List.length_append,List.length_map,List.length_singleton,List.length_take];omega) (by decide),rfl,?_⟩
   have e:(l.take k).map Tm.enc++[dc l[k]]=(l.take (k+1)).map Tm.enc:=by rw[List.take_succ_eq_append_getElem al,List.map_append,List.map_cons,List.map_nil,cq]
   rw[aB (by omega)]
   have:=bB (k+1) ⟨by omega,hs⟩ (by omega)
   rw[←e] at this
   exact this
 ·have:l.length≤k:=by simpa using h
  rw[List.drop_eq_nil_of_le this] at hs
  rw[List.take_of_length_le this,if_pos (by rw[hs];rfl)]
theorem oZ {p:Pa} {k:Int} {a b:List Tm} (hl:p.l.jJ):ag Tryz.prog 4 [p.enc,nI k,.sl (a.map Tm.enc),.sl (b.map Tm.enc)] (nB true):=by
 have ta:=ox a
 have tb:=ox b
 have la:(a.take 10).length≤10:=by rw[List.length_take];omega
 have lb:(b.take 10).length≤10:=by rw[List.length_take];omega
 generalize a.take 10=a' at ta la
 generalize b.take 10=b' at tb lb
 refine Rh ?_
 by_cases fa:vP a'=true
 ·rw[if_pos fa] at ta
  refine⟨_,_,_,ta,?_⟩
  by_cases fb:vP b'=true
  ·rw[if_pos fb] at tb
   refine⟨_,_,_,tb,ak.neg rfl (ak.neg rfl ⟨_,Cf (ps:=[p]) (by simp),ak.intro (fun h=>⟨_,dS,rfl⟩) fun h=>?_⟩)⟩
   have nT:=Pa.RD (p:=p) (by simpa using h)
   have LW:Tm.sizes p.l.args≤1000000:=nT.ok.sizes
   have small:∀{l:List Tm},l.length≤10→vP l=true→bH l:=fun {l} h1 h2=>⟨by omega,fun x hx=>by
    have:=Tm.fh (List.all_eq_true.1 h2 x hx);omega⟩
   have sa:=small la fa
   have sb:=small lb fb
   refine⟨_,_,_,_,_,_,_,_,_,G7 nT,_,yP LW (fun x hx=>Tm.Lq (OV hl hx)),_,vL LW,_,y7 nT.ok.acc,ak.neg rfl ⟨_,oW sa sb,_,B2 sa sb,ak.neg (by simp) ⟨_,oW sa sa,ak.neg (DY k a') ?_⟩⟩⟩
   refine au.intro (fun j:Nat=>((a'.map Tm.enc,a'.map Tm.enc,b'.map Tm.enc,b'.map Tm.enc,(j:Int),()),((p.l.binds.map Ty.enc,p.l.kind,p.l.index,p.l.args.map Tm.enc,p.r.binds.map Ty.enc,p.r.kind,p.r.index,p.r.args.map Tm.enc,p.ms.map Ty.enc,()),()))) (fun j=>j≤a'.length) (fun j=>a'.length-j) 0 rfl (Nat.zero_le _) ?_
   intro j hj again bB
   dsimp only
   refine ak.intro (fun h1=>ak.intro (fun h2=>?_) fun h2=>⟨_,dS,rfl⟩) fun h1=>⟨_,dS,rfl⟩
   have h3:j<a'.length:=by simpa using h1
   have h4:j<b'.length:=by simpa using h2
   have b1:(0:Int)≤j∧(j:Int)<((List.length (a'.map Tm.enc):Nat):Int):=⟨by omega,by rw[List.length_map];omega⟩
   have b2:(0:Int)≤j∧(j:Int)<((List.length (b'.map Tm.enc):Nat):Int):=⟨by omega,by rw[List.length_map];omega⟩
   have z:=sa.2 _ (List.getElem_mem h3)
   refine⟨b1.1,b1.2,_,_,_,_,Tm.aj h3,b2.1,b2.2,_,_,_,_,Tm.aj h4,_,gk (a:=a'[j]) (b:=b'[j]) z,b1.1,b1.2,_,_,_,_,Tm.aj h3,b2.1,b2.2,_,_,_,_,Tm.aj h4,_,nj (a:=a'[j]) (b:=b'[j]) z,ak.neg (by simp) ⟨b1.1,b1.2,_,_,_,_,Tm.aj h3,b1.1,b1.2,_,_,_,_,Tm.aj h3,_,gk (a:=a'[j]) (b:=a'[j]) z,ak.neg (DU _) ?_⟩⟩
   rw[aB (by omega)]
   exact bB (j+1) (by omega) (by omega)
  ·rw[if_neg fb] at tb
   exact⟨_,_,_,tb,ak.neg rfl (ak.pos rfl ⟨_,dS,rfl⟩)⟩
 ·rw[if_neg fa] at ta
  refine⟨_,_,_,ta,?_⟩
  by_cases fb:vP b'=true
  ·rw[if_pos fb] at tb
   exact⟨_,_,_,tb,ak.pos rfl ⟨_,dS,rfl⟩⟩
  ·rw[if_neg fb] at tb
   exact⟨_,_,_,tb,ak.pos rfl ⟨_,dS,rfl⟩⟩
end Go.Proofs.YtdcikhleahfknaaGreatDoor
