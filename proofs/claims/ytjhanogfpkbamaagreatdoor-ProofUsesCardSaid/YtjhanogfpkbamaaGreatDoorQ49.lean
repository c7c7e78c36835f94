/- Texts of ours laid together for a claim: P08 P1O P71 P72 P73 P74 P75 P09 P15 P78 P1A P1B P1C P1D P1E P1F P1V P1W P90 P91 P92 P93 P94 P96 P80 P97 P98 P1G P1H P1I P1J P1K P1L P1M P1N P1X. -/
import Derived.Lib.Strings
import Derived.Lib.ItoaLen
import Derived.Shelf.Small.Strs
import Derived.Lib.ItoaMem
import Derived.KernelRfl
import Derived.Test.YtjhanogfpkbamaaGreatDoorQ48
namespace Go.Proofs.YtjhanogfpkbamaaGreatDoor
open Go
set_option linter.unusedSimpArgs false
set_option linter.unusedVariables false
set_option maxRecDepth 100000
open Go Go.Shelf
theorem QF {l:List Int} {i:Int} {k:Nat} (h:k<l.length):(l.take (k+1)).contains i=((l.take k).contains i||(l[k]==i)):=by
 rw[←aH h,Bool.eq_iff_iff]
 simp only[List.contains_iff_mem,ai6,aiM,air,beq_iff_eq]
 exact or_congr Iff.rfl eq_comm
theorem uo {a b:List Ty} (ha:a.length≤1000000000) (hb:b.length≤1000000000):av Tryz.prog 70 [.sl (a.map Ty.enc),.sl (b.map Ty.enc)] (.sl ((a++b).map Ty.enc)):=
 RR ⟨kT Ty.Bg (by simp;omega) (by decide),rfl,kT Ty.Bg (by simp;omega) (by decide),rfl,by rw[aii]⟩
theorem Ib:∀(n:Nat) (t:Ty),t.size≤n→n≤1000000000→av Tryz.prog 113 [t.enc] t.enc:=by
 intro n
 induction n with
 |zero=>intro t h;have:=t.size_pos;omega
 |succ n ih=>
  intro t h hn
  have hq:=Ty.bA t.args
  have Lz:=t.size_eq
  rw[Ty.aF]
  refine Oy ⟨rfl,?_⟩
  refine aB.intro (fun k:Nat=>(((),(),(),(k:Int),()),((t.args.map Ty.enc,t.base,()),((),0,()),((),t.base,()),(t.args.take k).map Ty.enc,())))
   (fun k=>k≤t.args.length) (fun k=>t.args.length-k) 0 rfl (ah3 _) ?_
  intro k hk again bO
  dsimp only
  rw[ahX]
  refine ak.intro (fun h=>?_) fun h=>?_
  ·have ay:k<t.args.length:=by simpa using h
   have hi:=ih t.args[k] (by have:=Ty.fN ay;omega) (by omega)
   rw[Ty.aF] at hi
   refine⟨by omega,by omega,_,_,Ty.bh ay,_,_,hi,rfl,aJ rfl (by simp;omega) (by decide),rfl,?_⟩
   rw[aL (by omega),Ty.je,aH ay]
   exact bO (k+1) (by omega) (by omega)
  ·have:t.args.length≤k:=by simpa using h
   refine⟨rfl,?_⟩
   rw[ah9 this]
theorem Ic:∀(n:Nat) (t:Ty),t.size≤n→n≤1000000000→av Tryz.prog 109 [t.enc] t.enc:=by
 intro n
 induction n with
 |zero=>intro t h;have:=t.size_pos;omega
 |succ n ih=>
  intro t h hn
  have hq:=Ty.bA t.args
  have Lz:=t.size_eq
  rw[Ty.aF]
  refine OA ⟨rfl,?_⟩
  refine aB.intro (fun k:Nat=>(((),(),(),(k:Int),()),((t.args.map Ty.enc,t.base,()),((),0,()),((),t.base,()),(t.args.take k).map Ty.enc,())))
   (fun k=>k≤t.args.length) (fun k=>t.args.length-k) 0 rfl (ah3 _) ?_
  intro k hk again bO
  dsimp only
  rw[ahX]
  refine ak.intro (fun h=>?_) fun h=>?_
  ·have ay:k<t.args.length:=by simpa using h
   have hi:=ih t.args[k] (by have:=Ty.fN ay;omega) (by omega)
   rw[Ty.aF] at hi
   refine⟨by omega,by omega,_,_,Ty.bh ay,_,_,hi,rfl,aJ rfl (by simp;omega) (by decide),rfl,?_⟩
   rw[aL (by omega),Ty.je,aH ay]
   exact bO (k+1) (by omega) (by omega)
  ·have:t.args.length≤k:=by simpa using h
   refine⟨rfl,?_⟩
   rw[ah9 this]
theorem vW {l:List Ty} (h:Ty.sizes l≤1000000000):av Tryz.prog 77 [.sl (l.map Ty.enc)] (.sl (l.map Ty.enc)):=by
 have hq:=Ty.bA l
 refine RT ⟨rfl,?_⟩
 refine aB.intro (fun k:Nat=>((l.map Ty.enc,(),(k:Int),()),((l.take k).map Ty.enc,()))) (fun k=>k≤l.length) (fun k=>l.length-k) 0 rfl (ah3 _) ?_
 intro k hk again bO
 dsimp only
 rw[ahX]
 refine ak.intro (fun h=>?_) fun h=>?_
 ·have ay:k<l.length:=by simpa using h
  have hi:=Ib _ l[k] (ah5 _) (by have:=Ty.cN (ah1 ay);omega)
  rw[Ty.aF] at hi
  refine⟨by omega,by omega,_,_,Ty.bh ay,_,_,hi,rfl,aJ rfl (by simp;omega) (by decide),rfl,?_⟩
  rw[aL (by omega),Ty.je,aH ay]
  exact bO (k+1) (by omega) (by omega)
 ·have:l.length≤k:=by simpa using h
  refine⟨rfl,?_⟩
  rw[ah9 this]
theorem vX {l:List Ty} (h:Ty.sizes l≤1000000000):av Tryz.prog 67 [.sl (l.map Ty.enc)] (.sl (l.map Ty.enc)):=by
 have hq:=Ty.bA l
 refine RX ⟨rfl,?_⟩
 refine aB.intro (fun k:Nat=>((l.map Ty.enc,(),(k:Int),()),((l.take k).map Ty.enc,()))) (fun k=>k≤l.length) (fun k=>l.length-k) 0 rfl (ah3 _) ?_
 intro k hk again bO
 dsimp only
 rw[ahX]
 refine ak.intro (fun h=>?_) fun h=>?_
 ·have ay:k<l.length:=by simpa using h
  have hi:=Ic _ l[k] (ah5 _) (by have:=Ty.cN (ah1 ay);omega)
  rw[Ty.aF] at hi
  refine⟨by omega,by omega,_,_,Ty.bh ay,_,_,hi,rfl,aJ rfl (by simp;omega) (by decide),rfl,?_⟩
  rw[aL (by omega),Ty.je,aH ay]
  exact bO (k+1) (by omega) (by omega)
 ·have:l.length≤k:=by simpa using h
  refine⟨rfl,?_⟩
  rw[ah9 this]
theorem sH:∀(n:Nat) (t:Tm),t.size≤n→n≤1000000000→av Tryz.prog 76 [t.enc] t.enc:=by
 intro n
 induction n with
 |zero=>intro t h;have:=t.size_pos;omega
 |succ n ih=>
  intro t h hn
  have hq:=Tm.bA t.args
  have Lz:=t.size_eq
  rw[Tm.aF]
  refine RV ⟨_,vW (by omega),rfl,?_⟩
  refine aB.intro (fun k:Nat=>(((),(),(),(k:Int),()),((t.binds.map Ty.enc,t.kind,t.index,t.args.map Tm.enc,()),((),0,0,(),()),(t.binds.map Ty.enc,t.kind,t.index,(),()),(t.args.take k).map Tm.enc,())))
   (fun k=>k≤t.args.length) (fun k=>t.args.length-k) 0 rfl (ah3 _) ?_
  intro k hk again bO
  dsimp only
  rw[ahX]
  refine ak.intro (fun h=>?_) fun h=>?_
  ·have ay:k<t.args.length:=by simpa using h
   have hi:=ih t.args[k] (by have:=Tm.fN ay;omega) (by omega)
   rw[Tm.aF] at hi
   refine⟨by omega,by omega,_,_,_,_,Tm.bh ay,_,_,_,_,hi,rfl,aJ rfl (by simp;omega) (by decide),rfl,?_⟩
   rw[aL (by omega),Tm.je,aH ay]
   exact bO (k+1) (by omega) (by omega)
  ·have:t.args.length≤k:=by simpa using h
   refine⟨rfl,?_⟩
   rw[ah9 this]
theorem sI:∀(n:Nat) (t:Tm),t.size≤n→n≤1000000000→av Tryz.prog 66 [t.enc] t.enc:=by
 intro n
 induction n with
 |zero=>intro t h;have:=t.size_pos;omega
 |succ n ih=>
  intro t h hn
  have hq:=Tm.bA t.args
  have Lz:=t.size_eq
  rw[Tm.aF]
  refine R0 ⟨_,vX (by omega),rfl,?_⟩
  refine aB.intro (fun k:Nat=>(((),(),(),(k:Int),()),((t.binds.map Ty.enc,t.kind,t.index,t.args.map Tm.enc,()),((),0,0,(),()),(t.binds.map Ty.enc,t.kind,t.index,(),()),(t.args.take k).map Tm.enc,())))
   (fun k=>k≤t.args.length) (fun k=>t.args.length-k) 0 rfl (ah3 _) ?_
  intro k hk again bO
  dsimp only
  rw[ahX]
  refine ak.intro (fun h=>?_) fun h=>?_
  ·have ay:k<t.args.length:=by simpa using h
   have hi:=ih t.args[k] (by have:=Tm.fN ay;omega) (by omega)
   rw[Tm.aF] at hi
   refine⟨by omega,by omega,_,_,_,_,Tm.bh ay,_,_,_,_,hi,rfl,aJ rfl (by simp;omega) (by decide),rfl,?_⟩
   rw[aL (by omega),Tm.je,aH ay]
   exact bO (k+1) (by omega) (by omega)
  ·have:t.args.length≤k:=by simpa using h
   refine⟨rfl,?_⟩
   rw[ah9 this]
theorem FZ {l m:List Ty} (cJ:l.length≤1000000000) (DH:l.length=m.length) (hi:∀(k:Nat) (h1:k<l.length) (h2:k<m.length),av Tryz.prog 108 [l[k].enc,m[k].enc] (nB (Ty.same l[k] m[k]))):
  E9 ((l.map Ty.enc,m.map Ty.enc,0,()),()) (fun x=>x=nB (Ty.bU l m)):=by
 refine aB.intro (fun k:Nat=>((l.map Ty.enc,m.map Ty.enc,(k:Int),()),())) (fun k=>k≤l.length∧Ty.bU l m=Ty.bU (l.drop k) (m.drop k)) (fun k=>l.length-k) 0 rfl ⟨ah3 _,rfl⟩ ?_
 intro k ⟨hk,hs⟩ again bO
 dsimp only
 rw[ahX,ahX]
 refine ak.intro (fun h=>?_) fun h=>?_
 ·have ay:k<l.length:=by simpa using h
  rw[Ty.jE ay (by omega)] at hs
  have hi:=hi k ay (by omega)
  rw[Ty.aF,Ty.aF] at hi
  refine⟨by omega,by omega,_,_,Ty.bh ay,by omega,by omega,_,_,Ty.bh (by omega),_,hi,ak.intro (fun h=>?_) fun h=>?_⟩
  ·have:Ty.same l[k] m[k]=false:=by simpa using h
   rw[hs,this,aih]
  ·have he:Ty.same l[k] m[k]=true:=by simpa using h
   rw[he,aim] at hs
   rw[aL (by omega)]
   exact bO (k+1) ⟨by omega,hs⟩ (by omega)
 ·have:l.length≤k:=by simpa using h
  rw[ah8 this,ah8 (by omega)] at hs
  rw[hs];rfl
theorem vY:∀(n:Nat) (t u:Ty),t.size≤n→n≤1000000000→av Tryz.prog 108 [t.enc,u.enc] (nB (Ty.same t u)):=by
 intro n
 induction n with
 |zero=>intro t u h;have:=t.size_pos;omega
 |succ n ih=>
  intro t u h hn
  have hq:=Ty.bA t.args
  have Lz:=t.size_eq
  rw[Ty.aF,Ty.aF,Ty.ug]
  refine OC (ak.intro (fun h=>?_) fun h=>?_)
  ·have:(t.base==u.base)=false:=by simpa using h
   rw[this,aih]
  ·have hb:(t.base==u.base)=true:=by simpa using h
   rw[hb,aim]
   refine ak.intro (fun h=>?_) fun h=>?_
   ·rw[Ty.jF (by simp at h;omega)]
   ·have DH:t.args.length=u.args.length:=by simp at h;omega
    refine aB.intro (fun k:Nat=>(((),(),(k:Int),()),((t.args.map Ty.enc,t.base,()),(u.args.map Ty.enc,u.base,()),()))) (fun k=>k≤t.args.length∧Ty.bU t.args u.args=Ty.bU (t.args.drop k) (u.args.drop k)) (fun k=>t.args.length-k) 0 rfl ⟨ah3 _,rfl⟩ ?_
    intro k ⟨hk,hs⟩ again bO
    dsimp only
    rw[ahX,ahX]
    refine ak.intro (fun h=>?_) fun h=>?_
    ·have ay:k<t.args.length:=by simpa using h
     rw[Ty.jE ay (by omega)] at hs
     have hi:=ih t.args[k] (u.args[k]'(by omega)) (by have:=Ty.fN ay;omega) (by omega)
     rw[Ty.aF,Ty.aF] at hi
     refine⟨by omega,by omega,_,_,Ty.bh ay,by omega,by omega,_,_,Ty.bh (by omega),_,hi,ak.intro (fun h=>?_) fun h=>?_⟩
     ·have:Ty.same t.args[k] u.args[k]=false:=by simpa using h
      rw[hs,this,aih]
     ·have he:Ty.same t.args[k] u.args[k]=true:=by simpa using h
      rw[he,aim] at hs
      rw[aL (by omega)]
      exact bO (k+1) ⟨by omega,hs⟩ (by omega)
    ·have:t.args.length≤k:=by simpa using h
     rw[ah8 this,ah8 (by omega)] at hs
     rw[hs];rfl
theorem wY {l m:List Ty} (cJ:Ty.sizes l≤1000000000):av Tryz.prog 107 [.sl (l.map Ty.enc),.sl (m.map Ty.enc)] (nB (Ty.bU l m)):=by
 have hq:=Ty.bA l
 refine OD (ak.intro (fun h=>?_) fun h=>?_)
 ·rw[Ty.jF (by simp at h;omega)]
 ·exact FZ (by omega) (by simp at h;omega) fun k h1 h2=>vY _ _ _ (ah5 _) (by have:=Ty.cN (ah1 h1);omega)
mutual
def Tm.same:Tm→Tm→Bool
 | .mk b k i a,.mk b' k' i' a'=>(k==k'&&i==i')&&(Ty.bU b b'&&Tm.bU a a')
def Tm.bU:List Tm→List Tm→Bool
 | [],[]=>true
 |t::l,u::m=>Tm.same t u&&Tm.bU l m
 |_,_=>false
end
theorem Tm.ug (t u:Tm):Tm.same t u=((t.kind==u.kind&&t.index==u.index)&&(Ty.bU t.binds u.binds&&Tm.bU t.args u.args)):=by cases t;cases u;simp[Tm.same,Tm.kind,Tm.index,Tm.binds,Tm.args]
theorem Tm.jE {l m:List Tm} {k:Nat} (h1:k<l.length) (h2:k<m.length):Tm.bU (l.drop k) (m.drop k)=(Tm.same l[k] m[k]&&Tm.bU (l.drop (k+1)) (m.drop (k+1))):=by
 rw[ah6 h1,ah6 h2,Tm.bU]
theorem Tm.jF {l m:List Tm} (h:¬l.length=m.length):Tm.bU l m=false:=by
 induction l generalizing m with
 |nil=>cases m with
  |nil=>simp at h
  |cons u m=>rfl
 |cons t l ih=>cases m with
  |nil=>rfl
  |cons u m=>rw[Tm.bU,ih (by simpa using h),ai3]
mutual
theorem Tm.uh:∀(t u:Tm),Tm.same t u=true↔t=u
 | .mk b k i a,.mk b' k' i' a'=>by
  simp only[Tm.same,ahZ,beq_iff_eq,Tm.mk.injEq,Ty.jG,Tm.jG a a']
  constructor
  ·rintro⟨⟨h1,h2⟩,h3,h4⟩;exact⟨h3,h1,h2,h4⟩
  ·rintro⟨h3,h1,h2,h4⟩;exact⟨⟨h1,h2⟩,h3,h4⟩
theorem Tm.jG:∀(l m:List Tm),Tm.bU l m=true↔l=m
 | [],[]=>by simp[Tm.bU]
 | [],_::_=>by simp[Tm.bU]
 |_::_,[]=>by simp[Tm.bU]
 |t::l,u::m=>by simp only[Tm.bU,ahZ,List.cons.injEq,Tm.uh t u,Tm.jG l m]
end
theorem Tm.vl (t:Tm):Tm.same t t=true:=(Tm.uh t t).2 rfl
theorem qt:∀(n:Nat) (t u:Tm),t.size≤n→n≤1000000000→av Tryz.prog 64 [t.enc,u.enc] (nB (Tm.same t u)):=by
 intro n
 induction n with
 |zero=>intro t u h;have:=t.size_pos;omega
 |succ n ih=>
  intro t u h hn
  have hq:=Tm.bA t.args
  have Lz:=t.size_eq
  have hb:=wY (l:=t.binds) (m:=u.binds) (by omega)
  rw[Tm.aF,Tm.aF,Tm.ug]
  refine R2 (ak.intro (fun h=>?_) fun h=>?_)
  ·have:(t.kind==u.kind&&t.index==u.index)=false:=by rw[aiA] at h;exact h
   rw[this,aih]
  ·have hh:(t.kind==u.kind&&t.index==u.index)=true:=by rw[ajd] at h;exact h
   rw[hh,aim]
   refine ak.intro (fun h=>?_) fun h=>?_
   ·rw[Tm.jF (by simp at h;omega),ai3]
   ·have DH:t.args.length=u.args.length:=by simp at h;omega
    refine⟨_,hb,ak.intro (fun h=>?_) fun h=>?_⟩
    ·have:Ty.bU t.binds u.binds=false:=by simpa using h
     rw[this,aih]
    ·have QU:Ty.bU t.binds u.binds=true:=by simpa using h
     rw[QU,aim]
     refine aB.intro (fun k:Nat=>(((),(),(k:Int),()),((t.binds.map Ty.enc,t.kind,t.index,t.args.map Tm.enc,()),(u.binds.map Ty.enc,u.kind,u.index,u.args.map Tm.enc,()),()))) (fun k=>k≤t.args.length∧Tm.bU t.args u.args=Tm.bU (t.args.drop k) (u.args.drop k)) (fun k=>t.args.length-k) 0 rfl ⟨ah3 _,rfl⟩ ?_
     intro k ⟨hk,hs⟩ again bO
     dsimp only
     rw[ahX,ahX]
     refine ak.intro (fun h=>?_) fun h=>?_
     ·have ay:k<t.args.length:=by simpa using h
      rw[Tm.jE ay (by omega)] at hs
      have hi:=ih t.args[k] (u.args[k]'(by omega)) (by have:=Tm.fN ay;omega) (by omega)
      rw[Tm.aF,Tm.aF] at hi
      refine⟨by omega,by omega,_,_,_,_,Tm.bh ay,by omega,by omega,_,_,_,_,Tm.bh (by omega),_,hi,ak.intro (fun h=>?_) fun h=>?_⟩
      ·have:Tm.same t.args[k] u.args[k]=false:=by simpa using h
       rw[hs,this,aih]
      ·have he:Tm.same t.args[k] u.args[k]=true:=by simpa using h
       rw[he,aim] at hs
       rw[aL (by omega)]
       exact bO (k+1) ⟨by omega,hs⟩ (by omega)
     ·have:t.args.length≤k:=by simpa using h
      rw[ah8 this,ah8 (by omega)] at hs
      rw[hs];rfl
theorem qW:∀(n:Nat) (t u:Tm),t.size≤n→n≤500000000→av Tryz.prog 34 [.agg [.sl (t.binds.map Ty.enc),nI t.kind,nI t.index,.sl (t.args.map Tm.enc)],.agg [.sl (u.binds.map Ty.enc),nI u.kind,nI u.index,.sl (u.args.map Tm.enc)]] (nB (Tm.same t u)):=by
 intro n
 induction n with
 |zero=>intro t u h;have:=t.size_pos;omega
 |succ n ih=>
  intro t u h hn
  have hq:=Tm.bA t.args
  have Lz:=t.size_eq
  have hb:=oB (l:=t.binds) (m:=u.binds) (by have:=Ty.bA t.binds;omega) fun k h1 h2=>vT _ t.binds[k] u.binds[k] (ah5 _) (by have:=Ty.cN (ah1 h1);omega)
  rw[Tm.ug]
  have aI:av Tryz.prog 75 [.sl (t.args.map Tm.enc),.sl (u.args.map Tm.enc),.ck 34 []] (nB (Tm.bU t.args u.args)):=by
   refine Sa (ak.intro (fun h=>?_) fun h=>?_)
   ·rw[Tm.jF (by simp at h;omega)]
   ·have DH:t.args.length=u.args.length:=by simp at h;omega
    refine aB.intro (fun k:Nat=>((u.args.map Tm.enc,(),t.args.map Tm.enc,(t.args.length:Int),(k:Int),()),())) (fun k=>k≤t.args.length∧Tm.bU t.args u.args=Tm.bU (t.args.drop k) (u.args.drop k)) (fun k=>t.args.length-k) 0 (by rw[ahX];rfl) ⟨ah3 _,rfl⟩ ?_
    intro k ⟨hk,hs⟩ again bO
    dsimp only
    refine ak.intro (fun h=>?_) fun h=>?_
    ·have ay:k<t.args.length:=by simpa using h
     rw[Tm.jE ay (by omega)] at hs
     have hi:=ih t.args[k] (u.args[k]'(by omega)) (by have:=Tm.fN ay;omega) (by omega)
     refine⟨by omega,by rw[ahX];omega,_,_,_,_,Tm.bh ay,by omega,by rw[ahX];omega,_,_,_,_,Tm.bh (by omega),_,hi,ak.intro (fun h=>?_) fun h=>?_⟩
     ·have:Tm.same t.args[k] u.args[k]=false:=by simpa using h
      rw[hs,this,aih]
     ·have he:Tm.same t.args[k] u.args[k]=true:=by simpa using h
      rw[he,aim] at hs
      rw[aL (by omega)]
      exact bO (k+1) ⟨by omega,hs⟩ (by omega)
    ·have:t.args.length≤k:=by simpa using h
     rw[ah8 this,ah8 (by omega)] at hs
     rw[hs];rfl
  refine Sb (ak.intro (fun h=>⟨_,hb,ak.intro (fun h2=>⟨_,aI,?_⟩) fun h2=>?_⟩) fun h=>?_)
  ·rw[h,h2,aim,aim]
  ·rw[h,h2,aim,aih]
  ·rw[h,aih]
theorem nA {a b:Bool} (h:a=true↔b=true):nB a=nB b:=congrArg nB (Bool.eq_iff_iff.2 h)
def dj (c:Int):Bool:=decide (97≤c∧c≤122)||decide (65≤c∧c≤90)
def isDigit (c:Int):Bool:=decide (48≤c∧c≤57)
def dN (c:Int):Bool:=dj c||(isDigit c||(c==95||c==39))
def ia (c:Int):Bool:=c==32||(c==9||(c==10||(c==13||c==35)))
def aj (s:ByteArray):List Int:=s.data.toList.map fun b=>(b.toNat:Int)
theorem bI (s:ByteArray):(aj s).length=s.size:=by simp[aj]
theorem qu {s:ByteArray} {k:Nat} (h:k<(aj s).length):cq s (k:Int)=(aj s)[k]:=by
 have h2:k<s.data.size:=by rw[bI] at h;exact h
 unfold cq
 simp only[ajl,aj,ajL,Array.getElem_toList]
 rw[aiT h2];rfl
theorem uq (s:ByteArray):∀c∈aj s,0≤c∧c≤255:=by
 intro c hc
 simp only[aj,aiQ] at hc
 obtain⟨b,_,rfl⟩:=hc
 have:=b.toNat_lt
 omega
theorem iw {s t:ByteArray} (h:aj s=aj t):s=t:=by
 obtain⟨s⟩:=s;obtain⟨t⟩:=t
 congr 1
 apply ajm
 exact(List.map_inj_right (fun a b (hab:(a.toNat:Int)=b.toNat)=>UInt8.toNat_inj.1 (by omega))).1 h
theorem gF (a b:ByteArray):kC a b=decide (a=b):=by
 obtain⟨a⟩:=a;obtain⟨b⟩:=b
 simp only[kC]
 by_cases h:a=b
 ·subst h;simp
 ·have h1:¬(ByteArray.mk a=ByteArray.mk b):=fun e=>h (by injection e)
  rw[decide_eq_false h1,beq_eq_false_iff_ne]
  intro e
  apply h1
  have e1:=congrArg List.length e
  apply iw
  rw[Lib.toList_data,Lib.toList_data] at e
  exact congrArg (List.map fun b:UInt8=>(b.toNat:Int)) e
def isWord (s:ByteArray):Bool:=match aj s with
 | []=>false
 |c::l=>decide (l.length≤29)&&dj c&&l.all dN
theorem ur {c:Int}:av Tryz.prog 119 [.ah (.int .u8 c)] (nB (dj c)):=by
 refine OK ?_
 have two:ak (decide (c≥65)) (nB (decide (c≤90))=nB (decide (65≤c∧c≤90))) (nB false=nB (decide (65≤c∧c≤90))):=by
  refine ak.intro (fun h=>?_) fun h=>?_
  ·have h:c≥65:=by simpa using h
   exact nA (by simp;omega)
  ·have h:¬c≥65:=by simpa using h
   exact nA (by simp;omega)
 refine ak.intro (fun h=>ak.intro (fun h1=>?_) fun h1=>?_) fun h=>?_
 ·have h:c≥97:=by simpa using h
  have h1:c≤122:=by simpa using h1
  simp[dj];omega
 ·have h1:¬c≤122:=by simpa using h1
  have:dj c=decide (65≤c∧c≤90):=by unfold dj;rw[decide_eq_false (by omega),Bool.false_or]
  rw[this];exact two
 ·have h:¬c≥97:=by simpa using h
  have:dj c=decide (65≤c∧c≤90):=by unfold dj;rw[decide_eq_false (by omega),Bool.false_or]
  rw[this];exact two
theorem qv {c:Int}:av Tryz.prog 122 [.ah (.int .u8 c)] (nB (isDigit c)):=by
 refine OL (ak.intro (fun h=>?_) fun h=>?_)
 ·have h:c≥48:=by simpa using h
  exact nA (by simp[isDigit];omega)
 ·have h:¬c≥48:=by simpa using h
  exact nA (by simp[isDigit];omega)
theorem F4 {c:Int}:av Tryz.prog 121 [.ah (.int .u8 c)] (nB (dN c)):=by
 refine OM ⟨_,ur,ak.intro (fun h=>?_) fun h=>⟨_,qv,ak.intro (fun h1=>?_) fun h1=>ak.intro (fun h2=>?_) fun h2=>?_⟩⟩
 ·simp[dN,h]
 ·simp[dN,h,h1]
 ·simp[dN,h,h1,h2]
 ·simp[dN,h,h1,h2]
def runN (l:List Int):Nat:=(l.takeWhile dN).length
theorem vm (c:Int) (l:List Int):runN (c::l)=if dN c=true then runN l+1 else 0:=by
 unfold runN;rw[ajN];split<;>simp
theorem LF {s:ByteArray} (hs:s.size≤1000000000):av Tryz.prog 120 [nS s,.ck 121 []] (nI (runN (aj s):Nat)):=by
 refine OO ?_
 unfold Vn Fg
 have hl:=bI s
 refine aB.intro (fun k:Nat=>((s,(),(k:Int),()),())) (fun k=>k≤s.size∧runN (aj s)=k+runN ((aj s).drop k)) (fun k=>s.size-k) 0 rfl ⟨ah3 _,by simp⟩ ?_
 intro k ⟨hk,hm⟩ again bO
 dsimp only
 refine ak.intro (fun h=>?_) fun h=>?_
 ·have ay:k<s.size:=by simpa using h
  have uX:k<(aj s).length:=by omega
  rw[ah6 uX] at hm
  refine⟨⟨by omega,by omega⟩,_,F4,?_⟩
  rw[qu uX]
  refine ak.intro (fun h=>?_) fun h=>?_
  ·rw[aL (by omega)]
   refine bO (k+1) ⟨by omega,?_⟩ (by omega)
   rw[hm,vm,if_pos h];omega
  ·rw[hm,vm,if_neg (by rw[h];simp)];rfl
 ·have:s.size≤k:=by simpa using h
  rw[ah8 (by omega)] at hm
  rw[hm];simp[runN]
theorem uu {c:Int} (h:dj c=true):dN c=true:=by simp[dN,h]
section
def mg:Int×Int→List Int→Int×Int
 |m,[]=>m
 |m,c::l=>mg (if c==10 then(m.1+1,1) else(m.1,m.2+1)) l
theorem gy (s:ByteArray) (i j:Nat):aj (s.extract i j)=((aj s).drop i).take (j-i):=by
 simp only[aj,ByteArray.data_extract,Array.toList_extract,List.extract_eq_take_drop,List.map_take,List.map_drop]
abbrev Tk:=Int×ByteArray×Int
def cv (t:Tk):AV:=.agg [nI t.1,nS t.2.1,nI t.2.2]
theorem vZ {s:ByteArray} {c:Int} {l:List Int} (h:aj s=c::l):isWord s=true↔l.length≤29∧dj c=true∧l.all dN=true:=by
 simp only[isWord,h,ahZ,decide_eq_true_eq,and_assoc]
theorem Ug (l:List Int):runN l≤l.length:=by
 induction l with
 |nil=>simp[runN]
 |cons c l ih=>rw[vm,aif];split<;>omega
variable {s:ByteArray}
theorem Uh (l:List Tk) (t:Tk):l.map cv++[.agg [nI t.1,nS t.2.1,nI t.2.2]]=(l++[t]).map cv:=by simp[cv]
end
theorem Ie {w:ByteArray}:kC w (⟨#[]⟩:ByteArray)=decide (w.size=0):=by
 rw[gF]
 by_cases h:w.size=0
 ·rw[decide_eq_true h,decide_eq_true (iw (aio (by rw[bI];exact h)))]
 ·rw[decide_eq_false h,decide_eq_false (fun e=>h (by rw[e];rfl))]
theorem bsz (a b:ByteArray):(a++b).size=a.size+b.size:=ByteArray.size_append
theorem oD {c:UInt8}:(⟨#[c]⟩:ByteArray).size=1:=rfl
section
section
variable {P:Program} {w w':World} {F:Nat→Nat→Prop} {η:List Value} {hp:List af}
def af.Vu:af→Prop
 | .box _=>True
 | .dD _ _=>True
 | .cQ _=>True
 |_=>False
theorem vn {r0:AV} {q:Nat} {o o':af} {b:Nat} {v0:Value} {v:Value} (bS:Eb w F η hp) (hq:hp[q]?=some o) (hn:o.Vu) (Mz:o'.Vu) (hb:η[q]?=some v0) (rI:dK v0=some b)
  (hk:cD (fun k=>k=b) w w') (hs:w'.heap.size=w.heap.size)
  (xZ:Ext w F η hp w' (gJ F w η hp w' η (hp.set q o')) η (hp.set q o')→kV w' (gJ F w η hp w' η (hp.set q o')) η (hp.set q o') o' v0) (hrv:bw w F η hp r0 v):
  yC w F η hp w' η (hp.set q o') r0 v:=by
 have hl:o.live:=by cases o<;>first|exact True.intro|exact hn.elim
 have Ma:o'.live:=by cases o'<;>first|exact True.intro|exact Mz.elim
 have D9:q<hp.length:=(ahY.1 hq).1
 have F5:(hp.set q o')[q]?=some o':=by simp[ajk,D9]
 have aag:∀k,aQ η (hp.set q o') k↔aQ η hp k:=by
  intro k
  constructor
  ·intro ⟨r,x,u,e1,e2,e3,e4⟩
   by_cases hr:q=r
   ·subst hr;exact⟨q,_,u,hq,hl,e3,e4⟩
   ·rw[get_set_other hr] at e1;exact⟨r,x,u,e1,e2,e3,e4⟩
  ·intro ⟨r,x,u,e1,e2,e3,e4⟩
   by_cases hr:q=r
   ·subst hr;exact⟨q,_,u,F5,Ma,e3,e4⟩
   ·exact⟨r,x,u,by rw[get_set_other hr];exact e1,e2,e3,e4⟩
 have hbl:aQ η hp b:=⟨q,_,_,hq,hl,hb,rI⟩
 have noF:∀x,¬F b x:=by
  intro x hf
  obtain⟨p1,q1,q2⟩:=(aZ b x).1 (bS.bD b x hf).2 q _ hb rI
  rw[hq] at q1
  obtain rfl:=Option.some.inj q1
  cases o<;>first|exact q2|exact hn
 have aah:∀k x,mB η hp k x→mB η (hp.set q o') k x:=by
  intro k x hf
  refine(aZ k x).2 fun r u e1 e2=>?_
  obtain⟨p1,q1,q2⟩:=(aZ k x).1 hf r u e1 e2
  by_cases hr:q=r
  ·subst hr
   rw[hq] at q1
   obtain rfl:=Option.some.inj q1
   exact(show False by cases o<;>first|exact q2|exact hn).elim
  ·exact⟨p1,by rw[get_set_other hr];exact q1,q2⟩
 have pP:∀k,k<w.heap.size→k≠b→w'.heap[k]?=w.heap[k]?:=fun k h1 h2=>hk.block k h1 h2
 have bD:∀k x,F k x→gJ F w η hp w' η (hp.set q o') k x:=fun k x hf=>⟨.inl hf,by rw[hs];exact(bS.bD k x hf).1,aah k x (bS.bD k x hf).2⟩
 have fI:Ext w F η hp w' (gJ F w η hp w' η (hp.set q o')) η (hp.set q o'):=by
  refine⟨fun k x u hf hc=>?_,fun k es c hf hc=>?_,bD,fun r a h=>h,fun r a h=>h,fun r n u h=>?_⟩
  ·have bK:k≠b:=fun h=>noF x (h▸hf)
   simp only[World.cell?] at hc ⊢
   rw[pP k (bS.bD k x hf).1 bK];exact hc
  ·have bK:k≠b:=fun h=>noF 0 (h▸hf)
   rw[pP k (bS.bD k 0 hf).1 bK];exact hc
  ·unfold aY at h ⊢
   by_cases hr:q=r
   ·subst hr;rw[hq] at h;exact(show False by cases o<;>first|exact h|exact hn).elim
   ·rw[get_set_other hr];exact h
 refine⟨⟨hk.os,hk.tape,hk.output,hk.size,fun k h1 h3=>pP k h1 fun h=>h3 (h▸hbl)⟩,fI,⟨by rw[ajb];exact bS.heap.len,fun r x u e1 e2=>?_,fun r r' x x' u u' k bK e1 e2 l1 l2 e3 e4 e5=>?_⟩,fun k h=>.inr ((aag k).1 h),hrv.ext fI⟩
 ·by_cases fZ:q=r
  ·subst fZ
   rw[F5] at e1
   obtain rfl:=Option.some.inj e1
   rw[hb] at e2
   obtain rfl:=Option.some.inj e2
   exact xZ fI
  ·rw[get_set_other fZ] at e1
   by_cases AB:x.live
   ·refine(bS.heap.obj r x u e1 e2).ext fI hk.size fun k pJ QD=>pP k QD fun h=>?_
    subst h
    exact bS.heap.sep q r _ x _ u k fZ hq e1 hl AB hb e2 rI pJ
   ·cases x<;>first|exact True.intro|exact(AB True.intro).elim
 ·have look:∀{r:Nat} {x:af},(hp.set q o')[r]?=some x→x.live→∃p,hp[r]?=some p∧p.live:=by
   intro r x e l
   by_cases hr:q=r
   ·subst hr;exact⟨_,hq,hl⟩
   ·rw[get_set_other hr] at e;exact⟨x,e,l⟩
  obtain⟨p,e1',l1'⟩:=look e1 l1
  obtain⟨p',e2',l2'⟩:=look e2 l2
  exact bS.heap.sep r r' p p' u u' k bK e1' e2' l1' l2' e3 e4 e5
theorem LG {r0:AV} {q:Nat} {e size hi rJ g cap:Nat} {els:List AV} {cur:Array Value} {v:Value} (bS:Eb w F η hp) (hq:hp[q]?=some (.row e size els)) (eS:η[q]?=some (.slice (some ⟨g,0,none⟩) els.length cap)) (DL:0<cap)
  (hg:w.heap[g]?=some (.cells cur e (0,hi))) (DF:w'.heap[g]?=some (.cells cur e (0,rJ))) (hh:rJ≤els.length*size)
  (hs:w'.os=w.os∧w'.tape=w.tape∧w'.output=w.output∧w'.heap.size=w.heap.size) (hk:∀k,k≠g→w'.heap[k]?=w.heap[k]?) (hrv:bw w F η hp r0 v):
  yC w F η hp w' η hp r0 v:=by
 have aN:∀b o,w'.cell? ⟨b,o,none⟩=w.cell? ⟨b,o,none⟩:=by
  intro b o
  by_cases hb:b=g
  ·subst hb;simp only[World.cell?,hg,DF]
  ·simp only[World.cell?,hk b hb]
 have Wt:aQ η hp g:=⟨q,_,_,hq,True.intro,eS,ct DL⟩
 have fI:Ext w F η hp w' (gJ F w η hp w' η hp) η hp:=by
  refine⟨fun k x u hf hc=>by rw[aN];exact hc,fun k es c hf hc=>?_,fun k x hf=>⟨.inl hf,by rw[hs.2.2.2];exact(bS.bD k x hf).1,(bS.bD k x hf).2⟩,fun r a h=>h,fun r a h=>h,fun r n u h=>h⟩
  have:k≠g:=fun e=>by rw[e] at hc;rw[hc] at hg;cases hg
  rw[hk k this];exact hc
 refine⟨⟨hs.1,hs.2.1,hs.2.2.1,by rw[hs.2.2.2];exact ah5 _,fun k _ h3=>hk k fun h=>h3 (h▸Wt)⟩,fI,⟨bS.heap.len,fun r x u e1 e2=>?_,bS.heap.sep⟩,fun k h=>.inr h,hrv.ext fI⟩
 by_cases hr:q=r
 ·subst hr
  rw[hq] at e1
  obtain rfl:=Option.some.inj e1
  rw[eS] at e2
  obtain rfl:=Option.some.inj e2
  obtain⟨hz,xs,⟨hl,h1⟩,eC⟩:=bS.heap.obj q _ _ hq eS
  refine⟨hz,xs,⟨hl,?_⟩,fun i el hi=>⟨(eC i el hi).1,fun j y hj=>let ⟨v1,q1,q2,q3⟩:=(eC i el hi).2 j y hj;⟨v1,q1,q2.ext fI.pN.ext,q3⟩⟩⟩
  rcases h1 with⟨h1,h2|⟨ad,h2⟩⟩|⟨g1,agB,agC,h2,h3,⟨_,_,h4⟩,h5⟩
  ·cases h2
  ·simp only[Value.slice.injEq] at h2;omega
  ·simp only[Value.slice.injEq,Option.some.injEq,Addr.mk.injEq,and_true] at h2
   obtain⟨rfl,_,rfl⟩:=h2
   rw[hg] at h4
   simp only[Option.some.injEq,Obj.cells.injEq] at h4
   obtain⟨rfl,_,_⟩:=h4
   exact .inr ⟨g,cap,cur,rfl,DL,⟨rJ,hh,DF⟩,h5⟩
 ·by_cases AB:x.live
  ·refine(bS.heap.obj r x u e1 e2).ext fI (by rw[hs.2.2.2];exact ah5 _) fun k pJ QD=>hk k fun h=>?_
   subst h
   exact bS.heap.sep q r _ x _ u k hr hq e1 True.intro AB eS e2 (ct DL) pJ
  ·cases x<;>first|exact True.intro|exact(AB True.intro).elim
theorem zp {r0:AV} {v:Value} (bS:Eb w F η hp) (hk:cD (aQ η hp) w w') (hc:∀b o u,F b o→w.cell? ⟨b,o,none⟩=some u→w'.cell? ⟨b,o,none⟩=some u) (hm:∀b es c,F b 0→w.heap[b]?=some (.map es c)→w'.heap[b]?=some (.map es c)) {hp':List af} (hl:hp'.length=hp.length) (hd:∀(r:Nat) (o:af),hp'[r]?=some o→o=.dead)
  (hrv:∀F',bw w' F' η hp' r0 v):yC w F η hp w' η hp' r0 v:=by
 refine⟨hk,⟨hc,hm,fun k o hf=>⟨.inl hf,aiD (bS.bD k o hf).1 hk.size,fun r u e1 e2=>?_⟩,fun r a h=>h,fun r a h=>h,fun r n u h=>?_⟩,⟨by rw[hl];exact bS.heap.len,fun r x u e1 e2=>?_,fun r r' x x' u u' k bK e1 e2 l1 l2=>?_⟩,fun k h=>?_,hrv _⟩
 ·have hr:r<hp'.length:=by rw[hl,←bS.heap.len];exact(ahY.1 e1).1
  obtain⟨x,hx⟩:∃x,hp'[r]?=some x:=⟨_,ah2 hr⟩
  rw[hx,hd r x hx];exact True.intro
 ·have hr:r<hp'.length:=by
   unfold aY at h
   rw[hl]
   rcases ajP r hp.length with h1|h1
   ·exact h1
   ·rw[aiG h1] at h;exact h.elim
  obtain⟨x,hx⟩:∃x,hp'[r]?=some x:=⟨_,ah2 hr⟩
  unfold aY
  rw[hx,hd r x hx];exact True.intro
 ·rw[hd r x e1];exact True.intro
 ·rw[hd r x e1] at l1;exact l1.elim
 ·obtain⟨r,x,u,e1,e2,_⟩:=h
  rw[hd r x e1] at e2;exact e2.elim
end
theorem C0 {w:World} {F:Nat→Nat→Prop} {η:List Value} {hp:List af} {r o:Nat} {v:Value} (h:bw w F η hp (.ptr r o) v):∃b,v=.pointer (some ⟨b,o,none⟩)∧η[r]?=some (.pointer (some ⟨b,0,none⟩)):=by
 cases h with|ptr _ _ b h1=>exact⟨b,rfl,h1⟩
theorem o9 {us:List AV} {n:Nat}:cG Tryz.prog 82 [.ptr 0 0] [.dD 1 n,.row 5 1 us] (fun r hp'=>r=.aX []∧hp'=[.dD 1 n,.row 5 1 us]):=by
 refine⟨⟨_,Tryz.func82,by kernel_rfl,by kernel_rfl⟩,fun w F η bB bS hv=>?_⟩
 match bB,hv with
 | [v0],⟨r0,_⟩=>
  obtain⟨b,rfl,h0⟩:=C0 r0
  obtain⟨b',vs,e1,h1,h2,h3,u,h4,h5⟩:=bS.heap.obj 0 _ _ rfl h0
  cases e1
  have c0:∀x,vs[0]?=some x→w.cell? ⟨b,0,none⟩=some x:=fun x hx=>by simp only[World.cell?,h1];exact hx
  rcases h3 with h3|h3
  ·refine callsIn_wide.2 ((Any.Builder_copyCheck_fresh OP HX b w (c0 _ h3) (by simp only[World.shape?,h1,h2.1];rfl) (by simp[World.frozen?,h1])).mono ?_)
   rintro e w' ⟨rfl,rfl⟩
   have g1:=heap_setCell_same w b 0 _ xX (.pointer (some ⟨b,0,none⟩)) h1
   exact⟨_,.aX [],[.dD 1 n,.row 5 1 us],η,rfl,⟨rfl,rfl⟩,vn (q:=0) (b:=b) (o':=.dD 1 n) bS rfl True.intro True.intro h0 rfl ⟨rfl,rfl,rfl,by simp,fun k _ hk=>heap_setCell_other _ _ _ _ hk⟩ (by simp)
    (fun fI=>⟨b,_,rfl,g1,⟨by simp[h2.1],fun e=>by rw[ajo (by omega)];exact h2.2 e⟩,.inr (by simp[h2.1]),u,by rw[ajo (by omega)];exact h4,h5.ext fI⟩) (.aX [] #[] rfl fun j y u hy _=>by cases hy)⟩
  ·refine callsIn_wide.2 ((Any.Builder_copyCheck_used OP HX b w (c0 _ h3)).mono ?_)
   rintro e w' ⟨rfl,rfl⟩
   exact⟨_,.aX [],[.dD 1 n,.row 5 1 us],η,rfl,⟨rfl,rfl⟩,vn (q:=0) (b:=b) (o':=.dD 1 n) bS rfl True.intro True.intro h0 rfl ⟨rfl,rfl,rfl,ah5 _,fun _ _ _=>rfl⟩ rfl
    (fun fI=>⟨b,_,rfl,h1,h2,.inr h3,u,h4,h5.ext fI⟩) (.aX [] #[] rfl fun j y u hy _=>by cases hy)⟩
theorem uw {us:List AV} {s:ByteArray} (h:us.length+s.size≤140737488355328) (bK:s.size≠0):cG Tryz.prog 80 [.ptr 0 0,nS s] [.dD 1 us.length,.row 5 1 us]
  (fun r hp'=>r=.aX [nI s.size,.ah (.nilIface)]∧hp'=[.dD 1 (us++bg s).length,.row 5 1 (us++bg s)]):=
 Sc ⟨_,o9,fun r q ⟨h1,h2⟩=>⟨us,⟨h1,h2⟩,rfl,h,by rw[ah0,dS];omega,rfl,rfl⟩⟩
theorem Ui:Builder.Extra Tryz.prog Ba:={ HX with t5:=Tryz.underlying5,a5:=Tryz.isAgg5,z5:=Tryz.sizeOf5,v5:=Tryz.zeroValue5,infoByte:=by kernel_rfl,cellsByte:=by kernel_rfl,sizeByte:=by kernel_rfl,neB5:=by decide }
set_option maxHeartbeats 1000000 in
set_option maxRecDepth 100000 in
theorem Bi {P:Program} {ρ:Ren} (L:Lays.n169 P ρ) (X:Builder.Extra P ρ) {b g cap hi:Nat} {cur vs:Array Value} {l:List UInt8} {w:World} (rI:w.heap[b]?=some (.cells vs (ρ.t 72) (0,0)))
  (hvs:vs[1]?=some (.slice (some ⟨g,0,none⟩) l.length cap)) (hg:w.heap[g]?=some (.cells cur (ρ.t 5) (0,hi))) (DM:l.length≤cap) (IK:cap≤maxLen) (iK:cur.size=cap*1) (lU:cur.toList.take (l.length*1)=Lib.byteCells l) (h0:l≠[]):
  Calls P (ρ.f 169) #[.pointer (some ⟨b,0,none⟩)] w fun e w'=>e=.returned (.string ⟨l.toArray⟩)∧w'=w.drew.freeze ⟨g,0,none⟩ l.length:=by
 have Qv:l.length≠0:=by simpa using h0
 have c1:w.drew.cell? ⟨b,1,none⟩=some (.slice (some ⟨g,0,none⟩) l.length cap):=by
  have:w.drew.heap[b]?=some (.cells vs (ρ.t 72) (0,0)):=rI
  rw[Lib.cell_of_heap this];exact hvs
 have hSD:(Builtin.unsafeSliceData_ #[(ρ.t 37)] (ρ.t 127) #[.slice (some ⟨g,0,none⟩) l.length cap]).run P w.drew=.ok (.pointer (some ⟨g,0,none⟩)) w.drew:=
  Lib.run_unsafeSliceData_row _ _ _ _ _ _ (by omega)
 have hUS:(Builtin.unsafeString_ #[(ρ.t 127),(ρ.t 3)] (ρ.t 9) #[.pointer (some ⟨g,0,none⟩),.int .i64 l.length]).run P w.drew=.ok (.string ⟨l.toArray⟩) (w.drew.freeze ⟨g,0,none⟩ l.length):=by
  refine Lib.run_unsafeString_row w.drew (ρ.t 127) (ρ.t 3) (ρ.t 9) (ρ.t 5) L.t127 X.cellsByte g cur.size (by have DF:w.drew.heap[g]?=some (.cells cur (ρ.t 5) (0,hi)):=hg;simp[World.shape?,DF]) l h0 (by omega) (by unfold maxLen at IK;omega) ?_
  intro j x hx
  have hj:j<l.length:=(ahY.1 hx).1
  have e1:(cur.toList.take (l.length*1))[j]?=some (.int .u8 x.toNat):=by rw[lU];simp[Lib.byteCells,hx]
  rw[List.getElem?_take_of_lt (by omega)] at e1
  have DF:w.drew.heap[g]?=some (.cells cur (ρ.t 5) (0,hi)):=hg
  rw[Addr.add_lit,Lib.cell_of_heap DF]
  simpa using e1
 have mixed:=L.mixed
 have t72:=L.t72;have a72:=L.a72;have z72:=L.z72;have v72:=L.v72;have u72:=run_underlying L.t72
 have t70:=L.t70;have a70:=L.a70;have z70:=L.z70;have v70:=L.v70;have u70:=run_underlying L.t70
 have t37:=L.t37;have a37:=L.a37;have z37:=L.z37;have v37:=L.v37;have u37:=run_underlying L.t37
 have t127:=L.t127;have a127:=L.a127;have z127:=L.z127;have v127:=L.v127;have ad2:=run_underlying L.t127
 have t3:=L.t3;have a3:=L.a3;have z3:=L.z3;have v3:=L.v3;have u3:=run_underlying L.t3
 have t9:=L.t9;have a9:=L.a9;have z9:=L.z9;have v9:=L.v9;have u9:=run_underlying L.t9
 have t5:=X.t5;have a5:=X.a5;have z5:=X.z5;have v5:=X.v5;have u5:=run_underlying X.t5
 go_enter L.f169,Body.n169_ntmps ρ
 go_wp2
 go_region_o
 all_goals (go_wp2;go_ret;exact⟨rfl,rfl⟩)
set_option maxHeartbeats 2000000 in
set_option maxRecDepth 100000 in
theorem zq {P:Program} {ρ:Ren} (L:Lays.n169 P ρ) (X:Builder.Extra P ρ) {b:Nat} {vs:Array Value} {w:World} (rI:w.heap[b]?=some (.cells vs (ρ.t 72) (0,0))) (hvs:vs[1]?=some (.slice none 0 0)):
  Calls P (ρ.f 169) #[.pointer (some ⟨b,0,none⟩)] w fun e w'=>e=.returned (.string ⟨#[]⟩)∧w'=w.drew:=by
 have hUS:=Any.unsafeString_none L X
 have c1:w.drew.cell? ⟨b,1,none⟩=some (.slice none 0 0):=by
  have:w.drew.heap[b]?=some (.cells vs (ρ.t 72) (0,0)):=rI
  rw[Lib.cell_of_heap this];exact hvs
 have hSD:(Builtin.unsafeSliceData_ #[(ρ.t 37)] (ρ.t 127) #[.slice none 0 0]).run P w.drew=.ok (.pointer none) w.drew:=rfl
 have mixed:=L.mixed
 have t72:=L.t72;have a72:=L.a72;have z72:=L.z72;have v72:=L.v72;have u72:=run_underlying L.t72
 have t70:=L.t70;have a70:=L.a70;have z70:=L.z70;have v70:=L.v70;have u70:=run_underlying L.t70
 have t37:=L.t37;have a37:=L.a37;have z37:=L.z37;have v37:=L.v37;have u37:=run_underlying L.t37
 have t127:=L.t127;have a127:=L.a127;have z127:=L.z127;have v127:=L.v127;have ad2:=run_underlying L.t127
 have t3:=L.t3;have a3:=L.a3;have z3:=L.z3;have v3:=L.v3;have u3:=run_underlying L.t3
 have t9:=L.t9;have a9:=L.a9;have z9:=L.z9;have v9:=L.v9;have u9:=run_underlying L.t9
 have t5:=X.t5;have a5:=X.a5;have z5:=X.z5;have v5:=X.v5;have u5:=run_underlying X.t5
 go_enter L.f169,Body.n169_ntmps ρ
 go_wp2
 go_region_o
 all_goals (go_wp2;go_ret;exact⟨rfl,rfl⟩)
theorem mh {w:World} {g n k:Nat} (h:k≠g):(w.freeze ⟨g,0,none⟩ n).heap[k]?=w.heap[k]?:=by
 unfold World.freeze
 split
 ·rfl
 ·simp only[Array.getElem?_modify];rw[if_neg (ajz h)]
theorem F6 {w:World} {g n b o:Nat} {cur:Array Value} {T:TypeId} {z:Nat×Nat} (hg:w.heap[g]?=some (.cells cur T z)):(w.freeze ⟨g,0,none⟩ n).cell? ⟨b,o,none⟩=w.cell? ⟨b,o,none⟩:=by
 by_cases h:b=g
 ·subst h
  unfold World.freeze
  split
  ·rfl
  ·simp[World.cell?,Array.getElem?_modify,hg]
 ·simp only[World.cell?,mh h]
theorem Ig {w:World} {g n hi:Nat} {cur:Array Value} {T:TypeId} (hg:w.heap[g]?=some (.cells cur T (0,hi))) (hn:n≠0) (h:hi≤n):(w.freeze ⟨g,0,none⟩ n).heap[g]?=some (.cells cur T (0,n)):=by
 unfold World.freeze
 rw[if_neg hn]
 simp only[Array.getElem?_modify,if_true,hg,aiv]
 congr 2
 by_cases h0:hi=0
 ·subst h0;simp
 ·have:(0==hi)=false:=by simp;omega
  rw[this]
  simp;omega
theorem v7 (w:World) (a:Addr) (n:Nat):(w.freeze a n).os=w.os∧(w.freeze a n).tape=w.tape∧(w.freeze a n).output=w.output∧(w.freeze a n).heap.size=w.heap.size:=by
 unfold World.freeze
 split
 ·exact⟨rfl,rfl,rfl,rfl⟩
 ·exact⟨rfl,rfl,rfl,by simp⟩
theorem KB {P:Program} {w:World} {F:Nat→Nat→Prop} {η:List Value} {hp:List af} {q:Nat} {s:ByteArray} {u:Value} (bS:Eb w F η hp) (hq:hp[q]?=some (.row 5 1 (bg s))) (eS:η[q]?=some u) (h:s.size≠0):
  s.data.toList≠[]∧(bg s).length=s.data.toList.length∧∃g cap cur hi,u=.slice (some ⟨g,0,none⟩) (bg s).length cap∧0<cap∧hi≤(bg s).length∧w.heap[g]?=some (.cells cur 5 (0,hi))∧(bg s).length≤cap∧cap≤maxLen∧cur.size=cap*1∧cur.toList.take ((bg s).length*1)=Lib.byteCells s.data.toList:=by
 obtain⟨_,xs,⟨g0,g1⟩,g2⟩:=bS.heap.obj q _ _ hq eS
 have hlen:(bg s).length=s.data.toList.length:=by unfold bg;exact ahX _
 have VI:xs=Lib.byteCells s.data.toList:=by
  refine aiO fun i=>?_
  cases hs:s.data.toList[i]? with
  |none=>
   have:s.data.toList.length≤i:=List.getElem?_eq_none_iff.1 hs
   rw[aiG (by rw[g0,hlen];omega),aiG (by rw[Lib.byteCells_length];exact this)]
  |some c=>
   obtain⟨u,k1,k2,_⟩:=(g2 i (.ah (.int .u8 c.toNat)) (by simp[bg,hs])).2 0 _ rfl
   have k3:xs[i]?=some u:=by simpa using k1
   rw[k3]
   cases k2
   simp[Lib.byteCells,hs]
 have bK:s.data.toList≠[]:=fun e=>h (by rw[←dS,hlen,e];rfl)
 rcases g1 with⟨g1,_⟩|⟨g,cap,cur,rfl,k0,⟨hi,kh,k1⟩,k2,k3,k4,k5⟩
 ·exact(h (by rw[←dS];exact g1)).elim
 ·exact⟨bK,hlen,g,cap,cur,hi,rfl,k0,by omega,k1,k2,k3,k4,by rw[k5];exact VI⟩
theorem Uj {s:ByteArray}:cG Tryz.prog 42 [.ptr 0 0] [.dD 1 (bg s).length,.row 5 1 (bg s)] (fun r hp'=>r=nS s∧hp'=[.dead,.dead]):=by
 refine⟨⟨_,Tryz.func42,by kernel_rfl,by kernel_rfl⟩,fun w F η bB bS hv=>?_⟩
 match bB,hv with
 | [v0],⟨r0,_⟩=>
  obtain⟨b,rfl,h0⟩:=C0 r0
  obtain⟨b',vs,e1,h1,h2,h3,u,h4,h5⟩:=bS.heap.obj 0 _ _ rfl h0
  cases e1
  by_cases h:s.size=0
  ·have hz:bg s=[]:=aio (by rw[dS];exact h)
   have hs:s=⟨#[]⟩:=by
    obtain⟨d⟩:=s
    have:d.size=0:=h
    rw[ajI this]
   refine callsIn_wide.2 ((zq Ck Ui (b:=b) h1 (h2.2 (by rw[hz];rfl))).mono ?_)
   rintro e w' ⟨rfl,rfl⟩
   refine⟨_,nS s,[.dead,.dead],η,rfl,⟨rfl,rfl⟩,zp (w':=w.drew) (hp':=[.dead,.dead]) bS ⟨rfl,rfl,rfl,ah5 _,fun _ _ _=>rfl⟩ (fun _ _ _ _ hc=>hc) (fun _ _ _ _ hc=>hc) rfl (fun r o e=>?_) fun F'=>by rw[hs];exact .ah (.string ⟨#[]⟩)⟩
   match r,e with
   |0,e=>exact(Option.some.inj e).symm
   |1,e=>exact(Option.some.inj e).symm
  have h6:η[1]?=some u:=by cases h5 with|own _ _ _ _ ho=>exact ho.2 rfl
  obtain⟨bK,hlen,g,cap,cur,hi,rfl,k0,kh,k1,k2,k3,k4,k5⟩:=KB (P:=Tryz.prog) (q:=1) bS rfl h6 h
  rw[hlen] at h4 k2 k5 h6
  refine callsIn_wide.2 ((Bi Ck Ui (b:=b) (g:=g) (cap:=cap) (cur:=cur) (l:=s.data.toList) h1 h4 k1 k2 k3 k4 k5 bK).mono ?_)
  rintro e w' ⟨rfl,rfl⟩
  have Wt:aQ η [.dD 1 (bg s).length,.row 5 1 (bg s)] g:=⟨1,_,_,rfl,True.intro,h6,ct k0⟩
  obtain⟨f1,f2,f3,f4⟩:=v7 w.drew ⟨g,0,none⟩ s.data.toList.length
  refine⟨_,nS s,[.dead,.dead],η,rfl,⟨rfl,rfl⟩,zp bS ⟨f1,f2,f3,by rw[f4];exact ah5 _,fun k _ hk=>?_⟩ (fun b o u _ hc=>?_) (fun b es c _ hc=>?_) rfl (fun r o e=>?_) fun F'=>?_⟩
  ·exact mh (w:=w.drew) fun e=>hk (e▸Wt)
  ·rw[F6 (w:=w.drew) (cur:=cur) k1];exact hc
  ·have:b≠g:=fun e=>by rw[e] at hc;rw[hc] at k1;cases k1
   rw[mh (w:=w.drew) this];exact hc
  ·match r,e with
   |0,e=>exact(Option.some.inj e).symm
   |1,e=>exact(Option.some.inj e).symm
  ·exact .ah _
theorem v8 {s:ByteArray}:cG Tryz.prog 42 [.ptr 0 0] [.dD 1 (bg s).length,.row 5 1 (bg s)] (fun r hp'=>r=nS s∧hp'=[.dD 1 (bg s).length,.row 5 1 (bg s)]):=by
 refine⟨⟨_,Tryz.func42,by kernel_rfl,by kernel_rfl⟩,fun w F η bB bS hv=>?_⟩
 match bB,hv with
 | [v0],⟨r0,_⟩=>
  obtain⟨b,rfl,h0⟩:=C0 r0
  obtain⟨b',vs,e1,h1,h2,h3,u,h4,h5⟩:=bS.heap.obj 0 _ _ rfl h0
  cases e1
  by_cases h:s.size=0
  ·have hz:bg s=[]:=aio (by rw[dS];exact h)
   have hs:s=⟨#[]⟩:=by
    obtain⟨d⟩:=s
    have:d.size=0:=h
    rw[ajI this]
   refine callsIn_wide.2 ((zq Ck Ui (b:=b) h1 (h2.2 (by rw[hz];rfl))).mono ?_)
   rintro e w' ⟨rfl,rfl⟩
   refine⟨_,nS s,[.dD 1 (bg s).length,.row 5 1 (bg s)],η,rfl,⟨rfl,rfl⟩,vn (w':=w.drew) (q:=0) (b:=b) (o':=.dD 1 (bg s).length) bS rfl True.intro True.intro h0 rfl ⟨rfl,rfl,rfl,ah5 _,fun _ _ _=>rfl⟩ rfl
    (fun fI=>⟨b,_,rfl,h1,h2,h3,u,h4,h5.ext fI⟩) (by rw[hs];exact .ah (.string ⟨#[]⟩))⟩
  have h6:η[1]?=some u:=by cases h5 with|own _ _ _ _ ho=>exact ho.2 rfl
  obtain⟨bK,hlen,g,cap,cur,hi,rfl,k0,kh,k1,k2,k3,k4,k5⟩:=KB (P:=Tryz.prog) (q:=1) bS rfl h6 h
  have h4':=h4
  have k5':=k5
  rw[hlen] at h4' k5'
  refine callsIn_wide.2 ((Bi Ck Ui (b:=b) (g:=g) (cap:=cap) (cur:=cur) (l:=s.data.toList) h1 h4' k1 (hlen▸k2) k3 k4 k5' bK).mono ?_)
  rintro e w' ⟨rfl,rfl⟩
  obtain⟨f1,f2,f3,f4⟩:=v7 w.drew ⟨g,0,none⟩ s.data.toList.length
  have hbg:b≠g:=fun e=>bS.heap.sep 0 1 _ _ _ _ g (by decide) rfl rfl True.intro True.intro h0 h6 (by rw[e];rfl) (ct k0)
  exact⟨_,nS s,_,η,rfl,⟨rfl,rfl⟩,LG (q:=1) bS rfl h6 k0 k1 (Ig (w:=w.drew) k1 (by rw[←hlen,dS];exact h) (hlen▸kh)) (by rw[hlen];omega) ⟨f1,f2,f3,f4⟩ (fun k hk=>mh (w:=w.drew) hk) (.ah _)⟩
end
theorem qX (a b:ByteArray):bg (a++b)=bg a++bg b:=by
 unfold bg
 rw[ByteArray.data_append,Array.toList_append,aii]
abbrev bl (us:List AV):List af:=[.dD 1 us.length,.row 5 1 us]
theorem W2 {n:Int}:ef (.aX [nI n,.ah .nilIface]) (.aX [nI n,.top]):=fun w F η hp v h=>by
 cases h with
 |aX cs vs hl hr=>
  refine .aX _ vs hl fun j x u hx hu=>?_
  match j,hx with
  |0,hx=>exact hr 0 x u hx hu
  |1,hx=>cases hx;exact .top _
theorem F7 {us:List AV} {s:ByteArray} (bK:s.size≠0) (h:us.length+s.size≤140737488355328):cG Tryz.prog 80 [.ptr 0 0,nS s] (bl us)
  (fun r hp'=>r=.aX [nI s.size,.top]∧hp'=bl (us++bg s)):=
 (uw h bK).res fun r h' ⟨h1,h2⟩=>⟨_,h1▸W2,rfl,h2⟩
def shown (ok:Bool) (s:ByteArray):AV:=.aX [nS (if ok then s else(⟨#[]⟩:ByteArray)),nI (if ok then 0 else 1)]
mutual
def Ty.jg (most:Nat):Nat→Ty→Nat
 |d,.mk l _=>(match d with
  |0=>most+1
  |d+1=>Ty.gY most d 1 l)
def Ty.gY (most:Nat):Nat→Nat→List Ty→Nat
 |_,n,[]=>n
 |d,n,t::l=>if n≤most then Ty.gY most d (n+Ty.jg most d t) l else n
end
theorem Ty.jh (most:Nat) (t:Ty):Ty.jg most 0 t=most+1:=by cases t;rfl
theorem Ty.ji (most d:Nat) (t:Ty):Ty.jg most (d+1) t=Ty.gY most d 1 t.args:=by cases t;rfl
theorem Ty.vo {most d n:Nat} {l:List Ty} {k:Nat} (h:k<l.length):Ty.gY most d n (l.drop k)=if n≤most then Ty.gY most d (n+Ty.jg most d l[k]) (l.drop (k+1)) else n:=by
 rw[ah6 h,Ty.gY]
theorem Ty.ux {most d:Nat} (h:∀t:Ty,Ty.jg most d t≤(d+1)*(most+1)):∀(l:List Ty) (n:Nat),n≤(d+2)*(most+1)→Ty.gY most d n l≤(d+2)*(most+1)
 | [],n,hn=>hn
 |t::l,n,hn=>by
  rw[Ty.gY]
  split
  ·refine Ty.ux h l _ ?_
   have:=h t
   have e:(d+2)*(most+1)=(d+1)*(most+1)+(most+1):=by rw[aiV,aiV];omega
   omega
  ·exact hn
theorem Ty.zu (most:Nat):∀(d:Nat) (t:Ty),Ty.jg most d t≤(d+1)*(most+1)
 |0,t=>by rw[Ty.jh];omega
 |d+1,t=>by
  rw[Ty.ji]
  refine Ty.ux (Ty.zu most d) _ _ ?_
  have:1*1≤(d+2)*(most+1):=ajE (by omega) (by omega)
  omega
theorem Ty.mj (most d:Nat):∀(l:List Ty) (n:Nat),n≤Ty.gY most d n l
 | [],n=>ah5 _
 |t::l,n=>by
  rw[Ty.gY]
  split
  ·exact aiy (by omega) (Ty.mj most d l _)
  ·exact ah5 _
theorem Ty.C1 (most:Nat):∀(d:Nat) (t:Ty),1≤Ty.jg most d t
 |0,t=>by rw[Ty.jh];omega
 |d+1,t=>by rw[Ty.ji];exact Ty.mj _ _ _ _
theorem Ty.nC {most d:Nat} (h:∀t:Ty,Ty.jg most d t≤most→t.size=Ty.jg most d t):∀(l:List Ty) (n:Nat),Ty.gY most d n l≤most→Ty.gY most d n l=n+Ty.sizes l
 | [],n,_=>rfl
 |t::l,n,hn=>by
  rw[Ty.gY] at hn ⊢
  split
  ·rename_i hc
   rw[if_pos hc] at hn
   rw[Ty.nC h l _ hn]
   have:=Ty.mj most d l (n+Ty.jg most d t)
   rw[Ty.sizes,h t (by omega)];omega
  ·rename_i hc
   rw[if_neg hc] at hn;omega
theorem Ty.lF (most:Nat):∀(d:Nat) (t:Ty),Ty.jg most d t≤most→t.size=Ty.jg most d t
 |0,t,h=>by rw[Ty.jh] at h;omega
 |d+1,t,h=>by
  rw[Ty.ji] at h ⊢
  rw[Ty.nC (Ty.lF most d) _ _ h,t.size_eq]
theorem Vv {d m:Nat} (hd:d≤1000) (hm:m≤1000):(d+1)*(m+1)≤1002001:=ajE (show d+1≤1001 by omega) (show m+1≤1001 by omega)
theorem F8 {most:Nat} (we:most≤1000):∀(d:Nat) (t:Ty),d≤999→av Tryz.prog 111 [t.enc,nI most,nI d] (nI (Ty.jg most d t:Nat)):=by
 intro d
 induction d with
 |zero=>
  intro t _
  rw[Ty.aF,Ty.jh]
  refine Fc (ak.pos (by decide) ?_)
  rw[aL (by omega)]
 |succ d ih=>
  intro t hd
  rw[Ty.aF,Ty.ji]
  refine Fc (ak.neg (decide_eq_false (by omega)) ?_)
  refine aB.intro (fun p:Nat×Nat=>(((most:Int),((d+1:Nat):Int),(),(p.2:Int),(p.1:Int),()),((t.args.map Ty.enc,t.base,()),())))
   (fun p=>p.1≤t.args.length∧p.1+1≤p.2∧p.2≤(d+2)*(most+1)∧Ty.gY most d 1 t.args=Ty.gY most d p.2 (t.args.drop p.1)) (fun p=>t.args.length-p.1) (0,1) rfl
   ⟨ah3 _,ah5 _,by have:1*1≤(d+2)*(most+1):=ajE (by omega) (by omega);dsimp only;omega,rfl⟩ ?_
  intro ⟨k,n⟩ ⟨hk,hkn,hn,hs⟩ again bO
  dsimp only at hk hkn hn hs ⊢
  have hbd:(d+2)*(most+1)≤1002001:=Vv (d:=d+1) (m:=most) (by omega) we
  rw[ahX]
  refine ak.intro (fun h=>?_) fun h=>?_
  ·have ay:k<t.args.length:=by simpa using h
   rw[Ty.vo ay] at hs
   refine ak.intro (fun h=>?_) fun h=>?_
   ·have hm:n≤most:=by simpa using h
    rw[if_pos hm] at hs
    have hi:=ih t.args[k] (by omega)
    have hb:=Ty.zu most d t.args[k]
    have hp:=Ty.C1 most d t.args[k]
    rw[Ty.aF] at hi
    refine⟨by omega,by omega,_,_,Ty.bh ay,(Ty.jg most d t.args[k]:Nat),?_,?_⟩
    ·rw[bH (n:=((d+1:Nat):Int)-1) (by omega) (by omega),show ((d+1:Nat):Int)-1=(d:Int) from by omega]
     exact hi
    ·have e:(d+2)*(most+1)=(d+1)*(most+1)+(most+1):=by rw[aiV,aiV];omega
     rw[aL (by omega),bH (n:=(n:Int)+(Ty.jg most d t.args[k]:Nat)) (by omega) (by omega),show (n:Int)+(Ty.jg most d t.args[k]:Nat)=((n+Ty.jg most d t.args[k]:Nat):Int) from by omega]
     exact bO (k+1,n+Ty.jg most d t.args[k]) ⟨by dsimp only;omega,by dsimp only;omega,by dsimp only;omega,hs⟩ (by dsimp only;omega)
   ·have hm:¬n≤most:=by simpa using h
    rw[if_neg hm] at hs
    rw[hs]
  ·have:t.args.length≤k:=by simpa using h
   rw[ah8 this] at hs
   rw[hs];rfl
def Ty.jr (most d:Nat) (t:Ty):Bool:=decide (Ty.jg most d t≤most)
theorem Ty.kU {most d:Nat} {t:Ty} (h:Ty.jr most d t=true):t.size≤most:=by
 have h':Ty.jg most d t≤most:=by simpa [Ty.jr] using h
 rw[Ty.lF most d t h'];exact h'
theorem wg {most d:Nat} {t:Ty} (we:most≤1000) (hd:d≤999):av Tryz.prog 71 [t.enc,nI most,nI d] (nB (Ty.jr most d t)):=by
 have h:=F8 we d t hd
 rw[Ty.aF] at h ⊢
 refine R3 ⟨_,h,?_⟩
 simp only[Ty.jr,Int.ofNat_le]
theorem C2:∀(n:Nat) (t:Ty),t.size≤n→n≤1000000000→av Tryz.prog 142 [t.enc] (nI (t.size:Nat)):=by
 intro n
 induction n with
 |zero=>intro t h;have:=t.size_pos;omega
 |succ n ih=>
  intro t h hn
  have hq:=Ty.bA t.args
  have Lz:=t.size_eq
  rw[Ty.aF]
  refine OE ?_
  unfold Vm Fb
  refine aB.intro (fun k:Nat=>(((),((1+Ty.sizes (t.args.take k):Nat):Int),(k:Int),()),((t.args.map Ty.enc,t.base,()),())))
   (fun k=>k≤t.args.length) (fun k=>t.args.length-k) 0 (by simp[Ty.sizes]) (ah3 _) ?_
  intro k hk again bO
  dsimp only
  rw[ahX]
  refine ak.intro (fun h=>?_) fun h=>?_
  ·have ay:k<t.args.length:=by simpa using h
   have hi:=ih t.args[k] (by have:=Ty.fN ay;omega) (by omega)
   have hsn:Ty.sizes (t.args.take (k+1))=Ty.sizes (t.args.take k)+t.args[k].size:=by
    rw[←aH ay,Ty.fC];simp[Ty.sizes]
   have hle:Ty.sizes (t.args.take (k+1))≤Ty.sizes t.args:=by
    have e:=Ty.fC (t.args.take (k+1)) (t.args.drop (k+1))
    rw[aiq] at e;omega
   rw[Ty.aF] at hi
   refine⟨by omega,by omega,_,_,Ty.bh ay,_,hi,?_⟩
   rw[aL (by omega),bH (n:=((1+Ty.sizes (t.args.take k):Nat):Int)+(t.args[k].size:Nat)) (by omega) (by omega),
    show ((1+Ty.sizes (t.args.take k):Nat):Int)+(t.args[k].size:Nat)=((1+Ty.sizes (t.args.take (k+1)):Nat):Int) from by omega]
   exact bO (k+1) (by omega) (by omega)
  ·have:t.args.length≤k:=by simpa using h
   rw[ah9 this,←t.size_eq]
def qw (most d:Nat):Nat→List Ty→Option Nat
 |n,[]=>some n
 |n,t::l=>if n≤most then(if Ty.jg most d t≤most then qw most d (n+t.size) l else none) else some n
mutual
def Tm.jg (most:Nat):Nat→Tm→Nat
 |d,.mk b _ _ a=>(match d with
  |0=>most+1
  |d+1=>(match qw most (d+1) 1 b with
   |none=>most+1
   |some n=>Tm.gY most d n a))
def Tm.gY (most:Nat):Nat→Nat→List Tm→Nat
 |_,n,[]=>n
 |d,n,t::l=>if n≤most then Tm.gY most d (n+Tm.jg most d t) l else n
end
theorem Tm.jh (most:Nat) (t:Tm):Tm.jg most 0 t=most+1:=by cases t;rfl
theorem Tm.ji (most d:Nat) (t:Tm):Tm.jg most (d+1) t=(match qw most (d+1) 1 t.binds with
   |none=>most+1
   |some n=>Tm.gY most d n t.args):=by cases t;rfl
theorem Tm.vo {most d n:Nat} {l:List Tm} {k:Nat} (h:k<l.length):Tm.gY most d n (l.drop k)=if n≤most then Tm.gY most d (n+Tm.jg most d l[k]) (l.drop (k+1)) else n:=by
 rw[ah6 h,Tm.gY]
theorem Ih {most d n:Nat} {l:List Ty} {k:Nat} (h:k<l.length):qw most d n (l.drop k)=if n≤most then(if Ty.jg most d l[k]≤most then qw most d (n+l[k].size) (l.drop (k+1)) else none) else some n:=by
 rw[ah6 h,qw]
theorem uy {most d:Nat}:∀{l:List Ty} {n m:Nat},qw most d n l=some m→n≤2*most+1→n≤m∧m≤2*most+1∧(m≤most→m=n+Ty.sizes l)
 | [],n,m,h,hn=>by
  simp only[qw,Option.some.injEq] at h
  subst h
  exact⟨ah5 _,hn,fun _=>rfl⟩
 |t::l,n,m,h,hn=>by
  rw[qw] at h
  split at h
  ·split at h
   ·rename_i h1 h2
    have cJ:=Ty.lF most d t h2
    obtain⟨g1,g2,g3⟩:=uy h (by omega)
    refine⟨by omega,g2,fun hm=>?_⟩
    rw[g3 hm,Ty.sizes];omega
   ·cases h
  ·rename_i h1
   obtain rfl:=Option.some.inj h
   exact⟨ah5 _,hn,fun hm=>(h1 hm).elim⟩
theorem Tm.ux {most d:Nat} (h:∀t:Tm,Tm.jg most d t≤(d+2)*(most+1)):∀(l:List Tm) (n:Nat),n≤(d+3)*(most+1)→Tm.gY most d n l≤(d+3)*(most+1)
 | [],n,hn=>hn
 |t::l,n,hn=>by
  rw[Tm.gY]
  split
  ·refine Tm.ux h l _ ?_
   have:=h t
   have e:(d+3)*(most+1)=(d+2)*(most+1)+(most+1):=by rw[aiV,aiV];omega
   omega
  ·exact hn
theorem Tm.zu (most:Nat):∀(d:Nat) (t:Tm),Tm.jg most d t≤(d+2)*(most+1)
 |0,t=>by rw[Tm.jh];omega
 |d+1,t=>by
  rw[Tm.ji]
  split
  ·show most+1≤(d+1+2)*(most+1)
   have:1*(most+1)≤(d+1+2)*(most+1):=ajE (by omega) (ah5 _)
   rw[Nat.one_mul] at this;exact this
  ·rename_i n hn
   refine Tm.ux (Tm.zu most d) _ _ ?_
   have:=(uy hn (by omega)).2.1
   have:2*(most+1)≤(d+3)*(most+1):=ajE (by omega) (ah5 _)
   omega
theorem Tm.mj (most d:Nat):∀(l:List Tm) (n:Nat),n≤Tm.gY most d n l
 | [],n=>ah5 _
 |t::l,n=>by
  rw[Tm.gY]
  split
  ·exact aiy (by omega) (Tm.mj most d l _)
  ·exact ah5 _
theorem Tm.C1 (most:Nat):∀(d:Nat) (t:Tm),1≤Tm.jg most d t
 |0,t=>by rw[Tm.jh];omega
 |d+1,t=>by
  rw[Tm.ji]
  split
  ·show 1≤most+1
   omega
  ·rename_i n hn
   exact aiy (uy hn (by omega)).1 (Tm.mj _ _ _ _)
theorem Tm.nC {most d:Nat} (h:∀t:Tm,Tm.jg most d t≤most→t.size=Tm.jg most d t):∀(l:List Tm) (n:Nat),Tm.gY most d n l≤most→Tm.gY most d n l=n+Tm.sizes l
 | [],n,_=>rfl
 |t::l,n,hn=>by
  rw[Tm.gY] at hn ⊢
  split
  ·rename_i hc
   rw[if_pos hc] at hn
   rw[Tm.nC h l _ hn]
   have:=Tm.mj most d l (n+Tm.jg most d t)
   rw[Tm.sizes,h t (by omega)];omega
  ·rename_i hc
   rw[if_neg hc] at hn;omega
theorem Tm.lF (most:Nat):∀(d:Nat) (t:Tm),Tm.jg most d t≤most→t.size=Tm.jg most d t
 |0,t,h=>by rw[Tm.jh] at h;omega
 |d+1,t,h=>by
  rw[Tm.ji] at h ⊢
  split
  ·rename_i hn
   rw[hn] at h;simp only at h;omega
  ·rename_i n hn
   rw[hn] at h
   simp only at h
   have h1:=Tm.mj most d t.args n
   rw[Tm.nC (Tm.lF most d) _ _ h,t.size_eq,(uy hn (by omega)).2.2 (by omega)]
theorem F9 {most:Nat} (we:most≤1000):∀(d:Nat) (t:Tm),d≤900→av Tryz.prog 110 [t.enc,nI most,nI d] (nI (Tm.jg most d t:Nat)):=by
 intro d
 induction d with
 |zero=>
  intro t _
  rw[Tm.aF,Tm.jh]
  refine Fe (ak.pos (by decide) ?_)
  rw[aL (by omega)]
 |succ d ih=>
  intro t hd
  rw[Tm.aF,Tm.ji]
  have hbd:(d+3)*(most+1)≤1002001:=Vv (d:=d+2) (m:=most) (by omega) we
  have h2:2*(most+1)≤(d+3)*(most+1):=ajE (by omega) (ah5 _)
  have args:∀n:Nat,1≤n→n≤2*most+1→vh (((most:Int),((d+1:Nat):Int),(),(n:Int),0,()),((t.binds.map Ty.enc,t.kind,t.index,t.args.map Tm.enc,()),())) (fun x=>x=nI (Tm.gY most d n t.args:Nat)):=by
   intro n U8 hn2
   refine aB.intro (fun p:Nat×Nat=>(((most:Int),((d+1:Nat):Int),(),(p.2:Int),(p.1:Int),()),((t.binds.map Ty.enc,t.kind,t.index,t.args.map Tm.enc,()),())))
    (fun p=>p.1≤t.args.length∧p.1+1≤p.2∧p.2≤(d+3)*(most+1)∧Tm.gY most d n t.args=Tm.gY most d p.2 (t.args.drop p.1)) (fun p=>t.args.length-p.1) (0,n) rfl
    ⟨ah3 _,by dsimp only;omega,by dsimp only;omega,rfl⟩ ?_
   intro ⟨k,m⟩ ⟨hk,hkn,zZ,hs⟩ again bO
   dsimp only at hk hkn zZ hs ⊢
   rw[ahX]
   refine ak.intro (fun h=>?_) fun h=>?_
   ·have ay:k<t.args.length:=by simpa using h
    rw[Tm.vo ay] at hs
    refine ak.intro (fun h=>?_) fun h=>?_
    ·have hm:m≤most:=by simpa using h
     rw[if_pos hm] at hs
     have hi:=ih t.args[k] (by omega)
     have hb:=Tm.zu most d t.args[k]
     have hp:=Tm.C1 most d t.args[k]
     rw[Tm.aF] at hi
     refine⟨by omega,by omega,_,_,_,_,Tm.bh ay,(Tm.jg most d t.args[k]:Nat),?_,?_⟩
     ·rw[bH (n:=((d+1:Nat):Int)-1) (by omega) (by omega),show ((d+1:Nat):Int)-1=(d:Int) from by omega]
      exact hi
     ·have e:(d+3)*(most+1)=(d+2)*(most+1)+(most+1):=by rw[aiV,aiV];omega
      rw[aL (by omega),bH (n:=(m:Int)+(Tm.jg most d t.args[k]:Nat)) (by omega) (by omega),show (m:Int)+(Tm.jg most d t.args[k]:Nat)=((m+Tm.jg most d t.args[k]:Nat):Int) from by omega]
      exact bO (k+1,m+Tm.jg most d t.args[k]) ⟨by dsimp only;omega,by dsimp only;omega,by dsimp only;omega,hs⟩ (by dsimp only;omega)
    ·have hm:¬m≤most:=by simpa using h
     rw[if_neg hm] at hs
     rw[hs]
   ·have:t.args.length≤k:=by simpa using h
    rw[ah8 this] at hs
    rw[hs];rfl
  refine Fe (ak.neg (decide_eq_false (by omega)) ?_)
  refine aB.intro (fun p:Nat×Nat=>(((most:Int),((d+1:Nat):Int),(),(p.2:Int),(p.1:Int),()),((t.binds.map Ty.enc,t.kind,t.index,t.args.map Tm.enc,()),())))
   (fun p=>p.1≤t.binds.length∧p.1+1≤p.2∧p.2≤2*most+1∧qw most (d+1) 1 t.binds=qw most (d+1) p.2 (t.binds.drop p.1)) (fun p=>t.binds.length-p.1) (0,1) rfl
   ⟨ah3 _,ah5 _,by dsimp only;omega,rfl⟩ ?_
  intro ⟨k,n⟩ ⟨hk,hkn,hn,hs⟩ again bO
  dsimp only at hk hkn hn hs ⊢
  rw[ahX]
  refine ak.intro (fun h=>?_) fun h=>?_
  ·have ay:k<t.binds.length:=by simpa using h
   rw[Ih ay] at hs
   refine ak.intro (fun h=>?_) fun h=>?_
   ·have hm:n≤most:=by simpa using h
    rw[if_pos hm] at hs
    have hi:=wg (most:=most) (d:=d+1) (t:=t.binds[k]) we (by omega)
    rw[Ty.aF] at hi
    refine⟨by omega,by omega,_,_,Ty.bh ay,_,hi,ak.intro (fun h=>?_) fun h=>?_⟩
    ·have hf:¬Ty.jg most (d+1) t.binds[k]≤most:=by simpa [Ty.jr] using h
     rw[if_neg hf] at hs
     rw[hs,aL (by omega)]
    ·have hf:Ty.jg most (d+1) t.binds[k]≤most:=by simpa [Ty.jr] using h
     rw[if_pos hf] at hs
     have cJ:=Ty.lF most (d+1) _ hf
     have hz:=C2 _ t.binds[k] (ah5 _) (by omega)
     have hp:=t.binds[k].size_pos
     rw[Ty.aF] at hz
     refine⟨by omega,by omega,_,_,Ty.bh ay,_,hz,?_⟩
     rw[aL (by omega),bH (n:=(n:Int)+(t.binds[k].size:Nat)) (by omega) (by omega),show (n:Int)+(t.binds[k].size:Nat)=((n+t.binds[k].size:Nat):Int) from by omega]
     exact bO (k+1,n+t.binds[k].size) ⟨by dsimp only;omega,by dsimp only;omega,by dsimp only;omega,hs⟩ (by dsimp only;omega)
   ·have hm:¬n≤most:=by simpa using h
    rw[if_neg hm] at hs
    rw[hs]
    exact args n (by omega) (by omega)
  ·have:t.binds.length≤k:=by simpa using h
   rw[ah8 this] at hs
   rw[hs]
   exact args n (by omega) (by omega)
def Tm.jr (most d:Nat) (t:Tm):Bool:=decide (Tm.jg most d t≤most)
theorem Tm.kU {most d:Nat} {t:Tm} (h:Tm.jr most d t=true):t.size≤most:=by
 have h':Tm.jg most d t≤most:=by simpa [Tm.jr] using h
 rw[Tm.lF most d t h'];exact h'
theorem Ga {most d:Nat} {t:Tm} (we:most≤1000) (hd:d≤900):av Tryz.prog 69 [t.enc,nI most,nI d] (nB (Tm.jr most d t)):=by
 have h:=F9 we d t hd
 rw[Tm.aF] at h ⊢
 refine R4 ⟨_,h,?_⟩
 simp only[Tm.jr,Int.ofNat_le]
theorem Bj {l:List Tm} (hl:l.length≤1000000000):av Tryz.prog 31 [.sl (l.map Tm.enc)] (nB (l.all (Tm.jr 150 70))):=by
 refine R6 ?_
 unfold Zy
 refine aB.intro (fun k:Nat=>((l.map Tm.enc,(k:Int),()),())) (fun k=>k≤l.length∧l.all (Tm.jr 150 70)=(l.drop k).all (Tm.jr 150 70)) (fun k=>l.length-k) 0 rfl ⟨ah3 _,rfl⟩ ?_
 intro k ⟨hk,hs⟩ again bO
 dsimp only
 rw[ahX]
 refine ak.intro (fun h=>?_) fun h=>?_
 ·have ay:k<l.length:=by simpa using h
  rw[ah6 ay,ai5] at hs
  have hi:=Ga (most:=150) (d:=70) (t:=l[k]) (by decide) (by decide)
  rw[Tm.aF] at hi
  refine⟨by omega,by omega,_,_,_,_,Tm.bh ay,_,hi,ak.intro (fun h=>?_) fun h=>?_⟩
  ·have:Tm.jr 150 70 l[k]=false:=by simpa using h
   rw[hs,this,aih]
  ·have:Tm.jr 150 70 l[k]=true:=by simpa using h
   rw[this,aim] at hs
   rw[aL (by omega)]
   exact bO (k+1) ⟨by omega,hs⟩ (by omega)
 ·have:l.length≤k:=by simpa using h
  rw[ah8 this] at hs
  rw[hs];rfl
mutual
def Tm.low:Tm→Bool
 | .mk _ k i a=>!(k==0&&decide (i>900000))&&Tm.rD a
def Tm.rD:List Tm→Bool
 | []=>true
 |t::l=>Tm.low t&&Tm.rD l
end
theorem Tm.W3 (t:Tm):Tm.low t=(!(t.kind==0&&decide (t.index>900000))&&Tm.rD t.args):=by cases t;rfl
theorem Tm.LH {l:List Tm} {k:Nat} (h:k<l.length):Tm.rD (l.drop k)=(Tm.low l[k]&&Tm.rD (l.drop (k+1))):=by
 rw[ah6 h,Tm.rD]
theorem LI:∀(n:Nat) (l:List Tm),Tm.sizes l≤n→n≤1000000000→av Tryz.prog 112 [.sl (l.map Tm.enc)] (nB (Tm.rD l)):=by
 intro n
 induction n with
 |zero=>
  intro l h hn
  cases l with
  |nil=>
   refine Ff ?_
   unfold OJ
   refine aB.intro (fun _:Unit=>(([],0,()),())) (fun _=>True) (fun _=>0) () rfl True.intro ?_
   intro _ _ again bO
   exact ak.neg rfl rfl
  |cons t l=>have:=t.size_pos;simp[Tm.sizes] at h;omega
 |succ n ih=>
  intro l h hn
  have hq:=Tm.bA l
  refine Ff ?_
  unfold OJ
  refine aB.intro (fun k:Nat=>((l.map Tm.enc,(k:Int),()),())) (fun k=>k≤l.length∧Tm.rD l=Tm.rD (l.drop k)) (fun k=>l.length-k) 0 rfl ⟨ah3 _,rfl⟩ ?_
  intro k ⟨hk,hs⟩ again bO
  dsimp only
  rw[ahX]
  refine ak.intro (fun h'=>?_) fun h'=>?_
  ·have ay:k<l.length:=by simpa using h'
   rw[Tm.LH ay,Tm.W3] at hs
   have cJ:=Tm.cN (ah1 ay)
   have hi:=ih l[k].args (by have:=l[k].size_eq;omega) (by omega)
   have rest:(l[k].kind==0&&decide (l[k].index>900000))=false→ak (!(Tm.rD l[k].args)) (nB false=nB (Tm.rD l)) (again ((l.map Tm.enc,IntKind.wrap .i64 ((k:Int)+1),()),())):=by
    intro hc
    rw[hc,Bool.not_false,aim] at hs
    refine ak.intro (fun h=>?_) fun h=>?_
    ·have:Tm.rD l[k].args=false:=by simpa using h
     rw[hs,this,aih]
    ·have:Tm.rD l[k].args=true:=by simpa using h
     rw[this,aim] at hs
     rw[aL (by omega)]
     exact bO (k+1) ⟨by omega,hs⟩ (by omega)
   refine⟨by omega,by omega,_,_,_,_,Tm.bh ay,ak.intro (fun h=>?_) fun h=>?_⟩
   ·refine⟨by omega,by omega,_,_,_,_,Tm.bh ay,ak.intro (fun h2=>?_) fun h2=>?_⟩
    ·rw[h,h2] at hs
     rw[hs];rfl
    ·exact⟨by omega,by omega,_,_,_,_,Tm.bh ay,_,hi,rest (by rw[h,h2];rfl)⟩
   ·exact⟨by omega,by omega,_,_,_,_,Tm.bh ay,_,hi,rest (by rw[h];rfl)⟩
  ·have:l.length≤k:=by simpa using h'
   rw[ah8 this] at hs
   rw[hs];rfl
def mG (c m b:List Ty):Bool:=decide (c.length≤20∧m.length≤20∧b.length≤20)&&(c++m++b).all (Ty.jr 60 60)
theorem Gb (n:Int) (c m b:List Ty):av Tryz.prog 32 [.agg [nI n,.sl (c.map Ty.enc),.sl (m.map Ty.enc)],.sl (b.map Ty.enc)] (nB (mG c m b)):=by
 refine R8 ?_
 unfold Zz
 rw[ahX,ahX,ahX]
 refine ak.intro (fun h=>?_) fun h=>?_
 ·have h':¬c.length≤20:=by simp at h;omega
  rw[mG,decide_eq_false (fun x=>h' x.1),aih]
 have hc:c.length≤20:=by simp at h;omega
 refine ak.intro (fun h=>?_) fun h=>?_
 ·have h':¬m.length≤20:=by simp at h;omega
  rw[mG,decide_eq_false (fun x=>h' x.2.1),aih]
 have hm:m.length≤20:=by simp at h;omega
 refine ak.intro (fun h=>?_) fun h=>?_
 ·have h':¬b.length≤20:=by simp at h;omega
  rw[mG,decide_eq_false (fun x=>h' x.2.2),aih]
 have hb:b.length≤20:=by simp at h;omega
 have hsb:mG c m b=(c++m++b).all (Ty.jr 60 60):=by rw[mG,decide_eq_true ⟨hc,hm,hb⟩,aim]
 refine⟨_,uo (by omega) (by omega),_,uo (by simp;omega) (by omega),?_⟩
 have hlen:(c++m++b).length≤60:=by simp;omega
 rw[hsb]
 generalize c++m++b=l at hlen
 refine aB.intro (fun k:Nat=>((l.map Ty.enc,(k:Int),()),((n,c.map Ty.enc,m.map Ty.enc,()),()))) (fun k=>k≤l.length∧l.all (Ty.jr 60 60)=(l.drop k).all (Ty.jr 60 60)) (fun k=>l.length-k) 0 rfl ⟨ah3 _,rfl⟩ ?_
 intro k ⟨hk,hs⟩ again bO
 dsimp only
 rw[ahX]
 refine ak.intro (fun h=>?_) fun h=>?_
 ·have ay:k<l.length:=by simpa using h
  rw[ah6 ay,ai5] at hs
  have hi:=wg (most:=60) (d:=60) (t:=l[k]) (by decide) (by decide)
  rw[Ty.aF] at hi
  refine⟨by omega,by omega,_,_,Ty.bh ay,_,hi,ak.intro (fun h=>?_) fun h=>?_⟩
  ·have:Ty.jr 60 60 l[k]=false:=by simpa using h
   rw[hs,this,aih]
  ·have:Ty.jr 60 60 l[k]=true:=by simpa using h
   rw[this,aim] at hs
   rw[aL (by omega)]
   exact bO (k+1) ⟨by omega,hs⟩ (by omega)
 ·have:l.length≤k:=by simpa using h
  rw[ah8 this] at hs
  rw[hs];rfl
inductive Rw where
 |mk (kind:Int) (type:Ty) (index:Int) (kids:List Rw)
mutual
def Rw.size:Rw→Nat
 | .mk _ _ _ l=>1+Rw.sizes l
def Rw.sizes:List Rw→Nat
 | []=>0
 |t::l=>Rw.size t+Rw.sizes l
end
def Rw.kids:Rw→List Rw | .mk _ _ _ l=>l
theorem Rw.size_eq (r:Rw):r.size=1+Rw.sizes r.kids:=by cases r;rfl
theorem Uk {w:World} (h:pF w):Lib.TabIs Tryz.prog w "internal/strconv.uint64pow10" .u64 Lib.pow10Tab:=by
 obtain⟨T,h1⟩:=h (DJ.head (by decide)) (List.head_mem _)
 unfold Lib.TabIs World.var?
 rw[show Tryz.prog.globalNamed "internal/strconv.uint64pow10"=some (DJ.head (by decide)).1 from by kernel_rfl]
 simp only[Option.bind_some,h1]
 rfl
def bt (k:Int):ByteArray:=⟨(Lib.itoa k).toArray⟩
theorem sJ {k:Int} (hk:ke k):av Tryz.prog 115 [nI k] (nS (bt k)):=by
 refine⟨⟨_,Tryz.func115,by kernel_rfl,by kernel_rfl⟩,fun w F bB hF hg hv=>?_⟩
 match bB,hv with
 | [v0],⟨r0,_⟩=>
  cases r0
  refine callsIn_wide.2 ((Any.strconv_Itoa Sd k hk.1 (by have:=hk.2;omega) w (Uk hg)).mono ?_)
  rintro e w' ⟨rfl,n,os,rfl⟩
  refine⟨_,_,rfl,rfl,⟨rfl,rfl,rfl,?_,fun j hj=>?_⟩,.ah _⟩
  ·show w.heap.size≤(w.heap++os).size
   rw[Array.size_append];omega
  ·show (w.heap++os)[j]?=_
   rw[ajO hj]
theorem fP {k:Int} (hk:ke k):(bt k).size≤30:=by
 have h1:=hk.1
 have h2:=hk.2
 have:=Lib.itoa_length_le k h1 (by omega)
 show (Lib.itoa k).toArray.size≤30
 rw[ajS];omega
theorem zv {κ:Type} [DecidableEq κ] {l:List (κ×Value)} {i v:κ} {x:Value}:bE (dG l v x) i=if i=v then some x else bE l i:=by
 induction l with
 |nil=>simp only[dG,bE]
 |cons p l ih=>
  obtain⟨k,u⟩:=p
  simp only[dG]
  by_cases h:v=k
  ·subst h
   simp only[if_pos,bE]
   by_cases h2:i=v<;>simp[h2]
  ·rw[if_neg h,bE,ih,bE]
   by_cases h2:i=k
   ·subst h2;simp[ajz h]
   ·simp[h2]
theorem pg {us:List AV} {c:Int} (h:us.length+1≤1000000000):cG Tryz.prog 41 [.ptr 0 0,.ah (.int .u8 c)] (bl us)
  (fun r hp'=>r=.top∧hp'=bl (us++[.ah (.int .u8 c)])):=
 cG.res (R:=fun r hp'=>r=.ah (.nilIface)∧hp'=bl (us++[.ah (.int .u8 c)])) (Se ⟨_,o9,fun r q ⟨h1,h2⟩=>⟨us,⟨h1,h2⟩,rfl,aJ rfl (by rw[ah0];simp;omega) (by decide),by rw[ah0];simp,rfl,rfl⟩⟩)
  fun r h' ⟨h1,h2⟩=>⟨_,fun w F η hp v _=>.top v,rfl,h2⟩
abbrev Mp (t:ByteArray) (e:Int):List af:=dQ (bg t).length (bg t) e
def lG (t:ByteArray):Bool:=decide (t.extract (t.size-1) t.size=(⟨#[10]⟩:ByteArray))
def uz (t w:ByteArray):ByteArray:=(if(!decide (t=(⟨#[]⟩:ByteArray))&&!lG t)=true then t++(⟨#[32]⟩:ByteArray) else t)++w
def bJ (t:ByteArray) (l:List ByteArray):ByteArray:=l.foldl uz t
def fO:List ByteArray→Nat
 | []=>0
 |w::l=>w.size+1+fO l
theorem LJ {t w:ByteArray}:(uz t w).size≤t.size+(w.size+1):=by
 unfold uz
 split<;>simp only[bsz,oD]<;>omega
theorem bC:∀{l:List ByteArray} {t:ByteArray},(bJ t l).size≤t.size+fO l
 | [],t=>ah5 _
 |w::l,t=>by
  have h1:=bC (l:=l) (t:=uz t w)
  have h2:=LJ (t:=t) (w:=w)
  show (bJ (uz t w) l).size≤_
  rw[fO];omega
theorem cr {t:ByteArray} {a b:List ByteArray}:bJ t (a++b)=bJ (bJ t a) b:=List.foldl_append
theorem gG:∀{a b:List ByteArray},fO (a++b)=fO a+fO b
 | [],b=>by simp[fO]
 |w::a,b=>by rw[ai1,fO,fO,gG];omega
theorem LK {t:ByteArray} {l:List ByteArray} {k:Nat} (h:k<l.length):bJ t (l.take (k+1))=uz (bJ t (l.take k)) l[k]:=by
 rw[←aH h,cr];rfl
theorem Ul {l:List ByteArray} {k:Nat} (h:k<l.length):fO (l.take k)+(l[k].size+1)≤fO l:=by
 have e:l.take k++(l[k]::l.drop (k+1))=l:=by rw[←ah6 h,aiq]
 have:=congrArg fO e
 rw[gG,fO] at this
 omega
theorem wZ {s:ByteArray} (hs:s.size≤1000000000):av Tryz.prog 79 [nS s,nS (⟨#[10]⟩:ByteArray)] (nB (lG s)):=by
 refine Sf ⟨_,OS (R:=fun r=>r=nB (lG s)) (ak.intro (fun h=>?_) fun h=>?_),rfl⟩
 ·have h:1≤s.size:=by have:=of_decide_eq_true h;rw[oD] at this;omega
  have w:IntKind.wrap .i64 (((s.size:Nat):Int)-(((⟨#[10]⟩:ByteArray).size:Nat):Int))=((s.size-1:Nat):Int):=by rw[oD,bH (by omega) (by omega)];omega
  rw[w]
  refine⟨⟨by omega,by omega,by omega⟩,?_⟩
  rw[gF];rfl
 ·have h:s.size=0:=by have:=of_decide_eq_false h;rw[oD] at this;omega
  have:lG s=false:=by
   unfold lG
   refine decide_eq_false fun e=>?_
   have:=congrArg ByteArray.size e
   rw[ajW,oD] at this;omega
  rw[this]
theorem LL {t:ByteArray} {e:Int} {ws:List ByteArray} (h:∀w∈ws,w.size≠0) (hb:t.size+fO ws≤100000000):
  cG Tryz.prog 37 [.ptr 2 0,.sl (ws.map nS)] (Mp t e) (fun r q=>r=.aX []∧q=Mp (bJ t ws) e):=by
 have hl:ws.length≤fO ws:=by
  clear h hb
  induction ws with
  |nil=>simp
  |cons w l ih=>rw[fO,aif];omega
 refine Sk ⟨rfl,?_⟩
 rw[ahX]
 refine aB.intro (fun k:Nat=>(((),ws.map nS,((ws.length:Nat):Int),(k:Int),()),((),bg (bJ t (ws.take k)),((),e,()),()))) (fun k=>k≤ws.length) (fun k=>ws.length-k) 0 rfl (ah3 _) ?_
 intro k hk again bO
 dsimp only
 refine ak.intro (fun h1=>?_) fun h1=>?_
 ·have ay:k<ws.length:=by have:=of_decide_eq_true h1;omega
  have bK:=h _ (ah1 ay)
  have hz:=bC (l:=ws.take k) (t:=t)
  have hm:=Ul ay
  have fin:∀{l:List AV},l=bg (bJ t (ws.take (k+1)))→again (((),ws.map nS,((ws.length:Nat):Int),IntKind.wrap .i64 ((k:Int)+1),()),((),l,((),e,()),())):=fun hl=>by
   subst hl
   rw[aL (by omega)]
   exact bO (k+1) ay (by omega)
  rw[LK ay] at fin
  generalize hT:bJ t (ws.take k)=T at hz fin ⊢
  refine⟨by omega,by rw[ahX];omega,_,getD_map ay,_,v8,fun r q ⟨e1,e2⟩=>⟨_,_,⟨e1,e2⟩,?_⟩⟩
  have plain:(!decide (T=(⟨#[]⟩:ByteArray))&&!lG T)=false→aC 80 [.ptr 0 0,nS ws[k]] (bl (bg T)) fun r66 q67=>∃l68 i69,(r66=.aX [nI i69,.top]∧q67=[.dD 1 (List.length l68),.row 5 1 l68])∧(List.length l68)=List.length l68∧
    again (((),ws.map nS,((ws.length:Nat):Int),IntKind.wrap .i64 ((k:Int)+1),()),((),l68,((),e,()),())):=fun hp=>
   ⟨_,F7 bK (by rw[dS];omega),fun r q ⟨e1,e2⟩=>⟨_,_,⟨e1,e2⟩,rfl,fin (by rw[uz,if_neg (by rw[hp];decide),qX])⟩⟩
  refine ak.intro (fun h2=>?_) fun h2=>?_
  ·rw[gF] at h2
   refine⟨_,wZ (by omega),ak.intro (fun h3=>?_) fun h3=>plain (by rw[h2,h3];rfl)⟩
   refine⟨_,pg (by rw[dS];omega),fun r q ⟨e1,e2⟩=>⟨_,⟨e1,e2⟩,_,F7 bK (by rw[ah0,dS];simp;omega),fun r q ⟨e1,e2⟩=>⟨_,_,⟨e1,e2⟩,rfl,fin ?_⟩⟩⟩
   rw[uz,if_pos (by rw[h2,h3];rfl),qX,qX];rfl
  ·rw[gF] at h2
   exact plain (by rw[h2];rfl)
 ·have:ws.length≤k:=by have:=of_decide_eq_false h1;omega
  rw[ah9 this]
  exact⟨rfl,rfl⟩
theorem gz {t:ByteArray} {e:Int} {ws:List ByteArray} (h:∀w∈ws,w.size≠0) (hb:t.size+fO ws≤100000000):
  cG Tryz.prog 37 [.ptr 2 0,.clip (ws.map nS)] (Mp t e) (fun r q=>r=.aX []∧q=Mp (bJ t ws) e):=
 cG.Oa (ys:=[.ptr 2 0,.sl (ws.map nS)]) ⟨ef.refl _,vf _,True.intro⟩ (LL h hb)
def cC (n:Int):Bool:=decide (0≤n∧n≤999999999)
def cP (ok:Bool) (e:Int):Int:=if ok=true then e else 1
theorem fD {t:ByteArray} {e n:Int} (hn:ke n):cG Tryz.prog 81 [.ptr 2 0,nI n] (Mp t e) (fun r q=>r=nS (bt n)∧q=Mp t (cP (cC n) e)):=by
 refine Sl (ak.intro (fun h=>?_) fun h=>ak.intro (fun h2=>?_) fun h2=>?_)
 ·have h:n<0:=of_decide_eq_true h
  refine⟨_,sJ hn,rfl,?_⟩
  rw[cP,if_neg];simp[cC];omega
 ·have h2:n>999999999:=of_decide_eq_true h2
  refine⟨_,sJ hn,rfl,?_⟩
  rw[cP,if_neg];simp[cC];omega
 ·have h:=of_decide_eq_false h
  have h2:=of_decide_eq_false h2
  refine⟨_,sJ hn,rfl,?_⟩
  rw[cP,if_pos];simp[cC];omega
mutual
def Ty.Ok:Ty→Prop
 | .mk l b=>ke b∧Ty.FX l
def Ty.FX:List Ty→Prop
 | []=>True
 |t::l=>Ty.Ok t∧Ty.FX l
end
mutual
def Tm.Full:Tm→Prop
 | .mk b k i a=>Ty.FX b∧ke k∧ke i∧Tm.rV a
def Tm.rV:List Tm→Prop
 | []=>True
 |t::l=>Tm.Full t∧Tm.rV l
end
theorem Ty.mm:∀{l:List Ty},Ty.FX l→∀t∈l,t.Ok
 | [],_,t,h=>by cases h
 |u::l,h,t,ht=>by
  rcases aiC.1 ht with rfl|ht
  ·exact h.1
  ·exact Ty.mm h.2 t ht
theorem Tm.qY:∀{l:List Tm},Tm.rV l→∀t∈l,t.Full
 | [],_,t,h=>by cases h
 |u::l,h,t,ht=>by
  rcases aiC.1 ht with rfl|ht
  ·exact h.1
  ·exact Tm.qY h.2 t ht
theorem Ty.ok_eq {t:Ty} (h:t.Ok):ke t.base∧Ty.FX t.args:=by cases t;exact h
theorem Tm.KC {t:Tm} (h:t.Full):Ty.FX t.binds∧ke t.kind∧ke t.index∧Tm.rV t.args:=by cases t;exact h
abbrev qZ:ByteArray:=⟨#[91]⟩
abbrev qx:ByteArray:=⟨#[93]⟩
abbrev vp:ByteArray:=⟨#[40]⟩
abbrev xP:ByteArray:=⟨#[41]⟩
abbrev C3:ByteArray:=⟨#[92]⟩
abbrev Gc:ByteArray:=⟨#[46]⟩
def iJ {α:Type} (a b:ByteArray) (l:List α) (f:List ByteArray):List ByteArray:=if l.isEmpty=true then[] else a::(f++[b])
def bz:Nat→Ty→List ByteArray
 |0,_=>[]
 |d+1,t=>bt t.base::iJ qZ qx t.args (t.args.flatMap (bz d))
def jj:Nat→Ty→Bool
 |0,_=>false
 |d+1,t=>cC t.base&&t.args.all (jj d)
def jk (k:Int):ByteArray:=(⟨#[98,99,109]⟩:ByteArray).extract k.toNat (k.toNat+1)
def Um (k:Int):Bool:=decide (0≤k∧k<3)
def aW:Nat→Tm→List ByteArray
 |0,_=>[]
 |d+1,t=>if Um t.kind=true then iJ C3 Gc t.binds (t.binds.flatMap (bz d))++(jk t.kind++bt t.index)::iJ vp xP t.args (t.args.flatMap (aW d)) else[]
def gZ:Nat→Tm→Bool
 |0,_=>false
 |d+1,t=>Um t.kind&&(t.binds.all (jj d)&&(cC t.index&&t.args.all (gZ d)))
theorem dU {a b:Bool} {e:Int}:cP a (cP b e)=cP (b&&a) e:=by cases a<;>cases b<;>rfl
theorem cS {α β:Type} {l:List α} {k:Nat} (f:α→List β) (h:k<l.length):(l.take (k+1)).flatMap f=(l.take k).flatMap f++f l[k]:=by rw[←aH h,ai8];simp
theorem j8 {α:Type} {l:List α} {k:Nat} (f:α→Bool) (h:k<l.length):(l.take (k+1)).all f=((l.take k).all f&&f l[k]):=by rw[←aH h,List.all_append];simp
theorem mo {α:Type} {f:α→List ByteArray} {g:α→Nat}:∀{l:List α},(∀x∈l,fO (f x)≤g x)→fO (l.flatMap f)≤(l.map g).sum
 | [],_=>ah5 _
 |x::l,h=>by
  rw[aiE,gG,ais,List.sum_cons]
  have h1:=h x aia
  have h2:=mo (l:=l) fun y hy=>h y (aip _ hy)
  omega
theorem oF {α:Type} {f:α→List ByteArray} {l:List α} {k:Nat} (h:k≤l.length):fO ((l.take k).flatMap f)≤fO (l.flatMap f):=by
 have:(l.take k).flatMap f++(l.drop k).flatMap f=l.flatMap f:=by rw[←ai8,aiq]
 rw[←this,gG];omega
theorem C4 {α:Type} {a b:ByteArray} {l:List α} {f:List ByteArray} (ha:a.size=1) (hb:b.size=1):fO (iJ a b l f)≤4+fO f:=by
 unfold iJ
 split
 ·simp[fO]
 ·rw[fO,gG,fO,fO,ha,hb];omega
theorem Ty.iG (c:Nat) (l:List Ty):(l.map fun t=>c*t.size).sum=c*Ty.sizes l:=by
 induction l with
 |nil=>rfl
 |cons t l ih=>rw[ais,List.sum_cons,ih,Ty.sizes,Nat.mul_add]
theorem Tm.iG (c:Nat) (l:List Tm):(l.map fun t=>c*t.size).sum=c*Tm.sizes l:=by
 induction l with
 |nil=>rfl
 |cons t l ih=>rw[ais,List.sum_cons,ih,Tm.sizes,Nat.mul_add]
theorem lH:∀(d:Nat) (t:Ty),t.Ok→fO (bz d t)≤50*t.size
 |0,t,_=>ah3 _
 |d+1,t,h=>by
  have hb:=fP (Ty.ok_eq h).1
  have h1:=mo (l:=t.args) fun x hx=>lH d x (Ty.mm (Ty.ok_eq h).2 x hx)
  rw[Ty.iG] at h1
  have h2:=C4 (a:=qZ) (b:=qx) (l:=t.args) (f:=t.args.flatMap (bz d)) rfl rfl
  rw[bz,fO,t.size_eq]
  omega
theorem Bk {k:Int}:(jk k).size≤1:=by
 unfold jk
 rw[ajW];omega
theorem j9:∀(d:Nat) (t:Tm),t.Full→fO (aW d t)≤50*t.size
 |0,t,_=>ah3 _
 |d+1,t,h=>by
  obtain⟨q1,q2,q3,q4⟩:=Tm.KC h
  have hb:=fP q3
  have h1:=mo (l:=t.args) fun x hx=>j9 d x (Tm.qY q4 x hx)
  rw[Tm.iG] at h1
  have h2:=C4 (a:=vp) (b:=xP) (l:=t.args) (f:=t.args.flatMap (aW d)) rfl rfl
  have h3:=mo (l:=t.binds) fun x hx=>lH d x (Ty.mm q1 x hx)
  rw[Ty.iG] at h3
  have h4:=C4 (a:=C3) (b:=Gc) (l:=t.binds) (f:=t.binds.flatMap (bz d)) rfl rfl
  have h5:=Bk (k:=t.kind)
  rw[aW,t.size_eq]
  split
  ·rw[gG,fO,bsz];omega
  ·exact ah3 _
theorem PO (u:Nat):Lib.decDigits u≠[]:=by
 rw[Lib.decDigits]
 split<;>simp
theorem q6 {k:Int}:(bt k).size≠0:=by
 have h:Lib.itoa k≠[]:=by
  unfold Lib.itoa
  split
  ·simp
  ·exact PO _
 intro e
 exact h (aio (by simpa using (show (Lib.itoa k).toArray.size=0 from e)))
def Ii (f:Nat) (args:List AV) (l:List ByteArray) (ok:Bool) (c:Nat):Prop:=
 ∀(t:ByteArray) (e:Int),t.size+c≤100000000→cG Tryz.prog f args (Mp t e) (fun r q=>r=.aX []∧q=Mp (bJ t l) (cP ok e))
theorem dx {t w:ByteArray} {e:Int} (h:w.size≠0) (hb:t.size+(w.size+1)≤100000000):
  cG Tryz.prog 37 [.ptr 2 0,.clip [nS w]] (Mp t e) (fun r q=>r=.aX []∧q=Mp (bJ t [w]) e):=
 gz (ws:=[w]) (fun x hx=>by rw[air.1 hx];exact h) (by rw[fO,fO];omega)
theorem sK:∀(d:Nat) (t:Ty),d≤60→t.Ok→t.size≤1000000→Ii 38 [.ptr 2 0,t.enc,nI ((60-d:Nat):Int)] (bz d t) (jj d t) (50*t.size)
 |0,t,_,h,_=>fun b e hb=>by
  rw[Ty.aF]
  exact JH (ak.pos rfl ⟨rfl,rfl⟩)
 |d+1,t,hd,h,hz=>fun b e hb=>by
  obtain⟨hi,hl⟩:=Ty.ok_eq h
  have hw:=lH (d+1) t h
  have hn:=fP hi
  have cJ:=t.size_eq
  have hll:=Ty.bA t.args
  have W4:=mo (f:=bz d) (g:=fun u=>50*u.size) (l:=t.args) fun x hx=>lH d x (Ty.mm hl x hx)
  rw[Ty.iG] at W4
  rw[Ty.aF]
  refine JH (ak.neg ?_ ⟨_,fD hi,fun r q ⟨e1,e2⟩=>⟨_,_,_,⟨e1,e2⟩,_,dx q6 (by omega),fun r q ⟨e1,e2⟩=>⟨_,_,⟨e1,e2⟩,?_⟩⟩⟩)
  ·rw[beq_eq_false_iff_ne];omega
  rw[ahX]
  have iM:=bC (t:=b) (l:=[bt t.base])
  rw[fO,fO] at iM
  refine ak.intro (fun h1=>?_) fun h1=>?_
  ·have h1:0<t.args.length:=by have:=of_decide_eq_true h1;omega
   have bK:t.args.isEmpty=false:=by cases ha:t.args with|nil=>rw[ha] at h1;simp at h1|cons _ _=>rfl
   refine⟨_,dx (w:=qZ) (by decide) (by rw[oD];omega),fun r q ⟨e1,e2⟩=>⟨_,_,⟨e1,e2⟩,rfl,?_⟩⟩
   have qI:=bC (t:=bJ b [bt t.base]) (l:=[qZ])
   rw[fO,fO,oD] at qI
   have e0:bJ (bJ b [bt t.base]) [qZ]=bJ b [bt t.base,qZ]:=rfl
   refine aB.intro (fun k:Nat=>(((),((60-(d+1):Nat):Int),t.args.map Ty.enc,((t.args.length:Nat):Int),(k:Int),()),((),bg (bJ (bJ b [bt t.base,qZ]) ((t.args.take k).flatMap (bz d))),((),cP (cC t.base&&(t.args.take k).all (jj d)) e,()),(t.args.map Ty.enc,t.base,()),())))
    (fun k=>k≤t.args.length) (fun k=>t.args.length-k) 0 (by rw[ajq,ai2,ajs,ajM];rfl) (ah3 _) ?_
   intro k hk again bO
   dsimp only
   have Qx:=oF (f:=bz d) hk
   have pM:=bC (t:=bJ b [bt t.base,qZ]) (l:=(t.args.take k).flatMap (bz d))
   rw[e0] at qI
   refine ak.intro (fun h2=>?_) fun h2=>?_
   ·have ay:k<t.args.length:=by have:=of_decide_eq_true h2;omega
    have gD:=ah1 ay
    have hms:=Ty.cN gD
    have lR:=sK d t.args[k] (by omega) (Ty.mm hl _ gD) (by omega) (bJ (bJ b [bt t.base,qZ]) ((t.args.take k).flatMap (bz d))) (cP (cC t.base&&(t.args.take k).all (jj d)) e) (by
     have KX:=mo (f:=bz d) (g:=fun u=>50*u.size) (l:=t.args.take k) fun x hx=>lH d x (Ty.mm hl x (aiR hx))
     rw[Ty.iG] at KX
     have agL:Ty.sizes (t.args.take k)+t.args[k].size≤Ty.sizes t.args:=by
      have e1:t.args.take k++(t.args[k]::t.args.drop (k+1))=t.args:=by rw[←ah6 ay,aiq]
      have:=congrArg Ty.sizes e1
      rw[Ty.fC,Ty.sizes] at this;omega
     omega)
    have ew:IntKind.wrap .i64 (((60-(d+1):Nat):Int)+1)=((60-d:Nat):Int):=by rw[bH (by omega) (by omega)];omega
    rw[Ty.aF] at lR
    rw[ew]
    refine⟨by omega,by rw[ahX];omega,_,_,Ty.bh ay,_,lR,fun r q ⟨e1,e2⟩=>⟨_,_,⟨e1,e2⟩,rfl,?_⟩⟩
    rw[aL (by omega),←cr,dU,ajw,←j8 _ ay,←cS _ ay]
    exact bO (k+1) ay (by omega)
   ·have gQ:t.args.length≤k:=by have:=of_decide_eq_false h2;omega
    obtain rfl:k=t.args.length:=by omega
    refine⟨_,dx (w:=qx) (by decide) (by rw[oD];omega),fun r q ⟨e1,e2⟩=>⟨_,_,⟨e1,e2⟩,rfl,?_⟩⟩
    rw[aiJ,bz,jj,iJ,bK,←cr,←cr]
    rfl
  ·have h1:t.args.length=0:=by have:=of_decide_eq_false h1;omega
   have ha:=aio h1
   rw[bz,jj,ha,ajs,ajM]
   exact⟨rfl,rfl⟩
theorem Tm.sL {l:List Tm} {k:Nat} (h:k<l.length):Tm.sizes (l.take k)+l[k].size≤Tm.sizes l:=by
 have e1:l.take k++(l[k]::l.drop (k+1))=l:=by rw[←ah6 h,aiq]
 have:=congrArg Tm.sizes e1
 rw[Tm.fC,Tm.sizes] at this;omega
theorem Ty.sL {l:List Ty} {k:Nat} (h:k<l.length):Ty.sizes (l.take k)+l[k].size≤Ty.sizes l:=by
 have e1:l.take k++(l[k]::l.drop (k+1))=l:=by rw[←ah6 h,aiq]
 have:=congrArg Ty.sizes e1
 rw[Ty.fC,Ty.sizes] at this;omega
theorem PR {d:Nat} {l:List Ty} (h:Ty.FX l):fO (l.flatMap (bz d))≤50*Ty.sizes l:=by
 have:=mo (f:=bz d) (g:=fun u=>50*u.size) (l:=l) fun x hx=>lH d x (Ty.mm h x hx)
 rwa [Ty.iG] at this
theorem PS {d:Nat} {l:List Tm} (h:Tm.rV l):fO (l.flatMap (aW d))≤50*Tm.sizes l:=by
 have:=mo (f:=aW d) (g:=fun u=>50*u.size) (l:=l) fun x hx=>j9 d x (Tm.qY h x hx)
 rwa [Tm.iG] at this
theorem Ty.PT {l:List Ty} {k:Nat} (h:Ty.FX l):Ty.FX (l.take k):=by
 induction l generalizing k with
 |nil=>simp[Ty.FX]
 |cons t l ih=>cases k with
  |zero=>exact True.intro
  |succ k=>exact⟨h.1,ih h.2⟩
theorem Tm.Ij {l:List Tm} {k:Nat} (h:Tm.rV l):Tm.rV (l.take k):=by
 induction l generalizing k with
 |nil=>simp[Tm.rV]
 |cons t l ih=>cases k with
  |zero=>exact True.intro
  |succ k=>exact⟨h.1,ih h.2⟩
theorem wh {α:Type} {l:List α} (h:0<l.length):l.isEmpty=false:=by
 cases l with
 |nil=>simp at h
 |cons _ _=>rfl
abbrev QG (b:ByteArray) (l:List ByteArray) (ok:Bool) (e:Int):AV→List af→Prop:=fun r q=>r=.aX []∧q=Mp (bJ b l) (cP ok e)
theorem oG:∀(d:Nat) (t:Tm),d≤60→t.Full→t.size≤1000000→Ii 39 [.ptr 2 0,t.enc,nI ((60-d:Nat):Int)] (aW d t) (gZ d t) (50*t.size)
 |0,t,_,h,_=>fun b e hb=>by
  rw[Tm.aF]
  exact JJ (ak.pos rfl ⟨rfl,rfl⟩)
 |d+1,t,hd,h,hz=>fun b e hb=>by
  obtain⟨QU,hk,hi,hl⟩:=Tm.KC h
  have hn:=fP hi
  have cJ:=t.size_eq
  have hll:=Tm.bA t.args
  have XS:=Ty.bA t.binds
  have W4:=PS (d:=d) hl
  have hfb:=PR (d:=d) QU
  have hlw:=Bk (k:=t.kind)
  rw[Tm.aF]
  refine JJ (ak.neg ?_ (ak.intro (fun h1=>?_) fun h1=>ak.intro (fun h2=>?_) fun h2=>?_))
  ·rw[beq_eq_false_iff_ne];omega
  ·have:Um t.kind=false:=by have:=of_decide_eq_true h1;exact decide_eq_false (by omega)
   rw[aW,gZ,this];exact⟨rfl,rfl⟩
  ·have:Um t.kind=false:=by have:=of_decide_eq_true h2;exact decide_eq_false (by omega)
   rw[aW,gZ,this];exact⟨rfl,rfl⟩
  have h1:=of_decide_eq_false h1
  have h2:=of_decide_eq_false h2
  have hkk:Um t.kind=true:=decide_eq_true (by omega)
  have ewk:IntKind.wrap .i64 (t.kind+1)=t.kind+1:=bH (by omega) (by omega)
  have ad3:ByteArray.extract (⟨#[98,99,109]⟩:ByteArray) (Int.toNat t.kind) (Int.toNat (IntKind.wrap .i64 (t.kind+1)))=jk t.kind:=by
   rw[ewk,jk,show Int.toNat (t.kind+1)=t.kind.toNat+1 by omega]
  have bounds:0≤t.kind∧t.kind≤(IntKind.wrap .i64 (t.kind+1))∧(IntKind.wrap .i64 (t.kind+1))≤((⟨#[98,99,109]⟩:ByteArray).size:Int):=by
   rw[ewk,show (⟨#[98,99,109]⟩:ByteArray).size=3 from rfl];omega
  have rest:∀(T:ByteArray) (E:Int),T.size+(40+50*Tm.sizes t.args)≤100000000→
    ByteArray.size (ByteArray.extract (⟨#[98,99,109]⟩:ByteArray) (Int.toNat t.kind) (Int.toNat (IntKind.wrap .i64 (t.kind+1))))+ByteArray.size (bt t.index)≤9223372036854775807∧
    aC 37 [.ptr 2 0,.clip [nS ((ByteArray.extract (⟨#[98,99,109]⟩:ByteArray) (Int.toNat t.kind) (Int.toNat (IntKind.wrap .i64 (t.kind+1))))++bt t.index)]] (Mp T (cP (cC t.index) E)) fun r60 q61=>
    ∃Xu i63,(r60=.aX []∧q61=(dQ (List.length Xu) Xu i63))∧
    ak (decide (((List.length (t.args.map Tm.enc):Nat):Int)>0))
    (aC 37 [.ptr 2 0,.clip [nS (⟨#[40]⟩:ByteArray)]] (dQ (List.length Xu) Xu i63) fun r65 q66=>
    ∃l67 i68,(r65=.aX []∧q66=(dQ (List.length l67) l67 i68))∧(List.length l67)=List.length l67∧
    zh (((),((60-(d+1):Nat):Int),t.args.map Tm.enc,((List.length (t.args.map Tm.enc):Nat):Int),0,()),((),l67,((),i68,()),(t.binds.map Ty.enc,t.kind,t.index,t.args.map Tm.enc,()),()))
     (QG T ((jk t.kind++bt t.index)::iJ vp xP t.args (t.args.flatMap (aW d))) (cC t.index&&t.args.all (gZ d)) E))
    ((QG T ((jk t.kind++bt t.index)::iJ vp xP t.args (t.args.flatMap (aW d))) (cC t.index&&t.args.all (gZ d)) E) (.aX []) (dQ (List.length Xu) Xu i63)):=by
   intro T E hT
   rw[ad3]
   have hws:(jk t.kind++bt t.index).size≤31:=by rw[bsz];omega
   refine⟨by omega,_,dx (by rw[bsz];have:=q6 (k:=t.index);omega) (by omega),fun r q ⟨e1,e2⟩=>⟨_,_,⟨e1,e2⟩,?_⟩⟩
   rw[ahX]
   have iM:=bC (t:=T) (l:=[jk t.kind++bt t.index])
   rw[fO,fO] at iM
   refine ak.intro (fun h3=>?_) fun h3=>?_
   ·have h3:0<t.args.length:=by have:=of_decide_eq_true h3;omega
    refine⟨_,dx (w:=vp) (by decide) (by rw[oD];omega),fun r q ⟨e1,e2⟩=>⟨_,_,⟨e1,e2⟩,rfl,?_⟩⟩
    have qI:=bC (t:=bJ T [jk t.kind++bt t.index]) (l:=[vp])
    rw[fO,fO,oD] at qI
    rw[←cr] at qI ⊢
    rw[ai1,aiU] at qI ⊢
    generalize hA:bJ T [jk t.kind++bt t.index,vp]=A at qI ⊢
    refine aB.intro (fun k:Nat=>(((),((60-(d+1):Nat):Int),t.args.map Tm.enc,((t.args.length:Nat):Int),(k:Int),()),((),bg (bJ A ((t.args.take k).flatMap (aW d))),((),cP (cC t.index&&(t.args.take k).all (gZ d)) E,()),(t.binds.map Ty.enc,t.kind,t.index,t.args.map Tm.enc,()),())))
     (fun k=>k≤t.args.length) (fun k=>t.args.length-k) 0 (by rw[ajq,ai2,ajs,ajM];rfl) (ah3 _) ?_
    intro k hk again bO
    dsimp only
    have Qx:=oF (f:=aW d) hk
    have pM:=bC (t:=A) (l:=(t.args.take k).flatMap (aW d))
    refine ak.intro (fun h4=>?_) fun h4=>?_
    ·have ay:k<t.args.length:=by have:=of_decide_eq_true h4;omega
     have gD:=ah1 ay
     have hms:=Tm.cN gD
     have lR:=oG d t.args[k] (by omega) (Tm.qY hl _ gD) (by omega) (bJ A ((t.args.take k).flatMap (aW d))) (cP (cC t.index&&(t.args.take k).all (gZ d)) E) (by
      have h5:=PS (d:=d) (Tm.Ij (k:=k) hl)
      have h6:=Tm.sL ay
      omega)
     have ew:IntKind.wrap .i64 (((60-(d+1):Nat):Int)+1)=((60-d:Nat):Int):=by rw[bH (by omega) (by omega)];omega
     rw[Tm.aF] at lR
     unfold Fh
     rw[ew]
     refine⟨by omega,by rw[ahX];omega,_,_,_,_,Tm.bh ay,_,lR,fun r q ⟨e1,e2⟩=>⟨_,_,⟨e1,e2⟩,rfl,?_⟩⟩
     rw[aL (by omega),←cr,dU,ajw,←j8 _ ay,←cS _ ay]
     exact bO (k+1) ay (by omega)
    ·have gQ:t.args.length≤k:=by have:=of_decide_eq_false h4;omega
     obtain rfl:k=t.args.length:=by omega
     refine⟨_,dx (w:=xP) (by decide) (by rw[oD];omega),fun r q ⟨e1,e2⟩=>⟨_,_,⟨e1,e2⟩,rfl,?_⟩⟩
     rw[aiJ,iJ,wh h3,←hA,←cr,←cr]
     rfl
   ·have h3:t.args.length=0:=by have:=of_decide_eq_false h3;omega
    have ha:=aio h3
    rw[ha,ajs,ajM]
    exact⟨rfl,rfl⟩
  have L1:∀(T:ByteArray) (E:Int),T.size+(40+50*Tm.sizes t.args)≤100000000→Fi t.kind t.index (bg T).length (bg T) E (t.args.map Tm.enc) ((60-(d+1):Nat):Int) (t.binds.map Ty.enc) (QG T ((jk t.kind++bt t.index)::iJ vp xP t.args (t.args.flatMap (aW d))) (cC t.index&&t.args.all (gZ d)) E):=
   fun T E hT=>⟨bounds,_,fD hi,fun r q ⟨e1,e2⟩=>⟨_,_,_,⟨e1,e2⟩,rest T E hT⟩⟩
  have L2:∀(T:ByteArray) (E:Int),T.size+(40+50*Tm.sizes t.args)≤100000000→nw t.index (bg T).length (bg T) E t.kind (t.args.map Tm.enc) ((60-(d+1):Nat):Int) (t.binds.map Ty.enc) (QG T ((jk t.kind++bt t.index)::iJ vp xP t.args (t.args.flatMap (aW d))) (cC t.index&&t.args.all (gZ d)) E):=
   fun T E hT=>⟨_,fD hi,fun r q ⟨e1,e2⟩=>⟨_,_,_,⟨e1,e2⟩,bounds,rest T E hT⟩⟩
  rw[aW,gZ,hkk,if_pos rfl,aim]
  refine ak.intro (fun h3=>?_) fun h3=>?_
  ·rw[ahX] at h3
   have h3:0<t.binds.length:=by have:=of_decide_eq_true h3;omega
   refine⟨_,dx (w:=C3) (by decide) (by rw[oD];omega),fun r q ⟨e1,e2⟩=>⟨_,_,⟨e1,e2⟩,rfl,?_⟩⟩
   rw[ahX]
   have qI:=bC (t:=b) (l:=[C3])
   rw[fO,fO,oD] at qI
   generalize hA:bJ b [C3]=A at qI ⊢
   refine aB.intro (fun k:Nat=>(((),((60-(d+1):Nat):Int),(),t.binds.map Ty.enc,((t.binds.length:Nat):Int),(k:Int),()),((),bg (bJ A ((t.binds.take k).flatMap (bz d))),((),cP ((t.binds.take k).all (jj d)) e,()),(t.binds.map Ty.enc,t.kind,t.index,t.args.map Tm.enc,()),())))
    (fun k=>k≤t.binds.length) (fun k=>t.binds.length-k) 0 (by rw[ajq,ai2,ajs];rfl) (ah3 _) ?_
   intro k DE again bO
   dsimp only
   have Qx:=oF (f:=bz d) DE
   have pM:=bC (t:=A) (l:=(t.binds.take k).flatMap (bz d))
   refine ak.intro (fun h4=>?_) fun h4=>?_
   ·have ay:k<t.binds.length:=by have:=of_decide_eq_true h4;omega
    have gD:=ah1 ay
    have hms:=Ty.cN gD
    have lR:=sK d t.binds[k] (by omega) (Ty.mm QU _ gD) (by omega) (bJ A ((t.binds.take k).flatMap (bz d))) (cP ((t.binds.take k).all (jj d)) e) (by
     have h5:=PR (d:=d) (Ty.PT (k:=k) QU)
     have h6:=Ty.sL ay
     omega)
    have ew:IntKind.wrap .i64 (((60-(d+1):Nat):Int)+1)=((60-d:Nat):Int):=by rw[bH (by omega) (by omega)];omega
    rw[Ty.aF] at lR
    rw[ew]
    refine⟨by omega,by rw[ahX];omega,_,_,Ty.bh ay,_,lR,fun r q ⟨e1,e2⟩=>⟨_,_,⟨e1,e2⟩,rfl,?_⟩⟩
    rw[aL (by omega),←cr,dU,←j8 _ ay,←cS _ ay]
    exact bO (k+1) ay (by omega)
   ·have gQ:t.binds.length≤k:=by have:=of_decide_eq_false h4;omega
    obtain rfl:k=t.binds.length:=by omega
    rw[aiJ] at pM ⊢
    refine⟨_,dx (w:=Gc) (by decide) (by rw[oD];omega),fun r q ⟨e1,e2⟩=>⟨_,_,⟨e1,e2⟩,?_⟩⟩
    have hp4:=bC (t:=bJ A (t.binds.flatMap (bz d))) (l:=[Gc])
    rw[fO,fO,oD] at hp4
    have eR:QG (bJ (bJ A (t.binds.flatMap (bz d))) [Gc]) ((jk t.kind++bt t.index)::iJ vp xP t.args (t.args.flatMap (aW d))) (cC t.index&&t.args.all (gZ d)) (cP (t.binds.all (jj d)) e)=
      QG b (iJ C3 Gc t.binds (t.binds.flatMap (bz d))++(jk t.kind++bt t.index)::iJ vp xP t.args (t.args.flatMap (aW d))) (t.binds.all (jj d)&&(cC t.index&&t.args.all (gZ d))) e:=by
     funext r q
     rw[QG,QG,dU,←hA,←cr,←cr,←cr,iJ,iJ,wh h3]
     simp
    have k1:=L1 (bJ (bJ A (t.binds.flatMap (bz d))) [Gc]) (cP (t.binds.all (jj d)) e) (by omega)
    have k2:=L2 (bJ (bJ A (t.binds.flatMap (bz d))) [Gc]) (cP (t.binds.all (jj d)) e) (by omega)
    rw[eR] at k1 k2
    exact⟨⟨⟨k1,k2⟩,k2⟩,⟨⟨k1,k2⟩,k2⟩,k2⟩
  ·rw[ahX] at h3
   have h3:t.binds.length=0:=by have:=of_decide_eq_false h3;omega
   have ha:=aio h3
   have k1:=L1 b e (by omega)
   have k2:=L2 b e (by omega)
   have e1:iJ C3 Gc t.binds (t.binds.flatMap (bz d))=[]:=by rw[ha];rfl
   have e2:t.binds.all (jj d)=true:=by rw[ha];rfl
   rw[e1,e2,aiU,aim]
   exact⟨⟨⟨k1,k2⟩,k2⟩,⟨⟨k1,k2⟩,k2⟩,k2⟩
structure bF where
 eq:Int
 back:Bool
 path:List Int
 sub:List (Int×Tm)
structure aP where
 left:Tm
 right:Tm
 aO:List Ty
 steps:List bF
abbrev QH (t:Tm):List AV:=[.sl (t.binds.map Ty.enc),nI t.kind,nI t.index,.sl (t.args.map Tm.enc)]
def bp (p:Int×Tm):AV:=.agg (nI p.1::QH p.2)
def bF.enc (s:bF):AV:=.agg [nI s.eq,nB s.back,.sl (aK s.path),.sl (s.sub.map bp)]
def aP.enc (l:aP):AV:=.agg [.sl (l.left.binds.map Ty.enc),nI l.left.kind,nI l.left.index,.sl (l.left.args.map Tm.enc),.sl (l.right.binds.map Ty.enc),nI l.right.kind,nI l.right.index,.sl (l.right.args.map Tm.enc),.sl (l.aO.map Ty.enc),.sl (l.steps.map bF.enc)]
def jt {α:Type} (f:α→Nat):List α→Nat
 | []=>0
 |x::l=>f x+jt f l
theorem Gd {α:Type} {f:α→Nat}:∀{a b:List α},jt f (a++b)=jt f a+jt f b
 | [],b=>by simp[jt]
 |x::a,b=>by rw[ai1,jt,jt,Gd];omega
theorem q7 {α:Type} {f:α→Nat} {l:List α} {k:Nat} (h:k<l.length):jt f (l.take k)+f l[k]≤jt f l:=by
 have e1:l.take k++(l[k]::l.drop (k+1))=l:=by rw[←ah6 h,aiq]
 have:=congrArg (jt f) e1
 rw[Gd,jt] at this;omega
theorem q8 {α:Type} {f:α→Nat} {g:α→List ByteArray}:∀{l:List α},(∀x∈l,fO (g x)≤f x)→fO (l.flatMap g)≤jt f l
 | [],_=>ah5 _
 |x::l,h=>by
  rw[aiE,gG,jt]
  have h1:=h x aia
  have h2:=q8 (l:=l) fun y hy=>h y (aip _ hy)
  omega
structure W5 (p:Int×Tm):Prop where
 PU:ke p.1
 term:p.2.Full
 size:p.2.size≤1000000
structure bF.Ok (s:bF):Prop where
 eq:ke s.eq
 path:∀i∈s.path,ke i
 sub:∀p∈s.sub,W5 p
structure aP.Ok (l:aP):Prop where
 left:l.left.Full
 right:l.right.Full
 PV:l.left.size≤1000000
 PW:l.right.size≤1000000
 aO:∀t∈l.aO,t.Ok∧t.size≤1000000
 steps:∀s∈l.steps,s.Ok
abbrev Un:ByteArray:=⟨#[111,110]⟩
abbrev W6:ByteArray:=⟨#[98,97,99,107]⟩
abbrev Ah:ByteArray:=⟨#[58]⟩
abbrev W7:ByteArray:=⟨#[44]⟩
abbrev wj:ByteArray:=⟨#[123]⟩
abbrev xQ:ByteArray:=⟨#[125]⟩
abbrev w4:ByteArray:=⟨#[59]⟩
def eN (p:Int×Tm):List ByteArray:=bt p.1::Ah::(aW 60 p.2++[W7])
def Ai (p:Int×Tm):Bool:=cC p.1&&gZ 60 p.2
def dY (s:bF):List ByteArray:=[if s.back=true then W6 else Un,bt s.eq,qZ]++(s.path.map bt++([qx,wj]++(s.sub.flatMap eN++[xQ,w4])))
def Aj (s:bF):Bool:=cC s.eq&&(s.path.all cC&&s.sub.all Ai)
def QI (p:Int×Tm):Nat:=40+50*p.2.size
def QJ (s:bF):Nat:=60+(40*s.path.length+jt QI s.sub)
theorem zw {p:Int×Tm} (h:W5 p):fO (eN p)≤QI p:=by
 have h1:=fP h.PU
 have h2:=j9 60 p.2 h.term
 unfold eN QI
 rw[fO,fO,gG,fO,fO,oD,oD];omega
theorem xR:∀{l:List Int},(∀i∈l,ke i)→fO (l.map bt)≤40*l.length
 | [],_=>ah5 _
 |i::l,h=>by
  have h1:=fP (h i aia)
  have h2:=xR (l:=l) fun j hj=>h j (aip _ hj)
  rw[ais,fO,aif];omega
theorem PX {s:bF} (h:s.Ok):fO (dY s)≤QJ s:=by
 have h1:=fP h.eq
 have h2:=xR h.path
 have h3:=q8 (f:=QI) (g:=eN) (l:=s.sub) fun p hp=>zw (h.sub p hp)
 have h4:(if s.back=true then W6 else Un).size≤4:=by split<;>decide
 unfold dY QJ
 rw[gG,gG,gG,gG]
 simp only[fO,oD]
 omega
theorem dL {w:ByteArray} {l:List ByteArray} (hw:w.size≠0) (hl:∀x∈l,x.size≠0):∀x∈w::l,x.size≠0:=fun x hx=>by
 rcases aiC.1 hx with rfl|hx
 ·exact hw
 ·exact hl x hx
theorem oH:∀x∈([]:List ByteArray),x.size≠0:=fun x hx=>by cases hx
theorem Ge {s:bF} (h:s.Ok):Ii 40 [.ptr 2 0,s.enc] (dY s) (Aj s) (QJ s):=fun b e hb=>by
 have hn:=fP h.eq
 have hpw:=xR h.path
 have hsw:=q8 (f:=QI) (g:=eN) (l:=s.sub) fun p hp=>zw (h.sub p hp)
 have M9:s.sub.length≤jt QI s.sub:=by
  generalize s.sub=l
  induction l with
  |nil=>exact ah3 _
  |cons p l ih=>rw[jt,aif,QI];omega
 rw[QJ] at hb
 unfold bF.enc
 have rest:∀(w:ByteArray),w.size≤4→w.size≠0→Cs (((),(),aK s.path,((List.length (aK s.path):Nat):Int),0,()),((),bg (bJ b [w,bt s.eq,qZ]),((),cP (cC s.eq) e,()),(s.eq,s.back,aK s.path,s.sub.map bp,()),()))
   (QG b ([w,bt s.eq,qZ]++(s.path.map bt++([qx,wj]++(s.sub.flatMap eN++[xQ,w4])))) (Aj s) e):=by
  intro w hw hw0
  have iM:=bC (t:=b) (l:=[w,bt s.eq,qZ])
  simp only[fO,oD] at iM
  unfold QG
  rw[cr]
  generalize bJ b [w,bt s.eq,qZ]=A at iM ⊢
  rw[bu]
  refine aB.intro (fun k:Nat=>(((),(),aK s.path,((s.path.length:Nat):Int),(k:Int),()),((),bg (bJ A ((s.path.take k).map bt)),((),cP (cC s.eq&&(s.path.take k).all cC) e,()),(s.eq,s.back,aK s.path,s.sub.map bp,()),())))
   (fun k=>k≤s.path.length) (fun k=>s.path.length-k) 0 (by rw[ajq,aiY,ajs,ajM];rfl) (ah3 _) ?_
  intro k hk again bO
  dsimp only
  have Qx:=xR (l:=s.path.take k) fun i hi=>h.path i (aiR hi)
  rw[aid,ajC hk] at Qx
  have pM:=bC (t:=A) (l:=(s.path.take k).map bt)
  refine ak.intro (fun h1=>?_) fun h1=>?_
  ·have ay:k<s.path.length:=by have:=of_decide_eq_true h1;omega
   have hi:=h.path _ (ah1 ay)
   have hni:=fP hi
   unfold JK
   refine⟨by omega,by rw[bu];omega,_,cy ay,_,fD hi,fun r q ⟨e1,e2⟩=>⟨_,_,_,⟨e1,e2⟩,_,dx q6 (by omega),fun r q ⟨e1,e2⟩=>⟨_,_,⟨e1,e2⟩,rfl,?_⟩⟩⟩
   rw[aL (by omega),←cr,dU,ajw,←j8 _ ay]
   have:(s.path.take k).map bt++[bt s.path[k]]=(s.path.take (k+1)).map bt:=by rw[←aH ay,aii];rfl
   rw[this]
   exact bO (k+1) ay (by omega)
  ·have gQ:s.path.length≤k:=by have:=of_decide_eq_false h1;omega
   obtain rfl:k=s.path.length:=by omega
   rw[aiJ] at pM ⊢
   refine⟨_,gz (ws:=[qx,wj]) (dL (by decide) (dL (by decide) oH)) (by simp only[fO,oD];omega),fun r q ⟨e1,e2⟩=>⟨_,_,⟨e1,e2⟩,rfl,?_⟩⟩
   have hp4:=bC (t:=bJ A (s.path.map bt)) (l:=[qx,wj])
   simp only[fO,oD] at hp4
   rw[cr,cr]
   generalize bJ (bJ A (s.path.map bt)) [qx,wj]=B at hp4 ⊢
   rw[ahX]
   refine aB.intro (fun k:Nat=>(((),s.sub.map bp,((s.sub.length:Nat):Int),(k:Int),()),((),bg (bJ B ((s.sub.take k).flatMap eN)),((),cP ((cC s.eq&&s.path.all cC)&&(s.sub.take k).all Ai) e,()),(s.eq,s.back,aK s.path,s.sub.map bp,()),())))
    (fun k=>k≤s.sub.length) (fun k=>s.sub.length-k) 0 (by rw[ajq,ai2,ajs,ajM];rfl) (ah3 _) ?_
   intro k hk again bO
   dsimp only
   have Qx:=q8 (f:=QI) (g:=eN) (l:=s.sub.take k) fun p hp=>zw (h.sub p (aiR hp))
   have hp5:=bC (t:=B) (l:=(s.sub.take k).flatMap eN)
   refine ak.intro (fun h2=>?_) fun h2=>?_
   ·have ay:k<s.sub.length:=by have:=of_decide_eq_true h2;omega
    have hi:=h.sub _ (ah1 ay)
    have hni:=fP hi.PU
    have BB:=q7 (f:=QI) ay
    have Xq:QI s.sub[k]=40+50*s.sub[k].2.size:=rfl
    unfold Fk Fj
    generalize hC:bJ B ((s.sub.take k).flatMap eN)=C at hp5 ⊢
    have hp6:=bC (t:=C) (l:=[bt s.sub[k].1,Ah])
    simp only[fO,oD] at hp6
    have ht:=oG 60 s.sub[k].2 (ah5 _) hi.term hi.size (bJ C [bt s.sub[k].1,Ah]) (cP (cC s.sub[k].1) (cP ((cC s.eq&&s.path.all cC)&&(s.sub.take k).all Ai) e)) (by omega)
    have hp7:=bC (t:=bJ C [bt s.sub[k].1,Ah]) (l:=aW 60 s.sub[k].2)
    have hwt:=j9 60 _ hi.term
    rw[Tm.aF] at ht
    refine⟨by omega,by rw[ahX];omega,_,_,_,_,_,getD_map ay,_,fD hi.PU,fun r q ⟨e1,e2⟩=>⟨_,_,_,⟨e1,e2⟩,_,gz (ws:=[bt s.sub[k].1,Ah]) (dL q6 (dL (by decide) oH)) (by simp only[fO,oD];omega),fun r q ⟨e1,e2⟩=>⟨_,_,⟨e1,e2⟩,?_⟩⟩⟩
    refine⟨_,ht,fun r q ⟨e1,e2⟩=>⟨_,_,⟨e1,e2⟩,_,dx (w:=W7) (by decide) (by rw[oD];omega),fun r q ⟨e1,e2⟩=>⟨_,_,⟨e1,e2⟩,rfl,?_⟩⟩⟩
    have e3:bJ (bJ (bJ C [bt s.sub[k].1,Ah]) (aW 60 s.sub[k].2)) [W7]=bJ B ((s.sub.take (k+1)).flatMap eN):=by
     rw[←cr,←cr,←hC,←cr,cS _ ay];rfl
    have e4:cP (gZ 60 s.sub[k].2) (cP (cC s.sub[k].1) (cP ((cC s.eq&&s.path.all cC)&&(s.sub.take k).all Ai) e))=cP ((cC s.eq&&s.path.all cC)&&(s.sub.take (k+1)).all Ai) e:=by
     rw[dU,dU,j8 _ ay]
     congr 1
     simp[Ai,ajw]
    rw[aL (by omega),e3,e4]
    exact bO (k+1) ay (by omega)
   ·have gQ:s.sub.length≤k:=by have:=of_decide_eq_false h2;omega
    obtain rfl:k=s.sub.length:=by omega
    rw[aiJ] at hp5 ⊢
    refine⟨_,gz (ws:=[xQ,w4]) (dL (by decide) (dL (by decide) oH)) (by simp only[fO,oD];omega),fun r q ⟨e1,e2⟩=>⟨_,_,⟨e1,e2⟩,rfl,?_⟩⟩
    rw[cr,Aj,ajw]
 refine Su (ak.intro (fun h1=>?_) fun h1=>?_)
 ·refine⟨_,fD h.eq,fun r q ⟨e1,e2⟩=>⟨_,_,_,⟨e1,e2⟩,_,gz (ws:=[W6,bt s.eq,qZ]) (dL (by decide) (dL q6 (dL (by decide) oH))) (by simp only[fO,oD,show W6.size=4 from rfl];omega),fun r q ⟨e1,e2⟩=>⟨_,_,⟨e1,e2⟩,rfl,?_⟩⟩⟩
  rw[dY,if_pos h1]
  exact rest W6 (by decide) (by decide)
 ·refine⟨_,fD h.eq,fun r q ⟨e1,e2⟩=>⟨_,_,_,⟨e1,e2⟩,_,gz (ws:=[Un,bt s.eq,qZ]) (dL (by decide) (dL q6 (dL (by decide) oH))) (by simp only[fO,oD,show Un.size=2 from rfl];omega),fun r q ⟨e1,e2⟩=>⟨_,_,⟨e1,e2⟩,rfl,?_⟩⟩⟩
  rw[dY,if_neg (by rw[h1];decide)]
  exact rest Un (by decide) (by decide)
abbrev w5:ByteArray:=⟨#[108,101,109,109,97]⟩
abbrev qy:ByteArray:=⟨#[61]⟩
abbrev nlW:ByteArray:=⟨#[10]⟩
def e9 (l:aP):List ByteArray:=[w5,qZ]++(l.aO.flatMap (bz 60)++([qx]++(aW 60 l.left++([qy]++(aW 60 l.right++([wj]++(l.steps.flatMap dY++[xQ,w4])))))))
def oI (l:aP):Bool:=l.aO.all (jj 60)&&(gZ 60 l.left&&(gZ 60 l.right&&l.steps.all Aj))
def W8 (t:Ty):Nat:=50*t.size
def QK (l:aP):Nat:=100+(jt W8 l.aO+(50*l.left.size+(50*l.right.size+jt QJ l.steps)))
def Gf (t:ByteArray) (l:aP):ByteArray:=bJ t (e9 l)++nlW
def kI (t:ByteArray) (l:List aP):ByteArray:=l.foldl Gf t
theorem C5 {d:Nat} {l:List Ty} (h:∀t∈l,t.Ok):fO (l.flatMap (bz d))≤jt W8 l:=q8 fun t ht=>lH d t (h t ht)
theorem PY {l:List bF} (h:∀s∈l,s.Ok):fO (l.flatMap dY)≤jt QJ l:=q8 fun s hs=>PX (h s hs)
theorem PZ {l:aP} (h:l.Ok):fO (e9 l)+1≤QK l:=by
 have h1:=C5 (d:=60) fun t ht=>(h.aO t ht).1
 have h2:=PY h.steps
 have h3:=j9 60 l.left h.left
 have h4:=j9 60 l.right h.right
 unfold e9 QK
 simp only[gG,fO,oD,show w5.size=5 from rfl]
 omega
theorem LM {t:ByteArray} {l:aP} (h:l.Ok):(Gf t l).size≤t.size+QK l:=by
 have h1:=PZ h
 have h2:=bC (t:=t) (l:=e9 l)
 rw[Gf,bsz,oD];omega
theorem sM:∀{l:List aP} {t:ByteArray},(∀x∈l,x.Ok)→(kI t l).size≤t.size+jt QK l
 | [],t,_=>ah5 _
 |x::l,t,h=>by
  have h1:=LM (t:=t) (h x aia)
  have h2:=sM (l:=l) (t:=Gf t x) fun y hy=>h y (aip _ hy)
  show (kI (Gf t x) l).size≤_
  rw[jt];omega
theorem uA {α:Type} {f:α→Nat} (hf:∀x,1≤f x):∀{l:List α},l.length≤jt f l
 | []=>ah3 _
 |x::l=>by have:=hf x;have:=uA (f:=f) hf (l:=l);rw[jt,aif];omega
theorem Uo (t:Ty):1≤W8 t:=by have:=t.size_pos;unfold W8;omega
theorem Uq (s:bF):1≤QJ s:=by unfold QJ;omega
theorem Ur (s:aP):1≤QK s:=by unfold QK;omega
theorem C6 {ls:List aP} (h:∀l∈ls,l.Ok) (hb:jt QK ls≤100000000):av Tryz.prog 9 [.agg [.sl (ls.map aP.enc)]] (shown (ls.all oI) (kI ⟨#[]⟩ ls)):=by
 have hll:=uA Ur (l:=ls)
 refine WQ ⟨rfl,?_⟩
 rw[ahX]
 refine aB.intro (fun k:Nat=>(((),ls.map aP.enc,((ls.length:Nat):Int),(k:Int),()),((ls.map aP.enc,()),(),bg (kI ⟨#[]⟩ (ls.take k)),((),cP ((ls.take k).all oI) 0,()),())))
  (fun k=>k≤ls.length) (fun k=>ls.length-k) 0 (by rw[ajq,ajs];rfl) (ah3 _) ?_
 intro k hk again bO
 dsimp only
 have Lz:=sM (l:=ls.take k) (t:=⟨#[]⟩) fun x hx=>h x (aiR hx)
 rw[show (⟨#[]⟩:ByteArray).size=0 from rfl] at Lz
 refine ak.intro (fun h1=>?_) fun h1=>?_
 ·have ay:k<ls.length:=by have:=of_decide_eq_true h1;omega
  have hl:=h _ (ah1 ay)
  have BB:=q7 (f:=QK) ay
  have aV:kI ⟨#[]⟩ (ls.take (k+1))=Gf (kI ⟨#[]⟩ (ls.take k)) ls[k]:=by rw[←aH ay,kI,List.foldl_append];rfl
  have aam:(ls.take (k+1)).all oI=((ls.take k).all oI&&oI ls[k]):=j8 _ ay
  generalize hT:kI ⟨#[]⟩ (ls.take k)=T at Lz aV ⊢
  generalize hE:cP ((ls.take k).all oI) 0=E
  have hEn:cP ((ls.take (k+1)).all oI) 0=cP (oI ls[k]) E:=by rw[aam,←hE,dU]
  have iy:∀{u:List AV} {e:Int},u=bg (Gf T ls[k])→e=cP (oI ls[k]) E→again (((),ls.map aP.enc,((ls.length:Nat):Int),IntKind.wrap .i64 ((k:Int)+1),()),((ls.map aP.enc,()),(),u,((),e,()),())):=fun hu he=>by
   rw[hu,he,←aV,←hEn,aL (by omega)]
   exact bO (k+1) ay (by omega)
  have hlw:QK ls[k]=100+(jt W8 ls[k].aO+(50*ls[k].left.size+(50*ls[k].right.size+jt QJ ls[k].steps))):=rfl
  clear bO hT hE aV aam hEn
  have Wt:List.getD (ls.map aP.enc) (Int.toNat (k:Int)) .top=ls[k].enc:=getD_map ay
  refine⟨by omega,by rw[ahX];omega,_,_,_,_,_,_,_,_,_,_,Wt,?_⟩
  generalize ls[k]=l at hl iy hlw BB ⊢
  have U7:=C5 (d:=60) fun t ht=>(hl.aO t ht).1
  have hml:=uA Uo (l:=l.aO)
  have M9:=uA Uq (l:=l.steps)
  refine⟨_,gz (ws:=[w5,qZ]) (dL (by decide) (dL (by decide) oH)) (by simp only[fO,oD,show w5.size=5 from rfl];omega),fun r q ⟨e1,e2⟩=>⟨_,_,⟨e1,e2⟩,rfl,?_⟩⟩
  have iM:=bC (t:=T) (l:=[w5,qZ])
  simp only[fO,oD,show w5.size=5 from rfl] at iM
  generalize hA:bJ T [w5,qZ]=A at iM ⊢
  rw[ahX]
  refine aB.intro (fun j:Nat=>(((),(),ls.map aP.enc,((ls.length:Nat):Int),(k:Int),l.aO.map Ty.enc,((l.aO.length:Nat):Int),(j:Int),()),((ls.map aP.enc,()),(),bg (bJ A ((l.aO.take j).flatMap (bz 60))),((),cP ((l.aO.take j).all (jj 60)) E,()),
    (l.left.binds.map Ty.enc,l.left.kind,l.left.index,l.left.args.map Tm.enc,l.right.binds.map Ty.enc,l.right.kind,l.right.index,l.right.args.map Tm.enc,l.aO.map Ty.enc,l.steps.map bF.enc,()),())))
   (fun j=>j≤l.aO.length) (fun j=>l.aO.length-j) 0 (by rw[ajq,ai2,ajs];rfl) (ah3 _) ?_
  intro j hj kr gX
  dsimp only
  have hfj:=C5 (d:=60) (l:=l.aO.take j) fun t ht=>(hl.aO t (aiR ht)).1
  have qI:=bC (t:=A) (l:=(l.aO.take j).flatMap (bz 60))
  refine ak.intro (fun h2=>?_) fun h2=>?_
  ·have C7:j<l.aO.length:=by have:=of_decide_eq_true h2;omega
   obtain⟨q1,q2⟩:=hl.aO _ (ah1 C7)
   have agT:=q7 (f:=W8) C7
   have hw2:W8 l.aO[j]=50*l.aO[j].size:=rfl
   have ht:=sK 60 l.aO[j] (ah5 _) q1 q2 (bJ A ((l.aO.take j).flatMap (bz 60))) (cP ((l.aO.take j).all (jj 60)) E) (by omega)
   rw[Ty.aF] at ht
   refine⟨by omega,by rw[ahX];omega,_,_,Ty.bh C7,_,ht,fun r q ⟨e1,e2⟩=>⟨_,_,⟨e1,e2⟩,rfl,?_⟩⟩
   rw[aL (by omega),←cr,dU,←j8 _ C7,←cS _ C7]
   exact gX (j+1) C7 (by omega)
  ·have gQ:l.aO.length≤j:=by have:=of_decide_eq_false h2;omega
   obtain rfl:j=l.aO.length:=by omega
   rw[aiJ] at qI hfj ⊢
   clear gX
   generalize hB:bJ A (l.aO.flatMap (bz 60))=B at qI ⊢
   have pM:=bC (t:=B) (l:=[qx])
   simp only[fO,oD] at pM
   have hwl:=j9 60 l.left hl.left
   have hwr:=j9 60 l.right hl.right
   have hp4:=bC (t:=bJ B [qx]) (l:=aW 60 l.left)
   have hp5:=bC (t:=bJ (bJ B [qx]) (aW 60 l.left)) (l:=[qy])
   simp only[fO,oD] at hp5
   have hp6:=bC (t:=bJ (bJ (bJ B [qx]) (aW 60 l.left)) [qy]) (l:=aW 60 l.right)
   have hp7:=bC (t:=bJ (bJ (bJ (bJ B [qx]) (aW 60 l.left)) [qy]) (aW 60 l.right)) (l:=[wj])
   simp only[fO,oD] at hp7
   have hL:=oG 60 l.left (ah5 _) hl.left hl.PV (bJ B [qx]) (cP (l.aO.all (jj 60)) E) (by omega)
   have hR:=oG 60 l.right (ah5 _) hl.right hl.PW (bJ (bJ (bJ B [qx]) (aW 60 l.left)) [qy]) (cP (gZ 60 l.left) (cP (l.aO.all (jj 60)) E)) (by omega)
   rw[Tm.aF] at hL hR
   refine⟨_,dx (w:=qx) (by decide) (by rw[oD];omega),fun r q ⟨e1,e2⟩=>⟨_,_,⟨e1,e2⟩,_,hL,fun r q ⟨e1,e2⟩=>⟨_,_,⟨e1,e2⟩,_,dx (w:=qy) (by decide) (by rw[oD];omega),fun r q ⟨e1,e2⟩=>⟨_,_,⟨e1,e2⟩,_,hR,fun r q ⟨e1,e2⟩=>⟨_,_,⟨e1,e2⟩,
    _,dx (w:=wj) (by decide) (by rw[oD];omega),fun r q ⟨e1,e2⟩=>⟨_,_,⟨e1,e2⟩,rfl,?_⟩⟩⟩⟩⟩⟩
   rw[dU] at hR
   rw[dU,dU]
   have aan:∀u,bJ (bJ (bJ (bJ (bJ (bJ B [qx]) (aW 60 l.left)) [qy]) (aW 60 l.right)) [wj]) u=bJ T ([w5,qZ]++(l.aO.flatMap (bz 60)++([qx]++(aW 60 l.left++([qy]++(aW 60 l.right++([wj]++u))))))):=fun u=>by
    rw[←hB,←hA];simp only[cr]
   generalize hC:bJ (bJ (bJ (bJ (bJ B [qx]) (aW 60 l.left)) [qy]) (aW 60 l.right)) [wj]=C at hp7 aan ⊢
   clear hL hR
   rw[ahX]
   refine aB.intro (fun j:Nat=>(((),ls.map aP.enc,((ls.length:Nat):Int),(k:Int),l.steps.map bF.enc,((l.steps.length:Nat):Int),(j:Int),()),((ls.map aP.enc,()),(),bg (bJ C ((l.steps.take j).flatMap dY)),((),cP ((l.aO.all (jj 60)&&gZ 60 l.left&&gZ 60 l.right)&&(l.steps.take j).all Aj) E,()),
     (l.left.binds.map Ty.enc,l.left.kind,l.left.index,l.left.args.map Tm.enc,l.right.binds.map Ty.enc,l.right.kind,l.right.index,l.right.args.map Tm.enc,l.aO.map Ty.enc,l.steps.map bF.enc,()),())))
    (fun j=>j≤l.steps.length) (fun j=>l.steps.length-j) 0 (by rw[ajq,ai2,ajs,ajM,ajw];rfl) (ah3 _) ?_
   intro j hj P0 Us
   dsimp only
   have KX:=PY (l:=l.steps.take j) fun s hs=>hl.steps s (aiR hs)
   have hp8:=bC (t:=C) (l:=(l.steps.take j).flatMap dY)
   refine ak.intro (fun h3=>?_) fun h3=>?_
   ·have LN:j<l.steps.length:=by have:=of_decide_eq_true h3;omega
    have hs:=hl.steps _ (ah1 LN)
    have agV:=q7 (f:=QJ) LN
    have ht:=Ge hs (bJ C ((l.steps.take j).flatMap dY)) (cP ((l.aO.all (jj 60)&&gZ 60 l.left&&gZ 60 l.right)&&(l.steps.take j).all Aj) E) (by omega)
    refine⟨by omega,by rw[ahX];omega,_,_,_,_,getD_map LN,_,ht,fun r q ⟨e1,e2⟩=>⟨_,_,⟨e1,e2⟩,rfl,?_⟩⟩
    rw[aL (by omega),←cr,dU,ajw,←j8 _ LN,←cS _ LN]
    exact Us (j+1) LN (by omega)
   ·have gQ:l.steps.length≤j:=by have:=of_decide_eq_false h3;omega
    obtain rfl:j=l.steps.length:=by omega
    rw[aiJ] at hp8 KX ⊢
    have hp9:=bC (t:=bJ C (l.steps.flatMap dY)) (l:=[xQ,w4])
    simp only[fO,oD] at hp9
    refine⟨_,gz (ws:=[xQ,w4]) (dL (by decide) (dL (by decide) oH)) (by simp only[fO,oD];omega),fun r q ⟨e1,e2⟩=>⟨_,_,⟨e1,e2⟩,_,pg (by rw[dS];omega),fun r q ⟨e1,e2⟩=>⟨_,⟨e1,e2⟩,rfl,iy ?_ ?_⟩⟩⟩
    ·rw[Gf,qX,←cr,aan];rfl
    ·rw[oI];congr 1;simp[ajw]
 ·have gQ:ls.length≤k:=by have:=of_decide_eq_false h1;omega
  obtain rfl:k=ls.length:=by omega
  rw[aiJ]
  cases jz:ls.all oI
  ·exact ak.pos rfl rfl
  ·exact ak.neg rfl ⟨_,v8,fun r q ⟨e1,e2⟩=>⟨_,_,⟨e1,e2⟩,rfl⟩⟩
def rW {α:Type} (f:α→α→Bool):List α→List α→Bool
 | [],[]=>true
 |x::l,y::m=>f x y&&rW f l m
 |_,_=>false
theorem nD {α:Type} {f:α→α→Bool} {l m:List α} {k:Nat} (h1:k<l.length) (h2:k<m.length):rW f (l.drop k) (m.drop k)=(f l[k] m[k]&&rW f (l.drop (k+1)) (m.drop (k+1))):=by
 rw[ah6 h1,ah6 h2,rW]
theorem oJ {α:Type} {f:α→α→Bool}:∀{l m:List α},¬l.length=m.length→rW f l m=false
 | [],[],h=>absurd rfl h
 | [],_::_,_=>rfl
 |_::_,[],_=>rfl
 |x::l,y::m,h=>by rw[rW,oJ fun e=>h (by rw[aif,aif,e]),ai3]
theorem qz {α:Type} {f:α→α→Bool} (hf:∀x,f x x=true):∀l:List α,rW f l l=true
 | []=>rfl
 |x::l=>by rw[rW,hf,qz hf l];rfl
def oK (p q:Int×Tm):Bool:=p.1==q.1&&Tm.same p.2 q.2
def lI (s t:bF):Bool:=s.eq==t.eq&&(s.back==t.back&&(o8 s.path t.path&&rW oK s.sub t.sub))
def w6 (l m:aP):Bool:=Tm.same l.left m.left&&(Tm.same l.right m.right&&Ty.bU l.aO m.aO)
def rE (l m:aP):Bool:=w6 l m&&rW lI l.steps m.steps
theorem LO (p:Int×Tm):oK p p=true:=by rw[oK,Tm.vl,beq_self_eq_true];rfl
theorem LP (s:bF):lI s s=true:=by rw[lI,qz LO,fM,decide_eq_true rfl,beq_self_eq_true,beq_self_eq_true];rfl
theorem Bl (l:aP):rE l l=true:=by rw[rE,w6,Tm.vl,Tm.vl,(Ty.jG _ _).2 rfl,qz LP];rfl
theorem Ik {p q:Int×Tm} (hp:p.2.size≤1000000):av Tryz.prog 140 [bp p,bp q] (nB (oK p q)):=by
 have h:=qW _ p.2 q.2 (ah5 _) (by omega)
 refine O2 (ak.intro (fun h1=>⟨_,h,?_⟩) fun h1=>?_)
 ·rw[oK,h1,aim]
 ·rw[oK,h1,aih]
theorem Gg {l m:List (Int×Tm)} (hl:l.length≤1000000000) (hp:∀p∈l,p.2.size≤1000000):av Tryz.prog 105 [.sl (l.map bp),.sl (m.map bp)] (nB (rW oK l m)):=by
 refine O1 ⟨_,?_,rfl⟩
 refine Pc (ak.intro (fun h=>?_) fun h=>?_)
 ·rw[oJ (by simp at h;omega)]
 ·have DH:l.length=m.length:=by simp at h;omega
  refine aB.intro (fun k:Nat=>((m.map bp,(),l.map bp,(l.length:Int),(k:Int),()),())) (fun k=>k≤l.length∧rW oK l m=rW oK (l.drop k) (m.drop k)) (fun k=>l.length-k) 0 (by rw[ahX];rfl) ⟨ah3 _,rfl⟩ ?_
  intro k ⟨hk,hs⟩ again bO
  dsimp only
  refine ak.intro (fun h=>?_) fun h=>?_
  ·have ay:k<l.length:=by simpa using h
   rw[nD ay (by omega)] at hs
   have hi:=Ik (p:=l[k]) (q:=m[k]'(by omega)) (hp _ (ah1 ay))
   have g1:List.getD (l.map bp) (Int.toNat (k:Int)) .top=bp l[k]:=getD_map ay
   have g2:List.getD (m.map bp) (Int.toNat (k:Int)) .top=bp (m[k]'(by omega)):=getD_map (by omega)
   refine⟨by omega,by rw[ahX];omega,_,_,_,_,_,g1,by omega,by rw[ahX];omega,_,_,_,_,_,g2,_,hi,ak.intro (fun h=>?_) fun h=>?_⟩
   ·have:oK l[k] (m[k]'(by omega))=false:=by simpa using h
    rw[hs,this,aih]
   ·have he:oK l[k] (m[k]'(by omega))=true:=by simpa using h
    rw[he,aim] at hs
    rw[aL (by omega)]
    exact bO (k+1) ⟨by omega,hs⟩ (by omega)
  ·have:l.length≤k:=by simpa using h
   rw[ah8 this,ah8 (by omega)] at hs
   rw[hs];rfl
structure bF.Sz (s:bF):Prop where
 path:s.path.length≤1000000000
 sub:s.sub.length≤1000000000
 sizes:∀p∈s.sub,p.2.size≤1000000
structure aP.Sz (l:aP):Prop where
 left:l.left.size≤1000000
 right:l.right.size≤1000000
 aO:Ty.sizes l.aO≤1000000000
 len:l.steps.length≤1000000000
 steps:∀s∈l.steps,s.Sz
theorem Il {s t:bF} (h:s.Sz):av Tryz.prog 62 [s.enc,t.enc] (nB (lI s t)):=by
 have h1:=wX (l:=s.path) (m:=t.path) h.path
 have h2:=Gg (l:=s.sub) (m:=t.sub) h.sub h.sizes
 refine SC (ak.intro (fun c1=>ak.intro (fun c2=>⟨_,h1,ak.intro (fun c3=>⟨_,h2,?_⟩) fun c3=>?_⟩) fun c2=>?_) fun c1=>?_)
 ·rw[lI,c1,c2,c3,aim,aim,aim]
 ·rw[lI,c1,c2,c3,aim,aim,aih]
 ·rw[lI,c1,c2,aim,aih]
 ·rw[lI,c1,aih]
theorem Gi {l m:List bF} (hl:l.length≤1000000000) (hp:∀s∈l,s.Sz):av Tryz.prog 20 [.sl (l.map bF.enc),.sl (m.map bF.enc)] (nB (rW lI l m)):=by
 refine SD ⟨_,?_,rfl⟩
 refine To (ak.intro (fun h=>?_) fun h=>?_)
 ·rw[oJ (by simp at h;omega)]
 ·have DH:l.length=m.length:=by simp at h;omega
  refine aB.intro (fun k:Nat=>((m.map bF.enc,(),l.map bF.enc,(l.length:Int),(k:Int),()),())) (fun k=>k≤l.length∧rW lI l m=rW lI (l.drop k) (m.drop k)) (fun k=>l.length-k) 0 (by rw[ahX];rfl) ⟨ah3 _,rfl⟩ ?_
  intro k ⟨hk,hs⟩ again bO
  dsimp only
  refine ak.intro (fun h=>?_) fun h=>?_
  ·have ay:k<l.length:=by simpa using h
   rw[nD ay (by omega)] at hs
   have hi:=Il (s:=l[k]) (t:=m[k]'(by omega)) (hp _ (ah1 ay))
   have g1:List.getD (l.map bF.enc) (Int.toNat (k:Int)) .top=bF.enc l[k]:=getD_map ay
   have g2:List.getD (m.map bF.enc) (Int.toNat (k:Int)) .top=bF.enc (m[k]'(by omega)):=getD_map (by omega)
   refine⟨by omega,by rw[ahX];omega,_,_,_,_,g1,by omega,by rw[ahX];omega,_,_,_,_,g2,_,hi,ak.intro (fun h=>?_) fun h=>?_⟩
   ·have:lI l[k] (m[k]'(by omega))=false:=by simpa using h
    rw[hs,this,aih]
   ·have he:lI l[k] (m[k]'(by omega))=true:=by simpa using h
    rw[he,aim] at hs
    rw[aL (by omega)]
    exact bO (k+1) ⟨by omega,hs⟩ (by omega)
  ·have:l.length≤k:=by simpa using h
   rw[ah8 this,ah8 (by omega)] at hs
   rw[hs];rfl
theorem Im {l m:aP} (h:l.Sz):av Tryz.prog 53 [l.enc,m.enc] (nB (rE l m)):=by
 have h1:=qW _ l.left m.left (ah5 _) (by have:=h.left;omega)
 have h2:=qW _ l.right m.right (ah5 _) (by have:=h.right;omega)
 have h3:=oB (l:=l.aO) (m:=m.aO) (by have:=Ty.bA l.aO;have:=h.aO;omega) fun k k1 k2=>vT _ l.aO[k] m.aO[k] (ah5 _) (by have:=Ty.cN (ah1 k1);have:=h.aO;omega)
 have h4:=Gi (l:=l.steps) (m:=m.steps) h.len h.steps
 have h5:av Tryz.prog 54 [.agg (QH l.left++QH l.right++[.sl (l.aO.map Ty.enc)]),.agg (QH m.left++QH m.right++[.sl (m.aO.map Ty.enc)])] (nB (w6 l m)):=by
  refine Sx ⟨_,h1,ak.intro (fun c1=>⟨_,h2,ak.intro (fun c2=>⟨_,h3,?_⟩) fun c2=>?_⟩) fun c1=>?_⟩
  ·rw[w6,c1,c2,aim,aim]
  ·rw[w6,c1,c2,aim,aih]
  ·rw[w6,c1,aih]
 refine SF ⟨_,h5,ak.intro (fun c1=>⟨_,h4,?_⟩) fun c1=>?_⟩
 ·rw[rE,c1,aim]
 ·rw[rE,c1,aih]
theorem C8 {l m:List aP} (hl:l.length≤1000000000) (hp:∀s∈l,s.Sz):av Tryz.prog 13 [.agg [.sl (l.map aP.enc)],.agg [.sl (m.map aP.enc)]] (nB (rW rE l m)):=by
 refine SE ⟨_,?_,rfl⟩
 refine Ts (ak.intro (fun h=>?_) fun h=>?_)
 ·rw[oJ (by simp at h;omega)]
 ·have DH:l.length=m.length:=by simp at h;omega
  refine aB.intro (fun k:Nat=>((m.map aP.enc,(),l.map aP.enc,(l.length:Int),(k:Int),()),())) (fun k=>k≤l.length∧rW rE l m=rW rE (l.drop k) (m.drop k)) (fun k=>l.length-k) 0 (by rw[ahX];rfl) ⟨ah3 _,rfl⟩ ?_
  intro k ⟨hk,hs⟩ again bO
  dsimp only
  refine ak.intro (fun h=>?_) fun h=>?_
  ·have ay:k<l.length:=by simpa using h
   rw[nD ay (by omega)] at hs
   have hi:=Im (l:=l[k]) (m:=m[k]'(by omega)) (hp _ (ah1 ay))
   have g1:List.getD (l.map aP.enc) (Int.toNat (k:Int)) .top=aP.enc l[k]:=getD_map ay
   have g2:List.getD (m.map aP.enc) (Int.toNat (k:Int)) .top=aP.enc (m[k]'(by omega)):=getD_map (by omega)
   refine⟨by omega,by rw[ahX];omega,_,_,_,_,_,_,_,_,_,_,g1,by omega,by rw[ahX];omega,_,_,_,_,_,_,_,_,_,_,g2,_,hi,ak.intro (fun h=>?_) fun h=>?_⟩
   ·have:rE l[k] (m[k]'(by omega))=false:=by simpa using h
    rw[hs,this,aih]
   ·have he:rE l[k] (m[k]'(by omega))=true:=by simpa using h
    rw[he,aim] at hs
    rw[aL (by omega)]
    exact bO (k+1) ⟨by omega,hs⟩ (by omega)
  ·have:l.length≤k:=by simpa using h
   rw[ah8 this,ah8 (by omega)] at hs
   rw[hs];rfl
def bF.cut (s:bF):bF:=⟨s.eq,s.back,s.path,s.sub.take 10⟩
def aP.cut (l:aP):aP:=⟨l.left,l.right,l.aO,(l.steps.take 8).map bF.cut⟩
def Gj (ls:List aP):List aP:=(ls.take 6).map aP.cut
def mq (p:Int×Tm):Bool:=[p.2].all (Tm.jr 150 70)&&Tm.rD [p.2]
def nE (s:bF):Bool:=(s.sub.take 10).all mq&&decide (s.path.length≤100)
def mu (l:aP):Bool:=[l.left,l.right].all (Tm.jr 150 70)&&(mG [] [] l.aO&&(l.steps.take 8).all nE)
theorem C9 {α:Type} {l:List α} {k n:Nat} (h:k<l.length) (hn:k<n):(l.take n).drop k=l[k]::(l.take n).drop (k+1):=by
 rw[ah6 (by rw[aid];omega),List.getElem_take]
theorem Io {α:Type} {l:List α} {k n:Nat} (h:k<l.length) (hn:k<n):l[k]∈l.take n:=by
 have:=aji (l:=l.take n) (i:=k) (a:=l[k]) (by rw[C9 h hn];exact aia)
 exact this
theorem jH {α:Type} {l:List α} {k n:Nat} (h:l.length≤k∨n≤k):(l.take n).drop k=[]:=ah8 (by rw[aid];omega)
theorem nF {α:Type} {l:List α} {k n:Nat} (h:l.length≤k∨n≤k) (hn:k≤n):l.take k=l.take n:=by
 by_cases e:k=n
 ·rw[e]
 ·rw[ah9 (by omega),ah9 (by omega)]
theorem Ip {p:Int×Tm} (h:mq p=true):p.2.size≤150:=by
 rw[mq,ahZ] at h
 exact Tm.kU (ah4.1 h.1 _ (air.2 rfl))
theorem Da {l:List (Int×Tm)}:av Tryz.prog 72 [.sl (l.map bp)] (nB ((l.take 10).all mq)):=by
 refine S8 ?_
 refine aB.intro (fun k:Nat=>((l.map bp,(k:Int),()),())) (fun k=>k≤10∧(l.take 10).all mq=((l.take 10).drop k).all mq) (fun k=>10-k) 0 rfl ⟨ah3 _,rfl⟩ ?_
 intro k ⟨hk,hs⟩ again bO
 dsimp only
 rw[ahX]
 refine ak.intro (fun h=>ak.intro (fun h2=>?_) fun h2=>?_) fun h=>?_
 ·have ay:k<l.length:=by simpa using h
  have LQ:k<10:=by simp at h2;omega
  rw[C9 ay LQ,ai5] at hs
  have g:List.getD (l.map bp) (Int.toNat (k:Int)) .top=bp l[k]:=getD_map ay
  have hf:=Bj (l:=[l[k].2]) (by simp)
  rw[ais,aiY,Tm.aF] at hf
  refine⟨by omega,by rw[ahX];omega,_,_,_,_,_,g,_,hf,ak.intro (fun c=>?_) fun c=>?_⟩
  ·have:mq l[k]=false:=by
    have:[l[k].2].all (Tm.jr 150 70)=false:=by simpa using c
    rw[mq,this,aih]
   rw[hs,this,aih]
  ·have W4:[l[k].2].all (Tm.jr 150 70)=true:=by simpa using c
   have cJ:l[k].2.size≤150:=Tm.kU (ah4.1 W4 _ (air.2 rfl))
   have hl:=LI _ [l[k].2] (ah5 _) (by simp only[Tm.sizes];omega)
   rw[ais,aiY,Tm.aF] at hl
   refine⟨by omega,by rw[ahX];omega,_,_,_,_,_,g,_,hl,ak.intro (fun c2=>?_) fun c2=>?_⟩
   ·have:mq l[k]=false:=by
     have:Tm.rD [l[k].2]=false:=by simpa using c2
     rw[mq,this,ai3]
    rw[hs,this,aih]
   ·have:mq l[k]=true:=by
     have:Tm.rD [l[k].2]=true:=by simpa using c2
     rw[mq,this,W4];rfl
    rw[this,aim] at hs
    rw[aL (by omega)]
    exact bO (k+1) ⟨by omega,hs⟩ (by omega)
 ·rw[jH (.inr (by simp at h2;omega))] at hs
  rw[hs];rfl
 ·rw[jH (.inl (by simpa using h))] at hs
  rw[hs];rfl
theorem Db {l:List bF}:av Tryz.prog 33 [.sl (l.map bF.enc)] (nB ((l.take 8).all nE)):=by
 refine Tj ?_
 refine aB.intro (fun k:Nat=>((l.map bF.enc,(k:Int),()),())) (fun k=>k≤8∧(l.take 8).all nE=((l.take 8).drop k).all nE) (fun k=>8-k) 0 rfl ⟨ah3 _,rfl⟩ ?_
 intro k ⟨hk,hs⟩ again bO
 dsimp only
 unfold Ki
 rw[ahX]
 refine ak.intro (fun h=>ak.intro (fun h2=>?_) fun h2=>?_) fun h=>?_
 ·have ay:k<l.length:=by simpa using h
  have LQ:k<8:=by simp at h2;omega
  rw[C9 ay LQ,ai5] at hs
  have g:List.getD (l.map bF.enc) (Int.toNat (k:Int)) .top=bF.enc l[k]:=getD_map ay
  refine⟨by omega,by omega,_,_,_,_,g,_,Da,ak.intro (fun c=>?_) fun c=>?_⟩
  ·have:nE l[k]=false:=by
    have:(l[k].sub.take 10).all mq=false:=by simpa using c
    rw[nE,this,aih]
   rw[hs,this,aih]
  ·have W4:(l[k].sub.take 10).all mq=true:=by simpa using c
   refine⟨by omega,by omega,_,_,_,_,g,?_⟩
   rw[bu]
   refine ak.intro (fun c2=>?_) fun c2=>?_
   ·have:nE l[k]=false:=by
     rw[nE,decide_eq_false (by simp at c2;omega),ai3]
    rw[hs,this,aih]
   ·have:nE l[k]=true:=by
     rw[nE,W4,decide_eq_true (by simp at c2;omega)];rfl
    rw[this,aim] at hs
    rw[aL (by omega)]
    exact bO (k+1) ⟨by omega,hs⟩ (by omega)
 ·rw[jH (.inr (by simp at h2;omega))] at hs
  rw[hs];rfl
 ·rw[jH (.inl (by simpa using h))] at hs
  rw[hs];rfl
theorem Dc {l:List aP}:av Tryz.prog 6 [.sl (l.map aP.enc)] (nB ((l.take 6).all mu)):=by
 refine WW ?_
 refine aB.intro (fun k:Nat=>((l.map aP.enc,(k:Int),()),())) (fun k=>k≤6∧(l.take 6).all mu=((l.take 6).drop k).all mu) (fun k=>6-k) 0 rfl ⟨ah3 _,rfl⟩ ?_
 intro k ⟨hk,hs⟩ again bO
 dsimp only
 rw[ahX]
 refine ak.intro (fun h=>ak.intro (fun h2=>?_) fun h2=>?_) fun h=>?_
 ·have ay:k<l.length:=by simpa using h
  have LQ:k<6:=by simp at h2;omega
  rw[C9 ay LQ,ai5] at hs
  have g:List.getD (l.map aP.enc) (Int.toNat (k:Int)) .top=aP.enc l[k]:=getD_map ay
  have hf:=Bj (l:=[l[k].left,l[k].right]) (by simp)
  rw[ais,ais,aiY,Tm.aF,Tm.aF] at hf
  have hw:=Gb 0 [] [] l[k].aO
  refine⟨by omega,by rw[ahX];omega,_,_,_,_,_,_,_,_,_,_,g,_,hf,ak.intro (fun c=>?_) fun c=>⟨_,hw,ak.intro (fun c2=>?_) fun c2=>⟨by omega,by rw[ahX];omega,_,_,_,_,_,_,_,_,_,_,g,_,Db,ak.intro (fun c3=>?_) fun c3=>?_⟩⟩⟩
  ·have:mu l[k]=false:=by
    have:[l[k].left,l[k].right].all (Tm.jr 150 70)=false:=by simpa only[aiA] using c
    rw[mu,this,aih]
   rw[hs,this,aih]
  ·have:mu l[k]=false:=by
    have:mG [] [] l[k].aO=false:=by simpa only[aiA] using c2
    rw[mu,this,aih,ai3]
   rw[hs,this,aih]
  ·have:mu l[k]=false:=by
    have:(l[k].steps.take 8).all nE=false:=by simpa only[aiA] using c3
    rw[mu,this,ai3,ai3]
   rw[hs,this,aih]
  ·have:mu l[k]=true:=by
    have e1:[l[k].left,l[k].right].all (Tm.jr 150 70)=true:=by simpa only[ajd] using c
    have e2:mG [] [] l[k].aO=true:=by simpa only[ajd] using c2
    have e3:(l[k].steps.take 8).all nE=true:=by simpa only[ajd] using c3
    rw[mu,e1,e2,e3];rfl
   rw[this,aim] at hs
   rw[aL (by omega)]
   exact bO (k+1) ⟨by omega,hs⟩ (by omega)
 ·rw[jH (.inr (by simp at h2;omega))] at hs
  rw[hs];rfl
 ·rw[jH (.inl (by simpa using h))] at hs
  rw[hs];rfl
theorem Gk {l:List (Int×Tm)} (hz:∀p∈l.take 10,p.2.size≤1000000):av Tryz.prog 78 [.sl (l.map bp)] (.sl ((l.take 10).map bp)):=by
 refine S2 ⟨rfl,?_⟩
 refine aB.intro (fun k:Nat=>((l.map bp,(),(k:Int),()),((l.take k).map bp,()))) (fun k=>k≤10) (fun k=>10-k) 0 rfl (ah3 _) ?_
 intro k hk again bO
 dsimp only
 rw[ahX]
 refine ak.intro (fun h=>ak.intro (fun h2=>?_) fun h2=>?_) fun h=>?_
 ·have ay:k<l.length:=by simpa using h
  have LQ:k<10:=by simp at h2;omega
  have g:List.getD (l.map bp) (Int.toNat (k:Int)) .top=bp l[k]:=getD_map ay
  have hi:=sH _ l[k].2 (ah5 _) (by have:=hz l[k] (Io ay LQ);omega)
  rw[Tm.aF] at hi
  refine⟨by omega,by rw[ahX];omega,_,_,_,_,_,g,by omega,by rw[ahX];omega,_,_,_,_,_,g,_,_,_,_,hi,rfl,aJ rfl (by simp;omega) (by decide),rfl,?_⟩
  have e:(l.take k).map bp++[bp l[k]]=(l.take (k+1)).map bp:=by rw[←aH ay,aii];rfl
  have:=bO (k+1) (by omega) (by omega)
  rw[←e] at this
  rw[aL (by omega)]
  exact this
 ·exact⟨rfl,by rw[nF (.inr (by simp at h2;omega)) hk]⟩
 ·exact⟨rfl,by rw[nF (.inl (by simpa using h)) hk]⟩
theorem Gl {l:List (Int×Tm)} (hl:l.length≤1000000) (hz:∀p∈l,p.2.size≤1000000):av Tryz.prog 57 [.sl (l.map bp)] (.sl (l.map bp)):=by
 refine S5 ⟨rfl,?_⟩
 refine aB.intro (fun k:Nat=>((l.map bp,(),(k:Int),()),((l.take k).map bp,()))) (fun k=>k≤l.length) (fun k=>l.length-k) 0 rfl (ah3 _) ?_
 intro k hk again bO
 dsimp only
 unfold J9
 rw[ahX]
 refine ak.intro (fun h=>?_) fun h=>?_
 ·have ay:k<l.length:=by simpa using h
  have g:List.getD (l.map bp) (Int.toNat (k:Int)) .top=bp l[k]:=getD_map ay
  have hi:=sI _ l[k].2 (ah5 _) (by have:=hz l[k] (ah1 ay);omega)
  rw[Tm.aF] at hi
  refine⟨by omega,by omega,_,_,_,_,_,g,by omega,by omega,_,_,_,_,_,g,_,_,_,_,hi,rfl,aJ rfl (by simp;omega) (by decide),rfl,?_⟩
  have e:(l.take k).map bp++[bp l[k]]=(l.take (k+1)).map bp:=by rw[←aH ay,aii];rfl
  have:=bO (k+1) (by omega) (by omega)
  rw[←e] at this
  rw[aL (by omega)]
  exact this
 ·exact⟨rfl,by rw[ah9 (by simpa using h)]⟩
theorem Gm {l:List bF} (hz:∀s∈l.take 8,∀p∈s.sub.take 10,p.2.size≤1000000):av Tryz.prog 36 [.sl (l.map bF.enc)] (.sl (((l.take 8).map bF.cut).map bF.enc)):=by
 refine Td ⟨rfl,?_⟩
 refine aB.intro (fun k:Nat=>((l.map bF.enc,(),(k:Int),()),(((l.take k).map bF.cut).map bF.enc,()))) (fun k=>k≤8) (fun k=>8-k) 0 rfl (ah3 _) ?_
 intro k hk again bO
 dsimp only
 rw[ahX]
 refine ak.intro (fun h=>ak.intro (fun h2=>?_) fun h2=>?_) fun h=>?_
 ·have ay:k<l.length:=by simpa using h
  have LQ:k<8:=by simp at h2;omega
  have g:List.getD (l.map bF.enc) (Int.toNat (k:Int)) .top=bF.enc l[k]:=getD_map ay
  have hi:=Gk (l:=l[k].sub) (hz l[k] (Io ay LQ))
  refine⟨by omega,by rw[ahX];omega,_,_,_,_,g,by omega,by rw[ahX];omega,_,_,_,_,g,by omega,by rw[ahX];omega,_,_,_,_,g,by omega,by rw[ahX];omega,_,_,_,_,g,_,hi,rfl,aJ rfl (by simp;omega) (by decide),rfl,?_⟩
  have e:((l.take k).map bF.cut).map bF.enc++[bF.enc (bF.cut l[k])]=((l.take (k+1)).map bF.cut).map bF.enc:=by rw[←aH ay,aii,aii];rfl
  have:=bO (k+1) (by omega) (by omega)
  rw[←e] at this
  rw[aL (by omega)]
  exact this
 ·exact⟨rfl,by rw[nF (.inr (by simp at h2;omega)) hk]⟩
 ·exact⟨rfl,by rw[nF (.inl (by simpa using h)) hk]⟩
theorem Gn {l:List bF} (hl:l.length≤1000000) (hz:∀s∈l,s.sub.length≤1000000∧∀p∈s.sub,p.2.size≤1000000):av Tryz.prog 15 [.sl (l.map bF.enc)] (.sl (l.map bF.enc)):=by
 refine Tf ⟨rfl,?_⟩
 refine aB.intro (fun k:Nat=>((l.map bF.enc,(),(k:Int),()),((l.take k).map bF.enc,()))) (fun k=>k≤l.length) (fun k=>l.length-k) 0 rfl (ah3 _) ?_
 intro k hk again bO
 dsimp only
 unfold Ke
 rw[ahX]
 refine ak.intro (fun h=>?_) fun h=>?_
 ·have ay:k<l.length:=by simpa using h
  have g:List.getD (l.map bF.enc) (Int.toNat (k:Int)) .top=bF.enc l[k]:=getD_map ay
  have hi:=Gl (hz l[k] (ah1 ay)).1 (hz l[k] (ah1 ay)).2
  refine⟨by omega,by omega,_,_,_,_,g,by omega,by omega,_,_,_,_,g,by omega,by omega,_,_,_,_,g,by omega,by omega,_,_,_,_,g,_,hi,rfl,aJ rfl (by simp;omega) (by decide),rfl,?_⟩
  have e:(l.take k).map bF.enc++[bF.enc l[k]]=(l.take (k+1)).map bF.enc:=by rw[←aH ay,aii];rfl
  have:=bO (k+1) (by omega) (by omega)
  rw[←e] at this
  rw[aL (by omega)]
  exact this
 ·exact⟨rfl,by rw[ah9 (by simpa using h)]⟩
abbrev Mq (l:aP):List AV:=[.sl (l.left.binds.map Ty.enc),nI l.left.kind,nI l.left.index,.sl (l.left.args.map Tm.enc),.sl (l.right.binds.map Ty.enc),nI l.right.kind,nI l.right.index,.sl (l.right.args.map Tm.enc),.sl (l.aO.map Ty.enc)]
theorem Iq {l:aP} (h1:l.left.size≤1000000) (h2:l.right.size≤1000000) (h3:Ty.sizes l.aO≤1000000000):av Tryz.prog 35 [.agg (Mq l)] (.agg (Mq l)):=by
 have a:=sH _ l.left (ah5 _) (by omega)
 have b:=sH _ l.right (ah5 _) (by omega)
 rw[Tm.aF] at a b
 exact S9 ⟨_,_,_,_,a,_,_,_,_,b,_,vW h3,rfl⟩
theorem Ir {l:aP} (h1:l.left.size≤1000000) (h2:l.right.size≤1000000) (h3:Ty.sizes l.aO≤1000000000):av Tryz.prog 23 [.agg (Mq l)] (.agg (Mq l)):=by
 have a:=sI _ l.left (ah5 _) (by omega)
 have b:=sI _ l.right (ah5 _) (by omega)
 rw[Tm.aF] at a b
 exact Ta ⟨_,_,_,_,a,_,_,_,_,b,_,vX h3,rfl⟩
structure aP.QL (l:aP):Prop where
 left:l.left.size≤150
 right:l.right.size≤150
 ml:l.aO.length≤20
 aO:∀t∈l.aO,t.size≤60
 steps:∀s∈l.steps.take 8,(∀p∈s.sub.take 10,p.2.size≤150)∧s.path.length≤100
theorem LR {l:aP} (h:mu l=true):l.QL:=by
 rw[mu,ahZ,ahZ] at h
 obtain⟨h1,h2,h3⟩:=h
 rw[mG,ahZ,decide_eq_true_eq] at h2
 refine⟨Tm.kU (ah4.1 h1 _ aia),Tm.kU (ah4.1 h1 _ (aip _ (air.2 rfl))),h2.1.2.2,fun t ht=>Ty.kU (ah4.1 h2.2 _ (by simpa using ht)),fun s hs=>?_⟩
 have:=ah4.1 h3 _ hs
 rw[nE,ahZ,decide_eq_true_eq] at this
 exact⟨fun p hp=>Ip (ah4.1 this.1 _ hp),this.2⟩
theorem KD:∀{l:List Ty} {c:Nat},(∀t∈l,t.size≤c)→Ty.sizes l≤l.length*c
 | [],c,_=>by simp[Ty.sizes]
 |t::l,c,h=>by
  have:=h t aia
  have:=KD (l:=l) (c:=c) fun u hu=>h u (aip _ hu)
  rw[Ty.sizes,aif,Nat.succ_mul];omega
theorem aP.QL.tys {l:aP} (h:l.QL):Ty.sizes l.aO≤1200:=by
 have h1:=KD h.aO
 have h2:l.aO.length*60≤20*60:=aiZ _ h.ml
 omega
theorem Gp {l:List aP} (hf:∀x∈l.take 6,x.QL):av Tryz.prog 8 [.sl (l.map aP.enc)] (.agg [.sl ((Gj l).map aP.enc)]):=by
 refine WT ⟨rfl,?_⟩
 refine aB.intro (fun k:Nat=>((l.map aP.enc,(),(),(k:Int),()),(((),()),((),()),((l.take k).map aP.cut).map aP.enc,()))) (fun k=>k≤6) (fun k=>6-k) 0 rfl (ah3 _) ?_
 intro k hk again bO
 dsimp only
 rw[ahX]
 refine ak.intro (fun h=>ak.intro (fun h2=>?_) fun h2=>?_) fun h=>?_
 ·have ay:k<l.length:=by simpa using h
  have LQ:k<6:=by simp at h2;omega
  have g:List.getD (l.map aP.enc) (Int.toNat (k:Int)) .top=aP.enc l[k]:=getD_map ay
  have hx:=hf l[k] (Io ay LQ)
  have hp:=Iq (l:=l[k]) (by have:=hx.left;omega) (by have:=hx.right;omega) (by have:=hx.tys;omega)
  have hi:=Gm (l:=l[k].steps) fun s hs p hp=>by have:=(hx.steps s hs).1 p hp;omega
  refine⟨by omega,by rw[ahX];omega,_,_,_,_,_,_,_,_,_,_,g,_,_,_,_,_,_,_,_,_,hp,by omega,by rw[ahX];omega,_,_,_,_,_,_,_,_,_,_,g,_,hi,rfl,aJ rfl (by simp;omega) (by decide),rfl,?_⟩
  have e:((l.take k).map aP.cut).map aP.enc++[aP.enc (aP.cut l[k])]=((l.take (k+1)).map aP.cut).map aP.enc:=by rw[←aH ay,aii,aii];rfl
  have:=bO (k+1) (by omega) (by omega)
  rw[←e] at this
  rw[aL (by omega)]
  exact this
 ·exact⟨rfl,by rw[Gj,nF (.inr (by simp at h2;omega)) hk]⟩
 ·exact⟨rfl,by rw[Gj,nF (.inl (by simpa using h)) hk]⟩
structure aP.Cut (l:aP):Prop where
 jg:l.QL
 sl:l.steps.length≤8
 P3:∀s∈l.steps,s.sub.length≤10
theorem aP.Cut.sub {l:aP} (h:l.Cut) {s:bF} (hs:s∈l.steps):(∀p∈s.sub,p.2.size≤150)∧s.path.length≤100:=by
 have:=h.jg.steps s (by rw[ah9 h.sl];exact hs)
 rw[ah9 (h.P3 s hs)] at this
 exact this
theorem aP.QL.cut {l:aP} (h:l.QL):l.cut.Cut:=by
 have e:(l.cut.steps.take 8)=l.cut.steps:=ah9 (by show ((l.steps.take 8).map bF.cut).length≤8;rw[ahX,aid];omega)
 refine⟨⟨h.left,h.right,h.ml,h.aO,fun s hs=>?_⟩,?_,fun s hs=>?_⟩
 ·rw[e] at hs
  obtain⟨s0,h0,rfl⟩:=aiQ.1 hs
  have:=h.steps s0 h0
  refine⟨fun p hp=>this.1 p ?_,this.2⟩
  exact aiR hp
 ·show ((l.steps.take 8).map bF.cut).length≤8
  rw[ahX,aid];omega
 ·obtain⟨s0,h0,rfl⟩:=aiQ.1 hs
  show (s0.sub.take 10).length≤10
  rw[aid];omega
theorem P4 {ls:List aP} (h:∀l∈ls.take 6,l.QL):∀l∈Gj ls,l.Cut:=fun l hl=>by
 obtain⟨l0,h0,rfl⟩:=aiQ.1 hl
 exact(h l0 h0).cut
theorem P5 (ls:List aP):(Gj ls).length≤6:=by rw[Gj,ahX,aid];omega
theorem wk {l:List aP} (hl:l.length≤6) (hf:∀x∈l,x.Cut):av Tryz.prog 11 [.agg [.sl (l.map aP.enc)]] (.sl (l.map aP.enc)):=by
 refine Th ⟨rfl,?_⟩
 refine aB.intro (fun k:Nat=>(((),(),(k:Int),()),((l.map aP.enc,()),(l.take k).map aP.enc,()))) (fun k=>k≤l.length) (fun k=>l.length-k) 0 rfl (ah3 _) ?_
 intro k hk again bO
 dsimp only
 unfold Kg
 rw[ahX]
 refine ak.intro (fun h=>?_) fun h=>?_
 ·have ay:k<l.length:=by simpa using h
  have g:List.getD (l.map aP.enc) (Int.toNat (k:Int)) .top=aP.enc l[k]:=getD_map ay
  have hx:=hf l[k] (ah1 ay)
  have hp:=Ir (l:=l[k]) (by have:=hx.jg.left;omega) (by have:=hx.jg.right;omega) (by have:=hx.jg.tys;omega)
  have hi:=Gn (l:=l[k].steps) (by have:=hx.sl;omega) fun s hs=>⟨by have:=hx.P3 s hs;omega,fun p hp=>by have:=(hx.sub hs).1 p hp;omega⟩
  refine⟨by omega,by omega,_,_,_,_,_,_,_,_,_,_,g,_,_,_,_,_,_,_,_,_,hp,by omega,by omega,_,_,_,_,_,_,_,_,_,_,g,_,hi,rfl,aJ rfl (by simp;omega) (by decide),rfl,?_⟩
  have e:(l.take k).map aP.enc++[aP.enc l[k]]=(l.take (k+1)).map aP.enc:=by rw[←aH ay,aii];rfl
  have:=bO (k+1) (by omega) (by omega)
  rw[←e] at this
  rw[aL (by omega)]
  exact this
 ·exact⟨rfl,by rw[ah9 (by simpa using h)]⟩
def fk (c:Int) (l:List Int):Nat:=(l.takeWhile (· != c)).length
def Dd (c:Int) (l:List Int):Int:=if fk c l=l.length then -1 else(fk c l:Int)
theorem jI (c b:Int) (l:List Int):fk c (b::l)=if b=c then 0 else fk c l+1:=by
 unfold fk
 rw[ajN]
 by_cases h:b=c
 ·simp[h]
 ·rw[if_neg h,if_pos (by simpa using h)];rfl
theorem xS (c:Int) (l:List Int):fk c l≤l.length:=by
 induction l with
 |nil=>simp[fk]
 |cons b l ih=>rw[jI,aif];split<;>omega
theorem KE {c:Int} {l:List Int} {n:Nat} (h:n≤fk c l):∀b∈l.take n,b≠c:=by
 induction l generalizing n with
 |nil=>simp
 |cons b l ih=>
  rw[jI] at h
  cases n with
  |zero=>simp
  |succ n=>
   split at h
   ·omega
   ·rename_i hb
    intro x hx
    rw[List.take_succ_cons] at hx
    rcases aiC.1 hx with rfl|hx
    ·exact hb
    ·exact ih (by omega) x hx
theorem Ut {c:Int} {l:List Int} (h:fk c l<l.length):l[fk c l]=c:=by
 induction l with
 |nil=>simp at h
 |cons b l ih=>
  simp only[jI,aif] at h ⊢
  by_cases hb:b=c
  ·simp only[if_pos hb];simpa using hb
  ·simp only[if_neg hb] at h ⊢
   simp only[List.getElem_cons_succ]
   exact ih (by omega)
theorem idx_eq (l:List UInt8) (c:UInt8):Lib.indexByte l c=Dd (c.toNat:Int) (l.map fun b=>(b.toNat:Int)):=by
 induction l with
 |nil=>rfl
 |cons b l ih=>
  unfold Lib.indexByte Dd
  rw[ih,ais,jI,aif]
  have hle:=xS (c.toNat:Int) (l.map fun b=>(b.toNat:Int))
  by_cases h:b=c
  ·subst h;simp
  ·have h2:¬(b.toNat:Int)=(c.toNat:Int):=fun e=>h (UInt8.toNat_inj.1 (by omega))
   rw[if_neg (by simpa using h),if_neg h2]
   unfold Dd
   by_cases hr:fk (c.toNat:Int) (l.map fun b=>(b.toNat:Int))=(l.map fun b=>(b.toNat:Int)).length
   ·rw[if_pos hr,hr,if_pos rfl];rfl
   ·have bK:((((fk (c.toNat:Int) (l.map fun b=>(b.toNat:Int)):Nat):Int)) == -1)=false:=beq_eq_false_iff_ne.2 (by omega)
    rw[if_neg hr,if_neg (by rw[bK];decide),if_neg (fun e=>hr (by omega))];omega
theorem ig {s:ByteArray} {c:Int} (h0:0≤c) (h1:c≤255):av Tryz.prog 118 [nS s,.ah (.int .u8 c)] (nI (Dd c (aj s))):=by
 refine⟨⟨_,Tryz.func118,by kernel_rfl,by kernel_rfl⟩,fun w F bB hF hg hv=>?_⟩
 match bB,hv with
 | [v0,v1],⟨r0,r1,_⟩=>
  cases r0;cases r1
  refine callsIn_wide.2 ((Any.strings_IndexByte WJ s c w).mono ?_)
  rintro e w' ⟨rfl,rfl⟩
  refine⟨_,_,rfl,rfl,bX.refl _,?_⟩
  have:(c.toNat.toUInt8.toNat:Int)=c:=by
   have:c.toNat.toUInt8.toNat=c.toNat % 256:=rfl
   rw[this];omega
  rw[idx_eq,this]
  exact .ah _
def lJ (s:ByteArray):Nat→Nat→List (Nat×ByteArray)
 |0,_=>[]
 |f+1,a=>(a,s.extract a (a+fk 10 ((aj s).drop a)))::(if a+fk 10 ((aj s).drop a)=s.size then[] else lJ s f (a+fk 10 ((aj s).drop a)+1))
def Uu (p:Nat×ByteArray):Int×ByteArray×Unit:=((p.1:Int),p.2,())
def P6 (p:Nat×ByteArray):List AV:=[nI (p.1:Int),nS p.2]
theorem gH {s:ByteArray} {a:Nat}:aj (s.extract a s.size)=(aj s).drop a:=by
 rw[gy,ah9]
 rw[aix,bI];exact ah5 _
theorem De {s:ByteArray} (hs:s.size≤1000000000):NP Tryz.prog 144 (fun v=>[v,.cL (nS s) 0]) ((lJ s (s.size+1) 0).map P6) false:=by
 have hl:=bI s
 refine Pr fun yv more=>⟨rfl,?_⟩
 refine aB.intro (fun p:Nat×Nat=>(((yv,(),(p.2:Int),()),()),some ((lJ s p.1 p.2).map P6++more))) (fun p=>p.2≤s.size∧s.size+1≤p.1+p.2) (fun p=>s.size+1-p.2) (s.size+1,0) rfl ⟨ah3 _,by dsimp only;omega⟩ ?_
 intro ⟨f,a⟩ ⟨ha,hf⟩ again bO
 dsimp only at ha hf ⊢
 obtain⟨f,rfl⟩:∃g,f=g+1:=⟨f-1,by omega⟩
 have hr:=xS 10 ((aj s).drop a)
 rw[aix,hl] at hr
 have Mr:=ig (s:=s.extract a s.size) (c:=10) (by decide) (by decide)
 rw[gH,Dd,aix,hl] at Mr
 refine⟨⟨by omega,by omega,by omega⟩,_,Mr,?_⟩
 by_cases he:fk 10 ((aj s).drop a)=s.size-a
 ·rw[if_pos he]
  refine ak.pos (by decide) ⟨⟨by omega,by omega,by omega⟩,rfl,more,?_,fun b=>⟨b,rfl⟩⟩
  rw[lJ,he,if_pos (by omega)]
  have:a+(s.size-a)=s.size:=by omega
  rw[this];rfl
 ·rw[if_neg he]
  have w1:IntKind.wrap .i64 ((a:Int)+((fk 10 ((aj s).drop a):Nat):Int))=((a+fk 10 ((aj s).drop a):Nat):Int):=by rw[bH (by omega) (by omega)];omega
  have w2:IntKind.wrap .i64 ((a:Int)+IntKind.wrap .i64 (((fk 10 ((aj s).drop a):Nat):Int)+1))=((a+fk 10 ((aj s).drop a)+1:Nat):Int):=by rw[aL (by omega),bH (by omega) (by omega)];omega
  rw[w1,w2]
  refine ak.neg (decide_eq_false (by omega)) ⟨⟨by omega,by omega,by omega⟩,rfl,(lJ s f (a+fk 10 ((aj s).drop a)+1)).map P6++more,?_,fun b=>ak.intro (fun h=>?_) fun h=>?_⟩
  ·rw[lJ,if_neg (by omega)];rfl
  ·have:b=false:=by simpa using h
   subst this
   exact⟨false,rfl⟩
  ·have:b=true:=by simpa using h
   subst this
   exact⟨rfl,bO (f,_) ⟨by dsimp only;omega,by dsimp only;omega⟩ (by dsimp only;omega)⟩
theorem LS {s:ByteArray} (hs:s.size≤1000000000):EW Tryz.prog 144 [.cL (nS s) 0] [.v (.c (.i .i64)),.v (.c (.s))] ((lJ s (s.size+1) 0).map Uu):=
 OQ (Ch:=[.v (.c (.i .i64)),.v (.c (.s))]) Uu (De hs)
theorem vq (m:Int×Int) (a b:List Int):mg m (a++b)=mg (mg m a) b:=by
 induction a generalizing m with
 |nil=>rfl
 |cons c a ih=>exact ih _
theorem Gq {l:List Int} (m:Int×Int) (h:∀b∈l,b≠10):mg m l=(m.1,m.2+l.length):=by
 induction l generalizing m with
 |nil=>simp[mg]
 |cons c l ih=>
  have hc:(c==10)=false:=by simpa using h c aia
  rw[mg,hc,ih _ fun b hb=>h b (aip _ hb)]
  simp;omega
def zx (s:ByteArray) (i:Nat):AV:=.agg [nI (mg (1,1) ((aj s).take i)).1,nI (mg (1,1) ((aj s).take i)).2]
theorem rX {s:ByteArray} {i:Nat} (hi:i≤s.size) (hs:s.size≤1000000000):av Tryz.prog 85 [nS s,nI (i:Int)] (.aX [zx s i,nI 0]):=by
 have hl:=bI s
 refine TV (ak.neg (decide_eq_false (by omega)) (ak.neg (decide_eq_false (by omega)) ⟨Po rfl,?_⟩))
 refine za.WK (fun n:Nat=>(((i:Int),()),(0,0,()),(0,()),((n:Int),()),())) Uu (lJ s (s.size+1) 0) (LS hs)
  (fun rest n=>∃f a,rest=lJ s f a∧a≤i∧s.size+1≤f+a∧n≤a∧mg (1,1) ((aj s).take a)=(((n+1:Nat):Int),1)) 0 rfl ⟨_,_,rfl,ah3 _,ah5 _,ah5 _,rfl⟩ (fun p rest n hI again bO=>?_) fun n hI=>?_
 ·obtain⟨f,a,he,ha,hf,hna,hm⟩:=hI
  obtain⟨f,rfl⟩:∃g,f=g+1:=⟨f-1,by omega⟩
  rw[lJ] at he
  obtain⟨rfl,rfl⟩:=List.cons.inj he
  have hr:=xS 10 ((aj s).drop a)
  rw[aix,hl] at hr
  have hz:(s.extract a (a+fk 10 ((aj s).drop a))).size=fk 10 ((aj s).drop a):=by rw[←bI,gy,aid,aix,hl];omega
  dsimp only[Uu]
  rw[aL (by omega)]
  have hw:IntKind.wrap .i64 ((a:Int)+(((s.extract a (a+fk 10 ((aj s).drop a))).size:Nat):Int))=(a:Int)+(fk 10 ((aj s).drop a):Nat):=by rw[hz,bH (by omega) (by omega)]
  refine ak.intro (fun h=>?_) fun h=>?_
  ·have h:i≤a+fk 10 ((aj s).drop a):=by
    have:=of_decide_eq_true h
    rw[hw] at this;omega
   rw[bH (n:=(i:Int)-a) (by omega) (by omega),bH (by omega) (by omega)]
   have e:(aj s).take i=(aj s).take a++((aj s).drop a).take (i-a):=by rw[←List.take_add,show a+(i-a)=i by omega]
   have zZ:mg (1,1) ((aj s).take i)=(((n+1:Nat):Int),1+((i-a:Nat):Int)):=by
    rw[e,vq,hm,Gq _ (KE (by omega)),aid,aix,hl,ajC (by omega)]
   show _=AV.aX [zx s i,nI 0]
   rw[zx,zZ]
   have:(1:Int)+((i-a:Nat):Int)=(i:Int)-a+1:=by omega
   rw[this]
  ·have h:a+fk 10 ((aj s).drop a)<i:=by
    have:=of_decide_eq_false h
    rw[hw] at this;omega
   refine bO (n+1) ⟨f,a+fk 10 ((aj s).drop a)+1,if_neg (by omega),by omega,by omega,by omega,?_⟩
   have ay:a+fk 10 ((aj s).drop a)<(aj s).length:=by omega
   rw[aiW ay,List.take_add,ah7,vq,hm,vq,Gq _ (KE (ah5 _))]
   have hc:(aj s)[a+fk 10 ((aj s).drop a)]=10:=by
    have:=Ut (c:=10) (l:=(aj s).drop a) (by rw[aix];omega)
    rw[List.getElem_drop] at this
    exact this
   rw[hc]
   simp[mg]
 ·obtain⟨f,a,he,ha,hf,hna,hm⟩:=hI
  obtain⟨f,rfl⟩:∃g,f=g+1:=⟨f-1,by omega⟩
  rw[lJ] at he
  cases he
def bW:Bool→List Int→Nat
 |_,[]=>0
 |r,c::l=>if r||ia c then bW (c != 10&&(r||c==35)) l+1 else 0
theorem uB:∀(r:Bool) (l:List Int),bW r l≤l.length
 |_,[]=>ah5 _
 |r,c::l=>by
  rw[bW,aif]
  split
  ·have:=uB (c != 10&&(r||c==35)) l;omega
  ·omega
theorem zy:∀(l:List Int),bW true l=if fk 10 l=l.length then l.length else fk 10 l+bW false (l.drop (fk 10 l))
 | []=>rfl
 |c::l=>by
  rw[bW,jI,aif]
  by_cases h:c=10
  ·subst h
   rw[if_pos rfl,if_neg (Nat.ne_of_lt (Nat.succ_pos _)),ajj,bW];simp[ia]
  ·have e:(c != 10&&(true||c==35))=true:=by simpa using h
   rw[Bool.true_or,if_pos rfl,e,zy l,if_neg h]
   by_cases h2:fk 10 l=l.length
   ·rw[if_pos h2,if_pos (by omega)]
   ·rw[if_neg h2,if_neg (by omega),ajA];omega
theorem Is (l:List Int):bW false (35::l)=bW true (35::l):=rfl
theorem oL {s:ByteArray} {k:Nat} {c:Int} {l:List Int} (h:(aj s).drop k=c::l):cq s (k:Int)=c∧k<s.size∧(aj s).drop (k+1)=l:=by
 have ay:k<(aj s).length:=by
  rcases ajP k (aj s).length with h1|h1
  ·exact h1
  ·rw[ah8 h1] at h;cases h
 rw[ah6 ay] at h
 obtain⟨h1,h2⟩:=List.cons.inj h
 exact⟨by rw[qu ay,h1],by rw[←bI];exact ay,h2⟩
theorem It {s:ByteArray} (hs:s.size≤1000000000):av Tryz.prog 87 [nS s] (nI (bW false (aj s):Nat)):=by
 have hl:=bI s
 refine TJ ?_
 refine aB.intro (fun k:Nat=>((s,(k:Int),()),())) (fun k=>k≤s.size∧bW false (aj s)=k+bW false ((aj s).drop k)) (fun k=>(s.size-k)*2+(if(aj s).drop k=[] then 0 else if((aj s).drop k).head?=some 10 then 0 else 1)) 0 rfl ⟨ah3 _,by simp⟩ ?_
 intro k ⟨hk,hd⟩ again bO
 dsimp only
 refine ak.intro (fun h=>?_) fun h=>?_
 ·have ay:k<s.size:=by have:=of_decide_eq_true h;omega
  obtain⟨c,l,eu⟩:∃c l,(aj s).drop k=c::l:=⟨_,_,ah6 (by omega)⟩
  obtain⟨gP,_,uM⟩:=oL eu
  refine⟨⟨by omega,by omega⟩,?_⟩
  rw[gP]
  have blank:(ia c=true∧c≠35)→again ((s,IntKind.wrap .i64 ((k:Int)+1),()),()):=fun⟨hb,hc⟩=>by
   rw[aL (by omega)]
   refine bO (k+1) ⟨by omega,?_⟩ (by split<;>split<;>(try split)<;>omega)
   have e:(c != 10&&(false||c==35))=false:=by simp[hc]
   rw[hd,eu,bW,Bool.false_or,if_pos hb,e,←uM];omega
  have stop:ia c=false→nI (k:Int)=nI ((bW false (aj s):Nat):Int):=fun hb=>by
   rw[hd,eu,bW,hb];simp
  have hash:c=35→0≤(k:Int)∧(k:Int)≤((s.size:Nat):Int)∧((s.size:Nat):Int)≤s.size:=fun _=>⟨by omega,by omega,by omega⟩
  have Mr:=ig (s:=s.extract k s.size) (c:=10) (by decide) (by decide)
  rw[gH,Dd,aix,hl] at Mr
  have hr:=xS 10 ((aj s).drop k)
  rw[aix,hl] at hr
  have rem:(c==35)=true→∃i53,pI 118 [nS (ByteArray.extract s (Int.toNat k) (Int.toNat ((ByteArray.size s:Nat):Int))),.ah (.int .u8 10)] (nI i53)∧
    ak (decide (i53<0)) ((fun r=>r=nI ((bW false (aj s):Nat):Int)) (nI ((ByteArray.size s:Nat):Int))) (again ((s,IntKind.wrap .i64 ((k:Int)+i53),()),())):=fun hc=>by
   have hc:c=35:=by simpa using hc
   subst hc
   refine⟨_,Mr,?_⟩
   have e:=zy ((aj s).drop k)
   rw[aix,hl] at e
   rw[eu,Is,←eu,e] at hd
   by_cases h1:fk 10 ((aj s).drop k)=s.size-k
   ·rw[if_pos h1] at hd
    rw[if_pos h1]
    refine ak.pos rfl ?_
    show nI _=nI _
    rw[hd];congr 1;congr 1;congr 1;omega
   ·rw[if_neg h1] at hd
    rw[if_neg h1]
    refine ak.neg (decide_eq_false (by omega)) ?_
    rw[bH (n:=(k:Int)+_) (by omega) (by omega),show (k:Int)+(fk 10 ((aj s).drop k):Nat)=((k+fk 10 ((aj s).drop k):Nat):Int) by omega]
    have h0:0<fk 10 ((aj s).drop k):=by rw[eu,jI];simp
    refine bO _ ⟨by omega,?_⟩ (by split<;>split<;>(try split)<;>omega)
    rw[hd,List.drop_drop];omega
  refine ak.intro (fun h1=>?_) fun h1=>ak.intro (fun h2=>?_) fun h2=>ak.intro (fun h3=>?_) fun h3=>ak.intro (fun h4=>?_) fun h4=>ak.intro (fun h5=>?_) fun h5=>?_
  ·exact ak.pos h1 (blank ⟨by unfold ia;rw[h1];rfl,fun e=>by rw[e] at h1;cases h1⟩)
  ·exact ak.pos h2 (blank ⟨by unfold ia;rw[h1,h2];rfl,fun e=>by rw[e] at h2;cases h2⟩)
  ·exact ak.pos h3 (blank ⟨by unfold ia;rw[h1,h2,h3];rfl,fun e=>by rw[e] at h3;cases h3⟩)
  ·exact blank ⟨by unfold ia;rw[h1,h2,h3,h4];rfl,fun e=>by rw[e] at h4;cases h4⟩
  ·exact⟨hash (by simpa using h5),rem h5⟩
  ·exact stop (by unfold ia;rw[h1,h2,h3,h4,h5];rfl)
 ·have:s.size≤k:=by have:=of_decide_eq_false h;omega
  rw[ah8 (by omega)] at hd
  rw[hd];rfl
def w7 (l:List Int):Nat:=(l.takeWhile isDigit).length
theorem vu (c:Int) (l:List Int):w7 (c::l)=if isDigit c=true then w7 l+1 else 0:=by
 unfold w7;rw[ajN];split<;>simp
theorem Uv (l:List Int):w7 l≤l.length:=by
 induction l with
 |nil=>simp[w7]
 |cons c l ih=>rw[vu,aif];split<;>omega
theorem Iu {s:ByteArray} (hs:s.size≤1000000000):av Tryz.prog 120 [nS s,.ck 122 []] (nI (w7 (aj s):Nat)):=by
 refine H7 ?_
 have hl:=bI s
 refine aB.intro (fun k:Nat=>((s,(),(k:Int),()),())) (fun k=>k≤s.size∧w7 (aj s)=k+w7 ((aj s).drop k)) (fun k=>s.size-k) 0 rfl ⟨ah3 _,by simp⟩ ?_
 intro k ⟨hk,hm⟩ again bO
 dsimp only
 refine ak.intro (fun h=>?_) fun h=>?_
 ·have ay:k<s.size:=by simpa using h
  have uX:k<(aj s).length:=by omega
  rw[ah6 uX] at hm
  refine⟨⟨by omega,by omega⟩,_,qv,?_⟩
  rw[qu uX]
  refine ak.intro (fun h=>?_) fun h=>?_
  ·rw[aL (by omega)]
   refine bO (k+1) ⟨by omega,?_⟩ (by omega)
   rw[hm,vu,if_pos h];omega
  ·rw[hm,vu,if_neg (by rw[h];simp)];rfl
 ·have:s.size≤k:=by simpa using h
  rw[ah8 (by omega)] at hm
  rw[hm];simp[w7]
def Gr:List Int:=[40,41,92,46,44,59,58,61,62,60,91,93,123,125,33,63,64]
def zz:List Int→Nat
 | []=>0
 |c::l=>if c=45∧l.head?=some 62 then 2 else if c∈Gr then 1 else 0
def iz:List Int→Nat×Nat
 | []=>(3,0)
 |c::l=>if dj c=true then(1,runN (c::l)) else if isDigit c=true then(2,w7 (c::l)) else(3,zz (c::l))
theorem w8 {s p:ByteArray}:av Tryz.prog 146 [nS s,nS p] (nB (decide ((aj s).take p.size=aj p))):=by
 have hl:=bI s
 have hp:=bI p
 refine Pt ⟨_,Pu (R:=fun r=>r=nB (decide ((aj s).take p.size=aj p))) (ak.intro (fun h=>?_) fun h=>?_),rfl⟩
 ·have h:p.size≤s.size:=by have:=of_decide_eq_true h;omega
  refine⟨⟨by decide,by omega,by omega⟩,?_⟩
  show nB _=nB _
  rw[gF]
  refine nA ?_
  rw[decide_eq_true_iff,decide_eq_true_iff]
  have e:aj (s.extract (Int.toNat 0) (Int.toNat ((p.size:Nat):Int)))=(aj s).take p.size:=by rw[gy];rfl
  rw[←e]
  exact⟨fun h=>by rw[h],iw⟩
 ·have h:s.size<p.size:=by have:=of_decide_eq_false h;omega
  refine(nA ?_).symm
  rw[decide_eq_true_iff]
  refine⟨fun e=>?_,fun e=>by cases e⟩
  have:=congrArg List.length e
  rw[aid] at this;omega
theorem Iv {s:ByteArray} (hs:s.size≤1000000000):av Tryz.prog 123 [nS s] (nI (zz (aj s):Nat)):=by
 refine Pf ⟨_,w8,?_⟩
 have e1:aj (⟨#[45,62]⟩:ByteArray)=[45,62]:=rfl
 have e2:(⟨#[45,62]⟩:ByteArray).size=2:=rfl
 rw[e1,e2]
 cases hb:aj s with
 |nil=>
  obtain rfl:s=⟨#[]⟩:=iw hb
  exact ak.neg rfl (ak.neg (by rw[gF];rfl) rfl)
 |cons c l=>
  have gP:cq s ((0:Nat):Int)=c∧0<s.size∧_:=oL (by rw[ajj];exact hb)
  have Mr:=ig (s:=(⟨#[40,41,92,46,44,59,58,61,62,60,91,93,123,125,33,63,64]⟩:ByteArray)) (c:=c)
   (by have:=uq s c (by rw[hb];exact aia);omega) (by have:=uq s c (by rw[hb];exact aia);omega)
  rw[←show cq s (0:Int)=c from gP.1] at Mr
  have e3:aj (⟨#[40,41,92,46,44,59,58,61,62,60,91,93,123,125,33,63,64]⟩:ByteArray)=Gr:=rfl
  rw[e3] at Mr
  have ad5:=Mr
  have DL:cq s (0:Int)=c:=gP.1
  have hsg:decide (Dd c Gr≥0)=decide (c∈Gr):=by
   have key:∀L:List Int,(fk c L=L.length↔c∉L):=by
    intro L
    induction L with
    |nil=>simp[fk]
    |cons b L ih=>
     rw[jI,aif,aiC]
     by_cases h:b=c
     ·subst h;simp
     ·rw[if_neg h]
      have h':¬c=b:=fun e=>h e.symm
      simp only[Nat.add_right_cancel_iff,ih,h',false_or]
   unfold Dd
   by_cases h:c∈Gr
   ·rw[if_neg (fun e=>(key _).1 e h),decide_eq_true h];exact decide_eq_true (by omega)
   ·rw[if_pos ((key _).2 h),decide_eq_false h];rfl
  have h2:decide ((c::l).take 2=[45,62])=decide (c=45∧l.head?=some 62):=by
   cases l with
   |nil=>simp
   |cons d l=>simp
  rw[h2]
  refine ak.intro (fun h=>?_) fun h=>ak.pos (by rw[gF,decide_eq_false];rfl;intro e;rw[e] at hb;cases hb) ⟨⟨by decide,by have:=gP.2.1;omega⟩,_,ad5,?_⟩
  ·rw[zz,if_pos (of_decide_eq_true h)];rfl
  ·rw[DL,hsg]
   refine ak.intro (fun h3=>?_) fun h3=>?_
   ·rw[zz,if_neg (of_decide_eq_false h),if_pos (of_decide_eq_true h3)];rfl
   ·rw[zz,if_neg (of_decide_eq_false h),if_neg (of_decide_eq_false h3)];rfl
theorem Gs {s:ByteArray} (hs:s.size≤1000000000) (bK:aj s≠[]):av Tryz.prog 88 [nS s] (.aX [nI ((iz (aj s)).1:Nat),nI ((iz (aj s)).2:Nat)]):=by
 cases hb:aj s with
 |nil=>exact(bK hb).elim
 |cons c l=>
  have gP:cq s ((0:Nat):Int)=c∧0<s.size∧_:=oL (by rw[ajj];exact hb)
  have DL:cq s (0:Int)=c:=gP.1
  have hz:=gP.2.1
  refine TL ⟨⟨by decide,by omega⟩,_,ur,?_⟩
  rw[DL]
  refine ak.intro (fun h=>⟨_,LF hs,?_⟩) fun h=>⟨⟨by decide,by omega⟩,_,qv,ak.intro (fun h2=>⟨_,Iu hs,?_⟩) fun h2=>⟨_,Iv hs,?_⟩⟩
  ·rw[iz,if_pos h,hb];rfl
  ·rw[iz,if_neg (by rw[h];decide),if_pos h2,hb];rfl
  ·rw[iz,if_neg (by rw[h];decide),if_neg (by rw[h2];decide),hb];rfl
def P7 (c:Int):ByteArray:=if c<33∨c>126 then⟨#[]⟩ else strOfNums [c]
theorem Ak {c:Int}:av Tryz.prog 89 [.ah (.int .u8 c)] (nS (P7 c)):=by
 refine TM (ak.intro (fun h=>?_) fun h=>ak.intro (fun h2=>?_) fun h2=>?_)
 ·rw[P7,if_pos (.inl (of_decide_eq_true h))]
 ·rw[P7,if_pos (.inr (of_decide_eq_true h2))]
 ·rw[P7,if_neg (by have:=of_decide_eq_false h;have:=of_decide_eq_false h2;omega)]
def Bm (s:ByteArray):ByteArray:=s.extract 0 (if 10<s.size then 10 else s.size)
theorem wm {s:ByteArray}:av Tryz.prog 90 [nS s] (nS (Bm s)):=by
 refine TN ⟨⟨by decide,by split<;>omega,by split<;>omega⟩,?_⟩
 rw[Bm]
 by_cases h:10<s.size
 ·rw[if_pos h,if_pos (by omega)];rfl
 ·rw[if_neg h,if_neg (by omega)];rfl
abbrev Fa:=Int×Int×Int×ByteArray
abbrev Uw (f:Fa):List AV:=[nI f.1,nI f.2.1,nI f.2.2.1,nS f.2.2.2]
def bV:Fa:=(0,0,0,⟨#[]⟩)
def P8 (s:ByteArray) (code:Int) (i:Nat) (w:ByteArray):Fa:=(code,(mg (1,1) ((aj s).take i)).1,(mg (1,1) ((aj s).take i)).2,w)
def gN (s:ByteArray) (i:Nat):Nat:=i+bW false ((aj s).drop i)
def qA (s:ByteArray) (i:Nat):Nat×Nat:=iz ((aj s).drop i)
def w9 (s:ByteArray):Nat→Nat→List Tk→List Tk×Int×Nat×ByteArray
 |0,_,acc=>(acc,0,0,⟨#[]⟩)
 |f+1,i,acc=>if gN s i=s.size then(acc,0,0,⟨#[]⟩)
  else if(qA s (gN s i)).2=0 then([],3,gN s i,P7 (cq s (gN s i)))
  else if((qA s (gN s i)).1=1∧30<(qA s (gN s i)).2)∨((qA s (gN s i)).1=2∧9<(qA s (gN s i)).2) then([],2,gN s i,Bm (s.extract (gN s i) (gN s i+(qA s (gN s i)).2)))
  else w9 s f (gN s i+(qA s (gN s i)).2) (acc++[((((qA s (gN s i)).1:Nat):Int),s.extract (gN s i) (gN s i+(qA s (gN s i)).2),((gN s i:Nat):Int))])
def Ux (s:ByteArray) (r:List Tk×Int×Nat×ByteArray):List Tk×Fa:=if r.2.1=0 then(r.1,bV) else([],P8 s r.2.1 r.2.2.1 r.2.2.2)
def gA (s:ByteArray):List Tk×Fa:=if s.size>20000 then([],(2,1,1,⟨#[]⟩)) else Ux s (w9 s (s.size+1) 0 [])
theorem xT:∀l:List Int,(iz l).2≤l.length
 | []=>ah5 _
 |c::l=>by
  have h1:=Ug (c::l)
  have h2:=Uv (c::l)
  rw[iz]
  split
  ·exact h1
  ·split
   ·exact h2
   ·rw[zz]
    split
    ·rename_i h
     obtain⟨d,hd⟩:∃d,l.head?=some d:=⟨_,h.2⟩
     cases l with
     |nil=>cases hd
     |cons d l=>simp
    ·split<;>simp
theorem pq {s w:ByteArray} {f:Fa} {us:List AV} {i:Nat} {c:Int} (hi:i≤s.size) (hs:s.size≤1000000000):cG Tryz.prog 84 [nI c,nS w,.ptr 0 0,.ptr 3 0] (A8 s f.1 f.2.1 f.2.2.1 f.2.2.2 us.length (i:Int) us)
  (fun r hp'=>r=.aX [.ah (.slice none 0 0),.agg (Uw (P8 s c i w))]∧hp'=A8 s f.1 f.2.1 f.2.2.1 f.2.2.2 us.length (i:Int) us):=
 TF ⟨_,_,_,rX hi hs,rfl,rfl⟩
theorem zA {s:ByteArray} {f:Fa} {us:List Tk} {i n:Nat} {k:Int} (hi:i+n≤s.size) (hs:s.size≤1000000000) (hu:us.length≤1000000000):cG Tryz.prog 86 [nI k,nI (n:Int),.ptr 2 0,.ptr 0 0,.ptr 3 0] (A8 s f.1 f.2.1 f.2.2.1 f.2.2.2 (us.map cv).length (i:Int) (us.map cv))
  (fun r hp'=>r=.aX []∧hp'=A8 s f.1 f.2.1 f.2.2.1 f.2.2.2 ((us++[(k,s.extract i (i+n),(i:Int))]).map cv).length ((i+n:Nat):Int) ((us++[(k,s.extract i (i+n),(i:Int))]).map cv)):=by
 refine TG ?_
 have w:IntKind.wrap .i64 ((i:Int)+(n:Int))=((i+n:Nat):Int):=by rw[bH (by omega) (by omega)];omega
 unfold ZN
 rw[w]
 have e:=Uh us (k,s.extract i (i+n),(i:Int))
 refine⟨⟨by omega,by omega,by omega⟩,rfl,aJ rfl (by simp;omega) (by decide),rfl,?_⟩
 rw[←e];rfl
theorem qB {s:ByteArray} (hs:s.size≤1000000000):av Tryz.prog 47 [nS s] (.aX [.sl ((gA s).1.map cv),.agg (Uw (gA s).2)]):=by
 have hl:=bI s
 refine TE ?_
 refine ak.intro (fun h=>?_) fun h=>?_
 ·have h:s.size>20000:=by have:=of_decide_eq_true h;omega
  rw[gA,if_pos h];rfl
 refine⟨rfl,?_⟩
 have cJ:¬s.size>20000:=by have:=of_decide_eq_false h;omega
 have Vr:gA s=Ux s (w9 s (s.size+1) 0 []):=if_neg cJ
 refine aB.intro (fun p:Nat×Nat×List Tk=>(((),(),(),(),((),(),()),((),(),(),()),()),((s,()),(0,0,0,⟨#[]⟩,()),((),()),((p.2.1:Int),()),p.2.2.map cv,()))) (fun p=>p.2.1≤s.size∧s.size+1≤p.1+p.2.1∧p.2.2.length≤p.2.1∧gA s=Ux s (w9 s p.1 p.2.1 p.2.2)) (fun p=>s.size-p.2.1)
  (s.size+1,0,[]) rfl ⟨ah3 _,by dsimp only;omega,ah5 _,Vr⟩ ?_
 intro ⟨f,i,acc⟩ ⟨hi,hf,hac,hd⟩ again bO
 dsimp only at hi hf hac hd ⊢
 obtain⟨f,rfl⟩:∃g,f=g+1:=⟨f-1,by omega⟩
 have hsk:=It (s:=s.extract i s.size) (by rw[ajW];omega)
 rw[gH] at hsk
 have hle:=uB false ((aj s).drop i)
 rw[aix,hl] at hle
 have w1:IntKind.wrap .i64 ((i:Int)+((bW false ((aj s).drop i):Nat):Int))=((gN s i:Nat):Int):=by rw[bH (by omega) (by omega),gN];omega
 have ha:gN s i≤s.size:=by rw[gN];omega
 have hai:i≤gN s i:=by rw[gN];omega
 refine⟨⟨by omega,by omega,by omega⟩,_,hsk,?_⟩
 rw[w1]
 rw[w9] at hd
 clear w1 hsk hle
 generalize hA:gN s i=a at ha hai hd ⊢
 refine ak.intro (fun h1=>⟨rfl,?_⟩) fun h1=>?_
 ·have h1:a=s.size:=by have:=eq_of_beq h1;omega
  rw[if_pos h1] at hd
  rw[hd];rfl
 have h1:¬a=s.size:=fun e=>by rw[e] at h1;simp at h1
 rw[if_neg h1] at hd
 have hfi:=Gs (s:=s.extract a s.size) (by rw[ajW];omega) (by rw[gH];intro e;have:=congrArg List.length e;rw[aix,hl] at this;simp at this;omega)
 rw[gH] at hfi
 have I8:=xT ((aj s).drop a)
 rw[aix,hl] at I8
 change av _ _ _ (.aX [nI ((qA s a).1:Nat),nI ((qA s a).2:Nat)]) at hfi
 change (qA s a).2≤_ at I8
 refine⟨⟨by omega,by omega,by omega⟩,_,_,hfi,?_⟩
 generalize hT:qA s a=t at I8 hd ⊢
 obtain⟨k,n⟩:=t
 dsimp only at I8 hd ⊢
 have W9:(k=1∧30<n∨k=2∧9<n)→¬n=0→nI (0:Int)=nI 0→AV.aX [.sl [],.agg (Uw (P8 s 2 a (Bm (s.extract a (a+n)))))]=AV.aX [.sl ((gA s).1.map cv),.agg (Uw (gA s).2)]:=fun h h0 _=>by
  rw[if_neg h0,if_pos h] at hd
  rw[hd];rfl
 have w2:IntKind.wrap .i64 ((a:Int)+(n:Int))=((a+n:Nat):Int):=by rw[bH (by omega) (by omega)];omega
 have cut:¬(k=1∧30<n∨k=2∧9<n)→¬n=0→aC 86 [nI (k:Int),nI (n:Int),.ptr 2 0,.ptr 0 0,.ptr 3 0] (A8 s 0 0 0 ⟨#[]⟩ (acc.map cv).length (a:Int) (acc.map cv)) fun r q=>∃l s2 i1 i2 i3 w i,(r=.aX []∧q=A8 s2 i1 i2 i3 w (List.length l) i l)∧List.length l=List.length l∧
   again (((),(),(),(),((),(),()),((),(),(),()),()),((s2,()),(i1,i2,i3,w,()),((),()),(i,()),l,())):=fun h h0=>by
  rw[if_neg h0,if_neg h] at hd
  exact⟨_,zA (f:=bV) (by omega) hs (by omega),fun r q ⟨e1,e2⟩=>⟨_,_,_,_,_,_,_,⟨e1,e2⟩,rfl,bO (f,a+n,acc++[((k:Int),s.extract a (a+n),(a:Int))]) ⟨by dsimp only;omega,by dsimp only;omega,by simp;omega,hd⟩ (by dsimp only;omega)⟩⟩
 have rest:∀b:Bool,(b=true→(k=1∧30<n∨k=2∧9<n))→(b=false→¬(k=1∧30<n∨k=2∧9<n))→¬n=0→
   tZ b (a:Int) (n:Int) s 0 0 0 ⟨#[]⟩ (acc.map cv).length (acc.map cv) (fun r=>r=.aX [.sl ((gA s).1.map cv),.agg (Uw (gA s).2)]) (k:Int) again:=fun b BU hb2 h0=>by
  refine ak.intro (fun h=>?_) fun h=>cut (hb2 h) h0
  rw[w2]
  exact⟨⟨by omega,by omega,by omega⟩,_,wm,_,pq (f:=bV) (by omega) hs,fun r q ⟨e1,e2⟩=>⟨_,_,_,_,_,_,_,_,_,_,_,⟨e1,e2⟩,W9 (BU h) h0 rfl⟩⟩
 refine ak.intro (fun h2=>?_) fun h2=>?_
 ·have h2:n=0:=by have:=eq_of_beq h2;omega
  rw[if_pos h2] at hd
  refine⟨⟨by omega,by omega⟩,_,Ak,_,pq (f:=bV) (by omega) hs,fun r q ⟨e1,e2⟩=>⟨_,_,_,_,_,_,_,_,_,_,_,⟨e1,e2⟩,?_⟩⟩
  rw[hd];rfl
 have h0:¬n=0:=fun e=>by subst e;cases h2
 refine ak.intro (fun h3=>ak.intro (fun h4=>?_) fun h4=>ak.intro (fun h5=>?_) fun h5=>?_) fun h3=>ak.intro (fun h5=>?_) fun h5=>?_
 ·have h3:k=1:=by have:=eq_of_beq h3;omega
  have h4':30<n:=by have:=of_decide_eq_true h4;omega
  rw[h4]
  exact rest _ (fun _=>.inl ⟨h3,h4'⟩) (fun h=>by cases h) h0
 ·have h3:k=1:=by have:=eq_of_beq h3;omega
  have h5:k=2:=by have:=eq_of_beq h5;omega
  omega
 ·have h3:k=1:=by have:=eq_of_beq h3;omega
  have h4:¬30<n:=by have:=of_decide_eq_false h4;omega
  exact cut (by omega) h0
 ·have h5:k=2:=by have:=eq_of_beq h5;omega
  exact rest _ (fun h=>.inr ⟨h5,by have:=of_decide_eq_true h;omega⟩) (fun h=>by have:=of_decide_eq_false h;omega) h0
 ·have h3:¬k=1:=fun e=>by subst e;cases h3
  have h5:¬k=2:=fun e=>by subst e;cases h5
  exact cut (by omega) h0
section
abbrev St:=Nat×Fa
structure PE (L:List Tk) (s:ByteArray):Prop where
 len:L.length≤1000000
 size:s.size≤1000000000
 at_:∀t∈L,0≤t.2.2∧t.2.2≤(s.size:Int)
 kind:∀t∈L,t.1≠4
abbrev RO (L:List Tk) (s:ByteArray) (i:Nat):List af:=jc (L.map cv) s (i:Int)
def Xa (s:ByteArray):Tk:=(4,⟨#[]⟩,(s.size:Int))
def pk (L:List Tk) (s:ByteArray) (i:Nat):Tk:=L.getD i (Xa s)
def rY (w:ByteArray) (t:Tk):Bool:=(t.1==1||t.1==3)&&decide (t.2.1=w)
variable {L:List Tk} {s w:ByteArray} {o:Int} {st:St} {i n:Nat}
theorem Gt (h:i<L.length):pk L s i=L[i]:=by simp[pk,List.getD,h]
theorem KF (h:L.length≤i):pk L s i=Xa s:=by simp[pk,List.getD,h]
theorem aao (h:PE L s):0≤(pk L s i).2.2∧(pk L s i).2.2≤(s.size:Int):=by
 rcases ajP i L.length with h1|h1
 ·rw[Gt h1];exact h.at_ _ (ah1 h1)
 ·rw[KF h1];exact⟨by simp[Xa],Int.le_refl _⟩
theorem eK (h:PE L s) (hi:i≤L.length):cG Tryz.prog 50 [.ptr 0 0,nI 0] (RO L s i) (fun r q=>r=cv (pk L s i)∧q=RO L s i):=by
 have:=h.len
 have hw:IntKind.wrap .i64 (((L.length:Nat):Int)-(i:Int))=(L.length:Int)-i:=bH (by omega) (by omega)
 have hw2:IntKind.wrap .i64 ((i:Int)+0)=(i:Int):=by rw[Int.add_zero,bH (by omega) (by omega)]
 refine TR (ak.neg rfl ?_)
 rw[ahX]
 refine ak.intro (fun h1=>?_) fun h1=>?_
 ·have h1:=of_decide_eq_true h1
  rw[hw] at h1
  rw[KF (by omega)]
  exact⟨rfl,rfl⟩
 ·have h1:=of_decide_eq_false h1
  rw[hw] at h1
  have ay:i<L.length:=by omega
  rw[hw2]
  exact⟨by omega,by omega,_,_,_,getD_map ay,by rw[Gt ay];rfl,rfl⟩
theorem wo (h:PE L s) (hi:i≤L.length):cG Tryz.prog 149 [.ptr 0 0] (RO L s i) (fun r q=>r=cv (pk L s i)∧q=RO L s (if i<L.length then i+1 else i)):=by
 have:=h.len
 refine Pg ⟨_,eK h hi,fun r q ⟨e1,e2⟩=>⟨_,_,_,_,_,_,⟨e1,e2⟩,?_⟩⟩
 rw[ahX]
 refine ak.intro (fun h1=>⟨rfl,?_⟩) fun h1=>⟨rfl,?_⟩
 ·rw[if_pos (by have:=of_decide_eq_true h1;omega),aL (by omega)]
 ·rw[if_neg (by have:=of_decide_eq_false h1;omega)]
theorem zB (h:PE L s) (hi:i≤L.length):cG Tryz.prog 124 [.ptr 0 0,.clip [nS w]] (RO L s i) (fun r q=>r=nB (rY w (pk L s i))∧q=RO L s (if rY w (pk L s i)=true then i+1 else i)):=by
 have:=h.len
 refine cG.Oa (ys:=[.ptr 0 0,.sl [nS w]]) ⟨ef.refl _,vf _,True.intro⟩ ?_
 refine Pk ?_
 refine aB.intro (fun k:Nat=>(((),[nS w],[nS w],1,(k:Int),()),((L.map cv,s,(i:Int),()),()))) (fun k=>k=0∨k=1∧rY w (pk L s i)=true) (fun k=>1-k) 0 rfl (.inl rfl) ?_
 intro k hk again bO
 dsimp only
 rcases hk with rfl|⟨rfl,hk⟩
 ·refine ak.pos rfl ⟨by decide,by show (0:Int)<1;decide,_,rfl,_,eK h hi,fun r q ⟨e1,e2⟩=>⟨_,_,_,_,_,_,⟨e1,e2⟩,?_⟩⟩
  rw[gF]
  have fin:(pk L s i).1=1∨(pk L s i).1=3→ak (!(decide ((pk L s i).2.1=w))) (nB false=nB (rY w (pk L s i))∧RO L s i=RO L s (if rY w (pk L s i)=true then i+1 else i)) (again (((),[nS w],[nS w],1,IntKind.wrap .i64 (((0:Nat):Int)+1),()),((L.map cv,s,(i:Int),()),()))):=fun hk=>by
   have hk:((pk L s i).1==1||(pk L s i).1==3)=true:=by simpa using hk
   refine ak.intro (fun h1=>?_) fun h1=>?_
   ·have:rY w (pk L s i)=false:=by rw[rY,hk];simpa using h1
    rw[this];exact⟨rfl,rfl⟩
   ·refine bO 1 (.inr ⟨rfl,?_⟩) (by decide)
    rw[rY,hk];simpa using h1
  refine ak.intro (fun h1=>ak.intro (fun h2=>?_) fun h2=>fin (.inr (by simpa using h2))) fun h1=>fin (.inl (by simpa using h1))
  have:rY w (pk L s i)=false:=by
   have h1:¬(pk L s i).1=1:=by simpa using h1
   have h2:¬(pk L s i).1=3:=by simpa using h2
   simp[rY,h1,h2]
  rw[this];exact⟨rfl,rfl⟩
 ·refine ak.neg rfl ⟨by rw[hk],?_⟩
  have e:IntKind.wrap .i64 ((i:Int)+1)=((i+1:Nat):Int):=aL (by omega)
  show jc _ _ (IntKind.wrap .i64 ((i:Int)+1))=_
  rw[if_pos hk,e]
theorem Df (h:PE L s) (hi:i≤L.length):cG Tryz.prog 155 [.ptr 0 0] (RO L s i) (fun r q=>r=zx s (pk L s i).2.2.toNat∧q=RO L s i):=by
 have ha:=aao (i:=i) h
 have hp:av Tryz.prog 85 [nS s,nI (pk L s i).2.2] (.aX [zx s (pk L s i).2.2.toNat,nI 0]):=by
  have:=rX (s:=s) (i:=(pk L s i).2.2.toNat) (by omega) h.size
  rwa [show (((pk L s i).2.2.toNat:Nat):Int)=(pk L s i).2.2 by omega] at this
 have key:uc (L.map cv) s (i:Int) (fun r q=>r=zx s (pk L s i).2.2.toNat∧q=RO L s i):=
  ⟨_,eK h hi,fun r q ⟨e1,e2⟩=>⟨_,_,_,_,_,_,⟨e1,e2⟩,_,_,_,hp,ak.pos rfl ⟨rfl,rfl⟩⟩⟩
 have aap:sF (L.map cv) s (i:Int) (fun r q=>r=zx s (pk L s i).2.2.toNat∧q=RO L s i):=
  ⟨_,eK h hi,fun r q ⟨e1,e2⟩=>⟨_,_,_,_,_,_,⟨e1,e2⟩,_,_,_,hp,ak.pos rfl ⟨rfl,rfl⟩⟩⟩
 exact Pm ⟨⟨key,key⟩,aap,key,aap⟩
theorem Gu (h:PE L s) (hi:i≤L.length) {c:Int}:cG Tryz.prog 147 [.ptr 0 0,nI c] (RO L s i) (fun r q=>r=.agg (Uw (P8 s c (pk L s i).2.2.toNat (Bm (pk L s i).2.1)))∧q=RO L s i):=
 Pn ⟨_,Df h hi,fun r q ⟨e1,e2⟩=>⟨_,_,_,_,_,⟨e1,e2⟩,_,eK h hi,fun r q ⟨e1,e2⟩=>⟨_,_,_,_,_,_,⟨e1,e2⟩,_,wm,rfl,rfl⟩⟩⟩
def vv:Int→List Int→Int
 |n,[]=>n
 |n,c::l=>vv (10*n+(c-48)) l
theorem P9 (s:ByteArray):bg s=(aj s).map fun c=>.ah (.int .u8 c):=by simp[bg,aj]
end
section
section
variable (L:List Tk) (s:ByteArray)
end
variable {L:List Tk} {s w:ByteArray} {o:Int} {st:St} {i n:Nat}
def PRW (x:AV) (H:List af):AV→List af→Prop:=fun r q=>ef r x∧q=H
theorem cG.prw {P:Program} {f:FuncId} {args:List AV} {hp H:List af} {x:AV} (h:cG P f args hp (PRW x H)):cG P f args hp (fun r q=>r=x∧q=H):=h.res fun r q ⟨h1,h2⟩=>⟨_,h1,rfl,h2⟩
end
section
variable {L:List Tk} {s w:ByteArray} {o:Int} {st:St} {i n:Nat}
theorem KH {s:ByteArray}:∀(f i:Nat) (acc:List Tk),i≤s.size→acc.length≤i→(∀t∈acc,(0≤t.2.2∧t.2.2≤(s.size:Int))∧t.1≠4)→
  (w9 s f i acc).1.length≤s.size∧∀t∈(w9 s f i acc).1,(0≤t.2.2∧t.2.2≤(s.size:Int))∧t.1≠4
 |0,i,acc,hi,ha,h=>⟨by rw[w9];dsimp only;omega,h⟩
 |f+1,i,acc,hi,ha,h=>by
  have hl:=bI s
  have hle:=uB false ((aj s).drop i)
  rw[aix,hl] at hle
  have hA:i≤gN s i∧gN s i≤s.size:=by rw[gN];omega
  rw[w9]
  generalize gN s i=a at hA
  split
  ·exact⟨by dsimp only;omega,h⟩
  split
  ·exact⟨ah3 _,fun t ht=>by cases ht⟩
  split
  ·exact⟨ah3 _,fun t ht=>by cases ht⟩
  rename_i h0 _
  have I8:=xT ((aj s).drop a)
  rw[aix,hl] at I8
  have hk:∀l:List Int,(iz l).1≤3:=fun l=>by
   cases l with
   |nil=>decide
   |cons c l=>
    rw[iz]
    split
    ·show 1≤3;decide
    ·split
     ·show 2≤3;decide
     ·show 3≤3;decide
  have hk:=hk ((aj s).drop a)
  change (qA s a).2≤_ at I8
  change (qA s a).1≤_ at hk
  refine KH f _ _ (by omega) (by simp;omega) fun t ht=>?_
  rcases aiM.1 ht with ht|ht
  ·exact h t ht
  ·obtain rfl:=air.1 ht
   exact⟨⟨by simp,by simp;omega⟩,by show ¬(((qA s a).1:Nat):Int)=4;omega⟩
theorem Qa {s:ByteArray}:PE (gA s).1 s∨20000<s.size∧gA s=([],(2,1,1,⟨#[]⟩)):=by
 by_cases h:s.size>20000
 ·exact .inr ⟨h,if_pos h⟩
 ·refine .inl ?_
  have hp:=KH (s:=s) (s.size+1) 0 [] (ah3 _) (ah5 _) fun t ht=>by cases ht
  rw[gA,if_neg h,Ux]
  split
  ·exact⟨by dsimp only;omega,by omega,fun t ht=>(hp.2 t ht).1,fun t ht=>(hp.2 t ht).2⟩
  ·exact⟨ah3 _,by omega,fun t ht=>(by cases ht),fun t ht=>by cases ht⟩
theorem Qb {l:List Tk} (hl:l.length≤1000000):av Tryz.prog 91 [.sl (l.map cv)] (.sl (l.map cv)):=by
 refine TT fun b hb=>ak.intro (fun h=>?_) fun h=>⟨fun _=>rfl,FU (fun x hx=>by cases hx) (fun x hx=>by obtain⟨t,_,rfl⟩:=aiQ.1 hx;rfl) (by simp;omega) (by decide),rfl,rfl⟩
 have:l.map cv=[]:=Decidable.byContradiction fun c=>by
  have:=hb c;rw[h] at this;cases this
 rw[this]
theorem Iw {l:List Tk} (hl:l.length≤1000000):cG Tryz.prog 48 [.sl (l.map cv),nS s] [] (fun r q=>r=.ptr 0 0∧q=RO l s 0):=TQ ⟨_,Qb hl,rfl,rfl⟩
end
theorem jJ {u:Nat} (h:u<10):Lib.decDigits u=[UInt8.ofNat (48+u)]:=by rw[Lib.decDigits,dif_pos h]
theorem zC {u:Nat} (h:¬u<10):Lib.decDigits u=Lib.decDigits (u / 10)++[UInt8.ofNat (48+u % 10)]:=by rw[Lib.decDigits,dif_neg h]
section
abbrev Tx:=Int×List Int
inductive Lx:List Int→List Tx→Prop where
 |nil {l:List Int}:bW false l=l.length→Lx l []
 |cons {l:List Int} {T:List Tx}:bW false l≠l.length→(iz (l.drop (bW false l))).2≠0→
   ¬(((iz (l.drop (bW false l))).1=1∧30<(iz (l.drop (bW false l))).2)∨((iz (l.drop (bW false l))).1=2∧9<(iz (l.drop (bW false l))).2))→
   Lx (l.drop (bW false l+(iz (l.drop (bW false l))).2)) T→Lx l ((((iz (l.drop (bW false l))).1:Nat),(l.drop (bW false l)).take (iz (l.drop (bW false l))).2)::T)
def Gv (t:Tk):Tx:=(t.1,aj t.2.1)
theorem Uy {s:ByteArray}:∀{l:List Int} {T:List Tx},Lx l T→∀(f i:Nat) (acc:List Tk),l=(aj s).drop i→i≤s.size→s.size+1≤f+i→∃ts:List Tk,w9 s f i acc=(acc++ts,0,0,⟨#[]⟩)∧ts.map Gv=T:=by
 intro l T h
 induction h with
 |nil h1=>
  intro f i acc hl hi hf
  have hlen:=bI s
  obtain⟨f,rfl⟩:∃g,f=g+1:=⟨f-1,by omega⟩
  subst hl
  rw[aix,hlen] at h1
  exact⟨[],by rw[w9,if_pos (by rw[gN,h1];omega),aiH],rfl⟩
 |cons h1 h2 h3 _ ih=>
  intro f i acc hl hi hf
  have hlen:=bI s
  obtain⟨f,rfl⟩:∃g,f=g+1:=⟨f-1,by omega⟩
  subst hl
  have hle:=uB false ((aj s).drop i)
  rw[aix,hlen] at h1 hle
  rw[List.drop_drop] at h2 h3 ih ⊢
  rw[List.drop_drop] at ih
  have I8:=xT ((aj s).drop (i+bW false ((aj s).drop i)))
  rw[aix,hlen] at I8
  have e1:gN s i=i+bW false ((aj s).drop i):=rfl
  have e2:qA s (gN s i)=iz ((aj s).drop (i+bW false ((aj s).drop i))):=rfl
  rw[w9,if_neg (by rw[e1];omega),if_neg (by rw[e2];exact h2),if_neg (by rw[e2];exact h3),e2,e1]
  obtain⟨ts,g1,g2⟩:=ih f (i+bW false ((aj s).drop i)+(iz ((aj s).drop (i+bW false ((aj s).drop i)))).2) (acc++[((((iz ((aj s).drop (i+bW false ((aj s).drop i)))).1:Nat):Int),s.extract (i+bW false ((aj s).drop i)) (i+bW false ((aj s).drop i)+(iz ((aj s).drop (i+bW false ((aj s).drop i)))).2),((i+bW false ((aj s).drop i):Nat):Int))]) (by rw[ajt]) (by omega) (by omega)
  refine⟨_::ts,by rw[g1,ah7];rfl,?_⟩
  rw[ais,g2,Gv]
  dsimp only
  rw[gy,Nat.add_sub_cancel_left]
theorem LU {s:ByteArray} {T:List Tx} (h:Lx (aj s) T) (hs:s.size≤20000):∃L:List Tk,gA s=(L,bV)∧L.map Gv=T:=by
 obtain⟨ts,g1,g2⟩:=Uy h (s.size+1) 0 [] rfl (ah3 _) (by omega)
 exact⟨ts,by rw[gA,if_neg (by omega),g1];rfl,g2⟩
variable {r:List Int} {T:List Tx}
theorem Lx.zero {l:List Int} {n:Nat} {k:Nat} (hs:bW false l=0) (hk:iz l=(k,n)) (hn:n≠0) (hb:¬((k=1∧30<n)∨(k=2∧9<n))) (h:Lx (l.drop n) T):Lx l (((k:Nat),l.take n)::T):=by
 have hl:l.length≠0:=fun e=>by
  have:=xT l
  rw[hk] at this;dsimp only at this;omega
 have:=Lx.cons (l:=l) (T:=T) (by rw[hs];exact fun e=>hl e.symm) (by rw[hs,ajj,hk];exact hn) (by rw[hs,ajj,hk];exact hb) (by rw[hs,ajj,hk,aiw];exact h)
 rw[hs,ajj,hk] at this
 exact this
theorem Lx.blank {c:Int} (hc:c=32∨c=10) (h:Lx r T):Lx (c::r) T:=by
 have e:bW false (c::r)=bW false r+1:=by
  rcases hc with rfl|rfl<;>(rw[bW];simp[ia])
 cases h with
 |nil h1=>exact .nil (by rw[e,h1];rfl)
 |cons h1 h2 h3 h4=>
  have:=Lx.cons (l:=c::r) (by rw[e];simpa using h1) (by rw[e,ajA];exact h2) (by rw[e,ajA];exact h3) (T:=_) (by
   rw[e,ajA,show bW false r+1+(iz (r.drop (bW false r))).2=(bW false r+(iz (r.drop (bW false r))).2)+1 by omega,ajA];exact h4)
  rw[e,ajA] at this
  exact this
def NI (r:List Int):Prop:=∀c,r.head?=some c→dN c=false
theorem KI {c:Int} (h:dN c=false):NI (c::r):=fun d hd=>by obtain rfl:=Option.some.inj hd;exact h
theorem Xb:NI []:=fun d hd=>by cases hd
theorem Lx.sign {c:Int} (hc:c∈[40,41,92,46,59,58,61,62,44,91,93,123,125]) (h:Lx r T):Lx (c::r) ((3,[c])::T):=by
 have hx:bW false (c::r)=0∧iz (c::r)=(3,1):=by
  simp only[aiC,List.not_mem_nil,or_false] at hc
  rcases hc with rfl|rfl|rfl|rfl|rfl|rfl|rfl|rfl|rfl|rfl|rfl|rfl|rfl<;>exact⟨by rw[bW];rfl,by rw[iz,if_neg (by decide),if_neg (by decide),zz,if_neg (by simp),if_pos (by decide)]⟩
 exact Lx.zero hx.1 hx.2 (by decide) (by decide) h
theorem qC {c:Int} (h:dN c=true):ia c=false:=by
 simp only[dN,dj,isDigit,ai6,decide_eq_true_eq,beq_iff_eq] at h
 unfold ia
 simp;omega
theorem rZ {p:Int→Bool} {w:List Int} (hw:w.all p=true) (hr:∀c,r.head?=some c→p c=false):(w++r).takeWhile p=w:=by
 induction w with
 |nil=>
  cases r with
  |nil=>rfl
  |cons c r=>rw[aiU,ajN,hr c rfl];rfl
 |cons d w ih=>
  rw[ai5,ahZ] at hw
  rw[ai1,ajN,hw.1,ih hw.2];rfl
theorem Lx.word {w:ByteArray} (hw:isWord w=true) (hr:NI r) (h:Lx r T):Lx (aj w++r) ((1,aj w)::T):=by
 cases hb:aj w with
 |nil=>simp[isWord,hb] at hw
 |cons c l=>
  obtain⟨h1,h2,h3⟩:=(vZ hb).1 hw
  have jz:(c::l).all dN=true:=by rw[ai5,uu h2,h3];rfl
  have hrn:runN ((c::l)++r)=(c::l).length:=by unfold runN;rw[rZ jz hr]
  have e:iz ((c::l)++r)=(1,(c::l).length):=by
   rw[←hrn,ai1,iz,if_pos h2]
  have:=Lx.zero (l:=(c::l)++r) (T:=T) (by rw[ai1,bW,qC (uu h2)];rfl) e (by simp) (by rw[aif];omega) (by rw[List.drop_left];exact h)
  rw[ajD] at this
  exact this
theorem Lx.num {d:List Int} (hd:d.all isDigit=true) (h0:d≠[]) (h9:d.length≤9) (hr:NI r) (h:Lx r T):Lx (d++r) ((2,d)::T):=by
 cases d with
 |nil=>exact(h0 rfl).elim
 |cons c l=>
  have hc:isDigit c=true:=by rw[ai5,ahZ] at hd;exact hd.1
  have ad9:dj c=false:=by
   simp only[isDigit,decide_eq_true_eq] at hc
   simp[dj];omega
  have hrn:w7 ((c::l)++r)=(c::l).length:=by
   unfold w7
   rw[rZ hd fun c hc=>?_]
   have:=hr c hc
   simp only[dN,Bool.or_eq_false_iff] at this
   exact this.2.1
  have e:iz ((c::l)++r)=(2,(c::l).length):=by
   rw[←hrn,ai1,iz,if_neg (by rw[ad9];decide),if_pos hc]
  have:=Lx.zero (l:=(c::l)++r) (T:=T) (by rw[ai1,bW,qC (by simp[dN,hc])];rfl) e (by simp) (by omega) (by rw[List.drop_left];exact h)
  rw[ajD] at this
  exact this
theorem fE (a b:ByteArray):aj (a++b)=aj a++aj b:=by simp[aj]
end
def Ix (s:ByteArray) (U:List Tx):Prop:=∀r T,Lx r T→Lx (aj s++r) (U++T)
def Lex (s:ByteArray) (U:List Tx):Prop:=∀r T,NI r→Lx r T→Lx (aj s++r) (U++T)
theorem Ix.lex {s:ByteArray} {U:List Tx} (h:Ix s U):Lex s U:=fun r T _ hx=>h r T hx
theorem Ix.app {a b:ByteArray} {U V:List Tx} (ha:Ix a U) (hb:Lex b V):Lex (a++b) (U++V):=fun r T hr h=>by
 rw[fE,ah7,ah7]
 exact ha _ _ (hb r T hr h)
theorem Gw:Ix (⟨#[]⟩:ByteArray) []:=fun r T h=>h
theorem Al:∀(u:Nat),(Lib.decDigits u).all (fun b=>isDigit (b.toNat:Int))=true∧Lib.decDigits u≠[]∧vv 0 ((Lib.decDigits u).map fun b=>(b.toNat:Int))=u:=by
 have app:∀(a b:List Int) (n:Int),vv n (a++b)=vv (vv n a) b:=by
  intro a
  induction a with
  |nil=>intro b n;rfl
  |cons c a ih=>intro b n;exact ih b _
 have dig:∀d:Nat,d<10→isDigit (((UInt8.ofNat (48+d)).toNat:Nat):Int)=true∧(((UInt8.ofNat (48+d)).toNat:Nat):Int)-48=d:=fun d hd=>by
  have:(UInt8.ofNat (48+d)).toNat=48+d:=by
   have h:(UInt8.ofNat (48+d)).toNat=(48+d) % 256:=rfl
   rw[h];omega
  rw[this]
  exact⟨by simp[isDigit];omega,by omega⟩
 intro u
 induction u using Nat.strongRecOn with
 |_ u ih=>
  by_cases h:u<10
  ·rw[jJ h]
   have:=dig u h
   exact⟨by rw[ai5,this.1];rfl,by simp,by simp only[ais,aiY,vv];omega⟩
  ·rw[zC h]
   have ay:u / 10<u:=by omega
   obtain⟨h1,h2,h3⟩:=ih _ ay
   have hd:=dig (u % 10) (Nat.mod_lt _ (by decide))
   refine⟨by rw[List.all_append,h1,ai5,hd.1];rfl,by simp,?_⟩
   rw[aii,app,h3]
   simp only[ais,aiY,vv]
   rw[hd.2];omega
section
def dJ (w:ByteArray):Int:=match (aj w).head? with
 |some c=>if dj c=true then 1 else if isDigit c=true then 2 else 3
 |none=>3
def lS (w:ByteArray):Tx:=(dJ w,aj w)
def At (L:List Tk) (i:Nat) (u:List ByteArray) (T:List Tx):Prop:=(L.drop i).map Gv=u.map lS++T
variable {L:List Tk} {s w:ByteArray} {i:Nat} {u v:List ByteArray} {T:List Tx}
theorem At.app (h:At L i (u++v) T):At L i u (v.map lS++T):=by
 unfold At at h ⊢
 rw[h,aii,ah7]
theorem At.next (h:At L i (u++v) T):At L (i+u.length) v T:=by
 unfold At at h ⊢
 rw[←List.drop_drop,List.map_drop,h,aii,ah7]
 have:(u.map lS).length=u.length:=ahX _
 rw[←this,List.drop_left]
theorem At.tail (h:At L i (w::u) T):At L (i+1) u T:=At.next (u:=[w]) (v:=u) h
theorem At.le (hi:i≤L.length) (h:At L i u T):i+u.length≤L.length:=by
 have:=congrArg List.length h
 simp only[ahX,aix,ah0] at this
 omega
theorem At.lt (h:At L i (w::u) T):i<L.length:=by
 rcases ajP i L.length with h1|h1
 ·exact h1
 ·unfold At at h
  rw[ah8 h1] at h
  cases h
theorem At.tok (h:At L i (w::u) T):(pk L s i).1=dJ w∧(pk L s i).2.1=w:=by
 have ay:=h.lt
 rw[Gt ay]
 unfold At at h
 rw[ah6 ay,ais,ais,ai1] at h
 have h1:=(List.cons.inj h).1
 unfold Gv lS at h1
 exact⟨congrArg Prod.fst h1,iw (congrArg Prod.snd h1)⟩
theorem At.rY (h:At L i (w::u) T) {x:ByteArray} (hk:dJ w≠2):rY x (pk L s i)=decide (w=x):=by
 obtain⟨h1,h2⟩:=h.tok (s:=s)
 unfold Go.Proofs.YtjhanogfpkbamaaGreatDoor.rY
 rw[h1,h2]
 have:dJ w=1∨dJ w=3:=by
  unfold dJ at hk ⊢
  split<;>(try split)<;>(try split)<;>simp_all
 rcases this with h|h<;>simp[h]
theorem At.Uz (h:At L i (w::u) T) {x:ByteArray} (hk:dJ w=2):Go.Proofs.YtjhanogfpkbamaaGreatDoor.rY x (pk L s i)=false:=by
 obtain⟨h1,h2⟩:=h.tok (s:=s)
 unfold Go.Proofs.YtjhanogfpkbamaaGreatDoor.rY
 rw[h1,hk];rfl
theorem At.not (h:At L i (w::u) T) {x:ByteArray} (hx:w≠x):Go.Proofs.YtjhanogfpkbamaaGreatDoor.rY x (pk L s i)=false:=by
 by_cases hk:dJ w=2
 ·exact h.Uz hk
 ·rw[h.rY hk];exact decide_eq_false hx
theorem sN {n:Int} (h:cC n=true):aj (bt n)=(Lib.decDigits n.toNat).map fun b=>((b.toNat:Nat):Int):=by
 have h:=of_decide_eq_true h
 obtain⟨u,rfl⟩:∃u:Nat,n=(u:Int):=⟨n.toNat,by omega⟩
 unfold bt
 rw[Lib.itoa_nonneg,ajl]
 simp[aj]
theorem mw {n:Int} (h:cC n=true):(aj (bt n)).all isDigit=true∧aj (bt n)≠[]∧vv 0 (aj (bt n))=n:=by
 rw[sN h]
 have h:=of_decide_eq_true h
 obtain⟨h1,h2,h3⟩:=Al n.toNat
 refine⟨by rw[List.all_map];exact h1,by simp[h2],by rw[h3];omega⟩
theorem KJ:∀(d u:Nat),u<10 ^ (d+1)→(Lib.decDigits u).length≤d+1
 |0,u,h=>by rw[jJ (by omega)];exact ah5 _
 |d+1,u,h=>by
  by_cases h1:u<10
  ·rw[jJ h1];simp
  ·rw[zC h1,ah0]
   have:=KJ d (u / 10) (by rw[Nat.pow_succ] at h;omega)
   simp;omega
theorem zD {n:Int} (h:cC n=true):(bt n).size≤9:=by
 rw[←bI,sN h,ahX]
 have h:=of_decide_eq_true h
 exact KJ 8 _ (by omega)
theorem vw {n:Int} (h:cC n=true):dJ (bt n)=2:=by
 obtain⟨h1,h2,_⟩:=mw h
 unfold dJ
 cases hb:aj (bt n) with
 |nil=>exact(h2 hb).elim
 |cons c l=>
  rw[hb,ai5,ahZ] at h1
  have hc:=h1.1
  have hl:dj c=false:=by
   simp only[isDigit,decide_eq_true_eq] at hc
   simp[dj];omega
  simp[hl,hc]
theorem Qd:∀(u:Nat),(Lib.decDigits u).head?=some 48→u=0:=by
 intro u
 induction u using Nat.strongRecOn with
 |_ u ih=>
  intro h
  by_cases h1:u<10
  ·rw[jJ h1] at h
   simp only[List.head?_cons,Option.some.injEq] at h
   have:(UInt8.ofNat (48+u)).toNat=48:=by rw[h];rfl
   have h2:(UInt8.ofNat (48+u)).toNat=(48+u) % 256:=rfl
   omega
  ·rw[zC h1,List.head?_append] at h
   have bK:=PO (u / 10)
   cases hd:(Lib.decDigits (u / 10)).head? with
   |none=>rw[List.head?_eq_none_iff] at hd;exact(bK hd).elim
   |some c=>
    rw[hd] at h
    simp only[Option.some_or,Option.some.injEq] at h
    have:=ih (u / 10) (by omega) (by rw[hd,h])
    omega
theorem Gx {s:ByteArray} (h0:aj s≠[]) (h9:s.size≤9) (hd:(aj s).all isDigit=true):av Tryz.prog 163 [nS s] (.aX [nI (vv 0 (aj s)),.ah .nilIface]):=by
 have hl:=bI s
 have jz:∀c∈aj s,48≤c∧c≤57:=fun c hc=>by
  have:=(ah4.1 hd) c hc
  simpa [isDigit] using this
 have Em:0<s.size:=by
  rw[←hl];exact ai0.2 h0
 have gO:cq s (0:Int)=(aj s)[0]:=by
  have:cq s ((0:Nat):Int)=(aj s)[0]:=qu (by omega)
  exact this
 have DL:=jz _ (ah1 (show 0<(aj s).length by omega))
 have n45:(cq s (0:Int)==45)=false:=by rw[gO,beq_eq_false_iff_ne];omega
 have n43:(cq s (0:Int)==43)=false:=by rw[gO,beq_eq_false_iff_ne];omega
 have UA:0≤(0:Int)∧(0:Int)<((s.size:Nat):Int):=⟨by decide,by omega⟩
 refine Py (ak.pos (decide_eq_true (by omega)) (ak.pos (decide_eq_true (by omega)) ⟨UA,ak.neg n45 ⟨UA,ak.neg n43 ⟨by omega,?_⟩⟩⟩))
 rw[P9,ahX,hl]
 refine aB.intro (fun p:Nat×Int=>((s,p.2,(aj s).map (fun c=>.ah (.int .u8 c)),((s.size:Nat):Int),(p.1:Int),()),())) (fun p=>p.1≤s.size∧vv 0 (aj s)=vv p.2 ((aj s).drop p.1)∧0≤p.2∧p.2<(10 ^ p.1:Nat)) (fun p=>s.size-p.1) (0,0) rfl ⟨ah3 _,rfl,Int.le_refl _,by decide⟩ ?_
 intro ⟨k,n⟩ ⟨hk,hv,qL,U8⟩ again bO
 dsimp only at hk hv qL U8 ⊢
 refine ak.intro (fun h=>?_) fun h=>?_
 ·have ay:k<s.size:=by have:=of_decide_eq_true h;omega
  have uX:k<(aj s).length:=by omega
  have hc:=jz _ (ah1 uX)
  rw[ah6 uX,vv] at hv
  have hp:(10 ^ k:Nat)≤10 ^ 8:=Nat.pow_le_pow_right (by decide) (by omega)
  have hp9:(10 ^ 8:Nat)=100000000:=by decide
  have hw:IntKind.wrap .u8 ((aj s)[k]-48)=(aj s)[k]-48:=by
   have key:∀d:Fin 10,IntKind.wrap .u8 ((d.val:Nat):Int)=((d.val:Nat):Int):=by decide
   have:=key ⟨((aj s)[k]-48).toNat,by omega⟩
   rwa [show ((((aj s)[k]-48).toNat:Nat):Int)=(aj s)[k]-48 by omega] at this
  refine⟨by omega,by rw[ahX];omega,_,getD_map uX,?_⟩
  rw[hw]
  refine ak.neg (decide_eq_false (by omega)) ?_
  rw[bH (n:=n*10) (by omega) (by omega),bH (n:=(aj s)[k]-48) (by omega) (by omega),bH (by omega) (by omega),aL (by omega)]
  refine bO (k+1,_) ⟨by dsimp only;omega,by dsimp only;rw[Int.mul_comm n 10];exact hv,by dsimp only;omega,?_⟩ (by dsimp only;omega)
  dsimp only
  have:(10 ^ (k+1):Nat)=10*10 ^ k:=by rw[Nat.pow_succ];omega
  rw[this];omega
 ·have gQ:s.size≤k:=by have:=of_decide_eq_false h;omega
  rw[ah8 (by omega),vv] at hv
  refine⟨UA,ak.neg n45 ?_⟩
  rw[hv]
theorem wq {n:Int} (h:cC n=true):av Tryz.prog 148 [nS (bt n)] (.aX [nI n,nB true]):=by
 obtain⟨h1,h2,h3⟩:=mw h
 have h9:=zD h
 have hl:=bI (bt n)
 have Em:0<(bt n).size:=by rw[←hl];exact ai0.2 h2
 have UA:0≤(0:Int)∧(0:Int)<(((bt n).size:Nat):Int):=⟨by decide,by omega⟩
 have gO:cq (bt n) (0:Int)=(aj (bt n))[0]:=by
  have:cq (bt n) ((0:Nat):Int)=(aj (bt n))[0]:=qu (by omega)
  exact this
 have DL:48≤(aj (bt n))[0]∧(aj (bt n))[0]≤57:=by
  have:=(ah4.1 h1) _ (ah1 (show 0<(aj (bt n)).length by omega))
  simpa [isDigit] using this
 have ha:=Gx (s:=bt n) h2 h9 h1
 rw[h3] at ha
 have ha2:av Tryz.prog 156 [nS (bt n)] (.aX [nI n,.ah .nilIface]):=Pz ⟨_,ha,rfl⟩
 have n43:(cq (bt n) (0:Int) != 43)=true:=by rw[gO,bne_iff_ne];omega
 have n45:(cq (bt n) (0:Int) != 45)=true:=by rw[gO,bne_iff_ne];omega
 refine PA (ak.neg (by rw[Ie];exact decide_eq_false (by omega)) (ak.neg (decide_eq_false (by omega)) ⟨UA,ak.intro (fun h4=>ak.neg (decide_eq_false ?_) ⟨_,ha2,UA,ak.pos n43 ⟨UA,by rw[n45]⟩⟩) fun h4=>⟨_,ha2,UA,ak.pos n43 ⟨UA,by rw[n45]⟩⟩⟩))
 have h4:(aj (bt n))[0]=48:=by rw[←gO];simpa using h4
 have hn:=of_decide_eq_true h
 have hb:=sN h
 have:(Lib.decDigits n.toNat).head?=some 48:=by
  cases hd:Lib.decDigits n.toNat with
  |nil=>rw[hd] at hb;exact(h2 hb).elim
  |cons c l=>
   rw[hd] at hb
   simp only[hb,ais,List.getElem_cons_zero] at h4
   rw[List.head?_cons,Option.some.injEq]
   exact UInt8.toNat_inj.1 (by show c.toNat=48;omega)
 have h0:=Qd _ this
 rw[←hl,hb,h0]
 simp[jJ]
end
section
abbrev D2 (L:List Tk) (s:ByteArray) (i:Nat) (f:Fa):List af:=bq (L.map cv) s (i:Int) f.1 f.2.1 f.2.2.1 f.2.2.2
abbrev D3 (L:List Tk) (s:ByteArray) (i:Nat) (f:Fa):List af:=Ad (L.map cv) s (i:Int) f.1 f.2.1 f.2.2.1 f.2.2.2
abbrev D4 (L:List Tk) (s:ByteArray) (i:Nat) (f:Fa) (op:Int):List af:=rC (L.map cv) s (i:Int) f.1 f.2.1 f.2.2.1 f.2.2.2 op
variable {L:List Tk} {s w:ByteArray} {i:Nat} {u v:List ByteArray} {T:List Tx} {f:Fa}
theorem dy:cG Tryz.prog 49 [.ptr 1 0] (D2 L s i f) (fun r q=>r=nB (f.1==0)∧q=D2 L s i f):=TW ⟨rfl,rfl⟩
def fAt (L:List Tk) (s:ByteArray) (c:Int) (i:Nat):Fa:=P8 s c (pk L s i).2.2.toNat (Bm (pk L s i).2.1)
theorem Vw (h:PE L s) (hi:i≤L.length) {c:Int}:cG Tryz.prog 125 [.ptr 1 0,nI c] (D2 L s i bV) (fun r q=>r=.aX []∧q=D2 L s i (fAt L s c i)):=
 Pv ⟨_,dy (f:=bV),fun r q ⟨e1,e2⟩=>⟨_,_,_,_,_,_,_,_,⟨e1,e2⟩,ak.pos rfl ⟨_,Gu h hi,fun r q ⟨e1,e2⟩=>⟨_,_,_,_,_,_,_,⟨e1,e2⟩,rfl,rfl⟩⟩⟩⟩
theorem Bn (h:PE L s) (hi:i≤L.length):cG Tryz.prog 126 [.ptr 1 0,nS w] (D2 L s i bV) (fun r q=>r=nB (rY w (pk L s i))∧q=D2 L s (if rY w (pk L s i)=true then i+1 else i) bV):=
 Pw ⟨_,dy (f:=bV),fun r q ⟨e1,e2⟩=>⟨_,_,_,_,_,_,_,_,⟨e1,e2⟩,ak.pos rfl ⟨_,zB h hi,fun r q ⟨e1,e2⟩=>⟨_,_,_,_,⟨e1,e2⟩,rfl,rfl⟩⟩⟩⟩
theorem dO (h:PE L s) (gP:At L i (w::u) T) (hk:dJ w≠2):cG Tryz.prog 126 [.ptr 1 0,nS w] (D2 L s i bV) (fun r q=>r=nB true∧q=D2 L s (i+1) bV):=by
 have:=Bn (w:=w) h (ajB gP.lt)
 rw[gP.rY hk,decide_eq_true rfl,if_pos rfl] at this
 exact this
theorem fF (h:PE L s) (hi:i≤L.length) (hn:rY w (pk L s i)=false):cG Tryz.prog 126 [.ptr 1 0,nS w] (D2 L s i bV) (fun r q=>r=nB false∧q=D2 L s i bV):=by
 have:=Bn (w:=w) h hi
 rw[hn,if_neg (by decide)] at this
 exact this
theorem dR (h:PE L s):∀{ws:List ByteArray},ws.length≤100→(∀w∈ws,dJ w≠2)→At L i (ws++u) T→i≤L.length→
  cG Tryz.prog 92 [.ptr 1 0,.clip (ws.map nS)] (D2 L s i bV) (fun r q=>r=.aX []∧q=D2 L s (i+ws.length) bV):=by
 intro ws hl hk gP hi
 refine cG.Oa (ys:=[.ptr 1 0,.sl (ws.map nS)]) ⟨ef.refl _,vf _,True.intro⟩ ?_
 refine TZ ?_
 unfold ZY
 rw[ahX]
 refine aB.intro (fun k:Nat=>(((),ws.map nS,((ws.length:Nat):Int),(k:Int),()),((L.map cv,s,((i+k:Nat):Int),()),((),0,0,0,⟨#[]⟩,()),()))) (fun k=>k≤ws.length) (fun k=>ws.length-k) 0 rfl (ah3 _) ?_
 intro k DE again bO
 dsimp only
 refine ak.intro (fun h1=>?_) fun h1=>?_
 ·have ay:k<ws.length:=by have:=of_decide_eq_true h1;omega
  have cw:At L (i+k) (ws[k]::(ws.drop (k+1)++u)) T:=by
   have e:ws++u=ws.take k++(ws[k]::(ws.drop (k+1)++u)):=by
    rw[←ai1,←ah6 ay,←ah7,aiq]
   rw[e] at gP
   have:=gP.next
   rwa [aid,ajC DE] at this
  have ht:=zB (w:=ws[k]) h (ajB cw.lt)
  rw[cw.rY (hk _ (ah1 ay)),decide_eq_true rfl,if_pos rfl] at ht
  refine⟨by omega,by rw[ahX];omega,_,getD_map ay,_,dy (f:=bV),fun r q ⟨e1,e2⟩=>⟨_,_,_,_,_,_,_,_,⟨e1,e2⟩,ak.pos rfl ⟨_,ht,fun r q ⟨e1,e2⟩=>⟨_,_,_,_,⟨e1,e2⟩,ak.neg rfl ?_⟩⟩⟩⟩
  rw[aL (by omega)]
  exact bO (k+1) ay (by omega)
 ·have gQ:ws.length≤k:=by have:=of_decide_eq_false h1;omega
  obtain rfl:k=ws.length:=by omega
  exact⟨rfl,rfl⟩
theorem lK (h:PE L s) {n:Int} (hn:cC n=true) (gP:At L i (bt n::u) T):cG Tryz.prog 128 [.ptr 1 0] (D2 L s i bV) (fun r q=>r=nI n∧q=D2 L s (i+1) bV):=by
 have ay:=gP.lt
 obtain⟨h1,h2⟩:=gP.tok (s:=s)
 rw[vw hn] at h1
 have hp:=wq hn
 rw[←h2] at hp
 have vP:=wo h (ajB ay)
 rw[if_pos ay] at vP
 refine PC ⟨_,eK h (ajB ay),fun r q ⟨e1,e2⟩=>⟨_,_,_,_,_,_,⟨e1,e2⟩,_,_,hp,ak.neg rfl ⟨_,eK h (ajB ay),fun r q ⟨e1,e2⟩=>⟨_,_,_,_,_,_,⟨e1,e2⟩,?_⟩⟩⟩⟩
 refine ak.neg (by rw[h1];rfl) ⟨_,dy (f:=bV),fun r q ⟨e1,e2⟩=>⟨_,_,_,_,_,_,_,_,⟨e1,e2⟩,ak.neg rfl ⟨_,vP,fun r q ⟨e1,e2⟩=>⟨_,_,_,_,_,_,⟨e1,e2⟩,rfl,rfl⟩⟩⟩⟩
theorem sO {k:Int} (h:Um k=true):∃c:Int,aj (jk k)=[c]∧dj c=true∧0≤c∧c<256∧Dd c [98,99,109]=k:=by
 have h:=of_decide_eq_true h
 have:k=0∨k=1∨k=2:=by omega
 rcases this with rfl|rfl|rfl
 ·exact⟨98,rfl,by decide,by decide,by decide,by decide⟩
 ·exact⟨99,rfl,by decide,by decide,by decide,by decide⟩
 ·exact⟨109,rfl,by decide,by decide,by decide,by decide⟩
theorem oM {k n:Int} (h:Um k=true):dJ (jk k++bt n)=1:=by
 obtain⟨c,h1,h2,_⟩:=sO h
 unfold dJ
 rw[fE,h1]
 simp[h2]
theorem wu (h:PE L s) {k n:Int} (hk:Um k=true) (hn:cC n=true) (gP:At L i ((jk k++bt n)::u) T):cG Tryz.prog 131 [.ptr 1 0] (D2 L s i bV) (fun r q=>r=.agg [nI k,nI n]∧q=D2 L s (i+1) bV):=by
 have ay:=gP.lt
 obtain⟨h1,h2⟩:=gP.tok (s:=s)
 rw[oM hk] at h1
 obtain⟨c,c1,c2,c3,c4,c5⟩:=sO hk
 have hb:aj (jk k++bt n)=c::aj (bt n):=by rw[fE,c1];rfl
 have gO:=oL (s:=jk k++bt n) (k:=0) (by rw[ajj];exact hb)
 have hz:=gO.2.1
 have BB:cq (jk k++bt n) (0:Int)=c:=gO.1
 have Mr:=ig (s:=(⟨#[98,99,109]⟩:ByteArray)) (c:=c) (by omega) (by omega)
 have eb:aj (⟨#[98,99,109]⟩:ByteArray)=[98,99,109]:=rfl
 rw[eb,c5] at Mr
 have hp:=wq hn
 have ee:ByteArray.extract (jk k++bt n) (Int.toNat 1) (Int.toNat (((jk k++bt n).size:Nat):Int))=bt n:=by
  apply iw
  rw[ajl,show Int.toNat 1=1 from rfl,gH,hb]
  rfl
 have vP:=wo h (ajB ay)
 rw[if_pos ay] at vP
 have hko:=of_decide_eq_true hk
 refine PD ⟨_,eK h (ajB ay),fun r q ⟨e1,e2⟩=>⟨_,_,_,_,_,_,⟨e1,e2⟩,_,eK h (ajB ay),fun r q ⟨e1,e2⟩=>⟨_,_,_,_,_,_,⟨e1,e2⟩,?_⟩⟩⟩
 refine ak.pos (by rw[h1];rfl) ?_
 rw[h2]
 refine⟨⟨by decide,by omega⟩,_,by rw[BB];exact Mr,⟨by decide,by omega,by omega⟩,_,_,by rw[ee];exact hp,ak.pos rfl (ak.pos (decide_eq_true (by omega)) ⟨_,dy (f:=bV),fun r q ⟨e1,e2⟩=>⟨_,_,_,_,_,_,_,_,⟨e1,e2⟩,ak.pos rfl ⟨_,vP,fun r q ⟨e1,e2⟩=>⟨_,_,_,_,_,_,⟨e1,e2⟩,rfl,rfl⟩⟩⟩⟩)⟩
theorem mz {d:Nat} (hd:d+1≤60):cG Tryz.prog 127 [.ptr 1 0,nI ((60-(d+1):Nat):Int)] (D2 L s i bV) (fun r q=>r=nB true∧q=D2 L s i bV):=
 PF (ak.neg (by rw[beq_eq_false_iff_ne];omega) ⟨_,dy (f:=bV),fun r q ⟨e1,e2⟩=>⟨_,_,_,_,_,_,_,_,⟨e1,e2⟩,rfl,rfl⟩⟩)
end
section
variable {L:List Tk} {s:ByteArray}
theorem Dg (h:PE L s) {op:Int} {l:List (Ty)} {tok:Ty→List ByteArray} {G:List Tx→Prop} {ew:ByteArray} {b:Bool} (hl:l.length≤1000000) (hb:b=true→l≠[]) (sV:dJ ew≠2)
  (qM:∀x∈l,∀(j:Nat) (T':List Tx),j≤L.length→At L j (tok x) T'→G T'→cG Tryz.prog 129 [.ptr 2 0,.ptr 3 0] (D4 L s (j) bV op) (fun r q=>r=Ty.enc x∧q=D4 L s (j+(tok x).length) bV op))
  (LV:∀x∈l,∀T',G ((tok x).map lS++T')) (LW:∀T',G (lS ew::T')) (bK:∀x∈l,∃w u,tok x=w::u∧w≠ew)
  {i:Nat} {T:List Tx} (gP:At L i (l.flatMap tok++[ew]) T) (hi:i≤L.length):
  cG Tryz.prog 93 [.ptr 1 0,nS ew,nB b,.ck 129 [.ptr 2 0,.ptr 3 0]] (D4 L s (i) bV op) (fun r q=>r=.sl (l.map Ty.enc)∧q=D4 L s (i+(l.flatMap tok).length+1) bV op):=by
 refine CB ⟨rfl,?_⟩
 refine aB.intro (fun k:Nat=>(((),ew,b,((),(),()),(),()),((L.map cv,s,((i+((l.take k).flatMap tok).length:Nat):Int),()),((),0,0,0,⟨#[]⟩,()),((),()),(op,()),(l.take k).map Ty.enc,()))) (fun k=>k≤l.length) (fun k=>l.length-k) 0 rfl (ah3 _) ?_
 intro k hk again bO
 dsimp only
 have gO:At L i ((l.take k).flatMap tok++((l.drop k).flatMap tok++[ew])) T:=by
  rw[←ah7,←ai8,aiq];exact gP
 have cw:=gO.next
 have oN:=At.le hi gO.app
 generalize hP:i+((l.take k).flatMap tok).length=P at cw oN ⊢
 refine⟨_,dy (f:=bV),fun r q ⟨e1,e2⟩=>⟨_,_,_,_,_,_,_,_,⟨e1,e2⟩,ak.pos rfl ?_⟩⟩
 by_cases ay:k<l.length
 ·have gD:=ah1 ay
  obtain⟨w,u,hw,LX⟩:=bK _ gD
  have hx:At L P (tok l[k]) (((l.drop (k+1)).flatMap tok++[ew]).map lS++T):=by
   rw[ah6 ay,aiE,ah7] at cw
   exact cw.app
  have LY:G (((l.drop (k+1)).flatMap tok++[ew]).map lS++T):=by
   cases hd:l.drop (k+1) with
   |nil=>exact LW _
   |cons y m=>
    rw[aiE,ah7,aii,ah7]
    exact LV y (aji (by rw[hd];exact aia)) _
  have xq:rY ew (pk L s P)=false:=by
   rw[hw] at hx
   exact hx.not LX
  have hr:=qM _ gD P _ oN hx LY
  rw[Ty.aF] at hr
  have iy:again (((),ew,b,((),(),()),(),()),((L.map cv,s,((P+(tok l[k]).length:Nat):Int),()),((),0,0,0,⟨#[]⟩,()),((),()),(op,()),((l.take k).map Ty.enc++[.agg [.sl (l[k].args.map Ty.enc),nI l[k].base]]),())):=by
   have e1:(l.take k).map Ty.enc++[.agg [.sl (l[k].args.map Ty.enc),nI l[k].base]]=(l.take (k+1)).map Ty.enc:=by rw[←Ty.aF];rw[←aH ay,aii];rfl
   have e2:P+(tok l[k]).length=i+((l.take (k+1)).flatMap tok).length:=by rw[cS _ ay,ah0,←hP];omega
   rw[e1,e2]
   exact bO (k+1) ay (by omega)
  refine ak.intro (fun h1=>⟨rfl,ak.intro (fun h2=>⟨_,hr,fun r q ⟨e1,e2⟩=>⟨_,_,_,_,_,_,_,_,_,_,⟨e1,e2⟩,rfl,aJ rfl (by rw[ah0,ahX,aid];simp;omega) (by decide),rfl,iy⟩⟩) fun h2=>⟨_,fF h oN xq,fun r q ⟨e1,e2⟩=>⟨_,_,_,_,_,_,_,_,⟨e1,e2⟩,ak.pos rfl ⟨_,hr,fun r q ⟨e1,e2⟩=>⟨_,_,_,_,_,_,_,_,_,_,⟨e1,e2⟩,rfl,aJ rfl (by rw[ah0,ahX,aid];simp;omega) (by decide),rfl,iy⟩⟩⟩⟩⟩) fun h1=>⟨_,fF h oN xq,fun r q ⟨e1,e2⟩=>⟨_,_,_,_,_,_,_,_,⟨e1,e2⟩,ak.pos rfl ⟨_,hr,fun r q ⟨e1,e2⟩=>⟨_,_,_,_,_,_,_,_,_,_,⟨e1,e2⟩,rfl,aJ rfl (by rw[ah0,ahX,aid];simp;omega) (by decide),rfl,iy⟩⟩⟩⟩
 ·obtain rfl:k=l.length:=by omega
  rw[ajn,ai2,aiU] at cw
  rw[aiJ] at hP ⊢
  subst hP
  refine ak.intro (fun h1=>⟨rfl,ak.neg ?_ ⟨_,dO h cw sV,fun r q ⟨e1,e2⟩=>⟨_,_,_,_,_,_,_,_,⟨e1,e2⟩,ak.neg rfl ⟨rfl,rfl,rfl⟩⟩⟩⟩) fun h1=>⟨_,dO h cw sV,fun r q ⟨e1,e2⟩=>⟨_,_,_,_,_,_,_,_,⟨e1,e2⟩,ak.neg rfl ⟨rfl,rfl,rfl⟩⟩⟩
  rw[ahX,beq_eq_false_iff_ne]
  have:=ai0.2 (hb h1)
  omega
theorem Dh (h:PE L s) {op:Int} {l:List (Ty)} {tok:Ty→List ByteArray} {G:List Tx→Prop} {ew:ByteArray} {b:Bool} (hl:l.length≤1000000) (hb:b=true→l≠[]) (sV:dJ ew≠2)
  (qM:∀x∈l,∀(j:Nat) (T':List Tx),j≤L.length→At L j (tok x) T'→G T'→cG Tryz.prog 130 [.ptr 2 0,.ptr 3 0] (D4 L s (j) bV op) (fun r q=>r=Ty.enc x∧q=D4 L s (j+(tok x).length) bV op))
  (LV:∀x∈l,∀T',G ((tok x).map lS++T')) (LW:∀T',G (lS ew::T')) (bK:∀x∈l,∃w u,tok x=w::u∧w≠ew)
  {i:Nat} {T:List Tx} (gP:At L i (l.flatMap tok++[ew]) T) (hi:i≤L.length):
  cG Tryz.prog 93 [.ptr 1 0,nS ew,nB b,.ck 130 [.ptr 2 0,.ptr 3 0]] (D4 L s (i) bV op) (fun r q=>r=.sl (l.map Ty.enc)∧q=D4 L s (i+(l.flatMap tok).length+1) bV op):=by
 refine CE ⟨rfl,?_⟩
 refine aB.intro (fun k:Nat=>(((),ew,b,((),(),()),(),()),((L.map cv,s,((i+((l.take k).flatMap tok).length:Nat):Int),()),((),0,0,0,⟨#[]⟩,()),((),()),(op,()),(l.take k).map Ty.enc,()))) (fun k=>k≤l.length) (fun k=>l.length-k) 0 rfl (ah3 _) ?_
 intro k hk again bO
 dsimp only
 have gO:At L i ((l.take k).flatMap tok++((l.drop k).flatMap tok++[ew])) T:=by
  rw[←ah7,←ai8,aiq];exact gP
 have cw:=gO.next
 have oN:=At.le hi gO.app
 generalize hP:i+((l.take k).flatMap tok).length=P at cw oN ⊢
 refine⟨_,dy (f:=bV),fun r q ⟨e1,e2⟩=>⟨_,_,_,_,_,_,_,_,⟨e1,e2⟩,ak.pos rfl ?_⟩⟩
 by_cases ay:k<l.length
 ·have gD:=ah1 ay
  obtain⟨w,u,hw,LX⟩:=bK _ gD
  have hx:At L P (tok l[k]) (((l.drop (k+1)).flatMap tok++[ew]).map lS++T):=by
   rw[ah6 ay,aiE,ah7] at cw
   exact cw.app
  have LY:G (((l.drop (k+1)).flatMap tok++[ew]).map lS++T):=by
   cases hd:l.drop (k+1) with
   |nil=>exact LW _
   |cons y m=>
    rw[aiE,ah7,aii,ah7]
    exact LV y (aji (by rw[hd];exact aia)) _
  have xq:rY ew (pk L s P)=false:=by
   rw[hw] at hx
   exact hx.not LX
  have hr:=qM _ gD P _ oN hx LY
  rw[Ty.aF] at hr
  have iy:again (((),ew,b,((),(),()),(),()),((L.map cv,s,((P+(tok l[k]).length:Nat):Int),()),((),0,0,0,⟨#[]⟩,()),((),()),(op,()),((l.take k).map Ty.enc++[.agg [.sl (l[k].args.map Ty.enc),nI l[k].base]]),())):=by
   have e1:(l.take k).map Ty.enc++[.agg [.sl (l[k].args.map Ty.enc),nI l[k].base]]=(l.take (k+1)).map Ty.enc:=by rw[←Ty.aF];rw[←aH ay,aii];rfl
   have e2:P+(tok l[k]).length=i+((l.take (k+1)).flatMap tok).length:=by rw[cS _ ay,ah0,←hP];omega
   rw[e1,e2]
   exact bO (k+1) ay (by omega)
  refine ak.intro (fun h1=>⟨rfl,ak.intro (fun h2=>⟨_,hr,fun r q ⟨e1,e2⟩=>⟨_,_,_,_,_,_,_,_,_,_,⟨e1,e2⟩,rfl,aJ rfl (by rw[ah0,ahX,aid];simp;omega) (by decide),rfl,iy⟩⟩) fun h2=>⟨_,fF h oN xq,fun r q ⟨e1,e2⟩=>⟨_,_,_,_,_,_,_,_,⟨e1,e2⟩,ak.pos rfl ⟨_,hr,fun r q ⟨e1,e2⟩=>⟨_,_,_,_,_,_,_,_,_,_,⟨e1,e2⟩,rfl,aJ rfl (by rw[ah0,ahX,aid];simp;omega) (by decide),rfl,iy⟩⟩⟩⟩⟩) fun h1=>⟨_,fF h oN xq,fun r q ⟨e1,e2⟩=>⟨_,_,_,_,_,_,_,_,⟨e1,e2⟩,ak.pos rfl ⟨_,hr,fun r q ⟨e1,e2⟩=>⟨_,_,_,_,_,_,_,_,_,_,⟨e1,e2⟩,rfl,aJ rfl (by rw[ah0,ahX,aid];simp;omega) (by decide),rfl,iy⟩⟩⟩⟩
 ·obtain rfl:k=l.length:=by omega
  rw[ajn,ai2,aiU] at cw
  rw[aiJ] at hP ⊢
  subst hP
  refine ak.intro (fun h1=>⟨rfl,ak.neg ?_ ⟨_,dO h cw sV,fun r q ⟨e1,e2⟩=>⟨_,_,_,_,_,_,_,_,⟨e1,e2⟩,ak.neg rfl ⟨rfl,rfl,rfl⟩⟩⟩⟩) fun h1=>⟨_,dO h cw sV,fun r q ⟨e1,e2⟩=>⟨_,_,_,_,_,_,_,_,⟨e1,e2⟩,ak.neg rfl ⟨rfl,rfl,rfl⟩⟩⟩
  rw[ahX,beq_eq_false_iff_ne]
  have:=ai0.2 (hb h1)
  omega
theorem Di (h:PE L s) {op:Int} {l:List (Tm)} {tok:Tm→List ByteArray} {G:List Tx→Prop} {ew:ByteArray} {b:Bool} (hl:l.length≤1000000) (hb:b=true→l≠[]) (sV:dJ ew≠2)
  (qM:∀x∈l,∀(j:Nat) (T':List Tx),j≤L.length→At L j (tok x) T'→G T'→cG Tryz.prog 133 [.ptr 2 0,.ptr 3 0] (D4 L s (j) bV op) (fun r q=>r=Tm.enc x∧q=D4 L s (j+(tok x).length) bV op))
  (LV:∀x∈l,∀T',G ((tok x).map lS++T')) (LW:∀T',G (lS ew::T')) (bK:∀x∈l,∃w u,tok x=w::u∧w≠ew)
  {i:Nat} {T:List Tx} (gP:At L i (l.flatMap tok++[ew]) T) (hi:i≤L.length):
  cG Tryz.prog 132 [.ptr 1 0,nS ew,nB b,.ck 133 [.ptr 2 0,.ptr 3 0]] (D4 L s (i) bV op) (fun r q=>r=.sl (l.map Tm.enc)∧q=D4 L s (i+(l.flatMap tok).length+1) bV op):=by
 refine CH ⟨rfl,?_⟩
 refine aB.intro (fun k:Nat=>(((),ew,b,((),(),()),(),()),((L.map cv,s,((i+((l.take k).flatMap tok).length:Nat):Int),()),((),0,0,0,⟨#[]⟩,()),((),()),(op,()),(l.take k).map Tm.enc,()))) (fun k=>k≤l.length) (fun k=>l.length-k) 0 rfl (ah3 _) ?_
 intro k hk again bO
 dsimp only
 have gO:At L i ((l.take k).flatMap tok++((l.drop k).flatMap tok++[ew])) T:=by
  rw[←ah7,←ai8,aiq];exact gP
 have cw:=gO.next
 have oN:=At.le hi gO.app
 generalize hP:i+((l.take k).flatMap tok).length=P at cw oN ⊢
 refine⟨_,dy (f:=bV),fun r q ⟨e1,e2⟩=>⟨_,_,_,_,_,_,_,_,⟨e1,e2⟩,ak.pos rfl ?_⟩⟩
 by_cases ay:k<l.length
 ·have gD:=ah1 ay
  obtain⟨w,u,hw,LX⟩:=bK _ gD
  have hx:At L P (tok l[k]) (((l.drop (k+1)).flatMap tok++[ew]).map lS++T):=by
   rw[ah6 ay,aiE,ah7] at cw
   exact cw.app
  have LY:G (((l.drop (k+1)).flatMap tok++[ew]).map lS++T):=by
   cases hd:l.drop (k+1) with
   |nil=>exact LW _
   |cons y m=>
    rw[aiE,ah7,aii,ah7]
    exact LV y (aji (by rw[hd];exact aia)) _
  have xq:rY ew (pk L s P)=false:=by
   rw[hw] at hx
   exact hx.not LX
  have hr:=qM _ gD P _ oN hx LY
  rw[Tm.aF] at hr
  have iy:again (((),ew,b,((),(),()),(),()),((L.map cv,s,((P+(tok l[k]).length:Nat):Int),()),((),0,0,0,⟨#[]⟩,()),((),()),(op,()),((l.take k).map Tm.enc++[.agg (QH l[k])]),())):=by
   have e1:(l.take k).map Tm.enc++[.agg (QH l[k])]=(l.take (k+1)).map Tm.enc:=by rw[←Tm.aF];rw[←aH ay,aii];rfl
   have e2:P+(tok l[k]).length=i+((l.take (k+1)).flatMap tok).length:=by rw[cS _ ay,ah0,←hP];omega
   rw[e1,e2]
   exact bO (k+1) ay (by omega)
  refine ak.intro (fun h1=>⟨rfl,ak.intro (fun h2=>⟨_,hr,fun r q ⟨e1,e2⟩=>⟨_,_,_,_,_,_,_,_,_,_,_,_,⟨e1,e2⟩,rfl,aJ rfl (by rw[ah0,ahX,aid];simp;omega) (by decide),rfl,iy⟩⟩) fun h2=>⟨_,fF h oN xq,fun r q ⟨e1,e2⟩=>⟨_,_,_,_,_,_,_,_,⟨e1,e2⟩,ak.pos rfl ⟨_,hr,fun r q ⟨e1,e2⟩=>⟨_,_,_,_,_,_,_,_,_,_,_,_,⟨e1,e2⟩,rfl,aJ rfl (by rw[ah0,ahX,aid];simp;omega) (by decide),rfl,iy⟩⟩⟩⟩⟩) fun h1=>⟨_,fF h oN xq,fun r q ⟨e1,e2⟩=>⟨_,_,_,_,_,_,_,_,⟨e1,e2⟩,ak.pos rfl ⟨_,hr,fun r q ⟨e1,e2⟩=>⟨_,_,_,_,_,_,_,_,_,_,_,_,⟨e1,e2⟩,rfl,aJ rfl (by rw[ah0,ahX,aid];simp;omega) (by decide),rfl,iy⟩⟩⟩⟩
 ·obtain rfl:k=l.length:=by omega
  rw[ajn,ai2,aiU] at cw
  rw[aiJ] at hP ⊢
  subst hP
  refine ak.intro (fun h1=>⟨rfl,ak.neg ?_ ⟨_,dO h cw sV,fun r q ⟨e1,e2⟩=>⟨_,_,_,_,_,_,_,_,⟨e1,e2⟩,ak.neg rfl ⟨rfl,rfl,rfl⟩⟩⟩⟩) fun h1=>⟨_,dO h cw sV,fun r q ⟨e1,e2⟩=>⟨_,_,_,_,_,_,_,_,⟨e1,e2⟩,ak.neg rfl ⟨rfl,rfl,rfl⟩⟩⟩
  rw[ahX,beq_eq_false_iff_ne]
  have:=ai0.2 (hb h1)
  omega
theorem Dj (h:PE L s) {l:List (Ty)} {tok:Ty→List ByteArray} {G:List Tx→Prop} {ew:ByteArray} {b:Bool} (hl:l.length≤1000000) (hb:b=true→l≠[]) (sV:dJ ew≠2)
  (qM:∀x∈l,∀(j:Nat) (T':List Tx),j≤L.length→At L j (tok x) T'→G T'→cG Tryz.prog 94 [.ptr 2 0] (D3 L s (j) bV) (fun r q=>r=Ty.enc x∧q=D3 L s (j+(tok x).length) bV))
  (LV:∀x∈l,∀T',G ((tok x).map lS++T')) (LW:∀T',G (lS ew::T')) (bK:∀x∈l,∃w u,tok x=w::u∧w≠ew)
  {i:Nat} {T:List Tx} (gP:At L i (l.flatMap tok++[ew]) T) (hi:i≤L.length):
  cG Tryz.prog 93 [.ptr 1 0,nS ew,nB b,.ck 94 [.ptr 2 0]] (D3 L s (i) bV) (fun r q=>r=.sl (l.map Ty.enc)∧q=D3 L s (i+(l.flatMap tok).length+1) bV):=by
 refine CK ⟨rfl,?_⟩
 refine aB.intro (fun k:Nat=>(((),ew,b,((),()),(),()),((L.map cv,s,((i+((l.take k).flatMap tok).length:Nat):Int),()),((),0,0,0,⟨#[]⟩,()),((),()),(l.take k).map Ty.enc,()))) (fun k=>k≤l.length) (fun k=>l.length-k) 0 rfl (ah3 _) ?_
 intro k hk again bO
 dsimp only
 have gO:At L i ((l.take k).flatMap tok++((l.drop k).flatMap tok++[ew])) T:=by
  rw[←ah7,←ai8,aiq];exact gP
 have cw:=gO.next
 have oN:=At.le hi gO.app
 generalize hP:i+((l.take k).flatMap tok).length=P at cw oN ⊢
 refine⟨_,dy (f:=bV),fun r q ⟨e1,e2⟩=>⟨_,_,_,_,_,_,_,_,⟨e1,e2⟩,ak.pos rfl ?_⟩⟩
 by_cases ay:k<l.length
 ·have gD:=ah1 ay
  obtain⟨w,u,hw,LX⟩:=bK _ gD
  have hx:At L P (tok l[k]) (((l.drop (k+1)).flatMap tok++[ew]).map lS++T):=by
   rw[ah6 ay,aiE,ah7] at cw
   exact cw.app
  have LY:G (((l.drop (k+1)).flatMap tok++[ew]).map lS++T):=by
   cases hd:l.drop (k+1) with
   |nil=>exact LW _
   |cons y m=>
    rw[aiE,ah7,aii,ah7]
    exact LV y (aji (by rw[hd];exact aia)) _
  have xq:rY ew (pk L s P)=false:=by
   rw[hw] at hx
   exact hx.not LX
  have hr:=qM _ gD P _ oN hx LY
  rw[Ty.aF] at hr
  have iy:again (((),ew,b,((),()),(),()),((L.map cv,s,((P+(tok l[k]).length:Nat):Int),()),((),0,0,0,⟨#[]⟩,()),((),()),((l.take k).map Ty.enc++[.agg [.sl (l[k].args.map Ty.enc),nI l[k].base]]),())):=by
   have e1:(l.take k).map Ty.enc++[.agg [.sl (l[k].args.map Ty.enc),nI l[k].base]]=(l.take (k+1)).map Ty.enc:=by rw[←Ty.aF];rw[←aH ay,aii];rfl
   have e2:P+(tok l[k]).length=i+((l.take (k+1)).flatMap tok).length:=by rw[cS _ ay,ah0,←hP];omega
   rw[e1,e2]
   exact bO (k+1) ay (by omega)
  refine ak.intro (fun h1=>⟨rfl,ak.intro (fun h2=>⟨_,hr,fun r q ⟨e1,e2⟩=>⟨_,_,_,_,_,_,_,_,_,⟨e1,e2⟩,rfl,aJ rfl (by rw[ah0,ahX,aid];simp;omega) (by decide),rfl,iy⟩⟩) fun h2=>⟨_,fF h oN xq,fun r q ⟨e1,e2⟩=>⟨_,_,_,_,_,_,_,_,⟨e1,e2⟩,ak.pos rfl ⟨_,hr,fun r q ⟨e1,e2⟩=>⟨_,_,_,_,_,_,_,_,_,⟨e1,e2⟩,rfl,aJ rfl (by rw[ah0,ahX,aid];simp;omega) (by decide),rfl,iy⟩⟩⟩⟩⟩) fun h1=>⟨_,fF h oN xq,fun r q ⟨e1,e2⟩=>⟨_,_,_,_,_,_,_,_,⟨e1,e2⟩,ak.pos rfl ⟨_,hr,fun r q ⟨e1,e2⟩=>⟨_,_,_,_,_,_,_,_,_,⟨e1,e2⟩,rfl,aJ rfl (by rw[ah0,ahX,aid];simp;omega) (by decide),rfl,iy⟩⟩⟩⟩
 ·obtain rfl:k=l.length:=by omega
  rw[ajn,ai2,aiU] at cw
  rw[aiJ] at hP ⊢
  subst hP
  refine ak.intro (fun h1=>⟨rfl,ak.neg ?_ ⟨_,dO h cw sV,fun r q ⟨e1,e2⟩=>⟨_,_,_,_,_,_,_,_,⟨e1,e2⟩,ak.neg rfl ⟨rfl,rfl,rfl⟩⟩⟩⟩) fun h1=>⟨_,dO h cw sV,fun r q ⟨e1,e2⟩=>⟨_,_,_,_,_,_,_,_,⟨e1,e2⟩,ak.neg rfl ⟨rfl,rfl,rfl⟩⟩⟩
  rw[ahX,beq_eq_false_iff_ne]
  have:=ai0.2 (hb h1)
  omega
theorem Dk (h:PE L s) {l:List (Int×Tm)} {tok:(Int×Tm)→List ByteArray} {G:List Tx→Prop} {ew:ByteArray} {b:Bool} (hl:l.length≤1000000) (hb:b=true→l≠[]) (sV:dJ ew≠2)
  (qM:∀x∈l,∀(j:Nat) (T':List Tx),j≤L.length→At L j (tok x) T'→G T'→cG Tryz.prog 136 [.ptr 2 0] (D3 L s (j) bV) (fun r q=>r=bp x∧q=D3 L s (j+(tok x).length) bV))
  (LV:∀x∈l,∀T',G ((tok x).map lS++T')) (LW:∀T',G (lS ew::T')) (bK:∀x∈l,∃w u,tok x=w::u∧w≠ew)
  {i:Nat} {T:List Tx} (gP:At L i (l.flatMap tok++[ew]) T) (hi:i≤L.length):
  cG Tryz.prog 135 [.ptr 1 0,nS ew,nB b,.ck 136 [.ptr 2 0]] (D3 L s (i) bV) (fun r q=>r=.sl (l.map bp)∧q=D3 L s (i+(l.flatMap tok).length+1) bV):=by
 refine CN ⟨rfl,?_⟩
 refine aB.intro (fun k:Nat=>(((),ew,b,((),()),(),()),((L.map cv,s,((i+((l.take k).flatMap tok).length:Nat):Int),()),((),0,0,0,⟨#[]⟩,()),((),()),(l.take k).map bp,()))) (fun k=>k≤l.length) (fun k=>l.length-k) 0 rfl (ah3 _) ?_
 intro k hk again bO
 dsimp only
 have gO:At L i ((l.take k).flatMap tok++((l.drop k).flatMap tok++[ew])) T:=by
  rw[←ah7,←ai8,aiq];exact gP
 have cw:=gO.next
 have oN:=At.le hi gO.app
 generalize hP:i+((l.take k).flatMap tok).length=P at cw oN ⊢
 refine⟨_,dy (f:=bV),fun r q ⟨e1,e2⟩=>⟨_,_,_,_,_,_,_,_,⟨e1,e2⟩,ak.pos rfl ?_⟩⟩
 by_cases ay:k<l.length
 ·have gD:=ah1 ay
  obtain⟨w,u,hw,LX⟩:=bK _ gD
  have hx:At L P (tok l[k]) (((l.drop (k+1)).flatMap tok++[ew]).map lS++T):=by
   rw[ah6 ay,aiE,ah7] at cw
   exact cw.app
  have LY:G (((l.drop (k+1)).flatMap tok++[ew]).map lS++T):=by
   cases hd:l.drop (k+1) with
   |nil=>exact LW _
   |cons y m=>
    rw[aiE,ah7,aii,ah7]
    exact LV y (aji (by rw[hd];exact aia)) _
  have xq:rY ew (pk L s P)=false:=by
   rw[hw] at hx
   exact hx.not LX
  have hr:=qM _ gD P _ oN hx LY
  unfold bp at hr
  have iy:again (((),ew,b,((),()),(),()),((L.map cv,s,((P+(tok l[k]).length:Nat):Int),()),((),0,0,0,⟨#[]⟩,()),((),()),((l.take k).map bp++[.agg (nI l[k].1::QH l[k].2)]),())):=by
   have e1:(l.take k).map bp++[.agg (nI l[k].1::QH l[k].2)]=(l.take (k+1)).map bp:=by show _++[bp l[k]]=_;rw[←aH ay,aii];rfl
   have e2:P+(tok l[k]).length=i+((l.take (k+1)).flatMap tok).length:=by rw[cS _ ay,ah0,←hP];omega
   rw[e1,e2]
   exact bO (k+1) ay (by omega)
  refine ak.intro (fun h1=>⟨rfl,ak.intro (fun h2=>⟨_,hr,fun r q ⟨e1,e2⟩=>⟨_,_,_,_,_,_,_,_,_,_,_,_,⟨e1,e2⟩,rfl,aJ rfl (by rw[ah0,ahX,aid];simp;omega) (by decide),rfl,iy⟩⟩) fun h2=>⟨_,fF h oN xq,fun r q ⟨e1,e2⟩=>⟨_,_,_,_,_,_,_,_,⟨e1,e2⟩,ak.pos rfl ⟨_,hr,fun r q ⟨e1,e2⟩=>⟨_,_,_,_,_,_,_,_,_,_,_,_,⟨e1,e2⟩,rfl,aJ rfl (by rw[ah0,ahX,aid];simp;omega) (by decide),rfl,iy⟩⟩⟩⟩⟩) fun h1=>⟨_,fF h oN xq,fun r q ⟨e1,e2⟩=>⟨_,_,_,_,_,_,_,_,⟨e1,e2⟩,ak.pos rfl ⟨_,hr,fun r q ⟨e1,e2⟩=>⟨_,_,_,_,_,_,_,_,_,_,_,_,⟨e1,e2⟩,rfl,aJ rfl (by rw[ah0,ahX,aid];simp;omega) (by decide),rfl,iy⟩⟩⟩⟩
 ·obtain rfl:k=l.length:=by omega
  rw[ajn,ai2,aiU] at cw
  rw[aiJ] at hP ⊢
  subst hP
  refine ak.intro (fun h1=>⟨rfl,ak.neg ?_ ⟨_,dO h cw sV,fun r q ⟨e1,e2⟩=>⟨_,_,_,_,_,_,_,_,⟨e1,e2⟩,ak.neg rfl ⟨rfl,rfl,rfl⟩⟩⟩⟩) fun h1=>⟨_,dO h cw sV,fun r q ⟨e1,e2⟩=>⟨_,_,_,_,_,_,_,_,⟨e1,e2⟩,ak.neg rfl ⟨rfl,rfl,rfl⟩⟩⟩
  rw[ahX,beq_eq_false_iff_ne]
  have:=ai0.2 (hb h1)
  omega
theorem Dl (h:PE L s) {l:List (Int)} {tok:Int→List ByteArray} {G:List Tx→Prop} {ew:ByteArray} {b:Bool} (hl:l.length≤1000000) (hb:b=true→l≠[]) (sV:dJ ew≠2)
  (qM:∀x∈l,∀(j:Nat) (T':List Tx),j≤L.length→At L j (tok x) T'→G T'→cG Tryz.prog 128 [.ptr 1 0] (D2 L s (j) bV) (fun r q=>r=nI x∧q=D2 L s (j+(tok x).length) bV))
  (LV:∀x∈l,∀T',G ((tok x).map lS++T')) (LW:∀T',G (lS ew::T')) (bK:∀x∈l,∃w u,tok x=w::u∧w≠ew)
  {i:Nat} {T:List Tx} (gP:At L i (l.flatMap tok++[ew]) T) (hi:i≤L.length):
  cG Tryz.prog 134 [.ptr 1 0,nS ew,nB b,.cX 128 [.ptr 1 0]] (D2 L s (i) bV) (fun r q=>r=.sl (l.map nI)∧q=D2 L s (i+(l.flatMap tok).length+1) bV):=by
 refine CQ ⟨rfl,rfl,?_⟩
 refine aB.intro (fun k:Nat=>(((),ew,b,((),()),(),()),((L.map cv,s,((i+((l.take k).flatMap tok).length:Nat):Int),()),((),0,0,0,⟨#[]⟩,()),(l.take k).map nI,()))) (fun k=>k≤l.length) (fun k=>l.length-k) 0 rfl (ah3 _) ?_
 intro k hk again bO
 dsimp only
 have gO:At L i ((l.take k).flatMap tok++((l.drop k).flatMap tok++[ew])) T:=by
  rw[←ah7,←ai8,aiq];exact gP
 have cw:=gO.next
 have oN:=At.le hi gO.app
 generalize hP:i+((l.take k).flatMap tok).length=P at cw oN ⊢
 refine⟨_,dy (f:=bV),fun r q ⟨e1,e2⟩=>⟨_,_,_,_,_,_,_,_,⟨e1,e2⟩,ak.pos rfl ?_⟩⟩
 by_cases ay:k<l.length
 ·have gD:=ah1 ay
  obtain⟨w,u,hw,LX⟩:=bK _ gD
  have hx:At L P (tok l[k]) (((l.drop (k+1)).flatMap tok++[ew]).map lS++T):=by
   rw[ah6 ay,aiE,ah7] at cw
   exact cw.app
  have LY:G (((l.drop (k+1)).flatMap tok++[ew]).map lS++T):=by
   cases hd:l.drop (k+1) with
   |nil=>exact LW _
   |cons y m=>
    rw[aiE,ah7,aii,ah7]
    exact LV y (aji (by rw[hd];exact aia)) _
  have xq:rY ew (pk L s P)=false:=by
   rw[hw] at hx
   exact hx.not LX
  have hr:=qM _ gD P _ oN hx LY
  skip
  have iy:again (((),ew,b,((),()),(),()),((L.map cv,s,((P+(tok l[k]).length:Nat):Int),()),((),0,0,0,⟨#[]⟩,()),((l.take k).map nI++[nI l[k]]),())):=by
   have e1:(l.take k).map nI++[nI l[k]]=(l.take (k+1)).map nI:=by rw[←aH ay,aii];rfl
   have e2:P+(tok l[k]).length=i+((l.take (k+1)).flatMap tok).length:=by rw[cS _ ay,ah0,←hP];omega
   rw[e1,e2]
   exact bO (k+1) ay (by omega)
  refine ak.intro (fun h1=>⟨rfl,ak.intro (fun h2=>⟨_,hr,fun r q ⟨e1,e2⟩=>⟨_,_,_,_,_,_,_,_,⟨e1,e2⟩,rfl,aJ rfl (by rw[ah0,ahX,aid];simp;omega) (by decide),rfl,rfl,iy⟩⟩) fun h2=>⟨_,fF h oN xq,fun r q ⟨e1,e2⟩=>⟨_,_,_,_,_,_,_,_,⟨e1,e2⟩,ak.pos rfl ⟨_,hr,fun r q ⟨e1,e2⟩=>⟨_,_,_,_,_,_,_,_,⟨e1,e2⟩,rfl,aJ rfl (by rw[ah0,ahX,aid];simp;omega) (by decide),rfl,rfl,iy⟩⟩⟩⟩⟩) fun h1=>⟨_,fF h oN xq,fun r q ⟨e1,e2⟩=>⟨_,_,_,_,_,_,_,_,⟨e1,e2⟩,ak.pos rfl ⟨_,hr,fun r q ⟨e1,e2⟩=>⟨_,_,_,_,_,_,_,_,⟨e1,e2⟩,rfl,aJ rfl (by rw[ah0,ahX,aid];simp;omega) (by decide),rfl,rfl,iy⟩⟩⟩⟩
 ·obtain rfl:k=l.length:=by omega
  rw[ajn,ai2,aiU] at cw
  rw[aiJ] at hP ⊢
  subst hP
  refine ak.intro (fun h1=>⟨rfl,ak.neg ?_ ⟨_,dO h cw sV,fun r q ⟨e1,e2⟩=>⟨_,_,_,_,_,_,_,_,⟨e1,e2⟩,ak.neg rfl ⟨rfl,rfl,rfl⟩⟩⟩⟩) fun h1=>⟨_,dO h cw sV,fun r q ⟨e1,e2⟩=>⟨_,_,_,_,_,_,_,_,⟨e1,e2⟩,ak.neg rfl ⟨rfl,rfl,rfl⟩⟩⟩
  rw[ahX,beq_eq_false_iff_ne]
  have:=ai0.2 (hb h1)
  omega
theorem Dm (h:PE L s) {l:List (bF)} {tok:bF→List ByteArray} {G:List Tx→Prop} {ew:ByteArray} {b:Bool} (hl:l.length≤1000000) (hb:b=true→l≠[]) (sV:dJ ew≠2)
  (qM:∀x∈l,∀(j:Nat) (T':List Tx),j≤L.length→At L j (tok x) T'→G T'→cG Tryz.prog 98 [.ptr 1 0] (D2 L s (j) bV) (fun r q=>r=bF.enc x∧q=D2 L s (j+(tok x).length) bV))
  (LV:∀x∈l,∀T',G ((tok x).map lS++T')) (LW:∀T',G (lS ew::T')) (bK:∀x∈l,∃w u,tok x=w::u∧w≠ew)
  {i:Nat} {T:List Tx} (gP:At L i (l.flatMap tok++[ew]) T) (hi:i≤L.length):
  cG Tryz.prog 97 [.ptr 1 0,nS ew,nB b,.cX 98 [.ptr 1 0]] (D2 L s (i) bV) (fun r q=>r=.sl (l.map bF.enc)∧q=D2 L s (i+(l.flatMap tok).length+1) bV):=by
 refine CT ⟨rfl,rfl,?_⟩
 refine aB.intro (fun k:Nat=>(((),ew,b,((),()),(),()),((L.map cv,s,((i+((l.take k).flatMap tok).length:Nat):Int),()),((),0,0,0,⟨#[]⟩,()),(l.take k).map bF.enc,()))) (fun k=>k≤l.length) (fun k=>l.length-k) 0 rfl (ah3 _) ?_
 intro k hk again bO
 dsimp only
 have gO:At L i ((l.take k).flatMap tok++((l.drop k).flatMap tok++[ew])) T:=by
  rw[←ah7,←ai8,aiq];exact gP
 have cw:=gO.next
 have oN:=At.le hi gO.app
 generalize hP:i+((l.take k).flatMap tok).length=P at cw oN ⊢
 refine⟨_,dy (f:=bV),fun r q ⟨e1,e2⟩=>⟨_,_,_,_,_,_,_,_,⟨e1,e2⟩,ak.pos rfl ?_⟩⟩
 by_cases ay:k<l.length
 ·have gD:=ah1 ay
  obtain⟨w,u,hw,LX⟩:=bK _ gD
  have hx:At L P (tok l[k]) (((l.drop (k+1)).flatMap tok++[ew]).map lS++T):=by
   rw[ah6 ay,aiE,ah7] at cw
   exact cw.app
  have LY:G (((l.drop (k+1)).flatMap tok++[ew]).map lS++T):=by
   cases hd:l.drop (k+1) with
   |nil=>exact LW _
   |cons y m=>
    rw[aiE,ah7,aii,ah7]
    exact LV y (aji (by rw[hd];exact aia)) _
  have xq:rY ew (pk L s P)=false:=by
   rw[hw] at hx
   exact hx.not LX
  have hr:=qM _ gD P _ oN hx LY
  unfold bF.enc at hr
  have iy:again (((),ew,b,((),()),(),()),((L.map cv,s,((P+(tok l[k]).length:Nat):Int),()),((),0,0,0,⟨#[]⟩,()),((l.take k).map bF.enc++[.agg [nI l[k].eq,nB l[k].back,.sl (aK l[k].path),.sl (l[k].sub.map bp)]]),())):=by
   have e1:(l.take k).map bF.enc++[.agg [nI l[k].eq,nB l[k].back,.sl (aK l[k].path),.sl (l[k].sub.map bp)]]=(l.take (k+1)).map bF.enc:=by show _++[bF.enc l[k]]=_;rw[←aH ay,aii];rfl
   have e2:P+(tok l[k]).length=i+((l.take (k+1)).flatMap tok).length:=by rw[cS _ ay,ah0,←hP];omega
   rw[e1,e2]
   exact bO (k+1) ay (by omega)
  refine ak.intro (fun h1=>⟨rfl,ak.intro (fun h2=>⟨_,hr,fun r q ⟨e1,e2⟩=>⟨_,_,_,_,_,_,_,_,_,_,_,⟨e1,e2⟩,rfl,aJ rfl (by rw[ah0,ahX,aid];simp;omega) (by decide),rfl,rfl,iy⟩⟩) fun h2=>⟨_,fF h oN xq,fun r q ⟨e1,e2⟩=>⟨_,_,_,_,_,_,_,_,⟨e1,e2⟩,ak.pos rfl ⟨_,hr,fun r q ⟨e1,e2⟩=>⟨_,_,_,_,_,_,_,_,_,_,_,⟨e1,e2⟩,rfl,aJ rfl (by rw[ah0,ahX,aid];simp;omega) (by decide),rfl,rfl,iy⟩⟩⟩⟩⟩) fun h1=>⟨_,fF h oN xq,fun r q ⟨e1,e2⟩=>⟨_,_,_,_,_,_,_,_,⟨e1,e2⟩,ak.pos rfl ⟨_,hr,fun r q ⟨e1,e2⟩=>⟨_,_,_,_,_,_,_,_,_,_,_,⟨e1,e2⟩,rfl,aJ rfl (by rw[ah0,ahX,aid];simp;omega) (by decide),rfl,rfl,iy⟩⟩⟩⟩
 ·obtain rfl:k=l.length:=by omega
  rw[ajn,ai2,aiU] at cw
  rw[aiJ] at hP ⊢
  subst hP
  refine ak.intro (fun h1=>⟨rfl,ak.neg ?_ ⟨_,dO h cw sV,fun r q ⟨e1,e2⟩=>⟨_,_,_,_,_,_,_,_,⟨e1,e2⟩,ak.neg rfl ⟨rfl,rfl,rfl⟩⟩⟩⟩) fun h1=>⟨_,dO h cw sV,fun r q ⟨e1,e2⟩=>⟨_,_,_,_,_,_,_,_,⟨e1,e2⟩,ak.neg rfl ⟨rfl,rfl,rfl⟩⟩⟩
  rw[ahX,beq_eq_false_iff_ne]
  have:=ai0.2 (hb h1)
  omega
end
section
variable {L:List Tk} {s w:ByteArray} {i:Nat} {u v:List ByteArray} {T:List Tx} {f:Fa}
theorem Dn {a b:ByteArray} (h:dJ a≠dJ b):aj a≠aj b:=fun e=>h (by unfold dJ;rw[e])
theorem uC {a b:ByteArray} (h:aj a≠aj b):a≠b:=fun e=>h (by rw[e])
def Qe (w:ByteArray) (T:List Tx):Prop:=∀x,T.head?=some x→x.2≠aj w
theorem jl {a b:ByteArray} (h:aj a≠aj b):Qe b (lS a::T):=fun x hx=>by
 rw[List.head?_cons,Option.some.injEq] at hx
 subst hx;exact h
theorem At.none (h:At L i [] T) (hn:Qe w T):Go.Proofs.YtjhanogfpkbamaaGreatDoor.rY w (pk L s i)=false:=by
 unfold At at h
 rw[aiY,aiU] at h
 rcases ajP i L.length with h1|h1
 ·rw[Gt h1]
  rw[ah6 h1,ais] at h
  have h2:=hn (Gv L[i]) (by rw[←h];rfl)
  unfold Gv at h2
  unfold Go.Proofs.YtjhanogfpkbamaaGreatDoor.rY
  rw[Bool.and_eq_false_iff]
  exact .inr (decide_eq_false fun e=>h2 (by rw[e]))
 ·rw[KF h1];rfl
theorem sP {d:Nat} {t:Ty} (h:jj d t=true):∃n u,bz d t=bt n::u∧cC n=true:=by
 cases d with
 |zero=>cases h
 |succ d=>
  rw[jj,ahZ] at h
  exact⟨_,_,rfl,h.1⟩
theorem Iy {d:Nat} {t:Tm} (h:gZ d t=true):∃w u,aW d t=w::u∧(w=C3∨dJ w=1):=by
 cases d with
 |zero=>cases h
 |succ d=>
  rw[gZ,ahZ,ahZ,ahZ] at h
  rw[aW,if_pos h.1]
  cases hb:t.binds with
  |nil=>exact⟨_,_,rfl,.inr (oM h.1)⟩
  |cons x l=>exact⟨_,_,rfl,.inl rfl⟩
theorem xU {n:Int} (h:cC n=true) {w:ByteArray} (hw:dJ w=3):aj (bt n)≠aj w:=Dn (by rw[vw h,hw];decide)
theorem Iz {d:Nat} {t:Ty} (h:jj d t=true) {w:ByteArray} (hw:dJ w=3):Qe w ((bz d t).map lS++T):=by
 obtain⟨n,u,e,hn⟩:=sP h
 rw[e]
 exact jl (xU hn hw)
theorem Qf {d:Nat} {t:Ty} (h:jj d t=true) {w:ByteArray} (hw:dJ w=3):∃x u,bz d t=x::u∧x≠w:=by
 obtain⟨n,u,e,hn⟩:=sP h
 exact⟨_,_,e,uC (xU hn hw)⟩
theorem Gy {d:Nat} {t:Tm} (h:gZ d t=true) {w:ByteArray} (hw:dJ w=3) (hl:aj C3≠aj w):∃x u,aW d t=x::u∧aj x≠aj w:=by
 obtain⟨x,u,e,hx⟩:=Iy h
 refine⟨x,u,e,?_⟩
 rcases hx with rfl|hx
 ·exact hl
 ·exact Dn (by rw[hx,hw];decide)
theorem Xc {d:Nat} {t:Tm} (h:gZ d t=true) {w:ByteArray} (hw:dJ w=3) (hl:aj C3≠aj w):Qe w ((aW d t).map lS++T):=by
 obtain⟨x,u,e,hx⟩:=Gy h hw hl
 rw[e]
 exact jl hx
theorem aar {d:Nat} {t:Tm} (h:gZ d t=true) {w:ByteArray} (hw:dJ w=3) (hl:aj C3≠aj w):∃x u,aW d t=x::u∧x≠w:=by
 obtain⟨x,u,e,hx⟩:=Gy h hw hl
 exact⟨x,u,e,uC hx⟩
theorem sQ (h:PE L s):∀(d:Nat) (t:Ty),d≤60→jj d t=true→t.size≤1000000→∀(j:Nat) (T:List Tx),j≤L.length→At L j (bz d t) T→Qe qZ T→
  cG Tryz.prog 95 [.ptr 1 0,nI ((60-d:Nat):Int)] (D2 L s j bV) (fun r q=>r=t.enc∧q=D2 L s (j+(bz d t).length) bV)
 |0,t,_,aD,_,_,_,_,_,_=>by cases aD
 |d+1,t,hd,aD,hz,j,T,hj,gP,hn=>by
  have cJ:=t.size_eq
  have hll:=Ty.bA t.args
  rw[jj,ahZ] at aD
  have jz:=ah4.1 aD.2
  rw[bz] at gP ⊢
  have sR:=gP.tail
  have ay:=gP.lt
  refine cG.prw ?_
  rw[Ty.aF]
  by_cases ha:t.args=[]
  ·rw[ha] at sR ⊢
   refine Kv ⟨_,mz hd,fun r q ⟨e1,e2⟩=>⟨_,_,_,_,_,_,_,_,⟨e1,e2⟩,ak.neg rfl ⟨_,lK h aD.1 gP,fun r q ⟨e1,e2⟩=>⟨_,_,_,_,_,_,_,_,⟨e1,e2⟩,
    _,fF h (by omega) (sR.none hn),fun r q ⟨e1,e2⟩=>⟨_,_,_,_,_,_,_,_,⟨e1,e2⟩,ak.neg rfl ⟨ef.agg ⟨qo,ef.refl _,True.intro⟩,rfl⟩⟩⟩⟩⟩⟩
  ·have bK:t.args.isEmpty=false:=by cases hx:t.args with|nil=>exact(ha hx).elim|cons _ _=>rfl
   rw[iJ,bK] at sR ⊢
   have xd:At L (j+1) (qZ::(t.args.flatMap (bz d)++[qx])) T:=sR
   have Qg:=xd.tail
   have kE:=Dg (op:=((60-(d+1):Nat):Int)) (l:=t.args) (tok:=bz d) (G:=Qe qZ) (ew:=qx) (b:=true) h (by omega) (fun _=>ha) (by decide)
    (fun x hx k T' hk cw hG=>by
     have hr:=sQ h d x (by omega) (jz x hx) (by have:=Ty.cN hx;omega) k T' hk cw hG
     have ew:IntKind.wrap .i64 (((60-(d+1):Nat):Int)+1)=((60-d:Nat):Int):=by rw[bH (by omega) (by omega)];omega
     rw[Ty.aF] at hr ⊢
     refine PG ?_
     unfold Vo
     rw[ew]
     exact⟨_,hr,fun r q ⟨e1,e2⟩=>⟨_,_,_,_,_,_,_,_,_,⟨e1,e2⟩,rfl,rfl⟩⟩)
    (fun x hx T'=>Iz (jz x hx) rfl) (fun T'=>jl (by decide)) (fun x hx=>Qf (jz x hx) rfl) Qg (by have:=xd.lt;omega)
   refine Kv ⟨_,mz hd,fun r q ⟨e1,e2⟩=>⟨_,_,_,_,_,_,_,_,⟨e1,e2⟩,ak.neg rfl ⟨_,lK h aD.1 gP,fun r q ⟨e1,e2⟩=>⟨_,_,_,_,_,_,_,_,⟨e1,e2⟩,
    _,dO h xd (by decide),fun r q ⟨e1,e2⟩=>⟨_,_,_,_,_,_,_,_,⟨e1,e2⟩,ak.pos rfl ⟨_,kE,fun r q ⟨e1,e2⟩=>⟨_,_,_,_,_,_,_,_,_,⟨e1,e2⟩,ef.refl _,?_⟩⟩⟩⟩⟩⟩⟩
   have e:j+1+1+(t.args.flatMap (bz d)).length+1=j+(bt t.base::(if false=true then[] else qZ::(t.args.flatMap (bz d)++[qx]))).length:=by simp;omega
   rw[←e]
theorem wv (h:PE L s):∀(d:Nat) (t:Tm),d≤60→gZ d t=true→t.size≤1000000→∀(j:Nat) (T:List Tx),j≤L.length→At L j (aW d t) T→Qe vp T→
  cG Tryz.prog 96 [.ptr 1 0,nI ((60-d:Nat):Int)] (D2 L s j bV) (fun r q=>r=t.enc∧q=D2 L s (j+(aW d t).length) bV)
 |0,t,_,aD,_,_,_,_,_,_=>by cases aD
 |d+1,t,hd,aD,hz,j,T,hj,gP,hn=>by
  have cJ:=t.size_eq
  have hll:=Tm.bA t.args
  have XS:=Ty.bA t.binds
  rw[gZ,ahZ,ahZ,ahZ] at aD
  obtain⟨hk,QU,aas,aI⟩:=aD
  have Qh:=ah4.1 QU
  have jz:=ah4.1 aI
  rw[aW,if_pos hk] at gP ⊢
  have ew:IntKind.wrap .i64 (((60-(d+1):Nat):Int)+1)=((60-d:Nat):Int):=by rw[bH (by omega) (by omega)];omega
  refine cG.prw ?_
  rw[Tm.aF]
  have kE:∀(p:Nat) (T':List Tx),t.args≠[]→p≤L.length→At L p (t.args.flatMap (aW d)++[xP]) T'→_:=fun p T' ha hp aea=>
   Di (op:=((60-(d+1):Nat):Int)) (l:=t.args) (tok:=aW d) (G:=Qe vp) (ew:=xP) (b:=true) h (by omega) (fun _=>ha) (by decide)
    (fun x hx k T' hk cw hG=>by
     have hr:=wv h d x (by omega) (jz x hx) (by have:=Tm.cN hx;omega) k T' hk cw hG
     rw[Tm.aF] at hr ⊢
     refine PJ ?_
     unfold Vq
     rw[ew]
     exact⟨_,hr,fun r q ⟨e1,e2⟩=>⟨_,_,_,_,_,_,_,_,_,_,_,⟨e1,e2⟩,rfl,rfl⟩⟩)
    (fun x hx T'=>Xc (jz x hx) rfl (by decide)) (fun T'=>jl (by decide)) (fun x hx=>aar (jz x hx) rfl (by decide)) aea hp
  have hlen:∀a:List ByteArray,(a++(jk t.kind++bt t.index)::iJ vp xP t.args (t.args.flatMap (aW d))).length=a.length+1+(iJ vp xP t.args (t.args.flatMap (aW d))).length:=fun a=>by simp;omega
  rw[hlen]
  by_cases hb:t.binds=[]
  ·have e0:iJ C3 Gc t.binds (t.binds.flatMap (bz d))=[]:=by rw[hb];rfl
   rw[e0,aiU] at gP
   rw[e0,hb,aiY,aiK,ai4]
   have sR:=gP.tail
   have ay:=gP.lt
   have xq:rY C3 (pk L s j)=false:=gP.not (uC (Dn (by rw[oM hk];decide)))
   refine Kw ⟨_,mz hd,fun r q ⟨e1,e2⟩=>⟨_,_,_,_,_,_,_,_,⟨e1,e2⟩,ak.neg rfl ⟨_,fF h hj xq,fun r q ⟨e1,e2⟩=>⟨_,_,_,_,_,_,_,_,⟨e1,e2⟩,
    ak.neg rfl ⟨_,wu h hk aas gP,fun r q ⟨e1,e2⟩=>⟨_,_,_,_,_,_,_,_,_,⟨e1,e2⟩,?_⟩⟩⟩⟩⟩⟩
   by_cases ha:t.args=[]
   ·rw[ha] at sR ⊢
    exact⟨_,fF h (by omega) (sR.none hn),fun r q ⟨e1,e2⟩=>⟨_,_,_,_,_,_,_,_,⟨e1,e2⟩,ak.neg rfl ⟨ef.agg ⟨qo,ef.refl _,ef.refl _,qo,True.intro⟩,rfl⟩⟩⟩
   ·have bK:t.args.isEmpty=false:=by cases hx:t.args with|nil=>exact(ha hx).elim|cons _ _=>rfl
    rw[iJ,bK] at sR ⊢
    have xd:At L (j+1) (vp::(t.args.flatMap (aW d)++[xP])) T:=sR
    have hu:=kE _ _ ha (by have:=xd.lt;omega) xd.tail
    refine⟨_,dO h xd (by decide),fun r q ⟨e1,e2⟩=>⟨_,_,_,_,_,_,_,_,⟨e1,e2⟩,ak.pos rfl ⟨_,hu,fun r q ⟨e1,e2⟩=>⟨_,_,_,_,_,_,_,_,_,⟨e1,e2⟩,ef.agg ⟨qo,ef.refl _,ef.refl _,ef.refl _,True.intro⟩,?_⟩⟩⟩⟩
    have e:j+1+1+(t.args.flatMap (aW d)).length+1=j+(0+1+(if false=true then[] else vp::(t.args.flatMap (aW d)++[xP])).length):=by simp;omega
    rw[←e]
  ·have hbe:t.binds.isEmpty=false:=by cases hx:t.binds with|nil=>exact(hb hx).elim|cons _ _=>rfl
   have e0:iJ C3 Gc t.binds (t.binds.flatMap (bz d))=C3::(t.binds.flatMap (bz d)++[Gc]):=by rw[iJ,hbe];rfl
   rw[e0] at gP ⊢
   have Xd:At L j (C3::((t.binds.flatMap (bz d)++[Gc])++(jk t.kind++bt t.index)::iJ vp xP t.args (t.args.flatMap (aW d)))) T:=gP
   have aat:=Xd.tail
   have Z7:=Dh (op:=((60-(d+1):Nat):Int)) (l:=t.binds) (tok:=bz d) (G:=Qe qZ) (ew:=Gc) (b:=true) h (by omega) (fun _=>hb) (by decide)
    (fun x hx k T' hk cw hG=>by
     have hr:=sQ h d x (by omega) (Qh x hx) (by have:=Ty.cN hx;omega) k T' hk cw hG
     rw[Ty.aF] at hr ⊢
     refine PI ?_
     unfold Vp
     rw[ew]
     exact⟨_,hr,fun r q ⟨e1,e2⟩=>⟨_,_,_,_,_,_,_,_,_,⟨e1,e2⟩,rfl,rfl⟩⟩)
    (fun x hx T'=>Iz (Qh x hx) rfl) (fun T'=>jl (by decide)) (fun x hx=>Qf (Qh x hx) rfl) aat.app (by have:=Xd.lt;omega)
   have sR:=aat.next
   rw[ah0,aiN] at sR
   have hp:j+1+((t.binds.flatMap (bz d)).length+1)=j+1+(t.binds.flatMap (bz d)).length+1:=by omega
   rw[hp] at sR
   have xd:=sR.tail
   have C7:=sR.lt
   refine Kw ⟨_,mz hd,fun r q ⟨e1,e2⟩=>⟨_,_,_,_,_,_,_,_,⟨e1,e2⟩,ak.neg rfl ⟨_,dO h Xd (by decide),fun r q ⟨e1,e2⟩=>⟨_,_,_,_,_,_,_,_,⟨e1,e2⟩,
    ak.pos rfl ⟨_,Z7,fun r q ⟨e1,e2⟩=>⟨_,_,_,_,_,_,_,_,_,⟨e1,e2⟩,_,wu h hk aas sR,fun r q ⟨e1,e2⟩=>⟨_,_,_,_,_,_,_,_,_,⟨e1,e2⟩,?_⟩⟩⟩⟩⟩⟩⟩
   by_cases ha:t.args=[]
   ·rw[ha] at xd ⊢
    refine⟨_,fF h (by omega) (xd.none hn),fun r q ⟨e1,e2⟩=>⟨_,_,_,_,_,_,_,_,⟨e1,e2⟩,ak.neg rfl ⟨ef.agg ⟨ef.refl _,ef.refl _,ef.refl _,qo,True.intro⟩,?_⟩⟩⟩
    have e:j+1+(t.binds.flatMap (bz d)).length+1+1=j+((C3::(t.binds.flatMap (bz d)++[Gc])).length+1+(iJ vp xP ([]:List Tm) (([]:List Tm).flatMap (aW d))).length):=by simp[iJ];omega
    rw[←e]
   ·have bK:t.args.isEmpty=false:=by cases hx:t.args with|nil=>exact(ha hx).elim|cons _ _=>rfl
    rw[iJ,bK] at xd ⊢
    have Qg:At L (j+1+(t.binds.flatMap (bz d)).length+1+1) (vp::(t.args.flatMap (aW d)++[xP])) T:=xd
    have hu:=kE _ _ ha (by have:=Qg.lt;omega) Qg.tail
    refine⟨_,dO h Qg (by decide),fun r q ⟨e1,e2⟩=>⟨_,_,_,_,_,_,_,_,⟨e1,e2⟩,ak.pos rfl ⟨_,hu,fun r q ⟨e1,e2⟩=>⟨_,_,_,_,_,_,_,_,_,⟨e1,e2⟩,ef.refl _,?_⟩⟩⟩⟩
    have e:j+1+(t.binds.flatMap (bz d)).length+1+1+1+(t.args.flatMap (aW d)).length+1=j+((C3::(t.binds.flatMap (bz d)++[Gc])).length+1+(if false=true then[] else vp::(t.args.flatMap (aW d)++[xP])).length):=by simp;omega
    rw[←e]
end
section
variable {L:List Tk} {s w:ByteArray} {i:Nat} {u v:List ByteArray} {T:List Tx} {f:Fa}
theorem Gz {α:Type} (g:α→ByteArray) (l:List α):l.flatMap (fun x=>[g x])=l.map g:=by
 induction l with
 |nil=>rfl
 |cons x l ih=>rw[aiE,ih];rfl
theorem oO (h:PE L s) {t:Tm} (aD:gZ 60 t=true) (hz:t.size≤1000000) {j:Nat} (hj:j≤L.length) (gP:At L j (aW 60 t) T) (hn:Qe vp T):
  cG Tryz.prog 96 [.ptr 1 0,nI 0] (D2 L s j bV) (fun r q=>r=.agg (QH t)∧q=D2 L s (j+(aW 60 t).length) bV):=by
 have:=wv h 60 t (ah5 _) aD hz j T hj gP hn
 rwa [Tm.aF] at this
theorem GA (h:PE L s) {p:Int×Tm} (aD:Ai p=true) (hp:W5 p) {j:Nat} (hj:j≤L.length) (gP:At L j (eN p) T):
  cG Tryz.prog 136 [.ptr 2 0] (D3 L s j bV) (fun r q=>r=bp p∧q=D3 L s (j+(eN p).length) bV):=by
 rw[Ai,ahZ] at aD
 have h1:=gP.tail
 have h2:At L (j+1+1) (aW 60 p.2++[W7]) T:=At.tail (w:=Ah) h1
 have h3:=h2.next
 have ht:=oO h aD.2 hp.size (by have:=h1.lt;omega) h2.app (jl (by decide))
 have m1:=dR h (ws:=[Ah]) (by decide) (by decide) (show At L (j+1) ([Ah]++(aW 60 p.2++[W7])) T from h1) (by have:=h1.lt;omega)
 have m2:=dR h (ws:=[W7]) (u:=[]) (by decide) (by decide) (by simpa using h3) (by have:=h3.lt;omega)
 have e:j+1+1+(aW 60 p.2).length+1=j+(eN p).length:=by simp[eN];omega
 refine PK ⟨_,lK h aD.1 gP,fun r q ⟨e1,e2⟩=>⟨_,_,_,_,_,_,_,_,⟨e1,e2⟩,_,m1,fun r q ⟨e1,e2⟩=>⟨_,_,_,_,_,_,_,⟨e1,e2⟩,_,ht,fun r q ⟨e1,e2⟩=>⟨_,_,_,_,_,_,_,_,_,_,_,⟨e1,e2⟩,
  _,m2,fun r q ⟨e1,e2⟩=>⟨_,_,_,_,_,_,_,⟨e1,e2⟩,rfl,?_⟩⟩⟩⟩⟩
 rw[←e];rfl
theorem GB (h:PE L s) {x:bF} (aD:Aj x=true) (hx:x.Ok) {j:Nat} (hj:j≤L.length) (gP:At L j (dY x) T):
  cG Tryz.prog 98 [.ptr 1 0] (D2 L s j bV) (fun r q=>r=x.enc∧q=D2 L s (j+(dY x).length) bV):=by
 have hL:=h.len
 have hle:=At.le hj gP
 rw[Aj,ahZ,ahZ] at aD
 obtain⟨ok1,ok2,ok3⟩:=aD
 have hp:=ah4.1 ok2
 have hs:=ah4.1 ok3
 have hlen:(dY x).length=3+(x.path.length+(2+((x.sub.flatMap eN).length+2))):=by simp[dY];omega
 rw[hlen] at hle ⊢
 have Rb:x.sub.length≤(x.sub.flatMap eN).length:=by
  generalize x.sub=l
  induction l with
  |nil=>exact ah3 _
  |cons p l ih=>rw[aiE,ah0,aif,eN,aif];omega
 unfold dY at gP
 have h1:At L j ((if x.back=true then W6 else Un)::bt x.eq::qZ::(x.path.map bt++([qx,wj]++(x.sub.flatMap eN++[xQ,w4])))) T:=gP
 have h2:=h1.tail
 have h3:=h2.tail
 have h4:=h3.tail
 have h5:At L (j+1+1+1) (x.path.flatMap (fun i=>[bt i])++[qx]) (([wj]++(x.sub.flatMap eN++[xQ,w4])).map lS++T):=by
  rw[Gz]
  exact At.app (u:=x.path.map bt++[qx]) (v:=[wj]++(x.sub.flatMap eN++[xQ,w4])) (by simpa using h4)
 have h6:At L (j+1+1+1+x.path.length+1) ([wj]++(x.sub.flatMap eN++[xQ,w4])) T:=by
  have:=At.next (u:=x.path.map bt++[qx]) (v:=[wj]++(x.sub.flatMap eN++[xQ,w4])) (i:=j+1+1+1) (T:=T) (L:=L) (by simpa using h4)
  rwa [ah0,ahX,aiN,show j+1+1+1+(x.path.length+1)=j+1+1+1+x.path.length+1 by omega] at this
 have h7:=At.tail (w:=wj) h6
 have h7:At L (j+1+1+1+x.path.length+1+1) ((x.sub.flatMap eN++[xQ])++[w4]) T:=by simpa using h7
 have h8:=h7.next
 rw[ah0,aiN] at h8
 have un:=Dl (l:=x.path) (tok:=fun i=>[bt i]) (G:=fun _=>True) (ew:=qx) (b:=false) h (by omega) (fun e=>by cases e) (by decide)
  (fun y hy k T' hk cw _=>lK h (hp y hy) cw) (fun _ _ _=>True.intro) (fun _=>True.intro) (fun y hy=>⟨_,_,rfl,uC (xU (hp y hy) rfl)⟩) h5 (by have:=h3.lt;omega)
 have up:=Dk (l:=x.sub) (tok:=eN) (G:=fun _=>True) (ew:=xQ) (b:=false) h (by omega) (fun e=>by cases e) (by decide)
  (fun y hy k T' hk cw _=>GA h (hs y hy) (hx.sub y hy) hk cw) (fun _ _ _=>True.intro) (fun _=>True.intro)
  (fun y hy=>⟨_,_,rfl,uC (xU (by have:=hs y hy;rw[Ai,ahZ] at this;exact this.1) rfl)⟩) h7.app (by have:=h6.lt;omega)
 rw[Gz,ahX] at un
 have m3:=dR h (ws:=[wj]) (by decide) (by decide) h6 (by have:=h6.lt;omega)
 have m4:=dR h (ws:=[w4]) (u:=[]) (by decide) (by decide) (show At L _ ([w4]++[]) T from h8) (by have:=h8.lt;omega)
 have m2:=dR h (ws:=[qZ]) (i:=j+1+1) (by decide) (by decide) (show At L (j+1+1) ([qZ]++_) T from h3) (by have:=h3.lt;omega)
 have e:j+1+1+1+x.path.length+1+1+((x.sub.flatMap eN).length+1)+1=j+(3+(x.path.length+(2+((x.sub.flatMap eN).length+2)))):=by omega
 have dn:=lK h ok1 h2
 unfold bF.enc
 have fin:CU (L.map cv) s ((j+1+1+1+x.path.length+1+1:Nat):Int) 0 0 0 ⟨#[]⟩ (fun r q=>r=.agg [nI x.eq,nB x.back,.sl (aK x.path),.sl (x.sub.map bp)]∧q=D2 L s (j+(3+(x.path.length+(2+((x.sub.flatMap eN).length+2))))) bV) x.eq x.back (aK x.path):=by
  rw[←e]
  exact⟨_,up,fun r q ⟨e1,e2⟩=>⟨_,_,_,_,_,_,_,_,⟨e1,e2⟩,_,m4,fun r q ⟨e1,e2⟩=>⟨_,_,_,_,_,_,_,⟨e1,e2⟩,rfl,rfl⟩⟩⟩
 cases hb:x.back
 ·rw[hb] at h1 fin
  have m1:=dR h (ws:=[Un]) (by decide) (by decide) (show At L j ([Un]++_) T from h1) hj
  refine Kx ⟨_,fF h hj (h1.not (by decide)),fun r q ⟨e1,e2⟩=>⟨_,_,_,_,_,_,_,_,⟨e1,e2⟩,ak.pos rfl ⟨_,m1,fun r q ⟨e1,e2⟩=>⟨_,_,_,_,_,_,_,⟨e1,e2⟩,_,dn,fun r q ⟨e1,e2⟩=>⟨_,_,_,_,_,_,_,_,⟨e1,e2⟩,
   _,m2,fun r q ⟨e1,e2⟩=>⟨_,_,_,_,_,_,_,⟨e1,e2⟩,_,un,fun r q ⟨e1,e2⟩=>⟨_,_,_,_,_,_,_,_,⟨e1,e2⟩,_,m3,fun r q ⟨e1,e2⟩=>⟨_,_,_,_,_,_,_,⟨e1,e2⟩,fin⟩⟩⟩⟩⟩⟩⟩⟩
 ·rw[hb] at h1 fin
  refine Kx ⟨_,dO h h1 (by decide),fun r q ⟨e1,e2⟩=>⟨_,_,_,_,_,_,_,_,⟨e1,e2⟩,ak.neg rfl ⟨_,dn,fun r q ⟨e1,e2⟩=>⟨_,_,_,_,_,_,_,_,⟨e1,e2⟩,
   _,m2,fun r q ⟨e1,e2⟩=>⟨_,_,_,_,_,_,_,⟨e1,e2⟩,_,un,fun r q ⟨e1,e2⟩=>⟨_,_,_,_,_,_,_,_,⟨e1,e2⟩,_,m3,fun r q ⟨e1,e2⟩=>⟨_,_,_,_,_,_,_,⟨e1,e2⟩,fin⟩⟩⟩⟩⟩⟩⟩
end
section
variable {L:List Tk} {s w:ByteArray} {i:Nat} {u v:List ByteArray} {T:List Tx} {f:Fa}
theorem Qi {α:Type} {g:α→List ByteArray} (hg:∀x,1≤(g x).length):∀{l:List α},l.length≤(l.flatMap g).length
 | []=>ah3 _
 |x::l=>by have:=hg x;have:=Qi (g:=g) hg (l:=l);rw[aiE,ah0,aif];omega
theorem q9 {α:Type} {g:α→List ByteArray}:∀{l:List α},(∀x∈l,1≤(g x).length)→l.length≤(l.flatMap g).length
 | [],_=>ah3 _
 |x::l,h=>by
  have h1:=h x aia
  have h2:=q9 (g:=g) (l:=l) fun y hy=>h y (aip _ hy)
  rw[aiE,ah0,aif];omega
theorem wz (x:bF):∃w u,dY x=w::u∧w≠xQ:=by
 refine⟨_,_,rfl,?_⟩
 split<;>decide
theorem Dp (h:PE L s) {x:aP} (aD:oI x=true) (hx:x.Ok) {j:Nat} (hj:j≤L.length) (gP:At L j (e9 x) T):
  cG Tryz.prog 51 [.ptr 1 0] (D2 L s j bV) (fun r q=>r=x.enc∧q=D2 L s (j+(e9 x).length) bV):=by
 have hL:=h.len
 have hle:=At.le hj gP
 rw[oI,ahZ,ahZ,ahZ] at aD
 obtain⟨ok1,ok2,ok3,ok4⟩:=aD
 have hm:=ah4.1 ok1
 have hs:=ah4.1 ok4
 have hlen:(e9 x).length=2+((x.aO.flatMap (bz 60)).length+(1+((aW 60 x.left).length+(1+((aW 60 x.right).length+(1+((x.steps.flatMap dY).length+2))))))):=by
  unfold e9
  simp only[ah0,aif,aiK]
 rw[hlen] at hle ⊢
 have hml:x.aO.length≤(x.aO.flatMap (bz 60)).length:=q9 fun t ht=>by
  obtain⟨n,u,e,_⟩:=sP (hm t ht)
  rw[e];simp
 have M9:x.steps.length≤(x.steps.flatMap dY).length:=q9 fun t ht=>by
  obtain⟨w,u,e,_⟩:=wz t
  rw[e];simp
 unfold e9 at gP
 have h1:At L j ([w5,qZ]++(x.aO.flatMap (bz 60)++([qx]++(aW 60 x.left++([qy]++(aW 60 x.right++([wj]++(x.steps.flatMap dY++[xQ,w4])))))))) T:=gP
 have h2:=h1.next
 have h3:At L (j+2) (x.aO.flatMap (bz 60)++[qx]) ((aW 60 x.left++([qy]++(aW 60 x.right++([wj]++(x.steps.flatMap dY++[xQ,w4]))))).map lS++T):=
  At.app (u:=x.aO.flatMap (bz 60)++[qx]) (by rw[ah7];exact h2)
 have h4:At L (j+2+(x.aO.flatMap (bz 60)).length+1) (aW 60 x.left++([qy]++(aW 60 x.right++([wj]++(x.steps.flatMap dY++[xQ,w4]))))) T:=by
  have:=At.next (u:=x.aO.flatMap (bz 60)++[qx]) (v:=aW 60 x.left++([qy]++(aW 60 x.right++([wj]++(x.steps.flatMap dY++[xQ,w4]))))) (i:=j+2) (T:=T) (L:=L) (by rw[ah7];exact h2)
  rwa [ah0,aiN,←ajt] at this
 have h5:=h4.next
 have h6:=At.next (u:=[qy]) h5
 rw[aiN] at h6
 have h7:=h6.next
 have h8:=At.next (u:=[wj]) h7
 rw[aiN] at h8
 generalize hA:j+2+(x.aO.flatMap (bz 60)).length+1=A at h4 h5 h6 h7 h8
 generalize hB:A+(aW 60 x.left).length=B at h5 h6 h7 h8
 generalize hC:B+1+(aW 60 x.right).length=C at h7 h8
 have h9:At L (C+1) (x.steps.flatMap dY++[xQ]) ([w4].map lS++T):=At.app (u:=x.steps.flatMap dY++[xQ]) (by rw[ah7];exact h8)
 have LQ:At L (C+1+(x.steps.flatMap dY).length+1) ([w4]++[]) T:=by
  have:=At.next (u:=x.steps.flatMap dY++[xQ]) (v:=[w4]) (i:=C+1) (T:=T) (L:=L) (by rw[ah7];exact h8)
  rwa [ah0,aiN,←ajt] at this
 have um:=Dj (l:=x.aO) (tok:=bz 60) (G:=Qe qZ) (ew:=qx) (b:=false) h (by omega) (fun e=>by cases e) (by decide)
  (fun t ht k T' hk cw hG=>by
   have hr:=sQ h 60 t (ah5 _) (hm t ht) (hx.aO t ht).2 k T' hk cw hG
   rw[Ty.aF] at hr ⊢
   exact T9 ⟨_,hr,fun r q ⟨e1,e2⟩=>⟨_,_,_,_,_,_,_,_,_,⟨e1,e2⟩,rfl,rfl⟩⟩)
  (fun t ht T'=>Iz (hm t ht) rfl) (fun T'=>jl (by decide)) (fun t ht=>Qf (hm t ht) rfl) h3 (by omega)
 rw[hA] at um
 have us:=Dm (l:=x.steps) (tok:=dY) (G:=fun _=>True) (ew:=xQ) (b:=false) h (by omega) (fun e=>by cases e) (by decide)
  (fun y hy k T' hk cw _=>GB h (hs y hy) (hx.steps y hy) hk cw) (fun _ _ _=>True.intro) (fun _=>True.intro) (fun y hy=>wz y) h9 (by omega)
 have dl:=oO h ok2 hx.PV (by omega) h4.app (jl (by decide))
 rw[hB] at dl
 have dr:=oO h ok3 hx.PW (by omega) h6.app (jl (by decide))
 rw[hC] at dr
 have m1:=dR h (ws:=[w5,qZ]) (by decide) (by decide) h1 hj
 have m2:=dR h (ws:=[qy]) (by decide) (by decide) h5 (by omega)
 have m3:=dR h (ws:=[wj]) (by decide) (by decide) h7 (by omega)
 have m4:=dR h (ws:=[w4]) (by decide) (by decide) LQ (by omega)
 have e:C+1+(x.steps.flatMap dY).length+1+[w4].length=j+(2+((x.aO.flatMap (bz 60)).length+(1+((aW 60 x.left).length+(1+((aW 60 x.right).length+(1+((x.steps.flatMap dY).length+2))))))) ):=by
  rw[aiN];omega
 unfold aP.enc
 refine T8 ⟨_,m1,fun r q ⟨e1,e2⟩=>⟨_,_,_,_,_,_,_,⟨e1,e2⟩,_,um,fun r q ⟨e1,e2⟩=>⟨_,_,_,_,_,_,_,_,⟨e1,e2⟩,_,dl,fun r q ⟨e1,e2⟩=>⟨_,_,_,_,_,_,_,_,_,_,_,⟨e1,e2⟩,
  _,m2,fun r q ⟨e1,e2⟩=>⟨_,_,_,_,_,_,_,⟨e1,e2⟩,_,dr,fun r q ⟨e1,e2⟩=>⟨_,_,_,_,_,_,_,_,_,_,_,⟨e1,e2⟩,_,m3,fun r q ⟨e1,e2⟩=>⟨_,_,_,_,_,_,_,⟨e1,e2⟩,_,us,fun r q ⟨e1,e2⟩=>⟨_,_,_,_,_,_,_,_,⟨e1,e2⟩,
  _,m4,fun r q ⟨e1,e2⟩=>⟨_,_,_,_,_,_,_,⟨e1,e2⟩,rfl,?_⟩⟩⟩⟩⟩⟩⟩⟩⟩
 rw[e]
theorem Dq {ls:List aP} (Vr:gA s=(L,bV)) (h:PE L s) (aD:ls.all oI=true) (DC:∀l∈ls,l.Ok) (gP:At L 0 (ls.flatMap e9) []):
  av Tryz.prog 12 [nS s] (.aX [.agg [.sl (ls.map aP.enc)],.agg (Uw bV)]):=by
 have hL:=h.len
 have hle:=At.le (ah3 _) gP
 have jz:=ah4.1 aD
 have hlen:ls.length≤(ls.flatMap e9).length:=q9 fun t ht=>by unfold e9;simp
 have hsc:=qB h.size
 rw[Vr] at hsc
 have iy:L.length=(ls.flatMap e9).length:=by
  have:=congrArg List.length gP
  simpa using this
 refine Ky ⟨_,_,_,_,_,hsc,ak.neg rfl ⟨_,Iw hL,fun r q ⟨e1,e2⟩=>⟨_,_,_,⟨e1,e2⟩,rfl,?_⟩⟩⟩
 refine aB.intro (fun k:Nat=>(((),(),(),(),()),(((),()),(0,0,0,⟨#[]⟩,()),(0,0,0,⟨#[]⟩,()),(L.map cv,s,((((ls.take k).flatMap e9).length:Nat):Int),()),((),0,0,0,⟨#[]⟩,()),((),()),(ls.take k).map aP.enc,())))
  (fun k=>k≤ls.length) (fun k=>ls.length-k) 0 rfl (ah3 _) ?_
 intro k hk again bO
 dsimp only
 have gO:At L 0 ((ls.take k).flatMap e9++(ls.drop k).flatMap e9) []:=by
  rw[←ai8,aiq];exact gP
 have cw:=gO.next
 rw[aiw] at cw
 have oN:((ls.take k).flatMap e9).length≤L.length:=by have:=At.le (ah3 _) gO.app;omega
 generalize hP:((ls.take k).flatMap e9).length=P at cw oN ⊢
 refine⟨_,dy (f:=bV),fun r q ⟨e1,e2⟩=>⟨_,_,_,_,_,_,_,_,⟨e1,e2⟩,ak.pos rfl ⟨_,eK h oN,fun r q ⟨e1,e2⟩=>⟨_,_,_,_,_,_,⟨e1,e2⟩,?_⟩⟩⟩⟩
 by_cases ay:k<ls.length
 ·have gD:=ah1 ay
  rw[ah6 ay,aiE] at cw
  have aav:P<L.length:=by
   have:=At.le oN cw.app
   have:1≤(e9 ls[k]).length:=by unfold e9;simp
   omega
  have jV:((pk L s P).1 != 4)=true:=by rw[Gt aav,bne_iff_ne];exact h.kind _ (ah1 aav)
  have hr:=Dp h (jz _ gD) (DC _ gD) oN cw.app
  unfold aP.enc at hr
  have gX:=bO (k+1) ay (by omega)
  have e1:(ls.take k).map aP.enc++[.agg [.sl (ls[k].left.binds.map Ty.enc),nI ls[k].left.kind,nI ls[k].left.index,.sl (ls[k].left.args.map Tm.enc),.sl (ls[k].right.binds.map Ty.enc),nI ls[k].right.kind,nI ls[k].right.index,.sl (ls[k].right.args.map Tm.enc),.sl (ls[k].aO.map Ty.enc),.sl (ls[k].steps.map bF.enc)]]=(ls.take (k+1)).map aP.enc:=by
   rw[←aH ay,aii];rfl
  have e2:P+(e9 ls[k]).length=((ls.take (k+1)).flatMap e9).length:=by rw[cS _ ay,ah0,←hP]
  rw[←e1,←e2] at gX
  have key:CV (L.map cv) s (P:Int) 0 0 0 ⟨#[]⟩ (List.length ((ls.take k).map aP.enc)) ((ls.take k).map aP.enc) again 0 0 0 ⟨#[]⟩ 0 0 0 ⟨#[]⟩:=
   ⟨_,hr,fun r q ⟨e1,e2⟩=>⟨_,_,_,_,_,_,_,_,_,_,_,_,_,_,_,_,_,⟨e1,e2⟩,rfl,aJ rfl (by rw[ah0,ahX,aid];simp;omega) (by decide),rfl,gX⟩⟩
  exact ak.pos jV ⟨key,key⟩
 ·obtain rfl:k=ls.length:=by omega
  rw[aiJ] at hP ⊢
  have hPe:P=L.length:=by omega
  have jV:((pk L s P).1 != 4)=false:=by rw[KF (by omega)];rfl
  exact ak.neg jV ⟨_,dy (f:=bV),fun r q ⟨e1,e2⟩=>⟨_,_,_,_,_,_,_,_,⟨e1,e2⟩,ak.neg rfl ⟨rfl,rfl⟩⟩⟩
end
theorem IA {t:ByteArray}:lG t=true↔(aj t).getLast?=some 10:=by
 have hl:=bI t
 have e10:aj (⟨#[10]⟩:ByteArray)=[10]:=rfl
 unfold lG
 rw[decide_eq_true_iff]
 have key:(t.extract (t.size-1) t.size=(⟨#[10]⟩:ByteArray))↔((aj t).drop (t.size-1)).take (t.size-(t.size-1))=[10]:=by
  rw[←gy,←e10]
  exact⟨fun h=>by rw[h],iw⟩
 rw[key,←hl]
 rcases List.eq_nil_or_concat (aj t) with hb|⟨l,c,hb⟩
 ·rw[hb];simp
 ·rw[hb,List.concat_eq_append,ah0,aiN,Nat.add_sub_cancel,List.drop_left,List.getLast?_append]
  have:l.length+1-l.length=1:=by omega
  rw[this]
  simp
theorem GC {a b:ByteArray} (h:aj b≠[]):(aj (a++b)).getLast?=(aj b).getLast?:=by
 rw[fE,List.getLast?_append]
 cases hb:(aj b).getLast? with
 |none=>rw[List.getLast?_eq_none_iff] at hb;exact(h hb).elim
 |some c=>rfl
structure pz (w:ByteArray):Prop where
 lex:Lex w [lS w]
 ne:aj w≠[]
 last:(aj w).getLast?≠some 10
structure Wr (t:ByteArray) (U:List Tx):Prop where
 lex:Lex t U
 fresh:(!decide (t=(⟨#[]⟩:ByteArray))&&!lG t)=false→Ix t U
theorem Wr.put {t w:ByteArray} {U:List Tx} (h:Wr t U) (hw:pz w):Wr (uz t w) (U++[lS w]):=by
 have bK:uz t w≠(⟨#[]⟩:ByteArray):=fun e=>by
  have:=congrArg aj e
  unfold uz at this
  rw[fE] at this
  exact hw.ne (List.append_eq_nil_iff.1 this).2
 have U7:lG (uz t w)=false:=by
  rw[Bool.eq_false_iff]
  intro e
  rw[IA] at e
  unfold uz at e
  rw[GC hw.ne] at e
  exact hw.last e
 refine⟨?_,fun e=>by rw[U7,decide_eq_false bK] at e;cases e⟩
 unfold uz
 cases hf:(!decide (t=(⟨#[]⟩:ByteArray))&&!lG t) with
 |true=>
  rw[if_pos rfl]
  intro r T hr hx
  rw[fE,fE,ah7,ah7,ah7]
  exact h.lex _ _ (KI (by decide)) (Lx.blank (.inl rfl) (hw.lex r T hr hx))
 |false=>
  rw[if_neg (by decide)]
  exact(h.fresh hf).app hw.lex
theorem Wr.bJ {t:ByteArray}:∀{ws:List ByteArray} {t:ByteArray} {U:List Tx},Wr t U→(∀w∈ws,pz w)→Wr (bJ t ws) (U++ws.map lS)
 | [],t,U,h,_=>by rw[aiY,aiH];exact h
 |w::ws,t,U,h,hw=>by
  have:=Wr.bJ (t:=t) (ws:=ws) (h.put (hw w aia)) fun x hx=>hw x (aip _ hx)
  rw[ah7] at this
  exact this
theorem Wr.line {t:ByteArray} {U:List Tx} (h:Wr t U):Wr (t++nlW) U:=by
 have hb:Ix (t++nlW) U:=fun r T hx=>by
  rw[fE,ah7]
  exact h.lex _ _ (KI (by decide)) (Lx.blank (.inr rfl) hx)
 exact⟨hb.lex,fun _=>hb⟩
theorem Xe:Wr (⟨#[]⟩:ByteArray) []:=⟨Gw.lex,fun _=>Gw⟩
theorem Wr.split {t:ByteArray} {U:List Tx} (h:Wr t U) (hz:t.size≤20000):∃L:List Tk,gA t=(L,bV)∧L.map Gv=U:=by
 refine LU ?_ hz
 have:=h.lex [] [] Xb (Lx.nil rfl)
 rwa [aiH,aiH] at this
theorem ku {w:ByteArray} {c:Int} (hb:aj w=[c]) (hc:c∈[40,41,92,46,59,58,61,62,44,91,93,123,125]):pz w:=by
 have hk:dJ w=3:=by
  unfold dJ
  rw[hb]
  simp only[aiC,List.not_mem_nil,or_false] at hc
  rcases hc with rfl|rfl|rfl|rfl|rfl|rfl|rfl|rfl|rfl|rfl|rfl|rfl|rfl<;>rfl
 refine⟨fun r T _ hx=>?_,by rw[hb];simp,by rw[hb];intro e;simp at e;subst e;simp at hc⟩
 rw[lS,hk,hb]
 exact Lx.sign hc hx
theorem KK {w:ByteArray} (h:isWord w=true) (hk:dJ w=1) (hl:(aj w).getLast?≠some 10):pz w:=by
 refine⟨fun r T hr hx=>?_,fun e=>by simp[isWord,e] at h,hl⟩
 rw[lS,hk]
 exact Lx.word h hr hx
theorem zE {l:List Int} (h:l.all isDigit=true):l.getLast?≠some 10:=fun e=>by
 have:=(ah4.1 h) 10 (List.mem_of_getLast? e)
 exact absurd this (by decide)
theorem KL {n:Int} (h:cC n=true):pz (bt n):=by
 obtain⟨h1,h2,_⟩:=mw h
 refine⟨fun r T hr hx=>?_,h2,zE h1⟩
 rw[lS,vw h]
 exact Lx.num h1 h2 (by rw[bI];exact zD h) hr hx
theorem aaw {k n:Int} (hk:Um k=true) (h:cC n=true):pz (jk k++bt n):=by
 obtain⟨h1,h2,_⟩:=mw h
 obtain⟨c,c1,c2,c3,c4,c5⟩:=sO hk
 have h9:=zD h
 rw[←bI] at h9
 have hb:aj (jk k++bt n)=c::aj (bt n):=by rw[fE,c1];rfl
 refine KK ((vZ hb).2 ⟨by omega,c2,?_⟩) (oM hk) ?_
 ·rw[ah4] at h1 ⊢
  intro d hd
  have:=h1 d hd
  simp[dN,this]
 ·rw[GC h2];exact zE h1
theorem Dr {α:Type} {a b:ByteArray} {l:List α} {f:List ByteArray} (ha:pz a) (hb:pz b) (hf:∀w∈f,pz w):∀w∈iJ a b l f,pz w:=fun w hw=>by
 unfold iJ at hw
 split at hw
 ·cases hw
 ·rcases aiC.1 hw with rfl|hw
  ·exact ha
  ·rcases aiM.1 hw with hw|hw
   ·exact hf w hw
   ·rw[air.1 hw];exact hb
theorem Qj:pz qZ:=ku (c:=91) rfl (by decide)
theorem Qk:pz qx:=ku (c:=93) rfl (by decide)
theorem aax:pz vp:=ku (c:=40) rfl (by decide)
theorem aay:pz xP:=ku (c:=41) rfl (by decide)
theorem aaz:pz C3:=ku (c:=92) rfl (by decide)
theorem aaA:pz Gc:=ku (c:=46) rfl (by decide)
theorem Xf:pz Ah:=ku (c:=58) rfl (by decide)
theorem aaB:pz W7:=ku (c:=44) rfl (by decide)
theorem Vx:pz wj:=ku (c:=123) rfl (by decide)
theorem Vy:pz xQ:=ku (c:=125) rfl (by decide)
theorem Vz:pz w4:=ku (c:=59) rfl (by decide)
theorem Xg:pz qy:=ku (c:=61) rfl (by decide)
theorem aaC:pz Un:=KK (by decide) (by decide) (by decide)
theorem aaD:pz W6:=KK (by decide) (by decide) (by decide)
theorem Xh:pz w5:=KK (by decide) (by decide) (by decide)
theorem vA:∀(d:Nat) (t:Ty),jj d t=true→∀w∈bz d t,pz w
 |0,t,h,_,_=>by cases h
 |d+1,t,h,w,hw=>by
  rw[jj,ahZ] at h
  have jz:=ah4.1 h.2
  rcases aiC.1 hw with rfl|hw
  ·exact KL h.1
  ·exact Dr Qj Qk (fun x hx=>by
    obtain⟨u,hu,hx⟩:=List.mem_flatMap.1 hx
    exact vA d u (jz u hu) x hx) w hw
theorem rj:∀(d:Nat) (t:Tm),gZ d t=true→∀w∈aW d t,pz w
 |0,t,h,_,_=>by cases h
 |d+1,t,h,w,hw=>by
  rw[gZ,ahZ,ahZ,ahZ] at h
  obtain⟨hk,hb,hn,ha⟩:=h
  rw[aW,if_pos hk] at hw
  have jz:=ah4.1 ha
  have hbl:=ah4.1 hb
  rcases aiM.1 hw with hw|hw
  ·exact Dr aaz aaA (fun x hx=>by
    obtain⟨u,hu,hx⟩:=List.mem_flatMap.1 hx
    exact vA d u (hbl u hu) x hx) w hw
  ·rcases aiC.1 hw with rfl|hw
   ·exact aaw hk hn
   ·exact Dr aax aay (fun x hx=>by
     obtain⟨u,hu,hx⟩:=List.mem_flatMap.1 hx
     exact rj d u (jz u hu) x hx) w hw
theorem ff {a b:List ByteArray} (ha:∀w∈a,pz w) (hb:∀w∈b,pz w):∀w∈a++b,pz w:=fun w hw=>(aiM.1 hw).elim (ha w) (hb w)
theorem cO {a:ByteArray} {b:List ByteArray} (ha:pz a) (hb:∀w∈b,pz w):∀w∈a::b,pz w:=fun w hw=>(aiC.1 hw).elim (fun e=>e▸ha) (hb w)
theorem jm:∀w∈([]:List ByteArray),pz w:=fun w hw=>by cases hw
theorem vB {α:Type} {l:List α} {g:α→List ByteArray} (h:∀x∈l,∀w∈g x,pz w):∀w∈l.flatMap g,pz w:=fun w hw=>by
 obtain⟨u,hu,hx⟩:=List.mem_flatMap.1 hw
 exact h u hu w hx
theorem LZ {s:bF} (h:Aj s=true):∀w∈dY s,pz w:=by
 rw[Aj,ahZ,ahZ] at h
 obtain⟨h1,h2,h3⟩:=h
 have hp:=ah4.1 h2
 have hs:=ah4.1 h3
 refine ff (cO (by split;exact aaD;exact aaC) (cO (KL h1) (cO Qj jm))) (ff (fun w hw=>?_) (ff (cO Qk (cO Vx jm)) (ff (vB fun p hp=>?_) (cO Vy (cO Vz jm)))))
 ·obtain⟨n,hn,rfl⟩:=aiQ.1 hw
  exact KL (hp n hn)
 ·have:=hs p hp
  rw[Ai,ahZ] at this
  exact cO (KL this.1) (cO Xf (ff (rj 60 p.2 this.2) (cO aaB jm)))
theorem L0 {l:aP} (h:oI l=true):∀w∈e9 l,pz w:=by
 rw[oI,ahZ,ahZ,ahZ] at h
 obtain⟨h1,h2,h3,h4⟩:=h
 have hm:=ah4.1 h1
 have hs:=ah4.1 h4
 exact ff (cO Xh (cO Qj jm)) (ff (vB fun t ht=>vA 60 t (hm t ht)) (ff (cO Qk jm) (ff (rj 60 l.left h2) (ff (cO Xg jm)
  (ff (rj 60 l.right h3) (ff (cO Vx jm) (ff (vB fun s Mx=>LZ (hs s Mx)) (cO Vy (cO Vz jm)))))))))
theorem GD:∀{ls:List aP} {t:ByteArray} {U:List Tx},Wr t U→ls.all oI=true→Wr (kI t ls) (U++(ls.flatMap e9).map lS)
 | [],t,U,h,_=>by rw[ai2,aiY,aiH];exact h
 |l::ls,t,U,h,aD=>by
  rw[ai5,ahZ] at aD
  have h1:=(Wr.bJ (t:=t) h (L0 aD.1)).line
  have h2:=GD (ls:=ls) h1 aD.2
  rw[ah7,←aii,←aiE] at h2
  exact h2
theorem GF {ls:List aP} (aD:ls.all oI=true) (DC:∀l∈ls,l.Ok) (hb:jt QK ls≤100000000):av Tryz.prog 12 [nS (kI ⟨#[]⟩ ls)]
  (if(kI ⟨#[]⟩ ls).size>20000 then .aX [.agg [.sl []],.agg (Uw (2,1,1,⟨#[]⟩))] else .aX [.agg [.sl (ls.map aP.enc)],.agg (Uw bV)]):=by
 by_cases hz:(kI ⟨#[]⟩ ls).size>20000
 ·rw[if_pos hz]
  have V3:=sM (t:=⟨#[]⟩) DC
  rw[show (⟨#[]⟩:ByteArray).size=0 from rfl] at V3
  have hsc:=qB (s:=kI ⟨#[]⟩ ls) (by omega)
  rw[gA,if_pos hz] at hsc
  exact Ky ⟨_,_,_,_,_,hsc,ak.pos rfl rfl⟩
 ·rw[if_neg hz]
  obtain⟨L,h1,h2⟩:=(GD Xe aD).split (by omega)
  rw[aiU] at h2
  have hpe:PE L (kI ⟨#[]⟩ ls):=by
   rcases Qa (s:=kI ⟨#[]⟩ ls) with h|⟨h,_⟩
   ·rw[h1] at h;exact h
   ·exact(hz h).elim
  exact Dq h1 hpe aD DC (by unfold At;rw[ajj,h2,aiH])
def zT:Tm:=.mk [] 1 0 []
def sT:Tm:=.mk [] 1 1 [zT]
def VA:aP:=⟨sT,sT,[],[]⟩
theorem aaE:bt 0=(⟨#[48]⟩:ByteArray):=by
 have h:Lib.itoa ((0:Nat):Int)=Lib.decDigits 0:=Lib.itoa_nonneg 0
 have:bt 0=⟨(Lib.itoa ((0:Nat):Int)).toArray⟩:=rfl
 rw[this,h,jJ (by decide)]
 rfl
theorem aaF:bt 1=(⟨#[49]⟩:ByteArray):=by
 have h:Lib.itoa ((1:Nat):Int)=Lib.decDigits 1:=Lib.itoa_nonneg 1
 have:bt 1=⟨(Lib.itoa ((1:Nat):Int)).toArray⟩:=rfl
 rw[this,h,jJ (by decide)]
 rfl
theorem aee:aW 60 sT=[(⟨#[99,49]⟩:ByteArray),vp,(⟨#[99,48]⟩:ByteArray),xP]:=by
 have:aW 60 sT=[jk 1++bt 1,vp,jk 1++bt 0,xP]:=rfl
 rw[this,aaE,aaF]
 rfl
abbrev exW:ByteArray:=⟨#[108,101,109,109,97,32,91,32,93,32,99,49,32,40,32,99,48,32,41,32,61,32,99,49,32,40,32,99,48,32,41,32,123,32,125,32,59,10]⟩
theorem aef:kI (⟨#[]⟩:ByteArray) [VA]=exW:=by
 have h1:e9 VA=[w5,qZ,qx,⟨#[99,49]⟩,vp,⟨#[99,48]⟩,xP,qy,⟨#[99,49]⟩,vp,⟨#[99,48]⟩,xP,wj,xQ,w4]:=by
  unfold e9
  rw[show VA.left=sT from rfl,show VA.right=sT from rfl,aee]
  rfl
 show bJ (⟨#[]⟩:ByteArray) (e9 VA)++nlW=_
 rw[h1]
 kernel_rfl
theorem Xi:VA.Ok:=by
 have h:sT.Full:=⟨True.intro,by unfold ke;omega,by unfold ke;omega,⟨True.intro,by unfold ke;omega,by unfold ke;omega,True.intro⟩,True.intro⟩
 exact⟨h,h,by decide,by decide,fun t ht=>(by cases ht),fun t ht=>(by cases ht)⟩
theorem r4:av Tryz.prog 7 [] (nB true):=by
 have DC:∀l∈[VA],l.Ok:=fun l hl=>by rw[air.1 hl];exact Xi
 have aD:[VA].all oI=true:=by kernel_rfl
 have he:=C6 DC (of_decide_eq_true (by kernel_rfl))
 have hd:=GF aD DC (of_decide_eq_true (by kernel_rfl))
 rw[aef] at he hd
 rw[aD] at he
 rw[if_neg (by decide)] at hd
 have hq:=qW 10 sT sT (by decide) (by decide)
 exact WX ⟨_,_,he,_,_,_,_,_,hd,ak.pos rfl (ak.pos (by rw[gF];exact decide_eq_true rfl) (ak.pos rfl (ak.pos rfl ⟨by decide,by decide,_,_,_,_,_,_,_,_,_,_,rfl,_,hq,congrArg nB (show Tm.same sT sT=true by kernel_rfl)⟩)))⟩
structure bF.QM (s:bF):Prop where
 eq:ke s.eq
 path:∀i∈s.path,ke i
 sub:∀p∈s.sub,ke p.1∧p.2.Full
structure aP.QM (l:aP):Prop where
 left:l.left.Full
 right:l.right.Full
 aO:∀t∈l.aO,t.Ok
 steps:∀s∈l.steps,s.QM
theorem aP.QM.cut {l:aP} (h:l.QM) (hf:l.QL):l.cut.Ok:=by
 refine⟨h.left,h.right,aiy hf.left (by decide),aiy hf.right (by decide),fun t ht=>⟨h.aO t ht,aiy (hf.aO t ht) (by decide)⟩,fun s hs=>?_⟩
 obtain⟨s0,h0,rfl⟩:=aiQ.1 hs
 have hn:=h.steps s0 (aiR h0)
 exact⟨hn.eq,hn.path,fun p hp=>⟨(hn.sub p (aiR hp)).1,(hn.sub p (aiR hp)).2,aiy ((hf.steps s0 h0).1 p hp) (by decide)⟩⟩
theorem aP.Cut.sz {l:aP} (h:l.Cut):l.Sz:=
 ⟨aiy h.jg.left (by decide),aiy h.jg.right (by decide),aiy h.jg.tys (by decide),aiy h.sl (by decide),fun s hs=>⟨aiy (h.sub hs).2 (by decide),aiy (h.P3 s hs) (by decide),fun p hp=>aiy ((h.sub hs).1 p hp) (by decide)⟩⟩
end Go.Proofs.YtjhanogfpkbamaaGreatDoor
