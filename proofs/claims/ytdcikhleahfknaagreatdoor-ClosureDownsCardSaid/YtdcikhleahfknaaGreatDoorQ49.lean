/- Texts of ours laid together for a claim: P08 P74 P75 P09 P15 P17 P18 P23 P19 P10 P11 P78 P6B P6J P6K P6L P6M P30 P61 P62 P63 P64. -/
import Derived.Lib.ItoaLen
import Derived.Tactics
import Derived.Tactics2
import Derived.Defers
import Derived.Laws.Pointers
import Derived.Laws.LoneSync
import Derived.RegionTactic
import Derived.RegionCalls
import Derived.ChangeAlike
import Derived.TacticsInMore
import Derived.RegionIn
import Derived.LoopNIn
import Derived.RecoverIn
import Derived.Test.YtdcikhleahfknaaGreatDoorChecked
import Derived.Deep.LoopGhost
import Derived.Deep.OwnRows
import Derived.Deep.Light
import Derived.BigGuard
import Derived.Laws.Bits64b
import Derived.CellFam
import Derived.Deep.RegionWith
import Derived.Test.YtdcikhleahfknaaGreatDoorQ48
namespace Go.Proofs.YtdcikhleahfknaaGreatDoor
open Go
set_option linter.unusedSimpArgs false
set_option linter.unusedVariables false
open Go Go.Shelf
set_option maxRecDepth 100000
open Go Go.RowKit
set_option maxRecDepth 1000000
theorem zq {l:List Int} {i:Int} {k:Nat} (h:k<l.length):(l.take (k+1)).contains i=((l.take k).contains i||(l[k]==i)):=by
 rw[<-cY h,amE];simp only[amK,amo,amn,amc,beq_iff_eq];exact or_congr Iff.rfl eq_comm
theorem iI {l:List Int} {i:Int} (bN:l.length<=1000000000):ag Tryz.prog 108 [.sl (ai l),nI i] (nB (l.contains i)):=by
 refine O8 ?_;unfold Xz;refine av.intro (fun k:Nat=>((ai l,i,(k:Int),()),())) (fun k=>k<=l.length/\(l.take k).contains i=false) (fun k=>l.length-k) 0 rfl ⟨alE _,by simp⟩ ?_;intro k ⟨hk,hs⟩ again bw;dsimp only;rw[dM];refine ah.intro (fun h=>?_) fun h=>?_
 ·have ak:k<l.length:=by simpa using h
  refine⟨by omega,by omega,_,Cp ak,ah.intro (fun h=>?_) fun h=>?_⟩
  ·have e:l[k]=i:=by simpa using h
   have:l.contains i=true:=by rw[amK,<-e];exact alG ak
   rw[this]
  ·rw[aA (by omega)];exact bw (k+1) ⟨by omega,by rw[zq ak,hs,h];rfl⟩ (by omega)
 ·have:l.length<=k:=by simpa using h
  rw[alI this] at hs;rw[hs]
theorem il {a b:List Ty} (ha:a.length<=1000000000) (hb:b.length<=1000000000):ag Tryz.prog 53 [.sl (a.map Ty.enc),.sl (b.map Ty.enc)] (.sl ((a++b).map Ty.enc)):=
 TR ⟨cg Ty.eN (by simp;omega) (by decide),rfl,cg Ty.eN (by simp;omega) (by decide),rfl,by rw[ama]⟩
theorem Im:∀(n:Nat) (t:Ty),t.size<=n->n<=1000000000->ag Tryz.prog 77 [t.enc] t.enc:=by
 intro n
 induction n with
 |zero=>intro t h;have:=t.size_pos;omega
 |succ n ih=>
  intro t h hn;have hq:=Ty.aw t.args;have pU:=t.size_eq;rw[Ty.aC];refine TU ⟨rfl,?_⟩;refine av.intro (fun k:Nat=>(((),(),(),(k:Int),()),((t.args.map Ty.enc,t.base,()),((),0,()),((),t.base,()),(t.args.take k).map Ty.enc,())))
   (fun k=>k<=t.args.length) (fun k=>t.args.length-k) 0 rfl (alE _) ?_
  intro k hk again bw;dsimp only;rw[alv];refine ah.intro (fun h=>?_) fun h=>?_
  ·have ak:k<t.args.length:=by simpa using h
   have hi:=ih t.args[k] (by have:=Ty.bY ak;omega) (by omega);rw[Ty.aC] at hi;refine⟨by omega,by omega,_,_,Ty.aq ak,_,_,hi,rfl,bc rfl (by simp;omega) (by decide),rfl,?_⟩;rw[aA (by omega),Ty.fm,cY ak];exact bw (k+1) (by omega) (by omega)
  ·have:t.args.length<=k:=by simpa using h
   refine⟨rfl,?_⟩;rw[alI this]
theorem Io:∀(n:Nat) (t:Ty),t.size<=n->n<=1000000000->ag Tryz.prog 115 [t.enc] t.enc:=by
 intro n
 induction n with
 |zero=>intro t h;have:=t.size_pos;omega
 |succ n ih=>
  intro t h hn;have hq:=Ty.aw t.args;have pU:=t.size_eq;rw[Ty.aC];refine Pb ⟨rfl,?_⟩;refine av.intro (fun k:Nat=>(((),(),(),(k:Int),()),((t.args.map Ty.enc,t.base,()),((),0,()),((),t.base,()),(t.args.take k).map Ty.enc,())))
   (fun k=>k<=t.args.length) (fun k=>t.args.length-k) 0 rfl (alE _) ?_
  intro k hk again bw;dsimp only;rw[alv];refine ah.intro (fun h=>?_) fun h=>?_
  ·have ak:k<t.args.length:=by simpa using h
   have hi:=ih t.args[k] (by have:=Ty.bY ak;omega) (by omega);rw[Ty.aC] at hi;refine⟨by omega,by omega,_,_,Ty.aq ak,_,_,hi,rfl,bc rfl (by simp;omega) (by decide),rfl,?_⟩;rw[aA (by omega),Ty.fm,cY ak];exact bw (k+1) (by omega) (by omega)
  ·have:t.args.length<=k:=by simpa using h
   refine⟨rfl,?_⟩;rw[alI this]
theorem lf {l:List Ty} (h:Ty.sizes l<=1000000000):ag Tryz.prog 40 [.sl (l.map Ty.enc)] (.sl (l.map Ty.enc)):=by
 have hq:=Ty.aw l;refine TW ⟨rfl,?_⟩;refine av.intro (fun k:Nat=>((l.map Ty.enc,(),(k:Int),()),((l.take k).map Ty.enc,()))) (fun k=>k<=l.length) (fun k=>l.length-k) 0 rfl (alE _) ?_;intro k hk again bw;dsimp only;rw[alv];refine ah.intro (fun h=>?_) fun h=>?_
 ·have ak:k<l.length:=by simpa using h
  have hi:=Im _ l[k] (alA _) (by have:=Ty.aK (alG ak);omega);rw[Ty.aC] at hi;refine⟨by omega,by omega,_,_,Ty.aq ak,_,_,hi,rfl,bc rfl (by simp;omega) (by decide),rfl,?_⟩;rw[aA (by omega),Ty.fm,cY ak];exact bw (k+1) (by omega) (by omega)
 ·have:l.length<=k:=by simpa using h
  refine⟨rfl,?_⟩;rw[alI this]
theorem uZ {l:List Ty} (h:Ty.sizes l<=1000000000):ag Tryz.prog 62 [.sl (l.map Ty.enc)] (.sl (l.map Ty.enc)):=by
 have hq:=Ty.aw l;refine T0 ⟨rfl,?_⟩;refine av.intro (fun k:Nat=>((l.map Ty.enc,(),(k:Int),()),((l.take k).map Ty.enc,()))) (fun k=>k<=l.length) (fun k=>l.length-k) 0 rfl (alE _) ?_;intro k hk again bw;dsimp only;rw[alv];refine ah.intro (fun h=>?_) fun h=>?_
 ·have ak:k<l.length:=by simpa using h
  have hi:=Io _ l[k] (alA _) (by have:=Ty.aK (alG ak);omega);rw[Ty.aC] at hi;refine⟨by omega,by omega,_,_,Ty.aq ak,_,_,hi,rfl,bc rfl (by simp;omega) (by decide),rfl,?_⟩;rw[aA (by omega),Ty.fm,cY ak];exact bw (k+1) (by omega) (by omega)
 ·have:l.length<=k:=by simpa using h
  refine⟨rfl,?_⟩;rw[alI this]
theorem Ip:∀(n:Nat) (t:Tm),t.size<=n->n<=1000000000->ag Tryz.prog 12 [t.enc] t.enc:=by
 intro n
 induction n with
 |zero=>intro t h;have:=t.size_pos;omega
 |succ n ih=>
  intro t h hn;have hq:=Tm.aw t.args;have pU:=t.size_eq;rw[Tm.aC];refine TY ⟨_,lf (by omega),rfl,?_⟩;refine av.intro (fun k:Nat=>(((),(),(),(k:Int),()),((t.binds.map Ty.enc,t.kind,t.index,t.args.map Tm.enc,()),((),0,0,(),()),(t.binds.map Ty.enc,t.kind,t.index,(),()),(t.args.take k).map Tm.enc,())))
   (fun k=>k<=t.args.length) (fun k=>t.args.length-k) 0 rfl (alE _) ?_
  intro k hk again bw;dsimp only;rw[alv];refine ah.intro (fun h=>?_) fun h=>?_
  ·have ak:k<t.args.length:=by simpa using h
   have hi:=ih t.args[k] (by have:=Tm.bY ak;omega) (by omega);rw[Tm.aC] at hi;refine⟨by omega,by omega,_,_,_,_,Tm.aq ak,_,_,_,_,hi,rfl,bc rfl (by simp;omega) (by decide),rfl,?_⟩;rw[aA (by omega),Tm.fm,cY ak];exact bw (k+1) (by omega) (by omega)
  ·have:t.args.length<=k:=by simpa using h
   refine⟨rfl,?_⟩;rw[alI this]
theorem Iq:∀(n:Nat) (t:Tm),t.size<=n->n<=1000000000->ag Tryz.prog 46 [t.enc] t.enc:=by
 intro n
 induction n with
 |zero=>intro t h;have:=t.size_pos;omega
 |succ n ih=>
  intro t h hn;have hq:=Tm.aw t.args;have pU:=t.size_eq;rw[Tm.aC];refine T6 ⟨_,uZ (by omega),rfl,?_⟩;refine av.intro (fun k:Nat=>(((),(),(),(k:Int),()),((t.binds.map Ty.enc,t.kind,t.index,t.args.map Tm.enc,()),((),0,0,(),()),(t.binds.map Ty.enc,t.kind,t.index,(),()),(t.args.take k).map Tm.enc,())))
   (fun k=>k<=t.args.length) (fun k=>t.args.length-k) 0 rfl (alE _) ?_
  intro k hk again bw;dsimp only;rw[alv];refine ah.intro (fun h=>?_) fun h=>?_
  ·have ak:k<t.args.length:=by simpa using h
   have hi:=ih t.args[k] (by have:=Tm.bY ak;omega) (by omega);rw[Tm.aC] at hi;refine⟨by omega,by omega,_,_,_,_,Tm.aq ak,_,_,_,_,hi,rfl,bc rfl (by simp;omega) (by decide),rfl,?_⟩;rw[aA (by omega),Tm.fm,cY ak];exact bw (k+1) (by omega) (by omega)
  ·have:t.args.length<=k:=by simpa using h
   refine⟨rfl,?_⟩;rw[alI this]
theorem FE {l m:List Ty} (bN:l.length<=1000000000) (hlm:l.length=m.length) (hi:∀(k:Nat) (h1:k<l.length) (h2:k<m.length),ag Tryz.prog 114 [l[k].enc,m[k].enc] (nB (Ty.same l[k] m[k]))):
  Ki ((l.map Ty.enc,m.map Ty.enc,0,()),()) (fun x=>x=nB (Ty.bA l m)):=by
 refine av.intro (fun k:Nat=>((l.map Ty.enc,m.map Ty.enc,(k:Int),()),())) (fun k=>k<=l.length/\Ty.bA l m=Ty.bA (l.drop k) (m.drop k)) (fun k=>l.length-k) 0 rfl ⟨alE _,rfl⟩ ?_;intro k ⟨hk,hs⟩ again bw;dsimp only;rw[alv,alv];refine ah.intro (fun h=>?_) fun h=>?_
 ·have ak:k<l.length:=by simpa using h
  rw[Ty.iG ak (by omega)] at hs;have hi:=hi k ak (by omega);rw[Ty.aC,Ty.aC] at hi;refine⟨by omega,by omega,_,_,Ty.aq ak,by omega,by omega,_,_,Ty.aq (by omega),_,hi,ah.intro (fun h=>?_) fun h=>?_⟩
  ·have:Ty.same l[k] m[k]=false:=by simpa using h
   rw[hs,this,alP]
  ·have he:Ty.same l[k] m[k]=true:=by simpa using h
   rw[he,alN] at hs;rw[aA (by omega)];exact bw (k+1) ⟨by omega,hs⟩ (by omega)
 ·have:l.length<=k:=by simpa using h
  rw[alD this,alD (by omega)] at hs;rw[hs];rfl
theorem u4:∀(n:Nat) (t u:Ty),t.size<=n->n<=1000000000->ag Tryz.prog 114 [t.enc,u.enc] (nB (Ty.same t u)):=by
 intro n
 induction n with
 |zero=>intro t u h;have:=t.size_pos;omega
 |succ n ih=>
  intro t u h hn;have hq:=Ty.aw t.args;have pU:=t.size_eq;rw[Ty.aC,Ty.aC,Ty.sH];refine Pd (ah.intro (fun h=>?_) fun h=>?_)
  ·have:(t.base==u.base)=false:=by simpa using h
   rw[this,alP]
  ·have hb:(t.base==u.base)=true:=by simpa using h
   rw[hb,alN];refine ah.intro (fun h=>?_) fun h=>?_
   ·rw[Ty.iH (by simp at h;omega)]
   ·have hlm:t.args.length=u.args.length:=by simp at h;omega
    refine av.intro (fun k:Nat=>(((),(),(k:Int),()),((t.args.map Ty.enc,t.base,()),(u.args.map Ty.enc,u.base,()),()))) (fun k=>k<=t.args.length/\Ty.bA t.args u.args=Ty.bA (t.args.drop k) (u.args.drop k)) (fun k=>t.args.length-k) 0 rfl ⟨alE _,rfl⟩ ?_;intro k ⟨hk,hs⟩ again bw;dsimp only;rw[alv,alv];refine ah.intro (fun h=>?_) fun h=>?_
    ·have ak:k<t.args.length:=by simpa using h
     rw[Ty.iG ak (by omega)] at hs;have hi:=ih t.args[k] (u.args[k]'(by omega)) (by have:=Ty.bY ak;omega) (by omega);rw[Ty.aC,Ty.aC] at hi;refine⟨by omega,by omega,_,_,Ty.aq ak,by omega,by omega,_,_,Ty.aq (by omega),_,hi,ah.intro (fun h=>?_) fun h=>?_⟩
     ·have:Ty.same t.args[k] u.args[k]=false:=by simpa using h
      rw[hs,this,alP]
     ·have he:Ty.same t.args[k] u.args[k]=true:=by simpa using h
      rw[he,alN] at hs;rw[aA (by omega)];exact bw (k+1) ⟨by omega,hs⟩ (by omega)
    ·have:t.args.length<=k:=by simpa using h
     rw[alD this,alD (by omega)] at hs;rw[hs];rfl
theorem n7 {l m:List Ty} (bN:Ty.sizes l<=1000000000):ag Tryz.prog 80 [.sl (l.map Ty.enc),.sl (m.map Ty.enc)] (nB (Ty.bA l m)):=by
 have hq:=Ty.aw l;refine T7 (ah.intro (fun h=>?_) fun h=>?_)
 ·rw[Ty.iH (by simp at h;omega)]
 ·exact FE (by omega) (by simp at h;omega) fun k h1 h2=>u4 _ _ _ (alA _) (by have:=Ty.aK (alG h1);omega)
mutual
def Tm.same:Tm->Tm->Bool
 | .mk b k i a,.mk b' k' i' a'=>(k==k'&&i==i')&&(Ty.bA b b'&&Tm.bA a a')
def Tm.bA:List Tm->List Tm->Bool
 | [],[]=>true
 |t::l,u::m=>Tm.same t u&&Tm.bA l m
 |_,_=>false
end
theorem Tm.sH (t u:Tm):Tm.same t u=((t.kind==u.kind&&t.index==u.index)&&(Ty.bA t.binds u.binds&&Tm.bA t.args u.args)):=by cases t;cases u;simp[Tm.same,Tm.kind,Tm.index,Tm.binds,Tm.args]
theorem Tm.iG {l m:List Tm} {k:Nat} (h1:k<l.length) (h2:k<m.length):Tm.bA (l.drop k) (m.drop k)=(Tm.same l[k] m[k]&&Tm.bA (l.drop (k+1)) (m.drop (k+1))):=by
 rw[alC h1,alC h2,Tm.bA]
theorem Tm.iH {l m:List Tm} (h:¬l.length=m.length):Tm.bA l m=false:=by
 induction l generalizing m with
 |nil=>cases m with
  |nil=>simp at h
  |cons u m=>rfl
 |cons t l ih=>cases m with
  |nil=>rfl
  |cons u m=>rw[Tm.bA,ih (by simpa using h),amH]
mutual
theorem Tm.fo:∀(t u:Tm),Tm.same t u=true↔t=u
 | .mk b k i a,.mk b' k' i' a'=>by
  simp only[Tm.same,alB,beq_iff_eq,Tm.mk.injEq,Ty.gC,Tm.gC a a'];constructor
  ·rintro⟨⟨h1,h2⟩,h3,h4⟩;exact⟨h3,h1,h2,h4⟩
  ·rintro⟨h3,h1,h2,h4⟩;exact⟨⟨h1,h2⟩,h3,h4⟩
theorem Tm.gC:∀(l m:List Tm),Tm.bA l m=true↔l=m
 | [],[]=>by simp[Tm.bA]
 | [],_::_=>by simp[Tm.bA]
 |_::_,[]=>by simp[Tm.bA]
 |t::l,u::m=>by simp only[Tm.bA,alB,List.cons.injEq,Tm.fo t u,Tm.gC l m]
end
theorem Tm.mD (t:Tm):Tm.same t t=true:=(Tm.fo t t).2 rfl
theorem lg:∀(n:Nat) (t u:Tm),t.size<=n->n<=1000000000->ag Tryz.prog 45 [t.enc,u.enc] (nB (Tm.same t u)):=by
 intro n
 induction n with
 |zero=>intro t u h;have:=t.size_pos;omega
 |succ n ih=>
  intro t u h hn;have hq:=Tm.aw t.args;have pU:=t.size_eq;have hb:=n7 (l:=t.binds) (m:=u.binds) (by omega);rw[Tm.aC,Tm.aC,Tm.sH];refine T9 (ah.intro (fun h=>?_) fun h=>?_)
  ·have:(t.kind==u.kind&&t.index==u.index)=false:=by rw[ame] at h;exact h
   rw[this,alP]
  ·have hh:(t.kind==u.kind&&t.index==u.index)=true:=by rw[amL] at h;exact h
   rw[hh,alN];refine ah.intro (fun h=>?_) fun h=>?_
   ·rw[Tm.iH (by simp at h;omega),amH]
   ·have hlm:t.args.length=u.args.length:=by simp at h;omega
    refine⟨_,hb,ah.intro (fun h=>?_) fun h=>?_⟩
    ·have:Ty.bA t.binds u.binds=false:=by simpa using h
     rw[this,alP]
    ·have hbs:Ty.bA t.binds u.binds=true:=by simpa using h
     rw[hbs,alN];refine av.intro (fun k:Nat=>(((),(),(k:Int),()),((t.binds.map Ty.enc,t.kind,t.index,t.args.map Tm.enc,()),(u.binds.map Ty.enc,u.kind,u.index,u.args.map Tm.enc,()),()))) (fun k=>k<=t.args.length/\Tm.bA t.args u.args=Tm.bA (t.args.drop k) (u.args.drop k)) (fun k=>t.args.length-k) 0 rfl ⟨alE _,rfl⟩ ?_;intro k ⟨hk,hs⟩ again bw;dsimp only;rw[alv,alv];refine ah.intro (fun h=>?_) fun h=>?_
     ·have ak:k<t.args.length:=by simpa using h
      rw[Tm.iG ak (by omega)] at hs;have hi:=ih t.args[k] (u.args[k]'(by omega)) (by have:=Tm.bY ak;omega) (by omega);rw[Tm.aC,Tm.aC] at hi;refine⟨by omega,by omega,_,_,_,_,Tm.aq ak,by omega,by omega,_,_,_,_,Tm.aq (by omega),_,hi,ah.intro (fun h=>?_) fun h=>?_⟩
      ·have:Tm.same t.args[k] u.args[k]=false:=by simpa using h
       rw[hs,this,alP]
      ·have he:Tm.same t.args[k] u.args[k]=true:=by simpa using h
       rw[he,alN] at hs;rw[aA (by omega)];exact bw (k+1) ⟨by omega,hs⟩ (by omega)
     ·have:t.args.length<=k:=by simpa using h
      rw[alD this,alD (by omega)] at hs;rw[hs];rfl
section
section
variable {P:Program} {w w':World} {F:Nat->Nat->Prop} {η:List Value} {hp:List af}
def af.XM:af->Prop
 | .box _=>True
 | .cU _ _=>True
 | .aJ _=>True
 |_=>False
theorem ub {r0:AV} {q:Nat} {o o':af} {b:Nat} {v0:Value} {v:Value} (aR:kE w F η hp) (hq:hp[q]?=some o) (hn:o.XM) (Ju:o'.XM) (hb:η[q]?=some v0) (pG:ct v0=some b)
  (hk:bE (fun k=>k=b) w w') (hs:w'.heap.size=w.heap.size)
  (wF:Ext w F η hp w' (bO F w η hp w' η (hp.set q o')) η (hp.set q o')->fM w' (bO F w η hp w' η (hp.set q o')) η (hp.set q o') o' v0) (Um:bm w F η hp r0 v):
  dU w F η hp w' η (hp.set q o') r0 v:=by
 have hl:o.live:=by cases o<;>first|exact True.intro|exact hn.elim
 have G6:o'.live:=by cases o'<;>first|exact True.intro|exact Ju.elim
 have Bq:q<hp.length:=(alu.1 hq).1;have xK:(hp.set q o')[q]?=some o':=by simp[amr,Bq]
 have Po:∀k,aG η (hp.set q o') k↔aG η hp k:=by
  intro k;constructor
  ·intro ⟨r,x,u,e1,e2,e3,e4⟩
   by_cases hr:q=r
   ·subst hr;exact⟨q,_,u,hq,hl,e3,e4⟩
   ·rw[get_set_other hr] at e1;exact⟨r,x,u,e1,e2,e3,e4⟩
  ·intro ⟨r,x,u,e1,e2,e3,e4⟩
   by_cases hr:q=r
   ·subst hr;exact⟨q,_,u,xK,G6,e3,e4⟩
   ·exact⟨r,x,u,by rw[get_set_other hr];exact e1,e2,e3,e4⟩
 have hbl:aG η hp b:=⟨q,_,_,hq,hl,hb,pG⟩;have LL:∀x,¬F b x:=by
  intro x hf;obtain⟨p1,q1,q2⟩:=(aU b x).1 (aR.bg b x hf).2 q _ hb pG;rw[hq] at q1;obtain rfl:=alw q1
  cases o<;>first|exact q2|exact hn
 have Pp:∀k x,iR η hp k x->iR η (hp.set q o') k x:=by
  intro k x hf;refine(aU k x).2 fun r u e1 e2=>?_;obtain⟨p1,q1,q2⟩:=(aU k x).1 hf r u e1 e2
  by_cases hr:q=r
  ·subst hr;rw[hq] at q1;obtain rfl:=alw q1;exact(show False by cases o<;>first|exact q2|exact hn).elim
  ·exact⟨p1,by rw[get_set_other hr];exact q1,q2⟩
 have iS:∀k,k<w.heap.size->k≠b->w'.heap[k]?=w.heap[k]?:=fun k h1 h2=>hk.block k h1 h2;have bg:∀k x,F k x->bO F w η hp w' η (hp.set q o') k x:=fun k x hf=>⟨.inl hf,by rw[hs];exact(aR.bg k x hf).1,Pp k x (aR.bg k x hf).2⟩;have cA:Ext w F η hp w' (bO F w η hp w' η (hp.set q o')) η (hp.set q o'):=by
  refine⟨fun k x u hf hc=>?_,fun k es c hf hc=>?_,bg,fun r a h=>h,fun r a h=>h,fun r n u h=>?_⟩
  ·have bu:k≠b:=fun h=>LL x (h▸hf);simp only[World.cell?] at hc ⊢;rw[iS k (aR.bg k x hf).1 bu];exact hc
  ·have bu:k≠b:=fun h=>LL 0 (h▸hf);rw[iS k (aR.bg k 0 hf).1 bu];exact hc
  ·unfold aT at h ⊢
   by_cases hr:q=r
   ·subst hr;rw[hq] at h;exact(show False by cases o<;>first|exact h|exact hn).elim
   ·rw[get_set_other hr];exact h
 refine⟨⟨hk.os,hk.tape,hk.output,hk.size,fun k h1 h3=>iS k h1 fun h=>h3 (h▸hbl)⟩,cA,⟨by rw[amJ];exact aR.heap.len,fun r x u e1 e2=>?_,fun r r' x x' u u' k bu e1 e2 l1 l2 e3 e4 e5=>?_⟩,fun k h=>.inr ((Po k).1 h),Um.ext cA⟩
 ·by_cases eH:q=r
  ·subst eH;rw[xK] at e1;obtain rfl:=alw e1;rw[hb] at e2;obtain rfl:=alw e2;exact wF cA
  ·rw[get_set_other eH] at e1
   by_cases wV:x.live
   ·refine(aR.heap.obj r x u e1 e2).ext cA hk.size fun k gK oX=>iS k oX fun h=>?_;subst h;exact aR.heap.sep q r _ x _ u k eH hq e1 hl wV hb e2 pG gK
   ·cases x<;>first|exact True.intro|exact(wV True.intro).elim
 ·have look:∀{r:Nat} {x:af},(hp.set q o')[r]?=some x->x.live->∃p,hp[r]?=some p/\p.live:=by
   intro r x e l
   by_cases hr:q=r
   ·subst hr;exact⟨_,hq,hl⟩
   ·rw[get_set_other hr] at e;exact⟨x,e,l⟩
  obtain⟨p,e1',l1'⟩:=look e1 l1;obtain⟨p',e2',l2'⟩:=look e2 l2;exact aR.heap.sep r r' p p' u u' k bu e1' e2' l1' l2' e3 e4 e5
theorem L6 {r0:AV} {q:Nat} {e size hi qu g cap:Nat} {els:List AV} {cur:Array Value} {v:Value} (aR:kE w F η hp) (hq:hp[q]?=some (.row e size els)) (dR:η[q]?=some (.slice (some ⟨g,0,none⟩) els.length cap)) (G4:0<cap)
  (hg:w.heap[g]?=some (.cells cur e (0,hi))) (Dh:w'.heap[g]?=some (.cells cur e (0,qu))) (hh:qu<=els.length*size)
  (hs:w'.os=w.os/\w'.tape=w.tape/\w'.output=w.output/\w'.heap.size=w.heap.size) (hk:∀k,k≠g->w'.heap[k]?=w.heap[k]?) (Um:bm w F η hp r0 v):
  dU w F η hp w' η hp r0 v:=by
 have aE:∀b o,w'.cell? ⟨b,o,none⟩=w.cell? ⟨b,o,none⟩:=by
  intro b o
  by_cases hb:b=g
  ·subst hb;simp only[World.cell?,hg,Dh]
  ·simp only[World.cell?,hk b hb]
 have Tv:aG η hp g:=⟨q,_,_,hq,True.intro,dR,bp G4⟩;have cA:Ext w F η hp w' (bO F w η hp w' η hp) η hp:=by
  refine⟨fun k x u hf hc=>by rw[aE];exact hc,fun k es c hf hc=>?_,fun k x hf=>⟨.inl hf,by rw[hs.2.2.2];exact(aR.bg k x hf).1,(aR.bg k x hf).2⟩,fun r a h=>h,fun r a h=>h,fun r n u h=>h⟩;have:k≠g:=fun e=>by rw[e] at hc;rw[hc] at hg;cases hg
  rw[hk k this];exact hc
 refine⟨⟨hs.1,hs.2.1,hs.2.2.1,by rw[hs.2.2.2];exact alA _,fun k _ h3=>hk k fun h=>h3 (h▸Tv)⟩,cA,⟨aR.heap.len,fun r x u e1 e2=>?_,aR.heap.sep⟩,fun k h=>.inr h,Um.ext cA⟩
 by_cases hr:q=r
 ·subst hr;rw[hq] at e1;obtain rfl:=alw e1;rw[dR] at e2;obtain rfl:=alw e2;obtain⟨hz,xs,⟨hl,h1⟩,cS⟩:=aR.heap.obj q _ _ hq dR;refine⟨hz,xs,⟨hl,?_⟩,fun i el hi=>⟨(cS i el hi).1,fun j y hj=>let ⟨v1,q1,q2,q3⟩:=(cS i el hi).2 j y hj;⟨v1,q1,q2.ext cA.lN.ext,q3⟩⟩⟩;rcases h1 with⟨h1,h2|⟨ad,h2⟩⟩|⟨g1,ajT,ajU,h2,h3,⟨_,_,h4⟩,h5⟩
  ·cases h2
  ·simp only[Value.slice.injEq] at h2;omega
  ·simp only[Value.slice.injEq,als,Addr.mk.injEq,and_true] at h2;obtain⟨rfl,_,rfl⟩:=h2;rw[hg] at h4;simp only[als,Obj.cells.injEq] at h4;obtain⟨rfl,_,_⟩:=h4;exact .inr ⟨g,cap,cur,rfl,G4,⟨qu,hh,Dh⟩,h5⟩
 ·by_cases wV:x.live
  ·refine(aR.heap.obj r x u e1 e2).ext cA (by rw[hs.2.2.2];exact alA _) fun k gK oX=>hk k fun h=>?_;subst h;exact aR.heap.sep q r _ x _ u k hr hq e1 True.intro wV dR e2 (bp G4) gK
  ·cases x<;>first|exact True.intro|exact(wV True.intro).elim
theorem xW {r0:AV} {v:Value} (aR:kE w F η hp) (hk:bE (aG η hp) w w') (hc:∀b o u,F b o->w.cell? ⟨b,o,none⟩=some u->w'.cell? ⟨b,o,none⟩=some u) (hm:∀b es c,F b 0->w.heap[b]?=some (.map es c)->w'.heap[b]?=some (.map es c)) {hp':List af} (hl:hp'.length=hp.length) (hd:∀(r:Nat) (o:af),hp'[r]?=some o->o=.dead)
  (Um:∀F',bm w' F' η hp' r0 v):dU w F η hp w' η hp' r0 v:=by
 refine⟨hk,⟨hc,hm,fun k o hf=>⟨.inl hf,al8 (aR.bg k o hf).1 hk.size,fun r u e1 e2=>?_⟩,fun r a h=>h,fun r a h=>h,fun r n u h=>?_⟩,⟨by rw[hl];exact aR.heap.len,fun r x u e1 e2=>?_,fun r r' x x' u u' k bu e1 e2 l1 l2=>?_⟩,fun k h=>?_,Um _⟩
 ·have hr:r<hp'.length:=by rw[hl,<-aR.heap.len];exact(alu.1 e1).1
  obtain⟨x,hx⟩:∃x,hp'[r]?=some x:=⟨_,aly hr⟩;rw[hx,hd r x hx];exact True.intro
 ·have hr:r<hp'.length:=by
   unfold aT at h;rw[hl];rcases Nat.lt_or_ge r hp.length with h1|h1
   ·exact h1
   ·rw[al0 h1] at h;exact h.elim
  obtain⟨x,hx⟩:∃x,hp'[r]?=some x:=⟨_,aly hr⟩;unfold aT;rw[hx,hd r x hx];exact True.intro
 ·rw[hd r x e1];exact True.intro
 ·rw[hd r x e1] at l1;exact l1.elim
 ·obtain⟨r,x,u,e1,e2,_⟩:=h;rw[hd r x e1] at e2;exact e2.elim
end
theorem Cy {w:World} {F:Nat->Nat->Prop} {η:List Value} {hp:List af} {r o:Nat} {v:Value} (h:bm w F η hp (.ptr r o) v):∃b,v=.pointer (some ⟨b,o,none⟩)/\η[r]?=some (.pointer (some ⟨b,0,none⟩)):=by
 cases h with|ptr _ _ b h1=>exact⟨b,rfl,h1⟩
theorem n8 {us:List AV} {n:Nat}:bH Tryz.prog 171 [.ptr 0 0] [.cU 1 n,.row 5 1 us] (fun r hp'=>r=.aL []/\hp'=[.cU 1 n,.row 5 1 us]):=by
 refine⟨⟨_,Tryz.func171,by kernel_rfl,by kernel_rfl⟩,fun w F η bb aR hv=>?_⟩
 match bb,hv with
 | [v0],⟨r0,_⟩=>
  obtain⟨b,rfl,h0⟩:=Cy r0;obtain⟨b',vs,e1,h1,h2,h3,u,h4,h5⟩:=aR.heap.obj 0 _ _ rfl h0;cases e1;have c0:∀x,vs[0]?=some x->w.cell? ⟨b,0,none⟩=some x:=fun x hx=>by simp only[World.cell?,h1];exact hx
  rcases h3 with h3|h3
  ·refine callsIn_wide.2 ((Any.Builder_copyCheck_fresh Pn HX b w (c0 _ h3) (by simp only[World.shape?,h1,h2.1];rfl) (by simp[World.frozen?,h1])).mono ?_)
   rintro e w' ⟨rfl,rfl⟩
   have g1:=heap_setCell_same w b 0 _ wE (.pointer (some ⟨b,0,none⟩)) h1;exact⟨_,.aL [],[.cU 1 n,.row 5 1 us],η,rfl,⟨rfl,rfl⟩,ub (q:=0) (b:=b) (o':=.cU 1 n) aR rfl True.intro True.intro h0 rfl ⟨rfl,rfl,rfl,by simp,fun k _ hk=>heap_setCell_other _ _ _ _ hk⟩ (by simp)
    (fun cA=>⟨b,_,rfl,g1,⟨by simp[h2.1],fun e=>by rw[amS (by omega)];exact h2.2 e⟩,.inr (by simp[h2.1]),u,by rw[amS (by omega)];exact h4,h5.ext cA⟩) (.aL [] #[] rfl fun j y u hy _=>by cases hy)⟩
  ·refine callsIn_wide.2 ((Any.Builder_copyCheck_used Pn HX b w (c0 _ h3)).mono ?_)
   rintro e w' ⟨rfl,rfl⟩
   exact⟨_,.aL [],[.cU 1 n,.row 5 1 us],η,rfl,⟨rfl,rfl⟩,ub (q:=0) (b:=b) (o':=.cU 1 n) aR rfl True.intro True.intro h0 rfl ⟨rfl,rfl,rfl,alA _,fun _ _ _=>rfl⟩ rfl
    (fun cA=>⟨b,_,rfl,h1,h2,.inr h3,u,h4,h5.ext cA⟩) (.aL [] #[] rfl fun j y u hy _=>by cases hy)⟩
theorem sJ {us:List AV} {s:ByteArray} (h:us.length+s.size<=140737488355328) (bu:s.size≠0):bH Tryz.prog 124 [.ptr 0 0,nS s] [.cU 1 us.length,.row 5 1 us]
  (fun r hp'=>r=.aL [nI s.size,.ae (.nilIface)]/\hp'=[.cU 1 (us++bh s).length,.row 5 1 (us++bh s)]):=
 Pm ⟨_,n8,fun r q ⟨h1,h2⟩=>⟨us,⟨h1,h2⟩,rfl,h,by rw[alz,eM];omega,rfl,rfl⟩⟩
theorem Wg:Builder.Extra Tryz.prog EO:={ HX with t5:=Tryz.underlying5,a5:=Tryz.isAgg5,z5:=Tryz.sizeOf5,v5:=Tryz.zeroValue5,infoByte:=by kernel_rfl,cellsByte:=by kernel_rfl,sizeByte:=by kernel_rfl,neB5:=by decide }
set_option maxHeartbeats 1000000 in
set_option maxRecDepth 100000 in
theorem Ar {P:Program} {ρ:Ren} (L:Lays.n169 P ρ) (X:Builder.Extra P ρ) {b g cap hi:Nat} {cur vs:Array Value} {l:List UInt8} {w:World} (pG:w.heap[b]?=some (.cells vs (ρ.t 72) (0,0)))
  (hvs:vs[1]?=some (.slice (some ⟨g,0,none⟩) l.length cap)) (hg:w.heap[g]?=some (.cells cur (ρ.t 5) (0,hi))) (Dp:l.length<=cap) (G5:cap<=maxLen) (fO:cur.size=cap*1) (kR:cur.toList.take (l.length*1)=Lib.byteCells l) (h0:l≠[]):
  Calls P (ρ.f 169) #[.pointer (some ⟨b,0,none⟩)] w fun e w'=>e=.returned (.string ⟨l.toArray⟩)/\w'=w.drew.freeze ⟨g,0,none⟩ l.length:=by
 have Jt:l.length≠0:=by simpa using h0
 have c1:w.drew.cell? ⟨b,1,none⟩=some (.slice (some ⟨g,0,none⟩) l.length cap):=by
  have:w.drew.heap[b]?=some (.cells vs (ρ.t 72) (0,0)):=pG;rw[Lib.cell_of_heap this];exact hvs
 have hSD:(Builtin.unsafeSliceData_ #[(ρ.t 37)] (ρ.t 127) #[.slice (some ⟨g,0,none⟩) l.length cap]).run P w.drew=.ok (.pointer (some ⟨g,0,none⟩)) w.drew:=
  Lib.run_unsafeSliceData_row _ _ _ _ _ _ (by omega)
 have hUS:(Builtin.unsafeString_ #[(ρ.t 127),(ρ.t 3)] (ρ.t 9) #[.pointer (some ⟨g,0,none⟩),.int .i64 l.length]).run P w.drew=.ok (.string ⟨l.toArray⟩) (w.drew.freeze ⟨g,0,none⟩ l.length):=by
  refine Lib.run_unsafeString_row w.drew (ρ.t 127) (ρ.t 3) (ρ.t 9) (ρ.t 5) L.t127 X.cellsByte g cur.size (by have Dh:w.drew.heap[g]?=some (.cells cur (ρ.t 5) (0,hi)):=hg;simp[World.shape?,Dh]) l h0 (by omega) (by unfold maxLen at G5;omega) ?_;intro j x hx;have hj:j<l.length:=(alu.1 hx).1;have e1:(cur.toList.take (l.length*1))[j]?=some (.int .u8 x.toNat):=by rw[kR];simp[Lib.byteCells,hx]
  rw[List.getElem?_take_of_lt (by omega)] at e1;have Dh:w.drew.heap[g]?=some (.cells cur (ρ.t 5) (0,hi)):=hg;rw[Addr.add_lit,Lib.cell_of_heap Dh];simpa using e1
 have mixed:=L.mixed;have t72:=L.t72;have a72:=L.a72;have z72:=L.z72;have v72:=L.v72;have u72:=run_underlying L.t72;have t70:=L.t70;have a70:=L.a70;have z70:=L.z70;have v70:=L.v70;have u70:=run_underlying L.t70;have t37:=L.t37;have a37:=L.a37;have z37:=L.z37;have v37:=L.v37;have u37:=run_underlying L.t37;have t127:=L.t127;have a127:=L.a127;have z127:=L.z127;have v127:=L.v127;have ahf:=run_underlying L.t127;have t3:=L.t3;have a3:=L.a3;have z3:=L.z3;have v3:=L.v3;have u3:=run_underlying L.t3;have t9:=L.t9;have a9:=L.a9;have z9:=L.z9;have v9:=L.v9;have u9:=run_underlying L.t9;have t5:=X.t5;have a5:=X.a5;have z5:=X.z5;have v5:=X.v5;have u5:=run_underlying X.t5
 go_enter L.f169,Body.n169_ntmps ρ
 go_wp2
 go_region_o
 all_goals (go_wp2;go_ret;exact⟨rfl,rfl⟩)
set_option maxHeartbeats 2000000 in
set_option maxRecDepth 100000 in
theorem xX {P:Program} {ρ:Ren} (L:Lays.n169 P ρ) (X:Builder.Extra P ρ) {b:Nat} {vs:Array Value} {w:World} (pG:w.heap[b]?=some (.cells vs (ρ.t 72) (0,0))) (hvs:vs[1]?=some (.slice none 0 0)):
  Calls P (ρ.f 169) #[.pointer (some ⟨b,0,none⟩)] w fun e w'=>e=.returned (.string ⟨#[]⟩)/\w'=w.drew:=by
 have hUS:=Any.unsafeString_none L X;have c1:w.drew.cell? ⟨b,1,none⟩=some (.slice none 0 0):=by
  have:w.drew.heap[b]?=some (.cells vs (ρ.t 72) (0,0)):=pG;rw[Lib.cell_of_heap this];exact hvs
 have hSD:(Builtin.unsafeSliceData_ #[(ρ.t 37)] (ρ.t 127) #[.slice none 0 0]).run P w.drew=.ok (.pointer none) w.drew:=rfl;have mixed:=L.mixed;have t72:=L.t72;have a72:=L.a72;have z72:=L.z72;have v72:=L.v72;have u72:=run_underlying L.t72;have t70:=L.t70;have a70:=L.a70;have z70:=L.z70;have v70:=L.v70;have u70:=run_underlying L.t70;have t37:=L.t37;have a37:=L.a37;have z37:=L.z37;have v37:=L.v37;have u37:=run_underlying L.t37;have t127:=L.t127;have a127:=L.a127;have z127:=L.z127;have v127:=L.v127;have ahf:=run_underlying L.t127;have t3:=L.t3;have a3:=L.a3;have z3:=L.z3;have v3:=L.v3;have u3:=run_underlying L.t3;have t9:=L.t9;have a9:=L.a9;have z9:=L.z9;have v9:=L.v9;have u9:=run_underlying L.t9;have t5:=X.t5;have a5:=X.a5;have z5:=X.z5;have v5:=X.v5;have u5:=run_underlying X.t5
 go_enter L.f169,Body.n169_ntmps ρ
 go_wp2
 go_region_o
 all_goals (go_wp2;go_ret;exact⟨rfl,rfl⟩)
theorem lh {w:World} {g n k:Nat} (h:k≠g):(w.freeze ⟨g,0,none⟩ n).heap[k]?=w.heap[k]?:=by
 unfold World.freeze;split
 ·rfl
 ·simp only[ane];rw[if_neg (am5 h)]
theorem FF {w:World} {g n b o:Nat} {cur:Array Value} {T:TypeId} {z:Nat×Nat} (hg:w.heap[g]?=some (.cells cur T z)):(w.freeze ⟨g,0,none⟩ n).cell? ⟨b,o,none⟩=w.cell? ⟨b,o,none⟩:=by
 by_cases h:b=g
 ·subst h;unfold World.freeze;split
  ·rfl
  ·simp[World.cell?,ane,hg]
 ·simp only[World.cell?,lh h]
theorem Ir {w:World} {g n hi:Nat} {cur:Array Value} {T:TypeId} (hg:w.heap[g]?=some (.cells cur T (0,hi))) (hn:n≠0) (h:hi<=n):(w.freeze ⟨g,0,none⟩ n).heap[g]?=some (.cells cur T (0,n)):=by
 unfold World.freeze;rw[if_neg hn];simp only[ane,if_true,hg,al7]
 congr 2
 by_cases h0:hi=0
 ·subst h0;simp
 ·have:(0==hi)=false:=by simp;omega
  rw[this];simp;omega
theorem u6 (w:World) (a:Addr) (n:Nat):(w.freeze a n).os=w.os/\(w.freeze a n).tape=w.tape/\(w.freeze a n).output=w.output/\(w.freeze a n).heap.size=w.heap.size:=by
 unfold World.freeze;split
 ·exact⟨rfl,rfl,rfl,rfl⟩
 ·exact⟨rfl,rfl,rfl,by simp⟩
theorem KQ {P:Program} {w:World} {F:Nat->Nat->Prop} {η:List Value} {hp:List af} {q:Nat} {s:ByteArray} {u:Value} (aR:kE w F η hp) (hq:hp[q]?=some (.row 5 1 (bh s))) (dR:η[q]?=some u) (h:s.size≠0):
  s.data.toList≠[]/\(bh s).length=s.data.toList.length/\∃g cap cur hi,u=.slice (some ⟨g,0,none⟩) (bh s).length cap/\0<cap/\hi<=(bh s).length/\w.heap[g]?=some (.cells cur 5 (0,hi))/\(bh s).length<=cap/\cap<=maxLen/\cur.size=cap*1/\cur.toList.take ((bh s).length*1)=Lib.byteCells s.data.toList:=by
 obtain⟨_,xs,⟨g0,g1⟩,g2⟩:=aR.heap.obj q _ _ hq dR;have hlen:(bh s).length=s.data.toList.length:=by unfold bh;exact alv _
 have Sv:xs=Lib.byteCells s.data.toList:=by
  refine ams fun i=>?_
  cases hs:s.data.toList[i]? with
  |none=>
   have:s.data.toList.length<=i:=List.getElem?_eq_none_iff.1 hs;rw[al0 (by rw[g0,hlen];omega),al0 (by rw[Lib.byteCells_length];exact this)]
  |some c=>
   obtain⟨u,k1,k2,_⟩:=(g2 i (.ae (.int .u8 c.toNat)) (by simp[bh,hs])).2 0 _ rfl;have k3:xs[i]?=some u:=by simpa using k1
   rw[k3];cases k2;simp[Lib.byteCells,hs]
 have bu:s.data.toList≠[]:=fun e=>h (by rw[<-eM,hlen,e];rfl);rcases g1 with⟨g1,_⟩|⟨g,cap,cur,rfl,k0,⟨hi,kh,k1⟩,k2,k3,k4,k5⟩
 ·exact(h (by rw[<-eM];exact g1)).elim
 ·exact⟨bu,hlen,g,cap,cur,hi,rfl,k0,by omega,k1,k2,k3,k4,by rw[k5];exact Sv⟩
theorem Wh {s:ByteArray}:bH Tryz.prog 128 [.ptr 0 0] [.cU 1 (bh s).length,.row 5 1 (bh s)] (fun r hp'=>r=nS s/\hp'=[.dead,.dead]):=by
 refine⟨⟨_,Tryz.func128,by kernel_rfl,by kernel_rfl⟩,fun w F η bb aR hv=>?_⟩
 match bb,hv with
 | [v0],⟨r0,_⟩=>
  obtain⟨b,rfl,h0⟩:=Cy r0;obtain⟨b',vs,e1,h1,h2,h3,u,h4,h5⟩:=aR.heap.obj 0 _ _ rfl h0;cases e1
  by_cases h:s.size=0
  ·have hz:bh s=[]:=al1 (by rw[eM];exact h);have hs:s=⟨#[]⟩:=by
    obtain⟨d⟩:=s;have:d.size=0:=h;rw[anb this]
   refine callsIn_wide.2 ((xX BV Wg (b:=b) h1 (h2.2 (by rw[hz];rfl))).mono ?_)
   rintro e w' ⟨rfl,rfl⟩
   refine⟨_,nS s,[.dead,.dead],η,rfl,⟨rfl,rfl⟩,xW (w':=w.drew) (hp':=[.dead,.dead]) aR ⟨rfl,rfl,rfl,alA _,fun _ _ _=>rfl⟩ (fun _ _ _ _ hc=>hc) (fun _ _ _ _ hc=>hc) rfl (fun r o e=>?_) fun F'=>by rw[hs];exact .ae (.string ⟨#[]⟩)⟩
   match r,e with
   |0,e=>exact(alw e).symm
   |1,e=>exact(alw e).symm
  have h6:η[1]?=some u:=by cases h5 with|own _ _ _ _ ho=>exact ho.2 rfl
  obtain⟨bu,hlen,g,cap,cur,hi,rfl,k0,kh,k1,k2,k3,k4,k5⟩:=KQ (P:=Tryz.prog) (q:=1) aR rfl h6 h;rw[hlen] at h4 k2 k5 h6;refine callsIn_wide.2 ((Ar BV Wg (b:=b) (g:=g) (cap:=cap) (cur:=cur) (l:=s.data.toList) h1 h4 k1 k2 k3 k4 k5 bu).mono ?_)
  rintro e w' ⟨rfl,rfl⟩
  have Tv:aG η [.cU 1 (bh s).length,.row 5 1 (bh s)] g:=⟨1,_,_,rfl,True.intro,h6,bp k0⟩;obtain⟨f1,f2,f3,f4⟩:=u6 w.drew ⟨g,0,none⟩ s.data.toList.length;refine⟨_,nS s,[.dead,.dead],η,rfl,⟨rfl,rfl⟩,xW aR ⟨f1,f2,f3,by rw[f4];exact alA _,fun k _ hk=>?_⟩ (fun b o u _ hc=>?_) (fun b es c _ hc=>?_) rfl (fun r o e=>?_) fun F'=>?_⟩
  ·exact lh (w:=w.drew) fun e=>hk (e▸Tv)
  ·rw[FF (w:=w.drew) (cur:=cur) k1];exact hc
  ·have:b≠g:=fun e=>by rw[e] at hc;rw[hc] at k1;cases k1
   rw[lh (w:=w.drew) this];exact hc
  ·match r,e with
   |0,e=>exact(alw e).symm
   |1,e=>exact(alw e).symm
  ·exact .ae _
theorem FG {s:ByteArray}:bH Tryz.prog 128 [.ptr 0 0] [.cU 1 (bh s).length,.row 5 1 (bh s)] (fun r hp'=>r=nS s/\hp'=[.cU 1 (bh s).length,.row 5 1 (bh s)]):=by
 refine⟨⟨_,Tryz.func128,by kernel_rfl,by kernel_rfl⟩,fun w F η bb aR hv=>?_⟩
 match bb,hv with
 | [v0],⟨r0,_⟩=>
  obtain⟨b,rfl,h0⟩:=Cy r0;obtain⟨b',vs,e1,h1,h2,h3,u,h4,h5⟩:=aR.heap.obj 0 _ _ rfl h0;cases e1
  by_cases h:s.size=0
  ·have hz:bh s=[]:=al1 (by rw[eM];exact h);have hs:s=⟨#[]⟩:=by
    obtain⟨d⟩:=s;have:d.size=0:=h;rw[anb this]
   refine callsIn_wide.2 ((xX BV Wg (b:=b) h1 (h2.2 (by rw[hz];rfl))).mono ?_)
   rintro e w' ⟨rfl,rfl⟩
   refine⟨_,nS s,[.cU 1 (bh s).length,.row 5 1 (bh s)],η,rfl,⟨rfl,rfl⟩,ub (w':=w.drew) (q:=0) (b:=b) (o':=.cU 1 (bh s).length) aR rfl True.intro True.intro h0 rfl ⟨rfl,rfl,rfl,alA _,fun _ _ _=>rfl⟩ rfl
    (fun cA=>⟨b,_,rfl,h1,h2,h3,u,h4,h5.ext cA⟩) (by rw[hs];exact .ae (.string ⟨#[]⟩))⟩
  have h6:η[1]?=some u:=by cases h5 with|own _ _ _ _ ho=>exact ho.2 rfl
  obtain⟨bu,hlen,g,cap,cur,hi,rfl,k0,kh,k1,k2,k3,k4,k5⟩:=KQ (P:=Tryz.prog) (q:=1) aR rfl h6 h;have h4':=h4;have k5':=k5;rw[hlen] at h4' k5';refine callsIn_wide.2 ((Ar BV Wg (b:=b) (g:=g) (cap:=cap) (cur:=cur) (l:=s.data.toList) h1 h4' k1 (hlen▸k2) k3 k4 k5' bu).mono ?_)
  rintro e w' ⟨rfl,rfl⟩
  obtain⟨f1,f2,f3,f4⟩:=u6 w.drew ⟨g,0,none⟩ s.data.toList.length;have hbg:b≠g:=fun e=>aR.heap.sep 0 1 _ _ _ _ g (by decide) rfl rfl True.intro True.intro h0 h6 (by rw[e];rfl) (bp k0);exact⟨_,nS s,_,η,rfl,⟨rfl,rfl⟩,L6 (q:=1) aR rfl h6 k0 k1 (Ir (w:=w.drew) k1 (by rw[<-hlen,eM];exact h) (hlen▸kh)) (by rw[hlen];omega) ⟨f1,f2,f3,f4⟩ (fun k hk=>lh (w:=w.drew) hk) (.ae _)⟩
end
abbrev bl (us:List AV):List af:=[.cU 1 us.length,.row 5 1 us]
theorem Zy {n:Int}:dc (.aL [nI n,.ae .nilIface]) (.aL [nI n,.top]):=fun w F η hp v h=>by
 cases h with
 |aL cs vs hl hr=>
  refine .aL _ vs hl fun j x u hx hu=>?_
  match j,hx with
  |0,hx=>exact hr 0 x u hx hu
  |1,hx=>cases hx;exact .top _
theorem Rv {us:List AV} {s:ByteArray} (bu:s.size≠0) (h:us.length+s.size<=140737488355328):bH Tryz.prog 124 [.ptr 0 0,nS s] (bl us)
  (fun r hp'=>r=.aL [nI s.size,.top]/\hp'=bl (us++bh s)):=
 (sJ h bu).res fun r h' ⟨h1,h2⟩=>⟨_,h1▸Zy,rfl,h2⟩
mutual
def Ty.fL (most:Nat):Nat->Ty->Nat
 |d,.mk l _=>(match d with
  |0=>most+1
  |d+1=>Ty.fq most d 1 l)
def Ty.fq (most:Nat):Nat->Nat->List Ty->Nat
 |_,n,[]=>n
 |d,n,t::l=>if n<=most then Ty.fq most d (n+Ty.fL most d t) l else n
end
theorem Ty.gi (most:Nat) (t:Ty):Ty.fL most 0 t=most+1:=by cases t;rfl
theorem Ty.gj (most d:Nat) (t:Ty):Ty.fL most (d+1) t=Ty.fq most d 1 t.args:=by cases t;rfl
theorem Ty.uc {most d n:Nat} {l:List Ty} {k:Nat} (h:k<l.length):Ty.fq most d n (l.drop k)=if n<=most then Ty.fq most d (n+Ty.fL most d l[k]) (l.drop (k+1)) else n:=by
 rw[alC h,Ty.fq]
theorem Ty.sK {most d:Nat} (h:∀t:Ty,Ty.fL most d t<=(d+1)*(most+1)):∀(l:List Ty) (n:Nat),n<=(d+2)*(most+1)->Ty.fq most d n l<=(d+2)*(most+1)
 | [],n,hn=>hn
 |t::l,n,hn=>by
  rw[Ty.fq];split
  ·refine Ty.sK h l _ ?_;have:=h t;have e:(d+2)*(most+1)=(d+1)*(most+1)+(most+1):=by rw[amu,amu];omega
   omega
  ·exact hn
theorem Ty.xY (most:Nat):∀(d:Nat) (t:Ty),Ty.fL most d t<=(d+1)*(most+1)
 |0,t=>by rw[Ty.gi];omega
 |d+1,t=>by
  rw[Ty.gj];refine Ty.sK (Ty.xY most d) _ _ ?_;have:1*1<=(d+2)*(most+1):=am1 (by omega) (by omega);omega
theorem Ty.iP (most d:Nat):∀(l:List Ty) (n:Nat),n<=Ty.fq most d n l
 | [],n=>alA _
 |t::l,n=>by
  rw[Ty.fq];split
  ·exact amf (by omega) (Ty.iP most d l _)
  ·exact alA _
theorem Ty.Cz (most:Nat):∀(d:Nat) (t:Ty),1<=Ty.fL most d t
 |0,t=>by rw[Ty.gi];omega
 |d+1,t=>by rw[Ty.gj];exact Ty.iP _ _ _ _
theorem Ty.mE {most d:Nat} (h:∀t:Ty,Ty.fL most d t<=most->t.size=Ty.fL most d t):∀(l:List Ty) (n:Nat),Ty.fq most d n l<=most->Ty.fq most d n l=n+Ty.sizes l
 | [],n,_=>rfl
 |t::l,n,hn=>by
  rw[Ty.fq] at hn ⊢;split
  ·rename_i hc;rw[if_pos hc] at hn;rw[Ty.mE h l _ hn];have:=Ty.iP most d l (n+Ty.fL most d t);rw[Ty.sizes,h t (by omega)];omega
  ·rename_i hc;rw[if_neg hc] at hn;omega
theorem Ty.jf (most:Nat):∀(d:Nat) (t:Ty),Ty.fL most d t<=most->t.size=Ty.fL most d t
 |0,t,h=>by rw[Ty.gi] at h;omega
 |d+1,t,h=>by
  rw[Ty.gj] at h ⊢;rw[Ty.mE (Ty.jf most d) _ _ h,t.size_eq]
theorem XN {d m:Nat} (hd:d<=1000) (hm:m<=1000):(d+1)*(m+1)<=1002001:=am1 (show d+1<=1001 by omega) (show m+1<=1001 by omega)
theorem FH {most:Nat} (u7:most<=1000):∀(d:Nat) (t:Ty),d<=999->ag Tryz.prog 90 [t.enc,nI most,nI d] (nI (Ty.fL most d t:Nat)):=by
 intro d
 induction d with
 |zero=>
  intro t _;rw[Ty.aC,Ty.gi];refine Kk (ah.pos (by decide) ?_);rw[aA (by omega)]
 |succ d ih=>
  intro t hd;rw[Ty.aC,Ty.gj];refine Kk (ah.neg (decide_eq_false (by omega)) ?_);refine av.intro (fun p:Nat×Nat=>(((most:Int),((d+1:Nat):Int),(),(p.2:Int),(p.1:Int),()),((t.args.map Ty.enc,t.base,()),())))
   (fun p=>p.1<=t.args.length/\p.1+1<=p.2/\p.2<=(d+2)*(most+1)/\Ty.fq most d 1 t.args=Ty.fq most d p.2 (t.args.drop p.1)) (fun p=>t.args.length-p.1) (0,1) rfl
   ⟨alE _,alA _,by have:1*1<=(d+2)*(most+1):=am1 (by omega) (by omega);dsimp only;omega,rfl⟩ ?_
  intro ⟨k,n⟩ ⟨hk,hkn,hn,hs⟩ again bw;dsimp only at hk hkn hn hs ⊢;have hbd:(d+2)*(most+1)<=1002001:=XN (d:=d+1) (m:=most) (by omega) u7;rw[alv];refine ah.intro (fun h=>?_) fun h=>?_
  ·have ak:k<t.args.length:=by simpa using h
   rw[Ty.uc ak] at hs;refine ah.intro (fun h=>?_) fun h=>?_
   ·have hm:n<=most:=by simpa using h
    rw[if_pos hm] at hs;have hi:=ih t.args[k] (by omega);have hb:=Ty.xY most d t.args[k];have hp:=Ty.Cz most d t.args[k];rw[Ty.aC] at hi;refine⟨by omega,by omega,_,_,Ty.aq ak,(Ty.fL most d t.args[k]:Nat),?_,?_⟩
    ·rw[bV (n:=((d+1:Nat):Int)-1) (by omega) (by omega),show ((d+1:Nat):Int)-1=(d:Int) from by omega];exact hi
    ·have e:(d+2)*(most+1)=(d+1)*(most+1)+(most+1):=by rw[amu,amu];omega
     rw[aA (by omega),bV (n:=(n:Int)+(Ty.fL most d t.args[k]:Nat)) (by omega) (by omega),show (n:Int)+(Ty.fL most d t.args[k]:Nat)=((n+Ty.fL most d t.args[k]:Nat):Int) from by omega];exact bw (k+1,n+Ty.fL most d t.args[k]) ⟨by dsimp only;omega,by dsimp only;omega,by dsimp only;omega,hs⟩ (by dsimp only;omega)
   ·have hm:¬n<=most:=by simpa using h
    rw[if_neg hm] at hs;rw[hs]
  ·have:t.args.length<=k:=by simpa using h
   rw[alD this] at hs;rw[hs];rfl
def Ty.iu (most d:Nat) (t:Ty):Bool:=decide (Ty.fL most d t<=most)
theorem Ty.gD {most d:Nat} {t:Ty} (h:Ty.iu most d t=true):t.size<=most:=by
 have h':Ty.fL most d t<=most:=by simpa [Ty.iu] using h
 rw[Ty.jf most d t h'];exact h'
theorem o9 {most d:Nat} {t:Ty} (u7:most<=1000) (hd:d<=999):ag Tryz.prog 54 [t.enc,nI most,nI d] (nB (Ty.iu most d t)):=by
 have h:=FH u7 d t hd;rw[Ty.aC] at h ⊢;refine Uc ⟨_,h,?_⟩;simp only[Ty.iu,Int.ofNat_le]
theorem CA:∀(n:Nat) (t:Ty),t.size<=n->n<=1000000000->ag Tryz.prog 71 [t.enc] (nI (t.size:Nat)):=by
 intro n
 induction n with
 |zero=>intro t h;have:=t.size_pos;omega
 |succ n ih=>
  intro t h hn;have hq:=Ty.aw t.args;have pU:=t.size_eq;rw[Ty.aC];refine Ua ?_;unfold acg Kj;refine av.intro (fun k:Nat=>(((),((1+Ty.sizes (t.args.take k):Nat):Int),(k:Int),()),((t.args.map Ty.enc,t.base,()),())))
   (fun k=>k<=t.args.length) (fun k=>t.args.length-k) 0 (by simp[Ty.sizes]) (alE _) ?_
  intro k hk again bw;dsimp only;rw[alv];refine ah.intro (fun h=>?_) fun h=>?_
  ·have ak:k<t.args.length:=by simpa using h
   have hi:=ih t.args[k] (by have:=Ty.bY ak;omega) (by omega);have FI:Ty.sizes (t.args.take (k+1))=Ty.sizes (t.args.take k)+t.args[k].size:=by
    rw[<-cY ak,Ty.bQ];simp[Ty.sizes]
   have hle:Ty.sizes (t.args.take (k+1))<=Ty.sizes t.args:=by
    have e:=Ty.bQ (t.args.take (k+1)) (t.args.drop (k+1));rw[amk] at e;omega
   rw[Ty.aC] at hi;refine⟨by omega,by omega,_,_,Ty.aq ak,_,hi,?_⟩;rw[aA (by omega),bV (n:=((1+Ty.sizes (t.args.take k):Nat):Int)+(t.args[k].size:Nat)) (by omega) (by omega),
    show ((1+Ty.sizes (t.args.take k):Nat):Int)+(t.args[k].size:Nat)=((1+Ty.sizes (t.args.take (k+1)):Nat):Int) from by omega]
   exact bw (k+1) (by omega) (by omega)
  ·have:t.args.length<=k:=by simpa using h
   rw[alI this,<-t.size_eq]
def pa (most d:Nat):Nat->List Ty->Option Nat
 |n,[]=>some n
 |n,t::l=>if n<=most then(if Ty.fL most d t<=most then pa most d (n+t.size) l else none) else some n
mutual
def Tm.fL (most:Nat):Nat->Tm->Nat
 |d,.mk b _ _ a=>(match d with
  |0=>most+1
  |d+1=>(match pa most (d+1) 1 b with
   |none=>most+1
   |some n=>Tm.fq most d n a))
def Tm.fq (most:Nat):Nat->Nat->List Tm->Nat
 |_,n,[]=>n
 |d,n,t::l=>if n<=most then Tm.fq most d (n+Tm.fL most d t) l else n
end
theorem Tm.gi (most:Nat) (t:Tm):Tm.fL most 0 t=most+1:=by cases t;rfl
theorem Tm.gj (most d:Nat) (t:Tm):Tm.fL most (d+1) t=(match pa most (d+1) 1 t.binds with
   |none=>most+1
   |some n=>Tm.fq most d n t.args):=by cases t;rfl
theorem Tm.uc {most d n:Nat} {l:List Tm} {k:Nat} (h:k<l.length):Tm.fq most d n (l.drop k)=if n<=most then Tm.fq most d (n+Tm.fL most d l[k]) (l.drop (k+1)) else n:=by
 rw[alC h,Tm.fq]
theorem Is {most d n:Nat} {l:List Ty} {k:Nat} (h:k<l.length):pa most d n (l.drop k)=if n<=most then(if Ty.fL most d l[k]<=most then pa most d (n+l[k].size) (l.drop (k+1)) else none) else some n:=by
 rw[alC h,pa]
theorem sL {most d:Nat}:∀{l:List Ty} {n m:Nat},pa most d n l=some m->n<=2*most+1->n<=m/\m<=2*most+1/\(m<=most->m=n+Ty.sizes l)
 | [],n,m,h,hn=>by
  simp only[pa,als] at h;subst h;exact⟨alA _,hn,fun _=>rfl⟩
 |t::l,n,m,h,hn=>by
  rw[pa] at h;split at h
  ·split at h
   ·rename_i h1 h2;have bN:=Ty.jf most d t h2;obtain⟨g1,g2,g3⟩:=sL h (by omega);refine⟨by omega,g2,fun hm=>?_⟩;rw[g3 hm,Ty.sizes];omega
   ·cases h
  ·rename_i h1;obtain rfl:=alw h;exact⟨alA _,hn,fun hm=>(h1 hm).elim⟩
theorem Tm.sK {most d:Nat} (h:∀t:Tm,Tm.fL most d t<=(d+2)*(most+1)):∀(l:List Tm) (n:Nat),n<=(d+3)*(most+1)->Tm.fq most d n l<=(d+3)*(most+1)
 | [],n,hn=>hn
 |t::l,n,hn=>by
  rw[Tm.fq];split
  ·refine Tm.sK h l _ ?_;have:=h t;have e:(d+3)*(most+1)=(d+2)*(most+1)+(most+1):=by rw[amu,amu];omega
   omega
  ·exact hn
theorem Tm.xY (most:Nat):∀(d:Nat) (t:Tm),Tm.fL most d t<=(d+2)*(most+1)
 |0,t=>by rw[Tm.gi];omega
 |d+1,t=>by
  rw[Tm.gj];split
  ·show most+1<=(d+1+2)*(most+1);have:1*(most+1)<=(d+1+2)*(most+1):=am1 (by omega) (alA _);rw[anz] at this;exact this
  ·rename_i n hn;refine Tm.sK (Tm.xY most d) _ _ ?_;have:=(sL hn (by omega)).2.1;have:2*(most+1)<=(d+3)*(most+1):=am1 (by omega) (alA _);omega
theorem Tm.iP (most d:Nat):∀(l:List Tm) (n:Nat),n<=Tm.fq most d n l
 | [],n=>alA _
 |t::l,n=>by
  rw[Tm.fq];split
  ·exact amf (by omega) (Tm.iP most d l _)
  ·exact alA _
theorem Tm.Cz (most:Nat):∀(d:Nat) (t:Tm),1<=Tm.fL most d t
 |0,t=>by rw[Tm.gi];omega
 |d+1,t=>by
  rw[Tm.gj];split
  ·show 1<=most+1;omega
  ·rename_i n hn;exact amf (sL hn (by omega)).1 (Tm.iP _ _ _ _)
theorem Tm.mE {most d:Nat} (h:∀t:Tm,Tm.fL most d t<=most->t.size=Tm.fL most d t):∀(l:List Tm) (n:Nat),Tm.fq most d n l<=most->Tm.fq most d n l=n+Tm.sizes l
 | [],n,_=>rfl
 |t::l,n,hn=>by
  rw[Tm.fq] at hn ⊢;split
  ·rename_i hc;rw[if_pos hc] at hn;rw[Tm.mE h l _ hn];have:=Tm.iP most d l (n+Tm.fL most d t);rw[Tm.sizes,h t (by omega)];omega
  ·rename_i hc;rw[if_neg hc] at hn;omega
theorem Tm.jf (most:Nat):∀(d:Nat) (t:Tm),Tm.fL most d t<=most->t.size=Tm.fL most d t
 |0,t,h=>by rw[Tm.gi] at h;omega
 |d+1,t,h=>by
  rw[Tm.gj] at h ⊢;split
  ·rename_i hn;rw[hn] at h;simp only at h;omega
  ·rename_i n hn;rw[hn] at h;simp only at h;have h1:=Tm.iP most d t.args n;rw[Tm.mE (Tm.jf most d) _ _ h,t.size_eq,(sL hn (by omega)).2.2 (by omega)]
theorem FJ {most:Nat} (u7:most<=1000):∀(d:Nat) (t:Tm),d<=900->ag Tryz.prog 34 [t.enc,nI most,nI d] (nI (Tm.fL most d t:Nat)):=by
 intro d
 induction d with
 |zero=>
  intro t _;rw[Tm.aC,Tm.gi];refine Kl (ah.pos (by decide) ?_);rw[aA (by omega)]
 |succ d ih=>
  intro t hd;rw[Tm.aC,Tm.gj];have hbd:(d+3)*(most+1)<=1002001:=XN (d:=d+2) (m:=most) (by omega) u7;have h2:2*(most+1)<=(d+3)*(most+1):=am1 (by omega) (alA _);have args:∀n:Nat,1<=n->n<=2*most+1->xI (((most:Int),((d+1:Nat):Int),(),(n:Int),0,()),((t.binds.map Ty.enc,t.kind,t.index,t.args.map Tm.enc,()),())) (fun x=>x=nI (Tm.fq most d n t.args:Nat)):=by
   intro n Yu hn2;refine av.intro (fun p:Nat×Nat=>(((most:Int),((d+1:Nat):Int),(),(p.2:Int),(p.1:Int),()),((t.binds.map Ty.enc,t.kind,t.index,t.args.map Tm.enc,()),())))
    (fun p=>p.1<=t.args.length/\p.1+1<=p.2/\p.2<=(d+3)*(most+1)/\Tm.fq most d n t.args=Tm.fq most d p.2 (t.args.drop p.1)) (fun p=>t.args.length-p.1) (0,n) rfl
    ⟨alE _,by dsimp only;omega,by dsimp only;omega,rfl⟩ ?_
   intro ⟨k,m⟩ ⟨hk,hkn,Bb,hs⟩ again bw;dsimp only at hk hkn Bb hs ⊢;rw[alv];refine ah.intro (fun h=>?_) fun h=>?_
   ·have ak:k<t.args.length:=by simpa using h
    rw[Tm.uc ak] at hs;refine ah.intro (fun h=>?_) fun h=>?_
    ·have hm:m<=most:=by simpa using h
     rw[if_pos hm] at hs;have hi:=ih t.args[k] (by omega);have hb:=Tm.xY most d t.args[k];have hp:=Tm.Cz most d t.args[k];rw[Tm.aC] at hi;refine⟨by omega,by omega,_,_,_,_,Tm.aq ak,(Tm.fL most d t.args[k]:Nat),?_,?_⟩
     ·rw[bV (n:=((d+1:Nat):Int)-1) (by omega) (by omega),show ((d+1:Nat):Int)-1=(d:Int) from by omega];exact hi
     ·have e:(d+3)*(most+1)=(d+2)*(most+1)+(most+1):=by rw[amu,amu];omega
      rw[aA (by omega),bV (n:=(m:Int)+(Tm.fL most d t.args[k]:Nat)) (by omega) (by omega),show (m:Int)+(Tm.fL most d t.args[k]:Nat)=((m+Tm.fL most d t.args[k]:Nat):Int) from by omega];exact bw (k+1,m+Tm.fL most d t.args[k]) ⟨by dsimp only;omega,by dsimp only;omega,by dsimp only;omega,hs⟩ (by dsimp only;omega)
    ·have hm:¬m<=most:=by simpa using h
     rw[if_neg hm] at hs;rw[hs]
   ·have:t.args.length<=k:=by simpa using h
    rw[alD this] at hs;rw[hs];rfl
  refine Kl (ah.neg (decide_eq_false (by omega)) ?_);refine av.intro (fun p:Nat×Nat=>(((most:Int),((d+1:Nat):Int),(),(p.2:Int),(p.1:Int),()),((t.binds.map Ty.enc,t.kind,t.index,t.args.map Tm.enc,()),())))
   (fun p=>p.1<=t.binds.length/\p.1+1<=p.2/\p.2<=2*most+1/\pa most (d+1) 1 t.binds=pa most (d+1) p.2 (t.binds.drop p.1)) (fun p=>t.binds.length-p.1) (0,1) rfl
   ⟨alE _,alA _,by dsimp only;omega,rfl⟩ ?_
  intro ⟨k,n⟩ ⟨hk,hkn,hn,hs⟩ again bw;dsimp only at hk hkn hn hs ⊢;rw[alv];refine ah.intro (fun h=>?_) fun h=>?_
  ·have ak:k<t.binds.length:=by simpa using h
   rw[Is ak] at hs;refine ah.intro (fun h=>?_) fun h=>?_
   ·have hm:n<=most:=by simpa using h
    rw[if_pos hm] at hs;have hi:=o9 (most:=most) (d:=d+1) (t:=t.binds[k]) u7 (by omega);rw[Ty.aC] at hi;refine⟨by omega,by omega,_,_,Ty.aq ak,_,hi,ah.intro (fun h=>?_) fun h=>?_⟩
    ·have hf:¬Ty.fL most (d+1) t.binds[k]<=most:=by simpa [Ty.iu] using h
     rw[if_neg hf] at hs;rw[hs,aA (by omega)]
    ·have hf:Ty.fL most (d+1) t.binds[k]<=most:=by simpa [Ty.iu] using h
     rw[if_pos hf] at hs;have bN:=Ty.jf most (d+1) _ hf;have hz:=CA _ t.binds[k] (alA _) (by omega);have hp:=t.binds[k].size_pos;rw[Ty.aC] at hz;refine⟨by omega,by omega,_,_,Ty.aq ak,_,hz,?_⟩;rw[aA (by omega),bV (n:=(n:Int)+(t.binds[k].size:Nat)) (by omega) (by omega),show (n:Int)+(t.binds[k].size:Nat)=((n+t.binds[k].size:Nat):Int) from by omega];exact bw (k+1,n+t.binds[k].size) ⟨by dsimp only;omega,by dsimp only;omega,by dsimp only;omega,hs⟩ (by dsimp only;omega)
   ·have hm:¬n<=most:=by simpa using h
    rw[if_neg hm] at hs;rw[hs];exact args n (by omega) (by omega)
  ·have:t.binds.length<=k:=by simpa using h
   rw[alD this] at hs;rw[hs];exact args n (by omega) (by omega)
def Tm.iu (most d:Nat) (t:Tm):Bool:=decide (Tm.fL most d t<=most)
theorem Tm.gD {most d:Nat} {t:Tm} (h:Tm.iu most d t=true):t.size<=most:=by
 have h':Tm.fL most d t<=most:=by simpa [Tm.iu] using h
 rw[Tm.jf most d t h'];exact h'
theorem FK {most d:Nat} {t:Tm} (u7:most<=1000) (hd:d<=900):ag Tryz.prog 8 [t.enc,nI most,nI d] (nB (Tm.iu most d t)):=by
 have h:=FJ u7 d t hd;rw[Tm.aC] at h ⊢;refine Zd ⟨_,h,?_⟩;simp only[Tm.iu,Int.ofNat_le]
theorem L7 {l:List Tm} (hl:l.length<=1000000000):ag Tryz.prog 32 [.sl (l.map Tm.enc)] (nB (l.all (Tm.iu 150 70))):=by
 refine Uf ?_;unfold ach;refine av.intro (fun k:Nat=>((l.map Tm.enc,(k:Int),()),())) (fun k=>k<=l.length/\l.all (Tm.iu 150 70)=(l.drop k).all (Tm.iu 150 70)) (fun k=>l.length-k) 0 rfl ⟨alE _,rfl⟩ ?_;intro k ⟨hk,hs⟩ again bw;dsimp only;rw[alv];refine ah.intro (fun h=>?_) fun h=>?_
 ·have ak:k<l.length:=by simpa using h
  rw[alC ak,amj] at hs;have hi:=FK (most:=150) (d:=70) (t:=l[k]) (by decide) (by decide);rw[Tm.aC] at hi;refine⟨by omega,by omega,_,_,_,_,Tm.aq ak,_,hi,ah.intro (fun h=>?_) fun h=>?_⟩
  ·have:Tm.iu 150 70 l[k]=false:=by simpa using h
   rw[hs,this,alP]
  ·have:Tm.iu 150 70 l[k]=true:=by simpa using h
   rw[this,alN] at hs;rw[aA (by omega)];exact bw (k+1) ⟨by omega,hs⟩ (by omega)
 ·have:l.length<=k:=by simpa using h
  rw[alD this] at hs;rw[hs];rfl
mutual
def Tm.low:Tm->Bool
 | .mk _ k i a=>!(k==0&&decide (i>900000))&&Tm.pf a
def Tm.pf:List Tm->Bool
 | []=>true
 |t::l=>Tm.low t&&Tm.pf l
end
theorem Tm.Zz (t:Tm):Tm.low t=(!(t.kind==0&&decide (t.index>900000))&&Tm.pf t.args):=by cases t;rfl
theorem Tm.L8 {l:List Tm} {k:Nat} (h:k<l.length):Tm.pf (l.drop k)=(Tm.low l[k]&&Tm.pf (l.drop (k+1))):=by
 rw[alC h,Tm.pf]
theorem L9:∀(n:Nat) (l:List Tm),Tm.sizes l<=n->n<=1000000000->ag Tryz.prog 33 [.sl (l.map Tm.enc)] (nB (Tm.pf l)):=by
 intro n
 induction n with
 |zero=>
  intro l h hn
  cases l with
  |nil=>
   refine Km ?_;unfold Ze;refine av.intro (fun _:Unit=>(([],0,()),())) (fun _=>True) (fun _=>0) () rfl True.intro ?_;intro _ _ again bw;exact ah.neg rfl rfl
  |cons t l=>have:=t.size_pos;simp[Tm.sizes] at h;omega
 |succ n ih=>
  intro l h hn;have hq:=Tm.aw l;refine Km ?_;unfold Ze;refine av.intro (fun k:Nat=>((l.map Tm.enc,(k:Int),()),())) (fun k=>k<=l.length/\Tm.pf l=Tm.pf (l.drop k)) (fun k=>l.length-k) 0 rfl ⟨alE _,rfl⟩ ?_;intro k ⟨hk,hs⟩ again bw;dsimp only;rw[alv];refine ah.intro (fun h'=>?_) fun h'=>?_
  ·have ak:k<l.length:=by simpa using h'
   rw[Tm.L8 ak,Tm.Zz] at hs;have bN:=Tm.aK (alG ak);have hi:=ih l[k].args (by have:=l[k].size_eq;omega) (by omega);have rest:(l[k].kind==0&&decide (l[k].index>900000))=false->ah (!(Tm.pf l[k].args)) (nB false=nB (Tm.pf l)) (again ((l.map Tm.enc,IntKind.wrap .i64 ((k:Int)+1),()),())):=by
    intro hc;rw[hc,Bool.not_false,alN] at hs;refine ah.intro (fun h=>?_) fun h=>?_
    ·have:Tm.pf l[k].args=false:=by simpa using h
     rw[hs,this,alP]
    ·have:Tm.pf l[k].args=true:=by simpa using h
     rw[this,alN] at hs;rw[aA (by omega)];exact bw (k+1) ⟨by omega,hs⟩ (by omega)
   refine⟨by omega,by omega,_,_,_,_,Tm.aq ak,ah.intro (fun h=>?_) fun h=>?_⟩
   ·refine⟨by omega,by omega,_,_,_,_,Tm.aq ak,ah.intro (fun h2=>?_) fun h2=>?_⟩
    ·rw[h,h2] at hs;rw[hs];rfl
    ·exact⟨by omega,by omega,_,_,_,_,Tm.aq ak,_,hi,rest (by rw[h,h2];rfl)⟩
   ·exact⟨by omega,by omega,_,_,_,_,Tm.aq ak,_,hi,rest (by rw[h];rfl)⟩
  ·have:l.length<=k:=by simpa using h'
   rw[alD this] at hs;rw[hs];rfl
def jt (c m b:List Ty):Bool:=decide (c.length<=20/\m.length<=20/\b.length<=20)&&(c++m++b).all (Ty.iu 60 60)
theorem lj (n:Int) (c m b:List Ty):ag Tryz.prog 22 [.agg [nI n,.sl (c.map Ty.enc),.sl (m.map Ty.enc)],.sl (b.map Ty.enc)] (nB (jt c m b)):=by
 refine Ui ?_;unfold aci;rw[alv,alv,alv];refine ah.intro (fun h=>?_) fun h=>?_
 ·have h':¬c.length<=20:=by simp at h;omega
  rw[jt,decide_eq_false (fun x=>h' x.1),alP]
 have hc:c.length<=20:=by simp at h;omega
 refine ah.intro (fun h=>?_) fun h=>?_
 ·have h':¬m.length<=20:=by simp at h;omega
  rw[jt,decide_eq_false (fun x=>h' x.2.1),alP]
 have hm:m.length<=20:=by simp at h;omega
 refine ah.intro (fun h=>?_) fun h=>?_
 ·have h':¬b.length<=20:=by simp at h;omega
  rw[jt,decide_eq_false (fun x=>h' x.2.2),alP]
 have hb:b.length<=20:=by simp at h;omega
 have hsb:jt c m b=(c++m++b).all (Ty.iu 60 60):=by rw[jt,decide_eq_true ⟨hc,hm,hb⟩,alN]
 refine⟨_,il (by omega) (by omega),_,il (by simp;omega) (by omega),?_⟩;have hlen:(c++m++b).length<=60:=by simp;omega
 rw[hsb];generalize c++m++b=l at hlen;refine av.intro (fun k:Nat=>((l.map Ty.enc,(k:Int),()),((n,c.map Ty.enc,m.map Ty.enc,()),()))) (fun k=>k<=l.length/\l.all (Ty.iu 60 60)=(l.drop k).all (Ty.iu 60 60)) (fun k=>l.length-k) 0 rfl ⟨alE _,rfl⟩ ?_;intro k ⟨hk,hs⟩ again bw;dsimp only;rw[alv];refine ah.intro (fun h=>?_) fun h=>?_
 ·have ak:k<l.length:=by simpa using h
  rw[alC ak,amj] at hs;have hi:=o9 (most:=60) (d:=60) (t:=l[k]) (by decide) (by decide);rw[Ty.aC] at hi;refine⟨by omega,by omega,_,_,Ty.aq ak,_,hi,ah.intro (fun h=>?_) fun h=>?_⟩
  ·have:Ty.iu 60 60 l[k]=false:=by simpa using h
   rw[hs,this,alP]
  ·have:Ty.iu 60 60 l[k]=true:=by simpa using h
   rw[this,alN] at hs;rw[aA (by omega)];exact bw (k+1) ⟨by omega,hs⟩ (by omega)
 ·have:l.length<=k:=by simpa using h
  rw[alD this] at hs;rw[hs];rfl
inductive Rw where
 |mk (kind:Int) (type:Ty) (index:Int) (kids:List Rw)
mutual
def Rw.size:Rw->Nat
 | .mk _ _ _ l=>1+Rw.sizes l
def Rw.sizes:List Rw->Nat
 | []=>0
 |t::l=>Rw.size t+Rw.sizes l
end
def Rw.kids:Rw->List Rw | .mk _ _ _ l=>l
theorem Rw.size_eq (r:Rw):r.size=1+Rw.sizes r.kids:=by cases r;rfl
theorem Ma {t:Ty} (h:t.size<=900000000):ag Tryz.prog 132 [.agg [.sl (t.args.map Ty.enc),nI t.base],.sl []] (.agg [.sl (t.args.map Ty.enc),nI t.base]):=by
 have:=jd (t:=t) (l:=[]) (by simp only[Ty.sizes];omega);rw[Ty.arrow,amq,Ty.eta,Ty.aC] at this;exact this
mutual
def Ty.pre (d:Nat):Ty->List (Nat×Ty)
 | .mk l b=>(d,.mk l b)::Ty.fH (d+1) l
def Ty.fH (d:Nat):List Ty->List (Nat×Ty)
 | []=>[]
 |t::l=>Ty.pre d t++Ty.fH d l
end
theorem Ty.It (d:Nat) (t:Ty):t.pre d=(d,t)::Ty.fH (d+1) t.args:=by cases t;rfl
theorem Ty.ud {d:Nat} {l:List Ty} {k:Nat} (h:k<l.length):Ty.fH d (l.drop k)=l[k].pre d++Ty.fH d (l.drop (k+1)):=by
 rw[alC h,Ty.fH]
mutual
theorem Ty.pW:∀(d:Nat) (t:Ty),(t.pre d).length=t.size
 |d,.mk l b=>by rw[Ty.pre,alJ,Ty.pg (d+1) l,Ty.size];omega
theorem Ty.pg:∀(d:Nat) (l:List Ty),(Ty.fH d l).length=Ty.sizes l
 |d,[]=>rfl
 |d,t::l=>by rw[Ty.fH,alz,Ty.pW d t,Ty.pg d l,Ty.sizes]
end
def Rx (p:Nat×Ty):List AV:=[nI p.1,.agg [.sl (p.2.args.map Ty.enc),nI p.2.base]]
def Wi (p:Nat×Ty):Int×(List AV×Int×Unit)×Unit:=(p.1,(p.2.args.map Ty.enc,p.2.base,()),())
theorem FL:∀(n:Nat) (t:Ty) (d:Nat),t.size<=n->d+n<=1000000000->zi Tryz.prog 197 (fun v=>[.agg [.sl (t.args.map Ty.enc),nI t.base],nI d,v]) ((t.pre d).map Rx) true:=by
 intro n
 induction n with
 |zero=>intro t d h;have:=t.size_pos;omega
 |succ n ih=>
  intro t d h hn;have hq:=Ty.aw t.args;have pU:=t.size_eq;refine Ps fun yv more=>⟨rfl,(Ty.fH (d+1) t.args).map Rx++more,by rw[Ty.It];rfl,fun b=>ah.intro (fun h=>?_) fun h=>?_⟩
  ·have:b=false:=by simpa using h
   subst this;rfl
  ·have:b=true:=by simpa using h
   subst this;refine av.intro (fun k:Nat=>((((d:Int),yv,t.args.map Ty.enc,(t.args.length:Int),(k:Int),()),((t.args.map Ty.enc,t.base,()),())),some ((Ty.fH (d+1) (t.args.drop k)).map Rx++more))) (fun k=>k<=t.args.length) (fun k=>t.args.length-k) 0 (by rw[alv];rfl) (alE _) ?_;intro k hk again bw;dsimp only;rw[alv];refine ah.intro (fun h=>?_) fun h=>?_
   ·have ak:k<t.args.length:=by simpa using h
    have hi:=ih t.args[k] (d+1) (by have:=Ty.bY ak;omega) (by omega);refine⟨by omega,by omega,_,_,Ty.aq ak,_,_,(Ty.fH (d+1) (t.args.drop (k+1))).map Rx++more,?_,hi,?_,fun b=>ah.intro (fun h=>?_) fun h=>?_⟩
    ·rw[aA (by omega)]
    ·rw[Ty.ud ak,ama,alU]
    ·have:b=false:=by simpa using h
     subst this;rfl
    ·have:b=true:=by simpa using h
     subst this;rw[aA (by omega)];exact bw (k+1) (by omega) (by omega)
   ·have:t.args.length<=k:=by simpa using h
    rw[alD this];rfl
theorem CB {t:Ty} (h:t.size<=500000000):zi Tryz.prog 196 (fun v=>[v,.aS (.agg [.sl (t.args.map Ty.enc),nI t.base]) 0]) ((t.pre 1).map Rx) false:=
 Pq fun yv more=>⟨_,_,more,rfl,FL _ t 1 (alA _) (by omega),rfl,fun b=>⟨b,rfl⟩⟩
theorem FM (t:Ty):ag Tryz.prog 177 [.agg [.sl (t.args.map Ty.enc),nI t.base]] (.aY 196 [.aS (.agg [.sl (t.args.map Ty.enc),nI t.base]) 0]):=Pw rfl
theorem Mb {t:Ty} (h:t.size<=500000000):uQ Tryz.prog 196 [.aS (.agg [.sl (t.args.map Ty.enc),nI t.base]) 0] [.v (.c (.i .i64)),.v (.a [.l,.i .i64])] ((t.pre 1).map Wi):=
 EP (prm:=[.v (.c (.i .i64)),.v (.a [.l,.i .i64])]) Wi (CB h)
def sM (bq:Int) (p:Nat×Ty):Bool:=decide (p.1<=60)&&(decide (0<=p.2.base)&&decide (p.2.base<bq))
def xZ (bq:Int):Nat->List (Nat×Ty)->Bool
 |_,[]=>true
 |n,p::l=>if p.1>60\/n+1>1000\/p.2.base<0\/p.2.base>=bq then false else xZ bq (n+1) l
theorem FN (bq:Int):∀(l:List (Nat×Ty)) (n:Nat),n<=1000->xZ bq n l=(decide (n+l.length<=1000)&&l.all (sM bq))
 | [],n,hn=>by simp[xZ,hn]
 |p::l,n,hn=>by
  rw[xZ];split
  ·rename_i hc;symm;rw[Bool.and_eq_false_iff]
   by_cases h1:n+1>1000
   ·left;rw[decide_eq_false];rw[alJ];omega
   ·right;rw[amj];have:sM bq p=false:=by
     unfold sM;rw[Bool.and_eq_false_iff,Bool.and_eq_false_iff];rcases hc with hc|hc|hc|hc
     ·left;exact decide_eq_false (by omega)
     ·omega
     ·right;left;exact decide_eq_false (by omega)
     ·right;right;exact decide_eq_false (by omega)
    rw[this,alP]
  ·rename_i hc;simp only[not_or] at hc;obtain⟨h1,h2,h3,h4⟩:=hc;have hg:sM bq p=true:=by
    unfold sM;rw[decide_eq_true (by omega),decide_eq_true (by omega),decide_eq_true (by omega)];rfl
   rw[FN bq l (n+1) (by omega),amj,hg,alN,alJ,show n+1+l.length=n+(l.length+1) from by omega]
def Ty.bK (bq:Int) (t:Ty):Bool:=decide (t.size<=1000)&&(t.pre 1).all (sM bq)
theorem CC {t:Ty} {bq:Int} (h:t.size<=500000000):ag Tryz.prog 143 [.agg [.sl (t.args.map Ty.enc),nI t.base],nI bq] (nB (t.bK bq)):=by
 refine Py ⟨FM t,?_⟩;have hr:t.bK bq=xZ bq 0 (t.pre 1):=by rw[FN bq _ 0 (by omega),Ty.pW,Ty.bK,al2]
 refine nn.HY (fun n:Nat=>((t.args.map Ty.enc,t.base,()),(bq,()),(false,()),((n:Int),()),())) Wi (t.pre 1) (Mb h) (fun r n=>n+r.length=t.size/\t.bK bq=xZ bq n r) 0 rfl ⟨by rw[Ty.pW];omega,hr⟩ (fun p r n ⟨hI,hk⟩ again bw=>?_) fun n ⟨hI,hk⟩=>?_
 ·rw[alJ] at hI;rw[xZ] at hk;dsimp only[Wi];rw[aA (by omega)];refine ah.intro (fun h1=>?_) fun h1=>ah.intro (fun h2=>?_) fun h2=>ah.intro (fun h3=>?_) fun h3=>ah.intro (fun h4=>?_) fun h4=>?_
  ·have:p.1>60:=by simp at h1;omega
   rw[if_pos (.inl this)] at hk;rw[hk]
  ·have:n+1>1000:=by simp at h2;omega
   rw[if_pos (.inr (.inl this))] at hk;rw[hk]
  ·have:p.2.base<0:=of_decide_eq_true h3;rw[if_pos (.inr (.inr (.inl this)))] at hk;rw[hk]
  ·have:p.2.base>=bq:=by simpa using h4
   rw[if_pos (.inr (.inr (.inr this)))] at hk;rw[hk]
  ·have g1:¬p.1>60:=by simp at h1;omega
   have g2:¬n+1>1000:=by simp at h2;omega
   have g3:¬p.2.base<0:=of_decide_eq_false h3;have g4:¬p.2.base>=bq:=by simpa using h4
   rw[if_neg (by simp only[not_or];exact⟨g1,g2,g3,g4⟩)] at hk;exact bw (n+1) ⟨by omega,hk⟩
 ·rw[hk];rfl
mutual
def Ty.zt (bq:Int):Ty->Bool
 | .mk l b=>(decide (0<=b)&&decide (b<bq))&&Ty.qE bq l
def Ty.qE (bq:Int):List Ty->Bool
 | []=>true
 |t::l=>Ty.zt bq t&&Ty.qE bq l
end
theorem Ty.Wj (bq:Int) (t:Ty):t.zt bq=((decide (0<=t.base)&&decide (t.base<bq))&&Ty.qE bq t.args):=by cases t;rfl
theorem Ty.Iu {bq:Int} {l:List Ty} {k:Nat} (h:k<l.length):Ty.qE bq (l.drop k)=(l[k].zt bq&&Ty.qE bq (l.drop (k+1))):=by
 rw[alC h,Ty.qE]
theorem Iv:∀(n:Nat) (t:Ty) (bq:Int),t.size<=n->n<=1000000000->ag Tryz.prog 183 [.agg [.sl (t.args.map Ty.enc),nI t.base],nI bq] (nB (t.zt bq)):=by
 intro n
 induction n with
 |zero=>intro t b h;have:=t.size_pos;omega
 |succ n ih=>
  intro t bq h hn;have hq:=Ty.aw t.args;have pU:=t.size_eq;rw[Ty.Wj];refine PK (ah.intro (fun h=>?_) fun h1=>ah.intro (fun h=>?_) fun h2=>?_)
  ·have:¬0<=t.base:=by simpa using h
   rw[decide_eq_false this];rfl
  ·have:¬t.base<bq:=by simpa using h
   rw[decide_eq_false this,amH];rfl
  ·have g1:0<=t.base:=by simpa using h1
   have g2:t.base<bq:=by simpa using h2
   rw[decide_eq_true g1,decide_eq_true g2,alN,alN];refine av.intro (fun k:Nat=>((bq,(),(k:Int),()),((t.args.map Ty.enc,t.base,()),()))) (fun k=>k<=t.args.length/\Ty.qE bq t.args=Ty.qE bq (t.args.drop k)) (fun k=>t.args.length-k) 0 rfl ⟨alE _,rfl⟩ ?_;intro k ⟨hk,hs⟩ again bw;dsimp only;rw[alv];refine ah.intro (fun h=>?_) fun h=>?_
   ·have ak:k<t.args.length:=by simpa using h
    rw[Ty.Iu ak] at hs;have hi:=ih t.args[k] bq (by have:=Ty.bY ak;omega) (by omega);refine⟨by omega,by omega,_,_,Ty.aq ak,_,hi,ah.intro (fun h=>?_) fun h=>?_⟩
    ·have:t.args[k].zt bq=false:=by simpa using h
     rw[hs,this,alP]
    ·have:t.args[k].zt bq=true:=by simpa using h
     rw[this,alN] at hs;rw[aA (by omega)];exact bw (k+1) ⟨by omega,hs⟩ (by omega)
   ·have:t.args.length<=k:=by simpa using h
    rw[alD this] at hs;rw[hs];rfl
mutual
def Ty.flat:Nat->Ty->Bool
 |d,.mk l _=>(match d with
  |0=>false
  |d+1=>Ty.va d l)
def Ty.va:Nat->List Ty->Bool
 |_,[]=>true
 |d,t::l=>Ty.flat d t&&Ty.va d l
end
theorem Ty.As (t:Ty):Ty.flat 0 t=false:=by cases t;rfl
theorem Ty.Au (d:Nat) (t:Ty):Ty.flat (d+1) t=Ty.va d t.args:=by cases t;rfl
theorem Ty.KR {most d:Nat} (h:∀t:Ty,Ty.fL most d t<=most↔(Ty.flat d t=true/\t.size<=most)):∀(l:List Ty) (n:Nat),n<=most->(Ty.fq most d n l<=most↔(Ty.va d l=true/\n+Ty.sizes l<=most))
 | [],n,hn=>by simp[Ty.fq,Ty.va,Ty.sizes]
 |t::l,n,hn=>by
  rw[Ty.fq,if_pos hn,Ty.va,Ty.sizes,alB]
  by_cases hf:Ty.fL most d t<=most
  ·have hz:=Ty.jf most d t hf;have hd:=(h t).1 hf
   by_cases hs:n+Ty.fL most d t<=most
   ·rw[Ty.KR h l _ hs,<-hz];constructor
    ·rintro⟨h1,h2⟩;exact⟨⟨hd.1,h1⟩,by omega⟩
    ·rintro⟨⟨_,h1⟩,h2⟩;exact⟨h1,by omega⟩
   ·have:=Ty.iP most d l (n+Ty.fL most d t);constructor
    ·intro h;omega
    ·rintro⟨_,h2⟩;omega
  ·have:=Ty.iP most d l (n+Ty.fL most d t);constructor
   ·intro h;omega
   ·rintro⟨⟨h1,_⟩,h2⟩;exact(hf ((h t).2 ⟨h1,by omega⟩)).elim
theorem Ty.Ry (most:Nat) (h0:1<=most):∀(d:Nat) (t:Ty),Ty.fL most d t<=most↔(Ty.flat d t=true/\t.size<=most)
 |0,t=>by rw[Ty.gi,Ty.As];simp
 |d+1,t=>by rw[Ty.gj,Ty.Au,Ty.KR (Ty.Ry most h0 d) _ _ h0,t.size_eq]
mutual
theorem Ty.FO (bq:Int):∀(t:Ty) (d:Nat),d<=61->(t.pre d).all (sM bq)=(Ty.flat (61-d) t&&t.zt bq)
 | .mk l b,d,hd=>by
  rw[Ty.pre,amj,Ty.zt,sM];simp only[Ty.base]
  by_cases h:d=61
  ·subst h;rw[show 61-61=0 from rfl,Ty.As,decide_eq_false (by omega)];rfl
  ·rw[decide_eq_true (by omega:d<=60),show 61-d=(61-(d+1))+1 from by omega,Ty.Au,alN,Ty.Av bq l (d+1) (by omega)];simp only[Ty.args];rw[amE];simp only[alB,decide_eq_true_eq];exact⟨fun⟨⟨h1,h2⟩,h3,h4⟩=>⟨h3,⟨of_decide_eq_true h1,of_decide_eq_true h2⟩,h4⟩,fun⟨h3,⟨h1,h2⟩,h4⟩=>⟨⟨decide_eq_true h1,decide_eq_true h2⟩,h3,h4⟩⟩
theorem Ty.Av (bq:Int):∀(l:List Ty) (d:Nat),d<=61->(Ty.fH d l).all (sM bq)=(Ty.va (61-d) l&&Ty.qE bq l)
 | [],d,hd=>rfl
 |t::l,d,hd=>by
  rw[Ty.fH,List.all_append,Ty.FO bq t d hd,Ty.Av bq l d hd,Ty.va,Ty.qE]
  cases Ty.flat (61-d) t<;>cases Ty.zt bq t<;>simp
end
theorem qF {t:Ty} {bq:Int} (h:t.size<=500000000):ag Tryz.prog 150 [.agg [.sl (t.args.map Ty.enc),nI t.base],nI bq] (nB (t.bK bq)):=by
 have h1:=o9 (most:=1000) (d:=60) (t:=t) (by omega) (by omega);have h2:=Iv _ t bq (alA _) (by omega);rw[Ty.aC] at h1;have e:t.bK bq=(Ty.iu 1000 60 t&&t.zt bq):=by
  rw[Ty.bK,Ty.FO bq t 1 (by omega),Ty.iu,<-Bool.and_assoc]
  congr 1
  rw[amE,alB,decide_eq_true_eq,decide_eq_true_eq,Ty.Ry 1000 (by omega)];exact And.comm
 refine PG ⟨_,h1,ah.intro (fun h=>⟨_,h2,?_⟩) fun h=>?_⟩
 ·rw[e,h,alN]
 ·rw[e,h,alP]
def dE (c m x:List Ty) (k i:Int):Option Ty:=
 if i<0 then none else if k=0 then(if i<x.length then x[x.length-1-i.toNat]? else none) else if k=1 then c[i.toNat]? else if k=2 then m[i.toNat]? else none
def FP:Option Ty->AV
 |some t=>.aL [.agg [.sl (t.args.map Ty.enc),nI t.base],nB true]
 |none=>.aL [.agg [.sl [],nI 0],nB false]
theorem iJ {l:List Ty} {n:Nat} (h:n<l.length):List.getD (l.map Ty.enc) n .top=.agg [.sl (l[n].args.map Ty.enc),nI l[n].base]:=by
 have:=Ty.aq h;simpa using this
def adn (b:Int) (c m:List Ty):AV:=.agg [nI b,.sl (c.map Ty.enc),.sl (m.map Ty.enc)]
theorem ph {b:Int} {c m x:List Ty} {k i:Int} (hi:jm i) (hx:x.length<=1000000000):ag Tryz.prog 145 [.agg [nI b,.sl (c.map Ty.enc),.sl (m.map Ty.enc)],.sl (x.map Ty.enc),.agg [nI k,nI i]] (FP (dE c m x k i)):=by
 unfold jm at hi;refine Pz ?_;unfold XD dE;simp only[alv];refine ah.intro (fun h1=>?_) fun h1=>?_
 ·have e1:k=1:=by simpa using h1
  refine ah.intro (fun h=>?_) fun h2=>ah.intro (fun h=>?_) fun h3=>?_
  ·have:i<0:=by simpa using h
   rw[if_pos this];rfl
  ·have G1:¬i<0:=by simpa using h2
   have SI:(c.length:Int)<=i:=by simpa using h
   rw[if_neg G1,if_neg (by omega),if_pos e1,al0 (by omega)];rfl
  ·have G1:¬i<0:=by simpa using h2
   have SI:i<(c.length:Int):=by simpa using h3
   have ak:i.toNat<c.length:=by omega
   refine⟨by omega,by omega,_,_,iJ ak,?_⟩;rw[if_neg G1,if_neg (by omega),if_pos e1,aly ak];rfl
 have n1:¬k=1:=by simpa using h1
 refine ah.intro (fun h4=>?_) fun h4=>?_
 ·have e2:k=2:=by simpa using h4
  refine ah.intro (fun h=>?_) fun h2=>ah.intro (fun h=>?_) fun h3=>?_
  ·have:i<0:=by simpa using h
   rw[if_pos this];rfl
  ·have G1:¬i<0:=by simpa using h2
   have SI:(m.length:Int)<=i:=by simpa using h
   rw[if_neg G1,if_neg (by omega),if_neg n1,if_pos e2,al0 (by omega)];rfl
  ·have G1:¬i<0:=by simpa using h2
   have SI:i<(m.length:Int):=by simpa using h3
   have ak:i.toNat<m.length:=by omega
   refine⟨by omega,by omega,_,_,iJ ak,?_⟩;rw[if_neg G1,if_neg (by omega),if_neg n1,if_pos e2,aly ak];rfl
 have n2:¬k=2:=by simpa using h4
 refine ah.intro (fun h5=>?_) fun h5=>?_
 ·have e0:k=0:=by simpa using h5
  refine ah.intro (fun h=>?_) fun h2=>?_
  ·have:i<0:=by simpa using h
   rw[if_pos this];rfl
  have G1:¬i<0:=by simpa using h2
  rw[bV (n:=(x.length:Int)-1) (by omega) (by omega),bV (by omega) (by omega)];refine ah.intro (fun h=>?_) fun h3=>ah.intro (fun h=>?_) fun h6=>?_
  ·have SI:(x.length:Int)-1-i<0:=by simpa using h
   rw[if_neg G1,if_pos e0,if_neg (by omega)];rfl
  ·have SI:(x.length:Int)-1-i>=x.length:=by simpa using h
   omega
  ·have SI:¬(x.length:Int)-1-i<0:=by simpa using h3
   have ak:x.length-1-i.toNat<x.length:=by omega
   refine⟨by omega,by omega,_,_,by rw[show Int.toNat ((x.length:Int)-1-i)=x.length-1-i.toNat from by omega];exact iJ ak,?_⟩;rw[if_neg G1,if_pos e0,if_pos (by omega),aly ak];rfl
 ·have n0:¬k=0:=by simpa using h5
  rw[if_neg n0,if_neg n1,if_neg n2]
  split<;>rfl
theorem n9 {b:Int} {c m x:List Ty} {k i:Int} (hi:jm i) (hx:x.length<=1000000000):ag Tryz.prog 153 [.agg [nI b,.sl (c.map Ty.enc),.sl (m.map Ty.enc)],.sl (x.map Ty.enc),.agg [nI k,nI i]] (FP (dE c m x k i)):=by
 unfold jm at hi;refine PF ?_;unfold XE;simp only[alv];refine ah.intro (fun h=>?_) fun h0=>?_
 ·have:i<0:=by simpa using h
  rw[dE,if_pos this];rfl
 have h0':¬i<0:=by simpa using h0
 have cst:k=1->i<c.length->0<=i/\i<c.length/\∃(l:List AV) (j:Int),List.getD (c.map Ty.enc) (Int.toNat i) .top=.agg [.sl l,nI j]/\(AV.aL [.agg [.sl l,nI j],nB true])=FP (dE c m x k i):=by
  intro hk hl;have ak:i.toNat<c.length:=by omega
  refine⟨by omega,hl,_,_,iJ ak,?_⟩;rw[dE,if_neg h0',if_neg (by omega),if_pos hk,aly ak];rfl
 have met:k=2->i<m.length->0<=i/\i<m.length/\∃(l:List AV) (j:Int),List.getD (m.map Ty.enc) (Int.toNat i) .top=.agg [.sl l,nI j]/\(AV.aL [.agg [.sl l,nI j],nB true])=FP (dE c m x k i):=by
  intro hk hl;have ak:i.toNat<m.length:=by omega
  refine⟨by omega,hl,_,_,iJ ak,?_⟩;rw[dE,if_neg h0',if_neg (by omega),if_neg (by omega),if_pos hk,aly ak];rfl
 have non:(k=0->¬i<x.length)->(k=1->¬i<c.length)->(k=2->¬i<m.length)->(AV.aL [.agg [.sl [],nI 0],nB false])=FP (dE c m x k i):=by
  intro a1 a2 a3;rw[dE,if_neg h0']
  by_cases e0:k=0
  ·rw[if_pos e0,if_neg (a1 e0)];rfl
  rw[if_neg e0]
  by_cases e1:k=1
  ·rw[if_pos e1,al0 (by have:=a2 e1;omega)];rfl
  rw[if_neg e1]
  by_cases e2:k=2
  ·rw[if_pos e2,al0 (by have:=a3 e2;omega)];rfl
  rw[if_neg e2];rfl
 refine ah.intro (fun h1=>?_) fun h1=>?_
 ·have e0:k=0:=by simpa using h1
  refine ah.intro (fun h2=>?_) fun h2=>?_
  ·have G1:i<x.length:=by simpa using h2
   have ak:x.length-1-i.toNat<x.length:=by omega
   rw[bV (n:=(x.length:Int)-1) (by omega) (by omega),bV (by omega) (by omega)];refine⟨by omega,by omega,_,_,by rw[show Int.toNat ((x.length:Int)-1-i)=x.length-1-i.toNat from by omega];exact iJ ak,?_⟩;rw[dE,if_neg h0',if_pos e0,if_pos G1,aly ak];rfl
  ·have G1:¬i<x.length:=by simpa using h2
   refine ah.neg (by simp;omega) (ah.neg (by simp;omega) (non (fun _=>G1) (by omega) (by omega)))
 ·have n0:¬k=0:=by simpa using h1
  refine ah.intro (fun h2=>?_) fun h2=>?_
  ·have e1:k=1:=by simpa using h2
   refine ah.intro (fun h3=>cst e1 (by simpa using h3)) fun h3=>?_;have SI:¬i<c.length:=by simpa using h3
   exact ah.neg (by simp;omega) (non (by omega) (fun _=>SI) (by omega))
  ·have n1:¬k=1:=by simpa using h2
   refine ah.intro (fun h3=>?_) fun h3=>?_
   ·have e2:k=2:=by simpa using h3
    refine ah.intro (fun h4=>met e2 (by simpa using h4)) fun h4=>?_;have h4':¬i<m.length:=by simpa using h4
    exact non (by omega) (by omega) (fun _=>h4')
   ·have n2:¬k=2:=by simpa using h3
    exact non (by omega) (by omega) (by omega)
theorem x5 {c m x:List Ty} {k i:Int} {t:Ty} (h:dE c m x k i=some t):t∈x\/t∈c\/t∈m:=by
 unfold dE at h;split at h
 ·cases h
 split at h
 ·split at h
  ·exact .inl (alF h)
  ·cases h
 split at h
 ·exact .inr (.inl (alF h))
 split at h
 ·exact .inr (.inr (alF h))
 ·cases h
theorem FQ {b:Int} {c m:List Ty} (hc:Ty.sizes c<=500000000) (hm:Ty.sizes m<=500000000):ag Tryz.prog 23 [adn b c m] (adn b c m):=
 Uo ⟨_,lf (by omega),_,lf (by omega),rfl⟩
abbrev noT:Ty:=.mk [] 0
def ado (p:Ty×Int):AV:=.aL [.agg [.sl (p.1.args.map Ty.enc),nI p.1.base],nI p.2]
theorem sN {x l:List Ty} (h:x.length+l.length<=1000000000):ag Tryz.prog 146 [.sl (x.map Ty.enc),.sl (l.map Ty.enc)] (.sl ((x++l).map Ty.enc)):=by
 have hc:=jI (ll:=[x,l]) (by simp) (by simp;omega);simp only[eZ,al3,aml,List.flatten_cons,List.flatten_nil,alV] at hc;exact PA ⟨_,hc,rfl⟩
theorem nx {b:Int} {l:List Ty} (h:Ty.sizes l<=500000000):ag Tryz.prog 35 [nI b,.sl (l.map Ty.enc)] (.agg [.sl (l.map Ty.enc),nI b]):=by
 have hc:=nu _ (.mk l b) (alA _) (by simp only[Ty.size];omega);rw[Ty.dD] at hc;exact Kn ⟨_,_,hc,rfl⟩
def Tm.Aw (c m x:List Ty) (t:Tm):Ty×Int:=match dE c m (x++t.binds) t.kind t.index with
 |some h=>(.mk t.binds h.base,0)
 |none=>(noT,10)
theorem CD {b:Int} {c m x:List Ty} {t:Tm} (ax:t.Ok) (hx:x.length+t.size<=500000000):ag Tryz.prog 93 [.agg [nI b,.sl (c.map Ty.enc),.sl (m.map Ty.enc)],.sl (x.map Ty.enc),.agg [.sl (t.binds.map Ty.enc),nI t.kind,nI t.index,.sl (t.args.map Tm.enc)]] (ado (t.Aw c m x)):=by
 have pU:=t.size_eq;have hq:=Ty.aw t.binds;have hi:jm t.index:=by cases t;exact ax.2.1
 have hh:=ph (b:=b) (c:=c) (m:=m) (x:=x++t.binds) (k:=t.kind) hi (by rw[alz];omega);refine Up ⟨_,sN (by omega),?_⟩;rw[Tm.Aw]
 cases ht:dE c m (x++t.binds) t.kind t.index with
 |none=>
  rw[ht] at hh;exact⟨_,_,_,hh,ah.pos rfl rfl⟩
 |some u=>
  rw[ht] at hh;exact⟨_,_,_,hh,ah.neg rfl ⟨_,_,nx (by omega),rfl⟩⟩
mutual
def Tm.FR (c m x:List Ty):Tm->Ty->Bool
 | .mk b k i l,of=>Ty.bA b of.args&&(match dE c m (x++b) k i with
  |some h=>(h.base==of.base)&&((h.args.length==l.length)&&Tm.zu c m (x++b) l h.args)
  |none=>false)
def Tm.zu (c m x:List Ty):List Tm->List Ty->Bool
 |t::l,u::us=>Tm.FR c m x t u&&Tm.zu c m x l us
 |_,_=>true
end
theorem Tm.Rz (c m x:List Ty) (t:Tm) (of:Ty):t.FR c m x of=(Ty.bA t.binds of.args&&(match dE c m (x++t.binds) t.kind t.index with
  |some h=>(h.base==of.base)&&((h.args.length==t.args.length)&&Tm.zu c m (x++t.binds) t.args h.args)
  |none=>false)):=by cases t;rw[Tm.FR];rfl
theorem Tm.Ax {c m x:List Ty} {l:List Tm} {us:List Ty} {k:Nat} (h1:k<l.length) (h2:k<us.length):Tm.zu c m x (l.drop k) (us.drop k)=(Tm.FR c m x l[k] us[k]&&Tm.zu c m x (l.drop (k+1)) (us.drop (k+1))):=by
 rw[alC h1,alC h2,Tm.zu]
theorem RA {b:Int} {c m:List Ty} (hc:∀t∈c,t.size<=200000000) (hm:∀t∈m,t.size<=200000000):∀(n:Nat) (t:Tm) (of:Ty) (x:List Ty),t.size<=n->t.Ok->(∀u∈x,u.size<=200000000)->x.length+t.size<=200000000->of.size<=200000000->
  ag Tryz.prog 147 [.agg [nI b,.sl (c.map Ty.enc),.sl (m.map Ty.enc)],.sl (x.map Ty.enc),.agg [.sl (t.binds.map Ty.enc),nI t.kind,nI t.index,.sl (t.args.map Tm.enc)],.agg [.sl (of.args.map Ty.enc),nI of.base]] (nB (t.FR c m x of)):=by
 intro n
 induction n with
 |zero=>intro t of x h;have:=t.size_pos;omega
 |succ n ih=>
  intro t of x h ax hx hn ZA;have pU:=t.size_eq;have hq:=Ty.aw t.binds;have M4:=Tm.aw t.args;have hi:jm t.index:=by cases t;exact ax.2.1
  have Yt:Tm.L4 t.args:=by cases t;exact ax.2.2
  have heq:=ig (l:=t.binds) (m:=of.args) (by omega) (fun k h1 h2=>ld _ _ _ (alA _) (by have:=Ty.aK (alG h1);omega));have ZV:∀u∈x++t.binds,u.size<=200000000:=fun u hu=>by
   rcases amn.1 hu with hu|hu
   ·exact hx u hu
   ·have:=Ty.aK hu;omega
  have hh:=ph (b:=b) (c:=c) (m:=m) (x:=x++t.binds) (k:=t.kind) hi (by rw[alz];omega);have bN:∀u,dE c m (x++t.binds) t.kind t.index=some u->u.size<=200000000:=fun u hu=>by
   rcases x5 hu with hu|hu|hu
   ·exact ZV u hu
   ·exact hc u hu
   ·exact hm u hu
  have y7:=Tm.Rz c m x t of;refine PC ⟨_,heq,ah.intro (fun h=>?_) fun h=>?_⟩
  ·have h0:Ty.bA t.binds of.args=false:=by simpa using h
   rw[y7,h0,alP]
  have h0:Ty.bA t.binds of.args=true:=by simpa using h
  rw[h0,alN] at y7;refine⟨_,sN (by omega),?_⟩
  cases ht:dE c m (x++t.binds) t.kind t.index with
  |none=>
   rw[ht] at hh y7;exact⟨_,_,_,hh,ah.pos rfl (by rw[y7])⟩
  |some u=>
   rw[ht] at hh y7;dsimp only at y7;have hu:=bN u ht;have ZQ:=u.size_eq;have S5:=Ty.aw u.args;refine⟨_,_,_,hh,ah.neg rfl (ah.intro (fun h=>?_) fun h=>?_)⟩
   ·have:(u.base==of.base)=false:=by simpa using h
    rw[y7,this,alP]
   have h1:(u.base==of.base)=true:=by simpa using h
   rw[h1,alN] at y7;rw[alv,alv];refine ah.intro (fun h=>?_) fun h=>?_
   ·have:¬u.args.length=t.args.length:=by simp at h;omega
    rw[y7,show (u.args.length==t.args.length)=false from by simpa using this,alP]
   have h2:u.args.length=t.args.length:=by simp at h;omega
   rw[show (u.args.length==t.args.length)=true from by simpa using h2,alN] at y7;refine av.intro (fun k:Nat=>(((),(x++t.binds).map Ty.enc,(),t.args.map Tm.enc,(t.args.length:Int),(k:Int),()),((b,c.map Ty.enc,m.map Ty.enc,()),(t.binds.map Ty.enc,t.kind,t.index,t.args.map Tm.enc,()),(of.args.map Ty.enc,of.base,()),(u.args.map Ty.enc,u.base,()),())))
    (fun k=>k<=t.args.length/\t.FR c m x of=Tm.zu c m (x++t.binds) (t.args.drop k) (u.args.drop k)) (fun k=>t.args.length-k) 0 rfl ⟨alE _,y7⟩ ?_
   intro k ⟨hk,hs⟩ again bw;dsimp only;refine ah.intro (fun h=>?_) fun h=>?_
   ·have ak:k<t.args.length:=by simpa using h
    have ZW:k<u.args.length:=by omega
    rw[Tm.Ax ak ZW] at hs;have kS:=Tm.aK (alG ak);have hi:=ih t.args[k] u.args[k] (x++t.binds) (by omega) (Tm.jJ Yt (alG ak)) ZV (by rw[alz];omega) (by have:=Ty.bY ZW;omega);refine⟨by omega,by rw[alv];omega,_,_,_,_,Tm.aq ak,by omega,by rw[alv];omega,_,_,Ty.aq ZW,_,hi,ah.intro (fun h=>?_) fun h=>?_⟩
    ·have:Tm.FR c m (x++t.binds) t.args[k] u.args[k]=false:=by simpa using h
     rw[hs,this,alP]
    ·have:Tm.FR c m (x++t.binds) t.args[k] u.args[k]=true:=by simpa using h
     rw[this,alN] at hs;rw[aA (by omega)];exact bw (k+1) ⟨by omega,hs⟩ (by omega)
   ·have:t.args.length<=k:=by simpa using h
    rw[alD this,Tm.zu] at hs
    ·rw[hs]
    ·intro _ _ _ _ h;cases h
mutual
def Tm.pre (a d:Nat):Tm->List ((Nat×Nat)×Tm)
 | .mk b k i l=>((a+b.length,d),.mk b k i l)::Tm.fH (a+b.length) (d+1) l
def Tm.fH (a d:Nat):List Tm->List ((Nat×Nat)×Tm)
 | []=>[]
 |t::l=>Tm.pre a d t++Tm.fH a d l
end
theorem Tm.It (a d:Nat) (t:Tm):t.pre a d=((a+t.binds.length,d),t)::Tm.fH (a+t.binds.length) (d+1) t.args:=by cases t;rfl
theorem Tm.ud {a d:Nat} {l:List Tm} {k:Nat} (h:k<l.length):Tm.fH a d (l.drop k)=l[k].pre a d++Tm.fH a d (l.drop (k+1)):=by
 rw[alC h,Tm.fH]
def RB (p:(Nat×Nat)×Tm):List AV:=[.agg [nI p.1.1,nI p.1.2],.agg [.sl (p.2.binds.map Ty.enc),nI p.2.kind,nI p.2.index,.sl (p.2.args.map Tm.enc)]]
def Ay (p:(Nat×Nat)×Tm):(Int×Int×Unit)×(List AV×Int×Int×List AV×Unit)×Unit:=((p.1.1,p.1.2,()),(p.2.binds.map Ty.enc,p.2.kind,p.2.index,p.2.args.map Tm.enc,()),())
theorem FT:∀(n:Nat) (t:Tm) (a d:Nat),t.size<=n->a+t.size<=1000000000->d+t.size<=1000000000->zi Tryz.prog 179 (fun v=>[.agg [.sl (t.binds.map Ty.enc),nI t.kind,nI t.index,.sl (t.args.map Tm.enc)],.agg [nI a,nI d],v]) ((t.pre a d).map RB) true:=by
 intro n
 induction n with
 |zero=>intro t a d h;have:=t.size_pos;omega
 |succ n ih=>
  intro t a d h ha hd;have hq:=Tm.aw t.args;have M4:=Ty.aw t.binds;have pU:=t.size_eq;have hw:IntKind.wrap .i64 ((a:Int)+((List.length (t.binds.map Ty.enc):Nat):Int))=((a+t.binds.length:Nat):Int):=by
   rw[alv,bV (by omega) (by omega)];omega
  refine Pv fun yv more=>?_;unfold XC;rw[hw,aA (by omega)];refine⟨rfl,(Tm.fH (a+t.binds.length) (d+1) t.args).map RB++more,by rw[Tm.It];rfl,fun b=>ah.intro (fun h=>?_) fun h=>?_⟩
  ·have:b=false:=by simpa using h
   subst this;rfl
  ·have:b=true:=by simpa using h
   subst this;refine av.intro (fun k:Nat=>(((yv,(),t.args.map Tm.enc,(t.args.length:Int),(k:Int),()),((t.binds.map Ty.enc,t.kind,t.index,t.args.map Tm.enc,()),(((a+t.binds.length:Nat):Int),((d+1:Nat):Int),()),())),some ((Tm.fH (a+t.binds.length) (d+1) (t.args.drop k)).map RB++more))) (fun k=>k<=t.args.length) (fun k=>t.args.length-k) 0 (by rw[alv];rfl) (alE _) ?_;intro k hk again bw;dsimp only;rw[alv];refine ah.intro (fun h=>?_) fun h=>?_
   ·have ak:k<t.args.length:=by simpa using h
    have kS:=Tm.aK (alG ak);have hi:=ih t.args[k] (a+t.binds.length) (d+1) (by omega) (by omega) (by omega);refine⟨by omega,by omega,_,_,_,_,Tm.aq ak,_,_,(Tm.fH (a+t.binds.length) (d+1) (t.args.drop (k+1))).map RB++more,rfl,hi,?_,fun b=>ah.intro (fun h=>?_) fun h=>?_⟩
    ·rw[Tm.ud ak,ama,alU]
    ·have:b=false:=by simpa using h
     subst this;rfl
    ·have:b=true:=by simpa using h
     subst this;rw[aA (by omega)];exact bw (k+1) (by omega) (by omega)
   ·have:t.args.length<=k:=by simpa using h
    rw[alD this];rfl
theorem CE {t:Tm} (h:t.size<=500000000):zi Tryz.prog 178 (fun v=>[v,.aS (.agg [.sl (t.binds.map Ty.enc),nI t.kind,nI t.index,.sl (t.args.map Tm.enc)]) 0]) ((t.pre 0 1).map RB) false:=
 Pt fun yv more=>⟨_,_,more,rfl,FT _ t 0 1 (alA _) (by omega) (by omega),rfl,fun b=>⟨b,rfl⟩⟩
theorem vb (t:Tm):ag Tryz.prog 144 [.agg [.sl (t.binds.map Ty.enc),nI t.kind,nI t.index,.sl (t.args.map Tm.enc)]] (.aY 178 [.aS (.agg [.sl (t.binds.map Ty.enc),nI t.kind,nI t.index,.sl (t.args.map Tm.enc)]) 0]):=Px rfl
theorem Az {t:Tm} (h:t.size<=500000000):uQ Tryz.prog 178 [.aS (.agg [.sl (t.binds.map Ty.enc),nI t.kind,nI t.index,.sl (t.args.map Tm.enc)]) 0] [.v (.a [.i .i64,.i .i64]),.v (.a [.l,.i .i64,.i .i64,.l])] ((t.pre 0 1).map Ay):=
 EP (prm:=[.v (.a [.i .i64,.i .i64]),.v (.a [.l,.i .i64,.i .i64,.l])]) Ay (CE h)
def pj:Nat->List ((Nat×Nat)×Tm)->Bool
 |_,[]=>true
 |n,p::l=>if n+1>5000 then false else if p.1.2>60 then false else pj (n+1) l
theorem ny {t:Tm} (h:t.size<=500000000):ag Tryz.prog 92 [.agg [.sl (t.binds.map Ty.enc),nI t.kind,nI t.index,.sl (t.args.map Tm.enc)]] (nB (pj 0 (t.pre 0 1))):=by
 refine Un ⟨vb t,?_⟩;refine nn.HY (fun n:Nat=>((t.binds.map Ty.enc,t.kind,t.index,t.args.map Tm.enc,()),(false,()),((n:Int),()),())) Ay (t.pre 0 1) (Az h) (fun r n=>n<=5000/\pj 0 (t.pre 0 1)=pj n r) 0 rfl ⟨by omega,rfl⟩ (fun p r n ⟨hI,hk⟩ again bw=>?_) fun n ⟨hI,hk⟩=>?_
 ·rw[pj] at hk;dsimp only[Ay];rw[aA (by omega)];refine ah.intro (fun h1=>?_) fun h1=>ah.intro (fun h2=>?_) fun h2=>?_
  ·have:n+1>5000:=by have:=of_decide_eq_true h1;omega
   rw[hk,if_pos this]
  ·have g:¬n+1>5000:=by have:=of_decide_eq_false h1;omega
   have:p.1.2>60:=by have:=of_decide_eq_true h2;omega
   rw[hk,if_neg g,if_pos this]
  ·have g:¬n+1>5000:=by have:=of_decide_eq_false h1;omega
   have g2:¬p.1.2>60:=by have:=of_decide_eq_false h2;omega
   rw[if_neg g,if_neg g2] at hk;exact bw (n+1) ⟨by omega,hk⟩
 ·rw[hk];rfl
theorem FU {b:Int} {c m x:List Ty} {t:Tm} {of:Ty} (hc:∀t∈c,t.size<=200000000) (hm:∀t∈m,t.size<=200000000) (ax:t.Ok) (hx:∀u∈x,u.size<=200000000) (hn:x.length+t.size<=200000000) (ZA:of.size<=200000000):
  ag Tryz.prog 95 [.agg [nI b,.sl (c.map Ty.enc),.sl (m.map Ty.enc)],.sl (x.map Ty.enc),.agg [.sl (t.binds.map Ty.enc),nI t.kind,nI t.index,.sl (t.args.map Tm.enc)],.agg [.sl (of.args.map Ty.enc),nI of.base]] (nI (if pj 0 (t.pre 0 1)=true then(if t.FR c m x of=true then 0 else 5) else 2)):=by
 have h1:=ny (t:=t) (by omega);have h2:=RA (b:=b) hc hm _ t of x (alA _) ax hx hn ZA;refine Uq ⟨_,h1,ah.intro (fun h=>?_) fun h=>⟨_,h2,ah.intro (fun h3=>?_) fun h3=>?_⟩⟩
 ·rw[if_neg (by simpa using h)]
 ·rw[if_pos (by simpa using h),if_neg (by simpa using h3)]
 ·rw[if_pos (by simpa using h),if_pos (by simpa using h3)]
theorem Mc {b:Int} {c m:List Ty} {t:Ty} (h:t.size<=500000000):ag Tryz.prog 142 [.agg [.sl (t.args.map Ty.enc),nI t.base],.aS (.agg [nI b,.sl (c.map Ty.enc),.sl (m.map Ty.enc)]) 0] (nB (!(t.bK b))):=
 PE ⟨_,CC h,rfl⟩
def jg (b:Int):Nat->List Ty->Int
 |_,[] => -1
 |k,t::l=>if t.bK b=true then jg b (k+1) l else k
theorem x7 {b:Int} {c m l:List Ty} (h:Ty.sizes l<=500000000):ag Tryz.prog 175 [.sl (l.map Ty.enc),.aY 142 [.aS (.agg [nI b,.sl (c.map Ty.enc),.sl (m.map Ty.enc)]) 0]] (nI (jg b 0 l)):=by
 have hl:=Ty.aw l;refine PI ⟨rfl,?_⟩;refine av.intro (fun k:Nat=>((l.map Ty.enc,((),()),(l.length:Int),(k:Int),()),())) (fun k=>k<=l.length/\jg b 0 l=jg b k (l.drop k)) (fun k=>l.length-k) 0 (by rw[alv];rfl) ⟨alE _,rfl⟩ ?_;intro k ⟨hk,hs⟩ again bw;dsimp only;rw[alv];refine ah.intro (fun h=>?_) fun h=>?_
 ·have ak:k<l.length:=by simpa using h
  rw[alC ak,jg] at hs;refine⟨by omega,by omega,_,_,Ty.aq ak,_,Mc (by have:=Ty.aK (alG ak);omega),ah.intro (fun h=>?_) fun h=>⟨rfl,?_⟩⟩
  ·rw[hs,if_neg (by simpa using h)]
  ·rw[if_pos (by simpa using h)] at hs;rw[aA (by omega)];exact bw (k+1) ⟨by omega,hs⟩ (by omega)
 ·have:l.length<=k:=by simpa using h
  rw[alD this] at hs;rw[hs];rfl
theorem ue {b:Int} {c m:List Ty} (hc:c.length<=500) (hm:m.length<=500) (h:Ty.sizes (c++m)<=500000000):ag Tryz.prog 91 [.agg [nI b,.sl (c.map Ty.enc),.sl (m.map Ty.enc)]] (nB (!(decide (jg b 0 (c++m)>=0)))):=by
 have DH:=jI (ll:=[c,m]) (by simp) (by simp;omega);simp only[eZ,al3,aml,List.flatten_cons,List.flatten_nil,alV] at DH;have hi:=x7 (b:=b) (c:=c) (m:=m) (l:=c++m) h;refine Ur ?_;unfold acv;rw[alv,alv,bV (by omega) (by omega)];refine ah.neg (decide_eq_false (by omega)) (ah.neg (decide_eq_false (by omega)) ⟨_,DH,_,PD ⟨_,hi,rfl⟩,rfl⟩)
theorem CF (b:Int):ag Tryz.prog 35 [nI b,.sl []] (.agg [.sl [],nI b]):=by
 have hc:=nu _ (.mk [] b) (alA _) (by simp[Ty.size,Ty.sizes]);rw[Ty.dD] at hc;exact Kn ⟨_,_,hc,rfl⟩
theorem sO:(Tm.mk [] 0 0 []).enc=.agg [.sl [],nI 0,nI 0,.sl []]:=by rw[Tm.dD];rfl
mutual
def nz:Int->Int->Ty->Tm
 |k,i,.mk l _=>.mk l k (if k=0 then IntKind.wrap .i64 (i+(l.length:Nat)) else i) (eo l.length 0 l)
def eo (n:Nat):Nat->List Ty->List Tm
 |_,[]=>[]
 |j,t::r=>nz 0 ((n:Int)-1-j) t::eo n (j+1) r
end
theorem pX (k i:Int) (t:Ty):nz k i t=.mk t.args k (if k=0 then IntKind.wrap .i64 (i+(t.args.length:Nat)) else i) (eo t.args.length 0 t.args):=by cases t;rw[nz];rfl
theorem jO (n:Nat):∀(l:List Ty) (j:Nat),(eo n j l).length=l.length
 | [],_=>rfl
 |t::l,j=>by rw[eo,alJ,alJ,jO n l]
theorem AA (n:Nat):∀(l:List Ty) (j k:Nat) (h:k<l.length),(eo n j l)[k]?=some (nz 0 ((n:Int)-1-(j+k:Nat)) l[k])
 |t::l,j,0,_=>by rw[eo];rfl
 |t::l,j,k+1,h=>by
  rw[eo,al5,AA n l (j+1) k (by simpa using h),List.getElem_cons_succ,show j+1+k=j+(k+1) by omega]
theorem x8 {n:Nat} {l:List Ty} {k:Nat} (h:k<l.length):(eo n 0 l).take (k+1)=(eo n 0 l).take k++[nz 0 ((n:Int)-1-(k:Nat)) l[k]]:=by
 have hk:k<(eo n 0 l).length:=by rw[jO];exact h
 have hg:=AA n l 0 k h;rw[aly hk,al2] at hg;rw[<-cY hk,alw hg]
mutual
theorem AB:∀(t:Ty) (k i:Int),(nz k i t).size<=t.size*t.size
 | .mk l b,k,i=>by
  rw[nz,Tm.size,Ty.size];have h:=x9 l l.length 0;have e:(1+Ty.sizes l)*(1+Ty.sizes l)=1+Ty.sizes l+Ty.sizes l+Ty.sizes l*Ty.sizes l:=by rw[amu,anz,Nat.mul_add,amI];omega
  omega
theorem x9:∀(l:List Ty) (n j:Nat),Tm.sizes (eo n j l)<=Ty.sizes l*Ty.sizes l
 | [],n,j=>by simp[eo,Tm.sizes]
 |t::l,n,j=>by
  rw[eo,Tm.sizes,Ty.sizes];have h1:=AB t 0 ((n:Int)-1-j);have h2:=x9 l n (j+1);have e:(t.size+Ty.sizes l)*(t.size+Ty.sizes l)=t.size*t.size+t.size*Ty.sizes l+(Ty.sizes l*t.size+Ty.sizes l*Ty.sizes l):=by rw[amu,Nat.mul_add,Nat.mul_add]
  omega
end
theorem uf:∀(d:Nat) (t:Ty) (k i:Int),t.size<=d->d<=1000000000->ag Tryz.prog 78 [.agg [nI k,nI i],t.enc] (nz k i t).enc:=by
 intro d
 induction d with
 |zero=>intro t k i h;have:=t.size_pos;omega
 |succ d ih=>
  intro t k i h hd;have hq:=Ty.aw t.args;have pU:=t.size_eq;have loop:∀ix:Int,ix=(if k=0 then IntKind.wrap .i64 (i+(t.args.length:Nat)) else i)->BU (((),(),((List.length (t.args.map Ty.enc):Nat):Int),(),0,()),((k,i,()),(t.args.map Ty.enc,t.base,()),((),0,0,(),()),(t.args.map Ty.enc,k,ix,(),()),[],())) (fun x=>x=(nz k i t).enc):=by
   intro ix hix;refine av.intro (fun j:Nat=>(((),(),(t.args.length:Int),(),(j:Int),()),((k,i,()),(t.args.map Ty.enc,t.base,()),((),0,0,(),()),(t.args.map Ty.enc,k,ix,(),()),((eo t.args.length 0 t.args).take j).map Tm.enc,())))
    (fun j=>j<=t.args.length) (fun j=>t.args.length-j) 0 (by rw[alv];rfl) (alE _) ?_
   intro j hj again bw;dsimp only;rw[alv];refine ah.intro (fun h=>?_) fun h=>?_
   ·have ak:j<t.args.length:=by simpa using h
    have hi:=ih t.args[j] 0 ((t.args.length:Int)-1-(j:Nat)) (by have:=Ty.bY ak;omega) (by omega);rw[Ty.aC,Tm.aC] at hi;have hw:IntKind.wrap .i64 (IntKind.wrap .i64 ((t.args.length:Int)-1)-(j:Int))=(t.args.length:Int)-1-(j:Nat):=by
     rw[bV (n:=(t.args.length:Int)-1) (by omega) (by omega),bV (by omega) (by omega)]
    rw[hw];refine⟨by omega,by omega,_,_,Ty.aq ak,_,_,_,_,hi,rfl,bc rfl (by simp;omega) (by decide),rfl,?_⟩;rw[aA (by omega),Tm.fm,<-x8 ak];exact bw (j+1) (by omega) (by omega)
   ·have hle:t.args.length<=j:=by simpa using h
    refine⟨rfl,?_⟩;rw[alI (by rw[jO];exact hle),pX,Tm.dD,hix]
  rw[Ty.aC];refine Uj (ah.intro (fun h=>⟨rfl,?_⟩) fun h=>⟨rfl,?_⟩)
  ·have hk:k=0:=by simpa using h
   refine loop _ ?_;rw[if_pos hk,alv]
  ·have hk:¬k=0:=by simpa using h
   exact loop _ (by rw[if_neg hk])
theorem Iw {t:Ty} {k i:Int} (ht:t.size<=1000000000) (h0:k=0->0<=i/\i<=1000):ag Tryz.prog 42 [.agg [nI k,nI i],t.enc] (nz k i t).enc:=by
 have he:=uf _ t k i (alA _) ht;rw[Ty.aC,Tm.aC] at he ⊢;refine Uk (ah.intro (fun h=>?_) fun h=>⟨_,_,_,_,he,rfl⟩);have hk:k=0:=by simpa using h
 have:=h0 hk;exact ah.neg (decide_eq_false (by omega)) (ah.neg (decide_eq_false (by omega)) ⟨_,_,_,_,he,rfl⟩)
theorem Ix:∀(d:Nat) (t:Ty) (k i:Int),t.size<=d->d<=1000->(k=0->0<=i/\i<=1000)->ag Tryz.prog 174 [.agg [nI k,nI i],t.enc] (nz k i t).enc:=by
 intro d
 induction d with
 |zero=>intro t k i h;have:=t.size_pos;omega
 |succ d ih=>
  intro t k i h hd h0;have hq:=Ty.aw t.args;have pU:=t.size_eq;have gG:=jd (t:=t) (l:=[]) (by simp[Ty.sizes];omega);rw[Ty.arrow,amq,Ty.dD,Ty.aC,aml] at gG;have loop:∀ix:Int,ix=(if k=0 then IntKind.wrap .i64 (i+(t.args.length:Nat)) else i)->o6 (((),((List.length (t.args.map Ty.enc):Nat):Int),(),t.args.map Ty.enc,((List.length (t.args.map Ty.enc):Nat):Int),0,()),((k,i,()),(t.args.map Ty.enc,t.base,()),((),0,0,(),()),(t.args.map Ty.enc,k,ix,(),()),[],())) (fun x=>x=(nz k i t).enc):=by
   intro ix hix;refine av.intro (fun j:Nat=>(((),(t.args.length:Int),(),t.args.map Ty.enc,(t.args.length:Int),(j:Int),()),((k,i,()),(t.args.map Ty.enc,t.base,()),((),0,0,(),()),(t.args.map Ty.enc,k,ix,(),()),((eo t.args.length 0 t.args).take j).map Tm.enc,())))
    (fun j=>j<=t.args.length) (fun j=>t.args.length-j) 0 (by rw[alv];rfl) (alE _) ?_
   intro j hj again bw;dsimp only;rw[alv];refine ah.intro (fun h=>?_) fun h=>?_
   ·have ak:j<t.args.length:=by simpa using h
    have hi:=ih t.args[j] 0 ((t.args.length:Int)-1-(j:Nat)) (by have:=Ty.bY ak;omega) (by omega) (fun _=>⟨by omega,by omega⟩);rw[Ty.aC,Tm.aC] at hi;have hw:IntKind.wrap .i64 (IntKind.wrap .i64 ((t.args.length:Int)-1)-(j:Int))=(t.args.length:Int)-1-(j:Nat):=by
     rw[bV (n:=(t.args.length:Int)-1) (by omega) (by omega),bV (by omega) (by omega)]
    rw[hw];refine⟨by omega,by omega,_,_,Ty.aq ak,_,_,_,_,hi,rfl,bc rfl (by simp;omega) (by decide),rfl,?_⟩;rw[aA (by omega),Tm.fm,<-x8 ak];exact bw (j+1) (by omega) (by omega)
   ·have hle:t.args.length<=j:=by simpa using h
    refine⟨rfl,?_⟩;rw[alI (by rw[jO];exact hle),pX,Tm.dD,hix]
  rw[Ty.aC];refine O3 (ah.intro (fun h=>?_) fun h=>?_)
  ·have hk:k=0:=by simpa using h
   have:=h0 hk;refine ah.neg (decide_eq_false (by omega)) (ah.neg (decide_eq_false (by omega)) ⟨_,_,gG,ah.pos h ⟨rfl,loop _ ?_⟩⟩);rw[if_pos hk,alv]
  ·have hk:¬k=0:=by simpa using h
   exact⟨_,_,gG,ah.neg h ⟨rfl,loop _ (by rw[if_neg hk])⟩⟩
theorem lk {n:Nat} (hn:n<=1000000000):∀(b:List Ty) (l:List Tm) (k:Nat),l.length=b.length->n=k+b.length->
  (∀a∈l,∀(ty:Ty) (j:Int),0<=j->j<=1000000000->((Tm.var a=some (0,j)/\a.binds=ty.args)↔a=nz 0 j ty))->(Tm.dW n k b l=true↔l=eo n k b)
 | [],[],k,_,_,_=>by simp[Tm.dW,eo]
 | [],_::_,_,h,_,_=>by simp at h
 |_::_,[],_,h,_,_=>by simp at h
 |t::b,a::l,k,h,hk,ih=>by
  have h1:=lk hn b l (k+1) (by simpa using h) (by simp at hk;omega) fun a ha=>ih a (alR _ ha);have h2:=ih a alS t ((n:Int)-1-k) (by simp at hk;omega) (by omega);rw[Tm.dW,eo,List.cons.injEq,alB,h1,<-h2];refine and_congr ?_ Iff.rfl
  cases hv:Tm.var a with
  |none=>simp
  |some p=>
   obtain⟨q,j⟩:=p;simp only[alB,beq_iff_eq,Ty.gC,als,alx]
theorem Wk:∀(d:Nat) (a:Tm),a.size<=d->d<=1000000000->a.Ok->∀(ty:Ty) (j:Int),0<=j->j<=1000000000->((Tm.var a=some (0,j)/\a.binds=ty.args)↔a=nz 0 j ty):=by
 intro d
 induction d with
 |zero=>intro t h;have:=t.size_pos;omega
 |succ d ih=>
  intro a h hd hk ty j hj hj2;obtain⟨gK,oX,XJ⟩:=Tm.ok_eq hk;unfold jm at oX;have pU:=a.size_eq;have hq:=Ty.aw a.binds;have mem:∀x∈a.args,∀(ty:Ty) (j:Int),0<=j->j<=1000000000->((Tm.var x=some (0,j)/\x.binds=ty.args)↔x=nz 0 j ty):=
   fun x hx=>ih x (by have:=Tm.aK hx;omega) (by omega) (Tm.jJ XJ hx)
  rw[Tm.var_eq,pX,if_pos rfl];constructor
  ·rintro⟨h1,h2⟩
   split at h1
   ·rename_i hc;split at h1
    ·rename_i hv;simp only[als,alx] at h1;obtain⟨h3,h4⟩:=h1;rw[if_pos h3] at h4;have tB:¬a.index<a.binds.length:=fun hx=>hc.2 ⟨h3,hx⟩;rw[bV (by omega) (by omega)] at h4;have Jp:=(lk (n:=a.binds.length) (by omega) a.binds a.args 0 hc.1 (by omega) mem).1 hv;rw[<-h2,bV (by omega) (by omega),<-Jp];have e:j+(a.binds.length:Nat)=a.index:=by omega
     rw[e,<-h3,Tm.eta]
    ·cases h1
   ·cases h1
  ·intro h1;have e1:a.binds=ty.args:=by rw[h1];rfl
   have e2:a.kind=0:=by rw[h1];rfl
   have e3:a.index=IntKind.wrap .i64 (j+(ty.args.length:Nat)):=by
    have:=congrArg Tm.index h1;exact this
   have e4:a.args=eo ty.args.length 0 ty.args:=by
    have:=congrArg Tm.args h1;exact this
   rw[<-e1] at e3 e4;rw[bV (by omega) (by omega)] at e3;have hlen:a.args.length=a.binds.length:=by rw[e4,jO]
   refine⟨?_,e1⟩;rw[if_pos ⟨hlen,fun hx=>by have:=hx.2;omega⟩,if_pos ((lk (n:=a.binds.length) (by omega) a.binds a.args 0 hlen (by omega) mem).2 e4),if_pos e2,e2,bV (by omega) (by omega)]
   congr 2
   omega
theorem RC {t:Tm} (hs:t.size<=1000000000) (hk:t.Ok) (hc:¬(t.kind=0/\t.index<t.binds.length)):
  t.var=if Tm.same (.mk t.binds t.kind t.index (eo t.binds.length 0 t.binds)) t=true then some (t.kind,if t.kind=0 then t.index-t.binds.length else t.index) else none:=by
 obtain⟨gK,oX,XJ⟩:=Tm.ok_eq hk;unfold jm at oX;have pU:=t.size_eq;have hq:=Ty.aw t.binds;have hw:(if t.kind=0 then IntKind.wrap .i64 (t.index-t.binds.length) else t.index)=(if t.kind=0 then t.index-t.binds.length else t.index):=by
  split
  ·rename_i h0;have:¬t.index<t.binds.length:=fun hx=>hc ⟨h0,hx⟩;rw[bV (by omega) (by omega)]
  ·rfl
 have eA:Tm.same (.mk t.binds t.kind t.index (eo t.binds.length 0 t.binds)) t=true↔t.args=eo t.binds.length 0 t.binds:=by
  rw[Tm.fo];constructor
  ·intro h;have:=congrArg Tm.args h;exact this.symm
  ·intro h;rw[<-h,Tm.eta]
 rw[Tm.var_eq,hw]
 by_cases hl:t.args.length=t.binds.length
 ·have hv:=lk (n:=t.binds.length) (by omega) t.binds t.args 0 hl (by omega) fun x hx=>Wk _ x (alA _) (by have:=Tm.aK hx;omega) (Tm.jJ XJ hx);rw[if_pos ⟨hl,hc⟩]
  by_cases he:t.args=eo t.binds.length 0 t.binds
  ·rw[if_pos (hv.2 he),if_pos (eA.2 he)]
  ·rw[if_neg (fun h=>he (hv.1 h)),if_neg (fun h=>he (eA.1 h))]
 ·rw[if_neg (fun h=>hl h.1),if_neg];intro h;rw[eA.1 h,jO] at hl;exact hl rfl
theorem Iy {t:Tm} (ht:t.size<=10000) (hk:t.Ok):ag Tryz.prog 184 [t.enc] (o8 t.var):=by
 obtain⟨gK,oX,XJ⟩:=Tm.ok_eq hk;unfold jm at oX;have pU:=t.size_eq;have hq:=Ty.aw t.binds;have hez:=AB (.mk t.binds 0) t.kind 0;have hsq:(Ty.mk t.binds 0).size*(Ty.mk t.binds 0).size<=10000*10000:=by
  have:(Ty.mk t.binds 0).size<=10000:=by rw[Ty.size];omega
  exact am1 this this
 have aj3:(Tm.mk t.binds t.kind t.index (eo t.binds.length 0 t.binds)).size<=100000000:=by
  rw[pX,Tm.size] at hez;rw[Tm.size];have:(Ty.mk t.binds 0).args=t.binds:=rfl;rw[this] at hez;omega
 have eA:=lg _ (Tm.mk t.binds t.kind t.index (eo t.binds.length 0 t.binds)) t (alA _) (by omega);rw[Tm.dD,Tm.aC t] at eA;rw[Tm.aC t];refine Pe ?_;unfold XA;rw[alv];have fin:¬(t.kind=0/\t.index<t.binds.length)->∀hx:Int,hx=(if t.kind=0 then t.index-t.binds.length else t.index)->
   ah (!(Tm.same (.mk t.binds t.kind t.index (eo t.binds.length 0 t.binds)) t)) (AV.aL [.agg [nI 0,nI 0],nB false]=o8 t.var) (AV.aL [.agg [nI t.kind,nI hx],nB true]=o8 t.var):=by
  intro hc hx ehx;have hv:=RC (by omega) hk hc;refine ah.intro (fun h=>?_) fun h=>?_
  ·rw[hv,if_neg (by simpa using h)];rfl
  ·rw[hv,if_pos (by simpa using h),ehx];rfl
 refine ah.intro (fun h0=>?_) fun h0=>?_
 ·have y5:t.kind=0:=by simpa using h0
  refine ah.intro (fun h1=>?_) fun h1=>?_
  ·have ak:t.index<t.binds.length:=by simpa using h1
   rw[Tm.var_eq,if_neg (fun h=>h.2 ⟨y5,ak⟩)];rfl
  ·have tB:¬t.index<t.binds.length:=by simpa using h1
   have hw:IntKind.wrap .i64 (t.index-((t.binds.length:Nat):Int))=t.index-((t.binds.length:Nat):Int):=bV (by omega) (by omega);have he:=uf _ (.mk t.binds 0) t.kind (t.index-((t.binds.length:Nat):Int)) (alA _) (by rw[Ty.size];omega);rw[pX,Ty.pT,if_pos y5,Int.sub_add_cancel,bV (n:=t.index) (by omega) (by omega),Tm.dD,Ty.dD] at he;rw[hw];have hf:=fin (fun h=>tB h.2) (t.index-((t.binds.length:Nat):Int)) (by rw[if_pos y5]);refine⟨_,_,_,_,he,ah.pos h0 (ah.intro (fun h=>⟨_,eA,hf⟩) fun h=>⟨_,eA,hf⟩)⟩
 ·have y5:¬t.kind=0:=by simpa using h0
  have he:=uf _ (.mk t.binds 0) t.kind t.index (alA _) (by rw[Ty.size];omega);rw[pX,Ty.pT,if_neg y5,Tm.dD,Ty.dD] at he;exact⟨_,_,_,_,he,ah.neg h0 ⟨_,eA,fin (fun h=>y5 h.1) t.index (by rw[if_neg y5])⟩⟩
theorem Wl {w:World} (h:og w):Lib.TabIs Tryz.prog w "internal/strconv.uint64pow10" .u64 Lib.pow10Tab:=by
 obtain⟨T,h1⟩:=h (Dm.head (by decide)) (List.head_mem _);unfold Lib.TabIs World.var?;rw[show Tryz.prog.globalNamed "internal/strconv.uint64pow10"=some (Dm.head (by decide)).1 from by kernel_rfl];simp only[Option.bind_some,h1];rfl
def FV (k:Int):ByteArray:=⟨(Lib.itoa k).toArray⟩
theorem Iz {k:Int} (hk:jm k):ag Tryz.prog 125 [nI k] (nS (FV k)):=by
 refine⟨⟨_,Tryz.func125,by kernel_rfl,by kernel_rfl⟩,fun w F bb hF hg hv=>?_⟩
 match bb,hv with
 | [v0],⟨r0,_⟩=>
  cases r0;refine callsIn_wide.2 ((Any.strconv_Itoa Ul k hk.1 (by have:=hk.2;omega) w (Wl hg)).mono ?_)
  rintro e w' ⟨rfl,n,os,rfl⟩
  refine⟨_,_,rfl,rfl,⟨rfl,rfl,rfl,?_,fun j hj=>?_⟩,.ae _⟩
  ·show w.heap.size<=(w.heap++os).size;rw[Array.size_append];omega
  ·show (w.heap++os)[j]?=_;rw[ani hj]
theorem AD {k:Int} (hk:jm k):(FV k).size<=30:=by
 have h1:=hk.1;have h2:=hk.2;have:=Lib.itoa_length_le k h1 (by omega);show (Lib.itoa k).toArray.size<=30;rw[anl];omega
theorem q9 {κ:Type} [DecidableEq κ] {l:List (κ×Value)} {i v:κ} {x:Value}:aM (bU l v x) i=if i=v then some x else aM l i:=by
 induction l with
 |nil=>simp only[bU,aM]
 |cons p l ih=>
  obtain⟨k,u⟩:=p;simp only[bU]
  by_cases h:v=k
  ·subst h;simp only[if_pos,aM]
   by_cases h2:i=v<;>simp[h2]
  ·rw[if_neg h,aM,ih,aM]
   by_cases h2:i=k
   ·subst h2;simp[am5 h]
   ·simp[h2]
def ZB (b:UInt8):Bool:=(b==45)||(decide (48<=b.toNat)&&decide (b.toNat<=57))
theorem ZX {u:Nat} (h:u<10):Lib.decDigits u=[UInt8.ofNat (48+u)]:=by rw[Lib.decDigits,dif_pos h]
theorem ZY {u:Nat} (h:¬u<10):Lib.decDigits u=Lib.decDigits (u / 10)++[UInt8.ofNat (48+u % 10)]:=by rw[Lib.decDigits,dif_neg h]
def num (b:UInt8):Bool:=decide (48<=b.toNat)&&decide (b.toNat<=57)
theorem KS:∀u:Nat,(Lib.decDigits u).all num=true:=by
 intro u
 induction u using Nat.strongRecOn with
 |_ u ih=>
  have hd:∀k,k<10->num (UInt8.ofNat (48+k))=true:=fun k hk=>by
   have:(UInt8.ofNat (48+k)).toNat=48+k:=by rw[UInt8.toNat_ofNat'];omega
   simp only[num,this,alB,decide_eq_true_eq];exact⟨by omega,by omega⟩
  by_cases h1:u<10
  ·rw[ZX h1,amj,hd u h1];rfl
  ·rw[ZY h1,List.all_append,ih (u / 10) (by omega),amj,hd (u % 10) (by omega)];rfl
theorem KT (u:Nat):(Lib.decDigits u).all ZB=true:=by
 have h:=KS u;rw[alK] at h ⊢;exact fun b hb=>by rw[ZB,show (decide (48<=b.toNat)&&decide (b.toNat<=57))=true from h b hb,Bool.or_true]
theorem KU:∀u v:Nat,Lib.decDigits u=Lib.decDigits v->u=v:=by
 have hd:∀k,k<10->(UInt8.ofNat (48+k)).toNat=48+k:=fun k hk=>by rw[UInt8.toNat_ofNat'];omega
 have bu:∀u:Nat,Lib.decDigits u≠[]:=fun u h=>by
  by_cases h1:u<10
  ·rw[ZX h1] at h;cases h
  ·rw[ZY h1] at h;simp at h
 intro u
 induction u using Nat.strongRecOn with
 |_ u ih=>
  intro v h
  by_cases h1:u<10
  ·by_cases h2:v<10
   ·rw[ZX h1,ZX h2] at h;simp only[List.cons.injEq,and_true] at h;have:=congrArg UInt8.toNat h;rw[hd u h1,hd v h2] at this;omega
   ·rw[ZX h1,ZY h2] at h;have:=congrArg List.length h;have h3:=ang.2 (bu (v / 10));rw[alz,alW,alW] at this;omega
  ·by_cases h2:v<10
   ·rw[ZY h1,ZX h2] at h;have:=congrArg List.length h;have h3:=ang.2 (bu (u / 10));rw[alz,alW,alW] at this;omega
   ·rw[ZY h1,ZY h2] at h;have h3:=List.append_inj' h rfl;have h4:=ih (u / 10) (by omega) (v / 10) h3.1;have h5:=h3.2;simp only[List.cons.injEq,and_true] at h5;have:=congrArg UInt8.toNat h5;rw[hd _ (by omega),hd _ (by omega)] at this;omega
theorem FW (n:Int):(Lib.itoa n).all ZB=true:=by
 unfold Lib.itoa;split
 ·rw[amj,KT];rfl
 ·exact KT _
theorem RD {n m:Int} (h:Lib.itoa n=Lib.itoa m):n=m:=by
 have hno:∀u:Nat,∀l:List UInt8,Lib.decDigits u≠45::l:=fun u l e=>by
  have h1:=KS u;rw[e,amj] at h1;exact absurd h1 (by simp[num])
 unfold Lib.itoa at h
 split at h<;>split at h
 ·have:=KU _ _ (List.cons.inj h).2;omega
 ·exact(hno _ _ h.symm).elim
 ·exact(hno _ _ h).elim
 ·have:=KU _ _ h;omega
def iA:List (UInt8×Int)->List UInt8
 | []=>[]
 |(c,n)::l=>c::(Lib.itoa n++iA l)
theorem CG (l m:List (UInt8×Int)):iA (l++m)=iA l++iA m:=by
 induction l with
 |nil=>rfl
 |cons p l ih=>obtain⟨c,n⟩:=p;simp[iA,ih]
def CH (l:List (UInt8×Int)):Prop:=∀p∈l,ZB p.1=false
theorem KV {l:List (UInt8×Int)} (h:CH l):(iA l).takeWhile ZB=[]:=by
 cases l with
 |nil=>rfl
 |cons p l=>
  obtain⟨c,n⟩:=p;rw[iA,List.takeWhile_cons,h (c,n) alS];rfl
theorem FX:∀(l m:List (UInt8×Int)),CH l->CH m->iA l=iA m->l=m
 | [],[],_,_,_=>rfl
 | [],(c,n)::m,_,_,h=>by simp[iA] at h
 |(c,n)::l,[],_,_,h=>by simp[iA] at h
 |(c,n)::l,(d,k)::m,hl,hm,h=>by
  simp only[iA,List.cons.injEq] at h;have G6:CH l:=fun p hp=>hl p (alR _ hp);have Sy:CH m:=fun p hp=>hm p (alR _ hp);have h1:=congrArg (List.takeWhile ZB) h.2;rw[List.takeWhile_append_of_pos (alK.1 (FW n)),List.takeWhile_append_of_pos (alK.1 (FW k)),KV G6,KV Sy,alV,alV] at h1;have h2:=h.2;rw[h1] at h2;rw[h.1,RD h1,FX l m G6 Sy (List.append_cancel_left h2)]
mutual
def Wm:Ty->List (UInt8×Int)
 | .mk l b=>(58,b)::((91,(l.length:Int))::ju l)
def ju:List Ty->List (UInt8×Int)
 | []=>[]
 |t::l=>Wm t++ju l
end
def G2 (l:List Ty):List (UInt8×Int):=(91,(l.length:Int))::ju l
mutual
def Dl:Tm->List (UInt8×Int)
 | .mk b k i a=>G2 b++((104,k)::(105,i)::(40,(a.length:Int))::kx a)
def kx:List Tm->List (UInt8×Int)
 | []=>[]
 |t::l=>Dl t++kx l
end
mutual
theorem Wn:∀(t u:Ty) (r s:List (UInt8×Int)),Wm t++r=Wm u++s->t=u/\r=s
 | .mk l b,.mk m c,r,s,h=>by
  simp only[Wm,amh,List.cons.injEq,alx,true_and] at h;obtain⟨rfl,h1,h2⟩:=h;obtain⟨rfl,rfl⟩:=ya l m r s (by omega) h2;exact⟨rfl,rfl⟩
theorem ya:∀(l m:List Ty) (r s:List (UInt8×Int)),l.length=m.length->ju l++r=ju m++s->l=m/\r=s
 | [],[],r,s,_,h=>⟨rfl,h⟩
 | [],_::_,_,_,h,_=>by simp at h
 |_::_,[],_,_,h,_=>by simp at h
 |t::l,u::m,r,s,hl,h=>by
  simp only[ju,alU] at h;obtain⟨rfl,h1⟩:=Wn t u _ _ h;obtain⟨rfl,h2⟩:=ya l m r s (by simpa using hl) h1;exact⟨rfl,h2⟩
end
theorem Wo {l m:List Ty} {r s:List (UInt8×Int)} (h:G2 l++r=G2 m++s):l=m/\r=s:=by
 simp only[G2,amh,List.cons.injEq,alx,true_and] at h;exact ya l m r s (by omega) h.2
mutual
theorem KW:∀(t u:Tm) (r s:List (UInt8×Int)),Dl t++r=Dl u++s->t=u/\r=s
 | .mk b k i a,.mk b' k' i' a',r,s,h=>by
  simp only[Dl,alU] at h;obtain⟨rfl,h1⟩:=Wo h;simp only[amh,List.cons.injEq,alx,true_and] at h1;obtain⟨rfl,rfl,h2,h3⟩:=h1;obtain⟨rfl,rfl⟩:=FY a a' r s (by omega) h3;exact⟨rfl,rfl⟩
theorem FY:∀(l m:List Tm) (r s:List (UInt8×Int)),l.length=m.length->kx l++r=kx m++s->l=m/\r=s
 | [],[],r,s,_,h=>⟨rfl,h⟩
 | [],_::_,_,_,h,_=>by simp at h
 |_::_,[],_,_,h,_=>by simp at h
 |t::l,u::m,r,s,hl,h=>by
  simp only[kx,alU] at h;obtain⟨rfl,h1⟩:=KW t u _ _ h;obtain⟨rfl,h2⟩:=FY l m r s (by simpa using hl) h1;exact⟨rfl,h2⟩
end
theorem CH.append {l m:List (UInt8×Int)} (h1:CH l) (h2:CH m):CH (l++m):=fun p hp=>(amn.1 hp).elim (h1 p) (h2 p)
theorem CH.cons {c:UInt8} {n:Int} {l:List (UInt8×Int)} (h1:ZB c=false) (h2:CH l):CH ((c,n)::l):=fun p hp=>by
 rcases al6.1 hp with rfl|hp
 ·exact h1
 ·exact h2 p hp
theorem CH.nil:CH []:=fun _ h=>by cases h
mutual
theorem Wp:∀t:Ty,CH (Wm t)
 | .mk l b=>.cons rfl (.cons rfl (yb l))
theorem yb:∀l:List Ty,CH (ju l)
 | []=>.nil
 |t::l=>(Wp t).append (yb l)
end
mutual
theorem CI:∀t:Tm,CH (Dl t)
 | .mk b k i a=>CH.append (.cons rfl (yb b)) (.cons rfl (.cons rfl (.cons rfl (FZ a))))
theorem FZ:∀l:List Tm,CH (kx l)
 | []=>.nil
 |t::l=>(CI t).append (FZ l)
end
def oa (t:Tm):ByteArray:=⟨(iA (Dl t)).toArray⟩
theorem Md {t u:Tm} (h:oa t=oa u):t=u:=by
 have h1:iA (Dl t)=iA (Dl u):=by
  have:=congrArg ByteArray.data h;simpa [oa] using this
 have h2:=FX _ _ (CI t) (CI u) h1;exact(KW t u [] [] (by rw[alV,alV,h2])).1
theorem F4 {us:List AV} {c:Int} (h:us.length+1<=1000000000):bH Tryz.prog 123 [.ptr 0 0,.ae (.int .u8 c)] [.cU 1 us.length,.row 5 1 us]
  (fun r hp'=>r=.top/\hp'=[.cU 1 (us++[AV.ae (.int .u8 c)]).length,.row 5 1 (us++[AV.ae (.int .u8 c)])]):=
 bH.res (R:=fun(r:AV) (hp':List af)=>r=AV.ae (.nilIface)/\hp'=[.cU 1 (us++[AV.ae (.int .u8 c)]).length,.row 5 1 (us++[AV.ae (.int .u8 c)])]) (PL ⟨_,n8,fun r q ⟨h1,h2⟩=>⟨us,⟨h1,h2⟩,rfl,bc rfl (by rw[alz];simp;omega) (by decide),by rw[alz];simp,rfl,rfl⟩⟩)
  fun r h' ⟨h1,h2⟩=>⟨_,fun w F η hp v _=>.top v,rfl,h2⟩
def cm (l:List (UInt8×Int)):ByteArray:=⟨(iA l).toArray⟩
theorem ra (l m:List (UInt8×Int)):bh (cm (l++m))=bh (cm l)++bh (cm m):=by
 simp only[bh,cm,CG,ama]
theorem yc (c:UInt8) (n:Int):bh (cm [(c,n)])=.ae (.int .u8 c.toNat)::bh (FV n):=by
 simp[bh,cm,iA,FV]
theorem Wq (u:Nat):Lib.decDigits u≠[]:=by
 rw[Lib.decDigits]
 split<;>simp
theorem Wr {k:Int}:(FV k).size≠0:=by
 have h:Lib.itoa k≠[]:=by
  unfold Lib.itoa;split
  ·simp
  ·exact Wq _
 intro e;exact h (al1 (by simpa using (show (Lib.itoa k).toArray.size=0 from e)))
theorem mF {us:List AV} {c:UInt8} {n:Int} (hn:jm n) (h:us.length<=999000000):bH Tryz.prog 122 [AV.ae (.int .u8 c.toNat),nI n,.ptr 2 0] (Kh us.length us) (fun r q=>r=.aL []/\q=Kh (us++bh (cm [(c,n)])).length (us++bh (cm [(c,n)]))):=by
 have hw:=AD hn;refine PM ⟨_,F4 (by omega),fun r q ⟨e1,e2⟩=>⟨us++[AV.ae (.int .u8 c.toNat)],⟨e1,e2⟩,_,Iz hn,_,Rv (us:=us++[AV.ae (.int .u8 c.toNat)]) Wr (by rw[alz];simp;omega),fun r q ⟨e1,e2⟩=>⟨us++[AV.ae (.int .u8 c.toNat)]++bh (FV n),(FV n).size,⟨?_,e2⟩,rfl,?_⟩⟩⟩
 ·exact e1
 ·rw[yc,alU,anu]
theorem yd:∀(l:List (UInt8×Int)),(∀p∈l,jm p.2)->(bh (cm l)).length<=31*l.length
 | [],_=>by simp[bh,cm,iA]
 |(c,n)::l,h=>by
  have h1:=yd l fun p hp=>h p (alR _ hp);have h2:(FV n).size<=30:=AD (h (c,n) alS);have h3:=ra [(c,n)] l;rw[anu] at h3;rw[h3,alz,yc,alJ,alJ,eM];omega
mutual
theorem Ws:∀t:Ty,(Wm t).length=2*t.size
 | .mk l b=>by
  have:=sP l;simp only[Wm,alJ,Ty.size];omega
theorem sP:∀l:List Ty,(ju l).length=2*Ty.sizes l
 | []=>rfl
 |t::l=>by
  have h1:=Ws t;have h2:=sP l;simp only[ju,alz,Ty.sizes];omega
end
theorem Me {l:List Ty} {k:Nat} (h:k<l.length):ju (l.take (k+1))=ju (l.take k)++((58,l[k].base)::G2 l[k].args):=by
 have app:∀a b:List Ty,ju (a++b)=ju a++ju b:=fun a b=>by
  induction a with
  |nil=>rfl
  |cons x a ih=>rw[amh,ju,ju,ih,alU]
 rw[alL h,app]
 congr 1
 rw[ju,ju,alV]
 cases l[k] with
 |mk a b=>rfl
mutual
def Ty.kP:Ty->Prop
 | .mk l b=>jm b/\Ty.im l
def Ty.im:List Ty->Prop
 | []=>True
 |t::l=>Ty.kP t/\Ty.im l
end
theorem Ty.nA:∀{l:List Ty},Ty.im l->∀t∈l,t.kP
 | [],_,t,h=>by cases h
 |u::l,h,t,ht=>by
  rcases al6.1 ht with rfl|ht
  ·exact h.1
  ·exact Ty.nA h.2 t ht
theorem Ty.ye {t:Ty} (h:t.kP):jm t.base/\Ty.im t.args:=by cases t;exact h
mutual
theorem Wt:∀t:Ty,t.kP->t.size<=1000000->∀p∈Wm t,jm p.2
 | .mk l b,h,hs,p,hp=>by
  have h3:=Ty.aw l;simp only[Ty.size] at hs;simp only[Wm,al6] at hp;rcases hp with rfl|rfl|hp
  ·exact h.1
  ·exact⟨by show (-9223372036854775808:Int)<=(l.length:Int);omega,by show (l.length:Int)<9223372036854775808;omega⟩
  ·exact pk l h.2 (by omega) p hp
theorem pk:∀l:List Ty,Ty.im l->Ty.sizes l<=1000000->∀p∈ju l,jm p.2
 | [],_,_,p,hp=>by cases hp
 |t::l,h,hs,p,hp=>by
  simp only[Ty.sizes] at hs;simp only[ju,amn] at hp;rcases hp with hp|hp
  ·exact Wt t h.1 (by omega) p hp
  ·exact pk l h.2 (by omega) p hp
end
theorem nC {n:Nat} (h:n<=1000000000):jm (n:Int):=⟨by omega,by omega⟩
theorem mG {us:List AV} {l:List (UInt8×Int)} (h:∀p∈l,jm p.2):(us++bh (cm l)).length<=us.length+31*l.length:=by
 have:=yd l h;rw[alz];omega
theorem Mf:∀(n:Nat) (l:List Ty),Ty.sizes l<n->n<=1000000->Ty.im l->∀us:List AV,us.length+62*Ty.sizes l<=990000000->
  bH Tryz.prog 126 [.sl (l.map Ty.enc),.ptr 3 0,.ptr 4 0] (Xw us.length us) (fun r q=>r=.aL []/\q=Xw (us++bh (cm (G2 l))).length (us++bh (cm (G2 l)))):=by
 intro n
 induction n with
 |zero=>intro l h;omega
 |succ n ih=>
  intro l h hn IA us ZQ;have hlen:=Ty.aw l;have h1:=mF (us:=us) (c:=91) (n:=((List.length (l.map Ty.enc):Nat):Int)) (nC (by rw[alv];omega)) (by omega);refine PQ ⟨_,h1,fun r q ⟨e1,e2⟩=>⟨us++bh (cm [(91,((List.length (l.map Ty.enc):Nat):Int))]),⟨e1,e2⟩,rfl,?_⟩⟩;have app:∀a b:List (UInt8×Int),us++bh (cm a)++bh (cm b)=us++bh (cm (a++b)):=fun a b=>by rw[ra,alU]
  refine av.intro (fun k:Nat=>(((),(),l.map Ty.enc,(l.length:Int),(k:Int),()),((),us++bh (cm ((91,(l.length:Int))::ju (l.take k))),((),()),((),()),((),()),()))) (fun k=>k<=l.length) (fun k=>l.length-k) 0 (by rw[alv];rfl) (alE _) ?_;intro k hk again bw;dsimp only;refine ah.intro (fun h=>?_) fun h=>⟨rfl,?_⟩
  ·have ak:k<l.length:=by simpa using h
   have hx:=Ty.ye (Ty.nA IA _ (alG ak));have Sv:=Ty.size_eq l[k];have t1:=Ty.aK (alG ak);have fF:=bw (k+1) (by omega) (by omega);have p1:=Ty.bQ (l.take k) (l.drop k);rw[amk,alC ak,Ty.sizes] at p1;have jo:∀p∈((91,(l.length:Int))::ju l:List (UInt8×Int)),jm p.2:=fun p hp=>by
    rcases al6.1 hp with rfl|hp
    ·exact nC (by omega)
    ·exact pk l IA (by omega) p hp
   have zP:∀p∈((91,(l.length:Int))::ju (l.take k):List (UInt8×Int)),jm p.2:=fun p hp=>by
    rcases al6.1 hp with rfl|hp
    ·exact nC (by omega)
    ·refine pk (l.take k) ?_ (by omega) p hp;have:∀(m:List Ty) (j:Nat),Ty.im m->Ty.im (m.take j):=fun m=>by
      induction m with
      |nil=>intro j hm;rw[List.take_nil];exact hm
      |cons x m ih2=>
       intro j hm
       cases j with
       |zero=>exact True.intro
       |succ j=>exact⟨hm.1,ih2 j hm.2⟩
     exact this l k IA
   have b1:=mG (us:=us) zP;rw[alJ,sP] at b1;have b2:(us++bh (cm ((91,(l.length:Int))::ju (l.take k)))++bh (cm [(58,l[k].base)])).length<=us.length+31*(2*Ty.sizes (l.take k)+1)+31:=by
    have:=mG (us:=us++bh (cm ((91,(l.length:Int))::ju (l.take k)))) (l:=[(58,l[k].base)]) (fun p hp=>by rw[amc] at hp;rw[hp];exact hx.1);rw[alW] at this;omega
   rw[Me ak] at fF;refine⟨by omega,by rw[alv];omega,_,_,Ty.aq ak,_,mF (c:=58) hx.1 (by omega),fun r q ⟨e1,e2⟩=>⟨_,⟨e1,e2⟩,_,ih l[k].args (by omega) (by omega) hx.2 _ (by omega),fun r q ⟨e1,e2⟩=>⟨_,⟨e1,e2⟩,rfl,?_⟩⟩⟩;rw[aA (by omega),app,app,alU,amh,anu];exact fF
  ·have:l.length<=k:=by simpa using h
   rw[alI this];rfl
mutual
def Tm.kP:Tm->Prop
 | .mk b k i a=>Ty.im b/\jm k/\jm i/\Tm.im a
def Tm.im:List Tm->Prop
 | []=>True
 |t::l=>Tm.kP t/\Tm.im l
end
theorem Tm.nA:∀{l:List Tm},Tm.im l->∀t∈l,t.kP
 | [],_,t,h=>by cases h
 |u::l,h,t,ht=>by
  rcases al6.1 ht with rfl|ht
  ·exact h.1
  ·exact Tm.nA h.2 t ht
theorem Tm.ye {t:Tm} (h:t.kP):Ty.im t.binds/\jm t.kind/\jm t.index/\Tm.im t.args:=by cases t;exact h
theorem Tm.F5:∀(m:List Tm) (j:Nat),Tm.im m->Tm.im (m.take j)
 | [],j,h=>by rw[List.take_nil];exact h
 |x::m,0,h=>True.intro
 |x::m,j+1,h=>⟨h.1,Tm.F5 m j h.2⟩
theorem KX {l:List Ty} (h:Ty.im l) (hs:Ty.sizes l<=1000000):∀p∈G2 l,jm p.2:=fun p hp=>by
 have:=Ty.aw l;rcases al6.1 hp with rfl|hp
 ·exact nC (by omega)
 ·exact pk l h hs p hp
theorem wu (l:List Ty):(G2 l).length=2*Ty.sizes l+1:=by rw[G2,alJ,sP]
mutual
theorem Wu:∀t:Tm,(Dl t).length<=4*t.size
 | .mk b k i a=>by
  have h1:=yf a;have h2:=wu b;simp only[Dl,alz,alJ,Tm.size];omega
theorem yf:∀l:List Tm,(kx l).length<=4*Tm.sizes l
 | []=>alA _
 |t::l=>by
  have h1:=Wu t;have h2:=yf l;simp only[kx,alz,Tm.sizes];omega
end
mutual
theorem Wv:∀t:Tm,t.kP->t.size<=1000000->∀p∈Dl t,jm p.2
 | .mk b k i a,h,hs,p,hp=>by
  have h3:=Tm.aw a;simp only[Tm.size] at hs;simp only[Dl,amn,al6] at hp;rcases hp with hp|rfl|rfl|rfl|hp
  ·exact KX h.1 (by omega) p hp
  ·exact h.2.1
  ·exact h.2.2.1
  ·exact nC (by omega)
  ·exact yg a h.2.2.2 (by omega) p hp
theorem yg:∀l:List Tm,Tm.im l->Tm.sizes l<=1000000->∀p∈kx l,jm p.2
 | [],_,_,p,hp=>by cases hp
 |t::l,h,hs,p,hp=>by
  simp only[Tm.sizes] at hs;simp only[kx,amn] at hp;rcases hp with hp|hp
  ·exact Wv t h.1 (by omega) p hp
  ·exact yg l h.2 (by omega) p hp
end
theorem Mg {l:List Tm} {k:Nat} (h:k<l.length):kx (l.take (k+1))=kx (l.take k)++Dl l[k]:=by
 have app:∀a b:List Tm,kx (a++b)=kx a++kx b:=fun a b=>by
  induction a with
  |nil=>rfl
  |cons x a ih=>rw[amh,kx,kx,ih,alU]
 rw[alL h,app,kx,kx,alV]
@[simp] theorem aee (f:FuncId):Fence.wide.fn f=True:=rfl
@[simp] theorem ZC:Fence.wide.depth=none:=rfl
set_option maxHeartbeats 1600000
theorem sQ (w:World):(callFunc 227 #[]).run Tryz.prog w=.ok (.value (.tuple #[])) w:=run_call_mark0 Tryz.func227 (by kernel_rfl) (by kernel_rfl) (by kernel_rfl) .disable (by kernel_rfl) w
theorem vc (w:World):(callFunc 229 #[]).run Tryz.prog w=.ok (.value (.tuple #[])) w:=run_call_mark0 Tryz.func229 (by kernel_rfl) (by kernel_rfl) (by kernel_rfl) .enable (by kernel_rfl) w
theorem CJ (a:Addr) (w:World):(callFunc 230 #[.pointer (some a)]).run Tryz.prog w=.ok (.value (.tuple #[])) w:=run_call_marked Tryz.func230 (by kernel_rfl) (by kernel_rfl) (by kernel_rfl) .acquire (by kernel_rfl) a w
theorem CK (a:Addr) (w:World):(callFunc 232 #[.pointer (some a)]).run Tryz.prog w=.ok (.value (.tuple #[])) w:=run_call_marked Tryz.func232 (by kernel_rfl) (by kernel_rfl) (by kernel_rfl) .releaseMerge (by kernel_rfl) a w
theorem yh (a:Addr) (x:Value) (u:FrameMode) (w:World) (hc:w.cell? a=some x) (hz:w.frozen? a=false):
  CallsDIn Fence.wide 0 Tryz.prog 193 #[.pointer (some a),.bool true] u w fun e u' w'=>u'=u/\(e=.returned (.tuple #[])/\w'=w.drew.setCell a (.int .u32 1)):=by
 have GZ:w.drew.cell? a=some x:=by go_simp
 have hz':w.drew.frozen? a=false:=by go_simp
 have qv:=run_call_store (P:=Tryz.prog) Tryz.func214 (by kernel_rfl) (by kernel_rfl) (by kernel_rfl) (by kernel_rfl) (k:=.u32) (y:=1) GZ hz'
 gi_enter_d Tryz.func193,Tryz.ntmps193
 gi_wp2
 gi_region
 all_goals (go_end0;exact⟨rfl,rfl⟩)
theorem IB (a:Addr) (w:World) (hc:w.cell? a=some (.int .i32 0)) (hz:w.frozen? a=false):
  CallsIn Fence.wide 0 Tryz.prog 212 #[.pointer (some a)] w fun e w'=>e=.returned (.tuple #[])/\w'=w.setCell a (.int .i32 1):=by
 have hd:=sQ;have he:=vc;have ha:=CJ;have aj6:=run_call_cas_hit (P:=Tryz.prog) Tryz.func228 (by kernel_rfl) (by kernel_rfl) (by kernel_rfl) .i32 (by kernel_rfl) (y:=1) hc hz;have GZ:(w.setCell a (.int .i32 1)).cell? a=some (.int .i32 1):=World.cell?_setCell_same w a _ hc;have hcv:=run_convert_to_unsafe (P:=Tryz.prog) (src:=323) (dst:=289) Tryz.underlying323 Tryz.underlying289 (by kernel_rfl) GZ
 gi_enter Tryz.func212,Tryz.ntmps212
 gi_wp2
 first|go_end0|(simp only[Exit.inBlock,Exit.then];refine bodyPost_ret (results_none rfl _ _ _) rfl ?_)|refine bodyPost_ret (results_none rfl _ _ _) rfl ?_
 all_goals (first|exact⟨rfl,rfl⟩|(gi_wp2;go_end0;exact⟨rfl,rfl⟩))
theorem Mh (a:Addr) (w:World) (hc:w.cell? a=some (.int .i32 0)) (hz:w.frozen? a=false):
  CallsIn Fence.wide 0 Tryz.prog 191 #[.pointer (some a)] w fun e w'=>e=.returned (.tuple #[])/\w'=w.setCell a (.int .i32 1):=by
 gi_enter Tryz.func191,Tryz.ntmps191
 gi_wp2_with (gi_at_call 212;refine(IB a _ hc hz).mono ?_;rintro e w' ⟨rfl,rfl⟩)
 go_end0
 exact⟨rfl,rfl⟩
theorem CL (a:Addr) (w:World) (hc:w.cell? a=some (.int .i32 1)) (hz:w.frozen? a=false):
  CallsIn Fence.wide 0 Tryz.prog 213 #[.pointer (some a)] w fun e w'=>e=.returned (.tuple #[])/\w'=w.setCell a (.int .i32 0):=by
 have hd:=sQ;have he:=vc;have hr:=CK;have aj8:=run_call_add (P:=Tryz.prog) Tryz.func233 (by kernel_rfl) (by kernel_rfl) (by kernel_rfl) .i32 (by kernel_rfl) (y := -1) (s:=0) hc hz (by simp[go_sem];rfl);have hcv:=run_convert_to_unsafe (P:=Tryz.prog) (src:=323) (dst:=289) Tryz.underlying323 Tryz.underlying289 (by kernel_rfl) hc
 gi_enter Tryz.func213,Tryz.ntmps213
 gi_wp2
 all_goals (first|exact⟨rfl,rfl⟩|(go_end0;exact⟨rfl,rfl⟩))
theorem vS (a:Addr) (u:FrameMode) (w:World) (hc:w.cell? a=some (.int .i32 1)) (hz:w.frozen? a=false):
  CallsDIn Fence.wide 0 Tryz.prog 192 #[.pointer (some a)] u w fun e u' w'=>u'=u/\(e=.returned (.tuple #[])/\w'=w.setCell a (.int .i32 0)):=by
 gi_enter_d Tryz.func192,Tryz.ntmps192
 gi_wp2_with (gi_at_call 213;refine(CL a _ hc hz).mono ?_;rintro e w' ⟨rfl,rfl⟩)
 go_end0
 exact⟨rfl,rfl⟩
theorem ug (a:Addr) (d:Int) (w:World) (hc:w.cell? a=some (.int .u32 d)):
  CallsIn Fence.wide 0 Tryz.prog 169 #[.pointer (some a)] w fun e w'=>e=.returned (.bool (d != 0))/\w'=w:=by
 have hl:=run_call_load (P:=Tryz.prog) Tryz.func190 (by kernel_rfl) (by kernel_rfl) (by kernel_rfl) .u32 (by kernel_rfl) hc
 gi_enter Tryz.func169,Tryz.ntmps169
 gi_wp2
 go_ret
 exact⟨rfl,rfl⟩
section
set_option maxHeartbeats 1600000
theorem RE (b off:Nat) (f:FuncId) (caps:Array Value) (Mi:World->Prop) (w:World)
  (h0:w.cell? ⟨b,off,none⟩=some (.int .u32 0)) (h1:w.cell? ⟨b,off+1,none⟩=some (.int .i32 0)) (f0:w.frozen? ⟨b,off,none⟩=false) (f1:w.frozen? ⟨b,off+1,none⟩=false)
  (hc:iW Tryz.prog f)
  (hf:CallsIn Fence.wide 0 Tryz.prog f caps (w.setCell ⟨b,off+1,none⟩ (.int .i32 1)) fun e w'=>e=.returned (.tuple #[])/\w'.cell? ⟨b,off,none⟩=some (.int .u32 0)/\w'.cell? ⟨b,off+1,none⟩=some (.int .i32 1)/\
   w'.frozen? ⟨b,off,none⟩=false/\w'.frozen? ⟨b,off+1,none⟩=false/\Mi w'):
  CallsIn Fence.wide 0 Tryz.prog 170 #[.pointer (some ⟨b,off,none⟩),.func (.func f) #[] caps] w fun e w'=>e=.returned (.tuple #[])/\
   ∃w1,Mi w1/\w'=(w1.drew.setCell ⟨b,off,none⟩ (.int .u32 1)).setCell ⟨b,off+1,none⟩ (.int .i32 0):=by
 have h01:(w.setCell ⟨b,off+1,none⟩ (.int .i32 1)).cell? ⟨b,off,none⟩=some (.int .u32 0):=((World.cell?_setCell_other _ ⟨b,off+1,none⟩ ⟨b,off,none⟩ _ (by simp)).trans h0);have adp:∀(x:Bool) (w:World),(Op.unary .not (.bool x)).run Tryz.prog w=.ok (.bool (!x)) w:=fun _ _=>rfl;have fz:=fun(args:Array Value) (w:World)=>jE hc args w
 gi_enter_defers Tryz.func170,Tryz.ntmps170
 gi_wp2_with (first|(gi_at_call 169;refine(ug ⟨b,off,none⟩ 0 _ h01).mono ?_;rintro e w' ⟨rfl,rfl⟩)|(gi_at_call 191;refine(Mh ⟨b,off+1,none⟩ _ (by go_simp) (by go_simp)).mono ?_;rintro e w' ⟨rfl,rfl⟩)|(with_reducible refine CallsIn.mono hf ?_;rintro e w1 ⟨rfl,g0,g1,gf0,gf1,bf⟩))
 refine leavesIn_cons (f:=193) (args:=#[.pointer (some ⟨b,off,none⟩),.bool true]) (by simp) (by simp) (by simp[go_sem]) (by simp[Target.leads]) ?_;refine(yh ⟨b,off,none⟩ (.int .u32 0) .returning _ g0 gf0).mono ?_
 rintro e u' w'' ⟨rfl,rfl,rfl⟩
 refine leavesIn_cons (f:=192) (args:=#[.pointer (some ⟨b,off+1,none⟩)]) (by simp[settle]) (by simp) (by simp[go_sem]) (by simp[Target.leads]) ?_;refine(vS ⟨b,off+1,none⟩ _ _ ?_ (by simp[gf1])).mono ?_
 ·refine(World.cell?_setCell_other _ ⟨b,off,none⟩ ⟨b,off+1,none⟩ _ (by simp)).trans ?_;rw[World.cell?_drew];exact g1
 rintro e u' w'' ⟨rfl,rfl,rfl⟩
 simp[LeavesIn,settle,results,Tryz.results170];exact⟨w1,bf,rfl⟩
theorem RF (b off:Nat) (f:FuncId) (caps:Array Value) (Mi:World->Prop) (w:World)
  (h0:w.cell? ⟨b,off,none⟩=some (.int .u32 0)) (h1:w.cell? ⟨b,off+1,none⟩=some (.int .i32 0)) (f0:w.frozen? ⟨b,off,none⟩=false) (f1:w.frozen? ⟨b,off+1,none⟩=false)
  (hc:iW Tryz.prog f)
  (hf:CallsIn Fence.wide 0 Tryz.prog f caps (w.setCell ⟨b,off+1,none⟩ (.int .i32 1)) fun e w'=>e=.returned (.tuple #[])/\w'.cell? ⟨b,off,none⟩=some (.int .u32 0)/\w'.cell? ⟨b,off+1,none⟩=some (.int .i32 1)/\
   w'.frozen? ⟨b,off,none⟩=false/\w'.frozen? ⟨b,off+1,none⟩=false/\Mi w'):
  CallsIn Fence.wide 0 Tryz.prog 120 #[.pointer (some ⟨b,off,none⟩),.func (.func f) #[] caps] w fun e w'=>e=.returned (.tuple #[])/\
   ∃w1,Mi w1/\w'=(w1.drew.setCell ⟨b,off,none⟩ (.int .u32 1)).setCell ⟨b,off+1,none⟩ (.int .i32 0):=by
 have adp:∀(x:Bool) (w:World),(Op.unary .not (.bool x)).run Tryz.prog w=.ok (.bool (!x)) w:=fun _ _=>rfl
 gi_enter Tryz.func120,Tryz.ntmps120
 gi_wp2_with (first|(gi_at_call 169;refine(ug ⟨b,off,none⟩ 0 _ h0).mono ?_;rintro e w' ⟨rfl,rfl⟩)|(gi_at_call 170;refine(RE b off f caps Mi _ h0 h1 f0 f1 hc hf).mono ?_;rintro e w' ⟨rfl,w1,fG,rfl⟩))
 go_end0
 exact⟨rfl,w1,fG,rfl⟩
theorem RG (a:Addr) (d:Int) (hd:¬d=0) (fv:Value) (w:World) (h0:w.cell? a=some (.int .u32 d)):
  CallsIn Fence.wide 0 Tryz.prog 120 #[.pointer (some a),fv] w fun e w'=>e=.returned (.tuple #[])/\w'=w:=by
 have adp:∀(x:Bool) (w:World),(Op.unary .not (.bool x)).run Tryz.prog w=.ok (.bool (!x)) w:=fun _ _=>rfl;have dv:(d != 0)=true:=by simp[hd]
 gi_enter Tryz.func120,Tryz.ntmps120
 gi_wp2_with (gi_at_call 169;refine(ug a d _ h0).mono ?_;rintro e w' ⟨rfl,rfl⟩)
 go_end0
 exact⟨rfl,rfl⟩
variable {w w' w1 w2:World} {F:Nat->Nat->Prop} {η aN jP jQ:List Value} {hp hp' fG mO:List af} {r r1 r2:AV} {v v1 v2:Value}
theorem ft {u v:Value} (h:bm w F η hp (.ae u) v):v=u:=by cases h;rfl
theorem adq {o:af} {u:Value} {b:Nat} (dB:fM w F η hp o u) (hl:o.live) (hb:ct u=some b):b<w.heap.size:=by
 cases o with
 |dead=>exact hl.elim
 |box cs=>obtain⟨b',vs,T,rfl,h1,_⟩:=dB;simp only[ct,als] at hb;subst hb;exact bo h1
 |row e size els=>obtain⟨_,xs,h1,_⟩:=dB;obtain⟨cur,h5⟩:=h1.lt hb;exact bo h5
 |aJ es=>obtain⟨b',en,c,rfl,h1,_⟩:=dB;simp only[ct,als] at hb;subst hb;exact bo h1
 |cU q k=>obtain⟨b',vs,rfl,h1,_⟩:=dB;simp only[ct,als] at hb;subst hb;exact bo h1
 |aQ e size els=>obtain⟨_,xs,h1,_⟩:=dB;obtain⟨cur,h5⟩:=h1.lt hb;exact bo h5
 |dN e m ns=>obtain⟨cur,h5⟩:=eS.lt dB hb;exact bo h5
theorem dU.pre (aR:kE w F η hp) (h:dU w F η hp w' aN hp' r v):kE w' (bO F w η hp w' aN hp') aN hp':=
 ⟨fun b o hb=>hb.2,h.heap,fun b ⟨r,o,v,g1,g2,g3,g4⟩=>adq (h.heap.obj r o v g1 g3) g2 g4,aR.gL.keeps h.keeps aR.gx,fun b hb hl=>(h.bM b hl).elim (fun hs=>absurd (aR.gL.lt hb) (by omega)) (aR.gx b hb)⟩
theorem dU.trans (h:dU w F η hp w1 jP fG r1 v1) (k:dU w1 (bO F w η hp w1 jP fG) jP fG w2 jQ mO r2 v2):dU w F η hp w2 jQ mO r2 v2:=by
 have NQ:∀b o,bO (bO F w η hp w1 jP fG) w1 jP fG w2 jQ mO b o->bO F w η hp w2 jQ mO b o:=fun b o ⟨h1,h2⟩=>⟨by
  rcases h1 with h1|h1|h1
  ·exact h1.1
  ·exact .inr (.inl (amf h.keeps.size h1))
  ·exact .inr (h.bM b h1),h2⟩
 have hx:Ext w2 (bO (bO F w η hp w1 jP fG) w1 jP fG w2 jQ mO) jQ mO w2 (bO F w η hp w2 jQ mO) jQ mO:=⟨fun _ _ _ _ h=>h,fun _ _ _ _ h=>h,NQ,fun _ _ h=>h,fun _ _ h=>h,fun _ _ _ h=>h⟩;exact⟨h.keeps.trans k.keeps (fun i hi hl=>(h.bM i hl).elim (fun h=>absurd hi (by omega)) id),(h.ext.trans k.ext).trans hx,⟨k.heap.len,fun r o v e1 e2=>(k.heap.obj r o v e1 e2).ext hx (alA _) fun _ _ _=>rfl,k.heap.sep⟩,
  fun b hb=>(k.bM b hb).elim (fun h1=>.inl (amf h.keeps.size h1)) (h.bM b),k.rep.ext hx⟩
theorem rf {q o:Nat} {cs:List AV} {b:Nat} {u u0:Value} (aR:kE w F η hp) (hq:hp[q]?=some (.box cs)) (hb:η[q]?=some (.pointer (some ⟨b,0,none⟩)))
  (hk:bE (fun _=>False) w w1) (hs:w1.heap=w.heap) (hu:u.oneCell'=true) (h0:cs[o]?=some (.ae u0)):
  dU w F η hp (w1.setCell ⟨b,o,none⟩ u) η (hp.set q (.box (cs.set o (.ae u)))) (.aL []) (.tuple #[]):=by
 obtain⟨b',vs,T,e1,e2,e3,e4⟩:=aR.heap.obj q _ _ hq hb;cases e1;have hv:w1.heap[b]?=some (.cells vs T (0,0)):=by rw[hs];exact e2
 have g:=heap_setCell_same w1 b o vs T u hv;refine Al (vs':=vs.setIfInBounds o u) (T:=T) aR hq hb ⟨hk.os,hk.tape,hk.output,by simp[hs],fun k _ hk=>?_⟩ (by simp[hs]) g (by simp[e3]) (fun j x y hx hy=>?_) (.aL [] #[] rfl fun j y u hy _=>by cases hy)
 ·rw[heap_setCell_other _ _ _ _ hk,hs]
 ·rw[amG] at hy;rw[amr] at hx
  by_cases hj:o=j
  ·subst hj;rw[if_pos rfl] at hx hy;split at hx
   ·split at hy
    ·cases hx;cases hy;exact⟨.ae _,hu⟩
    ·cases hy
   ·cases hx
  ·rw[if_neg hj] at hx hy;exact e4 j x y hx hy
theorem pn {q off:Nat} {f:FuncId} {caps:List AV} {H:List af} {cs:List AV} {R:AV->List af->Prop} (hq:H[q]?=some (.box cs))
  (h0:cs[off]?=some (.ae (.int .u32 0))) (h1:cs[off+1]?=some (.ae (.int .i32 0)))
  (hf:bH Tryz.prog f caps (H.set q (.box (cs.set (off+1) (.ae (.int .i32 1))))) R)
  (hR:∀r h,R r h->r=.aL []/\∃cs',h[q]?=some (.box cs')/\cs'[off]?=some (.ae (.int .u32 0))/\cs'[off+1]?=some (.ae (.int .i32 1))):
  bH Tryz.prog 120 [.ptr q off,.aY f caps] H (fun r h'=>r=.aL []/\∃h cs',R (.aL []) h/\h[q]?=some (.box cs')/\h'=h.set q (.box ((cs'.set off (.ae (.int .u32 1))).set (off+1) (.ae (.int .i32 0))))):=by
 refine⟨⟨_,Tryz.func120,by kernel_rfl,by kernel_rfl⟩,fun w F η bb aR hv=>?_⟩
 match bb,hv with
 | [v0,v1],⟨r0,r1,_⟩=>
  obtain⟨b,rfl,hb⟩:∃b,v0=.pointer (some ⟨b,off,none⟩)/\η[q]?=some (.pointer (some ⟨b,0,none⟩)):=by cases r0 with|ptr _ _ b h1=>exact⟨b,rfl,h1⟩
  obtain⟨cv,rfl,hl,hc⟩:∃cv:Array Value,v1=.func (.func f) #[] cv/\cv.size=caps.length/\∀(j:Nat) (x:AV) (u:Value),caps[j]?=some x->cv[j]?=some u->bm w F η H x u:=by cases r1 with|aY _ _ cv hl hc=>exact⟨cv,rfl,hl,hc⟩
  obtain⟨b',vs,T,e1,e2,e3,e4⟩:=aR.heap.obj q _ _ hq hb;cases e1;have cell:∀{k:Nat} {u:Value},cs[k]?=some (.ae u)->w.cell? ⟨b,k,none⟩=some u:=fun {k u} hk=>by
   have ak:k<vs.size:=by rw[e3];exact(alu.1 hk).1
   have he:=ft (e4 k _ _ hk (alX ak)).1;simp only[World.cell?,e2];rw[alX ak,he];rfl
  have adr:∀k,w.frozen? ⟨b,k,none⟩=false:=fun k=>by simp[World.frozen?,e2]
  have p1:=rf (u:=.int .i32 1) aR hq hb (bE.refl _ w) rfl rfl h1;have ahh:=p1.pre aR;have jZ:=hf.2 _ _ _ cv.toList ahh (cF (by simpa using hl) fun j x u hx hu=>(hc j x u hx (by simpa using hu)).ext p1.ext);have Bq:q<H.length:=(alu.1 hq).1;refine(RF b off f cv (fun w2=>∃h jQ,R (.aL []) h/\dU w F η H w2 jQ h (.aL []) (.tuple #[])/\jQ[q]?=some (.pointer (some ⟨b,0,none⟩))) w (cell h0) (cell h1) (adr _) (adr _) hf.1 (jZ.mono ?_)).mono ?_
  ·rintro e w2 ⟨v,r,h,jQ,rfl,hr,bf⟩
   obtain⟨rfl,cs',M4,k0,k1⟩:=hR r h hr;have hv:v=.tuple #[]:=by
    have:=bf.rep
    cases this with
    |aL _ vs hl _=>cases vs with|mk l=>cases l with|nil=>rfl|cons=>simp at hl
   subst hv;have Ww:=bf.ext.ptr q _ hb;obtain⟨b2,vs2,T2,g1,g2,g3,g4⟩:=bf.heap.obj q _ _ M4 Ww;cases g1;have XO:∀{k:Nat} {u:Value},cs'[k]?=some (.ae u)->w2.cell? ⟨b,k,none⟩=some u:=fun {k u} hk=>by
    have ak:k<vs2.size:=by rw[g3];exact(alu.1 hk).1
    have he:=ft (g4 k _ _ hk (alX ak)).1;simp only[World.cell?,g2];rw[alX ak,he];rfl
   exact⟨rfl,XO k0,XO k1,by simp[World.frozen?,g2],by simp[World.frozen?,g2],h,jQ,hr,p1.trans bf,Ww⟩
  ·rintro e w3 ⟨rfl,w2,⟨h,jQ,hr,bf,Ww⟩,rfl⟩
   obtain⟨_,cs',M4,k0,k1⟩:=hR _ h hr;have adt:=bf.pre aR;have p3:=rf (w1:=w2.drew) (u:=.int .u32 1) adt M4 Ww ⟨rfl,rfl,rfl,alA _,fun _ _ _=>rfl⟩ rfl rfl k0;have hq3:(h.set q (.box (cs'.set off (.ae (.int .u32 1)))))[q]?=some (.box (cs'.set off (.ae (.int .u32 1)))):=by
    rw[amr,if_pos rfl,if_pos (alu.1 M4).1]
   have p4:=rf (u:=.int .i32 0) (p3.pre adt) hq3 Ww (bE.refl _ _) rfl rfl (o:=off+1) (u0:=.int .i32 1) (by rw[amr,if_neg (by omega)];exact k1);refine⟨_,.aL [],_,jQ,rfl,⟨rfl,h,cs',hr,M4,rfl⟩,?_⟩;have jR:=bf.trans p3;have:=bf.trans (p3.trans p4)
   rwa [List.set_set] at this
theorem po {q off:Nat} {f:FuncId} {caps:List AV} {H:List af} {cs:List AV} {d:Int} (hq:H[q]?=some (.box cs)) (h0:cs[off]?=some (.ae (.int .u32 d))) (hd:¬d=0):
  bH Tryz.prog 120 [.ptr q off,.aY f caps] H (fun r h'=>r=.aL []/\h'=H):=by
 refine⟨⟨_,Tryz.func120,by kernel_rfl,by kernel_rfl⟩,fun w F η bb aR hv=>?_⟩
 match bb,hv with
 | [v0,v1],⟨r0,r1,_⟩=>
  obtain⟨b,rfl,hb⟩:∃b,v0=.pointer (some ⟨b,off,none⟩)/\η[q]?=some (.pointer (some ⟨b,0,none⟩)):=by cases r0 with|ptr _ _ b h1=>exact⟨b,rfl,h1⟩
  obtain⟨b',vs,T,e1,e2,e3,e4⟩:=aR.heap.obj q _ _ hq hb;cases e1;have ak:off<vs.size:=by rw[e3];exact(alu.1 h0).1
  have aE:w.cell? ⟨b,off,none⟩=some (.int .u32 d):=by
   have he:=ft (e4 off _ _ h0 (alX ak)).1;simp only[World.cell?,e2];rw[alX ak,he];rfl
  refine(RG ⟨b,off,none⟩ d hd _ w aE).mono ?_
  rintro e w' ⟨rfl,rfl⟩
  refine⟨_,.aL [],_,η,rfl,⟨rfl,rfl⟩,?_⟩;have:=Al (cs':=cs) (r0:=.aL []) (v:=.tuple #[]) aR hq hb (bE.refl _ _) rfl e2 e3 e4 (.aL [] #[] rfl fun j y u hy _=>by cases hy);have qf:H.set q (.box cs)=H:=by
   obtain⟨hl,he⟩:=alu.1 hq;rw[<-he];exact List.set_getElem_self hl
  rwa [qf] at this
end
set_option maxHeartbeats 3200000
theorem XP (i:Nat) (h:i<1000000):IntKind.wrap .i64 (Int.tdiv (i:Int) 64)=((i / 64:Nat):Int):=by
 have:Int.tdiv (i:Int) 64=((i / 64:Nat):Int):=by rw[Int.tdiv_eq_ediv_of_nonneg (by omega)];omega
 rw[this];exact IntWalk.i64_in _ (by omega)
theorem XQ (i:Nat):Int.tmod (i:Int) 64=((i % 64:Nat):Int):=by rw[Int.tmod_eq_emod_of_nonneg (by omega)];omega
theorem Wx (x k:Nat) (hx:x<2 ^ 64):(bits .and .u64 ((x:Int) / 2 ^ k) 1==1)=x.testBit k:=by
 have e:(x:Int) / 2 ^ k=((x / 2 ^ k:Nat):Int):=by simp
 have ak:x / 2 ^ k<18446744073709551616:=Nat.lt_of_le_of_lt (Nat.div_le_self _ _) hx;rw[e,show (1:Int)=((1:Nat):Int) from rfl,bits_and_u64_nat _ _ ak (by omega),Nat.testBit,Nat.shiftRight_eq_div_pow,Nat.and_comm];have h2:1 &&& x / 2 ^ k=(x / 2 ^ k) % 2:=by rw[Nat.and_comm,Nat.and_one_is_mod]
 rw[h2];rcases Nat.mod_two_eq_zero_or_one (x / 2 ^ k) with h|h<;>rw[h]<;>rfl
theorem F6 (b o n c:Nat) (f:Nat->Nat) (i:Nat) (w:World) (hi:i / 64<n) (hil:i<1000000) (hc:∀j,j<n->w.cell? ⟨b,o+j,none⟩=some (.int .u64 (f j))) (hf:∀j,f j<2 ^ 64):
  Calls Tryz.prog 119 #[.slice (some ⟨b,o,none⟩) n c,.int .i64 i] w fun e w'=>e=.returned (.bool ((f (i / 64)).testBit (i % 64)))/\w'=w:=by
 have h1:=hc (i / 64) hi;have q:=XP i hil;have r:=XQ i
 go_enter Tryz.func119,Tryz.ntmps119
 go_wp2
 go_ret
 exact⟨congrArg Ending.returned (congrArg Value.bool (Wx _ _ (hf _))),rfl⟩
theorem ZD (x k:Nat) (hx:x<2 ^ 64) (hk:k<64):bits .or .u64 (x:Int) (IntKind.wrap .u64 (2 ^ k))=((x ||| 2 ^ k:Nat):Int):=by
 have h2:2 ^ k<18446744073709551616:=Nat.lt_of_le_of_lt (Nat.pow_le_pow_right (by omega) (show k<=63 by omega)) (by decide);have e:IntKind.wrap .u64 (2 ^ k)=((2 ^ k:Nat):Int):=by
  rw[show ((2:Int) ^ k)=((2 ^ k:Nat):Int) by simp];exact Int.emod_eq_of_lt (Int.natCast_nonneg _) (by exact_mod_cast h2)
 rw[e,bits_or_u64_nat _ _ hx h2]
structure lp (b:Nat) (t:TypeId) (n:Nat) (f g:Nat->Nat) (w:World) (r:Nat) (wr:World):Prop where
 row:wr.rowIs b t n (fun j=>.int .u64 (if j<r then(f j ||| g j:Nat) else f j))
 keeps:bE (fun k=>k=b) w wr
 size:wr.heap.size=w.heap.size
theorem lp.start {b:Nat} {t:TypeId} {n:Nat} {f g:Nat->Nat} {w:World} (hc:w.rowIs b t n (fun j=>.int .u64 (f j))):lp b t n f g w 0 w:=
 ⟨hc.congr (fun j _=>by simp),bE.refl _ _,rfl⟩
theorem lp.here {b:Nat} {t:TypeId} {n:Nat} {f g:Nat->Nat} {w wr:World} {r:Nat} (h:lp b t n f g w r wr) (hr:r<n):wr.cell? ⟨b,r,none⟩=some (.int .u64 (f r)):=by
 have:=h.row.cell hr;simpa using this
theorem lp.there {b b2:Nat} {t:TypeId} {n:Nat} {f g:Nat->Nat} {w wr:World} {r:Nat} (h:lp b t n f g w r wr) (hr:r<n) (hs:b=b2->∀j,f j=g j) (hg:w.cell? ⟨b2,r,none⟩=some (.int .u64 (g r))):
  wr.cell? ⟨b2,r,none⟩=some (.int .u64 (g r)):=by
 by_cases e:b=b2
 ·subst e;rw[<-hs rfl r];exact h.here hr
 ·rw[h.keeps.cell (World.block_lt_of_cell? _ _ hg) (fun e2=>e e2.symm)];exact hg
theorem lp.step {b:Nat} {t:TypeId} {n:Nat} {f g:Nat->Nat} {w wr:World} {r:Nat} (h:lp b t n f g w r wr) (hr:r<n):lp b t n f g w (r+1) (wr.setCell ⟨b,r,none⟩ (.int .u64 ((f r ||| g r:Nat)))).drew:=by
 refine⟨((h.row.set r _).congr fun j _=>?_).drew,⟨h.keeps.os,h.keeps.tape,h.keeps.output,by simpa using h.keeps.size,fun k h1 h2=>?_⟩,by simp[h.size]⟩
 ·by_cases e:j=r
  ·subst e;simp
  ·rw[if_neg e]
   by_cases hl:j<r
   ·rw[if_pos hl,if_pos (by omega)]
   ·rw[if_neg hl,if_neg (by omega)]
 ·show (wr.setCell _ _).heap[k]?=_;rw[heap_setCell_other _ _ _ _ h2];exact h.keeps.block k h1 h2
theorem RH (b n c:Nat) (t:TypeId) (f:Nat->Nat) (i:Nat) (w:World) (hi:i / 64<n) (hil:i<1000000) (hc:w.rowIs b t n (fun j=>.int .u64 (f j))) (hf:∀j,f j<2 ^ 64):
  Calls Tryz.prog 167 #[.slice (some ⟨b,0,none⟩) n c,.int .i64 i] w fun e w'=>e=.returned (.tuple #[])/\w'=(w.setCell ⟨b,i / 64,none⟩ (.int .u64 ((f (i / 64) ||| 2 ^ (i % 64):Nat)))).drew:=by
 have h1:w.cell? ⟨b,i / 64,none⟩=some (.int .u64 (f (i / 64))):=hc.cell hi;have h2:w.frozen? ⟨b,i / 64,none⟩=false:=hc.frozen _;have q:=XP i hil;have r:=XQ i
 go_enter Tryz.func167,Tryz.ntmps167
 go_wp2
 go_big_region
 rw[ZD _ _ (hf _) (Nat.mod_lt _ (by omega))]
 go_end0
 exact⟨rfl,rfl⟩
theorem Mj (b b2 n c c2 n2:Nat) (t:TypeId) (f g:Nat->Nat) (w:World) (hn:n<=n2) (hnb:n<=1000000) (hc:w.rowIs b t n (fun j=>.int .u64 (f j))) (hg:∀j,j<n->w.cell? ⟨b2,j,none⟩=some (.int .u64 (g j)))
  (hf:∀j,f j<2 ^ 64) (hg2:∀j,g j<2 ^ 64) (hs:b=b2->∀j,f j=g j):
  Calls Tryz.prog 168 #[.slice (some ⟨b,0,none⟩) n c,.slice (some ⟨b2,0,none⟩) n2 c2] w fun e w'=>e=.returned (.tuple #[])/\lp b t n f g w n w':=by
 go_enter Tryz.func168,Tryz.ntmps168
 go_wp2
 go_loopg [4,7] n (fun k s4 s7 wr=>∃r:Nat,r<=n/\k=n-r/\s7=.int .i64 r/\lp b t n f g w r wr)
 case atStart=>exact⟨0,alE _,rfl,rfl,lp.start hc⟩
 case round=>
  obtain⟨r,hr,rfl,rfl,hJ⟩:=hrel
  by_cases Z0:r<n
  ·have hrz:(r:Int)<(n:Int):=by omega
   have h1:wr.cell? ⟨b,r,none⟩=some (.int .u64 (f r)):=hJ.here Z0;have h2:wr.frozen? ⟨b,r,none⟩=false:=hJ.row.frozen r;have h3:wr.cell? ⟨b2,r,none⟩=some (.int .u64 (g r)):=hJ.there Z0 hs (hg r Z0);have h4:=bits_or_u64_nat (f r) (g r) (hf r) (hg2 r)
   go_wp2
   go_big_region
   go_wp2
   go_roundg (n-(r+1))
   case measure=>go_light;omega
   case rel=>go_light;exact⟨r+1,by omega,rfl,by simp,hJ.step Z0⟩
  ·have hrz:¬((r:Int)<(n:Int)):=by omega
   go_wp2
   go_end0
   obtain rfl:r=n:=by omega
   exact⟨rfl,hJ⟩
abbrev ZZ:=Nat->Nat->Nat
def ep (Z:ZZ) (a b:Nat):Bool:=(Z a (b / 64)).testBit (b % 64)
def F7 (Z:ZZ) (a b:Nat):ZZ:=fun r c=>if r=a/\c=b / 64 then Z a (b / 64) ||| 2 ^ (b % 64) else Z r c
def dh (P:Nat->Nat×Nat):Nat->ZZ
 |0=>fun _ _=>0
 |m+1=>F7 (dh P m) (P m).1 (P m).2
def vd (Z:ZZ) (i k:Nat):ZZ:=fun r c=>if r=i then Z i c ||| Z k c else Z r c
def F8 (k i:Nat) (Z:ZZ):ZZ:=if ep Z i k then vd Z i k else Z
def wv (k:Nat):Nat->ZZ->ZZ
 |0,Z=>Z
 |i+1,Z=>F8 k i (wv k i Z)
def fu (n:Nat):Nat->ZZ->ZZ
 |0,Z=>Z
 |k+1,Z=>wv k n (fu n k Z)
def cK (Z:ZZ):Prop:=∀r c,Z r c<2 ^ 64
theorem cK.put {Z:ZZ} (h:cK Z) (a b:Nat):cK (F7 Z a b):=fun r c=>by
 unfold F7;split
 ·exact Nat.or_lt_two_pow (h _ _) (Nat.pow_lt_pow_right (by omega) (Nat.mod_lt _ (by omega)))
 ·exact h r c
theorem cK.Wy (P:Nat->Nat×Nat):∀m,cK (dh P m)
 |0=>fun _ _=>by simp[dh]
 |m+1=>(cK.Wy P m).put _ _
theorem cK.join {Z:ZZ} (h:cK Z) (i k:Nat):cK (vd Z i k):=fun r c=>by
 unfold vd;split
 ·exact Nat.or_lt_two_pow (h _ _) (h _ _)
 ·exact h r c
theorem cK.row {Z:ZZ} (h:cK Z) (k i:Nat):cK (F8 k i Z):=by
 unfold F8;split
 ·exact h.join _ _
 ·exact h
theorem cK.inn {Z:ZZ} (h:cK Z) (k:Nat):∀i,cK (wv k i Z)
 |0=>h
 |i+1=>(cK.inn h k i).row _ _
theorem cK.war {Z:ZZ} (h:cK Z) (n:Nat):∀k,cK (fu n k Z)
 |0=>h
 |k+1=>(cK.war h n k).inn _ _
def CM (N K r:Nat):Nat->Value:=fun j=>if j<r then .slice (some ⟨N+1+j,0,none⟩) K K else .slice none 0 0
structure cH (w wr:World) (n K r:Nat) (Z:ZZ):Prop where
 since:w.Since w.heap.size wr
 size:w.heap.size+1+r<=wr.heap.size
 top:wr.rowIs w.heap.size 192 n (CM w.heap.size K r)
 rows:∀j,j<r->wr.rowIs (w.heap.size+1+j) 262 K (fun c=>.int .u64 (Z j c))
theorem cH.start (w:World) (n K:Nat) (Z:ZZ):cH w (w.alloc (.cells (madeCells #[.slice none 0 0] n) 192)) n K 0 Z:=
 ⟨(World.Since.refl _ _).alloc (alA _) _,by simp,(World.rowIs_made w _ n 192).congr (fun j _=>by simp[CM]),fun j hj=>absurd hj (ans _)⟩
theorem cH.more {w wr:World} {n K r:Nat} (h:cH w wr n K r (fun _ _=>0)) (hs:wr.heap.size=w.heap.size+1+r):
  cH w ((wr.alloc (.cells (madeCells #[.int .u64 0] K) 262)).setCell ⟨w.heap.size,r,none⟩ (.slice (some ⟨w.heap.size+1+r,0,none⟩) K K)) n K (r+1) (fun _ _=>0):=by
 have oN:=World.rowIs_made wr (.int .u64 0) K 262;rw[hs] at oN;refine⟨(h.since.alloc (by rw[hs];omega) _).setCell (alA _) _,by simp[hs];omega,((h.top.alloc _).set r _).congr (fun j _=>?_),fun j hj=>?_⟩
 ·simp only[CM]
  by_cases e:j=r
  ·subst e;simp
  ·rw[if_neg e]
   by_cases ak:j<r
   ·rw[if_pos ak,if_pos (by omega)]
   ·rw[if_neg ak,if_neg (by omega)]
 ·by_cases e:j=r
  ·subst e;exact(oN.setOther (by show w.heap.size+1+j≠w.heap.size;omega) _).congr (fun i _=>by simp)
  ·exact((h.rows j (by omega)).alloc _).setOther (by show w.heap.size+1+j≠w.heap.size;omega) _
theorem cH.sized {w wr:World} {n K r:Nat} (hs:wr.heap.size=w.heap.size+1+r):((wr.alloc (.cells (madeCells #[.int .u64 0] K) 262)).setCell ⟨w.heap.size,r,none⟩ (.slice (some ⟨w.heap.size+1+r,0,none⟩) K K)).heap.size=w.heap.size+1+(r+1):=by simp[hs];omega
theorem cH.alloc {w wr:World} {n K r:Nat} {Z:ZZ} (h:cH w wr n K r Z) (o:Obj):cH w (wr.alloc o) n K r Z:=
 ⟨h.since.alloc (by have:=h.size;omega) _,by have:=h.size;simp;omega,h.top.alloc _,fun j hj=>(h.rows j hj).alloc _⟩
theorem cH.drew {w wr:World} {n K r:Nat} {Z:ZZ} (h:cH w wr n K r Z):cH w wr.drew n K r Z:=⟨h.since.drew,h.size,h.top.drew,fun j hj=>(h.rows j hj).drew⟩
theorem cH.put {w wr:World} {n K r a b:Nat} {Z:ZZ} (h:cH w wr n K r Z) (ha:a<r):cH w (wr.setCell ⟨w.heap.size+1+a,b / 64,none⟩ (.int .u64 ((Z a (b / 64) ||| 2 ^ (b % 64):Nat)))) n K r (F7 Z a b):=by
 refine⟨h.since.setCell (by show w.heap.size<=w.heap.size+1+a;omega) _,by simpa using h.size,h.top.setOther (by show w.heap.size≠w.heap.size+1+a;omega) _,fun j hj=>?_⟩
 by_cases e:j=a
 ·subst e;refine((h.rows j hj).set (b / 64) _).congr fun i _=>?_;unfold F7
  by_cases e2:i=b / 64
  ·subst e2;simp
  ·simp[e2]
 ·refine((h.rows j hj).setOther (by show w.heap.size+1+j≠w.heap.size+1+a;omega) _).congr fun i _=>?_;unfold F7;simp[e]
theorem cH.join {w wr wx:World} {n K r a b:Nat} {t:TypeId} {Z:ZZ} (h:cH w wr n K r Z) (ha:a<r) (hb:b<r) (hJ:lp (w.heap.size+1+a) t K (Z a) (Z b) wr K wx) (ht:t=262):cH w wx n K r (vd Z a b):=by
 subst ht;have ct:∀k,k<wr.heap.size->k≠w.heap.size+1+a->wx.heap[k]?=wr.heap[k]?:=fun k h1 h2=>hJ.keeps.block k h1 h2;have hs:=h.size;refine⟨⟨hJ.keeps.os.trans h.since.os,hJ.keeps.tape.trans h.since.tape,hJ.keeps.output.trans h.since.output,by rw[hJ.size];exact h.since.size,fun k hk=>by rw[ct k (by omega) (by omega)];exact h.since.block k hk⟩,
  by rw[hJ.size];exact h.size,h.top.of_block (ct _ (by omega) (by omega)),fun j hj=>?_⟩
 by_cases e:j=a
 ·subst e;refine hJ.row.congr fun i hi=>?_;simp[vd,hi]
 ·refine((h.rows j hj).of_block (ct _ (by omega) (by omega))).congr fun i _=>?_;simp[vd,e]
theorem cH.cell {w wr:World} {n K r:Nat} {Z:ZZ} (h:cH w wr n K r Z) {a:Nat} (ha:a<r) (hn:a<n):wr.cell? ⟨w.heap.size,a,none⟩=some (.slice (some ⟨w.heap.size+1+a,0,none⟩) K K):=by
 rw[h.top.cell hn,CM,if_pos ha]
set_option maxHeartbeats 6400000 in
set_option maxRecDepth 1000000 in
theorem Mk (pb rb n m pc B O K:Nat) (hKe:K=(n+63) / 64) (pA:Option Addr) (P:Nat->Nat×Nat) (x6:Value) (w:World) (hp:w.cell? ⟨pb,0,none⟩=some (.pointer (some ⟨rb,0,none⟩))) (h0:w.cell? ⟨rb,0,none⟩=some (.int .i64 n))
  (h1:w.cell? ⟨rb,1,none⟩=some (.slice pA m pc)) (hA:0<m->pA=some ⟨B,O,none⟩) (hP:∀i,i<m->w.cell? ⟨B,O+i*2,none⟩=some (.int .i64 (P i).1)/\w.cell? ⟨B,O+i*2+1,none⟩=some (.int .i64 (P i).2))
  (hn:n<=1000) (hm:m<=1000000) (hPl:∀i,i<m->(P i).1<n/\(P i).2<n) (h6:w.cell? ⟨rb,6,none⟩=some x6) (f6:w.frozen? ⟨rb,6,none⟩=false):
  Calls Tryz.prog 166 #[.pointer (some ⟨pb,0,none⟩)] w fun e w'=>e=.returned (.tuple #[])/\∃wr,cH w wr n K n (fu n n (dh P m))/\w'=wr.setCell ⟨rb,6,none⟩ (.slice (some ⟨w.heap.size,0,none⟩) n n):=by
 have ahl:=run_make_row' (P:=Tryz.prog) 142 192 (.slice none 0 0) 24 Tryz.underlying142 (by kernel_rfl) rfl .i64 .i64 n (by omega) (by omega);have hK:((n:Int)+64-1) / 64=(K:Int):=by omega
 have hK1:K<=16:=by omega
 have hpb:pb<w.heap.size:=World.block_lt_of_cell? _ _ hp;have Z1:rb<w.heap.size:=World.block_lt_of_cell? _ _ h0;clear hKe
 go_enter Tryz.func166,Tryz.ntmps166
 go_wp2
 clear ahl
 go_loopg [2,14] n (fun g s2 i wr=>∃r:Nat,r<=n/\g=n-r/\i=.int .i64 r/\cH w wr n K r (fun _ _=>0)/\wr.heap.size=w.heap.size+1+r)
 case atStart=>exact⟨0,alE _,rfl,rfl,cH.start w n _ _,by simp⟩
 case round=>
  obtain⟨r,hr,rfl,rfl,hO,bN⟩:=hrel;have g0:wr.cell? ⟨pb,0,none⟩=some (.pointer (some ⟨rb,0,none⟩)):=by rw[hO.since.cell (a:=⟨pb,0,none⟩) hpb];exact hp
  by_cases Z0:r<n
  ·have hrz:(r:Int)<(n:Int):=by omega
   have g1:wr.cell? ⟨rb,0,none⟩=some (.int .i64 n):=by rw[hO.since.cell (a:=⟨rb,0,none⟩) Z1];exact h0
   have akg:∀o,(wr.alloc o).cell? ⟨w.heap.size,r,none⟩=some (CM w.heap.size K r r):=fun o=>(hO.top.alloc o).cell Z0;have akh:∀o,(wr.alloc o).frozen? ⟨w.heap.size,r,none⟩=false:=fun o=>(hO.top.alloc o).frozen r;have aki:=run_make_row' (P:=Tryz.prog) 192 262 (.int .u64 0) 8 Tryz.underlying192 (by kernel_rfl) rfl .i64 .i64 K (by omega) (by omega);have xq:=hO.more bN;have hny:=cH.sized (n:=n) (K:=K) bN;have hH:Aside (cH w ((wr.alloc (.cells (madeCells #[.int .u64 0] K) 262)).setCell ⟨w.heap.size,r,none⟩ (.slice (some ⟨w.heap.size+1+r,0,none⟩) K K)) n K (r+1) (fun _ _=>0)/\((wr.alloc (.cells (madeCells #[.int .u64 0] K) 262)).setCell ⟨w.heap.size,r,none⟩ (.slice (some ⟨w.heap.size+1+r,0,none⟩) K K)).heap.size=w.heap.size+1+(r+1)):=⟨xq,hny⟩;clear xq hny hO
   go_wp2
   go_roundg (n-(r+1))
   case measure=>go_light;omega
   case rel=>go_light;exact⟨r+1,by omega,rfl,by simp,hH.out.1,hH.out.2⟩
  ·have hrz:¬((r:Int)<(n:Int)):=by omega
   obtain rfl:r=n:=by omega
   have g2:wr.cell? ⟨rb,1,none⟩=some (.slice pA m pc):=by rw[hO.since.cell (a:=⟨rb,1,none⟩) Z1];exact h1
   have H0:Aside (cH w wr r K r (fun _ _=>0)):=hO;clear hO bN
   go_wp2
   clear g0 g2
   go_loopg [4,34] m (fun g s4 i wx=>∃q:Nat,q<=m/\g=m-q/\i=.int .i64 q/\cH w wx r K r (dh P q))
   case atStart=>exact⟨0,alE _,rfl,rfl,H0.out⟩
   case round=>
    obtain⟨q,hq,rfl,rfl,hO⟩:=hrel
    by_cases hqm:q<m
    ·obtain rfl:=hA (by omega);have hqz:(q:Int)<(m:Int):=by omega
     have hB:B<w.heap.size:=World.block_lt_of_cell? _ _ (hP q hqm).1;have g3:wr.cell? ⟨B,O+q*2,none⟩=some (.int .i64 (P q).1):=by rw[hO.since.cell (a:=⟨B,O+q*2,none⟩) hB];exact(hP q hqm).1
     have g4:wr.cell? ⟨B,O+q*2+1,none⟩=some (.int .i64 (P q).2):=by rw[hO.since.cell (a:=⟨B,O+q*2+1,none⟩) hB];exact(hP q hqm).2
     have fG:=(hPl q hqm).1;have mO:=(hPl q hqm).2;have cy:=((hO.alloc (.cells #[.int .i64 (P q).1,.int .i64 (P q).2] 90)).rows (P q).1 fG);have g5:∀o,(wr.alloc o).cell? ⟨w.heap.size,(P q).1,none⟩=some (.slice (some ⟨w.heap.size+1+(P q).1,0,none⟩) K K):=fun o=>(hO.alloc o).cell fG fG;have ahm:=RH (w.heap.size+1+(P q).1) K K 262 (dh P q (P q).1) (P q).2 _ (by omega) (by omega) cy.drew ((cK.Wy P q) _);have bS:=((hO.alloc (.cells #[.int .i64 (P q).1,.int .i64 (P q).2] 90)).drew.put (b:=(P q).2) fG).drew;have hN:Aside (cH w (((wr.alloc (.cells #[.int .i64 (P q).1,.int .i64 (P q).2] 90)).drew.setCell ⟨w.heap.size+1+(P q).1,(P q).2 / 64,none⟩ (.int .u64 ((dh P q (P q).1 ((P q).2 / 64) ||| 2 ^ ((P q).2 % 64):Nat)))).drew) r K r (dh P (q+1))):=bS;clear bS cy hO
     go_wp2
     go_region_with (go_at_call 167;refine ahm.mono ?_;rintro e w' ⟨rfl,rfl⟩)
     all_goals
      (go_wp2
       go_roundg (m-(q+1))
       case measure=>go_light;omega
       case rel=>go_light;exact⟨q+1,by omega,rfl,by simp,hN.out⟩)
    ·have hqz:¬((q:Int)<(m:Int)):=by omega
     obtain rfl:q=m:=by omega
     clear H0 hP hA hPl;have H1:Aside (cH w wr r K r (fu r 0 (dh P q))):=hO;clear hO
     go_wp2
     go_loopg [5,49] r (fun g s5 i wx=>∃k:Nat,k<=r/\g=r-k/\i=.int .i64 k/\cH w wx r K r (fu r k (dh P q)))
     case atStart=>exact⟨0,alE _,rfl,rfl,H1.out⟩
     case round=>
      obtain⟨k,hk,rfl,rfl,hO⟩:=hrel
      by_cases JA:k<r
      ·have hkz:(k:Int)<(r:Int):=by omega
       have H2:Aside (cH w wr r K r (wv k 0 (fu r k (dh P q)))):=hO;clear hO
       go_wp2
       go_loopg [6,54] r (fun g s6 i wx=>∃j:Nat,j<=r/\g=r-j/\i=.int .i64 j/\cH w wx r K r (wv k j (fu r k (dh P q))))
       case atStart=>exact⟨0,alE _,rfl,rfl,H2.out⟩
       case round=>
        obtain⟨j,hj,rfl,rfl,hO⟩:=hrel
        by_cases hjr:j<r
        ·have hjz:(j:Int)<(r:Int):=by omega
         have kS:cK (wv k j (fu r k (dh P q))):=cK.inn (cK.war (cK.Wy P q) r k) k j;have g6:=hO.cell hjr hjr;have g7:=hO.cell JA JA;have adx:=F6 (w.heap.size+1+j) 0 K K (wv k j (fu r k (dh P q)) j) k wr (by omega) (by omega) (fun i hi=>by rw[al2];exact(hO.rows j hjr).cell hi) (kS j);have XR:=Mj (w.heap.size+1+j) (w.heap.size+1+k) K K K K 262 (wv k j (fu r k (dh P q)) j) (wv k j (fu r k (dh P q)) k) wr.drew (alA _) (by omega) (hO.rows j hjr).drew (fun i hi=>(hO.rows k JA).drew.cell hi) (kS j) (kS k) (fun e i=>by rw[show j=k by omega]);have hA1:Aside (ep (wv k j (fu r k (dh P q))) j k=false->cH w wr r K r (wv k (j+1) (fu r k (dh P q)))):=fun hb=>by
          show cH w wr r K r (F8 k j _);rw[F8,hb];exact hO
         have hA2:Aside (ep (wv k j (fu r k (dh P q))) j k=true->∀wx,lp (w.heap.size+1+j) 262 K (wv k j (fu r k (dh P q)) j) (wv k j (fu r k (dh P q)) k) wr.drew K wx->cH w wx r K r (wv k (j+1) (fu r k (dh P q)))):=fun hb wx hJ=>by
          show cH w wx r K r (F8 k j _);rw[F8,hb];exact hO.drew.join hjr JA hJ rfl
         clear hO kS
         cases hb:ep (wv k j (fu r k (dh P q))) j k
         ·have eF:(wv k j (fu r k (dh P q)) j (k / 64)).testBit (k % 64)=false:=hb;clear XR
          go_wp2_with (go_at_call 119;refine adx.mono ?_;rintro e w' ⟨rfl,rfl⟩)
          go_roundg (r-(j+1))
          case measure=>go_light;omega
          case rel=>go_light;exact⟨j+1,by omega,rfl,by simp,hA1.out hb⟩
         ·have eF:(wv k j (fu r k (dh P q)) j (k / 64)).testBit (k % 64)=true:=hb
          go_wp2_with (go_at_call 119;refine adx.mono ?_;rintro e w' ⟨rfl,rfl⟩)
          go_region_with (go_at_call 168;refine XR.mono ?_;rintro e w' ⟨rfl,hJ⟩)
          all_goals
           (have hN:=hA2.out hb _ hJ
            go_wp2
            go_roundg (r-(j+1))
            case measure=>go_light;omega
            case rel=>go_light;exact⟨j+1,by omega,rfl,by simp,hN⟩)
        ·have hjz:¬((j:Int)<(r:Int)):=by omega
         obtain rfl:j=r:=by omega
         have H3:Aside (cH w wr j K j (fu j (k+1) (dh P q))):=hO;clear hO
         go_wp2
         go_roundg (j-(k+1))
         case measure=>go_light;omega
         case rel=>go_light;exact⟨k+1,by omega,rfl,by simp,H3.out⟩
      ·have hkz:¬((k:Int)<(r:Int)):=by omega
       obtain rfl:k=r:=by omega
       have g0:wr.cell? ⟨pb,0,none⟩=some (.pointer (some ⟨rb,0,none⟩)):=by rw[hO.since.cell (a:=⟨pb,0,none⟩) hpb];exact hp
       have g6:wr.cell? ⟨rb,6,none⟩=some x6:=by rw[hO.since.cell (a:=⟨rb,6,none⟩) Z1];exact h6
       have gf:wr.frozen? ⟨rb,6,none⟩=false:=by rw[hO.since.frozen (a:=⟨rb,6,none⟩) Z1];exact f6
       have H4:Aside (cH w wr k K k (fu k k (dh P q))):=hO;clear hO
       go_wp2
       go_end0
       exact⟨rfl,wr,H4.out,rfl⟩
structure Rk where
 n:Nat
 ps:List (Int×Int)
 ke:List (Int×Value)
 kt:List AV
def Rk.Ok (R:Rk):Prop:=R.n<=1000/\R.ps.length<=1000/\∀p∈R.ps,(0<=p.1/\p.1<R.n)/\(0<=p.2/\p.2<R.n)
def aB (l:List (Int×Int)):List AV:=l.map fun p=>.agg [nI p.1,nI p.2]
def Rk.P (R:Rk):Nat->Nat×Nat:=fun i=>((R.ps.getD i (0,0)).1.toNat,(R.ps.getD i (0,0)).2.toNat)
def Rk.Z (R:Rk):ZZ:=fu R.n R.n (dh R.P R.ps.length)
def F9 (n K:Nat) (Z:ZZ):List AV:=(List.range n).map fun j=>.sl ((List.range K).map fun c=>.ae (.int .u64 (Z j c)))
def Rk.rows (R:Rk):List AV:=F9 R.n ((R.n+63) / 64) R.Z
theorem sR (n K:Nat) (Z:ZZ):(F9 n K Z).length=n:=by simp[F9]
theorem RI {w:World} {F:Nat->Nat->Prop} {η:List Value} {hp:List af} {q:Nat} {cs cs':List AV} (aR:kE w F η hp) (hq:hp[q]?=some (.box cs)) {b o:Nat} (hb:w.heap.size<=b):iR η (hp.set q (.box cs')) b o:=by
 refine(aU b o).2 fun r v h1 h2=>?_;have hr:r<hp.length:=by rw[<-aR.heap.len];exact(alu.1 h1).1
 by_cases hl:(hp[r]).live
 ·have:=aR.live b ⟨r,_,v,aly hr,hl,h1,h2⟩;omega
 ·have hd:hp[r]?=some .dead:=by
   rw[aly hr]
   cases h:hp[r]<;>rw[h] at hl<;>first|rfl|exact(hl True.intro).elim
  refine⟨.dead,?_,True.intro⟩;have:q≠r:=fun e=>by subst e;rw[hq] at hd;cases hd
  rw[amr,if_neg this];exact hd
theorem RK {w':World} {F':Nat->Nat->Prop} {η:List Value} {hp:List af} {N n K:Nat} {Z:ZZ} {t t2:TypeId} (ady:w'.rowIs N t n (CM N K n)) (XS:∀j,j<n->w'.rowIs (N+1+j) t2 K (fun c=>.int .u64 (Z j c)))
  (hF:∀b o,N<=b->b<w'.heap.size->F' b o) (hn:n<=1000) (hK:K<=1000):bm w' F' η hp (.sl (F9 n K Z)) (.slice (some ⟨N,0,none⟩) n n):=by
 have ZE:∀(i:Nat) (e:AV),(F9 n K Z)[i]?=some e->i<n/\e=.sl ((List.range K).map fun c=>.ae (.int .u64 (Z i c))):=fun i e h=>by
  have hi:i<n:=by have:=(alu.1 h).1;rwa [sR] at this
  refine⟨hi,?_⟩;simp[F9,hi] at h;exact h.symm
 have:=bm.sl (w:=w') (F:=F') (η:=η) (hp:=hp) 1 (F9 n K Z) N 0 n (fun i _=>CM N K n i) (by rw[sR];exact alA _) (by unfold maxLen;omega) (fun i e h=>by rw[(ZE i e h).2];rfl) (fun i e j x h hx=>?_) (fun i e j x h hx=>?_)
 ·rwa [sR] at this
 ·obtain⟨hi,rfl⟩:=ZE i e h;have hj:j=0:=by have:=(alu.1 hx).1;simp[AV.cells] at this;omega
  subst hj;refine⟨by rw[show 0+i*1+0=i by omega];exact ady.cell hi,hF _ _ (alA _) ady.lt,?_⟩;rw[CM,if_pos hi];rfl
 ·obtain⟨hi,rfl⟩:=ZE i e h;have hj:j=0:=by have:=(alu.1 hx).1;simp[AV.cells] at this;omega
  subst hj;cases hx;rw[CM,if_pos hi];have ZF:∀(c:Nat) (e:AV),((List.range K).map fun c=>AV.ae (.int .u64 (Z i c)))[c]?=some e->c<K/\e=.ae (.int .u64 (Z i c)):=fun c e h=>by
   have hc:c<K:=by have:=(alu.1 h).1;simpa using this
   refine⟨hc,?_⟩;simp[hc] at h;exact h.symm
  have:=bm.sl (w:=w') (F:=F') (η:=[]) (hp:=[]) 1 ((List.range K).map fun c=>AV.ae (.int .u64 (Z i c))) (N+1+i) 0 K (fun c _=>.int .u64 (Z i c)) (by simp) (by unfold maxLen;omega) (fun c e h=>by rw[(ZF c e h).2];rfl) (fun c e j x h hx=>?_) (fun c e j x h hx=>?_)
  ·rwa [alv,List.length_range] at this
  ·obtain⟨hc,rfl⟩:=ZF c e h;have hj:j=0:=by have:=(alu.1 hx).1;simp[AV.cells] at this;omega
   subst hj;exact⟨by rw[show 0+c*1+0=c by omega];exact(XS i hi).cell hc,hF _ _ (by omega) (XS i hi).lt,rfl⟩
  ·obtain⟨hc,rfl⟩:=ZF c e h;have hj:j=0:=by have:=(alu.1 hx).1;simp[AV.cells] at this;omega
   subst hj;cases hx;exact .ae _
theorem Ga {R:Rk} (hR:R.Ok) {d m s ka:Int} {kr:List AV}:bH Tryz.prog 166 [.ptr 2 0] (eh R.ke R.n (aB R.ps) d m s kr ka R.kt++[.box [.ptr 1 0]])
  (fun r h=>r=.aL []/\h=eh R.ke R.n (aB R.ps) d m s R.rows ka R.kt++[.box [.ptr 1 0]]):=by
 obtain⟨hn,hl,J5⟩:=hR;refine⟨⟨_,Tryz.func166,by kernel_rfl,by kernel_rfl⟩,fun w F η bb aR hv=>?_⟩
 match bb,hv with
 | [v0],⟨r0,_⟩=>
  obtain⟨pb,rfl,h2⟩:∃b,v0=.pointer (some ⟨b,0,none⟩)/\η[2]?=some (.pointer (some ⟨b,0,none⟩)):=by cases r0 with|ptr _ _ b h1=>exact⟨b,rfl,h1⟩
  obtain⟨b',vs2,T2,e1,e2,e3,e4⟩:=aR.heap.obj 2 _ _ rfl h2;cases e1;obtain⟨p0,rfl⟩:∃p0,vs2=#[p0]:=by
   match vs2,e3 with
   |⟨[c0]⟩,_=>exact⟨c0,rfl⟩
  obtain⟨rb,rfl,h1⟩:∃b,p0=.pointer (some ⟨b,0,none⟩)/\η[1]?=some (.pointer (some ⟨b,0,none⟩)):=by
   have:=(e4 0 _ _ rfl rfl).1
   cases this with|ptr _ _ b h1=>exact⟨b,rfl,h1⟩
  obtain⟨b',vs,T,g1,g2,g3,g4⟩:=aR.heap.obj 1 _ _ rfl h1;cases g1;have bN:vs.size=9:=g3;have cell:∀k,(hk:k<9)->w.cell? ⟨rb,k,none⟩=some (vs[k]'(by omega)):=fun k hk=>by
   simp only[World.cell?,g2];rw[alX (by omega)];rfl
  have c0:vs[0]=.int .i64 R.n:=ft (g4 0 _ _ rfl (alX (by omega))).1;have c1:bm w F η _ (.sl (aB R.ps)) vs[1]:=(g4 1 _ _ rfl (alX (by omega))).1;obtain⟨pA,pc,B,O,hv1,hA,hP⟩:∃(pA:Option Addr) (pc B O:Nat),vs[1]=.slice pA R.ps.length pc/\(0<R.ps.length->pA=some ⟨B,O,none⟩)/\
    ∀i,i<R.ps.length->w.cell? ⟨B,O+i*2,none⟩=some (.int .i64 ((R.P i).1:Nat))/\w.cell? ⟨B,O+i*2+1,none⟩=some (.int .i64 ((R.P i).2:Nat)):=by
   generalize hvx:vs[1]=vx at c1
   cases OI:R.ps with
   |nil=>
    rw[OI] at c1
    cases c1 with
    |lL a=>exact⟨a,0,0,0,rfl,fun h=>absurd h (by simp),fun i h=>absurd h (by simp)⟩
    |sl size els b o c f _ _ _ _ _=>exact⟨some ⟨b,o,none⟩,c,b,o,rfl,fun _=>rfl,fun i h=>absurd h (by simp)⟩
   |cons p l=>
    rw[<-OI];have bu:0<R.ps.length:=by rw[OI];simp
    have hlen:(aB R.ps).length=R.ps.length:=by simp[aB]
    generalize hE:aB R.ps=E at c1 hlen
    cases c1 with
    |lL a=>rw[<-hlen] at bu;simp at bu
    |sl size els b o c f hc hm qg aE cX=>
     refine⟨some ⟨b,o,none⟩,c,b,o,by rw[hlen],fun _=>rfl,fun i hi=>?_⟩;have cq:E[i]?=some (.agg [nI (R.ps[i]).1,nI (R.ps[i]).2]):=by rw[<-hE];simp[aB,hi]
     have Hh:size=2:=(qg i _ cq).symm;subst Hh;have q0:=(aE i _ 0 _ cq rfl).1;have q1:=(aE i _ 1 _ cq rfl).1;have v0:=ft (cX i _ 0 _ cq rfl);have v1:=ft (cX i _ 1 _ cq rfl);have S8:=J5 _ (alG hi);have eP:R.P i=((R.ps[i]).1.toNat,(R.ps[i]).2.toNat):=by simp[Rk.P,List.getD,hi]
     rw[eP];refine⟨?_,?_⟩
     ·rw[show o+i*2=o+i*2+0 from rfl,q0,v0];have:(((R.ps[i]).1.toNat:Nat):Int)=(R.ps[i]).1:=by omega
      simp only[this]
     ·rw[q1,v1];have:(((R.ps[i]).2.toNat:Nat):Int)=(R.ps[i]).2:=by omega
      simp only[this]
  have hPl:∀i,i<R.ps.length->(R.P i).1<R.n/\(R.P i).2<R.n:=fun i hi=>by
   have S8:=J5 _ (alG hi);have eP:R.P i=((R.ps[i]).1.toNat,(R.ps[i]).2.toNat):=by simp[Rk.P,List.getD,hi]
   rw[eP];simp only;omega
  refine callsIn_wide.2 ((Mk pb rb R.n R.ps.length pc B O ((R.n+63) / 64) rfl pA R.P (vs[6]) w (by simp only[World.cell?,e2];rfl) (by rw[cell 0 (by omega),c0]) (by rw[cell 1 (by omega),hv1]) hA hP hn (by omega) hPl (cell 6 (by omega)) (by simp[World.frozen?,g2])).mono ?_)
  rintro e w' ⟨rfl,wr,hW,rfl⟩
  have Z1:rb<w.heap.size:=bo g2;have hwr:wr.heap[rb]?=some (.cells vs T (0,0)):=by rw[hW.since.block rb Z1];exact g2
  have qf:=heap_setCell_same wr rb 6 vs T (.slice (some ⟨w.heap.size,0,none⟩) R.n R.n) hwr;have lY:(wr.setCell ⟨rb,6,none⟩ (.slice (some ⟨w.heap.size,0,none⟩) R.n R.n)).heap.size=wr.heap.size:=by simp
  refine⟨_,.aL [],_,η,rfl,⟨rfl,rfl⟩,?_⟩;refine xJ (q:=1) (b:=rb) (vs':=vs.setIfInBounds 6 (.slice (some ⟨w.heap.size,0,none⟩) R.n R.n)) (T:=T) aR rfl h1 ⟨hW.since.os,hW.since.tape,hW.since.output,by rw[lY];have:=hW.size;omega,fun k gK oX=>?_⟩ (by rw[lY];have:=hW.size;omega) qf (by simp[bN]) (fun cA j x u hx hu=>?_) (.aL [] #[] rfl fun j y u hy _=>by cases hy)
  ·rw[heap_setCell_other _ _ _ _ oX];exact hW.since.block k gK
  ·rw[amG] at hu
   by_cases hj:6=j
   ·subst hj;rw[if_pos rfl,if_pos (by omega)] at hu
    cases hx;cases hu
    refine⟨?_,rfl⟩;have bu:∀k,w.heap.size<=k->k≠rb:=fun k hk=>by omega
    exact RK (hW.top.setOther (bu _ (alA _)) _) (fun j hj=>(hW.rows j hj).setOther (bu _ (by omega)) _) (fun b o y6 Ww=>⟨.inr (.inl y6),Ww,RI aR rfl y6⟩) hn (by omega)
   ·rw[if_neg hj] at hu;have ZV:(eh R.ke R.n (aB R.ps) d m s kr ka R.kt)[1]?=some (.box [nI R.n,.sl (aB R.ps),.mp 0,.ae (.int .u32 d),.ae (.int .i32 m),.ae (.int .u32 s),.sl kr,nI ka,.sl R.kt]):=rfl;have hx3:[nI (R.n:Int),.sl (aB R.ps),.mp 0,.ae (.int .u32 d),.ae (.int .i32 m),.ae (.int .u32 s),.sl kr,nI ka,.sl R.kt][j]?=some x:=by
     match j,hj,hx with
     |0,_,h=>exact h
     |1,_,h=>exact h
     |2,_,h=>exact h
     |3,_,h=>exact h
     |4,_,h=>exact h
     |5,_,h=>exact h
     |7,_,h=>exact h
     |8,_,h=>exact h
     |_+9,_,h=>simp at h
    have:=g4 j x u hx3 hu;exact⟨this.1.ext cA,this.2⟩
def vT (R:Rk) (h:List af):Prop:=∃(d s ka:Int) (kr:List AV),h=eh R.ke R.n (aB R.ps) d 0 s kr ka R.kt/\(d=0\/¬d=0/\kr=R.rows)
theorem IC {R:Rk} (hR:R.Ok) {h:List af} (hs:vT R h):bH Tryz.prog 118 [.ptr 1 0] h (fun r q=>r=.sl R.rows/\vT R q):=by
 obtain⟨d,s,ka,kr,rfl,hd⟩:=hs;refine Qa ⟨_,xN (R:=fun r q=>r=nI (IntKind.wrap .i64 (ka+1))/\q=eh R.ke R.n (aB R.ps) d 0 s kr (IntKind.wrap .i64 (ka+1)) R.kt) ⟨rfl,rfl⟩,fun r q ⟨e1,e2⟩=>⟨_,_,_,_,_,_,_,_,_,_,⟨e1,e2⟩,?_⟩⟩;rcases hd with rfl|⟨hd,rfl⟩
 ·have hdo:=pn (q:=1) (off:=3) (f:=166) (caps:=[.ptr 2 0]) (H:=eh R.ke R.n (aB R.ps) 0 0 s kr (IntKind.wrap .i64 (ka+1)) R.kt++[.box [.ptr 1 0]])
   (cs:=[nI R.n,.sl (aB R.ps),.mp 0,.ae (.int .u32 0),.ae (.int .i32 0),.ae (.int .u32 s),.sl kr,nI (IntKind.wrap .i64 (ka+1)),.sl R.kt])
   (R:=fun r h=>r=.aL []/\h=eh R.ke R.n (aB R.ps) 0 1 s R.rows (IntKind.wrap .i64 (ka+1)) R.kt++[.box [.ptr 1 0]]) rfl rfl rfl
   (by exact Ga hR (d:=0) (m:=1) (s:=s) (ka:=IntKind.wrap .i64 (ka+1)) (kr:=kr)) (fun r h ⟨e1,e2⟩=>by subst e2;exact⟨e1,_,rfl,rfl,rfl⟩)
  refine⟨_,hdo,?_⟩
  rintro r q ⟨rfl,h,cs',⟨-,rfl⟩,hq,rfl⟩
  cases hq;exact⟨_,_,_,_,_,_,_,_,_,⟨rfl,rfl⟩,rfl,_,_,_,_,rfl,.inr ⟨by decide,rfl⟩⟩
 ·refine⟨_,po (q:=1) (off:=3) (caps:=[.ptr 2 0]) (H:=eh R.ke R.n (aB R.ps) d 0 s R.rows (IntKind.wrap .i64 (ka+1)) R.kt++[.box [.ptr 1 0]]) (cs:=[nI R.n,.sl (aB R.ps),.mp 0,.ae (.int .u32 d),.ae (.int .i32 0),.ae (.int .u32 s),.sl R.rows,nI (IntKind.wrap .i64 (ka+1)),.sl R.kt]) rfl rfl hd,?_⟩
  rintro r q ⟨rfl,rfl⟩
  exact⟨_,_,_,_,_,_,_,_,_,⟨rfl,rfl⟩,rfl,_,_,_,_,rfl,.inr ⟨hd,rfl⟩⟩
theorem ID {K:Nat} {f:Nat->Nat} (hf:∀c,f c<2 ^ 64) {b:Nat} (hb:b / 64<K) (hl:b<1000000):ag Tryz.prog 119 [.sl ((List.range K).map fun c=>.ae (.int .u64 (f c))),nI b] (nB ((f (b / 64)).testBit (b % 64))):=by
 refine⟨⟨_,Tryz.func119,by kernel_rfl,by kernel_rfl⟩,fun w F bb hF hg hv=>?_⟩
 match bb,hv with
 | [v0,v1],⟨r0,r1,_⟩=>
  obtain rfl:=ft r1;have cq:∀c,c<K->((List.range K).map fun c=>AV.ae (.int .u64 (f c)))[c]?=some (.ae (.int .u64 (f c))):=fun c hc=>by simp[hc]
  generalize hE:((List.range K).map fun c=>AV.ae (.int .u64 (f c)))=E at r0 cq;have hlen:E.length=K:=by rw[<-hE];simp
  cases r0 with
  |lL a=>simp at hlen;omega
  |sl size els g o c fn hc hm qg aE cX=>
   have ZR:size=1:=(qg _ _ (cq _ hb)).symm;subst ZR;rw[hlen];refine callsIn_wide.2 ((F6 g o K c f b w hb hl (fun j hj=>?_) hf).mono ?_)
   ·have q0:=(aE j _ 0 _ (cq j hj) rfl).1;rw[show o+j*1+0=o+j by omega,ft (cX j _ 0 _ (cq j hj) rfl)] at q0;exact q0
   ·rintro e w' ⟨rfl,rfl⟩
    exact⟨_,_,rfl,rfl,bI.refl _,.ae _⟩
def Rk.pq (R:Rk) (a b:Int):Bool:=decide (0<=a/\a<R.n/\0<=b/\b<R.n)&&ep R.Z a.toNat b.toNat
theorem Rk.small (R:Rk):cK R.Z:=cK.war (cK.Wy _ _) _ _
theorem ve {R:Rk} (hR:R.Ok) {h:List af} (hs:vT R h) (a b:Int):bH Tryz.prog 70 [.ptr 1 0,nI a,nI b] h (fun r q=>r=nB (R.pq a b)/\vT R q):=by
 have cy:=IC hR hs;have A9:=hs;obtain⟨d,s,ka,kr,rfl,hd⟩:=hs;have bad:¬(0<=a/\a<R.n/\0<=b/\b<R.n)->nB false=nB (R.pq a b):=fun h=>by rw[Rk.pq,decide_eq_false h];rfl
 refine U7 (ah.intro (fun h=>⟨bad (by simp at h;omega),A9⟩) fun h1=>ah.intro (fun h=>⟨bad (by simp at h;omega),A9⟩) fun h2=>ah.intro (fun h=>⟨bad (by simp at h;omega),A9⟩) fun h3=>ah.intro (fun h=>⟨bad (by simp at h;omega),A9⟩) fun h4=>?_);have g1:0<=a:=by simpa using h1
 have g2:a<R.n:=by simpa using h2
 have g3:0<=b:=by simpa using h3
 have g4:b<R.n:=by simpa using h4
 obtain⟨u,rfl⟩:∃u:Nat,a=u:=⟨a.toNat,by omega⟩;obtain⟨v,rfl⟩:∃v:Nat,b=v:=⟨b.toNat,by omega⟩;have hn:=hR.1;refine⟨_,cy,fun r q ⟨e1,e2⟩=>?_⟩;obtain⟨d2,s2,zv,zw,rfl,vJ⟩:=e2;refine⟨_,_,_,_,_,_,_,_,_,_,⟨e1,rfl⟩,by omega,by rw[Rk.rows,sR];omega,((List.range ((R.n+63) / 64)).map fun c=>.ae (.int .u64 (R.Z u c))),by simp[Rk.rows,F9,List.getD,show u<R.n by omega],_,ID (R.small u) (b:=v) (by omega) (by omega),?_,d2,s2,zv,zw,rfl,vJ⟩;rw[Rk.pq,decide_eq_true ⟨g1,g2,g3,g4⟩,alN];rfl
def Rk.stat (R:Rk) (c:Int):Int:=zd (Option.getD (aM R.ke c) (.int .i64 0))
theorem CN {R:Rk} {h:List af} (hs:vT R h) (c:Int) (hk:∃n,Option.getD (aM R.ke c) (.int .i64 0)=.int .i64 n):bH Tryz.prog 131 [.ptr 1 0,nI c] h (fun r q=>r=nI (R.stat c)/\vT R q):=by
 have A9:=hs;obtain⟨d,s,ka,kr,rfl,hd⟩:=hs;obtain⟨n,hn⟩:=hk;exact Qb ⟨by rw[hn];rfl,rfl,A9⟩
end Go.Proofs.YtdcikhleahfknaaGreatDoor
