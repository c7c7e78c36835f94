/- Texts of ours laid together for a claim: VcD. -/
import Derived.Test.YtdcikhleahfknaaGreatDoorQ23
namespace Go.Proofs.YtdcikhleahfknaaGreatDoor
open Go
set_option linter.unusedSimpArgs false
set_option linter.unusedVariables false
def tj.T:tj→Type
 | .i _=>Int
 | .b=>Bool
 | .s=>ByteArray
 | .l=>List AV
 | .c=>List AV
 | .m=>List (Int×Value)
 | .ms=>List (ByteArray×Value)
 | .k _=>Unit
 | .o _=>Unit
 | .fn=>Value
 | .q _=>Unit
def Uu (lens:List Nat):(sh:tj)→sh.T→AV
 | .i k,n=>.ae (.int k n)
 | .b,b=>.ae (.bool b)
 | .s,s=>.ae (.string s)
 | .l,l=>.sl l
 | .c,l=>.clip l
 | .m,l=>.ea (.i l)
 | .ms,l=>.ea (.s l)
 | .k x,_=>x
 | .o r,_=>.own r (oC lens r)
 | .fn,v=>.fn v
 | .q x,_=>x
def Sr:List tj→Type
 | []=>Unit
 |sh::l=>sh.T×Sr l
def Hj (lens:List Nat):(l:List tj)→Sr l→List AV
 | [],_=>[]
 |sh::l,t=>Uu lens sh t.1::Hj lens l t.2
def p8.T:p8→Type
 | .c x=>x.T
 | .a l=>Sr l
def Xq (lens:List Nat):(sh:p8)→sh.T→AV
 | .c x,t=>Uu lens x t
 | .a l,t=>.agg (Hj lens l t)
def Q0:List p8→Type
 | []=>Unit
 |sh::l=>sh.T×Q0 l
def Ep (lens:List Nat):(l:List p8)→Q0 l→List AV
 | [],_=>[]
 |sh::l,t=>Xq lens sh t.1::Ep lens l t.2
def Sh.T:Sh→Type
 | .v x=>x.T
 | .t l=>Q0 l
 | .f _ l=>Q0 l
 | .m _ l=>Q0 l
def Yn (lens:List Nat):(sh:Sh)→sh.T→AV
 | .v x,t=>Xq lens x t
 | .t l,t=>.aX (Ep lens l t)
 | .f fn l,t=>.aK fn (Ep lens l t)
 | .m fn l,t=>.cK fn (Ep lens l t)
def TS:List Sh→Type
 | []=>Unit
 |sh::l=>sh.T×TS l
def tl (lens:List Nat):(l:List Sh)→TS l→List AV
 | [],_=>[]
 |sh::l,t=>Yn lens sh t.1::tl lens l t.2
def dS (x y:AV):Prop:=∀(w:World) (F:Nat→Nat→Prop) (η:List Value) (hp:List af) (v:Value),aY w F η hp x v→aY w F η hp y v
def dH:List AV→List AV→Prop
 | [],[]=>True
 |x::xs,y::ys=>dS x y∧dH xs ys
 |_,_=>False
theorem dS.refl (x:AV):dS x x:=fun _ _ _ _ _ h=>h
theorem dH.refl:∀(xs:List AV),dH xs xs
 | []=>True.intro
 |x::xs=>⟨dS.refl x,dH.refl xs⟩
theorem dH.length:∀{xs ys:List AV},dH xs ys→xs.length=ys.length
 | [],[],_=>rfl
 |_::_,_::_,h=>by simp[dH.length h.2]
theorem dH.get:∀{xs ys:List AV},dH xs ys→∀(j:Nat) (y:AV),ys[j]?=some y→∃x,xs[j]?=some x∧dS x y
 | [],[],_,j,y,h=>by simp at h
 |x::xs,y::ys,h,0,z,hz=>by
  simp only[List.getElem?_cons_zero,Option.some.injEq] at hz
  subst hz
  exact⟨x,rfl,h.1⟩
 |x::xs,y::ys,h,j+1,z,hz=>by
  obtain⟨u,h1,h2⟩:=dH.get h.2 j z (by simpa using hz)
  exact⟨u,by simpa using h1,h2⟩
theorem dH.parts {cs cs':List AV} (h:dH cs cs') {w:World} {F:Nat→Nat→Prop} {η:List Value} {hp:List af} {vs:Array Value} (hr:∀(j:Nat) (x:AV) (v:Value),cs[j]?=some x→vs[j]?=some v→aY w F η hp x v):
  ∀(j:Nat) (x:AV) (v:Value),cs'[j]?=some x→vs[j]?=some v→aY w F η hp x v:=by
 intro j y v hy hv
 obtain⟨x,h1,h2⟩:=h.get j y hy
 exact h2 _ _ _ _ _ (hr j x v h1 hv)
theorem dS.agg {cs cs':List AV} (h:dH cs cs'):dS (.agg cs) (.agg cs'):=by
 intro w F η hp v hv
 cases hv with
 |agg _ vs hl h1 hr=>exact .agg _ vs (by rw[hl,h.length]) h1 (h.parts hr)
theorem dS.aX {cs cs':List AV} (h:dH cs cs'):dS (.aX cs) (.aX cs'):=by
 intro w F η hp v hv
 cases hv with
 |aX _ vs hl hr=>exact .aX _ vs (by rw[hl,h.length]) (h.parts hr)
theorem dS.aK {f:Nat} {cs cs':List AV} (h:dH cs cs'):dS (.aK f cs) (.aK f cs'):=by
 intro w F η hp v hv
 cases hv with
 |aK _ _ vs hl hr=>exact .aK f _ vs (by rw[hl,h.length]) (h.parts hr)
theorem dS.cK {f:Nat} {cs cs':List AV} (h:dH cs cs'):dS (.cK f cs) (.cK f cs'):=by
 intro w F η hp v hv
 cases hv with
 |cK _ _ vs hl hr=>exact .cK f _ vs (by rw[hl,h.length]) (h.parts hr)
def Hk:List AV→List AV→Bool
 | [],[]=>true
 | .ptr r o::l,.ptr r' o'::l'=>Nat.beq r r'&&(Nat.beq o o'&&Hk l l')
 |_,_=>false
theorem FV:∀{l l':List AV},Hk l l'=true→l=l'
 | [],[],_=>rfl
 |x::l,[],h=>by cases x<;>simp[Hk] at h
 | [],y::l,h=>by simp[Hk] at h
 |x::l,y::l',h=>by
  unfold Hk at h
  split at h
  ·rename_i h1;cases h1
  ·rename_i r o l1 r' o' l2 e1 e2
   cases e1;cases e2
   rw[Bool.and_eq_true,Bool.and_eq_true] at h
   rw[Nat.eq_of_beq_eq_true h.1,Nat.eq_of_beq_eq_true h.2.1,FV h.2.2]
  ·cases h
def Yo:AV→AV→Bool
 | .top,_=>true
 | .ptr r o,.ptr r' o'=>Nat.beq r r'&&Nat.beq o o'
 | .mp r,.mp r'=>Nat.beq r r'
 | .aK f cs,.aK f' cs'=>Nat.beq f f'&&Hk cs cs'
 | .ae (.slice none 0 0),.ae (.slice none 0 0)=>true
 | .ae (.pointer none),.ae (.pointer none)=>true
 |_,_=>false
theorem Ss {x y:AV} (h:Yo x y=true):dS y x:=by
 unfold Yo at h
 split at h
 ·exact fun _ _ _ _ v _=>.top v
 ·rw[Bool.and_eq_true] at h
  rw[Nat.eq_of_beq_eq_true h.1,Nat.eq_of_beq_eq_true h.2];exact .refl _
 ·rw[Nat.eq_of_beq_eq_true h];exact .refl _
 ·rw[Bool.and_eq_true] at h
  rw[Nat.eq_of_beq_eq_true h.1,FV h.2];exact .refl _
 ·exact .refl _
 ·exact .refl _
 ·cases h
def J2 (lens:List Nat):(sh:tj)→AV→Option (List Prop×sh.T)
 | .i k,.ae (.int k' n)=>if k=k' then some ([],n) else none
 | .b,.ae (.bool b)=>some ([],b)
 | .s,.ae (.string s)=>some ([],s)
 | .l,.sl l=>some ([],l)
 | .l,.clip l=>some ([],l)
 | .l,.ae (.slice none 0 0)=>some ([],([]:List AV))
 | .c,.clip l=>some ([],l)
 | .m,.ea (.i l)=>some ([],l)
 | .ms,.ea (.s l)=>some ([],l)
 | .fn,.fn v=>some ([],v)
 | .k x,y=>(match Yo x y with|true=>some ([],())|false=>none)
 | .o r,.own r' n=>if r=r' then some ([n=oC lens r],()) else none
 | .q x,y=>some ([y=x],())
 |_,_=>none
theorem FW {lens:List Nat} {sh:tj} {x:AV} {cs:List Prop} {t:sh.T} (h:J2 lens sh x=some (cs,t)) (hc:dI cs):dS x (Uu lens sh t):=by
 unfold J2 at h
 split at h
 ·split at h
  ·rename_i hk
   subst hk
   cases h;exact .refl _
  ·cases h
 ·cases h;exact .refl _
 ·cases h;exact .refl _
 ·cases h;exact .refl _
 ·cases h;exact fun _ _ _ _ _ h=>h.nO
 ·cases h
  intro w F η hp v hv
  cases hv;exact .ki _
 ·cases h;exact .refl _
 ·cases h;exact .refl _
 ·cases h;exact .refl _
 ·cases h;exact .refl _
 ·split at h
  ·rename_i he;exact Ss he
  ·cases h
 ·split at h
  ·rename_i hr
   subst hr
   cases h
   have:=hc.1
   subst this;exact .refl _
  ·cases h
 ·cases h
  have:=hc.1
  subst this;exact .refl _
 ·cases h
def qf (lens:List Nat):(l:List tj)→List AV→Option (List Prop×Sr l)
 | [],[]=>some ([],())
 |sh::l,x::xs=>(match J2 lens sh x with
  |some (p,t)=>(match qf lens l xs with
   |some (q,ts)=>some (p++q,(t,ts))
   |none=>none)
  |none=>none)
 |_,_=>none
theorem uT {lens:List Nat}:∀{l:List tj} {xs:List AV} {cs:List Prop} {t:Sr l},qf lens l xs=some (cs,t)→dI cs→dH xs (Hj lens l t)
 | [],[],_,_,_,_=>True.intro
 | [],_::_,_,_,h,_=>by simp[qf] at h
 |_::_,[],_,_,h,_=>by simp[qf] at h
 |sh::l,x::xs,cs,t,h,hc=>by
  simp only[qf] at h
  split at h
  ·rename_i p t1 h1
   split at h
   ·rename_i q ts h2
    simp only[Option.some.injEq,Prod.mk.injEq] at h
    obtain⟨rfl,rfl⟩:=h
    rw[bt] at hc
    exact⟨FW h1 hc.1,uT h2 hc.2⟩
   ·cases h
  ·cases h
def FX:AV→Option (List AV)
 | .agg cs=>some cs
 |_=>none
def FY:AV→Option (List AV)
 | .aX cs=>some cs
 |_=>none
def FZ:AV→Option (Nat×List AV)
 | .aK f cs=>some (f,cs)
 |_=>none
def yu:AV→Option (Nat×List AV)
 | .cK f cs=>some (f,cs)
 |_=>none
theorem J3 {x:AV} {cs:List AV} (h:FX x=some cs):x=.agg cs:=by
 cases x<;>simp only[FX] at h<;>cases h
 rfl
theorem J4 {x:AV} {cs:List AV} (h:FY x=some cs):x=.aX cs:=by
 cases x<;>simp only[FY] at h<;>cases h
 rfl
theorem J5 {x:AV} {f:Nat} {cs:List AV} (h:FZ x=some (f,cs)):x=.aK f cs:=by
 cases x<;>simp only[FZ] at h<;>cases h
 rfl
theorem Hl {x:AV} {f:Nat} {cs:List AV} (h:yu x=some (f,cs)):x=.cK f cs:=by
 cases x<;>simp only[yu] at h<;>cases h
 rfl
def NU (lens:List Nat) (sh:p8) (v:AV):Option (List Prop×sh.T):=
 match sh with
 | .c x=>J2 lens x v
 | .a l=>(FX v).bind fun cs=>qf lens l cs
theorem F4 {lens:List Nat} {sh:p8} {x:AV} {cs:List Prop} {t:sh.T} (h:NU lens sh x=some (cs,t)) (hc:dI cs):dS x (Xq lens sh t):=by
 cases sh with
 |c y=>
  have h1:J2 lens y x=some (cs,t):=h
  exact FW h1 hc
 |a l=>
  have h1:(FX x).bind (fun cs=>qf lens l cs)=some (cs,t):=h
  obtain⟨cs',h2,h3⟩:=Option.bind_eq_some_iff.1 h1
  rw[J3 h2]
  exact dS.agg (uT h3 hc)
def nn (lens:List Nat):(l:List p8)→List AV→Option (List Prop×Q0 l)
 | [],[]=>some ([],())
 |sh::l,x::xs=>(match NU lens sh x with
  |some (p,t)=>(match nn lens l xs with
   |some (q,ts)=>some (p++q,(t,ts))
   |none=>none)
  |none=>none)
 |_,_=>none
theorem qg {lens:List Nat}:∀{l:List p8} {xs:List AV} {cs:List Prop} {t:Q0 l},nn lens l xs=some (cs,t)→dI cs→dH xs (Ep lens l t)
 | [],[],_,_,_,_=>True.intro
 | [],_::_,_,_,h,_=>by simp[nn] at h
 |_::_,[],_,_,h,_=>by simp[nn] at h
 |sh::l,x::xs,cs,t,h,hc=>by
  simp only[nn] at h
  split at h
  ·rename_i p t1 h1
   split at h
   ·rename_i q ts h2
    simp only[Option.some.injEq,Prod.mk.injEq] at h
    obtain⟨rfl,rfl⟩:=h
    rw[bt] at hc
    exact⟨F4 h1 hc.1,qg h2 hc.2⟩
   ·cases h
  ·cases h
def Uv (lens:List Nat) (sh:Sh) (v:AV):Option (List Prop×sh.T):=
 match sh with
 | .v x=>NU lens x v
 | .t l=>(FY v).bind fun cs=>nn lens l cs
 | .f fn l=>(FZ v).bind fun p=>if fn=p.1 then nn lens l p.2 else none
 | .m fn l=>(yu v).bind fun p=>(nn lens l p.2).bind fun q=>some ((p.1=fn)::q.1,q.2)
theorem NV {lens:List Nat} {sh:Sh} {x:AV} {cs:List Prop} {t:sh.T} (h:Uv lens sh x=some (cs,t)) (hc:dI cs):dS x (Yn lens sh t):=by
 cases sh with
 |v y=>
  have h1:NU lens y x=some (cs,t):=h
  exact F4 h1 hc
 |t l=>
  have h1:(FY x).bind (fun cs=>nn lens l cs)=some (cs,t):=h
  obtain⟨cs',h2,h3⟩:=Option.bind_eq_some_iff.1 h1
  rw[J4 h2]
  exact dS.aX (qg h3 hc)
 |f fn l=>
  have h1:(FZ x).bind (fun p=>if fn=p.1 then nn lens l p.2 else none)=some (cs,t):=h
  obtain⟨⟨f,cs'⟩,h2,h3⟩:=Option.bind_eq_some_iff.1 h1
  split at h3
  ·rename_i hf
   simp only at hf
   subst hf
   rw[J5 h2]
   exact dS.aK (qg h3 hc)
  ·cases h3
 |m fn l=>
  have h1:(yu x).bind (fun p=>(nn lens l p.2).bind fun q=>some ((p.1=fn)::q.1,q.2))=some (cs,t):=h
  obtain⟨⟨f,cs'⟩,h2,h3⟩:=Option.bind_eq_some_iff.1 h1
  obtain⟨⟨qs,u⟩,h4,h5⟩:=Option.bind_eq_some_iff.1 h3
  simp only[Option.some.injEq,Prod.mk.injEq] at h5
  obtain⟨rfl,rfl⟩:=h5
  rw[Hl h2,show f=fn from hc.1]
  exact dS.cK (qg h4 hc.2)
def w9 (lens:List Nat):(l:List Sh)→List AV→Option (List Prop×TS l)
 | [],[]=>some ([],())
 |sh::l,x::xs=>(match Uv lens sh x with
  |some (p,t)=>(match w9 lens l xs with
   |some (q,ts)=>some (p++q,(t,ts))
   |none=>none)
  |none=>none)
 |_,_=>none
theorem Bw {lens:List Nat}:∀{l:List Sh} {xs:List AV} {cs:List Prop} {t:TS l},w9 lens l xs=some (cs,t)→dI cs→dH xs (tl lens l t)
 | [],[],_,_,_,_=>True.intro
 | [],_::_,_,_,h,_=>by simp[w9] at h
 |_::_,[],_,_,h,_=>by simp[w9] at h
 |sh::l,x::xs,cs,t,h,hc=>by
  simp only[w9] at h
  split at h
  ·rename_i p t1 h1
   split at h
   ·rename_i q ts h2
    simp only[Option.some.injEq,Prod.mk.injEq] at h
    obtain⟨rfl,rfl⟩:=h
    rw[bt] at hc
    exact⟨NV h1 hc.1,Bw h2 hc.2⟩
   ·cases h
  ·cases h
def jh.T:jh→Type
 | .dead=>Unit
 | .box l=>Sr l
 | .row _ _ | .aI _ _=>List AV
 | .aB=>List (Int×Value)
 | .cD=>List (ByteArray×Value)
 | .cA _=>Unit
 | .dB _=>Nat×List Int
def mkO (lens:List Nat):(sh:jh)→sh.T→af
 | .dead,_=>.dead
 | .box l,t=>.box (Hj lens l t)
 | .row e size,t=>.row e size t
 | .aI e size,t=>.aI e size t
 | .aB,t=>.aB (.i t)
 | .cD,t=>.aB (.s t)
 | .cA r,_=>.cA r (oC lens r)
 | .dB e,t=>.dB e t.1 t.2
def TO:List jh→Type
 | []=>Unit
 |sh::l=>sh.T×TO l
def lN (lens:List Nat):(l:List jh)→TO l→List af
 | [],_=>[]
 |sh::l,t=>mkO lens sh t.1::lN lens l t.2
def Uw:(sh:jh)→sh.T→Nat
 | .row _ _,t=>List.length t
 | .aI _ _,t=>List.length t
 | .dB _,t=>t.1
 |_,_=>0
def fm:(l:List jh)→TO l→List Nat
 | [],_=>[]
 |sh::l,t=>Uw sh t.1::fm l t.2
def lenOf:af→Nat
 | .row _ _ els | .aI _ _ els=>els.length
 | .dB _ m _=>m
 |_=>0
def o7:List af→List Nat
 | []=>[]
 |o::l=>lenOf o::o7 l
def yw:af→Bool
 | .dead=>true
 |_=>false
def F5:af→Option (List AV)
 | .box cs=>some cs
 |_=>none
def rowOf:af→Option (Nat×Nat×List AV)
 | .row e size els=>some (e,size,els)
 |_=>none
def mapOf:af→Option (List (Int×Value))
 | .aB (.i es)=>some es
 |_=>none
def yx:af→Option (List (ByteArray×Value))
 | .aB (.s es)=>some es
 |_=>none
theorem Hm {o:af} (h:yw o=true):o=.dead:=by
 cases o<;>simp only[yw] at h<;>first|rfl|cases h
theorem J6 {o:af} {cs:List AV} (h:F5 o=some cs):o=.box cs:=by
 cases o<;>simp only[F5] at h<;>cases h
 rfl
theorem J7 {o:af} {e size:Nat} {els:List AV} (h:rowOf o=some (e,size,els)):o=.row e size els:=by
 cases o<;>simp only[rowOf] at h<;>cases h
 rfl
def F6:af→Option (Nat×Nat×List AV)
 | .aI e size els=>some (e,size,els)
 |_=>none
theorem J8 {o:af} {e size:Nat} {els:List AV} (h:F6 o=some (e,size,els)):o=.aI e size els:=by
 cases o<;>simp only[F6] at h<;>cases h
 rfl
def NW:af→Option (Nat×Nat×List Int)
 | .dB e m ns=>some (e,m,ns)
 |_=>none
theorem NY {o:af} {e m:Nat} {ns:List Int} (h:NW o=some (e,m,ns)):o=.dB e m ns:=by
 cases o<;>simp only[NW] at h<;>cases h
 rfl
def F7:af→Option (Nat×Nat)
 | .cA r n=>some (r,n)
 |_=>none
theorem J9 {o:af} {r n:Nat} (h:F7 o=some (r,n)):o=.cA r n:=by
 unfold F7 at h
 split at h
 ·cases h;rfl
 ·cases h
theorem Ka {o:af} {es:List (Int×Value)} (h:mapOf o=some es):o=.aB (.i es):=by
 unfold mapOf at h
 split at h
 ·cases h;rfl
 ·cases h
theorem Hn {o:af} {es:List (ByteArray×Value)} (h:yx o=some es):o=.aB (.s es):=by
 unfold yx at h
 split at h
 ·cases h;rfl
 ·cases h
def Ux (lens:List Nat) (sh:jh) (o:af):Option (List Prop×sh.T):=
 match sh with
 | .dead=>(match yw o with|true=>some ([],())|false=>none)
 | .box l=>(F5 o).bind fun cs=>qf lens l cs
 | .row e size=>(rowOf o).bind fun p=>if e=p.1∧size=p.2.1 then some ([],p.2.2) else none
 | .aI e size=>(F6 o).bind fun p=>if e=p.1∧size=p.2.1 then some ([],p.2.2) else none
 | .aB=>(mapOf o).bind fun es=>some ([],es)
 | .cD=>(yx o).bind fun es=>some ([],es)
 | .cA r=>(F7 o).bind fun p=>(match Nat.beq r p.1 with|true=>some ([p.2=oC lens r],())|false=>none)
 | .dB e=>(NW o).bind fun p=>if e=p.1 then some ([],p.2) else none
def Ho:af→af→Prop
 | .box cs,.box cs'=>dH cs cs'
 |o,o'=>o=o'
def dP:List af→List af→Prop
 | [],[]=>True
 |o::l,o'::l'=>Ho o o'∧dP l l'
 |_,_=>False
theorem NZ {lens:List Nat} {sh:jh} {o:af} {cs:List Prop} {t:sh.T} (h:Ux lens sh o=some (cs,t)) (hc:dI cs):Ho o (mkO lens sh t)∧Uw sh t=lenOf o:=by
 cases sh with
 |dead=>
  have h1:(match yw o with|true=>some (([]:List Prop),())|false=>none)=some (cs,t):=h
  split at h1
  ·rename_i hd;rw[Hm hd];exact⟨rfl,rfl⟩
  ·cases h1
 |box l=>
  have h1:(F5 o).bind (fun cs=>qf lens l cs)=some (cs,t):=h
  obtain⟨cs',h2,h3⟩:=Option.bind_eq_some_iff.1 h1
  rw[J6 h2]
  exact⟨uT h3 hc,rfl⟩
 |row e size=>
  have h1:(rowOf o).bind (fun p=>if e=p.1∧size=p.2.1 then some (([]:List Prop),p.2.2) else none)=some (cs,t):=h
  obtain⟨⟨e',rU,els⟩,h2,h3⟩:=Option.bind_eq_some_iff.1 h1
  split at h3
  ·rename_i he
   simp only at he
   obtain⟨rfl,rfl⟩:=he
   rw[J7 h2]
   cases h3
   exact⟨rfl,rfl⟩
  ·cases h3
 |aI e size=>
  have h1:(F6 o).bind (fun p=>if e=p.1∧size=p.2.1 then some (([]:List Prop),p.2.2) else none)=some (cs,t):=h
  obtain⟨⟨e',rU,els⟩,h2,h3⟩:=Option.bind_eq_some_iff.1 h1
  split at h3
  ·rename_i he
   simp only at he
   obtain⟨rfl,rfl⟩:=he
   rw[J8 h2]
   cases h3
   exact⟨rfl,rfl⟩
  ·cases h3
 |aB=>
  have h1:(mapOf o).bind (fun es=>some (([]:List Prop),es))=some (cs,t):=h
  obtain⟨es,h2,h3⟩:=Option.bind_eq_some_iff.1 h1
  rw[Ka h2]
  cases h3
  exact⟨rfl,rfl⟩
 |cD=>
  have h1:(yx o).bind (fun es=>some (([]:List Prop),es))=some (cs,t):=h
  obtain⟨es,h2,h3⟩:=Option.bind_eq_some_iff.1 h1
  rw[Hn h2]
  cases h3
  exact⟨rfl,rfl⟩
 |cA r=>
  have h1:(F7 o).bind (fun p=>(match Nat.beq r p.1 with|true=>some ([p.2=oC lens r],())|false=>none))=some (cs,t):=h
  obtain⟨⟨r',n⟩,h2,h3⟩:=Option.bind_eq_some_iff.1 h1
  rw[J9 h2]
  split at h3
  ·rename_i hb
   have hb:=Nat.eq_of_beq_eq_true hb
   simp only[Option.some.injEq,Prod.mk.injEq] at h3
   obtain⟨rfl,_⟩:=h3
   have:=hc.1
   simp only at this hb
   subst hb;subst this
   exact⟨rfl,rfl⟩
  ·cases h3
 |dB e=>
  have h1:(NW o).bind (fun p=>if e=p.1 then some (([]:List Prop),p.2) else none)=some (cs,t):=h
  obtain⟨⟨e',m,ns⟩,h2,h3⟩:=Option.bind_eq_some_iff.1 h1
  split at h3
  ·rename_i he
   simp only at he
   subst he
   rw[NY h2]
   cases h3
   exact⟨rfl,rfl⟩
  ·cases h3
def r7 (lens:List Nat):(l:List jh)→List af→Option (List Prop×TO l)
 | [],[]=>some ([],())
 |sh::l,x::xs=>(match Ux lens sh x with
  |some (p,t)=>(match r7 lens l xs with
   |some (q,ts)=>some (p++q,(t,ts))
   |none=>none)
  |none=>none)
 |_,_=>none
theorem qh {lens lens':List Nat}:∀{l:List jh} {xs:List af} {cs:List Prop} {t:TO l},r7 lens l xs=some (cs,t)→dI cs→dP xs (lN lens l t)∧fm l t=o7 xs
 | [],[],_,_,_,_=>⟨True.intro,rfl⟩
 | [],_::_,_,_,h,_=>by simp[r7] at h
 |_::_,[],_,_,h,_=>by simp[r7] at h
 |sh::l,x::xs,cs,t,h,hc=>by
  simp only[r7] at h
  split at h
  ·rename_i p t1 h1
   split at h
   ·rename_i q ts h2
    simp only[Option.some.injEq,Prod.mk.injEq] at h
    obtain⟨rfl,rfl⟩:=h
    rw[bt] at hc
    have h3:=NZ h1 hc.1
    have h4:=qh (lens':=lens') h2 hc.2
    exact⟨⟨h3.1,h4.1⟩,by simp only[fm,o7,h3.2,h4.2]⟩
   ·cases h
  ·cases h
theorem dP.refl:∀(l:List af),dP l l
 | []=>True.intro
 |o::l=>⟨by
  cases o with
  |box cs=>exact dH.refl cs
  |_=>rfl,dP.refl l⟩
theorem dP.append:∀{a b c d:List af},dP a b→dP c d→dP (a++c) (b++d)
 | [],[],_,_,_,h=>h
 |_::_,_::_,_,_,h1,h2=>⟨h1.1,dP.append h1.2 h2⟩
theorem dP.length:∀{a b:List af},dP a b→a.length=b.length
 | [],[],_=>rfl
 |_::_,_::_,h=>by simp[dP.length h.2]
theorem dP.get:∀{a b:List af},dP a b→∀(r:Nat),(a[r]?=none∧b[r]?=none)∨∃o o',a[r]?=some o∧b[r]?=some o'∧Ho o o'
 | [],[],_,r=>.inl ⟨by simp,by simp⟩
 |_::_,_::_,h,0=>.inr ⟨_,_,rfl,rfl,h.1⟩
 |_::_,_::_,h,r+1=>by simpa using dP.get h.2 r
end Go.Proofs.YtdcikhleahfknaaGreatDoor
