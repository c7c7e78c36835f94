/- Texts of ours laid together for a claim: VcD. -/
import Derived.Test.YtdcikhleahfknaaGreatDoorQ23
namespace Go.Proofs.YtdcikhleahfknaaGreatDoor
open Go
set_option linter.unusedSimpArgs false
set_option linter.unusedVariables false
def sw.T:sw→Type
 | .i _=>Int
 | .b=>Bool
 | .s=>ByteArray
 | .l=>List AV
 | .c=>List AV
 | .m=>List (Int×Value)
 | .ms=>List (ByteArray×Value)
 | .k _=>Unit
 | .o _=>Unit
 | .fn=>Value
 | .q _=>Unit
def SK (lens:List Nat):(sh:sw)→sh.T→AV
 | .i k,n=>.ae (.int k n)
 | .b,b=>.ae (.bool b)
 | .s,s=>.ae (.string s)
 | .l,l=>.sl l
 | .c,l=>.clip l
 | .m,l=>.dL (.i l)
 | .ms,l=>.dL (.s l)
 | .k x,_=>x
 | .o r,_=>.own r (nX lens r)
 | .fn,v=>.fn v
 | .q x,_=>x
def QH:List sw→Type
 | []=>Unit
 |sh::l=>sh.T×QH l
def F4 (lens:List Nat):(l:List sw)→QH l→List AV
 | [],_=>[]
 |sh::l,t=>SK lens sh t.1::F4 lens l t.2
def pD.T:pD→Type
 | .c x=>x.T
 | .a l=>QH l
def VL (lens:List Nat):(sh:pD)→sh.T→AV
 | .c x,t=>SK lens x t
 | .a l,t=>.agg (F4 lens l t)
def Pp:List pD→Type
 | []=>Unit
 |sh::l=>sh.T×Pp l
def C6 (lens:List Nat):(l:List pD)→Pp l→List AV
 | [],_=>[]
 |sh::l,t=>VL lens sh t.1::C6 lens l t.2
def Sh.T:Sh→Type
 | .v x=>x.T
 | .t l=>Pp l
 | .f _ l=>Pp l
 | .m _ l=>Pp l
def WK (lens:List Nat):(sh:Sh)→sh.T→AV
 | .v x,t=>VL lens x t
 | .t l,t=>.bc (C6 lens l t)
 | .f fn l,t=>.aS fn (C6 lens l t)
 | .m fn l,t=>.cH fn (C6 lens l t)
def TS:List Sh→Type
 | []=>Unit
 |sh::l=>sh.T×TS l
def sy (lens:List Nat):(l:List Sh)→TS l→List AV
 | [],_=>[]
 |sh::l,t=>WK lens sh t.1::sy lens l t.2
def dE (x y:AV):Prop:=∀(w:World) (F:Nat→Nat→Prop) (η:List Value) (hp:List af) (v:Value),aV w F η hp x v→aV w F η hp y v
def dt:List AV→List AV→Prop
 | [],[]=>True
 |x::xs,y::ys=>dE x y∧dt xs ys
 |_,_=>False
theorem dE.refl (x:AV):dE x x:=fun _ _ _ _ _ h=>h
theorem dt.refl:∀(xs:List AV),dt xs xs
 | []=>True.intro
 |x::xs=>⟨dE.refl x,dt.refl xs⟩
theorem dt.length:∀{xs ys:List AV},dt xs ys→xs.length=ys.length
 | [],[],_=>rfl
 |_::_,_::_,h=>by simp[dt.length h.2]
theorem dt.get:∀{xs ys:List AV},dt xs ys→∀(j:Nat) (y:AV),ys[j]?=some y→∃x,xs[j]?=some x∧dE x y
 | [],[],_,j,y,h=>by simp at h
 |x::xs,y::ys,h,0,z,hz=>by
  simp only[List.getElem?_cons_zero,Option.some.injEq] at hz
  subst hz
  exact⟨x,rfl,h.1⟩
 |x::xs,y::ys,h,j+1,z,hz=>by
  obtain⟨u,h1,h2⟩:=dt.get h.2 j z (by simpa using hz)
  exact⟨u,by simpa using h1,h2⟩
theorem dt.parts {cs cs':List AV} (h:dt cs cs') {w:World} {F:Nat→Nat→Prop} {η:List Value} {hp:List af} {vs:Array Value} (hr:∀(j:Nat) (x:AV) (v:Value),cs[j]?=some x→vs[j]?=some v→aV w F η hp x v):
  ∀(j:Nat) (x:AV) (v:Value),cs'[j]?=some x→vs[j]?=some v→aV w F η hp x v:=by
 intro j y v hy hv
 obtain⟨x,h1,h2⟩:=h.get j y hy
 exact h2 _ _ _ _ _ (hr j x v h1 hv)
theorem dE.agg {cs cs':List AV} (h:dt cs cs'):dE (.agg cs) (.agg cs'):=by
 intro w F η hp v hv
 cases hv with
 |agg _ vs hl h1 hr=>exact .agg _ vs (by rw[hl,h.length]) h1 (h.parts hr)
theorem dE.bc {cs cs':List AV} (h:dt cs cs'):dE (.bc cs) (.bc cs'):=by
 intro w F η hp v hv
 cases hv with
 |bc _ vs hl hr=>exact .bc _ vs (by rw[hl,h.length]) (h.parts hr)
theorem dE.aS {f:Nat} {cs cs':List AV} (h:dt cs cs'):dE (.aS f cs) (.aS f cs'):=by
 intro w F η hp v hv
 cases hv with
 |aS _ _ vs hl hr=>exact .aS f _ vs (by rw[hl,h.length]) (h.parts hr)
theorem dE.cH {f:Nat} {cs cs':List AV} (h:dt cs cs'):dE (.cH f cs) (.cH f cs'):=by
 intro w F η hp v hv
 cases hv with
 |cH _ _ vs hl hr=>exact .cH f _ vs (by rw[hl,h.length]) (h.parts hr)
def F5:List AV→List AV→Bool
 | [],[]=>true
 | .ptr r o::l,.ptr r' o'::l'=>Nat.beq r r'&&(Nat.beq o o'&&F5 l l')
 |_,_=>false
theorem EG:∀{l l':List AV},F5 l l'=true→l=l'
 | [],[],_=>rfl
 |x::l,[],h=>by cases x<;>simp[F5] at h
 | [],y::l,h=>by simp[F5] at h
 |x::l,y::l',h=>by
  unfold F5 at h
  split at h
  ·rename_i h1;cases h1
  ·rename_i r o l1 r' o' l2 e1 e2
   cases e1;cases e2
   rw[Bool.and_eq_true,Bool.and_eq_true] at h
   rw[Nat.eq_of_beq_eq_true h.1,Nat.eq_of_beq_eq_true h.2.1,EG h.2.2]
  ·cases h
def WL:AV→AV→Bool
 | .top,_=>true
 | .ptr r o,.ptr r' o'=>Nat.beq r r'&&Nat.beq o o'
 | .mp r,.mp r'=>Nat.beq r r'
 | .aS f cs,.aS f' cs'=>Nat.beq f f'&&F5 cs cs'
 | .ae (.slice none 0 0),.ae (.slice none 0 0)=>true
 | .ae (.pointer none),.ae (.pointer none)=>true
 |_,_=>false
theorem QI {x y:AV} (h:WL x y=true):dE y x:=by
 unfold WL at h
 split at h
 ·exact fun _ _ _ _ v _=>.top v
 ·rw[Bool.and_eq_true] at h
  rw[Nat.eq_of_beq_eq_true h.1,Nat.eq_of_beq_eq_true h.2];exact .refl _
 ·rw[Nat.eq_of_beq_eq_true h];exact .refl _
 ·rw[Bool.and_eq_true] at h
  rw[Nat.eq_of_beq_eq_true h.1,EG h.2];exact .refl _
 ·exact .refl _
 ·exact .refl _
 ·cases h
def Ix (lens:List Nat):(sh:sw)→AV→Option (List Prop×sh.T)
 | .i k,.ae (.int k' n)=>if k=k' then some ([],n) else none
 | .b,.ae (.bool b)=>some ([],b)
 | .s,.ae (.string s)=>some ([],s)
 | .l,.sl l=>some ([],l)
 | .l,.clip l=>some ([],l)
 | .l,.ae (.slice none 0 0)=>some ([],([]:List AV))
 | .c,.clip l=>some ([],l)
 | .m,.dL (.i l)=>some ([],l)
 | .ms,.dL (.s l)=>some ([],l)
 | .fn,.fn v=>some ([],v)
 | .k x,y=>(match WL x y with|true=>some ([],())|false=>none)
 | .o r,.own r' n=>if r=r' then some ([n=nX lens r],()) else none
 | .q x,y=>some ([y=x],())
 |_,_=>none
theorem EH {lens:List Nat} {sh:sw} {x:AV} {cs:List Prop} {t:sh.T} (h:Ix lens sh x=some (cs,t)) (hc:dw cs):dE x (SK lens sh t):=by
 unfold Ix at h
 split at h
 ·split at h
  ·rename_i hk
   subst hk
   cases h;exact .refl _
  ·cases h
 ·cases h;exact .refl _
 ·cases h;exact .refl _
 ·cases h;exact .refl _
 ·cases h;exact fun _ _ _ _ _ h=>h.nn
 ·cases h
  intro w F η hp v hv
  cases hv;exact .jN _
 ·cases h;exact .refl _
 ·cases h;exact .refl _
 ·cases h;exact .refl _
 ·cases h;exact .refl _
 ·split at h
  ·rename_i he;exact QI he
  ·cases h
 ·split at h
  ·rename_i hr
   subst hr
   cases h
   have:=hc.1
   subst this;exact .refl _
  ·cases h
 ·cases h
  have:=hc.1
  subst this;exact .refl _
 ·cases h
def pL (lens:List Nat):(l:List sw)→List AV→Option (List Prop×QH l)
 | [],[]=>some ([],())
 |sh::l,x::xs=>(match Ix lens sh x with
  |some (p,t)=>(match pL lens l xs with
   |some (q,ts)=>some (p++q,(t,ts))
   |none=>none)
  |none=>none)
 |_,_=>none
theorem ud {lens:List Nat}:∀{l:List sw} {xs:List AV} {cs:List Prop} {t:QH l},pL lens l xs=some (cs,t)→dw cs→dt xs (F4 lens l t)
 | [],[],_,_,_,_=>True.intro
 | [],_::_,_,_,h,_=>by simp[pL] at h
 |_::_,[],_,_,h,_=>by simp[pL] at h
 |sh::l,x::xs,cs,t,h,hc=>by
  simp only[pL] at h
  split at h
  ·rename_i p t1 h1
   split at h
   ·rename_i q ts h2
    simp only[Option.some.injEq,Prod.mk.injEq] at h
    obtain⟨rfl,rfl⟩:=h
    rw[bq] at hc
    exact⟨EH h1 hc.1,ud h2 hc.2⟩
   ·cases h
  ·cases h
def EI:AV→Option (List AV)
 | .agg cs=>some cs
 |_=>none
def EJ:AV→Option (List AV)
 | .bc cs=>some cs
 |_=>none
def EK:AV→Option (Nat×List AV)
 | .aS f cs=>some (f,cs)
 |_=>none
def xI:AV→Option (Nat×List AV)
 | .cH f cs=>some (f,cs)
 |_=>none
theorem Iy {x:AV} {cs:List AV} (h:EI x=some cs):x=.agg cs:=by
 cases x<;>simp only[EI] at h<;>cases h
 rfl
theorem Iz {x:AV} {cs:List AV} (h:EJ x=some cs):x=.bc cs:=by
 cases x<;>simp only[EJ] at h<;>cases h
 rfl
theorem IA {x:AV} {f:Nat} {cs:List AV} (h:EK x=some (f,cs)):x=.aS f cs:=by
 cases x<;>simp only[EK] at h<;>cases h
 rfl
theorem F6 {x:AV} {f:Nat} {cs:List AV} (h:xI x=some (f,cs)):x=.cH f cs:=by
 cases x<;>simp only[xI] at h<;>cases h
 rfl
def Mk (lens:List Nat) (sh:pD) (v:AV):Option (List Prop×sh.T):=
 match sh with
 | .c x=>Ix lens x v
 | .a l=>(EI v).bind fun cs=>pL lens l cs
theorem EL {lens:List Nat} {sh:pD} {x:AV} {cs:List Prop} {t:sh.T} (h:Mk lens sh x=some (cs,t)) (hc:dw cs):dE x (VL lens sh t):=by
 cases sh with
 |c y=>
  have h1:Ix lens y x=some (cs,t):=h
  exact EH h1 hc
 |a l=>
  have h1:(EI x).bind (fun cs=>pL lens l cs)=some (cs,t):=h
  obtain⟨cs',h2,h3⟩:=Option.bind_eq_some_iff.1 h1
  rw[Iy h2]
  exact dE.agg (ud h3 hc)
def mG (lens:List Nat):(l:List pD)→List AV→Option (List Prop×Pp l)
 | [],[]=>some ([],())
 |sh::l,x::xs=>(match Mk lens sh x with
  |some (p,t)=>(match mG lens l xs with
   |some (q,ts)=>some (p++q,(t,ts))
   |none=>none)
  |none=>none)
 |_,_=>none
theorem pM {lens:List Nat}:∀{l:List pD} {xs:List AV} {cs:List Prop} {t:Pp l},mG lens l xs=some (cs,t)→dw cs→dt xs (C6 lens l t)
 | [],[],_,_,_,_=>True.intro
 | [],_::_,_,_,h,_=>by simp[mG] at h
 |_::_,[],_,_,h,_=>by simp[mG] at h
 |sh::l,x::xs,cs,t,h,hc=>by
  simp only[mG] at h
  split at h
  ·rename_i p t1 h1
   split at h
   ·rename_i q ts h2
    simp only[Option.some.injEq,Prod.mk.injEq] at h
    obtain⟨rfl,rfl⟩:=h
    rw[bq] at hc
    exact⟨EL h1 hc.1,pM h2 hc.2⟩
   ·cases h
  ·cases h
def SL (lens:List Nat) (sh:Sh) (v:AV):Option (List Prop×sh.T):=
 match sh with
 | .v x=>Mk lens x v
 | .t l=>(EJ v).bind fun cs=>mG lens l cs
 | .f fn l=>(EK v).bind fun p=>if fn=p.1 then mG lens l p.2 else none
 | .m fn l=>(xI v).bind fun p=>(mG lens l p.2).bind fun q=>some ((p.1=fn)::q.1,q.2)
theorem Ml {lens:List Nat} {sh:Sh} {x:AV} {cs:List Prop} {t:sh.T} (h:SL lens sh x=some (cs,t)) (hc:dw cs):dE x (WK lens sh t):=by
 cases sh with
 |v y=>
  have h1:Mk lens y x=some (cs,t):=h
  exact EL h1 hc
 |t l=>
  have h1:(EJ x).bind (fun cs=>mG lens l cs)=some (cs,t):=h
  obtain⟨cs',h2,h3⟩:=Option.bind_eq_some_iff.1 h1
  rw[Iz h2]
  exact dE.bc (pM h3 hc)
 |f fn l=>
  have h1:(EK x).bind (fun p=>if fn=p.1 then mG lens l p.2 else none)=some (cs,t):=h
  obtain⟨⟨f,cs'⟩,h2,h3⟩:=Option.bind_eq_some_iff.1 h1
  split at h3
  ·rename_i hf
   simp only at hf
   subst hf
   rw[IA h2]
   exact dE.aS (pM h3 hc)
  ·cases h3
 |m fn l=>
  have h1:(xI x).bind (fun p=>(mG lens l p.2).bind fun q=>some ((p.1=fn)::q.1,q.2))=some (cs,t):=h
  obtain⟨⟨f,cs'⟩,h2,h3⟩:=Option.bind_eq_some_iff.1 h1
  obtain⟨⟨qs,u⟩,h4,h5⟩:=Option.bind_eq_some_iff.1 h3
  simp only[Option.some.injEq,Prod.mk.injEq] at h5
  obtain⟨rfl,rfl⟩:=h5
  rw[F6 h2,show f=fn from hc.1]
  exact dE.cH (pM h4 hc.2)
def wi (lens:List Nat):(l:List Sh)→List AV→Option (List Prop×TS l)
 | [],[]=>some ([],())
 |sh::l,x::xs=>(match SL lens sh x with
  |some (p,t)=>(match wi lens l xs with
   |some (q,ts)=>some (p++q,(t,ts))
   |none=>none)
  |none=>none)
 |_,_=>none
theorem Al {lens:List Nat}:∀{l:List Sh} {xs:List AV} {cs:List Prop} {t:TS l},wi lens l xs=some (cs,t)→dw cs→dt xs (sy lens l t)
 | [],[],_,_,_,_=>True.intro
 | [],_::_,_,_,h,_=>by simp[wi] at h
 |_::_,[],_,_,h,_=>by simp[wi] at h
 |sh::l,x::xs,cs,t,h,hc=>by
  simp only[wi] at h
  split at h
  ·rename_i p t1 h1
   split at h
   ·rename_i q ts h2
    simp only[Option.some.injEq,Prod.mk.injEq] at h
    obtain⟨rfl,rfl⟩:=h
    rw[bq] at hc
    exact⟨Ml h1 hc.1,Al h2 hc.2⟩
   ·cases h
  ·cases h
def iG.T:iG→Type
 | .dead=>Unit
 | .box l=>QH l
 | .row _ _ | .aF _ _=>List AV
 | .aP=>List (Int×Value)
 | .eN=>List (ByteArray×Value)
 | .cA _=>Unit
 | .dh _=>Nat×List Int
def Zr (lens:List Nat):(sh:iG)→sh.T→af
 | .dead,_=>.dead
 | .box l,t=>.box (F4 lens l t)
 | .row e size,t=>.row e size t
 | .aF e size,t=>.aF e size t
 | .aP,t=>.aP (.i t)
 | .eN,t=>.aP (.s t)
 | .cA r,_=>.cA r (nX lens r)
 | .dh e,t=>.dh e t.1 t.2
def TO:List iG→Type
 | []=>Unit
 |sh::l=>sh.T×TO l
def lh (lens:List Nat):(l:List iG)→TO l→List af
 | [],_=>[]
 |sh::l,t=>Zr lens sh t.1::lh lens l t.2
def SM:(sh:iG)→sh.T→Nat
 | .row _ _,t=>List.length t
 | .aF _ _,t=>List.length t
 | .dh _,t=>t.1
 |_,_=>0
def eO:(l:List iG)→TO l→List Nat
 | [],_=>[]
 |sh::l,t=>SM sh t.1::eO l t.2
def lenOf:af→Nat
 | .row _ _ els | .aF _ _ els=>els.length
 | .dh _ m _=>m
 |_=>0
def oI:List af→List Nat
 | []=>[]
 |o::l=>lenOf o::oI l
def xJ:af→Bool
 | .dead=>true
 |_=>false
def EM:af→Option (List AV)
 | .box cs=>some cs
 |_=>none
def rowOf:af→Option (Nat×Nat×List AV)
 | .row e size els=>some (e,size,els)
 |_=>none
def mapOf:af→Option (List (Int×Value))
 | .aP (.i es)=>some es
 |_=>none
def xK:af→Option (List (ByteArray×Value))
 | .aP (.s es)=>some es
 |_=>none
theorem F7 {o:af} (h:xJ o=true):o=.dead:=by
 cases o<;>simp only[xJ] at h<;>first|rfl|cases h
theorem IB {o:af} {cs:List AV} (h:EM o=some cs):o=.box cs:=by
 cases o<;>simp only[EM] at h<;>cases h
 rfl
theorem IC {o:af} {e size:Nat} {els:List AV} (h:rowOf o=some (e,size,els)):o=.row e size els:=by
 cases o<;>simp only[rowOf] at h<;>cases h
 rfl
def EN:af→Option (Nat×Nat×List AV)
 | .aF e size els=>some (e,size,els)
 |_=>none
theorem ID {o:af} {e size:Nat} {els:List AV} (h:EN o=some (e,size,els)):o=.aF e size els:=by
 cases o<;>simp only[EN] at h<;>cases h
 rfl
def Mm:af→Option (Nat×Nat×List Int)
 | .dh e m ns=>some (e,m,ns)
 |_=>none
theorem Mn {o:af} {e m:Nat} {ns:List Int} (h:Mm o=some (e,m,ns)):o=.dh e m ns:=by
 cases o<;>simp only[Mm] at h<;>cases h
 rfl
def EO:af→Option (Nat×Nat)
 | .cA r n=>some (r,n)
 |_=>none
theorem IE {o:af} {r n:Nat} (h:EO o=some (r,n)):o=.cA r n:=by
 unfold EO at h
 split at h
 ·cases h;rfl
 ·cases h
theorem IF {o:af} {es:List (Int×Value)} (h:mapOf o=some es):o=.aP (.i es):=by
 unfold mapOf at h
 split at h
 ·cases h;rfl
 ·cases h
theorem F8 {o:af} {es:List (ByteArray×Value)} (h:xK o=some es):o=.aP (.s es):=by
 unfold xK at h
 split at h
 ·cases h;rfl
 ·cases h
def SN (lens:List Nat) (sh:iG) (o:af):Option (List Prop×sh.T):=
 match sh with
 | .dead=>(match xJ o with|true=>some ([],())|false=>none)
 | .box l=>(EM o).bind fun cs=>pL lens l cs
 | .row e size=>(rowOf o).bind fun p=>if e=p.1∧size=p.2.1 then some ([],p.2.2) else none
 | .aF e size=>(EN o).bind fun p=>if e=p.1∧size=p.2.1 then some ([],p.2.2) else none
 | .aP=>(mapOf o).bind fun es=>some ([],es)
 | .eN=>(xK o).bind fun es=>some ([],es)
 | .cA r=>(EO o).bind fun p=>(match Nat.beq r p.1 with|true=>some ([p.2=nX lens r],())|false=>none)
 | .dh e=>(Mm o).bind fun p=>if e=p.1 then some ([],p.2) else none
def F9:af→af→Prop
 | .box cs,.box cs'=>dt cs cs'
 |o,o'=>o=o'
def dD:List af→List af→Prop
 | [],[]=>True
 |o::l,o'::l'=>F9 o o'∧dD l l'
 |_,_=>False
theorem Mo {lens:List Nat} {sh:iG} {o:af} {cs:List Prop} {t:sh.T} (h:SN lens sh o=some (cs,t)) (hc:dw cs):F9 o (Zr lens sh t)∧SM sh t=lenOf o:=by
 cases sh with
 |dead=>
  have h1:(match xJ o with|true=>some (([]:List Prop),())|false=>none)=some (cs,t):=h
  split at h1
  ·rename_i hd;rw[F7 hd];exact⟨rfl,rfl⟩
  ·cases h1
 |box l=>
  have h1:(EM o).bind (fun cs=>pL lens l cs)=some (cs,t):=h
  obtain⟨cs',h2,h3⟩:=Option.bind_eq_some_iff.1 h1
  rw[IB h2]
  exact⟨ud h3 hc,rfl⟩
 |row e size=>
  have h1:(rowOf o).bind (fun p=>if e=p.1∧size=p.2.1 then some (([]:List Prop),p.2.2) else none)=some (cs,t):=h
  obtain⟨⟨e',rl,els⟩,h2,h3⟩:=Option.bind_eq_some_iff.1 h1
  split at h3
  ·rename_i he
   simp only at he
   obtain⟨rfl,rfl⟩:=he
   rw[IC h2]
   cases h3
   exact⟨rfl,rfl⟩
  ·cases h3
 |aF e size=>
  have h1:(EN o).bind (fun p=>if e=p.1∧size=p.2.1 then some (([]:List Prop),p.2.2) else none)=some (cs,t):=h
  obtain⟨⟨e',rl,els⟩,h2,h3⟩:=Option.bind_eq_some_iff.1 h1
  split at h3
  ·rename_i he
   simp only at he
   obtain⟨rfl,rfl⟩:=he
   rw[ID h2]
   cases h3
   exact⟨rfl,rfl⟩
  ·cases h3
 |aP=>
  have h1:(mapOf o).bind (fun es=>some (([]:List Prop),es))=some (cs,t):=h
  obtain⟨es,h2,h3⟩:=Option.bind_eq_some_iff.1 h1
  rw[IF h2]
  cases h3
  exact⟨rfl,rfl⟩
 |eN=>
  have h1:(xK o).bind (fun es=>some (([]:List Prop),es))=some (cs,t):=h
  obtain⟨es,h2,h3⟩:=Option.bind_eq_some_iff.1 h1
  rw[F8 h2]
  cases h3
  exact⟨rfl,rfl⟩
 |cA r=>
  have h1:(EO o).bind (fun p=>(match Nat.beq r p.1 with|true=>some ([p.2=nX lens r],())|false=>none))=some (cs,t):=h
  obtain⟨⟨r',n⟩,h2,h3⟩:=Option.bind_eq_some_iff.1 h1
  rw[IE h2]
  split at h3
  ·rename_i hb
   have hb:=Nat.eq_of_beq_eq_true hb
   simp only[Option.some.injEq,Prod.mk.injEq] at h3
   obtain⟨rfl,_⟩:=h3
   have:=hc.1
   simp only at this hb
   subst hb;subst this
   exact⟨rfl,rfl⟩
  ·cases h3
 |dh e=>
  have h1:(Mm o).bind (fun p=>if e=p.1 then some (([]:List Prop),p.2) else none)=some (cs,t):=h
  obtain⟨⟨e',m,ns⟩,h2,h3⟩:=Option.bind_eq_some_iff.1 h1
  split at h3
  ·rename_i he
   simp only at he
   subst he
   rw[Mn h2]
   cases h3
   exact⟨rfl,rfl⟩
  ·cases h3
def rC (lens:List Nat):(l:List iG)→List af→Option (List Prop×TO l)
 | [],[]=>some ([],())
 |sh::l,x::xs=>(match SN lens sh x with
  |some (p,t)=>(match rC lens l xs with
   |some (q,ts)=>some (p++q,(t,ts))
   |none=>none)
  |none=>none)
 |_,_=>none
theorem pN {lens lens':List Nat}:∀{l:List iG} {xs:List af} {cs:List Prop} {t:TO l},rC lens l xs=some (cs,t)→dw cs→dD xs (lh lens l t)∧eO l t=oI xs
 | [],[],_,_,_,_=>⟨True.intro,rfl⟩
 | [],_::_,_,_,h,_=>by simp[rC] at h
 |_::_,[],_,_,h,_=>by simp[rC] at h
 |sh::l,x::xs,cs,t,h,hc=>by
  simp only[rC] at h
  split at h
  ·rename_i p t1 h1
   split at h
   ·rename_i q ts h2
    simp only[Option.some.injEq,Prod.mk.injEq] at h
    obtain⟨rfl,rfl⟩:=h
    rw[bq] at hc
    have h3:=Mo h1 hc.1
    have h4:=pN (lens':=lens') h2 hc.2
    exact⟨⟨h3.1,h4.1⟩,by simp only[eO,oI,h3.2,h4.2]⟩
   ·cases h
  ·cases h
theorem dD.refl:∀(l:List af),dD l l
 | []=>True.intro
 |o::l=>⟨by
  cases o with
  |box cs=>exact dt.refl cs
  |_=>rfl,dD.refl l⟩
theorem dD.append:∀{a b c d:List af},dD a b→dD c d→dD (a++c) (b++d)
 | [],[],_,_,_,h=>h
 |_::_,_::_,_,_,h1,h2=>⟨h1.1,dD.append h1.2 h2⟩
theorem dD.length:∀{a b:List af},dD a b→a.length=b.length
 | [],[],_=>rfl
 |_::_,_::_,h=>by simp[dD.length h.2]
theorem dD.get:∀{a b:List af},dD a b→∀(r:Nat),(a[r]?=none∧b[r]?=none)∨∃o o',a[r]?=some o∧b[r]?=some o'∧F9 o o'
 | [],[],_,r=>.inl ⟨by simp,by simp⟩
 |_::_,_::_,h,0=>.inr ⟨_,_,rfl,rfl,h.1⟩
 |_::_,_::_,h,r+1=>by simpa using dD.get h.2 r
end Go.Proofs.YtdcikhleahfknaaGreatDoor
