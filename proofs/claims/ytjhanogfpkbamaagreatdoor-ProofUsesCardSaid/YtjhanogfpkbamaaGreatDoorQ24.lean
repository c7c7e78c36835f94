/- Texts of ours laid together for a claim: VcD. -/
import Derived.Test.YtjhanogfpkbamaaGreatDoorQ23
namespace Go.Proofs.YtjhanogfpkbamaaGreatDoor
open Go
set_option linter.unusedSimpArgs false
set_option linter.unusedVariables false
def wT.T:wT→Type
 | .i _=>Int
 | .b=>Bool
 | .s=>ByteArray
 | .l=>List AV
 | .c=>List AV
 | .m=>List (Int×Value)
 | .ms=>List (ByteArray×Value)
 | .k _=>Unit
 | .o _=>Unit
 | .fn=>Value
 | .q _=>Unit
def Yg (lens:List Nat):(sh:wT)→sh.T→AV
 | .i k,n=>.ah (.int k n)
 | .b,b=>.ah (.bool b)
 | .s,s=>.ah (.string s)
 | .l,l=>.sl l
 | .c,l=>.clip l
 | .m,l=>.fH (.i l)
 | .ms,l=>.fH (.s l)
 | .k x,_=>x
 | .o r,_=>.own r (rB lens r)
 | .fn,v=>.fn v
 | .q x,_=>x
def Wm:List wT→Type
 | []=>Unit
 |sh::l=>sh.T×Wm l
def K6 (lens:List Nat):(l:List wT)→Wm l→List AV
 | [],_=>[]
 |sh::l,t=>Yg lens sh t.1::K6 lens l t.2
def tD.T:tD→Type
 | .c x=>x.T
 | .a l=>Wm l
def mkV (lens:List Nat):(sh:tD)→sh.T→AV
 | .c x,t=>Yg lens x t
 | .a l,t=>.agg (K6 lens l t)
def Vd:List tD→Type
 | []=>Unit
 |sh::l=>sh.T×Vd l
def HP (lens:List Nat):(l:List tD)→Vd l→List AV
 | [],_=>[]
 |sh::l,t=>mkV lens sh t.1::HP lens l t.2
def Sh.T:Sh→Type
 | .v x=>x.T
 | .t l=>Vd l
 | .f _ l=>Vd l
 | .m _ l=>Vd l
def mkS (lens:List Nat):(sh:Sh)→sh.T→AV
 | .v x,t=>mkV lens x t
 | .t l,t=>.aX (HP lens l t)
 | .f fn l,t=>.ck fn (HP lens l t)
 | .m fn l,t=>.cX fn (HP lens l t)
def TS:List Sh→Type
 | []=>Unit
 |sh::l=>sh.T×TS l
def wV (lens:List Nat):(l:List Sh)→TS l→List AV
 | [],_=>[]
 |sh::l,t=>mkS lens sh t.1::wV lens l t.2
def ef (x y:AV):Prop:=∀(w:World) (F:Nat→Nat→Prop) (η:List Value) (hp:List af) (v:Value),bw w F η hp x v→bw w F η hp y v
def fK:List AV→List AV→Prop
 | [],[]=>True
 |x::xs,y::ys=>ef x y∧fK xs ys
 |_,_=>False
theorem ef.refl (x:AV):ef x x:=fun _ _ _ _ _ h=>h
theorem fK.refl:∀(xs:List AV),fK xs xs
 | []=>True.intro
 |x::xs=>⟨ef.refl x,fK.refl xs⟩
theorem fK.length:∀{xs ys:List AV},fK xs ys→xs.length=ys.length
 | [],[],_=>rfl
 |_::_,_::_,h=>by simp[fK.length h.2]
theorem fK.get:∀{xs ys:List AV},fK xs ys→∀(j:Nat) (y:AV),ys[j]?=some y→∃x,xs[j]?=some x∧ef x y
 | [],[],_,j,y,h=>by simp at h
 |x::xs,y::ys,h,0,z,hz=>by
  simp only[aiS,Option.some.injEq] at hz
  subst hz
  exact⟨x,rfl,h.1⟩
 |x::xs,y::ys,h,j+1,z,hz=>by
  obtain⟨u,h1,h2⟩:=fK.get h.2 j z (by simpa using hz)
  exact⟨u,by simpa using h1,h2⟩
theorem fK.parts {cs iP:List AV} (h:fK cs iP) {w:World} {F:Nat→Nat→Prop} {η:List Value} {hp:List af} {vs:Array Value} (hr:∀(j:Nat) (x:AV) (v:Value),cs[j]?=some x→vs[j]?=some v→bw w F η hp x v):
  ∀(j:Nat) (x:AV) (v:Value),iP[j]?=some x→vs[j]?=some v→bw w F η hp x v:=by
 intro j y v hy hv
 obtain⟨x,h1,h2⟩:=h.get j y hy
 exact h2 _ _ _ _ _ (hr j x v h1 hv)
theorem ef.agg {cs iP:List AV} (h:fK cs iP):ef (.agg cs) (.agg iP):=by
 intro w F η hp v hv
 cases hv with
 |agg _ vs hl h1 hr=>exact .agg _ vs (by rw[hl,h.length]) h1 (h.parts hr)
theorem ef.aX {cs iP:List AV} (h:fK cs iP):ef (.aX cs) (.aX iP):=by
 intro w F η hp v hv
 cases hv with
 |aX _ vs hl hr=>exact .aX _ vs (by rw[hl,h.length]) (h.parts hr)
theorem ef.ck {f:Nat} {cs iP:List AV} (h:fK cs iP):ef (.ck f cs) (.ck f iP):=by
 intro w F η hp v hv
 cases hv with
 |ck _ _ vs hl hr=>exact .ck f _ vs (by rw[hl,h.length]) (h.parts hr)
theorem ef.cX {f:Nat} {cs iP:List AV} (h:fK cs iP):ef (.cX f cs) (.cX f iP):=by
 intro w F η hp v hv
 cases hv with
 |cX _ _ vs hl hr=>exact .cX f _ vs (by rw[hl,h.length]) (h.parts hr)
def eqK:AV→AV→Bool
 | .top,_=>true
 | .ptr r o,.ptr r' o'=>Nat.beq r r'&&Nat.beq o o'
 | .mp r,.mp r'=>Nat.beq r r'
 | .ck f [.ptr r o],.ck f' [.ptr r' o']=>Nat.beq f f'&&(Nat.beq r r'&&Nat.beq o o')
 | .ah (.slice none 0 0),.ah (.slice none 0 0)=>true
 |_,_=>false
theorem Wn {x y:AV} (h:eqK x y=true):ef y x:=by
 unfold eqK at h
 split at h
 ·exact fun _ _ _ _ v _=>.top v
 ·rw[ahZ] at h
  rw[ain h.1,ain h.2];exact .refl _
 ·rw[ain h];exact .refl _
 ·rw[ahZ,ahZ] at h
  rw[ain h.1,ain h.2.1,ain h.2.2];exact .refl _
 ·exact .refl _
 ·cases h
def NC (lens:List Nat):(sh:wT)→AV→Option (List Prop×sh.T)
 | .i k,.ah (.int k' n)=>if k=k' then some ([],n) else none
 | .b,.ah (.bool b)=>some ([],b)
 | .s,.ah (.string s)=>some ([],s)
 | .l,.sl l=>some ([],l)
 | .l,.clip l=>some ([],l)
 | .l,.ah (.slice none 0 0)=>some ([],([]:List AV))
 | .c,.clip l=>some ([],l)
 | .m,.fH (.i l)=>some ([],l)
 | .ms,.fH (.s l)=>some ([],l)
 | .fn,.fn v=>some ([],v)
 | .k x,y=>(match eqK x y with|true=>some ([],())|false=>none)
 | .o r,.own r' n=>if r=r' then some ([n=rB lens r],()) else none
 | .q x,y=>some ([y=x],())
 |_,_=>none
theorem Jh {lens:List Nat} {sh:wT} {x:AV} {cs:List Prop} {t:sh.T} (h:NC lens sh x=some (cs,t)) (hc:eY cs):ef x (Yg lens sh t):=by
 unfold NC at h
 split at h
 ·split at h
  ·rename_i hk
   subst hk
   cases h;exact .refl _
  ·cases h
 ·cases h;exact .refl _
 ·cases h;exact .refl _
 ·cases h;exact .refl _
 ·cases h;exact fun _ _ _ _ _ h=>h.qH
 ·cases h
  intro w F η hp v hv
  cases hv;exact .pE _
 ·cases h;exact .refl _
 ·cases h;exact .refl _
 ·cases h;exact .refl _
 ·cases h;exact .refl _
 ·split at h
  ·rename_i he;exact Wn he
  ·cases h
 ·split at h
  ·rename_i hr
   subst hr
   cases h
   have:=hc.1
   subst this;exact .refl _
  ·cases h
 ·cases h
  have:=hc.1
  subst this;exact .refl _
 ·cases h
def tJ (lens:List Nat):(l:List wT)→List AV→Option (List Prop×Wm l)
 | [],[]=>some ([],())
 |sh::l,x::xs=>(match NC lens sh x with
  |some (p,t)=>(match tJ lens l xs with
   |some (q,ts)=>some (p++q,(t,ts))
   |none=>none)
  |none=>none)
 |_,_=>none
theorem yX {lens:List Nat}:∀{l:List wT} {xs:List AV} {cs:List Prop} {t:Wm l},tJ lens l xs=some (cs,t)→eY cs→fK xs (K6 lens l t)
 | [],[],_,_,_,_=>True.intro
 | [],_::_,_,_,h,_=>by simp[tJ] at h
 |_::_,[],_,_,h,_=>by simp[tJ] at h
 |sh::l,x::xs,cs,t,h,hc=>by
  simp only[tJ] at h
  split at h
  ·rename_i p t1 h1
   split at h
   ·rename_i q ts h2
    simp only[Option.some.injEq,Prod.mk.injEq] at h
    obtain⟨rfl,rfl⟩:=h
    rw[bT] at hc
    exact⟨Jh h1 hc.1,yX h2 hc.2⟩
   ·cases h
  ·cases h
def Ji:AV→Option (List AV)
 | .agg cs=>some cs
 |_=>none
def Jj:AV→Option (List AV)
 | .aX cs=>some cs
 |_=>none
def Jk:AV→Option (Nat×List AV)
 | .ck f cs=>some (f,cs)
 |_=>none
def B8:AV→Option (Nat×List AV)
 | .cX f cs=>some (f,cs)
 |_=>none
theorem ND {x:AV} {cs:List AV} (h:Ji x=some cs):x=.agg cs:=by
 cases x<;>simp only[Ji] at h<;>cases h
 rfl
theorem NF {x:AV} {cs:List AV} (h:Jj x=some cs):x=.aX cs:=by
 cases x<;>simp only[Jj] at h<;>cases h
 rfl
theorem NG {x:AV} {f:Nat} {cs:List AV} (h:Jk x=some (f,cs)):x=.ck f cs:=by
 cases x<;>simp only[Jk] at h<;>cases h
 rfl
theorem K7 {x:AV} {f:Nat} {cs:List AV} (h:B8 x=some (f,cs)):x=.cX f cs:=by
 cases x<;>simp only[B8] at h<;>cases h
 rfl
def Rp (lens:List Nat) (sh:tD) (v:AV):Option (List Prop×sh.T):=
 match sh with
 | .c x=>NC lens x v
 | .a l=>(Ji v).bind fun cs=>tJ lens l cs
theorem Jl {lens:List Nat} {sh:tD} {x:AV} {cs:List Prop} {t:sh.T} (h:Rp lens sh x=some (cs,t)) (hc:eY cs):ef x (mkV lens sh t):=by
 cases sh with
 |c y=>
  have h1:NC lens y x=some (cs,t):=h
  exact Jh h1 hc
 |a l=>
  have h1:(Ji x).bind (fun cs=>tJ lens l cs)=some (cs,t):=h
  obtain⟨iP,h2,h3⟩:=aiI.1 h1
  rw[ND h2]
  exact ef.agg (yX h3 hc)
def ql (lens:List Nat):(l:List tD)→List AV→Option (List Prop×Vd l)
 | [],[]=>some ([],())
 |sh::l,x::xs=>(match Rp lens sh x with
  |some (p,t)=>(match ql lens l xs with
   |some (q,ts)=>some (p++q,(t,ts))
   |none=>none)
  |none=>none)
 |_,_=>none
theorem tK {lens:List Nat}:∀{l:List tD} {xs:List AV} {cs:List Prop} {t:Vd l},ql lens l xs=some (cs,t)→eY cs→fK xs (HP lens l t)
 | [],[],_,_,_,_=>True.intro
 | [],_::_,_,_,h,_=>by simp[ql] at h
 |_::_,[],_,_,h,_=>by simp[ql] at h
 |sh::l,x::xs,cs,t,h,hc=>by
  simp only[ql] at h
  split at h
  ·rename_i p t1 h1
   split at h
   ·rename_i q ts h2
    simp only[Option.some.injEq,Prod.mk.injEq] at h
    obtain⟨rfl,rfl⟩:=h
    rw[bT] at hc
    exact⟨Jl h1 hc.1,tK h2 hc.2⟩
   ·cases h
  ·cases h
def Yh (lens:List Nat) (sh:Sh) (v:AV):Option (List Prop×sh.T):=
 match sh with
 | .v x=>Rp lens x v
 | .t l=>(Jj v).bind fun cs=>ql lens l cs
 | .f fn l=>(Jk v).bind fun p=>if fn=p.1 then ql lens l p.2 else none
 | .m fn l=>(B8 v).bind fun p=>(ql lens l p.2).bind fun q=>some ((p.1=fn)::q.1,q.2)
theorem Rq {lens:List Nat} {sh:Sh} {x:AV} {cs:List Prop} {t:sh.T} (h:Yh lens sh x=some (cs,t)) (hc:eY cs):ef x (mkS lens sh t):=by
 cases sh with
 |v y=>
  have h1:Rp lens y x=some (cs,t):=h
  exact Jl h1 hc
 |t l=>
  have h1:(Jj x).bind (fun cs=>ql lens l cs)=some (cs,t):=h
  obtain⟨iP,h2,h3⟩:=aiI.1 h1
  rw[NF h2]
  exact ef.aX (tK h3 hc)
 |f fn l=>
  have h1:(Jk x).bind (fun p=>if fn=p.1 then ql lens l p.2 else none)=some (cs,t):=h
  obtain⟨⟨f,iP⟩,h2,h3⟩:=aiI.1 h1
  split at h3
  ·rename_i hf
   simp only at hf
   subst hf
   rw[NG h2]
   exact ef.ck (tK h3 hc)
  ·cases h3
 |m fn l=>
  have h1:(B8 x).bind (fun p=>(ql lens l p.2).bind fun q=>some ((p.1=fn)::q.1,q.2))=some (cs,t):=h
  obtain⟨⟨f,iP⟩,h2,h3⟩:=aiI.1 h1
  obtain⟨⟨qs,u⟩,h4,h5⟩:=aiI.1 h3
  simp only[Option.some.injEq,Prod.mk.injEq] at h5
  obtain⟨rfl,rfl⟩:=h5
  rw[K7 h2,show f=fn from hc.1]
  exact ef.cX (tK h4 hc.2)
def AO (lens:List Nat):(l:List Sh)→List AV→Option (List Prop×TS l)
 | [],[]=>some ([],())
 |sh::l,x::xs=>(match Yh lens sh x with
  |some (p,t)=>(match AO lens l xs with
   |some (q,ts)=>some (p++q,(t,ts))
   |none=>none)
  |none=>none)
 |_,_=>none
theorem EK {lens:List Nat}:∀{l:List Sh} {xs:List AV} {cs:List Prop} {t:TS l},AO lens l xs=some (cs,t)→eY cs→fK xs (wV lens l t)
 | [],[],_,_,_,_=>True.intro
 | [],_::_,_,_,h,_=>by simp[AO] at h
 |_::_,[],_,_,h,_=>by simp[AO] at h
 |sh::l,x::xs,cs,t,h,hc=>by
  simp only[AO] at h
  split at h
  ·rename_i p t1 h1
   split at h
   ·rename_i q ts h2
    simp only[Option.some.injEq,Prod.mk.injEq] at h
    obtain⟨rfl,rfl⟩:=h
    rw[bT] at hc
    exact⟨Rq h1 hc.1,EK h2 hc.2⟩
   ·cases h
  ·cases h
def lf.T:lf→Type
 | .dead=>Unit
 | .box l=>Wm l
 | .row _ _ | .bM _ _=>List AV
 | .cQ=>List (Int×Value)
 | .vN=>List (ByteArray×Value)
 | .dD _=>Unit
 | .eH _=>Nat×List Int
def mkO (lens:List Nat):(sh:lf)→sh.T→af
 | .dead,_=>.dead
 | .box l,t=>.box (K6 lens l t)
 | .row e size,t=>.row e size t
 | .bM e size,t=>.bM e size t
 | .cQ,t=>.cQ (.i t)
 | .vN,t=>.cQ (.s t)
 | .dD r,_=>.dD r (rB lens r)
 | .eH e,t=>.eH e t.1 t.2
def TO:List lf→Type
 | []=>Unit
 |sh::l=>sh.T×TO l
def n3 (lens:List Nat):(l:List lf)→TO l→List af
 | [],_=>[]
 |sh::l,t=>mkO lens sh t.1::n3 lens l t.2
def Yi:(sh:lf)→sh.T→Nat
 | .row _ _,t=>List.length t
 | .bM _ _,t=>List.length t
 | .eH _,t=>t.1
 |_,_=>0
def gW:(l:List lf)→TO l→List Nat
 | [],_=>[]
 |sh::l,t=>Yi sh t.1::gW l t.2
def lenOf:af→Nat
 | .row _ _ els | .bM _ _ els=>els.length
 | .eH _ m _=>m
 |_=>0
def sx:List af→List Nat
 | []=>[]
 |o::l=>lenOf o::sx l
def B9:af→Bool
 | .dead=>true
 |_=>false
def Jm:af→Option (List AV)
 | .box cs=>some cs
 |_=>none
def rowOf:af→Option (Nat×Nat×List AV)
 | .row e size els=>some (e,size,els)
 |_=>none
def mapOf:af→Option (List (Int×Value))
 | .cQ (.i es)=>some es
 |_=>none
def Ca:af→Option (List (ByteArray×Value))
 | .cQ (.s es)=>some es
 |_=>none
theorem K8 {o:af} (h:B9 o=true):o=.dead:=by
 cases o<;>simp only[B9] at h<;>first|rfl|cases h
theorem NH {o:af} {cs:List AV} (h:Jm o=some cs):o=.box cs:=by
 cases o<;>simp only[Jm] at h<;>cases h
 rfl
theorem NJ {o:af} {e size:Nat} {els:List AV} (h:rowOf o=some (e,size,els)):o=.row e size els:=by
 cases o<;>simp only[rowOf] at h<;>cases h
 rfl
def Jn:af→Option (Nat×Nat×List AV)
 | .bM e size els=>some (e,size,els)
 |_=>none
theorem NK {o:af} {e size:Nat} {els:List AV} (h:Jn o=some (e,size,els)):o=.bM e size els:=by
 cases o<;>simp only[Jn] at h<;>cases h
 rfl
def Rr:af→Option (Nat×Nat×List Int)
 | .eH e m ns=>some (e,m,ns)
 |_=>none
theorem Rs {o:af} {e m:Nat} {ns:List Int} (h:Rr o=some (e,m,ns)):o=.eH e m ns:=by
 cases o<;>simp only[Rr] at h<;>cases h
 rfl
def Jo:af→Option (Nat×Nat)
 | .dD r n=>some (r,n)
 |_=>none
theorem NL {o:af} {r n:Nat} (h:Jo o=some (r,n)):o=.dD r n:=by
 unfold Jo at h
 split at h
 ·cases h;rfl
 ·cases h
theorem NM {o:af} {es:List (Int×Value)} (h:mapOf o=some es):o=.cQ (.i es):=by
 unfold mapOf at h
 split at h
 ·cases h;rfl
 ·cases h
theorem K9 {o:af} {es:List (ByteArray×Value)} (h:Ca o=some es):o=.cQ (.s es):=by
 unfold Ca at h
 split at h
 ·cases h;rfl
 ·cases h
def Yj (lens:List Nat) (sh:lf) (o:af):Option (List Prop×sh.T):=
 match sh with
 | .dead=>(match B9 o with|true=>some ([],())|false=>none)
 | .box l=>(Jm o).bind fun cs=>tJ lens l cs
 | .row e size=>(rowOf o).bind fun p=>if e=p.1∧size=p.2.1 then some ([],p.2.2) else none
 | .bM e size=>(Jn o).bind fun p=>if e=p.1∧size=p.2.1 then some ([],p.2.2) else none
 | .cQ=>(mapOf o).bind fun es=>some ([],es)
 | .vN=>(Ca o).bind fun es=>some ([],es)
 | .dD r=>(Jo o).bind fun p=>(match Nat.beq r p.1 with|true=>some ([p.2=rB lens r],())|false=>none)
 | .eH e=>(Rr o).bind fun p=>if e=p.1 then some ([],p.2) else none
def La:af→af→Prop
 | .box cs,.box iP=>fK cs iP
 |o,o'=>o=o'
def e8:List af→List af→Prop
 | [],[]=>True
 |o::l,o'::l'=>La o o'∧e8 l l'
 |_,_=>False
theorem Rt {lens:List Nat} {sh:lf} {o:af} {cs:List Prop} {t:sh.T} (h:Yj lens sh o=some (cs,t)) (hc:eY cs):La o (mkO lens sh t)∧Yi sh t=lenOf o:=by
 cases sh with
 |dead=>
  have h1:(match B9 o with|true=>some (([]:List Prop),())|false=>none)=some (cs,t):=h
  split at h1
  ·rename_i hd;rw[K8 hd];exact⟨rfl,rfl⟩
  ·cases h1
 |box l=>
  have h1:(Jm o).bind (fun cs=>tJ lens l cs)=some (cs,t):=h
  obtain⟨iP,h2,h3⟩:=aiI.1 h1
  rw[NH h2]
  exact⟨yX h3 hc,rfl⟩
 |row e size=>
  have h1:(rowOf o).bind (fun p=>if e=p.1∧size=p.2.1 then some (([]:List Prop),p.2.2) else none)=some (cs,t):=h
  obtain⟨⟨e',vE,els⟩,h2,h3⟩:=aiI.1 h1
  split at h3
  ·rename_i he
   simp only at he
   obtain⟨rfl,rfl⟩:=he
   rw[NJ h2]
   cases h3
   exact⟨rfl,rfl⟩
  ·cases h3
 |bM e size=>
  have h1:(Jn o).bind (fun p=>if e=p.1∧size=p.2.1 then some (([]:List Prop),p.2.2) else none)=some (cs,t):=h
  obtain⟨⟨e',vE,els⟩,h2,h3⟩:=aiI.1 h1
  split at h3
  ·rename_i he
   simp only at he
   obtain⟨rfl,rfl⟩:=he
   rw[NK h2]
   cases h3
   exact⟨rfl,rfl⟩
  ·cases h3
 |cQ=>
  have h1:(mapOf o).bind (fun es=>some (([]:List Prop),es))=some (cs,t):=h
  obtain⟨es,h2,h3⟩:=aiI.1 h1
  rw[NM h2]
  cases h3
  exact⟨rfl,rfl⟩
 |vN=>
  have h1:(Ca o).bind (fun es=>some (([]:List Prop),es))=some (cs,t):=h
  obtain⟨es,h2,h3⟩:=aiI.1 h1
  rw[K9 h2]
  cases h3
  exact⟨rfl,rfl⟩
 |dD r=>
  have h1:(Jo o).bind (fun p=>(match Nat.beq r p.1 with|true=>some ([p.2=rB lens r],())|false=>none))=some (cs,t):=h
  obtain⟨⟨r',n⟩,h2,h3⟩:=aiI.1 h1
  rw[NL h2]
  split at h3
  ·rename_i hb
   have hb:=ain hb
   simp only[Option.some.injEq,Prod.mk.injEq] at h3
   obtain⟨rfl,_⟩:=h3
   have:=hc.1
   simp only at this hb
   subst hb;subst this
   exact⟨rfl,rfl⟩
  ·cases h3
 |eH e=>
  have h1:(Rr o).bind (fun p=>if e=p.1 then some (([]:List Prop),p.2) else none)=some (cs,t):=h
  obtain⟨⟨e',m,ns⟩,h2,h3⟩:=aiI.1 h1
  split at h3
  ·rename_i he
   simp only at he
   subst he
   rw[Rs h2]
   cases h3
   exact⟨rfl,rfl⟩
  ·cases h3
def vQ (lens:List Nat):(l:List lf)→List af→Option (List Prop×TO l)
 | [],[]=>some ([],())
 |sh::l,x::xs=>(match Yj lens sh x with
  |some (p,t)=>(match vQ lens l xs with
   |some (q,ts)=>some (p++q,(t,ts))
   |none=>none)
  |none=>none)
 |_,_=>none
theorem tL {lens lens':List Nat}:∀{l:List lf} {xs:List af} {cs:List Prop} {t:TO l},vQ lens l xs=some (cs,t)→eY cs→e8 xs (n3 lens l t)∧gW l t=sx xs
 | [],[],_,_,_,_=>⟨True.intro,rfl⟩
 | [],_::_,_,_,h,_=>by simp[vQ] at h
 |_::_,[],_,_,h,_=>by simp[vQ] at h
 |sh::l,x::xs,cs,t,h,hc=>by
  simp only[vQ] at h
  split at h
  ·rename_i p t1 h1
   split at h
   ·rename_i q ts h2
    simp only[Option.some.injEq,Prod.mk.injEq] at h
    obtain⟨rfl,rfl⟩:=h
    rw[bT] at hc
    have h3:=Rt h1 hc.1
    have h4:=tL (lens':=lens') h2 hc.2
    exact⟨⟨h3.1,h4.1⟩,by simp only[gW,sx,h3.2,h4.2]⟩
   ·cases h
  ·cases h
theorem e8.refl:∀(l:List af),e8 l l
 | []=>True.intro
 |o::l=>⟨by
  cases o with
  |box cs=>exact fK.refl cs
  |_=>rfl,e8.refl l⟩
theorem e8.append:∀{a b c d:List af},e8 a b→e8 c d→e8 (a++c) (b++d)
 | [],[],_,_,_,h=>h
 |_::_,_::_,_,_,h1,h2=>⟨h1.1,e8.append h1.2 h2⟩
theorem e8.length:∀{a b:List af},e8 a b→a.length=b.length
 | [],[],_=>rfl
 |_::_,_::_,h=>by simp[e8.length h.2]
theorem e8.get:∀{a b:List af},e8 a b→∀(r:Nat),(a[r]?=none∧b[r]?=none)∨∃o o',a[r]?=some o∧b[r]?=some o'∧La o o'
 | [],[],_,r=>.inl ⟨by simp,by simp⟩
 |_::_,_::_,h,0=>.inr ⟨_,_,rfl,rfl,h.1⟩
 |_::_,_::_,h,r+1=>by simpa using e8.get h.2 r
end Go.Proofs.YtjhanogfpkbamaaGreatDoor
