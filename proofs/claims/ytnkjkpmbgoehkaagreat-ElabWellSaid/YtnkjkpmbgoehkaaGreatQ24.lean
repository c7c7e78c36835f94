/- Lemmas. -/
import Derived.Test.YtnkjkpmbgoehkaaGreatQ23
namespace Go.Proofs.YtnkjkpmbgoehkaaGreat
open Go
open _root_.True renaming intro->ai
set_option linter.unusedSimpArgs false
set_option linter.unusedVariables false
def xY.T:xY->Type
 | .i _=>Int
 | .b=>Bool
 | .s=>ByteArray
 | .l=>List AV
 | .c=>List AV
 | .m=>List (Int×Value)
 | .ms=>List (ByteArray×Value)
 | .k _=>Unit
 | .o _=>Unit
 | .fn=>Value
 | .q _=>Unit
def mkC (lens:List Nat):(sh:xY)->sh.T->AV
 | .i k,n=>.ax (.int k n)
 | .b,b=>.ax (.bool b)
 | .s,s=>.ax (.string s)
 | .l,l=>.sl l
 | .c,l=>.clip l
 | .m,l=>.fL (.i l)
 | .ms,l=>.fL (.s l)
 | .k x,_=>x
 | .o r,_=>.own r (sx lens r)
 | .fn,v=>.fn v
 | .q x,_=>x
def TCs:List xY->Type
 | []=>Unit
 |sh::l=>sh.T×TCs l
def O6 (lens:List Nat):(l:List xY)->TCs l->List AV
 | [],_=>[]
 |sh::l,t=>mkC lens sh t.1::O6 lens l t.2
def uq.T:uq->Type
 | .c x=>x.T
 | .a l=>TCs l
def mkV (lens:List Nat):(sh:uq)->sh.T->AV
 | .c x,t=>mkC lens x t
 | .a l,t=>.agg (O6 lens l t)
def TVs:List uq->Type
 | []=>Unit
 |sh::l=>sh.T×TVs l
def Kt (lens:List Nat):(l:List uq)->TVs l->List AV
 | [],_=>[]
 |sh::l,t=>mkV lens sh t.1::Kt lens l t.2
def Sh.T:Sh->Type
 | .v x=>x.T
 | .t l=>TVs l
 | .f _ l=>TVs l
 | .m _ l=>TVs l
def mkS (lens:List Nat):(sh:Sh)->sh.T->AV
 | .v x,t=>mkV lens x t
 | .t l,t=>.aK (Kt lens l t)
 | .f fn l,t=>.bz fn (Kt lens l t)
 | .m fn l,t=>.dm fn (Kt lens l t)
def TS:List Sh->Type
 | []=>Unit
 |sh::l=>sh.T×TS l
def x6 (lens:List Nat):(l:List Sh)->TS l->List AV
 | [],_=>[]
 |sh::l,t=>mkS lens sh t.1::x6 lens l t.2
def aS (x y:AV):Prop:=∀(w:World) (F:Nat->Nat->Prop) (η:List Value) (hp:List aw) (v:Value),bB w F η hp x v->bB w F η hp y v
def er:List AV->List AV->Prop
 | [],[]=>True
 |x::xs,y::ys=>aS x y/\er xs ys
 |_,_=>False
theorem aS.refl (x:AV):aS x x:=fun _ _ _ _ _ h=>h
theorem er.refl:∀(xs:List AV),er xs xs
 | []=>ai
 |x::xs=>⟨aS.refl x,er.refl xs⟩
theorem er.length:∀{xs ys:List AV},er xs ys->xs.length=ys.length
 | [],[],_=>rfl
 |_::_,_::_,h=>by simp[er.length h.2]
theorem er.get:∀{xs ys:List AV},er xs ys->∀(j:Nat) (y:AV),ys[j]?=some y->∃x,xs[j]?=some x/\aS x y
 | [],[],_,j,y,h=>by simp at h
 |x::xs,y::ys,h,0,z,hz=>by
  simp only[ari,aqq] at hz;subst hz;exact⟨x,rfl,h.1⟩
 |x::xs,y::ys,h,j+1,z,hz=>by
  obtain⟨u,h1,h2⟩:=er.get h.2 j z (by simpa using hz);exact⟨u,by simpa using h1,h2⟩
theorem er.parts {cs gi:List AV} (h:er cs gi) {w:World} {F:Nat->Nat->Prop} {η:List Value} {hp:List aw} {vs:Array Value} (hr:∀(j:Nat) (x:AV) (v:Value),cs[j]?=some x->vs[j]?=some v->bB w F η hp x v):
  ∀(j:Nat) (x:AV) (v:Value),gi[j]?=some x->vs[j]?=some v->bB w F η hp x v:=by
 intro j y v hy hv;obtain⟨x,h1,h2⟩:=h.get j y hy;exact h2 _ _ _ _ _ (hr j x v h1 hv)
theorem aS.agg {cs gi:List AV} (h:er cs gi):aS (.agg cs) (.agg gi):=by
 intro w F η hp v hv
 cases hv with
 |agg _ vs hl h1 hr=>exact .agg _ vs (by rw[hl,h.length]) h1 (h.parts hr)
theorem aS.aK {cs gi:List AV} (h:er cs gi):aS (.aK cs) (.aK gi):=by
 intro w F η hp v hv
 cases hv with
 |aK _ vs hl hr=>exact .aK _ vs (by rw[hl,h.length]) (h.parts hr)
theorem aS.bz {f:Nat} {cs gi:List AV} (h:er cs gi):aS (.bz f cs) (.bz f gi):=by
 intro w F η hp v hv
 cases hv with
 |bz _ _ vs hl hr=>exact .bz f _ vs (by rw[hl,h.length]) (h.parts hr)
theorem aS.dm {f:Nat} {cs gi:List AV} (h:er cs gi):aS (.dm f cs) (.dm f gi):=by
 intro w F η hp v hv
 cases hv with
 |dm _ _ vs hl hr=>exact .dm f _ vs (by rw[hl,h.length]) (h.parts hr)
def O7:List AV->List AV->Bool
 | [],[]=>true
 | .ptr r o::l,.ptr r' o'::l'=>Nat.beq r r'&&(Nat.beq o o'&&O7 l l')
 |_,_=>false
theorem Mj:∀{l l':List AV},O7 l l'=true->l=l'
 | [],[],_=>rfl
 |x::l,[],h=>by cases x<;>simp[O7] at h
 | [],y::l,h=>by simp[O7] at h
 |x::l,y::l',h=>by
  unfold O7 at h;split at h
  ·rename_i h1;cases h1
  ·rename_i r o l1 r' o' l2 e1 e2
   cases e1;cases e2
   rw[aqv,aqv] at h;rw[aqN h.1,aqN h.2.1,Mj h.2.2]
  ·cases h
def eqK:AV->AV->Bool
 | .top,_=>true
 | .ptr r o,.ptr r' o'=>Nat.beq r r'&&Nat.beq o o'
 | .mp r,.mp r'=>Nat.beq r r'
 | .bz f cs,.bz f' gi=>Nat.beq f f'&&O7 cs gi
 | .ax (.slice none 0 0),.ax (.slice none 0 0)=>true
 | .ax (.pointer none),.ax (.pointer none)=>true
 |_,_=>false
theorem acq {x y:AV} (h:eqK x y=true):aS y x:=by
 unfold eqK at h;split at h
 ·exact fun _ _ _ _ v _=>.top v
 ·rw[aqv] at h;rw[aqN h.1,aqN h.2];exact .refl _
 ·rw[aqN h];exact .refl _
 ·rw[aqv] at h;rw[aqN h.1,Mj h.2];exact .refl _
 ·exact .refl _
 ·exact .refl _
 ·cases h
def R1 (lens:List Nat):(sh:xY)->AV->Option (List Prop×sh.T)
 | .i k,.ax (.int k' n)=>if k=k' then some ([],n) else none
 | .b,.ax (.bool b)=>some ([],b)
 | .s,.ax (.string s)=>some ([],s)
 | .l,.sl l=>some ([],l)
 | .l,.clip l=>some ([],l)
 | .l,.ax (.slice none 0 0)=>some ([],([]:List AV))
 | .c,.clip l=>some ([],l)
 | .m,.fL (.i l)=>some ([],l)
 | .ms,.fL (.s l)=>some ([],l)
 | .fn,.fn v=>some ([],v)
 | .k x,y=>(match eqK x y with|true=>some ([],())|false=>none)
 | .o r,.own r' n=>if r=r' then some ([n=sx lens r],()) else none
 | .q x,y=>some ([y=x],())
 |_,_=>none
theorem Ml {lens:List Nat} {sh:xY} {x:AV} {cs:List Prop} {t:sh.T} (h:R1 lens sh x=some (cs,t)) (hc:eA cs):aS x (mkC lens sh t):=by
 unfold R1 at h;split at h
 ·split at h
  ·rename_i hk;subst hk
   cases h;exact .refl _
  ·cases h
 ·cases h;exact .refl _
 ·cases h;exact .refl _
 ·cases h;exact .refl _
 ·cases h;exact fun _ _ _ _ _ h=>h.oT
 ·cases h;intro w F η hp v hv
  cases hv;exact .qq _
 ·cases h;exact .refl _
 ·cases h;exact .refl _
 ·cases h;exact .refl _
 ·cases h;exact .refl _
 ·split at h
  ·rename_i he;exact acq he
  ·cases h
 ·split at h
  ·rename_i hr;subst hr;cases h;have:=hc.1;subst this;exact .refl _
  ·cases h
 ·cases h;have:=hc.1;subst this;exact .refl _
 ·cases h
def uz (lens:List Nat):(l:List xY)->List AV->Option (List Prop×TCs l)
 | [],[]=>some ([],())
 |sh::l,x::xs=>(match R1 lens sh x with
  |some (p,t)=>(match uz lens l xs with
   |some (q,ts)=>some (p++q,(t,ts))
   |none=>none)
  |none=>none)
 |_,_=>none
theorem zG {lens:List Nat}:∀{l:List xY} {xs:List AV} {cs:List Prop} {t:TCs l},uz lens l xs=some (cs,t)->eA cs->er xs (O6 lens l t)
 | [],[],_,_,_,_=>ai
 | [],_::_,_,_,h,_=>by simp[uz] at h
 |_::_,[],_,_,h,_=>by simp[uz] at h
 |sh::l,x::xs,cs,t,h,hc=>by
  simp only[uz] at h;split at h
  ·rename_i p t1 h1;split at h
   ·rename_i q ts h2;simp only[aqq,aqt] at h;obtain⟨rfl,rfl⟩:=h;rw[bP] at hc;exact⟨Ml h1 hc.1,zG h2 hc.2⟩
   ·cases h
  ·cases h
def Mm:AV->Option (List AV)
 | .agg cs=>some cs
 |_=>none
def Mo:AV->Option (List AV)
 | .aK cs=>some cs
 |_=>none
def Mp:AV->Option (Nat×List AV)
 | .bz f cs=>some (f,cs)
 |_=>none
def D5:AV->Option (Nat×List AV)
 | .dm f cs=>some (f,cs)
 |_=>none
theorem R2 {x:AV} {cs:List AV} (h:Mm x=some cs):x=.agg cs:=by
 cases x<;>simp only[Mm] at h<;>cases h
 rfl
theorem R3 {x:AV} {cs:List AV} (h:Mo x=some cs):x=.aK cs:=by
 cases x<;>simp only[Mo] at h<;>cases h
 rfl
theorem R4 {x:AV} {f:Nat} {cs:List AV} (h:Mp x=some (f,cs)):x=.bz f cs:=by
 cases x<;>simp only[Mp] at h<;>cases h
 rfl
theorem O8 {x:AV} {f:Nat} {cs:List AV} (h:D5 x=some (f,cs)):x=.dm f cs:=by
 cases x<;>simp only[D5] at h<;>cases h
 rfl
def XU (lens:List Nat) (sh:uq) (v:AV):Option (List Prop×sh.T):=
 match sh with
 | .c x=>R1 lens x v
 | .a l=>(Mm v).bind fun cs=>uz lens l cs
theorem Mq {lens:List Nat} {sh:uq} {x:AV} {cs:List Prop} {t:sh.T} (h:XU lens sh x=some (cs,t)) (hc:eA cs):aS x (mkV lens sh t):=by
 cases sh with
 |c y=>
  have h1:R1 lens y x=some (cs,t):=h;exact Ml h1 hc
 |a l=>
  have h1:(Mm x).bind (fun cs=>uz lens l cs)=some (cs,t):=h;obtain⟨gi,h2,h3⟩:=arj.1 h1;rw[R2 h2];exact aS.agg (zG h3 hc)
def qX (lens:List Nat):(l:List uq)->List AV->Option (List Prop×TVs l)
 | [],[]=>some ([],())
 |sh::l,x::xs=>(match XU lens sh x with
  |some (p,t)=>(match qX lens l xs with
   |some (q,ts)=>some (p++q,(t,ts))
   |none=>none)
  |none=>none)
 |_,_=>none
theorem uA {lens:List Nat}:∀{l:List uq} {xs:List AV} {cs:List Prop} {t:TVs l},qX lens l xs=some (cs,t)->eA cs->er xs (Kt lens l t)
 | [],[],_,_,_,_=>ai
 | [],_::_,_,_,h,_=>by simp[qX] at h
 |_::_,[],_,_,h,_=>by simp[qX] at h
 |sh::l,x::xs,cs,t,h,hc=>by
  simp only[qX] at h;split at h
  ·rename_i p t1 h1;split at h
   ·rename_i q ts h2;simp only[aqq,aqt] at h;obtain⟨rfl,rfl⟩:=h;rw[bP] at hc;exact⟨Mq h1 hc.1,uA h2 hc.2⟩
   ·cases h
  ·cases h
def aeA (lens:List Nat) (sh:Sh) (v:AV):Option (List Prop×sh.T):=
 match sh with
 | .v x=>XU lens x v
 | .t l=>(Mo v).bind fun cs=>qX lens l cs
 | .f fn l=>(Mp v).bind fun p=>if fn=p.1 then qX lens l p.2 else none
 | .m fn l=>(D5 v).bind fun p=>(qX lens l p.2).bind fun q=>some ((p.1=fn)::q.1,q.2)
theorem XV {lens:List Nat} {sh:Sh} {x:AV} {cs:List Prop} {t:sh.T} (h:aeA lens sh x=some (cs,t)) (hc:eA cs):aS x (mkS lens sh t):=by
 cases sh with
 |v y=>
  have h1:XU lens y x=some (cs,t):=h;exact Mq h1 hc
 |t l=>
  have h1:(Mo x).bind (fun cs=>qX lens l cs)=some (cs,t):=h;obtain⟨gi,h2,h3⟩:=arj.1 h1;rw[R3 h2];exact aS.aK (uA h3 hc)
 |f fn l=>
  have h1:(Mp x).bind (fun p=>if fn=p.1 then qX lens l p.2 else none)=some (cs,t):=h;obtain⟨⟨f,gi⟩,h2,h3⟩:=arj.1 h1;split at h3
  ·rename_i hf;simp only at hf;subst hf;rw[R4 h2];exact aS.bz (uA h3 hc)
  ·cases h3
 |m fn l=>
  have h1:(D5 x).bind (fun p=>(qX lens l p.2).bind fun q=>some ((p.1=fn)::q.1,q.2))=some (cs,t):=h;obtain⟨⟨f,gi⟩,h2,h3⟩:=arj.1 h1;obtain⟨⟨qs,u⟩,h4,h5⟩:=arj.1 h3;simp only[aqq,aqt] at h5;obtain⟨rfl,rfl⟩:=h5;rw[O8 h2,show f=fn from hc.1];exact aS.dm (uA h4 hc.2)
def CD (lens:List Nat):(l:List Sh)->List AV->Option (List Prop×TS l)
 | [],[]=>some ([],())
 |sh::l,x::xs=>(match aeA lens sh x with
  |some (p,t)=>(match CD lens l xs with
   |some (q,ts)=>some (p++q,(t,ts))
   |none=>none)
  |none=>none)
 |_,_=>none
theorem GH {lens:List Nat}:∀{l:List Sh} {xs:List AV} {cs:List Prop} {t:TS l},CD lens l xs=some (cs,t)->eA cs->er xs (x6 lens l t)
 | [],[],_,_,_,_=>ai
 | [],_::_,_,_,h,_=>by simp[CD] at h
 |_::_,[],_,_,h,_=>by simp[CD] at h
 |sh::l,x::xs,cs,t,h,hc=>by
  simp only[CD] at h;split at h
  ·rename_i p t1 h1;split at h
   ·rename_i q ts h2;simp only[aqq,aqt] at h;obtain⟨rfl,rfl⟩:=h;rw[bP] at hc;exact⟨XV h1 hc.1,GH h2 hc.2⟩
   ·cases h
  ·cases h
def mg.T:mg->Type
 | .dead=>Unit
 | .box l=>TCs l
 | .row _ _ | .bj _ _=>List AV
 | .cE=>List (Int×Value)
 | .eV=>List (ByteArray×Value)
 | .jy _=>Unit
 | .fz _=>Nat×List Int
def mkO (lens:List Nat):(sh:mg)->sh.T->aw
 | .dead,_=>.dead
 | .box l,t=>.box (O6 lens l t)
 | .row e size,t=>.row e size t
 | .bj e size,t=>.bj e size t
 | .cE,t=>.cE (.i t)
 | .eV,t=>.cE (.s t)
 | .jy r,_=>.jy r (sx lens r)
 | .fz e,t=>.fz e t.1 t.2
def TO:List mg->Type
 | []=>Unit
 |sh::l=>sh.T×TO l
def pr (lens:List Nat):(l:List mg)->TO l->List aw
 | [],_=>[]
 |sh::l,t=>mkO lens sh t.1::pr lens l t.2
def aeB:(sh:mg)->sh.T->Nat
 | .row _ _,t=>List.length t
 | .bj _ _,t=>List.length t
 | .fz _,t=>t.1
 |_,_=>0
def ig:(l:List mg)->TO l->List Nat
 | [],_=>[]
 |sh::l,t=>aeB sh t.1::ig l t.2
def lenOf:aw->Nat
 | .row _ _ els | .bj _ _ els=>els.length
 | .fz _ m _=>m
 |_=>0
def s9:List aw->List Nat
 | []=>[]
 |o::l=>lenOf o::s9 l
def D6:aw->Bool
 | .dead=>true
 |_=>false
def Mr:aw->Option (List AV)
 | .box cs=>some cs
 |_=>none
def rowOf:aw->Option (Nat×Nat×List AV)
 | .row e size els=>some (e,size,els)
 |_=>none
def mapOf:aw->Option (List (Int×Value))
 | .cE (.i es)=>some es
 |_=>none
def D7:aw->Option (List (ByteArray×Value))
 | .cE (.s es)=>some es
 |_=>none
theorem O9 {o:aw} (h:D6 o=true):o=.dead:=by
 cases o<;>simp only[D6] at h<;>first|rfl|cases h
theorem R5 {o:aw} {cs:List AV} (h:Mr o=some cs):o=.box cs:=by
 cases o<;>simp only[Mr] at h<;>cases h
 rfl
theorem R6 {o:aw} {e size:Nat} {els:List AV} (h:rowOf o=some (e,size,els)):o=.row e size els:=by
 cases o<;>simp only[rowOf] at h<;>cases h
 rfl
def Ms:aw->Option (Nat×Nat×List AV)
 | .bj e size els=>some (e,size,els)
 |_=>none
theorem R7 {o:aw} {e size:Nat} {els:List AV} (h:Ms o=some (e,size,els)):o=.bj e size els:=by
 cases o<;>simp only[Ms] at h<;>cases h
 rfl
def XW:aw->Option (Nat×Nat×List Int)
 | .fz e m ns=>some (e,m,ns)
 |_=>none
theorem XX {o:aw} {e m:Nat} {ns:List Int} (h:XW o=some (e,m,ns)):o=.fz e m ns:=by
 cases o<;>simp only[XW] at h<;>cases h
 rfl
def Mu:aw->Option (Nat×Nat)
 | .jy r n=>some (r,n)
 |_=>none
theorem R8 {o:aw} {r n:Nat} (h:Mu o=some (r,n)):o=.jy r n:=by
 unfold Mu at h;split at h
 ·cases h;rfl
 ·cases h
theorem R9 {o:aw} {es:List (Int×Value)} (h:mapOf o=some es):o=.cE (.i es):=by
 unfold mapOf at h;split at h
 ·cases h;rfl
 ·cases h
theorem Pa {o:aw} {es:List (ByteArray×Value)} (h:D7 o=some es):o=.cE (.s es):=by
 unfold D7 at h;split at h
 ·cases h;rfl
 ·cases h
def aeC (lens:List Nat) (sh:mg) (o:aw):Option (List Prop×sh.T):=
 match sh with
 | .dead=>(match D6 o with|true=>some ([],())|false=>none)
 | .box l=>(Mr o).bind fun cs=>uz lens l cs
 | .row e size=>(rowOf o).bind fun p=>if e=p.1/\size=p.2.1 then some ([],p.2.2) else none
 | .bj e size=>(Ms o).bind fun p=>if e=p.1/\size=p.2.1 then some ([],p.2.2) else none
 | .cE=>(mapOf o).bind fun es=>some ([],es)
 | .eV=>(D7 o).bind fun es=>some ([],es)
 | .jy r=>(Mu o).bind fun p=>(match Nat.beq r p.1 with|true=>some ([p.2=sx lens r],())|false=>none)
 | .fz e=>(XW o).bind fun p=>if e=p.1 then some ([],p.2) else none
def Pb:aw->aw->Prop
 | .box cs,.box gi=>er cs gi
 |o,o'=>o=o'
def fp:List aw->List aw->Prop
 | [],[]=>True
 |o::l,o'::l'=>Pb o o'/\fp l l'
 |_,_=>False
theorem XY {lens:List Nat} {sh:mg} {o:aw} {cs:List Prop} {t:sh.T} (h:aeC lens sh o=some (cs,t)) (hc:eA cs):Pb o (mkO lens sh t)/\aeB sh t=lenOf o:=by
 cases sh with
 |dead=>
  have h1:(match D6 o with|true=>some (([]:List Prop),())|false=>none)=some (cs,t):=h;split at h1
  ·rename_i hd;rw[O9 hd];exact⟨rfl,rfl⟩
  ·cases h1
 |box l=>
  have h1:(Mr o).bind (fun cs=>uz lens l cs)=some (cs,t):=h;obtain⟨gi,h2,h3⟩:=arj.1 h1;rw[R5 h2];exact⟨zG h3 hc,rfl⟩
 |row e size=>
  have h1:(rowOf o).bind (fun p=>if e=p.1/\size=p.2.1 then some (([]:List Prop),p.2.2) else none)=some (cs,t):=h;obtain⟨⟨e',wI,els⟩,h2,h3⟩:=arj.1 h1;split at h3
  ·rename_i he;simp only at he;obtain⟨rfl,rfl⟩:=he;rw[R6 h2];cases h3;exact⟨rfl,rfl⟩
  ·cases h3
 |bj e size=>
  have h1:(Ms o).bind (fun p=>if e=p.1/\size=p.2.1 then some (([]:List Prop),p.2.2) else none)=some (cs,t):=h;obtain⟨⟨e',wI,els⟩,h2,h3⟩:=arj.1 h1;split at h3
  ·rename_i he;simp only at he;obtain⟨rfl,rfl⟩:=he;rw[R7 h2];cases h3;exact⟨rfl,rfl⟩
  ·cases h3
 |cE=>
  have h1:(mapOf o).bind (fun es=>some (([]:List Prop),es))=some (cs,t):=h;obtain⟨es,h2,h3⟩:=arj.1 h1;rw[R9 h2];cases h3;exact⟨rfl,rfl⟩
 |eV=>
  have h1:(D7 o).bind (fun es=>some (([]:List Prop),es))=some (cs,t):=h;obtain⟨es,h2,h3⟩:=arj.1 h1;rw[Pa h2];cases h3;exact⟨rfl,rfl⟩
 |jy r=>
  have h1:(Mu o).bind (fun p=>(match Nat.beq r p.1 with|true=>some ([p.2=sx lens r],())|false=>none))=some (cs,t):=h;obtain⟨⟨r',n⟩,h2,h3⟩:=arj.1 h1;rw[R8 h2];split at h3
  ·rename_i hb;have hb:=aqN hb;simp only[aqq,aqt] at h3;obtain⟨rfl,_⟩:=h3;have:=hc.1;simp only at this hb;subst hb;subst this;exact⟨rfl,rfl⟩
  ·cases h3
 |fz e=>
  have h1:(XW o).bind (fun p=>if e=p.1 then some (([]:List Prop),p.2) else none)=some (cs,t):=h;obtain⟨⟨e',m,ns⟩,h2,h3⟩:=arj.1 h1;split at h3
  ·rename_i he;simp only at he;subst he;rw[XX h2];cases h3;exact⟨rfl,rfl⟩
  ·cases h3
def wW (lens:List Nat):(l:List mg)->List aw->Option (List Prop×TO l)
 | [],[]=>some ([],())
 |sh::l,x::xs=>(match aeC lens sh x with
  |some (p,t)=>(match wW lens l xs with
   |some (q,ts)=>some (p++q,(t,ts))
   |none=>none)
  |none=>none)
 |_,_=>none
theorem uB {lens lens':List Nat}:∀{l:List mg} {xs:List aw} {cs:List Prop} {t:TO l},wW lens l xs=some (cs,t)->eA cs->fp xs (pr lens l t)/\ig l t=s9 xs
 | [],[],_,_,_,_=>⟨ai,rfl⟩
 | [],_::_,_,_,h,_=>by simp[wW] at h
 |_::_,[],_,_,h,_=>by simp[wW] at h
 |sh::l,x::xs,cs,t,h,hc=>by
  simp only[wW] at h;split at h
  ·rename_i p t1 h1;split at h
   ·rename_i q ts h2;simp only[aqq,aqt] at h;obtain⟨rfl,rfl⟩:=h;rw[bP] at hc;have h3:=XY h1 hc.1;have h4:=uB (lens':=lens') h2 hc.2;exact⟨⟨h3.1,h4.1⟩,by simp only[ig,s9,h3.2,h4.2]⟩
   ·cases h
  ·cases h
theorem fp.refl:∀(l:List aw),fp l l
 | []=>ai
 |o::l=>⟨by
  cases o with
  |box cs=>exact er.refl cs
  |_=>rfl,fp.refl l⟩
theorem fp.append:∀{a b c d:List aw},fp a b->fp c d->fp (a++c) (b++d)
 | [],[],_,_,_,h=>h
 |_::_,_::_,_,_,h1,h2=>⟨h1.1,fp.append h1.2 h2⟩
theorem fp.length:∀{a b:List aw},fp a b->a.length=b.length
 | [],[],_=>rfl
 |_::_,_::_,h=>by simp[fp.length h.2]
theorem fp.get:∀{a b:List aw},fp a b->∀(r:Nat),(a[r]?=none/\b[r]?=none)\/∃o o',a[r]?=some o/\b[r]?=some o'/\Pb o o'
 | [],[],_,r=>.inl ⟨by simp,by simp⟩
 |_::_,_::_,h,0=>.inr ⟨_,_,rfl,rfl,h.1⟩
 |_::_,_::_,h,r+1=>by simpa using fp.get h.2 r
end Go.Proofs.YtnkjkpmbgoehkaaGreat
