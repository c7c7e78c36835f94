/- Texts of ours laid together for a claim: VcD. -/
import Derived.Test.YtdcikhleahfknaaGreatDoorQ23
namespace Go.Proofs.YtdcikhleahfknaaGreatDoor
open Go
set_option linter.unusedSimpArgs false
set_option linter.unusedVariables false
def vN.T:vN->Type
 | .i _=>Int
 | .b=>Bool
 | .s=>ByteArray
 | .l=>List AV
 | .c=>List AV
 | .m=>List (Int×Value)
 | .ms=>List (ByteArray×Value)
 | .k _=>Unit
 | .o _=>Unit
 | .fn=>Value
 | .q _=>Unit
def mkC (lens:List Nat):(sh:vN)->sh.T->AV
 | .i k,n=>.ae (.int k n)
 | .b,b=>.ae (.bool b)
 | .s,s=>.ae (.string s)
 | .l,l=>.sl l
 | .c,l=>.clip l
 | .m,l=>.eG (.i l)
 | .ms,l=>.eG (.s l)
 | .k x,_=>x
 | .o r,_=>.own r (qo lens r)
 | .fn,v=>.fn v
 | .q x,_=>x
def YP:List vN->Type
 | []=>Unit
 |sh::l=>sh.T×YP l
def Lt (lens:List Nat):(l:List vN)->YP l->List AV
 | [],_=>[]
 |sh::l,t=>mkC lens sh t.1::Lt lens l t.2
def r4.T:r4->Type
 | .c x=>x.T
 | .a l=>YP l
def mkV (lens:List Nat):(sh:r4)->sh.T->AV
 | .c x,t=>mkC lens x t
 | .a l,t=>.agg (Lt lens l t)
def Xn:List r4->Type
 | []=>Unit
 |sh::l=>sh.T×Xn l
def HM (lens:List Nat):(l:List r4)->Xn l->List AV
 | [],_=>[]
 |sh::l,t=>mkV lens sh t.1::HM lens l t.2
def Sh.T:Sh->Type
 | .v x=>x.T
 | .t l=>Xn l
 | .f _ l=>Xn l
 | .m _ l=>Xn l
def mkS (lens:List Nat):(sh:Sh)->sh.T->AV
 | .v x,t=>mkV lens x t
 | .t l,t=>.aL (HM lens l t)
 | .f fn l,t=>.aY fn (HM lens l t)
 | .m fn l,t=>.dm fn (HM lens l t)
def TS:List Sh->Type
 | []=>Unit
 |sh::l=>sh.T×TS l
def vQ (lens:List Nat):(l:List Sh)->TS l->List AV
 | [],_=>[]
 |sh::l,t=>mkS lens sh t.1::vQ lens l t.2
def dc (x y:AV):Prop:=∀(w:World) (F:Nat->Nat->Prop) (η:List Value) (hp:List af) (v:Value),bm w F η hp x v->bm w F η hp y v
def dK:List AV->List AV->Prop
 | [],[]=>True
 |x::xs,y::ys=>dc x y/\dK xs ys
 |_,_=>False
theorem dc.refl (x:AV):dc x x:=fun _ _ _ _ _ h=>h
theorem dK.refl:∀(xs:List AV),dK xs xs
 | []=>True.intro
 |x::xs=>⟨dc.refl x,dK.refl xs⟩
theorem dK.length:∀{xs ys:List AV},dK xs ys->xs.length=ys.length
 | [],[],_=>rfl
 |_::_,_::_,h=>by simp[dK.length h.2]
theorem dK.get:∀{xs ys:List AV},dK xs ys->∀(j:Nat) (y:AV),ys[j]?=some y->∃x,xs[j]?=some x/\dc x y
 | [],[],_,j,y,h=>by simp at h
 |x::xs,y::ys,h,0,z,hz=>by
  simp only[amp,als] at hz;subst hz;exact⟨x,rfl,h.1⟩
 |x::xs,y::ys,h,j+1,z,hz=>by
  obtain⟨u,h1,h2⟩:=dK.get h.2 j z (by simpa using hz);exact⟨u,by simpa using h1,h2⟩
theorem dK.parts {cs cs':List AV} (h:dK cs cs') {w:World} {F:Nat->Nat->Prop} {η:List Value} {hp:List af} {vs:Array Value} (hr:∀(j:Nat) (x:AV) (v:Value),cs[j]?=some x->vs[j]?=some v->bm w F η hp x v):
  ∀(j:Nat) (x:AV) (v:Value),cs'[j]?=some x->vs[j]?=some v->bm w F η hp x v:=by
 intro j y v hy hv;obtain⟨x,h1,h2⟩:=h.get j y hy;exact h2 _ _ _ _ _ (hr j x v h1 hv)
theorem dc.agg {cs cs':List AV} (h:dK cs cs'):dc (.agg cs) (.agg cs'):=by
 intro w F η hp v hv
 cases hv with
 |agg _ vs hl h1 hr=>exact .agg _ vs (by rw[hl,h.length]) h1 (h.parts hr)
theorem dc.aL {cs cs':List AV} (h:dK cs cs'):dc (.aL cs) (.aL cs'):=by
 intro w F η hp v hv
 cases hv with
 |aL _ vs hl hr=>exact .aL _ vs (by rw[hl,h.length]) (h.parts hr)
theorem dc.aY {f:Nat} {cs cs':List AV} (h:dK cs cs'):dc (.aY f cs) (.aY f cs'):=by
 intro w F η hp v hv
 cases hv with
 |aY _ _ vs hl hr=>exact .aY f _ vs (by rw[hl,h.length]) (h.parts hr)
theorem dc.dm {f:Nat} {cs cs':List AV} (h:dK cs cs'):dc (.dm f cs) (.dm f cs'):=by
 intro w F η hp v hv
 cases hv with
 |dm _ _ vs hl hr=>exact .dm f _ vs (by rw[hl,h.length]) (h.parts hr)
def Lu:List AV->List AV->Bool
 | [],[]=>true
 | .ptr r o::l,.ptr r' o'::l'=>Nat.beq r r'&&(Nat.beq o o'&&Lu l l')
 |_,_=>false
theorem JS:∀{l l':List AV},Lu l l'=true->l=l'
 | [],[],_=>rfl
 |x::l,[],h=>by cases x<;>simp[Lu] at h
 | [],y::l,h=>by simp[Lu] at h
 |x::l,y::l',h=>by
  unfold Lu at h;split at h
  ·rename_i h1;cases h1
  ·rename_i r o l1 r' o' l2 e1 e2
   cases e1;cases e2
   rw[alB,alB] at h;rw[alT h.1,alT h.2.1,JS h.2.2]
  ·cases h
def eqK:AV->AV->Bool
 | .top,_=>true
 | .ptr r o,.ptr r' o'=>Nat.beq r r'&&Nat.beq o o'
 | .mp r,.mp r'=>Nat.beq r r'
 | .aY f cs,.aY f' cs'=>Nat.beq f f'&&Lu cs cs'
 | .ae (.slice none 0 0),.ae (.slice none 0 0)=>true
 | .ae (.pointer none),.ae (.pointer none)=>true
 |_,_=>false
theorem YQ {x y:AV} (h:eqK x y=true):dc y x:=by
 unfold eqK at h;split at h
 ·exact fun _ _ _ _ v _=>.top v
 ·rw[alB] at h;rw[alT h.1,alT h.2];exact .refl _
 ·rw[alT h];exact .refl _
 ·rw[alB] at h;rw[alT h.1,JS h.2];exact .refl _
 ·exact .refl _
 ·exact .refl _
 ·cases h
def Od (lens:List Nat):(sh:vN)->AV->Option (List Prop×sh.T)
 | .i k,.ae (.int k' n)=>if k=k' then some ([],n) else none
 | .b,.ae (.bool b)=>some ([],b)
 | .s,.ae (.string s)=>some ([],s)
 | .l,.sl l=>some ([],l)
 | .l,.clip l=>some ([],l)
 | .l,.ae (.slice none 0 0)=>some ([],([]:List AV))
 | .c,.clip l=>some ([],l)
 | .m,.eG (.i l)=>some ([],l)
 | .ms,.eG (.s l)=>some ([],l)
 | .fn,.fn v=>some ([],v)
 | .k x,y=>(match eqK x y with|true=>some ([],())|false=>none)
 | .o r,.own r' n=>if r=r' then some ([n=qo lens r],()) else none
 | .q x,y=>some ([y=x],())
 |_,_=>none
theorem JU {lens:List Nat} {sh:vN} {x:AV} {cs:List Prop} {t:sh.T} (h:Od lens sh x=some (cs,t)) (hc:dQ cs):dc x (mkC lens sh t):=by
 unfold Od at h;split at h
 ·split at h
  ·rename_i hk;subst hk
   cases h;exact .refl _
  ·cases h
 ·cases h;exact .refl _
 ·cases h;exact .refl _
 ·cases h;exact .refl _
 ·cases h;exact fun _ _ _ _ _ h=>h.pF
 ·cases h;intro w F η hp v hv
  cases hv;exact .lL _
 ·cases h;exact .refl _
 ·cases h;exact .refl _
 ·cases h;exact .refl _
 ·cases h;exact .refl _
 ·split at h
  ·rename_i he;exact YQ he
  ·cases h
 ·split at h
  ·rename_i hr;subst hr;cases h;have:=hc.1;subst this;exact .refl _
  ·cases h
 ·cases h;have:=hc.1;subst this;exact .refl _
 ·cases h
def sc (lens:List Nat):(l:List vN)->List AV->Option (List Prop×YP l)
 | [],[]=>some ([],())
 |sh::l,x::xs=>(match Od lens sh x with
  |some (p,t)=>(match sc lens l xs with
   |some (q,ts)=>some (p++q,(t,ts))
   |none=>none)
  |none=>none)
 |_,_=>none
theorem xu {lens:List Nat}:∀{l:List vN} {xs:List AV} {cs:List Prop} {t:YP l},sc lens l xs=some (cs,t)->dQ cs->dK xs (Lt lens l t)
 | [],[],_,_,_,_=>True.intro
 | [],_::_,_,_,h,_=>by simp[sc] at h
 |_::_,[],_,_,h,_=>by simp[sc] at h
 |sh::l,x::xs,cs,t,h,hc=>by
  simp only[sc] at h;split at h
  ·rename_i p t1 h1;split at h
   ·rename_i q ts h2;simp only[als,alx] at h;obtain⟨rfl,rfl⟩:=h;rw[bF] at hc;exact⟨JU h1 hc.1,xu h2 hc.2⟩
   ·cases h
  ·cases h
def JV:AV->Option (List AV)
 | .agg cs=>some cs
 |_=>none
def JW:AV->Option (List AV)
 | .aL cs=>some cs
 |_=>none
def JX:AV->Option (Nat×List AV)
 | .aY f cs=>some (f,cs)
 |_=>none
def BD:AV->Option (Nat×List AV)
 | .dm f cs=>some (f,cs)
 |_=>none
theorem Oe {x:AV} {cs:List AV} (h:JV x=some cs):x=.agg cs:=by
 cases x<;>simp only[JV] at h<;>cases h
 rfl
theorem Of {x:AV} {cs:List AV} (h:JW x=some cs):x=.aL cs:=by
 cases x<;>simp only[JW] at h<;>cases h
 rfl
theorem Og {x:AV} {f:Nat} {cs:List AV} (h:JX x=some (f,cs)):x=.aY f cs:=by
 cases x<;>simp only[JX] at h<;>cases h
 rfl
theorem Lv {x:AV} {f:Nat} {cs:List AV} (h:BD x=some (f,cs)):x=.dm f cs:=by
 cases x<;>simp only[BD] at h<;>cases h
 rfl
def Tq (lens:List Nat) (sh:r4) (v:AV):Option (List Prop×sh.T):=
 match sh with
 | .c x=>Od lens x v
 | .a l=>(JV v).bind fun cs=>sc lens l cs
theorem JY {lens:List Nat} {sh:r4} {x:AV} {cs:List Prop} {t:sh.T} (h:Tq lens sh x=some (cs,t)) (hc:dQ cs):dc x (mkV lens sh t):=by
 cases sh with
 |c y=>
  have h1:Od lens y x=some (cs,t):=h;exact JU h1 hc
 |a l=>
  have h1:(JV x).bind (fun cs=>sc lens l cs)=some (cs,t):=h;obtain⟨cs',h2,h3⟩:=amm.1 h1;rw[Oe h2];exact dc.agg (xu h3 hc)
def oW (lens:List Nat):(l:List r4)->List AV->Option (List Prop×Xn l)
 | [],[]=>some ([],())
 |sh::l,x::xs=>(match Tq lens sh x with
  |some (p,t)=>(match oW lens l xs with
   |some (q,ts)=>some (p++q,(t,ts))
   |none=>none)
  |none=>none)
 |_,_=>none
theorem se {lens:List Nat}:∀{l:List r4} {xs:List AV} {cs:List Prop} {t:Xn l},oW lens l xs=some (cs,t)->dQ cs->dK xs (HM lens l t)
 | [],[],_,_,_,_=>True.intro
 | [],_::_,_,_,h,_=>by simp[oW] at h
 |_::_,[],_,_,h,_=>by simp[oW] at h
 |sh::l,x::xs,cs,t,h,hc=>by
  simp only[oW] at h;split at h
  ·rename_i p t1 h1;split at h
   ·rename_i q ts h2;simp only[als,alx] at h;obtain⟨rfl,rfl⟩:=h;rw[bF] at hc;exact⟨JY h1 hc.1,se h2 hc.2⟩
   ·cases h
  ·cases h
def aaM (lens:List Nat) (sh:Sh) (v:AV):Option (List Prop×sh.T):=
 match sh with
 | .v x=>Tq lens x v
 | .t l=>(JW v).bind fun cs=>oW lens l cs
 | .f fn l=>(JX v).bind fun p=>if fn=p.1 then oW lens l p.2 else none
 | .m fn l=>(BD v).bind fun p=>(oW lens l p.2).bind fun q=>some ((p.1=fn)::q.1,q.2)
theorem Tr {lens:List Nat} {sh:Sh} {x:AV} {cs:List Prop} {t:sh.T} (h:aaM lens sh x=some (cs,t)) (hc:dQ cs):dc x (mkS lens sh t):=by
 cases sh with
 |v y=>
  have h1:Tq lens y x=some (cs,t):=h;exact JY h1 hc
 |t l=>
  have h1:(JW x).bind (fun cs=>oW lens l cs)=some (cs,t):=h;obtain⟨cs',h2,h3⟩:=amm.1 h1;rw[Of h2];exact dc.aL (se h3 hc)
 |f fn l=>
  have h1:(JX x).bind (fun p=>if fn=p.1 then oW lens l p.2 else none)=some (cs,t):=h;obtain⟨⟨f,cs'⟩,h2,h3⟩:=amm.1 h1;split at h3
  ·rename_i hf;simp only at hf;subst hf;rw[Og h2];exact dc.aY (se h3 hc)
  ·cases h3
 |m fn l=>
  have h1:(BD x).bind (fun p=>(oW lens l p.2).bind fun q=>some ((p.1=fn)::q.1,q.2))=some (cs,t):=h;obtain⟨⟨f,cs'⟩,h2,h3⟩:=amm.1 h1;obtain⟨⟨qs,u⟩,h4,h5⟩:=amm.1 h3;simp only[als,alx] at h5;obtain⟨rfl,rfl⟩:=h5;rw[Lv h2,show f=fn from hc.1];exact dc.dm (se h4 hc.2)
def zY (lens:List Nat):(l:List Sh)->List AV->Option (List Prop×TS l)
 | [],[]=>some ([],())
 |sh::l,x::xs=>(match aaM lens sh x with
  |some (p,t)=>(match zY lens l xs with
   |some (q,ts)=>some (p++q,(t,ts))
   |none=>none)
  |none=>none)
 |_,_=>none
theorem Ep {lens:List Nat}:∀{l:List Sh} {xs:List AV} {cs:List Prop} {t:TS l},zY lens l xs=some (cs,t)->dQ cs->dK xs (vQ lens l t)
 | [],[],_,_,_,_=>True.intro
 | [],_::_,_,_,h,_=>by simp[zY] at h
 |_::_,[],_,_,h,_=>by simp[zY] at h
 |sh::l,x::xs,cs,t,h,hc=>by
  simp only[zY] at h;split at h
  ·rename_i p t1 h1;split at h
   ·rename_i q ts h2;simp only[als,alx] at h;obtain⟨rfl,rfl⟩:=h;rw[bF] at hc;exact⟨Tr h1 hc.1,Ep h2 hc.2⟩
   ·cases h
  ·cases h
def kf.T:kf->Type
 | .dead=>Unit
 | .box l=>YP l
 | .row _ _ | .aQ _ _=>List AV
 | .aJ=>List (Int×Value)
 | .fR=>List (ByteArray×Value)
 | .cU _=>Unit
 | .dN _=>Nat×List Int
def mkO (lens:List Nat):(sh:kf)->sh.T->af
 | .dead,_=>.dead
 | .box l,t=>.box (Lt lens l t)
 | .row e size,t=>.row e size t
 | .aQ e size,t=>.aQ e size t
 | .aJ,t=>.aJ (.i t)
 | .fR,t=>.aJ (.s t)
 | .cU r,_=>.cU r (qo lens r)
 | .dN e,t=>.dN e t.1 t.2
def TO:List kf->Type
 | []=>Unit
 |sh::l=>sh.T×TO l
def ni (lens:List Nat):(l:List kf)->TO l->List af
 | [],_=>[]
 |sh::l,t=>mkO lens sh t.1::ni lens l t.2
def aaN:(sh:kf)->sh.T->Nat
 | .row _ _,t=>List.length t
 | .aQ _ _,t=>List.length t
 | .dN _,t=>t.1
 |_,_=>0
def fS:(l:List kf)->TO l->List Nat
 | [],_=>[]
 |sh::l,t=>aaN sh t.1::fS l t.2
def lenOf:af->Nat
 | .row _ _ els | .aQ _ _ els=>els.length
 | .dN _ m _=>m
 |_=>0
def qT:List af->List Nat
 | []=>[]
 |o::l=>lenOf o::qT l
def BE:af->Bool
 | .dead=>true
 |_=>false
def JZ:af->Option (List AV)
 | .box cs=>some cs
 |_=>none
def rowOf:af->Option (Nat×Nat×List AV)
 | .row e size els=>some (e,size,els)
 |_=>none
def mapOf:af->Option (List (Int×Value))
 | .aJ (.i es)=>some es
 |_=>none
def BF:af->Option (List (ByteArray×Value))
 | .aJ (.s es)=>some es
 |_=>none
theorem Lw {o:af} (h:BE o=true):o=.dead:=by
 cases o<;>simp only[BE] at h<;>first|rfl|cases h
theorem Oh {o:af} {cs:List AV} (h:JZ o=some cs):o=.box cs:=by
 cases o<;>simp only[JZ] at h<;>cases h
 rfl
theorem Oi {o:af} {e size:Nat} {els:List AV} (h:rowOf o=some (e,size,els)):o=.row e size els:=by
 cases o<;>simp only[rowOf] at h<;>cases h
 rfl
def J0:af->Option (Nat×Nat×List AV)
 | .aQ e size els=>some (e,size,els)
 |_=>none
theorem Oj {o:af} {e size:Nat} {els:List AV} (h:J0 o=some (e,size,els)):o=.aQ e size els:=by
 cases o<;>simp only[J0] at h<;>cases h
 rfl
def Ts:af->Option (Nat×Nat×List Int)
 | .dN e m ns=>some (e,m,ns)
 |_=>none
theorem Tt {o:af} {e m:Nat} {ns:List Int} (h:Ts o=some (e,m,ns)):o=.dN e m ns:=by
 cases o<;>simp only[Ts] at h<;>cases h
 rfl
def J1:af->Option (Nat×Nat)
 | .cU r n=>some (r,n)
 |_=>none
theorem Ol {o:af} {r n:Nat} (h:J1 o=some (r,n)):o=.cU r n:=by
 unfold J1 at h;split at h
 ·cases h;rfl
 ·cases h
theorem Om {o:af} {es:List (Int×Value)} (h:mapOf o=some es):o=.aJ (.i es):=by
 unfold mapOf at h;split at h
 ·cases h;rfl
 ·cases h
theorem Lx {o:af} {es:List (ByteArray×Value)} (h:BF o=some es):o=.aJ (.s es):=by
 unfold BF at h;split at h
 ·cases h;rfl
 ·cases h
def aaO (lens:List Nat) (sh:kf) (o:af):Option (List Prop×sh.T):=
 match sh with
 | .dead=>(match BE o with|true=>some ([],())|false=>none)
 | .box l=>(JZ o).bind fun cs=>sc lens l cs
 | .row e size=>(rowOf o).bind fun p=>if e=p.1/\size=p.2.1 then some ([],p.2.2) else none
 | .aQ e size=>(J0 o).bind fun p=>if e=p.1/\size=p.2.1 then some ([],p.2.2) else none
 | .aJ=>(mapOf o).bind fun es=>some ([],es)
 | .fR=>(BF o).bind fun es=>some ([],es)
 | .cU r=>(J1 o).bind fun p=>(match Nat.beq r p.1 with|true=>some ([p.2=qo lens r],())|false=>none)
 | .dN e=>(Ts o).bind fun p=>if e=p.1 then some ([],p.2) else none
def Ly:af->af->Prop
 | .box cs,.box cs'=>dK cs cs'
 |o,o'=>o=o'
def eg:List af->List af->Prop
 | [],[]=>True
 |o::l,o'::l'=>Ly o o'/\eg l l'
 |_,_=>False
theorem Tu {lens:List Nat} {sh:kf} {o:af} {cs:List Prop} {t:sh.T} (h:aaO lens sh o=some (cs,t)) (hc:dQ cs):Ly o (mkO lens sh t)/\aaN sh t=lenOf o:=by
 cases sh with
 |dead=>
  have h1:(match BE o with|true=>some (([]:List Prop),())|false=>none)=some (cs,t):=h;split at h1
  ·rename_i hd;rw[Lw hd];exact⟨rfl,rfl⟩
  ·cases h1
 |box l=>
  have h1:(JZ o).bind (fun cs=>sc lens l cs)=some (cs,t):=h;obtain⟨cs',h2,h3⟩:=amm.1 h1;rw[Oh h2];exact⟨xu h3 hc,rfl⟩
 |row e size=>
  have h1:(rowOf o).bind (fun p=>if e=p.1/\size=p.2.1 then some (([]:List Prop),p.2.2) else none)=some (cs,t):=h;obtain⟨⟨e',uE,els⟩,h2,h3⟩:=amm.1 h1;split at h3
  ·rename_i he;simp only at he;obtain⟨rfl,rfl⟩:=he;rw[Oi h2];cases h3;exact⟨rfl,rfl⟩
  ·cases h3
 |aQ e size=>
  have h1:(J0 o).bind (fun p=>if e=p.1/\size=p.2.1 then some (([]:List Prop),p.2.2) else none)=some (cs,t):=h;obtain⟨⟨e',uE,els⟩,h2,h3⟩:=amm.1 h1;split at h3
  ·rename_i he;simp only at he;obtain⟨rfl,rfl⟩:=he;rw[Oj h2];cases h3;exact⟨rfl,rfl⟩
  ·cases h3
 |aJ=>
  have h1:(mapOf o).bind (fun es=>some (([]:List Prop),es))=some (cs,t):=h;obtain⟨es,h2,h3⟩:=amm.1 h1;rw[Om h2];cases h3;exact⟨rfl,rfl⟩
 |fR=>
  have h1:(BF o).bind (fun es=>some (([]:List Prop),es))=some (cs,t):=h;obtain⟨es,h2,h3⟩:=amm.1 h1;rw[Lx h2];cases h3;exact⟨rfl,rfl⟩
 |cU r=>
  have h1:(J1 o).bind (fun p=>(match Nat.beq r p.1 with|true=>some ([p.2=qo lens r],())|false=>none))=some (cs,t):=h;obtain⟨⟨r',n⟩,h2,h3⟩:=amm.1 h1;rw[Ol h2];split at h3
  ·rename_i hb;have hb:=alT hb;simp only[als,alx] at h3;obtain⟨rfl,_⟩:=h3;have:=hc.1;simp only at this hb;subst hb;subst this;exact⟨rfl,rfl⟩
  ·cases h3
 |dN e=>
  have h1:(Ts o).bind (fun p=>if e=p.1 then some (([]:List Prop),p.2) else none)=some (cs,t):=h;obtain⟨⟨e',m,ns⟩,h2,h3⟩:=amm.1 h1;split at h3
  ·rename_i he;simp only at he;subst he;rw[Tt h2];cases h3;exact⟨rfl,rfl⟩
  ·cases h3
def uN (lens:List Nat):(l:List kf)->List af->Option (List Prop×TO l)
 | [],[]=>some ([],())
 |sh::l,x::xs=>(match aaO lens sh x with
  |some (p,t)=>(match uN lens l xs with
   |some (q,ts)=>some (p++q,(t,ts))
   |none=>none)
  |none=>none)
 |_,_=>none
theorem sf {lens lens':List Nat}:∀{l:List kf} {xs:List af} {cs:List Prop} {t:TO l},uN lens l xs=some (cs,t)->dQ cs->eg xs (ni lens l t)/\fS l t=qT xs
 | [],[],_,_,_,_=>⟨True.intro,rfl⟩
 | [],_::_,_,_,h,_=>by simp[uN] at h
 |_::_,[],_,_,h,_=>by simp[uN] at h
 |sh::l,x::xs,cs,t,h,hc=>by
  simp only[uN] at h;split at h
  ·rename_i p t1 h1;split at h
   ·rename_i q ts h2;simp only[als,alx] at h;obtain⟨rfl,rfl⟩:=h;rw[bF] at hc;have h3:=Tu h1 hc.1;have h4:=sf (lens':=lens') h2 hc.2;exact⟨⟨h3.1,h4.1⟩,by simp only[fS,qT,h3.2,h4.2]⟩
   ·cases h
  ·cases h
theorem eg.refl:∀(l:List af),eg l l
 | []=>True.intro
 |o::l=>⟨by
  cases o with
  |box cs=>exact dK.refl cs
  |_=>rfl,eg.refl l⟩
theorem eg.append:∀{a b c d:List af},eg a b->eg c d->eg (a++c) (b++d)
 | [],[],_,_,_,h=>h
 |_::_,_::_,_,_,h1,h2=>⟨h1.1,eg.append h1.2 h2⟩
theorem eg.length:∀{a b:List af},eg a b->a.length=b.length
 | [],[],_=>rfl
 |_::_,_::_,h=>by simp[eg.length h.2]
theorem eg.get:∀{a b:List af},eg a b->∀(r:Nat),(a[r]?=none/\b[r]?=none)\/∃o o',a[r]?=some o/\b[r]?=some o'/\Ly o o'
 | [],[],_,r=>.inl ⟨by simp,by simp⟩
 |_::_,_::_,h,0=>.inr ⟨_,_,rfl,rfl,h.1⟩
 |_::_,_::_,h,r+1=>by simpa using eg.get h.2 r
end Go.Proofs.YtdcikhleahfknaaGreatDoor
