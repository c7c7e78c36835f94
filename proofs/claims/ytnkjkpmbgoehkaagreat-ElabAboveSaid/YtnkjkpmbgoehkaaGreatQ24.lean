/- Texts of ours laid together for a claim: VcD. -/
import Derived.Test.YtnkjkpmbgoehkaaGreatQ23
namespace Go.Proofs.YtnkjkpmbgoehkaaGreat
open Go
set_option linter.unusedSimpArgs false
set_option linter.unusedVariables false
def vJ.T:vJ->Type
 | .i _=>Int
 | .b=>Bool
 | .s=>ByteArray
 | .l=>List AV
 | .c=>List AV
 | .m=>List (Int×Value)
 | .ms=>List (ByteArray×Value)
 | .k _=>Unit
 | .o _=>Unit
 | .fn=>Value
 | .q _=>Unit
def ZI (lens:List Nat):(sh:vJ)->sh.T->AV
 | .i k,n=>.ae (.int k n)
 | .b,b=>.ae (.bool b)
 | .s,s=>.ae (.string s)
 | .l,l=>.sl l
 | .c,l=>.clip l
 | .m,l=>.eY (.i l)
 | .ms,l=>.eY (.s l)
 | .k x,_=>x
 | .o r,_=>.own r (qv lens r)
 | .fn,v=>.fn v
 | .q x,_=>x
def XQ:List vJ->Type
 | []=>Unit
 |sh::l=>sh.T×XQ l
def Lb (lens:List Nat):(l:List vJ)->XQ l->List AV
 | [],_=>[]
 |sh::l,t=>ZI lens sh t.1::Lb lens l t.2
def sj.T:sj->Type
 | .c x=>x.T
 | .a l=>XQ l
def mkV (lens:List Nat):(sh:sj)->sh.T->AV
 | .c x,t=>ZI lens x t
 | .a l,t=>.agg (Lb lens l t)
def Wp:List sj->Type
 | []=>Unit
 |sh::l=>sh.T×Wp l
def Hv (lens:List Nat):(l:List sj)->Wp l->List AV
 | [],_=>[]
 |sh::l,t=>mkV lens sh t.1::Hv lens l t.2
def Sh.T:Sh->Type
 | .v x=>x.T
 | .t l=>Wp l
 | .f _ l=>Wp l
 | .m _ l=>Wp l
def mkS (lens:List Nat):(sh:Sh)->sh.T->AV
 | .v x,t=>mkV lens x t
 | .t l,t=>.av (Hv lens l t)
 | .f fn l,t=>.bf fn (Hv lens l t)
 | .m fn l,t=>.cB fn (Hv lens l t)
def TS:List Sh->Type
 | []=>Unit
 |sh::l=>sh.T×TS l
def vL (lens:List Nat):(l:List Sh)->TS l->List AV
 | [],_=>[]
 |sh::l,t=>mkS lens sh t.1::vL lens l t.2
def aB (x y:AV):Prop:=∀(w:World) (F:Nat->Nat->Prop) (η:List Value) (hp:List ab) (v:Value),ba w F η hp x v->ba w F η hp y v
def dH:List AV->List AV->Prop
 | [],[]=>True
 |x::xs,y::ys=>aB x y/\dH xs ys
 |_,_=>False
theorem aB.refl (x:AV):aB x x:=fun _ _ _ _ _ h=>h
theorem dH.refl:∀(xs:List AV),dH xs xs
 | []=>True.intro
 |x::xs=>⟨aB.refl x,dH.refl xs⟩
theorem dH.length:∀{xs ys:List AV},dH xs ys->xs.length=ys.length
 | [],[],_=>rfl
 |_::_,_::_,h=>by simp[dH.length h.2]
theorem dH.get:∀{xs ys:List AV},dH xs ys->∀(j:Nat) (y:AV),ys[j]?=some y->∃x,xs[j]?=some x/\aB x y
 | [],[],_,j,y,h=>by simp at h
 |x::xs,y::ys,h,0,z,hz=>by
  simp only[al8,alh] at hz;subst hz;exact⟨x,rfl,h.1⟩
 |x::xs,y::ys,h,j+1,z,hz=>by
  obtain⟨u,h1,h2⟩:=dH.get h.2 j z (by simpa using hz);exact⟨u,by simpa using h1,h2⟩
theorem dH.parts {cs eQ:List AV} (h:dH cs eQ) {w:World} {F:Nat->Nat->Prop} {η:List Value} {hp:List ab} {vs:Array Value} (hr:∀(j:Nat) (x:AV) (v:Value),cs[j]?=some x->vs[j]?=some v->ba w F η hp x v):
  ∀(j:Nat) (x:AV) (v:Value),eQ[j]?=some x->vs[j]?=some v->ba w F η hp x v:=by
 intro j y v hy hv;obtain⟨x,h1,h2⟩:=h.get j y hy;exact h2 _ _ _ _ _ (hr j x v h1 hv)
theorem aB.agg {cs eQ:List AV} (h:dH cs eQ):aB (.agg cs) (.agg eQ):=by
 intro w F η hp v hv
 cases hv with
 |agg _ vs hl h1 hr=>exact .agg _ vs (by rw[hl,h.length]) h1 (h.parts hr)
theorem aB.av {cs eQ:List AV} (h:dH cs eQ):aB (.av cs) (.av eQ):=by
 intro w F η hp v hv
 cases hv with
 |av _ vs hl hr=>exact .av _ vs (by rw[hl,h.length]) (h.parts hr)
theorem aB.bf {f:Nat} {cs eQ:List AV} (h:dH cs eQ):aB (.bf f cs) (.bf f eQ):=by
 intro w F η hp v hv
 cases hv with
 |bf _ _ vs hl hr=>exact .bf f _ vs (by rw[hl,h.length]) (h.parts hr)
theorem aB.cB {f:Nat} {cs eQ:List AV} (h:dH cs eQ):aB (.cB f cs) (.cB f eQ):=by
 intro w F η hp v hv
 cases hv with
 |cB _ _ vs hl hr=>exact .cB f _ vs (by rw[hl,h.length]) (h.parts hr)
def Lc:List AV->List AV->Bool
 | [],[]=>true
 | .ptr r o::l,.ptr r' o'::l'=>Nat.beq r r'&&(Nat.beq o o'&&Lc l l')
 |_,_=>false
theorem Jn:∀{l l':List AV},Lc l l'=true->l=l'
 | [],[],_=>rfl
 |x::l,[],h=>by cases x<;>simp[Lc] at h
 | [],y::l,h=>by simp[Lc] at h
 |x::l,y::l',h=>by
  unfold Lc at h;split at h
  ·rename_i h1;cases h1
  ·rename_i r o l1 r' o' l2 e1 e2
   cases e1;cases e2
   rw[aln,aln] at h;rw[alB h.1,alB h.2.1,Jn h.2.2]
  ·cases h
def eqK:AV->AV->Bool
 | .top,_=>true
 | .ptr r o,.ptr r' o'=>Nat.beq r r'&&Nat.beq o o'
 | .mp r,.mp r'=>Nat.beq r r'
 | .bf f cs,.bf f' eQ=>Nat.beq f f'&&Lc cs eQ
 | .ae (.slice none 0 0),.ae (.slice none 0 0)=>true
 | .ae (.pointer none),.ae (.pointer none)=>true
 |_,_=>false
theorem XR {x y:AV} (h:eqK x y=true):aB y x:=by
 unfold eqK at h;split at h
 ·exact fun _ _ _ _ v _=>.top v
 ·rw[aln] at h;rw[alB h.1,alB h.2];exact .refl _
 ·rw[alB h];exact .refl _
 ·rw[aln] at h;rw[alB h.1,Jn h.2];exact .refl _
 ·exact .refl _
 ·exact .refl _
 ·cases h
def Of (lens:List Nat):(sh:vJ)->AV->Option (List Prop×sh.T)
 | .i k,.ae (.int k' n)=>if k=k' then some ([],n) else none
 | .b,.ae (.bool b)=>some ([],b)
 | .s,.ae (.string s)=>some ([],s)
 | .l,.sl l=>some ([],l)
 | .l,.clip l=>some ([],l)
 | .l,.ae (.slice none 0 0)=>some ([],([]:List AV))
 | .c,.clip l=>some ([],l)
 | .m,.eY (.i l)=>some ([],l)
 | .ms,.eY (.s l)=>some ([],l)
 | .fn,.fn v=>some ([],v)
 | .k x,y=>(match eqK x y with|true=>some ([],())|false=>none)
 | .o r,.own r' n=>if r=r' then some ([n=qv lens r],()) else none
 | .q x,y=>some ([y=x],())
 |_,_=>none
theorem Jo {lens:List Nat} {sh:vJ} {x:AV} {cs:List Prop} {t:sh.T} (h:Of lens sh x=some (cs,t)) (hc:dK cs):aB x (ZI lens sh t):=by
 unfold Of at h;split at h
 ·split at h
  ·rename_i hk;subst hk
   cases h;exact .refl _
  ·cases h
 ·cases h;exact .refl _
 ·cases h;exact .refl _
 ·cases h;exact .refl _
 ·cases h;exact fun _ _ _ _ _ h=>h.ng
 ·cases h;intro w F η hp v hv
  cases hv;exact .oc _
 ·cases h;exact .refl _
 ·cases h;exact .refl _
 ·cases h;exact .refl _
 ·cases h;exact .refl _
 ·split at h
  ·rename_i he;exact XR he
  ·cases h
 ·split at h
  ·rename_i hr;subst hr;cases h;have:=hc.1;subst this;exact .refl _
  ·cases h
 ·cases h;have:=hc.1;subst this;exact .refl _
 ·cases h
def sv (lens:List Nat):(l:List vJ)->List AV->Option (List Prop×XQ l)
 | [],[]=>some ([],())
 |sh::l,x::xs=>(match Of lens sh x with
  |some (p,t)=>(match sv lens l xs with
   |some (q,ts)=>some (p++q,(t,ts))
   |none=>none)
  |none=>none)
 |_,_=>none
theorem xv {lens:List Nat}:∀{l:List vJ} {xs:List AV} {cs:List Prop} {t:XQ l},sv lens l xs=some (cs,t)->dK cs->dH xs (Lb lens l t)
 | [],[],_,_,_,_=>True.intro
 | [],_::_,_,_,h,_=>by simp[sv] at h
 |_::_,[],_,_,h,_=>by simp[sv] at h
 |sh::l,x::xs,cs,t,h,hc=>by
  simp only[sv] at h;split at h
  ·rename_i p t1 h1;split at h
   ·rename_i q ts h2;simp only[alh,alk] at h;obtain⟨rfl,rfl⟩:=h;rw[bt] at hc;exact⟨Jo h1 hc.1,xv h2 hc.2⟩
   ·cases h
  ·cases h
def Jp:AV->Option (List AV)
 | .agg cs=>some cs
 |_=>none
def Jq:AV->Option (List AV)
 | .av cs=>some cs
 |_=>none
def Jr:AV->Option (Nat×List AV)
 | .bf f cs=>some (f,cs)
 |_=>none
def Bx:AV->Option (Nat×List AV)
 | .cB f cs=>some (f,cs)
 |_=>none
theorem Og {x:AV} {cs:List AV} (h:Jp x=some cs):x=.agg cs:=by
 cases x<;>simp only[Jp] at h<;>cases h
 rfl
theorem Oh {x:AV} {cs:List AV} (h:Jq x=some cs):x=.av cs:=by
 cases x<;>simp only[Jq] at h<;>cases h
 rfl
theorem Oi {x:AV} {f:Nat} {cs:List AV} (h:Jr x=some (f,cs)):x=.bf f cs:=by
 cases x<;>simp only[Jr] at h<;>cases h
 rfl
theorem Ld {x:AV} {f:Nat} {cs:List AV} (h:Bx x=some (f,cs)):x=.cB f cs:=by
 cases x<;>simp only[Bx] at h<;>cases h
 rfl
def TR (lens:List Nat) (sh:sj) (v:AV):Option (List Prop×sh.T):=
 match sh with
 | .c x=>Of lens x v
 | .a l=>(Jp v).bind fun cs=>sv lens l cs
theorem Js {lens:List Nat} {sh:sj} {x:AV} {cs:List Prop} {t:sh.T} (h:TR lens sh x=some (cs,t)) (hc:dK cs):aB x (mkV lens sh t):=by
 cases sh with
 |c y=>
  have h1:Of lens y x=some (cs,t):=h;exact Jo h1 hc
 |a l=>
  have h1:(Jp x).bind (fun cs=>sv lens l cs)=some (cs,t):=h;obtain⟨eQ,h2,h3⟩:=alZ.1 h1;rw[Og h2];exact aB.agg (xv h3 hc)
def pg (lens:List Nat):(l:List sj)->List AV->Option (List Prop×Wp l)
 | [],[]=>some ([],())
 |sh::l,x::xs=>(match TR lens sh x with
  |some (p,t)=>(match pg lens l xs with
   |some (q,ts)=>some (p++q,(t,ts))
   |none=>none)
  |none=>none)
 |_,_=>none
theorem sw {lens:List Nat}:∀{l:List sj} {xs:List AV} {cs:List Prop} {t:Wp l},pg lens l xs=some (cs,t)->dK cs->dH xs (Hv lens l t)
 | [],[],_,_,_,_=>True.intro
 | [],_::_,_,_,h,_=>by simp[pg] at h
 |_::_,[],_,_,h,_=>by simp[pg] at h
 |sh::l,x::xs,cs,t,h,hc=>by
  simp only[pg] at h;split at h
  ·rename_i p t1 h1;split at h
   ·rename_i q ts h2;simp only[alh,alk] at h;obtain⟨rfl,rfl⟩:=h;rw[bt] at hc;exact⟨Js h1 hc.1,sw h2 hc.2⟩
   ·cases h
  ·cases h
def ZJ (lens:List Nat) (sh:Sh) (v:AV):Option (List Prop×sh.T):=
 match sh with
 | .v x=>TR lens x v
 | .t l=>(Jq v).bind fun cs=>pg lens l cs
 | .f fn l=>(Jr v).bind fun p=>if fn=p.1 then pg lens l p.2 else none
 | .m fn l=>(Bx v).bind fun p=>(pg lens l p.2).bind fun q=>some ((p.1=fn)::q.1,q.2)
theorem TT {lens:List Nat} {sh:Sh} {x:AV} {cs:List Prop} {t:sh.T} (h:ZJ lens sh x=some (cs,t)) (hc:dK cs):aB x (mkS lens sh t):=by
 cases sh with
 |v y=>
  have h1:TR lens y x=some (cs,t):=h;exact Js h1 hc
 |t l=>
  have h1:(Jq x).bind (fun cs=>pg lens l cs)=some (cs,t):=h;obtain⟨eQ,h2,h3⟩:=alZ.1 h1;rw[Oh h2];exact aB.av (sw h3 hc)
 |f fn l=>
  have h1:(Jr x).bind (fun p=>if fn=p.1 then pg lens l p.2 else none)=some (cs,t):=h;obtain⟨⟨f,eQ⟩,h2,h3⟩:=alZ.1 h1;split at h3
  ·rename_i hf;simp only at hf;subst hf;rw[Oi h2];exact aB.bf (sw h3 hc)
  ·cases h3
 |m fn l=>
  have h1:(Bx x).bind (fun p=>(pg lens l p.2).bind fun q=>some ((p.1=fn)::q.1,q.2))=some (cs,t):=h;obtain⟨⟨f,eQ⟩,h2,h3⟩:=alZ.1 h1;obtain⟨⟨qs,u⟩,h4,h5⟩:=alZ.1 h3;simp only[alh,alk] at h5;obtain⟨rfl,rfl⟩:=h5;rw[Ld h2,show f=fn from hc.1];exact aB.cB (sw h4 hc.2)
def Aj (lens:List Nat):(l:List Sh)->List AV->Option (List Prop×TS l)
 | [],[]=>some ([],())
 |sh::l,x::xs=>(match ZJ lens sh x with
  |some (p,t)=>(match Aj lens l xs with
   |some (q,ts)=>some (p++q,(t,ts))
   |none=>none)
  |none=>none)
 |_,_=>none
theorem DX {lens:List Nat}:∀{l:List Sh} {xs:List AV} {cs:List Prop} {t:TS l},Aj lens l xs=some (cs,t)->dK cs->dH xs (vL lens l t)
 | [],[],_,_,_,_=>True.intro
 | [],_::_,_,_,h,_=>by simp[Aj] at h
 |_::_,[],_,_,h,_=>by simp[Aj] at h
 |sh::l,x::xs,cs,t,h,hc=>by
  simp only[Aj] at h;split at h
  ·rename_i p t1 h1;split at h
   ·rename_i q ts h2;simp only[alh,alk] at h;obtain⟨rfl,rfl⟩:=h;rw[bt] at hc;exact⟨TT h1 hc.1,DX h2 hc.2⟩
   ·cases h
  ·cases h
def kL.T:kL->Type
 | .dead=>Unit
 | .box l=>XQ l
 | .row _ _ | .aQ _ _=>List AV
 | .bW=>List (Int×Value)
 | .eg=>List (ByteArray×Value)
 | .iz _=>Unit
 | .eI _=>Nat×List Int
def mkO (lens:List Nat):(sh:kL)->sh.T->ab
 | .dead,_=>.dead
 | .box l,t=>.box (Lb lens l t)
 | .row e size,t=>.row e size t
 | .aQ e size,t=>.aQ e size t
 | .bW,t=>.bW (.i t)
 | .eg,t=>.bW (.s t)
 | .iz r,_=>.iz r (qv lens r)
 | .eI e,t=>.eI e t.1 t.2
def TO:List kL->Type
 | []=>Unit
 |sh::l=>sh.T×TO l
def nz (lens:List Nat):(l:List kL)->TO l->List ab
 | [],_=>[]
 |sh::l,t=>mkO lens sh t.1::nz lens l t.2
def ZK:(sh:kL)->sh.T->Nat
 | .row _ _,t=>List.length t
 | .aQ _ _,t=>List.length t
 | .eI _,t=>t.1
 |_,_=>0
def gi:(l:List kL)->TO l->List Nat
 | [],_=>[]
 |sh::l,t=>ZK sh t.1::gi l t.2
def lenOf:ab->Nat
 | .row _ _ els | .aQ _ _ els=>els.length
 | .eI _ m _=>m
 |_=>0
def rh:List ab->List Nat
 | []=>[]
 |o::l=>lenOf o::rh l
def By:ab->Bool
 | .dead=>true
 |_=>false
def Jt:ab->Option (List AV)
 | .box cs=>some cs
 |_=>none
def rowOf:ab->Option (Nat×Nat×List AV)
 | .row e size els=>some (e,size,els)
 |_=>none
def mapOf:ab->Option (List (Int×Value))
 | .bW (.i es)=>some es
 |_=>none
def Bz:ab->Option (List (ByteArray×Value))
 | .bW (.s es)=>some es
 |_=>none
theorem Le {o:ab} (h:By o=true):o=.dead:=by
 cases o<;>simp only[By] at h<;>first|rfl|cases h
theorem Oj {o:ab} {cs:List AV} (h:Jt o=some cs):o=.box cs:=by
 cases o<;>simp only[Jt] at h<;>cases h
 rfl
theorem Ol {o:ab} {e size:Nat} {els:List AV} (h:rowOf o=some (e,size,els)):o=.row e size els:=by
 cases o<;>simp only[rowOf] at h<;>cases h
 rfl
def Ju:ab->Option (Nat×Nat×List AV)
 | .aQ e size els=>some (e,size,els)
 |_=>none
theorem Om {o:ab} {e size:Nat} {els:List AV} (h:Ju o=some (e,size,els)):o=.aQ e size els:=by
 cases o<;>simp only[Ju] at h<;>cases h
 rfl
def TU:ab->Option (Nat×Nat×List Int)
 | .eI e m ns=>some (e,m,ns)
 |_=>none
theorem TV {o:ab} {e m:Nat} {ns:List Int} (h:TU o=some (e,m,ns)):o=.eI e m ns:=by
 cases o<;>simp only[TU] at h<;>cases h
 rfl
def Jv:ab->Option (Nat×Nat)
 | .iz r n=>some (r,n)
 |_=>none
theorem On {o:ab} {r n:Nat} (h:Jv o=some (r,n)):o=.iz r n:=by
 unfold Jv at h;split at h
 ·cases h;rfl
 ·cases h
theorem Oo {o:ab} {es:List (Int×Value)} (h:mapOf o=some es):o=.bW (.i es):=by
 unfold mapOf at h;split at h
 ·cases h;rfl
 ·cases h
theorem Lf {o:ab} {es:List (ByteArray×Value)} (h:Bz o=some es):o=.bW (.s es):=by
 unfold Bz at h;split at h
 ·cases h;rfl
 ·cases h
def ZL (lens:List Nat) (sh:kL) (o:ab):Option (List Prop×sh.T):=
 match sh with
 | .dead=>(match By o with|true=>some ([],())|false=>none)
 | .box l=>(Jt o).bind fun cs=>sv lens l cs
 | .row e size=>(rowOf o).bind fun p=>if e=p.1/\size=p.2.1 then some ([],p.2.2) else none
 | .aQ e size=>(Ju o).bind fun p=>if e=p.1/\size=p.2.1 then some ([],p.2.2) else none
 | .bW=>(mapOf o).bind fun es=>some ([],es)
 | .eg=>(Bz o).bind fun es=>some ([],es)
 | .iz r=>(Jv o).bind fun p=>(match Nat.beq r p.1 with|true=>some ([p.2=qv lens r],())|false=>none)
 | .eI e=>(TU o).bind fun p=>if e=p.1 then some ([],p.2) else none
def Lg:ab->ab->Prop
 | .box cs,.box eQ=>dH cs eQ
 |o,o'=>o=o'
def eD:List ab->List ab->Prop
 | [],[]=>True
 |o::l,o'::l'=>Lg o o'/\eD l l'
 |_,_=>False
theorem TW {lens:List Nat} {sh:kL} {o:ab} {cs:List Prop} {t:sh.T} (h:ZL lens sh o=some (cs,t)) (hc:dK cs):Lg o (mkO lens sh t)/\ZK sh t=lenOf o:=by
 cases sh with
 |dead=>
  have h1:(match By o with|true=>some (([]:List Prop),())|false=>none)=some (cs,t):=h;split at h1
  ·rename_i hd;rw[Le hd];exact⟨rfl,rfl⟩
  ·cases h1
 |box l=>
  have h1:(Jt o).bind (fun cs=>sv lens l cs)=some (cs,t):=h;obtain⟨eQ,h2,h3⟩:=alZ.1 h1;rw[Oj h2];exact⟨xv h3 hc,rfl⟩
 |row e size=>
  have h1:(rowOf o).bind (fun p=>if e=p.1/\size=p.2.1 then some (([]:List Prop),p.2.2) else none)=some (cs,t):=h;obtain⟨⟨e',uA,els⟩,h2,h3⟩:=alZ.1 h1;split at h3
  ·rename_i he;simp only at he;obtain⟨rfl,rfl⟩:=he;rw[Ol h2];cases h3;exact⟨rfl,rfl⟩
  ·cases h3
 |aQ e size=>
  have h1:(Ju o).bind (fun p=>if e=p.1/\size=p.2.1 then some (([]:List Prop),p.2.2) else none)=some (cs,t):=h;obtain⟨⟨e',uA,els⟩,h2,h3⟩:=alZ.1 h1;split at h3
  ·rename_i he;simp only at he;obtain⟨rfl,rfl⟩:=he;rw[Om h2];cases h3;exact⟨rfl,rfl⟩
  ·cases h3
 |bW=>
  have h1:(mapOf o).bind (fun es=>some (([]:List Prop),es))=some (cs,t):=h;obtain⟨es,h2,h3⟩:=alZ.1 h1;rw[Oo h2];cases h3;exact⟨rfl,rfl⟩
 |eg=>
  have h1:(Bz o).bind (fun es=>some (([]:List Prop),es))=some (cs,t):=h;obtain⟨es,h2,h3⟩:=alZ.1 h1;rw[Lf h2];cases h3;exact⟨rfl,rfl⟩
 |iz r=>
  have h1:(Jv o).bind (fun p=>(match Nat.beq r p.1 with|true=>some ([p.2=qv lens r],())|false=>none))=some (cs,t):=h;obtain⟨⟨r',n⟩,h2,h3⟩:=alZ.1 h1;rw[On h2];split at h3
  ·rename_i hb;have hb:=alB hb;simp only[alh,alk] at h3;obtain⟨rfl,_⟩:=h3;have:=hc.1;simp only at this hb;subst hb;subst this;exact⟨rfl,rfl⟩
  ·cases h3
 |eI e=>
  have h1:(TU o).bind (fun p=>if e=p.1 then some (([]:List Prop),p.2) else none)=some (cs,t):=h;obtain⟨⟨e',m,ns⟩,h2,h3⟩:=alZ.1 h1;split at h3
  ·rename_i he;simp only at he;subst he;rw[TV h2];cases h3;exact⟨rfl,rfl⟩
  ·cases h3
def uP (lens:List Nat):(l:List kL)->List ab->Option (List Prop×TO l)
 | [],[]=>some ([],())
 |sh::l,x::xs=>(match ZL lens sh x with
  |some (p,t)=>(match uP lens l xs with
   |some (q,ts)=>some (p++q,(t,ts))
   |none=>none)
  |none=>none)
 |_,_=>none
theorem sx {lens lens':List Nat}:∀{l:List kL} {xs:List ab} {cs:List Prop} {t:TO l},uP lens l xs=some (cs,t)->dK cs->eD xs (nz lens l t)/\gi l t=rh xs
 | [],[],_,_,_,_=>⟨True.intro,rfl⟩
 | [],_::_,_,_,h,_=>by simp[uP] at h
 |_::_,[],_,_,h,_=>by simp[uP] at h
 |sh::l,x::xs,cs,t,h,hc=>by
  simp only[uP] at h;split at h
  ·rename_i p t1 h1;split at h
   ·rename_i q ts h2;simp only[alh,alk] at h;obtain⟨rfl,rfl⟩:=h;rw[bt] at hc;have h3:=TW h1 hc.1;have h4:=sx (lens':=lens') h2 hc.2;exact⟨⟨h3.1,h4.1⟩,by simp only[gi,rh,h3.2,h4.2]⟩
   ·cases h
  ·cases h
theorem eD.refl:∀(l:List ab),eD l l
 | []=>True.intro
 |o::l=>⟨by
  cases o with
  |box cs=>exact dH.refl cs
  |_=>rfl,eD.refl l⟩
theorem eD.append:∀{a b c d:List ab},eD a b->eD c d->eD (a++c) (b++d)
 | [],[],_,_,_,h=>h
 |_::_,_::_,_,_,h1,h2=>⟨h1.1,eD.append h1.2 h2⟩
theorem eD.length:∀{a b:List ab},eD a b->a.length=b.length
 | [],[],_=>rfl
 |_::_,_::_,h=>by simp[eD.length h.2]
theorem eD.get:∀{a b:List ab},eD a b->∀(r:Nat),(a[r]?=none/\b[r]?=none)\/∃o o',a[r]?=some o/\b[r]?=some o'/\Lg o o'
 | [],[],_,r=>.inl ⟨by simp,by simp⟩
 |_::_,_::_,h,0=>.inr ⟨_,_,rfl,rfl,h.1⟩
 |_::_,_::_,h,r+1=>by simpa using eD.get h.2 r
end Go.Proofs.YtnkjkpmbgoehkaaGreat
