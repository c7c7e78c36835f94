/- Texts of ours laid together for a claim: VcD. -/
import Derived.Test.YtjhanogfpkbamaaGreatDoorQ22
namespace Go.Proofs.YtjhanogfpkbamaaGreatDoor
open Go
set_option linter.unusedSimpArgs false
set_option linter.unusedVariables false
def ShC.T:ShC→Type
 | .i _=>Int
 | .b=>Bool
 | .s=>ByteArray
 | .l=>List AV
 | .c=>List AV
 | .m=>List (Int×Value)
 | .ms=>List (ByteArray×Value)
 | .k _=>Unit
 | .o _=>Unit
 | .fn=>Value
 | .q _=>Unit
def mkC (lens:List Nat):(sh:ShC)→sh.T→AV
 | .i k,n=>.prim (.int k n)
 | .b,b=>.prim (.bool b)
 | .s,s=>.prim (.string s)
 | .l,l=>.sl l
 | .c,l=>.clip l
 | .m,l=>.mapv (.i l)
 | .ms,l=>.mapv (.s l)
 | .k x,_=>x
 | .o r,_=>.own r (nthN lens r)
 | .fn,v=>.fn v
 | .q x,_=>x
def TCs:List ShC→Type
 | []=>Unit
 |sh::l=>sh.T×TCs l
def mkCs (lens:List Nat):(l:List ShC)→TCs l→List AV
 | [],_=>[]
 |sh::l,t=>mkC lens sh t.1::mkCs lens l t.2
def ShV.T:ShV→Type
 | .c x=>x.T
 | .a l=>TCs l
def mkV (lens:List Nat):(sh:ShV)→sh.T→AV
 | .c x,t=>mkC lens x t
 | .a l,t=>.agg (mkCs lens l t)
def TVs:List ShV→Type
 | []=>Unit
 |sh::l=>sh.T×TVs l
def mkVs (lens:List Nat):(l:List ShV)→TVs l→List AV
 | [],_=>[]
 |sh::l,t=>mkV lens sh t.1::mkVs lens l t.2
def Sh.T:Sh→Type
 | .v x=>x.T
 | .t l=>TVs l
 | .f _ l=>TVs l
 | .m _ l=>TVs l
def mkS (lens:List Nat):(sh:Sh)→sh.T→AV
 | .v x,t=>mkV lens x t
 | .t l,t=>.tup (mkVs lens l t)
 | .f fn l,t=>.clo fn (mkVs lens l t)
 | .m fn l,t=>.mclo fn (mkVs lens l t)
def TS:List Sh→Type
 | []=>Unit
 |sh::l=>sh.T×TS l
def mkSl (lens:List Nat):(l:List Sh)→TS l→List AV
 | [],_=>[]
 |sh::l,t=>mkS lens sh t.1::mkSl lens l t.2
def RepW (x y:AV):Prop:=∀(w:World) (F:Nat→Nat→Prop) (η:List Value) (hp:List AObj) (v:Value),Rep w F η hp x v→Rep w F η hp y v
def RepWL:List AV→List AV→Prop
 | [],[]=>True
 |x::xs,y::ys=>RepW x y∧RepWL xs ys
 |_,_=>False
theorem RepW.refl (x:AV):RepW x x:=fun _ _ _ _ _ h=>h
theorem RepWL.refl:∀(xs:List AV),RepWL xs xs
 | []=>True.intro
 |x::xs=>⟨RepW.refl x,RepWL.refl xs⟩
theorem RepWL.length:∀{xs ys:List AV},RepWL xs ys→xs.length=ys.length
 | [],[],_=>rfl
 |_::_,_::_,h=>by simp[RepWL.length h.2]
theorem RepWL.get:∀{xs ys:List AV},RepWL xs ys→∀(j:Nat) (y:AV),ys[j]?=some y→∃x,xs[j]?=some x∧RepW x y
 | [],[],_,j,y,h=>by simp at h
 |x::xs,y::ys,h,0,z,hz=>by
  simp only[List.getElem?_cons_zero,Option.some.injEq] at hz
  subst hz
  exact⟨x,rfl,h.1⟩
 |x::xs,y::ys,h,j+1,z,hz=>by
  obtain⟨u,h1,h2⟩:=RepWL.get h.2 j z (by simpa using hz)
  exact⟨u,by simpa using h1,h2⟩
theorem RepWL.parts {cs cs':List AV} (h:RepWL cs cs') {w:World} {F:Nat→Nat→Prop} {η:List Value} {hp:List AObj} {vs:Array Value} (hr:∀(j:Nat) (x:AV) (v:Value),cs[j]?=some x→vs[j]?=some v→Rep w F η hp x v):
  ∀(j:Nat) (x:AV) (v:Value),cs'[j]?=some x→vs[j]?=some v→Rep w F η hp x v:=by
 intro j y v hy hv
 obtain⟨x,h1,h2⟩:=h.get j y hy
 exact h2 _ _ _ _ _ (hr j x v h1 hv)
theorem RepW.agg {cs cs':List AV} (h:RepWL cs cs'):RepW (.agg cs) (.agg cs'):=by
 intro w F η hp v hv
 cases hv with
 |agg _ vs hl h1 hr=>exact .agg _ vs (by rw[hl,h.length]) h1 (h.parts hr)
theorem RepW.tup {cs cs':List AV} (h:RepWL cs cs'):RepW (.tup cs) (.tup cs'):=by
 intro w F η hp v hv
 cases hv with
 |tup _ vs hl hr=>exact .tup _ vs (by rw[hl,h.length]) (h.parts hr)
theorem RepW.clo {f:Nat} {cs cs':List AV} (h:RepWL cs cs'):RepW (.clo f cs) (.clo f cs'):=by
 intro w F η hp v hv
 cases hv with
 |clo _ _ vs hl hr=>exact .clo f _ vs (by rw[hl,h.length]) (h.parts hr)
theorem RepW.mclo {f:Nat} {cs cs':List AV} (h:RepWL cs cs'):RepW (.mclo f cs) (.mclo f cs'):=by
 intro w F η hp v hv
 cases hv with
 |mclo _ _ vs hl hr=>exact .mclo f _ vs (by rw[hl,h.length]) (h.parts hr)
def eqK:AV→AV→Bool
 | .top,_=>true
 | .ptr r o,.ptr r' o'=>Nat.beq r r'&&Nat.beq o o'
 | .mp r,.mp r'=>Nat.beq r r'
 | .clo f [.ptr r o],.clo f' [.ptr r' o']=>Nat.beq f f'&&(Nat.beq r r'&&Nat.beq o o')
 | .prim (.slice none 0 0),.prim (.slice none 0 0)=>true
 |_,_=>false
theorem eqK_ok {x y:AV} (h:eqK x y=true):RepW y x:=by
 unfold eqK at h
 split at h
 ·exact fun _ _ _ _ v _=>.top v
 ·rw[Bool.and_eq_true] at h
  rw[Nat.eq_of_beq_eq_true h.1,Nat.eq_of_beq_eq_true h.2];exact .refl _
 ·rw[Nat.eq_of_beq_eq_true h];exact .refl _
 ·rw[Bool.and_eq_true,Bool.and_eq_true] at h
  rw[Nat.eq_of_beq_eq_true h.1,Nat.eq_of_beq_eq_true h.2.1,Nat.eq_of_beq_eq_true h.2.2];exact .refl _
 ·exact .refl _
 ·cases h
def decC (lens:List Nat):(sh:ShC)→AV→Option (List Prop×sh.T)
 | .i k,.prim (.int k' n)=>if k=k' then some ([],n) else none
 | .b,.prim (.bool b)=>some ([],b)
 | .s,.prim (.string s)=>some ([],s)
 | .l,.sl l=>some ([],l)
 | .l,.clip l=>some ([],l)
 | .l,.prim (.slice none 0 0)=>some ([],([]:List AV))
 | .c,.clip l=>some ([],l)
 | .m,.mapv (.i l)=>some ([],l)
 | .ms,.mapv (.s l)=>some ([],l)
 | .fn,.fn v=>some ([],v)
 | .k x,y=>(match eqK x y with|true=>some ([],())|false=>none)
 | .o r,.own r' n=>if r=r' then some ([n=nthN lens r],()) else none
 | .q x,y=>some ([y=x],())
 |_,_=>none
theorem decC_ok {lens:List Nat} {sh:ShC} {x:AV} {cs:List Prop} {t:sh.T} (h:decC lens sh x=some (cs,t)) (hc:allP cs):RepW x (mkC lens sh t):=by
 unfold decC at h
 split at h
 ·split at h
  ·rename_i hk
   subst hk
   cases h;exact .refl _
  ·cases h
 ·cases h;exact .refl _
 ·cases h;exact .refl _
 ·cases h;exact .refl _
 ·cases h;exact fun _ _ _ _ _ h=>h.of_clip
 ·cases h
  intro w F η hp v hv
  cases hv;exact .sl0 _
 ·cases h;exact .refl _
 ·cases h;exact .refl _
 ·cases h;exact .refl _
 ·cases h;exact .refl _
 ·split at h
  ·rename_i he;exact eqK_ok he
  ·cases h
 ·split at h
  ·rename_i hr
   subst hr
   cases h
   have:=hc.1
   subst this;exact .refl _
  ·cases h
 ·cases h
  have:=hc.1
  subst this;exact .refl _
 ·cases h
def decCs (lens:List Nat):(l:List ShC)→List AV→Option (List Prop×TCs l)
 | [],[]=>some ([],())
 |sh::l,x::xs=>(match decC lens sh x with
  |some (p,t)=>(match decCs lens l xs with
   |some (q,ts)=>some (p++q,(t,ts))
   |none=>none)
  |none=>none)
 |_,_=>none
theorem decCs_ok {lens:List Nat}:∀{l:List ShC} {xs:List AV} {cs:List Prop} {t:TCs l},decCs lens l xs=some (cs,t)→allP cs→RepWL xs (mkCs lens l t)
 | [],[],_,_,_,_=>True.intro
 | [],_::_,_,_,h,_=>by simp[decCs] at h
 |_::_,[],_,_,h,_=>by simp[decCs] at h
 |sh::l,x::xs,cs,t,h,hc=>by
  simp only[decCs] at h
  split at h
  ·rename_i p t1 h1
   split at h
   ·rename_i q ts h2
    simp only[Option.some.injEq,Prod.mk.injEq] at h
    obtain⟨rfl,rfl⟩:=h
    rw[allP_append] at hc
    exact⟨decC_ok h1 hc.1,decCs_ok h2 hc.2⟩
   ·cases h
  ·cases h
def aggOf:AV→Option (List AV)
 | .agg cs=>some cs
 |_=>none
def tupOf:AV→Option (List AV)
 | .tup cs=>some cs
 |_=>none
def cloOf:AV→Option (Nat×List AV)
 | .clo f cs=>some (f,cs)
 |_=>none
def mcloOf:AV→Option (Nat×List AV)
 | .mclo f cs=>some (f,cs)
 |_=>none
theorem aggOf_eq {x:AV} {cs:List AV} (h:aggOf x=some cs):x=.agg cs:=by
 cases x<;>simp only[aggOf] at h<;>cases h
 rfl
theorem tupOf_eq {x:AV} {cs:List AV} (h:tupOf x=some cs):x=.tup cs:=by
 cases x<;>simp only[tupOf] at h<;>cases h
 rfl
theorem cloOf_eq {x:AV} {f:Nat} {cs:List AV} (h:cloOf x=some (f,cs)):x=.clo f cs:=by
 cases x<;>simp only[cloOf] at h<;>cases h
 rfl
theorem mcloOf_eq {x:AV} {f:Nat} {cs:List AV} (h:mcloOf x=some (f,cs)):x=.mclo f cs:=by
 cases x<;>simp only[mcloOf] at h<;>cases h
 rfl
def decV (lens:List Nat) (sh:ShV) (v:AV):Option (List Prop×sh.T):=
 match sh with
 | .c x=>decC lens x v
 | .a l=>(aggOf v).bind fun cs=>decCs lens l cs
theorem decV_ok {lens:List Nat} {sh:ShV} {x:AV} {cs:List Prop} {t:sh.T} (h:decV lens sh x=some (cs,t)) (hc:allP cs):RepW x (mkV lens sh t):=by
 cases sh with
 |c y=>
  have h1:decC lens y x=some (cs,t):=h
  exact decC_ok h1 hc
 |a l=>
  have h1:(aggOf x).bind (fun cs=>decCs lens l cs)=some (cs,t):=h
  obtain⟨cs',h2,h3⟩:=Option.bind_eq_some_iff.1 h1
  rw[aggOf_eq h2]
  exact RepW.agg (decCs_ok h3 hc)
def decVs (lens:List Nat):(l:List ShV)→List AV→Option (List Prop×TVs l)
 | [],[]=>some ([],())
 |sh::l,x::xs=>(match decV lens sh x with
  |some (p,t)=>(match decVs lens l xs with
   |some (q,ts)=>some (p++q,(t,ts))
   |none=>none)
  |none=>none)
 |_,_=>none
theorem decVs_ok {lens:List Nat}:∀{l:List ShV} {xs:List AV} {cs:List Prop} {t:TVs l},decVs lens l xs=some (cs,t)→allP cs→RepWL xs (mkVs lens l t)
 | [],[],_,_,_,_=>True.intro
 | [],_::_,_,_,h,_=>by simp[decVs] at h
 |_::_,[],_,_,h,_=>by simp[decVs] at h
 |sh::l,x::xs,cs,t,h,hc=>by
  simp only[decVs] at h
  split at h
  ·rename_i p t1 h1
   split at h
   ·rename_i q ts h2
    simp only[Option.some.injEq,Prod.mk.injEq] at h
    obtain⟨rfl,rfl⟩:=h
    rw[allP_append] at hc
    exact⟨decV_ok h1 hc.1,decVs_ok h2 hc.2⟩
   ·cases h
  ·cases h
def decS (lens:List Nat) (sh:Sh) (v:AV):Option (List Prop×sh.T):=
 match sh with
 | .v x=>decV lens x v
 | .t l=>(tupOf v).bind fun cs=>decVs lens l cs
 | .f fn l=>(cloOf v).bind fun p=>if fn=p.1 then decVs lens l p.2 else none
 | .m fn l=>(mcloOf v).bind fun p=>(decVs lens l p.2).bind fun q=>some ((p.1=fn)::q.1,q.2)
theorem decS_ok {lens:List Nat} {sh:Sh} {x:AV} {cs:List Prop} {t:sh.T} (h:decS lens sh x=some (cs,t)) (hc:allP cs):RepW x (mkS lens sh t):=by
 cases sh with
 |v y=>
  have h1:decV lens y x=some (cs,t):=h
  exact decV_ok h1 hc
 |t l=>
  have h1:(tupOf x).bind (fun cs=>decVs lens l cs)=some (cs,t):=h
  obtain⟨cs',h2,h3⟩:=Option.bind_eq_some_iff.1 h1
  rw[tupOf_eq h2]
  exact RepW.tup (decVs_ok h3 hc)
 |f fn l=>
  have h1:(cloOf x).bind (fun p=>if fn=p.1 then decVs lens l p.2 else none)=some (cs,t):=h
  obtain⟨⟨f,cs'⟩,h2,h3⟩:=Option.bind_eq_some_iff.1 h1
  split at h3
  ·rename_i hf
   simp only at hf
   subst hf
   rw[cloOf_eq h2]
   exact RepW.clo (decVs_ok h3 hc)
  ·cases h3
 |m fn l=>
  have h1:(mcloOf x).bind (fun p=>(decVs lens l p.2).bind fun q=>some ((p.1=fn)::q.1,q.2))=some (cs,t):=h
  obtain⟨⟨f,cs'⟩,h2,h3⟩:=Option.bind_eq_some_iff.1 h1
  obtain⟨⟨qs,u⟩,h4,h5⟩:=Option.bind_eq_some_iff.1 h3
  simp only[Option.some.injEq,Prod.mk.injEq] at h5
  obtain⟨rfl,rfl⟩:=h5
  rw[mcloOf_eq h2,show f=fn from hc.1]
  exact RepW.mclo (decVs_ok h4 hc.2)
def decSl (lens:List Nat):(l:List Sh)→List AV→Option (List Prop×TS l)
 | [],[]=>some ([],())
 |sh::l,x::xs=>(match decS lens sh x with
  |some (p,t)=>(match decSl lens l xs with
   |some (q,ts)=>some (p++q,(t,ts))
   |none=>none)
  |none=>none)
 |_,_=>none
theorem decSl_ok {lens:List Nat}:∀{l:List Sh} {xs:List AV} {cs:List Prop} {t:TS l},decSl lens l xs=some (cs,t)→allP cs→RepWL xs (mkSl lens l t)
 | [],[],_,_,_,_=>True.intro
 | [],_::_,_,_,h,_=>by simp[decSl] at h
 |_::_,[],_,_,h,_=>by simp[decSl] at h
 |sh::l,x::xs,cs,t,h,hc=>by
  simp only[decSl] at h
  split at h
  ·rename_i p t1 h1
   split at h
   ·rename_i q ts h2
    simp only[Option.some.injEq,Prod.mk.injEq] at h
    obtain⟨rfl,rfl⟩:=h
    rw[allP_append] at hc
    exact⟨decS_ok h1 hc.1,decSl_ok h2 hc.2⟩
   ·cases h
  ·cases h
def OSh.T:OSh→Type
 | .dead=>Unit
 | .box l=>TCs l
 | .row _ _=>List AV
 | .mapo=>List (Int×Value)
 | .mapos=>List (ByteArray×Value)
 | .bld _=>Unit
def mkO (lens:List Nat):(sh:OSh)→sh.T→AObj
 | .dead,_=>.dead
 | .box l,t=>.box (mkCs lens l t)
 | .row e size,t=>.row e size t
 | .mapo,t=>.mapo (.i t)
 | .mapos,t=>.mapo (.s t)
 | .bld r,_=>.bld r (nthN lens r)
def TO:List OSh→Type
 | []=>Unit
 |sh::l=>sh.T×TO l
def mkOL (lens:List Nat):(l:List OSh)→TO l→List AObj
 | [],_=>[]
 |sh::l,t=>mkO lens sh t.1::mkOL lens l t.2
def lenO:(sh:OSh)→sh.T→Nat
 | .row _ _,t=>List.length t
 |_,_=>0
def lensO:(l:List OSh)→TO l→List Nat
 | [],_=>[]
 |sh::l,t=>lenO sh t.1::lensO l t.2
def lenOf:AObj→Nat
 | .row _ _ els=>els.length
 |_=>0
def lensOf:List AObj→List Nat
 | []=>[]
 |o::l=>lenOf o::lensOf l
def isDead:AObj→Bool
 | .dead=>true
 |_=>false
def boxOf:AObj→Option (List AV)
 | .box cs=>some cs
 |_=>none
def rowOf:AObj→Option (Nat×Nat×List AV)
 | .row e size els=>some (e,size,els)
 |_=>none
def mapOf:AObj→Option (List (Int×Value))
 | .mapo (.i es)=>some es
 |_=>none
def mapOfS:AObj→Option (List (ByteArray×Value))
 | .mapo (.s es)=>some es
 |_=>none
theorem isDead_eq {o:AObj} (h:isDead o=true):o=.dead:=by
 cases o<;>simp only[isDead] at h<;>first|rfl|cases h
theorem boxOf_eq {o:AObj} {cs:List AV} (h:boxOf o=some cs):o=.box cs:=by
 cases o<;>simp only[boxOf] at h<;>cases h
 rfl
theorem rowOf_eq {o:AObj} {e size:Nat} {els:List AV} (h:rowOf o=some (e,size,els)):o=.row e size els:=by
 cases o<;>simp only[rowOf] at h<;>cases h
 rfl
def bldOf:AObj→Option (Nat×Nat)
 | .bld r n=>some (r,n)
 |_=>none
theorem bldOf_eq {o:AObj} {r n:Nat} (h:bldOf o=some (r,n)):o=.bld r n:=by
 unfold bldOf at h
 split at h
 ·cases h;rfl
 ·cases h
theorem mapOf_eq {o:AObj} {es:List (Int×Value)} (h:mapOf o=some es):o=.mapo (.i es):=by
 unfold mapOf at h
 split at h
 ·cases h;rfl
 ·cases h
theorem mapOfS_eq {o:AObj} {es:List (ByteArray×Value)} (h:mapOfS o=some es):o=.mapo (.s es):=by
 unfold mapOfS at h
 split at h
 ·cases h;rfl
 ·cases h
def decO (lens:List Nat) (sh:OSh) (o:AObj):Option (List Prop×sh.T):=
 match sh with
 | .dead=>(match isDead o with|true=>some ([],())|false=>none)
 | .box l=>(boxOf o).bind fun cs=>decCs lens l cs
 | .row e size=>(rowOf o).bind fun p=>if e=p.1∧size=p.2.1 then some ([],p.2.2) else none
 | .mapo=>(mapOf o).bind fun es=>some ([],es)
 | .mapos=>(mapOfS o).bind fun es=>some ([],es)
 | .bld r=>(bldOf o).bind fun p=>(match Nat.beq r p.1 with|true=>some ([p.2=nthN lens r],())|false=>none)
def ObjW:AObj→AObj→Prop
 | .box cs,.box cs'=>RepWL cs cs'
 |o,o'=>o=o'
def ObjWL:List AObj→List AObj→Prop
 | [],[]=>True
 |o::l,o'::l'=>ObjW o o'∧ObjWL l l'
 |_,_=>False
theorem decO_ok {lens:List Nat} {sh:OSh} {o:AObj} {cs:List Prop} {t:sh.T} (h:decO lens sh o=some (cs,t)) (hc:allP cs):ObjW o (mkO lens sh t)∧lenO sh t=lenOf o:=by
 cases sh with
 |dead=>
  have h1:(match isDead o with|true=>some (([]:List Prop),())|false=>none)=some (cs,t):=h
  split at h1
  ·rename_i hd;rw[isDead_eq hd];exact⟨rfl,rfl⟩
  ·cases h1
 |box l=>
  have h1:(boxOf o).bind (fun cs=>decCs lens l cs)=some (cs,t):=h
  obtain⟨cs',h2,h3⟩:=Option.bind_eq_some_iff.1 h1
  rw[boxOf_eq h2]
  exact⟨decCs_ok h3 hc,rfl⟩
 |row e size=>
  have h1:(rowOf o).bind (fun p=>if e=p.1∧size=p.2.1 then some (([]:List Prop),p.2.2) else none)=some (cs,t):=h
  obtain⟨⟨e',size',els⟩,h2,h3⟩:=Option.bind_eq_some_iff.1 h1
  split at h3
  ·rename_i he
   simp only at he
   obtain⟨rfl,rfl⟩:=he
   rw[rowOf_eq h2]
   cases h3
   exact⟨rfl,rfl⟩
  ·cases h3
 |mapo=>
  have h1:(mapOf o).bind (fun es=>some (([]:List Prop),es))=some (cs,t):=h
  obtain⟨es,h2,h3⟩:=Option.bind_eq_some_iff.1 h1
  rw[mapOf_eq h2]
  cases h3
  exact⟨rfl,rfl⟩
 |mapos=>
  have h1:(mapOfS o).bind (fun es=>some (([]:List Prop),es))=some (cs,t):=h
  obtain⟨es,h2,h3⟩:=Option.bind_eq_some_iff.1 h1
  rw[mapOfS_eq h2]
  cases h3
  exact⟨rfl,rfl⟩
 |bld r=>
  have h1:(bldOf o).bind (fun p=>(match Nat.beq r p.1 with|true=>some ([p.2=nthN lens r],())|false=>none))=some (cs,t):=h
  obtain⟨⟨r',n⟩,h2,h3⟩:=Option.bind_eq_some_iff.1 h1
  rw[bldOf_eq h2]
  split at h3
  ·rename_i hb
   have hb:=Nat.eq_of_beq_eq_true hb
   simp only[Option.some.injEq,Prod.mk.injEq] at h3
   obtain⟨rfl,_⟩:=h3
   have:=hc.1
   simp only at this hb
   subst hb;subst this
   exact⟨rfl,rfl⟩
  ·cases h3
def decOL (lens:List Nat):(l:List OSh)→List AObj→Option (List Prop×TO l)
 | [],[]=>some ([],())
 |sh::l,x::xs=>(match decO lens sh x with
  |some (p,t)=>(match decOL lens l xs with
   |some (q,ts)=>some (p++q,(t,ts))
   |none=>none)
  |none=>none)
 |_,_=>none
theorem decOL_ok {lens lens':List Nat}:∀{l:List OSh} {xs:List AObj} {cs:List Prop} {t:TO l},decOL lens l xs=some (cs,t)→allP cs→ObjWL xs (mkOL lens l t)∧lensO l t=lensOf xs
 | [],[],_,_,_,_=>⟨True.intro,rfl⟩
 | [],_::_,_,_,h,_=>by simp[decOL] at h
 |_::_,[],_,_,h,_=>by simp[decOL] at h
 |sh::l,x::xs,cs,t,h,hc=>by
  simp only[decOL] at h
  split at h
  ·rename_i p t1 h1
   split at h
   ·rename_i q ts h2
    simp only[Option.some.injEq,Prod.mk.injEq] at h
    obtain⟨rfl,rfl⟩:=h
    rw[allP_append] at hc
    have h3:=decO_ok h1 hc.1
    have h4:=decOL_ok (lens':=lens') h2 hc.2
    exact⟨⟨h3.1,h4.1⟩,by simp only[lensO,lensOf,h3.2,h4.2]⟩
   ·cases h
  ·cases h
theorem ObjWL.refl:∀(l:List AObj),ObjWL l l
 | []=>True.intro
 |o::l=>⟨by
  cases o with
  |box cs=>exact RepWL.refl cs
  |_=>rfl,ObjWL.refl l⟩
theorem ObjWL.append:∀{a b c d:List AObj},ObjWL a b→ObjWL c d→ObjWL (a++c) (b++d)
 | [],[],_,_,_,h=>h
 |_::_,_::_,_,_,h1,h2=>⟨h1.1,ObjWL.append h1.2 h2⟩
theorem ObjWL.length:∀{a b:List AObj},ObjWL a b→a.length=b.length
 | [],[],_=>rfl
 |_::_,_::_,h=>by simp[ObjWL.length h.2]
theorem ObjWL.get:∀{a b:List AObj},ObjWL a b→∀(r:Nat),(a[r]?=none∧b[r]?=none)∨∃o o',a[r]?=some o∧b[r]?=some o'∧ObjW o o'
 | [],[],_,r=>.inl ⟨by simp,by simp⟩
 |_::_,_::_,h,0=>.inr ⟨_,_,rfl,rfl,h.1⟩
 |_::_,_::_,h,r+1=>by simpa using ObjWL.get h.2 r
end Go.Proofs.YtjhanogfpkbamaaGreatDoor
