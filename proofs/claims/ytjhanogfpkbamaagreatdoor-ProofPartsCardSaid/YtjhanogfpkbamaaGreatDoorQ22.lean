/- Texts of ours laid together for a claim: VcC. -/
import Derived.Test.YtjhanogfpkbamaaGreatDoorQ21
namespace Go.Proofs.YtjhanogfpkbamaaGreatDoor
open Go
set_option linter.unusedSimpArgs false
set_option linter.unusedVariables false
inductive ShC where
 |i (k:IntKind)
 |b
 |s
 |l
 |c
 |m
 |ms
 |k (x:AV)
 |o (r:Nat)
 |fn
 |q (x:AV)
inductive ShV where
 |c (x:ShC)
 |a (l:List ShC)
inductive Sh where
 |v (x:ShV)
 |t (l:List ShV)
 |f (fn:Nat) (l:List ShV)
 |m (fn:Nat) (l:List ShV)
inductive OSh where
 |dead
 |box (l:List ShC)
 |row (e size:Nat)
 |mapo
 |mapos
 |bld (r:Nat)
def nthN:List Nat→Nat→Nat
 | [],_=>0
 |x::_,0=>x
 |_::l,n+1=>nthN l n
def opnC (lens:List Nat):ShC→(AV→Prop)→Prop
 | .i k,P=>∃n:Int,P (.prim (.int k n))
 | .b,P=>∃b:Bool,P (.prim (.bool b))
 | .s,P=>∃s:ByteArray,P (.prim (.string s))
 | .l,P=>∃l:List AV,P (.sl l)
 | .c,P=>∃l:List AV,P (.clip l)
 | .m,P=>∃l:List (Int×Value),P (.mapv (.i l))
 | .ms,P=>∃l:List (ByteArray×Value),P (.mapv (.s l))
 | .k x,P=>P x
 | .o r,P=>P (.own r (nthN lens r))
 | .fn,P=>∃v:Value,P (.fn v)
 | .q x,P=>P x
def opnCs (lens:List Nat):List ShC→(List AV→Prop)→Prop
 | [],P=>P []
 |sh::l,P=>opnC lens sh fun x=>opnCs lens l fun xs=>P (x::xs)
def opnV (lens:List Nat):ShV→(AV→Prop)→Prop
 | .c x,P=>opnC lens x P
 | .a l,P=>opnCs lens l fun cs=>P (.agg cs)
def opnVs (lens:List Nat):List ShV→(List AV→Prop)→Prop
 | [],P=>P []
 |sh::l,P=>opnV lens sh fun x=>opnVs lens l fun xs=>P (x::xs)
def opn (lens:List Nat):Sh→(AV→Prop)→Prop
 | .v x,P=>opnV lens x P
 | .t l,P=>opnVs lens l fun cs=>P (.tup cs)
 | .f fn l,P=>opnVs lens l fun cs=>P (.clo fn cs)
 | .m fn l,P=>opnVs lens l fun cs=>P (.mclo fn cs)
theorem opnC_ex {lens:List Nat} {sh:ShC} {P:AV→Prop} (h:opnC lens sh P):∃x,P x:=by
 cases sh with
 |i k=>obtain⟨n,h⟩:=h;exact⟨_,h⟩
 |b=>obtain⟨n,h⟩:=h;exact⟨_,h⟩
 |s=>obtain⟨n,h⟩:=h;exact⟨_,h⟩
 |q x=>exact⟨_,h⟩
 |l=>obtain⟨n,h⟩:=h;exact⟨_,h⟩
 |c=>obtain⟨n,h⟩:=h;exact⟨_,h⟩
 |m=>obtain⟨n,h⟩:=h;exact⟨_,h⟩
 |ms=>obtain⟨n,h⟩:=h;exact⟨_,h⟩
 |fn=>obtain⟨n,h⟩:=h;exact⟨_,h⟩
 |k x=>exact⟨_,h⟩
 |o r=>exact⟨_,h⟩
theorem opnCs_ex {lens:List Nat}:∀{l:List ShC} {P:List AV→Prop},opnCs lens l P→∃xs,P xs
 | [],_,h=>⟨_,h⟩
 |_::_,_,h=>by
  obtain⟨x,h⟩:=opnC_ex h
  obtain⟨xs,h⟩:=opnCs_ex h
  exact⟨_,h⟩
theorem opnV_ex {lens:List Nat} {sh:ShV} {P:AV→Prop} (h:opnV lens sh P):∃x,P x:=by
 cases sh with
 |c x=>exact opnC_ex h
 |a l=>obtain⟨cs,h⟩:=opnCs_ex h;exact⟨_,h⟩
theorem opnVs_ex {lens:List Nat}:∀{l:List ShV} {P:List AV→Prop},opnVs lens l P→∃xs,P xs
 | [],_,h=>⟨_,h⟩
 |_::_,_,h=>by
  obtain⟨x,h⟩:=opnV_ex h
  obtain⟨xs,h⟩:=opnVs_ex h
  exact⟨_,h⟩
theorem opn_ex {lens:List Nat} {sh:Sh} {P:AV→Prop} (h:opn lens sh P):∃x,P x:=by
 cases sh with
 |v x=>exact opnV_ex h
 |t l=>obtain⟨cs,h⟩:=opnVs_ex h;exact⟨_,h⟩
 |f fn l=>obtain⟨cs,h⟩:=opnVs_ex h;exact⟨_,h⟩
 |m fn l=>obtain⟨cs,h⟩:=opnVs_ex h;exact⟨_,h⟩
def opnR:List OSh→(List (List AV)→Prop)→Prop
 | [],P=>P []
 | .row _ _::l,P=>∃els:List AV,opnR l fun ls=>P (els::ls)
 |_::l,P=>opnR l fun ls=>P ([]::ls)
def lensL:List (List AV)→List Nat
 | []=>[]
 |l::ls=>l.length::lensL ls
def opnO (lens:List Nat):OSh→List AV→(AObj→Prop)→Prop
 | .dead,_,P=>P .dead
 | .box l,_,P=>opnCs lens l fun cs=>P (.box cs)
 | .row e size,els,P=>P (.row e size els)
 | .mapo,_,P=>∃es:List (Int×Value),P (.mapo (.i es))
 | .bld r,_,P=>P (.bld r (nthN lens r))
 | .mapos,_,P=>∃es:List (ByteArray×Value),P (.mapo (.s es))
def opnOs (lens:List Nat):List OSh→List (List AV)→(List AObj→Prop)→Prop
 | [],_,P=>P []
 |o::l,els::ls,P=>opnO lens o els fun x=>opnOs lens l ls fun xs=>P (x::xs)
 |_::_,[],_=>False
theorem opnR_ex {l:List OSh}:∀{P:List (List AV)→Prop},opnR l P→∃ls,P ls:=by
 induction l with
 |nil=>intro P h;exact⟨_,h⟩
 |cons o l ih=>
  intro P h
  cases o with
  |row e size=>obtain⟨els,h⟩:=h;obtain⟨ls,h⟩:=ih h;exact⟨_,h⟩
  |dead=>obtain⟨ls,h⟩:=ih (P:=fun ls=>P ([]::ls)) h;exact⟨_,h⟩
  |box l=>obtain⟨ls,h⟩:=ih (P:=fun ls=>P ([]::ls)) h;exact⟨_,h⟩
  |mapo=>obtain⟨ls,h⟩:=ih (P:=fun ls=>P ([]::ls)) h;exact⟨_,h⟩
  |mapos=>obtain⟨ls,h⟩:=ih (P:=fun ls=>P ([]::ls)) h;exact⟨_,h⟩
  |bld r=>obtain⟨ls,h⟩:=ih (P:=fun ls=>P ([]::ls)) h;exact⟨_,h⟩
theorem opnO_ex {lens:List Nat} {o:OSh} {els:List AV} {P:AObj→Prop} (h:opnO lens o els P):∃x,P x:=by
 cases o with
 |dead=>exact⟨_,h⟩
 |box l=>obtain⟨cs,h⟩:=opnCs_ex h;exact⟨_,h⟩
 |row e size=>exact⟨_,h⟩
 |mapo=>obtain⟨es,h⟩:=h;exact⟨_,h⟩
 |mapos=>obtain⟨es,h⟩:=h;exact⟨_,h⟩
 |bld r=>exact⟨_,h⟩
theorem opnOs_ex {lens:List Nat}:∀{l:List OSh} {ls:List (List AV)} {P:List AObj→Prop},opnOs lens l ls P→∃xs,xs.length=l.length∧P xs
 | [],_,_,h=>⟨[],rfl,h⟩
 |_::_,[],_,h=>h.elim
 |o::l,els::ls,P,h=>by
  obtain⟨x,h⟩:=opnO_ex h
  obtain⟨xs,hl,h⟩:=opnOs_ex h
  exact⟨x::xs,by simp[hl],h⟩
def KAlt (a:Sh×List OSh) (r:AV) (hp':List AObj) (k:AV→List AObj→Prop):Prop:=
 opnR a.2 fun ls=>opnOs (lensL ls) a.2 ls fun h=>opn (lensL ls) a.1 fun x=>(r=x∧hp'=h)∧k x h
def KAlts:List (Sh×List OSh)→AV→List AObj→(AV→List AObj→Prop)→Prop
 | [],_,_,_=>False
 | [a],r,hp',k=>KAlt a r hp' k
 |a::l,r,hp',k=>KAlt a r hp' k∨KAlts l r hp' k
def KAltP (a:Sh) (r:AV) (k:AV→Prop):Prop:=opn [] a fun x=>r=x∧k x
def KAltsP:List Sh→AV→(AV→Prop)→Prop
 | [],_,_=>False
 | [a],r,k=>KAltP a r k
 |a::l,r,k=>KAltP a r k∨KAltsP l r k
theorem KAlt_ok {a:Sh×List OSh} {r:AV} {hp':List AObj} {k:AV→List AObj→Prop} (h:KAlt a r hp' k):k r hp':=by
 obtain⟨ls,h⟩:=opnR_ex h
 obtain⟨hs,_,h⟩:=opnOs_ex h
 obtain⟨x,⟨rfl,rfl⟩,h⟩:=opn_ex h
 exact h
theorem KAlts_ok:∀{l:List (Sh×List OSh)} {r:AV} {hp':List AObj} {k:AV→List AObj→Prop},KAlts l r hp' k→k r hp'
 | [],_,_,_,h=>h.elim
 | [_],_,_,_,h=>KAlt_ok h
 |_::_::_,_,_,_,h=>h.elim KAlt_ok KAlts_ok
theorem KAltsP_ok:∀{l:List Sh} {r:AV} {k:AV→Prop},KAltsP l r k→k r
 | [],_,_,h=>h.elim
 | [_],_,_,h=>by obtain⟨x,rfl,h⟩:=opn_ex h;exact h
 |_::_::_,_,_,h=>h.elim (fun h=>by obtain⟨x,rfl,h⟩:=opn_ex h;exact h) KAltsP_ok
def idxOp (tab:Nat→Option TD) (hp:List AObj) (ρ:Operand→AV):Op→Option (List Prop×List AV×Int×Nat×Nat)
 | .indexAddr T x i=>(match tab T with
  |some d=>(match d.kind with
   | .slc e=>(match tab e,(ρ x).asSl' hp,ρ i with
    |some d',some (cs,els),.prim (.int _ n)=>some (cs,els,n,e,d'.size)
    |_,_,_=>none)
   |_=>none)
  |none=>none)
 |_=>none
def idxM (tab:Nat→Option TD) (hp:List AObj) (ρ:Operand→AV):Op→Option (Prop×AV)
 | .indexAddr T x i=>(match mrowOf hp (ρ x) with
  |some (r,m,e',size)=>(match tab T with
   |some d=>(match d.kind with
    | .slc e=>(match tab e,ρ i with
     |some d',.prim (.int _ n)=>if e'=e∧size=d'.size then some (0≤n∧n<m,.mptr r m n.toNat size) else none
     |_,_=>none)
    |_=>none)
   |none=>none)
  |none=>none)
 |_=>none
theorem idxM_ok {tab:Nat→Option TD} {hp:List AObj} {ρ:Operand→AV} {op:Op} {c:Prop} {r:AV} (h:idxM tab hp ρ op=some (c,r)):pval tab hp ρ op=some (c,r):=by
 unfold idxM at h
 split at h
 ·rename_i T x i
  split at h
  ·rename_i q m e' size hm
   split at h
   ·rename_i d hd
    split at h
    ·rename_i e hk
     split at h
     ·rename_i d' k n hd' hi
      obtain⟨hx,els,hro⟩:=mrowOf_eq hm
      have hsl:(ρ x).asSl hp=none:=by rw[hx];simp only[AV.asSl,hro]
      simp only[pval,hd,hk,hd',hsl,hi,hm]
      exact h
     ·cases h
    ·cases h
   ·cases h
  ·cases h
 ·cases h
def idxA (tab:Nat→Option TD) (ρ:Operand→AV):Op→Option (Nat×Int×Nat)
 | .indexAddr T x i=>(match tab T with
  |some d=>(match d.kind with
   | .arr m=>(match ρ x,ρ i with
    | .ptr r 0,.prim (.int _ n)=>some (r,n,m)
    |_,_=>none)
   |_=>none)
  |none=>none)
 |_=>none
theorem idxA_ok {tab:Nat→Option TD} {hp:List AObj} {ρ:Operand→AV} {op:Op} {r:Nat} {n:Int} {m:Nat} (h:idxA tab ρ op=some (r,n,m)):pval tab hp ρ op=some (0≤n∧n<m,.ptr r n.toNat):=by
 unfold idxA at h
 split at h
 ·rename_i T x i
  split at h
  ·rename_i d hd
   split at h
   ·rename_i m' hk
    split at h
    ·rename_i r' k n' hx hi
     simp only[Option.some.injEq,Prod.mk.injEq] at h
     obtain⟨rfl,rfl,rfl⟩:=h
     simp only[pval,hd,hk,hx,hi]
    ·cases h
   ·cases h
  ·cases h
 ·cases h
def casesN (n:Int) (k:Nat→Prop):Nat→Nat→Prop
 |0,_=>False
 |1,j=>k j
 |f+2,j=>ITE (n==(j:Int)) (k j) (casesN n k (f+1) (j+1))
theorem casesN_ok {n:Int} {k:Nat→Prop}:∀(f j:Nat),(j:Int)≤n→n<(j:Int)+f→casesN n k f j→k n.toNat
 |0,j,h1,h2,_=>by omega
 |1,j,h1,h2,h=>by
  have:n.toNat=j:=by omega
  rw[this];exact h
 |f+2,j,h1,h2,h=>by
  by_cases e:n=(j:Int)
  ·have h':=h.elim.1 (by simpa using e)
   have:n.toNat=j:=by omega
   rw[this];exact h'
  ·exact casesN_ok (f+1) (j+1) (by omega) (by omega) (h.elim.2 (by simpa using e))
def sized (size:Nat) (x:AV) (p:Prop):Prop:=if x.cells.length=size then p else False
def VVal (tab:Nat→Option TD) (sht:Nat→ShV) (hp:List AObj) (ρ:Operand→AV) (op:Op) (k:AV→Prop):Option Prop:=
 match idxOp tab hp ρ op with
 |some (cs,els,n,e,size)=>some (conj cs (0≤n∧n<els.length∧opnV [] (sht e) fun x=>els.getD n.toNat .top=x∧sized size x (k (.eptr x 0))))
 |none=>(match idxM tab hp ρ op with
  |some (c,r)=>some (c∧k r)
  |none=>(match pv tab hp ρ op with
   |some (cs,r)=>some (conj cs (k r))
   |none=>(match idxA tab ρ op with
    |some (r,n,m)=>some ((0≤n∧n<m)∧casesN n (fun j=>k (.ptr r j)) m 0)
    |none=>none)))
theorem VVal_ok {tab:Nat→Option TD} {sht:Nat→ShV} {hp:List AObj} {ρ:Operand→AV} {op:Op} {k:AV→Prop} {p:Prop} (h:VVal tab sht hp ρ op k=some p) (hpr:p):∃c r,pval tab hp ρ op=some (c,r)∧c∧k r:=by
 unfold VVal at h
 split at h
 ·rename_i cs els n e size hidx
  obtain rfl:=Option.some.inj h
  rw[conj_iff] at hpr
  obtain⟨hc,h0,h1,h2⟩:=hpr
  obtain⟨x,hx,hk⟩:=opnV_ex h2
  unfold sized at hk
  split at hk
  ·rename_i hs
   unfold idxOp at hidx
   split at hidx
   ·rename_i T y i
    split at hidx
    ·rename_i d hd
     split at hidx
     ·rename_i e' hke
      split at hidx
      ·rename_i d' cs' els' ik n' hd' hy hi
       simp only[Option.some.injEq,Prod.mk.injEq] at hidx
       obtain⟨rfl,rfl,rfl,rfl,rfl⟩:=hidx
       have hsl:=asSl'_ok hy hc
       refine⟨0≤n'∧n' < els'.length∧(els'.getD n'.toNat .top).cells.length=d'.size,.eptr (els'.getD n'.toNat .top) 0,by simp only[pval,hd,hke,hd',hsl,hi],⟨h0,h1,by rw[hx];exact hs⟩,by rw[hx];exact hk⟩
      ·cases hidx
     ·cases hidx
    ·cases hidx
   ·cases hidx
  ·exact hk.elim
 ·split at h
  ·rename_i c r hm
   obtain rfl:=Option.some.inj h
   exact⟨c,r,idxM_ok hm,hpr.1,hpr.2⟩
  split at h
  ·rename_i cs r hpv
   obtain rfl:=Option.some.inj h
   rw[conj_iff] at hpr
   obtain⟨c,h1,h2⟩:=pv_ok hpv hpr.1
   exact⟨c,r,h1,h2,hpr.2⟩
  ·split at h
   ·rename_i r n m hi
    obtain rfl:=Option.some.inj h
    exact⟨_,_,idxA_ok hi,hpr.1,casesN_ok m 0 (by simpa using hpr.1.1) (by simpa using hpr.1.2) hpr.2⟩
   ·cases h
def VEff (tab:Nat→Option TD) (hp:List AObj) (ρ:Operand→AV) (op:Op) (k:AV→List AObj→Prop):Option Prop:=
 match hv tab hp ρ op with
 |some (cs,r,hp')=>some (conj cs (k r hp'))
 |none=>none
theorem VEff_ok {tab:Nat→Option TD} {hp:List AObj} {ρ:Operand→AV} {op:Op} {k:AV→List AObj→Prop} {p:Prop} (h:VEff tab hp ρ op k=some p) (hpr:p):∃c r hp',heff tab hp ρ op=some (c,r,hp')∧c∧k r hp':=by
 unfold VEff at h
 split at h
 ·rename_i cs r hp' hh
  obtain rfl:=Option.some.inj h
  rw[conj_iff] at hpr
  obtain⟨c,h1,h2⟩:=hv_ok hh hpr.1
  exact⟨c,r,hp',h1,h2,hpr.2⟩
 ·cases h
def callOf (s:AS Unit):Op→Option (Nat×List AV)
 | .call c=>(match c.callee with
  | .value x=>(match s.ev x with
   | .clo f caps=>some (f,c.args.toList.map s.ev++caps)
   |_=>none)
  |_=>none)
 |_=>none
theorem callOf_eq (s:AS Unit) (op:Op):callOf s op=callArgs s op:=rfl
inductive Sig where
 |one (sh:Sh)
 |alts (l:List Sh)
 |heap (n:Nat) (l:List (Sh×List OSh))
 |raw (l:List Sh)
 |clo (f:Nat)
 |y (kind:Bool)
 |frz (sh:Sh)
 |fresh (e size:Nat)
 |emb (l:List (Sh×List OSh))
def boxed:List AV→List AV
 | []=>[]
 |x::l=>.eptr x 0::boxed l
inductive Plan where
 |done
 |val (i:Nat) (p:Plan)
 |eff (i:Nat) (p:Plan)
 |two (i:Nat) (p:Plan) (j:Nat) (q:Plan)
 |three (i:Nat) (p:Plan) (j:Nat) (q:Plan) (k:Nat) (r:Plan)
structure VCfg where
 P:Program
 tab:Nat→Option TD
 sht:Nat→ShV
 sig:Nat→Nat→Sig
 nt:Nat
 dr:List (Nat×List (Option (List Nat))×List (Option (List Nat))):=[]
 hc:List (Nat×List Nat):=[]
 br:List (Nat×Plan):=[]
 mt:Bool:=false
 sgd:Nat→Option Sig:=fun _=>none
 ext:{ e:Nat→Option XOp // ∀f x,e f=some x→XOk P f x }:=⟨fun _=>none,fun _ _ h=>by cases h⟩
def sigAt (C:VCfg) (f:Nat) (o:Oper):Sig:=
 match o.dst with
 |some d=>(match C.sgd d with
  |some g=>g
  |none=>C.sig f o.type)
 |none=>C.sig f o.type
def okB (b:Bool) (p:Prop):Prop:=
 match b with
 |true=>p
 |false=>False
theorem okB_ok {b:Bool} {p:Prop} (h:okB b p):b=true∧p:=by
 cases b with
 |true=>exact⟨rfl,h⟩
 |false=>exact h.elim
def AV.argN' (n:Nat) (hp:List AObj) (x:AV):List Prop×AV:=
 match x.closed n with
 |true=>([],x)
 |false=>x.toData' hp
theorem argN'_ok {n:Nat} {hp:List AObj} {x:AV} (hc:allP (x.argN' n hp).1):x.argN n hp=(x.argN' n hp).2:=by
 unfold AV.argN AV.argN' at *
 cases h:x.closed n with
 |true=>simp
 |false=>rw[h] at hc;simp only[Bool.false_eq_true,if_false];exact toData'_ok hc
def posJ (n:Nat):List Nat→Nat→Nat
 | [],_=>n
 |j::js,r=>(match Nat.beq j r with|true=>n|false=>posJ (n+1) js r)
def unC (js:List Nat):AV→AV
 | .own r n=>.own (posJ 0 js r) n
 | .ptr r o=>.ptr (posJ 0 js r) o
 | .mp r=>.mp (posJ 0 js r)
 |x=>x
def unV (js:List Nat):AV→AV
 | .agg cs=>.agg (cs.map (unC js))
 |x=>unC js x
def unA (js:List Nat):AV→AV
 | .tup vs=>.tup (vs.map (unV js))
 | .clo f cs=>.clo f (cs.map (unV js))
 | .mclo f cs=>.mclo f (cs.map (unV js))
 |x=>unV js x
def unO (js:List Nat):AObj→AObj
 | .box cs=>.box (cs.map (unC js))
 | .bld r n=>.bld (posJ 0 js r) n
 |o=>o
def embG (js:List Nat) (n:Nat) (i:Nat):Nat:=(match Nat.blt i js.length with|true=>nthN js i|false=>n+(i-js.length))
theorem posJ_ok:∀{js:List Nat} {n r:Nat},posJ n js r<n+js.length→n≤posJ n js r∧nthN js (posJ n js r-n)=r
 | [],n,r,h=>by simp[posJ] at h
 |j::js,n,r,h=>by
  simp only[posJ] at h ⊢
  split
  ·rename_i hb
   rw[Nat.sub_self]
   exact⟨Nat.le_refl _,Nat.eq_of_beq_eq_true hb⟩
  ·rename_i hb
   rw[hb] at h
   simp only[List.length_cons] at h
   obtain⟨h1,h2⟩:=posJ_ok (js:=js) (n:=n+1) (r:=r) (by omega)
   refine⟨by omega,?_⟩
   rw[show posJ (n+1) js r-n=(posJ (n+1) js r-(n+1))+1 from by omega]
   exact h2
theorem embG_pos {js:List Nat} {n r:Nat} (h:posJ 0 js r<js.length):embG js n (posJ 0 js r)=r:=by
 unfold embG
 rw[show Nat.blt (posJ 0 js r) js.length=true from Nat.ble_eq_true_of_le h]
 have:=(posJ_ok (js:=js) (n:=0) (r:=r) (by omega)).2
 rwa [Nat.sub_zero] at this
theorem unC_re {js:List Nat} {n:Nat} {x:AV} (h:(unC js x).closedC js.length=true):renC (embG js n) (unC js x)=x:=by
 cases x with
 |own r m=>simp only[unC,AV.closedC,decide_eq_true_eq] at h;simp only[unC,renC,embG_pos h]
 |ptr r m=>simp only[unC,AV.closedC,decide_eq_true_eq] at h;simp only[unC,renC,embG_pos h]
 |mp r=>simp only[unC,AV.closedC,decide_eq_true_eq] at h;simp only[unC,renC,embG_pos h]
 |_=>rfl
theorem map_un_re {js:List Nat} {n:Nat} {u:List Nat→AV→AV} {r:(Nat→Nat)→AV→AV} {c:Nat→AV→Bool} (hu:∀x,c js.length (u js x)=true→r (embG js n) (u js x)=x):
  ∀(l:List AV),(l.map (u js)).all (c js.length)=true→(l.map (u js)).map (r (embG js n))=l
 | [],_=>rfl
 |x::l,h=>by
  simp only[List.map_cons,List.all_cons,Bool.and_eq_true] at h ⊢
  rw[hu x h.1,map_un_re hu l h.2]
theorem unV_re {js:List Nat} {n:Nat} {x:AV} (h:(unV js x).closedV js.length=true):renV (embG js n) (unV js x)=x:=by
 cases x with
 |agg cs=>
  simp only[unV,renV] at h ⊢
  rw[map_un_re (fun x hx=>unC_re hx) cs h]
 |own r m=>exact unC_re (x:=.own r m) h
 |ptr r m=>exact unC_re (x:=.ptr r m) h
 |mp r=>exact unC_re (x:=.mp r) h
 |_=>first|rfl|(simp[unV,unC,AV.closedV,AV.closedC] at h;done)
theorem unA_re {js:List Nat} {n:Nat} {x:AV} (h:(unA js x).closed js.length=true):renA (embG js n) (unA js x)=x:=by
 cases x with
 |tup cs=>
  simp only[unA,renA] at h ⊢
  rw[map_un_re (fun x hx=>unV_re hx) cs h]
 |clo f cs=>
  simp only[unA,renA] at h ⊢
  rw[map_un_re (fun x hx=>unV_re hx) cs h]
 |mclo f cs=>
  simp only[unA,renA] at h ⊢
  rw[map_un_re (fun x hx=>unV_re hx) cs h]
 |agg cs=>exact unV_re (x:=.agg cs) h
 |own r m=>exact unC_re (x:=.own r m) h
 |ptr r m=>exact unC_re (x:=.ptr r m) h
 |mp r=>exact unC_re (x:=.mp r) h
 |_=>first|rfl|(simp[unA,unV,unC,AV.closed,AV.closedV,AV.closedC] at h;done)
theorem unO_re {js:List Nat} {n:Nat} {o:AObj} (h:(unO js o).closed js.length=true):renO (embG js n) (unO js o)=o:=by
 cases o with
 |box cs=>
  simp only[unO,renO] at h ⊢
  rw[map_un_re (fun x hx=>unC_re hx) cs h]
 |bld q k=>have:=unC_re (js:=js) (n:=n) (x:=.own q k) h;simp only[unC,renC,AV.own.injEq,and_true] at this;simp only[unO,renO,this]
 |_=>rfl
def AV.argJ (js:List Nat) (hp:List AObj) (x:AV):AV:=if(unA js x).closed js.length=true then x else x.toData hp
def AV.argJ' (js:List Nat) (hp:List AObj) (x:AV):List Prop×AV:=
 match (unA js x).closed js.length with
 |true=>([],x)
 |false=>x.toData' hp
theorem argJ'_ok {js:List Nat} {hp:List AObj} {x:AV} (hc:allP (x.argJ' js hp).1):x.argJ js hp=(x.argJ' js hp).2:=by
 unfold AV.argJ AV.argJ' at *
 cases h:(unA js x).closed js.length with
 |true=>simp
 |false=>rw[h] at hc;simp only[Bool.false_eq_true,if_false];exact toData'_ok hc
theorem argJ_rep {Γ:Env Unit} {s:AS Unit} {a:Act} {w:World} {η:List Value} (hr:Rel Γ s a w η) (js:List Nat):∀(xs:List AV) (vs:List Value),RepL w (Fok Γ w η s.hp) η s.hp xs vs→RepL w (Fok Γ w η s.hp) η s.hp (xs.map (AV.argJ js s.hp)) vs
 | [],[],_=>True.intro
 |x::xs,v::vs,h=>⟨by
   unfold AV.argJ
   split
   ·exact h.1
   ·exact(toData_rep hr.heap hr.mine h.1).lift,argJ_rep hr js xs vs h.2⟩
 | [],_::_,h=>h.elim
 |_::_,[],h=>h.elim
def embHp (js:List Nat):List Nat→List AObj→List AObj
 | [],_=>[]
 |j::l,H=>(match H[j]? with
  |some o=>unO js o
  |none=>.dead)::embHp js l H
theorem embHp_get {js:List Nat} {H:List AObj}:∀{l:List Nat} {i:Nat} {o:AObj},(embHp js l H)[i]?=some o→∃j,l[i]?=some j∧(H[j]?=none∨∃o',H[j]?=some o'∧o=unO js o')
 | [],i,o,h=>by simp[embHp] at h
 |j::l,0,o,h=>by
  simp only[embHp,List.getElem?_cons_zero,Option.some.injEq] at h
  refine⟨j,rfl,?_⟩
  split at h
  ·rename_i o' ho;exact .inr ⟨o',ho,h.symm⟩
  ·rename_i ho;exact .inl ho
 |j::l,i+1,o,h=>by
  simp only[embHp,List.getElem?_cons_succ] at h ⊢
  exact embHp_get h
theorem embHp_len {js:List Nat} {H:List AObj}:∀{l:List Nat},(embHp js l H).length=l.length
 | []=>rfl
 |j::l=>by simp[embHp,embHp_len (l:=l)]
def jsOk (n:Nat):List Nat→Bool
 | []=>true
 |j::js=>Nat.blt j n&&(!memJ j js&&jsOk n js)
where memJ (k:Nat):List Nat→Bool
 | []=>false
 |x::l=>Nat.beq x k||memJ k l
theorem memJ_get {k:Nat}:∀{l:List Nat} {i:Nat},l[i]?=some k→jsOk.memJ k l=true
 | [],i,h=>by simp at h
 |x::l,0,h=>by simp at h;subst h;simp[jsOk.memJ]
 |x::l,i+1,h=>by simp only[List.getElem?_cons_succ] at h;simp[jsOk.memJ,memJ_get h]
theorem nthN_get:∀{l:List Nat} {i:Nat},i<l.length→l[i]?=some (nthN l i)
 | [],i,h=>by simp at h
 |x::l,0,h=>rfl
 |x::l,i+1,h=>by simp only[List.getElem?_cons_succ,nthN];exact nthN_get (by simpa using h)
theorem jsOk_lt {n:Nat}:∀{js:List Nat},jsOk n js=true→∀i,i<js.length→nthN js i<n
 | [],_,i,h=>by simp at h
 |j::js,h,0,_=>by simp only[jsOk,Bool.and_eq_true] at h;exact Nat.le_of_ble_eq_true (show Nat.ble (j+1) n=true from h.1)
 |j::js,h,i+1,hi=>by simp only[jsOk,Bool.and_eq_true] at h;exact jsOk_lt h.2.2 i (by simpa using hi)
theorem jsOk_inj {n:Nat}:∀{js:List Nat},jsOk n js=true→∀i i',i<js.length→i' < js.length→nthN js i=nthN js i'→i=i'
 | [],_,i,i',h,_,_=>by simp at h
 |j::js,h,0,0,_,_,_=>rfl
 |j::js,h,0,i'+1,_,h2,he=>by
  simp only[jsOk,Bool.and_eq_true,Bool.not_eq_true'] at h
  have:=memJ_get (k:=j) (l:=js) (i:=i') (by rw[nthN_get (by simpa using h2)];exact congrArg some he.symm)
  rw[h.2.1] at this;cases this
 |j::js,h,i+1,0,h1,_,he=>by
  simp only[jsOk,Bool.and_eq_true,Bool.not_eq_true'] at h
  have:=memJ_get (k:=j) (l:=js) (i:=i) (by rw[nthN_get (by simpa using h1)];exact congrArg some he)
  rw[h.2.1] at this;cases this
 |j::js,h,i+1,i'+1,h1,h2,he=>by
  simp only[jsOk,Bool.and_eq_true] at h
  rw[jsOk_inj h.2.2 i i' (by simpa using h1) (by simpa using h2) he]
def reachAdd (r:Nat) (out:List Nat):List Nat:=(match jsOk.memJ r out with|true=>out|false=>out++[r])
mutual
def reachC (hp:List AObj):Nat→List Nat→AV→List Nat
 |0,out,_=>out
 |n+1,out,.ptr r _=>(match jsOk.memJ r out with
  |true=>out
  |false=>(match hp[r]? with
   |some (.box cs)=>reachAdd r (reachL hp n out cs)
   |some (.bld q _)=>reachAdd q (reachAdd r out)
   |_=>reachAdd r out))
 |_+1,out,.mp r=>reachAdd r out
 |n+1,out,.agg cs=>reachL hp n out cs
 |n+1,out,.tup cs=>reachL hp n out cs
 |n+1,out,.clo _ cs=>reachL hp n out cs
 |n+1,out,.mclo _ cs=>reachL hp n out cs
 |_+1,out,_=>out
def reachL (hp:List AObj):Nat→List Nat→List AV→List Nat
 |0,out,_=>out
 |_+1,out,[]=>out
 |n+1,out,x::l=>reachL hp n (reachC hp n out x) l
end
def embArgs (js:List Nat) (hp:List AObj) (args:List AV):List AV:=((mapD (AV.argJ' js hp) args).2).map (unA js)
def embOk (js:List Nat) (x:AV) (h:List AObj):Bool:=Nat.ble js.length h.length&&(x.closed h.length&&h.all (AObj.closed h.length))
def VEmb (C:VCfg) (js:List Nat) (l:List (Sh×List OSh)) (f:Nat) (args:List AV) (o:Oper) (s:AS Unit) (next:AS Unit→Prop):Prop:=
 okB (jsOk s.hp.length js&&((embArgs js s.hp args).all (AV.closed js.length)&&(embHp js js s.hp).all (AObj.closed js.length)))
  (conj (mapD (AV.argJ' js s.hp) args).1 (∃R:AV→List AObj→Prop,HFn C.P f (embArgs js s.hp args) (embHp js js s.hp) R∧∀(r:AV) (hp':List AObj),R r hp'→KAlts l r hp' fun x h=>okB (embOk js x h) (next (AS.put { s with hp:=backO (embG js s.hp.length) js.length h s.hp } o.dst (renA (embG js s.hp.length) x)))))
theorem VEmb.hfn {P:Program} {js:List Nat} {H:List AObj} {f:Nat} {args:List AV} {R:AV→List AObj→Prop} (hb:(jsOk H.length js&&((args.map (unA js)).all (AV.closed js.length)&&(embHp js js H).all (AObj.closed js.length)))=true)
  (hF:HFn P f (args.map (unA js)) (embHp js js H) R) (hR:∀r h,R r h→embOk js r h=true):HFn P f args H (fun r2 H2=>∃r h,R r h∧r2=renA (embG js H.length) r∧H2=backO (embG js H.length) js.length h H):=by
 simp only[Bool.and_eq_true] at hb
 obtain⟨h1,h2,h3⟩:=hb
 have hl:(embHp js js H).length=js.length:=embHp_len
 have hlt:∀i,i<js.length→embG js H.length i=nthN js i:=fun i hi=>by
  unfold embG;rw[show Nat.blt i js.length=true from Nat.ble_eq_true_of_le hi]
 have:=HFn.embed (g:=embG js H.length) (H:=H) hF (fun i o ho=>?_) (fun i i' hi hi' he=>?_) (fun i hi=>?_) (by rw[hl];exact h2) (by rw[hl];exact h3) (fun r h hr=>?_)
 ·rw[hl,map_un_re (fun x hx=>unA_re hx) args h2] at this
  exact this
 ·have hi:i<js.length:=by rw[←hl];exact(List.getElem?_eq_some_iff.1 ho).1
  obtain⟨j,hj,hc⟩:=embHp_get ho
  rw[nthN_get hi] at hj
  obtain rfl:=Option.some.inj hj
  rw[hlt i hi]
  have hc2:o.closed js.length=true:=List.all_eq_true.1 h3 o (List.mem_of_getElem? ho)
  rcases hc with hc|⟨o',ho',rfl⟩
  ·have:=jsOk_lt h1 i hi
   rw[List.getElem?_eq_getElem this] at hc;cases hc
  ·rw[ho',unO_re hc2]
 ·rw[hl] at hi hi'
  rw[hlt i hi,hlt i' hi'] at he
  exact jsOk_inj h1 i i' hi hi' he
 ·rw[hl] at hi ⊢
  unfold embG
  cases hb:Nat.blt i js.length with
  |true=>have:i+1≤js.length:=Nat.le_of_ble_eq_true hb;omega
  |false=>rfl
 ·have:=hR r h hr
  simp only[embOk,Bool.and_eq_true] at this
  rw[hl]
  exact⟨Nat.le_of_ble_eq_true this.1,this.2.1,this.2.2⟩
def VFrz (C:VCfg) (sh:Sh) (l:List Nat) (o:Oper) (s:AS Unit) (next:AS Unit→Prop):Prop:=
 conj (frzBs l s).1 (match callOf (frzBs l s).2 o.op with
  |some (f,args)=>conj (mapD (AV.toData' (frzBs l s).2.hp) args).1 (opn [] sh fun x=>PureIs C.P f (mapD (AV.toData' (frzBs l s).2.hp) args).2 x∧next ((frzBs l s).2.put o.dst x))
  |none=>False)
def mcallOf (s:AS Unit):Op→Option (Nat×List AV)
 | .call c=>(match c.callee with
  | .value x=>(match s.ev x with
   | .mclo f fst=>some (f,fst++c.args.toList.map s.ev)
   |_=>none)
  |_=>none)
 |_=>none
def VCallM (C:VCfg) (o:Oper) (s:AS Unit) (next:AS Unit→Prop):Prop:=
 match mcallOf s o.op with
 |some (f,args)=>(match sigAt C f o with
  | .emb l=>VEmb C (reachL s.hp 100 [] args) l f args o s next
  |_=>False)
 |none=>False
def VCall (C:VCfg) (o:Oper) (s:AS Unit) (next:AS Unit→Prop):Prop:=
 match callOf s o.op with
 |some (f,args)=>(match sigAt C f o with
  | .one sh=>conj (mapD (AV.toData' s.hp) args).1 (opn [] sh fun x=>PureIs C.P f (mapD (AV.toData' s.hp) args).2 x∧next (s.put o.dst x))
  | .clo f'=>conj (mapD (AV.toData' s.hp) args).1 (PureIs C.P f (mapD (AV.toData' s.hp) args).2 (.clo f' (boxed (mapD (AV.toData' s.hp) args).2))∧next (s.put o.dst (.clo f' (boxed (mapD (AV.toData' s.hp) args).2))))
  | .y _=>False
  | .frz sh=>VFrz C sh (heldBs args) o s next
  | .alts l=>conj (mapD (AV.toData' s.hp) args).1 (∃R:AV→Prop,Pure C.P f (mapD (AV.toData' s.hp) args).2 R∧∀r:AV,R r→KAltsP l r fun x=>next (s.put o.dst x))
  | .raw l=>conj (mapD (AV.argN' 0 s.hp) args).1 (∃R:AV→Prop,Pure C.P f (mapD (AV.argN' 0 s.hp) args).2 R∧∀r:AV,R r→KAltsP l r fun x=>next (s.put o.dst x))
  | .heap n l=>okB ((mapD (AV.argN' (s.hp.take n).length s.hp) args).2.all (AV.closed (s.hp.take n).length)&&(s.hp.take n).all (AObj.closed (s.hp.take n).length))
    (conj (mapD (AV.argN' (s.hp.take n).length s.hp) args).1 (∃R:AV→List AObj→Prop,HFn C.P f (mapD (AV.argN' (s.hp.take n).length s.hp) args).2 (s.hp.take n) R∧∀(r:AV) (hp':List AObj),R r hp'→KAlts l r hp' fun x h=>okB (Nat.beq h.length (s.hp.take n).length) (next (AS.put { s with hp:=h++s.hp.drop n } o.dst x))))
  | .fresh e size=>conj (mapD (AV.toData' s.hp) args).1 (∃els:List AV,MFn C.P f (mapD (AV.toData' s.hp) args).2 e size els∧next (AS.put { s with hp:=s.hp++[.mrow e size els] } o.dst (.own s.hp.length els.length)))
  | .emb l=>VEmb C (reachL s.hp 100 [] args) l f args o s next)
 |none=>VCallM C o s next
def dstB (nt:Nat):Option Nat→Bool
 |none=>true
 |some d=>Nat.blt d nt
theorem dstB_ok {nt:Nat} {d:Option Nat} (h:dstB nt d=true):dstOk nt d:=by
 cases d with
 |none=>trivial
 |some d=>exact Nat.le_of_ble_eq_true (show Nat.ble (d+1) nt=true from h)
def mtOp (tab:Nat→Option TD) (hp:List AObj) (ρ:Operand→AV):Op→Option (List Prop×AV×List AObj)
 | .call c=>(match c.callee,c.args.toList,c.argTypes.toList with
  | .builtin .append,[b,x],[T,T']=>if T=T' then(match tab T with
   |some d=>(match d.kind with
    | .slc e=>(match tab e,(ρ x).asSl' hp with
     |some d',some (cs,els2)=>if 0<d'.size then(match ρ b with
      | .clip []=>some (cs++[appOk d' (([]:List AV).length+els2.length) [] els2],.own hp.length ([]++els2).length,hp++[.mrow e d'.size ([]++els2)])
      |_=>none) else none
     |_,_=>none)
    |_=>none)
   |none=>none) else none
  |_,_,_=>none)
 |_=>none
theorem mtOp_ok {Γ:Env Unit} {s:AS Unit} (hok:Γ.Ok) {tab:Nat→Option TD} (htab:TabOk Γ.P tab) {o:Oper} {cs:List Prop} {r:AV} {hp':List AObj} (h:mtOp tab s.hp s.ev o.op=some (cs,r,hp')) (hc:allP cs):ERun Γ o s r hp':=by
 generalize ho:o.op=op at h
 unfold mtOp at h
 split at h
 ·split at h
  ·rename_i c b x T T' hcal hargs hty
   split at h
   ·rename_i heq
    subst heq
    split at h
    ·rename_i d hd
     split at h
     ·rename_i e hk
      split at h
      ·rename_i d' cs' els2 hd' hx
       split at h
       ·rename_i hsz
        split at h
        ·rename_i hb
         simp only[Option.some.injEq,Prod.mk.injEq] at h
         obtain⟨rfl,rfl,rfl⟩:=h
         rw[allP_append] at hc
         exact erun_appendM hok htab ho hcal hargs hty hd hk hd' (asSl'_ok hx hc.1) (els:=[]) (.inr hb) hsz (fun _=>rfl) hc.2.1
        ·cases h
       ·cases h
      ·cases h
     ·cases h
    ·cases h
   ·cases h
  ·cases h
 ·cases h
def extEff (C:VCfg) (o:Oper) (s:AS Unit) (next:AS Unit→Prop):Option Prop:=
 match callOf s o.op with
 |some (f,args)=>(match C.ext.1 f with
  |some x=>(match xrun x s.hp args with
   |some (r,hp')=>some (next (AS.put { s with hp:=hp' } o.dst r))
   |none=>none)
  |none=>none)
 |none=>none
theorem extEff_ok {C:VCfg} {Γ:Env Unit} (hok:Γ.Ok) (hP:C.P=Γ.P) {o:Oper} {s:AS Unit} {next:AS Unit→Prop} {p:Prop} (h:extEff C o s next=some p) (hp:p):∃r hp',ERun Γ o s r hp'∧next (AS.put { s with hp:=hp' } o.dst r):=by
 unfold extEff at h
 split at h
 ·rename_i f args hargs
  split at h
  ·rename_i x hx
   split at h
   ·rename_i r hp' hr
    obtain rfl:=Option.some.inj h
    have hX:=C.ext.2 f x hx
    rw[hP] at hX
    rw[callOf_eq] at hargs
    unfold callArgs at hargs
    split at hargs
    ·rename_i c hc
     split at hargs
     ·rename_i y hy
      split at hargs
      ·rename_i f' caps hcl
       simp only[Option.some.injEq,Prod.mk.injEq] at hargs
       obtain⟨rfl,rfl⟩:=hargs
       exact⟨r,hp',xrun_sound hok hX hc hy hcl hr,hp⟩
      ·cases hargs
     ·cases hargs
    ·cases hargs
   ·cases h
  ·cases h
 ·cases h
def mtEff (C:VCfg) (o:Oper) (s:AS Unit) (next:AS Unit→Prop):Option Prop:=
 match C.mt with
 |true=>(match mtOp C.tab s.hp s.ev o.op with
  |some (cs,r,hp')=>some (conj cs (next (AS.put { s with hp:=hp' } o.dst r)))
  |none=>none)
 |false=>none
theorem allP_mem:∀{l:List Prop},allP l→∀p∈l,p
 |c::l,h,p,hp=>by
  rcases List.mem_cons.1 hp with rfl|hp
  ·exact h.1
  ·exact allP_mem h.2 p hp
def KStep (C:VCfg) (o:Oper) (s:AS Unit) (next:AS Unit→Prop):Prop:=
 match dstB C.nt o.dst with
 |false=>False
 |true=>(match nilCmp C.tab s.ev o.op with
  |some (els,b0)=>∀b:Bool,(els≠[]→b=!b0)→next (s.put o.dst (.prim (.bool b)))
  |none=>(match xval C.tab s.ev o.op with
   |some r=>next (s.put o.dst r)
   |none=>(match VVal C.tab C.sht s.hp s.ev o.op (fun r=>next (s.put o.dst r)) with
    |some p=>p
    |none=>(match mtEff C o s next with
     |some p=>p
     |none=>(match strOp C.tab s.hp s.ev o.op with
      |some (cs,r,hp')=>conj cs (next (AS.put { s with hp:=hp' } o.dst r))
      |none=>(match VEff C.tab s.hp s.ev o.op (fun r hp'=>next (AS.put { s with hp:=hp' } o.dst r)) with
      |some p=>p
      |none=>(match extEff C o s next with
       |some p=>p
       |none=>(match xtra C.tab s.ev o.op with
        |some r=>next (s.put o.dst r)
        |none=>VCall C o s next))))))))
variable {Γ:Env Unit} {s s':AS Unit} {a:Act} {w w':World} {η:List Value} {hp:List AObj}
theorem VCallM.sound {C:VCfg} (hok:Γ.Ok) (hP:C.P=Γ.P) {o:Oper} (hd:dstOk Γ.nt o.dst) {next K:AS Unit→Prop} (h:VCallM C o s next) (hn:∀s,next s→K s):ACall Γ o s K:=by
 unfold VCallM at h
 split at h
 ·rename_i f args hargs
  unfold mcallOf at hargs
  split at hargs
  ·rename_i c hc
   split at hargs
   ·rename_i x hx
    split at hargs
    ·rename_i f' fst hcl
     simp only[Option.some.injEq,Prod.mk.injEq] at hargs
     obtain⟨rfl,rfl⟩:=hargs
     split at h
     ·unfold VEmb at h
      obtain⟨hb,h⟩:=okB_ok h
      rw[conj_iff] at h
      obtain⟨hcs,R,g1,g2⟩:=h
      rename_i l _
      generalize reachL s.hp 100 [] (fst++List.map s.ev c.args.toList)=js at *
      have hargs:=mapD_ok (g:=AV.argJ js s.hp) (fun x=>argJ'_ok) _ hcs
      rw[hP] at g1
      have hfr:=VEmb.hfn (R:=fun r h'=>R r h'∧embOk js r h'=true) hb (g1.mono fun r h' hr=>⟨hr,(okB_ok (KAlts_ok (g2 r h' hr))).1⟩) (fun r h' hr=>hr.2)
      exact ACall.heapM hok hc hx hcl hfr (fun a w η us hr h=>by rw[←hargs];exact argJ_rep hr _ _ us h) hd fun r hp' hr=>by
       obtain⟨r',h',hr,rfl,rfl⟩:=hr
       exact hn _ (okB_ok (KAlts_ok (g2 r' h' hr.1))).2
     ·exact h.elim
    ·cases hargs
   ·cases hargs
  ·cases hargs
 ·exact h.elim
theorem VFrz.sound {C:VCfg} (hok:Γ.Ok) (hP:C.P=Γ.P) {sh:Sh} {l:List Nat} {o:Oper} (hd:dstOk Γ.nt o.dst) {next K:AS Unit→Prop} (h:VFrz C sh l o s next) (hn:∀s,next s→K s):ACall Γ o s K:=by
 unfold VFrz at h
 rw[conj_iff] at h
 obtain⟨hc,h⟩:=h
 have hw:=frzBs_ok (Γ:=Γ) hok l s hc
 intro a w η Kc Qc hk hr
 obtain⟨η2,hr2⟩:=hw a w η hr
 refine(?_:ACall Γ o (frzBs l s).2 K) a w η2 Kc Qc hk hr2
 split at h
 ·rename_i f args hargs
  rw[callOf_eq] at hargs
  unfold callArgs at hargs
  split at hargs
  ·rename_i c hc
   split at hargs
   ·rename_i x hx
    split at hargs
    ·rename_i f' caps hcl
     simp only[Option.some.injEq,Prod.mk.injEq] at hargs
     obtain⟨rfl,rfl⟩:=hargs
     rw[conj_iff] at h
     obtain⟨hcs,h⟩:=h
     obtain⟨x',hP',hnx⟩:=opn_ex h
     rw[←mapD_ok (g:=AV.toData (frzBs l s).2.hp) (fun x=>toData'_ok) _ hcs,hP] at hP'
     exact ACall.pure hok hc hx hcl hP' hd fun r hr=>by rw[hr];exact hn _ hnx
    ·cases hargs
   ·cases hargs
  ·cases hargs
 ·exact h.elim
theorem KStep.sound {C:VCfg} (hok:Γ.Ok) (hP:C.P=Γ.P) (htab:TabOk Γ.P C.tab) (hnt:C.nt=Γ.nt) {o:Oper} {next K:AS Unit→Prop} (h:KStep C o s next) (hn:∀s,next s→K s):ACall Γ o s K:=by
 unfold KStep at h
 split at h
 ·exact h.elim
 rename_i hd
 have hd:=dstB_ok hd
 rw[hnt] at hd
 split at h
 ·rename_i els b0 hx
  exact ACall.nil htab hx hd fun b hb=>hn _ (h b hb)
 split at h
 ·rename_i r hx
  exact ACall.val hok (xval_sound htab hx) hd (hn _ h)
 split at h
 ·rename_i p hp
  obtain⟨c,r,h1,h2,h3⟩:=VVal_ok hp h
  exact ACall.val hok (pval_sound hok htab h1 h2) hd (hn _ h3)
 split at h
 ·rename_i p hp
  unfold mtEff at hp
  split at hp
  ·split at hp
   ·rename_i cs r hp' hm
    obtain rfl:=Option.some.inj hp
    rw[conj_iff] at h
    exact ACall.eff (mtOp_ok hok htab hm h.1) hd (hn _ h.2)
   ·cases hp
  ·cases hp
 split at h
 ·rename_i cs r hp' hs
  rw[conj_iff] at h
  exact ACall.eff (strOp_ok hok htab hs (allP_mem h.1)) hd (hn _ h.2)
 split at h
 ·rename_i p hp
  obtain⟨c,r,hp',h1,h2,h3⟩:=VEff_ok hp h
  exact ACall.eff (heff_sound hok htab h1 h2) hd (hn _ h3)
 split at h
 ·rename_i p hp
  obtain⟨r,hp',h1,h2⟩:=extEff_ok hok hP hp h
  exact ACall.eff h1 hd (hn _ h2)
 split at h
 ·rename_i r hx
  exact ACall.val hok (xtra_sound htab hx) hd (hn _ h)
 unfold VCall at h
 split at h
 ·rename_i f args hargs
  rw[callOf_eq] at hargs
  unfold callArgs at hargs
  split at hargs
  ·rename_i c hc
   split at hargs
   ·rename_i x hx
    split at hargs
    ·rename_i f' caps hcl
     simp only[Option.some.injEq,Prod.mk.injEq] at hargs
     obtain⟨rfl,rfl⟩:=hargs
     split at h
     ·rw[conj_iff] at h
      obtain⟨hcs,h⟩:=h
      obtain⟨x',hP',hnx⟩:=opn_ex h
      rw[←mapD_ok (g:=AV.toData s.hp) (fun x=>toData'_ok) _ hcs,hP] at hP'
      exact ACall.pure hok hc hx hcl hP' hd fun r hr=>by rw[hr];exact hn _ hnx
     ·rw[conj_iff] at h
      obtain⟨hcs,hP',hnx⟩:=h
      rw[←mapD_ok (g:=AV.toData s.hp) (fun x=>toData'_ok) _ hcs] at hP' hnx
      rw[hP] at hP'
      exact ACall.pure hok hc hx hcl hP' hd fun r hr=>by rw[hr];exact hn _ hnx
     ·exact h.elim
     ·exact VFrz.sound hok hP hd h hn
     ·rw[conj_iff] at h
      obtain⟨hcs,R,hP',hnx⟩:=h
      rw[←mapD_ok (g:=AV.toData s.hp) (fun x=>toData'_ok) _ hcs,hP] at hP'
      exact ACall.pure hok hc hx hcl hP' hd fun r hr=>hn _ (KAltsP_ok (hnx r hr))
     ·rw[conj_iff] at h
      obtain⟨hcs,R,hP',hnx⟩:=h
      have hargs:=mapD_ok (g:=AV.argN 0 s.hp) (fun x=>argN'_ok) _ hcs
      rw[hP] at hP'
      exact ACall.pureW hok hc hx hcl hP' (fun a w η us hr h=>by rw[←hargs];exact argN0_rep hr _ us h) hd fun r hr=>hn _ (KAltsP_ok (hnx r hr))
     ·rename_i n l hsig
      obtain⟨hb,h⟩:=okB_ok h
      rw[conj_iff] at h
      obtain⟨hcs,R,g1,g2⟩:=h
      rw[Bool.and_eq_true] at hb
      have hargs:=mapD_ok (g:=AV.argN (s.hp.take n).length s.hp) (fun x=>argN'_ok) _ hcs
      rw[hP] at g1
      have hfr:=HFn.frame (more:=s.hp.drop n) (R:=fun r h'=>R r h'∧h'.length=(s.hp.take n).length) (g1.mono fun r h' hr=>⟨hr,Nat.eq_of_beq_eq_true (okB_ok (KAlts_ok (g2 r h' hr))).1⟩) (fun r h' hr=>hr.2) hb.1 hb.2
      rw[List.take_append_drop] at hfr
      exact ACall.heapW hok hc hx hcl hfr (fun a w η us hr h=>by rw[←hargs];exact argN_rep hr _ _ us h) hd fun r hp' hr=>by
       obtain⟨h',rfl,hr,_⟩:=hr
       exact hn _ (okB_ok (KAlts_ok (g2 r h' hr))).2
     ·rw[conj_iff] at h
      obtain⟨hcs,els,hP',hnx⟩:=h
      rw[←mapD_ok (g:=AV.toData s.hp) (fun x=>toData'_ok) _ hcs,hP] at hP'
      exact ACall.fresh hok hc hx hcl hP' hd (hn _ hnx)
     ·unfold VEmb at h
      obtain⟨hb,h⟩:=okB_ok h
      rw[conj_iff] at h
      obtain⟨hcs,R,g1,g2⟩:=h
      rename_i l _
      generalize reachL s.hp 100 [] (List.map s.ev c.args.toList++caps)=js at *
      have hargs:=mapD_ok (g:=AV.argJ js s.hp) (fun x=>argJ'_ok) _ hcs
      rw[hP] at g1
      have hfr:=VEmb.hfn (R:=fun r h'=>R r h'∧embOk js r h'=true) hb (g1.mono fun r h' hr=>⟨hr,(okB_ok (KAlts_ok (g2 r h' hr))).1⟩) (fun r h' hr=>hr.2)
      exact ACall.heapW hok hc hx hcl hfr (fun a w η us hr h=>by rw[←hargs];exact argJ_rep hr _ _ us h) hd fun r hp' hr=>by
       obtain⟨r',h',hr,rfl,rfl⟩:=hr
       exact hn _ (okB_ok (KAlts_ok (g2 r' h' hr.1))).2
    ·cases hargs
   ·cases hargs
  ·cases hargs
 ·exact VCallM.sound hok hP hd h hn
def KG (l:List Oper) (o:Oper) (s:AS Unit) (run skip:AS Unit→Prop):Prop:=
 match o.guard with
 |none=>run s
 |some (j,want)=>(match (l[j]?).bind (·.dst) with
  |some d=>(match s.tmps d with
   | .prim (.bool b)=>ITE b (match want with|true=>run (s.put (some d) (.prim (.bool true)))|false=>skip (s.put (some d) (.prim (.bool true))))
     (match want with|true=>skip (s.put (some d) (.prim (.bool false)))|false=>run (s.put (some d) (.prim (.bool false))))
   | .prim (.tuple _)=>skip s
   |_=>False)
  |none=>False)
theorem put_self {d:Nat} {x:AV} (h:s.tmps d=x):s.put (some d) x=s:=by
 cases s with
 |mk f hp g=>
  simp only[AS.put]
  congr 1
  funext t
  rw[upd_eq]
  split
  ·rename_i ht;subst ht;exact h.symm
  ·rfl
theorem KG.cases {l:List Oper} {o:Oper} {run skip:AS Unit→Prop} (h:KG l o s run skip):
  (o.guard=none∧run s)∨(∃j want b,o.guard=some (j,want)∧gslot l.toArray s j=some (some b)∧((b=want∧run s)∨(¬b=want∧skip s)))∨(∃j want,o.guard=some (j,want)∧gslot l.toArray s j=some none∧skip s):=by
 unfold KG at h
 split at h
 ·rename_i hg;exact .inl ⟨hg,h⟩
 ·rename_i j want hg
  split at h
  ·rename_i d hd
   split at h
   ·rename_i b hb
    refine .inr (.inl ⟨j,want,b,hg,?_,?_⟩)
    ·unfold gslot
     simp only[List.getElem?_toArray,hd,hb]
    ·have:=h.elim
     cases b with
     |true=>
      have h1:=this.1 rfl
      rw[put_self hb] at h1
      cases want with
      |true=>exact .inl ⟨rfl,h1⟩
      |false=>exact .inr ⟨by simp,h1⟩
     |false=>
      have h1:=this.2 rfl
      rw[put_self hb] at h1
      cases want with
      |true=>exact .inr ⟨by simp,h1⟩
      |false=>exact .inl ⟨rfl,h1⟩
   ·rename_i v hb
    refine .inr (.inr ⟨j,want,hg,?_,h⟩)
    unfold gslot
    simp only[List.getElem?_toArray,hd,hb]
   ·exact h.elim
  ·exact h.elim
def KRun (C:VCfg) (l0:List Oper) (K:AS Unit→Prop):List Oper→AS Unit→Prop
 | [],s=>K s
 |o::rest,s=>KG l0 o s (fun s=>KStep C o s (KRun C l0 K rest)) (fun s=>match dstB C.nt o.dst with|true=>KRun C l0 K rest (s.put o.dst (.prim (.tuple #[])))|false=>False)
theorem KRun.sound {C:VCfg} (hok:Γ.Ok) (hP:C.P=Γ.P) (htab:TabOk Γ.P C.tab) (hnt:C.nt=Γ.nt) {l0:List Oper} {K:AS Unit→Prop}:∀(l:List Oper) (s:AS Unit),KRun C l0 K l s→AList Γ l0.toArray K l s:=by
 intro l
 induction l with
 |nil=>intro s h a w η Qc hQ hr;exact hQ s a w η h hr
 |cons o rest ih=>
  intro s h
  have skip:(match dstB C.nt o.dst with|true=>KRun C l0 K rest (s.put o.dst (.prim (.tuple #[])))|false=>False)→dstOk Γ.nt o.dst∧AList Γ l0.toArray K rest (s.put o.dst (.prim (.tuple #[]))):=by
   intro h
   split at h
   ·rename_i hd
    exact⟨by rw[←hnt];exact dstB_ok hd,ih _ h⟩
   ·exact h.elim
  rcases KG.cases h with⟨hg,h⟩|⟨j,want,b,hg,hb,⟨hbw,h⟩|⟨hbw,h⟩⟩|⟨j,want,hg,hb,h⟩
  ·exact AList.step (fun a w η _=>by simp[Region.wanted,hg]) (KStep.sound hok hP htab hnt h ih)
  ·exact AList.step (fun a w η hr=>by simp[Region.wanted,hg,gslot_yielded hr hb,hbw]) (KStep.sound hok hP htab hnt h ih)
  ·obtain⟨h1,h2⟩:=skip h
   exact AList.skip (fun a w η hr=>by simp[Region.wanted,hg,gslot_yielded hr hb,hbw]) h1 h2
  ·obtain⟨h1,h2⟩:=skip h
   exact AList.skip (fun a w η hr=>by simp[Region.wanted,hg,gslot_yielded hr hb]) h1 h2
def KDStep (C:VCfg) (o:Oper) (s:AS Unit) (next:AS Unit→Prop):Prop:=
 match VVal C.tab C.sht s.hp s.ev o.op (fun r=>next (s.put o.dst r)) with
 |some p=>p
 |none=>(match callOf s o.op with
  |some (f,args)=>(match sigAt C f o with
   | .one sh=>conj (mapD (AV.toData' s.hp) args).1 (opn [] sh fun x=>PureIs C.P f (mapD (AV.toData' s.hp) args).2 x∧next (s.put o.dst x))
   |_=>False)
  |none=>False)
theorem KDStep.sound {C:VCfg} (hP:C.P=Γ.P) {o:Oper} {next N R:AS Unit→Prop} (h:KDStep C o s next) (h1:∀s,next s→N s) (h2:∀s,next s→R s):DStep Γ C.tab o s N R:=by
 unfold KDStep at h
 split at h
 ·rename_i p hp
  obtain⟨c,r,g1,g2,g3⟩:=VVal_ok hp h
  unfold DStep
  rw[g1]
  exact⟨g2,h1 _ g3⟩
 ·split at h
  ·rename_i f args hargs
   split at h
   rotate_left
   ·exact h.elim
   rw[conj_iff] at h
   obtain⟨hcs,h⟩:=h
   obtain⟨x',hP',hnx⟩:=opn_ex h
   rw[←mapD_ok (g:=AV.toData s.hp) (fun x=>toData'_ok) _ hcs,hP] at hP'
   rw[callOf_eq] at hargs
   unfold callArgs at hargs
   split at hargs
   ·rename_i c hc
    split at hargs
    ·rename_i x hx
     split at hargs
     ·rename_i f' caps hcl
      simp only[Option.some.injEq,Prod.mk.injEq] at hargs
      obtain⟨rfl,rfl⟩:=hargs
      unfold DStep
      rw[hc]
      have hpn:pval C.tab s.hp s.ev (.call c)=none:=by simp only[pval,hx]
      have hpa:pureArgs s (.call c)=some (f',(c.args.toList.map s.ev++caps).map (AV.toData s.hp)):=by simp only[pureArgs,hx,hcl]
      rw[hpn,hpa]
      exact⟨x',hP',h2 _ hnx⟩
     ·cases hargs
    ·cases hargs
   ·cases hargs
  ·exact h.elim
def KRunD (C:VCfg) (l0:List Oper) (K:AS Unit→Prop):List Oper→AS Unit→Prop
 | [],s=>K s
 |o::rest,s=>(match dstB C.nt o.dst with
  |false=>False
  |true=>(match isEff o.op with
   |true=>(match o.guard with
    |none=>(match VEff C.tab s.hp s.ev o.op (fun r hp'=>KRunD C l0 K rest (AS.put { s with hp:=hp' } o.dst r)) with
     |some p=>p
     |none=>False)
    |some _=>False)
   |false=>KG l0 o s (fun s=>KDStep C o s (KRunD C l0 K rest)) (fun s=>KRunD C l0 K rest (s.put o.dst (.prim (.tuple #[]))))))
theorem KRunD.sound {C:VCfg} (hok:Γ.Ok) (hP:C.P=Γ.P) (htab:TabOk Γ.P C.tab) (hnt:C.nt=Γ.nt) {l0:List Oper} {K:AS Unit→Prop}:∀(l:List Oper) (s:AS Unit),KRunD C l0 K l s→ARunD Γ C.tab C.nt l0.toArray K l s:=by
 intro l
 induction l with
 |nil=>intro s h;exact h
 |cons o rest ih=>
  intro s h
  simp only[KRunD] at h
  simp only[ARunD]
  split at h
  ·exact h.elim
  rename_i hd
  have hd:=dstB_ok hd
  split at h
  ·rename_i he
   rw[if_pos he]
   split at h
   ·rename_i hg
    split at h
    ·rename_i p hp
     obtain⟨c,r,hp',g1,g2,g3⟩:=VEff_ok hp h
     rw[g1]
     exact⟨hd,hg,g2,ih _ g3⟩
    ·exact h.elim
   ·exact h.elim
  ·rename_i he
   rw[if_neg (by rw[he];simp)]
   refine⟨hd,?_⟩
   have hrest:∀s,KRunD C l0 K rest s→ALex Γ l0.toArray K rest s:=fun s h=>ARunD.sound hok htab hnt rest s (ih s h)
   rcases KG.cases h with⟨hg,h⟩|⟨j,want,b,hg,hb,⟨hbw,h⟩|⟨hbw,h⟩⟩|⟨j,want,hg,hb,h⟩
   ·rw[hg]
    exact KDStep.sound hP h ih hrest
   ·rw[hg]
    dsimp only
    rw[hb]
    exact⟨fun _=>KDStep.sound hP h ih hrest,fun hn=>(hn hbw).elim⟩
   ·rw[hg]
    dsimp only
    rw[hb]
    exact⟨fun hn=>(hbw hn).elim,fun _=>ih _ h⟩
   ·rw[hg]
    dsimp only
    rw[hb]
    exact ih _ h
def hvR (ρ:Operand→AV):Op→Option Nat
 | .store _ p _=>(match ρ p with | .ptr r _=>some r | .mptr r _ _ _=>some r|_=>none)
 | .mapUpdate _ m _ _=>(match ρ m with | .mp r=>some r|_=>none)
 | .call c=>(match c.args.toList with
  |b::_=>(match ρ b with | .own r _=>some r|_=>none)
  | []=>none)
 |_=>none
theorem hvR_ok {tab:Nat→Option TD} {hp hp':List AObj} {ρ:Operand→AV} {op:Op} {c:Prop} {r:AV} (h:heff tab hp ρ op=some (c,r,hp')):
  (∃o,hp'=hp++[o])∨∃q o,hvR ρ op=some q∧hp'=hp.set q o:=by
 cases op with
 |alloc T=>
  simp only[heff] at h
  split at h
  ·simp only[Option.some.injEq,Prod.mk.injEq] at h;exact .inl ⟨_,h.2.2.symm⟩
  ·cases h
 |box T x=>
  simp only[heff] at h
  split at h
  ·simp only[Option.some.injEq,Prod.mk.injEq] at h;exact .inl ⟨_,h.2.2.symm⟩
  ·cases h
 |store T p x=>
  simp only[heff] at h
  split at h
  ·rename_i d r' o hd hp1
   split at h
   ·split at h
    ·simp only[Option.some.injEq,Prod.mk.injEq] at h
     exact .inr ⟨r',_,by simp only[hvR,hp1],h.2.2.symm⟩
    ·cases h
   ·cases h
  ·rename_i d r' m i z hd hp1
   split at h
   ·split at h
    ·simp only[Option.some.injEq,Prod.mk.injEq] at h
     exact .inr ⟨r',_,by simp only[hvR,hp1],h.2.2.symm⟩
    ·cases h
   ·cases h
  ·cases h
 |makeSlice T l c=>
  simp only[heff] at h
  split at h
  ·split at h
   ·split at h
    ·simp only[Option.some.injEq,Prod.mk.injEq] at h;exact .inl ⟨_,h.2.2.symm⟩
    ·cases h
   ·cases h
  ·cases h
 |makeMap T x=>
  cases x with
  |some x=>simp[heff] at h
  |none=>
   simp only[heff] at h
   split at h
   ·split at h
    ·split at h
     ·split at h
      ·simp only[Option.some.injEq,Prod.mk.injEq] at h;exact .inl ⟨_,h.2.2.symm⟩
      ·simp only[Option.some.injEq,Prod.mk.injEq] at h;exact .inl ⟨_,h.2.2.symm⟩
     ·cases h
    ·cases h
   ·cases h
 |mapUpdate T m k x=>
  simp only[heff] at h
  split at h
  ·rename_i d r' a v hd hm hk hx
   split at h
   ·split at h
    ·split at h
     ·simp only[Option.some.injEq,Prod.mk.injEq] at h
      exact .inr ⟨r',_,by simp only[hvR,hm],h.2.2.symm⟩
     ·cases h
    ·cases h
   ·cases h
  ·rename_i d r' a v hd hm hk hx
   split at h
   ·split at h
    ·split at h
     ·simp only[Option.some.injEq,Prod.mk.injEq] at h
      exact .inr ⟨r',_,by simp only[hvR,hm],h.2.2.symm⟩
     ·cases h
    ·cases h
   ·cases h
  ·cases h
 |call c=>
  simp only[heff] at h
  split at h
  ·rename_i b x T T' hb hl hT
   split at h
   ·split at h
    ·split at h
     ·split at h
      ·split at h
       ·simp only[Option.some.injEq,Prod.mk.injEq] at h;exact .inl ⟨_,h.2.2.symm⟩
       ·simp only[Option.some.injEq,Prod.mk.injEq] at h;exact .inl ⟨_,h.2.2.symm⟩
       ·rename_i r' n hbv
        split at h
        ·split at h
         ·simp only[Option.some.injEq,Prod.mk.injEq] at h
          exact .inr ⟨r',_,by simp only[hvR,hl,hbv],h.2.2.symm⟩
         ·cases h
        ·cases h
       ·cases h
      ·cases h
     ·cases h
    ·cases h
   ·cases h
  ·cases h
 |_=>simp[heff] at h
theorem ChgL.same (l:List Nat):∀(hp:List AObj) (q:Nat) (more:List AObj),ChgL l q hp (hp++more)
 | [],_,_=>True.intro
 |_::hp,q,more=>⟨.inr rfl,ChgL.same l hp (q+1) more⟩
theorem ChgL.refl (l:List Nat) (hp:List AObj) (q:Nat):ChgL l q hp hp:=by
 have:=ChgL.same l hp q []
 rwa [List.append_nil] at this
theorem ChgL.set (l:List Nat):∀(hp:List AObj) (q r:Nat) (o:AObj),q+r∈l→ChgL l q hp (hp.set r o)
 | [],_,_,_,_=>True.intro
 |_::hp,q,0,o,h=>⟨.inl h,ChgL.refl l hp (q+1)⟩
 |_::hp,q,r+1,o,h=>⟨.inr rfl,ChgL.set l hp (q+1) r o (by rw[show q+1+r=q+(r+1) from by omega];exact h)⟩
def memN:List Nat→Nat→Bool
 | [],_=>false
 |x::l,k=>(match Nat.beq x k with|true=>true|false=>memN l k)
theorem memN_ok:∀{l:List Nat} {k:Nat},memN l k=true→k∈l
 | [],_,h=>by cases h
 |x::l,k,h=>by
  simp only[memN] at h
  split at h
  ·rename_i hx;rw[Nat.eq_of_beq_eq_true hx];exact List.mem_cons_self
  ·exact List.mem_cons_of_mem _ (memN_ok h)
def nthO:List (Option (List Nat))→Nat→Option (List Nat)
 | [],_=>none
 |x::_,0=>x
 |_::l,n+1=>nthO l n
theorem nthO_eq:∀(l:List (Option (List Nat))) (n:Nat),nthO l n=l.getD n none
 | [],n=>by simp[nthO]
 |x::l,0=>by simp[nthO]
 |x::l,n+1=>by simp only[nthO,nthO_eq l n,List.getD_cons_succ]
def chgB (m:Option (List Nat)) (ρ:Operand→AV) (op:Op):Bool:=
 match m with
 |none=>true
 |some l=>(match hvR ρ op with
  |none=>true
  |some q=>memN l q)
theorem chgB_ok {tab:Nat→Option TD} {hp hp':List AObj} {ρ:Operand→AV} {op:Op} {c:Prop} {r:AV} {m:Option (List Nat)} (hb:chgB m ρ op=true) (h:heff tab hp ρ op=some (c,r,hp')):
  ∀l,m=some l→ChgL l 0 hp hp':=by
 intro l hm
 subst hm
 ·rcases hvR_ok h with⟨o,rfl⟩|⟨q,o,hq,rfl⟩
  ·exact ChgL.same l hp 0 [o]
  ·simp only[chgB,hq] at hb
   exact ChgL.set l hp 0 q o (by rw[Nat.zero_add];exact memN_ok hb)
def KDStepU (C:VCfg) (m:Option (List Nat)) (o:Oper) (s:AS Unit) (next:AS Unit→Prop):Prop:=
 match heapless o.op with
 |true=>(match VVal C.tab C.sht s.hp s.ev o.op (fun r=>next (s.put o.dst r)) with
  |some p=>p
  |none=>False)
 |false=>(match m with
  |none=>KDStep C o s next
  |some K=>okB ((opsList o.op).all fun x=>(s.ev x).closed (kill K s.hp).length) (okB ((kill K s.hp).all fun ob=>AObj.closed (kill K s.hp).length ob)
   (match VVal C.tab C.sht (kill K s.hp) s.ev o.op (fun r=>okB (r.held (kill K s.hp)) (next (s.put o.dst r))) with
   |some p=>p
   |none=>(match callOf s o.op with
    |some (f,args)=>(match sigAt C f o with
     | .one sh=>conj (mapD (AV.toData' (kill K s.hp)) args).1 (opn [] sh fun x=>PureIs C.P f (mapD (AV.toData' (kill K s.hp)) args).2 x∧okB (x.held (kill K s.hp)) (next (s.put o.dst x)))
     |_=>False)
    |none=>False))))
theorem callOf_pure {s:AS Unit} {op:Op} {f:Nat} {args:List AV} (h:callOf s op=some (f,args)) (tab:Nat→Option TD) (hp:List AObj):
  pval tab hp s.ev op=none∧pureArgs { s with hp:=hp } op=some (f,args.map (AV.toData hp)):=by
 rw[callOf_eq] at h
 unfold callArgs at h
 split at h
 ·rename_i c
  split at h
  ·rename_i x hx
   split at h
   ·rename_i f' caps hcl
    simp only[Option.some.injEq,Prod.mk.injEq] at h
    obtain⟨rfl,rfl⟩:=h
    refine⟨by simp only[pval,hx],?_⟩
    have hcl':(AS.ev { s with hp:=hp } x)=.clo f' caps:=by rw[←hcl];cases x<;>rfl
    have hm:c.args.toList.map (AS.ev { s with hp:=hp })=c.args.toList.map s.ev:=List.map_congr_left fun y _=>by cases y<;>rfl
    simp only[pureArgs,hx,hcl',hm]
   ·cases h
  ·cases h
 ·cases h
theorem KDStepU.sound {C:VCfg} (hP:C.P=Γ.P) {m:Option (List Nat)} {o:Oper} {next N R:AS Unit→Prop} (h:KDStepU C m o s next) (h1:∀s,next s→N s) (h2:∀s,next s→R s):DStepU Γ C.tab m o s N R:=by
 unfold KDStepU at h
 unfold DStepU
 split at h
 ·rename_i hh
  rw[if_pos hh]
  split at h
  ·rename_i p hp
   obtain⟨c,r,g1,g2,g3⟩:=VVal_ok hp h
   rw[g1]
   exact⟨g2,h1 _ g3⟩
  ·exact h.elim
 ·rename_i hh
  rw[if_neg (by rw[hh];simp)]
  cases m with
  |none=>exact KDStep.sound hP h h1 h2
  |some K=>
   dsimp only at h ⊢
   obtain⟨hc1,h⟩:=okB_ok h
   obtain⟨hc2,h⟩:=okB_ok h
   refine⟨hc1,fun ob hob=>List.all_eq_true.1 hc2 ob hob,?_⟩
   split at h
   ·rename_i p hp
    obtain⟨c,r,g1,g2,g3⟩:=VVal_ok hp h
    obtain⟨g4,g5⟩:=okB_ok g3
    rw[g1]
    exact⟨g2,g4,h1 _ g5⟩
   ·split at h
    ·rename_i f args hargs
     split at h
     rotate_left
     ·exact h.elim
     rw[conj_iff] at h
     obtain⟨hcs,h⟩:=h
     obtain⟨x',hP',hnx⟩:=opn_ex h
     obtain⟨g4,g5⟩:=okB_ok hnx
     rw[←mapD_ok (g:=AV.toData (kill K s.hp)) (fun x=>toData'_ok) _ hcs,hP] at hP'
     obtain⟨q1,q2⟩:=callOf_pure hargs C.tab (kill K s.hp)
     rw[q1,q2]
     exact⟨x',hP',g4,h2 _ g5⟩
    ·exact h.elim
def KRunU (C:VCfg) (l0:List Oper) (Cl M:List (Option (List Nat))) (K:AS Unit→Prop):Nat→List Oper→AS Unit→Prop
 |_,[],s=>K s
 |k,o::rest,s=>(match dstB C.nt o.dst with
  |false=>False
  |true=>(match isEff o.op with
   |true=>(match o.guard with
    |none=>okB (chgB (nthO Cl k) s.ev o.op) (match VEff C.tab s.hp s.ev o.op (fun r hp'=>KRunU C l0 Cl M K (k+1) rest (AS.put { s with hp:=hp' } o.dst r)) with
     |some p=>p
     |none=>False)
    |some _=>False)
   |false=>KG l0 o s (fun s=>KDStepU C (nthO M k) o s (KRunU C l0 Cl M K (k+1) rest)) (fun s=>KRunU C l0 Cl M K (k+1) rest (s.put o.dst (.prim (.tuple #[]))))))
theorem KRunU.sound {C:VCfg} (_hok:Γ.Ok) (hP:C.P=Γ.P) (htab:TabOk Γ.P C.tab) (hnt:C.nt=Γ.nt) {l0:List Oper} {Cl M:List (Option (List Nat))} {K:AS Unit→Prop}:∀(l:List Oper) (k:Nat) (s:AS Unit),KRunU C l0 Cl M K k l s→ARunU Γ C.tab C.nt l0.toArray Cl M K k l s:=by
 intro l
 induction l with
 |nil=>intro k s h;exact h
 |cons o rest ih=>
  intro k s h
  simp only[KRunU] at h
  simp only[ARunU]
  split at h
  ·exact h.elim
  rename_i hd
  have hd:=dstB_ok hd
  split at h
  ·rename_i he
   rw[if_pos he]
   split at h
   ·rename_i hg
    obtain⟨hch,h⟩:=okB_ok h
    split at h
    ·rename_i p hp
     obtain⟨c,r,hp',g1,g2,g3⟩:=VEff_ok hp h
     have:=chgB_ok hch g1
     rw[nthO_eq] at this
     rw[g1]
     refine⟨hd,hg,g2,?_,ih _ _ g3⟩
     split
     ·trivial
     ·rename_i l hl;exact this l hl
    ·exact h.elim
   ·exact h.elim
  ·rename_i he
   rw[if_neg (by rw[he];simp)]
   refine⟨hd,?_⟩
   have hrest:∀s,KRunU C l0 Cl M K (k+1) rest s→ALexU Γ l0.toArray Cl M K (k+1) rest s:=fun s h=>ARunU.sound htab hnt rest (k+1) s (ih _ s h)
   rcases KG.cases h with⟨hg,h⟩|⟨j,want,b,hg,hb,⟨hbw,h⟩|⟨hbw,h⟩⟩|⟨j,want,hg,hb,h⟩
   ·rw[hg]
    dsimp only
    rw[nthO_eq] at h
    exact KDStepU.sound hP h (ih _) hrest
   ·rw[hg]
    dsimp only
    rw[hb]
    rw[nthO_eq] at h
    exact⟨fun _=>KDStepU.sound hP h (ih _) hrest,fun hn=>(hn hbw).elim⟩
   ·rw[hg]
    dsimp only
    rw[hb]
    exact⟨fun hn=>(hbw hn).elim,fun _=>ih _ _ h⟩
   ·rw[hg]
    dsimp only
    rw[hb]
    exact ih _ _ h
def heapCallee (hs:List Nat) (o:Oper):Bool:=
 match o.op with
 | .call c=>(match c.callee with
  | .value (.func f)=>memN hs f
  | .value (.tmp t)=>memN hs (t+1000000)
  |_=>false)
 |_=>false
def KRunH (C:VCfg) (hs:List Nat) (l0:List Oper) (K:AS Unit→Prop):List Oper→AS Unit→Prop
 | [],s=>K s
 |o::rest,s=>(match dstB C.nt o.dst with
  |false=>False
  |true=>(match isEff o.op with
   |true=>(match o.guard with
    |none=>(match VEff C.tab s.hp s.ev o.op (fun r hp'=>KRunH C hs l0 K rest (AS.put { s with hp:=hp' } o.dst r)) with
     |some p=>p
     |none=>False)
    |some _=>False)
   |false=>(match heapCallee hs o with
    |true=>KG l0 o s (fun s=>KStep C o s (KRunH C hs l0 K rest)) (fun s=>KRunH C hs l0 K rest (s.put o.dst (.prim (.tuple #[]))))
    |false=>KG l0 o s (fun s=>KDStep C o s (KRunH C hs l0 K rest)) (fun s=>KRunH C hs l0 K rest (s.put o.dst (.prim (.tuple #[])))))))
theorem KRunH.sound {C:VCfg} (hok:Γ.Ok) (hP:C.P=Γ.P) (htab:TabOk Γ.P C.tab) (hnt:C.nt=Γ.nt) {hs:List Nat} {l0:List Oper} {K:AS Unit→Prop}:∀(l:List Oper) (s:AS Unit),KRunH C hs l0 K l s→ALexH Γ l0.toArray (heapCallee hs) K l s:=by
 intro l
 induction l with
 |nil=>intro s h;exact h
 |cons o rest ih=>
  intro s h
  simp only[KRunH] at h
  simp only[ALexH]
  split at h
  ·exact h.elim
  rename_i hd
  have hd:=dstB_ok hd
  rw[hnt] at hd
  split at h
  ·rename_i he
   rw[if_pos he]
   split at h
   ·rename_i hg
    split at h
    ·rename_i p hp
     obtain⟨c,r,hp',g1,g2,g3⟩:=VEff_ok hp h
     exact⟨hd,hg,r,hp',heff_sound hok htab g1 g2,ih _ g3⟩
    ·exact h.elim
   ·exact h.elim
  ·rename_i he
   rw[if_neg (by rw[he];simp)]
   split at h
   ·rename_i hh
    rw[if_pos hh]
    rcases KG.cases h with⟨hg,h⟩|⟨j,want,b,hg,hb,⟨hbw,h⟩|⟨hbw,h⟩⟩|⟨j,want,hg,hb,h⟩
    ·exact .inl ⟨by simp[guardVal,hg],KStep.sound hok hP htab hnt h ih⟩
    ·exact .inl ⟨by simp[guardVal,hg,hb,hbw],KStep.sound hok hP htab hnt h ih⟩
    ·exact .inr ⟨by simp[guardVal,hg,hb,hbw],hd,ih _ h⟩
    ·exact .inr ⟨by simp[guardVal,hg,hb],hd,ih _ h⟩
   ·rename_i hh
    rw[if_neg (by rw[hh];simp)]
    rcases KG.cases h with⟨hg,h⟩|⟨j,want,b,hg,hb,⟨hbw,h⟩|⟨hbw,h⟩⟩|⟨j,want,hg,hb,h⟩
    ·obtain⟨x,h3,h4⟩:=DStep.sound (ops:=l0.toArray) hok htab (KDStep.sound (Γ:=Γ) (N:=ALexH Γ l0.toArray (heapCallee hs) K rest) (R:=ALexH Γ l0.toArray (heapCallee hs) K rest) hP h ih ih) (fun _ h=>h) (fun _ h=>h)
     exact⟨x,⟨hd,.inl ⟨by simp[guardVal,hg],h3⟩⟩,h4⟩
    ·obtain⟨x,h3,h4⟩:=DStep.sound (ops:=l0.toArray) hok htab (KDStep.sound (Γ:=Γ) (N:=ALexH Γ l0.toArray (heapCallee hs) K rest) (R:=ALexH Γ l0.toArray (heapCallee hs) K rest) hP h ih ih) (fun _ h=>h) (fun _ h=>h)
     exact⟨x,⟨hd,.inl ⟨by simp[guardVal,hg,hb,hbw],h3⟩⟩,h4⟩
    ·exact⟨_,⟨hd,.inr ⟨by simp[guardVal,hg,hb,hbw],rfl⟩⟩,ih _ h⟩
    ·exact⟨_,⟨hd,.inr ⟨by simp[guardVal,hg,hb],rfl⟩⟩,ih _ h⟩
def KRunW (C:VCfg) (hs:List Nat) (l0:List Oper) (Cl M:List (Option (List Nat))) (K:AS Unit→Prop):Nat→List Oper→AS Unit→Prop
 |_,[],s=>K s
 |k,o::rest,s=>(match dstB C.nt o.dst with
  |false=>False
  |true=>(match isEff o.op with
   |true=>(match o.guard with
    |none=>okB (chgB (nthO Cl k) s.ev o.op) (match VEff C.tab s.hp s.ev o.op (fun r hp'=>KRunW C hs l0 Cl M K (k+1) rest (AS.put { s with hp:=hp' } o.dst r)) with
     |some p=>p
     |none=>False)
    |some _=>False)
   |false=>(match heapCallee hs o with
    |true=>KG l0 o s (fun s=>KStep C o s (KRunW C hs l0 Cl M K (k+1) rest)) (fun s=>KRunW C hs l0 Cl M K (k+1) rest (s.put o.dst (.prim (.tuple #[]))))
    |false=>KG l0 o s (fun s=>KDStepU C (nthO M k) o s (KRunW C hs l0 Cl M K (k+1) rest)) (fun s=>KRunW C hs l0 Cl M K (k+1) rest (s.put o.dst (.prim (.tuple #[])))))))
theorem KRunW.sound {C:VCfg} (hok:Γ.Ok) (hP:C.P=Γ.P) (htab:TabOk Γ.P C.tab) (hnt:C.nt=Γ.nt) {hs:List Nat} {l0:List Oper} {Cl M:List (Option (List Nat))} {K:AS Unit→Prop}:∀(l:List Oper) (k:Nat) (s:AS Unit),KRunW C hs l0 Cl M K k l s→ALexW Γ l0.toArray (heapCallee hs) Cl M K k l s:=by
 intro l
 induction l with
 |nil=>intro k s h;exact h
 |cons o rest ih=>
  intro k s h
  simp only[KRunW] at h
  simp only[ALexW]
  split at h
  ·exact h.elim
  rename_i hd
  have hd:=dstB_ok hd
  rw[hnt] at hd
  split at h
  ·rename_i he
   rw[if_pos he]
   split at h
   ·rename_i hg
    obtain⟨hch,h⟩:=okB_ok h
    split at h
    ·rename_i p hp
     obtain⟨c,r,hp',g1,g2,g3⟩:=VEff_ok hp h
     have:=chgB_ok hch g1
     rw[nthO_eq] at this
     refine⟨hd,hg,r,hp',fun Γ' hok' e1 e2 e3=>heff_sound hok' (tab:=C.tab) (by rw[e1];exact htab) (c:=c) ?_ g2,?_,ih _ _ g3⟩
     ·rw[←g1];exact heff_congr fun x hx=>only_ev hx
     ·unfold ChgAt
      split
      ·trivial
      ·rename_i l' hl
       have hfr:=ChgL.fr (l:=l') s.hp hp' 0 (this l' hl)
       exact⟨hfr.1,fun i ob hi ho=>hfr.2 i ob (by simpa using hi) ho⟩
    ·exact h.elim
   ·exact h.elim
  ·rename_i he
   rw[if_neg (by rw[he];simp)]
   split at h
   ·rename_i hh
    rw[if_pos hh]
    rcases KG.cases h with⟨hg,h⟩|⟨j,want,b,hg,hb,⟨hbw,h⟩|⟨hbw,h⟩⟩|⟨j,want,hg,hb,h⟩
    ·exact .inl ⟨by simp[guardVal,hg],KStep.sound hok hP htab hnt h (ih (k+1))⟩
    ·exact .inl ⟨by simp[guardVal,hg,hb,hbw],KStep.sound hok hP htab hnt h (ih (k+1))⟩
    ·exact .inr ⟨by simp[guardVal,hg,hb,hbw],hd,ih _ _ h⟩
    ·exact .inr ⟨by simp[guardVal,hg,hb],hd,ih _ _ h⟩
   ·rename_i hh
    rw[if_neg (by rw[hh];simp)]
    rcases KG.cases h with⟨hg,h⟩|⟨j,want,b,hg,hb,⟨hbw,h⟩|⟨hbw,h⟩⟩|⟨j,want,hg,hb,h⟩
    ·rw[nthO_eq] at h
     obtain⟨x,h3,h4⟩:=DStepU.sound (ops:=l0.toArray) htab (KDStepU.sound (Γ:=Γ) (N:=ALexW Γ l0.toArray (heapCallee hs) Cl M K (k+1) rest) (R:=ALexW Γ l0.toArray (heapCallee hs) Cl M K (k+1) rest) hP h (ih (k+1)) (ih (k+1))) (fun _ h=>h) (fun _ h=>h) (.inl hg)
     exact⟨x,⟨hd,.inl ⟨by simp[guardVal,hg],h3⟩⟩,h4⟩
    ·rw[nthO_eq] at h
     obtain⟨x,h3,h4⟩:=DStepU.sound (ops:=l0.toArray) htab (KDStepU.sound (Γ:=Γ) (N:=ALexW Γ l0.toArray (heapCallee hs) Cl M K (k+1) rest) (R:=ALexW Γ l0.toArray (heapCallee hs) Cl M K (k+1) rest) hP h (ih (k+1)) (ih (k+1))) (fun _ h=>h) (fun _ h=>h) (.inr ⟨j,want,_,hg,hb⟩)
     exact⟨x,⟨hd,.inl ⟨by simp[guardVal,hg,hb,hbw],h3⟩⟩,h4⟩
    ·exact⟨_,⟨hd,.inr ⟨by simp[guardVal,hg,hb,hbw],rfl⟩⟩,ih _ _ h⟩
    ·exact⟨_,⟨hd,.inr ⟨by simp[guardVal,hg,hb],rfl⟩⟩,ih _ _ h⟩
def hcOf:List (Nat×List Nat)→Nat→Option (List Nat)
 | [],_=>none
 |p::l,k=>(match Nat.beq p.1 k with|true=>some p.2|false=>hcOf l k)
def drOf:List (Nat×List (Option (List Nat))×List (Option (List Nat)))→Nat→Option (List (Option (List Nat))×List (Option (List Nat)))
 | [],_=>none
 |p::l,k=>(match Nat.beq p.1 k with|true=>some p.2|false=>drOf l k)
end Go.Proofs.YtjhanogfpkbamaaGreatDoor
