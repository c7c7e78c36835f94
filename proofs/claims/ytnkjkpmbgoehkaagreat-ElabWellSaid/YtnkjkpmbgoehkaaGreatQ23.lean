/- Lemmas. -/
import Derived.Test.YtnkjkpmbgoehkaaGreatQ22
namespace Go.Proofs.YtnkjkpmbgoehkaaGreat
open Go
set_option linter.unusedSimpArgs false
set_option linter.unusedVariables false
inductive xY where
 |i (k:IntKind)
 |b
 |s
 |l
 |c
 |m
 |ms
 |k (x:AV)
 |o (r:Nat)
 |fn
 |q (x:AV)
inductive uq where
 |c (x:xY)
 |a (l:List xY)
inductive Sh where
 |v (x:uq)
 |t (l:List uq)
 |f (fn:Nat) (l:List uq)
 |m (fn:Nat) (l:List uq)
inductive mg where
 |dead
 |box (l:List xY)
 |row (e size:Nat)
 |cE
 |eV
 |jy (r:Nat)
 |bj (e size:Nat)
 |fz (e:Nat)
def sx:List Nat->Nat->Nat
 | [],_=>0
 |x::_,0=>x
 |_::l,n+1=>sx l n
def ab6 (lens:List Nat):xY->(AV->Prop)->Prop
 | .i k,P=>∃n:Int,P (.ax (.int k n))
 | .b,P=>∃b:Bool,P (.ax (.bool b))
 | .s,P=>∃s:ByteArray,P (.ax (.string s))
 | .l,P=>∃l:List AV,P (.sl l)
 | .c,P=>∃l:List AV,P (.clip l)
 | .m,P=>∃l:List (Int×Value),P (.fL (.i l))
 | .ms,P=>∃l:List (ByteArray×Value),P (.fL (.s l))
 | .k x,P=>P x
 | .o r,P=>P (.own r (sx lens r))
 | .fn,P=>∃v:Value,P (.fn v)
 | .q x,P=>P x
def L9 (lens:List Nat):List xY->(List AV->Prop)->Prop
 | [],P=>P []
 |sh::l,P=>ab6 lens sh fun x=>L9 lens l fun xs=>P (x::xs)
def RT (lens:List Nat):uq->(AV->Prop)->Prop
 | .c x,P=>ab6 lens x P
 | .a l,P=>L9 lens l fun cs=>P (.agg cs)
def Gu (lens:List Nat):List uq->(List AV->Prop)->Prop
 | [],P=>P []
 |sh::l,P=>RT lens sh fun x=>Gu lens l fun xs=>P (x::xs)
def opn (lens:List Nat):Sh->(AV->Prop)->Prop
 | .v x,P=>RT lens x P
 | .t l,P=>Gu lens l fun cs=>P (.aK cs)
 | .f fn l,P=>Gu lens l fun cs=>P (.bz fn cs)
 | .m fn l,P=>Gu lens l fun cs=>P (.dm fn cs)
theorem Ma {lens:List Nat} {sh:xY} {P:AV->Prop} (h:ab6 lens sh P):∃x,P x:=by
 cases sh with
 |i k=>obtain⟨n,h⟩:=h;exact⟨_,h⟩
 |b=>obtain⟨n,h⟩:=h;exact⟨_,h⟩
 |s=>obtain⟨n,h⟩:=h;exact⟨_,h⟩
 |q x=>exact⟨_,h⟩
 |l=>obtain⟨n,h⟩:=h;exact⟨_,h⟩
 |c=>obtain⟨n,h⟩:=h;exact⟨_,h⟩
 |m=>obtain⟨n,h⟩:=h;exact⟨_,h⟩
 |ms=>obtain⟨n,h⟩:=h;exact⟨_,h⟩
 |fn=>obtain⟨n,h⟩:=h;exact⟨_,h⟩
 |k x=>exact⟨_,h⟩
 |o r=>exact⟨_,h⟩
theorem zz {lens:List Nat}:∀{l:List xY} {P:List AV->Prop},L9 lens l P->∃xs,P xs
 | [],_,h=>⟨_,h⟩
 |_::_,_,h=>by
  obtain⟨x,h⟩:=Ma h;obtain⟨xs,h⟩:=zz h;exact⟨_,h⟩
theorem yo {lens:List Nat} {sh:uq} {P:AV->Prop} (h:RT lens sh P):∃x,P x:=by
 cases sh with
 |c x=>exact Ma h
 |a l=>obtain⟨cs,h⟩:=zz h;exact⟨_,h⟩
theorem ur {lens:List Nat}:∀{l:List uq} {P:List AV->Prop},Gu lens l P->∃xs,P xs
 | [],_,h=>⟨_,h⟩
 |_::_,_,h=>by
  obtain⟨x,h⟩:=yo h;obtain⟨xs,h⟩:=ur h;exact⟨_,h⟩
theorem s8 {lens:List Nat} {sh:Sh} {P:AV->Prop} (h:opn lens sh P):∃x,P x:=by
 cases sh with
 |v x=>exact yo h
 |t l=>obtain⟨cs,h⟩:=ur h;exact⟨_,h⟩
 |f fn l=>obtain⟨cs,h⟩:=ur h;exact⟨_,h⟩
 |m fn l=>obtain⟨cs,h⟩:=ur h;exact⟨_,h⟩
def XK:List mg->(List (List AV)->Prop)->Prop
 | [],P=>P []
 | .row _ _::l,P | .bj _ _::l,P=>∃els:List AV,XK l fun ls=>P (els::ls)
 |_::l,P=>XK l fun ls=>P ([]::ls)
def RU:List (List AV)->List Nat
 | []=>[]
 |l::ls=>l.length::RU ls
def aev (lens:List Nat):mg->List AV->(aw->Prop)->Prop
 | .dead,_,P=>P .dead
 | .box l,_,P=>L9 lens l fun cs=>P (.box cs)
 | .row e size,els,P=>P (.row e size els)
 | .bj e size,els,P=>P (.bj e size els)
 | .cE,_,P=>∃es:List (Int×Value),P (.cE (.i es))
 | .jy r,_,P=>P (.jy r (sx lens r))
 | .eV,_,P=>∃es:List (ByteArray×Value),P (.cE (.s es))
 | .fz _,_,_=>False
def RV (lens:List Nat):List mg->List (List AV)->(List aw->Prop)->Prop
 | [],_,P=>P []
 |o::l,els::ls,P=>aev lens o els fun x=>RV lens l ls fun xs=>P (x::xs)
 |_::_,[],_=>False
theorem XL {l:List mg}:∀{P:List (List AV)->Prop},XK l P->∃ls,P ls:=by
 induction l with
 |nil=>intro P h;exact⟨_,h⟩
 |cons o l ih=>
  intro P h
  cases o with
  |row e size=>obtain⟨els,h⟩:=h;obtain⟨ls,h⟩:=ih h;exact⟨_,h⟩
  |bj e size=>obtain⟨els,h⟩:=h;obtain⟨ls,h⟩:=ih h;exact⟨_,h⟩
  |dead=>obtain⟨ls,h⟩:=ih (P:=fun ls=>P ([]::ls)) h;exact⟨_,h⟩
  |box l=>obtain⟨ls,h⟩:=ih (P:=fun ls=>P ([]::ls)) h;exact⟨_,h⟩
  |cE=>obtain⟨ls,h⟩:=ih (P:=fun ls=>P ([]::ls)) h;exact⟨_,h⟩
  |eV=>obtain⟨ls,h⟩:=ih (P:=fun ls=>P ([]::ls)) h;exact⟨_,h⟩
  |jy r=>obtain⟨ls,h⟩:=ih (P:=fun ls=>P ([]::ls)) h;exact⟨_,h⟩
  |fz e=>obtain⟨ls,h⟩:=ih (P:=fun ls=>P ([]::ls)) h;exact⟨_,h⟩
theorem XM {lens:List Nat} {o:mg} {els:List AV} {P:aw->Prop} (h:aev lens o els P):∃x,P x:=by
 cases o with
 |dead=>exact⟨_,h⟩
 |box l=>obtain⟨cs,h⟩:=zz h;exact⟨_,h⟩
 |row e size=>exact⟨_,h⟩
 |bj e size=>exact⟨_,h⟩
 |cE=>obtain⟨es,h⟩:=h;exact⟨_,h⟩
 |eV=>obtain⟨es,h⟩:=h;exact⟨_,h⟩
 |jy r=>exact⟨_,h⟩
 |fz e=>exact h.elim
theorem Gv {lens:List Nat}:∀{l:List mg} {ls:List (List AV)} {P:List aw->Prop},RV lens l ls P->∃xs,xs.length=l.length/\P xs
 | [],_,_,h=>⟨[],rfl,h⟩
 |_::_,[],_,h=>h.elim
 |o::l,els::ls,P,h=>by
  obtain⟨x,h⟩:=XM h;obtain⟨xs,hl,h⟩:=Gv h;exact⟨x::xs,by simp[hl],h⟩
def ab8 (a:Sh×List mg) (r:AV) (hp':List aw) (k:AV->List aw->Prop):Prop:=
 XK a.2 fun ls=>RV (RU ls) a.2 ls fun h=>opn (RU ls) a.1 fun x=>(r=x/\hp'=h)/\k x h
def Mb:List (Sh×List mg)->AV->List aw->(AV->List aw->Prop)->Prop
 | [],_,_,_=>False
 | [a],r,hp',k=>ab8 a r hp' k
 |a::l,r,hp',k=>ab8 a r hp' k\/Mb l r hp' k
def aaN (a:Sh) (r:AV) (k:AV->Prop):Prop:=opn [] a fun x=>r=x/\k x
def DX:List Sh->AV->(AV->Prop)->Prop
 | [],_,_=>False
 | [a],r,k=>aaN a r k
 |a::l,r,k=>aaN a r k\/DX l r k
theorem Mc {a:Sh×List mg} {r:AV} {hp':List aw} {k:AV->List aw->Prop} (h:ab8 a r hp' k):k r hp':=by
 obtain⟨ls,h⟩:=XL h;obtain⟨hs,_,h⟩:=Gv h;obtain⟨x,⟨rfl,rfl⟩,h⟩:=s8 h;exact h
theorem jf:∀{l:List (Sh×List mg)} {r:AV} {hp':List aw} {k:AV->List aw->Prop},Mb l r hp' k->k r hp'
 | [],_,_,_,h=>h.elim
 | [_],_,_,_,h=>Mc h
 |_::_::_,_,_,_,h=>h.elim Mc jf
theorem vU:∀{l:List Sh} {r:AV} {k:AV->Prop},DX l r k->k r
 | [],_,_,h=>h.elim
 | [_],_,_,h=>by obtain⟨x,rfl,h⟩:=s8 h;exact h
 |_::_::_,_,_,h=>h.elim (fun h=>by obtain⟨x,rfl,h⟩:=s8 h;exact h) vU
def aaO (tab:Nat->Option TD) (hp:List aw) (ρ:Operand->AV):Op->Option (List Prop×List AV×Int×Nat×Nat)
 | .indexAddr T x i=>(match tab T with
  |some d=>(match d.kind with
   | .lU e=>(match tab e,(ρ x).mZ hp,ρ i with
    |some d',some (cs,els),.ax (.int _ n)=>some (cs,els,n,e,d'.size)
    |_,_,_=>none)
   |_=>none)
  |none=>none)
 |_=>none
def ab9 (tab:Nat->Option TD) (hp:List aw) (ρ:Operand->AV):Op->Option (Prop×AV)
 | .indexAddr T x i=>(match vL hp (ρ x) with
  |some (r,m,e',size,k)=>(match tab T with
   |some d=>(match d.kind with
    | .lU e=>(match tab e,ρ i with
     |some d',.ax (.int _ n)=>if e'=e/\size=d'.size then some (0<=n/\n<m/\m=k,.fV r m n.toNat size) else none
     |_,_=>none)
    |_=>none)
   |none=>none)
  |none=>none)
 |_=>none
theorem XN {tab:Nat->Option TD} {hp:List aw} {ρ:Operand->AV} {op:Op} {c:Prop} {r:AV} (h:ab9 tab hp ρ op=some (c,r)):bL tab hp ρ op=some (c,r):=by
 unfold ab9 at h;split at h
 ·rename_i T x i;split at h
  ·rename_i q m e' size k' hm;split at h
   ·rename_i d hd;split at h
    ·rename_i e hk;split at h
     ·rename_i d' k n ef hi;obtain⟨hx,els,ss,_⟩:=rS hm;have XE:(ρ x).iU hp=none:=by rw[hx];simp only[AV.iU,ss]
      simp only[bL,hd,hk,ef,XE,hi,hm];exact h
     ·cases h
    ·cases h
   ·cases h
  ·cases h
 ·cases h
def aca (tab:Nat->Option TD) (ρ:Operand->AV):Op->Option AV
 | .indexAddr T x (.const c)=>(match tab T with
  |some d=>(match d.kind with
   | .arr m=>(match ρ x,ρ (.const c) with
    | .ptr r 0,.ax (.int _ (.ofNat j))=>(match Nat.blt j m with|true=>some (.ptr r j)|false=>none)
    | .aW e 0,.ax (.int _ (.ofNat j))=>(match Nat.blt j m with|true=>some (.aW e j)|false=>none)
    |_,_=>none)
   |_=>none)
  |none=>none)
 |_=>none
theorem XO {tab:Nat->Option TD} {hp:List aw} {ρ:Operand->AV} {op:Op} {r:AV} (h:aca tab ρ op=some r):∃c,bL tab hp ρ op=some (c,r)/\c:=by
 unfold aca at h;split at h
 ·rename_i T x c;split at h
  ·rename_i d hd;split at h
   ·rename_i m hk;split at h
    ·rename_i r' k j hx hc;split at h
     ·rename_i hb;obtain rfl:=aqs h;have aH:j<m:=aqQ hb;refine⟨0<=(Int.ofNat j)/\(Int.ofNat j)<m,?_,Int.natCast_nonneg _,Int.ofNat_lt.2 aH⟩;simp only[bL,hd,hk,hx,hc];rfl
     ·cases h
    ·rename_i e k j hx hc;split at h
     ·rename_i hb;obtain rfl:=aqs h;have aH:j<m:=aqQ hb;refine⟨0<=(Int.ofNat j)/\(Int.ofNat j)<m,?_,Int.natCast_nonneg _,Int.ofNat_lt.2 aH⟩;simp only[bL,hd,hk,hx,hc];rfl
     ·cases h
    ·cases h
   ·cases h
  ·cases h
 ·cases h
def acb (tab:Nat->Option TD) (ρ:Operand->AV):Op->Option (Nat×Int×Nat)
 | .indexAddr T x i=>(match tab T with
  |some d=>(match d.kind with
   | .arr m=>(match ρ x,ρ i with
    | .ptr r 0,.ax (.int _ n)=>some (r,n,m)
    |_,_=>none)
   |_=>none)
  |none=>none)
 |_=>none
theorem XP {tab:Nat->Option TD} {hp:List aw} {ρ:Operand->AV} {op:Op} {r:Nat} {n:Int} {m:Nat} (h:acb tab ρ op=some (r,n,m)):bL tab hp ρ op=some (0<=n/\n<m,.ptr r n.toNat):=by
 unfold acb at h;split at h
 ·rename_i T x i;split at h
  ·rename_i d hd;split at h
   ·rename_i m' hk;split at h
    ·rename_i r' k n' hx hi;simp only[aqq,aqt] at h;obtain⟨rfl,rfl,rfl⟩:=h;simp only[bL,hd,hk,hx,hi]
    ·cases h
   ·cases h
  ·cases h
 ·cases h
def Ko (n:Int) (k:Nat->Prop):Nat->Nat->Prop
 |0,_=>False
 |1,j=>k j
 |f+2,j=>az (n==(j:Int)) (k j) (Ko n k (f+1) (j+1))
theorem Cz {n:Int} {k:Nat->Prop}:∀(f j:Nat),(j:Int)<=n->n<(j:Int)+f->Ko n k f j->k n.toNat
 |0,j,h1,h2,_=>by omega
 |1,j,h1,h2,h=>by
  have:n.toNat=j:=by omega
  rw[this];exact h
 |f+2,j,h1,h2,h=>by
  by_cases e:n=(j:Int)
  ·have h':=h.elim.1 (by simpa using e);have:n.toNat=j:=by omega
   rw[this];exact h'
  ·exact Cz (f+1) (j+1) (by omega) (by omega) (h.elim.2 (by simpa using e))
def ldM (tab:Nat->Option TD) (hp:List aw) (ρ:Operand->AV):Op->Option (Prop×List AV×Nat×Nat×Bool)
 | .load T x=>(match ρ x with
  | .fV r m i z=>(match hp[r]?,tab T with
   |some (.bj _ z' els),some d=>(match Nat.beq z' z&&Nat.beq d.size z with
    |true=>some (m=els.length,els,i,T,d.kind.agg)
    |false=>none)
   |_,_=>none)
  |_=>none)
 |_=>none
theorem acd {tab:Nat->Option TD} {hp:List aw} {ρ:Operand->AV} {op:Op} {els:List AV} {i T:Nat} {b:Bool} {c:Prop} (h:ldM tab hp ρ op=some (c,els,i,T,b)):bL tab hp ρ op=some (c/\i<els.length/\(els.getD i .top).isAgg=b,els.getD i .top):=by
 unfold ldM at h;split at h
 ·rename_i T' x;split at h
  ·rename_i r m i' z hx;split at h
   ·rename_i e z' qx d hr hd;split at h
    ·rename_i hb;rw[aqv] at hb;simp only[aqq,aqt] at h;obtain⟨rfl,rfl,rfl,rfl,rfl⟩:=h;simp only[bL,hd,hx,hr];rw[if_pos ⟨aqN hb.1,aqN hb.2⟩]
    ·cases h
   ·cases h
  ·cases h
 ·cases h
def sized (size:Nat) (x:AV) (p:Prop):Prop:=if x.cells.length=size then p else False
def ace (b:Bool) (x:AV) (p:Prop):Prop:=match x.isAgg==b with|true=>p|false=>False
def O1 (tab:Nat->Option TD) (QM:Nat->uq) (hp:List aw) (ρ:Operand->AV) (op:Op) (k:AV->Prop):Option Prop:=
 match aaO tab hp ρ op with
 |some (cs,els,n,e,size)=>some (gN cs (0<=n/\n<els.length/\RT [] (QM e) fun x=>els.getD n.toNat .top=x/\sized size x (k (.aW x 0))))
 |none=>(match ab9 tab hp ρ op with
  |some (c,r)=>some (c/\k r)
  |none=>(match pv tab hp ρ op with
   |some (cs,r)=>some (gN cs (k r))
   |none=>(match aca tab ρ op with
    |some r=>some (k r)
    |none=>(match acb tab ρ op with
     |some (r,n,m)=>some ((0<=n/\n<m)/\Ko n (fun j=>k (.ptr r j)) m 0)
     |none=>(match ldM tab hp ρ op with
      |some (c,els,i,T,b)=>some (c/\i<els.length/\RT [] (QM T) fun x=>els.getD i .top=x/\ace b x (k x))
      |none=>none)))))
theorem XQ {b:Bool} {x:AV} {p:Prop} (h:ace b x p):x.isAgg=b/\p:=by
 unfold ace at h;split at h
 ·rename_i hb;exact⟨by cases b<;>cases hx:x.isAgg<;>simp_all,h⟩
 ·exact h.elim
theorem yp {tab:Nat->Option TD} {QM:Nat->uq} {hp:List aw} {ρ:Operand->AV} {op:Op} {k:AV->Prop} {p:Prop} (h:O1 tab QM hp ρ op k=some p) (su:p):∃c r,bL tab hp ρ op=some (c,r)/\c/\k r:=by
 unfold O1 at h;split at h
 ·rename_i cs els n e size lf;obtain rfl:=aqs h;rw[bF] at su;obtain⟨hc,h0,h1,h2⟩:=su;obtain⟨x,hx,hk⟩:=yo h2;unfold sized at hk;split at hk
  ·rename_i hs;unfold aaO at lf;split at lf
   ·rename_i T y i;split at lf
    ·rename_i d hd;split at lf
     ·rename_i e' XG;split at lf
      ·rename_i d' gi qx ik n' ef hy hi;simp only[aqq,aqt] at lf;obtain⟨rfl,rfl,rfl,rfl,rfl⟩:=lf;have XE:=ie hy hc;refine⟨0<=n'/\n' < qx.length/\(qx.getD n'.toNat .top).cells.length=d'.size,.aW (qx.getD n'.toNat .top) 0,by simp only[bL,hd,XG,ef,XE,hi],⟨h0,h1,by rw[hx];exact hs⟩,by rw[hx];exact hk⟩
      ·cases lf
     ·cases lf
    ·cases lf
   ·cases lf
  ·exact hk.elim
 ·split at h
  ·rename_i c r hm;obtain rfl:=aqs h;exact⟨c,r,XN hm,su.1,su.2⟩
  split at h
  ·rename_i cs r hpv;obtain rfl:=aqs h;rw[bF] at su;obtain⟨c,h1,h2⟩:=aed hpv su.1;exact⟨c,r,h1,h2,su.2⟩
  split at h
  ·rename_i r hi;obtain rfl:=aqs h;obtain⟨c,h1,h2⟩:=XO hi;exact⟨c,r,h1,h2,su⟩
  ·split at h
   ·rename_i r n m hi;obtain rfl:=aqs h;exact⟨_,_,XP hi,su.1,Cz m 0 (by simpa using su.1.1) (by simpa using su.1.2) su.2⟩
   ·split at h
    ·rename_i c els i T b hl;obtain rfl:=aqs h;obtain⟨h0,h1,h2⟩:=su;obtain⟨x,hx,hk⟩:=yo h2;obtain⟨h3,h4⟩:=XQ hk;exact⟨_,_,acd hl,⟨h0,h1,by rw[hx];exact h3⟩,by rw[hx];exact h4⟩
    ·cases h
def Gw (tab:Nat->Option TD) (hp:List aw) (ρ:Operand->AV) (op:Op) (k:AV->List aw->Prop):Option Prop:=
 match hv tab hp ρ op with
 |some (cs,r,hp')=>some (gN cs (k r hp'))
 |none=>none
theorem rZ {tab:Nat->Option TD} {hp:List aw} {ρ:Operand->AV} {op:Op} {k:AV->List aw->Prop} {p:Prop} (h:Gw tab hp ρ op k=some p) (su:p):∃c r hp',eh tab hp ρ op=some (c,r,hp')/\c/\k r hp':=by
 unfold Gw at h;split at h
 ·rename_i cs r hp' hh;obtain rfl:=aqs h;rw[bF] at su;obtain⟨c,h1,h2⟩:=aee hh su.1;exact⟨c,r,hp',h1,h2,su.2⟩
 ·cases h
def qS (s:AS Unit):Op->Option (Nat×List AV)
 | .call c=>(match c.callee with
  | .value x=>(match s.ev x with
   | .bz f caps=>some (f,c.args.toList.map s.ev++caps)
   |_=>none)
  |_=>none)
 |_=>none
theorem lL (s:AS Unit) (op:Op):qS s op=ma s op:=rfl
inductive kj where
 |one (sh:Sh)
 |alts (l:List Sh)
 |heap (n:Nat) (l:List (Sh×List mg))
 |raw (l:List Sh)
 |bz (f:Nat)
 |y (kind:Bool)
 |frz (sh:Sh)
 |fresh (e size:Nat)
 |fX (l:List (Sh×List mg))
def boxed:List AV->List AV
 | []=>[]
 |x::l=>.aW x 0::boxed l
inductive oh where
 |done
 |val (i:Nat) (p:oh)
 |dQ (i:Nat) (p:oh)
 |two (i:Nat) (p:oh) (j:Nat) (q:oh)
 |three (i:Nat) (p:oh) (j:Nat) (q:oh) (k:Nat) (r:oh)
structure dp where
 P:Program
 tab:Nat->Option TD
 QM:Nat->uq
 sig:Nat->Nat->kj
 nt:Nat
 dr:List (Nat×List (Option (List Nat))×List (Option (List Nat))):=[]
 hc:List (Nat×List Nat):=[]
 br:List (Nat×oh):=[]
 mt:Bool:=false
 fz:Option (List Nat):=none
 rm:List (Nat×Nat):=[]
 sgd:Nat->Option kj:=fun _=>none
 ext:{ e:Nat->Option W6 // ∀f x,e f=some x->XOk P f x }:=⟨fun _=>none,fun _ _ h=>by cases h⟩
def Gx (C:dp) (f:Nat) (o:Oper):kj:=
 match o.dst with
 |some d=>(match C.sgd d with
  |some g=>g
  |none=>C.sig f o.type)
 |none=>C.sig f o.type
def okB (b:Bool) (p:Prop):Prop:=
 match b with
 |true=>p
 |false=>False
theorem cp {b:Bool} {p:Prop} (h:okB b p):b=true/\p:=by
 cases b with
 |true=>exact⟨rfl,h⟩
 |false=>exact h.elim
def AV.mh (n:Nat) (hp:List aw) (x:AV):List Prop×AV:=
 match x.closed n with
 |true=>([],x)
 |false=>x.bU hp
theorem qT {n:Nat} {hp:List aw} {x:AV} (hc:eA (x.mh n hp).1):x.s6 n hp=(x.mh n hp).2:=by
 unfold AV.s6 AV.mh at *
 cases h:x.closed n with
 |true=>simp
 |false=>rw[h] at hc;simp only[aqH,if_false];exact dv hc
def sy (n:Nat):List Nat->Nat->Nat
 | [],_=>n
 |j::js,r=>(match Nat.beq j r with|true=>n|false=>sy (n+1) js r)
def unP (js:List Nat):AV->AV
 | .ptr r o=>.ptr (sy 0 js r) o
 |x=>x
def yn (js:List Nat):AV->AV
 | .own r n=>.own (sy 0 js r) n
 | .ptr r o=>.ptr (sy 0 js r) o
 | .mp r=>.mp (sy 0 js r)
 | .bz f cs=>.bz f (cs.map (unP js))
 |x=>x
def L8 (js:List Nat):AV->AV
 | .agg cs=>.agg (cs.map (yn js))
 |x=>yn js x
def QN (js:List Nat):AV->AV
 | .aK vs=>.aK (vs.map (L8 js))
 | .bz f cs=>.bz f (cs.map (L8 js))
 | .dm f cs=>.dm f (cs.map (L8 js))
 |x=>L8 js x
def unO (js:List Nat):aw->aw
 | .box cs=>.box (cs.map (yn js))
 | .jy r n=>.jy (sy 0 js r) n
 |o=>o
def nw (js:List Nat) (n:Nat) (i:Nat):Nat:=(match Nat.blt i js.length with|true=>sx js i|false=>n+(i-js.length))
theorem Md:∀{js:List Nat} {n r:Nat},sy n js r<n+js.length->n<=sy n js r/\sx js (sy n js r-n)=r
 | [],n,r,h=>by simp[sy] at h
 |j::js,n,r,h=>by
  simp only[sy] at h ⊢;split
  ·rename_i hb;rw[arO];exact⟨aqw _,aqN hb⟩
  ·rename_i hb;rw[hb] at h;simp only[aqy] at h;obtain⟨h1,h2⟩:=Md (js:=js) (n:=n+1) (r:=r) (by omega);refine⟨by omega,?_⟩;rw[show sy (n+1) js r-n=(sy (n+1) js r-(n+1))+1 from by omega];exact h2
theorem uu {js:List Nat} {n r:Nat} (h:sy 0 js r<js.length):nw js n (sy 0 js r)=r:=by
 unfold nw;rw[show Nat.blt (sy 0 js r) js.length=true from Nat.ble_eq_true_of_le h];have:=(Md (js:=js) (n:=0) (r:=r) (by omega)).2
 rwa [asl] at this
theorem iL {js:List Nat} {n:Nat} {u:List Nat->AV->AV} {r:(Nat->Nat)->AV->AV} {c:Nat->AV->Bool} (hu:∀x,c js.length (u js x)=true->r (nw js n) (u js x)=x):
  ∀(l:List AV),(l.map (u js)).all (c js.length)=true->(l.map (u js)).map (r (nw js n))=l
 | [],_=>rfl
 |x::l,h=>by
  simp only[aqS,arQ,aqv] at h ⊢;rw[hu x h.1,iL hu l h.2]
theorem acf {js:List Nat} {n:Nat} {x:AV} (h:(unP js x).fe js.length=true):RR (nw js n) (unP js x)=x:=by
 cases x with
 |ptr r m=>simp only[unP,AV.fe,decide_eq_true_eq] at h;simp only[unP,RR,uu h]
 |_=>rfl
theorem nx {js:List Nat} {n:Nat} {x:AV} (h:(yn js x).aX js.length=true):xW (nw js n) (yn js x)=x:=by
 cases x with
 |own r m=>simp only[yn,AV.aX,decide_eq_true_eq] at h;simp only[yn,xW,uu h]
 |ptr r m=>simp only[yn,AV.aX,decide_eq_true_eq] at h;simp only[yn,xW,uu h]
 |mp r=>simp only[yn,AV.aX,decide_eq_true_eq] at h;simp only[yn,xW,uu h]
 |bz f cs=>simp only[yn,AV.aX] at h;simp only[yn,xW];rw[iL (c:=AV.fe) (fun x hx=>acf hx) cs h]
 |_=>rfl
theorem DY {js:List Nat} {n:Nat} {x:AV} (h:(L8 js x).dY js.length=true):Gq (nw js n) (L8 js x)=x:=by
 cases x with
 |agg cs=>
  simp only[L8,Gq] at h ⊢;rw[iL (fun x hx=>nx hx) cs h]
 |own r m=>exact nx (x:=.own r m) h
 |ptr r m=>exact nx (x:=.ptr r m) h
 |mp r=>exact nx (x:=.mp r) h
 |bz f cs=>exact nx (x:=.bz f cs) h
 |_=>first|rfl|(simp[L8,yn,AV.dY,AV.aX] at h;done)
theorem acg {js:List Nat} {n:Nat} {x:AV} (h:(QN js x).closed js.length=true):s7 (nw js n) (QN js x)=x:=by
 cases x with
 |aK cs=>
  simp only[QN,s7] at h ⊢;rw[iL (fun x hx=>DY hx) cs h]
 |bz f cs=>
  simp only[QN,s7] at h ⊢;rw[iL (fun x hx=>DY hx) cs h]
 |dm f cs=>
  simp only[QN,s7] at h ⊢;rw[iL (fun x hx=>DY hx) cs h]
 |agg cs=>exact DY (x:=.agg cs) h
 |own r m=>exact nx (x:=.own r m) h
 |ptr r m=>exact nx (x:=.ptr r m) h
 |mp r=>exact nx (x:=.mp r) h
 |_=>first|rfl|(simp[QN,L8,yn,AV.closed,AV.dY,AV.aX] at h;done)
theorem ach {js:List Nat} {n:Nat} {o:aw} (h:(unO js o).closed js.length=true):ky (nw js n) (unO js o)=o:=by
 cases o with
 |box cs=>
  simp only[unO,ky] at h ⊢;rw[iL (fun x hx=>nx hx) cs h]
 |jy q k=>have:=nx (js:=js) (n:=n) (x:=.own q k) h;simp only[yn,xW,AV.own.injEq,and_true] at this;simp only[unO,ky,this]
 |_=>rfl
def AV.obj:AV->Bool
 | .own _ _ | .ptr _ _ | .mp _=>true
 |_=>false
def AV.Me (js:List Nat) (hp:List aw) (x:AV):AV:=if(x.obj&&(yn js x).aX js.length)=true then x else x.eG hp
def AV.zA (js:List Nat) (hp:List aw) (x:AV):List Prop×AV:=
 match x.obj&&(yn js x).aX js.length with
 |true=>([],x)
 |false=>x.jP hp
theorem O2 {js:List Nat} {hp:List aw} {x:AV} (hc:eA (x.zA js hp).1):x.Me js hp=(x.zA js hp).2:=by
 unfold AV.Me AV.zA at *
 cases h:x.obj&&(yn js x).aX js.length with
 |true=>simp
 |false=>rw[h] at hc;simp only[aqH,if_false];exact lJ hc
def AV.Mf (js:List Nat) (hp:List aw):AV->AV
 | .agg cs=>.agg (cs.map (AV.Me js hp))
 |x=>x.bK hp
def AV.DZ (js:List Nat) (hp:List aw):AV->List Prop×AV
 | .agg cs=>((cZ (AV.zA js hp) cs).1,.agg (cZ (AV.zA js hp) cs).2)
 |x=>x.bU hp
theorem O3 {js:List Nat} {hp:List aw} {x:AV} (hc:eA (x.DZ js hp).1):x.Mf js hp=(x.DZ js hp).2:=by
 cases x with
 |agg cs=>simp only[AV.DZ,AV.Mf] at hc ⊢;rw[cr (fun x=>O2) _ hc]
 |_=>exact dv hc
def AV.Kp (js:List Nat) (hp:List aw) (x:AV):AV:=if(QN js x).closed js.length=true then x else x.Mf js hp
def AV.Gy (js:List Nat) (hp:List aw) (x:AV):List Prop×AV:=
 match (QN js x).closed js.length with
 |true=>([],x)
 |false=>x.DZ js hp
theorem zB {js:List Nat} {hp:List aw} {x:AV} (hc:eA (x.Gy js hp).1):x.Kp js hp=(x.Gy js hp).2:=by
 unfold AV.Kp AV.Gy at *
 cases h:(QN js x).closed js.length with
 |true=>simp
 |false=>rw[h] at hc;simp only[aqH,if_false];exact O3 hc
theorem O4 {Γ:Env Unit} {s:AS Unit} {a:Act} {w:World} {η:List Value} (hr:Rel Γ s a w η) (js:List Nat) {x:AV} {v:Value} (h:bB w (bt Γ w η s.hp) η s.hp x v):bB w (bt Γ w η s.hp) η s.hp (x.Mf js s.hp) v:=by
 cases x with
 |agg cs=>
  cases h with
  |agg _ vs hl h1 rV=>
   refine .agg _ vs (by simpa using hl) h1 fun j y u hy hu=>?_;rw[aqE] at hy
   cases hj:cs[j]? with
   |none=>rw[hj] at hy;cases hy
   |some z=>
    rw[hj] at hy;obtain rfl:=aqs hy;unfold AV.Me;split
    ·exact rV j z u hj hu
    ·exact(lG hr.heap hr.cq (rV j z u hj hu)).lift
 |_=>exact(gA hr.heap hr.cq h).lift
theorem uv {Γ:Env Unit} {s:AS Unit} {a:Act} {w:World} {η:List Value} (hr:Rel Γ s a w η) (js:List Nat):∀(xs:List AV) (vs:List Value),cu w (bt Γ w η s.hp) η s.hp xs vs->cu w (bt Γ w η s.hp) η s.hp (xs.map (AV.Kp js s.hp)) vs
 | [],[],_=>True.intro
 |x::xs,v::vs,h=>⟨by
   unfold AV.Kp;split
   ·exact h.1
   ·exact O4 hr js h.1,uv hr js xs vs h.2⟩
 | [],_::_,h=>h.elim
 |_::_,[],h=>h.elim
def qf (js:List Nat):List Nat->List aw->List aw
 | [],_=>[]
 |j::l,H=>(match H[j]? with
  |some o=>unO js o
  |none=>.dead)::qf js l H
theorem CA {js:List Nat} {H:List aw}:∀{l:List Nat} {i:Nat} {o:aw},(qf js l H)[i]?=some o->∃j,l[i]?=some j/\(H[j]?=none\/∃o',H[j]?=some o'/\o=unO js o')
 | [],i,o,h=>by simp[qf] at h
 |j::l,0,o,h=>by
  simp only[qf,ari,aqq] at h;refine⟨j,rfl,?_⟩;split at h
  ·rename_i o' ho;exact .inr ⟨o',ho,h.symm⟩
  ·rename_i ho;exact .inl ho
 |j::l,i+1,o,h=>by
  simp only[qf,aq2] at h ⊢;exact CA h
theorem CB {js:List Nat} {H:List aw}:∀{l:List Nat},(qf js l H).length=l.length
 | []=>rfl
 |j::l=>by simp[qf,CB (l:=l)]
def qU (n:Nat):List Nat->Bool
 | []=>true
 |j::js=>Nat.blt j n&&(!Kq j js&&qU n js)
where Kq (k:Nat):List Nat->Bool
 | []=>false
 |x::l=>Nat.beq x k||Kq k l
theorem zC {k:Nat}:∀{l:List Nat} {i:Nat},l[i]?=some k->qU.Kq k l=true
 | [],i,h=>by simp at h
 |x::l,0,h=>by simp at h;subst h;simp[qU.Kq]
 |x::l,i+1,h=>by simp only[aq2] at h;simp[qU.Kq,zC h]
theorem qV:∀{l:List Nat} {i:Nat},i<l.length->l[i]?=some (sx l i)
 | [],i,h=>by simp at h
 |x::l,0,h=>rfl
 |x::l,i+1,h=>by simp only[aq2,sx];exact qV (by simpa using h)
theorem Mg {n:Nat}:∀{js:List Nat},qU n js=true->∀i,i<js.length->sx js i<n
 | [],_,i,h=>by simp at h
 |j::js,h,0,_=>by simp only[qU,aqv] at h;exact aqQ (show Nat.ble (j+1) n=true from h.1)
 |j::js,h,i+1,hi=>by simp only[qU,aqv] at h;exact Mg h.2.2 i (by simpa using hi)
theorem Gz {n:Nat}:∀{js:List Nat},qU n js=true->∀i i',i<js.length->i' < js.length->sx js i=sx js i'->i=i'
 | [],_,i,i',h,_,_=>by simp at h
 |j::js,h,0,0,_,_,_=>rfl
 |j::js,h,0,i'+1,_,h2,he=>by
  simp only[qU,aqv,arc] at h;have:=zC (k:=j) (l:=js) (i:=i') (by rw[qV (by simpa using h2)];exact congrArg some he.symm);rw[h.2.1] at this;cases this
 |j::js,h,i+1,0,h1,_,he=>by
  simp only[qU,aqv,arc] at h;have:=zC (k:=j) (l:=js) (i:=i) (by rw[qV (by simpa using h1)];exact congrArg some he);rw[h.2.1] at this;cases this
 |j::js,h,i+1,i'+1,h1,h2,he=>by
  simp only[qU,aqv] at h;rw[Gz h.2.2 i i' (by simpa using h1) (by simpa using h2) he]
def mj (r:Nat) (out:List Nat):List Nat:=(match qU.Kq r out with|true=>out|false=>out++[r])
def D1 (hp:List aw):List Nat->List AV->List Nat
 |out,[]=>out
 |out,.own q _::l=>(match hp[q]? with
  |some (.row _ _ _)=>D1 hp (mj q out) l
  |_=>D1 hp out l)
 |out,_::l=>D1 hp out l
mutual
def aci (hp:List aw):Nat->List Nat->AV->List Nat
 |0,out,_=>out
 |n+1,out,.ptr r _=>(match qU.Kq r out with
  |true=>out
  |false=>(match hp[r]? with
   |some (.box cs)=>mj r (jS hp n (D1 hp out cs) cs)
   |some (.jy q _)=>mj q (mj r out)
   |_=>mj r out))
 |_+1,out,.mp r=>mj r out
 |_+1,out,.own r _=>(match hp[r]? with
  |some (.bj _ _ _)=>mj r out
  |_=>out)
 |n+1,out,.agg cs=>jS hp n out cs
 |n+1,out,.aK cs=>jS hp n out cs
 |n+1,out,.bz _ cs=>jS hp n out cs
 |n+1,out,.dm _ cs=>jS hp n out cs
 |_+1,out,_=>out
def jS (hp:List aw):Nat->List Nat->List AV->List Nat
 |0,out,_=>out
 |_+1,out,[]=>out
 |n+1,out,x::l=>jS hp n (aci hp n out x) l
end
def Mh (js:List Nat) (hp:List aw) (args:List AV):List AV:=((cZ (AV.Gy js hp) args).2).map (QN js)
def wV (js:List Nat) (x:AV) (h:List aw):Bool:=Nat.ble js.length h.length&&(x.closed h.length&&h.all (aw.closed h.length))
def BT (C:dp) (js:List Nat) (l:List (Sh×List mg)) (f:Nat) (args:List AV) (o:Oper) (s:AS Unit) (next:AS Unit->Prop):Prop:=
 okB (qU s.hp.length js&&((Mh js s.hp args).all (AV.closed js.length)&&(qf js js s.hp).all (aw.closed js.length)))
  (gN (cZ (AV.Gy js s.hp) args).1 (∃R:AV->List aw->Prop,aY C.P f (Mh js s.hp args) (qf js js s.hp) R/\∀(r:AV) (hp':List aw),R r hp'->Mb l r hp' fun x h=>okB (wV js x h) (next (AS.put { s with hp:=kz (nw js s.hp.length) js.length h s.hp } o.dst (s7 (nw js s.hp.length) x)))))
theorem BT.hfn {P:Program} {js:List Nat} {H:List aw} {f:Nat} {args:List AV} {R:AV->List aw->Prop} (hb:(qU H.length js&&((args.map (QN js)).all (AV.closed js.length)&&(qf js js H).all (aw.closed js.length)))=true)
  (hF:aY P f (args.map (QN js)) (qf js js H) R) (hR:∀r h,R r h->wV js r h=true):aY P f args H (fun r2 H2=>∃r h,R r h/\r2=s7 (nw js H.length) r/\H2=kz (nw js H.length) js.length h H):=by
 simp only[aqv] at hb;obtain⟨h1,h2,h3⟩:=hb;have hl:(qf js js H).length=js.length:=CB;have aH:∀i,i<js.length->nw js H.length i=sx js i:=fun i hi=>by
  unfold nw;rw[show Nat.blt i js.length=true from Nat.ble_eq_true_of_le hi]
 have:=aY.aep (g:=nw js H.length) (H:=H) hF (fun i o ho=>?_) (fun i i' hi tR he=>?_) (fun i hi=>?_) (by rw[hl];exact h2) (by rw[hl];exact h3) (fun r h hr=>?_)
 ·rw[hl,iL (fun x hx=>acg hx) args h2] at this;exact this
 ·have hi:i<js.length:=by rw[<-hl];exact(aqr.1 ho).1
  obtain⟨j,hj,hc⟩:=CA ho;rw[qV hi] at hj;obtain rfl:=aqs hj;rw[aH i hi];have QE:o.closed js.length=true:=aqF.1 h3 o (aqA ho);rcases hc with hc|⟨o',BH,rfl⟩
  ·have:=Mg h1 i hi;rw[aqx this] at hc;cases hc
  ·rw[BH,ach QE]
 ·rw[hl] at hi tR;rw[aH i hi,aH i' tR] at he;exact Gz h1 i i' hi tR he
 ·rw[hl] at hi ⊢;unfold nw
  cases hb:Nat.blt i js.length with
  |true=>have:i+1<=js.length:=aqQ hb;omega
  |false=>rfl
 ·have:=hR r h hr;simp only[wV,aqv] at this;rw[hl];exact⟨aqQ this.1,this.2.1,this.2.2⟩
def RW (C:dp) (sh:Sh) (l:List Nat) (o:Oper) (s:AS Unit) (next:AS Unit->Prop):Prop:=
 gN (nb l s).1 (match qS (nb l s).2 o.op with
  |some (f,args)=>gN (cZ (AV.bU (nb l s).2.hp) args).1 (opn [] sh fun x=>ay C.P f (cZ (AV.bU (nb l s).2.hp) args).2 x/\next ((nb l s).2.put o.dst x))
  |none=>False)
def Mi (s:AS Unit):Op->Option (Nat×List AV)
 | .call c=>(match c.callee with
  | .value x=>(match s.ev x with
   | .dm f fst=>some (f,fst++c.args.toList.map s.ev)
   |_=>none)
  |_=>none)
 |_=>none
def zD (C:dp) (o:Oper) (s:AS Unit) (next:AS Unit->Prop):Prop:=
 match Mi s o.op with
 |some (f,args)=>(match Gx C f o with
  | .fX l=>BT C (jS s.hp 100 [] args) l f args o s next
  |_=>False)
 |none=>False
def aaP (C:dp) (o:Oper) (s:AS Unit) (next:AS Unit->Prop):Prop:=
 match qS s o.op with
 |some (f,args)=>(match Gx C f o with
  | .one sh=>gN (cZ (AV.bU s.hp) args).1 (opn [] sh fun x=>ay C.P f (cZ (AV.bU s.hp) args).2 x/\next (s.put o.dst x))
  | .bz f'=>gN (cZ (AV.bU s.hp) args).1 (ay C.P f (cZ (AV.bU s.hp) args).2 (.bz f' (boxed (cZ (AV.bU s.hp) args).2))/\next (s.put o.dst (.bz f' (boxed (cZ (AV.bU s.hp) args).2))))
  | .y _=>False
  | .frz sh=>RW C sh (DU args) o s next
  | .alts l=>gN (cZ (AV.bU s.hp) args).1 (∃R:AV->Prop,Pure C.P f (cZ (AV.bU s.hp) args).2 R/\∀r:AV,R r->DX l r fun x=>next (s.put o.dst x))
  | .raw l=>gN (cZ (AV.mh 0 s.hp) args).1 (∃R:AV->Prop,Pure C.P f (cZ (AV.mh 0 s.hp) args).2 R/\∀r:AV,R r->DX l r fun x=>next (s.put o.dst x))
  | .heap n l=>okB ((cZ (AV.mh (s.hp.take n).length s.hp) args).2.all (AV.closed (s.hp.take n).length)&&(s.hp.take n).all (aw.closed (s.hp.take n).length))
    (gN (cZ (AV.mh (s.hp.take n).length s.hp) args).1 (∃R:AV->List aw->Prop,aY C.P f (cZ (AV.mh (s.hp.take n).length s.hp) args).2 (s.hp.take n) R/\∀(r:AV) (hp':List aw),R r hp'->Mb l r hp' fun x h=>okB (Nat.beq h.length (s.hp.take n).length) (next (AS.put { s with hp:=h++s.hp.drop n } o.dst x))))
  | .fresh e size=>gN (cZ (AV.bU s.hp) args).1 (∃els:List AV,MFn C.P f (cZ (AV.bU s.hp) args).2 e size els/\next (AS.put { s with hp:=s.hp++[.bj e size els] } o.dst (.own s.hp.length els.length)))
  | .fX l=>BT C (jS s.hp 100 [] args) l f args o s next)
 |none=>zD C o s next
def xZ (nt:Nat):Option Nat->Bool
 |none=>true
 |some d=>Nat.blt d nt
theorem jg {nt:Nat} {d:Option Nat} (h:xZ nt d=true):dC nt d:=by
 cases d with
 |none=>trivial
 |some d=>exact aqQ (show Nat.ble (d+1) nt=true from h)
def acj (tab:Nat->Option TD) (hp:List aw) (ρ:Operand->AV):Op->Option (List Prop×AV×List aw)
 | .call c=>(match c.callee,c.args.toList,c.argTypes.toList with
  | .builtin .append,[b,x],[T,T']=>if T=T' then(match tab T with
   |some d=>(match d.kind with
    | .lU e=>(match tab e,(ρ x).mZ hp with
     |some d',some (cs,aJ)=>if 0<d'.size then(match ρ b with
      | .clip []=>some (cs++[bw d' (([]:List AV).length+aJ.length) [] aJ],.own hp.length ([]++aJ).length,hp++[.bj e d'.size ([]++aJ)])
      |_=>none) else none
     |_,_=>none)
    |_=>none)
   |none=>none) else none
  |_,_,_=>none)
 |_=>none
theorem XR {Γ:Env Unit} {s:AS Unit} (aE:Γ.Ok) {tab:Nat->Option TD} (aA:bc Γ.P tab) {o:Oper} {cs:List Prop} {r:AV} {hp':List aw} (h:acj tab s.hp s.ev o.op=some (cs,r,hp')) (hc:eA cs):gL Γ o s r hp':=by
 generalize ho:o.op=op at h;unfold acj at h;split at h
 ·split at h
  ·rename_i c b x T T' DW aN dJ;split at h
   ·rename_i heq;subst heq;split at h
    ·rename_i d hd;split at h
     ·rename_i e hk;split at h
      ·rename_i d' gi aJ ef hx;split at h
       ·rename_i cx;split at h
        ·rename_i hb;simp only[aqq,aqt] at h;obtain⟨rfl,rfl,rfl⟩:=h;rw[bP] at hc;exact DL aE aA ho DW aN dJ hd hk ef (ie hx hc.1) (els:=[]) (.inr hb) cx (fun _=>rfl) hc.2.1
        ·cases h
       ·cases h
      ·cases h
     ·cases h
    ·cases h
   ·cases h
  ·cases h
 ·cases h
def Kr (C:dp) (o:Oper) (s:AS Unit) (next:AS Unit->Prop):Option Prop:=
 match qS s o.op with
 |some (f,args)=>(match C.ext.1 f with
  |some x=>(match abV x s.hp args with
   |some (r,hp')=>some (next (AS.put { s with hp:=hp' } o.dst r))
   |none=>none)
  |none=>none)
 |none=>none
theorem O5 {C:dp} {Γ:Env Unit} (aE:Γ.Ok) (hP:C.P=Γ.P) {o:Oper} {s:AS Unit} {next:AS Unit->Prop} {p:Prop} (h:Kr C o s next=some p) (hp:p):∃r hp',gL Γ o s r hp'/\next (AS.put { s with hp:=hp' } o.dst r):=by
 unfold Kr at h;split at h
 ·rename_i f args aN;split at h
  ·rename_i x hx;split at h
   ·rename_i r hp' hr;obtain rfl:=aqs h;have hX:=C.ext.2 f x hx;rw[hP] at hX;rw[lL] at aN;unfold ma at aN;split at aN
    ·rename_i c hc;split at aN
     ·rename_i y hy;split at aN
      ·rename_i f' caps dK;simp only[aqq,aqt] at aN;obtain⟨rfl,rfl⟩:=aN;exact⟨r,hp',Ki aE hX hc hy dK hr,hp⟩
      ·cases aN
     ·cases aN
    ·cases aN
   ·cases h
  ·cases h
 ·cases h
def aaQ (C:dp) (o:Oper) (s:AS Unit) (next:AS Unit->Prop):Option Prop:=
 match C.mt with
 |true=>(match acj C.tab s.hp s.ev o.op with
  |some (cs,r,hp')=>some (gN cs (next (AS.put { s with hp:=hp' } o.dst r)))
  |none=>none)
 |false=>none
def inN:List Nat->Nat->Bool
 | [],_=>false
 |x::l,k=>(match Nat.beq x k with
  |true=>true
  |false=>inN l k)
def bOp (mk:Bool) (tab:Nat->Option TD) (hp:List aw) (ρ:Operand->AV):Op->Option (List Prop×AV×List aw)
 | .buildSlice T n parts=>(match mk,qR tab T with
  |true,some (e,_,d')=>if((n=parts.toList.length/\tV 0 parts.toList=true/\n<=16777216/\n*d'.size<=16777216)/\Ge d'.size (cZ (AV.bU hp) (parts.toList.map fun p=>ρ p.2)).2=true)/\0<n/\0<d'.size then
    some ((cZ (AV.bU hp) (parts.toList.map fun p=>ρ p.2)).1,.own hp.length n,hp++[.row e d'.size (cZ (AV.bU hp) (parts.toList.map fun p=>ρ p.2)).2]) else none
  |_,_=>none)
 |_=>none
theorem ack {Γ:Env Unit} {s:AS Unit} (aE:Γ.Ok) {tab:Nat->Option TD} (aA:bc Γ.P tab) {mk:Bool} {o:Oper} {cs:List Prop} {r:AV} {hp':List aw} (h:bOp mk tab s.hp s.ev o.op=some (cs,r,hp')) (hc:eA cs):gL Γ o s r hp':=by
 generalize ho:o.op=op at h;unfold bOp at h;split at h
 ·split at h
  ·rename_i T n parts _ _ e d d' hs;split at h
   ·rename_i oX;simp only[aqq,aqt] at h;obtain⟨rfl,rfl,rfl⟩:=h;obtain⟨hd,hk,ef⟩:=zw hs;have hm:=cr (g:=AV.bK s.hp) (fun x=>dv) (parts.toList.map fun p=>s.ev p.2) hc;obtain⟨⟨⟨h1,h2,h3,h4⟩,h5⟩,h6,h7⟩:=oX;have hl:=zn h5;rw[<-hm,List.map_map] at hl ⊢;exact BS aE aA ho hd hk ef h1 h6 h7 h2 h3 h4 hl
   ·cases h
  ·cases h
 ·cases h
def RX (C:dp) (o:Oper) (s:AS Unit) (next:AS Unit->Prop):Option Prop:=
 match C.fz with
 |some l=>(match qOp (match o.dst with|some d=>inN l d|none=>false) C.tab s.hp s.ev o.op with
  |some (cs,r,hp')=>some (gN cs (next (AS.put { s with hp:=hp' } o.dst r)))
  |none=>(match bOp (match o.dst with|some d=>inN l d|none=>false) C.tab s.hp s.ev o.op with
   |some (cs,r,hp')=>some (gN cs (next (AS.put { s with hp:=hp' } o.dst r)))
   |none=>none))
 |none=>none
theorem GA:∀{l:List Prop},eA l->∀p∈l,p
 |c::l,h,p,hp=>by
  rcases aqZ.1 hp with rfl|hp
  ·exact h.1
  ·exact GA h.2 p hp
def jG (C:dp) (o:Oper) (s:AS Unit) (next:AS Unit->Prop):Prop:=
 match xZ C.nt o.dst with
 |false=>False
 |true=>(match J8 C.tab s.ev o.op with
  |some (els,b0)=>∀b:Bool,(els≠[]->b=!b0)->next (s.put o.dst (.ax (.bool b)))
  |none=>(match RX C o s next with
   |some p=>p
   |none=>(match abQ C.tab s.ev o.op with
   |some r=>next (s.put o.dst r)
   |none=>(match O1 C.tab C.QM s.hp s.ev o.op (fun r=>next (s.put o.dst r)) with
    |some p=>p
    |none=>(match aaQ C o s next with
     |some p=>p
     |none=>(match RL C.tab s.hp s.ev o.op with
      |some (cs,r,hp')=>gN cs (next (AS.put { s with hp:=hp' } o.dst r))
      |none=>(match Gw C.tab s.hp s.ev o.op (fun r hp'=>next (AS.put { s with hp:=hp' } o.dst r)) with
      |some p=>p
      |none=>(match Kr C o s next with
       |some p=>p
       |none=>(match abX C.tab s.ev o.op with
        |some r=>next (s.put o.dst r)
        |none=>aaP C o s next)))))))))
variable {Γ:Env Unit} {s s':AS Unit} {a:Act} {w w':World} {η:List Value} {hp:List aw}
theorem zD.sound {C:dp} (aE:Γ.Ok) (hP:C.P=Γ.P) {o:Oper} (hd:dC Γ.nt o.dst) {next K:AS Unit->Prop} (h:zD C o s next) (hn:∀s,next s->K s):bO Γ o s K:=by
 unfold zD at h;split at h
 ·rename_i f args aN;unfold Mi at aN;split at aN
  ·rename_i c hc;split at aN
   ·rename_i x hx;split at aN
    ·rename_i f' fst dK;simp only[aqq,aqt] at aN;obtain⟨rfl,rfl⟩:=aN;split at h
     ·unfold BT at h;obtain⟨hb,h⟩:=cp h;rw[bF] at h;obtain⟨iV,R,g1,g2⟩:=h;rename_i l _;generalize jS s.hp 100 [] (fst++List.map s.ev c.args.toList)=js at *;have aN:=cr (g:=AV.Kp js s.hp) (fun x=>zB) _ iV;rw[hP] at g1;have qt:=BT.hfn (R:=fun r h'=>R r h'/\wV js r h'=true) hb (g1.mono fun r h' hr=>⟨hr,(cp (jf (g2 r h' hr))).1⟩) (fun r h' hr=>hr.2);exact bO.aei aE hc hx dK qt (fun a w η us hr h=>by rw[<-aN];exact uv hr _ _ us h) hd fun r hp' hr=>by
       obtain⟨r',h',hr,rfl,rfl⟩:=hr;exact hn _ (cp (jf (g2 r' h' hr.1))).2
     ·exact h.elim
    ·cases aN
   ·cases aN
  ·cases aN
 ·exact h.elim
theorem RW.sound {C:dp} (aE:Γ.Ok) (hP:C.P=Γ.P) {sh:Sh} {l:List Nat} {o:Oper} (hd:dC Γ.nt o.dst) {next K:AS Unit->Prop} (h:RW C sh l o s next) (hn:∀s,next s->K s):bO Γ o s K:=by
 unfold RW at h;rw[bF] at h;obtain⟨hc,h⟩:=h;have hw:=uj (Γ:=Γ) aE l s hc;intro a w η Kc Qc hk hr;obtain⟨FE,rV⟩:=hw a w η hr;refine(?_:bO Γ o (nb l s).2 K) a w FE Kc Qc hk rV;split at h
 ·rename_i f args aN;rw[lL] at aN;unfold ma at aN;split at aN
  ·rename_i c hc;split at aN
   ·rename_i x hx;split at aN
    ·rename_i f' caps dK;simp only[aqq,aqt] at aN;obtain⟨rfl,rfl⟩:=aN;rw[bF] at h;obtain⟨iV,h⟩:=h;obtain⟨x',yq,CC⟩:=s8 h;rw[<-cr (g:=AV.bK (nb l s).2.hp) (fun x=>dv) _ iV,hP] at yq;exact bO.pure aE hc hx dK yq hd fun r hr=>by rw[hr];exact hn _ CC
    ·cases aN
   ·cases aN
  ·cases aN
 ·exact h.elim
theorem jG.sound {C:dp} (aE:Γ.Ok) (hP:C.P=Γ.P) (aA:bc Γ.P C.tab) (dS:C.nt=Γ.nt) {o:Oper} {next K:AS Unit->Prop} (h:jG C o s next) (hn:∀s,next s->K s):bO Γ o s K:=by
 unfold jG at h;split at h
 ·exact h.elim
 rename_i hd;have hd:=jg hd;rw[dS] at hd;split at h
 ·rename_i els b0 hx;exact bO.nil aA hx hd fun b hb=>hn _ (h b hb)
 split at h
 ·rename_i p hp;unfold RX at hp;split at hp
  ·split at hp
   ·rename_i cs r hp' hm;obtain rfl:=aqs hp;rw[bF] at h;exact bO.dQ (ab4 aE aA hm h.1) hd (hn _ h.2)
   ·split at hp
    ·rename_i cs r hp' hm;obtain rfl:=aqs hp;rw[bF] at h;exact bO.dQ (ack aE aA hm h.1) hd (hn _ h.2)
    ·cases hp
  ·cases hp
 split at h
 ·rename_i r hx;exact bO.val aE (J7 aA hx) hd (hn _ h)
 split at h
 ·rename_i p hp;obtain⟨c,r,h1,h2,h3⟩:=yp hp h;exact bO.val aE (sV aE aA h1 h2) hd (hn _ h3)
 split at h
 ·rename_i p hp;unfold aaQ at hp;split at hp
  ·split at hp
   ·rename_i cs r hp' hm;obtain rfl:=aqs hp;rw[bF] at h;exact bO.dQ (XR aE aA hm h.1) hd (hn _ h.2)
   ·cases hp
  ·cases hp
 split at h
 ·rename_i cs r hp' hs;rw[bF] at h;exact bO.dQ (RQ aE aA hs (GA h.1)) hd (hn _ h.2)
 split at h
 ·rename_i p hp;obtain⟨c,r,hp',h1,h2,h3⟩:=rZ hp h;exact bO.dQ (jO aE aA h1 h2) hd (hn _ h3)
 split at h
 ·rename_i p hp;obtain⟨r,hp',h1,h2⟩:=O5 aE hP hp h;exact bO.dQ h1 hd (hn _ h2)
 split at h
 ·rename_i r hx;exact bO.val aE (Kk aA hx) hd (hn _ h)
 unfold aaP at h;split at h
 ·rename_i f args aN;rw[lL] at aN;unfold ma at aN;split at aN
  ·rename_i c hc;split at aN
   ·rename_i x hx;split at aN
    ·rename_i f' caps dK;simp only[aqq,aqt] at aN;obtain⟨rfl,rfl⟩:=aN;split at h
     ·rw[bF] at h;obtain⟨iV,h⟩:=h;obtain⟨x',yq,CC⟩:=s8 h;rw[<-cr (g:=AV.bK s.hp) (fun x=>dv) _ iV,hP] at yq;exact bO.pure aE hc hx dK yq hd fun r hr=>by rw[hr];exact hn _ CC
     ·rw[bF] at h;obtain⟨iV,yq,CC⟩:=h;rw[<-cr (g:=AV.bK s.hp) (fun x=>dv) _ iV] at yq CC;rw[hP] at yq;exact bO.pure aE hc hx dK yq hd fun r hr=>by rw[hr];exact hn _ CC
     ·exact h.elim
     ·exact RW.sound aE hP hd h hn
     ·rw[bF] at h;obtain⟨iV,R,yq,CC⟩:=h;rw[<-cr (g:=AV.bK s.hp) (fun x=>dv) _ iV,hP] at yq;exact bO.pure aE hc hx dK yq hd fun r hr=>hn _ (vU (CC r hr))
     ·rw[bF] at h;obtain⟨iV,R,yq,CC⟩:=h;have aN:=cr (g:=AV.s6 0 s.hp) (fun x=>qT) _ iV;rw[hP] at yq;exact bO.aej aE hc hx dK yq (fun a w η us hr h=>by rw[<-aN];exact og hr _ us h) hd fun r hr=>hn _ (vU (CC r hr))
     ·rename_i n l aew;obtain⟨hb,h⟩:=cp h;rw[bF] at h;obtain⟨iV,R,g1,g2⟩:=h;rw[aqv] at hb;have aN:=cr (g:=AV.s6 (s.hp.take n).length s.hp) (fun x=>qT) _ iV;rw[hP] at g1;have qt:=aY.frame (more:=s.hp.drop n) (R:=fun r h'=>R r h'/\h'.length=(s.hp.take n).length) (g1.mono fun r h' hr=>⟨hr,aqN (cp (jf (g2 r h' hr))).1⟩) (fun r h' hr=>hr.2) hb.1 hb.2;rw[ars] at qt;exact bO.Rz aE hc hx dK qt (fun a w η us hr h=>by rw[<-aN];exact Gk hr _ _ us h) hd fun r hp' hr=>by
       obtain⟨h',rfl,hr,_⟩:=hr;exact hn _ (cp (jf (g2 r h' hr))).2
     ·rw[bF] at h;obtain⟨iV,els,yq,CC⟩:=h;rw[<-cr (g:=AV.bK s.hp) (fun x=>dv) _ iV,hP] at yq;exact bO.fresh aE hc hx dK yq hd (hn _ CC)
     ·unfold BT at h;obtain⟨hb,h⟩:=cp h;rw[bF] at h;obtain⟨iV,R,g1,g2⟩:=h;rename_i l _;generalize jS s.hp 100 [] (List.map s.ev c.args.toList++caps)=js at *;have aN:=cr (g:=AV.Kp js s.hp) (fun x=>zB) _ iV;rw[hP] at g1;have qt:=BT.hfn (R:=fun r h'=>R r h'/\wV js r h'=true) hb (g1.mono fun r h' hr=>⟨hr,(cp (jf (g2 r h' hr))).1⟩) (fun r h' hr=>hr.2);exact bO.Rz aE hc hx dK qt (fun a w η us hr h=>by rw[<-aN];exact uv hr _ _ us h) hd fun r hp' hr=>by
       obtain⟨r',h',hr,rfl,rfl⟩:=hr;exact hn _ (cp (jf (g2 r' h' hr.1))).2
    ·cases aN
   ·cases aN
  ·cases aN
 ·exact zD.sound aE hP hd h hn
def KG (l:List Oper) (o:Oper) (s:AS Unit) (run skip:AS Unit->Prop):Prop:=
 match o.guard with
 |none=>run s
 |some (j,want)=>(match (l[j]?).bind (·.dst) with
  |some d=>(match s.tmps d with
   | .ax (.bool b)=>az b (match want with|true=>run (s.put (some d) (.ax (.bool true)))|false=>skip (s.put (some d) (.ax (.bool true))))
     (match want with|true=>skip (s.put (some d) (.ax (.bool false)))|false=>run (s.put (some d) (.ax (.bool false))))
   | .ax (.tuple _)=>skip s
   |_=>False)
  |none=>False)
theorem GB {d:Nat} {x:AV} (h:s.tmps d=x):s.put (some d) x=s:=by
 cases s with
 |mk f hp g=>
  simp only[AS.put]
  congr 1
  funext t
  rw[gV];split
  ·rename_i ht;subst ht;exact h.symm
  ·rfl
theorem KG.cases {l:List Oper} {o:Oper} {run skip:AS Unit->Prop} (h:KG l o s run skip):
  (o.guard=none/\run s)\/(∃j want b,o.guard=some (j,want)/\kx l.toArray s j=some (some b)/\((b=want/\run s)\/(¬b=want/\skip s)))\/(∃j want,o.guard=some (j,want)/\kx l.toArray s j=some none/\skip s):=by
 unfold KG at h;split at h
 ·rename_i hg;exact .inl ⟨hg,h⟩
 ·rename_i j want hg;split at h
  ·rename_i d hd;split at h
   ·rename_i b hb;refine .inr (.inl ⟨j,want,b,hg,?_,?_⟩)
    ·unfold kx;simp only[ar6,hd,hb]
    ·have:=h.elim
     cases b with
     |true=>
      have h1:=this.1 rfl;rw[GB hb] at h1
      cases want with
      |true=>exact .inl ⟨rfl,h1⟩
      |false=>exact .inr ⟨by simp,h1⟩
     |false=>
      have h1:=this.2 rfl;rw[GB hb] at h1
      cases want with
      |true=>exact .inr ⟨by simp,h1⟩
      |false=>exact .inl ⟨rfl,h1⟩
   ·rename_i v hb;refine .inr (.inr ⟨j,want,hg,?_,h⟩);unfold kx;simp only[ar6,hd,hb]
   ·exact h.elim
  ·exact h.elim
def uw (C:dp) (l0:List Oper) (K:AS Unit->Prop):List Oper->AS Unit->Prop
 | [],s=>K s
 |o::rest,s=>KG l0 o s (fun s=>jG C o s (uw C l0 K rest)) (fun s=>match xZ C.nt o.dst with|true=>uw C l0 K rest (s.put o.dst (.ax (.tuple #[])))|false=>False)
theorem uw.RZ {C:dp} (aE:Γ.Ok) (hP:C.P=Γ.P) (aA:bc Γ.P C.tab) (dS:C.nt=Γ.nt) {l0 rest:List Oper} {K K':AS Unit->Prop} (hK:∀s,K' s->iG Γ l0.toArray K rest s):∀(l:List Oper) (s:AS Unit),uw C l0 K' l s->iG Γ l0.toArray K (l++rest) s:=by
 intro l
 induction l with
 |nil=>intro s h;exact hK s h
 |cons o l ih=>
  intro s h;have skip:(match xZ C.nt o.dst with|true=>uw C l0 K' l (s.put o.dst (.ax (.tuple #[])))|false=>False)->dC Γ.nt o.dst/\iG Γ l0.toArray K (l++rest) (s.put o.dst (.ax (.tuple #[]))):=by
   intro h;split at h
   ·rename_i hd;exact⟨by rw[<-dS];exact jg hd,ih _ h⟩
   ·exact h.elim
  rw[arK];rcases KG.cases h with⟨hg,h⟩|⟨j,want,b,hg,hb,⟨kh,h⟩|⟨kh,h⟩⟩|⟨j,want,hg,hb,h⟩
  ·exact iG.step (fun a w η _=>by simp[Region.wanted,hg]) (jG.sound aE hP aA dS h ih)
  ·exact iG.step (fun a w η hr=>by simp[Region.wanted,hg,eS hr hb,kh]) (jG.sound aE hP aA dS h ih)
  ·obtain⟨h1,h2⟩:=skip h;exact iG.skip (fun a w η hr=>by simp[Region.wanted,hg,eS hr hb,kh]) h1 h2
  ·obtain⟨h1,h2⟩:=skip h;exact iG.skip (fun a w η hr=>by simp[Region.wanted,hg,eS hr hb]) h1 h2
theorem uw.sound {C:dp} (aE:Γ.Ok) (hP:C.P=Γ.P) (aA:bc Γ.P C.tab) (dS:C.nt=Γ.nt) {l0:List Oper} {K:AS Unit->Prop} (l:List Oper) (s:AS Unit) (h:uw C l0 K l s):iG Γ l0.toArray K l s:=by
 have:=uw.RZ aE hP aA dS (rest:=[]) (fun s h a w η Qc hQ hr=>hQ s a w η h hr) l s h
 rwa [aqR] at this
def zE (x:Operand) (d:Nat):Bool:=
 match x with
 | .tmp t=>Nat.beq t d
 |_=>false
theorem zF {x:Operand} {d:Nat} (h:zE x d=true):x=.tmp d:=by
 unfold zE at h;split at h
 ·rw[aqN h]
 ·cases h
def rm1 (C:dp) (s:AS Unit) (o:Oper):Option (Nat×Nat×TD×Int×Nat):=
 match o.guard,o.op,o.dst with
 |none,.call c,some d1=>(match c.callee,c.args.toList,c.argTypes.toList with
  | .builtin .append,[b,z],[T,T']=>(match s.ev b,s.ev z,qR C.tab T,(C.tab T').map TD.kind with
   | .ax (.slice none 0 0),.ax (.int .i64 n),some (e,_,d'),some (.int _)=>some (T,e,d',n,d1)
   |_,_,_,_=>none)
  |_,_,_=>none)
 |_,_,_=>none
def rm2 (s:AS Unit) (o:Oper) (d1:Nat):Option Nat:=
 match o.guard,o.op,o.dst with
 |none,.move x,some d2=>(match s.ev x,zE x d1 with
  | .ax (.slice none 0 0),false=>some d2
  |_,_=>none)
 |_,_,_=>none
def rm3 (o:Oper) (T d2:Nat):Option Nat:=
 match o.guard,o.op,o.dst with
 |none,.call c,some d3=>(match c.callee,c.args.toList,c.argTypes.toList with
  | .builtin .len,[x],[T3]=>(match zE x d2&&Nat.beq T3 T with
   |true=>some d3
   |false=>none)
  |_,_,_=>none)
 |_,_,_=>none
def rm4 (o:Oper) (T d1 d3:Nat):Option Nat:=
 match o.guard,o.op,o.dst with
 |none,.slice T4 x none (some y) none,some d4=>(match Nat.beq T4 T&&(zE x d1&&zE y d3) with
  |true=>some d4
  |false=>none)
 |_,_,_=>none
def rmB (nt d1 d2 d3 d4:Nat) (d:TD):Bool:=(Nat.blt d1 nt&&(Nat.blt d2 nt&&(Nat.blt d3 nt&&Nat.blt d4 nt)))&&((!Nat.beq d1 d2&&!Nat.beq d1 d3)&&Nat.blt 0 d.size)
def GC (C:dp) (l0:List Oper) (K:AS Unit->Prop) (s:AS Unit):List Oper->Prop
 |o1::o2::o3::o4::rest=>(match rm1 C s o1 with
  |some (T,e,d',n,d1)=>(match rm2 s o2 d1 with
   |some d2=>(match rm3 o3 T d2 with
    |some d3=>(match rm4 o4 T d1 d3 with
     |some d4=>okB (rmB C.nt d1 d2 d3 d4 d') ((0<n/\n.toNat<=maxLen/\n.toNat*d'.bytes<=140737488355328)/\
       uw C l0 K rest (AS.put (AS.put (AS.put (AS.put { s with hp:=s.hp++[.row e d'.size []] } (some d1) .top) (some d2) (.ax (.slice none 0 0))) (some d3) (.ax (.int .i64 0))) (some d4) (.own s.hp.length 0)))
     |none=>False)
    |none=>False)
   |none=>False)
  |none=>False)
 |_=>False
theorem GC.sound {C:dp} (aE:Γ.Ok) (hP:C.P=Γ.P) (aA:bc Γ.P C.tab) (dS:C.nt=Γ.nt) {l0:List Oper} {K:AS Unit->Prop} {l:List Oper} {s:AS Unit} (h:GC C l0 K s l):iG Γ l0.toArray K l s:=by
 unfold GC at h;split at h
 ·rename_i o1 o2 o3 o4 rest;split at h
  ·rename_i T e d' n d1 h1;split at h
   ·rename_i d2 h2;split at h
    ·rename_i d3 h3;split at h
     ·rename_i d4 h4;obtain⟨hb,⟨hn,hm,JG⟩,hkr⟩:=cp h;unfold rmB at hb;simp only[aqv,arc] at hb;obtain⟨⟨l1,l2,l3,l4⟩,⟨n12,n13⟩,cx⟩:=hb;have aH:∀{d:Nat},Nat.blt d C.nt=true->d<Γ.nt:=fun h=>by rw[<-dS];exact aqQ h
      have cg:∀{x y:Nat},Nat.beq x y=false->x≠y:=fun h e=>by subst e;rw[Nat.beq_refl] at h;cases h
      obtain⟨m,rfl⟩:∃m:Nat,n=(m:Int):=⟨n.toNat,by omega⟩;rw[arv] at hm JG;unfold rm1 at h1;split at h1
      ·rename_i c1 d1' g1 p1 t1;split at h1
       ·rename_i b z T1 T' DW aN dJ;split at h1
        ·rename_i dd ik qD hzv hs hT';simp only[aqq,aqt] at h1;obtain⟨rfl,rfl,rfl,rfl,rfl⟩:=h1;obtain⟨q1,q2,q3⟩:=zw hs;obtain⟨dz,q4,q5⟩:=aro.1 hT';unfold rm2 at h2;split at h2
         ·rename_i x d2' g2 p2 t2;split at h2
          ·rename_i hx hxd;obtain rfl:=aqs h2;unfold rm3 at h3;split at h3
           ·rename_i c3 d3' g3 p3 t3;split at h3
            ·rename_i y T3 aex acm aj2;split at h3
             ·rename_i hb3;obtain rfl:=aqs h3;rw[aqv] at hb3;have ey:=zF hb3.1;have eT:=aqN hb3.2;subst ey;subst eT;unfold rm4 at h4;split at h4
              ·rename_i T4 x4 y4 d4' g4 p4 t4;split at h4
               ·rename_i hb4;obtain rfl:=aqs h4;simp only[aqv] at hb4;have e1:=zF hb4.2.1;have e2:=zF hb4.2.2;have e3:=aqN hb4.1;subst e1;subst e2;subst e3;exact iG.room aE aA (n:=m) g1 g2 g3 g4 p1 DW (by rw[<-aq8 (xs:=c1.args),aN]) (by rw[<-aq8 (xs:=c1.argTypes),dJ]) q1 q2 q3 q4 q5 (aqQ cx) qD hzv (by omega) hm JG
                 p2 hx (fun e=>by rw[e] at hxd;simp[zE] at hxd) p3 aex (by rw[<-aq8 (xs:=c3.args),acm]) (by rw[<-aq8 (xs:=c3.argTypes),aj2]) p4 t1 t2 t3 t4 (aH l1) (aH l2) (aH l3) (aH l4) (cg n12) (cg n13) (uw.sound aE hP aA dS _ _ hkr)
               ·cases h4
              ·cases h4
             ·cases h3
            ·cases h3
           ·cases h3
          ·cases h2
         ·cases h2
        ·cases h1
       ·cases h1
      ·cases h1
     ·exact h.elim
    ·exact h.elim
   ·exact h.elim
  ·exact h.elim
 ·exact h.elim
def aey:List (Nat×Nat)->Nat->Option Nat
 | [],_=>none
 |p::l,k=>(match Nat.beq p.1 k with
  |true=>some p.2
  |false=>aey l k)
def GD (C:dp) (id:Nat) (l:List Oper) (K:AS Unit->Prop) (s:AS Unit):Prop:=
 match aey C.rm id with
 |none=>uw C l K l s
 |some k=>uw C l (fun s=>GC C l K s (l.drop k)) (l.take k) s
theorem GD.sound {C:dp} (aE:Γ.Ok) (hP:C.P=Γ.P) (aA:bc Γ.P C.tab) (dS:C.nt=Γ.nt) {id:Nat} {K:AS Unit->Prop} {l:List Oper} {s:AS Unit} (h:GD C id l K s):iG Γ l.toArray K l s:=by
 unfold GD at h;split at h
 ·exact uw.sound aE hP aA dS l s h
 ·rename_i k _;have:=uw.RZ aE hP aA dS (rest:=l.drop k) (fun s h=>GC.sound aE hP aA dS h) _ _ h
  rwa [ars] at this
def mm (C:dp) (o:Oper) (s:AS Unit) (next:AS Unit->Prop):Prop:=
 match O1 C.tab C.QM s.hp s.ev o.op (fun r=>next (s.put o.dst r)) with
 |some p=>p
 |none=>(match qS s o.op with
  |some (f,args)=>(match Gx C f o with
   | .one sh=>gN (cZ (AV.bU s.hp) args).1 (opn [] sh fun x=>ay C.P f (cZ (AV.bU s.hp) args).2 x/\next (s.put o.dst x))
   |_=>False)
  |none=>False)
theorem mm.sound {C:dp} (hP:C.P=Γ.P) {o:Oper} {next N R:AS Unit->Prop} (h:mm C o s next) (h1:∀s,next s->N s) (h2:∀s,next s->R s):DStep Γ C.tab o s N R:=by
 unfold mm at h;split at h
 ·rename_i p hp;obtain⟨c,r,g1,g2,g3⟩:=yp hp h;unfold DStep;rw[g1];exact⟨g2,h1 _ g3⟩
 ·split at h
  ·rename_i f args aN;split at h
   rotate_left
   ·exact h.elim
   rw[bF] at h;obtain⟨iV,h⟩:=h;obtain⟨x',yq,CC⟩:=s8 h;rw[<-cr (g:=AV.bK s.hp) (fun x=>dv) _ iV,hP] at yq;rw[lL] at aN;unfold ma at aN;split at aN
   ·rename_i c hc;split at aN
    ·rename_i x hx;split at aN
     ·rename_i f' caps dK;simp only[aqq,aqt] at aN;obtain⟨rfl,rfl⟩:=aN;unfold DStep;rw[hc];have Xr:bL C.tab s.hp s.ev (.call c)=none:=by simp only[bL,hx]
      have sE:fQ s (.call c)=some (f',(c.args.toList.map s.ev++caps).map (AV.bK s.hp)):=by simp only[fQ,hx,dK]
      rw[Xr,sE];exact⟨x',yq,h2 _ CC⟩
     ·cases aN
    ·cases aN
   ·cases aN
  ·exact h.elim
def ux (C:dp) (l0:List Oper) (K:AS Unit->Prop):List Oper->AS Unit->Prop
 | [],s=>K s
 |o::rest,s=>(match xZ C.nt o.dst with
  |false=>False
  |true=>(match cI o.op with
   |true=>(match o.guard with
    |none=>(match Gw C.tab s.hp s.ev o.op (fun r hp'=>ux C l0 K rest (AS.put { s with hp:=hp' } o.dst r)) with
     |some p=>p
     |none=>False)
    |some _=>False)
   |false=>KG l0 o s (fun s=>mm C o s (ux C l0 K rest)) (fun s=>ux C l0 K rest (s.put o.dst (.ax (.tuple #[]))))))
theorem ux.sound {C:dp} (aE:Γ.Ok) (hP:C.P=Γ.P) (aA:bc Γ.P C.tab) (dS:C.nt=Γ.nt) {l0:List Oper} {K:AS Unit->Prop}:∀(l:List Oper) (s:AS Unit),ux C l0 K l s->nY Γ C.tab C.nt l0.toArray K l s:=by
 intro l
 induction l with
 |nil=>intro s h;exact h
 |cons o rest ih=>
  intro s h;simp only[ux] at h;simp only[nY];split at h
  ·exact h.elim
  rename_i hd;have hd:=jg hd;split at h
  ·rename_i he;rw[if_pos he];split at h
   ·rename_i hg;split at h
    ·rename_i p hp;obtain⟨c,r,hp',g1,g2,g3⟩:=rZ hp h;rw[g1];exact⟨hd,hg,g2,ih _ g3⟩
    ·exact h.elim
   ·exact h.elim
  ·rename_i he;rw[if_neg (by rw[he];simp)];refine⟨hd,?_⟩;have oe:∀s,ux C l0 K rest s->vN Γ l0.toArray K rest s:=fun s h=>nY.sound aE aA dS rest s (ih s h);rcases KG.cases h with⟨hg,h⟩|⟨j,want,b,hg,hb,⟨kh,h⟩|⟨kh,h⟩⟩|⟨j,want,hg,hb,h⟩
   ·rw[hg];exact mm.sound hP h ih oe
   ·rw[hg];dsimp only;rw[hb];exact⟨fun _=>mm.sound hP h ih oe,fun hn=>(hn kh).elim⟩
   ·rw[hg];dsimp only;rw[hb];exact⟨fun hn=>(kh hn).elim,fun _=>ih _ h⟩
   ·rw[hg];dsimp only;rw[hb];exact ih _ h
def XS (ρ:Operand->AV):Op->Option Nat
 | .store _ p _=>(match ρ p with | .ptr r _=>some r | .fV r _ _ _=>some r|_=>none)
 | .mapUpdate _ m _ _=>(match ρ m with | .mp r=>some r|_=>none)
 | .call c=>(match c.args.toList with
  |b::_=>(match ρ b with | .own r _=>some r|_=>none)
  | []=>none)
 |_=>none
theorem acn {tab:Nat->Option TD} {hp hp':List aw} {ρ:Operand->AV} {op:Op} {c:Prop} {r:AV} (h:eh tab hp ρ op=some (c,r,hp')):
  (∃o,hp'=hp++[o])\/∃q o,XS ρ op=some q/\hp'=hp.set q o:=by
 cases op with
 |alloc T=>
  simp only[eh] at h;split at h
  ·simp only[aqq,aqt] at h;exact .inl ⟨_,h.2.2.symm⟩
  ·cases h
 |box T x=>
  simp only[eh] at h;split at h
  ·simp only[aqq,aqt] at h;exact .inl ⟨_,h.2.2.symm⟩
  ·cases h
 |store T p x=>
  simp only[eh] at h;split at h
  ·rename_i d r' o hd jC;split at h
   ·split at h
    ·simp only[aqq,aqt] at h;exact .inr ⟨r',_,by simp only[XS,jC],h.2.2.symm⟩
    ·cases h
   ·cases h
  ·rename_i d r' m i z hd jC;split at h
   ·split at h
    ·split at h
     ·simp only[aqq,aqt] at h;exact .inr ⟨r',_,by simp only[XS,jC],h.2.2.symm⟩
     ·simp only[aqq,aqt] at h;exact .inr ⟨r',_,by simp only[XS,jC],h.2.2.symm⟩
    ·cases h
   ·cases h
  ·cases h
 |makeSlice T l c=>
  simp only[eh] at h;split at h
  ·split at h
   ·split at h
    ·split at h
     ·split at h
      ·simp only[aqq,aqt] at h;exact .inl ⟨_,h.2.2.symm⟩
      ·cases h
     ·cases h
    split at h
    ·simp only[aqq,aqt] at h;exact .inl ⟨_,h.2.2.symm⟩
    ·cases h
   ·cases h
  ·cases h
 |makeMap T x=>
  cases x with
  |some x=>simp[eh] at h
  |none=>
   simp only[eh] at h;split at h
   ·split at h
    ·split at h
     ·split at h
      ·simp only[aqq,aqt] at h;exact .inl ⟨_,h.2.2.symm⟩
      ·simp only[aqq,aqt] at h;exact .inl ⟨_,h.2.2.symm⟩
     ·cases h
    ·cases h
   ·cases h
 |mapUpdate T m k x=>
  simp only[eh] at h;split at h
  ·rename_i d r' a v hd hm hk hx;split at h
   ·split at h
    ·split at h
     ·simp only[aqq,aqt] at h;exact .inr ⟨r',_,by simp only[XS,hm],h.2.2.symm⟩
     ·cases h
    ·cases h
   ·cases h
  ·rename_i d r' a v hd hm hk hx;split at h
   ·split at h
    ·split at h
     ·simp only[aqq,aqt] at h;exact .inr ⟨r',_,by simp only[XS,hm],h.2.2.symm⟩
     ·cases h
    ·cases h
   ·cases h
  ·cases h
 |call c=>
  simp only[eh] at h;split at h
  ·rename_i b x T T' hb hl hT;split at h
   ·split at h
    ·split at h
     ·split at h
      ·split at h
       ·simp only[aqq,aqt] at h;exact .inl ⟨_,h.2.2.symm⟩
       ·simp only[aqq,aqt] at h;exact .inl ⟨_,h.2.2.symm⟩
       ·rename_i r' n qD;split at h
        ·split at h
         ·simp only[aqq,aqt] at h;exact .inr ⟨r',_,by simp only[XS,hl,qD],h.2.2.symm⟩
         ·cases h
        ·split at h
         ·simp only[aqq,aqt] at h;exact .inr ⟨r',_,by simp only[XS,hl,qD],h.2.2.symm⟩
         ·cases h
        ·cases h
       ·cases h
      ·cases h
     ·cases h
    ·cases h
   ·cases h
  ·cases h
 |_=>simp[eh] at h
theorem oc.same (l:List Nat):∀(hp:List aw) (q:Nat) (more:List aw),oc l q hp (hp++more)
 | [],_,_=>True.intro
 |_::hp,q,more=>⟨.inr rfl,oc.same l hp (q+1) more⟩
theorem oc.refl (l:List Nat) (hp:List aw) (q:Nat):oc l q hp hp:=by
 have:=oc.same l hp q []
 rwa [aqR] at this
theorem oc.set (l:List Nat):∀(hp:List aw) (q r:Nat) (o:aw),q+r∈l->oc l q hp (hp.set r o)
 | [],_,_,_,_=>True.intro
 |_::hp,q,0,o,h=>⟨.inl h,oc.refl l hp (q+1)⟩
 |_::hp,q,r+1,o,h=>⟨.inr rfl,oc.set l hp (q+1) r o (by rw[show q+1+r=q+(r+1) from by omega];exact h)⟩
def Ks:List Nat->Nat->Bool
 | [],_=>false
 |x::l,k=>(match Nat.beq x k with|true=>true|false=>Ks l k)
theorem D3:∀{l:List Nat} {k:Nat},Ks l k=true->k∈l
 | [],_,h=>by cases h
 |x::l,k,h=>by
  simp only[Ks] at h;split at h
  ·rename_i hx;rw[aqN hx];exact aqG
  ·exact aqI _ (D3 h)
def qW:List (Option (List Nat))->Nat->Option (List Nat)
 | [],_=>none
 |x::_,0=>x
 |_::l,n+1=>qW l n
theorem fG:∀(l:List (Option (List Nat))) (n:Nat),qW l n=l.getD n none
 | [],n=>by simp[qW]
 |x::l,0=>by simp[qW]
 |x::l,n+1=>by simp only[qW,fG l n,List.getD_cons_succ]
def R0 (m:Option (List Nat)) (ρ:Operand->AV) (op:Op):Bool:=
 match m with
 |none=>true
 |some l=>(match XS ρ op with
  |none=>true
  |some q=>Ks l q)
theorem D4 {tab:Nat->Option TD} {hp hp':List aw} {ρ:Operand->AV} {op:Op} {c:Prop} {r:AV} {m:Option (List Nat)} (hb:R0 m ρ op=true) (h:eh tab hp ρ op=some (c,r,hp')):
  ∀l,m=some l->oc l 0 hp hp':=by
 intro l hm;subst hm
 ·rcases acn h with⟨o,rfl⟩|⟨q,o,hq,rfl⟩
  ·exact oc.same l hp 0 [o]
  ·simp only[R0,hq] at hb;exact oc.set l hp 0 q o (by rw[aqV];exact D3 hb)
def fH (C:dp) (m:Option (List Nat)) (o:Oper) (s:AS Unit) (next:AS Unit->Prop):Prop:=
 match ic o.op with
 |true=>(match O1 C.tab C.QM s.hp s.ev o.op (fun r=>next (s.put o.dst r)) with
  |some p=>p
  |none=>False)
 |false=>(match m with
  |none=>mm C o s next
  |some K=>okB ((rX o.op).all fun x=>(s.ev x).closed (kill K s.hp).length) (okB ((kill K s.hp).all fun ob=>aw.closed (kill K s.hp).length ob)
   (match O1 C.tab C.QM (kill K s.hp) s.ev o.op (fun r=>okB (r.held (kill K s.hp)) (next (s.put o.dst r))) with
   |some p=>p
   |none=>(match qS s o.op with
    |some (f,args)=>(match Gx C f o with
     | .one sh=>gN (cZ (AV.bU (kill K s.hp)) args).1 (opn [] sh fun x=>ay C.P f (cZ (AV.bU (kill K s.hp)) args).2 x/\okB (x.held (kill K s.hp)) (next (s.put o.dst x)))
     |_=>False)
    |none=>False))))
theorem GF {s:AS Unit} {op:Op} {f:Nat} {args:List AV} (h:qS s op=some (f,args)) (tab:Nat->Option TD) (hp:List aw):
  bL tab hp s.ev op=none/\fQ { s with hp:=hp } op=some (f,args.map (AV.bK hp)):=by
 rw[lL] at h;unfold ma at h;split at h
 ·rename_i c;split at h
  ·rename_i x hx;split at h
   ·rename_i f' caps dK;simp only[aqq,aqt] at h;obtain⟨rfl,rfl⟩:=h;refine⟨by simp only[bL,hx],?_⟩;have aj3:(AS.ev { s with hp:=hp } x)=.bz f' caps:=by rw[<-dK];cases x<;>rfl
    have hm:c.args.toList.map (AS.ev { s with hp:=hp })=c.args.toList.map s.ev:=arD fun y _=>by cases y<;>rfl
    simp only[fQ,hx,aj3,hm]
   ·cases h
  ·cases h
 ·cases h
theorem fH.sound {C:dp} (hP:C.P=Γ.P) {m:Option (List Nat)} {o:Oper} {next N R:AS Unit->Prop} (h:fH C m o s next) (h1:∀s,next s->N s) (h2:∀s,next s->R s):jd Γ C.tab m o s N R:=by
 unfold fH at h;unfold jd;split at h
 ·rename_i hh;rw[if_pos hh];split at h
  ·rename_i p hp;obtain⟨c,r,g1,g2,g3⟩:=yp hp h;rw[g1];exact⟨g2,h1 _ g3⟩
  ·exact h.elim
 ·rename_i hh;rw[if_neg (by rw[hh];simp)]
  cases m with
  |none=>exact mm.sound hP h h1 h2
  |some K=>
   dsimp only at h ⊢;obtain⟨JV,h⟩:=cp h;obtain⟨QE,h⟩:=cp h;refine⟨JV,fun ob eX=>aqF.1 QE ob eX,?_⟩;split at h
   ·rename_i p hp;obtain⟨c,r,g1,g2,g3⟩:=yp hp h;obtain⟨g4,g5⟩:=cp g3;rw[g1];exact⟨g2,g4,h1 _ g5⟩
   ·split at h
    ·rename_i f args aN;split at h
     rotate_left
     ·exact h.elim
     rw[bF] at h;obtain⟨iV,h⟩:=h;obtain⟨x',yq,CC⟩:=s8 h;obtain⟨g4,g5⟩:=cp CC;rw[<-cr (g:=AV.bK (kill K s.hp)) (fun x=>dv) _ iV,hP] at yq;obtain⟨q1,q2⟩:=GF aN C.tab (kill K s.hp);rw[q1,q2];exact⟨x',yq,g4,h2 _ g5⟩
    ·exact h.elim
def uy (C:dp) (l0:List Oper) (Cl M:List (Option (List Nat))) (K:AS Unit->Prop):Nat->List Oper->AS Unit->Prop
 |_,[],s=>K s
 |k,o::rest,s=>(match xZ C.nt o.dst with
  |false=>False
  |true=>(match cI o.op with
   |true=>(match o.guard with
    |none=>okB (R0 (qW Cl k) s.ev o.op) (match Gw C.tab s.hp s.ev o.op (fun r hp'=>uy C l0 Cl M K (k+1) rest (AS.put { s with hp:=hp' } o.dst r)) with
     |some p=>p
     |none=>False)
    |some _=>False)
   |false=>KG l0 o s (fun s=>fH C (qW M k) o s (uy C l0 Cl M K (k+1) rest)) (fun s=>uy C l0 Cl M K (k+1) rest (s.put o.dst (.ax (.tuple #[]))))))
theorem uy.sound {C:dp} (aoq:Γ.Ok) (hP:C.P=Γ.P) (aA:bc Γ.P C.tab) (dS:C.nt=Γ.nt) {l0:List Oper} {Cl M:List (Option (List Nat))} {K:AS Unit->Prop}:∀(l:List Oper) (k:Nat) (s:AS Unit),uy C l0 Cl M K k l s->od Γ C.tab C.nt l0.toArray Cl M K k l s:=by
 intro l
 induction l with
 |nil=>intro k s h;exact h
 |cons o rest ih=>
  intro k s h;simp only[uy] at h;simp only[od];split at h
  ·exact h.elim
  rename_i hd;have hd:=jg hd;split at h
  ·rename_i he;rw[if_pos he];split at h
   ·rename_i hg;obtain⟨GG,h⟩:=cp h;split at h
    ·rename_i p hp;obtain⟨c,r,hp',g1,g2,g3⟩:=rZ hp h;have:=D4 GG g1;rw[fG] at this;rw[g1];refine⟨hd,hg,g2,?_,ih _ _ g3⟩;split
     ·trivial
     ·rename_i l hl;exact this l hl
    ·exact h.elim
   ·exact h.elim
  ·rename_i he;rw[if_neg (by rw[he];simp)];refine⟨hd,?_⟩;have oe:∀s,uy C l0 Cl M K (k+1) rest s->qe Γ l0.toArray Cl M K (k+1) rest s:=fun s h=>od.sound aA dS rest (k+1) s (ih _ s h);rcases KG.cases h with⟨hg,h⟩|⟨j,want,b,hg,hb,⟨kh,h⟩|⟨kh,h⟩⟩|⟨j,want,hg,hb,h⟩
   ·rw[hg];dsimp only;rw[fG] at h;exact fH.sound hP h (ih _) oe
   ·rw[hg];dsimp only;rw[hb];rw[fG] at h;exact⟨fun _=>fH.sound hP h (ih _) oe,fun hn=>(hn kh).elim⟩
   ·rw[hg];dsimp only;rw[hb];exact⟨fun hn=>(kh hn).elim,fun _=>ih _ _ h⟩
   ·rw[hg];dsimp only;rw[hb];exact ih _ _ h
def bu (hs:List Nat) (o:Oper):Bool:=
 match o.op with
 | .call c=>(match c.callee with
  | .value (.func f)=>Ks hs f
  | .value (.tmp t)=>Ks hs (t+1000000)
  |_=>false)
 |_=>false
def sJ (C:dp) (hs:List Nat) (l0:List Oper) (K:AS Unit->Prop):List Oper->AS Unit->Prop
 | [],s=>K s
 |o::rest,s=>(match xZ C.nt o.dst with
  |false=>False
  |true=>(match cI o.op with
   |true=>(match o.guard with
    |none=>(match Gw C.tab s.hp s.ev o.op (fun r hp'=>sJ C hs l0 K rest (AS.put { s with hp:=hp' } o.dst r)) with
     |some p=>p
     |none=>False)
    |some _=>False)
   |false=>(match bu hs o with
    |true=>KG l0 o s (fun s=>jG C o s (sJ C hs l0 K rest)) (fun s=>sJ C hs l0 K rest (s.put o.dst (.ax (.tuple #[]))))
    |false=>KG l0 o s (fun s=>mm C o s (sJ C hs l0 K rest)) (fun s=>sJ C hs l0 K rest (s.put o.dst (.ax (.tuple #[])))))))
theorem sJ.sound {C:dp} (aE:Γ.Ok) (hP:C.P=Γ.P) (aA:bc Γ.P C.tab) (dS:C.nt=Γ.nt) {hs:List Nat} {l0:List Oper} {K:AS Unit->Prop}:∀(l:List Oper) (s:AS Unit),sJ C hs l0 K l s->kZ Γ l0.toArray (bu hs) K l s:=by
 intro l
 induction l with
 |nil=>intro s h;exact h
 |cons o rest ih=>
  intro s h;simp only[sJ] at h;simp only[kZ];split at h
  ·exact h.elim
  rename_i hd;have hd:=jg hd;rw[dS] at hd;split at h
  ·rename_i he;rw[if_pos he];split at h
   ·rename_i hg;split at h
    ·rename_i p hp;obtain⟨c,r,hp',g1,g2,g3⟩:=rZ hp h;exact⟨hd,hg,r,hp',jO aE aA g1 g2,ih _ g3⟩
    ·exact h.elim
   ·exact h.elim
  ·rename_i he;rw[if_neg (by rw[he];simp)];split at h
   ·rename_i hh;rw[if_pos hh];rcases KG.cases h with⟨hg,h⟩|⟨j,want,b,hg,hb,⟨kh,h⟩|⟨kh,h⟩⟩|⟨j,want,hg,hb,h⟩
    ·exact .inl ⟨by simp[aV,hg],jG.sound aE hP aA dS h ih⟩
    ·exact .inl ⟨by simp[aV,hg,hb,kh],jG.sound aE hP aA dS h ih⟩
    ·exact .inr ⟨by simp[aV,hg,hb,kh],hd,ih _ h⟩
    ·exact .inr ⟨by simp[aV,hg,hb],hd,ih _ h⟩
   ·rename_i hh;rw[if_neg (by rw[hh];simp)];rcases KG.cases h with⟨hg,h⟩|⟨j,want,b,hg,hb,⟨kh,h⟩|⟨kh,h⟩⟩|⟨j,want,hg,hb,h⟩
    ·obtain⟨x,h3,h4⟩:=DStep.sound (ops:=l0.toArray) aE aA (mm.sound (Γ:=Γ) (N:=kZ Γ l0.toArray (bu hs) K rest) (R:=kZ Γ l0.toArray (bu hs) K rest) hP h ih ih) (fun _ h=>h) (fun _ h=>h);exact⟨x,⟨hd,.inl ⟨by simp[aV,hg],h3⟩⟩,h4⟩
    ·obtain⟨x,h3,h4⟩:=DStep.sound (ops:=l0.toArray) aE aA (mm.sound (Γ:=Γ) (N:=kZ Γ l0.toArray (bu hs) K rest) (R:=kZ Γ l0.toArray (bu hs) K rest) hP h ih ih) (fun _ h=>h) (fun _ h=>h);exact⟨x,⟨hd,.inl ⟨by simp[aV,hg,hb,kh],h3⟩⟩,h4⟩
    ·exact⟨_,⟨hd,.inr ⟨by simp[aV,hg,hb,kh],rfl⟩⟩,ih _ h⟩
    ·exact⟨_,⟨hd,.inr ⟨by simp[aV,hg,hb],rfl⟩⟩,ih _ h⟩
def sK (C:dp) (hs:List Nat) (l0:List Oper) (Cl M:List (Option (List Nat))) (K:AS Unit->Prop):Nat->List Oper->AS Unit->Prop
 |_,[],s=>K s
 |k,o::rest,s=>(match xZ C.nt o.dst with
  |false=>False
  |true=>(match cI o.op with
   |true=>(match o.guard with
    |none=>okB (R0 (qW Cl k) s.ev o.op) (match Gw C.tab s.hp s.ev o.op (fun r hp'=>sK C hs l0 Cl M K (k+1) rest (AS.put { s with hp:=hp' } o.dst r)) with
     |some p=>p
     |none=>False)
    |some _=>False)
   |false=>(match bu hs o with
    |true=>KG l0 o s (fun s=>jG C o s (sK C hs l0 Cl M K (k+1) rest)) (fun s=>sK C hs l0 Cl M K (k+1) rest (s.put o.dst (.ax (.tuple #[]))))
    |false=>KG l0 o s (fun s=>fH C (qW M k) o s (sK C hs l0 Cl M K (k+1) rest)) (fun s=>sK C hs l0 Cl M K (k+1) rest (s.put o.dst (.ax (.tuple #[])))))))
theorem sK.sound {C:dp} (aE:Γ.Ok) (hP:C.P=Γ.P) (aA:bc Γ.P C.tab) (dS:C.nt=Γ.nt) {hs:List Nat} {l0:List Oper} {Cl M:List (Option (List Nat))} {K:AS Unit->Prop}:∀(l:List Oper) (k:Nat) (s:AS Unit),sK C hs l0 Cl M K k l s->lb Γ l0.toArray (bu hs) Cl M K k l s:=by
 intro l
 induction l with
 |nil=>intro k s h;exact h
 |cons o rest ih=>
  intro k s h;simp only[sK] at h;simp only[lb];split at h
  ·exact h.elim
  rename_i hd;have hd:=jg hd;rw[dS] at hd;split at h
  ·rename_i he;rw[if_pos he];split at h
   ·rename_i hg;obtain⟨GG,h⟩:=cp h;split at h
    ·rename_i p hp;obtain⟨c,r,hp',g1,g2,g3⟩:=rZ hp h;have:=D4 GG g1;rw[fG] at this;refine⟨hd,hg,r,hp',fun ue DR e1 e2 e3=>jO DR (tab:=C.tab) (by rw[e1];exact aA) (c:=c) ?_ g2,?_,ih _ _ g3⟩
     ·rw[<-g1];exact sY fun x hx=>lg hx
     ·unfold mc;split
      ·trivial
      ·rename_i l' hl;have qt:=oc.fr (l:=l') s.hp hp' 0 (this l' hl);exact⟨qt.1,fun i ob hi ho=>qt.2 i ob (by simpa using hi) ho⟩
    ·exact h.elim
   ·exact h.elim
  ·rename_i he;rw[if_neg (by rw[he];simp)];split at h
   ·rename_i hh;rw[if_pos hh];rcases KG.cases h with⟨hg,h⟩|⟨j,want,b,hg,hb,⟨kh,h⟩|⟨kh,h⟩⟩|⟨j,want,hg,hb,h⟩
    ·exact .inl ⟨by simp[aV,hg],jG.sound aE hP aA dS h (ih (k+1))⟩
    ·exact .inl ⟨by simp[aV,hg,hb,kh],jG.sound aE hP aA dS h (ih (k+1))⟩
    ·exact .inr ⟨by simp[aV,hg,hb,kh],hd,ih _ _ h⟩
    ·exact .inr ⟨by simp[aV,hg,hb],hd,ih _ _ h⟩
   ·rename_i hh;rw[if_neg (by rw[hh];simp)];rcases KG.cases h with⟨hg,h⟩|⟨j,want,b,hg,hb,⟨kh,h⟩|⟨kh,h⟩⟩|⟨j,want,hg,hb,h⟩
    ·rw[fG] at h;obtain⟨x,h3,h4⟩:=jd.sound (ops:=l0.toArray) aA (fH.sound (Γ:=Γ) (N:=lb Γ l0.toArray (bu hs) Cl M K (k+1) rest) (R:=lb Γ l0.toArray (bu hs) Cl M K (k+1) rest) hP h (ih (k+1)) (ih (k+1))) (fun _ h=>h) (fun _ h=>h) (.inl hg);exact⟨x,⟨hd,.inl ⟨by simp[aV,hg],h3⟩⟩,h4⟩
    ·rw[fG] at h;obtain⟨x,h3,h4⟩:=jd.sound (ops:=l0.toArray) aA (fH.sound (Γ:=Γ) (N:=lb Γ l0.toArray (bu hs) Cl M K (k+1) rest) (R:=lb Γ l0.toArray (bu hs) Cl M K (k+1) rest) hP h (ih (k+1)) (ih (k+1))) (fun _ h=>h) (fun _ h=>h) (.inr ⟨j,want,_,hg,hb⟩);exact⟨x,⟨hd,.inl ⟨by simp[aV,hg,hb,kh],h3⟩⟩,h4⟩
    ·exact⟨_,⟨hd,.inr ⟨by simp[aV,hg,hb,kh],rfl⟩⟩,ih _ _ h⟩
    ·exact⟨_,⟨hd,.inr ⟨by simp[aV,hg,hb],rfl⟩⟩,ih _ _ h⟩
def XT:List (Nat×List Nat)->Nat->Option (List Nat)
 | [],_=>none
 |p::l,k=>(match Nat.beq p.1 k with|true=>some p.2|false=>XT l k)
def aco:List (Nat×List (Option (List Nat))×List (Option (List Nat)))->Nat->Option (List (Option (List Nat))×List (Option (List Nat)))
 | [],_=>none
 |p::l,k=>(match Nat.beq p.1 k with|true=>some p.2|false=>aco l k)
end Go.Proofs.YtnkjkpmbgoehkaaGreat
