/- Texts of ours laid together for a claim: VcC. -/
import Derived.Test.YtdcikhleahfknaaGreatDoorQ22
namespace Go.Proofs.YtdcikhleahfknaaGreatDoor
open Go
set_option linter.unusedSimpArgs false
set_option linter.unusedVariables false
inductive vN where
 |i (k:IntKind)
 |b
 |s
 |l
 |c
 |m
 |ms
 |k (x:AV)
 |o (r:Nat)
 |fn
 |q (x:AV)
inductive r4 where
 |c (x:vN)
 |a (l:List vN)
inductive Sh where
 |v (x:r4)
 |t (l:List r4)
 |f (fn:Nat) (l:List r4)
 |m (fn:Nat) (l:List r4)
inductive kf where
 |dead
 |box (l:List vN)
 |row (e size:Nat)
 |aJ
 |fR
 |cU (r:Nat)
 |aQ (e size:Nat)
 |dN (e:Nat)
def qo:List Nat->Nat->Nat
 | [],_=>0
 |x::_,0=>x
 |_::l,n+1=>qo l n
def Yy (lens:List Nat):vN->(AV->Prop)->Prop
 | .i k,P=>∃n:Int,P (.ae (.int k n))
 | .b,P=>∃b:Bool,P (.ae (.bool b))
 | .s,P=>∃s:ByteArray,P (.ae (.string s))
 | .l,P=>∃l:List AV,P (.sl l)
 | .c,P=>∃l:List AV,P (.clip l)
 | .m,P=>∃l:List (Int×Value),P (.eG (.i l))
 | .ms,P=>∃l:List (ByteArray×Value),P (.eG (.s l))
 | .k x,P=>P x
 | .o r,P=>P (.own r (qo lens r))
 | .fn,P=>∃v:Value,P (.fn v)
 | .q x,P=>P x
def JK (lens:List Nat):List vN->(List AV->Prop)->Prop
 | [],P=>P []
 |sh::l,P=>Yy lens sh fun x=>JK lens l fun xs=>P (x::xs)
def N6 (lens:List Nat):r4->(AV->Prop)->Prop
 | .c x,P=>Yy lens x P
 | .a l,P=>JK lens l fun cs=>P (.agg cs)
def Ed (lens:List Nat):List r4->(List AV->Prop)->Prop
 | [],P=>P []
 |sh::l,P=>N6 lens sh fun x=>Ed lens l fun xs=>P (x::xs)
def Yz (lens:List Nat):Sh->(AV->Prop)->Prop
 | .v x,P=>N6 lens x P
 | .t l,P=>Ed lens l fun cs=>P (.aL cs)
 | .f fn l,P=>Ed lens l fun cs=>P (.aY fn cs)
 | .m fn l,P=>Ed lens l fun cs=>P (.dm fn cs)
theorem JL {lens:List Nat} {sh:vN} {P:AV->Prop} (h:Yy lens sh P):∃x,P x:=by
 cases sh with
 |i k=>obtain⟨n,h⟩:=h;exact⟨_,h⟩
 |b=>obtain⟨n,h⟩:=h;exact⟨_,h⟩
 |s=>obtain⟨n,h⟩:=h;exact⟨_,h⟩
 |q x=>exact⟨_,h⟩
 |l=>obtain⟨n,h⟩:=h;exact⟨_,h⟩
 |c=>obtain⟨n,h⟩:=h;exact⟨_,h⟩
 |m=>obtain⟨n,h⟩:=h;exact⟨_,h⟩
 |ms=>obtain⟨n,h⟩:=h;exact⟨_,h⟩
 |fn=>obtain⟨n,h⟩:=h;exact⟨_,h⟩
 |k x=>exact⟨_,h⟩
 |o r=>exact⟨_,h⟩
theorem xm {lens:List Nat}:∀{l:List vN} {P:List AV->Prop},JK lens l P->∃xs,P xs
 | [],_,h=>⟨_,h⟩
 |_::_,_,h=>by
  obtain⟨x,h⟩:=JL h;obtain⟨xs,h⟩:=xm h;exact⟨_,h⟩
theorem wa {lens:List Nat} {sh:r4} {P:AV->Prop} (h:N6 lens sh P):∃x,P x:=by
 cases sh with
 |c x=>exact JL h
 |a l=>obtain⟨cs,h⟩:=xm h;exact⟨_,h⟩
theorem r5 {lens:List Nat}:∀{l:List r4} {P:List AV->Prop},Ed lens l P->∃xs,P xs
 | [],_,h=>⟨_,h⟩
 |_::_,_,h=>by
  obtain⟨x,h⟩:=wa h;obtain⟨xs,h⟩:=r5 h;exact⟨_,h⟩
theorem qS {lens:List Nat} {sh:Sh} {P:AV->Prop} (h:Yz lens sh P):∃x,P x:=by
 cases sh with
 |v x=>exact wa h
 |t l=>obtain⟨cs,h⟩:=r5 h;exact⟨_,h⟩
 |f fn l=>obtain⟨cs,h⟩:=r5 h;exact⟨_,h⟩
 |m fn l=>obtain⟨cs,h⟩:=r5 h;exact⟨_,h⟩
def Tf:List kf->(List (List AV)->Prop)->Prop
 | [],P=>P []
 | .row _ _::l,P | .aQ _ _::l,P=>∃els:List AV,Tf l fun ls=>P (els::ls)
 |_::l,P=>Tf l fun ls=>P ([]::ls)
def N7:List (List AV)->List Nat
 | []=>[]
 |l::ls=>l.length::N7 ls
def aaH (lens:List Nat):kf->List AV->(af->Prop)->Prop
 | .dead,_,P=>P .dead
 | .box l,_,P=>JK lens l fun cs=>P (.box cs)
 | .row e size,els,P=>P (.row e size els)
 | .aQ e size,els,P=>P (.aQ e size els)
 | .aJ,_,P=>∃es:List (Int×Value),P (.aJ (.i es))
 | .cU r,_,P=>P (.cU r (qo lens r))
 | .fR,_,P=>∃es:List (ByteArray×Value),P (.aJ (.s es))
 | .dN _,_,_=>False
def N8 (lens:List Nat):List kf->List (List AV)->(List af->Prop)->Prop
 | [],_,P=>P []
 |o::l,els::ls,P=>aaH lens o els fun x=>N8 lens l ls fun xs=>P (x::xs)
 |_::_,[],_=>False
theorem Tg {l:List kf}:∀{P:List (List AV)->Prop},Tf l P->∃ls,P ls:=by
 induction l with
 |nil=>intro P h;exact⟨_,h⟩
 |cons o l ih=>
  intro P h
  cases o with
  |row e size=>obtain⟨els,h⟩:=h;obtain⟨ls,h⟩:=ih h;exact⟨_,h⟩
  |aQ e size=>obtain⟨els,h⟩:=h;obtain⟨ls,h⟩:=ih h;exact⟨_,h⟩
  |dead=>obtain⟨ls,h⟩:=ih (P:=fun ls=>P ([]::ls)) h;exact⟨_,h⟩
  |box l=>obtain⟨ls,h⟩:=ih (P:=fun ls=>P ([]::ls)) h;exact⟨_,h⟩
  |aJ=>obtain⟨ls,h⟩:=ih (P:=fun ls=>P ([]::ls)) h;exact⟨_,h⟩
  |fR=>obtain⟨ls,h⟩:=ih (P:=fun ls=>P ([]::ls)) h;exact⟨_,h⟩
  |cU r=>obtain⟨ls,h⟩:=ih (P:=fun ls=>P ([]::ls)) h;exact⟨_,h⟩
  |dN e=>obtain⟨ls,h⟩:=ih (P:=fun ls=>P ([]::ls)) h;exact⟨_,h⟩
theorem Th {lens:List Nat} {o:kf} {els:List AV} {P:af->Prop} (h:aaH lens o els P):∃x,P x:=by
 cases o with
 |dead=>exact⟨_,h⟩
 |box l=>obtain⟨cs,h⟩:=xm h;exact⟨_,h⟩
 |row e size=>exact⟨_,h⟩
 |aQ e size=>exact⟨_,h⟩
 |aJ=>obtain⟨es,h⟩:=h;exact⟨_,h⟩
 |fR=>obtain⟨es,h⟩:=h;exact⟨_,h⟩
 |cU r=>exact⟨_,h⟩
 |dN e=>exact h.elim
theorem Ee {lens:List Nat}:∀{l:List kf} {ls:List (List AV)} {P:List af->Prop},N8 lens l ls P->∃xs,xs.length=l.length/\P xs
 | [],_,_,h=>⟨[],rfl,h⟩
 |_::_,[],_,h=>h.elim
 |o::l,els::ls,P,h=>by
  obtain⟨x,h⟩:=Th h;obtain⟨xs,hl,h⟩:=Ee h;exact⟨x::xs,by simp[hl],h⟩
def YA (a:Sh×List kf) (r:AV) (hp':List af) (k:AV->List af->Prop):Prop:=
 Tf a.2 fun ls=>N8 (N7 ls) a.2 ls fun h=>Yz (N7 ls) a.1 fun x=>(r=x/\hp'=h)/\k x h
def JM:List (Sh×List kf)->AV->List af->(AV->List af->Prop)->Prop
 | [],_,_,_=>False
 | [a],r,hp',k=>YA a r hp' k
 |a::l,r,hp',k=>YA a r hp' k\/JM l r hp' k
def Xi (a:Sh) (r:AV) (k:AV->Prop):Prop:=Yz [] a fun x=>r=x/\k x
def Bz:List Sh->AV->(AV->Prop)->Prop
 | [],_,_=>False
 | [a],r,k=>Xi a r k
 |a::l,r,k=>Xi a r k\/Bz l r k
theorem JN {a:Sh×List kf} {r:AV} {hp':List af} {k:AV->List af->Prop} (h:YA a r hp' k):k r hp':=by
 obtain⟨ls,h⟩:=Tg h;obtain⟨hs,_,h⟩:=Ee h;obtain⟨x,⟨rfl,rfl⟩,h⟩:=qS h;exact h
theorem gY:∀{l:List (Sh×List kf)} {r:AV} {hp':List af} {k:AV->List af->Prop},JM l r hp' k->k r hp'
 | [],_,_,_,h=>h.elim
 | [_],_,_,_,h=>JN h
 |_::_::_,_,_,_,h=>h.elim JN gY
theorem tS:∀{l:List Sh} {r:AV} {k:AV->Prop},Bz l r k->k r
 | [],_,_,h=>h.elim
 | [_],_,_,h=>by obtain⟨x,rfl,h⟩:=qS h;exact h
 |_::_::_,_,_,h=>h.elim (fun h=>by obtain⟨x,rfl,h⟩:=qS h;exact h) tS
def Xj (tab:Nat->Option TD) (hp:List af) (ρ:Operand->AV):Op->Option (List Prop×List AV×Int×Nat×Nat)
 | .indexAddr T x i=>(match tab T with
  |some d=>(match d.kind with
   | .jS e=>(match tab e,(ρ x).kZ hp,ρ i with
    |some d',some (cs,els),.ae (.int _ n)=>some (cs,els,n,e,d'.size)
    |_,_,_=>none)
   |_=>none)
  |none=>none)
 |_=>none
def YB (tab:Nat->Option TD) (hp:List af) (ρ:Operand->AV):Op->Option (Prop×AV)
 | .indexAddr T x i=>(match tJ hp (ρ x) with
  |some (r,m,e',size,k)=>(match tab T with
   |some d=>(match d.kind with
    | .jS e=>(match tab e,ρ i with
     |some d',.ae (.int _ n)=>if e'=e/\size=d'.size then some (0<=n/\n<m/\m=k,.fa r m n.toNat size) else none
     |_,_=>none)
    |_=>none)
   |none=>none)
  |none=>none)
 |_=>none
theorem Ti {tab:Nat->Option TD} {hp:List af} {ρ:Operand->AV} {op:Op} {c:Prop} {r:AV} (h:YB tab hp ρ op=some (c,r)):bC tab hp ρ op=some (c,r):=by
 unfold YB at h;split at h
 ·rename_i T x i;split at h
  ·rename_i q m e' size k' hm;split at h
   ·rename_i d hd;split at h
    ·rename_i e hk;split at h
     ·rename_i d' k n dv hi;obtain⟨hx,els,qi,_⟩:=pH hm;have Ln:(ρ x).gN hp=none:=by rw[hx];simp only[AV.gN,qi]
      simp only[bC,hd,hk,dv,Ln,hi,hm];exact h
     ·cases h
    ·cases h
   ·cases h
  ·cases h
 ·cases h
def YC (tab:Nat->Option TD) (ρ:Operand->AV):Op->Option AV
 | .indexAddr T x (.const c)=>(match tab T with
  |some d=>(match d.kind with
   | .arr m=>(match ρ x,ρ (.const c) with
    | .ptr r 0,.ae (.int _ (.ofNat j))=>(match Nat.blt j m with|true=>some (.ptr r j)|false=>none)
    | .aS e 0,.ae (.int _ (.ofNat j))=>(match Nat.blt j m with|true=>some (.aS e j)|false=>none)
    |_,_=>none)
   |_=>none)
  |none=>none)
 |_=>none
theorem Tj {tab:Nat->Option TD} {hp:List af} {ρ:Operand->AV} {op:Op} {r:AV} (h:YC tab ρ op=some r):∃c,bC tab hp ρ op=some (c,r)/\c:=by
 unfold YC at h;split at h
 ·rename_i T x c;split at h
  ·rename_i d hd;split at h
   ·rename_i m hk;split at h
    ·rename_i r' k j hx hc;split at h
     ·rename_i hb;obtain rfl:=alw h;have ak:j<m:=alZ hb;refine⟨0<=(Int.ofNat j)/\(Int.ofNat j)<m,?_,Int.natCast_nonneg _,Int.ofNat_lt.2 ak⟩;simp only[bC,hd,hk,hx,hc];rfl
     ·cases h
    ·rename_i e k j hx hc;split at h
     ·rename_i hb;obtain rfl:=alw h;have ak:j<m:=alZ hb;refine⟨0<=(Int.ofNat j)/\(Int.ofNat j)<m,?_,Int.natCast_nonneg _,Int.ofNat_lt.2 ak⟩;simp only[bC,hd,hk,hx,hc];rfl
     ·cases h
    ·cases h
   ·cases h
  ·cases h
 ·cases h
def YD (tab:Nat->Option TD) (ρ:Operand->AV):Op->Option (Nat×Int×Nat)
 | .indexAddr T x i=>(match tab T with
  |some d=>(match d.kind with
   | .arr m=>(match ρ x,ρ i with
    | .ptr r 0,.ae (.int _ n)=>some (r,n,m)
    |_,_=>none)
   |_=>none)
  |none=>none)
 |_=>none
theorem Tk {tab:Nat->Option TD} {hp:List af} {ρ:Operand->AV} {op:Op} {r:Nat} {n:Int} {m:Nat} (h:YD tab ρ op=some (r,n,m)):bC tab hp ρ op=some (0<=n/\n<m,.ptr r n.toNat):=by
 unfold YD at h;split at h
 ·rename_i T x i;split at h
  ·rename_i d hd;split at h
   ·rename_i m' hk;split at h
    ·rename_i r' k n' hx hi;simp only[als,alx] at h;obtain⟨rfl,rfl,rfl⟩:=h;simp only[bC,hd,hk,hx,hi]
    ·cases h
   ·cases h
  ·cases h
 ·cases h
def HH (n:Int) (k:Nat->Prop):Nat->Nat->Prop
 |0,_=>False
 |1,j=>k j
 |f+2,j=>ah (n==(j:Int)) (k j) (HH n k (f+1) (j+1))
theorem zV {n:Int} {k:Nat->Prop}:∀(f j:Nat),(j:Int)<=n->n<(j:Int)+f->HH n k f j->k n.toNat
 |0,j,h1,h2,_=>by omega
 |1,j,h1,h2,h=>by
  have:n.toNat=j:=by omega
  rw[this];exact h
 |f+2,j,h1,h2,h=>by
  by_cases e:n=(j:Int)
  ·have h':=h.elim.1 (by simpa using e);have:n.toNat=j:=by omega
   rw[this];exact h'
  ·exact zV (f+1) (j+1) (by omega) (by omega) (h.elim.2 (by simpa using e))
def ldM (tab:Nat->Option TD) (hp:List af) (ρ:Operand->AV):Op->Option (Prop×List AV×Nat×Nat×Bool)
 | .load T x=>(match ρ x with
  | .fa r m i z=>(match hp[r]?,tab T with
   |some (.aQ _ z' els),some d=>(match Nat.beq z' z&&Nat.beq d.size z with
    |true=>some (m=els.length,els,i,T,d.kind.agg)
    |false=>none)
   |_,_=>none)
  |_=>none)
 |_=>none
theorem YE {tab:Nat->Option TD} {hp:List af} {ρ:Operand->AV} {op:Op} {els:List AV} {i T:Nat} {b:Bool} {c:Prop} (h:ldM tab hp ρ op=some (c,els,i,T,b)):bC tab hp ρ op=some (c/\i<els.length/\(els.getD i .top).isAgg=b,els.getD i .top):=by
 unfold ldM at h;split at h
 ·rename_i T' x;split at h
  ·rename_i r m i' z hx;split at h
   ·rename_i e z' lO d hr hd;split at h
    ·rename_i hb;rw[alB] at hb;simp only[als,alx] at h;obtain⟨rfl,rfl,rfl,rfl,rfl⟩:=h;simp only[bC,hd,hx,hr];rw[if_pos ⟨alT hb.1,alT hb.2⟩]
    ·cases h
   ·cases h
  ·cases h
 ·cases h
def sized (size:Nat) (x:AV) (p:Prop):Prop:=if x.cells.length=size then p else False
def YF (b:Bool) (x:AV) (p:Prop):Prop:=match x.isAgg==b with|true=>p|false=>False
def Lq (tab:Nat->Option TD) (M0:Nat->r4) (hp:List af) (ρ:Operand->AV) (op:Op) (k:AV->Prop):Option Prop:=
 match Xj tab hp ρ op with
 |some (cs,els,n,e,size)=>some (fC cs (0<=n/\n<els.length/\N6 [] (M0 e) fun x=>els.getD n.toNat .top=x/\sized size x (k (.aS x 0))))
 |none=>(match YB tab hp ρ op with
  |some (c,r)=>some (c/\k r)
  |none=>(match pv tab hp ρ op with
   |some (cs,r)=>some (fC cs (k r))
   |none=>(match YC tab ρ op with
    |some r=>some (k r)
    |none=>(match YD tab ρ op with
     |some (r,n,m)=>some ((0<=n/\n<m)/\HH n (fun j=>k (.ptr r j)) m 0)
     |none=>(match ldM tab hp ρ op with
      |some (c,els,i,T,b)=>some (c/\i<els.length/\N6 [] (M0 T) fun x=>els.getD i .top=x/\YF b x (k x))
      |none=>none)))))
theorem Tl {b:Bool} {x:AV} {p:Prop} (h:YF b x p):x.isAgg=b/\p:=by
 unfold YF at h;split at h
 ·rename_i hb;exact⟨by cases b<;>cases hx:x.isAgg<;>simp_all,h⟩
 ·exact h.elim
theorem wb {tab:Nat->Option TD} {M0:Nat->r4} {hp:List af} {ρ:Operand->AV} {op:Op} {k:AV->Prop} {p:Prop} (h:Lq tab M0 hp ρ op k=some p) (qk:p):∃c r,bC tab hp ρ op=some (c,r)/\c/\k r:=by
 unfold Lq at h;split at h
 ·rename_i cs els n e size lW;obtain rfl:=alw h;rw[bt] at qk;obtain⟨hc,h0,h1,h2⟩:=qk;obtain⟨x,hx,hk⟩:=wa h2;unfold sized at hk;split at hk
  ·rename_i hs;unfold Xj at lW;split at lW
   ·rename_i T y i;split at lW
    ·rename_i d hd;split at lW
     ·rename_i e' D9;split at lW
      ·rename_i d' cs' lO ik n' dv hy hi;simp only[als,alx] at lW;obtain⟨rfl,rfl,rfl,rfl,rfl⟩:=lW;have Ln:=fQ hy hc;refine⟨0<=n'/\n' < lO.length/\(lO.getD n'.toNat .top).cells.length=d'.size,.aS (lO.getD n'.toNat .top) 0,by simp only[bC,hd,D9,dv,Ln,hi],⟨h0,h1,by rw[hx];exact hs⟩,by rw[hx];exact hk⟩
      ·cases lW
     ·cases lW
    ·cases lW
   ·cases lW
  ·exact hk.elim
 ·split at h
  ·rename_i c r hm;obtain rfl:=alw h;exact⟨c,r,Ti hm,qk.1,qk.2⟩
  split at h
  ·rename_i cs r hpv;obtain rfl:=alw h;rw[bt] at qk;obtain⟨c,h1,h2⟩:=aap hpv qk.1;exact⟨c,r,h1,h2,qk.2⟩
  split at h
  ·rename_i r hi;obtain rfl:=alw h;obtain⟨c,h1,h2⟩:=Tj hi;exact⟨c,r,h1,h2,qk⟩
  ·split at h
   ·rename_i r n m hi;obtain rfl:=alw h;exact⟨_,_,Tk hi,qk.1,zV m 0 (by simpa using qk.1.1) (by simpa using qk.1.2) qk.2⟩
   ·split at h
    ·rename_i c els i T b hl;obtain rfl:=alw h;obtain⟨h0,h1,h2⟩:=qk;obtain⟨x,hx,hk⟩:=wa h2;obtain⟨h3,h4⟩:=Tl hk;exact⟨_,_,YE hl,⟨h0,h1,by rw[hx];exact h3⟩,by rw[hx];exact h4⟩
    ·cases h
def Ef (tab:Nat->Option TD) (hp:List af) (ρ:Operand->AV) (op:Op) (k:AV->List af->Prop):Option Prop:=
 match hv tab hp ρ op with
 |some (cs,r,hp')=>some (fC cs (k r hp'))
 |none=>none
theorem pN {tab:Nat->Option TD} {hp:List af} {ρ:Operand->AV} {op:Op} {k:AV->List af->Prop} {p:Prop} (h:Ef tab hp ρ op k=some p) (qk:p):∃c r hp',dy tab hp ρ op=some (c,r,hp')/\c/\k r hp':=by
 unfold Ef at h;split at h
 ·rename_i cs r hp' hh;obtain rfl:=alw h;rw[bt] at qk;obtain⟨c,h1,h2⟩:=aaq hh qk.1;exact⟨c,r,hp',h1,h2,qk.2⟩
 ·cases h
def oR (s:AS Unit):Op->Option (Nat×List AV)
 | .call c=>(match c.callee with
  | .value x=>(match s.ev x with
   | .aY f caps=>some (f,c.args.toList.map s.ev++caps)
   |_=>none)
  |_=>none)
 |_=>none
theorem jN (s:AS Unit) (op:Op):oR s op=j7 s op:=rfl
inductive Di where
 |one (sh:Sh)
 |alts (l:List Sh)
 |heap (n:Nat) (l:List (Sh×List kf))
 |raw (l:List Sh)
 |aY (f:Nat)
 |y (kind:Bool)
 |Xa (sh:Sh)
 |fresh (e size:Nat)
 |fK (l:List (Sh×List kf))
def boxed:List AV->List AV
 | []=>[]
 |x::l=>.aS x 0::boxed l
inductive mq where
 |done
 |val (i:Nat) (p:mq)
 |jY (i:Nat) (p:mq)
 |two (i:Nat) (p:mq) (j:Nat) (q:mq)
 |three (i:Nat) (p:mq) (j:Nat) (q:mq) (k:Nat) (r:mq)
structure cJ where
 P:Program
 tab:Nat->Option TD
 M0:Nat->r4
 sig:Nat->Nat->Di
 nt:Nat
 dr:List (Nat×List (Option (List Nat))×List (Option (List Nat))):=[]
 hc:List (Nat×List Nat):=[]
 br:List (Nat×mq):=[]
 mt:Bool:=false
 dN:Option (List Nat):=none
 rm:List (Nat×Nat):=[]
 sgd:Nat->Option Di:=fun _=>none
 ext:{ e:Nat->Option SB // ∀f x,e f=some x->XOk P f x }:=⟨fun _=>none,fun _ _ h=>by cases h⟩
def Eg (C:cJ) (f:Nat) (o:Oper):Di:=
 match o.dst with
 |some d=>(match C.sgd d with
  |some g=>g
  |none=>C.sig f o.type)
 |none=>C.sig f o.type
def okB (b:Bool) (p:Prop):Prop:=
 match b with
 |true=>p
 |false=>False
theorem bT {b:Bool} {p:Prop} (h:okB b p):b=true/\p:=by
 cases b with
 |true=>exact⟨rfl,h⟩
 |false=>exact h.elim
def AV.kg (n:Nat) (hp:List af) (x:AV):List Prop×AV:=
 match x.closed n with
 |true=>([],x)
 |false=>x.bG hp
theorem oS {n:Nat} {hp:List af} {x:AV} (hc:dQ (x.kg n hp).1):x.qQ n hp=(x.kg n hp).2:=by
 unfold AV.qQ AV.kg at *
 cases h:x.closed n with
 |true=>simp
 |false=>rw[h] at hc;simp only[alQ,if_false];exact cO hc
def qp (n:Nat):List Nat->Nat->Nat
 | [],_=>n
 |j::js,r=>(match Nat.beq j r with|true=>n|false=>qp (n+1) js r)
def Yr (js:List Nat):AV->AV
 | .ptr r o=>.ptr (qp 0 js r) o
 |x=>x
def zg (js:List Nat):AV->AV
 | .own r n=>.own (qp 0 js r) n
 | .ptr r o=>.ptr (qp 0 js r) o
 | .mp r=>.mp (qp 0 js r)
 | .aY f cs=>.aY f (cs.map (Yr js))
 |x=>x
def JJ (js:List Nat):AV->AV
 | .agg cs=>.agg (cs.map (zg js))
 |x=>zg js x
def M1 (js:List Nat):AV->AV
 | .aL vs=>.aL (vs.map (JJ js))
 | .aY f cs=>.aY f (cs.map (JJ js))
 | .dm f cs=>.dm f (cs.map (JJ js))
 |x=>JJ js x
def Xf (js:List Nat):af->af
 | .box cs=>.box (cs.map (zg js))
 | .cU r n=>.cU (qp 0 js r) n
 |o=>o
def lC (js:List Nat) (n:Nat) (i:Nat):Nat:=(match Nat.blt i js.length with|true=>qo js i|false=>n+(i-js.length))
theorem JO:∀{js:List Nat} {n r:Nat},qp n js r<n+js.length->n<=qp n js r/\qo js (qp n js r-n)=r
 | [],n,r,h=>by simp[qp] at h
 |j::js,n,r,h=>by
  simp only[qp] at h ⊢;split
  ·rename_i hb;rw[am9];exact⟨alA _,alT hb⟩
  ·rename_i hb;rw[hb] at h;simp only[alJ] at h;obtain⟨h1,h2⟩:=JO (js:=js) (n:=n+1) (r:=r) (by omega);refine⟨by omega,?_⟩;rw[show qp (n+1) js r-n=(qp (n+1) js r-(n+1))+1 from by omega];exact h2
theorem r6 {js:List Nat} {n r:Nat} (h:qp 0 js r<js.length):lC js n (qp 0 js r)=r:=by
 unfold lC;rw[show Nat.blt (qp 0 js r) js.length=true from Nat.ble_eq_true_of_le h];have:=(JO (js:=js) (n:=0) (r:=r) (by omega)).2
 rwa [ant] at this
theorem gB {js:List Nat} {n:Nat} {u:List Nat->AV->AV} {r:(Nat->Nat)->AV->AV} {c:Nat->AV->Bool} (hu:∀x,c js.length (u js x)=true->r (lC js n) (u js x)=x):
  ∀(l:List AV),(l.map (u js)).all (c js.length)=true->(l.map (u js)).map (r (lC js n))=l
 | [],_=>rfl
 |x::l,h=>by
  simp only[al3,amj,alB] at h ⊢;rw[hu x h.1,gB hu l h.2]
theorem YG {js:List Nat} {n:Nat} {x:AV} (h:(Yr js x).dV js.length=true):N4 (lC js n) (Yr js x)=x:=by
 cases x with
 |ptr r m=>simp only[Yr,AV.dV,decide_eq_true_eq] at h;simp only[Yr,N4,r6 h]
 |_=>rfl
theorem lD {js:List Nat} {n:Nat} {x:AV} (h:(zg js x).aW js.length=true):vL (lC js n) (zg js x)=x:=by
 cases x with
 |own r m=>simp only[zg,AV.aW,decide_eq_true_eq] at h;simp only[zg,vL,r6 h]
 |ptr r m=>simp only[zg,AV.aW,decide_eq_true_eq] at h;simp only[zg,vL,r6 h]
 |mp r=>simp only[zg,AV.aW,decide_eq_true_eq] at h;simp only[zg,vL,r6 h]
 |aY f cs=>simp only[zg,AV.aW] at h;simp only[zg,vL];rw[gB (c:=AV.dV) (fun x hx=>YG hx) cs h]
 |_=>rfl
theorem BA {js:List Nat} {n:Nat} {x:AV} (h:(JJ js x).dp js.length=true):Ea (lC js n) (JJ js x)=x:=by
 cases x with
 |agg cs=>
  simp only[JJ,Ea] at h ⊢;rw[gB (fun x hx=>lD hx) cs h]
 |own r m=>exact lD (x:=.own r m) h
 |ptr r m=>exact lD (x:=.ptr r m) h
 |mp r=>exact lD (x:=.mp r) h
 |aY f cs=>exact lD (x:=.aY f cs) h
 |_=>first|rfl|(simp[JJ,zg,AV.dp,AV.aW] at h;done)
theorem YH {js:List Nat} {n:Nat} {x:AV} (h:(M1 js x).closed js.length=true):qR (lC js n) (M1 js x)=x:=by
 cases x with
 |aL cs=>
  simp only[M1,qR] at h ⊢;rw[gB (fun x hx=>BA hx) cs h]
 |aY f cs=>
  simp only[M1,qR] at h ⊢;rw[gB (fun x hx=>BA hx) cs h]
 |dm f cs=>
  simp only[M1,qR] at h ⊢;rw[gB (fun x hx=>BA hx) cs h]
 |agg cs=>exact BA (x:=.agg cs) h
 |own r m=>exact lD (x:=.own r m) h
 |ptr r m=>exact lD (x:=.ptr r m) h
 |mp r=>exact lD (x:=.mp r) h
 |_=>first|rfl|(simp[M1,JJ,zg,AV.closed,AV.dp,AV.aW] at h;done)
theorem YI {js:List Nat} {n:Nat} {o:af} (h:(Xf js o).closed js.length=true):iY (lC js n) (Xf js o)=o:=by
 cases o with
 |box cs=>
  simp only[Xf,iY] at h ⊢;rw[gB (fun x hx=>lD hx) cs h]
 |cU q k=>have:=lD (js:=js) (n:=n) (x:=.own q k) h;simp only[zg,vL,AV.own.injEq,and_true] at this;simp only[Xf,iY,this]
 |_=>rfl
def AV.HI (js:List Nat) (hp:List af) (x:AV):AV:=if(M1 js x).closed js.length=true then x else x.bB hp
def AV.Eh (js:List Nat) (hp:List af) (x:AV):List Prop×AV:=
 match (M1 js x).closed js.length with
 |true=>([],x)
 |false=>x.bG hp
theorem xn {js:List Nat} {hp:List af} {x:AV} (hc:dQ (x.Eh js hp).1):x.HI js hp=(x.Eh js hp).2:=by
 unfold AV.HI AV.Eh at *
 cases h:(M1 js x).closed js.length with
 |true=>simp
 |false=>rw[h] at hc;simp only[alQ,if_false];exact cO hc
theorem r7 {Γ:Env Unit} {s:AS Unit} {a:Act} {w:World} {η:List Value} (hr:Rel Γ s a w η) (js:List Nat):∀(xs:List AV) (vs:List Value),bZ w (bk Γ w η s.hp) η s.hp xs vs->bZ w (bk Γ w η s.hp) η s.hp (xs.map (AV.HI js s.hp)) vs
 | [],[],_=>True.intro
 |x::xs,v::vs,h=>⟨by
   unfold AV.HI;split
   ·exact h.1
   ·exact(ff hr.heap hr.bM h.1).lift,r7 hr js xs vs h.2⟩
 | [],_::_,h=>h.elim
 |_::_,[],h=>h.elim
def nW (js:List Nat):List Nat->List af->List af
 | [],_=>[]
 |j::l,H=>(match H[j]? with
  |some o=>Xf js o
  |none=>.dead)::nW js l H
theorem zW {js:List Nat} {H:List af}:∀{l:List Nat} {i:Nat} {o:af},(nW js l H)[i]?=some o->∃j,l[i]?=some j/\(H[j]?=none\/∃o',H[j]?=some o'/\o=Xf js o')
 | [],i,o,h=>by simp[nW] at h
 |j::l,0,o,h=>by
  simp only[nW,amp,als] at h;refine⟨j,rfl,?_⟩;split at h
  ·rename_i o' ho;exact .inr ⟨o',ho,h.symm⟩
  ·rename_i ho;exact .inl ho
 |j::l,i+1,o,h=>by
  simp only[nW,al5] at h ⊢;exact zW h
theorem zX {js:List Nat} {H:List af}:∀{l:List Nat},(nW js l H).length=l.length
 | []=>rfl
 |j::l=>by simp[nW,zX (l:=l)]
def oT (n:Nat):List Nat->Bool
 | []=>true
 |j::js=>Nat.blt j n&&(!HJ j js&&oT n js)
where HJ (k:Nat):List Nat->Bool
 | []=>false
 |x::l=>Nat.beq x k||HJ k l
theorem xo {k:Nat}:∀{l:List Nat} {i:Nat},l[i]?=some k->oT.HJ k l=true
 | [],i,h=>by simp at h
 |x::l,0,h=>by simp at h;subst h;simp[oT.HJ]
 |x::l,i+1,h=>by simp only[al5] at h;simp[oT.HJ,xo h]
theorem oU:∀{l:List Nat} {i:Nat},i<l.length->l[i]?=some (qo l i)
 | [],i,h=>by simp at h
 |x::l,0,h=>rfl
 |x::l,i+1,h=>by simp only[al5,qo];exact oU (by simpa using h)
theorem JP {n:Nat}:∀{js:List Nat},oT n js=true->∀i,i<js.length->qo js i<n
 | [],_,i,h=>by simp at h
 |j::js,h,0,_=>by simp only[oT,alB] at h;exact alZ (show Nat.ble (j+1) n=true from h.1)
 |j::js,h,i+1,hi=>by simp only[oT,alB] at h;exact JP h.2.2 i (by simpa using hi)
theorem Ei {n:Nat}:∀{js:List Nat},oT n js=true->∀i i',i<js.length->i' < js.length->qo js i=qo js i'->i=i'
 | [],_,i,i',h,_,_=>by simp at h
 |j::js,h,0,0,_,_,_=>rfl
 |j::js,h,0,i'+1,_,h2,he=>by
  simp only[oT,alB,ame] at h;have:=xo (k:=j) (l:=js) (i:=i') (by rw[oU (by simpa using h2)];exact congrArg some he.symm);rw[h.2.1] at this;cases this
 |j::js,h,i+1,0,h1,_,he=>by
  simp only[oT,alB,ame] at h;have:=xo (k:=j) (l:=js) (i:=i) (by rw[oU (by simpa using h1)];exact congrArg some he);rw[h.2.1] at this;cases this
 |j::js,h,i+1,i'+1,h1,h2,he=>by
  simp only[oT,alB] at h;rw[Ei h.2.2 i i' (by simpa using h1) (by simpa using h2) he]
def mr (r:Nat) (out:List Nat):List Nat:=(match oT.HJ r out with|true=>out|false=>out++[r])
mutual
def YJ (hp:List af):Nat->List Nat->AV->List Nat
 |0,out,_=>out
 |n+1,out,.ptr r _=>(match oT.HJ r out with
  |true=>out
  |false=>(match hp[r]? with
   |some (.box cs)=>mr r (iE hp n out cs)
   |some (.cU q _)=>mr q (mr r out)
   |_=>mr r out))
 |_+1,out,.mp r=>mr r out
 |_+1,out,.own r _=>(match hp[r]? with
  |some (.aQ _ _ _)=>mr r out
  |_=>out)
 |n+1,out,.agg cs=>iE hp n out cs
 |n+1,out,.aL cs=>iE hp n out cs
 |n+1,out,.aY _ cs=>iE hp n out cs
 |n+1,out,.dm _ cs=>iE hp n out cs
 |_+1,out,_=>out
def iE (hp:List af):Nat->List Nat->List AV->List Nat
 |0,out,_=>out
 |_+1,out,[]=>out
 |n+1,out,x::l=>iE hp n (YJ hp n out x) l
end
def JQ (js:List Nat) (hp:List af) (args:List AV):List AV:=((cE (AV.Eh js hp) args).2).map (M1 js)
def uM (js:List Nat) (x:AV) (h:List af):Bool:=Nat.ble js.length h.length&&(x.closed h.length&&h.all (af.closed h.length))
def vO (C:cJ) (js:List Nat) (l:List (Sh×List kf)) (f:Nat) (args:List AV) (o:Oper) (s:AS Unit) (next:AS Unit->Prop):Prop:=
 okB (oT s.hp.length js&&((JQ js s.hp args).all (AV.closed js.length)&&(nW js js s.hp).all (af.closed js.length)))
  (fC (cE (AV.Eh js s.hp) args).1 (∃R:AV->List af->Prop,bH C.P f (JQ js s.hp args) (nW js js s.hp) R/\∀(r:AV) (hp':List af),R r hp'->JM l r hp' fun x h=>okB (uM js x h) (next (AS.put { s with hp:=iZ (lC js s.hp.length) js.length h s.hp } o.dst (qR (lC js s.hp.length) x)))))
theorem vO.Xk {P:Program} {js:List Nat} {H:List af} {f:Nat} {args:List AV} {R:AV->List af->Prop} (hb:(oT H.length js&&((args.map (M1 js)).all (AV.closed js.length)&&(nW js js H).all (af.closed js.length)))=true)
  (hF:bH P f (args.map (M1 js)) (nW js js H) R) (hR:∀r h,R r h->uM js r h=true):bH P f args H (fun r2 H2=>∃r h,R r h/\r2=qR (lC js H.length) r/\H2=iZ (lC js H.length) js.length h H):=by
 simp only[alB] at hb;obtain⟨h1,h2,h3⟩:=hb;have hl:(nW js js H).length=js.length:=zX;have ak:∀i,i<js.length->lC js H.length i=qo js i:=fun i hi=>by
  unfold lC;rw[show Nat.blt i js.length=true from Nat.ble_eq_true_of_le hi]
 have:=bH.aaC (g:=lC js H.length) (H:=H) hF (fun i o ho=>?_) (fun i i' hi qu he=>?_) (fun i hi=>?_) (by rw[hl];exact h2) (by rw[hl];exact h3) (fun r h hr=>?_)
 ·rw[hl,gB (fun x hx=>YH hx) args h2] at this;exact this
 ·have hi:i<js.length:=by rw[<-hl];exact(alu.1 ho).1
  obtain⟨j,hj,hc⟩:=zW ho;rw[oU hi] at hj;obtain rfl:=alw hj;rw[ak i hi];have Js:o.closed js.length=true:=alK.1 h3 o (alF ho);rcases hc with hc|⟨o',wF,rfl⟩
  ·have:=JP h1 i hi;rw[aly this] at hc;cases hc
  ·rw[wF,YI Js]
 ·rw[hl] at hi qu;rw[ak i hi,ak i' qu] at he;exact Ei h1 i i' hi qu he
 ·rw[hl] at hi ⊢;unfold lC
  cases hb:Nat.blt i js.length with
  |true=>have:i+1<=js.length:=alZ hb;omega
  |false=>rfl
 ·have:=hR r h hr;simp only[uM,alB] at this;rw[hl];exact⟨alZ this.1,this.2.1,this.2.2⟩
def N9 (C:cJ) (sh:Sh) (l:List Nat) (o:Oper) (s:AS Unit) (next:AS Unit->Prop):Prop:=
 fC (k8 l s).1 (match oR (k8 l s).2 o.op with
  |some (f,args)=>fC (cE (AV.bG (k8 l s).2.hp) args).1 (Yz [] sh fun x=>ag C.P f (cE (AV.bG (k8 l s).2.hp) args).2 x/\next ((k8 l s).2.put o.dst x))
  |none=>False)
def JR (s:AS Unit):Op->Option (Nat×List AV)
 | .call c=>(match c.callee with
  | .value x=>(match s.ev x with
   | .dm f fst=>some (f,fst++c.args.toList.map s.ev)
   |_=>none)
  |_=>none)
 |_=>none
def xp (C:cJ) (o:Oper) (s:AS Unit) (next:AS Unit->Prop):Prop:=
 match JR s o.op with
 |some (f,args)=>(match Eg C f o with
  | .fK l=>vO C (iE s.hp 100 [] args) l f args o s next
  |_=>False)
 |none=>False
def Xl (C:cJ) (o:Oper) (s:AS Unit) (next:AS Unit->Prop):Prop:=
 match oR s o.op with
 |some (f,args)=>(match Eg C f o with
  | .one sh=>fC (cE (AV.bG s.hp) args).1 (Yz [] sh fun x=>ag C.P f (cE (AV.bG s.hp) args).2 x/\next (s.put o.dst x))
  | .aY f'=>fC (cE (AV.bG s.hp) args).1 (ag C.P f (cE (AV.bG s.hp) args).2 (.aY f' (boxed (cE (AV.bG s.hp) args).2))/\next (s.put o.dst (.aY f' (boxed (cE (AV.bG s.hp) args).2))))
  | .y _=>False
  | .Xa sh=>N9 C sh (Bv args) o s next
  | .alts l=>fC (cE (AV.bG s.hp) args).1 (∃R:AV->Prop,Pure C.P f (cE (AV.bG s.hp) args).2 R/\∀r:AV,R r->Bz l r fun x=>next (s.put o.dst x))
  | .raw l=>fC (cE (AV.kg 0 s.hp) args).1 (∃R:AV->Prop,Pure C.P f (cE (AV.kg 0 s.hp) args).2 R/\∀r:AV,R r->Bz l r fun x=>next (s.put o.dst x))
  | .heap n l=>okB ((cE (AV.kg (s.hp.take n).length s.hp) args).2.all (AV.closed (s.hp.take n).length)&&(s.hp.take n).all (af.closed (s.hp.take n).length))
    (fC (cE (AV.kg (s.hp.take n).length s.hp) args).1 (∃R:AV->List af->Prop,bH C.P f (cE (AV.kg (s.hp.take n).length s.hp) args).2 (s.hp.take n) R/\∀(r:AV) (hp':List af),R r hp'->JM l r hp' fun x h=>okB (Nat.beq h.length (s.hp.take n).length) (next (AS.put { s with hp:=h++s.hp.drop n } o.dst x))))
  | .fresh e size=>fC (cE (AV.bG s.hp) args).1 (∃els:List AV,MY C.P f (cE (AV.bG s.hp) args).2 e size els/\next (AS.put { s with hp:=s.hp++[.aQ e size els] } o.dst (.own s.hp.length els.length)))
  | .fK l=>vO C (iE s.hp 100 [] args) l f args o s next)
 |none=>xp C o s next
def vP (nt:Nat):Option Nat->Bool
 |none=>true
 |some d=>Nat.blt d nt
theorem gZ {nt:Nat} {d:Option Nat} (h:vP nt d=true):cR nt d:=by
 cases d with
 |none=>trivial
 |some d=>exact alZ (show Nat.ble (d+1) nt=true from h)
def YK (tab:Nat->Option TD) (hp:List af) (ρ:Operand->AV):Op->Option (List Prop×AV×List af)
 | .call c=>(match c.callee,c.args.toList,c.argTypes.toList with
  | .builtin .append,[b,x],[T,T']=>if T=T' then(match tab T with
   |some d=>(match d.kind with
    | .jS e=>(match tab e,(ρ x).kZ hp with
     |some d',some (cs,aD)=>if 0<d'.size then(match ρ b with
      | .clip []=>some (cs++[bd d' (([]:List AV).length+aD.length) [] aD],.own hp.length ([]++aD).length,hp++[.aQ e d'.size ([]++aD)])
      |_=>none) else none
     |_,_=>none)
    |_=>none)
   |none=>none) else none
  |_,_,_=>none)
 |_=>none
theorem Tn {Γ:Env Unit} {s:AS Unit} (ax:Γ.Ok) {tab:Nat->Option TD} (aj:aZ Γ.P tab) {o:Oper} {cs:List Prop} {r:AV} {hp':List af} (h:YK tab s.hp s.ev o.op=some (cs,r,hp')) (hc:dQ cs):fA Γ o s r hp':=by
 generalize ho:o.op=op at h;unfold YK at h;split at h
 ·split at h
  ·rename_i c b x T T' By aF gO;split at h
   ·rename_i heq;subst heq;split at h
    ·rename_i d hd;split at h
     ·rename_i e hk;split at h
      ·rename_i d' cs' aD dv hx;split at h
       ·rename_i bN;split at h
        ·rename_i hb;simp only[als,alx] at h;obtain⟨rfl,rfl,rfl⟩:=h;rw[bF] at hc;exact Bm ax aj ho By aF gO hd hk dv (fQ hx hc.1) (els:=[]) (.inr hb) bN (fun _=>rfl) hc.2.1
        ·cases h
       ·cases h
      ·cases h
     ·cases h
    ·cases h
   ·cases h
  ·cases h
 ·cases h
def HK (C:cJ) (o:Oper) (s:AS Unit) (next:AS Unit->Prop):Option Prop:=
 match oR s o.op with
 |some (f,args)=>(match C.ext.1 f with
  |some x=>(match Yn x s.hp args with
   |some (r,hp')=>some (next (AS.put { s with hp:=hp' } o.dst r))
   |none=>none)
  |none=>none)
 |none=>none
theorem Lr {C:cJ} {Γ:Env Unit} (ax:Γ.Ok) (hP:C.P=Γ.P) {o:Oper} {s:AS Unit} {next:AS Unit->Prop} {p:Prop} (h:HK C o s next=some p) (hp:p):∃r hp',fA Γ o s r hp'/\next (AS.put { s with hp:=hp' } o.dst r):=by
 unfold HK at h;split at h
 ·rename_i f args aF;split at h
  ·rename_i x hx;split at h
   ·rename_i r hp' hr;obtain rfl:=alw h;have hX:=C.ext.2 f x hx;rw[hP] at hX;rw[jN] at aF;unfold j7 at aF;split at aF
    ·rename_i c hc;split at aF
     ·rename_i y hy;split at aF
      ·rename_i f' caps dx;simp only[als,alx] at aF;obtain⟨rfl,rfl⟩:=aF;exact⟨r,hp',HB ax hX hc hy dx hr,hp⟩
      ·cases aF
     ·cases aF
    ·cases aF
   ·cases h
  ·cases h
 ·cases h
def Xm (C:cJ) (o:Oper) (s:AS Unit) (next:AS Unit->Prop):Option Prop:=
 match C.mt with
 |true=>(match YK C.tab s.hp s.ev o.op with
  |some (cs,r,hp')=>some (fC cs (next (AS.put { s with hp:=hp' } o.dst r)))
  |none=>none)
 |false=>none
def inN:List Nat->Nat->Bool
 | [],_=>false
 |x::l,k=>(match Nat.beq x k with
  |true=>true
  |false=>inN l k)
def bOp (mk:Bool) (tab:Nat->Option TD) (hp:List af) (ρ:Operand->AV):Op->Option (List Prop×AV×List af)
 | .buildSlice T n parts=>(match mk,oQ tab T with
  |true,some (e,_,d')=>if((n=parts.toList.length/\rI 0 parts.toList=true/\n<=16777216/\n*d'.size<=16777216)/\DW d'.size (cE (AV.bG hp) (parts.toList.map fun p=>ρ p.2)).2=true)/\0<n/\0<d'.size then
    some ((cE (AV.bG hp) (parts.toList.map fun p=>ρ p.2)).1,.own hp.length n,hp++[.row e d'.size (cE (AV.bG hp) (parts.toList.map fun p=>ρ p.2)).2]) else none
  |_,_=>none)
 |_=>none
theorem YL {Γ:Env Unit} {s:AS Unit} (ax:Γ.Ok) {tab:Nat->Option TD} (aj:aZ Γ.P tab) {mk:Bool} {o:Oper} {cs:List Prop} {r:AV} {hp':List af} (h:bOp mk tab s.hp s.ev o.op=some (cs,r,hp')) (hc:dQ cs):fA Γ o s r hp':=by
 generalize ho:o.op=op at h;unfold bOp at h;split at h
 ·split at h
  ·rename_i T n parts _ _ e d d' hs;split at h
   ·rename_i qj;simp only[als,alx] at h;obtain⟨rfl,rfl,rfl⟩:=h;obtain⟨hd,hk,dv⟩:=xl hs;have hm:=cf (g:=AV.bB s.hp) (fun x=>cO) (parts.toList.map fun p=>s.ev p.2) hc;obtain⟨⟨⟨h1,h2,h3,h4⟩,h5⟩,h6,h7⟩:=qj;have hl:=xc h5;rw[<-hm,List.map_map] at hl ⊢;exact zh ax aj ho hd hk dv h1 h6 h7 h2 h3 h4 hl
   ·cases h
  ·cases h
 ·cases h
def Oa (C:cJ) (o:Oper) (s:AS Unit) (next:AS Unit->Prop):Option Prop:=
 match C.dN with
 |some l=>(match qOp (match o.dst with|some d=>inN l d|none=>false) C.tab s.hp s.ev o.op with
  |some (cs,r,hp')=>some (fC cs (next (AS.put { s with hp:=hp' } o.dst r)))
  |none=>(match bOp (match o.dst with|some d=>inN l d|none=>false) C.tab s.hp s.ev o.op with
   |some (cs,r,hp')=>some (fC cs (next (AS.put { s with hp:=hp' } o.dst r)))
   |none=>none))
 |none=>none
theorem Ej:∀{l:List Prop},dQ l->∀p∈l,p
 |c::l,h,p,hp=>by
  rcases al6.1 hp with rfl|hp
  ·exact h.1
  ·exact Ej h.2 p hp
def iz (C:cJ) (o:Oper) (s:AS Unit) (next:AS Unit->Prop):Prop:=
 match vP C.nt o.dst with
 |false=>False
 |true=>(match Hw C.tab s.ev o.op with
  |some (els,b0)=>∀b:Bool,(els≠[]->b=!b0)->next (s.put o.dst (.ae (.bool b)))
  |none=>(match Oa C o s next with
   |some p=>p
   |none=>(match Yf C.tab s.ev o.op with
   |some r=>next (s.put o.dst r)
   |none=>(match Lq C.tab C.M0 s.hp s.ev o.op (fun r=>next (s.put o.dst r)) with
    |some p=>p
    |none=>(match Xm C o s next with
     |some p=>p
     |none=>(match NY C.tab s.hp s.ev o.op with
      |some (cs,r,hp')=>fC cs (next (AS.put { s with hp:=hp' } o.dst r))
      |none=>(match Ef C.tab s.hp s.ev o.op (fun r hp'=>next (AS.put { s with hp:=hp' } o.dst r)) with
      |some p=>p
      |none=>(match HK C o s next with
       |some p=>p
       |none=>(match Yp C.tab s.ev o.op with
        |some r=>next (s.put o.dst r)
        |none=>Xl C o s next)))))))))
variable {Γ:Env Unit} {s s':AS Unit} {a:Act} {w w':World} {η:List Value} {hp:List af}
theorem xp.sound {C:cJ} (ax:Γ.Ok) (hP:C.P=Γ.P) {o:Oper} (hd:cR Γ.nt o.dst) {next K:AS Unit->Prop} (h:xp C o s next) (hn:∀s,next s->K s):bD Γ o s K:=by
 unfold xp at h;split at h
 ·rename_i f args aF;unfold JR at aF;split at aF
  ·rename_i c hc;split at aF
   ·rename_i x hx;split at aF
    ·rename_i f' fst dx;simp only[als,alx] at aF;obtain⟨rfl,rfl⟩:=aF;split at h
     ·unfold vO at h;obtain⟨hb,h⟩:=bT h;rw[bt] at h;obtain⟨fO,R,g1,g2⟩:=h;rename_i l _;generalize iE s.hp 100 [] (fst++List.map s.ev c.args.toList)=js at *;have aF:=cf (g:=AV.HI js s.hp) (fun x=>xn) _ fO;rw[hP] at g1;have qq:=vO.Xk (R:=fun r h'=>R r h'/\uM js r h'=true) hb (g1.mono fun r h' hr=>⟨hr,(bT (gY (g2 r h' hr))).1⟩) (fun r h' hr=>hr.2);exact bD.aau ax hc hx dx qq (fun a w η us hr h=>by rw[<-aF];exact r7 hr _ _ us h) hd fun r hp' hr=>by
       obtain⟨r',h',hr,rfl,rfl⟩:=hr;exact hn _ (bT (gY (g2 r' h' hr.1))).2
     ·exact h.elim
    ·cases aF
   ·cases aF
  ·cases aF
 ·exact h.elim
theorem N9.sound {C:cJ} (ax:Γ.Ok) (hP:C.P=Γ.P) {sh:Sh} {l:List Nat} {o:Oper} (hd:cR Γ.nt o.dst) {next K:AS Unit->Prop} (h:N9 C sh l o s next) (hn:∀s,next s->K s):bD Γ o s K:=by
 unfold N9 at h;rw[bt] at h;obtain⟨hc,h⟩:=h;have hw:=rW (Γ:=Γ) ax l s hc;intro a w η Kc Qc hk hr;obtain⟨jQ,mP⟩:=hw a w η hr;refine(?_:bD Γ o (k8 l s).2 K) a w jQ Kc Qc hk mP;split at h
 ·rename_i f args aF;rw[jN] at aF;unfold j7 at aF;split at aF
  ·rename_i c hc;split at aF
   ·rename_i x hx;split at aF
    ·rename_i f' caps dx;simp only[als,alx] at aF;obtain⟨rfl,rfl⟩:=aF;rw[bt] at h;obtain⟨fO,h⟩:=h;obtain⟨x',wc,xq⟩:=qS h;rw[<-cf (g:=AV.bB (k8 l s).2.hp) (fun x=>cO) _ fO,hP] at wc;exact bD.pure ax hc hx dx wc hd fun r hr=>by rw[hr];exact hn _ xq
    ·cases aF
   ·cases aF
  ·cases aF
 ·exact h.elim
theorem iz.sound {C:cJ} (ax:Γ.Ok) (hP:C.P=Γ.P) (aj:aZ Γ.P C.tab) (cW:C.nt=Γ.nt) {o:Oper} {next K:AS Unit->Prop} (h:iz C o s next) (hn:∀s,next s->K s):bD Γ o s K:=by
 unfold iz at h;split at h
 ·exact h.elim
 rename_i hd;have hd:=gZ hd;rw[cW] at hd;split at h
 ·rename_i els b0 hx;exact bD.nil aj hx hd fun b hb=>hn _ (h b hb)
 split at h
 ·rename_i p hp;unfold Oa at hp;split at hp
  ·split at hp
   ·rename_i cs r hp' hm;obtain rfl:=alw hp;rw[bt] at h;exact bD.jY (Yw ax aj hm h.1) hd (hn _ h.2)
   ·split at hp
    ·rename_i cs r hp' hm;obtain rfl:=alw hp;rw[bt] at h;exact bD.jY (YL ax aj hm h.1) hd (hn _ h.2)
    ·cases hp
  ·cases hp
 split at h
 ·rename_i r hx;exact bD.val ax (Hv aj hx) hd (hn _ h)
 split at h
 ·rename_i p hp;obtain⟨c,r,h1,h2,h3⟩:=wb hp h;exact bD.val ax (qL ax aj h1 h2) hd (hn _ h3)
 split at h
 ·rename_i p hp;unfold Xm at hp;split at hp
  ·split at hp
   ·rename_i cs r hp' hm;obtain rfl:=alw hp;rw[bt] at h;exact bD.jY (Tn ax aj hm h.1) hd (hn _ h.2)
   ·cases hp
  ·cases hp
 split at h
 ·rename_i cs r hp' hs;rw[bt] at h;exact bD.jY (N3 ax aj hs (Ej h.1)) hd (hn _ h.2)
 split at h
 ·rename_i p hp;obtain⟨c,r,hp',h1,h2,h3⟩:=pN hp h;exact bD.jY (iB ax aj h1 h2) hd (hn _ h3)
 split at h
 ·rename_i p hp;obtain⟨r,hp',h1,h2⟩:=Lr ax hP hp h;exact bD.jY h1 hd (hn _ h2)
 split at h
 ·rename_i r hx;exact bD.val ax (HD aj hx) hd (hn _ h)
 unfold Xl at h;split at h
 ·rename_i f args aF;rw[jN] at aF;unfold j7 at aF;split at aF
  ·rename_i c hc;split at aF
   ·rename_i x hx;split at aF
    ·rename_i f' caps dx;simp only[als,alx] at aF;obtain⟨rfl,rfl⟩:=aF;split at h
     ·rw[bt] at h;obtain⟨fO,h⟩:=h;obtain⟨x',wc,xq⟩:=qS h;rw[<-cf (g:=AV.bB s.hp) (fun x=>cO) _ fO,hP] at wc;exact bD.pure ax hc hx dx wc hd fun r hr=>by rw[hr];exact hn _ xq
     ·rw[bt] at h;obtain⟨fO,wc,xq⟩:=h;rw[<-cf (g:=AV.bB s.hp) (fun x=>cO) _ fO] at wc xq;rw[hP] at wc;exact bD.pure ax hc hx dx wc hd fun r hr=>by rw[hr];exact hn _ xq
     ·exact h.elim
     ·exact N9.sound ax hP hd h hn
     ·rw[bt] at h;obtain⟨fO,R,wc,xq⟩:=h;rw[<-cf (g:=AV.bB s.hp) (fun x=>cO) _ fO,hP] at wc;exact bD.pure ax hc hx dx wc hd fun r hr=>hn _ (tS (xq r hr))
     ·rw[bt] at h;obtain⟨fO,R,wc,xq⟩:=h;have aF:=cf (g:=AV.qQ 0 s.hp) (fun x=>oS) _ fO;rw[hP] at wc;exact bD.aav ax hc hx dx wc (fun a w η us hr h=>by rw[<-aF];exact mo hr _ us h) hd fun r hr=>hn _ (tS (xq r hr))
     ·rename_i n l aaI;obtain⟨hb,h⟩:=bT h;rw[bt] at h;obtain⟨fO,R,g1,g2⟩:=h;rw[alB] at hb;have aF:=cf (g:=AV.qQ (s.hp.take n).length s.hp) (fun x=>oS) _ fO;rw[hP] at g1;have qq:=bH.frame (more:=s.hp.drop n) (R:=fun r h'=>R r h'/\h'.length=(s.hp.take n).length) (g1.mono fun r h' hr=>⟨hr,alT (bT (gY (g2 r h' hr))).1⟩) (fun r h' hr=>hr.2) hb.1 hb.2;rw[amk] at qq;exact bD.NK ax hc hx dx qq (fun a w η us hr h=>by rw[<-aF];exact D4 hr _ _ us h) hd fun r hp' hr=>by
       obtain⟨h',rfl,hr,_⟩:=hr;exact hn _ (bT (gY (g2 r h' hr))).2
     ·rw[bt] at h;obtain⟨fO,els,wc,xq⟩:=h;rw[<-cf (g:=AV.bB s.hp) (fun x=>cO) _ fO,hP] at wc;exact bD.fresh ax hc hx dx wc hd (hn _ xq)
     ·unfold vO at h;obtain⟨hb,h⟩:=bT h;rw[bt] at h;obtain⟨fO,R,g1,g2⟩:=h;rename_i l _;generalize iE s.hp 100 [] (List.map s.ev c.args.toList++caps)=js at *;have aF:=cf (g:=AV.HI js s.hp) (fun x=>xn) _ fO;rw[hP] at g1;have qq:=vO.Xk (R:=fun r h'=>R r h'/\uM js r h'=true) hb (g1.mono fun r h' hr=>⟨hr,(bT (gY (g2 r h' hr))).1⟩) (fun r h' hr=>hr.2);exact bD.NK ax hc hx dx qq (fun a w η us hr h=>by rw[<-aF];exact r7 hr _ _ us h) hd fun r hp' hr=>by
       obtain⟨r',h',hr,rfl,rfl⟩:=hr;exact hn _ (bT (gY (g2 r' h' hr.1))).2
    ·cases aF
   ·cases aF
  ·cases aF
 ·exact xp.sound ax hP hd h hn
def KG (l:List Oper) (o:Oper) (s:AS Unit) (run skip:AS Unit->Prop):Prop:=
 match o.guard with
 |none=>run s
 |some (j,want)=>(match (l[j]?).bind (·.dst) with
  |some d=>(match s.tmps d with
   | .ae (.bool b)=>ah b (match want with|true=>run (s.put (some d) (.ae (.bool true)))|false=>skip (s.put (some d) (.ae (.bool true))))
     (match want with|true=>skip (s.put (some d) (.ae (.bool false)))|false=>run (s.put (some d) (.ae (.bool false))))
   | .ae (.tuple _)=>skip s
   |_=>False)
  |none=>False)
theorem Ek {d:Nat} {x:AV} (h:s.tmps d=x):s.put (some d) x=s:=by
 cases s with
 |mk f hp g=>
  simp only[AS.put]
  congr 1
  funext t
  rw[fc];split
  ·rename_i ht;subst ht;exact h.symm
  ·rfl
theorem KG.cases {l:List Oper} {o:Oper} {run skip:AS Unit->Prop} (h:KG l o s run skip):
  (o.guard=none/\run s)\/(∃j want b,o.guard=some (j,want)/\iV l.toArray s j=some (some b)/\((b=want/\run s)\/(¬b=want/\skip s)))\/(∃j want,o.guard=some (j,want)/\iV l.toArray s j=some none/\skip s):=by
 unfold KG at h;split at h
 ·rename_i hg;exact .inl ⟨hg,h⟩
 ·rename_i j want hg;split at h
  ·rename_i d hd;split at h
   ·rename_i b hb;refine .inr (.inl ⟨j,want,b,hg,?_,?_⟩)
    ·unfold iV;simp only[ana,hd,hb]
    ·have:=h.elim
     cases b with
     |true=>
      have h1:=this.1 rfl;rw[Ek hb] at h1
      cases want with
      |true=>exact .inl ⟨rfl,h1⟩
      |false=>exact .inr ⟨by simp,h1⟩
     |false=>
      have h1:=this.2 rfl;rw[Ek hb] at h1
      cases want with
      |true=>exact .inr ⟨by simp,h1⟩
      |false=>exact .inl ⟨rfl,h1⟩
   ·rename_i v hb;refine .inr (.inr ⟨j,want,hg,?_,h⟩);unfold iV;simp only[ana,hd,hb]
   ·exact h.elim
  ·exact h.elim
def r8 (C:cJ) (l0:List Oper) (K:AS Unit->Prop):List Oper->AS Unit->Prop
 | [],s=>K s
 |o::rest,s=>KG l0 o s (fun s=>iz C o s (r8 C l0 K rest)) (fun s=>match vP C.nt o.dst with|true=>r8 C l0 K rest (s.put o.dst (.ae (.tuple #[])))|false=>False)
theorem r8.Ob {C:cJ} (ax:Γ.Ok) (hP:C.P=Γ.P) (aj:aZ Γ.P C.tab) (cW:C.nt=Γ.nt) {l0 rest:List Oper} {K K':AS Unit->Prop} (hK:∀s,K' s->gv Γ l0.toArray K rest s):∀(l:List Oper) (s:AS Unit),r8 C l0 K' l s->gv Γ l0.toArray K (l++rest) s:=by
 intro l
 induction l with
 |nil=>intro s h;exact hK s h
 |cons o l ih=>
  intro s h;have skip:(match vP C.nt o.dst with|true=>r8 C l0 K' l (s.put o.dst (.ae (.tuple #[])))|false=>False)->cR Γ.nt o.dst/\gv Γ l0.toArray K (l++rest) (s.put o.dst (.ae (.tuple #[]))):=by
   intro h;split at h
   ·rename_i hd;exact⟨by rw[<-cW];exact gZ hd,ih _ h⟩
   ·exact h.elim
  rw[amh];rcases KG.cases h with⟨hg,h⟩|⟨j,want,b,hg,hb,⟨iN,h⟩|⟨iN,h⟩⟩|⟨j,want,hg,hb,h⟩
  ·exact gv.step (fun a w η _=>by simp[Region.wanted,hg]) (iz.sound ax hP aj cW h ih)
  ·exact gv.step (fun a w η hr=>by simp[Region.wanted,hg,dP hr hb,iN]) (iz.sound ax hP aj cW h ih)
  ·obtain⟨h1,h2⟩:=skip h;exact gv.skip (fun a w η hr=>by simp[Region.wanted,hg,dP hr hb,iN]) h1 h2
  ·obtain⟨h1,h2⟩:=skip h;exact gv.skip (fun a w η hr=>by simp[Region.wanted,hg,dP hr hb]) h1 h2
theorem r8.sound {C:cJ} (ax:Γ.Ok) (hP:C.P=Γ.P) (aj:aZ Γ.P C.tab) (cW:C.nt=Γ.nt) {l0:List Oper} {K:AS Unit->Prop} (l:List Oper) (s:AS Unit) (h:r8 C l0 K l s):gv Γ l0.toArray K l s:=by
 have:=r8.Ob ax hP aj cW (rest:=[]) (fun s h a w η Qc hQ hr=>hQ s a w η h hr) l s h
 rwa [alV] at this
def xr (x:Operand) (d:Nat):Bool:=
 match x with
 | .tmp t=>Nat.beq t d
 |_=>false
theorem xt {x:Operand} {d:Nat} (h:xr x d=true):x=.tmp d:=by
 unfold xr at h;split at h
 ·rw[alT h]
 ·cases h
def rm1 (C:cJ) (s:AS Unit) (o:Oper):Option (Nat×Nat×TD×Int×Nat):=
 match o.guard,o.op,o.dst with
 |none,.call c,some d1=>(match c.callee,c.args.toList,c.argTypes.toList with
  | .builtin .append,[b,z],[T,T']=>(match s.ev b,s.ev z,oQ C.tab T,(C.tab T').map TD.kind with
   | .ae (.slice none 0 0),.ae (.int .i64 n),some (e,_,d'),some (.int _)=>some (T,e,d',n,d1)
   |_,_,_,_=>none)
  |_,_,_=>none)
 |_,_,_=>none
def rm2 (s:AS Unit) (o:Oper) (d1:Nat):Option Nat:=
 match o.guard,o.op,o.dst with
 |none,.move x,some d2=>(match s.ev x,xr x d1 with
  | .ae (.slice none 0 0),false=>some d2
  |_,_=>none)
 |_,_,_=>none
def rm3 (o:Oper) (T d2:Nat):Option Nat:=
 match o.guard,o.op,o.dst with
 |none,.call c,some d3=>(match c.callee,c.args.toList,c.argTypes.toList with
  | .builtin .len,[x],[T3]=>(match xr x d2&&Nat.beq T3 T with
   |true=>some d3
   |false=>none)
  |_,_,_=>none)
 |_,_,_=>none
def rm4 (o:Oper) (T d1 d3:Nat):Option Nat:=
 match o.guard,o.op,o.dst with
 |none,.slice T4 x none (some y) none,some d4=>(match Nat.beq T4 T&&(xr x d1&&xr y d3) with
  |true=>some d4
  |false=>none)
 |_,_,_=>none
def rmB (nt d1 d2 d3 d4:Nat) (d:TD):Bool:=(Nat.blt d1 nt&&(Nat.blt d2 nt&&(Nat.blt d3 nt&&Nat.blt d4 nt)))&&((!Nat.beq d1 d2&&!Nat.beq d1 d3)&&Nat.blt 0 d.size)
def El (C:cJ) (l0:List Oper) (K:AS Unit->Prop) (s:AS Unit):List Oper->Prop
 |o1::o2::o3::o4::rest=>(match rm1 C s o1 with
  |some (T,e,d',n,d1)=>(match rm2 s o2 d1 with
   |some d2=>(match rm3 o3 T d2 with
    |some d3=>(match rm4 o4 T d1 d3 with
     |some d4=>okB (rmB C.nt d1 d2 d3 d4 d') ((0<n/\n.toNat<=maxLen/\n.toNat*d'.bytes<=140737488355328)/\
       r8 C l0 K rest (AS.put (AS.put (AS.put (AS.put { s with hp:=s.hp++[.row e d'.size []] } (some d1) .top) (some d2) (.ae (.slice none 0 0))) (some d3) (.ae (.int .i64 0))) (some d4) (.own s.hp.length 0)))
     |none=>False)
    |none=>False)
   |none=>False)
  |none=>False)
 |_=>False
theorem El.sound {C:cJ} (ax:Γ.Ok) (hP:C.P=Γ.P) (aj:aZ Γ.P C.tab) (cW:C.nt=Γ.nt) {l0:List Oper} {K:AS Unit->Prop} {l:List Oper} {s:AS Unit} (h:El C l0 K s l):gv Γ l0.toArray K l s:=by
 unfold El at h;split at h
 ·rename_i o1 o2 o3 o4 rest;split at h
  ·rename_i T e d' n d1 h1;split at h
   ·rename_i d2 h2;split at h
    ·rename_i d3 h3;split at h
     ·rename_i d4 h4;obtain⟨hb,⟨hn,hm,G7⟩,JA⟩:=bT h;unfold rmB at hb;simp only[alB,ame] at hb;obtain⟨⟨l1,l2,l3,l4⟩,⟨n12,n13⟩,bN⟩:=hb;have ak:∀{d:Nat},Nat.blt d C.nt=true->d<Γ.nt:=fun h=>by rw[<-cW];exact alZ h
      have bu:∀{x y:Nat},Nat.beq x y=false->x≠y:=fun h e=>by subst e;rw[Nat.beq_refl] at h;cases h
      obtain⟨m,rfl⟩:∃m:Nat,n=(m:Int):=⟨n.toNat,by omega⟩;rw[amA] at hm G7;unfold rm1 at h1;split at h1
      ·rename_i c1 d1' g1 p1 t1;split at h1
       ·rename_i b z T1 T' By aF gO;split at h1
        ·rename_i dd ik oB hzv hs hT';simp only[als,alx] at h1;obtain⟨rfl,rfl,rfl,rfl,rfl⟩:=h1;obtain⟨q1,q2,q3⟩:=xl hs;obtain⟨dz,q4,q5⟩:=amv.1 hT';unfold rm2 at h2;split at h2
         ·rename_i x d2' g2 p2 t2;split at h2
          ·rename_i hx hxd;obtain rfl:=alw h2;unfold rm3 at h3;split at h3
           ·rename_i c3 d3' g3 p3 t3;split at h3
            ·rename_i y T3 aaJ YM ae4;split at h3
             ·rename_i hb3;obtain rfl:=alw h3;rw[alB] at hb3;have ey:=xt hb3.1;have eT:=alT hb3.2;subst ey;subst eT;unfold rm4 at h4;split at h4
              ·rename_i T4 x4 y4 d4' g4 p4 t4;split at h4
               ·rename_i hb4;obtain rfl:=alw h4;simp only[alB] at hb4;have e1:=xt hb4.2.1;have e2:=xt hb4.2.2;have e3:=alT hb4.1;subst e1;subst e2;subst e3;exact gv.room ax aj (n:=m) g1 g2 g3 g4 p1 By (by rw[<-ami (xs:=c1.args),aF]) (by rw[<-ami (xs:=c1.argTypes),gO]) q1 q2 q3 q4 q5 (alZ bN) oB hzv (by omega) hm G7
                 p2 hx (fun e=>by rw[e] at hxd;simp[xr] at hxd) p3 aaJ (by rw[<-ami (xs:=c3.args),YM]) (by rw[<-ami (xs:=c3.argTypes),ae4]) p4 t1 t2 t3 t4 (ak l1) (ak l2) (ak l3) (ak l4) (bu n12) (bu n13) (r8.sound ax hP aj cW _ _ JA)
               ·cases h4
              ·cases h4
             ·cases h3
            ·cases h3
           ·cases h3
          ·cases h2
         ·cases h2
        ·cases h1
       ·cases h1
      ·cases h1
     ·exact h.elim
    ·exact h.elim
   ·exact h.elim
  ·exact h.elim
 ·exact h.elim
def aaK:List (Nat×Nat)->Nat->Option Nat
 | [],_=>none
 |p::l,k=>(match Nat.beq p.1 k with
  |true=>some p.2
  |false=>aaK l k)
def Em (C:cJ) (id:Nat) (l:List Oper) (K:AS Unit->Prop) (s:AS Unit):Prop:=
 match aaK C.rm id with
 |none=>r8 C l K l s
 |some k=>r8 C l (fun s=>El C l K s (l.drop k)) (l.take k) s
theorem Em.sound {C:cJ} (ax:Γ.Ok) (hP:C.P=Γ.P) (aj:aZ Γ.P C.tab) (cW:C.nt=Γ.nt) {id:Nat} {K:AS Unit->Prop} {l:List Oper} {s:AS Unit} (h:Em C id l K s):gv Γ l.toArray K l s:=by
 unfold Em at h;split at h
 ·exact r8.sound ax hP aj cW l s h
 ·rename_i k _;have:=r8.Ob ax hP aj cW (rest:=l.drop k) (fun s h=>El.sound ax hP aj cW h) _ _ h
  rwa [amk] at this
def ki (C:cJ) (o:Oper) (s:AS Unit) (next:AS Unit->Prop):Prop:=
 match Lq C.tab C.M0 s.hp s.ev o.op (fun r=>next (s.put o.dst r)) with
 |some p=>p
 |none=>(match oR s o.op with
  |some (f,args)=>(match Eg C f o with
   | .one sh=>fC (cE (AV.bG s.hp) args).1 (Yz [] sh fun x=>ag C.P f (cE (AV.bG s.hp) args).2 x/\next (s.put o.dst x))
   |_=>False)
  |none=>False)
theorem ki.sound {C:cJ} (hP:C.P=Γ.P) {o:Oper} {next N R:AS Unit->Prop} (h:ki C o s next) (h1:∀s,next s->N s) (h2:∀s,next s->R s):DStep Γ C.tab o s N R:=by
 unfold ki at h;split at h
 ·rename_i p hp;obtain⟨c,r,g1,g2,g3⟩:=wb hp h;unfold DStep;rw[g1];exact⟨g2,h1 _ g3⟩
 ·split at h
  ·rename_i f args aF;split at h
   rotate_left
   ·exact h.elim
   rw[bt] at h;obtain⟨fO,h⟩:=h;obtain⟨x',wc,xq⟩:=qS h;rw[<-cf (g:=AV.bB s.hp) (fun x=>cO) _ fO,hP] at wc;rw[jN] at aF;unfold j7 at aF;split at aF
   ·rename_i c hc;split at aF
    ·rename_i x hx;split at aF
     ·rename_i f' caps dx;simp only[als,alx] at aF;obtain⟨rfl,rfl⟩:=aF;unfold DStep;rw[hc];have SU:bC C.tab s.hp s.ev (.call c)=none:=by simp only[bC,hx]
      have tM:eJ s (.call c)=some (f',(c.args.toList.map s.ev++caps).map (AV.bB s.hp)):=by simp only[eJ,hx,dx]
      rw[SU,tM];exact⟨x',wc,h2 _ xq⟩
     ·cases aF
    ·cases aF
   ·cases aF
  ·exact h.elim
def r9 (C:cJ) (l0:List Oper) (K:AS Unit->Prop):List Oper->AS Unit->Prop
 | [],s=>K s
 |o::rest,s=>(match vP C.nt o.dst with
  |false=>False
  |true=>(match cj o.op with
   |true=>(match o.guard with
    |none=>(match Ef C.tab s.hp s.ev o.op (fun r hp'=>r9 C l0 K rest (AS.put { s with hp:=hp' } o.dst r)) with
     |some p=>p
     |none=>False)
    |some _=>False)
   |false=>KG l0 o s (fun s=>ki C o s (r9 C l0 K rest)) (fun s=>r9 C l0 K rest (s.put o.dst (.ae (.tuple #[]))))))
theorem r9.sound {C:cJ} (ax:Γ.Ok) (hP:C.P=Γ.P) (aj:aZ Γ.P C.tab) (cW:C.nt=Γ.nt) {l0:List Oper} {K:AS Unit->Prop}:∀(l:List Oper) (s:AS Unit),r9 C l0 K l s->mf Γ C.tab C.nt l0.toArray K l s:=by
 intro l
 induction l with
 |nil=>intro s h;exact h
 |cons o rest ih=>
  intro s h;simp only[r9] at h;simp only[mf];split at h
  ·exact h.elim
  rename_i hd;have hd:=gZ hd;split at h
  ·rename_i he;rw[if_pos he];split at h
   ·rename_i hg;split at h
    ·rename_i p hp;obtain⟨c,r,hp',g1,g2,g3⟩:=pN hp h;rw[g1];exact⟨hd,hg,g2,ih _ g3⟩
    ·exact h.elim
   ·exact h.elim
  ·rename_i he;rw[if_neg (by rw[he];simp)];refine⟨hd,?_⟩;have mn:∀s,r9 C l0 K rest s->tN Γ l0.toArray K rest s:=fun s h=>mf.sound ax aj cW rest s (ih s h);rcases KG.cases h with⟨hg,h⟩|⟨j,want,b,hg,hb,⟨iN,h⟩|⟨iN,h⟩⟩|⟨j,want,hg,hb,h⟩
   ·rw[hg];exact ki.sound hP h ih mn
   ·rw[hg];dsimp only;rw[hb];exact⟨fun _=>ki.sound hP h ih mn,fun hn=>(hn iN).elim⟩
   ·rw[hg];dsimp only;rw[hb];exact⟨fun hn=>(iN hn).elim,fun _=>ih _ h⟩
   ·rw[hg];dsimp only;rw[hb];exact ih _ h
def To (ρ:Operand->AV):Op->Option Nat
 | .store _ p _=>(match ρ p with | .ptr r _=>some r | .fa r _ _ _=>some r|_=>none)
 | .mapUpdate _ m _ _=>(match ρ m with | .mp r=>some r|_=>none)
 | .call c=>(match c.args.toList with
  |b::_=>(match ρ b with | .own r _=>some r|_=>none)
  | []=>none)
 |_=>none
theorem YN {tab:Nat->Option TD} {hp hp':List af} {ρ:Operand->AV} {op:Op} {c:Prop} {r:AV} (h:dy tab hp ρ op=some (c,r,hp')):
  (∃o,hp'=hp++[o])\/∃q o,To ρ op=some q/\hp'=hp.set q o:=by
 cases op with
 |alloc T=>
  simp only[dy] at h;split at h
  ·simp only[als,alx] at h;exact .inl ⟨_,h.2.2.symm⟩
  ·cases h
 |box T x=>
  simp only[dy] at h;split at h
  ·simp only[als,alx] at h;exact .inl ⟨_,h.2.2.symm⟩
  ·cases h
 |store T p x=>
  simp only[dy] at h;split at h
  ·rename_i d r' o hd fG;split at h
   ·split at h
    ·simp only[als,alx] at h;exact .inr ⟨r',_,by simp only[To,fG],h.2.2.symm⟩
    ·cases h
   ·cases h
  ·rename_i d r' m i z hd fG;split at h
   ·split at h
    ·split at h
     ·simp only[als,alx] at h;exact .inr ⟨r',_,by simp only[To,fG],h.2.2.symm⟩
     ·simp only[als,alx] at h;exact .inr ⟨r',_,by simp only[To,fG],h.2.2.symm⟩
    ·cases h
   ·cases h
  ·cases h
 |makeSlice T l c=>
  simp only[dy] at h;split at h
  ·split at h
   ·split at h
    ·split at h
     ·split at h
      ·simp only[als,alx] at h;exact .inl ⟨_,h.2.2.symm⟩
      ·cases h
     ·cases h
    split at h
    ·simp only[als,alx] at h;exact .inl ⟨_,h.2.2.symm⟩
    ·cases h
   ·cases h
  ·cases h
 |makeMap T x=>
  cases x with
  |some x=>simp[dy] at h
  |none=>
   simp only[dy] at h;split at h
   ·split at h
    ·split at h
     ·split at h
      ·simp only[als,alx] at h;exact .inl ⟨_,h.2.2.symm⟩
      ·simp only[als,alx] at h;exact .inl ⟨_,h.2.2.symm⟩
     ·cases h
    ·cases h
   ·cases h
 |mapUpdate T m k x=>
  simp only[dy] at h;split at h
  ·rename_i d r' a v hd hm hk hx;split at h
   ·split at h
    ·split at h
     ·simp only[als,alx] at h;exact .inr ⟨r',_,by simp only[To,hm],h.2.2.symm⟩
     ·cases h
    ·cases h
   ·cases h
  ·rename_i d r' a v hd hm hk hx;split at h
   ·split at h
    ·split at h
     ·simp only[als,alx] at h;exact .inr ⟨r',_,by simp only[To,hm],h.2.2.symm⟩
     ·cases h
    ·cases h
   ·cases h
  ·cases h
 |call c=>
  simp only[dy] at h;split at h
  ·rename_i b x T T' hb hl hT;split at h
   ·split at h
    ·split at h
     ·split at h
      ·split at h
       ·simp only[als,alx] at h;exact .inl ⟨_,h.2.2.symm⟩
       ·simp only[als,alx] at h;exact .inl ⟨_,h.2.2.symm⟩
       ·rename_i r' n oB;split at h
        ·split at h
         ·simp only[als,alx] at h;exact .inr ⟨r',_,by simp only[To,hl,oB],h.2.2.symm⟩
         ·cases h
        ·split at h
         ·simp only[als,alx] at h;exact .inr ⟨r',_,by simp only[To,hl,oB],h.2.2.symm⟩
         ·cases h
        ·cases h
       ·cases h
      ·cases h
     ·cases h
    ·cases h
   ·cases h
  ·cases h
 |_=>simp[dy] at h
theorem mj.same (l:List Nat):∀(hp:List af) (q:Nat) (more:List af),mj l q hp (hp++more)
 | [],_,_=>True.intro
 |_::hp,q,more=>⟨.inr rfl,mj.same l hp (q+1) more⟩
theorem mj.refl (l:List Nat) (hp:List af) (q:Nat):mj l q hp hp:=by
 have:=mj.same l hp q []
 rwa [alV] at this
theorem mj.set (l:List Nat):∀(hp:List af) (q r:Nat) (o:af),q+r∈l->mj l q hp (hp.set r o)
 | [],_,_,_,_=>True.intro
 |_::hp,q,0,o,h=>⟨.inl h,mj.refl l hp (q+1)⟩
 |_::hp,q,r+1,o,h=>⟨.inr rfl,mj.set l hp (q+1) r o (by rw[show q+1+r=q+(r+1) from by omega];exact h)⟩
def HL:List Nat->Nat->Bool
 | [],_=>false
 |x::l,k=>(match Nat.beq x k with|true=>true|false=>HL l k)
theorem BB:∀{l:List Nat} {k:Nat},HL l k=true->k∈l
 | [],_,h=>by cases h
 |x::l,k,h=>by
  simp only[HL] at h;split at h
  ·rename_i hx;rw[alT hx];exact alS
  ·exact alR _ (BB h)
def oV:List (Option (List Nat))->Nat->Option (List Nat)
 | [],_=>none
 |x::_,0=>x
 |_::l,n+1=>oV l n
theorem eD:∀(l:List (Option (List Nat))) (n:Nat),oV l n=l.getD n none
 | [],n=>by simp[oV]
 |x::l,0=>by simp[oV]
 |x::l,n+1=>by simp only[oV,eD l n,List.getD_cons_succ]
def Oc (m:Option (List Nat)) (ρ:Operand->AV) (op:Op):Bool:=
 match m with
 |none=>true
 |some l=>(match To ρ op with
  |none=>true
  |some q=>HL l q)
theorem BC {tab:Nat->Option TD} {hp hp':List af} {ρ:Operand->AV} {op:Op} {c:Prop} {r:AV} {m:Option (List Nat)} (hb:Oc m ρ op=true) (h:dy tab hp ρ op=some (c,r,hp')):
  ∀l,m=some l->mj l 0 hp hp':=by
 intro l hm;subst hm
 ·rcases YN h with⟨o,rfl⟩|⟨q,o,hq,rfl⟩
  ·exact mj.same l hp 0 [o]
  ·simp only[Oc,hq] at hb;exact mj.set l hp 0 q o (by rw[al2];exact BB hb)
def eE (C:cJ) (m:Option (List Nat)) (o:Oper) (s:AS Unit) (next:AS Unit->Prop):Prop:=
 match fP o.op with
 |true=>(match Lq C.tab C.M0 s.hp s.ev o.op (fun r=>next (s.put o.dst r)) with
  |some p=>p
  |none=>False)
 |false=>(match m with
  |none=>ki C o s next
  |some K=>okB ((pM o.op).all fun x=>(s.ev x).closed (kill K s.hp).length) (okB ((kill K s.hp).all fun ob=>af.closed (kill K s.hp).length ob)
   (match Lq C.tab C.M0 (kill K s.hp) s.ev o.op (fun r=>okB (r.held (kill K s.hp)) (next (s.put o.dst r))) with
   |some p=>p
   |none=>(match oR s o.op with
    |some (f,args)=>(match Eg C f o with
     | .one sh=>fC (cE (AV.bG (kill K s.hp)) args).1 (Yz [] sh fun x=>ag C.P f (cE (AV.bG (kill K s.hp)) args).2 x/\okB (x.held (kill K s.hp)) (next (s.put o.dst x)))
     |_=>False)
    |none=>False))))
theorem En {s:AS Unit} {op:Op} {f:Nat} {args:List AV} (h:oR s op=some (f,args)) (tab:Nat->Option TD) (hp:List af):
  bC tab hp s.ev op=none/\eJ { s with hp:=hp } op=some (f,args.map (AV.bB hp)):=by
 rw[jN] at h;unfold j7 at h;split at h
 ·rename_i c;split at h
  ·rename_i x hx;split at h
   ·rename_i f' caps dx;simp only[als,alx] at h;obtain⟨rfl,rfl⟩:=h;refine⟨by simp only[bC,hx],?_⟩;have ae5:(AS.ev { s with hp:=hp } x)=.aY f' caps:=by rw[<-dx];cases x<;>rfl
    have hm:c.args.toList.map (AS.ev { s with hp:=hp })=c.args.toList.map s.ev:=amM fun y _=>by cases y<;>rfl
    simp only[eJ,hx,ae5,hm]
   ·cases h
  ·cases h
 ·cases h
theorem eE.sound {C:cJ} (hP:C.P=Γ.P) {m:Option (List Nat)} {o:Oper} {next N R:AS Unit->Prop} (h:eE C m o s next) (h1:∀s,next s->N s) (h2:∀s,next s->R s):gW Γ C.tab m o s N R:=by
 unfold eE at h;unfold gW;split at h
 ·rename_i hh;rw[if_pos hh];split at h
  ·rename_i p hp;obtain⟨c,r,g1,g2,g3⟩:=wb hp h;rw[g1];exact⟨g2,h1 _ g3⟩
  ·exact h.elim
 ·rename_i hh;rw[if_neg (by rw[hh];simp)]
  cases m with
  |none=>exact ki.sound hP h h1 h2
  |some K=>
   dsimp only at h ⊢;obtain⟨MT,h⟩:=bT h;obtain⟨Js,h⟩:=bT h;refine⟨MT,fun ob dB=>alK.1 Js ob dB,?_⟩;split at h
   ·rename_i p hp;obtain⟨c,r,g1,g2,g3⟩:=wb hp h;obtain⟨g4,g5⟩:=bT g3;rw[g1];exact⟨g2,g4,h1 _ g5⟩
   ·split at h
    ·rename_i f args aF;split at h
     rotate_left
     ·exact h.elim
     rw[bt] at h;obtain⟨fO,h⟩:=h;obtain⟨x',wc,xq⟩:=qS h;obtain⟨g4,g5⟩:=bT xq;rw[<-cf (g:=AV.bB (kill K s.hp)) (fun x=>cO) _ fO,hP] at wc;obtain⟨q1,q2⟩:=En aF C.tab (kill K s.hp);rw[q1,q2];exact⟨x',wc,g4,h2 _ g5⟩
    ·exact h.elim
def sa (C:cJ) (l0:List Oper) (Cl M:List (Option (List Nat))) (K:AS Unit->Prop):Nat->List Oper->AS Unit->Prop
 |_,[],s=>K s
 |k,o::rest,s=>(match vP C.nt o.dst with
  |false=>False
  |true=>(match cj o.op with
   |true=>(match o.guard with
    |none=>okB (Oc (oV Cl k) s.ev o.op) (match Ef C.tab s.hp s.ev o.op (fun r hp'=>sa C l0 Cl M K (k+1) rest (AS.put { s with hp:=hp' } o.dst r)) with
     |some p=>p
     |none=>False)
    |some _=>False)
   |false=>KG l0 o s (fun s=>eE C (oV M k) o s (sa C l0 Cl M K (k+1) rest)) (fun s=>sa C l0 Cl M K (k+1) rest (s.put o.dst (.ae (.tuple #[]))))))
theorem sa.sound {C:cJ} (ajo:Γ.Ok) (hP:C.P=Γ.P) (aj:aZ Γ.P C.tab) (cW:C.nt=Γ.nt) {l0:List Oper} {Cl M:List (Option (List Nat))} {K:AS Unit->Prop}:∀(l:List Oper) (k:Nat) (s:AS Unit),sa C l0 Cl M K k l s->ml Γ C.tab C.nt l0.toArray Cl M K k l s:=by
 intro l
 induction l with
 |nil=>intro k s h;exact h
 |cons o rest ih=>
  intro k s h;simp only[sa] at h;simp only[ml];split at h
  ·exact h.elim
  rename_i hd;have hd:=gZ hd;split at h
  ·rename_i he;rw[if_pos he];split at h
   ·rename_i hg;obtain⟨Eo,h⟩:=bT h;split at h
    ·rename_i p hp;obtain⟨c,r,hp',g1,g2,g3⟩:=pN hp h;have:=BC Eo g1;rw[eD] at this;rw[g1];refine⟨hd,hg,g2,?_,ih _ _ g3⟩;split
     ·trivial
     ·rename_i l hl;exact this l hl
    ·exact h.elim
   ·exact h.elim
  ·rename_i he;rw[if_neg (by rw[he];simp)];refine⟨hd,?_⟩;have mn:∀s,sa C l0 Cl M K (k+1) rest s->nV Γ l0.toArray Cl M K (k+1) rest s:=fun s h=>ml.sound aj cW rest (k+1) s (ih _ s h);rcases KG.cases h with⟨hg,h⟩|⟨j,want,b,hg,hb,⟨iN,h⟩|⟨iN,h⟩⟩|⟨j,want,hg,hb,h⟩
   ·rw[hg];dsimp only;rw[eD] at h;exact eE.sound hP h (ih _) mn
   ·rw[hg];dsimp only;rw[hb];rw[eD] at h;exact⟨fun _=>eE.sound hP h (ih _) mn,fun hn=>(hn iN).elim⟩
   ·rw[hg];dsimp only;rw[hb];exact⟨fun hn=>(iN hn).elim,fun _=>ih _ _ h⟩
   ·rw[hg];dsimp only;rw[hb];exact ih _ _ h
def bn (hs:List Nat) (o:Oper):Bool:=
 match o.op with
 | .call c=>(match c.callee with
  | .value (.func f)=>HL hs f
  | .value (.tmp t)=>HL hs (t+1000000)
  |_=>false)
 |_=>false
def qz (C:cJ) (hs:List Nat) (l0:List Oper) (K:AS Unit->Prop):List Oper->AS Unit->Prop
 | [],s=>K s
 |o::rest,s=>(match vP C.nt o.dst with
  |false=>False
  |true=>(match cj o.op with
   |true=>(match o.guard with
    |none=>(match Ef C.tab s.hp s.ev o.op (fun r hp'=>qz C hs l0 K rest (AS.put { s with hp:=hp' } o.dst r)) with
     |some p=>p
     |none=>False)
    |some _=>False)
   |false=>(match bn hs o with
    |true=>KG l0 o s (fun s=>iz C o s (qz C hs l0 K rest)) (fun s=>qz C hs l0 K rest (s.put o.dst (.ae (.tuple #[]))))
    |false=>KG l0 o s (fun s=>ki C o s (qz C hs l0 K rest)) (fun s=>qz C hs l0 K rest (s.put o.dst (.ae (.tuple #[])))))))
theorem qz.sound {C:cJ} (ax:Γ.Ok) (hP:C.P=Γ.P) (aj:aZ Γ.P C.tab) (cW:C.nt=Γ.nt) {hs:List Nat} {l0:List Oper} {K:AS Unit->Prop}:∀(l:List Oper) (s:AS Unit),qz C hs l0 K l s->jx Γ l0.toArray (bn hs) K l s:=by
 intro l
 induction l with
 |nil=>intro s h;exact h
 |cons o rest ih=>
  intro s h;simp only[qz] at h;simp only[jx];split at h
  ·exact h.elim
  rename_i hd;have hd:=gZ hd;rw[cW] at hd;split at h
  ·rename_i he;rw[if_pos he];split at h
   ·rename_i hg;split at h
    ·rename_i p hp;obtain⟨c,r,hp',g1,g2,g3⟩:=pN hp h;exact⟨hd,hg,r,hp',iB ax aj g1 g2,ih _ g3⟩
    ·exact h.elim
   ·exact h.elim
  ·rename_i he;rw[if_neg (by rw[he];simp)];split at h
   ·rename_i hh;rw[if_pos hh];rcases KG.cases h with⟨hg,h⟩|⟨j,want,b,hg,hb,⟨iN,h⟩|⟨iN,h⟩⟩|⟨j,want,hg,hb,h⟩
    ·exact .inl ⟨by simp[aO,hg],iz.sound ax hP aj cW h ih⟩
    ·exact .inl ⟨by simp[aO,hg,hb,iN],iz.sound ax hP aj cW h ih⟩
    ·exact .inr ⟨by simp[aO,hg,hb,iN],hd,ih _ h⟩
    ·exact .inr ⟨by simp[aO,hg,hb],hd,ih _ h⟩
   ·rename_i hh;rw[if_neg (by rw[hh];simp)];rcases KG.cases h with⟨hg,h⟩|⟨j,want,b,hg,hb,⟨iN,h⟩|⟨iN,h⟩⟩|⟨j,want,hg,hb,h⟩
    ·obtain⟨x,h3,h4⟩:=DStep.sound (ops:=l0.toArray) ax aj (ki.sound (Γ:=Γ) (N:=jx Γ l0.toArray (bn hs) K rest) (R:=jx Γ l0.toArray (bn hs) K rest) hP h ih ih) (fun _ h=>h) (fun _ h=>h);exact⟨x,⟨hd,.inl ⟨by simp[aO,hg],h3⟩⟩,h4⟩
    ·obtain⟨x,h3,h4⟩:=DStep.sound (ops:=l0.toArray) ax aj (ki.sound (Γ:=Γ) (N:=jx Γ l0.toArray (bn hs) K rest) (R:=jx Γ l0.toArray (bn hs) K rest) hP h ih ih) (fun _ h=>h) (fun _ h=>h);exact⟨x,⟨hd,.inl ⟨by simp[aO,hg,hb,iN],h3⟩⟩,h4⟩
    ·exact⟨_,⟨hd,.inr ⟨by simp[aO,hg,hb,iN],rfl⟩⟩,ih _ h⟩
    ·exact⟨_,⟨hd,.inr ⟨by simp[aO,hg,hb],rfl⟩⟩,ih _ h⟩
def qA (C:cJ) (hs:List Nat) (l0:List Oper) (Cl M:List (Option (List Nat))) (K:AS Unit->Prop):Nat->List Oper->AS Unit->Prop
 |_,[],s=>K s
 |k,o::rest,s=>(match vP C.nt o.dst with
  |false=>False
  |true=>(match cj o.op with
   |true=>(match o.guard with
    |none=>okB (Oc (oV Cl k) s.ev o.op) (match Ef C.tab s.hp s.ev o.op (fun r hp'=>qA C hs l0 Cl M K (k+1) rest (AS.put { s with hp:=hp' } o.dst r)) with
     |some p=>p
     |none=>False)
    |some _=>False)
   |false=>(match bn hs o with
    |true=>KG l0 o s (fun s=>iz C o s (qA C hs l0 Cl M K (k+1) rest)) (fun s=>qA C hs l0 Cl M K (k+1) rest (s.put o.dst (.ae (.tuple #[]))))
    |false=>KG l0 o s (fun s=>eE C (oV M k) o s (qA C hs l0 Cl M K (k+1) rest)) (fun s=>qA C hs l0 Cl M K (k+1) rest (s.put o.dst (.ae (.tuple #[])))))))
theorem qA.sound {C:cJ} (ax:Γ.Ok) (hP:C.P=Γ.P) (aj:aZ Γ.P C.tab) (cW:C.nt=Γ.nt) {hs:List Nat} {l0:List Oper} {Cl M:List (Option (List Nat))} {K:AS Unit->Prop}:∀(l:List Oper) (k:Nat) (s:AS Unit),qA C hs l0 Cl M K k l s->jy Γ l0.toArray (bn hs) Cl M K k l s:=by
 intro l
 induction l with
 |nil=>intro k s h;exact h
 |cons o rest ih=>
  intro k s h;simp only[qA] at h;simp only[jy];split at h
  ·exact h.elim
  rename_i hd;have hd:=gZ hd;rw[cW] at hd;split at h
  ·rename_i he;rw[if_pos he];split at h
   ·rename_i hg;obtain⟨Eo,h⟩:=bT h;split at h
    ·rename_i p hp;obtain⟨c,r,hp',g1,g2,g3⟩:=pN hp h;have:=BC Eo g1;rw[eD] at this;refine⟨hd,hg,r,hp',fun rR Bs e1 e2 e3=>iB Bs (tab:=C.tab) (by rw[e1];exact aj) (c:=c) ?_ g2,?_,ih _ _ g3⟩
     ·rw[<-g1];exact qN fun x hx=>jG hx
     ·unfold kb;split
      ·trivial
      ·rename_i l' hl;have qq:=mj.fr (l:=l') s.hp hp' 0 (this l' hl);exact⟨qq.1,fun i ob hi ho=>qq.2 i ob (by simpa using hi) ho⟩
    ·exact h.elim
   ·exact h.elim
  ·rename_i he;rw[if_neg (by rw[he];simp)];split at h
   ·rename_i hh;rw[if_pos hh];rcases KG.cases h with⟨hg,h⟩|⟨j,want,b,hg,hb,⟨iN,h⟩|⟨iN,h⟩⟩|⟨j,want,hg,hb,h⟩
    ·exact .inl ⟨by simp[aO,hg],iz.sound ax hP aj cW h (ih (k+1))⟩
    ·exact .inl ⟨by simp[aO,hg,hb,iN],iz.sound ax hP aj cW h (ih (k+1))⟩
    ·exact .inr ⟨by simp[aO,hg,hb,iN],hd,ih _ _ h⟩
    ·exact .inr ⟨by simp[aO,hg,hb],hd,ih _ _ h⟩
   ·rename_i hh;rw[if_neg (by rw[hh];simp)];rcases KG.cases h with⟨hg,h⟩|⟨j,want,b,hg,hb,⟨iN,h⟩|⟨iN,h⟩⟩|⟨j,want,hg,hb,h⟩
    ·rw[eD] at h;obtain⟨x,h3,h4⟩:=gW.sound (ops:=l0.toArray) aj (eE.sound (Γ:=Γ) (N:=jy Γ l0.toArray (bn hs) Cl M K (k+1) rest) (R:=jy Γ l0.toArray (bn hs) Cl M K (k+1) rest) hP h (ih (k+1)) (ih (k+1))) (fun _ h=>h) (fun _ h=>h) (.inl hg);exact⟨x,⟨hd,.inl ⟨by simp[aO,hg],h3⟩⟩,h4⟩
    ·rw[eD] at h;obtain⟨x,h3,h4⟩:=gW.sound (ops:=l0.toArray) aj (eE.sound (Γ:=Γ) (N:=jy Γ l0.toArray (bn hs) Cl M K (k+1) rest) (R:=jy Γ l0.toArray (bn hs) Cl M K (k+1) rest) hP h (ih (k+1)) (ih (k+1))) (fun _ h=>h) (fun _ h=>h) (.inr ⟨j,want,_,hg,hb⟩);exact⟨x,⟨hd,.inl ⟨by simp[aO,hg,hb,iN],h3⟩⟩,h4⟩
    ·exact⟨_,⟨hd,.inr ⟨by simp[aO,hg,hb,iN],rfl⟩⟩,ih _ _ h⟩
    ·exact⟨_,⟨hd,.inr ⟨by simp[aO,hg,hb],rfl⟩⟩,ih _ _ h⟩
def Tp:List (Nat×List Nat)->Nat->Option (List Nat)
 | [],_=>none
 |p::l,k=>(match Nat.beq p.1 k with|true=>some p.2|false=>Tp l k)
def YO:List (Nat×List (Option (List Nat))×List (Option (List Nat)))->Nat->Option (List (Option (List Nat))×List (Option (List Nat)))
 | [],_=>none
 |p::l,k=>(match Nat.beq p.1 k with|true=>some p.2|false=>YO l k)
end Go.Proofs.YtdcikhleahfknaaGreatDoor
