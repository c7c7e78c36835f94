/- Texts of ours laid together for a claim: VcC. -/
import Derived.Test.YtjhanogfpkbamaaGreatDoorQ22
namespace Go.Proofs.YtjhanogfpkbamaaGreatDoor
open Go
set_option linter.unusedSimpArgs false
set_option linter.unusedVariables false
inductive wT where
 |i (k:IntKind)
 |b
 |s
 |l
 |c
 |m
 |ms
 |k (x:AV)
 |o (r:Nat)
 |fn
 |q (x:AV)
inductive tD where
 |c (x:wT)
 |a (l:List wT)
inductive Sh where
 |v (x:tD)
 |t (l:List tD)
 |f (fn:Nat) (l:List tD)
 |m (fn:Nat) (l:List tD)
inductive lf where
 |dead
 |box (l:List wT)
 |row (e size:Nat)
 |cQ
 |vN
 |dD (r:Nat)
 |bM (e size:Nat)
 |eH (e:Nat)
def rB:List Nat→Nat→Nat
 | [],_=>0
 |x::_,0=>x
 |_::l,n+1=>rB l n
def V8 (lens:List Nat):wT→(AV→Prop)→Prop
 | .i k,P=>∃n:Int,P (.ah (.int k n))
 | .b,P=>∃b:Bool,P (.ah (.bool b))
 | .s,P=>∃s:ByteArray,P (.ah (.string s))
 | .l,P=>∃l:List AV,P (.sl l)
 | .c,P=>∃l:List AV,P (.clip l)
 | .m,P=>∃l:List (Int×Value),P (.fH (.i l))
 | .ms,P=>∃l:List (ByteArray×Value),P (.fH (.s l))
 | .k x,P=>P x
 | .o r,P=>P (.own r (rB lens r))
 | .fn,P=>∃v:Value,P (.fn v)
 | .q x,P=>P x
def I9 (lens:List Nat):List wT→(List AV→Prop)→Prop
 | [],P=>P []
 |sh::l,P=>V8 lens sh fun x=>I9 lens l fun xs=>P (x::xs)
def Nv (lens:List Nat):tD→(AV→Prop)→Prop
 | .c x,P=>V8 lens x P
 | .a l,P=>I9 lens l fun cs=>P (.agg cs)
def Ez (lens:List Nat):List tD→(List AV→Prop)→Prop
 | [],P=>P []
 |sh::l,P=>Nv lens sh fun x=>Ez lens l fun xs=>P (x::xs)
def V9 (lens:List Nat):Sh→(AV→Prop)→Prop
 | .v x,P=>Nv lens x P
 | .t l,P=>Ez lens l fun cs=>P (.aX cs)
 | .f fn l,P=>Ez lens l fun cs=>P (.ck fn cs)
 | .m fn l,P=>Ez lens l fun cs=>P (.cX fn cs)
theorem Ja {lens:List Nat} {sh:wT} {P:AV→Prop} (h:V8 lens sh P):∃x,P x:=by
 cases sh with
 |i k=>obtain⟨n,h⟩:=h;exact⟨_,h⟩
 |b=>obtain⟨n,h⟩:=h;exact⟨_,h⟩
 |s=>obtain⟨n,h⟩:=h;exact⟨_,h⟩
 |q x=>exact⟨_,h⟩
 |l=>obtain⟨n,h⟩:=h;exact⟨_,h⟩
 |c=>obtain⟨n,h⟩:=h;exact⟨_,h⟩
 |m=>obtain⟨n,h⟩:=h;exact⟨_,h⟩
 |ms=>obtain⟨n,h⟩:=h;exact⟨_,h⟩
 |fn=>obtain⟨n,h⟩:=h;exact⟨_,h⟩
 |k x=>exact⟨_,h⟩
 |o r=>exact⟨_,h⟩
theorem yQ {lens:List Nat}:∀{l:List wT} {P:List AV→Prop},I9 lens l P→∃xs,P xs
 | [],_,h=>⟨_,h⟩
 |_::_,_,h=>by
  obtain⟨x,h⟩:=Ja h
  obtain⟨xs,h⟩:=yQ h
  exact⟨_,h⟩
theorem xz {lens:List Nat} {sh:tD} {P:AV→Prop} (h:Nv lens sh P):∃x,P x:=by
 cases sh with
 |c x=>exact Ja h
 |a l=>obtain⟨cs,h⟩:=yQ h;exact⟨_,h⟩
theorem tE {lens:List Nat}:∀{l:List tD} {P:List AV→Prop},Ez lens l P→∃xs,P xs
 | [],_,h=>⟨_,h⟩
 |_::_,_,h=>by
  obtain⟨x,h⟩:=xz h
  obtain⟨xs,h⟩:=tE h
  exact⟨_,h⟩
theorem su {lens:List Nat} {sh:Sh} {P:AV→Prop} (h:V9 lens sh P):∃x,P x:=by
 cases sh with
 |v x=>exact xz h
 |t l=>obtain⟨cs,h⟩:=tE h;exact⟨_,h⟩
 |f fn l=>obtain⟨cs,h⟩:=tE h;exact⟨_,h⟩
 |m fn l=>obtain⟨cs,h⟩:=tE h;exact⟨_,h⟩
def Rg:List lf→(List (List AV)→Prop)→Prop
 | [],P=>P []
 | .row _ _::l,P | .bM _ _::l,P=>∃els:List AV,Rg l fun ls=>P (els::ls)
 |_::l,P=>Rg l fun ls=>P ([]::ls)
def Nw:List (List AV)→List Nat
 | []=>[]
 |l::ls=>l.length::Nw ls
def Yc (lens:List Nat):lf→List AV→(af→Prop)→Prop
 | .dead,_,P=>P .dead
 | .box l,_,P=>I9 lens l fun cs=>P (.box cs)
 | .row e size,els,P=>P (.row e size els)
 | .bM e size,els,P=>P (.bM e size els)
 | .cQ,_,P=>∃es:List (Int×Value),P (.cQ (.i es))
 | .dD r,_,P=>P (.dD r (rB lens r))
 | .vN,_,P=>∃es:List (ByteArray×Value),P (.cQ (.s es))
 | .eH _,_,_=>False
def Nx (lens:List Nat):List lf→List (List AV)→(List af→Prop)→Prop
 | [],_,P=>P []
 |o::l,els::ls,P=>Yc lens o els fun x=>Nx lens l ls fun xs=>P (x::xs)
 |_::_,[],_=>False
theorem Rh {l:List lf}:∀{P:List (List AV)→Prop},Rg l P→∃ls,P ls:=by
 induction l with
 |nil=>intro P h;exact⟨_,h⟩
 |cons o l ih=>
  intro P h
  cases o with
  |row e size=>obtain⟨els,h⟩:=h;obtain⟨ls,h⟩:=ih h;exact⟨_,h⟩
  |bM e size=>obtain⟨els,h⟩:=h;obtain⟨ls,h⟩:=ih h;exact⟨_,h⟩
  |dead=>obtain⟨ls,h⟩:=ih (P:=fun ls=>P ([]::ls)) h;exact⟨_,h⟩
  |box l=>obtain⟨ls,h⟩:=ih (P:=fun ls=>P ([]::ls)) h;exact⟨_,h⟩
  |cQ=>obtain⟨ls,h⟩:=ih (P:=fun ls=>P ([]::ls)) h;exact⟨_,h⟩
  |vN=>obtain⟨ls,h⟩:=ih (P:=fun ls=>P ([]::ls)) h;exact⟨_,h⟩
  |dD r=>obtain⟨ls,h⟩:=ih (P:=fun ls=>P ([]::ls)) h;exact⟨_,h⟩
  |eH e=>obtain⟨ls,h⟩:=ih (P:=fun ls=>P ([]::ls)) h;exact⟨_,h⟩
theorem Ri {lens:List Nat} {o:lf} {els:List AV} {P:af→Prop} (h:Yc lens o els P):∃x,P x:=by
 cases o with
 |dead=>exact⟨_,h⟩
 |box l=>obtain⟨cs,h⟩:=yQ h;exact⟨_,h⟩
 |row e size=>exact⟨_,h⟩
 |bM e size=>exact⟨_,h⟩
 |cQ=>obtain⟨es,h⟩:=h;exact⟨_,h⟩
 |vN=>obtain⟨es,h⟩:=h;exact⟨_,h⟩
 |dD r=>exact⟨_,h⟩
 |eH e=>exact h.elim
theorem EA {lens:List Nat}:∀{l:List lf} {ls:List (List AV)} {P:List af→Prop},Nx lens l ls P→∃xs,xs.length=l.length∧P xs
 | [],_,_,h=>⟨[],rfl,h⟩
 |_::_,[],_,h=>h.elim
 |o::l,els::ls,P,h=>by
  obtain⟨x,h⟩:=Ri h
  obtain⟨xs,hl,h⟩:=EA h
  exact⟨x::xs,by simp[hl],h⟩
def Wa (a:Sh×List lf) (r:AV) (hp':List af) (k:AV→List af→Prop):Prop:=
 Rg a.2 fun ls=>Nx (Nw ls) a.2 ls fun h=>V9 (Nw ls) a.1 fun x=>(r=x∧hp'=h)∧k x h
def Jb:List (Sh×List lf)→AV→List af→(AV→List af→Prop)→Prop
 | [],_,_,_=>False
 | [a],r,hp',k=>Wa a r hp' k
 |a::l,r,hp',k=>Wa a r hp' k∨Jb l r hp' k
def U9 (a:Sh) (r:AV) (k:AV→Prop):Prop:=V9 [] a fun x=>r=x∧k x
def B4:List Sh→AV→(AV→Prop)→Prop
 | [],_,_=>False
 | [a],r,k=>U9 a r k
 |a::l,r,k=>U9 a r k∨B4 l r k
theorem Jc {a:Sh×List lf} {r:AV} {hp':List af} {k:AV→List af→Prop} (h:Wa a r hp' k):k r hp':=by
 obtain⟨ls,h⟩:=Rh h
 obtain⟨hs,_,h⟩:=EA h
 obtain⟨x,⟨rfl,rfl⟩,h⟩:=su h
 exact h
theorem iV:∀{l:List (Sh×List lf)} {r:AV} {hp':List af} {k:AV→List af→Prop},Jb l r hp' k→k r hp'
 | [],_,_,_,h=>h.elim
 | [_],_,_,_,h=>Jc h
 |_::_::_,_,_,_,h=>h.elim Jc iV
theorem u6:∀{l:List Sh} {r:AV} {k:AV→Prop},B4 l r k→k r
 | [],_,_,h=>h.elim
 | [_],_,_,h=>by obtain⟨x,rfl,h⟩:=su h;exact h
 |_::_::_,_,_,h=>h.elim (fun h=>by obtain⟨x,rfl,h⟩:=su h;exact h) u6
def Va (az:Nat→Option TD) (hp:List af) (ρ:Operand→AV):Op→Option (List Prop×List AV×Int×Nat×Nat)
 | .indexAddr T x i=>(match az T with
  |some d=>(match d.kind with
   | .lO e=>(match az e,(ρ x).l6 hp,ρ i with
    |some d',some (cs,els),.ah (.int _ n)=>some (cs,els,n,e,d'.size)
    |_,_,_=>none)
   |_=>none)
  |none=>none)
 |_=>none
def Wb (az:Nat→Option TD) (hp:List af) (ρ:Operand→AV):Op→Option (Prop×AV)
 | .indexAddr T x i=>(match uQ hp (ρ x) with
  |some (r,m,e',size,k)=>(match az T with
   |some d=>(match d.kind with
    | .lO e=>(match az e,ρ i with
     |some d',.ah (.int _ n)=>if e'=e∧size=d'.size then some (0≤n∧n<m∧m=k,.fY r m n.toNat size) else none
     |_,_=>none)
    |_=>none)
   |none=>none)
  |none=>none)
 |_=>none
theorem Rj {az:Nat→Option TD} {hp:List af} {ρ:Operand→AV} {op:Op} {c:Prop} {r:AV} (h:Wb az hp ρ op=some (c,r)):bN az hp ρ op=some (c,r):=by
 unfold Wb at h
 split at h
 ·rename_i T x i
  split at h
  ·rename_i q m e' size k' hm
   split at h
   ·rename_i d hd
    split at h
    ·rename_i e hk
     split at h
     ·rename_i d' k n eG hi
      obtain⟨hx,els,ry,_⟩:=qJ hm
      have M9:(ρ x).jq hp=none:=by rw[hx];simp only[AV.jq,ry]
      simp only[bN,hd,hk,eG,M9,hi,hm]
      exact h
     ·cases h
    ·cases h
   ·cases h
  ·cases h
 ·cases h
def Wc (az:Nat→Option TD) (ρ:Operand→AV):Op→Option (Nat×Int×Nat)
 | .indexAddr T x i=>(match az T with
  |some d=>(match d.kind with
   | .arr m=>(match ρ x,ρ i with
    | .ptr r 0,.ah (.int _ n)=>some (r,n,m)
    |_,_=>none)
   |_=>none)
  |none=>none)
 |_=>none
theorem Rk {az:Nat→Option TD} {hp:List af} {ρ:Operand→AV} {op:Op} {r:Nat} {n:Int} {m:Nat} (h:Wc az ρ op=some (r,n,m)):bN az hp ρ op=some (0≤n∧n<m,.ptr r n.toNat):=by
 unfold Wc at h
 split at h
 ·rename_i T x i
  split at h
  ·rename_i d hd
   split at h
   ·rename_i m' hk
    split at h
    ·rename_i r' k n' hx hi
     simp only[Option.some.injEq,Prod.mk.injEq] at h
     obtain⟨rfl,rfl,rfl⟩:=h
     simp only[bN,hd,hk,hx,hi]
    ·cases h
   ·cases h
  ·cases h
 ·cases h
def HJ (n:Int) (k:Nat→Prop):Nat→Nat→Prop
 |0,_=>False
 |1,j=>k j
 |f+2,j=>ak (n==(j:Int)) (k j) (HJ n k (f+1) (j+1))
theorem AL {n:Int} {k:Nat→Prop}:∀(f j:Nat),(j:Int)≤n→n<(j:Int)+f→HJ n k f j→k n.toNat
 |0,j,h1,h2,_=>by omega
 |1,j,h1,h2,h=>by
  have:n.toNat=j:=by omega
  rw[this];exact h
 |f+2,j,h1,h2,h=>by
  by_cases e:n=(j:Int)
  ·have h':=h.elim.1 (by simpa using e)
   have:n.toNat=j:=by omega
   rw[this];exact h'
  ·exact AL (f+1) (j+1) (by omega) (by omega) (h.elim.2 (by simpa using e))
def ldM (az:Nat→Option TD) (hp:List af) (ρ:Operand→AV):Op→Option (Prop×List AV×Nat×Nat×Bool)
 | .load T x=>(match ρ x with
  | .fY r m i z=>(match hp[r]?,az T with
   |some (.bM _ z' els),some d=>(match Nat.beq z' z&&Nat.beq d.size z with
    |true=>some (m=els.length,els,i,T,d.kind.agg)
    |false=>none)
   |_,_=>none)
  |_=>none)
 |_=>none
theorem Wd {az:Nat→Option TD} {hp:List af} {ρ:Operand→AV} {op:Op} {els:List AV} {i T:Nat} {b:Bool} {c:Prop} (h:ldM az hp ρ op=some (c,els,i,T,b)):bN az hp ρ op=some (c∧i<els.length∧(els.getD i .top).isAgg=b,els.getD i .top):=by
 unfold ldM at h
 split at h
 ·rename_i T' x
  split at h
  ·rename_i r m i' z hx
   split at h
   ·rename_i e z' mJ d hr hd
    split at h
    ·rename_i hb
     rw[ahZ] at hb
     simp only[Option.some.injEq,Prod.mk.injEq] at h
     obtain⟨rfl,rfl,rfl,rfl,rfl⟩:=h
     simp only[bN,hd,hx,hr]
     rw[if_pos ⟨ain hb.1,ain hb.2⟩]
    ·cases h
   ·cases h
  ·cases h
 ·cases h
def sized (size:Nat) (x:AV) (p:Prop):Prop:=if x.cells.length=size then p else False
def We (b:Bool) (x:AV) (p:Prop):Prop:=match x.isAgg==b with|true=>p|false=>False
def K4 (az:Nat→Option TD) (Mk:Nat→tD) (hp:List af) (ρ:Operand→AV) (op:Op) (k:AV→Prop):Option Prop:=
 match Va az hp ρ op with
 |some (cs,els,n,e,size)=>some (gU cs (0≤n∧n<els.length∧Nv [] (Mk e) fun x=>els.getD n.toNat .top=x∧sized size x (k (.cL x 0))))
 |none=>(match Wb az hp ρ op with
  |some (c,r)=>some (c∧k r)
  |none=>(match pv az hp ρ op with
   |some (cs,r)=>some (gU cs (k r))
   |none=>(match Wc az ρ op with
    |some (r,n,m)=>some ((0≤n∧n<m)∧HJ n (fun j=>k (.ptr r j)) m 0)
    |none=>(match ldM az hp ρ op with
     |some (c,els,i,T,b)=>some (c∧i<els.length∧Nv [] (Mk T) fun x=>els.getD i .top=x∧We b x (k x))
     |none=>none))))
theorem Rl {b:Bool} {x:AV} {p:Prop} (h:We b x p):x.isAgg=b∧p:=by
 unfold We at h
 split at h
 ·rename_i hb;exact⟨by cases b<;>cases hx:x.isAgg<;>simp_all,h⟩
 ·exact h.elim
theorem xA {az:Nat→Option TD} {Mk:Nat→tD} {hp:List af} {ρ:Operand→AV} {op:Op} {k:AV→Prop} {p:Prop} (h:K4 az Mk hp ρ op k=some p) (rM:p):∃c r,bN az hp ρ op=some (c,r)∧c∧k r:=by
 unfold K4 at h
 split at h
 ·rename_i cs els n e size rz
  obtain rfl:=Option.some.inj h
  rw[bG] at rM
  obtain⟨hc,h0,h1,h2⟩:=rM
  obtain⟨x,hx,hk⟩:=xz h2
  unfold sized at hk
  split at hk
  ·rename_i hs
   unfold Va at rz
   split at rz
   ·rename_i T y i
    split at rz
    ·rename_i d hd
     split at rz
     ·rename_i e' sV
      split at rz
      ·rename_i d' iP mJ ik n' eG hy hi
       simp only[Option.some.injEq,Prod.mk.injEq] at rz
       obtain⟨rfl,rfl,rfl,rfl,rfl⟩:=rz
       have M9:=gV hy hc
       refine⟨0≤n'∧n' < mJ.length∧(mJ.getD n'.toNat .top).cells.length=d'.size,.cL (mJ.getD n'.toNat .top) 0,by simp only[bN,hd,sV,eG,M9,hi],⟨h0,h1,by rw[hx];exact hs⟩,by rw[hx];exact hk⟩
      ·cases rz
     ·cases rz
    ·cases rz
   ·cases rz
  ·exact hk.elim
 ·split at h
  ·rename_i c r hm
   obtain rfl:=Option.some.inj h
   exact⟨c,r,Rj hm,rM.1,rM.2⟩
  split at h
  ·rename_i cs r hpv
   obtain rfl:=Option.some.inj h
   rw[bG] at rM
   obtain⟨c,h1,h2⟩:=XW hpv rM.1
   exact⟨c,r,h1,h2,rM.2⟩
  ·split at h
   ·rename_i r n m hi
    obtain rfl:=Option.some.inj h
    exact⟨_,_,Rk hi,rM.1,AL m 0 (by simpa using rM.1.1) (by simpa using rM.1.2) rM.2⟩
   ·split at h
    ·rename_i c els i T b hl
     obtain rfl:=Option.some.inj h
     obtain⟨h0,h1,h2⟩:=rM
     obtain⟨x,hx,hk⟩:=xz h2
     obtain⟨h3,h4⟩:=Rl hk
     exact⟨_,_,Wd hl,⟨h0,h1,by rw[hx];exact h3⟩,by rw[hx];exact h4⟩
    ·cases h
def EB (az:Nat→Option TD) (hp:List af) (ρ:Operand→AV) (op:Op) (k:AV→List af→Prop):Option Prop:=
 match hv az hp ρ op with
 |some (cs,r,hp')=>some (gU cs (k r hp'))
 |none=>none
theorem qQ {az:Nat→Option TD} {hp:List af} {ρ:Operand→AV} {op:Op} {k:AV→List af→Prop} {p:Prop} (h:EB az hp ρ op k=some p) (rM:p):∃c r hp',dV az hp ρ op=some (c,r,hp')∧c∧k r hp':=by
 unfold EB at h
 split at h
 ·rename_i cs r hp' hh
  obtain rfl:=Option.some.inj h
  rw[bG] at rM
  obtain⟨c,h1,h2⟩:=XX hh rM.1
  exact⟨c,r,hp',h1,h2,rM.2⟩
 ·cases h
def qe (s:AS Unit):Op→Option (Nat×List AV)
 | .call c=>(match c.callee with
  | .value x=>(match s.ev x with
   | .ck f caps=>some (f,c.args.toList.map s.ev++caps)
   |_=>none)
  |_=>none)
 |_=>none
theorem kS (s:AS Unit) (op:Op):qe s op=k8 s op:=rfl
inductive sv where
 |one (sh:Sh)
 |alts (l:List Sh)
 |heap (n:Nat) (l:List (Sh×List lf))
 |raw (l:List Sh)
 |ck (f:Nat)
 |y (kind:Bool)
 |frz (sh:Sh)
 |fresh (e size:Nat)
 |kN (l:List (Sh×List lf))
def boxed:List AV→List AV
 | []=>[]
 |x::l=>.cL x 0::boxed l
inductive ni where
 |done
 |val (i:Nat) (p:ni)
 |oV (i:Nat) (p:ni)
 |two (i:Nat) (p:ni) (j:Nat) (q:ni)
 |three (i:Nat) (p:ni) (j:Nat) (q:ni) (k:Nat) (r:ni)
structure cW where
 P:Program
 az:Nat→Option TD
 Mk:Nat→tD
 sig:Nat→Nat→sv
 nt:Nat
 dr:List (Nat×List (Option (List Nat))×List (Option (List Nat))):=[]
 hc:List (Nat×List Nat):=[]
 br:List (Nat×ni):=[]
 mt:Bool:=false
 eH:Option (List Nat):=none
 rm:List (Nat×Nat):=[]
 sgd:Nat→Option sv:=fun _=>none
 ext:{ e:Nat→Option QB // ∀f x,e f=some x→XOk P f x }:=⟨fun _=>none,fun _ _ h=>by cases h⟩
def EC (C:cW) (f:Nat) (o:Oper):sv:=
 match o.dst with
 |some d=>(match C.sgd d with
  |some g=>g
  |none=>C.sig f o.type)
 |none=>C.sig f o.type
def okB (b:Bool) (p:Prop):Prop:=
 match b with
 |true=>p
 |false=>False
theorem cu {b:Bool} {p:Prop} (h:okB b p):b=true∧p:=by
 cases b with
 |true=>exact⟨rfl,h⟩
 |false=>exact h.elim
def AV.lg (n:Nat) (hp:List af) (x:AV):List Prop×AV:=
 match x.closed n with
 |true=>([],x)
 |false=>x.cB hp
theorem qg {n:Nat} {hp:List af} {x:AV} (hc:eY (x.lg n hp).1):x.sn n hp=(x.lg n hp).2:=by
 unfold AV.sn AV.lg at *
 cases h:x.closed n with
 |true=>simp
 |false=>rw[h] at hc;simp only[aij,if_false];exact dW hc
def sw (n:Nat):List Nat→Nat→Nat
 | [],_=>n
 |j::js,r=>(match Nat.beq j r with|true=>n|false=>sw (n+1) js r)
def B3 (js:List Nat):AV→AV
 | .own r n=>.own (sw 0 js r) n
 | .ptr r o=>.ptr (sw 0 js r) o
 | .mp r=>.mp (sw 0 js r)
 |x=>x
def I7 (js:List Nat):AV→AV
 | .agg cs=>.agg (cs.map (B3 js))
 |x=>B3 js x
def Ml (js:List Nat):AV→AV
 | .aX vs=>.aX (vs.map (I7 js))
 | .ck f cs=>.ck f (cs.map (I7 js))
 | .cX f cs=>.cX f (cs.map (I7 js))
 |x=>I7 js x
def U5 (js:List Nat):af→af
 | .box cs=>.box (cs.map (B3 js))
 | .dD r n=>.dD (sw 0 js r) n
 |o=>o
def nj (js:List Nat) (n:Nat) (i:Nat):Nat:=(match Nat.blt i js.length with|true=>rB js i|false=>n+(i-js.length))
theorem Jd:∀{js:List Nat} {n r:Nat},sw n js r<n+js.length→n≤sw n js r∧rB js (sw n js r-n)=r
 | [],n,r,h=>by simp[sw] at h
 |j::js,n,r,h=>by
  simp only[sw] at h ⊢
  split
  ·rename_i hb
   rw[ajG]
   exact⟨ah5 _,ain hb⟩
  ·rename_i hb
   rw[hb] at h
   simp only[aif] at h
   obtain⟨h1,h2⟩:=Jd (js:=js) (n:=n+1) (r:=r) (by omega)
   refine⟨by omega,?_⟩
   rw[show sw (n+1) js r-n=(sw (n+1) js r-(n+1))+1 from by omega]
   exact h2
theorem yR {js:List Nat} {n r:Nat} (h:sw 0 js r<js.length):nj js n (sw 0 js r)=r:=by
 unfold nj
 rw[show Nat.blt (sw 0 js r) js.length=true from Nat.ble_eq_true_of_le h]
 have:=(Jd (js:=js) (n:=0) (r:=r) (by omega)).2
 rwa [Nat.sub_zero] at this
theorem nZ {js:List Nat} {n:Nat} {x:AV} (h:(B3 js x).aR js.length=true):yM (nj js n) (B3 js x)=x:=by
 cases x with
 |own r m=>simp only[B3,AV.aR,decide_eq_true_eq] at h;simp only[B3,yM,yR h]
 |ptr r m=>simp only[B3,AV.aR,decide_eq_true_eq] at h;simp only[B3,yM,yR h]
 |mp r=>simp only[B3,AV.aR,decide_eq_true_eq] at h;simp only[B3,yM,yR h]
 |_=>rfl
theorem jC {js:List Nat} {n:Nat} {u:List Nat→AV→AV} {r:(Nat→Nat)→AV→AV} {c:Nat→AV→Bool} (hu:∀x,c js.length (u js x)=true→r (nj js n) (u js x)=x):
  ∀(l:List AV),(l.map (u js)).all (c js.length)=true→(l.map (u js)).map (r (nj js n))=l
 | [],_=>rfl
 |x::l,h=>by
  simp only[ais,ai5,ahZ] at h ⊢
  rw[hu x h.1,jC hu l h.2]
theorem B5 {js:List Nat} {n:Nat} {x:AV} (h:(I7 js x).dZ js.length=true):Ev (nj js n) (I7 js x)=x:=by
 cases x with
 |agg cs=>
  simp only[I7,Ev] at h ⊢
  rw[jC (fun x hx=>nZ hx) cs h]
 |own r m=>exact nZ (x:=.own r m) h
 |ptr r m=>exact nZ (x:=.ptr r m) h
 |mp r=>exact nZ (x:=.mp r) h
 |_=>first|rfl|(simp[I7,B3,AV.dZ,AV.aR] at h;done)
theorem Wf {js:List Nat} {n:Nat} {x:AV} (h:(Ml js x).closed js.length=true):uZ (nj js n) (Ml js x)=x:=by
 cases x with
 |aX cs=>
  simp only[Ml,uZ] at h ⊢
  rw[jC (fun x hx=>B5 hx) cs h]
 |ck f cs=>
  simp only[Ml,uZ] at h ⊢
  rw[jC (fun x hx=>B5 hx) cs h]
 |cX f cs=>
  simp only[Ml,uZ] at h ⊢
  rw[jC (fun x hx=>B5 hx) cs h]
 |agg cs=>exact B5 (x:=.agg cs) h
 |own r m=>exact nZ (x:=.own r m) h
 |ptr r m=>exact nZ (x:=.ptr r m) h
 |mp r=>exact nZ (x:=.mp r) h
 |_=>first|rfl|(simp[Ml,I7,B3,AV.closed,AV.dZ,AV.aR] at h;done)
theorem Wg {js:List Nat} {n:Nat} {o:af} (h:(U5 js o).closed js.length=true):sr (nj js n) (U5 js o)=o:=by
 cases o with
 |box cs=>
  simp only[U5,sr] at h ⊢
  rw[jC (fun x hx=>nZ hx) cs h]
 |dD q k=>have:=nZ (js:=js) (n:=n) (x:=.own q k) h;simp only[B3,yM,AV.own.injEq,and_true] at this;simp only[U5,sr,this]
 |_=>rfl
def AV.HK (js:List Nat) (hp:List af) (x:AV):AV:=if(Ml js x).closed js.length=true then x else x.cm hp
def AV.ED (js:List Nat) (hp:List af) (x:AV):List Prop×AV:=
 match (Ml js x).closed js.length with
 |true=>([],x)
 |false=>x.cB hp
theorem yS {js:List Nat} {hp:List af} {x:AV} (hc:eY (x.ED js hp).1):x.HK js hp=(x.ED js hp).2:=by
 unfold AV.HK AV.ED at *
 cases h:(Ml js x).closed js.length with
 |true=>simp
 |false=>rw[h] at hc;simp only[aij,if_false];exact dW hc
theorem tF {Γ:Env Unit} {s:AS Unit} {a:Act} {w:World} {η:List Value} (hr:Rel Γ s a w η) (js:List Nat):∀(xs:List AV) (vs:List Value),cH w (bn Γ w η s.hp) η s.hp xs vs→cH w (bn Γ w η s.hp) η s.hp (xs.map (AV.HK js s.hp)) vs
 | [],[],_=>True.intro
 |x::xs,v::vs,h=>⟨by
   unfold AV.HK
   split
   ·exact h.1
   ·exact(jx hr.heap hr.cE h.1).lift,tF hr js xs vs h.2⟩
 | [],_::_,h=>h.elim
 |_::_,[],h=>h.elim
def oY (js:List Nat):List Nat→List af→List af
 | [],_=>[]
 |j::l,H=>(match H[j]? with
  |some o=>U5 js o
  |none=>.dead)::oY js l H
theorem AM {js:List Nat} {H:List af}:∀{l:List Nat} {i:Nat} {o:af},(oY js l H)[i]?=some o→∃j,l[i]?=some j∧(H[j]?=none∨∃o',H[j]?=some o'∧o=U5 js o')
 | [],i,o,h=>by simp[oY] at h
 |j::l,0,o,h=>by
  simp only[oY,aiS,Option.some.injEq] at h
  refine⟨j,rfl,?_⟩
  split at h
  ·rename_i o' ho;exact .inr ⟨o',ho,h.symm⟩
  ·rename_i ho;exact .inl ho
 |j::l,i+1,o,h=>by
  simp only[oY,aiB] at h ⊢
  exact AM h
theorem AN {js:List Nat} {H:List af}:∀{l:List Nat},(oY js l H).length=l.length
 | []=>rfl
 |j::l=>by simp[oY,AN (l:=l)]
def qh (n:Nat):List Nat→Bool
 | []=>true
 |j::js=>Nat.blt j n&&(!HL j js&&qh n js)
where HL (k:Nat):List Nat→Bool
 | []=>false
 |x::l=>Nat.beq x k||HL k l
theorem yT {k:Nat}:∀{l:List Nat} {i:Nat},l[i]?=some k→qh.HL k l=true
 | [],i,h=>by simp at h
 |x::l,0,h=>by simp at h;subst h;simp[qh.HL]
 |x::l,i+1,h=>by simp only[aiB] at h;simp[qh.HL,yT h]
theorem qi:∀{l:List Nat} {i:Nat},i<l.length→l[i]?=some (rB l i)
 | [],i,h=>by simp at h
 |x::l,0,h=>rfl
 |x::l,i+1,h=>by simp only[aiB,rB];exact qi (by simpa using h)
theorem Je {n:Nat}:∀{js:List Nat},qh n js=true→∀i,i<js.length→rB js i<n
 | [],_,i,h=>by simp at h
 |j::js,h,0,_=>by simp only[qh,ahZ] at h;exact ait (show Nat.ble (j+1) n=true from h.1)
 |j::js,h,i+1,hi=>by simp only[qh,ahZ] at h;exact Je h.2.2 i (by simpa using hi)
theorem EE {n:Nat}:∀{js:List Nat},qh n js=true→∀i i',i<js.length→i' < js.length→rB js i=rB js i'→i=i'
 | [],_,i,i',h,_,_=>by simp at h
 |j::js,h,0,0,_,_,_=>rfl
 |j::js,h,0,i'+1,_,h2,he=>by
  simp only[qh,ahZ,aiA] at h
  have:=yT (k:=j) (l:=js) (i:=i') (by rw[qi (by simpa using h2)];exact congrArg some he.symm)
  rw[h.2.1] at this;cases this
 |j::js,h,i+1,0,h1,_,he=>by
  simp only[qh,ahZ,aiA] at h
  have:=yT (k:=j) (l:=js) (i:=i) (by rw[qi (by simpa using h1)];exact congrArg some he)
  rw[h.2.1] at this;cases this
 |j::js,h,i+1,i'+1,h1,h2,he=>by
  simp only[qh,ahZ] at h
  rw[EE h.2.2 i i' (by simpa using h1) (by simpa using h2) he]
def qj (r:Nat) (out:List Nat):List Nat:=(match qh.HL r out with|true=>out|false=>out++[r])
mutual
def Wh (hp:List af):Nat→List Nat→AV→List Nat
 |0,out,_=>out
 |n+1,out,.ptr r _=>(match qh.HL r out with
  |true=>out
  |false=>(match hp[r]? with
   |some (.box cs)=>qj r (jD hp n out cs)
   |some (.dD q _)=>qj q (qj r out)
   |_=>qj r out))
 |_+1,out,.mp r=>qj r out
 |n+1,out,.agg cs=>jD hp n out cs
 |n+1,out,.aX cs=>jD hp n out cs
 |n+1,out,.ck _ cs=>jD hp n out cs
 |n+1,out,.cX _ cs=>jD hp n out cs
 |_+1,out,_=>out
def jD (hp:List af):Nat→List Nat→List AV→List Nat
 |0,out,_=>out
 |_+1,out,[]=>out
 |n+1,out,x::l=>jD hp n (Wh hp n out x) l
end
def Jf (js:List Nat) (hp:List af) (args:List AV):List AV:=((dw (AV.ED js hp) args).2).map (Ml js)
def vO (js:List Nat) (x:AV) (h:List af):Bool:=Nat.ble js.length h.length&&(x.closed h.length&&h.all (af.closed h.length))
def Ac (C:cW) (js:List Nat) (l:List (Sh×List lf)) (f:Nat) (args:List AV) (o:Oper) (s:AS Unit) (next:AS Unit→Prop):Prop:=
 okB (qh s.hp.length js&&((Jf js s.hp args).all (AV.closed js.length)&&(oY js js s.hp).all (af.closed js.length)))
  (gU (dw (AV.ED js s.hp) args).1 (∃R:AV→List af→Prop,cG C.P f (Jf js s.hp args) (oY js js s.hp) R∧∀(r:AV) (hp':List af),R r hp'→Jb l r hp' fun x h=>okB (vO js x h) (next (AS.put { s with hp:=jZ (nj js s.hp.length) js.length h s.hp } o.dst (uZ (nj js s.hp.length) x)))))
theorem Ac.Xs {P:Program} {js:List Nat} {H:List af} {f:Nat} {args:List AV} {R:AV→List af→Prop} (hb:(qh H.length js&&((args.map (Ml js)).all (AV.closed js.length)&&(oY js js H).all (af.closed js.length)))=true)
  (hF:cG P f (args.map (Ml js)) (oY js js H) R) (hR:∀r h,R r h→vO js r h=true):cG P f args H (fun r2 H2=>∃r h,R r h∧r2=uZ (nj js H.length) r∧H2=jZ (nj js H.length) js.length h H):=by
 simp only[ahZ] at hb
 obtain⟨h1,h2,h3⟩:=hb
 have hl:(oY js js H).length=js.length:=AN
 have ay:∀i,i<js.length→nj js H.length i=rB js i:=fun i hi=>by
  unfold nj;rw[show Nat.blt i js.length=true from Nat.ble_eq_true_of_le hi]
 have:=cG.X7 (g:=nj js H.length) (H:=H) hF (fun i o ho=>?_) (fun i i' hi rJ he=>?_) (fun i hi=>?_) (by rw[hl];exact h2) (by rw[hl];exact h3) (fun r h hr=>?_)
 ·rw[hl,jC (fun x hx=>Wf hx) args h2] at this
  exact this
 ·have hi:i<js.length:=by rw[←hl];exact(ahY.1 ho).1
  obtain⟨j,hj,hc⟩:=AM ho
  rw[qi hi] at hj
  obtain rfl:=Option.some.inj hj
  rw[ay i hi]
  have Mb:o.closed js.length=true:=ah4.1 h3 o (aic ho)
  rcases hc with hc|⟨o',xZ,rfl⟩
  ·have:=Je h1 i hi
   rw[ah2 this] at hc;cases hc
  ·rw[xZ,Wg Mb]
 ·rw[hl] at hi rJ
  rw[ay i hi,ay i' rJ] at he
  exact EE h1 i i' hi rJ he
 ·rw[hl] at hi ⊢
  unfold nj
  cases hb:Nat.blt i js.length with
  |true=>have:i+1≤js.length:=ait hb;omega
  |false=>rfl
 ·have:=hR r h hr
  simp only[vO,ahZ] at this
  rw[hl]
  exact⟨ait this.1,this.2.1,this.2.2⟩
def Ny (C:cW) (sh:Sh) (l:List Nat) (o:Oper) (s:AS Unit) (next:AS Unit→Prop):Prop:=
 gU (l7 l s).1 (match qe (l7 l s).2 o.op with
  |some (f,args)=>gU (dw (AV.cB (l7 l s).2.hp) args).1 (V9 [] sh fun x=>av C.P f (dw (AV.cB (l7 l s).2.hp) args).2 x∧next ((l7 l s).2.put o.dst x))
  |none=>False)
def Jg (s:AS Unit):Op→Option (Nat×List AV)
 | .call c=>(match c.callee with
  | .value x=>(match s.ev x with
   | .cX f fst=>some (f,fst++c.args.toList.map s.ev)
   |_=>none)
  |_=>none)
 |_=>none
def yU (C:cW) (o:Oper) (s:AS Unit) (next:AS Unit→Prop):Prop:=
 match Jg s o.op with
 |some (f,args)=>(match EC C f o with
  | .kN l=>Ac C (jD s.hp 100 [] args) l f args o s next
  |_=>False)
 |none=>False
def Vb (C:cW) (o:Oper) (s:AS Unit) (next:AS Unit→Prop):Prop:=
 match qe s o.op with
 |some (f,args)=>(match EC C f o with
  | .one sh=>gU (dw (AV.cB s.hp) args).1 (V9 [] sh fun x=>av C.P f (dw (AV.cB s.hp) args).2 x∧next (s.put o.dst x))
  | .ck f'=>gU (dw (AV.cB s.hp) args).1 (av C.P f (dw (AV.cB s.hp) args).2 (.ck f' (boxed (dw (AV.cB s.hp) args).2))∧next (s.put o.dst (.ck f' (boxed (dw (AV.cB s.hp) args).2))))
  | .y _=>False
  | .frz sh=>Ny C sh (BV args) o s next
  | .alts l=>gU (dw (AV.cB s.hp) args).1 (∃R:AV→Prop,Pure C.P f (dw (AV.cB s.hp) args).2 R∧∀r:AV,R r→B4 l r fun x=>next (s.put o.dst x))
  | .raw l=>gU (dw (AV.lg 0 s.hp) args).1 (∃R:AV→Prop,Pure C.P f (dw (AV.lg 0 s.hp) args).2 R∧∀r:AV,R r→B4 l r fun x=>next (s.put o.dst x))
  | .heap n l=>okB ((dw (AV.lg (s.hp.take n).length s.hp) args).2.all (AV.closed (s.hp.take n).length)&&(s.hp.take n).all (af.closed (s.hp.take n).length))
    (gU (dw (AV.lg (s.hp.take n).length s.hp) args).1 (∃R:AV→List af→Prop,cG C.P f (dw (AV.lg (s.hp.take n).length s.hp) args).2 (s.hp.take n) R∧∀(r:AV) (hp':List af),R r hp'→Jb l r hp' fun x h=>okB (Nat.beq h.length (s.hp.take n).length) (next (AS.put { s with hp:=h++s.hp.drop n } o.dst x))))
  | .fresh e size=>gU (dw (AV.cB s.hp) args).1 (∃els:List AV,Rc C.P f (dw (AV.cB s.hp) args).2 e size els∧next (AS.put { s with hp:=s.hp++[.bM e size els] } o.dst (.own s.hp.length els.length)))
  | .kN l=>Ac C (jD s.hp 100 [] args) l f args o s next)
 |none=>yU C o s next
def wU (nt:Nat):Option Nat→Bool
 |none=>true
 |some d=>Nat.blt d nt
theorem iW {nt:Nat} {d:Option Nat} (h:wU nt d=true):dB nt d:=by
 cases d with
 |none=>trivial
 |some d=>exact ait (show Nat.ble (d+1) nt=true from h)
def Wi (az:Nat→Option TD) (hp:List af) (ρ:Operand→AV):Op→Option (List Prop×AV×List af)
 | .call c=>(match c.callee,c.args.toList,c.argTypes.toList with
  | .builtin .append,[b,x],[T,T']=>if T=T' then(match az T with
   |some d=>(match d.kind with
    | .lO e=>(match az e,(ρ x).l6 hp with
     |some d',some (cs,aG)=>if 0<d'.size then(match ρ b with
      | .clip []=>some (cs++[bL d' (([]:List AV).length+aG.length) [] aG],.own hp.length ([]++aG).length,hp++[.bM e d'.size ([]++aG)])
      |_=>none) else none
     |_,_=>none)
    |_=>none)
   |none=>none) else none
  |_,_,_=>none)
 |_=>none
theorem Rm {Γ:Env Unit} {s:AS Unit} (aD:Γ.Ok) {az:Nat→Option TD} (au:aT Γ.P az) {o:Oper} {cs:List Prop} {r:AV} {hp':List af} (h:Wi az s.hp s.ev o.op=some (cs,r,hp')) (hc:eY cs):gR Γ o s r hp':=by
 generalize ho:o.op=op at h
 unfold Wi at h
 split at h
 ·split at h
  ·rename_i c b x T T' BZ aI iL
   split at h
   ·rename_i heq
    subst heq
    split at h
    ·rename_i d hd
     split at h
     ·rename_i e hk
      split at h
      ·rename_i d' iP aG eG hx
       split at h
       ·rename_i cJ
        split at h
        ·rename_i hb
         simp only[Option.some.injEq,Prod.mk.injEq] at h
         obtain⟨rfl,rfl,rfl⟩:=h
         rw[bT] at hc
         exact BL aD au ho BZ aI iL hd hk eG (gV hx hc.1) (els:=[]) (.inr hb) cJ (fun _=>rfl) hc.2.1
        ·cases h
       ·cases h
      ·cases h
     ·cases h
    ·cases h
   ·cases h
  ·cases h
 ·cases h
def HM (C:cW) (o:Oper) (s:AS Unit) (next:AS Unit→Prop):Option Prop:=
 match qe s o.op with
 |some (f,args)=>(match C.ext.1 f with
  |some x=>(match VZ x s.hp args with
   |some (r,hp')=>some (next (AS.put { s with hp:=hp' } o.dst r))
   |none=>none)
  |none=>none)
 |none=>none
theorem K5 {C:cW} {Γ:Env Unit} (aD:Γ.Ok) (hP:C.P=Γ.P) {o:Oper} {s:AS Unit} {next:AS Unit→Prop} {p:Prop} (h:HM C o s next=some p) (hp:p):∃r hp',gR Γ o s r hp'∧next (AS.put { s with hp:=hp' } o.dst r):=by
 unfold HM at h
 split at h
 ·rename_i f args aI
  split at h
  ·rename_i x hx
   split at h
   ·rename_i r hp' hr
    obtain rfl:=Option.some.inj h
    have hX:=C.ext.2 f x hx
    rw[hP] at hX
    rw[kS] at aI
    unfold k8 at aI
    split at aI
    ·rename_i c hc
     split at aI
     ·rename_i y hy
      split at aI
      ·rename_i f' caps eu
       simp only[Option.some.injEq,Prod.mk.injEq] at aI
       obtain⟨rfl,rfl⟩:=aI
       exact⟨r,hp',HD aD hX hc hy eu hr,hp⟩
      ·cases aI
     ·cases aI
    ·cases aI
   ·cases h
  ·cases h
 ·cases h
def Vc (C:cW) (o:Oper) (s:AS Unit) (next:AS Unit→Prop):Option Prop:=
 match C.mt with
 |true=>(match Wi C.az s.hp s.ev o.op with
  |some (cs,r,hp')=>some (gU cs (next (AS.put { s with hp:=hp' } o.dst r)))
  |none=>none)
 |false=>none
def inN:List Nat→Nat→Bool
 | [],_=>false
 |x::l,k=>(match Nat.beq x k with
  |true=>true
  |false=>inN l k)
def Nz (C:cW) (o:Oper) (s:AS Unit) (next:AS Unit→Prop):Option Prop:=
 match C.eH with
 |some l=>(match qOp (match o.dst with|some d=>inN l d|none=>false) C.az s.hp s.ev o.op with
  |some (cs,r,hp')=>some (gU cs (next (AS.put { s with hp:=hp' } o.dst r)))
  |none=>none)
 |none=>none
theorem EF:∀{l:List Prop},eY l→∀p∈l,p
 |c::l,h,p,hp=>by
  rcases aiC.1 hp with rfl|hp
  ·exact h.1
  ·exact EF h.2 p hp
def jw (C:cW) (o:Oper) (s:AS Unit) (next:AS Unit→Prop):Prop:=
 match wU C.nt o.dst with
 |false=>False
 |true=>(match Hy C.az s.ev o.op with
  |some (els,b0)=>∀b:Bool,(els≠[]→b=!b0)→next (s.put o.dst (.ah (.bool b)))
  |none=>(match Nz C o s next with
   |some p=>p
   |none=>(match VU C.az s.ev o.op with
   |some r=>next (s.put o.dst r)
   |none=>(match K4 C.az C.Mk s.hp s.ev o.op (fun r=>next (s.put o.dst r)) with
    |some p=>p
    |none=>(match Vc C o s next with
     |some p=>p
     |none=>(match Np C.az s.hp s.ev o.op with
      |some (cs,r,hp')=>gU cs (next (AS.put { s with hp:=hp' } o.dst r))
      |none=>(match EB C.az s.hp s.ev o.op (fun r hp'=>next (AS.put { s with hp:=hp' } o.dst r)) with
      |some p=>p
      |none=>(match HM C o s next with
       |some p=>p
       |none=>(match V1 C.az s.ev o.op with
        |some r=>next (s.put o.dst r)
        |none=>Vb C o s next)))))))))
variable {Γ:Env Unit} {s s':AS Unit} {a:Act} {w w':World} {η:List Value} {hp:List af}
theorem yU.sound {C:cW} (aD:Γ.Ok) (hP:C.P=Γ.P) {o:Oper} (hd:dB Γ.nt o.dst) {next K:AS Unit→Prop} (h:yU C o s next) (hn:∀s,next s→K s):bR Γ o s K:=by
 unfold yU at h
 split at h
 ·rename_i f args aI
  unfold Jg at aI
  split at aI
  ·rename_i c hc
   split at aI
   ·rename_i x hx
    split at aI
    ·rename_i f' fst eu
     simp only[Option.some.injEq,Prod.mk.injEq] at aI
     obtain⟨rfl,rfl⟩:=aI
     split at h
     ·unfold Ac at h
      obtain⟨hb,h⟩:=cu h
      rw[bG] at h
      obtain⟨iK,R,g1,g2⟩:=h
      rename_i l _
      generalize jD s.hp 100 [] (fst++List.map s.ev c.args.toList)=js at *
      have aI:=cI (g:=AV.HK js s.hp) (fun x=>yS) _ iK
      rw[hP] at g1
      have qR:=Ac.Xs (R:=fun r h'=>R r h'∧vO js r h'=true) hb (g1.mono fun r h' hr=>⟨hr,(cu (iV (g2 r h' hr))).1⟩) (fun r h' hr=>hr.2)
      exact bR.X0 aD hc hx eu qR (fun a w η us hr h=>by rw[←aI];exact tF hr _ _ us h) hd fun r hp' hr=>by
       obtain⟨r',h',hr,rfl,rfl⟩:=hr
       exact hn _ (cu (iV (g2 r' h' hr.1))).2
     ·exact h.elim
    ·cases aI
   ·cases aI
  ·cases aI
 ·exact h.elim
theorem Ny.sound {C:cW} (aD:Γ.Ok) (hP:C.P=Γ.P) {sh:Sh} {l:List Nat} {o:Oper} (hd:dB Γ.nt o.dst) {next K:AS Unit→Prop} (h:Ny C sh l o s next) (hn:∀s,next s→K s):bR Γ o s K:=by
 unfold Ny at h
 rw[bG] at h
 obtain⟨hc,h⟩:=h
 have hw:=tA (Γ:=Γ) aD l s hc
 intro a w η Kc Qc hk hr
 obtain⟨DI,nH⟩:=hw a w η hr
 refine(?_:bR Γ o (l7 l s).2 K) a w DI Kc Qc hk nH
 split at h
 ·rename_i f args aI
  rw[kS] at aI
  unfold k8 at aI
  split at aI
  ·rename_i c hc
   split at aI
   ·rename_i x hx
    split at aI
    ·rename_i f' caps eu
     simp only[Option.some.injEq,Prod.mk.injEq] at aI
     obtain⟨rfl,rfl⟩:=aI
     rw[bG] at h
     obtain⟨iK,h⟩:=h
     obtain⟨x',xB,vP⟩:=su h
     rw[←cI (g:=AV.cm (l7 l s).2.hp) (fun x=>dW) _ iK,hP] at xB
     exact bR.pure aD hc hx eu xB hd fun r hr=>by rw[hr];exact hn _ vP
    ·cases aI
   ·cases aI
  ·cases aI
 ·exact h.elim
theorem jw.sound {C:cW} (aD:Γ.Ok) (hP:C.P=Γ.P) (au:aT Γ.P C.az) (dI:C.nt=Γ.nt) {o:Oper} {next K:AS Unit→Prop} (h:jw C o s next) (hn:∀s,next s→K s):bR Γ o s K:=by
 unfold jw at h
 split at h
 ·exact h.elim
 rename_i hd
 have hd:=iW hd
 rw[dI] at hd
 split at h
 ·rename_i els b0 hx
  exact bR.nil au hx hd fun b hb=>hn _ (h b hb)
 split at h
 ·rename_i p hp
  unfold Nz at hp
  split at hp
  ·split at hp
   ·rename_i cs r hp' hm
    obtain rfl:=Option.some.inj hp
    rw[bG] at h
    exact bR.oV (V6 aD au hm h.1) hd (hn _ h.2)
   ·cases hp
  ·cases hp
 split at h
 ·rename_i r hx
  exact bR.val aD (Hx au hx) hd (hn _ h)
 split at h
 ·rename_i p hp
  obtain⟨c,r,h1,h2,h3⟩:=xA hp h
  exact bR.val aD (r6 aD au h1 h2) hd (hn _ h3)
 split at h
 ·rename_i p hp
  unfold Vc at hp
  split at hp
  ·split at hp
   ·rename_i cs r hp' hm
    obtain rfl:=Option.some.inj hp
    rw[bG] at h
    exact bR.oV (Rm aD au hm h.1) hd (hn _ h.2)
   ·cases hp
  ·cases hp
 split at h
 ·rename_i cs r hp' hs
  rw[bG] at h
  exact bR.oV (Nt aD au hs (EF h.1)) hd (hn _ h.2)
 split at h
 ·rename_i p hp
  obtain⟨c,r,hp',h1,h2,h3⟩:=qQ hp h
  exact bR.oV (jy aD au h1 h2) hd (hn _ h3)
 split at h
 ·rename_i p hp
  obtain⟨r,hp',h1,h2⟩:=K5 aD hP hp h
  exact bR.oV h1 hd (hn _ h2)
 split at h
 ·rename_i r hx
  exact bR.val aD (HF au hx) hd (hn _ h)
 unfold Vb at h
 split at h
 ·rename_i f args aI
  rw[kS] at aI
  unfold k8 at aI
  split at aI
  ·rename_i c hc
   split at aI
   ·rename_i x hx
    split at aI
    ·rename_i f' caps eu
     simp only[Option.some.injEq,Prod.mk.injEq] at aI
     obtain⟨rfl,rfl⟩:=aI
     split at h
     ·rw[bG] at h
      obtain⟨iK,h⟩:=h
      obtain⟨x',xB,vP⟩:=su h
      rw[←cI (g:=AV.cm s.hp) (fun x=>dW) _ iK,hP] at xB
      exact bR.pure aD hc hx eu xB hd fun r hr=>by rw[hr];exact hn _ vP
     ·rw[bG] at h
      obtain⟨iK,xB,vP⟩:=h
      rw[←cI (g:=AV.cm s.hp) (fun x=>dW) _ iK] at xB vP
      rw[hP] at xB
      exact bR.pure aD hc hx eu xB hd fun r hr=>by rw[hr];exact hn _ vP
     ·exact h.elim
     ·exact Ny.sound aD hP hd h hn
     ·rw[bG] at h
      obtain⟨iK,R,xB,vP⟩:=h
      rw[←cI (g:=AV.cm s.hp) (fun x=>dW) _ iK,hP] at xB
      exact bR.pure aD hc hx eu xB hd fun r hr=>hn _ (u6 (vP r hr))
     ·rw[bG] at h
      obtain⟨iK,R,xB,vP⟩:=h
      have aI:=cI (g:=AV.sn 0 s.hp) (fun x=>qg) _ iK
      rw[hP] at xB
      exact bR.X1 aD hc hx eu xB (fun a w η us hr h=>by rw[←aI];exact nh hr _ us h) hd fun r hr=>hn _ (u6 (vP r hr))
     ·rename_i n l Yd
      obtain⟨hb,h⟩:=cu h
      rw[bG] at h
      obtain⟨iK,R,g1,g2⟩:=h
      rw[ahZ] at hb
      have aI:=cI (g:=AV.sn (s.hp.take n).length s.hp) (fun x=>qg) _ iK
      rw[hP] at g1
      have qR:=cG.frame (more:=s.hp.drop n) (R:=fun r h'=>R r h'∧h'.length=(s.hp.take n).length) (g1.mono fun r h' hr=>⟨hr,ain (cu (iV (g2 r h' hr))).1⟩) (fun r h' hr=>hr.2) hb.1 hb.2
      rw[aiq] at qR
      exact bR.Nc aD hc hx eu qR (fun a w η us hr h=>by rw[←aI];exact Ep hr _ _ us h) hd fun r hp' hr=>by
       obtain⟨h',rfl,hr,_⟩:=hr
       exact hn _ (cu (iV (g2 r h' hr))).2
     ·rw[bG] at h
      obtain⟨iK,els,xB,vP⟩:=h
      rw[←cI (g:=AV.cm s.hp) (fun x=>dW) _ iK,hP] at xB
      exact bR.fresh aD hc hx eu xB hd (hn _ vP)
     ·unfold Ac at h
      obtain⟨hb,h⟩:=cu h
      rw[bG] at h
      obtain⟨iK,R,g1,g2⟩:=h
      rename_i l _
      generalize jD s.hp 100 [] (List.map s.ev c.args.toList++caps)=js at *
      have aI:=cI (g:=AV.HK js s.hp) (fun x=>yS) _ iK
      rw[hP] at g1
      have qR:=Ac.Xs (R:=fun r h'=>R r h'∧vO js r h'=true) hb (g1.mono fun r h' hr=>⟨hr,(cu (iV (g2 r h' hr))).1⟩) (fun r h' hr=>hr.2)
      exact bR.Nc aD hc hx eu qR (fun a w η us hr h=>by rw[←aI];exact tF hr _ _ us h) hd fun r hp' hr=>by
       obtain⟨r',h',hr,rfl,rfl⟩:=hr
       exact hn _ (cu (iV (g2 r' h' hr.1))).2
    ·cases aI
   ·cases aI
  ·cases aI
 ·exact yU.sound aD hP hd h hn
def KG (l:List Oper) (o:Oper) (s:AS Unit) (run skip:AS Unit→Prop):Prop:=
 match o.guard with
 |none=>run s
 |some (j,want)=>(match (l[j]?).bind (·.dst) with
  |some d=>(match s.tmps d with
   | .ah (.bool b)=>ak b (match want with|true=>run (s.put (some d) (.ah (.bool true)))|false=>skip (s.put (some d) (.ah (.bool true))))
     (match want with|true=>skip (s.put (some d) (.ah (.bool false)))|false=>run (s.put (some d) (.ah (.bool false))))
   | .ah (.tuple _)=>skip s
   |_=>False)
  |none=>False)
theorem EG {d:Nat} {x:AV} (h:s.tmps d=x):s.put (some d) x=s:=by
 cases s with
 |mk f hp g=>
  simp only[AS.put]
  congr 1
  funext t
  rw[gL]
  split
  ·rename_i ht;subst ht;exact h.symm
  ·rfl
theorem KG.cases {l:List Oper} {o:Oper} {run skip:AS Unit→Prop} (h:KG l o s run skip):
  (o.guard=none∧run s)∨(∃j want b,o.guard=some (j,want)∧jW l.toArray s j=some (some b)∧((b=want∧run s)∨(¬b=want∧skip s)))∨(∃j want,o.guard=some (j,want)∧jW l.toArray s j=some none∧skip s):=by
 unfold KG at h
 split at h
 ·rename_i hg;exact .inl ⟨hg,h⟩
 ·rename_i j want hg
  split at h
  ·rename_i d hd
   split at h
   ·rename_i b hb
    refine .inr (.inl ⟨j,want,b,hg,?_,?_⟩)
    ·unfold jW
     simp only[ajH,hd,hb]
    ·have:=h.elim
     cases b with
     |true=>
      have h1:=this.1 rfl
      rw[EG hb] at h1
      cases want with
      |true=>exact .inl ⟨rfl,h1⟩
      |false=>exact .inr ⟨by simp,h1⟩
     |false=>
      have h1:=this.2 rfl
      rw[EG hb] at h1
      cases want with
      |true=>exact .inr ⟨by simp,h1⟩
      |false=>exact .inl ⟨rfl,h1⟩
   ·rename_i v hb
    refine .inr (.inr ⟨j,want,hg,?_,h⟩)
    unfold jW
    simp only[ajH,hd,hb]
   ·exact h.elim
  ·exact h.elim
def tG (C:cW) (l0:List Oper) (K:AS Unit→Prop):List Oper→AS Unit→Prop
 | [],s=>K s
 |o::rest,s=>KG l0 o s (fun s=>jw C o s (tG C l0 K rest)) (fun s=>match wU C.nt o.dst with|true=>tG C l0 K rest (s.put o.dst (.ah (.tuple #[])))|false=>False)
theorem tG.NA {C:cW} (aD:Γ.Ok) (hP:C.P=Γ.P) (au:aT Γ.P C.az) (dI:C.nt=Γ.nt) {l0 rest:List Oper} {K K':AS Unit→Prop} (hK:∀s,K' s→iB Γ l0.toArray K rest s):∀(l:List Oper) (s:AS Unit),tG C l0 K' l s→iB Γ l0.toArray K (l++rest) s:=by
 intro l
 induction l with
 |nil=>intro s h;exact hK s h
 |cons o l ih=>
  intro s h
  have skip:(match wU C.nt o.dst with|true=>tG C l0 K' l (s.put o.dst (.ah (.tuple #[])))|false=>False)→dB Γ.nt o.dst∧iB Γ l0.toArray K (l++rest) (s.put o.dst (.ah (.tuple #[]))):=by
   intro h
   split at h
   ·rename_i hd
    exact⟨by rw[←dI];exact iW hd,ih _ h⟩
   ·exact h.elim
  rw[ai1]
  rcases KG.cases h with⟨hg,h⟩|⟨j,want,b,hg,hb,⟨jX,h⟩|⟨jX,h⟩⟩|⟨j,want,hg,hb,h⟩
  ·exact iB.step (fun a w η _=>by simp[Region.wanted,hg]) (jw.sound aD hP au dI h ih)
  ·exact iB.step (fun a w η hr=>by simp[Region.wanted,hg,eJ hr hb,jX]) (jw.sound aD hP au dI h ih)
  ·obtain⟨h1,h2⟩:=skip h
   exact iB.skip (fun a w η hr=>by simp[Region.wanted,hg,eJ hr hb,jX]) h1 h2
  ·obtain⟨h1,h2⟩:=skip h
   exact iB.skip (fun a w η hr=>by simp[Region.wanted,hg,eJ hr hb]) h1 h2
theorem tG.sound {C:cW} (aD:Γ.Ok) (hP:C.P=Γ.P) (au:aT Γ.P C.az) (dI:C.nt=Γ.nt) {l0:List Oper} {K:AS Unit→Prop} (l:List Oper) (s:AS Unit) (h:tG C l0 K l s):iB Γ l0.toArray K l s:=by
 have:=tG.NA aD hP au dI (rest:=[]) (fun s h a w η Qc hQ hr=>hQ s a w η h hr) l s h
 rwa [aiH] at this
def yV (x:Operand) (d:Nat):Bool:=
 match x with
 | .tmp t=>Nat.beq t d
 |_=>false
theorem yW {x:Operand} {d:Nat} (h:yV x d=true):x=.tmp d:=by
 unfold yV at h
 split at h
 ·rw[ain h]
 ·cases h
def rm1 (C:cW) (s:AS Unit) (o:Oper):Option (Nat×Nat×TD×Int×Nat):=
 match o.guard,o.op,o.dst with
 |none,.call c,some d1=>(match c.callee,c.args.toList,c.argTypes.toList with
  | .builtin .append,[b,z],[T,T']=>(match s.ev b,s.ev z,rQ C.az T,(C.az T').map TD.kind with
   | .ah (.slice none 0 0),.ah (.int .i64 n),some (e,_,d'),some (.int _)=>some (T,e,d',n,d1)
   |_,_,_,_=>none)
  |_,_,_=>none)
 |_,_,_=>none
def rm2 (s:AS Unit) (o:Oper) (d1:Nat):Option Nat:=
 match o.guard,o.op,o.dst with
 |none,.move x,some d2=>(match s.ev x,yV x d1 with
  | .ah (.slice none 0 0),false=>some d2
  |_,_=>none)
 |_,_,_=>none
def rm3 (o:Oper) (T d2:Nat):Option Nat:=
 match o.guard,o.op,o.dst with
 |none,.call c,some d3=>(match c.callee,c.args.toList,c.argTypes.toList with
  | .builtin .len,[x],[T3]=>(match yV x d2&&Nat.beq T3 T with
   |true=>some d3
   |false=>none)
  |_,_,_=>none)
 |_,_,_=>none
def rm4 (o:Oper) (T d1 d3:Nat):Option Nat:=
 match o.guard,o.op,o.dst with
 |none,.slice T4 x none (some y) none,some d4=>(match Nat.beq T4 T&&(yV x d1&&yV y d3) with
  |true=>some d4
  |false=>none)
 |_,_,_=>none
def rmB (nt d1 d2 d3 d4:Nat) (d:TD):Bool:=(Nat.blt d1 nt&&(Nat.blt d2 nt&&(Nat.blt d3 nt&&Nat.blt d4 nt)))&&((!Nat.beq d1 d2&&!Nat.beq d1 d3)&&Nat.blt 0 d.size)
def EH (C:cW) (l0:List Oper) (K:AS Unit→Prop) (s:AS Unit):List Oper→Prop
 |o1::o2::o3::o4::rest=>(match rm1 C s o1 with
  |some (T,e,d',n,d1)=>(match rm2 s o2 d1 with
   |some d2=>(match rm3 o3 T d2 with
    |some d3=>(match rm4 o4 T d1 d3 with
     |some d4=>okB (rmB C.nt d1 d2 d3 d4 d') ((0<n∧n.toNat≤maxLen∧n.toNat*d'.bytes≤140737488355328)∧
       tG C l0 K rest (AS.put (AS.put (AS.put (AS.put { s with hp:=s.hp++[.row e d'.size []] } (some d1) .top) (some d2) (.ah (.slice none 0 0))) (some d3) (.ah (.int .i64 0))) (some d4) (.own s.hp.length 0)))
     |none=>False)
    |none=>False)
   |none=>False)
  |none=>False)
 |_=>False
theorem EH.sound {C:cW} (aD:Γ.Ok) (hP:C.P=Γ.P) (au:aT Γ.P C.az) (dI:C.nt=Γ.nt) {l0:List Oper} {K:AS Unit→Prop} {l:List Oper} {s:AS Unit} (h:EH C l0 K s l):iB Γ l0.toArray K l s:=by
 unfold EH at h
 split at h
 ·rename_i o1 o2 o3 o4 rest
  split at h
  ·rename_i T e d' n d1 h1
   split at h
   ·rename_i d2 h2
    split at h
    ·rename_i d3 h3
     split at h
     ·rename_i d4 h4
      obtain⟨hb,⟨hn,hm,G0⟩,Q1⟩:=cu h
      unfold rmB at hb
      simp only[ahZ,aiA] at hb
      obtain⟨⟨l1,l2,l3,l4⟩,⟨n12,n13⟩,cJ⟩:=hb
      have ay:∀{d:Nat},Nat.blt d C.nt=true→d<Γ.nt:=fun h=>by rw[←dI];exact ait h
      have bK:∀{x y:Nat},Nat.beq x y=false→x≠y:=fun h e=>by subst e;rw[Nat.beq_refl] at h;cases h
      obtain⟨m,rfl⟩:∃m:Nat,n=(m:Int):=⟨n.toNat,by omega⟩
      rw[ajl] at hm G0
      unfold rm1 at h1
      split at h1
      ·rename_i c1 d1' g1 p1 t1
       split at h1
       ·rename_i b z T1 T' BZ aI iL
        split at h1
        ·rename_i dd ik pV hzv hs hT'
         simp only[Option.some.injEq,Prod.mk.injEq] at h1
         obtain⟨rfl,rfl,rfl,rfl,rfl⟩:=h1
         obtain⟨q1,q2,q3⟩:=Ey hs
         obtain⟨dz,q4,q5⟩:=aiX.1 hT'
         unfold rm2 at h2
         split at h2
         ·rename_i x d2' g2 p2 t2
          split at h2
          ·rename_i hx hxd
           obtain rfl:=Option.some.inj h2
           unfold rm3 at h3
           split at h3
           ·rename_i c3 d3' g3 p3 t3
            split at h3
            ·rename_i y T3 Ye Wj abX
             split at h3
             ·rename_i XQ
              obtain rfl:=Option.some.inj h3
              rw[ahZ] at XQ
              have ey:=yW XQ.1
              have eT:=ain XQ.2
              subst ey;subst eT
              unfold rm4 at h4
              split at h4
              ·rename_i T4 x4 y4 d4' g4 p4 t4
               split at h4
               ·rename_i hb4
                obtain rfl:=Option.some.inj h4
                simp only[ahZ] at hb4
                have e1:=yW hb4.2.1
                have e2:=yW hb4.2.2
                have e3:=ain hb4.1
                subst e1;subst e2;subst e3
                exact iB.room aD au (n:=m) g1 g2 g3 g4 p1 BZ (by rw[←aiF (xs:=c1.args),aI]) (by rw[←aiF (xs:=c1.argTypes),iL]) q1 q2 q3 q4 q5 (ait cJ) pV hzv (by omega) hm G0
                 p2 hx (fun e=>by rw[e] at hxd;simp[yV] at hxd) p3 Ye (by rw[←aiF (xs:=c3.args),Wj]) (by rw[←aiF (xs:=c3.argTypes),abX]) p4 t1 t2 t3 t4 (ay l1) (ay l2) (ay l3) (ay l4) (bK n12) (bK n13) (tG.sound aD hP au dI _ _ Q1)
               ·cases h4
              ·cases h4
             ·cases h3
            ·cases h3
           ·cases h3
          ·cases h2
         ·cases h2
        ·cases h1
       ·cases h1
      ·cases h1
     ·exact h.elim
    ·exact h.elim
   ·exact h.elim
  ·exact h.elim
 ·exact h.elim
def Yf:List (Nat×Nat)→Nat→Option Nat
 | [],_=>none
 |p::l,k=>(match Nat.beq p.1 k with
  |true=>some p.2
  |false=>Yf l k)
def EI (C:cW) (id:Nat) (l:List Oper) (K:AS Unit→Prop) (s:AS Unit):Prop:=
 match Yf C.rm id with
 |none=>tG C l K l s
 |some k=>tG C l (fun s=>EH C l K s (l.drop k)) (l.take k) s
theorem EI.sound {C:cW} (aD:Γ.Ok) (hP:C.P=Γ.P) (au:aT Γ.P C.az) (dI:C.nt=Γ.nt) {id:Nat} {K:AS Unit→Prop} {l:List Oper} {s:AS Unit} (h:EI C id l K s):iB Γ l.toArray K l s:=by
 unfold EI at h
 split at h
 ·exact tG.sound aD hP au dI l s h
 ·rename_i k _
  have:=tG.NA aD hP au dI (rest:=l.drop k) (fun s h=>EH.sound aD hP au dI h) _ _ h
  rwa [aiq] at this
def lp (C:cW) (o:Oper) (s:AS Unit) (next:AS Unit→Prop):Prop:=
 match K4 C.az C.Mk s.hp s.ev o.op (fun r=>next (s.put o.dst r)) with
 |some p=>p
 |none=>(match qe s o.op with
  |some (f,args)=>(match EC C f o with
   | .one sh=>gU (dw (AV.cB s.hp) args).1 (V9 [] sh fun x=>av C.P f (dw (AV.cB s.hp) args).2 x∧next (s.put o.dst x))
   |_=>False)
  |none=>False)
theorem lp.sound {C:cW} (hP:C.P=Γ.P) {o:Oper} {next N R:AS Unit→Prop} (h:lp C o s next) (h1:∀s,next s→N s) (h2:∀s,next s→R s):DStep Γ C.az o s N R:=by
 unfold lp at h
 split at h
 ·rename_i p hp
  obtain⟨c,r,g1,g2,g3⟩:=xA hp h
  unfold DStep
  rw[g1]
  exact⟨g2,h1 _ g3⟩
 ·split at h
  ·rename_i f args aI
   split at h
   rotate_left
   ·exact h.elim
   rw[bG] at h
   obtain⟨iK,h⟩:=h
   obtain⟨x',xB,vP⟩:=su h
   rw[←cI (g:=AV.cm s.hp) (fun x=>dW) _ iK,hP] at xB
   rw[kS] at aI
   unfold k8 at aI
   split at aI
   ·rename_i c hc
    split at aI
    ·rename_i x hx
     split at aI
     ·rename_i f' caps eu
      simp only[Option.some.injEq,Prod.mk.injEq] at aI
      obtain⟨rfl,rfl⟩:=aI
      unfold DStep
      rw[hc]
      have QY:bN C.az s.hp s.ev (.call c)=none:=by simp only[bN,hx]
      have uT:fJ s (.call c)=some (f',(c.args.toList.map s.ev++caps).map (AV.cm s.hp)):=by simp only[fJ,hx,eu]
      rw[QY,uT]
      exact⟨x',xB,h2 _ vP⟩
     ·cases aI
    ·cases aI
   ·cases aI
  ·exact h.elim
def tH (C:cW) (l0:List Oper) (K:AS Unit→Prop):List Oper→AS Unit→Prop
 | [],s=>K s
 |o::rest,s=>(match wU C.nt o.dst with
  |false=>False
  |true=>(match cF o.op with
   |true=>(match o.guard with
    |none=>(match EB C.az s.hp s.ev o.op (fun r hp'=>tH C l0 K rest (AS.put { s with hp:=hp' } o.dst r)) with
     |some p=>p
     |none=>False)
    |some _=>False)
   |false=>KG l0 o s (fun s=>lp C o s (tH C l0 K rest)) (fun s=>tH C l0 K rest (s.put o.dst (.ah (.tuple #[]))))))
theorem tH.sound {C:cW} (aD:Γ.Ok) (hP:C.P=Γ.P) (au:aT Γ.P C.az) (dI:C.nt=Γ.nt) {l0:List Oper} {K:AS Unit→Prop}:∀(l:List Oper) (s:AS Unit),tH C l0 K l s→mV Γ C.az C.nt l0.toArray K l s:=by
 intro l
 induction l with
 |nil=>intro s h;exact h
 |cons o rest ih=>
  intro s h
  simp only[tH] at h
  simp only[mV]
  split at h
  ·exact h.elim
  rename_i hd
  have hd:=iW hd
  split at h
  ·rename_i he
   rw[if_pos he]
   split at h
   ·rename_i hg
    split at h
    ·rename_i p hp
     obtain⟨c,r,hp',g1,g2,g3⟩:=qQ hp h
     rw[g1]
     exact⟨hd,hg,g2,ih _ g3⟩
    ·exact h.elim
   ·exact h.elim
  ·rename_i he
   rw[if_neg (by rw[he];simp)]
   refine⟨hd,?_⟩
   have qb:∀s,tH C l0 K rest s→uU Γ l0.toArray K rest s:=fun s h=>mV.sound aD au dI rest s (ih s h)
   rcases KG.cases h with⟨hg,h⟩|⟨j,want,b,hg,hb,⟨jX,h⟩|⟨jX,h⟩⟩|⟨j,want,hg,hb,h⟩
   ·rw[hg]
    exact lp.sound hP h ih qb
   ·rw[hg]
    dsimp only
    rw[hb]
    exact⟨fun _=>lp.sound hP h ih qb,fun hn=>(hn jX).elim⟩
   ·rw[hg]
    dsimp only
    rw[hb]
    exact⟨fun hn=>(jX hn).elim,fun _=>ih _ h⟩
   ·rw[hg]
    dsimp only
    rw[hb]
    exact ih _ h
def Rn (ρ:Operand→AV):Op→Option Nat
 | .store _ p _=>(match ρ p with | .ptr r _=>some r | .fY r _ _ _=>some r|_=>none)
 | .mapUpdate _ m _ _=>(match ρ m with | .mp r=>some r|_=>none)
 | .call c=>(match c.args.toList with
  |b::_=>(match ρ b with | .own r _=>some r|_=>none)
  | []=>none)
 |_=>none
theorem Wk {az:Nat→Option TD} {hp hp':List af} {ρ:Operand→AV} {op:Op} {c:Prop} {r:AV} (h:dV az hp ρ op=some (c,r,hp')):
  (∃o,hp'=hp++[o])∨∃q o,Rn ρ op=some q∧hp'=hp.set q o:=by
 cases op with
 |alloc T=>
  simp only[dV] at h
  split at h
  ·simp only[Option.some.injEq,Prod.mk.injEq] at h;exact .inl ⟨_,h.2.2.symm⟩
  ·cases h
 |box T x=>
  simp only[dV] at h
  split at h
  ·simp only[Option.some.injEq,Prod.mk.injEq] at h;exact .inl ⟨_,h.2.2.symm⟩
  ·cases h
 |store T p x=>
  simp only[dV] at h
  split at h
  ·rename_i d r' o hd iM
   split at h
   ·split at h
    ·simp only[Option.some.injEq,Prod.mk.injEq] at h
     exact .inr ⟨r',_,by simp only[Rn,iM],h.2.2.symm⟩
    ·cases h
   ·cases h
  ·rename_i d r' m i z hd iM
   split at h
   ·split at h
    ·split at h
     ·simp only[Option.some.injEq,Prod.mk.injEq] at h
      exact .inr ⟨r',_,by simp only[Rn,iM],h.2.2.symm⟩
     ·simp only[Option.some.injEq,Prod.mk.injEq] at h
      exact .inr ⟨r',_,by simp only[Rn,iM],h.2.2.symm⟩
    ·cases h
   ·cases h
  ·cases h
 |makeSlice T l c=>
  simp only[dV] at h
  split at h
  ·split at h
   ·split at h
    ·split at h
     ·split at h
      ·simp only[Option.some.injEq,Prod.mk.injEq] at h;exact .inl ⟨_,h.2.2.symm⟩
      ·cases h
     ·cases h
    split at h
    ·simp only[Option.some.injEq,Prod.mk.injEq] at h;exact .inl ⟨_,h.2.2.symm⟩
    ·cases h
   ·cases h
  ·cases h
 |makeMap T x=>
  cases x with
  |some x=>simp[dV] at h
  |none=>
   simp only[dV] at h
   split at h
   ·split at h
    ·split at h
     ·split at h
      ·simp only[Option.some.injEq,Prod.mk.injEq] at h;exact .inl ⟨_,h.2.2.symm⟩
      ·simp only[Option.some.injEq,Prod.mk.injEq] at h;exact .inl ⟨_,h.2.2.symm⟩
     ·cases h
    ·cases h
   ·cases h
 |mapUpdate T m k x=>
  simp only[dV] at h
  split at h
  ·rename_i d r' a v hd hm hk hx
   split at h
   ·split at h
    ·split at h
     ·simp only[Option.some.injEq,Prod.mk.injEq] at h
      exact .inr ⟨r',_,by simp only[Rn,hm],h.2.2.symm⟩
     ·cases h
    ·cases h
   ·cases h
  ·rename_i d r' a v hd hm hk hx
   split at h
   ·split at h
    ·split at h
     ·simp only[Option.some.injEq,Prod.mk.injEq] at h
      exact .inr ⟨r',_,by simp only[Rn,hm],h.2.2.symm⟩
     ·cases h
    ·cases h
   ·cases h
  ·cases h
 |call c=>
  simp only[dV] at h
  split at h
  ·rename_i b x T T' hb hl hT
   split at h
   ·split at h
    ·split at h
     ·split at h
      ·split at h
       ·simp only[Option.some.injEq,Prod.mk.injEq] at h;exact .inl ⟨_,h.2.2.symm⟩
       ·simp only[Option.some.injEq,Prod.mk.injEq] at h;exact .inl ⟨_,h.2.2.symm⟩
       ·rename_i r' n pV
        split at h
        ·split at h
         ·simp only[Option.some.injEq,Prod.mk.injEq] at h
          exact .inr ⟨r',_,by simp only[Rn,hl,pV],h.2.2.symm⟩
         ·cases h
        ·split at h
         ·simp only[Option.some.injEq,Prod.mk.injEq] at h
          exact .inr ⟨r',_,by simp only[Rn,hl,pV],h.2.2.symm⟩
         ·cases h
        ·cases h
       ·cases h
      ·cases h
     ·cases h
    ·cases h
   ·cases h
  ·cases h
 |_=>simp[dV] at h
theorem mY.same (l:List Nat):∀(hp:List af) (q:Nat) (more:List af),mY l q hp (hp++more)
 | [],_,_=>True.intro
 |_::hp,q,more=>⟨.inr rfl,mY.same l hp (q+1) more⟩
theorem mY.refl (l:List Nat) (hp:List af) (q:Nat):mY l q hp hp:=by
 have:=mY.same l hp q []
 rwa [aiH] at this
theorem mY.set (l:List Nat):∀(hp:List af) (q r:Nat) (o:af),q+r∈l→mY l q hp (hp.set r o)
 | [],_,_,_,_=>True.intro
 |_::hp,q,0,o,h=>⟨.inl h,mY.refl l hp (q+1)⟩
 |_::hp,q,r+1,o,h=>⟨.inr rfl,mY.set l hp (q+1) r o (by rw[show q+1+r=q+(r+1) from by omega];exact h)⟩
def HN:List Nat→Nat→Bool
 | [],_=>false
 |x::l,k=>(match Nat.beq x k with|true=>true|false=>HN l k)
theorem B6:∀{l:List Nat} {k:Nat},HN l k=true→k∈l
 | [],_,h=>by cases h
 |x::l,k,h=>by
  simp only[HN] at h
  split at h
  ·rename_i hx;rw[ain hx];exact aia
  ·exact aip _ (B6 h)
def qk:List (Option (List Nat))→Nat→Option (List Nat)
 | [],_=>none
 |x::_,0=>x
 |_::l,n+1=>qk l n
theorem fA:∀(l:List (Option (List Nat))) (n:Nat),qk l n=l.getD n none
 | [],n=>by simp[qk]
 |x::l,0=>by simp[qk]
 |x::l,n+1=>by simp only[qk,fA l n,List.getD_cons_succ]
def NB (m:Option (List Nat)) (ρ:Operand→AV) (op:Op):Bool:=
 match m with
 |none=>true
 |some l=>(match Rn ρ op with
  |none=>true
  |some q=>HN l q)
theorem B7 {az:Nat→Option TD} {hp hp':List af} {ρ:Operand→AV} {op:Op} {c:Prop} {r:AV} {m:Option (List Nat)} (hb:NB m ρ op=true) (h:dV az hp ρ op=some (c,r,hp')):
  ∀l,m=some l→mY l 0 hp hp':=by
 intro l hm
 subst hm
 ·rcases Wk h with⟨o,rfl⟩|⟨q,o,hq,rfl⟩
  ·exact mY.same l hp 0 [o]
  ·simp only[NB,hq] at hb
   exact mY.set l hp 0 q o (by rw[aiw];exact B6 hb)
def fB (C:cW) (m:Option (List Nat)) (o:Oper) (s:AS Unit) (next:AS Unit→Prop):Prop:=
 match gS o.op with
 |true=>(match K4 C.az C.Mk s.hp s.ev o.op (fun r=>next (s.put o.dst r)) with
  |some p=>p
  |none=>False)
 |false=>(match m with
  |none=>lp C o s next
  |some K=>okB ((qP o.op).all fun x=>(s.ev x).closed (kill K s.hp).length) (okB ((kill K s.hp).all fun ob=>af.closed (kill K s.hp).length ob)
   (match K4 C.az C.Mk (kill K s.hp) s.ev o.op (fun r=>okB (r.held (kill K s.hp)) (next (s.put o.dst r))) with
   |some p=>p
   |none=>(match qe s o.op with
    |some (f,args)=>(match EC C f o with
     | .one sh=>gU (dw (AV.cB (kill K s.hp)) args).1 (V9 [] sh fun x=>av C.P f (dw (AV.cB (kill K s.hp)) args).2 x∧okB (x.held (kill K s.hp)) (next (s.put o.dst x)))
     |_=>False)
    |none=>False))))
theorem EJ {s:AS Unit} {op:Op} {f:Nat} {args:List AV} (h:qe s op=some (f,args)) (az:Nat→Option TD) (hp:List af):
  bN az hp s.ev op=none∧fJ { s with hp:=hp } op=some (f,args.map (AV.cm hp)):=by
 rw[kS] at h
 unfold k8 at h
 split at h
 ·rename_i c
  split at h
  ·rename_i x hx
   split at h
   ·rename_i f' caps eu
    simp only[Option.some.injEq,Prod.mk.injEq] at h
    obtain⟨rfl,rfl⟩:=h
    refine⟨by simp only[bN,hx],?_⟩
    have abY:(AS.ev { s with hp:=hp } x)=.ck f' caps:=by rw[←eu];cases x<;>rfl
    have hm:c.args.toList.map (AS.ev { s with hp:=hp })=c.args.toList.map s.ev:=ai7 fun y _=>by cases y<;>rfl
    simp only[fJ,hx,abY,hm]
   ·cases h
  ·cases h
 ·cases h
theorem fB.sound {C:cW} (hP:C.P=Γ.P) {m:Option (List Nat)} {o:Oper} {next N R:AS Unit→Prop} (h:fB C m o s next) (h1:∀s,next s→N s) (h2:∀s,next s→R s):iT Γ C.az m o s N R:=by
 unfold fB at h
 unfold iT
 split at h
 ·rename_i hh
  rw[if_pos hh]
  split at h
  ·rename_i p hp
   obtain⟨c,r,g1,g2,g3⟩:=xA hp h
   rw[g1]
   exact⟨g2,h1 _ g3⟩
  ·exact h.elim
 ·rename_i hh
  rw[if_neg (by rw[hh];simp)]
  cases m with
  |none=>exact lp.sound hP h h1 h2
  |some K=>
   dsimp only at h ⊢
   obtain⟨IW,h⟩:=cu h
   obtain⟨Mb,h⟩:=cu h
   refine⟨IW,fun ob eP=>ah4.1 Mb ob eP,?_⟩
   split at h
   ·rename_i p hp
    obtain⟨c,r,g1,g2,g3⟩:=xA hp h
    obtain⟨g4,g5⟩:=cu g3
    rw[g1]
    exact⟨g2,g4,h1 _ g5⟩
   ·split at h
    ·rename_i f args aI
     split at h
     rotate_left
     ·exact h.elim
     rw[bG] at h
     obtain⟨iK,h⟩:=h
     obtain⟨x',xB,vP⟩:=su h
     obtain⟨g4,g5⟩:=cu vP
     rw[←cI (g:=AV.cm (kill K s.hp)) (fun x=>dW) _ iK,hP] at xB
     obtain⟨q1,q2⟩:=EJ aI C.az (kill K s.hp)
     rw[q1,q2]
     exact⟨x',xB,g4,h2 _ g5⟩
    ·exact h.elim
def tI (C:cW) (l0:List Oper) (Cl M:List (Option (List Nat))) (K:AS Unit→Prop):Nat→List Oper→AS Unit→Prop
 |_,[],s=>K s
 |k,o::rest,s=>(match wU C.nt o.dst with
  |false=>False
  |true=>(match cF o.op with
   |true=>(match o.guard with
    |none=>okB (NB (qk Cl k) s.ev o.op) (match EB C.az s.hp s.ev o.op (fun r hp'=>tI C l0 Cl M K (k+1) rest (AS.put { s with hp:=hp' } o.dst r)) with
     |some p=>p
     |none=>False)
    |some _=>False)
   |false=>KG l0 o s (fun s=>fB C (qk M k) o s (tI C l0 Cl M K (k+1) rest)) (fun s=>tI C l0 Cl M K (k+1) rest (s.put o.dst (.ah (.tuple #[]))))))
theorem tI.sound {C:cW} (afY:Γ.Ok) (hP:C.P=Γ.P) (au:aT Γ.P C.az) (dI:C.nt=Γ.nt) {l0:List Oper} {Cl M:List (Option (List Nat))} {K:AS Unit→Prop}:∀(l:List Oper) (k:Nat) (s:AS Unit),tI C l0 Cl M K k l s→mZ Γ C.az C.nt l0.toArray Cl M K k l s:=by
 intro l
 induction l with
 |nil=>intro k s h;exact h
 |cons o rest ih=>
  intro k s h
  simp only[tI] at h
  simp only[mZ]
  split at h
  ·exact h.elim
  rename_i hd
  have hd:=iW hd
  split at h
  ·rename_i he
   rw[if_pos he]
   split at h
   ·rename_i hg
    obtain⟨HO,h⟩:=cu h
    split at h
    ·rename_i p hp
     obtain⟨c,r,hp',g1,g2,g3⟩:=qQ hp h
     have:=B7 HO g1
     rw[fA] at this
     rw[g1]
     refine⟨hd,hg,g2,?_,ih _ _ g3⟩
     split
     ·trivial
     ·rename_i l hl;exact this l hl
    ·exact h.elim
   ·exact h.elim
  ·rename_i he
   rw[if_neg (by rw[he];simp)]
   refine⟨hd,?_⟩
   have qb:∀s,tI C l0 Cl M K (k+1) rest s→oX Γ l0.toArray Cl M K (k+1) rest s:=fun s h=>mZ.sound au dI rest (k+1) s (ih _ s h)
   rcases KG.cases h with⟨hg,h⟩|⟨j,want,b,hg,hb,⟨jX,h⟩|⟨jX,h⟩⟩|⟨j,want,hg,hb,h⟩
   ·rw[hg]
    dsimp only
    rw[fA] at h
    exact fB.sound hP h (ih _) qb
   ·rw[hg]
    dsimp only
    rw[hb]
    rw[fA] at h
    exact⟨fun _=>fB.sound hP h (ih _) qb,fun hn=>(hn jX).elim⟩
   ·rw[hg]
    dsimp only
    rw[hb]
    exact⟨fun hn=>(jX hn).elim,fun _=>ih _ _ h⟩
   ·rw[hg]
    dsimp only
    rw[hb]
    exact ih _ _ h
def bf (hs:List Nat) (o:Oper):Bool:=
 match o.op with
 | .call c=>(match c.callee with
  | .value (.func f)=>HN hs f
  | .value (.tmp t)=>HN hs (t+1000000)
  |_=>false)
 |_=>false
def rR (C:cW) (hs:List Nat) (l0:List Oper) (K:AS Unit→Prop):List Oper→AS Unit→Prop
 | [],s=>K s
 |o::rest,s=>(match wU C.nt o.dst with
  |false=>False
  |true=>(match cF o.op with
   |true=>(match o.guard with
    |none=>(match EB C.az s.hp s.ev o.op (fun r hp'=>rR C hs l0 K rest (AS.put { s with hp:=hp' } o.dst r)) with
     |some p=>p
     |none=>False)
    |some _=>False)
   |false=>(match bf hs o with
    |true=>KG l0 o s (fun s=>jw C o s (rR C hs l0 K rest)) (fun s=>rR C hs l0 K rest (s.put o.dst (.ah (.tuple #[]))))
    |false=>KG l0 o s (fun s=>lp C o s (rR C hs l0 K rest)) (fun s=>rR C hs l0 K rest (s.put o.dst (.ah (.tuple #[])))))))
theorem rR.sound {C:cW} (aD:Γ.Ok) (hP:C.P=Γ.P) (au:aT Γ.P C.az) (dI:C.nt=Γ.nt) {hs:List Nat} {l0:List Oper} {K:AS Unit→Prop}:∀(l:List Oper) (s:AS Unit),rR C hs l0 K l s→kF Γ l0.toArray (bf hs) K l s:=by
 intro l
 induction l with
 |nil=>intro s h;exact h
 |cons o rest ih=>
  intro s h
  simp only[rR] at h
  simp only[kF]
  split at h
  ·exact h.elim
  rename_i hd
  have hd:=iW hd
  rw[dI] at hd
  split at h
  ·rename_i he
   rw[if_pos he]
   split at h
   ·rename_i hg
    split at h
    ·rename_i p hp
     obtain⟨c,r,hp',g1,g2,g3⟩:=qQ hp h
     exact⟨hd,hg,r,hp',jy aD au g1 g2,ih _ g3⟩
    ·exact h.elim
   ·exact h.elim
  ·rename_i he
   rw[if_neg (by rw[he];simp)]
   split at h
   ·rename_i hh
    rw[if_pos hh]
    rcases KG.cases h with⟨hg,h⟩|⟨j,want,b,hg,hb,⟨jX,h⟩|⟨jX,h⟩⟩|⟨j,want,hg,hb,h⟩
    ·exact .inl ⟨by simp[aM,hg],jw.sound aD hP au dI h ih⟩
    ·exact .inl ⟨by simp[aM,hg,hb,jX],jw.sound aD hP au dI h ih⟩
    ·exact .inr ⟨by simp[aM,hg,hb,jX],hd,ih _ h⟩
    ·exact .inr ⟨by simp[aM,hg,hb],hd,ih _ h⟩
   ·rename_i hh
    rw[if_neg (by rw[hh];simp)]
    rcases KG.cases h with⟨hg,h⟩|⟨j,want,b,hg,hb,⟨jX,h⟩|⟨jX,h⟩⟩|⟨j,want,hg,hb,h⟩
    ·obtain⟨x,h3,h4⟩:=DStep.sound (ops:=l0.toArray) aD au (lp.sound (Γ:=Γ) (N:=kF Γ l0.toArray (bf hs) K rest) (R:=kF Γ l0.toArray (bf hs) K rest) hP h ih ih) (fun _ h=>h) (fun _ h=>h)
     exact⟨x,⟨hd,.inl ⟨by simp[aM,hg],h3⟩⟩,h4⟩
    ·obtain⟨x,h3,h4⟩:=DStep.sound (ops:=l0.toArray) aD au (lp.sound (Γ:=Γ) (N:=kF Γ l0.toArray (bf hs) K rest) (R:=kF Γ l0.toArray (bf hs) K rest) hP h ih ih) (fun _ h=>h) (fun _ h=>h)
     exact⟨x,⟨hd,.inl ⟨by simp[aM,hg,hb,jX],h3⟩⟩,h4⟩
    ·exact⟨_,⟨hd,.inr ⟨by simp[aM,hg,hb,jX],rfl⟩⟩,ih _ h⟩
    ·exact⟨_,⟨hd,.inr ⟨by simp[aM,hg,hb],rfl⟩⟩,ih _ h⟩
def rS (C:cW) (hs:List Nat) (l0:List Oper) (Cl M:List (Option (List Nat))) (K:AS Unit→Prop):Nat→List Oper→AS Unit→Prop
 |_,[],s=>K s
 |k,o::rest,s=>(match wU C.nt o.dst with
  |false=>False
  |true=>(match cF o.op with
   |true=>(match o.guard with
    |none=>okB (NB (qk Cl k) s.ev o.op) (match EB C.az s.hp s.ev o.op (fun r hp'=>rS C hs l0 Cl M K (k+1) rest (AS.put { s with hp:=hp' } o.dst r)) with
     |some p=>p
     |none=>False)
    |some _=>False)
   |false=>(match bf hs o with
    |true=>KG l0 o s (fun s=>jw C o s (rS C hs l0 Cl M K (k+1) rest)) (fun s=>rS C hs l0 Cl M K (k+1) rest (s.put o.dst (.ah (.tuple #[]))))
    |false=>KG l0 o s (fun s=>fB C (qk M k) o s (rS C hs l0 Cl M K (k+1) rest)) (fun s=>rS C hs l0 Cl M K (k+1) rest (s.put o.dst (.ah (.tuple #[])))))))
theorem rS.sound {C:cW} (aD:Γ.Ok) (hP:C.P=Γ.P) (au:aT Γ.P C.az) (dI:C.nt=Γ.nt) {hs:List Nat} {l0:List Oper} {Cl M:List (Option (List Nat))} {K:AS Unit→Prop}:∀(l:List Oper) (k:Nat) (s:AS Unit),rS C hs l0 Cl M K k l s→kG Γ l0.toArray (bf hs) Cl M K k l s:=by
 intro l
 induction l with
 |nil=>intro k s h;exact h
 |cons o rest ih=>
  intro k s h
  simp only[rS] at h
  simp only[kG]
  split at h
  ·exact h.elim
  rename_i hd
  have hd:=iW hd
  rw[dI] at hd
  split at h
  ·rename_i he
   rw[if_pos he]
   split at h
   ·rename_i hg
    obtain⟨HO,h⟩:=cu h
    split at h
    ·rename_i p hp
     obtain⟨c,r,hp',g1,g2,g3⟩:=qQ hp h
     have:=B7 HO g1
     rw[fA] at this
     refine⟨hd,hg,r,hp',fun tr BQ e1 e2 e3=>jy BQ (az:=C.az) (by rw[e1];exact au) (c:=c) ?_ g2,?_,ih _ _ g3⟩
     ·rw[←g1];exact r9 fun x hx=>kL hx
     ·unfold k9
      split
      ·trivial
      ·rename_i l' hl
       have qR:=mY.fr (l:=l') s.hp hp' 0 (this l' hl)
       exact⟨qR.1,fun i ob hi ho=>qR.2 i ob (by simpa using hi) ho⟩
    ·exact h.elim
   ·exact h.elim
  ·rename_i he
   rw[if_neg (by rw[he];simp)]
   split at h
   ·rename_i hh
    rw[if_pos hh]
    rcases KG.cases h with⟨hg,h⟩|⟨j,want,b,hg,hb,⟨jX,h⟩|⟨jX,h⟩⟩|⟨j,want,hg,hb,h⟩
    ·exact .inl ⟨by simp[aM,hg],jw.sound aD hP au dI h (ih (k+1))⟩
    ·exact .inl ⟨by simp[aM,hg,hb,jX],jw.sound aD hP au dI h (ih (k+1))⟩
    ·exact .inr ⟨by simp[aM,hg,hb,jX],hd,ih _ _ h⟩
    ·exact .inr ⟨by simp[aM,hg,hb],hd,ih _ _ h⟩
   ·rename_i hh
    rw[if_neg (by rw[hh];simp)]
    rcases KG.cases h with⟨hg,h⟩|⟨j,want,b,hg,hb,⟨jX,h⟩|⟨jX,h⟩⟩|⟨j,want,hg,hb,h⟩
    ·rw[fA] at h
     obtain⟨x,h3,h4⟩:=iT.sound (ops:=l0.toArray) au (fB.sound (Γ:=Γ) (N:=kG Γ l0.toArray (bf hs) Cl M K (k+1) rest) (R:=kG Γ l0.toArray (bf hs) Cl M K (k+1) rest) hP h (ih (k+1)) (ih (k+1))) (fun _ h=>h) (fun _ h=>h) (.inl hg)
     exact⟨x,⟨hd,.inl ⟨by simp[aM,hg],h3⟩⟩,h4⟩
    ·rw[fA] at h
     obtain⟨x,h3,h4⟩:=iT.sound (ops:=l0.toArray) au (fB.sound (Γ:=Γ) (N:=kG Γ l0.toArray (bf hs) Cl M K (k+1) rest) (R:=kG Γ l0.toArray (bf hs) Cl M K (k+1) rest) hP h (ih (k+1)) (ih (k+1))) (fun _ h=>h) (fun _ h=>h) (.inr ⟨j,want,_,hg,hb⟩)
     exact⟨x,⟨hd,.inl ⟨by simp[aM,hg,hb,jX],h3⟩⟩,h4⟩
    ·exact⟨_,⟨hd,.inr ⟨by simp[aM,hg,hb,jX],rfl⟩⟩,ih _ _ h⟩
    ·exact⟨_,⟨hd,.inr ⟨by simp[aM,hg,hb],rfl⟩⟩,ih _ _ h⟩
def Ro:List (Nat×List Nat)→Nat→Option (List Nat)
 | [],_=>none
 |p::l,k=>(match Nat.beq p.1 k with|true=>some p.2|false=>Ro l k)
def Wl:List (Nat×List (Option (List Nat))×List (Option (List Nat)))→Nat→Option (List (Option (List Nat))×List (Option (List Nat)))
 | [],_=>none
 |p::l,k=>(match Nat.beq p.1 k with|true=>some p.2|false=>Wl l k)
end Go.Proofs.YtjhanogfpkbamaaGreatDoor
