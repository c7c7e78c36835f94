/- Texts of ours laid together for a claim: VcC. -/
import Derived.Test.YtdcikhleahfknaaGreatDoorQ22
namespace Go.Proofs.YtdcikhleahfknaaGreatDoor
open Go
set_option linter.unusedSimpArgs false
set_option linter.unusedVariables false
inductive sw where
 |i (k:IntKind)
 |b
 |s
 |l
 |c
 |m
 |ms
 |k (x:AV)
 |o (r:Nat)
 |fn
 |q (x:AV)
inductive pD where
 |c (x:sw)
 |a (l:List sw)
inductive Sh where
 |v (x:pD)
 |t (l:List pD)
 |f (fn:Nat) (l:List pD)
 |m (fn:Nat) (l:List pD)
inductive iG where
 |dead
 |box (l:List sw)
 |row (e size:Nat)
 |aP
 |eN
 |cA (r:Nat)
 |aF (e size:Nat)
 |dh (e:Nat)
def nX:List Nat→Nat→Nat
 | [],_=>0
 |x::_,0=>x
 |_::l,n+1=>nX l n
def Qq (lens:List Nat):sw→(AV→Prop)→Prop
 | .i k,P=>∃n:Int,P (.ae (.int k n))
 | .b,P=>∃b:Bool,P (.ae (.bool b))
 | .s,P=>∃s:ByteArray,P (.ae (.string s))
 | .l,P=>∃l:List AV,P (.sl l)
 | .c,P=>∃l:List AV,P (.clip l)
 | .m,P=>∃l:List (Int×Value),P (.dL (.i l))
 | .ms,P=>∃l:List (ByteArray×Value),P (.dL (.s l))
 | .k x,P=>P x
 | .o r,P=>P (.own r (nX lens r))
 | .fn,P=>∃v:Value,P (.fn v)
 | .q x,P=>P x
def Ey (lens:List Nat):List sw→(List AV→Prop)→Prop
 | [],P=>P []
 |sh::l,P=>Qq lens sh fun x=>Ey lens l fun xs=>P (x::xs)
def Iq (lens:List Nat):pD→(AV→Prop)→Prop
 | .c x,P=>Qq lens x P
 | .a l,P=>Ey lens l fun cs=>P (.agg cs)
def z7 (lens:List Nat):List pD→(List AV→Prop)→Prop
 | [],P=>P []
 |sh::l,P=>Iq lens sh fun x=>z7 lens l fun xs=>P (x::xs)
def Qr (lens:List Nat):Sh→(AV→Prop)→Prop
 | .v x,P=>Iq lens x P
 | .t l,P=>z7 lens l fun cs=>P (.bc cs)
 | .f fn l,P=>z7 lens l fun cs=>P (.aS fn cs)
 | .m fn l,P=>z7 lens l fun cs=>P (.cH fn cs)
theorem Ez {lens:List Nat} {sh:sw} {P:AV→Prop} (h:Qq lens sh P):∃x,P x:=by
 cases sh with
 |i k=>obtain⟨n,h⟩:=h;exact⟨_,h⟩
 |b=>obtain⟨n,h⟩:=h;exact⟨_,h⟩
 |s=>obtain⟨n,h⟩:=h;exact⟨_,h⟩
 |q x=>exact⟨_,h⟩
 |l=>obtain⟨n,h⟩:=h;exact⟨_,h⟩
 |c=>obtain⟨n,h⟩:=h;exact⟨_,h⟩
 |m=>obtain⟨n,h⟩:=h;exact⟨_,h⟩
 |ms=>obtain⟨n,h⟩:=h;exact⟨_,h⟩
 |fn=>obtain⟨n,h⟩:=h;exact⟨_,h⟩
 |k x=>exact⟨_,h⟩
 |o r=>exact⟨_,h⟩
theorem tW {lens:List Nat}:∀{l:List sw} {P:List AV→Prop},Ey lens l P→∃xs,P xs
 | [],_,h=>⟨_,h⟩
 |_::_,_,h=>by
  obtain⟨x,h⟩:=Ez h
  obtain⟨xs,h⟩:=tW h
  exact⟨_,h⟩
theorem sN {lens:List Nat} {sh:pD} {P:AV→Prop} (h:Iq lens sh P):∃x,P x:=by
 cases sh with
 |c x=>exact Ez h
 |a l=>obtain⟨cs,h⟩:=tW h;exact⟨_,h⟩
theorem pE {lens:List Nat}:∀{l:List pD} {P:List AV→Prop},z7 lens l P→∃xs,P xs
 | [],_,h=>⟨_,h⟩
 |_::_,_,h=>by
  obtain⟨x,h⟩:=sN h
  obtain⟨xs,h⟩:=pE h
  exact⟨_,h⟩
theorem oH {lens:List Nat} {sh:Sh} {P:AV→Prop} (h:Qr lens sh P):∃x,P x:=by
 cases sh with
 |v x=>exact sN h
 |t l=>obtain⟨cs,h⟩:=pE h;exact⟨_,h⟩
 |f fn l=>obtain⟨cs,h⟩:=pE h;exact⟨_,h⟩
 |m fn l=>obtain⟨cs,h⟩:=pE h;exact⟨_,h⟩
def Ma:List iG→(List (List AV)→Prop)→Prop
 | [],P=>P []
 | .row _ _::l,P | .aF _ _::l,P=>∃els:List AV,Ma l fun ls=>P (els::ls)
 |_::l,P=>Ma l fun ls=>P ([]::ls)
def Ir:List (List AV)→List Nat
 | []=>[]
 |l::ls=>l.length::Ir ls
def SG (lens:List Nat):iG→List AV→(af→Prop)→Prop
 | .dead,_,P=>P .dead
 | .box l,_,P=>Ey lens l fun cs=>P (.box cs)
 | .row e size,els,P=>P (.row e size els)
 | .aF e size,els,P=>P (.aF e size els)
 | .aP,_,P=>∃es:List (Int×Value),P (.aP (.i es))
 | .cA r,_,P=>P (.cA r (nX lens r))
 | .eN,_,P=>∃es:List (ByteArray×Value),P (.aP (.s es))
 | .dh _,_,_=>False
def Is (lens:List Nat):List iG→List (List AV)→(List af→Prop)→Prop
 | [],_,P=>P []
 |o::l,els::ls,P=>SG lens o els fun x=>Is lens l ls fun xs=>P (x::xs)
 |_::_,[],_=>False
theorem Mb {l:List iG}:∀{P:List (List AV)→Prop},Ma l P→∃ls,P ls:=by
 induction l with
 |nil=>intro P h;exact⟨_,h⟩
 |cons o l ih=>
  intro P h
  cases o with
  |row e size=>obtain⟨els,h⟩:=h;obtain⟨ls,h⟩:=ih h;exact⟨_,h⟩
  |aF e size=>obtain⟨els,h⟩:=h;obtain⟨ls,h⟩:=ih h;exact⟨_,h⟩
  |dead=>obtain⟨ls,h⟩:=ih (P:=fun ls=>P ([]::ls)) h;exact⟨_,h⟩
  |box l=>obtain⟨ls,h⟩:=ih (P:=fun ls=>P ([]::ls)) h;exact⟨_,h⟩
  |aP=>obtain⟨ls,h⟩:=ih (P:=fun ls=>P ([]::ls)) h;exact⟨_,h⟩
  |eN=>obtain⟨ls,h⟩:=ih (P:=fun ls=>P ([]::ls)) h;exact⟨_,h⟩
  |cA r=>obtain⟨ls,h⟩:=ih (P:=fun ls=>P ([]::ls)) h;exact⟨_,h⟩
  |dh e=>obtain⟨ls,h⟩:=ih (P:=fun ls=>P ([]::ls)) h;exact⟨_,h⟩
theorem Mc {lens:List Nat} {o:iG} {els:List AV} {P:af→Prop} (h:SG lens o els P):∃x,P x:=by
 cases o with
 |dead=>exact⟨_,h⟩
 |box l=>obtain⟨cs,h⟩:=tW h;exact⟨_,h⟩
 |row e size=>exact⟨_,h⟩
 |aF e size=>exact⟨_,h⟩
 |aP=>obtain⟨es,h⟩:=h;exact⟨_,h⟩
 |eN=>obtain⟨es,h⟩:=h;exact⟨_,h⟩
 |cA r=>exact⟨_,h⟩
 |dh e=>exact h.elim
theorem z8 {lens:List Nat}:∀{l:List iG} {ls:List (List AV)} {P:List af→Prop},Is lens l ls P→∃xs,xs.length=l.length∧P xs
 | [],_,_,h=>⟨[],rfl,h⟩
 |_::_,[],_,h=>h.elim
 |o::l,els::ls,P,h=>by
  obtain⟨x,h⟩:=Mc h
  obtain⟨xs,hl,h⟩:=z8 h
  exact⟨x::xs,by simp[hl],h⟩
def Qs (a:Sh×List iG) (r:AV) (hp':List af) (k:AV→List af→Prop):Prop:=
 Ma a.2 fun ls=>Is (Ir ls) a.2 ls fun h=>Qr (Ir ls) a.1 fun x=>(r=x∧hp'=h)∧k x h
def EA:List (Sh×List iG)→AV→List af→(AV→List af→Prop)→Prop
 | [],_,_,_=>False
 | [a],r,hp',k=>Qs a r hp' k
 |a::l,r,hp',k=>Qs a r hp' k∨EA l r hp' k
def Pl (a:Sh) (r:AV) (k:AV→Prop):Prop:=Qr [] a fun x=>r=x∧k x
def xE:List Sh→AV→(AV→Prop)→Prop
 | [],_,_=>False
 | [a],r,k=>Pl a r k
 |a::l,r,k=>Pl a r k∨xE l r k
theorem EB {a:Sh×List iG} {r:AV} {hp':List af} {k:AV→List af→Prop} (h:Qs a r hp' k):k r hp':=by
 obtain⟨ls,h⟩:=Mb h
 obtain⟨hs,_,h⟩:=z8 h
 obtain⟨x,⟨rfl,rfl⟩,h⟩:=oH h
 exact h
theorem fE:∀{l:List (Sh×List iG)} {r:AV} {hp':List af} {k:AV→List af→Prop},EA l r hp' k→k r hp'
 | [],_,_,_,h=>h.elim
 | [_],_,_,_,h=>EB h
 |_::_::_,_,_,_,h=>h.elim EB fE
theorem qM:∀{l:List Sh} {r:AV} {k:AV→Prop},xE l r k→k r
 | [],_,_,h=>h.elim
 | [_],_,_,h=>by obtain⟨x,rfl,h⟩:=oH h;exact h
 |_::_::_,_,_,h=>h.elim (fun h=>by obtain⟨x,rfl,h⟩:=oH h;exact h) qM
def Pm (tab:Nat→Option TD) (hp:List af) (ρ:Operand→AV):Op→Option (List Prop×List AV×Int×Nat×Nat)
 | .indexAddr T x i=>(match tab T with
  |some d=>(match d.kind with
   | .iu e=>(match tab e,(ρ x).jm hp,ρ i with
    |some d',some (cs,els),.ae (.int _ n)=>some (cs,els,n,e,d'.size)
    |_,_,_=>none)
   |_=>none)
  |none=>none)
 |_=>none
def Qt (tab:Nat→Option TD) (hp:List af) (ρ:Operand→AV):Op→Option (Prop×AV)
 | .indexAddr T x i=>(match qD hp (ρ x) with
  |some (r,m,e',size,k)=>(match tab T with
   |some d=>(match d.kind with
    | .iu e=>(match tab e,ρ i with
     |some d',.ae (.int _ n)=>if e'=e∧size=d'.size then some (0≤n∧n<m∧m=k,.ea r m n.toNat size) else none
     |_,_=>none)
    |_=>none)
   |none=>none)
  |none=>none)
 |_=>none
theorem Md {tab:Nat→Option TD} {hp:List af} {ρ:Operand→AV} {op:Op} {c:Prop} {r:AV} (h:Qt tab hp ρ op=some (c,r)):bk tab hp ρ op=some (c,r):=by
 unfold Qt at h
 split at h
 ·rename_i T x i
  split at h
  ·rename_i q m e' size k' hm
   split at h
   ·rename_i d hd
    split at h
    ·rename_i e hk
     split at h
     ·rename_i d' k n cM hi
      obtain⟨hx,els,nQ,_⟩:=nu hm
      have FU:(ρ x).fq hp=none:=by rw[hx];simp only[AV.fq,nQ]
      simp only[bk,hd,hk,cM,FU,hi,hm]
      exact h
     ·cases h
    ·cases h
   ·cases h
  ·cases h
 ·cases h
def Qu (tab:Nat→Option TD) (ρ:Operand→AV):Op→Option AV
 | .indexAddr T x (.const c)=>(match tab T with
  |some d=>(match d.kind with
   | .arr m=>(match ρ x,ρ (.const c) with
    | .ptr r 0,.ae (.int _ (.ofNat j))=>(match Nat.blt j m with|true=>some (.ptr r j)|false=>none)
    | .aH e 0,.ae (.int _ (.ofNat j))=>(match Nat.blt j m with|true=>some (.aH e j)|false=>none)
    |_,_=>none)
   |_=>none)
  |none=>none)
 |_=>none
theorem Me {tab:Nat→Option TD} {hp:List af} {ρ:Operand→AV} {op:Op} {r:AV} (h:Qu tab ρ op=some r):∃c,bk tab hp ρ op=some (c,r)∧c:=by
 unfold Qu at h
 split at h
 ·rename_i T x c
  split at h
  ·rename_i d hd
   split at h
   ·rename_i m hk
    split at h
    ·rename_i r' k j hx hc
     split at h
     ·rename_i hb
      obtain rfl:=Option.some.inj h
      have al:j<m:=Nat.le_of_ble_eq_true hb
      refine⟨0≤(Int.ofNat j)∧(Int.ofNat j)<m,?_,Int.natCast_nonneg _,Int.ofNat_lt.2 al⟩
      simp only[bk,hd,hk,hx,hc]
      rfl
     ·cases h
    ·rename_i e k j hx hc
     split at h
     ·rename_i hb
      obtain rfl:=Option.some.inj h
      have al:j<m:=Nat.le_of_ble_eq_true hb
      refine⟨0≤(Int.ofNat j)∧(Int.ofNat j)<m,?_,Int.natCast_nonneg _,Int.ofNat_lt.2 al⟩
      simp only[bk,hd,hk,hx,hc]
      rfl
     ·cases h
    ·cases h
   ·cases h
  ·cases h
 ·cases h
def Qv (tab:Nat→Option TD) (ρ:Operand→AV):Op→Option (Nat×Int×Nat)
 | .indexAddr T x i=>(match tab T with
  |some d=>(match d.kind with
   | .arr m=>(match ρ x,ρ i with
    | .ptr r 0,.ae (.int _ n)=>some (r,n,m)
    |_,_=>none)
   |_=>none)
  |none=>none)
 |_=>none
theorem Mf {tab:Nat→Option TD} {hp:List af} {ρ:Operand→AV} {op:Op} {r:Nat} {n:Int} {m:Nat} (h:Qv tab ρ op=some (r,n,m)):bk tab hp ρ op=some (0≤n∧n<m,.ptr r n.toNat):=by
 unfold Qv at h
 split at h
 ·rename_i T x i
  split at h
  ·rename_i d hd
   split at h
   ·rename_i m' hk
    split at h
    ·rename_i r' k n' hx hi
     simp only[Option.some.injEq,Prod.mk.injEq] at h
     obtain⟨rfl,rfl,rfl⟩:=h
     simp only[bk,hd,hk,hx,hi]
    ·cases h
   ·cases h
  ·cases h
 ·cases h
def C1 (n:Int) (k:Nat→Prop):Nat→Nat→Prop
 |0,_=>False
 |1,j=>k j
 |f+2,j=>ak (n==(j:Int)) (k j) (C1 n k (f+1) (j+1))
theorem we {n:Int} {k:Nat→Prop}:∀(f j:Nat),(j:Int)≤n→n<(j:Int)+f→C1 n k f j→k n.toNat
 |0,j,h1,h2,_=>by omega
 |1,j,h1,h2,h=>by
  have:n.toNat=j:=by omega
  rw[this];exact h
 |f+2,j,h1,h2,h=>by
  by_cases e:n=(j:Int)
  ·have h':=h.elim.1 (by simpa using e)
   have:n.toNat=j:=by omega
   rw[this];exact h'
  ·exact we (f+1) (j+1) (by omega) (by omega) (h.elim.2 (by simpa using e))
def WE (tab:Nat→Option TD) (hp:List af) (ρ:Operand→AV):Op→Option (Prop×List AV×Nat×Nat×Bool)
 | .load T x=>(match ρ x with
  | .ea r m i z=>(match hp[r]?,tab T with
   |some (.aF _ z' els),some d=>(match Nat.beq z' z&&Nat.beq d.size z with
    |true=>some (m=els.length,els,i,T,d.kind.agg)
    |false=>none)
   |_,_=>none)
  |_=>none)
 |_=>none
theorem Qw {tab:Nat→Option TD} {hp:List af} {ρ:Operand→AV} {op:Op} {els:List AV} {i T:Nat} {b:Bool} {c:Prop} (h:WE tab hp ρ op=some (c,els,i,T,b)):bk tab hp ρ op=some (c∧i<els.length∧(els.getD i .top).isAgg=b,els.getD i .top):=by
 unfold WE at h
 split at h
 ·rename_i T' x
  split at h
  ·rename_i r m i' z hx
   split at h
   ·rename_i e z' jQ d hr hd
    split at h
    ·rename_i hb
     rw[Bool.and_eq_true] at hb
     simp only[Option.some.injEq,Prod.mk.injEq] at h
     obtain⟨rfl,rfl,rfl,rfl,rfl⟩:=h
     simp only[bk,hd,hx,hr]
     rw[if_pos ⟨Nat.eq_of_beq_eq_true hb.1,Nat.eq_of_beq_eq_true hb.2⟩]
    ·cases h
   ·cases h
  ·cases h
 ·cases h
def sized (size:Nat) (x:AV) (p:Prop):Prop:=if x.cells.length=size then p else False
def Qx (b:Bool) (x:AV) (p:Prop):Prop:=match x.isAgg==b with|true=>p|false=>False
def FY (tab:Nat→Option TD) (Hl:Nat→pD) (hp:List af) (ρ:Operand→AV) (op:Op) (k:AV→Prop):Option Prop:=
 match Pm tab hp ρ op with
 |some (cs,els,n,e,size)=>some (eH cs (0≤n∧n<els.length∧Iq [] (Hl e) fun x=>els.getD n.toNat .top=x∧sized size x (k (.aH x 0))))
 |none=>(match Qt tab hp ρ op with
  |some (c,r)=>some (c∧k r)
  |none=>(match pv tab hp ρ op with
   |some (cs,r)=>some (eH cs (k r))
   |none=>(match Qu tab ρ op with
    |some r=>some (k r)
    |none=>(match Qv tab ρ op with
     |some (r,n,m)=>some ((0≤n∧n<m)∧C1 n (fun j=>k (.ptr r j)) m 0)
     |none=>(match WE tab hp ρ op with
      |some (c,els,i,T,b)=>some (c∧i<els.length∧Iq [] (Hl T) fun x=>els.getD i .top=x∧Qx b x (k x))
      |none=>none)))))
theorem Mg {b:Bool} {x:AV} {p:Prop} (h:Qx b x p):x.isAgg=b∧p:=by
 unfold Qx at h
 split at h
 ·rename_i hb;exact⟨by cases b<;>cases hx:x.isAgg<;>simp_all,h⟩
 ·exact h.elim
theorem sO {tab:Nat→Option TD} {Hl:Nat→pD} {hp:List af} {ρ:Operand→AV} {op:Op} {k:AV→Prop} {p:Prop} (h:FY tab Hl hp ρ op k=some p) (nU:p):∃c r,bk tab hp ρ op=some (c,r)∧c∧k r:=by
 unfold FY at h
 split at h
 ·rename_i cs els n e size jY
  obtain rfl:=Option.some.inj h
  rw[bg] at nU
  obtain⟨hc,h0,h1,h2⟩:=nU
  obtain⟨x,hx,hk⟩:=sN h2
  unfold sized at hk
  split at hk
  ·rename_i hs
   unfold Pm at jY
   split at jY
   ·rename_i T y i
    split at jY
    ·rename_i d hd
     split at jY
     ·rename_i e' FX
      split at jY
      ·rename_i d' cs' jQ ik n' cM hy hi
       simp only[Option.some.injEq,Prod.mk.injEq] at jY
       obtain⟨rfl,rfl,rfl,rfl,rfl⟩:=jY
       have FU:=eM hy hc
       refine⟨0≤n'∧n' < jQ.length∧(jQ.getD n'.toNat .top).cells.length=d'.size,.aH (jQ.getD n'.toNat .top) 0,by simp only[bk,hd,FX,cM,FU,hi],⟨h0,h1,by rw[hx];exact hs⟩,by rw[hx];exact hk⟩
      ·cases jY
     ·cases jY
    ·cases jY
   ·cases jY
  ·exact hk.elim
 ·split at h
  ·rename_i c r hm
   obtain rfl:=Option.some.inj h
   exact⟨c,r,Md hm,nU.1,nU.2⟩
  split at h
  ·rename_i cs r hpv
   obtain rfl:=Option.some.inj h
   rw[bg] at nU
   obtain⟨c,h1,h2⟩:=Sk hpv nU.1
   exact⟨c,r,h1,h2,nU.2⟩
  split at h
  ·rename_i r hi
   obtain rfl:=Option.some.inj h
   obtain⟨c,h1,h2⟩:=Me hi
   exact⟨c,r,h1,h2,nU⟩
  ·split at h
   ·rename_i r n m hi
    obtain rfl:=Option.some.inj h
    exact⟨_,_,Mf hi,nU.1,we m 0 (by simpa using nU.1.1) (by simpa using nU.1.2) nU.2⟩
   ·split at h
    ·rename_i c els i T b hl
     obtain rfl:=Option.some.inj h
     obtain⟨h0,h1,h2⟩:=nU
     obtain⟨x,hx,hk⟩:=sN h2
     obtain⟨h3,h4⟩:=Mg hk
     exact⟨_,_,Qw hl,⟨h0,h1,by rw[hx];exact h3⟩,by rw[hx];exact h4⟩
    ·cases h
def Aa (tab:Nat→Option TD) (hp:List af) (ρ:Operand→AV) (op:Op) (k:AV→List af→Prop):Option Prop:=
 match hv tab hp ρ op with
 |some (cs,r,hp')=>some (eH cs (k r hp'))
 |none=>none
theorem nz {tab:Nat→Option TD} {hp:List af} {ρ:Operand→AV} {op:Op} {k:AV→List af→Prop} {p:Prop} (h:Aa tab hp ρ op k=some p) (nU:p):∃c r hp',cO tab hp ρ op=some (c,r,hp')∧c∧k r hp':=by
 unfold Aa at h
 split at h
 ·rename_i cs r hp' hh
  obtain rfl:=Option.some.inj h
  rw[bg] at nU
  obtain⟨c,h1,h2⟩:=Sl hh nU.1
  exact⟨c,r,hp',h1,h2,nU.2⟩
 ·cases h
def mB (s:AS Unit):Op→Option (Nat×List AV)
 | .call c=>(match c.callee with
  | .value x=>(match s.ev x with
   | .aS f caps=>some (f,c.args.toList.map s.ev++caps)
   |_=>none)
  |_=>none)
 |_=>none
theorem ij (s:AS Unit) (op:Op):mB s op=iD s op:=rfl
inductive Ab where
 |one (sh:Sh)
 |alts (l:List Sh)
 |heap (n:Nat) (l:List (Sh×List iG))
 |raw (l:List Sh)
 |aS (f:Nat)
 |y (kind:Bool)
 |Pc (sh:Sh)
 |fresh (e size:Nat)
 |fU (l:List (Sh×List iG))
def boxed:List AV→List AV
 | []=>[]
 |x::l=>.aH x 0::boxed l
inductive kz where
 |done
 |val (i:Nat) (p:kz)
 |zB (i:Nat) (p:kz)
 |two (i:Nat) (p:kz) (j:Nat) (q:kz)
 |three (i:Nat) (p:kz) (j:Nat) (q:kz) (k:Nat) (r:kz)
structure ck where
 P:Program
 tab:Nat→Option TD
 Hl:Nat→pD
 sig:Nat→Nat→Ab
 nt:Nat
 dr:List (Nat×List (Option (List Nat))×List (Option (List Nat))):=[]
 hc:List (Nat×List Nat):=[]
 br:List (Nat×kz):=[]
 mt:Bool:=false
 dh:Option (List Nat):=none
 rm:List (Nat×Nat):=[]
 Zl:Nat→Option Ab:=fun _=>none
 ext:{ e:Nat→Option Lz // ∀f x,e f=some x→Wz P f x }:=⟨fun _=>none,fun _ _ h=>by cases h⟩
def Ac (C:ck) (f:Nat) (o:Oper):Ab:=
 match o.dst with
 |some d=>(match C.Zl d with
  |some g=>g
  |none=>C.sig f o.type)
 |none=>C.sig f o.type
def okB (b:Bool) (p:Prop):Prop:=
 match b with
 |true=>p
 |false=>False
theorem bD {b:Bool} {p:Prop} (h:okB b p):b=true∧p:=by
 cases b with
 |true=>exact⟨rfl,h⟩
 |false=>exact h.elim
def AV.iH (n:Nat) (hp:List af) (x:AV):List Prop×AV:=
 match x.closed n with
 |true=>([],x)
 |false=>x.bx hp
theorem mC {n:Nat} {hp:List af} {x:AV} (hc:dw (x.iH n hp).1):x.oF n hp=(x.iH n hp).2:=by
 unfold AV.oF AV.iH at *
 cases h:x.closed n with
 |true=>simp
 |false=>rw[h] at hc;simp only[Bool.false_eq_true,if_false];exact cE hc
def nY (n:Nat):List Nat→Nat→Nat
 | [],_=>n
 |j::js,r=>(match Nat.beq j r with|true=>n|false=>nY (n+1) js r)
def Ql (js:List Nat):AV→AV
 | .ptr r o=>.ptr (nY 0 js r) o
 |x=>x
def vv (js:List Nat):AV→AV
 | .own r n=>.own (nY 0 js r) n
 | .ptr r o=>.ptr (nY 0 js r) o
 | .mp r=>.mp (nY 0 js r)
 | .aS f cs=>.aS f (cs.map (Ql js))
 |x=>x
def Ex (js:List Nat):AV→AV
 | .agg cs=>.agg (cs.map (vv js))
 |x=>vv js x
def Hm (js:List Nat):AV→AV
 | .bc vs=>.bc (vs.map (Ex js))
 | .aS f cs=>.aS f (cs.map (Ex js))
 | .cH f cs=>.cH f (cs.map (Ex js))
 |x=>Ex js x
def Ph (js:List Nat):af→af
 | .box cs=>.box (cs.map (vv js))
 | .cA r n=>.cA (nY 0 js r) n
 |o=>o
def jD (js:List Nat) (n:Nat) (i:Nat):Nat:=(match Nat.blt i js.length with|true=>nX js i|false=>n+(i-js.length))
theorem EC:∀{js:List Nat} {n r:Nat},nY n js r<n+js.length→n≤nY n js r∧nX js (nY n js r-n)=r
 | [],n,r,h=>by simp[nY] at h
 |j::js,n,r,h=>by
  simp only[nY] at h ⊢
  split
  ·rename_i hb
   rw[Nat.sub_self]
   exact⟨Nat.le_refl _,Nat.eq_of_beq_eq_true hb⟩
  ·rename_i hb
   rw[hb] at h
   simp only[List.length_cons] at h
   obtain⟨h1,h2⟩:=EC (js:=js) (n:=n+1) (r:=r) (by omega)
   refine⟨by omega,?_⟩
   rw[show nY (n+1) js r-n=(nY (n+1) js r-(n+1))+1 from by omega]
   exact h2
theorem pF {js:List Nat} {n r:Nat} (h:nY 0 js r<js.length):jD js n (nY 0 js r)=r:=by
 unfold jD
 rw[show Nat.blt (nY 0 js r) js.length=true from Nat.ble_eq_true_of_le h]
 have:=(EC (js:=js) (n:=0) (r:=r) (by omega)).2
 rwa [Nat.sub_zero] at this
theorem fg {js:List Nat} {n:Nat} {u:List Nat→AV→AV} {r:(Nat→Nat)→AV→AV} {c:Nat→AV→Bool} (hu:∀x,c js.length (u js x)=true→r (jD js n) (u js x)=x):
  ∀(l:List AV),(l.map (u js)).all (c js.length)=true→(l.map (u js)).map (r (jD js n))=l
 | [],_=>rfl
 |x::l,h=>by
  simp only[List.map_cons,List.all_cons,Bool.and_eq_true] at h ⊢
  rw[hu x h.1,fg hu l h.2]
theorem Qy {js:List Nat} {n:Nat} {x:AV} (h:(Ql js x).dx js.length=true):Io (jD js n) (Ql js x)=x:=by
 cases x with
 |ptr r m=>simp only[Ql,AV.dx,decide_eq_true_eq] at h;simp only[Ql,Io,pF h]
 |_=>rfl
theorem jE {js:List Nat} {n:Nat} {x:AV} (h:(vv js x).aJ js.length=true):su (jD js n) (vv js x)=x:=by
 cases x with
 |own r m=>simp only[vv,AV.aJ,decide_eq_true_eq] at h;simp only[vv,su,pF h]
 |ptr r m=>simp only[vv,AV.aJ,decide_eq_true_eq] at h;simp only[vv,su,pF h]
 |mp r=>simp only[vv,AV.aJ,decide_eq_true_eq] at h;simp only[vv,su,pF h]
 |aS f cs=>simp only[vv,AV.aJ] at h;simp only[vv,su];rw[fg (c:=AV.dx) (fun x hx=>Qy hx) cs h]
 |_=>rfl
theorem xF {js:List Nat} {n:Nat} {x:AV} (h:(Ex js x).cI js.length=true):zY (jD js n) (Ex js x)=x:=by
 cases x with
 |agg cs=>
  simp only[Ex,zY] at h ⊢
  rw[fg (fun x hx=>jE hx) cs h]
 |own r m=>exact jE (x:=.own r m) h
 |ptr r m=>exact jE (x:=.ptr r m) h
 |mp r=>exact jE (x:=.mp r) h
 |aS f cs=>exact jE (x:=.aS f cs) h
 |_=>first|rfl|(simp[Ex,vv,AV.cI,AV.aJ] at h;done)
theorem Qz {js:List Nat} {n:Nat} {x:AV} (h:(Hm js x).closed js.length=true):oG (jD js n) (Hm js x)=x:=by
 cases x with
 |bc cs=>
  simp only[Hm,oG] at h ⊢
  rw[fg (fun x hx=>xF hx) cs h]
 |aS f cs=>
  simp only[Hm,oG] at h ⊢
  rw[fg (fun x hx=>xF hx) cs h]
 |cH f cs=>
  simp only[Hm,oG] at h ⊢
  rw[fg (fun x hx=>xF hx) cs h]
 |agg cs=>exact xF (x:=.agg cs) h
 |own r m=>exact jE (x:=.own r m) h
 |ptr r m=>exact jE (x:=.ptr r m) h
 |mp r=>exact jE (x:=.mp r) h
 |_=>first|rfl|(simp[Hm,Ex,vv,AV.closed,AV.cI,AV.aJ] at h;done)
theorem QA {js:List Nat} {n:Nat} {o:af} (h:(Ph js o).closed js.length=true):gD (jD js n) (Ph js o)=o:=by
 cases o with
 |box cs=>
  simp only[Ph,gD] at h ⊢
  rw[fg (fun x hx=>jE hx) cs h]
 |cA q k=>have:=jE (js:=js) (n:=n) (x:=.own q k) h;simp only[vv,su,AV.own.injEq,and_true] at this;simp only[Ph,gD,this]
 |_=>rfl
def AV.C2 (js:List Nat) (hp:List af) (x:AV):AV:=if(Hm js x).closed js.length=true then x else x.bh hp
def AV.Ad (js:List Nat) (hp:List af) (x:AV):List Prop×AV:=
 match (Hm js x).closed js.length with
 |true=>([],x)
 |false=>x.bx hp
theorem tX {js:List Nat} {hp:List af} {x:AV} (hc:dw (x.Ad js hp).1):x.C2 js hp=(x.Ad js hp).2:=by
 unfold AV.C2 AV.Ad at *
 cases h:(Hm js x).closed js.length with
 |true=>simp
 |false=>rw[h] at hc;simp only[Bool.false_eq_true,if_false];exact cE hc
theorem pG {Γ:Env Unit} {s:AS Unit} {a:Act} {w:World} {η:List Value} (hr:Rel Γ s a w η) (js:List Nat):∀(xs:List AV) (vs:List Value),bF w (aU Γ w η s.hp) η s.hp xs vs→bF w (aU Γ w η s.hp) η s.hp (xs.map (AV.C2 js s.hp)) vs
 | [],[],_=>True.intro
 |x::xs,v::vs,h=>⟨by
   unfold AV.C2
   split
   ·exact h.1
   ·exact(eV hr.heap hr.bA h.1).lift,pG hr js xs vs h.2⟩
 | [],_::_,h=>h.elim
 |_::_,[],h=>h.elim
def lO (js:List Nat):List Nat→List af→List af
 | [],_=>[]
 |j::l,H=>(match H[j]? with
  |some o=>Ph js o
  |none=>.dead)::lO js l H
theorem wg {js:List Nat} {H:List af}:∀{l:List Nat} {i:Nat} {o:af},(lO js l H)[i]?=some o→∃j,l[i]?=some j∧(H[j]?=none∨∃o',H[j]?=some o'∧o=Ph js o')
 | [],i,o,h=>by simp[lO] at h
 |j::l,0,o,h=>by
  simp only[lO,List.getElem?_cons_zero,Option.some.injEq] at h
  refine⟨j,rfl,?_⟩
  split at h
  ·rename_i o' ho;exact .inr ⟨o',ho,h.symm⟩
  ·rename_i ho;exact .inl ho
 |j::l,i+1,o,h=>by
  simp only[lO,List.getElem?_cons_succ] at h ⊢
  exact wg h
theorem wh {js:List Nat} {H:List af}:∀{l:List Nat},(lO js l H).length=l.length
 | []=>rfl
 |j::l=>by simp[lO,wh (l:=l)]
def mD (n:Nat):List Nat→Bool
 | []=>true
 |j::js=>Nat.blt j n&&(!C3 j js&&mD n js)
where C3 (k:Nat):List Nat→Bool
 | []=>false
 |x::l=>Nat.beq x k||C3 k l
theorem tY {k:Nat}:∀{l:List Nat} {i:Nat},l[i]?=some k→mD.C3 k l=true
 | [],i,h=>by simp at h
 |x::l,0,h=>by simp at h;subst h;simp[mD.C3]
 |x::l,i+1,h=>by simp only[List.getElem?_cons_succ] at h;simp[mD.C3,tY h]
theorem mE:∀{l:List Nat} {i:Nat},i<l.length→l[i]?=some (nX l i)
 | [],i,h=>by simp at h
 |x::l,0,h=>rfl
 |x::l,i+1,h=>by simp only[List.getElem?_cons_succ,nX];exact mE (by simpa using h)
theorem ED {n:Nat}:∀{js:List Nat},mD n js=true→∀i,i<js.length→nX js i<n
 | [],_,i,h=>by simp at h
 |j::js,h,0,_=>by simp only[mD,Bool.and_eq_true] at h;exact Nat.le_of_ble_eq_true (show Nat.ble (j+1) n=true from h.1)
 |j::js,h,i+1,hi=>by simp only[mD,Bool.and_eq_true] at h;exact ED h.2.2 i (by simpa using hi)
theorem Ae {n:Nat}:∀{js:List Nat},mD n js=true→∀i i',i<js.length→i' < js.length→nX js i=nX js i'→i=i'
 | [],_,i,i',h,_,_=>by simp at h
 |j::js,h,0,0,_,_,_=>rfl
 |j::js,h,0,i'+1,_,h2,he=>by
  simp only[mD,Bool.and_eq_true,Bool.not_eq_true'] at h
  have:=tY (k:=j) (l:=js) (i:=i') (by rw[mE (by simpa using h2)];exact congrArg some he.symm)
  rw[h.2.1] at this;cases this
 |j::js,h,i+1,0,h1,_,he=>by
  simp only[mD,Bool.and_eq_true,Bool.not_eq_true'] at h
  have:=tY (k:=j) (l:=js) (i:=i) (by rw[mE (by simpa using h1)];exact congrArg some he)
  rw[h.2.1] at this;cases this
 |j::js,h,i+1,i'+1,h1,h2,he=>by
  simp only[mD,Bool.and_eq_true] at h
  rw[Ae h.2.2 i i' (by simpa using h1) (by simpa using h2) he]
def kA (r:Nat) (out:List Nat):List Nat:=(match mD.C3 r out with|true=>out|false=>out++[r])
mutual
def QB (hp:List af):Nat→List Nat→AV→List Nat
 |0,out,_=>out
 |n+1,out,.ptr r _=>(match mD.C3 r out with
  |true=>out
  |false=>(match hp[r]? with
   |some (.box cs)=>kA r (gb hp n out cs)
   |some (.cA q _)=>kA q (kA r out)
   |_=>kA r out))
 |_+1,out,.mp r=>kA r out
 |_+1,out,.own r _=>(match hp[r]? with
  |some (.aF _ _ _)=>kA r out
  |_=>out)
 |n+1,out,.agg cs=>gb hp n out cs
 |n+1,out,.bc cs=>gb hp n out cs
 |n+1,out,.aS _ cs=>gb hp n out cs
 |n+1,out,.cH _ cs=>gb hp n out cs
 |_+1,out,_=>out
def gb (hp:List af):Nat→List Nat→List AV→List Nat
 |0,out,_=>out
 |_+1,out,[]=>out
 |n+1,out,x::l=>gb hp n (QB hp n out x) l
end
def EE (js:List Nat) (hp:List af) (args:List AV):List AV:=((bZ (AV.Ad js hp) args).2).map (Hm js)
def rB (js:List Nat) (x:AV) (h:List af):Bool:=Nat.ble js.length h.length&&(x.closed h.length&&h.all (af.closed h.length))
def vy (C:ck) (js:List Nat) (l:List (Sh×List iG)) (f:Nat) (args:List AV) (o:Oper) (s:AS Unit) (next:AS Unit→Prop):Prop:=
 okB (mD s.hp.length js&&((EE js s.hp args).all (AV.closed js.length)&&(lO js js s.hp).all (af.closed js.length)))
  (eH (bZ (AV.Ad js s.hp) args).1 (∃R:AV→List af→Prop,bJ C.P f (EE js s.hp args) (lO js js s.hp) R∧∀(r:AV) (hp':List af),R r hp'→EA l r hp' fun x h=>okB (rB js x h) (next (AS.put { s with hp:=gE (jD js s.hp.length) js.length h s.hp } o.dst (oG (jD js s.hp.length) x)))))
theorem vy.RM {P:Program} {js:List Nat} {H:List af} {f:Nat} {args:List AV} {R:AV→List af→Prop} (hb:(mD H.length js&&((args.map (Hm js)).all (AV.closed js.length)&&(lO js js H).all (af.closed js.length)))=true)
  (hF:bJ P f (args.map (Hm js)) (lO js js H) R) (hR:∀r h,R r h→rB js r h=true):bJ P f args H (fun r2 H2=>∃r h,R r h∧r2=oG (jD js H.length) r∧H2=gE (jD js H.length) js.length h H):=by
 simp only[Bool.and_eq_true] at hb
 obtain⟨h1,h2,h3⟩:=hb
 have hl:(lO js js H).length=js.length:=wh
 have al:∀i,i<js.length→jD js H.length i=nX js i:=fun i hi=>by
  unfold jD;rw[show Nat.blt i js.length=true from Nat.ble_eq_true_of_le hi]
 have:=bJ.SA (g:=jD js H.length) (H:=H) hF (fun i o ho=>?_) (fun i i' hi n6 he=>?_) (fun i hi=>?_) (by rw[hl];exact h2) (by rw[hl];exact h3) (fun r h hr=>?_)
 ·rw[hl,fg (fun x hx=>Qz hx) args h2] at this
  exact this
 ·have hi:i<js.length:=by rw[←hl];exact(List.getElem?_eq_some_iff.1 ho).1
  obtain⟨j,hj,hc⟩:=wg ho
  rw[mE hi] at hj
  obtain rfl:=Option.some.inj hj
  rw[al i hi]
  have Hb:o.closed js.length=true:=List.all_eq_true.1 h3 o (List.mem_of_getElem? ho)
  rcases hc with hc|⟨o',s9,rfl⟩
  ·have:=ED h1 i hi
   rw[List.getElem?_eq_getElem this] at hc;cases hc
  ·rw[s9,QA Hb]
 ·rw[hl] at hi n6
  rw[al i hi,al i' n6] at he
  exact Ae h1 i i' hi n6 he
 ·rw[hl] at hi ⊢
  unfold jD
  cases hb:Nat.blt i js.length with
  |true=>have:i+1≤js.length:=Nat.le_of_ble_eq_true hb;omega
  |false=>rfl
 ·have:=hR r h hr
  simp only[rB,Bool.and_eq_true] at this
  rw[hl]
  exact⟨Nat.le_of_ble_eq_true this.1,this.2.1,this.2.2⟩
def It (C:ck) (sh:Sh) (l:List Nat) (o:Oper) (s:AS Unit) (next:AS Unit→Prop):Prop:=
 eH (jn l s).1 (match mB (jn l s).2 o.op with
  |some (f,args)=>eH (bZ (AV.bx (jn l s).2.hp) args).1 (Qr [] sh fun x=>ag C.P f (bZ (AV.bx (jn l s).2.hp) args).2 x∧next ((jn l s).2.put o.dst x))
  |none=>False)
def EF (s:AS Unit):Op→Option (Nat×List AV)
 | .call c=>(match c.callee with
  | .value x=>(match s.ev x with
   | .cH f fst=>some (f,fst++c.args.toList.map s.ev)
   |_=>none)
  |_=>none)
 |_=>none
def tZ (C:ck) (o:Oper) (s:AS Unit) (next:AS Unit→Prop):Prop:=
 match EF s o.op with
 |some (f,args)=>(match Ac C f o with
  | .fU l=>vy C (gb s.hp 100 [] args) l f args o s next
  |_=>False)
 |none=>False
def Pn (C:ck) (o:Oper) (s:AS Unit) (next:AS Unit→Prop):Prop:=
 match mB s o.op with
 |some (f,args)=>(match Ac C f o with
  | .one sh=>eH (bZ (AV.bx s.hp) args).1 (Qr [] sh fun x=>ag C.P f (bZ (AV.bx s.hp) args).2 x∧next (s.put o.dst x))
  | .aS f'=>eH (bZ (AV.bx s.hp) args).1 (ag C.P f (bZ (AV.bx s.hp) args).2 (.aS f' (boxed (bZ (AV.bx s.hp) args).2))∧next (s.put o.dst (.aS f' (boxed (bZ (AV.bx s.hp) args).2))))
  | .y _=>False
  | .Pc sh=>It C sh (xA args) o s next
  | .alts l=>eH (bZ (AV.bx s.hp) args).1 (∃R:AV→Prop,Pure C.P f (bZ (AV.bx s.hp) args).2 R∧∀r:AV,R r→xE l r fun x=>next (s.put o.dst x))
  | .raw l=>eH (bZ (AV.iH 0 s.hp) args).1 (∃R:AV→Prop,Pure C.P f (bZ (AV.iH 0 s.hp) args).2 R∧∀r:AV,R r→xE l r fun x=>next (s.put o.dst x))
  | .heap n l=>okB ((bZ (AV.iH (s.hp.take n).length s.hp) args).2.all (AV.closed (s.hp.take n).length)&&(s.hp.take n).all (af.closed (s.hp.take n).length))
    (eH (bZ (AV.iH (s.hp.take n).length s.hp) args).1 (∃R:AV→List af→Prop,bJ C.P f (bZ (AV.iH (s.hp.take n).length s.hp) args).2 (s.hp.take n) R∧∀(r:AV) (hp':List af),R r hp'→EA l r hp' fun x h=>okB (Nat.beq h.length (s.hp.take n).length) (next (AS.put { s with hp:=h++s.hp.drop n } o.dst x))))
  | .fresh e size=>eH (bZ (AV.bx s.hp) args).1 (∃els:List AV,CU C.P f (bZ (AV.bx s.hp) args).2 e size els∧next (AS.put { s with hp:=s.hp++[.aF e size els] } o.dst (.own s.hp.length els.length)))
  | .fU l=>vy C (gb s.hp 100 [] args) l f args o s next)
 |none=>tZ C o s next
def sx (nt:Nat):Option Nat→Bool
 |none=>true
 |some d=>Nat.blt d nt
theorem fF {nt:Nat} {d:Option Nat} (h:sx nt d=true):cw nt d:=by
 cases d with
 |none=>trivial
 |some d=>exact Nat.le_of_ble_eq_true (show Nat.ble (d+1) nt=true from h)
def QC (tab:Nat→Option TD) (hp:List af) (ρ:Operand→AV):Op→Option (List Prop×AV×List af)
 | .call c=>(match c.callee,c.args.toList,c.argTypes.toList with
  | .builtin .append,[b,x],[T,T']=>if T=T' then(match tab T with
   |some d=>(match d.kind with
    | .iu e=>(match tab e,(ρ x).jm hp with
     |some d',some (cs,av)=>if 0<d'.size then(match ρ b with
      | .clip []=>some (cs++[bz d' (([]:List AV).length+av.length) [] av],.own hp.length ([]++av).length,hp++[.aF e d'.size ([]++av)])
      |_=>none) else none
     |_,_=>none)
    |_=>none)
   |none=>none) else none
  |_,_,_=>none)
 |_=>none
theorem Mh {Γ:Env Unit} {s:AS Unit} (aq:Γ.Ok) {tab:Nat→Option TD} (ah:aL Γ.P tab) {o:Oper} {cs:List Prop} {r:AV} {hp':List af} (h:QC tab s.hp s.ev o.op=some (cs,r,hp')) (hc:dw cs):eA Γ o s r hp':=by
 generalize ho:o.op=op at h
 unfold QC at h
 split at h
 ·split at h
  ·rename_i c b x T T' xD ax ft
   split at h
   ·rename_i heq
    subst heq
    split at h
    ·rename_i d hd
     split at h
     ·rename_i e hk
      split at h
      ·rename_i d' cs' av cM hx
       split at h
       ·rename_i bE
        split at h
        ·rename_i hb
         simp only[Option.some.injEq,Prod.mk.injEq] at h
         obtain⟨rfl,rfl,rfl⟩:=h
         rw[bq] at hc
         exact xq aq ah ho xD ax ft hd hk cM (eM hx hc.1) (els:=[]) (.inr hb) bE (fun _=>rfl) hc.2.1
        ·cases h
       ·cases h
      ·cases h
     ·cases h
    ·cases h
   ·cases h
  ·cases h
 ·cases h
def C4 (C:ck) (o:Oper) (s:AS Unit) (next:AS Unit→Prop):Option Prop:=
 match mB s o.op with
 |some (f,args)=>(match C.ext.1 f with
  |some x=>(match Qh x s.hp args with
   |some (r,hp')=>some (next (AS.put { s with hp:=hp' } o.dst r))
   |none=>none)
  |none=>none)
 |none=>none
theorem FZ {C:ck} {Γ:Env Unit} (aq:Γ.Ok) (hP:C.P=Γ.P) {o:Oper} {s:AS Unit} {next:AS Unit→Prop} {p:Prop} (h:C4 C o s next=some p) (hp:p):∃r hp',eA Γ o s r hp'∧next (AS.put { s with hp:=hp' } o.dst r):=by
 unfold C4 at h
 split at h
 ·rename_i f args ax
  split at h
  ·rename_i x hx
   split at h
   ·rename_i r hp' hr
    obtain rfl:=Option.some.inj h
    have hX:=C.ext.2 f x hx
    rw[hP] at hX
    rw[ij] at ax
    unfold iD at ax
    split at ax
    ·rename_i c hc
     split at ax
     ·rename_i y hy
      split at ax
      ·rename_i f' caps cS
       simp only[Option.some.injEq,Prod.mk.injEq] at ax
       obtain⟨rfl,rfl⟩:=ax
       exact⟨r,hp',CV aq hX hc hy cS hr,hp⟩
      ·cases ax
     ·cases ax
    ·cases ax
   ·cases h
  ·cases h
 ·cases h
def Po (C:ck) (o:Oper) (s:AS Unit) (next:AS Unit→Prop):Option Prop:=
 match C.mt with
 |true=>(match QC C.tab s.hp s.ev o.op with
  |some (cs,r,hp')=>some (eH cs (next (AS.put { s with hp:=hp' } o.dst r)))
  |none=>none)
 |false=>none
def WG:List Nat→Nat→Bool
 | [],_=>false
 |x::l,k=>(match Nat.beq x k with
  |true=>true
  |false=>WG l k)
def WH (mk:Bool) (tab:Nat→Option TD) (hp:List af) (ρ:Operand→AV):Op→Option (List Prop×AV×List af)
 | .buildSlice T n parts=>(match mk,mA tab T with
  |true,some (e,_,d')=>if((n=parts.toList.length∧pd 0 parts.toList=true∧n≤16777216∧n*d'.size≤16777216)∧zO d'.size (bZ (AV.bx hp) (parts.toList.map fun p=>ρ p.2)).2=true)∧0<n∧0<d'.size then
    some ((bZ (AV.bx hp) (parts.toList.map fun p=>ρ p.2)).1,.own hp.length n,hp++[.row e d'.size (bZ (AV.bx hp) (parts.toList.map fun p=>ρ p.2)).2]) else none
  |_,_=>none)
 |_=>none
theorem QD {Γ:Env Unit} {s:AS Unit} (aq:Γ.Ok) {tab:Nat→Option TD} (ah:aL Γ.P tab) {mk:Bool} {o:Oper} {cs:List Prop} {r:AV} {hp':List af} (h:WH mk tab s.hp s.ev o.op=some (cs,r,hp')) (hc:dw cs):eA Γ o s r hp':=by
 generalize ho:o.op=op at h
 unfold WH at h
 split at h
 ·split at h
  ·rename_i T n parts _ _ e d d' hs
   split at h
   ·rename_i nR
    simp only[Option.some.injEq,Prod.mk.injEq] at h
    obtain⟨rfl,rfl,rfl⟩:=h
    obtain⟨hd,hk,cM⟩:=tV hs
    have hm:=bI (g:=AV.bh s.hp) (fun x=>cE) (parts.toList.map fun p=>s.ev p.2) hc
    obtain⟨⟨⟨h1,h2,h3,h4⟩,h5⟩,h6,h7⟩:=nR
    have hl:=tN h5
    rw[←hm,List.map_map] at hl ⊢
    exact vw aq ah ho hd hk cM h1 h6 h7 h2 h3 h4 hl
   ·cases h
  ·cases h
 ·cases h
def Iu (C:ck) (o:Oper) (s:AS Unit) (next:AS Unit→Prop):Option Prop:=
 match C.dh with
 |some l=>(match qOp (match o.dst with|some d=>WG l d|none=>false) C.tab s.hp s.ev o.op with
  |some (cs,r,hp')=>some (eH cs (next (AS.put { s with hp:=hp' } o.dst r)))
  |none=>(match WH (match o.dst with|some d=>WG l d|none=>false) C.tab s.hp s.ev o.op with
   |some (cs,r,hp')=>some (eH cs (next (AS.put { s with hp:=hp' } o.dst r)))
   |none=>none))
 |none=>none
theorem Af:∀{l:List Prop},dw l→∀p∈l,p
 |c::l,h,p,hp=>by
  rcases List.mem_cons.1 hp with rfl|hp
  ·exact h.1
  ·exact Af h.2 p hp
def fV (C:ck) (o:Oper) (s:AS Unit) (next:AS Unit→Prop):Prop:=
 match sx C.nt o.dst with
 |false=>False
 |true=>(match CO C.tab s.ev o.op with
  |some (els,b0)=>∀b:Bool,(els≠[]→b=!b0)→next (s.put o.dst (.ae (.bool b)))
  |none=>(match Iu C o s next with
   |some p=>p
   |none=>(match P9 C.tab s.ev o.op with
   |some r=>next (s.put o.dst r)
   |none=>(match FY C.tab C.Hl s.hp s.ev o.op (fun r=>next (s.put o.dst r)) with
    |some p=>p
    |none=>(match Po C o s next with
     |some p=>p
     |none=>(match Ih C.tab s.hp s.ev o.op with
      |some (cs,r,hp')=>eH cs (next (AS.put { s with hp:=hp' } o.dst r))
      |none=>(match Aa C.tab s.hp s.ev o.op (fun r hp'=>next (AS.put { s with hp:=hp' } o.dst r)) with
      |some p=>p
      |none=>(match C4 C o s next with
       |some p=>p
       |none=>(match Qj C.tab s.ev o.op with
        |some r=>next (s.put o.dst r)
        |none=>Pn C o s next)))))))))
variable {Γ:Env Unit} {s s':AS Unit} {a:Act} {w w':World} {η:List Value} {hp:List af}
theorem tZ.sound {C:ck} (aq:Γ.Ok) (hP:C.P=Γ.P) {o:Oper} (hd:cw Γ.nt o.dst) {next K:AS Unit→Prop} (h:tZ C o s next) (hn:∀s,next s→K s):bn Γ o s K:=by
 unfold tZ at h
 split at h
 ·rename_i f args ax
  unfold EF at ax
  split at ax
  ·rename_i c hc
   split at ax
   ·rename_i x hx
    split at ax
    ·rename_i f' fst cS
     simp only[Option.some.injEq,Prod.mk.injEq] at ax
     obtain⟨rfl,rfl⟩:=ax
     split at h
     ·unfold vy at h
      obtain⟨hb,h⟩:=bD h
      rw[bg] at h
      obtain⟨eS,R,g1,g2⟩:=h
      rename_i l _
      generalize gb s.hp 100 [] (fst++List.map s.ev c.args.toList)=js at *
      have ax:=bI (g:=AV.C2 js s.hp) (fun x=>tX) _ eS
      rw[hP] at g1
      have nZ:=vy.RM (R:=fun r h'=>R r h'∧rB js r h'=true) hb (g1.mono fun r h' hr=>⟨hr,(bD (fE (g2 r h' hr))).1⟩) (fun r h' hr=>hr.2)
      exact bn.Ss aq hc hx cS nZ (fun a w η us hr h=>by rw[←ax];exact pG hr _ _ us h) hd fun r hp' hr=>by
       obtain⟨r',h',hr,rfl,rfl⟩:=hr
       exact hn _ (bD (fE (g2 r' h' hr.1))).2
     ·exact h.elim
    ·cases ax
   ·cases ax
  ·cases ax
 ·exact h.elim
theorem It.sound {C:ck} (aq:Γ.Ok) (hP:C.P=Γ.P) {sh:Sh} {l:List Nat} {o:Oper} (hd:cw Γ.nt o.dst) {next K:AS Unit→Prop} (h:It C sh l o s next) (hn:∀s,next s→K s):bn Γ o s K:=by
 unfold It at h
 rw[bg] at h
 obtain⟨hc,h⟩:=h
 have hw:=py (Γ:=Γ) aq l s hc
 intro a w η Kc Qc hk hr
 obtain⟨lY,kO⟩:=hw a w η hr
 refine(?_:bn Γ o (jn l s).2 K) a w lY Kc Qc hk kO
 split at h
 ·rename_i f args ax
  rw[ij] at ax
  unfold iD at ax
  split at ax
  ·rename_i c hc
   split at ax
   ·rename_i x hx
    split at ax
    ·rename_i f' caps cS
     simp only[Option.some.injEq,Prod.mk.injEq] at ax
     obtain⟨rfl,rfl⟩:=ax
     rw[bg] at h
     obtain⟨eS,h⟩:=h
     obtain⟨x',sP,ua⟩:=oH h
     rw[←bI (g:=AV.bh (jn l s).2.hp) (fun x=>cE) _ eS,hP] at sP
     exact bn.pure aq hc hx cS sP hd fun r hr=>by rw[hr];exact hn _ ua
    ·cases ax
   ·cases ax
  ·cases ax
 ·exact h.elim
theorem fV.sound {C:ck} (aq:Γ.Ok) (hP:C.P=Γ.P) (ah:aL Γ.P C.tab) (cC:C.nt=Γ.nt) {o:Oper} {next K:AS Unit→Prop} (h:fV C o s next) (hn:∀s,next s→K s):bn Γ o s K:=by
 unfold fV at h
 split at h
 ·exact h.elim
 rename_i hd
 have hd:=fF hd
 rw[cC] at hd
 split at h
 ·rename_i els b0 hx
  exact bn.nil ah hx hd fun b hb=>hn _ (h b hb)
 split at h
 ·rename_i p hp
  unfold Iu at hp
  split at hp
  ·split at hp
   ·rename_i cs r hp' hm
    obtain rfl:=Option.some.inj hp
    rw[bg] at h
    exact bn.zB (Qo aq ah hm h.1) hd (hn _ h.2)
   ·split at hp
    ·rename_i cs r hp' hm
     obtain rfl:=Option.some.inj hp
     rw[bg] at h
     exact bn.zB (QD aq ah hm h.1) hd (hn _ h.2)
    ·cases hp
  ·cases hp
 split at h
 ·rename_i r hx
  exact bn.val aq (CN ah hx) hd (hn _ h)
 split at h
 ·rename_i p hp
  obtain⟨c,r,h1,h2,h3⟩:=sO hp h
  exact bn.val aq (oA aq ah h1 h2) hd (hn _ h3)
 split at h
 ·rename_i p hp
  unfold Po at hp
  split at hp
  ·split at hp
   ·rename_i cs r hp' hm
    obtain rfl:=Option.some.inj hp
    rw[bg] at h
    exact bn.zB (Mh aq ah hm h.1) hd (hn _ h.2)
   ·cases hp
  ·cases hp
 split at h
 ·rename_i cs r hp' hs
  rw[bg] at h
  exact bn.zB (Im aq ah hs (Af h.1)) hd (hn _ h.2)
 split at h
 ·rename_i p hp
  obtain⟨c,r,hp',h1,h2,h3⟩:=nz hp h
  exact bn.zB (fY aq ah h1 h2) hd (hn _ h3)
 split at h
 ·rename_i p hp
  obtain⟨r,hp',h1,h2⟩:=FZ aq hP hp h
  exact bn.zB h1 hd (hn _ h2)
 split at h
 ·rename_i r hx
  exact bn.val aq (CX ah hx) hd (hn _ h)
 unfold Pn at h
 split at h
 ·rename_i f args ax
  rw[ij] at ax
  unfold iD at ax
  split at ax
  ·rename_i c hc
   split at ax
   ·rename_i x hx
    split at ax
    ·rename_i f' caps cS
     simp only[Option.some.injEq,Prod.mk.injEq] at ax
     obtain⟨rfl,rfl⟩:=ax
     split at h
     ·rw[bg] at h
      obtain⟨eS,h⟩:=h
      obtain⟨x',sP,ua⟩:=oH h
      rw[←bI (g:=AV.bh s.hp) (fun x=>cE) _ eS,hP] at sP
      exact bn.pure aq hc hx cS sP hd fun r hr=>by rw[hr];exact hn _ ua
     ·rw[bg] at h
      obtain⟨eS,sP,ua⟩:=h
      rw[←bI (g:=AV.bh s.hp) (fun x=>cE) _ eS] at sP ua
      rw[hP] at sP
      exact bn.pure aq hc hx cS sP hd fun r hr=>by rw[hr];exact hn _ ua
     ·exact h.elim
     ·exact It.sound aq hP hd h hn
     ·rw[bg] at h
      obtain⟨eS,R,sP,ua⟩:=h
      rw[←bI (g:=AV.bh s.hp) (fun x=>cE) _ eS,hP] at sP
      exact bn.pure aq hc hx cS sP hd fun r hr=>hn _ (qM (ua r hr))
     ·rw[bg] at h
      obtain⟨eS,R,sP,ua⟩:=h
      have ax:=bI (g:=AV.oF 0 s.hp) (fun x=>mC) _ eS
      rw[hP] at sP
      exact bn.St aq hc hx cS sP (fun a w η us hr h=>by rw[←ax];exact ky hr _ us h) hd fun r hr=>hn _ (qM (ua r hr))
     ·rename_i n l SH
      obtain⟨hb,h⟩:=bD h
      rw[bg] at h
      obtain⟨eS,R,g1,g2⟩:=h
      rw[Bool.and_eq_true] at hb
      have ax:=bI (g:=AV.oF (s.hp.take n).length s.hp) (fun x=>mC) _ eS
      rw[hP] at g1
      have nZ:=bJ.frame (more:=s.hp.drop n) (R:=fun r h'=>R r h'∧h'.length=(s.hp.take n).length) (g1.mono fun r h' hr=>⟨hr,Nat.eq_of_beq_eq_true (bD (fE (g2 r h' hr))).1⟩) (fun r h' hr=>hr.2) hb.1 hb.2
      rw[List.take_append_drop] at nZ
      exact bn.HY aq hc hx cS nZ (fun a w η us hr h=>by rw[←ax];exact zT hr _ _ us h) hd fun r hp' hr=>by
       obtain⟨h',rfl,hr,_⟩:=hr
       exact hn _ (bD (fE (g2 r h' hr))).2
     ·rw[bg] at h
      obtain⟨eS,els,sP,ua⟩:=h
      rw[←bI (g:=AV.bh s.hp) (fun x=>cE) _ eS,hP] at sP
      exact bn.fresh aq hc hx cS sP hd (hn _ ua)
     ·unfold vy at h
      obtain⟨hb,h⟩:=bD h
      rw[bg] at h
      obtain⟨eS,R,g1,g2⟩:=h
      rename_i l _
      generalize gb s.hp 100 [] (List.map s.ev c.args.toList++caps)=js at *
      have ax:=bI (g:=AV.C2 js s.hp) (fun x=>tX) _ eS
      rw[hP] at g1
      have nZ:=vy.RM (R:=fun r h'=>R r h'∧rB js r h'=true) hb (g1.mono fun r h' hr=>⟨hr,(bD (fE (g2 r h' hr))).1⟩) (fun r h' hr=>hr.2)
      exact bn.HY aq hc hx cS nZ (fun a w η us hr h=>by rw[←ax];exact pG hr _ _ us h) hd fun r hp' hr=>by
       obtain⟨r',h',hr,rfl,rfl⟩:=hr
       exact hn _ (bD (fE (g2 r' h' hr.1))).2
    ·cases ax
   ·cases ax
  ·cases ax
 ·exact tZ.sound aq hP hd h hn
def KG (l:List Oper) (o:Oper) (s:AS Unit) (run skip:AS Unit→Prop):Prop:=
 match o.guard with
 |none=>run s
 |some (j,want)=>(match (l[j]?).bind (·.dst) with
  |some d=>(match s.tmps d with
   | .ae (.bool b)=>ak b (match want with|true=>run (s.put (some d) (.ae (.bool true)))|false=>skip (s.put (some d) (.ae (.bool true))))
     (match want with|true=>skip (s.put (some d) (.ae (.bool false)))|false=>run (s.put (some d) (.ae (.bool false))))
   | .ae (.tuple _)=>skip s
   |_=>False)
  |none=>False)
theorem Ag {d:Nat} {x:AV} (h:s.tmps d=x):s.put (some d) x=s:=by
 cases s with
 |mk f hp g=>
  simp only[AS.put]
  congr 1
  funext t
  rw[eF]
  split
  ·rename_i ht;subst ht;exact h.symm
  ·rfl
theorem KG.cases {l:List Oper} {o:Oper} {run skip:AS Unit→Prop} (h:KG l o s run skip):
  (o.guard=none∧run s)∨(∃j want b,o.guard=some (j,want)∧gA l.toArray s j=some (some b)∧((b=want∧run s)∨(¬b=want∧skip s)))∨(∃j want,o.guard=some (j,want)∧gA l.toArray s j=some none∧skip s):=by
 unfold KG at h
 split at h
 ·rename_i hg;exact .inl ⟨hg,h⟩
 ·rename_i j want hg
  split at h
  ·rename_i d hd
   split at h
   ·rename_i b hb
    refine .inr (.inl ⟨j,want,b,hg,?_,?_⟩)
    ·unfold gA
     simp only[List.getElem?_toArray,hd,hb]
    ·have:=h.elim
     cases b with
     |true=>
      have h1:=this.1 rfl
      rw[Ag hb] at h1
      cases want with
      |true=>exact .inl ⟨rfl,h1⟩
      |false=>exact .inr ⟨by simp,h1⟩
     |false=>
      have h1:=this.2 rfl
      rw[Ag hb] at h1
      cases want with
      |true=>exact .inr ⟨by simp,h1⟩
      |false=>exact .inl ⟨rfl,h1⟩
   ·rename_i v hb
    refine .inr (.inr ⟨j,want,hg,?_,h⟩)
    unfold gA
    simp only[List.getElem?_toArray,hd,hb]
   ·exact h.elim
  ·exact h.elim
def pH (C:ck) (l0:List Oper) (K:AS Unit→Prop):List Oper→AS Unit→Prop
 | [],s=>K s
 |o::rest,s=>KG l0 o s (fun s=>fV C o s (pH C l0 K rest)) (fun s=>match sx C.nt o.dst with|true=>pH C l0 K rest (s.put o.dst (.ae (.tuple #[])))|false=>False)
theorem pH.Iv {C:ck} (aq:Γ.Ok) (hP:C.P=Γ.P) (ah:aL Γ.P C.tab) (cC:C.nt=Γ.nt) {l0 rest:List Oper} {K K':AS Unit→Prop} (hK:∀s,K' s→eY Γ l0.toArray K rest s):∀(l:List Oper) (s:AS Unit),pH C l0 K' l s→eY Γ l0.toArray K (l++rest) s:=by
 intro l
 induction l with
 |nil=>intro s h;exact hK s h
 |cons o l ih=>
  intro s h
  have skip:(match sx C.nt o.dst with|true=>pH C l0 K' l (s.put o.dst (.ae (.tuple #[])))|false=>False)→cw Γ.nt o.dst∧eY Γ l0.toArray K (l++rest) (s.put o.dst (.ae (.tuple #[]))):=by
   intro h
   split at h
   ·rename_i hd
    exact⟨by rw[←cC];exact fF hd,ih _ h⟩
   ·exact h.elim
  rw[List.cons_append]
  rcases KG.cases h with⟨hg,h⟩|⟨j,want,b,hg,hb,⟨gq,h⟩|⟨gq,h⟩⟩|⟨j,want,hg,hb,h⟩
  ·exact eY.step (fun a w η _=>by simp[Region.wanted,hg]) (fV.sound aq hP ah cC h ih)
  ·exact eY.step (fun a w η hr=>by simp[Region.wanted,hg,dj hr hb,gq]) (fV.sound aq hP ah cC h ih)
  ·obtain⟨h1,h2⟩:=skip h
   exact eY.skip (fun a w η hr=>by simp[Region.wanted,hg,dj hr hb,gq]) h1 h2
  ·obtain⟨h1,h2⟩:=skip h
   exact eY.skip (fun a w η hr=>by simp[Region.wanted,hg,dj hr hb]) h1 h2
theorem pH.sound {C:ck} (aq:Γ.Ok) (hP:C.P=Γ.P) (ah:aL Γ.P C.tab) (cC:C.nt=Γ.nt) {l0:List Oper} {K:AS Unit→Prop} (l:List Oper) (s:AS Unit) (h:pH C l0 K l s):eY Γ l0.toArray K l s:=by
 have:=pH.Iv aq hP ah cC (rest:=[]) (fun s h a w η Qc hQ hr=>hQ s a w η h hr) l s h
 rwa [List.append_nil] at this
def ub (x:Operand) (d:Nat):Bool:=
 match x with
 | .tmp t=>Nat.beq t d
 |_=>false
theorem uc {x:Operand} {d:Nat} (h:ub x d=true):x=.tmp d:=by
 unfold ub at h
 split at h
 ·rw[Nat.eq_of_beq_eq_true h]
 ·cases h
def Zm (C:ck) (s:AS Unit) (o:Oper):Option (Nat×Nat×TD×Int×Nat):=
 match o.guard,o.op,o.dst with
 |none,.call c,some d1=>(match c.callee,c.args.toList,c.argTypes.toList with
  | .builtin .append,[b,z],[T,T']=>(match s.ev b,s.ev z,mA C.tab T,(C.tab T').map TD.kind with
   | .ae (.slice none 0 0),.ae (.int .i64 n),some (e,_,d'),some (.int _)=>some (T,e,d',n,d1)
   |_,_,_,_=>none)
  |_,_,_=>none)
 |_,_,_=>none
def Zn (s:AS Unit) (o:Oper) (d1:Nat):Option Nat:=
 match o.guard,o.op,o.dst with
 |none,.move x,some d2=>(match s.ev x,ub x d1 with
  | .ae (.slice none 0 0),false=>some d2
  |_,_=>none)
 |_,_,_=>none
def Zo (o:Oper) (T d2:Nat):Option Nat:=
 match o.guard,o.op,o.dst with
 |none,.call c,some d3=>(match c.callee,c.args.toList,c.argTypes.toList with
  | .builtin .len,[x],[T3]=>(match ub x d2&&Nat.beq T3 T with
   |true=>some d3
   |false=>none)
  |_,_,_=>none)
 |_,_,_=>none
def Zp (o:Oper) (T d1 d3:Nat):Option Nat:=
 match o.guard,o.op,o.dst with
 |none,.slice T4 x none (some y) none,some d4=>(match Nat.beq T4 T&&(ub x d1&&ub y d3) with
  |true=>some d4
  |false=>none)
 |_,_,_=>none
def Zq (nt d1 d2 d3 d4:Nat) (d:TD):Bool:=(Nat.blt d1 nt&&(Nat.blt d2 nt&&(Nat.blt d3 nt&&Nat.blt d4 nt)))&&((!Nat.beq d1 d2&&!Nat.beq d1 d3)&&Nat.blt 0 d.size)
def Ah (C:ck) (l0:List Oper) (K:AS Unit→Prop) (s:AS Unit):List Oper→Prop
 |o1::o2::o3::o4::rest=>(match Zm C s o1 with
  |some (T,e,d',n,d1)=>(match Zn s o2 d1 with
   |some d2=>(match Zo o3 T d2 with
    |some d3=>(match Zp o4 T d1 d3 with
     |some d4=>okB (Zq C.nt d1 d2 d3 d4 d') ((0<n∧n.toNat≤maxLen∧n.toNat*d'.bytes≤140737488355328)∧
       pH C l0 K rest (AS.put (AS.put (AS.put (AS.put { s with hp:=s.hp++[.row e d'.size []] } (some d1) .top) (some d2) (.ae (.slice none 0 0))) (some d3) (.ae (.int .i64 0))) (some d4) (.own s.hp.length 0)))
     |none=>False)
    |none=>False)
   |none=>False)
  |none=>False)
 |_=>False
theorem Ah.sound {C:ck} (aq:Γ.Ok) (hP:C.P=Γ.P) (ah:aL Γ.P C.tab) (cC:C.nt=Γ.nt) {l0:List Oper} {K:AS Unit→Prop} {l:List Oper} {s:AS Unit} (h:Ah C l0 K s l):eY Γ l0.toArray K l s:=by
 unfold Ah at h
 split at h
 ·rename_i o1 o2 o3 o4 rest
  split at h
  ·rename_i T e d' n d1 h1
   split at h
   ·rename_i d2 h2
    split at h
    ·rename_i d3 h3
     split at h
     ·rename_i d4 h4
      obtain⟨hb,⟨hn,hm,Cp⟩,Eo⟩:=bD h
      unfold Zq at hb
      simp only[Bool.and_eq_true,Bool.not_eq_true'] at hb
      obtain⟨⟨l1,l2,l3,l4⟩,⟨Wo,Wp⟩,bE⟩:=hb
      have al:∀{d:Nat},Nat.blt d C.nt=true→d<Γ.nt:=fun h=>by rw[←cC];exact Nat.le_of_ble_eq_true h
      have bj:∀{x y:Nat},Nat.beq x y=false→x≠y:=fun h e=>by subst e;rw[Nat.beq_refl] at h;cases h
      obtain⟨m,rfl⟩:∃m:Nat,n=(m:Int):=⟨n.toNat,by omega⟩
      rw[Int.toNat_natCast] at hm Cp
      unfold Zm at h1
      split at h1
      ·rename_i c1 d1' g1 p1 t1
       split at h1
       ·rename_i b z T1 T' xD ax ft
        split at h1
        ·rename_i dd ik mg Wn hs hT'
         simp only[Option.some.injEq,Prod.mk.injEq] at h1
         obtain⟨rfl,rfl,rfl,rfl,rfl⟩:=h1
         obtain⟨q1,q2,q3⟩:=tV hs
         obtain⟨dz,q4,q5⟩:=Option.map_eq_some_iff.1 hT'
         unfold Zn at h2
         split at h2
         ·rename_i x d2' g2 p2 t2
          split at h2
          ·rename_i hx VG
           obtain rfl:=Option.some.inj h2
           unfold Zo at h3
           split at h3
           ·rename_i c3 d3' g3 p3 t3
            split at h3
            ·rename_i y T3 SI QE WI
             split at h3
             ·rename_i Sd
              obtain rfl:=Option.some.inj h3
              rw[Bool.and_eq_true] at Sd
              have ey:=uc Sd.1
              have eT:=Nat.eq_of_beq_eq_true Sd.2
              subst ey;subst eT
              unfold Zp at h4
              split at h4
              ·rename_i T4 x4 y4 d4' g4 p4 t4
               split at h4
               ·rename_i VK
                obtain rfl:=Option.some.inj h4
                simp only[Bool.and_eq_true] at VK
                have e1:=uc VK.2.1
                have e2:=uc VK.2.2
                have e3:=Nat.eq_of_beq_eq_true VK.1
                subst e1;subst e2;subst e3
                exact eY.room aq ah (n:=m) g1 g2 g3 g4 p1 xD (by rw[←Array.toArray_toList (xs:=c1.args),ax]) (by rw[←Array.toArray_toList (xs:=c1.argTypes),ft]) q1 q2 q3 q4 q5 (Nat.le_of_ble_eq_true bE) mg Wn (by omega) hm Cp
                 p2 hx (fun e=>by rw[e] at VG;simp[ub] at VG) p3 SI (by rw[←Array.toArray_toList (xs:=c3.args),QE]) (by rw[←Array.toArray_toList (xs:=c3.argTypes),WI]) p4 t1 t2 t3 t4 (al l1) (al l2) (al l3) (al l4) (bj Wo) (bj Wp) (pH.sound aq hP ah cC _ _ Eo)
               ·cases h4
              ·cases h4
             ·cases h3
            ·cases h3
           ·cases h3
          ·cases h2
         ·cases h2
        ·cases h1
       ·cases h1
      ·cases h1
     ·exact h.elim
    ·exact h.elim
   ·exact h.elim
  ·exact h.elim
 ·exact h.elim
def SJ:List (Nat×Nat)→Nat→Option Nat
 | [],_=>none
 |p::l,k=>(match Nat.beq p.1 k with
  |true=>some p.2
  |false=>SJ l k)
def Ai (C:ck) (id:Nat) (l:List Oper) (K:AS Unit→Prop) (s:AS Unit):Prop:=
 match SJ C.rm id with
 |none=>pH C l K l s
 |some k=>pH C l (fun s=>Ah C l K s (l.drop k)) (l.take k) s
theorem Ai.sound {C:ck} (aq:Γ.Ok) (hP:C.P=Γ.P) (ah:aL Γ.P C.tab) (cC:C.nt=Γ.nt) {id:Nat} {K:AS Unit→Prop} {l:List Oper} {s:AS Unit} (h:Ai C id l K s):eY Γ l.toArray K l s:=by
 unfold Ai at h
 split at h
 ·exact pH.sound aq hP ah cC l s h
 ·rename_i k _
  have:=pH.Iv aq hP ah cC (rest:=l.drop k) (fun s h=>Ah.sound aq hP ah cC h) _ _ h
  rwa [List.take_append_drop] at this
def iI (C:ck) (o:Oper) (s:AS Unit) (next:AS Unit→Prop):Prop:=
 match FY C.tab C.Hl s.hp s.ev o.op (fun r=>next (s.put o.dst r)) with
 |some p=>p
 |none=>(match mB s o.op with
  |some (f,args)=>(match Ac C f o with
   | .one sh=>eH (bZ (AV.bx s.hp) args).1 (Qr [] sh fun x=>ag C.P f (bZ (AV.bx s.hp) args).2 x∧next (s.put o.dst x))
   |_=>False)
  |none=>False)
theorem iI.sound {C:ck} (hP:C.P=Γ.P) {o:Oper} {next N R:AS Unit→Prop} (h:iI C o s next) (h1:∀s,next s→N s) (h2:∀s,next s→R s):DStep Γ C.tab o s N R:=by
 unfold iI at h
 split at h
 ·rename_i p hp
  obtain⟨c,r,g1,g2,g3⟩:=sO hp h
  unfold DStep
  rw[g1]
  exact⟨g2,h1 _ g3⟩
 ·split at h
  ·rename_i f args ax
   split at h
   rotate_left
   ·exact h.elim
   rw[bg] at h
   obtain⟨eS,h⟩:=h
   obtain⟨x',sP,ua⟩:=oH h
   rw[←bI (g:=AV.bh s.hp) (fun x=>cE) _ eS,hP] at sP
   rw[ij] at ax
   unfold iD at ax
   split at ax
   ·rename_i c hc
    split at ax
    ·rename_i x hx
     split at ax
     ·rename_i f' caps cS
      simp only[Option.some.injEq,Prod.mk.injEq] at ax
      obtain⟨rfl,rfl⟩:=ax
      unfold DStep
      rw[hc]
      have LR:bk C.tab s.hp s.ev (.call c)=none:=by simp only[bk,hx]
      have qG:dO s (.call c)=some (f',(c.args.toList.map s.ev++caps).map (AV.bh s.hp)):=by simp only[dO,hx,cS]
      rw[LR,qG]
      exact⟨x',sP,h2 _ ua⟩
     ·cases ax
    ·cases ax
   ·cases ax
  ·exact h.elim
def pJ (C:ck) (l0:List Oper) (K:AS Unit→Prop):List Oper→AS Unit→Prop
 | [],s=>K s
 |o::rest,s=>(match sx C.nt o.dst with
  |false=>False
  |true=>(match bL o.op with
   |true=>(match o.guard with
    |none=>(match Aa C.tab s.hp s.ev o.op (fun r hp'=>pJ C l0 K rest (AS.put { s with hp:=hp' } o.dst r)) with
     |some p=>p
     |none=>False)
    |some _=>False)
   |false=>KG l0 o s (fun s=>iI C o s (pJ C l0 K rest)) (fun s=>pJ C l0 K rest (s.put o.dst (.ae (.tuple #[]))))))
theorem pJ.sound {C:ck} (aq:Γ.Ok) (hP:C.P=Γ.P) (ah:aL Γ.P C.tab) (cC:C.nt=Γ.nt) {l0:List Oper} {K:AS Unit→Prop}:∀(l:List Oper) (s:AS Unit),pJ C l0 K l s→kg Γ C.tab C.nt l0.toArray K l s:=by
 intro l
 induction l with
 |nil=>intro s h;exact h
 |cons o rest ih=>
  intro s h
  simp only[pJ] at h
  simp only[kg]
  split at h
  ·exact h.elim
  rename_i hd
  have hd:=fF hd
  split at h
  ·rename_i he
   rw[if_pos he]
   split at h
   ·rename_i hg
    split at h
    ·rename_i p hp
     obtain⟨c,r,hp',g1,g2,g3⟩:=nz hp h
     rw[g1]
     exact⟨hd,hg,g2,ih _ g3⟩
    ·exact h.elim
   ·exact h.elim
  ·rename_i he
   rw[if_neg (by rw[he];simp)]
   refine⟨hd,?_⟩
   have kx:∀s,pJ C l0 K rest s→qI Γ l0.toArray K rest s:=fun s h=>kg.sound aq ah cC rest s (ih s h)
   rcases KG.cases h with⟨hg,h⟩|⟨j,want,b,hg,hb,⟨gq,h⟩|⟨gq,h⟩⟩|⟨j,want,hg,hb,h⟩
   ·rw[hg]
    exact iI.sound hP h ih kx
   ·rw[hg]
    dsimp only
    rw[hb]
    exact⟨fun _=>iI.sound hP h ih kx,fun hn=>(hn gq).elim⟩
   ·rw[hg]
    dsimp only
    rw[hb]
    exact⟨fun hn=>(gq hn).elim,fun _=>ih _ h⟩
   ·rw[hg]
    dsimp only
    rw[hb]
    exact ih _ h
def Mi (ρ:Operand→AV):Op→Option Nat
 | .store _ p _=>(match ρ p with | .ptr r _=>some r | .ea r _ _ _=>some r|_=>none)
 | .mapUpdate _ m _ _=>(match ρ m with | .mp r=>some r|_=>none)
 | .call c=>(match c.args.toList with
  |b::_=>(match ρ b with | .own r _=>some r|_=>none)
  | []=>none)
 |_=>none
theorem QF {tab:Nat→Option TD} {hp hp':List af} {ρ:Operand→AV} {op:Op} {c:Prop} {r:AV} (h:cO tab hp ρ op=some (c,r,hp')):
  (∃o,hp'=hp++[o])∨∃q o,Mi ρ op=some q∧hp'=hp.set q o:=by
 cases op with
 |alloc T=>
  simp only[cO] at h
  split at h
  ·simp only[Option.some.injEq,Prod.mk.injEq] at h;exact .inl ⟨_,h.2.2.symm⟩
  ·cases h
 |box T x=>
  simp only[cO] at h
  split at h
  ·simp only[Option.some.injEq,Prod.mk.injEq] at h;exact .inl ⟨_,h.2.2.symm⟩
  ·cases h
 |store T p x=>
  simp only[cO] at h
  split at h
  ·rename_i d r' o hd eG
   split at h
   ·split at h
    ·simp only[Option.some.injEq,Prod.mk.injEq] at h
     exact .inr ⟨r',_,by simp only[Mi,eG],h.2.2.symm⟩
    ·cases h
   ·cases h
  ·rename_i d r' m i z hd eG
   split at h
   ·split at h
    ·split at h
     ·simp only[Option.some.injEq,Prod.mk.injEq] at h
      exact .inr ⟨r',_,by simp only[Mi,eG],h.2.2.symm⟩
     ·simp only[Option.some.injEq,Prod.mk.injEq] at h
      exact .inr ⟨r',_,by simp only[Mi,eG],h.2.2.symm⟩
    ·cases h
   ·cases h
  ·cases h
 |makeSlice T l c=>
  simp only[cO] at h
  split at h
  ·split at h
   ·split at h
    ·split at h
     ·split at h
      ·simp only[Option.some.injEq,Prod.mk.injEq] at h;exact .inl ⟨_,h.2.2.symm⟩
      ·cases h
     ·cases h
    split at h
    ·simp only[Option.some.injEq,Prod.mk.injEq] at h;exact .inl ⟨_,h.2.2.symm⟩
    ·cases h
   ·cases h
  ·cases h
 |makeMap T x=>
  cases x with
  |some x=>simp[cO] at h
  |none=>
   simp only[cO] at h
   split at h
   ·split at h
    ·split at h
     ·split at h
      ·simp only[Option.some.injEq,Prod.mk.injEq] at h;exact .inl ⟨_,h.2.2.symm⟩
      ·simp only[Option.some.injEq,Prod.mk.injEq] at h;exact .inl ⟨_,h.2.2.symm⟩
     ·cases h
    ·cases h
   ·cases h
 |mapUpdate T m k x=>
  simp only[cO] at h
  split at h
  ·rename_i d r' a v hd hm hk hx
   split at h
   ·split at h
    ·split at h
     ·simp only[Option.some.injEq,Prod.mk.injEq] at h
      exact .inr ⟨r',_,by simp only[Mi,hm],h.2.2.symm⟩
     ·cases h
    ·cases h
   ·cases h
  ·rename_i d r' a v hd hm hk hx
   split at h
   ·split at h
    ·split at h
     ·simp only[Option.some.injEq,Prod.mk.injEq] at h
      exact .inr ⟨r',_,by simp only[Mi,hm],h.2.2.symm⟩
     ·cases h
    ·cases h
   ·cases h
  ·cases h
 |call c=>
  simp only[cO] at h
  split at h
  ·rename_i b x T T' hb hl hT
   split at h
   ·split at h
    ·split at h
     ·split at h
      ·split at h
       ·simp only[Option.some.injEq,Prod.mk.injEq] at h;exact .inl ⟨_,h.2.2.symm⟩
       ·simp only[Option.some.injEq,Prod.mk.injEq] at h;exact .inl ⟨_,h.2.2.symm⟩
       ·rename_i r' n mg
        split at h
        ·split at h
         ·simp only[Option.some.injEq,Prod.mk.injEq] at h
          exact .inr ⟨r',_,by simp only[Mi,hl,mg],h.2.2.symm⟩
         ·cases h
        ·split at h
         ·simp only[Option.some.injEq,Prod.mk.injEq] at h
          exact .inr ⟨r',_,by simp only[Mi,hl,mg],h.2.2.symm⟩
         ·cases h
        ·cases h
       ·cases h
      ·cases h
     ·cases h
    ·cases h
   ·cases h
  ·cases h
 |_=>simp[cO] at h
theorem ko.same (l:List Nat):∀(hp:List af) (q:Nat) (more:List af),ko l q hp (hp++more)
 | [],_,_=>True.intro
 |_::hp,q,more=>⟨.inr rfl,ko.same l hp (q+1) more⟩
theorem ko.refl (l:List Nat) (hp:List af) (q:Nat):ko l q hp hp:=by
 have:=ko.same l hp q []
 rwa [List.append_nil] at this
theorem ko.set (l:List Nat):∀(hp:List af) (q r:Nat) (o:af),q+r∈l→ko l q hp (hp.set r o)
 | [],_,_,_,_=>True.intro
 |_::hp,q,0,o,h=>⟨.inl h,ko.refl l hp (q+1)⟩
 |_::hp,q,r+1,o,h=>⟨.inr rfl,ko.set l hp (q+1) r o (by rw[show q+1+r=q+(r+1) from by omega];exact h)⟩
def C5:List Nat→Nat→Bool
 | [],_=>false
 |x::l,k=>(match Nat.beq x k with|true=>true|false=>C5 l k)
theorem xG:∀{l:List Nat} {k:Nat},C5 l k=true→k∈l
 | [],_,h=>by cases h
 |x::l,k,h=>by
  simp only[C5] at h
  split at h
  ·rename_i hx;rw[Nat.eq_of_beq_eq_true hx];exact List.mem_cons_self
  ·exact List.mem_cons_of_mem _ (xG h)
def mF:List (Option (List Nat))→Nat→Option (List Nat)
 | [],_=>none
 |x::_,0=>x
 |_::l,n+1=>mF l n
theorem dH:∀(l:List (Option (List Nat))) (n:Nat),mF l n=l.getD n none
 | [],n=>by simp[mF]
 |x::l,0=>by simp[mF]
 |x::l,n+1=>by simp only[mF,dH l n,List.getD_cons_succ]
def Iw (m:Option (List Nat)) (ρ:Operand→AV) (op:Op):Bool:=
 match m with
 |none=>true
 |some l=>(match Mi ρ op with
  |none=>true
  |some q=>C5 l q)
theorem xH {tab:Nat→Option TD} {hp hp':List af} {ρ:Operand→AV} {op:Op} {c:Prop} {r:AV} {m:Option (List Nat)} (hb:Iw m ρ op=true) (h:cO tab hp ρ op=some (c,r,hp')):
  ∀l,m=some l→ko l 0 hp hp':=by
 intro l hm
 subst hm
 ·rcases QF h with⟨o,rfl⟩|⟨q,o,hq,rfl⟩
  ·exact ko.same l hp 0 [o]
  ·simp only[Iw,hq] at hb
   exact ko.set l hp 0 q o (by rw[Nat.zero_add];exact xG hb)
def dI (C:ck) (m:Option (List Nat)) (o:Oper) (s:AS Unit) (next:AS Unit→Prop):Prop:=
 match eL o.op with
 |true=>(match FY C.tab C.Hl s.hp s.ev o.op (fun r=>next (s.put o.dst r)) with
  |some p=>p
  |none=>False)
 |false=>(match m with
  |none=>iI C o s next
  |some K=>okB ((ny o.op).all fun x=>(s.ev x).closed (kill K s.hp).length) (okB ((kill K s.hp).all fun ob=>af.closed (kill K s.hp).length ob)
   (match FY C.tab C.Hl (kill K s.hp) s.ev o.op (fun r=>okB (r.held (kill K s.hp)) (next (s.put o.dst r))) with
   |some p=>p
   |none=>(match mB s o.op with
    |some (f,args)=>(match Ac C f o with
     | .one sh=>eH (bZ (AV.bx (kill K s.hp)) args).1 (Qr [] sh fun x=>ag C.P f (bZ (AV.bx (kill K s.hp)) args).2 x∧okB (x.held (kill K s.hp)) (next (s.put o.dst x)))
     |_=>False)
    |none=>False))))
theorem Aj {s:AS Unit} {op:Op} {f:Nat} {args:List AV} (h:mB s op=some (f,args)) (tab:Nat→Option TD) (hp:List af):
  bk tab hp s.ev op=none∧dO { s with hp:=hp } op=some (f,args.map (AV.bh hp)):=by
 rw[ij] at h
 unfold iD at h
 split at h
 ·rename_i c
  split at h
  ·rename_i x hx
   split at h
   ·rename_i f' caps cS
    simp only[Option.some.injEq,Prod.mk.injEq] at h
    obtain⟨rfl,rfl⟩:=h
    refine⟨by simp only[bk,hx],?_⟩
    have WJ:(AS.ev { s with hp:=hp } x)=.aS f' caps:=by rw[←cS];cases x<;>rfl
    have hm:c.args.toList.map (AS.ev { s with hp:=hp })=c.args.toList.map s.ev:=List.map_congr_left fun y _=>by cases y<;>rfl
    simp only[dO,hx,WJ,hm]
   ·cases h
  ·cases h
 ·cases h
theorem dI.sound {C:ck} (hP:C.P=Γ.P) {m:Option (List Nat)} {o:Oper} {next N R:AS Unit→Prop} (h:dI C m o s next) (h1:∀s,next s→N s) (h2:∀s,next s→R s):fC Γ C.tab m o s N R:=by
 unfold dI at h
 unfold fC
 split at h
 ·rename_i hh
  rw[if_pos hh]
  split at h
  ·rename_i p hp
   obtain⟨c,r,g1,g2,g3⟩:=sO hp h
   rw[g1]
   exact⟨g2,h1 _ g3⟩
  ·exact h.elim
 ·rename_i hh
  rw[if_neg (by rw[hh];simp)]
  cases m with
  |none=>exact iI.sound hP h h1 h2
  |some K=>
   dsimp only at h ⊢
   obtain⟨Lw,h⟩:=bD h
   obtain⟨Hb,h⟩:=bD h
   refine⟨Lw,fun ob cR=>List.all_eq_true.1 Hb ob cR,?_⟩
   split at h
   ·rename_i p hp
    obtain⟨c,r,g1,g2,g3⟩:=sO hp h
    obtain⟨g4,g5⟩:=bD g3
    rw[g1]
    exact⟨g2,g4,h1 _ g5⟩
   ·split at h
    ·rename_i f args ax
     split at h
     rotate_left
     ·exact h.elim
     rw[bg] at h
     obtain⟨eS,h⟩:=h
     obtain⟨x',sP,ua⟩:=oH h
     obtain⟨g4,g5⟩:=bD ua
     rw[←bI (g:=AV.bh (kill K s.hp)) (fun x=>cE) _ eS,hP] at sP
     obtain⟨q1,q2⟩:=Aj ax C.tab (kill K s.hp)
     rw[q1,q2]
     exact⟨x',sP,g4,h2 _ g5⟩
    ·exact h.elim
def pK (C:ck) (l0:List Oper) (Cl M:List (Option (List Nat))) (K:AS Unit→Prop):Nat→List Oper→AS Unit→Prop
 |_,[],s=>K s
 |k,o::rest,s=>(match sx C.nt o.dst with
  |false=>False
  |true=>(match bL o.op with
   |true=>(match o.guard with
    |none=>okB (Iw (mF Cl k) s.ev o.op) (match Aa C.tab s.hp s.ev o.op (fun r hp'=>pK C l0 Cl M K (k+1) rest (AS.put { s with hp:=hp' } o.dst r)) with
     |some p=>p
     |none=>False)
    |some _=>False)
   |false=>KG l0 o s (fun s=>dI C (mF M k) o s (pK C l0 Cl M K (k+1) rest)) (fun s=>pK C l0 Cl M K (k+1) rest (s.put o.dst (.ae (.tuple #[]))))))
theorem pK.sound {C:ck} (aar:Γ.Ok) (hP:C.P=Γ.P) (ah:aL Γ.P C.tab) (cC:C.nt=Γ.nt) {l0:List Oper} {Cl M:List (Option (List Nat))} {K:AS Unit→Prop}:∀(l:List Oper) (k:Nat) (s:AS Unit),pK C l0 Cl M K k l s→kq Γ C.tab C.nt l0.toArray Cl M K k l s:=by
 intro l
 induction l with
 |nil=>intro k s h;exact h
 |cons o rest ih=>
  intro k s h
  simp only[pK] at h
  simp only[kq]
  split at h
  ·exact h.elim
  rename_i hd
  have hd:=fF hd
  split at h
  ·rename_i he
   rw[if_pos he]
   split at h
   ·rename_i hg
    obtain⟨Ak,h⟩:=bD h
    split at h
    ·rename_i p hp
     obtain⟨c,r,hp',g1,g2,g3⟩:=nz hp h
     have:=xH Ak g1
     rw[dH] at this
     rw[g1]
     refine⟨hd,hg,g2,?_,ih _ _ g3⟩
     split
     ·trivial
     ·rename_i l hl;exact this l hl
    ·exact h.elim
   ·exact h.elim
  ·rename_i he
   rw[if_neg (by rw[he];simp)]
   refine⟨hd,?_⟩
   have kx:∀s,pK C l0 Cl M K (k+1) rest s→lN Γ l0.toArray Cl M K (k+1) rest s:=fun s h=>kq.sound ah cC rest (k+1) s (ih _ s h)
   rcases KG.cases h with⟨hg,h⟩|⟨j,want,b,hg,hb,⟨gq,h⟩|⟨gq,h⟩⟩|⟨j,want,hg,hb,h⟩
   ·rw[hg]
    dsimp only
    rw[dH] at h
    exact dI.sound hP h (ih _) kx
   ·rw[hg]
    dsimp only
    rw[hb]
    rw[dH] at h
    exact⟨fun _=>dI.sound hP h (ih _) kx,fun hn=>(hn gq).elim⟩
   ·rw[hg]
    dsimp only
    rw[hb]
    exact⟨fun hn=>(gq hn).elim,fun _=>ih _ _ h⟩
   ·rw[hg]
    dsimp only
    rw[hb]
    exact ih _ _ h
def aW (hs:List Nat) (o:Oper):Bool:=
 match o.op with
 | .call c=>(match c.callee with
  | .value (.func f)=>C5 hs f
  | .value (.tmp t)=>C5 hs (t+1000000)
  |_=>false)
 |_=>false
def oc (C:ck) (hs:List Nat) (l0:List Oper) (K:AS Unit→Prop):List Oper→AS Unit→Prop
 | [],s=>K s
 |o::rest,s=>(match sx C.nt o.dst with
  |false=>False
  |true=>(match bL o.op with
   |true=>(match o.guard with
    |none=>(match Aa C.tab s.hp s.ev o.op (fun r hp'=>oc C hs l0 K rest (AS.put { s with hp:=hp' } o.dst r)) with
     |some p=>p
     |none=>False)
    |some _=>False)
   |false=>(match aW hs o with
    |true=>KG l0 o s (fun s=>fV C o s (oc C hs l0 K rest)) (fun s=>oc C hs l0 K rest (s.put o.dst (.ae (.tuple #[]))))
    |false=>KG l0 o s (fun s=>iI C o s (oc C hs l0 K rest)) (fun s=>oc C hs l0 K rest (s.put o.dst (.ae (.tuple #[])))))))
theorem oc.sound {C:ck} (aq:Γ.Ok) (hP:C.P=Γ.P) (ah:aL Γ.P C.tab) (cC:C.nt=Γ.nt) {hs:List Nat} {l0:List Oper} {K:AS Unit→Prop}:∀(l:List Oper) (s:AS Unit),oc C hs l0 K l s→gU Γ l0.toArray (aW hs) K l s:=by
 intro l
 induction l with
 |nil=>intro s h;exact h
 |cons o rest ih=>
  intro s h
  simp only[oc] at h
  simp only[gU]
  split at h
  ·exact h.elim
  rename_i hd
  have hd:=fF hd
  rw[cC] at hd
  split at h
  ·rename_i he
   rw[if_pos he]
   split at h
   ·rename_i hg
    split at h
    ·rename_i p hp
     obtain⟨c,r,hp',g1,g2,g3⟩:=nz hp h
     exact⟨hd,hg,r,hp',fY aq ah g1 g2,ih _ g3⟩
    ·exact h.elim
   ·exact h.elim
  ·rename_i he
   rw[if_neg (by rw[he];simp)]
   split at h
   ·rename_i hh
    rw[if_pos hh]
    rcases KG.cases h with⟨hg,h⟩|⟨j,want,b,hg,hb,⟨gq,h⟩|⟨gq,h⟩⟩|⟨j,want,hg,hb,h⟩
    ·exact .inl ⟨by simp[aD,hg],fV.sound aq hP ah cC h ih⟩
    ·exact .inl ⟨by simp[aD,hg,hb,gq],fV.sound aq hP ah cC h ih⟩
    ·exact .inr ⟨by simp[aD,hg,hb,gq],hd,ih _ h⟩
    ·exact .inr ⟨by simp[aD,hg,hb],hd,ih _ h⟩
   ·rename_i hh
    rw[if_neg (by rw[hh];simp)]
    rcases KG.cases h with⟨hg,h⟩|⟨j,want,b,hg,hb,⟨gq,h⟩|⟨gq,h⟩⟩|⟨j,want,hg,hb,h⟩
    ·obtain⟨x,h3,h4⟩:=DStep.sound (ops:=l0.toArray) aq ah (iI.sound (Γ:=Γ) (N:=gU Γ l0.toArray (aW hs) K rest) (R:=gU Γ l0.toArray (aW hs) K rest) hP h ih ih) (fun _ h=>h) (fun _ h=>h)
     exact⟨x,⟨hd,.inl ⟨by simp[aD,hg],h3⟩⟩,h4⟩
    ·obtain⟨x,h3,h4⟩:=DStep.sound (ops:=l0.toArray) aq ah (iI.sound (Γ:=Γ) (N:=gU Γ l0.toArray (aW hs) K rest) (R:=gU Γ l0.toArray (aW hs) K rest) hP h ih ih) (fun _ h=>h) (fun _ h=>h)
     exact⟨x,⟨hd,.inl ⟨by simp[aD,hg,hb,gq],h3⟩⟩,h4⟩
    ·exact⟨_,⟨hd,.inr ⟨by simp[aD,hg,hb,gq],rfl⟩⟩,ih _ h⟩
    ·exact⟨_,⟨hd,.inr ⟨by simp[aD,hg,hb],rfl⟩⟩,ih _ h⟩
def oe (C:ck) (hs:List Nat) (l0:List Oper) (Cl M:List (Option (List Nat))) (K:AS Unit→Prop):Nat→List Oper→AS Unit→Prop
 |_,[],s=>K s
 |k,o::rest,s=>(match sx C.nt o.dst with
  |false=>False
  |true=>(match bL o.op with
   |true=>(match o.guard with
    |none=>okB (Iw (mF Cl k) s.ev o.op) (match Aa C.tab s.hp s.ev o.op (fun r hp'=>oe C hs l0 Cl M K (k+1) rest (AS.put { s with hp:=hp' } o.dst r)) with
     |some p=>p
     |none=>False)
    |some _=>False)
   |false=>(match aW hs o with
    |true=>KG l0 o s (fun s=>fV C o s (oe C hs l0 Cl M K (k+1) rest)) (fun s=>oe C hs l0 Cl M K (k+1) rest (s.put o.dst (.ae (.tuple #[]))))
    |false=>KG l0 o s (fun s=>dI C (mF M k) o s (oe C hs l0 Cl M K (k+1) rest)) (fun s=>oe C hs l0 Cl M K (k+1) rest (s.put o.dst (.ae (.tuple #[])))))))
theorem oe.sound {C:ck} (aq:Γ.Ok) (hP:C.P=Γ.P) (ah:aL Γ.P C.tab) (cC:C.nt=Γ.nt) {hs:List Nat} {l0:List Oper} {Cl M:List (Option (List Nat))} {K:AS Unit→Prop}:∀(l:List Oper) (k:Nat) (s:AS Unit),oe C hs l0 Cl M K k l s→gV Γ l0.toArray (aW hs) Cl M K k l s:=by
 intro l
 induction l with
 |nil=>intro k s h;exact h
 |cons o rest ih=>
  intro k s h
  simp only[oe] at h
  simp only[gV]
  split at h
  ·exact h.elim
  rename_i hd
  have hd:=fF hd
  rw[cC] at hd
  split at h
  ·rename_i he
   rw[if_pos he]
   split at h
   ·rename_i hg
    obtain⟨Ak,h⟩:=bD h
    split at h
    ·rename_i p hp
     obtain⟨c,r,hp',g1,g2,g3⟩:=nz hp h
     have:=xH Ak g1
     rw[dH] at this
     refine⟨hd,hg,r,hp',fun pq xx e1 e2 e3=>fY xx (tab:=C.tab) (by rw[e1];exact ah) (c:=c) ?_ g2,?_,ih _ _ g3⟩
     ·rw[←g1];exact oC fun x hx=>gZ hx
     ·unfold iE
      split
      ·trivial
      ·rename_i l' hl
       have nZ:=ko.fr (l:=l') s.hp hp' 0 (this l' hl)
       exact⟨nZ.1,fun i ob hi ho=>nZ.2 i ob (by simpa using hi) ho⟩
    ·exact h.elim
   ·exact h.elim
  ·rename_i he
   rw[if_neg (by rw[he];simp)]
   split at h
   ·rename_i hh
    rw[if_pos hh]
    rcases KG.cases h with⟨hg,h⟩|⟨j,want,b,hg,hb,⟨gq,h⟩|⟨gq,h⟩⟩|⟨j,want,hg,hb,h⟩
    ·exact .inl ⟨by simp[aD,hg],fV.sound aq hP ah cC h (ih (k+1))⟩
    ·exact .inl ⟨by simp[aD,hg,hb,gq],fV.sound aq hP ah cC h (ih (k+1))⟩
    ·exact .inr ⟨by simp[aD,hg,hb,gq],hd,ih _ _ h⟩
    ·exact .inr ⟨by simp[aD,hg,hb],hd,ih _ _ h⟩
   ·rename_i hh
    rw[if_neg (by rw[hh];simp)]
    rcases KG.cases h with⟨hg,h⟩|⟨j,want,b,hg,hb,⟨gq,h⟩|⟨gq,h⟩⟩|⟨j,want,hg,hb,h⟩
    ·rw[dH] at h
     obtain⟨x,h3,h4⟩:=fC.sound (ops:=l0.toArray) ah (dI.sound (Γ:=Γ) (N:=gV Γ l0.toArray (aW hs) Cl M K (k+1) rest) (R:=gV Γ l0.toArray (aW hs) Cl M K (k+1) rest) hP h (ih (k+1)) (ih (k+1))) (fun _ h=>h) (fun _ h=>h) (.inl hg)
     exact⟨x,⟨hd,.inl ⟨by simp[aD,hg],h3⟩⟩,h4⟩
    ·rw[dH] at h
     obtain⟨x,h3,h4⟩:=fC.sound (ops:=l0.toArray) ah (dI.sound (Γ:=Γ) (N:=gV Γ l0.toArray (aW hs) Cl M K (k+1) rest) (R:=gV Γ l0.toArray (aW hs) Cl M K (k+1) rest) hP h (ih (k+1)) (ih (k+1))) (fun _ h=>h) (fun _ h=>h) (.inr ⟨j,want,_,hg,hb⟩)
     exact⟨x,⟨hd,.inl ⟨by simp[aD,hg,hb,gq],h3⟩⟩,h4⟩
    ·exact⟨_,⟨hd,.inr ⟨by simp[aD,hg,hb,gq],rfl⟩⟩,ih _ _ h⟩
    ·exact⟨_,⟨hd,.inr ⟨by simp[aD,hg,hb],rfl⟩⟩,ih _ _ h⟩
def Mj:List (Nat×List Nat)→Nat→Option (List Nat)
 | [],_=>none
 |p::l,k=>(match Nat.beq p.1 k with|true=>some p.2|false=>Mj l k)
def QG:List (Nat×List (Option (List Nat))×List (Option (List Nat)))→Nat→Option (List (Option (List Nat))×List (Option (List Nat)))
 | [],_=>none
 |p::l,k=>(match Nat.beq p.1 k with|true=>some p.2|false=>QG l k)
end Go.Proofs.YtdcikhleahfknaaGreatDoor
