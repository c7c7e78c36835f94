/- Texts of ours laid together for a claim: VcC. -/
import Derived.Test.YtdcikhleahfknaaGreatDoorQ22
namespace Go.Proofs.YtdcikhleahfknaaGreatDoor
open Go
set_option linter.unusedSimpArgs false
set_option linter.unusedVariables false
inductive tj where
 |i (k:IntKind)
 |b
 |s
 |l
 |c
 |m
 |ms
 |k (x:AV)
 |o (r:Nat)
 |fn
 |q (x:AV)
inductive p8 where
 |c (x:tj)
 |a (l:List tj)
inductive Sh where
 |v (x:p8)
 |t (l:List p8)
 |f (fn:Nat) (l:List p8)
 |m (fn:Nat) (l:List p8)
inductive jh where
 |dead
 |box (l:List tj)
 |row (e size:Nat)
 |aB
 |cD
 |cA (r:Nat)
 |aI (e size:Nat)
 |dB (e:Nat)
def oC:List Nat→Nat→Nat
 | [],_=>0
 |x::_,0=>x
 |_::l,n+1=>oC l n
def R7 (lens:List Nat):tj→(AV→Prop)→Prop
 | .i k,P=>∃n:Int,P (.ae (.int k n))
 | .b,P=>∃b:Bool,P (.ae (.bool b))
 | .s,P=>∃s:ByteArray,P (.ae (.string s))
 | .l,P=>∃l:List AV,P (.sl l)
 | .c,P=>∃l:List AV,P (.clip l)
 | .m,P=>∃l:List (Int×Value),P (.ea (.i l))
 | .ms,P=>∃l:List (ByteArray×Value),P (.ea (.s l))
 | .k x,P=>P x
 | .o r,P=>P (.own r (oC lens r))
 | .fn,P=>∃v:Value,P (.fn v)
 | .q x,P=>P x
def FM (lens:List Nat):List tj→(List AV→Prop)→Prop
 | [],P=>P []
 |sh::l,P=>R7 lens sh fun x=>FM lens l fun xs=>P (x::xs)
def JV (lens:List Nat):p8→(AV→Prop)→Prop
 | .c x,P=>R7 lens x P
 | .a l,P=>FM lens l fun cs=>P (.agg cs)
def Bk (lens:List Nat):List p8→(List AV→Prop)→Prop
 | [],P=>P []
 |sh::l,P=>JV lens sh fun x=>Bk lens l fun xs=>P (x::xs)
def R8 (lens:List Nat):Sh→(AV→Prop)→Prop
 | .v x,P=>JV lens x P
 | .t l,P=>Bk lens l fun cs=>P (.aX cs)
 | .f fn l,P=>Bk lens l fun cs=>P (.aK fn cs)
 | .m fn l,P=>Bk lens l fun cs=>P (.cK fn cs)
theorem FN {lens:List Nat} {sh:tj} {P:AV→Prop} (h:R7 lens sh P):∃x,P x:=by
 cases sh with
 |i k=>obtain⟨n,h⟩:=h;exact⟨_,h⟩
 |b=>obtain⟨n,h⟩:=h;exact⟨_,h⟩
 |s=>obtain⟨n,h⟩:=h;exact⟨_,h⟩
 |q x=>exact⟨_,h⟩
 |l=>obtain⟨n,h⟩:=h;exact⟨_,h⟩
 |c=>obtain⟨n,h⟩:=h;exact⟨_,h⟩
 |m=>obtain⟨n,h⟩:=h;exact⟨_,h⟩
 |ms=>obtain⟨n,h⟩:=h;exact⟨_,h⟩
 |fn=>obtain⟨n,h⟩:=h;exact⟨_,h⟩
 |k x=>exact⟨_,h⟩
 |o r=>exact⟨_,h⟩
theorem uM {lens:List Nat}:∀{l:List tj} {P:List AV→Prop},FM lens l P→∃xs,P xs
 | [],_,h=>⟨_,h⟩
 |_::_,_,h=>by
  obtain⟨x,h⟩:=FN h
  obtain⟨xs,h⟩:=uM h
  exact⟨_,h⟩
theorem tF {lens:List Nat} {sh:p8} {P:AV→Prop} (h:JV lens sh P):∃x,P x:=by
 cases sh with
 |c x=>exact FN h
 |a l=>obtain⟨cs,h⟩:=uM h;exact⟨_,h⟩
theorem p9 {lens:List Nat}:∀{l:List p8} {P:List AV→Prop},Bk lens l P→∃xs,P xs
 | [],_,h=>⟨_,h⟩
 |_::_,_,h=>by
  obtain⟨x,h⟩:=tF h
  obtain⟨xs,h⟩:=p9 h
  exact⟨_,h⟩
theorem o6 {lens:List Nat} {sh:Sh} {P:AV→Prop} (h:R8 lens sh P):∃x,P x:=by
 cases sh with
 |v x=>exact tF h
 |t l=>obtain⟨cs,h⟩:=p9 h;exact⟨_,h⟩
 |f fn l=>obtain⟨cs,h⟩:=p9 h;exact⟨_,h⟩
 |m fn l=>obtain⟨cs,h⟩:=p9 h;exact⟨_,h⟩
def NJ:List jh→(List (List AV)→Prop)→Prop
 | [],P=>P []
 | .row _ _::l,P | .aI _ _::l,P=>∃els:List AV,NJ l fun ls=>P (els::ls)
 |_::l,P=>NJ l fun ls=>P ([]::ls)
def JW:List (List AV)→List Nat
 | []=>[]
 |l::ls=>l.length::JW ls
def Up (lens:List Nat):jh→List AV→(af→Prop)→Prop
 | .dead,_,P=>P .dead
 | .box l,_,P=>FM lens l fun cs=>P (.box cs)
 | .row e size,els,P=>P (.row e size els)
 | .aI e size,els,P=>P (.aI e size els)
 | .aB,_,P=>∃es:List (Int×Value),P (.aB (.i es))
 | .cA r,_,P=>P (.cA r (oC lens r))
 | .cD,_,P=>∃es:List (ByteArray×Value),P (.aB (.s es))
 | .dB _,_,_=>False
def JX (lens:List Nat):List jh→List (List AV)→(List af→Prop)→Prop
 | [],_,P=>P []
 |o::l,els::ls,P=>Up lens o els fun x=>JX lens l ls fun xs=>P (x::xs)
 |_::_,[],_=>False
theorem NK {l:List jh}:∀{P:List (List AV)→Prop},NJ l P→∃ls,P ls:=by
 induction l with
 |nil=>intro P h;exact⟨_,h⟩
 |cons o l ih=>
  intro P h
  cases o with
  |row e size=>obtain⟨els,h⟩:=h;obtain⟨ls,h⟩:=ih h;exact⟨_,h⟩
  |aI e size=>obtain⟨els,h⟩:=h;obtain⟨ls,h⟩:=ih h;exact⟨_,h⟩
  |dead=>obtain⟨ls,h⟩:=ih (P:=fun ls=>P ([]::ls)) h;exact⟨_,h⟩
  |box l=>obtain⟨ls,h⟩:=ih (P:=fun ls=>P ([]::ls)) h;exact⟨_,h⟩
  |aB=>obtain⟨ls,h⟩:=ih (P:=fun ls=>P ([]::ls)) h;exact⟨_,h⟩
  |cD=>obtain⟨ls,h⟩:=ih (P:=fun ls=>P ([]::ls)) h;exact⟨_,h⟩
  |cA r=>obtain⟨ls,h⟩:=ih (P:=fun ls=>P ([]::ls)) h;exact⟨_,h⟩
  |dB e=>obtain⟨ls,h⟩:=ih (P:=fun ls=>P ([]::ls)) h;exact⟨_,h⟩
theorem NL {lens:List Nat} {o:jh} {els:List AV} {P:af→Prop} (h:Up lens o els P):∃x,P x:=by
 cases o with
 |dead=>exact⟨_,h⟩
 |box l=>obtain⟨cs,h⟩:=uM h;exact⟨_,h⟩
 |row e size=>exact⟨_,h⟩
 |aI e size=>exact⟨_,h⟩
 |aB=>obtain⟨es,h⟩:=h;exact⟨_,h⟩
 |cD=>obtain⟨es,h⟩:=h;exact⟨_,h⟩
 |cA r=>exact⟨_,h⟩
 |dB e=>exact h.elim
theorem Bl {lens:List Nat}:∀{l:List jh} {ls:List (List AV)} {P:List af→Prop},JX lens l ls P→∃xs,xs.length=l.length∧P xs
 | [],_,_,h=>⟨[],rfl,h⟩
 |_::_,[],_,h=>h.elim
 |o::l,els::ls,P,h=>by
  obtain⟨x,h⟩:=NL h
  obtain⟨xs,hl,h⟩:=Bl h
  exact⟨x::xs,by simp[hl],h⟩
def R9 (a:Sh×List jh) (r:AV) (hp':List af) (k:AV→List af→Prop):Prop:=
 NJ a.2 fun ls=>JX (JW ls) a.2 ls fun h=>R8 (JW ls) a.1 fun x=>(r=x∧hp'=h)∧k x h
def FO:List (Sh×List jh)→AV→List af→(AV→List af→Prop)→Prop
 | [],_,_,_=>False
 | [a],r,hp',k=>R9 a r hp' k
 |a::l,r,hp',k=>R9 a r hp' k∨FO l r hp' k
def QW (a:Sh) (r:AV) (k:AV→Prop):Prop:=R8 [] a fun x=>r=x∧k x
def yo:List Sh→AV→(AV→Prop)→Prop
 | [],_,_=>False
 | [a],r,k=>QW a r k
 |a::l,r,k=>QW a r k∨yo l r k
theorem FP {a:Sh×List jh} {r:AV} {hp':List af} {k:AV→List af→Prop} (h:R9 a r hp' k):k r hp':=by
 obtain⟨ls,h⟩:=NK h
 obtain⟨hs,_,h⟩:=Bl h
 obtain⟨x,⟨rfl,rfl⟩,h⟩:=o6 h
 exact h
theorem fW:∀{l:List (Sh×List jh)} {r:AV} {hp':List af} {k:AV→List af→Prop},FO l r hp' k→k r hp'
 | [],_,_,_,h=>h.elim
 | [_],_,_,_,h=>FP h
 |_::_::_,_,_,_,h=>h.elim FP fW
theorem rp:∀{l:List Sh} {r:AV} {k:AV→Prop},yo l r k→k r
 | [],_,_,h=>h.elim
 | [_],_,_,h=>by obtain⟨x,rfl,h⟩:=o6 h;exact h
 |_::_::_,_,_,h=>h.elim (fun h=>by obtain⟨x,rfl,h⟩:=o6 h;exact h) rp
def QX (tab:Nat→Option TD) (hp:List af) (ρ:Operand→AV):Op→Option (List Prop×List AV×Int×Nat×Nat)
 | .indexAddr T x i=>(match tab T with
  |some d=>(match d.kind with
   | .iW e=>(match tab e,(ρ x).jN hp,ρ i with
    |some d',some (cs,els),.ae (.int _ n)=>some (cs,els,n,e,d'.size)
    |_,_,_=>none)
   |_=>none)
  |none=>none)
 |_=>none
def Sa (tab:Nat→Option TD) (hp:List af) (ρ:Operand→AV):Op→Option (Prop×AV)
 | .indexAddr T x i=>(match ra hp (ρ x) with
  |some (r,m,e',size,k)=>(match tab T with
   |some d=>(match d.kind with
    | .iW e=>(match tab e,ρ i with
     |some d',.ae (.int _ n)=>if e'=e∧size=d'.size then some (0≤n∧n<m∧m=k,.eH r m n.toNat size) else none
     |_,_=>none)
    |_=>none)
   |none=>none)
  |none=>none)
 |_=>none
theorem NM {tab:Nat→Option TD} {hp:List af} {ρ:Operand→AV} {op:Op} {c:Prop} {r:AV} (h:Sa tab hp ρ op=some (c,r)):bk tab hp ρ op=some (c,r):=by
 unfold Sa at h
 split at h
 ·rename_i T x i
  split at h
  ·rename_i q m e' size k' hm
   split at h
   ·rename_i d hd
    split at h
    ·rename_i e hk
     split at h
     ·rename_i d' k n cO hi
      obtain⟨hx,els,ox,_⟩:=nT hm
      have He:(ρ x).fN hp=none:=by rw[hx];simp only[AV.fN,ox]
      simp only[bk,hd,hk,cO,He,hi,hm]
      exact h
     ·cases h
    ·cases h
   ·cases h
  ·cases h
 ·cases h
def Sb (tab:Nat→Option TD) (ρ:Operand→AV):Op→Option AV
 | .indexAddr T x (.const c)=>(match tab T with
  |some d=>(match d.kind with
   | .arr m=>(match ρ x,ρ (.const c) with
    | .ptr r 0,.ae (.int _ (.ofNat j))=>(match Nat.blt j m with|true=>some (.ptr r j)|false=>none)
    | .aL e 0,.ae (.int _ (.ofNat j))=>(match Nat.blt j m with|true=>some (.aL e j)|false=>none)
    |_,_=>none)
   |_=>none)
  |none=>none)
 |_=>none
theorem NN {tab:Nat→Option TD} {hp:List af} {ρ:Operand→AV} {op:Op} {r:AV} (h:Sb tab ρ op=some r):∃c,bk tab hp ρ op=some (c,r)∧c:=by
 unfold Sb at h
 split at h
 ·rename_i T x c
  split at h
  ·rename_i d hd
   split at h
   ·rename_i m hk
    split at h
    ·rename_i r' k j hx hc
     split at h
     ·rename_i hb
      obtain rfl:=Option.some.inj h
      have ak:j<m:=Nat.le_of_ble_eq_true hb
      refine⟨0≤(Int.ofNat j)∧(Int.ofNat j)<m,?_,Int.natCast_nonneg _,Int.ofNat_lt.2 ak⟩
      simp only[bk,hd,hk,hx,hc]
      rfl
     ·cases h
    ·rename_i e k j hx hc
     split at h
     ·rename_i hb
      obtain rfl:=Option.some.inj h
      have ak:j<m:=Nat.le_of_ble_eq_true hb
      refine⟨0≤(Int.ofNat j)∧(Int.ofNat j)<m,?_,Int.natCast_nonneg _,Int.ofNat_lt.2 ak⟩
      simp only[bk,hd,hk,hx,hc]
      rfl
     ·cases h
    ·cases h
   ·cases h
  ·cases h
 ·cases h
def Sc (tab:Nat→Option TD) (ρ:Operand→AV):Op→Option (Nat×Int×Nat)
 | .indexAddr T x i=>(match tab T with
  |some d=>(match d.kind with
   | .arr m=>(match ρ x,ρ i with
    | .ptr r 0,.ae (.int _ n)=>some (r,n,m)
    |_,_=>none)
   |_=>none)
  |none=>none)
 |_=>none
theorem NP {tab:Nat→Option TD} {hp:List af} {ρ:Operand→AV} {op:Op} {r:Nat} {n:Int} {m:Nat} (h:Sc tab ρ op=some (r,n,m)):bk tab hp ρ op=some (0≤n∧n<m,.ptr r n.toNat):=by
 unfold Sc at h
 split at h
 ·rename_i T x i
  split at h
  ·rename_i d hd
   split at h
   ·rename_i m' hk
    split at h
    ·rename_i r' k n' hx hi
     simp only[Option.some.injEq,Prod.mk.injEq] at h
     obtain⟨rfl,rfl,rfl⟩:=h
     simp only[bk,hd,hk,hx,hi]
    ·cases h
   ·cases h
  ·cases h
 ·cases h
def Ek (n:Int) (k:Nat→Prop):Nat→Nat→Prop
 |0,_=>False
 |1,j=>k j
 |f+2,j=>ai (n==(j:Int)) (k j) (Ek n k (f+1) (j+1))
theorem w6 {n:Int} {k:Nat→Prop}:∀(f j:Nat),(j:Int)≤n→n<(j:Int)+f→Ek n k f j→k n.toNat
 |0,j,h1,h2,_=>by omega
 |1,j,h1,h2,h=>by
  have:n.toNat=j:=by omega
  rw[this];exact h
 |f+2,j,h1,h2,h=>by
  by_cases e:n=(j:Int)
  ·have h':=h.elim.1 (by simpa using e)
   have:n.toNat=j:=by omega
   rw[this];exact h'
  ·exact w6 (f+1) (j+1) (by omega) (by omega) (h.elim.2 (by simpa using e))
def Yi (tab:Nat→Option TD) (hp:List af) (ρ:Operand→AV):Op→Option (Prop×List AV×Nat×Nat×Bool)
 | .load T x=>(match ρ x with
  | .eH r m i z=>(match hp[r]?,tab T with
   |some (.aI _ z' els),some d=>(match Nat.beq z' z&&Nat.beq d.size z with
    |true=>some (m=els.length,els,i,T,d.kind.agg)
    |false=>none)
   |_,_=>none)
  |_=>none)
 |_=>none
theorem Sd {tab:Nat→Option TD} {hp:List af} {ρ:Operand→AV} {op:Op} {els:List AV} {i T:Nat} {b:Bool} {c:Prop} (h:Yi tab hp ρ op=some (c,els,i,T,b)):bk tab hp ρ op=some (c∧i<els.length∧(els.getD i .top).isAgg=b,els.getD i .top):=by
 unfold Yi at h
 split at h
 ·rename_i T' x
  split at h
  ·rename_i r m i' z hx
   split at h
   ·rename_i e z' ku d hr hd
    split at h
    ·rename_i hb
     rw[Bool.and_eq_true] at hb
     simp only[Option.some.injEq,Prod.mk.injEq] at h
     obtain⟨rfl,rfl,rfl,rfl,rfl⟩:=h
     simp only[bk,hd,hx,hr]
     rw[if_pos ⟨Nat.eq_of_beq_eq_true hb.1,Nat.eq_of_beq_eq_true hb.2⟩]
    ·cases h
   ·cases h
  ·cases h
 ·cases h
def sized (size:Nat) (x:AV) (p:Prop):Prop:=if x.cells.length=size then p else False
def Se (b:Bool) (x:AV) (p:Prop):Prop:=match x.isAgg==b with|true=>p|false=>False
def Hh (tab:Nat→Option TD) (IU:Nat→p8) (hp:List af) (ρ:Operand→AV) (op:Op) (k:AV→Prop):Option Prop:=
 match QX tab hp ρ op with
 |some (cs,els,n,e,size)=>some (fg cs (0≤n∧n<els.length∧JV [] (IU e) fun x=>els.getD n.toNat .top=x∧sized size x (k (.aL x 0))))
 |none=>(match Sa tab hp ρ op with
  |some (c,r)=>some (c∧k r)
  |none=>(match pv tab hp ρ op with
   |some (cs,r)=>some (fg cs (k r))
   |none=>(match Sb tab ρ op with
    |some r=>some (k r)
    |none=>(match Sc tab ρ op with
     |some (r,n,m)=>some ((0≤n∧n<m)∧Ek n (fun j=>k (.ptr r j)) m 0)
     |none=>(match Yi tab hp ρ op with
      |some (c,els,i,T,b)=>some (c∧i<els.length∧JV [] (IU T) fun x=>els.getD i .top=x∧Se b x (k x))
      |none=>none)))))
theorem NQ {b:Bool} {x:AV} {p:Prop} (h:Se b x p):x.isAgg=b∧p:=by
 unfold Se at h
 split at h
 ·rename_i hb;exact⟨by cases b<;>cases hx:x.isAgg<;>simp_all,h⟩
 ·exact h.elim
theorem tG {tab:Nat→Option TD} {IU:Nat→p8} {hp:List af} {ρ:Operand→AV} {op:Op} {k:AV→Prop} {p:Prop} (h:Hh tab IU hp ρ op k=some p) (oz:p):∃c r,bk tab hp ρ op=some (c,r)∧c∧k r:=by
 unfold Hh at h
 split at h
 ·rename_i cs els n e size kF
  obtain rfl:=Option.some.inj h
  rw[bf] at oz
  obtain⟨hc,h0,h1,h2⟩:=oz
  obtain⟨x,hx,hk⟩:=tF h2
  unfold sized at hk
  split at hk
  ·rename_i hs
   unfold QX at kF
   split at kF
   ·rename_i T y i
    split at kF
    ·rename_i d hd
     split at kF
     ·rename_i e' Bg
      split at kF
      ·rename_i d' cs' ku ik n' cO hy hi
       simp only[Option.some.injEq,Prod.mk.injEq] at kF
       obtain⟨rfl,rfl,rfl,rfl,rfl⟩:=kF
       have He:=fl hy hc
       refine⟨0≤n'∧n' < ku.length∧(ku.getD n'.toNat .top).cells.length=d'.size,.aL (ku.getD n'.toNat .top) 0,by simp only[bk,hd,Bg,cO,He,hi],⟨h0,h1,by rw[hx];exact hs⟩,by rw[hx];exact hk⟩
      ·cases kF
     ·cases kF
    ·cases kF
   ·cases kF
  ·exact hk.elim
 ·split at h
  ·rename_i c r hm
   obtain rfl:=Option.some.inj h
   exact⟨c,r,NM hm,oz.1,oz.2⟩
  split at h
  ·rename_i cs r hpv
   obtain rfl:=Option.some.inj h
   rw[bf] at oz
   obtain⟨c,h1,h2⟩:=T6 hpv oz.1
   exact⟨c,r,h1,h2,oz.2⟩
  split at h
  ·rename_i r hi
   obtain rfl:=Option.some.inj h
   obtain⟨c,h1,h2⟩:=NN hi
   exact⟨c,r,h1,h2,oz⟩
  ·split at h
   ·rename_i r n m hi
    obtain rfl:=Option.some.inj h
    exact⟨_,_,NP hi,oz.1,w6 m 0 (by simpa using oz.1.1) (by simpa using oz.1.2) oz.2⟩
   ·split at h
    ·rename_i c els i T b hl
     obtain rfl:=Option.some.inj h
     obtain⟨h0,h1,h2⟩:=oz
     obtain⟨x,hx,hk⟩:=tF h2
     obtain⟨h3,h4⟩:=NQ hk
     exact⟨_,_,Sd hl,⟨h0,h1,by rw[hx];exact h3⟩,by rw[hx];exact h4⟩
    ·cases h
def Bm (tab:Nat→Option TD) (hp:List af) (ρ:Operand→AV) (op:Op) (k:AV→List af→Prop):Option Prop:=
 match hv tab hp ρ op with
 |some (cs,r,hp')=>some (fg cs (k r hp'))
 |none=>none
theorem nY {tab:Nat→Option TD} {hp:List af} {ρ:Operand→AV} {op:Op} {k:AV→List af→Prop} {p:Prop} (h:Bm tab hp ρ op k=some p) (oz:p):∃c r hp',cT tab hp ρ op=some (c,r,hp')∧c∧k r hp':=by
 unfold Bm at h
 split at h
 ·rename_i cs r hp' hh
  obtain rfl:=Option.some.inj h
  rw[bf] at oz
  obtain⟨c,h1,h2⟩:=T7 hh oz.1
  exact⟨c,r,hp',h1,h2,oz.2⟩
 ·cases h
def nh (s:AS Unit):Op→Option (Nat×List AV)
 | .call c=>(match c.callee with
  | .value x=>(match s.ev x with
   | .aK f caps=>some (f,c.args.toList.map s.ev++caps)
   |_=>none)
  |_=>none)
 |_=>none
theorem iR (s:AS Unit) (op:Op):nh s op=je s op:=rfl
inductive yp where
 |one (sh:Sh)
 |alts (l:List Sh)
 |heap (n:Nat) (l:List (Sh×List jh))
 |raw (l:List Sh)
 |aK (f:Nat)
 |y (kind:Bool)
 |QO (sh:Sh)
 |fresh (e size:Nat)
 |eJ (l:List (Sh×List jh))
def boxed:List AV→List AV
 | []=>[]
 |x::l=>.aL x 0::boxed l
inductive kY where
 |done
 |val (i:Nat) (p:kY)
 |ya (i:Nat) (p:kY)
 |two (i:Nat) (p:kY) (j:Nat) (q:kY)
 |three (i:Nat) (p:kY) (j:Nat) (q:kY) (k:Nat) (r:kY)
structure cm where
 P:Program
 tab:Nat→Option TD
 IU:Nat→p8
 sig:Nat→Nat→yp
 nt:Nat
 dr:List (Nat×List (Option (List Nat))×List (Option (List Nat))):=[]
 hc:List (Nat×List Nat):=[]
 br:List (Nat×kY):=[]
 mt:Bool:=false
 dB:Option (List Nat):=none
 rm:List (Nat×Nat):=[]
 sgd:Nat→Option yp:=fun _=>none
 ext:{ e:Nat→Option M7 // ∀f x,e f=some x→Yd P f x }:=⟨fun _=>none,fun _ _ h=>by cases h⟩
def Bn (C:cm) (f:Nat) (o:Oper):yp:=
 match o.dst with
 |some d=>(match C.sgd d with
  |some g=>g
  |none=>C.sig f o.type)
 |none=>C.sig f o.type
def okB (b:Bool) (p:Prop):Prop:=
 match b with
 |true=>p
 |false=>False
theorem bE {b:Bool} {p:Prop} (h:okB b p):b=true∧p:=by
 cases b with
 |true=>exact⟨rfl,h⟩
 |false=>exact h.elim
def AV.ji (n:Nat) (hp:List af) (x:AV):List Prop×AV:=
 match x.closed n with
 |true=>([],x)
 |false=>x.bz hp
theorem ni {n:Nat} {hp:List af} {x:AV} (hc:dI (x.ji n hp).1):x.oZ n hp=(x.ji n hp).2:=by
 unfold AV.oZ AV.ji at *
 cases h:x.closed n with
 |true=>simp
 |false=>rw[h] at hc;simp only[Bool.false_eq_true,if_false];exact cF hc
def oD (n:Nat):List Nat→Nat→Nat
 | [],_=>n
 |j::js,r=>(match Nat.beq j r with|true=>n|false=>oD (n+1) js r)
def R2 (js:List Nat):AV→AV
 | .ptr r o=>.ptr (oD 0 js r) o
 |x=>x
def wm (js:List Nat):AV→AV
 | .own r n=>.own (oD 0 js r) n
 | .ptr r o=>.ptr (oD 0 js r) o
 | .mp r=>.mp (oD 0 js r)
 | .aK f cs=>.aK f (cs.map (R2 js))
 |x=>x
def FL (js:List Nat):AV→AV
 | .agg cs=>.agg (cs.map (wm js))
 |x=>wm js x
def IV (js:List Nat):AV→AV
 | .aX vs=>.aX (vs.map (FL js))
 | .aK f cs=>.aK f (cs.map (FL js))
 | .cK f cs=>.cK f (cs.map (FL js))
 |x=>FL js x
def QT (js:List Nat):af→af
 | .box cs=>.box (cs.map (wm js))
 | .cA r n=>.cA (oD 0 js r) n
 |o=>o
def jY (js:List Nat) (n:Nat) (i:Nat):Nat:=(match Nat.blt i js.length with|true=>oC js i|false=>n+(i-js.length))
theorem FQ:∀{js:List Nat} {n r:Nat},oD n js r<n+js.length→n≤oD n js r∧oC js (oD n js r-n)=r
 | [],n,r,h=>by simp[oD] at h
 |j::js,n,r,h=>by
  simp only[oD] at h ⊢
  split
  ·rename_i hb
   rw[Nat.sub_self]
   exact⟨Nat.le_refl _,Nat.eq_of_beq_eq_true hb⟩
  ·rename_i hb
   rw[hb] at h
   simp only[List.length_cons] at h
   obtain⟨h1,h2⟩:=FQ (js:=js) (n:=n+1) (r:=r) (by omega)
   refine⟨by omega,?_⟩
   rw[show oD (n+1) js r-n=(oD (n+1) js r-(n+1))+1 from by omega]
   exact h2
theorem qa {js:List Nat} {n r:Nat} (h:oD 0 js r<js.length):jY js n (oD 0 js r)=r:=by
 unfold jY
 rw[show Nat.blt (oD 0 js r) js.length=true from Nat.ble_eq_true_of_le h]
 have:=(FQ (js:=js) (n:=0) (r:=r) (by omega)).2
 rwa [Nat.sub_zero] at this
theorem fF {js:List Nat} {n:Nat} {u:List Nat→AV→AV} {r:(Nat→Nat)→AV→AV} {c:Nat→AV→Bool} (hu:∀x,c js.length (u js x)=true→r (jY js n) (u js x)=x):
  ∀(l:List AV),(l.map (u js)).all (c js.length)=true→(l.map (u js)).map (r (jY js n))=l
 | [],_=>rfl
 |x::l,h=>by
  simp only[List.map_cons,List.all_cons,Bool.and_eq_true] at h ⊢
  rw[hu x h.1,fF hu l h.2]
theorem Sf {js:List Nat} {n:Nat} {x:AV} (h:(R2 js x).dJ js.length=true):JS (jY js n) (R2 js x)=x:=by
 cases x with
 |ptr r m=>simp only[R2,AV.dJ,decide_eq_true_eq] at h;simp only[R2,JS,qa h]
 |_=>rfl
theorem jZ {js:List Nat} {n:Nat} {x:AV} (h:(wm js x).aM js.length=true):te (jY js n) (wm js x)=x:=by
 cases x with
 |own r m=>simp only[wm,AV.aM,decide_eq_true_eq] at h;simp only[wm,te,qa h]
 |ptr r m=>simp only[wm,AV.aM,decide_eq_true_eq] at h;simp only[wm,te,qa h]
 |mp r=>simp only[wm,AV.aM,decide_eq_true_eq] at h;simp only[wm,te,qa h]
 |aK f cs=>simp only[wm,AV.aM] at h;simp only[wm,te];rw[fF (c:=AV.dJ) (fun x hx=>Sf hx) cs h]
 |_=>rfl
theorem yq {js:List Nat} {n:Nat} {x:AV} (h:(FL js x).cL js.length=true):Bh (jY js n) (FL js x)=x:=by
 cases x with
 |agg cs=>
  simp only[FL,Bh] at h ⊢
  rw[fF (fun x hx=>jZ hx) cs h]
 |own r m=>exact jZ (x:=.own r m) h
 |ptr r m=>exact jZ (x:=.ptr r m) h
 |mp r=>exact jZ (x:=.mp r) h
 |aK f cs=>exact jZ (x:=.aK f cs) h
 |_=>first|rfl|(simp[FL,wm,AV.cL,AV.aM] at h;done)
theorem Sg {js:List Nat} {n:Nat} {x:AV} (h:(IV js x).closed js.length=true):o5 (jY js n) (IV js x)=x:=by
 cases x with
 |aX cs=>
  simp only[IV,o5] at h ⊢
  rw[fF (fun x hx=>yq hx) cs h]
 |aK f cs=>
  simp only[IV,o5] at h ⊢
  rw[fF (fun x hx=>yq hx) cs h]
 |cK f cs=>
  simp only[IV,o5] at h ⊢
  rw[fF (fun x hx=>yq hx) cs h]
 |agg cs=>exact yq (x:=.agg cs) h
 |own r m=>exact jZ (x:=.own r m) h
 |ptr r m=>exact jZ (x:=.ptr r m) h
 |mp r=>exact jZ (x:=.mp r) h
 |_=>first|rfl|(simp[IV,FL,wm,AV.closed,AV.cL,AV.aM] at h;done)
theorem Si {js:List Nat} {n:Nat} {o:af} (h:(QT js o).closed js.length=true):gW (jY js n) (QT js o)=o:=by
 cases o with
 |box cs=>
  simp only[QT,gW] at h ⊢
  rw[fF (fun x hx=>jZ hx) cs h]
 |cA q k=>have:=jZ (js:=js) (n:=n) (x:=.own q k) h;simp only[wm,te,AV.own.injEq,and_true] at this;simp only[QT,gW,this]
 |_=>rfl
def AV.El (js:List Nat) (hp:List af) (x:AV):AV:=if(IV js x).closed js.length=true then x else x.bj hp
def AV.Bo (js:List Nat) (hp:List af) (x:AV):List Prop×AV:=
 match (IV js x).closed js.length with
 |true=>([],x)
 |false=>x.bz hp
theorem uN {js:List Nat} {hp:List af} {x:AV} (hc:dI (x.Bo js hp).1):x.El js hp=(x.Bo js hp).2:=by
 unfold AV.El AV.Bo at *
 cases h:(IV js x).closed js.length with
 |true=>simp
 |false=>rw[h] at hc;simp only[Bool.false_eq_true,if_false];exact cF hc
theorem qb {Γ:Env Unit} {s:AS Unit} {a:Act} {w:World} {η:List Value} (hr:Rel Γ s a w η) (js:List Nat):∀(xs:List AV) (vs:List Value),bM w (aW Γ w η s.hp) η s.hp xs vs→bM w (aW Γ w η s.hp) η s.hp (xs.map (AV.El js s.hp)) vs
 | [],[],_=>True.intro
 |x::xs,v::vs,h=>⟨by
   unfold AV.El
   split
   ·exact h.1
   ·exact(fu hr.heap hr.bA h.1).lift,qb hr js xs vs h.2⟩
 | [],_::_,h=>h.elim
 |_::_,[],h=>h.elim
def mw (js:List Nat):List Nat→List af→List af
 | [],_=>[]
 |j::l,H=>(match H[j]? with
  |some o=>QT js o
  |none=>.dead)::mw js l H
theorem w7 {js:List Nat} {H:List af}:∀{l:List Nat} {i:Nat} {o:af},(mw js l H)[i]?=some o→∃j,l[i]?=some j∧(H[j]?=none∨∃o',H[j]?=some o'∧o=QT js o')
 | [],i,o,h=>by simp[mw] at h
 |j::l,0,o,h=>by
  simp only[mw,List.getElem?_cons_zero,Option.some.injEq] at h
  refine⟨j,rfl,?_⟩
  split at h
  ·rename_i o' ho;exact .inr ⟨o',ho,h.symm⟩
  ·rename_i ho;exact .inl ho
 |j::l,i+1,o,h=>by
  simp only[mw,List.getElem?_cons_succ] at h ⊢
  exact w7 h
theorem w8 {js:List Nat} {H:List af}:∀{l:List Nat},(mw js l H).length=l.length
 | []=>rfl
 |j::l=>by simp[mw,w8 (l:=l)]
def nj (n:Nat):List Nat→Bool
 | []=>true
 |j::js=>Nat.blt j n&&(!Em j js&&nj n js)
where Em (k:Nat):List Nat→Bool
 | []=>false
 |x::l=>Nat.beq x k||Em k l
theorem uO {k:Nat}:∀{l:List Nat} {i:Nat},l[i]?=some k→nj.Em k l=true
 | [],i,h=>by simp at h
 |x::l,0,h=>by simp at h;subst h;simp[nj.Em]
 |x::l,i+1,h=>by simp only[List.getElem?_cons_succ] at h;simp[nj.Em,uO h]
theorem nk:∀{l:List Nat} {i:Nat},i<l.length→l[i]?=some (oC l i)
 | [],i,h=>by simp at h
 |x::l,0,h=>rfl
 |x::l,i+1,h=>by simp only[List.getElem?_cons_succ,oC];exact nk (by simpa using h)
theorem FR {n:Nat}:∀{js:List Nat},nj n js=true→∀i,i<js.length→oC js i<n
 | [],_,i,h=>by simp at h
 |j::js,h,0,_=>by simp only[nj,Bool.and_eq_true] at h;exact Nat.le_of_ble_eq_true (show Nat.ble (j+1) n=true from h.1)
 |j::js,h,i+1,hi=>by simp only[nj,Bool.and_eq_true] at h;exact FR h.2.2 i (by simpa using hi)
theorem Bp {n:Nat}:∀{js:List Nat},nj n js=true→∀i i',i<js.length→i' < js.length→oC js i=oC js i'→i=i'
 | [],_,i,i',h,_,_=>by simp at h
 |j::js,h,0,0,_,_,_=>rfl
 |j::js,h,0,i'+1,_,h2,he=>by
  simp only[nj,Bool.and_eq_true,Bool.not_eq_true'] at h
  have:=uO (k:=j) (l:=js) (i:=i') (by rw[nk (by simpa using h2)];exact congrArg some he.symm)
  rw[h.2.1] at this;cases this
 |j::js,h,i+1,0,h1,_,he=>by
  simp only[nj,Bool.and_eq_true,Bool.not_eq_true'] at h
  have:=uO (k:=j) (l:=js) (i:=i) (by rw[nk (by simpa using h1)];exact congrArg some he)
  rw[h.2.1] at this;cases this
 |j::js,h,i+1,i'+1,h1,h2,he=>by
  simp only[nj,Bool.and_eq_true] at h
  rw[Bp h.2.2 i i' (by simpa using h1) (by simpa using h2) he]
def kZ (r:Nat) (out:List Nat):List Nat:=(match nj.Em r out with|true=>out|false=>out++[r])
mutual
def Sj (hp:List af):Nat→List Nat→AV→List Nat
 |0,out,_=>out
 |n+1,out,.ptr r _=>(match nj.Em r out with
  |true=>out
  |false=>(match hp[r]? with
   |some (.box cs)=>kZ r (gE hp n out cs)
   |some (.cA q _)=>kZ q (kZ r out)
   |_=>kZ r out))
 |_+1,out,.mp r=>kZ r out
 |_+1,out,.own r _=>(match hp[r]? with
  |some (.aI _ _ _)=>kZ r out
  |_=>out)
 |n+1,out,.agg cs=>gE hp n out cs
 |n+1,out,.aX cs=>gE hp n out cs
 |n+1,out,.aK _ cs=>gE hp n out cs
 |n+1,out,.cK _ cs=>gE hp n out cs
 |_+1,out,_=>out
def gE (hp:List af):Nat→List Nat→List AV→List Nat
 |0,out,_=>out
 |_+1,out,[]=>out
 |n+1,out,x::l=>gE hp n (Sj hp n out x) l
end
def FT (js:List Nat) (hp:List af) (args:List AV):List AV:=((cd (AV.Bo js hp) args).2).map (IV js)
def r6 (js:List Nat) (x:AV) (h:List af):Bool:=Nat.ble js.length h.length&&(x.closed h.length&&h.all (af.closed h.length))
def wq (C:cm) (js:List Nat) (l:List (Sh×List jh)) (f:Nat) (args:List AV) (o:Oper) (s:AS Unit) (next:AS Unit→Prop):Prop:=
 okB (nj s.hp.length js&&((FT js s.hp args).all (AV.closed js.length)&&(mw js js s.hp).all (af.closed js.length)))
  (fg (cd (AV.Bo js s.hp) args).1 (∃R:AV→List af→Prop,bp C.P f (FT js s.hp args) (mw js js s.hp) R∧∀(r:AV) (hp':List af),R r hp'→FO l r hp' fun x h=>okB (r6 js x h) (next (AS.put { s with hp:=gX (jY js s.hp.length) js.length h s.hp } o.dst (o5 (jY js s.hp.length) x)))))
theorem wq.Tu {P:Program} {js:List Nat} {H:List af} {f:Nat} {args:List AV} {R:AV→List af→Prop} (hb:(nj H.length js&&((args.map (IV js)).all (AV.closed js.length)&&(mw js js H).all (af.closed js.length)))=true)
  (hF:bp P f (args.map (IV js)) (mw js js H) R) (hR:∀r h,R r h→r6 js r h=true):bp P f args H (fun r2 H2=>∃r h,R r h∧r2=o5 (jY js H.length) r∧H2=gX (jY js H.length) js.length h H):=by
 simp only[Bool.and_eq_true] at hb
 obtain⟨h1,h2,h3⟩:=hb
 have hl:(mw js js H).length=js.length:=w8
 have ak:∀i,i<js.length→jY js H.length i=oC js i:=fun i hi=>by
  unfold jY;rw[show Nat.blt i js.length=true from Nat.ble_eq_true_of_le hi]
 have:=bp.Uj (g:=jY js H.length) (H:=H) hF (fun i o ho=>?_) (fun i i' hi oG he=>?_) (fun i hi=>?_) (by rw[hl];exact h2) (by rw[hl];exact h3) (fun r h hr=>?_)
 ·rw[hl,fF (fun x hx=>Sg hx) args h2] at this
  exact this
 ·have hi:i<js.length:=by rw[←hl];exact(List.getElem?_eq_some_iff.1 ho).1
  obtain⟨j,hj,hc⟩:=w7 ho
  rw[nk hi] at hj
  obtain rfl:=Option.some.inj hj
  rw[ak i hi]
  have Fy:o.closed js.length=true:=List.all_eq_true.1 h3 o (List.mem_of_getElem? ho)
  rcases hc with hc|⟨o',tW,rfl⟩
  ·have:=FR h1 i hi
   rw[List.getElem?_eq_getElem this] at hc;cases hc
  ·rw[tW,Si Fy]
 ·rw[hl] at hi oG
  rw[ak i hi,ak i' oG] at he
  exact Bp h1 i i' hi oG he
 ·rw[hl] at hi ⊢
  unfold jY
  cases hb:Nat.blt i js.length with
  |true=>have:i+1≤js.length:=Nat.le_of_ble_eq_true hb;omega
  |false=>rfl
 ·have:=hR r h hr
  simp only[r6,Bool.and_eq_true] at this
  rw[hl]
  exact⟨Nat.le_of_ble_eq_true this.1,this.2.1,this.2.2⟩
def JY (C:cm) (sh:Sh) (l:List Nat) (o:Oper) (s:AS Unit) (next:AS Unit→Prop):Prop:=
 fg (jO l s).1 (match nh (jO l s).2 o.op with
  |some (f,args)=>fg (cd (AV.bz (jO l s).2.hp) args).1 (R8 [] sh fun x=>ag C.P f (cd (AV.bz (jO l s).2.hp) args).2 x∧next ((jO l s).2.put o.dst x))
  |none=>False)
def FU (s:AS Unit):Op→Option (Nat×List AV)
 | .call c=>(match c.callee with
  | .value x=>(match s.ev x with
   | .cK f fst=>some (f,fst++c.args.toList.map s.ev)
   |_=>none)
  |_=>none)
 |_=>none
def uP (C:cm) (o:Oper) (s:AS Unit) (next:AS Unit→Prop):Prop:=
 match FU s o.op with
 |some (f,args)=>(match Bn C f o with
  | .eJ l=>wq C (gE s.hp 100 [] args) l f args o s next
  |_=>False)
 |none=>False
def QY (C:cm) (o:Oper) (s:AS Unit) (next:AS Unit→Prop):Prop:=
 match nh s o.op with
 |some (f,args)=>(match Bn C f o with
  | .one sh=>fg (cd (AV.bz s.hp) args).1 (R8 [] sh fun x=>ag C.P f (cd (AV.bz s.hp) args).2 x∧next (s.put o.dst x))
  | .aK f'=>fg (cd (AV.bz s.hp) args).1 (ag C.P f (cd (AV.bz s.hp) args).2 (.aK f' (boxed (cd (AV.bz s.hp) args).2))∧next (s.put o.dst (.aK f' (boxed (cd (AV.bz s.hp) args).2))))
  | .y _=>False
  | .QO sh=>JY C sh (yk args) o s next
  | .alts l=>fg (cd (AV.bz s.hp) args).1 (∃R:AV→Prop,Pure C.P f (cd (AV.bz s.hp) args).2 R∧∀r:AV,R r→yo l r fun x=>next (s.put o.dst x))
  | .raw l=>fg (cd (AV.ji 0 s.hp) args).1 (∃R:AV→Prop,Pure C.P f (cd (AV.ji 0 s.hp) args).2 R∧∀r:AV,R r→yo l r fun x=>next (s.put o.dst x))
  | .heap n l=>okB ((cd (AV.ji (s.hp.take n).length s.hp) args).2.all (AV.closed (s.hp.take n).length)&&(s.hp.take n).all (af.closed (s.hp.take n).length))
    (fg (cd (AV.ji (s.hp.take n).length s.hp) args).1 (∃R:AV→List af→Prop,bp C.P f (cd (AV.ji (s.hp.take n).length s.hp) args).2 (s.hp.take n) R∧∀(r:AV) (hp':List af),R r hp'→FO l r hp' fun x h=>okB (Nat.beq h.length (s.hp.take n).length) (next (AS.put { s with hp:=h++s.hp.drop n } o.dst x))))
  | .fresh e size=>fg (cd (AV.bz s.hp) args).1 (∃els:List AV,IQ C.P f (cd (AV.bz s.hp) args).2 e size els∧next (AS.put { s with hp:=s.hp++[.aI e size els] } o.dst (.own s.hp.length els.length)))
  | .eJ l=>wq C (gE s.hp 100 [] args) l f args o s next)
 |none=>uP C o s next
def tk (nt:Nat):Option Nat→Bool
 |none=>true
 |some d=>Nat.blt d nt
theorem fX {nt:Nat} {d:Option Nat} (h:tk nt d=true):cx nt d:=by
 cases d with
 |none=>trivial
 |some d=>exact Nat.le_of_ble_eq_true (show Nat.ble (d+1) nt=true from h)
def Sk (tab:Nat→Option TD) (hp:List af) (ρ:Operand→AV):Op→Option (List Prop×AV×List af)
 | .call c=>(match c.callee,c.args.toList,c.argTypes.toList with
  | .builtin .append,[b,x],[T,T']=>if T=T' then(match tab T with
   |some d=>(match d.kind with
    | .iW e=>(match tab e,(ρ x).jN hp with
     |some d',some (cs,av)=>if 0<d'.size then(match ρ b with
      | .clip []=>some (cs++[bF d' (([]:List AV).length+av.length) [] av],.own hp.length ([]++av).length,hp++[.aI e d'.size ([]++av)])
      |_=>none) else none
     |_,_=>none)
    |_=>none)
   |none=>none) else none
  |_,_,_=>none)
 |_=>none
theorem NR {Γ:Env Unit} {s:AS Unit} (ao:Γ.Ok) {tab:Nat→Option TD} (ah:aQ Γ.P tab) {o:Oper} {cs:List Prop} {r:AV} {hp':List af} (h:Sk tab s.hp s.ev o.op=some (cs,r,hp')) (hc:dI cs):eW Γ o s r hp':=by
 generalize ho:o.op=op at h
 unfold Sk at h
 split at h
 ·split at h
  ·rename_i c b x T T' yn aw fO
   split at h
   ·rename_i heq
    subst heq
    split at h
    ·rename_i d hd
     split at h
     ·rename_i e hk
      split at h
      ·rename_i d' cs' av cO hx
       split at h
       ·rename_i bC
        split at h
        ·rename_i hb
         simp only[Option.some.injEq,Prod.mk.injEq] at h
         obtain⟨rfl,rfl,rfl⟩:=h
         rw[bt] at hc
         exact x9 ao ah ho yn aw fO hd hk cO (fl hx hc.1) (els:=[]) (.inr hb) bC (fun _=>rfl) hc.2.1
        ·cases h
       ·cases h
      ·cases h
     ·cases h
    ·cases h
   ·cases h
  ·cases h
 ·cases h
def En (C:cm) (o:Oper) (s:AS Unit) (next:AS Unit→Prop):Option Prop:=
 match nh s o.op with
 |some (f,args)=>(match C.ext.1 f with
  |some x=>(match RX x s.hp args with
   |some (r,hp')=>some (next (AS.put { s with hp:=hp' } o.dst r))
   |none=>none)
  |none=>none)
 |none=>none
theorem Hi {C:cm} {Γ:Env Unit} (ao:Γ.Ok) (hP:C.P=Γ.P) {o:Oper} {s:AS Unit} {next:AS Unit→Prop} {p:Prop} (h:En C o s next=some p) (hp:p):∃r hp',eW Γ o s r hp'∧next (AS.put { s with hp:=hp' } o.dst r):=by
 unfold En at h
 split at h
 ·rename_i f args aw
  split at h
  ·rename_i x hx
   split at h
   ·rename_i r hp' hr
    obtain rfl:=Option.some.inj h
    have hX:=C.ext.2 f x hx
    rw[hP] at hX
    rw[iR] at aw
    unfold je at aw
    split at aw
    ·rename_i c hc
     split at aw
     ·rename_i y hy
      split at aw
      ·rename_i f' caps cS
       simp only[Option.some.injEq,Prod.mk.injEq] at aw
       obtain⟨rfl,rfl⟩:=aw
       exact⟨r,hp',Ee ao hX hc hy cS hr,hp⟩
      ·cases aw
     ·cases aw
    ·cases aw
   ·cases h
  ·cases h
 ·cases h
def QZ (C:cm) (o:Oper) (s:AS Unit) (next:AS Unit→Prop):Option Prop:=
 match C.mt with
 |true=>(match Sk C.tab s.hp s.ev o.op with
  |some (cs,r,hp')=>some (fg cs (next (AS.put { s with hp:=hp' } o.dst r)))
  |none=>none)
 |false=>none
def Yj:List Nat→Nat→Bool
 | [],_=>false
 |x::l,k=>(match Nat.beq x k with
  |true=>true
  |false=>Yj l k)
def Yk (mk:Bool) (tab:Nat→Option TD) (hp:List af) (ρ:Operand→AV):Op→Option (List Prop×AV×List af)
 | .buildSlice T n parts=>(match mk,ng tab T with
  |true,some (e,_,d')=>if((n=parts.toList.length∧pM 0 parts.toList=true∧n≤16777216∧n*d'.size≤16777216)∧A6 d'.size (cd (AV.bz hp) (parts.toList.map fun p=>ρ p.2)).2=true)∧0<n∧0<d'.size then
    some ((cd (AV.bz hp) (parts.toList.map fun p=>ρ p.2)).1,.own hp.length n,hp++[.row e d'.size (cd (AV.bz hp) (parts.toList.map fun p=>ρ p.2)).2]) else none
  |_,_=>none)
 |_=>none
theorem Sl {Γ:Env Unit} {s:AS Unit} (ao:Γ.Ok) {tab:Nat→Option TD} (ah:aQ Γ.P tab) {mk:Bool} {o:Oper} {cs:List Prop} {r:AV} {hp':List af} (h:Yk mk tab s.hp s.ev o.op=some (cs,r,hp')) (hc:dI cs):eW Γ o s r hp':=by
 generalize ho:o.op=op at h
 unfold Yk at h
 split at h
 ·split at h
  ·rename_i T n parts _ _ e d d' hs
   split at h
   ·rename_i oy
    simp only[Option.some.injEq,Prod.mk.injEq] at h
    obtain⟨rfl,rfl,rfl⟩:=h
    obtain⟨hd,hk,cO⟩:=uL hs
    have hm:=bO (g:=AV.bj s.hp) (fun x=>cF) (parts.toList.map fun p=>s.ev p.2) hc
    obtain⟨⟨⟨h1,h2,h3,h4⟩,h5⟩,h6,h7⟩:=oy
    have hl:=uD h5
    rw[←hm,List.map_map] at hl ⊢
    exact wo ao ah ho hd hk cO h1 h6 h7 h2 h3 h4 hl
   ·cases h
  ·cases h
 ·cases h
def JZ (C:cm) (o:Oper) (s:AS Unit) (next:AS Unit→Prop):Option Prop:=
 match C.dB with
 |some l=>(match qOp (match o.dst with|some d=>Yj l d|none=>false) C.tab s.hp s.ev o.op with
  |some (cs,r,hp')=>some (fg cs (next (AS.put { s with hp:=hp' } o.dst r)))
  |none=>(match Yk (match o.dst with|some d=>Yj l d|none=>false) C.tab s.hp s.ev o.op with
   |some (cs,r,hp')=>some (fg cs (next (AS.put { s with hp:=hp' } o.dst r)))
   |none=>none))
 |none=>none
theorem Bq:∀{l:List Prop},dI l→∀p∈l,p
 |c::l,h,p,hp=>by
  rcases List.mem_cons.1 hp with rfl|hp
  ·exact h.1
  ·exact Bq h.2 p hp
def gu (C:cm) (o:Oper) (s:AS Unit) (next:AS Unit→Prop):Prop:=
 match tk C.nt o.dst with
 |false=>False
 |true=>(match D9 C.tab s.ev o.op with
  |some (els,b0)=>∀b:Bool,(els≠[]→b=!b0)→next (s.put o.dst (.ae (.bool b)))
  |none=>(match JZ C o s next with
   |some p=>p
   |none=>(match RP C.tab s.ev o.op with
   |some r=>next (s.put o.dst r)
   |none=>(match Hh C.tab C.IU s.hp s.ev o.op (fun r=>next (s.put o.dst r)) with
    |some p=>p
    |none=>(match QZ C o s next with
     |some p=>p
     |none=>(match JM C.tab s.hp s.ev o.op with
      |some (cs,r,hp')=>fg cs (next (AS.put { s with hp:=hp' } o.dst r))
      |none=>(match Bm C.tab s.hp s.ev o.op (fun r hp'=>next (AS.put { s with hp:=hp' } o.dst r)) with
      |some p=>p
      |none=>(match En C o s next with
       |some p=>p
       |none=>(match R0 C.tab s.ev o.op with
        |some r=>next (s.put o.dst r)
        |none=>QY C o s next)))))))))
variable {Γ:Env Unit} {s s':AS Unit} {a:Act} {w w':World} {η:List Value} {hp:List af}
theorem uP.sound {C:cm} (ao:Γ.Ok) (hP:C.P=Γ.P) {o:Oper} (hd:cx Γ.nt o.dst) {next K:AS Unit→Prop} (h:uP C o s next) (hn:∀s,next s→K s):bn Γ o s K:=by
 unfold uP at h
 split at h
 ·rename_i f args aw
  unfold FU at aw
  split at aw
  ·rename_i c hc
   split at aw
   ·rename_i x hx
    split at aw
    ·rename_i f' fst cS
     simp only[Option.some.injEq,Prod.mk.injEq] at aw
     obtain⟨rfl,rfl⟩:=aw
     split at h
     ·unfold wq at h
      obtain⟨hb,h⟩:=bE h
      rw[bf] at h
      obtain⟨fq,R,g1,g2⟩:=h
      rename_i l _
      generalize gE s.hp 100 [] (fst++List.map s.ev c.args.toList)=js at *
      have aw:=bO (g:=AV.El js s.hp) (fun x=>uN) _ fq
      rw[hP] at g1
      have oE:=wq.Tu (R:=fun r h'=>R r h'∧r6 js r h'=true) hb (g1.mono fun r h' hr=>⟨hr,(bE (fW (g2 r h' hr))).1⟩) (fun r h' hr=>hr.2)
      exact bn.Ub ao hc hx cS oE (fun a w η us hr h=>by rw[←aw];exact qb hr _ _ us h) hd fun r hp' hr=>by
       obtain⟨r',h',hr,rfl,rfl⟩:=hr
       exact hn _ (bE (fW (g2 r' h' hr.1))).2
     ·exact h.elim
    ·cases aw
   ·cases aw
  ·cases aw
 ·exact h.elim
theorem JY.sound {C:cm} (ao:Γ.Ok) (hP:C.P=Γ.P) {sh:Sh} {l:List Nat} {o:Oper} (hd:cx Γ.nt o.dst) {next K:AS Unit→Prop} (h:JY C sh l o s next) (hn:∀s,next s→K s):bn Γ o s K:=by
 unfold JY at h
 rw[bf] at h
 obtain⟨hc,h⟩:=h
 have hw:=pY (Γ:=Γ) ao l s hc
 intro a w η Kc Qc hk hr
 obtain⟨kq,lr⟩:=hw a w η hr
 refine(?_:bn Γ o (jO l s).2 K) a w kq Kc Qc hk lr
 split at h
 ·rename_i f args aw
  rw[iR] at aw
  unfold je at aw
  split at aw
  ·rename_i c hc
   split at aw
   ·rename_i x hx
    split at aw
    ·rename_i f' caps cS
     simp only[Option.some.injEq,Prod.mk.injEq] at aw
     obtain⟨rfl,rfl⟩:=aw
     rw[bf] at h
     obtain⟨fq,h⟩:=h
     obtain⟨x',tH,uQ⟩:=o6 h
     rw[←bO (g:=AV.bj (jO l s).2.hp) (fun x=>cF) _ fq,hP] at tH
     exact bn.pure ao hc hx cS tH hd fun r hr=>by rw[hr];exact hn _ uQ
    ·cases aw
   ·cases aw
  ·cases aw
 ·exact h.elim
theorem gu.sound {C:cm} (ao:Γ.Ok) (hP:C.P=Γ.P) (ah:aQ Γ.P C.tab) (cC:C.nt=Γ.nt) {o:Oper} {next K:AS Unit→Prop} (h:gu C o s next) (hn:∀s,next s→K s):bn Γ o s K:=by
 unfold gu at h
 split at h
 ·exact h.elim
 rename_i hd
 have hd:=fX hd
 rw[cC] at hd
 split at h
 ·rename_i els b0 hx
  exact bn.nil ah hx hd fun b hb=>hn _ (h b hb)
 split at h
 ·rename_i p hp
  unfold JZ at hp
  split at hp
  ·split at hp
   ·rename_i cs r hp' hm
    obtain rfl:=Option.some.inj hp
    rw[bf] at h
    exact bn.ya (R5 ao ah hm h.1) hd (hn _ h.2)
   ·split at hp
    ·rename_i cs r hp' hm
     obtain rfl:=Option.some.inj hp
     rw[bf] at h
     exact bn.ya (Sl ao ah hm h.1) hd (hn _ h.2)
    ·cases hp
  ·cases hp
 split at h
 ·rename_i r hx
  exact bn.val ao (D8 ah hx) hd (hn _ h)
 split at h
 ·rename_i p hp
  obtain⟨c,r,h1,h2,h3⟩:=tG hp h
  exact bn.val ao (oU ao ah h1 h2) hd (hn _ h3)
 split at h
 ·rename_i p hp
  unfold QZ at hp
  split at hp
  ·split at hp
   ·rename_i cs r hp' hm
    obtain rfl:=Option.some.inj hp
    rw[bf] at h
    exact bn.ya (NR ao ah hm h.1) hd (hn _ h.2)
   ·cases hp
  ·cases hp
 split at h
 ·rename_i cs r hp' hs
  rw[bf] at h
  exact bn.ya (JR ao ah hs (Bq h.1)) hd (hn _ h.2)
 split at h
 ·rename_i p hp
  obtain⟨c,r,hp',h1,h2,h3⟩:=nY hp h
  exact bn.ya (gB ao ah h1 h2) hd (hn _ h3)
 split at h
 ·rename_i p hp
  obtain⟨r,hp',h1,h2⟩:=Hi ao hP hp h
  exact bn.ya h1 hd (hn _ h2)
 split at h
 ·rename_i r hx
  exact bn.val ao (Eg ah hx) hd (hn _ h)
 unfold QY at h
 split at h
 ·rename_i f args aw
  rw[iR] at aw
  unfold je at aw
  split at aw
  ·rename_i c hc
   split at aw
   ·rename_i x hx
    split at aw
    ·rename_i f' caps cS
     simp only[Option.some.injEq,Prod.mk.injEq] at aw
     obtain⟨rfl,rfl⟩:=aw
     split at h
     ·rw[bf] at h
      obtain⟨fq,h⟩:=h
      obtain⟨x',tH,uQ⟩:=o6 h
      rw[←bO (g:=AV.bj s.hp) (fun x=>cF) _ fq,hP] at tH
      exact bn.pure ao hc hx cS tH hd fun r hr=>by rw[hr];exact hn _ uQ
     ·rw[bf] at h
      obtain⟨fq,tH,uQ⟩:=h
      rw[←bO (g:=AV.bj s.hp) (fun x=>cF) _ fq] at tH uQ
      rw[hP] at tH
      exact bn.pure ao hc hx cS tH hd fun r hr=>by rw[hr];exact hn _ uQ
     ·exact h.elim
     ·exact JY.sound ao hP hd h hn
     ·rw[bf] at h
      obtain⟨fq,R,tH,uQ⟩:=h
      rw[←bO (g:=AV.bj s.hp) (fun x=>cF) _ fq,hP] at tH
      exact bn.pure ao hc hx cS tH hd fun r hr=>hn _ (rp (uQ r hr))
     ·rw[bf] at h
      obtain⟨fq,R,tH,uQ⟩:=h
      have aw:=bO (g:=AV.oZ 0 s.hp) (fun x=>ni) _ fq
      rw[hP] at tH
      exact bn.Uc ao hc hx cS tH (fun a w η us hr h=>by rw[←aw];exact kX hr _ us h) hd fun r hr=>hn _ (rp (uQ r hr))
     ·rename_i n l Uq
      obtain⟨hb,h⟩:=bE h
      rw[bf] at h
      obtain⟨fq,R,g1,g2⟩:=h
      rw[Bool.and_eq_true] at hb
      have aw:=bO (g:=AV.oZ (s.hp.take n).length s.hp) (fun x=>ni) _ fq
      rw[hP] at g1
      have oE:=bp.frame (more:=s.hp.drop n) (R:=fun r h'=>R r h'∧h'.length=(s.hp.take n).length) (g1.mono fun r h' hr=>⟨hr,Nat.eq_of_beq_eq_true (bE (fW (g2 r h' hr))).1⟩) (fun r h' hr=>hr.2) hb.1 hb.2
      rw[List.take_append_drop] at oE
      exact bn.JA ao hc hx cS oE (fun a w η us hr h=>by rw[←aw];exact Bb hr _ _ us h) hd fun r hp' hr=>by
       obtain⟨h',rfl,hr,_⟩:=hr
       exact hn _ (bE (fW (g2 r h' hr))).2
     ·rw[bf] at h
      obtain⟨fq,els,tH,uQ⟩:=h
      rw[←bO (g:=AV.bj s.hp) (fun x=>cF) _ fq,hP] at tH
      exact bn.fresh ao hc hx cS tH hd (hn _ uQ)
     ·unfold wq at h
      obtain⟨hb,h⟩:=bE h
      rw[bf] at h
      obtain⟨fq,R,g1,g2⟩:=h
      rename_i l _
      generalize gE s.hp 100 [] (List.map s.ev c.args.toList++caps)=js at *
      have aw:=bO (g:=AV.El js s.hp) (fun x=>uN) _ fq
      rw[hP] at g1
      have oE:=wq.Tu (R:=fun r h'=>R r h'∧r6 js r h'=true) hb (g1.mono fun r h' hr=>⟨hr,(bE (fW (g2 r h' hr))).1⟩) (fun r h' hr=>hr.2)
      exact bn.JA ao hc hx cS oE (fun a w η us hr h=>by rw[←aw];exact qb hr _ _ us h) hd fun r hp' hr=>by
       obtain⟨r',h',hr,rfl,rfl⟩:=hr
       exact hn _ (bE (fW (g2 r' h' hr.1))).2
    ·cases aw
   ·cases aw
  ·cases aw
 ·exact uP.sound ao hP hd h hn
def KG (l:List Oper) (o:Oper) (s:AS Unit) (run skip:AS Unit→Prop):Prop:=
 match o.guard with
 |none=>run s
 |some (j,want)=>(match (l[j]?).bind (·.dst) with
  |some d=>(match s.tmps d with
   | .ae (.bool b)=>ai b (match want with|true=>run (s.put (some d) (.ae (.bool true)))|false=>skip (s.put (some d) (.ae (.bool true))))
     (match want with|true=>skip (s.put (some d) (.ae (.bool false)))|false=>run (s.put (some d) (.ae (.bool false))))
   | .ae (.tuple _)=>skip s
   |_=>False)
  |none=>False)
theorem Br {d:Nat} {x:AV} (h:s.tmps d=x):s.put (some d) x=s:=by
 cases s with
 |mk f hp g=>
  simp only[AS.put]
  congr 1
  funext t
  rw[fc]
  split
  ·rename_i ht;subst ht;exact h.symm
  ·rfl
theorem KG.cases {l:List Oper} {o:Oper} {run skip:AS Unit→Prop} (h:KG l o s run skip):
  (o.guard=none∧run s)∨(∃j want b,o.guard=some (j,want)∧gS l.toArray s j=some (some b)∧((b=want∧run s)∨(¬b=want∧skip s)))∨(∃j want,o.guard=some (j,want)∧gS l.toArray s j=some none∧skip s):=by
 unfold KG at h
 split at h
 ·rename_i hg;exact .inl ⟨hg,h⟩
 ·rename_i j want hg
  split at h
  ·rename_i d hd
   split at h
   ·rename_i b hb
    refine .inr (.inl ⟨j,want,b,hg,?_,?_⟩)
    ·unfold gS
     simp only[List.getElem?_toArray,hd,hb]
    ·have:=h.elim
     cases b with
     |true=>
      have h1:=this.1 rfl
      rw[Br hb] at h1
      cases want with
      |true=>exact .inl ⟨rfl,h1⟩
      |false=>exact .inr ⟨by simp,h1⟩
     |false=>
      have h1:=this.2 rfl
      rw[Br hb] at h1
      cases want with
      |true=>exact .inr ⟨by simp,h1⟩
      |false=>exact .inl ⟨rfl,h1⟩
   ·rename_i v hb
    refine .inr (.inr ⟨j,want,hg,?_,h⟩)
    unfold gS
    simp only[List.getElem?_toArray,hd,hb]
   ·exact h.elim
  ·exact h.elim
def qc (C:cm) (l0:List Oper) (K:AS Unit→Prop):List Oper→AS Unit→Prop
 | [],s=>K s
 |o::rest,s=>KG l0 o s (fun s=>gu C o s (qc C l0 K rest)) (fun s=>match tk C.nt o.dst with|true=>qc C l0 K rest (s.put o.dst (.ae (.tuple #[])))|false=>False)
theorem qc.J0 {C:cm} (ao:Γ.Ok) (hP:C.P=Γ.P) (ah:aQ Γ.P C.tab) (cC:C.nt=Γ.nt) {l0 rest:List Oper} {K K':AS Unit→Prop} (hK:∀s,K' s→fB Γ l0.toArray K rest s):∀(l:List Oper) (s:AS Unit),qc C l0 K' l s→fB Γ l0.toArray K (l++rest) s:=by
 intro l
 induction l with
 |nil=>intro s h;exact hK s h
 |cons o l ih=>
  intro s h
  have skip:(match tk C.nt o.dst with|true=>qc C l0 K' l (s.put o.dst (.ae (.tuple #[])))|false=>False)→cx Γ.nt o.dst∧fB Γ l0.toArray K (l++rest) (s.put o.dst (.ae (.tuple #[]))):=by
   intro h
   split at h
   ·rename_i hd
    exact⟨by rw[←cC];exact fX hd,ih _ h⟩
   ·exact h.elim
  rw[List.cons_append]
  rcases KG.cases h with⟨hg,h⟩|⟨j,want,b,hg,hb,⟨gM,h⟩|⟨gM,h⟩⟩|⟨j,want,hg,hb,h⟩
  ·exact fB.step (fun a w η _=>by simp[Region.wanted,hg]) (gu.sound ao hP ah cC h ih)
  ·exact fB.step (fun a w η hr=>by simp[Region.wanted,hg,dD hr hb,gM]) (gu.sound ao hP ah cC h ih)
  ·obtain⟨h1,h2⟩:=skip h
   exact fB.skip (fun a w η hr=>by simp[Region.wanted,hg,dD hr hb,gM]) h1 h2
  ·obtain⟨h1,h2⟩:=skip h
   exact fB.skip (fun a w η hr=>by simp[Region.wanted,hg,dD hr hb]) h1 h2
theorem qc.sound {C:cm} (ao:Γ.Ok) (hP:C.P=Γ.P) (ah:aQ Γ.P C.tab) (cC:C.nt=Γ.nt) {l0:List Oper} {K:AS Unit→Prop} (l:List Oper) (s:AS Unit) (h:qc C l0 K l s):fB Γ l0.toArray K l s:=by
 have:=qc.J0 ao hP ah cC (rest:=[]) (fun s h a w η Qc hQ hr=>hQ s a w η h hr) l s h
 rwa [List.append_nil] at this
def uR (x:Operand) (d:Nat):Bool:=
 match x with
 | .tmp t=>Nat.beq t d
 |_=>false
theorem uS {x:Operand} {d:Nat} (h:uR x d=true):x=.tmp d:=by
 unfold uR at h
 split at h
 ·rw[Nat.eq_of_beq_eq_true h]
 ·cases h
def rm1 (C:cm) (s:AS Unit) (o:Oper):Option (Nat×Nat×TD×Int×Nat):=
 match o.guard,o.op,o.dst with
 |none,.call c,some d1=>(match c.callee,c.args.toList,c.argTypes.toList with
  | .builtin .append,[b,z],[T,T']=>(match s.ev b,s.ev z,ng C.tab T,(C.tab T').map TD.kind with
   | .ae (.slice none 0 0),.ae (.int .i64 n),some (e,_,d'),some (.int _)=>some (T,e,d',n,d1)
   |_,_,_,_=>none)
  |_,_,_=>none)
 |_,_,_=>none
def rm2 (s:AS Unit) (o:Oper) (d1:Nat):Option Nat:=
 match o.guard,o.op,o.dst with
 |none,.move x,some d2=>(match s.ev x,uR x d1 with
  | .ae (.slice none 0 0),false=>some d2
  |_,_=>none)
 |_,_,_=>none
def rm3 (o:Oper) (T d2:Nat):Option Nat:=
 match o.guard,o.op,o.dst with
 |none,.call c,some d3=>(match c.callee,c.args.toList,c.argTypes.toList with
  | .builtin .len,[x],[T3]=>(match uR x d2&&Nat.beq T3 T with
   |true=>some d3
   |false=>none)
  |_,_,_=>none)
 |_,_,_=>none
def rm4 (o:Oper) (T d1 d3:Nat):Option Nat:=
 match o.guard,o.op,o.dst with
 |none,.slice T4 x none (some y) none,some d4=>(match Nat.beq T4 T&&(uR x d1&&uR y d3) with
  |true=>some d4
  |false=>none)
 |_,_,_=>none
def rmB (nt d1 d2 d3 d4:Nat) (d:TD):Bool:=(Nat.blt d1 nt&&(Nat.blt d2 nt&&(Nat.blt d3 nt&&Nat.blt d4 nt)))&&((!Nat.beq d1 d2&&!Nat.beq d1 d3)&&Nat.blt 0 d.size)
def Bs (C:cm) (l0:List Oper) (K:AS Unit→Prop) (s:AS Unit):List Oper→Prop
 |o1::o2::o3::o4::rest=>(match rm1 C s o1 with
  |some (T,e,d',n,d1)=>(match rm2 s o2 d1 with
   |some d2=>(match rm3 o3 T d2 with
    |some d3=>(match rm4 o4 T d1 d3 with
     |some d4=>okB (rmB C.nt d1 d2 d3 d4 d') ((0<n∧n.toNat≤maxLen∧n.toNat*d'.bytes≤140737488355328)∧
       qc C l0 K rest (AS.put (AS.put (AS.put (AS.put { s with hp:=s.hp++[.row e d'.size []] } (some d1) .top) (some d2) (.ae (.slice none 0 0))) (some d3) (.ae (.int .i64 0))) (some d4) (.own s.hp.length 0)))
     |none=>False)
    |none=>False)
   |none=>False)
  |none=>False)
 |_=>False
theorem Bs.sound {C:cm} (ao:Γ.Ok) (hP:C.P=Γ.P) (ah:aQ Γ.P C.tab) (cC:C.nt=Γ.nt) {l0:List Oper} {K:AS Unit→Prop} {l:List Oper} {s:AS Unit} (h:Bs C l0 K s l):fB Γ l0.toArray K l s:=by
 unfold Bs at h
 split at h
 ·rename_i o1 o2 o3 o4 rest
  split at h
  ·rename_i T e d' n d1 h1
   split at h
   ·rename_i d2 h2
    split at h
    ·rename_i d3 h3
     split at h
     ·rename_i d4 h4
      obtain⟨hb,⟨hn,hm,DI⟩,FD⟩:=bE h
      unfold rmB at hb
      simp only[Bool.and_eq_true,Bool.not_eq_true'] at hb
      obtain⟨⟨l1,l2,l3,l4⟩,⟨X2,X3⟩,bC⟩:=hb
      have ak:∀{d:Nat},Nat.blt d C.nt=true→d<Γ.nt:=fun h=>by rw[←cC];exact Nat.le_of_ble_eq_true h
      have bh:∀{x y:Nat},Nat.beq x y=false→x≠y:=fun h e=>by subst e;rw[Nat.beq_refl] at h;cases h
      obtain⟨m,rfl⟩:∃m:Nat,n=(m:Int):=⟨n.toNat,by omega⟩
      rw[Int.toNat_natCast] at hm DI
      unfold rm1 at h1
      split at h1
      ·rename_i c1 d1' g1 p1 t1
       split at h1
       ·rename_i b z T1 T' yn aw fO
        split at h1
        ·rename_i dd ik mO X1 hs hT'
         simp only[Option.some.injEq,Prod.mk.injEq] at h1
         obtain⟨rfl,rfl,rfl,rfl,rfl⟩:=h1
         obtain⟨q1,q2,q3⟩:=uL hs
         obtain⟨dz,q4,q5⟩:=Option.map_eq_some_iff.1 hT'
         unfold rm2 at h2
         split at h2
         ·rename_i x d2' g2 p2 t2
          split at h2
          ·rename_i hx Xl
           obtain rfl:=Option.some.inj h2
           unfold rm3 at h3
           split at h3
           ·rename_i c3 d3' g3 p3 t3
            split at h3
            ·rename_i y T3 Ur Sn Yl
             split at h3
             ·rename_i TX
              obtain rfl:=Option.some.inj h3
              rw[Bool.and_eq_true] at TX
              have ey:=uS TX.1
              have eT:=Nat.eq_of_beq_eq_true TX.2
              subst ey;subst eT
              unfold rm4 at h4
              split at h4
              ·rename_i T4 x4 y4 d4' g4 p4 t4
               split at h4
               ·rename_i Xp
                obtain rfl:=Option.some.inj h4
                simp only[Bool.and_eq_true] at Xp
                have e1:=uS Xp.2.1
                have e2:=uS Xp.2.2
                have e3:=Nat.eq_of_beq_eq_true Xp.1
                subst e1;subst e2;subst e3
                exact fB.room ao ah (n:=m) g1 g2 g3 g4 p1 yn (by rw[←Array.toArray_toList (xs:=c1.args),aw]) (by rw[←Array.toArray_toList (xs:=c1.argTypes),fO]) q1 q2 q3 q4 q5 (Nat.le_of_ble_eq_true bC) mO X1 (by omega) hm DI
                 p2 hx (fun e=>by rw[e] at Xl;simp[uR] at Xl) p3 Ur (by rw[←Array.toArray_toList (xs:=c3.args),Sn]) (by rw[←Array.toArray_toList (xs:=c3.argTypes),Yl]) p4 t1 t2 t3 t4 (ak l1) (ak l2) (ak l3) (ak l4) (bh X2) (bh X3) (qc.sound ao hP ah cC _ _ FD)
               ·cases h4
              ·cases h4
             ·cases h3
            ·cases h3
           ·cases h3
          ·cases h2
         ·cases h2
        ·cases h1
       ·cases h1
      ·cases h1
     ·exact h.elim
    ·exact h.elim
   ·exact h.elim
  ·exact h.elim
 ·exact h.elim
def Ut:List (Nat×Nat)→Nat→Option Nat
 | [],_=>none
 |p::l,k=>(match Nat.beq p.1 k with
  |true=>some p.2
  |false=>Ut l k)
def Bt (C:cm) (id:Nat) (l:List Oper) (K:AS Unit→Prop) (s:AS Unit):Prop:=
 match Ut C.rm id with
 |none=>qc C l K l s
 |some k=>qc C l (fun s=>Bs C l K s (l.drop k)) (l.take k) s
theorem Bt.sound {C:cm} (ao:Γ.Ok) (hP:C.P=Γ.P) (ah:aQ Γ.P C.tab) (cC:C.nt=Γ.nt) {id:Nat} {K:AS Unit→Prop} {l:List Oper} {s:AS Unit} (h:Bt C id l K s):fB Γ l.toArray K l s:=by
 unfold Bt at h
 split at h
 ·exact qc.sound ao hP ah cC l s h
 ·rename_i k _
  have:=qc.J0 ao hP ah cC (rest:=l.drop k) (fun s h=>Bs.sound ao hP ah cC h) _ _ h
  rwa [List.take_append_drop] at this
def jj (C:cm) (o:Oper) (s:AS Unit) (next:AS Unit→Prop):Prop:=
 match Hh C.tab C.IU s.hp s.ev o.op (fun r=>next (s.put o.dst r)) with
 |some p=>p
 |none=>(match nh s o.op with
  |some (f,args)=>(match Bn C f o with
   | .one sh=>fg (cd (AV.bz s.hp) args).1 (R8 [] sh fun x=>ag C.P f (cd (AV.bz s.hp) args).2 x∧next (s.put o.dst x))
   |_=>False)
  |none=>False)
theorem jj.sound {C:cm} (hP:C.P=Γ.P) {o:Oper} {next N R:AS Unit→Prop} (h:jj C o s next) (h1:∀s,next s→N s) (h2:∀s,next s→R s):DStep Γ C.tab o s N R:=by
 unfold jj at h
 split at h
 ·rename_i p hp
  obtain⟨c,r,g1,g2,g3⟩:=tG hp h
  unfold DStep
  rw[g1]
  exact⟨g2,h1 _ g3⟩
 ·split at h
  ·rename_i f args aw
   split at h
   rotate_left
   ·exact h.elim
   rw[bf] at h
   obtain⟨fq,h⟩:=h
   obtain⟨x',tH,uQ⟩:=o6 h
   rw[←bO (g:=AV.bj s.hp) (fun x=>cF) _ fq,hP] at tH
   rw[iR] at aw
   unfold je at aw
   split at aw
   ·rename_i c hc
    split at aw
    ·rename_i x hx
     split at aw
     ·rename_i f' caps cS
      simp only[Option.some.injEq,Prod.mk.injEq] at aw
      obtain⟨rfl,rfl⟩:=aw
      unfold DStep
      rw[hc]
      have Nr:bk C.tab s.hp s.ev (.call c)=none:=by simp only[bk,hx]
      have ri:ef s (.call c)=some (f',(c.args.toList.map s.ev++caps).map (AV.bj s.hp)):=by simp only[ef,hx,cS]
      rw[Nr,ri]
      exact⟨x',tH,h2 _ uQ⟩
     ·cases aw
    ·cases aw
   ·cases aw
  ·exact h.elim
def qd (C:cm) (l0:List Oper) (K:AS Unit→Prop):List Oper→AS Unit→Prop
 | [],s=>K s
 |o::rest,s=>(match tk C.nt o.dst with
  |false=>False
  |true=>(match bP o.op with
   |true=>(match o.guard with
    |none=>(match Bm C.tab s.hp s.ev o.op (fun r hp'=>qd C l0 K rest (AS.put { s with hp:=hp' } o.dst r)) with
     |some p=>p
     |none=>False)
    |some _=>False)
   |false=>KG l0 o s (fun s=>jj C o s (qd C l0 K rest)) (fun s=>qd C l0 K rest (s.put o.dst (.ae (.tuple #[]))))))
theorem qd.sound {C:cm} (ao:Γ.Ok) (hP:C.P=Γ.P) (ah:aQ Γ.P C.tab) (cC:C.nt=Γ.nt) {l0:List Oper} {K:AS Unit→Prop}:∀(l:List Oper) (s:AS Unit),qd C l0 K l s→kN Γ C.tab C.nt l0.toArray K l s:=by
 intro l
 induction l with
 |nil=>intro s h;exact h
 |cons o rest ih=>
  intro s h
  simp only[qd] at h
  simp only[kN]
  split at h
  ·exact h.elim
  rename_i hd
  have hd:=fX hd
  split at h
  ·rename_i he
   rw[if_pos he]
   split at h
   ·rename_i hg
    split at h
    ·rename_i p hp
     obtain⟨c,r,hp',g1,g2,g3⟩:=nY hp h
     rw[g1]
     exact⟨hd,hg,g2,ih _ g3⟩
    ·exact h.elim
   ·exact h.elim
  ·rename_i he
   rw[if_neg (by rw[he];simp)]
   refine⟨hd,?_⟩
   have kW:∀s,qd C l0 K rest s→rj Γ l0.toArray K rest s:=fun s h=>kN.sound ao ah cC rest s (ih s h)
   rcases KG.cases h with⟨hg,h⟩|⟨j,want,b,hg,hb,⟨gM,h⟩|⟨gM,h⟩⟩|⟨j,want,hg,hb,h⟩
   ·rw[hg]
    exact jj.sound hP h ih kW
   ·rw[hg]
    dsimp only
    rw[hb]
    exact⟨fun _=>jj.sound hP h ih kW,fun hn=>(hn gM).elim⟩
   ·rw[hg]
    dsimp only
    rw[hb]
    exact⟨fun hn=>(gM hn).elim,fun _=>ih _ h⟩
   ·rw[hg]
    dsimp only
    rw[hb]
    exact ih _ h
def NS (ρ:Operand→AV):Op→Option Nat
 | .store _ p _=>(match ρ p with | .ptr r _=>some r | .eH r _ _ _=>some r|_=>none)
 | .mapUpdate _ m _ _=>(match ρ m with | .mp r=>some r|_=>none)
 | .call c=>(match c.args.toList with
  |b::_=>(match ρ b with | .own r _=>some r|_=>none)
  | []=>none)
 |_=>none
theorem Sp {tab:Nat→Option TD} {hp hp':List af} {ρ:Operand→AV} {op:Op} {c:Prop} {r:AV} (h:cT tab hp ρ op=some (c,r,hp')):
  (∃o,hp'=hp++[o])∨∃q o,NS ρ op=some q∧hp'=hp.set q o:=by
 cases op with
 |alloc T=>
  simp only[cT] at h
  split at h
  ·simp only[Option.some.injEq,Prod.mk.injEq] at h;exact .inl ⟨_,h.2.2.symm⟩
  ·cases h
 |box T x=>
  simp only[cT] at h
  split at h
  ·simp only[Option.some.injEq,Prod.mk.injEq] at h;exact .inl ⟨_,h.2.2.symm⟩
  ·cases h
 |store T p x=>
  simp only[cT] at h
  split at h
  ·rename_i d r' o hd ff
   split at h
   ·split at h
    ·simp only[Option.some.injEq,Prod.mk.injEq] at h
     exact .inr ⟨r',_,by simp only[NS,ff],h.2.2.symm⟩
    ·cases h
   ·cases h
  ·rename_i d r' m i z hd ff
   split at h
   ·split at h
    ·split at h
     ·simp only[Option.some.injEq,Prod.mk.injEq] at h
      exact .inr ⟨r',_,by simp only[NS,ff],h.2.2.symm⟩
     ·simp only[Option.some.injEq,Prod.mk.injEq] at h
      exact .inr ⟨r',_,by simp only[NS,ff],h.2.2.symm⟩
    ·cases h
   ·cases h
  ·cases h
 |makeSlice T l c=>
  simp only[cT] at h
  split at h
  ·split at h
   ·split at h
    ·split at h
     ·split at h
      ·simp only[Option.some.injEq,Prod.mk.injEq] at h;exact .inl ⟨_,h.2.2.symm⟩
      ·cases h
     ·cases h
    split at h
    ·simp only[Option.some.injEq,Prod.mk.injEq] at h;exact .inl ⟨_,h.2.2.symm⟩
    ·cases h
   ·cases h
  ·cases h
 |makeMap T x=>
  cases x with
  |some x=>simp[cT] at h
  |none=>
   simp only[cT] at h
   split at h
   ·split at h
    ·split at h
     ·split at h
      ·simp only[Option.some.injEq,Prod.mk.injEq] at h;exact .inl ⟨_,h.2.2.symm⟩
      ·simp only[Option.some.injEq,Prod.mk.injEq] at h;exact .inl ⟨_,h.2.2.symm⟩
     ·cases h
    ·cases h
   ·cases h
 |mapUpdate T m k x=>
  simp only[cT] at h
  split at h
  ·rename_i d r' a v hd hm hk hx
   split at h
   ·split at h
    ·split at h
     ·simp only[Option.some.injEq,Prod.mk.injEq] at h
      exact .inr ⟨r',_,by simp only[NS,hm],h.2.2.symm⟩
     ·cases h
    ·cases h
   ·cases h
  ·rename_i d r' a v hd hm hk hx
   split at h
   ·split at h
    ·split at h
     ·simp only[Option.some.injEq,Prod.mk.injEq] at h
      exact .inr ⟨r',_,by simp only[NS,hm],h.2.2.symm⟩
     ·cases h
    ·cases h
   ·cases h
  ·cases h
 |call c=>
  simp only[cT] at h
  split at h
  ·rename_i b x T T' hb hl hT
   split at h
   ·split at h
    ·split at h
     ·split at h
      ·split at h
       ·simp only[Option.some.injEq,Prod.mk.injEq] at h;exact .inl ⟨_,h.2.2.symm⟩
       ·simp only[Option.some.injEq,Prod.mk.injEq] at h;exact .inl ⟨_,h.2.2.symm⟩
       ·rename_i r' n mO
        split at h
        ·split at h
         ·simp only[Option.some.injEq,Prod.mk.injEq] at h
          exact .inr ⟨r',_,by simp only[NS,hl,mO],h.2.2.symm⟩
         ·cases h
        ·split at h
         ·simp only[Option.some.injEq,Prod.mk.injEq] at h
          exact .inr ⟨r',_,by simp only[NS,hl,mO],h.2.2.symm⟩
         ·cases h
        ·cases h
       ·cases h
      ·cases h
     ·cases h
    ·cases h
   ·cases h
  ·cases h
 |_=>simp[cT] at h
theorem kR.same (l:List Nat):∀(hp:List af) (q:Nat) (more:List af),kR l q hp (hp++more)
 | [],_,_=>True.intro
 |_::hp,q,more=>⟨.inr rfl,kR.same l hp (q+1) more⟩
theorem kR.refl (l:List Nat) (hp:List af) (q:Nat):kR l q hp hp:=by
 have:=kR.same l hp q []
 rwa [List.append_nil] at this
theorem kR.set (l:List Nat):∀(hp:List af) (q r:Nat) (o:af),q+r∈l→kR l q hp (hp.set r o)
 | [],_,_,_,_=>True.intro
 |_::hp,q,0,o,h=>⟨.inl h,kR.refl l hp (q+1)⟩
 |_::hp,q,r+1,o,h=>⟨.inr rfl,kR.set l hp (q+1) r o (by rw[show q+1+r=q+(r+1) from by omega];exact h)⟩
def Eo:List Nat→Nat→Bool
 | [],_=>false
 |x::l,k=>(match Nat.beq x k with|true=>true|false=>Eo l k)
theorem yr:∀{l:List Nat} {k:Nat},Eo l k=true→k∈l
 | [],_,h=>by cases h
 |x::l,k,h=>by
  simp only[Eo] at h
  split at h
  ·rename_i hx;rw[Nat.eq_of_beq_eq_true hx];exact List.mem_cons_self
  ·exact List.mem_cons_of_mem _ (yr h)
def nm:List (Option (List Nat))→Nat→Option (List Nat)
 | [],_=>none
 |x::_,0=>x
 |_::l,n+1=>nm l n
theorem dW:∀(l:List (Option (List Nat))) (n:Nat),nm l n=l.getD n none
 | [],n=>by simp[nm]
 |x::l,0=>by simp[nm]
 |x::l,n+1=>by simp only[nm,dW l n,List.getD_cons_succ]
def J1 (m:Option (List Nat)) (ρ:Operand→AV) (op:Op):Bool:=
 match m with
 |none=>true
 |some l=>(match NS ρ op with
  |none=>true
  |some q=>Eo l q)
theorem yt {tab:Nat→Option TD} {hp hp':List af} {ρ:Operand→AV} {op:Op} {c:Prop} {r:AV} {m:Option (List Nat)} (hb:J1 m ρ op=true) (h:cT tab hp ρ op=some (c,r,hp')):
  ∀l,m=some l→kR l 0 hp hp':=by
 intro l hm
 subst hm
 ·rcases Sp h with⟨o,rfl⟩|⟨q,o,hq,rfl⟩
  ·exact kR.same l hp 0 [o]
  ·simp only[J1,hq] at hb
   exact kR.set l hp 0 q o (by rw[Nat.zero_add];exact yr hb)
def dX (C:cm) (m:Option (List Nat)) (o:Oper) (s:AS Unit) (next:AS Unit→Prop):Prop:=
 match fj o.op with
 |true=>(match Hh C.tab C.IU s.hp s.ev o.op (fun r=>next (s.put o.dst r)) with
  |some p=>p
  |none=>False)
 |false=>(match m with
  |none=>jj C o s next
  |some K=>okB ((nX o.op).all fun x=>(s.ev x).closed (kill K s.hp).length) (okB ((kill K s.hp).all fun ob=>af.closed (kill K s.hp).length ob)
   (match Hh C.tab C.IU (kill K s.hp) s.ev o.op (fun r=>okB (r.held (kill K s.hp)) (next (s.put o.dst r))) with
   |some p=>p
   |none=>(match nh s o.op with
    |some (f,args)=>(match Bn C f o with
     | .one sh=>fg (cd (AV.bz (kill K s.hp)) args).1 (R8 [] sh fun x=>ag C.P f (cd (AV.bz (kill K s.hp)) args).2 x∧okB (x.held (kill K s.hp)) (next (s.put o.dst x)))
     |_=>False)
    |none=>False))))
theorem Bu {s:AS Unit} {op:Op} {f:Nat} {args:List AV} (h:nh s op=some (f,args)) (tab:Nat→Option TD) (hp:List af):
  bk tab hp s.ev op=none∧ef { s with hp:=hp } op=some (f,args.map (AV.bj hp)):=by
 rw[iR] at h
 unfold je at h
 split at h
 ·rename_i c
  split at h
  ·rename_i x hx
   split at h
   ·rename_i f' caps cS
    simp only[Option.some.injEq,Prod.mk.injEq] at h
    obtain⟨rfl,rfl⟩:=h
    refine⟨by simp only[bk,hx],?_⟩
    have Ym:(AS.ev { s with hp:=hp } x)=.aK f' caps:=by rw[←cS];cases x<;>rfl
    have hm:c.args.toList.map (AS.ev { s with hp:=hp })=c.args.toList.map s.ev:=List.map_congr_left fun y _=>by cases y<;>rfl
    simp only[ef,hx,Ym,hm]
   ·cases h
  ·cases h
 ·cases h
theorem dX.sound {C:cm} (hP:C.P=Γ.P) {m:Option (List Nat)} {o:Oper} {next N R:AS Unit→Prop} (h:dX C m o s next) (h1:∀s,next s→N s) (h2:∀s,next s→R s):fU Γ C.tab m o s N R:=by
 unfold dX at h
 unfold fU
 split at h
 ·rename_i hh
  rw[if_pos hh]
  split at h
  ·rename_i p hp
   obtain⟨c,r,g1,g2,g3⟩:=tG hp h
   rw[g1]
   exact⟨g2,h1 _ g3⟩
  ·exact h.elim
 ·rename_i hh
  rw[if_neg (by rw[hh];simp)]
  cases m with
  |none=>exact jj.sound hP h h1 h2
  |some K=>
   dsimp only at h ⊢
   obtain⟨M3,h⟩:=bE h
   obtain⟨Fy,h⟩:=bE h
   refine⟨M3,fun ob cW=>List.all_eq_true.1 Fy ob cW,?_⟩
   split at h
   ·rename_i p hp
    obtain⟨c,r,g1,g2,g3⟩:=tG hp h
    obtain⟨g4,g5⟩:=bE g3
    rw[g1]
    exact⟨g2,g4,h1 _ g5⟩
   ·split at h
    ·rename_i f args aw
     split at h
     rotate_left
     ·exact h.elim
     rw[bf] at h
     obtain⟨fq,h⟩:=h
     obtain⟨x',tH,uQ⟩:=o6 h
     obtain⟨g4,g5⟩:=bE uQ
     rw[←bO (g:=AV.bj (kill K s.hp)) (fun x=>cF) _ fq,hP] at tH
     obtain⟨q1,q2⟩:=Bu aw C.tab (kill K s.hp)
     rw[q1,q2]
     exact⟨x',tH,g4,h2 _ g5⟩
    ·exact h.elim
def qe (C:cm) (l0:List Oper) (Cl M:List (Option (List Nat))) (K:AS Unit→Prop):Nat→List Oper→AS Unit→Prop
 |_,[],s=>K s
 |k,o::rest,s=>(match tk C.nt o.dst with
  |false=>False
  |true=>(match bP o.op with
   |true=>(match o.guard with
    |none=>okB (J1 (nm Cl k) s.ev o.op) (match Bm C.tab s.hp s.ev o.op (fun r hp'=>qe C l0 Cl M K (k+1) rest (AS.put { s with hp:=hp' } o.dst r)) with
     |some p=>p
     |none=>False)
    |some _=>False)
   |false=>KG l0 o s (fun s=>dX C (nm M k) o s (qe C l0 Cl M K (k+1) rest)) (fun s=>qe C l0 Cl M K (k+1) rest (s.put o.dst (.ae (.tuple #[]))))))
theorem qe.sound {C:cm} (acb:Γ.Ok) (hP:C.P=Γ.P) (ah:aQ Γ.P C.tab) (cC:C.nt=Γ.nt) {l0:List Oper} {Cl M:List (Option (List Nat))} {K:AS Unit→Prop}:∀(l:List Oper) (k:Nat) (s:AS Unit),qe C l0 Cl M K k l s→kS Γ C.tab C.nt l0.toArray Cl M K k l s:=by
 intro l
 induction l with
 |nil=>intro k s h;exact h
 |cons o rest ih=>
  intro k s h
  simp only[qe] at h
  simp only[kS]
  split at h
  ·exact h.elim
  rename_i hd
  have hd:=fX hd
  split at h
  ·rename_i he
   rw[if_pos he]
   split at h
   ·rename_i hg
    obtain⟨Bv,h⟩:=bE h
    split at h
    ·rename_i p hp
     obtain⟨c,r,hp',g1,g2,g3⟩:=nY hp h
     have:=yt Bv g1
     rw[dW] at this
     rw[g1]
     refine⟨hd,hg,g2,?_,ih _ _ g3⟩
     split
     ·trivial
     ·rename_i l hl;exact this l hl
    ·exact h.elim
   ·exact h.elim
  ·rename_i he
   rw[if_neg (by rw[he];simp)]
   refine⟨hd,?_⟩
   have kW:∀s,qe C l0 Cl M K (k+1) rest s→mu Γ l0.toArray Cl M K (k+1) rest s:=fun s h=>kS.sound ah cC rest (k+1) s (ih _ s h)
   rcases KG.cases h with⟨hg,h⟩|⟨j,want,b,hg,hb,⟨gM,h⟩|⟨gM,h⟩⟩|⟨j,want,hg,hb,h⟩
   ·rw[hg]
    dsimp only
    rw[dW] at h
    exact dX.sound hP h (ih _) kW
   ·rw[hg]
    dsimp only
    rw[hb]
    rw[dW] at h
    exact⟨fun _=>dX.sound hP h (ih _) kW,fun hn=>(hn gM).elim⟩
   ·rw[hg]
    dsimp only
    rw[hb]
    exact⟨fun hn=>(gM hn).elim,fun _=>ih _ _ h⟩
   ·rw[hg]
    dsimp only
    rw[hb]
    exact ih _ _ h
def aZ (hs:List Nat) (o:Oper):Bool:=
 match o.op with
 | .call c=>(match c.callee with
  | .value (.func f)=>Eo hs f
  | .value (.tmp t)=>Eo hs (t+1000000)
  |_=>false)
 |_=>false
def oL (C:cm) (hs:List Nat) (l0:List Oper) (K:AS Unit→Prop):List Oper→AS Unit→Prop
 | [],s=>K s
 |o::rest,s=>(match tk C.nt o.dst with
  |false=>False
  |true=>(match bP o.op with
   |true=>(match o.guard with
    |none=>(match Bm C.tab s.hp s.ev o.op (fun r hp'=>oL C hs l0 K rest (AS.put { s with hp:=hp' } o.dst r)) with
     |some p=>p
     |none=>False)
    |some _=>False)
   |false=>(match aZ hs o with
    |true=>KG l0 o s (fun s=>gu C o s (oL C hs l0 K rest)) (fun s=>oL C hs l0 K rest (s.put o.dst (.ae (.tuple #[]))))
    |false=>KG l0 o s (fun s=>jj C o s (oL C hs l0 K rest)) (fun s=>oL C hs l0 K rest (s.put o.dst (.ae (.tuple #[])))))))
theorem oL.sound {C:cm} (ao:Γ.Ok) (hP:C.P=Γ.P) (ah:aQ Γ.P C.tab) (cC:C.nt=Γ.nt) {hs:List Nat} {l0:List Oper} {K:AS Unit→Prop}:∀(l:List Oper) (s:AS Unit),oL C hs l0 K l s→iD Γ l0.toArray (aZ hs) K l s:=by
 intro l
 induction l with
 |nil=>intro s h;exact h
 |cons o rest ih=>
  intro s h
  simp only[oL] at h
  simp only[iD]
  split at h
  ·exact h.elim
  rename_i hd
  have hd:=fX hd
  rw[cC] at hd
  split at h
  ·rename_i he
   rw[if_pos he]
   split at h
   ·rename_i hg
    split at h
    ·rename_i p hp
     obtain⟨c,r,hp',g1,g2,g3⟩:=nY hp h
     exact⟨hd,hg,r,hp',gB ao ah g1 g2,ih _ g3⟩
    ·exact h.elim
   ·exact h.elim
  ·rename_i he
   rw[if_neg (by rw[he];simp)]
   split at h
   ·rename_i hh
    rw[if_pos hh]
    rcases KG.cases h with⟨hg,h⟩|⟨j,want,b,hg,hb,⟨gM,h⟩|⟨gM,h⟩⟩|⟨j,want,hg,hb,h⟩
    ·exact .inl ⟨by simp[aG,hg],gu.sound ao hP ah cC h ih⟩
    ·exact .inl ⟨by simp[aG,hg,hb,gM],gu.sound ao hP ah cC h ih⟩
    ·exact .inr ⟨by simp[aG,hg,hb,gM],hd,ih _ h⟩
    ·exact .inr ⟨by simp[aG,hg,hb],hd,ih _ h⟩
   ·rename_i hh
    rw[if_neg (by rw[hh];simp)]
    rcases KG.cases h with⟨hg,h⟩|⟨j,want,b,hg,hb,⟨gM,h⟩|⟨gM,h⟩⟩|⟨j,want,hg,hb,h⟩
    ·obtain⟨x,h3,h4⟩:=DStep.sound (ops:=l0.toArray) ao ah (jj.sound (Γ:=Γ) (N:=iD Γ l0.toArray (aZ hs) K rest) (R:=iD Γ l0.toArray (aZ hs) K rest) hP h ih ih) (fun _ h=>h) (fun _ h=>h)
     exact⟨x,⟨hd,.inl ⟨by simp[aG,hg],h3⟩⟩,h4⟩
    ·obtain⟨x,h3,h4⟩:=DStep.sound (ops:=l0.toArray) ao ah (jj.sound (Γ:=Γ) (N:=iD Γ l0.toArray (aZ hs) K rest) (R:=iD Γ l0.toArray (aZ hs) K rest) hP h ih ih) (fun _ h=>h) (fun _ h=>h)
     exact⟨x,⟨hd,.inl ⟨by simp[aG,hg,hb,gM],h3⟩⟩,h4⟩
    ·exact⟨_,⟨hd,.inr ⟨by simp[aG,hg,hb,gM],rfl⟩⟩,ih _ h⟩
    ·exact⟨_,⟨hd,.inr ⟨by simp[aG,hg,hb],rfl⟩⟩,ih _ h⟩
def oM (C:cm) (hs:List Nat) (l0:List Oper) (Cl M:List (Option (List Nat))) (K:AS Unit→Prop):Nat→List Oper→AS Unit→Prop
 |_,[],s=>K s
 |k,o::rest,s=>(match tk C.nt o.dst with
  |false=>False
  |true=>(match bP o.op with
   |true=>(match o.guard with
    |none=>okB (J1 (nm Cl k) s.ev o.op) (match Bm C.tab s.hp s.ev o.op (fun r hp'=>oM C hs l0 Cl M K (k+1) rest (AS.put { s with hp:=hp' } o.dst r)) with
     |some p=>p
     |none=>False)
    |some _=>False)
   |false=>(match aZ hs o with
    |true=>KG l0 o s (fun s=>gu C o s (oM C hs l0 Cl M K (k+1) rest)) (fun s=>oM C hs l0 Cl M K (k+1) rest (s.put o.dst (.ae (.tuple #[]))))
    |false=>KG l0 o s (fun s=>dX C (nm M k) o s (oM C hs l0 Cl M K (k+1) rest)) (fun s=>oM C hs l0 Cl M K (k+1) rest (s.put o.dst (.ae (.tuple #[])))))))
theorem oM.sound {C:cm} (ao:Γ.Ok) (hP:C.P=Γ.P) (ah:aQ Γ.P C.tab) (cC:C.nt=Γ.nt) {hs:List Nat} {l0:List Oper} {Cl M:List (Option (List Nat))} {K:AS Unit→Prop}:∀(l:List Oper) (k:Nat) (s:AS Unit),oM C hs l0 Cl M K k l s→iE Γ l0.toArray (aZ hs) Cl M K k l s:=by
 intro l
 induction l with
 |nil=>intro k s h;exact h
 |cons o rest ih=>
  intro k s h
  simp only[oM] at h
  simp only[iE]
  split at h
  ·exact h.elim
  rename_i hd
  have hd:=fX hd
  rw[cC] at hd
  split at h
  ·rename_i he
   rw[if_pos he]
   split at h
   ·rename_i hg
    obtain⟨Bv,h⟩:=bE h
    split at h
    ·rename_i p hp
     obtain⟨c,r,hp',g1,g2,g3⟩:=nY hp h
     have:=yt Bv g1
     rw[dW] at this
     refine⟨hd,hg,r,hp',fun pU yh e1 e2 e3=>gB yh (tab:=C.tab) (by rw[e1];exact ah) (c:=c) ?_ g2,?_,ih _ _ g3⟩
     ·rw[←g1];exact oW fun x hx=>iJ hx
     ·unfold jf
      split
      ·trivial
      ·rename_i l' hl
       have oE:=kR.fr (l:=l') s.hp hp' 0 (this l' hl)
       exact⟨oE.1,fun i ob hi ho=>oE.2 i ob (by simpa using hi) ho⟩
    ·exact h.elim
   ·exact h.elim
  ·rename_i he
   rw[if_neg (by rw[he];simp)]
   split at h
   ·rename_i hh
    rw[if_pos hh]
    rcases KG.cases h with⟨hg,h⟩|⟨j,want,b,hg,hb,⟨gM,h⟩|⟨gM,h⟩⟩|⟨j,want,hg,hb,h⟩
    ·exact .inl ⟨by simp[aG,hg],gu.sound ao hP ah cC h (ih (k+1))⟩
    ·exact .inl ⟨by simp[aG,hg,hb,gM],gu.sound ao hP ah cC h (ih (k+1))⟩
    ·exact .inr ⟨by simp[aG,hg,hb,gM],hd,ih _ _ h⟩
    ·exact .inr ⟨by simp[aG,hg,hb],hd,ih _ _ h⟩
   ·rename_i hh
    rw[if_neg (by rw[hh];simp)]
    rcases KG.cases h with⟨hg,h⟩|⟨j,want,b,hg,hb,⟨gM,h⟩|⟨gM,h⟩⟩|⟨j,want,hg,hb,h⟩
    ·rw[dW] at h
     obtain⟨x,h3,h4⟩:=fU.sound (ops:=l0.toArray) ah (dX.sound (Γ:=Γ) (N:=iE Γ l0.toArray (aZ hs) Cl M K (k+1) rest) (R:=iE Γ l0.toArray (aZ hs) Cl M K (k+1) rest) hP h (ih (k+1)) (ih (k+1))) (fun _ h=>h) (fun _ h=>h) (.inl hg)
     exact⟨x,⟨hd,.inl ⟨by simp[aG,hg],h3⟩⟩,h4⟩
    ·rw[dW] at h
     obtain⟨x,h3,h4⟩:=fU.sound (ops:=l0.toArray) ah (dX.sound (Γ:=Γ) (N:=iE Γ l0.toArray (aZ hs) Cl M K (k+1) rest) (R:=iE Γ l0.toArray (aZ hs) Cl M K (k+1) rest) hP h (ih (k+1)) (ih (k+1))) (fun _ h=>h) (fun _ h=>h) (.inr ⟨j,want,_,hg,hb⟩)
     exact⟨x,⟨hd,.inl ⟨by simp[aG,hg,hb,gM],h3⟩⟩,h4⟩
    ·exact⟨_,⟨hd,.inr ⟨by simp[aG,hg,hb,gM],rfl⟩⟩,ih _ _ h⟩
    ·exact⟨_,⟨hd,.inr ⟨by simp[aG,hg,hb],rfl⟩⟩,ih _ _ h⟩
def NT:List (Nat×List Nat)→Nat→Option (List Nat)
 | [],_=>none
 |p::l,k=>(match Nat.beq p.1 k with|true=>some p.2|false=>NT l k)
def Sq:List (Nat×List (Option (List Nat))×List (Option (List Nat)))→Nat→Option (List (Option (List Nat))×List (Option (List Nat)))
 | [],_=>none
 |p::l,k=>(match Nat.beq p.1 k with|true=>some p.2|false=>Sq l k)
end Go.Proofs.YtdcikhleahfknaaGreatDoor
