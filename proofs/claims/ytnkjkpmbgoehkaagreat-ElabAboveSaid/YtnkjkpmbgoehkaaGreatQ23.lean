/- Texts of ours laid together for a claim: VcC. -/
import Derived.Test.YtnkjkpmbgoehkaaGreatQ22
namespace Go.Proofs.YtnkjkpmbgoehkaaGreat
open Go
set_option linter.unusedSimpArgs false
set_option linter.unusedVariables false
inductive vJ where
 |i (k:IntKind)
 |b
 |s
 |l
 |c
 |m
 |ms
 |k (x:AV)
 |o (r:Nat)
 |fn
 |q (x:AV)
inductive sj where
 |c (x:vJ)
 |a (l:List vJ)
inductive Sh where
 |v (x:sj)
 |t (l:List sj)
 |f (fn:Nat) (l:List sj)
 |m (fn:Nat) (l:List sj)
inductive kL where
 |dead
 |box (l:List vJ)
 |row (e size:Nat)
 |bW
 |eg
 |iz (r:Nat)
 |aQ (e size:Nat)
 |eI (e:Nat)
def qv:List Nat->Nat->Nat
 | [],_=>0
 |x::_,0=>x
 |_::l,n+1=>qv l n
def Xz (lens:List Nat):vJ->(AV->Prop)->Prop
 | .i k,P=>∃n:Int,P (.ae (.int k n))
 | .b,P=>∃b:Bool,P (.ae (.bool b))
 | .s,P=>∃s:ByteArray,P (.ae (.string s))
 | .l,P=>∃l:List AV,P (.sl l)
 | .c,P=>∃l:List AV,P (.clip l)
 | .m,P=>∃l:List (Int×Value),P (.eY (.i l))
 | .ms,P=>∃l:List (ByteArray×Value),P (.eY (.s l))
 | .k x,P=>P x
 | .o r,P=>P (.own r (qv lens r))
 | .fn,P=>∃v:Value,P (.fn v)
 | .q x,P=>P x
def Jd (lens:List Nat):List vJ->(List AV->Prop)->Prop
 | [],P=>P []
 |sh::l,P=>Xz lens sh fun x=>Jd lens l fun xs=>P (x::xs)
def N8 (lens:List Nat):sj->(AV->Prop)->Prop
 | .c x,P=>Xz lens x P
 | .a l,P=>Jd lens l fun cs=>P (.agg cs)
def DL (lens:List Nat):List sj->(List AV->Prop)->Prop
 | [],P=>P []
 |sh::l,P=>N8 lens sh fun x=>DL lens l fun xs=>P (x::xs)
def XA (lens:List Nat):Sh->(AV->Prop)->Prop
 | .v x,P=>N8 lens x P
 | .t l,P=>DL lens l fun cs=>P (.av cs)
 | .f fn l,P=>DL lens l fun cs=>P (.bf fn cs)
 | .m fn l,P=>DL lens l fun cs=>P (.cB fn cs)
theorem Je {lens:List Nat} {sh:vJ} {P:AV->Prop} (h:Xz lens sh P):∃x,P x:=by
 cases sh with
 |i k=>obtain⟨n,h⟩:=h;exact⟨_,h⟩
 |b=>obtain⟨n,h⟩:=h;exact⟨_,h⟩
 |s=>obtain⟨n,h⟩:=h;exact⟨_,h⟩
 |q x=>exact⟨_,h⟩
 |l=>obtain⟨n,h⟩:=h;exact⟨_,h⟩
 |c=>obtain⟨n,h⟩:=h;exact⟨_,h⟩
 |m=>obtain⟨n,h⟩:=h;exact⟨_,h⟩
 |ms=>obtain⟨n,h⟩:=h;exact⟨_,h⟩
 |fn=>obtain⟨n,h⟩:=h;exact⟨_,h⟩
 |k x=>exact⟨_,h⟩
 |o r=>exact⟨_,h⟩
theorem xk {lens:List Nat}:∀{l:List vJ} {P:List AV->Prop},Jd lens l P->∃xs,P xs
 | [],_,h=>⟨_,h⟩
 |_::_,_,h=>by
  obtain⟨x,h⟩:=Je h;obtain⟨xs,h⟩:=xk h;exact⟨_,h⟩
theorem wb {lens:List Nat} {sh:sj} {P:AV->Prop} (h:N8 lens sh P):∃x,P x:=by
 cases sh with
 |c x=>exact Je h
 |a l=>obtain⟨cs,h⟩:=xk h;exact⟨_,h⟩
theorem sk {lens:List Nat}:∀{l:List sj} {P:List AV->Prop},DL lens l P->∃xs,P xs
 | [],_,h=>⟨_,h⟩
 |_::_,_,h=>by
  obtain⟨x,h⟩:=wb h;obtain⟨xs,h⟩:=sk h;exact⟨_,h⟩
theorem rf {lens:List Nat} {sh:Sh} {P:AV->Prop} (h:XA lens sh P):∃x,P x:=by
 cases sh with
 |v x=>exact wb h
 |t l=>obtain⟨cs,h⟩:=sk h;exact⟨_,h⟩
 |f fn l=>obtain⟨cs,h⟩:=sk h;exact⟨_,h⟩
 |m fn l=>obtain⟨cs,h⟩:=sk h;exact⟨_,h⟩
def TE:List kL->(List (List AV)->Prop)->Prop
 | [],P=>P []
 | .row _ _::l,P | .aQ _ _::l,P=>∃els:List AV,TE l fun ls=>P (els::ls)
 |_::l,P=>TE l fun ls=>P ([]::ls)
def N9:List (List AV)->List Nat
 | []=>[]
 |l::ls=>l.length::N9 ls
def ZE (lens:List Nat):kL->List AV->(ab->Prop)->Prop
 | .dead,_,P=>P .dead
 | .box l,_,P=>Jd lens l fun cs=>P (.box cs)
 | .row e size,els,P=>P (.row e size els)
 | .aQ e size,els,P=>P (.aQ e size els)
 | .bW,_,P=>∃es:List (Int×Value),P (.bW (.i es))
 | .iz r,_,P=>P (.iz r (qv lens r))
 | .eg,_,P=>∃es:List (ByteArray×Value),P (.bW (.s es))
 | .eI _,_,_=>False
def Oa (lens:List Nat):List kL->List (List AV)->(List ab->Prop)->Prop
 | [],_,P=>P []
 |o::l,els::ls,P=>ZE lens o els fun x=>Oa lens l ls fun xs=>P (x::xs)
 |_::_,[],_=>False
theorem TG {l:List kL}:∀{P:List (List AV)->Prop},TE l P->∃ls,P ls:=by
 induction l with
 |nil=>intro P h;exact⟨_,h⟩
 |cons o l ih=>
  intro P h
  cases o with
  |row e size=>obtain⟨els,h⟩:=h;obtain⟨ls,h⟩:=ih h;exact⟨_,h⟩
  |aQ e size=>obtain⟨els,h⟩:=h;obtain⟨ls,h⟩:=ih h;exact⟨_,h⟩
  |dead=>obtain⟨ls,h⟩:=ih (P:=fun ls=>P ([]::ls)) h;exact⟨_,h⟩
  |box l=>obtain⟨ls,h⟩:=ih (P:=fun ls=>P ([]::ls)) h;exact⟨_,h⟩
  |bW=>obtain⟨ls,h⟩:=ih (P:=fun ls=>P ([]::ls)) h;exact⟨_,h⟩
  |eg=>obtain⟨ls,h⟩:=ih (P:=fun ls=>P ([]::ls)) h;exact⟨_,h⟩
  |iz r=>obtain⟨ls,h⟩:=ih (P:=fun ls=>P ([]::ls)) h;exact⟨_,h⟩
  |eI e=>obtain⟨ls,h⟩:=ih (P:=fun ls=>P ([]::ls)) h;exact⟨_,h⟩
theorem TH {lens:List Nat} {o:kL} {els:List AV} {P:ab->Prop} (h:ZE lens o els P):∃x,P x:=by
 cases o with
 |dead=>exact⟨_,h⟩
 |box l=>obtain⟨cs,h⟩:=xk h;exact⟨_,h⟩
 |row e size=>exact⟨_,h⟩
 |aQ e size=>exact⟨_,h⟩
 |bW=>obtain⟨es,h⟩:=h;exact⟨_,h⟩
 |eg=>obtain⟨es,h⟩:=h;exact⟨_,h⟩
 |iz r=>exact⟨_,h⟩
 |eI e=>exact h.elim
theorem DM {lens:List Nat}:∀{l:List kL} {ls:List (List AV)} {P:List ab->Prop},Oa lens l ls P->∃xs,xs.length=l.length/\P xs
 | [],_,_,h=>⟨[],rfl,h⟩
 |_::_,[],_,h=>h.elim
 |o::l,els::ls,P,h=>by
  obtain⟨x,h⟩:=TH h;obtain⟨xs,hl,h⟩:=DM h;exact⟨x::xs,by simp[hl],h⟩
def XB (a:Sh×List kL) (r:AV) (hp':List ab) (k:AV->List ab->Prop):Prop:=
 TE a.2 fun ls=>Oa (N9 ls) a.2 ls fun h=>XA (N9 ls) a.1 fun x=>(r=x/\hp'=h)/\k x h
def Jf:List (Sh×List kL)->AV->List ab->(AV->List ab->Prop)->Prop
 | [],_,_,_=>False
 | [a],r,hp',k=>XB a r hp' k
 |a::l,r,hp',k=>XB a r hp' k\/Jf l r hp' k
def Wl (a:Sh) (r:AV) (k:AV->Prop):Prop:=XA [] a fun x=>r=x/\k x
def Br:List Sh->AV->(AV->Prop)->Prop
 | [],_,_=>False
 | [a],r,k=>Wl a r k
 |a::l,r,k=>Wl a r k\/Br l r k
theorem Jg {a:Sh×List kL} {r:AV} {hp':List ab} {k:AV->List ab->Prop} (h:XB a r hp' k):k r hp':=by
 obtain⟨ls,h⟩:=TG h;obtain⟨hs,_,h⟩:=DM h;obtain⟨x,⟨rfl,rfl⟩,h⟩:=rf h;exact h
theorem gZ:∀{l:List (Sh×List kL)} {r:AV} {hp':List ab} {k:AV->List ab->Prop},Jf l r hp' k->k r hp'
 | [],_,_,_,h=>h.elim
 | [_],_,_,_,h=>Jg h
 |_::_::_,_,_,_,h=>h.elim Jg gZ
theorem tT:∀{l:List Sh} {r:AV} {k:AV->Prop},Br l r k->k r
 | [],_,_,h=>h.elim
 | [_],_,_,h=>by obtain⟨x,rfl,h⟩:=rf h;exact h
 |_::_::_,_,_,h=>h.elim (fun h=>by obtain⟨x,rfl,h⟩:=rf h;exact h) tT
def Wm (tab:Nat->Option TD) (hp:List ab) (ρ:Operand->AV):Op->Option (List Prop×List AV×Int×Nat×Nat)
 | .indexAddr T x i=>(match tab T with
  |some d=>(match d.kind with
   | .kC e=>(match tab e,(ρ x).lC hp,ρ i with
    |some d',some (cs,els),.ae (.int _ n)=>some (cs,els,n,e,d'.size)
    |_,_,_=>none)
   |_=>none)
  |none=>none)
 |_=>none
def XC (tab:Nat->Option TD) (hp:List ab) (ρ:Operand->AV):Op->Option (Prop×AV)
 | .indexAddr T x i=>(match tK hp (ρ x) with
  |some (r,m,e',size,k)=>(match tab T with
   |some d=>(match d.kind with
    | .kC e=>(match tab e,ρ i with
     |some d',.ae (.int _ n)=>if e'=e/\size=d'.size then some (0<=n/\n<m/\m=k,.fq r m n.toNat size) else none
     |_,_=>none)
    |_=>none)
   |none=>none)
  |none=>none)
 |_=>none
theorem TI {tab:Nat->Option TD} {hp:List ab} {ρ:Operand->AV} {op:Op} {c:Prop} {r:AV} (h:XC tab hp ρ op=some (c,r)):bo tab hp ρ op=some (c,r):=by
 unfold XC at h;split at h
 ·rename_i T x i;split at h
  ·rename_i q m e' size k' hm;split at h
   ·rename_i d hd;split at h
    ·rename_i e hk;split at h
     ·rename_i d' k n dy hi;obtain⟨hx,els,qp,_⟩:=pU hm;have Tw:(ρ x).gN hp=none:=by rw[hx];simp only[AV.gN,qp]
      simp only[bo,hd,hk,dy,Tw,hi,hm];exact h
     ·cases h
    ·cases h
   ·cases h
  ·cases h
 ·cases h
def XD (tab:Nat->Option TD) (ρ:Operand->AV):Op->Option AV
 | .indexAddr T x (.const c)=>(match tab T with
  |some d=>(match d.kind with
   | .arr m=>(match ρ x,ρ (.const c) with
    | .ptr r 0,.ae (.int _ (.ofNat j))=>(match Nat.blt j m with|true=>some (.ptr r j)|false=>none)
    | .aJ e 0,.ae (.int _ (.ofNat j))=>(match Nat.blt j m with|true=>some (.aJ e j)|false=>none)
    |_,_=>none)
   |_=>none)
  |none=>none)
 |_=>none
theorem TJ {tab:Nat->Option TD} {hp:List ab} {ρ:Operand->AV} {op:Op} {r:AV} (h:XD tab ρ op=some r):∃c,bo tab hp ρ op=some (c,r)/\c:=by
 unfold XD at h;split at h
 ·rename_i T x c;split at h
  ·rename_i d hd;split at h
   ·rename_i m hk;split at h
    ·rename_i r' k j hx hc;split at h
     ·rename_i hb;obtain rfl:=alj h;have aq:j<m:=alF hb;refine⟨0<=(Int.ofNat j)/\(Int.ofNat j)<m,?_,Int.natCast_nonneg _,Int.ofNat_lt.2 aq⟩;simp only[bo,hd,hk,hx,hc];rfl
     ·cases h
    ·rename_i e k j hx hc;split at h
     ·rename_i hb;obtain rfl:=alj h;have aq:j<m:=alF hb;refine⟨0<=(Int.ofNat j)/\(Int.ofNat j)<m,?_,Int.natCast_nonneg _,Int.ofNat_lt.2 aq⟩;simp only[bo,hd,hk,hx,hc];rfl
     ·cases h
    ·cases h
   ·cases h
  ·cases h
 ·cases h
def XE (tab:Nat->Option TD) (ρ:Operand->AV):Op->Option (Nat×Int×Nat)
 | .indexAddr T x i=>(match tab T with
  |some d=>(match d.kind with
   | .arr m=>(match ρ x,ρ i with
    | .ptr r 0,.ae (.int _ n)=>some (r,n,m)
    |_,_=>none)
   |_=>none)
  |none=>none)
 |_=>none
theorem TL {tab:Nat->Option TD} {hp:List ab} {ρ:Operand->AV} {op:Op} {r:Nat} {n:Int} {m:Nat} (h:XE tab ρ op=some (r,n,m)):bo tab hp ρ op=some (0<=n/\n<m,.ptr r n.toNat):=by
 unfold XE at h;split at h
 ·rename_i T x i;split at h
  ·rename_i d hd;split at h
   ·rename_i m' hk;split at h
    ·rename_i r' k n' hx hi;simp only[alh,alk] at h;obtain⟨rfl,rfl,rfl⟩:=h;simp only[bo,hd,hk,hx,hi]
    ·cases h
   ·cases h
  ·cases h
 ·cases h
def Hq (n:Int) (k:Nat->Prop):Nat->Nat->Prop
 |0,_=>False
 |1,j=>k j
 |f+2,j=>ag (n==(j:Int)) (k j) (Hq n k (f+1) (j+1))
theorem Af {n:Int} {k:Nat->Prop}:∀(f j:Nat),(j:Int)<=n->n<(j:Int)+f->Hq n k f j->k n.toNat
 |0,j,h1,h2,_=>by omega
 |1,j,h1,h2,h=>by
  have:n.toNat=j:=by omega
  rw[this];exact h
 |f+2,j,h1,h2,h=>by
  by_cases e:n=(j:Int)
  ·have h':=h.elim.1 (by simpa using e);have:n.toNat=j:=by omega
   rw[this];exact h'
  ·exact Af (f+1) (j+1) (by omega) (by omega) (h.elim.2 (by simpa using e))
def ldM (tab:Nat->Option TD) (hp:List ab) (ρ:Operand->AV):Op->Option (Prop×List AV×Nat×Nat×Bool)
 | .load T x=>(match ρ x with
  | .fq r m i z=>(match hp[r]?,tab T with
   |some (.aQ _ z' els),some d=>(match Nat.beq z' z&&Nat.beq d.size z with
    |true=>some (m=els.length,els,i,T,d.kind.agg)
    |false=>none)
   |_,_=>none)
  |_=>none)
 |_=>none
theorem XF {tab:Nat->Option TD} {hp:List ab} {ρ:Operand->AV} {op:Op} {els:List AV} {i T:Nat} {b:Bool} {c:Prop} (h:ldM tab hp ρ op=some (c,els,i,T,b)):bo tab hp ρ op=some (c/\i<els.length/\(els.getD i .top).isAgg=b,els.getD i .top):=by
 unfold ldM at h;split at h
 ·rename_i T' x;split at h
  ·rename_i r m i' z hx;split at h
   ·rename_i e z' oE d hr hd;split at h
    ·rename_i hb;rw[aln] at hb;simp only[alh,alk] at h;obtain⟨rfl,rfl,rfl,rfl,rfl⟩:=h;simp only[bo,hd,hx,hr];rw[if_pos ⟨alB hb.1,alB hb.2⟩]
    ·cases h
   ·cases h
  ·cases h
 ·cases h
def sized (size:Nat) (x:AV) (p:Prop):Prop:=if x.cells.length=size then p else False
def XG (b:Bool) (x:AV) (p:Prop):Prop:=match x.isAgg==b with|true=>p|false=>False
def K6 (tab:Nat->Option TD) (MQ:Nat->sj) (hp:List ab) (ρ:Operand->AV) (op:Op) (k:AV->Prop):Option Prop:=
 match Wm tab hp ρ op with
 |some (cs,els,n,e,size)=>some (fU cs (0<=n/\n<els.length/\N8 [] (MQ e) fun x=>els.getD n.toNat .top=x/\sized size x (k (.aJ x 0))))
 |none=>(match XC tab hp ρ op with
  |some (c,r)=>some (c/\k r)
  |none=>(match pv tab hp ρ op with
   |some (cs,r)=>some (fU cs (k r))
   |none=>(match XD tab ρ op with
    |some r=>some (k r)
    |none=>(match XE tab ρ op with
     |some (r,n,m)=>some ((0<=n/\n<m)/\Hq n (fun j=>k (.ptr r j)) m 0)
     |none=>(match ldM tab hp ρ op with
      |some (c,els,i,T,b)=>some (c/\i<els.length/\N8 [] (MQ T) fun x=>els.getD i .top=x/\XG b x (k x))
      |none=>none)))))
theorem TM {b:Bool} {x:AV} {p:Prop} (h:XG b x p):x.isAgg=b/\p:=by
 unfold XG at h;split at h
 ·rename_i hb;exact⟨by cases b<;>cases hx:x.isAgg<;>simp_all,h⟩
 ·exact h.elim
theorem wc {tab:Nat->Option TD} {MQ:Nat->sj} {hp:List ab} {ρ:Operand->AV} {op:Op} {k:AV->Prop} {p:Prop} (h:K6 tab MQ hp ρ op k=some p) (qq:p):∃c r,bo tab hp ρ op=some (c,r)/\c/\k r:=by
 unfold K6 at h;split at h
 ·rename_i cs els n e size jO;obtain rfl:=alj h;rw[bh] at qq;obtain⟨hc,h0,h1,h2⟩:=qq;obtain⟨x,hx,hk⟩:=wb h2;unfold sized at hk;split at hk
  ·rename_i hs;unfold Wm at jO;split at jO
   ·rename_i T y i;split at jO
    ·rename_i d hd;split at jO
     ·rename_i e' N2;split at jO
      ·rename_i d' eQ oE ik n' dy hy hi;simp only[alh,alk] at jO;obtain⟨rfl,rfl,rfl,rfl,rfl⟩:=jO;have Tw:=gd hy hc;refine⟨0<=n'/\n' < oE.length/\(oE.getD n'.toNat .top).cells.length=d'.size,.aJ (oE.getD n'.toNat .top) 0,by simp only[bo,hd,N2,dy,Tw,hi],⟨h0,h1,by rw[hx];exact hs⟩,by rw[hx];exact hk⟩
      ·cases jO
     ·cases jO
    ·cases jO
   ·cases jO
  ·exact hk.elim
 ·split at h
  ·rename_i c r hm;obtain rfl:=alj h;exact⟨c,r,TI hm,qq.1,qq.2⟩
  split at h
  ·rename_i cs r hpv;obtain rfl:=alj h;rw[bh] at qq;obtain⟨c,h1,h2⟩:=Zl hpv qq.1;exact⟨c,r,h1,h2,qq.2⟩
  split at h
  ·rename_i r hi;obtain rfl:=alj h;obtain⟨c,h1,h2⟩:=TJ hi;exact⟨c,r,h1,h2,qq⟩
  ·split at h
   ·rename_i r n m hi;obtain rfl:=alj h;exact⟨_,_,TL hi,qq.1,Af m 0 (by simpa using qq.1.1) (by simpa using qq.1.2) qq.2⟩
   ·split at h
    ·rename_i c els i T b hl;obtain rfl:=alj h;obtain⟨h0,h1,h2⟩:=qq;obtain⟨x,hx,hk⟩:=wb h2;obtain⟨h3,h4⟩:=TM hk;exact⟨_,_,XF hl,⟨h0,h1,by rw[hx];exact h3⟩,by rw[hx];exact h4⟩
    ·cases h
def DN (tab:Nat->Option TD) (hp:List ab) (ρ:Operand->AV) (op:Op) (k:AV->List ab->Prop):Option Prop:=
 match hv tab hp ρ op with
 |some (cs,r,hp')=>some (fU cs (k r hp'))
 |none=>none
theorem p7 {tab:Nat->Option TD} {hp:List ab} {ρ:Operand->AV} {op:Op} {k:AV->List ab->Prop} {p:Prop} (h:DN tab hp ρ op k=some p) (qq:p):∃c r hp',dB tab hp ρ op=some (c,r,hp')/\c/\k r hp':=by
 unfold DN at h;split at h
 ·rename_i cs r hp' hh;obtain rfl:=alj h;rw[bh] at qq;obtain⟨c,h1,h2⟩:=Zm hh qq.1;exact⟨c,r,hp',h1,h2,qq.2⟩
 ·cases h
def pa (s:AS Unit):Op->Option (Nat×List AV)
 | .call c=>(match c.callee with
  | .value x=>(match s.ev x with
   | .bf f caps=>some (f,c.args.toList.map s.ev++caps)
   |_=>none)
  |_=>none)
 |_=>none
theorem kp (s:AS Unit) (op:Op):pa s op=kI s op:=rfl
inductive iY where
 |one (sh:Sh)
 |alts (l:List Sh)
 |heap (n:Nat) (l:List (Sh×List kL))
 |raw (l:List Sh)
 |bf (f:Nat)
 |y (kind:Bool)
 |YM (sh:Sh)
 |fresh (e size:Nat)
 |fu (l:List (Sh×List kL))
def boxed:List AV->List AV
 | []=>[]
 |x::l=>.aJ x 0::boxed l
inductive mJ where
 |done
 |val (i:Nat) (p:mJ)
 |di (i:Nat) (p:mJ)
 |two (i:Nat) (p:mJ) (j:Nat) (q:mJ)
 |three (i:Nat) (p:mJ) (j:Nat) (q:mJ) (k:Nat) (r:mJ)
structure cD where
 P:Program
 tab:Nat->Option TD
 MQ:Nat->sj
 sig:Nat->Nat->iY
 nt:Nat
 dr:List (Nat×List (Option (List Nat))×List (Option (List Nat))):=[]
 hc:List (Nat×List Nat):=[]
 br:List (Nat×mJ):=[]
 mt:Bool:=false
 eI:Option (List Nat):=none
 rm:List (Nat×Nat):=[]
 sgd:Nat->Option iY:=fun _=>none
 ext:{ e:Nat->Option SV // ∀f x,e f=some x->XOk P f x }:=⟨fun _=>none,fun _ _ h=>by cases h⟩
def DO (C:cD) (f:Nat) (o:Oper):iY:=
 match o.dst with
 |some d=>(match C.sgd d with
  |some g=>g
  |none=>C.sig f o.type)
 |none=>C.sig f o.type
def okB (b:Bool) (p:Prop):Prop:=
 match b with
 |true=>p
 |false=>False
theorem bM {b:Bool} {p:Prop} (h:okB b p):b=true/\p:=by
 cases b with
 |true=>exact⟨rfl,h⟩
 |false=>exact h.elim
def AV.kM (n:Nat) (hp:List ab) (x:AV):List Prop×AV:=
 match x.closed n with
 |true=>([],x)
 |false=>x.bA hp
theorem pb {n:Nat} {hp:List ab} {x:AV} (hc:dK (x.kM n hp).1):x.q9 n hp=(x.kM n hp).2:=by
 unfold AV.q9 AV.kM at *
 cases h:x.closed n with
 |true=>simp
 |false=>rw[h] at hc;simp only[alx,if_false];exact cK hc
def qw (n:Nat):List Nat->Nat->Nat
 | [],_=>n
 |j::js,r=>(match Nat.beq j r with|true=>n|false=>qw (n+1) js r)
def Xu (js:List Nat):AV->AV
 | .ptr r o=>.ptr (qw 0 js r) o
 |x=>x
def wa (js:List Nat):AV->AV
 | .own r n=>.own (qw 0 js r) n
 | .ptr r o=>.ptr (qw 0 js r) o
 | .mp r=>.mp (qw 0 js r)
 | .bf f cs=>.bf f (cs.map (Xu js))
 |x=>x
def Jc (js:List Nat):AV->AV
 | .agg cs=>.agg (cs.map (wa js))
 |x=>wa js x
def MS (js:List Nat):AV->AV
 | .av vs=>.av (vs.map (Jc js))
 | .bf f cs=>.bf f (cs.map (Jc js))
 | .cB f cs=>.cB f (cs.map (Jc js))
 |x=>Jc js x
def Wj (js:List Nat):ab->ab
 | .box cs=>.box (cs.map (wa js))
 | .iz r n=>.iz (qw 0 js r) n
 |o=>o
def lP (js:List Nat) (n:Nat) (i:Nat):Nat:=(match Nat.blt i js.length with|true=>qv js i|false=>n+(i-js.length))
theorem Jh:∀{js:List Nat} {n r:Nat},qw n js r<n+js.length->n<=qw n js r/\qv js (qw n js r-n)=r
 | [],n,r,h=>by simp[qw] at h
 |j::js,n,r,h=>by
  simp only[qw] at h ⊢;split
  ·rename_i hb;rw[amO];exact⟨alp _,alB hb⟩
  ·rename_i hb;rw[hb] at h;simp only[als] at h;obtain⟨h1,h2⟩:=Jh (js:=js) (n:=n+1) (r:=r) (by omega);refine⟨by omega,?_⟩;rw[show qw (n+1) js r-n=(qw (n+1) js r-(n+1))+1 from by omega];exact h2
theorem sn {js:List Nat} {n r:Nat} (h:qw 0 js r<js.length):lP js n (qw 0 js r)=r:=by
 unfold lP;rw[show Nat.blt (qw 0 js r) js.length=true from Nat.ble_eq_true_of_le h];have:=(Jh (js:=js) (n:=0) (r:=r) (by omega)).2
 rwa [Nat.sub_zero] at this
theorem gE {js:List Nat} {n:Nat} {u:List Nat->AV->AV} {r:(Nat->Nat)->AV->AV} {c:Nat->AV->Bool} (hu:∀x,c js.length (u js x)=true->r (lP js n) (u js x)=x):
  ∀(l:List AV),(l.map (u js)).all (c js.length)=true->(l.map (u js)).map (r (lP js n))=l
 | [],_=>rfl
 |x::l,h=>by
  simp only[alQ,amF,aln] at h ⊢;rw[hu x h.1,gE hu l h.2]
theorem XH {js:List Nat} {n:Nat} {x:AV} (h:(Xu js x).ep js.length=true):N6 (lP js n) (Xu js x)=x:=by
 cases x with
 |ptr r m=>simp only[Xu,AV.ep,decide_eq_true_eq] at h;simp only[Xu,N6,sn h]
 |_=>rfl
theorem lQ {js:List Nat} {n:Nat} {x:AV} (h:(wa js x).aF js.length=true):vH (lP js n) (wa js x)=x:=by
 cases x with
 |own r m=>simp only[wa,AV.aF,decide_eq_true_eq] at h;simp only[wa,vH,sn h]
 |ptr r m=>simp only[wa,AV.aF,decide_eq_true_eq] at h;simp only[wa,vH,sn h]
 |mp r=>simp only[wa,AV.aF,decide_eq_true_eq] at h;simp only[wa,vH,sn h]
 |bf f cs=>simp only[wa,AV.aF] at h;simp only[wa,vH];rw[gE (c:=AV.ep) (fun x hx=>XH hx) cs h]
 |_=>rfl
theorem Bs {js:List Nat} {n:Nat} {x:AV} (h:(Jc js x).dt js.length=true):DH (lP js n) (Jc js x)=x:=by
 cases x with
 |agg cs=>
  simp only[Jc,DH] at h ⊢;rw[gE (fun x hx=>lQ hx) cs h]
 |own r m=>exact lQ (x:=.own r m) h
 |ptr r m=>exact lQ (x:=.ptr r m) h
 |mp r=>exact lQ (x:=.mp r) h
 |bf f cs=>exact lQ (x:=.bf f cs) h
 |_=>first|rfl|(simp[Jc,wa,AV.dt,AV.aF] at h;done)
theorem XI {js:List Nat} {n:Nat} {x:AV} (h:(MS js x).closed js.length=true):rb (lP js n) (MS js x)=x:=by
 cases x with
 |av cs=>
  simp only[MS,rb] at h ⊢;rw[gE (fun x hx=>Bs hx) cs h]
 |bf f cs=>
  simp only[MS,rb] at h ⊢;rw[gE (fun x hx=>Bs hx) cs h]
 |cB f cs=>
  simp only[MS,rb] at h ⊢;rw[gE (fun x hx=>Bs hx) cs h]
 |agg cs=>exact Bs (x:=.agg cs) h
 |own r m=>exact lQ (x:=.own r m) h
 |ptr r m=>exact lQ (x:=.ptr r m) h
 |mp r=>exact lQ (x:=.mp r) h
 |_=>first|rfl|(simp[MS,Jc,wa,AV.closed,AV.dt,AV.aF] at h;done)
theorem XJ {js:List Nat} {n:Nat} {o:ab} (h:(Wj js o).closed js.length=true):ji (lP js n) (Wj js o)=o:=by
 cases o with
 |box cs=>
  simp only[Wj,ji] at h ⊢;rw[gE (fun x hx=>lQ hx) cs h]
 |iz q k=>have:=lQ (js:=js) (n:=n) (x:=.own q k) h;simp only[wa,vH,AV.own.injEq,and_true] at this;simp only[Wj,ji,this]
 |_=>rfl
def AV.obj:AV->Bool
 | .own _ _ | .ptr _ _ | .mp _=>true
 |_=>false
def AV.Ji (js:List Nat) (hp:List ab) (x:AV):AV:=if(x.obj&&(wa js x).aF js.length)=true then x else x.dQ hp
def AV.xn (js:List Nat) (hp:List ab) (x:AV):List Prop×AV:=
 match x.obj&&(wa js x).aF js.length with
 |true=>([],x)
 |false=>x.iM hp
theorem K7 {js:List Nat} {hp:List ab} {x:AV} (hc:dK (x.xn js hp).1):x.Ji js hp=(x.xn js hp).2:=by
 unfold AV.Ji AV.xn at *
 cases h:x.obj&&(wa js x).aF js.length with
 |true=>simp
 |false=>rw[h] at hc;simp only[alx,if_false];exact kn hc
def AV.Jj (js:List Nat) (hp:List ab):AV->AV
 | .agg cs=>.agg (cs.map (AV.Ji js hp))
 |x=>x.bl hp
def AV.Bt (js:List Nat) (hp:List ab):AV->List Prop×AV
 | .agg cs=>((ct (AV.xn js hp) cs).1,.agg (ct (AV.xn js hp) cs).2)
 |x=>x.bA hp
theorem K8 {js:List Nat} {hp:List ab} {x:AV} (hc:dK (x.Bt js hp).1):x.Jj js hp=(x.Bt js hp).2:=by
 cases x with
 |agg cs=>simp only[AV.Bt,AV.Jj] at hc ⊢;rw[bP (fun x=>K7) _ hc]
 |_=>exact cK hc
def AV.Hr (js:List Nat) (hp:List ab) (x:AV):AV:=if(MS js x).closed js.length=true then x else x.Jj js hp
def AV.DP (js:List Nat) (hp:List ab) (x:AV):List Prop×AV:=
 match (MS js x).closed js.length with
 |true=>([],x)
 |false=>x.Bt js hp
theorem xo {js:List Nat} {hp:List ab} {x:AV} (hc:dK (x.DP js hp).1):x.Hr js hp=(x.DP js hp).2:=by
 unfold AV.Hr AV.DP at *
 cases h:(MS js x).closed js.length with
 |true=>simp
 |false=>rw[h] at hc;simp only[alx,if_false];exact K8 hc
theorem K9 {Γ:Env Unit} {s:AS Unit} {a:Act} {w:World} {η:List Value} (hr:Rel Γ s a w η) (js:List Nat) {x:AV} {v:Value} (h:ba w (aW Γ w η s.hp) η s.hp x v):ba w (aW Γ w η s.hp) η s.hp (x.Jj js s.hp) v:=by
 cases x with
 |agg cs=>
  cases h with
  |agg _ vs hl h1 pX=>
   refine .agg _ vs (by simpa using hl) h1 fun j y u hy hu=>?_;rw[alu] at hy
   cases hj:cs[j]? with
   |none=>rw[hj] at hy;cases hy
   |some z=>
    rw[hj] at hy;obtain rfl:=alj hy;unfold AV.Ji;split
    ·exact pX j z u hj hu
    ·exact(kj hr.heap hr.bN (pX j z u hj hu)).lift
 |_=>exact(fK hr.heap hr.bN h).lift
theorem sq {Γ:Env Unit} {s:AS Unit} {a:Act} {w:World} {η:List Value} (hr:Rel Γ s a w η) (js:List Nat):∀(xs:List AV) (vs:List Value),bS w (aW Γ w η s.hp) η s.hp xs vs->bS w (aW Γ w η s.hp) η s.hp (xs.map (AV.Hr js s.hp)) vs
 | [],[],_=>True.intro
 |x::xs,v::vs,h=>⟨by
   unfold AV.Hr;split
   ·exact h.1
   ·exact K9 hr js h.1,sq hr js xs vs h.2⟩
 | [],_::_,h=>h.elim
 |_::_,[],h=>h.elim
def oo (js:List Nat):List Nat->List ab->List ab
 | [],_=>[]
 |j::l,H=>(match H[j]? with
  |some o=>Wj js o
  |none=>.dead)::oo js l H
theorem Ag {js:List Nat} {H:List ab}:∀{l:List Nat} {i:Nat} {o:ab},(oo js l H)[i]?=some o->∃j,l[i]?=some j/\(H[j]?=none\/∃o',H[j]?=some o'/\o=Wj js o')
 | [],i,o,h=>by simp[oo] at h
 |j::l,0,o,h=>by
  simp only[oo,al8,alh] at h;refine⟨j,rfl,?_⟩;split at h
  ·rename_i o' ho;exact .inr ⟨o',ho,h.symm⟩
  ·rename_i ho;exact .inl ho
 |j::l,i+1,o,h=>by
  simp only[oo,alP] at h ⊢;exact Ag h
theorem Ah {js:List Nat} {H:List ab}:∀{l:List Nat},(oo js l H).length=l.length
 | []=>rfl
 |j::l=>by simp[oo,Ah (l:=l)]
def pc (n:Nat):List Nat->Bool
 | []=>true
 |j::js=>Nat.blt j n&&(!Hs j js&&pc n js)
where Hs (k:Nat):List Nat->Bool
 | []=>false
 |x::l=>Nat.beq x k||Hs k l
theorem xp {k:Nat}:∀{l:List Nat} {i:Nat},l[i]?=some k->pc.Hs k l=true
 | [],i,h=>by simp at h
 |x::l,0,h=>by simp at h;subst h;simp[pc.Hs]
 |x::l,i+1,h=>by simp only[alP] at h;simp[pc.Hs,xp h]
theorem pd:∀{l:List Nat} {i:Nat},i<l.length->l[i]?=some (qv l i)
 | [],i,h=>by simp at h
 |x::l,0,h=>rfl
 |x::l,i+1,h=>by simp only[alP,qv];exact pd (by simpa using h)
theorem Jk {n:Nat}:∀{js:List Nat},pc n js=true->∀i,i<js.length->qv js i<n
 | [],_,i,h=>by simp at h
 |j::js,h,0,_=>by simp only[pc,aln] at h;exact alF (show Nat.ble (j+1) n=true from h.1)
 |j::js,h,i+1,hi=>by simp only[pc,aln] at h;exact Jk h.2.2 i (by simpa using hi)
theorem DQ {n:Nat}:∀{js:List Nat},pc n js=true->∀i i',i<js.length->i' < js.length->qv js i=qv js i'->i=i'
 | [],_,i,i',h,_,_=>by simp at h
 |j::js,h,0,0,_,_,_=>rfl
 |j::js,h,0,i'+1,_,h2,he=>by
  simp only[pc,aln,al0] at h;have:=xp (k:=j) (l:=js) (i:=i') (by rw[pd (by simpa using h2)];exact congrArg some he.symm);rw[h.2.1] at this;cases this
 |j::js,h,i+1,0,h1,_,he=>by
  simp only[pc,aln,al0] at h;have:=xp (k:=j) (l:=js) (i:=i) (by rw[pd (by simpa using h1)];exact congrArg some he);rw[h.2.1] at this;cases this
 |j::js,h,i+1,i'+1,h1,h2,he=>by
  simp only[pc,aln] at h;rw[DQ h.2.2 i i' (by simpa using h1) (by simpa using h2) he]
def kN (r:Nat) (out:List Nat):List Nat:=(match pc.Hs r out with|true=>out|false=>out++[r])
def Bu (hp:List ab):List Nat->List AV->List Nat
 |out,[]=>out
 |out,.own q _::l=>(match hp[q]? with
  |some (.row _ _ _)=>Bu hp (kN q out) l
  |_=>Bu hp out l)
 |out,_::l=>Bu hp out l
mutual
def XK (hp:List ab):Nat->List Nat->AV->List Nat
 |0,out,_=>out
 |n+1,out,.ptr r _=>(match pc.Hs r out with
  |true=>out
  |false=>(match hp[r]? with
   |some (.box cs)=>kN r (iP hp n (Bu hp out cs) cs)
   |some (.iz q _)=>kN q (kN r out)
   |_=>kN r out))
 |_+1,out,.mp r=>kN r out
 |_+1,out,.own r _=>(match hp[r]? with
  |some (.aQ _ _ _)=>kN r out
  |_=>out)
 |n+1,out,.agg cs=>iP hp n out cs
 |n+1,out,.av cs=>iP hp n out cs
 |n+1,out,.bf _ cs=>iP hp n out cs
 |n+1,out,.cB _ cs=>iP hp n out cs
 |_+1,out,_=>out
def iP (hp:List ab):Nat->List Nat->List AV->List Nat
 |0,out,_=>out
 |_+1,out,[]=>out
 |n+1,out,x::l=>iP hp n (XK hp n out x) l
end
def Jl (js:List Nat) (hp:List ab) (args:List AV):List AV:=((ct (AV.DP js hp) args).2).map (MS js)
def uO (js:List Nat) (x:AV) (h:List ab):Bool:=Nat.ble js.length h.length&&(x.closed h.length&&h.all (ab.closed h.length))
def zv (C:cD) (js:List Nat) (l:List (Sh×List kL)) (f:Nat) (args:List AV) (o:Oper) (s:AS Unit) (next:AS Unit->Prop):Prop:=
 okB (pc s.hp.length js&&((Jl js s.hp args).all (AV.closed js.length)&&(oo js js s.hp).all (ab.closed js.length)))
  (fU (ct (AV.DP js s.hp) args).1 (∃R:AV->List ab->Prop,aG C.P f (Jl js s.hp args) (oo js js s.hp) R/\∀(r:AV) (hp':List ab),R r hp'->Jf l r hp' fun x h=>okB (uO js x h) (next (AS.put { s with hp:=jj (lP js s.hp.length) js.length h s.hp } o.dst (rb (lP js s.hp.length) x)))))
theorem zv.hfn {P:Program} {js:List Nat} {H:List ab} {f:Nat} {args:List AV} {R:AV->List ab->Prop} (hb:(pc H.length js&&((args.map (MS js)).all (AV.closed js.length)&&(oo js js H).all (ab.closed js.length)))=true)
  (hF:aG P f (args.map (MS js)) (oo js js H) R) (hR:∀r h,R r h->uO js r h=true):aG P f args H (fun r2 H2=>∃r h,R r h/\r2=rb (lP js H.length) r/\H2=jj (lP js H.length) js.length h H):=by
 simp only[aln] at hb;obtain⟨h1,h2,h3⟩:=hb;have hl:(oo js js H).length=js.length:=Ah;have aq:∀i,i<js.length->lP js H.length i=qv js i:=fun i hi=>by
  unfold lP;rw[show Nat.blt i js.length=true from Nat.ble_eq_true_of_le hi]
 have:=aG.Zy (g:=lP js H.length) (H:=H) hF (fun i o ho=>?_) (fun i i' hi tE he=>?_) (fun i hi=>?_) (by rw[hl];exact h2) (by rw[hl];exact h3) (fun r h hr=>?_)
 ·rw[hl,gE (fun x hx=>XI hx) args h2] at this;exact this
 ·have hi:i<js.length:=by rw[<-hl];exact(ali.1 ho).1
  obtain⟨j,hj,hc⟩:=Ag ho;rw[pd hi] at hj;obtain rfl:=alj hj;rw[aq i hi];have MB:o.closed js.length=true:=alv.1 h3 o (alq ho);rcases hc with hc|⟨o',zh,rfl⟩
  ·have:=Jk h1 i hi;rw[alo this] at hc;cases hc
  ·rw[zh,XJ MB]
 ·rw[hl] at hi tE;rw[aq i hi,aq i' tE] at he;exact DQ h1 i i' hi tE he
 ·rw[hl] at hi ⊢;unfold lP
  cases hb:Nat.blt i js.length with
  |true=>have:i+1<=js.length:=alF hb;omega
  |false=>rfl
 ·have:=hR r h hr;simp only[uO,aln] at this;rw[hl];exact⟨alF this.1,this.2.1,this.2.2⟩
def Ob (C:cD) (sh:Sh) (l:List Nat) (o:Oper) (s:AS Unit) (next:AS Unit->Prop):Prop:=
 fU (lE l s).1 (match pa (lE l s).2 o.op with
  |some (f,args)=>fU (ct (AV.bA (lE l s).2.hp) args).1 (XA [] sh fun x=>af C.P f (ct (AV.bA (lE l s).2.hp) args).2 x/\next ((lE l s).2.put o.dst x))
  |none=>False)
def Jm (s:AS Unit):Op->Option (Nat×List AV)
 | .call c=>(match c.callee with
  | .value x=>(match s.ev x with
   | .cB f fst=>some (f,fst++c.args.toList.map s.ev)
   |_=>none)
  |_=>none)
 |_=>none
def xq (C:cD) (o:Oper) (s:AS Unit) (next:AS Unit->Prop):Prop:=
 match Jm s o.op with
 |some (f,args)=>(match DO C f o with
  | .fu l=>zv C (iP s.hp 100 [] args) l f args o s next
  |_=>False)
 |none=>False
def Wn (C:cD) (o:Oper) (s:AS Unit) (next:AS Unit->Prop):Prop:=
 match pa s o.op with
 |some (f,args)=>(match DO C f o with
  | .one sh=>fU (ct (AV.bA s.hp) args).1 (XA [] sh fun x=>af C.P f (ct (AV.bA s.hp) args).2 x/\next (s.put o.dst x))
  | .bf f'=>fU (ct (AV.bA s.hp) args).1 (af C.P f (ct (AV.bA s.hp) args).2 (.bf f' (boxed (ct (AV.bA s.hp) args).2))/\next (s.put o.dst (.bf f' (boxed (ct (AV.bA s.hp) args).2))))
  | .y _=>False
  | .YM sh=>Ob C sh (Bn args) o s next
  | .alts l=>fU (ct (AV.bA s.hp) args).1 (∃R:AV->Prop,Pure C.P f (ct (AV.bA s.hp) args).2 R/\∀r:AV,R r->Br l r fun x=>next (s.put o.dst x))
  | .raw l=>fU (ct (AV.kM 0 s.hp) args).1 (∃R:AV->Prop,Pure C.P f (ct (AV.kM 0 s.hp) args).2 R/\∀r:AV,R r->Br l r fun x=>next (s.put o.dst x))
  | .heap n l=>okB ((ct (AV.kM (s.hp.take n).length s.hp) args).2.all (AV.closed (s.hp.take n).length)&&(s.hp.take n).all (ab.closed (s.hp.take n).length))
    (fU (ct (AV.kM (s.hp.take n).length s.hp) args).1 (∃R:AV->List ab->Prop,aG C.P f (ct (AV.kM (s.hp.take n).length s.hp) args).2 (s.hp.take n) R/\∀(r:AV) (hp':List ab),R r hp'->Jf l r hp' fun x h=>okB (Nat.beq h.length (s.hp.take n).length) (next (AS.put { s with hp:=h++s.hp.drop n } o.dst x))))
  | .fresh e size=>fU (ct (AV.bA s.hp) args).1 (∃els:List AV,MFn C.P f (ct (AV.bA s.hp) args).2 e size els/\next (AS.put { s with hp:=s.hp++[.aQ e size els] } o.dst (.own s.hp.length els.length)))
  | .fu l=>zv C (iP s.hp 100 [] args) l f args o s next)
 |none=>xq C o s next
def vK (nt:Nat):Option Nat->Bool
 |none=>true
 |some d=>Nat.blt d nt
theorem hO {nt:Nat} {d:Option Nat} (h:vK nt d=true):cP nt d:=by
 cases d with
 |none=>trivial
 |some d=>exact alF (show Nat.ble (d+1) nt=true from h)
def XL (tab:Nat->Option TD) (hp:List ab) (ρ:Operand->AV):Op->Option (List Prop×AV×List ab)
 | .call c=>(match c.callee,c.args.toList,c.argTypes.toList with
  | .builtin .append,[b,x],[T,T']=>if T=T' then(match tab T with
   |some d=>(match d.kind with
    | .kC e=>(match tab e,(ρ x).lC hp with
     |some d',some (cs,ar)=>if 0<d'.size then(match ρ b with
      | .clip []=>some (cs++[aZ d' (([]:List AV).length+ar.length) [] ar],.own hp.length ([]++ar).length,hp++[.aQ e d'.size ([]++ar)])
      |_=>none) else none
     |_,_=>none)
    |_=>none)
   |none=>none) else none
  |_,_,_=>none)
 |_=>none
theorem TN {Γ:Env Unit} {s:AS Unit} (al:Γ.Ok) {tab:Nat->Option TD} (ah:aL Γ.P tab) {o:Oper} {cs:List Prop} {r:AV} {hp':List ab} (h:XL tab s.hp s.ev o.op=some (cs,r,hp')) (hc:dK cs):fS Γ o s r hp':=by
 generalize ho:o.op=op at h;unfold XL at h;split at h
 ·split at h
  ·rename_i c b x T T' Bq aw dZ;split at h
   ·rename_i heq;subst heq;split at h
    ·rename_i d hd;split at h
     ·rename_i e hk;split at h
      ·rename_i d' eQ ar dy hx;split at h
       ·rename_i bO;split at h
        ·rename_i hb;simp only[alh,alk] at h;obtain⟨rfl,rfl,rfl⟩:=h;rw[bt] at hc;exact Bf al ah ho Bq aw dZ hd hk dy (gd hx hc.1) (els:=[]) (.inr hb) bO (fun _=>rfl) hc.2.1
        ·cases h
       ·cases h
      ·cases h
     ·cases h
    ·cases h
   ·cases h
  ·cases h
 ·cases h
def Ht (C:cD) (o:Oper) (s:AS Unit) (next:AS Unit->Prop):Option Prop:=
 match pa s o.op with
 |some (f,args)=>(match C.ext.1 f with
  |some x=>(match Xq x s.hp args with
   |some (r,hp')=>some (next (AS.put { s with hp:=hp' } o.dst r))
   |none=>none)
  |none=>none)
 |none=>none
theorem La {C:cD} {Γ:Env Unit} (al:Γ.Ok) (hP:C.P=Γ.P) {o:Oper} {s:AS Unit} {next:AS Unit->Prop} {p:Prop} (h:Ht C o s next=some p) (hp:p):∃r hp',fS Γ o s r hp'/\next (AS.put { s with hp:=hp' } o.dst r):=by
 unfold Ht at h;split at h
 ·rename_i f args aw;split at h
  ·rename_i x hx;split at h
   ·rename_i r hp' hr;obtain rfl:=alj h;have hX:=C.ext.2 f x hx;rw[hP] at hX;rw[kp] at aw;unfold kI at aw;split at aw
    ·rename_i c hc;split at aw
     ·rename_i y hy;split at aw
      ·rename_i f' caps cY;simp only[alh,alk] at aw;obtain⟨rfl,rfl⟩:=aw;exact⟨r,hp',Hk al hX hc hy cY hr,hp⟩
      ·cases aw
     ·cases aw
    ·cases aw
   ·cases h
  ·cases h
 ·cases h
def Wo (C:cD) (o:Oper) (s:AS Unit) (next:AS Unit->Prop):Option Prop:=
 match C.mt with
 |true=>(match XL C.tab s.hp s.ev o.op with
  |some (cs,r,hp')=>some (fU cs (next (AS.put { s with hp:=hp' } o.dst r)))
  |none=>none)
 |false=>none
def inN:List Nat->Nat->Bool
 | [],_=>false
 |x::l,k=>(match Nat.beq x k with
  |true=>true
  |false=>inN l k)
def bOp (mk:Bool) (tab:Nat->Option TD) (hp:List ab) (ρ:Operand->AV):Op->Option (List Prop×AV×List ab)
 | .buildSlice T n parts=>(match mk,oZ tab T with
  |true,some (e,_,d')=>if((n=parts.toList.length/\rT 0 parts.toList=true/\n<=16777216/\n*d'.size<=16777216)/\Dx d'.size (ct (AV.bA hp) (parts.toList.map fun p=>ρ p.2)).2=true)/\0<n/\0<d'.size then
    some ((ct (AV.bA hp) (parts.toList.map fun p=>ρ p.2)).1,.own hp.length n,hp++[.row e d'.size (ct (AV.bA hp) (parts.toList.map fun p=>ρ p.2)).2]) else none
  |_,_=>none)
 |_=>none
theorem XM {Γ:Env Unit} {s:AS Unit} (al:Γ.Ok) {tab:Nat->Option TD} (ah:aL Γ.P tab) {mk:Bool} {o:Oper} {cs:List Prop} {r:AV} {hp':List ab} (h:bOp mk tab s.hp s.ev o.op=some (cs,r,hp')) (hc:dK cs):fS Γ o s r hp':=by
 generalize ho:o.op=op at h;unfold bOp at h;split at h
 ·split at h
  ·rename_i T n parts _ _ e d d' hs;split at h
   ·rename_i oK;simp only[alh,alk] at h;obtain⟨rfl,rfl,rfl⟩:=h;obtain⟨hd,hk,dy⟩:=xj hs;have hm:=bP (g:=AV.bl s.hp) (fun x=>cK) (parts.toList.map fun p=>s.ev p.2) hc;obtain⟨⟨⟨h1,h2,h3,h4⟩,h5⟩,h6,h7⟩:=oK;have hl:=w8 h5;rw[<-hm,List.map_map] at hl ⊢;exact zu al ah ho hd hk dy h1 h6 h7 h2 h3 h4 hl
   ·cases h
  ·cases h
 ·cases h
def Oc (C:cD) (o:Oper) (s:AS Unit) (next:AS Unit->Prop):Option Prop:=
 match C.eI with
 |some l=>(match qOp (match o.dst with|some d=>inN l d|none=>false) C.tab s.hp s.ev o.op with
  |some (cs,r,hp')=>some (fU cs (next (AS.put { s with hp:=hp' } o.dst r)))
  |none=>(match bOp (match o.dst with|some d=>inN l d|none=>false) C.tab s.hp s.ev o.op with
   |some (cs,r,hp')=>some (fU cs (next (AS.put { s with hp:=hp' } o.dst r)))
   |none=>none))
 |none=>none
theorem DR:∀{l:List Prop},dK l->∀p∈l,p
 |c::l,h,p,hp=>by
  rcases alW.1 hp with rfl|hp
  ·exact h.1
  ·exact DR h.2 p hp
def iG (C:cD) (o:Oper) (s:AS Unit) (next:AS Unit->Prop):Prop:=
 match vK C.nt o.dst with
 |false=>False
 |true=>(match Hc C.tab s.ev o.op with
  |some (els,b0)=>∀b:Bool,(els≠[]->b=!b0)->next (s.put o.dst (.ae (.bool b)))
  |none=>(match Oc C o s next with
   |some p=>p
   |none=>(match Xl C.tab s.ev o.op with
   |some r=>next (s.put o.dst r)
   |none=>(match K6 C.tab C.MQ s.hp s.ev o.op (fun r=>next (s.put o.dst r)) with
    |some p=>p
    |none=>(match Wo C o s next with
     |some p=>p
     |none=>(match NY C.tab s.hp s.ev o.op with
      |some (cs,r,hp')=>fU cs (next (AS.put { s with hp:=hp' } o.dst r))
      |none=>(match DN C.tab s.hp s.ev o.op (fun r hp'=>next (AS.put { s with hp:=hp' } o.dst r)) with
      |some p=>p
      |none=>(match Ht C o s next with
       |some p=>p
       |none=>(match Xs C.tab s.ev o.op with
        |some r=>next (s.put o.dst r)
        |none=>Wn C o s next)))))))))
variable {Γ:Env Unit} {s s':AS Unit} {a:Act} {w w':World} {η:List Value} {hp:List ab}
theorem xq.sound {C:cD} (al:Γ.Ok) (hP:C.P=Γ.P) {o:Oper} (hd:cP Γ.nt o.dst) {next K:AS Unit->Prop} (h:xq C o s next) (hn:∀s,next s->K s):bq Γ o s K:=by
 unfold xq at h;split at h
 ·rename_i f args aw;unfold Jm at aw;split at aw
  ·rename_i c hc;split at aw
   ·rename_i x hx;split at aw
    ·rename_i f' fst cY;simp only[alh,alk] at aw;obtain⟨rfl,rfl⟩:=aw;split at h
     ·unfold zv at h;obtain⟨hb,h⟩:=bM h;rw[bh] at h;obtain⟨gO,R,g1,g2⟩:=h;rename_i l _;generalize iP s.hp 100 [] (fst++List.map s.ev c.args.toList)=js at *;have aw:=bP (g:=AV.Hr js s.hp) (fun x=>xo) _ gO;rw[hP] at g1;have qx:=zv.hfn (R:=fun r h'=>R r h'/\uO js r h'=true) hb (g1.mono fun r h' hr=>⟨hr,(bM (gZ (g2 r h' hr))).1⟩) (fun r h' hr=>hr.2);exact bq.Zq al hc hx cY qx (fun a w η us hr h=>by rw[<-aw];exact sq hr _ _ us h) hd fun r hp' hr=>by
       obtain⟨r',h',hr,rfl,rfl⟩:=hr;exact hn _ (bM (gZ (g2 r' h' hr.1))).2
     ·exact h.elim
    ·cases aw
   ·cases aw
  ·cases aw
 ·exact h.elim
theorem Ob.sound {C:cD} (al:Γ.Ok) (hP:C.P=Γ.P) {sh:Sh} {l:List Nat} {o:Oper} (hd:cP Γ.nt o.dst) {next K:AS Unit->Prop} (h:Ob C sh l o s next) (hn:∀s,next s->K s):bq Γ o s K:=by
 unfold Ob at h;rw[bh] at h;obtain⟨hc,h⟩:=h;have hw:=sc (Γ:=Γ) al l s hc;intro a w η Kc Qc hk hr;obtain⟨C1,pX⟩:=hw a w η hr;refine(?_:bq Γ o (lE l s).2 K) a w C1 Kc Qc hk pX;split at h
 ·rename_i f args aw;rw[kp] at aw;unfold kI at aw;split at aw
  ·rename_i c hc;split at aw
   ·rename_i x hx;split at aw
    ·rename_i f' caps cY;simp only[alh,alk] at aw;obtain⟨rfl,rfl⟩:=aw;rw[bh] at h;obtain⟨gO,h⟩:=h;obtain⟨x',we,Ai⟩:=rf h;rw[<-bP (g:=AV.bl (lE l s).2.hp) (fun x=>cK) _ gO,hP] at we;exact bq.pure al hc hx cY we hd fun r hr=>by rw[hr];exact hn _ Ai
    ·cases aw
   ·cases aw
  ·cases aw
 ·exact h.elim
theorem iG.sound {C:cD} (al:Γ.Ok) (hP:C.P=Γ.P) (ah:aL Γ.P C.tab) (dj:C.nt=Γ.nt) {o:Oper} {next K:AS Unit->Prop} (h:iG C o s next) (hn:∀s,next s->K s):bq Γ o s K:=by
 unfold iG at h;split at h
 ·exact h.elim
 rename_i hd;have hd:=hO hd;rw[dj] at hd;split at h
 ·rename_i els b0 hx;exact bq.nil ah hx hd fun b hb=>hn _ (h b hb)
 split at h
 ·rename_i p hp;unfold Oc at hp;split at hp
  ·split at hp
   ·rename_i cs r hp' hm;obtain rfl:=alj hp;rw[bh] at h;exact bq.di (Xx al ah hm h.1) hd (hn _ h.2)
   ·split at hp
    ·rename_i cs r hp' hm;obtain rfl:=alj hp;rw[bh] at h;exact bq.di (XM al ah hm h.1) hd (hn _ h.2)
    ·cases hp
  ·cases hp
 split at h
 ·rename_i r hx;exact bq.val al (Hb ah hx) hd (hn _ h)
 split at h
 ·rename_i p hp;obtain⟨c,r,h1,h2,h3⟩:=wc hp h;exact bq.val al (qY al ah h1 h2) hd (hn _ h3)
 split at h
 ·rename_i p hp;unfold Wo at hp;split at hp
  ·split at hp
   ·rename_i cs r hp' hm;obtain rfl:=alj hp;rw[bh] at h;exact bq.di (TN al ah hm h.1) hd (hn _ h.2)
   ·cases hp
  ·cases hp
 split at h
 ·rename_i cs r hp' hs;rw[bh] at h;exact bq.di (N5 al ah hs (DR h.1)) hd (hn _ h.2)
 split at h
 ·rename_i p hp;obtain⟨c,r,hp',h1,h2,h3⟩:=p7 hp h;exact bq.di (iL al ah h1 h2) hd (hn _ h3)
 split at h
 ·rename_i p hp;obtain⟨r,hp',h1,h2⟩:=La al hP hp h;exact bq.di h1 hd (hn _ h2)
 split at h
 ·rename_i r hx;exact bq.val al (Hm ah hx) hd (hn _ h)
 unfold Wn at h;split at h
 ·rename_i f args aw;rw[kp] at aw;unfold kI at aw;split at aw
  ·rename_i c hc;split at aw
   ·rename_i x hx;split at aw
    ·rename_i f' caps cY;simp only[alh,alk] at aw;obtain⟨rfl,rfl⟩:=aw;split at h
     ·rw[bh] at h;obtain⟨gO,h⟩:=h;obtain⟨x',we,Ai⟩:=rf h;rw[<-bP (g:=AV.bl s.hp) (fun x=>cK) _ gO,hP] at we;exact bq.pure al hc hx cY we hd fun r hr=>by rw[hr];exact hn _ Ai
     ·rw[bh] at h;obtain⟨gO,we,Ai⟩:=h;rw[<-bP (g:=AV.bl s.hp) (fun x=>cK) _ gO] at we Ai;rw[hP] at we;exact bq.pure al hc hx cY we hd fun r hr=>by rw[hr];exact hn _ Ai
     ·exact h.elim
     ·exact Ob.sound al hP hd h hn
     ·rw[bh] at h;obtain⟨gO,R,we,Ai⟩:=h;rw[<-bP (g:=AV.bl s.hp) (fun x=>cK) _ gO,hP] at we;exact bq.pure al hc hx cY we hd fun r hr=>hn _ (tT (Ai r hr))
     ·rw[bh] at h;obtain⟨gO,R,we,Ai⟩:=h;have aw:=bP (g:=AV.q9 0 s.hp) (fun x=>pb) _ gO;rw[hP] at we;exact bq.Zr al hc hx cY we (fun a w η us hr h=>by rw[<-aw];exact mI hr _ us h) hd fun r hr=>hn _ (tT (Ai r hr))
     ·rename_i n l ZF;obtain⟨hb,h⟩:=bM h;rw[bh] at h;obtain⟨gO,R,g1,g2⟩:=h;rw[aln] at hb;have aw:=bP (g:=AV.q9 (s.hp.take n).length s.hp) (fun x=>pb) _ gO;rw[hP] at g1;have qx:=aG.frame (more:=s.hp.drop n) (R:=fun r h'=>R r h'/\h'.length=(s.hp.take n).length) (g1.mono fun r h' hr=>⟨hr,alB (bM (gZ (g2 r h' hr))).1⟩) (fun r h' hr=>hr.2) hb.1 hb.2;rw[amd] at qx;exact bq.NM al hc hx cY qx (fun a w η us hr h=>by rw[<-aw];exact DC hr _ _ us h) hd fun r hp' hr=>by
       obtain⟨h',rfl,hr,_⟩:=hr;exact hn _ (bM (gZ (g2 r h' hr))).2
     ·rw[bh] at h;obtain⟨gO,els,we,Ai⟩:=h;rw[<-bP (g:=AV.bl s.hp) (fun x=>cK) _ gO,hP] at we;exact bq.fresh al hc hx cY we hd (hn _ Ai)
     ·unfold zv at h;obtain⟨hb,h⟩:=bM h;rw[bh] at h;obtain⟨gO,R,g1,g2⟩:=h;rename_i l _;generalize iP s.hp 100 [] (List.map s.ev c.args.toList++caps)=js at *;have aw:=bP (g:=AV.Hr js s.hp) (fun x=>xo) _ gO;rw[hP] at g1;have qx:=zv.hfn (R:=fun r h'=>R r h'/\uO js r h'=true) hb (g1.mono fun r h' hr=>⟨hr,(bM (gZ (g2 r h' hr))).1⟩) (fun r h' hr=>hr.2);exact bq.NM al hc hx cY qx (fun a w η us hr h=>by rw[<-aw];exact sq hr _ _ us h) hd fun r hp' hr=>by
       obtain⟨r',h',hr,rfl,rfl⟩:=hr;exact hn _ (bM (gZ (g2 r' h' hr.1))).2
    ·cases aw
   ·cases aw
  ·cases aw
 ·exact xq.sound al hP hd h hn
def KG (l:List Oper) (o:Oper) (s:AS Unit) (run skip:AS Unit->Prop):Prop:=
 match o.guard with
 |none=>run s
 |some (j,want)=>(match (l[j]?).bind (·.dst) with
  |some d=>(match s.tmps d with
   | .ae (.bool b)=>ag b (match want with|true=>run (s.put (some d) (.ae (.bool true)))|false=>skip (s.put (some d) (.ae (.bool true))))
     (match want with|true=>skip (s.put (some d) (.ae (.bool false)))|false=>run (s.put (some d) (.ae (.bool false))))
   | .ae (.tuple _)=>skip s
   |_=>False)
  |none=>False)
theorem DS {d:Nat} {x:AV} (h:s.tmps d=x):s.put (some d) x=s:=by
 cases s with
 |mk f hp g=>
  simp only[AS.put]
  congr 1
  funext t
  rw[fX];split
  ·rename_i ht;subst ht;exact h.symm
  ·rfl
theorem KG.cases {l:List Oper} {o:Oper} {run skip:AS Unit->Prop} (h:KG l o s run skip):
  (o.guard=none/\run s)\/(∃j want b,o.guard=some (j,want)/\jh l.toArray s j=some (some b)/\((b=want/\run s)\/(¬b=want/\skip s)))\/(∃j want,o.guard=some (j,want)/\jh l.toArray s j=some none/\skip s):=by
 unfold KG at h;split at h
 ·rename_i hg;exact .inl ⟨hg,h⟩
 ·rename_i j want hg;split at h
  ·rename_i d hd;split at h
   ·rename_i b hb;refine .inr (.inl ⟨j,want,b,hg,?_,?_⟩)
    ·unfold jh;simp only[amP,hd,hb]
    ·have:=h.elim
     cases b with
     |true=>
      have h1:=this.1 rfl;rw[DS hb] at h1
      cases want with
      |true=>exact .inl ⟨rfl,h1⟩
      |false=>exact .inr ⟨by simp,h1⟩
     |false=>
      have h1:=this.2 rfl;rw[DS hb] at h1
      cases want with
      |true=>exact .inr ⟨by simp,h1⟩
      |false=>exact .inl ⟨rfl,h1⟩
   ·rename_i v hb;refine .inr (.inr ⟨j,want,hg,?_,h⟩);unfold jh;simp only[amP,hd,hb]
   ·exact h.elim
  ·exact h.elim
def sr (C:cD) (l0:List Oper) (K:AS Unit->Prop):List Oper->AS Unit->Prop
 | [],s=>K s
 |o::rest,s=>KG l0 o s (fun s=>iG C o s (sr C l0 K rest)) (fun s=>match vK C.nt o.dst with|true=>sr C l0 K rest (s.put o.dst (.ae (.tuple #[])))|false=>False)
theorem sr.Od {C:cD} (al:Γ.Ok) (hP:C.P=Γ.P) (ah:aL Γ.P C.tab) (dj:C.nt=Γ.nt) {l0 rest:List Oper} {K K':AS Unit->Prop} (hK:∀s,K' s->gz Γ l0.toArray K rest s):∀(l:List Oper) (s:AS Unit),sr C l0 K' l s->gz Γ l0.toArray K (l++rest) s:=by
 intro l
 induction l with
 |nil=>intro s h;exact hK s h
 |cons o l ih=>
  intro s h;have skip:(match vK C.nt o.dst with|true=>sr C l0 K' l (s.put o.dst (.ae (.tuple #[])))|false=>False)->cP Γ.nt o.dst/\gz Γ l0.toArray K (l++rest) (s.put o.dst (.ae (.tuple #[]))):=by
   intro h;split at h
   ·rename_i hd;exact⟨by rw[<-dj];exact hO hd,ih _ h⟩
   ·exact h.elim
  rw[amR];rcases KG.cases h with⟨hg,h⟩|⟨j,want,b,hg,hb,⟨iW,h⟩|⟨iW,h⟩⟩|⟨j,want,hg,hb,h⟩
  ·exact gz.step (fun a w η _=>by simp[Region.wanted,hg]) (iG.sound al hP ah dj h ih)
  ·exact gz.step (fun a w η hr=>by simp[Region.wanted,hg,ef hr hb,iW]) (iG.sound al hP ah dj h ih)
  ·obtain⟨h1,h2⟩:=skip h;exact gz.skip (fun a w η hr=>by simp[Region.wanted,hg,ef hr hb,iW]) h1 h2
  ·obtain⟨h1,h2⟩:=skip h;exact gz.skip (fun a w η hr=>by simp[Region.wanted,hg,ef hr hb]) h1 h2
theorem sr.sound {C:cD} (al:Γ.Ok) (hP:C.P=Γ.P) (ah:aL Γ.P C.tab) (dj:C.nt=Γ.nt) {l0:List Oper} {K:AS Unit->Prop} (l:List Oper) (s:AS Unit) (h:sr C l0 K l s):gz Γ l0.toArray K l s:=by
 have:=sr.Od al hP ah dj (rest:=[]) (fun s h a w η Qc hQ hr=>hQ s a w η h hr) l s h
 rwa [ame] at this
def xr (x:Operand) (d:Nat):Bool:=
 match x with
 | .tmp t=>Nat.beq t d
 |_=>false
theorem xt {x:Operand} {d:Nat} (h:xr x d=true):x=.tmp d:=by
 unfold xr at h;split at h
 ·rw[alB h]
 ·cases h
def rm1 (C:cD) (s:AS Unit) (o:Oper):Option (Nat×Nat×TD×Int×Nat):=
 match o.guard,o.op,o.dst with
 |none,.call c,some d1=>(match c.callee,c.args.toList,c.argTypes.toList with
  | .builtin .append,[b,z],[T,T']=>(match s.ev b,s.ev z,oZ C.tab T,(C.tab T').map TD.kind with
   | .ae (.slice none 0 0),.ae (.int .i64 n),some (e,_,d'),some (.int _)=>some (T,e,d',n,d1)
   |_,_,_,_=>none)
  |_,_,_=>none)
 |_,_,_=>none
def rm2 (s:AS Unit) (o:Oper) (d1:Nat):Option Nat:=
 match o.guard,o.op,o.dst with
 |none,.move x,some d2=>(match s.ev x,xr x d1 with
  | .ae (.slice none 0 0),false=>some d2
  |_,_=>none)
 |_,_,_=>none
def rm3 (o:Oper) (T d2:Nat):Option Nat:=
 match o.guard,o.op,o.dst with
 |none,.call c,some d3=>(match c.callee,c.args.toList,c.argTypes.toList with
  | .builtin .len,[x],[T3]=>(match xr x d2&&Nat.beq T3 T with
   |true=>some d3
   |false=>none)
  |_,_,_=>none)
 |_,_,_=>none
def rm4 (o:Oper) (T d1 d3:Nat):Option Nat:=
 match o.guard,o.op,o.dst with
 |none,.slice T4 x none (some y) none,some d4=>(match Nat.beq T4 T&&(xr x d1&&xr y d3) with
  |true=>some d4
  |false=>none)
 |_,_,_=>none
def rmB (nt d1 d2 d3 d4:Nat) (d:TD):Bool:=(Nat.blt d1 nt&&(Nat.blt d2 nt&&(Nat.blt d3 nt&&Nat.blt d4 nt)))&&((!Nat.beq d1 d2&&!Nat.beq d1 d3)&&Nat.blt 0 d.size)
def DT (C:cD) (l0:List Oper) (K:AS Unit->Prop) (s:AS Unit):List Oper->Prop
 |o1::o2::o3::o4::rest=>(match rm1 C s o1 with
  |some (T,e,d',n,d1)=>(match rm2 s o2 d1 with
   |some d2=>(match rm3 o3 T d2 with
    |some d3=>(match rm4 o4 T d1 d3 with
     |some d4=>okB (rmB C.nt d1 d2 d3 d4 d') ((0<n/\n.toNat<=maxLen/\n.toNat*d'.bytes<=140737488355328)/\
       sr C l0 K rest (AS.put (AS.put (AS.put (AS.put { s with hp:=s.hp++[.row e d'.size []] } (some d1) .top) (some d2) (.ae (.slice none 0 0))) (some d3) (.ae (.int .i64 0))) (some d4) (.own s.hp.length 0)))
     |none=>False)
    |none=>False)
   |none=>False)
  |none=>False)
 |_=>False
theorem DT.sound {C:cD} (al:Γ.Ok) (hP:C.P=Γ.P) (ah:aL Γ.P C.tab) (dj:C.nt=Γ.nt) {l0:List Oper} {K:AS Unit->Prop} {l:List Oper} {s:AS Unit} (h:DT C l0 K s l):gz Γ l0.toArray K l s:=by
 unfold DT at h;split at h
 ·rename_i o1 o2 o3 o4 rest;split at h
  ·rename_i T e d' n d1 h1;split at h
   ·rename_i d2 h2;split at h
    ·rename_i d3 h3;split at h
     ·rename_i d4 h4;obtain⟨hb,⟨hn,hm,GG⟩,Xd⟩:=bM h;unfold rmB at hb;simp only[aln,al0] at hb;obtain⟨⟨l1,l2,l3,l4⟩,⟨n12,n13⟩,bO⟩:=hb;have aq:∀{d:Nat},Nat.blt d C.nt=true->d<Γ.nt:=fun h=>by rw[<-dj];exact alF h
      have bL:∀{x y:Nat},Nat.beq x y=false->x≠y:=fun h e=>by subst e;rw[Nat.beq_refl] at h;cases h
      obtain⟨m,rfl⟩:∃m:Nat,n=(m:Int):=⟨n.toNat,by omega⟩;rw[ams] at hm GG;unfold rm1 at h1;split at h1
      ·rename_i c1 d1' g1 p1 t1;split at h1
       ·rename_i b z T1 T' Bq aw dZ;split at h1
        ·rename_i dd ik oL hzv hs hT';simp only[alh,alk] at h1;obtain⟨rfl,rfl,rfl,rfl,rfl⟩:=h1;obtain⟨q1,q2,q3⟩:=xj hs;obtain⟨dz,q4,q5⟩:=amb.1 hT';unfold rm2 at h2;split at h2
         ·rename_i x d2' g2 p2 t2;split at h2
          ·rename_i hx hxd;obtain rfl:=alj h2;unfold rm3 at h3;split at h3
           ·rename_i c3 d3' g3 p3 t3;split at h3
            ·rename_i y T3 ZG XN ae8;split at h3
             ·rename_i Zh;obtain rfl:=alj h3;rw[aln] at Zh;have ey:=xt Zh.1;have eT:=alB Zh.2;subst ey;subst eT;unfold rm4 at h4;split at h4
              ·rename_i T4 x4 y4 d4' g4 p4 t4;split at h4
               ·rename_i hb4;obtain rfl:=alj h4;simp only[aln] at hb4;have e1:=xt hb4.2.1;have e2:=xt hb4.2.2;have e3:=alB hb4.1;subst e1;subst e2;subst e3;exact gz.room al ah (n:=m) g1 g2 g3 g4 p1 Bq (by rw[<-alV (xs:=c1.args),aw]) (by rw[<-alV (xs:=c1.argTypes),dZ]) q1 q2 q3 q4 q5 (alF bO) oL hzv (by omega) hm GG
                 p2 hx (fun e=>by rw[e] at hxd;simp[xr] at hxd) p3 ZG (by rw[<-alV (xs:=c3.args),XN]) (by rw[<-alV (xs:=c3.argTypes),ae8]) p4 t1 t2 t3 t4 (aq l1) (aq l2) (aq l3) (aq l4) (bL n12) (bL n13) (sr.sound al hP ah dj _ _ Xd)
               ·cases h4
              ·cases h4
             ·cases h3
            ·cases h3
           ·cases h3
          ·cases h2
         ·cases h2
        ·cases h1
       ·cases h1
      ·cases h1
     ·exact h.elim
    ·exact h.elim
   ·exact h.elim
  ·exact h.elim
 ·exact h.elim
def ZH:List (Nat×Nat)->Nat->Option Nat
 | [],_=>none
 |p::l,k=>(match Nat.beq p.1 k with
  |true=>some p.2
  |false=>ZH l k)
def DU (C:cD) (id:Nat) (l:List Oper) (K:AS Unit->Prop) (s:AS Unit):Prop:=
 match ZH C.rm id with
 |none=>sr C l K l s
 |some k=>sr C l (fun s=>DT C l K s (l.drop k)) (l.take k) s
theorem DU.sound {C:cD} (al:Γ.Ok) (hP:C.P=Γ.P) (ah:aL Γ.P C.tab) (dj:C.nt=Γ.nt) {id:Nat} {K:AS Unit->Prop} {l:List Oper} {s:AS Unit} (h:DU C id l K s):gz Γ l.toArray K l s:=by
 unfold DU at h;split at h
 ·exact sr.sound al hP ah dj l s h
 ·rename_i k _;have:=sr.Od al hP ah dj (rest:=l.drop k) (fun s h=>DT.sound al hP ah dj h) _ _ h
  rwa [amd] at this
def kO (C:cD) (o:Oper) (s:AS Unit) (next:AS Unit->Prop):Prop:=
 match K6 C.tab C.MQ s.hp s.ev o.op (fun r=>next (s.put o.dst r)) with
 |some p=>p
 |none=>(match pa s o.op with
  |some (f,args)=>(match DO C f o with
   | .one sh=>fU (ct (AV.bA s.hp) args).1 (XA [] sh fun x=>af C.P f (ct (AV.bA s.hp) args).2 x/\next (s.put o.dst x))
   |_=>False)
  |none=>False)
theorem kO.sound {C:cD} (hP:C.P=Γ.P) {o:Oper} {next N R:AS Unit->Prop} (h:kO C o s next) (h1:∀s,next s->N s) (h2:∀s,next s->R s):DStep Γ C.tab o s N R:=by
 unfold kO at h;split at h
 ·rename_i p hp;obtain⟨c,r,g1,g2,g3⟩:=wc hp h;unfold DStep;rw[g1];exact⟨g2,h1 _ g3⟩
 ·split at h
  ·rename_i f args aw;split at h
   rotate_left
   ·exact h.elim
   rw[bh] at h;obtain⟨gO,h⟩:=h;obtain⟨x',we,Ai⟩:=rf h;rw[<-bP (g:=AV.bl s.hp) (fun x=>cK) _ gO,hP] at we;rw[kp] at aw;unfold kI at aw;split at aw
   ·rename_i c hc;split at aw
    ·rename_i x hx;split at aw
     ·rename_i f' caps cY;simp only[alh,alk] at aw;obtain⟨rfl,rfl⟩:=aw;unfold DStep;rw[hc];have Tg:bo C.tab s.hp s.ev (.call c)=none:=by simp only[bo,hx]
      have qE:fg s (.call c)=some (f',(c.args.toList.map s.ev++caps).map (AV.bl s.hp)):=by simp only[fg,hx,cY]
      rw[Tg,qE];exact⟨x',we,h2 _ Ai⟩
     ·cases aw
    ·cases aw
   ·cases aw
  ·exact h.elim
def ss (C:cD) (l0:List Oper) (K:AS Unit->Prop):List Oper->AS Unit->Prop
 | [],s=>K s
 |o::rest,s=>(match vK C.nt o.dst with
  |false=>False
  |true=>(match cf o.op with
   |true=>(match o.guard with
    |none=>(match DN C.tab s.hp s.ev o.op (fun r hp'=>ss C l0 K rest (AS.put { s with hp:=hp' } o.dst r)) with
     |some p=>p
     |none=>False)
    |some _=>False)
   |false=>KG l0 o s (fun s=>kO C o s (ss C l0 K rest)) (fun s=>ss C l0 K rest (s.put o.dst (.ae (.tuple #[]))))))
theorem ss.sound {C:cD} (al:Γ.Ok) (hP:C.P=Γ.P) (ah:aL Γ.P C.tab) (dj:C.nt=Γ.nt) {l0:List Oper} {K:AS Unit->Prop}:∀(l:List Oper) (s:AS Unit),ss C l0 K l s->mC Γ C.tab C.nt l0.toArray K l s:=by
 intro l
 induction l with
 |nil=>intro s h;exact h
 |cons o rest ih=>
  intro s h;simp only[ss] at h;simp only[mC];split at h
  ·exact h.elim
  rename_i hd;have hd:=hO hd;split at h
  ·rename_i he;rw[if_pos he];split at h
   ·rename_i hg;split at h
    ·rename_i p hp;obtain⟨c,r,hp',g1,g2,g3⟩:=p7 hp h;rw[g1];exact⟨hd,hg,g2,ih _ g3⟩
    ·exact h.elim
   ·exact h.elim
  ·rename_i he;rw[if_neg (by rw[he];simp)];refine⟨hd,?_⟩;have mH:∀s,ss C l0 K rest s->tM Γ l0.toArray K rest s:=fun s h=>mC.sound al ah dj rest s (ih s h);rcases KG.cases h with⟨hg,h⟩|⟨j,want,b,hg,hb,⟨iW,h⟩|⟨iW,h⟩⟩|⟨j,want,hg,hb,h⟩
   ·rw[hg];exact kO.sound hP h ih mH
   ·rw[hg];dsimp only;rw[hb];exact⟨fun _=>kO.sound hP h ih mH,fun hn=>(hn iW).elim⟩
   ·rw[hg];dsimp only;rw[hb];exact⟨fun hn=>(iW hn).elim,fun _=>ih _ h⟩
   ·rw[hg];dsimp only;rw[hb];exact ih _ h
def TP (ρ:Operand->AV):Op->Option Nat
 | .store _ p _=>(match ρ p with | .ptr r _=>some r | .fq r _ _ _=>some r|_=>none)
 | .mapUpdate _ m _ _=>(match ρ m with | .mp r=>some r|_=>none)
 | .call c=>(match c.args.toList with
  |b::_=>(match ρ b with | .own r _=>some r|_=>none)
  | []=>none)
 |_=>none
theorem XO {tab:Nat->Option TD} {hp hp':List ab} {ρ:Operand->AV} {op:Op} {c:Prop} {r:AV} (h:dB tab hp ρ op=some (c,r,hp')):
  (∃o,hp'=hp++[o])\/∃q o,TP ρ op=some q/\hp'=hp.set q o:=by
 cases op with
 |alloc T=>
  simp only[dB] at h;split at h
  ·simp only[alh,alk] at h;exact .inl ⟨_,h.2.2.symm⟩
  ·cases h
 |box T x=>
  simp only[dB] at h;split at h
  ·simp only[alh,alk] at h;exact .inl ⟨_,h.2.2.symm⟩
  ·cases h
 |store T p x=>
  simp only[dB] at h;split at h
  ·rename_i d r' o hd iC;split at h
   ·split at h
    ·simp only[alh,alk] at h;exact .inr ⟨r',_,by simp only[TP,iC],h.2.2.symm⟩
    ·cases h
   ·cases h
  ·rename_i d r' m i z hd iC;split at h
   ·split at h
    ·split at h
     ·simp only[alh,alk] at h;exact .inr ⟨r',_,by simp only[TP,iC],h.2.2.symm⟩
     ·simp only[alh,alk] at h;exact .inr ⟨r',_,by simp only[TP,iC],h.2.2.symm⟩
    ·cases h
   ·cases h
  ·cases h
 |makeSlice T l c=>
  simp only[dB] at h;split at h
  ·split at h
   ·split at h
    ·split at h
     ·split at h
      ·simp only[alh,alk] at h;exact .inl ⟨_,h.2.2.symm⟩
      ·cases h
     ·cases h
    split at h
    ·simp only[alh,alk] at h;exact .inl ⟨_,h.2.2.symm⟩
    ·cases h
   ·cases h
  ·cases h
 |makeMap T x=>
  cases x with
  |some x=>simp[dB] at h
  |none=>
   simp only[dB] at h;split at h
   ·split at h
    ·split at h
     ·split at h
      ·simp only[alh,alk] at h;exact .inl ⟨_,h.2.2.symm⟩
      ·simp only[alh,alk] at h;exact .inl ⟨_,h.2.2.symm⟩
     ·cases h
    ·cases h
   ·cases h
 |mapUpdate T m k x=>
  simp only[dB] at h;split at h
  ·rename_i d r' a v hd hm hk hx;split at h
   ·split at h
    ·split at h
     ·simp only[alh,alk] at h;exact .inr ⟨r',_,by simp only[TP,hm],h.2.2.symm⟩
     ·cases h
    ·cases h
   ·cases h
  ·rename_i d r' a v hd hm hk hx;split at h
   ·split at h
    ·split at h
     ·simp only[alh,alk] at h;exact .inr ⟨r',_,by simp only[TP,hm],h.2.2.symm⟩
     ·cases h
    ·cases h
   ·cases h
  ·cases h
 |call c=>
  simp only[dB] at h;split at h
  ·rename_i b x T T' hb hl hT;split at h
   ·split at h
    ·split at h
     ·split at h
      ·split at h
       ·simp only[alh,alk] at h;exact .inl ⟨_,h.2.2.symm⟩
       ·simp only[alh,alk] at h;exact .inl ⟨_,h.2.2.symm⟩
       ·rename_i r' n oL;split at h
        ·split at h
         ·simp only[alh,alk] at h;exact .inr ⟨r',_,by simp only[TP,hl,oL],h.2.2.symm⟩
         ·cases h
        ·split at h
         ·simp only[alh,alk] at h;exact .inr ⟨r',_,by simp only[TP,hl,oL],h.2.2.symm⟩
         ·cases h
        ·cases h
       ·cases h
      ·cases h
     ·cases h
    ·cases h
   ·cases h
  ·cases h
 |_=>simp[dB] at h
theorem mF.same (l:List Nat):∀(hp:List ab) (q:Nat) (more:List ab),mF l q hp (hp++more)
 | [],_,_=>True.intro
 |_::hp,q,more=>⟨.inr rfl,mF.same l hp (q+1) more⟩
theorem mF.refl (l:List Nat) (hp:List ab) (q:Nat):mF l q hp hp:=by
 have:=mF.same l hp q []
 rwa [ame] at this
theorem mF.set (l:List Nat):∀(hp:List ab) (q r:Nat) (o:ab),q+r∈l->mF l q hp (hp.set r o)
 | [],_,_,_,_=>True.intro
 |_::hp,q,0,o,h=>⟨.inl h,mF.refl l hp (q+1)⟩
 |_::hp,q,r+1,o,h=>⟨.inr rfl,mF.set l hp (q+1) r o (by rw[show q+1+r=q+(r+1) from by omega];exact h)⟩
def Hu:List Nat->Nat->Bool
 | [],_=>false
 |x::l,k=>(match Nat.beq x k with|true=>true|false=>Hu l k)
theorem Bv:∀{l:List Nat} {k:Nat},Hu l k=true->k∈l
 | [],_,h=>by cases h
 |x::l,k,h=>by
  simp only[Hu] at h;split at h
  ·rename_i hx;rw[alB hx];exact alD
  ·exact alK _ (Bv h)
def pf:List (Option (List Nat))->Nat->Option (List Nat)
 | [],_=>none
 |x::_,0=>x
 |_::l,n+1=>pf l n
theorem eR:∀(l:List (Option (List Nat))) (n:Nat),pf l n=l.getD n none
 | [],n=>by simp[pf]
 |x::l,0=>by simp[pf]
 |x::l,n+1=>by simp only[pf,eR l n,List.getD_cons_succ]
def Oe (m:Option (List Nat)) (ρ:Operand->AV) (op:Op):Bool:=
 match m with
 |none=>true
 |some l=>(match TP ρ op with
  |none=>true
  |some q=>Hu l q)
theorem Bw {tab:Nat->Option TD} {hp hp':List ab} {ρ:Operand->AV} {op:Op} {c:Prop} {r:AV} {m:Option (List Nat)} (hb:Oe m ρ op=true) (h:dB tab hp ρ op=some (c,r,hp')):
  ∀l,m=some l->mF l 0 hp hp':=by
 intro l hm;subst hm
 ·rcases XO h with⟨o,rfl⟩|⟨q,o,hq,rfl⟩
  ·exact mF.same l hp 0 [o]
  ·simp only[Oe,hq] at hb;exact mF.set l hp 0 q o (by rw[alM];exact Bv hb)
def eS (C:cD) (m:Option (List Nat)) (o:Oper) (s:AS Unit) (next:AS Unit->Prop):Prop:=
 match gb o.op with
 |true=>(match K6 C.tab C.MQ s.hp s.ev o.op (fun r=>next (s.put o.dst r)) with
  |some p=>p
  |none=>False)
 |false=>(match m with
  |none=>kO C o s next
  |some K=>okB ((pZ o.op).all fun x=>(s.ev x).closed (kill K s.hp).length) (okB ((kill K s.hp).all fun ob=>ab.closed (kill K s.hp).length ob)
   (match K6 C.tab C.MQ (kill K s.hp) s.ev o.op (fun r=>okB (r.held (kill K s.hp)) (next (s.put o.dst r))) with
   |some p=>p
   |none=>(match pa s o.op with
    |some (f,args)=>(match DO C f o with
     | .one sh=>fU (ct (AV.bA (kill K s.hp)) args).1 (XA [] sh fun x=>af C.P f (ct (AV.bA (kill K s.hp)) args).2 x/\okB (x.held (kill K s.hp)) (next (s.put o.dst x)))
     |_=>False)
    |none=>False))))
theorem DV {s:AS Unit} {op:Op} {f:Nat} {args:List AV} (h:pa s op=some (f,args)) (tab:Nat->Option TD) (hp:List ab):
  bo tab hp s.ev op=none/\fg { s with hp:=hp } op=some (f,args.map (AV.bl hp)):=by
 rw[kp] at h;unfold kI at h;split at h
 ·rename_i c;split at h
  ·rename_i x hx;split at h
   ·rename_i f' caps cY;simp only[alh,alk] at h;obtain⟨rfl,rfl⟩:=h;refine⟨by simp only[bo,hx],?_⟩;have ae9:(AS.ev { s with hp:=hp } x)=.bf f' caps:=by rw[<-cY];cases x<;>rfl
    have hm:c.args.toList.map (AS.ev { s with hp:=hp })=c.args.toList.map s.ev:=amx fun y _=>by cases y<;>rfl
    simp only[fg,hx,ae9,hm]
   ·cases h
  ·cases h
 ·cases h
theorem eS.sound {C:cD} (hP:C.P=Γ.P) {m:Option (List Nat)} {o:Oper} {next N R:AS Unit->Prop} (h:eS C m o s next) (h1:∀s,next s->N s) (h2:∀s,next s->R s):gX Γ C.tab m o s N R:=by
 unfold eS at h;unfold gX;split at h
 ·rename_i hh;rw[if_pos hh];split at h
  ·rename_i p hp;obtain⟨c,r,g1,g2,g3⟩:=wc hp h;rw[g1];exact⟨g2,h1 _ g3⟩
  ·exact h.elim
 ·rename_i hh;rw[if_neg (by rw[hh];simp)]
  cases m with
  |none=>exact kO.sound hP h h1 h2
  |some K=>
   dsimp only at h ⊢;obtain⟨GY,h⟩:=bM h;obtain⟨MB,h⟩:=bM h;refine⟨GY,fun ob ei=>alv.1 MB ob ei,?_⟩;split at h
   ·rename_i p hp;obtain⟨c,r,g1,g2,g3⟩:=wc hp h;obtain⟨g4,g5⟩:=bM g3;rw[g1];exact⟨g2,g4,h1 _ g5⟩
   ·split at h
    ·rename_i f args aw;split at h
     rotate_left
     ·exact h.elim
     rw[bh] at h;obtain⟨gO,h⟩:=h;obtain⟨x',we,Ai⟩:=rf h;obtain⟨g4,g5⟩:=bM Ai;rw[<-bP (g:=AV.bl (kill K s.hp)) (fun x=>cK) _ gO,hP] at we;obtain⟨q1,q2⟩:=DV aw C.tab (kill K s.hp);rw[q1,q2];exact⟨x',we,g4,h2 _ g5⟩
    ·exact h.elim
def su (C:cD) (l0:List Oper) (Cl M:List (Option (List Nat))) (K:AS Unit->Prop):Nat->List Oper->AS Unit->Prop
 |_,[],s=>K s
 |k,o::rest,s=>(match vK C.nt o.dst with
  |false=>False
  |true=>(match cf o.op with
   |true=>(match o.guard with
    |none=>okB (Oe (pf Cl k) s.ev o.op) (match DN C.tab s.hp s.ev o.op (fun r hp'=>su C l0 Cl M K (k+1) rest (AS.put { s with hp:=hp' } o.dst r)) with
     |some p=>p
     |none=>False)
    |some _=>False)
   |false=>KG l0 o s (fun s=>eS C (pf M k) o s (su C l0 Cl M K (k+1) rest)) (fun s=>su C l0 Cl M K (k+1) rest (s.put o.dst (.ae (.tuple #[]))))))
theorem su.sound {C:cD} (ajp:Γ.Ok) (hP:C.P=Γ.P) (ah:aL Γ.P C.tab) (dj:C.nt=Γ.nt) {l0:List Oper} {Cl M:List (Option (List Nat))} {K:AS Unit->Prop}:∀(l:List Oper) (k:Nat) (s:AS Unit),su C l0 Cl M K k l s->mG Γ C.tab C.nt l0.toArray Cl M K k l s:=by
 intro l
 induction l with
 |nil=>intro k s h;exact h
 |cons o rest ih=>
  intro k s h;simp only[su] at h;simp only[mG];split at h
  ·exact h.elim
  rename_i hd;have hd:=hO hd;split at h
  ·rename_i he;rw[if_pos he];split at h
   ·rename_i hg;obtain⟨DW,h⟩:=bM h;split at h
    ·rename_i p hp;obtain⟨c,r,hp',g1,g2,g3⟩:=p7 hp h;have:=Bw DW g1;rw[eR] at this;rw[g1];refine⟨hd,hg,g2,?_,ih _ _ g3⟩;split
     ·trivial
     ·rename_i l hl;exact this l hl
    ·exact h.elim
   ·exact h.elim
  ·rename_i he;rw[if_neg (by rw[he];simp)];refine⟨hd,?_⟩;have mH:∀s,su C l0 Cl M K (k+1) rest s->om Γ l0.toArray Cl M K (k+1) rest s:=fun s h=>mG.sound ah dj rest (k+1) s (ih _ s h);rcases KG.cases h with⟨hg,h⟩|⟨j,want,b,hg,hb,⟨iW,h⟩|⟨iW,h⟩⟩|⟨j,want,hg,hb,h⟩
   ·rw[hg];dsimp only;rw[eR] at h;exact eS.sound hP h (ih _) mH
   ·rw[hg];dsimp only;rw[hb];rw[eR] at h;exact⟨fun _=>eS.sound hP h (ih _) mH,fun hn=>(hn iW).elim⟩
   ·rw[hg];dsimp only;rw[hb];exact⟨fun hn=>(iW hn).elim,fun _=>ih _ _ h⟩
   ·rw[hg];dsimp only;rw[hb];exact ih _ _ h
def aX (hs:List Nat) (o:Oper):Bool:=
 match o.op with
 | .call c=>(match c.callee with
  | .value (.func f)=>Hu hs f
  | .value (.tmp t)=>Hu hs (t+1000000)
  |_=>false)
 |_=>false
def qJ (C:cD) (hs:List Nat) (l0:List Oper) (K:AS Unit->Prop):List Oper->AS Unit->Prop
 | [],s=>K s
 |o::rest,s=>(match vK C.nt o.dst with
  |false=>False
  |true=>(match cf o.op with
   |true=>(match o.guard with
    |none=>(match DN C.tab s.hp s.ev o.op (fun r hp'=>qJ C hs l0 K rest (AS.put { s with hp:=hp' } o.dst r)) with
     |some p=>p
     |none=>False)
    |some _=>False)
   |false=>(match aX hs o with
    |true=>KG l0 o s (fun s=>iG C o s (qJ C hs l0 K rest)) (fun s=>qJ C hs l0 K rest (s.put o.dst (.ae (.tuple #[]))))
    |false=>KG l0 o s (fun s=>kO C o s (qJ C hs l0 K rest)) (fun s=>qJ C hs l0 K rest (s.put o.dst (.ae (.tuple #[])))))))
theorem qJ.sound {C:cD} (al:Γ.Ok) (hP:C.P=Γ.P) (ah:aL Γ.P C.tab) (dj:C.nt=Γ.nt) {hs:List Nat} {l0:List Oper} {K:AS Unit->Prop}:∀(l:List Oper) (s:AS Unit),qJ C hs l0 K l s->jF Γ l0.toArray (aX hs) K l s:=by
 intro l
 induction l with
 |nil=>intro s h;exact h
 |cons o rest ih=>
  intro s h;simp only[qJ] at h;simp only[jF];split at h
  ·exact h.elim
  rename_i hd;have hd:=hO hd;rw[dj] at hd;split at h
  ·rename_i he;rw[if_pos he];split at h
   ·rename_i hg;split at h
    ·rename_i p hp;obtain⟨c,r,hp',g1,g2,g3⟩:=p7 hp h;exact⟨hd,hg,r,hp',iL al ah g1 g2,ih _ g3⟩
    ·exact h.elim
   ·exact h.elim
  ·rename_i he;rw[if_neg (by rw[he];simp)];split at h
   ·rename_i hh;rw[if_pos hh];rcases KG.cases h with⟨hg,h⟩|⟨j,want,b,hg,hb,⟨iW,h⟩|⟨iW,h⟩⟩|⟨j,want,hg,hb,h⟩
    ·exact .inl ⟨by simp[aC,hg],iG.sound al hP ah dj h ih⟩
    ·exact .inl ⟨by simp[aC,hg,hb,iW],iG.sound al hP ah dj h ih⟩
    ·exact .inr ⟨by simp[aC,hg,hb,iW],hd,ih _ h⟩
    ·exact .inr ⟨by simp[aC,hg,hb],hd,ih _ h⟩
   ·rename_i hh;rw[if_neg (by rw[hh];simp)];rcases KG.cases h with⟨hg,h⟩|⟨j,want,b,hg,hb,⟨iW,h⟩|⟨iW,h⟩⟩|⟨j,want,hg,hb,h⟩
    ·obtain⟨x,h3,h4⟩:=DStep.sound (ops:=l0.toArray) al ah (kO.sound (Γ:=Γ) (N:=jF Γ l0.toArray (aX hs) K rest) (R:=jF Γ l0.toArray (aX hs) K rest) hP h ih ih) (fun _ h=>h) (fun _ h=>h);exact⟨x,⟨hd,.inl ⟨by simp[aC,hg],h3⟩⟩,h4⟩
    ·obtain⟨x,h3,h4⟩:=DStep.sound (ops:=l0.toArray) al ah (kO.sound (Γ:=Γ) (N:=jF Γ l0.toArray (aX hs) K rest) (R:=jF Γ l0.toArray (aX hs) K rest) hP h ih ih) (fun _ h=>h) (fun _ h=>h);exact⟨x,⟨hd,.inl ⟨by simp[aC,hg,hb,iW],h3⟩⟩,h4⟩
    ·exact⟨_,⟨hd,.inr ⟨by simp[aC,hg,hb,iW],rfl⟩⟩,ih _ h⟩
    ·exact⟨_,⟨hd,.inr ⟨by simp[aC,hg,hb],rfl⟩⟩,ih _ h⟩
def qK (C:cD) (hs:List Nat) (l0:List Oper) (Cl M:List (Option (List Nat))) (K:AS Unit->Prop):Nat->List Oper->AS Unit->Prop
 |_,[],s=>K s
 |k,o::rest,s=>(match vK C.nt o.dst with
  |false=>False
  |true=>(match cf o.op with
   |true=>(match o.guard with
    |none=>okB (Oe (pf Cl k) s.ev o.op) (match DN C.tab s.hp s.ev o.op (fun r hp'=>qK C hs l0 Cl M K (k+1) rest (AS.put { s with hp:=hp' } o.dst r)) with
     |some p=>p
     |none=>False)
    |some _=>False)
   |false=>(match aX hs o with
    |true=>KG l0 o s (fun s=>iG C o s (qK C hs l0 Cl M K (k+1) rest)) (fun s=>qK C hs l0 Cl M K (k+1) rest (s.put o.dst (.ae (.tuple #[]))))
    |false=>KG l0 o s (fun s=>eS C (pf M k) o s (qK C hs l0 Cl M K (k+1) rest)) (fun s=>qK C hs l0 Cl M K (k+1) rest (s.put o.dst (.ae (.tuple #[])))))))
theorem qK.sound {C:cD} (al:Γ.Ok) (hP:C.P=Γ.P) (ah:aL Γ.P C.tab) (dj:C.nt=Γ.nt) {hs:List Nat} {l0:List Oper} {Cl M:List (Option (List Nat))} {K:AS Unit->Prop}:∀(l:List Oper) (k:Nat) (s:AS Unit),qK C hs l0 Cl M K k l s->jG Γ l0.toArray (aX hs) Cl M K k l s:=by
 intro l
 induction l with
 |nil=>intro k s h;exact h
 |cons o rest ih=>
  intro k s h;simp only[qK] at h;simp only[jG];split at h
  ·exact h.elim
  rename_i hd;have hd:=hO hd;rw[dj] at hd;split at h
  ·rename_i he;rw[if_pos he];split at h
   ·rename_i hg;obtain⟨DW,h⟩:=bM h;split at h
    ·rename_i p hp;obtain⟨c,r,hp',g1,g2,g3⟩:=p7 hp h;have:=Bw DW g1;rw[eR] at this;refine⟨hd,hg,r,hp',fun r6 Bk e1 e2 e3=>iL Bk (tab:=C.tab) (by rw[e1];exact ah) (c:=c) ?_ g2,?_,ih _ _ g3⟩
     ·rw[<-g1];exact q6 fun x hx=>jP hx
     ·unfold kJ;split
      ·trivial
      ·rename_i l' hl;have qx:=mF.fr (l:=l') s.hp hp' 0 (this l' hl);exact⟨qx.1,fun i ob hi ho=>qx.2 i ob (by simpa using hi) ho⟩
    ·exact h.elim
   ·exact h.elim
  ·rename_i he;rw[if_neg (by rw[he];simp)];split at h
   ·rename_i hh;rw[if_pos hh];rcases KG.cases h with⟨hg,h⟩|⟨j,want,b,hg,hb,⟨iW,h⟩|⟨iW,h⟩⟩|⟨j,want,hg,hb,h⟩
    ·exact .inl ⟨by simp[aC,hg],iG.sound al hP ah dj h (ih (k+1))⟩
    ·exact .inl ⟨by simp[aC,hg,hb,iW],iG.sound al hP ah dj h (ih (k+1))⟩
    ·exact .inr ⟨by simp[aC,hg,hb,iW],hd,ih _ _ h⟩
    ·exact .inr ⟨by simp[aC,hg,hb],hd,ih _ _ h⟩
   ·rename_i hh;rw[if_neg (by rw[hh];simp)];rcases KG.cases h with⟨hg,h⟩|⟨j,want,b,hg,hb,⟨iW,h⟩|⟨iW,h⟩⟩|⟨j,want,hg,hb,h⟩
    ·rw[eR] at h;obtain⟨x,h3,h4⟩:=gX.sound (ops:=l0.toArray) ah (eS.sound (Γ:=Γ) (N:=jG Γ l0.toArray (aX hs) Cl M K (k+1) rest) (R:=jG Γ l0.toArray (aX hs) Cl M K (k+1) rest) hP h (ih (k+1)) (ih (k+1))) (fun _ h=>h) (fun _ h=>h) (.inl hg);exact⟨x,⟨hd,.inl ⟨by simp[aC,hg],h3⟩⟩,h4⟩
    ·rw[eR] at h;obtain⟨x,h3,h4⟩:=gX.sound (ops:=l0.toArray) ah (eS.sound (Γ:=Γ) (N:=jG Γ l0.toArray (aX hs) Cl M K (k+1) rest) (R:=jG Γ l0.toArray (aX hs) Cl M K (k+1) rest) hP h (ih (k+1)) (ih (k+1))) (fun _ h=>h) (fun _ h=>h) (.inr ⟨j,want,_,hg,hb⟩);exact⟨x,⟨hd,.inl ⟨by simp[aC,hg,hb,iW],h3⟩⟩,h4⟩
    ·exact⟨_,⟨hd,.inr ⟨by simp[aC,hg,hb,iW],rfl⟩⟩,ih _ _ h⟩
    ·exact⟨_,⟨hd,.inr ⟨by simp[aC,hg,hb],rfl⟩⟩,ih _ _ h⟩
def TQ:List (Nat×List Nat)->Nat->Option (List Nat)
 | [],_=>none
 |p::l,k=>(match Nat.beq p.1 k with|true=>some p.2|false=>TQ l k)
def XP:List (Nat×List (Option (List Nat))×List (Option (List Nat)))->Nat->Option (List (Option (List Nat))×List (Option (List Nat)))
 | [],_=>none
 |p::l,k=>(match Nat.beq p.1 k with|true=>some p.2|false=>XP l k)
end Go.Proofs.YtnkjkpmbgoehkaaGreat
