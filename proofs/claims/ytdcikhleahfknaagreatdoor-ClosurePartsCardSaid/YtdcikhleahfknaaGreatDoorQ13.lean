/- Texts of ours laid together for a claim: VcA. -/
import Derived.Test.YtdcikhleahfknaaGreatDoorQ12
namespace Go.Proofs.YtdcikhleahfknaaGreatDoor
open Go
set_option linter.unusedSimpArgs false
set_option linter.unusedVariables false
def eH:List Prop→Prop→Prop
 | [],p=>p
 |c::l,p=>c∧eH l p
def dw:List Prop→Prop
 | []=>True
 |c::l=>c∧dw l
theorem bg {l:List Prop} {p:Prop}:eH l p↔dw l∧p:=by
 induction l with
 |nil=>simp[eH,dw]
 |cons c l ih=>simp only[eH,dw,ih,and_assoc]
theorem bq {l m:List Prop}:dw (l++m)↔dw l∧dw m:=by
 induction l with
 |nil=>simp[dw]
 |cons c l ih=>simp only[List.cons_append,dw,ih,and_assoc]
def ak (b:Bool) (x y:Prop):Prop:=
 match b with
 |true=>x
 |false=>y
theorem ak.intro {b:Bool} {x y:Prop} (h1:b=true→x) (h2:b=false→y):ak b x y:=by
 cases b with
 |true=>exact h1 rfl
 |false=>exact h2 rfl
theorem ak.pos {b:Bool} {x y:Prop} (h:b=true) (hx:x):ak b x y:=by subst h;exact hx
theorem ak.neg {b:Bool} {x y:Prop} (h:b=false) (hy:y):ak b x y:=by subst h;exact hy
theorem ak.elim {b:Bool} {x y:Prop} (h:ak b x y):(b=true→x)∧(b=false→y):=by
 cases b with
 |true=>exact⟨fun _=>h,fun h=>(by cases h)⟩
 |false=>exact⟨fun h=>(by cases h),fun _=>h⟩
def pt:Value→Bool
 | .bool b=>b
 |_=>false
def CQ:Value→Int
 | .int _ n=>n
 |_=>0
def AV.jm (hp:List af):AV→Option (List Prop×List AV)
 | .sl els=>some ([],els)
 | .clip els=>some ([],els)
 | .ae v=>(match v with | .slice none 0 0=>some ([],[])|_=>none)
 | .own r n=>(match hp[r]? with
  |some (.row _ _ els)=>some ([n=els.length],els)
  |_=>none)
 |_=>none
theorem eM {hp:List af} {x:AV} {cs:List Prop} {els:List AV} (h:x.jm hp=some (cs,els)) (hc:dw cs):x.fq hp=some els:=by
 cases x with
 |sl l=>simp only[AV.jm,Option.some.injEq,Prod.mk.injEq] at h;simp[AV.fq,h.2]
 |clip l=>simp only[AV.jm,Option.some.injEq,Prod.mk.injEq] at h;simp[AV.fq,h.2]
 |ae v=>
  simp only[AV.jm] at h
  split at h
  ·simp only[Option.some.injEq,Prod.mk.injEq] at h;simp[AV.fq,h.2]
  ·cases h
 |own r n=>
  simp only[AV.jm] at h
  split at h
  ·rename_i e z l hr
   simp only[Option.some.injEq,Prod.mk.injEq] at h
   obtain⟨rfl,rfl⟩:=h
   simp only[AV.fq,hr]
   rw[if_pos hc.1]
  ·cases h
 |_=>simp[AV.jm] at h
def AV.gO (hp:List af):AV→List Prop×AV
 | .own r n=>(match hp[r]? with
  |some (.row _ _ els)=>([n=els.length],.sl els)
  |_=>([],.top))
 | .sl els=>([],.sl els)
 | .clip els=>([],.sl els)
 | .ae v=>([],match v with | .slice none 0 0=>.sl []|v=>.ae v)
 | .fn v=>([],.fn v)
 | .dL es=>([],.dL es)
 | .aH e o=>([],.aH e o)
 | .aS f caps=>([],match caps with | []=>.aS f []|_=>.top)
 |_=>([],.top)
theorem ku {hp:List af} {x:AV} (hc:dw (x.gO hp).1):x.dp hp=(x.gO hp).2:=by
 cases x with
 |own r n=>
  simp only[AV.gO,AV.dp,AV.fq] at hc ⊢
  cases hr:hp[r]? with
  |none=>rfl
  |some o=>
   cases o with
   |row e z l=>
    simp only[hr,dw] at hc ⊢
    rw[if_pos hc.1]
   |_=>rfl
 |_=>rfl
def bZ (f:AV→List Prop×AV):List AV→List Prop×List AV
 | []=>([],[])
 |x::l=>((f x).1++(bZ f l).1,(f x).2::(bZ f l).2)
theorem bI {f:AV→List Prop×AV} {g:AV→AV} (h:∀x,dw (f x).1→g x=(f x).2):∀l,dw (bZ f l).1→l.map g=(bZ f l).2
 | [],_=>rfl
 |x::l,hc=>by
  simp only[bZ,bq] at hc ⊢
  rw[List.map_cons,h x hc.1,bI h l hc.2]
def AV.ef (hp:List af):AV→List Prop×AV
 | .agg cs=>((bZ (AV.gO hp) cs).1,.agg (bZ (AV.gO hp) cs).2)
 |x=>x.gO hp
theorem fZ {hp:List af} {x:AV} (hc:dw (x.ef hp).1):x.dN hp=(x.ef hp).2:=by
 cases x with
 |agg cs=>simp only[AV.ef,AV.dN] at hc ⊢;rw[bI (fun x=>ku) _ hc]
 |_=>exact ku hc
def AV.bx (hp:List af):AV→List Prop×AV
 | .bc cs=>((bZ (AV.ef hp) cs).1,.bc (bZ (AV.ef hp) cs).2)
 | .aS f cs=>((bZ (AV.ef hp) cs).1,.aS f (bZ (AV.ef hp) cs).2)
 |x=>x.ef hp
theorem cE {hp:List af} {x:AV} (hc:dw (x.bx hp).1):x.bh hp=(x.bx hp).2:=by
 cases x with
 |bc cs=>simp only[AV.bx,AV.bh] at hc ⊢;rw[bI (fun x=>fZ) _ hc]
 |aS f cs=>simp only[AV.bx,AV.bh] at hc ⊢;rw[bI (fun x=>fZ) _ hc]
 |_=>exact fZ hc
def xy (op:BinOp) (k:IntKind) (a b:Int):Option AV:=
 match op with
 | .add=>some (.ae (.int k (k.wrap (a+b))))
 | .sub=>some (.ae (.int k (k.wrap (a-b))))
 | .mul=>some (.ae (.int k (k.wrap (a*b))))
 | .eql=>some (.ae (.bool (a==b)))
 | .neq=>some (.ae (.bool (a != b)))
 | .lss=>some (.ae (.bool (decide (a<b))))
 | .leq=>some (.ae (.bool (decide (a≤b))))
 | .gtr=>some (.ae (.bool (decide (a>b))))
 | .geq=>some (.ae (.bool (decide (a≥b))))
 |_=>none
theorem CR {op:BinOp} {k:IntKind} {a b:Int} {r:AV} (h:xy op k a b=some r):xh op k a b=some (True,r):=by
 cases op<;>simp only[xy,Option.some.injEq] at h<;>first|(subst h;rfl)|cases h
def xz (tab:Nat→Option TD) (T:Nat) (op:BinOp) (x y:AV):Option AV:=
 match x,y with
 | .ae (.int k a),.ae (.int k' b)=>if k=k' then xy op k a b else none
 | .ae (.bool a),.ae (.bool b)=>
  (match tab T with
   |some d=>(match d.kind,op with
    | .bool,.eql=>some (.ae (.bool (a==b)))
    | .bool,.neq=>some (.ae (.bool (!(a==b))))
    |_,_=>none)
   |none=>none)
 | .agg [.ae (.int .i64 a1),.ae (.int .i64 a2)],.agg [.ae (.int .i64 b1),.ae (.int .i64 b2)]=>
  (match tab T with
   |some d=>if d.flat then(match op with
    | .eql=>some (.ae (.bool (a1==b1&&a2==b2)))
    | .neq=>some (.ae (.bool (!(a1==b1&&a2==b2))))
    |_=>none) else none
   |none=>none)
 |_,_=>none
theorem CS {tab:Nat→Option TD} {T:Nat} {op:BinOp} {x y r:AV} (h:xz tab T op x y=some r):iz tab T op x y=some (True,r):=by
 unfold xz at h
 split at h
 ·split at h
  ·rename_i hk
   subst hk
   simp only[iz,if_true]
   exact CR h
  ·cases h
 ·split at h
  ·rename_i d hd
   simp only[iz,hd]
   split at h
   ·rename_i hk;simp only[hk];obtain rfl:=Option.some.inj h;rfl
   ·rename_i hk;simp only[hk];obtain rfl:=Option.some.inj h;rfl
   ·cases h
  ·cases h
 ·split at h
  ·rename_i d hd
   simp only[iz,hd]
   split at h
   ·rename_i hf
    simp only[hf,if_true]
    split at h
    ·obtain rfl:=Option.some.inj h;rfl
    ·obtain rfl:=Option.some.inj h;rfl
    ·cases h
   ·cases h
  ·cases h
 ·cases h
def pw {κ:Type} [DecidableEq κ] (k:TK) (es:List (κ×Value)) (z:Value) (a:κ) (ok:Bool):Option (List Prop×AV):=
 match k with
 | .bool=>some ([(aG es a).getD z=.bool (pt ((aG es a).getD z))],if ok=true then .bc [.ae (.bool (pt ((aG es a).getD z))),.ae (.bool (aG es a).isSome)] else .ae (.bool (pt ((aG es a).getD z))))
 | .int k=>some ([(aG es a).getD z=.int k (CQ ((aG es a).getD z))],if ok=true then .bc [.ae (.int k (CQ ((aG es a).getD z))),.ae (.bool (aG es a).isSome)] else .ae (.int k (CQ ((aG es a).getD z))))
 | .bP []=>some ([],if ok=true then .bc [.ae ((aG es a).getD z),.ae (.bool (aG es a).isSome)] else .ae ((aG es a).getD z))
 |_=>none
theorem ru {κ:Type} [DecidableEq κ] {k:TK} {es:List (κ×Value)} {z:Value} {a:κ} {ok:Bool} {cs:List Prop} {r:AV} (h:pw k es z a ok=some (cs,r)) (hc:dw cs):gn es z a ok=r:=by
 unfold pw at h
 split at h
 ·simp only[Option.some.injEq,Prod.mk.injEq] at h
  obtain⟨rfl,rfl⟩:=h
  unfold gn
  rw[←hc.1]
 ·simp only[Option.some.injEq,Prod.mk.injEq] at h
  obtain⟨rfl,rfl⟩:=h
  unfold gn
  rw[←hc.1]
 ·simp only[Option.some.injEq,Prod.mk.injEq] at h
  exact h.2
 ·cases h
def zO (size:Nat):List AV→Bool
 | []=>true
 |x::xs=>decide (x.cells.length=size)&&x.jV&&zO size xs
theorem tN {size:Nat}:∀{l:List AV},zO size l=true→oy size l
 | [],_=>True.intro
 |x::xs,h=>by
  simp only[zO,Bool.and_eq_true,decide_eq_true_eq] at h
  exact⟨h.1,tN h.2⟩
def pv (tab:Nat→Option TD) (hp:List af) (ρ:Operand→AV):Op→Option (List Prop×AV)
 | .move x=>some ([],ρ x)
 | .assign x=>some ([],ρ x)
 | .nilCheck x=>(match ρ x with
  | .ptr r o=>some ([],.ptr r o)
  | .aH e o=>some ([],.aH e o)
  |_=>none)
 | .pick c x y=>(match ρ c with
  | .ae (.bool t)=>(match t with|true=>some ([],ρ x)|false=>some ([],ρ y))
  |_=>none)
 | .fieldAddr T x f=>(match (fieldsOf tab T)[f]? with
  |some p=>if p.2.1=0 then none else(match ρ x with
   | .ptr r o=>some ([],.ptr r (o+p.1))
   | .aH e o=>some ([],.aH e (o+p.1))
   | .ea r m i z=>if p.1=0 then some ([],.ea r m i z) else none
   |_=>none)
  |none=>none)
 | .load T x=>(match tab T with
  |some d=>(match ρ x with
   | .ptr r o=>(match hp[r]? with
    |some (.box cs)=>(dV d.kind.agg d.size cs o).map fun v=>([],v)
    |_=>none)
   | .aH e o=>(tl d.kind.agg d.size e o).map fun v=>([],v)
   |_=>none)
  |none=>none)
 | .binOp op T x y _=>(match LP tab T op (ρ x) y with
  |some v=>some ([],v)
  |none=>(match xz tab T op (ρ x) (ρ y) with
   |some v=>some ([],v)
   |none=>FK tab T op (ρ x) (ρ y)))
 | .convert S D x=>(xk tab S D (ρ x)).map fun v=>([],v)
 | .unOp op _ x=>(match op,ρ x with
  | .not,.ae (.bool b)=>some ([],.ae (.bool (!b)))
  | .neg,.ae (.int k n)=>some ([],.ae (.int k (k.wrap (0-n))))
  |_,_=>none)
 | .build T parts=>(match tab T with
  |some d=>(match d.kind with
   | .bP fs=>(cB fs (d.zero.cells.toList.map .ae) (parts.toList.map fun p=>(p.1,ρ p.2))).map fun cs=>([],.agg cs)
   | .arr n=>(cB (tm n) (d.zero.cells.toList.map .ae) (parts.toList.map fun p=>(p.1,ρ p.2))).map fun cs=>([],.agg cs)
   |_=>none)
  |none=>none)
 | .buildSlice T n parts=>(match tab T with
  |some d=>(match d.kind with
   | .iu e=>(match tab e with
    |some d'=>if(n=parts.toList.length∧pd 0 parts.toList=true∧n≤16777216∧n*d'.size≤16777216)∧zO d'.size (bZ (AV.bx hp) (parts.toList.map fun p=>ρ p.2)).2=true then
      some ((bZ (AV.bx hp) (parts.toList.map fun p=>ρ p.2)).1,.clip (bZ (AV.bx hp) (parts.toList.map fun p=>ρ p.2)).2) else none
    |none=>none)
   |_=>none)
  |none=>none)
 | .slice T x lo hi mx=>(match tab T with
  |some d=>(match d.kind with
   | .iu e=>(match (ρ x).jm hp,tab e with
    |some (cs,els),some d'=>(match bw ρ 0 lo,bw ρ els.length hi,mx.map fun m=>bw ρ 0 (some m) with
     |some l,some h,none=>some (cs++[0≤l∧l≤h∧h≤els.length∧(∀y:AV,y∈els→y.cells.length=d'.size)],.sl ((els.take h.toNat).drop l.toNat))
     |some l,some h,some (some m)=>if hi.isSome=true then some (cs++[0≤l∧l≤h∧h=m∧h≤els.length∧(∀y:AV,y∈els→y.cells.length=d'.size)],.clip ((els.take h.toNat).drop l.toNat)) else none
     |_,_,_=>none)
    |_,_=>none)
   | .str=>(match ρ x with
    | .ae (.string b)=>(match mx,bw ρ 0 lo,bw ρ b.size hi with
     |none,some l,some h=>some ([0≤l∧l≤h∧h≤b.size],.ae (.string (b.extract l.toNat h.toNat)))
     |_,_,_=>none)
    |_=>none)
   |_=>none)
  |none=>none)
 | .field T x f=>(match (fieldsOf tab T)[f]?,ρ x with
  |some p,.agg cs=>if p.2.2=true∨p.2.1=1 then(dV p.2.2 p.2.1 cs p.1).map fun v=>([],v) else none
  |_,_=>none)
 | .lookup T m k ok=>(match tab T,(ρ m).vU hp,ρ k with
  |some d,some (.i es),.ae (.int .i64 a)=>(match d.kind with
   | .l5 kt et=>(match tab kt,tab et with
    |some dk,some de=>(match dk.kind with
     | .int _=>pw de.kind es de.zero a ok
     |_=>none)
    |_,_=>none)
   |_=>none)
  |some d,some (.s es),.ae (.string a)=>(match d.kind with
   | .l5 kt et=>(match tab kt,tab et with
    |some dk,some de=>(match dk.kind with
     | .str=>pw de.kind es de.zero a ok
     |_=>none)
    |_,_=>none)
   |_=>none)
  |_,_,_=>none)
 | .index T x i=>(match tab T,ρ x,ρ i with
  |some d,.ae (.string b),.ae (.int _ n)=>(match d.kind with
   | .str=>some ([0≤n∧n<b.size],.ae (.int .u8 (zl b n)))
   |_=>none)
  |_,_,_=>none)
 | .extract x i=>(match ρ x with
  | .bc vs=>(vs[i]?).map fun v=>([],v)
  |_=>none)
 | .makeFunc (.func f) first caps=>if first.size=0 then some ([],.aS f (caps.toList.map ρ)) else if caps.size=0 then some ([],.cH f (first.toList.map ρ)) else none
 | .call c=>(match c.callee,c.args.toList with
  | .builtin .len,[x]=>(match (c.argTypes[0]?).bind tab with
   |some d=>(match d.kind with
    | .iu _=>(match (ρ x).jm hp with
     |some p=>some (p.1,.ae (.int .i64 p.2.length))
     |none=>(match qD hp (ρ x) with
      |some (_,m,_,_,k)=>some ([m=k],.ae (.int .i64 (m:Nat)))
      |none=>none))
    | .str=>(match ρ x with
     | .ae (.string b)=>some ([],.ae (.int .i64 b.size))
     |_=>none)
    |_=>none)
   |none=>none)
  | .builtin .min,[x,y]=>(match ρ x,ρ y with
   | .ae (.int k m),.ae (.int _ n)=>some ([],.ae (.int k (if n<m then n else m)))
   |_,_=>none)
  | .builtin .max,[x,y]=>(match ρ x,ρ y with
   | .ae (.int k m),.ae (.int _ n)=>some ([],.ae (.int k (if n>m then n else m)))
   |_,_=>none)
  |_,_=>none)
 |_=>none
end Go.Proofs.YtdcikhleahfknaaGreatDoor
