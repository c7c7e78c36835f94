/- Texts of ours laid together for a claim: VcA. -/
import Derived.Test.YtjhanogfpkbamaaGreatDoorQ12
namespace Go.Proofs.YtjhanogfpkbamaaGreatDoor
open Go
set_option linter.unusedSimpArgs false
set_option linter.unusedVariables false
def gU:List Prop→Prop→Prop
 | [],p=>p
 |c::l,p=>c∧gU l p
def eY:List Prop→Prop
 | []=>True
 |c::l=>c∧eY l
theorem bG {l:List Prop} {p:Prop}:gU l p↔eY l∧p:=by
 induction l with
 |nil=>simp[gU,eY]
 |cons c l ih=>simp only[gU,eY,ih,and_assoc]
theorem bT {l m:List Prop}:eY (l++m)↔eY l∧eY m:=by
 induction l with
 |nil=>simp[eY]
 |cons c l ih=>simp only[ai1,eY,ih,and_assoc]
def ak (b:Bool) (x y:Prop):Prop:=
 match b with
 |true=>x
 |false=>y
theorem ak.intro {b:Bool} {x y:Prop} (h1:b=true→x) (h2:b=false→y):ak b x y:=by
 cases b with
 |true=>exact h1 rfl
 |false=>exact h2 rfl
theorem ak.pos {b:Bool} {x y:Prop} (h:b=true) (hx:x):ak b x y:=by subst h;exact hx
theorem ak.neg {b:Bool} {x y:Prop} (h:b=false) (hy:y):ak b x y:=by subst h;exact hy
theorem ak.elim {b:Bool} {x y:Prop} (h:ak b x y):(b=true→x)∧(b=false→y):=by
 cases b with
 |true=>exact⟨fun _=>h,fun h=>(by cases h)⟩
 |false=>exact⟨fun h=>(by cases h),fun _=>h⟩
def yH:Value→Bool
 | .bool b=>b
 |_=>false
def BR:Value→Int
 | .int _ n=>n
 |_=>0
def AV.l6 (hp:List af):AV→Option (List Prop×List AV)
 | .sl els=>some ([],els)
 | .clip els=>some ([],els)
 | .ah v=>(match v with | .slice none 0 0=>some ([],[])|_=>none)
 | .own r n=>(match hp[r]? with
  |some (.row _ _ els)=>some ([n=els.length],els)
  |_=>none)
 |_=>none
theorem gV {hp:List af} {x:AV} {cs:List Prop} {els:List AV} (h:x.l6 hp=some (cs,els)) (hc:eY cs):x.jq hp=some els:=by
 cases x with
 |sl l=>simp only[AV.l6,Option.some.injEq,Prod.mk.injEq] at h;simp[AV.jq,h.2]
 |clip l=>simp only[AV.l6,Option.some.injEq,Prod.mk.injEq] at h;simp[AV.jq,h.2]
 |ah v=>
  simp only[AV.l6] at h
  split at h
  ·simp only[Option.some.injEq,Prod.mk.injEq] at h;simp[AV.jq,h.2]
  ·cases h
 |own r n=>
  simp only[AV.l6] at h
  split at h
  ·rename_i e z l hr
   simp only[Option.some.injEq,Prod.mk.injEq] at h
   obtain⟨rfl,rfl⟩:=h
   simp only[AV.jq,hr]
   rw[if_pos hc.1]
  ·cases h
 |_=>simp[AV.l6] at h
def AV.ko (hp:List af):AV→List Prop×AV
 | .own r n=>(match hp[r]? with
  |some (.row _ _ els)=>([n=els.length],.sl els)
  |_=>([],.top))
 | .sl els=>([],.sl els)
 | .clip els=>([],.sl els)
 | .ah v=>([],match v with | .slice none 0 0=>.sl []|v=>.ah v)
 | .fn v=>([],.fn v)
 | .fH es=>([],.fH es)
 | .cL e o=>([],.cL e o)
 | .ck f caps=>([],match caps with | []=>.ck f []|_=>.top)
 |_=>([],.top)
theorem ng {hp:List af} {x:AV} (hc:eY (x.ko hp).1):x.fq hp=(x.ko hp).2:=by
 cases x with
 |own r n=>
  simp only[AV.ko,AV.fq,AV.jq] at hc ⊢
  cases hr:hp[r]? with
  |none=>rfl
  |some o=>
   cases o with
   |row e z l=>
    simp only[hr,eY] at hc ⊢
    rw[if_pos hc.1]
   |_=>rfl
 |_=>rfl
def dw (f:AV→List Prop×AV):List AV→List Prop×List AV
 | []=>([],[])
 |x::l=>((f x).1++(dw f l).1,(f x).2::(dw f l).2)
theorem cI {f:AV→List Prop×AV} {g:AV→AV} (h:∀x,eY (f x).1→g x=(f x).2):∀l,eY (dw f l).1→l.map g=(dw f l).2
 | [],_=>rfl
 |x::l,hc=>by
  simp only[dw,bT] at hc ⊢
  rw[ais,h x hc.1,cI h l hc.2]
def AV.gj (hp:List af):AV→List Prop×AV
 | .agg cs=>((dw (AV.ko hp) cs).1,.agg (dw (AV.ko hp) cs).2)
 |x=>x.ko hp
theorem jA {hp:List af} {x:AV} (hc:eY (x.gj hp).1):x.gd hp=(x.gj hp).2:=by
 cases x with
 |agg cs=>simp only[AV.gj,AV.gd] at hc ⊢;rw[cI (fun x=>ng) _ hc]
 |_=>exact ng hc
def AV.cB (hp:List af):AV→List Prop×AV
 | .aX cs=>((dw (AV.gj hp) cs).1,.aX (dw (AV.gj hp) cs).2)
 | .ck f cs=>((dw (AV.gj hp) cs).1,.ck f (dw (AV.gj hp) cs).2)
 |x=>x.gj hp
theorem dW {hp:List af} {x:AV} (hc:eY (x.cB hp).1):x.cm hp=(x.cB hp).2:=by
 cases x with
 |aX cs=>simp only[AV.cB,AV.cm] at hc ⊢;rw[cI (fun x=>jA) _ hc]
 |ck f cs=>simp only[AV.cB,AV.cm] at hc ⊢;rw[cI (fun x=>jA) _ hc]
 |_=>exact jA hc
def BS (op:BinOp) (k:IntKind) (a b:Int):Option AV:=
 match op with
 | .add=>some (.ah (.int k (k.wrap (a+b))))
 | .sub=>some (.ah (.int k (k.wrap (a-b))))
 | .mul=>some (.ah (.int k (k.wrap (a*b))))
 | .eql=>some (.ah (.bool (a==b)))
 | .neq=>some (.ah (.bool (a != b)))
 | .lss=>some (.ah (.bool (decide (a<b))))
 | .leq=>some (.ah (.bool (decide (a≤b))))
 | .gtr=>some (.ah (.bool (decide (a>b))))
 | .geq=>some (.ah (.bool (decide (a≥b))))
 |_=>none
theorem HA {op:BinOp} {k:IntKind} {a b:Int} {r:AV} (h:BS op k a b=some r):BD op k a b=some (True,r):=by
 cases op<;>simp only[BS,Option.some.injEq] at h<;>first|(subst h;rfl)|cases h
def BT (az:Nat→Option TD) (T:Nat) (op:BinOp) (x y:AV):Option AV:=
 match x,y with
 | .ah (.int k a),.ah (.int k' b)=>if k=k' then BS op k a b else none
 | .ah (.bool a),.ah (.bool b)=>
  (match az T with
   |some d=>(match d.kind,op with
    | .bool,.eql=>some (.ah (.bool (a==b)))
    | .bool,.neq=>some (.ah (.bool (!(a==b))))
    |_,_=>none)
   |none=>none)
 | .agg [.ah (.int .i64 a1),.ah (.int .i64 a2)],.agg [.ah (.int .i64 b1),.ah (.int .i64 b2)]=>
  (match az T with
   |some d=>if d.flat then(match op with
    | .eql=>some (.ah (.bool (a1==b1&&a2==b2)))
    | .neq=>some (.ah (.bool (!(a1==b1&&a2==b2))))
    |_=>none) else none
   |none=>none)
 |_,_=>none
theorem HB {az:Nat→Option TD} {T:Nat} {op:BinOp} {x y r:AV} (h:BT az T op x y=some r):kY az T op x y=some (True,r):=by
 unfold BT at h
 split at h
 ·split at h
  ·rename_i hk
   subst hk
   simp only[kY,if_true]
   exact HA h
  ·cases h
 ·split at h
  ·rename_i d hd
   simp only[kY,hd]
   split at h
   ·rename_i hk;simp only[hk];obtain rfl:=Option.some.inj h;rfl
   ·rename_i hk;simp only[hk];obtain rfl:=Option.some.inj h;rfl
   ·cases h
  ·cases h
 ·split at h
  ·rename_i d hd
   simp only[kY,hd]
   split at h
   ·rename_i hf
    simp only[hf,if_true]
    split at h
    ·obtain rfl:=Option.some.inj h;rfl
    ·obtain rfl:=Option.some.inj h;rfl
    ·cases h
   ·cases h
  ·cases h
 ·cases h
def tv {κ:Type} [DecidableEq κ] (k:TK) (es:List (κ×Value)) (z:Value) (a:κ) (ok:Bool):Option (List Prop×AV):=
 match k with
 | .bool=>some ([(bE es a).getD z=.bool (yH ((bE es a).getD z))],if ok=true then .aX [.ah (.bool (yH ((bE es a).getD z))),.ah (.bool (bE es a).isSome)] else .ah (.bool (yH ((bE es a).getD z))))
 | .int k=>some ([(bE es a).getD z=.int k (BR ((bE es a).getD z))],if ok=true then .aX [.ah (.int k (BR ((bE es a).getD z))),.ah (.bool (bE es a).isSome)] else .ah (.int k (BR ((bE es a).getD z))))
 | .cY []=>some ([],if ok=true then .aX [.ah ((bE es a).getD z),.ah (.bool (bE es a).isSome)] else .ah ((bE es a).getD z))
 |_=>none
theorem vJ {κ:Type} [DecidableEq κ] {k:TK} {es:List (κ×Value)} {z:Value} {a:κ} {ok:Bool} {cs:List Prop} {r:AV} (h:tv k es z a ok=some (cs,r)) (hc:eY cs):jM es z a ok=r:=by
 unfold tv at h
 split at h
 ·simp only[Option.some.injEq,Prod.mk.injEq] at h
  obtain⟨rfl,rfl⟩:=h
  unfold jM
  rw[←hc.1]
 ·simp only[Option.some.injEq,Prod.mk.injEq] at h
  obtain⟨rfl,rfl⟩:=h
  unfold jM
  rw[←hc.1]
 ·simp only[Option.some.injEq,Prod.mk.injEq] at h
  exact h.2
 ·cases h
def I4 (size:Nat):List AV→Bool
 | []=>true
 |x::xs=>decide (x.cells.length=size)&&x.mN&&I4 size xs
theorem Ek {size:Nat}:∀{l:List AV},I4 size l=true→yd size l
 | [],_=>True.intro
 |x::xs,h=>by
  simp only[I4,ahZ,decide_eq_true_eq] at h
  exact⟨h.1,Ek h.2⟩
def pv (az:Nat→Option TD) (hp:List af) (ρ:Operand→AV):Op→Option (List Prop×AV)
 | .move x=>some ([],ρ x)
 | .assign x=>some ([],ρ x)
 | .nilCheck x=>(match ρ x with
  | .ptr r o=>some ([],.ptr r o)
  | .cL e o=>some ([],.cL e o)
  |_=>none)
 | .pick c x y=>(match ρ c with
  | .ah (.bool t)=>(match t with|true=>some ([],ρ x)|false=>some ([],ρ y))
  |_=>none)
 | .fieldAddr T x f=>(match (fieldsOf az T)[f]? with
  |some p=>if p.2.1=0 then none else(match ρ x with
   | .ptr r o=>some ([],.ptr r (o+p.1))
   | .cL e o=>some ([],.cL e (o+p.1))
   | .fY r m i z=>if p.1=0 then some ([],.fY r m i z) else none
   |_=>none)
  |none=>none)
 | .load T x=>(match az T with
  |some d=>(match ρ x with
   | .ptr r o=>(match hp[r]? with
    |some (.box cs)=>(fS d.kind.agg d.size cs o).map fun v=>([],v)
    |_=>none)
   | .cL e o=>(ya d.kind.agg d.size e o).map fun v=>([],v)
   |_=>none)
  |none=>none)
 | .binOp op T x y _=>(match QX az T op (ρ x) y with
  |some v=>some ([],v)
  |none=>(match BT az T op (ρ x) (ρ y) with
   |some v=>some ([],v)
   |none=>KS az T op (ρ x) (ρ y)))
 | .convert S D x=>(BG az S D (ρ x)).map fun v=>([],v)
 | .unOp op _ x=>(match op,ρ x with
  | .not,.ah (.bool b)=>some ([],.ah (.bool (!b)))
  | .neg,.ah (.int k n)=>some ([],.ah (.int k (k.wrap (0-n))))
  |_,_=>none)
 | .build T parts=>(match az T with
  |some d=>(match d.kind with
   | .cY fs=>(dH fs (d.zero.cells.toList.map .ah) (parts.toList.map fun p=>(p.1,ρ p.2))).map fun cs=>([],.agg cs)
   | .arr n=>(dH (yc n) (d.zero.cells.toList.map .ah) (parts.toList.map fun p=>(p.1,ρ p.2))).map fun cs=>([],.agg cs)
   |_=>none)
  |none=>none)
 | .buildSlice T n parts=>(match az T with
  |some d=>(match d.kind with
   | .lO e=>(match az e with
    |some d'=>if(n=parts.toList.length∧Ay 0 parts.toList=true∧n≤16777216∧n*d'.size≤16777216)∧I4 d'.size (dw (AV.cB hp) (parts.toList.map fun p=>ρ p.2)).2=true then
      some ((dw (AV.cB hp) (parts.toList.map fun p=>ρ p.2)).1,.clip (dw (AV.cB hp) (parts.toList.map fun p=>ρ p.2)).2) else none
    |none=>none)
   |_=>none)
  |none=>none)
 | .slice T x lo hi mx=>(match az T with
  |some d=>(match d.kind with
   | .lO e=>(match (ρ x).l6 hp,az e with
    |some (cs,els),some d'=>(match cg ρ 0 lo,cg ρ els.length hi,mx.map fun m=>cg ρ 0 (some m) with
     |some l,some h,none=>some (cs++[0≤l∧l≤h∧h≤els.length∧(∀y:AV,y∈els→y.cells.length=d'.size)],.sl ((els.take h.toNat).drop l.toNat))
     |some l,some h,some (some m)=>if hi.isSome=true then some (cs++[0≤l∧l≤h∧h=m∧h≤els.length∧(∀y:AV,y∈els→y.cells.length=d'.size)],.clip ((els.take h.toNat).drop l.toNat)) else none
     |_,_,_=>none)
    |_,_=>none)
   | .str=>(match ρ x with
    | .ah (.string b)=>(match mx,cg ρ 0 lo,cg ρ b.size hi with
     |none,some l,some h=>some ([0≤l∧l≤h∧h≤b.size],.ah (.string (b.extract l.toNat h.toNat)))
     |_,_,_=>none)
    |_=>none)
   |_=>none)
  |none=>none)
 | .field T x f=>(match (fieldsOf az T)[f]?,ρ x with
  |some p,.agg cs=>if p.2.2=true∨p.2.1=1 then(fS p.2.2 p.2.1 cs p.1).map fun v=>([],v) else none
  |_,_=>none)
 | .lookup T m k ok=>(match az T,(ρ m).Ax hp,ρ k with
  |some d,some (.i es),.ah (.int .i64 a)=>(match d.kind with
   | .pQ kt et=>(match az kt,az et with
    |some dk,some de=>(match dk.kind with
     | .int _=>tv de.kind es de.zero a ok
     |_=>none)
    |_,_=>none)
   |_=>none)
  |some d,some (.s es),.ah (.string a)=>(match d.kind with
   | .pQ kt et=>(match az kt,az et with
    |some dk,some de=>(match dk.kind with
     | .str=>tv de.kind es de.zero a ok
     |_=>none)
    |_,_=>none)
   |_=>none)
  |_,_,_=>none)
 | .index T x i=>(match az T,ρ x,ρ i with
  |some d,.ah (.string b),.ah (.int _ n)=>(match d.kind with
   | .str=>some ([0≤n∧n<b.size],.ah (.int .u8 (cq b n)))
   |_=>none)
  |_,_,_=>none)
 | .extract x i=>(match ρ x with
  | .aX vs=>(vs[i]?).map fun v=>([],v)
  |_=>none)
 | .makeFunc (.func f) first caps=>if first.size=0 then some ([],.ck f (caps.toList.map ρ)) else if caps.size=0 then some ([],.cX f (first.toList.map ρ)) else none
 | .call c=>(match c.callee,c.args.toList with
  | .builtin .len,[x]=>(match (c.argTypes[0]?).bind az with
   |some d=>(match d.kind with
    | .lO _=>(match (ρ x).l6 hp with
     |some p=>some (p.1,.ah (.int .i64 p.2.length))
     |none=>(match uQ hp (ρ x) with
      |some (_,m,_,_,k)=>some ([m=k],.ah (.int .i64 (m:Nat)))
      |none=>none))
    | .str=>(match ρ x with
     | .ah (.string b)=>some ([],.ah (.int .i64 b.size))
     |_=>none)
    |_=>none)
   |none=>none)
  | .builtin .min,[x,y]=>(match ρ x,ρ y with
   | .ah (.int k m),.ah (.int _ n)=>some ([],.ah (.int k (if n<m then n else m)))
   |_,_=>none)
  | .builtin .max,[x,y]=>(match ρ x,ρ y with
   | .ah (.int k m),.ah (.int _ n)=>some ([],.ah (.int k (if n>m then n else m)))
   |_,_=>none)
  |_,_=>none)
 |_=>none
end Go.Proofs.YtjhanogfpkbamaaGreatDoor
