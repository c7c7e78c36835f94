/- Texts of ours laid together for a claim: VcA. -/
import Derived.Test.YtjhanogfpkbamaaGreatDoorQ12
namespace Go.Proofs.YtjhanogfpkbamaaGreatDoor
open Go
set_option linter.unusedSimpArgs false
set_option linter.unusedVariables false
def conj:List Prop→Prop→Prop
 | [],p=>p
 |c::l,p=>c∧conj l p
def allP:List Prop→Prop
 | []=>True
 |c::l=>c∧allP l
theorem conj_iff {l:List Prop} {p:Prop}:conj l p↔allP l∧p:=by
 induction l with
 |nil=>simp[conj,allP]
 |cons c l ih=>simp only[conj,allP,ih,and_assoc]
theorem allP_append {l m:List Prop}:allP (l++m)↔allP l∧allP m:=by
 induction l with
 |nil=>simp[allP]
 |cons c l ih=>simp only[List.cons_append,allP,ih,and_assoc]
def ITE (b:Bool) (x y:Prop):Prop:=
 match b with
 |true=>x
 |false=>y
theorem ITE.intro {b:Bool} {x y:Prop} (h1:b=true→x) (h2:b=false→y):ITE b x y:=by
 cases b with
 |true=>exact h1 rfl
 |false=>exact h2 rfl
theorem ITE.pos {b:Bool} {x y:Prop} (h:b=true) (hx:x):ITE b x y:=by subst h;exact hx
theorem ITE.neg {b:Bool} {x y:Prop} (h:b=false) (hy:y):ITE b x y:=by subst h;exact hy
theorem ITE.elim {b:Bool} {x y:Prop} (h:ITE b x y):(b=true→x)∧(b=false→y):=by
 cases b with
 |true=>exact⟨fun _=>h,fun h=>(by cases h)⟩
 |false=>exact⟨fun h=>(by cases h),fun _=>h⟩
def vBool:Value→Bool
 | .bool b=>b
 |_=>false
def vInt:Value→Int
 | .int _ n=>n
 |_=>0
def AV.asSl' (hp:List AObj):AV→Option (List Prop×List AV)
 | .sl els=>some ([],els)
 | .clip els=>some ([],els)
 | .prim v=>(match v with | .slice none 0 0=>some ([],[])|_=>none)
 | .own r n=>(match hp[r]? with
  |some (.row _ _ els)=>some ([n=els.length],els)
  |_=>none)
 |_=>none
theorem asSl'_ok {hp:List AObj} {x:AV} {cs:List Prop} {els:List AV} (h:x.asSl' hp=some (cs,els)) (hc:allP cs):x.asSl hp=some els:=by
 cases x with
 |sl l=>simp only[AV.asSl',Option.some.injEq,Prod.mk.injEq] at h;simp[AV.asSl,h.2]
 |clip l=>simp only[AV.asSl',Option.some.injEq,Prod.mk.injEq] at h;simp[AV.asSl,h.2]
 |prim v=>
  simp only[AV.asSl'] at h
  split at h
  ·simp only[Option.some.injEq,Prod.mk.injEq] at h;simp[AV.asSl,h.2]
  ·cases h
 |own r n=>
  simp only[AV.asSl'] at h
  split at h
  ·rename_i e z l hr
   simp only[Option.some.injEq,Prod.mk.injEq] at h
   obtain⟨rfl,rfl⟩:=h
   simp only[AV.asSl,hr]
   rw[if_pos hc.1]
  ·cases h
 |_=>simp[AV.asSl'] at h
def AV.dataC' (hp:List AObj):AV→List Prop×AV
 | .own r n=>(match hp[r]? with
  |some (.row _ _ els)=>([n=els.length],.sl els)
  |_=>([],.top))
 | .sl els=>([],.sl els)
 | .clip els=>([],.sl els)
 | .prim v=>([],match v with | .slice none 0 0=>.sl []|v=>.prim v)
 | .fn v=>([],.fn v)
 | .mapv es=>([],.mapv es)
 | .eptr e o=>([],.eptr e o)
 | .clo f caps=>([],match caps with | []=>.clo f []|_=>.top)
 |_=>([],.top)
theorem dataC'_ok {hp:List AObj} {x:AV} (hc:allP (x.dataC' hp).1):x.dataC hp=(x.dataC' hp).2:=by
 cases x with
 |own r n=>
  simp only[AV.dataC',AV.dataC,AV.asSl] at hc ⊢
  cases hr:hp[r]? with
  |none=>rfl
  |some o=>
   cases o with
   |row e z l=>
    simp only[hr,allP] at hc ⊢
    rw[if_pos hc.1]
   |_=>rfl
 |_=>rfl
def mapD (f:AV→List Prop×AV):List AV→List Prop×List AV
 | []=>([],[])
 |x::l=>((f x).1++(mapD f l).1,(f x).2::(mapD f l).2)
theorem mapD_ok {f:AV→List Prop×AV} {g:AV→AV} (h:∀x,allP (f x).1→g x=(f x).2):∀l,allP (mapD f l).1→l.map g=(mapD f l).2
 | [],_=>rfl
 |x::l,hc=>by
  simp only[mapD,allP_append] at hc ⊢
  rw[List.map_cons,h x hc.1,mapD_ok h l hc.2]
def AV.dataV' (hp:List AObj):AV→List Prop×AV
 | .agg cs=>((mapD (AV.dataC' hp) cs).1,.agg (mapD (AV.dataC' hp) cs).2)
 |x=>x.dataC' hp
theorem dataV'_ok {hp:List AObj} {x:AV} (hc:allP (x.dataV' hp).1):x.dataV hp=(x.dataV' hp).2:=by
 cases x with
 |agg cs=>simp only[AV.dataV',AV.dataV] at hc ⊢;rw[mapD_ok (fun x=>dataC'_ok) _ hc]
 |_=>exact dataC'_ok hc
def AV.toData' (hp:List AObj):AV→List Prop×AV
 | .tup cs=>((mapD (AV.dataV' hp) cs).1,.tup (mapD (AV.dataV' hp) cs).2)
 | .clo f cs=>((mapD (AV.dataV' hp) cs).1,.clo f (mapD (AV.dataV' hp) cs).2)
 |x=>x.dataV' hp
theorem toData'_ok {hp:List AObj} {x:AV} (hc:allP (x.toData' hp).1):x.toData hp=(x.toData' hp).2:=by
 cases x with
 |tup cs=>simp only[AV.toData',AV.toData] at hc ⊢;rw[mapD_ok (fun x=>dataV'_ok) _ hc]
 |clo f cs=>simp only[AV.toData',AV.toData] at hc ⊢;rw[mapD_ok (fun x=>dataV'_ok) _ hc]
 |_=>exact dataV'_ok hc
def bopInt' (op:BinOp) (k:IntKind) (a b:Int):Option AV:=
 match op with
 | .add=>some (.prim (.int k (k.wrap (a+b))))
 | .sub=>some (.prim (.int k (k.wrap (a-b))))
 | .mul=>some (.prim (.int k (k.wrap (a*b))))
 | .eql=>some (.prim (.bool (a==b)))
 | .neq=>some (.prim (.bool (a != b)))
 | .lss=>some (.prim (.bool (decide (a<b))))
 | .leq=>some (.prim (.bool (decide (a≤b))))
 | .gtr=>some (.prim (.bool (decide (a>b))))
 | .geq=>some (.prim (.bool (decide (a≥b))))
 |_=>none
theorem bopInt'_ok {op:BinOp} {k:IntKind} {a b:Int} {r:AV} (h:bopInt' op k a b=some r):bopInt op k a b=some (True,r):=by
 cases op<;>simp only[bopInt',Option.some.injEq] at h<;>first|(subst h;rfl)|cases h
def bopVal' (tab:Nat→Option TD) (T:Nat) (op:BinOp) (x y:AV):Option AV:=
 match x,y with
 | .prim (.int k a),.prim (.int k' b)=>if k=k' then bopInt' op k a b else none
 | .prim (.bool a),.prim (.bool b)=>
  (match tab T with
   |some d=>(match d.kind,op with
    | .bool,.eql=>some (.prim (.bool (a==b)))
    | .bool,.neq=>some (.prim (.bool (!(a==b))))
    |_,_=>none)
   |none=>none)
 | .agg [.prim (.int .i64 a1),.prim (.int .i64 a2)],.agg [.prim (.int .i64 b1),.prim (.int .i64 b2)]=>
  (match tab T with
   |some d=>if d.flat then(match op with
    | .eql=>some (.prim (.bool (a1==b1&&a2==b2)))
    | .neq=>some (.prim (.bool (!(a1==b1&&a2==b2))))
    |_=>none) else none
   |none=>none)
 |_,_=>none
theorem bopVal'_ok {tab:Nat→Option TD} {T:Nat} {op:BinOp} {x y r:AV} (h:bopVal' tab T op x y=some r):bopVal tab T op x y=some (True,r):=by
 unfold bopVal' at h
 split at h
 ·split at h
  ·rename_i hk
   subst hk
   simp only[bopVal,if_true]
   exact bopInt'_ok h
  ·cases h
 ·split at h
  ·rename_i d hd
   simp only[bopVal,hd]
   split at h
   ·rename_i hk;simp only[hk];obtain rfl:=Option.some.inj h;rfl
   ·rename_i hk;simp only[hk];obtain rfl:=Option.some.inj h;rfl
   ·cases h
  ·cases h
 ·split at h
  ·rename_i d hd
   simp only[bopVal,hd]
   split at h
   ·rename_i hf
    simp only[hf,if_true]
    split at h
    ·obtain rfl:=Option.some.inj h;rfl
    ·obtain rfl:=Option.some.inj h;rfl
    ·cases h
   ·cases h
  ·cases h
 ·cases h
def lookVal' {κ:Type} [DecidableEq κ] (k:TK) (es:List (κ×Value)) (z:Value) (a:κ) (ok:Bool):Option (List Prop×AV):=
 match k with
 | .bool=>some ([(mapGet es a).getD z=.bool (vBool ((mapGet es a).getD z))],if ok=true then .tup [.prim (.bool (vBool ((mapGet es a).getD z))),.prim (.bool (mapGet es a).isSome)] else .prim (.bool (vBool ((mapGet es a).getD z))))
 | .int k=>some ([(mapGet es a).getD z=.int k (vInt ((mapGet es a).getD z))],if ok=true then .tup [.prim (.int k (vInt ((mapGet es a).getD z))),.prim (.bool (mapGet es a).isSome)] else .prim (.int k (vInt ((mapGet es a).getD z))))
 | .strct []=>some ([],if ok=true then .tup [.prim ((mapGet es a).getD z),.prim (.bool (mapGet es a).isSome)] else .prim ((mapGet es a).getD z))
 |_=>none
theorem lookVal'_ok {κ:Type} [DecidableEq κ] {k:TK} {es:List (κ×Value)} {z:Value} {a:κ} {ok:Bool} {cs:List Prop} {r:AV} (h:lookVal' k es z a ok=some (cs,r)) (hc:allP cs):lookVal es z a ok=r:=by
 unfold lookVal' at h
 split at h
 ·simp only[Option.some.injEq,Prod.mk.injEq] at h
  obtain⟨rfl,rfl⟩:=h
  unfold lookVal
  rw[←hc.1]
 ·simp only[Option.some.injEq,Prod.mk.injEq] at h
  obtain⟨rfl,rfl⟩:=h
  unfold lookVal
  rw[←hc.1]
 ·simp only[Option.some.injEq,Prod.mk.injEq] at h
  exact h.2
 ·cases h
def lensB (size:Nat):List AV→Bool
 | []=>true
 |x::xs=>decide (x.cells.length=size)&&x.stor&&lensB size xs
theorem lensB_ok {size:Nat}:∀{l:List AV},lensB size l=true→lensOk size l
 | [],_=>True.intro
 |x::xs,h=>by
  simp only[lensB,Bool.and_eq_true,decide_eq_true_eq] at h
  exact⟨h.1,lensB_ok h.2⟩
def pv (tab:Nat→Option TD) (hp:List AObj) (ρ:Operand→AV):Op→Option (List Prop×AV)
 | .move x=>some ([],ρ x)
 | .assign x=>some ([],ρ x)
 | .nilCheck x=>(match ρ x with
  | .ptr r o=>some ([],.ptr r o)
  | .eptr e o=>some ([],.eptr e o)
  |_=>none)
 | .pick c x y=>(match ρ c with
  | .prim (.bool t)=>(match t with|true=>some ([],ρ x)|false=>some ([],ρ y))
  |_=>none)
 | .fieldAddr T x f=>(match (fieldsOf tab T)[f]? with
  |some p=>if p.2.1=0 then none else(match ρ x with
   | .ptr r o=>some ([],.ptr r (o+p.1))
   | .eptr e o=>some ([],.eptr e (o+p.1))
   |_=>none)
  |none=>none)
 | .load T x=>(match tab T with
  |some d=>(match ρ x with
   | .ptr r o=>(match hp[r]? with
    |some (.box cs)=>(ldCells d.kind.agg d.size cs o).map fun v=>([],v)
    |_=>none)
   | .eptr e o=>(ldElem d.kind.agg d.size e o).map fun v=>([],v)
   |_=>none)
  |none=>none)
 | .binOp op T x y _=>(match ifcV tab T op (ρ x) y with
  |some v=>some ([],v)
  |none=>(match bopVal' tab T op (ρ x) (ρ y) with
   |some v=>some ([],v)
   |none=>bopX tab T op (ρ x) (ρ y)))
 | .convert S D x=>(cvtVal tab S D (ρ x)).map fun v=>([],v)
 | .unOp op _ x=>(match op,ρ x with
  | .not,.prim (.bool b)=>some ([],.prim (.bool (!b)))
  | .neg,.prim (.int k n)=>some ([],.prim (.int k (k.wrap (0-n))))
  |_,_=>none)
 | .build T parts=>(match tab T with
  |some d=>(match d.kind with
   | .strct fs=>(fillCells fs (d.zero.cells.toList.map .prim) (parts.toList.map fun p=>(p.1,ρ p.2))).map fun cs=>([],.agg cs)
   | .arr n=>(fillCells (arrFs n) (d.zero.cells.toList.map .prim) (parts.toList.map fun p=>(p.1,ρ p.2))).map fun cs=>([],.agg cs)
   |_=>none)
  |none=>none)
 | .buildSlice T n parts=>(match tab T with
  |some d=>(match d.kind with
   | .slc e=>(match tab e with
    |some d'=>if(n=parts.toList.length∧idxOk 0 parts.toList=true∧n≤16777216∧n*d'.size≤16777216)∧lensB d'.size (mapD (AV.toData' hp) (parts.toList.map fun p=>ρ p.2)).2=true then
      some ((mapD (AV.toData' hp) (parts.toList.map fun p=>ρ p.2)).1,.clip (mapD (AV.toData' hp) (parts.toList.map fun p=>ρ p.2)).2) else none
    |none=>none)
   |_=>none)
  |none=>none)
 | .slice T x lo hi mx=>(match tab T with
  |some d=>(match d.kind with
   | .slc e=>(match (ρ x).asSl' hp,tab e with
    |some (cs,els),some d'=>(match boundOf ρ 0 lo,boundOf ρ els.length hi,mx.map fun m=>boundOf ρ 0 (some m) with
     |some l,some h,none=>some (cs++[0≤l∧l≤h∧h≤els.length∧(∀y:AV,y∈els→y.cells.length=d'.size)],.sl ((els.take h.toNat).drop l.toNat))
     |some l,some h,some (some m)=>if hi.isSome=true then some (cs++[0≤l∧l≤h∧h=m∧h≤els.length∧(∀y:AV,y∈els→y.cells.length=d'.size)],.clip ((els.take h.toNat).drop l.toNat)) else none
     |_,_,_=>none)
    |_,_=>none)
   | .str=>(match ρ x with
    | .prim (.string b)=>(match mx,boundOf ρ 0 lo,boundOf ρ b.size hi with
     |none,some l,some h=>some ([0≤l∧l≤h∧h≤b.size],.prim (.string (b.extract l.toNat h.toNat)))
     |_,_,_=>none)
    |_=>none)
   |_=>none)
  |none=>none)
 | .field T x f=>(match (fieldsOf tab T)[f]?,ρ x with
  |some p,.agg cs=>if p.2.2=true∨p.2.1=1 then(ldCells p.2.2 p.2.1 cs p.1).map fun v=>([],v) else none
  |_,_=>none)
 | .lookup T m k ok=>(match tab T,(ρ m).asMap hp,ρ k with
  |some d,some (.i es),.prim (.int .i64 a)=>(match d.kind with
   | .mapk kt et=>(match tab kt,tab et with
    |some dk,some de=>(match dk.kind with
     | .int _=>lookVal' de.kind es de.zero a ok
     |_=>none)
    |_,_=>none)
   |_=>none)
  |some d,some (.s es),.prim (.string a)=>(match d.kind with
   | .mapk kt et=>(match tab kt,tab et with
    |some dk,some de=>(match dk.kind with
     | .str=>lookVal' de.kind es de.zero a ok
     |_=>none)
    |_,_=>none)
   |_=>none)
  |_,_,_=>none)
 | .index T x i=>(match tab T,ρ x,ρ i with
  |some d,.prim (.string b),.prim (.int _ n)=>(match d.kind with
   | .str=>some ([0≤n∧n<b.size],.prim (.int .u8 (strAt b n)))
   |_=>none)
  |_,_,_=>none)
 | .extract x i=>(match ρ x with
  | .tup vs=>(vs[i]?).map fun v=>([],v)
  |_=>none)
 | .makeFunc (.func f) first caps=>if first.size=0 then some ([],.clo f (caps.toList.map ρ)) else if caps.size=0 then some ([],.mclo f (first.toList.map ρ)) else none
 | .call c=>(match c.callee,c.args.toList with
  | .builtin .len,[x]=>(match (c.argTypes[0]?).bind tab with
   |some d=>(match d.kind with
    | .slc _=>((ρ x).asSl' hp).map fun p=>(p.1,.prim (.int .i64 p.2.length))
    | .str=>(match ρ x with
     | .prim (.string b)=>some ([],.prim (.int .i64 b.size))
     |_=>none)
    |_=>none)
   |none=>none)
  | .builtin .min,[x,y]=>(match ρ x,ρ y with
   | .prim (.int k m),.prim (.int _ n)=>some ([],.prim (.int k (if n<m then n else m)))
   |_,_=>none)
  | .builtin .max,[x,y]=>(match ρ x,ρ y with
   | .prim (.int k m),.prim (.int _ n)=>some ([],.prim (.int k (if n>m then n else m)))
   |_,_=>none)
  |_,_=>none)
 |_=>none
end Go.Proofs.YtjhanogfpkbamaaGreatDoor
