/- Texts of ours laid together for a claim: VcA. -/
import Derived.Test.YtdcikhleahfknaaGreatDoorQ12
namespace Go.Proofs.YtdcikhleahfknaaGreatDoor
open Go
set_option linter.unusedSimpArgs false
set_option linter.unusedVariables false
def fg:List Prop→Prop→Prop
 | [],p=>p
 |c::l,p=>c∧fg l p
def dI:List Prop→Prop
 | []=>True
 |c::l=>c∧dI l
theorem bf {l:List Prop} {p:Prop}:fg l p↔dI l∧p:=by
 induction l with
 |nil=>simp[fg,dI]
 |cons c l ih=>simp only[fg,dI,ih,and_assoc]
theorem bt {l m:List Prop}:dI (l++m)↔dI l∧dI m:=by
 induction l with
 |nil=>simp[dI]
 |cons c l ih=>simp only[List.cons_append,dI,ih,and_assoc]
def ai (b:Bool) (x y:Prop):Prop:=
 match b with
 |true=>x
 |false=>y
theorem ai.intro {b:Bool} {x y:Prop} (h1:b=true→x) (h2:b=false→y):ai b x y:=by
 cases b with
 |true=>exact h1 rfl
 |false=>exact h2 rfl
theorem ai.pos {b:Bool} {x y:Prop} (h:b=true) (hx:x):ai b x y:=by subst h;exact hx
theorem ai.neg {b:Bool} {x y:Prop} (h:b=false) (hy:y):ai b x y:=by subst h;exact hy
theorem ai.elim {b:Bool} {x y:Prop} (h:ai b x y):(b=true→x)∧(b=false→y):=by
 cases b with
 |true=>exact⟨fun _=>h,fun h=>(by cases h)⟩
 |false=>exact⟨fun h=>(by cases h),fun _=>h⟩
def kU:Value→Bool
 | .bool b=>b
 |_=>false
def A5:Value→Int
 | .int _ n=>n
 |_=>0
def AV.jN (hp:List af):AV→Option (List Prop×List AV)
 | .sl els=>some ([],els)
 | .clip els=>some ([],els)
 | .ae v=>(match v with | .slice none 0 0=>some ([],[])|_=>none)
 | .own r n=>(match hp[r]? with
  |some (.row _ _ els)=>some ([n=els.length],els)
  |_=>none)
 |_=>none
theorem fl {hp:List af} {x:AV} {cs:List Prop} {els:List AV} (h:x.jN hp=some (cs,els)) (hc:dI cs):x.fN hp=some els:=by
 cases x with
 |sl l=>simp only[AV.jN,Option.some.injEq,Prod.mk.injEq] at h;simp[AV.fN,h.2]
 |clip l=>simp only[AV.jN,Option.some.injEq,Prod.mk.injEq] at h;simp[AV.fN,h.2]
 |ae v=>
  simp only[AV.jN] at h
  split at h
  ·simp only[Option.some.injEq,Prod.mk.injEq] at h;simp[AV.fN,h.2]
  ·cases h
 |own r n=>
  simp only[AV.jN] at h
  split at h
  ·rename_i e z l hr
   simp only[Option.some.injEq,Prod.mk.injEq] at h
   obtain⟨rfl,rfl⟩:=h
   simp only[AV.fN,hr]
   rw[if_pos hc.1]
  ·cases h
 |_=>simp[AV.jN] at h
def AV.iw (hp:List af):AV→List Prop×AV
 | .own r n=>(match hp[r]? with
  |some (.row _ _ els)=>([n=els.length],.sl els)
  |_=>([],.top))
 | .sl els=>([],.sl els)
 | .clip els=>([],.sl els)
 | .ae v=>([],match v with | .slice none 0 0=>.sl []|v=>.ae v)
 | .fn v=>([],.fn v)
 | .ea es=>([],.ea es)
 | .aL e o=>([],.aL e o)
 | .aK f caps=>([],match caps with | []=>.aK f []|_=>.top)
 |_=>([],.top)
theorem kV {hp:List af} {x:AV} (hc:dI (x.iw hp).1):x.dF hp=(x.iw hp).2:=by
 cases x with
 |own r n=>
  simp only[AV.iw,AV.dF,AV.fN] at hc ⊢
  cases hr:hp[r]? with
  |none=>rfl
  |some o=>
   cases o with
   |row e z l=>
    simp only[hr,dI] at hc ⊢
    rw[if_pos hc.1]
   |_=>rfl
 |_=>rfl
def cd (f:AV→List Prop×AV):List AV→List Prop×List AV
 | []=>([],[])
 |x::l=>((f x).1++(cd f l).1,(f x).2::(cd f l).2)
theorem bO {f:AV→List Prop×AV} {g:AV→AV} (h:∀x,dI (f x).1→g x=(f x).2):∀l,dI (cd f l).1→l.map g=(cd f l).2
 | [],_=>rfl
 |x::l,hc=>by
  simp only[cd,bt] at hc ⊢
  rw[List.map_cons,h x hc.1,bO h l hc.2]
def AV.eK (hp:List af):AV→List Prop×AV
 | .agg cs=>((cd (AV.iw hp) cs).1,.agg (cd (AV.iw hp) cs).2)
 |x=>x.iw hp
theorem gC {hp:List af} {x:AV} (hc:dI (x.eK hp).1):x.ee hp=(x.eK hp).2:=by
 cases x with
 |agg cs=>simp only[AV.eK,AV.ee] at hc ⊢;rw[bO (fun x=>kV) _ hc]
 |_=>exact kV hc
def AV.bz (hp:List af):AV→List Prop×AV
 | .aX cs=>((cd (AV.eK hp) cs).1,.aX (cd (AV.eK hp) cs).2)
 | .aK f cs=>((cd (AV.eK hp) cs).1,.aK f (cd (AV.eK hp) cs).2)
 |x=>x.eK hp
theorem cF {hp:List af} {x:AV} (hc:dI (x.bz hp).1):x.bj hp=(x.bz hp).2:=by
 cases x with
 |aX cs=>simp only[AV.bz,AV.bj] at hc ⊢;rw[bO (fun x=>gC) _ hc]
 |aK f cs=>simp only[AV.bz,AV.bj] at hc ⊢;rw[bO (fun x=>gC) _ hc]
 |_=>exact gC hc
def yi (op:BinOp) (k:IntKind) (a b:Int):Option AV:=
 match op with
 | .add=>some (.ae (.int k (k.wrap (a+b))))
 | .sub=>some (.ae (.int k (k.wrap (a-b))))
 | .mul=>some (.ae (.int k (k.wrap (a*b))))
 | .eql=>some (.ae (.bool (a==b)))
 | .neq=>some (.ae (.bool (a != b)))
 | .lss=>some (.ae (.bool (decide (a<b))))
 | .leq=>some (.ae (.bool (decide (a≤b))))
 | .gtr=>some (.ae (.bool (decide (a>b))))
 | .geq=>some (.ae (.bool (decide (a≥b))))
 |_=>none
theorem Eb {op:BinOp} {k:IntKind} {a b:Int} {r:AV} (h:yi op k a b=some r):xW op k a b=some (True,r):=by
 cases op<;>simp only[yi,Option.some.injEq] at h<;>first|(subst h;rfl)|cases h
def yj (tab:Nat→Option TD) (T:Nat) (op:BinOp) (x y:AV):Option AV:=
 match x,y with
 | .ae (.int k a),.ae (.int k' b)=>if k=k' then yi op k a b else none
 | .ae (.bool a),.ae (.bool b)=>
  (match tab T with
   |some d=>(match d.kind,op with
    | .bool,.eql=>some (.ae (.bool (a==b)))
    | .bool,.neq=>some (.ae (.bool (!(a==b))))
    |_,_=>none)
   |none=>none)
 | .agg [.ae (.int .i64 a1),.ae (.int .i64 a2)],.agg [.ae (.int .i64 b1),.ae (.int .i64 b2)]=>
  (match tab T with
   |some d=>if d.flat then(match op with
    | .eql=>some (.ae (.bool (a1==b1&&a2==b2)))
    | .neq=>some (.ae (.bool (!(a1==b1&&a2==b2))))
    |_=>none) else none
   |none=>none)
 |_,_=>none
theorem Ec {tab:Nat→Option TD} {T:Nat} {op:BinOp} {x y r:AV} (h:yj tab T op x y=some r):ja tab T op x y=some (True,r):=by
 unfold yj at h
 split at h
 ·split at h
  ·rename_i hk
   subst hk
   simp only[ja,if_true]
   exact Eb h
  ·cases h
 ·split at h
  ·rename_i d hd
   simp only[ja,hd]
   split at h
   ·rename_i hk;simp only[hk];obtain rfl:=Option.some.inj h;rfl
   ·rename_i hk;simp only[hk];obtain rfl:=Option.some.inj h;rfl
   ·cases h
  ·cases h
 ·split at h
  ·rename_i d hd
   simp only[ja,hd]
   split at h
   ·rename_i hf
    simp only[hf,if_true]
    split at h
    ·obtain rfl:=Option.some.inj h;rfl
    ·obtain rfl:=Option.some.inj h;rfl
    ·cases h
   ·cases h
  ·cases h
 ·cases h
def pW {κ:Type} [DecidableEq κ] (k:TK) (es:List (κ×Value)) (z:Value) (a:κ) (ok:Bool):Option (List Prop×AV):=
 match k with
 | .bool=>some ([(aC es a).getD z=.bool (kU ((aC es a).getD z))],if ok=true then .aX [.ae (.bool (kU ((aC es a).getD z))),.ae (.bool (aC es a).isSome)] else .ae (.bool (kU ((aC es a).getD z))))
 | .int k=>some ([(aC es a).getD z=.int k (A5 ((aC es a).getD z))],if ok=true then .aX [.ae (.int k (A5 ((aC es a).getD z))),.ae (.bool (aC es a).isSome)] else .ae (.int k (A5 ((aC es a).getD z))))
 | .bS []=>some ([],if ok=true then .aX [.ae ((aC es a).getD z),.ae (.bool (aC es a).isSome)] else .ae ((aC es a).getD z))
 |_=>none
theorem rZ {κ:Type} [DecidableEq κ] {k:TK} {es:List (κ×Value)} {z:Value} {a:κ} {ok:Bool} {cs:List Prop} {r:AV} (h:pW k es z a ok=some (cs,r)) (hc:dI cs):gK es z a ok=r:=by
 unfold pW at h
 split at h
 ·simp only[Option.some.injEq,Prod.mk.injEq] at h
  obtain⟨rfl,rfl⟩:=h
  unfold gK
  rw[←hc.1]
 ·simp only[Option.some.injEq,Prod.mk.injEq] at h
  obtain⟨rfl,rfl⟩:=h
  unfold gK
  rw[←hc.1]
 ·simp only[Option.some.injEq,Prod.mk.injEq] at h
  exact h.2
 ·cases h
def A6 (size:Nat):List AV→Bool
 | []=>true
 |x::xs=>decide (x.cells.length=size)&&x.kC&&A6 size xs
theorem uD {size:Nat}:∀{l:List AV},A6 size l=true→oS size l
 | [],_=>True.intro
 |x::xs,h=>by
  simp only[A6,Bool.and_eq_true,decide_eq_true_eq] at h
  exact⟨h.1,uD h.2⟩
def pv (tab:Nat→Option TD) (hp:List af) (ρ:Operand→AV):Op→Option (List Prop×AV)
 | .move x=>some ([],ρ x)
 | .assign x=>some ([],ρ x)
 | .nilCheck x=>(match ρ x with
  | .ptr r o=>some ([],.ptr r o)
  | .aL e o=>some ([],.aL e o)
  |_=>none)
 | .pick c x y=>(match ρ c with
  | .ae (.bool t)=>(match t with|true=>some ([],ρ x)|false=>some ([],ρ y))
  |_=>none)
 | .fieldAddr T x f=>(match (fieldsOf tab T)[f]? with
  |some p=>if p.2.1=0 then none else(match ρ x with
   | .ptr r o=>some ([],.ptr r (o+p.1))
   | .aL e o=>some ([],.aL e (o+p.1))
   | .eH r m i z=>if p.1=0 then some ([],.eH r m i z) else none
   |_=>none)
  |none=>none)
 | .load T x=>(match tab T with
  |some d=>(match ρ x with
   | .ptr r o=>(match hp[r]? with
    |some (.box cs)=>(eC d.kind.agg d.size cs o).map fun v=>([],v)
    |_=>none)
   | .aL e o=>(ua d.kind.agg d.size e o).map fun v=>([],v)
   |_=>none)
  |none=>none)
 | .binOp op T x y _=>(match Np tab T op (ρ x) y with
  |some v=>some ([],v)
  |none=>(match yj tab T op (ρ x) (ρ y) with
   |some v=>some ([],v)
   |none=>G3 tab T op (ρ x) (ρ y)))
 | .convert S D x=>(xZ tab S D (ρ x)).map fun v=>([],v)
 | .unOp op _ x=>(match op,ρ x with
  | .not,.ae (.bool b)=>some ([],.ae (.bool (!b)))
  | .neg,.ae (.int k n)=>some ([],.ae (.int k (k.wrap (0-n))))
  |_,_=>none)
 | .build T parts=>(match tab T with
  |some d=>(match d.kind with
   | .bS fs=>(cB fs (d.zero.cells.toList.map .ae) (parts.toList.map fun p=>(p.1,ρ p.2))).map fun cs=>([],.agg cs)
   | .arr n=>(cB (ub n) (d.zero.cells.toList.map .ae) (parts.toList.map fun p=>(p.1,ρ p.2))).map fun cs=>([],.agg cs)
   |_=>none)
  |none=>none)
 | .buildSlice T n parts=>(match tab T with
  |some d=>(match d.kind with
   | .iW e=>(match tab e with
    |some d'=>if(n=parts.toList.length∧pM 0 parts.toList=true∧n≤16777216∧n*d'.size≤16777216)∧A6 d'.size (cd (AV.bz hp) (parts.toList.map fun p=>ρ p.2)).2=true then
      some ((cd (AV.bz hp) (parts.toList.map fun p=>ρ p.2)).1,.clip (cd (AV.bz hp) (parts.toList.map fun p=>ρ p.2)).2) else none
    |none=>none)
   |_=>none)
  |none=>none)
 | .slice T x lo hi mx=>(match tab T with
  |some d=>(match d.kind with
   | .iW e=>(match (ρ x).jN hp,tab e with
    |some (cs,els),some d'=>(match bx ρ 0 lo,bx ρ els.length hi,mx.map fun m=>bx ρ 0 (some m) with
     |some l,some h,none=>some (cs++[0≤l∧l≤h∧h≤els.length∧(∀y:AV,y∈els→y.cells.length=d'.size)],.sl ((els.take h.toNat).drop l.toNat))
     |some l,some h,some (some m)=>if hi.isSome=true then some (cs++[0≤l∧l≤h∧h=m∧h≤els.length∧(∀y:AV,y∈els→y.cells.length=d'.size)],.clip ((els.take h.toNat).drop l.toNat)) else none
     |_,_,_=>none)
    |_,_=>none)
   | .str=>(match ρ x with
    | .ae (.string b)=>(match mx,bx ρ 0 lo,bx ρ b.size hi with
     |none,some l,some h=>some ([0≤l∧l≤h∧h≤b.size],.ae (.string (b.extract l.toNat h.toNat)))
     |_,_,_=>none)
    |_=>none)
   |_=>none)
  |none=>none)
 | .field T x f=>(match (fieldsOf tab T)[f]?,ρ x with
  |some p,.agg cs=>if p.2.2=true∨p.2.1=1 then(eC p.2.2 p.2.1 cs p.1).map fun v=>([],v) else none
  |_,_=>none)
 | .lookup T m k ok=>(match tab T,(ρ m).wS hp,ρ k with
  |some d,some (.i es),.ae (.int .i64 a)=>(match d.kind with
   | .mI kt et=>(match tab kt,tab et with
    |some dk,some de=>(match dk.kind with
     | .int _=>pW de.kind es de.zero a ok
     |_=>none)
    |_,_=>none)
   |_=>none)
  |some d,some (.s es),.ae (.string a)=>(match d.kind with
   | .mI kt et=>(match tab kt,tab et with
    |some dk,some de=>(match dk.kind with
     | .str=>pW de.kind es de.zero a ok
     |_=>none)
    |_,_=>none)
   |_=>none)
  |_,_,_=>none)
 | .index T x i=>(match tab T,ρ x,ρ i with
  |some d,.ae (.string b),.ae (.int _ n)=>(match d.kind with
   | .str=>some ([0≤n∧n<b.size],.ae (.int .u8 (Ax b n)))
   |_=>none)
  |_,_,_=>none)
 | .extract x i=>(match ρ x with
  | .aX vs=>(vs[i]?).map fun v=>([],v)
  |_=>none)
 | .makeFunc (.func f) first caps=>if first.size=0 then some ([],.aK f (caps.toList.map ρ)) else if caps.size=0 then some ([],.cK f (first.toList.map ρ)) else none
 | .call c=>(match c.callee,c.args.toList with
  | .builtin .len,[x]=>(match (c.argTypes[0]?).bind tab with
   |some d=>(match d.kind with
    | .iW _=>(match (ρ x).jN hp with
     |some p=>some (p.1,.ae (.int .i64 p.2.length))
     |none=>(match ra hp (ρ x) with
      |some (_,m,_,_,k)=>some ([m=k],.ae (.int .i64 (m:Nat)))
      |none=>none))
    | .str=>(match ρ x with
     | .ae (.string b)=>some ([],.ae (.int .i64 b.size))
     |_=>none)
    |_=>none)
   |none=>none)
  | .builtin .min,[x,y]=>(match ρ x,ρ y with
   | .ae (.int k m),.ae (.int _ n)=>some ([],.ae (.int k (if n<m then n else m)))
   |_,_=>none)
  | .builtin .max,[x,y]=>(match ρ x,ρ y with
   | .ae (.int k m),.ae (.int _ n)=>some ([],.ae (.int k (if n>m then n else m)))
   |_,_=>none)
  |_,_=>none)
 |_=>none
end Go.Proofs.YtdcikhleahfknaaGreatDoor
