/- Texts of ours laid together for a claim: VcA. -/
import Derived.Test.YtdcikhleahfknaaGreatDoorQ12
namespace Go.Proofs.YtdcikhleahfknaaGreatDoor
open Go
set_option linter.unusedSimpArgs false
set_option linter.unusedVariables false
def fC:List Prop->Prop->Prop
 | [],p=>p
 |c::l,p=>c/\fC l p
def dQ:List Prop->Prop
 | []=>True
 |c::l=>c/\dQ l
theorem bt {l:List Prop} {p:Prop}:fC l p↔dQ l/\p:=by
 induction l with
 |nil=>simp[fC,dQ]
 |cons c l ih=>simp only[fC,dQ,ih,and_assoc]
theorem bF {l m:List Prop}:dQ (l++m)↔dQ l/\dQ m:=by
 induction l with
 |nil=>simp[dQ]
 |cons c l ih=>simp only[amh,dQ,ih,and_assoc]
def ah (b:Bool) (x y:Prop):Prop:=
 match b with
 |true=>x
 |false=>y
theorem ah.intro {b:Bool} {x y:Prop} (h1:b=true->x) (h2:b=false->y):ah b x y:=by
 cases b with
 |true=>exact h1 rfl
 |false=>exact h2 rfl
theorem ah.pos {b:Bool} {x y:Prop} (h:b=true) (hx:x):ah b x y:=by subst h;exact hx
theorem ah.neg {b:Bool} {x y:Prop} (h:b=false) (hy:y):ah b x y:=by subst h;exact hy
theorem ah.elim {b:Bool} {x y:Prop} (h:ah b x y):(b=true->x)/\(b=false->y):=by
 cases b with
 |true=>exact⟨fun _=>h,fun h=>(by cases h)⟩
 |false=>exact⟨fun h=>(by cases h),fun _=>h⟩
def rT:Value->Bool
 | .bool b=>b
 |_=>false
def zd:Value->Int
 | .int _ n=>n
 |_=>0
def AV.kZ (hp:List af):AV->Option (List Prop×List AV)
 | .sl els=>some ([],els)
 | .clip els=>some ([],els)
 | .ae v=>(match v with | .slice none 0 0=>some ([],[])|_=>none)
 | .own r n=>(match hp[r]? with
  |some (.row _ _ els)=>some ([n=els.length],els)
  |_=>none)
 |_=>none
theorem fQ {hp:List af} {x:AV} {cs:List Prop} {els:List AV} (h:x.kZ hp=some (cs,els)) (hc:dQ cs):x.gN hp=some els:=by
 cases x with
 |sl l=>simp only[AV.kZ,als,alx] at h;simp[AV.gN,h.2]
 |clip l=>simp only[AV.kZ,als,alx] at h;simp[AV.gN,h.2]
 |ae v=>
  simp only[AV.kZ] at h;split at h
  ·simp only[als,alx] at h;simp[AV.gN,h.2]
  ·cases h
 |own r n=>
  simp only[AV.kZ] at h;split at h
  ·rename_i e z l hr;simp only[als,alx] at h;obtain⟨rfl,rfl⟩:=h;simp only[AV.gN,hr];rw[if_pos hc.1]
  ·cases h
 |_=>simp[AV.kZ] at h
def AV.jq (hp:List af):AV->List Prop×AV
 | .own r n=>(match hp[r]? with
  |some (.row _ _ els)=>([n=els.length],.sl els)
  |_=>([],.top))
 | .sl els=>([],.sl els)
 | .clip els=>([],.sl els)
 | .ae v=>([],match v with | .slice none 0 0=>.sl []|v=>.ae v)
 | .fn v=>([],.fn v)
 | .eG es=>([],.eG es)
 | .aS e o=>([],.aS e o)
 | .aY f caps=>([],match caps with | []=>.aY f []|_=>.top)
 |_=>([],.top)
theorem mm {hp:List af} {x:AV} (hc:dQ (x.jq hp).1):x.dS hp=(x.jq hp).2:=by
 cases x with
 |own r n=>
  simp only[AV.jq,AV.dS,AV.gN] at hc ⊢
  cases hr:hp[r]? with
  |none=>rfl
  |some o=>
   cases o with
   |row e z l=>
    simp only[hr,dQ] at hc ⊢;rw[if_pos hc.1]
   |_=>rfl
 |_=>rfl
def cE (f:AV->List Prop×AV):List AV->List Prop×List AV
 | []=>([],[])
 |x::l=>((f x).1++(cE f l).1,(f x).2::(cE f l).2)
theorem cf {f:AV->List Prop×AV} {g:AV->AV} (h:∀x,dQ (f x).1->g x=(f x).2):∀l,dQ (cE f l).1->l.map g=(cE f l).2
 | [],_=>rfl
 |x::l,hc=>by
  simp only[cE,bF] at hc ⊢;rw[al3,h x hc.1,cf h l hc.2]
def AV.fg (hp:List af):AV->List Prop×AV
 | .agg cs=>((cE (AV.jq hp) cs).1,.agg (cE (AV.jq hp) cs).2)
 |x=>x.jq hp
theorem iC {hp:List af} {x:AV} (hc:dQ (x.fg hp).1):x.eI hp=(x.fg hp).2:=by
 cases x with
 |agg cs=>simp only[AV.fg,AV.eI] at hc ⊢;rw[cf (fun x=>mm) _ hc]
 |_=>exact mm hc
def AV.bG (hp:List af):AV->List Prop×AV
 | .aL cs=>((cE (AV.fg hp) cs).1,.aL (cE (AV.fg hp) cs).2)
 | .aY f cs=>((cE (AV.fg hp) cs).1,.aY f (cE (AV.fg hp) cs).2)
 |x=>x.fg hp
theorem cO {hp:List af} {x:AV} (hc:dQ (x.bG hp).1):x.bB hp=(x.bG hp).2:=by
 cases x with
 |aL cs=>simp only[AV.bG,AV.bB] at hc ⊢;rw[cf (fun x=>iC) _ hc]
 |aY f cs=>simp only[AV.bG,AV.bB] at hc ⊢;rw[cf (fun x=>iC) _ hc]
 |_=>exact iC hc
def Bt (op:BinOp) (k:IntKind) (a b:Int):Option AV:=
 match op with
 | .add=>some (.ae (.int k (k.wrap (a+b))))
 | .sub=>some (.ae (.int k (k.wrap (a-b))))
 | .mul=>some (.ae (.int k (k.wrap (a*b))))
 | .eql=>some (.ae (.bool (a==b)))
 | .neq=>some (.ae (.bool (a != b)))
 | .lss=>some (.ae (.bool (decide (a<b))))
 | .leq=>some (.ae (.bool (decide (a<=b))))
 | .gtr=>some (.ae (.bool (decide (a>b))))
 | .geq=>some (.ae (.bool (decide (a>=b))))
 |_=>none
theorem Hy {op:BinOp} {k:IntKind} {a b:Int} {r:AV} (h:Bt op k a b=some r):Bd op k a b=some (True,r):=by
 cases op<;>simp only[Bt,als] at h<;>first|(subst h;rfl)|cases h
def Bu (tab:Nat->Option TD) (T:Nat) (op:BinOp) (x y:AV):Option AV:=
 match x,y with
 | .ae (.int k a),.ae (.int k' b)=>if k=k' then Bt op k a b else none
 | .ae (.bool a),.ae (.bool b)=>
  (match tab T with
   |some d=>(match d.kind,op with
    | .bool,.eql=>some (.ae (.bool (a==b)))
    | .bool,.neq=>some (.ae (.bool (!(a==b))))
    |_,_=>none)
   |none=>none)
 | .agg [.ae (.int .i64 a1),.ae (.int .i64 a2)],.agg [.ae (.int .i64 b1),.ae (.int .i64 b2)]=>
  (match tab T with
   |some d=>if d.flat then(match op with
    | .eql=>some (.ae (.bool (a1==b1&&a2==b2)))
    | .neq=>some (.ae (.bool (!(a1==b1&&a2==b2))))
    |_=>none) else none
   |none=>none)
 |_,_=>none
theorem Hz {tab:Nat->Option TD} {T:Nat} {op:BinOp} {x y r:AV} (h:Bu tab T op x y=some r):jW tab T op x y=some (True,r):=by
 unfold Bu at h;split at h
 ·split at h
  ·rename_i hk;subst hk;simp only[jW,if_true];exact Hy h
  ·cases h
 ·split at h
  ·rename_i d hd;simp only[jW,hd];split at h
   ·rename_i hk;simp only[hk];obtain rfl:=alw h;rfl
   ·rename_i hk;simp only[hk];obtain rfl:=alw h;rfl
   ·cases h
  ·cases h
 ·split at h
  ·rename_i d hd;simp only[jW,hd];split at h
   ·rename_i hf;simp only[hf,if_true];split at h
    ·obtain rfl:=alw h;rfl
    ·obtain rfl:=alw h;rfl
    ·cases h
   ·cases h
  ·cases h
 ·cases h
def rU {κ:Type} [DecidableEq κ] (k:TK) (es:List (κ×Value)) (z:Value) (a:κ) (ok:Bool):Option (List Prop×AV):=
 match k with
 | .bool=>some ([(aM es a).getD z=.bool (rT ((aM es a).getD z))],if ok=true then .aL [.ae (.bool (rT ((aM es a).getD z))),.ae (.bool (aM es a).isSome)] else .ae (.bool (rT ((aM es a).getD z))))
 | .int k=>some ([(aM es a).getD z=.int k (zd ((aM es a).getD z))],if ok=true then .aL [.ae (.int k (zd ((aM es a).getD z))),.ae (.bool (aM es a).isSome)] else .ae (.int k (zd ((aM es a).getD z))))
 | .cr []=>some ([],if ok=true then .aL [.ae ((aM es a).getD z),.ae (.bool (aM es a).isSome)] else .ae ((aM es a).getD z))
 |_=>none
theorem uI {κ:Type} [DecidableEq κ] {k:TK} {es:List (κ×Value)} {z:Value} {a:κ} {ok:Bool} {cs:List Prop} {r:AV} (h:rU k es z a ok=some (cs,r)) (hc:dQ cs):iL es z a ok=r:=by
 unfold rU at h;split at h
 ·simp only[als,alx] at h;obtain⟨rfl,rfl⟩:=h;unfold iL;rw[<-hc.1]
 ·simp only[als,alx] at h;obtain⟨rfl,rfl⟩:=h;unfold iL;rw[<-hc.1]
 ·simp only[als,alx] at h;exact h.2
 ·cases h
def DW (size:Nat):List AV->Bool
 | []=>true
 |x::xs=>decide (x.cells.length=size)&&x.lT&&DW size xs
theorem xc {size:Nat}:∀{l:List AV},DW size l=true->qJ size l
 | [],_=>True.intro
 |x::xs,h=>by
  simp only[DW,alB,decide_eq_true_eq] at h;exact⟨h.1,xc h.2⟩
def pv (tab:Nat->Option TD) (hp:List af) (ρ:Operand->AV):Op->Option (List Prop×AV)
 | .move x=>some ([],ρ x)
 | .assign x=>some ([],ρ x)
 | .nilCheck x=>(match ρ x with
  | .ptr r o=>some ([],.ptr r o)
  | .aS e o=>some ([],.aS e o)
  |_=>none)
 | .pick c x y=>(match ρ c with
  | .ae (.bool t)=>(match t with|true=>some ([],ρ x)|false=>some ([],ρ y))
  |_=>none)
 | .fieldAddr T x f=>(match (fieldsOf tab T)[f]? with
  |some p=>if p.2.1=0 then none else(match ρ x with
   | .ptr r o=>some ([],.ptr r (o+p.1))
   | .aS e o=>some ([],.aS e (o+p.1))
   | .fa r m i z=>if p.1=0 then some ([],.fa r m i z) else none
   |_=>none)
  |none=>none)
 | .load T x=>(match tab T with
  |some d=>(match ρ x with
   | .ptr r o=>(match hp[r]? with
    |some (.box cs)=>(eV d.kind.agg d.size cs o).map fun v=>([],v)
    |_=>none)
   | .aS e o=>(wJ d.kind.agg d.size e o).map fun v=>([],v)
   |_=>none)
  |none=>none)
 | .binOp op T x y _=>(match SR tab T op (ρ x) y with
  |some v=>some ([],v)
  |none=>(match Bu tab T op (ρ x) (ρ y) with
   |some v=>some ([],v)
   |none=>Lc tab T op (ρ x) (ρ y)))
 | .convert S D x=>(Bg tab S D (ρ x)).map fun v=>([],v)
 | .unOp op _ x=>(match op,ρ x with
  | .not,.ae (.bool b)=>some ([],.ae (.bool (!b)))
  | .neg,.ae (.int k n)=>some ([],.ae (.int k (k.wrap (0-n))))
  |_,_=>none)
 | .build T parts=>(match tab T with
  |some d=>(match d.kind with
   | .cr fs=>(cV fs (d.zero.cells.toList.map .ae) (parts.toList.map fun p=>(p.1,ρ p.2))).map fun cs=>([],.agg cs)
   | .arr n=>(cV (wK n) (d.zero.cells.toList.map .ae) (parts.toList.map fun p=>(p.1,ρ p.2))).map fun cs=>([],.agg cs)
   |_=>none)
  |none=>none)
 | .buildSlice T n parts=>(match tab T with
  |some d=>(match d.kind with
   | .jS e=>(match tab e with
    |some d'=>if(n=parts.toList.length/\rI 0 parts.toList=true/\n<=16777216/\n*d'.size<=16777216)/\DW d'.size (cE (AV.bG hp) (parts.toList.map fun p=>ρ p.2)).2=true then
      some ((cE (AV.bG hp) (parts.toList.map fun p=>ρ p.2)).1,.clip (cE (AV.bG hp) (parts.toList.map fun p=>ρ p.2)).2) else none
    |none=>none)
   |_=>none)
  |none=>none)
 | .slice T x lo hi mx=>(match tab T with
  |some d=>(match d.kind with
   | .jS e=>(match (ρ x).kZ hp,tab e with
    |some (cs,els),some d'=>(match bL ρ 0 lo,bL ρ els.length hi,mx.map fun m=>bL ρ 0 (some m) with
     |some l,some h,none=>some (cs++[0<=l/\l<=h/\h<=els.length/\(∀y:AV,y∈els->y.cells.length=d'.size)],.sl ((els.take h.toNat).drop l.toNat))
     |some l,some h,some (some m)=>if hi.isSome=true then some (cs++[0<=l/\l<=h/\h=m/\h<=els.length/\(∀y:AV,y∈els->y.cells.length=d'.size)],.clip ((els.take h.toNat).drop l.toNat)) else none
     |_,_,_=>none)
    |_,_=>none)
   | .str=>(match ρ x with
    | .ae (.string b)=>(match mx,bL ρ 0 lo,bL ρ b.size hi with
     |none,some l,some h=>some ([0<=l/\l<=h/\h<=b.size],.ae (.string (b.extract l.toNat h.toNat)))
     |_,_,_=>none)
    |_=>none)
   |_=>none)
  |none=>none)
 | .field T x f=>(match (fieldsOf tab T)[f]?,ρ x with
  |some p,.agg cs=>if p.2.2=true\/p.2.1=1 then(eV p.2.2 p.2.1 cs p.1).map fun v=>([],v) else none
  |_,_=>none)
 | .lookup T m k ok=>(match tab T,(ρ m).zK hp,ρ k with
  |some d,some (.i es),.ae (.int .i64 a)=>(match d.kind with
   | .oh kt et=>(match tab kt,tab et with
    |some dk,some de=>(match dk.kind with
     | .int _=>rU de.kind es de.zero a ok
     |_=>none)
    |_,_=>none)
   |_=>none)
  |some d,some (.s es),.ae (.string a)=>(match d.kind with
   | .oh kt et=>(match tab kt,tab et with
    |some dk,some de=>(match dk.kind with
     | .str=>rU de.kind es de.zero a ok
     |_=>none)
    |_,_=>none)
   |_=>none)
  |_,_,_=>none)
 | .index T x i=>(match tab T,ρ x,ρ i with
  |some d,.ae (.string b),.ae (.int _ n)=>(match d.kind with
   | .str=>some ([0<=n/\n<b.size],.ae (.int .u8 (Ds b n)))
   |_=>none)
  |_,_,_=>none)
 | .extract x i=>(match ρ x with
  | .aL vs=>(vs[i]?).map fun v=>([],v)
  |_=>none)
 | .makeFunc (.func f) first caps=>if first.size=0 then some ([],.aY f (caps.toList.map ρ)) else if caps.size=0 then some ([],.dm f (first.toList.map ρ)) else none
 | .call c=>(match c.callee,c.args.toList with
  | .builtin .len,[x]=>(match (c.argTypes[0]?).bind tab with
   |some d=>(match d.kind with
    | .jS _=>(match (ρ x).kZ hp with
     |some p=>some (p.1,.ae (.int .i64 p.2.length))
     |none=>(match tJ hp (ρ x) with
      |some (_,m,_,_,k)=>some ([m=k],.ae (.int .i64 (m:Nat)))
      |none=>none))
    | .str=>(match ρ x with
     | .ae (.string b)=>some ([],.ae (.int .i64 b.size))
     |_=>none)
    |_=>none)
   |none=>none)
  | .builtin .min,[x,y]=>(match ρ x,ρ y with
   | .ae (.int k m),.ae (.int _ n)=>some ([],.ae (.int k (if n<m then n else m)))
   |_,_=>none)
  | .builtin .max,[x,y]=>(match ρ x,ρ y with
   | .ae (.int k m),.ae (.int _ n)=>some ([],.ae (.int k (if n>m then n else m)))
   |_,_=>none)
  |_,_=>none)
 |_=>none
end Go.Proofs.YtdcikhleahfknaaGreatDoor
