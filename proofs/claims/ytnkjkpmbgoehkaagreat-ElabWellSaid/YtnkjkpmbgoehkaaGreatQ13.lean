/- Lemmas. -/
import Derived.Test.YtnkjkpmbgoehkaaGreatQ12
namespace Go.Proofs.YtnkjkpmbgoehkaaGreat
open Go
set_option linter.unusedSimpArgs false
set_option linter.unusedVariables false
def gN:List Prop->Prop->Prop
 | [],p=>p
 |c::l,p=>c/\gN l p
def eA:List Prop->Prop
 | []=>True
 |c::l=>c/\eA l
theorem bF {l:List Prop} {p:Prop}:gN l p↔eA l/\p:=by
 induction l with
 |nil=>simp[gN,eA]
 |cons c l ih=>simp only[gN,eA,ih,and_assoc]
theorem bP {l m:List Prop}:eA (l++m)↔eA l/\eA m:=by
 induction l with
 |nil=>simp[eA]
 |cons c l ih=>simp only[arK,eA,ih,and_assoc]
def az (b:Bool) (x y:Prop):Prop:=
 match b with
 |true=>x
 |false=>y
theorem az.intro {b:Bool} {x y:Prop} (h1:b=true->x) (h2:b=false->y):az b x y:=by
 cases b with
 |true=>exact h1 rfl
 |false=>exact h2 rfl
theorem az.pos {b:Bool} {x y:Prop} (h:b=true) (hx:x):az b x y:=by subst h;exact hx
theorem az.neg {b:Bool} {x y:Prop} (h:b=false) (hy:y):az b x y:=by subst h;exact hy
theorem az.elim {b:Bool} {x y:Prop} (h:az b x y):(b=true->x)/\(b=false->y):=by
 cases b with
 |true=>exact⟨fun _=>h,fun h=>(by cases h)⟩
 |false=>exact⟨fun h=>(by cases h),fun _=>h⟩
def qN:Value->Bool
 | .bool b=>b
 |_=>false
def Kb:Value->Int
 | .int _ n=>n
 |_=>0
def AV.mZ (hp:List aw):AV->Option (List Prop×List AV)
 | .sl els=>some ([],els)
 | .clip els=>some ([],els)
 | .ax v=>(match v with | .slice none 0 0=>some ([],[])|_=>none)
 | .own r n=>(match hp[r]? with
  |some (.row _ _ els)=>some ([n=els.length],els)
  |_=>none)
 |_=>none
theorem ie {hp:List aw} {x:AV} {cs:List Prop} {els:List AV} (h:x.mZ hp=some (cs,els)) (hc:eA cs):x.iU hp=some els:=by
 cases x with
 |sl l=>simp only[AV.mZ,aqq,aqt] at h;simp[AV.iU,h.2]
 |clip l=>simp only[AV.mZ,aqq,aqt] at h;simp[AV.iU,h.2]
 |ax v=>
  simp only[AV.mZ] at h;split at h
  ·simp only[aqq,aqt] at h;simp[AV.iU,h.2]
  ·cases h
 |own r n=>
  simp only[AV.mZ] at h;split at h
  ·rename_i e z l hr;simp only[aqq,aqt] at h;obtain⟨rfl,rfl⟩:=h;simp only[AV.iU,hr];rw[if_pos hc.1]
  ·cases h
 |_=>simp[AV.mZ] at h
def AV.jP (hp:List aw):AV->List Prop×AV
 | .own r n=>(match hp[r]? with
  |some (.row _ _ els)=>([n=els.length],.sl els)
  |_=>([],.top))
 | .sl els=>([],.sl els)
 | .clip els=>([],.sl els)
 | .ax v=>([],match v with | .slice none 0 0=>.sl []|v=>.ax v)
 | .fn v=>([],.fn v)
 | .fL es=>([],.fL es)
 | .aW e o=>([],.aW e o)
 | .bz f caps=>([],match caps with | []=>.bz f []|_=>.top)
 |_=>([],.top)
theorem lJ {hp:List aw} {x:AV} (hc:eA (x.jP hp).1):x.eG hp=(x.jP hp).2:=by
 cases x with
 |own r n=>
  simp only[AV.jP,AV.eG,AV.iU] at hc ⊢
  cases hr:hp[r]? with
  |none=>rfl
  |some o=>
   cases o with
   |row e z l=>
    simp only[hr,eA] at hc ⊢;rw[if_pos hc.1]
   |_=>rfl
 |_=>rfl
def cZ (f:AV->List Prop×AV):List AV->List Prop×List AV
 | []=>([],[])
 |x::l=>((f x).1++(cZ f l).1,(f x).2::(cZ f l).2)
theorem cr {f:AV->List Prop×AV} {g:AV->AV} (h:∀x,eA (f x).1->g x=(f x).2):∀l,eA (cZ f l).1->l.map g=(cZ f l).2
 | [],_=>rfl
 |x::l,hc=>by
  simp only[cZ,bP] at hc ⊢;rw[aqS,h x hc.1,cr h l hc.2]
def AV.gB (hp:List aw):AV->List Prop×AV
 | .agg cs=>((cZ (AV.jP hp) cs).1,.agg (cZ (AV.jP hp) cs).2)
 |x=>x.jP hp
theorem jQ {hp:List aw} {x:AV} (hc:eA (x.gB hp).1):x.fO hp=(x.gB hp).2:=by
 cases x with
 |agg cs=>simp only[AV.gB,AV.fO] at hc ⊢;rw[cr (fun x=>lJ) _ hc]
 |_=>exact lJ hc
def AV.bU (hp:List aw):AV->List Prop×AV
 | .aK cs=>((cZ (AV.gB hp) cs).1,.aK (cZ (AV.gB hp) cs).2)
 | .bz f cs=>((cZ (AV.gB hp) cs).1,.bz f (cZ (AV.gB hp) cs).2)
 |x=>x.gB hp
theorem dv {hp:List aw} {x:AV} (hc:eA (x.bU hp).1):x.bK hp=(x.bU hp).2:=by
 cases x with
 |aK cs=>simp only[AV.bU,AV.bK] at hc ⊢;rw[cr (fun x=>jQ) _ hc]
 |bz f cs=>simp only[AV.bU,AV.bK] at hc ⊢;rw[cr (fun x=>jQ) _ hc]
 |_=>exact jQ hc
def DS (op:BinOp) (k:IntKind) (a b:Int):Option AV:=
 match op with
 | .add=>some (.ax (.int k (k.wrap (a+b))))
 | .sub=>some (.ax (.int k (k.wrap (a-b))))
 | .mul=>some (.ax (.int k (k.wrap (a*b))))
 | .eql=>some (.ax (.bool (a==b)))
 | .neq=>some (.ax (.bool (a != b)))
 | .lss=>some (.ax (.bool (decide (a<b))))
 | .leq=>some (.ax (.bool (decide (a<=b))))
 | .gtr=>some (.ax (.bool (decide (a>b))))
 | .geq=>some (.ax (.bool (decide (a>=b))))
 |_=>none
theorem Kd {op:BinOp} {k:IntKind} {a b:Int} {r:AV} (h:DS op k a b=some r):DB op k a b=some (True,r):=by
 cases op<;>simp only[DS,aqq] at h<;>first|(subst h;rfl)|cases h
def DT (tab:Nat->Option TD) (T:Nat) (op:BinOp) (x y:AV):Option AV:=
 match x,y with
 | .ax (.int k a),.ax (.int k' b)=>if k=k' then DS op k a b else none
 | .ax (.bool a),.ax (.bool b)=>
  (match tab T with
   |some d=>(match d.kind,op with
    | .bool,.eql=>some (.ax (.bool (a==b)))
    | .bool,.neq=>some (.ax (.bool (!(a==b))))
    |_,_=>none)
   |none=>none)
 | .agg [.ax (.int .i64 a1),.ax (.int .i64 a2)],.agg [.ax (.int .i64 b1),.ax (.int .i64 b2)]=>
  (match tab T with
   |some d=>if d.flat then(match op with
    | .eql=>some (.ax (.bool (a1==b1&&a2==b2)))
    | .neq=>some (.ax (.bool (!(a1==b1&&a2==b2))))
    |_=>none) else none
   |none=>none)
 | .agg [.ax (.int .i64 a0),.ax (.int .i64 a1),.ax (.int .i64 a2),.ax (.string s)],.agg [.ax (.int .i64 b0),.ax (.int .i64 b1),.ax (.int .i64 b2),.ax (.string t)]=>
  (match tab T with
   |some d=>if d.four then(match op with
    | .eql=>some (.ax (.bool (a0==b0&&((a1==b1&&a2==b2)&&s.toList==t.toList))))
    | .neq=>some (.ax (.bool (!(a0==b0&&((a1==b1&&a2==b2)&&s.toList==t.toList)))))
    |_=>none) else none
   |none=>none)
 |_,_=>none
theorem Ke {tab:Nat->Option TD} {T:Nat} {op:BinOp} {x y r:AV} (h:DT tab T op x y=some r):kP tab T op x y=some (True,r):=by
 unfold DT at h;split at h
 ·split at h
  ·rename_i hk;subst hk;simp only[kP,if_true];exact Kd h
  ·cases h
 ·split at h
  ·rename_i d hd;simp only[kP,hd];split at h
   ·rename_i hk;simp only[hk];obtain rfl:=aqs h;rfl
   ·rename_i hk;simp only[hk];obtain rfl:=aqs h;rfl
   ·cases h
  ·cases h
 ·split at h
  ·rename_i d hd;simp only[kP,hd];split at h
   ·rename_i hf;simp only[hf,if_true];split at h
    ·obtain rfl:=aqs h;rfl
    ·obtain rfl:=aqs h;rfl
    ·cases h
   ·cases h
  ·cases h
 ·split at h
  ·rename_i d hd;simp only[kP,hd];split at h
   ·rename_i hf;simp only[hf,if_true];split at h
    ·obtain rfl:=aqs h;rfl
    ·obtain rfl:=aqs h;rfl
    ·cases h
   ·cases h
  ·cases h
 ·cases h
def Rt:Value->Nat->Value
 | .agg cs,i=>cs.toList.getD i undef
 |_,_=>undef
def Ru (v:Value):Bool:=qN (Rt v 0)
def Rv (v:Value):Int:=Kb (Rt v 1)
def Kf (v:Value):Int:=Kb (Rt v 2)
def rY:Value:=.agg #[.bool false,.int .i64 0,.int .i64 0]
theorem Kg {v:Value} (h:v=.bool (qN v)):wJ v=.ax (.bool (qN v)):=by
 cases v<;>first|rfl|cases h
theorem OY {v:Value} {k:IntKind} (h:v=.int k (Kb v)):wJ v=.ax (.int k (Kb v)):=by
 cases v<;>first|(cases h;rfl)|cases h
theorem Gd {v:Value} {k1 k2:IntKind} {b:Bool} {m n:Int} (h:v=.agg #[.bool b,.int k1 m,.int k2 n]):wJ v=.agg [.ax (.bool b),.ax (.int k1 m),.ax (.int k2 n)]:=by
 subst h;rfl
def ug {κ:Type} [DecidableEq κ] (k:TK) (es:List (κ×Value)) (z:Value) (a:κ) (ok:Bool):Option (List Prop×AV):=
 match k with
 | .bool=>some ([(aL es a).getD z=.bool (qN ((aL es a).getD z))],if ok=true then .aK [.ax (.bool (qN ((aL es a).getD z))),.ax (.bool (aL es a).isSome)] else .ax (.bool (qN ((aL es a).getD z))))
 | .int k=>some ([(aL es a).getD z=.int k (Kb ((aL es a).getD z))],if ok=true then .aK [.ax (.int k (Kb ((aL es a).getD z))),.ax (.bool (aL es a).isSome)] else .ax (.int k (Kb ((aL es a).getD z))))
 | .bH _=>(match z with
  | .agg cz=>(match cz.toList with
   | [.bool _,.int k1 _,.int k2 _]=>some ([(aL es a).getD z=.agg #[.bool (Ru ((aL es a).getD z)),.int k1 (Rv ((aL es a).getD z)),.int k2 (Kf ((aL es a).getD z))]],
     if ok=true then .aK [.agg [.ax (.bool (Ru ((aL es a).getD z))),.ax (.int k1 (Rv ((aL es a).getD z))),.ax (.int k2 (Kf ((aL es a).getD z)))],.ax (.bool (aL es a).isSome)]
     else .agg [.ax (.bool (Ru ((aL es a).getD z))),.ax (.int k1 (Rv ((aL es a).getD z))),.ax (.int k2 (Kf ((aL es a).getD z)))])
   |_=>none)
  |_=>none)
 |_=>none
theorem wR {κ:Type} [DecidableEq κ] {k:TK} {es:List (κ×Value)} {z:Value} {a:κ} {ok:Bool} {cs:List Prop} {r:AV} (h:ug k es z a ok=some (cs,r)) (hc:eA cs):iW es z a ok=r:=by
 unfold ug at h;split at h
 ·simp only[aqq,aqt] at h;obtain⟨rfl,rfl⟩:=h;unfold iW;rw[Kg hc.1]
 ·simp only[aqq,aqt] at h;obtain⟨rfl,rfl⟩:=h;unfold iW;rw[OY hc.1]
 ·split at h
  ·split at h
   ·simp only[aqq,aqt] at h;obtain⟨rfl,rfl⟩:=h;unfold iW;rw[Gd hc.1]
   ·cases h
  ·cases h
 ·cases h
def Ge (size:Nat):List AV->Bool
 | []=>true
 |x::xs=>decide (x.cells.length=size)&&x.nO&&Ge size xs
theorem zn {size:Nat}:∀{l:List AV},Ge size l=true->sT size l
 | [],_=>True.intro
 |x::xs,h=>by
  simp only[Ge,aqv,decide_eq_true_eq] at h;exact⟨h.1,zn h.2⟩
def pv (tab:Nat->Option TD) (hp:List aw) (ρ:Operand->AV):Op->Option (List Prop×AV)
 | .move x=>some ([],ρ x)
 | .assign x=>some ([],ρ x)
 | .nilCheck x=>(match ρ x with
  | .ptr r o=>some ([],.ptr r o)
  | .aW e o=>some ([],.aW e o)
  |_=>none)
 | .pick c x y=>(match ρ c with
  | .ax (.bool t)=>(match t with|true=>some ([],ρ x)|false=>some ([],ρ y))
  |_=>none)
 | .fieldAddr T x f=>(match (fieldsOf tab T)[f]? with
  |some p=>if p.2.1=0 then none else(match ρ x with
   | .ptr r o=>some ([],.ptr r (o+p.1))
   | .aW e o=>some ([],.aW e (o+p.1))
   | .fV r m i z=>if p.1=0 then some ([],.fV r m i z) else none
   |_=>none)
  |none=>none)
 | .load T x=>(match tab T with
  |some d=>(match ρ x with
   | .ptr r o=>(match hp[r]? with
    |some (.box cs)=>(gb d.kind.agg d.size cs o).map fun v=>([],v)
    |_=>none)
   | .aW e o=>(yU d.kind.agg d.size e o).map fun v=>([],v)
   |_=>none)
  |none=>none)
 | .binOp op T x y _=>(match Xn tab T op (ρ x) y with
  |some v=>some ([],v)
  |none=>(match DT tab T op (ρ x) (ρ y) with
   |some v=>some ([],v)
   |none=>OM tab T op (ρ x) (ρ y)))
 | .convert S D x=>(DF tab S D (ρ x)).map fun v=>([],v)
 | .unOp op _ x=>(match op,ρ x with
  | .not,.ax (.bool b)=>some ([],.ax (.bool (!b)))
  | .neg,.ax (.int k n)=>some ([],.ax (.int k (k.wrap (0-n))))
  |_,_=>none)
 | .build T parts=>(match tab T with
  |some d=>(match d.kind with
   | .bH fs=>(dP fs (d.zero.cells.toList.map .ax) (parts.toList.map fun p=>(p.1,ρ p.2))).map fun cs=>([],.agg cs)
   | .arr n=>(dP (yV n) (d.zero.cells.toList.map .ax) (parts.toList.map fun p=>(p.1,ρ p.2))).map fun cs=>([],.agg cs)
   |_=>none)
  |none=>none)
 | .buildSlice T n parts=>(match tab T with
  |some d=>(match d.kind with
   | .lU e=>(match tab e with
    |some d'=>if(n=parts.toList.length/\tV 0 parts.toList=true/\n<=16777216/\n*d'.size<=16777216)/\Ge d'.size (cZ (AV.bU hp) (parts.toList.map fun p=>ρ p.2)).2=true then
      some ((cZ (AV.bU hp) (parts.toList.map fun p=>ρ p.2)).1,.clip (cZ (AV.bU hp) (parts.toList.map fun p=>ρ p.2)).2) else none
    |none=>none)
   |_=>none)
  |none=>none)
 | .slice T x lo hi mx=>(match tab T with
  |some d=>(match d.kind with
   | .lU e=>(match (ρ x).mZ hp,tab e with
    |some (cs,els),some d'=>(match bZ ρ 0 lo,bZ ρ els.length hi,mx.map fun m=>bZ ρ 0 (some m) with
     |some l,some h,none=>some (cs++[0<=l/\l<=h/\h<=els.length/\(∀y:AV,y∈els->y.cells.length=d'.size)],.sl ((els.take h.toNat).drop l.toNat))
     |some l,some h,some (some m)=>if hi.isSome=true then some (cs++[0<=l/\l<=h/\h=m/\h<=els.length/\(∀y:AV,y∈els->y.cells.length=d'.size)],.clip ((els.take h.toNat).drop l.toNat)) else none
     |_,_,_=>none)
    |_,_=>none)
   | .str=>(match ρ x with
    | .ax (.string b)=>(match mx,bZ ρ 0 lo,bZ ρ b.size hi with
     |none,some l,some h=>some ([0<=l/\l<=h/\h<=b.size],.ax (.string (b.extract l.toNat h.toNat)))
     |_,_,_=>none)
    |_=>none)
   |_=>none)
  |none=>none)
 | .field T x f=>(match (fieldsOf tab T)[f]?,ρ x with
  |some p,.agg cs=>if p.2.2=true\/p.2.1=1 then(gb p.2.2 p.2.1 cs p.1).map fun v=>([],v) else none
  |_,_=>none)
 | .lookup T m k ok=>(match tab T,(ρ m).Cn hp,ρ k with
  |some d,some (.i es),.ax (.int .i64 a)=>(match d.kind with
   | .qo kt et=>(match tab kt,tab et with
    |some dk,some de=>(match dk.kind with
     | .int _=>ug de.kind es de.zero a ok
     |_=>none)
    |_,_=>none)
   |_=>none)
  |some d,some (.s es),.ax (.string a)=>(match d.kind with
   | .qo kt et=>(match tab kt,tab et with
    |some dk,some de=>(match dk.kind with
     | .str=>ug de.kind es de.zero a ok
     |_=>none)
    |_,_=>none)
   |_=>none)
  |_,_,_=>none)
 | .index T x i=>(match tab T,ρ x,ρ i with
  |some d,.ax (.string b),.ax (.int _ n)=>(match d.kind with
   | .str=>some ([0<=n/\n<b.size],.ax (.int .u8 (dT b n)))
   |_=>none)
  |_,_,_=>none)
 | .extract x i=>(match ρ x with
  | .aK vs=>(vs[i]?).map fun v=>([],v)
  |_=>none)
 | .makeFunc (.func f) first caps=>if first.size=0 then some ([],.bz f (caps.toList.map ρ)) else if caps.size=0 then some ([],.dm f (first.toList.map ρ)) else none
 | .call c=>(match c.callee,c.args.toList with
  | .builtin .len,[x]=>(match (c.argTypes[0]?).bind tab with
   |some d=>(match d.kind with
    | .lU _=>(match (ρ x).mZ hp with
     |some p=>some (p.1,.ax (.int .i64 p.2.length))
     |none=>(match vL hp (ρ x) with
      |some (_,m,_,_,k)=>some ([m=k],.ax (.int .i64 (m:Nat)))
      |none=>none))
    | .str=>(match ρ x with
     | .ax (.string b)=>some ([],.ax (.int .i64 b.size))
     |_=>none)
    |_=>none)
   |none=>none)
  | .builtin .min,[x,y]=>(match ρ x,ρ y with
   | .ax (.int k m),.ax (.int _ n)=>some ([],.ax (.int k (if n<m then n else m)))
   |_,_=>none)
  | .builtin .max,[x,y]=>(match ρ x,ρ y with
   | .ax (.int k m),.ax (.int _ n)=>some ([],.ax (.int k (if n>m then n else m)))
   |_,_=>none)
  |_,_=>none)
 |_=>none
end Go.Proofs.YtnkjkpmbgoehkaaGreat
