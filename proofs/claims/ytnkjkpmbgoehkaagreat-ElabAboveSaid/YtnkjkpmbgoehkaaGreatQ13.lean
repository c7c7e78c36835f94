/- Texts of ours laid together for a claim: VcA. -/
import Derived.Test.YtnkjkpmbgoehkaaGreatQ12
namespace Go.Proofs.YtnkjkpmbgoehkaaGreat
open Go
set_option linter.unusedSimpArgs false
set_option linter.unusedVariables false
def fU:List Prop->Prop->Prop
 | [],p=>p
 |c::l,p=>c/\fU l p
def dK:List Prop->Prop
 | []=>True
 |c::l=>c/\dK l
theorem bh {l:List Prop} {p:Prop}:fU l p↔dK l/\p:=by
 induction l with
 |nil=>simp[fU,dK]
 |cons c l ih=>simp only[fU,dK,ih,and_assoc]
theorem bt {l m:List Prop}:dK (l++m)↔dK l/\dK m:=by
 induction l with
 |nil=>simp[dK]
 |cons c l ih=>simp only[amR,dK,ih,and_assoc]
def ag (b:Bool) (x y:Prop):Prop:=
 match b with
 |true=>x
 |false=>y
theorem ag.intro {b:Bool} {x y:Prop} (h1:b=true->x) (h2:b=false->y):ag b x y:=by
 cases b with
 |true=>exact h1 rfl
 |false=>exact h2 rfl
theorem ag.pos {b:Bool} {x y:Prop} (h:b=true) (hx:x):ag b x y:=by subst h;exact hx
theorem ag.neg {b:Bool} {x y:Prop} (h:b=false) (hy:y):ag b x y:=by subst h;exact hy
theorem ag.elim {b:Bool} {x y:Prop} (h:ag b x y):(b=true->x)/\(b=false->y):=by
 cases b with
 |true=>exact⟨fun _=>h,fun h=>(by cases h)⟩
 |false=>exact⟨fun h=>(by cases h),fun _=>h⟩
def oV:Value->Bool
 | .bool b=>b
 |_=>false
def He:Value->Int
 | .int _ n=>n
 |_=>0
def AV.lC (hp:List ab):AV->Option (List Prop×List AV)
 | .sl els=>some ([],els)
 | .clip els=>some ([],els)
 | .ae v=>(match v with | .slice none 0 0=>some ([],[])|_=>none)
 | .own r n=>(match hp[r]? with
  |some (.row _ _ els)=>some ([n=els.length],els)
  |_=>none)
 |_=>none
theorem gd {hp:List ab} {x:AV} {cs:List Prop} {els:List AV} (h:x.lC hp=some (cs,els)) (hc:dK cs):x.gN hp=some els:=by
 cases x with
 |sl l=>simp only[AV.lC,alh,alk] at h;simp[AV.gN,h.2]
 |clip l=>simp only[AV.lC,alh,alk] at h;simp[AV.gN,h.2]
 |ae v=>
  simp only[AV.lC] at h;split at h
  ·simp only[alh,alk] at h;simp[AV.gN,h.2]
  ·cases h
 |own r n=>
  simp only[AV.lC] at h;split at h
  ·rename_i e z l hr;simp only[alh,alk] at h;obtain⟨rfl,rfl⟩:=h;simp only[AV.gN,hr];rw[if_pos hc.1]
  ·cases h
 |_=>simp[AV.lC] at h
def AV.iM (hp:List ab):AV->List Prop×AV
 | .own r n=>(match hp[r]? with
  |some (.row _ _ els)=>([n=els.length],.sl els)
  |_=>([],.top))
 | .sl els=>([],.sl els)
 | .clip els=>([],.sl els)
 | .ae v=>([],match v with | .slice none 0 0=>.sl []|v=>.ae v)
 | .fn v=>([],.fn v)
 | .eY es=>([],.eY es)
 | .aJ e o=>([],.aJ e o)
 | .bf f caps=>([],match caps with | []=>.bf f []|_=>.top)
 |_=>([],.top)
theorem kn {hp:List ab} {x:AV} (hc:dK (x.iM hp).1):x.dQ hp=(x.iM hp).2:=by
 cases x with
 |own r n=>
  simp only[AV.iM,AV.dQ,AV.gN] at hc ⊢
  cases hr:hp[r]? with
  |none=>rfl
  |some o=>
   cases o with
   |row e z l=>
    simp only[hr,dK] at hc ⊢;rw[if_pos hc.1]
   |_=>rfl
 |_=>rfl
def ct (f:AV->List Prop×AV):List AV->List Prop×List AV
 | []=>([],[])
 |x::l=>((f x).1++(ct f l).1,(f x).2::(ct f l).2)
theorem bP {f:AV->List Prop×AV} {g:AV->AV} (h:∀x,dK (f x).1->g x=(f x).2):∀l,dK (ct f l).1->l.map g=(ct f l).2
 | [],_=>rfl
 |x::l,hc=>by
  simp only[ct,bt] at hc ⊢;rw[alQ,h x hc.1,bP h l hc.2]
def AV.fL (hp:List ab):AV->List Prop×AV
 | .agg cs=>((ct (AV.iM hp) cs).1,.agg (ct (AV.iM hp) cs).2)
 |x=>x.iM hp
theorem iN {hp:List ab} {x:AV} (hc:dK (x.fL hp).1):x.fe hp=(x.fL hp).2:=by
 cases x with
 |agg cs=>simp only[AV.fL,AV.fe] at hc ⊢;rw[bP (fun x=>kn) _ hc]
 |_=>exact kn hc
def AV.bA (hp:List ab):AV->List Prop×AV
 | .av cs=>((ct (AV.fL hp) cs).1,.av (ct (AV.fL hp) cs).2)
 | .bf f cs=>((ct (AV.fL hp) cs).1,.bf f (ct (AV.fL hp) cs).2)
 |x=>x.fL hp
theorem cK {hp:List ab} {x:AV} (hc:dK (x.bA hp).1):x.bl hp=(x.bA hp).2:=by
 cases x with
 |av cs=>simp only[AV.bA,AV.bl] at hc ⊢;rw[bP (fun x=>iN) _ hc]
 |bf f cs=>simp only[AV.bA,AV.bl] at hc ⊢;rw[bP (fun x=>iN) _ hc]
 |_=>exact iN hc
def Bl (op:BinOp) (k:IntKind) (a b:Int):Option AV:=
 match op with
 | .add=>some (.ae (.int k (k.wrap (a+b))))
 | .sub=>some (.ae (.int k (k.wrap (a-b))))
 | .mul=>some (.ae (.int k (k.wrap (a*b))))
 | .eql=>some (.ae (.bool (a==b)))
 | .neq=>some (.ae (.bool (a != b)))
 | .lss=>some (.ae (.bool (decide (a<b))))
 | .leq=>some (.ae (.bool (decide (a<=b))))
 | .gtr=>some (.ae (.bool (decide (a>b))))
 | .geq=>some (.ae (.bool (decide (a>=b))))
 |_=>none
theorem Hf {op:BinOp} {k:IntKind} {a b:Int} {r:AV} (h:Bl op k a b=some r):A6 op k a b=some (True,r):=by
 cases op<;>simp only[Bl,alh] at h<;>first|(subst h;rfl)|cases h
def Bm (tab:Nat->Option TD) (T:Nat) (op:BinOp) (x y:AV):Option AV:=
 match x,y with
 | .ae (.int k a),.ae (.int k' b)=>if k=k' then Bl op k a b else none
 | .ae (.bool a),.ae (.bool b)=>
  (match tab T with
   |some d=>(match d.kind,op with
    | .bool,.eql=>some (.ae (.bool (a==b)))
    | .bool,.neq=>some (.ae (.bool (!(a==b))))
    |_,_=>none)
   |none=>none)
 | .agg [.ae (.int .i64 a1),.ae (.int .i64 a2)],.agg [.ae (.int .i64 b1),.ae (.int .i64 b2)]=>
  (match tab T with
   |some d=>if d.flat then(match op with
    | .eql=>some (.ae (.bool (a1==b1&&a2==b2)))
    | .neq=>some (.ae (.bool (!(a1==b1&&a2==b2))))
    |_=>none) else none
   |none=>none)
 | .agg [.ae (.int .i64 a0),.ae (.int .i64 a1),.ae (.int .i64 a2),.ae (.string s)],.agg [.ae (.int .i64 b0),.ae (.int .i64 b1),.ae (.int .i64 b2),.ae (.string t)]=>
  (match tab T with
   |some d=>if d.four then(match op with
    | .eql=>some (.ae (.bool (a0==b0&&((a1==b1&&a2==b2)&&s.toList==t.toList))))
    | .neq=>some (.ae (.bool (!(a0==b0&&((a1==b1&&a2==b2)&&s.toList==t.toList)))))
    |_=>none) else none
   |none=>none)
 |_,_=>none
theorem Hg {tab:Nat->Option TD} {T:Nat} {op:BinOp} {x y r:AV} (h:Bm tab T op x y=some r):jw tab T op x y=some (True,r):=by
 unfold Bm at h;split at h
 ·split at h
  ·rename_i hk;subst hk;simp only[jw,if_true];exact Hf h
  ·cases h
 ·split at h
  ·rename_i d hd;simp only[jw,hd];split at h
   ·rename_i hk;simp only[hk];obtain rfl:=alj h;rfl
   ·rename_i hk;simp only[hk];obtain rfl:=alj h;rfl
   ·cases h
  ·cases h
 ·split at h
  ·rename_i d hd;simp only[jw,hd];split at h
   ·rename_i hf;simp only[hf,if_true];split at h
    ·obtain rfl:=alj h;rfl
    ·obtain rfl:=alj h;rfl
    ·cases h
   ·cases h
  ·cases h
 ·split at h
  ·rename_i d hd;simp only[jw,hd];split at h
   ·rename_i hf;simp only[hf,if_true];split at h
    ·obtain rfl:=alj h;rfl
    ·obtain rfl:=alj h;rfl
    ·cases h
   ·cases h
  ·cases h
 ·cases h
def NH:Value->Nat->Value
 | .agg cs,i=>cs.toList.getD i undef
 |_,_=>undef
def NI (v:Value):Bool:=oV (NH v 0)
def NJ (v:Value):Int:=He (NH v 1)
def Hh (v:Value):Int:=He (NH v 2)
def p6:Value:=.agg #[.bool false,.int .i64 0,.int .i64 0]
theorem Hi {v:Value} (h:v=.bool (oV v)):uB v=.ae (.bool (oV v)):=by
 cases v<;>first|rfl|cases h
theorem K3 {v:Value} {k:IntKind} (h:v=.int k (He v)):uB v=.ae (.int k (He v)):=by
 cases v<;>first|(cases h;rfl)|cases h
theorem Dw {v:Value} {k1 k2:IntKind} {b:Bool} {m n:Int} (h:v=.agg #[.bool b,.int k1 m,.int k2 n]):uB v=.agg [.ae (.bool b),.ae (.int k1 m),.ae (.int k2 n)]:=by
 subst h;rfl
def r8 {κ:Type} [DecidableEq κ] (k:TK) (es:List (κ×Value)) (z:Value) (a:κ) (ok:Bool):Option (List Prop×AV):=
 match k with
 | .bool=>some ([(au es a).getD z=.bool (oV ((au es a).getD z))],if ok=true then .av [.ae (.bool (oV ((au es a).getD z))),.ae (.bool (au es a).isSome)] else .ae (.bool (oV ((au es a).getD z))))
 | .int k=>some ([(au es a).getD z=.int k (He ((au es a).getD z))],if ok=true then .av [.ae (.int k (He ((au es a).getD z))),.ae (.bool (au es a).isSome)] else .ae (.int k (He ((au es a).getD z))))
 | .bj _=>(match z with
  | .agg cz=>(match cz.toList with
   | [.bool _,.int k1 _,.int k2 _]=>some ([(au es a).getD z=.agg #[.bool (NI ((au es a).getD z)),.int k1 (NJ ((au es a).getD z)),.int k2 (Hh ((au es a).getD z))]],
     if ok=true then .av [.agg [.ae (.bool (NI ((au es a).getD z))),.ae (.int k1 (NJ ((au es a).getD z))),.ae (.int k2 (Hh ((au es a).getD z)))],.ae (.bool (au es a).isSome)]
     else .agg [.ae (.bool (NI ((au es a).getD z))),.ae (.int k1 (NJ ((au es a).getD z))),.ae (.int k2 (Hh ((au es a).getD z)))])
   |_=>none)
  |_=>none)
 |_=>none
theorem uK {κ:Type} [DecidableEq κ] {k:TK} {es:List (κ×Value)} {z:Value} {a:κ} {ok:Bool} {cs:List Prop} {r:AV} (h:r8 k es z a ok=some (cs,r)) (hc:dK cs):gP es z a ok=r:=by
 unfold r8 at h;split at h
 ·simp only[alh,alk] at h;obtain⟨rfl,rfl⟩:=h;unfold gP;rw[Hi hc.1]
 ·simp only[alh,alk] at h;obtain⟨rfl,rfl⟩:=h;unfold gP;rw[K3 hc.1]
 ·split at h
  ·split at h
   ·simp only[alh,alk] at h;obtain⟨rfl,rfl⟩:=h;unfold gP;rw[Dw hc.1]
   ·cases h
  ·cases h
 ·cases h
def Dx (size:Nat):List AV->Bool
 | []=>true
 |x::xs=>decide (x.cells.length=size)&&x.mm&&Dx size xs
theorem w8 {size:Nat}:∀{l:List AV},Dx size l=true->qV size l
 | [],_=>True.intro
 |x::xs,h=>by
  simp only[Dx,aln,decide_eq_true_eq] at h;exact⟨h.1,w8 h.2⟩
def pv (tab:Nat->Option TD) (hp:List ab) (ρ:Operand->AV):Op->Option (List Prop×AV)
 | .move x=>some ([],ρ x)
 | .assign x=>some ([],ρ x)
 | .nilCheck x=>(match ρ x with
  | .ptr r o=>some ([],.ptr r o)
  | .aJ e o=>some ([],.aJ e o)
  |_=>none)
 | .pick c x y=>(match ρ c with
  | .ae (.bool t)=>(match t with|true=>some ([],ρ x)|false=>some ([],ρ y))
  |_=>none)
 | .fieldAddr T x f=>(match (fieldsOf tab T)[f]? with
  |some p=>if p.2.1=0 then none else(match ρ x with
   | .ptr r o=>some ([],.ptr r (o+p.1))
   | .aJ e o=>some ([],.aJ e (o+p.1))
   | .fq r m i z=>if p.1=0 then some ([],.fq r m i z) else none
   |_=>none)
  |none=>none)
 | .load T x=>(match tab T with
  |some d=>(match ρ x with
   | .ptr r o=>(match hp[r]? with
    |some (.box cs)=>(fx d.kind.agg d.size cs o).map fun v=>([],v)
    |_=>none)
   | .aJ e o=>(wH d.kind.agg d.size e o).map fun v=>([],v)
   |_=>none)
  |none=>none)
 | .binOp op T x y _=>(match Tc tab T op (ρ x) y with
  |some v=>some ([],v)
  |none=>(match Bm tab T op (ρ x) (ρ y) with
   |some v=>some ([],v)
   |none=>KS tab T op (ρ x) (ρ y)))
 | .convert S D x=>(A9 tab S D (ρ x)).map fun v=>([],v)
 | .unOp op _ x=>(match op,ρ x with
  | .not,.ae (.bool b)=>some ([],.ae (.bool (!b)))
  | .neg,.ae (.int k n)=>some ([],.ae (.int k (k.wrap (0-n))))
  |_,_=>none)
 | .build T parts=>(match tab T with
  |some d=>(match d.kind with
   | .bj fs=>(da fs (d.zero.cells.toList.map .ae) (parts.toList.map fun p=>(p.1,ρ p.2))).map fun cs=>([],.agg cs)
   | .arr n=>(da (wI n) (d.zero.cells.toList.map .ae) (parts.toList.map fun p=>(p.1,ρ p.2))).map fun cs=>([],.agg cs)
   |_=>none)
  |none=>none)
 | .buildSlice T n parts=>(match tab T with
  |some d=>(match d.kind with
   | .kC e=>(match tab e with
    |some d'=>if(n=parts.toList.length/\rT 0 parts.toList=true/\n<=16777216/\n*d'.size<=16777216)/\Dx d'.size (ct (AV.bA hp) (parts.toList.map fun p=>ρ p.2)).2=true then
      some ((ct (AV.bA hp) (parts.toList.map fun p=>ρ p.2)).1,.clip (ct (AV.bA hp) (parts.toList.map fun p=>ρ p.2)).2) else none
    |none=>none)
   |_=>none)
  |none=>none)
 | .slice T x lo hi mx=>(match tab T with
  |some d=>(match d.kind with
   | .kC e=>(match (ρ x).lC hp,tab e with
    |some (cs,els),some d'=>(match bI ρ 0 lo,bI ρ els.length hi,mx.map fun m=>bI ρ 0 (some m) with
     |some l,some h,none=>some (cs++[0<=l/\l<=h/\h<=els.length/\(∀y:AV,y∈els->y.cells.length=d'.size)],.sl ((els.take h.toNat).drop l.toNat))
     |some l,some h,some (some m)=>if hi.isSome=true then some (cs++[0<=l/\l<=h/\h=m/\h<=els.length/\(∀y:AV,y∈els->y.cells.length=d'.size)],.clip ((els.take h.toNat).drop l.toNat)) else none
     |_,_,_=>none)
    |_,_=>none)
   | .str=>(match ρ x with
    | .ae (.string b)=>(match mx,bI ρ 0 lo,bI ρ b.size hi with
     |none,some l,some h=>some ([0<=l/\l<=h/\h<=b.size],.ae (.string (b.extract l.toNat h.toNat)))
     |_,_,_=>none)
    |_=>none)
   |_=>none)
  |none=>none)
 | .field T x f=>(match (fieldsOf tab T)[f]?,ρ x with
  |some p,.agg cs=>if p.2.2=true\/p.2.1=1 then(fx p.2.2 p.2.1 cs p.1).map fun v=>([],v) else none
  |_,_=>none)
 | .lookup T m k ok=>(match tab T,(ρ m).zW hp,ρ k with
  |some d,some (.i es),.ae (.int .i64 a)=>(match d.kind with
   | .oy kt et=>(match tab kt,tab et with
    |some dk,some de=>(match dk.kind with
     | .int _=>r8 de.kind es de.zero a ok
     |_=>none)
    |_,_=>none)
   |_=>none)
  |some d,some (.s es),.ae (.string a)=>(match d.kind with
   | .oy kt et=>(match tab kt,tab et with
    |some dk,some de=>(match dk.kind with
     | .str=>r8 de.kind es de.zero a ok
     |_=>none)
    |_,_=>none)
   |_=>none)
  |_,_,_=>none)
 | .index T x i=>(match tab T,ρ x,ρ i with
  |some d,.ae (.string b),.ae (.int _ n)=>(match d.kind with
   | .str=>some ([0<=n/\n<b.size],.ae (.int .u8 (dm b n)))
   |_=>none)
  |_,_,_=>none)
 | .extract x i=>(match ρ x with
  | .av vs=>(vs[i]?).map fun v=>([],v)
  |_=>none)
 | .makeFunc (.func f) first caps=>if first.size=0 then some ([],.bf f (caps.toList.map ρ)) else if caps.size=0 then some ([],.cB f (first.toList.map ρ)) else none
 | .call c=>(match c.callee,c.args.toList with
  | .builtin .len,[x]=>(match (c.argTypes[0]?).bind tab with
   |some d=>(match d.kind with
    | .kC _=>(match (ρ x).lC hp with
     |some p=>some (p.1,.ae (.int .i64 p.2.length))
     |none=>(match tK hp (ρ x) with
      |some (_,m,_,_,k)=>some ([m=k],.ae (.int .i64 (m:Nat)))
      |none=>none))
    | .str=>(match ρ x with
     | .ae (.string b)=>some ([],.ae (.int .i64 b.size))
     |_=>none)
    |_=>none)
   |none=>none)
  | .builtin .min,[x,y]=>(match ρ x,ρ y with
   | .ae (.int k m),.ae (.int _ n)=>some ([],.ae (.int k (if n<m then n else m)))
   |_,_=>none)
  | .builtin .max,[x,y]=>(match ρ x,ρ y with
   | .ae (.int k m),.ae (.int _ n)=>some ([],.ae (.int k (if n>m then n else m)))
   |_,_=>none)
  |_,_=>none)
 |_=>none
end Go.Proofs.YtnkjkpmbgoehkaaGreat
