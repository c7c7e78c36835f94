/- Texts of ours laid together for a claim: VcB. -/
import Derived.Test.YtjhanogfpkbamaaGreatDoorQ13
namespace Go.Proofs.YtjhanogfpkbamaaGreatDoor
open Go
set_option linter.unusedSimpArgs false
set_option linter.unusedVariables false
theorem iU {α:Type} {o:Option α} {cs:List Prop} {r:α} (h:o.map (fun v=>(([]:List Prop),v))=some (cs,r)):o=some r:=by
 cases o with
 |none=>cases h
 |some v=>simp only[aiv,Option.some.injEq,Prod.mk.injEq] at h;rw[h.2]
theorem El:∀{l:List Prop},eY l→IP l
 | [],_=>True.intro
 |_::_,h=>⟨h.1,El h.2⟩
theorem XW {az:Nat→Option TD} {hp:List af} {ρ:Operand→AV} {op:Op} {cs:List Prop} {r:AV} (h:pv az hp ρ op=some (cs,r)) (hc:eY cs):∃c,bN az hp ρ op=some (c,r)∧c:=by
 cases op with
 |move x=>simp only[pv,Option.some.injEq,Prod.mk.injEq] at h;exact⟨True,by rw[←h.2];rfl,True.intro⟩
 |assign x=>simp only[pv,Option.some.injEq,Prod.mk.injEq] at h;exact⟨True,by rw[←h.2];rfl,True.intro⟩
 |nilCheck x=>
  simp only[pv] at h
  split at h
  ·rename_i hx
   simp only[Option.some.injEq,Prod.mk.injEq] at h
   exact⟨True,by simp only[bN,hx];rw[←h.2],True.intro⟩
  ·rename_i hx
   simp only[Option.some.injEq,Prod.mk.injEq] at h
   exact⟨True,by simp only[bN,hx];rw[←h.2],True.intro⟩
  ·cases h
 |pick c x y=>
  simp only[pv] at h
  split at h
  ·rename_i t ht
   refine⟨True,?_,True.intro⟩
   simp only[bN,ht]
   cases t<;>simp only[Option.some.injEq,Prod.mk.injEq] at h<;>simp[h.2]
  ·cases h
 |fieldAddr T x f=>
  simp only[pv] at h
  split at h
  ·rename_i p hp'
   split at h
   ·cases h
   ·rename_i h0
    refine⟨True,?_,True.intro⟩
    simp only[bN,hp',if_neg h0]
    split at h
    ·rename_i r' o' hx;simp only[Option.some.injEq,Prod.mk.injEq] at h;simp[hx,h.2]
    ·rename_i r' o' hx;simp only[Option.some.injEq,Prod.mk.injEq] at h;simp[hx,h.2]
    ·rename_i r' m' i' z' hx
     split at h
     ·rename_i hz
      simp only[Option.some.injEq,Prod.mk.injEq] at h
      simp[hx,hz,←h.2]
     ·cases h
    ·cases h
  ·cases h
 |load T x=>
  simp only[pv] at h
  split at h
  ·rename_i d hd
   refine⟨True,?_,True.intro⟩
   simp only[bN,hd]
   split at h
   ·rename_i r' o' hx
    simp only[hx]
    split at h
    ·rename_i iP hb;simp only[hb];rw[iU h];rfl
    ·cases h
   ·rename_i e o' hx
    simp only[hx];rw[iU h];rfl
   ·cases h
  ·cases h
 |binOp bop T x y T'=>
  simp only[pv] at h
  simp only[bN,BF]
  split at h
  ·rename_i v hv
   simp only[Option.some.injEq,Prod.mk.injEq] at h
   obtain⟨rfl,rfl⟩:=h
   rw[hv]
   exact⟨True,rfl,True.intro⟩
  ·rename_i hi
   rw[hi]
   split at h
   ·rename_i v hv
    simp only[Option.some.injEq,Prod.mk.injEq] at h
    obtain⟨rfl,rfl⟩:=h
    rw[HB hv]
    exact⟨True,rfl,True.intro⟩
   ·rw[G3 h,h]
    exact⟨_,rfl,El hc⟩
 |convert S D x=>
  simp only[pv] at h
  refine⟨True,?_,True.intro⟩
  simp only[bN]
  rw[iU h];rfl
 |unOp uop T x=>
  simp only[pv] at h
  refine⟨True,?_,True.intro⟩
  simp only[bN]
  split at h
  ·rename_i b hb;simp only[Option.some.injEq,Prod.mk.injEq] at h;simp[hb,h.2]
  ·rename_i k n hb;simp only[Option.some.injEq,Prod.mk.injEq] at h;simp only[hb,h.2]
  ·cases h
 |build T parts=>
  simp only[pv] at h
  split at h
  ·rename_i d hd
   refine⟨True,?_,True.intro⟩
   simp only[bN,hd]
   split at h
   ·rename_i fs hk
    simp only[hk]
    cases hf:dH fs (d.zero.cells.toList.map .ah) (parts.toList.map fun p=>(p.1,ρ p.2)) with
    |none=>rw[hf] at h;cases h
    |some l=>rw[hf] at h;simp only[aiv,Option.some.injEq,Prod.mk.injEq] at h;simp[h.2]
   ·rename_i n hk
    simp only[hk]
    cases hf:dH (yc n) (d.zero.cells.toList.map .ah) (parts.toList.map fun p=>(p.1,ρ p.2)) with
    |none=>rw[hf] at h;cases h
    |some l=>rw[hf] at h;simp only[aiv,Option.some.injEq,Prod.mk.injEq] at h;simp[h.2]
   ·cases h
  ·cases h
 |buildSlice T n parts=>
  simp only[pv] at h
  split at h
  ·rename_i d hd
   split at h
   ·rename_i e hk
    split at h
    ·rename_i d' eG
     split at h
     ·rename_i r7
      simp only[Option.some.injEq,Prod.mk.injEq] at h
      obtain⟨rfl,rfl⟩:=h
      have hm:=cI (g:=AV.cm hp) (fun x=>dW) (parts.toList.map fun p=>ρ p.2) hc
      simp only[bN,hd,hk,eG,if_pos r7.1]
      refine⟨_,?_,Ek r7.2⟩
      rw[←hm,List.map_map]
      rfl
     ·cases h
    ·cases h
   ·cases h
  ·cases h
 |slice T x lo hi mx=>
  simp only[pv] at h
  split at h
  ·rename_i d hd
   split at h
   ·rename_i e hk
    split at h
    ·rename_i iP els d' hx eG
     split at h
     ·rename_i l h' hl hh hm
      simp only[Option.some.injEq,Prod.mk.injEq] at h
      obtain⟨rfl,rfl⟩:=h
      rw[bT] at hc
      have hs:=gV hx hc.1
      exact⟨_,by simp only[bN,hd,hk,hs,eG,hl,hh,hm],hc.2.1⟩
     ·rename_i l h' m hl hh hm
      split at h
      ·rename_i rJ
       simp only[Option.some.injEq,Prod.mk.injEq] at h
       obtain⟨rfl,rfl⟩:=h
       rw[bT] at hc
       have hs:=gV hx hc.1
       exact⟨_,by simp only[bN,hd,hk,hs,eG,hl,hh,hm,if_pos rJ],hc.2.1⟩
      ·cases h
     ·cases h
    ·cases h
   ·rename_i hk
    split at h
    ·rename_i b hx
     split at h
     ·rename_i l h' hl hh
      simp only[Option.some.injEq,Prod.mk.injEq] at h
      obtain⟨rfl,rfl⟩:=h
      exact⟨_,by simp only[bN,hd,hk,hx,hl,hh],hc.1⟩
     ·cases h
    ·cases h
   ·cases h
  ·cases h
 |field T x f=>
  simp only[pv] at h
  split at h
  ·rename_i p iP hp' hx
   split at h
   ·rename_i r7
    refine⟨True,?_,True.intro⟩
    simp only[bN,hp',hx,if_pos r7]
    rw[iU h];rfl
   ·cases h
  ·cases h
 |lookup T m k ok=>
  simp only[pv] at h
  split at h
  ·rename_i d es a hd hm zW
   split at h
   ·rename_i kt et hk
    split at h
    ·rename_i dk de oT DV
     split at h
     ·rename_i ik xl
      refine⟨True,?_,True.intro⟩
      simp only[bN,hd,hm,zW,hk,oT,DV,xl]
      rw[vJ h hc]
     ·cases h
    ·cases h
   ·cases h
  ·rename_i d es a hd hm zW
   split at h
   ·rename_i kt et hk
    split at h
    ·rename_i dk de oT DV
     split at h
     ·rename_i xl
      refine⟨True,?_,True.intro⟩
      simp only[bN,hd,hm,zW,hk,oT,DV,xl]
      rw[vJ h hc]
     ·cases h
    ·cases h
   ·cases h
  ·cases h
 |index T x i=>
  simp only[pv] at h
  split at h
  ·rename_i d b k n hd hx hi
   split at h
   ·rename_i hk
    simp only[Option.some.injEq,Prod.mk.injEq] at h
    obtain⟨rfl,rfl⟩:=h
    exact⟨_,by simp only[bN,hd,hx,hi,hk],hc.1⟩
   ·cases h
  ·cases h
 |extract x i=>
  simp only[pv] at h
  split at h
  ·rename_i vs hx
   refine⟨True,?_,True.intro⟩
   simp only[bN,hx]
   rw[iU h];rfl
  ·cases h
 |makeFunc fn first caps=>
  cases fn with
  |func f=>
   simp only[pv] at h
   split at h
   ·rename_i r7
    simp only[Option.some.injEq,Prod.mk.injEq] at h
    exact⟨True,by simp only[bN,if_pos r7,h.2],True.intro⟩
   ·rename_i r7
    split at h
    ·rename_i abM
     simp only[Option.some.injEq,Prod.mk.injEq] at h
     exact⟨True,by simp only[bN,if_neg r7,if_pos abM,h.2],True.intro⟩
    ·cases h
  |_=>simp[pv] at h
 |call c=>
  simp only[pv] at h
  split at h
  ·rename_i x hb hl
   split at h
   ·rename_i d hd
    split at h
    ·rename_i e hk
     cases hx:(ρ x).l6 hp with
     |none=>
      rw[hx] at h
      simp only at h
      split at h
      ·rename_i q m e' z k hm
       simp only[Option.some.injEq,Prod.mk.injEq] at h
       obtain⟨rfl,rfl⟩:=h
       obtain⟨hv,els,ry,_⟩:=qJ hm
       refine⟨m=k,?_,hc.1⟩
       have M9:AV.jq hp (.own q m)=none:=by simp only[AV.jq,ry]
       rw[hv] at hm
       simp only[bN,hb,hl,hd,hk,hv,uP,M9,Option.map_none,hm]
      ·cases h
     |some p=>
      rw[hx] at h
      simp only[Option.some.injEq,Prod.mk.injEq] at h
      obtain⟨rfl,rfl⟩:=h
      have hs:=gV (cs:=p.1) (els:=p.2) hx hc
      refine⟨True,?_,True.intro⟩
      simp only[bN,hb,hl,hd,hk]
      cases hv:ρ x with
      |ah v=>
       rw[hv] at hs hx
       cases v with
       |string s=>simp[AV.l6] at hx
       |_=>simp only[uP,hs,aiv]
      |_=>rw[hv] at hs;simp only[uP,hs,aiv]
    ·rename_i hk
     split at h
     ·rename_i b hx
      simp only[Option.some.injEq,Prod.mk.injEq] at h
      exact⟨True,by simp only[bN,hb,hl,hd,hk,hx,h.2],True.intro⟩
     ·cases h
    ·cases h
   ·cases h
  ·rename_i x y hb hl
   split at h
   ·rename_i k m k' n hx hy
    simp only[Option.some.injEq,Prod.mk.injEq] at h
    exact⟨True,by simp only[bN,hb,hl,hx,hy,h.2],True.intro⟩
   ·cases h
  ·rename_i x y hb hl
   split at h
   ·rename_i k m k' n hx hy
    simp only[Option.some.injEq,Prod.mk.injEq] at h
    exact⟨True,by simp only[bN,hb,hl,hx,hy,h.2],True.intro⟩
   ·cases h
  ·cases h
 |_=>simp[pv] at h
def hv (az:Nat→Option TD) (hp:List af) (ρ:Operand→AV):Op→Option (List Prop×AV×List af)
 | .alloc T=>(match az T with
  |some d=>some ([],.ptr hp.length 0,hp++[.box (d.zero.cells.toList.map .ah)])
  |none=>none)
 | .box _ x=>if(ρ x).mN=true then some ([],.ptr hp.length 0,hp++[.box (ρ x).cells]) else none
 | .store T p x=>(match az T,ρ p with
  |some d,.ptr r o=>(match hp[r]? with
   |some (.box cs)=>if(ρ x).mN=true∧(ρ x).cells.length=d.size∧o+d.size≤cs.length then some ([],.top,hp.set r (.box (setCells cs o (ρ x).cells))) else none
   |_=>none)
  |some d,.fY r m i z=>(match hp[r]? with
   |some (.bM e size els)=>if((ρ x).gj hp).2.mN=true∧size=z∧((ρ x).gj hp).2.cells.length=d.size∧d.size≤z then(if d.size=z then some (((ρ x).gj hp).1++[m=els.length,i<els.length],.top,hp.set r (.bM e size (els.set i ((ρ x).gj hp).2)))
     else some (((ρ x).gj hp).1++[m=els.length,i<els.length],.top,hp.set r (.bM e size (els.set i (.agg (setCells (els.getD i .top).cells 0 ((ρ x).gj hp).2.cells)))))) else none
   |_=>none)
  |_,_=>none)
 | .makeSlice T l c=>(match az T with
  |some d=>(match d.kind with
   | .lO e=>(match xp l c with
    |true=>(match az e,ρ c with
     |some d',.ah (.int _ n)=>(match DW d' with
      |some z=>some ([0≤n∧n≤9223372036854775807∧(d'.bytes:Int)*n≤281474976710656],.own hp.length (List.replicate n.toNat (AV.ah z)).length,hp++[.bM e 1 (List.replicate n.toNat (.ah z))])
      |none=>none)
     |_,_=>none)
    |false=>(match az e,ρ l,ρ c with
     |some d',.ah (.int _ 0),.ah (.int _ n)=>if 0<d'.size then some ([0≤n∧n≤9223372036854775807∧(d'.bytes:Int)*n≤281474976710656],.own hp.length ([]:List AV).length,hp++[.row e d'.size []]) else none
     |_,_,_=>none))
   |_=>none)
  |none=>none)
 | .makeMap T none=>(match az T with
  |some d=>(match d.kind with
   | .pQ kt _=>(match az kt with
    |some dk=>(match dk.kind with
     | .str=>some ([],.mp hp.length,hp++[.cQ (.s [])])
     |_=>some ([],.mp hp.length,hp++[.cQ (.i [])]))
    |none=>none)
   |_=>none)
  |none=>none)
 | .mapUpdate T m k x=>(match az T,ρ m,ρ k,ρ x with
  |some d,.mp r,.ah (.int .i64 a),.ah v=>(match d.kind,hp[r]? with
   | .pQ kt _,some (.cQ (.i es))=>(match az kt with
    |some dk=>(match dk.kind with
     | .int _=>some ([],.top,hp.set r (.cQ (.i (dG es a v))))
     |_=>none)
    |none=>none)
   |_,_=>none)
  |some d,.mp r,.ah (.string a),.ah v=>(match d.kind,hp[r]? with
   | .pQ kt _,some (.cQ (.s es))=>(match az kt with
    |some dk=>(match dk.kind with
     | .str=>some ([],.top,hp.set r (.cQ (.s (dG es a v))))
     |_=>none)
    |none=>none)
   |_,_=>none)
  |_,_,_,_=>none)
 | .call c=>(match c.callee,c.args.toList,c.argTypes.toList with
  | .builtin .append,[b,x],[T,T']=>if T=T' then(match az T with
   |some d=>(match d.kind with
    | .lO e=>(match az e,(ρ x).l6 hp with
     |some d',some (cs,aG)=>if 0<d'.size then(match ρ b with
      | .ah (.slice none 0 0)=>some (cs++[bL d' aG.length [] aG],.own hp.length aG.length,hp++[.row e d'.size aG])
      | .clip els=>some (cs++[aG=[]→els=[],bL d' (els++aG).length els aG],.own hp.length (els++aG).length,hp++[.row e d'.size (els++aG)])
      | .own r n=>(match hp[r]? with
       |some (.row e' size els)=>if e'=e∧size=d'.size then some (cs++[n=els.length,bL d' (els++aG).length [] aG],.own r (els++aG).length,hp.set r (.row e size (els++aG))) else none
       |some (.bM e' size els)=>if e'=e∧size=d'.size then some (cs++[n=els.length,bL d' (els++aG).length [] aG],.own r (els++aG).length,hp.set r (.bM e size (els++aG))) else none
       |_=>none)
      |_=>none) else none
     |_,_=>none)
    |_=>none)
   |none=>none) else none
  |_,_,_=>none)
 |_=>none
theorem XX {az:Nat→Option TD} {hp hp':List af} {ρ:Operand→AV} {op:Op} {cs:List Prop} {r:AV} (h:hv az hp ρ op=some (cs,r,hp')) (hc:eY cs):∃c,dV az hp ρ op=some (c,r,hp')∧c:=by
 cases op with
 |alloc T=>
  simp only[hv] at h
  split at h
  ·rename_i d hd
   simp only[Option.some.injEq,Prod.mk.injEq] at h
   obtain⟨_,rfl,rfl⟩:=h
   exact⟨True,by simp only[dV,hd],True.intro⟩
  ·cases h
 |box T x=>
  simp only[hv] at h
  split at h
  ·rename_i r7
   simp only[Option.some.injEq,Prod.mk.injEq] at h
   obtain⟨_,rfl,rfl⟩:=h
   exact⟨True,by simp only[dV,if_pos r7],True.intro⟩
  ·cases h
 |store T p x=>
  simp only[hv] at h
  split at h
  ·rename_i d r' o hd iM
   split at h
   ·rename_i iP hb
    split at h
    ·rename_i r7
     simp only[Option.some.injEq,Prod.mk.injEq] at h
     obtain⟨_,rfl,rfl⟩:=h
     exact⟨_,by simp only[dV,hd,iM,hb,if_pos r7.1],r7.2⟩
    ·cases h
   ·cases h
  ·rename_i d r' m' i' z' hd iM
   split at h
   ·rename_i e' vE mJ hb
    split at h
    ·rename_i r7
     obtain⟨h1,h2,h3,h4⟩:=r7
     split at h
     ·rename_i DN
      simp only[Option.some.injEq,Prod.mk.injEq] at h
      obtain⟨rfl,rfl,rfl⟩:=h
      rw[bT] at hc
      have hdv:=jA hc.1
      refine⟨((ρ x).gj hp).2.cells.length=d.size∧m'=mJ.length∧i' < mJ.length,?_,h3,hc.2.1,hc.2.2.1⟩
      simp only[dV,hd,iM,hb,hdv]
      rw[if_pos ⟨h1,h2⟩,if_pos DN]
     ·rename_i DN
      simp only[Option.some.injEq,Prod.mk.injEq] at h
      obtain⟨rfl,rfl,rfl⟩:=h
      rw[bT] at hc
      have hdv:=jA hc.1
      refine⟨((ρ x).gj hp).2.cells.length=d.size∧d.size≤z'∧m'=mJ.length∧i' < mJ.length,?_,h3,h4,hc.2.1,hc.2.2.1⟩
      simp only[dV,hd,iM,hb,hdv]
      rw[if_pos ⟨h1,h2⟩,if_neg DN]
    ·cases h
   ·cases h
  ·cases h
 |makeSlice T l c=>
  simp only[hv] at h
  split at h
  ·rename_i d hd
   split at h
   ·rename_i e hk
    split at h
    ·rename_i Xo
     split at h
     ·rename_i d' k n eG hcp
      split at h
      ·rename_i z hz
       simp only[Option.some.injEq,Prod.mk.injEq] at h
       obtain⟨rfl,rfl,rfl⟩:=h
       exact⟨0≤n∧n≤9223372036854775807∧(d'.bytes:Int)*n≤281474976710656,by simp only[dV,hd,hk,Xo,eG,hcp,hz],hc.1⟩
      ·cases h
     ·cases h
    rename_i Xo
    split at h
    ·rename_i d' k1 k2 n eG hl hcp
     split at h
     ·rename_i r7
      simp only[Option.some.injEq,Prod.mk.injEq] at h
      obtain⟨rfl,rfl,rfl⟩:=h
      exact⟨0≤n∧n≤9223372036854775807∧(d'.bytes:Int)*n≤281474976710656∧0<d'.size,by simp only[dV,hd,hk,Xo,eG,hl,hcp];rfl,hc.1.1,hc.1.2.1,hc.1.2.2,r7⟩
     ·cases h
    ·cases h
   ·cases h
  ·cases h
 |makeMap T x=>
  cases x with
  |some x=>simp[hv] at h
  |none=>
   simp only[hv] at h
   split at h
   ·rename_i d hd
    split at h
    ·rename_i k e hk
     split at h
     ·rename_i dk oT
      split at h
      ·rename_i xl
       simp only[Option.some.injEq,Prod.mk.injEq] at h
       obtain⟨_,rfl,rfl⟩:=h
       exact⟨True,by simp only[dV,hd,hk,oT,xl],True.intro⟩
      ·rename_i xl
       simp only[Option.some.injEq,Prod.mk.injEq] at h
       obtain⟨_,rfl,rfl⟩:=h
       exact⟨True,by simp only[dV,hd,hk,oT],True.intro⟩
     ·cases h
    ·cases h
   ·cases h
 |mapUpdate T m k x=>
  simp only[hv] at h
  split at h
  ·rename_i d r' a v hd hm hk hx
   split at h
   ·rename_i kt et es zW hb
    split at h
    ·rename_i dk oT
     split at h
     ·rename_i ik xl
      simp only[Option.some.injEq,Prod.mk.injEq] at h
      obtain⟨_,rfl,rfl⟩:=h
      exact⟨True,by simp only[dV,hd,hm,hk,hx,zW,hb,oT,xl],True.intro⟩
     ·cases h
    ·cases h
   ·cases h
  ·rename_i d r' a v hd hm hk hx
   split at h
   ·rename_i kt et es zW hb
    split at h
    ·rename_i dk oT
     split at h
     ·rename_i xl
      simp only[Option.some.injEq,Prod.mk.injEq] at h
      obtain⟨_,rfl,rfl⟩:=h
      exact⟨True,by simp only[dV,hd,hm,hk,hx,zW,hb,oT,xl],True.intro⟩
     ·cases h
    ·cases h
   ·cases h
  ·cases h
 |call c=>
  simp only[hv] at h
  split at h
  ·rename_i b x T T' hb hl hT
   split at h
   ·rename_i Xp
    split at h
    ·rename_i d hd
     split at h
     ·rename_i e hk
      split at h
      ·rename_i d' iP aG eG hx
       split at h
       ·rename_i Em
        split at h
        ·rename_i pV
         simp only[Option.some.injEq,Prod.mk.injEq] at h
         obtain⟨rfl,rfl,rfl⟩:=h
         rw[bT] at hc
         have hs:=gV hx hc.1
         exact⟨0<d'.size∧bL d' aG.length [] aG,by simp only[dV,hb,hl,hT,if_pos Xp,hd,hk,eG,hs,pV],Em,hc.2.1⟩
        ·rename_i els pV
         simp only[Option.some.injEq,Prod.mk.injEq] at h
         obtain⟨rfl,rfl,rfl⟩:=h
         rw[bT] at hc
         have hs:=gV hx hc.1
         refine⟨0<d'.size∧(aG=[]→els=[])∧bL d' (els.length+aG.length) els aG,by simp only[dV,hb,hl,hT,if_pos Xp,hd,hk,eG,hs,pV,ah0],Em,hc.2.1,?_⟩
         have:=hc.2.2.1
         rwa [ah0] at this
        ·rename_i r' n pV
         split at h
         ·rename_i e' size els fZ
          split at h
          ·rename_i r7
           simp only[Option.some.injEq,Prod.mk.injEq] at h
           obtain⟨rfl,rfl,rfl⟩:=h
           rw[bT] at hc
           have hs:=gV hx hc.1
           have hn:=hc.2.1
           refine⟨bL d' (els.length+aG.length) [] aG,by simp only[dV,hb,hl,hT,if_pos Xp,hd,hk,eG,hs,pV,fZ,r7.1,r7.2,hn,and_self,if_true,ah0],?_⟩
           have:=hc.2.2.1
           rwa [ah0] at this
          ·cases h
         ·rename_i e' size els fZ
          split at h
          ·rename_i r7
           simp only[Option.some.injEq,Prod.mk.injEq] at h
           obtain⟨rfl,rfl,rfl⟩:=h
           rw[bT] at hc
           have hs:=gV hx hc.1
           have hn:=hc.2.1
           refine⟨bL d' (els.length+aG.length) [] aG,by simp only[dV,hb,hl,hT,if_pos Xp,hd,hk,eG,hs,pV,fZ,r7.1,r7.2,hn,and_self,if_true,ah0],?_⟩
           have:=hc.2.2.1
           rwa [ah0] at this
          ·cases h
         ·cases h
        ·cases h
       ·cases h
      ·cases h
     ·cases h
    ·cases h
   ·cases h
  ·cases h
 |_=>simp[hv] at h
end Go.Proofs.YtjhanogfpkbamaaGreatDoor
