/- Texts of ours laid together for a claim: VcB. -/
import Derived.Test.YtdcikhleahfknaaGreatDoorQ13
namespace Go.Proofs.YtdcikhleahfknaaGreatDoor
open Go
set_option linter.unusedSimpArgs false
set_option linter.unusedVariables false
theorem fD {α:Type} {o:Option α} {cs:List Prop} {r:α} (h:o.map (fun v=>(([]:List Prop),v))=some (cs,r)):o=some r:=by
 cases o with
 |none=>cases h
 |some v=>simp only[Option.map_some,Option.some.injEq,Prod.mk.injEq] at h;rw[h.2]
theorem zP:∀{l:List Prop},dw l→El l
 | [],_=>True.intro
 |_::_,h=>⟨h.1,zP h.2⟩
theorem Sk {tab:Nat→Option TD} {hp:List af} {ρ:Operand→AV} {op:Op} {cs:List Prop} {r:AV} (h:pv tab hp ρ op=some (cs,r)) (hc:dw cs):∃c,bk tab hp ρ op=some (c,r)∧c:=by
 cases op with
 |move x=>simp only[pv,Option.some.injEq,Prod.mk.injEq] at h;exact⟨True,by rw[←h.2];rfl,True.intro⟩
 |assign x=>simp only[pv,Option.some.injEq,Prod.mk.injEq] at h;exact⟨True,by rw[←h.2];rfl,True.intro⟩
 |nilCheck x=>
  simp only[pv] at h
  split at h
  ·rename_i hx
   simp only[Option.some.injEq,Prod.mk.injEq] at h
   exact⟨True,by simp only[bk,hx];rw[←h.2],True.intro⟩
  ·rename_i hx
   simp only[Option.some.injEq,Prod.mk.injEq] at h
   exact⟨True,by simp only[bk,hx];rw[←h.2],True.intro⟩
  ·cases h
 |pick c x y=>
  simp only[pv] at h
  split at h
  ·rename_i t ht
   refine⟨True,?_,True.intro⟩
   simp only[bk,ht]
   cases t<;>simp only[Option.some.injEq,Prod.mk.injEq] at h<;>simp[h.2]
  ·cases h
 |fieldAddr T x f=>
  simp only[pv] at h
  split at h
  ·rename_i p hp'
   split at h
   ·cases h
   ·rename_i h0
    refine⟨True,?_,True.intro⟩
    simp only[bk,hp',if_neg h0]
    split at h
    ·rename_i r' o' hx;simp only[Option.some.injEq,Prod.mk.injEq] at h;simp[hx,h.2]
    ·rename_i r' o' hx;simp only[Option.some.injEq,Prod.mk.injEq] at h;simp[hx,h.2]
    ·rename_i r' m' i' z' hx
     split at h
     ·rename_i hz
      simp only[Option.some.injEq,Prod.mk.injEq] at h
      simp[hx,hz,←h.2]
     ·cases h
    ·cases h
  ·cases h
 |load T x=>
  simp only[pv] at h
  split at h
  ·rename_i d hd
   refine⟨True,?_,True.intro⟩
   simp only[bk,hd]
   split at h
   ·rename_i r' o' hx
    simp only[hx]
    split at h
    ·rename_i cs' hb;simp only[hb];rw[fD h];rfl
    ·cases h
   ·rename_i e o' hx
    simp only[hx];rw[fD h];rfl
   ·cases h
  ·cases h
 |binOp VF T x y T'=>
  simp only[pv] at h
  simp only[bk,xj]
  split at h
  ·rename_i v hv
   simp only[Option.some.injEq,Prod.mk.injEq] at h
   obtain⟨rfl,rfl⟩:=h
   rw[hv]
   exact⟨True,rfl,True.intro⟩
  ·rename_i hi
   rw[hi]
   split at h
   ·rename_i v hv
    simp only[Option.some.injEq,Prod.mk.injEq] at h
    obtain⟨rfl,rfl⟩:=h
    rw[CS hv]
    exact⟨True,rfl,True.intro⟩
   ·rw[Cr h,h]
    exact⟨_,rfl,zP hc⟩
 |convert S D x=>
  simp only[pv] at h
  refine⟨True,?_,True.intro⟩
  simp only[bk]
  rw[fD h];rfl
 |unOp uop T x=>
  simp only[pv] at h
  refine⟨True,?_,True.intro⟩
  simp only[bk]
  split at h
  ·rename_i b hb;simp only[Option.some.injEq,Prod.mk.injEq] at h;simp[hb,h.2]
  ·rename_i k n hb;simp only[Option.some.injEq,Prod.mk.injEq] at h;simp only[hb,h.2]
  ·cases h
 |build T parts=>
  simp only[pv] at h
  split at h
  ·rename_i d hd
   refine⟨True,?_,True.intro⟩
   simp only[bk,hd]
   split at h
   ·rename_i fs hk
    simp only[hk]
    cases hf:cB fs (d.zero.cells.toList.map .ae) (parts.toList.map fun p=>(p.1,ρ p.2)) with
    |none=>rw[hf] at h;cases h
    |some l=>rw[hf] at h;simp only[Option.map_some,Option.some.injEq,Prod.mk.injEq] at h;simp[h.2]
   ·rename_i n hk
    simp only[hk]
    cases hf:cB (tm n) (d.zero.cells.toList.map .ae) (parts.toList.map fun p=>(p.1,ρ p.2)) with
    |none=>rw[hf] at h;cases h
    |some l=>rw[hf] at h;simp only[Option.map_some,Option.some.injEq,Prod.mk.injEq] at h;simp[h.2]
   ·cases h
  ·cases h
 |buildSlice T n parts=>
  simp only[pv] at h
  split at h
  ·rename_i d hd
   split at h
   ·rename_i e hk
    split at h
    ·rename_i d' cM
     split at h
     ·rename_i nR
      simp only[Option.some.injEq,Prod.mk.injEq] at h
      obtain⟨rfl,rfl⟩:=h
      have hm:=bI (g:=AV.bh hp) (fun x=>cE) (parts.toList.map fun p=>ρ p.2) hc
      simp only[bk,hd,hk,cM,if_pos nR.1]
      refine⟨_,?_,tN nR.2⟩
      rw[←hm,List.map_map]
      rfl
     ·cases h
    ·cases h
   ·cases h
  ·cases h
 |slice T x lo hi mx=>
  simp only[pv] at h
  split at h
  ·rename_i d hd
   split at h
   ·rename_i e hk
    split at h
    ·rename_i cs' els d' hx cM
     split at h
     ·rename_i l h' hl hh hm
      simp only[Option.some.injEq,Prod.mk.injEq] at h
      obtain⟨rfl,rfl⟩:=h
      rw[bq] at hc
      have hs:=eM hx hc.1
      exact⟨_,by simp only[bk,hd,hk,hs,cM,hl,hh,hm],hc.2.1⟩
     ·rename_i l h' m hl hh hm
      split at h
      ·rename_i n6
       simp only[Option.some.injEq,Prod.mk.injEq] at h
       obtain⟨rfl,rfl⟩:=h
       rw[bq] at hc
       have hs:=eM hx hc.1
       exact⟨_,by simp only[bk,hd,hk,hs,cM,hl,hh,hm,if_pos n6],hc.2.1⟩
      ·cases h
     ·cases h
    ·cases h
   ·rename_i hk
    split at h
    ·rename_i b hx
     split at h
     ·rename_i l h' hl hh
      simp only[Option.some.injEq,Prod.mk.injEq] at h
      obtain⟨rfl,rfl⟩:=h
      exact⟨_,by simp only[bk,hd,hk,hx,hl,hh],hc.1⟩
     ·cases h
    ·cases h
   ·cases h
  ·cases h
 |field T x f=>
  simp only[pv] at h
  split at h
  ·rename_i p cs' hp' hx
   split at h
   ·rename_i nR
    refine⟨True,?_,True.intro⟩
    simp only[bk,hp',hx,if_pos nR]
    rw[fD h];rfl
   ·cases h
  ·cases h
 |lookup T m k ok=>
  simp only[pv] at h
  split at h
  ·rename_i d es a hd hm vk
   split at h
   ·rename_i kt et hk
    split at h
    ·rename_i dk de lJ zu
     split at h
     ·rename_i ik sI
      refine⟨True,?_,True.intro⟩
      simp only[bk,hd,hm,vk,hk,lJ,zu,sI]
      rw[ru h hc]
     ·cases h
    ·cases h
   ·cases h
  ·rename_i d es a hd hm vk
   split at h
   ·rename_i kt et hk
    split at h
    ·rename_i dk de lJ zu
     split at h
     ·rename_i sI
      refine⟨True,?_,True.intro⟩
      simp only[bk,hd,hm,vk,hk,lJ,zu,sI]
      rw[ru h hc]
     ·cases h
    ·cases h
   ·cases h
  ·cases h
 |index T x i=>
  simp only[pv] at h
  split at h
  ·rename_i d b k n hd hx hi
   split at h
   ·rename_i hk
    simp only[Option.some.injEq,Prod.mk.injEq] at h
    obtain⟨rfl,rfl⟩:=h
    exact⟨_,by simp only[bk,hd,hx,hi,hk],hc.1⟩
   ·cases h
  ·cases h
 |extract x i=>
  simp only[pv] at h
  split at h
  ·rename_i vs hx
   refine⟨True,?_,True.intro⟩
   simp only[bk,hx]
   rw[fD h];rfl
  ·cases h
 |makeFunc fn first caps=>
  cases fn with
  |func f=>
   simp only[pv] at h
   split at h
   ·rename_i nR
    simp only[Option.some.injEq,Prod.mk.injEq] at h
    exact⟨True,by simp only[bk,if_pos nR,h.2],True.intro⟩
   ·rename_i nR
    split at h
    ·rename_i Wt
     simp only[Option.some.injEq,Prod.mk.injEq] at h
     exact⟨True,by simp only[bk,if_neg nR,if_pos Wt,h.2],True.intro⟩
    ·cases h
  |_=>simp[pv] at h
 |call c=>
  simp only[pv] at h
  split at h
  ·rename_i x hb hl
   split at h
   ·rename_i d hd
    split at h
    ·rename_i e hk
     cases hx:(ρ x).jm hp with
     |none=>
      rw[hx] at h
      simp only at h
      split at h
      ·rename_i q m e' z k hm
       simp only[Option.some.injEq,Prod.mk.injEq] at h
       obtain⟨rfl,rfl⟩:=h
       obtain⟨hv,els,nQ,_⟩:=nu hm
       refine⟨m=k,?_,hc.1⟩
       have FU:AV.fq hp (.own q m)=none:=by simp only[AV.fq,nQ]
       rw[hv] at hm
       simp only[bk,hb,hl,hd,hk,hv,qC,FU,Option.map_none,hm]
      ·cases h
     |some p=>
      rw[hx] at h
      simp only[Option.some.injEq,Prod.mk.injEq] at h
      obtain⟨rfl,rfl⟩:=h
      have hs:=eM (cs:=p.1) (els:=p.2) hx hc
      refine⟨True,?_,True.intro⟩
      simp only[bk,hb,hl,hd,hk]
      cases hv:ρ x with
      |ae v=>
       rw[hv] at hs hx
       cases v with
       |string s=>simp[AV.jm] at hx
       |_=>simp only[qC,hs,Option.map_some]
      |_=>rw[hv] at hs;simp only[qC,hs,Option.map_some]
    ·rename_i hk
     split at h
     ·rename_i b hx
      simp only[Option.some.injEq,Prod.mk.injEq] at h
      exact⟨True,by simp only[bk,hb,hl,hd,hk,hx,h.2],True.intro⟩
     ·cases h
    ·cases h
   ·cases h
  ·rename_i x y hb hl
   split at h
   ·rename_i k m k' n hx hy
    simp only[Option.some.injEq,Prod.mk.injEq] at h
    exact⟨True,by simp only[bk,hb,hl,hx,hy,h.2],True.intro⟩
   ·cases h
  ·rename_i x y hb hl
   split at h
   ·rename_i k m k' n hx hy
    simp only[Option.some.injEq,Prod.mk.injEq] at h
    exact⟨True,by simp only[bk,hb,hl,hx,hy,h.2],True.intro⟩
   ·cases h
  ·cases h
 |_=>simp[pv] at h
def hv (tab:Nat→Option TD) (hp:List af) (ρ:Operand→AV):Op→Option (List Prop×AV×List af)
 | .alloc T=>(match tab T with
  |some d=>some ([],.ptr hp.length 0,hp++[.box (d.zero.cells.toList.map .ae)])
  |none=>none)
 | .box _ x=>if(ρ x).jV=true then some ([],.ptr hp.length 0,hp++[.box (ρ x).cells]) else none
 | .store T p x=>(match tab T,ρ p with
  |some d,.ptr r o=>(match hp[r]? with
   |some (.box cs)=>if(ρ x).jV=true∧(ρ x).cells.length=d.size∧o+d.size≤cs.length then some ([],.top,hp.set r (.box (setCells cs o (ρ x).cells))) else none
   |_=>none)
  |some d,.ea r m i z=>(match hp[r]? with
   |some (.aF e size els)=>if((ρ x).ef hp).2.jV=true∧size=z∧((ρ x).ef hp).2.cells.length=d.size∧d.size≤z then(if d.size=z then some (((ρ x).ef hp).1++[m=els.length,i<els.length],.top,hp.set r (.aF e size (els.set i ((ρ x).ef hp).2)))
     else some (((ρ x).ef hp).1++[m=els.length,i<els.length],.top,hp.set r (.aF e size (els.set i (.agg (setCells (els.getD i .top).cells 0 ((ρ x).ef hp).2.cells)))))) else none
   |_=>none)
  |_,_=>none)
 | .makeSlice T l c=>(match tab T with
  |some d=>(match d.kind with
   | .iu e=>(match sJ l c with
    |true=>(match tab e,ρ c with
     |some d',.ae (.int _ n)=>(match zv d' with
      |some z=>some ([0≤n∧n≤9223372036854775807∧(d'.bytes:Int)*n≤281474976710656],.own hp.length (List.replicate n.toNat (AV.ae z)).length,hp++[.aF e 1 (List.replicate n.toNat (.ae z))])
      |none=>none)
     |_,_=>none)
    |false=>(match tab e,ρ l,ρ c with
     |some d',.ae (.int _ 0),.ae (.int _ n)=>if 0<d'.size then some ([0≤n∧n≤9223372036854775807∧(d'.bytes:Int)*n≤281474976710656],.own hp.length ([]:List AV).length,hp++[.row e d'.size []]) else none
     |_,_,_=>none))
   |_=>none)
  |none=>none)
 | .makeMap T none=>(match tab T with
  |some d=>(match d.kind with
   | .l5 kt _=>(match tab kt with
    |some dk=>(match dk.kind with
     | .str=>some ([],.mp hp.length,hp++[.aP (.s [])])
     |_=>some ([],.mp hp.length,hp++[.aP (.i [])]))
    |none=>none)
   |_=>none)
  |none=>none)
 | .mapUpdate T m k x=>(match tab T,ρ m,ρ k,ρ x with
  |some d,.mp r,.ae (.int .i64 a),.ae v=>(match d.kind,hp[r]? with
   | .l5 kt _,some (.aP (.i es))=>(match tab kt with
    |some dk=>(match dk.kind with
     | .int _=>some ([],.top,hp.set r (.aP (.i (bK es a v))))
     |_=>none)
    |none=>none)
   |_,_=>none)
  |some d,.mp r,.ae (.string a),.ae v=>(match d.kind,hp[r]? with
   | .l5 kt _,some (.aP (.s es))=>(match tab kt with
    |some dk=>(match dk.kind with
     | .str=>some ([],.top,hp.set r (.aP (.s (bK es a v))))
     |_=>none)
    |none=>none)
   |_,_=>none)
  |_,_,_,_=>none)
 | .call c=>(match c.callee,c.args.toList,c.argTypes.toList with
  | .builtin .append,[b,x],[T,T']=>if T=T' then(match tab T with
   |some d=>(match d.kind with
    | .iu e=>(match tab e,(ρ x).jm hp with
     |some d',some (cs,av)=>if 0<d'.size then(match ρ b with
      | .ae (.slice none 0 0)=>some (cs++[bz d' av.length [] av],.own hp.length av.length,hp++[.row e d'.size av])
      | .clip els=>some (cs++[av=[]→els=[],bz d' (els++av).length els av],.own hp.length (els++av).length,hp++[.row e d'.size (els++av)])
      | .own r n=>(match hp[r]? with
       |some (.row e' size els)=>if e'=e∧size=d'.size then some (cs++[n=els.length,bz d' (els++av).length [] av],.own r (els++av).length,hp.set r (.row e size (els++av))) else none
       |some (.aF e' size els)=>if e'=e∧size=d'.size then some (cs++[n=els.length,bz d' (els++av).length [] av],.own r (els++av).length,hp.set r (.aF e size (els++av))) else none
       |_=>none)
      |_=>none) else none
     |_,_=>none)
    |_=>none)
   |none=>none) else none
  |_,_,_=>none)
 |_=>none
theorem Sl {tab:Nat→Option TD} {hp hp':List af} {ρ:Operand→AV} {op:Op} {cs:List Prop} {r:AV} (h:hv tab hp ρ op=some (cs,r,hp')) (hc:dw cs):∃c,cO tab hp ρ op=some (c,r,hp')∧c:=by
 cases op with
 |alloc T=>
  simp only[hv] at h
  split at h
  ·rename_i d hd
   simp only[Option.some.injEq,Prod.mk.injEq] at h
   obtain⟨_,rfl,rfl⟩:=h
   exact⟨True,by simp only[cO,hd],True.intro⟩
  ·cases h
 |box T x=>
  simp only[hv] at h
  split at h
  ·rename_i nR
   simp only[Option.some.injEq,Prod.mk.injEq] at h
   obtain⟨_,rfl,rfl⟩:=h
   exact⟨True,by simp only[cO,if_pos nR],True.intro⟩
  ·cases h
 |store T p x=>
  simp only[hv] at h
  split at h
  ·rename_i d r' o hd eG
   split at h
   ·rename_i cs' hb
    split at h
    ·rename_i nR
     simp only[Option.some.injEq,Prod.mk.injEq] at h
     obtain⟨_,rfl,rfl⟩:=h
     exact⟨_,by simp only[cO,hd,eG,hb,if_pos nR.1],nR.2⟩
    ·cases h
   ·cases h
  ·rename_i d r' m' i' z' hd eG
   split at h
   ·rename_i e' rl jQ hb
    split at h
    ·rename_i nR
     obtain⟨h1,h2,h3,h4⟩:=nR
     split at h
     ·rename_i zm
      simp only[Option.some.injEq,Prod.mk.injEq] at h
      obtain⟨rfl,rfl,rfl⟩:=h
      rw[bq] at hc
      have Wu:=fZ hc.1
      refine⟨((ρ x).ef hp).2.cells.length=d.size∧m'=jQ.length∧i' < jQ.length,?_,h3,hc.2.1,hc.2.2.1⟩
      simp only[cO,hd,eG,hb,Wu]
      rw[if_pos ⟨h1,h2⟩,if_pos zm]
     ·rename_i zm
      simp only[Option.some.injEq,Prod.mk.injEq] at h
      obtain⟨rfl,rfl,rfl⟩:=h
      rw[bq] at hc
      have Wu:=fZ hc.1
      refine⟨((ρ x).ef hp).2.cells.length=d.size∧d.size≤z'∧m'=jQ.length∧i' < jQ.length,?_,h3,h4,hc.2.1,hc.2.2.1⟩
      simp only[cO,hd,eG,hb,Wu]
      rw[if_pos ⟨h1,h2⟩,if_neg zm]
    ·cases h
   ·cases h
  ·cases h
 |makeSlice T l c=>
  simp only[hv] at h
  split at h
  ·rename_i d hd
   split at h
   ·rename_i e hk
    split at h
    ·rename_i PY
     split at h
     ·rename_i d' k n cM Wv
      split at h
      ·rename_i z hz
       simp only[Option.some.injEq,Prod.mk.injEq] at h
       obtain⟨rfl,rfl,rfl⟩:=h
       exact⟨0≤n∧n≤9223372036854775807∧(d'.bytes:Int)*n≤281474976710656,by simp only[cO,hd,hk,PY,cM,Wv,hz],hc.1⟩
      ·cases h
     ·cases h
    rename_i PY
    split at h
    ·rename_i d' k1 k2 n cM hl Wv
     split at h
     ·rename_i nR
      simp only[Option.some.injEq,Prod.mk.injEq] at h
      obtain⟨rfl,rfl,rfl⟩:=h
      exact⟨0≤n∧n≤9223372036854775807∧(d'.bytes:Int)*n≤281474976710656∧0<d'.size,by simp only[cO,hd,hk,PY,cM,hl,Wv];rfl,hc.1.1,hc.1.2.1,hc.1.2.2,nR⟩
     ·cases h
    ·cases h
   ·cases h
  ·cases h
 |makeMap T x=>
  cases x with
  |some x=>simp[hv] at h
  |none=>
   simp only[hv] at h
   split at h
   ·rename_i d hd
    split at h
    ·rename_i k e hk
     split at h
     ·rename_i dk lJ
      split at h
      ·rename_i sI
       simp only[Option.some.injEq,Prod.mk.injEq] at h
       obtain⟨_,rfl,rfl⟩:=h
       exact⟨True,by simp only[cO,hd,hk,lJ,sI],True.intro⟩
      ·rename_i sI
       simp only[Option.some.injEq,Prod.mk.injEq] at h
       obtain⟨_,rfl,rfl⟩:=h
       exact⟨True,by simp only[cO,hd,hk,lJ],True.intro⟩
     ·cases h
    ·cases h
   ·cases h
 |mapUpdate T m k x=>
  simp only[hv] at h
  split at h
  ·rename_i d r' a v hd hm hk hx
   split at h
   ·rename_i kt et es vk hb
    split at h
    ·rename_i dk lJ
     split at h
     ·rename_i ik sI
      simp only[Option.some.injEq,Prod.mk.injEq] at h
      obtain⟨_,rfl,rfl⟩:=h
      exact⟨True,by simp only[cO,hd,hm,hk,hx,vk,hb,lJ,sI],True.intro⟩
     ·cases h
    ·cases h
   ·cases h
  ·rename_i d r' a v hd hm hk hx
   split at h
   ·rename_i kt et es vk hb
    split at h
    ·rename_i dk lJ
     split at h
     ·rename_i sI
      simp only[Option.some.injEq,Prod.mk.injEq] at h
      obtain⟨_,rfl,rfl⟩:=h
      exact⟨True,by simp only[cO,hd,hm,hk,hx,vk,hb,lJ,sI],True.intro⟩
     ·cases h
    ·cases h
   ·cases h
  ·cases h
 |call c=>
  simp only[hv] at h
  split at h
  ·rename_i b x T T' hb hl hT
   split at h
   ·rename_i RH
    split at h
    ·rename_i d hd
     split at h
     ·rename_i e hk
      split at h
      ·rename_i d' cs' av cM hx
       split at h
       ·rename_i Sn
        split at h
        ·rename_i mg
         simp only[Option.some.injEq,Prod.mk.injEq] at h
         obtain⟨rfl,rfl,rfl⟩:=h
         rw[bq] at hc
         have hs:=eM hx hc.1
         exact⟨0<d'.size∧bz d' av.length [] av,by simp only[cO,hb,hl,hT,if_pos RH,hd,hk,cM,hs,mg],Sn,hc.2.1⟩
        ·rename_i els mg
         simp only[Option.some.injEq,Prod.mk.injEq] at h
         obtain⟨rfl,rfl,rfl⟩:=h
         rw[bq] at hc
         have hs:=eM hx hc.1
         refine⟨0<d'.size∧(av=[]→els=[])∧bz d' (els.length+av.length) els av,by simp only[cO,hb,hl,hT,if_pos RH,hd,hk,cM,hs,mg,List.length_append],Sn,hc.2.1,?_⟩
         have:=hc.2.2.1
         rwa [List.length_append] at this
        ·rename_i r' n mg
         split at h
         ·rename_i e' size els dM
          split at h
          ·rename_i nR
           simp only[Option.some.injEq,Prod.mk.injEq] at h
           obtain⟨rfl,rfl,rfl⟩:=h
           rw[bq] at hc
           have hs:=eM hx hc.1
           have hn:=hc.2.1
           refine⟨bz d' (els.length+av.length) [] av,by simp only[cO,hb,hl,hT,if_pos RH,hd,hk,cM,hs,mg,dM,nR.1,nR.2,hn,and_self,if_true,List.length_append],?_⟩
           have:=hc.2.2.1
           rwa [List.length_append] at this
          ·cases h
         ·rename_i e' size els dM
          split at h
          ·rename_i nR
           simp only[Option.some.injEq,Prod.mk.injEq] at h
           obtain⟨rfl,rfl,rfl⟩:=h
           rw[bq] at hc
           have hs:=eM hx hc.1
           have hn:=hc.2.1
           refine⟨bz d' (els.length+av.length) [] av,by simp only[cO,hb,hl,hT,if_pos RH,hd,hk,cM,hs,mg,dM,nR.1,nR.2,hn,and_self,if_true,List.length_append],?_⟩
           have:=hc.2.2.1
           rwa [List.length_append] at this
          ·cases h
         ·cases h
        ·cases h
       ·cases h
      ·cases h
     ·cases h
    ·cases h
   ·cases h
  ·cases h
 |_=>simp[hv] at h
end Go.Proofs.YtdcikhleahfknaaGreatDoor
