/- Texts of ours laid together for a claim: VcB. -/
import Derived.Test.YtjhanogfpkbamaaGreatDoorQ13
namespace Go.Proofs.YtjhanogfpkbamaaGreatDoor
open Go
set_option linter.unusedSimpArgs false
set_option linter.unusedVariables false
theorem map_nil_some {α:Type} {o:Option α} {cs:List Prop} {r:α} (h:o.map (fun v=>(([]:List Prop),v))=some (cs,r)):o=some r:=by
 cases o with
 |none=>cases h
 |some v=>simp only[Option.map_some,Option.some.injEq,Prod.mk.injEq] at h;rw[h.2]
theorem allP'_of:∀{l:List Prop},allP l→allP' l
 | [],_=>True.intro
 |_::_,h=>⟨h.1,allP'_of h.2⟩
theorem pv_ok {tab:Nat→Option TD} {hp:List AObj} {ρ:Operand→AV} {op:Op} {cs:List Prop} {r:AV} (h:pv tab hp ρ op=some (cs,r)) (hc:allP cs):∃c,pval tab hp ρ op=some (c,r)∧c:=by
 cases op with
 |move x=>simp only[pv,Option.some.injEq,Prod.mk.injEq] at h;exact⟨True,by rw[←h.2];rfl,True.intro⟩
 |assign x=>simp only[pv,Option.some.injEq,Prod.mk.injEq] at h;exact⟨True,by rw[←h.2];rfl,True.intro⟩
 |nilCheck x=>
  simp only[pv] at h
  split at h
  ·rename_i hx
   simp only[Option.some.injEq,Prod.mk.injEq] at h
   exact⟨True,by simp only[pval,hx];rw[←h.2],True.intro⟩
  ·rename_i hx
   simp only[Option.some.injEq,Prod.mk.injEq] at h
   exact⟨True,by simp only[pval,hx];rw[←h.2],True.intro⟩
  ·cases h
 |pick c x y=>
  simp only[pv] at h
  split at h
  ·rename_i t ht
   refine⟨True,?_,True.intro⟩
   simp only[pval,ht]
   cases t<;>simp only[Option.some.injEq,Prod.mk.injEq] at h<;>simp[h.2]
  ·cases h
 |fieldAddr T x f=>
  simp only[pv] at h
  split at h
  ·rename_i p hp'
   split at h
   ·cases h
   ·rename_i h0
    refine⟨True,?_,True.intro⟩
    simp only[pval,hp',if_neg h0]
    split at h
    ·rename_i r' o' hx;simp only[Option.some.injEq,Prod.mk.injEq] at h;simp[hx,h.2]
    ·rename_i r' o' hx;simp only[Option.some.injEq,Prod.mk.injEq] at h;simp[hx,h.2]
    ·cases h
  ·cases h
 |load T x=>
  simp only[pv] at h
  split at h
  ·rename_i d hd
   refine⟨True,?_,True.intro⟩
   simp only[pval,hd]
   split at h
   ·rename_i r' o' hx
    simp only[hx]
    split at h
    ·rename_i cs' hb;simp only[hb];rw[map_nil_some h];rfl
    ·cases h
   ·rename_i e o' hx
    simp only[hx];rw[map_nil_some h];rfl
   ·cases h
  ·cases h
 |binOp bop T x y T'=>
  simp only[pv] at h
  simp only[pval,bopAll]
  split at h
  ·rename_i v hv
   simp only[Option.some.injEq,Prod.mk.injEq] at h
   obtain⟨rfl,rfl⟩:=h
   rw[hv]
   exact⟨True,rfl,True.intro⟩
  ·rename_i hi
   rw[hi]
   split at h
   ·rename_i v hv
    simp only[Option.some.injEq,Prod.mk.injEq] at h
    obtain⟨rfl,rfl⟩:=h
    rw[bopVal'_ok hv]
    exact⟨True,rfl,True.intro⟩
   ·rw[bopX_apart h,h]
    exact⟨_,rfl,allP'_of hc⟩
 |convert S D x=>
  simp only[pv] at h
  refine⟨True,?_,True.intro⟩
  simp only[pval]
  rw[map_nil_some h];rfl
 |unOp uop T x=>
  simp only[pv] at h
  refine⟨True,?_,True.intro⟩
  simp only[pval]
  split at h
  ·rename_i b hb;simp only[Option.some.injEq,Prod.mk.injEq] at h;simp[hb,h.2]
  ·rename_i k n hb;simp only[Option.some.injEq,Prod.mk.injEq] at h;simp only[hb,h.2]
  ·cases h
 |build T parts=>
  simp only[pv] at h
  split at h
  ·rename_i d hd
   refine⟨True,?_,True.intro⟩
   simp only[pval,hd]
   split at h
   ·rename_i fs hk
    simp only[hk]
    cases hf:fillCells fs (d.zero.cells.toList.map .prim) (parts.toList.map fun p=>(p.1,ρ p.2)) with
    |none=>rw[hf] at h;cases h
    |some l=>rw[hf] at h;simp only[Option.map_some,Option.some.injEq,Prod.mk.injEq] at h;simp[h.2]
   ·rename_i n hk
    simp only[hk]
    cases hf:fillCells (arrFs n) (d.zero.cells.toList.map .prim) (parts.toList.map fun p=>(p.1,ρ p.2)) with
    |none=>rw[hf] at h;cases h
    |some l=>rw[hf] at h;simp only[Option.map_some,Option.some.injEq,Prod.mk.injEq] at h;simp[h.2]
   ·cases h
  ·cases h
 |buildSlice T n parts=>
  simp only[pv] at h
  split at h
  ·rename_i d hd
   split at h
   ·rename_i e hk
    split at h
    ·rename_i d' hd'
     split at h
     ·rename_i hif
      simp only[Option.some.injEq,Prod.mk.injEq] at h
      obtain⟨rfl,rfl⟩:=h
      have hm:=mapD_ok (g:=AV.toData hp) (fun x=>toData'_ok) (parts.toList.map fun p=>ρ p.2) hc
      simp only[pval,hd,hk,hd',if_pos hif.1]
      refine⟨_,?_,lensB_ok hif.2⟩
      rw[←hm,List.map_map]
      rfl
     ·cases h
    ·cases h
   ·cases h
  ·cases h
 |slice T x lo hi mx=>
  simp only[pv] at h
  split at h
  ·rename_i d hd
   split at h
   ·rename_i e hk
    split at h
    ·rename_i cs' els d' hx hd'
     split at h
     ·rename_i l h' hl hh hm
      simp only[Option.some.injEq,Prod.mk.injEq] at h
      obtain⟨rfl,rfl⟩:=h
      rw[allP_append] at hc
      have hs:=asSl'_ok hx hc.1
      exact⟨_,by simp only[pval,hd,hk,hs,hd',hl,hh,hm],hc.2.1⟩
     ·rename_i l h' m hl hh hm
      split at h
      ·rename_i hi'
       simp only[Option.some.injEq,Prod.mk.injEq] at h
       obtain⟨rfl,rfl⟩:=h
       rw[allP_append] at hc
       have hs:=asSl'_ok hx hc.1
       exact⟨_,by simp only[pval,hd,hk,hs,hd',hl,hh,hm,if_pos hi'],hc.2.1⟩
      ·cases h
     ·cases h
    ·cases h
   ·rename_i hk
    split at h
    ·rename_i b hx
     split at h
     ·rename_i l h' hl hh
      simp only[Option.some.injEq,Prod.mk.injEq] at h
      obtain⟨rfl,rfl⟩:=h
      exact⟨_,by simp only[pval,hd,hk,hx,hl,hh],hc.1⟩
     ·cases h
    ·cases h
   ·cases h
  ·cases h
 |field T x f=>
  simp only[pv] at h
  split at h
  ·rename_i p cs' hp' hx
   split at h
   ·rename_i hif
    refine⟨True,?_,True.intro⟩
    simp only[pval,hp',hx,if_pos hif]
    rw[map_nil_some h];rfl
   ·cases h
  ·cases h
 |lookup T m k ok=>
  simp only[pv] at h
  split at h
  ·rename_i d es a hd hm hk'
   split at h
   ·rename_i kt et hk
    split at h
    ·rename_i dk de hdk hde
     split at h
     ·rename_i ik hik
      refine⟨True,?_,True.intro⟩
      simp only[pval,hd,hm,hk',hk,hdk,hde,hik]
      rw[lookVal'_ok h hc]
     ·cases h
    ·cases h
   ·cases h
  ·rename_i d es a hd hm hk'
   split at h
   ·rename_i kt et hk
    split at h
    ·rename_i dk de hdk hde
     split at h
     ·rename_i hik
      refine⟨True,?_,True.intro⟩
      simp only[pval,hd,hm,hk',hk,hdk,hde,hik]
      rw[lookVal'_ok h hc]
     ·cases h
    ·cases h
   ·cases h
  ·cases h
 |index T x i=>
  simp only[pv] at h
  split at h
  ·rename_i d b k n hd hx hi
   split at h
   ·rename_i hk
    simp only[Option.some.injEq,Prod.mk.injEq] at h
    obtain⟨rfl,rfl⟩:=h
    exact⟨_,by simp only[pval,hd,hx,hi,hk],hc.1⟩
   ·cases h
  ·cases h
 |extract x i=>
  simp only[pv] at h
  split at h
  ·rename_i vs hx
   refine⟨True,?_,True.intro⟩
   simp only[pval,hx]
   rw[map_nil_some h];rfl
  ·cases h
 |makeFunc fn first caps=>
  cases fn with
  |func f=>
   simp only[pv] at h
   split at h
   ·rename_i hif
    simp only[Option.some.injEq,Prod.mk.injEq] at h
    exact⟨True,by simp only[pval,if_pos hif,h.2],True.intro⟩
   ·rename_i hif
    split at h
    ·rename_i hif2
     simp only[Option.some.injEq,Prod.mk.injEq] at h
     exact⟨True,by simp only[pval,if_neg hif,if_pos hif2,h.2],True.intro⟩
    ·cases h
  |_=>simp[pv] at h
 |call c=>
  simp only[pv] at h
  split at h
  ·rename_i x hb hl
   split at h
   ·rename_i d hd
    split at h
    ·rename_i e hk
     cases hx:(ρ x).asSl' hp with
     |none=>rw[hx] at h;cases h
     |some p=>
      rw[hx] at h
      simp only[Option.map_some,Option.some.injEq,Prod.mk.injEq] at h
      obtain⟨rfl,rfl⟩:=h
      have hs:=asSl'_ok (cs:=p.1) (els:=p.2) hx hc
      refine⟨True,?_,True.intro⟩
      simp only[pval,hb,hl,hd,hk]
      cases hv:ρ x with
      |prim v=>
       rw[hv] at hs hx
       cases v with
       |string s=>simp[AV.asSl'] at hx
       |_=>simp only[lenVal,hs,Option.map_some]
      |_=>rw[hv] at hs;simp only[lenVal,hs,Option.map_some]
    ·rename_i hk
     split at h
     ·rename_i b hx
      simp only[Option.some.injEq,Prod.mk.injEq] at h
      exact⟨True,by simp only[pval,hb,hl,hd,hk,hx,h.2],True.intro⟩
     ·cases h
    ·cases h
   ·cases h
  ·rename_i x y hb hl
   split at h
   ·rename_i k m k' n hx hy
    simp only[Option.some.injEq,Prod.mk.injEq] at h
    exact⟨True,by simp only[pval,hb,hl,hx,hy,h.2],True.intro⟩
   ·cases h
  ·rename_i x y hb hl
   split at h
   ·rename_i k m k' n hx hy
    simp only[Option.some.injEq,Prod.mk.injEq] at h
    exact⟨True,by simp only[pval,hb,hl,hx,hy,h.2],True.intro⟩
   ·cases h
  ·cases h
 |_=>simp[pv] at h
def hv (tab:Nat→Option TD) (hp:List AObj) (ρ:Operand→AV):Op→Option (List Prop×AV×List AObj)
 | .alloc T=>(match tab T with
  |some d=>some ([],.ptr hp.length 0,hp++[.box (d.zero.cells.toList.map .prim)])
  |none=>none)
 | .box _ x=>if(ρ x).stor=true then some ([],.ptr hp.length 0,hp++[.box (ρ x).cells]) else none
 | .store T p x=>(match tab T,ρ p with
  |some d,.ptr r o=>(match hp[r]? with
   |some (.box cs)=>if(ρ x).stor=true∧(ρ x).cells.length=d.size∧o+d.size≤cs.length then some ([],.top,hp.set r (.box (setCells cs o (ρ x).cells))) else none
   |_=>none)
  |some d,.mptr r _ i z=>(match hp[r]? with
   |some (.mrow e size els)=>if((ρ x).dataV' hp).2.stor=true∧size=z∧((ρ x).dataV' hp).2.cells.length=d.size∧d.size=z then some (((ρ x).dataV' hp).1++[i<els.length],.top,hp.set r (.mrow e size (els.set i ((ρ x).dataV' hp).2))) else none
   |_=>none)
  |_,_=>none)
 | .makeSlice T l c=>(match tab T with
  |some d=>(match d.kind with
   | .slc e=>(match tab e,ρ l,ρ c with
    |some d',.prim (.int _ 0),.prim (.int _ n)=>if 0<d'.size then some ([0≤n∧n≤9223372036854775807∧(d'.bytes:Int)*n≤281474976710656],.own hp.length ([]:List AV).length,hp++[.row e d'.size []]) else none
    |_,_,_=>none)
   |_=>none)
  |none=>none)
 | .makeMap T none=>(match tab T with
  |some d=>(match d.kind with
   | .mapk kt _=>(match tab kt with
    |some dk=>(match dk.kind with
     | .str=>some ([],.mp hp.length,hp++[.mapo (.s [])])
     |_=>some ([],.mp hp.length,hp++[.mapo (.i [])]))
    |none=>none)
   |_=>none)
  |none=>none)
 | .mapUpdate T m k x=>(match tab T,ρ m,ρ k,ρ x with
  |some d,.mp r,.prim (.int .i64 a),.prim v=>(match d.kind,hp[r]? with
   | .mapk kt _,some (.mapo (.i es))=>(match tab kt with
    |some dk=>(match dk.kind with
     | .int _=>some ([],.top,hp.set r (.mapo (.i (mapPut es a v))))
     |_=>none)
    |none=>none)
   |_,_=>none)
  |some d,.mp r,.prim (.string a),.prim v=>(match d.kind,hp[r]? with
   | .mapk kt _,some (.mapo (.s es))=>(match tab kt with
    |some dk=>(match dk.kind with
     | .str=>some ([],.top,hp.set r (.mapo (.s (mapPut es a v))))
     |_=>none)
    |none=>none)
   |_,_=>none)
  |_,_,_,_=>none)
 | .call c=>(match c.callee,c.args.toList,c.argTypes.toList with
  | .builtin .append,[b,x],[T,T']=>if T=T' then(match tab T with
   |some d=>(match d.kind with
    | .slc e=>(match tab e,(ρ x).asSl' hp with
     |some d',some (cs,els2)=>if 0<d'.size then(match ρ b with
      | .prim (.slice none 0 0)=>some (cs++[appOk d' els2.length [] els2],.own hp.length els2.length,hp++[.row e d'.size els2])
      | .clip els=>some (cs++[els2=[]→els=[],appOk d' (els++els2).length els els2],.own hp.length (els++els2).length,hp++[.row e d'.size (els++els2)])
      | .own r n=>(match hp[r]? with
       |some (.row e' size els)=>if e'=e∧size=d'.size then some (cs++[n=els.length,appOk d' (els++els2).length [] els2],.own r (els++els2).length,hp.set r (.row e size (els++els2))) else none
       |_=>none)
      |_=>none) else none
     |_,_=>none)
    |_=>none)
   |none=>none) else none
  |_,_,_=>none)
 |_=>none
theorem hv_ok {tab:Nat→Option TD} {hp hp':List AObj} {ρ:Operand→AV} {op:Op} {cs:List Prop} {r:AV} (h:hv tab hp ρ op=some (cs,r,hp')) (hc:allP cs):∃c,heff tab hp ρ op=some (c,r,hp')∧c:=by
 cases op with
 |alloc T=>
  simp only[hv] at h
  split at h
  ·rename_i d hd
   simp only[Option.some.injEq,Prod.mk.injEq] at h
   obtain⟨_,rfl,rfl⟩:=h
   exact⟨True,by simp only[heff,hd],True.intro⟩
  ·cases h
 |box T x=>
  simp only[hv] at h
  split at h
  ·rename_i hif
   simp only[Option.some.injEq,Prod.mk.injEq] at h
   obtain⟨_,rfl,rfl⟩:=h
   exact⟨True,by simp only[heff,if_pos hif],True.intro⟩
  ·cases h
 |store T p x=>
  simp only[hv] at h
  split at h
  ·rename_i d r' o hd hp1
   split at h
   ·rename_i cs' hb
    split at h
    ·rename_i hif
     simp only[Option.some.injEq,Prod.mk.injEq] at h
     obtain⟨_,rfl,rfl⟩:=h
     exact⟨_,by simp only[heff,hd,hp1,hb,if_pos hif.1],hif.2⟩
    ·cases h
   ·cases h
  ·rename_i d r' m' i' z' hd hp1
   split at h
   ·rename_i e' size' els' hb
    split at h
    ·rename_i hif
     simp only[Option.some.injEq,Prod.mk.injEq] at h
     obtain⟨rfl,rfl,rfl⟩:=h
     rw[allP_append] at hc
     have hdv:=dataV'_ok hc.1
     obtain⟨h1,h2,h3,h4⟩:=hif
     refine⟨((ρ x).dataV' hp).2.cells.length=d.size∧d.size=z'∧i' < els'.length,?_,h3,h4,hc.2.1⟩
     simp only[heff,hd,hp1,hb,hdv]
     rw[if_pos ⟨h1,h2⟩]
    ·cases h
   ·cases h
  ·cases h
 |makeSlice T l c=>
  simp only[hv] at h
  split at h
  ·rename_i d hd
   split at h
   ·rename_i e hk
    split at h
    ·rename_i d' k1 k2 n hd' hl hcp
     split at h
     ·rename_i hif
      simp only[Option.some.injEq,Prod.mk.injEq] at h
      obtain⟨rfl,rfl,rfl⟩:=h
      exact⟨0≤n∧n≤9223372036854775807∧(d'.bytes:Int)*n≤281474976710656∧0<d'.size,by simp only[heff,hd,hk,hd',hl,hcp];rfl,hc.1.1,hc.1.2.1,hc.1.2.2,hif⟩
     ·cases h
    ·cases h
   ·cases h
  ·cases h
 |makeMap T x=>
  cases x with
  |some x=>simp[hv] at h
  |none=>
   simp only[hv] at h
   split at h
   ·rename_i d hd
    split at h
    ·rename_i k e hk
     split at h
     ·rename_i dk hdk
      split at h
      ·rename_i hik
       simp only[Option.some.injEq,Prod.mk.injEq] at h
       obtain⟨_,rfl,rfl⟩:=h
       exact⟨True,by simp only[heff,hd,hk,hdk,hik],True.intro⟩
      ·rename_i hik
       simp only[Option.some.injEq,Prod.mk.injEq] at h
       obtain⟨_,rfl,rfl⟩:=h
       exact⟨True,by simp only[heff,hd,hk,hdk],True.intro⟩
     ·cases h
    ·cases h
   ·cases h
 |mapUpdate T m k x=>
  simp only[hv] at h
  split at h
  ·rename_i d r' a v hd hm hk hx
   split at h
   ·rename_i kt et es hk' hb
    split at h
    ·rename_i dk hdk
     split at h
     ·rename_i ik hik
      simp only[Option.some.injEq,Prod.mk.injEq] at h
      obtain⟨_,rfl,rfl⟩:=h
      exact⟨True,by simp only[heff,hd,hm,hk,hx,hk',hb,hdk,hik],True.intro⟩
     ·cases h
    ·cases h
   ·cases h
  ·rename_i d r' a v hd hm hk hx
   split at h
   ·rename_i kt et es hk' hb
    split at h
    ·rename_i dk hdk
     split at h
     ·rename_i hik
      simp only[Option.some.injEq,Prod.mk.injEq] at h
      obtain⟨_,rfl,rfl⟩:=h
      exact⟨True,by simp only[heff,hd,hm,hk,hx,hk',hb,hdk,hik],True.intro⟩
     ·cases h
    ·cases h
   ·cases h
  ·cases h
 |call c=>
  simp only[hv] at h
  split at h
  ·rename_i b x T T' hb hl hT
   split at h
   ·rename_i hTT
    split at h
    ·rename_i d hd
     split at h
     ·rename_i e hk
      split at h
      ·rename_i d' cs' els2 hd' hx
       split at h
       ·rename_i hpos
        split at h
        ·rename_i hbv
         simp only[Option.some.injEq,Prod.mk.injEq] at h
         obtain⟨rfl,rfl,rfl⟩:=h
         rw[allP_append] at hc
         have hs:=asSl'_ok hx hc.1
         exact⟨0<d'.size∧appOk d' els2.length [] els2,by simp only[heff,hb,hl,hT,if_pos hTT,hd,hk,hd',hs,hbv],hpos,hc.2.1⟩
        ·rename_i els hbv
         simp only[Option.some.injEq,Prod.mk.injEq] at h
         obtain⟨rfl,rfl,rfl⟩:=h
         rw[allP_append] at hc
         have hs:=asSl'_ok hx hc.1
         refine⟨0<d'.size∧(els2=[]→els=[])∧appOk d' (els.length+els2.length) els els2,by simp only[heff,hb,hl,hT,if_pos hTT,hd,hk,hd',hs,hbv,List.length_append],hpos,hc.2.1,?_⟩
         have:=hc.2.2.1
         rwa [List.length_append] at this
        ·rename_i r' n hbv
         split at h
         ·rename_i e' size els hr'
          split at h
          ·rename_i hif
           simp only[Option.some.injEq,Prod.mk.injEq] at h
           obtain⟨rfl,rfl,rfl⟩:=h
           rw[allP_append] at hc
           have hs:=asSl'_ok hx hc.1
           have hn:=hc.2.1
           refine⟨appOk d' (els.length+els2.length) [] els2,by simp only[heff,hb,hl,hT,if_pos hTT,hd,hk,hd',hs,hbv,hr',hif.1,hif.2,hn,and_self,if_true,List.length_append],?_⟩
           have:=hc.2.2.1
           rwa [List.length_append] at this
          ·cases h
         ·cases h
        ·cases h
       ·cases h
      ·cases h
     ·cases h
    ·cases h
   ·cases h
  ·cases h
 |_=>simp[hv] at h
end Go.Proofs.YtjhanogfpkbamaaGreatDoor
