/- Texts of ours laid together for a claim: J03. -/
import Derived.Test.YtjhanogfpkbamaaGreatDoorQ47
namespace Go.Proofs.YtjhanogfpkbamaaGreatDoor
open Go Go.ChangeShapes Go.WideShapes Go.ChangeAt Go.RowKit
set_option linter.unusedSimpArgs false
set_option linter.unusedVariables false
variable {H:Type} {enc:TypeId×Value→H} {P:Program} {W:World}
def Old (W:World) (b _o:Nat):Prop:=b<W.heap.size
structure eg (W:World) (xs:List AV) (cs:List Value):Prop where
 len:cs.length=xs.length
 rep:∀(j:Nat) (x:AV) (v:Value),xs[j]?=some x→cs[j]?=some v→bw W (Old W) [] [] x v
 one:∀v:Value,v∈cs→v.oneCell'=true
abbrev nx (enc:TypeId×Value→H) (P:Program) (W:World):Nat→TypeId→List Value→Option (DataW H×List MemPlace):=DataW.trod enc P W 0 (fun _=>true) true
theorem ny {x:AV} {v:Value} (h:bw W (Old W) [] [] x v) (h1:v.oneCell'=true):eg W [x] [v]:=by
 refine⟨rfl,fun j y u hy hu=>?_,fun u hu=>by rw[air.1 hu];exact h1⟩
 cases j with
 |zero=>simp at hy hu;subst hy;subst hu;exact h
 |succ j=>simp at hy
theorem eg.append {xs ys:List AV} {cs ds:List Value} (h:eg W xs cs) (k:eg W ys ds):eg W (xs++ys) (cs++ds):=by
 refine⟨by rw[ah0,ah0,h.len,k.len],fun j x v hx hv=>?_,fun v hv=>?_⟩
 ·by_cases hj:j<xs.length
  ·rw[aib hj] at hx
   rw[aib (by rw[h.len];exact hj)] at hv
   exact h.rep j x v hx hv
  ·rw[aiz (by omega)] at hx
   rw[aiz (by rw[h.len];omega),h.len] at hv
   exact k.rep _ x v hx hv
 ·rcases aiM.1 hv with h1|h1
  ·exact h.one v h1
  ·exact k.one v h1
theorem lE {t:TypeId} (ht:P.underlying t=some (.int .i64)) {fuel:Nat} {cs:List Value} {x:DataW H×List MemPlace} (h:nx enc P W fuel t cs=some x):
  ∃n:Int,ke n∧eg W [nI n] cs:=by
 obtain⟨n,rfl,_,hw⟩:=DataW.trod_int ht h
 refine⟨n,?_,ny (.ah _) rfl⟩
 simp[Lit.wf,IntKind.min,IntKind.max,IntKind.signed,IntKind.bits] at hw
 unfold ke;omega
theorem gq {t:TypeId} {L:List (TypeId×Nat×Nat)} (hL:(match P.underlying t with|some (.struct fs)=>fs.toList.map (fun f=>(f.type,f.offset,P.cellsOf f.type))|_=>[])=L) (bK:L≠[])
  {fuel:Nat} {cs:List Value} {x:DataW H×List MemPlace} (h:nx enc P W fuel t cs=some x):
  ∃n,n<fuel∧cs.length=P.cellsOf t∧∀p∈L,∃y,nx enc P W n p.1 ((cs.drop p.2.1).take p.2.2)=some y:=by
 split at hL
 ·rename_i fs hu
  obtain⟨xs,n,rfl,_,hlen,VI,hf⟩:=DataW.trod_struct hu h
  refine⟨n,by omega,hlen,fun p hp=>?_⟩
  rw[←hL] at hp
  obtain⟨f,hfm,rfl⟩:=aiQ.1 hp
  obtain⟨i,hi⟩:=ajh hfm
  have rJ:fs[i]?=some f:=by simpa using hi
  have:=hf i f rJ
  have ay:i<xs.length:=by rw[VI];exact(ail.1 rJ).1
  exact⟨xs[i],this.trans (ah2 ay)⟩
 ·exact(bK hL.symm).elim
theorem zn (a:Addr):a.add 0=a:=by simp[Addr.add]
theorem ir {t e:TypeId} (ht:P.underlying t=some (.slice e)) (hs:0<P.cellsOf e) (Q:AV→Prop) {fuel:Nat} {cs:List Value} {x:DataW H×List MemPlace} (h:nx enc P W fuel t cs=some x)
  (ih:∀n cs y,n<fuel→nx enc P W n e cs=some y→∃xe:AV,Q xe∧eg W xe.cells cs):
  ∃els:List AV,els.length≤maxLen∧(∀y∈els,Q y)∧eg W [.sl els] cs:=by
 rcases DataW.trod_slice ht h with⟨rfl,_⟩|⟨a,len,cap,elems,rest,n,rfl,rfl,rfl,_,hl,hm,hlen,GV,Vr,_⟩
 ·exact⟨[],ah3 _,fun y hy=>by simp at hy,ny (.pE _) rfl⟩
 ·have Vr:=Vr rfl
  by_cases DL:cap=0
  ·have:len=0:=by omega
   subst this;subst DL
   exact⟨[],ah3 _,fun y hy=>by simp at hy,ny (.pE _) rfl⟩
  ·
   have PL:a.spot=none:=by
    have key:∀y,(W.cells? 0 a (P.cellsOf e)).bind (nx enc P W n e)=some y→a.spot=none:=by
     intro y hy
     obtain⟨iP,hc,_⟩:=aiI.1 hy
     obtain⟨_,oS,aN⟩:=World.cells?_some hc
     have h0:=aN 0 hs
     have ay:0<iP.length:=by omega
     rw[ah2 ay,zn] at h0
     exact World.cell?_spot h0
    by_cases Qv:len=0
    ·have h2:=Vr.2 0 (by omega)
     have ay:0<rest.length:=by rw[Vr.1];omega
     rw[ah2 ay,Qv,ai4,Nat.zero_mul,zn] at h2
     exact key _ h2
    ·have h2:=GV 0 (by omega)
     have ay:0<elems.length:=by omega
     rw[ah2 ay,Nat.zero_mul,zn] at h2
     exact key _ h2
   obtain⟨b,o,spot⟩:=a
   simp only at PL
   subst PL
   have each:∀i:Nat,∃p:AV×List Value,i<len→Q p.1∧W.cells? 0 ((⟨b,o,none⟩:Addr).add (i*P.cellsOf e)) (P.cellsOf e)=some p.2∧eg W p.1.cells p.2:=by
    intro i
    by_cases hi:i<len
    ·have h2:=GV i hi
     have ay:i<elems.length:=by omega
     rw[ah2 ay] at h2
     obtain⟨iP,hc,hy⟩:=aiI.1 h2
     obtain⟨xe,hq,hr⟩:=ih n iP _ (by omega) hy
     exact⟨(xe,iP),fun _=>⟨hq,hc,hr⟩⟩
    ·exact⟨(.top,[]),fun h=>(hi h).elim⟩
   obtain⟨g,hg⟩:=Classical.axiomOfChoice each
   have el:((List.range len).map fun i=>(g i).1).length=len:=by simp
   have get:∀(i:Nat) (y:AV),((List.range len).map fun i=>(g i).1)[i]?=some y→i<len∧y=(g i).1:=by
    intro i y hi
    have ay:i<len:=by rw[←el];exact(ahY.1 hi).1
    simp[ay] at hi
    exact⟨ay,hi.symm⟩
   refine⟨(List.range len).map fun i=>(g i).1,by rw[el];exact aiy hl hm,fun y hy=>?_,?_⟩
   ·obtain⟨i,hi,rfl⟩:=aiQ.1 hy
    exact(hg i (by simpa using hi)).1
   ·have BX:∀(i:Nat) (y:AV) (j:Nat) (z:AV),((List.range len).map fun i=>(g i).1)[i]?=some y→y.cells[j]?=some z→
      i<len∧∃v,(g i).2[j]?=some v∧W.cell? ⟨b,o+i*P.cellsOf e+j,none⟩=some v∧bw W (Old W) [] [] z v∧v.oneCell'=true:=by
     intro i y j z hi hj
     obtain⟨ay,rfl⟩:=get i y hi
     obtain⟨_,h2,h3⟩:=hg i ay
     have s7:j<(g i).2.length:=by rw[h3.len];exact(ahY.1 hj).1
     have hv:(g i).2[j]?=some (g i).2[j]:=ah2 s7
     obtain⟨_,h4,h5⟩:=World.cells?_some h2
     have h6:=h5 j (by omega)
     rw[hv,add_plain,add_plain] at h6
     exact⟨ay,_,hv,h6,h3.rep j z _ hj hv,h3.one _ (ah1 s7)⟩
    have ec:=bw.sl (w:=W) (F:=Old W) (η:=[]) (hp:=[]) (P.cellsOf e) ((List.range len).map fun i=>(g i).1) b o cap (fun i j=>((g i).2).getD j undef) (by rw[el];exact hl) hm
     (fun i y hi=>by
      obtain⟨ay,rfl⟩:=get i y hi
      obtain⟨_,h2,h3⟩:=hg i ay
      rw[←h3.len];exact(World.cells?_some h2).2.1)
     (fun i y j z hi hj=>by
      obtain⟨_,v,h1,h2,_,h4⟩:=BX i y j z hi hj
      have:((g i).2).getD j undef=v:=by simp[List.getD,h1]
      rw[this]
      exact⟨h2,World.block_lt_of_cell? W _ h2,h4⟩)
     (fun i y j z hi hj=>by
      obtain⟨_,v,h1,_,h3,_⟩:=BX i y j z hi hj
      have:((g i).2).getD j undef=v:=by simp[List.getD,h1]
      rw[this];exact h3)
    rw[el] at ec
    exact ny ec rfl
theorem gu {α:Type} {f:α→AV} {R:α→Prop}:∀{els:List AV},(∀y∈els,∃a,R a∧y=f a)→∃l:List α,(∀a∈l,R a)∧els=l.map f
 | [],_=>⟨[],by simp,rfl⟩
 |y::els,h=>by
  obtain⟨a,h1,rfl⟩:=h y (by simp)
  obtain⟨l,h2,rfl⟩:=gu (els:=els) fun z hz=>h z (aip _ hz)
  refine⟨a::l,fun b hb=>?_,rfl⟩
  rcases aiC.1 hb with rfl|h3
  ·exact h1
  ·exact h2 b h3
theorem WZ {cs:List Value} (h:cs.length=2):∃c0 c1,cs=[c0,c1]:=by
 match cs,h with
 | [c0,c1],_=>exact⟨c0,c1,rfl⟩
theorem PM {cs:List Value} (h:cs.length=4):∃c0 c1 c2 c3,cs=[c0,c1,c2,c3]:=by
 match cs,h with
 | [c0,c1,c2,c3],_=>exact⟨c0,c1,c2,c3,rfl⟩
structure zo (P:Program):Prop where
 Z8:P.underlying 42=some (.slice 3)
theorem W0:zo Tryz.prog:=⟨by kernel_rfl⟩
structure uk (P:Program):Prop where
 LB:P.underlying 3=some (.int .i64)
 Vs:P.underlying 54=some (.slice 163)
 Z9:P.underlying 56=some (.slice 58)
 adZ:P.cellsOf 3=1
 PN:P.cellsOf 163=2
 Vt:P.cellsOf 58=4
 aaa:(match P.underlying 163 with|some (.struct fs)=>fs.toList.map (fun f=>(f.type,f.offset,P.cellsOf f.type))|_=>[])=[(54,0,1),(3,1,1)]
 aab:(match P.underlying 55 with|some (.struct fs)=>fs.toList.map (fun f=>(f.type,f.offset,P.cellsOf f.type))|_=>[])=[(3,0,1),(3,1,1)]
 aac:(match P.underlying 58 with|some (.struct fs)=>fs.toList.map (fun f=>(f.type,f.offset,P.cellsOf f.type))|_=>[])=[(54,0,1),(55,1,2),(56,3,1)]
 ae5:(match P.underlying 58 with|some (.struct _)=>true|_=>false)=true
theorem aad:uk Tryz.prog:=⟨by kernel_rfl,by kernel_rfl,by kernel_rfl,by kernel_rfl,by kernel_rfl,by kernel_rfl,by kernel_rfl,by kernel_rfl,by kernel_rfl,by kernel_rfl⟩
theorem LC (S:uk P) (Q:zo P) {fuel:Nat} {cs:List Value} {x:DataW H×List MemPlace} (h:nx enc P W fuel 42 cs=some x):∃l:List Int,(∀i∈l,ke i)∧eg W [.sl (aK l)] cs:=by
 obtain⟨els,_,h1,h2⟩:=ir Q.Z8 (by rw[S.adZ];omega) (fun y=>∃n:Int,ke n∧y=nI n) h fun n cs y _ hy=>by
  obtain⟨i,hi,hr⟩:=lE S.LB hy
  exact⟨nI i,⟨i,hi,rfl⟩,hr⟩
 obtain⟨l,h3,rfl⟩:=gu h1
 exact⟨l,h3,h2⟩
variable {base:Nat} {v:Value} {d:DataW H} {p:List MemPlace} {t:TypeId}
theorem FY {xs:AV} (h:eg W [xs] v.cells.toList) (hv:v.cells=#[v]):bw W (Old W) [] [] xs v:=by
 rw[hv] at h
 exact h.rep 0 _ _ rfl rfl
theorem LD {e:TypeId} (ht:P.underlying t=some (.slice e)) (hv:Value.okWide P W .any base t v):v.cells=#[v]:=by
 obtain⟨a,len,cap,rfl⟩:=okWide_slice ht hv
 rfl
end Go.Proofs.YtjhanogfpkbamaaGreatDoor
