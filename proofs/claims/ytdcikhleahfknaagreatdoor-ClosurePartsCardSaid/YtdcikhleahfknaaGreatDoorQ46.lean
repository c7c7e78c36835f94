/- Texts of ours laid together for a claim: J03. -/
import Derived.Test.YtdcikhleahfknaaGreatDoorQ45
namespace Go.Proofs.YtdcikhleahfknaaGreatDoor
open Go Go.ChangeShapes Go.WideShapes Go.ChangeAt Go.RowKit
set_option linter.unusedSimpArgs false
set_option linter.unusedVariables false
variable {H:Type} {enc:TypeId×Value→H} {P:Program} {W:World}
def Old (W:World) (b _o:Nat):Prop:=b<W.heap.size
structure ek (W:World) (xs:List AV) (cs:List Value):Prop where
 len:cs.length=xs.length
 rep:∀(j:Nat) (x:AV) (v:Value),xs[j]?=some x→cs[j]?=some v→aV W (Old W) [] [] x v
 one:∀v:Value,v∈cs→v.oneCell'=true
abbrev ot (enc:TypeId×Value→H) (P:Program) (W:World):Nat→TypeId→List Value→Option (DataW H×List MemPlace):=DataW.trod enc P W 0 (fun _=>true) true
theorem nF {x:AV} {v:Value} (h:aV W (Old W) [] [] x v) (h1:v.oneCell'=true):ek W [x] [v]:=by
 refine⟨rfl,fun j y u hy hu=>?_,fun u hu=>by rw[List.mem_singleton.1 hu];exact h1⟩
 cases j with
 |zero=>simp at hy hu;subst hy;subst hu;exact h
 |succ j=>simp at hy
theorem ek.append {xs ys:List AV} {cs ds:List Value} (h:ek W xs cs) (k:ek W ys ds):ek W (xs++ys) (cs++ds):=by
 refine⟨by rw[List.length_append,List.length_append,h.len,k.len],fun j x v hx hv=>?_,fun v hv=>?_⟩
 ·by_cases hj:j<xs.length
  ·rw[List.getElem?_append_left hj] at hx
   rw[List.getElem?_append_left (by rw[h.len];exact hj)] at hv
   exact h.rep j x v hx hv
  ·rw[List.getElem?_append_right (by omega)] at hx
   rw[List.getElem?_append_right (by rw[h.len];omega),h.len] at hv
   exact k.rep _ x v hx hv
 ·rcases List.mem_append.1 hv with h1|h1
  ·exact h.one v h1
  ·exact k.one v h1
theorem ek.agg {xs:List AV} {cs:List Value} (h:ek W xs cs):aV W (Old W) [] [] (.agg xs) (.agg cs.toArray):=
 .agg xs cs.toArray (by simp[h.len]) (fun v hv=>h.one v (by simpa using hv)) fun j x v hx hv=>h.rep j x v hx (by simpa using hv)
theorem p9 {t:TypeId} (ht:P.underlying t=some (.int .i64)) {fuel:Nat} {cs:List Value} {x:DataW H×List MemPlace} (h:ot enc P W fuel t cs=some x):
  ∃n:Int,jr n∧ek W [nI n] cs:=by
 obtain⟨n,rfl,_,hw⟩:=DataW.trod_int ht h
 refine⟨n,?_,nF (.ae _) rfl⟩
 simp[Lit.wf,IntKind.min,IntKind.max,IntKind.signed,IntKind.bits] at hw
 unfold jr;omega
theorem jt {t:TypeId} {L:List (TypeId×Nat×Nat)} (hL:(match P.underlying t with|some (.struct fs)=>fs.toList.map (fun f=>(f.type,f.offset,P.cellsOf f.type))|_=>[])=L) (bj:L≠[])
  {fuel:Nat} {cs:List Value} {x:DataW H×List MemPlace} (h:ot enc P W fuel t cs=some x):
  ∃n,n<fuel∧cs.length=P.cellsOf t∧∀p∈L,∃y,ot enc P W n p.1 ((cs.drop p.2.1).take p.2.2)=some y:=by
 split at hL
 ·rename_i fs hu
  obtain⟨xs,n,rfl,_,hlen,Lt,hf⟩:=DataW.trod_struct hu h
  refine⟨n,by omega,hlen,fun p hp=>?_⟩
  rw[←hL] at hp
  obtain⟨f,hfm,rfl⟩:=List.mem_map.1 hp
  obtain⟨i,hi⟩:=List.getElem?_of_mem hfm
  have n6:fs[i]?=some f:=by simpa using hi
  have:=hf i f n6
  have al:i<xs.length:=by rw[Lt];exact(Array.getElem?_eq_some_iff.1 n6).1
  exact⟨xs[i],this.trans (List.getElem?_eq_getElem al)⟩
 ·exact(bj hL.symm).elim
theorem uz (a:Addr):a.add 0=a:=by simp[Addr.add]
theorem ly {t e:TypeId} (ht:P.underlying t=some (.slice e)) (hs:0<P.cellsOf e) (Q:AV→Prop) {fuel:Nat} {cs:List Value} {x:DataW H×List MemPlace} (h:ot enc P W fuel t cs=some x)
  (ih:∀n cs y,n<fuel→ot enc P W n e cs=some y→∃xe:AV,Q xe∧ek W xe.cells cs):
  ∃els:List AV,els.length≤maxLen∧(∀y∈els,Q y)∧ek W [.sl els] cs:=by
 rcases DataW.trod_slice ht h with⟨rfl,_⟩|⟨a,len,cap,elems,rest,n,rfl,rfl,rfl,_,hl,hm,hlen,zj,VQ,_⟩
 ·exact⟨[],Nat.zero_le _,fun y hy=>by simp at hy,nF (.jN _) rfl⟩
 ·have VQ:=VQ rfl
  by_cases FI:cap=0
  ·have:len=0:=by omega
   subst this;subst FI
   exact⟨[],Nat.zero_le _,fun y hy=>by simp at hy,nF (.jN _) rfl⟩
  ·
   have KK:a.spot=none:=by
    have key:∀y,(W.cells? 0 a (P.cellsOf e)).bind (ot enc P W n e)=some y→a.spot=none:=by
     intro y hy
     obtain⟨cs',hc,_⟩:=Option.bind_eq_some_iff.1 hy
     obtain⟨_,pf,aw⟩:=World.cells?_some hc
     have h0:=aw 0 hs
     have al:0<cs'.length:=by omega
     rw[List.getElem?_eq_getElem al,uz] at h0
     exact World.cell?_spot h0
    by_cases Lr:len=0
    ·have h2:=VQ.2 0 (by omega)
     have al:0<rest.length:=by rw[VQ.1];omega
     rw[List.getElem?_eq_getElem al,Lr,Nat.add_zero,Nat.zero_mul,uz] at h2
     exact key _ h2
    ·have h2:=zj 0 (by omega)
     have al:0<elems.length:=by omega
     rw[List.getElem?_eq_getElem al,Nat.zero_mul,uz] at h2
     exact key _ h2
   obtain⟨b,o,spot⟩:=a
   simp only at KK
   subst KK
   have each:∀i:Nat,∃p:AV×List Value,i<len→Q p.1∧W.cells? 0 ((⟨b,o,none⟩:Addr).add (i*P.cellsOf e)) (P.cellsOf e)=some p.2∧ek W p.1.cells p.2:=by
    intro i
    by_cases hi:i<len
    ·have h2:=zj i hi
     have al:i<elems.length:=by omega
     rw[List.getElem?_eq_getElem al] at h2
     obtain⟨cs',hc,hy⟩:=Option.bind_eq_some_iff.1 h2
     obtain⟨xe,hq,hr⟩:=ih n cs' _ (by omega) hy
     exact⟨(xe,cs'),fun _=>⟨hq,hc,hr⟩⟩
    ·exact⟨(.top,[]),fun h=>(hi h).elim⟩
   obtain⟨g,hg⟩:=Classical.axiomOfChoice each
   have el:((List.range len).map fun i=>(g i).1).length=len:=by simp
   have get:∀(i:Nat) (y:AV),((List.range len).map fun i=>(g i).1)[i]?=some y→i<len∧y=(g i).1:=by
    intro i y hi
    have al:i<len:=by rw[←el];exact(List.getElem?_eq_some_iff.1 hi).1
    simp[al] at hi
    exact⟨al,hi.symm⟩
   refine⟨(List.range len).map fun i=>(g i).1,by rw[el];exact Nat.le_trans hl hm,fun y hy=>?_,?_⟩
   ·obtain⟨i,hi,rfl⟩:=List.mem_map.1 hy
    exact(hg i (by simpa using hi)).1
   ·have xC:∀(i:Nat) (y:AV) (j:Nat) (z:AV),((List.range len).map fun i=>(g i).1)[i]?=some y→y.cells[j]?=some z→
      i<len∧∃v,(g i).2[j]?=some v∧W.cell? ⟨b,o+i*P.cellsOf e+j,none⟩=some v∧aV W (Old W) [] [] z v∧v.oneCell'=true:=by
     intro i y j z hi hj
     obtain⟨al,rfl⟩:=get i y hi
     obtain⟨_,h2,h3⟩:=hg i al
     have rq:j<(g i).2.length:=by rw[h3.len];exact(List.getElem?_eq_some_iff.1 hj).1
     have hv:(g i).2[j]?=some (g i).2[j]:=List.getElem?_eq_getElem rq
     obtain⟨_,h4,h5⟩:=World.cells?_some h2
     have h6:=h5 j (by omega)
     rw[hv,add_plain,add_plain] at h6
     exact⟨al,_,hv,h6,h3.rep j z _ hj hv,h3.one _ (List.getElem_mem rq)⟩
    have cD:=aV.sl (w:=W) (F:=Old W) (η:=[]) (hp:=[]) (P.cellsOf e) ((List.range len).map fun i=>(g i).1) b o cap (fun i j=>((g i).2).getD j undef) (by rw[el];exact hl) hm
     (fun i y hi=>by
      obtain⟨al,rfl⟩:=get i y hi
      obtain⟨_,h2,h3⟩:=hg i al
      rw[←h3.len];exact(World.cells?_some h2).2.1)
     (fun i y j z hi hj=>by
      obtain⟨_,v,h1,h2,_,h4⟩:=xC i y j z hi hj
      have:((g i).2).getD j undef=v:=by simp[List.getD,h1]
      rw[this]
      exact⟨h2,World.block_lt_of_cell? W _ h2,h4⟩)
     (fun i y j z hi hj=>by
      obtain⟨_,v,h1,_,h3,_⟩:=xC i y j z hi hj
      have:((g i).2).getD j undef=v:=by simp[List.getD,h1]
      rw[this];exact h3)
    rw[el] at cD
    exact nF cD rfl
theorem iN {α:Type} {f:α→AV} {R:α→Prop}:∀{els:List AV},(∀y∈els,∃a,R a∧y=f a)→∃l:List α,(∀a∈l,R a)∧els=l.map f
 | [],_=>⟨[],by simp,rfl⟩
 |y::els,h=>by
  obtain⟨a,h1,rfl⟩:=h y (by simp)
  obtain⟨l,h2,rfl⟩:=iN (els:=els) fun z hz=>h z (List.mem_cons_of_mem _ hz)
  refine⟨a::l,fun b hb=>?_,rfl⟩
  rcases List.mem_cons.1 hb with rfl|h3
  ·exact h1
  ·exact h2 b h3
theorem Rj {cs:List Value} (h:cs.length=2):∃c0 c1,cs=[c0,c1]:=by
 match cs,h with
 | [c0,c1],_=>exact⟨c0,c1,rfl⟩
theorem Rl {cs:List Value} (h:cs.length=4):∃c0 c1 c2 c3,cs=[c0,c1,c2,c3]:=by
 match cs,h with
 | [c0,c1,c2,c3],_=>exact⟨c0,c1,c2,c3,rfl⟩
structure uA (P:Program):Prop where
 Rm:P.underlying 3=some (.int .i64)
 PD:P.underlying 26=some (.slice 116)
 KL:P.underlying 29=some (.slice 31)
 aaY:P.cellsOf 3=1
 KM:P.cellsOf 116=2
 KN:P.cellsOf 31=4
 U7:(match P.underlying 116 with|some (.struct fs)=>fs.toList.map (fun f=>(f.type,f.offset,P.cellsOf f.type))|_=>[])=[(26,0,1),(3,1,1)]
 U8:(match P.underlying 28 with|some (.struct fs)=>fs.toList.map (fun f=>(f.type,f.offset,P.cellsOf f.type))|_=>[])=[(3,0,1),(3,1,1)]
 U9:(match P.underlying 31 with|some (.struct fs)=>fs.toList.map (fun f=>(f.type,f.offset,P.cellsOf f.type))|_=>[])=[(26,0,1),(28,1,2),(29,3,1)]
 ZK:(match P.underlying 31 with|some (.struct _)=>true|_=>false)=true
theorem KO:uA Tryz.prog:=⟨by kernel_rfl,by kernel_rfl,by kernel_rfl,by kernel_rfl,by kernel_rfl,by kernel_rfl,by kernel_rfl,by kernel_rfl,by kernel_rfl,by kernel_rfl⟩
variable {base:Nat} {v:Value} {d:DataW H} {p:List MemPlace} {t:TypeId}
theorem Bt {xs:AV} (h:ek W [xs] v.cells.toList) (hv:v.cells=#[v]):aV W (Old W) [] [] xs v:=by
 rw[hv] at h
 exact h.rep 0 _ _ rfl rfl
theorem Ov {xs:List AV} {cs:Array Value} (h:ek W xs (Value.agg cs).cells.toList):aV W (Old W) [] [] (.agg xs) (.agg cs):=by
 have:=h.agg
 simpa [Value.cells] using this
theorem Gx {e:TypeId} (ht:P.underlying t=some (.slice e)) (hv:Value.okWide P W .any base t v):v.cells=#[v]:=by
 obtain⟨a,len,cap,rfl⟩:=okWide_slice ht hv
 rfl
theorem Dz (ht:(match P.underlying t with|some (.struct _)=>true|_=>false)=true) (hv:Value.okWide P W .any base t v):∃cs,v=.agg cs:=by
 split at ht
 ·rename_i fs hu
  simp only[Value.okWide,hu] at hv
  obtain⟨cs,rfl,_⟩:=hv
  exact⟨cs,rfl⟩
 ·cases ht
end Go.Proofs.YtdcikhleahfknaaGreatDoor
