/- Texts of ours laid together for a claim: J03. -/
import Derived.Test.YtjhanogfpkbamaaGreatDoorQ45
namespace Go.Proofs.YtjhanogfpkbamaaGreatDoor
open Go Go.ChangeShapes Go.WideShapes Go.ChangeAt Go.RowKit
set_option linter.unusedSimpArgs false
set_option linter.unusedVariables false
variable {H:Type} {enc:TypeId×Value→H} {P:Program} {W:World}
def Old (W:World) (b _o:Nat):Prop:=b<W.heap.size
structure ReadC (W:World) (xs:List AV) (cs:List Value):Prop where
 len:cs.length=xs.length
 rep:∀(j:Nat) (x:AV) (v:Value),xs[j]?=some x→cs[j]?=some v→Rep W (Old W) [] [] x v
 one:∀v:Value,v∈cs→v.oneCell'=true
abbrev trodF (enc:TypeId×Value→H) (P:Program) (W:World):Nat→TypeId→List Value→Option (DataW H×List MemPlace):=DataW.trod enc P W 0 (fun _=>true) true
theorem readC_one {x:AV} {v:Value} (h:Rep W (Old W) [] [] x v) (h1:v.oneCell'=true):ReadC W [x] [v]:=by
 refine⟨rfl,fun j y u hy hu=>?_,fun u hu=>by rw[List.mem_singleton.1 hu];exact h1⟩
 cases j with
 |zero=>simp at hy hu;subst hy;subst hu;exact h
 |succ j=>simp at hy
theorem ReadC.append {xs ys:List AV} {cs ds:List Value} (h:ReadC W xs cs) (k:ReadC W ys ds):ReadC W (xs++ys) (cs++ds):=by
 refine⟨by rw[List.length_append,List.length_append,h.len,k.len],fun j x v hx hv=>?_,fun v hv=>?_⟩
 ·by_cases hj:j<xs.length
  ·rw[List.getElem?_append_left hj] at hx
   rw[List.getElem?_append_left (by rw[h.len];exact hj)] at hv
   exact h.rep j x v hx hv
  ·rw[List.getElem?_append_right (by omega)] at hx
   rw[List.getElem?_append_right (by rw[h.len];omega),h.len] at hv
   exact k.rep _ x v hx hv
 ·rcases List.mem_append.1 hv with h1|h1
  ·exact h.one v h1
  ·exact k.one v h1
theorem read_int {t:TypeId} (ht:P.underlying t=some (.int .i64)) {fuel:Nat} {cs:List Value} {x:DataW H×List MemPlace} (h:trodF enc P W fuel t cs=some x):
  ∃n:Int,I64 n∧ReadC W [nI n] cs:=by
 obtain⟨n,rfl,_,hw⟩:=DataW.trod_int ht h
 refine⟨n,?_,readC_one (.prim _) rfl⟩
 simp[Lit.wf,IntKind.min,IntKind.max,IntKind.signed,IntKind.bits] at hw
 unfold I64;omega
theorem read_struct {t:TypeId} {L:List (TypeId×Nat×Nat)} (hL:(match P.underlying t with|some (.struct fs)=>fs.toList.map (fun f=>(f.type,f.offset,P.cellsOf f.type))|_=>[])=L) (hne:L≠[])
  {fuel:Nat} {cs:List Value} {x:DataW H×List MemPlace} (h:trodF enc P W fuel t cs=some x):
  ∃n,n<fuel∧cs.length=P.cellsOf t∧∀p∈L,∃y,trodF enc P W n p.1 ((cs.drop p.2.1).take p.2.2)=some y:=by
 split at hL
 ·rename_i fs hu
  obtain⟨xs,n,rfl,_,hlen,hxs,hf⟩:=DataW.trod_struct hu h
  refine⟨n,by omega,hlen,fun p hp=>?_⟩
  rw[←hL] at hp
  obtain⟨f,hfm,rfl⟩:=List.mem_map.1 hp
  obtain⟨i,hi⟩:=List.getElem?_of_mem hfm
  have hi':fs[i]?=some f:=by simpa using hi
  have:=hf i f hi'
  have hlt:i<xs.length:=by rw[hxs];exact(Array.getElem?_eq_some_iff.1 hi').1
  exact⟨xs[i],this.trans (List.getElem?_eq_getElem hlt)⟩
 ·exact(hne hL.symm).elim
theorem add_none (a:Addr):a.add 0=a:=by simp[Addr.add]
theorem read_slice {t e:TypeId} (ht:P.underlying t=some (.slice e)) (hs:0<P.cellsOf e) (Q:AV→Prop) {fuel:Nat} {cs:List Value} {x:DataW H×List MemPlace} (h:trodF enc P W fuel t cs=some x)
  (ih:∀n cs y,n<fuel→trodF enc P W n e cs=some y→∃xe:AV,Q xe∧ReadC W xe.cells cs):
  ∃els:List AV,els.length≤maxLen∧(∀y∈els,Q y)∧ReadC W [.sl els] cs:=by
 rcases DataW.trod_slice ht h with⟨rfl,_⟩|⟨a,len,cap,elems,rest,n,rfl,rfl,rfl,_,hl,hm,hlen,hel,hsp,_⟩
 ·exact⟨[],Nat.zero_le _,fun y hy=>by simp at hy,readC_one (.sl0 _) rfl⟩
 ·have hsp:=hsp rfl
  by_cases hc0:cap=0
  ·have:len=0:=by omega
   subst this;subst hc0
   exact⟨[],Nat.zero_le _,fun y hy=>by simp at hy,readC_one (.sl0 _) rfl⟩
  ·
   have hplain:a.spot=none:=by
    have key:∀y,(W.cells? 0 a (P.cellsOf e)).bind (trodF enc P W n e)=some y→a.spot=none:=by
     intro y hy
     obtain⟨cs',hc,_⟩:=Option.bind_eq_some_iff.1 hy
     obtain⟨_,hlen',hcell⟩:=World.cells?_some hc
     have h0:=hcell 0 hs
     have hlt:0<cs'.length:=by omega
     rw[List.getElem?_eq_getElem hlt,add_none] at h0
     exact World.cell?_spot h0
    by_cases hl0:len=0
    ·have h2:=hsp.2 0 (by omega)
     have hlt:0<rest.length:=by rw[hsp.1];omega
     rw[List.getElem?_eq_getElem hlt,hl0,Nat.add_zero,Nat.zero_mul,add_none] at h2
     exact key _ h2
    ·have h2:=hel 0 (by omega)
     have hlt:0<elems.length:=by omega
     rw[List.getElem?_eq_getElem hlt,Nat.zero_mul,add_none] at h2
     exact key _ h2
   obtain⟨b,o,spot⟩:=a
   simp only at hplain
   subst hplain
   have each:∀i:Nat,∃p:AV×List Value,i<len→Q p.1∧W.cells? 0 ((⟨b,o,none⟩:Addr).add (i*P.cellsOf e)) (P.cellsOf e)=some p.2∧ReadC W p.1.cells p.2:=by
    intro i
    by_cases hi:i<len
    ·have h2:=hel i hi
     have hlt:i<elems.length:=by omega
     rw[List.getElem?_eq_getElem hlt] at h2
     obtain⟨cs',hc,hy⟩:=Option.bind_eq_some_iff.1 h2
     obtain⟨xe,hq,hr⟩:=ih n cs' _ (by omega) hy
     exact⟨(xe,cs'),fun _=>⟨hq,hc,hr⟩⟩
    ·exact⟨(.top,[]),fun h=>(hi h).elim⟩
   obtain⟨g,hg⟩:=Classical.axiomOfChoice each
   have el:((List.range len).map fun i=>(g i).1).length=len:=by simp
   have get:∀(i:Nat) (y:AV),((List.range len).map fun i=>(g i).1)[i]?=some y→i<len∧y=(g i).1:=by
    intro i y hi
    have hlt:i<len:=by rw[←el];exact(List.getElem?_eq_some_iff.1 hi).1
    simp[hlt] at hi
    exact⟨hlt,hi.symm⟩
   refine⟨(List.range len).map fun i=>(g i).1,by rw[el];exact Nat.le_trans hl hm,fun y hy=>?_,?_⟩
   ·obtain⟨i,hi,rfl⟩:=List.mem_map.1 hy
    exact(hg i (by simpa using hi)).1
   ·have hcells:∀(i:Nat) (y:AV) (j:Nat) (z:AV),((List.range len).map fun i=>(g i).1)[i]?=some y→y.cells[j]?=some z→
      i<len∧∃v,(g i).2[j]?=some v∧W.cell? ⟨b,o+i*P.cellsOf e+j,none⟩=some v∧Rep W (Old W) [] [] z v∧v.oneCell'=true:=by
     intro i y j z hi hj
     obtain⟨hlt,rfl⟩:=get i y hi
     obtain⟨_,h2,h3⟩:=hg i hlt
     have hjl:j<(g i).2.length:=by rw[h3.len];exact(List.getElem?_eq_some_iff.1 hj).1
     have hv:(g i).2[j]?=some (g i).2[j]:=List.getElem?_eq_getElem hjl
     obtain⟨_,h4,h5⟩:=World.cells?_some h2
     have h6:=h5 j (by omega)
     rw[hv,add_plain,add_plain] at h6
     exact⟨hlt,_,hv,h6,h3.rep j z _ hj hv,h3.one _ (List.getElem_mem hjl)⟩
    have hrep:=Rep.sl (w:=W) (F:=Old W) (η:=[]) (hp:=[]) (P.cellsOf e) ((List.range len).map fun i=>(g i).1) b o cap (fun i j=>((g i).2).getD j undef) (by rw[el];exact hl) hm
     (fun i y hi=>by
      obtain⟨hlt,rfl⟩:=get i y hi
      obtain⟨_,h2,h3⟩:=hg i hlt
      rw[←h3.len];exact(World.cells?_some h2).2.1)
     (fun i y j z hi hj=>by
      obtain⟨_,v,h1,h2,_,h4⟩:=hcells i y j z hi hj
      have:((g i).2).getD j undef=v:=by simp[List.getD,h1]
      rw[this]
      exact⟨h2,World.block_lt_of_cell? W _ h2,h4⟩)
     (fun i y j z hi hj=>by
      obtain⟨_,v,h1,_,h3,_⟩:=hcells i y j z hi hj
      have:((g i).2).getD j undef=v:=by simp[List.getD,h1]
      rw[this];exact h3)
    rw[el] at hrep
    exact readC_one hrep rfl
theorem typed_list {α:Type} {f:α→AV} {R:α→Prop}:∀{els:List AV},(∀y∈els,∃a,R a∧y=f a)→∃l:List α,(∀a∈l,R a)∧els=l.map f
 | [],_=>⟨[],by simp,rfl⟩
 |y::els,h=>by
  obtain⟨a,h1,rfl⟩:=h y (by simp)
  obtain⟨l,h2,rfl⟩:=typed_list (els:=els) fun z hz=>h z (List.mem_cons_of_mem _ hz)
  refine⟨a::l,fun b hb=>?_,rfl⟩
  rcases List.mem_cons.1 hb with rfl|h3
  ·exact h1
  ·exact h2 b h3
theorem split2 {cs:List Value} (h:cs.length=2):∃c0 c1,cs=[c0,c1]:=by
 match cs,h with
 | [c0,c1],_=>exact⟨c0,c1,rfl⟩
theorem split4 {cs:List Value} (h:cs.length=4):∃c0 c1 c2 c3,cs=[c0,c1,c2,c3]:=by
 match cs,h with
 | [c0,c1,c2,c3],_=>exact⟨c0,c1,c2,c3,rfl⟩
structure SortsN (P:Program):Prop where
 und28:P.underlying 42=some (.slice 3)
theorem sortsN:SortsN Tryz.prog:=⟨by kernel_rfl⟩
structure Sorts (P:Program):Prop where
 und3:P.underlying 3=some (.int .i64)
 und22:P.underlying 54=some (.slice 163)
 und25:P.underlying 56=some (.slice 58)
 cel3:P.cellsOf 3=1
 cel72:P.cellsOf 163=2
 cel27:P.cellsOf 58=4
 fld72:(match P.underlying 163 with|some (.struct fs)=>fs.toList.map (fun f=>(f.type,f.offset,P.cellsOf f.type))|_=>[])=[(54,0,1),(3,1,1)]
 fld24:(match P.underlying 55 with|some (.struct fs)=>fs.toList.map (fun f=>(f.type,f.offset,P.cellsOf f.type))|_=>[])=[(3,0,1),(3,1,1)]
 fld27:(match P.underlying 58 with|some (.struct fs)=>fs.toList.map (fun f=>(f.type,f.offset,P.cellsOf f.type))|_=>[])=[(54,0,1),(55,1,2),(56,3,1)]
 str27:(match P.underlying 58 with|some (.struct _)=>true|_=>false)=true
theorem sorts:Sorts Tryz.prog:=⟨by kernel_rfl,by kernel_rfl,by kernel_rfl,by kernel_rfl,by kernel_rfl,by kernel_rfl,by kernel_rfl,by kernel_rfl,by kernel_rfl,by kernel_rfl⟩
theorem read_nums (S:Sorts P) (Q:SortsN P) {fuel:Nat} {cs:List Value} {x:DataW H×List MemPlace} (h:trodF enc P W fuel 42 cs=some x):∃l:List Int,(∀i∈l,I64 i)∧ReadC W [.sl (encInts l)] cs:=by
 obtain⟨els,_,h1,h2⟩:=read_slice Q.und28 (by rw[S.cel3];omega) (fun y=>∃n:Int,I64 n∧y=nI n) h fun n cs y _ hy=>by
  obtain⟨i,hi,hr⟩:=read_int S.und3 hy
  exact⟨nI i,⟨i,hi,rfl⟩,hr⟩
 obtain⟨l,h3,rfl⟩:=typed_list h1
 exact⟨l,h3,h2⟩
variable {base:Nat} {v:Value} {d:DataW H} {p:List MemPlace} {t:TypeId}
theorem arg_cell {xs:AV} (h:ReadC W [xs] v.cells.toList) (hv:v.cells=#[v]):Rep W (Old W) [] [] xs v:=by
 rw[hv] at h
 exact h.rep 0 _ _ rfl rfl
theorem arg_slice {e:TypeId} (ht:P.underlying t=some (.slice e)) (hv:Value.okWide P W .any base t v):v.cells=#[v]:=by
 obtain⟨a,len,cap,rfl⟩:=okWide_slice ht hv
 rfl
theorem arg_nums (S:Sorts P) (Q:SortsN P) (hv:Value.okWide P W .any base 42 v) (h:DataW.Trod enc P W 0 (fun _=>true) true 42 v d p):∃l:List Int,(∀i∈l,I64 i)∧Rep W (Old W) [] [] (.sl (encInts l)) v:=by
 obtain⟨fuel,hf⟩:=h
 obtain⟨l,h1,h2⟩:=read_nums S Q hf
 exact⟨l,h1,arg_cell h2 (arg_slice Q.und28 hv)⟩
end Go.Proofs.YtjhanogfpkbamaaGreatDoor
