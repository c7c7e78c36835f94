/- Texts of ours laid together for a claim: J03. -/
import Derived.Test.YtnkjkpmbgoehkaaGreatQ42
namespace Go.Proofs.YtnkjkpmbgoehkaaGreat
open Go Go.ChangeShapes Go.WideShapes Go.ChangeAt Go.RowKit
set_option linter.unusedSimpArgs false
set_option linter.unusedVariables false
variable {H:Type} {enc:TypeId×Value->H} {P:Program} {W:World}
def Old (W:World) (b _o:Nat):Prop:=b<W.heap.size
structure pT (W:World) (xs:List AV) (cs:List Value):Prop where
 len:cs.length=xs.length
 rep:∀(j:Nat) (x:AV) (v:Value),xs[j]?=some x->cs[j]?=some v->ba W (Old W) [] [] x v
 one:∀v:Value,v∈cs->v.oneCell'=true
abbrev Gx (enc:TypeId×Value->H) (P:Program) (W:World):Nat->TypeId->List Value->Option (DataW H×List MemPlace):=DataW.trod enc P W 0 (fun _=>true) true
theorem qk {x:AV} {v:Value} (h:ba W (Old W) [] [] x v) (h1:v.oneCell'=true):pT W [x] [v]:=by
 refine⟨rfl,fun j y u hy hu=>?_,fun u hu=>by rw[alG.1 hu];exact h1⟩
 cases j with
 |zero=>simp at hy hu;subst hy;subst hu;exact h
 |succ j=>simp at hy
theorem pT.append {xs ys:List AV} {cs ds:List Value} (h:pT W xs cs) (k:pT W ys ds):pT W (xs++ys) (cs++ds):=by
 refine⟨by rw[alA,alA,h.len,k.len],fun j x v hx hv=>?_,fun v hv=>?_⟩
 ·by_cases hj:j<xs.length
  ·rw[alr hj] at hx;rw[alr (by rw[h.len];exact hj)] at hv;exact h.rep j x v hx hv
  ·rw[alO (by omega)] at hx;rw[alO (by rw[h.len];omega),h.len] at hv;exact k.rep _ x v hx hv
 ·rcases amc.1 hv with h1|h1
  ·exact h.one v h1
  ·exact k.one v h1
theorem y6 {t:TypeId} (ht:P.underlying t=some (.int .i64)) {fuel:Nat} {cs:List Value} {x:DataW H×List MemPlace} (h:Gx enc P W fuel t cs=some x):
  ∃n:Int,lk n/\pT W [nI n] cs:=by
 obtain⟨n,rfl,_,hw⟩:=DataW.trod_int ht h;refine⟨n,?_,qk (.ae _) rfl⟩;simp[Lit.wf,IntKind.min,IntKind.max,IntKind.signed,IntKind.bits] at hw;unfold lk;omega
theorem y7 (a:Addr):a.add 0=a:=by simp[Addr.add]
theorem IM {t e:TypeId} (ht:P.underlying t=some (.slice e)) (hs:0<P.cellsOf e) (Q:AV->Prop) {fuel:Nat} {cs:List Value} {x:DataW H×List MemPlace} (h:Gx enc P W fuel t cs=some x)
  (ih:∀n cs y,n<fuel->Gx enc P W n e cs=some y->∃xe:AV,Q xe/\pT W xe.cells cs):
  ∃els:List AV,els.length<=maxLen/\(∀y∈els,Q y)/\pT W [.sl els] cs:=by
 rcases DataW.trod_slice ht h with⟨rfl,_⟩|⟨a,len,cap,elems,rest,n,rfl,rfl,rfl,_,hl,hm,hlen,zd,YQ,_⟩
 ·exact⟨[],aly _,fun y hy=>by simp at hy,qk (.oc _) rfl⟩
 ·have YQ:=YQ rfl
  by_cases MZ:cap=0
  ·have:len=0:=by omega
   subst this;subst MZ;exact⟨[],aly _,fun y hy=>by simp at hy,qk (.oc _) rfl⟩
  ·
   have SK:a.spot=none:=by
    have key:∀y,(W.cells? 0 a (P.cellsOf e)).bind (Gx enc P W n e)=some y->a.spot=none:=by
     intro y hy;obtain⟨eQ,hc,_⟩:=alZ.1 hy;obtain⟨_,rU,aA⟩:=World.cells?_some hc;have h0:=aA 0 hs;have aq:0<eQ.length:=by omega
     rw[alo aq,y7] at h0;exact World.cell?_spot h0
    by_cases M0:len=0
    ·have h2:=YQ.2 0 (by omega);have aq:0<rest.length:=by rw[YQ.1];omega
     rw[alo aq,M0,amh,Nat.zero_mul,y7] at h2;exact key _ h2
    ·have h2:=zd 0 (by omega);have aq:0<elems.length:=by omega
     rw[alo aq,Nat.zero_mul,y7] at h2;exact key _ h2
   obtain⟨b,o,spot⟩:=a;simp only at SK;subst SK;have each:∀i:Nat,∃p:AV×List Value,i<len->Q p.1/\W.cells? 0 ((⟨b,o,none⟩:Addr).add (i*P.cellsOf e)) (P.cellsOf e)=some p.2/\pT W p.1.cells p.2:=by
    intro i
    by_cases hi:i<len
    ·have h2:=zd i hi;have aq:i<elems.length:=by omega
     rw[alo aq] at h2;obtain⟨eQ,hc,hy⟩:=alZ.1 h2;obtain⟨xe,hq,hr⟩:=ih n eQ _ (by omega) hy;exact⟨(xe,eQ),fun _=>⟨hq,hc,hr⟩⟩
    ·exact⟨(.top,[]),fun h=>(hi h).elim⟩
   obtain⟨g,hg⟩:=Classical.axiomOfChoice each;have el:((List.range len).map fun i=>(g i).1).length=len:=by simp
   have get:∀(i:Nat) (y:AV),((List.range len).map fun i=>(g i).1)[i]?=some y->i<len/\y=(g i).1:=by
    intro i y hi;have aq:i<len:=by rw[<-el];exact(ali.1 hi).1
    simp[aq] at hi;exact⟨aq,hi.symm⟩
   refine⟨(List.range len).map fun i=>(g i).1,by rw[el];exact alT hl hm,fun y hy=>?_,?_⟩
   ·obtain⟨i,hi,rfl⟩:=amg.1 hy;exact(hg i (by simpa using hi)).1
   ·have Bp:∀(i:Nat) (y:AV) (j:Nat) (z:AV),((List.range len).map fun i=>(g i).1)[i]?=some y->y.cells[j]?=some z->
      i<len/\∃v,(g i).2[j]?=some v/\W.cell? ⟨b,o+i*P.cellsOf e+j,none⟩=some v/\ba W (Old W) [] [] z v/\v.oneCell'=true:=by
     intro i y j z hi hj;obtain⟨aq,rfl⟩:=get i y hi;obtain⟨_,h2,h3⟩:=hg i aq;have uG:j<(g i).2.length:=by rw[h3.len];exact(ali.1 hj).1
     have hv:(g i).2[j]?=some (g i).2[j]:=alo uG;obtain⟨_,h4,h5⟩:=World.cells?_some h2;have h6:=h5 j (by omega);rw[hv,add_plain,add_plain] at h6;exact⟨aq,_,hv,h6,h3.rep j z _ hj hv,h3.one _ (alH uG)⟩
    have dG:=ba.sl (w:=W) (F:=Old W) (η:=[]) (hp:=[]) (P.cellsOf e) ((List.range len).map fun i=>(g i).1) b o cap (fun i j=>((g i).2).getD j undef) (by rw[el];exact hl) hm
     (fun i y hi=>by
      obtain⟨aq,rfl⟩:=get i y hi;obtain⟨_,h2,h3⟩:=hg i aq
      rw[<-h3.len];exact(World.cells?_some h2).2.1)
     (fun i y j z hi hj=>by
      obtain⟨_,v,h1,h2,_,h4⟩:=Bp i y j z hi hj;have:((g i).2).getD j undef=v:=by simp[List.getD,h1]
      rw[this]
      exact⟨h2,World.block_lt_of_cell? W _ h2,h4⟩)
     (fun i y j z hi hj=>by
      obtain⟨_,v,h1,_,h3,_⟩:=Bp i y j z hi hj;have:((g i).2).getD j undef=v:=by simp[List.getD,h1]
      rw[this];exact h3)
    rw[el] at dG;exact qk dG rfl
variable {base:Nat} {v:Value} {d:DataW H} {p:List MemPlace} {t:TypeId}
theorem Gy {xs:AV} (h:pT W [xs] v.cells.toList) (hv:v.cells=#[v]):ba W (Old W) [] [] xs v:=by
 rw[hv] at h;exact h.rep 0 _ _ rfl rfl
theorem Mx {e:TypeId} (ht:P.underlying t=some (.slice e)) (hv:Value.okWide P W .any base t v):v.cells=#[v]:=by
 obtain⟨a,len,cap,rfl⟩:=okWide_slice ht hv;rfl
end Go.Proofs.YtnkjkpmbgoehkaaGreat
