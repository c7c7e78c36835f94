/- Texts of ours laid together for a claim: J03. -/
import Derived.Test.YtdcikhleahfknaaGreatDoorQ47
namespace Go.Proofs.YtdcikhleahfknaaGreatDoor
open Go Go.ChangeShapes Go.WideShapes Go.ChangeAt Go.RowKit
set_option linter.unusedSimpArgs false
set_option linter.unusedVariables false
variable {H:Type} {enc:TypeId×Value->H} {P:Program} {W:World}
def Old (W:World) (b _o:Nat):Prop:=b<W.heap.size
structure eC (W:World) (xs:List AV) (cs:List Value):Prop where
 len:cs.length=xs.length
 rep:∀(j:Nat) (x:AV) (v:Value),xs[j]?=some x->cs[j]?=some v->bm W (Old W) [] [] x v
 one:∀v:Value,v∈cs->v.oneCell'=true
abbrev n6 (enc:TypeId×Value->H) (P:Program) (W:World):Nat->TypeId->List Value->Option (DataW H×List MemPlace):=DataW.trod enc P W 0 (fun _=>true) true
theorem pV {x:AV} {v:Value} (h:bm W (Old W) [] [] x v) (h1:v.oneCell'=true):eC W [x] [v]:=by
 refine⟨rfl,fun j y u hy hu=>?_,fun u hu=>by rw[amc.1 hu];exact h1⟩
 cases j with
 |zero=>simp at hy hu;subst hy;subst hu;exact h
 |succ j=>simp at hy
theorem eC.append {xs ys:List AV} {cs ds:List Value} (h:eC W xs cs) (k:eC W ys ds):eC W (xs++ys) (cs++ds):=by
 refine⟨by rw[alz,alz,h.len,k.len],fun j x v hx hv=>?_,fun v hv=>?_⟩
 ·by_cases hj:j<xs.length
  ·rw[alH hj] at hx;rw[alH (by rw[h.len];exact hj)] at hv;exact h.rep j x v hx hv
  ·rw[amb (by omega)] at hx;rw[amb (by rw[h.len];omega),h.len] at hv;exact k.rep _ x v hx hv
 ·rcases amn.1 hv with h1|h1
  ·exact h.one v h1
  ·exact k.one v h1
theorem eC.agg {xs:List AV} {cs:List Value} (h:eC W xs cs):bm W (Old W) [] [] (.agg xs) (.agg cs.toArray):=
 .agg xs cs.toArray (by simp[h.len]) (fun v hv=>h.one v (by simpa using hv)) fun j x v hx hv=>h.rep j x v hx (by simpa using hv)
theorem ij {t:TypeId} (ht:P.underlying t=some (.int .i64)) {fuel:Nat} {cs:List Value} {x:DataW H×List MemPlace} (h:n6 enc P W fuel t cs=some x):
  ∃n:Int,jm n/\eC W [nI n] cs:=by
 obtain⟨n,rfl,_,hw⟩:=DataW.trod_int ht h;refine⟨n,?_,pV (.ae _) rfl⟩;simp[Lit.wf,IntKind.min,IntKind.max,IntKind.signed,IntKind.bits] at hw;unfold jm;omega
theorem fp {t:TypeId} {L:List (TypeId×Nat×Nat)} (hL:(match P.underlying t with|some (.struct fs)=>fs.toList.map (fun f=>(f.type,f.offset,P.cellsOf f.type))|_=>[])=L) (bu:L≠[])
  {fuel:Nat} {cs:List Value} {x:DataW H×List MemPlace} (h:n6 enc P W fuel t cs=some x):
  ∃n,n<fuel/\cs.length=P.cellsOf t/\∀p∈L,∃y,n6 enc P W n p.1 ((cs.drop p.2.1).take p.2.2)=some y:=by
 split at hL
 ·rename_i fs hu;obtain⟨xs,n,rfl,_,hlen,Sv,hf⟩:=DataW.trod_struct hu h;refine⟨n,by omega,hlen,fun p hp=>?_⟩;rw[<-hL] at hp;obtain⟨f,hfm,rfl⟩:=amz.1 hp;obtain⟨i,hi⟩:=amC hfm;have qu:fs[i]?=some f:=by simpa using hi
  have:=hf i f qu;have ak:i<xs.length:=by rw[Sv];exact(alY.1 qu).1
  exact⟨xs[i],this.trans (aly ak)⟩
 ·exact(bu hL.symm).elim
theorem xV (a:Addr):a.add 0=a:=by simp[Addr.add]
theorem ku {t e:TypeId} (ht:P.underlying t=some (.slice e)) (hs:0<P.cellsOf e) (Q:AV->Prop) {fuel:Nat} {cs:List Value} {x:DataW H×List MemPlace} (h:n6 enc P W fuel t cs=some x)
  (ih:∀n cs y,n<fuel->n6 enc P W n e cs=some y->∃xe:AV,Q xe/\eC W xe.cells cs):
  ∃els:List AV,els.length<=maxLen/\(∀y∈els,Q y)/\eC W [.sl els] cs:=by
 rcases DataW.trod_slice ht h with⟨rfl,_⟩|⟨a,len,cap,elems,rest,n,rfl,rfl,rfl,_,hl,hm,hlen,Dq,FD,_⟩
 ·exact⟨[],alE _,fun y hy=>by simp at hy,pV (.lL _) rfl⟩
 ·have FD:=FD rfl
  by_cases G4:cap=0
  ·have:len=0:=by omega
   subst this;subst G4;exact⟨[],alE _,fun y hy=>by simp at hy,pV (.lL _) rfl⟩
  ·
   have Rt:a.spot=none:=by
    have key:∀y,(W.cells? 0 a (P.cellsOf e)).bind (n6 enc P W n e)=some y->a.spot=none:=by
     intro y hy;obtain⟨cs',hc,_⟩:=amm.1 hy;obtain⟨_,rJ,aE⟩:=World.cells?_some hc;have h0:=aE 0 hs;have ak:0<cs'.length:=by omega
     rw[aly ak,xV] at h0;exact World.cell?_spot h0
    by_cases Jt:len=0
    ·have h2:=FD.2 0 (by omega);have ak:0<rest.length:=by rw[FD.1];omega
     rw[aly ak,Jt,amy,Nat.zero_mul,xV] at h2;exact key _ h2
    ·have h2:=Dq 0 (by omega);have ak:0<elems.length:=by omega
     rw[aly ak,Nat.zero_mul,xV] at h2;exact key _ h2
   obtain⟨b,o,spot⟩:=a;simp only at Rt;subst Rt;have each:∀i:Nat,∃p:AV×List Value,i<len->Q p.1/\W.cells? 0 ((⟨b,o,none⟩:Addr).add (i*P.cellsOf e)) (P.cellsOf e)=some p.2/\eC W p.1.cells p.2:=by
    intro i
    by_cases hi:i<len
    ·have h2:=Dq i hi;have ak:i<elems.length:=by omega
     rw[aly ak] at h2;obtain⟨cs',hc,hy⟩:=amm.1 h2;obtain⟨xe,hq,hr⟩:=ih n cs' _ (by omega) hy;exact⟨(xe,cs'),fun _=>⟨hq,hc,hr⟩⟩
    ·exact⟨(.top,[]),fun h=>(hi h).elim⟩
   obtain⟨g,hg⟩:=Classical.axiomOfChoice each;have el:((List.range len).map fun i=>(g i).1).length=len:=by simp
   have get:∀(i:Nat) (y:AV),((List.range len).map fun i=>(g i).1)[i]?=some y->i<len/\y=(g i).1:=by
    intro i y hi;have ak:i<len:=by rw[<-el];exact(alu.1 hi).1
    simp[ak] at hi;exact⟨ak,hi.symm⟩
   refine⟨(List.range len).map fun i=>(g i).1,by rw[el];exact amf hl hm,fun y hy=>?_,?_⟩
   ·obtain⟨i,hi,rfl⟩:=amz.1 hy;exact(hg i (by simpa using hi)).1
   ·have Bx:∀(i:Nat) (y:AV) (j:Nat) (z:AV),((List.range len).map fun i=>(g i).1)[i]?=some y->y.cells[j]?=some z->
      i<len/\∃v,(g i).2[j]?=some v/\W.cell? ⟨b,o+i*P.cellsOf e+j,none⟩=some v/\bm W (Old W) [] [] z v/\v.oneCell'=true:=by
     intro i y j z hi hj;obtain⟨ak,rfl⟩:=get i y hi;obtain⟨_,h2,h3⟩:=hg i ak;have qm:j<(g i).2.length:=by rw[h3.len];exact(alu.1 hj).1
     have hv:(g i).2[j]?=some (g i).2[j]:=aly qm;obtain⟨_,h4,h5⟩:=World.cells?_some h2;have h6:=h5 j (by omega);rw[hv,add_plain,add_plain] at h6;exact⟨ak,_,hv,h6,h3.rep j z _ hj hv,h3.one _ (alG qm)⟩
    have cX:=bm.sl (w:=W) (F:=Old W) (η:=[]) (hp:=[]) (P.cellsOf e) ((List.range len).map fun i=>(g i).1) b o cap (fun i j=>((g i).2).getD j undef) (by rw[el];exact hl) hm
     (fun i y hi=>by
      obtain⟨ak,rfl⟩:=get i y hi;obtain⟨_,h2,h3⟩:=hg i ak
      rw[<-h3.len];exact(World.cells?_some h2).2.1)
     (fun i y j z hi hj=>by
      obtain⟨_,v,h1,h2,_,h4⟩:=Bx i y j z hi hj;have:((g i).2).getD j undef=v:=by simp[List.getD,h1]
      rw[this]
      exact⟨h2,World.block_lt_of_cell? W _ h2,h4⟩)
     (fun i y j z hi hj=>by
      obtain⟨_,v,h1,_,h3,_⟩:=Bx i y j z hi hj;have:((g i).2).getD j undef=v:=by simp[List.getD,h1]
      rw[this];exact h3)
    rw[el] at cX;exact pV cX rfl
theorem nw {α:Type} {f:α->AV} {R:α->Prop}:∀{els:List AV},(∀y∈els,∃a,R a/\y=f a)->∃l:List α,(∀a∈l,R a)/\els=l.map f
 | [],_=>⟨[],by simp,rfl⟩
 |y::els,h=>by
  obtain⟨a,h1,rfl⟩:=h y (by simp);obtain⟨l,h2,rfl⟩:=nw (els:=els) fun z hz=>h z (alR _ hz);refine⟨a::l,fun b hb=>?_,rfl⟩;rcases al6.1 hb with rfl|h3
  ·exact h1
  ·exact h2 b h3
theorem Il {cs:List Value} (h:cs.length=2):∃c0 c1,cs=[c0,c1]:=by
 match cs,h with
 | [c0,c1],_=>exact⟨c0,c1,rfl⟩
theorem Zx {cs:List Value} (h:cs.length=4):∃c0 c1 c2 c3,cs=[c0,c1,c2,c3]:=by
 match cs,h with
 | [c0,c1,c2,c3],_=>exact⟨c0,c1,c2,c3,rfl⟩
structure qD (P:Program):Prop where
 Cv:P.underlying 3=some (.int .i64)
 XK:P.underlying 26=some (.slice 116)
 adi:P.underlying 29=some (.slice 31)
 ahd:P.cellsOf 3=1
 Ru:P.cellsOf 116=2
 XL:P.cellsOf 31=4
 adj:(match P.underlying 116 with|some (.struct fs)=>fs.toList.map (fun f=>(f.type,f.offset,P.cellsOf f.type))|_=>[])=[(26,0,1),(3,1,1)]
 adk:(match P.underlying 28 with|some (.struct fs)=>fs.toList.map (fun f=>(f.type,f.offset,P.cellsOf f.type))|_=>[])=[(3,0,1),(3,1,1)]
 adl:(match P.underlying 31 with|some (.struct fs)=>fs.toList.map (fun f=>(f.type,f.offset,P.cellsOf f.type))|_=>[])=[(26,0,1),(28,1,2),(29,3,1)]
 aiA:(match P.underlying 31 with|some (.struct _)=>true|_=>false)=true
theorem KP:qD Tryz.prog:=⟨by kernel_rfl,by kernel_rfl,by kernel_rfl,by kernel_rfl,by kernel_rfl,by kernel_rfl,by kernel_rfl,by kernel_rfl,by kernel_rfl,by kernel_rfl⟩
variable {base:Nat} {v:Value} {d:DataW H} {p:List MemPlace} {t:TypeId}
theorem Cw {xs:List AV} {cs:Array Value} (h:eC W xs (Value.agg cs).cells.toList):bm W (Old W) [] [] (.agg xs) (.agg cs):=by
 have:=h.agg;simpa [Value.cells] using this
theorem q8 (ht:(match P.underlying t with|some (.struct _)=>true|_=>false)=true) (hv:Value.okWide P W .any base t v):∃cs,v=.agg cs:=by
 split at ht
 ·rename_i fs hu;simp only[Value.okWide,hu] at hv;obtain⟨cs,rfl,_⟩:=hv;exact⟨cs,rfl⟩
 ·cases ht
end Go.Proofs.YtdcikhleahfknaaGreatDoor
