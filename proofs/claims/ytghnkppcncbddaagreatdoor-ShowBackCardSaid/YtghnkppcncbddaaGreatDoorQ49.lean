/- Texts of ours laid together for a claim: J22. -/
import Derived.Test.YtghnkppcncbddaaGreatDoorQ48
namespace Go.Proofs.YtghnkppcncbddaaGreatDoor
open Go Go.ChangeShapes Go.WideShapes Go.ChangeAt Go.RowKit
set_option linter.unusedSimpArgs false
set_option linter.unusedVariables false
section
variable {H:Type} {enc:TypeId×Value→H} {P:Program} {W:World}
structure SortsI (P:Program):Prop where
 T:SortsT P
 undS:P.underlying 22=some (.slice 9)
 cel9:P.cellsOf 9=1
 undI:P.underlying 69=some (.slice 73)
 cel:P.cellsOf 73=5
 fld:(match P.underlying 73 with|some (.struct fs)=>fs.toList.map (fun f=>(f.type,f.offset,P.cellsOf f.type))|_=>[])=[(3,0,1),(22,1,1),(49,2,1),(3,3,1),(3,4,1)]
theorem sortsI:SortsI Tryz.prog:=⟨sortsT,by kernel_rfl,by kernel_rfl,by kernel_rfl,by kernel_rfl,by kernel_rfl⟩
theorem read_item (S:SortsI P) (fuel:Nat) (cs:List Value) (x:DataW H×List MemPlace) (h:trodF enc P W fuel 73 cs=some x):∃t:It,ReadC W (itC t) cs:=by
 obtain⟨n,hn,hlen,hf⟩:=read_struct S.fld (by simp) h
 rw[S.cel] at hlen
 obtain⟨c0,c1,c2,c3,c4,rfl⟩:∃a b c d e,cs=[a,b,c,d,e]:=by
  match cs,hlen with
  | [a,b,c,d,e],_=>exact⟨a,b,c,d,e,rfl⟩
 obtain⟨y0,hy0⟩:=hf (3,0,1) (by simp)
 obtain⟨y1,hy1⟩:=hf (22,1,1) (by simp)
 obtain⟨y2,hy2⟩:=hf (49,2,1) (by simp)
 obtain⟨y3,hy3⟩:=hf (3,3,1) (by simp)
 obtain⟨y4,hy4⟩:=hf (3,4,1) (by simp)
 obtain⟨k,_,hk⟩:=read_int S.T.und3 hy0
 obtain⟨w,hw⟩:=read_words S.T.und9 S.undS S.cel9 hy1
 obtain⟨els,_,h1,h2⟩:=read_slice S.T.undL (by rw[S.T.cel];omega) (fun y=>∃t:Nd,True∧y=t.enc) hy2 fun m cs y hm hy=>by
  obtain⟨t,ht⟩:=read_tree S.T m cs y hy
  exact⟨t.enc,⟨t,True.intro,rfl⟩,ht⟩
 obtain⟨l,_,rfl⟩:=typed_list h1
 obtain⟨n,_,hn⟩:=read_int S.T.und3 hy3
 obtain⟨a,_,ha⟩:=read_int S.T.und3 hy4
 exact⟨⟨k,w,l,n,a⟩,hk.append (hw.append (h2.append (hn.append ha)))⟩
variable {base:Nat} {v:Value} {d:DataW H} {p:List MemPlace}
theorem arg_items (S:SortsI P) (hv:Value.okWide P W .any base 69 v) (h:DataW.Trod enc P W 0 (fun _=>true) true 69 v d p):∃l:List It,True∧Rep W (Old W) [] [] (.sl (l.map itAV)) v:=by
 obtain⟨fuel,hf⟩:=h
 obtain⟨els,_,h1,h2⟩:=read_slice S.undI (by rw[S.cel];omega) (fun y=>∃t:It,True∧y=itAV t) hf fun m cs y hm hy=>by
  obtain⟨t,hr⟩:=read_item S m cs y hy
  exact⟨itAV t,⟨t,True.intro,rfl⟩,hr⟩
 obtain⟨l,_,rfl⟩:=typed_list h1
 exact⟨l,True.intro,arg_cell h2 (arg_slice S.undI hv)⟩
end
end Go.Proofs.YtghnkppcncbddaaGreatDoor
