/- Texts of ours laid together for a claim: P01 P02 P03 P04. -/
import Derived.Test.YtghnkppcncbddaaGreatDoorQ42
namespace Go.Proofs.YtghnkppcncbddaaGreatDoor
open Go
set_option linter.unusedSimpArgs false
set_option linter.unusedVariables false
theorem wrap_i {n:Int} (h1 : -9223372036854775808≤n) (h2:n<9223372036854775808):IntKind.wrap .i64 n=n:=IntWalk.i64_in _ (by omega)
theorem wrap_n {k:Nat} (h:k≤4000000000):IntKind.wrap .i64 ((k:Int)+1)=((k+1:Nat):Int):=wrap_succ (by omega)
theorem appOk_mk {d:TD} {n:Nat} {els els2:List AV} (h1:∀x:AV,x∈els→x.cells.length=d.size) (h2:∀x:AV,x∈els2→x.cells.length=d.size) (hn:n≤4000000000) (hb:d.bytes≤1000):appOk d n els els2:=by
 refine⟨h1,h2,?_,?_⟩
 ·simp only[maxLen];omega
 ·have:=Nat.mul_le_mul hn hb;omega
theorem appOk_nil {d:TD} {n:Nat} {els2:List AV} (h2:∀x:AV,x∈els2→x.cells.length=d.size) (hn:n≤4000000000) (hb:d.bytes≤1000):appOk d n [] els2:=
 appOk_mk (fun x hx=>by cases hx) h2 hn hb
theorem appOk_one {d:TD} {n:Nat} {x:AV} (h2:x.cells.length=d.size) (hn:n≤4000000000) (hb:d.bytes≤1000):appOk d n [] [x]:=
 appOk_nil (fun y hy=>by rw[List.mem_singleton.1 hy];exact h2) hn hb
theorem getD_map {α:Type} {f:α→AV} {l:List α} {k:Nat} (h:k<l.length):List.getD (l.map f) (Int.toNat (k:Int)) .top=f l[k]:=by simp[List.getD,h]
inductive Ty where
 |mk (args:List Ty) (base:Int)
mutual
def Ty.enc:Ty→AV
 | .mk l b=>.agg [.sl (Ty.encs l),nI b]
def Ty.encs:List Ty→List AV
 | []=>[]
 |t::l=>Ty.enc t::Ty.encs l
end
mutual
def Ty.size:Ty→Nat
 | .mk l _=>1+Ty.sizes l
def Ty.sizes:List Ty→Nat
 | []=>0
 |t::l=>Ty.size t+Ty.sizes l
end
def Ty.args:Ty→List Ty | .mk l _=>l
def Ty.base:Ty→Int | .mk _ b=>b
theorem Ty.encs_eq (l:List Ty):Ty.encs l=l.map Ty.enc:=by
 induction l with
 |nil=>rfl
 |cons t l ih=>simp[Ty.encs,ih]
theorem Ty.enc_eq (t:Ty):t.enc=.agg [.sl (t.args.map Ty.enc),nI t.base]:=by cases t;simp[Ty.enc,Ty.encs_eq,Ty.args,Ty.base]
theorem Ty.enc_mk (l:List Ty) (b:Int):(Ty.mk l b).enc=.agg [.sl (l.map Ty.enc),nI b]:=Ty.enc_eq _
theorem Ty.enc_getD {l:List Ty} {k:Nat} (h:k<l.length):List.getD (l.map Ty.enc) (Int.toNat (k:Int)) .top=.agg [.sl (l[k].args.map Ty.enc),nI l[k].base]:=by rw[getD_map h,Ty.enc_eq]
theorem Ty.size_eq (t:Ty):t.size=1+Ty.sizes t.args:=by cases t;rfl
theorem Ty.size_pos (t:Ty):1≤t.size:=by rw[t.size_eq];omega
theorem Ty.sizes_len (l:List Ty):l.length≤Ty.sizes l:=by
 induction l with
 |nil=>simp[Ty.sizes]
 |cons t l ih=>have:=t.size_pos;simp[Ty.sizes];omega
theorem Ty.sizes_append (l m:List Ty):Ty.sizes (l++m)=Ty.sizes l+Ty.sizes m:=by
 induction l with
 |nil=>simp[Ty.sizes]
 |cons t l ih=>simp[Ty.sizes,ih];omega
theorem Ty.sizes_mem {l:List Ty} {t:Ty} (h:t∈l):t.size≤Ty.sizes l:=by
 induction l with
 |nil=>cases h
 |cons u l ih=>
  simp only[Ty.sizes]
  rcases List.mem_cons.1 h with rfl|h1
  ·omega
  ·have:=ih h1;omega
theorem Ty.arg_size {t:Ty} {k:Nat} (h:k<t.args.length):t.args[k].size<t.size:=by
 have:=Ty.sizes_mem (List.getElem_mem h)
 rw[t.size_eq];omega
theorem Ty.enc_len (t:Ty):t.enc.cells.length=2:=by cases t;rfl
theorem Ty.enc_snoc (l:List Ty) (t:Ty):l.map Ty.enc++[.agg [.sl (t.args.map Ty.enc),nI t.base]]=(l++[t]).map Ty.enc:=by rw[←Ty.enc_eq];simp
mutual
def Ty.same:Ty→Ty→Bool
 | .mk l a,.mk m b=>(a==b)&&Ty.sames l m
def Ty.sames:List Ty→List Ty→Bool
 | [],[]=>true
 |t::l,u::m=>Ty.same t u&&Ty.sames l m
 |_,_=>false
end
inductive Tm where
 |mk (binds:List Ty) (kind index:Int) (args:List Tm)
mutual
def Tm.enc:Tm→AV
 | .mk b k i a=>.agg [.sl (b.map Ty.enc),nI k,nI i,.sl (Tm.encs a)]
def Tm.encs:List Tm→List AV
 | []=>[]
 |t::l=>Tm.enc t::Tm.encs l
end
mutual
def Tm.size:Tm→Nat
 | .mk b _ _ a=>1+Ty.sizes b+Tm.sizes a
def Tm.sizes:List Tm→Nat
 | []=>0
 |t::l=>Tm.size t+Tm.sizes l
end
def Tm.binds:Tm→List Ty | .mk b _ _ _=>b
def Tm.kind:Tm→Int | .mk _ k _ _=>k
def Tm.index:Tm→Int | .mk _ _ i _=>i
def Tm.args:Tm→List Tm | .mk _ _ _ a=>a
theorem Tm.encs_eq (l:List Tm):Tm.encs l=l.map Tm.enc:=by
 induction l with
 |nil=>rfl
 |cons t l ih=>simp[Tm.encs,ih]
theorem Tm.enc_eq (t:Tm):t.enc=.agg [.sl (t.binds.map Ty.enc),nI t.kind,nI t.index,.sl (t.args.map Tm.enc)]:=by cases t;simp[Tm.enc,Tm.encs_eq,Tm.binds,Tm.kind,Tm.index,Tm.args]
theorem Tm.enc_mk (b:List Ty) (k i:Int) (a:List Tm):(Tm.mk b k i a).enc=.agg [.sl (b.map Ty.enc),nI k,nI i,.sl (a.map Tm.enc)]:=Tm.enc_eq _
theorem Tm.enc_getD {l:List Tm} {k:Nat} (h:k<l.length):List.getD (l.map Tm.enc) (Int.toNat (k:Int)) .top=.agg [.sl (l[k].binds.map Ty.enc),nI l[k].kind,nI l[k].index,.sl (l[k].args.map Tm.enc)]:=by rw[getD_map h,Tm.enc_eq]
theorem Tm.size_eq (t:Tm):t.size=1+Ty.sizes t.binds+Tm.sizes t.args:=by cases t;rfl
theorem Tm.size_pos (t:Tm):1≤t.size:=by rw[t.size_eq];omega
theorem Tm.sizes_len (l:List Tm):l.length≤Tm.sizes l:=by
 induction l with
 |nil=>simp[Tm.sizes]
 |cons t l ih=>have:=t.size_pos;simp[Tm.sizes];omega
theorem Tm.sizes_mem {l:List Tm} {t:Tm} (h:t∈l):t.size≤Tm.sizes l:=by
 induction l with
 |nil=>cases h
 |cons u l ih=>
  simp only[Tm.sizes]
  rcases List.mem_cons.1 h with rfl|h1
  ·omega
  ·have:=ih h1;omega
theorem Tm.arg_size {t:Tm} {k:Nat} (h:k<t.args.length):t.args[k].size<t.size:=by
 have:=Tm.sizes_mem (List.getElem_mem h)
 rw[t.size_eq];omega
theorem Tm.enc_snoc (l:List Tm) (t:Tm):l.map Tm.enc++[.agg [.sl (t.binds.map Ty.enc),nI t.kind,nI t.index,.sl (t.args.map Tm.enc)]]=(l++[t]).map Tm.enc:=by rw[←Tm.enc_eq];simp
theorem take_snoc' {α:Type} {l:List α} {k:Nat} (h:k<l.length):l.take k++[l[k]]=l.take (k+1):=by rw[List.take_succ_eq_append_getElem h]
end Go.Proofs.YtghnkppcncbddaaGreatDoor

namespace Go.Proofs.YtghnkppcncbddaaGreatDoor
open Go
set_option linter.unusedSimpArgs false
set_option linter.unusedVariables false
theorem copied_calls:∀(n:Nat) (t:Ty),t.size≤n→n≤1000000000→PureIs Tryz.prog 69 [t.enc] t.enc:=by
 intro n
 induction n with
 |zero=>intro t h;have:=t.size_pos;omega
 |succ n ih=>
  intro t h hn
  have hq:=Ty.sizes_len t.args
  have hts:=t.size_eq
  rw[Ty.enc_eq]
  refine vc69_ok ⟨rfl,?_⟩
  refine LoopP.intro (fun k:Nat=>(((),(),t.args.map Ty.enc,(t.args.length:Int),(k:Int),()),((t.args.map Ty.enc,t.base,()),((),0,()),((),t.base,()),(t.args.take k).map Ty.enc,())))
   (fun k=>k≤t.args.length) (fun k=>t.args.length-k) 0 (by rw[List.length_map];rfl) (Nat.zero_le _) ?_
  intro k hk again hag
  dsimp only
  rw[List.length_map]
  refine ITE.intro (fun h=>?_) fun h=>?_
  ·have hlt:k<t.args.length:=by simpa using h
   have hi:=ih t.args[k] (by have:=Ty.arg_size hlt;omega) (by omega)
   rw[Ty.enc_eq] at hi
   refine⟨by omega,by omega,_,_,Ty.enc_getD hlt,_,_,hi,rfl,appOk_one rfl (by simp;omega) (by decide),rfl,?_⟩
   rw[wrap_n (by omega),Ty.enc_snoc,take_snoc' hlt]
   exact hag (k+1) (by omega) (by omega)
  ·have:t.args.length≤k:=by simpa using h
   refine⟨rfl,?_⟩
   rw[List.take_of_length_le this]
end Go.Proofs.YtghnkppcncbddaaGreatDoor

namespace Go.Proofs.YtghnkppcncbddaaGreatDoor
open Go
set_option linter.unusedSimpArgs false
set_option linter.unusedVariables false
theorem grow_calls {hp:List AObj} {n:Nat} (hn:n≤1000000000) (hcl:∀o∈hp,AObj.closed (hp.length+1) o=true):
  HFn Tryz.prog 150 [.prim (.slice none 0 0),.prim (.int .i64 (n:Nat))] hp (fun r hp'=>r=.own hp.length 0∧hp'=hp++[.row 47 2 []]):=by
 refine heap_of_body_at tab_ok (hp.length+1) (by simp) (fn:=Tryz.f150) Tryz.func150 rfl (by kernel_rfl) (by simp[Tryz.ntmps150]) ?_
 intro Γ hok hP hnt hh0 hfree0
 rw[Tryz.ntmps150] at hnt
 have htab:TabOk Γ.P tab:=by rw[hP];exact tab_ok
 refine AWp.seqK fun K1 hK1=>?_
 refine AWp.regionC hok htab hnt ?_
 simp only[ARunC,CStep,isRoom,nilCmp,xval,callArgs,bne_self_eq_false,  pval,heff,bopAll,bopX,cvtVal,bopVal,bopInt,lenVal,fieldsOf,ldCells,ldElem,fillCells,setCells,lookVal,mapGet,mapPut,boundOf,idxOk,lensOk,appOk,Value.cells,TK.agg,thenQ,inBlockQ,AS.put,AS.ev,startT,upd_eq,dstOk,gslot,condP,tabs,reduceIte,Nat.reduceLT,Nat.reduceEqDiff,Nat.reduceAdd,Nat.reduceLeDiff,Nat.reduceMul,Nat.reduceSub,List.getElem?_nil,List.length_nil,List.nil_append,List.append_nil,List.take_zero,List.map_nil,Option.map_none,Option.bind_none,reduceCtorEq,Int.toNat_natCast,Int.natCast_nonneg,List.not_mem_nil,retQ,resAll,resOne,resTup,AV.toDataR,wrap_succ,Int.ofNat_lt,Int.not_lt,obo1,obo2,obo3,core1,core2,core3]
 refine hK1 _ ?_
 try clear hK1 K1
 refine AWp.seqK fun K2 hK2=>?_
 refine AWp.seqK fun K3 hK3=>?_
 refine AWp.regionC hok htab hnt ?_
 simp only[ARunC,CStep,isRoom,nilCmp,xval,callArgs,bne_self_eq_false,  pval,heff,bopAll,bopX,cvtVal,bopVal,bopInt,lenVal,fieldsOf,ldCells,ldElem,fillCells,setCells,lookVal,mapGet,mapPut,boundOf,idxOk,lensOk,appOk,Value.cells,TK.agg,thenQ,inBlockQ,AS.put,AS.ev,startT,upd_eq,dstOk,gslot,condP,tabs,reduceIte,Nat.reduceLT,Nat.reduceEqDiff,Nat.reduceAdd,Nat.reduceLeDiff,Nat.reduceMul,Nat.reduceSub,List.getElem?_nil,List.length_nil,List.nil_append,List.append_nil,List.take_zero,List.map_nil,Option.map_none,Option.bind_none,reduceCtorEq,Int.toNat_natCast,Int.natCast_nonneg,List.not_mem_nil,retQ,resAll,resOne,resTup,AV.toDataR,wrap_succ,Int.ofNat_lt,Int.not_lt,obo1,obo2,obo3,core1,core2,core3]
 refine hK3 _ ?_
 try clear hK3 K3
 refine AWp.condB (by simp only[AS.ev,upd_eq,Nat.reduceEqDiff,if_true,if_false,reduceIte,reduceCtorEq];rfl) (fun hc=>?_) (fun hc=>?_)
 all_goals (try simp only[decide_eq_true_eq,decide_eq_false_iff_not,Int.ofNat_lt,Int.not_lt,Nat.not_lt,bne_iff_ne,bne_eq_false_iff_eq,ne_eq,Bool.not_eq_true',Bool.not_eq_false',Bool.and_eq_true,Bool.or_eq_true,Bool.and_eq_false_iff,Bool.or_eq_false_iff,beq_iff_eq,beq_eq_false_iff_ne,Bool.not_eq_eq_eq_not,Bool.not_true,Bool.not_false] at hc)
 ·exfalso;omega
 ·refine AWp.skip ?_
  refine hK2 _ ?_
  try clear hK2 K2
  refine AWp.seqK fun K9 hK9=>?_
  refine AWp.seqK fun K10 hK10=>?_
  have hw:IntKind.i64.wrap ((n:Int)-IntKind.i64.wrap (0-((0:Nat):Int)))=(n:Int):=by
   rw[show IntKind.i64.wrap (0-((0:Nat):Int))=0 from by decide,Int.sub_zero,IntWalk.i64_in _ (by omega)]
  refine AWp.regionC hok htab hnt ?_
  simp only[ARunC,CStep,isRoom,nilCmp,xval,callArgs,bne_self_eq_false,  pval,heff,bopAll,bopX,cvtVal,bopVal,bopInt,lenVal,fieldsOf,ldCells,ldElem,fillCells,setCells,lookVal,mapGet,mapPut,boundOf,idxOk,lensOk,appOk,Value.cells,TK.agg,thenQ,inBlockQ,AS.put,AS.ev,startT,upd_eq,dstOk,gslot,condP,tabs,reduceIte,Nat.reduceLT,Nat.reduceEqDiff,Nat.reduceAdd,Nat.reduceLeDiff,Nat.reduceMul,Nat.reduceSub,List.getElem?_nil,List.length_nil,List.nil_append,List.append_nil,List.take_zero,List.map_nil,Option.map_none,Option.bind_none,reduceCtorEq,Int.toNat_natCast,Int.natCast_nonneg,List.not_mem_nil,retQ,resAll,resOne,resTup,AV.toDataR,wrap_succ,Int.ofNat_lt,Int.not_lt,obo1,obo2,obo3,core1,core2,core3,hw]
  refine hK10 _ ?_
  try clear hK10 K10
  refine AWp.seqK fun K11 hK11=>?_
  refine AWp.regionC hok htab hnt ?_
  simp only[ARunC,CStep,isRoom,nilCmp,xval,callArgs,bne_self_eq_false,  pval,heff,bopAll,bopX,cvtVal,bopVal,bopInt,lenVal,fieldsOf,ldCells,ldElem,fillCells,setCells,lookVal,mapGet,mapPut,boundOf,idxOk,lensOk,appOk,Value.cells,TK.agg,thenQ,inBlockQ,AS.put,AS.ev,startT,upd_eq,dstOk,gslot,condP,tabs,reduceIte,Nat.reduceLT,Nat.reduceEqDiff,Nat.reduceAdd,Nat.reduceLeDiff,Nat.reduceMul,Nat.reduceSub,List.getElem?_nil,List.length_nil,List.nil_append,List.append_nil,List.take_zero,List.map_nil,Option.map_none,Option.bind_none,reduceCtorEq,Int.toNat_natCast,Int.natCast_nonneg,List.not_mem_nil,retQ,resAll,resOne,resTup,AV.toDataR,wrap_succ,Int.ofNat_lt,Int.not_lt,obo1,obo2,obo3,core1,core2,core3]
  refine hK11 _ ?_
  try clear hK11 K11
  refine AWp.condB (by simp only[AS.ev,upd_eq,Nat.reduceEqDiff,if_true,if_false,reduceIte,reduceCtorEq];rfl) (fun hc=>?_) (fun hc=>?_)
  all_goals (try simp only[decide_eq_true_eq,decide_eq_false_iff_not,Int.ofNat_lt,Int.not_lt,Nat.not_lt,bne_iff_ne,bne_eq_false_iff_eq,ne_eq,Bool.not_eq_true',Bool.not_eq_false',Bool.and_eq_true,Bool.or_eq_true,Bool.and_eq_false_iff,Bool.or_eq_false_iff,beq_iff_eq,beq_eq_false_iff_ne,Bool.not_eq_eq_eq_not,Bool.not_true,Bool.not_false] at hc)  
  ·refine AWp.regionC hok htab hnt ?_
   simp only[ARunC,CStep,isRoom,nilCmp,xval,callArgs,bne_self_eq_false,  pval,heff,bopAll,bopX,cvtVal,bopVal,bopInt,lenVal,fieldsOf,ldCells,ldElem,fillCells,setCells,lookVal,mapGet,mapPut,boundOf,idxOk,lensOk,appOk,Value.cells,TK.agg,thenQ,inBlockQ,AS.put,AS.ev,startT,upd_eq,dstOk,gslot,condP,tabs,reduceIte,Nat.reduceLT,Nat.reduceEqDiff,Nat.reduceAdd,Nat.reduceLeDiff,Nat.reduceMul,Nat.reduceSub,List.getElem?_nil,List.length_nil,List.nil_append,List.append_nil,List.take_zero,List.map_nil,Option.map_none,Option.bind_none,reduceCtorEq,Int.toNat_natCast,Int.natCast_nonneg,List.not_mem_nil,retQ,resAll,resOne,resTup,AV.toDataR,wrap_succ,Int.ofNat_lt,Int.not_lt,obo1,obo2,obo3,core1,core2,core3]
   refine AList.room hok htab (c1:={ callee:=.builtin .append,args:=#[.tmp 20,.tmp 21],argTypes:=#[45,3] }) (c3:={ callee:=.builtin .len,args:=#[.tmp 23],argTypes:=#[45] }) (n:=n) rfl rfl rfl rfl rfl rfl rfl rfl tab_45 rfl tab_47 tab_3 rfl (by decide) rfl rfl (by omega) (by simp only[maxLen];omega) (by simp only[td47];omega)
    rfl rfl (by simp) rfl rfl rfl rfl rfl rfl rfl rfl rfl (by omega) (by omega) (by omega) (by omega) (by decide) (by decide) ?_
   refine ARunC.sound hok htab hnt _ _ ?_
   simp only[ARunC,CStep,isRoom,nilCmp,xval,callArgs,bne_self_eq_false,  pval,heff,bopAll,bopX,cvtVal,bopVal,bopInt,lenVal,fieldsOf,ldCells,ldElem,fillCells,setCells,lookVal,mapGet,mapPut,boundOf,idxOk,lensOk,appOk,Value.cells,TK.agg,thenQ,inBlockQ,AS.put,AS.ev,startT,upd_eq,dstOk,gslot,condP,tabs,reduceIte,Nat.reduceLT,Nat.reduceEqDiff,Nat.reduceAdd,Nat.reduceLeDiff,Nat.reduceMul,Nat.reduceSub,List.getElem?_nil,List.length_nil,List.nil_append,List.append_nil,List.take_zero,List.map_nil,Option.map_none,Option.bind_none,reduceCtorEq,Int.toNat_natCast,Int.natCast_nonneg,List.not_mem_nil,retQ,resAll,resOne,resTup,AV.toDataR,wrap_succ,Int.ofNat_lt,Int.not_lt,obo1,obo2,obo3,core1,core2,core3]
   refine hK9 _ ?_
   try clear hK9 K9
   refine AWp.seqK fun K12 hK12=>?_
   refine AWp.regionC hok htab hnt ?_
   simp only[ARunC,CStep,isRoom,nilCmp,xval,callArgs,bne_self_eq_false,  pval,heff,bopAll,bopX,cvtVal,bopVal,bopInt,lenVal,fieldsOf,ldCells,ldElem,fillCells,setCells,lookVal,mapGet,mapPut,boundOf,idxOk,lensOk,appOk,Value.cells,TK.agg,thenQ,inBlockQ,AS.put,AS.ev,startT,upd_eq,dstOk,gslot,condP,tabs,reduceIte,Nat.reduceLT,Nat.reduceEqDiff,Nat.reduceAdd,Nat.reduceLeDiff,Nat.reduceMul,Nat.reduceSub,List.getElem?_nil,List.length_nil,List.nil_append,List.append_nil,List.take_zero,List.map_nil,Option.map_none,Option.bind_none,reduceCtorEq,Int.toNat_natCast,Int.natCast_nonneg,List.not_mem_nil,retQ,resAll,resOne,resTup,AV.toDataR,wrap_succ,Int.ofNat_lt,Int.not_lt,obo1,obo2,obo3,core1,core2,core3]
   refine hK12 _ ?_
   try clear hK12 K12
   refine AWp.ret ?_
   simp only[ARunC,CStep,isRoom,nilCmp,xval,callArgs,bne_self_eq_false,  pval,heff,bopAll,bopX,cvtVal,bopVal,bopInt,lenVal,fieldsOf,ldCells,ldElem,fillCells,setCells,lookVal,mapGet,mapPut,boundOf,idxOk,lensOk,appOk,Value.cells,TK.agg,thenQ,inBlockQ,AS.put,AS.ev,startT,upd_eq,dstOk,gslot,condP,tabs,reduceIte,Nat.reduceLT,Nat.reduceEqDiff,Nat.reduceAdd,Nat.reduceLeDiff,Nat.reduceMul,Nat.reduceSub,List.getElem?_nil,List.length_nil,List.nil_append,List.append_nil,List.take_zero,List.map_nil,Option.map_none,Option.bind_none,reduceCtorEq,Int.toNat_natCast,Int.natCast_nonneg,List.not_mem_nil,retQ,resAll,resOne,resTup,AV.toDataR,wrap_succ,Int.ofNat_lt,Int.not_lt,obo1,obo2,obo3,core1,core2,core3,Tryz.results150,retH]
   have e:List.take (hp.length+1) (hp++[AObj.row 47 2 []])=hp++[AObj.row 47 2 []]:=List.take_of_length_le (by simp)
   rw[e]
   refine⟨fun o ho=>?_,?_,rfl⟩
   ·rcases List.mem_append.1 ho with h1|h1
    ·exact hcl o h1
    ·rw[List.mem_singleton.1 h1];rfl
   ·simp[AV.out,AV.outV,AV.outC,AV.closedC]
  ·refine AWp.skip ?_
   refine hK9 _ ?_
   try clear hK9 K9
   refine AWp.weak (Weak.row hok 0 47 2 (by decide) rfl) ?_
   refine AWp.seqK fun K13 hK13=>?_
   refine AWp.regionC hok htab hnt ?_
   simp only[ARunC,CStep,isRoom,nilCmp,xval,callArgs,bne_self_eq_false,  pval,heff,bopAll,bopX,cvtVal,bopVal,bopInt,lenVal,fieldsOf,ldCells,ldElem,fillCells,setCells,lookVal,mapGet,mapPut,boundOf,idxOk,lensOk,appOk,Value.cells,TK.agg,thenQ,inBlockQ,AS.put,AS.ev,startT,upd_eq,dstOk,gslot,condP,tabs,reduceIte,Nat.reduceLT,Nat.reduceEqDiff,Nat.reduceAdd,Nat.reduceLeDiff,Nat.reduceMul,Nat.reduceSub,List.getElem?_nil,List.length_nil,List.nil_append,List.append_nil,List.take_zero,List.map_nil,Option.map_none,Option.bind_none,reduceCtorEq,Int.toNat_natCast,Int.natCast_nonneg,List.not_mem_nil,retQ,resAll,resOne,resTup,AV.toDataR,wrap_succ,Int.ofNat_lt,Int.not_lt,obo1,obo2,obo3,core1,core2,core3]
   refine hK13 _ ?_
   try clear hK13 K13
   refine AWp.ret ?_
   simp only[ARunC,CStep,isRoom,nilCmp,xval,callArgs,bne_self_eq_false,  pval,heff,bopAll,bopX,cvtVal,bopVal,bopInt,lenVal,fieldsOf,ldCells,ldElem,fillCells,setCells,lookVal,mapGet,mapPut,boundOf,idxOk,lensOk,appOk,Value.cells,TK.agg,thenQ,inBlockQ,AS.put,AS.ev,startT,upd_eq,dstOk,gslot,condP,tabs,reduceIte,Nat.reduceLT,Nat.reduceEqDiff,Nat.reduceAdd,Nat.reduceLeDiff,Nat.reduceMul,Nat.reduceSub,List.getElem?_nil,List.length_nil,List.nil_append,List.append_nil,List.take_zero,List.map_nil,Option.map_none,Option.bind_none,reduceCtorEq,Int.toNat_natCast,Int.natCast_nonneg,List.not_mem_nil,retQ,resAll,resOne,resTup,AV.toDataR,wrap_succ,Int.ofNat_lt,Int.not_lt,obo1,obo2,obo3,core1,core2,core3,Tryz.results150,retH]
   have e:List.take (hp.length+1) (hp++[AObj.row 47 2 []])=hp++[AObj.row 47 2 []]:=List.take_of_length_le (by simp)
   rw[e]
   refine⟨fun o ho=>?_,?_,rfl⟩
   ·rcases List.mem_append.1 ho with h1|h1
    ·exact hcl o h1
    ·rw[List.mem_singleton.1 h1];rfl
   ·simp[AV.out,AV.outV,AV.outC,AV.closedC]
def encRows (ll:List (List Ty)):List AV:=ll.map fun l=>.sl (l.map Ty.enc)
theorem encRows_getD {ll:List (List Ty)} {k:Nat} (h:k<ll.length):(encRows ll).getD k .top=.sl (ll[k].map Ty.enc):=by
 simp[encRows,List.getD,h]
theorem encRows_len (ll:List (List Ty)):(encRows ll).length=ll.length:=by simp[encRows]
theorem flat_take {ll:List (List Ty)} {k:Nat} (h:k<ll.length):(ll.take (k+1)).flatten=(ll.take k).flatten++ll[k]:=by
 rw[List.take_succ_eq_append_getElem h,List.flatten_append,List.flatten_singleton]
theorem flat_take_le (ll:List (List Ty)) (k:Nat):(ll.take k).flatten.length≤ll.flatten.length:=by
 have h:ll.flatten=(ll.take k).flatten++(ll.drop k).flatten:=by rw[←List.flatten_append,List.take_append_drop]
 rw[h,List.length_append];omega
theorem enc_cells_mem {l:List Ty} {x:AV} (h:x∈l.map Ty.enc):x.cells.length=2:=by
 obtain⟨t,_,rfl⟩:=List.mem_map.1 h
 exact t.enc_len
theorem concat_calls {ll:List (List Ty)} (h0:ll.length≤1000000000) (hn:ll.flatten.length≤1000000000):
  PureIs Tryz.prog 113 [.sl (encRows ll)] (.sl (ll.flatten.map Ty.enc)):=by
 refine pure_of_body tab_ok (fn:=Tryz.f113) Tryz.func113 rfl (by kernel_rfl) (by simp[Tryz.ntmps113]) ?_
 intro Γ hok hP hnt hh0 hfree0
 rw[Tryz.ntmps113] at hnt
 have htab:TabOk Γ.P tab:=by rw[hP];exact tab_ok
 refine AWp.seqK fun K1 hK1=>?_
 refine AWp.regionC hok htab hnt ?_
 simp only[ARunC,CStep,isRoom,nilCmp,xval,callArgs,bne_self_eq_false,  pval,heff,bopAll,bopX,cvtVal,bopVal,bopInt,lenVal,fieldsOf,ldCells,ldElem,fillCells,setCells,lookVal,mapGet,mapPut,boundOf,idxOk,lensOk,appOk,Value.cells,TK.agg,thenQ,inBlockQ,AS.put,AS.ev,startT,upd_eq,dstOk,gslot,condP,tabs,reduceIte,Nat.reduceLT,Nat.reduceEqDiff,Nat.reduceAdd,Nat.reduceLeDiff,Nat.reduceMul,Nat.reduceSub,List.getElem?_nil,List.length_nil,List.nil_append,List.append_nil,List.take_zero,List.map_nil,Option.map_none,Option.bind_none,reduceCtorEq,Int.toNat_natCast,Int.natCast_nonneg,List.not_mem_nil,retQ,resAll,resOne,resTup,AV.toDataR,wrap_succ,Int.ofNat_lt,Int.not_lt,obo1,obo2,obo3,core1,core2,core3]
 refine hK1 _ ?_
 try clear hK1 K1
 refine AWp.seqK fun K2 hK2=>?_
 refine AWp.regionC hok htab hnt ?_
 simp only[ARunC,CStep,isRoom,nilCmp,xval,callArgs,bne_self_eq_false,  pval,heff,bopAll,bopX,cvtVal,bopVal,bopInt,lenVal,fieldsOf,ldCells,ldElem,fillCells,setCells,lookVal,mapGet,mapPut,boundOf,idxOk,lensOk,appOk,Value.cells,TK.agg,thenQ,inBlockQ,AS.put,AS.ev,startT,upd_eq,dstOk,gslot,condP,tabs,reduceIte,Nat.reduceLT,Nat.reduceEqDiff,Nat.reduceAdd,Nat.reduceLeDiff,Nat.reduceMul,Nat.reduceSub,List.getElem?_nil,List.length_nil,List.nil_append,List.append_nil,List.take_zero,List.map_nil,Option.map_none,Option.bind_none,reduceCtorEq,Int.toNat_natCast,Int.natCast_nonneg,List.not_mem_nil,retQ,resAll,resOne,resTup,AV.toDataR,wrap_succ,Int.ofNat_lt,Int.not_lt,obo1,obo2,obo3,core1,core2,core3]
 refine hK2 _ ?_
 try clear hK2 K2
 refine AWp.seqK fun K3 hK3=>?_
 refine AWp.seqK fun K4 hK4=>?_
 refine AWp.regionC hok htab hnt ?_
 simp only[ARunC,CStep,isRoom,nilCmp,xval,callArgs,bne_self_eq_false,  pval,heff,bopAll,bopX,cvtVal,bopVal,bopInt,lenVal,fieldsOf,ldCells,ldElem,fillCells,setCells,lookVal,mapGet,mapPut,boundOf,idxOk,lensOk,appOk,Value.cells,TK.agg,thenQ,inBlockQ,AS.put,AS.ev,startT,upd_eq,dstOk,gslot,condP,tabs,reduceIte,Nat.reduceLT,Nat.reduceEqDiff,Nat.reduceAdd,Nat.reduceLeDiff,Nat.reduceMul,Nat.reduceSub,List.getElem?_nil,List.length_nil,List.nil_append,List.append_nil,List.take_zero,List.map_nil,Option.map_none,Option.bind_none,reduceCtorEq,Int.toNat_natCast,Int.natCast_nonneg,List.not_mem_nil,retQ,resAll,resOne,resTup,AV.toDataR,wrap_succ,Int.ofNat_lt,Int.not_lt,obo1,obo2,obo3,core1,core2,core3,encRows_len]
 refine hK4 _ ?_
 try clear hK4 K4
 refine AWp.block ?_
 refine AWp.loop (fun k:Nat=>k≤ll.length)
  (fun k=>⟨(upd (upd (upd (upd (upd (fun _=>.top) 0 (.sl (encRows ll))) 3 (.prim (.int .i64 ((ll.take k).flatten.length:Nat)))) 9 (.sl (encRows ll))) 10 (.prim (.int .i64 (ll.length:Nat)))) 11 (.prim (.int .i64 (k:Nat)))),[],()⟩)
  (fun k=>ll.length-k) 0 (Nat.zero_le _) ?_ ?_
 ·refine Weak.cut hok 0 (by omega) ?_ ?_ ?_ ?_
  ·repeat' (first|exact Sub.nil|refine Sub.upd ?_ ?_)
   all_goals rfl
  ·repeat' (first|exact ShutF.nil|refine ShutF.upd ?_ ?_)
   all_goals first|rfl|assumption|exact CapsOk.cl (by assumption) _
  ·rfl
  ·simp[AObj.closed,AV.closedC]
 ·intro k hk
  refine AWp.seqK fun K5 hK5=>?_
  refine AWp.regionC hok htab hnt ?_
  simp only[ARunC,CStep,isRoom,nilCmp,xval,callArgs,bne_self_eq_false,  pval,heff,bopAll,bopX,cvtVal,bopVal,bopInt,lenVal,fieldsOf,ldCells,ldElem,fillCells,setCells,lookVal,mapGet,mapPut,boundOf,idxOk,lensOk,appOk,Value.cells,TK.agg,thenQ,inBlockQ,AS.put,AS.ev,startT,upd_eq,dstOk,gslot,condP,tabs,reduceIte,Nat.reduceLT,Nat.reduceEqDiff,Nat.reduceAdd,Nat.reduceLeDiff,Nat.reduceMul,Nat.reduceSub,List.getElem?_nil,List.length_nil,List.nil_append,List.append_nil,List.take_zero,List.map_nil,Option.map_none,Option.bind_none,reduceCtorEq,Int.toNat_natCast,Int.natCast_nonneg,List.not_mem_nil,retQ,resAll,resOne,resTup,AV.toDataR,wrap_succ,Int.ofNat_lt,Int.not_lt,obo1,obo2,obo3,core1,core2,core3]
  refine hK5 _ ?_
  try clear hK5 K5
  refine AWp.seqK fun K6 hK6=>?_
  refine AWp.condB (by simp only[AS.ev,upd_eq,Nat.reduceEqDiff,if_true,if_false,reduceIte,reduceCtorEq];rfl) (fun hc=>?_) (fun hc=>?_)
  all_goals (try simp only[decide_eq_true_eq,decide_eq_false_iff_not,Int.ofNat_lt,Int.not_lt,Nat.not_lt,bne_iff_ne,bne_eq_false_iff_eq,ne_eq,Bool.not_eq_true',Bool.not_eq_false',Bool.and_eq_true,Bool.or_eq_true,Bool.and_eq_false_iff,Bool.or_eq_false_iff,beq_iff_eq,beq_eq_false_iff_ne,Bool.not_eq_eq_eq_not,Bool.not_true,Bool.not_false] at hc)  
  ·refine AWp.skip ?_
   refine hK6 _ ?_
   try clear hK6 K6
   have hg:=encRows_getD hc
   have hle:=flat_take_le ll (k+1)
   have hft:=flat_take hc
   have hln:(ll.take (k+1)).flatten.length=(ll.take k).flatten.length+ll[k].length:=by rw[hft,List.length_append]
   refine AWp.seqK fun K7 hK7=>?_
   refine AWp.block ?_
   refine AWp.seqK fun K8 hK8=>?_
   refine AWp.regionC hok htab hnt ?_
   simp only[ARunC,CStep,isRoom,nilCmp,xval,callArgs,bne_self_eq_false,  pval,heff,bopAll,bopX,cvtVal,bopVal,bopInt,lenVal,fieldsOf,ldCells,ldElem,fillCells,setCells,lookVal,mapGet,mapPut,boundOf,idxOk,lensOk,appOk,Value.cells,TK.agg,thenQ,inBlockQ,AS.put,AS.ev,startT,upd_eq,dstOk,gslot,condP,tabs,reduceIte,Nat.reduceLT,Nat.reduceEqDiff,Nat.reduceAdd,Nat.reduceLeDiff,Nat.reduceMul,Nat.reduceSub,List.getElem?_nil,List.length_nil,List.nil_append,List.append_nil,List.take_zero,List.map_nil,Option.map_none,Option.bind_none,reduceCtorEq,Int.toNat_natCast,Int.natCast_nonneg,List.not_mem_nil,retQ,resAll,resOne,resTup,AV.toDataR,wrap_succ,Int.ofNat_lt,Int.not_lt,obo1,obo2,obo3,core1,core2,core3,hg,encRows_len]
   refine⟨by omega,?_⟩ 
   refine hK8 _ ?_
   try clear hK8 K8
   refine AWp.seqK fun K9 hK9=>?_
   have hw:IntKind.i64.wrap (((ll.take k).flatten.length:Int)+(ll[k].length:Int))=(((ll.take (k+1)).flatten.length:Nat):Int):=by
    rw[IntWalk.i64_in _ (by omega)];omega
   refine AWp.regionC hok htab hnt ?_
   simp only[ARunC,CStep,isRoom,nilCmp,xval,callArgs,bne_self_eq_false,  pval,heff,bopAll,bopX,cvtVal,bopVal,bopInt,lenVal,fieldsOf,ldCells,ldElem,fillCells,setCells,lookVal,mapGet,mapPut,boundOf,idxOk,lensOk,appOk,Value.cells,TK.agg,thenQ,inBlockQ,AS.put,AS.ev,startT,upd_eq,dstOk,gslot,condP,tabs,reduceIte,Nat.reduceLT,Nat.reduceEqDiff,Nat.reduceAdd,Nat.reduceLeDiff,Nat.reduceMul,Nat.reduceSub,List.getElem?_nil,List.length_nil,List.nil_append,List.append_nil,List.take_zero,List.map_nil,Option.map_none,Option.bind_none,reduceCtorEq,Int.toNat_natCast,Int.natCast_nonneg,List.not_mem_nil,retQ,resAll,resOne,resTup,AV.toDataR,wrap_succ,Int.ofNat_lt,Int.not_lt,obo1,obo2,obo3,core1,core2,core3,hw]
   refine hK9 _ ?_
   try clear hK9 K9
   refine AWp.seqK fun K10 hK10=>?_
   refine AWp.regionC hok htab hnt ?_
   simp only[ARunC,CStep,isRoom,nilCmp,xval,callArgs,bne_self_eq_false,  pval,heff,bopAll,bopX,cvtVal,bopVal,bopInt,lenVal,fieldsOf,ldCells,ldElem,fillCells,setCells,lookVal,mapGet,mapPut,boundOf,idxOk,lensOk,appOk,Value.cells,TK.agg,thenQ,inBlockQ,AS.put,AS.ev,startT,upd_eq,dstOk,gslot,condP,tabs,reduceIte,Nat.reduceLT,Nat.reduceEqDiff,Nat.reduceAdd,Nat.reduceLeDiff,Nat.reduceMul,Nat.reduceSub,List.getElem?_nil,List.length_nil,List.nil_append,List.append_nil,List.take_zero,List.map_nil,Option.map_none,Option.bind_none,reduceCtorEq,Int.toNat_natCast,Int.natCast_nonneg,List.not_mem_nil,retQ,resAll,resOne,resTup,AV.toDataR,wrap_succ,Int.ofNat_lt,Int.not_lt,obo1,obo2,obo3,core1,core2,core3]
   refine hK10 _ ?_
   try clear hK10 K10
   refine AWp.condB (by simp only[AS.ev,upd_eq,Nat.reduceEqDiff,if_true,if_false,reduceIte,reduceCtorEq];rfl) (fun hc=>?_) (fun hc=>?_)
   all_goals (try simp only[decide_eq_true_eq,decide_eq_false_iff_not,Int.ofNat_lt,Int.not_lt,Nat.not_lt,bne_iff_ne,bne_eq_false_iff_eq,ne_eq,Bool.not_eq_true',Bool.not_eq_false',Bool.and_eq_true,Bool.or_eq_true,Bool.and_eq_false_iff,Bool.or_eq_false_iff,beq_iff_eq,beq_eq_false_iff_ne,Bool.not_eq_eq_eq_not,Bool.not_true,Bool.not_false] at hc)  
   ·exfalso;omega
   ·refine AWp.skip ?_
    refine hK7 _ ?_
    try clear hK7 K7
    have hw1:IntKind.i64.wrap ((k:Int)+1)=((k+1:Nat):Int):=wrap_succ (by omega)
    refine AWp.regionC hok htab hnt ?_
    simp only[ARunC,CStep,isRoom,nilCmp,xval,callArgs,bne_self_eq_false,  pval,heff,bopAll,bopX,cvtVal,bopVal,bopInt,lenVal,fieldsOf,ldCells,ldElem,fillCells,setCells,lookVal,mapGet,mapPut,boundOf,idxOk,lensOk,appOk,Value.cells,TK.agg,thenQ,inBlockQ,AS.put,AS.ev,startT,upd_eq,dstOk,gslot,condP,tabs,reduceIte,Nat.reduceLT,Nat.reduceEqDiff,Nat.reduceAdd,Nat.reduceLeDiff,Nat.reduceMul,Nat.reduceSub,List.getElem?_nil,List.length_nil,List.nil_append,List.append_nil,List.take_zero,List.map_nil,Option.map_none,Option.bind_none,reduceCtorEq,Int.toNat_natCast,Int.natCast_nonneg,List.not_mem_nil,retQ,resAll,resOne,resTup,AV.toDataR,wrap_succ,Int.ofNat_lt,Int.not_lt,obo1,obo2,obo3,core1,core2,core3,hw1]
    refine⟨k+1,by omega,?_,by omega⟩
    refine Weak.cut hok 0 (by omega) ?_ ?_ ?_ ?_
    ·repeat' (first|exact Sub.nil|refine Sub.upd ?_ ?_)
     all_goals rfl
    ·repeat' (first|exact ShutF.nil|refine ShutF.upd ?_ ?_)
     all_goals first|rfl|assumption|exact CapsOk.cl (by assumption) _
    ·rfl
    ·simp[AObj.closed,AV.closedC]
  ·obtain rfl:k=ll.length:=by omega
   refine AWp.exit ?_
   simp only[ARunC,CStep,isRoom,nilCmp,xval,callArgs,bne_self_eq_false,  pval,heff,bopAll,bopX,cvtVal,bopVal,bopInt,lenVal,fieldsOf,ldCells,ldElem,fillCells,setCells,lookVal,mapGet,mapPut,boundOf,idxOk,lensOk,appOk,Value.cells,TK.agg,thenQ,inBlockQ,AS.put,AS.ev,startT,upd_eq,dstOk,gslot,condP,tabs,reduceIte,Nat.reduceLT,Nat.reduceEqDiff,Nat.reduceAdd,Nat.reduceLeDiff,Nat.reduceMul,Nat.reduceSub,List.getElem?_nil,List.length_nil,List.nil_append,List.append_nil,List.take_zero,List.map_nil,Option.map_none,Option.bind_none,reduceCtorEq,Int.toNat_natCast,Int.natCast_nonneg,List.not_mem_nil,retQ,resAll,resOne,resTup,AV.toDataR,wrap_succ,Int.ofNat_lt,Int.not_lt,obo1,obo2,obo3,core1,core2,core3]
   refine hK3 _ ?_
   try clear hK3 K3
   refine AWp.seqK fun K11 hK11=>?_
   refine AWp.regionC hok htab hnt ?_
   simp only[ARunC,CStep,isRoom,nilCmp,xval,callArgs,bne_self_eq_false,  pval,heff,bopAll,bopX,cvtVal,bopVal,bopInt,lenVal,fieldsOf,ldCells,ldElem,fillCells,setCells,lookVal,mapGet,mapPut,boundOf,idxOk,lensOk,appOk,Value.cells,TK.agg,thenQ,inBlockQ,AS.put,AS.ev,startT,upd_eq,dstOk,gslot,condP,tabs,reduceIte,Nat.reduceLT,Nat.reduceEqDiff,Nat.reduceAdd,Nat.reduceLeDiff,Nat.reduceMul,Nat.reduceSub,List.getElem?_nil,List.length_nil,List.nil_append,List.append_nil,List.take_zero,List.map_nil,Option.map_none,Option.bind_none,reduceCtorEq,Int.toNat_natCast,Int.natCast_nonneg,List.not_mem_nil,retQ,resAll,resOne,resTup,AV.toDataR,wrap_succ,Int.ofNat_lt,Int.not_lt,obo1,obo2,obo3,core1,core2,core3,List.take_length]
   have hcall:=grow_calls (hp:=[]) hn (by simp)
   rw[←hP] at hcall
   refine .inr ⟨_,hcall,?_⟩ 
   rintro r hp' ⟨rfl,rfl⟩
   refine ARunC.sound hok htab hnt _ _ ?_
   simp only[ARunC,CStep,isRoom,nilCmp,xval,callArgs,bne_self_eq_false,  pval,heff,bopAll,bopX,cvtVal,bopVal,bopInt,lenVal,fieldsOf,ldCells,ldElem,fillCells,setCells,lookVal,mapGet,mapPut,boundOf,idxOk,lensOk,appOk,Value.cells,TK.agg,thenQ,inBlockQ,AS.put,AS.ev,startT,upd_eq,dstOk,gslot,condP,tabs,reduceIte,Nat.reduceLT,Nat.reduceEqDiff,Nat.reduceAdd,Nat.reduceLeDiff,Nat.reduceMul,Nat.reduceSub,List.getElem?_nil,List.length_nil,List.nil_append,List.append_nil,List.take_zero,List.map_nil,Option.map_none,Option.bind_none,reduceCtorEq,Int.toNat_natCast,Int.natCast_nonneg,List.not_mem_nil,retQ,resAll,resOne,resTup,AV.toDataR,wrap_succ,Int.ofNat_lt,Int.not_lt,obo1,obo2,obo3,core1,core2,core3]
   refine hK11 _ ?_
   try clear hK11 K11
   refine AWp.seqK fun K12 hK12=>?_
   refine AWp.seqK fun K13 hK13=>?_
   refine AWp.regionC hok htab hnt ?_
   simp only[ARunC,CStep,isRoom,nilCmp,xval,callArgs,bne_self_eq_false,  pval,heff,bopAll,bopX,cvtVal,bopVal,bopInt,lenVal,fieldsOf,ldCells,ldElem,fillCells,setCells,lookVal,mapGet,mapPut,boundOf,idxOk,lensOk,appOk,Value.cells,TK.agg,thenQ,inBlockQ,AS.put,AS.ev,startT,upd_eq,dstOk,gslot,condP,tabs,reduceIte,Nat.reduceLT,Nat.reduceEqDiff,Nat.reduceAdd,Nat.reduceLeDiff,Nat.reduceMul,Nat.reduceSub,List.getElem?_nil,List.length_nil,List.nil_append,List.append_nil,List.take_zero,List.map_nil,Option.map_none,Option.bind_none,reduceCtorEq,Int.toNat_natCast,Int.natCast_nonneg,List.not_mem_nil,retQ,resAll,resOne,resTup,AV.toDataR,wrap_succ,Int.ofNat_lt,Int.not_lt,obo1,obo2,obo3,core1,core2,core3,encRows_len]
   refine hK13 _ ?_
   try clear hK13 K13
   refine AWp.block ?_
   refine AWp.loop (fun k:Nat=>k≤ll.length)
    (fun k=>⟨(upd (upd (upd (upd (fun _=>.top) 6 (.own 0 (ll.take k).flatten.length)) 25 (.sl (encRows ll))) 26 (.prim (.int .i64 (ll.length:Nat)))) 27 (.prim (.int .i64 (k:Nat)))),[.row 47 2 ((ll.take k).flatten.map Ty.enc)],()⟩)
    (fun k=>ll.length-k) 0 (Nat.zero_le _) ?_ ?_
   ·refine Weak.cut hok 1 (by omega) ?_ ?_ ?_ ?_
    ·repeat' (first|exact Sub.nil|refine Sub.upd ?_ ?_)
     all_goals rfl
    ·repeat' (first|exact ShutF.nil|refine ShutF.upd ?_ ?_)
     all_goals first|rfl|assumption|exact CapsOk.cl (by assumption) _
    ·rfl
    ·simp[AObj.closed,AV.closedC]
   ·intro k hk
    refine AWp.seqK fun K14 hK14=>?_
    refine AWp.regionC hok htab hnt ?_
    simp only[ARunC,CStep,isRoom,nilCmp,xval,callArgs,bne_self_eq_false,  pval,heff,bopAll,bopX,cvtVal,bopVal,bopInt,lenVal,fieldsOf,ldCells,ldElem,fillCells,setCells,lookVal,mapGet,mapPut,boundOf,idxOk,lensOk,appOk,Value.cells,TK.agg,thenQ,inBlockQ,AS.put,AS.ev,startT,upd_eq,dstOk,gslot,condP,tabs,reduceIte,Nat.reduceLT,Nat.reduceEqDiff,Nat.reduceAdd,Nat.reduceLeDiff,Nat.reduceMul,Nat.reduceSub,List.getElem?_nil,List.length_nil,List.nil_append,List.append_nil,List.take_zero,List.map_nil,Option.map_none,Option.bind_none,reduceCtorEq,Int.toNat_natCast,Int.natCast_nonneg,List.not_mem_nil,retQ,resAll,resOne,resTup,AV.toDataR,wrap_succ,Int.ofNat_lt,Int.not_lt,obo1,obo2,obo3,core1,core2,core3]
    refine hK14 _ ?_
    try clear hK14 K14
    refine AWp.seqK fun K15 hK15=>?_
    refine AWp.condB (by simp only[AS.ev,upd_eq,Nat.reduceEqDiff,if_true,if_false,reduceIte,reduceCtorEq];rfl) (fun hc=>?_) (fun hc=>?_)
    all_goals (try simp only[decide_eq_true_eq,decide_eq_false_iff_not,Int.ofNat_lt,Int.not_lt,Nat.not_lt,bne_iff_ne,bne_eq_false_iff_eq,ne_eq,Bool.not_eq_true',Bool.not_eq_false',Bool.and_eq_true,Bool.or_eq_true,Bool.and_eq_false_iff,Bool.or_eq_false_iff,beq_iff_eq,beq_eq_false_iff_ne,Bool.not_eq_eq_eq_not,Bool.not_true,Bool.not_false] at hc)  
    ·refine AWp.skip ?_
     refine hK15 _ ?_
     try clear hK15 K15
     have hg:=encRows_getD hc
     have hle:=flat_take_le ll (k+1)
     have hft:=flat_take hc
     have hln:(ll.take (k+1)).flatten.length=(ll.take k).flatten.length+ll[k].length:=by rw[hft,List.length_append]
     refine AWp.seqK fun K16 hK16=>?_
     refine AWp.block ?_
     refine AWp.seqK fun K17 hK17=>?_
     refine AWp.regionC hok htab hnt ?_
     simp only[ARunC,CStep,isRoom,nilCmp,xval,callArgs,bne_self_eq_false,  pval,heff,bopAll,bopX,cvtVal,bopVal,bopInt,lenVal,fieldsOf,ldCells,ldElem,fillCells,setCells,lookVal,mapGet,mapPut,boundOf,idxOk,lensOk,appOk,Value.cells,TK.agg,thenQ,inBlockQ,AS.put,AS.ev,startT,upd_eq,dstOk,gslot,condP,tabs,reduceIte,Nat.reduceLT,Nat.reduceEqDiff,Nat.reduceAdd,Nat.reduceLeDiff,Nat.reduceMul,Nat.reduceSub,List.getElem?_nil,List.length_nil,List.nil_append,List.append_nil,List.take_zero,List.map_nil,Option.map_none,Option.bind_none,reduceCtorEq,Int.toNat_natCast,Int.natCast_nonneg,List.not_mem_nil,retQ,resAll,resOne,resTup,AV.toDataR,wrap_succ,Int.ofNat_lt,Int.not_lt,obo1,obo2,obo3,core1,core2,core3,hg,encRows_len]
     refine⟨by omega,?_⟩ 
     refine hK17 _ ?_
     try clear hK17 K17
     refine AWp.regionC hok htab hnt ?_
     simp only[ARunC,CStep,isRoom,nilCmp,xval,callArgs,bne_self_eq_false,  pval,heff,bopAll,bopX,cvtVal,bopVal,bopInt,lenVal,fieldsOf,ldCells,ldElem,fillCells,setCells,lookVal,mapGet,mapPut,boundOf,idxOk,lensOk,appOk,Value.cells,TK.agg,thenQ,inBlockQ,AS.put,AS.ev,startT,upd_eq,dstOk,gslot,condP,tabs,reduceIte,Nat.reduceLT,Nat.reduceEqDiff,Nat.reduceAdd,Nat.reduceLeDiff,Nat.reduceMul,Nat.reduceSub,List.getElem?_nil,List.length_nil,List.nil_append,List.append_nil,List.take_zero,List.map_nil,Option.map_none,Option.bind_none,reduceCtorEq,Int.toNat_natCast,Int.natCast_nonneg,List.not_mem_nil,retQ,resAll,resOne,resTup,AV.toDataR,wrap_succ,Int.ofNat_lt,Int.not_lt,obo1,obo2,obo3,core1,core2,core3]
     refine⟨⟨fun x hx=>enc_cells_mem hx,by simp only[maxLen];omega,by omega⟩,?_⟩
     refine hK16 _ ?_
     try clear hK16 K16
     have hw1:IntKind.i64.wrap ((k:Int)+1)=((k+1:Nat):Int):=wrap_succ (by omega)
     refine AWp.regionC hok htab hnt ?_
     simp only[ARunC,CStep,isRoom,nilCmp,xval,callArgs,bne_self_eq_false,  pval,heff,bopAll,bopX,cvtVal,bopVal,bopInt,lenVal,fieldsOf,ldCells,ldElem,fillCells,setCells,lookVal,mapGet,mapPut,boundOf,idxOk,lensOk,appOk,Value.cells,TK.agg,thenQ,inBlockQ,AS.put,AS.ev,startT,upd_eq,dstOk,gslot,condP,tabs,reduceIte,Nat.reduceLT,Nat.reduceEqDiff,Nat.reduceAdd,Nat.reduceLeDiff,Nat.reduceMul,Nat.reduceSub,List.getElem?_nil,List.length_nil,List.nil_append,List.append_nil,List.take_zero,List.map_nil,Option.map_none,Option.bind_none,reduceCtorEq,Int.toNat_natCast,Int.natCast_nonneg,List.not_mem_nil,retQ,resAll,resOne,resTup,AV.toDataR,wrap_succ,Int.ofNat_lt,Int.not_lt,obo1,obo2,obo3,core1,core2,core3,hw1]
     refine⟨k+1,by omega,?_,by omega⟩
     rw[←hln]
     refine Weak.cut hok 1 (by omega) ?_ ?_ ?_ ?_
     ·repeat' (first|exact Sub.nil|refine Sub.upd ?_ ?_)
      all_goals rfl
     ·repeat' (first|exact ShutF.nil|refine ShutF.upd ?_ ?_)
      all_goals first|rfl|assumption|exact CapsOk.cl (by assumption) _
     ·rw[hft,List.map_append];rfl
     ·simp[AObj.closed,AV.closedC]
    ·obtain rfl:k=ll.length:=by omega
     refine AWp.exit ?_
     simp only[ARunC,CStep,isRoom,nilCmp,xval,callArgs,bne_self_eq_false,  pval,heff,bopAll,bopX,cvtVal,bopVal,bopInt,lenVal,fieldsOf,ldCells,ldElem,fillCells,setCells,lookVal,mapGet,mapPut,boundOf,idxOk,lensOk,appOk,Value.cells,TK.agg,thenQ,inBlockQ,AS.put,AS.ev,startT,upd_eq,dstOk,gslot,condP,tabs,reduceIte,Nat.reduceLT,Nat.reduceEqDiff,Nat.reduceAdd,Nat.reduceLeDiff,Nat.reduceMul,Nat.reduceSub,List.getElem?_nil,List.length_nil,List.nil_append,List.append_nil,List.take_zero,List.map_nil,Option.map_none,Option.bind_none,reduceCtorEq,Int.toNat_natCast,Int.natCast_nonneg,List.not_mem_nil,retQ,resAll,resOne,resTup,AV.toDataR,wrap_succ,Int.ofNat_lt,Int.not_lt,obo1,obo2,obo3,core1,core2,core3]
     refine hK12 _ ?_
     try clear hK12 K12
     refine AWp.seqK fun K18 hK18=>?_
     refine AWp.regionC hok htab hnt ?_
     simp only[ARunC,CStep,isRoom,nilCmp,xval,callArgs,bne_self_eq_false,  pval,heff,bopAll,bopX,cvtVal,bopVal,bopInt,lenVal,fieldsOf,ldCells,ldElem,fillCells,setCells,lookVal,mapGet,mapPut,boundOf,idxOk,lensOk,appOk,Value.cells,TK.agg,thenQ,inBlockQ,AS.put,AS.ev,startT,upd_eq,dstOk,gslot,condP,tabs,reduceIte,Nat.reduceLT,Nat.reduceEqDiff,Nat.reduceAdd,Nat.reduceLeDiff,Nat.reduceMul,Nat.reduceSub,List.getElem?_nil,List.length_nil,List.nil_append,List.append_nil,List.take_zero,List.map_nil,Option.map_none,Option.bind_none,reduceCtorEq,Int.toNat_natCast,Int.natCast_nonneg,List.not_mem_nil,retQ,resAll,resOne,resTup,AV.toDataR,wrap_succ,Int.ofNat_lt,Int.not_lt,obo1,obo2,obo3,core1,core2,core3]
     refine hK18 _ ?_
     try clear hK18 K18
     refine AWp.ret ?_
     simp only[ARunC,CStep,isRoom,nilCmp,xval,callArgs,bne_self_eq_false,  pval,heff,bopAll,bopX,cvtVal,bopVal,bopInt,lenVal,fieldsOf,ldCells,ldElem,fillCells,setCells,lookVal,mapGet,mapPut,boundOf,idxOk,lensOk,appOk,Value.cells,TK.agg,thenQ,inBlockQ,AS.put,AS.ev,startT,upd_eq,dstOk,gslot,condP,tabs,reduceIte,Nat.reduceLT,Nat.reduceEqDiff,Nat.reduceAdd,Nat.reduceLeDiff,Nat.reduceMul,Nat.reduceSub,List.getElem?_nil,List.length_nil,List.nil_append,List.append_nil,List.take_zero,List.map_nil,Option.map_none,Option.bind_none,reduceCtorEq,Int.toNat_natCast,Int.natCast_nonneg,List.not_mem_nil,retQ,resAll,resOne,resTup,AV.toDataR,wrap_succ,Int.ofNat_lt,Int.not_lt,obo1,obo2,obo3,core1,core2,core3,Tryz.results113,List.take_length]
end Go.Proofs.YtghnkppcncbddaaGreatDoor

namespace Go.Proofs.YtghnkppcncbddaaGreatDoor
open Go
set_option linter.unusedSimpArgs false
set_option linter.unusedVariables false
def Ty.arrow (t:Ty) (l:List Ty):Ty:=.mk (l++t.args) t.base
theorem arrow_calls {t:Ty} {l:List Ty} (h:Ty.sizes l+t.size≤1000000000):PureIs Tryz.prog 68 [t.enc,.sl (l.map Ty.enc)] (t.arrow l).enc:=by
 have hl:=Ty.sizes_len l
 have hl2:=Ty.sizes_len t.args
 have hs:=t.size_eq
 have hc1:=concat_calls (ll:=[l,t.args]) (by simp) (by simp;omega)
 have hc2:=copied_calls _ (.mk (l++t.args) t.base) (Nat.le_refl _) (by simp only[Ty.size,Ty.sizes_append];omega)
 simp only[encRows,List.map_cons,List.map_nil,List.flatten_cons,List.flatten_nil,List.append_nil] at hc1
 rw[Ty.enc_mk] at hc2
 rw[Ty.arrow,Ty.enc_mk,Ty.enc_eq t]
 exact vc68_ok ⟨_,hc1,_,_,hc2,rfl⟩
mutual
def Tm.var:Tm→Option (Int×Int)
 | .mk b k i a=>if a.length=b.length∧¬(k=0∧i<b.length) then(if Tm.varArgs b.length 0 b a=true then some (k,if k=0 then IntKind.wrap .i64 (i-b.length) else i) else none) else none
def Tm.varArgs (n:Nat):Nat→List Ty→List Tm→Bool
 |k,t::b,a::l=>(match Tm.var a with
  |some (q,j)=>q==0&&j==(n:Int)-1-k&&Ty.sames a.binds t.args
  |none=>false)&&Tm.varArgs n (k+1) b l
 |_,_,_=>true
end
def I64 (i:Int):Prop := -9223372036854775808≤i∧i<9223372036854775808
mutual
def Tm.Ok:Tm→Prop
 | .mk _ k i a=>I64 k∧I64 i∧Tm.Oks a
def Tm.Oks:List Tm→Prop
 | []=>True
 |t::l=>Tm.Ok t∧Tm.Oks l
end
theorem Tm.Oks_mem {l:List Tm} (h:Tm.Oks l) {t:Tm} (ht:t∈l):t.Ok:=by
 induction l with
 |nil=>cases ht
 |cons u l ih=>
  obtain⟨h1,h2⟩:=h
  rcases List.mem_cons.1 ht with rfl|h3
  ·exact h1
  ·exact ih h2 h3
theorem Tm.ok_eq {t:Tm} (h:t.Ok):I64 t.kind∧I64 t.index∧Tm.Oks t.args:=by cases t;exact h
end Go.Proofs.YtghnkppcncbddaaGreatDoor
