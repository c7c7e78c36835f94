/- Texts of ours laid together for a claim: P1Y P1Z P2A P2B. -/
import Derived.Test.YtjhanogfpkbamaaGreatDoorQ51
namespace Go.Proofs.YtjhanogfpkbamaaGreatDoor
open Go
set_option linter.unusedSimpArgs false
set_option linter.unusedVariables false
theorem growW_callsI {hp:List AObj} {n:Nat} (hn:n≤1000000000) (hcl:∀o∈hp,AObj.closed (hp.length+1) o=true):
  HFn Tryz.prog 103 [.prim (.slice none 0 0),.prim (.int .i64 (n:Nat))] hp (fun r hp'=>r=.own hp.length 0∧hp'=hp++[.row 3 1 []]):=by
 refine heap_of_body_at tab_ok (hp.length+1) (by simp) (fn:=Tryz.f103) Tryz.func103 rfl (by kernel_rfl) (by simp[Tryz.ntmps103]) ?_
 intro Γ hok hP hnt hh0 hfree0
 rw[Tryz.ntmps103] at hnt
 have htab:TabOk Γ.P tab:=by rw[hP];exact tab_ok
 refine AWp.seqK fun K1 hK1=>?_
 refine AWp.regionC hok htab hnt ?_
 simp only[ARunC,CStep,isRoom,nilCmp,xval,callArgs,bne_self_eq_false,  pval,heff,ifcV,nilC,bopAll,bopX,cvtVal,bopVal,bopInt,lenVal,fieldsOf,ldCells,ldElem,fillCells,setCells,lookVal,mapGet,mapPut,boundOf,idxOk,lensOk,appOk,Value.cells,TK.agg,thenQ,inBlockQ,AS.put,AS.ev,startT,upd_eq,dstOk,gslot,condP,tabs,reduceIte,Nat.reduceLT,Nat.reduceEqDiff,Nat.reduceAdd,Nat.reduceLeDiff,Nat.reduceMul,Nat.reduceSub,List.getElem?_nil,List.length_nil,List.nil_append,List.append_nil,List.take_zero,List.map_nil,Option.map_none,Option.bind_none,reduceCtorEq,Int.toNat_natCast,Int.natCast_nonneg,List.not_mem_nil,retQ,resAll,resOne,resTup,AV.toDataR,wrap_succ,Int.ofNat_lt,Int.not_lt,obo1,obo2,obo3,core1,core2,core3]
 refine hK1 _ ?_
 try clear hK1 K1
 refine AWp.seqK fun K2 hK2=>?_
 refine AWp.seqK fun K3 hK3=>?_
 refine AWp.regionC hok htab hnt ?_
 simp only[ARunC,CStep,isRoom,nilCmp,xval,callArgs,bne_self_eq_false,  pval,heff,ifcV,nilC,bopAll,bopX,cvtVal,bopVal,bopInt,lenVal,fieldsOf,ldCells,ldElem,fillCells,setCells,lookVal,mapGet,mapPut,boundOf,idxOk,lensOk,appOk,Value.cells,TK.agg,thenQ,inBlockQ,AS.put,AS.ev,startT,upd_eq,dstOk,gslot,condP,tabs,reduceIte,Nat.reduceLT,Nat.reduceEqDiff,Nat.reduceAdd,Nat.reduceLeDiff,Nat.reduceMul,Nat.reduceSub,List.getElem?_nil,List.length_nil,List.nil_append,List.append_nil,List.take_zero,List.map_nil,Option.map_none,Option.bind_none,reduceCtorEq,Int.toNat_natCast,Int.natCast_nonneg,List.not_mem_nil,retQ,resAll,resOne,resTup,AV.toDataR,wrap_succ,Int.ofNat_lt,Int.not_lt,obo1,obo2,obo3,core1,core2,core3]
 refine hK3 _ ?_
 try clear hK3 K3
 refine AWp.condB (by simp only[AS.ev,upd_eq,Nat.reduceEqDiff,if_true,if_false,reduceIte,reduceCtorEq];rfl) (fun hc=>?_) (fun hc=>?_)
 all_goals (try simp only[decide_eq_true_eq,decide_eq_false_iff_not,Int.ofNat_lt,Int.not_lt,Nat.not_lt,bne_iff_ne,bne_eq_false_iff_eq,ne_eq,Bool.not_eq_true',Bool.not_eq_false',Bool.and_eq_true,Bool.or_eq_true,Bool.and_eq_false_iff,Bool.or_eq_false_iff,beq_iff_eq,beq_eq_false_iff_ne,Bool.not_eq_eq_eq_not,Bool.not_true,Bool.not_false] at hc)
 ·exfalso;omega
 ·refine AWp.skip ?_
  refine hK2 _ ?_
  try clear hK2 K2
  refine AWp.seqK fun K9 hK9=>?_
  refine AWp.seqK fun K10 hK10=>?_
  have hw:IntKind.i64.wrap ((n:Int)-IntKind.i64.wrap (0-((0:Nat):Int)))=(n:Int):=by
   rw[show IntKind.i64.wrap (0-((0:Nat):Int))=0 from by decide,Int.sub_zero,IntWalk.i64_in _ (by omega)]
  refine AWp.regionC hok htab hnt ?_
  simp only[ARunC,CStep,isRoom,nilCmp,xval,callArgs,bne_self_eq_false,  pval,heff,ifcV,nilC,bopAll,bopX,cvtVal,bopVal,bopInt,lenVal,fieldsOf,ldCells,ldElem,fillCells,setCells,lookVal,mapGet,mapPut,boundOf,idxOk,lensOk,appOk,Value.cells,TK.agg,thenQ,inBlockQ,AS.put,AS.ev,startT,upd_eq,dstOk,gslot,condP,tabs,reduceIte,Nat.reduceLT,Nat.reduceEqDiff,Nat.reduceAdd,Nat.reduceLeDiff,Nat.reduceMul,Nat.reduceSub,List.getElem?_nil,List.length_nil,List.nil_append,List.append_nil,List.take_zero,List.map_nil,Option.map_none,Option.bind_none,reduceCtorEq,Int.toNat_natCast,Int.natCast_nonneg,List.not_mem_nil,retQ,resAll,resOne,resTup,AV.toDataR,wrap_succ,Int.ofNat_lt,Int.not_lt,obo1,obo2,obo3,core1,core2,core3,hw]
  refine hK10 _ ?_
  try clear hK10 K10
  refine AWp.seqK fun K11 hK11=>?_
  refine AWp.regionC hok htab hnt ?_
  simp only[ARunC,CStep,isRoom,nilCmp,xval,callArgs,bne_self_eq_false,  pval,heff,ifcV,nilC,bopAll,bopX,cvtVal,bopVal,bopInt,lenVal,fieldsOf,ldCells,ldElem,fillCells,setCells,lookVal,mapGet,mapPut,boundOf,idxOk,lensOk,appOk,Value.cells,TK.agg,thenQ,inBlockQ,AS.put,AS.ev,startT,upd_eq,dstOk,gslot,condP,tabs,reduceIte,Nat.reduceLT,Nat.reduceEqDiff,Nat.reduceAdd,Nat.reduceLeDiff,Nat.reduceMul,Nat.reduceSub,List.getElem?_nil,List.length_nil,List.nil_append,List.append_nil,List.take_zero,List.map_nil,Option.map_none,Option.bind_none,reduceCtorEq,Int.toNat_natCast,Int.natCast_nonneg,List.not_mem_nil,retQ,resAll,resOne,resTup,AV.toDataR,wrap_succ,Int.ofNat_lt,Int.not_lt,obo1,obo2,obo3,core1,core2,core3]
  refine hK11 _ ?_
  try clear hK11 K11
  refine AWp.condB (by simp only[AS.ev,upd_eq,Nat.reduceEqDiff,if_true,if_false,reduceIte,reduceCtorEq];rfl) (fun hc=>?_) (fun hc=>?_)
  all_goals (try simp only[decide_eq_true_eq,decide_eq_false_iff_not,Int.ofNat_lt,Int.not_lt,Nat.not_lt,bne_iff_ne,bne_eq_false_iff_eq,ne_eq,Bool.not_eq_true',Bool.not_eq_false',Bool.and_eq_true,Bool.or_eq_true,Bool.and_eq_false_iff,Bool.or_eq_false_iff,beq_iff_eq,beq_eq_false_iff_ne,Bool.not_eq_eq_eq_not,Bool.not_true,Bool.not_false] at hc)  
  ·refine AWp.regionC hok htab hnt ?_
   simp only[ARunC,CStep,isRoom,nilCmp,xval,callArgs,bne_self_eq_false,  pval,heff,ifcV,nilC,bopAll,bopX,cvtVal,bopVal,bopInt,lenVal,fieldsOf,ldCells,ldElem,fillCells,setCells,lookVal,mapGet,mapPut,boundOf,idxOk,lensOk,appOk,Value.cells,TK.agg,thenQ,inBlockQ,AS.put,AS.ev,startT,upd_eq,dstOk,gslot,condP,tabs,reduceIte,Nat.reduceLT,Nat.reduceEqDiff,Nat.reduceAdd,Nat.reduceLeDiff,Nat.reduceMul,Nat.reduceSub,List.getElem?_nil,List.length_nil,List.nil_append,List.append_nil,List.take_zero,List.map_nil,Option.map_none,Option.bind_none,reduceCtorEq,Int.toNat_natCast,Int.natCast_nonneg,List.not_mem_nil,retQ,resAll,resOne,resTup,AV.toDataR,wrap_succ,Int.ofNat_lt,Int.not_lt,obo1,obo2,obo3,core1,core2,core3]
   refine AList.room hok htab (c1:={ callee:=.builtin .append,args:=#[.tmp 20,.tmp 21],argTypes:=#[42,3] }) (c3:={ callee:=.builtin .len,args:=#[.tmp 23],argTypes:=#[42] }) (n:=n) rfl rfl rfl rfl rfl rfl rfl rfl tab_42 rfl tab_3 tab_3 rfl (by decide) rfl rfl (by omega) (by simp only[maxLen];omega) (by simp only[td3];omega)
    rfl rfl (by simp) rfl rfl rfl rfl rfl rfl rfl rfl rfl (by omega) (by omega) (by omega) (by omega) (by decide) (by decide) ?_
   refine ARunC.sound hok htab hnt _ _ ?_
   simp only[ARunC,CStep,isRoom,nilCmp,xval,callArgs,bne_self_eq_false,  pval,heff,ifcV,nilC,bopAll,bopX,cvtVal,bopVal,bopInt,lenVal,fieldsOf,ldCells,ldElem,fillCells,setCells,lookVal,mapGet,mapPut,boundOf,idxOk,lensOk,appOk,Value.cells,TK.agg,thenQ,inBlockQ,AS.put,AS.ev,startT,upd_eq,dstOk,gslot,condP,tabs,reduceIte,Nat.reduceLT,Nat.reduceEqDiff,Nat.reduceAdd,Nat.reduceLeDiff,Nat.reduceMul,Nat.reduceSub,List.getElem?_nil,List.length_nil,List.nil_append,List.append_nil,List.take_zero,List.map_nil,Option.map_none,Option.bind_none,reduceCtorEq,Int.toNat_natCast,Int.natCast_nonneg,List.not_mem_nil,retQ,resAll,resOne,resTup,AV.toDataR,wrap_succ,Int.ofNat_lt,Int.not_lt,obo1,obo2,obo3,core1,core2,core3]
   refine hK9 _ ?_
   try clear hK9 K9
   refine AWp.seqK fun K12 hK12=>?_
   refine AWp.regionC hok htab hnt ?_
   simp only[ARunC,CStep,isRoom,nilCmp,xval,callArgs,bne_self_eq_false,  pval,heff,ifcV,nilC,bopAll,bopX,cvtVal,bopVal,bopInt,lenVal,fieldsOf,ldCells,ldElem,fillCells,setCells,lookVal,mapGet,mapPut,boundOf,idxOk,lensOk,appOk,Value.cells,TK.agg,thenQ,inBlockQ,AS.put,AS.ev,startT,upd_eq,dstOk,gslot,condP,tabs,reduceIte,Nat.reduceLT,Nat.reduceEqDiff,Nat.reduceAdd,Nat.reduceLeDiff,Nat.reduceMul,Nat.reduceSub,List.getElem?_nil,List.length_nil,List.nil_append,List.append_nil,List.take_zero,List.map_nil,Option.map_none,Option.bind_none,reduceCtorEq,Int.toNat_natCast,Int.natCast_nonneg,List.not_mem_nil,retQ,resAll,resOne,resTup,AV.toDataR,wrap_succ,Int.ofNat_lt,Int.not_lt,obo1,obo2,obo3,core1,core2,core3]
   refine hK12 _ ?_
   try clear hK12 K12
   refine AWp.ret ?_
   simp only[ARunC,CStep,isRoom,nilCmp,xval,callArgs,bne_self_eq_false,  pval,heff,ifcV,nilC,bopAll,bopX,cvtVal,bopVal,bopInt,lenVal,fieldsOf,ldCells,ldElem,fillCells,setCells,lookVal,mapGet,mapPut,boundOf,idxOk,lensOk,appOk,Value.cells,TK.agg,thenQ,inBlockQ,AS.put,AS.ev,startT,upd_eq,dstOk,gslot,condP,tabs,reduceIte,Nat.reduceLT,Nat.reduceEqDiff,Nat.reduceAdd,Nat.reduceLeDiff,Nat.reduceMul,Nat.reduceSub,List.getElem?_nil,List.length_nil,List.nil_append,List.append_nil,List.take_zero,List.map_nil,Option.map_none,Option.bind_none,reduceCtorEq,Int.toNat_natCast,Int.natCast_nonneg,List.not_mem_nil,retQ,resAll,resOne,resTup,AV.toDataR,wrap_succ,Int.ofNat_lt,Int.not_lt,obo1,obo2,obo3,core1,core2,core3,Tryz.results103,retH]
   have e:List.take (hp.length+1) (hp++[AObj.row 3 1 []])=hp++[AObj.row 3 1 []]:=List.take_of_length_le (by simp)
   rw[e]
   refine⟨fun o ho=>?_,?_,rfl⟩
   ·rcases List.mem_append.1 ho with h1|h1
    ·exact hcl o h1
    ·rw[List.mem_singleton.1 h1];rfl
   ·simp[AV.out,AV.outV,AV.outC,AV.closedC]
  ·refine AWp.skip ?_
   refine hK9 _ ?_
   try clear hK9 K9
   refine AWp.weak (Weak.row hok 0 3 1 (by decide) rfl) ?_
   refine AWp.seqK fun K13 hK13=>?_
   refine AWp.regionC hok htab hnt ?_
   simp only[ARunC,CStep,isRoom,nilCmp,xval,callArgs,bne_self_eq_false,  pval,heff,ifcV,nilC,bopAll,bopX,cvtVal,bopVal,bopInt,lenVal,fieldsOf,ldCells,ldElem,fillCells,setCells,lookVal,mapGet,mapPut,boundOf,idxOk,lensOk,appOk,Value.cells,TK.agg,thenQ,inBlockQ,AS.put,AS.ev,startT,upd_eq,dstOk,gslot,condP,tabs,reduceIte,Nat.reduceLT,Nat.reduceEqDiff,Nat.reduceAdd,Nat.reduceLeDiff,Nat.reduceMul,Nat.reduceSub,List.getElem?_nil,List.length_nil,List.nil_append,List.append_nil,List.take_zero,List.map_nil,Option.map_none,Option.bind_none,reduceCtorEq,Int.toNat_natCast,Int.natCast_nonneg,List.not_mem_nil,retQ,resAll,resOne,resTup,AV.toDataR,wrap_succ,Int.ofNat_lt,Int.not_lt,obo1,obo2,obo3,core1,core2,core3]
   refine hK13 _ ?_
   try clear hK13 K13
   refine AWp.ret ?_
   simp only[ARunC,CStep,isRoom,nilCmp,xval,callArgs,bne_self_eq_false,  pval,heff,ifcV,nilC,bopAll,bopX,cvtVal,bopVal,bopInt,lenVal,fieldsOf,ldCells,ldElem,fillCells,setCells,lookVal,mapGet,mapPut,boundOf,idxOk,lensOk,appOk,Value.cells,TK.agg,thenQ,inBlockQ,AS.put,AS.ev,startT,upd_eq,dstOk,gslot,condP,tabs,reduceIte,Nat.reduceLT,Nat.reduceEqDiff,Nat.reduceAdd,Nat.reduceLeDiff,Nat.reduceMul,Nat.reduceSub,List.getElem?_nil,List.length_nil,List.nil_append,List.append_nil,List.take_zero,List.map_nil,Option.map_none,Option.bind_none,reduceCtorEq,Int.toNat_natCast,Int.natCast_nonneg,List.not_mem_nil,retQ,resAll,resOne,resTup,AV.toDataR,wrap_succ,Int.ofNat_lt,Int.not_lt,obo1,obo2,obo3,core1,core2,core3,Tryz.results103,retH]
   have e:List.take (hp.length+1) (hp++[AObj.row 3 1 []])=hp++[AObj.row 3 1 []]:=List.take_of_length_le (by simp)
   rw[e]
   refine⟨fun o ho=>?_,?_,rfl⟩
   ·rcases List.mem_append.1 ho with h1|h1
    ·exact hcl o h1
    ·rw[List.mem_singleton.1 h1];rfl
   ·simp[AV.out,AV.outV,AV.outC,AV.closedC]
def wRowsI (ll:List (List Int)):List AV:=ll.map fun l=>.sl (l.map nI)
theorem wRows_getDI {ll:List (List Int)} {k:Nat} (h:k<ll.length):(wRowsI ll).getD k .top=.sl (ll[k].map nI):=by
 simp[wRowsI,List.getD,h]
theorem wRows_lenI (ll:List (List Int)):(wRowsI ll).length=ll.length:=by simp[wRowsI]
theorem wflat_takeI {ll:List (List Int)} {k:Nat} (h:k<ll.length):(ll.take (k+1)).flatten=(ll.take k).flatten++ll[k]:=by
 rw[List.take_succ_eq_append_getElem h,List.flatten_append,List.flatten_singleton]
theorem wflat_take_leI (ll:List (List Int)) (k:Nat):(ll.take k).flatten.length≤ll.flatten.length:=by
 have h:ll.flatten=(ll.take k).flatten++(ll.drop k).flatten:=by rw[←List.flatten_append,List.take_append_drop]
 rw[h,List.length_append];omega
theorem wcells_memI {l:List Int} {x:AV} (h:x∈l.map nI):x.cells.length=1:=by
 obtain⟨t,_,rfl⟩:=List.mem_map.1 h
 rfl
theorem concatW_callsI {ll:List (List Int)} (h0:ll.length≤1000000000) (hn:ll.flatten.length≤1000000000):
  PureIs Tryz.prog 60 [.sl (wRowsI ll)] (.sl (ll.flatten.map nI)):=by
 refine pure_of_body tab_ok (fn:=Tryz.f60) Tryz.func60 rfl (by kernel_rfl) (by simp[Tryz.ntmps60]) ?_
 intro Γ hok hP hnt hh0 hfree0
 rw[Tryz.ntmps60] at hnt
 have htab:TabOk Γ.P tab:=by rw[hP];exact tab_ok
 refine AWp.seqK fun K1 hK1=>?_
 refine AWp.regionC hok htab hnt ?_
 simp only[ARunC,CStep,isRoom,nilCmp,xval,callArgs,bne_self_eq_false,  pval,heff,ifcV,nilC,bopAll,bopX,cvtVal,bopVal,bopInt,lenVal,fieldsOf,ldCells,ldElem,fillCells,setCells,lookVal,mapGet,mapPut,boundOf,idxOk,lensOk,appOk,Value.cells,TK.agg,thenQ,inBlockQ,AS.put,AS.ev,startT,upd_eq,dstOk,gslot,condP,tabs,reduceIte,Nat.reduceLT,Nat.reduceEqDiff,Nat.reduceAdd,Nat.reduceLeDiff,Nat.reduceMul,Nat.reduceSub,List.getElem?_nil,List.length_nil,List.nil_append,List.append_nil,List.take_zero,List.map_nil,Option.map_none,Option.bind_none,reduceCtorEq,Int.toNat_natCast,Int.natCast_nonneg,List.not_mem_nil,retQ,resAll,resOne,resTup,AV.toDataR,wrap_succ,Int.ofNat_lt,Int.not_lt,obo1,obo2,obo3,core1,core2,core3]
 refine hK1 _ ?_
 try clear hK1 K1
 refine AWp.seqK fun K2 hK2=>?_
 refine AWp.regionC hok htab hnt ?_
 simp only[ARunC,CStep,isRoom,nilCmp,xval,callArgs,bne_self_eq_false,  pval,heff,ifcV,nilC,bopAll,bopX,cvtVal,bopVal,bopInt,lenVal,fieldsOf,ldCells,ldElem,fillCells,setCells,lookVal,mapGet,mapPut,boundOf,idxOk,lensOk,appOk,Value.cells,TK.agg,thenQ,inBlockQ,AS.put,AS.ev,startT,upd_eq,dstOk,gslot,condP,tabs,reduceIte,Nat.reduceLT,Nat.reduceEqDiff,Nat.reduceAdd,Nat.reduceLeDiff,Nat.reduceMul,Nat.reduceSub,List.getElem?_nil,List.length_nil,List.nil_append,List.append_nil,List.take_zero,List.map_nil,Option.map_none,Option.bind_none,reduceCtorEq,Int.toNat_natCast,Int.natCast_nonneg,List.not_mem_nil,retQ,resAll,resOne,resTup,AV.toDataR,wrap_succ,Int.ofNat_lt,Int.not_lt,obo1,obo2,obo3,core1,core2,core3]
 refine hK2 _ ?_
 try clear hK2 K2
 refine AWp.seqK fun K3 hK3=>?_
 refine AWp.seqK fun K4 hK4=>?_
 refine AWp.regionC hok htab hnt ?_
 simp only[ARunC,CStep,isRoom,nilCmp,xval,callArgs,bne_self_eq_false,  pval,heff,ifcV,nilC,bopAll,bopX,cvtVal,bopVal,bopInt,lenVal,fieldsOf,ldCells,ldElem,fillCells,setCells,lookVal,mapGet,mapPut,boundOf,idxOk,lensOk,appOk,Value.cells,TK.agg,thenQ,inBlockQ,AS.put,AS.ev,startT,upd_eq,dstOk,gslot,condP,tabs,reduceIte,Nat.reduceLT,Nat.reduceEqDiff,Nat.reduceAdd,Nat.reduceLeDiff,Nat.reduceMul,Nat.reduceSub,List.getElem?_nil,List.length_nil,List.nil_append,List.append_nil,List.take_zero,List.map_nil,Option.map_none,Option.bind_none,reduceCtorEq,Int.toNat_natCast,Int.natCast_nonneg,List.not_mem_nil,retQ,resAll,resOne,resTup,AV.toDataR,wrap_succ,Int.ofNat_lt,Int.not_lt,obo1,obo2,obo3,core1,core2,core3,wRows_lenI]
 refine hK4 _ ?_
 try clear hK4 K4
 refine AWp.block ?_
 refine AWp.loop (fun k:Nat=>k≤ll.length)
  (fun k=>⟨(upd (upd (upd (upd (upd (fun _=>.top) 0 (.sl (wRowsI ll))) 3 (.prim (.int .i64 ((ll.take k).flatten.length:Nat)))) 9 (.sl (wRowsI ll))) 10 (.prim (.int .i64 (ll.length:Nat)))) 11 (.prim (.int .i64 (k:Nat)))),[],()⟩)
  (fun k=>ll.length-k) 0 (Nat.zero_le _) ?_ ?_
 ·refine Weak.cut hok 0 (by omega) ?_ ?_ ?_ ?_
  ·repeat' (first|exact Sub.nil|refine Sub.upd ?_ ?_)
   all_goals rfl
  ·repeat' (first|exact ShutF.nil|refine ShutF.upd ?_ ?_)
   all_goals first|rfl|assumption|exact CapsOk.cl (by assumption) _
  ·rfl
  ·simp[AObj.closed,AV.closedC]
 ·intro k hk
  refine AWp.seqK fun K5 hK5=>?_
  refine AWp.regionC hok htab hnt ?_
  simp only[ARunC,CStep,isRoom,nilCmp,xval,callArgs,bne_self_eq_false,  pval,heff,ifcV,nilC,bopAll,bopX,cvtVal,bopVal,bopInt,lenVal,fieldsOf,ldCells,ldElem,fillCells,setCells,lookVal,mapGet,mapPut,boundOf,idxOk,lensOk,appOk,Value.cells,TK.agg,thenQ,inBlockQ,AS.put,AS.ev,startT,upd_eq,dstOk,gslot,condP,tabs,reduceIte,Nat.reduceLT,Nat.reduceEqDiff,Nat.reduceAdd,Nat.reduceLeDiff,Nat.reduceMul,Nat.reduceSub,List.getElem?_nil,List.length_nil,List.nil_append,List.append_nil,List.take_zero,List.map_nil,Option.map_none,Option.bind_none,reduceCtorEq,Int.toNat_natCast,Int.natCast_nonneg,List.not_mem_nil,retQ,resAll,resOne,resTup,AV.toDataR,wrap_succ,Int.ofNat_lt,Int.not_lt,obo1,obo2,obo3,core1,core2,core3]
  refine hK5 _ ?_
  try clear hK5 K5
  refine AWp.seqK fun K6 hK6=>?_
  refine AWp.condB (by simp only[AS.ev,upd_eq,Nat.reduceEqDiff,if_true,if_false,reduceIte,reduceCtorEq];rfl) (fun hc=>?_) (fun hc=>?_)
  all_goals (try simp only[decide_eq_true_eq,decide_eq_false_iff_not,Int.ofNat_lt,Int.not_lt,Nat.not_lt,bne_iff_ne,bne_eq_false_iff_eq,ne_eq,Bool.not_eq_true',Bool.not_eq_false',Bool.and_eq_true,Bool.or_eq_true,Bool.and_eq_false_iff,Bool.or_eq_false_iff,beq_iff_eq,beq_eq_false_iff_ne,Bool.not_eq_eq_eq_not,Bool.not_true,Bool.not_false] at hc)  
  ·refine AWp.skip ?_
   refine hK6 _ ?_
   try clear hK6 K6
   have hg:=wRows_getDI hc
   have hle:=wflat_take_leI ll (k+1)
   have hft:=wflat_takeI hc
   have hln:(ll.take (k+1)).flatten.length=(ll.take k).flatten.length+ll[k].length:=by rw[hft,List.length_append]
   refine AWp.seqK fun K7 hK7=>?_
   refine AWp.block ?_
   refine AWp.seqK fun K8 hK8=>?_
   refine AWp.regionC hok htab hnt ?_
   simp only[ARunC,CStep,isRoom,nilCmp,xval,callArgs,bne_self_eq_false,  pval,heff,ifcV,nilC,bopAll,bopX,cvtVal,bopVal,bopInt,lenVal,fieldsOf,ldCells,ldElem,fillCells,setCells,lookVal,mapGet,mapPut,boundOf,idxOk,lensOk,appOk,Value.cells,TK.agg,thenQ,inBlockQ,AS.put,AS.ev,startT,upd_eq,dstOk,gslot,condP,tabs,reduceIte,Nat.reduceLT,Nat.reduceEqDiff,Nat.reduceAdd,Nat.reduceLeDiff,Nat.reduceMul,Nat.reduceSub,List.getElem?_nil,List.length_nil,List.nil_append,List.append_nil,List.take_zero,List.map_nil,Option.map_none,Option.bind_none,reduceCtorEq,Int.toNat_natCast,Int.natCast_nonneg,List.not_mem_nil,retQ,resAll,resOne,resTup,AV.toDataR,wrap_succ,Int.ofNat_lt,Int.not_lt,obo1,obo2,obo3,core1,core2,core3,hg,wRows_lenI]
   refine⟨by omega,?_⟩ 
   refine hK8 _ ?_
   try clear hK8 K8
   refine AWp.seqK fun K9 hK9=>?_
   have hw:IntKind.i64.wrap (((ll.take k).flatten.length:Int)+(ll[k].length:Int))=(((ll.take (k+1)).flatten.length:Nat):Int):=by
    rw[IntWalk.i64_in _ (by omega)];omega
   refine AWp.regionC hok htab hnt ?_
   simp only[ARunC,CStep,isRoom,nilCmp,xval,callArgs,bne_self_eq_false,  pval,heff,ifcV,nilC,bopAll,bopX,cvtVal,bopVal,bopInt,lenVal,fieldsOf,ldCells,ldElem,fillCells,setCells,lookVal,mapGet,mapPut,boundOf,idxOk,lensOk,appOk,Value.cells,TK.agg,thenQ,inBlockQ,AS.put,AS.ev,startT,upd_eq,dstOk,gslot,condP,tabs,reduceIte,Nat.reduceLT,Nat.reduceEqDiff,Nat.reduceAdd,Nat.reduceLeDiff,Nat.reduceMul,Nat.reduceSub,List.getElem?_nil,List.length_nil,List.nil_append,List.append_nil,List.take_zero,List.map_nil,Option.map_none,Option.bind_none,reduceCtorEq,Int.toNat_natCast,Int.natCast_nonneg,List.not_mem_nil,retQ,resAll,resOne,resTup,AV.toDataR,wrap_succ,Int.ofNat_lt,Int.not_lt,obo1,obo2,obo3,core1,core2,core3,hw]
   refine hK9 _ ?_
   try clear hK9 K9
   refine AWp.seqK fun K10 hK10=>?_
   refine AWp.regionC hok htab hnt ?_
   simp only[ARunC,CStep,isRoom,nilCmp,xval,callArgs,bne_self_eq_false,  pval,heff,ifcV,nilC,bopAll,bopX,cvtVal,bopVal,bopInt,lenVal,fieldsOf,ldCells,ldElem,fillCells,setCells,lookVal,mapGet,mapPut,boundOf,idxOk,lensOk,appOk,Value.cells,TK.agg,thenQ,inBlockQ,AS.put,AS.ev,startT,upd_eq,dstOk,gslot,condP,tabs,reduceIte,Nat.reduceLT,Nat.reduceEqDiff,Nat.reduceAdd,Nat.reduceLeDiff,Nat.reduceMul,Nat.reduceSub,List.getElem?_nil,List.length_nil,List.nil_append,List.append_nil,List.take_zero,List.map_nil,Option.map_none,Option.bind_none,reduceCtorEq,Int.toNat_natCast,Int.natCast_nonneg,List.not_mem_nil,retQ,resAll,resOne,resTup,AV.toDataR,wrap_succ,Int.ofNat_lt,Int.not_lt,obo1,obo2,obo3,core1,core2,core3]
   refine hK10 _ ?_
   try clear hK10 K10
   refine AWp.condB (by simp only[AS.ev,upd_eq,Nat.reduceEqDiff,if_true,if_false,reduceIte,reduceCtorEq];rfl) (fun hc=>?_) (fun hc=>?_)
   all_goals (try simp only[decide_eq_true_eq,decide_eq_false_iff_not,Int.ofNat_lt,Int.not_lt,Nat.not_lt,bne_iff_ne,bne_eq_false_iff_eq,ne_eq,Bool.not_eq_true',Bool.not_eq_false',Bool.and_eq_true,Bool.or_eq_true,Bool.and_eq_false_iff,Bool.or_eq_false_iff,beq_iff_eq,beq_eq_false_iff_ne,Bool.not_eq_eq_eq_not,Bool.not_true,Bool.not_false] at hc)  
   ·exfalso;omega
   ·refine AWp.skip ?_
    refine hK7 _ ?_
    try clear hK7 K7
    have hw1:IntKind.i64.wrap ((k:Int)+1)=((k+1:Nat):Int):=wrap_succ (by omega)
    refine AWp.regionC hok htab hnt ?_
    simp only[ARunC,CStep,isRoom,nilCmp,xval,callArgs,bne_self_eq_false,  pval,heff,ifcV,nilC,bopAll,bopX,cvtVal,bopVal,bopInt,lenVal,fieldsOf,ldCells,ldElem,fillCells,setCells,lookVal,mapGet,mapPut,boundOf,idxOk,lensOk,appOk,Value.cells,TK.agg,thenQ,inBlockQ,AS.put,AS.ev,startT,upd_eq,dstOk,gslot,condP,tabs,reduceIte,Nat.reduceLT,Nat.reduceEqDiff,Nat.reduceAdd,Nat.reduceLeDiff,Nat.reduceMul,Nat.reduceSub,List.getElem?_nil,List.length_nil,List.nil_append,List.append_nil,List.take_zero,List.map_nil,Option.map_none,Option.bind_none,reduceCtorEq,Int.toNat_natCast,Int.natCast_nonneg,List.not_mem_nil,retQ,resAll,resOne,resTup,AV.toDataR,wrap_succ,Int.ofNat_lt,Int.not_lt,obo1,obo2,obo3,core1,core2,core3,hw1]
    refine⟨k+1,by omega,?_,by omega⟩
    refine Weak.cut hok 0 (by omega) ?_ ?_ ?_ ?_
    ·repeat' (first|exact Sub.nil|refine Sub.upd ?_ ?_)
     all_goals rfl
    ·repeat' (first|exact ShutF.nil|refine ShutF.upd ?_ ?_)
     all_goals first|rfl|assumption|exact CapsOk.cl (by assumption) _
    ·rfl
    ·simp[AObj.closed,AV.closedC]
  ·obtain rfl:k=ll.length:=by omega
   refine AWp.exit ?_
   simp only[ARunC,CStep,isRoom,nilCmp,xval,callArgs,bne_self_eq_false,  pval,heff,ifcV,nilC,bopAll,bopX,cvtVal,bopVal,bopInt,lenVal,fieldsOf,ldCells,ldElem,fillCells,setCells,lookVal,mapGet,mapPut,boundOf,idxOk,lensOk,appOk,Value.cells,TK.agg,thenQ,inBlockQ,AS.put,AS.ev,startT,upd_eq,dstOk,gslot,condP,tabs,reduceIte,Nat.reduceLT,Nat.reduceEqDiff,Nat.reduceAdd,Nat.reduceLeDiff,Nat.reduceMul,Nat.reduceSub,List.getElem?_nil,List.length_nil,List.nil_append,List.append_nil,List.take_zero,List.map_nil,Option.map_none,Option.bind_none,reduceCtorEq,Int.toNat_natCast,Int.natCast_nonneg,List.not_mem_nil,retQ,resAll,resOne,resTup,AV.toDataR,wrap_succ,Int.ofNat_lt,Int.not_lt,obo1,obo2,obo3,core1,core2,core3]
   refine hK3 _ ?_
   try clear hK3 K3
   refine AWp.seqK fun K11 hK11=>?_
   refine AWp.regionC hok htab hnt ?_
   simp only[ARunC,CStep,isRoom,nilCmp,xval,callArgs,bne_self_eq_false,  pval,heff,ifcV,nilC,bopAll,bopX,cvtVal,bopVal,bopInt,lenVal,fieldsOf,ldCells,ldElem,fillCells,setCells,lookVal,mapGet,mapPut,boundOf,idxOk,lensOk,appOk,Value.cells,TK.agg,thenQ,inBlockQ,AS.put,AS.ev,startT,upd_eq,dstOk,gslot,condP,tabs,reduceIte,Nat.reduceLT,Nat.reduceEqDiff,Nat.reduceAdd,Nat.reduceLeDiff,Nat.reduceMul,Nat.reduceSub,List.getElem?_nil,List.length_nil,List.nil_append,List.append_nil,List.take_zero,List.map_nil,Option.map_none,Option.bind_none,reduceCtorEq,Int.toNat_natCast,Int.natCast_nonneg,List.not_mem_nil,retQ,resAll,resOne,resTup,AV.toDataR,wrap_succ,Int.ofNat_lt,Int.not_lt,obo1,obo2,obo3,core1,core2,core3,List.take_length]
   have hcall:=growW_callsI (hp:=[]) hn (by simp)
   rw[←hP] at hcall
   refine .inr ⟨_,hcall,?_⟩ 
   rintro r hp' ⟨rfl,rfl⟩
   refine ARunC.sound hok htab hnt _ _ ?_
   simp only[ARunC,CStep,isRoom,nilCmp,xval,callArgs,bne_self_eq_false,  pval,heff,ifcV,nilC,bopAll,bopX,cvtVal,bopVal,bopInt,lenVal,fieldsOf,ldCells,ldElem,fillCells,setCells,lookVal,mapGet,mapPut,boundOf,idxOk,lensOk,appOk,Value.cells,TK.agg,thenQ,inBlockQ,AS.put,AS.ev,startT,upd_eq,dstOk,gslot,condP,tabs,reduceIte,Nat.reduceLT,Nat.reduceEqDiff,Nat.reduceAdd,Nat.reduceLeDiff,Nat.reduceMul,Nat.reduceSub,List.getElem?_nil,List.length_nil,List.nil_append,List.append_nil,List.take_zero,List.map_nil,Option.map_none,Option.bind_none,reduceCtorEq,Int.toNat_natCast,Int.natCast_nonneg,List.not_mem_nil,retQ,resAll,resOne,resTup,AV.toDataR,wrap_succ,Int.ofNat_lt,Int.not_lt,obo1,obo2,obo3,core1,core2,core3]
   refine hK11 _ ?_
   try clear hK11 K11
   refine AWp.seqK fun K12 hK12=>?_
   refine AWp.seqK fun K13 hK13=>?_
   refine AWp.regionC hok htab hnt ?_
   simp only[ARunC,CStep,isRoom,nilCmp,xval,callArgs,bne_self_eq_false,  pval,heff,ifcV,nilC,bopAll,bopX,cvtVal,bopVal,bopInt,lenVal,fieldsOf,ldCells,ldElem,fillCells,setCells,lookVal,mapGet,mapPut,boundOf,idxOk,lensOk,appOk,Value.cells,TK.agg,thenQ,inBlockQ,AS.put,AS.ev,startT,upd_eq,dstOk,gslot,condP,tabs,reduceIte,Nat.reduceLT,Nat.reduceEqDiff,Nat.reduceAdd,Nat.reduceLeDiff,Nat.reduceMul,Nat.reduceSub,List.getElem?_nil,List.length_nil,List.nil_append,List.append_nil,List.take_zero,List.map_nil,Option.map_none,Option.bind_none,reduceCtorEq,Int.toNat_natCast,Int.natCast_nonneg,List.not_mem_nil,retQ,resAll,resOne,resTup,AV.toDataR,wrap_succ,Int.ofNat_lt,Int.not_lt,obo1,obo2,obo3,core1,core2,core3,wRows_lenI]
   refine hK13 _ ?_
   try clear hK13 K13
   refine AWp.block ?_
   refine AWp.loop (fun k:Nat=>k≤ll.length)
    (fun k=>⟨(upd (upd (upd (upd (fun _=>.top) 6 (.own 0 (ll.take k).flatten.length)) 25 (.sl (wRowsI ll))) 26 (.prim (.int .i64 (ll.length:Nat)))) 27 (.prim (.int .i64 (k:Nat)))),[.row 3 1 ((ll.take k).flatten.map nI)],()⟩)
    (fun k=>ll.length-k) 0 (Nat.zero_le _) ?_ ?_
   ·refine Weak.cut hok 1 (by omega) ?_ ?_ ?_ ?_
    ·repeat' (first|exact Sub.nil|refine Sub.upd ?_ ?_)
     all_goals rfl
    ·repeat' (first|exact ShutF.nil|refine ShutF.upd ?_ ?_)
     all_goals first|rfl|assumption|exact CapsOk.cl (by assumption) _
    ·rfl
    ·simp[AObj.closed,AV.closedC]
   ·intro k hk
    refine AWp.seqK fun K14 hK14=>?_
    refine AWp.regionC hok htab hnt ?_
    simp only[ARunC,CStep,isRoom,nilCmp,xval,callArgs,bne_self_eq_false,  pval,heff,ifcV,nilC,bopAll,bopX,cvtVal,bopVal,bopInt,lenVal,fieldsOf,ldCells,ldElem,fillCells,setCells,lookVal,mapGet,mapPut,boundOf,idxOk,lensOk,appOk,Value.cells,TK.agg,thenQ,inBlockQ,AS.put,AS.ev,startT,upd_eq,dstOk,gslot,condP,tabs,reduceIte,Nat.reduceLT,Nat.reduceEqDiff,Nat.reduceAdd,Nat.reduceLeDiff,Nat.reduceMul,Nat.reduceSub,List.getElem?_nil,List.length_nil,List.nil_append,List.append_nil,List.take_zero,List.map_nil,Option.map_none,Option.bind_none,reduceCtorEq,Int.toNat_natCast,Int.natCast_nonneg,List.not_mem_nil,retQ,resAll,resOne,resTup,AV.toDataR,wrap_succ,Int.ofNat_lt,Int.not_lt,obo1,obo2,obo3,core1,core2,core3]
    refine hK14 _ ?_
    try clear hK14 K14
    refine AWp.seqK fun K15 hK15=>?_
    refine AWp.condB (by simp only[AS.ev,upd_eq,Nat.reduceEqDiff,if_true,if_false,reduceIte,reduceCtorEq];rfl) (fun hc=>?_) (fun hc=>?_)
    all_goals (try simp only[decide_eq_true_eq,decide_eq_false_iff_not,Int.ofNat_lt,Int.not_lt,Nat.not_lt,bne_iff_ne,bne_eq_false_iff_eq,ne_eq,Bool.not_eq_true',Bool.not_eq_false',Bool.and_eq_true,Bool.or_eq_true,Bool.and_eq_false_iff,Bool.or_eq_false_iff,beq_iff_eq,beq_eq_false_iff_ne,Bool.not_eq_eq_eq_not,Bool.not_true,Bool.not_false] at hc)  
    ·refine AWp.skip ?_
     refine hK15 _ ?_
     try clear hK15 K15
     have hg:=wRows_getDI hc
     have hle:=wflat_take_leI ll (k+1)
     have hft:=wflat_takeI hc
     have hln:(ll.take (k+1)).flatten.length=(ll.take k).flatten.length+ll[k].length:=by rw[hft,List.length_append]
     refine AWp.seqK fun K16 hK16=>?_
     refine AWp.block ?_
     refine AWp.seqK fun K17 hK17=>?_
     refine AWp.regionC hok htab hnt ?_
     simp only[ARunC,CStep,isRoom,nilCmp,xval,callArgs,bne_self_eq_false,  pval,heff,ifcV,nilC,bopAll,bopX,cvtVal,bopVal,bopInt,lenVal,fieldsOf,ldCells,ldElem,fillCells,setCells,lookVal,mapGet,mapPut,boundOf,idxOk,lensOk,appOk,Value.cells,TK.agg,thenQ,inBlockQ,AS.put,AS.ev,startT,upd_eq,dstOk,gslot,condP,tabs,reduceIte,Nat.reduceLT,Nat.reduceEqDiff,Nat.reduceAdd,Nat.reduceLeDiff,Nat.reduceMul,Nat.reduceSub,List.getElem?_nil,List.length_nil,List.nil_append,List.append_nil,List.take_zero,List.map_nil,Option.map_none,Option.bind_none,reduceCtorEq,Int.toNat_natCast,Int.natCast_nonneg,List.not_mem_nil,retQ,resAll,resOne,resTup,AV.toDataR,wrap_succ,Int.ofNat_lt,Int.not_lt,obo1,obo2,obo3,core1,core2,core3,hg,wRows_lenI]
     refine⟨by omega,?_⟩ 
     refine hK17 _ ?_
     try clear hK17 K17
     refine AWp.regionC hok htab hnt ?_
     simp only[ARunC,CStep,isRoom,nilCmp,xval,callArgs,bne_self_eq_false,  pval,heff,ifcV,nilC,bopAll,bopX,cvtVal,bopVal,bopInt,lenVal,fieldsOf,ldCells,ldElem,fillCells,setCells,lookVal,mapGet,mapPut,boundOf,idxOk,lensOk,appOk,Value.cells,TK.agg,thenQ,inBlockQ,AS.put,AS.ev,startT,upd_eq,dstOk,gslot,condP,tabs,reduceIte,Nat.reduceLT,Nat.reduceEqDiff,Nat.reduceAdd,Nat.reduceLeDiff,Nat.reduceMul,Nat.reduceSub,List.getElem?_nil,List.length_nil,List.nil_append,List.append_nil,List.take_zero,List.map_nil,Option.map_none,Option.bind_none,reduceCtorEq,Int.toNat_natCast,Int.natCast_nonneg,List.not_mem_nil,retQ,resAll,resOne,resTup,AV.toDataR,wrap_succ,Int.ofNat_lt,Int.not_lt,obo1,obo2,obo3,core1,core2,core3]
     refine⟨⟨fun x hx=>wcells_memI hx,by simp only[maxLen];omega,by omega⟩,?_⟩
     refine hK16 _ ?_
     try clear hK16 K16
     have hw1:IntKind.i64.wrap ((k:Int)+1)=((k+1:Nat):Int):=wrap_succ (by omega)
     refine AWp.regionC hok htab hnt ?_
     simp only[ARunC,CStep,isRoom,nilCmp,xval,callArgs,bne_self_eq_false,  pval,heff,ifcV,nilC,bopAll,bopX,cvtVal,bopVal,bopInt,lenVal,fieldsOf,ldCells,ldElem,fillCells,setCells,lookVal,mapGet,mapPut,boundOf,idxOk,lensOk,appOk,Value.cells,TK.agg,thenQ,inBlockQ,AS.put,AS.ev,startT,upd_eq,dstOk,gslot,condP,tabs,reduceIte,Nat.reduceLT,Nat.reduceEqDiff,Nat.reduceAdd,Nat.reduceLeDiff,Nat.reduceMul,Nat.reduceSub,List.getElem?_nil,List.length_nil,List.nil_append,List.append_nil,List.take_zero,List.map_nil,Option.map_none,Option.bind_none,reduceCtorEq,Int.toNat_natCast,Int.natCast_nonneg,List.not_mem_nil,retQ,resAll,resOne,resTup,AV.toDataR,wrap_succ,Int.ofNat_lt,Int.not_lt,obo1,obo2,obo3,core1,core2,core3,hw1]
     refine⟨k+1,by omega,?_,by omega⟩
     rw[←hln]
     refine Weak.cut hok 1 (by omega) ?_ ?_ ?_ ?_
     ·repeat' (first|exact Sub.nil|refine Sub.upd ?_ ?_)
      all_goals rfl
     ·repeat' (first|exact ShutF.nil|refine ShutF.upd ?_ ?_)
      all_goals first|rfl|assumption|exact CapsOk.cl (by assumption) _
     ·rw[hft,List.map_append];rfl
     ·simp[AObj.closed,AV.closedC]
    ·obtain rfl:k=ll.length:=by omega
     refine AWp.exit ?_
     simp only[ARunC,CStep,isRoom,nilCmp,xval,callArgs,bne_self_eq_false,  pval,heff,ifcV,nilC,bopAll,bopX,cvtVal,bopVal,bopInt,lenVal,fieldsOf,ldCells,ldElem,fillCells,setCells,lookVal,mapGet,mapPut,boundOf,idxOk,lensOk,appOk,Value.cells,TK.agg,thenQ,inBlockQ,AS.put,AS.ev,startT,upd_eq,dstOk,gslot,condP,tabs,reduceIte,Nat.reduceLT,Nat.reduceEqDiff,Nat.reduceAdd,Nat.reduceLeDiff,Nat.reduceMul,Nat.reduceSub,List.getElem?_nil,List.length_nil,List.nil_append,List.append_nil,List.take_zero,List.map_nil,Option.map_none,Option.bind_none,reduceCtorEq,Int.toNat_natCast,Int.natCast_nonneg,List.not_mem_nil,retQ,resAll,resOne,resTup,AV.toDataR,wrap_succ,Int.ofNat_lt,Int.not_lt,obo1,obo2,obo3,core1,core2,core3]
     refine hK12 _ ?_
     try clear hK12 K12
     refine AWp.seqK fun K18 hK18=>?_
     refine AWp.regionC hok htab hnt ?_
     simp only[ARunC,CStep,isRoom,nilCmp,xval,callArgs,bne_self_eq_false,  pval,heff,ifcV,nilC,bopAll,bopX,cvtVal,bopVal,bopInt,lenVal,fieldsOf,ldCells,ldElem,fillCells,setCells,lookVal,mapGet,mapPut,boundOf,idxOk,lensOk,appOk,Value.cells,TK.agg,thenQ,inBlockQ,AS.put,AS.ev,startT,upd_eq,dstOk,gslot,condP,tabs,reduceIte,Nat.reduceLT,Nat.reduceEqDiff,Nat.reduceAdd,Nat.reduceLeDiff,Nat.reduceMul,Nat.reduceSub,List.getElem?_nil,List.length_nil,List.nil_append,List.append_nil,List.take_zero,List.map_nil,Option.map_none,Option.bind_none,reduceCtorEq,Int.toNat_natCast,Int.natCast_nonneg,List.not_mem_nil,retQ,resAll,resOne,resTup,AV.toDataR,wrap_succ,Int.ofNat_lt,Int.not_lt,obo1,obo2,obo3,core1,core2,core3]
     refine hK18 _ ?_
     try clear hK18 K18
     refine AWp.ret ?_
     simp only[ARunC,CStep,isRoom,nilCmp,xval,callArgs,bne_self_eq_false,  pval,heff,ifcV,nilC,bopAll,bopX,cvtVal,bopVal,bopInt,lenVal,fieldsOf,ldCells,ldElem,fillCells,setCells,lookVal,mapGet,mapPut,boundOf,idxOk,lensOk,appOk,Value.cells,TK.agg,thenQ,inBlockQ,AS.put,AS.ev,startT,upd_eq,dstOk,gslot,condP,tabs,reduceIte,Nat.reduceLT,Nat.reduceEqDiff,Nat.reduceAdd,Nat.reduceLeDiff,Nat.reduceMul,Nat.reduceSub,List.getElem?_nil,List.length_nil,List.nil_append,List.append_nil,List.take_zero,List.map_nil,Option.map_none,Option.bind_none,reduceCtorEq,Int.toNat_natCast,Int.natCast_nonneg,List.not_mem_nil,retQ,resAll,resOne,resTup,AV.toDataR,wrap_succ,Int.ofNat_lt,Int.not_lt,obo1,obo2,obo3,core1,core2,core3,Tryz.results60,List.take_length]
end Go.Proofs.YtjhanogfpkbamaaGreatDoor

namespace Go.Proofs.YtjhanogfpkbamaaGreatDoor
open Go
set_option linter.unusedSimpArgs false
set_option linter.unusedVariables false
def cmpI:List Int→List Int→Int
 | [],[]=>0
 | [],_::_ => -1
 |_::_,[]=>1
 |x::l,y::m=>if x<y then -1 else if x>y then 1 else cmpI l m
theorem cmpI_zero:∀l m:List Int,(cmpI l m==0)=likes l m
 | [],[]=>by rw[likes_eq];rfl
 | [],_::_=>by rw[likes_eq];rfl
 |_::_,[]=>by rw[likes_eq];rfl
 |x::l,y::m=>by
  have ih:=cmpI_zero l m
  rw[likes_eq] at ih ⊢
  rw[cmpI]
  split
  ·rw[decide_eq_false (fun e=>by cases e;omega)];rfl
  ·split
   ·rw[decide_eq_false (fun e=>by cases e;omega)];rfl
   ·have:x=y:=by omega
    subst this
    rw[ih]
    exact decide_eq_decide.2 ⟨fun e=>by rw[e],fun e=>by cases e;rfl⟩
theorem cmp_calls {l m:List Int} (hl:l.length≤1000000000) (hm:m.length≤1000000000):PureIs Tryz.prog 99 [.sl (encInts l),.sl (encInts m)] (nI (cmpI l m)):=by
 refine vc99_ok ?_
 refine LoopP.intro (fun k:Nat=>((encInts l,encInts m,(k:Int),()),())) (fun k=>(k≤l.length∧k≤m.length)∧cmpI l m=cmpI (l.drop k) (m.drop k)) (fun k=>l.length-k) 0 rfl ⟨⟨Nat.zero_le _,Nat.zero_le _⟩,rfl⟩ ?_
 intro k ⟨⟨hk,hk2⟩,hs⟩ again hag
 dsimp only
 unfold vc99_R3 vc99_R8
 rw[encInts_len,encInts_len]
 by_cases h1:k=l.length
 ·have c1:((k:Int)==((l.length:Nat):Int))=true:=by simp;omega
  rw[List.drop_eq_nil_of_le (by omega)] at hs
  refine ITE.pos c1 ?_
  by_cases h2:k=m.length
  ·rw[List.drop_eq_nil_of_le (by omega)] at hs
   exact ITE.pos (by simp;omega) (by rw[hs];rfl)
  ·refine ITE.neg (by simp;omega) (ITE.pos c1 ?_)
   rw[List.drop_eq_getElem_cons (by omega)] at hs
   rw[hs];rfl
 ·have c1:((k:Int)==((l.length:Nat):Int))=false:=by simp;omega
  refine ITE.neg c1 (ITE.neg c1 ?_)
  have hlt:k<l.length:=by omega
  by_cases h2:k=m.length
  ·rw[List.drop_eq_nil_of_le (show m.length≤k by omega),List.drop_eq_getElem_cons hlt] at hs
   exact ITE.pos (by simp;omega) (by rw[hs];rfl)
  ·have hlm:k<m.length:=by omega
   rw[List.drop_eq_getElem_cons hlt,List.drop_eq_getElem_cons hlm,cmpI] at hs
   refine ITE.neg (by simp;omega) ⟨by omega,by omega,_,encInts_getD hlt,by omega,by omega,_,encInts_getD hlm,ITE.intro (fun c=>?_) fun c=>⟨by omega,by omega,_,encInts_getD hlt,by omega,by omega,_,encInts_getD hlm,ITE.intro (fun c2=>?_) fun c2=>?_⟩⟩
   ·rw[hs,if_pos (of_decide_eq_true c)]
   ·rw[hs,if_neg (of_decide_eq_false c),if_pos (of_decide_eq_true c2)]
   ·rw[if_neg (of_decide_eq_false c),if_neg (of_decide_eq_false c2)] at hs
    rw[wrap_n (by omega)]
    exact hag (k+1) ⟨⟨hlt,hlm⟩,hs⟩ (by omega)
theorem xintsSame_calls {l m:List Int} (hl:l.length≤1000000000) (hm:m.length≤1000000000):PureIs Tryz.prog 55 [.sl (encInts l),.sl (encInts m)] (nB (likes l m)):=by
 rw[←cmpI_zero]
 exact vc55_ok ⟨_,cmp_calls hl hm,rfl⟩
theorem xspsSame_calls {l m:List (Int×Tm)} (hl:l.length≤1000000000) (hp:∀p∈l,p.2.size≤1000000):PureIs Tryz.prog 56 [.sl (l.map spEnc),.sl (m.map spEnc)] (nB (eqL spEq l m)):=by
 refine vc56_ok (ITE.intro (fun h=>?_) fun h=>?_)
 ·rw[eqL_len (by simp at h;omega)]
 ·have hlm:l.length=m.length:=by simp at h;omega
  refine LoopP.intro (fun k:Nat=>((l.map spEnc,m.map spEnc,(k:Int),()),())) (fun k=>k≤l.length∧eqL spEq l m=eqL spEq (l.drop k) (m.drop k)) (fun k=>l.length-k) 0 rfl ⟨Nat.zero_le _,rfl⟩ ?_
  intro k ⟨hk,hs⟩ again hag
  dsimp only
  unfold vc56_R4
  rw[List.length_map]
  refine ITE.intro (fun h=>?_) fun h=>?_
  ·have hlt:k<l.length:=by simpa using h
   rw[eqL_drop hlt (by omega)] at hs
   have hm':k<m.length:=by omega
   have g1:List.getD (l.map spEnc) (Int.toNat (k:Int)) .top=spEnc l[k]:=getD_map hlt
   have g2:List.getD (m.map spEnc) (Int.toNat (k:Int)) .top=spEnc m[k]:=getD_map hm'
   have hi:=tsame_calls _ l[k].2 m[k].2 (Nat.le_refl _) (by have:=hp l[k] (List.getElem_mem hlt);omega)
   rw[Tm.enc_eq,Tm.enc_eq] at hi
   refine⟨by omega,by omega,_,_,_,_,_,g1,by omega,by rw[List.length_map];omega,_,_,_,_,_,g2,ITE.intro (fun c=>?_) fun c=>⟨by omega,by omega,_,_,_,_,_,g1,by omega,by rw[List.length_map];omega,_,_,_,_,_,g2,_,hi,ITE.intro (fun c2=>?_) fun c2=>?_⟩⟩
   ·have:(l[k].1==m[k].1)=false:=by simpa using c
    rw[hs,spEq,this,Bool.false_and,Bool.false_and]
   ·have:Tm.same l[k].2 m[k].2=false:=by simpa using c2
    rw[hs,spEq,this,Bool.and_false,Bool.false_and]
   ·have e1:(l[k].1==m[k].1)=true:=by simpa using c
    have e2:Tm.same l[k].2 m[k].2=true:=by simpa using c2
    rw[spEq,e1,e2,Bool.true_and,Bool.true_and] at hs
    rw[wrap_n (by omega)]
    exact hag (k+1) ⟨by omega,hs⟩ (by omega)
  ·have:l.length≤k:=by simpa using h
   rw[List.drop_eq_nil_of_le this,List.drop_eq_nil_of_le (by omega)] at hs
   rw[hs];rfl
theorem xstsSame_calls {l m:List Stp} (hl:l.length≤1000000000) (hp:∀s∈l,s.Sz) (hq:∀s∈m,s.path.length≤1000000000):PureIs Tryz.prog 14 [.sl (l.map Stp.enc),.sl (m.map Stp.enc)] (nB (eqL stEq l m)):=by
 refine vc14_ok (ITE.intro (fun h=>?_) fun h=>?_)
 ·rw[eqL_len (by simp at h;omega)]
 ·have hlm:l.length=m.length:=by simp at h;omega
  refine LoopP.intro (fun k:Nat=>((l.map Stp.enc,m.map Stp.enc,(k:Int),()),())) (fun k=>k≤l.length∧eqL stEq l m=eqL stEq (l.drop k) (m.drop k)) (fun k=>l.length-k) 0 rfl ⟨Nat.zero_le _,rfl⟩ ?_
  intro k ⟨hk,hs⟩ again hag
  dsimp only
  unfold vc14_R4
  rw[List.length_map]
  refine ITE.intro (fun h=>?_) fun h=>?_
  ·have hlt:k<l.length:=by simpa using h
   rw[eqL_drop hlt (by omega)] at hs
   have hm':k<m.length:=by omega
   have hx:=hp l[k] (List.getElem_mem hlt)
   have g1:List.getD (l.map Stp.enc) (Int.toNat (k:Int)) .top=Stp.enc l[k]:=getD_map hlt
   have g2:List.getD (m.map Stp.enc) (Int.toNat (k:Int)) .top=Stp.enc m[k]:=getD_map hm'
   have h1:=xintsSame_calls (l:=l[k].path) (m:=m[k].path) hx.path (hq m[k] (List.getElem_mem hm'))
   have h2:=xspsSame_calls (l:=l[k].sub) (m:=m[k].sub) hx.sub hx.sizes
   have b2:k<(m.map Stp.enc).length:=by rw[List.length_map];omega
   refine⟨by omega,by omega,_,_,_,_,g1,by omega,by omega,_,_,_,_,g2,ITE.intro (fun c=>?_) fun c=>⟨by omega,by omega,_,_,_,_,g1,by omega,by omega,_,_,_,_,g2,ITE.intro (fun c2=>?_) fun c2=>
    ⟨by omega,by omega,_,_,_,_,g1,by omega,by omega,_,_,_,_,g2,_,h1,ITE.intro (fun c3=>?_) fun c3=>⟨by omega,by omega,_,_,_,_,g1,by omega,by omega,_,_,_,_,g2,_,h2,ITE.intro (fun c4=>?_) fun c4=>?_⟩⟩⟩⟩
   ·have:(l[k].eq==m[k].eq)=false:=by simpa using c
    rw[hs,stEq,this,Bool.false_and,Bool.false_and]
   ·have:(l[k].back==m[k].back)=false:=by simpa only[Bool.not_eq_true'] using c2
    rw[hs,stEq,this,Bool.false_and,Bool.and_false,Bool.false_and]
   ·have:likes l[k].path m[k].path=false:=by simpa only[Bool.not_eq_true'] using c3
    rw[hs,stEq,this,Bool.false_and,Bool.and_false,Bool.and_false,Bool.false_and]
   ·have:eqL spEq l[k].sub m[k].sub=false:=by simpa only[Bool.not_eq_true'] using c4
    rw[hs,stEq,this,Bool.and_false,Bool.and_false,Bool.and_false,Bool.false_and]
   ·have e1:(l[k].eq==m[k].eq)=true:=by simpa using c
    have e2:(l[k].back==m[k].back)=true:=by simpa only[Bool.not_eq_false'] using c2
    have e3:likes l[k].path m[k].path=true:=by simpa only[Bool.not_eq_false'] using c3
    have e4:eqL spEq l[k].sub m[k].sub=true:=by simpa only[Bool.not_eq_false'] using c4
    rw[stEq,e1,e2,e3,e4,Bool.true_and,Bool.true_and,Bool.true_and,Bool.true_and] at hs
    rw[wrap_n (by omega)]
    exact hag (k+1) ⟨by omega,hs⟩ (by omega)
  ·have:l.length≤k:=by simpa using h
   rw[List.drop_eq_nil_of_le this,List.drop_eq_nil_of_le (by omega)] at hs
   rw[hs];rfl
theorem xtysSame_calls {l m:List Ty} (hsz:Ty.sizes l≤1000000000):PureIs Tryz.prog 65 [.sl (l.map Ty.enc),.sl (m.map Ty.enc)] (nB (Ty.sames l m)):=by
 have hq:=Ty.sizes_len l
 refine vc65_ok (ITE.intro (fun h=>?_) fun h=>?_)
 ·rw[Ty.sames_len (by simp at h;omega)]
 ·have hlm:l.length=m.length:=by simp at h;omega
  refine LoopP.intro (fun k:Nat=>((l.map Ty.enc,m.map Ty.enc,(k:Int),()),())) (fun k=>k≤l.length∧Ty.sames l m=Ty.sames (l.drop k) (m.drop k)) (fun k=>l.length-k) 0 rfl ⟨Nat.zero_le _,rfl⟩ ?_
  intro k ⟨hk,hs⟩ again hag
  dsimp only
  unfold vc65_R4
  rw[List.length_map]
  refine ITE.intro (fun h=>?_) fun h=>?_
  ·have hlt:k<l.length:=by simpa using h
   have hm':k<m.length:=by omega
   rw[List.drop_eq_getElem_cons hlt,List.drop_eq_getElem_cons hm',Ty.sames] at hs
   have hi:=rsame_calls _ l[k] m[k] (Nat.le_refl _) (by have:=Ty.sizes_mem (List.getElem_mem hlt);omega)
   rw[Ty.enc_eq,Ty.enc_eq] at hi
   refine⟨by omega,by omega,_,_,Ty.enc_getD hlt,by omega,by rw[List.length_map];omega,_,_,Ty.enc_getD hm',_,hi,ITE.intro (fun c=>?_) fun c=>?_⟩
   ·have:Ty.same l[k] m[k]=false:=by simpa using c
    rw[hs,this,Bool.false_and]
   ·have:Ty.same l[k] m[k]=true:=by simpa using c
    rw[this,Bool.true_and] at hs
    rw[wrap_n (by omega)]
    exact hag (k+1) ⟨by omega,hs⟩ (by omega)
  ·have:l.length≤k:=by simpa using h
   rw[List.drop_eq_nil_of_le this,List.drop_eq_nil_of_le (by omega)] at hs
   rw[hs];rfl
theorem xpaSame_calls {l m:Lem} (h:l.Sz):PureIs Tryz.prog 22 [.agg (paC l),.agg (paC m)] (nB (paEq l m)):=by
 have h1:=tsame_calls _ l.left m.left (Nat.le_refl _) (by have:=h.left;omega)
 have h2:=tsame_calls _ l.right m.right (Nat.le_refl _) (by have:=h.right;omega)
 have h3:=xtysSame_calls (m:=m.metas) h.metas
 rw[Tm.enc_eq,Tm.enc_eq] at h1 h2
 refine vc22_ok ⟨_,h1,ITE.intro (fun c1=>⟨_,h2,ITE.intro (fun c2=>⟨_,h3,?_⟩) fun c2=>?_⟩) fun c1=>?_⟩
 ·rw[paEq,c1,c2,Bool.true_and,Bool.true_and]
 ·rw[paEq,c1,c2,Bool.true_and,Bool.false_and]
 ·rw[paEq,c1,Bool.false_and]
theorem xlesSame_calls {l m:List Lem} (hl:l.length≤1000000000) (hp:∀s∈l,s.Sz) (hq:∀s∈m,s.Sz):PureIs Tryz.prog 25 [.sl (l.map Lem.enc),.sl (m.map Lem.enc)] (nB (eqL leEq l m)):=by
 refine vc25_ok (ITE.intro (fun h=>?_) fun h=>?_)
 ·rw[eqL_len (by simp at h;omega)]
 ·have hlm:l.length=m.length:=by simp at h;omega
  refine LoopP.intro (fun k:Nat=>((l.map Lem.enc,m.map Lem.enc,(k:Int),()),())) (fun k=>k≤l.length∧eqL leEq l m=eqL leEq (l.drop k) (m.drop k)) (fun k=>l.length-k) 0 rfl ⟨Nat.zero_le _,rfl⟩ ?_
  intro k ⟨hk,hs⟩ again hag
  dsimp only
  unfold vc25_R4
  rw[List.length_map]
  refine ITE.intro (fun h=>?_) fun h=>?_
  ·have hlt:k<l.length:=by simpa using h
   rw[eqL_drop hlt (by omega)] at hs
   have hm':k<m.length:=by omega
   have hx:=hp l[k] (List.getElem_mem hlt)
   have hy:=hq m[k] (List.getElem_mem hm')
   have g1:List.getD (l.map Lem.enc) (Int.toNat (k:Int)) .top=Lem.enc l[k]:=getD_map hlt
   have g2:List.getD (m.map Lem.enc) (Int.toNat (k:Int)) .top=Lem.enc m[k]:=getD_map hm'
   have h1:=xpaSame_calls (l:=l[k]) (m:=m[k]) hx
   have h2:=xstsSame_calls (l:=l[k].steps) (m:=m[k].steps) hx.len hx.steps fun s hs=>(hy.steps s hs).path
   have b2:k<(m.map Lem.enc).length:=by rw[List.length_map];omega
   refine⟨by omega,by omega,_,_,_,_,_,_,_,_,_,_,g1,by omega,by omega,_,_,_,_,_,_,_,_,_,_,g2,_,h1,ITE.intro (fun c=>?_) fun c=>⟨by omega,by omega,_,_,_,_,_,_,_,_,_,_,g1,by omega,by omega,_,_,_,_,_,_,_,_,_,_,g2,_,h2,ITE.intro (fun c2=>?_) fun c2=>?_⟩⟩
   ·have:paEq l[k] m[k]=false:=by simpa only[Bool.not_eq_true'] using c
    rw[hs,leEq,this,Bool.false_and,Bool.false_and]
   ·have:eqL stEq l[k].steps m[k].steps=false:=by simpa only[Bool.not_eq_true'] using c2
    rw[hs,leEq,this,Bool.and_false,Bool.false_and]
   ·have e1:paEq l[k] m[k]=true:=by simpa only[Bool.not_eq_false'] using c
    have e2:eqL stEq l[k].steps m[k].steps=true:=by simpa only[Bool.not_eq_false'] using c2
    rw[leEq,e1,e2,Bool.true_and,Bool.true_and] at hs
    rw[wrap_n (by omega)]
    exact hag (k+1) ⟨by omega,hs⟩ (by omega)
  ·have:l.length≤k:=by simpa using h
   rw[List.drop_eq_nil_of_le this,List.drop_eq_nil_of_le (by omega)] at hs
   rw[hs];rfl
end Go.Proofs.YtjhanogfpkbamaaGreatDoor

namespace Go.Proofs.YtjhanogfpkbamaaGreatDoor
open Go
set_option linter.unusedSimpArgs false
set_option linter.unusedVariables false
mutual
theorem Tm.full_ok:∀(t:Tm),t.Full→t.Ok
 | .mk b k i a,h=>⟨h.2.1,h.2.2.1,Tm.fulls_ok a h.2.2.2⟩
theorem Tm.fulls_ok:∀(l:List Tm),Tm.Fulls l→Tm.Oks l
 | [],_=>True.intro
 |t::l,h=>⟨Tm.full_ok t h.1,Tm.fulls_ok l h.2⟩
end
structure Sts (l:List Stp):Prop where
 len:l.length≤8
 path:∀s∈l,s.path.length≤1000
 sub:∀s∈l,s.sub.length≤10
 sizes:∀s∈l,∀p∈s.sub,p.2.size≤150
 ok:∀s∈l,∀p∈s.sub,p.2.Ok
theorem Sts.sz {l:List Stp} (h:Sts l):∀s∈l,s.Sz:=fun s hs=>⟨Nat.le_trans (h.path s hs) (by decide),Nat.le_trans (h.sub s hs) (by decide),fun p hp=>Nat.le_trans (h.sizes s hs p hp) (by decide)⟩
def Stp.rev (s:Stp):Stp:=⟨s.eq,!s.back,s.path,s.sub⟩
def Stp.und (p:List Int) (s:Stp):Stp:=⟨s.eq,s.back,p++s.path,s.sub⟩
def revL (l:List Stp):List Stp:=l.reverse.map Stp.rev
theorem Sts.rev {l:List Stp} (h:Sts l):Sts (revL l):=by
 have hm:∀s∈revL l,∃t∈l,s=t.rev:=fun s hs=>by
  obtain⟨t,ht,rfl⟩:=List.mem_map.1 hs
  exact⟨t,List.mem_reverse.1 ht,rfl⟩
 refine⟨by rw[revL,List.length_map,List.length_reverse];exact h.len,fun s hs=>?_,fun s hs=>?_,fun s hs=>?_,fun s hs=>?_⟩
 ·obtain⟨t,ht,rfl⟩:=hm s hs;exact h.path t ht
 ·obtain⟨t,ht,rfl⟩:=hm s hs;exact h.sub t ht
 ·obtain⟨t,ht,rfl⟩:=hm s hs;exact h.sizes t ht
 ·obtain⟨t,ht,rfl⟩:=hm s hs;exact h.ok t ht
theorem Sts.und {l:List Stp} (h:Sts l) {p:List Int} (hp:p.length≤100) (hl:∀s∈l,s.path.length≤100):Sts (l.map (Stp.und p)):=by
 refine⟨by rw[List.length_map];exact h.len,fun s hs=>?_,fun s hs=>?_,fun s hs=>?_,fun s hs=>?_⟩
 ·obtain⟨t,ht,rfl⟩:=List.mem_map.1 hs
  have:=hl t ht
  show (p++t.path).length≤1000
  rw[List.length_append];omega
 ·obtain⟨t,ht,rfl⟩:=List.mem_map.1 hs;exact h.sub t ht
 ·obtain⟨t,ht,rfl⟩:=List.mem_map.1 hs;exact h.sizes t ht
 ·obtain⟨t,ht,rfl⟩:=List.mem_map.1 hs;exact h.ok t ht
theorem revL_revL (l:List Stp):revL (revL l)=l:=by
 rw[revL,revL,←List.map_reverse,List.reverse_reverse,List.map_map]
 have:(Stp.rev∘Stp.rev)=id:=by
  funext s
  show (⟨s.eq,!!s.back,s.path,s.sub⟩:Stp)=s
  rw[Bool.not_not]
 rw[this,List.map_id]
theorem stcopied_calls {s:Stp} (h:s.Sz) (hk:∀p∈s.sub,p.2.Ok):PureIs Tryz.prog 59 [s.enc] s.enc:=by
 have h1:=clone_calls (l:=s.path) h.path
 have hl:=h.sub
 refine vc59_ok ⟨_,h1,rfl,?_⟩
 refine LoopP.intro (fun k:Nat=>(((),(),s.sub.map spEnc,(s.sub.length:Int),(k:Int),()),((s.eq,s.back,encInts s.path,s.sub.map spEnc,()),(0,false,(),(),()),(s.eq,s.back,encInts s.path,(),()),(s.sub.take k).map spEnc,())))
  (fun k=>k≤s.sub.length) (fun k=>s.sub.length-k) 0 (by rw[List.length_map];rfl) (Nat.zero_le _) ?_
 intro k hk' again hag
 dsimp only
 unfold vc59_R3
 rw[List.length_map]
 refine ITE.intro (fun h'=>?_) fun h'=>?_
 ·have hlt:k<s.sub.length:=by simpa using h'
  have g:List.getD (s.sub.map spEnc) (Int.toNat (k:Int)) .top=spEnc s.sub[k]:=getD_map hlt
  have hi:=copy_calls (t:=s.sub[k].2) (by have:=h.sizes _ (List.getElem_mem hlt);omega) (hk _ (List.getElem_mem hlt))
  rw[Tm.enc_eq] at hi
  refine⟨by omega,by omega,_,_,_,_,_,g,_,_,_,_,hi,rfl,appOk_one rfl (by simp;omega) (by decide),rfl,?_⟩
  have e:(s.sub.take k).map spEnc++[spEnc s.sub[k]]=(s.sub.take (k+1)).map spEnc:=by rw[←take_snoc' hlt,List.map_append];rfl
  have:=hag (k+1) (by omega) (by omega)
  rw[←e] at this
  rw[wrap_n (by omega)]
  exact this
 ·have:s.sub.length≤k:=by simpa using h'
  exact⟨rfl,by rw[List.take_of_length_le this];rfl⟩
abbrev noS:Stp:=⟨0,false,[],[]⟩
def bwS (l:List Stp):Nat→List (Nat×Stp)
 |0=>[]
 |k+1=>(k,l.getD k noS)::bwS l k
theorem getD_st {l:List Stp} {k:Nat} (h:k<l.length):l.getD k noS=l[k]:=by simp[List.getD,h]
def stP (p:Nat×Stp):List AV:=[nI p.1,p.2.enc]
def stE (p:Nat×Stp):Int×(Int×Bool×List AV×List AV×Unit)×Unit:=(p.1,(p.2.eq,p.2.back,encInts p.2.path,p.2.sub.map spEnc,()),())
theorem bws_calls (l:List Stp):PureIs Tryz.prog 58 [.sl (l.map Stp.enc)] (.clo 100 [.eptr (.sl (l.map Stp.enc)) 0]):=vc58_ok rfl
theorem bws1_calls {l:List Stp} (h:l.length≤1000000000):YFn Tryz.prog 100 (fun v=>[v,.eptr (.sl (l.map Stp.enc)) 0]) ((bwS l l.length).map stP) false:=by
 refine vc100_ok fun yv more=>⟨rfl,?_⟩
 refine LoopP.intro (fun k:Nat=>(((yv,(),(k:Int)-1,()),()),some ((bwS l k).map stP++more))) (fun k=>k≤l.length) (fun k=>k) l.length (by rw[List.length_map,wrap_i (by omega) (by omega)]) (Nat.le_refl _) ?_
 intro k hk again hag
 dsimp only
 unfold vc100_R1
 rw[List.length_map]
 refine ITE.intro (fun h=>?_) fun h=>?_
 ·have h':(k:Int)-1≥0:=of_decide_eq_true h
  obtain⟨j,rfl⟩:∃j,k=j+1:=⟨k-1,by omega⟩
  have hlt:j<l.length:=by omega
  have e:((j+1:Nat):Int)-1=(j:Int):=by omega
  rw[e]
  have g:List.getD (l.map Stp.enc) (Int.toNat (j:Int)) .top=Stp.enc l[j]:=getD_map hlt
  refine⟨by omega,by omega,_,_,_,_,g,rfl,(bwS l j).map stP++more,by rw[bwS,getD_st hlt];rfl,fun b=>ITE.intro (fun h=>?_) fun h=>?_⟩
  ·have:b=false:=by simpa using h
   subst this
   exact⟨false,rfl⟩
  ·have:b=true:=by simpa using h
   subst this
   refine⟨rfl,?_⟩
   rw[wrap_i (n:=(j:Int)-1) (by omega) (by omega)]
   exact hag j (by omega) (by omega)
 ·have h':¬(k:Int)-1≥0:=of_decide_eq_false h
  have:k=0:=by omega
  subst this
  exact⟨true,rfl⟩
theorem bws_seq {l:List Stp} (h:l.length≤1000000000):SeqIs Tryz.prog 100 [.eptr (.sl (l.map Stp.enc)) 0] [.v (.c (.i .i64)),.v (.a [.i .i64,.b,.l,.l])] ((bwS l l.length).map stE):=
 seqIs_of (prm:=[.v (.c (.i .i64)),.v (.a [.i .i64,.b,.l,.l])]) stE (bws1_calls h)
theorem rev_snoc {l:List Stp} {k:Nat} (h:k<l.length):((l.drop (k+1)).reverse.map Stp.rev).map Stp.enc++[Stp.enc (Stp.rev l[k])]=((l.drop k).reverse.map Stp.rev).map Stp.enc:=by
 rw[List.drop_eq_getElem_cons h,List.reverse_cons,List.map_append,List.map_append];rfl
theorem rev_calls {l:List Stp} (h:Sts l):PureIs Tryz.prog 16 [.sl (l.map Stp.enc)] (.sl ((revL l).map Stp.enc)):=by
 have hn:=h.len
 refine vc16_ok ⟨bws_calls l,rfl,?_⟩
 refine RangeP.intro2 (fun k:Nat=>(((),()),((l.drop k).reverse.map Stp.rev).map Stp.enc,())) stE (bwS l l.length) (bws_seq (by omega))
  (fun rest k=>k≤l.length∧rest=bwS l k) l.length (by rw[List.drop_length];rfl) ⟨Nat.le_refl _,rfl⟩ (fun g rest k ⟨hk,he⟩ again hag=>?_) fun k ⟨hk,he⟩=>?_
 ·cases k with
  |zero=>cases he
  |succ k=>
   simp only[bwS,List.cons.injEq] at he
   obtain⟨rfl,rfl⟩:=he
   have hlt:k<l.length:=by omega
   rw[getD_st hlt]
   dsimp only[stE]
   have hi:=stcopied_calls (h.sz _ (List.getElem_mem hlt)) (h.ok _ (List.getElem_mem hlt))
   refine⟨_,_,_,_,hi,rfl,appOk_one rfl (by simp;omega) (by decide),rfl,?_⟩
   have:=hag k ⟨by omega,rfl⟩
   rw[←rev_snoc hlt] at this
   exact this
 ·cases k with
  |zero=>exact⟨rfl,rfl⟩
  |succ k=>cases he
theorem xrev_calls {l:List Stp} (h:Sts l):PureIs Tryz.prog 17 [.sl (l.map Stp.enc)] (.sl ((revL l).map Stp.enc)):=by
 have hn:=h.len
 refine vc17_ok ⟨rfl,?_⟩
 refine LoopP.intro (fun k:Nat=>((l.map Stp.enc,(),(k:Int)-1,()),(((l.drop k).reverse.map Stp.rev).map Stp.enc,()))) (fun k=>k≤l.length) (fun k=>k) l.length (by rw[List.length_map,wrap_i (by omega) (by omega),List.drop_length];rfl) (Nat.le_refl _) ?_
 intro k hk again hag
 dsimp only
 unfold vc17_R3
 rw[List.length_map]
 refine ITE.intro (fun h'=>?_) fun h'=>?_
 ·have h'':(k:Int)-1≥0:=of_decide_eq_true h'
  obtain⟨j,rfl⟩:∃j,k=j+1:=⟨k-1,by omega⟩
  have hlt:j<l.length:=by omega
  have e:((j+1:Nat):Int)-1=(j:Int):=by omega
  rw[e]
  have g:List.getD (l.map Stp.enc) (Int.toNat (j:Int)) .top=Stp.enc l[j]:=getD_map hlt
  refine⟨by omega,by omega,_,_,_,_,g,rfl,appOk_one rfl (by simp;omega) (by decide),rfl,?_⟩
  have:=hag j (by omega) (by omega)
  rw[←rev_snoc hlt] at this
  rw[wrap_i (n:=(j:Int)-1) (by omega) (by omega)]
  exact this
 ·have h'':¬(k:Int)-1≥0:=of_decide_eq_false h'
  have:k=0:=by omega
  subst this
  exact⟨rfl,rfl⟩
theorem under_calls {l:List Stp} (h:Sts l) {p:List Int} (hp:p.length≤1000):PureIs Tryz.prog 18 [.sl (l.map Stp.enc),.sl (encInts p)] (.sl ((l.map (Stp.und p)).map Stp.enc)):=by
 have hn:=h.len
 refine vc18_ok ⟨rfl,?_⟩
 refine LoopP.intro (fun k:Nat=>((encInts p,(),l.map Stp.enc,(l.length:Int),(k:Int),()),(((l.take k).map (Stp.und p)).map Stp.enc,()))) (fun k=>k≤l.length) (fun k=>l.length-k) 0 (by rw[List.length_map];rfl) (Nat.zero_le _) ?_
 intro k hk again hag
 dsimp only
 unfold vc18_R3
 rw[List.length_map]
 refine ITE.intro (fun h'=>?_) fun h'=>?_
 ·have hlt:k<l.length:=by simpa using h'
  have g:List.getD (l.map Stp.enc) (Int.toNat (k:Int)) .top=Stp.enc l[k]:=getD_map hlt
  have hi:=stcopied_calls (h.sz _ (List.getElem_mem hlt)) (h.ok _ (List.getElem_mem hlt))
  have hc:=concatW_callsI (ll:=[p,l[k].path]) (by simp) (by have:=h.path _ (List.getElem_mem hlt);simp;omega)
  have e2:[p,l[k].path].flatten=p++l[k].path:=by simp
  rw[e2] at hc
  refine⟨by omega,by omega,_,_,_,_,g,_,_,_,_,hi,_,hc,rfl,appOk_one rfl (by simp;omega) (by decide),rfl,?_⟩
  have e:((l.take k).map (Stp.und p)).map Stp.enc++[Stp.enc (Stp.und p l[k])]=((l.take (k+1)).map (Stp.und p)).map Stp.enc:=by rw[←take_snoc' hlt,List.map_append,List.map_append];rfl
  have:=hag (k+1) (by omega) (by omega)
  rw[←e] at this
  rw[wrap_n (by omega)]
  exact this
 ·have:l.length≤k:=by simpa using h'
  exact⟨rfl,by rw[List.take_of_length_le this]⟩
theorem xunder_calls {l:List Stp} (h:Sts l) {p:List Int} (hp:p.length≤1000):PureIs Tryz.prog 19 [.sl (l.map Stp.enc),.sl (encInts p)] (.sl ((l.map (Stp.und p)).map Stp.enc)):=by
 have hn:=h.len
 refine vc19_ok ⟨rfl,?_⟩
 refine LoopP.intro (fun k:Nat=>((l.map Stp.enc,encInts p,(),(k:Int),()),(((l.take k).map (Stp.und p)).map Stp.enc,()))) (fun k=>k≤l.length) (fun k=>l.length-k) 0 rfl (Nat.zero_le _) ?_
 intro k hk again hag
 dsimp only
 unfold vc19_R3
 rw[List.length_map]
 refine ITE.intro (fun h'=>?_) fun h'=>?_
 ·have hlt:k<l.length:=by simpa using h'
  have g:List.getD (l.map Stp.enc) (Int.toNat (k:Int)) .top=Stp.enc l[k]:=getD_map hlt
  have hq:=h.path _ (List.getElem_mem hlt)
  refine⟨by omega,by omega,_,_,_,_,g,fun _=>rfl,appOk_nil encInts_cells (by rw[List.nil_append,encInts_len];omega) (by decide),rfl,appOk_nil encInts_cells (by rw[List.nil_append,List.length_append,encInts_len,encInts_len];omega) (by decide),rfl,rfl,appOk_one rfl (by simp;omega) (by decide),rfl,?_⟩
  have e:((l.take k).map (Stp.und p)).map Stp.enc++[Stp.enc (Stp.und p l[k])]=((l.take (k+1)).map (Stp.und p)).map Stp.enc:=by rw[←take_snoc' hlt,List.map_append,List.map_append];rfl
  have e3:([]:List AV)++encInts p++encInts l[k].path=encInts (p++l[k].path):=by rw[List.nil_append];exact List.map_append.symm
  have:=hag (k+1) (by omega) (by omega)
  rw[←e] at this
  rw[wrap_n (by omega),e3]
  exact this
 ·have:l.length≤k:=by simpa using h'
  exact⟨rfl,by rw[List.take_of_length_le this]⟩
theorem rtys_calls {l:List Ty} (h:Ty.sizes l≤1000000):PureIs Tryz.prog 151 [.sl (l.map Ty.enc)] (.sl (l.map Ty.enc)):=by
 have:=arrow_calls (t:=.mk [] 0) (l:=l) (by simp only[Ty.size,Ty.sizes];omega)
 rw[Ty.arrow,Ty.enc_mk,Ty.enc_mk] at this
 have e:(l++(Ty.mk [] 0).args)=l:=List.append_nil l
 rw[e] at this
 exact vc151_ok ⟨_,_,this,rfl⟩
def Lem.swap (l:Lem):Lem:=⟨l.right,l.left,l.metas,l.steps⟩
structure Lem.PaOk (l:Lem):Prop where
 left:l.left.size≤1000000
 right:l.right.size≤1000000
 lok:l.left.Ok
 rok:l.right.Ok
 metas:Ty.sizes l.metas≤1000000
theorem rcopied_calls {l:Lem} (h:l.PaOk):PureIs Tryz.prog 141 [.agg (paC l)] (.agg (paC l)):=by
 have a:=copy_calls (t:=l.left) (by have:=h.left;omega) h.lok
 have b:=copy_calls (t:=l.right) (by have:=h.right;omega) h.rok
 rw[Tm.enc_eq] at a b
 exact vc141_ok ⟨_,_,_,_,a,_,_,_,_,b,_,rtys_calls h.metas,rfl⟩
theorem rswap_calls {l:Lem} (h:l.PaOk):PureIs Tryz.prog 106 [.agg (paC l)] (.agg (paC l.swap)):=
 vc106_ok ⟨_,_,_,_,_,_,_,_,_,rcopied_calls (l:=l.swap) ⟨h.right,h.left,h.rok,h.lok,h.metas⟩,rfl⟩
theorem pair_calls {l:Lem} (h:l.PaOk):PureIs Tryz.prog 63 [.agg (paC l)] (.agg (paC l)):=
 vc63_ok ⟨_,_,_,_,_,_,_,_,_,rswap_calls h,_,_,_,_,_,_,_,_,_,rswap_calls (l:=l.swap) ⟨h.right,h.left,h.rok,h.lok,h.metas⟩,rfl⟩
theorem goal_nil:PureIs Tryz.prog 21 [.agg [.sl []]] (.tup [.agg [.sl [],nI 0,nI 0,.sl [],.sl [],nI 0,nI 0,.sl [],.sl []],nB false]):=
 vc21_ok (ITE.pos rfl rfl)
theorem goal_calls {ls:List Lem} {k:Nat} (h:k<ls.length) (hk:ls.length=k+1) (hp:ls[k].PaOk) (hb:ls.length≤1000000):PureIs Tryz.prog 21 [.agg [.sl (ls.map Lem.enc)]] (.tup [.agg (paC ls[k]),nB true]):=by
 have e:IntKind.wrap .i64 (((List.length (ls.map Lem.enc):Nat):Int)-1)=(k:Int):=by
  rw[List.length_map,hk,show ((k+1:Nat):Int)-1=(k:Int) by omega,wrap_i (by omega) (by omega)]
 have g:List.getD (ls.map Lem.enc) (Int.toNat (k:Int)) .top=Lem.enc ls[k]:=getD_map h
 refine vc21_ok (ITE.neg (by rw[List.length_map,hk];exact beq_eq_false_iff_ne.2 (by omega)) ?_)
 refine⟨by rw[e];omega,by rw[e,List.length_map];omega,_,_,_,_,_,_,_,_,_,_,by rw[e];exact g,_,_,_,_,_,_,_,_,_,pair_calls hp,rfl⟩
def stepsN (ls:List Lem):Nat:=sumB (fun l=>l.steps.length) ls
theorem sumB_snoc {α:Type} {f:α→Nat} {l:List α} {k:Nat} (h:k<l.length):sumB f (l.take (k+1))=sumB f (l.take k)+f l[k]:=by
 rw[←take_snoc' h,sumB_app,sumB,sumB];omega
theorem stepsN_le {ls:List Lem} {k:Nat} (hl:ls.length≤6) (h:∀l∈ls,l.steps.length≤8):stepsN (ls.take k)≤48:=by
 have:=sumB_bd (f:=fun l:Lem=>l.steps.length) (c:=8) (l:=ls.take k) fun x hx=>h x (List.mem_of_mem_take hx)
 have h2:(ls.take k).length≤6:=by rw[List.length_take];omega
 have h3:(ls.take k).length*8≤6*8:=Nat.mul_le_mul_right _ h2
 unfold stepsN;omega
theorem size_calls {ls:List Lem} (hl:ls.length≤6) (h:∀l∈ls,l.steps.length≤8):PureIs Tryz.prog 24 [.agg [.sl (ls.map Lem.enc)]] (nI (stepsN ls:Nat)):=by
 refine vc24_ok ?_
 refine LoopP.intro (fun k:Nat=>(((stepsN (ls.take k):Nat),ls.map Lem.enc,(ls.length:Int),(k:Int),()),((ls.map Lem.enc,()),()))) (fun k=>k≤ls.length) (fun k=>ls.length-k) 0 (by rw[List.length_map];rfl) (Nat.zero_le _) ?_
 intro k hk again hag
 dsimp only
 unfold vc24_R3
 rw[List.length_map]
 refine ITE.intro (fun h'=>?_) fun h'=>?_
 ·have hlt:k<ls.length:=by simpa using h'
  have g:List.getD (ls.map Lem.enc) (Int.toNat (k:Int)) .top=Lem.enc ls[k]:=getD_map hlt
  refine⟨by omega,by omega,_,_,_,_,_,_,_,_,_,_,g,?_⟩
  have e:stepsN (ls.take (k+1))=stepsN (ls.take k)+ls[k].steps.length:=sumB_snoc hlt
  have h1:=stepsN_le (k:=k+1) hl h
  have:=hag (k+1) (by omega) (by omega)
  rw[List.length_map,show ((stepsN (ls.take k):Nat):Int)+((ls[k].steps.length:Nat):Int)=((stepsN (ls.take (k+1)):Nat):Int) by omega,wrap_i (by omega) (by omega),wrap_n (by omega)]
  exact this
 ·have:ls.length≤k:=by simpa using h'
  rw[List.take_of_length_le this]
end Go.Proofs.YtjhanogfpkbamaaGreatDoor

namespace Go.Proofs.YtjhanogfpkbamaaGreatDoor
open Go
set_option linter.unusedSimpArgs false
set_option linter.unusedVariables false
theorem Lem.Cut.sts {l:Lem} (h:l.Cut) (ho:l.Ok):Sts l.steps:=
 ⟨h.sl,fun s hs=>Nat.le_trans (h.sub hs).2 (by decide),h.subs,fun s hs=>(h.sub hs).1,fun s hs p hp=>Tm.full_ok _ ((ho.steps s hs).sub p hp).term⟩
theorem Lem.Cut.pa {l:Lem} (h:l.Cut) (ho:l.Ok):l.PaOk:=
 ⟨ho.lsize,ho.rsize,Tm.full_ok _ ho.left,Tm.full_ok _ ho.right,Nat.le_trans h.few.tys (by decide)⟩
theorem path_cut (p:List Int):List.drop (Int.toNat 0) (List.take (Int.toNat (if 100<((List.length (encInts p):Nat):Int) then 100 else((List.length (encInts p):Nat):Int))) (encInts p))=encInts (p.take 100):=by
 rw[encInts_len]
 show List.take _ (p.map nI)=(p.take 100).map nI
 split
 ·rw[List.map_take];rfl
 ·rw[List.map_take]
  rw[List.take_of_length_le (by rw[List.length_map];omega),List.take_of_length_le (by rw[List.length_map];omega)]
theorem ProofParts_calls {a b:List Lem} (ha:∀l∈a,l.Num) (hb:∀l∈b,l.Num) (p:List Int):PureIs Tryz.prog 4 [.sl (a.map Lem.enc),.sl (b.map Lem.enc),.sl (encInts p)] (nB true):=by
 refine vc4_ok ⟨_,lesFew_calls,ITE.intro (fun c=>⟨_,known26_calls,rfl⟩) fun c=>⟨_,lesFew_calls,?_⟩⟩
 unfold vc4_R2
 refine ITE.intro (fun d=>⟨_,known26_calls,rfl⟩) fun d=>?_
 have hallA:(a.take 6).all leFew=true:=by simpa only[Bool.not_eq_false'] using c
 have hallB:(b.take 6).all leFew=true:=by simpa only[Bool.not_eq_false'] using d
 have hfA:∀x∈a.take 6,x.Few:=fun x hx=>leFew_few (List.all_eq_true.1 hallA x hx)
 have hfB:∀x∈b.take 6,x.Few:=fun x hx=>leFew_few (List.all_eq_true.1 hallB x hx)
 have hcA:=cutL_cut hfA
 have hcB:=cutL_cut hfB
 have hoA:∀l∈cutL a,l.Ok:=fun l hl=>by
  obtain⟨l0,h0,rfl⟩:=List.mem_map.1 hl
  exact(ha l0 (List.mem_of_mem_take h0)).cut (hfA l0 h0)
 have hlA:=cutL_len a
 have hlB:=cutL_len b
 have htA:=lesTo_calls hfA
 have htB:=lesTo_calls hfB
 generalize cutL a=A at hcA hoA hlA htA
 generalize cutL b=B at hcB hlB htB
 have hofA:=lesOf_calls hlA hcA
 have hofB:=lesOf_calls hlB hcB
 have hsz:=size_calls hlA fun l hl=>(hcA l hl).sl
 have hszA:∀l∈A,l.Sz:=fun l hl=>(hcA l hl).sz
 have hszB:∀l∈B,l.Sz:=fun l hl=>(hcB l hl).sz
 have heq:=certEq_calls (l:=A) (m:=B) (by omega) hszA
 have hxe:=xlesSame_calls (l:=A) (m:=B) (by omega) hszA hszB
 have hself:=xlesSame_calls (l:=A) (m:=A) (by omega) hszA hszA
 rw[eqL_self leEq_self] at hself
 refine⟨⟨by omega,by split<;>omega,by split<;>omega,encInts_cells⟩,_,htA,_,htB,_,hofA,_,hofB,?_⟩
 rw[path_cut]
 have hq:(p.take 100).length≤100:=by rw[List.length_take];omega
 generalize p.take 100=q at hq
 refine LoopP.intro (fun k:Nat=>((encInts q,(),(),A.map Lem.enc,B.map Lem.enc,((stepsN (A.take k):Nat):Int),(k:Int),()),((A.map Lem.enc,()),(B.map Lem.enc,()),()))) (fun k=>k≤A.length) (fun k=>A.length-k) 0 rfl (Nat.zero_le _) ?_
 intro k hk again hag
 dsimp only
 unfold vc4_R8
 rw[List.length_map]
 refine ITE.intro (fun h'=>?_) fun h'=>?_
 ·have hlt:k<A.length:=by simpa using h'
  have hm:=List.getElem_mem hlt
  have g:List.getD (A.map Lem.enc) (Int.toNat (k:Int)) .top=Lem.enc A[k]:=getD_map hlt
  have hS:=(hcA _ hm).sts (hoA _ hm)
  have hU:=hS.und (p:=q) hq fun s hs=>((hcA _ hm).sub hs).2
  have hlen8:=hS.len
  have o1:=stsOf_calls (l:=revL A[k].steps) (by have:=hS.rev.len;omega) fun s hs=>⟨by have:=hS.rev.sub s hs;omega,fun p hp=>by have:=hS.rev.sizes s hs p hp;omega⟩
  have o2:=stsOf_calls (l:=A[k].steps.map (Stp.und q)) (by have:=hU.len;omega) fun s hs=>⟨by have:=hU.sub s hs;omega,fun p hp=>by have:=hU.sizes s hs p hp;omega⟩
  have s1:=xstsSame_calls (l:=revL A[k].steps) (m:=revL A[k].steps) (by have:=hS.rev.len;omega) hS.rev.sz fun s hs=>(hS.rev.sz s hs).path
  have s2:=xstsSame_calls (l:=A[k].steps.map (Stp.und q)) (m:=A[k].steps.map (Stp.und q)) (by have:=hU.len;omega) hU.sz fun s hs=>(hU.sz s hs).path
  have s3:=stsEq_calls (l:=revL (revL A[k].steps)) (m:=A[k].steps) (by have:=hS.rev.rev.len;omega) hS.rev.rev.sz
  have r3:=rev_calls hS.rev
  rw[revL_revL] at s3 r3
  rw[eqL_self stEq_self] at s1 s2 s3
  refine⟨by omega,by omega,_,_,_,_,_,_,_,_,_,_,g,by omega,by omega,_,_,_,_,_,_,_,_,_,_,g,_,rev_calls hS,_,o1,_,xrev_calls hS,_,s1,ITE.neg rfl ⟨_,under_calls hS (by omega),_,o2,_,xunder_calls hS (by omega),_,s2,ITE.neg rfl ⟨_,rev_calls hS,_,r3,_,s3,ITE.neg rfl ?_⟩⟩⟩
  have e:stepsN (A.take (k+1))=stepsN (A.take k)+A[k].steps.length:=sumB_snoc hlt
  have h1:=stepsN_le (k:=k+1) hlA fun l hl=>(hcA l hl).sl
  have:=hag (k+1) (by omega) (by omega)
  rw[List.length_map,show ((stepsN (A.take k):Nat):Int)+((A[k].steps.length:Nat):Int)=((stepsN (A.take (k+1)):Nat):Int) by omega,wrap_i (by omega) (by omega),wrap_n (by omega)]
  exact this
 ·have hge:A.length≤k:=by simpa using h'
  have hN:((stepsN A:Nat):Int)==((stepsN (A.take k):Nat):Int):=by rw[List.take_of_length_le hge];exact beq_self_eq_true _
  clear hag
  cases hn:A.length with
  |zero=>
   obtain rfl:=List.eq_nil_of_length_eq_zero hn
   exact⟨_,_,_,_,_,_,_,_,_,_,goal_nil,ITE.neg rfl (ITE.neg rfl ⟨_,known26_calls,ITE.pos rfl ⟨_,hsz,ITE.pos hN ⟨_,heq,_,hxe,ITE.pos (beq_self_eq_true _) ⟨_,hofA,_,hself,rfl⟩⟩⟩⟩)⟩
  |succ j=>
   have hlt:j<A.length:=by omega
   have hm:=List.getElem_mem hlt
   have hpa:=(hcA _ hm).pa (hoA _ hm)
   have hg:=goal_calls hlt hn hpa (by omega)
   have po:=paOf_calls (l:=A[j]) hpa.left hpa.right (by have:=hpa.metas;omega)
   have ps:=xpaSame_calls (l:=A[j]) (m:=A[j]) (hszA _ hm)
   have es:paEq A[j] A[j]=true:=by rw[paEq,Tm.same_self,Tm.same_self,(Ty.sames_iff _ _).2 rfl];rfl
   rw[es] at ps
   have g:List.getD (A.map Lem.enc) (Int.toNat (j:Int)) .top=Lem.enc A[j]:=getD_map hlt
   have ew:IntKind.wrap .i64 (((j+1:Nat):Int)-1)=(j:Int):=by
    rw[show ((j+1:Nat):Int)-1=(j:Int) by omega,wrap_i (by omega) (by omega)]
   refine⟨_,_,_,_,_,_,_,_,_,_,hg,ITE.neg (by rw[decide_eq_true (by omega)];rfl) (ITE.pos rfl ⟨_,_,_,_,_,_,_,_,_,po,by rw[ew];omega,by rw[ew];omega,_,_,_,_,_,_,_,_,_,_,by rw[ew];exact g,_,ps,ITE.neg rfl ⟨_,known26_calls,ITE.pos rfl ⟨_,hsz,ITE.pos hN ⟨_,heq,_,hxe,ITE.pos (beq_self_eq_true _) ⟨_,hofA,_,hself,rfl⟩⟩⟩⟩⟩)⟩
end Go.Proofs.YtjhanogfpkbamaaGreatDoor
